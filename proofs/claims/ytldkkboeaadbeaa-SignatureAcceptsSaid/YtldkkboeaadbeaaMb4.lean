/- Pr6 -/
import Derived.Test.YtldkkboeaadbeaaMa2
import Derived.Test.YtldkkboeaadbeaaMb1
import Derived.Test.YtldkkboeaadbeaaMb2
import Derived.Test.YtldkkboeaadbeaaMb3
section
-- By a program of this session.
namespace Go.Proofs.Ytldkkboeaadbeaa.Pr
open Go.RowKit Go.Proofs.YtldkkboeaadbeaaW.PrintWords Go.Proofs.YtldkkboeaadbeaaW.PrintLast Go.Proofs.YtldkkboeaadbeaaW.PrintMore
attribute [local go_sem] max2_int min2_int max_two min_two max_three min_three max_four min_four   -- for this text's walks alone
set_option linter.unusedVariables false
set_option linter.unusedSimpArgs false

/-! ### codec_Reader_Texts: function 28, by hand -/
theorem codec_Reader_scan.same_l : ∀ k, (∀ y0 y1 y2 y3 y4 y5 r, codec_Reader_scan.l0 k y0 y1 y2 y3 y4 y5 = some r → r.2.2.2 = (y3, y4, y5)) ∧ (∀ y0 y1 y2 y3 y4 y5 y6 r, codec_Reader_scan.j1 k y0 y1 y2 y3 y4 y5 y6 = some r → r.2.2.2 = (y4, y5, y6)) ∧ (∀ y0 y1 y2 y3 y4 y5 y6 y7 r, codec_Reader_scan.j2 k y0 y1 y2 y3 y4 y5 y6 y7 = some r → r.2.2.2 = (y5, y6, y7))
  | 0 => ⟨fun _ _ _ _ _ _ r h => by simp [codec_Reader_scan.l0] at h, fun _ _ _ _ _ _ _ r h => by simp [codec_Reader_scan.j1] at h, fun _ _ _ _ _ _ _ _ r h => by simp [codec_Reader_scan.j2] at h⟩
  | k + 1 => by
    obtain ⟨ih0, ih1, ih2⟩ := codec_Reader_scan.same_l k
    refine ⟨?_, ?_, ?_⟩
    · intro y0 y1 y2 y3 y4 y5 r h
      simp only [codec_Reader_scan.l0] at h
      split at h <;> exact ih1 _ _ _ _ _ _ _ _ h
    · intro y0 y1 y2 y3 y4 y5 y6 r h
      simp only [codec_Reader_scan.j1] at h
      repeat' (split at h)
      all_goals first | exact ih2 _ _ _ _ _ _ _ _ _ h | (cases h; done) | (cases h; rfl)
    · intro y0 y1 y2 y3 y4 y5 y6 y7 r h
      simp only [codec_Reader_scan.j2] at h
      repeat' (split at h)
      all_goals first | exact ih0 _ _ _ _ _ _ _ h | (cases h; done) | (cases h; rfl)
theorem codec_Reader_scan.same {k : Nat} {s0_0 : ByteArray} {s0_1 s0_2 a1 : Int} {r : Int × Int × Bool × ByteArray × Int × Int} (h : codec_Reader_scan.f k s0_0 s0_1 s0_2 a1 = some r) : r.2.2.2 = (s0_0, s0_1, s0_2) := (codec_Reader_scan.same_l k).1 _ _ _ _ _ _ _ h
theorem codec_Reader_size.same {k : Nat} {s0_0 : ByteArray} {s0_1 s0_2 a1 : Int} {r : Int × Int × Bool × ByteArray × Int × Int} (h : codec_Reader_size.f k s0_0 s0_1 s0_2 a1 = some r) : r.2.2.2 = (s0_0, s0_1, s0_2) := by
  obtain ⟨b, h1, h2⟩ := Option.bind_eq_some_iff.mp h
  have := codec_Reader_scan.same h1
  split at h2 <;> (cases h2; exact this)
theorem codec_Reader_text.same {k : Nat} {s0_0 : ByteArray} {s0_1 s0_2 a1 : Int} {r : ByteArray × Int × Bool × ByteArray × Int × Int} (h : codec_Reader_text.f k s0_0 s0_1 s0_2 a1 = some r) : r.2.2.2 = (s0_0, s0_1, s0_2) := by
  obtain ⟨b, h1, h2⟩ := Option.bind_eq_some_iff.mp h
  have := codec_Reader_size.same h1
  repeat' (split at h2)
  all_goals first | (cases h2; done) | (cases h2; exact this)
def codec_Reader_Texts.l0 (k : Nat) (s0_0 : ByteArray) (s0_1 s0_2 : Int) : Nat → Int → List ByteArray → Option (List ByteArray × Int × Bool)
  | 0, at_, l => some (l, at_, true)
  | n + 1, at_, l => (codec_Reader_text.f k s0_0 s0_1 s0_2 at_).bind fun b => if b.2.2.1 = true then codec_Reader_Texts.l0 k s0_0 s0_1 s0_2 n b.2.1 (l ++ [b.1]) else some ([], 0, false)
def codec_Reader_Texts.c (k : Nat) (s0_0 : ByteArray) (s0_1 : Int) (s0_2 : Int) (a1 : Int) : Option (List ByteArray × Int × Bool) :=
  (codec_Reader_size.f k s0_0 s0_1 s0_2 a1).bind fun b => if b.2.2.1 = true then (if b.1 ≤ wrap64 ((s0_0.size : Int) - b.2.1) then (if 0 ≤ b.1 ∧ b.1 ≤ 8796093022208 then codec_Reader_Texts.l0 k s0_0 s0_1 s0_2 b.1.toNat b.2.1 [] else none) else some ([], 0, false)) else some ([], 0, false)
def codec_Reader_Texts.f (k : Nat) (s0_0 : ByteArray) (s0_1 : Int) (s0_2 : Int) : Option (List ByteArray × ByteArray × Int × Int) :=
  if s0_2 = 0 then (codec_Reader_Texts.c k s0_0 s0_1 s0_2 s0_1).bind fun b => if b.2.2 = true then some (b.1, s0_0, b.2.1, s0_2) else some ([], s0_0, s0_1, 9) else some ([], s0_0, s0_1, s0_2)
theorem codec_Reader_Texts.mono_l (k : Nat) (y0 : ByteArray) (y1 y2 : Int) : ∀ n y3 y4, LeO (codec_Reader_Texts.l0 k y0 y1 y2 n y3 y4) (codec_Reader_Texts.l0 (k + 1) y0 y1 y2 n y3 y4)
  | 0, _, _ => LeO.refl _
  | n + 1, _, _ => LeO.bind (codec_Reader_text.mono _ _ _ _ _) (fun _ => LeO.ite (codec_Reader_Texts.mono_l k y0 y1 y2 n _ _) (LeO.refl _))
theorem codec_Reader_Texts.mono : ∀ a0 a1 a2 k, LeO (codec_Reader_Texts.f k a0 a1 a2) (codec_Reader_Texts.f (k + 1) a0 a1 a2) := by
  intro a0 a1 a2 k
  unfold codec_Reader_Texts.f codec_Reader_Texts.c
  repeat' first
      | (with_reducible exact codec_Reader_size.mono _ _ _ _ _)
      | (with_reducible exact codec_Reader_Texts.mono_l _ _ _ _ _ _ _)
      | (with_reducible exact LeO.refl _)
      | (with_reducible exact LeO.none _)
      | (with_reducible refine LeO.ite ?_ ?_)
      | (with_reducible refine LeO.bind ?_ (fun _ => ?_))
theorem codec_Reader_Texts.fn (k g b : Nat) (s0_0 : ByteArray) (s0_1 s0_2 a1 : Int) (r1 : List ByteArray) (r2 : Int) (r3 : Bool) (w0 w : World) (hI : IsS89 w0 w g s0_0 s0_1 s0_2) (hB : Below w0.heap.size w0 w) (hbox : w.cell? ⟨b, 0, none⟩ = some (.pointer (some ⟨g, 0, none⟩))) (hne : b ≠ g)
    (h : codec_Reader_Texts.c k s0_0 s0_1 s0_2 a1 = some (r1, r2, r3)) :
    Calls Try.prog 58 #[.int .i64 a1, .pointer (some ⟨b, 0, none⟩)] w fun e w' => ∃ v0_ : Value,
      e = .returned (.tuple #[v0_, .int .i64 r2, .bool r3]) ∧ Kd.R Kd.string 9 w' w.heap.size (fun k_ => k_ ≠ g) v0_ r1 ∧ IsS89 w0 w' g s0_0 s0_1 s0_2 ∧ Below w0.heap.size w0 w' ∧ KeepBut w w' g none := by
  obtain ⟨⟨n, nx, ok, q0, q1, q2⟩, h1, h2⟩ := Option.bind_eq_some_iff.mp h
  have hq := codec_Reader_size.same h1
  simp only [Prod.mk.injEq] at hq
  obtain ⟨rfl, rfl, rfl⟩ := hq
  have hblt : b < w.heap.size := World.block_lt_of_cell? w ⟨b, 0, none⟩ hbox
  have hglt := hI.lt
  have HI := Aside0.mk hI
  have h1 := Aside0.mk h1
  clear h hI
  cases ok
  · cases h2
    go_enter Try.func58, Try.ntmps58
    go_wp2_with (go_at_call 52; refine (codec_Reader_size.calls _ _ _ _ _ _ _ _ _ _ _ _ w0 _ HI.out hB h1.out).mono ?_; rintro e w1 ⟨rfl, hI1, hB1, hK1⟩)
    go_ret3
    exact ⟨_, rfl, Kd.R_nil _ _ _ _ _, hI1, hB1, hK1⟩
  · simp only [if_true] at h2
    by_cases hle : n ≤ wrap64 ((q0.size : Int) - nx)
    · rw [if_pos hle] at h2
      have hd : decide (wrap64 ((q0.size : Int) - nx) < n) = false := decide_eq_false (by omega)
      clear hle
      by_cases hn : 0 ≤ n ∧ n ≤ 8796093022208
      · rw [if_pos hn] at h2
        obtain ⟨hn0, hn1⟩ := hn
        obtain ⟨m, rfl⟩ := Int.eq_ofNat_of_zero_le hn0
        rw [Int.toNat_natCast] at h2
        have HF := Aside0.mk h2
        clear h2
        obtain ⟨i0, hi, hz0, hz1, hz2⟩ := info_parts infoStr_
        have hmk := fun W => run_make_rowN_ (P := Try.prog) 22 9 i0 (.string ⟨#[]⟩) Try.underlying22 hi hz0 .i64 .i64 m m (Nat.le_refl _) (by rw [hz2]; omega) (by omega) W
        rw [hz1] at hmk
        go_enter Try.func58, Try.ntmps58
        go_wp2_with (go_at_call 52; refine (codec_Reader_size.calls _ _ _ _ _ _ _ _ _ _ _ _ w0 _ HI.out hB h1.out).mono ?_; rintro e w1 ⟨rfl, hI1, hB1, hK1⟩; have hbx : w1.cell? ⟨b, 0, none⟩ = some (.pointer (some ⟨g, 0, none⟩)) := keep_cell hK1 hblt hne hbox; have hs1 := cellS89_0 hI1.1)
        go_wp2_with fail
        have hR0 := R_made_string w1 w.heap.size m (fun k_ => k_ ≠ g) hK1.1 (by omega) (by have := hI1.lt; omega)
        have HX := Aside0.mk (show ∃ acc : List ByteArray, acc.length = 0 ∧ codec_Reader_Texts.l0 k q0 q1 q2 (m - 0) nx acc = some (r1, r2, r3) ∧ Kd.string.R 9 (w1.alloc (.cells (madeCells #[.string ⟨#[]⟩] m) 9)) w.heap.size (fun k_ => k_ ≠ g) (.slice (some ⟨w1.heap.size, 0, none⟩) m m) (acc ++ List.replicate (m - 0) ⟨#[]⟩) ∧ IsS89 w0 (w1.alloc (.cells (madeCells #[.string ⟨#[]⟩] m) 9)) g q0 q1 q2 ∧ Below w0.heap.size w0 (w1.alloc (.cells (madeCells #[.string ⟨#[]⟩] m) 9)) ∧ KeepBut w (w1.alloc (.cells (madeCells #[.string ⟨#[]⟩] m) 9)) g none from
          ⟨[], rfl, HF.out, hR0, hI1.alloc _, below_alloc hB1 _, keep_alloc hK1 _⟩)
        have hbig : w.heap.size ≤ w1.heap.size := hK1.1
        have HgB := Aside0.mk (show w1.heap.size ≠ g by have := hI1.lt; omega)
        clear hR0 hI1 hB1 hK1 hs1 hbx hmk
        go_loopw [0, 34] (fun at_ i wr => ∃ (j : Nat) (p : Int), j ≤ m ∧ at_ = .int .i64 p ∧ i = .int .i64 j ∧ Aside0 (∃ acc : List ByteArray, acc.length = j ∧ codec_Reader_Texts.l0 k q0 q1 q2 (m - j) p acc = some (r1, r2, r3) ∧ Kd.string.R 9 wr w.heap.size (fun k_ => k_ ≠ g) (.slice (some ⟨w1.heap.size, 0, none⟩) m m) (acc ++ List.replicate (m - j) ⟨#[]⟩) ∧ IsS89 w0 wr g q0 q1 q2 ∧ Below w0.heap.size w0 wr ∧ KeepBut w wr g none)) (fun _ i _ => m - (intOf i).toNat)
        case atStart => exact ⟨0, nx, Nat.zero_le _, rfl, rfl, HX⟩
        case round =>
          obtain ⟨j, p, hj, rfl, rfl, HY⟩ := hrel
          clear HX
          obtain ⟨acc, hacc, hl, hR, hIr, hBr, hKr⟩ := HY.out
          clear HY
          by_cases hlt : j < m
          · rw [show m - j = (m - (j + 1)) + 1 by omega, codec_Reader_Texts.l0] at hl
            obtain ⟨⟨s, nx', ok', z0, z1, z2⟩, ht, hl⟩ := Option.bind_eq_some_iff.mp hl
            have hz := codec_Reader_text.same ht
            simp only [Prod.mk.injEq] at hz
            obtain ⟨rfl, rfl, rfl⟩ := hz
            have hbx : wr.cell? ⟨b, 0, none⟩ = some (.pointer (some ⟨g, 0, none⟩)) := keep_cell hKr hblt hne hbox
            have HT := Aside0.mk ht
            have HL := Aside0.mk hl
            have HRR := Aside0.mk hR
            have HII := Aside0.mk hIr
            have HBB := Aside0.mk hBr
            have HKK := Aside0.mk hKr
            have HA := Aside0.mk hacc
            have HX2 := Aside0.mk hbx
            clear ht hl hR hIr hBr hKr hacc
            go_wp2_with fail
            refine (codec_Reader_text.calls _ _ _ _ _ _ _ _ _ _ _ _ w0 _ HII.out HBB.out HT.out).mono ?_
            rintro e w2 ⟨rfl, hI2, hB2, hK2⟩
            have hR2 := Kd.R_keep HRR.out hK2 (fun _ h => h)
            obtain ⟨hce, hfe⟩ := Kd.R_celln (enc := Value.string) (h1 := fun _ => rfl) ByteArray.empty hR2 (j : Int) (by omega) (by omega)
            rw [Int.toNat_natCast] at hce hfe
            have hR3 := Kd.R_putn (enc := Value.string) (h1 := fun _ => rfl) hR2 (j : Int) s
            rw [Int.toNat_natCast] at hR3
            have hI3 := hI2.far (p := ⟨w1.heap.size, j, none⟩) (fun e => HgB.out e.symm) (.string s)
            have hB3 : Below w0.heap.size w0 (w2.setCell ⟨w1.heap.size, j, none⟩ (.string s)) := below_set hB2 (by have := hB.size; omega)
            have hK3 := keep_new (o := j) (v := .string s) (keep_trans HKK.out hK2) hbig
            have H3 := Aside0.mk (And.intro hR3 (And.intro hI3 (And.intro hB3 hK3)))
            clear hR2 hR3 hI3 hB3 hK3 hI2 hB2 hK2
            cases ok'
            · have hl := HL.out
              cases hl
              go_wp2
              go_ret3
              exact ⟨_, rfl, Kd.R_nil _ _ _ _ _, H3.out.2.1, H3.out.2.2.1, H3.out.2.2.2⟩
            · have hset : (acc ++ List.replicate (m - j) (⟨#[]⟩ : ByteArray)).set j s = (acc ++ [s]) ++ List.replicate (m - (j + 1)) ⟨#[]⟩ := by
                obtain ⟨q, hq⟩ : ∃ q, m - j = q + 1 := ⟨m - j - 1, by omega⟩
                have hq2 : m - (j + 1) = q := by omega
                have ha := HA.out
                rw [hq, hq2, List.replicate_succ, ← ha]
                simp
              have hS := Aside0.mk hset
              clear hset
              go_wp2
              go_roundw
              case rel =>
                refine ⟨j + 1, nx', by omega, rfl, by go_num, ⟨acc ++ [s], by simp [HA.out], HL.out, ?_, H3.out.2.1, H3.out.2.2.1, H3.out.2.2.2⟩⟩
                rw [← hS.out]
                exact H3.out.1
              case measure => simp [intOf]; omega
          · obtain rfl : j = m := by omega
            rw [Nat.sub_self, codec_Reader_Texts.l0] at hl
            rw [Nat.sub_self, List.replicate_zero, List.append_nil] at hR
            cases hl
            have HZ := Aside0.mk (And.intro hR (And.intro hIr (And.intro hBr hKr)))
            clear hR hIr hBr hKr
            go_wp2
            go_ret3
            exact ⟨_, rfl, HZ.out.1, HZ.out.2.1, HZ.out.2.2.1, HZ.out.2.2.2⟩
      · rw [if_neg hn] at h2; cases h2
    · rw [if_neg hle] at h2
      have hd : decide (wrap64 ((q0.size : Int) - nx) < n) = true := decide_eq_true (by omega)
      clear hle
      cases h2
      go_enter Try.func58, Try.ntmps58
      go_wp2_with (go_at_call 52; refine (codec_Reader_size.calls _ _ _ _ _ _ _ _ _ _ _ _ w0 _ HI.out hB h1.out).mono ?_; rintro e w1 ⟨rfl, hI1, hB1, hK1⟩; have hbx : w1.cell? ⟨b, 0, none⟩ = some (.pointer (some ⟨g, 0, none⟩)) := keep_cell hK1 hblt hne hbox; have hs1 := cellS89_0 hI1.1)
      go_ret3
      exact ⟨_, rfl, Kd.R_nil _ _ _ _ _, hI1, hB1, hK1⟩
theorem codec_Reader_Texts.take (k g b : Nat) (s0_0 : ByteArray) (s0_1 s0_2 : Int) (r1 : List ByteArray) (r2 : ByteArray) (r3 : Int) (r4 : Int) (w0 w : World) (hI : IsS89 w0 w g s0_0 s0_1 s0_2) (hB : Below w0.heap.size w0 w) (hbox : w.cell? ⟨b, 0, none⟩ = some (.pointer (some ⟨g, 0, none⟩))) (hne : b ≠ g) (h : codec_Reader_Texts.f k s0_0 s0_1 s0_2 = some (r1, r2, r3, r4)) :
    Calls Try.prog 57 #[.pointer (some ⟨g, 0, none⟩), .func (.func 58) #[] #[.pointer (some ⟨b, 0, none⟩)]] w fun e w' => ∃ v0_ : Value, e = .returned (v0_) ∧ Kd.R Kd.string 9 w' w.heap.size (fun k_ => k_ ≠ g) v0_ r1 ∧ IsS89 w0 w' g r2 r3 r4 ∧ Below w0.heap.size w0 w' ∧ KeepBut w w' g none := by
  unfold codec_Reader_Texts.f at h
  have hc1 := cellS89_1 hI.1
  have hc2 := cellS89_2 hI.1
  have HI := Aside0.mk hI
  clear hI
  by_cases e : s0_2 = 0
  · subst e
    rw [if_pos rfl] at h
    obtain ⟨⟨l, nx, ok⟩, h1, h2⟩ := Option.bind_eq_some_iff.mp h
    have h1 := Aside0.mk h1
    clear h
    cases ok
    · cases h2
      go_enter Try.func57, Try.ntmps57
      go_wp2_with (go_at_call 58; refine (codec_Reader_Texts.fn _ _ _ _ _ _ _ _ _ _ w0 _ HI.out hB hbox hne h1.out).mono ?_; rintro e w1 ⟨v0, rfl, hR1, hI1, hB1, hK1⟩; have hc3 := cellS89_2 hI1.1; have hf3 := blk_frozen hI1.1 2)
      go_ret
      exact ⟨_, rfl, Kd.R_nil _ _ _ _ _, hI1.set_2 _, below_set hB1 hI1.2, hK1.set_ _ _⟩
    · cases h2
      go_enter Try.func57, Try.ntmps57
      go_wp2_with (go_at_call 58; refine (codec_Reader_Texts.fn _ _ _ _ _ _ _ _ _ _ w0 _ HI.out hB hbox hne h1.out).mono ?_; rintro e w1 ⟨v0, rfl, hR1, hI1, hB1, hK1⟩; have hc3 := cellS89_1 hI1.1; have hf3 := blk_frozen hI1.1 1)
      go_ret
      exact ⟨_, rfl, Kd.R_far hR1 (p := ⟨g, 1, none⟩) (fun _ h => h) _, hI1.set_1 _, below_set hB1 hI1.2, hK1.set_ _ _⟩
  · rw [if_neg e] at h
    cases h
    have e1 : (s0_2 != 0) = true := bne_iff_ne.mpr e
    clear e
    go_enter Try.func57, Try.ntmps57
    go_wp2
    go_ret
    exact ⟨_, rfl, Kd.R_nil _ _ _ _ _, HI.out, hB, KeepBut.refl _ _ _⟩
theorem codec_Reader_Texts.calls (k : Nat) (g : Nat) (s0_0 : ByteArray) (s0_1 : Int) (s0_2 : Int) (r1 : List ByteArray) (r2 : ByteArray) (r3 : Int) (r4 : Int) (w0 w : World) (hI : IsS89 w0 w g s0_0 s0_1 s0_2) (hB : Below w0.heap.size w0 w) (h : codec_Reader_Texts.f k s0_0 s0_1 s0_2 = some (r1, r2, r3, r4)) :
    Calls Try.prog 28 #[.pointer (some ⟨g, 0, none⟩)] w fun e w' => ∃ v0_ : Value, e = .returned (v0_) ∧ Kd.R Kd.string 9 w' w.heap.size (fun k_ => k_ ≠ g) v0_ r1 ∧ IsS89 w0 w' g r2 r3 r4 ∧ Below w0.heap.size w0 w' ∧ KeepBut w w' g none := by
  have h := Aside0.mk h
  have HI := Aside0.mk hI
  clear hI
  have hlt := HI.out.lt
  have hX := Aside0.mk (IsS89.alloc HI.out (.cells #[.pointer (some ⟨g, 0, none⟩)] 33))
  have hY := Aside0.mk (below_alloc hB (.cells #[.pointer (some ⟨g, 0, none⟩)] 33))
  have hZ := Aside0.mk (show (w.alloc (.cells #[.pointer (some ⟨g, 0, none⟩)] 33)).cell? ⟨w.heap.size, 0, none⟩ = some (.pointer (some ⟨g, 0, none⟩)) by simp)
  go_enter Try.func28, Try.ntmps28
  go_wp2_with (go_at_call 57; refine (codec_Reader_Texts.take _ _ _ _ _ _ _ _ _ _ w0 _ hX.out hY.out hZ.out (by omega) h.out).mono ?_; rintro e w1 ⟨v0, rfl, hR1, hI1, hB1, hK1⟩)
  go_ret
  exact ⟨_, rfl, Kd.R_lower hR1 (by simp), hI1, hB1, keep_of_alloc hK1⟩

/-! ### codec_Reader_Error: function 29 -/
def codec_Reader_Error.f (s0_0 : ByteArray) (s0_1 : Int) (s0_2 : Int) : Option (Int × ByteArray × Int × Int) := some (s0_2, s0_0, s0_1, s0_2)
set_option maxHeartbeats 8000000 in
set_option maxRecDepth 100000 in
theorem codec_Reader_Error.calls (g : Nat) (s0_0 : ByteArray) (s0_1 : Int) (s0_2 : Int) (r1 : Int) (r2 : ByteArray) (r3 : Int) (r4 : Int) (w0 w : World) (hI : IsS89 w0 w g s0_0 s0_1 s0_2) (hB : Below w0.heap.size w0 w) (h : codec_Reader_Error.f s0_0 s0_1 s0_2 = some (r1, r2, r3, r4)) :
    Calls Try.prog 29 #[.pointer (some ⟨g, 0, none⟩)] w fun e w' => e = .returned (.int .i64 r1) ∧ IsS89 w0 w' g r2 r3 r4 ∧ Below w0.heap.size w0 w' ∧ KeepBut w w' g none := by
  have HI0 := Aside0.mk hI
  have HK := Aside0.mk (KeepBut.refl w g none)
  have HL := Aside0.mk hB.size
  clear hI
  have HW0 := Aside0.mk hB.size
  have HB := Aside0.mk hB
  clear hB
  have H : (some (s0_2, s0_0, s0_1, s0_2)) = some (r1, r2, r3, r4) := h
  clear h
  simp only [Option.some.injEq, Prod.mk.injEq] at H
  obtain ⟨rfl, rfl, rfl, rfl⟩ := H
  obtain ⟨HGz2, hgz2⟩ := HI0.out
  have hcz2_0 := cellS89_0 HGz2
  have hcz2_1 := cellS89_1 HGz2
  have hcz2_2 := cellS89_2 HGz2
  have hfz2_0 := blk_frozen HGz2 0
  have hfz2_1 := blk_frozen HGz2 1
  have hfz2_2 := blk_frozen HGz2 2
  clear HGz2 hgz2
  go_enter Try.func29, Try.ntmps29
  go_wp2
  go_ret
  exact ⟨by first | rfl | (simp [errW_none, errW_some] <;> rfl) | (simp [*, errW_none, errW_some] <;> rfl), by repeat (first | (with_reducible first | exact HI0.out | apply IsS89.alloc | apply IsS89.drewN | apply IsS89.drew | apply IsS89.set_0 | apply IsS89.set_1 | apply IsS89.set_2) | exact HI0.out), by repeat (first | (with_reducible first | exact HB.out | apply below_alloc | apply pw_below_drewN | apply below_drew1 | refine below_set ?_ (IsS89.ge HI0.out)) | exact HB.out), by repeat (first | (with_reducible first | exact HK.out | apply KeepBut.set_ | apply keep_drewN | apply keep_drew | apply keep_alloc) | exact HK.out)⟩

/-! ### codec_Reader_End: function 30 -/
def codec_Reader_End.f (s0_0 : ByteArray) (s0_1 : Int) (s0_2 : Int) : Option (Int × ByteArray × Int × Int) := if s0_2 = 0 then (if s0_1 < (s0_0.size : Int) then (some (9, s0_0, s0_1, s0_2)) else (some (s0_2, s0_0, s0_1, s0_2))) else (some (s0_2, s0_0, s0_1, s0_2))
set_option maxHeartbeats 8000000 in
set_option maxRecDepth 100000 in
theorem codec_Reader_End.calls (g : Nat) (s0_0 : ByteArray) (s0_1 : Int) (s0_2 : Int) (r1 : Int) (r2 : ByteArray) (r3 : Int) (r4 : Int) (w0 w : World) (hI : IsS89 w0 w g s0_0 s0_1 s0_2) (hB : Below w0.heap.size w0 w) (h : codec_Reader_End.f s0_0 s0_1 s0_2 = some (r1, r2, r3, r4)) :
    Calls Try.prog 30 #[.pointer (some ⟨g, 0, none⟩)] w fun e w' => e = .returned (.int .i64 r1) ∧ IsS89 w0 w' g r2 r3 r4 ∧ Below w0.heap.size w0 w' ∧ KeepBut w w' g none := by
  have HI0 := Aside0.mk hI
  have HK := Aside0.mk (KeepBut.refl w g none)
  have HL := Aside0.mk hB.size
  clear hI
  have HW0 := Aside0.mk hB.size
  have HB := Aside0.mk hB
  clear hB
  have H : (if s0_2 = 0 then (if s0_1 < (s0_0.size : Int) then (some (9, s0_0, s0_1, s0_2)) else (some (s0_2, s0_0, s0_1, s0_2))) else (some (s0_2, s0_0, s0_1, s0_2))) = some (r1, r2, r3, r4) := h
  clear h
  by_cases c2 : s0_2 = 0
  · rw [if_pos c2] at H
    have c2b0 : (s0_2 == 0) = true := beq_iff_eq.mpr c2
    have c2b1 : (s0_2 != 0) = false := bne_eq_false_iff_eq.mpr c2
    clear c2
    by_cases c3 : s0_1 < (s0_0.size : Int)
    · rw [if_pos c3] at H
      have c3b0 : decide (s0_1 < (s0_0.size : Int)) = true := decide_eq_true c3
      clear c3
      simp only [Option.some.injEq, Prod.mk.injEq] at H
      obtain ⟨rfl, rfl, rfl, rfl⟩ := H
      obtain ⟨HGz4, hgz4⟩ := HI0.out
      have hcz4_0 := cellS89_0 HGz4
      have hcz4_1 := cellS89_1 HGz4
      have hcz4_2 := cellS89_2 HGz4
      have hfz4_0 := blk_frozen HGz4 0
      have hfz4_1 := blk_frozen HGz4 1
      have hfz4_2 := blk_frozen HGz4 2
      clear HGz4 hgz4
      go_enter Try.func30, Try.ntmps30
      go_wp2
      repeat (go_quiet (fail); try go_wp2)
      go_ret
      exact ⟨by first | rfl | (simp [errW_none, errW_some] <;> rfl) | (simp [*, errW_none, errW_some] <;> rfl), by repeat (first | (with_reducible first | exact HI0.out | apply IsS89.alloc | apply IsS89.drewN | apply IsS89.drew | apply IsS89.set_0 | apply IsS89.set_1 | apply IsS89.set_2) | exact HI0.out), by repeat (first | (with_reducible first | exact HB.out | apply below_alloc | apply pw_below_drewN | apply below_drew1 | refine below_set ?_ (IsS89.ge HI0.out)) | exact HB.out), by repeat (first | (with_reducible first | exact HK.out | apply KeepBut.set_ | apply keep_drewN | apply keep_drew | apply keep_alloc) | exact HK.out)⟩
    · rw [if_neg c3] at H
      have c3b0 : decide (s0_1 < (s0_0.size : Int)) = false := decide_eq_false c3
      clear c3
      simp only [Option.some.injEq, Prod.mk.injEq] at H
      obtain ⟨rfl, rfl, rfl, rfl⟩ := H
      obtain ⟨HGz5, hgz5⟩ := HI0.out
      have hcz5_0 := cellS89_0 HGz5
      have hcz5_1 := cellS89_1 HGz5
      have hcz5_2 := cellS89_2 HGz5
      have hfz5_0 := blk_frozen HGz5 0
      have hfz5_1 := blk_frozen HGz5 1
      have hfz5_2 := blk_frozen HGz5 2
      clear HGz5 hgz5
      go_enter Try.func30, Try.ntmps30
      go_wp2
      repeat (go_quiet (fail); try go_wp2)
      go_ret
      exact ⟨by first | rfl | (simp [errW_none, errW_some] <;> rfl) | (simp [*, errW_none, errW_some] <;> rfl), by repeat (first | (with_reducible first | exact HI0.out | apply IsS89.alloc | apply IsS89.drewN | apply IsS89.drew | apply IsS89.set_0 | apply IsS89.set_1 | apply IsS89.set_2) | exact HI0.out), by repeat (first | (with_reducible first | exact HB.out | apply below_alloc | apply pw_below_drewN | apply below_drew1 | refine below_set ?_ (IsS89.ge HI0.out)) | exact HB.out), by repeat (first | (with_reducible first | exact HK.out | apply KeepBut.set_ | apply keep_drewN | apply keep_drew | apply keep_alloc) | exact HK.out)⟩
  · rw [if_neg c2] at H
    have c2b0 : (s0_2 == 0) = false := beq_eq_false_iff_ne.mpr c2
    have c2b1 : (s0_2 != 0) = true := bne_iff_ne.mpr c2
    simp only [Option.some.injEq, Prod.mk.injEq] at H
    obtain ⟨rfl, rfl, rfl, rfl⟩ := H
    obtain ⟨HGz6, hgz6⟩ := HI0.out
    have hcz6_0 := cellS89_0 HGz6
    have hcz6_1 := cellS89_1 HGz6
    have hcz6_2 := cellS89_2 HGz6
    have hfz6_0 := blk_frozen HGz6 0
    have hfz6_1 := blk_frozen HGz6 1
    have hfz6_2 := blk_frozen HGz6 2
    clear HGz6 hgz6
    go_enter Try.func30, Try.ntmps30
    go_wp2
    repeat (go_quiet (fail); try go_wp2)
    go_ret
    exact ⟨by first | rfl | (simp [errW_none, errW_some] <;> rfl) | (simp [*, errW_none, errW_some] <;> rfl), by repeat (first | (with_reducible first | exact HI0.out | apply IsS89.alloc | apply IsS89.drewN | apply IsS89.drew | apply IsS89.set_0 | apply IsS89.set_1 | apply IsS89.set_2) | exact HI0.out), by repeat (first | (with_reducible first | exact HB.out | apply below_alloc | apply pw_below_drewN | apply below_drew1 | refine below_set ?_ (IsS89.ge HI0.out)) | exact HB.out), by repeat (first | (with_reducible first | exact HK.out | apply KeepBut.set_ | apply keep_drewN | apply keep_drew | apply keep_alloc) | exact HK.out)⟩

end Go.Proofs.Ytldkkboeaadbeaa.Pr
end
