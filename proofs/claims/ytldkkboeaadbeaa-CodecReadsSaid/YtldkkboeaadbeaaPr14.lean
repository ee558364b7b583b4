-- By a program of this session.
import Derived.Test.YtldkkboeaadbeaaPr0
import Derived.Test.YtldkkboeaadbeaaPr2
import Derived.Test.YtldkkboeaadbeaaPr4
namespace Go.Proofs.Ytldkkboeaadbeaa.Pr
open Go.RowKit Go.Proofs.YtldkkboeaadbeaaW.PrintWords Go.Proofs.YtldkkboeaadbeaaW.PrintLast Go.Proofs.YtldkkboeaadbeaaW.PrintMore
attribute [local go_sem] max2_int min2_int max_two min_two max_three min_three max_four min_four   -- for this text's walks alone
set_option linter.unusedVariables false
set_option linter.unusedSimpArgs false

/-! ### codec_Reader_Fail: function 34 -/
def codec_Reader_Fail.f (s0_0 : ByteArray) (s0_1 : Int) (s0_2 : Int) (a1 : Int) : Option (ByteArray × Int × Int) := if s0_2 = 0 then (some (s0_0, s0_1, a1)) else (some (s0_0, s0_1, s0_2))
set_option maxHeartbeats 8000000 in
set_option maxRecDepth 100000 in
theorem codec_Reader_Fail.calls (g : Nat) (s0_0 : ByteArray) (s0_1 : Int) (s0_2 : Int) (a1 : Int) (r1 : ByteArray) (r2 : Int) (r3 : Int) (w0 w : World) (hI : IsS89 w0 w g s0_0 s0_1 s0_2) (hB : Below w0.heap.size w0 w) (h : codec_Reader_Fail.f s0_0 s0_1 s0_2 a1 = some (r1, r2, r3)) :
    Calls Try.prog 34 #[.pointer (some ⟨g, 0, none⟩), .int .i64 a1] w fun e w' => e = .returned (.tuple #[]) ∧ IsS89 w0 w' g r1 r2 r3 ∧ Below w0.heap.size w0 w' ∧ KeepBut w w' g none := by
  have HI0 := Aside0.mk hI
  have HK := Aside0.mk (KeepBut.refl w g none)
  have HL := Aside0.mk hB.size
  clear hI
  have HW0 := Aside0.mk hB.size
  have HB := Aside0.mk hB
  clear hB
  have H : (if s0_2 = 0 then (some (s0_0, s0_1, a1)) else (some (s0_0, s0_1, s0_2))) = some (r1, r2, r3) := h
  clear h
  by_cases c3 : s0_2 = 0
  · rw [if_pos c3] at H
    have c3b0 : (s0_2 == 0) = true := beq_iff_eq.mpr c3
    have c3b1 : (s0_2 != 0) = false := bne_eq_false_iff_eq.mpr c3
    clear c3
    simp only [Option.some.injEq, Prod.mk.injEq] at H
    obtain ⟨rfl, rfl, rfl⟩ := H
    obtain ⟨HGz4, hgz4⟩ := HI0.out
    have hcz4_0 := cellS89_0 HGz4
    have hcz4_1 := cellS89_1 HGz4
    have hcz4_2 := cellS89_2 HGz4
    have hfz4_0 := blk_frozen HGz4 0
    have hfz4_1 := blk_frozen HGz4 1
    have hfz4_2 := blk_frozen HGz4 2
    clear HGz4 hgz4
    go_enter Try.func34, Try.ntmps34
    go_wp2
    first | go_end0 | ((try simp only [Exit.inBlock, Exit.then]); refine bodyPost_ret (results_none rfl _ _ _) rfl ?_)
    exact ⟨by first | rfl | (simp [errW_none, errW_some] <;> rfl) | (simp [*, errW_none, errW_some] <;> rfl), by repeat (first | (with_reducible first | exact HI0.out | apply IsS89.alloc | apply IsS89.drewN | apply IsS89.drew | apply IsS89.set_0 | apply IsS89.set_1 | apply IsS89.set_2) | exact HI0.out), by repeat (first | (with_reducible first | exact HB.out | apply below_alloc | apply pw_below_drewN | apply below_drew1 | refine below_set ?_ (IsS89.ge HI0.out)) | exact HB.out), by repeat (first | (with_reducible first | exact HK.out | apply KeepBut.set_ | apply keep_drewN | apply keep_drew | apply keep_alloc) | exact HK.out)⟩
  · rw [if_neg c3] at H
    have c3b0 : (s0_2 == 0) = false := beq_eq_false_iff_ne.mpr c3
    have c3b1 : (s0_2 != 0) = true := bne_iff_ne.mpr c3
    simp only [Option.some.injEq, Prod.mk.injEq] at H
    obtain ⟨rfl, rfl, rfl⟩ := H
    obtain ⟨HGz5, hgz5⟩ := HI0.out
    have hcz5_0 := cellS89_0 HGz5
    have hcz5_1 := cellS89_1 HGz5
    have hcz5_2 := cellS89_2 HGz5
    have hfz5_0 := blk_frozen HGz5 0
    have hfz5_1 := blk_frozen HGz5 1
    have hfz5_2 := blk_frozen HGz5 2
    clear HGz5 hgz5
    go_enter Try.func34, Try.ntmps34
    go_wp2
    first | go_end0 | ((try simp only [Exit.inBlock, Exit.then]); refine bodyPost_ret (results_none rfl _ _ _) rfl ?_)
    exact ⟨by first | rfl | (simp [errW_none, errW_some] <;> rfl) | (simp [*, errW_none, errW_some] <;> rfl), by repeat (first | (with_reducible first | exact HI0.out | apply IsS89.alloc | apply IsS89.drewN | apply IsS89.drew | apply IsS89.set_0 | apply IsS89.set_1 | apply IsS89.set_2) | exact HI0.out), by repeat (first | (with_reducible first | exact HB.out | apply below_alloc | apply pw_below_drewN | apply below_drew1 | refine below_set ?_ (IsS89.ge HI0.out)) | exact HB.out), by repeat (first | (with_reducible first | exact HK.out | apply KeepBut.set_ | apply keep_drewN | apply keep_drew | apply keep_alloc) | exact HK.out)⟩

/-! ### codec_Reader_Count: function 63, by hand -/
def codec_Reader_Count.f (k : Nat) (s0_0 : ByteArray) (s0_1 : Int) (s0_2 : Int) (a1 : Int) : Option (Int × ByteArray × Int × Int) :=
  if s0_2 = 0 then (codec_Reader_size.f k s0_0 s0_1 s0_2 s0_1).bind fun b => if b.2.2.1 = true then (if b.1 ≤ a1 then some (b.1, b.2.2.2.1, b.2.1, b.2.2.2.2.2) else some (0, b.2.2.2.1, b.2.2.2.2.1, 9)) else some (0, b.2.2.2.1, b.2.2.2.2.1, 9) else some (0, s0_0, s0_1, s0_2)
theorem codec_Reader_Count.mono : ∀ a0 a1 a2 a3 k, LeO (codec_Reader_Count.f k a0 a1 a2 a3) (codec_Reader_Count.f (k + 1) a0 a1 a2 a3) := by
  intro a0 a1 a2 a3 k
  unfold codec_Reader_Count.f
  repeat' first
      | (with_reducible exact codec_Reader_size.mono _ _ _ _ _)
      | (with_reducible exact LeO.refl _)
      | (with_reducible exact LeO.none _)
      | (with_reducible refine LeO.ite ?_ ?_)
      | (with_reducible refine LeO.bind ?_ (fun _ => ?_))
theorem codec_Reader_Count.fn (k g b c : Nat) (s0_0 : ByteArray) (s0_1 s0_2 a1 m r1 r2 : Int) (r3 : Bool) (r4 : ByteArray) (r5 r6 : Int) (w0 w : World) (hI : IsS89 w0 w g s0_0 s0_1 s0_2) (hB : Below w0.heap.size w0 w) (hbox : w.cell? ⟨b, 0, none⟩ = some (.pointer (some ⟨g, 0, none⟩))) (hbox2 : w.cell? ⟨c, 0, none⟩ = some (.int .i64 m)) (hlt : c < w.heap.size) (hne : c ≠ g)
    (h : codec_Reader_size.f k s0_0 s0_1 s0_2 a1 = some (r1, r2, r3, r4, r5, r6)) :
    Calls Try.prog 84 #[.int .i64 a1, .pointer (some ⟨b, 0, none⟩), .pointer (some ⟨c, 0, none⟩)] w fun e w' =>
      e = .returned (.tuple #[.int .i64 r1, .int .i64 r2, .bool (r3 && decide (r1 ≤ m))]) ∧ IsS89 w0 w' g r4 r5 r6 ∧ Below w0.heap.size w0 w' ∧ KeepBut w w' g none := by
  have HI := Aside0.mk hI
  clear hI
  have h := Aside0.mk h
  cases r3
  · go_enter Try.func84, Try.ntmps84
    go_wp2_with (go_at_call 52; refine (codec_Reader_size.calls _ _ _ _ _ _ _ _ _ _ _ _ w0 _ HI.out hB h.out).mono ?_; rintro e w1 ⟨rfl, hI1, hB1, hK1⟩)
    go_quiet (fail)
    go_wp2
    go_ret3
    exact ⟨rfl, hI1.drewN _, pw_below_drewN hB1 _, keep_drewN hK1 _⟩
  · by_cases hle : r1 ≤ m
    all_goals
      have hd := hle
      go_enter Try.func84, Try.ntmps84
      go_wp2_with (go_at_call 52; refine (codec_Reader_size.calls _ _ _ _ _ _ _ _ _ _ _ _ w0 _ HI.out hB h.out).mono ?_; rintro e w1 ⟨rfl, hI1, hB1, hK1⟩; have hbx : w1.cell? ⟨c, 0, none⟩ = some (.int .i64 m) := keep_cell hK1 hlt hne hbox2)
      go_quiet (fail)
      go_wp2
      go_ret3
      exact ⟨by simp [hle], hI1.drewN _, pw_below_drewN hB1 _, keep_drewN hK1 _⟩
theorem codec_Reader_Count.take (k : Nat) (g b c : Nat) (s0_0 : ByteArray) (s0_1 : Int) (s0_2 : Int) (a1 : Int) (r1 : Int) (r2 : ByteArray) (r3 : Int) (r4 : Int) (w0 w : World) (hI : IsS89 w0 w g s0_0 s0_1 s0_2) (hB : Below w0.heap.size w0 w) (hbox : w.cell? ⟨b, 0, none⟩ = some (.pointer (some ⟨g, 0, none⟩))) (hbox2 : w.cell? ⟨c, 0, none⟩ = some (.int .i64 a1)) (hlt : c < w.heap.size) (hne : c ≠ g) (h : codec_Reader_Count.f k s0_0 s0_1 s0_2 a1 = some (r1, r2, r3, r4)) :
    Calls Try.prog 51 #[.pointer (some ⟨g, 0, none⟩), .func (.func 84) #[] #[.pointer (some ⟨b, 0, none⟩), .pointer (some ⟨c, 0, none⟩)]] w fun e w' => e = .returned (.int .i64 r1) ∧ IsS89 w0 w' g r2 r3 r4 ∧ Below w0.heap.size w0 w' ∧ KeepBut w w' g none := by
  unfold codec_Reader_Count.f at h
  have hc1 := cellS89_1 hI.1
  have hc2 := cellS89_2 hI.1
  have HI := Aside0.mk hI
  clear hI
  by_cases e : s0_2 = 0
  · subst e
    rw [if_pos rfl] at h
    obtain ⟨⟨n, nx, ok, q0, q1, q2⟩, h1, h2⟩ := Option.bind_eq_some_iff.mp h
    have h1 := Aside0.mk h1
    clear h
    cases ok
    ·
      cases h2
      go_enter Try.func51, Try.ntmps51
      go_wp2_with (go_at_call 84; refine (codec_Reader_Count.fn _ _ _ _ _ _ _ _ _ _ _ _ _ _ _ w0 _ HI.out hB hbox hbox2 hlt hne h1.out).mono ?_; rintro e w1 ⟨rfl, hI1, hB1, hK1⟩; have hc3 := cellS89_2 hI1.1; have hf3 := blk_frozen hI1.1 2)
      go_ret
      exact ⟨rfl, hI1.set_2 _, below_set hB1 hI1.2, hK1.set_ _ _⟩
    · by_cases hle : n ≤ a1
      · simp only [if_true, if_pos hle] at h2
        have hd : decide (n ≤ a1) = true := decide_eq_true hle
        cases h2
        go_enter Try.func51, Try.ntmps51
        go_wp2_with (go_at_call 84; refine (codec_Reader_Count.fn _ _ _ _ _ _ _ _ _ _ _ _ _ _ _ w0 _ HI.out hB hbox hbox2 hlt hne h1.out).mono ?_; rintro e w1 ⟨rfl, hI1, hB1, hK1⟩; have hc3 := cellS89_1 hI1.1; have hf3 := blk_frozen hI1.1 1)
        go_ret
        exact ⟨rfl, hI1.set_1 _, below_set hB1 hI1.2, hK1.set_ _ _⟩
      · simp only [if_true, if_neg hle] at h2
        have hd : decide (n ≤ a1) = false := decide_eq_false hle
        cases h2
        go_enter Try.func51, Try.ntmps51
        go_wp2_with (go_at_call 84; refine (codec_Reader_Count.fn _ _ _ _ _ _ _ _ _ _ _ _ _ _ _ w0 _ HI.out hB hbox hbox2 hlt hne h1.out).mono ?_; rintro e w1 ⟨rfl, hI1, hB1, hK1⟩; have hc3 := cellS89_2 hI1.1; have hf3 := blk_frozen hI1.1 2)
        go_ret
        exact ⟨rfl, hI1.set_2 _, below_set hB1 hI1.2, hK1.set_ _ _⟩

  · rw [if_neg e] at h
    cases h
    have e1 : (s0_2 != 0) = true := bne_iff_ne.mpr e
    clear e
    go_enter Try.func51, Try.ntmps51
    go_wp2
    go_ret
    exact ⟨rfl, HI.out, hB, KeepBut.refl _ _ _⟩
theorem codec_Reader_Count.calls (k : Nat) (g : Nat) (s0_0 : ByteArray) (s0_1 : Int) (s0_2 : Int) (a1 : Int) (r1 : Int) (r2 : ByteArray) (r3 : Int) (r4 : Int) (w0 w : World) (hI : IsS89 w0 w g s0_0 s0_1 s0_2) (hB : Below w0.heap.size w0 w) (h : codec_Reader_Count.f k s0_0 s0_1 s0_2 a1 = some (r1, r2, r3, r4)) :
    Calls Try.prog 63 #[.pointer (some ⟨g, 0, none⟩), .int .i64 a1] w fun e w' => e = .returned (.int .i64 r1) ∧ IsS89 w0 w' g r2 r3 r4 ∧ Below w0.heap.size w0 w' ∧ KeepBut w w' g none := by
  have h := Aside0.mk h
  have HI := Aside0.mk hI
  clear hI
  have hlt0 := HI.out.lt
  have hX := Aside0.mk ((HI.out.alloc (.cells #[.pointer (some ⟨g, 0, none⟩)] 33)).alloc (.cells #[.int .i64 a1] 3))
  have hY := Aside0.mk (below_alloc (below_alloc hB (.cells #[.pointer (some ⟨g, 0, none⟩)] 33)) (.cells #[.int .i64 a1] 3))
  have hZ := Aside0.mk (show ((w.alloc (.cells #[.pointer (some ⟨g, 0, none⟩)] 33)).alloc (.cells #[.int .i64 a1] 3)).cell? ⟨w.heap.size, 0, none⟩ = some (.pointer (some ⟨g, 0, none⟩)) by simp)
  have hZ2 := Aside0.mk (show ((w.alloc (.cells #[.pointer (some ⟨g, 0, none⟩)] 33)).alloc (.cells #[.int .i64 a1] 3)).cell? ⟨w.heap.size + 1, 0, none⟩ = some (.int .i64 a1) by simp)
  go_enter Try.func63, Try.ntmps63
  go_wp2_with (go_at_call 51; refine (codec_Reader_Count.take _ _ _ _ _ _ _ _ _ _ _ _ w0 _ hX.out hY.out hZ.out hZ2.out (by simp) (by omega) h.out).mono ?_; rintro e w1 ⟨rfl, hI1, hB1, hK1⟩)
  go_ret
  exact ⟨rfl, hI1, hB1, keep_of_alloc (keep_of_alloc hK1)⟩

end Go.Proofs.Ytldkkboeaadbeaa.Pr
