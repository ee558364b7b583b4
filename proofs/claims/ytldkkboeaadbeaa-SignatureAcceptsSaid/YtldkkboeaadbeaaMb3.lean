/- Pr4 -/
import Derived.Test.YtldkkboeaadbeaaMa2
import Derived.Test.YtldkkboeaadbeaaMb1
import Derived.Test.YtldkkboeaadbeaaMb2
section
-- By a program of this session.
namespace Go.Proofs.Ytldkkboeaadbeaa.Pr
open Go.RowKit Go.Proofs.YtldkkboeaadbeaaW.PrintWords Go.Proofs.YtldkkboeaadbeaaW.PrintLast Go.Proofs.YtldkkboeaadbeaaW.PrintMore
attribute [local go_sem] max2_int min2_int max_two min_two max_three min_three max_four min_four   -- for this text's walks alone
set_option linter.unusedVariables false
set_option linter.unusedSimpArgs false

/-! ### codec_Reader_size: function 52 -/
def codec_Reader_size.f (k : Nat) (s0_0 : ByteArray) (s0_1 : Int) (s0_2 : Int) (a1 : Int) : Option (Int × Int × Bool × ByteArray × Int × Int) := (codec_Reader_scan.f k s0_0 s0_1 s0_2 a1).bind fun bt111 => (if bt111.2.2.1 = true then (some (wrap64 (bt111.1), bt111.2.1, ((bt111.1 / 9223372036854775808) == 0), bt111.2.2.2.1, bt111.2.2.2.2.1, bt111.2.2.2.2.2)) else (some (wrap64 (bt111.1), bt111.2.1, false, bt111.2.2.2.1, bt111.2.2.2.2.1, bt111.2.2.2.2.2)))
theorem codec_Reader_size.mono : ∀ a0 a1 a2 a3 k, LeO (codec_Reader_size.f k a0 a1 a2 a3) (codec_Reader_size.f (k + 1) a0 a1 a2 a3) := by
  intro a0 a1 a2 a3 k
  unfold codec_Reader_size.f
  repeat' first
      | (with_reducible exact codec_Reader_scan.mono _ _ _ _ _)
      | (with_reducible exact LeO.refl _)
      | (with_reducible exact LeO.none _)
      | (with_reducible refine LeO.ite ?_ ?_)
      | (with_reducible refine LeO.bind ?_ (fun _ => ?_))
      | exact codec_Reader_scan.mono _ _ _ _ _
      | exact LeO.none _
      | refine LeO.ite ?_ ?_
      | refine LeO.bind ?_ (fun _ => ?_)
set_option maxHeartbeats 8000000 in
set_option maxRecDepth 100000 in
theorem codec_Reader_size.calls (k : Nat) (g : Nat) (s0_0 : ByteArray) (s0_1 : Int) (s0_2 : Int) (a1 : Int) (r1 : Int) (r2 : Int) (r3 : Bool) (r4 : ByteArray) (r5 : Int) (r6 : Int) (w0 w : World) (hI : IsS89 w0 w g s0_0 s0_1 s0_2) (hB : Below w0.heap.size w0 w) (h : codec_Reader_size.f k s0_0 s0_1 s0_2 a1 = some (r1, r2, r3, r4, r5, r6)) :
    Calls Try.prog 52 #[.pointer (some ⟨g, 0, none⟩), .int .i64 a1] w fun e w' => e = .returned (.tuple #[.int .i64 r1, .int .i64 r2, .bool r3]) ∧ IsS89 w0 w' g r4 r5 r6 ∧ Below w0.heap.size w0 w' ∧ KeepBut w w' g none := by
  have HI0 := Aside0.mk hI
  have HK := Aside0.mk (KeepBut.refl w g none)
  have HL := Aside0.mk hB.size
  clear hI
  have HW0 := Aside0.mk hB.size
  have HB := Aside0.mk hB
  clear hB
  have H : ((codec_Reader_scan.f k s0_0 s0_1 s0_2 a1).bind fun bt111 => (if bt111.2.2.1 = true then (some (wrap64 (bt111.1), bt111.2.1, ((bt111.1 / 9223372036854775808) == 0), bt111.2.2.2.1, bt111.2.2.2.2.1, bt111.2.2.2.2.2)) else (some (wrap64 (bt111.1), bt111.2.1, false, bt111.2.2.2.1, bt111.2.2.2.2.1, bt111.2.2.2.2.2)))) = some (r1, r2, r3, r4, r5, r6) := h
  clear h
  replace H := Option.bind_eq_some_iff.mp H
  obtain ⟨⟨t111, t112, t113, t114, t115, t116⟩, A30, H⟩ := H
  replace H : (if t113 = true then (some (wrap64 (t111), t112, ((t111 / 9223372036854775808) == 0), t114, t115, t116)) else (some (wrap64 (t111), t112, false, t114, t115, t116))) = some (r1, r2, r3, r4, r5, r6) := H
  have A3 := Aside0.mk A30
  clear A30
  by_cases c4 : t113 = true
  · subst c4
    have H1 : (some (wrap64 (t111), t112, ((t111 / 9223372036854775808) == 0), t114, t115, t116)) = some (r1, r2, r3, r4, r5, r6) := by rw [if_pos rfl] at H; exact H
    clear H
    have H := H1
    clear H1
    simp only [Option.some.injEq, Prod.mk.injEq] at H
    obtain ⟨rfl, rfl, rfl, rfl, rfl, rfl⟩ := H
    go_enter Try.func52, Try.ntmps52
    go_wp2_with (first | ((with_reducible refine gate_callee (f := 54) rfl ?_); refine goesL_ (some 13) rfl rfl Try.func54 (by kernel_rfl) rfl #[.pointer (some ⟨g, 0, none⟩), .int .i64 a1] rfl (by (try simp only [List.map_toArray, List.map_cons, List.map_nil]); first | done | rfl | (simp only [List.length_drop, List.length_take]; rfl)) ?_; (with_reducible refine (codec_Reader_scan.calls k g s0_0 s0_1 s0_2 a1 t111 t112 true t114 t115 t116 w0 _ ?side1 ?side2 A3.out).mono ?_); (case side1 => repeat (first | (with_reducible first | exact HI0.out | apply IsS89.alloc | apply IsS89.drewN | apply IsS89.drew | apply IsS89.set_0 | apply IsS89.set_1 | apply IsS89.set_2) | exact HI0.out)); (case side2 => repeat (first | (with_reducible first | exact HB.out | apply below_alloc | apply pw_below_drewN | apply below_drew1 | refine below_set ?_ (IsS89.ge HI0.out)) | exact HB.out)); rintro e w5 ⟨rfl, hi, hb, hk⟩; refine ⟨_, rfl, ?_⟩; have n0_ := Aside0.mk (KeepBut.trans (by repeat (first | (with_reducible first | exact HK.out | apply KeepBut.set_ | apply keep_drewN | apply keep_drew | apply keep_alloc) | exact HK.out)) hk (.inl rfl)); have n1_ := Aside0.mk (hb); have n2_ := Aside0.mk (hi); clear HK; clear HB; clear HI0; have HK := n0_; have HB := n1_; have HI0 := n2_; clear n0_ n1_ n2_; (try clear hb); (try clear hb2); (try clear hk); (try clear hi)))
    go_ret3
    exact ⟨by first | rfl | (simp [errW_none, errW_some] <;> rfl) | (simp [*, errW_none, errW_some] <;> rfl), by repeat (first | (with_reducible first | exact HI0.out | apply IsS89.alloc | apply IsS89.drewN | apply IsS89.drew | apply IsS89.set_0 | apply IsS89.set_1 | apply IsS89.set_2) | exact HI0.out), by repeat (first | (with_reducible first | exact HB.out | apply below_alloc | apply pw_below_drewN | apply below_drew1 | refine below_set ?_ (IsS89.ge HI0.out)) | exact HB.out), by repeat (first | (with_reducible first | exact HK.out | apply KeepBut.set_ | apply keep_drewN | apply keep_drew | apply keep_alloc) | exact HK.out)⟩
  · replace c4 := Bool.eq_false_iff.mpr c4
    subst c4
    have H1 : (some (wrap64 (t111), t112, false, t114, t115, t116)) = some (r1, r2, r3, r4, r5, r6) := by rw [if_neg (show ¬ (false = true) by decide)] at H; exact H
    clear H
    have H := H1
    clear H1
    simp only [Option.some.injEq, Prod.mk.injEq] at H
    obtain ⟨rfl, rfl, rfl, rfl, rfl, rfl⟩ := H
    go_enter Try.func52, Try.ntmps52
    go_wp2_with (first | ((with_reducible refine gate_callee (f := 54) rfl ?_); refine goesL_ (some 13) rfl rfl Try.func54 (by kernel_rfl) rfl #[.pointer (some ⟨g, 0, none⟩), .int .i64 a1] rfl (by (try simp only [List.map_toArray, List.map_cons, List.map_nil]); first | done | rfl | (simp only [List.length_drop, List.length_take]; rfl)) ?_; (with_reducible refine (codec_Reader_scan.calls k g s0_0 s0_1 s0_2 a1 t111 t112 false t114 t115 t116 w0 _ ?side1 ?side2 A3.out).mono ?_); (case side1 => repeat (first | (with_reducible first | exact HI0.out | apply IsS89.alloc | apply IsS89.drewN | apply IsS89.drew | apply IsS89.set_0 | apply IsS89.set_1 | apply IsS89.set_2) | exact HI0.out)); (case side2 => repeat (first | (with_reducible first | exact HB.out | apply below_alloc | apply pw_below_drewN | apply below_drew1 | refine below_set ?_ (IsS89.ge HI0.out)) | exact HB.out)); rintro e w6 ⟨rfl, hi, hb, hk⟩; refine ⟨_, rfl, ?_⟩; have n0_ := Aside0.mk (KeepBut.trans (by repeat (first | (with_reducible first | exact HK.out | apply KeepBut.set_ | apply keep_drewN | apply keep_drew | apply keep_alloc) | exact HK.out)) hk (.inl rfl)); have n1_ := Aside0.mk (hb); have n2_ := Aside0.mk (hi); clear HK; clear HB; clear HI0; have HK := n0_; have HB := n1_; have HI0 := n2_; clear n0_ n1_ n2_; (try clear hb); (try clear hb2); (try clear hk); (try clear hi)))
    go_ret3
    exact ⟨by first | rfl | (simp [errW_none, errW_some] <;> rfl) | (simp [*, errW_none, errW_some] <;> rfl), by repeat (first | (with_reducible first | exact HI0.out | apply IsS89.alloc | apply IsS89.drewN | apply IsS89.drew | apply IsS89.set_0 | apply IsS89.set_1 | apply IsS89.set_2) | exact HI0.out), by repeat (first | (with_reducible first | exact HB.out | apply below_alloc | apply pw_below_drewN | apply below_drew1 | refine below_set ?_ (IsS89.ge HI0.out)) | exact HB.out), by repeat (first | (with_reducible first | exact HK.out | apply KeepBut.set_ | apply keep_drewN | apply keep_drew | apply keep_alloc) | exact HK.out)⟩

/-! ### codec_Reader_Uint: function 24, by hand -/
def codec_Reader_Uint.f (k : Nat) (s0_0 : ByteArray) (s0_1 : Int) (s0_2 : Int) : Option (Int × ByteArray × Int × Int) :=
  if s0_2 = 0 then (codec_Reader_size.f k s0_0 s0_1 s0_2 s0_1).bind fun b => if b.2.2.1 = true then some (b.1, b.2.2.2.1, b.2.1, b.2.2.2.2.2) else some (0, b.2.2.2.1, b.2.2.2.2.1, 9) else some (0, s0_0, s0_1, s0_2)
theorem codec_Reader_Uint.mono : ∀ a0 a1 a2 k, LeO (codec_Reader_Uint.f k a0 a1 a2) (codec_Reader_Uint.f (k + 1) a0 a1 a2) := by
  intro a0 a1 a2 k
  unfold codec_Reader_Uint.f
  repeat' first
      | (with_reducible exact codec_Reader_size.mono _ _ _ _ _)
      | (with_reducible exact LeO.refl _)
      | (with_reducible exact LeO.none _)
      | (with_reducible refine LeO.ite ?_ ?_)
      | (with_reducible refine LeO.bind ?_ (fun _ => ?_))
theorem codec_Reader_Uint.take (k : Nat) (g : Nat) (s0_0 : ByteArray) (s0_1 : Int) (s0_2 : Int) (r1 : Int) (r2 : ByteArray) (r3 : Int) (r4 : Int) (w0 w : World) (hI : IsS89 w0 w g s0_0 s0_1 s0_2) (hB : Below w0.heap.size w0 w) (h : codec_Reader_Uint.f k s0_0 s0_1 s0_2 = some (r1, r2, r3, r4)) :
    Calls Try.prog 51 #[.pointer (some ⟨g, 0, none⟩), .func (.func 52) #[.pointer (some ⟨g, 0, none⟩)] #[]] w fun e w' => e = .returned (.int .i64 r1) ∧ IsS89 w0 w' g r2 r3 r4 ∧ Below w0.heap.size w0 w' ∧ KeepBut w w' g none := by
  unfold codec_Reader_Uint.f at h
  have hc1 := cellS89_1 hI.1
  have hc2 := cellS89_2 hI.1
  have HI := Aside0.mk hI
  clear hI
  by_cases e : s0_2 = 0
  · subst e
    rw [if_pos rfl] at h
    obtain ⟨⟨n, nx, ok, q0, q1, q2⟩, h1, h2⟩ := Option.bind_eq_some_iff.mp h
    have h1 := Aside0.mk h1
    clear h
    cases ok
    · cases h2
      go_enter Try.func51, Try.ntmps51
      go_wp2_with (go_at_call 52; refine (codec_Reader_size.calls _ _ _ _ _ _ _ _ _ _ _ _ w0 _ HI.out hB h1.out).mono ?_; rintro e w1 ⟨rfl, hI1, hB1, hK1⟩; have hc3 := cellS89_2 hI1.1; have hf3 := blk_frozen hI1.1 2)
      go_ret
      exact ⟨rfl, hI1.set_2 _, below_set hB1 hI1.2, hK1.set_ _ _⟩
    · cases h2
      go_enter Try.func51, Try.ntmps51
      go_wp2_with (go_at_call 52; refine (codec_Reader_size.calls _ _ _ _ _ _ _ _ _ _ _ _ w0 _ HI.out hB h1.out).mono ?_; rintro e w1 ⟨rfl, hI1, hB1, hK1⟩; have hc3 := cellS89_1 hI1.1; have hf3 := blk_frozen hI1.1 1)
      go_ret
      exact ⟨rfl, hI1.set_1 _, below_set hB1 hI1.2, hK1.set_ _ _⟩
  · rw [if_neg e] at h
    cases h
    have e1 : (s0_2 != 0) = true := bne_iff_ne.mpr e
    clear e
    go_enter Try.func51, Try.ntmps51
    go_wp2
    go_ret
    exact ⟨rfl, HI.out, hB, KeepBut.refl _ _ _⟩
theorem codec_Reader_Uint.calls (k : Nat) (g : Nat) (s0_0 : ByteArray) (s0_1 : Int) (s0_2 : Int) (r1 : Int) (r2 : ByteArray) (r3 : Int) (r4 : Int) (w0 w : World) (hI : IsS89 w0 w g s0_0 s0_1 s0_2) (hB : Below w0.heap.size w0 w) (h : codec_Reader_Uint.f k s0_0 s0_1 s0_2 = some (r1, r2, r3, r4)) :
    Calls Try.prog 24 #[.pointer (some ⟨g, 0, none⟩)] w fun e w' => e = .returned (.int .i64 r1) ∧ IsS89 w0 w' g r2 r3 r4 ∧ Below w0.heap.size w0 w' ∧ KeepBut w w' g none := by
  have HI := Aside0.mk hI
  clear hI
  have h := Aside0.mk h
  go_enter Try.func24, Try.ntmps24
  go_wp2_with (go_at_call 51; refine (codec_Reader_Uint.take _ _ _ _ _ _ _ _ _ w0 _ HI.out hB h.out).mono ?_; rintro e w1 ⟨rfl, hI1, hB1, hK1⟩)
  go_ret
  exact ⟨rfl, hI1, hB1, hK1⟩

/-! ### codec_Reader_Int: function 25, by hand -/
def codec_Reader_Int.f (k : Nat) (s0_0 : ByteArray) (s0_1 : Int) (s0_2 : Int) : Option (Int × ByteArray × Int × Int) :=
  if s0_2 = 0 then (codec_Reader_scan.f k s0_0 s0_1 s0_2 s0_1).bind fun b => if b.2.2.1 = true then some ((Go.bits .xor .i64 (wrap64 (b.1 / 2)) (wrap64 (-(wrap64 (Go.bits .and .u64 b.1 1))))), b.2.2.2.1, b.2.1, b.2.2.2.2.2) else some (0, b.2.2.2.1, b.2.2.2.2.1, 9) else some (0, s0_0, s0_1, s0_2)
theorem codec_Reader_Int.mono : ∀ a0 a1 a2 k, LeO (codec_Reader_Int.f k a0 a1 a2) (codec_Reader_Int.f (k + 1) a0 a1 a2) := by
  intro a0 a1 a2 k
  unfold codec_Reader_Int.f
  repeat' first
      | (with_reducible exact codec_Reader_scan.mono _ _ _ _ _)
      | (with_reducible exact LeO.refl _)
      | (with_reducible exact LeO.none _)
      | (with_reducible refine LeO.ite ?_ ?_)
      | (with_reducible refine LeO.bind ?_ (fun _ => ?_))
theorem codec_Reader_Int.fn (k g b : Nat) (s0_0 : ByteArray) (s0_1 s0_2 a1 r1 r2 : Int) (r3 : Bool) (r4 : ByteArray) (r5 r6 : Int) (w0 w : World) (hI : IsS89 w0 w g s0_0 s0_1 s0_2) (hB : Below w0.heap.size w0 w) (hbox : w.cell? ⟨b, 0, none⟩ = some (.pointer (some ⟨g, 0, none⟩)))
    (h : codec_Reader_scan.f k s0_0 s0_1 s0_2 a1 = some (r1, r2, r3, r4, r5, r6)) :
    Calls Try.prog 53 #[.int .i64 a1, .pointer (some ⟨b, 0, none⟩)] w fun e w' =>
      e = .returned (.tuple #[.int .i64 (Go.bits .xor .i64 (wrap64 (r1 / 2)) (wrap64 (-(wrap64 (Go.bits .and .u64 r1 1))))), .int .i64 r2, .bool r3]) ∧ IsS89 w0 w' g r4 r5 r6 ∧ Below w0.heap.size w0 w' ∧ KeepBut w w' g none := by
  have HI := Aside0.mk hI
  clear hI
  have h := Aside0.mk h
  go_enter Try.func53, Try.ntmps53
  go_wp2_with (go_at_call 54; refine (codec_Reader_scan.calls _ _ _ _ _ _ _ _ _ _ _ _ w0 _ HI.out hB h.out).mono ?_; rintro e w1 ⟨rfl, hI1, hB1, hK1⟩)
  go_ret3
  exact ⟨rfl, hI1, hB1, hK1⟩
theorem codec_Reader_Int.take (k : Nat) (g b : Nat) (s0_0 : ByteArray) (s0_1 : Int) (s0_2 : Int) (r1 : Int) (r2 : ByteArray) (r3 : Int) (r4 : Int) (w0 w : World) (hI : IsS89 w0 w g s0_0 s0_1 s0_2) (hB : Below w0.heap.size w0 w) (hbox : w.cell? ⟨b, 0, none⟩ = some (.pointer (some ⟨g, 0, none⟩))) (h : codec_Reader_Int.f k s0_0 s0_1 s0_2 = some (r1, r2, r3, r4)) :
    Calls Try.prog 51 #[.pointer (some ⟨g, 0, none⟩), .func (.func 53) #[] #[.pointer (some ⟨b, 0, none⟩)]] w fun e w' => e = .returned (.int .i64 r1) ∧ IsS89 w0 w' g r2 r3 r4 ∧ Below w0.heap.size w0 w' ∧ KeepBut w w' g none := by
  unfold codec_Reader_Int.f at h
  have hc1 := cellS89_1 hI.1
  have hc2 := cellS89_2 hI.1
  have HI := Aside0.mk hI
  clear hI
  by_cases e : s0_2 = 0
  · subst e
    rw [if_pos rfl] at h
    obtain ⟨⟨n, nx, ok, q0, q1, q2⟩, h1, h2⟩ := Option.bind_eq_some_iff.mp h
    have h1 := Aside0.mk h1
    clear h
    cases ok
    ·
      cases h2
      go_enter Try.func51, Try.ntmps51
      go_wp2_with (go_at_call 53; refine (codec_Reader_Int.fn _ _ _ _ _ _ _ _ _ _ _ _ _ w0 _ HI.out hB hbox h1.out).mono ?_; rintro e w1 ⟨rfl, hI1, hB1, hK1⟩; have hc3 := cellS89_2 hI1.1; have hf3 := blk_frozen hI1.1 2)
      go_ret
      exact ⟨rfl, hI1.set_2 _, below_set hB1 hI1.2, hK1.set_ _ _⟩
    ·
      cases h2
      go_enter Try.func51, Try.ntmps51
      go_wp2_with (go_at_call 53; refine (codec_Reader_Int.fn _ _ _ _ _ _ _ _ _ _ _ _ _ w0 _ HI.out hB hbox h1.out).mono ?_; rintro e w1 ⟨rfl, hI1, hB1, hK1⟩; have hc3 := cellS89_1 hI1.1; have hf3 := blk_frozen hI1.1 1)
      go_ret
      exact ⟨rfl, hI1.set_1 _, below_set hB1 hI1.2, hK1.set_ _ _⟩

  · rw [if_neg e] at h
    cases h
    have e1 : (s0_2 != 0) = true := bne_iff_ne.mpr e
    clear e
    go_enter Try.func51, Try.ntmps51
    go_wp2
    go_ret
    exact ⟨rfl, HI.out, hB, KeepBut.refl _ _ _⟩
theorem codec_Reader_Int.calls (k : Nat) (g : Nat) (s0_0 : ByteArray) (s0_1 : Int) (s0_2 : Int) (r1 : Int) (r2 : ByteArray) (r3 : Int) (r4 : Int) (w0 w : World) (hI : IsS89 w0 w g s0_0 s0_1 s0_2) (hB : Below w0.heap.size w0 w) (h : codec_Reader_Int.f k s0_0 s0_1 s0_2 = some (r1, r2, r3, r4)) :
    Calls Try.prog 25 #[.pointer (some ⟨g, 0, none⟩)] w fun e w' => e = .returned (.int .i64 r1) ∧ IsS89 w0 w' g r2 r3 r4 ∧ Below w0.heap.size w0 w' ∧ KeepBut w w' g none := by
  have h := Aside0.mk h
  have HI := Aside0.mk hI
  clear hI
  have hX := Aside0.mk (IsS89.alloc HI.out (.cells #[.pointer (some ⟨g, 0, none⟩)] 33))
  have hY := Aside0.mk (below_alloc hB (.cells #[.pointer (some ⟨g, 0, none⟩)] 33))
  have hZ := Aside0.mk (show (w.alloc (.cells #[.pointer (some ⟨g, 0, none⟩)] 33)).cell? ⟨w.heap.size, 0, none⟩ = some (.pointer (some ⟨g, 0, none⟩)) by simp)
  go_enter Try.func25, Try.ntmps25
  go_wp2_with (go_at_call 51; refine (codec_Reader_Int.take _ _ _ _ _ _ _ _ _ _ w0 _ hX.out hY.out hZ.out h.out).mono ?_; rintro e w1 ⟨rfl, hI1, hB1, hK1⟩)
  go_ret
  exact ⟨rfl, hI1, hB1, keep_of_alloc hK1⟩

/-! ### codec_Reader_text: function 56 -/
def codec_Reader_text.f (k : Nat) (s0_0 : ByteArray) (s0_1 : Int) (s0_2 : Int) (a1 : Int) : Option (ByteArray × Int × Bool × ByteArray × Int × Int) := (codec_Reader_size.f k s0_0 s0_1 s0_2 a1).bind fun bt117 => (if bt117.2.2.1 = true then (if bt117.1 > (wrap64 ((bt117.2.2.2.1.size : Int) - bt117.2.1)) then (some ((⟨#[]⟩ : ByteArray), 0, false, bt117.2.2.2.1, bt117.2.2.2.2.1, bt117.2.2.2.2.2)) else (if 0 ≤ bt117.2.1 then (if bt117.2.1 ≤ (wrap64 (bt117.2.1 + bt117.1)) then (if (wrap64 (bt117.2.1 + bt117.1)) ≤ (bt117.2.2.2.1.size : Int) then (some (bt117.2.2.2.1.extract (bt117.2.1 : Int).toNat ((wrap64 (bt117.2.1 + bt117.1)) : Int).toNat, wrap64 (bt117.2.1 + bt117.1), true, bt117.2.2.2.1, bt117.2.2.2.2.1, bt117.2.2.2.2.2)) else (none)) else (none)) else (none))) else (some ((⟨#[]⟩ : ByteArray), 0, false, bt117.2.2.2.1, bt117.2.2.2.2.1, bt117.2.2.2.2.2)))
theorem codec_Reader_text.mono : ∀ a0 a1 a2 a3 k, LeO (codec_Reader_text.f k a0 a1 a2 a3) (codec_Reader_text.f (k + 1) a0 a1 a2 a3) := by
  intro a0 a1 a2 a3 k
  unfold codec_Reader_text.f
  repeat' first
      | (with_reducible exact codec_Reader_size.mono _ _ _ _ _)
      | (with_reducible exact LeO.refl _)
      | (with_reducible exact LeO.none _)
      | (with_reducible refine LeO.ite ?_ ?_)
      | (with_reducible refine LeO.bind ?_ (fun _ => ?_))
      | exact codec_Reader_size.mono _ _ _ _ _
      | exact LeO.none _
      | refine LeO.ite ?_ ?_
      | refine LeO.bind ?_ (fun _ => ?_)
set_option maxHeartbeats 8000000 in
set_option maxRecDepth 100000 in
theorem codec_Reader_text.calls (k : Nat) (g : Nat) (s0_0 : ByteArray) (s0_1 : Int) (s0_2 : Int) (a1 : Int) (r1 : ByteArray) (r2 : Int) (r3 : Bool) (r4 : ByteArray) (r5 : Int) (r6 : Int) (w0 w : World) (hI : IsS89 w0 w g s0_0 s0_1 s0_2) (hB : Below w0.heap.size w0 w) (h : codec_Reader_text.f k s0_0 s0_1 s0_2 a1 = some (r1, r2, r3, r4, r5, r6)) :
    Calls Try.prog 56 #[.pointer (some ⟨g, 0, none⟩), .int .i64 a1] w fun e w' => e = .returned (.tuple #[.string r1, .int .i64 r2, .bool r3]) ∧ IsS89 w0 w' g r4 r5 r6 ∧ Below w0.heap.size w0 w' ∧ KeepBut w w' g none := by
  have HI0 := Aside0.mk hI
  have HK := Aside0.mk (KeepBut.refl w g none)
  have HL := Aside0.mk hB.size
  clear hI
  have HW0 := Aside0.mk hB.size
  have HB := Aside0.mk hB
  clear hB
  have H : ((codec_Reader_size.f k s0_0 s0_1 s0_2 a1).bind fun bt117 => (if bt117.2.2.1 = true then (if bt117.1 > (wrap64 ((bt117.2.2.2.1.size : Int) - bt117.2.1)) then (some ((⟨#[]⟩ : ByteArray), 0, false, bt117.2.2.2.1, bt117.2.2.2.2.1, bt117.2.2.2.2.2)) else (if 0 ≤ bt117.2.1 then (if bt117.2.1 ≤ (wrap64 (bt117.2.1 + bt117.1)) then (if (wrap64 (bt117.2.1 + bt117.1)) ≤ (bt117.2.2.2.1.size : Int) then (some (bt117.2.2.2.1.extract (bt117.2.1 : Int).toNat ((wrap64 (bt117.2.1 + bt117.1)) : Int).toNat, wrap64 (bt117.2.1 + bt117.1), true, bt117.2.2.2.1, bt117.2.2.2.2.1, bt117.2.2.2.2.2)) else (none)) else (none)) else (none))) else (some ((⟨#[]⟩ : ByteArray), 0, false, bt117.2.2.2.1, bt117.2.2.2.2.1, bt117.2.2.2.2.2)))) = some (r1, r2, r3, r4, r5, r6) := h
  clear h
  replace H := Option.bind_eq_some_iff.mp H
  obtain ⟨⟨t117, t118, t119, t120, t121, t122⟩, A30, H⟩ := H
  replace H : (if t119 = true then (if t117 > (wrap64 ((t120.size : Int) - t118)) then (some ((⟨#[]⟩ : ByteArray), 0, false, t120, t121, t122)) else (if 0 ≤ t118 then (if t118 ≤ (wrap64 (t118 + t117)) then (if (wrap64 (t118 + t117)) ≤ (t120.size : Int) then (some (t120.extract (t118 : Int).toNat ((wrap64 (t118 + t117)) : Int).toNat, wrap64 (t118 + t117), true, t120, t121, t122)) else (none)) else (none)) else (none))) else (some ((⟨#[]⟩ : ByteArray), 0, false, t120, t121, t122))) = some (r1, r2, r3, r4, r5, r6) := H
  have A3 := Aside0.mk A30
  clear A30
  by_cases c4 : t119 = true
  · subst c4
    have H1 : (if t117 > (wrap64 ((t120.size : Int) - t118)) then (some ((⟨#[]⟩ : ByteArray), 0, false, t120, t121, t122)) else (if 0 ≤ t118 then (if t118 ≤ (wrap64 (t118 + t117)) then (if (wrap64 (t118 + t117)) ≤ (t120.size : Int) then (some (t120.extract (t118 : Int).toNat ((wrap64 (t118 + t117)) : Int).toNat, wrap64 (t118 + t117), true, t120, t121, t122)) else (none)) else (none)) else (none))) = some (r1, r2, r3, r4, r5, r6) := by rw [if_pos rfl] at H; exact H
    clear H
    have H := H1
    clear H1
    by_cases c5 : t117 > (wrap64 ((t120.size : Int) - t118))
    · rw [if_pos c5] at H
      have c5b0 : decide ((wrap64 ((t120.size : Int) - t118)) < t117) = true := decide_eq_true c5
      clear c5
      simp only [Option.some.injEq, Prod.mk.injEq] at H
      obtain ⟨rfl, rfl, rfl, rfl, rfl, rfl⟩ := H
      go_enter Try.func56, Try.ntmps56
      go_wp2_with (first | ((with_reducible refine gate_callee (f := 52) rfl ?_); refine goesL_ (some 13) rfl rfl Try.func52 (by kernel_rfl) rfl #[.pointer (some ⟨g, 0, none⟩), .int .i64 a1] rfl (by (try simp only [List.map_toArray, List.map_cons, List.map_nil]); first | done | rfl | (simp only [List.length_drop, List.length_take]; rfl)) ?_; (with_reducible refine (codec_Reader_size.calls k g s0_0 s0_1 s0_2 a1 t117 t118 true t120 t121 t122 w0 _ ?side1 ?side2 A3.out).mono ?_); (case side1 => repeat (first | (with_reducible first | exact HI0.out | apply IsS89.alloc | apply IsS89.drewN | apply IsS89.drew | apply IsS89.set_0 | apply IsS89.set_1 | apply IsS89.set_2) | exact HI0.out)); (case side2 => repeat (first | (with_reducible first | exact HB.out | apply below_alloc | apply pw_below_drewN | apply below_drew1 | refine below_set ?_ (IsS89.ge HI0.out)) | exact HB.out)); rintro e w6 ⟨rfl, hi, hb, hk⟩; refine ⟨_, rfl, ?_⟩; have n0_ := Aside0.mk (KeepBut.trans (by repeat (first | (with_reducible first | exact HK.out | apply KeepBut.set_ | apply keep_drewN | apply keep_drew | apply keep_alloc) | exact HK.out)) hk (.inl rfl)); have n1_ := Aside0.mk (hb); have n2_ := Aside0.mk (hi); clear HK; clear HB; clear HI0; have HK := n0_; have HB := n1_; have HI0 := n2_; clear n0_ n1_ n2_; (try clear hb); (try clear hb2); (try clear hk); (try clear hi); obtain ⟨HGz7, hgz7⟩ := HI0.out; have hcz7_0 := cellS89_0 HGz7; have hcz7_1 := cellS89_1 HGz7; have hcz7_2 := cellS89_2 HGz7; have hfz7_0 := blk_frozen HGz7 0; have hfz7_1 := blk_frozen HGz7 1; have hfz7_2 := blk_frozen HGz7 2; clear HGz7 hgz7))
      go_ret3
      exact ⟨by first | rfl | (simp [errW_none, errW_some] <;> rfl) | (simp [*, errW_none, errW_some] <;> rfl), by repeat (first | (with_reducible first | exact HI0.out | apply IsS89.alloc | apply IsS89.drewN | apply IsS89.drew | apply IsS89.set_0 | apply IsS89.set_1 | apply IsS89.set_2) | exact HI0.out), by repeat (first | (with_reducible first | exact HB.out | apply below_alloc | apply pw_below_drewN | apply below_drew1 | refine below_set ?_ (IsS89.ge HI0.out)) | exact HB.out), by repeat (first | (with_reducible first | exact HK.out | apply KeepBut.set_ | apply keep_drewN | apply keep_drew | apply keep_alloc) | exact HK.out)⟩
    · rw [if_neg c5] at H
      have c5b0 : decide ((wrap64 ((t120.size : Int) - t118)) < t117) = false := decide_eq_false c5
      clear c5
      by_cases c8 : 0 ≤ t118
      · rw [if_pos c8] at H
        have c8b0 := eq_true c8
        have c8b1 : decide (0 ≤ t118) = true := decide_eq_true c8
        clear c8
        by_cases c9 : t118 ≤ (wrap64 (t118 + t117))
        · rw [if_pos c9] at H
          have c9b0 := eq_true c9
          have c9b1 : decide (t118 ≤ (wrap64 (t118 + t117))) = true := decide_eq_true c9
          by_cases c10 : (wrap64 (t118 + t117)) ≤ (t120.size : Int)
          · rw [if_pos c10] at H
            have c10b0 := eq_true c10
            have c10b1 : decide ((wrap64 (t118 + t117)) ≤ (t120.size : Int)) = true := decide_eq_true c10
            simp only [Option.some.injEq, Prod.mk.injEq] at H
            obtain ⟨rfl, rfl, rfl, rfl, rfl, rfl⟩ := H
            go_enter Try.func56, Try.ntmps56
            go_wp2_with (first | ((with_reducible refine gate_callee (f := 52) rfl ?_); refine goesL_ (some 13) rfl rfl Try.func52 (by kernel_rfl) rfl #[.pointer (some ⟨g, 0, none⟩), .int .i64 a1] rfl (by (try simp only [List.map_toArray, List.map_cons, List.map_nil]); first | done | rfl | (simp only [List.length_drop, List.length_take]; rfl)) ?_; (with_reducible refine (codec_Reader_size.calls k g s0_0 s0_1 s0_2 a1 t117 t118 true t120 t121 t122 w0 _ ?side1 ?side2 A3.out).mono ?_); (case side1 => repeat (first | (with_reducible first | exact HI0.out | apply IsS89.alloc | apply IsS89.drewN | apply IsS89.drew | apply IsS89.set_0 | apply IsS89.set_1 | apply IsS89.set_2) | exact HI0.out)); (case side2 => repeat (first | (with_reducible first | exact HB.out | apply below_alloc | apply pw_below_drewN | apply below_drew1 | refine below_set ?_ (IsS89.ge HI0.out)) | exact HB.out)); rintro e w11 ⟨rfl, hi, hb, hk⟩; refine ⟨_, rfl, ?_⟩; have n0_ := Aside0.mk (KeepBut.trans (by repeat (first | (with_reducible first | exact HK.out | apply KeepBut.set_ | apply keep_drewN | apply keep_drew | apply keep_alloc) | exact HK.out)) hk (.inl rfl)); have n1_ := Aside0.mk (hb); have n2_ := Aside0.mk (hi); clear HK; clear HB; clear HI0; have HK := n0_; have HB := n1_; have HI0 := n2_; clear n0_ n1_ n2_; (try clear hb); (try clear hb2); (try clear hk); (try clear hi); obtain ⟨HGz12, hgz12⟩ := HI0.out; have hcz12_0 := cellS89_0 HGz12; have hcz12_1 := cellS89_1 HGz12; have hcz12_2 := cellS89_2 HGz12; have hfz12_0 := blk_frozen HGz12 0; have hfz12_1 := blk_frozen HGz12 1; have hfz12_2 := blk_frozen HGz12 2; clear HGz12 hgz12))
            go_ret3
            exact ⟨by first | rfl | (simp [errW_none, errW_some] <;> rfl) | (simp [*, errW_none, errW_some] <;> rfl), by repeat (first | (with_reducible first | exact HI0.out | apply IsS89.alloc | apply IsS89.drewN | apply IsS89.drew | apply IsS89.set_0 | apply IsS89.set_1 | apply IsS89.set_2) | exact HI0.out), by repeat (first | (with_reducible first | exact HB.out | apply below_alloc | apply pw_below_drewN | apply below_drew1 | refine below_set ?_ (IsS89.ge HI0.out)) | exact HB.out), by repeat (first | (with_reducible first | exact HK.out | apply KeepBut.set_ | apply keep_drewN | apply keep_drew | apply keep_alloc) | exact HK.out)⟩
          · rw [if_neg c10] at H
            exact absurd H (by simp)
        · rw [if_neg c9] at H
          exact absurd H (by simp)
      · rw [if_neg c8] at H
        exact absurd H (by simp)
  · replace c4 := Bool.eq_false_iff.mpr c4
    subst c4
    have H1 : (some ((⟨#[]⟩ : ByteArray), 0, false, t120, t121, t122)) = some (r1, r2, r3, r4, r5, r6) := by rw [if_neg (show ¬ (false = true) by decide)] at H; exact H
    clear H
    have H := H1
    clear H1
    simp only [Option.some.injEq, Prod.mk.injEq] at H
    obtain ⟨rfl, rfl, rfl, rfl, rfl, rfl⟩ := H
    go_enter Try.func56, Try.ntmps56
    go_wp2_with (first | ((with_reducible refine gate_callee (f := 52) rfl ?_); refine goesL_ (some 13) rfl rfl Try.func52 (by kernel_rfl) rfl #[.pointer (some ⟨g, 0, none⟩), .int .i64 a1] rfl (by (try simp only [List.map_toArray, List.map_cons, List.map_nil]); first | done | rfl | (simp only [List.length_drop, List.length_take]; rfl)) ?_; (with_reducible refine (codec_Reader_size.calls k g s0_0 s0_1 s0_2 a1 t117 t118 false t120 t121 t122 w0 _ ?side1 ?side2 A3.out).mono ?_); (case side1 => repeat (first | (with_reducible first | exact HI0.out | apply IsS89.alloc | apply IsS89.drewN | apply IsS89.drew | apply IsS89.set_0 | apply IsS89.set_1 | apply IsS89.set_2) | exact HI0.out)); (case side2 => repeat (first | (with_reducible first | exact HB.out | apply below_alloc | apply pw_below_drewN | apply below_drew1 | refine below_set ?_ (IsS89.ge HI0.out)) | exact HB.out)); rintro e w13 ⟨rfl, hi, hb, hk⟩; refine ⟨_, rfl, ?_⟩; have n0_ := Aside0.mk (KeepBut.trans (by repeat (first | (with_reducible first | exact HK.out | apply KeepBut.set_ | apply keep_drewN | apply keep_drew | apply keep_alloc) | exact HK.out)) hk (.inl rfl)); have n1_ := Aside0.mk (hb); have n2_ := Aside0.mk (hi); clear HK; clear HB; clear HI0; have HK := n0_; have HB := n1_; have HI0 := n2_; clear n0_ n1_ n2_; (try clear hb); (try clear hb2); (try clear hk); (try clear hi)))
    go_ret3
    exact ⟨by first | rfl | (simp [errW_none, errW_some] <;> rfl) | (simp [*, errW_none, errW_some] <;> rfl), by repeat (first | (with_reducible first | exact HI0.out | apply IsS89.alloc | apply IsS89.drewN | apply IsS89.drew | apply IsS89.set_0 | apply IsS89.set_1 | apply IsS89.set_2) | exact HI0.out), by repeat (first | (with_reducible first | exact HB.out | apply below_alloc | apply pw_below_drewN | apply below_drew1 | refine below_set ?_ (IsS89.ge HI0.out)) | exact HB.out), by repeat (first | (with_reducible first | exact HK.out | apply KeepBut.set_ | apply keep_drewN | apply keep_drew | apply keep_alloc) | exact HK.out)⟩

/-! ### codec_Reader_Text: function 26, by hand -/
def codec_Reader_Text.f (k : Nat) (s0_0 : ByteArray) (s0_1 : Int) (s0_2 : Int) : Option (ByteArray × ByteArray × Int × Int) :=
  if s0_2 = 0 then (codec_Reader_text.f k s0_0 s0_1 s0_2 s0_1).bind fun b => if b.2.2.1 = true then some (b.1, b.2.2.2.1, b.2.1, b.2.2.2.2.2) else some ((⟨#[]⟩ : ByteArray), b.2.2.2.1, b.2.2.2.2.1, 9) else some ((⟨#[]⟩ : ByteArray), s0_0, s0_1, s0_2)
theorem codec_Reader_Text.mono : ∀ a0 a1 a2 k, LeO (codec_Reader_Text.f k a0 a1 a2) (codec_Reader_Text.f (k + 1) a0 a1 a2) := by
  intro a0 a1 a2 k
  unfold codec_Reader_Text.f
  repeat' first
      | (with_reducible exact codec_Reader_text.mono _ _ _ _ _)
      | (with_reducible exact LeO.refl _)
      | (with_reducible exact LeO.none _)
      | (with_reducible refine LeO.ite ?_ ?_)
      | (with_reducible refine LeO.bind ?_ (fun _ => ?_))
theorem codec_Reader_Text.take (k : Nat) (g : Nat) (s0_0 : ByteArray) (s0_1 : Int) (s0_2 : Int) (r1 : ByteArray) (r2 : ByteArray) (r3 : Int) (r4 : Int) (w0 w : World) (hI : IsS89 w0 w g s0_0 s0_1 s0_2) (hB : Below w0.heap.size w0 w) (h : codec_Reader_Text.f k s0_0 s0_1 s0_2 = some (r1, r2, r3, r4)) :
    Calls Try.prog 55 #[.pointer (some ⟨g, 0, none⟩), .func (.func 56) #[.pointer (some ⟨g, 0, none⟩)] #[]] w fun e w' => e = .returned (.string r1) ∧ IsS89 w0 w' g r2 r3 r4 ∧ Below w0.heap.size w0 w' ∧ KeepBut w w' g none := by
  unfold codec_Reader_Text.f at h
  have hc1 := cellS89_1 hI.1
  have hc2 := cellS89_2 hI.1
  have HI := Aside0.mk hI
  clear hI
  by_cases e : s0_2 = 0
  · subst e
    rw [if_pos rfl] at h
    obtain ⟨⟨n, nx, ok, q0, q1, q2⟩, h1, h2⟩ := Option.bind_eq_some_iff.mp h
    have h1 := Aside0.mk h1
    clear h
    cases ok
    · cases h2
      go_enter Try.func55, Try.ntmps55
      go_wp2_with (go_at_call 56; refine (codec_Reader_text.calls _ _ _ _ _ _ _ _ _ _ _ _ w0 _ HI.out hB h1.out).mono ?_; rintro e w1 ⟨rfl, hI1, hB1, hK1⟩; have hc3 := cellS89_2 hI1.1; have hf3 := blk_frozen hI1.1 2)
      go_ret
      exact ⟨rfl, hI1.set_2 _, below_set hB1 hI1.2, hK1.set_ _ _⟩
    · cases h2
      go_enter Try.func55, Try.ntmps55
      go_wp2_with (go_at_call 56; refine (codec_Reader_text.calls _ _ _ _ _ _ _ _ _ _ _ _ w0 _ HI.out hB h1.out).mono ?_; rintro e w1 ⟨rfl, hI1, hB1, hK1⟩; have hc3 := cellS89_1 hI1.1; have hf3 := blk_frozen hI1.1 1)
      go_ret
      exact ⟨rfl, hI1.set_1 _, below_set hB1 hI1.2, hK1.set_ _ _⟩
  · rw [if_neg e] at h
    cases h
    have e1 : (s0_2 != 0) = true := bne_iff_ne.mpr e
    clear e
    go_enter Try.func55, Try.ntmps55
    go_wp2
    go_ret
    exact ⟨rfl, HI.out, hB, KeepBut.refl _ _ _⟩
theorem codec_Reader_Text.calls (k : Nat) (g : Nat) (s0_0 : ByteArray) (s0_1 : Int) (s0_2 : Int) (r1 : ByteArray) (r2 : ByteArray) (r3 : Int) (r4 : Int) (w0 w : World) (hI : IsS89 w0 w g s0_0 s0_1 s0_2) (hB : Below w0.heap.size w0 w) (h : codec_Reader_Text.f k s0_0 s0_1 s0_2 = some (r1, r2, r3, r4)) :
    Calls Try.prog 26 #[.pointer (some ⟨g, 0, none⟩)] w fun e w' => e = .returned (.string r1) ∧ IsS89 w0 w' g r2 r3 r4 ∧ Below w0.heap.size w0 w' ∧ KeepBut w w' g none := by
  have HI := Aside0.mk hI
  clear hI
  have h := Aside0.mk h
  go_enter Try.func26, Try.ntmps26
  go_wp2_with (go_at_call 55; refine (codec_Reader_Text.take _ _ _ _ _ _ _ _ _ w0 _ HI.out hB h.out).mono ?_; rintro e w1 ⟨rfl, hI1, hB1, hK1⟩)
  go_ret
  exact ⟨rfl, hI1, hB1, hK1⟩

end Go.Proofs.Ytldkkboeaadbeaa.Pr
end
