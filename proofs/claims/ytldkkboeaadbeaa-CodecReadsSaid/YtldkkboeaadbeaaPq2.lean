-- By a program of this session.
import Derived.Test.YtldkkboeaadbeaaRdAid
import Derived.Test.YtldkkboeaadbeaaPq0
import Derived.Test.YtldkkboeaadbeaaPr2
import Derived.Test.YtldkkboeaadbeaaPr7
import Derived.Test.YtldkkboeaadbeaaPq1
import Derived.Test.YtldkkboeaadbeaaPr13
import Derived.Test.YtldkkboeaadbeaaPr15
namespace Go.Proofs.Ytldkkboeaadbeaa.Pr
open Go.RowKit Go.Proofs.YtldkkboeaadbeaaW.PrintWords Go.Proofs.YtldkkboeaadbeaaW.PrintLast Go.Proofs.YtldkkboeaadbeaaW.PrintMore
attribute [local go_sem] max2_int min2_int max_two min_two max_three min_three max_four min_four   -- for this text's walks alone
attribute [local go_sem] isSome_setCell
set_option linter.unusedVariables false
set_option linter.unusedSimpArgs false

/-! ### modcertlaw02_CodecReads: function 6 -/
mutual
def modcertlaw02_CodecReads.j0 : Nat → ByteArray → List (S51) → Bool → Option (Bool)
  | 0, _, _, _ => none
  | k + 1, x0, x1, x17 => if x17 = true then (some true) else ((codec_NewReader.f x0).bind fun bt313 => ((modcertref02_Read.f k x0 x1).bind fun t317 => (modcertlaw02_CodecReads.l0 k x1 t317 (t317.length : Int) 0 bt313.1 bt313.2.1 bt313.2.2)))
def modcertlaw02_CodecReads.l0 : Nat → List (S51) → List (S47) → Int → Int → ByteArray → Int → Int → Option (Bool)
  | 0, _, _, _, _, _, _, _ => none
  | k + 1, x1, x24, x25, x26, x317000, x317001, x317002 => if x26 < x25 then (if 0 ≤ x26 then (if x26 < (x24.length : Int) then (if x26 < (x1.length : Int) then ((modcertlaw02_result.f k x317000 x317001 x317002 ((rd_T51 x1 x26).f0) ((rd_T51 x1 x26).f1)).bind fun bt323 => ((modcertref02_Same.f k bt323.1 bt323.2.1 bt323.2.2.1 bt323.2.2.2.1 ((rd_T47 x24 x26).f0) ((rd_T47 x24 x26).f1) ((rd_T47 x24 x26).f2) ((rd_T47 x24 x26).f3)).bind fun t332 => (if t332 = true then (modcertlaw02_CodecReads.l0 k x1 x24 x25 (wrap64 (x26 + 1)) bt323.2.2.2.2.1 bt323.2.2.2.2.2.1 bt323.2.2.2.2.2.2) else (some false)))) else (none)) else (none)) else (none)) else (some true)
end
def modcertlaw02_CodecReads.f (k : Nat) (a0 : ByteArray) (l1 : List (S51)) : Option (Bool) := (modcertlaw02_awake.f k).bind fun t312 => (if t312 = true then (if (a0.size : Int) > 2000 then (modcertlaw02_CodecReads.j0 k a0 l1 true) else (modcertlaw02_CodecReads.j0 k a0 l1 (decide ((l1.length : Int) > 30)))) else (some false))
theorem modcertlaw02_CodecReads.mono_l : ∀ k, (∀ y0 y1 y2, LeO (modcertlaw02_CodecReads.j0 k y0 y1 y2) (modcertlaw02_CodecReads.j0 (k + 1) y0 y1 y2)) ∧ (∀ y0 y1 y2 y3 y4 y5 y6, LeO (modcertlaw02_CodecReads.l0 k y0 y1 y2 y3 y4 y5 y6) (modcertlaw02_CodecReads.l0 (k + 1) y0 y1 y2 y3 y4 y5 y6))
  | 0 => ⟨fun _ _ _ r h => by simp [modcertlaw02_CodecReads.j0] at h, fun _ _ _ _ _ _ _ r h => by simp [modcertlaw02_CodecReads.l0] at h⟩
  | k + 1 => by
    obtain ⟨ih0, ih1⟩ := modcertlaw02_CodecReads.mono_l k
    refine ⟨?_, ?_⟩
    · intro y0 y1 y2
      unfold modcertlaw02_CodecReads.j0
      repeat' first
      | (with_reducible exact ih0 _ _ _)
      | (with_reducible exact ih1 _ _ _ _ _ _ _)
      | (with_reducible exact modcertlaw02_awake.mono _)
      | (with_reducible exact modcertlaw02_result.mono _ _ _ _ _ _)
      | (with_reducible exact modcertref02_Read.mono _ _ _)
      | (with_reducible exact modcertref02_Same.mono _ _ _ _ _ _ _ _ _)
      | (with_reducible exact LeO.refl _)
      | (with_reducible exact LeO.none _)
      | (with_reducible refine LeO.ite ?_ ?_)
      | (with_reducible refine LeO.bind ?_ (fun _ => ?_))
      | exact ih0 _ _ _
      | exact ih1 _ _ _ _ _ _ _
      | exact modcertlaw02_awake.mono _
      | exact modcertlaw02_result.mono _ _ _ _ _ _
      | exact modcertref02_Read.mono _ _ _
      | exact modcertref02_Same.mono _ _ _ _ _ _ _ _ _
      | exact LeO.none _
      | refine LeO.ite ?_ ?_
      | refine LeO.bind ?_ (fun _ => ?_)
    · intro y0 y1 y2 y3 y4 y5 y6
      unfold modcertlaw02_CodecReads.l0
      repeat' first
      | (with_reducible exact ih0 _ _ _)
      | (with_reducible exact ih1 _ _ _ _ _ _ _)
      | (with_reducible exact modcertlaw02_awake.mono _)
      | (with_reducible exact modcertlaw02_result.mono _ _ _ _ _ _)
      | (with_reducible exact modcertref02_Read.mono _ _ _)
      | (with_reducible exact modcertref02_Same.mono _ _ _ _ _ _ _ _ _)
      | (with_reducible exact LeO.refl _)
      | (with_reducible exact LeO.none _)
      | (with_reducible refine LeO.ite ?_ ?_)
      | (with_reducible refine LeO.bind ?_ (fun _ => ?_))
      | exact ih0 _ _ _
      | exact ih1 _ _ _ _ _ _ _
      | exact modcertlaw02_awake.mono _
      | exact modcertlaw02_result.mono _ _ _ _ _ _
      | exact modcertref02_Read.mono _ _ _
      | exact modcertref02_Same.mono _ _ _ _ _ _ _ _ _
      | exact LeO.none _
      | refine LeO.ite ?_ ?_
      | refine LeO.bind ?_ (fun _ => ?_)
theorem modcertlaw02_CodecReads.mono : ∀ a0 a1 k, LeO (modcertlaw02_CodecReads.f k a0 a1) (modcertlaw02_CodecReads.f (k + 1) a0 a1) := by
  intro a0 a1 k
  obtain ⟨ih0, ih1⟩ := modcertlaw02_CodecReads.mono_l k
  unfold modcertlaw02_CodecReads.f
  repeat' first
      | (with_reducible exact ih0 _ _ _)
      | (with_reducible exact ih1 _ _ _ _ _ _ _)
      | (with_reducible exact modcertlaw02_awake.mono _)
      | (with_reducible exact modcertlaw02_result.mono _ _ _ _ _ _)
      | (with_reducible exact modcertref02_Read.mono _ _ _)
      | (with_reducible exact modcertref02_Same.mono _ _ _ _ _ _ _ _ _)
      | (with_reducible exact LeO.refl _)
      | (with_reducible exact LeO.none _)
      | (with_reducible refine LeO.ite ?_ ?_)
      | (with_reducible refine LeO.bind ?_ (fun _ => ?_))
      | exact ih0 _ _ _
      | exact ih1 _ _ _ _ _ _ _
      | exact modcertlaw02_awake.mono _
      | exact modcertlaw02_result.mono _ _ _ _ _ _
      | exact modcertref02_Read.mono _ _ _
      | exact modcertref02_Same.mono _ _ _ _ _ _ _ _ _
      | exact LeO.none _
      | refine LeO.ite ?_ ?_
      | refine LeO.bind ?_ (fun _ => ?_)
def modcertlaw02_CodecReads.T11 : Bool × List (List Nat × List Nat) := (true, [([], []), ([], []), ([], []), ([1, 2], [1, 2]), ([3], [3]), ([0, 4], [0, 4]), ([], []), ([5, 6, 5], [5, 6]), ([7], [7])])
def modcertlaw02_CodecReads.B11 : List Nat := [0, 0, 0, 6, 14, 31, 0, 127, 255]
theorem modcertlaw02_CodecReads.tab11 : rtab .any (opsOf Try.f6 11) = modcertlaw02_CodecReads.T11 := by kernel_rfl
theorem modcertlaw02_CodecReads.bits11 : waitsOk modcertlaw02_CodecReads.T11.2 modcertlaw02_CodecReads.B11 = true := by kernel_rfl
set_option maxHeartbeats 8000000 in
set_option maxRecDepth 100000 in
theorem modcertlaw02_CodecReads.calls (k : Nat) (a0 : ByteArray) (A1 : Option Addr) (c1 : Nat) (l1 : List (S51)) (r : Bool) (w : World) (hr1 : Kd.C k51 w A1 l1.length l1) (hc1 : l1.length ≤ c1) (h : modcertlaw02_CodecReads.f k a0 l1 = some r) :
    Calls Try.prog 6 #[.string a0, .slice A1 l1.length c1] w fun e w' => e = .returned (.bool r) ∧ Below w.heap.size w w' := by
  have hu47 := Try.underlying47
  have hu51 := Try.underlying51
  have HR1 := Aside0.mk hr1
  have HC1 := Aside0.mk hc1
  clear hr1 hc1
  have HB := Aside0.mk (Below.refl w.heap.size w)
  have H : ((modcertlaw02_awake.f k).bind fun t312 => (if t312 = true then (if (a0.size : Int) > 2000 then (modcertlaw02_CodecReads.j0 k a0 l1 true) else (modcertlaw02_CodecReads.j0 k a0 l1 (decide ((l1.length : Int) > 30)))) else (some false))) = some r := h
  clear h
  replace H := Option.bind_eq_some_iff.mp H
  obtain ⟨t312, A30, H⟩ := H
  replace H : (if t312 = true then (if (a0.size : Int) > 2000 then (modcertlaw02_CodecReads.j0 k a0 l1 true) else (modcertlaw02_CodecReads.j0 k a0 l1 (decide ((l1.length : Int) > 30)))) else (some false)) = some r := H
  have A3 := Aside0.mk A30
  clear A30
  by_cases c4 : t312 = true
  · subst c4
    have H1 : (if (a0.size : Int) > 2000 then (modcertlaw02_CodecReads.j0 k a0 l1 true) else (modcertlaw02_CodecReads.j0 k a0 l1 (decide ((l1.length : Int) > 30)))) = some r := by rw [if_pos rfl] at H; exact H
    clear H
    have H := H1
    clear H1
    have HC5 := Aside0.mk H
    clear H
    go_enter Try.func6, Try.ntmps6
    go_upto_region 3 with (first | ((with_reducible refine gate_callee (f := 13) rfl ?_); refine goesL_ (some 8) rfl rfl Try.func13 (by kernel_rfl) rfl #[] rfl (by (try simp only [List.map_toArray, List.map_cons, List.map_nil]); first | done | rfl | (simp only [List.length_drop, List.length_take]; rfl)) ?_; (with_reducible refine (modcertlaw02_awake.calls k  true _ A3.out).mono ?_); rintro e w6 ⟨rfl, hb⟩; refine ⟨_, rfl, ?_⟩; have n0_ := Aside0.mk (below_step (by repeat (first | (with_reducible first | exact HB.out | apply below_alloc | apply pw_below_drewN | apply below_drew1) | exact HB.out)) hb); clear HB; have HB := n0_; clear n0_; (try clear hb); (try clear hb2); (try clear hk); (try clear hi)))
    (try simp only [Act.put, List.setIfInBounds_toArray, List.set_cons_zero, List.set_cons_succ])
    go_cut [17] (fun v17 wc => ∃ (kq : Nat) (x17_4 : Bool), v17 = .bool x17_4 ∧ Aside0 (modcertlaw02_CodecReads.j0 kq a0 l1 x17_4 = some r) ∧ Aside0 (kq ≤ k) ∧ Aside0 (Below w.heap.size w wc))
    case first =>
      have H := HC5.out
      clear HC5
      by_cases c7 : (a0.size : Int) > 2000
      · rw [if_pos c7] at H
        have c7b0 : decide (2000 < (a0.size : Int)) = true := decide_eq_true c7
        have c7b1 : decide (2000 < a0.size) = true := decide_eq_true (by omega)
        clear c7
        (first | rw [c7b0] | (simp only [i64_w, i32_w]; rw [c7b0]) | skip)
        have H' := Aside0.mk H
        clear H
        go_wp2
        go_meet
        case rel => exact ⟨_, (true), (by first | rfl | (simp; done) | (simp [*]; done)), H', ⟨by first | omega | exact Nat.le_refl _⟩, ⟨by repeat (first | (with_reducible first | exact HB.out | apply below_alloc | apply pw_below_drewN | apply below_drew1) | exact HB.out)⟩⟩
      · rw [if_neg c7] at H
        have c7b0 : decide (2000 < (a0.size : Int)) = false := decide_eq_false c7
        have c7b1 : decide (2000 < a0.size) = false := decide_eq_false (by omega)
        clear c7
        (first | rw [c7b0] | (simp only [i64_w, i32_w]; rw [c7b0]) | skip)
        have H' := Aside0.mk H
        clear H
        go_wp2
        go_meet
        case rel => exact ⟨_, (decide ((l1.length : Int) > 30)), (by first | rfl | (simp; done) | (simp [*]; done)), H', ⟨by first | omega | exact Nat.le_refl _⟩, ⟨by repeat (first | (with_reducible first | exact HB.out | apply below_alloc | apply pw_below_drewN | apply below_drew1) | exact HB.out)⟩⟩
    case rest =>
      clear HC5
      try clear c1
      try clear p2
      try clear c4
      try clear c6
      try clear c7
      try clear c7b0
      try clear c7b1
      obtain ⟨kq, x17_4, rfl, HA, HJ4, HB⟩ := hcut
      cases kq with
      | zero => exact absurd HA.out (by simp [modcertlaw02_CodecReads.j0])
      | succ kj4 =>
        have H := HA.out
        clear HA
        simp only [modcertlaw02_CodecReads.j0] at H
        by_cases c8 : x17_4 = true
        · subst c8
          have H1 : (some true) = some r := by rw [if_pos rfl] at H; exact H
          clear H
          have H := H1
          clear H1
          obtain rfl := Option.some.inj H
          go_wp2
          go_ret
          exact ⟨by first | rfl | (simp [errW_none, errW_some] <;> rfl) | (simp [*, errW_none, errW_some] <;> rfl), by repeat (first | (with_reducible first | exact HB.out | apply below_alloc | apply pw_below_drewN | apply below_drew1) | exact HB.out)⟩
        · replace c8 := Bool.eq_false_iff.mpr c8
          subst c8
          have H1 : ((codec_NewReader.f a0).bind fun bt313 => ((modcertref02_Read.f kj4 a0 l1).bind fun t317 => (modcertlaw02_CodecReads.l0 kj4 l1 t317 (t317.length : Int) 0 bt313.1 bt313.2.1 bt313.2.2))) = some r := by rw [if_neg (show ¬ (false = true) by decide)] at H; exact H
          clear H
          have H := H1
          clear H1
          replace H := Option.bind_eq_some_iff.mp H
          obtain ⟨⟨t313, t314, t315⟩, A90, H⟩ := H
          replace H : ((modcertref02_Read.f kj4 a0 l1).bind fun t317 => (modcertlaw02_CodecReads.l0 kj4 l1 t317 (t317.length : Int) 0 t313 t314 t315)) = some r := H
          have A9 := Aside0.mk A90
          clear A90
          replace H := Option.bind_eq_some_iff.mp H
          obtain ⟨t317, A100, H⟩ := H
          replace H : (modcertlaw02_CodecReads.l0 kj4 l1 t317 (t317.length : Int) 0 t313 t314 t315) = some r := H
          have A10 := Aside0.mk A100
          clear A100
          have H' := Aside0.mk H
          clear H
          go_wp2_with (first | ((with_reducible refine gate_callee (f := 23) rfl ?_); refine goesL_ (some 19) rfl rfl Try.func23 (by kernel_rfl) rfl #[.string a0] rfl (by (try simp only [List.map_toArray, List.map_cons, List.map_nil]); first | done | rfl | (simp only [List.length_drop, List.length_take]; rfl)) ?_; (with_reducible refine (codec_NewReader.calls a0 t313 t314 t315 w _ ?side1 A9.out).mono ?_); (case side1 => repeat (first | (with_reducible first | exact HB.out | apply below_alloc | apply pw_below_drewN | apply below_drew1) | exact HB.out)); rintro e w11 ⟨g316, rfl, hi, hb, hb2⟩; refine ⟨_, rfl, ?_⟩; have n0_ := Aside0.mk (hb); have n1_ := Aside0.mk (hi); clear HB; have HB := n0_; have HI316 := n1_; clear n0_ n1_; (try clear hb); (try clear hb2); (try clear hk); (try clear hi)) | ((with_reducible refine gate_callee (f := 31) rfl ?_); refine goesL_ (some 24) rfl rfl Try.func31 (by kernel_rfl) rfl #[.string a0, .slice A1 l1.length c1] rfl (by (try simp only [List.map_toArray, List.map_cons, List.map_nil]); first | done | rfl | (simp only [List.length_drop, List.length_take]; rfl)) ?_; (with_reducible refine (modcertref02_Read.calls kj4 a0 _ _ l1 t317 _ ?side1 ?side2 A10.out).mono ?_); (case side1 => repeat (first | exact (Kd.C_below HR1.out HB.out) | (with_reducible refine Kd.C_alloc ?_ _) | (with_reducible refine Kd.C_drewN ?_ _) | (with_reducible refine Kd.C_drew ?_))); (case side2 => exact HC1.out); rintro e w12 ⟨v318, rfl, ho0, hb⟩; refine ⟨_, rfl, ?_⟩; have n0_ := Aside0.mk (Kd.S_lower ho0 (below_size (by repeat (first | (with_reducible first | exact HB.out | apply below_alloc | apply pw_below_drewN | apply below_drew1 | refine below_set ?_ (IsS89.ge HI316.out)) | exact HB.out)))); have n1_ := Aside0.mk (IsS89.below (by repeat (first | (with_reducible first | exact HI316.out | apply IsS89.alloc | apply IsS89.drewN | apply IsS89.drew | apply IsS89.set_0 | apply IsS89.set_1 | apply IsS89.set_2) | exact HI316.out)) hb); have n2_ := Aside0.mk (below_step (by repeat (first | (with_reducible first | exact HB.out | apply below_alloc | apply pw_below_drewN | apply below_drew1 | refine below_set ?_ (IsS89.ge HI316.out)) | exact HB.out)) hb); clear HI316; clear HB; have HO319 := n0_; have HI316 := n1_; have HB := n2_; clear n0_ n1_ n2_; (try clear hb); (try clear hb2); (try clear hk); (try clear hi); (try clear ho0); obtain ⟨Ao13, co13, eo13⟩ := Kd.S_slice HO319.out; subst eo13))
          go_loopg [26] kj4 (fun kq v26 w' => ∃ (x26_2 : Int) (x317000_2 : ByteArray) (x317001_2 : Int) (x317002_2 : Int), v26 = .int .i64 x26_2 ∧ Aside0 (modcertlaw02_CodecReads.l0 kq l1 t317 (t317.length : Int) x26_2 x317000_2 x317001_2 x317002_2 = some r) ∧ Aside0 (kq ≤ kj4) ∧ Aside0 (Kd.S k47 47 w' w.heap.size (fun _ => True) (.slice Ao13 t317.length co13) t317) ∧ Aside0 (IsS89 w w' g316 x317000_2 x317001_2 x317002_2) ∧ Aside0 (Below w.heap.size w w'))
          case atStart => exact ⟨(0), (t313), (t314), (t315), (by first | rfl | (simp; done) | (simp [*]; done)), H', ⟨Nat.le_refl _⟩, ⟨by (with_reducible repeat (first | apply Kd.S_alloc | apply Kd.S_drewN | apply Kd.S_drew)); exact HO319.out⟩, ⟨by repeat (first | (with_reducible first | exact HI316.out | apply IsS89.alloc | apply IsS89.drewN | apply IsS89.drew | apply IsS89.set_0 | apply IsS89.set_1 | apply IsS89.set_2) | exact HI316.out)⟩, ⟨by repeat (first | (with_reducible first | exact HB.out | apply below_alloc | apply pw_below_drewN | apply below_drew1 | refine below_set ?_ (IsS89.ge HI316.out)) | exact HB.out)⟩⟩
          case round =>
            clear H'
            try clear c1
            try clear c2
            try clear p2
            try clear c3
            try clear c4
            try clear c6
            try clear c7
            try clear c7b0
            try clear c7b1
            try clear c8
            try clear c13
            try clear p2
            obtain ⟨x26_2, x317000_2, x317001_2, x317002_2, rfl, HA, HK2, HO_24, HI316, HB⟩ := hrel
            cases gk with
            | zero => exact absurd HA.out (by simp [modcertlaw02_CodecReads.l0])
            | succ k2 =>
              have H := HA.out
              clear HA
              simp only [modcertlaw02_CodecReads.l0] at H
              by_cases c14 : x26_2 < (t317.length : Int)
              · rw [if_pos c14] at H
                have c14b0 : decide (x26_2 < (t317.length : Int)) = true := decide_eq_true c14
                clear c14
                by_cases c15 : 0 ≤ x26_2
                · rw [if_pos c15] at H
                  have c15b0 : decide (0 ≤ x26_2) = true := decide_eq_true c15
                  clear c15
                  by_cases c16 : x26_2 < (t317.length : Int)
                  · rw [if_pos c16] at H
                    have c16b0 : decide (x26_2 < (t317.length : Int)) = true := decide_eq_true c16
                    clear c16
                    by_cases c17 : x26_2 < (l1.length : Int)
                    · rw [if_pos c17] at H
                      have c17b0 : decide (x26_2 < (l1.length : Int)) = true := decide_eq_true c17
                      clear c17
                      replace H := Option.bind_eq_some_iff.mp H
                      obtain ⟨⟨t323, t324, t325, t328, t329, t330, t331⟩, A180, H⟩ := H
                      replace H : ((modcertref02_Same.f k2 t323 t324 t325 t328 ((rd_T47 t317 x26_2).f0) ((rd_T47 t317 x26_2).f1) ((rd_T47 t317 x26_2).f2) ((rd_T47 t317 x26_2).f3)).bind fun t332 => (if t332 = true then (modcertlaw02_CodecReads.l0 k2 l1 t317 (t317.length : Int) (wrap64 (x26_2 + 1)) t329 t330 t331) else (some false))) = some r := H
                      have A18 := Aside0.mk A180
                      clear A180
                      replace H := Option.bind_eq_some_iff.mp H
                      obtain ⟨t332, A190, H⟩ := H
                      replace H : (if t332 = true then (modcertlaw02_CodecReads.l0 k2 l1 t317 (t317.length : Int) (wrap64 (x26_2 + 1)) t329 t330 t331) else (some false)) = some r := H
                      have A19 := Aside0.mk A190
                      clear A190
                      by_cases c20 : t332 = true
                      · subst c20
                        have H1 : (modcertlaw02_CodecReads.l0 k2 l1 t317 (t317.length : Int) (wrap64 (x26_2 + 1)) t329 t330 t331) = some r := by rw [if_pos rfl] at H; exact H
                        clear H
                        have H := H1
                        clear H1
                        have H' := Aside0.mk H
                        clear H
                        have p320 : 0 ≤ (x26_2 : Int) := of_decide_eq_true (by first | (with_reducible assumption) | assumption)
                        have q320 : x26_2 < (t317.length : Int) := of_decide_eq_true (by first | (with_reducible assumption) | assumption)
                        obtain ⟨ad320, A320_2, c320_2, e320, hx320_0, hx320_1, hx320_2, hx320_3, hl320_2, hi320_2⟩ := at_T47 (Kd.S_reads' HO_24.out).2.2 x26_2 p320 q320
                        cases e320
                        obtain ⟨ce320, hce320, hMe320, hcc320⟩ := Kd.S_get HO_24.out z47 x26_2 p320 (by first | exact q320 | exact of_decide_eq_true (by first | (with_reducible assumption) | assumption) | (have e_ := (Kd.S_reads' HO_24.out).1; omega))
                        obtain ⟨ve320_2, rfl, ge320_2⟩ := k47_openM hMe320
                        have hv320_2 := hcc320 2 _ rfl
                        rw [add_field _ _ 2 (by omega)] at hv320_2
                        replace hv320_2 := Option.some.inj (hv320_2.symm.trans hx320_2)
                        rw [hv320_2] at ge320_2
                        have HL320_2 := Aside0.mk (show Kd.R Kd.string 9 _ _ _ _ ((rd_T47 t317 x26_2).f2) from ge320_2)
                        clear hv320_2 ge320_2
                        clear hcc320 hce320
                        have HR320_2 := Aside0.mk hi320_2
                        have HC320_2 := Aside0.mk hl320_2
                        clear hi320_2 hl320_2
                        replace p320 := eq_true p320
                        replace q320 := eq_true q320
                        try go_wp2_with (first | ((with_reducible refine gate_dst (N := 7) rfl ?_); (try (refine gate_guard (by rfl) ?_; dsimp only)); refine box_event ?hg (N := 7) ?hd (cs := #[.int .i64 0, .string (⟨#[]⟩ : ByteArray), .slice none 0 0, .int .i64 0]) (t := 47) ?hr ?_; (case hd => rfl); (case hg => rfl); (case hr => first | (go_simp; done) | (go_simp; rfl)); intro gb321 hg w21 hbox hb; have n0_ := Aside0.mk (Kd.S_below (Kd.S_elderB (by (with_reducible repeat (first | apply Kd.S_alloc | apply Kd.S_drewN | apply Kd.S_drew)); exact HO_24.out) gb321 (Nat.le_of_eq hg.symm)) hb); have n1_ := Aside0.mk (Kd.R_below (by (with_reducible repeat (first | apply Kd.R_alloc | apply Kd.R_drewN | apply Kd.R_drew)); exact HL320_2.out) hb); have n2_ := Aside0.mk (IsS89.below (by repeat (first | (with_reducible first | exact HI316.out | apply IsS89.alloc | apply IsS89.drewN | apply IsS89.drew | apply IsS89.set_0 | apply IsS89.set_1 | apply IsS89.set_2) | exact HI316.out)) hb); have n3_ := Aside0.mk (Kd.C_below (by repeat (first | (with_reducible exact HR320_2.out) | (with_reducible refine Kd.C_alloc ?_ _) | (with_reducible refine Kd.C_drewN ?_ _) | (with_reducible refine Kd.C_drew ?_) | exact HR320_2.out)) hb); have n4_ := Aside0.mk (below_step (by repeat (first | (with_reducible first | exact HB.out | apply below_alloc | apply pw_below_drewN | apply below_drew1 | refine below_set ?_ (IsS89.ge HI316.out)) | exact HB.out)) hb); have n5_ := Aside0.mk (hbox); have n6_ := Aside0.mk ((by rw [hg]; exact (below_size (by repeat (first | (with_reducible first | exact HB.out | apply below_alloc | apply pw_below_drewN | apply below_drew1 | refine below_set ?_ (IsS89.ge HI316.out)) | exact HB.out))) : w.heap.size ≤ gb321)); have n7_ := Aside0.mk ((by rw [hg]; exact (below_size (by repeat (first | (with_reducible first | exact HB.out | apply below_alloc | apply pw_below_drewN | apply below_drew1 | refine below_set ?_ (IsS89.ge HI316.out)) | exact HB.out))) : w.heap.size ≤ gb321)); have n8_ := Aside0.mk ((by rw [hg]; exact Nat.ne_of_lt (IsS89.lt (show IsS89 w _ g316 x317000_2 x317001_2 x317002_2 from by repeat (first | (with_reducible first | exact HI316.out | apply IsS89.alloc | apply IsS89.drewN | apply IsS89.drew | apply IsS89.set_0 | apply IsS89.set_1 | apply IsS89.set_2) | exact HI316.out))) : g316 ≠ gb321)); have n9_ := Aside0.mk ((by rw [hg]; exact Nat.ne_of_gt (IsS89.lt (show IsS89 w _ g316 x317000_2 x317001_2 x317002_2 from by repeat (first | (with_reducible first | exact HI316.out | apply IsS89.alloc | apply IsS89.drewN | apply IsS89.drew | apply IsS89.set_0 | apply IsS89.set_1 | apply IsS89.set_2) | exact HI316.out))) : gb321 ≠ g316)); clear HO_24; clear HL320_2; clear HI316; clear HR320_2; clear HB; have HO_24 := n0_; have HL320_2 := n1_; have HI316 := n2_; have HR320_2 := n3_; have HB := n4_; have BK321 := n5_; have GW321 := n6_; have GE321 := n7_; have NB316_321 := n8_; have NB321_316 := n9_; clear n0_ n1_ n2_ n3_ n4_ n5_ n6_ n7_ n8_ n9_; clear hb hbox hg; have hnb22 := NB321_316.out; have hnc22 := NB316_321.out; have hcz23_0 : w21.cell? ⟨gb321, 0, none⟩ = some (.int .i64 0) := (blk_cell BK321.out 0).trans rfl; have hcz23_1 : w21.cell? ⟨gb321, 1, none⟩ = some (.string (⟨#[]⟩ : ByteArray)) := (blk_cell BK321.out 1).trans rfl; have hcz23_2 : w21.cell? ⟨gb321, 2, none⟩ = some (.slice none 0 0) := (blk_cell BK321.out 2).trans rfl; have hcz23_3 : w21.cell? ⟨gb321, 3, none⟩ = some (.int .i64 0) := (blk_cell BK321.out 3).trans rfl; have hfz23_0 := blk_frozen BK321.out 0; have hfz23_1 := blk_frozen BK321.out 1; have hfz23_2 := blk_frozen BK321.out 2; have hfz23_3 := blk_frozen BK321.out 3))
                        have n0_ : Aside0 (Kd.S k47 47 ((((w21.setCell ⟨gb321, 0, none⟩ (.int .i64 ((rd_T47 t317 x26_2).f0))).setCell ⟨gb321, 1, none⟩ (.string ((rd_T47 t317 x26_2).f1))).setCell ⟨gb321, 2, none⟩ (.slice A320_2 ((rd_T47 t317 x26_2).f2).length c320_2)).setCell ⟨gb321, 3, none⟩ (.int .i64 ((rd_T47 t317 x26_2).f3))) w.heap.size (fun k_ => k_ ≠ gb321) (.slice (some ad320) t317.length co13) t317) := ⟨by (with_reducible repeat (first | apply Kd.S_alloc | apply Kd.S_drewN | apply Kd.S_drew)); exact Kd.S_mono (Kd.S_far (p := ⟨gb321, 3, none⟩) (Kd.S_far (p := ⟨gb321, 2, none⟩) (Kd.S_far (p := ⟨gb321, 1, none⟩) (Kd.S_far (p := ⟨gb321, 0, none⟩) (Kd.S_mono HO_24.out (fun k_ hk => (⟨hk, hk.2⟩ : _ ∧ k_ ≠ gb321))) (fun _ hk => hk.2) (.int .i64 ((rd_T47 t317 x26_2).f0))) (fun _ hk => hk.2) (.string ((rd_T47 t317 x26_2).f1))) (fun _ hk => hk.2) (.slice A320_2 ((rd_T47 t317 x26_2).f2).length c320_2)) (fun _ hk => hk.2) (.int .i64 ((rd_T47 t317 x26_2).f3))) (fun _ hk => hk.1.2)⟩
                        have n1_ : Aside0 (Kd.R Kd.string 9 ((((w21.setCell ⟨gb321, 0, none⟩ (.int .i64 ((rd_T47 t317 x26_2).f0))).setCell ⟨gb321, 1, none⟩ (.string ((rd_T47 t317 x26_2).f1))).setCell ⟨gb321, 2, none⟩ (.slice A320_2 ((rd_T47 t317 x26_2).f2).length c320_2)).setCell ⟨gb321, 3, none⟩ (.int .i64 ((rd_T47 t317 x26_2).f3))) w.heap.size (fun k_ => some k_ ≠ (.slice (some ad320) t317.length co13 : Value).ownBlock) (.slice A320_2 ((rd_T47 t317 x26_2).f2).length c320_2) ((rd_T47 t317 x26_2).f2)) := ⟨by (with_reducible repeat (first | apply Kd.R_alloc | apply Kd.R_drewN | apply Kd.R_drew)); exact Kd.R_mono (Kd.R_far (p := ⟨gb321, 3, none⟩) (Kd.R_far (p := ⟨gb321, 2, none⟩) (Kd.R_far (p := ⟨gb321, 1, none⟩) (Kd.R_far (p := ⟨gb321, 0, none⟩) (Kd.R_types HL320_2.out BK321.out (by decide)) (fun _ hk => hk.2) (.int .i64 ((rd_T47 t317 x26_2).f0))) (fun _ hk => hk.2) (.string ((rd_T47 t317 x26_2).f1))) (fun _ hk => hk.2) (.slice A320_2 ((rd_T47 t317 x26_2).f2).length c320_2)) (fun _ hk => hk.2) (.int .i64 ((rd_T47 t317 x26_2).f3))) (fun _ hk => hk.1.2)⟩
                        have n2_ : Aside0 (((((w21.setCell ⟨gb321, 0, none⟩ (.int .i64 ((rd_T47 t317 x26_2).f0))).setCell ⟨gb321, 1, none⟩ (.string ((rd_T47 t317 x26_2).f1))).setCell ⟨gb321, 2, none⟩ (.slice A320_2 ((rd_T47 t317 x26_2).f2).length c320_2)).setCell ⟨gb321, 3, none⟩ (.int .i64 ((rd_T47 t317 x26_2).f3))).heap[gb321]? = some (.cells #[.int .i64 ((rd_T47 t317 x26_2).f0), .string ((rd_T47 t317 x26_2).f1), .slice A320_2 ((rd_T47 t317 x26_2).f2).length c320_2, .int .i64 ((rd_T47 t317 x26_2).f3)] 47 (0, 0))) := ⟨by (with_reducible repeat (first | refine blk_drewN ?_ _ | refine blk_drew ?_ | refine blk_alloc ?_ _)); refine blk_put (cs := #[.int .i64 ((rd_T47 t317 x26_2).f0), .string ((rd_T47 t317 x26_2).f1), .slice A320_2 ((rd_T47 t317 x26_2).f2).length c320_2, .int .i64 0]) ?_ 3 _ rfl; (with_reducible repeat (first | refine blk_drewN ?_ _ | refine blk_drew ?_ | refine blk_alloc ?_ _)); refine blk_put (cs := #[.int .i64 ((rd_T47 t317 x26_2).f0), .string ((rd_T47 t317 x26_2).f1), .slice none 0 0, .int .i64 0]) ?_ 2 _ rfl; (with_reducible repeat (first | refine blk_drewN ?_ _ | refine blk_drew ?_ | refine blk_alloc ?_ _)); refine blk_put (cs := #[.int .i64 ((rd_T47 t317 x26_2).f0), .string (⟨#[]⟩ : ByteArray), .slice none 0 0, .int .i64 0]) ?_ 1 _ rfl; (with_reducible repeat (first | refine blk_drewN ?_ _ | refine blk_drew ?_ | refine blk_alloc ?_ _)); refine blk_put (cs := #[.int .i64 0, .string (⟨#[]⟩ : ByteArray), .slice none 0 0, .int .i64 0]) ?_ 0 _ rfl; (with_reducible repeat (first | refine blk_drewN ?_ _ | refine blk_drew ?_ | refine blk_alloc ?_ _)); exact BK321.out⟩
                        have n3_ : Aside0 (IsS89 w ((((w21.setCell ⟨gb321, 0, none⟩ (.int .i64 ((rd_T47 t317 x26_2).f0))).setCell ⟨gb321, 1, none⟩ (.string ((rd_T47 t317 x26_2).f1))).setCell ⟨gb321, 2, none⟩ (.slice A320_2 ((rd_T47 t317 x26_2).f2).length c320_2)).setCell ⟨gb321, 3, none⟩ (.int .i64 ((rd_T47 t317 x26_2).f3))) g316 x317000_2 x317001_2 x317002_2) := ⟨by repeat (first | (with_reducible first | exact HI316.out | apply IsS89.alloc | apply IsS89.drewN | apply IsS89.drew | apply IsS89.set_0 | apply IsS89.set_1 | apply IsS89.set_2 | refine IsS89.far ?_ NB316_321.out _) | exact HI316.out)⟩
                        have n4_ : Aside0 (Below w.heap.size w ((((w21.setCell ⟨gb321, 0, none⟩ (.int .i64 ((rd_T47 t317 x26_2).f0))).setCell ⟨gb321, 1, none⟩ (.string ((rd_T47 t317 x26_2).f1))).setCell ⟨gb321, 2, none⟩ (.slice A320_2 ((rd_T47 t317 x26_2).f2).length c320_2)).setCell ⟨gb321, 3, none⟩ (.int .i64 ((rd_T47 t317 x26_2).f3)))) := ⟨by repeat (first | (with_reducible first | exact HB.out | apply below_alloc | apply pw_below_drewN | apply below_drew1 | refine below_set ?_ (IsS89.ge HI316.out) | refine below_set ?_ GE321.out) | exact HB.out)⟩
                        (try clear HO_24)
                        (try clear HL320_2)
                        (try clear BK321)
                        (try clear HI316)
                        (try clear HB)
                        generalize ((((w21.setCell ⟨gb321, 0, none⟩ (.int .i64 ((rd_T47 t317 x26_2).f0))).setCell ⟨gb321, 1, none⟩ (.string ((rd_T47 t317 x26_2).f1))).setCell ⟨gb321, 2, none⟩ (.slice A320_2 ((rd_T47 t317 x26_2).f2).length c320_2)).setCell ⟨gb321, 3, none⟩ (.int .i64 ((rd_T47 t317 x26_2).f3))) = w24 at n0_ n1_ n2_ n3_ n4_ ⊢
                        have HO_24 := n0_
                        have HL320_2 := n1_
                        have BK321 := n2_
                        have HI316 := n3_
                        have HB := n4_
                        clear n0_ n1_ n2_ n3_ n4_
                        have n0_ := Aside0.mk (Kd.S_drew HO_24.out)
                        have n1_ := Aside0.mk (Kd.R_drew HL320_2.out)
                        have n2_ := Aside0.mk (blk_drew BK321.out)
                        have n3_ := Aside0.mk (IsS89.drew HI316.out)
                        have n4_ := Aside0.mk (below_drew1 HB.out)
                        clear HO_24
                        clear HL320_2
                        clear BK321
                        clear HI316
                        clear HB
                        have HO_24 := n0_
                        have HL320_2 := n1_
                        have BK321 := n2_
                        have HI316 := n3_
                        have HB := n4_
                        clear n0_ n1_ n2_ n3_ n4_
                        have p322 : 0 ≤ (x26_2 : Int) := of_decide_eq_true (by first | (with_reducible assumption) | assumption)
                        have q322 : x26_2 < (l1.length : Int) := of_decide_eq_true (by first | (with_reducible assumption) | assumption)
                        obtain ⟨ad322, e322, hx322_0, hx322_1⟩ := at_T51 HR1.out x26_2 p322 q322
                        have hw322_1 := hx322_1
                        have hw322_0 := hx322_0
                        cases e322
                        replace hx322_0 := (HB.out.cell (World.block_lt_of_cell? w _ hx322_0)).trans hx322_0
                        replace hx322_1 := (HB.out.cell (World.block_lt_of_cell? w _ hx322_1)).trans hx322_1
                        replace p322 := eq_true p322
                        replace q322 := eq_true q322
                        refine start_ (n := 9) (S := fun w' => w'.cell? ⟨gb321, 0, none⟩ = some (.int .i64 ((rd_T47 t317 x26_2).f0)) ∧ w'.cell? ⟨gb321, 1, none⟩ = some (.string ((rd_T47 t317 x26_2).f1)) ∧ w'.cell? ⟨gb321, 2, none⟩ = some (.slice A320_2 ((rd_T47 t317 x26_2).f2).length c320_2) ∧ w'.cell? ⟨gb321, 3, none⟩ = some (.int .i64 ((rd_T47 t317 x26_2).f3)) ∧ w'.cell? (ad322.add ((x26_2).toNat * 2)) = some (.int .i64 ((rd_T51 l1 x26_2).f0)) ∧ w'.cell? ⟨(ad322.add ((x26_2).toNat * 2)).block, (ad322.add ((x26_2).toNat * 2)).off + 1, none⟩ = some (.int .i64 ((rd_T51 l1 x26_2).f1))) (ds := []) #[false, false, false, false, false, false, false, false, false] (by kernel_rfl) rfl rfl ⟨(blk_cell BK321.out 0).trans rfl, (blk_cell BK321.out 1).trans rfl, (blk_cell BK321.out 2).trans rfl, (blk_cell BK321.out 3).trans rfl, ((HB.out.cell (World.block_lt_of_cell? w _ hw322_0)).trans hw322_0), ((HB.out.cell (World.block_lt_of_cell? w _ hw322_1)).trans hw322_1)⟩ (fun hHeld => ?_); refine with_tabW modcertlaw02_CodecReads.tab11 modcertlaw02_CodecReads.bits11 (fun HT_ HW_ => ?_)
                        generalize w24.drew = w25 at HO_24 HL320_2 BK321 HI316 HB hx322_0 hx322_1 hHeld ⊢
                        refine pure_ (i := 0) (N := some 31) (v := ?_) (a' := ?_) #[true, false, false, false, false, false, false, false, false] rfl rfl (any_of HT_.out (by kernel_rfl)) (fun _ _ _ h => h) (Or.inl ⟨by rfl, ?_⟩) ?_ ?_
                        rotate_left
                        · intro w'
                          go_simp
                          with_reducible rfl
                        rotate_left
                        · simp only [Act.put, List.setIfInBounds_toArray, List.set_cons_zero, List.set_cons_succ, i64_w, i32_w]
                          rfl
                        refine pure_ (i := 1) (N := some 32) (v := ?_) (a' := ?_) #[true, true, false, false, false, false, false, false, false] rfl rfl (any_of HT_.out (by kernel_rfl)) (fun _ _ _ h => h) (Or.inl ⟨by rfl, ?_⟩) ?_ ?_
                        rotate_left
                        · intro w'
                          go_simp
                          with_reducible rfl
                        rotate_left
                        · simp only [Act.put, List.setIfInBounds_toArray, List.set_cons_zero, List.set_cons_succ, i64_w, i32_w]
                          rfl
                        refine pure_ (i := 2) (N := some 33) (v := ?_) (a' := ?_) #[true, true, true, false, false, false, false, false, false] rfl rfl (any_of HT_.out (by kernel_rfl)) (fun _ _ _ h => h) (Or.inl ⟨by rfl, ?_⟩) ?_ ?_
                        rotate_left
                        · intro w'
                          go_simp
                          with_reducible rfl
                        rotate_left
                        · simp only [Act.put, List.setIfInBounds_toArray, List.set_cons_zero, List.set_cons_succ, i64_w, i32_w]
                          rfl
                        refine pure_ (i := 3) (N := some 34) (v := ?_) (a' := ?_) #[true, true, true, true, false, false, false, false, false] rfl rfl (any_of HT_.out (by kernel_rfl)) (fun _ _ _ h => h) (Or.inl ⟨by rfl, ?_⟩) ?_ ?_
                        rotate_left
                        · intro w'
                          go_simp
                          with_reducible rfl
                        rotate_left
                        · simp only [Act.put, List.setIfInBounds_toArray, List.set_cons_zero, List.set_cons_succ, i64_w, i32_w]
                          rfl
                        refine take_ (i := 4) (N := some 35) (v := ?_) (a' := ?_) #[true, true, true, true, true, false, false, false, false] rfl rfl (take_ofW HT_.out HW_.out (by kernel_rfl)) (fun _ _ _ h => h) (Or.inl ⟨by rfl, ?_⟩) hHeld ?_ ?_
                        rotate_left
                        · rintro w' ⟨s0, s1, s2, s3, s4, s5⟩
                          go_simp
                          with_reducible rfl
                        rotate_left
                        · simp only [Act.put, List.setIfInBounds_toArray, List.set_cons_zero, List.set_cons_succ, i64_w, i32_w]
                          rfl
                        refine take_ (i := 6) (N := some 37) (v := ?_) (a' := ?_) #[true, true, true, true, true, false, true, false, false] rfl rfl (take_ofW HT_.out HW_.out (by kernel_rfl)) (fun _ _ _ h => h) (Or.inl ⟨by rfl, ?_⟩) hHeld ?_ ?_
                        rotate_left
                        · rintro w' ⟨s0, s1, s2, s3, s4, s5⟩
                          go_simp
                          with_reducible rfl
                        rotate_left
                        · simp only [Act.put, List.setIfInBounds_toArray, List.set_cons_zero, List.set_cons_succ, i64_w, i32_w]
                          rfl
                        refine one_ (i := 5) (N := some 36) #[true, true, true, true, true, true, true, false, false] rfl rfl (one_of HT_.out (by kernel_rfl)) (by decide) (fun K hK => ?_)
                        refine goes_ Try.func33 (by kernel_rfl) rfl #[.pointer (some ⟨g316, 0, none⟩), .agg #[.int .i64 ((rd_T51 l1 x26_2).f0), .int .i64 ((rd_T51 l1 x26_2).f1)]] (by rfl) rfl rfl (by (try simp only [List.map_toArray, List.map_cons, List.map_nil]); first | done | rfl | (simp only [List.length_drop, List.length_take]; rfl)) ?_
                        with_reducible refine (modcertlaw02_result.calls k2 g316 x317000_2 x317001_2 x317002_2 ((rd_T51 l1 x26_2).f0) ((rd_T51 l1 x26_2).f1) t323 t324 t325 t328 t329 t330 t331 w _ ?side1 ?side2 A18.out).mono ?_
                        (case side1 => repeat (first | (with_reducible first | exact HI316.out | apply IsS89.alloc | apply IsS89.drewN | apply IsS89.drew | apply IsS89.set_0 | apply IsS89.set_1 | apply IsS89.set_2 | refine IsS89.far ?_ NB316_321.out _) | exact HI316.out))
                        (case side2 => repeat (first | (with_reducible first | exact HB.out | apply below_alloc | apply pw_below_drewN | apply below_drew1 | refine below_set ?_ (IsS89.ge HI316.out) | refine below_set ?_ GE321.out) | exact HB.out))
                        rintro e w26 ⟨v326, rfl, ho0, hi, hb, hk⟩
                        refine ⟨_, rfl, ?_⟩
                        have n0_ := Aside0.mk (Kd.S_mono (Kd.S_told (Kd.S_oldK (IsS89.apartS (show IsS89 w _ g316 x317000_2 x317001_2 x317002_2 from by repeat (first | (with_reducible first | exact HI316.out | apply IsS89.alloc | apply IsS89.drewN | apply IsS89.drew | apply IsS89.set_0 | apply IsS89.set_1 | apply IsS89.set_2 | refine IsS89.far ?_ NB316_321.out _) | exact HI316.out)) (by (with_reducible repeat (first | apply Kd.S_alloc | apply Kd.S_drewN | apply Kd.S_drew)); exact HO_24.out) (by decide)) hk) (Kd.R_base ho0)) (fun _ h_ => h_.1))
                        have n1_ := Aside0.mk (Kd.R_mono (Kd.R_told (Kd.R_oldK (IsS89.apart (show IsS89 w _ g316 x317000_2 x317001_2 x317002_2 from by repeat (first | (with_reducible first | exact HI316.out | apply IsS89.alloc | apply IsS89.drewN | apply IsS89.drew | apply IsS89.set_0 | apply IsS89.set_1 | apply IsS89.set_2 | refine IsS89.far ?_ NB316_321.out _) | exact HI316.out)) (by (with_reducible repeat (first | apply Kd.R_alloc | apply Kd.R_drewN | apply Kd.R_drew)); exact HL320_2.out) (by decide)) hk) (Kd.R_base ho0)) (fun _ h_ => h_.1))
                        have n2_ := Aside0.mk (KeepBut.blk hk (g' := gb321) (o := .cells #[.int .i64 ((rd_T47 t317 x26_2).f0), .string ((rd_T47 t317 x26_2).f1), .slice A320_2 ((rd_T47 t317 x26_2).f2).length c320_2, .int .i64 ((rd_T47 t317 x26_2).f3)] 47 (0, 0)) (by (with_reducible repeat (first | refine blk_drewN ?_ _ | refine blk_drew ?_ | refine blk_alloc ?_ _)); exact BK321.out) NB321_316.out (by simp))
                        have n3_ := Aside0.mk (Kd.R_lower (Kd.R_new' ho0 (Kd.R_lt (by (with_reducible repeat (first | apply Kd.R_alloc | apply Kd.R_drewN | apply Kd.R_drew)); exact HL320_2.out))) (below_size (by repeat (first | (with_reducible first | exact HB.out | apply below_alloc | apply pw_below_drewN | apply below_drew1 | refine below_set ?_ (IsS89.ge HI316.out) | refine below_set ?_ GE321.out) | exact HB.out))))
                        have n4_ := Aside0.mk (hb)
                        have n5_ := Aside0.mk (hi)
                        clear HO_24
                        clear HL320_2
                        clear BK321
                        clear HB
                        clear HI316
                        have HO_24 := n0_
                        have HL320_2 := n1_
                        have BK321 := n2_
                        have HO327 := n3_
                        have HB := n4_
                        have HI316 := n5_
                        clear n0_ n1_ n2_ n3_ n4_ n5_
                        (try clear hb)
                        (try clear hb2)
                        (try clear hk)
                        (try clear hi)
                        (try clear ho0)
                        obtain ⟨Ao27, co27, eo27⟩ := Kd.R_slice HO327.out
                        (first | subst eo27 | (injection eo27 with f1_ f2_ f3_; have f4_ := f1_.symm; have f5_ := f3_.symm; clear f1_ f2_ f3_; subst f4_; subst f5_))
                        refine hK.out _ _ ⟨(blk_cell BK321.out 0).trans rfl, (blk_cell BK321.out 1).trans rfl, (blk_cell BK321.out 2).trans rfl, (blk_cell BK321.out 3).trans rfl, ((HB.out.cell (World.block_lt_of_cell? w _ hw322_0)).trans hw322_0), ((HB.out.cell (World.block_lt_of_cell? w _ hw322_1)).trans hw322_1)⟩ (fun hHeld => ?_)
                        clear hK K
                        refine norm_ (a' := ?_) ?_ ?_
                        rotate_left
                        · show Act.put _ (some 36) _ = _
                          simp only [Act.put, List.setIfInBounds_toArray, List.set_cons_zero, List.set_cons_succ, i64_w, i32_w]
                          rfl
                        refine one_ (i := 7) (N := some 38) #[true, true, true, true, true, true, true, true, false] rfl rfl (one_of HT_.out (by kernel_rfl)) (by decide) (fun K hK => ?_)
                        refine goes_ Try.func32 (by kernel_rfl) rfl #[.agg #[.int .i64 t323, .string t324, .slice Ao27 t325.length co27, .int .i64 t328], .agg #[.int .i64 ((rd_T47 t317 x26_2).f0), .string ((rd_T47 t317 x26_2).f1), .slice A320_2 ((rd_T47 t317 x26_2).f2).length c320_2, .int .i64 ((rd_T47 t317 x26_2).f3)]] (by rfl) rfl rfl (by (try simp only [List.map_toArray, List.map_cons, List.map_nil]); first | done | rfl | (simp only [List.length_drop, List.length_take]; rfl)) ?_
                        with_reducible refine (modcertref02_Same.calls k2 t323 t324 _ _ t325 t328 ((rd_T47 t317 x26_2).f0) ((rd_T47 t317 x26_2).f1) _ _ ((rd_T47 t317 x26_2).f2) ((rd_T47 t317 x26_2).f3) true _ ?side1 ?side2 ?side3 ?side4 A19.out).mono ?_
                        (case side1 => repeat (first | exact (Kd.R_reads' HO327.out).2.2 | (with_reducible refine Kd.C_alloc ?_ _) | (with_reducible refine Kd.C_drewN ?_ _) | (with_reducible refine Kd.C_drew ?_)))
                        (case side2 => exact (Kd.R_reads' HO327.out).2.1)
                        (case side3 => repeat (first | exact ((Kd.R_reads' (by (with_reducible repeat (first | apply Kd.R_alloc | apply Kd.R_drewN | apply Kd.R_drew)); exact HL320_2.out)).2.2) | (with_reducible refine Kd.C_alloc ?_ _) | (with_reducible refine Kd.C_drewN ?_ _) | (with_reducible refine Kd.C_drew ?_)))
                        (case side4 => exact HC320_2.out)
                        rintro e w28 ⟨rfl, hb⟩
                        refine ⟨_, rfl, ?_⟩
                        have n0_ := Aside0.mk (Kd.S_below (by (with_reducible repeat (first | apply Kd.S_alloc | apply Kd.S_drewN | apply Kd.S_drew)); exact HO_24.out) hb)
                        have n1_ := Aside0.mk (Kd.R_below (by (with_reducible repeat (first | apply Kd.R_alloc | apply Kd.R_drewN | apply Kd.R_drew)); exact HL320_2.out) hb)
                        have n2_ := Aside0.mk (Kd.R_below (by (with_reducible repeat (first | apply Kd.R_alloc | apply Kd.R_drewN | apply Kd.R_drew)); exact HO327.out) hb)
                        have n3_ := Aside0.mk (IsS89.below (by repeat (first | (with_reducible first | exact HI316.out | apply IsS89.alloc | apply IsS89.drewN | apply IsS89.drew | apply IsS89.set_0 | apply IsS89.set_1 | apply IsS89.set_2 | refine IsS89.far ?_ NB316_321.out _) | exact HI316.out)) hb)
                        have n4_ := Aside0.mk (blk_below (g := gb321) (o := .cells #[.int .i64 ((rd_T47 t317 x26_2).f0), .string ((rd_T47 t317 x26_2).f1), .slice A320_2 ((rd_T47 t317 x26_2).f2).length c320_2, .int .i64 ((rd_T47 t317 x26_2).f3)] 47 (0, 0)) (by (with_reducible repeat (first | refine blk_drewN ?_ _ | refine blk_drew ?_ | refine blk_alloc ?_ _)); exact BK321.out) hb)
                        have n5_ := Aside0.mk (below_step (by repeat (first | (with_reducible first | exact HB.out | apply below_alloc | apply pw_below_drewN | apply below_drew1 | refine below_set ?_ (IsS89.ge HI316.out) | refine below_set ?_ GE321.out) | exact HB.out)) hb)
                        clear HO_24
                        clear HL320_2
                        clear HO327
                        clear HI316
                        clear BK321
                        clear HB
                        have HO_24 := n0_
                        have HL320_2 := n1_
                        have HO327 := n2_
                        have HI316 := n3_
                        have BK321 := n4_
                        have HB := n5_
                        clear n0_ n1_ n2_ n3_ n4_ n5_
                        (try clear hb)
                        (try clear hb2)
                        (try clear hk)
                        (try clear hi)
                        refine hK.out _ _ ⟨(blk_cell BK321.out 0).trans rfl, (blk_cell BK321.out 1).trans rfl, (blk_cell BK321.out 2).trans rfl, (blk_cell BK321.out 3).trans rfl, ((HB.out.cell (World.block_lt_of_cell? w _ hw322_0)).trans hw322_0), ((HB.out.cell (World.block_lt_of_cell? w _ hw322_1)).trans hw322_1)⟩ (fun hHeld => ?_)
                        clear hK K
                        refine norm_ (a' := ?_) ?_ ?_
                        rotate_left
                        · show Act.put _ (some 38) _ = _
                          simp only [Act.put, List.setIfInBounds_toArray, List.set_cons_zero, List.set_cons_succ, i64_w, i32_w]
                          rfl
                        refine pure_ (i := 8) (N := some 39) (v := ?_) (a' := ?_) #[true, true, true, true, true, true, true, true, true] rfl rfl (any_of HT_.out (by kernel_rfl)) (fun _ _ _ h => h) (Or.inl ⟨by rfl, ?_⟩) ?_ ?_
                        rotate_left
                        · intro w'
                          go_simp
                          with_reducible rfl
                        rotate_left
                        · simp only [Act.put, List.setIfInBounds_toArray, List.set_cons_zero, List.set_cons_succ, i64_w, i32_w]
                          rfl
                        refine done_ (done_of HT_.out (by kernel_rfl)) ?_
                        try go_wp2
                        go_roundg k2
                        case measure => have := HJ4.out; have := HK2.out; omega
                        case rel => exact ⟨(wrap64 (x26_2 + 1)), (t329), (t330), (t331), (by first | rfl | (simp; done) | (simp [*]; done)), H', ⟨by have := HJ4.out; have := HK2.out; omega⟩, ⟨by (with_reducible repeat (first | apply Kd.S_alloc | apply Kd.S_drewN | apply Kd.S_drew)); exact Kd.S_mono HO_24.out (fun _ hk => trivial)⟩, ⟨by repeat (first | (with_reducible first | exact HI316.out | apply IsS89.alloc | apply IsS89.drewN | apply IsS89.drew | apply IsS89.set_0 | apply IsS89.set_1 | apply IsS89.set_2 | refine IsS89.far ?_ NB316_321.out _) | exact HI316.out)⟩, ⟨by repeat (first | (with_reducible first | exact HB.out | apply below_alloc | apply pw_below_drewN | apply below_drew1 | refine below_set ?_ (IsS89.ge HI316.out) | refine below_set ?_ GE321.out) | exact HB.out)⟩⟩
                      · replace c20 := Bool.eq_false_iff.mpr c20
                        subst c20
                        have H1 : (some false) = some r := by rw [if_neg (show ¬ (false = true) by decide)] at H; exact H
                        clear H
                        have H := H1
                        clear H1
                        obtain rfl := Option.some.inj H
                        have p320 : 0 ≤ (x26_2 : Int) := of_decide_eq_true (by first | (with_reducible assumption) | assumption)
                        have q320 : x26_2 < (t317.length : Int) := of_decide_eq_true (by first | (with_reducible assumption) | assumption)
                        obtain ⟨ad320, A320_2, c320_2, e320, hx320_0, hx320_1, hx320_2, hx320_3, hl320_2, hi320_2⟩ := at_T47 (Kd.S_reads' HO_24.out).2.2 x26_2 p320 q320
                        cases e320
                        obtain ⟨ce320, hce320, hMe320, hcc320⟩ := Kd.S_get HO_24.out z47 x26_2 p320 (by first | exact q320 | exact of_decide_eq_true (by first | (with_reducible assumption) | assumption) | (have e_ := (Kd.S_reads' HO_24.out).1; omega))
                        obtain ⟨ve320_2, rfl, ge320_2⟩ := k47_openM hMe320
                        have hv320_2 := hcc320 2 _ rfl
                        rw [add_field _ _ 2 (by omega)] at hv320_2
                        replace hv320_2 := Option.some.inj (hv320_2.symm.trans hx320_2)
                        rw [hv320_2] at ge320_2
                        have HL320_2 := Aside0.mk (show Kd.R Kd.string 9 _ _ _ _ ((rd_T47 t317 x26_2).f2) from ge320_2)
                        clear hv320_2 ge320_2
                        clear hcc320 hce320
                        have HR320_2 := Aside0.mk hi320_2
                        have HC320_2 := Aside0.mk hl320_2
                        clear hi320_2 hl320_2
                        replace p320 := eq_true p320
                        replace q320 := eq_true q320
                        try go_wp2_with (first | ((with_reducible refine gate_dst (N := 7) rfl ?_); (try (refine gate_guard (by rfl) ?_; dsimp only)); refine box_event ?hg (N := 7) ?hd (cs := #[.int .i64 0, .string (⟨#[]⟩ : ByteArray), .slice none 0 0, .int .i64 0]) (t := 47) ?hr ?_; (case hd => rfl); (case hg => rfl); (case hr => first | (go_simp; done) | (go_simp; rfl)); intro gb321 hg w29 hbox hb; have n0_ := Aside0.mk (Kd.S_below (Kd.S_elderB (by (with_reducible repeat (first | apply Kd.S_alloc | apply Kd.S_drewN | apply Kd.S_drew)); exact HO_24.out) gb321 (Nat.le_of_eq hg.symm)) hb); have n1_ := Aside0.mk (Kd.R_below (by (with_reducible repeat (first | apply Kd.R_alloc | apply Kd.R_drewN | apply Kd.R_drew)); exact HL320_2.out) hb); have n2_ := Aside0.mk (IsS89.below (by repeat (first | (with_reducible first | exact HI316.out | apply IsS89.alloc | apply IsS89.drewN | apply IsS89.drew | apply IsS89.set_0 | apply IsS89.set_1 | apply IsS89.set_2) | exact HI316.out)) hb); have n3_ := Aside0.mk (Kd.C_below (by repeat (first | (with_reducible exact HR320_2.out) | (with_reducible refine Kd.C_alloc ?_ _) | (with_reducible refine Kd.C_drewN ?_ _) | (with_reducible refine Kd.C_drew ?_) | exact HR320_2.out)) hb); have n4_ := Aside0.mk (below_step (by repeat (first | (with_reducible first | exact HB.out | apply below_alloc | apply pw_below_drewN | apply below_drew1 | refine below_set ?_ (IsS89.ge HI316.out)) | exact HB.out)) hb); have n5_ := Aside0.mk (hbox); have n6_ := Aside0.mk ((by rw [hg]; exact (below_size (by repeat (first | (with_reducible first | exact HB.out | apply below_alloc | apply pw_below_drewN | apply below_drew1 | refine below_set ?_ (IsS89.ge HI316.out)) | exact HB.out))) : w.heap.size ≤ gb321)); have n7_ := Aside0.mk ((by rw [hg]; exact (below_size (by repeat (first | (with_reducible first | exact HB.out | apply below_alloc | apply pw_below_drewN | apply below_drew1 | refine below_set ?_ (IsS89.ge HI316.out)) | exact HB.out))) : w.heap.size ≤ gb321)); have n8_ := Aside0.mk ((by rw [hg]; exact Nat.ne_of_lt (IsS89.lt (show IsS89 w _ g316 x317000_2 x317001_2 x317002_2 from by repeat (first | (with_reducible first | exact HI316.out | apply IsS89.alloc | apply IsS89.drewN | apply IsS89.drew | apply IsS89.set_0 | apply IsS89.set_1 | apply IsS89.set_2) | exact HI316.out))) : g316 ≠ gb321)); have n9_ := Aside0.mk ((by rw [hg]; exact Nat.ne_of_gt (IsS89.lt (show IsS89 w _ g316 x317000_2 x317001_2 x317002_2 from by repeat (first | (with_reducible first | exact HI316.out | apply IsS89.alloc | apply IsS89.drewN | apply IsS89.drew | apply IsS89.set_0 | apply IsS89.set_1 | apply IsS89.set_2) | exact HI316.out))) : gb321 ≠ g316)); clear HO_24; clear HL320_2; clear HI316; clear HR320_2; clear HB; have HO_24 := n0_; have HL320_2 := n1_; have HI316 := n2_; have HR320_2 := n3_; have HB := n4_; have BK321 := n5_; have GW321 := n6_; have GE321 := n7_; have NB316_321 := n8_; have NB321_316 := n9_; clear n0_ n1_ n2_ n3_ n4_ n5_ n6_ n7_ n8_ n9_; clear hb hbox hg; have hnb30 := NB321_316.out; have hnc30 := NB316_321.out; have hcz31_0 : w29.cell? ⟨gb321, 0, none⟩ = some (.int .i64 0) := (blk_cell BK321.out 0).trans rfl; have hcz31_1 : w29.cell? ⟨gb321, 1, none⟩ = some (.string (⟨#[]⟩ : ByteArray)) := (blk_cell BK321.out 1).trans rfl; have hcz31_2 : w29.cell? ⟨gb321, 2, none⟩ = some (.slice none 0 0) := (blk_cell BK321.out 2).trans rfl; have hcz31_3 : w29.cell? ⟨gb321, 3, none⟩ = some (.int .i64 0) := (blk_cell BK321.out 3).trans rfl; have hfz31_0 := blk_frozen BK321.out 0; have hfz31_1 := blk_frozen BK321.out 1; have hfz31_2 := blk_frozen BK321.out 2; have hfz31_3 := blk_frozen BK321.out 3))
                        have n0_ : Aside0 (Kd.S k47 47 ((((w29.setCell ⟨gb321, 0, none⟩ (.int .i64 ((rd_T47 t317 x26_2).f0))).setCell ⟨gb321, 1, none⟩ (.string ((rd_T47 t317 x26_2).f1))).setCell ⟨gb321, 2, none⟩ (.slice A320_2 ((rd_T47 t317 x26_2).f2).length c320_2)).setCell ⟨gb321, 3, none⟩ (.int .i64 ((rd_T47 t317 x26_2).f3))) w.heap.size (fun k_ => k_ ≠ gb321) (.slice (some ad320) t317.length co13) t317) := ⟨by (with_reducible repeat (first | apply Kd.S_alloc | apply Kd.S_drewN | apply Kd.S_drew)); exact Kd.S_mono (Kd.S_far (p := ⟨gb321, 3, none⟩) (Kd.S_far (p := ⟨gb321, 2, none⟩) (Kd.S_far (p := ⟨gb321, 1, none⟩) (Kd.S_far (p := ⟨gb321, 0, none⟩) (Kd.S_mono HO_24.out (fun k_ hk => (⟨hk, hk.2⟩ : _ ∧ k_ ≠ gb321))) (fun _ hk => hk.2) (.int .i64 ((rd_T47 t317 x26_2).f0))) (fun _ hk => hk.2) (.string ((rd_T47 t317 x26_2).f1))) (fun _ hk => hk.2) (.slice A320_2 ((rd_T47 t317 x26_2).f2).length c320_2)) (fun _ hk => hk.2) (.int .i64 ((rd_T47 t317 x26_2).f3))) (fun _ hk => hk.1.2)⟩
                        have n1_ : Aside0 (Kd.R Kd.string 9 ((((w29.setCell ⟨gb321, 0, none⟩ (.int .i64 ((rd_T47 t317 x26_2).f0))).setCell ⟨gb321, 1, none⟩ (.string ((rd_T47 t317 x26_2).f1))).setCell ⟨gb321, 2, none⟩ (.slice A320_2 ((rd_T47 t317 x26_2).f2).length c320_2)).setCell ⟨gb321, 3, none⟩ (.int .i64 ((rd_T47 t317 x26_2).f3))) w.heap.size (fun k_ => some k_ ≠ (.slice (some ad320) t317.length co13 : Value).ownBlock) (.slice A320_2 ((rd_T47 t317 x26_2).f2).length c320_2) ((rd_T47 t317 x26_2).f2)) := ⟨by (with_reducible repeat (first | apply Kd.R_alloc | apply Kd.R_drewN | apply Kd.R_drew)); exact Kd.R_mono (Kd.R_far (p := ⟨gb321, 3, none⟩) (Kd.R_far (p := ⟨gb321, 2, none⟩) (Kd.R_far (p := ⟨gb321, 1, none⟩) (Kd.R_far (p := ⟨gb321, 0, none⟩) (Kd.R_types HL320_2.out BK321.out (by decide)) (fun _ hk => hk.2) (.int .i64 ((rd_T47 t317 x26_2).f0))) (fun _ hk => hk.2) (.string ((rd_T47 t317 x26_2).f1))) (fun _ hk => hk.2) (.slice A320_2 ((rd_T47 t317 x26_2).f2).length c320_2)) (fun _ hk => hk.2) (.int .i64 ((rd_T47 t317 x26_2).f3))) (fun _ hk => hk.1.2)⟩
                        have n2_ : Aside0 (((((w29.setCell ⟨gb321, 0, none⟩ (.int .i64 ((rd_T47 t317 x26_2).f0))).setCell ⟨gb321, 1, none⟩ (.string ((rd_T47 t317 x26_2).f1))).setCell ⟨gb321, 2, none⟩ (.slice A320_2 ((rd_T47 t317 x26_2).f2).length c320_2)).setCell ⟨gb321, 3, none⟩ (.int .i64 ((rd_T47 t317 x26_2).f3))).heap[gb321]? = some (.cells #[.int .i64 ((rd_T47 t317 x26_2).f0), .string ((rd_T47 t317 x26_2).f1), .slice A320_2 ((rd_T47 t317 x26_2).f2).length c320_2, .int .i64 ((rd_T47 t317 x26_2).f3)] 47 (0, 0))) := ⟨by (with_reducible repeat (first | refine blk_drewN ?_ _ | refine blk_drew ?_ | refine blk_alloc ?_ _)); refine blk_put (cs := #[.int .i64 ((rd_T47 t317 x26_2).f0), .string ((rd_T47 t317 x26_2).f1), .slice A320_2 ((rd_T47 t317 x26_2).f2).length c320_2, .int .i64 0]) ?_ 3 _ rfl; (with_reducible repeat (first | refine blk_drewN ?_ _ | refine blk_drew ?_ | refine blk_alloc ?_ _)); refine blk_put (cs := #[.int .i64 ((rd_T47 t317 x26_2).f0), .string ((rd_T47 t317 x26_2).f1), .slice none 0 0, .int .i64 0]) ?_ 2 _ rfl; (with_reducible repeat (first | refine blk_drewN ?_ _ | refine blk_drew ?_ | refine blk_alloc ?_ _)); refine blk_put (cs := #[.int .i64 ((rd_T47 t317 x26_2).f0), .string (⟨#[]⟩ : ByteArray), .slice none 0 0, .int .i64 0]) ?_ 1 _ rfl; (with_reducible repeat (first | refine blk_drewN ?_ _ | refine blk_drew ?_ | refine blk_alloc ?_ _)); refine blk_put (cs := #[.int .i64 0, .string (⟨#[]⟩ : ByteArray), .slice none 0 0, .int .i64 0]) ?_ 0 _ rfl; (with_reducible repeat (first | refine blk_drewN ?_ _ | refine blk_drew ?_ | refine blk_alloc ?_ _)); exact BK321.out⟩
                        have n3_ : Aside0 (IsS89 w ((((w29.setCell ⟨gb321, 0, none⟩ (.int .i64 ((rd_T47 t317 x26_2).f0))).setCell ⟨gb321, 1, none⟩ (.string ((rd_T47 t317 x26_2).f1))).setCell ⟨gb321, 2, none⟩ (.slice A320_2 ((rd_T47 t317 x26_2).f2).length c320_2)).setCell ⟨gb321, 3, none⟩ (.int .i64 ((rd_T47 t317 x26_2).f3))) g316 x317000_2 x317001_2 x317002_2) := ⟨by repeat (first | (with_reducible first | exact HI316.out | apply IsS89.alloc | apply IsS89.drewN | apply IsS89.drew | apply IsS89.set_0 | apply IsS89.set_1 | apply IsS89.set_2 | refine IsS89.far ?_ NB316_321.out _) | exact HI316.out)⟩
                        have n4_ : Aside0 (Below w.heap.size w ((((w29.setCell ⟨gb321, 0, none⟩ (.int .i64 ((rd_T47 t317 x26_2).f0))).setCell ⟨gb321, 1, none⟩ (.string ((rd_T47 t317 x26_2).f1))).setCell ⟨gb321, 2, none⟩ (.slice A320_2 ((rd_T47 t317 x26_2).f2).length c320_2)).setCell ⟨gb321, 3, none⟩ (.int .i64 ((rd_T47 t317 x26_2).f3)))) := ⟨by repeat (first | (with_reducible first | exact HB.out | apply below_alloc | apply pw_below_drewN | apply below_drew1 | refine below_set ?_ (IsS89.ge HI316.out) | refine below_set ?_ GE321.out) | exact HB.out)⟩
                        (try clear HO_24)
                        (try clear HL320_2)
                        (try clear BK321)
                        (try clear HI316)
                        (try clear HB)
                        generalize ((((w29.setCell ⟨gb321, 0, none⟩ (.int .i64 ((rd_T47 t317 x26_2).f0))).setCell ⟨gb321, 1, none⟩ (.string ((rd_T47 t317 x26_2).f1))).setCell ⟨gb321, 2, none⟩ (.slice A320_2 ((rd_T47 t317 x26_2).f2).length c320_2)).setCell ⟨gb321, 3, none⟩ (.int .i64 ((rd_T47 t317 x26_2).f3))) = w32 at n0_ n1_ n2_ n3_ n4_ ⊢
                        have HO_24 := n0_
                        have HL320_2 := n1_
                        have BK321 := n2_
                        have HI316 := n3_
                        have HB := n4_
                        clear n0_ n1_ n2_ n3_ n4_
                        have n0_ := Aside0.mk (Kd.S_drew HO_24.out)
                        have n1_ := Aside0.mk (Kd.R_drew HL320_2.out)
                        have n2_ := Aside0.mk (blk_drew BK321.out)
                        have n3_ := Aside0.mk (IsS89.drew HI316.out)
                        have n4_ := Aside0.mk (below_drew1 HB.out)
                        clear HO_24
                        clear HL320_2
                        clear BK321
                        clear HI316
                        clear HB
                        have HO_24 := n0_
                        have HL320_2 := n1_
                        have BK321 := n2_
                        have HI316 := n3_
                        have HB := n4_
                        clear n0_ n1_ n2_ n3_ n4_
                        have p322 : 0 ≤ (x26_2 : Int) := of_decide_eq_true (by first | (with_reducible assumption) | assumption)
                        have q322 : x26_2 < (l1.length : Int) := of_decide_eq_true (by first | (with_reducible assumption) | assumption)
                        obtain ⟨ad322, e322, hx322_0, hx322_1⟩ := at_T51 HR1.out x26_2 p322 q322
                        have hw322_1 := hx322_1
                        have hw322_0 := hx322_0
                        cases e322
                        replace hx322_0 := (HB.out.cell (World.block_lt_of_cell? w _ hx322_0)).trans hx322_0
                        replace hx322_1 := (HB.out.cell (World.block_lt_of_cell? w _ hx322_1)).trans hx322_1
                        replace p322 := eq_true p322
                        replace q322 := eq_true q322
                        refine start_ (n := 9) (S := fun w' => w'.cell? ⟨gb321, 0, none⟩ = some (.int .i64 ((rd_T47 t317 x26_2).f0)) ∧ w'.cell? ⟨gb321, 1, none⟩ = some (.string ((rd_T47 t317 x26_2).f1)) ∧ w'.cell? ⟨gb321, 2, none⟩ = some (.slice A320_2 ((rd_T47 t317 x26_2).f2).length c320_2) ∧ w'.cell? ⟨gb321, 3, none⟩ = some (.int .i64 ((rd_T47 t317 x26_2).f3)) ∧ w'.cell? (ad322.add ((x26_2).toNat * 2)) = some (.int .i64 ((rd_T51 l1 x26_2).f0)) ∧ w'.cell? ⟨(ad322.add ((x26_2).toNat * 2)).block, (ad322.add ((x26_2).toNat * 2)).off + 1, none⟩ = some (.int .i64 ((rd_T51 l1 x26_2).f1))) (ds := []) #[false, false, false, false, false, false, false, false, false] (by kernel_rfl) rfl rfl ⟨(blk_cell BK321.out 0).trans rfl, (blk_cell BK321.out 1).trans rfl, (blk_cell BK321.out 2).trans rfl, (blk_cell BK321.out 3).trans rfl, ((HB.out.cell (World.block_lt_of_cell? w _ hw322_0)).trans hw322_0), ((HB.out.cell (World.block_lt_of_cell? w _ hw322_1)).trans hw322_1)⟩ (fun hHeld => ?_); refine with_tabW modcertlaw02_CodecReads.tab11 modcertlaw02_CodecReads.bits11 (fun HT_ HW_ => ?_)
                        generalize w32.drew = w33 at HO_24 HL320_2 BK321 HI316 HB hx322_0 hx322_1 hHeld ⊢
                        refine pure_ (i := 0) (N := some 31) (v := ?_) (a' := ?_) #[true, false, false, false, false, false, false, false, false] rfl rfl (any_of HT_.out (by kernel_rfl)) (fun _ _ _ h => h) (Or.inl ⟨by rfl, ?_⟩) ?_ ?_
                        rotate_left
                        · intro w'
                          go_simp
                          with_reducible rfl
                        rotate_left
                        · simp only [Act.put, List.setIfInBounds_toArray, List.set_cons_zero, List.set_cons_succ, i64_w, i32_w]
                          rfl
                        refine pure_ (i := 1) (N := some 32) (v := ?_) (a' := ?_) #[true, true, false, false, false, false, false, false, false] rfl rfl (any_of HT_.out (by kernel_rfl)) (fun _ _ _ h => h) (Or.inl ⟨by rfl, ?_⟩) ?_ ?_
                        rotate_left
                        · intro w'
                          go_simp
                          with_reducible rfl
                        rotate_left
                        · simp only [Act.put, List.setIfInBounds_toArray, List.set_cons_zero, List.set_cons_succ, i64_w, i32_w]
                          rfl
                        refine pure_ (i := 2) (N := some 33) (v := ?_) (a' := ?_) #[true, true, true, false, false, false, false, false, false] rfl rfl (any_of HT_.out (by kernel_rfl)) (fun _ _ _ h => h) (Or.inl ⟨by rfl, ?_⟩) ?_ ?_
                        rotate_left
                        · intro w'
                          go_simp
                          with_reducible rfl
                        rotate_left
                        · simp only [Act.put, List.setIfInBounds_toArray, List.set_cons_zero, List.set_cons_succ, i64_w, i32_w]
                          rfl
                        refine pure_ (i := 3) (N := some 34) (v := ?_) (a' := ?_) #[true, true, true, true, false, false, false, false, false] rfl rfl (any_of HT_.out (by kernel_rfl)) (fun _ _ _ h => h) (Or.inl ⟨by rfl, ?_⟩) ?_ ?_
                        rotate_left
                        · intro w'
                          go_simp
                          with_reducible rfl
                        rotate_left
                        · simp only [Act.put, List.setIfInBounds_toArray, List.set_cons_zero, List.set_cons_succ, i64_w, i32_w]
                          rfl
                        refine take_ (i := 4) (N := some 35) (v := ?_) (a' := ?_) #[true, true, true, true, true, false, false, false, false] rfl rfl (take_ofW HT_.out HW_.out (by kernel_rfl)) (fun _ _ _ h => h) (Or.inl ⟨by rfl, ?_⟩) hHeld ?_ ?_
                        rotate_left
                        · rintro w' ⟨s0, s1, s2, s3, s4, s5⟩
                          go_simp
                          with_reducible rfl
                        rotate_left
                        · simp only [Act.put, List.setIfInBounds_toArray, List.set_cons_zero, List.set_cons_succ, i64_w, i32_w]
                          rfl
                        refine take_ (i := 6) (N := some 37) (v := ?_) (a' := ?_) #[true, true, true, true, true, false, true, false, false] rfl rfl (take_ofW HT_.out HW_.out (by kernel_rfl)) (fun _ _ _ h => h) (Or.inl ⟨by rfl, ?_⟩) hHeld ?_ ?_
                        rotate_left
                        · rintro w' ⟨s0, s1, s2, s3, s4, s5⟩
                          go_simp
                          with_reducible rfl
                        rotate_left
                        · simp only [Act.put, List.setIfInBounds_toArray, List.set_cons_zero, List.set_cons_succ, i64_w, i32_w]
                          rfl
                        refine one_ (i := 5) (N := some 36) #[true, true, true, true, true, true, true, false, false] rfl rfl (one_of HT_.out (by kernel_rfl)) (by decide) (fun K hK => ?_)
                        refine goes_ Try.func33 (by kernel_rfl) rfl #[.pointer (some ⟨g316, 0, none⟩), .agg #[.int .i64 ((rd_T51 l1 x26_2).f0), .int .i64 ((rd_T51 l1 x26_2).f1)]] (by rfl) rfl rfl (by (try simp only [List.map_toArray, List.map_cons, List.map_nil]); first | done | rfl | (simp only [List.length_drop, List.length_take]; rfl)) ?_
                        with_reducible refine (modcertlaw02_result.calls k2 g316 x317000_2 x317001_2 x317002_2 ((rd_T51 l1 x26_2).f0) ((rd_T51 l1 x26_2).f1) t323 t324 t325 t328 t329 t330 t331 w _ ?side1 ?side2 A18.out).mono ?_
                        (case side1 => repeat (first | (with_reducible first | exact HI316.out | apply IsS89.alloc | apply IsS89.drewN | apply IsS89.drew | apply IsS89.set_0 | apply IsS89.set_1 | apply IsS89.set_2 | refine IsS89.far ?_ NB316_321.out _) | exact HI316.out))
                        (case side2 => repeat (first | (with_reducible first | exact HB.out | apply below_alloc | apply pw_below_drewN | apply below_drew1 | refine below_set ?_ (IsS89.ge HI316.out) | refine below_set ?_ GE321.out) | exact HB.out))
                        rintro e w34 ⟨v326, rfl, ho0, hi, hb, hk⟩
                        refine ⟨_, rfl, ?_⟩
                        have n0_ := Aside0.mk (Kd.S_mono (Kd.S_told (Kd.S_oldK (IsS89.apartS (show IsS89 w _ g316 x317000_2 x317001_2 x317002_2 from by repeat (first | (with_reducible first | exact HI316.out | apply IsS89.alloc | apply IsS89.drewN | apply IsS89.drew | apply IsS89.set_0 | apply IsS89.set_1 | apply IsS89.set_2 | refine IsS89.far ?_ NB316_321.out _) | exact HI316.out)) (by (with_reducible repeat (first | apply Kd.S_alloc | apply Kd.S_drewN | apply Kd.S_drew)); exact HO_24.out) (by decide)) hk) (Kd.R_base ho0)) (fun _ h_ => h_.1))
                        have n1_ := Aside0.mk (Kd.R_mono (Kd.R_told (Kd.R_oldK (IsS89.apart (show IsS89 w _ g316 x317000_2 x317001_2 x317002_2 from by repeat (first | (with_reducible first | exact HI316.out | apply IsS89.alloc | apply IsS89.drewN | apply IsS89.drew | apply IsS89.set_0 | apply IsS89.set_1 | apply IsS89.set_2 | refine IsS89.far ?_ NB316_321.out _) | exact HI316.out)) (by (with_reducible repeat (first | apply Kd.R_alloc | apply Kd.R_drewN | apply Kd.R_drew)); exact HL320_2.out) (by decide)) hk) (Kd.R_base ho0)) (fun _ h_ => h_.1))
                        have n2_ := Aside0.mk (KeepBut.blk hk (g' := gb321) (o := .cells #[.int .i64 ((rd_T47 t317 x26_2).f0), .string ((rd_T47 t317 x26_2).f1), .slice A320_2 ((rd_T47 t317 x26_2).f2).length c320_2, .int .i64 ((rd_T47 t317 x26_2).f3)] 47 (0, 0)) (by (with_reducible repeat (first | refine blk_drewN ?_ _ | refine blk_drew ?_ | refine blk_alloc ?_ _)); exact BK321.out) NB321_316.out (by simp))
                        have n3_ := Aside0.mk (Kd.R_lower (Kd.R_new' ho0 (Kd.R_lt (by (with_reducible repeat (first | apply Kd.R_alloc | apply Kd.R_drewN | apply Kd.R_drew)); exact HL320_2.out))) (below_size (by repeat (first | (with_reducible first | exact HB.out | apply below_alloc | apply pw_below_drewN | apply below_drew1 | refine below_set ?_ (IsS89.ge HI316.out) | refine below_set ?_ GE321.out) | exact HB.out))))
                        have n4_ := Aside0.mk (hb)
                        have n5_ := Aside0.mk (hi)
                        clear HO_24
                        clear HL320_2
                        clear BK321
                        clear HB
                        clear HI316
                        have HO_24 := n0_
                        have HL320_2 := n1_
                        have BK321 := n2_
                        have HO327 := n3_
                        have HB := n4_
                        have HI316 := n5_
                        clear n0_ n1_ n2_ n3_ n4_ n5_
                        (try clear hb)
                        (try clear hb2)
                        (try clear hk)
                        (try clear hi)
                        (try clear ho0)
                        obtain ⟨Ao35, co35, eo35⟩ := Kd.R_slice HO327.out
                        (first | subst eo35 | (injection eo35 with f1_ f2_ f3_; have f4_ := f1_.symm; have f5_ := f3_.symm; clear f1_ f2_ f3_; subst f4_; subst f5_))
                        refine hK.out _ _ ⟨(blk_cell BK321.out 0).trans rfl, (blk_cell BK321.out 1).trans rfl, (blk_cell BK321.out 2).trans rfl, (blk_cell BK321.out 3).trans rfl, ((HB.out.cell (World.block_lt_of_cell? w _ hw322_0)).trans hw322_0), ((HB.out.cell (World.block_lt_of_cell? w _ hw322_1)).trans hw322_1)⟩ (fun hHeld => ?_)
                        clear hK K
                        refine norm_ (a' := ?_) ?_ ?_
                        rotate_left
                        · show Act.put _ (some 36) _ = _
                          simp only [Act.put, List.setIfInBounds_toArray, List.set_cons_zero, List.set_cons_succ, i64_w, i32_w]
                          rfl
                        refine one_ (i := 7) (N := some 38) #[true, true, true, true, true, true, true, true, false] rfl rfl (one_of HT_.out (by kernel_rfl)) (by decide) (fun K hK => ?_)
                        refine goes_ Try.func32 (by kernel_rfl) rfl #[.agg #[.int .i64 t323, .string t324, .slice Ao35 t325.length co35, .int .i64 t328], .agg #[.int .i64 ((rd_T47 t317 x26_2).f0), .string ((rd_T47 t317 x26_2).f1), .slice A320_2 ((rd_T47 t317 x26_2).f2).length c320_2, .int .i64 ((rd_T47 t317 x26_2).f3)]] (by rfl) rfl rfl (by (try simp only [List.map_toArray, List.map_cons, List.map_nil]); first | done | rfl | (simp only [List.length_drop, List.length_take]; rfl)) ?_
                        with_reducible refine (modcertref02_Same.calls k2 t323 t324 _ _ t325 t328 ((rd_T47 t317 x26_2).f0) ((rd_T47 t317 x26_2).f1) _ _ ((rd_T47 t317 x26_2).f2) ((rd_T47 t317 x26_2).f3) false _ ?side1 ?side2 ?side3 ?side4 A19.out).mono ?_
                        (case side1 => repeat (first | exact (Kd.R_reads' HO327.out).2.2 | (with_reducible refine Kd.C_alloc ?_ _) | (with_reducible refine Kd.C_drewN ?_ _) | (with_reducible refine Kd.C_drew ?_)))
                        (case side2 => exact (Kd.R_reads' HO327.out).2.1)
                        (case side3 => repeat (first | exact ((Kd.R_reads' (by (with_reducible repeat (first | apply Kd.R_alloc | apply Kd.R_drewN | apply Kd.R_drew)); exact HL320_2.out)).2.2) | (with_reducible refine Kd.C_alloc ?_ _) | (with_reducible refine Kd.C_drewN ?_ _) | (with_reducible refine Kd.C_drew ?_)))
                        (case side4 => exact HC320_2.out)
                        rintro e w36 ⟨rfl, hb⟩
                        refine ⟨_, rfl, ?_⟩
                        have n0_ := Aside0.mk (Kd.S_below (by (with_reducible repeat (first | apply Kd.S_alloc | apply Kd.S_drewN | apply Kd.S_drew)); exact HO_24.out) hb)
                        have n1_ := Aside0.mk (Kd.R_below (by (with_reducible repeat (first | apply Kd.R_alloc | apply Kd.R_drewN | apply Kd.R_drew)); exact HL320_2.out) hb)
                        have n2_ := Aside0.mk (Kd.R_below (by (with_reducible repeat (first | apply Kd.R_alloc | apply Kd.R_drewN | apply Kd.R_drew)); exact HO327.out) hb)
                        have n3_ := Aside0.mk (IsS89.below (by repeat (first | (with_reducible first | exact HI316.out | apply IsS89.alloc | apply IsS89.drewN | apply IsS89.drew | apply IsS89.set_0 | apply IsS89.set_1 | apply IsS89.set_2 | refine IsS89.far ?_ NB316_321.out _) | exact HI316.out)) hb)
                        have n4_ := Aside0.mk (blk_below (g := gb321) (o := .cells #[.int .i64 ((rd_T47 t317 x26_2).f0), .string ((rd_T47 t317 x26_2).f1), .slice A320_2 ((rd_T47 t317 x26_2).f2).length c320_2, .int .i64 ((rd_T47 t317 x26_2).f3)] 47 (0, 0)) (by (with_reducible repeat (first | refine blk_drewN ?_ _ | refine blk_drew ?_ | refine blk_alloc ?_ _)); exact BK321.out) hb)
                        have n5_ := Aside0.mk (below_step (by repeat (first | (with_reducible first | exact HB.out | apply below_alloc | apply pw_below_drewN | apply below_drew1 | refine below_set ?_ (IsS89.ge HI316.out) | refine below_set ?_ GE321.out) | exact HB.out)) hb)
                        clear HO_24
                        clear HL320_2
                        clear HO327
                        clear HI316
                        clear BK321
                        clear HB
                        have HO_24 := n0_
                        have HL320_2 := n1_
                        have HO327 := n2_
                        have HI316 := n3_
                        have BK321 := n4_
                        have HB := n5_
                        clear n0_ n1_ n2_ n3_ n4_ n5_
                        (try clear hb)
                        (try clear hb2)
                        (try clear hk)
                        (try clear hi)
                        refine hK.out _ _ ⟨(blk_cell BK321.out 0).trans rfl, (blk_cell BK321.out 1).trans rfl, (blk_cell BK321.out 2).trans rfl, (blk_cell BK321.out 3).trans rfl, ((HB.out.cell (World.block_lt_of_cell? w _ hw322_0)).trans hw322_0), ((HB.out.cell (World.block_lt_of_cell? w _ hw322_1)).trans hw322_1)⟩ (fun hHeld => ?_)
                        clear hK K
                        refine norm_ (a' := ?_) ?_ ?_
                        rotate_left
                        · show Act.put _ (some 38) _ = _
                          simp only [Act.put, List.setIfInBounds_toArray, List.set_cons_zero, List.set_cons_succ, i64_w, i32_w]
                          rfl
                        refine pure_ (i := 8) (N := some 39) (v := ?_) (a' := ?_) #[true, true, true, true, true, true, true, true, true] rfl rfl (any_of HT_.out (by kernel_rfl)) (fun _ _ _ h => h) (Or.inl ⟨by rfl, ?_⟩) ?_ ?_
                        rotate_left
                        · intro w'
                          go_simp
                          with_reducible rfl
                        rotate_left
                        · simp only [Act.put, List.setIfInBounds_toArray, List.set_cons_zero, List.set_cons_succ, i64_w, i32_w]
                          rfl
                        refine done_ (done_of HT_.out (by kernel_rfl)) ?_
                        try go_wp2
                        go_ret
                        exact ⟨by first | rfl | (simp [errW_none, errW_some] <;> rfl) | (simp [*, errW_none, errW_some] <;> rfl), by repeat (first | (with_reducible first | exact HB.out | apply below_alloc | apply pw_below_drewN | apply below_drew1 | refine below_set ?_ (IsS89.ge HI316.out) | refine below_set ?_ GE321.out) | exact HB.out)⟩
                    · rw [if_neg c17] at H
                      exact absurd H (by simp)
                  · rw [if_neg c16] at H
                    exact absurd H (by simp)
                · rw [if_neg c15] at H
                  exact absurd H (by simp)
              · rw [if_neg c14] at H
                have c14b0 : decide (x26_2 < (t317.length : Int)) = false := decide_eq_false c14
                clear c14
                obtain rfl := Option.some.inj H
                go_wp2
                go_ret
                exact ⟨by first | rfl | (simp [errW_none, errW_some] <;> rfl) | (simp [*, errW_none, errW_some] <;> rfl), by repeat (first | (with_reducible first | exact HB.out | apply below_alloc | apply pw_below_drewN | apply below_drew1 | refine below_set ?_ (IsS89.ge HI316.out)) | exact HB.out)⟩
  · replace c4 := Bool.eq_false_iff.mpr c4
    subst c4
    have H1 : (some false) = some r := by rw [if_neg (show ¬ (false = true) by decide)] at H; exact H
    clear H
    have H := H1
    clear H1
    obtain rfl := Option.some.inj H
    go_enter Try.func6, Try.ntmps6
    go_wp2_with (first | ((with_reducible refine gate_callee (f := 13) rfl ?_); refine goesL_ (some 8) rfl rfl Try.func13 (by kernel_rfl) rfl #[] rfl (by (try simp only [List.map_toArray, List.map_cons, List.map_nil]); first | done | rfl | (simp only [List.length_drop, List.length_take]; rfl)) ?_; (with_reducible refine (modcertlaw02_awake.calls k  false _ A3.out).mono ?_); rintro e w37 ⟨rfl, hb⟩; refine ⟨_, rfl, ?_⟩; have n0_ := Aside0.mk (below_step (by repeat (first | (with_reducible first | exact HB.out | apply below_alloc | apply pw_below_drewN | apply below_drew1) | exact HB.out)) hb); clear HB; have HB := n0_; clear n0_; (try clear hb); (try clear hb2); (try clear hk); (try clear hi)))
    go_ret
    exact ⟨by first | rfl | (simp [errW_none, errW_some] <;> rfl) | (simp [*, errW_none, errW_some] <;> rfl), by repeat (first | (with_reducible first | exact HB.out | apply below_alloc | apply pw_below_drewN | apply below_drew1) | exact HB.out)⟩

end Go.Proofs.Ytldkkboeaadbeaa.Pr
