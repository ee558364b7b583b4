-- By a program of this session.
import Derived.Test.YtldkkboeaadbeaaPr0
namespace Go.Proofs.Ytldkkboeaadbeaa.Pr
open Go.RowKit Go.Proofs.YtldkkboeaadbeaaW.PrintWords Go.Proofs.YtldkkboeaadbeaaW.PrintLast Go.Proofs.YtldkkboeaadbeaaW.PrintMore
attribute [local go_sem] max2_int min2_int max_two min_two max_three min_three max_four min_four   -- for this text's walks alone
set_option linter.unusedVariables false
set_option linter.unusedSimpArgs false

/-! ### modcertref02_readUnsigned: function 83 -/
mutual
def modcertref02_readUnsigned.l0 : Nat → ByteArray → Int → Int → Int → Option (Int × Int × Bool)
  | 0, _, _, _, _ => none
  | k + 1, x0, x1, x7, x8 => if x8 < 10 then (if (wrap64 (x1 + x8)) < 0 then (modcertref02_readUnsigned.j1 k x0 x1 x7 x8 true) else (modcertref02_readUnsigned.j1 k x0 x1 x7 x8 (decide ((wrap64 (x1 + x8)) ≥ (x0.size : Int))))) else (some (0, 0, false))
def modcertref02_readUnsigned.j1 : Nat → ByteArray → Int → Int → Int → Bool → Option (Int × Int × Bool)
  | 0, _, _, _, _, _ => none
  | k + 1, x0, x1, x7, x8, x25 => if x25 = true then (some (0, 0, false)) else (if 0 ≤ (wrap64 (x1 + x8)) then (if (wrap64 (x1 + x8)) < (x0.size : Int) then (if x8 = 9 then (modcertref02_readUnsigned.j2 k x0 x1 x7 x8 (IntKind.u64.wrap (bt x0 (wrap64 (x1 + x8)))) (decide ((IntKind.u64.wrap (bt x0 (wrap64 (x1 + x8)))) > 1))) else (modcertref02_readUnsigned.j2 k x0 x1 x7 x8 (IntKind.u64.wrap (bt x0 (wrap64 (x1 + x8)))) false)) else (none)) else (none))
def modcertref02_readUnsigned.j2 : Nat → ByteArray → Int → Int → Int → Int → Bool → Option (Int × Int × Bool)
  | 0, _, _, _, _, _, _ => none
  | k + 1, x0, x1, x7, x8, x9, x37 => if x37 = true then (some (0, 0, false)) else (if 0 ≤ (wrap64 (7 * x8)) then (if x9 < 128 then (if x8 = 0 then (some (IntKind.u64.wrap (x7 + (shl .u64 (Int.tmod x9 128) (wrap64 (7 * x8)))), wrap64 ((wrap64 (x1 + x8)) + 1), true)) else (some (IntKind.u64.wrap (x7 + (shl .u64 (Int.tmod x9 128) (wrap64 (7 * x8)))), wrap64 ((wrap64 (x1 + x8)) + 1), (x9 != 0)))) else (modcertref02_readUnsigned.l0 k x0 x1 (IntKind.u64.wrap (x7 + (shl .u64 (Int.tmod x9 128) (wrap64 (7 * x8))))) (wrap64 (x8 + 1)))) else (none))
end
def modcertref02_readUnsigned.f (k : Nat) (a0 : ByteArray) (a1 : Int) : Option (Int × Int × Bool) := modcertref02_readUnsigned.l0 k a0 a1 0 0
theorem modcertref02_readUnsigned.mono_l : ∀ k, (∀ y0 y1 y2 y3, LeO (modcertref02_readUnsigned.l0 k y0 y1 y2 y3) (modcertref02_readUnsigned.l0 (k + 1) y0 y1 y2 y3)) ∧ (∀ y0 y1 y2 y3 y4, LeO (modcertref02_readUnsigned.j1 k y0 y1 y2 y3 y4) (modcertref02_readUnsigned.j1 (k + 1) y0 y1 y2 y3 y4)) ∧ (∀ y0 y1 y2 y3 y4 y5, LeO (modcertref02_readUnsigned.j2 k y0 y1 y2 y3 y4 y5) (modcertref02_readUnsigned.j2 (k + 1) y0 y1 y2 y3 y4 y5))
  | 0 => ⟨fun _ _ _ _ r h => by simp [modcertref02_readUnsigned.l0] at h, fun _ _ _ _ _ r h => by simp [modcertref02_readUnsigned.j1] at h, fun _ _ _ _ _ _ r h => by simp [modcertref02_readUnsigned.j2] at h⟩
  | k + 1 => by
    obtain ⟨ih0, ih1, ih2⟩ := modcertref02_readUnsigned.mono_l k
    refine ⟨?_, ?_, ?_⟩
    · intro y0 y1 y2 y3
      unfold modcertref02_readUnsigned.l0
      repeat' first
      | (with_reducible exact ih0 _ _ _ _)
      | (with_reducible exact ih1 _ _ _ _ _)
      | (with_reducible exact ih2 _ _ _ _ _ _)
      | (with_reducible exact LeO.refl _)
      | (with_reducible exact LeO.none _)
      | (with_reducible refine LeO.ite ?_ ?_)
      | (with_reducible refine LeO.bind ?_ (fun _ => ?_))
      | exact ih0 _ _ _ _
      | exact ih1 _ _ _ _ _
      | exact ih2 _ _ _ _ _ _
      | exact LeO.none _
      | refine LeO.ite ?_ ?_
      | refine LeO.bind ?_ (fun _ => ?_)
    · intro y0 y1 y2 y3 y4
      unfold modcertref02_readUnsigned.j1
      repeat' first
      | (with_reducible exact ih0 _ _ _ _)
      | (with_reducible exact ih1 _ _ _ _ _)
      | (with_reducible exact ih2 _ _ _ _ _ _)
      | (with_reducible exact LeO.refl _)
      | (with_reducible exact LeO.none _)
      | (with_reducible refine LeO.ite ?_ ?_)
      | (with_reducible refine LeO.bind ?_ (fun _ => ?_))
      | exact ih0 _ _ _ _
      | exact ih1 _ _ _ _ _
      | exact ih2 _ _ _ _ _ _
      | exact LeO.none _
      | refine LeO.ite ?_ ?_
      | refine LeO.bind ?_ (fun _ => ?_)
    · intro y0 y1 y2 y3 y4 y5
      unfold modcertref02_readUnsigned.j2
      repeat' first
      | (with_reducible exact ih0 _ _ _ _)
      | (with_reducible exact ih1 _ _ _ _ _)
      | (with_reducible exact ih2 _ _ _ _ _ _)
      | (with_reducible exact LeO.refl _)
      | (with_reducible exact LeO.none _)
      | (with_reducible refine LeO.ite ?_ ?_)
      | (with_reducible refine LeO.bind ?_ (fun _ => ?_))
      | exact ih0 _ _ _ _
      | exact ih1 _ _ _ _ _
      | exact ih2 _ _ _ _ _ _
      | exact LeO.none _
      | refine LeO.ite ?_ ?_
      | refine LeO.bind ?_ (fun _ => ?_)
theorem modcertref02_readUnsigned.mono : ∀ a0 a1 k, LeO (modcertref02_readUnsigned.f k a0 a1) (modcertref02_readUnsigned.f (k + 1) a0 a1) := by
  intro a0 a1 k
  obtain ⟨ih0, ih1, ih2⟩ := modcertref02_readUnsigned.mono_l k
  unfold modcertref02_readUnsigned.f
  repeat' first
      | (with_reducible exact ih0 _ _ _ _)
      | (with_reducible exact ih1 _ _ _ _ _)
      | (with_reducible exact ih2 _ _ _ _ _ _)
      | (with_reducible exact LeO.refl _)
      | (with_reducible exact LeO.none _)
      | (with_reducible refine LeO.ite ?_ ?_)
      | (with_reducible refine LeO.bind ?_ (fun _ => ?_))
      | exact ih0 _ _ _ _
      | exact ih1 _ _ _ _ _
      | exact ih2 _ _ _ _ _ _
      | exact LeO.none _
      | refine LeO.ite ?_ ?_
      | refine LeO.bind ?_ (fun _ => ?_)
set_option maxHeartbeats 8000000 in
set_option maxRecDepth 100000 in
theorem modcertref02_readUnsigned.calls (k : Nat) (a0 : ByteArray) (a1 : Int) (r1 : Int) (r2 : Int) (r3 : Bool) (w : World) (h : modcertref02_readUnsigned.f k a0 a1 = some (r1, r2, r3)) :
    Calls Try.prog 83 #[.string a0, .int .i64 a1] w fun e w' => e = .returned (.tuple #[.int .u64 r1, .int .i64 r2, .bool r3]) ∧ Drawn0 w w' := by
  have H : (modcertref02_readUnsigned.l0 k a0 a1 0 0) = some (r1, r2, r3) := h
  clear h
  have H' := Aside0.mk H
  clear H
  go_enter Try.func83, Try.ntmps83
  go_wp2
  go_loopg [7, 8] k (fun kq v7 v8 w' => ∃ (x7_1 : Int) (x8_1 : Int), v7 = .int .u64 x7_1 ∧ v8 = .int .i64 x8_1 ∧ Aside0 (modcertref02_readUnsigned.l0 kq a0 a1 x7_1 x8_1 = some (r1, r2, r3)) ∧ Aside0 (kq ≤ k) ∧ Drawn0 w w')
  case atStart => exact ⟨(0), (0), (by first | rfl | (simp; done) | (simp [*]; done)), (by first | rfl | (simp; done) | (simp [*]; done)), H', ⟨Nat.le_refl _⟩, by repeat (first | exact Drawn0.refl _ | apply Drawn0.step)⟩
  case round =>
    clear H'
    try clear p2
    obtain ⟨x7_1, x8_1, rfl, rfl, HA, HK1, ⟨m1, rfl⟩⟩ := hrel
    cases gk with
    | zero => exact absurd HA.out (by simp [modcertref02_readUnsigned.l0])
    | succ k1 =>
      have H := HA.out
      clear HA
      simp only [modcertref02_readUnsigned.l0] at H
      by_cases c3 : x8_1 < 10
      · rw [if_pos c3] at H
        have c3b0 : decide (x8_1 < 10) = true := decide_eq_true c3
        clear c3
        have HC4 := Aside0.mk H
        clear H
        go_upto_region 5 with (fail)
        go_cut [25] (fun v25 wc => ∃ (kq : Nat) (x25_3 : Bool), v25 = .bool x25_3 ∧ Aside0 (modcertref02_readUnsigned.j1 kq a0 a1 x7_1 x8_1 x25_3 = some (r1, r2, r3)) ∧ Aside0 (kq ≤ k1) ∧ Drawn0 w wc)
        case first =>
          have H := HC4.out
          clear HC4
          by_cases c5 : (wrap64 (a1 + x8_1)) < 0
          · rw [if_pos c5] at H
            have c5b0 : decide ((wrap64 (a1 + x8_1)) < 0) = true := decide_eq_true c5
            clear c5
            (first | rw [c5b0] | (simp only [i64_w, i32_w]; rw [c5b0]) | skip)
            have H' := Aside0.mk H
            clear H
            go_wp2
            go_meet
            case rel => exact ⟨_, (true), (by first | rfl | (simp; done) | (simp [*]; done)), H', ⟨by have := HK1.out; first | omega | exact Nat.le_refl _⟩, by repeat (first | exact Drawn0.refl _ | apply Drawn0.step)⟩
          · rw [if_neg c5] at H
            have c5b0 : decide ((wrap64 (a1 + x8_1)) < 0) = false := decide_eq_false c5
            clear c5
            (first | rw [c5b0] | (simp only [i64_w, i32_w]; rw [c5b0]) | skip)
            have H' := Aside0.mk H
            clear H
            go_wp2
            go_meet
            case rel => exact ⟨_, (decide ((wrap64 (a1 + x8_1)) ≥ (a0.size : Int))), (by first | rfl | (simp; done) | (simp [*]; done)), H', ⟨by have := HK1.out; first | omega | exact Nat.le_refl _⟩, by repeat (first | exact Drawn0.refl _ | apply Drawn0.step)⟩
        case rest =>
          clear HC4
          try clear p2
          try clear c3
          try clear c3b0
          try clear c5
          try clear c5b0
          try clear p2
          obtain ⟨kq, x25_3, rfl, HA, HJ3, ⟨mc3, rfl⟩⟩ := hcut
          cases kq with
          | zero => exact absurd HA.out (by simp [modcertref02_readUnsigned.j1])
          | succ kj3 =>
            have H := HA.out
            clear HA
            simp only [modcertref02_readUnsigned.j1] at H
            by_cases c6 : x25_3 = true
            · subst c6
              have H1 : (some (0, 0, false)) = some (r1, r2, r3) := by rw [if_pos rfl] at H; exact H
              clear H
              have H := H1
              clear H1
              simp only [Option.some.injEq, Prod.mk.injEq] at H
              obtain ⟨rfl, rfl, rfl⟩ := H
              go_wp2
              go_ret3
              exact ⟨by first | rfl | (simp; done) | (simp [*]; done), by repeat (first | exact Drawn0.refl _ | apply Drawn0.step)⟩
            · replace c6 := Bool.eq_false_iff.mpr c6
              subst c6
              have H1 : (if 0 ≤ (wrap64 (a1 + x8_1)) then (if (wrap64 (a1 + x8_1)) < (a0.size : Int) then (if x8_1 = 9 then (modcertref02_readUnsigned.j2 kj3 a0 a1 x7_1 x8_1 (IntKind.u64.wrap (bt a0 (wrap64 (a1 + x8_1)))) (decide ((IntKind.u64.wrap (bt a0 (wrap64 (a1 + x8_1)))) > 1))) else (modcertref02_readUnsigned.j2 kj3 a0 a1 x7_1 x8_1 (IntKind.u64.wrap (bt a0 (wrap64 (a1 + x8_1)))) false)) else (none)) else (none)) = some (r1, r2, r3) := by rw [if_neg (show ¬ (false = true) by decide)] at H; exact H
              clear H
              have H := H1
              clear H1
              obtain ⟨ji7, hji7⟩ : ∃ j_ : Int, (wrap64 (a1 + x8_1)) = j_ := ⟨_, rfl⟩
              replace H : (if 0 ≤ (ji7) then (if (ji7) < (a0.size : Int) then (if x8_1 = 9 then (modcertref02_readUnsigned.j2 kj3 a0 a1 x7_1 x8_1 (IntKind.u64.wrap (bt a0 (ji7))) (decide ((IntKind.u64.wrap (bt a0 (ji7))) > 1))) else (modcertref02_readUnsigned.j2 kj3 a0 a1 x7_1 x8_1 (IntKind.u64.wrap (bt a0 (ji7))) false)) else (none)) else (none)) = some (r1, r2, r3) := by first | (rw [hji7] at H; exact H) | (simp only [hji7] at H ⊢; exact H)
              have hji7w : (IntKind.i64.wrap (a1 + x8_1)) = ji7 := (i64_w _).trans hji7
              by_cases c8 : 0 ≤ (ji7)
              · rw [if_pos c8] at H
                have c8b0 : decide (0 ≤ (ji7)) = true := decide_eq_true c8
                clear c8
                by_cases c9 : (ji7) < (a0.size : Int)
                · rw [if_pos c9] at H
                  have c9b0 : decide ((ji7) < (a0.size : Int)) = true := decide_eq_true c9
                  clear c9
                  have HC11 := Aside0.mk H
                  clear H
                  have p10 : 0 ≤ ((ji7) : Int) := of_decide_eq_true (by first | (with_reducible assumption) | assumption)
                  have q10 : (ji7) < (a0.size : Int) := of_decide_eq_true (by first | (with_reducible assumption) | assumption)
                  have hx10 := bt_at a0 (ji7)
                  replace p10 := eq_true p10
                  replace q10 := eq_true q10
                  go_upto_region 8 with (fail)
                  go_cut [37] (fun v37 wc => ∃ (kq : Nat) (x37_10 : Bool), v37 = .bool x37_10 ∧ Aside0 (modcertref02_readUnsigned.j2 kq a0 a1 x7_1 x8_1 (IntKind.u64.wrap (bt a0 (ji7))) x37_10 = some (r1, r2, r3)) ∧ Aside0 (kq ≤ kj3) ∧ Drawn0 w wc)
                  case first =>
                    have H := HC11.out
                    clear HC11
                    by_cases c12 : x8_1 = 9
                    · rw [if_pos c12] at H
                      have c12b0 : (x8_1 == 9) = true := beq_iff_eq.mpr c12
                      have c12b1 : (x8_1 != 9) = false := bne_eq_false_iff_eq.mpr c12
                      clear c12
                      (first | rw [c12b0] | (simp only [i64_w, i32_w]; rw [c12b0]) | skip)
                      have H' := Aside0.mk H
                      clear H
                      go_wp2
                      go_meet
                      case rel => exact ⟨_, (decide ((IntKind.u64.wrap (bt a0 (ji7))) > 1)), (by first | rfl | (simp; done) | (simp only [← hji7] <;> (first | rfl | simp)) | (simp [*]; done)), H', ⟨by have := HK1.out; have := HJ3.out; first | omega | exact Nat.le_refl _⟩, by repeat (first | exact Drawn0.refl _ | apply Drawn0.step)⟩
                    · rw [if_neg c12] at H
                      have c12b0 : (x8_1 == 9) = false := beq_eq_false_iff_ne.mpr c12
                      have c12b1 : (x8_1 != 9) = true := bne_iff_ne.mpr c12
                      (first | rw [c12b0] | (simp only [i64_w, i32_w]; rw [c12b0]) | skip)
                      have H' := Aside0.mk H
                      clear H
                      go_wp2
                      go_meet
                      case rel => exact ⟨_, (false), (by first | rfl | (simp; done) | (simp [*]; done)), H', ⟨by have := HK1.out; have := HJ3.out; first | omega | exact Nat.le_refl _⟩, by repeat (first | exact Drawn0.refl _ | apply Drawn0.step)⟩
                  case rest =>
                    clear HC11
                    try clear c1
                    try clear p1
                    try clear q1
                    try clear hx1
                    try clear p2
                    try clear c3
                    try clear c3b0
                    try clear c5
                    try clear c5b0
                    try clear c6
                    try clear p6
                    try clear c8
                    try clear c8b0
                    try clear c9
                    try clear c9b0
                    try clear p10
                    try clear q10
                    try clear hx10
                    try clear c12
                    try clear c12b0
                    try clear c12b1
                    try clear p10
                    try clear p2
                    try clear q10
                    obtain ⟨kq, x37_10, rfl, HA, HJ10, ⟨mc10, rfl⟩⟩ := hcut
                    cases kq with
                    | zero => exact absurd HA.out (by simp [modcertref02_readUnsigned.j2])
                    | succ kj10 =>
                      have H := HA.out
                      clear HA
                      simp only [modcertref02_readUnsigned.j2] at H
                      by_cases c13 : x37_10 = true
                      · subst c13
                        have H1 : (some (0, 0, false)) = some (r1, r2, r3) := by rw [if_pos rfl] at H; exact H
                        clear H
                        have H := H1
                        clear H1
                        simp only [Option.some.injEq, Prod.mk.injEq] at H
                        obtain ⟨rfl, rfl, rfl⟩ := H
                        go_wp2
                        go_ret3
                        exact ⟨by first | rfl | (simp; done) | (simp only [← hji7] <;> (first | rfl | simp)) | (simp [*]; done), by repeat (first | exact Drawn0.refl _ | apply Drawn0.step)⟩
                      · replace c13 := Bool.eq_false_iff.mpr c13
                        subst c13
                        have H1 : (if 0 ≤ (wrap64 (7 * x8_1)) then (if (IntKind.u64.wrap (bt a0 (ji7))) < 128 then (if x8_1 = 0 then (some (IntKind.u64.wrap (x7_1 + (shl .u64 (Int.tmod (IntKind.u64.wrap (bt a0 (ji7))) 128) (wrap64 (7 * x8_1)))), wrap64 ((wrap64 (a1 + x8_1)) + 1), true)) else (some (IntKind.u64.wrap (x7_1 + (shl .u64 (Int.tmod (IntKind.u64.wrap (bt a0 (ji7))) 128) (wrap64 (7 * x8_1)))), wrap64 ((wrap64 (a1 + x8_1)) + 1), ((IntKind.u64.wrap (bt a0 (ji7))) != 0)))) else (modcertref02_readUnsigned.l0 kj10 a0 a1 (IntKind.u64.wrap (x7_1 + (shl .u64 (Int.tmod (IntKind.u64.wrap (bt a0 (ji7))) 128) (wrap64 (7 * x8_1))))) (wrap64 (x8_1 + 1)))) else (none)) = some (r1, r2, r3) := by rw [if_neg (show ¬ (false = true) by decide)] at H; exact H
                        clear H
                        have H := H1
                        clear H1
                        obtain ⟨ji14, hji14⟩ : ∃ j_ : Int, (wrap64 (7 * x8_1)) = j_ := ⟨_, rfl⟩
                        replace H : (if 0 ≤ (ji14) then (if (IntKind.u64.wrap (bt a0 (ji7))) < 128 then (if x8_1 = 0 then (some (IntKind.u64.wrap (x7_1 + (shl .u64 (Int.tmod (IntKind.u64.wrap (bt a0 (ji7))) 128) (ji14))), wrap64 ((wrap64 (a1 + x8_1)) + 1), true)) else (some (IntKind.u64.wrap (x7_1 + (shl .u64 (Int.tmod (IntKind.u64.wrap (bt a0 (ji7))) 128) (ji14))), wrap64 ((wrap64 (a1 + x8_1)) + 1), ((IntKind.u64.wrap (bt a0 (ji7))) != 0)))) else (modcertref02_readUnsigned.l0 kj10 a0 a1 (IntKind.u64.wrap (x7_1 + (shl .u64 (Int.tmod (IntKind.u64.wrap (bt a0 (ji7))) 128) (ji14)))) (wrap64 (x8_1 + 1)))) else (none)) = some (r1, r2, r3) := by first | (rw [hji14] at H; exact H) | (simp only [hji14] at H ⊢; exact H)
                        have hji14w : (IntKind.i64.wrap (7 * x8_1)) = ji14 := (i64_w _).trans hji14
                        by_cases c15 : 0 ≤ (ji14)
                        · rw [if_pos c15] at H
                          have c15b0 := eq_true c15
                          have c15b1 : decide (0 ≤ (ji14)) = true := decide_eq_true c15
                          clear c15
                          obtain ⟨ji16, hji16⟩ : ∃ j_ : Int, (shl .u64 (Int.tmod (IntKind.u64.wrap (bt a0 (ji7))) 128) (ji14)) = j_ := ⟨_, rfl⟩
                          replace H : (if (IntKind.u64.wrap (bt a0 (ji7))) < 128 then (if x8_1 = 0 then (some (IntKind.u64.wrap (x7_1 + (ji16)), wrap64 ((wrap64 (a1 + x8_1)) + 1), true)) else (some (IntKind.u64.wrap (x7_1 + (ji16)), wrap64 ((wrap64 (a1 + x8_1)) + 1), ((IntKind.u64.wrap (bt a0 (ji7))) != 0)))) else (modcertref02_readUnsigned.l0 kj10 a0 a1 (IntKind.u64.wrap (x7_1 + (ji16))) (wrap64 (x8_1 + 1)))) = some (r1, r2, r3) := by first | (rw [hji16] at H; exact H) | (simp only [hji16] at H ⊢; exact H)
                          have hji16_ : (IntKind.u64.wrap ((Int.tmod (IntKind.u64.wrap (bt a0 (ji7))) 128) * 2 ^ min (ji14).toNat 64)) = ji16 := hji16
                          have hji16z : (ji14) ≤ 64 → (IntKind.u64.wrap ((Int.tmod (IntKind.u64.wrap (bt a0 (ji7))) 128) * 2 ^ (ji14).toNat)) = ji16 := shl_small hji16
                          by_cases c17 : (IntKind.u64.wrap (bt a0 (ji7))) < 128
                          · rw [if_pos c17] at H
                            have c17b0 : decide ((IntKind.u64.wrap (bt a0 (ji7))) < 128) = true := decide_eq_true c17
                            clear c17
                            by_cases c18 : x8_1 = 0
                            · rw [if_pos c18] at H
                              have c18b0 : (x8_1 == 0) = true := beq_iff_eq.mpr c18
                              have c18b1 : (x8_1 != 0) = false := bne_eq_false_iff_eq.mpr c18
                              clear c18
                              simp only [Option.some.injEq, Prod.mk.injEq] at H
                              obtain ⟨rfl, rfl, rfl⟩ := H
                              go_wp2
                              go_ret3
                              exact ⟨by first | rfl | (simp; done) | (simp only [← hji7, ← hji14, ← hji16] <;> (first | rfl | simp)) | (simp [*]; done), by repeat (first | exact Drawn0.refl _ | apply Drawn0.step)⟩
                            · rw [if_neg c18] at H
                              have c18b0 : (x8_1 == 0) = false := beq_eq_false_iff_ne.mpr c18
                              have c18b1 : (x8_1 != 0) = true := bne_iff_ne.mpr c18
                              simp only [Option.some.injEq, Prod.mk.injEq] at H
                              obtain ⟨rfl, rfl, rfl⟩ := H
                              go_wp2
                              go_ret3
                              exact ⟨by first | rfl | (simp; done) | (simp only [← hji7, ← hji14, ← hji16] <;> (first | rfl | simp)) | (simp [*]; done), by repeat (first | exact Drawn0.refl _ | apply Drawn0.step)⟩
                          · rw [if_neg c17] at H
                            have c17b0 : decide ((IntKind.u64.wrap (bt a0 (ji7))) < 128) = false := decide_eq_false c17
                            clear c17
                            have H' := Aside0.mk H
                            clear H
                            go_wp2
                            go_roundg kj10
                            case measure => have := HK1.out; have := HJ3.out; have := HJ10.out; omega
                            case rel => exact ⟨(IntKind.u64.wrap (x7_1 + (ji16))), (wrap64 (x8_1 + 1)), (by first | rfl | (simp; done) | (simp only [← hji16] <;> (first | rfl | simp)) | (simp [*]; done)), (by first | rfl | (simp; done) | (simp [*]; done)), H', ⟨by have := HK1.out; have := HJ3.out; have := HJ10.out; omega⟩, by repeat (first | exact Drawn0.refl _ | apply Drawn0.step)⟩
                        · rw [if_neg c15] at H
                          exact absurd H (by simp)
                · rw [if_neg c9] at H
                  exact absurd H (by simp)
              · rw [if_neg c8] at H
                exact absurd H (by simp)
      · rw [if_neg c3] at H
        have c3b0 : decide (x8_1 < 10) = false := decide_eq_false c3
        clear c3
        simp only [Option.some.injEq, Prod.mk.injEq] at H
        obtain ⟨rfl, rfl, rfl⟩ := H
        go_wp2
        go_ret3
        exact ⟨by first | rfl | (simp; done) | (simp [*]; done), by repeat (first | exact Drawn0.refl _ | apply Drawn0.step)⟩

end Go.Proofs.Ytldkkboeaadbeaa.Pr
