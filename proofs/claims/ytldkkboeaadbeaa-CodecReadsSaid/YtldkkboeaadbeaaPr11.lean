-- By a program of this session.
import Derived.Test.YtldkkboeaadbeaaPr0
import Derived.Test.YtldkkboeaadbeaaPr10
namespace Go.Proofs.Ytldkkboeaadbeaa.Pr
open Go.RowKit Go.Proofs.YtldkkboeaadbeaaW.PrintWords Go.Proofs.YtldkkboeaadbeaaW.PrintLast Go.Proofs.YtldkkboeaadbeaaW.PrintMore
attribute [local go_sem] max2_int min2_int max_two min_two max_three min_three max_four min_four   -- for this text's walks alone
set_option linter.unusedVariables false
set_option linter.unusedSimpArgs false

/-! ### modcertref02_ReadUint: function 59 -/
def modcertref02_ReadUint.f (k : Nat) (a0 : ByteArray) (a1 : Int) : Option (Int × Int × Bool) := (modcertref02_readUnsigned.f k a0 a1).bind fun bt244 => (if bt244.2.2 = true then (if bt244.1 > 9223372036854775807 then (some (0, 0, false)) else (some (wrap64 (bt244.1), bt244.2.1, true))) else (some (0, 0, false)))
theorem modcertref02_ReadUint.mono : ∀ a0 a1 k, LeO (modcertref02_ReadUint.f k a0 a1) (modcertref02_ReadUint.f (k + 1) a0 a1) := by
  intro a0 a1 k
  unfold modcertref02_ReadUint.f
  repeat' first
      | (with_reducible exact modcertref02_readUnsigned.mono _ _ _)
      | (with_reducible exact LeO.refl _)
      | (with_reducible exact LeO.none _)
      | (with_reducible refine LeO.ite ?_ ?_)
      | (with_reducible refine LeO.bind ?_ (fun _ => ?_))
      | exact modcertref02_readUnsigned.mono _ _ _
      | exact LeO.none _
      | refine LeO.ite ?_ ?_
      | refine LeO.bind ?_ (fun _ => ?_)
set_option maxHeartbeats 8000000 in
set_option maxRecDepth 100000 in
theorem modcertref02_ReadUint.calls (k : Nat) (a0 : ByteArray) (a1 : Int) (r1 : Int) (r2 : Int) (r3 : Bool) (w : World) (h : modcertref02_ReadUint.f k a0 a1 = some (r1, r2, r3)) :
    Calls Try.prog 59 #[.string a0, .int .i64 a1] w fun e w' => e = .returned (.tuple #[.int .i64 r1, .int .i64 r2, .bool r3]) ∧ Drawn0 w w' := by
  have H : ((modcertref02_readUnsigned.f k a0 a1).bind fun bt244 => (if bt244.2.2 = true then (if bt244.1 > 9223372036854775807 then (some (0, 0, false)) else (some (wrap64 (bt244.1), bt244.2.1, true))) else (some (0, 0, false)))) = some (r1, r2, r3) := h
  clear h
  replace H := Option.bind_eq_some_iff.mp H
  obtain ⟨⟨t244, t245, t246⟩, A30, H⟩ := H
  replace H : (if t246 = true then (if t244 > 9223372036854775807 then (some (0, 0, false)) else (some (wrap64 (t244), t245, true))) else (some (0, 0, false))) = some (r1, r2, r3) := H
  have A3 := Aside0.mk A30
  clear A30
  by_cases c4 : t246 = true
  · subst c4
    have H1 : (if t244 > 9223372036854775807 then (some (0, 0, false)) else (some (wrap64 (t244), t245, true))) = some (r1, r2, r3) := by rw [if_pos rfl] at H; exact H
    clear H
    have H := H1
    clear H1
    by_cases c5 : t244 > 9223372036854775807
    · rw [if_pos c5] at H
      have c5b0 : decide (9223372036854775807 < t244) = true := decide_eq_true c5
      clear c5
      simp only [Option.some.injEq, Prod.mk.injEq] at H
      obtain ⟨rfl, rfl, rfl⟩ := H
      go_enter Try.func59, Try.ntmps59
      go_wp2_with (first | ((with_reducible refine gate_callee (f := 83) rfl ?_); refine goesL_ (some 13) rfl rfl Try.func83 (by kernel_rfl) rfl #[.string a0, .int .i64 a1] rfl (by (try simp only [List.map_toArray, List.map_cons, List.map_nil]); first | done | rfl | (simp only [List.length_drop, List.length_take]; rfl)) ?_; (with_reducible refine (modcertref02_readUnsigned.calls k a0 a1 t244 t245 true _ A3.out).mono ?_); rintro e w' ⟨rfl, ⟨nd, rfl⟩⟩; refine ⟨_, rfl, ?_⟩))
      go_ret3
      exact ⟨by first | rfl | (simp; done) | (simp [*]; done), by repeat (first | exact Drawn0.refl _ | apply Drawn0.step)⟩
    · rw [if_neg c5] at H
      have c5b0 : decide (9223372036854775807 < t244) = false := decide_eq_false c5
      clear c5
      simp only [Option.some.injEq, Prod.mk.injEq] at H
      obtain ⟨rfl, rfl, rfl⟩ := H
      go_enter Try.func59, Try.ntmps59
      go_wp2_with (first | ((with_reducible refine gate_callee (f := 83) rfl ?_); refine goesL_ (some 13) rfl rfl Try.func83 (by kernel_rfl) rfl #[.string a0, .int .i64 a1] rfl (by (try simp only [List.map_toArray, List.map_cons, List.map_nil]); first | done | rfl | (simp only [List.length_drop, List.length_take]; rfl)) ?_; (with_reducible refine (modcertref02_readUnsigned.calls k a0 a1 t244 t245 true _ A3.out).mono ?_); rintro e w' ⟨rfl, ⟨nd, rfl⟩⟩; refine ⟨_, rfl, ?_⟩))
      go_ret3
      exact ⟨by first | rfl | (simp; done) | (simp [*]; done), by repeat (first | exact Drawn0.refl _ | apply Drawn0.step)⟩
  · replace c4 := Bool.eq_false_iff.mpr c4
    subst c4
    have H1 : (some (0, 0, false)) = some (r1, r2, r3) := by rw [if_neg (show ¬ (false = true) by decide)] at H; exact H
    clear H
    have H := H1
    clear H1
    simp only [Option.some.injEq, Prod.mk.injEq] at H
    obtain ⟨rfl, rfl, rfl⟩ := H
    go_enter Try.func59, Try.ntmps59
    go_wp2_with (first | ((with_reducible refine gate_callee (f := 83) rfl ?_); refine goesL_ (some 13) rfl rfl Try.func83 (by kernel_rfl) rfl #[.string a0, .int .i64 a1] rfl (by (try simp only [List.map_toArray, List.map_cons, List.map_nil]); first | done | rfl | (simp only [List.length_drop, List.length_take]; rfl)) ?_; (with_reducible refine (modcertref02_readUnsigned.calls k a0 a1 t244 t245 false _ A3.out).mono ?_); rintro e w' ⟨rfl, ⟨nd, rfl⟩⟩; refine ⟨_, rfl, ?_⟩))
    go_ret3
    exact ⟨by first | rfl | (simp; done) | (simp [*]; done), by repeat (first | exact Drawn0.refl _ | apply Drawn0.step)⟩

/-! ### modcertref02_ReadInt: function 60 -/
def modcertref02_ReadInt.f (k : Nat) (a0 : ByteArray) (a1 : Int) : Option (Int × Int × Bool) := (modcertref02_readUnsigned.f k a0 a1).bind fun bt247 => (if bt247.2.2 = true then (if (Int.tmod bt247.1 2) = 0 then (some (wrap64 (IntKind.u64.wrap (Int.tdiv bt247.1 2)), bt247.2.1, true)) else (some (wrap64 ((wrap64 (-(wrap64 (IntKind.u64.wrap (Int.tdiv bt247.1 2))))) - 1), bt247.2.1, true))) else (some (0, 0, false)))
theorem modcertref02_ReadInt.mono : ∀ a0 a1 k, LeO (modcertref02_ReadInt.f k a0 a1) (modcertref02_ReadInt.f (k + 1) a0 a1) := by
  intro a0 a1 k
  unfold modcertref02_ReadInt.f
  repeat' first
      | (with_reducible exact modcertref02_readUnsigned.mono _ _ _)
      | (with_reducible exact LeO.refl _)
      | (with_reducible exact LeO.none _)
      | (with_reducible refine LeO.ite ?_ ?_)
      | (with_reducible refine LeO.bind ?_ (fun _ => ?_))
      | exact modcertref02_readUnsigned.mono _ _ _
      | exact LeO.none _
      | refine LeO.ite ?_ ?_
      | refine LeO.bind ?_ (fun _ => ?_)
set_option maxHeartbeats 8000000 in
set_option maxRecDepth 100000 in
theorem modcertref02_ReadInt.calls (k : Nat) (a0 : ByteArray) (a1 : Int) (r1 : Int) (r2 : Int) (r3 : Bool) (w : World) (h : modcertref02_ReadInt.f k a0 a1 = some (r1, r2, r3)) :
    Calls Try.prog 60 #[.string a0, .int .i64 a1] w fun e w' => e = .returned (.tuple #[.int .i64 r1, .int .i64 r2, .bool r3]) ∧ Drawn0 w w' := by
  have H : ((modcertref02_readUnsigned.f k a0 a1).bind fun bt247 => (if bt247.2.2 = true then (if (Int.tmod bt247.1 2) = 0 then (some (wrap64 (IntKind.u64.wrap (Int.tdiv bt247.1 2)), bt247.2.1, true)) else (some (wrap64 ((wrap64 (-(wrap64 (IntKind.u64.wrap (Int.tdiv bt247.1 2))))) - 1), bt247.2.1, true))) else (some (0, 0, false)))) = some (r1, r2, r3) := h
  clear h
  replace H := Option.bind_eq_some_iff.mp H
  obtain ⟨⟨t247, t248, t249⟩, A30, H⟩ := H
  replace H : (if t249 = true then (if (Int.tmod t247 2) = 0 then (some (wrap64 (IntKind.u64.wrap (Int.tdiv t247 2)), t248, true)) else (some (wrap64 ((wrap64 (-(wrap64 (IntKind.u64.wrap (Int.tdiv t247 2))))) - 1), t248, true))) else (some (0, 0, false))) = some (r1, r2, r3) := H
  have A3 := Aside0.mk A30
  clear A30
  by_cases c4 : t249 = true
  · subst c4
    have H1 : (if (Int.tmod t247 2) = 0 then (some (wrap64 (IntKind.u64.wrap (Int.tdiv t247 2)), t248, true)) else (some (wrap64 ((wrap64 (-(wrap64 (IntKind.u64.wrap (Int.tdiv t247 2))))) - 1), t248, true))) = some (r1, r2, r3) := by rw [if_pos rfl] at H; exact H
    clear H
    have H := H1
    clear H1
    by_cases c5 : (Int.tmod t247 2) = 0
    · rw [if_pos c5] at H
      have c5b0 : ((Int.tmod t247 2) == 0) = true := beq_iff_eq.mpr c5
      have c5b1 : ((Int.tmod t247 2) != 0) = false := bne_eq_false_iff_eq.mpr c5
      clear c5
      simp only [Option.some.injEq, Prod.mk.injEq] at H
      obtain ⟨rfl, rfl, rfl⟩ := H
      go_enter Try.func60, Try.ntmps60
      go_wp2_with (first | ((with_reducible refine gate_callee (f := 83) rfl ?_); refine goesL_ (some 13) rfl rfl Try.func83 (by kernel_rfl) rfl #[.string a0, .int .i64 a1] rfl (by (try simp only [List.map_toArray, List.map_cons, List.map_nil]); first | done | rfl | (simp only [List.length_drop, List.length_take]; rfl)) ?_; (with_reducible refine (modcertref02_readUnsigned.calls k a0 a1 t247 t248 true _ A3.out).mono ?_); rintro e w' ⟨rfl, ⟨nd, rfl⟩⟩; refine ⟨_, rfl, ?_⟩))
      go_ret3
      exact ⟨by first | rfl | (simp; done) | (simp [*]; done), by repeat (first | exact Drawn0.refl _ | apply Drawn0.step)⟩
    · rw [if_neg c5] at H
      have c5b0 : ((Int.tmod t247 2) == 0) = false := beq_eq_false_iff_ne.mpr c5
      have c5b1 : ((Int.tmod t247 2) != 0) = true := bne_iff_ne.mpr c5
      simp only [Option.some.injEq, Prod.mk.injEq] at H
      obtain ⟨rfl, rfl, rfl⟩ := H
      go_enter Try.func60, Try.ntmps60
      go_wp2_with (first | ((with_reducible refine gate_callee (f := 83) rfl ?_); refine goesL_ (some 13) rfl rfl Try.func83 (by kernel_rfl) rfl #[.string a0, .int .i64 a1] rfl (by (try simp only [List.map_toArray, List.map_cons, List.map_nil]); first | done | rfl | (simp only [List.length_drop, List.length_take]; rfl)) ?_; (with_reducible refine (modcertref02_readUnsigned.calls k a0 a1 t247 t248 true _ A3.out).mono ?_); rintro e w' ⟨rfl, ⟨nd, rfl⟩⟩; refine ⟨_, rfl, ?_⟩))
      go_ret3
      exact ⟨by first | rfl | (simp; done) | (simp [*]; done), by repeat (first | exact Drawn0.refl _ | apply Drawn0.step)⟩
  · replace c4 := Bool.eq_false_iff.mpr c4
    subst c4
    have H1 : (some (0, 0, false)) = some (r1, r2, r3) := by rw [if_neg (show ¬ (false = true) by decide)] at H; exact H
    clear H
    have H := H1
    clear H1
    simp only [Option.some.injEq, Prod.mk.injEq] at H
    obtain ⟨rfl, rfl, rfl⟩ := H
    go_enter Try.func60, Try.ntmps60
    go_wp2_with (first | ((with_reducible refine gate_callee (f := 83) rfl ?_); refine goesL_ (some 13) rfl rfl Try.func83 (by kernel_rfl) rfl #[.string a0, .int .i64 a1] rfl (by (try simp only [List.map_toArray, List.map_cons, List.map_nil]); first | done | rfl | (simp only [List.length_drop, List.length_take]; rfl)) ?_; (with_reducible refine (modcertref02_readUnsigned.calls k a0 a1 t247 t248 false _ A3.out).mono ?_); rintro e w' ⟨rfl, ⟨nd, rfl⟩⟩; refine ⟨_, rfl, ?_⟩))
    go_ret3
    exact ⟨by first | rfl | (simp; done) | (simp [*]; done), by repeat (first | exact Drawn0.refl _ | apply Drawn0.step)⟩

/-! ### modcertref02_ReadText: function 61 -/
def modcertref02_ReadText.f (k : Nat) (a0 : ByteArray) (a1 : Int) : Option (ByteArray × Int × Bool) := (modcertref02_ReadUint.f k a0 a1).bind fun bt250 => (if bt250.2.2 = true then (if bt250.1 > (wrap64 ((a0.size : Int) - bt250.2.1)) then (some ((⟨#[]⟩ : ByteArray), 0, false)) else (if 0 ≤ bt250.2.1 then (if bt250.2.1 ≤ (wrap64 (bt250.2.1 + bt250.1)) then (if (wrap64 (bt250.2.1 + bt250.1)) ≤ (a0.size : Int) then (some (a0.extract (bt250.2.1 : Int).toNat ((wrap64 (bt250.2.1 + bt250.1)) : Int).toNat, wrap64 (bt250.2.1 + bt250.1), true)) else (none)) else (none)) else (none))) else (some ((⟨#[]⟩ : ByteArray), 0, false)))
theorem modcertref02_ReadText.mono : ∀ a0 a1 k, LeO (modcertref02_ReadText.f k a0 a1) (modcertref02_ReadText.f (k + 1) a0 a1) := by
  intro a0 a1 k
  unfold modcertref02_ReadText.f
  repeat' first
      | (with_reducible exact modcertref02_ReadUint.mono _ _ _)
      | (with_reducible exact LeO.refl _)
      | (with_reducible exact LeO.none _)
      | (with_reducible refine LeO.ite ?_ ?_)
      | (with_reducible refine LeO.bind ?_ (fun _ => ?_))
      | exact modcertref02_ReadUint.mono _ _ _
      | exact LeO.none _
      | refine LeO.ite ?_ ?_
      | refine LeO.bind ?_ (fun _ => ?_)
set_option maxHeartbeats 8000000 in
set_option maxRecDepth 100000 in
theorem modcertref02_ReadText.calls (k : Nat) (a0 : ByteArray) (a1 : Int) (r1 : ByteArray) (r2 : Int) (r3 : Bool) (w : World) (h : modcertref02_ReadText.f k a0 a1 = some (r1, r2, r3)) :
    Calls Try.prog 61 #[.string a0, .int .i64 a1] w fun e w' => e = .returned (.tuple #[.string r1, .int .i64 r2, .bool r3]) ∧ Drawn0 w w' := by
  have H : ((modcertref02_ReadUint.f k a0 a1).bind fun bt250 => (if bt250.2.2 = true then (if bt250.1 > (wrap64 ((a0.size : Int) - bt250.2.1)) then (some ((⟨#[]⟩ : ByteArray), 0, false)) else (if 0 ≤ bt250.2.1 then (if bt250.2.1 ≤ (wrap64 (bt250.2.1 + bt250.1)) then (if (wrap64 (bt250.2.1 + bt250.1)) ≤ (a0.size : Int) then (some (a0.extract (bt250.2.1 : Int).toNat ((wrap64 (bt250.2.1 + bt250.1)) : Int).toNat, wrap64 (bt250.2.1 + bt250.1), true)) else (none)) else (none)) else (none))) else (some ((⟨#[]⟩ : ByteArray), 0, false)))) = some (r1, r2, r3) := h
  clear h
  replace H := Option.bind_eq_some_iff.mp H
  obtain ⟨⟨t250, t251, t252⟩, A30, H⟩ := H
  replace H : (if t252 = true then (if t250 > (wrap64 ((a0.size : Int) - t251)) then (some ((⟨#[]⟩ : ByteArray), 0, false)) else (if 0 ≤ t251 then (if t251 ≤ (wrap64 (t251 + t250)) then (if (wrap64 (t251 + t250)) ≤ (a0.size : Int) then (some (a0.extract (t251 : Int).toNat ((wrap64 (t251 + t250)) : Int).toNat, wrap64 (t251 + t250), true)) else (none)) else (none)) else (none))) else (some ((⟨#[]⟩ : ByteArray), 0, false))) = some (r1, r2, r3) := H
  have A3 := Aside0.mk A30
  clear A30
  by_cases c4 : t252 = true
  · subst c4
    have H1 : (if t250 > (wrap64 ((a0.size : Int) - t251)) then (some ((⟨#[]⟩ : ByteArray), 0, false)) else (if 0 ≤ t251 then (if t251 ≤ (wrap64 (t251 + t250)) then (if (wrap64 (t251 + t250)) ≤ (a0.size : Int) then (some (a0.extract (t251 : Int).toNat ((wrap64 (t251 + t250)) : Int).toNat, wrap64 (t251 + t250), true)) else (none)) else (none)) else (none))) = some (r1, r2, r3) := by rw [if_pos rfl] at H; exact H
    clear H
    have H := H1
    clear H1
    by_cases c5 : t250 > (wrap64 ((a0.size : Int) - t251))
    · rw [if_pos c5] at H
      have c5b0 : decide ((wrap64 ((a0.size : Int) - t251)) < t250) = true := decide_eq_true c5
      clear c5
      simp only [Option.some.injEq, Prod.mk.injEq] at H
      obtain ⟨rfl, rfl, rfl⟩ := H
      go_enter Try.func61, Try.ntmps61
      go_wp2_with (first | ((with_reducible refine gate_callee (f := 59) rfl ?_); refine goesL_ (some 13) rfl rfl Try.func59 (by kernel_rfl) rfl #[.string a0, .int .i64 a1] rfl (by (try simp only [List.map_toArray, List.map_cons, List.map_nil]); first | done | rfl | (simp only [List.length_drop, List.length_take]; rfl)) ?_; (with_reducible refine (modcertref02_ReadUint.calls k a0 a1 t250 t251 true _ A3.out).mono ?_); rintro e w' ⟨rfl, ⟨nd, rfl⟩⟩; refine ⟨_, rfl, ?_⟩))
      go_ret3
      exact ⟨by first | rfl | (simp; done) | (simp [*]; done), by repeat (first | exact Drawn0.refl _ | apply Drawn0.step)⟩
    · rw [if_neg c5] at H
      have c5b0 : decide ((wrap64 ((a0.size : Int) - t251)) < t250) = false := decide_eq_false c5
      clear c5
      by_cases c6 : 0 ≤ t251
      · rw [if_pos c6] at H
        have c6b0 := eq_true c6
        have c6b1 : decide (0 ≤ t251) = true := decide_eq_true c6
        clear c6
        by_cases c7 : t251 ≤ (wrap64 (t251 + t250))
        · rw [if_pos c7] at H
          have c7b0 := eq_true c7
          have c7b1 : decide (t251 ≤ (wrap64 (t251 + t250))) = true := decide_eq_true c7
          by_cases c8 : (wrap64 (t251 + t250)) ≤ (a0.size : Int)
          · rw [if_pos c8] at H
            have c8b0 := eq_true c8
            have c8b1 : decide ((wrap64 (t251 + t250)) ≤ (a0.size : Int)) = true := decide_eq_true c8
            simp only [Option.some.injEq, Prod.mk.injEq] at H
            obtain ⟨rfl, rfl, rfl⟩ := H
            go_enter Try.func61, Try.ntmps61
            go_wp2_with (first | ((with_reducible refine gate_callee (f := 59) rfl ?_); refine goesL_ (some 13) rfl rfl Try.func59 (by kernel_rfl) rfl #[.string a0, .int .i64 a1] rfl (by (try simp only [List.map_toArray, List.map_cons, List.map_nil]); first | done | rfl | (simp only [List.length_drop, List.length_take]; rfl)) ?_; (with_reducible refine (modcertref02_ReadUint.calls k a0 a1 t250 t251 true _ A3.out).mono ?_); rintro e w' ⟨rfl, ⟨nd, rfl⟩⟩; refine ⟨_, rfl, ?_⟩))
            go_ret3
            exact ⟨by first | rfl | (simp; done) | (simp [*]; done), by repeat (first | exact Drawn0.refl _ | apply Drawn0.step)⟩
          · rw [if_neg c8] at H
            exact absurd H (by simp)
        · rw [if_neg c7] at H
          exact absurd H (by simp)
      · rw [if_neg c6] at H
        exact absurd H (by simp)
  · replace c4 := Bool.eq_false_iff.mpr c4
    subst c4
    have H1 : (some ((⟨#[]⟩ : ByteArray), 0, false)) = some (r1, r2, r3) := by rw [if_neg (show ¬ (false = true) by decide)] at H; exact H
    clear H
    have H := H1
    clear H1
    simp only [Option.some.injEq, Prod.mk.injEq] at H
    obtain ⟨rfl, rfl, rfl⟩ := H
    go_enter Try.func61, Try.ntmps61
    go_wp2_with (first | ((with_reducible refine gate_callee (f := 59) rfl ?_); refine goesL_ (some 13) rfl rfl Try.func59 (by kernel_rfl) rfl #[.string a0, .int .i64 a1] rfl (by (try simp only [List.map_toArray, List.map_cons, List.map_nil]); first | done | rfl | (simp only [List.length_drop, List.length_take]; rfl)) ?_; (with_reducible refine (modcertref02_ReadUint.calls k a0 a1 t250 t251 false _ A3.out).mono ?_); rintro e w' ⟨rfl, ⟨nd, rfl⟩⟩; refine ⟨_, rfl, ?_⟩))
    go_ret3
    exact ⟨by first | rfl | (simp; done) | (simp [*]; done), by repeat (first | exact Drawn0.refl _ | apply Drawn0.step)⟩

end Go.Proofs.Ytldkkboeaadbeaa.Pr
