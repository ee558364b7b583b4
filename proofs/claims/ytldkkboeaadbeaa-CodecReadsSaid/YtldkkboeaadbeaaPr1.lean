-- By a program of this session.
import Derived.Test.YtldkkboeaadbeaaPr0
namespace Go.Proofs.Ytldkkboeaadbeaa.Pr
open Go.RowKit Go.Proofs.YtldkkboeaadbeaaW.PrintWords Go.Proofs.YtldkkboeaadbeaaW.PrintLast Go.Proofs.YtldkkboeaadbeaaW.PrintMore
attribute [local go_sem] max2_int min2_int max_two min_two max_three min_three max_four min_four   -- for this text's walks alone
set_option linter.unusedVariables false
set_option linter.unusedSimpArgs false

/-! ### codec_unsigned: function 47 -/
def codec_unsigned.l0 : Nat → Int → List Int → Option (ByteArray)
  | 0, _, _ => none
  | k + 1, x0, x3 => if x0 > 127 then (if x3.length < 140737488355328 then (codec_unsigned.l0 k (x0 / 128) (x3 ++ [Go.bits .or .u8 ((x0) % 256) 128])) else (none)) else (if x3.length < 140737488355328 then (some (strOfNums (x3 ++ [(x0) % 256]))) else (none))
def codec_unsigned.f (k : Nat) (a0 : Int) : Option (ByteArray) := codec_unsigned.l0 k a0 ([] : List Int)
theorem codec_unsigned.mono_l : ∀ k, (∀ y0 y1, LeO (codec_unsigned.l0 k y0 y1) (codec_unsigned.l0 (k + 1) y0 y1))
  | 0 => fun _ _ r h => by simp [codec_unsigned.l0] at h
  | k + 1 => by
    have ih0 := codec_unsigned.mono_l k
    · intro y0 y1
      unfold codec_unsigned.l0
      repeat' first
      | (with_reducible exact ih0 _ _)
      | (with_reducible exact LeO.refl _)
      | (with_reducible exact LeO.none _)
      | (with_reducible refine LeO.ite ?_ ?_)
      | (with_reducible refine LeO.bind ?_ (fun _ => ?_))
      | exact ih0 _ _
      | exact LeO.none _
      | refine LeO.ite ?_ ?_
      | refine LeO.bind ?_ (fun _ => ?_)
theorem codec_unsigned.mono : ∀ a0 k, LeO (codec_unsigned.f k a0) (codec_unsigned.f (k + 1) a0) := by
  intro a0 k
  have ih0 := codec_unsigned.mono_l k
  unfold codec_unsigned.f
  repeat' first
      | (with_reducible exact ih0 _ _)
      | (with_reducible exact LeO.refl _)
      | (with_reducible exact LeO.none _)
      | (with_reducible refine LeO.ite ?_ ?_)
      | (with_reducible refine LeO.bind ?_ (fun _ => ?_))
      | exact ih0 _ _
      | exact LeO.none _
      | refine LeO.ite ?_ ?_
      | refine LeO.bind ?_ (fun _ => ?_)
set_option maxHeartbeats 8000000 in
set_option maxRecDepth 100000 in
theorem codec_unsigned.calls (k : Nat) (a0 : Int) (r : ByteArray) (w : World) (h : codec_unsigned.f k a0 = some r) :
    Calls Try.prog 47 #[.int .u64 a0] w fun e w' => e = .returned (.string r) ∧ Below w.heap.size w w' := by
  have HB := Aside0.mk (Below.refl w.heap.size w)
  have H : (codec_unsigned.l0 k a0 ([] : List Int)) = some r := h
  clear h
  have H' := Aside0.mk H
  clear H
  go_enter Try.func47, Try.ntmps47
  go_wp2
  go_loopg [0, 3] k (fun kq v0 v3 w' => ∃ (x0_1 : Int) (x3_1 : List Int), v0 = .int .u64 x0_1 ∧ Aside0 (codec_unsigned.l0 kq x0_1 x3_1 = some r) ∧ Aside0 (kq ≤ k) ∧ Aside0 (Kd.R (Kd.int .u8) 5 w' w.heap.size (fun _ => True) v3 x3_1) ∧ Aside0 (Below w.heap.size w w'))
  case atStart => exact ⟨(a0), (([] : List Int)), (by first | rfl | (simp; done) | (simp [*]; done)), H', ⟨Nat.le_refl _⟩, ⟨by first | exact Kd.R_nil _ _ _ _ _ | exact Kd.N_nil _ _ _ _ _ | exact Kd.V_nil _ _ _ _ _ | exact Kd.Q_nil _ _ _ _ _ | exact Kd.S_nil _ _ _ _ _⟩, ⟨by repeat (first | (with_reducible first | exact HB.out | apply below_alloc | apply pw_below_drewN | apply below_drew1) | exact HB.out)⟩⟩
  case round =>
    clear H'
    obtain ⟨x0_1, x3_1, rfl, HA, HK1, HO_3, HB⟩ := hrel
    cases gk with
    | zero => exact absurd HA.out (by simp [codec_unsigned.l0])
    | succ k1 =>
      have H := HA.out
      clear HA
      simp only [codec_unsigned.l0] at H
      by_cases c2 : x0_1 > 127
      · rw [if_pos c2] at H
        have c2b0 : decide (127 < x0_1) = true := decide_eq_true c2
        clear c2
        by_cases c3 : x3_1.length < 140737488355328
        · rw [if_pos c3] at H
          have LMc3 := Aside0.mk c3
          clear c3
          obtain ⟨y101, hy101⟩ : ∃ y_ : List Int, y_ = (x3_1 ++ [Go.bits .or .u8 ((x0_1) % 256) 128]) := ⟨_, rfl⟩
          replace H : (codec_unsigned.l0 k1 (x0_1 / 128) y101) = some r := by first | (rw [hy101]; with_reducible exact H) | (have H2_ := (Option.bind_some _ _).symm.trans H; rw [hy101]; with_reducible exact H2_) | (have H2_ := (Option.bind_some _ _).symm.trans H; with_reducible exact H2_) | with_reducible exact H | (rw [hy101]; exact H) | exact H
          have Ny101 := Aside0.mk hy101
          clear hy101
          have H' := Aside0.mk H
          clear H
          go_wp2_with (first | ((with_reducible refine gate_builtin (b := .append) (xs := #[.tmp 6, .tmp 10]) rfl ?_); at_builtin; refine Kd.R_append (Kd.int .u8) (w0 := w) w.heap.size rfl (.tmp 6) (.tmp 10) 58 5 (.int .u8 0) 1 rfl Try.underlying58 info5 rfl (by decide) (by omega) u3 x3_1 (Go.bits .or .u8 ((x0_1) % 256) 128) [.int .u8 (Go.bits .or .u8 ((x0_1) % 256) 128)] (fun _ => True) (fun _ => False) rfl rfl ?aP (fun _ hk => hk.elim) ?aF ?aO ?aB ?aS ?aL ?_; (case aP => exact rfl); (case aB => exact (by repeat (first | (with_reducible first | exact HB.out | apply below_alloc | apply pw_below_drewN | apply below_drew1) | exact HB.out))); (case aF => exact (fun _ _ => trivial)); (case aO => exact (by (with_reducible repeat (first | apply Kd.R_alloc | apply Kd.R_drewN | apply Kd.R_drew)); exact HO_3.out)); (case aS => exact (below_size (by repeat (first | (with_reducible first | exact HB.out | apply below_alloc | apply pw_below_drewN | apply below_drew1) | exact HB.out)))); (case aL => have := LMc3.out; omega); intro v102 w4 ho hb hg hat; rw [← Ny101.out] at ho; have n0_ := Aside0.mk (hb); have n1_ := Aside0.mk (ho); clear HB; clear HO_3; have HB := n0_; have HO103 := n1_; clear n0_ n1_; clear ho hb hg hat))
          go_roundg k1
          case measure => have := HK1.out; omega
          case rel => exact ⟨(x0_1 / 128), (y101), (by first | rfl | (simp; done) | (simp [*]; done)), H', ⟨by have := HK1.out; omega⟩, ⟨by (with_reducible repeat (first | apply Kd.R_alloc | apply Kd.R_drewN | apply Kd.R_drew)); exact HO103.out⟩, ⟨by repeat (first | (with_reducible first | exact HB.out | apply below_alloc | apply pw_below_drewN | apply below_drew1) | exact HB.out)⟩⟩
        · rw [if_neg c3] at H
          exact absurd H (by simp)
      · rw [if_neg c2] at H
        have c2b0 : decide (127 < x0_1) = false := decide_eq_false c2
        clear c2
        by_cases c5 : x3_1.length < 140737488355328
        · rw [if_pos c5] at H
          have LMc5 := Aside0.mk c5
          clear c5
          obtain ⟨y104, hy104⟩ : ∃ y_ : List Int, y_ = (x3_1 ++ [(x0_1) % 256]) := ⟨_, rfl⟩
          replace H : (some (strOfNums y104)) = some r := by first | (rw [hy104]; with_reducible exact H) | (have H2_ := (Option.bind_some _ _).symm.trans H; rw [hy104]; with_reducible exact H2_) | (have H2_ := (Option.bind_some _ _).symm.trans H; with_reducible exact H2_) | with_reducible exact H | (rw [hy104]; exact H) | exact H
          have Ny104 := Aside0.mk hy104
          clear hy104
          obtain rfl := Option.some.inj H
          go_wp2_with (first | ((with_reducible refine gate_builtin (b := .append) (xs := #[.tmp 14, .tmp 17]) rfl ?_); at_builtin; refine Kd.R_append (Kd.int .u8) (w0 := w) w.heap.size rfl (.tmp 14) (.tmp 17) 58 5 (.int .u8 0) 1 rfl Try.underlying58 info5 rfl (by decide) (by omega) u3 x3_1 ((x0_1) % 256) [.int .u8 ((x0_1) % 256)] (fun _ => True) (fun _ => False) rfl rfl ?aP (fun _ hk => hk.elim) ?aF ?aO ?aB ?aS ?aL ?_; (case aP => exact rfl); (case aB => exact (by repeat (first | (with_reducible first | exact HB.out | apply below_alloc | apply pw_below_drewN | apply below_drew1) | exact HB.out))); (case aF => exact (fun _ _ => trivial)); (case aO => exact (by (with_reducible repeat (first | apply Kd.R_alloc | apply Kd.R_drewN | apply Kd.R_drew)); exact HO_3.out)); (case aS => exact (below_size (by repeat (first | (with_reducible first | exact HB.out | apply below_alloc | apply pw_below_drewN | apply below_drew1) | exact HB.out)))); (case aL => have := LMc5.out; omega); intro v105 w6 ho hb hg hat; rw [← Ny104.out] at ho; have n0_ := Aside0.mk (hb); have n1_ := Aside0.mk (ho); clear HB; clear HO_3; have HB := n0_; have HO106 := n1_; clear n0_ n1_; clear ho hb hg hat; have hcv7 := own_string (P := Try.prog) Try.underlying58 Try.underlying5 Try.underlying9 (Kd.own_of_R HO106.out)))
          go_ret
          exact ⟨by first | rfl | (simp [errW_none, errW_some] <;> rfl) | (simp [*, errW_none, errW_some] <;> rfl), by repeat (first | (with_reducible first | exact HB.out | apply below_alloc | apply pw_below_drewN | apply below_drew1) | exact HB.out)⟩
        · rw [if_neg c5] at H
          exact absurd H (by simp)

/-! ### codec_Uint: function 15 -/
def codec_Uint.f (k : Nat) (a0 : Int) : Option (ByteArray × Int) := if a0 < 0 then (some ((⟨#[]⟩ : ByteArray), 2)) else ((codec_unsigned.f k (IntKind.u64.wrap (a0))).bind fun t107 => (some (t107, 0)))
theorem codec_Uint.mono : ∀ a0 k, LeO (codec_Uint.f k a0) (codec_Uint.f (k + 1) a0) := by
  intro a0 k
  unfold codec_Uint.f
  repeat' first
      | (with_reducible exact codec_unsigned.mono _ _)
      | (with_reducible exact LeO.refl _)
      | (with_reducible exact LeO.none _)
      | (with_reducible refine LeO.ite ?_ ?_)
      | (with_reducible refine LeO.bind ?_ (fun _ => ?_))
      | exact codec_unsigned.mono _ _
      | exact LeO.none _
      | refine LeO.ite ?_ ?_
      | refine LeO.bind ?_ (fun _ => ?_)
set_option maxHeartbeats 8000000 in
set_option maxRecDepth 100000 in
theorem codec_Uint.calls (k : Nat) (a0 : Int) (r1 : ByteArray) (r2 : Int) (w : World) (h : codec_Uint.f k a0 = some (r1, r2)) :
    Calls Try.prog 15 #[.int .i64 a0] w fun e w' => e = .returned (.tuple #[.string r1, .int .i64 r2]) ∧ Below w.heap.size w w' := by
  have HB := Aside0.mk (Below.refl w.heap.size w)
  have H : (if a0 < 0 then (some ((⟨#[]⟩ : ByteArray), 2)) else ((codec_unsigned.f k (IntKind.u64.wrap (a0))).bind fun t107 => (some (t107, 0)))) = some (r1, r2) := h
  clear h
  by_cases c2 : a0 < 0
  · rw [if_pos c2] at H
    have c2b0 : decide (a0 < 0) = true := decide_eq_true c2
    clear c2
    simp only [Option.some.injEq, Prod.mk.injEq] at H
    obtain ⟨rfl, rfl⟩ := H
    go_enter Try.func15, Try.ntmps15
    go_wp2
    go_ret2
    exact ⟨by first | rfl | (simp [errW_none, errW_some] <;> rfl) | (simp [*, errW_none, errW_some] <;> rfl), by repeat (first | (with_reducible first | exact HB.out | apply below_alloc | apply pw_below_drewN | apply below_drew1) | exact HB.out)⟩
  · rw [if_neg c2] at H
    have c2b0 : decide (a0 < 0) = false := decide_eq_false c2
    clear c2
    replace H := Option.bind_eq_some_iff.mp H
    obtain ⟨t107, A30, H⟩ := H
    replace H : (some (t107, 0)) = some (r1, r2) := H
    have A3 := Aside0.mk A30
    clear A30
    simp only [Option.some.injEq, Prod.mk.injEq] at H
    obtain ⟨rfl, rfl⟩ := H
    go_enter Try.func15, Try.ntmps15
    go_wp2_with (first | ((with_reducible refine gate_callee (f := 47) rfl ?_); refine goesL_ (some 8) rfl rfl Try.func47 (by kernel_rfl) rfl #[.int .u64 (IntKind.u64.wrap (a0))] rfl (by (try simp only [List.map_toArray, List.map_cons, List.map_nil]); first | done | rfl | (simp only [List.length_drop, List.length_take]; rfl)) ?_; (with_reducible refine (codec_unsigned.calls k (IntKind.u64.wrap (a0)) t107 _ A3.out).mono ?_); rintro e w4 ⟨rfl, hb⟩; refine ⟨_, rfl, ?_⟩; have n0_ := Aside0.mk (below_step (by repeat (first | (with_reducible first | exact HB.out | apply below_alloc | apply pw_below_drewN | apply below_drew1) | exact HB.out)) hb); clear HB; have HB := n0_; clear n0_; (try clear hb); (try clear hb2); (try clear hk); (try clear hi)))
    go_ret2
    exact ⟨by first | rfl | (simp [errW_none, errW_some] <;> rfl) | (simp [*, errW_none, errW_some] <;> rfl), by repeat (first | (with_reducible first | exact HB.out | apply below_alloc | apply pw_below_drewN | apply below_drew1) | exact HB.out)⟩

/-! ### codec_Int: function 17 -/
def codec_Int.f (k : Nat) (a0 : Int) : Option (ByteArray) := if a0 < 0 then ((codec_unsigned.f k (Go.bits .or .u64 (IntKind.u64.wrap ((IntKind.u64.wrap (Go.bits .xor .i64 (-1) a0)) * 2)) 1)).bind fun t108 => (some t108)) else ((codec_unsigned.f k (IntKind.u64.wrap ((IntKind.u64.wrap (a0)) * 2))).bind fun t109 => (some t109))
theorem codec_Int.mono : ∀ a0 k, LeO (codec_Int.f k a0) (codec_Int.f (k + 1) a0) := by
  intro a0 k
  unfold codec_Int.f
  repeat' first
      | (with_reducible exact codec_unsigned.mono _ _)
      | (with_reducible exact LeO.refl _)
      | (with_reducible exact LeO.none _)
      | (with_reducible refine LeO.ite ?_ ?_)
      | (with_reducible refine LeO.bind ?_ (fun _ => ?_))
      | exact codec_unsigned.mono _ _
      | exact LeO.none _
      | refine LeO.ite ?_ ?_
      | refine LeO.bind ?_ (fun _ => ?_)
set_option maxHeartbeats 8000000 in
set_option maxRecDepth 100000 in
theorem codec_Int.calls (k : Nat) (a0 : Int) (r : ByteArray) (w : World) (h : codec_Int.f k a0 = some r) :
    Calls Try.prog 17 #[.int .i64 a0] w fun e w' => e = .returned (.string r) ∧ Below w.heap.size w w' := by
  have HB := Aside0.mk (Below.refl w.heap.size w)
  have H : (if a0 < 0 then ((codec_unsigned.f k (Go.bits .or .u64 (IntKind.u64.wrap ((IntKind.u64.wrap (Go.bits .xor .i64 (-1) a0)) * 2)) 1)).bind fun t108 => (some t108)) else ((codec_unsigned.f k (IntKind.u64.wrap ((IntKind.u64.wrap (a0)) * 2))).bind fun t109 => (some t109))) = some r := h
  clear h
  by_cases c2 : a0 < 0
  · rw [if_pos c2] at H
    have c2b0 : decide (a0 < 0) = true := decide_eq_true c2
    clear c2
    replace H := Option.bind_eq_some_iff.mp H
    obtain ⟨t108, A30, H⟩ := H
    replace H : (some t108) = some r := H
    have A3 := Aside0.mk A30
    clear A30
    obtain rfl := Option.some.inj H
    go_enter Try.func17, Try.ntmps17
    go_wp2_with (first | ((with_reducible refine gate_callee (f := 47) rfl ?_); refine goesL_ (some 10) rfl rfl Try.func47 (by kernel_rfl) rfl #[.int .u64 (Go.bits .or .u64 (IntKind.u64.wrap ((IntKind.u64.wrap (Go.bits .xor .i64 (-1) a0)) * 2)) 1)] rfl (by (try simp only [List.map_toArray, List.map_cons, List.map_nil]); first | done | rfl | (simp only [List.length_drop, List.length_take]; rfl)) ?_; (with_reducible refine (codec_unsigned.calls k (Go.bits .or .u64 (IntKind.u64.wrap ((IntKind.u64.wrap (Go.bits .xor .i64 (-1) a0)) * 2)) 1) t108 _ A3.out).mono ?_); rintro e w4 ⟨rfl, hb⟩; refine ⟨_, rfl, ?_⟩; have n0_ := Aside0.mk (below_step (by repeat (first | (with_reducible first | exact HB.out | apply below_alloc | apply pw_below_drewN | apply below_drew1) | exact HB.out)) hb); clear HB; have HB := n0_; clear n0_; (try clear hb); (try clear hb2); (try clear hk); (try clear hi)))
    go_ret
    exact ⟨by first | rfl | (simp [errW_none, errW_some] <;> rfl) | (simp [*, errW_none, errW_some] <;> rfl), by repeat (first | (with_reducible first | exact HB.out | apply below_alloc | apply pw_below_drewN | apply below_drew1) | exact HB.out)⟩
  · rw [if_neg c2] at H
    have c2b0 : decide (a0 < 0) = false := decide_eq_false c2
    clear c2
    replace H := Option.bind_eq_some_iff.mp H
    obtain ⟨t109, A50, H⟩ := H
    replace H : (some t109) = some r := H
    have A5 := Aside0.mk A50
    clear A50
    obtain rfl := Option.some.inj H
    go_enter Try.func17, Try.ntmps17
    go_wp2_with (first | ((with_reducible refine gate_callee (f := 47) rfl ?_); refine goesL_ (some 14) rfl rfl Try.func47 (by kernel_rfl) rfl #[.int .u64 (IntKind.u64.wrap ((IntKind.u64.wrap (a0)) * 2))] rfl (by (try simp only [List.map_toArray, List.map_cons, List.map_nil]); first | done | rfl | (simp only [List.length_drop, List.length_take]; rfl)) ?_; (with_reducible refine (codec_unsigned.calls k (IntKind.u64.wrap ((IntKind.u64.wrap (a0)) * 2)) t109 _ A5.out).mono ?_); rintro e w6 ⟨rfl, hb⟩; refine ⟨_, rfl, ?_⟩; have n0_ := Aside0.mk (below_step (by repeat (first | (with_reducible first | exact HB.out | apply below_alloc | apply pw_below_drewN | apply below_drew1) | exact HB.out)) hb); clear HB; have HB := n0_; clear n0_; (try clear hb); (try clear hb2); (try clear hk); (try clear hi)))
    go_ret
    exact ⟨by first | rfl | (simp [errW_none, errW_some] <;> rfl) | (simp [*, errW_none, errW_some] <;> rfl), by repeat (first | (with_reducible first | exact HB.out | apply below_alloc | apply pw_below_drewN | apply below_drew1) | exact HB.out)⟩

/-! ### codec_Text: function 19, by hand -/
def codec_Text.f (k : Nat) (a0 : ByteArray) : Option (ByteArray) := (codec_unsigned.f k (a0.size : Int)).bind fun t110 => (if t110.size + a0.size ≤ 9223372036854775807 then (some (t110 ++ a0)) else (none))
theorem codec_Text.mono : ∀ a0 k, LeO (codec_Text.f k a0) (codec_Text.f (k + 1) a0) := by
  intro a0 k
  unfold codec_Text.f
  repeat' first
      | (with_reducible exact codec_unsigned.mono _ _)
      | (with_reducible exact LeO.refl _)
      | (with_reducible exact LeO.none _)
      | (with_reducible refine LeO.ite ?_ ?_)
      | (with_reducible refine LeO.bind ?_ (fun _ => ?_))
theorem codec_Text.calls (k : Nat) (a0 : ByteArray) (r : ByteArray) (w : World) (h : codec_Text.f k a0 = some r) :
    Calls Try.prog 19 #[.string a0] w fun e w' => e = .returned (.string r) ∧ Below w.heap.size w w' := by
  obtain ⟨t, h1, h2⟩ := Option.bind_eq_some_iff.mp h
  by_cases c : t.size + a0.size ≤ 9223372036854775807
  · rw [if_pos c] at h2
    obtain rfl := Option.some.inj h2
    clear h2 h
    have h1 := Aside0.mk h1
    go_enter Try.func19, Try.ntmps19
    go_wp2_with (go_at_call 47; refine (codec_unsigned.calls _ _ _ _ h1.out).mono ?_; rintro e w1 ⟨rfl, hb⟩)
    go_ret
    exact ⟨rfl, hb⟩
  · rw [if_neg c] at h2; cases h2

/-! ### codec_Texts: function 21, by hand -/
def codec_Texts.l0 : Nat → List ByteArray → ByteArray → Option ByteArray
  | _, [], b => some b
  | k, s :: l, b => (codec_Text.f k s).bind fun t => if b.size + t.size < 140737488355328 then codec_Texts.l0 k l (b ++ t) else none
def codec_Texts.f (k : Nat) (l0 : List ByteArray) : Option ByteArray :=
  (codec_unsigned.f k (l0.length : Int)).bind fun t => if t.size < 140737488355328 then codec_Texts.l0 k l0 t else none
theorem codec_Texts.mono_l (k : Nat) : ∀ y0 y1, LeO (codec_Texts.l0 k y0 y1) (codec_Texts.l0 (k + 1) y0 y1)
  | [], _ => LeO.refl _
  | _ :: l, _ => LeO.bind (codec_Text.mono _ _) (fun _ => LeO.ite (codec_Texts.mono_l k l _) (LeO.refl _))
theorem codec_Texts.mono : ∀ a0 k, LeO (codec_Texts.f k a0) (codec_Texts.f (k + 1) a0) := by
  intro a0 k
  exact LeO.bind (codec_unsigned.mono _ _) (fun _ => LeO.ite (codec_Texts.mono_l k _ _) (LeO.refl _))
/-- the builder in this form -/
theorem builder_below {B b : Nat} {bs : List Value} {w w' : World} (h : Lib.IsBuilder Sb.TB 5 B b bs w) (hb : Below w.heap.size w w') : Lib.IsBuilder Sb.TB 5 B b bs w' := by
  have key : ∀ p, Lib.BuilderAt Sb.TB 5 B b p bs w → Lib.BuilderAt Sb.TB 5 B b p bs w' := by
    rintro p ⟨hB, v, hv, ho, hne⟩
    have hlt : b < w.heap.size := (Array.getElem?_eq_some_iff.1 hv).1
    exact ⟨hB, v, (hb.block b hlt).trans hv, own_move ho (fun k hk => hb.block k (ho.lt k hk).2), hne⟩
  exact h.imp (key _) (key _)
theorem strCells_append (a b : ByteArray) : Lib.strCells (a ++ b) = Lib.strCells a ++ Lib.strCells b := by
  simp [Lib.strCells, ByteArray.data_append]
theorem Texts_add (B b : Nat) (bs : List Value) (s : ByteArray) (w : World) (h : Lib.IsBuilder Sb.TB 5 B b bs w) (hlen : bs.length + s.size ≤ 140737488355328) (hBw : B ≤ w.heap.size) :
    Calls Try.prog 50 #[.string s, .pointer (some ⟨b, 0, none⟩)] w fun e w' => e = .returned (.tuple #[]) ∧ Lib.IsBuilder Sb.TB 5 B b (bs ++ Lib.strCells s) w' ∧ Below B w w' := by
  go_enter Try.func50, Try.ntmps50
  go_wp2_with (go_at_call 37; refine (Sb.WriteString B b bs s _ h hlen hBw).mono ?_; rintro e w1 ⟨rfl, hI1, hB1⟩)
  go_end0
  exact ⟨rfl, .inr hI1, hB1⟩
theorem Texts_each (k B b : Nat) (A : Option Addr) (c : Nat) (l : List ByteArray) (acc r : ByteArray) (w0 w : World) (hr : Kd.C Kd.string w0 A l.length l) (hB0 : B = w0.heap.size) (h : Lib.IsBuilder Sb.TB 5 B b (Lib.strCells acc) w) (hb : Below B w0 w) (hf : codec_Texts.l0 k l acc = some r) :
    Calls Try.prog 49 #[.slice A l.length c, .func (.func 19) #[] #[], .func (.func 50) #[] #[.pointer (some ⟨b, 0, none⟩)]] w fun e w' => e = .returned (.tuple #[]) ∧ Lib.IsBuilder Sb.TB 5 B b (Lib.strCells r) w' ∧ Below B w w' := by
  have hm := hr.2.1
  have HR := Aside0.mk hr
  have HS := Aside0.mk (show Lib.IsBuilder Sb.TB 5 B b (Lib.strCells acc) w ∧ codec_Texts.l0 k (l.drop 0) acc = some r ∧ Below B w w from ⟨h, hf, Below.refl _ _⟩)
  clear hf h hr
  subst hB0
  go_enter Try.func49, Try.ntmps49
  go_wp2_with fail
  go_loopw [10] (fun i wr => ∃ j : Nat, j ≤ l.length ∧ i = .int .i64 j ∧ Aside0 (∃ acc, Lib.IsBuilder Sb.TB 5 w0.heap.size b (Lib.strCells acc) wr ∧ codec_Texts.l0 k (l.drop j) acc = some r ∧ Below w0.heap.size w wr)) (fun i _ => l.length - (intOf i).toNat)
  case atStart => exact ⟨0, Nat.zero_le _, rfl, ⟨_, HS.out⟩⟩
  case round =>
    obtain ⟨j, hj, rfl, HX⟩ := hrel
    by_cases hlt : j < l.length
    · obtain ⟨ad, e, hc0⟩ := Kd.at_string HR.out (j : Int) (by omega) (by omega)
      subst e
      have HY := HX.out
      clear HX HS
      obtain ⟨acc, hI, hf, hbr⟩ := HY
      rw [List.drop_eq_getElem_cons hlt] at hf
      obtain ⟨t, ht, hf⟩ := Option.bind_eq_some_iff.mp hf
      by_cases hsz : acc.size + t.size < 140737488355328
      · rw [if_pos hsz] at hf
        have hx : rdOf ByteArray.empty l (j : Int) = l[j] := by simp [rdOf, List.getD_eq_getElem?_getD, List.getElem?_eq_getElem hlt]
        rw [hx, Int.toNat_natCast] at hc0
        have hblk : ad.block < w0.heap.size := by
          have := World.block_lt_of_cell? w0 _ hc0
          simpa [Addr.add] using (by unfold Addr.add at this; split at this <;> exact this : ad.block < w0.heap.size)
        have hcr : wr.cell? (ad.add j) = some (.string l[j]) := by
          rw [((hb.trans hbr).cell (p := ad.add j) (by unfold Addr.add; split <;> exact hblk))]; exact hc0
        have hsz0 : w0.heap.size ≤ wr.heap.size := (hb.trans hbr).size
        have HT := Aside0.mk ht
        have HI := Aside0.mk hI
        have HF := Aside0.mk hf
        clear hc0 hx hf hI ht
        go_wp2_with (first | (go_at_call 19; refine (codec_Text.calls _ _ _ _ HT.out).mono ?_; rintro e w1 ⟨rfl, hb1⟩) | (go_at_call 50; refine (Texts_add w0.heap.size b (Lib.strCells acc) t w1 (builder_below HI.out hb1) (by rw [Lib.strCells_length]; omega) (by have := hb1.size; omega)).mono ?_; rintro e w2 ⟨rfl, hI2, hb2⟩))
        go_roundw
        case rel => exact ⟨j + 1, by omega, by go_num, ⟨_, by rw [strCells_append]; exact hI2, HF.out, (hbr.trans (hb1.mono hsz0)).trans hb2⟩⟩
        case measure => simp [intOf]; omega
      · rw [if_neg hsz] at hf; cases hf
    · have : j = l.length := by omega
      subst this
      have HY := HX.out
      clear HX HS
      obtain ⟨acc, hI, hf, hbr⟩ := HY
      rw [List.drop_length] at hf
      cases hf
      go_wp2
      go_end0
      exact ⟨rfl, hI, hbr⟩
theorem codec_Texts.calls (k : Nat) (A0 : Option Addr) (c0 : Nat) (l0 : List ByteArray) (r : ByteArray) (w : World) (hr0 : Kd.C Kd.string w A0 l0.length l0) (hc0 : l0.length ≤ c0) (h : codec_Texts.f k l0 = some r) :
    Calls Try.prog 21 #[.slice A0 l0.length c0] w fun e w' => e = .returned (.string r) ∧ Below w.heap.size w w' := by
  obtain ⟨t, h1, h2⟩ := Option.bind_eq_some_iff.mp h
  by_cases hsz : t.size < 140737488355328
  · rw [if_pos hsz] at h2
    have hm := hr0.2.1
    have HR := Aside0.mk hr0
    have h1 := Aside0.mk h1
    have h2 := Aside0.mk h2
    have HN := Aside0.mk (show Lib.IsBuilder Sb.TB 5 w.heap.size w.heap.size [] (w.alloc (.cells #[.pointer none, .slice none 0 0] Sb.TB)) from
      .inl ⟨Nat.le_refl _, .slice none 0 0, by simpa using heap_alloc_new w _, own_nil _ _ _ _, by simp [Value.ownBlock]⟩)
    clear hr0 h
    go_enter Try.func21, Try.ntmps21
    go_wp2_with fail
    refine (codec_unsigned.calls _ _ _ _ h1.out).mono ?_
    rintro e w1 ⟨rfl, hb1⟩
    go_wp2_with fail
    refine (Sb.WriteString w.heap.size w.heap.size [] t w1 (builder_below HN.out hb1) (by simp; omega) (by have := hb1.size; simp at this; omega)).mono ?_
    rintro e w2 ⟨rfl, hI2, hb2⟩
    go_wp2_with fail
    refine (Texts_each k w.heap.size w.heap.size A0 c0 l0 t r w w2 HR.out rfl (.inr (by simpa using hI2)) ((below_alloc (Below.refl _ w) _).trans ((hb1.mono (by simp)).trans hb2)) h2.out).mono ?_
    rintro e w3 ⟨rfl, hI3, hb3⟩
    go_wp2_with fail
    refine (Sb.String_any w.heap.size w.heap.size r.data.toList w3 (by rw [← Lib.strCells_eq]; exact hI3) (by have h1 := hb1.size; have h2 := hb2.size; have h3 := hb3.size; simp at h1; omega)).mono ?_
    rintro e w4 ⟨rfl, hb4⟩
    go_wp2
    go_ret
    exact ⟨rfl, (below_alloc (Below.refl _ w) _).trans ((hb1.mono (by simp)).trans (hb2.trans (hb3.trans hb4)))⟩
  · rw [if_neg hsz] at h2; cases h2

end Go.Proofs.Ytldkkboeaadbeaa.Pr
