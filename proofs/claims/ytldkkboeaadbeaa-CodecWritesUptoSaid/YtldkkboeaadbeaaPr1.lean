-- By a program of this session.
import Derived.Test.YtldkkboeaadbeaaPr0
namespace Go.Proofs.Ytldkkboeaadbeaa.Pr
open Go.RowKit Go.Proofs.YtldkkboeaadbeaaW.PrintWords Go.Proofs.YtldkkboeaadbeaaW.PrintLast Go.Proofs.YtldkkboeaadbeaaW.PrintMore
attribute [local go_sem] max2_int min2_int max_two min_two max_three min_three max_four min_four   -- for this text's walks alone
set_option linter.unusedVariables false
set_option linter.unusedSimpArgs false

/-! ### codec_unsigned: function 47 -/
def codec_unsigned.l0 : Nat → Int → List Int → Option (ByteArray)
  | 0, _, _ => none
  | k + 1, x0, x3 => if x0 > 127 then (if x3.length < 140737488355328 then (codec_unsigned.l0 k (x0 / 128) (x3 ++ [Go.bits .or .u8 ((x0) % 256) 128])) else (none)) else (if x3.length < 140737488355328 then (some (strOfNums (x3 ++ [(x0) % 256]))) else (none))
def codec_unsigned.f (k : Nat) (a0 : Int) : Option (ByteArray) := codec_unsigned.l0 k a0 ([] : List Int)
theorem codec_unsigned.mono_l : ∀ k, (∀ y0 y1, LeO (codec_unsigned.l0 k y0 y1) (codec_unsigned.l0 (k + 1) y0 y1))
  | 0 => fun _ _ r h => by simp [codec_unsigned.l0] at h
  | k + 1 => by
    have ih0 := codec_unsigned.mono_l k
    · intro y0 y1
      unfold codec_unsigned.l0
      repeat' first
      | (with_reducible exact ih0 _ _)
      | (with_reducible exact LeO.refl _)
      | (with_reducible exact LeO.none _)
      | (with_reducible refine LeO.ite ?_ ?_)
      | (with_reducible refine LeO.bind ?_ (fun _ => ?_))
      | exact ih0 _ _
      | exact LeO.none _
      | refine LeO.ite ?_ ?_
      | refine LeO.bind ?_ (fun _ => ?_)
theorem codec_unsigned.mono : ∀ a0 k, LeO (codec_unsigned.f k a0) (codec_unsigned.f (k + 1) a0) := by
  intro a0 k
  have ih0 := codec_unsigned.mono_l k
  unfold codec_unsigned.f
  repeat' first
      | (with_reducible exact ih0 _ _)
      | (with_reducible exact LeO.refl _)
      | (with_reducible exact LeO.none _)
      | (with_reducible refine LeO.ite ?_ ?_)
      | (with_reducible refine LeO.bind ?_ (fun _ => ?_))
      | exact ih0 _ _
      | exact LeO.none _
      | refine LeO.ite ?_ ?_
      | refine LeO.bind ?_ (fun _ => ?_)
set_option maxHeartbeats 8000000 in
set_option maxRecDepth 100000 in
theorem codec_unsigned.calls (k : Nat) (a0 : Int) (r : ByteArray) (w : World) (h : codec_unsigned.f k a0 = some r) :
    Calls Try.prog 47 #[.int .u64 a0] w fun e w' => e = .returned (.string r) ∧ Below w.heap.size w w' := by
  have HB := Aside0.mk (Below.refl w.heap.size w)
  have H : (codec_unsigned.l0 k a0 ([] : List Int)) = some r := h
  clear h
  have H' := Aside0.mk H
  clear H
  go_enter Try.func47, Try.ntmps47
  go_wp2
  go_loopg [0, 3] k (fun kq v0 v3 w' => ∃ (x0_1 : Int) (x3_1 : List Int), v0 = .int .u64 x0_1 ∧ Aside0 (codec_unsigned.l0 kq x0_1 x3_1 = some r) ∧ Aside0 (kq ≤ k) ∧ Aside0 (Kd.R (Kd.int .u8) 5 w' w.heap.size (fun _ => True) v3 x3_1) ∧ Aside0 (Below w.heap.size w w'))
  case atStart => exact ⟨(a0), (([] : List Int)), (by first | rfl | (simp; done) | (simp [*]; done)), H', ⟨Nat.le_refl _⟩, ⟨by first | exact Kd.R_nil _ _ _ _ _ | exact Kd.N_nil _ _ _ _ _ | exact Kd.V_nil _ _ _ _ _ | exact Kd.Q_nil _ _ _ _ _ | exact Kd.S_nil _ _ _ _ _⟩, ⟨by repeat (first | (with_reducible first | exact HB.out | apply below_alloc | apply pw_below_drewN | apply below_drew1) | exact HB.out)⟩⟩
  case round =>
    clear H'
    obtain ⟨x0_1, x3_1, rfl, HA, HK1, HO_3, HB⟩ := hrel
    cases gk with
    | zero => exact absurd HA.out (by simp [codec_unsigned.l0])
    | succ k1 =>
      have H := HA.out
      clear HA
      simp only [codec_unsigned.l0] at H
      by_cases c2 : x0_1 > 127
      · rw [if_pos c2] at H
        have c2b0 : decide (127 < x0_1) = true := decide_eq_true c2
        clear c2
        by_cases c3 : x3_1.length < 140737488355328
        · rw [if_pos c3] at H
          have LMc3 := Aside0.mk c3
          clear c3
          obtain ⟨y101, hy101⟩ : ∃ y_ : List Int, y_ = (x3_1 ++ [Go.bits .or .u8 ((x0_1) % 256) 128]) := ⟨_, rfl⟩
          replace H : (codec_unsigned.l0 k1 (x0_1 / 128) y101) = some r := by first | (rw [hy101]; with_reducible exact H) | (have H2_ := (Option.bind_some _ _).symm.trans H; rw [hy101]; with_reducible exact H2_) | (have H2_ := (Option.bind_some _ _).symm.trans H; with_reducible exact H2_) | with_reducible exact H | (rw [hy101]; exact H) | exact H
          have Ny101 := Aside0.mk hy101
          clear hy101
          have H' := Aside0.mk H
          clear H
          go_wp2_with (first | ((with_reducible refine gate_builtin (b := .append) (xs := #[.tmp 6, .tmp 10]) rfl ?_); at_builtin; refine Kd.R_append (Kd.int .u8) (w0 := w) w.heap.size rfl (.tmp 6) (.tmp 10) 58 5 (.int .u8 0) 1 rfl Try.underlying58 info5 rfl (by decide) (by omega) u3 x3_1 (Go.bits .or .u8 ((x0_1) % 256) 128) [.int .u8 (Go.bits .or .u8 ((x0_1) % 256) 128)] (fun _ => True) (fun _ => False) rfl rfl ?aP (fun _ hk => hk.elim) ?aF ?aO ?aB ?aS ?aL ?_; (case aP => exact rfl); (case aB => exact (by repeat (first | (with_reducible first | exact HB.out | apply below_alloc | apply pw_below_drewN | apply below_drew1) | exact HB.out))); (case aF => exact (fun _ _ => trivial)); (case aO => exact (by (with_reducible repeat (first | apply Kd.R_alloc | apply Kd.R_drewN | apply Kd.R_drew)); exact HO_3.out)); (case aS => exact (below_size (by repeat (first | (with_reducible first | exact HB.out | apply below_alloc | apply pw_below_drewN | apply below_drew1) | exact HB.out)))); (case aL => have := LMc3.out; omega); intro v102 w4 ho hb hg hat; rw [← Ny101.out] at ho; have n0_ := Aside0.mk (hb); have n1_ := Aside0.mk (ho); clear HB; clear HO_3; have HB := n0_; have HO103 := n1_; clear n0_ n1_; clear ho hb hg hat))
          go_roundg k1
          case measure => have := HK1.out; omega
          case rel => exact ⟨(x0_1 / 128), (y101), (by first | rfl | (simp; done) | (simp [*]; done)), H', ⟨by have := HK1.out; omega⟩, ⟨by (with_reducible repeat (first | apply Kd.R_alloc | apply Kd.R_drewN | apply Kd.R_drew)); exact HO103.out⟩, ⟨by repeat (first | (with_reducible first | exact HB.out | apply below_alloc | apply pw_below_drewN | apply below_drew1) | exact HB.out)⟩⟩
        · rw [if_neg c3] at H
          exact absurd H (by simp)
      · rw [if_neg c2] at H
        have c2b0 : decide (127 < x0_1) = false := decide_eq_false c2
        clear c2
        by_cases c5 : x3_1.length < 140737488355328
        · rw [if_pos c5] at H
          have LMc5 := Aside0.mk c5
          clear c5
          obtain ⟨y104, hy104⟩ : ∃ y_ : List Int, y_ = (x3_1 ++ [(x0_1) % 256]) := ⟨_, rfl⟩
          replace H : (some (strOfNums y104)) = some r := by first | (rw [hy104]; with_reducible exact H) | (have H2_ := (Option.bind_some _ _).symm.trans H; rw [hy104]; with_reducible exact H2_) | (have H2_ := (Option.bind_some _ _).symm.trans H; with_reducible exact H2_) | with_reducible exact H | (rw [hy104]; exact H) | exact H
          have Ny104 := Aside0.mk hy104
          clear hy104
          obtain rfl := Option.some.inj H
          go_wp2_with (first | ((with_reducible refine gate_builtin (b := .append) (xs := #[.tmp 14, .tmp 17]) rfl ?_); at_builtin; refine Kd.R_append (Kd.int .u8) (w0 := w) w.heap.size rfl (.tmp 14) (.tmp 17) 58 5 (.int .u8 0) 1 rfl Try.underlying58 info5 rfl (by decide) (by omega) u3 x3_1 ((x0_1) % 256) [.int .u8 ((x0_1) % 256)] (fun _ => True) (fun _ => False) rfl rfl ?aP (fun _ hk => hk.elim) ?aF ?aO ?aB ?aS ?aL ?_; (case aP => exact rfl); (case aB => exact (by repeat (first | (with_reducible first | exact HB.out | apply below_alloc | apply pw_below_drewN | apply below_drew1) | exact HB.out))); (case aF => exact (fun _ _ => trivial)); (case aO => exact (by (with_reducible repeat (first | apply Kd.R_alloc | apply Kd.R_drewN | apply Kd.R_drew)); exact HO_3.out)); (case aS => exact (below_size (by repeat (first | (with_reducible first | exact HB.out | apply below_alloc | apply pw_below_drewN | apply below_drew1) | exact HB.out)))); (case aL => have := LMc5.out; omega); intro v105 w6 ho hb hg hat; rw [← Ny104.out] at ho; have n0_ := Aside0.mk (hb); have n1_ := Aside0.mk (ho); clear HB; clear HO_3; have HB := n0_; have HO106 := n1_; clear n0_ n1_; clear ho hb hg hat; have hcv7 := own_string (P := Try.prog) Try.underlying58 Try.underlying5 Try.underlying9 (Kd.own_of_R HO106.out)))
          go_ret
          exact ⟨by first | rfl | (simp [errW_none, errW_some] <;> rfl) | (simp [*, errW_none, errW_some] <;> rfl), by repeat (first | (with_reducible first | exact HB.out | apply below_alloc | apply pw_below_drewN | apply below_drew1) | exact HB.out)⟩
        · rw [if_neg c5] at H
          exact absurd H (by simp)

/-! ### codec_Uint: function 15 -/
def codec_Uint.f (k : Nat) (a0 : Int) : Option (ByteArray × Int) := if a0 < 0 then (some ((⟨#[]⟩ : ByteArray), 2)) else ((codec_unsigned.f k (IntKind.u64.wrap (a0))).bind fun t107 => (some (t107, 0)))
theorem codec_Uint.mono : ∀ a0 k, LeO (codec_Uint.f k a0) (codec_Uint.f (k + 1) a0) := by
  intro a0 k
  unfold codec_Uint.f
  repeat' first
      | (with_reducible exact codec_unsigned.mono _ _)
      | (with_reducible exact LeO.refl _)
      | (with_reducible exact LeO.none _)
      | (with_reducible refine LeO.ite ?_ ?_)
      | (with_reducible refine LeO.bind ?_ (fun _ => ?_))
      | exact codec_unsigned.mono _ _
      | exact LeO.none _
      | refine LeO.ite ?_ ?_
      | refine LeO.bind ?_ (fun _ => ?_)
set_option maxHeartbeats 8000000 in
set_option maxRecDepth 100000 in
theorem codec_Uint.calls (k : Nat) (a0 : Int) (r1 : ByteArray) (r2 : Int) (w : World) (h : codec_Uint.f k a0 = some (r1, r2)) :
    Calls Try.prog 15 #[.int .i64 a0] w fun e w' => e = .returned (.tuple #[.string r1, .int .i64 r2]) ∧ Below w.heap.size w w' := by
  have HB := Aside0.mk (Below.refl w.heap.size w)
  have H : (if a0 < 0 then (some ((⟨#[]⟩ : ByteArray), 2)) else ((codec_unsigned.f k (IntKind.u64.wrap (a0))).bind fun t107 => (some (t107, 0)))) = some (r1, r2) := h
  clear h
  by_cases c2 : a0 < 0
  · rw [if_pos c2] at H
    have c2b0 : decide (a0 < 0) = true := decide_eq_true c2
    clear c2
    simp only [Option.some.injEq, Prod.mk.injEq] at H
    obtain ⟨rfl, rfl⟩ := H
    go_enter Try.func15, Try.ntmps15
    go_wp2
    go_ret2
    exact ⟨by first | rfl | (simp [errW_none, errW_some] <;> rfl) | (simp [*, errW_none, errW_some] <;> rfl), by repeat (first | (with_reducible first | exact HB.out | apply below_alloc | apply pw_below_drewN | apply below_drew1) | exact HB.out)⟩
  · rw [if_neg c2] at H
    have c2b0 : decide (a0 < 0) = false := decide_eq_false c2
    clear c2
    replace H := Option.bind_eq_some_iff.mp H
    obtain ⟨t107, A30, H⟩ := H
    replace H : (some (t107, 0)) = some (r1, r2) := H
    have A3 := Aside0.mk A30
    clear A30
    simp only [Option.some.injEq, Prod.mk.injEq] at H
    obtain ⟨rfl, rfl⟩ := H
    go_enter Try.func15, Try.ntmps15
    go_wp2_with (first | ((with_reducible refine gate_callee (f := 47) rfl ?_); refine goesL_ (some 8) rfl rfl Try.func47 (by kernel_rfl) rfl #[.int .u64 (IntKind.u64.wrap (a0))] rfl (by (try simp only [List.map_toArray, List.map_cons, List.map_nil]); first | done | rfl | (simp only [List.length_drop, List.length_take]; rfl)) ?_; (with_reducible refine (codec_unsigned.calls k (IntKind.u64.wrap (a0)) t107 _ A3.out).mono ?_); rintro e w4 ⟨rfl, hb⟩; refine ⟨_, rfl, ?_⟩; have n0_ := Aside0.mk (below_step (by repeat (first | (with_reducible first | exact HB.out | apply below_alloc | apply pw_below_drewN | apply below_drew1) | exact HB.out)) hb); clear HB; have HB := n0_; clear n0_; (try clear hb); (try clear hb2); (try clear hk); (try clear hi)))
    go_ret2
    exact ⟨by first | rfl | (simp [errW_none, errW_some] <;> rfl) | (simp [*, errW_none, errW_some] <;> rfl), by repeat (first | (with_reducible first | exact HB.out | apply below_alloc | apply pw_below_drewN | apply below_drew1) | exact HB.out)⟩

/-! ### codec_Int: function 17 -/
def codec_Int.f (k : Nat) (a0 : Int) : Option (ByteArray) := if a0 < 0 then ((codec_unsigned.f k (Go.bits .or .u64 (IntKind.u64.wrap ((IntKind.u64.wrap (Go.bits .xor .i64 (-1) a0)) * 2)) 1)).bind fun t108 => (some t108)) else ((codec_unsigned.f k (IntKind.u64.wrap ((IntKind.u64.wrap (a0)) * 2))).bind fun t109 => (some t109))
theorem codec_Int.mono : ∀ a0 k, LeO (codec_Int.f k a0) (codec_Int.f (k + 1) a0) := by
  intro a0 k
  unfold codec_Int.f
  repeat' first
      | (with_reducible exact codec_unsigned.mono _ _)
      | (with_reducible exact LeO.refl _)
      | (with_reducible exact LeO.none _)
      | (with_reducible refine LeO.ite ?_ ?_)
      | (with_reducible refine LeO.bind ?_ (fun _ => ?_))
      | exact codec_unsigned.mono _ _
      | exact LeO.none _
      | refine LeO.ite ?_ ?_
      | refine LeO.bind ?_ (fun _ => ?_)
set_option maxHeartbeats 8000000 in
set_option maxRecDepth 100000 in
theorem codec_Int.calls (k : Nat) (a0 : Int) (r : ByteArray) (w : World) (h : codec_Int.f k a0 = some r) :
    Calls Try.prog 17 #[.int .i64 a0] w fun e w' => e = .returned (.string r) ∧ Below w.heap.size w w' := by
  have HB := Aside0.mk (Below.refl w.heap.size w)
  have H : (if a0 < 0 then ((codec_unsigned.f k (Go.bits .or .u64 (IntKind.u64.wrap ((IntKind.u64.wrap (Go.bits .xor .i64 (-1) a0)) * 2)) 1)).bind fun t108 => (some t108)) else ((codec_unsigned.f k (IntKind.u64.wrap ((IntKind.u64.wrap (a0)) * 2))).bind fun t109 => (some t109))) = some r := h
  clear h
  by_cases c2 : a0 < 0
  · rw [if_pos c2] at H
    have c2b0 : decide (a0 < 0) = true := decide_eq_true c2
    clear c2
    replace H := Option.bind_eq_some_iff.mp H
    obtain ⟨t108, A30, H⟩ := H
    replace H : (some t108) = some r := H
    have A3 := Aside0.mk A30
    clear A30
    obtain rfl := Option.some.inj H
    go_enter Try.func17, Try.ntmps17
    go_wp2_with (first | ((with_reducible refine gate_callee (f := 47) rfl ?_); refine goesL_ (some 10) rfl rfl Try.func47 (by kernel_rfl) rfl #[.int .u64 (Go.bits .or .u64 (IntKind.u64.wrap ((IntKind.u64.wrap (Go.bits .xor .i64 (-1) a0)) * 2)) 1)] rfl (by (try simp only [List.map_toArray, List.map_cons, List.map_nil]); first | done | rfl | (simp only [List.length_drop, List.length_take]; rfl)) ?_; (with_reducible refine (codec_unsigned.calls k (Go.bits .or .u64 (IntKind.u64.wrap ((IntKind.u64.wrap (Go.bits .xor .i64 (-1) a0)) * 2)) 1) t108 _ A3.out).mono ?_); rintro e w4 ⟨rfl, hb⟩; refine ⟨_, rfl, ?_⟩; have n0_ := Aside0.mk (below_step (by repeat (first | (with_reducible first | exact HB.out | apply below_alloc | apply pw_below_drewN | apply below_drew1) | exact HB.out)) hb); clear HB; have HB := n0_; clear n0_; (try clear hb); (try clear hb2); (try clear hk); (try clear hi)))
    go_ret
    exact ⟨by first | rfl | (simp [errW_none, errW_some] <;> rfl) | (simp [*, errW_none, errW_some] <;> rfl), by repeat (first | (with_reducible first | exact HB.out | apply below_alloc | apply pw_below_drewN | apply below_drew1) | exact HB.out)⟩
  · rw [if_neg c2] at H
    have c2b0 : decide (a0 < 0) = false := decide_eq_false c2
    clear c2
    replace H := Option.bind_eq_some_iff.mp H
    obtain ⟨t109, A50, H⟩ := H
    replace H : (some t109) = some r := H
    have A5 := Aside0.mk A50
    clear A50
    obtain rfl := Option.some.inj H
    go_enter Try.func17, Try.ntmps17
    go_wp2_with (first | ((with_reducible refine gate_callee (f := 47) rfl ?_); refine goesL_ (some 14) rfl rfl Try.func47 (by kernel_rfl) rfl #[.int .u64 (IntKind.u64.wrap ((IntKind.u64.wrap (a0)) * 2))] rfl (by (try simp only [List.map_toArray, List.map_cons, List.map_nil]); first | done | rfl | (simp only [List.length_drop, List.length_take]; rfl)) ?_; (with_reducible refine (codec_unsigned.calls k (IntKind.u64.wrap ((IntKind.u64.wrap (a0)) * 2)) t109 _ A5.out).mono ?_); rintro e w6 ⟨rfl, hb⟩; refine ⟨_, rfl, ?_⟩; have n0_ := Aside0.mk (below_step (by repeat (first | (with_reducible first | exact HB.out | apply below_alloc | apply pw_below_drewN | apply below_drew1) | exact HB.out)) hb); clear HB; have HB := n0_; clear n0_; (try clear hb); (try clear hb2); (try clear hk); (try clear hi)))
    go_ret
    exact ⟨by first | rfl | (simp [errW_none, errW_some] <;> rfl) | (simp [*, errW_none, errW_some] <;> rfl), by repeat (first | (with_reducible first | exact HB.out | apply below_alloc | apply pw_below_drewN | apply below_drew1) | exact HB.out)⟩

/-! ### codec_Text: function 19, by hand -/
def codec_Text.f (k : Nat) (a0 : ByteArray) : Option (ByteArray) := (codec_unsigned.f k (a0.size : Int)).bind fun t110 => (if t110.size + a0.size ≤ 9223372036854775807 then (some (t110 ++ a0)) else (none))
theorem codec_Text.mono : ∀ a0 k, LeO (codec_Text.f k a0) (codec_Text.f (k + 1) a0) := by
  intro a0 k
  unfold codec_Text.f
  repeat' first
      | (with_reducible exact codec_unsigned.mono _ _)
      | (with_reducible exact LeO.refl _)
      | (with_reducible exact LeO.none _)
      | (with_reducible refine LeO.ite ?_ ?_)
      | (with_reducible refine LeO.bind ?_ (fun _ => ?_))
theorem codec_Text.calls (k : Nat) (a0 : ByteArray) (r : ByteArray) (w : World) (h : codec_Text.f k a0 = some r) :
    Calls Try.prog 19 #[.string a0] w fun e w' => e = .returned (.string r) ∧ Below w.heap.size w w' := by
  obtain ⟨t, h1, h2⟩ := Option.bind_eq_some_iff.mp h
  by_cases c : t.size + a0.size ≤ 9223372036854775807
  · rw [if_pos c] at h2
    obtain rfl := Option.some.inj h2
    clear h2 h
    have h1 := Aside0.mk h1
    go_enter Try.func19, Try.ntmps19
    go_wp2_with (go_at_call 47; refine (codec_unsigned.calls _ _ _ _ h1.out).mono ?_; rintro e w1 ⟨rfl, hb⟩)
    go_ret
    exact ⟨rfl, hb⟩
  · rw [if_neg c] at h2; cases h2

/-! ### codec_Texts: function 21, by hand -/
def codec_Texts.l0 : Nat → List ByteArray → ByteArray → Option ByteArray
  | _, [], b => some b
  | k, s :: l, b => (codec_Text.f k s).bind fun t => if b.size + t.size < 140737488355328 then codec_Texts.l0 k l (b ++ t) else none
def codec_Texts.f (k : Nat) (l0 : List ByteArray) : Option ByteArray :=
  (codec_unsigned.f k (l0.length : Int)).bind fun t => if t.size < 140737488355328 then codec_Texts.l0 k l0 t else none
theorem codec_Texts.mono_l (k : Nat) : ∀ y0 y1, LeO (codec_Texts.l0 k y0 y1) (codec_Texts.l0 (k + 1) y0 y1)
  | [], _ => LeO.refl _
  | _ :: l, _ => LeO.bind (codec_Text.mono _ _) (fun _ => LeO.ite (codec_Texts.mono_l k l _) (LeO.refl _))
theorem codec_Texts.mono : ∀ a0 k, LeO (codec_Texts.f k a0) (codec_Texts.f (k + 1) a0) := by
  intro a0 k
  exact LeO.bind (codec_unsigned.mono _ _) (fun _ => LeO.ite (codec_Texts.mono_l k _ _) (LeO.refl _))
/-- the builder in this form -/
theorem builder_below {B b : Nat} {bs : List Value} {w w' : World} (h : Lib.IsBuilder Sb.TB 5 B b bs w) (hb : Below w.heap.size w w') : Lib.IsBuilder Sb.TB 5 B b bs w' := by
  have key : ∀ p, Lib.BuilderAt Sb.TB 5 B b p bs w → Lib.BuilderAt Sb.TB 5 B b p bs w' := by
    rintro p ⟨hB, v, hv, ho, hne⟩
    have hlt : b < w.heap.size := (Array.getElem?_eq_some_iff.1 hv).1
    exact ⟨hB, v, (hb.block b hlt).trans hv, own_move ho (fun k hk => hb.block k (ho.lt k hk).2), hne⟩
  exact h.imp (key _) (key _)
theorem strCells_append (a b : ByteArray) : Lib.strCells (a ++ b) = Lib.strCells a ++ Lib.strCells b := by
  simp [Lib.strCells, ByteArray.data_append]
theorem Texts_add (B b : Nat) (bs : List Value) (s : ByteArray) (w : World) (h : Lib.IsBuilder Sb.TB 5 B b bs w) (hlen : bs.length + s.size ≤ 140737488355328) (hBw : B ≤ w.heap.size) :
    Calls Try.prog 50 #[.string s, .pointer (some ⟨b, 0, none⟩)] w fun e w' => e = .returned (.tuple #[]) ∧ Lib.IsBuilder Sb.TB 5 B b (bs ++ Lib.strCells s) w' ∧ Below B w w' := by
  go_enter Try.func50, Try.ntmps50
  go_wp2_with (go_at_call 37; refine (Sb.WriteString B b bs s _ h hlen hBw).mono ?_; rintro e w1 ⟨rfl, hI1, hB1⟩)
  go_end0
  exact ⟨rfl, .inr hI1, hB1⟩
theorem Texts_each (k B b : Nat) (A : Option Addr) (c : Nat) (l : List ByteArray) (acc r : ByteArray) (w0 w : World) (hr : Kd.C Kd.string w0 A l.length l) (hB0 : B = w0.heap.size) (h : Lib.IsBuilder Sb.TB 5 B b (Lib.strCells acc) w) (hb : Below B w0 w) (hf : codec_Texts.l0 k l acc = some r) :
    Calls Try.prog 49 #[.slice A l.length c, .func (.func 19) #[] #[], .func (.func 50) #[] #[.pointer (some ⟨b, 0, none⟩)]] w fun e w' => e = .returned (.tuple #[]) ∧ Lib.IsBuilder Sb.TB 5 B b (Lib.strCells r) w' ∧ Below B w w' := by
  have hm := hr.2.1
  have HR := Aside0.mk hr
  have HS := Aside0.mk (show Lib.IsBuilder Sb.TB 5 B b (Lib.strCells acc) w ∧ codec_Texts.l0 k (l.drop 0) acc = some r ∧ Below B w w from ⟨h, hf, Below.refl _ _⟩)
  clear hf h hr
  subst hB0
  go_enter Try.func49, Try.ntmps49
  go_wp2_with fail
  go_loopw [10] (fun i wr => ∃ j : Nat, j ≤ l.length ∧ i = .int .i64 j ∧ Aside0 (∃ acc, Lib.IsBuilder Sb.TB 5 w0.heap.size b (Lib.strCells acc) wr ∧ codec_Texts.l0 k (l.drop j) acc = some r ∧ Below w0.heap.size w wr)) (fun i _ => l.length - (intOf i).toNat)
  case atStart => exact ⟨0, Nat.zero_le _, rfl, ⟨_, HS.out⟩⟩
  case round =>
    obtain ⟨j, hj, rfl, HX⟩ := hrel
    by_cases hlt : j < l.length
    · obtain ⟨ad, e, hc0⟩ := Kd.at_string HR.out (j : Int) (by omega) (by omega)
      subst e
      have HY := HX.out
      clear HX HS
      obtain ⟨acc, hI, hf, hbr⟩ := HY
      rw [List.drop_eq_getElem_cons hlt] at hf
      obtain ⟨t, ht, hf⟩ := Option.bind_eq_some_iff.mp hf
      by_cases hsz : acc.size + t.size < 140737488355328
      · rw [if_pos hsz] at hf
        have hx : rdOf ByteArray.empty l (j : Int) = l[j] := by simp [rdOf, List.getD_eq_getElem?_getD, List.getElem?_eq_getElem hlt]
        rw [hx, Int.toNat_natCast] at hc0
        have hblk : ad.block < w0.heap.size := by
          have := World.block_lt_of_cell? w0 _ hc0
          simpa [Addr.add] using (by unfold Addr.add at this; split at this <;> exact this : ad.block < w0.heap.size)
        have hcr : wr.cell? (ad.add j) = some (.string l[j]) := by
          rw [((hb.trans hbr).cell (p := ad.add j) (by unfold Addr.add; split <;> exact hblk))]; exact hc0
        have hsz0 : w0.heap.size ≤ wr.heap.size := (hb.trans hbr).size
        have HT := Aside0.mk ht
        have HI := Aside0.mk hI
        have HF := Aside0.mk hf
        clear hc0 hx hf hI ht
        go_wp2_with (first | (go_at_call 19; refine (codec_Text.calls _ _ _ _ HT.out).mono ?_; rintro e w1 ⟨rfl, hb1⟩) | (go_at_call 50; refine (Texts_add w0.heap.size b (Lib.strCells acc) t w1 (builder_below HI.out hb1) (by rw [Lib.strCells_length]; omega) (by have := hb1.size; omega)).mono ?_; rintro e w2 ⟨rfl, hI2, hb2⟩))
        go_roundw
        case rel => exact ⟨j + 1, by omega, by go_num, ⟨_, by rw [strCells_append]; exact hI2, HF.out, (hbr.trans (hb1.mono hsz0)).trans hb2⟩⟩
        case measure => simp [intOf]; omega
      · rw [if_neg hsz] at hf; cases hf
    · have : j = l.length := by omega
      subst this
      have HY := HX.out
      clear HX HS
      obtain ⟨acc, hI, hf, hbr⟩ := HY
      rw [List.drop_length] at hf
      cases hf
      go_wp2
      go_end0
      exact ⟨rfl, hI, hbr⟩
theorem codec_Texts.calls (k : Nat) (A0 : Option Addr) (c0 : Nat) (l0 : List ByteArray) (r : ByteArray) (w : World) (hr0 : Kd.C Kd.string w A0 l0.length l0) (hc0 : l0.length ≤ c0) (h : codec_Texts.f k l0 = some r) :
    Calls Try.prog 21 #[.slice A0 l0.length c0] w fun e w' => e = .returned (.string r) ∧ Below w.heap.size w w' := by
  obtain ⟨t, h1, h2⟩ := Option.bind_eq_some_iff.mp h
  by_cases hsz : t.size < 140737488355328
  · rw [if_pos hsz] at h2
    have hm := hr0.2.1
    have HR := Aside0.mk hr0
    have h1 := Aside0.mk h1
    have h2 := Aside0.mk h2
    have HN := Aside0.mk (show Lib.IsBuilder Sb.TB 5 w.heap.size w.heap.size [] (w.alloc (.cells #[.pointer none, .slice none 0 0] Sb.TB)) from
      .inl ⟨Nat.le_refl _, .slice none 0 0, by simpa using heap_alloc_new w _, own_nil _ _ _ _, by simp [Value.ownBlock]⟩)
    clear hr0 h
    go_enter Try.func21, Try.ntmps21
    go_wp2_with fail
    refine (codec_unsigned.calls _ _ _ _ h1.out).mono ?_
    rintro e w1 ⟨rfl, hb1⟩
    go_wp2_with fail
    refine (Sb.WriteString w.heap.size w.heap.size [] t w1 (builder_below HN.out hb1) (by simp; omega) (by have := hb1.size; simp at this; omega)).mono ?_
    rintro e w2 ⟨rfl, hI2, hb2⟩
    go_wp2_with fail
    refine (Texts_each k w.heap.size w.heap.size A0 c0 l0 t r w w2 HR.out rfl (.inr (by simpa using hI2)) ((below_alloc (Below.refl _ w) _).trans ((hb1.mono (by simp)).trans hb2)) h2.out).mono ?_
    rintro e w3 ⟨rfl, hI3, hb3⟩
    go_wp2_with fail
    refine (Sb.String_any w.heap.size w.heap.size r.data.toList w3 (by rw [← Lib.strCells_eq]; exact hI3) (by have h1 := hb1.size; have h2 := hb2.size; have h3 := hb3.size; simp at h1; omega)).mono ?_
    rintro e w4 ⟨rfl, hb4⟩
    go_wp2
    go_ret
    exact ⟨rfl, (below_alloc (Below.refl _ w) _).trans ((hb1.mono (by simp)).trans (hb2.trans (hb3.trans hb4)))⟩
  · rw [if_neg hsz] at h2; cases h2

/-- A state of type 89 at block g of W; what its slices lead to came in by w0. -/
def IsS89 (w0 W : World) (g : Nat) (f0 : ByteArray) (f1 : Int) (f2 : Int) : Prop := W.heap[g]? = some (.cells #[.string f0, .int .i64 f1, .int .i64 f2] 89 (0, 0)) ∧ w0.heap.size ≤ g
theorem IsS89.grown {w0 W : World} {g : Nat} {f0 : ByteArray} {f1 : Int} {f2 : Int} {W1 : World} {row : Option Nat} (h : IsS89 w0 W g f0 f1 f2) (hw : W.grownBy W1 row) (hne : some g ≠ row) : IsS89 w0 W1 g f0 f1 f2 := by
  obtain ⟨hb, hg⟩ := h
  exact ⟨blk_grown hb hw hne, hg⟩
theorem IsS89.own_neN {w0 W : World} {g : Nat} {f0 : ByteArray} {f1 : Int} {f2 : Int} {α : Type} {d : Kd α} {e : Nat} {base : Nat} {ok : Nat → Prop} {v : Value} {xs : List α} (h : IsS89 w0 W g f0 f1 f2) (ho : Kd.N d e W base ok v xs) (ht : e ≠ 89) : some g ≠ v.ownBlock := by
  obtain ⟨hb, hg⟩ := h
  exact Kd.N_ne ho hb ht
theorem IsS89.fresh {w0 W : World} {g : Nat} {f0 : ByteArray} {f1 : Int} {f2 : Int} (h : IsS89 w0 W g f0 f1 f2) : ∀ k, W.heap.size ≤ k → k ≠ g := by
  obtain ⟨hb, hg⟩ := h
  exact Kd.freshB hb
theorem IsS89.kept {w0 W : World} {g : Nat} {f0 : ByteArray} {f1 : Int} {f2 : Int} {W1 : World} {S : Nat → Prop} (h : IsS89 w0 W g f0 f1 f2) (hk : Kept W W1 S) (hne : ¬ S g) : IsS89 w0 W1 g f0 f1 f2 := by
  obtain ⟨hb, hg⟩ := h
  exact ⟨blk_kept hb hk hne, hg⟩
theorem IsS89.below {w0 W : World} {g : Nat} {f0 : ByteArray} {f1 : Int} {f2 : Int} {W1 : World} (h : IsS89 w0 W g f0 f1 f2) (hw : Below W.heap.size W W1) : IsS89 w0 W1 g f0 f1 f2 := h.grown (grown_of_below hw none) (by simp)
theorem IsS89.alloc {w0 W : World} {g : Nat} {f0 : ByteArray} {f1 : Int} {f2 : Int} (h : IsS89 w0 W g f0 f1 f2) (o : Obj) : IsS89 w0 (W.alloc o) g f0 f1 f2 := h.below (below_alloc (Below.refl _ _) o)
theorem IsS89.drewN {w0 W : World} {g : Nat} {f0 : ByteArray} {f1 : Int} {f2 : Int} (h : IsS89 w0 W g f0 f1 f2) (m : Nat) : IsS89 w0 (W.drewN m) g f0 f1 f2 := h
theorem IsS89.drew {w0 W : World} {g : Nat} {f0 : ByteArray} {f1 : Int} {f2 : Int} (h : IsS89 w0 W g f0 f1 f2) : IsS89 w0 W.drew g f0 f1 f2 := h
theorem IsS89.at_ {w0 W : World} {g : Nat} {f0 : ByteArray} {f1 : Int} {f2 : Int} {w' : World} {m : Nat} (hq : W.drewN m = w') (h : IsS89 w0 W g f0 f1 f2) : IsS89 w0 w' g f0 f1 f2 := by subst hq; exact IsS89.drewN h m
theorem IsS89.apart {w0 W : World} {g : Nat} {f0 : ByteArray} {f1 : Int} {f2 : Int} {α : Type} {d : Kd α} {e : Nat} {base : Nat} {ok : Nat → Prop} {v : Value} {xs : List α} (h : IsS89 w0 W g f0 f1 f2) (ho : d.R e W base ok v xs) (ht : ∀ q, q ∈ e :: d.E → q ≠ 89) : d.R e W base (fun k => ok k ∧ k ≠ g) v xs := by
  obtain ⟨hb, hg⟩ := h
  exact Kd.R_types ho hb ht
theorem IsS89.own_ne {w0 W : World} {g : Nat} {f0 : ByteArray} {f1 : Int} {f2 : Int} {α : Type} {d : Kd α} {e : Nat} {base : Nat} {ok : Nat → Prop} {v : Value} {xs : List α} (h : IsS89 w0 W g f0 f1 f2) (ho : d.R e W base ok v xs) (ht : e ≠ 89) : some g ≠ v.ownBlock := by
  obtain ⟨hb, hg⟩ := h
  exact Kd.R_ne ho hb ht
theorem IsS89.apartQ {w0 W : World} {g : Nat} {f0 : ByteArray} {f1 : Int} {f2 : Int} {α : Type} {d : Kd α} {e : Nat} {base : Nat} {ok : Nat → Prop} {v : Value} {xs : List α} (h : IsS89 w0 W g f0 f1 f2) (ho : d.Q e W base ok v xs) (ht : ∀ q, q ∈ e :: d.E → q ≠ 89) : d.Q e W base (fun k => ok k ∧ k ≠ g) v xs := by
  obtain ⟨hb, hg⟩ := h
  exact Kd.Q_types ho hb ht
theorem IsS89.own_neQ {w0 W : World} {g : Nat} {f0 : ByteArray} {f1 : Int} {f2 : Int} {α : Type} {d : Kd α} {e : Nat} {base : Nat} {ok : Nat → Prop} {v : Value} {xs : List α} (h : IsS89 w0 W g f0 f1 f2) (ho : d.Q e W base ok v xs) (ht : e ≠ 89) : some g ≠ v.ownBlock := by
  obtain ⟨hb, hg⟩ := h
  exact Kd.Q_ne ho hb ht
theorem IsS89.apartS {w0 W : World} {g : Nat} {f0 : ByteArray} {f1 : Int} {f2 : Int} {α : Type} {d : Kd α} {e : Nat} {base : Nat} {ok : Nat → Prop} {v : Value} {xs : List α} (h : IsS89 w0 W g f0 f1 f2) (ho : d.S e W base ok v xs) (ht : ∀ q, q ∈ e :: d.E → q ≠ 89) : d.S e W base (fun k => ok k ∧ k ≠ g) v xs := by
  obtain ⟨hb, hg⟩ := h
  exact Kd.S_types ho hb ht
theorem IsS89.own_neS {w0 W : World} {g : Nat} {f0 : ByteArray} {f1 : Int} {f2 : Int} {α : Type} {d : Kd α} {e : Nat} {base : Nat} {ok : Nat → Prop} {v : Value} {xs : List α} (h : IsS89 w0 W g f0 f1 f2) (ho : d.S e W base ok v xs) (ht : e ≠ 89) : some g ≠ v.ownBlock := by
  obtain ⟨hb, hg⟩ := h
  exact Kd.S_ne ho hb ht
theorem IsS89.lt {w0 W : World} {g : Nat} {f0 : ByteArray} {f1 : Int} {f2 : Int} (h : IsS89 w0 W g f0 f1 f2) : g < W.heap.size := by
  obtain ⟨hb, hg⟩ := h
  exact blk_lt hb
theorem IsS89.ge {w0 W : World} {g : Nat} {f0 : ByteArray} {f1 : Int} {f2 : Int} (h : IsS89 w0 W g f0 f1 f2) : w0.heap.size ≤ g := by
  obtain ⟨hb, hg⟩ := h
  exact hg
theorem IsS89.ne_blk {w0 W : World} {g : Nat} {f0 : ByteArray} {f1 : Int} {f2 : Int} {a : Nat} {cs : Array Value} {t : TypeId} {fr : Nat × Nat} (h : IsS89 w0 W g f0 f1 f2) (hb2 : W.heap[a]? = some (.cells cs t fr)) (ht : t ≠ 89) : g ≠ a := by
  obtain ⟨hb, hg⟩ := h
  rintro rfl
  rw [hb] at hb2
  injection hb2 with hb2
  injection hb2 with _ ht2
  exact ht ht2.symm
theorem IsS89.far {w0 W : World} {g : Nat} {f0 : ByteArray} {f1 : Int} {f2 : Int} {p : Addr} (h : IsS89 w0 W g f0 f1 f2) (hne : g ≠ p.block) (u : Value) : IsS89 w0 (W.setCell p u) g f0 f1 f2 := by
  obtain ⟨hb, hg⟩ := h
  exact ⟨blk_far hb hne u, hg⟩
theorem cellS89_0 {W : World} {g : Nat} {f0 : ByteArray} {f1 : Int} {f2 : Int} (h : W.heap[g]? = some (.cells #[.string f0, .int .i64 f1, .int .i64 f2] 89 (0, 0))) : W.cell? ⟨g, 0, none⟩ = some (.string f0) := (blk_cell h 0).trans rfl
theorem IsS89.set_0 {w0 W : World} {g : Nat} {f0 : ByteArray} {f1 : Int} {f2 : Int} (h : IsS89 w0 W g f0 f1 f2) (x : ByteArray) : IsS89 w0 (W.setCell ⟨g, 0, none⟩ (.string x)) g x f1 f2 := by
  obtain ⟨hb, hg⟩ := h
  exact ⟨by simpa using blk_set hb 0 (.string x), hg⟩
theorem cellS89_1 {W : World} {g : Nat} {f0 : ByteArray} {f1 : Int} {f2 : Int} (h : W.heap[g]? = some (.cells #[.string f0, .int .i64 f1, .int .i64 f2] 89 (0, 0))) : W.cell? ⟨g, 1, none⟩ = some (.int .i64 f1) := (blk_cell h 1).trans rfl
theorem IsS89.set_1 {w0 W : World} {g : Nat} {f0 : ByteArray} {f1 : Int} {f2 : Int} (h : IsS89 w0 W g f0 f1 f2) (x : Int) : IsS89 w0 (W.setCell ⟨g, 1, none⟩ (.int .i64 x)) g f0 x f2 := by
  obtain ⟨hb, hg⟩ := h
  exact ⟨by simpa using blk_set hb 1 (.int .i64 x), hg⟩
theorem cellS89_2 {W : World} {g : Nat} {f0 : ByteArray} {f1 : Int} {f2 : Int} (h : W.heap[g]? = some (.cells #[.string f0, .int .i64 f1, .int .i64 f2] 89 (0, 0))) : W.cell? ⟨g, 2, none⟩ = some (.int .i64 f2) := (blk_cell h 2).trans rfl
theorem IsS89.set_2 {w0 W : World} {g : Nat} {f0 : ByteArray} {f1 : Int} {f2 : Int} (h : IsS89 w0 W g f0 f1 f2) (x : Int) : IsS89 w0 (W.setCell ⟨g, 2, none⟩ (.int .i64 x)) g f0 f1 x := by
  obtain ⟨hb, hg⟩ := h
  exact ⟨by simpa using blk_set hb 2 (.int .i64 x), hg⟩
theorem IsS89.new (w0 W : World) (f0 : ByteArray) (f1 : Int) (f2 : Int) (hB : Below w0.heap.size w0 W) : IsS89 w0 (W.alloc (.cells #[.string f0, .int .i64 f1, .int .i64 f2] 89)) W.heap.size f0 f1 f2 := ⟨by simpa using heap_alloc_new W _, hB.size⟩

/-! ### codec_NewReader: function 23 -/
def codec_NewReader.f (a0 : ByteArray) : Option (ByteArray × Int × Int) := some (a0, 0, 0)
set_option maxHeartbeats 8000000 in
set_option maxRecDepth 100000 in
theorem codec_NewReader.calls (a0 : ByteArray) (r1 : ByteArray) (r2 : Int) (r3 : Int) (w0 w : World) (hB : Below w0.heap.size w0 w) (h : codec_NewReader.f a0 = some (r1, r2, r3)) :
    Calls Try.prog 23 #[.string a0] w fun e w' => ∃ g_ : Nat, e = .returned (.pointer (some ⟨g_, 0, none⟩)) ∧ IsS89 w0 w' g_ r1 r2 r3 ∧ Below w0.heap.size w0 w' ∧ Below w.heap.size w w' := by
  have hu89 := Try.underlying89
  have HBW := Aside0.mk (Below.refl w.heap.size w)
  have HW0 := Aside0.mk hB.size
  have HB := Aside0.mk hB
  clear hB
  have H : (some (a0, 0, 0)) = some (r1, r2, r3) := h
  clear h
  simp only [Option.some.injEq, Prod.mk.injEq] at H
  obtain ⟨rfl, rfl, rfl⟩ := H
  go_enter Try.func23, Try.ntmps23
  go_wp2_with (first | ((with_reducible refine gate_dst (N := 5) rfl ?_); refine box_event ?hg (N := 5) ?hd (cs := #[.string a0, .int .i64 0, .int .i64 0]) (t := 89) ?hr ?_; (case hd => rfl); (case hg => rfl); (case hr => first | (go_simp; done) | (go_simp; rfl)); intro gb110 hg w2 hbox hb; have n0_ := Aside0.mk (below_step HBW.out hb); have n1_ := Aside0.mk (below_step (by repeat (first | (with_reducible first | exact HB.out | apply below_alloc | apply pw_below_drewN | apply below_drew1) | exact HB.out)) hb); have n2_ := Aside0.mk (hbox); have n3_ := Aside0.mk ((by rw [hg]; exact (below_size (by repeat (first | (with_reducible first | exact HBW.out | apply below_alloc | apply pw_below_drewN | apply below_drew1) | exact HBW.out))) : w.heap.size ≤ gb110)); have n4_ := Aside0.mk ((Nat.le_trans HW0.out (by rw [hg]; exact (below_size (by repeat (first | (with_reducible first | exact HBW.out | apply below_alloc | apply pw_below_drewN | apply below_drew1) | exact HBW.out))) : w.heap.size ≤ gb110) : w0.heap.size ≤ gb110)); clear HBW; clear HB; have HBW := n0_; have HB := n1_; have BK110 := n2_; have GW110 := n3_; have GE110 := n4_; clear n0_ n1_ n2_ n3_ n4_; clear hb hbox hg))
  go_ret
  exact ⟨_, rfl, (show IsS89 w0 _ gb110 a0 0 0 from ⟨by (with_reducible repeat (first | refine blk_drewN ?_ _ | refine blk_drew ?_ | refine blk_alloc ?_ _)); exact BK110.out, GE110.out⟩), by repeat (first | (with_reducible first | exact HB.out | apply below_alloc | apply pw_below_drewN | apply below_drew1 | refine below_set ?_ GE110.out) | exact HB.out), by repeat (first | (with_reducible first | exact HBW.out | apply below_alloc | apply pw_below_drewN | apply below_drew1 | refine below_set ?_ GW110.out) | exact HBW.out)⟩

/-! ### codec_Reader_scan: function 54 -/
mutual
def codec_Reader_scan.l0 : Nat → Int → Int → Int → ByteArray → Int → Int → Option (Int × Int × Bool × ByteArray × Int × Int)
  | 0, _, _, _, _, _, _ => none
  | k + 1, x1, x7, x8, x1000, x1001, x1002 => if x1 < (x1000.size : Int) then (codec_Reader_scan.j1 k x1 x7 x8 (decide (x8 < 64)) x1000 x1001 x1002) else (codec_Reader_scan.j1 k x1 x7 x8 false x1000 x1001 x1002)
def codec_Reader_scan.j1 : Nat → Int → Int → Int → Bool → ByteArray → Int → Int → Option (Int × Int × Bool × ByteArray × Int × Int)
  | 0, _, _, _, _, _, _, _ => none
  | k + 1, x1, x7, x8, x20, x1000, x1001, x1002 => if x20 = true then (if 0 ≤ x1 then (if x1 < (x1000.size : Int) then (if x8 = 63 then (codec_Reader_scan.j2 k (wrap64 (x1 + 1)) x7 x8 (bt x1000 x1) (decide ((bt x1000 x1) > 1)) x1000 x1001 x1002) else (codec_Reader_scan.j2 k (wrap64 (x1 + 1)) x7 x8 (bt x1000 x1) false x1000 x1001 x1002)) else (none)) else (none)) else (some (0, 0, false, x1000, x1001, x1002))
def codec_Reader_scan.j2 : Nat → Int → Int → Int → Int → Bool → ByteArray → Int → Int → Option (Int × Int × Bool × ByteArray × Int × Int)
  | 0, _, _, _, _, _, _, _, _ => none
  | k + 1, x1, x7, x8, x9, x36, x1000, x1001, x1002 => if x36 = true then (some (0, 0, false, x1000, x1001, x1002)) else (if 0 ≤ x8 then (if x9 < 128 then (if x9 > 0 then (some (Go.bits .or .u64 x7 (shl .u64 (IntKind.u64.wrap (Go.bits .and .u8 x9 127)) x8), x1, true, x1000, x1001, x1002)) else (some (Go.bits .or .u64 x7 (shl .u64 (IntKind.u64.wrap (Go.bits .and .u8 x9 127)) x8), x1, (x8 == 0), x1000, x1001, x1002))) else (codec_Reader_scan.l0 k x1 (Go.bits .or .u64 x7 (shl .u64 (IntKind.u64.wrap (Go.bits .and .u8 x9 127)) x8)) (wrap64 (x8 + 7)) x1000 x1001 x1002)) else (none))
end
def codec_Reader_scan.f (k : Nat) (s0_0 : ByteArray) (s0_1 : Int) (s0_2 : Int) (a1 : Int) : Option (Int × Int × Bool × ByteArray × Int × Int) := codec_Reader_scan.l0 k a1 0 0 s0_0 s0_1 s0_2
theorem codec_Reader_scan.mono_l : ∀ k, (∀ y0 y1 y2 y3 y4 y5, LeO (codec_Reader_scan.l0 k y0 y1 y2 y3 y4 y5) (codec_Reader_scan.l0 (k + 1) y0 y1 y2 y3 y4 y5)) ∧ (∀ y0 y1 y2 y3 y4 y5 y6, LeO (codec_Reader_scan.j1 k y0 y1 y2 y3 y4 y5 y6) (codec_Reader_scan.j1 (k + 1) y0 y1 y2 y3 y4 y5 y6)) ∧ (∀ y0 y1 y2 y3 y4 y5 y6 y7, LeO (codec_Reader_scan.j2 k y0 y1 y2 y3 y4 y5 y6 y7) (codec_Reader_scan.j2 (k + 1) y0 y1 y2 y3 y4 y5 y6 y7))
  | 0 => ⟨fun _ _ _ _ _ _ r h => by simp [codec_Reader_scan.l0] at h, fun _ _ _ _ _ _ _ r h => by simp [codec_Reader_scan.j1] at h, fun _ _ _ _ _ _ _ _ r h => by simp [codec_Reader_scan.j2] at h⟩
  | k + 1 => by
    obtain ⟨ih0, ih1, ih2⟩ := codec_Reader_scan.mono_l k
    refine ⟨?_, ?_, ?_⟩
    · intro y0 y1 y2 y3 y4 y5
      unfold codec_Reader_scan.l0
      repeat' first
      | (with_reducible exact ih0 _ _ _ _ _ _)
      | (with_reducible exact ih1 _ _ _ _ _ _ _)
      | (with_reducible exact ih2 _ _ _ _ _ _ _ _)
      | (with_reducible exact LeO.refl _)
      | (with_reducible exact LeO.none _)
      | (with_reducible refine LeO.ite ?_ ?_)
      | (with_reducible refine LeO.bind ?_ (fun _ => ?_))
      | exact ih0 _ _ _ _ _ _
      | exact ih1 _ _ _ _ _ _ _
      | exact ih2 _ _ _ _ _ _ _ _
      | exact LeO.none _
      | refine LeO.ite ?_ ?_
      | refine LeO.bind ?_ (fun _ => ?_)
    · intro y0 y1 y2 y3 y4 y5 y6
      unfold codec_Reader_scan.j1
      repeat' first
      | (with_reducible exact ih0 _ _ _ _ _ _)
      | (with_reducible exact ih1 _ _ _ _ _ _ _)
      | (with_reducible exact ih2 _ _ _ _ _ _ _ _)
      | (with_reducible exact LeO.refl _)
      | (with_reducible exact LeO.none _)
      | (with_reducible refine LeO.ite ?_ ?_)
      | (with_reducible refine LeO.bind ?_ (fun _ => ?_))
      | exact ih0 _ _ _ _ _ _
      | exact ih1 _ _ _ _ _ _ _
      | exact ih2 _ _ _ _ _ _ _ _
      | exact LeO.none _
      | refine LeO.ite ?_ ?_
      | refine LeO.bind ?_ (fun _ => ?_)
    · intro y0 y1 y2 y3 y4 y5 y6 y7
      unfold codec_Reader_scan.j2
      repeat' first
      | (with_reducible exact ih0 _ _ _ _ _ _)
      | (with_reducible exact ih1 _ _ _ _ _ _ _)
      | (with_reducible exact ih2 _ _ _ _ _ _ _ _)
      | (with_reducible exact LeO.refl _)
      | (with_reducible exact LeO.none _)
      | (with_reducible refine LeO.ite ?_ ?_)
      | (with_reducible refine LeO.bind ?_ (fun _ => ?_))
      | exact ih0 _ _ _ _ _ _
      | exact ih1 _ _ _ _ _ _ _
      | exact ih2 _ _ _ _ _ _ _ _
      | exact LeO.none _
      | refine LeO.ite ?_ ?_
      | refine LeO.bind ?_ (fun _ => ?_)
theorem codec_Reader_scan.mono : ∀ a0 a1 a2 a3 k, LeO (codec_Reader_scan.f k a0 a1 a2 a3) (codec_Reader_scan.f (k + 1) a0 a1 a2 a3) := by
  intro a0 a1 a2 a3 k
  obtain ⟨ih0, ih1, ih2⟩ := codec_Reader_scan.mono_l k
  unfold codec_Reader_scan.f
  repeat' first
      | (with_reducible exact ih0 _ _ _ _ _ _)
      | (with_reducible exact ih1 _ _ _ _ _ _ _)
      | (with_reducible exact ih2 _ _ _ _ _ _ _ _)
      | (with_reducible exact LeO.refl _)
      | (with_reducible exact LeO.none _)
      | (with_reducible refine LeO.ite ?_ ?_)
      | (with_reducible refine LeO.bind ?_ (fun _ => ?_))
      | exact ih0 _ _ _ _ _ _
      | exact ih1 _ _ _ _ _ _ _
      | exact ih2 _ _ _ _ _ _ _ _
      | exact LeO.none _
      | refine LeO.ite ?_ ?_
      | refine LeO.bind ?_ (fun _ => ?_)
set_option maxHeartbeats 8000000 in
set_option maxRecDepth 100000 in
theorem codec_Reader_scan.calls (k : Nat) (g : Nat) (s0_0 : ByteArray) (s0_1 : Int) (s0_2 : Int) (a1 : Int) (r1 : Int) (r2 : Int) (r3 : Bool) (r4 : ByteArray) (r5 : Int) (r6 : Int) (w0 w : World) (hI : IsS89 w0 w g s0_0 s0_1 s0_2) (hB : Below w0.heap.size w0 w) (h : codec_Reader_scan.f k s0_0 s0_1 s0_2 a1 = some (r1, r2, r3, r4, r5, r6)) :
    Calls Try.prog 54 #[.pointer (some ⟨g, 0, none⟩), .int .i64 a1] w fun e w' => e = .returned (.tuple #[.int .u64 r1, .int .i64 r2, .bool r3]) ∧ IsS89 w0 w' g r4 r5 r6 ∧ Below w0.heap.size w0 w' ∧ KeepBut w w' g none := by
  have HI0 := Aside0.mk hI
  have HK := Aside0.mk (KeepBut.refl w g none)
  have HL := Aside0.mk hB.size
  clear hI
  have HW0 := Aside0.mk hB.size
  have HB := Aside0.mk hB
  clear hB
  have H : (codec_Reader_scan.l0 k a1 0 0 s0_0 s0_1 s0_2) = some (r1, r2, r3, r4, r5, r6) := h
  clear h
  have H' := Aside0.mk H
  clear H
  go_enter Try.func54, Try.ntmps54
  go_wp2
  go_loopg [1, 7, 8] k (fun kq v1 v7 v8 w' => ∃ (x1_1 : Int) (x7_1 : Int) (x8_1 : Int), v1 = .int .i64 x1_1 ∧ v7 = .int .u64 x7_1 ∧ v8 = .int .i64 x8_1 ∧ Aside0 (codec_Reader_scan.l0 kq x1_1 x7_1 x8_1 s0_0 s0_1 s0_2 = some (r1, r2, r3, r4, r5, r6)) ∧ Aside0 (kq ≤ k) ∧ Aside0 (IsS89 w0 w' g s0_0 s0_1 s0_2) ∧ Aside0 (KeepBut w w' g none) ∧ Aside0 (Below w0.heap.size w0 w'))
  case atStart => exact ⟨(a1), (0), (0), (by first | rfl | (simp; done) | (simp [*]; done)), (by first | rfl | (simp; done) | (simp [*]; done)), (by first | rfl | (simp; done) | (simp [*]; done)), H', ⟨Nat.le_refl _⟩, ⟨by repeat (first | (with_reducible first | exact HI0.out | apply IsS89.alloc | apply IsS89.drewN | apply IsS89.drew | apply IsS89.set_0 | apply IsS89.set_1 | apply IsS89.set_2) | exact HI0.out)⟩, ⟨by repeat (first | (with_reducible first | exact HK.out | apply KeepBut.set_ | apply keep_drewN | apply keep_drew | apply keep_alloc) | exact HK.out)⟩, ⟨by repeat (first | (with_reducible first | exact HB.out | apply below_alloc | apply pw_below_drewN | apply below_drew1 | refine below_set ?_ (IsS89.ge HI0.out)) | exact HB.out)⟩⟩
  case round =>
    clear H'
    try clear p2
    obtain ⟨x1_1, x7_1, x8_1, rfl, rfl, rfl, HA, HK1, HI0, HK, HB⟩ := hrel
    cases gk with
    | zero => exact absurd HA.out (by simp [codec_Reader_scan.l0])
    | succ k1 =>
      have H := HA.out
      clear HA
      simp only [codec_Reader_scan.l0] at H
      have HC3 := Aside0.mk H
      clear H
      go_upto_region 3 with (fail)
      go_cut [20] (fun v20 wc => ∃ (kq : Nat) (x20_2 : Bool), v20 = .bool x20_2 ∧ Aside0 (codec_Reader_scan.j1 kq x1_1 x7_1 x8_1 x20_2 s0_0 s0_1 s0_2 = some (r1, r2, r3, r4, r5, r6)) ∧ Aside0 (kq ≤ k1) ∧ Aside0 (IsS89 w0 wc g s0_0 s0_1 s0_2) ∧ Aside0 (KeepBut w wc g none) ∧ Aside0 (Below w0.heap.size w0 wc))
      case first =>
        have H := HC3.out
        clear HC3
        by_cases c4 : x1_1 < (s0_0.size : Int)
        · rw [if_pos c4] at H
          have c4b0 : decide (x1_1 < (s0_0.size : Int)) = true := decide_eq_true c4
          clear c4
          (first | rw [c4b0] | (simp only [i64_w, i32_w]; rw [c4b0]) | skip)
          have H' := Aside0.mk H
          clear H
          obtain ⟨HGz5, hgz5⟩ := HI0.out
          have hcz5_0 := cellS89_0 HGz5
          have hcz5_1 := cellS89_1 HGz5
          have hcz5_2 := cellS89_2 HGz5
          have hfz5_0 := blk_frozen HGz5 0
          have hfz5_1 := blk_frozen HGz5 1
          have hfz5_2 := blk_frozen HGz5 2
          clear HGz5 hgz5
          go_wp2
          go_meet
          case rel => exact ⟨_, (decide (x8_1 < 64)), (by first | rfl | (simp; done) | (simp [*]; done)), H', ⟨by have := HK1.out; first | omega | exact Nat.le_refl _⟩, ⟨by repeat (first | (with_reducible first | exact HI0.out | apply IsS89.alloc | apply IsS89.drewN | apply IsS89.drew | apply IsS89.set_0 | apply IsS89.set_1 | apply IsS89.set_2) | exact HI0.out)⟩, ⟨by repeat (first | (with_reducible first | exact HK.out | apply KeepBut.set_ | apply keep_drewN | apply keep_drew | apply keep_alloc) | exact HK.out)⟩, ⟨by repeat (first | (with_reducible first | exact HB.out | apply below_alloc | apply pw_below_drewN | apply below_drew1 | refine below_set ?_ (IsS89.ge HI0.out)) | exact HB.out)⟩⟩
        · rw [if_neg c4] at H
          have c4b0 : decide (x1_1 < (s0_0.size : Int)) = false := decide_eq_false c4
          clear c4
          (first | rw [c4b0] | (simp only [i64_w, i32_w]; rw [c4b0]) | skip)
          have H' := Aside0.mk H
          clear H
          obtain ⟨HGz6, hgz6⟩ := HI0.out
          have hcz6_0 := cellS89_0 HGz6
          have hcz6_1 := cellS89_1 HGz6
          have hcz6_2 := cellS89_2 HGz6
          have hfz6_0 := blk_frozen HGz6 0
          have hfz6_1 := blk_frozen HGz6 1
          have hfz6_2 := blk_frozen HGz6 2
          clear HGz6 hgz6
          go_wp2
          go_meet
          case rel => exact ⟨_, (false), (by first | rfl | (simp; done) | (simp [*]; done)), H', ⟨by have := HK1.out; first | omega | exact Nat.le_refl _⟩, ⟨by repeat (first | (with_reducible first | exact HI0.out | apply IsS89.alloc | apply IsS89.drewN | apply IsS89.drew | apply IsS89.set_0 | apply IsS89.set_1 | apply IsS89.set_2) | exact HI0.out)⟩, ⟨by repeat (first | (with_reducible first | exact HK.out | apply KeepBut.set_ | apply keep_drewN | apply keep_drew | apply keep_alloc) | exact HK.out)⟩, ⟨by repeat (first | (with_reducible first | exact HB.out | apply below_alloc | apply pw_below_drewN | apply below_drew1 | refine below_set ?_ (IsS89.ge HI0.out)) | exact HB.out)⟩⟩
      case rest =>
        clear HC3
        try clear p2
        try clear c4
        try clear c4b0
        try clear c5
        try clear hcz5_0
        try clear hcz5_1
        try clear hcz5_2
        try clear hcz6_0
        try clear hcz6_1
        try clear hcz6_2
        try clear hfz5_0
        try clear hfz5_1
        try clear hfz5_2
        try clear hfz6_0
        try clear hfz6_1
        try clear hfz6_2
        try clear p2
        obtain ⟨kq, x20_2, rfl, HA, HJ2, HI0, HK, HB⟩ := hcut
        cases kq with
        | zero => exact absurd HA.out (by simp [codec_Reader_scan.j1])
        | succ kj2 =>
          have H := HA.out
          clear HA
          simp only [codec_Reader_scan.j1] at H
          by_cases c7 : x20_2 = true
          · subst c7
            have H1 : (if 0 ≤ x1_1 then (if x1_1 < (s0_0.size : Int) then (if x8_1 = 63 then (codec_Reader_scan.j2 kj2 (wrap64 (x1_1 + 1)) x7_1 x8_1 (bt s0_0 x1_1) (decide ((bt s0_0 x1_1) > 1)) s0_0 s0_1 s0_2) else (codec_Reader_scan.j2 kj2 (wrap64 (x1_1 + 1)) x7_1 x8_1 (bt s0_0 x1_1) false s0_0 s0_1 s0_2)) else (none)) else (none)) = some (r1, r2, r3, r4, r5, r6) := by rw [if_pos rfl] at H; exact H
            clear H
            have H := H1
            clear H1
            by_cases c8 : 0 ≤ x1_1
            · rw [if_pos c8] at H
              have c8b0 : decide (0 ≤ x1_1) = true := decide_eq_true c8
              clear c8
              by_cases c9 : x1_1 < (s0_0.size : Int)
              · rw [if_pos c9] at H
                have c9b0 : decide (x1_1 < (s0_0.size : Int)) = true := decide_eq_true c9
                clear c9
                have HC11 := Aside0.mk H
                clear H
                obtain ⟨HGz12, hgz12⟩ := HI0.out
                have hcz12_0 := cellS89_0 HGz12
                have hcz12_1 := cellS89_1 HGz12
                have hcz12_2 := cellS89_2 HGz12
                have hfz12_0 := blk_frozen HGz12 0
                have hfz12_1 := blk_frozen HGz12 1
                have hfz12_2 := blk_frozen HGz12 2
                clear HGz12 hgz12
                have p10 : 0 ≤ (x1_1 : Int) := of_decide_eq_true (by first | (with_reducible assumption) | assumption)
                have q10 : x1_1 < (s0_0.size : Int) := of_decide_eq_true (by first | (with_reducible assumption) | assumption)
                have hx10 := bt_at s0_0 x1_1
                replace p10 := eq_true p10
                replace q10 := eq_true q10
                go_upto_region 7 with (fail)
                go_cut [36] (fun v36 wc => ∃ (kq : Nat) (x36_10 : Bool), v36 = .bool x36_10 ∧ Aside0 (codec_Reader_scan.j2 kq (wrap64 (x1_1 + 1)) x7_1 x8_1 (bt s0_0 x1_1) x36_10 s0_0 s0_1 s0_2 = some (r1, r2, r3, r4, r5, r6)) ∧ Aside0 (kq ≤ kj2) ∧ Aside0 (IsS89 w0 wc g s0_0 s0_1 s0_2) ∧ Aside0 (KeepBut w wc g none) ∧ Aside0 (Below w0.heap.size w0 wc))
                case first =>
                  have H := HC11.out
                  clear HC11
                  by_cases c13 : x8_1 = 63
                  · rw [if_pos c13] at H
                    have c13b0 : (x8_1 == 63) = true := beq_iff_eq.mpr c13
                    have c13b1 : (x8_1 != 63) = false := bne_eq_false_iff_eq.mpr c13
                    clear c13
                    (first | rw [c13b0] | (simp only [i64_w, i32_w]; rw [c13b0]) | skip)
                    have H' := Aside0.mk H
                    clear H
                    go_wp2
                    go_meet
                    case rel => exact ⟨_, (decide ((bt s0_0 x1_1) > 1)), (by first | rfl | (simp; done) | (simp [*]; done)), H', ⟨by have := HK1.out; have := HJ2.out; first | omega | exact Nat.le_refl _⟩, ⟨by repeat (first | (with_reducible first | exact HI0.out | apply IsS89.alloc | apply IsS89.drewN | apply IsS89.drew | apply IsS89.set_0 | apply IsS89.set_1 | apply IsS89.set_2) | exact HI0.out)⟩, ⟨by repeat (first | (with_reducible first | exact HK.out | apply KeepBut.set_ | apply keep_drewN | apply keep_drew | apply keep_alloc) | exact HK.out)⟩, ⟨by repeat (first | (with_reducible first | exact HB.out | apply below_alloc | apply pw_below_drewN | apply below_drew1 | refine below_set ?_ (IsS89.ge HI0.out)) | exact HB.out)⟩⟩
                  · rw [if_neg c13] at H
                    have c13b0 : (x8_1 == 63) = false := beq_eq_false_iff_ne.mpr c13
                    have c13b1 : (x8_1 != 63) = true := bne_iff_ne.mpr c13
                    (first | rw [c13b0] | (simp only [i64_w, i32_w]; rw [c13b0]) | skip)
                    have H' := Aside0.mk H
                    clear H
                    go_wp2
                    go_meet
                    case rel => exact ⟨_, (false), (by first | rfl | (simp; done) | (simp [*]; done)), H', ⟨by have := HK1.out; have := HJ2.out; first | omega | exact Nat.le_refl _⟩, ⟨by repeat (first | (with_reducible first | exact HI0.out | apply IsS89.alloc | apply IsS89.drewN | apply IsS89.drew | apply IsS89.set_0 | apply IsS89.set_1 | apply IsS89.set_2) | exact HI0.out)⟩, ⟨by repeat (first | (with_reducible first | exact HK.out | apply KeepBut.set_ | apply keep_drewN | apply keep_drew | apply keep_alloc) | exact HK.out)⟩, ⟨by repeat (first | (with_reducible first | exact HB.out | apply below_alloc | apply pw_below_drewN | apply below_drew1 | refine below_set ?_ (IsS89.ge HI0.out)) | exact HB.out)⟩⟩
                case rest =>
                  clear HC11
                  try clear c1
                  try clear p1
                  try clear q1
                  try clear hx1
                  try clear p2
                  try clear c4
                  try clear c4b0
                  try clear c5
                  try clear p6
                  try clear c7
                  try clear c8
                  try clear c8b0
                  try clear c9
                  try clear c9b0
                  try clear p10
                  try clear q10
                  try clear hx10
                  try clear c13
                  try clear c13b0
                  try clear c13b1
                  try clear hcz12_0
                  try clear hcz12_1
                  try clear hcz12_2
                  try clear hcz5_0
                  try clear hcz5_1
                  try clear hcz5_2
                  try clear hcz6_0
                  try clear hcz6_1
                  try clear hcz6_2
                  try clear hfz12_0
                  try clear hfz12_1
                  try clear hfz12_2
                  try clear hfz5_0
                  try clear hfz5_1
                  try clear hfz5_2
                  try clear hfz6_0
                  try clear hfz6_1
                  try clear hfz6_2
                  try clear p10
                  try clear p2
                  try clear q10
                  obtain ⟨kq, x36_10, rfl, HA, HJ10, HI0, HK, HB⟩ := hcut
                  cases kq with
                  | zero => exact absurd HA.out (by simp [codec_Reader_scan.j2])
                  | succ kj10 =>
                    have H := HA.out
                    clear HA
                    simp only [codec_Reader_scan.j2] at H
                    by_cases c14 : x36_10 = true
                    · subst c14
                      have H1 : (some (0, 0, false, s0_0, s0_1, s0_2)) = some (r1, r2, r3, r4, r5, r6) := by rw [if_pos rfl] at H; exact H
                      clear H
                      have H := H1
                      clear H1
                      simp only [Option.some.injEq, Prod.mk.injEq] at H
                      obtain ⟨rfl, rfl, rfl, rfl, rfl, rfl⟩ := H
                      go_wp2
                      go_ret3
                      exact ⟨by first | rfl | (simp [errW_none, errW_some] <;> rfl) | (simp [*, errW_none, errW_some] <;> rfl), by repeat (first | (with_reducible first | exact HI0.out | apply IsS89.alloc | apply IsS89.drewN | apply IsS89.drew | apply IsS89.set_0 | apply IsS89.set_1 | apply IsS89.set_2) | exact HI0.out), by repeat (first | (with_reducible first | exact HB.out | apply below_alloc | apply pw_below_drewN | apply below_drew1 | refine below_set ?_ (IsS89.ge HI0.out)) | exact HB.out), by repeat (first | (with_reducible first | exact HK.out | apply KeepBut.set_ | apply keep_drewN | apply keep_drew | apply keep_alloc) | exact HK.out)⟩
                    · replace c14 := Bool.eq_false_iff.mpr c14
                      subst c14
                      have H1 : (if 0 ≤ x8_1 then (if (bt s0_0 x1_1) < 128 then (if (bt s0_0 x1_1) > 0 then (some (Go.bits .or .u64 x7_1 (shl .u64 (IntKind.u64.wrap (Go.bits .and .u8 (bt s0_0 x1_1) 127)) x8_1), (wrap64 (x1_1 + 1)), true, s0_0, s0_1, s0_2)) else (some (Go.bits .or .u64 x7_1 (shl .u64 (IntKind.u64.wrap (Go.bits .and .u8 (bt s0_0 x1_1) 127)) x8_1), (wrap64 (x1_1 + 1)), (x8_1 == 0), s0_0, s0_1, s0_2))) else (codec_Reader_scan.l0 kj10 (wrap64 (x1_1 + 1)) (Go.bits .or .u64 x7_1 (shl .u64 (IntKind.u64.wrap (Go.bits .and .u8 (bt s0_0 x1_1) 127)) x8_1)) (wrap64 (x8_1 + 7)) s0_0 s0_1 s0_2)) else (none)) = some (r1, r2, r3, r4, r5, r6) := by rw [if_neg (show ¬ (false = true) by decide)] at H; exact H
                      clear H
                      have H := H1
                      clear H1
                      by_cases c15 : 0 ≤ x8_1
                      · rw [if_pos c15] at H
                        have c15b0 := eq_true c15
                        have c15b1 : decide (0 ≤ x8_1) = true := decide_eq_true c15
                        clear c15
                        obtain ⟨ji16, hji16⟩ : ∃ j_ : Int, (shl .u64 (IntKind.u64.wrap (Go.bits .and .u8 (bt s0_0 x1_1) 127)) x8_1) = j_ := ⟨_, rfl⟩
                        replace H : (if (bt s0_0 x1_1) < 128 then (if (bt s0_0 x1_1) > 0 then (some (Go.bits .or .u64 x7_1 (ji16), (wrap64 (x1_1 + 1)), true, s0_0, s0_1, s0_2)) else (some (Go.bits .or .u64 x7_1 (ji16), (wrap64 (x1_1 + 1)), (x8_1 == 0), s0_0, s0_1, s0_2))) else (codec_Reader_scan.l0 kj10 (wrap64 (x1_1 + 1)) (Go.bits .or .u64 x7_1 (ji16)) (wrap64 (x8_1 + 7)) s0_0 s0_1 s0_2)) = some (r1, r2, r3, r4, r5, r6) := by first | (rw [hji16] at H; exact H) | (simp only [hji16] at H ⊢; exact H)
                        have hji16_ : (IntKind.u64.wrap ((IntKind.u64.wrap (Go.bits .and .u8 (bt s0_0 x1_1) 127)) * 2 ^ min x8_1.toNat 64)) = ji16 := hji16
                        have hji16z : x8_1 ≤ 64 → (IntKind.u64.wrap ((IntKind.u64.wrap (Go.bits .and .u8 (bt s0_0 x1_1) 127)) * 2 ^ x8_1.toNat)) = ji16 := shl_small hji16
                        by_cases c17 : (bt s0_0 x1_1) < 128
                        · rw [if_pos c17] at H
                          have c17b0 : decide ((bt s0_0 x1_1) < 128) = true := decide_eq_true c17
                          clear c17
                          by_cases c18 : (bt s0_0 x1_1) > 0
                          · rw [if_pos c18] at H
                            have c18b0 : decide (0 < (bt s0_0 x1_1)) = true := decide_eq_true c18
                            clear c18
                            simp only [Option.some.injEq, Prod.mk.injEq] at H
                            obtain ⟨rfl, rfl, rfl, rfl, rfl, rfl⟩ := H
                            go_wp2
                            go_ret3
                            exact ⟨by first | rfl | (simp [errW_none, errW_some] <;> rfl) | (simp only [← hji16]; first | rfl | (simp [errW_none, errW_some] <;> rfl)) | (simp [*, errW_none, errW_some] <;> rfl), by repeat (first | (with_reducible first | exact HI0.out | apply IsS89.alloc | apply IsS89.drewN | apply IsS89.drew | apply IsS89.set_0 | apply IsS89.set_1 | apply IsS89.set_2) | exact HI0.out), by repeat (first | (with_reducible first | exact HB.out | apply below_alloc | apply pw_below_drewN | apply below_drew1 | refine below_set ?_ (IsS89.ge HI0.out)) | exact HB.out), by repeat (first | (with_reducible first | exact HK.out | apply KeepBut.set_ | apply keep_drewN | apply keep_drew | apply keep_alloc) | exact HK.out)⟩
                          · rw [if_neg c18] at H
                            have c18b0 : decide (0 < (bt s0_0 x1_1)) = false := decide_eq_false c18
                            clear c18
                            simp only [Option.some.injEq, Prod.mk.injEq] at H
                            obtain ⟨rfl, rfl, rfl, rfl, rfl, rfl⟩ := H
                            go_wp2
                            go_ret3
                            exact ⟨by first | rfl | (simp [errW_none, errW_some] <;> rfl) | (simp only [← hji16]; first | rfl | (simp [errW_none, errW_some] <;> rfl)) | (simp [*, errW_none, errW_some] <;> rfl), by repeat (first | (with_reducible first | exact HI0.out | apply IsS89.alloc | apply IsS89.drewN | apply IsS89.drew | apply IsS89.set_0 | apply IsS89.set_1 | apply IsS89.set_2) | exact HI0.out), by repeat (first | (with_reducible first | exact HB.out | apply below_alloc | apply pw_below_drewN | apply below_drew1 | refine below_set ?_ (IsS89.ge HI0.out)) | exact HB.out), by repeat (first | (with_reducible first | exact HK.out | apply KeepBut.set_ | apply keep_drewN | apply keep_drew | apply keep_alloc) | exact HK.out)⟩
                        · rw [if_neg c17] at H
                          have c17b0 : decide ((bt s0_0 x1_1) < 128) = false := decide_eq_false c17
                          clear c17
                          have H' := Aside0.mk H
                          clear H
                          go_wp2
                          go_roundg kj10
                          case measure => have := HK1.out; have := HJ2.out; have := HJ10.out; omega
                          case rel => exact ⟨((wrap64 (x1_1 + 1))), (Go.bits .or .u64 x7_1 (ji16)), (wrap64 (x8_1 + 7)), (by first | rfl | (simp; done) | (simp [*]; done)), (by first | rfl | (simp; done) | (simp only [← hji16] <;> (first | rfl | simp)) | (simp [*]; done)), (by first | rfl | (simp; done) | (simp [*]; done)), H', ⟨by have := HK1.out; have := HJ2.out; have := HJ10.out; omega⟩, ⟨by repeat (first | (with_reducible first | exact HI0.out | apply IsS89.alloc | apply IsS89.drewN | apply IsS89.drew | apply IsS89.set_0 | apply IsS89.set_1 | apply IsS89.set_2) | exact HI0.out)⟩, ⟨by repeat (first | (with_reducible first | exact HK.out | apply KeepBut.set_ | apply keep_drewN | apply keep_drew | apply keep_alloc) | exact HK.out)⟩, ⟨by repeat (first | (with_reducible first | exact HB.out | apply below_alloc | apply pw_below_drewN | apply below_drew1 | refine below_set ?_ (IsS89.ge HI0.out)) | exact HB.out)⟩⟩
                      · rw [if_neg c15] at H
                        exact absurd H (by simp)
              · rw [if_neg c9] at H
                exact absurd H (by simp)
            · rw [if_neg c8] at H
              exact absurd H (by simp)
          · replace c7 := Bool.eq_false_iff.mpr c7
            subst c7
            have H1 : (some (0, 0, false, s0_0, s0_1, s0_2)) = some (r1, r2, r3, r4, r5, r6) := by rw [if_neg (show ¬ (false = true) by decide)] at H; exact H
            clear H
            have H := H1
            clear H1
            simp only [Option.some.injEq, Prod.mk.injEq] at H
            obtain ⟨rfl, rfl, rfl, rfl, rfl, rfl⟩ := H
            go_wp2
            go_ret3
            exact ⟨by first | rfl | (simp [errW_none, errW_some] <;> rfl) | (simp [*, errW_none, errW_some] <;> rfl), by repeat (first | (with_reducible first | exact HI0.out | apply IsS89.alloc | apply IsS89.drewN | apply IsS89.drew | apply IsS89.set_0 | apply IsS89.set_1 | apply IsS89.set_2) | exact HI0.out), by repeat (first | (with_reducible first | exact HB.out | apply below_alloc | apply pw_below_drewN | apply below_drew1 | refine below_set ?_ (IsS89.ge HI0.out)) | exact HB.out), by repeat (first | (with_reducible first | exact HK.out | apply KeepBut.set_ | apply keep_drewN | apply keep_drew | apply keep_alloc) | exact HK.out)⟩

/-! ### codec_Reader_size: function 52 -/
def codec_Reader_size.f (k : Nat) (s0_0 : ByteArray) (s0_1 : Int) (s0_2 : Int) (a1 : Int) : Option (Int × Int × Bool × ByteArray × Int × Int) := (codec_Reader_scan.f k s0_0 s0_1 s0_2 a1).bind fun bt111 => (if bt111.2.2.1 = true then (some (wrap64 (bt111.1), bt111.2.1, ((bt111.1 / 9223372036854775808) == 0), bt111.2.2.2.1, bt111.2.2.2.2.1, bt111.2.2.2.2.2)) else (some (wrap64 (bt111.1), bt111.2.1, false, bt111.2.2.2.1, bt111.2.2.2.2.1, bt111.2.2.2.2.2)))
theorem codec_Reader_size.mono : ∀ a0 a1 a2 a3 k, LeO (codec_Reader_size.f k a0 a1 a2 a3) (codec_Reader_size.f (k + 1) a0 a1 a2 a3) := by
  intro a0 a1 a2 a3 k
  unfold codec_Reader_size.f
  repeat' first
      | (with_reducible exact codec_Reader_scan.mono _ _ _ _ _)
      | (with_reducible exact LeO.refl _)
      | (with_reducible exact LeO.none _)
      | (with_reducible refine LeO.ite ?_ ?_)
      | (with_reducible refine LeO.bind ?_ (fun _ => ?_))
      | exact codec_Reader_scan.mono _ _ _ _ _
      | exact LeO.none _
      | refine LeO.ite ?_ ?_
      | refine LeO.bind ?_ (fun _ => ?_)
set_option maxHeartbeats 8000000 in
set_option maxRecDepth 100000 in
theorem codec_Reader_size.calls (k : Nat) (g : Nat) (s0_0 : ByteArray) (s0_1 : Int) (s0_2 : Int) (a1 : Int) (r1 : Int) (r2 : Int) (r3 : Bool) (r4 : ByteArray) (r5 : Int) (r6 : Int) (w0 w : World) (hI : IsS89 w0 w g s0_0 s0_1 s0_2) (hB : Below w0.heap.size w0 w) (h : codec_Reader_size.f k s0_0 s0_1 s0_2 a1 = some (r1, r2, r3, r4, r5, r6)) :
    Calls Try.prog 52 #[.pointer (some ⟨g, 0, none⟩), .int .i64 a1] w fun e w' => e = .returned (.tuple #[.int .i64 r1, .int .i64 r2, .bool r3]) ∧ IsS89 w0 w' g r4 r5 r6 ∧ Below w0.heap.size w0 w' ∧ KeepBut w w' g none := by
  have HI0 := Aside0.mk hI
  have HK := Aside0.mk (KeepBut.refl w g none)
  have HL := Aside0.mk hB.size
  clear hI
  have HW0 := Aside0.mk hB.size
  have HB := Aside0.mk hB
  clear hB
  have H : ((codec_Reader_scan.f k s0_0 s0_1 s0_2 a1).bind fun bt111 => (if bt111.2.2.1 = true then (some (wrap64 (bt111.1), bt111.2.1, ((bt111.1 / 9223372036854775808) == 0), bt111.2.2.2.1, bt111.2.2.2.2.1, bt111.2.2.2.2.2)) else (some (wrap64 (bt111.1), bt111.2.1, false, bt111.2.2.2.1, bt111.2.2.2.2.1, bt111.2.2.2.2.2)))) = some (r1, r2, r3, r4, r5, r6) := h
  clear h
  replace H := Option.bind_eq_some_iff.mp H
  obtain ⟨⟨t111, t112, t113, t114, t115, t116⟩, A30, H⟩ := H
  replace H : (if t113 = true then (some (wrap64 (t111), t112, ((t111 / 9223372036854775808) == 0), t114, t115, t116)) else (some (wrap64 (t111), t112, false, t114, t115, t116))) = some (r1, r2, r3, r4, r5, r6) := H
  have A3 := Aside0.mk A30
  clear A30
  by_cases c4 : t113 = true
  · subst c4
    have H1 : (some (wrap64 (t111), t112, ((t111 / 9223372036854775808) == 0), t114, t115, t116)) = some (r1, r2, r3, r4, r5, r6) := by rw [if_pos rfl] at H; exact H
    clear H
    have H := H1
    clear H1
    simp only [Option.some.injEq, Prod.mk.injEq] at H
    obtain ⟨rfl, rfl, rfl, rfl, rfl, rfl⟩ := H
    go_enter Try.func52, Try.ntmps52
    go_wp2_with (first | ((with_reducible refine gate_callee (f := 54) rfl ?_); refine goesL_ (some 13) rfl rfl Try.func54 (by kernel_rfl) rfl #[.pointer (some ⟨g, 0, none⟩), .int .i64 a1] rfl (by (try simp only [List.map_toArray, List.map_cons, List.map_nil]); first | done | rfl | (simp only [List.length_drop, List.length_take]; rfl)) ?_; (with_reducible refine (codec_Reader_scan.calls k g s0_0 s0_1 s0_2 a1 t111 t112 true t114 t115 t116 w0 _ ?side1 ?side2 A3.out).mono ?_); (case side1 => repeat (first | (with_reducible first | exact HI0.out | apply IsS89.alloc | apply IsS89.drewN | apply IsS89.drew | apply IsS89.set_0 | apply IsS89.set_1 | apply IsS89.set_2) | exact HI0.out)); (case side2 => repeat (first | (with_reducible first | exact HB.out | apply below_alloc | apply pw_below_drewN | apply below_drew1 | refine below_set ?_ (IsS89.ge HI0.out)) | exact HB.out)); rintro e w5 ⟨rfl, hi, hb, hk⟩; refine ⟨_, rfl, ?_⟩; have n0_ := Aside0.mk (KeepBut.trans (by repeat (first | (with_reducible first | exact HK.out | apply KeepBut.set_ | apply keep_drewN | apply keep_drew | apply keep_alloc) | exact HK.out)) hk (.inl rfl)); have n1_ := Aside0.mk (hb); have n2_ := Aside0.mk (hi); clear HK; clear HB; clear HI0; have HK := n0_; have HB := n1_; have HI0 := n2_; clear n0_ n1_ n2_; (try clear hb); (try clear hb2); (try clear hk); (try clear hi)))
    go_ret3
    exact ⟨by first | rfl | (simp [errW_none, errW_some] <;> rfl) | (simp [*, errW_none, errW_some] <;> rfl), by repeat (first | (with_reducible first | exact HI0.out | apply IsS89.alloc | apply IsS89.drewN | apply IsS89.drew | apply IsS89.set_0 | apply IsS89.set_1 | apply IsS89.set_2) | exact HI0.out), by repeat (first | (with_reducible first | exact HB.out | apply below_alloc | apply pw_below_drewN | apply below_drew1 | refine below_set ?_ (IsS89.ge HI0.out)) | exact HB.out), by repeat (first | (with_reducible first | exact HK.out | apply KeepBut.set_ | apply keep_drewN | apply keep_drew | apply keep_alloc) | exact HK.out)⟩
  · replace c4 := Bool.eq_false_iff.mpr c4
    subst c4
    have H1 : (some (wrap64 (t111), t112, false, t114, t115, t116)) = some (r1, r2, r3, r4, r5, r6) := by rw [if_neg (show ¬ (false = true) by decide)] at H; exact H
    clear H
    have H := H1
    clear H1
    simp only [Option.some.injEq, Prod.mk.injEq] at H
    obtain ⟨rfl, rfl, rfl, rfl, rfl, rfl⟩ := H
    go_enter Try.func52, Try.ntmps52
    go_wp2_with (first | ((with_reducible refine gate_callee (f := 54) rfl ?_); refine goesL_ (some 13) rfl rfl Try.func54 (by kernel_rfl) rfl #[.pointer (some ⟨g, 0, none⟩), .int .i64 a1] rfl (by (try simp only [List.map_toArray, List.map_cons, List.map_nil]); first | done | rfl | (simp only [List.length_drop, List.length_take]; rfl)) ?_; (with_reducible refine (codec_Reader_scan.calls k g s0_0 s0_1 s0_2 a1 t111 t112 false t114 t115 t116 w0 _ ?side1 ?side2 A3.out).mono ?_); (case side1 => repeat (first | (with_reducible first | exact HI0.out | apply IsS89.alloc | apply IsS89.drewN | apply IsS89.drew | apply IsS89.set_0 | apply IsS89.set_1 | apply IsS89.set_2) | exact HI0.out)); (case side2 => repeat (first | (with_reducible first | exact HB.out | apply below_alloc | apply pw_below_drewN | apply below_drew1 | refine below_set ?_ (IsS89.ge HI0.out)) | exact HB.out)); rintro e w6 ⟨rfl, hi, hb, hk⟩; refine ⟨_, rfl, ?_⟩; have n0_ := Aside0.mk (KeepBut.trans (by repeat (first | (with_reducible first | exact HK.out | apply KeepBut.set_ | apply keep_drewN | apply keep_drew | apply keep_alloc) | exact HK.out)) hk (.inl rfl)); have n1_ := Aside0.mk (hb); have n2_ := Aside0.mk (hi); clear HK; clear HB; clear HI0; have HK := n0_; have HB := n1_; have HI0 := n2_; clear n0_ n1_ n2_; (try clear hb); (try clear hb2); (try clear hk); (try clear hi)))
    go_ret3
    exact ⟨by first | rfl | (simp [errW_none, errW_some] <;> rfl) | (simp [*, errW_none, errW_some] <;> rfl), by repeat (first | (with_reducible first | exact HI0.out | apply IsS89.alloc | apply IsS89.drewN | apply IsS89.drew | apply IsS89.set_0 | apply IsS89.set_1 | apply IsS89.set_2) | exact HI0.out), by repeat (first | (with_reducible first | exact HB.out | apply below_alloc | apply pw_below_drewN | apply below_drew1 | refine below_set ?_ (IsS89.ge HI0.out)) | exact HB.out), by repeat (first | (with_reducible first | exact HK.out | apply KeepBut.set_ | apply keep_drewN | apply keep_drew | apply keep_alloc) | exact HK.out)⟩

/-! ### codec_Reader_Uint: function 24, by hand -/
def codec_Reader_Uint.f (k : Nat) (s0_0 : ByteArray) (s0_1 : Int) (s0_2 : Int) : Option (Int × ByteArray × Int × Int) :=
  if s0_2 = 0 then (codec_Reader_size.f k s0_0 s0_1 s0_2 s0_1).bind fun b => if b.2.2.1 = true then some (b.1, b.2.2.2.1, b.2.1, b.2.2.2.2.2) else some (0, b.2.2.2.1, b.2.2.2.2.1, 9) else some (0, s0_0, s0_1, s0_2)
theorem codec_Reader_Uint.mono : ∀ a0 a1 a2 k, LeO (codec_Reader_Uint.f k a0 a1 a2) (codec_Reader_Uint.f (k + 1) a0 a1 a2) := by
  intro a0 a1 a2 k
  unfold codec_Reader_Uint.f
  repeat' first
      | (with_reducible exact codec_Reader_size.mono _ _ _ _ _)
      | (with_reducible exact LeO.refl _)
      | (with_reducible exact LeO.none _)
      | (with_reducible refine LeO.ite ?_ ?_)
      | (with_reducible refine LeO.bind ?_ (fun _ => ?_))
theorem codec_Reader_Uint.take (k : Nat) (g : Nat) (s0_0 : ByteArray) (s0_1 : Int) (s0_2 : Int) (r1 : Int) (r2 : ByteArray) (r3 : Int) (r4 : Int) (w0 w : World) (hI : IsS89 w0 w g s0_0 s0_1 s0_2) (hB : Below w0.heap.size w0 w) (h : codec_Reader_Uint.f k s0_0 s0_1 s0_2 = some (r1, r2, r3, r4)) :
    Calls Try.prog 51 #[.pointer (some ⟨g, 0, none⟩), .func (.func 52) #[.pointer (some ⟨g, 0, none⟩)] #[]] w fun e w' => e = .returned (.int .i64 r1) ∧ IsS89 w0 w' g r2 r3 r4 ∧ Below w0.heap.size w0 w' ∧ KeepBut w w' g none := by
  unfold codec_Reader_Uint.f at h
  have hc1 := cellS89_1 hI.1
  have hc2 := cellS89_2 hI.1
  have HI := Aside0.mk hI
  clear hI
  by_cases e : s0_2 = 0
  · subst e
    rw [if_pos rfl] at h
    obtain ⟨⟨n, nx, ok, q0, q1, q2⟩, h1, h2⟩ := Option.bind_eq_some_iff.mp h
    have h1 := Aside0.mk h1
    clear h
    cases ok
    · cases h2
      go_enter Try.func51, Try.ntmps51
      go_wp2_with (go_at_call 52; refine (codec_Reader_size.calls _ _ _ _ _ _ _ _ _ _ _ _ w0 _ HI.out hB h1.out).mono ?_; rintro e w1 ⟨rfl, hI1, hB1, hK1⟩; have hc3 := cellS89_2 hI1.1; have hf3 := blk_frozen hI1.1 2)
      go_ret
      exact ⟨rfl, hI1.set_2 _, below_set hB1 hI1.2, hK1.set_ _ _⟩
    · cases h2
      go_enter Try.func51, Try.ntmps51
      go_wp2_with (go_at_call 52; refine (codec_Reader_size.calls _ _ _ _ _ _ _ _ _ _ _ _ w0 _ HI.out hB h1.out).mono ?_; rintro e w1 ⟨rfl, hI1, hB1, hK1⟩; have hc3 := cellS89_1 hI1.1; have hf3 := blk_frozen hI1.1 1)
      go_ret
      exact ⟨rfl, hI1.set_1 _, below_set hB1 hI1.2, hK1.set_ _ _⟩
  · rw [if_neg e] at h
    cases h
    have e1 : (s0_2 != 0) = true := bne_iff_ne.mpr e
    clear e
    go_enter Try.func51, Try.ntmps51
    go_wp2
    go_ret
    exact ⟨rfl, HI.out, hB, KeepBut.refl _ _ _⟩
theorem codec_Reader_Uint.calls (k : Nat) (g : Nat) (s0_0 : ByteArray) (s0_1 : Int) (s0_2 : Int) (r1 : Int) (r2 : ByteArray) (r3 : Int) (r4 : Int) (w0 w : World) (hI : IsS89 w0 w g s0_0 s0_1 s0_2) (hB : Below w0.heap.size w0 w) (h : codec_Reader_Uint.f k s0_0 s0_1 s0_2 = some (r1, r2, r3, r4)) :
    Calls Try.prog 24 #[.pointer (some ⟨g, 0, none⟩)] w fun e w' => e = .returned (.int .i64 r1) ∧ IsS89 w0 w' g r2 r3 r4 ∧ Below w0.heap.size w0 w' ∧ KeepBut w w' g none := by
  have HI := Aside0.mk hI
  clear hI
  have h := Aside0.mk h
  go_enter Try.func24, Try.ntmps24
  go_wp2_with (go_at_call 51; refine (codec_Reader_Uint.take _ _ _ _ _ _ _ _ _ w0 _ HI.out hB h.out).mono ?_; rintro e w1 ⟨rfl, hI1, hB1, hK1⟩)
  go_ret
  exact ⟨rfl, hI1, hB1, hK1⟩

end Go.Proofs.Ytldkkboeaadbeaa.Pr
