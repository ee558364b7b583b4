/- Pr0, Pr1, Sha, ShaA, ShaB -/
import Derived.Test.YtldkkboeaadbeaaProg
import Derived.Below
import Derived.Deep.Draws
import Derived.Deep.AppendLies
import Derived.Maps.AppendAt
import Derived.OwnWalk
import Derived.Laws.BytesArg
import Derived.Laws.MakeOwn
import Derived.Laws.OwnMore
import Derived.Deep.OwnRows
import Derived.Tactics
import Derived.Lib.ConvBytes
import Derived.Laws.Slices
import Derived.WalkKit
import Derived.KernelRfl
import Derived.RowKit3
import Derived.Deep.LoopGhost
import Derived.Deep.QuietTactic
import Derived.BigQuiet
import Derived.WideLaws
import Derived.Deep.DeepCutAuto
import Derived.Deep.CutBlock
import Derived.Deep.RegionHeld3
import Derived.Laws.Rows
import Derived.Lib.AppendStr
import Derived.ArgAppend
import Derived.Laws.IdiomCopy
import Derived.OrdersHeld
import Derived.Laws.BitsLemmas
import Derived.RowKit
import Derived.Test.YtldkkboeaadbeaaMa0
import Derived.Test.YtldkkboeaadbeaaMa1
import Derived.Test.YtldkkboeaadbeaaWWords
import Derived.Test.YtldkkboeaadbeaaWLast
import Derived.Test.YtldkkboeaadbeaaWTab
import Derived.Test.YtldkkboeaadbeaaWFour
import Derived.Test.YtldkkboeaadbeaaWQPut
import Derived.Test.YtldkkboeaadbeaaWApart
import Derived.Test.YtldkkboeaadbeaaWArr
import Derived.Test.YtldkkboeaadbeaaWZeros
import Derived.Test.YtldkkboeaadbeaaWFoot
import Derived.Test.YtldkkboeaadbeaaWKept
import Derived.Test.YtldkkboeaadbeaaWShare
import Derived.Test.YtldkkboeaadbeaaWN
import Derived.Test.YtldkkboeaadbeaaWFootNe
import Derived.Test.YtldkkboeaadbeaaWAt
import Derived.Test.YtldkkboeaadbeaaWEqStruct
import Derived.Test.YtldkkboeaadbeaaWRepsOne
import Derived.Test.YtldkkboeaadbeaaWInv
import Derived.Test.YtldkkboeaadbeaaWInvWords
import Derived.Test.YtldkkboeaadbeaaWGuard
import Derived.Test.YtldkkboeaadbeaaWNEv
import Derived.Test.YtldkkboeaadbeaaWMore
import Derived.IntWalk
import Derived.Outline
import Derived.Laws.BitsAllLaws
section
-- By a program of this session.
namespace Go.Proofs.Ytldkkboeaadbeaa.Pr
open Go.RowKit Go.Proofs.YtldkkboeaadbeaaW.PrintWords Go.Proofs.YtldkkboeaadbeaaW.PrintLast Go.Proofs.YtldkkboeaadbeaaW.PrintMore
attribute [local go_sem] max2_int min2_int max_two min_two max_three min_three max_four min_four   -- for this text's walks alone
set_option linter.unusedVariables false
set_option linter.unusedSimpArgs false



def errW : Option Int → Value
  | none => .nilIface
  | some c => .iface 0 (.int .i64 c)
theorem errW_none : errW none = .nilIface := rfl
theorem errW_some (c : Int) : errW (some c) = .iface 0 (.int .i64 c) := rfl

theorem info5 : (Try.prog.info? 5).map (fun i => (i.zero, i.size, i.bytes)) = some (some (.int .u8 0), 1, 1) := by kernel_rfl
theorem info9 : (Try.prog.info? 9).map (fun i => (i.zero, i.size, i.bytes)) = some (some (.string ⟨#[]⟩), 1, 16) := by kernel_rfl
-- the values' own types
/-! #### struct type 51 -/
structure S51 where
  f0 : Int
  f1 : Int
def z51 : S51 := ⟨(0 : Int), (0 : Int)⟩
def k51 : Kd S51 := Kd.iso (Kd.pair (Kd.int .i64) (Kd.int .i64)) (fun x : S51 => (x.f0, x.f1))
theorem k51_open {w : World} {x : S51} {cs : List Value} (h : k51.K w x cs) : cs = [.int .i64 x.f0, .int .i64 x.f1] := by
  obtain ⟨_, _, rfl, rfl, rfl⟩ := h
  exact rfl
theorem k51_openM {w : World} {base : Nat} {ok : Nat → Prop} {x : S51} {cs : List Value} (h : k51.M w base ok x cs) : cs = [.int .i64 x.f0, .int .i64 x.f1] := by
  obtain ⟨_, _, rfl, rfl, rfl⟩ := h
  exact rfl
theorem k51_mk (w : World) (x : S51)  : k51.K w x [.int .i64 x.f0, .int .i64 x.f1] := ⟨[.int .i64 x.f0], [.int .i64 x.f1], rfl, rfl, rfl⟩
theorem k51_mkM (w : World) (base : Nat) (ok : Nat → Prop) (x : S51)  : k51.M w base ok x [.int .i64 x.f0, .int .i64 x.f1] := ⟨[.int .i64 x.f0], [.int .i64 x.f1], rfl, rfl, rfl⟩
def rd_T51 (xs : List S51) (i : Int) : S51 := xs.getD i.toNat z51
theorem at_T51 {w : World} {A : Option Addr} {n : Nat} {xs : List S51} (h : Kd.C k51 w A n xs) (i : Int) (h0 : 0 ≤ i) (h1 : i < n) : ∃ ad , A = some ad ∧ w.cell? (ad.add (i.toNat * 2)) = some (.int .i64 (rd_T51 xs i).f0) ∧ w.cell? ⟨(ad.add (i.toNat * 2)).block, (ad.add (i.toNat * 2)).off + 1, none⟩ = some (.int .i64 (rd_T51 xs i).f1) := by
  obtain ⟨ad, c, e, _, hK, hc0⟩ := Kd.C_get h z51 i h0 h1
  have hc : ∀ j u, c[j]? = some u → w.cell? (ad.add (i.toNat * 2 + j)) = some u := hc0
  obtain rfl := k51_open hK
  exact ⟨ad, e, hc 0 _ rfl, by rw [← add_field _ _ 1 (by omega)]; exact hc 1 _ rfl⟩

end Go.Proofs.Ytldkkboeaadbeaa.Pr
end
section
-- By a program of this session.
namespace Go.Proofs.Ytldkkboeaadbeaa.Pr
open Go.RowKit Go.Proofs.YtldkkboeaadbeaaW.PrintWords Go.Proofs.YtldkkboeaadbeaaW.PrintLast Go.Proofs.YtldkkboeaadbeaaW.PrintMore
attribute [local go_sem] max2_int min2_int max_two min_two max_three min_three max_four min_four   -- for this text's walks alone
set_option linter.unusedVariables false
set_option linter.unusedSimpArgs false

/-! ### codec_unsigned: function 47 -/
def codec_unsigned.l0 : Nat → Int → List Int → Option (ByteArray)
  | 0, _, _ => none
  | k + 1, x0, x3 => if x0 > 127 then (if x3.length < 140737488355328 then (codec_unsigned.l0 k (x0 / 128) (x3 ++ [Go.bits .or .u8 ((x0) % 256) 128])) else (none)) else (if x3.length < 140737488355328 then (some (strOfNums (x3 ++ [(x0) % 256]))) else (none))
def codec_unsigned.f (k : Nat) (a0 : Int) : Option (ByteArray) := codec_unsigned.l0 k a0 ([] : List Int)
theorem codec_unsigned.mono_l : ∀ k, (∀ y0 y1, LeO (codec_unsigned.l0 k y0 y1) (codec_unsigned.l0 (k + 1) y0 y1))
  | 0 => fun _ _ r h => by simp [codec_unsigned.l0] at h
  | k + 1 => by
    have ih0 := codec_unsigned.mono_l k
    · intro y0 y1
      unfold codec_unsigned.l0
      repeat' first
      | (with_reducible exact ih0 _ _)
      | (with_reducible exact LeO.refl _)
      | (with_reducible exact LeO.none _)
      | (with_reducible refine LeO.ite ?_ ?_)
      | (with_reducible refine LeO.bind ?_ (fun _ => ?_))
      | exact ih0 _ _
      | exact LeO.none _
      | refine LeO.ite ?_ ?_
      | refine LeO.bind ?_ (fun _ => ?_)
theorem codec_unsigned.mono : ∀ a0 k, LeO (codec_unsigned.f k a0) (codec_unsigned.f (k + 1) a0) := by
  intro a0 k
  have ih0 := codec_unsigned.mono_l k
  unfold codec_unsigned.f
  repeat' first
      | (with_reducible exact ih0 _ _)
      | (with_reducible exact LeO.refl _)
      | (with_reducible exact LeO.none _)
      | (with_reducible refine LeO.ite ?_ ?_)
      | (with_reducible refine LeO.bind ?_ (fun _ => ?_))
      | exact ih0 _ _
      | exact LeO.none _
      | refine LeO.ite ?_ ?_
      | refine LeO.bind ?_ (fun _ => ?_)
set_option maxHeartbeats 8000000 in
set_option maxRecDepth 100000 in
theorem codec_unsigned.calls (k : Nat) (a0 : Int) (r : ByteArray) (w : World) (h : codec_unsigned.f k a0 = some r) :
    Calls Try.prog 47 #[.int .u64 a0] w fun e w' => e = .returned (.string r) ∧ Below w.heap.size w w' := by
  have HB := Aside0.mk (Below.refl w.heap.size w)
  have H : (codec_unsigned.l0 k a0 ([] : List Int)) = some r := h
  clear h
  have H' := Aside0.mk H
  clear H
  go_enter Try.func47, Try.ntmps47
  go_wp2
  go_loopg [0, 3] k (fun kq v0 v3 w' => ∃ (x0_1 : Int) (x3_1 : List Int), v0 = .int .u64 x0_1 ∧ Aside0 (codec_unsigned.l0 kq x0_1 x3_1 = some r) ∧ Aside0 (kq ≤ k) ∧ Aside0 (Kd.R (Kd.int .u8) 5 w' w.heap.size (fun _ => True) v3 x3_1) ∧ Aside0 (Below w.heap.size w w'))
  case atStart => exact ⟨(a0), (([] : List Int)), (by first | rfl | (simp; done) | (simp [*]; done)), H', ⟨Nat.le_refl _⟩, ⟨by first | exact Kd.R_nil _ _ _ _ _ | exact Kd.N_nil _ _ _ _ _ | exact Kd.V_nil _ _ _ _ _ | exact Kd.Q_nil _ _ _ _ _ | exact Kd.S_nil _ _ _ _ _⟩, ⟨by repeat (first | (with_reducible first | exact HB.out | apply below_alloc | apply pw_below_drewN | apply below_drew1) | exact HB.out)⟩⟩
  case round =>
    clear H'
    obtain ⟨x0_1, x3_1, rfl, HA, HK1, HO_3, HB⟩ := hrel
    cases gk with
    | zero => exact absurd HA.out (by simp [codec_unsigned.l0])
    | succ k1 =>
      have H := HA.out
      clear HA
      simp only [codec_unsigned.l0] at H
      by_cases c2 : x0_1 > 127
      · rw [if_pos c2] at H
        have c2b0 : decide (127 < x0_1) = true := decide_eq_true c2
        clear c2
        by_cases c3 : x3_1.length < 140737488355328
        · rw [if_pos c3] at H
          have LMc3 := Aside0.mk c3
          clear c3
          obtain ⟨y101, hy101⟩ : ∃ y_ : List Int, y_ = (x3_1 ++ [Go.bits .or .u8 ((x0_1) % 256) 128]) := ⟨_, rfl⟩
          replace H : (codec_unsigned.l0 k1 (x0_1 / 128) y101) = some r := by first | (rw [hy101]; with_reducible exact H) | (have H2_ := (Option.bind_some _ _).symm.trans H; rw [hy101]; with_reducible exact H2_) | (have H2_ := (Option.bind_some _ _).symm.trans H; with_reducible exact H2_) | with_reducible exact H | (rw [hy101]; exact H) | exact H
          have Ny101 := Aside0.mk hy101
          clear hy101
          have H' := Aside0.mk H
          clear H
          go_wp2_with (first | ((with_reducible refine gate_builtin (b := .append) (xs := #[.tmp 6, .tmp 10]) rfl ?_); at_builtin; refine Kd.R_append (Kd.int .u8) (w0 := w) w.heap.size rfl (.tmp 6) (.tmp 10) 58 5 (.int .u8 0) 1 rfl Try.underlying58 info5 rfl (by decide) (by omega) u3 x3_1 (Go.bits .or .u8 ((x0_1) % 256) 128) [.int .u8 (Go.bits .or .u8 ((x0_1) % 256) 128)] (fun _ => True) (fun _ => False) rfl rfl ?aP (fun _ hk => hk.elim) ?aF ?aO ?aB ?aS ?aL ?_; (case aP => exact rfl); (case aB => exact (by repeat (first | (with_reducible first | exact HB.out | apply below_alloc | apply pw_below_drewN | apply below_drew1) | exact HB.out))); (case aF => exact (fun _ _ => trivial)); (case aO => exact (by (with_reducible repeat (first | apply Kd.R_alloc | apply Kd.R_drewN | apply Kd.R_drew)); exact HO_3.out)); (case aS => exact (below_size (by repeat (first | (with_reducible first | exact HB.out | apply below_alloc | apply pw_below_drewN | apply below_drew1) | exact HB.out)))); (case aL => have := LMc3.out; omega); intro v102 w4 ho hb hg hat; rw [← Ny101.out] at ho; have n0_ := Aside0.mk (hb); have n1_ := Aside0.mk (ho); clear HB; clear HO_3; have HB := n0_; have HO103 := n1_; clear n0_ n1_; clear ho hb hg hat))
          go_roundg k1
          case measure => have := HK1.out; omega
          case rel => exact ⟨(x0_1 / 128), (y101), (by first | rfl | (simp; done) | (simp [*]; done)), H', ⟨by have := HK1.out; omega⟩, ⟨by (with_reducible repeat (first | apply Kd.R_alloc | apply Kd.R_drewN | apply Kd.R_drew)); exact HO103.out⟩, ⟨by repeat (first | (with_reducible first | exact HB.out | apply below_alloc | apply pw_below_drewN | apply below_drew1) | exact HB.out)⟩⟩
        · rw [if_neg c3] at H
          exact absurd H (by simp)
      · rw [if_neg c2] at H
        have c2b0 : decide (127 < x0_1) = false := decide_eq_false c2
        clear c2
        by_cases c5 : x3_1.length < 140737488355328
        · rw [if_pos c5] at H
          have LMc5 := Aside0.mk c5
          clear c5
          obtain ⟨y104, hy104⟩ : ∃ y_ : List Int, y_ = (x3_1 ++ [(x0_1) % 256]) := ⟨_, rfl⟩
          replace H : (some (strOfNums y104)) = some r := by first | (rw [hy104]; with_reducible exact H) | (have H2_ := (Option.bind_some _ _).symm.trans H; rw [hy104]; with_reducible exact H2_) | (have H2_ := (Option.bind_some _ _).symm.trans H; with_reducible exact H2_) | with_reducible exact H | (rw [hy104]; exact H) | exact H
          have Ny104 := Aside0.mk hy104
          clear hy104
          obtain rfl := Option.some.inj H
          go_wp2_with (first | ((with_reducible refine gate_builtin (b := .append) (xs := #[.tmp 14, .tmp 17]) rfl ?_); at_builtin; refine Kd.R_append (Kd.int .u8) (w0 := w) w.heap.size rfl (.tmp 14) (.tmp 17) 58 5 (.int .u8 0) 1 rfl Try.underlying58 info5 rfl (by decide) (by omega) u3 x3_1 ((x0_1) % 256) [.int .u8 ((x0_1) % 256)] (fun _ => True) (fun _ => False) rfl rfl ?aP (fun _ hk => hk.elim) ?aF ?aO ?aB ?aS ?aL ?_; (case aP => exact rfl); (case aB => exact (by repeat (first | (with_reducible first | exact HB.out | apply below_alloc | apply pw_below_drewN | apply below_drew1) | exact HB.out))); (case aF => exact (fun _ _ => trivial)); (case aO => exact (by (with_reducible repeat (first | apply Kd.R_alloc | apply Kd.R_drewN | apply Kd.R_drew)); exact HO_3.out)); (case aS => exact (below_size (by repeat (first | (with_reducible first | exact HB.out | apply below_alloc | apply pw_below_drewN | apply below_drew1) | exact HB.out)))); (case aL => have := LMc5.out; omega); intro v105 w6 ho hb hg hat; rw [← Ny104.out] at ho; have n0_ := Aside0.mk (hb); have n1_ := Aside0.mk (ho); clear HB; clear HO_3; have HB := n0_; have HO106 := n1_; clear n0_ n1_; clear ho hb hg hat; have hcv7 := own_string (P := Try.prog) Try.underlying58 Try.underlying5 Try.underlying9 (Kd.own_of_R HO106.out)))
          go_ret
          exact ⟨by first | rfl | (simp [errW_none, errW_some] <;> rfl) | (simp [*, errW_none, errW_some] <;> rfl), by repeat (first | (with_reducible first | exact HB.out | apply below_alloc | apply pw_below_drewN | apply below_drew1) | exact HB.out)⟩
        · rw [if_neg c5] at H
          exact absurd H (by simp)

/-! ### codec_Uint: function 15 -/
def codec_Uint.f (k : Nat) (a0 : Int) : Option (ByteArray × Int) := if a0 < 0 then (some ((⟨#[]⟩ : ByteArray), 2)) else ((codec_unsigned.f k (IntKind.u64.wrap (a0))).bind fun t107 => (some (t107, 0)))
theorem codec_Uint.mono : ∀ a0 k, LeO (codec_Uint.f k a0) (codec_Uint.f (k + 1) a0) := by
  intro a0 k
  unfold codec_Uint.f
  repeat' first
      | (with_reducible exact codec_unsigned.mono _ _)
      | (with_reducible exact LeO.refl _)
      | (with_reducible exact LeO.none _)
      | (with_reducible refine LeO.ite ?_ ?_)
      | (with_reducible refine LeO.bind ?_ (fun _ => ?_))
      | exact codec_unsigned.mono _ _
      | exact LeO.none _
      | refine LeO.ite ?_ ?_
      | refine LeO.bind ?_ (fun _ => ?_)
set_option maxHeartbeats 8000000 in
set_option maxRecDepth 100000 in
theorem codec_Uint.calls (k : Nat) (a0 : Int) (r1 : ByteArray) (r2 : Int) (w : World) (h : codec_Uint.f k a0 = some (r1, r2)) :
    Calls Try.prog 15 #[.int .i64 a0] w fun e w' => e = .returned (.tuple #[.string r1, .int .i64 r2]) ∧ Below w.heap.size w w' := by
  have HB := Aside0.mk (Below.refl w.heap.size w)
  have H : (if a0 < 0 then (some ((⟨#[]⟩ : ByteArray), 2)) else ((codec_unsigned.f k (IntKind.u64.wrap (a0))).bind fun t107 => (some (t107, 0)))) = some (r1, r2) := h
  clear h
  by_cases c2 : a0 < 0
  · rw [if_pos c2] at H
    have c2b0 : decide (a0 < 0) = true := decide_eq_true c2
    clear c2
    simp only [Option.some.injEq, Prod.mk.injEq] at H
    obtain ⟨rfl, rfl⟩ := H
    go_enter Try.func15, Try.ntmps15
    go_wp2
    go_ret2
    exact ⟨by first | rfl | (simp [errW_none, errW_some] <;> rfl) | (simp [*, errW_none, errW_some] <;> rfl), by repeat (first | (with_reducible first | exact HB.out | apply below_alloc | apply pw_below_drewN | apply below_drew1) | exact HB.out)⟩
  · rw [if_neg c2] at H
    have c2b0 : decide (a0 < 0) = false := decide_eq_false c2
    clear c2
    replace H := Option.bind_eq_some_iff.mp H
    obtain ⟨t107, A30, H⟩ := H
    replace H : (some (t107, 0)) = some (r1, r2) := H
    have A3 := Aside0.mk A30
    clear A30
    simp only [Option.some.injEq, Prod.mk.injEq] at H
    obtain ⟨rfl, rfl⟩ := H
    go_enter Try.func15, Try.ntmps15
    go_wp2_with (first | ((with_reducible refine gate_callee (f := 47) rfl ?_); refine goesL_ (some 8) rfl rfl Try.func47 (by kernel_rfl) rfl #[.int .u64 (IntKind.u64.wrap (a0))] rfl (by (try simp only [List.map_toArray, List.map_cons, List.map_nil]); first | done | rfl | (simp only [List.length_drop, List.length_take]; rfl)) ?_; (with_reducible refine (codec_unsigned.calls k (IntKind.u64.wrap (a0)) t107 _ A3.out).mono ?_); rintro e w4 ⟨rfl, hb⟩; refine ⟨_, rfl, ?_⟩; have n0_ := Aside0.mk (below_step (by repeat (first | (with_reducible first | exact HB.out | apply below_alloc | apply pw_below_drewN | apply below_drew1) | exact HB.out)) hb); clear HB; have HB := n0_; clear n0_; (try clear hb); (try clear hb2); (try clear hk); (try clear hi)))
    go_ret2
    exact ⟨by first | rfl | (simp [errW_none, errW_some] <;> rfl) | (simp [*, errW_none, errW_some] <;> rfl), by repeat (first | (with_reducible first | exact HB.out | apply below_alloc | apply pw_below_drewN | apply below_drew1) | exact HB.out)⟩

/-! ### codec_Int: function 17 -/
def codec_Int.f (k : Nat) (a0 : Int) : Option (ByteArray) := if a0 < 0 then ((codec_unsigned.f k (Go.bits .or .u64 (IntKind.u64.wrap ((IntKind.u64.wrap (Go.bits .xor .i64 (-1) a0)) * 2)) 1)).bind fun t108 => (some t108)) else ((codec_unsigned.f k (IntKind.u64.wrap ((IntKind.u64.wrap (a0)) * 2))).bind fun t109 => (some t109))
theorem codec_Int.mono : ∀ a0 k, LeO (codec_Int.f k a0) (codec_Int.f (k + 1) a0) := by
  intro a0 k
  unfold codec_Int.f
  repeat' first
      | (with_reducible exact codec_unsigned.mono _ _)
      | (with_reducible exact LeO.refl _)
      | (with_reducible exact LeO.none _)
      | (with_reducible refine LeO.ite ?_ ?_)
      | (with_reducible refine LeO.bind ?_ (fun _ => ?_))
      | exact codec_unsigned.mono _ _
      | exact LeO.none _
      | refine LeO.ite ?_ ?_
      | refine LeO.bind ?_ (fun _ => ?_)
set_option maxHeartbeats 8000000 in
set_option maxRecDepth 100000 in
theorem codec_Int.calls (k : Nat) (a0 : Int) (r : ByteArray) (w : World) (h : codec_Int.f k a0 = some r) :
    Calls Try.prog 17 #[.int .i64 a0] w fun e w' => e = .returned (.string r) ∧ Below w.heap.size w w' := by
  have HB := Aside0.mk (Below.refl w.heap.size w)
  have H : (if a0 < 0 then ((codec_unsigned.f k (Go.bits .or .u64 (IntKind.u64.wrap ((IntKind.u64.wrap (Go.bits .xor .i64 (-1) a0)) * 2)) 1)).bind fun t108 => (some t108)) else ((codec_unsigned.f k (IntKind.u64.wrap ((IntKind.u64.wrap (a0)) * 2))).bind fun t109 => (some t109))) = some r := h
  clear h
  by_cases c2 : a0 < 0
  · rw [if_pos c2] at H
    have c2b0 : decide (a0 < 0) = true := decide_eq_true c2
    clear c2
    replace H := Option.bind_eq_some_iff.mp H
    obtain ⟨t108, A30, H⟩ := H
    replace H : (some t108) = some r := H
    have A3 := Aside0.mk A30
    clear A30
    obtain rfl := Option.some.inj H
    go_enter Try.func17, Try.ntmps17
    go_wp2_with (first | ((with_reducible refine gate_callee (f := 47) rfl ?_); refine goesL_ (some 10) rfl rfl Try.func47 (by kernel_rfl) rfl #[.int .u64 (Go.bits .or .u64 (IntKind.u64.wrap ((IntKind.u64.wrap (Go.bits .xor .i64 (-1) a0)) * 2)) 1)] rfl (by (try simp only [List.map_toArray, List.map_cons, List.map_nil]); first | done | rfl | (simp only [List.length_drop, List.length_take]; rfl)) ?_; (with_reducible refine (codec_unsigned.calls k (Go.bits .or .u64 (IntKind.u64.wrap ((IntKind.u64.wrap (Go.bits .xor .i64 (-1) a0)) * 2)) 1) t108 _ A3.out).mono ?_); rintro e w4 ⟨rfl, hb⟩; refine ⟨_, rfl, ?_⟩; have n0_ := Aside0.mk (below_step (by repeat (first | (with_reducible first | exact HB.out | apply below_alloc | apply pw_below_drewN | apply below_drew1) | exact HB.out)) hb); clear HB; have HB := n0_; clear n0_; (try clear hb); (try clear hb2); (try clear hk); (try clear hi)))
    go_ret
    exact ⟨by first | rfl | (simp [errW_none, errW_some] <;> rfl) | (simp [*, errW_none, errW_some] <;> rfl), by repeat (first | (with_reducible first | exact HB.out | apply below_alloc | apply pw_below_drewN | apply below_drew1) | exact HB.out)⟩
  · rw [if_neg c2] at H
    have c2b0 : decide (a0 < 0) = false := decide_eq_false c2
    clear c2
    replace H := Option.bind_eq_some_iff.mp H
    obtain ⟨t109, A50, H⟩ := H
    replace H : (some t109) = some r := H
    have A5 := Aside0.mk A50
    clear A50
    obtain rfl := Option.some.inj H
    go_enter Try.func17, Try.ntmps17
    go_wp2_with (first | ((with_reducible refine gate_callee (f := 47) rfl ?_); refine goesL_ (some 14) rfl rfl Try.func47 (by kernel_rfl) rfl #[.int .u64 (IntKind.u64.wrap ((IntKind.u64.wrap (a0)) * 2))] rfl (by (try simp only [List.map_toArray, List.map_cons, List.map_nil]); first | done | rfl | (simp only [List.length_drop, List.length_take]; rfl)) ?_; (with_reducible refine (codec_unsigned.calls k (IntKind.u64.wrap ((IntKind.u64.wrap (a0)) * 2)) t109 _ A5.out).mono ?_); rintro e w6 ⟨rfl, hb⟩; refine ⟨_, rfl, ?_⟩; have n0_ := Aside0.mk (below_step (by repeat (first | (with_reducible first | exact HB.out | apply below_alloc | apply pw_below_drewN | apply below_drew1) | exact HB.out)) hb); clear HB; have HB := n0_; clear n0_; (try clear hb); (try clear hb2); (try clear hk); (try clear hi)))
    go_ret
    exact ⟨by first | rfl | (simp [errW_none, errW_some] <;> rfl) | (simp [*, errW_none, errW_some] <;> rfl), by repeat (first | (with_reducible first | exact HB.out | apply below_alloc | apply pw_below_drewN | apply below_drew1) | exact HB.out)⟩

/-! ### codec_Text: function 19, by hand -/
def codec_Text.f (k : Nat) (a0 : ByteArray) : Option (ByteArray) := (codec_unsigned.f k (a0.size : Int)).bind fun t110 => (if t110.size + a0.size ≤ 9223372036854775807 then (some (t110 ++ a0)) else (none))
theorem codec_Text.mono : ∀ a0 k, LeO (codec_Text.f k a0) (codec_Text.f (k + 1) a0) := by
  intro a0 k
  unfold codec_Text.f
  repeat' first
      | (with_reducible exact codec_unsigned.mono _ _)
      | (with_reducible exact LeO.refl _)
      | (with_reducible exact LeO.none _)
      | (with_reducible refine LeO.ite ?_ ?_)
      | (with_reducible refine LeO.bind ?_ (fun _ => ?_))
theorem codec_Text.calls (k : Nat) (a0 : ByteArray) (r : ByteArray) (w : World) (h : codec_Text.f k a0 = some r) :
    Calls Try.prog 19 #[.string a0] w fun e w' => e = .returned (.string r) ∧ Below w.heap.size w w' := by
  obtain ⟨t, h1, h2⟩ := Option.bind_eq_some_iff.mp h
  by_cases c : t.size + a0.size ≤ 9223372036854775807
  · rw [if_pos c] at h2
    obtain rfl := Option.some.inj h2
    clear h2 h
    have h1 := Aside0.mk h1
    go_enter Try.func19, Try.ntmps19
    go_wp2_with (go_at_call 47; refine (codec_unsigned.calls _ _ _ _ h1.out).mono ?_; rintro e w1 ⟨rfl, hb⟩)
    go_ret
    exact ⟨rfl, hb⟩
  · rw [if_neg c] at h2; cases h2

/-! ### codec_Texts: function 21, by hand -/
def codec_Texts.l0 : Nat → List ByteArray → ByteArray → Option ByteArray
  | _, [], b => some b
  | k, s :: l, b => (codec_Text.f k s).bind fun t => if b.size + t.size < 140737488355328 then codec_Texts.l0 k l (b ++ t) else none
def codec_Texts.f (k : Nat) (l0 : List ByteArray) : Option ByteArray :=
  (codec_unsigned.f k (l0.length : Int)).bind fun t => if t.size < 140737488355328 then codec_Texts.l0 k l0 t else none
theorem codec_Texts.mono_l (k : Nat) : ∀ y0 y1, LeO (codec_Texts.l0 k y0 y1) (codec_Texts.l0 (k + 1) y0 y1)
  | [], _ => LeO.refl _
  | _ :: l, _ => LeO.bind (codec_Text.mono _ _) (fun _ => LeO.ite (codec_Texts.mono_l k l _) (LeO.refl _))
theorem codec_Texts.mono : ∀ a0 k, LeO (codec_Texts.f k a0) (codec_Texts.f (k + 1) a0) := by
  intro a0 k
  exact LeO.bind (codec_unsigned.mono _ _) (fun _ => LeO.ite (codec_Texts.mono_l k _ _) (LeO.refl _))
/-- the builder in this form -/
theorem builder_below {B b : Nat} {bs : List Value} {w w' : World} (h : Lib.IsBuilder Sb.TB 5 B b bs w) (hb : Below w.heap.size w w') : Lib.IsBuilder Sb.TB 5 B b bs w' := by
  have key : ∀ p, Lib.BuilderAt Sb.TB 5 B b p bs w → Lib.BuilderAt Sb.TB 5 B b p bs w' := by
    rintro p ⟨hB, v, hv, ho, hne⟩
    have hlt : b < w.heap.size := (Array.getElem?_eq_some_iff.1 hv).1
    exact ⟨hB, v, (hb.block b hlt).trans hv, own_move ho (fun k hk => hb.block k (ho.lt k hk).2), hne⟩
  exact h.imp (key _) (key _)
theorem strCells_append (a b : ByteArray) : Lib.strCells (a ++ b) = Lib.strCells a ++ Lib.strCells b := by
  simp [Lib.strCells, ByteArray.data_append]
theorem Texts_add (B b : Nat) (bs : List Value) (s : ByteArray) (w : World) (h : Lib.IsBuilder Sb.TB 5 B b bs w) (hlen : bs.length + s.size ≤ 140737488355328) (hBw : B ≤ w.heap.size) :
    Calls Try.prog 50 #[.string s, .pointer (some ⟨b, 0, none⟩)] w fun e w' => e = .returned (.tuple #[]) ∧ Lib.IsBuilder Sb.TB 5 B b (bs ++ Lib.strCells s) w' ∧ Below B w w' := by
  go_enter Try.func50, Try.ntmps50
  go_wp2_with (go_at_call 37; refine (Sb.WriteString B b bs s _ h hlen hBw).mono ?_; rintro e w1 ⟨rfl, hI1, hB1⟩)
  go_end0
  exact ⟨rfl, .inr hI1, hB1⟩
theorem Texts_each (k B b : Nat) (A : Option Addr) (c : Nat) (l : List ByteArray) (acc r : ByteArray) (w0 w : World) (hr : Kd.C Kd.string w0 A l.length l) (hB0 : B = w0.heap.size) (h : Lib.IsBuilder Sb.TB 5 B b (Lib.strCells acc) w) (hb : Below B w0 w) (hf : codec_Texts.l0 k l acc = some r) :
    Calls Try.prog 49 #[.slice A l.length c, .func (.func 19) #[] #[], .func (.func 50) #[] #[.pointer (some ⟨b, 0, none⟩)]] w fun e w' => e = .returned (.tuple #[]) ∧ Lib.IsBuilder Sb.TB 5 B b (Lib.strCells r) w' ∧ Below B w w' := by
  have hm := hr.2.1
  have HR := Aside0.mk hr
  have HS := Aside0.mk (show Lib.IsBuilder Sb.TB 5 B b (Lib.strCells acc) w ∧ codec_Texts.l0 k (l.drop 0) acc = some r ∧ Below B w w from ⟨h, hf, Below.refl _ _⟩)
  clear hf h hr
  subst hB0
  go_enter Try.func49, Try.ntmps49
  go_wp2_with fail
  go_loopw [10] (fun i wr => ∃ j : Nat, j ≤ l.length ∧ i = .int .i64 j ∧ Aside0 (∃ acc, Lib.IsBuilder Sb.TB 5 w0.heap.size b (Lib.strCells acc) wr ∧ codec_Texts.l0 k (l.drop j) acc = some r ∧ Below w0.heap.size w wr)) (fun i _ => l.length - (intOf i).toNat)
  case atStart => exact ⟨0, Nat.zero_le _, rfl, ⟨_, HS.out⟩⟩
  case round =>
    obtain ⟨j, hj, rfl, HX⟩ := hrel
    by_cases hlt : j < l.length
    · obtain ⟨ad, e, hc0⟩ := Kd.at_string HR.out (j : Int) (by omega) (by omega)
      subst e
      have HY := HX.out
      clear HX HS
      obtain ⟨acc, hI, hf, hbr⟩ := HY
      rw [List.drop_eq_getElem_cons hlt] at hf
      obtain ⟨t, ht, hf⟩ := Option.bind_eq_some_iff.mp hf
      by_cases hsz : acc.size + t.size < 140737488355328
      · rw [if_pos hsz] at hf
        have hx : rdOf ByteArray.empty l (j : Int) = l[j] := by simp [rdOf, List.getD_eq_getElem?_getD, List.getElem?_eq_getElem hlt]
        rw [hx, Int.toNat_natCast] at hc0
        have hblk : ad.block < w0.heap.size := by
          have := World.block_lt_of_cell? w0 _ hc0
          simpa [Addr.add] using (by unfold Addr.add at this; split at this <;> exact this : ad.block < w0.heap.size)
        have hcr : wr.cell? (ad.add j) = some (.string l[j]) := by
          rw [((hb.trans hbr).cell (p := ad.add j) (by unfold Addr.add; split <;> exact hblk))]; exact hc0
        have hsz0 : w0.heap.size ≤ wr.heap.size := (hb.trans hbr).size
        have HT := Aside0.mk ht
        have HI := Aside0.mk hI
        have HF := Aside0.mk hf
        clear hc0 hx hf hI ht
        go_wp2_with (first | (go_at_call 19; refine (codec_Text.calls _ _ _ _ HT.out).mono ?_; rintro e w1 ⟨rfl, hb1⟩) | (go_at_call 50; refine (Texts_add w0.heap.size b (Lib.strCells acc) t w1 (builder_below HI.out hb1) (by rw [Lib.strCells_length]; omega) (by have := hb1.size; omega)).mono ?_; rintro e w2 ⟨rfl, hI2, hb2⟩))
        go_roundw
        case rel => exact ⟨j + 1, by omega, by go_num, ⟨_, by rw [strCells_append]; exact hI2, HF.out, (hbr.trans (hb1.mono hsz0)).trans hb2⟩⟩
        case measure => simp [intOf]; omega
      · rw [if_neg hsz] at hf; cases hf
    · have : j = l.length := by omega
      subst this
      have HY := HX.out
      clear HX HS
      obtain ⟨acc, hI, hf, hbr⟩ := HY
      rw [List.drop_length] at hf
      cases hf
      go_wp2
      go_end0
      exact ⟨rfl, hI, hbr⟩
theorem codec_Texts.calls (k : Nat) (A0 : Option Addr) (c0 : Nat) (l0 : List ByteArray) (r : ByteArray) (w : World) (hr0 : Kd.C Kd.string w A0 l0.length l0) (hc0 : l0.length ≤ c0) (h : codec_Texts.f k l0 = some r) :
    Calls Try.prog 21 #[.slice A0 l0.length c0] w fun e w' => e = .returned (.string r) ∧ Below w.heap.size w w' := by
  obtain ⟨t, h1, h2⟩ := Option.bind_eq_some_iff.mp h
  by_cases hsz : t.size < 140737488355328
  · rw [if_pos hsz] at h2
    have hm := hr0.2.1
    have HR := Aside0.mk hr0
    have h1 := Aside0.mk h1
    have h2 := Aside0.mk h2
    have HN := Aside0.mk (show Lib.IsBuilder Sb.TB 5 w.heap.size w.heap.size [] (w.alloc (.cells #[.pointer none, .slice none 0 0] Sb.TB)) from
      .inl ⟨Nat.le_refl _, .slice none 0 0, by simpa using heap_alloc_new w _, own_nil _ _ _ _, by simp [Value.ownBlock]⟩)
    clear hr0 h
    go_enter Try.func21, Try.ntmps21
    go_wp2_with fail
    refine (codec_unsigned.calls _ _ _ _ h1.out).mono ?_
    rintro e w1 ⟨rfl, hb1⟩
    go_wp2_with fail
    refine (Sb.WriteString w.heap.size w.heap.size [] t w1 (builder_below HN.out hb1) (by simp; omega) (by have := hb1.size; simp at this; omega)).mono ?_
    rintro e w2 ⟨rfl, hI2, hb2⟩
    go_wp2_with fail
    refine (Texts_each k w.heap.size w.heap.size A0 c0 l0 t r w w2 HR.out rfl (.inr (by simpa using hI2)) ((below_alloc (Below.refl _ w) _).trans ((hb1.mono (by simp)).trans hb2)) h2.out).mono ?_
    rintro e w3 ⟨rfl, hI3, hb3⟩
    go_wp2_with fail
    refine (Sb.String_any w.heap.size w.heap.size r.data.toList w3 (by rw [← Lib.strCells_eq]; exact hI3) (by have h1 := hb1.size; have h2 := hb2.size; have h3 := hb3.size; simp at h1; omega)).mono ?_
    rintro e w4 ⟨rfl, hb4⟩
    go_wp2
    go_ret
    exact ⟨rfl, (below_alloc (Below.refl _ w) _).trans ((hb1.mono (by simp)).trans (hb2.trans (hb3.trans hb4)))⟩
  · rw [if_neg hsz] at h2; cases h2

end Go.Proofs.Ytldkkboeaadbeaa.Pr
end
section
/- SHA-256 over natural numbers: the definitions, in plain Lean. -/
set_option linter.unusedVariables false
namespace Go.Proofs.Ytldkkboeaadbeaa.Sh
def ror (x n : Nat) : Nat := (x >>> n) ||| ((x <<< (32 - n)) % 4294967296)
def sg0 (x : Nat) : Nat := (ror x 7 ^^^ ror x 18) ^^^ (x >>> 3)
def sg1 (x : Nat) : Nat := (ror x 17 ^^^ ror x 19) ^^^ (x >>> 10)
def bs0 (x : Nat) : Nat := (ror x 2 ^^^ ror x 13) ^^^ ror x 22
def bs1 (x : Nat) : Nat := (ror x 6 ^^^ ror x 11) ^^^ ror x 25
def chh (e f g : Nat) : Nat := (e &&& f) ^^^ ((4294967295 - e) &&& g)
def maj (a b c : Nat) : Nat := ((a &&& b) ^^^ (a &&& c)) ^^^ (b &&& c)
structure St where
  a : Nat
  b : Nat
  c : Nat
  d : Nat
  e : Nat
  f : Nat
  g : Nat
  h : Nat
def St.l (s : St) : List Nat := [s.a, s.b, s.c, s.d, s.e, s.f, s.g, s.h]
def t1 (s : St) (k w : Nat) : Nat := (s.h + bs1 s.e + chh s.e s.f s.g + k + w) % 4294967296
def t2 (s : St) : Nat := (bs0 s.a + maj s.a s.b s.c) % 4294967296
def rnd (s : St) (k w : Nat) : St := ⟨(t1 s k w + t2 s) % 4294967296, s.a, s.b, s.c, (s.d + t1 s k w) % 4294967296, s.e, s.f, s.g⟩
/-- the constants of the steps -/
def kk : List Nat := [1116352408, 1899447441, 3049323471, 3921009573, 961987163, 1508970993, 2453635748, 2870763221, 3624381080, 310598401, 607225278, 1426881987, 1925078388, 2162078206, 2614888103, 3248222580, 3835390401, 4022224774, 264347078, 604807628, 770255983, 1249150122, 1555081692, 1996064986, 2554220882, 2821834349, 2952996808, 3210313671, 3336571891, 3584528711, 113926993, 338241895, 666307205, 773529912, 1294757372, 1396182291, 1695183700, 1986661051, 2177026350, 2456956037, 2730485921, 2820302411, 3259730800, 3345764771, 3516065817, 3600352804, 4094571909, 275423344, 430227734, 506948616, 659060556, 883997877, 958139571, 1322822218, 1537002063, 1747873779, 1955562222, 2024104815, 2227730452, 2361852424, 2428436474, 2756734187, 3204031479, 3329325298]
/-- the words of a block, latest first -/
def ext : Nat → List Nat → List Nat
  | 0, l => l
  | n + 1, l => ext n ((sg1 (l.getD 1 0) + l.getD 6 0 + sg0 (l.getD 14 0) + l.getD 15 0) % 4294967296 :: l)
def word (b : List Nat) (i : Nat) : Nat := ((b.getD (4 * i) 0 * 256 + b.getD (4 * i + 1) 0) * 256 + b.getD (4 * i + 2) 0) * 256 + b.getD (4 * i + 3) 0
def par : List Nat → List Nat
  | a :: b :: c :: d :: l => (((a * 256 + b) * 256 + c) * 256 + d) :: par l
  | _ => []
def words (b : List Nat) : List Nat := (ext 48 (par b).reverse).reverse
def rounds : St → List Nat → List Nat → St
  | s, k :: ks, w :: ws => rounds (rnd s k w) ks ws
  | s, _, _ => s
def St.add (s t : St) : St := ⟨(s.a + t.a) % 4294967296, (s.b + t.b) % 4294967296, (s.c + t.c) % 4294967296, (s.d + t.d) % 4294967296, (s.e + t.e) % 4294967296, (s.f + t.f) % 4294967296, (s.g + t.g) % 4294967296, (s.h + t.h) % 4294967296⟩
def block (s : St) (b : List Nat) : St := s.add (rounds s kk (words b))
def blocks : Nat → St → List Nat → St
  | 0, s, _ => s
  | n + 1, s, l => blocks n (block s (l.take 64)) (l.drop 64)
def init : St := ⟨0x6a09e667, 0xbb67ae85, 0x3c6ef372, 0xa54ff53a, 0x510e527f, 0x9b05688c, 0x1f83d9ab, 0x5be0cd19⟩
def len8 (n : Nat) : List Nat := [n / 72057594037927936 % 256, n / 281474976710656 % 256, n / 1099511627776 % 256, n / 4294967296 % 256, n / 16777216 % 256, n / 65536 % 256, n / 256 % 256, n % 256]
def pad (l : List Nat) : List Nat := l ++ 128 :: (List.replicate ((119 - l.length % 64) % 64) 0 ++ len8 (8 * l.length))
def be (x : Nat) : List Nat := [x / 16777216 % 256, x / 65536 % 256, x / 256 % 256, x % 256]
def out (s : St) : List Nat := s.l.flatMap be
def sha (l : List Nat) : List Nat := out (blocks ((pad l).length / 64) init (pad l))
end Go.Proofs.Ytldkkboeaadbeaa.Sh
end
section
/- SHA-256: the small functions of the program's package (rotations, mixes, constants). -/
set_option linter.unusedVariables false
set_option linter.unusedSimpArgs false
namespace Go.Proofs.Ytldkkboeaadbeaa.Sh
open Go.RowKit
theorem wrap_u64 (n : Int) : IntKind.u64.wrap n = n % 18446744073709551616 := by simp [IntKind.wrap, IntKind.bits, IntKind.signed]
theorem and31 (a b : Nat) (h0 : 0 < a) (h : a + b = 32) : bits .and .u64 (IntKind.u64.wrap (-(a : Int))) 31 = (b : Int) := by
  have e : IntKind.u64.wrap (-(a : Int)) = ((18446744073709551616 - a : Nat) : Int) := by
    rw [wrap_u64]; omega
  rw [e, show (31 : Int) = ((31 : Nat) : Int) from rfl, u64_and_nat _ _ (by omega) (by omega), nat_mask5]
  congr 1; omega
theorem ror_int (x a b : Nat) (h : a + b = 32) (hx : x < 4294967296) : bits .or .u32 ((x : Int) * 2 ^ b % 4294967296) ((x : Int) / 2 ^ a) = (ror x a : Nat) := by
  have e1 : (x : Int) * 2 ^ b % 4294967296 = ((x <<< b % 4294967296 : Nat) : Int) := by rw [Nat.shiftLeft_eq, Int.natCast_emod, Int.natCast_mul, Int.natCast_pow]; rfl
  have e2 : (x : Int) / 2 ^ a = ((x >>> a : Nat) : Int) := by rw [Nat.shiftRight_eq_div_pow, Int.natCast_ediv, Int.natCast_pow]; rfl
  have l2 : x >>> a < 4294967296 := by rw [Nat.shiftRight_eq_div_pow]; exact Nat.lt_of_le_of_lt (Nat.div_le_self _ _) hx
  rw [e1, e2, u32_or_nat _ _ (Nat.mod_lt _ (by decide)) l2, Nat.or_comm]
  unfold ror
  rw [show 32 - a = b by omega]
theorem shr_lt {x : Nat} (a : Nat) (hx : x < 4294967296) : x >>> a < 4294967296 := by rw [Nat.shiftRight_eq_div_pow]; exact Nat.lt_of_le_of_lt (Nat.div_le_self _ _) hx
theorem or_lt {x y : Nat} (hx : x < 4294967296) (hy : y < 4294967296) : x ||| y < 4294967296 := Nat.or_lt_two_pow (n := 32) hx hy
theorem xor_lt {x y : Nat} (hx : x < 4294967296) (hy : y < 4294967296) : x ^^^ y < 4294967296 := Nat.xor_lt_two_pow (n := 32) hx hy
theorem and_lt {x : Nat} (y : Nat) (hx : x < 4294967296) : x &&& y < 4294967296 := Nat.lt_of_le_of_lt Nat.and_le_left hx
theorem ror_lt {x : Nat} (a : Nat) (hx : x < 4294967296) : ror x a < 4294967296 := or_lt (shr_lt a hx) (Nat.mod_lt _ (by decide))
theorem rot_calls (x a : Nat) (A : Int) (w : World) (hx : x < 4294967296) (hA : A = a) (h0 : 0 < a) (h1 : a < 32) :
    Calls Try.prog 124 #[.int .u32 x, .int .i64 (-A)] w fun e w' => e = .returned (.int .u32 (ror x a : Nat)) ∧ w' = w := by
  subst hA
  obtain ⟨b, hb⟩ : ∃ b, a + b = 32 := ⟨32 - a, by omega⟩
  have hr := ror_int x a b hb hx
  have hs := and31 a b h0 hb
  have hw : 32 - (b : Int) = (a : Int) := by omega
  have hbi : (b : Int) ≤ 32 := by omega
  have hai : (a : Int) ≤ 32 := by omega
  clear hb
  go_enter Try.func124, Try.ntmps124
  go_wp2
  go_ret
  exact ⟨rfl, rfl⟩
theorem mix3_calls (x a b c : Nat) (A B C : Int) (w : World) (hx : x < 4294967296) (hA : A = a) (hB : B = b) (hC : C = c) (ha : 0 < a) (ha1 : a < 32) (hb : 0 < b) (hb1 : b < 32) (hc : 0 < c) (hc1 : c < 32) :
    Calls Try.prog 123 #[.int .u32 x, .int .i64 A, .int .i64 B, .int .i64 C] w fun e w' => e = .returned (.int .u32 ((ror x a ^^^ ror x b) ^^^ ror x c : Nat)) ∧ w' = w := by
  subst hA hB hC
  have e1 := u32_xor_nat (ror x a) (ror x b) (ror_lt a hx) (ror_lt b hx)
  have e2 := u32_xor_nat (ror x a ^^^ ror x b) (ror x c) (xor_lt (ror_lt a hx) (ror_lt b hx)) (ror_lt c hx)
  go_enter Try.func123, Try.ntmps123
  go_wp2_with (go_at_call 124; refine (rot_calls x _ _ _ hx rfl (by assumption) (by assumption)).mono ?_; rintro e w' ⟨rfl, rfl⟩)
  go_ret
  exact ⟨rfl, rfl⟩
theorem mix2_calls (x a b c : Nat) (A B C : Int) (w : World) (hx : x < 4294967296) (hA : A = a) (hB : B = b) (hC : C = c) (ha : 0 < a) (ha1 : a < 32) (hb : 0 < b) (hb1 : b < 32) (hc : 0 < c) (hc1 : c < 32) :
    Calls Try.prog 131 #[.int .u32 x, .int .i64 A, .int .i64 B, .int .i64 C] w fun e w' => e = .returned (.int .u32 ((ror x a ^^^ ror x b) ^^^ (x >>> c) : Nat)) ∧ ∃ n, w' = w.drewN n := by
  subst hA hB hC
  have e0 : (x : Int) / 2 ^ c = ((x >>> c : Nat) : Int) := by rw [Nat.shiftRight_eq_div_pow, Int.natCast_ediv, Int.natCast_pow]; rfl
  have e1 := u32_xor_nat (ror x a) (ror x b) (ror_lt a hx) (ror_lt b hx)
  have e2 := u32_xor_nat (ror x a ^^^ ror x b) (x >>> c) (xor_lt (ror_lt a hx) (ror_lt b hx)) (shr_lt c hx)
  rw [Int.natCast_shiftRight] at e2
  have hc2 : (c : Int) ≤ 32 := by omega
  go_enter Try.func131, Try.ntmps131
  go_wp2_with fail
  go_quiet ((go_at_call 124; exact Calls.quiet_of_same (rot_calls x _ _ _ hx rfl (by assumption) (by assumption))))
  go_wp2
  go_ret
  exact ⟨rfl, _, rfl⟩
end Go.Proofs.Ytldkkboeaadbeaa.Sh
end
section
/- SHA-256 over natural numbers: lengths and bounds. -/
set_option linter.unusedVariables false
namespace Go.Proofs.Ytldkkboeaadbeaa.Sh
theorem ext_length : ∀ (n : Nat) (l : List Nat), (ext n l).length = l.length + n
  | 0, l => rfl
  | n + 1, l => by rw [ext, ext_length n]; simp; omega
/-- what has come stays -/
theorem ext_tail : ∀ (n : Nat) (l : List Nat), (ext n l).drop n = l
  | 0, l => rfl
  | n + 1, l => by
    rw [ext]
    have := ext_tail n ((sg1 (l.getD 1 0) + l.getD 6 0 + sg0 (l.getD 14 0) + l.getD 15 0) % 4294967296 :: l)
    rw [← List.drop_drop, this]; rfl
theorem ext_add : ∀ (m n : Nat) (l : List Nat), ext (m + n) l = ext n (ext m l)
  | 0, n, l => by rw [Nat.zero_add]; rfl
  | m + 1, n, l => by rw [show m + 1 + n = (m + n) + 1 by omega, ext, ext, ext_add m n]
theorem ext_get (n m : Nat) (l : List Nat) (j : Nat) : (ext (m + n) l)[n + j]? = (ext m l)[j]? := by
  rw [ext_add, ← List.getElem?_drop, ext_tail]
theorem par_length : ∀ (l : List Nat) (n : Nat), l.length = 4 * n → (par l).length = n
  | [], n, h => by simp at h; simp [par]; omega
  | [_], n, h => by simp at h; omega
  | [_, _], n, h => by simp at h; omega
  | [_, _, _], n, h => by simp at h; omega
  | a :: b :: c :: d :: l, n, h => by
    rw [par, List.length_cons, par_length l (n - 1) (by simp at h; omega)]; simp at h; omega
theorem par_get : ∀ (l : List Nat) (i : Nat), 4 * i + 3 < l.length → (par l).getD i 0 = word l i
  | [], i, h => by simp at h
  | [_], i, h => by simp at h <;> omega
  | [_, _], i, h => by simp at h <;> omega
  | [_, _, _], i, h => by simp at h <;> omega
  | a :: b :: c :: d :: l, 0, h => by simp [par, word]
  | a :: b :: c :: d :: l, i + 1, h => by
    have := par_get l i (by simp at h; omega)
    rw [par, List.getD_cons_succ, this, word, word]
    rw [show 4 * (i + 1) = 4 * i + 1 + 1 + 1 + 1 by omega]
    simp only [List.getD_cons_succ, show 4 * i + 1 + 1 + 1 + 1 + 1 = (4 * i + 1) + 1 + 1 + 1 + 1 by omega, show 4 * i + 1 + 1 + 1 + 1 + 2 = (4 * i + 2) + 1 + 1 + 1 + 1 by omega, show 4 * i + 1 + 1 + 1 + 1 + 3 = (4 * i + 3) + 1 + 1 + 1 + 1 by omega]
theorem words_length {b : List Nat} (h : b.length = 64) : (words b).length = 64 := by
  unfold words
  rw [List.length_reverse, ext_length, List.length_reverse, par_length b 16 h]
theorem rev_getD (l : List Nat) (i n : Nat) (h : l.length = n) (hi : i < n) : l.reverse.getD i 0 = l.getD (n - 1 - i) 0 := by
  rw [List.getD_eq_getElem?_getD, List.getD_eq_getElem?_getD, List.getElem?_reverse (by omega), h]
theorem words_lo {b : List Nat} (h : b.length = 64) (i : Nat) (hi : i < 16) : (words b).getD i 0 = word b i := by
  have hp := par_length b 16 h
  have he : (ext 48 (par b).reverse).length = 64 := by rw [ext_length, List.length_reverse, hp]
  unfold words
  rw [rev_getD _ i 64 he (by omega), List.getD_eq_getElem?_getD, show 64 - 1 - i = 48 + (15 - i) by omega]
  have := ext_get 48 0 (par b).reverse (15 - i)
  rw [Nat.zero_add] at this
  rw [this, ext, ← List.getD_eq_getElem?_getD, rev_getD _ _ 16 hp (by omega), show 16 - 1 - (15 - i) = i by omega]
  exact par_get b i (by omega)
theorem words_hi {b : List Nat} (h : b.length = 64) (j : Nat) (hj : j < 48) :
    (words b).getD (j + 16) 0 = (sg1 ((words b).getD (j + 14) 0) + (words b).getD (j + 9) 0 + sg0 ((words b).getD (j + 1) 0) + (words b).getD j 0) % 4294967296 := by
  have hp := par_length b 16 h
  have he : (ext 48 (par b).reverse).length = 64 := by rw [ext_length, List.length_reverse, hp]
  have key : ∀ m i, m ≤ 48 → i < 16 + m → (words b).getD (15 + m - i) 0 = (ext m (par b).reverse).getD i 0 := by
    intro m i hm hi
    unfold words
    rw [rev_getD _ _ 64 he (by omega), List.getD_eq_getElem?_getD, List.getD_eq_getElem?_getD, show 64 - 1 - (15 + m - i) = (48 - m) + i by omega]
    have := ext_get (48 - m) m (par b).reverse i
    rw [show m + (48 - m) = 48 by omega] at this
    rw [this]
  have e0 := key (j + 1) 0 (by omega) (by omega)
  have e1 := key j 1 (by omega) (by omega)
  have e6 := key j 6 (by omega) (by omega)
  have e14 := key j 14 (by omega) (by omega)
  have e15 := key j 15 (by omega) (by omega)
  rw [show 15 + (j + 1) - 0 = j + 16 by omega] at e0
  rw [show 15 + j - 1 = j + 14 by omega] at e1
  rw [show 15 + j - 6 = j + 9 by omega] at e6
  rw [show 15 + j - 14 = j + 1 by omega] at e14
  rw [show 15 + j - 15 = j by omega] at e15
  rw [e0, e1, e6, e14, e15, ext_add j 1]
  rfl
theorem word_lt {b : List Nat} (hb : ∀ x ∈ b, x < 256) (i : Nat) : word b i < 4294967296 := by
  have key : ∀ j, b.getD j 0 < 256 := by
    intro j
    rw [List.getD_eq_getElem?_getD]
    rcases Nat.lt_or_ge j b.length with h | h
    · rw [List.getElem?_eq_getElem h]; exact hb _ (List.getElem_mem h)
    · rw [List.getElem?_eq_none h]; decide
  have h0 := key (4 * i)
  have h1 := key (4 * i + 1)
  have h2 := key (4 * i + 2)
  have h3 := key (4 * i + 3)
  unfold word
  omega
theorem words_lt {b : List Nat} (h : b.length = 64) (hb : ∀ x ∈ b, x < 256) (i : Nat) : (words b).getD i 0 < 4294967296 := by
  rcases Nat.lt_or_ge i 16 with h1 | h1
  · rw [words_lo h i h1]; exact word_lt hb i
  · rcases Nat.lt_or_ge i 64 with h2 | h2
    · obtain ⟨j, rfl⟩ : ∃ j, i = j + 16 := ⟨i - 16, by omega⟩
      rw [words_hi h j (by omega)]; exact Nat.mod_lt _ (by decide)
    · rw [List.getD_eq_getElem?_getD, List.getElem?_eq_none (by rw [words_length h]; exact h2)]; decide
end Go.Proofs.Ytldkkboeaadbeaa.Sh
end
