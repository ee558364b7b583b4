/- SgY, SgS -/
import Derived.RangeFuncNested
import Derived.RangeFuncBound
import Derived.RangeFuncCalls
import Derived.RangeFuncLeaves
import Derived.Shelf.Abstract
import Derived.Shelf.RegionOpen
import Derived.WalkKit
import Derived.OwnWalkIn
import Derived.TacticsInMore
import Derived.LoopNIn
import Derived.LoopIn
import Derived.Test.YtldkkboeaadbeaaMa8
import Derived.Maps.AppendAt
section
/- The digits of a message as an iterator: digits, and the function that it returns. -/
set_option linter.unusedVariables false
set_option linter.unusedSimpArgs false
namespace Go.Proofs.Ytldkkboeaadbeaa.Sg
open Go.RowKit Go.Shelf Go.Proofs.YtldkkboeaadbeaaW.PrintWords Go.Proofs.YtldkkboeaadbeaaW.PrintLast Go.Proofs.YtldkkboeaadbeaaW.PrintMore
attribute [local go_sem] Oper.semAt_some
theorem digits_calls (m : ByteArray) (w : World) :
    Calls Try.prog 74 #[.string m] w fun e w' => e = .returned (.func (.func 96) #[] #[.pointer (some ⟨w.heap.size, 0, none⟩)]) ∧ w' = w.alloc (.cells #[.string m] 9) := by
  go_enter Try.func74, Try.ntmps74
  go_wp2
  go_ret
  exact ⟨rfl, rfl⟩
/-- what a round keeps: every block of ints -/
def KpI (W W' : World) : Prop := W.heap.size ≤ W'.heap.size ∧ ∀ (k : Nat) (c : Array Value) (fz : Nat × Nat), W.heap[k]? = some (Obj.cells c 3 fz) → W'.heap[k]? = some (Obj.cells c 3 fz)
theorem KpI.refl (W : World) : KpI W W := ⟨Nat.le_refl _, fun _ _ _ h => h⟩
theorem KpI.trans {A B C : World} (h : KpI A B) (k : KpI B C) : KpI A C := ⟨Nat.le_trans h.1 k.1, fun i c fz e => k.2 i c fz (h.2 i c fz e)⟩
theorem KpI.putObj {b : Nat} (W : World) (l : Nat) (o o' : Obj) (_ : b ≤ l) (h : W.heap[l]? = some o) (ho : o.isCells = false) (_ : o.isWalk = false) : KpI W (W.putObj l o') := by
  have hg := grownBy_putObj' W l o'
  refine ⟨hg.size, fun k c fz e => (hg.block k (Array.getElem?_eq_some_iff.1 e).1 (fun h' => ?_)).trans e⟩
  cases h'
  rw [h] at e
  cases e
  cases ho
theorem KpI.call {W W' : World} (hb : Below W.heap.size W W') : KpI W W' := ⟨hb.size, fun k c fz e => (hb.block k (Array.getElem?_eq_some_iff.1 e).1).trans e⟩
theorem KpI.alloc (W : World) (o : Obj) : KpI W (W.alloc o) := KpI.call ((Below.refl _ _).alloc (Nat.le_refl _) o)
theorem KpI.grown {W W' : World} {row : Option Nat} (hg : W.grownBy W' row) (hr : ∀ k, row = some k → ∃ c T fz, W.heap[k]? = some (Obj.cells c T fz) ∧ T ≠ 3) : KpI W W' :=
  ⟨hg.size, fun k c fz e => (hg.block k (Array.getElem?_eq_some_iff.1 e).1 (fun h' => by
    obtain ⟨c', T, fz', e', hT⟩ := hr k h'.symm
    rw [e'] at e
    injection e with e
    injection e with _ e
    exact hT e)).trans e⟩
theorem grown_of_below {W W' : World} (hb : Below W.heap.size W W') : W.grownBy W' none := ⟨hb.os, hb.tape, hb.output, hb.size, fun k hk _ => hb.block k hk⟩
/-- what comes: each chain's number with its digit -/
def Dg : Type := { x : Nat × Nat // x.1 < 67 ∧ x.2 ≤ 15 }
def mkD (m : ByteArray) (c : Nat) : Dg := ⟨(min c 66, min ((digs m).getD c 0) 15), by constructor <;> simp <;> omega⟩
theorem getD_le {l : List Nat} {b : Nat} (h : ∀ d ∈ l, d ≤ b) (c : Nat) : l.getD c 0 ≤ b := by
  rw [List.getD_eq_getElem?_getD]
  by_cases e : c < l.length
  · rw [List.getElem?_eq_getElem e]; exact h _ (List.getElem_mem e)
  · rw [List.getElem?_eq_none (by omega)]; exact Nat.zero_le _
theorem mkD_val (m : ByteArray) {c : Nat} (h : c < 67) : (mkD m c).1 = (c, (digs m).getD c 0) := by
  have := getD_le (digs_le m) c
  unfold mkD
  simp only [Prod.mk.injEq]
  omega
def dl (m : ByteArray) (n : Nat) : List Dg := (List.range n).map (mkD m)
theorem dl_succ (m : ByteArray) (n : Nat) : dl m (n + 1) = dl m n ++ [mkD m n] := by simp [dl, List.range_succ]
theorem dl_length (m : ByteArray) (n : Nat) : (dl m n).length = n := by simp [dl]
def encD (x : Dg) : Array Value := #[.int .i64 (x.1.1 : Int), .int .i64 (x.1.2 : Int)]
theorem ints_row {w : World} {base : Nat} {v : Value} {l : List Nat} (h : w.ownsRow base 3 1 v l.length (ints l)) (h0 : 0 < l.length) :
    ∃ g cap cur, v = .slice (some ⟨g, 0, none⟩) l.length cap ∧ base ≤ g ∧ w.heap[g]? = some (.cells cur 3 (0, 0)) ∧ ∀ j, j < l.length → cur[j]? = some (.int .i64 (l.getD j 0 : Nat)) := by
  rcases h.2 with ⟨_, hz⟩ | ⟨g, cap, cur, hv, hb, hg, h1, h2, h3, h4⟩
  · omega
  · refine ⟨g, cap, cur, hv, hb, hg, fun j hj => ?_⟩
    have h5 : (cur.toList.take (l.length * 1))[j]? = (ints l)[j]? := by rw [h4]
    rw [Nat.mul_one, List.getElem?_take, if_pos hj] at h5
    rw [← Array.getElem?_toList, h5]
    simp [List.getD_eq_getElem?_getD, hj]
set_option maxRecDepth 100000 in
set_option maxHeartbeats 2000000 in
theorem iter_in (n : Nat) (hn : 1 ≤ n) (l Bm : Nat) (m : ByteArray) (hm : m.size ≤ 140737488355328) (J Jx : List Dg → World → Prop) (W : World) (hJ : AbidesFrom W.heap.size J)
    (hY : ∀ pre x W, J pre W → pre.length < 67 → YieldAt Fence.wide (n - 1) Try.prog l (encD x) W fun e W' =>
      (e = .returned (.bool true) ∧ J (pre ++ [x]) W' ∧ KpI W W') ∨ (e = .returned (.bool false) ∧ Jx (pre ++ [x]) W'))
    (hBm : W.cell? ⟨Bm, 0, none⟩ = some (.string m)) (h0 : J [] W) :
    CallsIn Fence.wide n Try.prog 96 #[.func (.yield l) #[] #[], .pointer (some ⟨Bm, 0, none⟩)] W fun e W' => (∃ v, e = .returned v) ∧
      ((∃ ys, ys = dl m 67 ∧ J ys W') ∨ (∃ pre, True ∧ Jx pre W')) := by
  have hD := Lib.hid (fun W' => Digits_calls m W' hm)
  have HJ := Lib.hid hJ
  have H0 := Lib.hid h0
  clear hJ h0
  have hfD : Fence.wide.fn 66 := trivial
  refine callsIn_of_wp Try.func96 rfl trivial ?_ rfl
  simp only [Try.ntmps96, List.size_toArray, List.length_cons, List.length_nil, Nat.reduceAdd, Nat.reduceSub, Array.replicate_succ, Array.replicate_zero, List.push_toArray, List.append_toArray, List.nil_append, List.cons_append]
  gi_wp2_with (gi_at_call 66; refine (callsIn_wide.2 (hD.out _)).mono ?_; rintro e w1 ⟨v, rfl, hown, hb1⟩; obtain ⟨g, cap, cur, rfl, hgb, hg, hcur⟩ := ints_row (l := digs m) (by rw [digs_length]; exact hown) (by rw [digs_length]; omega); rw [digs_length])
  rw [digs_length] at hcur
  have HC := Lib.hid hcur
  have HG := Lib.hid hg
  have HJ1 := Lib.hid (HJ.out [] W w1 none H0.out (grown_of_below hb1) (fun r hr => by cases hr))
  clear hcur hg hown
  gi_loopw [8] (fun i wr => ∃ k : Nat, k ≤ 67 ∧ i = .int .i64 k ∧ Hid (J (dl m k) wr ∧ wr.heap[g]? = some (.cells cur 3 (0, 0)))) (fun i _ => 67 - (intOf i).toNat)
  case atStart => exact ⟨0, Nat.zero_le _, rfl, Lib.hid ⟨HJ1.out, HG.out⟩⟩
  case round =>
    obtain ⟨k, hk, rfl, HB⟩ := hrel
    by_cases hlt : k < 67
    · obtain ⟨d, hd⟩ : ∃ d, d = (digs m).getD k 0 := ⟨_, rfl⟩
      have hcx : wr.cell? ⟨g, k, none⟩ = some (.int .i64 (d : Int)) := by rw [cell_of_row _ g k _ _ _ HB.out.2, HC.out k hlt, hd]
      have HL := Lib.hid (dl_succ m k)
      have he : encD (mkD m k) = #[.int .i64 (k : Int), .int .i64 (d : Int)] := by unfold encD; rw [mkD_val m hlt, hd]
      clear hd
      obtain ⟨fn, tmps, assign, body, hy, hR⟩ := hY _ (mkD m k) wr HB.out.1 (by rw [dl_length]; exact hlt)
      rw [he] at hy
      clear he
      gi_wp2
      refine hR.mono ?_
      rintro e W3 (⟨rfl, hJ3, hk3⟩ | ⟨rfl, hJx3⟩)
      · have HJ3 := Lib.hid hJ3
        have HK3 := Lib.hid hk3
        clear hJ3 hk3
        gi_wp2
        go_roundw
        case rel => exact ⟨k + 1, by omega, by simp, Lib.hid ⟨by rw [HL.out]; exact HJ3.out, HK3.out.2 g cur (0, 0) HB.out.2⟩⟩
        case measure => simp [intOf]; omega
      · have HJ3 := Lib.hid hJx3
        clear hJx3
        gi_wp2
        refine bodyPost_ret (results_none rfl _ _ _) rfl ?_
        exact ⟨⟨_, rfl⟩, .inr ⟨_, trivial, HJ3.out⟩⟩
    · obtain rfl : k = 67 := by omega
      gi_wp2
      go_end0
      exact ⟨⟨_, rfl⟩, .inl ⟨_, rfl, HB.out.1⟩⟩
end Go.Proofs.Ytldkkboeaadbeaa.Sg
end
section
/- The signature scheme in the program: Sign. -/
set_option linter.unusedVariables false
set_option linter.unusedSimpArgs false
namespace Go.Proofs.Ytldkkboeaadbeaa.Sg
open Go.RowKit Go.Shelf Go.Proofs.YtldkkboeaadbeaaW.PrintWords Go.Proofs.YtldkkboeaadbeaaW.PrintLast Go.Proofs.YtldkkboeaadbeaaW.PrintMore
attribute [local go_sem] Oper.semAt_some Sd.pureq Sd.pureAt Sd.pureUpon
theorem wpIn_named {F : Fence} {n : Nat} {P : Program} {c : Code} {Q : Exit → Act → World → Prop} {a : Act} {w : World} (h : ∀ a', a' = a → c.wpIn F n P Q a' w) : c.wpIn F n P Q a w := h a rfl
def sgCh (seed : ByteArray) (k : Nat) (l : List Dg) : List ByteArray := l.map fun x => wk k x.1.1 x.1.2 0 (sec seed k x.1.1)
theorem sgCh_dl (seed : ByteArray) (k : Nat) (m : ByteArray) : sgCh seed k (dl m 67) = sigCh seed k (digs m) 67 := by
  unfold sgCh dl sigCh
  rw [List.map_map]
  apply List.map_congr_left
  intro c hc
  have := mkD_val m (List.mem_range.1 hc)
  simp only [Function.comp, this]
theorem sgCh_snoc (seed : ByteArray) (k : Nat) (l : List Dg) (x : Dg) : sgCh seed k (l ++ [x]) = sgCh seed k l ++ [wk k x.1.1 x.1.2 0 (sec seed k x.1.1)] := by simp [sgCh]
/-- what the loops' law and the iterator ask of a step of a round -/
def Kb (W W' : World) : Prop := KeepsOthers W W' ∧ KpI W W'
theorem Kb.trans {A B C : World} (h : Kb A B) (k : Kb B C) : Kb A C := ⟨h.1.trans k.1, h.2.trans k.2⟩
theorem Kb.call {W W' : World} (hb : Below W.heap.size W W') : Kb W W' := ⟨KeepsOthers.of_grownBy (grown_of_below hb) (fun j o h _ => by cases h), KpI.call hb⟩
theorem Kb.alloc (W : World) (o : Obj) : Kb W (W.alloc o) := ⟨KeepsOthers.alloc W o, KpI.alloc W o⟩
theorem Kb.drew (W : World) : Kb W W.drew := ⟨KeepsOthers.drew W, Nat.le_refl _, fun _ _ _ h => h⟩
theorem Kb.grown {W W' : World} {row : Option Nat} (hg : W.grownBy W' row) (hr : ∀ k, row = some k → ∃ c T fz, W.heap[k]? = some (Obj.cells c T fz) ∧ T ≠ 3) : Kb W W' :=
  ⟨KeepsOthers.of_grownBy hg (fun j o h1 h2 => by obtain ⟨c, T, fz, e, _⟩ := hr j h1; rw [e] at h2; cases h2; rfl), KpI.grown hg hr⟩
theorem Kb.setCell {W : World} {b : Nat} {c : Array Value} {T : TypeId} {fz : Nat × Nat} (hb : W.heap[b]? = some (.cells c T fz)) (hT : T ≠ 3) (i : Nat) (v : Value) : Kb W (W.setCell ⟨b, i, none⟩ v) := by
  refine ⟨KeepsOthers.setCell _ _ _, by simp [World.setCell], fun k c' fz' h => ?_⟩
  refine (Below.heap_setCell W ⟨b, i, none⟩ v k (fun e => ?_)).trans h
  have e : k = b := e
  subst e
  rw [hb] at h
  injection h with h
  injection h with _ h
  exact hT h
/-- what lies still in Sign's loop -/
structure SignJ (w W : World) (B7 : Nat) (seed : ByteArray) (h k : Nat) (v : Value) (n : Nat) (xs : List Value) : Prop where
  key : W.heap[w.heap.size]? = some (.cells (keyC seed h k) 67 (0, 0))
  sg : W.heap[w.heap.size + 1]? = some (.cells #[.int .i64 0, .slice none 0 0, .slice none 0 0] 72 (0, 0))
  kz : W.heap[w.heap.size + 1 + 1]? = some (.cells #[.string ⟨#[]⟩, .int .i64 0, .int .i64 0] 67 (0, 0))
  out : W.heap[B7]? = some (.cells #[.int .i64 (k : Int), v, .slice none 0 0] 72 (0, 0))
  row : W.ownsRow (B7 + 2) 9 1 v n xs
  ext : Ext w W
  lt : w.heap.size + 3 ≤ B7
  sz : B7 + 2 ≤ W.heap.size
section
variable {w W : World} {B7 : Nat} {seed : ByteArray} {h k : Nat} {v : Value} {n : Nat} {xs : List Value}
theorem SignJ.c0 (s : SignJ w W B7 seed h k v n xs) : W.cell? ⟨w.heap.size, 0, none⟩ = some (.string seed) := cell_of_row W _ 0 _ _ _ s.key
theorem SignJ.c2 (s : SignJ w W B7 seed h k v n xs) : W.cell? ⟨w.heap.size, 2, none⟩ = some (.int .i64 (k : Int)) := cell_of_row W _ 2 _ _ _ s.key
theorem SignJ.c1 (s : SignJ w W B7 seed h k v n xs) : W.cell? ⟨w.heap.size, 1, none⟩ = some (.int .i64 (h : Int)) := cell_of_row W _ 1 _ _ _ s.key
theorem SignJ.c7 (s : SignJ w W B7 seed h k v n xs) : W.cell? ⟨B7, 1, none⟩ = some v := cell_of_row W _ 1 _ _ _ s.out
theorem SignJ.size (s : SignJ w W B7 seed h k v n xs) : B7 < W.heap.size := (Array.getElem?_eq_some_iff.1 s.out).1
theorem SignJ.call {W' : World} (s : SignJ w W B7 seed h k v n xs) (hb : Below W.heap.size W W') : SignJ w W' B7 seed h k v n xs :=
  ⟨Ext.block hb s.key, Ext.block hb s.sg, Ext.block hb s.kz, Ext.block hb s.out, own_below s.row hb, s.ext.call hb, s.lt, Nat.le_trans s.sz hb.size⟩
theorem SignJ.alloc (s : SignJ w W B7 seed h k v n xs) (o : Obj) : SignJ w (W.alloc o) B7 seed h k v n xs := s.call ((Below.refl _ _).alloc (Nat.le_refl _) o)
theorem SignJ.drew (s : SignJ w W B7 seed h k v n xs) : SignJ w W.drew B7 seed h k v n xs := s.call (Below.refl _ _).drew
end
def SignI (w W : World) (B7 : Nat) (seed : ByteArray) (h k : Nat) (pre : List Dg) : Prop := ∃ v, SignJ w W B7 seed h k v pre.length ((sgCh seed k pre).map Value.string)
theorem SignI.own {w : World} {B7 : Nat} {seed : ByteArray} {h k : Nat} : OwnFrom (B7 + 2) (fun pre W => SignI w W B7 seed h k pre) := by
  intro pre W W' row hs hg hr
  obtain ⟨v, hs⟩ := hs
  have hn : ∀ (b : Nat) (c : Array Value) (T : TypeId) (fz : Nat × Nat), W.heap[b]? = some (.cells c T fz) → W'.heap[b]? = some (.cells c T fz) := fun b c T fz hb => by
    refine (hg.block b (Array.getElem?_eq_some_iff.1 hb).1 (fun e => ?_)).trans hb
    obtain ⟨_, o, ho, hc⟩ := hr b e.symm
    rw [hb] at ho
    cases ho
    cases hc
  refine ⟨v, hn _ _ _ _ hs.key, hn _ _ _ _ hs.sg, hn _ _ _ _ hs.kz, hn _ _ _ _ hs.out, own_move hs.row (fun b hb => ?_), ?_, hs.lt, Nat.le_trans hs.sz hg.size⟩
  · obtain ⟨c, hc⟩ := own_typed hs.row b hb
    rw [hc]; exact hn _ _ _ _ hc
  · have := hs.lt
    exact hs.ext.below.grown hg hs.ext.below.size (fun r e => by have := (hr r e).1; omega)
/-- the new element is appended, and the field is set -/
theorem SignJ.store {w W W1 : World} {B7 : Nat} {seed : ByteArray} {h k : Nat} {v v1 : Value} {n n1 : Nat} {xs xs1 : List Value} (s : SignJ w W B7 seed h k v n xs) (hg : W.grownBy W1 v.ownBlock) (ho : W1.ownsRow (B7 + 2) 9 1 v1 n1 xs1) :
    SignJ w (W1.setCell ⟨B7, 1, none⟩ v1) B7 seed h k v1 n1 xs1 ∧ W1.cell? ⟨B7, 1, none⟩ = some v ∧ W1.frozen? ⟨B7, 1, none⟩ = false ∧ Kb W (W1.setCell ⟨B7, 1, none⟩ v1) := by
  have hlt := s.lt
  have hsz := s.size
  have hn : ∀ b, b < W.heap.size → b < B7 + 2 → W1.heap[b]? = W.heap[b]? := fun b h1 h2 => hg.block b h1 (fun e => by have := (s.row.lt b e.symm).1; omega)
  have h7 : W1.heap[B7]? = some (.cells #[.int .i64 (k : Int), v, .slice none 0 0] 72 (0, 0)) := (hn _ hsz (by omega)).trans s.out
  have hs : ∀ b, b ≠ B7 → (W1.setCell ⟨B7, 1, none⟩ v1).heap[b]? = W1.heap[b]? := fun b hb => Below.heap_setCell W1 ⟨B7, 1, none⟩ v1 b hb
  refine ⟨⟨(hs _ (by omega)).trans ((hn _ (by omega) (by omega)).trans s.key), (hs _ (by omega)).trans ((hn _ (by omega) (by omega)).trans s.sg), (hs _ (by omega)).trans ((hn _ (by omega) (by omega)).trans s.kz), heap_setCell_same _ _ _ _ _ _ h7, own_move ho (fun b hb => hs b (by have := (ho.lt b hb).1; omega)), ?_, hlt, by have := hg.size; have := s.sz; simp [World.setCell]; omega⟩, cell_of_row _ _ 1 _ _ _ h7, frozen_of_row _ _ _ _ _ h7, ?_⟩
  · exact (s.ext.below.grown hg s.ext.below.size (fun b e => by have := (s.row.lt b e).1; omega)).setCell (p := ⟨B7, 1, none⟩) (by show w.heap.size ≤ B7; omega) _
  · exact (Kb.grown hg (fun b e => by obtain ⟨c, hc⟩ := own_typed s.row b e; exact ⟨c, _, _, hc, by decide⟩)).trans (Kb.setCell h7 (by decide) 1 v1)
theorem own_notdef {w : World} {base : Nat} {e : TypeId} {size n K : Nat} {v : Value} {xs : List Value} {d : Option (List Deferred)} (h : w.ownsRow base e size v n xs) (hk : w.heap[K]? = some (.deferred d)) (hb : v.ownBlock = some K) : False := by
  obtain ⟨c, hc⟩ := own_typed h K hb
  rw [hk] at hc
  cases hc
/-- what lies still behind Sign's loop -/
structure SignK (w W : World) (B7 D : Nat) (ks ss zs os : Array Value) (v1 : Value) (n1 : Nat) (xs1 : List Value) (v2 : Value) (n2 : Nat) (xs2 : List Value) : Prop where
  key : W.heap[w.heap.size]? = some (.cells ks 67 (0, 0))
  sg : W.heap[w.heap.size + 1]? = some (.cells ss 72 (0, 0))
  kz : W.heap[w.heap.size + 1 + 1]? = some (.cells zs 67 (0, 0))
  out : W.heap[B7]? = some (.cells os 72 (0, 0))
  row1 : W.ownsRow (B7 + 2) 9 1 v1 n1 xs1
  row2 : W.ownsRow (B7 + 2) 9 1 v2 n2 xs2
  ext : Ext w W
  lt : w.heap.size + 3 ≤ B7
  dd : W.heap[D]? = some (.deferred (some []))
  dl : B7 + 2 ≤ D
section
variable {w W : World} {B7 D : Nat} {ks ss zs os : Array Value} {v1 v2 : Value} {n1 n2 : Nat} {xs1 xs2 : List Value}
theorem SignK.drew (s : SignK w W B7 D ks ss zs os v1 n1 xs1 v2 n2 xs2) : SignK w W.drew B7 D ks ss zs os v1 n1 xs1 v2 n2 xs2 := ⟨s.key, s.sg, s.kz, s.out, s.row1, s.row2, s.ext.drew, s.lt, s.dd, s.dl⟩
theorem SignK.own (s : SignK w W B7 D ks ss zs os v1 n1 xs1 v2 n2 xs2) {b : Nat} (hb : b < B7 + 2) (hw : w.heap.size ≤ b) (i : Nat) (u : Value) : (W.setCell ⟨b, i, none⟩ u).ownsRow (B7 + 2) 9 1 v1 n1 xs1 ∧ (W.setCell ⟨b, i, none⟩ u).ownsRow (B7 + 2) 9 1 v2 n2 xs2 ∧ Ext w (W.setCell ⟨b, i, none⟩ u) ∧ (W.setCell ⟨b, i, none⟩ u).heap[D]? = some (.deferred (some [])) :=
  ⟨own_move s.row1 (fun k hk => Below.heap_setCell W ⟨b, i, none⟩ u k (by have := (s.row1.lt k hk).1; show k ≠ b; omega)), own_move s.row2 (fun k hk => Below.heap_setCell W ⟨b, i, none⟩ u k (by have := (s.row2.lt k hk).1; show k ≠ b; omega)),
   s.ext.below.setCell (p := ⟨b, i, none⟩) hw _, (Below.heap_setCell W ⟨b, i, none⟩ u D (by have := s.dl; show D ≠ b; omega)).trans s.dd⟩
theorem SignK.set_key (s : SignK w W B7 D ks ss zs os v1 n1 xs1 v2 n2 xs2) (i : Nat) (u : Value) : SignK w (W.setCell ⟨w.heap.size, i, none⟩ u) B7 D (ks.setIfInBounds i u) ss zs os v1 n1 xs1 v2 n2 xs2 := by
  have hl := s.lt
  obtain ⟨h1, h2, h3, h4⟩ := s.own (b := w.heap.size) (by omega) (by omega) i u
  have hs : ∀ b, b ≠ w.heap.size → (W.setCell ⟨w.heap.size, i, none⟩ u).heap[b]? = W.heap[b]? := fun b hb => Below.heap_setCell W ⟨w.heap.size, i, none⟩ u b hb
  exact ⟨heap_setCell_same _ _ _ _ _ _ s.key, (hs _ (by omega)).trans s.sg, (hs _ (by omega)).trans s.kz, (hs _ (by omega)).trans s.out, h1, h2, h3, hl, h4, s.dl⟩
theorem SignK.set_sg (s : SignK w W B7 D ks ss zs os v1 n1 xs1 v2 n2 xs2) (i : Nat) (u : Value) : SignK w (W.setCell ⟨w.heap.size + 1, i, none⟩ u) B7 D ks (ss.setIfInBounds i u) zs os v1 n1 xs1 v2 n2 xs2 := by
  have hl := s.lt
  obtain ⟨h1, h2, h3, h4⟩ := s.own (b := w.heap.size + 1) (by omega) (by omega) i u
  have hs : ∀ b, b ≠ w.heap.size + 1 → (W.setCell ⟨w.heap.size + 1, i, none⟩ u).heap[b]? = W.heap[b]? := fun b hb => Below.heap_setCell W ⟨w.heap.size + 1, i, none⟩ u b hb
  exact ⟨(hs _ (by omega)).trans s.key, heap_setCell_same _ _ _ _ _ _ s.sg, (hs _ (by omega)).trans s.kz, (hs _ (by omega)).trans s.out, h1, h2, h3, hl, h4, s.dl⟩
theorem SignK.set_kz (s : SignK w W B7 D ks ss zs os v1 n1 xs1 v2 n2 xs2) (i : Nat) (u : Value) : SignK w (W.setCell ⟨w.heap.size + 1 + 1, i, none⟩ u) B7 D ks ss (zs.setIfInBounds i u) os v1 n1 xs1 v2 n2 xs2 := by
  have hl := s.lt
  obtain ⟨h1, h2, h3, h4⟩ := s.own (b := w.heap.size + 1 + 1) (by omega) (by omega) i u
  have hs : ∀ b, b ≠ w.heap.size + 1 + 1 → (W.setCell ⟨w.heap.size + 1 + 1, i, none⟩ u).heap[b]? = W.heap[b]? := fun b hb => Below.heap_setCell W ⟨w.heap.size + 1 + 1, i, none⟩ u b hb
  exact ⟨(hs _ (by omega)).trans s.key, (hs _ (by omega)).trans s.sg, heap_setCell_same _ _ _ _ _ _ s.kz, (hs _ (by omega)).trans s.out, h1, h2, h3, hl, h4, s.dl⟩
theorem SignK.set_out (s : SignK w W B7 D ks ss zs os v1 n1 xs1 v2 n2 xs2) (i : Nat) (u : Value) : SignK w (W.setCell ⟨B7, i, none⟩ u) B7 D ks ss zs (os.setIfInBounds i u) v1 n1 xs1 v2 n2 xs2 := by
  have hl := s.lt
  obtain ⟨h1, h2, h3, h4⟩ := s.own (b := B7) (by omega) (by omega) i u
  have hs : ∀ b, b ≠ B7 → (W.setCell ⟨B7, i, none⟩ u).heap[b]? = W.heap[b]? := fun b hb => Below.heap_setCell W ⟨B7, i, none⟩ u b hb
  exact ⟨(hs _ (by omega)).trans s.key, (hs _ (by omega)).trans s.sg, (hs _ (by omega)).trans s.kz, heap_setCell_same _ _ _ _ _ _ s.out, h1, h2, h3, hl, h4, s.dl⟩
theorem SignK.key0 {x y z : Value} (s : SignK w W B7 D #[x, y, z] ss zs os v1 n1 xs1 v2 n2 xs2) : W.cell? ⟨w.heap.size, 0, none⟩ = some x ∧ W.frozen? ⟨w.heap.size, 0, none⟩ = false := ⟨cell_of_row W _ 0 _ _ _ s.key, frozen_of_row _ _ _ _ _ s.key⟩
theorem SignK.key1 {x y z : Value} (s : SignK w W B7 D #[x, y, z] ss zs os v1 n1 xs1 v2 n2 xs2) : W.cell? ⟨w.heap.size, 1, none⟩ = some y ∧ W.frozen? ⟨w.heap.size, 1, none⟩ = false := ⟨cell_of_row W _ 1 _ _ _ s.key, frozen_of_row _ _ _ _ _ s.key⟩
theorem SignK.key2 {x y z : Value} (s : SignK w W B7 D #[x, y, z] ss zs os v1 n1 xs1 v2 n2 xs2) : W.cell? ⟨w.heap.size, 2, none⟩ = some z ∧ W.frozen? ⟨w.heap.size, 2, none⟩ = false := ⟨cell_of_row W _ 2 _ _ _ s.key, frozen_of_row _ _ _ _ _ s.key⟩
theorem SignK.sg0 {x y z : Value} (s : SignK w W B7 D ks #[x, y, z] zs os v1 n1 xs1 v2 n2 xs2) : W.cell? ⟨w.heap.size + 1, 0, none⟩ = some x ∧ W.frozen? ⟨w.heap.size + 1, 0, none⟩ = false := ⟨cell_of_row W _ 0 _ _ _ s.sg, frozen_of_row _ _ _ _ _ s.sg⟩
theorem SignK.sg1 {x y z : Value} (s : SignK w W B7 D ks #[x, y, z] zs os v1 n1 xs1 v2 n2 xs2) : W.cell? ⟨w.heap.size + 1, 1, none⟩ = some y ∧ W.frozen? ⟨w.heap.size + 1, 1, none⟩ = false := ⟨cell_of_row W _ 1 _ _ _ s.sg, frozen_of_row _ _ _ _ _ s.sg⟩
theorem SignK.sg2 {x y z : Value} (s : SignK w W B7 D ks #[x, y, z] zs os v1 n1 xs1 v2 n2 xs2) : W.cell? ⟨w.heap.size + 1, 2, none⟩ = some z ∧ W.frozen? ⟨w.heap.size + 1, 2, none⟩ = false := ⟨cell_of_row W _ 2 _ _ _ s.sg, frozen_of_row _ _ _ _ _ s.sg⟩
theorem SignK.kz0 {x y z : Value} (s : SignK w W B7 D ks ss #[x, y, z] os v1 n1 xs1 v2 n2 xs2) : W.cell? ⟨w.heap.size + 1 + 1, 0, none⟩ = some x ∧ W.frozen? ⟨w.heap.size + 1 + 1, 0, none⟩ = false := ⟨cell_of_row W _ 0 _ _ _ s.kz, frozen_of_row _ _ _ _ _ s.kz⟩
theorem SignK.kz1 {x y z : Value} (s : SignK w W B7 D ks ss #[x, y, z] os v1 n1 xs1 v2 n2 xs2) : W.cell? ⟨w.heap.size + 1 + 1, 1, none⟩ = some y ∧ W.frozen? ⟨w.heap.size + 1 + 1, 1, none⟩ = false := ⟨cell_of_row W _ 1 _ _ _ s.kz, frozen_of_row _ _ _ _ _ s.kz⟩
theorem SignK.kz2 {x y z : Value} (s : SignK w W B7 D ks ss #[x, y, z] os v1 n1 xs1 v2 n2 xs2) : W.cell? ⟨w.heap.size + 1 + 1, 2, none⟩ = some z ∧ W.frozen? ⟨w.heap.size + 1 + 1, 2, none⟩ = false := ⟨cell_of_row W _ 2 _ _ _ s.kz, frozen_of_row _ _ _ _ _ s.kz⟩
theorem SignK.out0 {x y z : Value} (s : SignK w W B7 D ks ss zs #[x, y, z] v1 n1 xs1 v2 n2 xs2) : W.cell? ⟨B7, 0, none⟩ = some x ∧ W.frozen? ⟨B7, 0, none⟩ = false := ⟨cell_of_row W _ 0 _ _ _ s.out, frozen_of_row _ _ _ _ _ s.out⟩
theorem SignK.out1 {x y z : Value} (s : SignK w W B7 D ks ss zs #[x, y, z] v1 n1 xs1 v2 n2 xs2) : W.cell? ⟨B7, 1, none⟩ = some y ∧ W.frozen? ⟨B7, 1, none⟩ = false := ⟨cell_of_row W _ 1 _ _ _ s.out, frozen_of_row _ _ _ _ _ s.out⟩
theorem SignK.out2 {x y z : Value} (s : SignK w W B7 D ks ss zs #[x, y, z] v1 n1 xs1 v2 n2 xs2) : W.cell? ⟨B7, 2, none⟩ = some z ∧ W.frozen? ⟨B7, 2, none⟩ = false := ⟨cell_of_row W _ 2 _ _ _ s.out, frozen_of_row _ _ _ _ _ s.out⟩
end
set_option maxRecDepth 100000 in
set_option maxHeartbeats 4000000 in
theorem Sign_yes (seed : ByteArray) (h k : Nat) (m : ByteArray) (w : World) (h1 : seed.size = 32) (h3 : h ≤ 6) (hk : k < 2 ^ h) (hm : m.size ≤ 140737488355328) :
    Calls Try.prog 43 #[keyV seed h k, .string m] w fun e w' => ∃ v1 v2, e = .returned (.tuple #[.agg #[.int .i64 (k : Int), v1, v2], keyV seed h ((k + 1 : Nat) : Int), .int .i64 0]) ∧
      w'.ownsRow w.heap.size 9 1 v1 67 ((sigCh seed k (digs m) 67).map Value.string) ∧ w'.ownsRow w.heap.size 9 1 v2 (incl (leaves seed (2 ^ h)) k).length ((incl (leaves seed (2 ^ h)) k).map Value.string) ∧ Below w.heap.size w w' := by
  have HV := Lib.hid (fun w' => valid_yes seed h k w' h1 h3 (by omega) (by omega))
  have pw := pow_wrap h3
  have pw' := pow_wrap' h3
  have p64 := pow_le64 h3
  obtain ⟨N, hN⟩ : ∃ N, N = 2 ^ h := ⟨_, rfl⟩
  rw [← hN] at pw pw' hk p64
  have HC := Lib.hid (show ∀ w' o1 o2, Ext (((w.alloc (.cells (keyC seed h k) 67)).alloc o1).alloc o2) w' → _ from fun w' o1 o2 hb => box_cells (w' := w') (((Below.refl _ _).alloc (by simp) o1).alloc (by simp) o2 |>.trans ((Ext.below hb).mono (by simp))))
  have HD := Lib.hid (fun w' => digits_calls m w')
  have HLV := Lib.hid (fun w' => leaves_calls seed h k w' (by omega) h3)
  have HIN := Lib.hid (show ∀ (w' : World) (A : Option Addr) (c : Nat), Strs w' A (leaves seed (2 ^ h)).length (leaves seed (2 ^ h)) → (leaves seed (2 ^ h)).length ≤ c → _ from fun w' A c hr hc => Inclusion_calls A c (leaves seed (2 ^ h)) k w' (by rw [leaves_length, ← hN]; exact hk) hr hc (by rw [leaves_length]; have := pow_le64 h3; omega) ((dgst_iff _).2 (leaves_size _ _)))
  have HN := Lib.hid hN
  clear hN
  refine (callsIn_wide (n := 6)).1 ?_
  refine callsIn_of_wp_marks Try.func43 rfl trivial ?_ rfl
  simp only [Try.ntmps43, List.size_toArray, List.length_cons, List.length_nil, Nat.reduceAdd, Nat.reduceSub, Array.replicate_succ, Array.replicate_zero, List.push_toArray, List.append_toArray, List.nil_append, List.cons_append]
  have hf1 : Fence.wide.fn 73 := trivial
  gi_wp2_with (gi_at_call 73; refine (callsIn_wide.2 (HV.out _)).mono ?_; rintro e w1 ⟨rfl, hb1⟩)
  have hx : ∀ b, b < w.heap.size + 3 → w1.heap[b]? = (((w.alloc (.cells (keyC seed h k) 67)).alloc (.cells #[.int .i64 0, .slice none 0 0, .slice none 0 0] 72)).alloc (.cells #[.string ⟨#[]⟩, .int .i64 0, .int .i64 0] 67)).heap[b]? := fun b hb => hb1.block b (by simp; omega)
  have g0 : w1.heap[w.heap.size]? = some (.cells (keyC seed h k) 67 (0, 0)) := by
    rw [hx _ (by omega), Below.heap_alloc _ _ _ (by simp; omega), Below.heap_alloc _ _ _ (by simp)]; exact heap_alloc_new _ _
  have g1 : w1.heap[w.heap.size + 1]? = some (.cells #[.int .i64 0, .slice none 0 0, .slice none 0 0] 72 (0, 0)) := by
    rw [hx _ (by omega), Below.heap_alloc _ _ _ (by simp)]; have := heap_alloc_new (w.alloc (.cells (keyC seed h k) 67)) (.cells #[.int .i64 0, .slice none 0 0, .slice none 0 0] 72); simpa using this
  have g2 : w1.heap[w.heap.size + 1 + 1]? = some (.cells #[.string ⟨#[]⟩, .int .i64 0, .int .i64 0] 67 (0, 0)) := by
    rw [hx _ (by omega)]; have := heap_alloc_new ((w.alloc (.cells (keyC seed h k) 67)).alloc (.cells #[.int .i64 0, .slice none 0 0, .slice none 0 0] 72)) (.cells #[.string ⟨#[]⟩, .int .i64 0, .int .i64 0] 67); simpa using this
  have hE1 : Ext w w1 := Ext.call (Ext.alloc (Ext.alloc (Ext.alloc (Ext.refl w) _) _) _) hb1
  have hs1 : w.heap.size + 3 ≤ w1.heap.size := by have := hb1.size; simpa using this
  have c1 := cell_of_row w1 w.heap.size 1 _ _ _ g0
  have c2 := cell_of_row w1 w.heap.size 2 _ _ _ g0
  clear hx hb1
  have tk : ((k : Int) == (N : Int)) = false := beq_eq_false_iff_ne.mpr (by omega)
  refine wpIn_wide.2 ?_
  refine Sd.regionC (fun w' => w' = w1.drew) [(0, 0), (1, 1), (2, 0), (3, 1), (4, 0), (5, 0), (6, 0)] (by kernel_rfl) (by kernel_rfl) rfl ?_
  iterate 3 (first | (refine Sd.s0 rfl (fun K hK => ?_); go_simp; refine hK _ ?_; clear hK K) | (refine Sd.s1 rfl (fun K hK => ?_); go_simp; refine hK _ ?_; clear hK K))
  iterate 4 (first | (refine Sd.s0 rfl (fun K hK => ?_); go_simp; refine hK _ ?_; clear hK K) | (refine Sd.s1 rfl (fun K hK => ?_); go_simp; refine hK _ ?_; clear hK K))
  refine Sd.nilC ?_
  have hEd := hE1.drew
  have hf2 : Fence.wide.fn 74 := trivial
  gi_wp2_with (gi_at_call 74; refine (callsIn_wide.2 (HD.out _)).mono ?_; rintro e w2 ⟨rfl, rfl⟩)
  obtain ⟨W2, hW2⟩ : ∃ W2, W2 = ((w1.alloc (.cells #[.int .i64 (k : Int), .slice none 0 0, .slice none 0 0] 72)).alloc (.cells #[.string m] 9)).drew := ⟨_, rfl⟩
  rw [← hW2]
  have hx : ∀ b, b < w1.heap.size → W2.heap[b]? = w1.heap[b]? := fun b hb => by
    rw [hW2]
    show ((w1.alloc (.cells #[.int .i64 (k : Int), .slice none 0 0, .slice none 0 0] 72)).alloc (.cells #[.string m] 9)).heap[b]? = _
    rw [Below.heap_alloc _ _ _ (by simp; omega), Below.heap_alloc _ _ _ hb]
  have hb7 : W2.heap[w1.heap.size]? = some (.cells #[.int .i64 (k : Int), .slice none 0 0, .slice none 0 0] 72 (0, 0)) := by
    rw [hW2]
    show ((w1.alloc (.cells #[.int .i64 (k : Int), .slice none 0 0, .slice none 0 0] 72)).alloc (.cells #[.string m] 9)).heap[w1.heap.size]? = _
    rw [Below.heap_alloc _ _ _ (by simp)]; exact heap_alloc_new _ _
  have hb8 : W2.cell? ⟨w1.heap.size + 1, 0, none⟩ = some (.string m) := by
    rw [hW2]
    have := new_cells (w1.alloc (.cells #[.int .i64 (k : Int), .slice none 0 0, .slice none 0 0] 72)) [.string m] 9 0 _ rfl
    rw [World.size_alloc] at this
    exact this
  have hs2 : W2.heap.size = w1.heap.size + 2 := by rw [hW2]; simp [World.drew]
  have hE2 : Ext w W2 := by rw [hW2]; exact (Ext.alloc (Ext.alloc hE1 _) _).drew
  have HI0 := Lib.hid (show SignI w W2 w1.heap.size seed h k [] from ⟨_, (hx _ (by omega)).trans g0, (hx _ (by omega)).trans g1, (hx _ (by omega)).trans g2, hb7, World.ownsRow_nil _ _ _ _, hE2, by omega, by omega⟩)
  have HB8 := Lib.hid hb8
  clear hW2 hx hb7 hb8 g0 g1 g2 c1 c2 hEd
  obtain ⟨B7, hB7⟩ : ∃ B7, B7 = w1.heap.size := ⟨_, rfl⟩
  rw [← hB7] at HI0 HB8 hs2 hs1 ⊢
  clear hB7
  refine wpIn_named (fun a' ha => ?_)
  refine wpIn_rangeFunc_ownG rfl (by omega) (gf := 96) (lb := #[.pointer (some ⟨B7 + 1, 0, none⟩)]) (by rw [ha]; rfl) trivial (enters_of Try.func96 (by kernel_rfl) rfl) (encs := encD) (Kp := KpI) (S := fun ys => ys = dl m 67) (Sp := fun _ => True) (N := 67) (w0 := W2)
    (fun l J Jx W hW hJ _ hY h0 => iter_in 5 (by omega) l (B7 + 1) m hm J Jx W hJ hY ((hW.cell (p := ⟨B7 + 1, 0, none⟩) (by rw [hs2]; show B7 + 1 < _; omega)).trans HB8.out) h0)
    KpI.trans (fun W l o o' hl h1 h2 h3 => KpI.putObj W l o o' hl h1 h2 h3) (Below.refl _ _) (fun _ => rfl)
    (fun pre W => SignI w W B7 seed h k pre) (fun _ _ _ => False) (by rw [hs2]; exact SignI.own) (fun _ => fun _ _ _ _ h _ _ => h) HI0.out
    (fun x => { tmps := (((a'.tmps.setIfInBounds 30 (.int .i64 (x.1.1 : Int))).setIfInBounds 31 (.int .i64 (x.1.2 : Int))).setIfInBounds 8 (.int .i64 (x.1.1 : Int))).setIfInBounds 9 (.int .i64 (x.1.2 : Int)), defers := [] }) ?assign ?body ?done ?stop
  case assign =>
    intro l x W K hK
    subst ha
    simp only [encD] at hK ⊢
    gi_wp2
    exact hK
  case stop =>
    rintro D c pre W _ _ h _
    exact h.elim
  case body =>
    rintro l pre x W hI hlen
    subst ha
    obtain ⟨v, hI⟩ := hI
    obtain ⟨⟨c, d⟩, hcd⟩ := x
    obtain ⟨hc67, hd15⟩ := hcd
    simp only at hc67 hd15
    have HL := Lib.hid (sgCh_snoc seed k pre ⟨(c, d), ⟨hc67, hd15⟩⟩)
    obtain ⟨s, hse⟩ : ∃ s, s = sec seed k c := ⟨_, rfl⟩
    have hss : s.size = 32 := by rw [hse]; exact H_size _
    have hk62 : k < 4611686018427387904 := by omega
    have HX := Lib.hid (show ∀ w', Calls Try.prog 76 #[.string seed, .int .i64 (k : Int), .int .i64 (c : Int)] w' fun e w'' => e = .returned (.string s) ∧ Below w'.heap.size w' w'' from fun w' => by rw [hse]; exact secret_calls seed k c w' (by omega) hk62 (by omega))
    have HW := Lib.hid (show ∀ w', Calls Try.prog 75 #[.string s, .int .i64 (k : Int), .int .i64 (c : Int), .int .i64 0, .int .i64 (d : Int)] w' fun e w'' => e = .returned (.string (wk k c d 0 s)) ∧ Below w'.heap.size w' w'' from fun w' => walk_calls s k c 0 d d w' (by omega) hss hk62 (by omega) (by omega) (by omega))
    obtain ⟨y, hy⟩ : ∃ y, y = wk k c d 0 s := ⟨_, rfl⟩
    rw [← hy] at HW
    have HY := Lib.hid (show wk k c d 0 (sec seed k c) = y by rw [hy, hse])
    have HI := Lib.hid hI
    have hBW := hI.size
    clear hse hss hy hI
    simp only [List.setIfInBounds_toArray, List.set_cons_zero, List.set_cons_succ]
    gi_wp2
    refine Sd.regionIn (fun w' => SignJ w w' B7 seed h k v pre.length ((sgCh seed k pre).map Value.string)) [(0, 0), (1, 1), (2, 0), (3, 1), (4, 0), (5, 1), (6, 0), (8, 0), (9, 1), (10, 0), (11, 0), (7, 2), (12, 2), (13, 2), (14, 3), (15, 0), (16, 3)] (by kernel_rfl) (by kernel_rfl) rfl HI.out.drew ?_
    (refine Sd.s0 rfl (fun K hK => ?_); go_simp; refine hK _ ?_; clear hK K)
    (refine Sd.s1 rfl (fun K hK => ?_); go_simp; refine ⟨v, fun w' hw' => (by have e := hw'.c7; simp [e, Result.andThen]), hK _ ?_⟩; clear hK K)
    (refine Sd.s0 rfl (fun K hK => ?_); go_simp; refine hK _ ?_; clear hK K)
    (refine Sd.s1 rfl (fun K hK => ?_); go_simp; refine ⟨.string seed, fun w' hw' => (by have e := hw'.c0; simp [e, Result.andThen]), hK _ ?_⟩; clear hK K)
    (refine Sd.s0 rfl (fun K hK => ?_); go_simp; refine hK _ ?_; clear hK K)
    (refine Sd.s1 rfl (fun K hK => ?_); go_simp; refine ⟨.int .i64 k, fun w' hw' => (by have e := hw'.c2; simp [e, Result.andThen]), hK _ ?_⟩; clear hK K)
    (refine Sd.s0 rfl (fun K hK => ?_); go_simp; refine hK _ ?_; clear hK K)
    (refine Sd.s0 rfl (fun K hK => ?_); go_simp; refine hK _ ?_; clear hK K)
    (refine Sd.s1 rfl (fun K hK => ?_); go_simp; refine ⟨.int .i64 k, fun w' hw' => (by have e := hw'.c2; simp [e, Result.andThen]), hK _ ?_⟩; clear hK K)
    (refine Sd.s0 rfl (fun K hK => ?_); go_simp; refine hK _ ?_; clear hK K)
    (refine Sd.s0 rfl (fun K hK => ?_); go_simp; refine hK _ ?_; clear hK K)
    (refine Sd.s2 rfl (fun K hK => ?_); go_simp; refine (HX.out _).mono ?_; rintro e w3 ⟨rfl, hb3⟩; have J3 := HI.out.drew.call hb3; have k3 := (Kb.drew W).trans (Kb.call hb3); refine hK _ _ J3 ?_; clear hK K hb3)
    (refine Sd.s2 rfl (fun K hK => ?_); go_simp; refine (HW.out _).mono ?_; rintro e w4 ⟨rfl, hb4⟩; have J4 := J3.call hb4; have k4 := k3.trans (Kb.call hb4); refine hK _ _ J4 ?_; clear hK K hb4)
    (refine Sd.s2 rfl (fun K hK => ?_); go_simp; refine hK _ _ (J4.alloc _) ?_; clear hK K)
    refine Sd.s3 rfl (fun K hK => ?_)
    refine Sd.append_ (B7 + 2) rfl (.tmp 33) (.tmp 45) 22 9 (.string ⟨#[]⟩) 1 16 rfl Try.underlying22 infoS rfl (by decide) v pre.length _ ⟨w4.heap.size, 0, none⟩ 1 1 [.string y] rfl rfl rfl (new_one _ _ _) (by simp [Value.oneCell']) (J4.alloc _).row (by unfold maxLen; omega) (by omega) (J4.alloc _).sz ?_
    intro v1 w5 ho5 hg5
    obtain ⟨A5, q5, rfl⟩ := own_slice ho5
    obtain ⟨J5, c5, f5, k5⟩ := (J4.alloc _).store hg5 ho5
    have J5 := Lib.hid J5
    have K5 := Lib.hid ((k4.trans (Kb.alloc _ _)).trans k5)
    clear ho5 hg5 k5 k4 k3 J3 J4
    refine hK _ _ ?_
    clear hK K
    (refine Sd.s0 rfl (fun K hK => ?_); go_simp; refine hK _ ?_; clear hK K)
    (refine Sd.s3 rfl (fun K hK => ?_); go_simp; refine hK _ _ ?_; clear hK K)
    refine Sd.nilC ?_
    refine ⟨K5.out.1.from _, K5.out.2, .slice A5 (pre.length + 1) q5, ?_⟩
    rw [HL.out, HY.out, List.map_append, List.length_append]
    exact J5.out
  case done =>
    rintro D ys W hD rfl ⟨v, hI⟩ hK
    subst ha
    rw [sgCh_dl, dl_length] at hI
    have HDD := Lib.hid hK
    have hDl : D < W.heap.size := (Array.getElem?_eq_some_iff.1 hK).1
    have HI := Lib.hid hI
    have HSI := Lib.hid hI.sz
    obtain ⟨A1, q1, rfl⟩ := own_slice hI.row
    clear hK hI
    dsimp only
    gi_wp2
    refine wpIn_wide.2 ?_
    refine Sd.regionC (fun w' => SignJ w w' B7 seed h k (.slice A1 67 q1) 67 ((sigCh seed k (digs m) 67).map Value.string)) [(0, 1), (2, 0), (3, 1), (1, 2), (4, 2), (5, 0), (6, 0), (7, 0), (8, 0), (9, 3)] (by kernel_rfl) (by kernel_rfl) HI.out.drew ?_
    (refine Sd.s1 rfl (fun K hK => ?_); go_simp; refine ⟨keyV seed h k, fun w' hw' => (by have e0 := hw'.c0; have e1 := hw'.c1; have e2 := hw'.c2; simp [e0, e1, e2, Result.andThen]), hK _ ?_⟩; clear hK K)
    (refine Sd.s0 rfl (fun K hK => ?_); go_simp; refine hK _ ?_; clear hK K)
    (refine Sd.s1 rfl (fun K hK => ?_); go_simp; refine ⟨.int .i64 k, fun w' hw' => (by have e2 := hw'.c2; simp [e2, Result.andThen]), hK _ ?_⟩; clear hK K)
    (refine Sd.s2 rfl (fun K hK => ?_); go_simp; refine (HLV.out _).mono ?_; rintro e w3 ⟨vl, rfl, hol, hb3⟩; obtain ⟨Al, cl, rfl, hcl, hrl⟩ := strs_of_own hol; have J3 := HI.out.drew.call hb3; have d3 := Ext.block hb3 (show W.drew.heap[D]? = _ from HDD.out); refine hK _ _ J3 ?_; clear hK K hol hb3)
    (refine Sd.s2 rfl (fun K hK => ?_); go_simp; refine (HIN.out _ _ _ hrl hcl).mono ?_; rintro e w4 ⟨v2, rfl, ho2, hb4⟩; obtain ⟨A2, q2, rfl⟩ := own_slice ho2; have J4 := J3.call hb4; have d4 := Ext.block hb4 d3; have z3 := J3.sz; refine hK _ _ J4 ?_; clear hK K hb4)
    iterate 4 (refine Sd.s0 rfl (fun K hK => ?_); go_simp; refine hK _ ?_; clear hK K)
    have hQ4 : SignK w w4 B7 D (keyC seed h k) #[.int .i64 0, .slice none 0 0, .slice none 0 0] #[.string ⟨#[]⟩, .int .i64 0, .int .i64 0] #[.int .i64 (k : Int), .slice A1 67 q1, .slice none 0 0] (.slice A1 67 q1) 67 ((sigCh seed k (digs m) 67).map Value.string) (.slice A2 _ q2) _ ((incl (leaves seed (2 ^ h)) k).map Value.string) :=
      ⟨J4.key, J4.sg, J4.kz, J4.out, J4.row, own_weaken ho2 z3, J4.ext, J4.lt, d4, by rw [← hs2]; exact hD⟩
    have hx7 := hQ4.out2
    have HQ5 := Lib.hid (hQ4.set_out 2 (.slice A2 (incl (leaves seed (2 ^ h)) k).length q2))
    clear hQ4 J3 J4 d3 d4 z3 ho2 hrl hcl
    obtain ⟨hx7a, hx7b⟩ := hx7
    (refine Sd.s3 rfl (fun K hK => ?_); go_simp; refine hK _ _ ?_; clear hK K)
    refine Sd.nilC ?_
    clear hx7a hx7b
    obtain ⟨w5, hw5⟩ : ∃ w5, w5 = w4.setCell ⟨B7, 2, none⟩ (.slice A2 (incl (leaves seed (2 ^ h)) k).length q2) := ⟨_, rfl⟩
    rw [← hw5] at HQ5 ⊢
    clear hw5
    have hk2 := HQ5.out.key2
    obtain ⟨hk2a, hk2b⟩ := hk2
    have HQ6 := Lib.hid (HQ5.out.set_key 2 (.int .i64 ((k : Int) + 1)))
    gi_wp2
    clear hk2a hk2b HQ5
    obtain ⟨w6, hw6⟩ : ∃ w6, w6 = w5.setCell ⟨w.heap.size, 2, none⟩ (.int .i64 ((k : Int) + 1)) := ⟨_, rfl⟩
    rw [← hw6] at HQ6 ⊢
    clear hw6
    have HQ6 : Hid (SignK w w6 B7 D #[.string seed, .int .i64 (h : Int), .int .i64 ((k : Int) + 1)] #[.int .i64 0, .slice none 0 0, .slice none 0 0] #[.string ⟨#[]⟩, .int .i64 0, .int .i64 0] #[.int .i64 (k : Int), .slice A1 67 q1, .slice A2 (incl (leaves seed (2 ^ h)) k).length q2] (.slice A1 67 q1) 67 ((sigCh seed k (digs m) 67).map Value.string) (.slice A2 (incl (leaves seed (2 ^ h)) k).length q2) (incl (leaves seed (2 ^ h)) k).length ((incl (leaves seed (2 ^ h)) k).map Value.string)) := HQ6
    obtain ⟨NI, hNI⟩ : ∃ NI, NI = (incl (leaves seed (2 ^ h)) k).length := ⟨_, rfl⟩
    obtain ⟨X1, hX1⟩ : ∃ X, X = (sigCh seed k (digs m) 67).map Value.string := ⟨_, rfl⟩
    obtain ⟨X2, hX2⟩ : ∃ X, X = (incl (leaves seed (2 ^ h)) k).map Value.string := ⟨_, rfl⟩
    rw [← hNI, ← hX1, ← hX2] at HQ6
    rw [← hNI]
    have HNI := Lib.hid hNI
    have HX1 := Lib.hid hX1
    have HX2 := Lib.hid hX2
    clear hNI hX1 hX2
    refine wpIn_wide.2 ?_
    have hs0 := HQ6.out.sg0
    have hs1' := HQ6.out.sg1
    have hs2' := HQ6.out.sg2
    obtain ⟨hs0a, hs0b⟩ := hs0
    obtain ⟨hs1a, hs1b⟩ := hs1'
    obtain ⟨hs2a, hs2b⟩ := hs2'
    have HQ7 := Lib.hid ((((HQ6.out.set_sg 0 (.int .i64 (k : Int))).set_sg 1 (.slice A1 67 q1)).set_sg 2 (.slice A2 NI q2)).drew)
    refine Sd.regionC (fun w' => ∃ ss zs, SignK w w' B7 D #[.string seed, .int .i64 (h : Int), .int .i64 ((k : Int) + 1)] ss zs #[.int .i64 (k : Int), .slice A1 67 q1, .slice A2 NI q2] (.slice A1 67 q1) 67 X1 (.slice A2 NI q2) NI X2) [(0, 1), (1, 1), (2, 2), (3, 3), (4, 0)] (by kernel_rfl) (by kernel_rfl) ⟨_, _, HQ6.out.drew⟩ ?_
    (refine Sd.s1 rfl (fun K hK => ?_); go_simp; refine ⟨.agg #[.int .i64 k, .slice A1 67 q1, .slice A2 NI q2], fun w' ss zs hw' => (by have e0 := hw'.out0.1; have e1 := hw'.out1.1; have e2 := hw'.out2.1; simp [e0, e1, e2, Result.andThen]), hK _ ?_⟩; clear hK K)
    (refine Sd.s1 rfl (fun K hK => ?_); go_simp; refine ⟨keyV seed h ((k : Int) + 1), fun w' ss zs hw' => (by have e0 := hw'.key0.1; have e1 := hw'.key1.1; have e2 := hw'.key2.1; simp [e0, e1, e2, Result.andThen]), hK _ ?_⟩; clear hK K)
    (refine Sd.s2 rfl (fun K hK => ?_); go_simp; refine hK _ _ ⟨_, _, HQ7.out⟩ ?_; clear hK K)
    clear hs0a hs0b hs1a hs1b hs2a hs2b HQ6
    obtain ⟨w7, hw7⟩ : ∃ w7, w7 = (((w6.setCell ⟨w.heap.size + 1, 0, none⟩ (.int .i64 (k : Int))).setCell ⟨w.heap.size + 1, 1, none⟩ (.slice A1 67 q1)).setCell ⟨w.heap.size + 1, 2, none⟩ (.slice A2 NI q2)).drew := ⟨_, rfl⟩
    rw [← hw7] at HQ7 ⊢
    clear hw7
    have HQ7 : Hid (SignK w w7 B7 D #[.string seed, .int .i64 (h : Int), .int .i64 ((k : Int) + 1)] #[.int .i64 (k : Int), .slice A1 67 q1, .slice A2 NI q2] #[.string ⟨#[]⟩, .int .i64 0, .int .i64 0] #[.int .i64 (k : Int), .slice A1 67 q1, .slice A2 NI q2] (.slice A1 67 q1) 67 X1 (.slice A2 NI q2) NI X2) := HQ7
    have hs0 := HQ7.out.kz0
    have hs1' := HQ7.out.kz1
    have hs2' := HQ7.out.kz2
    obtain ⟨hs0a, hs0b⟩ := hs0
    obtain ⟨hs1a, hs1b⟩ := hs1'
    obtain ⟨hs2a, hs2b⟩ := hs2'
    have HQ8 := Lib.hid (((HQ7.out.set_kz 0 (.string seed)).set_kz 1 (.int .i64 (h : Int))).set_kz 2 (.int .i64 ((k : Int) + 1)))
    (refine Sd.s3 rfl (fun K hK => ?_); go_simp; refine hK _ _ ?_; clear hK K)
    clear hs0a hs0b hs1a hs1b hs2a hs2b HQ7
    obtain ⟨w8, hw8⟩ : ∃ w8, w8 = ((w7.setCell ⟨w.heap.size + 1 + 1, 0, none⟩ (.string seed)).setCell ⟨w.heap.size + 1 + 1, 1, none⟩ (.int .i64 (h : Int))).setCell ⟨w.heap.size + 1 + 1, 2, none⟩ (.int .i64 ((k : Int) + 1)) := ⟨_, rfl⟩
    rw [← hw8] at HQ8 ⊢
    clear hw8
    have HQ8 : Hid (SignK w w8 B7 D #[.string seed, .int .i64 (h : Int), .int .i64 ((k : Int) + 1)] #[.int .i64 (k : Int), .slice A1 67 q1, .slice A2 NI q2] #[.string seed, .int .i64 (h : Int), .int .i64 ((k : Int) + 1)] #[.int .i64 (k : Int), .slice A1 67 q1, .slice A2 NI q2] (.slice A1 67 q1) 67 X1 (.slice A2 NI q2) NI X2) := HQ8
    (refine Sd.s0 rfl (fun K hK => ?_); go_simp; refine hK _ ?_; clear hK K)
    refine Sd.nilC ?_
    gi_wp2
    have hl := HQ8.out.lt
    have hdl := HQ8.out.dl
    have hput : ∀ b, b ≠ D → (w8.putObj D (.deferred none)).heap[b]? = w8.heap[b]? := fun b hb => World.putObj_heap_other hb
    have hcel : ∀ (b i : Nat), b ≠ D → (w8.putObj D (.deferred none)).cell? ⟨b, i, none⟩ = w8.cell? ⟨b, i, none⟩ := fun b i hb => World.cell?_of_block (a := ⟨b, i, none⟩) (hput b hb)
    refine ⟨by simp, .inl ⟨_, _, rfl, run_takeDeferred HQ8.out.dd, ?_⟩⟩
    have r0 := (hcel (w.heap.size + 1) 0 (by omega)).trans HQ8.out.sg0.1
    have r1 := (hcel (w.heap.size + 1) 1 (by omega)).trans HQ8.out.sg1.1
    have r2 := (hcel (w.heap.size + 1) 2 (by omega)).trans HQ8.out.sg2.1
    have r3 := (hcel (w.heap.size + 1 + 1) 0 (by omega)).trans HQ8.out.kz0.1
    have r4 := (hcel (w.heap.size + 1 + 1) 1 (by omega)).trans HQ8.out.kz1.1
    have r5 := (hcel (w.heap.size + 1 + 1) 2 (by omega)).trans HQ8.out.kz2.1
    refine ⟨.tuple #[.agg #[.int .i64 (k : Int), .slice A1 67 q1, .slice A2 NI q2], keyV seed h ((k : Int) + 1), .int .i64 0], by simp [results, Try.results43, go_sem, r0, r1, r2, r3, r4, r5], .slice A1 67 q1, .slice A2 NI q2, rfl, ?_, ?_, ?_⟩
    · rw [← HX1.out]; exact own_weaken (own_move HQ8.out.row1 (fun b hb => hput b (fun e => by subst e; exact own_notdef HQ8.out.row1 HQ8.out.dd hb))) (by omega)
    · rw [← HX2.out, ← HNI.out]; exact own_weaken (own_move HQ8.out.row2 (fun b hb => hput b (fun e => by subst e; exact own_notdef HQ8.out.row2 HQ8.out.dd hb))) (by omega)
    · exact HQ8.out.ext.below.trans (belowK_b (w := w) (Nat.le_refl _) w8 D _ _ (by omega) HQ8.out.dd rfl rfl)
end Go.Proofs.Ytldkkboeaadbeaa.Sg
end
