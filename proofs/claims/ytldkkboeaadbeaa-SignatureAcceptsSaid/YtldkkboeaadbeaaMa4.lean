/- ShaD, ShaE, ShaF -/
import Derived.Test.YtldkkboeaadbeaaMa3
import Derived.Deep.MidRow
import Derived.Laws.BytesString
import Derived.Lib.ConvBytes
import Derived.Test.YtldkkboeaadbeaaMa1
section
/- SHA-256: the constants, and a block added to a state. -/
set_option linter.unusedVariables false
set_option linter.unusedSimpArgs false
namespace Go.Proofs.Ytldkkboeaadbeaa.Sh
open Go.RowKit
/-- the state of a digest in memory -/
abbrev TH : TypeId := 151
def St.v (s : St) : List Value := [uw s.a, uw s.b, uw s.c, uw s.d, uw s.e, uw s.f, uw s.g, uw s.h]
def IsH (w : World) (g : Nat) (st : St) (rest : ByteArray) (total : Nat) : Prop :=
  w.heap[g]? = some (.cells #[uw st.a, uw st.b, uw st.c, uw st.d, uw st.e, uw st.f, uw st.g, uw st.h, .string rest, .int .u64 (total : Nat)] TH (0, 0))
structure St.ok (s : St) : Prop where
  a : s.a < 4294967296
  b : s.b < 4294967296
  c : s.c < 4294967296
  d : s.d < 4294967296
  e : s.e < 4294967296
  f : s.f < 4294967296
  g : s.g < 4294967296
  h : s.h < 4294967296
theorem rnd_ok {s : St} (h : s.ok) (k w : Nat) : (rnd s k w).ok := ⟨Nat.mod_lt _ (by decide), h.a, h.b, h.c, Nat.mod_lt _ (by decide), h.e, h.f, h.g⟩
theorem add_ok (s t : St) : (s.add t).ok := ⟨Nat.mod_lt _ (by decide), Nat.mod_lt _ (by decide), Nat.mod_lt _ (by decide), Nat.mod_lt _ (by decide), Nat.mod_lt _ (by decide), Nat.mod_lt _ (by decide), Nat.mod_lt _ (by decide), Nat.mod_lt _ (by decide)⟩
def upto (s : St) (ws : List Nat) (i : Nat) : St := rounds s (kk.take i) (ws.take i)
theorem rounds_snoc : ∀ (ks ws : List Nat) (s : St) (k w : Nat), ks.length = ws.length → rounds s (ks ++ [k]) (ws ++ [w]) = rnd (rounds s ks ws) k w
  | [], [], s, k, w, _ => by simp [rounds]
  | k0 :: ks, w0 :: ws, s, k, w, h => by
    simp only [List.cons_append, rounds]
    exact rounds_snoc ks ws _ k w (by simpa using h)
  | [], _ :: _, _, _, _, h => by simp at h
  | _ :: _, [], _, _, _, h => by simp at h
theorem take_snoc (l : List Nat) (i : Nat) (h : i < l.length) : l.take (i + 1) = l.take i ++ [l.getD i 0] := by
  rw [List.take_succ_eq_append_getElem h]; simp [List.getD_eq_getElem?_getD, h]
theorem upto_succ (s : St) (ws : List Nat) (hw : ws.length = 64) (i : Nat) (hi : i < 64) : upto s ws (i + 1) = rnd (upto s ws i) (kk.getD i 0) (ws.getD i 0) := by
  unfold upto
  rw [take_snoc kk i (by rw [kk_length]; exact hi), take_snoc ws i (by rw [hw]; exact hi), rounds_snoc]
  rw [List.length_take, List.length_take, kk_length, hw]
theorem upto_ok {s : St} (h : s.ok) (ws : List Nat) (hw : ws.length = 64) : ∀ i, i ≤ 64 → (upto s ws i).ok
  | 0, _ => by unfold upto; simpa [rounds] using h
  | i + 1, hi => by rw [upto_succ s ws hw i (by omega)]; exact rnd_ok (upto_ok h ws hw i (by omega)) _ _
theorem upto_all (s : St) (ws : List Nat) (hw : ws.length = 64) : upto s ws 64 = rounds s kk ws := by
  unfold upto; rw [List.take_of_length_le (Nat.le_of_eq kk_length), List.take_of_length_le (Nat.le_of_eq hw)]
theorem IsH.range {w : World} {g : Nat} {st : St} {rest : ByteArray} {total : Nat} (h : IsH w g st rest total) : w.rangeAt g 0 st.v := by
  have := World.rangeAt_of_block h 0 8
  simpa [St.v] using this
theorem IsH.lt {w : World} {g : Nat} {st : St} {rest : ByteArray} {total : Nat} (h : IsH w g st rest total) : g < w.heap.size := (Array.getElem?_eq_some_iff.1 h).1
theorem IsH.alloc {w : World} {g : Nat} {st : St} {rest : ByteArray} {total : Nat} (h : IsH w g st rest total) (o : Obj) : IsH (w.alloc o) g st rest total := (Below.heap_alloc w o g h.lt).trans h
theorem IsH.setRow {w : World} {g b : Nat} {st : St} {rest : ByteArray} {total : Nat} (h : IsH w g st rest total) (hne : g ≠ b) (cs : Array Value) : IsH (w.setRow b cs) g st rest total := (setRow_other _ _ _ _ hne).trans h
theorem IsH.below {w w' : World} {g : Nat} {st : St} {rest : ByteArray} {total : Nat} (h : IsH w g st rest total) (hb : Below w.heap.size w w') : IsH w' g st rest total := (hb.block g h.lt).trans h
theorem size_row {l : List Nat} (h : l.length = 64) : (l.map uw).toArray.size = 64 := by simp [h]
theorem one_row (l : List Nat) : (l.map uw).toArray.all (·.oneCell') = true := by simp [uw, Value.oneCell']
abbrev TV : TypeId := 149
/-- the world while a block is added: the state, the words, the constants, the eight variables -/
structure AddAt (g : Nat) (st : St) (rest : ByteArray) (total : Nat) (b : List Nat) (w2 : World) (v0 : Nat) (wr : World) (u : St) : Prop where
  isH : IsH wr g st rest total
  rw : wr.heap[w2.heap.size]? = some (.cells ((words b).map uw).toArray TW (0, 0))
  rk : wr.heap[w2.heap.size + 1]? = some (.cells (kk.map uw).toArray TW (0, 0))
  rv : wr.heap[v0]? = some (.cells u.v.toArray TV (0, 0))
  below : Below w2.heap.size w2 wr
theorem AddAt.drewN {g : Nat} {st : St} {rest : ByteArray} {total : Nat} {b : List Nat} {w2 : World} {v0 : Nat} {wr : World} {u : St} (h : AddAt g st rest total b w2 v0 wr u) (n : Nat) : AddAt g st rest total b w2 v0 (wr.drewN n) u := ⟨h.isH, h.rw, h.rk, h.rv, below_drewN h.below n⟩
theorem AddAt.setv {g : Nat} {st : St} {rest : ByteArray} {total : Nat} {b : List Nat} {w2 : World} {v0 : Nat} {wr : World} {u u' : St} (h : AddAt g st rest total b w2 v0 wr u) (n : Nat) (hv : w2.heap.size + 2 = v0) (hg : g < w2.heap.size) {cs : Array Value} (hc : cs = u'.v.toArray) :
    AddAt g st rest total b w2 v0 ((wr.drewN n).setRow v0 cs) u' :=
  ⟨(setRow_other _ _ _ _ (by omega)).trans h.isH, (setRow_other _ _ _ _ (by omega)).trans h.rw, (setRow_other _ _ _ _ (by omega)).trans h.rk, hc ▸ setRow_heap _ _ _ _ _ _ h.rv, below_setRow (below_drewN h.below n) (by omega) _⟩
theorem AddAt.cw {g : Nat} {st : St} {rest : ByteArray} {total : Nat} {b : List Nat} {w2 : World} {v0 : Nat} {wr : World} {u : St} (h : AddAt g st rest total b w2 v0 wr u) (hb : (words b).length = 64) (i : Nat) (hi : i < 64) :
    wr.cell? ⟨w2.heap.size, i, none⟩ = some (.int .u32 (((words b).getD i 0 : Nat) : Int)) :=
  (cell_of_row _ _ i _ _ _ h.rw).trans (by simp [hb, hi, List.getD_eq_getElem?_getD, uw])
theorem AddAt.ck {g : Nat} {st : St} {rest : ByteArray} {total : Nat} {b : List Nat} {w2 : World} {v0 : Nat} {wr : World} {u : St} (h : AddAt g st rest total b w2 v0 wr u) (i : Nat) (hi : i < 64) :
    wr.cell? ⟨w2.heap.size + 1, i, none⟩ = some (.int .u32 ((kk.getD i 0 : Nat) : Int)) :=
  (cell_of_row _ _ i _ _ _ h.rk).trans (by simp [kk_length, hi, List.getD_eq_getElem?_getD, uw])
theorem u32_not (e : Nat) (h : e < 4294967296) : bits .xor .u32 IntKind.u32.max (e : Int) = ((4294967295 - e : Nat) : Int) := by
  have : IntKind.u32.max = ((4294967295 : Nat) : Int) := by decide
  rw [this, u32_xor_nat _ _ (by decide) h]
  congr 1
  apply Nat.eq_of_testBit_eq
  intro i
  rw [Nat.testBit_xor, show 4294967295 = 2 ^ 32 - 1 from rfl, Nat.testBit_two_pow_sub_one, show 2 ^ 32 - 1 - e = 2 ^ 32 - (e + 1) by omega, Nat.testBit_two_pow_sub_succ (by simpa using h)]
  by_cases hi : i < 32
  · simp [hi]
  · have : e.testBit i = false := Nat.testBit_lt_two_pow (Nat.lt_of_lt_of_le h (Nat.pow_le_pow_right (n := 2) (by decide) (by omega : 32 ≤ i)))
    simp [hi, this]
theorem mix3_r (r x a b c : Nat) (hr : r = (ror x a ^^^ ror x b) ^^^ ror x c) (A B C : Int) (w : World) (hx : x < 4294967296) (hA : A = a) (hB : B = b) (hC : C = c) (ha : 0 < a) (ha1 : a < 32) (hb : 0 < b) (hb1 : b < 32) (hc : 0 < c) (hc1 : c < 32) :
    Calls Try.prog 123 #[.int .u32 x, .int .i64 A, .int .i64 B, .int .i64 C] w fun e w' => e = .returned (.int .u32 (r : Nat)) ∧ w' = w := by
  subst hr; exact mix3_calls x a b c A B C w hx hA hB hC ha ha1 hb hb1 hc hc1
theorem rnd_cells {a b c d e f gg hh k x P Q y3 m5 : Nat} {A D : Int} (hP : P = bs1 e) (hQ : Q = bs0 a) (hy : y3 = chh e f gg) (hm : m5 = maj a b c)
    (hA : A = ((hh : Int) + P + y3 + k + x + (Q + m5)) % 4294967296) (hD : D = ((d : Int) + (hh + P + y3 + k + x)) % 4294967296) :
    #[.int .u32 A, .int .u32 (a : Int), .int .u32 (b : Int), .int .u32 (c : Int), .int .u32 D, .int .u32 (e : Int), .int .u32 (f : Int), .int .u32 (gg : Int)] = (rnd ⟨a, b, c, d, e, f, gg, hh⟩ k x).v.toArray := by
  have e1 : A = (((rnd ⟨a, b, c, d, e, f, gg, hh⟩ k x).a : Nat) : Int) := by
    show _ = ((((hh + bs1 e + chh e f gg + k + x) % 4294967296 + (bs0 a + maj a b c) % 4294967296) % 4294967296 : Nat) : Int)
    rw [hA, ← hP, ← hQ, ← hy, ← hm]; omega
  have e2 : D = (((rnd ⟨a, b, c, d, e, f, gg, hh⟩ k x).e : Nat) : Int) := by
    show _ = (((d + (hh + bs1 e + chh e f gg + k + x) % 4294967296) % 4294967296 : Nat) : Int)
    rw [hD, ← hP, ← hy]; omega
  rw [e1, e2]
  rfl
theorem kk_lt (i : Nat) : kk.getD i 0 < 4294967296 := by
  rw [List.getD_eq_getElem?_getD]
  rcases Nat.lt_or_ge i kk.length with h | h
  · rw [List.getElem?_eq_getElem h]
    exact (by decide : ∀ x ∈ kk, x < 4294967296) _ (List.getElem_mem h)
  · rw [List.getElem?_eq_none h]; decide
def mixSt (s t : St) (i : Nat) : St :=
  ⟨if 0 < i then (s.a + t.a) % 4294967296 else s.a, if 1 < i then (s.b + t.b) % 4294967296 else s.b, if 2 < i then (s.c + t.c) % 4294967296 else s.c, if 3 < i then (s.d + t.d) % 4294967296 else s.d,
   if 4 < i then (s.e + t.e) % 4294967296 else s.e, if 5 < i then (s.f + t.f) % 4294967296 else s.f, if 6 < i then (s.g + t.g) % 4294967296 else s.g, if 7 < i then (s.h + t.h) % 4294967296 else s.h⟩
theorem IsH.free {w : World} {g : Nat} {st : St} {rest : ByteArray} {total : Nat} (h : IsH w g st rest total) (j : Nat) : w.frozen? ⟨g, j, none⟩ = false := frozen_of_row _ _ _ _ _ h
theorem IsH.cell0 {w : World} {g : Nat} {st : St} {rest : ByteArray} {total : Nat} (h : IsH w g st rest total) : w.cell? ⟨g, 0, none⟩ = some (.int .u32 (st.a : Nat)) := cell_of_row _ _ 0 _ _ _ h
theorem IsH.set0 {w : World} {g : Nat} {st : St} {rest : ByteArray} {total : Nat} (h : IsH w g st rest total) (m : Nat) (x : Int) : ((w.drewN m).setCell ⟨g, 0, none⟩ (.int .u32 x)).heap[g]? = some (.cells #[Value.int .u32 x, uw st.b, uw st.c, uw st.d, uw st.e, uw st.f, uw st.g, uw st.h, .string rest, .int .u64 (total : Nat)] TH (0, 0)) := heap_setCell_same _ _ _ _ _ _ h
theorem IsH.cell1 {w : World} {g : Nat} {st : St} {rest : ByteArray} {total : Nat} (h : IsH w g st rest total) : w.cell? ⟨g, 1, none⟩ = some (.int .u32 (st.b : Nat)) := cell_of_row _ _ 1 _ _ _ h
theorem IsH.set1 {w : World} {g : Nat} {st : St} {rest : ByteArray} {total : Nat} (h : IsH w g st rest total) (m : Nat) (x : Int) : ((w.drewN m).setCell ⟨g, 1, none⟩ (.int .u32 x)).heap[g]? = some (.cells #[uw st.a, Value.int .u32 x, uw st.c, uw st.d, uw st.e, uw st.f, uw st.g, uw st.h, .string rest, .int .u64 (total : Nat)] TH (0, 0)) := heap_setCell_same _ _ _ _ _ _ h
theorem IsH.cell2 {w : World} {g : Nat} {st : St} {rest : ByteArray} {total : Nat} (h : IsH w g st rest total) : w.cell? ⟨g, 2, none⟩ = some (.int .u32 (st.c : Nat)) := cell_of_row _ _ 2 _ _ _ h
theorem IsH.set2 {w : World} {g : Nat} {st : St} {rest : ByteArray} {total : Nat} (h : IsH w g st rest total) (m : Nat) (x : Int) : ((w.drewN m).setCell ⟨g, 2, none⟩ (.int .u32 x)).heap[g]? = some (.cells #[uw st.a, uw st.b, Value.int .u32 x, uw st.d, uw st.e, uw st.f, uw st.g, uw st.h, .string rest, .int .u64 (total : Nat)] TH (0, 0)) := heap_setCell_same _ _ _ _ _ _ h
theorem IsH.cell3 {w : World} {g : Nat} {st : St} {rest : ByteArray} {total : Nat} (h : IsH w g st rest total) : w.cell? ⟨g, 3, none⟩ = some (.int .u32 (st.d : Nat)) := cell_of_row _ _ 3 _ _ _ h
theorem IsH.set3 {w : World} {g : Nat} {st : St} {rest : ByteArray} {total : Nat} (h : IsH w g st rest total) (m : Nat) (x : Int) : ((w.drewN m).setCell ⟨g, 3, none⟩ (.int .u32 x)).heap[g]? = some (.cells #[uw st.a, uw st.b, uw st.c, Value.int .u32 x, uw st.e, uw st.f, uw st.g, uw st.h, .string rest, .int .u64 (total : Nat)] TH (0, 0)) := heap_setCell_same _ _ _ _ _ _ h
theorem IsH.cell4 {w : World} {g : Nat} {st : St} {rest : ByteArray} {total : Nat} (h : IsH w g st rest total) : w.cell? ⟨g, 4, none⟩ = some (.int .u32 (st.e : Nat)) := cell_of_row _ _ 4 _ _ _ h
theorem IsH.set4 {w : World} {g : Nat} {st : St} {rest : ByteArray} {total : Nat} (h : IsH w g st rest total) (m : Nat) (x : Int) : ((w.drewN m).setCell ⟨g, 4, none⟩ (.int .u32 x)).heap[g]? = some (.cells #[uw st.a, uw st.b, uw st.c, uw st.d, Value.int .u32 x, uw st.f, uw st.g, uw st.h, .string rest, .int .u64 (total : Nat)] TH (0, 0)) := heap_setCell_same _ _ _ _ _ _ h
theorem IsH.cell5 {w : World} {g : Nat} {st : St} {rest : ByteArray} {total : Nat} (h : IsH w g st rest total) : w.cell? ⟨g, 5, none⟩ = some (.int .u32 (st.f : Nat)) := cell_of_row _ _ 5 _ _ _ h
theorem IsH.set5 {w : World} {g : Nat} {st : St} {rest : ByteArray} {total : Nat} (h : IsH w g st rest total) (m : Nat) (x : Int) : ((w.drewN m).setCell ⟨g, 5, none⟩ (.int .u32 x)).heap[g]? = some (.cells #[uw st.a, uw st.b, uw st.c, uw st.d, uw st.e, Value.int .u32 x, uw st.g, uw st.h, .string rest, .int .u64 (total : Nat)] TH (0, 0)) := heap_setCell_same _ _ _ _ _ _ h
theorem IsH.cell6 {w : World} {g : Nat} {st : St} {rest : ByteArray} {total : Nat} (h : IsH w g st rest total) : w.cell? ⟨g, 6, none⟩ = some (.int .u32 (st.g : Nat)) := cell_of_row _ _ 6 _ _ _ h
theorem IsH.set6 {w : World} {g : Nat} {st : St} {rest : ByteArray} {total : Nat} (h : IsH w g st rest total) (m : Nat) (x : Int) : ((w.drewN m).setCell ⟨g, 6, none⟩ (.int .u32 x)).heap[g]? = some (.cells #[uw st.a, uw st.b, uw st.c, uw st.d, uw st.e, uw st.f, Value.int .u32 x, uw st.h, .string rest, .int .u64 (total : Nat)] TH (0, 0)) := heap_setCell_same _ _ _ _ _ _ h
theorem IsH.cell7 {w : World} {g : Nat} {st : St} {rest : ByteArray} {total : Nat} (h : IsH w g st rest total) : w.cell? ⟨g, 7, none⟩ = some (.int .u32 (st.h : Nat)) := cell_of_row _ _ 7 _ _ _ h
theorem IsH.set7 {w : World} {g : Nat} {st : St} {rest : ByteArray} {total : Nat} (h : IsH w g st rest total) (m : Nat) (x : Int) : ((w.drewN m).setCell ⟨g, 7, none⟩ (.int .u32 x)).heap[g]? = some (.cells #[uw st.a, uw st.b, uw st.c, uw st.d, uw st.e, uw st.f, uw st.g, Value.int .u32 x, .string rest, .int .u64 (total : Nat)] TH (0, 0)) := heap_setCell_same _ _ _ _ _ _ h
section
variable {P : Program}
/-- a row stored, the world behind it under a name -/
theorem wpList_store_as {ops : Array Oper} {rest : List Oper} {o : Oper} {a : Act} {w : World} {Q : Exit → Act → World → Prop} (hgd : o.guard = none) (ty : TypeId) (x y : Operand) (ho : o.op = .store ty x y)
    (g : Nat) (cells : Array Value) (hx : a.eval x = .pointer (some ⟨g, 0, none⟩)) (hy : a.eval y = .agg cells)
    (t : TypeId) (old : Array Value) (hg : w.heap[g]? = some (.cells old t (0, 0))) (hi : (P.info? ty).map (·.size) = some cells.size)
    (hold : old.size = cells.size) (h1 : cells.all (·.oneCell') = true)
    (h : ∀ w', w' = w.setRow g cells → wpList P ops Q rest (a.put o.dst undef) w') : wpList P ops Q (o :: rest) a w :=
  wpList_store_row hgd ty x y ho g cells hx hy t old hg hi hold h1 (h _ rfl)
end
set_option maxRecDepth 100000 in
set_option maxHeartbeats 4000000 in
theorem add_calls (B g : Nat) (st : St) (rest s : ByteArray) (total : Nat) (w : World) (hB : B ≤ g) (hBw : B ≤ w.heap.size) (h : IsH w g st rest total) (hok : st.ok) (hs : s.size = 64) :
    Calls Try.prog 116 #[.pointer (some ⟨g, 0, none⟩), .string s] w fun e w' => e = .returned (.tuple #[]) ∧ IsH w' g (block st (nat s)) rest total ∧ Below B w w' := by
  have Hs := Lib.hid hs
  have HI := Lib.hid h
  have HO := Lib.hid hok
  clear h hok
  have lw := size_row (words_length (b := nat s) (by rw [nat_length, hs]))
  have lk := size_row kk_length
  clear hs
  go_enter Try.func116, Try.ntmps116
  go_wp2_with (first
    | (go_at_call 125; refine (schedule_calls s Hs.out _).mono ?_; rintro e w1 ⟨rfl, hb1⟩)
    | (go_at_call 126; refine (constants_calls _).mono ?_; rintro e w2 ⟨rfl, hb2⟩; have HK := Lib.hid ((HI.out.below hb1).below hb2); have hlt := HK.out.lt)
    | (refine wpList_store_as rfl TW (.tmp 5) (.tmp 20) rfl w2.heap.size _ rfl rfl TW _ (heap_alloc2_old _ _ _) ?ci ?ch ?c1 ?_; (case ci => rw [lw]; kernel_rfl); (case ch => rw [lw]; rfl); (case c1 => exact one_row _); intro w3 e3; have HK3 := Lib.hid (show IsH w3 g st rest total from e3 ▸ ((HK.out.alloc _).alloc _).setRow (by omega) _); have R5 := Lib.hid (show w3.heap[w2.heap.size]? = some (.cells ((words (nat s)).map uw).toArray TW (0, 0)) from e3 ▸ setRow_heap _ _ _ _ _ _ (heap_alloc2_old _ _ _)); have Z6 := Lib.hid (show ∃ z : Array Value, z.size = 64 ∧ w3.heap[w2.heap.size + 1]? = some (.cells z TW (0, 0)) from e3 ▸ ⟨_, rfl, (setRow_other _ _ _ _ (by simp)).trans (heap_alloc2_new _ _ _)⟩); have B3 := Lib.hid (show Below w2.heap.size w2 w3 from e3 ▸ below_setRow (((Below.refl _ w2).alloc (Nat.le_refl _) _).alloc (by simp) _) (Nat.le_refl _) _); have hz3 : w3.heap.size = w2.heap.size + 2 := (by rw [e3]; simp); have Hz3 := Lib.hid hz3; clear e3 hz3; obtain ⟨z6, hz6, hr6⟩ := Z6.out; have Hz6 := Lib.hid hz6; clear hz6 Z6)
    | (refine wpList_store_as rfl TW (.tmp 6) (.tmp 21) rfl (w2.heap.size + 1) _ rfl rfl TW z6 hr6 ?ci ?ch ?c1 ?_; (case ci => rw [lk]; kernel_rfl); (case ch => rw [lk, Hz6.out]); (case c1 => exact one_row _); intro w4 e4; have HK4 := Lib.hid (show IsH w4 g st rest total from e4 ▸ HK3.out.setRow (by omega) _); have R6 := Lib.hid (show w4.heap[w2.heap.size + 1]? = some (.cells (kk.map uw).toArray TW (0, 0)) from e4 ▸ setRow_heap _ _ _ _ _ _ hr6); have R5' := Lib.hid (show w4.heap[w2.heap.size]? = some (.cells ((words (nat s)).map uw).toArray TW (0, 0)) from e4 ▸ (setRow_other _ _ _ _ (by simp)).trans R5.out); have B4 := Lib.hid (show Below w2.heap.size w2 w4 from e4 ▸ below_setRow B3.out (by simp) _); have Hz4 := Lib.hid (show w4.heap.size = w2.heap.size + 2 by rw [e4, size_setRow]; exact Hz3.out); clear e4 hr6 R5 HK3 B3 Hz3 Hz6)
    | (refine wpList_load_mid rfl 149 (.tmp 24) rfl g 0 rfl st.v _ HK4.out.range Try.underlying149 rfl (by kernel_rfl) ?_)
    | (refine wpList_store_as rfl 149 (.tmp 7) (.tmp 25) rfl w4.heap.size st.v.toArray rfl rfl TV _ (heap_alloc_new _ _) (by kernel_rfl) rfl (by simp [St.v, uw, Value.oneCell']) ?_; intro w5 e5; have HA := Lib.hid (show AddAt g st rest total (nat s) w2 w4.heap.size w5 (upto st (words (nat s)) 0) from e5 ▸ ⟨(HK4.out.alloc _).setRow (by have := HK4.out.lt; omega) _, (setRow_other _ _ _ _ (by have := Hz4.out; omega)).trans ((Below.heap_alloc w4 _ _ (by have := Hz4.out; omega)).trans R5'.out), (setRow_other _ _ _ _ (by have := Hz4.out; omega)).trans ((Below.heap_alloc w4 _ _ (by have := Hz4.out; omega)).trans R6.out), (by simpa [upto, rounds] using setRow_heap _ _ _ _ _ _ (heap_alloc_new w4 _)), below_setRow (B4.out.alloc (by have := Hz4.out; omega) _) (by have := Hz4.out; omega) _⟩); clear e5 HK4 R6 R5' B4))
  have hlt2 : g < w2.heap.size := HK.out.lt
  have hv0 : w2.heap.size + 2 = w4.heap.size := by have := Hz4.out; omega
  generalize w4.heap.size = v0 at *
  go_loopw [26] (fun t wr => ∃ i : Nat, i ≤ 64 ∧ t = .int .i64 i ∧ Hid (AddAt g st rest total (nat s) w2 v0 wr (upto st (words (nat s)) i))) (fun t _ => 64 - (intOf t).toNat)
  case atStart => exact ⟨0, by omega, rfl, HA⟩
  case round =>
    obtain ⟨i, hi, rfl, HR⟩ := hrel
    clear HA
    by_cases hlt : i < 64
    · have d64 : decide ((i : Int) < 64) = true := by simp; omega
      have hi64 : (i : Int) < 64 := by omega
      have hws : (words (nat s)).length = 64 := words_length (by rw [nat_length, Hs.out])
      have HU := Lib.hid (upto_succ st (words (nat s)) hws i hlt)
      have hk := upto_ok HO.out (words (nat s)) hws i hi
      have lW := words_lt (by rw [nat_length, Hs.out]) (nat_lt s) i
      have cW := HR.out.cw hws i hlt
      have cK := HR.out.ck i hlt
      have lK := kk_lt i
      generalize (words (nat s)).getD i 0 = x at *
      generalize kk.getD i 0 = k at *
      have hRv := HR.out.rv
      generalize upto st (words (nat s)) i = u at *
      obtain ⟨a, b, c, d, e, f, gg, hh⟩ := u
      obtain ⟨la, lb, lc, ld, le, lf, lg, lh⟩ := hk
      have c0 : wr.cell? ⟨v0, 0, none⟩ = some (.int .u32 (a : Int)) := cell_of_row _ _ 0 _ _ _ hRv
      have c1 : wr.cell? ⟨v0, 1, none⟩ = some (.int .u32 (b : Int)) := cell_of_row _ _ 1 _ _ _ hRv
      have c2 : wr.cell? ⟨v0, 2, none⟩ = some (.int .u32 (c : Int)) := cell_of_row _ _ 2 _ _ _ hRv
      have c3 : wr.cell? ⟨v0, 3, none⟩ = some (.int .u32 (d : Int)) := cell_of_row _ _ 3 _ _ _ hRv
      have c4 : wr.cell? ⟨v0, 4, none⟩ = some (.int .u32 (e : Int)) := cell_of_row _ _ 4 _ _ _ hRv
      have c5 : wr.cell? ⟨v0, 5, none⟩ = some (.int .u32 (f : Int)) := cell_of_row _ _ 5 _ _ _ hRv
      have c6 : wr.cell? ⟨v0, 6, none⟩ = some (.int .u32 (gg : Int)) := cell_of_row _ _ 6 _ _ _ hRv
      have c7 : wr.cell? ⟨v0, 7, none⟩ = some (.int .u32 (hh : Int)) := cell_of_row _ _ 7 _ _ _ hRv
      clear hRv hws
      simp only at la lb lc ld le lf lg lh
      obtain ⟨y1, hy1⟩ : ∃ y, y = e &&& f := ⟨_, rfl⟩
      obtain ⟨ne, hne⟩ : ∃ y, y = 4294967295 - e := ⟨_, rfl⟩
      obtain ⟨y2, hy2⟩ : ∃ y, y = ne &&& gg := ⟨_, rfl⟩
      obtain ⟨y3, hy3⟩ : ∃ y, y = y1 ^^^ y2 := ⟨_, rfl⟩
      obtain ⟨m1, hm1⟩ : ∃ y, y = a &&& b := ⟨_, rfl⟩
      obtain ⟨m2, hm2⟩ : ∃ y, y = a &&& c := ⟨_, rfl⟩
      obtain ⟨m3, hm3⟩ : ∃ y, y = m1 ^^^ m2 := ⟨_, rfl⟩
      obtain ⟨m4, hm4⟩ : ∃ y, y = b &&& c := ⟨_, rfl⟩
      obtain ⟨m5, hm5⟩ : ∃ y, y = m3 ^^^ m4 := ⟨_, rfl⟩
      have f1 : bits .and .u32 (e : Int) (f : Int) = (y1 : Int) := by rw [hy1]; exact u32_and_nat _ _ le lf
      have f2 : bits .xor .u32 IntKind.u32.max (e : Int) = (ne : Int) := by rw [hne]; exact u32_not e le
      have f3 : bits .and .u32 (ne : Int) (gg : Int) = (y2 : Int) := by rw [hy2]; exact u32_and_nat _ _ (by omega) lg
      have f4 : bits .xor .u32 (y1 : Int) (y2 : Int) = (y3 : Int) := by rw [hy3]; exact u32_xor_nat _ _ (by rw [hy1]; exact and_lt _ le) (by rw [hy2]; exact and_lt _ (by omega))
      have g1 : bits .and .u32 (a : Int) (b : Int) = (m1 : Int) := by rw [hm1]; exact u32_and_nat _ _ la lb
      have g2 : bits .and .u32 (a : Int) (c : Int) = (m2 : Int) := by rw [hm2]; exact u32_and_nat _ _ la lc
      have l1 : m1 < 4294967296 := by rw [hm1]; exact and_lt _ la
      have l2 : m2 < 4294967296 := by rw [hm2]; exact and_lt _ la
      have g3 : bits .xor .u32 (m1 : Int) (m2 : Int) = (m3 : Int) := by rw [hm3]; exact u32_xor_nat _ _ l1 l2
      have g4 : bits .and .u32 (b : Int) (c : Int) = (m4 : Int) := by rw [hm4]; exact u32_and_nat _ _ lb lc
      have g5 : bits .xor .u32 (m3 : Int) (m4 : Int) = (m5 : Int) := by rw [hm5]; exact u32_xor_nat _ _ (by rw [hm3]; exact xor_lt l1 l2) (by rw [hm4]; exact and_lt _ lb)
      have HY := Lib.hid (show y3 = chh e f gg by rw [hy3, hy1, hy2, hne]; rfl)
      have HM := Lib.hid (show m5 = maj a b c by rw [hm5, hm4, hm3, hm2, hm1]; rfl)
      obtain ⟨P, hP⟩ : ∃ y, y = bs1 e := ⟨_, rfl⟩
      obtain ⟨Q, hQ⟩ : ∃ y, y = bs0 a := ⟨_, rfl⟩
      have HP := Lib.hid hP
      have HQQ := Lib.hid hQ
      clear hP hQ
      clear hy1 hne hy2 hy3 hm1 hm2 hm3 hm4 hm5
      go_wp2_with fail
      go_quiet (fail)
      go_wp2_with fail
      obtain ⟨wq, hwq⟩ : ∃ wq, wq = wr.drewN nq := ⟨_, rfl⟩
      rw [← hwq]
      have HQ := Lib.hid (show AddAt g st rest total (nat s) w2 v0 wq ⟨a, b, c, d, e, f, gg, hh⟩ from hwq ▸ HR.out.drewN nq)
      have d3 : wq.cell? ⟨v0, 3, none⟩ = some (.int .u32 (d : Int)) := hwq ▸ c3
      have d7 : wq.cell? ⟨v0, 7, none⟩ = some (.int .u32 (hh : Int)) := hwq ▸ c7
      have dW : wq.cell? ⟨w2.heap.size, i, none⟩ = some (.int .u32 (x : Int)) := hwq ▸ cW
      have dK : wq.cell? ⟨w2.heap.size + 1, i, none⟩ = some (.int .u32 (k : Int)) := hwq ▸ cK
      clear hwq c0 c1 c2 c3 c4 c5 c6 c7 cW cK HR
      refine wp_region_quiet_lit (by kernel_rfl) (by kernel_rfl) ?_
      repeat (quiet_step ((go_at_call 123; exact Calls.quiet_of_same (mix3_r P e 6 11 25 HP.out 6 11 25 _ le rfl rfl rfl (by decide) (by decide) (by decide) (by decide) (by decide) (by decide)))))
      refine wpQuiet_nil ?_
      rintro w' ⟨nr, rfl⟩
      simp only [IntKind.signed, Bool.false_eq_true, if_false, f1, f2, f3, f4]
      go_wp2_with (first
        | (go_at_call 123; refine (mix3_r Q a 2 13 22 HQQ.out 2 13 22 _ la rfl rfl rfl (by decide) (by decide) (by decide) (by decide) (by decide) (by decide)).mono ?_; rintro e_ w_ ⟨rfl, rfl⟩)
        | (refine wpList_store_row rfl 149 (.tmp 7) (.tmp 92) rfl v0 _ rfl rfl TV (St.v ⟨a, b, c, d, e, f, gg, hh⟩).toArray ?hg ?hi ?ho ?h1 ?_; (case hg => exact HQ.out.rv); (case hi => kernel_rfl); (case ho => rfl); (case h1 => simp [Value.oneCell'])))
      go_roundw
      case rel => exact ⟨i + 1, by omega, by go_num, Lib.hid (by rw [HU.out]; exact HQ.out.setv nr hv0 hlt2 (rnd_cells HP.out HQQ.out HY.out HM.out rfl rfl))⟩
      case measure => simp [intOf]; omega
    · obtain rfl : i = 64 := by omega
      have d64 : decide ((64 : Int) < 64) = false := by decide
      have hws : (words (nat s)).length = 64 := words_length (by rw [nat_length, Hs.out])
      have HR2 := Lib.hid (show AddAt g st rest total (nat s) w2 v0 wr (rounds st kk (words (nat s))) from upto_all st _ hws ▸ HR.out)
      clear HR
      have hBw2 : B ≤ w2.heap.size := Nat.le_trans hBw (Nat.le_trans hb1.size hb2.size)
      have HX := Lib.hid (show IsH wr g (mixSt st (rounds st kk (words (nat s))) 0) rest total ∧ Below B w wr from ⟨HR2.out.isH, ((hb1.mono hBw).trans (hb2.mono (Nat.le_trans hBw hb1.size))).trans (HR2.out.below.mono hBw2)⟩)
      have HF := Lib.hid (show block st (nat s) = mixSt st (rounds st kk (words (nat s))) 8 from rfl)
      generalize rounds st kk (words (nat s)) = u at *
      obtain ⟨p0, p1, p2, p3, p4, p5, p6, p7⟩ := u
      go_wp2_with (refine wpList_load_row rfl 149 (.tmp 7) rfl v0 rfl TV #[.int .u32 (p0 : Int), .int .u32 (p1 : Int), .int .u32 (p2 : Int), .int .u32 (p3 : Int), .int .u32 (p4 : Int), .int .u32 (p5 : Int), .int .u32 (p6 : Int), .int .u32 (p7 : Int)] (0, 0) _ HR2.out.rv Try.underlying149 rfl (by kernel_rfl) ?_)
      clear HR2 HI HK Hz4 d64 hws
      go_loopw [95] (fun t wr => ∃ i : Nat, i ≤ 8 ∧ t = .int .i64 i ∧ Hid (IsH wr g (mixSt st ⟨p0, p1, p2, p3, p4, p5, p6, p7⟩ i) rest total ∧ Below B w wr)) (fun t _ => 8 - (intOf t).toNat)
      case atStart => exact ⟨0, by omega, rfl, HX⟩
      case round =>
        clear HX
        obtain ⟨i, hi8, rfl, HX⟩ := hrel
        have hI := HX.out.1
        rcases (by omega : i = 0 ∨ i = 1 ∨ i = 2 ∨ i = 3 ∨ i = 4 ∨ i = 5 ∨ i = 6 ∨ i = 7 ∨ i = 8) with rfl | rfl | rfl | rfl | rfl | rfl | rfl | rfl | rfl
        · have c := hI.cell0
          have ix : ∀ w, (Instr.index 149 (.agg #[Value.int .u32 (p0 : Int), .int .u32 (p1 : Int), .int .u32 (p2 : Int), .int .u32 (p3 : Int), .int .u32 (p4 : Int), .int .u32 (p5 : Int), .int .u32 (p6 : Int), .int .u32 (p7 : Int)]) (.int .i64 0)).run Try.prog w = .ok (.int .u32 (p0 : Int)) w := fun _ => by kernel_rfl
          have f := hI.free 0
          go_wp2_with fail
          refine Qt.wp_region_quiet_tail 11 (by kernel_rfl) (by kernel_rfl) ?_
          simp only [List.take_succ_cons, List.take_zero, List.drop_succ_cons, List.drop_zero]
          repeat (quiet_step (fail))
          refine wpQuiet_nil ?_
          rintro w' ⟨nq, rfl⟩
          go_wp2
          go_roundw
          case rel => exact ⟨1, by omega, rfl, Lib.hid ⟨(hI.set0 nq _).trans rfl, (below_drewN HX.out.2 nq).setCell hB _⟩⟩
          case measure => simp [intOf]
        · have c := hI.cell1
          have ix : ∀ w, (Instr.index 149 (.agg #[Value.int .u32 (p0 : Int), .int .u32 (p1 : Int), .int .u32 (p2 : Int), .int .u32 (p3 : Int), .int .u32 (p4 : Int), .int .u32 (p5 : Int), .int .u32 (p6 : Int), .int .u32 (p7 : Int)]) (.int .i64 1)).run Try.prog w = .ok (.int .u32 (p1 : Int)) w := fun _ => by kernel_rfl
          have f := hI.free 1
          go_wp2_with fail
          refine Qt.wp_region_quiet_tail 11 (by kernel_rfl) (by kernel_rfl) ?_
          simp only [List.take_succ_cons, List.take_zero, List.drop_succ_cons, List.drop_zero]
          repeat (quiet_step (fail))
          refine wpQuiet_nil ?_
          rintro w' ⟨nq, rfl⟩
          go_wp2
          go_roundw
          case rel => exact ⟨2, by omega, rfl, Lib.hid ⟨(hI.set1 nq _).trans rfl, (below_drewN HX.out.2 nq).setCell hB _⟩⟩
          case measure => simp [intOf]
        · have c := hI.cell2
          have ix : ∀ w, (Instr.index 149 (.agg #[Value.int .u32 (p0 : Int), .int .u32 (p1 : Int), .int .u32 (p2 : Int), .int .u32 (p3 : Int), .int .u32 (p4 : Int), .int .u32 (p5 : Int), .int .u32 (p6 : Int), .int .u32 (p7 : Int)]) (.int .i64 2)).run Try.prog w = .ok (.int .u32 (p2 : Int)) w := fun _ => by kernel_rfl
          have f := hI.free 2
          go_wp2_with fail
          refine Qt.wp_region_quiet_tail 11 (by kernel_rfl) (by kernel_rfl) ?_
          simp only [List.take_succ_cons, List.take_zero, List.drop_succ_cons, List.drop_zero]
          repeat (quiet_step (fail))
          refine wpQuiet_nil ?_
          rintro w' ⟨nq, rfl⟩
          go_wp2
          go_roundw
          case rel => exact ⟨3, by omega, rfl, Lib.hid ⟨(hI.set2 nq _).trans rfl, (below_drewN HX.out.2 nq).setCell hB _⟩⟩
          case measure => simp [intOf]
        · have c := hI.cell3
          have ix : ∀ w, (Instr.index 149 (.agg #[Value.int .u32 (p0 : Int), .int .u32 (p1 : Int), .int .u32 (p2 : Int), .int .u32 (p3 : Int), .int .u32 (p4 : Int), .int .u32 (p5 : Int), .int .u32 (p6 : Int), .int .u32 (p7 : Int)]) (.int .i64 3)).run Try.prog w = .ok (.int .u32 (p3 : Int)) w := fun _ => by kernel_rfl
          have f := hI.free 3
          go_wp2_with fail
          refine Qt.wp_region_quiet_tail 11 (by kernel_rfl) (by kernel_rfl) ?_
          simp only [List.take_succ_cons, List.take_zero, List.drop_succ_cons, List.drop_zero]
          repeat (quiet_step (fail))
          refine wpQuiet_nil ?_
          rintro w' ⟨nq, rfl⟩
          go_wp2
          go_roundw
          case rel => exact ⟨4, by omega, rfl, Lib.hid ⟨(hI.set3 nq _).trans rfl, (below_drewN HX.out.2 nq).setCell hB _⟩⟩
          case measure => simp [intOf]
        · have c := hI.cell4
          have ix : ∀ w, (Instr.index 149 (.agg #[Value.int .u32 (p0 : Int), .int .u32 (p1 : Int), .int .u32 (p2 : Int), .int .u32 (p3 : Int), .int .u32 (p4 : Int), .int .u32 (p5 : Int), .int .u32 (p6 : Int), .int .u32 (p7 : Int)]) (.int .i64 4)).run Try.prog w = .ok (.int .u32 (p4 : Int)) w := fun _ => by kernel_rfl
          have f := hI.free 4
          go_wp2_with fail
          refine Qt.wp_region_quiet_tail 11 (by kernel_rfl) (by kernel_rfl) ?_
          simp only [List.take_succ_cons, List.take_zero, List.drop_succ_cons, List.drop_zero]
          repeat (quiet_step (fail))
          refine wpQuiet_nil ?_
          rintro w' ⟨nq, rfl⟩
          go_wp2
          go_roundw
          case rel => exact ⟨5, by omega, rfl, Lib.hid ⟨(hI.set4 nq _).trans rfl, (below_drewN HX.out.2 nq).setCell hB _⟩⟩
          case measure => simp [intOf]
        · have c := hI.cell5
          have ix : ∀ w, (Instr.index 149 (.agg #[Value.int .u32 (p0 : Int), .int .u32 (p1 : Int), .int .u32 (p2 : Int), .int .u32 (p3 : Int), .int .u32 (p4 : Int), .int .u32 (p5 : Int), .int .u32 (p6 : Int), .int .u32 (p7 : Int)]) (.int .i64 5)).run Try.prog w = .ok (.int .u32 (p5 : Int)) w := fun _ => by kernel_rfl
          have f := hI.free 5
          go_wp2_with fail
          refine Qt.wp_region_quiet_tail 11 (by kernel_rfl) (by kernel_rfl) ?_
          simp only [List.take_succ_cons, List.take_zero, List.drop_succ_cons, List.drop_zero]
          repeat (quiet_step (fail))
          refine wpQuiet_nil ?_
          rintro w' ⟨nq, rfl⟩
          go_wp2
          go_roundw
          case rel => exact ⟨6, by omega, rfl, Lib.hid ⟨(hI.set5 nq _).trans rfl, (below_drewN HX.out.2 nq).setCell hB _⟩⟩
          case measure => simp [intOf]
        · have c := hI.cell6
          have ix : ∀ w, (Instr.index 149 (.agg #[Value.int .u32 (p0 : Int), .int .u32 (p1 : Int), .int .u32 (p2 : Int), .int .u32 (p3 : Int), .int .u32 (p4 : Int), .int .u32 (p5 : Int), .int .u32 (p6 : Int), .int .u32 (p7 : Int)]) (.int .i64 6)).run Try.prog w = .ok (.int .u32 (p6 : Int)) w := fun _ => by kernel_rfl
          have f := hI.free 6
          go_wp2_with fail
          refine Qt.wp_region_quiet_tail 11 (by kernel_rfl) (by kernel_rfl) ?_
          simp only [List.take_succ_cons, List.take_zero, List.drop_succ_cons, List.drop_zero]
          repeat (quiet_step (fail))
          refine wpQuiet_nil ?_
          rintro w' ⟨nq, rfl⟩
          go_wp2
          go_roundw
          case rel => exact ⟨7, by omega, rfl, Lib.hid ⟨(hI.set6 nq _).trans rfl, (below_drewN HX.out.2 nq).setCell hB _⟩⟩
          case measure => simp [intOf]
        · have c := hI.cell7
          have ix : ∀ w, (Instr.index 149 (.agg #[Value.int .u32 (p0 : Int), .int .u32 (p1 : Int), .int .u32 (p2 : Int), .int .u32 (p3 : Int), .int .u32 (p4 : Int), .int .u32 (p5 : Int), .int .u32 (p6 : Int), .int .u32 (p7 : Int)]) (.int .i64 7)).run Try.prog w = .ok (.int .u32 (p7 : Int)) w := fun _ => by kernel_rfl
          have f := hI.free 7
          go_wp2_with fail
          refine Qt.wp_region_quiet_tail 11 (by kernel_rfl) (by kernel_rfl) ?_
          simp only [List.take_succ_cons, List.take_zero, List.drop_succ_cons, List.drop_zero]
          repeat (quiet_step (fail))
          refine wpQuiet_nil ?_
          rintro w' ⟨nq, rfl⟩
          go_wp2
          go_roundw
          case rel => exact ⟨8, by omega, rfl, Lib.hid ⟨(hI.set7 nq _).trans rfl, (below_drewN HX.out.2 nq).setCell hB _⟩⟩
          case measure => simp [intOf]
        · go_wp2
          go_end0
          exact ⟨rfl, HF.out ▸ HX.out.1, HX.out.2⟩
end Go.Proofs.Ytldkkboeaadbeaa.Sh
end
section
/- SHA-256: a number as eight bytes; a new state. -/
set_option linter.unusedVariables false
set_option linter.unusedSimpArgs false
namespace Go.Proofs.Ytldkkboeaadbeaa.Sh
open Go.RowKit
def strN (l : List Nat) : ByteArray := ⟨(l.map UInt8.ofNat).toArray⟩
theorem foldl_push : ∀ (l : List Nat) (r : ByteArray), (l.map fun x => ((x : Nat) : Int)).foldl (fun r n => r.push (UInt8.ofNat n.toNat)) r = ⟨r.data ++ (l.map UInt8.ofNat).toArray⟩
  | [], r => by simp
  | x :: l, r => by
    rw [List.map_cons, List.foldl_cons, foldl_push l, Int.toNat_natCast]
    apply ByteArray.ext
    simp [ByteArray.push]
/-- bytes in a row, as a string -/
theorem conv_row (W : World) (g m c : Nat) (T : TypeId) (cs : Array Value) (fr : Nat × Nat) (l : List Nat) (hg : W.heap[g]? = some (.cells cs T fr)) (hm : m = l.length) (hcs : cs.toList.take m = l.map fun x => Value.int .u8 (x : Nat)) :
    (convert 58 9 (.slice (some ⟨g, 0, none⟩) m c)).run Try.prog W = .ok (.string (strN l)) W := by
  subst hm
  rw [run_convert_bytes_string W 58 9 5 _ _ _ Try.underlying58 Try.underlying5 Try.underlying9]
  have hl : (loadCells ⟨g, 0, none⟩ l.length).run Try.prog W = .ok ((l.map fun x => ((x : Nat) : Int)).map (Value.int .u8)).toArray W := by
    have := run_loadCells_list (P := Try.prog) W ⟨g, 0, none⟩ (l.map fun x => Value.int .u8 (x : Nat)) (fun j v hv => by
      have hadd : (⟨g, 0, none⟩ : Addr).add j = ⟨g, j, none⟩ := by unfold Addr.add; split <;> simp_all
      rw [hadd, cell_of_row W g j cs T fr hg]
      rw [← hcs] at hv
      have hj := (List.getElem?_eq_some_iff.1 hv).1
      rw [List.getElem?_take_of_lt (by rw [List.length_take] at hj; omega)] at hv
      simpa using hv)
    rw [List.length_map] at this
    rw [this, List.map_map]; rfl
  rw [run_bytesToString W ⟨g, 0, none⟩ l.length c _ hl, foldl_push]
  simp [strN]
set_option maxRecDepth 100000 in
set_option maxHeartbeats 4000000 in
theorem number_calls (n : Nat) (hn : n < 18446744073709551616) (w : World) :
    Calls Try.prog 119 #[.int .u64 (n : Int)] w fun e w' => e = .returned (.string (strN (len8 n))) ∧ Below w.heap.size w w' := by
  go_enter Try.func119, Try.ntmps119
  go_wp2
  refine wp_loop_rounds 9 ?_
  iterate 9 (rw [rounds_succ]; go_wp2)
  rw [conv_row _ w.heap.size 8 8 _ _ _ (len8 n) (heap_alloc_new _ _) rfl (by simp [len8]; omega)]
  simp only [Result.andThen]
  rw [Oper.upon_value]
  go_wp2
  go_ret
  exact ⟨rfl, (Below.refl _ _).alloc (Nat.le_refl _) _⟩
/-- a new state -/
theorem new_calls (w : World) :
    Calls Try.prog 102 #[] w fun e w' => e = .returned (.pointer (some ⟨w.heap.size, 0, none⟩)) ∧ IsH w' w.heap.size init ⟨#[]⟩ 0 ∧ Below w.heap.size w w' := by
  go_enter Try.func102, Try.ntmps102
  go_wp2
  go_ret
  exact ⟨rfl, heap_alloc_new _ _, (Below.refl _ _).alloc (Nat.le_refl _) _⟩
theorem clone_calls (g : Nat) (st : St) (rest : ByteArray) (total : Nat) (w : World) (h : IsH w g st rest total) :
    Calls Try.prog 118 #[.pointer (some ⟨g, 0, none⟩)] w fun e w' => e = .returned (.pointer (some ⟨w.heap.size, 0, none⟩)) ∧ IsH w' w.heap.size st rest total ∧ Below w.heap.size w w' := by
  have c0 := h.cell0
  have c1 := h.cell1
  have c2 := h.cell2
  have c3 := h.cell3
  have c4 := h.cell4
  have c5 := h.cell5
  have c6 := h.cell6
  have c7 := h.cell7
  have c8 : w.cell? ⟨g, 8, none⟩ = some (.string rest) := cell_of_row _ _ 8 _ _ _ h
  have c9 : w.cell? ⟨g, 9, none⟩ = some (.int .u64 (total : Int)) := cell_of_row _ _ 9 _ _ _ h
  clear h
  go_enter Try.func118, Try.ntmps118
  go_wp2
  go_ret
  exact ⟨rfl, heap_alloc_new _ _, (Below.refl _ _).alloc (Nat.le_refl _) _⟩
end Go.Proofs.Ytldkkboeaadbeaa.Sh
end
section
/- SHA-256: bytes written to a state. -/
set_option linter.unusedVariables false
set_option linter.unusedSimpArgs false
namespace Go.Proofs.Ytldkkboeaadbeaa.Sh
open Go.RowKit
theorem nat_append (a b : ByteArray) : nat (a ++ b) = nat a ++ nat b := by simp [nat, ByteArray.data_append]
theorem nat_extract (a : ByteArray) (i j : Nat) : nat (a.extract i j) = ((nat a).take j).drop i := by
  unfold nat
  rw [ByteArray.data_extract, Array.toList_extract, List.extract_eq_take_drop, List.map_take, List.map_drop, List.take_drop]
  by_cases h : i ≤ j
  · rw [show i + (j - i) = j by omega]
  · rw [List.drop_eq_nil_of_le (by simp; omega), List.drop_eq_nil_of_le (by simp; omega)]
theorem blocks_snoc : ∀ (k : Nat) (s : St) (l : List Nat), blocks (k + 1) s l = block (blocks k s l) ((l.drop (64 * k)).take 64)
  | 0, s, l => by simp [blocks]
  | k + 1, s, l => by
    rw [blocks, blocks_snoc k, blocks, List.drop_drop, show 64 + 64 * k = 64 * (k + 1) by omega]
theorem block_ok (s : St) (l : List Nat) : (block s l).ok := add_ok _ _
theorem blocks_ok {s : St} (h : s.ok) (l : List Nat) : ∀ k, (blocks k s l).ok
  | 0 => h
  | k + 1 => by rw [blocks_snoc]; exact block_ok _ _
theorem IsH.belowB {B : Nat} {w w' : World} {g : Nat} {st : St} {rest : ByteArray} {total : Nat} (h : IsH w g st rest total) (hb : Below B w w') (hg : g < B) : IsH w' g st rest total := (hb.block g hg).trans h
set_option maxHeartbeats 1000000 in
theorem strings_Clone_calls (s : ByteArray) (w : World) (h : s.size ≤ 281474976710656) :
    Calls Try.prog 117 #[.string s] w fun e w' => e = .returned (.string s) ∧ Below w.heap.size w w' := by
  go_enter Try.func117, Try.ntmps117
  go_wp2_with (go_at_call 127; refine (Try.stringslite_Clone s _ h).mono ?_; rintro e w1 ⟨rfl, hb1⟩)
  go_ret
  exact ⟨rfl, hb1⟩
set_option maxRecDepth 100000 in
set_option maxHeartbeats 4000000 in
theorem write_calls (B g : Nat) (st : St) (rest s : ByteArray) (total : Nat) (w : World) (hB : B ≤ g) (hBw : B ≤ w.heap.size) (h : IsH w g st rest total) (hok : st.ok) (hsz : rest.size + s.size ≤ 140737488355328) (ht : total + s.size < 18446744073709551616) :
    Calls Try.prog 103 #[.pointer (some ⟨g, 0, none⟩), .string s] w fun e w' => e = .returned (.tuple #[]) ∧
      (∃ x, nat x = (nat (rest ++ s)).drop (64 * ((rest.size + s.size) / 64)) ∧ IsH w' g (blocks ((rest.size + s.size) / 64) st (nat (rest ++ s))) x (total + s.size)) ∧ Below B w w' := by
  have hlt := h.lt
  have c8 : w.cell? ⟨g, 8, none⟩ = some (.string rest) := cell_of_row _ _ 8 _ _ _ h
  have c9 : w.cell? ⟨g, 9, none⟩ = some (.int .u64 (total : Int)) := cell_of_row _ _ 9 _ _ _ h
  have f9 := h.free 9
  have H1 := Lib.hid h
  have HO := Lib.hid hok
  have w9 : IntKind.u64.wrap ((total : Int) + (s.size : Int)) = ((total + s.size : Nat) : Int) := by rw [wrap_u64]; omega
  have hmx : rest.size + s.size ≤ 9223372036854775807 := by omega
  clear h hok
  go_enter Try.func103, Try.ntmps103
  go_wp2_with fail
  obtain ⟨all, hall⟩ : ∃ all, all = rest ++ s := ⟨_, rfl⟩
  have hasz : all.size = rest.size + s.size := by rw [hall, ByteArray.size_append]
  rw [← hall]
  have HT := Lib.hid (show ((total : Int) + (s.size : Int)) = ((total + s.size : Nat) : Int) by omega)
  obtain ⟨tot, htot⟩ : ∃ tot, tot = total + s.size := ⟨_, rfl⟩
  rw [← htot] at HT
  have HTot := Lib.hid htot
  have HAll := Lib.hid hall
  clear htot
  have HX := Lib.hid (show IsH (w.setCell ⟨g, 9, none⟩ (.int .u64 ((total : Int) + (s.size : Int)))) g (blocks 0 st (nat all)) rest tot ∧ Below B w (w.setCell ⟨g, 9, none⟩ (.int .u64 ((total : Int) + (s.size : Int)))) from
    ⟨by rw [HT.out]; exact heap_setCell_same _ _ _ _ _ _ H1.out, (Below.refl _ _).setCell hB _⟩)
  have HA := Lib.hid hasz
  rw [← hasz] at hmx hsz
  clear c8 c9 f9 hall hasz w9 ht
  go_loopw [1] (fun t wr => ∃ (k : Nat) (x : ByteArray), 64 * k ≤ all.size ∧ x.size + 64 * k = all.size ∧ t = .string x ∧ Hid (nat x = (nat all).drop (64 * k)) ∧ Hid (IsH wr g (blocks k st (nat all)) rest tot ∧ Below B w wr)) (fun t _ => match t with | .string x => x.size | _ => 0)
  case atStart => exact ⟨0, all, by omega, by omega, rfl, Lib.hid (by simp), HX⟩
  case round =>
    clear HX H1
    obtain ⟨k, x, hk, hx, rfl, HN, HX⟩ := hrel
    have hsx : B ≤ wr.heap.size := Nat.le_trans hBw HX.out.2.size
    by_cases h64 : 64 ≤ x.size
    · have d64 : decide (64 ≤ (x.size : Int)) = true := by simp; omega
      have d64' : decide (64 ≤ x.size) = true := by simp; omega
      have i64 : 64 ≤ (x.size : Int) := by omega
      have hs0 : (x.extract 0 64).size = 64 := by rw [ByteArray.size_extract]; omega
      have hb := Lib.hid (show blocks (k + 1) st (nat all) = block (blocks k st (nat all)) (nat (x.extract 0 64)) by rw [blocks_snoc, nat_extract, List.drop_zero, HN.out])
      go_wp2_with (go_at_call 116; refine (add_calls B g _ rest (x.extract 0 64) tot wr hB hsx HX.out.1 (blocks_ok HO.out _ _) hs0).mono ?_; rintro e_ w1 ⟨rfl, hI1, hb1⟩)
      go_roundw
      case rel => exact ⟨k + 1, x.extract 64 x.size, by omega, by rw [ByteArray.size_extract]; omega, rfl, Lib.hid (by rw [nat_extract, List.take_of_length_le (by rw [nat_length]; omega), HN.out, List.drop_drop]; congr 1), Lib.hid ⟨by rw [hb.out]; exact hI1, HX.out.2.trans hb1⟩⟩
      case measure => simp only [ByteArray.size_extract]; omega
    · have d64 : decide (64 ≤ (x.size : Int)) = false := by simp; omega
      have d64' : decide (64 ≤ x.size) = false := by simp; omega
      have hxs : x.size ≤ 281474976710656 := by omega
      have c8 : wr.cell? ⟨g, 8, none⟩ = some (.string rest) := cell_of_row _ _ 8 _ _ _ HX.out.1
      have f8 := HX.out.1.free 8
      go_wp2_with (go_at_call 117; refine (strings_Clone_calls x _ hxs).mono ?_; rintro e_ w1 ⟨rfl, hb1⟩; have hI1 := HX.out.1.below hb1; have c81 : w1.cell? ⟨g, 8, none⟩ = some (.string rest) := cell_of_row _ _ 8 _ _ _ hI1; have f81 := hI1.free 8; have HI1 := Lib.hid hI1; clear hI1)
      go_end0
      have hk' : (rest.size + s.size) / 64 = k := by have := HA.out; omega
      rw [hk', ← HAll.out, ← HTot.out]
      exact ⟨rfl, ⟨x, HN.out, heap_setCell_same _ _ _ _ _ _ HI1.out⟩, (HX.out.2.trans (hb1.mono hsx)).setCell hB _⟩
end Go.Proofs.Ytldkkboeaadbeaa.Sh
end
