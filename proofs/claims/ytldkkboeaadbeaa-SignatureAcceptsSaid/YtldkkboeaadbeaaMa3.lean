/- QuietTail, ShaC, ShaK -/
import Derived.StillTail
import Derived.Deep.Quiet
import Derived.Deep.QuietTactic
import Derived.StillTailTactics
import Derived.Test.YtldkkboeaadbeaaMa2
import Derived.Laws.Rows
import Derived.Below
import Derived.Lib.Hide
import Derived.IntWalk
import Derived.Deep.RegionWith
import Derived.Laws.BitsLemmas
section
/- A region that draws its order: operations that read (or call what keeps a class of worlds), and behind them a tail in one forced order: one walk serves every order (after the library's theorems on still tails and quiet regions). -/
namespace Go.Proofs.Ytldkkboeaadbeaa.Qt
open Go
variable {P : Program} {ops : Array Oper} {md : Region.Mode} {C : World → Prop}
def wpHead (P : Program) (md : Region.Mode) (ops : Array Oper) (C : World → Prop) (n : Nat) (L : Array Bool → Act → Prop) : Nat → Array Bool → Act → Prop
  | 0, listed, a => L listed a
  | f + 1, listed, a =>
    Region.ready md ops listed ≠ [] ∧ ∀ i ∈ Region.ready md ops listed, i < n ∧ qOp P ops C i (wpHead P md ops C n L f (listed.setIfInBounds i true)) a
theorem any_of_head {n g : Nat} {L : Array Bool → Act → Prop} {Q' : Exit → Act → World → Prop} (hL : ∀ listed a w, C w → L listed a → wpAny P md ops Q' g listed a w) :
    ∀ (f : Nat) (listed : Array Bool) (a : Act) (w : World), C w → wpHead P md ops C n L f listed a → wpAny P md ops Q' (f + g) listed a w
  | 0, listed, a, w, hw, h => by rw [Nat.zero_add]; exact hL _ _ _ hw h
  | f + 1, listed, a, w, hw, h => by
    rw [show f + 1 + g = (f + g) + 1 by omega]
    exact ⟨fun h0 => absurd h0 h.1, fun i hi => wpOp_of_qOp hw (fun a' w' hw' h' => any_of_head hL f _ a' w' hw' h') (h.2 i hi).2⟩
theorem head_first {n i : Nat} {oi : Oper} {v : Value} {L : Array Bool → Act → Prop} (hi : ops[i]? = some oi) (hsel : ∀ (j : Nat) (o : Oper) cs b, ops[j]? = some o → o.op ≠ .select cs b)
    (hs : Region.sinkB md ops n = true) (hc : Region.chainB md ops n = true) (hn : n < ops.size) (hin : i < n)
    (hdone : ∀ listed a, L listed a → ∀ j ∈ Region.ready md ops listed, n ≤ j) :
    ∀ (f : Nat) (listed : Array Bool) (a : Act), HeadInv md ops n listed →
      (∀ j oj, ops[j]? = some oj → j ≠ i → listed.getD j true = false → (∀ e ∈ oj.after, Region.binds md e = true → e.on ≠ i) → oi.apart ops oj = true) →
      i ∈ Region.ready md ops listed → YieldsIn P ops C oi v a →
      wpHead P md ops C n L f (listed.setIfInBounds i true) (a.put oi.dst v) → wpHead P md ops C n L (f + 1) listed a := by
  intro f
  induction f with
  | zero =>
    intro listed a inv _ hr hy H
    have hun := (mem_ready.1 hr).1
    refine ⟨fun h => (by rw [h] at hr; cases hr), fun j hj => ?_⟩
    have hjn : j < n := by
      rcases Nat.lt_or_ge j n with h | h
      · exact h
      · exact absurd hj (tail_waits hs hc hn inv _ i rfl hin hun j h)
    refine ⟨hjn, ?_⟩
    by_cases hji : j = i
    · subst hji; exact hy.qOp hi H
    · have := hdone _ _ H j (ready_mono hj hji)
      omega
  | succ f ih =>
    intro listed a inv hfree hr hy H
    have hun := (mem_ready.1 hr).1
    refine ⟨fun h => (by rw [h] at hr; cases hr), fun j hj => ?_⟩
    have hjn : j < n := by
      rcases Nat.lt_or_ge j n with h | h
      · exact h
      · exact absurd hj (tail_waits hs hc hn inv _ i rfl hin hun j h)
    refine ⟨hjn, ?_⟩
    by_cases hji : j = i
    · subst hji; exact hy.qOp hi H
    · have h1 := (H.2 j (ready_mono hj hji)).2
      obtain ⟨hjun, oj, hoj, hall⟩ := mem_ready.1 hj
      have hnot : ∀ e ∈ oj.after, Region.binds md e = true → e.on ≠ i := fun e he hb heq => by
        have h1 := hall e he hb
        rw [heq, getD_both hun] at h1
        cases h1
      have h2 := qOp_put hoj (hfree j oj hoj hji hjun hnot) (fun cs b => hsel i oi cs b hi) (fun cs b => hsel j oj cs b hoj) hy h1
      have hfree' : ∀ k ok, ops[k]? = some ok → k ≠ i → (listed.setIfInBounds j true).getD k true = false →
          (∀ e ∈ ok.after, Region.binds md e = true → e.on ≠ i) → oi.apart ops ok = true := fun k ok hk hki hun hno => by
        refine hfree k ok hk hki ?_ hno
        by_cases hjk : j = k
        · subst hjk; exact hjun
        · rw [getD_set_ne true hjk] at hun; exact hun
      refine qOp_mono (fun a' h3 => ih (listed.setIfInBounds j true) a' (inv.set hj hjn) hfree' (ready_mono hr (Ne.symm hji)) h3.1 ?_) h2
      rw [Array.setIfInBounds_comm _ _ hji]
      exact h3.2
theorem head_lex {n g : Nat} {Lq : Act → Prop} (hsel : Region.noSelect ops = true) (hs : Region.sinkB md ops n = true) (hc : Region.chainB md ops n = true) (hn : n < ops.size) :
    ∀ (l : List Oper) (k : Nat) (listed : Array Bool) (a : Act), (∀ j, j < l.length → l[j]? = ops[k + j]?) → k + l.length = n → HeadInv md ops n listed →
    Region.lexHead md ops g l.length k listed = true → wpQuiet P ops C Lq l a →
    wpHead P md ops C n (fun listed' a' => Region.seqB md ops g n listed' = true ∧ Lq a') l.length listed a
  | [], k, listed, a, _, hk, _, hB, h => by
    have : k = n := by simpa using hk
    subst this
    exact ⟨by simpa [Region.lexHead] using hB, h⟩
  | o :: l, k, listed, a, hl, hk, inv, hB, h => by
    have h0 : ops[k]? = some o := by simpa using (hl 0 (by simp)).symm
    simp only [List.length_cons, Region.lexHead, Bool.and_eq_true] at hB
    obtain ⟨⟨hr, hf⟩, hB'⟩ := hB
    have hkn : k < n := by simp only [List.length_cons] at hk; omega
    have hr' : k ∈ Region.ready md ops listed := by simpa using hr
    have hst : qOp P ops C k (wpQuiet P ops C Lq l) a := by unfold qOp; simp only [h0]; exact h
    obtain ⟨v, hy, hK⟩ := yieldsIn_of_qOp h0 hst
    exact head_first h0 (Region.noSelect_spec hsel) hs hc hn hkn (fun listed' a' hL => seqB_ready hL.1) l.length listed a inv (Region.free_spec h0 hf) hr' hy
      (head_lex hsel hs hc hn l (k + 1) _ _ (fun j hj => by have := hl (j + 1) (by simp; omega); simpa [Nat.add_assoc, Nat.add_comm 1 j] using this) (by simp only [List.length_cons] at hk; omega) (inv.set hr' hkn) hB' hK)
/-- the head keeps the class, whatever its order; the tail follows -/
theorem wp_region_tail {id : Nat} {Q : Exit → Act → World → Prop} {a : Act} {w : World} {l : List Oper} (C : World → Prop) (n : Nat) (hm : P.follows .mixedOrders = true) (hB : Region.lexTailB .any l.toArray n = true) (hC : C w.drew)
    (h : wpQuiet P l.toArray C (fun a' => ∀ w', C w' → wpList P l.toArray Q (l.drop n) a' w') (l.take n) a) : (Code.region id l.toArray true).wp P Q a w := by
  simp only [Region.lexTailB, Bool.and_eq_true, decide_eq_true_eq] at hB
  obtain ⟨⟨⟨⟨hsel, hn⟩, hs⟩, hc⟩, hlex⟩ := hB
  have hn' : n < l.length := by simpa using hn
  have htl : (l.take n).length = n := by simp; omega
  have hdl : (l.drop n).length = l.toArray.size - n := by simp
  have inv0 : HeadInv .any l.toArray n (Array.replicate l.toArray.size false) :=
    ⟨by simp, fun j oj _ hl => (by rw [getD_replicate_false] at hl; cases hl), fun t _ ht => getD_in (by simpa using ht) (getD_replicate_false _ _)⟩
  have H := head_lex (md := .any) (g := l.toArray.size - n) hsel hs hc hn (l.take n) 0 _ a (fun j hj => by
    have hj' : j < n := by rw [htl] at hj; exact hj
    simp [hj']) (by simpa using htl) inv0 (by rw [htl]; exact hlex) h
  refine wp_region_any hm ?_
  have := any_of_head (Q' := Q) (g := l.toArray.size - n) (fun listed a' w' hw' hL => by
    have := wpAny_of_seq (md := .any) (Q' := Q) (l.drop n) n listed a' w' (fun j => by simp [List.getElem?_drop]) (by rw [hdl]; exact hL.1) (hL.2 w' hw')
    rwa [hdl] at this) _ _ _ _ hC H
  rw [htl, show n + (l.toArray.size - n) = l.toArray.size by omega] at this
  exact this
/-- at the class 'w after some draws' -/
theorem wp_region_quiet_tail {id : Nat} {Q : Exit → Act → World → Prop} {a : Act} {w : World} {l : List Oper} (n : Nat) (hm : P.follows .mixedOrders = true) (hB : Region.lexTailB .any l.toArray n = true)
    (h : wpQuiet P l.toArray (fun w' => ∃ m, w' = w.drewN m) (fun a' => ∀ w', (∃ m, w' = w.drewN m) → wpList P l.toArray Q (l.drop n) a' w') (l.take n) a) : (Code.region id l.toArray true).wp P Q a w :=
  wp_region_tail _ n hm hB ⟨1, rfl⟩ h
end Go.Proofs.Ytldkkboeaadbeaa.Qt
end
section
/- SHA-256: the schedule of a block. -/
set_option linter.unusedVariables false
set_option linter.unusedSimpArgs false
namespace Go.Proofs.Ytldkkboeaadbeaa.Sh
open Go.RowKit
def nat (s : ByteArray) : List Nat := s.data.toList.map UInt8.toNat
theorem nat_length (s : ByteArray) : (nat s).length = s.size := by simp [nat]
theorem nat_lt (s : ByteArray) : ∀ x ∈ nat s, x < 256 := by
  intro x hx
  obtain ⟨u, _, rfl⟩ := List.mem_map.1 hx
  exact u.toNat_lt
theorem nat_get (s : ByteArray) (i : Nat) (h : i < s.size) : (nat s).getD i 0 = (s[i]'h).toNat := by
  rw [List.getD_eq_getElem?_getD, List.getElem?_eq_getElem (by rw [nat_length]; exact h), Option.getD_some]
  simp [nat]; rfl
abbrev TW : TypeId := 156
def part (b : List Nat) (i : Nat) : Nat → Nat
  | 0 => 0
  | k + 1 => part b i k * 256 + b.getD (4 * i + k) 0
theorem part_4 (b : List Nat) (i : Nat) : part b i 4 = word b i := by simp [part, word]
theorem getD_lt {b : List Nat} (hb : ∀ x ∈ b, x < 256) (j : Nat) : b.getD j 0 < 256 := by
  rw [List.getD_eq_getElem?_getD]
  rcases Nat.lt_or_ge j b.length with h | h
  · rw [List.getElem?_eq_getElem h]; exact hb _ (List.getElem_mem h)
  · rw [List.getElem?_eq_none h]; decide
theorem part_lt {b : List Nat} (hb : ∀ x ∈ b, x < 256) (i : Nat) : ∀ k, k ≤ 3 → part b i k < 16777216
  | 0, _ => by simp [part]
  | 1, _ => by have := getD_lt hb (4 * i); simp only [part, Nat.add_zero]; omega
  | 2, _ => by have := getD_lt hb (4 * i); have := getD_lt hb (4 * i + 1); simp only [part, Nat.add_zero]; omega
  | 3, _ => by have := getD_lt hb (4 * i); have := getD_lt hb (4 * i + 1); have := getD_lt hb (4 * i + 2); simp only [part, Nat.add_zero]; omega
  | k + 4, h => by omega
def uw (x : Nat) : Value := .int .u32 x
/-- the row of words behind i words, word i begun with x -/
structure RowAt (b : List Nat) (i x : Nat) (cs : Array Value) : Prop where
  size : cs.size = 64
  lo : ∀ j, j < i → cs[j]? = some (uw ((words b).getD j 0))
  mid : cs[i]? = some (uw x)
  hi : ∀ j, i < j → j < 64 → cs[j]? = some (uw 0)
theorem RowAt.set {b : List Nat} {i x : Nat} {cs : Array Value} (h : RowAt b i x cs) (hi : i < 64) (y : Nat) : RowAt b i y (cs.setIfInBounds i (uw y)) := by
  refine ⟨by simp [h.size], fun j hj => ?_, ?_, fun j hj hj2 => ?_⟩
  · rw [Array.getElem?_setIfInBounds_ne (by omega)]; exact h.lo j hj
  · rw [Array.getElem?_setIfInBounds_self_of_lt (by rw [h.size]; exact hi)]
  · rw [Array.getElem?_setIfInBounds_ne (by omega)]; exact h.hi j hj hj2
theorem RowAt.next {b : List Nat} {i : Nat} {cs : Array Value} (h : RowAt b i ((words b).getD i 0) cs) (hi : i + 1 < 64) : RowAt b (i + 1) 0 cs :=
  ⟨h.size, fun j hj => (by by_cases e : j = i; · subst e; exact h.mid
                           · exact h.lo j (by omega)), h.hi (i + 1) (by omega) hi, fun j hj hj2 => h.hi j (by omega) hj2⟩
theorem below_drewN {B : Nat} {w W : World} (h : Below B w W) (n : Nat) : Below B w (W.drewN n) := ⟨h.os, h.tape, h.output, h.size, h.block⟩
theorem RowAt.full {b : List Nat} {i : Nat} {cs : Array Value} (h : RowAt b i ((words b).getD i 0) cs) (hb : b.length = 64) (hi : i = 63) : cs = ((words b).map uw).toArray := by
  subst hi
  apply Array.ext
  · simp [h.size, words_length hb]
  · intro j h1 h2
    have hj : j < 64 := by rw [← h.size]; exact h1
    have hw : j < (words b).length := by rw [words_length hb]; exact hj
    have e : cs[j]? = some (uw ((words b).getD j 0)) := by
      by_cases e : j = 63
      · subst e; exact h.mid
      · exact h.lo j (by omega)
    rw [Array.getElem?_eq_getElem h1] at e
    rw [Option.some.inj e]
    simp [List.getD_eq_getElem?_getD, hw]
structure SchAt (w wr : World) (cs : Array Value) : Prop where
  row : wr.heap[w.heap.size + 1]? = some (.cells cs TW (0, 0))
  res : ∃ z : Array Value, z.size = 64 ∧ wr.heap[w.heap.size]? = some (.cells z TW (0, 0))
  below : Below w.heap.size w wr
theorem SchAt.drewN {w wr : World} {cs : Array Value} (h : SchAt w wr cs) (n : Nat) : SchAt w (wr.drewN n) cs := ⟨h.row, h.res, below_drewN h.below n⟩
theorem SchAt.set {w wr : World} {cs : Array Value} (h : SchAt w wr cs) (i : Nat) (v : Value) : SchAt w (wr.setCell ⟨w.heap.size + 1, i, none⟩ v) (cs.setIfInBounds i v) := by
  obtain ⟨z, hz, hr⟩ := h.res
  exact ⟨heap_setCell_same _ _ _ _ _ _ h.row, ⟨z, hz, (heap_setCell_other _ _ _ _ (by simp)).trans hr⟩, h.below.setCell (by simp) _⟩
theorem SchAt.cell {w wr : World} {cs : Array Value} (h : SchAt w wr cs) {j : Nat} {v : Value} (hj : cs[j]? = some v) : wr.cell? ⟨w.heap.size + 1, j, none⟩ = some v := (cell_of_row _ _ _ _ _ _ h.row).trans hj
theorem SchAt.free {w wr : World} {cs : Array Value} (h : SchAt w wr cs) (j : Nat) : wr.frozen? ⟨w.heap.size + 1, j, none⟩ = false := frozen_of_row _ _ _ _ _ h.row
theorem below_setRow {B : Nat} {a w : World} (h : Below B a w) {g : Nat} (hg : B ≤ g) (cs : Array Value) : Below B a (w.setRow g cs) :=
  ⟨h.os, h.tape, h.output, by simpa using h.size, fun i hi => (setRow_other w g i cs (by omega)).trans (h.block i hi)⟩
theorem u32_wrap (x : Nat) (h : x < 4294967296) : (x : Int) % 4294967296 = (x : Int) := by omega
set_option maxRecDepth 100000 in
set_option maxHeartbeats 2000000 in
theorem schedule_calls (s : ByteArray) (hs : s.size = 64) (w : World) :
    Calls Try.prog 125 #[.string s] w fun e w' => e = .returned (.agg ((words (nat s)).map uw).toArray) ∧ Below w.heap.size w w' := by
  have hlen : (nat s).length = 64 := by rw [nat_length, hs]
  have hlt := nat_lt s
  have Hs := Lib.hid hs
  have HL := Lib.hid hlen
  have HN := Lib.hid hlt
  clear hs hlen hlt
  go_enter Try.func125, Try.ntmps125
  go_wp2
  go_loopw [7] (fun t wr => ∃ i : Nat, i ≤ 64 ∧ t = .int .i64 i ∧ ∃ cs, Hid (SchAt w wr cs) ∧ (i < 64 → Hid (RowAt (nat s) i 0 cs)) ∧ (i = 64 → Hid (cs = ((words (nat s)).map uw).toArray))) (fun t _ => 64 - (intOf t).toNat)
  case atStart =>
    refine ⟨0, by omega, rfl, Array.replicate 64 (uw 0), Lib.hid ⟨?_, ⟨Array.replicate 64 (uw 0), by simp, ?_⟩, ?_⟩, fun _ => Lib.hid ⟨by simp, fun j hj => by omega, by simp, fun j _ hj => by simp [hj]⟩, fun h => by omega⟩
    · exact heap_alloc2_new _ _ _
    · exact heap_alloc2_old _ _ _
    · exact ((Below.refl _ _).alloc (Nat.le_refl _) _).alloc (by simp) _
  case round =>
    obtain ⟨i, hi, rfl, cs, HS, HR, HE⟩ := hrel
    by_cases hlt : i < 64
    · have HR := HR hlt
      clear HE
      have d64 : decide ((i : Int) < 64) = true := by simp; omega
      have hi64 : (i : Int) < 64 := by omega
      by_cases h16 : i < 16
      · have d16 : decide ((i : Int) < 16) = true := by simp; omega
        go_wp2
        obtain ⟨wo, hwo⟩ : ∃ wo : World, wo = wr := ⟨_, rfl⟩
        rw [← hwo] at HS ⊢
        clear hwo
        go_loopw [12] (fun t wi => ∃ k : Nat, k ≤ 4 ∧ t = .int .i64 k ∧ ∃ cs, Hid (SchAt w wi cs) ∧ Hid (RowAt (nat s) i (part (nat s) i k) cs)) (fun t _ => 4 - (intOf t).toNat)
        case atStart => exact ⟨0, by omega, rfl, cs, HS, HR⟩
        case round =>
          clear HS HR
          obtain ⟨k, hk, rfl, cs, HS, HR⟩ := hrel
          by_cases hk4 : k < 4
          · have hp := part_lt (HN.out) i k (by omega)
            obtain ⟨q, hq⟩ : ∃ q, q = 4 * i + k := ⟨_, rfl⟩
            have hsz : q < s.size := by have := Hs.out; omega
            have hix : (q : Int) < (s.size : Int) := by omega
            have hby : (s[q]'hsz).toNat < 256 := (s[q]'hsz).toNat_lt
            have hget := Lib.hid (nat_get s q hsz)
            have ht : wr.cell? ⟨w.heap.size + 1, i, none⟩ = some (.int .u32 ((part (nat s) i k : Nat) : Int)) := HS.out.cell HR.out.mid
            have hf := HS.out.free i
            have HP := Lib.hid (show part (nat s) i (k + 1) = part (nat s) i k * 256 + (nat s).getD q 0 by rw [hq]; rfl)
            generalize part (nat s) i k = P at *
            have w1 : IntKind.i64.wrap (4 * (i : Int)) = 4 * (i : Int) := IntWalk.i64_in _ (by omega)
            have w2 : IntKind.i64.wrap (4 * (i : Int) + (k : Int)) = (q : Int) := by rw [IntWalk.i64_in _ (by omega)]; omega
            have hm : IntKind.u32.wrap ((P : Int) * 256) = ((P * 256 : Nat) : Int) := by rw [IntKind.wrap_u32]; omega
            have h3 : IntKind.u32.wrap (((s[q]'hsz).toNat : Nat) : Int) = (((s[q]'hsz).toNat : Nat) : Int) := by rw [IntKind.wrap_u32]; omega
            obtain ⟨X, hX⟩ : ∃ X, X = P * 256 + (s[q]'hsz).toNat := ⟨_, rfl⟩
            have hor : bits .or .u32 ((P : Int) * 256) (((s[q]'hsz).toNat : Nat) : Int) = (X : Int) := by
              rw [show (P : Int) * 256 = ((P * 256 : Nat) : Int) by omega, u32_or_nat _ _ (by omega) (by omega), nat_join 8 _ _ (by omega) (by omega), hX]
            have HQ := Lib.hid hq
            have HX := Lib.hid hX
            clear hq hX
            go_wp2
            refine Qt.wp_region_quiet_tail 14 (by kernel_rfl) (by kernel_rfl) ?_
            simp only [List.take_succ_cons, List.take_zero, List.drop_succ_cons, List.drop_zero]
            repeat (quiet_step (fail))
            refine wpQuiet_nil ?_
            rintro w' ⟨nq, rfl⟩
            go_wp2
            go_roundw
            case rel =>
              have hr : RowAt (nat s) i (part (nat s) i (k + 1)) (cs.setIfInBounds i (uw X)) := by
                rw [HP.out, hget.out, ← HX.out]; exact HR.out.set (by omega) X
              exact ⟨k + 1, by omega, by go_num, _, Lib.hid ((HS.out.drewN _).set i (uw X)), Lib.hid hr⟩
            case measure => simp [intOf]; omega
          · obtain rfl : k = 4 := by omega
            have hr := HR.out
            rw [part_4, ← words_lo HL.out i h16] at hr
            have HR2 := Lib.hid (hr.next (by omega))
            clear hr HR
            go_wp2
            go_roundw
            case rel => exact ⟨i + 1, by omega, by go_num, cs, HS, fun _ => HR2, fun h => by omega⟩
            case measure => simp [intOf]; omega
      · have d16 : decide ((i : Int) < 16) = false := by simp; omega
        obtain ⟨j, hj⟩ : ∃ j, i = j + 16 := ⟨i - 16, by omega⟩
        have hw := words_hi HL.out j (by omega)
        have l2 := words_lt HL.out HN.out (j + 14)
        have l7 := words_lt HL.out HN.out (j + 9)
        have l15 := words_lt HL.out HN.out (j + 1)
        have l16 := words_lt HL.out HN.out j
        obtain ⟨m2, hm2⟩ : ∃ m, m = j + 14 := ⟨_, rfl⟩
        obtain ⟨m7, hm7⟩ : ∃ m, m = j + 9 := ⟨_, rfl⟩
        obtain ⟨m15, hm15⟩ : ∃ m, m = j + 1 := ⟨_, rfl⟩
        have c2 : wr.cell? ⟨w.heap.size + 1, m2, none⟩ = some (.int .u32 (((words (nat s)).getD (j + 14) 0 : Nat) : Int)) := HS.out.cell (by rw [hm2]; exact HR.out.lo (j + 14) (by omega))
        have c7 : wr.cell? ⟨w.heap.size + 1, m7, none⟩ = some (.int .u32 (((words (nat s)).getD (j + 9) 0 : Nat) : Int)) := HS.out.cell (by rw [hm7]; exact HR.out.lo (j + 9) (by omega))
        have c15 : wr.cell? ⟨w.heap.size + 1, m15, none⟩ = some (.int .u32 (((words (nat s)).getD (j + 1) 0 : Nat) : Int)) := HS.out.cell (by rw [hm15]; exact HR.out.lo (j + 1) (by omega))
        have c16 : wr.cell? ⟨w.heap.size + 1, j, none⟩ = some (.int .u32 (((words (nat s)).getD j 0 : Nat) : Int)) := HS.out.cell (HR.out.lo j (by omega))
        have ci : wr.cell? ⟨w.heap.size + 1, i, none⟩ = some (.int .u32 ((0 : Nat) : Int)) := HS.out.cell HR.out.mid
        have hf := HS.out.free i
        generalize (words (nat s)).getD (j + 14) 0 = x2 at *
        generalize (words (nat s)).getD (j + 9) 0 = x7 at *
        generalize (words (nat s)).getD (j + 1) 0 = x15 at *
        generalize (words (nat s)).getD j 0 = x16 at *
        have n2 : IntKind.i64.wrap ((i : Int) - 2) = (m2 : Int) := by rw [IntWalk.i64_in _ (by omega)]; omega
        have n7 : IntKind.i64.wrap ((i : Int) - 7) = (m7 : Int) := by rw [IntWalk.i64_in _ (by omega)]; omega
        have n15 : IntKind.i64.wrap ((i : Int) - 15) = (m15 : Int) := by rw [IntWalk.i64_in _ (by omega)]; omega
        have n16 : IntKind.i64.wrap ((i : Int) - 16) = (j : Int) := by rw [IntWalk.i64_in _ (by omega)]; omega
        have b2 : (m2 : Int) < 64 := by omega
        have b7 : (m7 : Int) < 64 := by omega
        have b15 : (m15 : Int) < 64 := by omega
        have b16 : (j : Int) < 64 := by omega
        clear hm2 hm7 hm15
        have HJ := Lib.hid hj
        have HW := Lib.hid hw
        clear hj hw
        go_wp2
        refine Qt.wp_region_quiet_tail 25 (by kernel_rfl) (by kernel_rfl) ?_
        simp only [List.take_succ_cons, List.take_zero, List.drop_succ_cons, List.drop_zero]
        repeat (quiet_step (first
          | (go_at_call_of 131 (Value.int .u32 (x2 : Int)); exact Calls.quiet_of (mix2_calls x2 17 19 10 17 19 10 _ l2 rfl rfl rfl (by decide) (by decide) (by decide) (by decide) (by decide) (by decide)))
          | (go_at_call_of 131 (Value.int .u32 (x15 : Int)); exact Calls.quiet_of (mix2_calls x15 7 18 3 7 18 3 _ l15 rfl rfl rfl (by decide) (by decide) (by decide) (by decide) (by decide) (by decide)))))
        refine wpQuiet_nil ?_
        rintro w' ⟨nq, rfl⟩
        go_wp2
        have hv : (Value.int .u32 ((((ror x2 17 ^^^ ror x2 19 ^^^ x2 >>> 10 : Nat) : Int) + x7 + ((ror x15 7 ^^^ ror x15 18 ^^^ x15 >>> 3 : Nat) : Int) + x16) % 4294967296)) = uw ((words (nat s)).getD i 0) := by
          rw [HJ.out, HW.out]; unfold uw sg1 sg0; congr 1
        rw [hv]
        have hr := HR.out.set hlt ((words (nat s)).getD i 0)
        go_roundw
        case rel => exact ⟨i + 1, by omega, by go_num, _, Lib.hid ((HS.out.drewN nq).set i _), fun h => Lib.hid (hr.next h), fun h => Lib.hid (hr.full HL.out (by omega))⟩
        case measure => simp [intOf]; omega
    · obtain rfl : i = 64 := by omega
      have HE := HE rfl
      clear HR
      obtain ⟨z, hz, hres⟩ := HS.out.res
      have hcs := HE.out
      clear HE
      subst hcs
      have hsz : ((words (nat s)).map uw).toArray.size = 64 := by simp [words_length HL.out]
      go_wp2_with (first
        | (refine wpList_load_row rfl 156 (.tmp 3) rfl (w.heap.size + 1) rfl TW _ (0, 0) _ HS.out.row Try.underlying156 rfl ?ci ?_; (case ci => rw [hsz]; kernel_rfl))
        | (refine wpList_store_row rfl 156 (.tmp 2) (.tmp 56) rfl w.heap.size _ rfl rfl TW z hres ?ci ?ch ?c1 ?_; (case ci => rw [hsz]; kernel_rfl); (case ch => rw [hsz, hz]); (case c1 => simp [uw, Value.oneCell'])))
      refine bodyPost_ret (results_cell_row rfl _ _ w.heap.size TW ((words (nat s)).map uw).toArray (0, 0) _ rfl (setRow_heap _ _ _ _ _ _ hres) Try.underlying156 rfl (by rw [hsz]; kernel_rfl)) rfl ⟨rfl, below_setRow HS.out.below (Nat.le_refl _) _⟩
end Go.Proofs.Ytldkkboeaadbeaa.Sh
end
section
/- SHA-256: the constants. -/
set_option linter.unusedVariables false
set_option linter.unusedSimpArgs false
namespace Go.Proofs.Ytldkkboeaadbeaa.Sh
open Go.RowKit
theorem kk_length : kk.length = 64 := by decide
set_option maxRecDepth 100000 in
set_option maxHeartbeats 2000000 in
theorem constants_calls (w : World) :
    Calls Try.prog 126 #[] w fun e w' => e = .returned (.agg (kk.map uw).toArray) ∧ Below w.heap.size w w' := by
  go_enter Try.func126, Try.ntmps126
  go_wp2_with (first
    | (refine wpList_build rfl 156 _ rfl (by kernel_rfl) ?_)
    | (refine wpList_store_row rfl 156 (.tmp 0) (.tmp 1) rfl w.heap.size _ rfl rfl TW _ (heap_alloc_new _ _) (by kernel_rfl) (by kernel_rfl) (by kernel_rfl) ?_))
  refine bodyPost_ret (results_cell_row rfl _ _ w.heap.size TW _ (0, 0) _ rfl (setRow_heap _ _ _ _ _ _ (heap_alloc_new _ _)) Try.underlying156 rfl (by kernel_rfl)) rfl ⟨congrArg (fun c => Ending.returned (Value.agg c)) (by kernel_rfl), below_setRow ((Below.refl _ _).alloc (Nat.le_refl _) _) (Nat.le_refl _) _⟩
end Go.Proofs.Ytldkkboeaadbeaa.Sh
end
