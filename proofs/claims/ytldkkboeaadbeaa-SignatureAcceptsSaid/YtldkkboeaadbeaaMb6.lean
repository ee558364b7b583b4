/- SgT, SgU, ShaEv, SgEa, SgEc0, SgEc1 -/
import Derived.Test.YtldkkboeaadbeaaMb1
import Derived.Test.YtldkkboeaadbeaaMb5
import Derived.Test.YtldkkboeaadbeaaMa2
section
/- Equal signatures, and the seeds of the examples. -/
set_option linter.unusedVariables false
set_option linter.unusedSimpArgs false
namespace Go.Proofs.Ytldkkboeaadbeaa.Sg
open Go.RowKit Go.Proofs.YtldkkboeaadbeaaW.PrintWords Go.Proofs.YtldkkboeaadbeaaW.PrintLast Go.Proofs.YtldkkboeaadbeaaW.PrintMore
attribute [local go_sem] Sd.pureq Sd.pureAt Sd.pureUpon
theorem strs_at' {w : World} {A : Option Addr} {n : Nat} {l : List ByteArray} (h : Strs w A n l) {ad : Addr} (e : A = some ad) (j : Nat) (hj : j < l.length) : w.cell? (ad.add j) = some (.string l[j]) := by
  obtain ⟨ad', e', hc⟩ := strs_at h j hj
  rw [e] at e'
  cases e'
  exact hc
theorem take_succ_eq {l1 l2 : List ByteArray} {j : Nat} (h1 : j < l1.length) (h2 : j < l2.length) (h : l1.take j = l2.take j) (e : l1[j] = l2[j]) : l1.take (j + 1) = l2.take (j + 1) := by
  rw [List.take_succ_eq_append_getElem h1, List.take_succ_eq_append_getElem h2, h, e]
set_option maxHeartbeats 2000000 in
theorem SameStrings_calls (A1 : Option Addr) (c1 : Nat) (l1 : List ByteArray) (A2 : Option Addr) (c2 : Nat) (l2 : List ByteArray) (w : World) (hr1 : Strs w A1 l1.length l1) (hr2 : Strs w A2 l2.length l2) :
    Calls Try.prog 89 #[.slice A1 l1.length c1, .slice A2 l2.length c2] w fun e w' => e = .returned (.bool (decide (l1 = l2))) ∧ Below w.heap.size w w' := by
  have hl1 := hr1.2.1
  have hl2 := hr2.2.1
  have HR1 := Lib.hid hr1
  have HR2 := Lib.hid hr2
  clear hr1 hr2
  by_cases hlen : l1.length = l2.length
  · have t1 : ((l1.length : Int) != (l2.length : Int)) = false := bne_eq_false_iff_eq.mpr (by omega)
    have HL := Lib.hid hlen
    obtain ⟨n2, hn2⟩ : ∃ n, n = l2.length := ⟨_, rfl⟩
    rw [← hn2] at t1 hl2 ⊢
    have HN2 := Lib.hid hn2
    clear hn2
    have hlen' : l1.length ≤ n2 := by have := HL.out; have := HN2.out; omega
    have hlen2 : n2 ≤ l1.length := by have := HL.out; have := HN2.out; omega
    clear hlen
    go_enter Try.func89, Try.ntmps89
    go_wp2
    go_loopw [5] (fun i wr => ∃ j : Nat, j ≤ l1.length ∧ i = .int .i64 j ∧ Hid (l1.take j = l2.take j ∧ Ext w wr)) (fun i _ => l1.length - (intOf i).toNat)
    case atStart => exact ⟨0, Nat.zero_le _, rfl, Lib.hid ⟨rfl, Ext.refl w⟩⟩
    case round =>
      obtain ⟨j, hj, rfl, HB⟩ := hrel
      by_cases hlt : j < l1.length
      · have hj2 : j < l2.length := by have := HN2.out; omega
        obtain ⟨ad1, rfl, hc1⟩ := strs_at (strs_ext HR1.out HB.out.2) j hlt
        obtain ⟨ad2, rfl, hc2⟩ := strs_at (strs_ext HR2.out HB.out.2) j hj2
        have x1 : ((j : Int) < (l1.length : Int)) = True := eq_true (by omega)
        have x2 : ((j : Int) < (n2 : Int)) = True := eq_true (by omega)
        have x3 : (j < l1.length) = True := eq_true (by omega)
        have x4 : (j < n2) = True := eq_true (by omega)
        by_cases he : l1[j] = l2[j]
        · have HT := Lib.hid (take_succ_eq hlt hj2 HB.out.1 he)
          have hq : (l1[j].toList != l2[j].toList) = false := by rw [he]; simp
          have hq' : (l1[j].toList == l2[j].toList) = true := by rw [he]; simp
          obtain ⟨s1, h1⟩ : ∃ s, s = l1[j] := ⟨_, rfl⟩
          obtain ⟨s2, h2⟩ : ∃ s, s = l2[j] := ⟨_, rfl⟩
          rw [← h1] at hc1 hq hq'
          rw [← h2] at hc2 hq hq'
          clear he h1 h2
          go_wp2
          refine Sd.regionC (fun w' => w' = wr.drew) [(0, 0), (1, 0), (2, 0), (3, 1), (4, 0), (5, 0), (6, 0), (7, 1), (8, 0)] (by kernel_rfl) (by kernel_rfl) rfl ?_
          iterate 9 (first | (refine Sd.s0 rfl (fun K hK => ?_); go_simp; refine hK _ ?_; clear hK K) | (refine Sd.s1 rfl (fun K hK => ?_); go_simp; refine hK _ ?_; clear hK K))
          refine Sd.nilC ?_
          go_wp2
          go_roundw
          case rel => exact ⟨j + 1, by omega, by go_num, Lib.hid ⟨HT.out, HB.out.2.drew⟩⟩
          case measure => simp [intOf]; omega
        · have HF := Lib.hid (show decide (l1 = l2) = false from decide_eq_false (fun e => he (by subst e; rfl)))
          have hq : (l1[j].toList != l2[j].toList) = true := by
            have := str_eq l1[j] l2[j]
            rw [decide_eq_false he] at this
            simp only [bne, this]; rfl
          have hq' : (l1[j].toList == l2[j].toList) = false := by rw [str_eq, decide_eq_false he]
          obtain ⟨s1, h1⟩ : ∃ s, s = l1[j] := ⟨_, rfl⟩
          obtain ⟨s2, h2⟩ : ∃ s, s = l2[j] := ⟨_, rfl⟩
          rw [← h1] at hc1 hq hq'
          rw [← h2] at hc2 hq hq'
          clear he h1 h2
          go_wp2
          refine Sd.regionC (fun w' => w' = wr.drew) [(0, 0), (1, 0), (2, 0), (3, 1), (4, 0), (5, 0), (6, 0), (7, 1), (8, 0)] (by kernel_rfl) (by kernel_rfl) rfl ?_
          iterate 9 (first | (refine Sd.s0 rfl (fun K hK => ?_); go_simp; refine hK _ ?_; clear hK K) | (refine Sd.s1 rfl (fun K hK => ?_); go_simp; refine hK _ ?_; clear hK K))
          refine Sd.nilC ?_
          go_wp2
          go_ret
          exact ⟨by rw [HF.out]; rfl, HB.out.2.drew⟩
      · have hjl : j = l1.length := by omega
        subst hjl
        have HT := Lib.hid (show decide (l1 = l2) = true from decide_eq_true (by
          have := HB.out.1
          rw [List.take_length, List.take_of_length_le (by have := HL.out; omega)] at this
          exact this))
        go_wp2
        go_ret
        exact ⟨by rw [HT.out]; rfl, HB.out.2⟩
  · have HF := Lib.hid (show decide (l1 = l2) = false from decide_eq_false (fun e => hlen (by rw [e])))
    have t1 : ((l1.length : Int) != (l2.length : Int)) = true := bne_iff_ne.mpr (by omega)
    have t2 : (l1.length != l2.length) = true := bne_iff_ne.mpr hlen
    clear hlen
    go_enter Try.func89, Try.ntmps89
    go_wp2
    go_ret
    exact ⟨by rw [HF.out]; rfl, Below.refl _ _⟩
def samB (i j : Int) (a b p q : List ByteArray) : Bool := decide (i = j ∧ a = b ∧ p = q)
theorem two_boxes {w w' : World} {T1 T2 : TypeId} {cs1 cs2 : Array Value} (he : Ext ((w.alloc (.cells cs1 T1)).alloc (.cells cs2 T2)) w') : w'.heap[w.heap.size]? = some (.cells cs1 T1) ∧ w'.heap[w.heap.size + 1]? = some (.cells cs2 T2) :=
  ⟨Ext.block he (Ext.block (Ext.alloc (Ext.refl _) _) (heap_alloc_new _ _)), Ext.block he (by have := heap_alloc_new (w.alloc (.cells cs1 T1)) (.cells cs2 T2); simpa using this)⟩
set_option maxHeartbeats 2000000 in
theorem Same_calls (i j : Int) (A1 : Option Addr) (c1 : Nat) (A2 : Option Addr) (c2 : Nat) (B1 : Option Addr) (d1 : Nat) (B2 : Option Addr) (d2 : Nat) (a p b q : List ByteArray) (w : World) (ha : Strs w A1 a.length a) (hp : Strs w A2 p.length p) (hb : Strs w B1 b.length b) (hq : Strs w B2 q.length q) :
    Calls Try.prog 68 #[sigV i A1 a.length c1 A2 p.length c2, sigV j B1 b.length d1 B2 q.length d2] w fun e w' => e = .returned (.bool (samB i j a b p q)) ∧ Below w.heap.size w w' := by
  have HS1 := Lib.hid (show ∀ w', Ext w w' → _ from fun w' he => SameStrings_calls A1 c1 a B1 d1 b w' (strs_ext ha he) (strs_ext hb he))
  have HS2 := Lib.hid (show ∀ w', Ext w w' → _ from fun w' he => SameStrings_calls A2 c2 p B2 d2 q w' (strs_ext hp he) (strs_ext hq he))
  have HE := Lib.hid (show Ext w ((w.alloc (.cells (sigC i A1 a.length c1 A2 p.length c2) 72)).alloc (.cells (sigC j B1 b.length d1 B2 q.length d2) 72)) from Ext.alloc (Ext.alloc (Ext.refl w) _) _)
  clear ha hp hb hq
  by_cases h1 : i = j
  · have t1 : (i == j) = true := beq_iff_eq.mpr h1
    by_cases h2 : a = b
    · rw [decide_eq_true h2] at HS1
      by_cases h3 : p = q
      · rw [decide_eq_true h3] at HS2
        have HV := Lib.hid (show samB i j a b p q = true from decide_eq_true ⟨h1, h2, h3⟩)
        clear h1 h2 h3
        go_enter Try.func68, Try.ntmps68
        go_wp2_with fail
        refine (HS1.out _ HE.out).mono ?_
        rintro e w1 ⟨rfl, hb1⟩
        have E1 := Ext.call HE.out hb1
        have c1 := cell_of_row w1 _ 2 _ _ _ (two_boxes hb1).1
        have c2 := cell_of_row w1 _ 2 _ _ _ (two_boxes hb1).2
        clear hb1
        go_wp2_with fail
        refine (HS2.out _ E1).mono ?_
        rintro e w2 ⟨rfl, hb2⟩
        have E2 := Ext.call E1 hb2
        clear hb2
        go_wp2
        go_ret
        exact ⟨by rw [HV.out]; rfl, E2⟩
      · rw [decide_eq_false h3] at HS2
        have HV := Lib.hid (show samB i j a b p q = false from decide_eq_false fun h => h3 h.2.2)
        clear h1 h2 h3
        go_enter Try.func68, Try.ntmps68
        go_wp2_with fail
        refine (HS1.out _ HE.out).mono ?_
        rintro e w1 ⟨rfl, hb1⟩
        have E1 := Ext.call HE.out hb1
        have c1 := cell_of_row w1 _ 2 _ _ _ (two_boxes hb1).1
        have c2 := cell_of_row w1 _ 2 _ _ _ (two_boxes hb1).2
        clear hb1
        go_wp2_with fail
        refine (HS2.out _ E1).mono ?_
        rintro e w2 ⟨rfl, hb2⟩
        have E2 := Ext.call E1 hb2
        clear hb2
        go_wp2
        go_ret
        exact ⟨by rw [HV.out]; rfl, E2⟩
    · rw [decide_eq_false h2] at HS1
      have HV := Lib.hid (show samB i j a b p q = false from decide_eq_false fun h => h2 h.2.1)
      clear h1 h2
      go_enter Try.func68, Try.ntmps68
      go_wp2_with fail
      refine (HS1.out _ HE.out).mono ?_
      rintro e w1 ⟨rfl, hb1⟩
      have E1 := Ext.call HE.out hb1
      clear hb1
      go_wp2
      go_ret
      exact ⟨by rw [HV.out]; rfl, E1⟩
  · have t1 : (i == j) = false := beq_eq_false_iff_ne.mpr h1
    have HV := Lib.hid (show samB i j a b p q = false from decide_eq_false fun h => h1 h.1)
    clear h1
    go_enter Try.func68, Try.ntmps68
    go_wp2
    go_ret
    exact ⟨by rw [HV.out]; rfl, HE.out⟩
/-- the seeds of the examples -/
def seedB (b : Nat) : ByteArray := Sh.strN (List.replicate 32 b)
theorem seedB_size (b : Nat) : (seedB b).size = 32 := by
  unfold seedB Sh.strN
  show (Array.size _) = 32
  simp
theorem seed_calls (b : Nat) (w : World) (hb : b < 256) :
    Calls Try.prog 40 #[.int .u8 (b : Int)] w fun e w' => e = .returned (.string (seedB b)) ∧ Below w.heap.size w w' := by
  have HR := Lib.hid (show ∀ w', Calls Try.prog 69 #[.string (Sh.strN [b]), .int .i64 32] w' fun e w'' => e = .returned (.string (seedB b)) ∧ Below w'.heap.size w' w'' from fun w' => by
    have h1 : (Sh.strN [b]).size = 1 := rfl
    have := Try.strings_Repeat (Sh.strN [b]) 32 w' (by omega) (by rw [h1]; omega)
    have e : (⟨(Lib.repeatL (Sh.strN [b]).data.toList 32).toArray⟩ : ByteArray) = seedB b := rfl
    rwa [e] at this)
  have hcv := Sh.conv_row (w.alloc (.cells #[.int .u8 (b : Int)] 5)) w.heap.size 1 1 5 #[.int .u8 (b : Int)] (0, 0) [b] (heap_alloc_new _ _) rfl rfl
  obtain ⟨s, hs⟩ : ∃ s, s = Sh.strN [b] := ⟨_, rfl⟩
  rw [← hs] at hcv HR
  clear hs
  go_enter Try.func40, Try.ntmps40
  go_wp2_with (go_at_call 69; refine (HR.out _).mono ?_; rintro e w1 ⟨rfl, hb1⟩)
  go_ret
  exact ⟨rfl, Ext.call (Ext.alloc (Ext.refl w) _) hb1⟩
end Go.Proofs.Ytldkkboeaadbeaa.Sg
end
section
/- What is signed is accepted; what is encoded is decoded. -/
set_option linter.unusedVariables false
set_option linter.unusedSimpArgs false
namespace Go.Proofs.Ytldkkboeaadbeaa.Sg
open Go.RowKit Go.Proofs.YtldkkboeaadbeaaW.PrintWords Go.Proofs.YtldkkboeaadbeaaW.PrintLast Go.Proofs.YtldkkboeaadbeaaW.PrintMore Go.Proofs.Ytldkkboeaadbeaa.Pl Go.Proofs.Ytldkkboeaadbeaa.Pr
theorem spl_two (h : Nat) : spl (2 ^ (h + 1)) = 2 ^ h := by
  unfold spl
  have hp := Nat.two_pow_pos h
  have e : Nat.log2 (2 ^ (h + 1) - 1) = h := (Nat.log2_eq_iff (by rw [Nat.pow_succ]; omega)).2 ⟨by rw [Nat.pow_succ]; omega, by omega⟩
  rw [e]
theorem inclR_two : ∀ (h : Nat) (l : List ByteArray) (i : Nat), l.length = 2 ^ h → i < 2 ^ h → (inclR l i).length = h
  | 0, l, i, hl, hi => by rw [inclR_le i (by rw [hl]; exact Nat.le_refl _)]; rfl
  | h + 1, l, i, hl, hi => by
    have hp := Nat.two_pow_pos h
    rw [Nat.pow_succ] at hi
    have hs := spl_two h
    rw [← hl] at hs
    have hl' := hl
    rw [Nat.pow_succ] at hl'
    rw [inclR, dif_neg (by omega), hs]
    split
    · rw [List.length_cons, inclR_two h _ i (by simp; omega) (by omega)]
    · rw [List.length_cons, inclR_two h _ _ (by simp; omega) (by omega)]
theorem incl_two (seed : ByteArray) (h k : Nat) (hk : k < 2 ^ h) : (incl (leaves seed (2 ^ h)) k).length = h := by
  unfold incl
  rw [List.length_reverse, inclR_two h _ k (leaves_length _ _) hk]
theorem append_one_get (a : ByteArray) (x : UInt8) (h : a.size = 32) : (a ++ ⟨#[x]⟩ : ByteArray).size = 33 ∧ (a ++ ⟨#[x]⟩ : ByteArray).data.toList.getD 32 0 = x ∧ (a ++ ⟨#[x]⟩ : ByteArray).extract 0 32 = a := by
  have hl : a.data.toList.length = 32 := by rw [Array.length_toList]; exact h
  refine ⟨by rw [ByteArray.size_append, h]; rfl, ?_, ?_⟩
  · rw [ByteArray.data_append, Array.toList_append, List.getD_eq_getElem?_getD, List.getElem?_append_right (by omega), hl]
    rfl
  · refine ByteArray.ext (Array.ext' ?_)
    rw [ByteArray.data_extract, Array.toList_extract, ByteArray.data_append, Array.toList_append]
    simp only [List.extract_eq_take_drop, List.drop_zero, Nat.sub_zero]
    rw [List.take_append_of_le_length (by omega), List.take_of_length_le (by omega)]
theorem public_at (seed : ByteArray) (h : Nat) (h6 : h ≤ 6) : (public_ seed h).size = 33 ∧ ((public_ seed h).data.toList.getD 32 0).toNat = h ∧ (public_ seed h).extract 0 32 = root (leaves seed (2 ^ h)) := by
  obtain ⟨a, b, c⟩ := append_one_get (root (leaves seed (2 ^ h))) (UInt8.ofNat h) (root_size _ _ (Nat.le_refl _) (leaves_size _ _))
  refine ⟨a, ?_, c⟩
  unfold public_
  rw [b]
  simp; omega
theorem pow_le_64 {h : Nat} (h6 : h ≤ 6) : 2 ^ h ≤ 64 := Nat.pow_le_pow_right (n := 2) (by omega) h6
theorem verify_signed (seed : ByteArray) (h k : Nat) (m : ByteArray) (h6 : h ≤ 6) (hk : k < 2 ^ h) : verify (public_ seed h) m (signed seed h k m) = true := by
  obtain ⟨a, b, c⟩ := public_at seed h h6
  have h64 := pow_le_64 h6
  have hle : ((public_ seed h).data.toList.getD 32 0 ≤ 6) := (u8_le6 _).2 (by omega)
  unfold verify
  rw [if_pos ⟨a, hle, by simp [signed], by rw [b]; show (k : Int) < 2 ^ h; exact_mod_cast hk, sigCh_length _ _ _ _, (dgst_iff _).2 (sigCh_size _ _ _ _)⟩]
  rw [b, c]
  show included (leafH (cat (verCh k (digs m) (sigCh seed k (digs m) 67) 67) ⟨#[]⟩)) (k : Int) _ _ _ = true
  rw [ver_sig seed k (digs m) 67 (digs_le m)]
  have hi := included_incl (leaves seed (2 ^ h)) k (by rw [leaves_length]; exact hk) (by rw [leaves_length]; omega) (leaves_size _ _) (by rw [incl_two _ _ _ hk]; omega)
  have e : (leaves seed (2 ^ h))[k]'(by rw [leaves_length]; exact hk) = leafH (cat (chains seed k 67) ⟨#[]⟩) := by simp [leaves, leafOf]
  rw [e, leaves_length] at hi
  have e2 : ((2 ^ h : Nat) : Int) = (2 : Int) ^ h := by push_cast; rfl
  rw [e2] at hi
  exact hi
theorem bytes_encU (n : Nat) : bytesOf (encU n) = leb n := bytesOf_nums _ (leb_range n)
theorem bytes_textS (s : ByteArray) : bytesOf (textS s) = txt (bytesOf s) := by
  unfold textS txt
  rw [bytesOf_append, bytes_encU, bytesOf_length]
theorem bytes_catS : ∀ (l : List ByteArray) (b : ByteArray), bytesOf (catS l b) = bytesOf b ++ (l.map bytesOf).flatMap txt
  | [], b => by simp [catS]
  | s :: l, b => by
    rw [catS, bytes_catS l, bytesOf_append, bytes_textS]
    simp
theorem bytes_textsS (l : List ByteArray) : bytesOf (textsS l) = txts (l.map bytesOf) := by
  unfold textsS txts
  rw [bytes_catS, bytes_encU, List.length_map]
theorem numS_one (n : Nat) : bytesOf (numS [n]) = leb n := by
  have e : numS [n] = ⟨#[]⟩ ++ U n := rfl
  rw [e, bytesOf_append]
  have h := bytes_encU n
  have e2 : bytesOf (⟨#[]⟩ : ByteArray) = [] := rfl
  rw [e2, List.nil_append]
  exact h
theorem decS_encS (k : Nat) (ch pa : List ByteArray) (hk : k < 9223372036854775808) (hc : ch.length = 67) (hp : pa.length ≤ 6) (h1 : ∀ s ∈ ch, s.size = 32) (h2 : ∀ s ∈ pa, s.size = 32) :
    decS (encS (k : Int) ch pa) = some ⟨(k : Int), ch, pa⟩ := by
  obtain ⟨s, hs⟩ : ∃ s, s = encS (k : Int) ch pa := ⟨_, rfl⟩
  have hb : bytesOf s = leb k ++ (txts (ch.map bytesOf) ++ txts (pa.map bytesOf)) := by
    rw [hs]
    unfold encS
    rw [Int.toNat_natCast, bytesOf_append, bytesOf_append, numS_one, bytes_textsS, bytes_textsS, List.append_assoc]
  rw [← hs]
  have hA : decA s = ((k : Int), (leb k).length, 0) := by
    unfold decA uintR
    rw [if_pos rfl, rdN_of hk (by rw [List.drop_zero]; exact hb)]
    simp
  have hd1 : (bytesOf s).drop (leb k).length = txts (ch.map bytesOf) ++ txts (pa.map bytesOf) := by rw [hb, List.drop_left]
  have hC : decC s = (ch, (leb k).length + (txts (ch.map bytesOf)).length, 0) := by
    unfold decC
    rw [hA]
    unfold textsR
    rw [if_pos rfl, rdTs_of (fun t ht => by rw [h1 t ht]; omega) (by omega) hd1]
  have hd2 : (bytesOf s).drop ((leb k).length + (txts (ch.map bytesOf)).length) = txts (pa.map bytesOf) ++ [] := by
    rw [← List.drop_drop, hd1, List.drop_left, List.append_nil]
  have hP : decP s = (pa, (leb k).length + (txts (ch.map bytesOf)).length + (txts (pa.map bytesOf)).length, 0) := by
    unfold decP
    rw [hC]
    unfold textsR
    rw [if_pos rfl, rdTs_of (fun t ht => by rw [h2 t ht]; omega) (by omega) hd2]
  have hsz : s.size = (leb k).length + (txts (ch.map bytesOf)).length + (txts (pa.map bytesOf)).length := by
    rw [← bytesOf_length, hb, List.length_append, List.length_append]; omega
  have hE : decE s = 0 := by
    unfold decE
    rw [hP]
    unfold endR
    rw [if_pos rfl, if_neg (by simp only []; omega)]
  unfold decS
  rw [hE, hA, hC, hP, if_pos ⟨rfl, by simp, hc, hp, (dgst_iff _).2 h1, (dgst_iff _).2 h2⟩]
theorem encB_signed (seed : ByteArray) (h k : Nat) (m : ByteArray) (h6 : h ≤ 6) (hk : k < 2 ^ h) : encB (k : Int) (sigCh seed k (digs m) 67) (incl (leaves seed (2 ^ h)) k) :=
  ⟨by simp, sigCh_length _ _ _ _, by rw [incl_two _ _ _ hk]; exact h6, (dgst_iff _).2 (sigCh_size _ _ _ _), (dgst_iff _).2 (incl_size _ _ (leaves_size _ _))⟩
theorem decS_signed (seed : ByteArray) (h k : Nat) (m : ByteArray) (h6 : h ≤ 6) (hk : k < 2 ^ h) : decS (encS (k : Int) (sigCh seed k (digs m) 67) (incl (leaves seed (2 ^ h)) k)) = some (signed seed h k m) :=
  decS_encS k _ _ (by have := pow_le_64 h6; omega) (sigCh_length _ _ _ _) (by rw [incl_two _ _ _ hk]; exact h6) (sigCh_size _ _ _ _) (incl_size _ _ (leaves_size _ _))
theorem encS_le (k : Nat) (ch pa : List ByteArray) (hk : k < 18446744073709551616) (hc : ch.length = 67) (hp : pa.length ≤ 6) (h1 : ∀ s ∈ ch, s.size = 32) (h2 : ∀ s ∈ pa, s.size = 32) : (encS (k : Int) ch pa).size ≤ 5000 := by
  unfold encS
  rw [Int.toNat_natCast, ByteArray.size_append, ByteArray.size_append]
  have a := textsS_le ch h1 (by omega)
  have b := textsS_le pa h2 (by omega)
  have c := numS_le [k] (by simpa using hk)
  simp at c
  omega
end Go.Proofs.Ytldkkboeaadbeaa.Sg
end
section
/- SHA-256 over natural numbers: a form that the kernel evaluates quickly, and that it is the same. -/
set_option linter.unusedVariables false
namespace Go.Proofs.Ytldkkboeaadbeaa.Ev
open Go.Proofs.Ytldkkboeaadbeaa.Sh
def ror (x n m : Nat) : Nat := Nat.lor (Nat.shiftRight x n) (Nat.mod (Nat.shiftLeft x m) 4294967296)
def sg0 (x : Nat) : Nat := Nat.xor (Nat.xor (ror x 7 25) (ror x 18 14)) (Nat.shiftRight x 3)
def sg1 (x : Nat) : Nat := Nat.xor (Nat.xor (ror x 17 15) (ror x 19 13)) (Nat.shiftRight x 10)
def bs0 (x : Nat) : Nat := Nat.xor (Nat.xor (ror x 2 30) (ror x 13 19)) (ror x 22 10)
def bs1 (x : Nat) : Nat := Nat.xor (Nat.xor (ror x 6 26) (ror x 11 21)) (ror x 25 7)
def chh (e f g : Nat) : Nat := Nat.xor (Nat.land e f) (Nat.land (Nat.sub 4294967295 e) g)
def maj (a b c : Nat) : Nat := Nat.xor (Nat.xor (Nat.land a b) (Nat.land a c)) (Nat.land b c)
def add (a b : Nat) : Nat := Nat.mod (Nat.add a b) 4294967296
/-- a number, reckoned first -/
def frc {α : Type} (x : Nat) (f : Nat → α) : α := Nat.rec (f 0) (fun n _ => f (Nat.succ n)) x
theorem frc_eq {α : Type} (x : Nat) (f : Nat → α) : frc x f = f x := by cases x <;> rfl
def rnds : List Nat → List Nat → Nat → Nat → Nat → Nat → Nat → Nat → Nat → Nat → St
  | k :: ks, w :: ws, a, b, c, d, e, f, g, h =>
    frc (add h (Nat.add (Nat.add (bs1 e) (chh e f g)) (Nat.add k w))) fun t =>
      frc (add t (Nat.add (bs0 a) (maj a b c))) fun x => frc (add d t) fun y => rnds ks ws x a b c y e f g
  | [], _, a, b, c, d, e, f, g, h => ⟨a, b, c, d, e, f, g, h⟩
  | _ :: _, [], a, b, c, d, e, f, g, h => ⟨a, b, c, d, e, f, g, h⟩
/-- the words, a window of sixteen at a time -/
def win : Nat → Nat → Nat → Nat → Nat → Nat → Nat → Nat → Nat → Nat → Nat → Nat → Nat → Nat → Nat → Nat → Nat → List Nat
  | 0, a0, a1, a2, a3, a4, a5, a6, a7, a8, a9, a10, a11, a12, a13, a14, a15 => [a0, a1, a2, a3, a4, a5, a6, a7, a8, a9, a10, a11, a12, a13, a14, a15]
  | n + 1, a0, a1, a2, a3, a4, a5, a6, a7, a8, a9, a10, a11, a12, a13, a14, a15 =>
    frc (add (Nat.add (sg1 a14) a9) (Nat.add (sg0 a1) a0)) fun x => a0 :: win n a1 a2 a3 a4 a5 a6 a7 a8 a9 a10 a11 a12 a13 a14 a15 x
def par : List Nat → List Nat
  | a :: b :: c :: d :: l => frc (Nat.add (Nat.mul (Nat.add (Nat.mul (Nat.add (Nat.mul a 256) b) 256) c) 256) d) fun x => x :: par l
  | _ => []
def words : List Nat → List Nat
  | [a0, a1, a2, a3, a4, a5, a6, a7, a8, a9, a10, a11, a12, a13, a14, a15] => win 48 a0 a1 a2 a3 a4 a5 a6 a7 a8 a9 a10 a11 a12 a13 a14 a15
  | l => (ext 48 l.reverse).reverse
def fin (s t : St) : St :=
  frc (add s.a t.a) fun a => frc (add s.b t.b) fun b => frc (add s.c t.c) fun c => frc (add s.d t.d) fun d => frc (add s.e t.e) fun e => frc (add s.f t.f) fun f => frc (add s.g t.g) fun g => frc (add s.h t.h) fun h => ⟨a, b, c, d, e, f, g, h⟩
def block : St → List Nat → St
  | ⟨a, b, c, d, e, f, g, h⟩, l => fin ⟨a, b, c, d, e, f, g, h⟩ (rnds kk (words (par l)) a b c d e f g h)
def blocks : Nat → St → List Nat → St
  | 0, s, _ => s
  | n + 1, s, l => blocks n (block s (l.take 64)) (l.drop 64)
def be4 (x : Nat) (r : List Nat) : List Nat :=
  frc (Nat.mod (Nat.div x 16777216) 256) fun a => frc (Nat.mod (Nat.div x 65536) 256) fun b => frc (Nat.mod (Nat.div x 256) 256) fun c => frc (Nat.mod x 256) fun d => a :: b :: c :: d :: r
def out : St → List Nat
  | ⟨a, b, c, d, e, f, g, h⟩ => be4 a (be4 b (be4 c (be4 d (be4 e (be4 f (be4 g (be4 h [])))))))
def sha (l : List Nat) : List Nat := out (blocks (Nat.div (pad l).length 64) init (pad l))
theorem out_eq (s : St) : out s = Sh.out s := by
  cases s
  simp only [out, be4, frc_eq, Sh.out, St.l, be, List.flatMap_cons, List.flatMap_nil, List.append_nil, List.cons_append, List.nil_append]
  rfl
theorem rnds_eq : ∀ (ks ws : List Nat) (a b c d e f g h : Nat), rnds ks ws a b c d e f g h = rounds ⟨a, b, c, d, e, f, g, h⟩ ks ws
  | [], _, _, _, _, _, _, _, _, _ => by simp [rnds, rounds]
  | _ :: _, [], _, _, _, _, _, _, _, _ => by simp [rnds, rounds]
  | k :: ks, w :: ws, a, b, c, d, e, f, g, h => by
    rw [rnds, frc_eq, frc_eq, frc_eq, rnds_eq, rounds]
    have e1 : add h (Nat.add (Nat.add (bs1 e) (chh e f g)) (Nat.add k w)) = t1 ⟨a, b, c, d, e, f, g, h⟩ k w := by
      show (h + ((Sh.bs1 e + Sh.chh e f g) + (k + w))) % 4294967296 = (h + Sh.bs1 e + Sh.chh e f g + k + w) % 4294967296
      congr 1; omega
    rw [e1]
    congr 1
    have e2 : add (t1 ⟨a, b, c, d, e, f, g, h⟩ k w) (Nat.add (bs0 a) (maj a b c)) = (t1 ⟨a, b, c, d, e, f, g, h⟩ k w + t2 ⟨a, b, c, d, e, f, g, h⟩) % 4294967296 := by
      show (t1 _ k w + (Sh.bs0 a + Sh.maj a b c)) % 4294967296 = (t1 _ k w + (Sh.bs0 a + Sh.maj a b c) % 4294967296) % 4294967296
      omega
    rw [e2]
    rfl
theorem win_eq : ∀ (n : Nat) (a0 a1 a2 a3 a4 a5 a6 a7 a8 a9 a10 a11 a12 a13 a14 a15 : Nat) (r : List Nat),
    (ext n (a15 :: a14 :: a13 :: a12 :: a11 :: a10 :: a9 :: a8 :: a7 :: a6 :: a5 :: a4 :: a3 :: a2 :: a1 :: a0 :: r)).reverse = r.reverse ++ win n a0 a1 a2 a3 a4 a5 a6 a7 a8 a9 a10 a11 a12 a13 a14 a15
  | 0, _, _, _, _, _, _, _, _, _, _, _, _, _, _, _, _, _ => by simp [ext, win]
  | n + 1, a0, a1, a2, a3, a4, a5, a6, a7, a8, a9, a10, a11, a12, a13, a14, a15, r => by
    rw [ext, win, frc_eq]
    have e1 : add (Nat.add (sg1 a14) a9) (Nat.add (sg0 a1) a0) = (Sh.sg1 a14 + a9 + Sh.sg0 a1 + a0) % 4294967296 := by
      show (Sh.sg1 a14 + a9 + (Sh.sg0 a1 + a0)) % 4294967296 = _
      congr 1; omega
    rw [e1]
    have ih := win_eq n a1 a2 a3 a4 a5 a6 a7 a8 a9 a10 a11 a12 a13 a14 a15 ((Sh.sg1 a14 + a9 + Sh.sg0 a1 + a0) % 4294967296) (a0 :: r)
    rw [List.reverse_cons, List.append_assoc] at ih
    exact ih
theorem par_eq : ∀ l : List Nat, par l = Sh.par l
  | [] => rfl
  | [_] => rfl
  | [_, _] => rfl
  | [_, _, _] => rfl
  | a :: b :: c :: d :: l => by rw [par, frc_eq, Sh.par, par_eq l]; rfl
theorem words_eq (l : List Nat) : words l = (ext 48 l.reverse).reverse := by
  unfold words
  split
  · rename_i a0 a1 a2 a3 a4 a5 a6 a7 a8 a9 a10 a11 a12 a13 a14 a15
    have := win_eq 48 a0 a1 a2 a3 a4 a5 a6 a7 a8 a9 a10 a11 a12 a13 a14 a15 []
    exact this.symm
  · rfl
theorem fin_eq (s t : St) : fin s t = s.add t := by simp only [fin, frc_eq]; rfl
theorem block_eq (s : St) (l : List Nat) : block s l = Sh.block s l := by
  cases s
  rw [block, fin_eq, rnds_eq, words_eq, par_eq]; rfl
theorem blocks_eq : ∀ (n : Nat) (s : St) (l : List Nat), blocks n s l = Sh.blocks n s l
  | 0, _, _ => rfl
  | n + 1, s, l => by rw [blocks, blocks_eq n, block_eq]; rfl
theorem sha_eq (l : List Nat) : sha l = Sh.sha l := by unfold sha Sh.sha; rw [blocks_eq, out_eq]; rfl
end Go.Proofs.Ytldkkboeaadbeaa.Ev
end
section
/- Chains over lists of numbers, that the kernel reckons; what they say of the digests. -/
set_option linter.unusedVariables false
set_option linter.unusedSimpArgs false
set_option maxRecDepth 100000
namespace Go.Proofs.Ytldkkboeaadbeaa.Sgv
open Go.Proofs.Ytldkkboeaadbeaa.Sg
/-- a list, reckoned first -/
def frcL {α : Type} : List Nat → (List Nat → α) → α
  | [], f => f []
  | a :: l, f => Ev.frc a fun a => frcL l fun l => f (a :: l)
theorem frcL_eq {α : Type} : ∀ (l : List Nat) (f : List Nat → α), frcL l f = f l
  | [], _ => rfl
  | a :: l, f => by
    rw [frcL, Ev.frc_eq, frcL_eq l]
def wkN (k c : Nat) : Nat → Nat → List Nat → List Nat
  | 0, _, x => x
  | n + 1, p, x => Ev.frc p fun p => frcL (Ev.sha (3 :: k :: c :: p :: x)) fun y => wkN k c n (p + 1) y
def secN (s : List Nat) (k c : Nat) : List Nat := Ev.sha (2 :: (s ++ [k, c]))
def ch0 (s d1 d2 : List Nat) (c : Nat) : List Nat × List Nat :=
  Ev.frc c fun c => frcL (secN s 0 c) fun x => Ev.frc (d1.getD c 0) fun a => Ev.frc (d2.getD c 0) fun b => frcL (wkN 0 c a 0 x) fun y => frcL (wkN 0 c (15 - a) a y) fun u => frcL (wkN 0 c (15 - b) b y) fun v => (u, v)
def ch1 (s : List Nat) (c : Nat) : List Nat := Ev.frc c fun c => frcL (secN s 1 c) fun x => frcL (wkN 1 c 15 0 x) fun u => u
def nibN (l : List Nat) : List Nat := (Ev.sha l).flatMap fun b => [b / 16, b % 16]
def digN (l : List Nat) : List Nat := frcL (nibN l) fun n => n ++ [chk n / 256, chk n / 16 % 16, chk n % 16]
def leafN (l : List (List Nat)) : List Nat := frcL (0 :: l.flatten) fun x => frcL (Ev.sha x) fun y => y
def nodeN (a b : List Nat) : List Nat := frcL (1 :: (a ++ b)) fun x => Ev.sha x
theorem out_lt (s : Sh.St) : ∀ x ∈ Sh.out s, x < 256 := by
  intro x hx
  obtain ⟨y, _, hy⟩ := List.mem_flatMap.1 hx
  simp [Sh.be] at hy
  omega
theorem nat_H (s : ByteArray) : Sh.nat (H s) = Ev.sha (Sh.nat s) := by
  show Sh.nat (Sh.strN (Sh.sha (Sh.nat s))) = _
  rw [Sh.nat_strN (Sh.sha (Sh.nat s)) (out_lt _), Ev.sha_eq]
theorem nat_bytes (s : ByteArray) : Sh.nat s = (Go.Proofs.YtldkkboeaadbeaaW.PrintWords.bytesOf s).map Int.toNat := by
  simp [Sh.nat, Go.Proofs.YtldkkboeaadbeaaW.PrintWords.bytesOf, Function.comp_def]
theorem nat_U {n : Nat} (h : n < 128) : Sh.nat (U n) = [n] := by
  rw [nat_bytes]
  have e : Go.Proofs.YtldkkboeaadbeaaW.PrintWords.bytesOf (U n) = Pl.leb n := Sg.bytes_encU n
  rw [e, Pl.leb, if_pos h]
  simp
theorem nat_nil : Sh.nat ⟨#[]⟩ = [] := rfl
theorem nat_cat : ∀ (l : List ByteArray) (b : ByteArray), Sh.nat (cat l b) = Sh.nat b ++ (l.map Sh.nat).flatten
  | [], b => by simp [cat]
  | s :: l, b => by rw [cat, nat_cat l, Sh.nat_append]; simp
theorem nat_step {k c p : Nat} (hk : k < 128) (hc : c < 128) (hp : p < 128) (x : ByteArray) : Sh.nat (Sg.step k c p x) = Ev.sha (3 :: k :: c :: p :: Sh.nat x) := by
  unfold Sg.step numS
  rw [nat_H, Sh.nat_append, Sh.nat_append, nat_cat]
  simp only [List.map_cons, List.map_nil, nat_U hk, nat_U hc, nat_U hp]
  rfl
theorem nat_wk {k c : Nat} (hk : k < 128) (hc : c < 128) : ∀ (n p : Nat) (x : ByteArray), n + p ≤ 128 → Sh.nat (wk k c n p x) = wkN k c n p (Sh.nat x)
  | 0, _, _, _ => rfl
  | n + 1, p, x, h => by rw [wk, nat_wk hk hc n _ _ (by omega), nat_step hk hc (by omega), wkN, Ev.frc_eq, frcL_eq]
theorem nat_sec {k c : Nat} (hk : k < 128) (hc : c < 128) (seed : ByteArray) : Sh.nat (sec seed k c) = secN (Sh.nat seed) k c := by
  unfold sec numS secN
  rw [nat_H, Sh.nat_append, Sh.nat_append, nat_cat]
  simp only [List.map_cons, List.map_nil, nat_U hk, nat_U hc]
  rfl
theorem nat_digs (m : ByteArray) : digs m = digN (Sh.nat m) := by
  unfold digs digN nib nibN
  rw [frcL_eq, nat_H]
theorem nat_leaf (l : List ByteArray) : Sh.nat (leafH (cat l ⟨#[]⟩)) = leafN (l.map Sh.nat) := by
  unfold leafH leafN
  rw [frcL_eq, frcL_eq, nat_H, Sh.nat_append, nat_cat, nat_nil]
  rfl
theorem nat_node {a b : ByteArray} (ha : a.size = 32) (hb : b.size = 32) : Sh.nat (node a b) = nodeN (Sh.nat a) (Sh.nat b) := by
  unfold node nodeN
  rw [if_pos ⟨ha, hb⟩, frcL_eq, nat_H, Sh.nat_append, Sh.nat_append]
  rfl
/-- the ends of the chains of the key 0, and what the check of another message makes of them -/
theorem nat_ch0 (seed : ByteArray) (d1 d2 : List Nat) (h1 : ∀ d ∈ d1, d ≤ 15) (h2 : ∀ d ∈ d2, d ≤ 15) (c : Nat) (hc : c < 128) :
    ch0 (Sh.nat seed) d1 d2 c = (Sh.nat (wk 0 c 15 0 (sec seed 0 c)), Sh.nat (wk 0 c (15 - d2.getD c 0) (d2.getD c 0) (wk 0 c (d1.getD c 0) 0 (sec seed 0 c)))) := by
  have a := getD_le h1 c
  have b := getD_le h2 c
  have e := wk_add 0 c (d1.getD c 0) (15 - d1.getD c 0) 0 (sec seed 0 c)
  rw [show d1.getD c 0 + (15 - d1.getD c 0) = 15 by omega, Nat.zero_add] at e
  rw [e]
  unfold ch0
  simp only [Ev.frc_eq, frcL_eq]
  rw [nat_wk (by omega) hc _ _ _ (by omega), nat_wk (by omega) hc (d1.getD c 0) _ _ (by omega), nat_wk (by omega) hc _ _ (wk _ _ _ _ _) (by omega), nat_wk (by omega) hc (d1.getD c 0) _ _ (by omega), nat_sec (by omega) hc]
theorem nat_ch1 (seed : ByteArray) (c : Nat) (hc : c < 128) : ch1 (Sh.nat seed) c = Sh.nat (wk 1 c 15 0 (sec seed 1 c)) := by
  unfold ch1
  simp only [Ev.frc_eq, frcL_eq]
  rw [nat_wk (by omega) hc _ _ _ (by omega), nat_sec (by omega) hc]
/-- the seed, and the digits of the two messages -/
def sd : List Nat := List.replicate 32 115
def dg1 : List Nat := [10, 11, 5, 3, 0, 10, 1, 3, 14, 4, 5, 9, 1, 4, 9, 8, 2, 11, 7, 9, 15, 9, 11, 7, 14, 3, 15, 11, 10, 9, 9, 4, 12, 15, 13, 1, 15, 3, 15, 11, 2, 2, 15, 7, 1, 12, 14, 10, 1, 10, 15, 11, 15, 0, 2, 11, 4, 6, 0, 12, 6, 13, 1, 13, 1, 12, 1]
def dg2 : List Nat := [13, 3, 10, 14, 10, 13, 11, 12, 10, 10, 15, 12, 8, 9, 0, 14, 11, 14, 4, 5, 3, 1, 9, 11, 0, 3, 9, 10, 15, 11, 2, 3, 1, 7, 8, 13, 10, 0, 2, 0, 3, 9, 6, 5, 2, 10, 3, 15, 6, 13, 9, 1, 11, 2, 9, 12, 12, 0, 14, 12, 13, 0, 7, 10, 1, 12, 12]
theorem dg1_eq : digN [109, 101, 115, 115, 97, 103, 101] = dg1 := by decide +kernel
theorem dg2_eq : digN [109, 97, 115, 115, 97, 103, 101] = dg2 := by decide +kernel
theorem dg0_eq : (digN []).take 6 = [14, 3, 11, 0, 12, 4] := by decide +kernel
end Go.Proofs.Ytldkkboeaadbeaa.Sgv
end
section
/- Some chains, reckoned. -/
set_option linter.unusedVariables false
set_option linter.unusedSimpArgs false
set_option maxRecDepth 100000
namespace Go.Proofs.Ytldkkboeaadbeaa.Sgv
def L0_0 : List (List Nat × List Nat) := [([221, 163, 85, 138, 139, 8, 243, 14, 96, 213, 48, 181, 91, 45, 253, 95, 48, 142, 200, 160, 62, 204, 163, 80, 232, 102, 128, 183, 53, 5, 47, 176], [224, 253, 145, 210, 122, 171, 144, 171, 181, 204, 19, 160, 60, 66, 41, 108, 141, 196, 198, 236, 141, 168, 12, 95, 212, 70, 206, 230, 228, 187, 133, 158]),
  ([146, 253, 173, 28, 91, 3, 92, 117, 207, 137, 11, 58, 47, 119, 248, 115, 25, 113, 17, 49, 164, 21, 218, 118, 152, 15, 219, 119, 229, 191, 155, 162], [89, 183, 112, 41, 140, 48, 182, 130, 186, 149, 249, 57, 70, 20, 151, 59, 244, 37, 96, 246, 249, 201, 28, 139, 58, 212, 52, 149, 233, 156, 22, 226]),
  ([136, 127, 123, 174, 145, 230, 190, 131, 203, 131, 69, 41, 88, 6, 253, 212, 102, 243, 10, 113, 10, 150, 119, 108, 100, 97, 217, 207, 209, 106, 11, 147], [241, 202, 3, 24, 21, 106, 216, 246, 172, 132, 216, 110, 99, 66, 95, 150, 188, 151, 210, 58, 201, 228, 0, 15, 23, 128, 3, 33, 19, 166, 180, 1]),
  ([114, 15, 185, 116, 19, 94, 136, 84, 200, 31, 255, 142, 89, 233, 2, 45, 4, 171, 67, 36, 122, 91, 157, 146, 178, 178, 15, 83, 102, 129, 65, 9], [242, 4, 27, 100, 14, 222, 80, 140, 236, 233, 17, 178, 150, 84, 101, 70, 117, 93, 236, 253, 68, 192, 128, 232, 137, 129, 41, 32, 138, 255, 75, 67]),
  ([166, 1, 37, 180, 93, 213, 69, 82, 129, 164, 40, 103, 117, 89, 170, 250, 169, 238, 82, 213, 214, 27, 52, 43, 214, 63, 155, 170, 14, 108, 51, 226], [167, 158, 235, 16, 110, 168, 121, 0, 88, 121, 34, 200, 105, 126, 188, 185, 52, 171, 168, 234, 217, 55, 157, 27, 149, 159, 237, 27, 205, 7, 107, 201]),
  ([53, 246, 59, 208, 224, 179, 136, 78, 32, 13, 242, 67, 229, 84, 234, 65, 58, 151, 168, 95, 235, 74, 182, 93, 26, 180, 173, 160, 48, 209, 179, 199], [224, 157, 131, 209, 166, 207, 171, 162, 5, 141, 131, 187, 72, 184, 40, 234, 70, 167, 45, 229, 34, 80, 220, 58, 203, 45, 75, 94, 68, 193, 125, 80]),
  ([230, 0, 125, 0, 87, 222, 45, 99, 131, 207, 41, 139, 217, 118, 92, 224, 38, 86, 67, 119, 61, 110, 230, 115, 111, 101, 54, 174, 142, 32, 124, 217], [39, 52, 39, 249, 108, 96, 170, 6, 56, 95, 252, 224, 148, 158, 24, 82, 26, 238, 192, 183, 218, 191, 17, 8, 250, 98, 129, 75, 196, 190, 15, 12]),
  ([38, 20, 135, 94, 23, 209, 68, 27, 33, 8, 29, 64, 251, 154, 67, 41, 66, 206, 100, 47, 99, 3, 217, 133, 79, 34, 253, 253, 29, 153, 55, 142], [65, 28, 181, 107, 227, 6, 205, 132, 2, 238, 64, 70, 34, 190, 128, 254, 6, 47, 121, 23, 236, 36, 122, 115, 229, 16, 210, 86, 1, 192, 225, 46]),
  ([37, 193, 19, 12, 3, 184, 43, 247, 15, 74, 63, 122, 58, 244, 212, 165, 211, 130, 121, 104, 70, 69, 60, 6, 88, 237, 122, 43, 12, 165, 221, 49], [170, 126, 22, 39, 208, 230, 179, 191, 13, 131, 58, 234, 15, 109, 222, 105, 185, 90, 3, 241, 36, 107, 162, 121, 21, 200, 153, 212, 229, 206, 12, 217])]
theorem c0_0 : (List.range' 0 9).map (ch0 sd dg1 dg2) = L0_0 := by decide +kernel
def L1_0 : List (List Nat) := [[204, 160, 184, 196, 192, 207, 134, 106, 223, 30, 215, 20, 168, 135, 174, 233, 131, 145, 57, 236, 23, 195, 28, 91, 224, 113, 241, 128, 206, 97, 51, 81],
  [180, 123, 119, 113, 219, 191, 194, 11, 108, 214, 67, 118, 88, 127, 222, 53, 144, 0, 148, 165, 98, 87, 74, 178, 102, 140, 91, 181, 96, 77, 230, 251],
  [89, 232, 209, 112, 156, 95, 130, 212, 225, 208, 164, 111, 30, 82, 13, 104, 177, 147, 230, 17, 132, 229, 207, 33, 223, 243, 133, 89, 99, 37, 28, 212],
  [213, 214, 106, 41, 74, 59, 55, 239, 64, 49, 251, 180, 174, 16, 70, 96, 208, 34, 14, 157, 39, 195, 114, 16, 212, 41, 159, 124, 203, 2, 248, 43],
  [21, 65, 173, 152, 200, 94, 29, 3, 31, 54, 201, 62, 98, 76, 195, 198, 170, 123, 243, 37, 71, 61, 6, 64, 201, 121, 129, 141, 199, 33, 146, 129],
  [173, 246, 99, 248, 171, 209, 173, 134, 11, 18, 107, 48, 221, 98, 11, 242, 134, 216, 244, 25, 137, 77, 6, 212, 117, 70, 79, 146, 221, 138, 208, 155],
  [107, 195, 176, 189, 86, 97, 152, 116, 80, 126, 236, 46, 212, 59, 130, 80, 51, 207, 75, 87, 115, 223, 47, 14, 168, 74, 63, 245, 254, 175, 97, 35],
  [73, 147, 125, 13, 200, 81, 35, 101, 56, 221, 38, 203, 119, 76, 149, 14, 207, 173, 27, 59, 225, 110, 7, 200, 163, 184, 14, 154, 221, 148, 173, 184],
  [51, 6, 138, 152, 105, 200, 134, 244, 103, 238, 89, 56, 195, 143, 29, 254, 73, 135, 61, 52, 255, 23, 7, 59, 175, 172, 231, 248, 195, 38, 75, 234]]
theorem c1_0 : (List.range' 0 9).map (ch1 sd) = L1_0 := by decide +kernel
end Go.Proofs.Ytldkkboeaadbeaa.Sgv
end
section
/- Some chains, reckoned. -/
set_option linter.unusedVariables false
set_option linter.unusedSimpArgs false
set_option maxRecDepth 100000
namespace Go.Proofs.Ytldkkboeaadbeaa.Sgv
def L0_1 : List (List Nat × List Nat) := [([138, 181, 117, 127, 77, 43, 253, 163, 36, 136, 172, 96, 227, 3, 229, 64, 186, 208, 30, 91, 221, 57, 125, 189, 147, 82, 157, 183, 222, 66, 222, 14], [180, 254, 122, 131, 194, 98, 12, 100, 64, 250, 98, 149, 103, 226, 94, 225, 76, 176, 210, 165, 144, 195, 90, 39, 153, 11, 17, 101, 53, 207, 58, 163]),
  ([230, 41, 221, 251, 79, 100, 50, 104, 251, 29, 112, 106, 104, 132, 30, 127, 97, 251, 138, 153, 21, 8, 189, 237, 148, 197, 65, 243, 228, 57, 214, 244], [6, 215, 137, 5, 7, 191, 250, 207, 6, 199, 31, 193, 248, 133, 179, 64, 179, 35, 116, 204, 169, 32, 75, 130, 16, 68, 95, 229, 100, 169, 187, 110]),
  ([11, 213, 54, 237, 147, 45, 187, 37, 93, 155, 163, 91, 199, 159, 129, 247, 236, 221, 103, 224, 157, 250, 247, 255, 1, 246, 228, 102, 237, 141, 99, 136], [58, 228, 116, 204, 69, 203, 51, 96, 133, 141, 95, 41, 247, 231, 74, 121, 135, 12, 76, 209, 208, 80, 72, 183, 79, 130, 147, 105, 67, 158, 1, 37]),
  ([236, 218, 155, 145, 144, 122, 237, 140, 41, 229, 12, 106, 96, 184, 142, 172, 188, 16, 136, 43, 154, 246, 3, 100, 251, 183, 82, 250, 75, 65, 79, 232], [219, 123, 53, 25, 71, 248, 154, 99, 165, 254, 163, 199, 23, 120, 180, 231, 90, 48, 91, 117, 20, 182, 33, 99, 75, 79, 105, 79, 221, 130, 216, 192]),
  ([69, 81, 26, 26, 238, 191, 143, 141, 70, 248, 18, 180, 125, 204, 217, 166, 108, 210, 155, 41, 169, 104, 163, 178, 124, 212, 254, 233, 235, 121, 155, 110], [170, 28, 129, 182, 164, 41, 39, 130, 185, 103, 108, 154, 169, 114, 241, 196, 80, 45, 69, 67, 81, 122, 1, 79, 254, 76, 105, 239, 103, 252, 204, 165]),
  ([67, 155, 54, 69, 96, 233, 25, 182, 126, 7, 147, 237, 212, 138, 78, 8, 199, 13, 12, 34, 115, 249, 14, 74, 36, 127, 242, 25, 139, 10, 164, 148], [2, 99, 198, 200, 145, 9, 166, 12, 130, 69, 35, 75, 237, 99, 112, 213, 55, 13, 103, 198, 117, 182, 25, 37, 233, 32, 8, 74, 96, 47, 7, 185]),
  ([13, 180, 132, 10, 47, 162, 235, 167, 106, 30, 92, 135, 143, 172, 191, 19, 33, 245, 24, 141, 66, 192, 6, 154, 23, 87, 232, 21, 121, 241, 165, 137], [144, 26, 143, 178, 213, 4, 234, 59, 6, 48, 10, 13, 197, 228, 242, 1, 159, 122, 216, 200, 107, 70, 120, 200, 81, 163, 0, 250, 165, 136, 69, 160]),
  ([103, 199, 1, 241, 178, 190, 64, 59, 52, 1, 42, 235, 71, 13, 240, 97, 16, 125, 87, 254, 243, 81, 121, 186, 156, 173, 192, 42, 141, 229, 86, 175], [50, 36, 196, 36, 39, 206, 172, 91, 221, 188, 146, 222, 250, 233, 111, 163, 230, 126, 85, 236, 232, 225, 74, 104, 128, 60, 109, 32, 95, 119, 71, 47]),
  ([208, 176, 167, 149, 48, 37, 160, 69, 56, 229, 130, 74, 249, 82, 91, 53, 246, 134, 37, 180, 10, 85, 18, 89, 214, 7, 65, 224, 23, 211, 220, 250], [196, 137, 170, 202, 98, 0, 96, 245, 75, 180, 18, 206, 130, 40, 78, 7, 169, 157, 52, 103, 163, 155, 171, 122, 16, 6, 41, 115, 66, 222, 6, 19])]
theorem c0_1 : (List.range' 9 9).map (ch0 sd dg1 dg2) = L0_1 := by decide +kernel
def L1_1 : List (List Nat) := [[113, 111, 165, 115, 128, 103, 32, 77, 103, 24, 4, 4, 117, 48, 115, 174, 112, 222, 104, 26, 9, 111, 199, 11, 119, 45, 69, 63, 31, 136, 240, 104],
  [200, 40, 191, 229, 67, 64, 69, 177, 160, 89, 208, 37, 111, 238, 95, 204, 175, 213, 137, 21, 191, 47, 127, 88, 65, 161, 217, 139, 53, 190, 91, 255],
  [206, 128, 219, 112, 129, 130, 156, 152, 120, 203, 182, 125, 63, 52, 93, 218, 178, 42, 43, 149, 68, 44, 220, 53, 219, 160, 120, 127, 207, 51, 111, 183],
  [244, 37, 89, 32, 45, 104, 175, 176, 198, 197, 65, 39, 43, 34, 169, 116, 87, 229, 162, 5, 45, 58, 91, 111, 142, 35, 197, 207, 62, 6, 54, 13],
  [222, 67, 224, 241, 41, 228, 118, 1, 48, 204, 63, 60, 7, 6, 94, 248, 211, 183, 191, 206, 74, 11, 237, 67, 220, 114, 174, 224, 206, 181, 116, 83],
  [226, 38, 106, 20, 154, 212, 64, 97, 184, 204, 50, 101, 7, 172, 239, 185, 33, 152, 216, 28, 162, 32, 118, 99, 165, 207, 33, 129, 38, 175, 86, 132],
  [233, 231, 175, 190, 168, 152, 145, 125, 255, 249, 65, 13, 248, 60, 205, 95, 33, 240, 194, 136, 92, 88, 103, 30, 53, 195, 66, 31, 180, 162, 67, 208],
  [169, 194, 161, 182, 38, 65, 18, 169, 77, 235, 64, 236, 250, 215, 125, 223, 76, 243, 88, 20, 3, 17, 168, 87, 234, 72, 36, 30, 90, 112, 45, 86],
  [79, 80, 117, 35, 97, 134, 40, 239, 69, 55, 238, 201, 187, 79, 172, 42, 238, 153, 81, 6, 117, 134, 4, 224, 123, 124, 211, 207, 182, 99, 82, 41]]
theorem c1_1 : (List.range' 9 9).map (ch1 sd) = L1_1 := by decide +kernel
end Go.Proofs.Ytldkkboeaadbeaa.Sgv
end
