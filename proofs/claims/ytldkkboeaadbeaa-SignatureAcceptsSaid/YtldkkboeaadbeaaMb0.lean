/- SgV, SgW, SgE -/
import Derived.Test.YtldkkboeaadbeaaMa9
import Derived.Test.YtldkkboeaadbeaaMa1
section
/- The signature scheme in the program: Verify. -/
set_option linter.unusedVariables false
set_option linter.unusedSimpArgs false
namespace Go.Proofs.Ytldkkboeaadbeaa.Sg
open Go.RowKit Go.Shelf Go.Proofs.YtldkkboeaadbeaaW.PrintWords Go.Proofs.YtldkkboeaadbeaaW.PrintLast Go.Proofs.YtldkkboeaadbeaaW.PrintMore
attribute [local go_sem] Oper.semAt_some Sd.pureq Sd.pureAt Sd.pureUpon
abbrev sigV (idx : Int) (A1 : Option Addr) (n1 c1 : Nat) (A2 : Option Addr) (n2 c2 : Nat) : Value := .agg #[.int .i64 idx, .slice A1 n1 c1, .slice A2 n2 c2]
abbrev sigC (idx : Int) (A1 : Option Addr) (n1 c1 : Nat) (A2 : Option Addr) (n2 c2 : Nat) : Array Value := #[.int .i64 idx, .slice A1 n1 c1, .slice A2 n2 c2]
theorem hgt_eq {pub : ByteArray} (h : 32 < pub.size) : (pub.data.toList.getD 32 0).toNat = (pub[32]'h).toNat := by
  have h' : 32 < pub.data.toList.length := by simpa using h
  rw [List.getD_eq_getElem?_getD, List.getElem?_eq_getElem h', Option.getD_some]
  rfl
theorem u8_le6 (x : UInt8) : x ≤ 6 ↔ x.toNat ≤ 6 := by rw [UInt8.le_iff_toNat_le]; rfl
def verB (pub : ByteArray) (g : Nat) (idx : Int) (ch : List ByteArray) : Prop := pub.size = 33 ∧ g ≤ 6 ∧ 0 ≤ idx ∧ idx < ((2 ^ g : Nat) : Int) ∧ ch.length = 67 ∧ dgst ch = true
theorem verify_no {pub m : ByteArray} {s : Sig} (h : ¬ verB pub (pub.data.toList.getD 32 0).toNat s.idx s.ch) : verify pub m s = false := by
  unfold verify
  rw [if_neg]
  intro ⟨h1, h2, h3, h4, h5, h6⟩
  exact h ⟨h1, (u8_le6 _).1 h2, h3, by rw [show (((2 ^ (pub.data.toList.getD 32 0).toNat : Nat)) : Int) = (2 : Int) ^ (pub.data.toList.getD 32 0).toNat by simp]; exact h4, h5, h6⟩
theorem verify_yes {pub m : ByteArray} {s : Sig} (h : verB pub (pub.data.toList.getD 32 0).toNat s.idx s.ch) :
    verify pub m s = included (leafH (cat (verCh s.idx.toNat (digs m) s.ch 67) ⟨#[]⟩)) s.idx ((2 ^ (pub.data.toList.getD 32 0).toNat : Nat) : Int) s.path (pub.extract 0 32) := by
  obtain ⟨h1, h2, h3, h4, h5, h6⟩ := h
  have e : (((2 ^ (pub.data.toList.getD 32 0).toNat : Nat)) : Int) = (2 : Int) ^ (pub.data.toList.getD 32 0).toNat := by simp
  unfold verify
  rw [if_pos ⟨h1, (u8_le6 _).2 h2, h3, by rw [← e]; exact h4, h5, h6⟩, e]
set_option maxRecDepth 100000 in
set_option maxHeartbeats 4000000 in
theorem Verify_no (pub m : ByteArray) (idx : Int) (A1 : Option Addr) (c1 : Nat) (A2 : Option Addr) (c2 : Nat) (ch path : List ByteArray) (w : World) (hr1 : Strs w A1 ch.length ch) (hc1 : ch.length ≤ c1)
    (hv : ¬ verB pub (pub.data.toList.getD 32 0).toNat idx ch) :
    Calls Try.prog 46 #[.string pub, .string m, sigV idx A1 ch.length c1 A2 path.length c2] w fun e w' => e = .returned (.bool false) ∧ Below w.heap.size w w' := by
  have HCF := Lib.hid (show ∀ w', Below w.heap.size w w' → _ from fun w' hb => containsFunc_calls 79 (.inr rfl) A1 c1 ch w' (hr1.below hb))
  have hl1 := hr1.2.1
  clear hr1
  by_cases h1 : pub.size = 33
  · have h32 : 32 < pub.size := by omega
    rw [hgt_eq h32] at hv
    obtain ⟨g, hg⟩ : ∃ g, g = (pub[32]'h32).toNat := ⟨_, rfl⟩
    rw [← hg] at hv
    have hg' : (pub[32]'h32).toNat = g := hg.symm
    have hg256 : g < 256 := by rw [hg]; exact (pub[32]'h32).toNat_lt
    clear hg
    have t1 : ((pub.size : Int) != 33) = false := bne_eq_false_iff_eq.mpr (by omega)
    by_cases h2 : g ≤ 6
    · have t2 : decide (6 < (g : Int)) = false := decide_eq_false (by omega)
      have t2' : decide (6 < g) = false := decide_eq_false (by omega)
      obtain ⟨N, hN⟩ : ∃ N, N = 2 ^ g := ⟨_, rfl⟩
      have pw : wrap64 ((2 : Int) ^ g) = (N : Int) := by rw [hN]; exact pow_wrap h2
      have HNN := Lib.hid hN
      clear hN
      by_cases h3 : 0 ≤ idx
      · have t3 : decide (idx < 0) = false := decide_eq_false (by omega)
        by_cases h4 : idx < (N : Int)
        · have t4 : decide ((N : Int) ≤ idx) = false := decide_eq_false (by omega)
          by_cases h5 : ch.length = 67
          · have t5 : ((ch.length : Int) != 67) = false := bne_eq_false_iff_eq.mpr (by omega)
            have H5 := Lib.hid h5
            clear h5
            by_cases h6 : dgst ch = true
            · exact absurd (show verB pub g idx ch from ⟨h1, h2, h3, by rw [← HNN.out]; exact h4, H5.out, h6⟩) hv
            · rw [Bool.eq_false_iff.2 h6] at HCF
              go_enter Try.func46, Try.ntmps46
              go_wp2_with (go_at_call 78; refine (HCF.out _ ((Below.refl _ _).alloc (Nat.le_refl _) _)).mono ?_; rintro e w1 ⟨rfl, rfl⟩)
              go_ret
              exact ⟨rfl, (Below.refl _ _).alloc (Nat.le_refl _) _⟩
          · have t5 : ((ch.length : Int) != 67) = true := bne_iff_ne.mpr (by omega)
            go_enter Try.func46, Try.ntmps46
            go_wp2_with (go_at_call 78; refine (HCF.out _ ((Below.refl _ _).alloc (Nat.le_refl _) _)).mono ?_; rintro e w1 ⟨rfl, rfl⟩)
            go_ret
            exact ⟨rfl, (Below.refl _ _).alloc (Nat.le_refl _) _⟩
        · have t4 : decide ((N : Int) ≤ idx) = true := decide_eq_true (by omega)
          go_enter Try.func46, Try.ntmps46
          go_wp2_with (go_at_call 78; refine (HCF.out _ ((Below.refl _ _).alloc (Nat.le_refl _) _)).mono ?_; rintro e w1 ⟨rfl, rfl⟩)
          go_ret
          exact ⟨rfl, (Below.refl _ _).alloc (Nat.le_refl _) _⟩
      · have t3 : decide (idx < 0) = true := decide_eq_true (by omega)
        go_enter Try.func46, Try.ntmps46
        go_wp2_with (go_at_call 78; refine (HCF.out _ ((Below.refl _ _).alloc (Nat.le_refl _) _)).mono ?_; rintro e w1 ⟨rfl, rfl⟩)
        go_ret
        exact ⟨rfl, (Below.refl _ _).alloc (Nat.le_refl _) _⟩
    · have t2 : decide (6 < (g : Int)) = true := decide_eq_true (by omega)
      have t2' : decide (6 < g) = true := decide_eq_true (by omega)
      go_enter Try.func46, Try.ntmps46
      go_wp2_with (go_at_call 78; refine (HCF.out _ ((Below.refl _ _).alloc (Nat.le_refl _) _)).mono ?_; rintro e w1 ⟨rfl, rfl⟩)
      go_ret
      exact ⟨rfl, (Below.refl _ _).alloc (Nat.le_refl _) _⟩
  · have t1 : ((pub.size : Int) != 33) = true := bne_iff_ne.mpr (by omega)
    go_enter Try.func46, Try.ntmps46
    go_wp2_with (go_at_call 78; refine (HCF.out _ ((Below.refl _ _).alloc (Nat.le_refl _) _)).mono ?_; rintro e w1 ⟨rfl, rfl⟩)
    go_ret
    exact ⟨rfl, (Below.refl _ _).alloc (Nat.le_refl _) _⟩
end Go.Proofs.Ytldkkboeaadbeaa.Sg
end
section
/- The signature scheme in the program: Verify, where it checks the chains. -/
set_option linter.unusedVariables false
set_option linter.unusedSimpArgs false
namespace Go.Proofs.Ytldkkboeaadbeaa.Sg
open Go.RowKit Go.Shelf Go.Proofs.YtldkkboeaadbeaaW.PrintWords Go.Proofs.YtldkkboeaadbeaaW.PrintLast Go.Proofs.YtldkkboeaadbeaaW.PrintMore
attribute [local go_sem] Oper.semAt_some Sd.pureq Sd.pureAt Sd.pureUpon
def vCh (k : Nat) (ch : List ByteArray) (l : List Dg) : List ByteArray := l.map fun x => wk k x.1.1 (15 - x.1.2) x.1.2 (ch.getD x.1.1 ⟨#[]⟩)
theorem vCh_dl (k : Nat) (ch : List ByteArray) (m : ByteArray) : vCh k ch (dl m 67) = verCh k (digs m) ch 67 := by
  unfold vCh dl verCh
  rw [List.map_map]
  apply List.map_congr_left
  intro c hc
  have := mkD_val m (List.mem_range.1 hc)
  simp only [Function.comp, this]
theorem vCh_snoc (k : Nat) (ch : List ByteArray) (l : List Dg) (x : Dg) : vCh k ch (l ++ [x]) = vCh k ch l ++ [wk k x.1.1 (15 - x.1.2) x.1.2 (ch.getD x.1.1 ⟨#[]⟩)] := by simp [vCh]
theorem vCh_size (k : Nat) (ch : List ByteArray) (h : ∀ s ∈ ch, s.size = 32) (h67 : ch.length = 67) (l : List Dg) : (cat (vCh k ch l) ⟨#[]⟩).size = 32 * l.length := by
  rw [cat_size]
  · show 0 + 32 * (vCh k ch l).length = _
    simp [vCh]
  · intro s hs
    obtain ⟨x, _, rfl⟩ := List.mem_map.1 hs
    apply wk_size
    have hx : x.1.1 < ch.length := by rw [h67]; exact x.2.1
    rw [List.getD_eq_getElem?_getD, List.getElem?_eq_getElem hx]
    exact h _ (List.getElem_mem hx)
theorem Kb.others {W W' : World} {b : Nat} {c : Array Value} {T : TypeId} {fz : Nat × Nat} (h : Lib.OthersKept 5 (some b) W W') (hs : W.heap.size ≤ W'.heap.size) (hb : W.heap[b]? = some (.cells c T fz)) (hT : T ≠ 3) : Kb W W' := by
  refine ⟨⟨hs, fun k o hk ho => h k o hk (fun e => ?_) (fun c' fz' e => ?_)⟩, hs, fun k c' fz' hk => h k _ hk (fun e => ?_) (fun c2 fz2 e => ?_)⟩
  · cases e; rw [hb] at hk; cases hk; cases ho
  · subst e; cases ho
  · cases e; rw [hb] at hk; injection hk with hk; injection hk with _ hk; exact hT hk
  · injection e with _ e; exact absurd e (by decide)
/-- what lies still in Verify's loop -/
structure VerJ (w W : World) (cs : Array Value) (bs : List Value) : Prop where
  box : W.heap[w.heap.size]? = some (.cells cs 72 (0, 0))
  bld : Lib.IsBuilder Sb.TB 5 (w.heap.size + 1) (w.heap.size + 1) bs W
  ext : Ext w W
  sz : w.heap.size + 3 ≤ W.heap.size
theorem VerJ.call {w W W' : World} {cs : Array Value} {bs : List Value} (s : VerJ w W cs bs) (hb : Below W.heap.size W W') : VerJ w W' cs bs :=
  ⟨Ext.block hb s.box, Pr.builder_below s.bld hb, s.ext.call hb, Nat.le_trans s.sz hb.size⟩
theorem VerJ.drew {w W : World} {cs : Array Value} {bs : List Value} (s : VerJ w W cs bs) : VerJ w W.drew cs bs := s.call (Below.refl _ _).drew
theorem bld_block {B b : Nat} {bs : List Value} {W : World} (h : Lib.IsBuilder Sb.TB 5 B b bs W) : ∃ c, W.heap[b]? = some (.cells c Sb.TB (0, 0)) := by
  rcases h with ⟨_, v, hv, _⟩ | ⟨_, v, hv, _⟩
  · exact ⟨_, hv⟩
  · exact ⟨_, hv⟩
theorem VerJ.write {w W W' : World} {cs : Array Value} {bs bs' : List Value} (s : VerJ w W cs bs) (hb : Lib.BuilderAt Sb.TB 5 (w.heap.size + 1) (w.heap.size + 1) (.pointer (some ⟨w.heap.size + 1, 0, none⟩)) bs' W') (h1 : Below (w.heap.size + 1) W W') (h2 : Lib.OthersKept 5 (some (w.heap.size + 1)) W W') : VerJ w W' cs bs' ∧ Kb W W' := by
  obtain ⟨c, hc⟩ := bld_block s.bld
  exact ⟨⟨(h1.block _ (by omega)).trans s.box, .inr hb, s.ext.below.trans (h1.mono (by omega)), Nat.le_trans s.sz h1.size⟩, Kb.others h2 h1.size hc (by decide)⟩
theorem VerJ.own {w : World} {cs : Array Value} {f : List Dg → List Value} : OwnFrom (w.heap.size + 3) (fun pre W => VerJ w W cs (f pre)) := by
  intro pre W W' row hs hg hr
  have hn : ∀ (b : Nat) (c : Array Value) (T : TypeId) (fz : Nat × Nat), W.heap[b]? = some (.cells c T fz) → W'.heap[b]? = some (.cells c T fz) := fun b c T fz hb => by
    refine (hg.block b (Array.getElem?_eq_some_iff.1 hb).1 (fun e => ?_)).trans hb
    obtain ⟨_, o, ho, hc⟩ := hr b e.symm
    rw [hb] at ho
    cases ho
    cases hc
  have hat : ∀ p, Lib.BuilderAt Sb.TB 5 (w.heap.size + 1) (w.heap.size + 1) p (f pre) W → Lib.BuilderAt Sb.TB 5 (w.heap.size + 1) (w.heap.size + 1) p (f pre) W' := by
    rintro p ⟨h1, v, hv, ho, hne⟩
    exact ⟨h1, v, hn _ _ _ _ hv, own_move ho (fun b hb => by obtain ⟨c, hc⟩ := own_typed ho b hb; rw [hc]; exact hn _ _ _ _ hc), hne⟩
  exact ⟨hn _ _ _ _ hs.box, hs.bld.imp (hat _) (hat _), hs.ext.below.grown hg hs.ext.below.size (fun r e => by have := (hr r e).1; omega), Nat.le_trans hs.sz hg.size⟩
/-- what lies still behind Verify's loop -/
structure VerE (w W : World) (D : Nat) (cs : Array Value) : Prop where
  box : W.heap[w.heap.size]? = some (.cells cs 72 (0, 0))
  ext : Ext w W
  dd : W.heap[D]? = some (.deferred (some []))
theorem VerE.call {w W W' : World} {D : Nat} {cs : Array Value} (s : VerE w W D cs) (hb : Below W.heap.size W W') : VerE w W' D cs := ⟨Ext.block hb s.box, s.ext.call hb, Ext.block hb s.dd⟩
theorem strs_ext {w W : World} {A : Option Addr} {n : Nat} {l : List ByteArray} (h : Strs w A n l) (he : Ext w W) : Strs W A n l := h.below he
set_option maxRecDepth 100000 in
set_option maxHeartbeats 4000000 in
theorem Verify_yes (pub m : ByteArray) (i : Nat) (A1 : Option Addr) (c1 : Nat) (A2 : Option Addr) (c2 : Nat) (ch path : List ByteArray) (w : World) (hm : m.size ≤ 140737488355328) (hr1 : Strs w A1 ch.length ch) (hc1 : ch.length ≤ c1) (hr2 : Strs w A2 path.length path) (hc2 : path.length ≤ c2)
    (hv : verB pub (pub.data.toList.getD 32 0).toNat i ch) :
    Calls Try.prog 46 #[.string pub, .string m, sigV i A1 ch.length c1 A2 path.length c2] w fun e w' => e = .returned (.bool (verify pub m ⟨i, ch, path⟩)) ∧ Below w.heap.size w w' := by
  have HR := Lib.hid (verify_yes (m := m) (s := ⟨i, ch, path⟩) hv)
  obtain ⟨h1, h2, h3, h4, h5, h6⟩ := hv
  have h32 : 32 < pub.size := by omega
  rw [hgt_eq h32] at h2 h4 HR
  obtain ⟨g, hg⟩ : ∃ g, g = (pub[32]'h32).toNat := ⟨_, rfl⟩
  rw [← hg] at h2 h4 HR
  have hg' : (pub[32]'h32).toNat = g := hg.symm
  have hg256 : g < 256 := by rw [hg]; exact (pub[32]'h32).toNat_lt
  clear hg
  obtain ⟨N, hN⟩ : ∃ N, N = 2 ^ g := ⟨_, rfl⟩
  have pw : wrap64 ((2 : Int) ^ g) = (N : Int) := by rw [hN]; exact pow_wrap h2
  have p64 : N ≤ 64 := by rw [hN]; exact pow_le64 h2
  rw [← hN] at h4 HR
  clear hN
  have t1 : ((pub.size : Int) != 33) = false := bne_eq_false_iff_eq.mpr (by omega)
  have t2 : decide (6 < (g : Int)) = false := decide_eq_false (by omega)
  have t2' : decide (6 < g) = false := decide_eq_false (by omega)
  have t3 : decide ((i : Int) < 0) = false := decide_eq_false (by omega)
  have t4 : decide (N ≤ i) = false := decide_eq_false (Nat.not_le.2 (Int.ofNat_lt.1 h4))
  have t5 : ((ch.length : Int) != 67) = false := bne_eq_false_iff_eq.mpr (by omega)
  have H5 := Lib.hid h5
  have H6 := Lib.hid ((dgst_iff ch).1 h6)
  have HCF := Lib.hid (show ∀ w', Below w.heap.size w w' → Calls Try.prog 78 #[.slice A1 ch.length c1, .func (.func 79) #[] #[]] w' fun e w'' => e = .returned (.bool false) ∧ w' = w'' from fun w' hb => by
    have := containsFunc_calls 79 (.inr rfl) A1 c1 ch w' (hr1.below hb)
    rwa [h6] at this)
  obtain ⟨ad, rfl⟩ : ∃ ad, A1 = some ad := by obtain ⟨ad, e, _⟩ := strs_at hr1 0 (by omega); exact ⟨ad, e⟩
  have HS1 := Lib.hid hr1
  have HS2 := Lib.hid hr2
  have HDG := Lib.hid (fun w' => digits_calls m w')
  have hn1 : ch.length ≤ 67 := by omega
  have hn2 : 67 ≤ ch.length := by omega
  clear h5 h6 hr1 hr2
  refine (callsIn_wide (n := 6)).1 ?_
  refine callsIn_of_wp_marks Try.func46 rfl trivial ?_ rfl
  simp only [Try.ntmps46, List.size_toArray, List.length_cons, List.length_nil, Nat.reduceAdd, Nat.reduceSub, Array.replicate_succ, Array.replicate_zero, List.push_toArray, List.append_toArray, List.nil_append, List.cons_append]
  have hf1 : Fence.wide.fn 78 := trivial
  have hf2 : Fence.wide.fn 74 := trivial
  gi_wp2_with (first | (gi_at_call 78; refine (callsIn_wide.2 (HCF.out _ ((Below.refl _ _).alloc (Nat.le_refl _) _))).mono ?_; rintro e w1 ⟨rfl, rfl⟩) | (gi_at_call 74; refine (callsIn_wide.2 (HDG.out _)).mono ?_; rintro e w2 ⟨rfl, rfl⟩))
  have PW := Lib.hid pw
  clear pw
  obtain ⟨W2, hW2⟩ : ∃ W2, W2 = ((w.alloc (.cells (sigC i (some ad) ch.length c1 A2 path.length c2) 72)).alloc (.cells #[.pointer none, .slice none 0 0] Sb.TB)).alloc (.cells #[.string m] 9) := ⟨_, rfl⟩
  have HI0 := Lib.hid (show VerJ w W2 (sigC i (some ad) ch.length c1 A2 path.length c2) (Lib.strCells (cat (vCh i ch []) ⟨#[]⟩)) from by
    rw [hW2]
    refine ⟨?_, ?_, Ext.alloc (Ext.alloc (Ext.alloc (Ext.refl w) _) _) _, by simp⟩
    · rw [Below.heap_alloc _ _ _ (by simp; omega), Below.heap_alloc _ _ _ (by simp)]; exact heap_alloc_new _ _
    · refine .inl ⟨Nat.le_refl _, .slice none 0 0, ?_, own_nil _ _ _ _, by simp [Value.ownBlock]⟩
      rw [Below.heap_alloc _ _ _ (by simp)]
      have := heap_alloc_new (w.alloc (.cells (sigC i (some ad) ch.length c1 A2 path.length c2) 72)) (.cells #[.pointer none, .slice none 0 0] Sb.TB)
      simpa using this)
  have hs2 : W2.heap.size = w.heap.size + 3 := by rw [hW2]; simp
  have HB8 := Lib.hid (show W2.cell? ⟨w.heap.size + 1 + 1, 0, none⟩ = some (.string m) from by
    rw [hW2]
    have := new_cells ((w.alloc (.cells (sigC i (some ad) ch.length c1 A2 path.length c2) 72)).alloc (.cells #[.pointer none, .slice none 0 0] Sb.TB)) [.string m] 9 0 _ rfl
    simpa using this)
  have hW2' : (((w.alloc (.cells #[.int .i64 (i : Int), .slice (some ad) ch.length c1, .slice A2 path.length c2] 72)).alloc (.cells #[.pointer none, .slice none 0 0] Sb.TB)).alloc (.cells #[.string m] 9)) = W2 := hW2.symm
  rw [hW2']
  clear hW2 hW2'
  refine wpIn_named (fun a' ha => ?_)
  refine wpIn_rangeFunc_ownG rfl (by omega) (gf := 96) (lb := #[.pointer (some ⟨w.heap.size + 1 + 1, 0, none⟩)]) (by rw [ha]; rfl) trivial (enters_of Try.func96 (by kernel_rfl) rfl) (encs := encD) (Kp := KpI) (S := fun ys => ys = dl m 67) (Sp := fun _ => True) (N := 67) (w0 := W2)
    (fun l J Jx W hW hJ _ hY h0 => iter_in 5 (by omega) l (w.heap.size + 1 + 1) m hm J Jx W hJ hY ((hW.cell (p := ⟨w.heap.size + 1 + 1, 0, none⟩) (by rw [hs2]; show w.heap.size + 1 + 1 < _; omega)).trans HB8.out) h0)
    KpI.trans (fun W l o o' hl h1 h2 h3 => KpI.putObj W l o o' hl h1 h2 h3) (Below.refl _ _) (fun _ => rfl)
    (fun pre W => VerJ w W (sigC i (some ad) ch.length c1 A2 path.length c2) (Lib.strCells (cat (vCh i ch pre) ⟨#[]⟩))) (fun _ _ _ => False) (by rw [hs2]; exact VerJ.own) (fun _ => fun _ _ _ _ h _ _ => h) HI0.out
    (fun x => { tmps := (((a'.tmps.setIfInBounds 45 (.int .i64 (x.1.1 : Int))).setIfInBounds 46 (.int .i64 (x.1.2 : Int))).setIfInBounds 9 (.int .i64 (x.1.1 : Int))).setIfInBounds 10 (.int .i64 (x.1.2 : Int)), defers := [] }) ?assign ?body ?done ?stop
  case assign =>
    intro l x W K hK
    subst ha
    simp only [encD] at hK ⊢
    gi_wp2
    exact hK
  case stop =>
    rintro D c pre W _ _ h _
    exact h.elim
  case body =>
    rintro l pre x W hI hlen
    subst ha
    have HL := Lib.hid (vCh_snoc i ch pre x)
    obtain ⟨⟨c, d⟩, hcd⟩ := x
    obtain ⟨hc67, hd15⟩ := hcd
    simp only at hc67 hd15
    have hcl : c < ch.length := by omega
    obtain ⟨s, hse⟩ : ∃ s, s = ch[c] := ⟨_, rfl⟩
    have hgd : ch.getD c ⟨#[]⟩ = s := by rw [hse, List.getD_eq_getElem?_getD, List.getElem?_eq_getElem hcl]; rfl
    have hss : s.size = 32 := by rw [hse]; exact H6.out _ (List.getElem_mem hcl)
    have HCL := Lib.hid (show ∀ w', Ext w w' → w'.cell? (ad.add c) = some (.string s) from fun w' he => by
      obtain ⟨ad', e, hc'⟩ := strs_at (strs_ext HS1.out he) c hcl
      cases e
      rw [hse]; exact hc')
    have HW := Lib.hid (show ∀ w', Calls Try.prog 75 #[.string s, .int .i64 (i : Int), .int .i64 (c : Int), .int .i64 (d : Int), .int .i64 15] w' fun e w'' => e = .returned (.string (wk i c (15 - d) d s)) ∧ Below w'.heap.size w' w'' from fun w' => walk_calls s i c d (15 - d) 15 w' (by omega) hss (by omega) (by omega) (by omega) (by omega))
    obtain ⟨y, hy⟩ : ∃ y, y = wk i c (15 - d) d s := ⟨_, rfl⟩
    have hys : y.size = 32 := by rw [hy]; exact wk_size _ _ _ _ _ hss
    rw [← hy] at HW
    have HY := Lib.hid (show wk i c (15 - d) d (ch.getD c ⟨#[]⟩) = y by rw [hy, hgd])
    have HI := Lib.hid hI
    have HSZ := Lib.hid (vCh_size i ch H6.out H5.out pre)
    have HYS := Lib.hid hys
    have l1 : ((c : Int) < (ch.length : Int)) = True := eq_true (by omega)
    have l2 : (c < ch.length) = True := eq_true hcl
    clear hse hss hy hI hgd hys
    simp only [List.setIfInBounds_toArray, List.set_cons_zero, List.set_cons_succ]
    gi_wp2
    refine Sd.regionIn (fun w' => VerJ w w' (sigC i (some ad) ch.length c1 A2 path.length c2) (Lib.strCells (cat (vCh i ch pre) ⟨#[]⟩))) [(0, 0), (1, 1), (2, 0), (3, 0), (4, 1), (5, 0), (6, 1), (7, 0), (8, 0), (9, 2), (10, 3)] (by kernel_rfl) (by kernel_rfl) rfl HI.out.drew ?_
    (refine Sd.s0 rfl (fun K hK => ?_); go_simp; refine hK _ ?_; clear hK K)
    (refine Sd.s1 rfl (fun K hK => ?_); go_simp; refine ⟨.slice (some ad) ch.length c1, fun w' hw' => (by have e := cell_of_row w' _ 1 _ _ _ hw'.box; simp [e, Result.andThen]), hK _ ?_⟩; clear hK K)
    (refine Sd.s0 rfl (fun K hK => ?_); go_simp; refine hK _ ?_; clear hK K)
    (refine Sd.s0 rfl (fun K hK => ?_); go_simp; refine hK _ ?_; clear hK K)
    (refine Sd.s1 rfl (fun K hK => ?_); go_simp; refine ⟨.string s, fun w' hw' => (by have e := HCL.out w' hw'.ext; simp [e, Result.andThen]), hK _ ?_⟩; clear hK K)
    (refine Sd.s0 rfl (fun K hK => ?_); go_simp; refine hK _ ?_; clear hK K)
    (refine Sd.s1 rfl (fun K hK => ?_); go_simp; refine ⟨.int .i64 i, fun w' hw' => (by have e := cell_of_row w' _ 0 _ _ _ hw'.box; simp [e, Result.andThen]), hK _ ?_⟩; clear hK K)
    (refine Sd.s0 rfl (fun K hK => ?_); go_simp; refine hK _ ?_; clear hK K)
    (refine Sd.s0 rfl (fun K hK => ?_); go_simp; refine hK _ ?_; clear hK K)
    (refine Sd.s2 rfl (fun K hK => ?_); go_simp; refine (HW.out _).mono ?_; rintro e w3 ⟨rfl, hb3⟩; have J3 := HI.out.drew.call hb3; have k3 := (Kb.drew W).trans (Kb.call hb3); refine hK _ _ J3 ?_; clear hK K hb3)
    have hz3 := J3.sz
    (refine Sd.s3 rfl (fun K hK => ?_); go_simp; refine (Sb.WriteString_k (w.heap.size + 1) (w.heap.size + 1) _ y _ J3.bld (by rw [Lib.strCells_length, HSZ.out, HYS.out]; omega) (by omega)).mono ?_; rintro e w4 ⟨rfl, hI4, hb4, ho4⟩; refine hK _ _ ?_; clear hK K)
    obtain ⟨J4, k4⟩ := J3.write hI4 hb4 ho4
    have K4 := k3.trans k4
    refine Sd.nilC ?_
    refine ⟨K4.1.from _, K4.2, ?_⟩
    have hfin : VerJ w w4 (sigC i (some ad) ch.length c1 A2 path.length c2) (Lib.strCells (cat (vCh i ch pre ++ [wk i c (15 - d) d (ch.getD c ⟨#[]⟩)]) ⟨#[]⟩)) := by
      rw [HY.out, cat_snoc, Pr.strCells_append]
      exact J4
    exact (congrArg (fun z => VerJ w w4 (sigC i (some ad) ch.length c1 A2 path.length c2) (Lib.strCells (cat z ⟨#[]⟩))) HL.out).mpr hfin
  case done =>
    rintro D ys W hD rfl hI hK
    subst ha
    rw [vCh_dl] at hI
    have HX := Lib.hid (show (cat (verCh i (digs m) ch 67) ⟨#[]⟩).size = 2144 by rw [← vCh_dl, vCh_size i ch H6.out H5.out, dl_length])
    obtain ⟨X, hX⟩ : ∃ X, X = cat (verCh i (digs m) ch 67) ⟨#[]⟩ := ⟨_, rfl⟩
    have HR := HR.out
    simp only [Int.toNat_natCast] at HR
    rw [← hX] at hI HX HR
    have HR := Lib.hid HR
    have HD := Lib.hid hK
    have HI := Lib.hid hI
    have HB := Lib.hid (show Lib.IsBuilderF Sb.TB 5 (w.heap.size + 1) (w.heap.size + 1) (Lib.byteCells X.data.toList) W from by rw [← Lib.strCells_eq]; exact Lib.IsBuilderF.of hI.bld)
    have HLF := Lib.hid (fun w' => leaf_calls X w' (by rw [HX.out]; omega))
    have HIN := Lib.hid (show ∀ w', Ext w w' → _ from fun w' he => Included_calls (leafH X) i N A2 c2 path (pub.extract 0 32) w' (strs_ext HS2.out he) hc2)
    have hDl : w.heap.size + 3 ≤ D := by rw [← hs2]; exact hD
    have hbs : w.heap.size + 1 ≤ W.drew.heap.size := by have := hI.sz; show _ ≤ W.heap.size; omega
    clear hI hK hX
    dsimp only
    gi_wp2
    refine wpIn_wide.2 ?_
    refine Sd.regionC (fun w' => VerE w w' D (sigC i (some ad) ch.length c1 A2 path.length c2)) [(2, 0), (3, 1), (4, 0), (5, 0), (6, 1), (7, 0), (8, 0), (0, 2), (1, 2), (9, 2), (10, 0)] (by kernel_rfl) (by kernel_rfl) ⟨HI.out.box, HI.out.ext.drew, HD.out⟩ ?_
    (refine Sd.s0 rfl (fun K hK => ?_); go_simp; refine hK _ ?_; clear hK K)
    (refine Sd.s1 rfl (fun K hK => ?_); go_simp; refine ⟨.int .i64 i, fun w' hw' => (by have e := cell_of_row w' _ 0 _ _ _ hw'.box; simp [e, Result.andThen]), hK _ ?_⟩; clear hK K)
    (refine Sd.s0 rfl (fun K hK => ?_); go_simp; refine hK _ ?_; clear hK K)
    (refine Sd.s0 rfl (fun K hK => ?_); go_simp; refine hK _ ?_; clear hK K)
    (refine Sd.s1 rfl (fun K hK => ?_); go_simp; refine ⟨.slice A2 path.length c2, fun w' hw' => (by have e := cell_of_row w' _ 2 _ _ _ hw'.box; simp [e, Result.andThen]), hK _ ?_⟩; clear hK K)
    (refine Sd.s0 rfl (fun K hK => ?_); go_simp; refine hK _ ?_; clear hK K)
    (refine Sd.s0 rfl (fun K hK => ?_); go_simp; refine hK _ ?_; clear hK K)
    (refine Sd.s2 rfl (fun K hK => ?_); go_simp; refine (Try.Builder_String_any_k (w.heap.size + 1) (w.heap.size + 1) X.data.toList W.drew HB.out hbs).mono ?_; rintro e w3 ⟨rfl, hF3, hb3, ho3⟩; have E3 : VerE w w3 D (sigC i (some ad) ch.length c1 A2 path.length c2) := ⟨(hb3.block _ (by omega)).trans HI.out.box, HI.out.ext.drew.below.trans (hb3.mono (by omega)), ho3 D _ HD.out (by simp; omega) (fun c fz e => by cases e)⟩; refine hK _ _ E3 ?_; clear hK K hF3 hb3 ho3)
    have hXX : (⟨X.data.toList.toArray⟩ : ByteArray) = X := rfl
    rw [hXX]
    (refine Sd.s2 rfl (fun K hK => ?_); go_simp; refine (HLF.out _).mono ?_; rintro e w4 ⟨rfl, hb4⟩; have E4 := E3.call hb4; refine hK _ _ E4 ?_; clear hK K hb4)
    (refine Sd.s2 rfl (fun K hK => ?_); go_simp; refine (HIN.out _ E4.ext).mono ?_; rintro e w5 ⟨rfl, hb5⟩; have E5 := E4.call hb5; refine hK _ _ E5 ?_; clear hK K hb5)
    (refine Sd.s0 rfl (fun K hK => ?_); go_simp; refine hK _ ?_; clear hK K)
    refine Sd.nilC ?_
    gi_wp2
    refine ⟨by simp, .inl ⟨_, _, rfl, run_takeDeferred E5.dd, ?_⟩⟩
    exact ⟨_, results_tmp rfl _ _ _, by first | rfl | (rw [HR.out]; rfl), E5.ext.below.trans (belowK_b (w := w) (Nat.le_refl _) w5 D _ _ (by omega) E5.dd rfl rfl)⟩
end Go.Proofs.Ytldkkboeaadbeaa.Sg
end
section
/- The signature scheme in the program: Encode. -/
set_option linter.unusedVariables false
set_option linter.unusedSimpArgs false
namespace Go.Proofs.Ytldkkboeaadbeaa.Sg
open Go.RowKit Go.Proofs.YtldkkboeaadbeaaW.PrintWords Go.Proofs.YtldkkboeaadbeaaW.PrintLast Go.Proofs.YtldkkboeaadbeaaW.PrintMore
attribute [local go_sem] Sd.pureq Sd.pureAt Sd.pureUpon
/-- whether a signature is accepted: the contract -/
theorem Verify_calls (pub m : ByteArray) (idx : Int) (A1 : Option Addr) (c1 : Nat) (A2 : Option Addr) (c2 : Nat) (ch path : List ByteArray) (w : World) (hm : m.size ≤ 140737488355328) (hr1 : Strs w A1 ch.length ch) (hc1 : ch.length ≤ c1) (hr2 : Strs w A2 path.length path) (hc2 : path.length ≤ c2) :
    Calls Try.prog 46 #[.string pub, .string m, sigV idx A1 ch.length c1 A2 path.length c2] w fun e w' => e = .returned (.bool (verify pub m ⟨idx, ch, path⟩)) ∧ Below w.heap.size w w' := by
  by_cases hv : verB pub (pub.data.toList.getD 32 0).toNat idx ch
  · obtain ⟨i, rfl⟩ := Int.eq_ofNat_of_zero_le hv.2.2.1
    exact Verify_yes pub m i A1 c1 A2 c2 ch path w hm hr1 hc1 hr2 hc2 hv
  · rw [verify_no hv]
    exact Verify_no pub m idx A1 c1 A2 c2 ch path w hr1 hc1 hv
theorem texts_calls (A : Option Addr) (c : Nat) (l : List ByteArray) (w : World) (hr : Strs w A l.length l) (hc : l.length ≤ c) (h : Pr.room l + 10 < 140737488355328) :
    Calls Try.prog 21 #[.slice A l.length c] w fun e w' => e = .returned (.string (Pr.textsS l)) ∧ Below w.heap.size w w' := by
  obtain ⟨k, hk⟩ := Pr.Texts_ev l h
  exact Pr.codec_Texts.calls k A c l _ w (Kd.C_of_reads (h1 := fun _ => rfl) hr) hc (hk k (Nat.le_refl _))
theorem room32 : ∀ (l : List ByteArray), (∀ s ∈ l, s.size = 32) → Pr.room l = 42 * l.length
  | [], _ => rfl
  | s :: l, h => by
    have := room32 l (fun x hx => h x (List.mem_cons_of_mem _ hx))
    have := h s List.mem_cons_self
    simp only [Pr.room, List.length_cons] at *
    omega
theorem catS_le : ∀ (l : List ByteArray) (b : ByteArray), (∀ s ∈ l, s.size < 18446744073709551616) → (Pr.catS l b).size ≤ b.size + Pr.room l
  | [], b, _ => by simp [Pr.catS, Pr.room]
  | s :: l, b, h => by
    have h1 := catS_le l (b ++ Pr.textS s) (fun x hx => h x (List.mem_cons_of_mem _ hx))
    have h2 := Pr.textS_size s (h s List.mem_cons_self)
    rw [ByteArray.size_append] at h1
    simp only [Pr.catS, Pr.room]
    omega
theorem textsS_le (l : List ByteArray) (h : ∀ s ∈ l, s.size = 32) (hl : l.length < 18446744073709551616) : (Pr.textsS l).size ≤ 10 + 42 * l.length := by
  have h1 := catS_le l (Pr.encU l.length) (fun s hs => by have := h s hs; omega)
  have h2 := Pr.encU_size10 hl
  have h3 := room32 l h
  unfold Pr.textsS; omega
def encB (idx : Int) (ch path : List ByteArray) : Prop := 0 ≤ idx ∧ ch.length = 67 ∧ path.length ≤ 6 ∧ dgst ch = true ∧ dgst path = true
instance (idx : Int) (ch path : List ByteArray) : Decidable (encB idx ch path) := by unfold encB; infer_instance
def encS (idx : Int) (ch path : List ByteArray) : ByteArray := numS [idx.toNat] ++ Pr.textsS ch ++ Pr.textsS path
/-- the box of a value, still as it was -/
structure BoxE (w W : World) (T : TypeId) (cs : Array Value) : Prop where
  box : W.heap[w.heap.size]? = some (.cells cs T (0, 0))
  ext : Ext w W
theorem BoxE.call {w W W' : World} {T : TypeId} {cs : Array Value} (s : BoxE w W T cs) (hb : Below W.heap.size W W') : BoxE w W' T cs := ⟨Ext.block hb s.box, s.ext.call hb⟩
theorem BoxE.new (w : World) (T : TypeId) (cs : Array Value) : BoxE w (w.alloc (.cells cs T)) T cs := ⟨heap_alloc_new _ _, (Ext.refl w).alloc _⟩
theorem BoxE.drew {w W : World} {T : TypeId} {cs : Array Value} (s : BoxE w W T cs) : BoxE w W.drew T cs := ⟨s.box, s.ext.drew⟩
theorem BoxE.alloc {w W : World} {T : TypeId} {cs : Array Value} (s : BoxE w W T cs) (o : Obj) : BoxE w (W.alloc o) T cs := s.call ((Below.refl _ _).alloc (Nat.le_refl _) o)
set_option maxRecDepth 100000 in
set_option maxHeartbeats 4000000 in
theorem Encode_no (idx : Int) (A1 : Option Addr) (c1 : Nat) (A2 : Option Addr) (c2 : Nat) (ch path : List ByteArray) (w : World) (hr1 : Strs w A1 ch.length ch) (hr2 : Strs w A2 path.length path)
    (hv : ¬ encB idx ch path) :
    Calls Try.prog 44 #[sigV idx A1 ch.length c1 A2 path.length c2] w fun e w' => e = .returned (.tuple #[.string ⟨#[]⟩, .int .i64 1]) ∧ Below w.heap.size w w' := by
  have HC1 := Lib.hid (show ∀ w', Below w.heap.size w w' → _ from fun w' hb => containsFunc_calls 79 (.inr rfl) A1 c1 ch w' (hr1.below hb))
  have HC2 := Lib.hid (show ∀ w', Below w.heap.size w w' → _ from fun w' hb => containsFunc_calls 79 (.inr rfl) A2 c2 path w' (hr2.below hb))
  have hl1 := hr1.2.1
  have hl2 := hr2.2.1
  clear hr1 hr2
  by_cases h1 : 0 ≤ idx
  · have t1 : decide (idx < 0) = false := decide_eq_false (by omega)
    by_cases h2 : ch.length = 67
    · have t2 : ((ch.length : Int) != 67) = false := bne_eq_false_iff_eq.mpr (by omega)
      have H2 := Lib.hid h2
      clear h2
      by_cases h3 : path.length ≤ 6
      · have t3 : decide (6 < (path.length : Int)) = false := decide_eq_false (by omega)
        have t3' : decide (6 < path.length) = false := decide_eq_false (by omega)
        by_cases h4 : dgst ch = true
        · rw [h4] at HC1
          have H4 := Lib.hid h4
          clear h4
          by_cases h5 : dgst path = true
          · rw [h5] at HC2
            have H5 := Lib.hid h5
            clear h5
            exact absurd (show encB idx ch path from ⟨h1, H2.out, h3, H4.out, H5.out⟩) hv
          · rw [Bool.eq_false_iff.2 h5] at HC2
            clear h5
            go_enter Try.func44, Try.ntmps44
            go_wp2_with (first | (go_at_call 78; refine (HC1.out _ ((Below.refl _ _).alloc (Nat.le_refl _) _)).mono ?_; rintro e w1 ⟨rfl, rfl⟩) | (go_at_call 78; refine (HC2.out _ ((Below.refl _ _).alloc (Nat.le_refl _) _)).mono ?_; rintro e w1 ⟨rfl, rfl⟩))
            go_ret2
            exact ⟨rfl, (Below.refl _ _).alloc (Nat.le_refl _) _⟩
        · rw [Bool.eq_false_iff.2 h4] at HC1
          clear h4
          go_enter Try.func44, Try.ntmps44
          go_wp2_with (first | (go_at_call 78; refine (HC1.out _ ((Below.refl _ _).alloc (Nat.le_refl _) _)).mono ?_; rintro e w1 ⟨rfl, rfl⟩) | (go_at_call 78; refine (HC2.out _ ((Below.refl _ _).alloc (Nat.le_refl _) _)).mono ?_; rintro e w1 ⟨rfl, rfl⟩))
          go_ret2
          exact ⟨rfl, (Below.refl _ _).alloc (Nat.le_refl _) _⟩
      · have t3 : decide (6 < (path.length : Int)) = true := decide_eq_true (by omega)
        have t3' : decide (6 < path.length) = true := decide_eq_true (by omega)
        go_enter Try.func44, Try.ntmps44
        go_wp2_with (first | (go_at_call 78; refine (HC1.out _ ((Below.refl _ _).alloc (Nat.le_refl _) _)).mono ?_; rintro e w1 ⟨rfl, rfl⟩) | (go_at_call 78; refine (HC2.out _ ((Below.refl _ _).alloc (Nat.le_refl _) _)).mono ?_; rintro e w1 ⟨rfl, rfl⟩))
        go_ret2
        exact ⟨rfl, (Below.refl _ _).alloc (Nat.le_refl _) _⟩
    · have t2 : ((ch.length : Int) != 67) = true := bne_iff_ne.mpr (by omega)
      go_enter Try.func44, Try.ntmps44
      go_wp2_with (first | (go_at_call 78; refine (HC1.out _ ((Below.refl _ _).alloc (Nat.le_refl _) _)).mono ?_; rintro e w1 ⟨rfl, rfl⟩) | (go_at_call 78; refine (HC2.out _ ((Below.refl _ _).alloc (Nat.le_refl _) _)).mono ?_; rintro e w1 ⟨rfl, rfl⟩))
      go_ret2
      exact ⟨rfl, (Below.refl _ _).alloc (Nat.le_refl _) _⟩
  · have t1 : decide (idx < 0) = true := decide_eq_true (by omega)
    go_enter Try.func44, Try.ntmps44
    go_wp2_with (first | (go_at_call 78; refine (HC1.out _ ((Below.refl _ _).alloc (Nat.le_refl _) _)).mono ?_; rintro e w1 ⟨rfl, rfl⟩) | (go_at_call 78; refine (HC2.out _ ((Below.refl _ _).alloc (Nat.le_refl _) _)).mono ?_; rintro e w1 ⟨rfl, rfl⟩))
    go_ret2
    exact ⟨rfl, (Below.refl _ _).alloc (Nat.le_refl _) _⟩
set_option maxRecDepth 100000 in
set_option maxHeartbeats 4000000 in
theorem Encode_yes (i : Nat) (A1 : Option Addr) (c1 : Nat) (A2 : Option Addr) (c2 : Nat) (ch path : List ByteArray) (w : World) (hr1 : Strs w A1 ch.length ch) (hc1 : ch.length ≤ c1) (hr2 : Strs w A2 path.length path) (hc2 : path.length ≤ c2) (hi : i < 9223372036854775808)
    (hv : encB i ch path) :
    Calls Try.prog 44 #[sigV i A1 ch.length c1 A2 path.length c2] w fun e w' => e = .returned (.tuple #[.string (encS i ch path), .int .i64 0]) ∧ Below w.heap.size w w' := by
  have HC1 := Lib.hid (show ∀ w', Below w.heap.size w w' → _ from fun w' hb => containsFunc_calls 79 (.inr rfl) A1 c1 ch w' (hr1.below hb))
  have HC2 := Lib.hid (show ∀ w', Below w.heap.size w w' → _ from fun w' hb => containsFunc_calls 79 (.inr rfl) A2 c2 path w' (hr2.below hb))
  obtain ⟨h1, h2, h3, h4, h5⟩ := hv
  have hm1 := room32 ch ((dgst_iff _).1 h4)
  have hm2 := room32 path ((dgst_iff _).1 h5)
  have HT1 := Lib.hid (show ∀ w', Ext w w' → _ from fun w' he => texts_calls A1 c1 ch w' (strs_ext hr1 he) hc1 (by omega))
  have HT2 := Lib.hid (show ∀ w', Ext w w' → _ from fun w' he => texts_calls A2 c2 path w' (strs_ext hr2 he) hc2 (by omega))
  have hz1 : (Pr.textsS ch).size ≤ 100000 := by have := textsS_le ch ((dgst_iff _).1 h4) (by omega); omega
  have hz2 : (Pr.textsS path).size ≤ 100000 := by have := textsS_le path ((dgst_iff _).1 h5) (by omega); omega
  have hz3 := numS_le [i] (by intro n hn; simp at hn; omega)
  have hz3 : (numS [i]).size ≤ 10 := hz3
  have HN := Lib.hid (fun w' => numbers_new [i] w' (by simp) (by intro n hn; simp at hn; omega))
  have HS := Lib.hid (show encS i ch path = numS [i] ++ Pr.textsS ch ++ Pr.textsS path from rfl)
  obtain ⟨x1, e1⟩ : ∃ x, x = Pr.textsS ch := ⟨_, rfl⟩
  obtain ⟨x2, e2⟩ : ∃ x, x = Pr.textsS path := ⟨_, rfl⟩
  obtain ⟨x3, e3⟩ : ∃ x, x = numS [i] := ⟨_, rfl⟩
  rw [← e1] at HT1 hz1 HS
  rw [← e2] at HT2 hz2 HS
  rw [← e3] at hz3 HN HS
  have b1 : (9223372036854775807 < x3.size + x1.size) = False := eq_false (by omega)
  have b2 : (9223372036854775807 < x3.size + x1.size + x2.size) = False := eq_false (by omega)
  have b3 : (9223372036854775807 < (x3 ++ x1 : ByteArray).size + x2.size) = False := eq_false (by rw [ByteArray.size_append]; omega)
  rw [h4] at HC1
  rw [h5] at HC2
  have t1 : decide ((i : Int) < 0) = false := decide_eq_false (by omega)
  have t2 : ((ch.length : Int) != 67) = false := bne_eq_false_iff_eq.mpr (by omega)
  have t3 : decide (6 < (path.length : Int)) = false := decide_eq_false (by omega)
  have t3' : decide (6 < path.length) = false := decide_eq_false (by omega)
  have hl1 := hr1.2.1
  have hl2 := hr2.2.1
  clear h1 h2 h3 h4 h5 hr1 hr2 e1 e2 e3 hz1 hz2 hz3 hm1 hm2
  go_enter Try.func44, Try.ntmps44
  go_wp2_with (first | (go_at_call 78; refine (HC1.out _ ((Below.refl _ _).alloc (Nat.le_refl _) _)).mono ?_; rintro e w1 ⟨rfl, rfl⟩) | (go_at_call 78; refine (HC2.out _ ((Below.refl _ _).alloc (Nat.le_refl _) _)).mono ?_; rintro e w1 ⟨rfl, rfl⟩))
  have hB := (BoxE.new w 72 (sigC i A1 ch.length c1 A2 path.length c2))
  refine Sd.regionC (fun w' => BoxE w w' 72 (sigC i A1 ch.length c1 A2 path.length c2)) [(0, 0), (1, 1), (4, 0), (5, 1), (8, 0), (9, 1), (2, 2), (3, 2), (6, 2), (7, 0), (10, 2), (11, 0), (12, 0), (13, 0)] (by kernel_rfl) (by kernel_rfl) hB.drew ?_
  have hBd := hB.drew
  generalize (w.alloc (.cells (sigC i A1 ch.length c1 A2 path.length c2) 72)).drew = wd at hBd ⊢
  (refine Sd.s0 rfl (fun K hK => ?_); go_simp; refine hK _ ?_; clear hK K)
  (refine Sd.s1 rfl (fun K hK => ?_); go_simp; refine ⟨.int .i64 i, fun w' hw' => (by have e := cell_of_row w' _ 0 _ _ _ hw'.box; simp [e, Result.andThen]), hK _ ?_⟩; clear hK K)
  (refine Sd.s0 rfl (fun K hK => ?_); go_simp; refine hK _ ?_; clear hK K)
  (refine Sd.s1 rfl (fun K hK => ?_); go_simp; refine ⟨.slice A1 ch.length c1, fun w' hw' => (by have e := cell_of_row w' _ 1 _ _ _ hw'.box; simp [e, Result.andThen]), hK _ ?_⟩; clear hK K)
  (refine Sd.s0 rfl (fun K hK => ?_); go_simp; refine hK _ ?_; clear hK K)
  (refine Sd.s1 rfl (fun K hK => ?_); go_simp; refine ⟨.slice A2 path.length c2, fun w' hw' => (by have e := cell_of_row w' _ 2 _ _ _ hw'.box; simp [e, Result.andThen]), hK _ ?_⟩; clear hK K)
  (refine Sd.s2 rfl (fun K hK => ?_); go_simp; refine hK _ _ (hBd.alloc _) ?_; clear hK K)
  (refine Sd.s2 rfl (fun K hK => ?_); go_simp; refine (HN.out _).mono ?_; rintro e w3 ⟨rfl, hb3⟩; have E3 := hBd.call hb3; refine hK _ _ E3 ?_; clear hK K hb3)
  (refine Sd.s2 rfl (fun K hK => ?_); go_simp; refine (HT1.out _ E3.ext).mono ?_; rintro e w4 ⟨rfl, hb4⟩; have E4 := E3.call hb4; refine hK _ _ E4 ?_; clear hK K hb4)
  (refine Sd.s0 rfl (fun K hK => ?_); go_simp; refine hK _ ?_; clear hK K)
  (refine Sd.s2 rfl (fun K hK => ?_); go_simp; refine (HT2.out _ E4.ext).mono ?_; rintro e w5 ⟨rfl, hb5⟩; have E5 := E4.call hb5; refine hK _ _ E5 ?_; clear hK K hb5)
  (refine Sd.s0 rfl (fun K hK => ?_); go_simp; refine hK _ ?_; clear hK K)
  (refine Sd.s0 rfl (fun K hK => ?_); go_simp; refine hK _ ?_; clear hK K)
  (refine Sd.s0 rfl (fun K hK => ?_); go_simp; refine hK _ ?_; clear hK K)
  refine Sd.nilC ?_
  go_wp2
  go_ret2
  exact ⟨by rw [HS.out]; rfl, E5.ext⟩
theorem Encode_calls (idx : Int) (A1 : Option Addr) (c1 : Nat) (A2 : Option Addr) (c2 : Nat) (ch path : List ByteArray) (w : World) (hr1 : Strs w A1 ch.length ch) (hc1 : ch.length ≤ c1) (hr2 : Strs w A2 path.length path) (hc2 : path.length ≤ c2) (hi : idx ≤ 9223372036854775807) :
    Calls Try.prog 44 #[sigV idx A1 ch.length c1 A2 path.length c2] w fun e w' => e = .returned (.tuple #[.string (if encB idx ch path then encS idx ch path else ⟨#[]⟩), .int .i64 (if encB idx ch path then 0 else 1)]) ∧ Below w.heap.size w w' := by
  by_cases hv : encB idx ch path
  · rw [if_pos hv, if_pos hv]
    obtain ⟨i, rfl⟩ := Int.eq_ofNat_of_zero_le hv.1
    exact Encode_yes i A1 c1 A2 c2 ch path w hr1 hc1 hr2 hc2 (by omega) hv
  · rw [if_neg hv, if_neg hv]
    exact Encode_no idx A1 c1 A2 c2 ch path w hr1 hr2 hv

end Go.Proofs.Ytldkkboeaadbeaa.Sg
end
