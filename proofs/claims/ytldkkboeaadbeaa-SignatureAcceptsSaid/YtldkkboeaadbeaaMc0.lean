/- SgEz, SgAw, SgG2, SgLa -/
import Derived.Test.YtldkkboeaadbeaaMb6
import Derived.Test.YtldkkboeaadbeaaMb7
import Derived.Test.YtldkkboeaadbeaaMb8
import Derived.Test.YtldkkboeaadbeaaMb9
section
/- The other message is refused. -/
set_option linter.unusedVariables false
set_option linter.unusedSimpArgs false
set_option maxRecDepth 100000
namespace Go.Proofs.Ytldkkboeaadbeaa.Sgv
open Go.Proofs.Ytldkkboeaadbeaa.Sg
def W0 : List (List Nat × List Nat) := L0_0 ++ L0_1 ++ L0_2 ++ L0_3 ++ L0_4 ++ L0_5 ++ L0_6 ++ L0_7
def W1 : List (List Nat) := L1_0 ++ L1_1 ++ L1_2 ++ L1_3 ++ L1_4 ++ L1_5 ++ L1_6 ++ L1_7
theorem range_67 : List.range 67 = List.range' 0 9 ++ List.range' 9 9 ++ List.range' 18 9 ++ List.range' 27 9 ++ List.range' 36 9 ++ List.range' 45 9 ++ List.range' 54 9 ++ List.range' 63 4 := by decide
theorem w0 : (List.range 67).map (ch0 sd dg1 dg2) = W0 := by
  rw [range_67]
  simp only [List.map_append, c0_0, c0_1, c0_2, c0_3, c0_4, c0_5, c0_6, c0_7]
  rfl
theorem w1 : (List.range 67).map (ch1 sd) = W1 := by
  rw [range_67]
  simp only [List.map_append, c1_0, c1_1, c1_2, c1_3, c1_4, c1_5, c1_6, c1_7]
  rfl
def la : List Nat := [191, 186, 72, 44, 237, 53, 132, 72, 26, 236, 157, 163, 36, 49, 81, 236, 232, 204, 4, 18, 214, 18, 19, 251, 208, 167, 237, 149, 146, 62, 26, 180]
def lv : List Nat := [81, 226, 51, 165, 70, 128, 69, 46, 145, 147, 193, 93, 251, 64, 23, 128, 48, 208, 127, 71, 19, 7, 18, 8, 252, 117, 112, 50, 223, 84, 59, 234]
def lb : List Nat := [32, 59, 120, 236, 30, 244, 118, 19, 24, 112, 15, 184, 161, 93, 44, 252, 42, 150, 117, 148, 122, 30, 67, 63, 76, 1, 174, 21, 182, 141, 73, 53]
theorem la_eq : leafN (W0.map Prod.fst) = la := by decide +kernel
theorem lv_eq : leafN (W0.map Prod.snd) = lv := by decide +kernel
theorem lb_eq : leafN W1 = lb := by decide +kernel
theorem roots : nodeN lv lb ≠ nodeN la lb := by decide +kernel
theorem nat_seed : Sh.nat (seedB 115) = sd := Sh.nat_strN _ (by intro x hx; have := List.eq_of_mem_replicate hx; omega)
def msg : ByteArray := ⟨#[109, 101, 115, 115, 97, 103, 101]⟩
def msg2 : ByteArray := ⟨#[109, 97, 115, 115, 97, 103, 101]⟩
theorem digs_msg : digs msg = dg1 := by rw [nat_digs]; exact dg1_eq
theorem digs_msg2 : digs msg2 = dg2 := by rw [nat_digs]; exact dg2_eq
theorem digs_nil : (digs ⟨#[]⟩).take 6 = [14, 3, 11, 0, 12, 4] := by rw [nat_digs]; exact dg0_eq
theorem nat_la : Sh.nat (leafOf (seedB 115) 0) = la := by
  unfold leafOf chains
  rw [nat_leaf, ← la_eq, ← w0, List.map_map, List.map_map]
  congr 1
  apply List.map_congr_left
  intro c hc
  have hc := List.mem_range.1 hc
  have := nat_ch0 (seedB 115) dg1 dg2 (by rw [← digs_msg]; exact digs_le _) (by rw [← digs_msg2]; exact digs_le _) c (by omega)
  rw [nat_seed] at this
  simp only [Function.comp_apply, this]
theorem nat_lb : Sh.nat (leafOf (seedB 115) 1) = lb := by
  unfold leafOf chains
  rw [nat_leaf, ← lb_eq, ← w1, List.map_map]
  congr 1
  apply List.map_congr_left
  intro c hc
  have hc := List.mem_range.1 hc
  have := nat_ch1 (seedB 115) c (by omega)
  rw [nat_seed] at this
  simp only [Function.comp_apply, this]
theorem nat_lv : Sh.nat (leafH (cat (verCh 0 (digs msg2) (sigCh (seedB 115) 0 (digs msg) 67) 67) ⟨#[]⟩)) = lv := by
  rw [digs_msg, digs_msg2, nat_leaf, ← lv_eq, ← w0]
  unfold verCh
  rw [List.map_map, List.map_map]
  congr 1
  apply List.map_congr_left
  intro c hc
  have hc := List.mem_range.1 hc
  have := nat_ch0 (seedB 115) dg1 dg2 (by rw [← digs_msg]; exact digs_le _) (by rw [← digs_msg2]; exact digs_le _) c (by omega)
  rw [nat_seed] at this
  have hg : (sigCh (seedB 115) 0 dg1 67).getD c ⟨#[]⟩ = wk 0 c (dg1.getD c 0) 0 (sec (seedB 115) 0 c) := by
    simp [sigCh, List.getD_eq_getElem?_getD, hc]
  simp only [Function.comp_apply, this, hg]
theorem incl_pair (a b : ByteArray) : incl [a, b] 0 = [b] := by
  have e : spl 2 = 1 := spl_two 0
  rw [incl_lt (by simp) (by simp [e])]
  have h1 : incl ([a, b].take (spl [a, b].length)) 0 = [] := by
    unfold incl
    rw [inclR_le 0 (by simp [e])]
    rfl
  have h2 : root ([a, b].drop (spl [a, b].length)) = b := by
    rw [root_le (by simp [e])]
    simp [e]
  rw [h1, h2]
  rfl
theorem root_pair (a b : ByteArray) : root [a, b] = node a b := by
  have e : spl 2 = 1 := spl_two 0
  rw [root_gt (by simp)]
  have h1 : root ([a, b].take (spl [a, b].length)) = a := by rw [root_le (by simp [e])]; simp [e]
  have h2 : root ([a, b].drop (spl [a, b].length)) = b := by rw [root_le (by simp [e])]; simp [e]
  rw [h1, h2]
theorem refused : verify (public_ (seedB 115) 1) msg2 (signed (seedB 115) 1 0 msg) = false := by
  obtain ⟨a, b, c⟩ := public_at (seedB 115) 1 (by omega)
  unfold verify
  split
  · rw [b, c]
    have e : spl 2 = 1 := spl_two 0
    have hL : leaves (seedB 115) (2 ^ 1) = [leafOf (seedB 115) 0, leafOf (seedB 115) 1] := rfl
    show included (leafH (cat (verCh 0 (digs msg2) (sigCh (seedB 115) 0 (digs msg) 67) 67) ⟨#[]⟩)) 0 2 (incl (leaves (seedB 115) (2 ^ 1)) 0) (root (leaves (seedB 115) (2 ^ 1))) = false
    rw [hL, incl_pair, root_pair]
    obtain ⟨v, hv⟩ : ∃ v, v = leafH (cat (verCh 0 (digs msg2) (sigCh (seedB 115) 0 (digs msg) 67) 67) ⟨#[]⟩) := ⟨_, rfl⟩
    have hv32 : v.size = 32 := by rw [hv]; exact H_size _
    have hn := nat_lv
    rw [← hv] at hn ⊢
    have ha32 : (leafOf (seedB 115) 0).size = 32 := H_size _
    have hb32 : (leafOf (seedB 115) 1).size = 32 := H_size _
    have ha := nat_la
    have hb := nat_lb
    have hne : node v (leafOf (seedB 115) 1) ≠ node (leafOf (seedB 115) 0) (leafOf (seedB 115) 1) := by
      intro hE
      have := congrArg Sh.nat hE
      rw [nat_node hv32 hb32, nat_node ha32 hb32, hn, ha, hb] at this
      exact roots this
    have hg : (givR v [leafOf (seedB 115) 1] 0 2).1 = node v (leafOf (seedB 115) 1) := by
      rw [givR, if_neg (by decide), if_pos (by rw [e]; decide), e, givR, if_pos rfl]
    unfold included
    split
    · show ((givR v [leafOf (seedB 115) 1] 0 2).2 && decide ((givR v [leafOf (seedB 115) 1] 0 2).1 = _)) = false
      rw [hg, decide_eq_false hne, Bool.and_false]
    · rfl
  · rfl
end Go.Proofs.Ytldkkboeaadbeaa.Sgv
end
section
/- The examples that the signatures' laws begin with hold. -/
set_option linter.unusedVariables false
set_option linter.unusedSimpArgs false
namespace Go.Proofs.Ytldkkboeaadbeaa.Sg
open Go.RowKit Go.Proofs.YtldkkboeaadbeaaW.PrintWords Go.Proofs.YtldkkboeaadbeaaW.PrintLast Go.Proofs.YtldkkboeaadbeaaW.PrintMore
theorem aw_digits (w : World) : Calls Try.prog 66 #[.string ⟨#[]⟩] w fun e w' => ∃ g c, e = .returned (.slice (some ⟨g, 0, none⟩) 67 c) ∧ 67 ≤ c ∧ g < w'.heap.size ∧ (∀ j, j < 67 → w'.cell? ⟨g, j, none⟩ = some (.int .i64 ((digs ⟨#[]⟩).getD j 0 : Nat))) ∧ Below w.heap.size w w' := by
  refine (Digits_calls ⟨#[]⟩ w (by decide)).mono ?_
  rintro e w' ⟨v, rfl, ho, hb⟩
  obtain ⟨A, c', rfl⟩ := own_slice ho
  have hcc := own_cap ho
  rw [← digs_length ⟨#[]⟩] at ho
  obtain ⟨g, c, cur, hv, _, hg, hj⟩ := ints_row ho (by rw [digs_length]; omega)
  rw [digs_length] at hv hj
  cases hv
  exact ⟨g, _, rfl, hcc, (Array.getElem?_eq_some_iff.1 hg).1, fun j hj' => (cell_of_row w' g j _ _ _ hg).trans (hj j hj'), hb⟩
theorem aw_equal (w : World) (g c : Nat) (h : ∀ j, j < 67 → w.cell? ⟨g, j, none⟩ = some (.int .i64 ((digs ⟨#[]⟩).getD j 0 : Nat))) (hg : g < w.heap.size) :
    Calls Try.prog 67 #[.slice (some ⟨g, 0, none⟩) 6 c, .slice (some ⟨w.heap.size, 0, none⟩) 6 6] (w.alloc (.cells #[.int .i64 14, .int .i64 3, .int .i64 11, .int .i64 0, .int .i64 12, .int .i64 4] 3)) fun e w' => e = .returned (.bool true) ∧ Below w.heap.size w w' := by
  have ht : ∀ j, j < 6 → (digs ⟨#[]⟩).getD j 0 = [14, 3, 11, 0, 12, 4].getD j 0 := by
    intro j hj
    have := Sgv.digs_nil
    rw [List.getD_eq_getElem?_getD, ← this, List.getD_eq_getElem?_getD, List.getElem?_take, if_pos hj]
  refine (Try.slices_Equal_int g 0 6 c w.heap.size 0 6 6 [14, 3, 11, 0, 12, 4] [14, 3, 11, 0, 12, 4] _ (by decide) (by decide) (by decide) (by decide) ?_ ?_).mono ?_
  · intro j hj
    have hj : j < 6 := hj
    rw [Nat.zero_add]
    have h1 := h j (by omega)
    rw [ht j hj] at h1
    have h2 : (w.alloc (.cells #[.int .i64 14, .int .i64 3, .int .i64 11, .int .i64 0, .int .i64 12, .int .i64 4] 3)).cell? ⟨g, j, none⟩ = w.cell? ⟨g, j, none⟩ := ((Below.refl _ _).alloc (Nat.le_refl _) _).cell (p := ⟨g, j, none⟩) hg
    rw [h2, h1]
    rcases (show j = 0 ∨ j = 1 ∨ j = 2 ∨ j = 3 ∨ j = 4 ∨ j = 5 by omega) with rfl | rfl | rfl | rfl | rfl | rfl <;> rfl
  · intro j hj
    have hj : j < 6 := hj
    rw [Nat.zero_add, cell_of_row _ _ j _ _ _ (heap_alloc_new _ _)]
    rcases (show j = 0 ∨ j = 1 ∨ j = 2 ∨ j = 3 ∨ j = 4 ∨ j = 5 by omega) with rfl | rfl | rfl | rfl | rfl | rfl <;> rfl
  · rintro e w' ⟨rfl, q, rfl⟩
    exact ⟨rfl, Sh.below_drewN ((Below.refl _ _).alloc (Nat.le_refl _) _) q⟩
theorem aw_sign (s : ByteArray) (hs : s.size = 32) (w : World) : Calls Try.prog 43 #[.agg #[.string s, .int .i64 1, .int .i64 0], .string Sgv.msg] w fun e w' => ∃ A1 c1 A2 c2, e = .returned (.tuple #[.agg #[.int .i64 0, .slice A1 67 c1, .slice A2 1 c2], .agg #[.string s, .int .i64 1, .int .i64 1], .int .i64 0]) ∧
    67 ≤ c1 ∧ 1 ≤ c2 ∧ Strs w' A1 67 (sigCh s 0 (digs Sgv.msg) 67) ∧ Strs w' A2 1 (incl (leaves s (2 ^ 1)) 0) ∧ Below w.heap.size w w' := by
  refine (Sign_yes s 1 0 Sgv.msg w hs (by omega) (by omega) (by decide)).mono ?_
  rintro e w' ⟨v1, v2, rfl, h1, h2, hb⟩
  rw [incl_two _ _ _ (by omega)] at h2
  obtain ⟨A1, c1, rfl, hc1, hr1⟩ := strs_of_own h1
  obtain ⟨A2, c2, rfl, hc2, hr2⟩ := strs_of_own h2
  exact ⟨A1, c1, A2, c2, rfl, hc1, hc2, hr1, hr2, hb⟩
theorem aw_encode (s : ByteArray) (hs : s.size = 32) (A1 : Option Addr) (c1 : Nat) (A2 : Option Addr) (c2 : Nat) (w : World) (h1 : Strs w A1 67 (sigCh s 0 (digs Sgv.msg) 67)) (hc1 : 67 ≤ c1) (h2 : Strs w A2 1 (incl (leaves s (2 ^ 1)) 0)) (hc2 : 1 ≤ c2) :
    Calls Try.prog 44 #[.agg #[.int .i64 0, .slice A1 67 c1, .slice A2 1 c2]] w fun e w' => e = .returned (.tuple #[.string (encS 0 (sigCh s 0 (digs Sgv.msg) 67) (incl (leaves s (2 ^ 1)) 0)), .int .i64 0]) ∧ Below w.heap.size w w' := by
  have l1 := sigCh_length s 0 (digs Sgv.msg) 67
  have l2 := incl_two s 1 0 (by omega)
  have hb := encB_signed s 1 0 Sgv.msg (by omega) (by omega)
  have := Encode_calls 0 A1 c1 A2 c2 (sigCh s 0 (digs Sgv.msg) 67) (incl (leaves s (2 ^ 1)) 0) w (by rw [l1]; exact h1) (by rw [l1]; exact hc1) (by rw [l2]; exact h2) (by rw [l2]; exact hc2) (by omega)
  rw [l1, l2] at this
  have hb : encB 0 (sigCh s 0 (digs Sgv.msg) 67) (incl (leaves s (2 ^ 1)) 0) := hb
  rw [if_pos hb, if_pos hb] at this
  exact this
theorem aw_decode (s : ByteArray) (hs : s.size = 32) (w : World) : Calls Try.prog 45 #[.string (encS 0 (sigCh s 0 (digs Sgv.msg) 67) (incl (leaves s (2 ^ 1)) 0))] w fun e w' => ∃ A1 c1 A2 c2, e = .returned (.tuple #[.agg #[.int .i64 0, .slice A1 67 c1, .slice A2 1 c2], .int .i64 0]) ∧
    Strs w' A1 67 (sigCh s 0 (digs Sgv.msg) 67) ∧ Strs w' A2 1 (incl (leaves s (2 ^ 1)) 0) ∧ Below w.heap.size w w' := by
  have l1 := sigCh_length s 0 (digs Sgv.msg) 67
  have l2 := incl_two s 1 0 (by omega)
  have hle := encS_le 0 (sigCh s 0 (digs Sgv.msg) 67) (incl (leaves s (2 ^ 1)) 0) (by omega) l1 (by omega) (sigCh_size _ _ _ _) (incl_size _ _ (leaves_size _ _))
  refine (Decode_yes _ w _ (Nat.le_trans hle (by omega)) (decS_signed s 1 0 Sgv.msg (by omega) (by omega))).mono ?_
  rintro e w' ⟨A1, c1, A2, c2, rfl, h1, h2, hb⟩
  unfold signed at h1 h2 ⊢
  dsimp only at h1 h2 ⊢
  rw [l1] at h1 ⊢
  rw [l2] at h2 ⊢
  have hr1 := strs_of_own h1
  have hr2 := strs_of_own h2
  obtain ⟨_, _, e1, _, r1⟩ := hr1
  obtain ⟨_, _, e2, _, r2⟩ := hr2
  cases e1
  cases e2
  exact ⟨A1, c1, A2, c2, rfl, r1, r2, hb⟩
theorem aw_verify (s m : ByteArray) (b : Bool) (hm : m.size ≤ 140737488355328) (hv : verify (public_ s 1) m (signed s 1 0 Sgv.msg) = b) (A1 : Option Addr) (c1 : Nat) (A2 : Option Addr) (c2 : Nat) (w : World) (h1 : Strs w A1 67 (sigCh s 0 (digs Sgv.msg) 67)) (hc1 : 67 ≤ c1) (h2 : Strs w A2 1 (incl (leaves s (2 ^ 1)) 0)) (hc2 : 1 ≤ c2) :
    Calls Try.prog 46 #[.string (public_ s 1), .string m, .agg #[.int .i64 0, .slice A1 67 c1, .slice A2 1 c2]] w fun e w' => e = .returned (.bool b) ∧ Below w.heap.size w w' := by
  have l1 := sigCh_length s 0 (digs Sgv.msg) 67
  have l2 := incl_two s 1 0 (by omega)
  have := Verify_calls (public_ s 1) m 0 A1 c1 A2 c2 (sigCh s 0 (digs Sgv.msg) 67) (incl (leaves s (2 ^ 1)) 0) w hm (by rw [l1]; exact h1) (by rw [l1]; exact hc1) (by rw [l2]; exact h2) (by rw [l2]; exact hc2)
  have e : (⟨0, sigCh s 0 (digs Sgv.msg) 67, incl (leaves s (2 ^ 1)) 0⟩ : Sig) = signed s 1 0 Sgv.msg := rfl
  rw [l1, l2, e, hv] at this
  exact this
theorem aw_same (ch pa : List ByteArray) (h1 : ch.length = 67) (h2 : pa.length = 1) (A1 : Option Addr) (c1 : Nat) (A2 : Option Addr) (c2 : Nat) (B1 : Option Addr) (d1 : Nat) (B2 : Option Addr) (d2 : Nat) (w : World) (ha : Strs w A1 67 ch) (hp : Strs w A2 1 pa) (hb : Strs w B1 67 ch) (hq : Strs w B2 1 pa) :
    Calls Try.prog 68 #[.agg #[.int .i64 0, .slice A1 67 c1, .slice A2 1 c2], .agg #[.int .i64 0, .slice B1 67 d1, .slice B2 1 d2]] w fun e w' => e = .returned (.bool true) ∧ Below w.heap.size w w' := by
  have := Same_calls 0 0 A1 c1 A2 c2 B1 d1 B2 d2 ch pa ch pa w (by rw [h1]; exact ha) (by rw [h2]; exact hp) (by rw [h1]; exact hb) (by rw [h2]; exact hq)
  rw [h1, h2, show samB 0 0 ch ch pa pa = true from decide_eq_true ⟨rfl, rfl, rfl⟩] at this
  exact this
/-- what lies in a box, in any world behind -/
theorem box_in {w w' : World} {T : TypeId} {cs : Array Value} (he : Ext (w.alloc (.cells cs T)) w') (j : Nat) : w'.cell? ⟨w.heap.size, j, none⟩ = cs[j]? := cell_of_row w' _ j _ _ _ (Ext.block he (heap_alloc_new _ _))
theorem box_in2 {w w' : World} {T T2 : TypeId} {cs cs2 : Array Value} (he : Ext ((w.alloc (.cells cs T)).alloc (.cells cs2 T2)) w') (j : Nat) : w'.cell? ⟨w.heap.size + 1, j, none⟩ = cs2[j]? := cell_of_row w' _ j _ _ _ (two_boxes he).2
theorem box_in1 {w w' : World} {T T2 : TypeId} {cs cs2 : Array Value} (he : Ext ((w.alloc (.cells cs T)).alloc (.cells cs2 T2)) w') (j : Nat) : w'.cell? ⟨w.heap.size, j, none⟩ = cs[j]? := cell_of_row w' _ j _ _ _ (two_boxes he).1
abbrev sigO : Obj := .cells #[.int .i64 0, .slice none 0 0, .slice none 0 0] 72
abbrev keyO : Obj := .cells #[.string ⟨#[]⟩, .int .i64 0, .int .i64 0] 67
set_option maxHeartbeats 8000000 in
theorem awake_calls (w : World) : Calls Try.prog 39 #[] w fun e w' => e = .returned (.bool true) ∧ Below w.heap.size w w' := by
  obtain ⟨s, hs⟩ : ∃ s, s = seedB 115 := ⟨_, rfl⟩
  have hs32 : s.size = 32 := by rw [hs]; exact seedB_size _
  obtain ⟨pub, hpub⟩ : ∃ p, p = public_ s 1 := ⟨_, rfl⟩
  obtain ⟨ch, hch⟩ : ∃ c, c = sigCh s 0 (digs Sgv.msg) 67 := ⟨_, rfl⟩
  obtain ⟨pa, hpa⟩ : ∃ p, p = incl (leaves s (2 ^ 1)) 0 := ⟨_, rfl⟩
  obtain ⟨en, hen⟩ : ∃ b, b = encS 0 ch pa := ⟨_, rfl⟩
  have HSeed := Lib.hid (show ∀ w', Calls Try.prog 40 #[.int .u8 115] w' fun e w'' => e = .returned (.string s) ∧ Below w'.heap.size w' w'' from fun w' => by rw [hs]; exact seed_calls 115 w' (by omega))
  have HPub := Lib.hid (show ∀ w', Calls Try.prog 41 #[.agg #[.string s, .int .i64 1, .int .i64 0]] w' fun e w'' => e = .returned (.tuple #[.string pub, .int .i64 0]) ∧ Below w'.heap.size w' w'' from fun w' => by rw [hpub]; exact Public_yes s 1 0 w' hs32 (by omega))
  have HSign := Lib.hid (show ∀ w', Calls Try.prog 43 #[.agg #[.string s, .int .i64 1, .int .i64 0], .string ⟨#[109, 101, 115, 115, 97, 103, 101]⟩] w' fun e w'' => ∃ A1 c1 A2 c2, e = .returned (.tuple #[.agg #[.int .i64 0, .slice A1 67 c1, .slice A2 1 c2], .agg #[.string s, .int .i64 1, .int .i64 1], .int .i64 0]) ∧
    67 ≤ c1 ∧ 1 ≤ c2 ∧ Strs w'' A1 67 ch ∧ Strs w'' A2 1 pa ∧ Below w'.heap.size w' w'' from fun w' => by rw [hch, hpa]; exact aw_sign s hs32 w')
  have HDig := Lib.hid aw_digits
  have HEnc := Lib.hid (show ∀ w' A1 c1 A2 c2, 67 ≤ c1 → 1 ≤ c2 → Strs w' A1 67 ch → Strs w' A2 1 pa → Calls Try.prog 44 #[.agg #[.int .i64 0, .slice A1 67 c1, .slice A2 1 c2]] w' fun e w'' => e = .returned (.tuple #[.string en, .int .i64 0]) ∧ Below w'.heap.size w' w'' from fun w' A1 c1 A2 c2 k1 k2 r1 r2 => by rw [hen]; rw [hch] at r1 ⊢; rw [hpa] at r2 ⊢; exact aw_encode s hs32 A1 c1 A2 c2 w' r1 k1 r2 k2)
  have HDec := Lib.hid (show ∀ w', Calls Try.prog 45 #[.string en] w' fun e w'' => ∃ A1 c1 A2 c2, e = .returned (.tuple #[.agg #[.int .i64 0, .slice A1 67 c1, .slice A2 1 c2], .int .i64 0]) ∧ Strs w'' A1 67 ch ∧ Strs w'' A2 1 pa ∧ Below w'.heap.size w' w'' from fun w' => by rw [hen, hch, hpa]; exact aw_decode s hs32 w')
  have HSkip := Lib.hid (show ∀ w', Calls Try.prog 42 #[.agg #[.string s, .int .i64 1, .int .i64 1], .int .i64 1] w' fun e w'' => e = .returned (.tuple #[.agg #[.string s, .int .i64 1, .int .i64 2], .int .i64 0]) ∧ Below w'.heap.size w' w'' from fun w' => Skip_yes s 1 1 1 w' hs32 (by omega) (by omega) (by omega) (by omega))
  have HFull := Lib.hid (show ∀ w', Calls Try.prog 43 #[.agg #[.string s, .int .i64 1, .int .i64 2], .string ⟨#[109, 101, 115, 115, 97, 103, 101]⟩] w' fun e w'' => e = .returned (.tuple #[.agg #[.int .i64 0, .slice none 0 0, .slice none 0 0], .agg #[.string ⟨#[]⟩, .int .i64 0, .int .i64 0], .int .i64 22]) ∧ Below w'.heap.size w' w'' from fun w' => Sign_full s 1 Sgv.msg w' hs32 (by omega))
  have HVer := Lib.hid (show ∀ w' A1 c1 A2 c2, 67 ≤ c1 → 1 ≤ c2 → Strs w' A1 67 ch → Strs w' A2 1 pa → Calls Try.prog 46 #[.string pub, .string ⟨#[109, 101, 115, 115, 97, 103, 101]⟩, .agg #[.int .i64 0, .slice A1 67 c1, .slice A2 1 c2]] w' fun e w'' => e = .returned (.bool true) ∧ Below w'.heap.size w' w'' from fun w' A1 c1 A2 c2 k1 k2 r1 r2 => by rw [hpub]; rw [hch] at r1; rw [hpa] at r2; exact aw_verify s Sgv.msg true (by decide) (verify_signed s 1 0 Sgv.msg (by omega) (by omega)) A1 c1 A2 c2 w' r1 k1 r2 k2)
  have HRef := Lib.hid (show ∀ w' A1 c1 A2 c2, 67 ≤ c1 → 1 ≤ c2 → Strs w' A1 67 ch → Strs w' A2 1 pa → Calls Try.prog 46 #[.string pub, .string ⟨#[109, 97, 115, 115, 97, 103, 101]⟩, .agg #[.int .i64 0, .slice A1 67 c1, .slice A2 1 c2]] w' fun e w'' => e = .returned (.bool false) ∧ Below w'.heap.size w' w'' from fun w' A1 c1 A2 c2 k1 k2 r1 r2 => by rw [hpub]; rw [hch] at r1; rw [hpa] at r2; exact aw_verify s Sgv.msg2 false (by decide) (by rw [hs]; exact Sgv.refused) A1 c1 A2 c2 w' r1 k1 r2 k2)
  have HSame := Lib.hid (aw_same ch pa (by rw [hch]; exact sigCh_length _ _ _ _) (by rw [hpa]; exact incl_two s 1 0 (by omega)))
  have HEq := Lib.hid aw_equal
  have HP := Lib.hid (show pub.size = 33 ∧ ∃ h : 32 < pub.size, (pub[32]'h) = 1 by
    obtain ⟨a, b, _⟩ := public_at s 1 (by omega)
    rw [← hpub] at a b
    refine ⟨a, by omega, ?_⟩
    have e := hgt_eq (pub := pub) (by omega)
    rw [b] at e
    exact UInt8.toNat_inj.1 e.symm)
  clear hs hs32 hpub hch hpa hen
  go_enter Try.func39, Try.ntmps39
  go_wp2_with fail
  refine (HSeed.out _).mono ?_
  rintro e w1 ⟨rfl, hb1⟩
  have E1 := Lib.hid (Ext.call (Ext.refl w) hb1)
  clear hb1
  go_wp2_with fail
  refine (HPub.out _).mono ?_
  rintro e w2 ⟨rfl, hb2⟩
  have E2 := Lib.hid (Ext.call (Ext.alloc E1.out _) hb2)
  have k0 := box_in hb2 0
  have k1 := box_in hb2 1
  have k2 := box_in hb2 2
  clear hb2
  go_wp2_with fail
  refine (HSign.out _).mono ?_
  rintro e w3 ⟨A1, c1, A2, c2, rfl, hc1, hc2, hr1, hr2, hb3⟩
  have E3 := Lib.hid (Ext.call E2.out hb3)
  have R1 := Lib.hid hr1
  have R2 := Lib.hid hr2
  have C1 := Lib.hid hc1
  have C2 := Lib.hid hc2
  clear hb3 k0 k1 k2 hr1 hr2 hc1 hc2
  go_wp2_with fail
  refine (HDig.out _).mono ?_
  rintro e w4 ⟨g, cD, rfl, hcD, hgl, hcj, hb4⟩
  have G := Lib.hid hcj
  have GL := Lib.hid hgl
  have EB4 := Lib.hid hb4
  have E4 := Lib.hid (Ext.call (Ext.alloc (Ext.alloc E3.out _) _) hb4)
  have X4 := Lib.hid (Ext.call (Ext.alloc (Ext.alloc (Ext.refl w3) _) _) hb4)
  have k0 := box_in1 hb4 0
  have k1 := box_in1 hb4 1
  have k2 := box_in1 hb4 2
  clear hcj hgl hb4
  go_wp2_with fail
  refine (HEnc.out _ _ _ _ _ C1.out C2.out (strs_ext R1.out X4.out) (strs_ext R2.out X4.out)).mono ?_
  rintro e w5 ⟨rfl, hb5⟩
  have E5 := Lib.hid (Ext.call E4.out hb5)
  have X5 := Lib.hid (Ext.call X4.out hb5)
  have EB5 := Lib.hid (Ext.call (show Ext _ _ from EB4.out) hb5)
  have Y5 := Lib.hid (Ext.call (Ext.refl w4) hb5)
  clear hb5 k0 k1 k2
  go_wp2_with fail
  refine (HDec.out _).mono ?_
  rintro e w6 ⟨B1, d1, B2, d2, rfl, hs1, hs2, hb6⟩
  have S1 := Lib.hid hs1
  have S2 := Lib.hid hs2
  have E6 := Lib.hid (Ext.call E5.out hb6)
  have X6 := Lib.hid (Ext.call X5.out hb6)
  have EB6 := Lib.hid (Ext.call (show Ext _ _ from EB5.out) hb6)
  have Y6 := Lib.hid (Ext.call Y5.out hb6)
  have k0 := box_in2 (Ext.alloc EB6.out (.cells #[.int .i64 0, .slice B1 67 d1, .slice B2 1 d2] 72)) 0
  have k1 := box_in2 (Ext.alloc EB6.out (.cells #[.int .i64 0, .slice B1 67 d1, .slice B2 1 d2] 72)) 1
  have k2 := box_in2 (Ext.alloc EB6.out (.cells #[.int .i64 0, .slice B1 67 d1, .slice B2 1 d2] 72)) 2
  clear hb6 hs1 hs2
  go_wp2_with fail
  refine (HSkip.out _).mono ?_
  rintro e w7 ⟨rfl, hb7⟩
  have E7 := Lib.hid (Ext.call (Ext.alloc E6.out _) hb7)
  have X7 := Lib.hid (Ext.call (Ext.alloc X6.out _) hb7)
  have EB7 := Lib.hid (Ext.call (Ext.alloc EB6.out _) hb7)
  have Y7 := Lib.hid (Ext.call (Ext.alloc Y6.out _) hb7)
  have EC7 := Lib.hid hb7
  clear hb7 k0 k1 k2
  go_wp2_with fail
  refine (HFull.out _).mono ?_
  rintro e w8 ⟨rfl, hb8⟩
  have E8 := Lib.hid (Ext.alloc (Ext.alloc (Ext.call (Ext.alloc E7.out _) hb8) sigO) keyO)
  have X8 := Lib.hid (Ext.alloc (Ext.alloc (Ext.call (Ext.alloc X7.out _) hb8) sigO) keyO)
  have EB8 := Lib.hid (Ext.alloc (Ext.alloc (Ext.call (Ext.alloc EB7.out _) hb8) sigO) keyO)
  have Y8 := Lib.hid (Ext.alloc (Ext.alloc (Ext.call (Ext.alloc Y7.out _) hb8) sigO) keyO)
  have EC8 := Lib.hid (Ext.alloc (Ext.alloc (Ext.call (Ext.alloc (show Ext _ _ from EC7.out) _) hb8) sigO) keyO)
  have k2 := box_in2 EB8.out 2
  clear hb8
  obtain ⟨hp33, hp32, hp1⟩ := HP.out
  have q1 : (32 < pub.size) = True := eq_true hp32
  have q2 : (6 ≤ (cD : Int)) = True := eq_true (by omega)
  have he := HEq.out ((w8.alloc sigO).alloc keyO) g cD (fun j hj => ((Y8.out.below).cell (p := ⟨g, j, none⟩) GL.out).trans (G.out j hj)) (Nat.lt_of_lt_of_le GL.out Y8.out.below.size)
  simp only [World.size_alloc] at he
  go_wp2_with fail
  refine he.mono ?_
  clear he k2
  rintro e w9 ⟨rfl, hb9⟩
  have hb9 : Ext ((w8.alloc sigO).alloc keyO) w9 := by show Below _ _ _; simp only [World.size_alloc]; exact hb9
  have E9 := Lib.hid (Ext.call E8.out hb9)
  have X9 := Lib.hid (Ext.call X8.out hb9)
  have EB9 := Lib.hid (Ext.call (show Ext _ _ from EB8.out) hb9)
  have Y9 := Lib.hid (Ext.call Y8.out hb9)
  have EC9 := Lib.hid (Ext.call (show Ext _ _ from EC8.out) hb9)
  clear hb9
  have k0 := box_in1 EB9.out 0
  have k1 := box_in1 EB9.out 1
  have k2 := box_in1 EB9.out 2
  go_wp2_with fail
  refine (HVer.out _ _ _ _ _ C1.out C2.out (strs_ext R1.out X9.out) (strs_ext R2.out X9.out)).mono ?_
  rintro e w10 ⟨rfl, hb10⟩
  have E10 := Lib.hid (Ext.call E9.out hb10)
  have X10 := Lib.hid (Ext.call X9.out hb10)
  have EB10 := Lib.hid (Ext.call (show Ext _ _ from EB9.out) hb10)
  have EC10 := Lib.hid (Ext.call (show Ext _ _ from EC9.out) hb10)
  clear hb10 k0 k1 k2
  have k0 := box_in1 EB10.out 0
  have k1 := box_in1 EB10.out 1
  have k2 := box_in1 EB10.out 2
  go_wp2_with fail
  refine (HRef.out _ _ _ _ _ C1.out C2.out (strs_ext R1.out X10.out) (strs_ext R2.out X10.out)).mono ?_
  rintro e w11 ⟨rfl, hb11⟩
  have E11 := Lib.hid (Ext.call E10.out hb11)
  have X11 := Lib.hid (Ext.call X10.out hb11)
  have EB11 := Lib.hid (Ext.call (show Ext _ _ from EB10.out) hb11)
  have EC11 := Lib.hid (Ext.call (show Ext _ _ from EC10.out) hb11)
  have Z11 := Lib.hid (Ext.out (show Ext _ _ from EC11.out))
  clear hb11 k0 k1 k2
  have k0 := box_in1 EB11.out 0
  have k1 := box_in1 EB11.out 1
  have k2 := box_in1 EB11.out 2
  have k3 := box_in EC11.out 0
  have k4 := box_in EC11.out 1
  have k5 := box_in EC11.out 2
  go_wp2_with fail
  refine (HSame.out _ _ _ _ _ _ _ _ _ (strs_ext S1.out Z11.out) (strs_ext S2.out Z11.out) (strs_ext R1.out X11.out) (strs_ext R2.out X11.out)).mono ?_
  rintro e w12 ⟨rfl, hb12⟩
  have E12 := Lib.hid (Ext.call E11.out hb12)
  clear hb12 k0 k1 k2 k3 k4 k5
  go_wp2
  go_ret
  exact ⟨rfl, E12.out⟩
end Go.Proofs.Ytldkkboeaadbeaa.Sg
end
section
/- What is signed, encoded, decoded, checked: for any key and message. -/
set_option linter.unusedVariables false
set_option linter.unusedSimpArgs false
namespace Go.Proofs.Ytldkkboeaadbeaa.Sg
open Go.RowKit Go.Proofs.YtldkkboeaadbeaaW.PrintWords Go.Proofs.YtldkkboeaadbeaaW.PrintLast Go.Proofs.YtldkkboeaadbeaaW.PrintMore
abbrev gch (s : ByteArray) (k : Nat) (m : ByteArray) : List ByteArray := sigCh s k (digs m) 67
abbrev gpa (s : ByteArray) (h k : Nat) : List ByteArray := incl (leaves s (2 ^ h)) k
theorem g_sign (s : ByteArray) (hs : s.size = 32) (h k : Nat) (h6 : h ≤ 6) (hk : k < 2 ^ h) (m : ByteArray) (hm : m.size ≤ 140737488355328) (w : World) : Calls Try.prog 43 #[.agg #[.string s, .int .i64 h, .int .i64 k], .string m] w fun e w' => ∃ A1 c1 A2 c2, e = .returned (.tuple #[.agg #[.int .i64 k, .slice A1 67 c1, .slice A2 h c2], .agg #[.string s, .int .i64 h, .int .i64 ((k : Int) + 1)], .int .i64 0]) ∧
    67 ≤ c1 ∧ h ≤ c2 ∧ Strs w' A1 67 (gch s k m) ∧ Strs w' A2 h (gpa s h k) ∧ Below w.heap.size w w' := by
  refine (Sign_yes s h k m w hs h6 hk hm).mono ?_
  rintro e w' ⟨v1, v2, rfl, h1, h2, hb⟩
  rw [incl_two _ _ _ hk] at h2
  obtain ⟨A1, c1, rfl, hc1, hr1⟩ := strs_of_own h1
  obtain ⟨A2, c2, rfl, hc2, hr2⟩ := strs_of_own h2
  exact ⟨A1, c1, A2, c2, rfl, hc1, hc2, hr1, hr2, hb⟩
theorem g_encode (s : ByteArray) (h k : Nat) (h6 : h ≤ 6) (hk : k < 2 ^ h) (m : ByteArray) (A1 : Option Addr) (c1 : Nat) (A2 : Option Addr) (c2 : Nat) (w : World) (h1 : Strs w A1 67 (gch s k m)) (hc1 : 67 ≤ c1) (h2 : Strs w A2 h (gpa s h k)) (hc2 : h ≤ c2) :
    Calls Try.prog 44 #[.agg #[.int .i64 k, .slice A1 67 c1, .slice A2 h c2]] w fun e w' => e = .returned (.tuple #[.string (encS k (gch s k m) (gpa s h k)), .int .i64 0]) ∧ Below w.heap.size w w' := by
  have l1 := sigCh_length s k (digs m) 67
  have l2 := incl_two s h k hk
  have h64 := pow_le_64 h6
  have hb := encB_signed s h k m h6 hk
  have := Encode_calls k A1 c1 A2 c2 (gch s k m) (gpa s h k) w (by rw [l1]; exact h1) (by rw [l1]; exact hc1) (by rw [l2]; exact h2) (by rw [l2]; exact hc2) (by omega)
  rw [l1, l2, if_pos hb, if_pos hb] at this
  exact this
theorem g_decode (s : ByteArray) (h k : Nat) (h6 : h ≤ 6) (hk : k < 2 ^ h) (m : ByteArray) (w : World) : Calls Try.prog 45 #[.string (encS k (gch s k m) (gpa s h k))] w fun e w' => ∃ A1 c1 A2 c2, e = .returned (.tuple #[.agg #[.int .i64 k, .slice A1 67 c1, .slice A2 h c2], .int .i64 0]) ∧
    67 ≤ c1 ∧ h ≤ c2 ∧ Strs w' A1 67 (gch s k m) ∧ Strs w' A2 h (gpa s h k) ∧ Below w.heap.size w w' := by
  have l1 := sigCh_length s k (digs m) 67
  have l2 := incl_two s h k hk
  have h64 := pow_le_64 h6
  have hle := encS_le k (gch s k m) (gpa s h k) (by omega) l1 (by rw [l2]; exact h6) (sigCh_size _ _ _ _) (incl_size _ _ (leaves_size _ _))
  refine (Decode_yes _ w _ (Nat.le_trans hle (by omega)) (decS_signed s h k m h6 hk)).mono ?_
  rintro e w' ⟨A1, c1, A2, c2, rfl, h1, h2, hb⟩
  unfold signed at h1 h2 ⊢
  dsimp only at h1 h2 ⊢
  rw [l1] at h1 ⊢
  rw [l2] at h2 ⊢
  obtain ⟨_, _, e1, k1, r1⟩ := strs_of_own h1
  obtain ⟨_, _, e2, k2, r2⟩ := strs_of_own h2
  cases e1
  cases e2
  exact ⟨A1, c1, A2, c2, rfl, k1, k2, r1, r2, hb⟩
theorem g_verify (s : ByteArray) (h k : Nat) (h6 : h ≤ 6) (hk : k < 2 ^ h) (m : ByteArray) (hm : m.size ≤ 140737488355328) (A1 : Option Addr) (c1 : Nat) (A2 : Option Addr) (c2 : Nat) (w : World) (h1 : Strs w A1 67 (gch s k m)) (hc1 : 67 ≤ c1) (h2 : Strs w A2 h (gpa s h k)) (hc2 : h ≤ c2) :
    Calls Try.prog 46 #[.string (public_ s h), .string m, .agg #[.int .i64 k, .slice A1 67 c1, .slice A2 h c2]] w fun e w' => e = .returned (.bool true) ∧ Below w.heap.size w w' := by
  have l1 := sigCh_length s k (digs m) 67
  have l2 := incl_two s h k hk
  have := Verify_calls (public_ s h) m k A1 c1 A2 c2 (gch s k m) (gpa s h k) w hm (by rw [l1]; exact h1) (by rw [l1]; exact hc1) (by rw [l2]; exact h2) (by rw [l2]; exact hc2)
  have e : (⟨k, gch s k m, gpa s h k⟩ : Sig) = signed s h k m := rfl
  rw [l1, l2, e, verify_signed s h k m h6 hk] at this
  exact this
/-- a box of three cells, written anew -/
theorem box_store3 {w W : World} {T : TypeId} {a b c x y z : Value} (he : Ext (w.alloc (.cells #[a, b, c] T)) W) :
    (((W.setCell ⟨w.heap.size, 0, none⟩ x).setCell ⟨w.heap.size, 1, none⟩ y).setCell ⟨w.heap.size, 2, none⟩ z).heap[w.heap.size]? = some (.cells #[x, y, z] T) ∧ Ext w (((W.setCell ⟨w.heap.size, 0, none⟩ x).setCell ⟨w.heap.size, 1, none⟩ y).setCell ⟨w.heap.size, 2, none⟩ z) := by
  have h0 := Ext.block he (heap_alloc_new _ _)
  exact ⟨heap_setCell_same _ _ _ _ _ _ (heap_setCell_same _ _ _ _ _ _ (heap_setCell_same _ _ _ _ _ _ h0)), (((Ext.out he).setCell (p := ⟨w.heap.size, 0, none⟩) (Nat.le_refl _) _).setCell (p := ⟨w.heap.size, 1, none⟩) (Nat.le_refl _) _).setCell (p := ⟨w.heap.size, 2, none⟩) (Nat.le_refl _) _⟩
end Go.Proofs.Ytldkkboeaadbeaa.Sg
end
section
/- SignatureAccepts: the walk. -/
set_option linter.unusedVariables false
set_option linter.unusedSimpArgs false
namespace Go.Proofs.Ytldkkboeaadbeaa.Sg
open Go.RowKit Go.Proofs.YtldkkboeaadbeaaW.PrintWords Go.Proofs.YtldkkboeaadbeaaW.PrintLast Go.Proofs.YtldkkboeaadbeaaW.PrintMore
attribute [local go_sem] Sd.pureq Sd.pureAt Sd.pureUpon
set_option maxHeartbeats 8000000 in
theorem Accepts_calls (b hh sk : Nat) (m : ByteArray) (w : World) (hb : b < 256) (hh2 : hh < 256) (hsk : sk < 256) :
    Calls Try.prog 10 #[.int .u8 b, .int .u8 hh, .int .u8 sk, .string m] w fun e w' => e = .returned (.bool true) ∧ Below w.heap.size w w' := by
  have HAw := Lib.hid awake_calls
  by_cases hlen : 200 < m.size
  · have t1 : decide ((200 : Int) < (m.size : Int)) = true := decide_eq_true (by omega)
    go_enter Try.func10, Try.ntmps10
    go_wp2_with fail
    refine (HAw.out _).mono ?_
    rintro e w1 ⟨rfl, hb1⟩
    have E1 := Lib.hid (Ext.call (Ext.refl w) hb1)
    clear hb1
    go_wp2
    go_ret
    exact ⟨rfl, E1.out⟩
  · have t1 : decide ((200 : Int) < (m.size : Int)) = false := decide_eq_false (by omega)
    obtain ⟨h, hh'⟩ : ∃ h, h = hh % 3 := ⟨_, rfl⟩
    have h3 : h ≤ 2 := by omega
    have hc3 : ((hh : Int) % 3) = (h : Int) := by omega
    clear hh'
    have hpw := pow_wrap' (show h ≤ 6 by omega)
    have hN1 := Nat.two_pow_pos h
    have hN4 : 2 ^ h ≤ 4 := Nat.pow_le_pow_right (n := 2) (by omega) h3
    obtain ⟨N, hN⟩ : ∃ N, N = 2 ^ h := ⟨_, rfl⟩
    rw [← hN] at hpw hN1 hN4
    have HN := Lib.hid hN
    clear hN
    have hw1 : IntKind.i64.wrap (sk : Int) = (sk : Int) := IntWalk.i64_in _ (by omega)
    obtain ⟨c, hc⟩ : ∃ c, c = sk % N := ⟨_, rfl⟩
    have hcN : c < N := by rw [hc]; exact Nat.mod_lt _ hN1
    have htm : (sk : Int).tmod (N : Int) = (c : Int) := by rw [Int.tmod_eq_emod_of_nonneg (by omega), hc]; simp
    clear hc
    have hNz : (N = 0) = False := eq_false (by omega)
    obtain ⟨s, hs⟩ : ∃ s, s = seedB b := ⟨_, rfl⟩
    have hs32 : s.size = 32 := by rw [hs]; exact seedB_size _
    have HSeed := Lib.hid (show ∀ w', Calls Try.prog 40 #[.int .u8 b] w' fun e w'' => e = .returned (.string s) ∧ Below w'.heap.size w' w'' from fun w' => by rw [hs]; exact seed_calls b w' hb)
    have HPub := Lib.hid (show ∀ w', Calls Try.prog 41 #[keyV s h 0] w' fun e w'' => e = .returned (.tuple #[.string (public_ s h), .int .i64 0]) ∧ Below w'.heap.size w' w'' from fun w' => Public_yes s h 0 w' hs32 (by omega))
    have HSkip := Lib.hid (show ∀ w', Calls Try.prog 42 #[keyV s h 0, .int .i64 c] w' fun e w'' => e = .returned (.tuple #[keyV s h c, .int .i64 0]) ∧ Below w'.heap.size w' w'' from fun w' => by
      have := Skip_yes s h 0 c w' hs32 (by omega) (Nat.zero_le _) (by omega) (by rw [← HN.out, Nat.sub_zero]; exact Nat.le_of_lt hcN)
      rw [Nat.zero_add] at this
      exact this)
    have hcN2 : c < 2 ^ h := by rw [← HN.out]; exact hcN
    have hm2 : m.size ≤ 140737488355328 := by omega
    obtain ⟨ch, hch⟩ : ∃ x, x = gch s c m := ⟨_, rfl⟩
    obtain ⟨pa, hpa⟩ : ∃ x, x = gpa s h c := ⟨_, rfl⟩
    obtain ⟨en, hen⟩ : ∃ x, x = encS c (gch s c m) (gpa s h c) := ⟨_, rfl⟩
    obtain ⟨pub, hpub⟩ : ∃ x, x = public_ s h := ⟨_, rfl⟩
    rw [← hpub] at HPub
    have HSign := Lib.hid (fun w => g_sign s hs32 h c (by omega) hcN2 m hm2 w)
    have HEnc := Lib.hid (fun A1 c1 A2 c2 w => g_encode s h c (by omega) hcN2 m A1 c1 A2 c2 w)
    have HDec := Lib.hid (fun w => g_decode s h c (by omega) hcN2 m w)
    have HVer := Lib.hid (fun A1 c1 A2 c2 w => g_verify s h c (by omega) hcN2 m hm2 A1 c1 A2 c2 w)
    rw [← hen] at HDec HEnc
    rw [← hpub] at HVer
    rw [← hch, ← hpa] at HSign HEnc HDec HVer
    have hcw : IntKind.i64.wrap ((c : Int) + 1) = (c : Int) + 1 := IntWalk.i64_in _ (by omega)
    clear hs hcN2 hch hpa hen hpub
    go_enter Try.func10, Try.ntmps10
    go_wp2_with fail
    refine (HAw.out _).mono ?_
    rintro e w1 ⟨rfl, hb1⟩
    have E1 := Lib.hid (Ext.call (Ext.refl w) hb1)
    clear hb1
    go_wp2_with fail
    refine (HSeed.out _).mono ?_
    rintro e w2 ⟨rfl, hb2⟩
    have E2 := Lib.hid (Ext.call E1.out hb2)
    clear hb2
    go_wp2_with fail
    refine (HPub.out _).mono ?_
    rintro e w3 ⟨rfl, hb3⟩
    have E3 := Lib.hid (Ext.call (Ext.alloc E2.out _) hb3)
    have EA3 := Lib.hid hb3
    clear hb3
    go_wp2
    refine Sd.regionC (fun w' => Ext (w2.alloc (.cells #[.string s, .int .i64 h, .int .i64 0] 67)) w') [(0, 1), (1, 0), (2, 0), (3, 0), (4, 1), (5, 0), (6, 0), (7, 2), (8, 0), (9, 0), (10, 0), (11, 3), (12, 0)] (by kernel_rfl) (by kernel_rfl) (Ext.drew EA3.out) ?_
    (refine Sd.s1 rfl (fun K hK => ?_); go_simp; refine ⟨keyV s h 0, fun w' hw' => (by have k0 := box_in hw' 0; have k1 := box_in hw' 1; have k2 := box_in hw' 2; simp at k0 k1 k2; simp [k0, k1, k2, Result.andThen]), hK _ ?_⟩; clear hK K)
    (refine Sd.s0 rfl (fun K hK => ?_); go_simp; refine hK _ ?_; clear hK K)
    (refine Sd.s0 rfl (fun K hK => ?_); go_simp; refine hK _ ?_; clear hK K)
    (refine Sd.s0 rfl (fun K hK => ?_); go_simp; refine hK _ ?_; clear hK K)
    (refine Sd.s1 rfl (fun K hK => ?_); go_simp; refine ⟨.int .i64 h, fun w' hw' => (by have k1 := box_in hw' 1; simp at k1; simp [k1, Result.andThen]), hK _ ?_⟩; clear hK K)
    (refine Sd.s0 rfl (fun K hK => ?_); go_simp; refine hK _ ?_; clear hK K)
    (refine Sd.s0 rfl (fun K hK => ?_); go_simp; refine hK _ ?_; clear hK K)
    (refine Sd.s2 rfl (fun K hK => ?_); go_simp; refine (HSkip.out _).mono ?_; rintro e w4 ⟨rfl, hb4⟩; have E4 := Lib.hid (Ext.call E3.out.drew hb4); have EA4 := Ext.call (Ext.drew EA3.out) hb4; refine hK _ _ EA4 ?_; clear hK K)
    (refine Sd.s0 rfl (fun K hK => ?_); go_simp; refine hK _ ?_; clear hK K)
    (refine Sd.s0 rfl (fun K hK => ?_); go_simp; refine hK _ ?_; clear hK K)
    (refine Sd.s0 rfl (fun K hK => ?_); go_simp; refine hK _ ?_; clear hK K)
    have k0 := box_in EA4 0
    have k1 := box_in EA4 1
    have k2 := box_in EA4 2
    have f0 := frozen_of_row w4 w2.heap.size 0 _ _ (Ext.block EA4 (heap_alloc_new _ _))
    have f1 := frozen_of_row w4 w2.heap.size 1 _ _ (Ext.block EA4 (heap_alloc_new _ _))
    have f2 := frozen_of_row w4 w2.heap.size 2 _ _ (Ext.block EA4 (heap_alloc_new _ _))
    simp only [List.getElem?_toArray, List.getElem?_cons_zero, List.getElem?_cons_succ] at k0 k1 k2
    have BS := @box_store3 w2 w4 _ _ _ _ (.string s) (.int .i64 h) (.int .i64 c) EA4
    refine Sd.s3 rfl (fun K hK => ?_)
    go_simp
    obtain ⟨W4, hW4⟩ : ∃ W, W = (((w4.setCell ⟨w2.heap.size, 0, none⟩ (.string s)).setCell ⟨w2.heap.size, 1, none⟩ (.int .i64 h)).setCell ⟨w2.heap.size, 2, none⟩ (.int .i64 c)) := ⟨_, rfl⟩
    rw [← hW4] at BS ⊢
    refine hK _ _ ?_
    clear hK K k0 k1 k2 f0 f1 f2 hW4
    (refine Sd.s0 rfl (fun K hK => ?_); go_simp; refine hK _ ?_; clear hK K)
    refine Sd.nilC ?_
    have EW := Lib.hid (Ext.call E2.out BS.2)
    have k0 := cell_of_row _ _ 0 _ _ _ BS.1
    have k1 := cell_of_row _ _ 1 _ _ _ BS.1
    have k2 := cell_of_row _ _ 2 _ _ _ BS.1
    go_wp2_with fail
    refine (HSign.out _).mono ?_
    rintro e w5 ⟨A1, c1, A2, c2, rfl, hc1, hc2, hr1, hr2, hb5⟩
    have EB5 := Lib.hid (Ext.refl ((w5.alloc (.cells #[.int .i64 c, .slice A1 67 c1, .slice A2 h c2] 72)).alloc (.cells #[.string s, .int .i64 h, .int .i64 ((c : Int) + 1)] 67)))
    have E5 := Lib.hid (Ext.alloc (Ext.alloc (Ext.call EW.out hb5) (.cells #[.int .i64 c, .slice A1 67 c1, .slice A2 h c2] 72)) (.cells #[.string s, .int .i64 h, .int .i64 ((c : Int) + 1)] 67))
    have X5 := Lib.hid (Ext.alloc (Ext.alloc (Ext.refl w5) (.cells #[.int .i64 c, .slice A1 67 c1, .slice A2 h c2] 72)) (.cells #[.string s, .int .i64 h, .int .i64 ((c : Int) + 1)] 67))
    have KB5 := Lib.hid (Ext.block X5.out (Ext.block hb5 BS.1))
    have R1 := Lib.hid hr1
    have R2 := Lib.hid hr2
    have C1 := Lib.hid hc1
    have C2 := Lib.hid hc2
    clear hb5 hr1 hr2 hc1 hc2 k0 k1 k2 BS
    have k0 := box_in1 EB5.out 0
    have k1 := box_in1 EB5.out 1
    have k2 := box_in1 EB5.out 2
    go_wp2_with fail
    refine (HEnc.out _ _ _ _ _ (strs_ext R1.out X5.out) C1.out (strs_ext R2.out X5.out) C2.out).mono ?_
    rintro e w6 ⟨rfl, hb6⟩
    have E6 := Lib.hid (Ext.call E5.out hb6)
    have X6 := Lib.hid (Ext.call X5.out hb6)
    have EB6 := Lib.hid (Ext.call EB5.out hb6)
    have KB6 := Lib.hid (Ext.block hb6 KB5.out)
    clear hb6 k0 k1 k2
    go_wp2_with fail
    refine (HDec.out _).mono ?_
    rintro e w7 ⟨B1, d1, B2, d2, rfl, hd1, hd2, hs1, hs2, hb7⟩
    have Z7 := Lib.hid (Ext.alloc (Ext.refl w7) (.cells #[.int .i64 c, .slice B1 67 d1, .slice B2 h d2] 72))
    have ZB7 := Lib.hid (Ext.refl (w7.alloc (.cells #[.int .i64 c, .slice B1 67 d1, .slice B2 h d2] 72)))
    have E7 := Lib.hid (Ext.call (Ext.call E6.out hb7) Z7.out)
    have X7 := Lib.hid (Ext.call (Ext.call X6.out hb7) Z7.out)
    have EB7 := Lib.hid (Ext.call (Ext.call EB6.out hb7) Z7.out)
    have KB7 := Lib.hid (Ext.block Z7.out (Ext.block hb7 KB6.out))
    have S1 := Lib.hid hs1
    have S2 := Lib.hid hs2
    have D1 := Lib.hid hd1
    have D2 := Lib.hid hd2
    clear hb7 hs1 hs2 hd1 hd2
    have k0 := box_in1 EB7.out 0
    have k1 := box_in1 EB7.out 1
    have k2 := box_in1 EB7.out 2
    have k3 := box_in2 EB7.out 2
    have k4 := cell_of_row _ _ 2 _ _ _ KB7.out
    go_wp2_with fail
    refine (HVer.out _ _ _ _ _ (strs_ext R1.out X7.out) C1.out (strs_ext R2.out X7.out) C2.out).mono ?_
    rintro e w8 ⟨rfl, hb8⟩
    have E8 := Lib.hid (Ext.call E7.out hb8)
    have Z8 := Lib.hid (Ext.call Z7.out hb8)
    have ZB8 := Lib.hid (Ext.call ZB7.out hb8)
    clear hb8 k0 k1 k2 k3 k4
    have k0 := box_in ZB8.out 0
    have k1 := box_in ZB8.out 1
    have k2 := box_in ZB8.out 2
    go_wp2_with fail
    refine (HVer.out _ _ _ _ _ (strs_ext S1.out Z8.out) D1.out (strs_ext S2.out Z8.out) D2.out).mono ?_
    rintro e w9 ⟨rfl, hb9⟩
    have E9 := Lib.hid (Ext.call E8.out hb9)
    clear hb9 k0 k1 k2
    go_wp2
    go_ret
    exact ⟨rfl, E9.out⟩
theorem SignatureAccepts_direct (a0 a1 a2 : Int) (m : ByteArray) (w : World) (h0 : 0 ≤ a0) (h1 : a0 ≤ 255) (h2 : 0 ≤ a1) (h3 : a1 ≤ 255) (h4 : 0 ≤ a2) (h5 : a2 ≤ 255) :
    Calls Try.prog 10 #[.int .u8 a0, .int .u8 a1, .int .u8 a2, .string m] w fun e w' => e = .returned (.bool true) ∧ Below w.heap.size w w' := by
  obtain ⟨b, rfl⟩ := Int.eq_ofNat_of_zero_le h0
  obtain ⟨hh, rfl⟩ := Int.eq_ofNat_of_zero_le h2
  obtain ⟨sk, rfl⟩ := Int.eq_ofNat_of_zero_le h4
  exact Accepts_calls b hh sk m w (by omega) (by omega) (by omega)
end Go.Proofs.Ytldkkboeaadbeaa.Sg
end
