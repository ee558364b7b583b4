/- SgR, SgI, SgG, SgH -/
import Derived.Test.YtldkkboeaadbeaaMa6
import Derived.Lib.ItoaNum
section
/- The tree of hashes in the program: split, root, Root, inclusion, Inclusion, given, Included. -/
set_option linter.unusedVariables false
set_option linter.unusedSimpArgs false
namespace Go.Proofs.Ytldkkboeaadbeaa.Sg
open Go.RowKit Go.Proofs.YtldkkboeaadbeaaW.PrintWords Go.Proofs.YtldkkboeaadbeaaW.PrintLast Go.Proofs.YtldkkboeaadbeaaW.PrintMore
attribute [local go_sem] Sd.pureq Sd.pureAt Sd.pureUpon
theorem bitLen_log2 {m : Nat} (h0 : m ≠ 0) (h : m < 18446744073709551616) : Lib.bitLen m = Nat.log2 m + 1 := by
  obtain ⟨h1, h2, h3⟩ := Lib.bitLenAux_bounds 64 m (by omega) h0
  show Lib.bitLenAux 64 m = _
  have h4 := (Nat.le_log2 h0).2 h2
  have h5 := (Nat.log2_lt h0).2 h3
  omega
theorem log2_lt40 {m : Nat} (h0 : m ≠ 0) (h : m < 1099511627776) : Nat.log2 m < 40 := (Nat.log2_lt h0).2 h
set_option maxHeartbeats 1000000 in
theorem split_calls (n : Nat) (w : World) (h2 : 2 ≤ n) (hn : n ≤ 1099511627776) :
    Calls Try.prog 113 #[.int .i64 (n : Int)] w fun e w' => e = .returned (.int .i64 (spl n : Int)) ∧ w = w' := by
  obtain ⟨m, rfl⟩ : ∃ m, n = m + 1 := ⟨n - 1, by omega⟩
  obtain ⟨q, hq⟩ : ∃ q, q = Nat.log2 m := ⟨_, rfl⟩
  have hq40 : q < 40 := by rw [hq]; exact log2_lt40 (by omega) (by omega)
  have hb : Lib.bitLen m = q + 1 := by rw [hq]; exact bitLen_log2 (by omega) (by omega)
  have hs : spl (m + 1) = 2 ^ q := by rw [hq]; rfl
  have hp : 2 ^ q < 2 ^ 40 := Nat.pow_lt_pow_right (by decide) hq40
  have HC := Lib.hid (Try.bits_Len (m : Int) w (by omega) (by omega))
  rw [Int.toNat_natCast, hb] at HC
  have HS := Lib.hid hs
  have e1 : ((m + 1 : Nat) : Int) - 1 = (m : Int) := by omega
  have e2 : IntKind.u64.wrap (m : Int) = (m : Int) := IntWalk.u64_in _ (by omega)
  have e3 : ((q + 1 : Nat) : Int) - 1 = (q : Int) := by omega
  have HW := Lib.hid (show wrap64 ((2 : Int) ^ q) = ((2 ^ q : Nat) : Int) by
    have hc : ((2 ^ q : Nat) : Int) = (2 : Int) ^ q := by simp
    rw [← hc]; unfold wrap64; omega)
  obtain ⟨k, hk⟩ : ∃ k : Int, k = ((m + 1 : Nat) : Int) := ⟨_, rfl⟩
  obtain ⟨k2, hk2⟩ : ∃ k2 : Int, k2 = ((q + 1 : Nat) : Int) := ⟨_, rfl⟩
  rw [← hk] at e1 ⊢
  rw [← hk2] at e3 HC
  have hk' : 2 ≤ k := by omega
  have hk'' : k ≤ 1099511627776 := by omega
  have hk2' : 1 ≤ k2 := by omega
  have hk2'' : k2 ≤ 40 := by omega
  clear hb hs hp hk hk2 hq
  go_enter Try.func113, Try.ntmps113
  go_wp2_with (go_at_call 122; refine HC.out.mono ?_; rintro e w1 ⟨rfl, rfl⟩)
  go_ret
  refine ⟨?_, rfl⟩
  show Ending.returned (.int .i64 (wrap64 ((2 : Int) ^ q))) = _
  rw [HW.out, HS.out]
theorem infoS : (Try.prog.info? 9).map (fun i => (i.zero, i.size, i.bytes)) = some (some (.string ⟨#[]⟩), 1, 16) := by kernel_rfl
set_option maxHeartbeats 1000000 in
theorem root_calls (N : Nat) : ∀ (A : Option Addr) (c : Nat) (l : List ByteArray) (w : World), l.length ≤ N → Strs w A l.length l → l.length ≤ c → l.length ≤ 1099511627776 →
    Calls Try.prog 94 #[.slice A l.length c] w fun e w' => e = .returned (.string (root l)) ∧ Below w.heap.size w w' := by
  induction N with
  | zero =>
    intro A c l w hN hr hc hb
    have h0 : l.length = 0 := by omega
    have HR := Lib.hid (show root l = H ⟨#[]⟩ by rw [root_le (by omega), List.length_eq_zero_iff.1 h0]; rfl)
    rw [h0]
    clear h0 hr
    go_enter Try.func94, Try.ntmps94
    go_wp2_with (go_at_call 87; refine (Sh.sum_calls _ _ (by show 0 ≤ _; omega)).mono ?_; rintro e w1 ⟨rfl, hb1⟩)
    go_ret
    exact ⟨by rw [HR.out]; rfl, hb1⟩
  | succ N ih =>
    intro A c l w hN hr hc hb
    rcases (by omega : l.length = 0 ∨ l.length = 1 ∨ 2 ≤ l.length) with h0 | h1 | h2
    · exact ih A c l w (by omega) hr hc hb
    · obtain ⟨ad, rfl, hcell⟩ := strs_at hr 0 (by omega)
      have HR := Lib.hid (show root l = l[0] by rw [root_le (by omega)]; cases l with | nil => cases h1 | cons a l => rfl)
      obtain ⟨s, hs⟩ : ∃ s, s = l[0] := ⟨_, rfl⟩
      rw [← hs] at hcell HR
      rw [h1] at hc ⊢
      have hcell0 : w.cell? ad = some (.string s) := by simpa [Addr.add] using hcell
      clear hs hr h1
      go_enter Try.func94, Try.ntmps94
      go_wp2
      go_ret
      exact ⟨by rw [HR.out]; rfl, Below.refl _ _⟩
    · have hk1 := spl_lt h2
      have hk0 := spl_pos l.length
      have HR := Lib.hid (root_gt h2)
      obtain ⟨k, hk⟩ : ∃ k, k = spl l.length := ⟨_, rfl⟩
      have HSP := Lib.hid (split_calls l.length w h2 hb)
      rw [← hk] at hk1 hk0 HR HSP
      clear hk
      obtain ⟨i0, hi0, _, hsz0, _⟩ := info_parts infoS
      obtain ⟨hcut1, hA1, hC1⟩ := print_take_of (P := Try.prog) Value.string ByteArray.empty 22 9 .i64 Try.underlying22 hi0 hsz0 A c l (k : Int) (by omega) (by omega) hc
      obtain ⟨A2, hcut2, hA2, hC2⟩ := print_drop_of (P := Try.prog) Value.string ByteArray.empty 22 9 .i64 Try.underlying22 hi0 hsz0 A c l (k : Int) (by omega) (by omega) hc
      rw [Int.toNat_natCast] at hcut1 hA1 hC1 hcut2 hA2 hC2
      have hl1 : (l.take k).length ≤ N := by rw [List.length_take]; omega
      have hl2 : (l.drop k).length ≤ N := by rw [List.length_drop]; omega
      have hl3 : (l.take k).length ≤ 1099511627776 := by rw [List.length_take]; omega
      have hl4 : (l.drop k).length ≤ 1099511627776 := by rw [List.length_drop]; omega
      have HT := Lib.hid (show ∀ w', Below w.heap.size w w' → Calls Try.prog 94 #[.slice A (l.take k).length c] w' fun e w'' => e = .returned (.string (root (l.take k))) ∧ Below w.heap.size w w'' from fun w' hw' =>
        (ih A c (l.take k) w' hl1 (hA1 w' (hr.below hw')) hC1 hl3).mono fun e w'' ⟨h1, h2⟩ => ⟨h1, hw'.trans (h2.mono hw'.size)⟩)
      have HD := Lib.hid (show ∀ w', Below w.heap.size w w' → Calls Try.prog 94 #[.slice A2 (l.drop k).length (c - k)] w' fun e w'' => e = .returned (.string (root (l.drop k))) ∧ Below w.heap.size w w'' from fun w' hw' =>
        (ih A2 (c - k) (l.drop k) w' hl2 (hA2 w' (hr.below hw')) hC2 hl4).mono fun e w'' ⟨h1, h2⟩ => ⟨h1, hw'.trans (h2.mono hw'.size)⟩)
      obtain ⟨r1, hr1⟩ : ∃ r, r = root (l.take k) := ⟨_, rfl⟩
      obtain ⟨r2, hr2⟩ : ∃ r, r = root (l.drop k) := ⟨_, rfl⟩
      rw [← hr1] at HT HR
      rw [← hr2] at HD HR
      have HN := Lib.hid (show ∀ w', Below w.heap.size w w' → Calls Try.prog 114 #[.string r1, .string r2] w' fun e w'' => e = .returned (.string (node r1 r2)) ∧ Below w.heap.size w w'' from fun w' hw' =>
        (node_calls r1 r2 w').mono fun e w'' ⟨h1, h2⟩ => ⟨h1, hw'.trans (h2.mono hw'.size)⟩)
      have t0 : ((l.length : Int) == 0) = false := beq_eq_false_iff_ne.mpr (by omega)
      have t1 : ((l.length : Int) == 1) = false := beq_eq_false_iff_ne.mpr (by omega)
      have hlt : (l.take k).length = k := by rw [List.length_take]; omega
      obtain ⟨m, hm⟩ : ∃ m, m = (l.drop k).length := ⟨_, rfl⟩
      rw [hlt] at hcut1 HT
      rw [← hm] at hcut2 HD
      clear hr1 hr2 hA1 hA2 hr hi0 hsz0 ih hlt hm hl1 hl2 hl3 hl4 hC1 hC2
      go_enter Try.func94, Try.ntmps94
      go_wp2_with (go_at_call 113; refine HSP.out.mono ?_; rintro e w1 ⟨rfl, rfl⟩)
      refine Sd.region (fun w' => Below w.heap.size w w') [(0, 0), (1, 0), (2, 0), (4, 0), (5, 0), (6, 0), (3, 2), (7, 2), (8, 2), (9, 2)] (by kernel_rfl) (by kernel_rfl) (fun _ _ _ _ _ h => h) ((Below.refl _ _).drew) ?_
      iterate 6 (refine Sd.s0 rfl (fun K hK => ?_); go_simp; refine hK _ ?_; clear hK K)
      (refine Sd.s2 rfl (fun K hK => ?_); go_simp; refine (HT.out _ ((Below.refl _ _).drew)).mono ?_; rintro e w1 ⟨rfl, hb1⟩; refine hK _ _ hb1 ?_; clear hK K)
      (refine Sd.s2 rfl (fun K hK => ?_); go_simp; refine (HD.out _ hb1).mono ?_; rintro e w2 ⟨rfl, hb2⟩; refine hK _ _ hb2 ?_; clear hK K)
      (refine Sd.s2 rfl (fun K hK => ?_); go_simp; refine (HN.out _ hb2).mono ?_; rintro e w3 ⟨rfl, hb3⟩; refine hK _ _ hb3 ?_; clear hK K)
      (refine Sd.s2 rfl (fun K hK => ?_); go_simp; refine hK _ _ hb3 ?_; clear hK K)
      refine Sd.nil ?_
      go_wp2
      go_ret
      exact ⟨by rw [HR.out]; rfl, hb3⟩
end Go.Proofs.Ytldkkboeaadbeaa.Sg
end
section
/- The tree of hashes in the program: Root, inclusion, Inclusion, given, Included. -/
set_option linter.unusedVariables false
set_option linter.unusedSimpArgs false
namespace Go.Proofs.Ytldkkboeaadbeaa.Sg
open Go.RowKit Go.Proofs.YtldkkboeaadbeaaW.PrintWords Go.Proofs.YtldkkboeaadbeaaW.PrintLast Go.Proofs.YtldkkboeaadbeaaW.PrintMore
attribute [local go_sem] Sd.pureq Sd.pureAt Sd.pureUpon
def rootS (l : List ByteArray) : ByteArray := if l.length ≤ 4096 ∧ dgst l = true then root l else ⟨#[]⟩
set_option maxHeartbeats 1000000 in
theorem Root_calls (A : Option Addr) (c : Nat) (l : List ByteArray) (w : World) (hr : Strs w A l.length l) (hc : l.length ≤ c) :
    Calls Try.prog 71 #[.slice A l.length c] w fun e w' => e = .returned (.string (rootS l)) ∧ Below w.heap.size w w' := by
  have HV := Lib.hid (valid_calls A c l w hr)
  by_cases h : l.length ≤ 4096 ∧ dgst l = true
  · have hv : (decide (l.length ≤ 4096) && dgst l) = true := by simp [h.1, h.2]
    rw [hv] at HV
    have HS := Lib.hid (show rootS l = root l by rw [rootS, if_pos h])
    have HR := Lib.hid (root_calls l.length A c l w (Nat.le_refl _) hr hc (by omega))
    clear h hv hr
    go_enter Try.func71, Try.ntmps71
    go_wp2_with (first | (go_at_call 93; refine HV.out.mono ?_; rintro e w1 ⟨rfl, rfl⟩) | (go_at_call 94; refine HR.out.mono ?_; rintro e w2 ⟨rfl, hb⟩))
    go_ret
    exact ⟨by rw [HS.out]; rfl, hb⟩
  · have hv : (decide (l.length ≤ 4096) && dgst l) = false := by
      rw [Bool.eq_false_iff]; intro h'; simp at h'; exact h h'
    rw [hv] at HV
    have HS := Lib.hid (show rootS l = ⟨#[]⟩ by rw [rootS, if_neg h])
    clear h hv hr
    go_enter Try.func71, Try.ntmps71
    go_wp2_with (go_at_call 93; refine HV.out.mono ?_; rintro e w1 ⟨rfl, rfl⟩)
    go_ret
    exact ⟨by rw [HS.out]; rfl, Below.refl _ _⟩
theorem own_below {w w1 : World} {base : Nat} {e : TypeId} {size n : Nat} {v : Value} {xs : List Value} (h : w.ownsRow base e size v n xs) (hb : Below w.heap.size w w1) : w1.ownsRow base e size v n xs :=
  own_move h (fun k hk => hb.block k (h.lt k hk).2)
theorem inclR_length : ∀ (n : Nat) (l : List ByteArray) (i : Nat), l.length ≤ n → (inclR l i).length ≤ l.length
  | 0, l, i, hn => by rw [inclR_le i (by omega)]; simp
  | n + 1, l, i, hn => by
    by_cases c : l.length ≤ 1
    · rw [inclR_le i c]; simp
    · have h1 := spl_lt (n := l.length) (by omega)
      have h2 := spl_pos l.length
      rw [inclR, dif_neg c]
      split
      · have := inclR_length n (l.take (spl l.length)) i (by rw [List.length_take]; omega)
        rw [List.length_take] at this
        rw [List.length_cons]; omega
      · have := inclR_length n (l.drop (spl l.length)) (i - spl l.length) (by rw [List.length_drop]; omega)
        rw [List.length_drop] at this
        rw [List.length_cons]; omega
theorem incl_length (l : List ByteArray) (i : Nat) : (incl l i).length ≤ l.length := by
  unfold incl; rw [List.length_reverse]; exact inclR_length _ l i (Nat.le_refl _)
set_option maxHeartbeats 2000000 in
theorem inclusion_calls (N : Nat) : ∀ (A : Option Addr) (c : Nat) (l : List ByteArray) (i : Nat) (w : World), l.length ≤ N → i < l.length → Strs w A l.length l → l.length ≤ c → l.length ≤ 1099511627776 →
    Calls Try.prog 97 #[.slice A l.length c, .int .i64 (i : Int)] w fun e w' => ∃ v, e = .returned v ∧ w'.ownsRow w.heap.size 9 1 v (incl l i).length ((incl l i).map Value.string) ∧ Below w.heap.size w w' := by
  induction N with
  | zero => intro A c l i w hN hi; omega
  | succ N ih =>
    intro A c l i w hN hi hr hc hb
    by_cases h1 : l.length = 1
    · have HR := Lib.hid (show incl l i = [] by unfold incl; rw [inclR_le i (by omega)]; rfl)
      rw [h1] at hc ⊢
      clear hr h1
      go_enter Try.func97, Try.ntmps97
      go_wp2
      go_ret
      exact ⟨_, rfl, by rw [HR.out]; exact World.ownsRow_nil _ _ _ _, Below.refl _ _⟩
    · have h2 : 2 ≤ l.length := by omega
      have hk1 := spl_lt h2
      have hk0 := spl_pos l.length
      have HLT := Lib.hid (fun h => incl_lt (l := l) (i := i) h2 h)
      have HGE := Lib.hid (fun h => incl_ge (l := l) (i := i) h2 h)
      have HIL := incl_length l i
      obtain ⟨k, hk⟩ : ∃ k, k = spl l.length := ⟨_, rfl⟩
      have HSP := Lib.hid (split_calls l.length w h2 hb)
      rw [← hk] at hk1 hk0 HLT HGE HSP
      clear hk
      obtain ⟨i0, hi0, _, hsz0, _⟩ := info_parts infoS
      obtain ⟨hcut1, hA1, hC1⟩ := print_take_of (P := Try.prog) Value.string ByteArray.empty 22 9 .i64 Try.underlying22 hi0 hsz0 A c l (k : Int) (by omega) (by omega) hc
      obtain ⟨A2, hcut2, hA2, hC2⟩ := print_drop_of (P := Try.prog) Value.string ByteArray.empty 22 9 .i64 Try.underlying22 hi0 hsz0 A c l (k : Int) (by omega) (by omega) hc
      rw [Int.toNat_natCast] at hcut1 hA1 hC1 hcut2 hA2 hC2
      have hlt : (l.take k).length = k := by rw [List.length_take]; omega
      have hld : (l.drop k).length = l.length - k := List.length_drop
      have t1 : ((l.length : Int) == 1) = false := beq_eq_false_iff_ne.mpr (by omega)
      by_cases hik : i < k
      · have HE := Lib.hid (HLT.out hik)
        have HT := Lib.hid (show ∀ w', Below w.heap.size w w' → Calls Try.prog 97 #[.slice A (l.take k).length c, .int .i64 (i : Int)] w' fun e w'' => ∃ v, e = .returned v ∧ w''.ownsRow w'.heap.size 9 1 v (incl (l.take k) i).length ((incl (l.take k) i).map Value.string) ∧ Below w'.heap.size w' w'' from fun w' hw' =>
          ih A c (l.take k) i w' (by omega) (by omega) (hA1 w' (hr.below hw')) hC1 (by omega))
        have HD := Lib.hid (show ∀ w', Below w.heap.size w w' → Calls Try.prog 94 #[.slice A2 (l.drop k).length (c - k)] w' fun e w'' => e = .returned (.string (root (l.drop k))) ∧ Below w'.heap.size w' w'' from fun w' hw' =>
          root_calls _ A2 (c - k) (l.drop k) w' (Nat.le_refl _) (hA2 w' (hr.below hw')) hC2 (by omega))
        obtain ⟨I, hI⟩ : ∃ I, I = incl (l.take k) i := ⟨_, rfl⟩
        obtain ⟨r, hrr⟩ : ∃ r, r = root (l.drop k) := ⟨_, rfl⟩
        rw [← hI] at HT HE
        rw [← hrr] at HD HE
        have hIl : I.length ≤ 1099511627776 := by have := congrArg List.length HE.out; rw [List.length_append, List.length_singleton] at this; omega
        obtain ⟨m, hm⟩ : ∃ m, m = (l.drop k).length := ⟨_, rfl⟩
        rw [hlt] at hcut1 HT
        rw [← hm] at hcut2 HD
        have hd : decide (i < k) = true := decide_eq_true hik
        clear hI hrr hA1 hA2 hr hi0 hsz0 ih hlt hm hld hC1 hC2 HLT HGE HIL hik
        go_enter Try.func97, Try.ntmps97
        go_wp2_with (go_at_call 113; refine HSP.out.mono ?_; rintro e w1 ⟨rfl, rfl⟩)
        refine Sd.region (fun w' => Below w.heap.size w w') [(0, 0), (1, 0), (2, 0), (3, 0), (5, 0), (6, 0), (7, 0), (4, 2), (8, 2), (9, 2), (10, 2), (11, 2)] (by kernel_rfl) (by kernel_rfl) (fun _ _ _ _ _ h => h) ((Below.refl _ _).drew) ?_
        iterate 7 (refine Sd.s0 rfl (fun K hK => ?_); go_simp; refine hK _ ?_; clear hK K)
        (refine Sd.s2 rfl (fun K hK => ?_); go_simp; refine (HT.out _ ((Below.refl _ _).drew)).mono ?_; rintro e w1 ⟨v, rfl, ho1, hb1⟩; have hB1 := ((Below.refl w.heap.size w).drew).trans (hb1.mono (Nat.le_refl _)); refine hK _ _ hB1 ?_; clear hK K)
        (refine Sd.s2 rfl (fun K hK => ?_); go_simp; refine (HD.out _ hB1).mono ?_; rintro e w2 ⟨rfl, hb2⟩; have hB2 := hB1.trans (hb2.mono hB1.size); refine hK _ _ hB2 ?_; clear hK K)
        have ho2 := own_below ho1 hb2
        (refine Sd.s2 rfl (fun K hK => ?_); go_simp; refine hK _ _ (hB2.alloc hB2.size _) ?_; clear hK K)
        refine Sd.s2 rfl (fun K hK => ?_)
        refine step_append_cells (w0 := w) w.heap.size rfl (.tmp 19) (.tmp 24) 22 9 (.string ⟨#[]⟩) 1 16 rfl Try.underlying22 infoS rfl (by decide) (by decide) v _ (I.map Value.string) [.string r] rfl rfl rfl (by simp [Value.oneCell']) ho2 hB2 hB2.size (by omega) ?_
        intro v1 w3 ho3 hB3 _ _
        refine hK _ _ hB3 ?_
        clear hK K
        (refine Sd.s2 rfl (fun K hK => ?_); go_simp; refine hK _ _ hB3 ?_; clear hK K)
        refine Sd.nil ?_
        go_wp2
        go_ret
        exact ⟨_, rfl, by rw [HE.out]; simpa using ho3, hB3⟩
      · have HE := Lib.hid (HGE.out hik)
        have HT := Lib.hid (show ∀ w', Below w.heap.size w w' → Calls Try.prog 97 #[.slice A2 (l.drop k).length (c - k), .int .i64 ((i - k : Nat) : Int)] w' fun e w'' => ∃ v, e = .returned v ∧ w''.ownsRow w'.heap.size 9 1 v (incl (l.drop k) (i - k)).length ((incl (l.drop k) (i - k)).map Value.string) ∧ Below w'.heap.size w' w'' from fun w' hw' =>
          ih A2 (c - k) (l.drop k) (i - k) w' (by omega) (by omega) (hA2 w' (hr.below hw')) hC2 (by omega))
        have HD := Lib.hid (show ∀ w', Below w.heap.size w w' → Calls Try.prog 94 #[.slice A (l.take k).length c] w' fun e w'' => e = .returned (.string (root (l.take k))) ∧ Below w'.heap.size w' w'' from fun w' hw' =>
          root_calls _ A c (l.take k) w' (Nat.le_refl _) (hA1 w' (hr.below hw')) hC1 (by omega))
        obtain ⟨I, hI⟩ : ∃ I, I = incl (l.drop k) (i - k) := ⟨_, rfl⟩
        obtain ⟨r, hrr⟩ : ∃ r, r = root (l.take k) := ⟨_, rfl⟩
        rw [← hI] at HT HE
        rw [← hrr] at HD HE
        have hIl : I.length ≤ 1099511627776 := by have := congrArg List.length HE.out; rw [List.length_append, List.length_singleton] at this; omega
        obtain ⟨m, hm⟩ : ∃ m, m = (l.drop k).length := ⟨_, rfl⟩
        rw [hlt] at hcut1 HD
        rw [← hm] at hcut2 HT
        obtain ⟨j, hj⟩ : ∃ j, j = i - k := ⟨_, rfl⟩
        have hs0 : (i : Int) - (k : Int) = (j : Int) := by omega
        have hs1 : IntKind.i64.wrap (j : Int) = (j : Int) := IntWalk.i64_in _ (by omega)
        rw [← hj] at HT
        have hd : decide (i < k) = false := decide_eq_false hik
        clear hI hrr hA1 hA2 hr hi0 hsz0 ih hlt hm hld hC1 hC2 HLT HGE HIL hik hj
        go_enter Try.func97, Try.ntmps97
        go_wp2_with (go_at_call 113; refine HSP.out.mono ?_; rintro e w1 ⟨rfl, rfl⟩)
        refine Sd.region (fun w' => Below w.heap.size w w') [(0, 0), (1, 0), (2, 0), (3, 0), (4, 0), (5, 0), (7, 0), (8, 0), (9, 0), (6, 2), (10, 2), (11, 2), (12, 2), (13, 2)] (by kernel_rfl) (by kernel_rfl) (fun _ _ _ _ _ h => h) ((Below.refl _ _).drew) ?_
        iterate 9 (refine Sd.s0 rfl (fun K hK => ?_); go_simp; refine hK _ ?_; clear hK K)
        (refine Sd.s2 rfl (fun K hK => ?_); go_simp; refine (HT.out _ ((Below.refl _ _).drew)).mono ?_; rintro e w1 ⟨v, rfl, ho1, hb1⟩; have hB1 := ((Below.refl w.heap.size w).drew).trans (hb1.mono (Nat.le_refl _)); refine hK _ _ hB1 ?_; clear hK K)
        (refine Sd.s2 rfl (fun K hK => ?_); go_simp; refine (HD.out _ hB1).mono ?_; rintro e w2 ⟨rfl, hb2⟩; have hB2 := hB1.trans (hb2.mono hB1.size); refine hK _ _ hB2 ?_; clear hK K)
        have ho2 := own_below ho1 hb2
        (refine Sd.s2 rfl (fun K hK => ?_); go_simp; refine hK _ _ (hB2.alloc hB2.size _) ?_; clear hK K)
        refine Sd.s2 rfl (fun K hK => ?_)
        refine step_append_cells (w0 := w) w.heap.size rfl (.tmp 32) (.tmp 37) 22 9 (.string ⟨#[]⟩) 1 16 rfl Try.underlying22 infoS rfl (by decide) (by decide) v _ (I.map Value.string) [.string r] rfl rfl rfl (by simp [Value.oneCell']) ho2 hB2 hB2.size (by omega) ?_
        intro v1 w3 ho3 hB3 _ _
        refine hK _ _ hB3 ?_
        clear hK K
        (refine Sd.s2 rfl (fun K hK => ?_); go_simp; refine hK _ _ hB3 ?_; clear hK K)
        refine Sd.nil ?_
        go_wp2
        go_ret
        exact ⟨_, rfl, by rw [HE.out]; simpa using ho3, hB3⟩
end Go.Proofs.Ytldkkboeaadbeaa.Sg
end
section
/- The tree of hashes in the program: Inclusion, given, Included. -/
set_option linter.unusedVariables false
set_option linter.unusedSimpArgs false
namespace Go.Proofs.Ytldkkboeaadbeaa.Sg
open Go.RowKit Go.Proofs.YtldkkboeaadbeaaW.PrintWords Go.Proofs.YtldkkboeaadbeaaW.PrintLast Go.Proofs.YtldkkboeaadbeaaW.PrintMore
attribute [local go_sem] Sd.pureq Sd.pureAt Sd.pureUpon
set_option maxHeartbeats 1000000 in
theorem Inclusion_calls (A : Option Addr) (c : Nat) (l : List ByteArray) (i : Nat) (w : World) (hi : i < l.length) (hr : Strs w A l.length l) (hc : l.length ≤ c) (hb : l.length ≤ 4096) (hd : dgst l = true) :
    Calls Try.prog 77 #[.slice A l.length c, .int .i64 (i : Int)] w fun e w' => ∃ v, e = .returned (.tuple #[v, .int .i64 0]) ∧ w'.ownsRow w.heap.size 9 1 v (incl l i).length ((incl l i).map Value.string) ∧ Below w.heap.size w w' := by
  have HV := Lib.hid (valid_calls A c l w hr)
  rw [show (decide (l.length ≤ 4096) && dgst l) = true by simp [hb, hd]] at HV
  have HR := Lib.hid (inclusion_calls l.length A c l i w (Nat.le_refl _) hi hr hc (by omega))
  have h1 : decide (l.length ≤ i) = false := decide_eq_false (by omega)
  clear hr hd
  go_enter Try.func77, Try.ntmps77
  go_wp2_with (first | (go_at_call 93; refine HV.out.mono ?_; rintro e w1 ⟨rfl, rfl⟩) | (go_at_call 97; refine HR.out.mono ?_; rintro e w2 ⟨v, rfl, ho, hb⟩))
  go_ret2
  exact ⟨_, rfl, ho, hb⟩
set_option maxHeartbeats 2000000 in
theorem given_calls (N : Nat) : ∀ (leaf : ByteArray) (i n : Nat) (A : Option Addr) (c : Nat) (p : List ByteArray) (w : World), p.length ≤ N → 1 ≤ n → n ≤ 1099511627776 → i ≤ 1099511627776 → Strs w A p.length p → p.length ≤ c → p.length ≤ 1099511627776 →
    Calls Try.prog 100 #[.string leaf, .int .i64 (i : Int), .int .i64 (n : Int), .slice A p.length c] w fun e w' => e = .returned (.tuple #[.string (givR leaf p.reverse i n).1, .bool (givR leaf p.reverse i n).2]) ∧ Below w.heap.size w w' := by
  induction N with
  | zero =>
    intro leaf i n A c p w hN hn hn2 hi hr hc hb
    have h0 : p = [] := List.length_eq_zero_iff.1 (by omega)
    subst h0
    by_cases h1 : n = 1
    · subst h1
      have HR := Lib.hid (show givR leaf [].reverse i 1 = (leaf, true) from rfl)
      go_enter Try.func100, Try.ntmps100
      go_wp2
      go_ret2
      exact ⟨by rw [HR.out]; rfl, Below.refl _ _⟩
    · have HR := Lib.hid (show givR leaf [].reverse i n = (⟨#[]⟩, false) by rw [List.reverse_nil, givR, if_neg h1])
      have t1 : ((n : Int) == 1) = false := beq_eq_false_iff_ne.mpr (by omega)
      clear h1
      go_enter Try.func100, Try.ntmps100
      go_wp2
      go_ret2
      exact ⟨by rw [HR.out]; rfl, Below.refl _ _⟩
  | succ N ih =>
    intro leaf i n A c p w hN hn hn2 hi hr hc hb
    by_cases h0 : p.length = 0
    · exact ih leaf i n A c p w (by omega) hn hn2 hi hr hc hb
    obtain ⟨t, ht⟩ : ∃ t, p.length = t + 1 := ⟨p.length - 1, by omega⟩
    have hrev : p.reverse = p[t] :: (p.take t).reverse := by
      have h2 : p = p.take t ++ [p[t]] := by rw [← List.take_succ_eq_append_getElem (by omega), List.take_of_length_le (by omega)]
      conv => lhs; rw [h2]
      simp
    obtain ⟨ad, rfl, hcell⟩ := strs_at hr t (by omega)
    by_cases h1 : n = 1
    · subst h1
      have HR := Lib.hid (show givR leaf p.reverse i 1 = (leaf, false) by rw [hrev, givR, if_pos rfl])
      have t1 : ((p.length : Int) == 0) = false := beq_eq_false_iff_ne.mpr (by omega)
      clear hrev hcell hr
      go_enter Try.func100, Try.ntmps100
      go_wp2
      go_ret2
      exact ⟨by rw [HR.out]; rfl, Below.refl _ _⟩
    · have h2 : 2 ≤ n := by omega
      have hk1 := spl_lt h2
      have hk0 := spl_pos n
      have HSP := Lib.hid (show ∀ w' : World, _ from fun w' => split_calls n w' h2 hn2)
      have hg : givR leaf p.reverse i n = if i < spl n then (node (givR leaf (p.take t).reverse i (spl n)).1 p[t], (givR leaf (p.take t).reverse i (spl n)).2)
        else (node p[t] (givR leaf (p.take t).reverse (i - spl n) (n - spl n)).1, (givR leaf (p.take t).reverse (i - spl n) (n - spl n)).2) := by
        rw [hrev, givR, if_neg h1]
      obtain ⟨k, hk⟩ : ∃ k, k = spl n := ⟨_, rfl⟩
      rw [← hk] at hk1 hk0 HSP hg
      clear hk hrev
      obtain ⟨i0, hi0, _, hsz0, _⟩ := info_parts infoS
      obtain ⟨hcut1, hA1, hC1⟩ := print_take_of (P := Try.prog) Value.string ByteArray.empty 22 9 .i64 Try.underlying22 hi0 hsz0 (some ad) c p (t : Int) (by omega) (by omega) hc
      rw [Int.toNat_natCast] at hcut1 hA1 hC1
      have hlt : (p.take t).length = t := by rw [List.length_take]; omega
      have t1 : ((n : Int) == 1) = false := beq_eq_false_iff_ne.mpr (by omega)
      have HIH := Lib.hid (show ∀ (i n : Nat) (w' : World), Below w.heap.size w w' → 1 ≤ n → n ≤ 1099511627776 → i ≤ 1099511627776 → Calls Try.prog 100 #[.string leaf, .int .i64 (i : Int), .int .i64 (n : Int), .slice (some ad) (p.take t).length c] w' fun e w'' => e = .returned (.tuple #[.string (givR leaf (p.take t).reverse i n).1, .bool (givR leaf (p.take t).reverse i n).2]) ∧ Below w'.heap.size w' w'' from
        fun i n w' hw' e1 e2 e3 => ih leaf i n (some ad) c (p.take t) w' (by omega) e1 e2 e3 (hA1 w' (hr.below hw')) hC1 (by omega))
      rw [ht] at hcut1
      rw [hlt] at HIH hcut1
      obtain ⟨x, hx⟩ : ∃ x, x = p[t] := ⟨_, rfl⟩
      rw [← hx] at hcell hg
      have HCELL := Lib.hid (show ∀ w', Below w.heap.size w w' → w'.cell? (ad.add t) = some (.string x) from fun w' hw' => pw_cell_below hw' hcell)
      rw [ht] at hc ⊢
      have hsub : (((t + 1 : Nat) : Int) - 1) = (t : Int) := by omega
      have hlt1 : ((t : Int) < (t : Int) + 1) = True := eq_true (by omega)
      have hsub2 : IntKind.i64.wrap (t : Int) = (t : Int) := IntWalk.i64_in _ (by omega)
      by_cases hik : i < k
      · rw [if_pos hik] at hg
        have HG := Lib.hid hg
        have HT := Lib.hid (fun w' hw' => HIH.out i k w' hw' hk0 (by omega) hi)
        have hd : decide (i < k) = true := decide_eq_true hik
        clear hg hx hA1 hr hi0 hsz0 ih hlt hC1 HIH hik hcell h1 ht
        go_enter Try.func100, Try.ntmps100
        go_wp2
        refine Sd.region (fun w' => Below w.heap.size w w') [(0, 0), (1, 0), (2, 0), (3, 0), (4, 0), (5, 1), (6, 0), (7, 0), (8, 0), (9, 0), (10, 0), (11, 0), (12, 2), (13, 0), (14, 0), (15, 0)] (by kernel_rfl) (by kernel_rfl) (fun _ _ _ _ _ h => h) ((Below.refl _ _).drew) ?_
        iterate 5 (refine Sd.s0 rfl (fun K hK => ?_); go_simp; refine hK _ ?_; clear hK K)
        (refine Sd.s1 rfl (fun K hK => ?_); go_simp; refine ⟨.string x, fun w' hw' => (by rw [HCELL.out w' hw']; exact ⟨rfl, rfl⟩), hK _ ?_⟩; clear hK K)
        iterate 6 (refine Sd.s0 rfl (fun K hK => ?_); go_simp; refine hK _ ?_; clear hK K)
        (refine Sd.s2 rfl (fun K hK => ?_); go_simp; refine (HSP.out _).mono ?_; rintro e w1 ⟨rfl, rfl⟩; refine hK _ _ ((Below.refl _ _).drew) ?_; clear hK K)
        iterate 3 (refine Sd.s0 rfl (fun K hK => ?_); go_simp; refine hK _ ?_; clear hK K)
        refine Sd.nil ?_
        go_wp2_with (first | (go_at_call 100; refine (HT.out _ ((Below.refl _ _).drew)).mono ?_; rintro e w2 ⟨rfl, hb2⟩) | (go_at_call 114; refine (node_calls _ _ _).mono ?_; rintro e w3 ⟨rfl, hb3⟩))
        go_ret2
        exact ⟨by rw [HG.out]; rfl, ((Below.refl w.heap.size w).drew.trans (hb2.mono (Nat.le_refl _))).trans (hb3.mono hb2.size)⟩
      · rw [if_neg hik] at hg
        have HT := Lib.hid (fun w' hw' => HIH.out (i - k) (n - k) w' hw' (by omega) (by omega) (by omega))
        obtain ⟨j, hj⟩ : ∃ j, j = i - k := ⟨_, rfl⟩
        obtain ⟨m, hm⟩ : ∃ m, m = n - k := ⟨_, rfl⟩
        have hs0 : (i : Int) - (k : Int) = (j : Int) := by omega
        have hs1 : (n : Int) - (k : Int) = (m : Int) := by omega
        have hs2 : IntKind.i64.wrap (j : Int) = (j : Int) := IntWalk.i64_in _ (by omega)
        have hs3 : IntKind.i64.wrap (m : Int) = (m : Int) := IntWalk.i64_in _ (by omega)
        rw [← hj, ← hm] at HT hg
        have HG := Lib.hid hg
        have hd : decide (i < k) = false := decide_eq_false hik
        clear hg hx hA1 hr hi0 hsz0 ih hlt hC1 HIH hik hcell h1 ht hj hm
        go_enter Try.func100, Try.ntmps100
        go_wp2
        refine Sd.region (fun w' => Below w.heap.size w w') [(0, 0), (1, 0), (2, 0), (3, 0), (4, 0), (5, 1), (6, 0), (7, 0), (8, 0), (9, 0), (10, 0), (11, 0), (12, 2), (13, 0), (14, 0), (15, 0)] (by kernel_rfl) (by kernel_rfl) (fun _ _ _ _ _ h => h) ((Below.refl _ _).drew) ?_
        iterate 5 (refine Sd.s0 rfl (fun K hK => ?_); go_simp; refine hK _ ?_; clear hK K)
        (refine Sd.s1 rfl (fun K hK => ?_); go_simp; refine ⟨.string x, fun w' hw' => (by rw [HCELL.out w' hw']; exact ⟨rfl, rfl⟩), hK _ ?_⟩; clear hK K)
        iterate 6 (refine Sd.s0 rfl (fun K hK => ?_); go_simp; refine hK _ ?_; clear hK K)
        (refine Sd.s2 rfl (fun K hK => ?_); go_simp; refine (HSP.out _).mono ?_; rintro e w1 ⟨rfl, rfl⟩; refine hK _ _ ((Below.refl _ _).drew) ?_; clear hK K)
        iterate 3 (refine Sd.s0 rfl (fun K hK => ?_); go_simp; refine hK _ ?_; clear hK K)
        refine Sd.nil ?_
        go_wp2_with (first | (go_at_call 100; refine (HT.out _ ((Below.refl _ _).drew)).mono ?_; rintro e w2 ⟨rfl, hb2⟩) | (go_at_call 114; refine (node_calls _ _ _).mono ?_; rintro e w3 ⟨rfl, hb3⟩))
        go_ret2
        exact ⟨by rw [HG.out]; rfl, ((Below.refl w.heap.size w).drew.trans (hb2.mono (Nat.le_refl _))).trans (hb3.mono hb2.size)⟩
end Go.Proofs.Ytldkkboeaadbeaa.Sg
end
section
/- The tree of hashes in the program: Included. -/
set_option linter.unusedVariables false
set_option linter.unusedSimpArgs false
namespace Go.Proofs.Ytldkkboeaadbeaa.Sg
open Go.RowKit Go.Proofs.YtldkkboeaadbeaaW.PrintWords Go.Proofs.YtldkkboeaadbeaaW.PrintLast Go.Proofs.YtldkkboeaadbeaaW.PrintMore
theorem str_toList_inj {a b : ByteArray} (h : a.toList = b.toList) : a = b := by
  apply ByteArray.ext
  apply Array.ext'
  have e : ∀ c : ByteArray, c.toList = c.data.toList := fun c => by simp [Lib.toList_data]
  rw [e, e] at h
  exact h
theorem str_eq (a b : ByteArray) : (a.toList == b.toList) = decide (a = b) := by
  by_cases h : a = b
  · subst h; simp
  · rw [decide_eq_false h]
    exact beq_eq_false_iff_ne.mpr (fun h' => h (str_toList_inj h'))
set_option maxHeartbeats 4000000 in
theorem Included_calls (leaf : ByteArray) (i n : Int) (A : Option Addr) (c : Nat) (p : List ByteArray) (rt : ByteArray) (w : World) (hr : Strs w A p.length p) (hc : p.length ≤ c) :
    Calls Try.prog 81 #[.string leaf, .int .i64 i, .int .i64 n, .slice A p.length c, .string rt] w fun e w' => e = .returned (.bool (included leaf i n p rt)) ∧ Below w.heap.size w w' := by
  have HV := Lib.hid (show ∀ w', Below w.heap.size w w' → _ from fun w' hw' => valid_calls A c p w' (hr.below hw'))
  by_cases h1 : leaf.size = 32
  · by_cases h2 : rt.size = 32
    · by_cases h3 : (decide (p.length ≤ 4096) && dgst p) = true
      · by_cases h4 : 1 ≤ n
        · by_cases h5 : n ≤ 4096
          · by_cases h6 : 0 ≤ i
            · by_cases h7 : i < n
              · have d1 : decide (leaf.size = 32) = true := decide_eq_true h1
                have d2 : decide (rt.size = 32) = true := decide_eq_true h2
                rw [h3] at HV
                have d4 : decide (n < 1) = false := decide_eq_false (by omega)
                have d5 : decide (4096 < n) = false := decide_eq_false (by omega)
                have d6 : decide (i < 0) = false := decide_eq_false (by omega)
                have d7 : decide (n ≤ i) = false := decide_eq_false (by omega)
                obtain ⟨j, rfl⟩ := Int.eq_ofNat_of_zero_le h6
                obtain ⟨m, rfl⟩ : ∃ m : Nat, n = m := ⟨n.toNat, by omega⟩
                simp only [Bool.and_eq_true, decide_eq_true_eq] at h3
                have d8 : decide (m ≤ j) = false := decide_eq_false (by omega)
                have HS := Lib.hid (show included leaf (j : Int) (m : Int) p rt = ((givR leaf p.reverse j m).2 && decide ((givR leaf p.reverse j m).1 = rt)) by unfold included; rw [if_pos ⟨h1, h2, h3.1, h3.2, h4, h5, h6, h7⟩, Int.toNat_natCast, Int.toNat_natCast])
                have HG := Lib.hid (given_calls p.length leaf j m A c p w (Nat.le_refl _) (by omega) (by omega) (by omega) hr hc (by omega))
                obtain ⟨g, hg⟩ : ∃ g, g = givR leaf p.reverse j m := ⟨_, rfl⟩
                rw [← hg] at HS HG
                obtain ⟨r, ok⟩ := g
                clear hg h1 h2 h3 h4 h5 h6 h7 hr
                by_cases he : r = rt
                · subst he
                  cases ok
                  · go_enter Try.func81, Try.ntmps81
                    go_wp2_with (first | (go_at_call 99; refine (digest_calls _ _).mono ?_; rintro e w1 ⟨rfl, rfl⟩) | (go_at_call 93; refine (HV.out _ (Below.refl _ _)).mono ?_; rintro e w1 ⟨rfl, rfl⟩) | (go_at_call 100; refine HG.out.mono ?_; rintro e w2 ⟨rfl, hb2⟩))
                    go_ret
                    exact ⟨by rw [HS.out]; rfl, hb2⟩
                  · go_enter Try.func81, Try.ntmps81
                    go_wp2_with (first | (go_at_call 99; refine (digest_calls _ _).mono ?_; rintro e w1 ⟨rfl, rfl⟩) | (go_at_call 93; refine (HV.out _ (Below.refl _ _)).mono ?_; rintro e w1 ⟨rfl, rfl⟩) | (go_at_call 100; refine HG.out.mono ?_; rintro e w2 ⟨rfl, hb2⟩))
                    go_ret
                    exact ⟨by rw [HS.out]; simp, hb2⟩
                · have HE := Lib.hid (decide_eq_false he)
                  have he1 : (r.toList == rt.toList) = false := by rw [str_eq]; exact decide_eq_false he
                  clear he
                  cases ok
                  · go_enter Try.func81, Try.ntmps81
                    go_wp2_with (first | (go_at_call 99; refine (digest_calls _ _).mono ?_; rintro e w1 ⟨rfl, rfl⟩) | (go_at_call 93; refine (HV.out _ (Below.refl _ _)).mono ?_; rintro e w1 ⟨rfl, rfl⟩) | (go_at_call 100; refine HG.out.mono ?_; rintro e w2 ⟨rfl, hb2⟩))
                    go_ret
                    exact ⟨by rw [HS.out]; rfl, hb2⟩
                  · go_enter Try.func81, Try.ntmps81
                    go_wp2_with (first | (go_at_call 99; refine (digest_calls _ _).mono ?_; rintro e w1 ⟨rfl, rfl⟩) | (go_at_call 93; refine (HV.out _ (Below.refl _ _)).mono ?_; rintro e w1 ⟨rfl, rfl⟩) | (go_at_call 100; refine HG.out.mono ?_; rintro e w2 ⟨rfl, hb2⟩))
                    go_ret
                    exact ⟨by rw [HS.out, HE.out]; simp, hb2⟩
              · have HS := Lib.hid (show included leaf i n p rt = false by unfold included; rw [if_neg (fun h => h7 h.2.2.2.2.2.2.2)])
                have d1 : decide (leaf.size = 32) = true := decide_eq_true h1
                have d2 : decide (rt.size = 32) = true := decide_eq_true h2
                rw [h3] at HV
                have d4 : decide (n < 1) = false := decide_eq_false (by omega)
                have d5 : decide (4096 < n) = false := decide_eq_false (by omega)
                have d6 : decide (i < 0) = false := decide_eq_false (by omega)
                have d7 : decide (n ≤ i) = true := decide_eq_true (by omega)
                clear h1 h2 h3 h4 h5 h6 h7 hr
                go_enter Try.func81, Try.ntmps81
                go_wp2_with (first | (go_at_call 99; refine (digest_calls _ _).mono ?_; rintro e w1 ⟨rfl, rfl⟩) | (go_at_call 93; refine (HV.out _ (Below.refl _ _)).mono ?_; rintro e w1 ⟨rfl, rfl⟩) | (go_at_call 100; refine HG.out.mono ?_; rintro e w2 ⟨rfl, hb2⟩))
                go_ret
                exact ⟨by rw [HS.out]; rfl, Below.refl _ _⟩
            · have HS := Lib.hid (show included leaf i n p rt = false by unfold included; rw [if_neg (fun h => h6 h.2.2.2.2.2.2.1)])
              have d1 : decide (leaf.size = 32) = true := decide_eq_true h1
              have d2 : decide (rt.size = 32) = true := decide_eq_true h2
              rw [h3] at HV
              have d4 : decide (n < 1) = false := decide_eq_false (by omega)
              have d5 : decide (4096 < n) = false := decide_eq_false (by omega)
              have d6 : decide (i < 0) = true := decide_eq_true (by omega)
              clear h1 h2 h3 h4 h5 h6 hr
              go_enter Try.func81, Try.ntmps81
              go_wp2_with (first | (go_at_call 99; refine (digest_calls _ _).mono ?_; rintro e w1 ⟨rfl, rfl⟩) | (go_at_call 93; refine (HV.out _ (Below.refl _ _)).mono ?_; rintro e w1 ⟨rfl, rfl⟩) | (go_at_call 100; refine HG.out.mono ?_; rintro e w2 ⟨rfl, hb2⟩))
              go_ret
              exact ⟨by rw [HS.out]; rfl, Below.refl _ _⟩
          · have HS := Lib.hid (show included leaf i n p rt = false by unfold included; rw [if_neg (fun h => h5 h.2.2.2.2.2.1)])
            have d1 : decide (leaf.size = 32) = true := decide_eq_true h1
            have d2 : decide (rt.size = 32) = true := decide_eq_true h2
            rw [h3] at HV
            have d4 : decide (n < 1) = false := decide_eq_false (by omega)
            have d5 : decide (4096 < n) = true := decide_eq_true (by omega)
            clear h1 h2 h3 h4 h5 hr
            go_enter Try.func81, Try.ntmps81
            go_wp2_with (first | (go_at_call 99; refine (digest_calls _ _).mono ?_; rintro e w1 ⟨rfl, rfl⟩) | (go_at_call 93; refine (HV.out _ (Below.refl _ _)).mono ?_; rintro e w1 ⟨rfl, rfl⟩) | (go_at_call 100; refine HG.out.mono ?_; rintro e w2 ⟨rfl, hb2⟩))
            go_ret
            exact ⟨by rw [HS.out]; rfl, Below.refl _ _⟩
        · have HS := Lib.hid (show included leaf i n p rt = false by unfold included; rw [if_neg (fun h => h4 h.2.2.2.2.1)])
          have d1 : decide (leaf.size = 32) = true := decide_eq_true h1
          have d2 : decide (rt.size = 32) = true := decide_eq_true h2
          rw [h3] at HV
          have d4 : decide (n < 1) = true := decide_eq_true (by omega)
          clear h1 h2 h3 h4 hr
          go_enter Try.func81, Try.ntmps81
          go_wp2_with (first | (go_at_call 99; refine (digest_calls _ _).mono ?_; rintro e w1 ⟨rfl, rfl⟩) | (go_at_call 93; refine (HV.out _ (Below.refl _ _)).mono ?_; rintro e w1 ⟨rfl, rfl⟩) | (go_at_call 100; refine HG.out.mono ?_; rintro e w2 ⟨rfl, hb2⟩))
          go_ret
          exact ⟨by rw [HS.out]; rfl, Below.refl _ _⟩
      · have HS := Lib.hid (show included leaf i n p rt = false by unfold included; rw [if_neg (fun h => h3 (by simp [h.2.2.1, h.2.2.2.1]))])
        have d1 : decide (leaf.size = 32) = true := decide_eq_true h1
        have d2 : decide (rt.size = 32) = true := decide_eq_true h2
        rw [Bool.eq_false_iff.2 h3] at HV
        clear h1 h2 h3 hr
        go_enter Try.func81, Try.ntmps81
        go_wp2_with (first | (go_at_call 99; refine (digest_calls _ _).mono ?_; rintro e w1 ⟨rfl, rfl⟩) | (go_at_call 93; refine (HV.out _ (Below.refl _ _)).mono ?_; rintro e w1 ⟨rfl, rfl⟩) | (go_at_call 100; refine HG.out.mono ?_; rintro e w2 ⟨rfl, hb2⟩))
        go_ret
        exact ⟨by rw [HS.out]; rfl, Below.refl _ _⟩
    · have HS := Lib.hid (show included leaf i n p rt = false by unfold included; rw [if_neg (fun h => h2 h.2.1)])
      have d1 : decide (leaf.size = 32) = true := decide_eq_true h1
      have d2 : decide (rt.size = 32) = false := decide_eq_false h2
      clear h1 h2 hr
      go_enter Try.func81, Try.ntmps81
      go_wp2_with (first | (go_at_call 99; refine (digest_calls _ _).mono ?_; rintro e w1 ⟨rfl, rfl⟩) | (go_at_call 93; refine (HV.out _ (Below.refl _ _)).mono ?_; rintro e w1 ⟨rfl, rfl⟩) | (go_at_call 100; refine HG.out.mono ?_; rintro e w2 ⟨rfl, hb2⟩))
      go_ret
      exact ⟨by rw [HS.out]; rfl, Below.refl _ _⟩
  · have HS := Lib.hid (show included leaf i n p rt = false by unfold included; rw [if_neg (fun h => h1 h.1)])
    have d1 : decide (leaf.size = 32) = false := decide_eq_false h1
    clear h1 hr
    go_enter Try.func81, Try.ntmps81
    go_wp2_with (first | (go_at_call 99; refine (digest_calls _ _).mono ?_; rintro e w1 ⟨rfl, rfl⟩) | (go_at_call 93; refine (HV.out _ (Below.refl _ _)).mono ?_; rintro e w1 ⟨rfl, rfl⟩) | (go_at_call 100; refine HG.out.mono ?_; rintro e w2 ⟨rfl, hb2⟩))
    go_ret
    exact ⟨by rw [HS.out]; rfl, Below.refl _ _⟩
end Go.Proofs.Ytldkkboeaadbeaa.Sg
end
