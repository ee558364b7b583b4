/- SgL, SgK, SgP, SgX, SgD -/
import Derived.Test.YtldkkboeaadbeaaMa7
import Derived.Lib.OthersKept
section
/- The signature scheme in the program: leaf, leaves. -/
set_option linter.unusedVariables false
set_option linter.unusedSimpArgs false
namespace Go.Proofs.Ytldkkboeaadbeaa.Sg
open Go.RowKit Go.Proofs.YtldkkboeaadbeaaW.PrintWords Go.Proofs.YtldkkboeaadbeaaW.PrintLast Go.Proofs.YtldkkboeaadbeaaW.PrintMore
attribute [local go_sem] Sd.pureq Sd.pureAt Sd.pureUpon
theorem chains_succ (seed : ByteArray) (k n : Nat) : chains seed k (n + 1) = chains seed k n ++ [wk k n 15 0 (sec seed k n)] := by
  simp [chains, List.range_succ]
theorem chains_size (seed : ByteArray) (k n : Nat) : ∀ s ∈ chains seed k n, s.size = 32 := by
  intro s hs
  obtain ⟨c, _, rfl⟩ := List.mem_map.1 hs
  exact wk_size _ _ _ _ _ (H_size _)
theorem chains_cat (seed : ByteArray) (k n : Nat) : (cat (chains seed k n) ⟨#[]⟩).size = 32 * n := by
  rw [cat_size _ _ (chains_size seed k n)]
  show 0 + 32 * (chains seed k n).length = _
  simp [chains]
set_option maxHeartbeats 2000000 in
theorem leafOf_calls (seed : ByteArray) (k : Nat) (w : World) (hs : seed.size ≤ 70368744177664) (hk : k < 4611686018427387904) :
    Calls Try.prog 95 #[.string seed, .int .i64 (k : Int)] w fun e w' => e = .returned (.string (leafOf seed k)) ∧ Below w.heap.size w w' := by
  have HN := Lib.hid (show Lib.IsBuilder Sb.TB 5 w.heap.size w.heap.size (Lib.strCells (cat (chains seed k 0) ⟨#[]⟩)) (w.alloc (.cells #[.pointer none, .slice none 0 0] Sb.TB)) from
    .inl ⟨Nat.le_refl _, .slice none 0 0, by simpa using heap_alloc_new w _, own_nil _ _ _ _, by simp [Value.ownBlock]⟩)
  have HS := Lib.hid hs
  clear hs
  go_enter Try.func95, Try.ntmps95
  go_wp2
  go_loopw [7] (fun i wr => ∃ j : Nat, j ≤ 67 ∧ i = .int .i64 j ∧ Hid (Lib.IsBuilder Sb.TB 5 w.heap.size w.heap.size (Lib.strCells (cat (chains seed k j) ⟨#[]⟩)) wr ∧ Below w.heap.size w wr)) (fun i _ => 67 - (intOf i).toNat)
  case atStart => exact ⟨0, Nat.zero_le _, rfl, Lib.hid ⟨HN.out, (Below.refl _ _).alloc (Nat.le_refl _) _⟩⟩
  case round =>
    obtain ⟨j, hj, rfl, HB⟩ := hrel
    by_cases hlt : j < 67
    · have HC := Lib.hid (chains_succ seed k j)
      have HZ := Lib.hid (chains_cat seed k j)
      obtain ⟨s, hse⟩ : ∃ s, s = sec seed k j := ⟨_, rfl⟩
      have hss : s.size = 32 := by rw [hse]; exact H_size _
      have HW := Lib.hid (show ∀ w', Calls Try.prog 75 #[.string s, .int .i64 (k : Int), .int .i64 (j : Int), .int .i64 0, .int .i64 15] w' fun e w'' => e = .returned (.string (wk k j 15 0 s)) ∧ Below w'.heap.size w' w'' from fun w' => walk_calls s k j 0 15 15 w' rfl hss hk (by omega) (by omega) (by omega))
      have HX := Lib.hid (show ∀ w', Calls Try.prog 76 #[.string seed, .int .i64 (k : Int), .int .i64 (j : Int)] w' fun e w'' => e = .returned (.string s) ∧ Below w'.heap.size w' w'' from fun w' => by rw [hse]; exact secret_calls seed k j w' HS.out hk (by omega))
      rw [← hse] at HC
      have hws : (wk k j 15 0 s).size = 32 := wk_size _ _ _ _ _ hss
      obtain ⟨x, hx⟩ : ∃ x, x = wk k j 15 0 s := ⟨_, rfl⟩
      rw [← hx] at HC HW hws
      have HWS := Lib.hid hws
      clear hse hss hx hws
      go_wp2_with (first | (go_at_call 76; refine (HX.out _).mono ?_; rintro e w1 ⟨rfl, hb1⟩) | (go_at_call 75; refine (HW.out _).mono ?_; rintro e w2 ⟨rfl, hb2⟩) | (go_at_call 37; refine (Sb.WriteString w.heap.size w.heap.size (Lib.strCells (cat (chains seed k j) ⟨#[]⟩)) x _ (Pr.builder_below (Pr.builder_below HB.out.1 hb1) hb2) (by rw [Lib.strCells_length, HZ.out, HWS.out]; omega) (Nat.le_trans HB.out.2.size (Nat.le_trans hb1.size hb2.size))).mono ?_; rintro e w3 ⟨rfl, hI3, hb3⟩))
      go_roundw
      case rel => exact ⟨j + 1, by omega, by go_num, Lib.hid ⟨.inr (by rw [HC.out, cat_snoc, Pr.strCells_append]; exact hI3), ((HB.out.2.trans (hb1.mono HB.out.2.size)).trans (hb2.mono (Nat.le_trans HB.out.2.size hb1.size))).trans hb3⟩⟩
      case measure => simp [intOf]; omega
    · have : j = 67 := by omega
      subst this
      have HZ := Lib.hid (chains_cat seed k 67)
      have HE := Lib.hid (show leafOf seed k = leafH (cat (chains seed k 67) ⟨#[]⟩) from rfl)
      obtain ⟨X, hX⟩ : ∃ X, X = cat (chains seed k 67) ⟨#[]⟩ := ⟨_, rfl⟩
      rw [← hX] at HB HZ HE
      clear hX hlt
      go_wp2_with (first | (go_at_call 38; refine (Sb.String_any w.heap.size w.heap.size X.data.toList _ (by rw [← Lib.strCells_eq]; exact HB.out.1) HB.out.2.size).mono ?_; rintro e w4 ⟨rfl, hb4⟩) | (go_at_call 82; refine (leaf_calls _ _ (by have := HZ.out; show X.size ≤ _; omega)).mono ?_; rintro e w5 ⟨rfl, hb5⟩))
      go_ret
      exact ⟨by rw [HE.out]; rfl, (HB.out.2.trans hb4).trans (hb5.mono (HB.out.2.trans hb4).size)⟩
theorem leaves_succ (seed : ByteArray) (n : Nat) : leaves seed (n + 1) = leaves seed n ++ [leafOf seed n] := by
  simp [leaves, List.range_succ]
theorem pow_le64 {h : Nat} (hh : h ≤ 6) : 2 ^ h ≤ 64 := Nat.pow_le_pow_right (n := 2) (by decide) hh
theorem pow_wrap {h : Nat} (hh : h ≤ 6) : wrap64 ((2 : Int) ^ h) = ((2 ^ h : Nat) : Int) := by
  have hc : ((2 ^ h : Nat) : Int) = (2 : Int) ^ h := by simp
  have := pow_le64 hh
  rw [← hc]
  generalize 2 ^ h = m at this ⊢
  unfold wrap64; omega
theorem pow_wrap' {h : Nat} (hh : h ≤ 6) : IntKind.i64.wrap ((2 : Int) ^ h) = ((2 ^ h : Nat) : Int) := by
  have hc : ((2 ^ h : Nat) : Int) = (2 : Int) ^ h := by simp
  have := pow_le64 hh
  rw [← hc]
  generalize 2 ^ h = m at this ⊢
  exact IntWalk.i64_in _ (by omega)
theorem new_one (w : World) (x : Value) (T : TypeId) : ∀ (j : Nat) u, [x][j]? = some u → (w.alloc (.cells #[x] T)).cell? ((⟨w.heap.size, 0, none⟩ : Addr).add j) = some u := Sh.news_cells w [x] T
set_option maxHeartbeats 2000000 in
theorem leaves_calls (seed : ByteArray) (h : Nat) (nx : Int) (w : World) (hs : seed.size ≤ 70368744177664) (hh : h ≤ 6) :
    Calls Try.prog 72 #[.agg #[.string seed, .int .i64 (h : Int), .int .i64 nx]] w fun e w' => ∃ v, e = .returned v ∧ w'.ownsRow w.heap.size 9 1 v (leaves seed (2 ^ h)).length ((leaves seed (2 ^ h)).map Value.string) ∧ Below w.heap.size w w' := by
  have p64 := pow_le64 hh
  have pw := pow_wrap hh
  obtain ⟨n, hn⟩ : ∃ n, n = 2 ^ h := ⟨_, rfl⟩
  rw [← hn] at p64 pw ⊢
  have HS := Lib.hid hs
  obtain ⟨i0, hi, hz0, hz1, hz2⟩ := info_parts infoS
  clear hs hn
  go_enter Try.func72, Try.ntmps72
  go_wp2
  rw [pw]
  go_loopw [3, 8] (fun v i wr => ∃ j : Nat, j ≤ n ∧ i = .int .i64 j ∧ Hid (wr.ownsRow (w.heap.size + 1) 9 1 v j ((leaves seed j).map Value.string) ∧ Below w.heap.size w wr ∧ wr.cell? ⟨w.heap.size, 0, none⟩ = some (.string seed) ∧ w.heap.size < wr.heap.size)) (fun _ i _ => n - (intOf i).toNat)
  case atStart => exact ⟨0, Nat.zero_le _, rfl, Lib.hid ⟨World.ownsRow_nil _ _ _ _, (Below.refl _ _).alloc (Nat.le_refl _) _, new_cells w _ _ 0 _ rfl, by simp⟩⟩
  case round =>
    obtain ⟨j, hj, rfl, HB⟩ := hrel
    by_cases hlt : j < n
    · have HL := Lib.hid (leaves_succ seed j)
      have hc0 := HB.out.2.2.1
      have HF := Lib.hid (show ∀ w', Calls Try.prog 95 #[.string seed, .int .i64 (j : Int)] w' fun e w'' => e = .returned (.string (leafOf seed j)) ∧ Below w'.heap.size w' w'' from fun w' => leafOf_calls seed j w' HS.out (by omega))
      obtain ⟨x, hx⟩ : ∃ x, x = leafOf seed j := ⟨_, rfl⟩
      rw [← hx] at HL HF
      clear hx
      go_wp2_with (first | (go_at_call 95; refine (HF.out _).mono ?_; rintro e w1 ⟨rfl, hb1⟩) | (at_builtin; refine wpList_append_own _ rfl _ _ 22 rfl (w.heap.size + 1) 9 i0 (.string ⟨#[]⟩) 1 16 Try.underlying22 hi hz0 hz1 hz2 rfl (by decide) _ _ _ rfl ((own_below HB.out.1 hb1).alloc _) ⟨w1.heap.size, 0, none⟩ 1 1 [.string x] rfl rfl (new_one _ _ _) (by simp [Value.oneCell']) (by unfold maxLen; omega) (by omega) (by have := HB.out.2.2.2; have := hb1.size; simp; omega) ?_; intro v' w4 hown' hgrow _))
      have HO := Lib.hid hown'
      have HG := Lib.hid hgrow
      have HB1 := Lib.hid (HB.out.2.1.trans (hb1.mono HB.out.2.1.size))
      clear hown' hgrow
      go_roundw
      case rel =>
        have hlt0 : w.heap.size < w1.heap.size := Nat.lt_of_lt_of_le HB.out.2.2.2 hb1.size
        refine ⟨j + 1, by omega, by go_num, Lib.hid ⟨by rw [HL.out, List.map_append]; exact HO.out, (HB1.out.alloc HB1.out.size _).grown HG.out (by have := HB1.out.size; simp; omega) (fun k hk => by have := (HB.out.1.lt k hk).1; omega), ?_, Nat.lt_of_lt_of_le (by simp; omega) HG.out.size⟩⟩
        refine HG.out.cell ((((Below.refl w1.heap.size w1).alloc (Nat.le_refl _) _).cell (p := ⟨w.heap.size, 0, none⟩) hlt0).trans ((hb1.cell (p := ⟨w.heap.size, 0, none⟩) HB.out.2.2.2).trans HB.out.2.2.1)) (fun h => ?_)
        have := (HB.out.1.lt w.heap.size h.symm).1
        omega
      case measure => simp [intOf]; omega
    · have : j = n := by omega
      subst this
      go_wp2
      go_ret
      exact ⟨_, rfl, by rw [leaves_length]; exact own_weaken HB.out.1 (by omega), HB.out.2.1⟩
end Go.Proofs.Ytldkkboeaadbeaa.Sg
end
section
/- The signature scheme in the program: tree, valid, Public, Skip. -/
set_option linter.unusedVariables false
set_option linter.unusedSimpArgs false
namespace Go.Proofs.Ytldkkboeaadbeaa.Sg
open Go.RowKit Go.Proofs.YtldkkboeaadbeaaW.PrintWords Go.Proofs.YtldkkboeaadbeaaW.PrintLast Go.Proofs.YtldkkboeaadbeaaW.PrintMore
attribute [local go_sem] Sd.pureq Sd.pureAt Sd.pureUpon
abbrev keyV (seed : ByteArray) (h nx : Int) : Value := .agg #[.string seed, .int .i64 h, .int .i64 nx]
abbrev keyC (seed : ByteArray) (h nx : Int) : Array Value := #[.string seed, .int .i64 h, .int .i64 nx]
def treeB (seed : ByteArray) (h : Int) : Bool := decide (seed.size = 32 ∧ 0 ≤ h ∧ h ≤ 6)
set_option maxHeartbeats 1000000 in
theorem tree_calls (seed : ByteArray) (h nx : Int) (w : World) :
    Calls Try.prog 70 #[keyV seed h nx] w fun e w' => e = .returned (.bool (treeB seed h)) ∧ Below w.heap.size w w' := by
  by_cases h1 : seed.size = 32
  · by_cases h2 : 0 ≤ h
    · by_cases h3 : h ≤ 6
      · have HS := Lib.hid (show treeB seed h = true from decide_eq_true ⟨h1, h2, h3⟩)
        go_enter Try.func70, Try.ntmps70
        go_wp2
        go_ret
        exact ⟨by rw [HS.out]; first | rfl | simp [h1, h2, h3], (Below.refl _ _).alloc (Nat.le_refl _) _⟩
      · have HS := Lib.hid (show treeB seed h = false from decide_eq_false fun hh => h3 hh.2.2)
        have d3 : decide (h ≤ 6) = false := decide_eq_false h3
        go_enter Try.func70, Try.ntmps70
        go_wp2
        go_ret
        exact ⟨by rw [HS.out]; first | rfl | simp [h3], (Below.refl _ _).alloc (Nat.le_refl _) _⟩
    · have HS := Lib.hid (show treeB seed h = false from decide_eq_false fun hh => h2 hh.2.1)
      have d2 : decide (0 ≤ h) = false := decide_eq_false h2
      go_enter Try.func70, Try.ntmps70
      go_wp2
      go_ret
      exact ⟨by rw [HS.out]; first | rfl | simp [h2], (Below.refl _ _).alloc (Nat.le_refl _) _⟩
  · have HS := Lib.hid (show treeB seed h = false from decide_eq_false fun hh => h1 hh.1)
    have d1 : ((seed.size : Int) == 32) = false := beq_eq_false_iff_ne.mpr (by omega)
    go_enter Try.func70, Try.ntmps70
    go_wp2
    go_ret
    exact ⟨by rw [HS.out]; first | rfl | simp [h1], (Below.refl _ _).alloc (Nat.le_refl _) _⟩
def validB (seed : ByteArray) (h nx : Int) : Bool := decide ((seed.size = 32 ∧ 0 ≤ h ∧ h ≤ 6) ∧ 0 ≤ nx ∧ nx ≤ 2 ^ h.toNat)
theorem box_cells {w w' : World} {T : TypeId} {seed : ByteArray} {h nx : Int} (hb : Below (w.heap.size + 1) (w.alloc (.cells (keyC seed h nx) T)) w') :
    w'.cell? ⟨w.heap.size, 0, none⟩ = some (.string seed) ∧ w'.cell? ⟨w.heap.size, 1, none⟩ = some (.int .i64 h) ∧ w'.cell? ⟨w.heap.size, 2, none⟩ = some (.int .i64 nx) :=
  ⟨(hb.cell (p := ⟨w.heap.size, 0, none⟩) (by simp)).trans (new_cells w [.string seed, .int .i64 h, .int .i64 nx] _ 0 _ rfl), (hb.cell (p := ⟨w.heap.size, 1, none⟩) (by simp)).trans (new_cells w [.string seed, .int .i64 h, .int .i64 nx] _ 1 _ rfl), (hb.cell (p := ⟨w.heap.size, 2, none⟩) (by simp)).trans (new_cells w [.string seed, .int .i64 h, .int .i64 nx] _ 2 _ rfl)⟩
set_option maxHeartbeats 1000000 in
theorem valid_yes (seed : ByteArray) (h : Nat) (nx : Int) (w : World) (h1 : seed.size = 32) (h3 : h ≤ 6) (h4 : 0 ≤ nx) (h5 : nx ≤ (2 ^ h : Nat)) :
    Calls Try.prog 73 #[keyV seed h nx] w fun e w' => e = .returned (.bool true) ∧ Below w.heap.size w w' := by
  have pw := pow_wrap h3
  have pw' := pow_wrap' h3
  obtain ⟨n, hn⟩ : ∃ n, n = 2 ^ h := ⟨_, rfl⟩
  rw [← hn] at pw pw' h5
  have HT := Lib.hid (show ∀ w', Calls Try.prog 70 #[keyV seed h nx] w' fun e w'' => e = .returned (.bool true) ∧ Below w'.heap.size w' w'' from fun w' => by
    have := tree_calls seed h nx w'
    rwa [show treeB seed h = true from decide_eq_true ⟨h1, by omega, by omega⟩] at this)
  have d4 : decide (0 ≤ nx) = true := decide_eq_true h4
  have d5 : decide (nx ≤ (n : Int)) = true := decide_eq_true h5
  have HC := Lib.hid (show ∀ w', Below (w.heap.size + 1) (w.alloc (.cells (keyC seed h nx) 67)) w' → _ from fun w' hb => box_cells hb)
  clear hn
  go_enter Try.func73, Try.ntmps73
  go_wp2
  refine Sd.region (fun w' => Below (w.heap.size + 1) (w.alloc (.cells (keyC seed h nx) 67)) w') [(0, 1), (1, 2), (2, 0), (3, 0), (4, 1), (5, 0), (6, 0), (7, 0), (8, 0), (9, 1), (10, 0), (11, 1), (12, 0), (13, 0), (14, 0), (15, 0)] (by kernel_rfl) (by kernel_rfl) (fun _ _ _ _ _ h => h) ((Below.refl _ _).drew) ?_
  (refine Sd.s1 rfl (fun K hK => ?_); go_simp; refine ⟨keyV seed h nx, fun w' hw' => (by obtain ⟨e0, e1, e2⟩ := HC.out w' hw'; simp [e0, e1, e2, Result.andThen]), hK _ ?_⟩; clear hK K)
  (refine Sd.s2 rfl (fun K hK => ?_); go_simp; refine (HT.out _).mono ?_; rintro e w1 ⟨rfl, hb1⟩; have hB1 := ((Below.refl (w.heap.size + 1) (w.alloc (.cells (keyC seed h nx) 67))).drew).trans (hb1.mono (by simp)); refine hK _ _ hB1 ?_; clear hK K)
  iterate 2 (refine Sd.s0 rfl (fun K hK => ?_); go_simp; refine hK _ ?_; clear hK K)
  (refine Sd.s1 rfl (fun K hK => ?_); go_simp; refine ⟨.int .i64 nx, fun w' hw' => (by obtain ⟨e0, e1, e2⟩ := HC.out w' hw'; simp [e2, Result.andThen]), hK _ ?_⟩; clear hK K)
  iterate 4 (refine Sd.s0 rfl (fun K hK => ?_); go_simp; refine hK _ ?_; clear hK K)
  (refine Sd.s1 rfl (fun K hK => ?_); go_simp; refine ⟨.int .i64 nx, fun w' hw' => (by obtain ⟨e0, e1, e2⟩ := HC.out w' hw'; simp [e2, Result.andThen]), hK _ ?_⟩; clear hK K)
  iterate 1 (refine Sd.s0 rfl (fun K hK => ?_); go_simp; refine hK _ ?_; clear hK K)
  (refine Sd.s1 rfl (fun K hK => ?_); go_simp; refine ⟨.int .i64 h, fun w' hw' => (by obtain ⟨e0, e1, e2⟩ := HC.out w' hw'; simp [e1, Result.andThen]), hK _ ?_⟩; clear hK K)
  iterate 2 (refine Sd.s0 rfl (fun K hK => ?_); go_simp; refine hK _ ?_; clear hK K)
  iterate 2 (refine Sd.s0 rfl (fun K hK => ?_); go_simp; refine hK _ ?_; clear hK K)
  refine Sd.nil ?_
  go_wp2
  go_ret
  exact ⟨rfl, ((Below.refl w.heap.size w).alloc (Nat.le_refl _) _).trans (hB1.mono (by simp))⟩
end Go.Proofs.Ytldkkboeaadbeaa.Sg
end
section
/- The signature scheme in the program: Public. -/
set_option linter.unusedVariables false
set_option linter.unusedSimpArgs false
namespace Go.Proofs.Ytldkkboeaadbeaa.Sg
open Go.RowKit Go.Proofs.YtldkkboeaadbeaaW.PrintWords Go.Proofs.YtldkkboeaadbeaaW.PrintLast Go.Proofs.YtldkkboeaadbeaaW.PrintMore
attribute [local go_sem] Sd.pureq Sd.pureAt Sd.pureUpon
theorem strN_one {h : Nat} (hh : h ≤ 6) : Sh.strN [h] = ⟨#[UInt8.ofNat h]⟩ := by
  rcases (by omega : h = 0 ∨ h = 1 ∨ h = 2 ∨ h = 3 ∨ h = 4 ∨ h = 5 ∨ h = 6) with rfl | rfl | rfl | rfl | rfl | rfl | rfl <;> rfl
theorem rootS_leaves (seed : ByteArray) {h : Nat} (hh : h ≤ 6) : rootS (leaves seed (2 ^ h)) = root (leaves seed (2 ^ h)) := by
  rw [rootS, if_pos]
  refine ⟨?_, (dgst_iff _).2 (leaves_size _ _)⟩
  have := pow_le64 hh
  rw [leaves_length]; omega
theorem strs_of_own {w : World} {base n : Nat} {e : TypeId} {v : Value} {xs : List ByteArray} (h : w.ownsRow base e 1 v n (xs.map Value.string)) : ∃ A c, v = .slice A n c ∧ n ≤ c ∧ Strs w A n xs :=
  own_reads_of_le (enc := Value.string) (d := ByteArray.empty) h
theorem strs_alloc {w : World} {A : Option Addr} {n : Nat} {l : List ByteArray} (h : Strs w A n l) (o : Obj) : Strs (w.alloc o) A n l := h.below ((Below.refl _ _).alloc (Nat.le_refl _) _)
def Ext (W0 w : World) : Prop := Below W0.heap.size W0 w
theorem Ext.below {W0 W : World} (h : Ext W0 W) : Below W0.heap.size W0 W := h
theorem Ext.refl (W : World) : Ext W W := Below.refl _ _
theorem Ext.call {W0 W W' : World} (h : Ext W0 W) (hb : Below W.heap.size W W') : Ext W0 W' := h.below.trans (hb.mono h.below.size)
theorem Ext.alloc {W0 W : World} (h : Ext W0 W) (o : Obj) : Ext W0 (W.alloc o) := h.below.alloc h.below.size o
theorem Ext.new {W0 W : World} (_ : Ext W0 W) (o : Obj) : (W.alloc o).heap[W.heap.size]? = some o := heap_alloc_new W o
theorem Ext.out {w W : World} {o : Obj} (h : Ext (w.alloc o) W) : Below w.heap.size w W := ((Below.refl w.heap.size w).alloc (Nat.le_refl _) _).trans (h.below.mono (by simp))
theorem Ext.grown {W0 W W1 : World} {v : Value} {row : Option Nat} (h : Ext W0 W) (hg : W.grownBy W1 row) (hr : ∀ k, row = some k → W0.heap.size ≤ k) : Ext W0 W1 := h.below.grown hg h.below.size hr
theorem Ext.drew {W0 W : World} (h : Ext W0 W) : Ext W0 W.drew := h.below.drew
theorem Ext.block {W W' : World} {b : Nat} {o : Obj} (hb : Below W.heap.size W W') (h : W.heap[b]? = some o) : W'.heap[b]? = some o := (hb.block b (Array.getElem?_eq_some_iff.1 h).1).trans h
set_option maxHeartbeats 4000000 in
theorem Public_yes (seed : ByteArray) (h : Nat) (nx : Int) (w : World) (h1 : seed.size = 32) (h3 : h ≤ 6) :
    Calls Try.prog 41 #[keyV seed h nx] w fun e w' => e = .returned (.tuple #[.string (public_ seed h), .int .i64 0]) ∧ Below w.heap.size w w' := by
  have HT := Lib.hid (show ∀ w', Calls Try.prog 70 #[keyV seed h nx] w' fun e w'' => e = .returned (.bool true) ∧ Below w'.heap.size w' w'' from fun w' => by
    have := tree_calls seed h nx w'
    rwa [show treeB seed h = true from decide_eq_true ⟨h1, by omega, by omega⟩] at this)
  have HL := Lib.hid (fun w' => leaves_calls seed h nx w' (by omega) h3)
  have HR := Lib.hid (show ∀ (w' : World) (A : Option Addr) (c : Nat), Strs w' A (leaves seed (2 ^ h)).length (leaves seed (2 ^ h)) → (leaves seed (2 ^ h)).length ≤ c → Calls Try.prog 71 #[.slice A (leaves seed (2 ^ h)).length c] w' fun e w'' => e = .returned (.string (root (leaves seed (2 ^ h)))) ∧ Below w'.heap.size w' w'' from fun w' A c hr hc => by
    have := Root_calls A c _ w' hr hc
    rwa [rootS_leaves seed h3] at this)
  have HP := Lib.hid (show public_ seed h = root (leaves seed (2 ^ h)) ++ Sh.strN [h] by rw [strN_one h3]; rfl)
  have hrs : (root (leaves seed (2 ^ h))).size = 32 := root_size _ _ (Nat.le_refl _) (leaves_size _ _)
  obtain ⟨l, hl⟩ : ∃ l, l = leaves seed (2 ^ h) := ⟨_, rfl⟩
  rw [← hl] at HL HR HP hrs
  obtain ⟨r, hr⟩ : ∃ r, r = root l := ⟨_, rfl⟩
  rw [← hr] at HR HP hrs
  obtain ⟨n, hn⟩ : ∃ n, n = l.length := ⟨_, rfl⟩
  rw [← hn] at HL HR
  obtain ⟨s, hs⟩ : ∃ s, s = Sh.strN [h] := ⟨_, rfl⟩
  have HV := Lib.hid (show ∀ (W : World) (b : Nat), W.heap[b]? = some (.cells #[.int .u8 (h : Int)] 5 (0, 0)) → (convert 58 9 (.slice (some ⟨b, 0, none⟩) 1 1)).run Try.prog W = .ok (.string s) W from fun W b hg => by rw [hs]; exact Sh.conv_row W b 1 1 5 _ (0, 0) [h] hg rfl rfl)
  have hss : s.size = 1 := by rw [hs, strN_one h3]; rfl
  rw [← hs] at HP
  have hbig : (9223372036854775807 < r.size + s.size) = False := eq_false (by omega)
  have w8 : IntKind.u8.wrap (h : Int) = (h : Int) := by unfold IntKind.wrap; simp [IntKind.bits]; omega
  have w8' : (h : Int) % 256 = (h : Int) := by omega
  have HC := Lib.hid (show ∀ w', Ext (w.alloc (.cells (keyC seed h nx) 67)) w' → _ from fun w' hb => box_cells (by have := Ext.below hb; rwa [World.size_alloc] at this))
  clear hl hr hn hs hrs hss
  go_enter Try.func41, Try.ntmps41
  go_wp2_with (go_at_call 70; refine (HT.out _).mono ?_; rintro e w0 ⟨rfl, hb0⟩)
  have hB0 := Ext.call (Ext.refl (w.alloc (.cells (keyC seed h nx) 67))) hb0
  refine Sd.regionT (Ext (w.alloc (.cells (keyC seed h nx) 67))) [] (.two [(0, 1), (3, 0), (4, 1), (5, 0)] 1 6 (.two [] 2 6 (.seq [(6, 2), (7, 2), (8, 0), (9, 0), (10, 0)]) (.two [] 2 7 (.seq [(7, 2), (8, 0), (9, 0), (10, 0)]) (.seq [(2, 2), (8, 0), (9, 0), (10, 0)]))) (.two [] 1 7 (.two [] 2 7 (.seq [(7, 2), (8, 0), (9, 0), (10, 0)]) (.seq [(2, 2), (8, 0), (9, 0), (10, 0)])) (.seq [(1, 2), (2, 2), (8, 0), (9, 0), (10, 0)]))) (by kernel_rfl) (by kernel_rfl) (fun _ _ _ _ _ h => h) hB0.drew ?_
  have hBa := hB0.drew
  generalize w0.drew = wd at hBa ⊢
  (refine Sd.s1 rfl (fun K hK => ?_); go_simp; refine ⟨keyV seed h nx, fun w' hw' => (by obtain ⟨e0, e1, e2⟩ := HC.out w' hw'; simp [e0, e1, e2, Result.andThen]), hK _ ?_⟩; clear hK K)
  iterate 1 (refine Sd.s0 rfl (fun K hK => ?_); go_simp; refine hK _ ?_; clear hK K)
  (refine Sd.s1 rfl (fun K hK => ?_); go_simp; refine ⟨.int .i64 h, fun w' hw' => (by obtain ⟨e0, e1, e2⟩ := HC.out w' hw'; simp [e1, Result.andThen]), hK _ ?_⟩; clear hK K)
  iterate 1 (refine Sd.s0 rfl (fun K hK => ?_); go_simp; refine hK _ ?_; clear hK K)
  refine Sd.nil ⟨?_, ?_⟩
  · (refine Sd.s2 rfl (fun K hK => ?_); go_simp; refine (HL.out _).mono ?_; rintro e w1 ⟨v1, rfl, ho1, hb1⟩; obtain ⟨A1, c1, rfl, hc1, hr1⟩ := strs_of_own ho1; have hB1 := Ext.call hBa hb1; refine hK _ _ hB1 ?_; clear hK K ho1)
    refine Sd.nil ?_
    refine Sd.nil ⟨?_, ?_⟩
    · (refine Sd.s2 rfl (fun K hK => ?_); go_simp; refine (HR.out _ _ _ hr1 hc1).mono ?_; rintro e w2 ⟨rfl, hb2⟩; have hB2 := Ext.call hB1 hb2; refine hK _ _ hB2 ?_; clear hK K)
      refine Sd.nil ?_
      (refine Sd.s2 rfl (fun K hK => ?_); go_simp; have hB3 := Ext.alloc hB2 (.cells #[.int .u8 (h : Int)] 5); refine hK _ _ hB3 ?_; clear hK K; have hg3 := Ext.new hB2 (.cells #[.int .u8 (h : Int)] 5))
      (refine Sd.s2 rfl (fun K hK => ?_); have hv4 := HV.out _ _ hg3; go_simp; refine hK _ _ hB3 ?_; clear hK K hv4)
      iterate 3 (refine Sd.s0 rfl (fun K hK => ?_); go_simp; refine hK _ ?_; clear hK K)
      refine Sd.nil ?_
      go_wp2
      go_ret2
      exact ⟨by rw [HP.out]; rfl, Ext.out hB3⟩
    · (refine Sd.s2 rfl (fun K hK => ?_); go_simp; have hB5 := Ext.alloc hB1 (.cells #[.int .u8 (h : Int)] 5); refine hK _ _ hB5 ?_; clear hK K; have hg5 := Ext.new hB1 (.cells #[.int .u8 (h : Int)] 5); have hr5 := strs_alloc hr1 (.cells #[.int .u8 (h : Int)] 5))
      refine Sd.nil ?_
      refine Sd.nil ⟨?_, ?_⟩
      · (refine Sd.s2 rfl (fun K hK => ?_); go_simp; refine (HR.out _ _ _ hr5 hc1).mono ?_; rintro e w6 ⟨rfl, hb6⟩; have hB6 := Ext.call hB5 hb6; refine hK _ _ hB6 ?_; clear hK K; have hg6 := Ext.block hb6 hg5)
        refine Sd.nil ?_
        (refine Sd.s2 rfl (fun K hK => ?_); have hv7 := HV.out _ _ hg6; go_simp; refine hK _ _ hB6 ?_; clear hK K hv7)
        iterate 3 (refine Sd.s0 rfl (fun K hK => ?_); go_simp; refine hK _ ?_; clear hK K)
        refine Sd.nil ?_
        go_wp2
        go_ret2
        exact ⟨by rw [HP.out]; rfl, Ext.out hB6⟩
      · (refine Sd.s2 rfl (fun K hK => ?_); have hv8 := HV.out _ _ hg5; go_simp; refine hK _ _ hB5 ?_; clear hK K hv8)
        refine Sd.nil ?_
        (refine Sd.s2 rfl (fun K hK => ?_); go_simp; refine (HR.out _ _ _ hr5 hc1).mono ?_; rintro e w9 ⟨rfl, hb9⟩; have hB9 := Ext.call hB5 hb9; refine hK _ _ hB9 ?_; clear hK K)
        iterate 3 (refine Sd.s0 rfl (fun K hK => ?_); go_simp; refine hK _ ?_; clear hK K)
        refine Sd.nil ?_
        go_wp2
        go_ret2
        exact ⟨by rw [HP.out]; rfl, Ext.out hB9⟩
  · (refine Sd.s2 rfl (fun K hK => ?_); go_simp; have hB10 := Ext.alloc hBa (.cells #[.int .u8 (h : Int)] 5); refine hK _ _ hB10 ?_; clear hK K; have hg10 := Ext.new hBa (.cells #[.int .u8 (h : Int)] 5))
    refine Sd.nil ?_
    refine Sd.nil ⟨?_, ?_⟩
    · (refine Sd.s2 rfl (fun K hK => ?_); go_simp; refine (HL.out _).mono ?_; rintro e w11 ⟨v11, rfl, ho11, hb11⟩; obtain ⟨A11, c11, rfl, hc11, hr11⟩ := strs_of_own ho11; have hB11 := Ext.call hB10 hb11; refine hK _ _ hB11 ?_; clear hK K ho11; have hg11 := Ext.block hb11 hg10)
      refine Sd.nil ?_
      refine Sd.nil ⟨?_, ?_⟩
      · (refine Sd.s2 rfl (fun K hK => ?_); go_simp; refine (HR.out _ _ _ hr11 hc11).mono ?_; rintro e w12 ⟨rfl, hb12⟩; have hB12 := Ext.call hB11 hb12; refine hK _ _ hB12 ?_; clear hK K; have hg12 := Ext.block hb12 hg11)
        refine Sd.nil ?_
        (refine Sd.s2 rfl (fun K hK => ?_); have hv13 := HV.out _ _ hg12; go_simp; refine hK _ _ hB12 ?_; clear hK K hv13)
        iterate 3 (refine Sd.s0 rfl (fun K hK => ?_); go_simp; refine hK _ ?_; clear hK K)
        refine Sd.nil ?_
        go_wp2
        go_ret2
        exact ⟨by rw [HP.out]; rfl, Ext.out hB12⟩
      · (refine Sd.s2 rfl (fun K hK => ?_); have hv14 := HV.out _ _ hg11; go_simp; refine hK _ _ hB11 ?_; clear hK K hv14)
        refine Sd.nil ?_
        (refine Sd.s2 rfl (fun K hK => ?_); go_simp; refine (HR.out _ _ _ hr11 hc11).mono ?_; rintro e w15 ⟨rfl, hb15⟩; have hB15 := Ext.call hB11 hb15; refine hK _ _ hB15 ?_; clear hK K)
        iterate 3 (refine Sd.s0 rfl (fun K hK => ?_); go_simp; refine hK _ ?_; clear hK K)
        refine Sd.nil ?_
        go_wp2
        go_ret2
        exact ⟨by rw [HP.out]; rfl, Ext.out hB15⟩
    · (refine Sd.s2 rfl (fun K hK => ?_); have hv16 := HV.out _ _ hg10; go_simp; refine hK _ _ hB10 ?_; clear hK K hv16)
      refine Sd.nil ?_
      (refine Sd.s2 rfl (fun K hK => ?_); go_simp; refine (HL.out _).mono ?_; rintro e w17 ⟨v17, rfl, ho17, hb17⟩; obtain ⟨A17, c17, rfl, hc17, hr17⟩ := strs_of_own ho17; have hB17 := Ext.call hB10 hb17; refine hK _ _ hB17 ?_; clear hK K ho17)
      (refine Sd.s2 rfl (fun K hK => ?_); go_simp; refine (HR.out _ _ _ hr17 hc17).mono ?_; rintro e w18 ⟨rfl, hb18⟩; have hB18 := Ext.call hB17 hb18; refine hK _ _ hB18 ?_; clear hK K)
      iterate 3 (refine Sd.s0 rfl (fun K hK => ?_); go_simp; refine hK _ ?_; clear hK K)
      refine Sd.nil ?_
      go_wp2
      go_ret2
      exact ⟨by rw [HP.out]; rfl, Ext.out hB18⟩
end Go.Proofs.Ytldkkboeaadbeaa.Sg
end
section
/- The digits of a digest in the program: Hex. -/
set_option linter.unusedVariables false
set_option linter.unusedSimpArgs false
namespace Go.Proofs.Ytldkkboeaadbeaa.Sg
open Go.RowKit Go.Proofs.YtldkkboeaadbeaaW.PrintWords Go.Proofs.YtldkkboeaadbeaaW.PrintLast Go.Proofs.YtldkkboeaadbeaaW.PrintMore
attribute [local go_sem] Sd.pureq Sd.pureAt Sd.pureUpon
def hd (d : Nat) : Nat := if d < 10 then 48 + d else 87 + d
abbrev DIG : ByteArray := ⟨#[48, 49, 50, 51, 52, 53, 54, 55, 56, 57, 97, 98, 99, 100, 101, 102]⟩
def hexL (l : List Nat) : List Nat := l.flatMap fun b => [hd (b / 16), hd (b % 16)]
theorem hexL_length (l : List Nat) : (hexL l).length = 2 * l.length := by
  induction l with
  | nil => rfl
  | cons a l ih => simp only [hexL, List.flatMap_cons, List.length_append, List.length_cons, List.length_nil] at ih ⊢; omega
theorem hexL_snoc (l : List Nat) (b : Nat) : hexL (l ++ [b]) = hexL l ++ [hd (b / 16), hd (b % 16)] := by simp [hexL]
theorem dig_index (d : Nat) (h : d < 16) (W : World) : (Instr.index 9 (.string DIG) (.int .u8 (d : Int))).run Try.prog W = .ok (.int .u8 (hd d : Nat)) W := by
  rcases (by omega : d = 0 ∨ d = 1 ∨ d = 2 ∨ d = 3 ∨ d = 4 ∨ d = 5 ∨ d = 6 ∨ d = 7 ∨ d = 8 ∨ d = 9 ∨ d = 10 ∨ d = 11 ∨ d = 12 ∨ d = 13 ∨ d = 14 ∨ d = 15) with rfl | rfl | rfl | rfl | rfl | rfl | rfl | rfl | rfl | rfl | rfl | rfl | rfl | rfl | rfl | rfl
  all_goals kernel_rfl
theorem nat_take_succ (s : ByteArray) (j : Nat) (h : j < s.size) : (Sh.nat s).take (j + 1) = (Sh.nat s).take j ++ [s[j].toNat] := by
  have hl : j < (Sh.nat s).length := by rw [Sh.nat_length]; exact h
  rw [List.take_succ_eq_append_getElem hl]
  congr 2
  simp [Sh.nat]
  rfl
theorem and15 (x : Nat) (h : x < 256) : Go.bits .and .u8 (x : Int) 15 = ((x % 16 : Nat) : Int) := by
  have : ∀ x : Fin 256, Go.bits .and .u8 (x.val : Int) 15 = ((x.val % 16 : Nat) : Int) := by decide +kernel
  exact this ⟨x, h⟩
theorem infoB : (Try.prog.info? 5).map (fun i => (i.zero, i.size, i.bytes)) = some (some (.int .u8 0), 1, 1) := by kernel_rfl
set_option maxHeartbeats 2000000 in
theorem Hex_calls (s : ByteArray) (w : World) (h0 : 0 < s.size) (hs : s.size ≤ 1099511627776) :
    Calls Try.prog 86 #[.string s] w fun e w' => e = .returned (.string (Sh.strN (hexL (Sh.nat s)))) ∧ Below w.heap.size w w' := by
  obtain ⟨X, hX⟩ : ∃ X, X = Sh.strN (hexL (Sh.nat s)) := ⟨_, rfl⟩
  rw [← hX]
  have HX := Lib.hid hX
  clear hX
  obtain ⟨i0, hi, hz0, hz1, hz2⟩ := info_parts infoB
  obtain ⟨M, hM⟩ : ∃ M, M = madeCells (Value.int .u8 0).cells (2 * s.size * 1) := ⟨_, rfl⟩
  have hmk : ∀ W, (Instr.makeSlice 58 (.int .i64 0) (.int .i64 (2 * (s.size : Int)))).run Try.prog W = .ok (.slice (some ⟨W.heap.size, 0, none⟩) 0 (2 * s.size)) (W.alloc (.cells M 5)) := fun W => by
    have := Pr.run_make_rowN_ (P := Try.prog) 58 5 i0 (.int .u8 0) Try.underlying58 hi hz0 .i64 .i64 0 (2 * s.size) (by omega) (by rw [hz2]; omega) (by omega) W
    rw [hz1, ← hM, show ((2 * s.size : Nat) : Int) = 2 * (s.size : Int) by omega] at this
    exact this
  have HM := Lib.hid (show M.size = 2 * s.size * 1 by rw [hM, size_madeCells])
  clear hM
  go_enter Try.func86, Try.ntmps86
  go_wp2
  go_loopw [3, 11] (fun v i wr => ∃ j : Nat, j ≤ s.size ∧ i = .int .i64 j ∧ Hid (wr.ownsRow w.heap.size 5 1 v (2 * j) ((hexL ((Sh.nat s).take j)).map fun x => Value.int .u8 (x : Nat)) ∧ Below w.heap.size w wr)) (fun _ i _ => s.size - (intOf i).toNat)
  case atStart =>
    exact ⟨0, Nat.zero_le _, rfl, Lib.hid ⟨⟨by simp [hexL], .inr ⟨w.heap.size, 2 * s.size, M, by simp, Nat.le_refl _, by simpa using heap_alloc_new w _, by omega, by unfold maxLen; omega, HM.out, by simp [hexL]⟩⟩, (Below.refl _ _).alloc (Nat.le_refl _) _⟩⟩
  case round =>
    obtain ⟨j, hj, rfl, HB⟩ := hrel
    by_cases hlt : j < s.size
    · have HN := Lib.hid (nat_take_succ s j hlt)
      obtain ⟨b, hb⟩ : ∃ b, b = s[j].toNat := ⟨_, rfl⟩
      rw [← hb] at HN
      have hb256 : b < 256 := by rw [hb]; exact s[j].toNat_lt
      have hx1 : ∀ W, (Instr.index 9 (.string DIG) (.int .u8 ((s[j].toNat : Int) / 16))).run Try.prog W = .ok (.int .u8 (hd (b / 16) : Nat)) W := fun W => by
        have := dig_index (b / 16) (by omega) W
        rwa [show ((b / 16 : Nat) : Int) = (s[j].toNat : Int) / 16 by rw [hb]; omega] at this
      have hx2 : ∀ W, (Instr.index 9 (.string DIG) (.int .u8 ((s[j].toNat : Int) % 16))).run Try.prog W = .ok (.int .u8 (hd (b % 16) : Nat)) W := fun W => by
        have := dig_index (b % 16) (by omega) W
        rwa [show ((b % 16 : Nat) : Int) = (s[j].toNat : Int) % 16 by rw [hb]; omega] at this
      have ha : Go.bits .and .u8 (s[j].toNat : Int) 15 = (s[j].toNat : Int) % 16 := by
        rw [← hb, and15 b hb256]; omega
      obtain ⟨d1, hd1⟩ : ∃ d, d = hd (b / 16) := ⟨_, rfl⟩
      obtain ⟨d2, hd2⟩ : ∃ d, d = hd (b % 16) := ⟨_, rfl⟩
      have HE := Lib.hid (show hexL ((Sh.nat s).take (j + 1)) = hexL ((Sh.nat s).take j) ++ [d1, d2] by rw [HN.out, hexL_snoc, hd1, hd2])
      rw [← hd1] at hx1
      rw [← hd2] at hx2
      clear hd1 hd2 hb hb256 HN
      have hsz := HB.out.2.size
      have hO := own_drew HB.out.1
      have hE : Ext w wr.drew := Ext.drew HB.out.2
      go_wp2
      refine Sd.region (Ext w) [(0, 0), (1, 0), (2, 0), (3, 0), (4, 0), (5, 0), (6, 0), (7, 0), (8, 0), (9, 0), (10, 0), (11, 2), (12, 2), (13, 2)] (by kernel_rfl) (by kernel_rfl) (fun _ _ _ _ _ h => h) hE ?_
      generalize wr.drew = wd at hO hE ⊢
      iterate 11 (refine Sd.s0 rfl (fun K hK => ?_); go_simp; refine hK _ ?_; clear hK K)
      (refine Sd.s2 rfl (fun K hK => ?_); go_simp; refine hK _ _ (hE.alloc _) ?_; clear hK K)
      refine Sd.s2 rfl (fun K hK => ?_)
      refine Sd.append_ w.heap.size rfl (.tmp 14) (.tmp 25) 58 5 (.int .u8 0) 1 1 rfl Try.underlying58 infoB rfl (by decide) _ (2 * j) _ ⟨wd.heap.size, 0, none⟩ 2 2 [.int .u8 (d1 : Nat), .int .u8 (d2 : Nat)] rfl rfl rfl (Sh.news_cells _ _ _) (by simp [Value.oneCell']) (hO.alloc _) (by unfold maxLen; omega) (by omega) (by have := hE.below.size; simp; omega) ?_
      intro v1 w1 ho1 hg1
      have hE1 : Ext w w1 := (hE.alloc _).grown (v := v1) hg1 (fun k hk => (hO.lt k hk).1)
      have HO1 := Lib.hid ho1
      clear ho1 hg1
      refine hK _ _ hE1 ?_
      clear hK K
      (refine Sd.s2 rfl (fun K hK => ?_); go_simp; refine hK _ _ hE1 ?_; clear hK K)
      refine Sd.nil ?_
      go_wp2
      go_roundw
      case rel => exact ⟨j + 1, by omega, by go_num, Lib.hid ⟨by rw [HE.out]; simpa [Nat.mul_add] using HO1.out, hE1⟩⟩
      case measure => simp [intOf]; omega
    · have : j = s.size := by omega
      subst this
      have hown := HB.out.1
      rw [List.take_of_length_le (by rw [Sh.nat_length]; exact Nat.le_refl _)] at hown
      have hsz : (hexL (Sh.nat s)).length = 2 * s.size := by rw [hexL_length, Sh.nat_length]
      obtain ⟨g2, cap, cur, rfl, hg1, hg2, hg3, hg4, hg5, hg6⟩ : ∃ g2 cap cur, u3 = .slice (some ⟨g2, 0, none⟩) (2 * s.size) cap ∧ w.heap.size ≤ g2 ∧ wr.heap[g2]? = some (.cells cur 5 (0, 0)) ∧ 2 * s.size ≤ cap ∧ cap ≤ maxLen ∧ cur.size = cap * 1 ∧ cur.toList.take (2 * s.size * 1) = ((hexL (Sh.nat s)).map fun x => Value.int .u8 (x : Nat)) := by
        rcases hown.2 with ⟨_, hz⟩ | ⟨g2, cap, cur, hv, r⟩
        · omega
        · exact ⟨g2, cap, cur, hv, r⟩
      have hconv := Sh.conv_row wr g2 (2 * s.size) cap 5 cur (0, 0) (hexL (Sh.nat s)) hg2 hsz.symm (by rw [← hg6, Nat.mul_one])
      rw [← HX.out] at hconv
      have HB2 := Lib.hid HB.out.2
      clear hown HB hg1 hg2 hg3 hg4 hg5 hg6 hsz hmk HM
      go_wp2
      go_ret
      exact ⟨rfl, HB2.out⟩
end Go.Proofs.Ytldkkboeaadbeaa.Sg
end
section
/- The digits of a message in the program: Digits. -/
set_option linter.unusedVariables false
set_option linter.unusedSimpArgs false
namespace Go.Proofs.Ytldkkboeaadbeaa.Sg
open Go.RowKit Go.Proofs.YtldkkboeaadbeaaW.PrintWords Go.Proofs.YtldkkboeaadbeaaW.PrintLast Go.Proofs.YtldkkboeaadbeaaW.PrintMore
attribute [local go_sem] Sd.pureq Sd.pureAt Sd.pureUpon
abbrev ints (l : List Nat) : List Value := l.map fun d => Value.int .i64 (d : Nat)
theorem rune_index (d : Nat) (h : d < 16) (w : World) : Calls Try.prog 88 #[.string DIG, .int .i32 (hd d : Nat)] w fun e w' => e = .returned (.int .i64 (d : Int)) ∧ w = w' := by
  have h1 := Try.strings_IndexRune_ascii DIG (hd d : Nat) w (by omega) (by unfold hd; split <;> omega)
  have h2 : Lib.indexByte DIG.data.toList ((hd d : Nat) : Int).toNat.toUInt8 = (d : Int) := by
    rw [Int.toNat_natCast]
    have : ∀ d : Fin 16, Lib.indexByte DIG.data.toList (hd d.val).toUInt8 = (d.val : Int) := by decide +kernel
    exact this ⟨d, h⟩
  rw [h2] at h1
  exact h1.mono fun e w' ⟨a, b⟩ => ⟨a, b.symm⟩
theorem hexL_nib (m : ByteArray) : hexL (Sh.nat (H m)) = (nib m).map hd := by
  unfold hexL nib
  rw [List.map_flatMap]
  rfl
theorem chk_snoc : ∀ (l : List Nat) (d : Nat), chk (l ++ [d]) = chk l + (15 - d)
  | [], d => by simp [chk]
  | x :: l, d => by simp only [List.cons_append, chk, chk_snoc l d]; omega
theorem infoI : (Try.prog.info? 3).map (fun i => (i.zero, i.size, i.bytes)) = some (some (.int .i64 0), 1, 8) := by kernel_rfl
theorem iter_new (w : World) (s : ByteArray) : (w.alloc (.stringIter s 0)).heap[w.heap.size]? = some (.stringIter s 0) := heap_alloc_new _ _
theorem and_15 (x : Nat) (h : x ≤ 1000) : Go.bits .and .i64 (x : Int) 15 = ((x % 16 : Nat) : Int) := by
  have : ∀ x : Fin 1001, Go.bits .and .i64 (x.val : Int) 15 = ((x.val % 16 : Nat) : Int) := by decide +kernel
  exact this ⟨x, by omega⟩
theorem own_notiter {w : World} {base : Nat} {e : TypeId} {size n K : Nat} {v : Value} {xs : List Value} {s : ByteArray} {p : Nat} (h : w.ownsRow base e size v n xs) (hk : w.heap[K]? = some (.stringIter s p)) : some K ≠ v.ownBlock := by
  intro h'
  obtain ⟨c, hc⟩ := own_typed h K h'.symm
  rw [hk] at hc
  cases hc
theorem own_iterAt {w : World} {base : Nat} {e : TypeId} {size n K : Nat} {v : Value} {xs : List Value} {s : ByteArray} {p q : Nat} (h : w.ownsRow base e size v n xs) (hk : w.heap[K]? = some (.stringIter s p)) : (w.iterAt K s q).ownsRow base e size v n xs :=
  own_move h (fun k h' => Lib.iterAt_other w K k s q (fun e => own_notiter h hk (e ▸ h'.symm)))
set_option maxHeartbeats 4000000 in
theorem Digits_calls (m : ByteArray) (w : World) (hm : m.size ≤ 140737488355328) :
    Calls Try.prog 66 #[.string m] w fun e w' => ∃ v, e = .returned v ∧ w'.ownsRow w.heap.size 3 1 v 67 (ints (digs m)) ∧ Below w.heap.size w w' := by
  obtain ⟨i0, hi, hz0, hz1, hz2⟩ := info_parts infoI
  obtain ⟨M, hM⟩ : ∃ M, M = madeCells (Value.int .i64 0).cells (67 * 1) := ⟨_, rfl⟩
  have hmk : ∀ W, (Instr.makeSlice 106 (.int .i64 0) (.int .i64 67)).run Try.prog W = .ok (.slice (some ⟨W.heap.size, 0, none⟩) 0 67) (W.alloc (.cells M 3)) := fun W => by
    have := Pr.run_make_rowN_ (P := Try.prog) 106 3 i0 (.int .i64 0) Try.underlying106 hi hz0 .i64 .i64 0 67 (by omega) (by rw [hz2]; omega) (by omega) W
    rw [hz1, ← hM] at this
    exact this
  have HM := Lib.hid (show M.size = 67 by rw [hM, size_madeCells])
  clear hM
  have HS := Lib.hid (fun w' => Sh.sum_calls m w' hm)
  obtain ⟨D, hD⟩ : ∃ D, D = Sh.shaB m := ⟨_, rfl⟩
  have hD32 : D.size = 32 := by rw [hD]; exact H_size m
  have HX := Lib.hid (fun w' => Hex_calls D w' (by omega) (by omega))
  obtain ⟨h, hh⟩ : ∃ h, h = Sh.strN (hexL (Sh.nat D)) := ⟨_, rfl⟩
  have hbytes : Sh.nat h = (nib m).map hd := by
    rw [hh, Sh.nat_strN, hD]
    · exact hexL_nib m
    · intro x hx
      rw [hD, show Sh.shaB m = H m from rfl, hexL_nib] at hx
      obtain ⟨d, hd1, rfl⟩ := List.mem_map.1 hx
      have := nib_le m d hd1
      unfold hd; split <;> omega
  rw [← hh] at HX
  rw [← hD] at HS
  have hsz : h.size = 64 := by rw [← Sh.nat_length, hbytes, List.length_map, nib_length]
  have hbyte : ∀ j (hj : j < h.size), (h[j]'hj).toNat = hd ((nib m).getD j 0) := by
    intro j hj
    have h1 : (Sh.nat h)[j]? = some (h[j]'hj).toNat := by simp [Sh.nat, hj]; rfl
    rw [hbytes] at h1
    rw [List.getElem?_map] at h1
    rw [List.getD_eq_getElem?_getD]
    cases hq : (nib m)[j]? with
    | none => rw [hq] at h1; cases h1
    | some d => rw [hq] at h1; simp at h1; simp [h1]
  have HY := Lib.hid hbyte
  have HL := Lib.hid (nib_length m)
  have HN := Lib.hid (nib_le m)
  have HG := Lib.hid (show digs m = nib m ++ [chk (nib m) / 256, chk (nib m) / 16 % 16, chk (nib m) % 16] from rfl)
  obtain ⟨N, hN⟩ : ∃ N, N = nib m := ⟨_, rfl⟩
  rw [← hN] at HY HL HN HG
  have HD32 := Lib.hid hD32
  have HSZ := Lib.hid hsz
  clear hD hD32 hh hbytes hbyte hN hm hsz
  go_enter Try.func66, Try.ntmps66
  go_wp2_with (first | (go_at_call 87; refine (HS.out _).mono ?_; rintro e w1 ⟨rfl, hb1⟩) | (go_at_call 86; refine (HX.out _).mono ?_; rintro e w2 ⟨rfl, hb2⟩))
  have hit0 := iter_new w2 h
  have hE0 : Ext w (w2.alloc (.stringIter h 0)) := Ext.alloc (Ext.call (Ext.call (Ext.alloc (Ext.refl w) _) hb1) hb2) _
  have hO0 : (w2.alloc (.stringIter h 0)).ownsRow w.heap.size 3 1 (.slice (some ⟨w.heap.size, 0, none⟩) 0 67) 0 (ints (N.take 0)) := by
    refine (own_below (own_below (w := w.alloc (.cells M 3)) ⟨by simp, .inr ⟨w.heap.size, 67, M, by simp, Nat.le_refl _, by simpa using heap_alloc_new w _, by omega, by unfold maxLen; omega, by rw [HM.out], by simp⟩⟩ hb1) hb2).alloc _
  have HI := Lib.hid (And.intro hO0 (And.intro hE0 hit0))
  clear hO0 hE0 hit0 hmk
  obtain ⟨K, hK⟩ : ∃ K, K = w2.heap.size := ⟨_, rfl⟩
  have hKl : w.heap.size ≤ K := by rw [hK]; exact (Ext.call (Ext.call (Ext.alloc (Ext.refl w) _) hb1) hb2).below.size
  rw [← hK] at HI ⊢
  have HKK := Lib.hid hK
  clear hK
  go_loopw [3, 4] (fun v sm wr => ∃ j : Nat, j ≤ 64 ∧ sm = .int .i64 (chk (N.take j) : Nat) ∧ Hid (wr.ownsRow w.heap.size 3 1 v j (ints (N.take j)) ∧ Ext w wr ∧ wr.heap[K]? = some (.stringIter h j))) (fun _ _ wr => 64 - wr.iterPos K)
  case atStart => exact ⟨0, Nat.zero_le _, rfl, HI⟩
  case round =>
    obtain ⟨j, hj, rfl, HB⟩ := hrel
    have hchk : chk (N.take j) ≤ 960 := by
      have h1 := chk_le (N.take j)
      have h2 : (N.take j).length ≤ 64 := by rw [List.length_take]; omega
      omega
    by_cases hlt : j < 64
    · obtain ⟨hO, hE, hit⟩ := HB.out
      have hjs : j < h.size := by rw [HSZ.out]; exact hlt
      have hb := HY.out j hjs
      have hjl : j < N.length := by rw [HL.out]; exact hlt
      obtain ⟨d, hd⟩ : ∃ d, d = N.getD j 0 := ⟨_, rfl⟩
      have hNd : N[j] = d := by rw [hd, List.getD_eq_getElem?_getD, List.getElem?_eq_getElem hjl]; rfl
      have hd15 : d ≤ 15 := by rw [← hNd]; exact HN.out _ (List.getElem_mem hjl)
      have HT := Lib.hid (show N.take (j + 1) = N.take j ++ [d] by rw [List.take_succ_eq_append_getElem hjl, hNd])
      rw [← hd] at hb
      have hnx : ∀ ty, (Instr.next (.pointer (some ⟨K, 0, none⟩)) true ty).run Try.prog wr = .ok (.tuple #[.bool true, .int .i64 j, .int .i32 (Sg.hd d : Nat)]) (wr.iterAt K h (j + 1)) := fun ty => by
        rw [Lib.run_next_ascii_at wr K h j ty hit hjs (by rw [hb]; unfold Sg.hd; split <;> omega), hb]
      have hO2 := own_iterAt (q := j + 1) hO hit
      have hit2 := Lib.iterAt_heap wr K h j (j + 1) hit
      have hE2 : Ext w (wr.iterAt K h (j + 1)) := Lib.below_iterAt hE.below hKl h (j + 1)
      obtain ⟨W, hW⟩ : ∃ W, W = wr.iterAt K h (j + 1) := ⟨_, rfl⟩
      rw [← hW] at hnx hO2 hit2 hE2
      have HO2 := Lib.hid hO2
      have HIT := Lib.hid hit2
      have HRI := Lib.hid (rune_index d (by omega))
      have HPOS := Lib.hid hit
      have hd0 : decide ((d : Int) < 0) = false := decide_eq_false (by omega)
      have hWs : w.heap.size ≤ W.heap.size := hE2.below.size
      clear hO hE hit hb hd hNd hW hO2 hit2
      obtain ⟨c, hc⟩ : ∃ c, c = Sg.hd d := ⟨_, rfl⟩
      rw [← hc] at hnx HRI
      clear hc
      go_wp2_with (first | (go_at_call 88; go_loud (refine (HRI.out _).mono ?_; rintro e w3 ⟨rfl, rfl⟩)) | (at_builtin; refine wpList_append_own _ rfl _ _ 106 rfl w.heap.size 3 i0 (.int .i64 0) 1 8 Try.underlying106 hi hz0 hz1 hz2 rfl (by decide) _ _ _ rfl (HO2.out.alloc _) ⟨W.heap.size, 0, none⟩ 1 1 [.int .i64 (d : Nat)] rfl rfl (new_one _ _ _) (by simp [Value.oneCell']) (by unfold maxLen; omega) (by omega) (by simp; omega) ?_; intro v' w4 hown' hgrow _))
      have HO := Lib.hid hown'
      have HG2 := Lib.hid hgrow
      have hne := own_notiter HO2.out HIT.out
      have hKlt : K < W.heap.size := (Array.getElem?_eq_some_iff.1 HIT.out).1
      have hit4 : w4.heap[K]? = some (.stringIter h (j + 1)) := (HG2.out.block K (by simp; omega) hne).trans ((Below.heap_alloc W _ K hKlt).trans HIT.out)
      have hE4 : Ext w w4 := (hE2.alloc _).grown (v := v') HG2.out (fun k hk => (HO2.out.lt k hk).1)
      have HZ := Lib.hid (And.intro hE4 hit4)
      clear hown' hgrow hit4 hE4 hne
      go_roundw
      case rel => exact ⟨j + 1, by omega, by rw [HT.out, chk_snoc]; exact congrArg _ (by omega), Lib.hid ⟨by rw [HT.out]; simpa using HO.out, HZ.out.1, HZ.out.2⟩⟩
      case measure => simp only [World.iterPos, HZ.out.2, HPOS.out]; omega
    · have hj64 : j = 64 := by omega
      subst hj64
      have hE := HB.out.2.1
      have hnx : ∀ ty, (Instr.next (.pointer (some ⟨K, 0, none⟩)) true ty).run Try.prog wr = .ok (.tuple #[.bool false]) wr := fun ty => Lib.run_next_end_at wr K h 64 ty HB.out.2.2 (by rw [HSZ.out]; omega)
      have hO := HB.out.1
      have hT : N.take 64 = N := List.take_of_length_le (by rw [HL.out]; exact Nat.le_refl _)
      rw [hT] at hO
      have HCH := Lib.hid (show chk (N.take 64) = chk N by rw [hT])
      obtain ⟨x, hx⟩ : ∃ x, x = chk (N.take 64) := ⟨_, rfl⟩
      rw [← hx] at hchk HCH ⊢
      have HO := Lib.hid hO
      have ha1 : Go.bits .and .i64 ((x : Int) / 16) 15 = (x : Int) / 16 % 16 := by
        have := and_15 (x / 16) (by omega)
        rw [show ((x / 16 : Nat) : Int) = (x : Int) / 16 by omega] at this
        rw [this]; omega
      have ha2 : Go.bits .and .i64 (x : Int) 15 = (x : Int) % 16 := by
        rw [and_15 x (by omega)]; omega
      have hWs := hE.below.size
      clear hO hT hx hlt
      go_wp2_with (at_builtin; refine wpList_append_own _ rfl _ _ 106 rfl w.heap.size 3 i0 (.int .i64 0) 1 8 Try.underlying106 hi hz0 hz1 hz2 rfl (by decide) _ _ _ rfl (HO.out.alloc _) ⟨wr.heap.size, 0, none⟩ 3 3 [.int .i64 ((x : Int) / 256), .int .i64 ((x : Int) / 16 % 16), .int .i64 ((x : Int) % 16)] rfl rfl (Sh.news_cells _ _ _) (by simp [Value.oneCell']) (by unfold maxLen; omega) (by omega) (by simp; omega) ?_; intro v' w4 hown' hgrow _)
      have hE4 : Ext w w4 := (hE.alloc _).grown (v := v') hgrow (fun k hk => (HO.out.lt k hk).1)
      have hown2 : w4.ownsRow w.heap.size 3 1 v' 67 (ints (digs m)) := by
        rw [HG.out, ← HCH.out]
        have e : ints (N ++ [x / 256, x / 16 % 16, x % 16]) = ints N ++ [.int .i64 ((x : Int) / 256), .int .i64 ((x : Int) / 16 % 16), .int .i64 ((x : Int) % 16)] := by
          simp
        rw [e]
        exact hown'
      have HO4 := Lib.hid hown2
      clear hown' hown2 hgrow
      go_ret
      exact ⟨_, rfl, HO4.out, hE4⟩
end Go.Proofs.Ytldkkboeaadbeaa.Sg
end
