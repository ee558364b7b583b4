/- SgN, SgQ, BytesS, Pr2 -/
import Derived.Test.YtldkkboeaadbeaaMb0
import Derived.Laws.BitsAllLaws
import Derived.Laws.Bits64
import Derived.IntWalk
import Derived.Test.YtldkkboeaadbeaaMa5
import Derived.Test.YtldkkboeaadbeaaWWords
import Derived.Test.YtldkkboeaadbeaaWLast
import Derived.Test.YtldkkboeaadbeaaWMore
import Derived.Test.YtldkkboeaadbeaaMa2
section
/- The signature scheme in the program: Skip. -/
set_option linter.unusedVariables false
set_option linter.unusedSimpArgs false
namespace Go.Proofs.Ytldkkboeaadbeaa.Sg
open Go.RowKit Go.Proofs.YtldkkboeaadbeaaW.PrintWords Go.Proofs.YtldkkboeaadbeaaW.PrintLast Go.Proofs.YtldkkboeaadbeaaW.PrintMore
attribute [local go_sem] Sd.pureq Sd.pureAt Sd.pureUpon
abbrev keyZ : Value := .agg #[.string ⟨#[]⟩, .int .i64 0, .int .i64 0]
set_option maxRecDepth 100000 in
set_option maxHeartbeats 4000000 in
theorem Skip_yes (seed : ByteArray) (h nx : Nat) (count : Nat) (w : World) (h1 : seed.size = 32) (h3 : h ≤ 6) (h4 : nx ≤ 2 ^ h) (hc : count ≤ 1000000) (hle : count ≤ 2 ^ h - nx) :
    Calls Try.prog 42 #[keyV seed h nx, .int .i64 (count : Int)] w fun e w' => e = .returned (.tuple #[keyV seed h ((nx + count : Nat) : Int), .int .i64 0]) ∧ Below w.heap.size w w' := by
  have HV := Lib.hid (fun w' => valid_yes seed h nx w' h1 h3 (by omega) (by omega))
  have pw := pow_wrap h3
  have pw' := pow_wrap' h3
  have p64 := pow_le64 h3
  obtain ⟨N, hN⟩ : ∃ N, N = 2 ^ h := ⟨_, rfl⟩
  rw [← hN] at pw pw' p64 h4 hle
  clear hN
  have tc : decide ((count : Int) < 0) = false := decide_eq_false (by omega)
  have hsub : (N : Int) - (nx : Int) = ((N - nx : Nat) : Int) := by omega
  obtain ⟨L, hL⟩ : ∃ L, L = N - nx := ⟨_, rfl⟩
  rw [← hL] at hsub hle
  have hLb : L ≤ 64 := by omega
  have hw1 : IntKind.i64.wrap (L : Int) = (L : Int) := IntWalk.i64_in _ (by omega)
  have HX0 := Lib.hid (show ∀ w1, Below ((w.alloc (.cells (keyC seed h nx) 67)).alloc (.cells #[.string ⟨#[]⟩, .int .i64 0, .int .i64 0] 67)).heap.size ((w.alloc (.cells (keyC seed h nx) 67)).alloc (.cells #[.string ⟨#[]⟩, .int .i64 0, .int .i64 0] 67)) w1 →
      w1.heap[w.heap.size]? = some (.cells (keyC seed h nx) 67 (0, 0)) ∧ w1.heap[w.heap.size + 1]? = some (.cells #[.string ⟨#[]⟩, .int .i64 0, .int .i64 0] 67 (0, 0)) ∧ Ext w w1 from fun w1 hb => by
    refine ⟨Ext.block hb ?_, Ext.block hb ?_, Ext.call (Ext.alloc (Ext.alloc (Ext.refl w) _) _) hb⟩
    · rw [Below.heap_alloc _ _ _ (by simp)]; exact heap_alloc_new _ _
    · have := heap_alloc_new (w.alloc (.cells (keyC seed h nx) 67)) (.cells #[.string ⟨#[]⟩, .int .i64 0, .int .i64 0] 67)
      simpa using this)
  have hd : decide (L < count) = false := decide_eq_false (by omega)
  have hd' : decide ((L : Int) < (count : Int)) = false := decide_eq_false (by omega)
  clear hL hle
  go_enter Try.func42, Try.ntmps42
  go_wp2_with (go_at_call 73; refine (HV.out _).mono ?_; rintro e w1 ⟨rfl, hb1⟩)
  obtain ⟨g0, g1, hE⟩ := HX0.out w1 hb1
  have G0 := Lib.hid g0
  have G1 := Lib.hid g1
  have HE := Lib.hid hE
  have c0 := cell_of_row _ _ 0 _ _ _ g0
  have c1 := cell_of_row _ _ 1 _ _ _ g0
  have c2 := cell_of_row _ _ 2 _ _ _ g0
  have f2 := frozen_of_row _ _ 2 _ _ g0
  have d0 := cell_of_row _ _ 0 _ _ _ g1
  have d1 := cell_of_row _ _ 1 _ _ _ g1
  have d2 := cell_of_row _ _ 2 _ _ _ g1
  have e0 := frozen_of_row _ _ 0 _ _ g1
  have e1 := frozen_of_row _ _ 1 _ _ g1
  have e2 := frozen_of_row _ _ 2 _ _ g1
  clear g0 g1 hb1 hE
  refine Sd.regionC (fun w' => w' = w1.drew) [(0, 0), (1, 0), (2, 1), (3, 0), (4, 0), (5, 1), (6, 0), (7, 0), (8, 0)] (by kernel_rfl) (by kernel_rfl) rfl ?_
  iterate 9 (first | (refine Sd.s0 rfl (fun K hK => ?_); go_simp; refine hK _ ?_; clear hK K) | (refine Sd.s1 rfl (fun K hK => ?_); go_simp; refine hK _ ?_; clear hK K))
  refine Sd.nilC ?_
  go_wp2
  have H1 := heap_setCell_same _ _ 2 _ _ (.int .i64 ((nx : Int) + (count : Int))) G0.out
  have H2 := heap_setCell_same (w1.setCell ⟨w.heap.size, 2, none⟩ (.int .i64 ((nx : Int) + (count : Int)))) _ 0 _ _ (.string seed) ((Below.heap_setCell w1 ⟨w.heap.size, 2, none⟩ (.int .i64 ((nx : Int) + (count : Int))) (w.heap.size + 1) (by show w.heap.size + 1 ≠ w.heap.size; omega)).trans G1.out)
  have H3 := heap_setCell_same _ _ 2 _ _ (.int .i64 ((nx : Int) + (count : Int))) (heap_setCell_same _ _ 1 _ _ (.int .i64 (h : Int)) H2)
  have hext := (((HE.out.below.setCell (p := ⟨w.heap.size, 2, none⟩) (Nat.le_refl _) (.int .i64 ((nx : Int) + (count : Int)))).setCell (p := ⟨w.heap.size + 1, 0, none⟩) (Nat.le_succ _) (.string seed)).setCell (p := ⟨w.heap.size + 1, 1, none⟩) (Nat.le_succ _) (.int .i64 (h : Int))).setCell (p := ⟨w.heap.size + 1, 2, none⟩) (Nat.le_succ _) (.int .i64 ((nx : Int) + (count : Int)))
  obtain ⟨w8, hw8⟩ : ∃ w8, w8 = (((w1.setCell ⟨w.heap.size, 2, none⟩ (.int .i64 ((nx : Int) + (count : Int)))).setCell ⟨w.heap.size + 1, 0, none⟩ (.string seed)).setCell ⟨w.heap.size + 1, 1, none⟩ (.int .i64 (h : Int))).setCell ⟨w.heap.size + 1, 2, none⟩ (.int .i64 ((nx : Int) + (count : Int))) := ⟨_, rfl⟩
  rw [← hw8] at H3 hext ⊢
  have s0 := cell_of_row w8 _ 0 _ _ _ H3
  have s1 := cell_of_row w8 _ 1 _ _ _ H3
  have s2 := cell_of_row w8 _ 2 _ _ _ H3
  exact bodyPost_ret (v := .tuple #[keyV seed h ((nx : Int) + (count : Int)), .int .i64 0]) (by simp [results, Try.results42, go_sem, s0, s1, s2]) rfl ⟨by rw [show ((nx + count : Nat) : Int) = (nx : Int) + (count : Int) by omega], hext.drew⟩
set_option maxRecDepth 100000 in
set_option maxHeartbeats 4000000 in
theorem Skip_no (seed : ByteArray) (h nx : Nat) (count : Nat) (w : World) (h1 : seed.size = 32) (h3 : h ≤ 6) (h4 : nx ≤ 2 ^ h) (hc : count ≤ 1000000) (hle : ¬ count ≤ 2 ^ h - nx) :
    Calls Try.prog 42 #[keyV seed h nx, .int .i64 (count : Int)] w fun e w' => e = .returned (.tuple #[keyZ, .int .i64 22]) ∧ Below w.heap.size w w' := by
  have HV := Lib.hid (fun w' => valid_yes seed h nx w' h1 h3 (by omega) (by omega))
  have pw := pow_wrap h3
  have pw' := pow_wrap' h3
  have p64 := pow_le64 h3
  obtain ⟨N, hN⟩ : ∃ N, N = 2 ^ h := ⟨_, rfl⟩
  rw [← hN] at pw pw' p64 h4 hle
  clear hN
  have tc : decide ((count : Int) < 0) = false := decide_eq_false (by omega)
  have hsub : (N : Int) - (nx : Int) = ((N - nx : Nat) : Int) := by omega
  obtain ⟨L, hL⟩ : ∃ L, L = N - nx := ⟨_, rfl⟩
  rw [← hL] at hsub hle
  have hLb : L ≤ 64 := by omega
  have hw1 : IntKind.i64.wrap (L : Int) = (L : Int) := IntWalk.i64_in _ (by omega)
  have HX0 := Lib.hid (show ∀ w1, Below ((w.alloc (.cells (keyC seed h nx) 67)).alloc (.cells #[.string ⟨#[]⟩, .int .i64 0, .int .i64 0] 67)).heap.size ((w.alloc (.cells (keyC seed h nx) 67)).alloc (.cells #[.string ⟨#[]⟩, .int .i64 0, .int .i64 0] 67)) w1 →
      w1.heap[w.heap.size]? = some (.cells (keyC seed h nx) 67 (0, 0)) ∧ w1.heap[w.heap.size + 1]? = some (.cells #[.string ⟨#[]⟩, .int .i64 0, .int .i64 0] 67 (0, 0)) ∧ Ext w w1 from fun w1 hb => by
    refine ⟨Ext.block hb ?_, Ext.block hb ?_, Ext.call (Ext.alloc (Ext.alloc (Ext.refl w) _) _) hb⟩
    · rw [Below.heap_alloc _ _ _ (by simp)]; exact heap_alloc_new _ _
    · have := heap_alloc_new (w.alloc (.cells (keyC seed h nx) 67)) (.cells #[.string ⟨#[]⟩, .int .i64 0, .int .i64 0] 67)
      simpa using this)
  have hd : decide (L < count) = true := decide_eq_true (by omega)
  have hd' : decide ((L : Int) < (count : Int)) = true := decide_eq_true (by omega)
  clear hL hle
  go_enter Try.func42, Try.ntmps42
  go_wp2_with (go_at_call 73; refine (HV.out _).mono ?_; rintro e w1 ⟨rfl, hb1⟩)
  obtain ⟨g0, g1, hE⟩ := HX0.out w1 hb1
  have G0 := Lib.hid g0
  have G1 := Lib.hid g1
  have HE := Lib.hid hE
  have c0 := cell_of_row _ _ 0 _ _ _ g0
  have c1 := cell_of_row _ _ 1 _ _ _ g0
  have c2 := cell_of_row _ _ 2 _ _ _ g0
  have f2 := frozen_of_row _ _ 2 _ _ g0
  have d0 := cell_of_row _ _ 0 _ _ _ g1
  have d1 := cell_of_row _ _ 1 _ _ _ g1
  have d2 := cell_of_row _ _ 2 _ _ _ g1
  have e0 := frozen_of_row _ _ 0 _ _ g1
  have e1 := frozen_of_row _ _ 1 _ _ g1
  have e2 := frozen_of_row _ _ 2 _ _ g1
  clear g0 g1 hb1 hE
  refine Sd.regionC (fun w' => w' = w1.drew) [(0, 0), (1, 0), (2, 1), (3, 0), (4, 0), (5, 1), (6, 0), (7, 0), (8, 0)] (by kernel_rfl) (by kernel_rfl) rfl ?_
  iterate 9 (first | (refine Sd.s0 rfl (fun K hK => ?_); go_simp; refine hK _ ?_; clear hK K) | (refine Sd.s1 rfl (fun K hK => ?_); go_simp; refine hK _ ?_; clear hK K))
  refine Sd.nilC ?_
  go_wp2
  have H3 := heap_setCell_same _ _ 2 _ _ (.int .i64 0) (heap_setCell_same _ _ 1 _ _ (.int .i64 0) (heap_setCell_same w1 _ 0 _ _ (.string ⟨#[]⟩) G1.out))
  have hext := ((HE.out.below.setCell (p := ⟨w.heap.size + 1, 0, none⟩) (Nat.le_succ _) (.string ⟨#[]⟩)).setCell (p := ⟨w.heap.size + 1, 1, none⟩) (Nat.le_succ _) (.int .i64 0)).setCell (p := ⟨w.heap.size + 1, 2, none⟩) (Nat.le_succ _) (.int .i64 0)
  obtain ⟨w8, hw8⟩ : ∃ w8, w8 = ((w1.setCell ⟨w.heap.size + 1, 0, none⟩ (.string ⟨#[]⟩)).setCell ⟨w.heap.size + 1, 1, none⟩ (.int .i64 0)).setCell ⟨w.heap.size + 1, 2, none⟩ (.int .i64 0) := ⟨_, rfl⟩
  rw [← hw8] at H3 hext ⊢
  have s0 := cell_of_row w8 _ 0 _ _ _ H3
  have s1 := cell_of_row w8 _ 1 _ _ _ H3
  have s2 := cell_of_row w8 _ 2 _ _ _ H3
  exact bodyPost_ret (v := .tuple #[keyZ, .int .i64 22]) (by simp [results, Try.results42, go_sem, s0, s1, s2]) rfl ⟨rfl, hext.drew⟩
end Go.Proofs.Ytldkkboeaadbeaa.Sg
end
section
/- The signature scheme in the program: Sign where no key is left. -/
set_option linter.unusedVariables false
set_option linter.unusedSimpArgs false
namespace Go.Proofs.Ytldkkboeaadbeaa.Sg
open Go.RowKit Go.Proofs.YtldkkboeaadbeaaW.PrintWords Go.Proofs.YtldkkboeaadbeaaW.PrintLast Go.Proofs.YtldkkboeaadbeaaW.PrintMore
attribute [local go_sem] Sd.pureq Sd.pureAt Sd.pureUpon
abbrev sigZ : Value := .agg #[.int .i64 0, .slice none 0 0, .slice none 0 0]
set_option maxRecDepth 100000 in
set_option maxHeartbeats 4000000 in
theorem Sign_full (seed : ByteArray) (h : Nat) (m : ByteArray) (w : World) (h1 : seed.size = 32) (h3 : h ≤ 6) :
    Calls Try.prog 43 #[keyV seed h ((2 ^ h : Nat) : Int), .string m] w fun e w' => e = .returned (.tuple #[sigZ, keyZ, .int .i64 22]) ∧ Below w.heap.size w w' := by
  have HV := Lib.hid (fun w' => valid_yes seed h ((2 ^ h : Nat) : Int) w' h1 h3 (Int.natCast_nonneg _) (Int.le_refl _))
  have pw := pow_wrap h3
  have pw' := pow_wrap' h3
  have p64 := pow_le64 h3
  obtain ⟨N, hN⟩ : ∃ N, N = 2 ^ h := ⟨_, rfl⟩
  rw [← hN] at pw pw' p64 HV ⊢
  clear hN
  have HX0 := Lib.hid (show ∀ w1, Below (((w.alloc (.cells (keyC seed h N) 67)).alloc (.cells #[.int .i64 0, .slice none 0 0, .slice none 0 0] 72)).alloc (.cells #[.string ⟨#[]⟩, .int .i64 0, .int .i64 0] 67)).heap.size (((w.alloc (.cells (keyC seed h N) 67)).alloc (.cells #[.int .i64 0, .slice none 0 0, .slice none 0 0] 72)).alloc (.cells #[.string ⟨#[]⟩, .int .i64 0, .int .i64 0] 67)) w1 →
      w1.heap[w.heap.size]? = some (.cells (keyC seed h N) 67 (0, 0)) ∧ w1.heap[w.heap.size + 1]? = some (.cells #[.int .i64 0, .slice none 0 0, .slice none 0 0] 72 (0, 0)) ∧ w1.heap[w.heap.size + 1 + 1]? = some (.cells #[.string ⟨#[]⟩, .int .i64 0, .int .i64 0] 67 (0, 0)) ∧ Ext w w1 from fun w1 hb => by
    refine ⟨Ext.block hb ?_, Ext.block hb ?_, Ext.block hb ?_, Ext.call (Ext.alloc (Ext.alloc (Ext.alloc (Ext.refl w) _) _) _) hb⟩
    · rw [Below.heap_alloc _ _ _ (by simp; omega), Below.heap_alloc _ _ _ (by simp)]; exact heap_alloc_new _ _
    · rw [Below.heap_alloc _ _ _ (by simp)]
      have := heap_alloc_new (w.alloc (.cells (keyC seed h N) 67)) (.cells #[.int .i64 0, .slice none 0 0, .slice none 0 0] 72)
      simpa using this
    · have := heap_alloc_new ((w.alloc (.cells (keyC seed h N) 67)).alloc (.cells #[.int .i64 0, .slice none 0 0, .slice none 0 0] 72)) (.cells #[.string ⟨#[]⟩, .int .i64 0, .int .i64 0] 67)
      simpa using this)
  have tk : ((N : Int) == (N : Int)) = true := beq_self_eq_true _
  go_enter Try.func43, Try.ntmps43
  go_wp2_with (go_at_call 73; refine (HV.out _).mono ?_; rintro e w1 ⟨rfl, hb1⟩)
  obtain ⟨g0, g1, g2, hE⟩ := HX0.out w1 hb1
  have G1 := Lib.hid g1
  have G2 := Lib.hid g2
  have HE := Lib.hid hE
  have c1 := cell_of_row _ _ 1 _ _ _ g0
  have c2 := cell_of_row _ _ 2 _ _ _ g0
  have d0 := cell_of_row _ _ 0 _ _ _ g1
  have d1 := cell_of_row _ _ 1 _ _ _ g1
  have d2 := cell_of_row _ _ 2 _ _ _ g1
  have e0 := frozen_of_row _ _ 0 _ _ g1
  have e1 := frozen_of_row _ _ 1 _ _ g1
  have e2 := frozen_of_row _ _ 2 _ _ g1
  have k0 := cell_of_row _ _ 0 _ _ _ g2
  have k1 := cell_of_row _ _ 1 _ _ _ g2
  have k2 := cell_of_row _ _ 2 _ _ _ g2
  have m0 := frozen_of_row _ _ 0 _ _ g2
  have m1 := frozen_of_row _ _ 1 _ _ g2
  have m2 := frozen_of_row _ _ 2 _ _ g2
  clear g0 g1 g2 hb1 hE
  refine Sd.regionC (fun w' => w' = w1.drew) [(0, 0), (1, 1), (2, 0), (3, 1), (4, 0), (5, 0), (6, 0)] (by kernel_rfl) (by kernel_rfl) rfl ?_
  iterate 7 (first | (refine Sd.s0 rfl (fun K hK => ?_); go_simp; refine hK _ ?_; clear hK K) | (refine Sd.s1 rfl (fun K hK => ?_); go_simp; refine hK _ ?_; clear hK K))
  refine Sd.nilC ?_
  go_wp2
  have H1 := heap_setCell_same _ _ 2 _ _ (.slice none 0 0) (heap_setCell_same _ _ 1 _ _ (.slice none 0 0) (heap_setCell_same w1 _ 0 _ _ (.int .i64 0) G1.out))
  have hoth : ∀ b, b ≠ w.heap.size + 1 → (((w1.setCell ⟨w.heap.size + 1, 0, none⟩ (.int .i64 0)).setCell ⟨w.heap.size + 1, 1, none⟩ (.slice none 0 0)).setCell ⟨w.heap.size + 1, 2, none⟩ (.slice none 0 0)).heap[b]? = w1.heap[b]? := fun b hb => (Below.heap_setCell _ ⟨w.heap.size + 1, 2, none⟩ _ b hb).trans ((Below.heap_setCell _ ⟨w.heap.size + 1, 1, none⟩ _ b hb).trans (Below.heap_setCell _ ⟨w.heap.size + 1, 0, none⟩ _ b hb))
  have hext := ((HE.out.below.setCell (p := ⟨w.heap.size + 1, 0, none⟩) (Nat.le_succ _) (.int .i64 0)).setCell (p := ⟨w.heap.size + 1, 1, none⟩) (Nat.le_succ _) (.slice none 0 0)).setCell (p := ⟨w.heap.size + 1, 2, none⟩) (Nat.le_succ _) (.slice none 0 0)
  obtain ⟨w2, hw2⟩ : ∃ w2, w2 = ((w1.setCell ⟨w.heap.size + 1, 0, none⟩ (.int .i64 0)).setCell ⟨w.heap.size + 1, 1, none⟩ (.slice none 0 0)).setCell ⟨w.heap.size + 1, 2, none⟩ (.slice none 0 0) := ⟨_, rfl⟩
  rw [← hw2] at H1 hoth hext ⊢
  have H2 := heap_setCell_same _ _ 2 _ _ (.int .i64 0) (heap_setCell_same _ _ 1 _ _ (.int .i64 0) (heap_setCell_same w2 _ 0 _ _ (.string ⟨#[]⟩) ((hoth _ (by omega)).trans G2.out)))
  have hoth2 : ∀ b, b ≠ w.heap.size + 1 + 1 → (((w2.setCell ⟨w.heap.size + 1 + 1, 0, none⟩ (.string ⟨#[]⟩)).setCell ⟨w.heap.size + 1 + 1, 1, none⟩ (.int .i64 0)).setCell ⟨w.heap.size + 1 + 1, 2, none⟩ (.int .i64 0)).heap[b]? = w2.heap[b]? := fun b hb => (Below.heap_setCell _ ⟨w.heap.size + 1 + 1, 2, none⟩ _ b hb).trans ((Below.heap_setCell _ ⟨w.heap.size + 1 + 1, 1, none⟩ _ b hb).trans (Below.heap_setCell _ ⟨w.heap.size + 1 + 1, 0, none⟩ _ b hb))
  have hext2 := ((hext.setCell (p := ⟨w.heap.size + 1 + 1, 0, none⟩) (by show w.heap.size ≤ w.heap.size + 1 + 1; omega) (.string ⟨#[]⟩)).setCell (p := ⟨w.heap.size + 1 + 1, 1, none⟩) (by show w.heap.size ≤ w.heap.size + 1 + 1; omega) (.int .i64 0)).setCell (p := ⟨w.heap.size + 1 + 1, 2, none⟩) (by show w.heap.size ≤ w.heap.size + 1 + 1; omega) (.int .i64 0)
  obtain ⟨w8, hw8⟩ : ∃ w8, w8 = ((w2.setCell ⟨w.heap.size + 1 + 1, 0, none⟩ (.string ⟨#[]⟩)).setCell ⟨w.heap.size + 1 + 1, 1, none⟩ (.int .i64 0)).setCell ⟨w.heap.size + 1 + 1, 2, none⟩ (.int .i64 0) := ⟨_, rfl⟩
  rw [← hw8] at H2 hext2 hoth2 ⊢
  have H1' := (hoth2 _ (by omega)).trans H1
  have s0 := cell_of_row w8 _ 0 _ _ _ H2
  have s1 := cell_of_row w8 _ 1 _ _ _ H2
  have s2 := cell_of_row w8 _ 2 _ _ _ H2
  have s3 := cell_of_row w8 _ 0 _ _ _ H1'
  have s4 := cell_of_row w8 _ 1 _ _ _ H1'
  have s5 := cell_of_row w8 _ 2 _ _ _ H1'
  exact bodyPost_ret (v := .tuple #[sigZ, keyZ, .int .i64 22]) (by simp [results, Try.results43, go_sem, s0, s1, s2, s3, s4, s5]) rfl ⟨rfl, hext2.drew⟩
end Go.Proofs.Ytldkkboeaadbeaa.Sg
end
section
/- Strings as lists of bytes; what is written, as a list of bytes. -/
set_option linter.unusedVariables false
set_option linter.unusedSimpArgs false
namespace Go.Proofs.Ytldkkboeaadbeaa.Pr
open Go.RowKit Go.Proofs.YtldkkboeaadbeaaW.PrintWords Go.Proofs.YtldkkboeaadbeaaW.PrintLast Go.Proofs.YtldkkboeaadbeaaW.PrintMore Go.Proofs.Ytldkkboeaadbeaa.Pl
theorem bytesOf_append (a b : ByteArray) : bytesOf (a ++ b) = bytesOf a ++ bytesOf b := by simp [bytesOf, ByteArray.data_append]
theorem bytesOf_range (a : ByteArray) : ∀ b ∈ bytesOf a, 0 ≤ b ∧ b < 256 := by
  intro b hb
  obtain ⟨c, _, rfl⟩ := List.mem_map.1 hb
  have := c.toNat_lt
  omega
theorem bytesOf_nums (xs : List Int) (h : ∀ b ∈ xs, 0 ≤ b ∧ b < 256) : bytesOf (strOfNums xs) = xs := by
  unfold bytesOf
  rw [strOfNums_data, List.map_map]
  conv => rhs; rw [← List.map_id xs]
  apply List.map_congr_left
  intro b hb
  have := h b hb
  simp only [Function.comp, id]
  rw [UInt8.toNat_ofNat']
  omega
theorem nums_bytesOf (a : ByteArray) : strOfNums (bytesOf a) = a := by
  apply ByteArray.ext
  apply Array.ext'
  rw [strOfNums_data]
  unfold bytesOf
  rw [List.map_map]
  conv => rhs; rw [← List.map_id a.data.toList]
  apply List.map_congr_left
  intro b _
  simp
theorem bytesOf_inj {a b : ByteArray} (h : bytesOf a = bytesOf b) : a = b := by rw [← nums_bytesOf a, h, nums_bytesOf]
theorem toList_inj {a b : ByteArray} (h : a.toList = b.toList) : a = b := by
  rw [ByteArray.toList_eq, ByteArray.toList_eq] at h
  exact ByteArray.ext (Array.ext' h)
theorem bytesOf_extract (a : ByteArray) (i j : Nat) : bytesOf (a.extract i j) = ((bytesOf a).take j).drop i := by
  unfold bytesOf
  rw [ByteArray.data_extract, Array.toList_extract, List.extract_eq_take_drop]
  simp [List.map_take, List.map_drop, List.drop_take]
end Go.Proofs.Ytldkkboeaadbeaa.Pr
end
section
-- By a program of this session.
namespace Go.Proofs.Ytldkkboeaadbeaa.Pr
open Go.RowKit Go.Proofs.YtldkkboeaadbeaaW.PrintWords Go.Proofs.YtldkkboeaadbeaaW.PrintLast Go.Proofs.YtldkkboeaadbeaaW.PrintMore
attribute [local go_sem] max2_int min2_int max_two min_two max_three min_three max_four min_four   -- for this text's walks alone
set_option linter.unusedVariables false
set_option linter.unusedSimpArgs false

/-- A state of type 89 at block g of W; what its slices lead to came in by w0. -/
def IsS89 (w0 W : World) (g : Nat) (f0 : ByteArray) (f1 : Int) (f2 : Int) : Prop := W.heap[g]? = some (.cells #[.string f0, .int .i64 f1, .int .i64 f2] 89 (0, 0)) ∧ w0.heap.size ≤ g
theorem IsS89.grown {w0 W : World} {g : Nat} {f0 : ByteArray} {f1 : Int} {f2 : Int} {W1 : World} {row : Option Nat} (h : IsS89 w0 W g f0 f1 f2) (hw : W.grownBy W1 row) (hne : some g ≠ row) : IsS89 w0 W1 g f0 f1 f2 := by
  obtain ⟨hb, hg⟩ := h
  exact ⟨blk_grown hb hw hne, hg⟩
theorem IsS89.own_neN {w0 W : World} {g : Nat} {f0 : ByteArray} {f1 : Int} {f2 : Int} {α : Type} {d : Kd α} {e : Nat} {base : Nat} {ok : Nat → Prop} {v : Value} {xs : List α} (h : IsS89 w0 W g f0 f1 f2) (ho : Kd.N d e W base ok v xs) (ht : e ≠ 89) : some g ≠ v.ownBlock := by
  obtain ⟨hb, hg⟩ := h
  exact Kd.N_ne ho hb ht
theorem IsS89.fresh {w0 W : World} {g : Nat} {f0 : ByteArray} {f1 : Int} {f2 : Int} (h : IsS89 w0 W g f0 f1 f2) : ∀ k, W.heap.size ≤ k → k ≠ g := by
  obtain ⟨hb, hg⟩ := h
  exact Kd.freshB hb
theorem IsS89.kept {w0 W : World} {g : Nat} {f0 : ByteArray} {f1 : Int} {f2 : Int} {W1 : World} {S : Nat → Prop} (h : IsS89 w0 W g f0 f1 f2) (hk : Kept W W1 S) (hne : ¬ S g) : IsS89 w0 W1 g f0 f1 f2 := by
  obtain ⟨hb, hg⟩ := h
  exact ⟨blk_kept hb hk hne, hg⟩
theorem IsS89.below {w0 W : World} {g : Nat} {f0 : ByteArray} {f1 : Int} {f2 : Int} {W1 : World} (h : IsS89 w0 W g f0 f1 f2) (hw : Below W.heap.size W W1) : IsS89 w0 W1 g f0 f1 f2 := h.grown (grown_of_below hw none) (by simp)
theorem IsS89.alloc {w0 W : World} {g : Nat} {f0 : ByteArray} {f1 : Int} {f2 : Int} (h : IsS89 w0 W g f0 f1 f2) (o : Obj) : IsS89 w0 (W.alloc o) g f0 f1 f2 := h.below (below_alloc (Below.refl _ _) o)
theorem IsS89.drewN {w0 W : World} {g : Nat} {f0 : ByteArray} {f1 : Int} {f2 : Int} (h : IsS89 w0 W g f0 f1 f2) (m : Nat) : IsS89 w0 (W.drewN m) g f0 f1 f2 := h
theorem IsS89.drew {w0 W : World} {g : Nat} {f0 : ByteArray} {f1 : Int} {f2 : Int} (h : IsS89 w0 W g f0 f1 f2) : IsS89 w0 W.drew g f0 f1 f2 := h
theorem IsS89.at_ {w0 W : World} {g : Nat} {f0 : ByteArray} {f1 : Int} {f2 : Int} {w' : World} {m : Nat} (hq : W.drewN m = w') (h : IsS89 w0 W g f0 f1 f2) : IsS89 w0 w' g f0 f1 f2 := by subst hq; exact IsS89.drewN h m
theorem IsS89.apart {w0 W : World} {g : Nat} {f0 : ByteArray} {f1 : Int} {f2 : Int} {α : Type} {d : Kd α} {e : Nat} {base : Nat} {ok : Nat → Prop} {v : Value} {xs : List α} (h : IsS89 w0 W g f0 f1 f2) (ho : d.R e W base ok v xs) (ht : ∀ q, q ∈ e :: d.E → q ≠ 89) : d.R e W base (fun k => ok k ∧ k ≠ g) v xs := by
  obtain ⟨hb, hg⟩ := h
  exact Kd.R_types ho hb ht
theorem IsS89.own_ne {w0 W : World} {g : Nat} {f0 : ByteArray} {f1 : Int} {f2 : Int} {α : Type} {d : Kd α} {e : Nat} {base : Nat} {ok : Nat → Prop} {v : Value} {xs : List α} (h : IsS89 w0 W g f0 f1 f2) (ho : d.R e W base ok v xs) (ht : e ≠ 89) : some g ≠ v.ownBlock := by
  obtain ⟨hb, hg⟩ := h
  exact Kd.R_ne ho hb ht
theorem IsS89.apartQ {w0 W : World} {g : Nat} {f0 : ByteArray} {f1 : Int} {f2 : Int} {α : Type} {d : Kd α} {e : Nat} {base : Nat} {ok : Nat → Prop} {v : Value} {xs : List α} (h : IsS89 w0 W g f0 f1 f2) (ho : d.Q e W base ok v xs) (ht : ∀ q, q ∈ e :: d.E → q ≠ 89) : d.Q e W base (fun k => ok k ∧ k ≠ g) v xs := by
  obtain ⟨hb, hg⟩ := h
  exact Kd.Q_types ho hb ht
theorem IsS89.own_neQ {w0 W : World} {g : Nat} {f0 : ByteArray} {f1 : Int} {f2 : Int} {α : Type} {d : Kd α} {e : Nat} {base : Nat} {ok : Nat → Prop} {v : Value} {xs : List α} (h : IsS89 w0 W g f0 f1 f2) (ho : d.Q e W base ok v xs) (ht : e ≠ 89) : some g ≠ v.ownBlock := by
  obtain ⟨hb, hg⟩ := h
  exact Kd.Q_ne ho hb ht
theorem IsS89.apartS {w0 W : World} {g : Nat} {f0 : ByteArray} {f1 : Int} {f2 : Int} {α : Type} {d : Kd α} {e : Nat} {base : Nat} {ok : Nat → Prop} {v : Value} {xs : List α} (h : IsS89 w0 W g f0 f1 f2) (ho : d.S e W base ok v xs) (ht : ∀ q, q ∈ e :: d.E → q ≠ 89) : d.S e W base (fun k => ok k ∧ k ≠ g) v xs := by
  obtain ⟨hb, hg⟩ := h
  exact Kd.S_types ho hb ht
theorem IsS89.own_neS {w0 W : World} {g : Nat} {f0 : ByteArray} {f1 : Int} {f2 : Int} {α : Type} {d : Kd α} {e : Nat} {base : Nat} {ok : Nat → Prop} {v : Value} {xs : List α} (h : IsS89 w0 W g f0 f1 f2) (ho : d.S e W base ok v xs) (ht : e ≠ 89) : some g ≠ v.ownBlock := by
  obtain ⟨hb, hg⟩ := h
  exact Kd.S_ne ho hb ht
theorem IsS89.lt {w0 W : World} {g : Nat} {f0 : ByteArray} {f1 : Int} {f2 : Int} (h : IsS89 w0 W g f0 f1 f2) : g < W.heap.size := by
  obtain ⟨hb, hg⟩ := h
  exact blk_lt hb
theorem IsS89.ge {w0 W : World} {g : Nat} {f0 : ByteArray} {f1 : Int} {f2 : Int} (h : IsS89 w0 W g f0 f1 f2) : w0.heap.size ≤ g := by
  obtain ⟨hb, hg⟩ := h
  exact hg
theorem IsS89.ne_blk {w0 W : World} {g : Nat} {f0 : ByteArray} {f1 : Int} {f2 : Int} {a : Nat} {cs : Array Value} {t : TypeId} {fr : Nat × Nat} (h : IsS89 w0 W g f0 f1 f2) (hb2 : W.heap[a]? = some (.cells cs t fr)) (ht : t ≠ 89) : g ≠ a := by
  obtain ⟨hb, hg⟩ := h
  rintro rfl
  rw [hb] at hb2
  injection hb2 with hb2
  injection hb2 with _ ht2
  exact ht ht2.symm
theorem IsS89.far {w0 W : World} {g : Nat} {f0 : ByteArray} {f1 : Int} {f2 : Int} {p : Addr} (h : IsS89 w0 W g f0 f1 f2) (hne : g ≠ p.block) (u : Value) : IsS89 w0 (W.setCell p u) g f0 f1 f2 := by
  obtain ⟨hb, hg⟩ := h
  exact ⟨blk_far hb hne u, hg⟩
theorem cellS89_0 {W : World} {g : Nat} {f0 : ByteArray} {f1 : Int} {f2 : Int} (h : W.heap[g]? = some (.cells #[.string f0, .int .i64 f1, .int .i64 f2] 89 (0, 0))) : W.cell? ⟨g, 0, none⟩ = some (.string f0) := (blk_cell h 0).trans rfl
theorem IsS89.set_0 {w0 W : World} {g : Nat} {f0 : ByteArray} {f1 : Int} {f2 : Int} (h : IsS89 w0 W g f0 f1 f2) (x : ByteArray) : IsS89 w0 (W.setCell ⟨g, 0, none⟩ (.string x)) g x f1 f2 := by
  obtain ⟨hb, hg⟩ := h
  exact ⟨by simpa using blk_set hb 0 (.string x), hg⟩
theorem cellS89_1 {W : World} {g : Nat} {f0 : ByteArray} {f1 : Int} {f2 : Int} (h : W.heap[g]? = some (.cells #[.string f0, .int .i64 f1, .int .i64 f2] 89 (0, 0))) : W.cell? ⟨g, 1, none⟩ = some (.int .i64 f1) := (blk_cell h 1).trans rfl
theorem IsS89.set_1 {w0 W : World} {g : Nat} {f0 : ByteArray} {f1 : Int} {f2 : Int} (h : IsS89 w0 W g f0 f1 f2) (x : Int) : IsS89 w0 (W.setCell ⟨g, 1, none⟩ (.int .i64 x)) g f0 x f2 := by
  obtain ⟨hb, hg⟩ := h
  exact ⟨by simpa using blk_set hb 1 (.int .i64 x), hg⟩
theorem cellS89_2 {W : World} {g : Nat} {f0 : ByteArray} {f1 : Int} {f2 : Int} (h : W.heap[g]? = some (.cells #[.string f0, .int .i64 f1, .int .i64 f2] 89 (0, 0))) : W.cell? ⟨g, 2, none⟩ = some (.int .i64 f2) := (blk_cell h 2).trans rfl
theorem IsS89.set_2 {w0 W : World} {g : Nat} {f0 : ByteArray} {f1 : Int} {f2 : Int} (h : IsS89 w0 W g f0 f1 f2) (x : Int) : IsS89 w0 (W.setCell ⟨g, 2, none⟩ (.int .i64 x)) g f0 f1 x := by
  obtain ⟨hb, hg⟩ := h
  exact ⟨by simpa using blk_set hb 2 (.int .i64 x), hg⟩
theorem IsS89.new (w0 W : World) (f0 : ByteArray) (f1 : Int) (f2 : Int) (hB : Below w0.heap.size w0 W) : IsS89 w0 (W.alloc (.cells #[.string f0, .int .i64 f1, .int .i64 f2] 89)) W.heap.size f0 f1 f2 := ⟨by simpa using heap_alloc_new W _, hB.size⟩

/-! ### codec_NewReader: function 23 -/
def codec_NewReader.f (a0 : ByteArray) : Option (ByteArray × Int × Int) := some (a0, 0, 0)
set_option maxHeartbeats 8000000 in
set_option maxRecDepth 100000 in
theorem codec_NewReader.calls (a0 : ByteArray) (r1 : ByteArray) (r2 : Int) (r3 : Int) (w0 w : World) (hB : Below w0.heap.size w0 w) (h : codec_NewReader.f a0 = some (r1, r2, r3)) :
    Calls Try.prog 23 #[.string a0] w fun e w' => ∃ g_ : Nat, e = .returned (.pointer (some ⟨g_, 0, none⟩)) ∧ IsS89 w0 w' g_ r1 r2 r3 ∧ Below w0.heap.size w0 w' ∧ Below w.heap.size w w' := by
  have hu89 := Try.underlying89
  have HBW := Aside0.mk (Below.refl w.heap.size w)
  have HW0 := Aside0.mk hB.size
  have HB := Aside0.mk hB
  clear hB
  have H : (some (a0, 0, 0)) = some (r1, r2, r3) := h
  clear h
  simp only [Option.some.injEq, Prod.mk.injEq] at H
  obtain ⟨rfl, rfl, rfl⟩ := H
  go_enter Try.func23, Try.ntmps23
  go_wp2_with (first | ((with_reducible refine gate_dst (N := 5) rfl ?_); refine box_event ?hg (N := 5) ?hd (cs := #[.string a0, .int .i64 0, .int .i64 0]) (t := 89) ?hr ?_; (case hd => rfl); (case hg => rfl); (case hr => first | (go_simp; done) | (go_simp; rfl)); intro gb110 hg w2 hbox hb; have n0_ := Aside0.mk (below_step HBW.out hb); have n1_ := Aside0.mk (below_step (by repeat (first | (with_reducible first | exact HB.out | apply below_alloc | apply pw_below_drewN | apply below_drew1) | exact HB.out)) hb); have n2_ := Aside0.mk (hbox); have n3_ := Aside0.mk ((by rw [hg]; exact (below_size (by repeat (first | (with_reducible first | exact HBW.out | apply below_alloc | apply pw_below_drewN | apply below_drew1) | exact HBW.out))) : w.heap.size ≤ gb110)); have n4_ := Aside0.mk ((Nat.le_trans HW0.out (by rw [hg]; exact (below_size (by repeat (first | (with_reducible first | exact HBW.out | apply below_alloc | apply pw_below_drewN | apply below_drew1) | exact HBW.out))) : w.heap.size ≤ gb110) : w0.heap.size ≤ gb110)); clear HBW; clear HB; have HBW := n0_; have HB := n1_; have BK110 := n2_; have GW110 := n3_; have GE110 := n4_; clear n0_ n1_ n2_ n3_ n4_; clear hb hbox hg))
  go_ret
  exact ⟨_, rfl, (show IsS89 w0 _ gb110 a0 0 0 from ⟨by (with_reducible repeat (first | refine blk_drewN ?_ _ | refine blk_drew ?_ | refine blk_alloc ?_ _)); exact BK110.out, GE110.out⟩), by repeat (first | (with_reducible first | exact HB.out | apply below_alloc | apply pw_below_drewN | apply below_drew1 | refine below_set ?_ GE110.out) | exact HB.out), by repeat (first | (with_reducible first | exact HBW.out | apply below_alloc | apply pw_below_drewN | apply below_drew1 | refine below_set ?_ GW110.out) | exact HBW.out)⟩

end Go.Proofs.Ytldkkboeaadbeaa.Pr
end
