/- ShaG, Plain, Sg -/
import Derived.Test.YtldkkboeaadbeaaMa4
import Derived.Laws.BytesArg
import Derived.Test.YtldkkboeaadbeaaWWords
section
/- SHA-256: the digest. -/
set_option linter.unusedVariables false
set_option linter.unusedSimpArgs false
namespace Go.Proofs.Ytldkkboeaadbeaa.Sh
open Go.RowKit
theorem infoB : (Try.prog.info? 5).map (fun i => (i.zero, i.size, i.bytes)) = some (some (.int .u8 0), 1, 1) := by kernel_rfl
theorem news_cells (w : World) (cs : List Value) (T : TypeId) : ∀ (j : Nat) u, cs[j]? = some u → (w.alloc (.cells cs.toArray T)).cell? ((⟨w.heap.size, 0, none⟩ : Addr).add j) = some u := by
  intro j u hj
  have hadd : (⟨w.heap.size, 0, none⟩ : Addr).add j = ⟨w.heap.size, j, none⟩ := by unfold Addr.add; split <;> simp_all
  rw [hadd, cell_of_row _ _ j _ _ _ (heap_alloc_new _ _)]
  simpa using hj
theorem out_length (s : St) : (out s).length = 32 := by simp [out, be, St.l]
theorem nat_strN (l : List Nat) (h : ∀ x ∈ l, x < 256) : nat (strN l) = l := by
  unfold nat strN
  simp only [List.map_map]
  conv => rhs; rw [← List.map_id l]
  apply List.map_congr_left
  intro x hx
  have := h x hx
  simp; omega
theorem len8_lt (n : Nat) : ∀ x ∈ len8 n, x < 256 := by
  intro x hx
  simp only [len8, List.mem_cons, List.not_mem_nil, or_false] at hx
  omega
set_option maxRecDepth 100000 in
set_option maxHeartbeats 4000000 in
theorem hsum_calls (g : Nat) (st : St) (rest : ByteArray) (total : Nat) (w : World) (h : IsH w g st rest total) (hok : st.ok) (hr : rest.size < 64) (ht : 8 * total < 18446744073709551616) :
    Calls Try.prog 104 #[.pointer (some ⟨g, 0, none⟩)] w fun e w' => e = .returned (.string (strN (out (blocks ((nat rest ++ 128 :: (List.replicate ((119 - rest.size) % 64) 0 ++ len8 (8 * total))).length / 64) st (nat rest ++ 128 :: (List.replicate ((119 - rest.size) % 64) 0 ++ len8 (8 * total))))))) ∧ Below w.heap.size w w' := by
  obtain ⟨L, hL⟩ : ∃ L, L = nat rest ++ 128 :: (List.replicate ((119 - rest.size) % 64) 0 ++ len8 (8 * total)) := ⟨_, rfl⟩
  rw [← hL]
  generalize hu : blocks (L.length / 64) st L = u
  have HL := Lib.hid hL
  have HU := Lib.hid hu
  have H0 := Lib.hid h
  have HO := Lib.hid hok
  have hlt := h.lt
  obtain ⟨z, hz⟩ : ∃ z : Nat, z = (119 - rest.size) % 64 := ⟨_, rfl⟩
  have z1 : IntKind.i64.wrap (119 - (rest.size : Int)) = 119 - (rest.size : Int) := IntWalk.i64_in _ (by omega)
  have z2 : (119 - (rest.size : Int)) % 64 = (z : Int) := by omega
  have z0 : 0 ≤ 119 - (rest.size : Int) := by omega
  have HZ := Lib.hid hz
  clear h hok hz hL hu
  go_enter Try.func104, Try.ntmps104
  go_wp2_with (go_at_call 118; refine (clone_calls g st rest total _ H0.out).mono ?_; rintro e_ w1 ⟨rfl, hI1, hb1⟩; have c8 : w1.cell? ⟨w.heap.size, 8, none⟩ = some (.string rest) := cell_of_row _ _ 8 _ _ _ hI1; have HI1 := Lib.hid hI1; clear hI1)
  refine Qt.wp_region_tail (fun w' => Below w1.heap.size w1 w') 11 (by kernel_rfl) (by kernel_rfl) ((Below.refl _ _).drew) ?_
  simp only [List.take_succ_cons, List.take_zero, List.drop_succ_cons, List.drop_zero]
  have hzs : (⟨#[0]⟩ : ByteArray).size * z ≤ 140737488355328 := by have := HZ.out; show 1 * z ≤ _; omega
  have hz9 : z ≤ 9223372036854775807 := by have := HZ.out; omega
  have hg9 : ∀ w', Below w1.heap.size w1 w' → w'.cell? ⟨g, 9, none⟩ = some (.int .u64 (total : Int)) := fun w' hw' =>
    (hw'.cell (p := ⟨g, 9, none⟩) (Nat.lt_of_lt_of_le hlt hb1.size)).trans ((hb1.cell (p := ⟨g, 9, none⟩) hlt).trans (cell_of_row _ _ 9 _ _ _ H0.out))
  have HG := Lib.hid hg9
  clear hg9
  have m8 : IntKind.u64.wrap (8 * (total : Int)) = ((8 * total : Nat) : Int) := by rw [wrap_u64]; omega
  obtain ⟨R, hR⟩ : ∃ R : ByteArray, R = ⟨(Lib.repeatL (⟨#[0]⟩ : ByteArray).data.toList z).toArray⟩ := ⟨_, rfl⟩
  obtain ⟨N8, hN8⟩ : ∃ N : ByteArray, N = strN (len8 (8 * total)) := ⟨_, rfl⟩
  have HC1 := Lib.hid (show ∀ w', Below w1.heap.size w1 w' → Calls Try.prog 69 #[.string ⟨#[0]⟩, .int .i64 z] w' fun e w'' => e = .returned (.string R) ∧ Below w1.heap.size w1 w'' from fun w' hw' => (Try.strings_Repeat ⟨#[0]⟩ z w' hz9 hzs).mono (fun e w'' ⟨a, b⟩ => ⟨by rw [hR]; exact a, hw'.trans (b.mono hw'.size)⟩))
  have HC2 := Lib.hid (show ∀ w', Below w1.heap.size w1 w' → Calls Try.prog 119 #[.int .u64 ((8 * total : Nat) : Int)] w' fun e w'' => e = .returned (.string N8) ∧ Below w1.heap.size w1 w'' from fun w' hw' => (number_calls (8 * total) ht w').mono (fun e w'' ⟨a, b⟩ => ⟨by rw [hN8]; exact a, hw'.trans (b.mono hw'.size)⟩))
  have hRn : nat R = List.replicate z 0 := by
    rw [hR]
    unfold nat
    have : ∀ z, Lib.repeatL [0] z = List.replicate z (0 : UInt8) := by
      intro z; induction z with
      | zero => rfl
      | succ z ih => rw [Lib.repeatL, ih]; rfl
    simp [this]
  have hNn : nat N8 = len8 (8 * total) := by
    rw [hN8, nat_strN _ (len8_lt _)]
  have sR : R.size = z := by rw [← nat_length, hRn, List.length_replicate]
  have sN : N8.size = 8 := by rw [← nat_length, hNn]; rfl
  have bR : (9223372036854775807 < 1 + R.size) = False := eq_false (by rw [sR]; omega)
  have bN : (9223372036854775807 < 1 + R.size + N8.size) = False := eq_false (by rw [sR, sN]; omega)
  have bN' : (9223372036854775807 < (⟨#[128]⟩ ++ R : ByteArray).size + N8.size) = False := eq_false (by rw [ByteArray.size_append, sR, sN]; show ¬ _ < 1 + z + 8; omega)
  have HR := Lib.hid hRn
  have HN := Lib.hid hNn
  have SR := Lib.hid sR
  have SN := Lib.hid sN
  obtain ⟨t8, ht8⟩ : ∃ t8, t8 = 8 * total := ⟨_, rfl⟩
  rw [← ht8] at m8 HC2
  have HT := Lib.hid ht8
  clear hz9 hzs hR hN8 hRn hNn sR sN ht8
  iterate 2 (refine wpQuiet_step (fun K hK => ?_); go_simp; refine ⟨_, fun _ _ => rfl, hK _ ?_⟩; clear hK K)
  refine wpQuiet_step (fun K hK => ?_); go_simp; refine ⟨_, HC1.out, hK _ ?_⟩; clear hK K
  iterate 4 (refine wpQuiet_step (fun K hK => ?_); go_simp; refine ⟨_, fun _ _ => rfl, hK _ ?_⟩; clear hK K)
  refine wpQuiet_step (fun K hK => ?_)
  go_simp
  refine ⟨.int .u64 (total : Int), fun w' hw' => ?_, hK _ ?_⟩
  · rw [HG.out w' hw']
    exact ⟨rfl, rfl⟩
  clear hK K
  refine wpQuiet_step (fun K hK => ?_); go_simp; refine ⟨_, fun _ _ => rfl, hK _ ?_⟩; clear hK K
  refine wpQuiet_step (fun K hK => ?_); go_simp; refine ⟨_, HC2.out, hK _ ?_⟩; clear hK K
  refine wpQuiet_step (fun K hK => ?_); go_simp; refine ⟨_, fun _ _ => rfl, hK _ ?_⟩; clear hK K
  refine wpQuiet_nil ?_
  intro w2 hw2
  have HI2 := Lib.hid (HI1.out.below hw2)
  have HW := Lib.hid hw2
  clear hw2
  go_wp2_with fail
  refine (write_calls w.heap.size w.heap.size st rest _ total w2 (Nat.le_refl _) (Nat.le_trans hb1.size HW.out.size) HI2.out HO.out ?hs1 ?hs2).mono ?_
  (case hs1 => rw [ByteArray.size_append, ByteArray.size_append, SR.out, SN.out]; have := HZ.out; show rest.size + (1 + z + 8) ≤ _; omega)
  (case hs2 => rw [ByteArray.size_append, ByteArray.size_append, SR.out, SN.out]; have := HZ.out; show total + (1 + z + 8) < _; omega)
  rintro e_ w3 ⟨rfl, ⟨x, hx, hI3⟩, hb3⟩
  have hI3 : ∃ x t, IsH w3 w.heap.size u x t := by
    have e1 : nat (rest ++ (⟨#[128]⟩ ++ R ++ N8)) = L := by
      rw [HL.out, nat_append, nat_append, nat_append, HR.out, HN.out, ← HZ.out]; rfl
    have e2 : rest.size + (⟨#[128]⟩ ++ R ++ N8 : ByteArray).size = L.length := by
      rw [← e1, nat_length, ByteArray.size_append (a := rest)]
    rw [e1, e2, HU.out] at hI3
    exact ⟨_, _, hI3⟩
  have hB3 := Lib.hid ((hb1.trans (HW.out.mono hb1.size)).trans hb3)
  clear hx hb3 HW HI2 HI1 HG HC1 HC2 bR bN bN' HR HN SR SN HT HZ
  obtain ⟨x, tt, hI3⟩ := hI3
  clear HU HL
  obtain ⟨p0, p1, p2, p3, p4, p5, p6, p7⟩ := u
  have HI3 := Lib.hid hI3
  clear hI3
  obtain ⟨i0, hi, hz0, hz1, hz2⟩ := info_parts infoB
  go_wp2_with (refine wpList_load_mid rfl 149 (.tmp 31) rfl w.heap.size 0 rfl [.int .u32 (p0 : Int), .int .u32 (p1 : Int), .int .u32 (p2 : Int), .int .u32 (p3 : Int), .int .u32 (p4 : Int), .int .u32 (p5 : Int), .int .u32 (p6 : Int), .int .u32 (p7 : Int)] _ HI3.out.range Try.underlying149 rfl (by kernel_rfl) ?_)
  go_loopw [5, 33] (fun v t wr => ∃ i : Nat, i ≤ 8 ∧ t = .int .i64 i ∧ Hid (wr.ownsRow w.heap.size 5 1 v (4 * i) (((out ⟨p0, p1, p2, p3, p4, p5, p6, p7⟩).take (4 * i)).map fun x => Value.int .u8 (x : Nat)) ∧ Below w.heap.size w wr)) (fun _ t _ => 8 - (intOf t).toNat)
  case atStart => exact ⟨0, by omega, rfl, Lib.hid ⟨World.ownsRow_nil _ _ _ _, hB3.out⟩⟩
  case round =>
    clear HI3 hB3
    obtain ⟨i, hi8, rfl, HX⟩ := hrel
    have hsz : w.heap.size ≤ wr.heap.size := HX.out.2.size
    rcases (by omega : i = 0 ∨ i = 1 ∨ i = 2 ∨ i = 3 ∨ i = 4 ∨ i = 5 ∨ i = 6 ∨ i = 7 ∨ i = 8) with rfl | rfl | rfl | rfl | rfl | rfl | rfl | rfl | rfl
    · have ix : ∀ w, (Instr.index 149 (.agg #[.int .u32 (p0 : Int), .int .u32 (p1 : Int), .int .u32 (p2 : Int), .int .u32 (p3 : Int), .int .u32 (p4 : Int), .int .u32 (p5 : Int), .int .u32 (p6 : Int), .int .u32 (p7 : Int)]) (.int .i64 0)).run Try.prog w = .ok (.int .u32 (p0 : Int)) w := fun _ => by kernel_rfl
      go_wp2_with (at_builtin; refine wpList_append_own _ rfl _ _ 58 rfl w.heap.size 5 i0 (.int .u8 0) 1 1 Try.underlying58 hi hz0 hz1 hz2 rfl (by decide) _ _ _ rfl (HX.out.1.alloc _) ⟨wr.heap.size, 0, none⟩ 4 4 [.int .u8 ((p0 : Int) / 16777216 % 256), .int .u8 ((p0 : Int) / 65536 % 256), .int .u8 ((p0 : Int) / 256 % 256), .int .u8 ((p0 : Int) % 256)] rfl rfl (news_cells _ _ _) (by simp [Value.oneCell']) (by unfold maxLen; omega) (by omega) (by simp; omega) ?_; intro v' w4 hown' hgrow _; have HO4 := Lib.hid hown'; have HB4 := Lib.hid ((HX.out.2.alloc hsz _).grown hgrow (by simp; omega) (fun k hk => (HX.out.1.lt k hk).1)); clear hown' hgrow)
      go_roundw
      case rel => exact ⟨1, by omega, rfl, Lib.hid ⟨by simpa [out, be, St.l] using HO4.out, HB4.out⟩⟩
      case measure => simp [intOf]
    · have ix : ∀ w, (Instr.index 149 (.agg #[.int .u32 (p0 : Int), .int .u32 (p1 : Int), .int .u32 (p2 : Int), .int .u32 (p3 : Int), .int .u32 (p4 : Int), .int .u32 (p5 : Int), .int .u32 (p6 : Int), .int .u32 (p7 : Int)]) (.int .i64 1)).run Try.prog w = .ok (.int .u32 (p1 : Int)) w := fun _ => by kernel_rfl
      go_wp2_with (at_builtin; refine wpList_append_own _ rfl _ _ 58 rfl w.heap.size 5 i0 (.int .u8 0) 1 1 Try.underlying58 hi hz0 hz1 hz2 rfl (by decide) _ _ _ rfl (HX.out.1.alloc _) ⟨wr.heap.size, 0, none⟩ 4 4 [.int .u8 ((p1 : Int) / 16777216 % 256), .int .u8 ((p1 : Int) / 65536 % 256), .int .u8 ((p1 : Int) / 256 % 256), .int .u8 ((p1 : Int) % 256)] rfl rfl (news_cells _ _ _) (by simp [Value.oneCell']) (by unfold maxLen; omega) (by omega) (by simp; omega) ?_; intro v' w4 hown' hgrow _; have HO4 := Lib.hid hown'; have HB4 := Lib.hid ((HX.out.2.alloc hsz _).grown hgrow (by simp; omega) (fun k hk => (HX.out.1.lt k hk).1)); clear hown' hgrow)
      go_roundw
      case rel => exact ⟨2, by omega, rfl, Lib.hid ⟨by simpa [out, be, St.l] using HO4.out, HB4.out⟩⟩
      case measure => simp [intOf]
    · have ix : ∀ w, (Instr.index 149 (.agg #[.int .u32 (p0 : Int), .int .u32 (p1 : Int), .int .u32 (p2 : Int), .int .u32 (p3 : Int), .int .u32 (p4 : Int), .int .u32 (p5 : Int), .int .u32 (p6 : Int), .int .u32 (p7 : Int)]) (.int .i64 2)).run Try.prog w = .ok (.int .u32 (p2 : Int)) w := fun _ => by kernel_rfl
      go_wp2_with (at_builtin; refine wpList_append_own _ rfl _ _ 58 rfl w.heap.size 5 i0 (.int .u8 0) 1 1 Try.underlying58 hi hz0 hz1 hz2 rfl (by decide) _ _ _ rfl (HX.out.1.alloc _) ⟨wr.heap.size, 0, none⟩ 4 4 [.int .u8 ((p2 : Int) / 16777216 % 256), .int .u8 ((p2 : Int) / 65536 % 256), .int .u8 ((p2 : Int) / 256 % 256), .int .u8 ((p2 : Int) % 256)] rfl rfl (news_cells _ _ _) (by simp [Value.oneCell']) (by unfold maxLen; omega) (by omega) (by simp; omega) ?_; intro v' w4 hown' hgrow _; have HO4 := Lib.hid hown'; have HB4 := Lib.hid ((HX.out.2.alloc hsz _).grown hgrow (by simp; omega) (fun k hk => (HX.out.1.lt k hk).1)); clear hown' hgrow)
      go_roundw
      case rel => exact ⟨3, by omega, rfl, Lib.hid ⟨by simpa [out, be, St.l] using HO4.out, HB4.out⟩⟩
      case measure => simp [intOf]
    · have ix : ∀ w, (Instr.index 149 (.agg #[.int .u32 (p0 : Int), .int .u32 (p1 : Int), .int .u32 (p2 : Int), .int .u32 (p3 : Int), .int .u32 (p4 : Int), .int .u32 (p5 : Int), .int .u32 (p6 : Int), .int .u32 (p7 : Int)]) (.int .i64 3)).run Try.prog w = .ok (.int .u32 (p3 : Int)) w := fun _ => by kernel_rfl
      go_wp2_with (at_builtin; refine wpList_append_own _ rfl _ _ 58 rfl w.heap.size 5 i0 (.int .u8 0) 1 1 Try.underlying58 hi hz0 hz1 hz2 rfl (by decide) _ _ _ rfl (HX.out.1.alloc _) ⟨wr.heap.size, 0, none⟩ 4 4 [.int .u8 ((p3 : Int) / 16777216 % 256), .int .u8 ((p3 : Int) / 65536 % 256), .int .u8 ((p3 : Int) / 256 % 256), .int .u8 ((p3 : Int) % 256)] rfl rfl (news_cells _ _ _) (by simp [Value.oneCell']) (by unfold maxLen; omega) (by omega) (by simp; omega) ?_; intro v' w4 hown' hgrow _; have HO4 := Lib.hid hown'; have HB4 := Lib.hid ((HX.out.2.alloc hsz _).grown hgrow (by simp; omega) (fun k hk => (HX.out.1.lt k hk).1)); clear hown' hgrow)
      go_roundw
      case rel => exact ⟨4, by omega, rfl, Lib.hid ⟨by simpa [out, be, St.l] using HO4.out, HB4.out⟩⟩
      case measure => simp [intOf]
    · have ix : ∀ w, (Instr.index 149 (.agg #[.int .u32 (p0 : Int), .int .u32 (p1 : Int), .int .u32 (p2 : Int), .int .u32 (p3 : Int), .int .u32 (p4 : Int), .int .u32 (p5 : Int), .int .u32 (p6 : Int), .int .u32 (p7 : Int)]) (.int .i64 4)).run Try.prog w = .ok (.int .u32 (p4 : Int)) w := fun _ => by kernel_rfl
      go_wp2_with (at_builtin; refine wpList_append_own _ rfl _ _ 58 rfl w.heap.size 5 i0 (.int .u8 0) 1 1 Try.underlying58 hi hz0 hz1 hz2 rfl (by decide) _ _ _ rfl (HX.out.1.alloc _) ⟨wr.heap.size, 0, none⟩ 4 4 [.int .u8 ((p4 : Int) / 16777216 % 256), .int .u8 ((p4 : Int) / 65536 % 256), .int .u8 ((p4 : Int) / 256 % 256), .int .u8 ((p4 : Int) % 256)] rfl rfl (news_cells _ _ _) (by simp [Value.oneCell']) (by unfold maxLen; omega) (by omega) (by simp; omega) ?_; intro v' w4 hown' hgrow _; have HO4 := Lib.hid hown'; have HB4 := Lib.hid ((HX.out.2.alloc hsz _).grown hgrow (by simp; omega) (fun k hk => (HX.out.1.lt k hk).1)); clear hown' hgrow)
      go_roundw
      case rel => exact ⟨5, by omega, rfl, Lib.hid ⟨by simpa [out, be, St.l] using HO4.out, HB4.out⟩⟩
      case measure => simp [intOf]
    · have ix : ∀ w, (Instr.index 149 (.agg #[.int .u32 (p0 : Int), .int .u32 (p1 : Int), .int .u32 (p2 : Int), .int .u32 (p3 : Int), .int .u32 (p4 : Int), .int .u32 (p5 : Int), .int .u32 (p6 : Int), .int .u32 (p7 : Int)]) (.int .i64 5)).run Try.prog w = .ok (.int .u32 (p5 : Int)) w := fun _ => by kernel_rfl
      go_wp2_with (at_builtin; refine wpList_append_own _ rfl _ _ 58 rfl w.heap.size 5 i0 (.int .u8 0) 1 1 Try.underlying58 hi hz0 hz1 hz2 rfl (by decide) _ _ _ rfl (HX.out.1.alloc _) ⟨wr.heap.size, 0, none⟩ 4 4 [.int .u8 ((p5 : Int) / 16777216 % 256), .int .u8 ((p5 : Int) / 65536 % 256), .int .u8 ((p5 : Int) / 256 % 256), .int .u8 ((p5 : Int) % 256)] rfl rfl (news_cells _ _ _) (by simp [Value.oneCell']) (by unfold maxLen; omega) (by omega) (by simp; omega) ?_; intro v' w4 hown' hgrow _; have HO4 := Lib.hid hown'; have HB4 := Lib.hid ((HX.out.2.alloc hsz _).grown hgrow (by simp; omega) (fun k hk => (HX.out.1.lt k hk).1)); clear hown' hgrow)
      go_roundw
      case rel => exact ⟨6, by omega, rfl, Lib.hid ⟨by simpa [out, be, St.l] using HO4.out, HB4.out⟩⟩
      case measure => simp [intOf]
    · have ix : ∀ w, (Instr.index 149 (.agg #[.int .u32 (p0 : Int), .int .u32 (p1 : Int), .int .u32 (p2 : Int), .int .u32 (p3 : Int), .int .u32 (p4 : Int), .int .u32 (p5 : Int), .int .u32 (p6 : Int), .int .u32 (p7 : Int)]) (.int .i64 6)).run Try.prog w = .ok (.int .u32 (p6 : Int)) w := fun _ => by kernel_rfl
      go_wp2_with (at_builtin; refine wpList_append_own _ rfl _ _ 58 rfl w.heap.size 5 i0 (.int .u8 0) 1 1 Try.underlying58 hi hz0 hz1 hz2 rfl (by decide) _ _ _ rfl (HX.out.1.alloc _) ⟨wr.heap.size, 0, none⟩ 4 4 [.int .u8 ((p6 : Int) / 16777216 % 256), .int .u8 ((p6 : Int) / 65536 % 256), .int .u8 ((p6 : Int) / 256 % 256), .int .u8 ((p6 : Int) % 256)] rfl rfl (news_cells _ _ _) (by simp [Value.oneCell']) (by unfold maxLen; omega) (by omega) (by simp; omega) ?_; intro v' w4 hown' hgrow _; have HO4 := Lib.hid hown'; have HB4 := Lib.hid ((HX.out.2.alloc hsz _).grown hgrow (by simp; omega) (fun k hk => (HX.out.1.lt k hk).1)); clear hown' hgrow)
      go_roundw
      case rel => exact ⟨7, by omega, rfl, Lib.hid ⟨by simpa [out, be, St.l] using HO4.out, HB4.out⟩⟩
      case measure => simp [intOf]
    · have ix : ∀ w, (Instr.index 149 (.agg #[.int .u32 (p0 : Int), .int .u32 (p1 : Int), .int .u32 (p2 : Int), .int .u32 (p3 : Int), .int .u32 (p4 : Int), .int .u32 (p5 : Int), .int .u32 (p6 : Int), .int .u32 (p7 : Int)]) (.int .i64 7)).run Try.prog w = .ok (.int .u32 (p7 : Int)) w := fun _ => by kernel_rfl
      go_wp2_with (at_builtin; refine wpList_append_own _ rfl _ _ 58 rfl w.heap.size 5 i0 (.int .u8 0) 1 1 Try.underlying58 hi hz0 hz1 hz2 rfl (by decide) _ _ _ rfl (HX.out.1.alloc _) ⟨wr.heap.size, 0, none⟩ 4 4 [.int .u8 ((p7 : Int) / 16777216 % 256), .int .u8 ((p7 : Int) / 65536 % 256), .int .u8 ((p7 : Int) / 256 % 256), .int .u8 ((p7 : Int) % 256)] rfl rfl (news_cells _ _ _) (by simp [Value.oneCell']) (by unfold maxLen; omega) (by omega) (by simp; omega) ?_; intro v' w4 hown' hgrow _; have HO4 := Lib.hid hown'; have HB4 := Lib.hid ((HX.out.2.alloc hsz _).grown hgrow (by simp; omega) (fun k hk => (HX.out.1.lt k hk).1)); clear hown' hgrow)
      go_roundw
      case rel => exact ⟨8, by omega, rfl, Lib.hid ⟨by simpa [out, be, St.l] using HO4.out, HB4.out⟩⟩
      case measure => simp [intOf]
    · have hown := HX.out.1
      obtain ⟨g2, cap, cur, rfl, hg1, hg2, hg3, hg4, hg5, hg6⟩ : ∃ g2 cap cur, u5 = .slice (some ⟨g2, 0, none⟩) 32 cap ∧ w.heap.size ≤ g2 ∧ wr.heap[g2]? = some (.cells cur 5 (0, 0)) ∧ 32 ≤ cap ∧ cap ≤ maxLen ∧ cur.size = cap * 1 ∧ cur.toList.take (32 * 1) = (((out ⟨p0, p1, p2, p3, p4, p5, p6, p7⟩).take (4 * 8)).map fun x => Value.int .u8 (x : Nat)) := by
        rcases hown.2 with ⟨_, hz⟩ | ⟨g2, cap, cur, hv, r⟩
        · exact absurd hz (by decide)
        · exact ⟨g2, cap, cur, hv, r⟩
      go_wp2_with fail
      rw [conv_row _ g2 32 cap 5 cur (0, 0) (out ⟨p0, p1, p2, p3, p4, p5, p6, p7⟩) hg2 (out_length _).symm (hg6.trans (by rw [List.take_of_length_le (Nat.le_of_eq (out_length _))]))]
      simp only [Result.andThen]
      rw [Oper.upon_value]
      go_wp2
      go_ret
      exact ⟨rfl, HX.out.2⟩
/-- the digest of a string -/
def shaB (s : ByteArray) : ByteArray := strN (sha (nat s))
theorem blocks_append : ∀ (a b : Nat) (s : St) (l : List Nat), blocks (a + b) s l = blocks b (blocks a s l) (l.drop (64 * a))
  | 0, b, s, l => by simp [blocks]
  | a + 1, b, s, l => by
    rw [show a + 1 + b = (a + b) + 1 by omega, blocks, blocks_append a b, blocks, List.drop_drop, show 64 + 64 * a = 64 * (a + 1) by omega]
theorem blocks_prefix : ∀ (a : Nat) (s : St) (l r : List Nat), 64 * a ≤ l.length → blocks a s (l ++ r) = blocks a s l
  | 0, _, _, _, _ => rfl
  | a + 1, s, l, r, h => by
    rw [blocks, blocks, List.take_append_of_le_length (by omega), List.drop_append_of_le_length (by omega), blocks_prefix a _ _ _ (by rw [List.length_drop]; omega)]
theorem init_ok : init.ok := ⟨by decide, by decide, by decide, by decide, by decide, by decide, by decide, by decide⟩
/-- written whole, and padded -/
theorem sha_parts (l r : List Nat) (h : r = l.drop (64 * (l.length / 64))) :
    out (blocks ((r ++ 128 :: (List.replicate ((119 - r.length) % 64) 0 ++ len8 (8 * l.length))).length / 64) (blocks (l.length / 64) init l) (r ++ 128 :: (List.replicate ((119 - r.length) % 64) 0 ++ len8 (8 * l.length)))) = sha l := by
  have hr : r.length = l.length % 64 := by rw [h, List.length_drop]; omega
  have hp : pad l = l.take (64 * (l.length / 64)) ++ (r ++ 128 :: (List.replicate ((119 - r.length) % 64) 0 ++ len8 (8 * l.length))) := by
    unfold pad
    rw [← List.append_assoc, h, List.take_append_drop, ← h, hr]
  have ht : (l.take (64 * (l.length / 64))).length = 64 * (l.length / 64) := by rw [List.length_take]; omega
  unfold sha
  congr 1
  have hl : (pad l).length / 64 = l.length / 64 + (r ++ 128 :: (List.replicate ((119 - r.length) % 64) 0 ++ len8 (8 * l.length))).length / 64 := by
    rw [hp, List.length_append, ht]; omega
  rw [hl, blocks_append]
  have e1 : blocks (l.length / 64) init (pad l) = blocks (l.length / 64) init l := by
    have e2 := blocks_prefix (l.length / 64) init (l.take (64 * (l.length / 64))) (l.drop (64 * (l.length / 64))) (Nat.le_of_eq ht.symm)
    rw [List.take_append_drop] at e2
    rw [hp, blocks_prefix _ _ _ _ (Nat.le_of_eq ht.symm), e2]
  rw [e1]
  congr 1
  rw [hp, List.drop_left' ht]
set_option maxHeartbeats 1000000 in
theorem sum_calls (s : ByteArray) (w : World) (hs : s.size ≤ 140737488355328) :
    Calls Try.prog 87 #[.string s] w fun e w' => e = .returned (.string (shaB s)) ∧ Below w.heap.size w w' := by
  go_enter Try.func87, Try.ntmps87
  go_wp2_with fail
  refine (new_calls _).mono ?_
  rintro e_ w1 ⟨rfl, hI1, hb1⟩
  go_wp2_with fail
  refine (write_calls w.heap.size w.heap.size init ⟨#[]⟩ s 0 w1 (Nat.le_refl _) hb1.size hI1 init_ok (by show 0 + s.size ≤ _; omega) (by omega)).mono ?_
  rintro e_ w2 ⟨rfl, ⟨x, hx, hI2⟩, hb2⟩
  have e0 : (⟨#[]⟩ ++ s : ByteArray) = s := by apply ByteArray.ext; simp
  have e1 : (⟨#[]⟩ : ByteArray).size + s.size = s.size := by show 0 + s.size = _; omega
  rw [e0, e1] at hx
  rw [e0, e1, Nat.zero_add] at hI2
  have hxl : x.size < 64 := by rw [← nat_length, hx, List.length_drop, nat_length]; omega
  have hfin := sha_parts (nat s) (nat x) (by rw [nat_length]; exact hx)
  rw [nat_length, nat_length] at hfin
  have HF := Lib.hid hfin
  have HI2 := Lib.hid hI2
  clear hx hfin hI2 hI1 e0 e1
  go_wp2_with fail
  refine (hsum_calls w.heap.size _ x s.size w2 HI2.out (blocks_ok init_ok _ _) hxl (by omega)).mono ?_
  rintro e_ w3 ⟨rfl, hb3⟩
  rw [HF.out]
  go_wp2
  go_ret
  exact ⟨rfl, (hb1.trans hb2).trans (hb3.mono (Nat.le_trans hb1.size hb2.size))⟩
end Go.Proofs.Ytldkkboeaadbeaa.Sh
end
section
/- Plain mathematics of the codec: the digits of an unsigned number (base 128), and how they are read. No program in sight. -/
namespace Go.Proofs.Ytldkkboeaadbeaa.Pl

/-- the bytes of an unsigned number -/
def leb (n : Nat) : List Int := if n < 128 then [(n : Int)] else ((n % 128 + 128 : Nat) : Int) :: leb (n / 128)
termination_by n
decreasing_by omega

theorem leb_lt {n : Nat} (h : n < 128) : leb n = [(n : Int)] := by rw [leb, if_pos h]
theorem leb_ge {n : Nat} (h : ¬ n < 128) : leb n = ((n % 128 + 128 : Nat) : Int) :: leb (n / 128) := by rw [leb, if_neg h]

theorem leb_range (n : Nat) : ∀ b ∈ leb n, 0 ≤ b ∧ b < 256 := by
  induction n using Nat.strongRecOn with
  | _ n ih =>
    by_cases h : n < 128
    · rw [leb_lt h]; intro b hb; simp at hb; omega
    · rw [leb_ge h]
      intro b hb
      rcases List.mem_cons.1 hb with rfl | hb
      · omega
      · exact ih (n / 128) (by omega) b hb

theorem leb_length : ∀ (m n : Nat), n < 128 ^ (m + 1) → (leb n).length ≤ m + 1
  | 0, n, h => by rw [leb_lt (by simpa using h)]; simp
  | m + 1, n, h => by
    by_cases hn : n < 128
    · rw [leb_lt hn]; simp
    · rw [leb_ge hn, List.length_cons]
      have : n / 128 < 128 ^ (m + 1) := by rw [Nat.div_lt_iff_lt_mul (by omega)]; rw [Nat.pow_succ] at h; exact h
      have := leb_length m (n / 128) this
      omega
theorem leb_len10 {n : Nat} (h : n < 18446744073709551616) : (leb n).length ≤ 10 := leb_length 9 n (Nat.lt_of_lt_of_le h (by decide))
theorem leb_pos (n : Nat) : 0 < (leb n).length := by
  by_cases h : n < 128
  · rw [leb_lt h]; simp
  · rw [leb_ge h]; simp

/-- reading: i bytes of this number have been read -/
def un : Nat → List Int → Option (Nat × List Int)
  | _, [] => none
  | i, b :: l => if i = 9 ∧ 1 < b then none else if b < 128 then (if 0 < b ∨ i = 0 then some (b.toNat, l) else none)
    else if 9 ≤ i then none else (un (i + 1) l).map fun p => ((b - 128).toNat + 128 * p.1, p.2)

theorem pow_step (i : Nat) (h : i < 9) : 2 ^ (64 - 7 * i) = 128 * 2 ^ (64 - 7 * (i + 1)) := by
  rw [show 64 - 7 * i = 7 + (64 - 7 * (i + 1)) by omega, Nat.pow_add]

/-- What was written is read. -/
theorem un_leb (n : Nat) : ∀ (i : Nat) (rest : List Int), i ≤ 9 → n < 2 ^ (64 - 7 * i) → (i = 0 ∨ 0 < n) → un i (leb n ++ rest) = some (n, rest) := by
  induction n using Nat.strongRecOn with
  | _ n ih =>
    intro i rest hi hn h0
    by_cases h : n < 128
    · rw [leb_lt h]
      show (if i = 9 ∧ 1 < (n : Int) then none else if (n : Int) < 128 then _ else _) = _
      rw [if_neg, if_pos (by omega), if_pos (by omega)]
      · simp
      · rintro ⟨rfl, h1⟩
        have : n < 2 := by simpa using hn
        omega
    · have hi9 : i < 9 := by
        rcases Nat.lt_or_ge i 9 with h9 | h9
        · exact h9
        · obtain rfl : i = 9 := by omega
          have : n < 2 := by simpa using hn
          omega
      rw [leb_ge h]
      show (if i = 9 ∧ 1 < ((n % 128 + 128 : Nat) : Int) then none else if ((n % 128 + 128 : Nat) : Int) < 128 then _ else if 9 ≤ i then none else (un (i + 1) (leb (n / 128) ++ rest)).map _) = _
      rw [if_neg (by omega), if_neg (by omega), if_neg (by omega)]
      rw [pow_step i hi9] at hn
      rw [ih (n / 128) (by omega) (i + 1) rest (by omega) (by rw [Nat.div_lt_iff_lt_mul (by omega), Nat.mul_comm]; exact hn) (.inr (by omega))]
      simp only [Option.map_some, Option.some.injEq, Prod.mk.injEq, and_true]
      omega

/-- What is read was written so. -/
theorem un_some : ∀ (l : List Int) (i v : Nat) (rest : List Int), i ≤ 9 → (∀ b ∈ l, 0 ≤ b ∧ b < 256) → un i l = some (v, rest) → l = leb v ++ rest ∧ (i = 0 ∨ 0 < v) ∧ v < 2 ^ (64 - 7 * i)
  | [], _, _, _, _, _, h => by cases h
  | b :: l, i, v, rest, hi, hr, h => by
    have hb := hr b List.mem_cons_self
    rw [un] at h
    by_cases h9 : i = 9 ∧ 1 < b
    · rw [if_pos h9] at h; cases h
    · rw [if_neg h9] at h
      by_cases hlt : b < 128
      · rw [if_pos hlt] at h
        by_cases hz : 0 < b ∨ i = 0
        · rw [if_pos hz] at h
          simp only [Option.some.injEq, Prod.mk.injEq] at h
          obtain ⟨rfl, rfl⟩ := h
          refine ⟨?_, ?_, ?_⟩
          · rw [leb_lt (by omega)]
            simp; omega
          · omega
          · by_cases hi9 : i = 9
            · subst hi9; simp; omega
            · have : 2 ^ 7 ≤ 2 ^ (64 - 7 * i) := Nat.pow_le_pow_right (by omega) (by omega)
              omega
        · rw [if_neg hz] at h; cases h
      · rw [if_neg hlt] at h
        by_cases hge : 9 ≤ i
        · rw [if_pos hge] at h; cases h
        · rw [if_neg hge] at h
          obtain ⟨⟨v', r'⟩, h1, h2⟩ := Option.map_eq_some_iff.1 h
          simp only [Prod.mk.injEq] at h2
          obtain ⟨rfl, rfl⟩ := h2
          obtain ⟨e, hv, hp⟩ := un_some l (i + 1) v' r' (by omega) (fun x hx => hr x (List.mem_cons_of_mem _ hx)) h1
          have hv' : 0 < v' := by omega
          refine ⟨?_, .inr (by omega), ?_⟩
          · rw [leb_ge (by omega), e]
            have e1 : ((b - 128).toNat + 128 * v') % 128 + 128 = b.toNat := by omega
            have e2 : ((b - 128).toNat + 128 * v') / 128 = v' := by omega
            rw [e1, e2, List.cons_append]
            congr 1
            omega
          · rw [pow_step i (by omega)]
            omega

theorem un_length {l : List Int} : ∀ {i v : Nat} {rest : List Int}, un i l = some (v, rest) → rest.length < l.length := by
  induction l with
  | nil => intro i v rest h; cases h
  | cons b l ih =>
    intro i v rest h
    rw [un] at h
    split at h
    · cases h
    · split at h
      · split at h
        · simp only [Option.some.injEq, Prod.mk.injEq] at h
          obtain ⟨_, rfl⟩ := h
          simp
        · cases h
      · split at h
        · cases h
        · obtain ⟨⟨v', r'⟩, h1, h2⟩ := Option.map_eq_some_iff.1 h
          simp only [Prod.mk.injEq] at h2
          obtain ⟨_, rfl⟩ := h2
          have := ih h1
          simp; omega

/-- the number for an integer -/
def zig (n : Int) : Nat := if n < 0 then (2 * (-n - 1) + 1).toNat else (2 * n).toNat
/-- the integer for a number -/
def zag (v : Nat) : Int := if v % 2 = 0 then (v / 2 : Nat) else -((v / 2 : Nat) : Int) - 1
theorem zag_zig (n : Int) : zag (zig n) = n := by unfold zag zig; split <;> split <;> omega
theorem zig_zag (v : Nat) : zig (zag v) = v := by unfold zag zig; split <;> split <;> omega
theorem zig_lt {n : Int} (h0 : -9223372036854775808 ≤ n) (h1 : n ≤ 9223372036854775807) : zig n < 18446744073709551616 := by unfold zig; split <;> omega

/-- the bytes of a string with its length, of a list of strings -/
def txt (s : List Int) : List Int := leb s.length ++ s
def txts (l : List (List Int)) : List Int := leb l.length ++ l.flatMap txt
/-- reading a string; so many strings; a list of strings -/
def decT (l : List Int) : Option (List Int × List Int) := (un 0 l).bind fun p => if p.1 ≤ p.2.length then some (p.2.take p.1, p.2.drop p.1) else none
def decN : Nat → List Int → Option (List (List Int) × List Int)
  | 0, l => some ([], l)
  | n + 1, l => (decT l).bind fun p => (decN n p.2).map fun q => (p.1 :: q.1, q.2)
def decL (l : List Int) : Option (List (List Int) × List Int) := (un 0 l).bind fun p => if p.1 ≤ p.2.length then decN p.1 p.2 else none
theorem decT_txt (s rest : List Int) (h : s.length < 18446744073709551616) : decT (txt s ++ rest) = some (s, rest) := by
  unfold decT txt
  rw [List.append_assoc, un_leb s.length 0 (s ++ rest) (by omega) (by simpa using h) (.inl rfl)]
  simp
theorem decN_txts : ∀ (l : List (List Int)) (rest : List Int), (∀ s ∈ l, s.length < 18446744073709551616) → decN l.length (l.flatMap txt ++ rest) = some (l, rest)
  | [], rest, _ => rfl
  | s :: l, rest, h => by
    rw [List.length_cons, decN, List.flatMap_cons, List.append_assoc, decT_txt s _ (h s List.mem_cons_self)]
    simp only [Option.bind_some]
    rw [decN_txts l rest (fun x hx => h x (List.mem_cons_of_mem _ hx))]
    rfl
theorem flat_length (l : List (List Int)) : l.length ≤ (l.flatMap txt).length := by
  induction l with
  | nil => simp
  | cons s l ih => rw [List.flatMap_cons, List.length_append, List.length_cons]; have := leb_pos s.length; simp only [txt, List.length_append]; omega
theorem decL_txts (l : List (List Int)) (rest : List Int) (hl : l.length < 18446744073709551616) (h : ∀ s ∈ l, s.length < 18446744073709551616) : decL (txts l ++ rest) = some (l, rest) := by
  unfold decL txts
  rw [List.append_assoc, un_leb l.length 0 _ (by omega) (by simpa using hl) (.inl rfl)]
  simp only [Option.bind_some]
  rw [if_pos (by rw [List.length_append]; have := flat_length l; omega), decN_txts l rest h]
/-- of two lists' bytes, none is the other's beginning -/
theorem txts_prefix (a b : List (List Int)) (r : List Int) (ha : a.length < 18446744073709551616) (hb : b.length < 18446744073709551616) (ha' : ∀ s ∈ a, s.length < 18446744073709551616) (hb' : ∀ s ∈ b, s.length < 18446744073709551616)
    (h : txts b = txts a ++ r) : a = b := by
  have h1 := decL_txts a r ha ha'
  have h2 := decL_txts b [] hb hb'
  rw [List.append_nil, h, h1] at h2
  simp only [Option.some.injEq, Prod.mk.injEq] at h2
  exact h2.1
end Go.Proofs.Ytldkkboeaadbeaa.Pl
end
section
/- The signature scheme and its tree of hashes, plainly: chains, leaves, roots, proofs of inclusion; what is signed is accepted. -/
set_option linter.unusedVariables false
set_option linter.unusedSimpArgs false
namespace Go.Proofs.Ytldkkboeaadbeaa.Sg
open Go.RowKit Go.Proofs.YtldkkboeaadbeaaW.PrintWords
/-- the digest -/
def H (s : ByteArray) : ByteArray := Sh.shaB s
theorem H_size (s : ByteArray) : (H s).size = 32 := by
  have h : (Sh.nat (H s)).length = 32 := by
    show (Sh.nat (Sh.strN (Sh.sha (Sh.nat s)))).length = 32
    simp only [Sh.nat, Sh.strN, List.length_map]
    exact Sh.out_length _
  rw [Sh.nat_length] at h
  exact h
def cat : List ByteArray → ByteArray → ByteArray
  | [], b => b
  | s :: l, b => cat l (b ++ s)
theorem cat_snoc : ∀ (l : List ByteArray) (s b : ByteArray), cat (l ++ [s]) b = cat l b ++ s
  | [], _, _ => rfl
  | x :: l, s, b => by rw [List.cons_append, cat, cat_snoc l]; rfl
theorem cat_le (m : Nat) : ∀ (l : List ByteArray) (b : ByteArray), (∀ s ∈ l, s.size ≤ m) → (cat l b).size ≤ b.size + m * l.length
  | [], b, _ => by simp [cat]
  | x :: l, b, h => by
    have h1 := cat_le m l (b ++ x) (fun s hs => h s (List.mem_cons_of_mem _ hs))
    have h2 := h x List.mem_cons_self
    rw [ByteArray.size_append] at h1
    rw [cat, List.length_cons, Nat.mul_succ]; omega
/-- the bytes of a number -/
def U (n : Nat) : ByteArray := strOfNums (Pl.leb n)
theorem U_le {n : Nat} (h : n < 18446744073709551616) : (U n).size ≤ 10 := by
  have := Pl.leb_len10 h
  simpa [U, strOfNums_size] using this
def numS (l : List Nat) : ByteArray := cat (l.map U) ⟨#[]⟩
theorem numS_le (l : List Nat) (h : ∀ n ∈ l, n < 18446744073709551616) : (numS l).size ≤ 10 * l.length := by
  have := cat_le 10 (l.map U) ⟨#[]⟩ (fun s hs => by obtain ⟨n, hn, rfl⟩ := List.mem_map.1 hs; exact U_le (h n hn))
  rw [List.length_map] at this
  have e : (⟨#[]⟩ : ByteArray).size = 0 := rfl
  unfold numS; omega
def step (k c p : Nat) (x : ByteArray) : ByteArray := H (⟨#[3]⟩ ++ numS [k, c, p] ++ x)
/-- n steps of a chain from position p -/
def wk (k c : Nat) : Nat → Nat → ByteArray → ByteArray
  | 0, _, x => x
  | n + 1, p, x => wk k c n (p + 1) (step k c p x)
theorem wk_add (k c : Nat) : ∀ (n m p : Nat) (x : ByteArray), wk k c (n + m) p x = wk k c m (p + n) (wk k c n p x)
  | 0, m, p, x => by rw [Nat.zero_add]; rfl
  | n + 1, m, p, x => by
    rw [show n + 1 + m = (n + m) + 1 by omega, wk, wk, wk_add k c n m, show p + 1 + n = p + (n + 1) by omega]
theorem wk_snoc (k c n p : Nat) (x : ByteArray) : wk k c (n + 1) p x = step k c (p + n) (wk k c n p x) := by
  rw [wk_add]; rfl
theorem wk_size (k c : Nat) : ∀ (n p : Nat) (x : ByteArray), x.size = 32 → (wk k c n p x).size = 32
  | 0, _, _, h => h
  | n + 1, p, x, h => wk_size k c n _ _ (H_size _)
def sec (seed : ByteArray) (k c : Nat) : ByteArray := H (⟨#[2]⟩ ++ seed ++ numS [k, c])
theorem cat_size : ∀ (l : List ByteArray) (b : ByteArray), (∀ s ∈ l, s.size = 32) → (cat l b).size = b.size + 32 * l.length
  | [], b, _ => by simp [cat]
  | x :: l, b, h => by
    rw [cat, cat_size l _ (fun s hs => h s (List.mem_cons_of_mem _ hs)), ByteArray.size_append, h x List.mem_cons_self, List.length_cons]; omega
def leafH (b : ByteArray) : ByteArray := H (⟨#[0]⟩ ++ b)
def node (l r : ByteArray) : ByteArray := if l.size = 32 ∧ r.size = 32 then H (⟨#[1]⟩ ++ (l ++ r)) else ⟨#[]⟩
theorem node_size {l r : ByteArray} (hl : l.size = 32) (hr : r.size = 32) : (node l r).size = 32 := by rw [node, if_pos ⟨hl, hr⟩]; exact H_size _
/-- the chains of a one-time key, walked to their ends -/
def chains (seed : ByteArray) (k n : Nat) : List ByteArray := (List.range n).map fun c => wk k c 15 0 (sec seed k c)
def leafOf (seed : ByteArray) (k : Nat) : ByteArray := leafH (cat (chains seed k 67) ⟨#[]⟩)
def leaves (seed : ByteArray) (n : Nat) : List ByteArray := (List.range n).map (leafOf seed)
theorem leaves_length (seed : ByteArray) (n : Nat) : (leaves seed n).length = n := by simp [leaves]
theorem leaves_size (seed : ByteArray) (n : Nat) : ∀ s ∈ leaves seed n, s.size = 32 := by
  intro s hs
  obtain ⟨i, _, rfl⟩ := List.mem_map.1 hs
  exact H_size _
/-- the greatest power of two below a number -/
def spl (n : Nat) : Nat := 2 ^ Nat.log2 (n - 1)
theorem spl_pos (n : Nat) : 0 < spl n := Nat.two_pow_pos _
theorem spl_lt {n : Nat} (h : 2 ≤ n) : spl n < n := by
  have := Nat.log2_self_le (n := n - 1) (by omega)
  unfold spl; omega
def root (l : List ByteArray) : ByteArray :=
  if h : l.length ≤ 1 then l.headD (H ⟨#[]⟩)
  else node (root (l.take (spl l.length))) (root (l.drop (spl l.length)))
termination_by l.length
decreasing_by
  · have := spl_lt (n := l.length) (by omega)
    simp; omega
  · have := spl_pos l.length
    simp; omega
theorem root_le {l : List ByteArray} (h : l.length ≤ 1) : root l = l.headD (H ⟨#[]⟩) := by rw [root, dif_pos h]
theorem root_gt {l : List ByteArray} (h : 2 ≤ l.length) : root l = node (root (l.take (spl l.length))) (root (l.drop (spl l.length))) := by
  rw [root, dif_neg (by omega)]
theorem root_size : ∀ (n : Nat) (l : List ByteArray), l.length ≤ n → (∀ s ∈ l, s.size = 32) → (root l).size = 32
  | 0, l, hn, h => by
    have : l = [] := List.length_eq_zero_iff.1 (by omega)
    subst this
    rw [root_le (by simp)]
    exact H_size _
  | n + 1, l, hn, h => by
    by_cases c : l.length ≤ 1
    · rw [root_le c]
      cases l with
      | nil => exact H_size _
      | cons a l => exact h a List.mem_cons_self
    · have h1 := spl_lt (n := l.length) (by omega)
      have h2 := spl_pos l.length
      rw [root_gt (by omega)]
      exact node_size (root_size n _ (by simp; omega) (fun s hs => h s (List.mem_of_mem_take hs))) (root_size n _ (by simp; omega) (fun s hs => h s (List.mem_of_mem_drop hs)))
/-- the proof of inclusion, its last element first -/
def inclR (l : List ByteArray) (i : Nat) : List ByteArray :=
  if h : l.length ≤ 1 then []
  else if i < spl l.length then root (l.drop (spl l.length)) :: inclR (l.take (spl l.length)) i
  else root (l.take (spl l.length)) :: inclR (l.drop (spl l.length)) (i - spl l.length)
termination_by l.length
decreasing_by
  · have := spl_lt (n := l.length) (by omega)
    simp; omega
  · have := spl_pos l.length
    simp; omega
def incl (l : List ByteArray) (i : Nat) : List ByteArray := (inclR l i).reverse
theorem inclR_le {l : List ByteArray} (i : Nat) (h : l.length ≤ 1) : inclR l i = [] := by rw [inclR, dif_pos h]
theorem incl_lt {l : List ByteArray} {i : Nat} (h : 2 ≤ l.length) (hi : i < spl l.length) : incl l i = incl (l.take (spl l.length)) i ++ [root (l.drop (spl l.length))] := by
  unfold incl
  rw [inclR, dif_neg (by omega), if_pos hi, List.reverse_cons]
theorem incl_ge {l : List ByteArray} {i : Nat} (h : 2 ≤ l.length) (hi : ¬ i < spl l.length) : incl l i = incl (l.drop (spl l.length)) (i - spl l.length) ++ [root (l.take (spl l.length))] := by
  unfold incl
  rw [inclR, dif_neg (by omega), if_neg hi, List.reverse_cons]
theorem inclR_size : ∀ (n : Nat) (l : List ByteArray) (i : Nat), l.length ≤ n → (∀ s ∈ l, s.size = 32) → ∀ s ∈ inclR l i, s.size = 32
  | 0, l, i, hn, h => by rw [inclR_le i (by omega)]; simp
  | n + 1, l, i, hn, h => by
    by_cases c : l.length ≤ 1
    · rw [inclR_le i c]; simp
    · have h1 := spl_lt (n := l.length) (by omega)
      have h2 := spl_pos l.length
      have ht : ∀ s ∈ l.take (spl l.length), s.size = 32 := fun s hs => h s (List.mem_of_mem_take hs)
      have hd : ∀ s ∈ l.drop (spl l.length), s.size = 32 := fun s hs => h s (List.mem_of_mem_drop hs)
      rw [inclR, dif_neg c]
      split
      · intro s hs
        rcases List.mem_cons.1 hs with rfl | hs
        · exact root_size n _ (by simp; omega) hd
        · exact inclR_size n _ i (by simp; omega) ht s hs
      · intro s hs
        rcases List.mem_cons.1 hs with rfl | hs
        · exact root_size n _ (by simp; omega) ht
        · exact inclR_size n _ _ (by simp; omega) hd s hs
theorem incl_size (l : List ByteArray) (i : Nat) (h : ∀ s ∈ l, s.size = 32) : ∀ s ∈ incl l i, s.size = 32 := fun s hs => inclR_size _ l i (Nat.le_refl _) h s (List.mem_reverse.1 hs)
/-- the root that a proof gives (its last element first), and whether it has the right length -/
def givR (leaf : ByteArray) : List ByteArray → Nat → Nat → ByteArray × Bool
  | [], _, n => if n = 1 then (leaf, true) else (⟨#[]⟩, false)
  | last :: rest, i, n => if n = 1 then (leaf, false) else
      if i < spl n then (node (givR leaf rest i (spl n)).1 last, (givR leaf rest i (spl n)).2)
      else (node last (givR leaf rest (i - spl n) (n - spl n)).1, (givR leaf rest (i - spl n) (n - spl n)).2)
theorem givR_incl : ∀ (n : Nat) (l : List ByteArray) (i : Nat) (x : ByteArray) (m : Nat), l[i]? = some x → l.length = m → m ≤ n → givR x (inclR l i) i m = (root l, true)
  | 0, l, i, x, m, hx, hm, hn => by
    have := (List.getElem?_eq_some_iff.1 hx).1
    omega
  | n + 1, l, i, x, m, hx, hm, hn => by
    have hi := (List.getElem?_eq_some_iff.1 hx).1
    by_cases c : l.length ≤ 1
    · have h0 : i = 0 := by omega
      subst h0
      rw [inclR_le _ c, root_le c, givR, if_pos (by omega)]
      cases l with
      | nil => simp at hi
      | cons a l => simp at hx; subst hx; rfl
    · have h1 := spl_lt (n := l.length) (by omega)
      have h2 := spl_pos l.length
      have hl1 : (l.take (spl l.length)).length = spl l.length := by rw [List.length_take]; omega
      have hl2 : (l.drop (spl l.length)).length = l.length - spl l.length := by simp
      rw [inclR, dif_neg c, root_gt (l := l) (by omega), hm]
      rw [hm] at hl1 hl2 h1 h2
      by_cases hk : i < spl m
      · rw [if_pos hk, givR, if_neg (by omega), if_pos hk, givR_incl n (l.take (spl m)) i x (spl m) (by rw [List.getElem?_take, if_pos hk]; exact hx) hl1 (by omega)]
      · rw [if_neg hk, givR, if_neg (by omega), if_neg hk, givR_incl n (l.drop (spl m)) (i - spl m) x (m - spl m) (by rw [List.getElem?_drop, show spl m + (i - spl m) = i by omega]; exact hx) hl2 (by omega)]
def dgst (l : List ByteArray) : Bool := l.all fun s => decide (s.size = 32)
theorem dgst_iff (l : List ByteArray) : dgst l = true ↔ ∀ s ∈ l, s.size = 32 := by simp [dgst]
def included (leaf : ByteArray) (i n : Int) (proof : List ByteArray) (rt : ByteArray) : Bool :=
  if leaf.size = 32 ∧ rt.size = 32 ∧ proof.length ≤ 4096 ∧ dgst proof = true ∧ 1 ≤ n ∧ n ≤ 4096 ∧ 0 ≤ i ∧ i < n then
    (givR leaf proof.reverse i.toNat n.toNat).2 && decide ((givR leaf proof.reverse i.toNat n.toNat).1 = rt) else false
theorem included_incl (l : List ByteArray) (i : Nat) (hi : i < l.length) (hn : l.length ≤ 4096) (h : ∀ s ∈ l, s.size = 32) (hp : (incl l i).length ≤ 4096) : included l[i] i l.length (incl l i) (root l) = true := by
  unfold included
  rw [if_pos ⟨h _ (List.getElem_mem hi), root_size _ l (Nat.le_refl _) h, hp, (dgst_iff _).2 (incl_size l i h), by omega, by omega, by omega, by omega⟩]
  unfold incl
  rw [List.reverse_reverse, Int.toNat_natCast, Int.toNat_natCast, givR_incl _ l i _ _ (List.getElem?_eq_getElem hi) rfl (Nat.le_refl _)]
  simp
/-- the digits of a message -/
def nib (m : ByteArray) : List Nat := (Sh.nat (H m)).flatMap fun b => [b / 16, b % 16]
def chk : List Nat → Nat
  | [] => 0
  | d :: l => (15 - d) + chk l
def digs (m : ByteArray) : List Nat := nib m ++ [chk (nib m) / 256, chk (nib m) / 16 % 16, chk (nib m) % 16]
theorem flat2_length (l : List Nat) : (l.flatMap fun b => [b / 16, b % 16]).length = 2 * l.length := by
  induction l with
  | nil => rfl
  | cons a l ih => simp only [List.flatMap_cons, List.length_append, ih, List.length_cons, List.length_nil]; omega
theorem nib_length (m : ByteArray) : (nib m).length = 64 := by
  rw [nib, flat2_length, Sh.nat_length, H_size]
theorem nib_le (m : ByteArray) : ∀ d ∈ nib m, d ≤ 15 := by
  intro d hd
  obtain ⟨b, hb, hd⟩ := List.mem_flatMap.1 hd
  have : b < 256 := by
    obtain ⟨x, _, rfl⟩ := List.mem_map.1 hb
    exact x.toNat_lt
  simp at hd
  omega
theorem chk_le : ∀ l : List Nat, chk l ≤ 15 * l.length
  | [] => Nat.le_refl _
  | d :: l => by have := chk_le l; simp [chk]; omega
theorem digs_length (m : ByteArray) : (digs m).length = 67 := by simp [digs, nib_length]
theorem digs_le (m : ByteArray) : ∀ d ∈ digs m, d ≤ 15 := by
  intro d hd
  have h1 := chk_le (nib m)
  rw [nib_length] at h1
  rcases List.mem_append.1 hd with hd | hd
  · exact nib_le m d hd
  · simp at hd; omega
/-- the chains of a signature, and of its check -/
def sigCh (seed : ByteArray) (k : Nat) (ds : List Nat) (n : Nat) : List ByteArray := (List.range n).map fun c => wk k c (ds.getD c 0) 0 (sec seed k c)
def verCh (k : Nat) (ds : List Nat) (cs : List ByteArray) (n : Nat) : List ByteArray := (List.range n).map fun c => wk k c (15 - ds.getD c 0) (ds.getD c 0) (cs.getD c ⟨#[]⟩)
theorem sigCh_length (seed : ByteArray) (k : Nat) (ds : List Nat) (n : Nat) : (sigCh seed k ds n).length = n := by simp [sigCh]
theorem sigCh_size (seed : ByteArray) (k : Nat) (ds : List Nat) (n : Nat) : ∀ s ∈ sigCh seed k ds n, s.size = 32 := by
  intro s hs
  obtain ⟨c, _, rfl⟩ := List.mem_map.1 hs
  exact wk_size _ _ _ _ _ (H_size _)
theorem ver_sig (seed : ByteArray) (k : Nat) (ds : List Nat) (n : Nat) (h : ∀ d ∈ ds, d ≤ 15) : verCh k ds (sigCh seed k ds n) n = chains seed k n := by
  unfold verCh chains
  apply List.map_congr_left
  intro c hc
  have hc := List.mem_range.1 hc
  have hd : ds.getD c 0 ≤ 15 := by
    by_cases e : c < ds.length
    · rw [List.getD_eq_getElem?_getD, List.getElem?_eq_getElem e]; exact h _ (List.getElem_mem e)
    · rw [List.getD_eq_getElem?_getD, List.getElem?_eq_none (by omega)]; exact Nat.zero_le _
  have hg : (sigCh seed k ds n).getD c ⟨#[]⟩ = wk k c (ds.getD c 0) 0 (sec seed k c) := by
    simp [sigCh, List.getD_eq_getElem?_getD, hc]
  have := wk_add k c (ds.getD c 0) (15 - ds.getD c 0) 0 (sec seed k c)
  rw [show ds.getD c 0 + (15 - ds.getD c 0) = 15 by omega, Nat.zero_add] at this
  rw [hg, this]
structure Sig where
  idx : Int
  ch : List ByteArray
  path : List ByteArray
/-- whether a signature is accepted -/
def verify (pub m : ByteArray) (s : Sig) : Bool :=
  if pub.size = 33 ∧ pub.data.toList.getD 32 0 ≤ 6 ∧ 0 ≤ s.idx ∧ s.idx < 2 ^ (pub.data.toList.getD 32 0).toNat ∧ s.ch.length = 67 ∧ dgst s.ch = true then
    included (leafH (cat (verCh s.idx.toNat (digs m) s.ch 67) ⟨#[]⟩)) s.idx (2 ^ (pub.data.toList.getD 32 0).toNat) s.path (pub.extract 0 32)
  else false
def public_ (seed : ByteArray) (h : Nat) : ByteArray := root (leaves seed (2 ^ h)) ++ ⟨#[UInt8.ofNat h]⟩
def signed (seed : ByteArray) (h k : Nat) (m : ByteArray) : Sig := ⟨k, sigCh seed k (digs m) 67, incl (leaves seed (2 ^ h)) k⟩
end Go.Proofs.Ytldkkboeaadbeaa.Sg
end
