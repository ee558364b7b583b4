/- CodecCanonical: the walk. -/
import Derived.Test.YtldkkboeaadbeaaPureCodecCanonical
import Derived.Test.YtldkkboeaadbeaaBuilder
import Derived.Test.YtldkkboeaadbeaaShelf
import Derived.Test.YtldkkboeaadbeaaPr7
import Derived.Test.YtldkkboeaadbeaaPr15
import Derived.Test.YtldkkboeaadbeaaPr2
import Derived.Test.YtldkkboeaadbeaaPr6
import Derived.Test.YtldkkboeaadbeaaPr1
import Derived.Test.YtldkkboeaadbeaaPr16
import Derived.Test.YtldkkboeaadbeaaPr17
import Derived.Lib.Hide
set_option linter.unusedVariables false
set_option linter.unusedSimpArgs false
namespace Go.Proofs.Ytldkkboeaadbeaa.Pr
open Go.RowKit Go.Proofs.YtldkkboeaadbeaaW.PrintWords Go.Proofs.YtldkkboeaadbeaaW.PrintLast Go.Proofs.YtldkkboeaadbeaaW.PrintMore
/-- the error of a reader, read: nothing is written -/
theorem Error_quiet (g : Nat) (s0 : ByteArray) (s1 s2 : Int) (w : World) (hI : w.heap[g]? = some (.cells #[.string s0, .int .i64 s1, .int .i64 s2] 89 (0, 0))) :
    Calls Try.prog 29 #[.pointer (some ⟨g, 0, none⟩)] w fun e w' => e = .returned (.int .i64 s2) ∧ w = w' := by
  have hc := cellS89_2 hI
  clear hI
  go_enter Try.func29, Try.ntmps29
  go_wp2
  go_ret
  exact ⟨rfl, rfl⟩
/-- a builder is kept where but one other block is written -/
theorem builder_keep {g B b : Nat} {bs : List Value} {w w' : World} (h : Lib.IsBuilder Sb.TB 5 B b bs w) (hk : KeepBut w w' g none) (hg : g < B) : Lib.IsBuilder Sb.TB 5 B b bs w' := by
  have key : ∀ p, Lib.BuilderAt Sb.TB 5 B b p bs w → Lib.BuilderAt Sb.TB 5 B b p bs w' := by
    rintro p ⟨hB, v, hv, ho, hne⟩
    have hlt : b < w.heap.size := (Array.getElem?_eq_some_iff.1 hv).1
    exact ⟨hB, v, (hk.2 b hlt (by omega) (by simp)).trans hv, own_move ho (fun k hk' => hk.2 k (ho.lt k hk').2 (by have := (ho.lt k hk').1; omega) (by simp)), hne⟩
  exact h.imp (key _) (key _)
/-- what a reader ends with -/
def EndIs (s : ByteArray) (p e x : Int) : Prop := (e ≠ 0 ∧ x = e) ∨ (e = 0 ∧ p < s.size ∧ x = 9) ∨ (e = 0 ∧ ¬ p < s.size ∧ x = 0)
theorem End_quiet (g : Nat) (s0 : ByteArray) (s1 s2 x : Int) (w : World) (hI : w.heap[g]? = some (.cells #[.string s0, .int .i64 s1, .int .i64 s2] 89 (0, 0)))
    (hx : EndIs s0 s1 s2 x) :
    Calls Try.prog 30 #[.pointer (some ⟨g, 0, none⟩)] w fun e w' => e = .returned (.int .i64 x) ∧ ∃ n, w.drewN n = w' := by
  have hc := cellS89_2 hI
  have hc1 := cellS89_1 hI
  have hc0 := cellS89_0 hI
  clear hI
  rcases hx with ⟨h1, rfl⟩ | ⟨rfl, h1, rfl⟩ | ⟨rfl, h1, rfl⟩
  · have b1 : (x == 0) = false := beq_eq_false_iff_ne.mpr h1
    go_enter Try.func30, Try.ntmps30
    go_wp2
    go_quiet (fail)
    go_wp2
    go_ret
    exact ⟨rfl, _, rfl⟩
  · have b1 : decide (s1 < (s0.size : Int)) = true := decide_eq_true h1
    go_enter Try.func30, Try.ntmps30
    go_wp2
    go_quiet (fail)
    go_wp2
    go_ret
    exact ⟨rfl, _, rfl⟩
  · have b1 : decide (s1 < (s0.size : Int)) = false := decide_eq_false h1
    go_enter Try.func30, Try.ntmps30
    go_wp2
    go_quiet (fail)
    go_wp2
    go_ret
    exact ⟨rfl, _, rfl⟩
theorem reader_below {B : Nat} {w0 w w' : World} {g : Nat} {s : ByteArray} {p e : Int} (h : IsS89 w0 w g s p e) (hb : Below B w w') (hg : g < B) : IsS89 w0 w' g s p e := ⟨(hb.block g hg).trans h.1, h.2⟩
theorem builder_alloc {B b : Nat} {bs : List Value} {w : World} (h : Lib.IsBuilder Sb.TB 5 B b bs w) (o : Obj) : Lib.IsBuilder Sb.TB 5 B b bs (w.alloc o) := builder_below h (below_alloc (Below.refl _ _) o)
theorem strCells_bytes (s : ByteArray) : Lib.strCells s = Lib.byteCells s.data.toList := Lib.strCells_eq s
theorem String_of (B b : Nat) (t : ByteArray) (w : World) (h : Lib.IsBuilderF Sb.TB 5 B b (Lib.strCells t) w) (hBw : B ≤ w.heap.size) :
    Calls Try.prog 38 #[.pointer (some ⟨b, 0, none⟩)] w fun e w' => e = .returned (.string t) ∧ (Lib.IsBuilderF Sb.TB 5 B b (Lib.strCells t) w' ∧ Below B w w') := by
  rw [strCells_bytes] at h ⊢
  exact Try.Builder_String_any_f B b t.data.toList w h hBw
theorem prefix_calls (s : ByteArray) (p : Nat) (w : World) : Calls Try.prog 36 #[.string s, .string (s.extract 0 p)] w fun e w' => e = .returned (.bool true) ∧ w = w' := by
  have h : Lib.hasPrefix s.data.toList (s.extract 0 p).data.toList = true := by
    unfold Lib.hasPrefix
    rw [List.isPrefixOf_iff_prefix, ByteArray.data_extract, Array.toList_extract, List.extract_eq_take_drop]
    simpa using List.take_prefix _ _
  rw [← h]
  exact (Try.strings_HasPrefix s (s.extract 0 p) w).mono fun _ _ ⟨a, b⟩ => ⟨a, b.symm⟩
set_option maxHeartbeats 8000000 in
theorem Canon_few (k : Nat) (s : ByteArray) (A : Option Addr) (c : Nat) (l : List S51) (w : World) (hr : Kd.C k51 w A l.length l) (hc : l.length ≤ c) (a1 : modcertlaw02_awake.f k = some true) (h1 : s.size ≤ 2000) (h2 : l.length ≤ 30) :
    Calls Try.prog 9 #[.string s, .slice A l.length c] w fun e w' => e = .returned (.bool true) ∧ Below w.heap.size w w' := by
  have HR := Aside0.mk hr
  have HC := Aside0.mk hc
  have HB := Aside0.mk (Below.refl w.heap.size w)
  have A1 := Aside0.mk a1
  clear hr hc a1
  have e1 : decide (2000 < s.size) = false := decide_eq_false (by omega)
  have e2 : decide (30 < l.length) = false := decide_eq_false (by omega)
  go_enter Try.func9, Try.ntmps9
  go_wp2_with (first | (go_at_call 13; (with_reducible refine (modcertlaw02_awake.calls k true _ A1.out).mono ?_); rintro e w1 ⟨rfl, hb⟩; have n0_ := Aside0.mk (below_step HB.out hb); clear HB; have HB := n0_; clear n0_; clear hb) | (go_at_call 23; (with_reducible refine (codec_NewReader.calls _ _ _ _ w _ HB.out (show codec_NewReader.f s = some (s, 0, 0) from rfl)).mono ?_); rintro e w2 ⟨g, rfl, hi, hb, hb2⟩; have HI := Aside0.mk hi; clear HB; have HB := Aside0.mk hb; clear hb hb2 hi))
  have hgB : g < w2.heap.size := HI.out.lt
  have hwB : w.heap.size ≤ w2.heap.size := HB.out.size
  have HS := Aside0.mk (show (0 : Nat) ≤ s.size ∧ IsS89 w (w2.alloc (.cells #[.pointer none, .slice none 0 0] Sb.TB)) g s ((0 : Nat) : Int) 0 ∧ Lib.IsBuilder Sb.TB 5 w2.heap.size w2.heap.size (Lib.strCells (s.extract 0 0)) (w2.alloc (.cells #[.pointer none, .slice none 0 0] Sb.TB)) ∧ Below w.heap.size w (w2.alloc (.cells #[.pointer none, .slice none 0 0] Sb.TB)) ∧ w2.heap.size ≤ (w2.alloc (.cells #[.pointer none, .slice none 0 0] Sb.TB)).heap.size from
    ⟨by omega, HI.out.alloc _, by rw [show s.extract 0 0 = ⟨#[]⟩ from by apply ByteArray.ext; simp]; exact .inl ⟨Nat.le_refl _, .slice none 0 0, by simpa using heap_alloc_new w2 _, own_nil _ _ _ _, by simp [Value.ownBlock]⟩, below_alloc HB.out _, by simp⟩)
  go_loopw [28] (fun i wr => ∃ j p : Nat, j ≤ l.length ∧ i = .int .i64 j ∧ Aside0 (p ≤ s.size ∧ IsS89 w wr g s p 0 ∧ Lib.IsBuilder Sb.TB 5 w2.heap.size w2.heap.size (Lib.strCells (s.extract 0 p)) wr ∧ Below w.heap.size w wr ∧ w2.heap.size ≤ wr.heap.size)) (fun i _ => l.length - (intOf i).toNat)
  case atStart => exact ⟨0, 0, Nat.zero_le _, rfl, HS⟩
  case round =>
    obtain ⟨j, p, hj, rfl, HX⟩ := hrel
    clear HI HB HS
    obtain ⟨hp, hi, hbu, hb, hsz⟩ := HX.out
    clear HX
    have HI := Aside0.mk hi
    have HU := Aside0.mk hbu
    have HB := Aside0.mk hb
    clear hi hbu hb
    by_cases hlt : j < l.length
    · obtain ⟨ad, ea, hx0, hx1⟩ := at_T51 HR.out (j : Int) (by omega) (by omega)
      cases ea
      rw [Int.toNat_natCast] at hx0 hx1
      replace hx0 := (HB.out.cell (World.block_lt_of_cell? w _ hx0)).trans hx0
      replace hx1 := (HB.out.cell (World.block_lt_of_cell? w _ hx1)).trans hx1
      have hjj : decide (j < l.length) = true := decide_eq_true hlt
      generalize (rd_T51 l (j : Int)).f0 = c0 at *
      generalize (rd_T51 l (j : Int)).f1 = c1 at *
      obtain ⟨k2, n, t, ll, e, p', hres, hp', hwr⟩ := canon_step s h1 p hp c0 c1
      have A2 := Aside0.mk hres
      clear hres
      by_cases he : e = 0
      · subst he
        have hwr := hwr rfl
        rcases hwr with ⟨h0 | h0, u, hu, hx⟩ | ⟨h0, u, hu, hx⟩ | ⟨h0, u, hu, hx⟩ | ⟨h0, u, hu, hx⟩ | ⟨q0, q3, q1, q2, q4, hq⟩
        · subst h0
          have A3 := Aside0.mk hu
          have LB := Aside0.mk (show (s.extract 0 p).size + u.size ≤ 2000 by have := congrArg ByteArray.size hx; rw [ByteArray.size_append, ByteArray.size_extract (b := 0) (e := p')] at this; omega)
          have HX := Aside0.mk hx
          clear hu hx
          go_wp2_with (first | (go_at_call 33; refine (modcertlaw02_result.calls k2 g _ _ _ _ _ _ _ _ _ _ _ _ w _ (HI.out.alloc _) (below_alloc HB.out _) A2.out).mono ?_; rintro e_ w3 ⟨v2, rfl, hR, hi3, hb3, hk3⟩; obtain ⟨Al, cl, el⟩ := Kd.R_slice hR; subst el; have hcx := keep_cell hk3 (c := wr.heap.size) (v := .int .i64 0) (by simp) (by have := HI.out.lt; omega) (by simp); have HU3 := Aside0.mk (builder_keep (builder_alloc HU.out _) hk3 hgB); have HI3 := Aside0.mk hi3; have HB3 := Aside0.mk hb3; have HR3 := Aside0.mk hR; have hz3 : wr.heap.size + 1 ≤ w3.heap.size := (by have := hk3.1; simpa using this); have hcy : ∀ o, (w3.alloc o).cell? ⟨wr.heap.size, 0, none⟩ = some (.int .i64 0) := fun o => ((below_alloc (Below.refl _ w3) o).cell (p := ⟨wr.heap.size, 0, none⟩) (by show wr.heap.size < w3.heap.size; omega)).trans hcx; clear hi3 hb3 hk3 hR) | (go_at_call 29; refine (Error_quiet g _ _ _ _ (HI3.out.alloc _).1).mono ?_; rintro e_ w_ ⟨rfl, rfl⟩) | (go_at_call 15; refine (codec_Uint.calls _ _ _ _ _ A3.out).mono ?_; rintro e_ w4 ⟨rfl, hb4⟩; have HU4 := Aside0.mk (builder_below (builder_alloc HU3.out _) hb4); have HI4 := Aside0.mk (IsS89.below (HI3.out.alloc _) hb4); have HB4 := Aside0.mk (below_step (below_alloc HB3.out _) hb4); have hz4 : w3.heap.size + 1 ≤ w4.heap.size := (by have := hb4.size; simpa using this); clear hb4) | (go_at_call 37; refine (Sb.WriteString w2.heap.size w2.heap.size (Lib.strCells (s.extract 0 p)) u _ HU4.out (by rw [Lib.strCells_length]; have := LB.out; omega) (by omega)).mono ?_; rintro e_ w5 ⟨rfl, hU5, hb5⟩; have HU5 := Aside0.mk hU5; have HI5 := Aside0.mk (reader_below HI4.out hb5 hgB); have HB5 := Aside0.mk (HB4.out.trans (hb5.mono hwB)); have hz5 : w2.heap.size ≤ w5.heap.size := (by have := hb5.size; omega); clear hU5 hb5))
          go_roundw
          case rel => exact ⟨j + 1, p', by omega, by go_num, ⟨hp', HI5.out, by rw [← HX.out, strCells_append]; exact .inr HU5.out, HB5.out, hz5⟩⟩
          case measure => simp [intOf]; omega
        · subst h0
          have A3 := Aside0.mk hu
          have LB := Aside0.mk (show (s.extract 0 p).size + u.size ≤ 2000 by have := congrArg ByteArray.size hx; rw [ByteArray.size_append, ByteArray.size_extract (b := 0) (e := p')] at this; omega)
          have HX := Aside0.mk hx
          clear hu hx
          go_wp2_with (first | (go_at_call 33; refine (modcertlaw02_result.calls k2 g _ _ _ _ _ _ _ _ _ _ _ _ w _ (HI.out.alloc _) (below_alloc HB.out _) A2.out).mono ?_; rintro e_ w3 ⟨v2, rfl, hR, hi3, hb3, hk3⟩; obtain ⟨Al, cl, el⟩ := Kd.R_slice hR; subst el; have hcx := keep_cell hk3 (c := wr.heap.size) (v := .int .i64 3) (by simp) (by have := HI.out.lt; omega) (by simp); have HU3 := Aside0.mk (builder_keep (builder_alloc HU.out _) hk3 hgB); have HI3 := Aside0.mk hi3; have HB3 := Aside0.mk hb3; have HR3 := Aside0.mk hR; have hz3 : wr.heap.size + 1 ≤ w3.heap.size := (by have := hk3.1; simpa using this); have hcy : ∀ o, (w3.alloc o).cell? ⟨wr.heap.size, 0, none⟩ = some (.int .i64 3) := fun o => ((below_alloc (Below.refl _ w3) o).cell (p := ⟨wr.heap.size, 0, none⟩) (by show wr.heap.size < w3.heap.size; omega)).trans hcx; clear hi3 hb3 hk3 hR) | (go_at_call 29; refine (Error_quiet g _ _ _ _ (HI3.out.alloc _).1).mono ?_; rintro e_ w_ ⟨rfl, rfl⟩) | (go_at_call 15; refine (codec_Uint.calls _ _ _ _ _ A3.out).mono ?_; rintro e_ w4 ⟨rfl, hb4⟩; have HU4 := Aside0.mk (builder_below (builder_alloc HU3.out _) hb4); have HI4 := Aside0.mk (IsS89.below (HI3.out.alloc _) hb4); have HB4 := Aside0.mk (below_step (below_alloc HB3.out _) hb4); have hz4 : w3.heap.size + 1 ≤ w4.heap.size := (by have := hb4.size; simpa using this); clear hb4) | (go_at_call 37; refine (Sb.WriteString w2.heap.size w2.heap.size (Lib.strCells (s.extract 0 p)) u _ HU4.out (by rw [Lib.strCells_length]; have := LB.out; omega) (by omega)).mono ?_; rintro e_ w5 ⟨rfl, hU5, hb5⟩; have HU5 := Aside0.mk hU5; have HI5 := Aside0.mk (reader_below HI4.out hb5 hgB); have HB5 := Aside0.mk (HB4.out.trans (hb5.mono hwB)); have hz5 : w2.heap.size ≤ w5.heap.size := (by have := hb5.size; omega); clear hU5 hb5))
          go_roundw
          case rel => exact ⟨j + 1, p', by omega, by go_num, ⟨hp', HI5.out, by rw [← HX.out, strCells_append]; exact .inr HU5.out, HB5.out, hz5⟩⟩
          case measure => simp [intOf]; omega
        · subst h0
          have A3 := Aside0.mk hu
          have LB := Aside0.mk (show (s.extract 0 p).size + u.size ≤ 2000 by have := congrArg ByteArray.size hx; rw [ByteArray.size_append, ByteArray.size_extract (b := 0) (e := p')] at this; omega)
          have HX := Aside0.mk hx
          clear hu hx
          go_wp2_with (first | (go_at_call 33; refine (modcertlaw02_result.calls k2 g _ _ _ _ _ _ _ _ _ _ _ _ w _ (HI.out.alloc _) (below_alloc HB.out _) A2.out).mono ?_; rintro e_ w3 ⟨v2, rfl, hR, hi3, hb3, hk3⟩; obtain ⟨Al, cl, el⟩ := Kd.R_slice hR; subst el; have hcx := keep_cell hk3 (c := wr.heap.size) (v := .int .i64 1) (by simp) (by have := HI.out.lt; omega) (by simp); have HU3 := Aside0.mk (builder_keep (builder_alloc HU.out _) hk3 hgB); have HI3 := Aside0.mk hi3; have HB3 := Aside0.mk hb3; have HR3 := Aside0.mk hR; have hz3 : wr.heap.size + 1 ≤ w3.heap.size := (by have := hk3.1; simpa using this); have hcy : ∀ o, (w3.alloc o).cell? ⟨wr.heap.size, 0, none⟩ = some (.int .i64 1) := fun o => ((below_alloc (Below.refl _ w3) o).cell (p := ⟨wr.heap.size, 0, none⟩) (by show wr.heap.size < w3.heap.size; omega)).trans hcx; clear hi3 hb3 hk3 hR) | (go_at_call 29; refine (Error_quiet g _ _ _ _ (HI3.out.alloc _).1).mono ?_; rintro e_ w_ ⟨rfl, rfl⟩) | (go_at_call 17; refine (codec_Int.calls _ _ _ _ A3.out).mono ?_; rintro e_ w4 ⟨rfl, hb4⟩; have HU4 := Aside0.mk (builder_below (builder_alloc HU3.out _) hb4); have HI4 := Aside0.mk (IsS89.below (HI3.out.alloc _) hb4); have HB4 := Aside0.mk (below_step (below_alloc HB3.out _) hb4); have hz4 : w3.heap.size + 1 ≤ w4.heap.size := (by have := hb4.size; simpa using this); clear hb4) | (go_at_call 37; refine (Sb.WriteString w2.heap.size w2.heap.size (Lib.strCells (s.extract 0 p)) u _ HU4.out (by rw [Lib.strCells_length]; have := LB.out; omega) (by omega)).mono ?_; rintro e_ w5 ⟨rfl, hU5, hb5⟩; have HU5 := Aside0.mk hU5; have HI5 := Aside0.mk (reader_below HI4.out hb5 hgB); have HB5 := Aside0.mk (HB4.out.trans (hb5.mono hwB)); have hz5 : w2.heap.size ≤ w5.heap.size := (by have := hb5.size; omega); clear hU5 hb5))
          go_roundw
          case rel => exact ⟨j + 1, p', by omega, by go_num, ⟨hp', HI5.out, by rw [← HX.out, strCells_append]; exact .inr HU5.out, HB5.out, hz5⟩⟩
          case measure => simp [intOf]; omega
        · subst h0
          have A3 := Aside0.mk hu
          have LB := Aside0.mk (show (s.extract 0 p).size + u.size ≤ 2000 by have := congrArg ByteArray.size hx; rw [ByteArray.size_append, ByteArray.size_extract (b := 0) (e := p')] at this; omega)
          have HX := Aside0.mk hx
          clear hu hx
          go_wp2_with (first | (go_at_call 33; refine (modcertlaw02_result.calls k2 g _ _ _ _ _ _ _ _ _ _ _ _ w _ (HI.out.alloc _) (below_alloc HB.out _) A2.out).mono ?_; rintro e_ w3 ⟨v2, rfl, hR, hi3, hb3, hk3⟩; obtain ⟨Al, cl, el⟩ := Kd.R_slice hR; subst el; have hcx := keep_cell hk3 (c := wr.heap.size) (v := .int .i64 2) (by simp) (by have := HI.out.lt; omega) (by simp); have HU3 := Aside0.mk (builder_keep (builder_alloc HU.out _) hk3 hgB); have HI3 := Aside0.mk hi3; have HB3 := Aside0.mk hb3; have HR3 := Aside0.mk hR; have hz3 : wr.heap.size + 1 ≤ w3.heap.size := (by have := hk3.1; simpa using this); have hcy : ∀ o, (w3.alloc o).cell? ⟨wr.heap.size, 0, none⟩ = some (.int .i64 2) := fun o => ((below_alloc (Below.refl _ w3) o).cell (p := ⟨wr.heap.size, 0, none⟩) (by show wr.heap.size < w3.heap.size; omega)).trans hcx; clear hi3 hb3 hk3 hR) | (go_at_call 29; refine (Error_quiet g _ _ _ _ (HI3.out.alloc _).1).mono ?_; rintro e_ w_ ⟨rfl, rfl⟩) | (go_at_call 19; refine (codec_Text.calls _ _ _ _ A3.out).mono ?_; rintro e_ w4 ⟨rfl, hb4⟩; have HU4 := Aside0.mk (builder_below (builder_alloc HU3.out _) hb4); have HI4 := Aside0.mk (IsS89.below (HI3.out.alloc _) hb4); have HB4 := Aside0.mk (below_step (below_alloc HB3.out _) hb4); have hz4 : w3.heap.size + 1 ≤ w4.heap.size := (by have := hb4.size; simpa using this); clear hb4) | (go_at_call 37; refine (Sb.WriteString w2.heap.size w2.heap.size (Lib.strCells (s.extract 0 p)) u _ HU4.out (by rw [Lib.strCells_length]; have := LB.out; omega) (by omega)).mono ?_; rintro e_ w5 ⟨rfl, hU5, hb5⟩; have HU5 := Aside0.mk hU5; have HI5 := Aside0.mk (reader_below HI4.out hb5 hgB); have HB5 := Aside0.mk (HB4.out.trans (hb5.mono hwB)); have hz5 : w2.heap.size ≤ w5.heap.size := (by have := hb5.size; omega); clear hU5 hb5))
          go_roundw
          case rel => exact ⟨j + 1, p', by omega, by go_num, ⟨hp', HI5.out, by rw [← HX.out, strCells_append]; exact .inr HU5.out, HB5.out, hz5⟩⟩
          case measure => simp [intOf]; omega
        · subst h0
          have A3 := Aside0.mk hu
          have LB := Aside0.mk (show (s.extract 0 p).size + u.size ≤ 2000 by have := congrArg ByteArray.size hx; rw [ByteArray.size_append, ByteArray.size_extract (b := 0) (e := p')] at this; omega)
          have HX := Aside0.mk hx
          clear hu hx
          go_wp2_with (first | (go_at_call 33; refine (modcertlaw02_result.calls k2 g _ _ _ _ _ _ _ _ _ _ _ _ w _ (HI.out.alloc _) (below_alloc HB.out _) A2.out).mono ?_; rintro e_ w3 ⟨v2, rfl, hR, hi3, hb3, hk3⟩; obtain ⟨Al, cl, el⟩ := Kd.R_slice hR; subst el; have hcx := keep_cell hk3 (c := wr.heap.size) (v := .int .i64 4) (by simp) (by have := HI.out.lt; omega) (by simp); have HU3 := Aside0.mk (builder_keep (builder_alloc HU.out _) hk3 hgB); have HI3 := Aside0.mk hi3; have HB3 := Aside0.mk hb3; have HR3 := Aside0.mk hR; have hz3 : wr.heap.size + 1 ≤ w3.heap.size := (by have := hk3.1; simpa using this); have hcy : ∀ o, (w3.alloc o).cell? ⟨wr.heap.size, 0, none⟩ = some (.int .i64 4) := fun o => ((below_alloc (Below.refl _ w3) o).cell (p := ⟨wr.heap.size, 0, none⟩) (by show wr.heap.size < w3.heap.size; omega)).trans hcx; clear hi3 hb3 hk3 hR) | (go_at_call 29; refine (Error_quiet g _ _ _ _ (HI3.out.alloc _).1).mono ?_; rintro e_ w_ ⟨rfl, rfl⟩) | (go_at_call 21; refine (codec_Texts.calls _ _ _ _ _ _ (Kd.C_alloc (Kd.R_reads' HR3.out).2.2 _) (Kd.R_reads' HR3.out).2.1 A3.out).mono ?_; rintro e_ w4 ⟨rfl, hb4⟩; have HU4 := Aside0.mk (builder_below (builder_alloc HU3.out _) hb4); have HI4 := Aside0.mk (IsS89.below (HI3.out.alloc _) hb4); have HB4 := Aside0.mk (below_step (below_alloc HB3.out _) hb4); have hz4 : w3.heap.size + 1 ≤ w4.heap.size := (by have := hb4.size; simpa using this); clear hb4) | (go_at_call 37; refine (Sb.WriteString w2.heap.size w2.heap.size (Lib.strCells (s.extract 0 p)) u _ HU4.out (by rw [Lib.strCells_length]; have := LB.out; omega) (by omega)).mono ?_; rintro e_ w5 ⟨rfl, hU5, hb5⟩; have HU5 := Aside0.mk hU5; have HI5 := Aside0.mk (reader_below HI4.out hb5 hgB); have HB5 := Aside0.mk (HB4.out.trans (hb5.mono hwB)); have hz5 : w2.heap.size ≤ w5.heap.size := (by have := hb5.size; omega); clear hU5 hb5))
          go_roundw
          case rel => exact ⟨j + 1, p', by omega, by go_num, ⟨hp', HI5.out, by rw [← HX.out, strCells_append]; exact .inr HU5.out, HB5.out, hz5⟩⟩
          case measure => simp [intOf]; omega
        · subst hq
          have b0 : (c0 == 0) = false := beq_eq_false_iff_ne.mpr q0
          have b3 : (c0 == 3) = false := beq_eq_false_iff_ne.mpr q3
          have b1 : (c0 == 1) = false := beq_eq_false_iff_ne.mpr q1
          have b2 : (c0 == 2) = false := beq_eq_false_iff_ne.mpr q2
          have b4 : (c0 == 4) = false := beq_eq_false_iff_ne.mpr q4
          clear q0 q1 q2 q3 q4
          go_wp2_with (first | (go_at_call 33; refine (modcertlaw02_result.calls k2 g _ _ _ _ _ _ _ _ _ _ _ _ w _ (HI.out.alloc _) (below_alloc HB.out _) A2.out).mono ?_; rintro e_ w3 ⟨v2, rfl, hR, hi3, hb3, hk3⟩; obtain ⟨Al, cl, el⟩ := Kd.R_slice hR; subst el; have hcx := keep_cell hk3 (c := wr.heap.size) (v := .int .i64 c0) (by simp) (by have := HI.out.lt; omega) (by simp); have HU3 := Aside0.mk (builder_keep (builder_alloc HU.out _) hk3 hgB); have HI3 := Aside0.mk hi3; have HB3 := Aside0.mk hb3; have HR3 := Aside0.mk hR; have hz3 : wr.heap.size + 1 ≤ w3.heap.size := (by have := hk3.1; simpa using this); have hcy : ∀ o, (w3.alloc o).cell? ⟨wr.heap.size, 0, none⟩ = some (.int .i64 c0) := fun o => ((below_alloc (Below.refl _ w3) o).cell (p := ⟨wr.heap.size, 0, none⟩) (by show wr.heap.size < w3.heap.size; omega)).trans hcx; clear hi3 hb3 hk3 hR) | (go_at_call 29; refine (Error_quiet g _ _ _ _ (HI3.out.alloc _).1).mono ?_; rintro e_ w_ ⟨rfl, rfl⟩))
          go_roundw
          case rel => exact ⟨j + 1, p', by omega, by go_num, ⟨hp', HI3.out.alloc _, builder_alloc HU3.out _, below_alloc HB3.out _, by simp; omega⟩⟩
          case measure => simp [intOf]; omega
      · have b0 : (e != 0) = true := bne_iff_ne.mpr he
        have HE := Aside0.mk (show EndIs s p' e e from .inl ⟨he, rfl⟩)
        clear hwr
        go_wp2_with (first | (go_at_call 33; refine (modcertlaw02_result.calls k2 g _ _ _ _ _ _ _ _ _ _ _ _ w _ (HI.out.alloc _) (below_alloc HB.out _) A2.out).mono ?_; rintro e_ w3 ⟨v2, rfl, hR, hi3, hb3, hk3⟩; obtain ⟨Al, cl, el⟩ := Kd.R_slice hR; subst el; have hcx := keep_cell hk3 (c := wr.heap.size) (v := .int .i64 c0) (by simp) (by have := HI.out.lt; omega) (by simp); have HU3 := Aside0.mk (builder_keep (builder_alloc HU.out _) hk3 hgB); have HI3 := Aside0.mk hi3; have HB3 := Aside0.mk hb3; have HR3 := Aside0.mk hR; have hz3 : wr.heap.size + 1 ≤ w3.heap.size := (by have := hk3.1; simpa using this); have hcy : ∀ o, (w3.alloc o).cell? ⟨wr.heap.size, 0, none⟩ = some (.int .i64 c0) := fun o => ((below_alloc (Below.refl _ w3) o).cell (p := ⟨wr.heap.size, 0, none⟩) (by show wr.heap.size < w3.heap.size; omega)).trans hcx; clear hi3 hb3 hk3 hR) | (go_at_call 29; refine (Error_quiet g _ _ _ _ (HI3.out.alloc _).1).mono ?_; rintro e_ w_ ⟨rfl, rfl⟩) | (go_at_call 38; refine (String_of w2.heap.size w2.heap.size (s.extract 0 p) _ (Lib.IsBuilderF.of (builder_alloc HU3.out _)) (by simp; omega)).mono ?_; rintro e_ w7 ⟨rfl, hU7, hb7⟩; have HU7 := Aside0.mk hU7; have HI7 := Aside0.mk (reader_below (HI3.out.alloc _) hb7 hgB); have HB7 := Aside0.mk ((below_alloc HB3.out _).trans (hb7.mono hwB)); have hz7 : w2.heap.size ≤ w7.heap.size := (by have := hb7.size; simp at this; omega); clear hU7 hb7) | (go_at_call 36; refine (prefix_calls s p _).mono ?_; rintro e_ w_ ⟨rfl, rfl⟩) | (go_at_call 30; refine (End_quiet g _ _ _ _ _ HI7.out.1 HE.out).mono ?_; rintro e_ w_ ⟨rfl, nd, rfl⟩))
        go_ret
        exact ⟨rfl, pw_below_drewN HB7.out _⟩
    · have hjj : decide (j < l.length) = false := decide_eq_false hlt
      by_cases hps : p < s.size
      · have HE := Aside0.mk (show EndIs s p 0 9 from .inr (.inl ⟨rfl, by omega, rfl⟩))
        go_wp2_with (first | (go_at_call 38; refine (String_of w2.heap.size w2.heap.size (s.extract 0 p) _ (Lib.IsBuilderF.of (HU.out)) hsz).mono ?_; rintro e_ w7 ⟨rfl, hU7, hb7⟩; have HU7 := Aside0.mk hU7; have HI7 := Aside0.mk (reader_below HI.out hb7 hgB); have HB7 := Aside0.mk (HB.out.trans (hb7.mono hwB)); have hz7 : w2.heap.size ≤ w7.heap.size := (by have := hb7.size; omega); clear hU7 hb7) | (go_at_call 36; refine (prefix_calls s p _).mono ?_; rintro e_ w_ ⟨rfl, rfl⟩) | (go_at_call 30; refine (End_quiet g _ _ _ _ _ HI7.out.1 HE.out).mono ?_; rintro e_ w_ ⟨rfl, nd, rfl⟩))
        go_ret
        exact ⟨rfl, pw_below_drewN HB7.out _⟩
      · have HE := Aside0.mk (show EndIs s p 0 0 from .inr (.inr ⟨rfl, by omega, rfl⟩))
        go_wp2_with (first | (go_at_call 38; refine (String_of w2.heap.size w2.heap.size (s.extract 0 p) _ (Lib.IsBuilderF.of (HU.out)) hsz).mono ?_; rintro e_ w7 ⟨rfl, hU7, hb7⟩; have HU7 := Aside0.mk hU7; have HI7 := Aside0.mk (reader_below HI.out hb7 hgB); have HB7 := Aside0.mk (HB.out.trans (hb7.mono hwB)); have hz7 : w2.heap.size ≤ w7.heap.size := (by have := hb7.size; omega); clear hU7 hb7) | (go_at_call 36; refine (prefix_calls s p _).mono ?_; rintro e_ w_ ⟨rfl, rfl⟩) | (go_at_call 30; refine (End_quiet g _ _ _ _ _ HI7.out.1 HE.out).mono ?_; rintro e_ w_ ⟨rfl, nd, rfl⟩))
        refine (String_of w2.heap.size w2.heap.size (s.extract 0 p) (w7.drewN nd) (show Lib.IsBuilderF Sb.TB 5 w2.heap.size w2.heap.size (Lib.strCells (s.extract 0 p)) (w7.drewN nd) from HU7.out) (show w2.heap.size ≤ (w7.drewN nd).heap.size from hz7)).mono ?_
        rintro e_ w8 ⟨rfl, hU8, hb8⟩
        have HB8 := Aside0.mk ((pw_below_drewN HB7.out _).trans (hb8.mono hwB))
        clear hU8 hb8
        obtain rfl : p = s.size := by omega
        have hee : s.extract 0 s.size = s := by simp
        rw [hee]
        go_wp2
        go_ret
        exact ⟨rfl, HB8.out⟩
set_option maxHeartbeats 4000000 in
theorem Canon_many (k : Nat) (s : ByteArray) (A : Option Addr) (c : Nat) (l : List S51) (w : World) (a1 : modcertlaw02_awake.f k = some true) (h : 2000 < s.size ∨ (s.size ≤ 2000 ∧ 30 < l.length)) :
    Calls Try.prog 9 #[.string s, .slice A l.length c] w fun e w' => e = .returned (.bool true) ∧ Below w.heap.size w w' := by
  have HB := Aside0.mk (Below.refl w.heap.size w)
  have A1 := Aside0.mk a1
  clear a1
  rcases h with h | ⟨h, h'⟩
  · have e1 : decide (2000 < s.size) = true := decide_eq_true h
    go_enter Try.func9, Try.ntmps9
    go_wp2_with (go_at_call 13; (with_reducible refine (modcertlaw02_awake.calls k true _ A1.out).mono ?_); rintro e w1 ⟨rfl, hb⟩; have n0_ := Aside0.mk (below_step HB.out hb); clear HB; have HB := n0_; clear n0_; clear hb)
    go_ret
    exact ⟨rfl, HB.out⟩
  · have e1 : decide (2000 < s.size) = false := decide_eq_false (by omega)
    have e2 : decide (30 < l.length) = true := decide_eq_true h'
    go_enter Try.func9, Try.ntmps9
    go_wp2_with (go_at_call 13; (with_reducible refine (modcertlaw02_awake.calls k true _ A1.out).mono ?_); rintro e w1 ⟨rfl, hb⟩; have n0_ := Aside0.mk (below_step HB.out hb); clear HB; have HB := n0_; clear n0_; clear hb)
    go_ret
    exact ⟨rfl, HB.out⟩
theorem Canon_direct (s : ByteArray) (A : Option Addr) (c : Nat) (l : List S51) (w : World) (hr : Kd.C k51 w A l.length l) (hc : l.length ≤ c) :
    Calls Try.prog 9 #[.string s, .slice A l.length c] w fun e w' => e = .returned (.bool true) ∧ Below w.heap.size w w' := by
  obtain ⟨K, e⟩ := awake02
  have e : modcertlaw02_awake.f K = _ := e K (Nat.le_refl _)
  by_cases h1 : s.size ≤ 2000
  · by_cases h2 : l.length ≤ 30
    · exact Canon_few K s A c l w hr hc e h1 h2
    · exact Canon_many K s A c l w e (.inr ⟨h1, by omega⟩)
  · exact Canon_many K s A c l w e (.inl (by omega))
end Go.Proofs.Ytldkkboeaadbeaa.Pr
