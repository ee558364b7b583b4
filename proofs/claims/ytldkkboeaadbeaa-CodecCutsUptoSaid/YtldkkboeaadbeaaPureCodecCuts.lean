/- CodecCuts: what is cut off is not read; the walks joined. -/
import Derived.Test.YtldkkboeaadbeaaPureCodecReturns
import Derived.Test.YtldkkboeaadbeaaWalkCodecCuts
set_option linter.unusedVariables false
set_option linter.unusedSimpArgs false
namespace Go.Proofs.Ytldkkboeaadbeaa.Pr
open Go.RowKit Go.Proofs.YtldkkboeaadbeaaW.PrintWords Go.Proofs.YtldkkboeaadbeaaW.PrintLast Go.Proofs.YtldkkboeaadbeaaW.PrintMore Go.Proofs.Ytldkkboeaadbeaa.Pl
theorem bytes_cut (s : ByteArray) (j : Nat) (h : j ≤ s.size) : ∃ r, bytesOf s = bytesOf (s.extract 0 j) ++ r ∧ r.length = s.size - j ∧ (s.extract 0 j).size = j := by
  refine ⟨(bytesOf s).drop j, ?_, by rw [List.length_drop, bytesOf_length], by rw [ByteArray.size_extract]; omega⟩
  have := drop_extract s 0 j
  rw [Nat.zero_add, List.drop_zero] at this
  exact this
theorem cut_int (v : Nat) (hv : v < 18446744073709551616) (j : Nat) (h : j < (encU v).size) : rdI ((encU v).extract 0 j) 0 = none := by
  cases hU : rdU ((encU v).extract 0 j) 0 with
  | none => rw [rdI, hU]; rfl
  | some q =>
    obtain ⟨v', q⟩ := q
    obtain ⟨h1, h2, h3, h4⟩ := rdU_le (by omega) hU
    obtain ⟨r, e1, e2, e3⟩ := bytes_cut (encU v) j (by omega)
    rw [List.drop_zero] at h4
    rw [bytes_encU, h4, List.append_assoc] at e1
    have g1 := un_leb v 0 [] (by omega) (by simpa using hv) (.inl rfl)
    rw [List.append_nil, e1, un_leb v' 0 _ (by omega) (by simpa using h3) (.inl rfl)] at g1
    simp only [Option.some.injEq, Prod.mk.injEq, List.append_eq_nil_iff] at g1
    rw [g1.2.2] at e2
    simp at e2
    omega
theorem mem_flat {t : List Int} : ∀ {m : List (List Int)}, t ∈ m → t.length ≤ (m.flatMap txt).length
  | a :: m, h => by
    rw [List.flatMap_cons, List.length_append]
    rcases List.mem_cons.1 h with rfl | h
    · simp only [txt, List.length_append]; omega
    · have := mem_flat h; omega
theorem cut_texts (l : List ByteArray) (hl : l.length < 9223372036854775808) (hm : ∀ t ∈ l, t.size < 9223372036854775808) (hz : (textsS l).size < 18446744073709551616) (j : Nat) (h : j < (textsS l).size) : rdTs ((textsS l).extract 0 j) 0 = none := by
  cases hU : rdTs ((textsS l).extract 0 j) 0 with
  | none => rfl
  | some q =>
    obtain ⟨m, q⟩ := q
    obtain ⟨h1, h2, h3, h4⟩ := rdTs_le (by omega) hU
    obtain ⟨r, e1, e2, e3⟩ := bytes_cut (textsS l) j (by omega)
    rw [List.drop_zero] at h4
    rw [bytes_textsS, h4, List.append_assoc] at e1
    have hm' : ∀ s ∈ l.map bytesOf, s.length < 18446744073709551616 := by
      intro s hs
      obtain ⟨t, ht, rfl⟩ := List.mem_map.1 hs
      rw [bytesOf_length]
      have := hm t ht
      omega
    have hq : ∀ s ∈ m.map bytesOf, s.length < 18446744073709551616 := by
      intro s hs
      obtain ⟨t, ht, rfl⟩ := List.mem_map.1 hs
      rw [bytesOf_length]
      have g1 := mem_flat (List.mem_map_of_mem (f := bytesOf) ht)
      have g2 := congrArg List.length h4
      rw [bytesOf_length, List.length_append, txts, List.length_append, e3] at g2
      rw [bytesOf_length] at g1
      omega
    have g1 := decL_txts (l.map bytesOf) [] (by rw [List.length_map]; omega) hm'
    rw [List.append_nil, e1, decL_txts (m.map bytesOf) _ (by rw [List.length_map]; omega) hq] at g1
    simp only [Option.some.injEq, Prod.mk.injEq, List.append_eq_nil_iff] at g1
    rw [g1.2.2] at e2
    simp at e2
    omega
theorem textsS_pos (l : List ByteArray) : 0 < (textsS l).size := by
  rw [← bytesOf_length, bytes_textsS, txts, List.length_append]
  have := leb_pos (l.map bytesOf).length
  omega
theorem CodecCuts_direct (A : Option Addr) (c : Nat) (l : List ByteArray) (n cut : Int) (w : World) (hr : Kd.C Kd.string w A l.length l) (hc : l.length ≤ c)
    (hn0 : -9223372036854775808 ≤ n) (hn1 : n ≤ 9223372036854775807) (c0 : 0 ≤ cut) (c1 : cut ≤ 65535) (hs : sizes l + l.length ≤ 1048576) :
    Calls Try.prog 5 #[.slice A l.length c, .int .i64 n, .int .u16 cut] w fun e w' => e = .returned (.bool true) ∧ Below w.heap.size w w' := by
  have hroom := room_sizes l
  have hz := zig_lt hn0 hn1
  have g1 := encU_size10 hz
  have g3 := textsS_size l (by omega)
  have g4 := textsS_pos l
  have g5 : 0 < (encU (zig n)).size := by rw [encU_size]; exact leb_pos _
  obtain ⟨K1, e1⟩ := awake02
  obtain ⟨K2, e2⟩ := Few_ev l 2000 (by omega)
  by_cases hf : decide (((l.length + sizes l : Nat) : Int) ≤ 2000) = true
  · rw [hf] at e2
    obtain ⟨K3, e3⟩ := Texts_ev l (by omega)
    obtain ⟨K4, e4⟩ := Int_ev n hn0 hn1
    have r1 := Int.emod_nonneg cut (show ((textsS l).size : Int) ≠ 0 by omega)
    have r2 := Int.emod_nonneg cut (show ((encU (zig n)).size : Int) ≠ 0 by omega)
    have r3 := Int.emod_lt_of_pos cut (show 0 < ((textsS l).size : Int) by omega)
    have r4 := Int.emod_lt_of_pos cut (show 0 < ((encU (zig n)).size : Int) by omega)
    have z1 : ((textsS l).extract 0 (cut % ((textsS l).size : Int)).toNat).size ≤ 8796093022208 := by rw [ByteArray.size_extract]; omega
    have z2 : ((encU (zig n)).extract 0 (cut % ((encU (zig n)).size : Int)).toNat).size ≤ 8796093022208 := by rw [ByteArray.size_extract]; omega
    obtain ⟨K5, e5⟩ := Texts_rd _ z1 0 (by omega)
    obtain ⟨K6, e6⟩ := Int_rd ((encU (zig n)).extract 0 (cut % ((encU (zig n)).size : Int)).toNat) (by omega) 0 (by omega)
    rw [cut_texts l (by omega) (fun t h => by have := size_of_mem t h; omega) (by omega) _ (by omega)] at e5
    rw [cut_int _ hz _ (by omega)] at e6
    exact Cuts_cut (K1 + K2 + K3 + K4 + K5 + K6) A c l n cut w hr hc (e1 _ (by omega)) (e2 _ (by omega)) (textsS l) (encU (zig n)) (e3 _ (by omega)) (e4 _ (by omega)) c0 (by omega) g4 g5 (by omega) (by omega) (e5 _ (by omega)) (e6 _ (by omega))
  · rw [Bool.not_eq_true] at hf
    rw [hf] at e2
    exact Cuts_many (K1 + K2) A c l n cut w hr hc (e1 _ (by omega)) (e2 _ (by omega))
end Go.Proofs.Ytldkkboeaadbeaa.Pr
