/- CodecReturns: walks and plain laws joined. -/
import Derived.Test.YtldkkboeaadbeaaPureCodecReturns
import Derived.Test.YtldkkboeaadbeaaWalkCodecReturns
set_option linter.unusedVariables false
set_option linter.unusedSimpArgs false
namespace Go.Proofs.Ytldkkboeaadbeaa.Pr
open Go.RowKit Go.Proofs.YtldkkboeaadbeaaW.PrintWords Go.Proofs.YtldkkboeaadbeaaW.PrintLast Go.Proofs.YtldkkboeaadbeaaW.PrintMore Go.Proofs.Ytldkkboeaadbeaa.Pl
theorem CodecReturns_direct (n m : Int) (s : ByteArray) (A : Option Addr) (c : Nat) (l : List ByteArray) (rest : ByteArray) (w : World) (hr : Kd.C Kd.string w A l.length l) (hc : l.length ≤ c)
    (hn0 : -9223372036854775808 ≤ n) (hn1 : n ≤ 9223372036854775807) (hm0 : -9223372036854775808 ≤ m) (hm1 : m ≤ 9223372036854775807) (hs : s.size + rest.size + sizes l + l.length ≤ 1048576) :
    Calls Try.prog 4 #[.int .i64 n, .int .i64 m, .string s, .slice A l.length c, .string rest] w fun e w' => e = .returned (.bool true) ∧ Below w.heap.size w w' := by
  have hroom := room_sizes l
  have hz := zig_lt hm0 hm1
  have g1 := encU_size10 hz
  have g2 := textS_size s (by omega)
  have g3 := textsS_size l (by omega)
  obtain ⟨K1, e1⟩ := awake02
  obtain ⟨K2, e2⟩ := Few_ev ([s, rest] ++ l) 2000 (by simp [sizes]; omega)
  by_cases hf : decide (((([s, rest] ++ l).length + sizes ([s, rest] ++ l) : Nat) : Int) ≤ 2000) = true
  · rw [hf] at e2
    obtain ⟨K4, e4⟩ := Int_ev m hm0 hm1
    obtain ⟨K5, e5⟩ := Text_ev s (by omega)
    obtain ⟨K6, e6⟩ := Texts_ev l (by omega)
    obtain ⟨K7, e7⟩ := Equal_ev l l (by omega)
    obtain ⟨K3, e3⟩ := Uint_ev n hn1
    by_cases hn : n < 0
    · rw [uintS, if_pos hn] at e3
      obtain ⟨p2, p3, p4, ⟨K8, e8⟩, x, e9, e10⟩ := Returns_read 0 m s l rest ⟨#[]⟩ (by omega) (by omega) (by omega) (show (0 : Nat) ≤ 10 by omega) hm0 hm1 _ rfl
      obtain ⟨f1, f2, f3⟩ := e8 (K1 + K2 + K3 + K4 + K5 + K6 + K7 + K8) (by omega)
      refine Returns_neg (K1 + K2 + K3 + K4 + K5 + K6 + K7 + K8) n m s A c l rest w hr hc (by omega) ⟨#[]⟩ (encU (zig m)) (textS s) (textsS l) 0 (p2 : Int) (p3 : Int) (p4 : Int) x hn (e1 _ (by omega)) (e2 _ (by omega)) (e3 _ (by omega)) (e4 _ (by omega)) (e5 _ (by omega)) ((e6 _ (by omega))) rfl ?_ ?_ ?_ ?_ f1 f2 f3 ?_ e9 e10
      · have : (⟨#[]⟩ : ByteArray).size = 0 := rfl
        omega
      · rw [ByteArray.size_append]; have : (⟨#[]⟩ : ByteArray).size = 0 := rfl
        omega
      · simp only [ByteArray.size_append]; have : (⟨#[]⟩ : ByteArray).size = 0 := rfl
        omega
      · simp only [ByteArray.size_append]; have : (⟨#[]⟩ : ByteArray).size = 0 := rfl
        omega
      · exact (e7 _ (by omega)).trans (by simp)
    · rw [uintS, if_neg hn] at e3
      obtain ⟨v, rfl⟩ := Int.eq_ofNat_of_zero_le (Int.not_lt.1 hn)
      rw [Int.toNat_natCast] at e3
      have g0 := encU_size10 (n := v) (by omega)
      obtain ⟨all, hall⟩ : ∃ all, all = ((((encU v ++ encU (zig m)) ++ textS s) ++ textsS l) ++ rest) := ⟨_, rfl⟩
      obtain ⟨p2, p3, p4, ⟨K8, e8⟩, x, e9, e10⟩ := Returns_read v m s l rest (encU v) (by omega) (by omega) (by omega) g0 hm0 hm1 all hall
      have hsz : all.size ≤ 8796093022208 := by rw [hall]; simp only [ByteArray.size_append]; omega
      have d0 : (bytesOf all).drop 0 = leb v ++ bytesOf (encU (zig m) ++ textS s ++ textsS l ++ rest) := by
        rw [hall]; simp only [bytesOf_append, bytes_encU, List.append_assoc, List.drop_zero]
      have hU := Uint_rd all (by omega) 0 (by omega)
      rw [rdNI, rdN_of (by omega) d0, Nat.zero_add, ← encU_size] at hU
      obtain ⟨K9, e11⟩ := hU
      obtain ⟨f1, f2, f3⟩ := e8 (K1 + K2 + K3 + K4 + K5 + K6 + K7 + K8 + K9) (by omega)
      subst hall
      refine Returns_pos (K1 + K2 + K3 + K4 + K5 + K6 + K7 + K8 + K9) (v : Int) m s A c l rest w hr hc (by omega) (encU v) (encU (zig m)) (textS s) (textsS l) ((encU v).size : Int) (p2 : Int) (p3 : Int) (p4 : Int) x (by omega) (e1 _ (by omega)) (e2 _ (by omega)) (e3 _ (by omega)) (e4 _ (by omega)) (e5 _ (by omega)) ((e6 _ (by omega))) ?_ ?_ ?_ ?_ ?_ f1 f2 f3 ?_ e9 e10
      · omega
      · rw [ByteArray.size_append]; omega
      · simp only [ByteArray.size_append]; omega
      · simp only [ByteArray.size_append]; omega
      · exact e11 _ (by omega)
      · exact (e7 _ (by omega)).trans (by simp)
  · rw [Bool.not_eq_true] at hf
    rw [hf] at e2
    exact Returns_many (K1 + K2) n m s A c l rest w hr hc (by omega) (e1 _ (by omega)) (e2 _ (by omega))
end Go.Proofs.Ytldkkboeaadbeaa.Pr
