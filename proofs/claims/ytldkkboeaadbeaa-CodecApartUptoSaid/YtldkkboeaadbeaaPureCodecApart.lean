/- CodecApart, over strings alone. -/
import Derived.Test.YtldkkboeaadbeaaBytes
import Derived.Test.YtldkkboeaadbeaaPr17
set_option linter.unusedVariables false
set_option linter.unusedSimpArgs false
namespace Go.Proofs.Ytldkkboeaadbeaa.Pr
open Go.RowKit Go.Proofs.YtldkkboeaadbeaaW.PrintWords Go.Proofs.YtldkkboeaadbeaaW.PrintLast Go.Proofs.YtldkkboeaadbeaaW.PrintMore Go.Proofs.Ytldkkboeaadbeaa.Pl
theorem HasPrefix_f (x y : ByteArray) : ∃ b, strings_HasPrefix.f x y = some b ∧ (b = true → ∃ r, bytesOf x = bytesOf y ++ r) := by
  unfold strings_HasPrefix.f stringslite_HasPrefix.f
  by_cases h : (x.size : Int) ≥ (y.size : Int)
  · rw [if_pos h, if_pos (by omega), if_pos (by omega)]
    refine ⟨_, rfl, fun hb => ?_⟩
    have e := toList_inj (eq_of_beq hb)
    have e2 := bytesOf_extract x 0 ((y.size : Int)).toNat
    rw [e, Int.toNat_natCast, List.drop_zero] at e2
    exact ⟨(bytesOf x).drop y.size, by rw [e2, List.take_append_drop]⟩
  · rw [if_neg h]
    exact ⟨_, rfl, fun hb => by cases hb⟩
theorem len_of_mem {l : List ByteArray} : ∀ s ∈ l.map bytesOf, s.length ≤ sizes l := by
  induction l with
  | nil => intro s h; cases h
  | cons a l ih =>
    intro s h
    rw [List.map_cons] at h
    rcases List.mem_cons.1 h with rfl | h
    · rw [bytesOf_length, sizes]; omega
    · have := ih s h; rw [sizes]; omega
theorem CodecApart_pure (a b : List ByteArray) (hs : sizes a + a.length + (sizes b + b.length) ≤ 1048576) : ∃ k, modcertlaw02_CodecApart.f k a b = some true := by
  have hra := room_sizes a
  have hrb := room_sizes b
  have hsz : ∀ x y : List ByteArray, sizes (x ++ y) = sizes x + sizes y := by
    intro x y
    induction x with
    | nil => simp [sizes]
    | cons s l ih => simp [sizes, ih]; omega
  obtain ⟨K1, e1⟩ := awake02
  obtain ⟨K2, e2⟩ := Few_ev (a ++ b) 2000 (by rw [hsz, List.length_append]; omega)
  obtain ⟨K3, e3⟩ := Texts_ev a (by omega)
  obtain ⟨K4, e4⟩ := Texts_ev b (by omega)
  obtain ⟨K5, e5⟩ := Equal_ev a b (by omega)
  refine ⟨K1 + K2 + K3 + K4 + K5, ?_⟩
  generalize hk : K1 + K2 + K3 + K4 + K5 = k
  have e1 : modcertlaw02_awake.f k = _ := e1 k (by omega)
  have e2 : modcertref01_Few.f k (a ++ b) 2000 = _ := e2 k (by omega)
  have e3 : codec_Texts.f k a = _ := e3 k (by omega)
  have e4 : codec_Texts.f k b = _ := e4 k (by omega)
  have e5 : slices_Equal_string_string.f k a b = _ := e5 k (by omega)
  unfold modcertlaw02_CodecApart.f slices_Clone_string_string.f
  rw [e1, if_pos (show a.length < 8796093022208 by omega)]
  simp only [Option.bind_some, if_true]
  rw [if_pos (show a.length + b.length < 8796093022208 by omega), e2]
  simp only [Option.bind_some, e3, e4, e5]
  by_cases hf : decide ((((a ++ b).length + sizes (a ++ b) : Nat) : Int) ≤ 2000) = true
  · rw [if_pos hf]
    by_cases he : a = b
    · subst he
      simp
    · rw [if_neg (by simpa using he)]
      obtain ⟨b1, p1, q1⟩ := HasPrefix_f (textsS a) (textsS b)
      obtain ⟨b2, p2, q2⟩ := HasPrefix_f (textsS b) (textsS a)
      rw [p1, p2]
      have la : (a.map bytesOf).length < 18446744073709551616 := by rw [List.length_map]; omega
      have lb : (b.map bytesOf).length < 18446744073709551616 := by rw [List.length_map]; omega
      have ma : ∀ s ∈ a.map bytesOf, s.length < 18446744073709551616 := fun s h => by have := len_of_mem s h; omega
      have mb : ∀ s ∈ b.map bytesOf, s.length < 18446744073709551616 := fun s h => by have := len_of_mem s h; omega
      have n1 : b1 = false := by
        cases b1 with
        | false => rfl
        | true =>
          obtain ⟨r, hr⟩ := q1 rfl
          rw [bytes_textsS, bytes_textsS] at hr
          exact absurd (map_bytesOf_inj (txts_prefix _ _ r lb la mb ma hr)).symm he
      have n2 : b2 = false := by
        cases b2 with
        | false => rfl
        | true =>
          obtain ⟨r, hr⟩ := q2 rfl
          rw [bytes_textsS, bytes_textsS] at hr
          exact absurd (map_bytesOf_inj (txts_prefix _ _ r la lb ma mb hr)) he
      subst n1 n2
      rfl
  · rw [if_neg hf]
end Go.Proofs.Ytldkkboeaadbeaa.Pr
