/- CodecFails, over numbers and strings alone. -/
import Derived.Test.YtldkkboeaadbeaaWrites
import Derived.Test.YtldkkboeaadbeaaPr18
import Derived.Test.YtldkkboeaadbeaaPr16
import Derived.Test.YtldkkboeaadbeaaPr14
import Derived.IntWalk
set_option linter.unusedVariables false
set_option linter.unusedSimpArgs false
namespace Go.Proofs.Ytldkkboeaadbeaa.Pr
open Go.RowKit Go.Proofs.YtldkkboeaadbeaaW.PrintWords Go.Proofs.YtldkkboeaadbeaaW.PrintLast Go.Proofs.YtldkkboeaadbeaaW.PrintMore Go.Proofs.Ytldkkboeaadbeaa.Pl
theorem result_err (k : Nat) (s : ByteArray) (p e kind num : Int) (he : e ≠ 0) (h1 : 0 ≤ e) (h2 : e ≤ 255) :
    modcertlaw02_result.f k s p e kind num = some (if kind = 6 then e else 0, ⟨#[]⟩, [], e, s, p, e) := by
  have hw : wrap64 e = e := IntWalk.wrap64_in _ (by omega)
  by_cases h : kind = 0 ∨ kind = 1 ∨ kind = 2 ∨ kind = 3 ∨ kind = 4 ∨ kind = 5 ∨ kind = 6
  · rcases h with rfl | rfl | rfl | rfl | rfl | rfl | rfl <;>
      simp [modcertlaw02_result.f, codec_Reader_Uint.f, codec_Reader_Int.f, codec_Reader_Text.f, codec_Reader_Count.f, codec_Reader_Texts.f, codec_Reader_Fail.f, codec_Reader_End.f, codec_Reader_Error.f, he, hw]
  · have h0 : kind ≠ 0 ∧ kind ≠ 1 ∧ kind ≠ 2 ∧ kind ≠ 3 ∧ kind ≠ 4 ∧ kind ≠ 5 ∧ kind ≠ 6 := by omega
    simp [modcertlaw02_result.f, codec_Reader_Error.f, h0.1, h0.2.1, h0.2.2.1, h0.2.2.2.1, h0.2.2.2.2.1, h0.2.2.2.2.2.1, h0.2.2.2.2.2.2]
theorem Same_zero (k : Nat) (e : Int) : modcertref02_Same.f (k + 2) 0 ⟨#[]⟩ [] e 0 ⟨#[]⟩ [] e = some true := by
  simp [modcertref02_Same.f, modcertref02_Same.j0, modcertref02_Same.l0]
theorem CodecFails_l (s : ByteArray) (l : List S51) (e : Int) (he : e ≠ 0) (h1 : 0 ≤ e) (h2 : e ≤ 255) (p : Int) (hl : l.length ≤ 30) : ∀ (d j k : Nat), d + j = l.length → d + 3 ≤ k →
    modcertlaw02_CodecFails.l0 k e l (l.length : Int) (j : Int) s p e = some true
  | 0, j, k, hd, hk => by
    obtain ⟨k, rfl⟩ : ∃ m, k = m + 1 := ⟨k - 1, by omega⟩
    have hw : wrap64 e = e := IntWalk.wrap64_in _ (by omega)
    rw [modcertlaw02_CodecFails.l0, if_neg (by omega)]
    simp [codec_Reader_End.f, he, hw]
  | d + 1, j, k, hd, hk => by
    obtain ⟨k, rfl⟩ : ∃ m, k = m + 3 := ⟨k - 3, by omega⟩
    have hw : wrap64 e = e := IntWalk.wrap64_in _ (by omega)
    have ih := CodecFails_l s l e he h1 h2 p hl d (j + 1) (k + 2) (by omega) (by omega)
    have hj : wrap64 ((j : Int) + 1) = ((j + 1 : Nat) : Int) := by rw [IntWalk.wrap64_in _ (by omega)]; rfl
    rw [modcertlaw02_CodecFails.l0, if_pos (by omega), if_pos (by omega), if_pos (by omega), result_err _ _ _ _ _ _ he h1 h2]
    simp only [Option.bind_some, hw, hj]
    by_cases h6 : (rd_T51 l (j : Int)).f0 = 6
    · simp only [if_pos h6, Int.sub_self, show wrap64 0 = 0 from IntWalk.wrap64_in 0 (by omega), Same_zero, Option.bind_some, if_true]
      exact ih
    · simp only [if_neg h6, Same_zero, Option.bind_some, if_true]
      exact ih
theorem CodecFails_pure (s : ByteArray) (l : List S51) (e : Int) (h1 : 0 ≤ e) (h2 : e ≤ 255) : ∃ k, modcertlaw02_CodecFails.f k s l e = some true := by
  obtain ⟨K1, e1⟩ := awake02
  refine ⟨K1 + 40, ?_⟩
  have e1 : modcertlaw02_awake.f (K1 + 40) = _ := e1 (K1 + 40) (by omega)
  have hw : wrap64 e = e := IntWalk.wrap64_in _ (by omega)
  unfold modcertlaw02_CodecFails.f
  rw [e1]
  simp only [Option.bind_some, if_true]
  by_cases c1 : (s.size : Int) > 2000
  · rw [if_pos c1]; rfl
  · rw [if_neg c1]
    by_cases c2 : (l.length : Int) > 30
    · rw [if_pos c2]; rfl
    · rw [if_neg c2]
      by_cases c3 : e = 0
      · subst c3; rfl
      · have c3' : (e == 0) = false := beq_eq_false_iff_ne.mpr c3
        rw [c3', show K1 + 40 = (K1 + 39) + 1 from rfl, modcertlaw02_CodecFails.j0, if_neg (by simp)]
        simp only [codec_NewReader.f, Option.bind_some, codec_Reader_Fail.f, if_true, hw]
        exact CodecFails_l s l e c3 h1 h2 0 (by omega) l.length 0 (K1 + 39) (by omega) (by omega)
end Go.Proofs.Ytldkkboeaadbeaa.Pr
