/- CodecWrites, over numbers and strings alone. -/
import Derived.Test.YtldkkboeaadbeaaWrites
set_option linter.unusedVariables false
set_option linter.unusedSimpArgs false
namespace Go.Proofs.Ytldkkboeaadbeaa.Pr
open Go.RowKit Go.Proofs.YtldkkboeaadbeaaW.PrintWords Go.Proofs.YtldkkboeaadbeaaW.PrintLast Go.Proofs.YtldkkboeaadbeaaW.PrintMore Go.Proofs.Ytldkkboeaadbeaa.Pl
theorem CodecWrites_pure (n : Int) (s : ByteArray) (l : List ByteArray) (h0 : -9223372036854775808 ≤ n) (h1 : n ≤ 9223372036854775807) (hs : s.size + (sizes l + l.length) ≤ 1048576) :
    ∃ k, modcertlaw02_CodecWrites.f k n s l = some true := by
  have hr := room_sizes l
  obtain ⟨K1, e1⟩ := awake02
  obtain ⟨K2, e2⟩ := Few_ev ([s] ++ l) 2000 (by simp [sizes]; omega)
  obtain ⟨K3, e3⟩ := Uint_ev n h1
  obtain ⟨K4, e4⟩ := Uint_rev n h1
  obtain ⟨K5, e5⟩ := Int_ev n h0 h1
  obtain ⟨K6, e6⟩ := Int_rev n h0 h1
  obtain ⟨K7, e7⟩ := Text_ev s (by omega)
  obtain ⟨K8, e8⟩ := Text_rev s (by omega)
  obtain ⟨K9, e9⟩ := Texts_ev l (by omega)
  obtain ⟨K10, e10⟩ := Texts_rev l (by omega)
  refine ⟨K1 + K2 + K3 + K4 + K5 + K6 + K7 + K8 + K9 + K10, ?_⟩
  generalize hk : K1 + K2 + K3 + K4 + K5 + K6 + K7 + K8 + K9 + K10 = k
  have e1 : modcertlaw02_awake.f k = _ := e1 k (by omega)
  have e2 : modcertref01_Few.f k ([s] ++ l) 2000 = _ := e2 k (by omega)
  have e3 : codec_Uint.f k n = _ := e3 k (by omega)
  have e4 : modcertref02_Uint.f k n = _ := e4 k (by omega)
  have e5 : codec_Int.f k n = _ := e5 k (by omega)
  have e6 : modcertref02_Int.f k n = _ := e6 k (by omega)
  have e7 : codec_Text.f k s = _ := e7 k (by omega)
  have e8 : modcertref02_Text.f k s = _ := e8 k (by omega)
  have e9 : codec_Texts.f k l = _ := e9 k (by omega)
  have e10 : modcertref02_Texts.f k l = _ := e10 k (by omega)
  unfold modcertlaw02_CodecWrites.f
  rw [e1]
  simp only [Option.bind_some, if_true]
  rw [if_pos (by simp; omega), e2]
  simp only [Option.bind_some]
  by_cases hf : decide (((([s] ++ l).length + sizes ([s] ++ l) : Nat) : Int) ≤ 2000) = true
  · rw [if_pos hf]
    simp only [e3, e4, e5, e6, e7, e8, e9, e10, Option.bind_some, if_true, BEq.rfl]
  · rw [if_neg hf]
end Go.Proofs.Ytldkkboeaadbeaa.Pr
