/- Lists of calls of a reader, as an argument. -/
import Derived.Test.YtldkkboeaadbeaaOpen
import Derived.Test.YtldkkboeaadbeaaPr0
set_option linter.unusedVariables false
namespace Go.Proofs.Ytldkkboeaadbeaa.Args
open Go.RowKit Go.Proofs.YtldkkboeaadbeaaW.PrintWords Pr
theorem openCalls {H : Type} {enc : TypeId × Value → H} {W : World} : Opens enc W 43 (Kd.slice 51 k51) (fun l => (∀ a ∈ l, (Lit.int .i64 a.f0).wf = true ∧ (Lit.int .i64 a.f1).wf = true) ∧ l.length ≤ maxLen) :=
  Opens.slice Try.underlying43 (by kernel_rfl)
    (Opens.struct (fun p => ⟨p.1, p.2⟩) (fun _ => rfl) Try.underlying51 (by kernel_rfl) (OpensAt.cons rfl rfl (by kernel_rfl) (Opens.int Try.underlying3) (OpensAt.last rfl rfl (by kernel_rfl) (Opens.int Try.underlying3))))
end Go.Proofs.Ytldkkboeaadbeaa.Args
