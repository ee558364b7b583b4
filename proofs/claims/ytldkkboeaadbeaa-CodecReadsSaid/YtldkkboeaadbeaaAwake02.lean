/- The check of the examples holds. -/
import Derived.Test.YtldkkboeaadbeaaPr7
set_option linter.unusedVariables false
namespace Go.Proofs.Ytldkkboeaadbeaa.Pr
open Go.RowKit Go.Proofs.YtldkkboeaadbeaaW.PrintWords
theorem awake02 : Ev (fun k => modcertlaw02_awake.f k) true := Ev.of (fun k => modcertlaw02_awake.mono k) (k := 20) (by decide +kernel)
end Go.Proofs.Ytldkkboeaadbeaa.Pr
