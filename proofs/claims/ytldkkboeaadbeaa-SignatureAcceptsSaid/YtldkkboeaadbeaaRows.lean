/-
  No cell of these rows narrows 'for every input' (looked for: loops, veiled, ifaces, maps, wideKeys, modest, calm, conditions, laid).
  DERIVED. THE GIVEN ROWS OF THIS SEAT. 10 by the template 'for every input the law returns true; each argument reads behind the call as it read before'; 0 by the template 'total and deterministic' (their statements: YtldkkboeaadbeaaTotals.lean).
  GIVEN WITH THE SEED: the statements are not yours to turn. If you find one false, say at which input.
  Laid BY PROGRAM, IN A SANDBOX (cutbox-rows.mjs): the forced cells as the released guide's own fill.sh prints them over the translation cac33d44bafb0f6f… (all of the seat's roots in one cut). By AI agents, Wed Nov 11 2026. No macro, syntax, notation, axiom, sorry.
-/
import Derived.Test.YtldkkboeaadbeaaChecked
import GoSem.Claim
import GoSem.ClaimJoined
import GoSem.ClaimMapViews
import Derived.JoinedTies
import Derived.KernelRfl
namespace Go.Proofs.Ytldkkboeaadbeaa
/- THE CELL 'sum', in the pinned program and in every row, IS THE sha256 OF THE DUMP (.gsa) THAT YtldkkboeaadbeaaProg.lean LOADS. Nothing in Lean hashes anything: it is a label: what it is worth is what the hold of that sum in a sandbox is worth. -/
noncomputable def Try.pinned : Pinned := { name := "ytldkkboeaadbeaa", sum := "cac33d44bafb0f6f9ad8c1234a300b48171d7834426e15443207f43cdbecb931", checked := Try.checked }
namespace Rows
def none {H : Type} : Left H := { results := [], args := [] }

/-- 'modcertlaw02.CodecWrites': WHATEVER THE INPUT: true; the input reads as it did. -/
def codecWritesSpec : ChangeSpec := { name := "codecWrites", fn := fun _ => fun
  | [d1, d2, d3] => { results := [.lit (.bool true)], args := [d1, d2, d3] }
  | _ => none }
def codecWritesRow : OpenClaim := { program := "ytldkkboeaadbeaa", sum := "cac33d44bafb0f6f9ad8c1234a300b48171d7834426e15443207f43cdbecb931", func := "modcert/modcertlaw02.CodecWrites", spec := "codecWrites", inPlace := ["internal/abi.NoEscape"], unfollowed := true, recurses := true, apart := false }
def CodecWritesSaid : Prop := codecWritesRow.holds Try.pinned (OpenSpec.ofChange codecWritesSpec)

/-- ITS FALSE NEIGHBOUR: 'it returns false'. Refute it at one input. -/
def codecWritesWrong : ChangeSpec := { name := "codecWrites", fn := fun _ => fun
  | [d1, d2, d3] => { results := [.lit (.bool false)], args := [d1, d2, d3] }
  | _ => none }
def CodecWritesWrongFalsely : Prop := codecWritesRow.holds Try.pinned (OpenSpec.ofChange codecWritesWrong)

/-- 'modcertlaw02.CodecReturns': WHATEVER THE INPUT: true; the input reads as it did. -/
def codecReturnsSpec : ChangeSpec := { name := "codecReturns", fn := fun _ => fun
  | [d1, d2, d3, d4, d5] => { results := [.lit (.bool true)], args := [d1, d2, d3, d4, d5] }
  | _ => none }
def codecReturnsRow : OpenClaim := { program := "ytldkkboeaadbeaa", sum := "cac33d44bafb0f6f9ad8c1234a300b48171d7834426e15443207f43cdbecb931", func := "modcert/modcertlaw02.CodecReturns", spec := "codecReturns", inPlace := ["internal/abi.NoEscape"], unfollowed := true, recurses := true, apart := false }
def CodecReturnsSaid : Prop := codecReturnsRow.holds Try.pinned (OpenSpec.ofChange codecReturnsSpec)

/-- ITS FALSE NEIGHBOUR: 'it returns false'. Refute it at one input. -/
def codecReturnsWrong : ChangeSpec := { name := "codecReturns", fn := fun _ => fun
  | [d1, d2, d3, d4, d5] => { results := [.lit (.bool false)], args := [d1, d2, d3, d4, d5] }
  | _ => none }
def CodecReturnsWrongFalsely : Prop := codecReturnsRow.holds Try.pinned (OpenSpec.ofChange codecReturnsWrong)

/-- 'modcertlaw02.CodecCuts': WHATEVER THE INPUT: true; the input reads as it did. -/
def codecCutsSpec : ChangeSpec := { name := "codecCuts", fn := fun _ => fun
  | [d1, d2, d3] => { results := [.lit (.bool true)], args := [d1, d2, d3] }
  | _ => none }
def codecCutsRow : OpenClaim := { program := "ytldkkboeaadbeaa", sum := "cac33d44bafb0f6f9ad8c1234a300b48171d7834426e15443207f43cdbecb931", func := "modcert/modcertlaw02.CodecCuts", spec := "codecCuts", inPlace := ["internal/abi.NoEscape"], unfollowed := true, recurses := true, apart := false }
def CodecCutsSaid : Prop := codecCutsRow.holds Try.pinned (OpenSpec.ofChange codecCutsSpec)

/-- ITS FALSE NEIGHBOUR: 'it returns false'. Refute it at one input. -/
def codecCutsWrong : ChangeSpec := { name := "codecCuts", fn := fun _ => fun
  | [d1, d2, d3] => { results := [.lit (.bool false)], args := [d1, d2, d3] }
  | _ => none }
def CodecCutsWrongFalsely : Prop := codecCutsRow.holds Try.pinned (OpenSpec.ofChange codecCutsWrong)

/-- 'modcertlaw02.CodecReads': WHATEVER THE INPUT: true; the input reads as it did. -/
def codecReadsSpec : ChangeSpec := { name := "codecReads", fn := fun _ => fun
  | [d1, d2] => { results := [.lit (.bool true)], args := [d1, d2] }
  | _ => none }
def codecReadsRow : OpenClaim := { program := "ytldkkboeaadbeaa", sum := "cac33d44bafb0f6f9ad8c1234a300b48171d7834426e15443207f43cdbecb931", func := "modcert/modcertlaw02.CodecReads", spec := "codecReads", inPlace := ["internal/abi.NoEscape"], unfollowed := true, recurses := true, apart := false }
def CodecReadsSaid : Prop := codecReadsRow.holds Try.pinned (OpenSpec.ofChange codecReadsSpec)

/-- ITS FALSE NEIGHBOUR: 'it returns false'. Refute it at one input. -/
def codecReadsWrong : ChangeSpec := { name := "codecReads", fn := fun _ => fun
  | [d1, d2] => { results := [.lit (.bool false)], args := [d1, d2] }
  | _ => none }
def CodecReadsWrongFalsely : Prop := codecReadsRow.holds Try.pinned (OpenSpec.ofChange codecReadsWrong)

/-- 'modcertlaw02.CodecFails': WHATEVER THE INPUT: true; the input reads as it did. -/
def codecFailsSpec : ChangeSpec := { name := "codecFails", fn := fun _ => fun
  | [d1, d2, d3] => { results := [.lit (.bool true)], args := [d1, d2, d3] }
  | _ => none }
def codecFailsRow : OpenClaim := { program := "ytldkkboeaadbeaa", sum := "cac33d44bafb0f6f9ad8c1234a300b48171d7834426e15443207f43cdbecb931", func := "modcert/modcertlaw02.CodecFails", spec := "codecFails", inPlace := ["internal/abi.NoEscape"], unfollowed := true, recurses := true, apart := false }
def CodecFailsSaid : Prop := codecFailsRow.holds Try.pinned (OpenSpec.ofChange codecFailsSpec)

/-- ITS FALSE NEIGHBOUR: 'it returns false'. Refute it at one input. -/
def codecFailsWrong : ChangeSpec := { name := "codecFails", fn := fun _ => fun
  | [d1, d2, d3] => { results := [.lit (.bool false)], args := [d1, d2, d3] }
  | _ => none }
def CodecFailsWrongFalsely : Prop := codecFailsRow.holds Try.pinned (OpenSpec.ofChange codecFailsWrong)

/-- 'modcertlaw02.CodecApart': WHATEVER THE INPUT: true; the input reads as it did. -/
def codecApartSpec : ChangeSpec := { name := "codecApart", fn := fun _ => fun
  | [d1, d2] => { results := [.lit (.bool true)], args := [d1, d2] }
  | _ => none }
def codecApartRow : OpenClaim := { program := "ytldkkboeaadbeaa", sum := "cac33d44bafb0f6f9ad8c1234a300b48171d7834426e15443207f43cdbecb931", func := "modcert/modcertlaw02.CodecApart", spec := "codecApart", inPlace := ["internal/abi.NoEscape"], unfollowed := true, recurses := true, apart := false }
def CodecApartSaid : Prop := codecApartRow.holds Try.pinned (OpenSpec.ofChange codecApartSpec)

/-- ITS FALSE NEIGHBOUR: 'it returns false'. Refute it at one input. -/
def codecApartWrong : ChangeSpec := { name := "codecApart", fn := fun _ => fun
  | [d1, d2] => { results := [.lit (.bool false)], args := [d1, d2] }
  | _ => none }
def CodecApartWrongFalsely : Prop := codecApartRow.holds Try.pinned (OpenSpec.ofChange codecApartWrong)

/-- 'modcertlaw02.CodecCanonical': WHATEVER THE INPUT: true; the input reads as it did. -/
def codecCanonicalSpec : ChangeSpec := { name := "codecCanonical", fn := fun _ => fun
  | [d1, d2] => { results := [.lit (.bool true)], args := [d1, d2] }
  | _ => none }
def codecCanonicalRow : OpenClaim := { program := "ytldkkboeaadbeaa", sum := "cac33d44bafb0f6f9ad8c1234a300b48171d7834426e15443207f43cdbecb931", func := "modcert/modcertlaw02.CodecCanonical", spec := "codecCanonical", inPlace := ["internal/abi.NoEscape"], unfollowed := true, recurses := true, apart := false }
def CodecCanonicalSaid : Prop := codecCanonicalRow.holds Try.pinned (OpenSpec.ofChange codecCanonicalSpec)

/-- ITS FALSE NEIGHBOUR: 'it returns false'. Refute it at one input. -/
def codecCanonicalWrong : ChangeSpec := { name := "codecCanonical", fn := fun _ => fun
  | [d1, d2] => { results := [.lit (.bool false)], args := [d1, d2] }
  | _ => none }
def CodecCanonicalWrongFalsely : Prop := codecCanonicalRow.holds Try.pinned (OpenSpec.ofChange codecCanonicalWrong)

/-- 'modcertlaw47.SignatureAccepts': WHATEVER THE INPUT: true; the input reads as it did. -/
def signatureAcceptsSpec : ChangeSpec := { name := "signatureAccepts", fn := fun _ => fun
  | [d1, d2, d3, d4] => { results := [.lit (.bool true)], args := [d1, d2, d3, d4] }
  | _ => none }
def signatureAcceptsRow : OpenClaim := { program := "ytldkkboeaadbeaa", sum := "cac33d44bafb0f6f9ad8c1234a300b48171d7834426e15443207f43cdbecb931", func := "modcert/modcertlaw47.SignatureAccepts", spec := "signatureAccepts", inPlace := ["internal/abi.NoEscape", "internal/bytealg.MakeNoZero", "internal/bytealg.IndexByteString", "internal/bytealg.IndexString"], unfollowed := true, recurses := true, named := ["internal/bytealg.MaxLen"], apart := false }
def SignatureAcceptsSaid : Prop := signatureAcceptsRow.holds Try.pinned (OpenSpec.ofChange signatureAcceptsSpec)

/-- ITS FALSE NEIGHBOUR: 'it returns false'. Refute it at one input. -/
def signatureAcceptsWrong : ChangeSpec := { name := "signatureAccepts", fn := fun _ => fun
  | [d1, d2, d3, d4] => { results := [.lit (.bool false)], args := [d1, d2, d3, d4] }
  | _ => none }
def SignatureAcceptsWrongFalsely : Prop := signatureAcceptsRow.holds Try.pinned (OpenSpec.ofChange signatureAcceptsWrong)

/-- 'modcertlaw47.SignatureOnce': WHATEVER THE INPUT: true; the input reads as it did. -/
def signatureOnceSpec : ChangeSpec := { name := "signatureOnce", fn := fun _ => fun
  | [d1, d2, d3] => { results := [.lit (.bool true)], args := [d1, d2, d3] }
  | _ => none }
def signatureOnceRow : OpenClaim := { program := "ytldkkboeaadbeaa", sum := "cac33d44bafb0f6f9ad8c1234a300b48171d7834426e15443207f43cdbecb931", func := "modcert/modcertlaw47.SignatureOnce", spec := "signatureOnce", inPlace := ["internal/abi.NoEscape", "internal/bytealg.MakeNoZero", "internal/bytealg.IndexByteString", "internal/bytealg.IndexString"], unfollowed := true, recurses := true, named := ["internal/bytealg.MaxLen"], apart := false }
def SignatureOnceSaid : Prop := signatureOnceRow.holds Try.pinned (OpenSpec.ofChange signatureOnceSpec)

/-- ITS FALSE NEIGHBOUR: 'it returns false'. Refute it at one input. -/
def signatureOnceWrong : ChangeSpec := { name := "signatureOnce", fn := fun _ => fun
  | [d1, d2, d3] => { results := [.lit (.bool false)], args := [d1, d2, d3] }
  | _ => none }
def SignatureOnceWrongFalsely : Prop := signatureOnceRow.holds Try.pinned (OpenSpec.ofChange signatureOnceWrong)

/-- 'modcertlaw47.SignatureForms': WHATEVER THE INPUT: true; the input reads as it did. -/
def signatureFormsSpec : ChangeSpec := { name := "signatureForms", fn := fun _ => fun
  | [d1, d2, d3, d4] => { results := [.lit (.bool true)], args := [d1, d2, d3, d4] }
  | _ => none }
def signatureFormsRow : OpenClaim := { program := "ytldkkboeaadbeaa", sum := "cac33d44bafb0f6f9ad8c1234a300b48171d7834426e15443207f43cdbecb931", func := "modcert/modcertlaw47.SignatureForms", spec := "signatureForms", inPlace := ["internal/abi.NoEscape", "internal/bytealg.MakeNoZero", "internal/bytealg.IndexByteString", "internal/bytealg.IndexString"], unfollowed := true, recurses := true, named := ["internal/bytealg.MaxLen"], apart := false }
def SignatureFormsSaid : Prop := signatureFormsRow.holds Try.pinned (OpenSpec.ofChange signatureFormsSpec)

/-- ITS FALSE NEIGHBOUR: 'it returns false'. Refute it at one input. -/
def signatureFormsWrong : ChangeSpec := { name := "signatureForms", fn := fun _ => fun
  | [d1, d2, d3, d4] => { results := [.lit (.bool false)], args := [d1, d2, d3, d4] }
  | _ => none }
def SignatureFormsWrongFalsely : Prop := signatureFormsRow.holds Try.pinned (OpenSpec.ofChange signatureFormsWrong)

/- THE SECOND FORM. 'bulk': how many values and letters a reading holds, each counted each time it is reached (what is shared counts as often as it is met; a slice's spare places count too). A statement '..UptoSaid' is the law's where the arguments, and the package variables that the reading takes, are together of bulk at most 1048576: NARROWER than '..Said'. Prove '..Said' where nothing that the law and all that it calls make is longer than what came in: it says more and counts as full. Else prove '..UptoSaid'. A law counts once. -/
mutual
def uptoBulk {H : Type} : DataW H → Nat
  | .lit (.string bytes) => bytes.length + 1
  | .lit _ => 1
  | .nil => 1
  | .ptr d => uptoBulk d + 1
  | .slice elems spare => uptoBulkAll elems + uptoBulkAll spare + 1
  | .agg parts => uptoBulkAll parts + 1
  | .iface _ d => uptoBulk d + 1
  | .map entries => uptoBulkEntries entries + 1
  | .held _ => 1
def uptoBulkAll {H : Type} : List (DataW H) → Nat
  | [] => 0
  | d :: r => uptoBulk d + uptoBulkAll r
def uptoBulkEntries {H : Type} : List (Lit × DataW H) → Nat
  | [] => 0
  | x :: r => uptoBulkEntry x + uptoBulkEntries r
def uptoBulkEntry {H : Type} : Lit × DataW H → Nat
  | (.string bytes, d) => bytes.length + uptoBulk d + 1
  | (_, d) => uptoBulk d + 1
 end
def uptoSmall : (H : Type) → List (DataW H) → Bool := fun _ ds => decide (uptoBulkAll ds ≤ 1048576)
def OpenSpec.upto (s : _root_.Go.ChangeSpec) : _root_.Go.OpenSpec := { _root_.Go.OpenSpec.ofChange s with cond := some uptoSmall }

/-- 'modcertlaw02.CodecWrites', WHERE WHAT IT READS IS OF BULK AT MOST 1048576: true; the input reads as it did. -/
def codecWritesUptoRow : OpenClaim := { program := "ytldkkboeaadbeaa", sum := "cac33d44bafb0f6f9ad8c1234a300b48171d7834426e15443207f43cdbecb931", func := "modcert/modcertlaw02.CodecWrites", spec := "codecWrites", inPlace := ["internal/abi.NoEscape"], unfollowed := true, recurses := true, apart := false, narrowed := true }
def CodecWritesUptoSaid : Prop := codecWritesUptoRow.holds Try.pinned (OpenSpec.upto codecWritesSpec)

/-- 'modcertlaw02.CodecReturns', WHERE WHAT IT READS IS OF BULK AT MOST 1048576: true; the input reads as it did. -/
def codecReturnsUptoRow : OpenClaim := { program := "ytldkkboeaadbeaa", sum := "cac33d44bafb0f6f9ad8c1234a300b48171d7834426e15443207f43cdbecb931", func := "modcert/modcertlaw02.CodecReturns", spec := "codecReturns", inPlace := ["internal/abi.NoEscape"], unfollowed := true, recurses := true, apart := false, narrowed := true }
def CodecReturnsUptoSaid : Prop := codecReturnsUptoRow.holds Try.pinned (OpenSpec.upto codecReturnsSpec)

/-- 'modcertlaw02.CodecCuts', WHERE WHAT IT READS IS OF BULK AT MOST 1048576: true; the input reads as it did. -/
def codecCutsUptoRow : OpenClaim := { program := "ytldkkboeaadbeaa", sum := "cac33d44bafb0f6f9ad8c1234a300b48171d7834426e15443207f43cdbecb931", func := "modcert/modcertlaw02.CodecCuts", spec := "codecCuts", inPlace := ["internal/abi.NoEscape"], unfollowed := true, recurses := true, apart := false, narrowed := true }
def CodecCutsUptoSaid : Prop := codecCutsUptoRow.holds Try.pinned (OpenSpec.upto codecCutsSpec)

/-- 'modcertlaw02.CodecReads', WHERE WHAT IT READS IS OF BULK AT MOST 1048576: true; the input reads as it did. -/
def codecReadsUptoRow : OpenClaim := { program := "ytldkkboeaadbeaa", sum := "cac33d44bafb0f6f9ad8c1234a300b48171d7834426e15443207f43cdbecb931", func := "modcert/modcertlaw02.CodecReads", spec := "codecReads", inPlace := ["internal/abi.NoEscape"], unfollowed := true, recurses := true, apart := false, narrowed := true }
def CodecReadsUptoSaid : Prop := codecReadsUptoRow.holds Try.pinned (OpenSpec.upto codecReadsSpec)

/-- 'modcertlaw02.CodecFails', WHERE WHAT IT READS IS OF BULK AT MOST 1048576: true; the input reads as it did. -/
def codecFailsUptoRow : OpenClaim := { program := "ytldkkboeaadbeaa", sum := "cac33d44bafb0f6f9ad8c1234a300b48171d7834426e15443207f43cdbecb931", func := "modcert/modcertlaw02.CodecFails", spec := "codecFails", inPlace := ["internal/abi.NoEscape"], unfollowed := true, recurses := true, apart := false, narrowed := true }
def CodecFailsUptoSaid : Prop := codecFailsUptoRow.holds Try.pinned (OpenSpec.upto codecFailsSpec)

/-- 'modcertlaw02.CodecApart', WHERE WHAT IT READS IS OF BULK AT MOST 1048576: true; the input reads as it did. -/
def codecApartUptoRow : OpenClaim := { program := "ytldkkboeaadbeaa", sum := "cac33d44bafb0f6f9ad8c1234a300b48171d7834426e15443207f43cdbecb931", func := "modcert/modcertlaw02.CodecApart", spec := "codecApart", inPlace := ["internal/abi.NoEscape"], unfollowed := true, recurses := true, apart := false, narrowed := true }
def CodecApartUptoSaid : Prop := codecApartUptoRow.holds Try.pinned (OpenSpec.upto codecApartSpec)

/-- 'modcertlaw02.CodecCanonical', WHERE WHAT IT READS IS OF BULK AT MOST 1048576: true; the input reads as it did. -/
def codecCanonicalUptoRow : OpenClaim := { program := "ytldkkboeaadbeaa", sum := "cac33d44bafb0f6f9ad8c1234a300b48171d7834426e15443207f43cdbecb931", func := "modcert/modcertlaw02.CodecCanonical", spec := "codecCanonical", inPlace := ["internal/abi.NoEscape"], unfollowed := true, recurses := true, apart := false, narrowed := true }
def CodecCanonicalUptoSaid : Prop := codecCanonicalUptoRow.holds Try.pinned (OpenSpec.upto codecCanonicalSpec)

/-- 'modcertlaw47.SignatureAccepts', WHERE WHAT IT READS IS OF BULK AT MOST 1048576: true; the input reads as it did. -/
def signatureAcceptsUptoRow : OpenClaim := { program := "ytldkkboeaadbeaa", sum := "cac33d44bafb0f6f9ad8c1234a300b48171d7834426e15443207f43cdbecb931", func := "modcert/modcertlaw47.SignatureAccepts", spec := "signatureAccepts", inPlace := ["internal/abi.NoEscape", "internal/bytealg.MakeNoZero", "internal/bytealg.IndexByteString", "internal/bytealg.IndexString"], unfollowed := true, recurses := true, named := ["internal/bytealg.MaxLen"], apart := false, narrowed := true }
def SignatureAcceptsUptoSaid : Prop := signatureAcceptsUptoRow.holds Try.pinned (OpenSpec.upto signatureAcceptsSpec)

/-- 'modcertlaw47.SignatureOnce', WHERE WHAT IT READS IS OF BULK AT MOST 1048576: true; the input reads as it did. -/
def signatureOnceUptoRow : OpenClaim := { program := "ytldkkboeaadbeaa", sum := "cac33d44bafb0f6f9ad8c1234a300b48171d7834426e15443207f43cdbecb931", func := "modcert/modcertlaw47.SignatureOnce", spec := "signatureOnce", inPlace := ["internal/abi.NoEscape", "internal/bytealg.MakeNoZero", "internal/bytealg.IndexByteString", "internal/bytealg.IndexString"], unfollowed := true, recurses := true, named := ["internal/bytealg.MaxLen"], apart := false, narrowed := true }
def SignatureOnceUptoSaid : Prop := signatureOnceUptoRow.holds Try.pinned (OpenSpec.upto signatureOnceSpec)

/-- 'modcertlaw47.SignatureForms', WHERE WHAT IT READS IS OF BULK AT MOST 1048576: true; the input reads as it did. -/
def signatureFormsUptoRow : OpenClaim := { program := "ytldkkboeaadbeaa", sum := "cac33d44bafb0f6f9ad8c1234a300b48171d7834426e15443207f43cdbecb931", func := "modcert/modcertlaw47.SignatureForms", spec := "signatureForms", inPlace := ["internal/abi.NoEscape", "internal/bytealg.MakeNoZero", "internal/bytealg.IndexByteString", "internal/bytealg.IndexString"], unfollowed := true, recurses := true, named := ["internal/bytealg.MaxLen"], apart := false, narrowed := true }
def SignatureFormsUptoSaid : Prop := signatureFormsUptoRow.holds Try.pinned (OpenSpec.upto signatureFormsSpec)

end Rows
end Go.Proofs.Ytldkkboeaadbeaa
