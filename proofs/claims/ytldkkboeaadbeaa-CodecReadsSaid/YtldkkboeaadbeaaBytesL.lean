import Derived.Laws.BitsAllLaws
import Derived.Laws.Bits64
import Derived.IntWalk
/- Strings as lists of bytes; what is written, as a list of bytes. -/
import Derived.Test.YtldkkboeaadbeaaPlain
import Derived.Test.YtldkkboeaadbeaaPr5
set_option linter.unusedVariables false
set_option linter.unusedSimpArgs false
namespace Go.Proofs.Ytldkkboeaadbeaa.Pr
open Go.RowKit Go.Proofs.YtldkkboeaadbeaaW.PrintWords Go.Proofs.YtldkkboeaadbeaaW.PrintLast Go.Proofs.YtldkkboeaadbeaaW.PrintMore Go.Proofs.Ytldkkboeaadbeaa.Pl
theorem bytesOf_append (a b : ByteArray) : bytesOf (a ++ b) = bytesOf a ++ bytesOf b := by simp [bytesOf, ByteArray.data_append]
theorem bytesOf_range (a : ByteArray) : ∀ b ∈ bytesOf a, 0 ≤ b ∧ b < 256 := by
  intro b hb
  obtain ⟨c, _, rfl⟩ := List.mem_map.1 hb
  have := c.toNat_lt
  omega
theorem bytesOf_nums (xs : List Int) (h : ∀ b ∈ xs, 0 ≤ b ∧ b < 256) : bytesOf (strOfNums xs) = xs := by
  unfold bytesOf
  rw [strOfNums_data, List.map_map]
  conv => rhs; rw [← List.map_id xs]
  apply List.map_congr_left
  intro b hb
  have := h b hb
  simp only [Function.comp, id]
  rw [UInt8.toNat_ofNat']
  omega
theorem nums_bytesOf (a : ByteArray) : strOfNums (bytesOf a) = a := by
  apply ByteArray.ext
  apply Array.ext'
  rw [strOfNums_data]
  unfold bytesOf
  rw [List.map_map]
  conv => rhs; rw [← List.map_id a.data.toList]
  apply List.map_congr_left
  intro b _
  simp
theorem bytesOf_inj {a b : ByteArray} (h : bytesOf a = bytesOf b) : a = b := by rw [← nums_bytesOf a, h, nums_bytesOf]
theorem toList_inj {a b : ByteArray} (h : a.toList = b.toList) : a = b := by
  rw [ByteArray.toList_eq, ByteArray.toList_eq] at h
  exact ByteArray.ext (Array.ext' h)
theorem bytesOf_extract (a : ByteArray) (i j : Nat) : bytesOf (a.extract i j) = ((bytesOf a).take j).drop i := by
  unfold bytesOf
  rw [ByteArray.data_extract, Array.toList_extract, List.extract_eq_take_drop]
  simp [List.map_take, List.map_drop, List.drop_take]
theorem xor_m1 (x : Int) (h0 : -9223372036854775808 ≤ x) (h1 : x ≤ 9223372036854775807) : Go.bits .xor .i64 (-1) x = -x - 1 := by
  show IntKind.i64.wrap ((BitVec.ofInt 64 (-1) ^^^ BitVec.ofInt 64 x).toNat : Int) = _
  have h : BitVec.ofInt 64 (-1) = BitVec.allOnes 64 := by decide
  rw [h, BitVec.allOnes_xor, BitVec.toNat_not, BitVec.toNat_ofInt, IntKind.wrap_i64]
  omega
end Go.Proofs.Ytldkkboeaadbeaa.Pr
