/- Small laws for the walks by hand. -/
import Derived.Test.YtldkkboeaadbeaaProg
import Derived.Laws.MakeOwn
import Derived.Laws.Entries
import Derived.KernelRfl
import Derived.WalkKit
import Derived.Test.YtldkkboeaadbeaaWWords
namespace Go.Proofs.Ytldkkboeaadbeaa.Pr
open Go.RowKit Go.Proofs.YtldkkboeaadbeaaW.PrintWords
theorem infoStr_ : (Try.prog.info? 9).map (fun i => (i.zero, i.size, i.bytes)) = some (some (.string ⟨#[]⟩), 1, 16) := by kernel_rfl
theorem run_make_rowN_ {P : Program} (t e : TypeId) (i : TypeInfo) (z : Value) (ht : P.underlying t = some (.slice e)) (hi : P.info? e = some i) (hz : i.zero = some z)
    (kl kc : IntKind) (n c : Nat) (hnc : n ≤ c) (hbytes : i.bytes * c ≤ 281474976710656) (h63 : c ≤ 9223372036854775807) (w : World) :
    (Instr.makeSlice t (.int kl (n : Int)) (.int kc (c : Int))).run P w = .ok (.slice (some ⟨w.heap.size, 0, none⟩) n c) (w.alloc (.cells (madeCells z.cells (c * i.size)) e)) := by
  have hb : (i.bytes : Int) * (c : Int) ≤ 281474976710656 := by
    have h : ((i.bytes * c : Nat) : Int) ≤ 281474976710656 := by omega
    rwa [Int.natCast_mul] at h
  have hr := run_make (P := P) w t e i z ht hi hz kl kc n c (by omega) (by omega) hb (by omega)
  simp only [Int.toNat_natCast] at hr
  exact hr
theorem keep_of_alloc {w w' : World} {g : Nat} {o : Obj} (h : KeepBut (w.alloc o) w' g none) : KeepBut w w' g none :=
  ⟨Nat.le_trans (by simp) h.1, fun i hi hg hr => (h.2 i (by simp; omega) hg hr).trans (Below.heap_alloc w o i hi)⟩
theorem keep_cell {w w' : World} {g c : Nat} {v : Value} (h : KeepBut w w' g none) (hlt : c < w.heap.size) (hne : c ≠ g) (hc : w.cell? ⟨c, 0, none⟩ = some v) : w'.cell? ⟨c, 0, none⟩ = some v := by
  have := h.2 c hlt hne (by simp)
  simpa [World.cell?, this] using hc
theorem keep_trans {a b c : World} {g : Nat} (h : KeepBut a b g none) (k : KeepBut b c g none) : KeepBut a c g none :=
  ⟨Nat.le_trans h.1 k.1, fun i hi hg hr => (k.2 i (Nat.lt_of_lt_of_le hi h.1) hg hr).trans (h.2 i hi hg hr)⟩
theorem keep_new {w w' : World} {g b : Nat} {o : Nat} {v : Value} (h : KeepBut w w' g none) (hb : w.heap.size ≤ b) : KeepBut w (w'.setCell ⟨b, o, none⟩ v) g none :=
  ⟨by simpa [World.setCell] using h.1, fun i hi hg hr => (Below.heap_setCell w' _ v i (by simp; omega)).trans (h.2 i hi hg hr)⟩
theorem R_made_string (w : World) (base m : Nat) (ok : Nat → Prop) (hb : base ≤ w.heap.size) (hm : m ≤ 9223372036854775807) (hok : ok w.heap.size) :
    Kd.string.R 9 (w.alloc (.cells (madeCells #[.string ⟨#[]⟩] m) 9)) base ok (.slice (some ⟨w.heap.size, 0, none⟩) m m) (List.replicate m ⟨#[]⟩) := by
  refine Kd.R_of_own ⟨by simp [encs], .inr ⟨w.heap.size, m, madeCells #[.string ⟨#[]⟩] m, by simp, hb, by simpa using heap_alloc_new w _, by simp, by unfold maxLen; omega, by simp [size_madeCells], ?_⟩⟩ (fun k hk => by
    have : w.heap.size = k := by simpa [Value.ownBlock] using hk
    exact this ▸ hok)
  apply List.ext_getElem
  · simp [size_madeCells, encs]
  · intro i h1 h2
    simp [encs, madeCells, Nat.mod_one]
theorem reads_of_C_string {w : World} {A : Option Addr} {n : Nat} {xs : List ByteArray} (h : Kd.string.C w A n xs) : ReadsOf Value.string ByteArray.empty w A n xs :=
  Kd.reads_of_C (enc := Value.string) (d := ByteArray.empty) (h1 := fun _ => rfl) h
end Go.Proofs.Ytldkkboeaadbeaa.Pr
