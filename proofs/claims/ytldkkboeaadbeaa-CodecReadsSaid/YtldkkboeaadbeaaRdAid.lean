-- Two stores into one cell: what the walk's test of the cell needs.
import Derived.RowKit
namespace Go.Proofs.Ytldkkboeaadbeaa
open Go.RowKit
theorem isSome_setCell (w : World) (b : Addr) (v : Value) (a : Addr) : ((w.setCell b v).cell? a).isSome = (w.cell? a).isSome := by
  cases h : w.cell? a with
  | some u => obtain ⟨v', hv⟩ := cell?_setCell_some (p := b) (x := v) h; rw [hv]; rfl
  | none =>
    simp only [World.setCell, World.cell?, Array.getElem?_modify] at h ⊢
    by_cases e : b.block = a.block
    · rw [if_pos e]
      cases hb : w.heap[a.block]? with
      | none => rfl
      | some o =>
        rw [hb] at h
        cases o with
        | cells c el f =>
          simp only [Option.map_some] at h ⊢
          by_cases hs : a.spot.isSome = true
          · rw [if_pos hs]
          · rw [if_neg hs] at h ⊢
            by_cases hp : b.spot.isSome = true
            · rw [if_pos hp, h]
            · rw [if_neg hp]
              have : (c.setIfInBounds b.off v)[a.off]? = none := by
                rw [Array.getElem?_eq_none_iff] at h ⊢
                simpa using h
              rw [this]
        | _ => rfl
    · rw [if_neg e]; exact congrArg Option.isSome h
end Go.Proofs.Ytldkkboeaadbeaa
