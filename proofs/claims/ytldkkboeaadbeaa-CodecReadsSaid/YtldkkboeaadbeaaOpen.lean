/- Arguments with depth, opened by their kind: what the row's reading says of memory is what the walks ask. -/
import Derived.Test.YtldkkboeaadbeaaArgs
import Derived.Deep.Slices
import Derived.ChangeSame
set_option linter.unusedVariables false
set_option linter.unusedSimpArgs false
namespace Go.Proofs.Ytldkkboeaadbeaa.Args
open Go.ChangeShapes Go.WideShapes Go.Deep Go.RowKit Go.Proofs.YtldkkboeaadbeaaW.PrintWords
section
variable {H : Type} (enc : TypeId × Value → H) (W : World)
/-- whatever reads as type t is a value of kind d, of which G is known -/
def Opens (t : TypeId) {α : Type} (d : Kd α) (G : α → Prop) : Prop :=
  ∀ (fuel : Nat) (cs : List Value) (x : DataW H × List MemPlace), DataW.trod enc Try.prog W 0 (fun _ => true) true fuel t cs = some x → ∃ a, d.K W a cs ∧ G a
variable {enc W}
theorem Opens.int {k : IntKind} {t : TypeId} (ht : Try.prog.underlying t = some (.int k)) : Opens enc W t (Kd.int k) (fun n => (Lit.int k n).wf = true) := by
  intro fuel cs x h
  obtain ⟨n, rfl, _, hw⟩ := DataW.trod_int ht h
  exact ⟨n, rfl, hw⟩
theorem Opens.str {t : TypeId} (ht : Try.prog.underlying t = some .string) : Opens enc W t Kd.string (fun s => s.size ≤ maxLen) := by
  intro fuel cs x h
  obtain ⟨s, rfl, _, hs⟩ := DataW.trod_string ht h
  exact ⟨s, rfl, hs⟩
theorem Opens.slice {t e : TypeId} {α : Type} {d : Kd α} {G : α → Prop} (ht : Try.prog.underlying t = some (.slice e)) (hc : Try.prog.cellsOf e = d.sz) (ho : Opens enc W e d G) :
    Opens enc W t (Kd.slice e d) (fun l => (∀ a ∈ l, G a) ∧ l.length ≤ maxLen) := by
  intro fuel cs x h
  rcases open_slice ht h with ⟨rfl, _⟩ | ⟨a, len, cap, m, n, D, Pl, rfl, hb, hl, hm, hmm, hx, hi⟩
  · exact ⟨[], ⟨none, 0, rfl, Nat.le_refl _, rfl, Nat.zero_le _, fun h => absurd h (Nat.lt_irrefl 0)⟩, by simp, Nat.zero_le _⟩
  · simp at hmm
    subst hmm
    have each : ∀ i, i < len → ∃ b, (∃ cs', W.cells? 0 (a.add (i * Try.prog.cellsOf e)) (Try.prog.cellsOf e) = some cs' ∧ d.K W b cs') ∧ G b := fun i hil => by
      obtain ⟨cs', h1, h2⟩ := hi i (by omega)
      obtain ⟨b, hk, hg⟩ := ho _ _ _ h2
      exact ⟨b, ⟨cs', h1, hk⟩, hg⟩
    obtain ⟨f, hf⟩ : ∃ f : (i : Nat) → i < len → α, ∀ i hil, (∃ cs', W.cells? 0 (a.add (i * Try.prog.cellsOf e)) (Try.prog.cellsOf e) = some cs' ∧ d.K W (f i hil) cs') ∧ G (f i hil) :=
      ⟨fun i hil => Classical.choose (each i hil), fun i hil => Classical.choose_spec (each i hil)⟩
    have hlen : ((List.range len).attach.map fun z => f z.1 (List.mem_range.1 z.2)).length = len := by simp
    refine ⟨(List.range len).attach.map fun z => f z.1 (List.mem_range.1 z.2), ⟨some a, m, by rw [hlen], by rw [hlen]; exact hl, rfl, by rw [hlen]; unfold maxLen at hm; omega, fun hp => ⟨a, rfl, fun j p hj => ?_⟩⟩, fun b hb => ?_, by rw [hlen]; omega⟩
    · have hjl : j < len := by
        have := (List.getElem?_eq_some_iff.1 hj).1
        rwa [hlen] at this
      have hp2 : p = f j hjl := by
        have := (List.getElem?_eq_some_iff.1 hj).2
        simpa using this.symm
      subst hp2
      obtain ⟨⟨cs', h1, hk⟩, _⟩ := hf j hjl
      obtain ⟨_, hcl, hat⟩ := World.cells?_some h1
      refine ⟨cs', hcl.trans hc, hk, fun i u hu => ?_⟩
      have hil : i < cs'.length := (List.getElem?_eq_some_iff.1 hu).1
      have := hat i (by omega)
      rw [hc] at this
      rw [← Go.Deep.add_add, this, hu]
    · obtain ⟨z, _, rfl⟩ := List.mem_map.1 hb
      exact (hf z.1 (List.mem_range.1 z.2)).2
/-- the fields from i on, at offset off -/
def OpensAt (enc : TypeId × Value → H) (W : World) (fs : Array Field) (i off : Nat) {α : Type} (d : Kd α) (G : α → Prop) : Prop :=
  ∀ (n : Nat) (cs : List Value) (xs : List (DataW H × List MemPlace)), cs.length = off + d.sz → xs.length = fs.size →
    (∀ (j : Nat) (f : Field), fs[j]? = some f → DataW.trod enc Try.prog W 0 (fun _ => true) true n f.type ((cs.drop f.offset).take (Try.prog.cellsOf f.type)) = xs[j]?) → ∃ a, d.K W a (cs.drop off) ∧ G a
theorem OpensAt.last {fs : Array Field} {i off : Nat} {f : Field} {α : Type} {d : Kd α} {G : α → Prop} (hf : fs[i]? = some f) (ho : f.offset = off) (hc : Try.prog.cellsOf f.type = d.sz) (h : Opens enc W f.type d G) : OpensAt enc W fs i off d G := by
  intro n cs xs hl hx ht
  have := ht i f hf
  have hi : i < xs.length := by rw [hx]; exact (Array.getElem?_eq_some_iff.1 hf).1
  rw [List.getElem?_eq_getElem hi, ho, hc, List.take_of_length_le (by rw [List.length_drop]; omega)] at this
  exact h _ _ _ this
theorem OpensAt.cons {fs : Array Field} {i off : Nat} {f : Field} {α β : Type} {d : Kd α} {e : Kd β} {G : α → Prop} {G' : β → Prop} (hf : fs[i]? = some f) (ho : f.offset = off) (hc : Try.prog.cellsOf f.type = d.sz) (h : Opens enc W f.type d G) (hr : OpensAt enc W fs (i + 1) (off + d.sz) e G') :
    OpensAt enc W fs i off (Kd.pair d e) (fun p => G p.1 ∧ G' p.2) := by
  intro n cs xs hl hx ht
  have h1 := ht i f hf
  have hi : i < xs.length := by rw [hx]; exact (Array.getElem?_eq_some_iff.1 hf).1
  rw [List.getElem?_eq_getElem hi, ho, hc] at h1
  have hsz : (Kd.pair d e).sz = d.sz + e.sz := rfl
  obtain ⟨a, hk, hg⟩ := h _ _ _ h1
  obtain ⟨b, hk', hg'⟩ := hr n cs xs (by omega) hx ht
  refine ⟨(a, b), ⟨(cs.drop off).take d.sz, cs.drop (off + d.sz), ?_, hk, hk'⟩, hg, hg'⟩
  rw [← List.drop_drop, List.take_append_drop]
theorem Opens.struct {t : TypeId} {fs : Array Field} {α β : Type} {d : Kd β} {G : β → Prop} {f : α → β} (g : β → α) (hgf : ∀ b, f (g b) = b) (ht : Try.prog.underlying t = some (.struct fs)) (hc : Try.prog.cellsOf t = d.sz) (h : OpensAt enc W fs 0 0 d G) :
    Opens enc W t (Kd.iso d f) (fun a => G (f a)) := by
  intro fuel cs x hx
  obtain ⟨xs, n, _, _, hl, hxs, hf⟩ := DataW.trod_struct ht hx
  obtain ⟨b, hk, hg⟩ := h n cs xs (by omega) hxs hf
  refine ⟨g b, ?_, by show G (f (g b)); rw [hgf]; exact hg⟩
  show d.K W (f (g b)) cs
  rw [hgf]
  simpa using hk
set_option maxRecDepth 100000 in
/-- an argument that is a slice of such elements -/
theorem Opens.args {t e : TypeId} {α : Type} {d : Kd α} {G : List α → Prop} (ho : Opens enc W t (Kd.slice e d) G) {v : Value} {D : DataW H} {p : List MemPlace} (ht : Try.prog.underlying t = some (.slice e)) (base : Nat) (hv : Value.okWide Try.prog W .any base t v)
    (h : DataW.Trod enc Try.prog W 0 (fun _ => true) true t v D p) :
    ∃ (A : Option Addr) (l : List α) (cap : Nat), v = .slice A l.length cap ∧ l.length ≤ cap ∧ d.C W A l.length l ∧ G l := by
  obtain ⟨A, len, cap, rfl⟩ := okWide_slice ht hv
  obtain ⟨fuel, hf⟩ := h
  obtain ⟨l, ⟨A', c', he, hl, hr⟩, hg⟩ := ho _ _ _ hf
  simp only [Value.cells, List.cons.injEq, and_true, Value.slice.injEq] at he
  obtain ⟨rfl, rfl, rfl⟩ := he
  exact ⟨A, l, cap, rfl, hl, hr, hg⟩
end
end Go.Proofs.Ytldkkboeaadbeaa.Args
