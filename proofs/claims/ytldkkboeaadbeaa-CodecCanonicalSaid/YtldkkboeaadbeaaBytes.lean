/- Strings as lists of bytes; what is written, as a list of bytes. -/
import Derived.Test.YtldkkboeaadbeaaWrites
import Derived.Test.YtldkkboeaadbeaaPr5
set_option linter.unusedVariables false
set_option linter.unusedSimpArgs false
namespace Go.Proofs.Ytldkkboeaadbeaa.Pr
open Go.RowKit Go.Proofs.YtldkkboeaadbeaaW.PrintWords Go.Proofs.YtldkkboeaadbeaaW.PrintLast Go.Proofs.YtldkkboeaadbeaaW.PrintMore Go.Proofs.Ytldkkboeaadbeaa.Pl
theorem bytesOf_append (a b : ByteArray) : bytesOf (a ++ b) = bytesOf a ++ bytesOf b := by simp [bytesOf, ByteArray.data_append]
theorem bytesOf_range (a : ByteArray) : ∀ b ∈ bytesOf a, 0 ≤ b ∧ b < 256 := by
  intro b hb
  obtain ⟨c, _, rfl⟩ := List.mem_map.1 hb
  have := c.toNat_lt
  omega
theorem bytesOf_nums (xs : List Int) (h : ∀ b ∈ xs, 0 ≤ b ∧ b < 256) : bytesOf (strOfNums xs) = xs := by
  unfold bytesOf
  rw [strOfNums_data, List.map_map]
  conv => rhs; rw [← List.map_id xs]
  apply List.map_congr_left
  intro b hb
  have := h b hb
  simp only [Function.comp, id]
  rw [UInt8.toNat_ofNat']
  omega
theorem nums_bytesOf (a : ByteArray) : strOfNums (bytesOf a) = a := by
  apply ByteArray.ext
  apply Array.ext'
  rw [strOfNums_data]
  unfold bytesOf
  rw [List.map_map]
  conv => rhs; rw [← List.map_id a.data.toList]
  apply List.map_congr_left
  intro b _
  simp
theorem bytesOf_inj {a b : ByteArray} (h : bytesOf a = bytesOf b) : a = b := by rw [← nums_bytesOf a, h, nums_bytesOf]
theorem toList_inj {a b : ByteArray} (h : a.toList = b.toList) : a = b := by
  rw [ByteArray.toList_eq, ByteArray.toList_eq] at h
  exact ByteArray.ext (Array.ext' h)
theorem bytesOf_extract (a : ByteArray) (i j : Nat) : bytesOf (a.extract i j) = ((bytesOf a).take j).drop i := by
  unfold bytesOf
  rw [ByteArray.data_extract, Array.toList_extract, List.extract_eq_take_drop]
  simp [List.map_take, List.map_drop, List.drop_take]
theorem bytes_encU (n : Nat) : bytesOf (encU n) = leb n := bytesOf_nums _ (leb_range n)
theorem bytes_textS (s : ByteArray) : bytesOf (textS s) = txt (bytesOf s) := by
  unfold textS txt
  rw [bytesOf_append, bytes_encU, bytesOf_length]
theorem bytes_catS : ∀ (l : List ByteArray) (b : ByteArray), bytesOf (catS l b) = bytesOf b ++ (l.map bytesOf).flatMap txt
  | [], b => by simp [catS]
  | s :: l, b => by
    rw [catS, bytes_catS l, bytesOf_append, bytes_textS]
    simp
theorem bytes_textsS (l : List ByteArray) : bytesOf (textsS l) = txts (l.map bytesOf) := by
  unfold textsS txts
  rw [bytes_catS, bytes_encU, List.length_map]
theorem map_bytesOf_inj : ∀ {a b : List ByteArray}, a.map bytesOf = b.map bytesOf → a = b
  | [], [], _ => rfl
  | [], _ :: _, h => by cases h
  | _ :: _, [], h => by cases h
  | x :: a, y :: b, h => by
    simp only [List.map_cons, List.cons.injEq] at h
    rw [bytesOf_inj h.1, map_bytesOf_inj h.2]
theorem Equal_l (a b : List ByteArray) (hl : a.length = b.length) (hm : a.length < 9223372036854775807) : ∀ (d j : Nat), d + j = a.length →
    Ev (fun k => slices_Equal_string_string.l0 k a b (a.length : Int) (j : Int)) (decide (a.drop j = b.drop j))
  | 0, j, hd => by
    refine Ev.step (fun k => rfl) ?_
    rw [List.drop_of_length_le (by omega), List.drop_of_length_le (by omega)]
    exact Ev.congr (f := fun _ => some (decide (([] : List ByteArray) = []))) (fun k => by rw [slices_Equal_string_string.l0, if_neg (by omega)]; rfl) (Ev.now _)
  | d + 1, j, hd => by
    refine Ev.step (fun k => rfl) ?_
    have h1 : j < a.length := by omega
    have h2 : j < b.length := by omega
    rw [List.drop_eq_getElem_cons h1, List.drop_eq_getElem_cons h2]
    by_cases he : a[j] = b[j]
    · refine Ev.congr (f := fun k => slices_Equal_string_string.l0 k a b (a.length : Int) ((j + 1 : Nat) : Int)) (fun k => ?_) ?_
      · rw [slices_Equal_string_string.l0, if_pos (by omega), if_pos (by omega), if_pos (by omega), if_pos (by omega), rdOf_at a j h1, rdOf_at b j h2, if_pos (by rw [he]), IntWalk.wrap64_in _ (by omega)]
        rfl
      · have e : decide (a[j] :: a.drop (j + 1) = b[j] :: b.drop (j + 1)) = decide (a.drop (j + 1) = b.drop (j + 1)) := by
          refine decide_eq_decide.2 ?_
          rw [he, List.cons.injEq]
          exact ⟨fun h => h.2, fun h => ⟨rfl, h⟩⟩
        rw [e]
        exact Equal_l a b hl hm d (j + 1) (by omega)
    · refine Ev.congr (f := fun _ => some (decide (a[j] :: a.drop (j + 1) = b[j] :: b.drop (j + 1)))) (fun k => ?_) (Ev.now _)
      rw [slices_Equal_string_string.l0, if_pos (by omega), if_pos (by omega), if_pos (by omega), if_pos (by omega), rdOf_at a j h1, rdOf_at b j h2, if_neg (fun e => he (toList_inj e))]
      have e : decide (a[j] :: a.drop (j + 1) = b[j] :: b.drop (j + 1)) = false := decide_eq_false (fun h => he (List.cons.inj h).1)
      rw [e]
theorem Equal_ev (a b : List ByteArray) (hm : a.length < 9223372036854775807) : Ev (fun k => slices_Equal_string_string.f k a b) (decide (a = b)) := by
  unfold slices_Equal_string_string.f
  by_cases h : a.length = b.length
  · simp only [if_pos (show (a.length : Int) = (b.length : Int) by omega)]
    have := Equal_l a b h hm a.length 0 (by omega)
    simpa using this
  · simp only [if_neg (show ¬ (a.length : Int) = (b.length : Int) by omega)]
    have : decide (a = b) = false := decide_eq_false (fun e => h (by rw [e]))
    rw [this]
    exact Ev.now _
end Go.Proofs.Ytldkkboeaadbeaa.Pr
