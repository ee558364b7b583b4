/- CodecCanonical: one call of the reader, over numbers and strings alone. -/
import Derived.Test.YtldkkboeaadbeaaReads
import Derived.Test.YtldkkboeaadbeaaPr6
import Derived.Test.YtldkkboeaadbeaaPr15
set_option linter.unusedVariables false
set_option linter.unusedSimpArgs false
namespace Go.Proofs.Ytldkkboeaadbeaa.Pr
open Go.RowKit Go.Proofs.YtldkkboeaadbeaaW.PrintWords Go.Proofs.YtldkkboeaadbeaaW.PrintLast Go.Proofs.YtldkkboeaadbeaaW.PrintMore Go.Proofs.Ytldkkboeaadbeaa.Pl
theorem ext_of_drop {s u : ByteArray} {p q : Nat} (hp : p ≤ s.size) (hq : q ≤ s.size) (h : (bytesOf s).drop p = bytesOf u ++ (bytesOf s).drop q) : s.extract 0 p ++ u = s.extract 0 q := by
  apply bytesOf_inj
  rw [bytesOf_append, bytesOf_extract, bytesOf_extract, List.drop_zero, List.drop_zero]
  have hl := congrArg List.length h
  rw [List.length_drop, List.length_append, List.length_drop, bytesOf_length] at hl
  have e : bytesOf s = ((bytesOf s).take p ++ bytesOf u) ++ (bytesOf s).drop q := by
    rw [List.append_assoc, ← h, List.take_append_drop]
  have hlen : ((bytesOf s).take p ++ bytesOf u).length = q := by
    rw [List.length_append, List.length_take, bytesOf_length]; omega
  exact ((congrArg (List.take q) e).trans (List.take_left' hlen)).symm
theorem sizes_flat : ∀ m : List ByteArray, sizes m + m.length ≤ ((m.map bytesOf).flatMap txt).length
  | [] => by simp [sizes]
  | t :: m => by
    have := sizes_flat m
    have := leb_pos (bytesOf t).length
    have e : (txt (bytesOf t)).length = (leb (bytesOf t).length).length + t.size := by unfold txt; rw [List.length_append, bytesOf_length]
    rw [List.map_cons, List.flatMap_cons, List.length_append, sizes, e, List.length_cons]
    omega
/-- what one call that left no error has read, written again -/
def Wrote (k : Nat) (s : ByteArray) (p p' : Nat) (c0 n : Int) (t : ByteArray) (l : List ByteArray) : Prop :=
  ((c0 = 0 ∨ c0 = 3) ∧ ∃ u, codec_Uint.f k n = some (u, 0) ∧ s.extract 0 p ++ u = s.extract 0 p') ∨
  (c0 = 1 ∧ ∃ u, codec_Int.f k n = some u ∧ s.extract 0 p ++ u = s.extract 0 p') ∨
  (c0 = 2 ∧ ∃ u, codec_Text.f k t = some u ∧ s.extract 0 p ++ u = s.extract 0 p') ∨
  (c0 = 4 ∧ ∃ u, codec_Texts.f k l = some u ∧ s.extract 0 p ++ u = s.extract 0 p') ∨
  (c0 ≠ 0 ∧ c0 ≠ 3 ∧ c0 ≠ 1 ∧ c0 ≠ 2 ∧ c0 ≠ 4 ∧ p' = p)
theorem canon_step (s : ByteArray) (hs : s.size ≤ 2000) (p : Nat) (hp : p ≤ s.size) (c0 c1 : Int) :
    ∃ (k : Nat) (n : Int) (t : ByteArray) (l : List ByteArray) (e : Int) (p' : Nat), modcertlaw02_result.f k s (p : Int) 0 c0 c1 = some (n, t, l, e, s, (p' : Int), e) ∧ p' ≤ s.size ∧ (e = 0 → Wrote k s p p' c0 n t l) := by
  have hu : ∀ (v q : Nat), rdN s p = some (v, q) → ∃ K, ∀ k, K ≤ k → codec_Uint.f k (v : Int) = some (encU v, 0) := by
    intro v q h
    obtain ⟨h1, h2, h3, h4⟩ := rdN_le hp h
    obtain ⟨K, g⟩ := Uint_ev (v : Int) (by omega)
    exact ⟨K, fun k hk => by have := g k hk; rwa [uintS, if_neg (by omega), Int.toNat_natCast] at this⟩
  by_cases k0 : c0 = 0
  · subst k0
    obtain ⟨K, g⟩ := Uint_rd s (by omega) p hp
    dsimp only at g
    cases hr : rdN s p with
    | none =>
      rw [rdNI, hr] at g
      refine ⟨K, 0, ⟨#[]⟩, [], 9, p, ?_, hp, fun h => absurd h (by decide)⟩
      unfold modcertlaw02_result.f
      rw [if_pos rfl, g K (Nat.le_refl _)]; rfl
    | some u =>
      obtain ⟨v, q⟩ := u
      obtain ⟨h1, h2, h3, h4⟩ := rdN_le hp hr
      obtain ⟨K2, g2⟩ := hu v q hr
      rw [rdNI, hr] at g
      refine ⟨K + K2, v, ⟨#[]⟩, [], 0, q, ?_, h2, fun _ => .inl ⟨.inl rfl, encU v, g2 _ (by omega), ext_of_drop hp h2 (by rw [bytes_encU]; exact h4)⟩⟩
      unfold modcertlaw02_result.f
      rw [if_pos rfl, g (K + K2) (by omega)]; rfl
  by_cases k1 : c0 = 1
  · subst k1
    obtain ⟨K, g⟩ := Int_rd s (by omega) p hp
    dsimp only at g
    cases hr : rdU s p with
    | none =>
      rw [rdI, hr] at g
      refine ⟨K, 0, ⟨#[]⟩, [], 9, p, ?_, hp, fun h => absurd h (by decide)⟩
      unfold modcertlaw02_result.f
      rw [if_neg k0, if_pos rfl, g K (Nat.le_refl _)]; rfl
    | some u =>
      obtain ⟨v, q⟩ := u
      obtain ⟨h1, h2, h3, h4⟩ := rdU_le hp hr
      have hz : -9223372036854775808 ≤ zag v ∧ zag v ≤ 9223372036854775807 := by unfold zag; split <;> omega
      obtain ⟨K2, g2⟩ := Int_ev (zag v) hz.1 hz.2
      rw [zig_zag] at g2
      rw [rdI, hr] at g
      refine ⟨K + K2, zag v, ⟨#[]⟩, [], 0, q, ?_, h2, fun _ => .inr (.inl ⟨rfl, encU v, g2 _ (by omega), ext_of_drop hp h2 (by rw [bytes_encU]; exact h4)⟩)⟩
      unfold modcertlaw02_result.f
      rw [if_neg k0, if_pos rfl, g (K + K2) (by omega)]; rfl
  by_cases k2 : c0 = 2
  · subst k2
    obtain ⟨K, g⟩ := Text_rd s (by omega) p hp
    dsimp only at g
    cases hr : rdT s p with
    | none =>
      rw [hr] at g
      refine ⟨K, 0, ⟨#[]⟩, [], 9, p, ?_, hp, fun h => absurd h (by decide)⟩
      unfold modcertlaw02_result.f
      rw [if_neg k0, if_neg k1, if_pos rfl, g K (Nat.le_refl _)]; rfl
    | some u =>
      obtain ⟨v, q⟩ := u
      obtain ⟨h1, h2, h3, h4⟩ := rdT_le hp hr
      have hl := congrArg List.length h4
      unfold txt at hl
      rw [List.length_drop, List.length_append, List.length_append, bytesOf_length, bytesOf_length] at hl
      obtain ⟨K2, g2⟩ := Text_ev v (by omega)
      rw [hr] at g
      refine ⟨K + K2, 0, v, [], 0, q, ?_, h2, fun _ => .inr (.inr (.inl ⟨rfl, textS v, g2 _ (by omega), ext_of_drop hp h2 (by rw [bytes_textS]; exact h4)⟩))⟩
      unfold modcertlaw02_result.f
      rw [if_neg k0, if_neg k1, if_pos rfl, g (K + K2) (by omega)]; rfl
  by_cases k3 : c0 = 3
  · subst k3
    obtain ⟨K, g⟩ := Count_rd s (by omega) p hp c1
    dsimp only at g
    cases hr : rdN s p with
    | none =>
      rw [rdC, hr] at g
      refine ⟨K, 0, ⟨#[]⟩, [], 9, p, ?_, hp, fun h => absurd h (by decide)⟩
      unfold modcertlaw02_result.f
      rw [if_neg k0, if_neg k1, if_neg k2, if_pos rfl, g K (Nat.le_refl _)]; rfl
    | some u =>
      obtain ⟨v, q⟩ := u
      obtain ⟨h1, h2, h3, h4⟩ := rdN_le hp hr
      obtain ⟨K2, g2⟩ := hu v q hr
      rw [rdC, hr, Option.bind_some] at g
      by_cases hle : (v : Int) ≤ c1
      · rw [if_pos hle] at g
        refine ⟨K + K2, v, ⟨#[]⟩, [], 0, q, ?_, h2, fun _ => .inl ⟨.inr rfl, encU v, g2 _ (by omega), ext_of_drop hp h2 (by rw [bytes_encU]; exact h4)⟩⟩
        unfold modcertlaw02_result.f
        rw [if_neg k0, if_neg k1, if_neg k2, if_pos rfl, g (K + K2) (by omega)]; rfl
      · rw [if_neg hle] at g
        refine ⟨K, 0, ⟨#[]⟩, [], 9, p, ?_, hp, fun h => absurd h (by decide)⟩
        unfold modcertlaw02_result.f
        rw [if_neg k0, if_neg k1, if_neg k2, if_pos rfl, g K (Nat.le_refl _)]; rfl
  by_cases k4 : c0 = 4
  · subst k4
    obtain ⟨K, g⟩ := Texts_rd s (by omega) p hp
    dsimp only at g
    cases hr : rdTs s p with
    | none =>
      rw [hr] at g
      refine ⟨K, 0, ⟨#[]⟩, [], 9, p, ?_, hp, fun h => absurd h (by decide)⟩
      unfold modcertlaw02_result.f
      rw [if_neg k0, if_neg k1, if_neg k2, if_neg k3, if_pos rfl, g K (Nat.le_refl _)]; rfl
    | some u =>
      obtain ⟨v, q⟩ := u
      obtain ⟨h1, h2, h3, h4⟩ := rdTs_le hp hr
      have hl := congrArg List.length h4
      unfold txts at hl
      rw [List.length_drop, List.length_append, List.length_append, bytesOf_length] at hl
      have := sizes_flat v
      have := room_sizes v
      obtain ⟨K2, g2⟩ := Texts_ev v (by omega)
      rw [hr] at g
      refine ⟨K + K2, 0, ⟨#[]⟩, v, 0, q, ?_, h2, fun _ => .inr (.inr (.inr (.inl ⟨rfl, textsS v, g2 _ (by omega), ext_of_drop hp h2 (by rw [bytes_textsS]; exact h4)⟩)))⟩
      unfold modcertlaw02_result.f
      rw [if_neg k0, if_neg k1, if_neg k2, if_neg k3, if_pos rfl, g (K + K2) (by omega)]; rfl
  by_cases k5 : c0 = 5
  · subst k5
    refine ⟨0, 0, ⟨#[]⟩, [], c1, p, ?_, hp, fun _ => .inr (.inr (.inr (.inr ⟨k0, k3, k1, k2, k4, rfl⟩)))⟩
    unfold modcertlaw02_result.f
    rw [if_neg k0, if_neg k1, if_neg k2, if_neg k3, if_neg k4, if_pos rfl]; rfl
  by_cases k6 : c0 = 6
  · subst k6
    obtain ⟨x, hx⟩ : ∃ x, codec_Reader_End.f s (p : Int) 0 = some (x, s, (p : Int), 0) := by
      unfold codec_Reader_End.f
      rw [if_pos rfl]
      split <;> exact ⟨_, rfl⟩
    refine ⟨0, x, ⟨#[]⟩, [], 0, p, ?_, hp, fun _ => .inr (.inr (.inr (.inr ⟨k0, k3, k1, k2, k4, rfl⟩)))⟩
    unfold modcertlaw02_result.f
    rw [if_neg k0, if_neg k1, if_neg k2, if_neg k3, if_neg k4, if_neg k5, if_pos rfl, hx]; rfl
  refine ⟨0, 0, ⟨#[]⟩, [], 0, p, ?_, hp, fun _ => .inr (.inr (.inr (.inr ⟨k0, k3, k1, k2, k4, rfl⟩)))⟩
  unfold modcertlaw02_result.f
  rw [if_neg k0, if_neg k1, if_neg k2, if_neg k3, if_neg k4, if_neg k5, if_neg k6]; rfl
end Go.Proofs.Ytldkkboeaadbeaa.Pr
