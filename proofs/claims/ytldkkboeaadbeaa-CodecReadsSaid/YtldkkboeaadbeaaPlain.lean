/- Plain mathematics of the codec: the digits of an unsigned number (base 128), and how they are read. No program in sight. -/
import Derived.Laws.BytesArg
namespace Go.Proofs.Ytldkkboeaadbeaa.Pl

/-- the bytes of an unsigned number -/
def leb (n : Nat) : List Int := if n < 128 then [(n : Int)] else ((n % 128 + 128 : Nat) : Int) :: leb (n / 128)
termination_by n
decreasing_by omega

theorem leb_lt {n : Nat} (h : n < 128) : leb n = [(n : Int)] := by rw [leb, if_pos h]
theorem leb_ge {n : Nat} (h : ¬ n < 128) : leb n = ((n % 128 + 128 : Nat) : Int) :: leb (n / 128) := by rw [leb, if_neg h]

theorem leb_range (n : Nat) : ∀ b ∈ leb n, 0 ≤ b ∧ b < 256 := by
  induction n using Nat.strongRecOn with
  | _ n ih =>
    by_cases h : n < 128
    · rw [leb_lt h]; intro b hb; simp at hb; omega
    · rw [leb_ge h]
      intro b hb
      rcases List.mem_cons.1 hb with rfl | hb
      · omega
      · exact ih (n / 128) (by omega) b hb

theorem leb_length : ∀ (m n : Nat), n < 128 ^ (m + 1) → (leb n).length ≤ m + 1
  | 0, n, h => by rw [leb_lt (by simpa using h)]; simp
  | m + 1, n, h => by
    by_cases hn : n < 128
    · rw [leb_lt hn]; simp
    · rw [leb_ge hn, List.length_cons]
      have : n / 128 < 128 ^ (m + 1) := by rw [Nat.div_lt_iff_lt_mul (by omega)]; rw [Nat.pow_succ] at h; exact h
      have := leb_length m (n / 128) this
      omega
theorem leb_len10 {n : Nat} (h : n < 18446744073709551616) : (leb n).length ≤ 10 := leb_length 9 n (Nat.lt_of_lt_of_le h (by decide))
theorem leb_pos (n : Nat) : 0 < (leb n).length := by
  by_cases h : n < 128
  · rw [leb_lt h]; simp
  · rw [leb_ge h]; simp

/-- reading: i bytes of this number have been read -/
def un : Nat → List Int → Option (Nat × List Int)
  | _, [] => none
  | i, b :: l => if i = 9 ∧ 1 < b then none else if b < 128 then (if 0 < b ∨ i = 0 then some (b.toNat, l) else none)
    else if 9 ≤ i then none else (un (i + 1) l).map fun p => ((b - 128).toNat + 128 * p.1, p.2)

theorem pow_step (i : Nat) (h : i < 9) : 2 ^ (64 - 7 * i) = 128 * 2 ^ (64 - 7 * (i + 1)) := by
  rw [show 64 - 7 * i = 7 + (64 - 7 * (i + 1)) by omega, Nat.pow_add]

/-- What was written is read. -/
theorem un_leb (n : Nat) : ∀ (i : Nat) (rest : List Int), i ≤ 9 → n < 2 ^ (64 - 7 * i) → (i = 0 ∨ 0 < n) → un i (leb n ++ rest) = some (n, rest) := by
  induction n using Nat.strongRecOn with
  | _ n ih =>
    intro i rest hi hn h0
    by_cases h : n < 128
    · rw [leb_lt h]
      show (if i = 9 ∧ 1 < (n : Int) then none else if (n : Int) < 128 then _ else _) = _
      rw [if_neg, if_pos (by omega), if_pos (by omega)]
      · simp
      · rintro ⟨rfl, h1⟩
        have : n < 2 := by simpa using hn
        omega
    · have hi9 : i < 9 := by
        rcases Nat.lt_or_ge i 9 with h9 | h9
        · exact h9
        · obtain rfl : i = 9 := by omega
          have : n < 2 := by simpa using hn
          omega
      rw [leb_ge h]
      show (if i = 9 ∧ 1 < ((n % 128 + 128 : Nat) : Int) then none else if ((n % 128 + 128 : Nat) : Int) < 128 then _ else if 9 ≤ i then none else (un (i + 1) (leb (n / 128) ++ rest)).map _) = _
      rw [if_neg (by omega), if_neg (by omega), if_neg (by omega)]
      rw [pow_step i hi9] at hn
      rw [ih (n / 128) (by omega) (i + 1) rest (by omega) (by rw [Nat.div_lt_iff_lt_mul (by omega), Nat.mul_comm]; exact hn) (.inr (by omega))]
      simp only [Option.map_some, Option.some.injEq, Prod.mk.injEq, and_true]
      omega

/-- What is read was written so. -/
theorem un_some : ∀ (l : List Int) (i v : Nat) (rest : List Int), i ≤ 9 → (∀ b ∈ l, 0 ≤ b ∧ b < 256) → un i l = some (v, rest) → l = leb v ++ rest ∧ (i = 0 ∨ 0 < v) ∧ v < 2 ^ (64 - 7 * i)
  | [], _, _, _, _, _, h => by cases h
  | b :: l, i, v, rest, hi, hr, h => by
    have hb := hr b List.mem_cons_self
    rw [un] at h
    by_cases h9 : i = 9 ∧ 1 < b
    · rw [if_pos h9] at h; cases h
    · rw [if_neg h9] at h
      by_cases hlt : b < 128
      · rw [if_pos hlt] at h
        by_cases hz : 0 < b ∨ i = 0
        · rw [if_pos hz] at h
          simp only [Option.some.injEq, Prod.mk.injEq] at h
          obtain ⟨rfl, rfl⟩ := h
          refine ⟨?_, ?_, ?_⟩
          · rw [leb_lt (by omega)]
            simp; omega
          · omega
          · by_cases hi9 : i = 9
            · subst hi9; simp; omega
            · have : 2 ^ 7 ≤ 2 ^ (64 - 7 * i) := Nat.pow_le_pow_right (by omega) (by omega)
              omega
        · rw [if_neg hz] at h; cases h
      · rw [if_neg hlt] at h
        by_cases hge : 9 ≤ i
        · rw [if_pos hge] at h; cases h
        · rw [if_neg hge] at h
          obtain ⟨⟨v', r'⟩, h1, h2⟩ := Option.map_eq_some_iff.1 h
          simp only [Prod.mk.injEq] at h2
          obtain ⟨rfl, rfl⟩ := h2
          obtain ⟨e, hv, hp⟩ := un_some l (i + 1) v' r' (by omega) (fun x hx => hr x (List.mem_cons_of_mem _ hx)) h1
          have hv' : 0 < v' := by omega
          refine ⟨?_, .inr (by omega), ?_⟩
          · rw [leb_ge (by omega), e]
            have e1 : ((b - 128).toNat + 128 * v') % 128 + 128 = b.toNat := by omega
            have e2 : ((b - 128).toNat + 128 * v') / 128 = v' := by omega
            rw [e1, e2, List.cons_append]
            congr 1
            omega
          · rw [pow_step i (by omega)]
            omega

theorem un_length {l : List Int} : ∀ {i v : Nat} {rest : List Int}, un i l = some (v, rest) → rest.length < l.length := by
  induction l with
  | nil => intro i v rest h; cases h
  | cons b l ih =>
    intro i v rest h
    rw [un] at h
    split at h
    · cases h
    · split at h
      · split at h
        · simp only [Option.some.injEq, Prod.mk.injEq] at h
          obtain ⟨_, rfl⟩ := h
          simp
        · cases h
      · split at h
        · cases h
        · obtain ⟨⟨v', r'⟩, h1, h2⟩ := Option.map_eq_some_iff.1 h
          simp only [Prod.mk.injEq] at h2
          obtain ⟨_, rfl⟩ := h2
          have := ih h1
          simp; omega

/-- the number for an integer -/
def zig (n : Int) : Nat := if n < 0 then (2 * (-n - 1) + 1).toNat else (2 * n).toNat
/-- the integer for a number -/
def zag (v : Nat) : Int := if v % 2 = 0 then (v / 2 : Nat) else -((v / 2 : Nat) : Int) - 1
theorem zag_zig (n : Int) : zag (zig n) = n := by unfold zag zig; split <;> split <;> omega
theorem zig_zag (v : Nat) : zig (zag v) = v := by unfold zag zig; split <;> split <;> omega
theorem zig_lt {n : Int} (h0 : -9223372036854775808 ≤ n) (h1 : n ≤ 9223372036854775807) : zig n < 18446744073709551616 := by unfold zig; split <;> omega

/-- the bytes of a string with its length, of a list of strings -/
def txt (s : List Int) : List Int := leb s.length ++ s
def txts (l : List (List Int)) : List Int := leb l.length ++ l.flatMap txt
/-- reading a string; so many strings; a list of strings -/
def decT (l : List Int) : Option (List Int × List Int) := (un 0 l).bind fun p => if p.1 ≤ p.2.length then some (p.2.take p.1, p.2.drop p.1) else none
def decN : Nat → List Int → Option (List (List Int) × List Int)
  | 0, l => some ([], l)
  | n + 1, l => (decT l).bind fun p => (decN n p.2).map fun q => (p.1 :: q.1, q.2)
def decL (l : List Int) : Option (List (List Int) × List Int) := (un 0 l).bind fun p => if p.1 ≤ p.2.length then decN p.1 p.2 else none
theorem decT_txt (s rest : List Int) (h : s.length < 18446744073709551616) : decT (txt s ++ rest) = some (s, rest) := by
  unfold decT txt
  rw [List.append_assoc, un_leb s.length 0 (s ++ rest) (by omega) (by simpa using h) (.inl rfl)]
  simp
theorem decN_txts : ∀ (l : List (List Int)) (rest : List Int), (∀ s ∈ l, s.length < 18446744073709551616) → decN l.length (l.flatMap txt ++ rest) = some (l, rest)
  | [], rest, _ => rfl
  | s :: l, rest, h => by
    rw [List.length_cons, decN, List.flatMap_cons, List.append_assoc, decT_txt s _ (h s List.mem_cons_self)]
    simp only [Option.bind_some]
    rw [decN_txts l rest (fun x hx => h x (List.mem_cons_of_mem _ hx))]
    rfl
theorem flat_length (l : List (List Int)) : l.length ≤ (l.flatMap txt).length := by
  induction l with
  | nil => simp
  | cons s l ih => rw [List.flatMap_cons, List.length_append, List.length_cons]; have := leb_pos s.length; simp only [txt, List.length_append]; omega
theorem decL_txts (l : List (List Int)) (rest : List Int) (hl : l.length < 18446744073709551616) (h : ∀ s ∈ l, s.length < 18446744073709551616) : decL (txts l ++ rest) = some (l, rest) := by
  unfold decL txts
  rw [List.append_assoc, un_leb l.length 0 _ (by omega) (by simpa using hl) (.inl rfl)]
  simp only [Option.bind_some]
  rw [if_pos (by rw [List.length_append]; have := flat_length l; omega), decN_txts l rest h]
/-- of two lists' bytes, none is the other's beginning -/
theorem txts_prefix (a b : List (List Int)) (r : List Int) (ha : a.length < 18446744073709551616) (hb : b.length < 18446744073709551616) (ha' : ∀ s ∈ a, s.length < 18446744073709551616) (hb' : ∀ s ∈ b, s.length < 18446744073709551616)
    (h : txts b = txts a ++ r) : a = b := by
  have h1 := decL_txts a r ha ha'
  have h2 := decL_txts b [] hb hb'
  rw [List.append_nil, h, h1] at h2
  simp only [Option.some.injEq, Prod.mk.injEq] at h2
  exact h2.1
end Go.Proofs.Ytldkkboeaadbeaa.Pl
