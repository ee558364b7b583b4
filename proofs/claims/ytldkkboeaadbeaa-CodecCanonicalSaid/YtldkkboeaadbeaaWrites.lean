/- What the codec's writers return, in the program and in the reference. -/
import Derived.Test.YtldkkboeaadbeaaPlain
import Derived.Test.YtldkkboeaadbeaaPr1
import Derived.Test.YtldkkboeaadbeaaPr8
import Derived.Test.YtldkkboeaadbeaaPr9
import Derived.Test.YtldkkboeaadbeaaPr7
import Derived.Laws.BitsAllLaws
import Derived.Laws.Bits64
import Derived.IntWalk
set_option linter.unusedVariables false
set_option linter.unusedSimpArgs false
namespace Go.Proofs.Ytldkkboeaadbeaa.Pr
open Go.RowKit Go.Proofs.YtldkkboeaadbeaaW.PrintWords Go.Proofs.YtldkkboeaadbeaaW.PrintLast Go.Proofs.YtldkkboeaadbeaaW.PrintMore Go.Proofs.Ytldkkboeaadbeaa.Pl

/-- the bytes of an unsigned number, as a string -/
def encU (n : Nat) : ByteArray := strOfNums (leb n)
theorem encU_size (n : Nat) : (encU n).size = (leb n).length := by simp [encU, strOfNums_size]
theorem encU_size10 {n : Nat} (h : n < 18446744073709551616) : (encU n).size ≤ 10 := by rw [encU_size]; exact leb_len10 h

theorem or128 (x : Int) (h0 : 0 ≤ x) : Go.bits .or .u8 (x % 256) 128 = x % 128 + 128 := by
  obtain ⟨n, rfl⟩ := Int.eq_ofNat_of_zero_le h0
  have key : ∀ m : Fin 256, Go.bits .or .u8 ((m.val : Nat) : Int) 128 = ((m.val % 128 + 128 : Nat) : Int) := by decide +kernel
  have := key ⟨n % 256, Nat.mod_lt _ (by omega)⟩
  simp only at this
  rw [show ((n : Int) % 256) = ((n % 256 : Nat) : Int) by omega, this]
  omega
theorem xor_m1 (x : Int) (h0 : -9223372036854775808 ≤ x) (h1 : x ≤ 9223372036854775807) : Go.bits .xor .i64 (-1) x = -x - 1 := by
  show IntKind.i64.wrap ((BitVec.ofInt 64 (-1) ^^^ BitVec.ofInt 64 x).toNat : Int) = _
  have h : BitVec.ofInt 64 (-1) = BitVec.allOnes 64 := by decide
  rw [h, BitVec.allOnes_xor, BitVec.toNat_not, BitVec.toNat_ofInt, IntKind.wrap_i64]
  omega
theorem or_one (n : Nat) (h : 2 * n < 18446744073709551616) : Go.bits .or .u64 ((2 * n : Nat) : Int) 1 = ((2 * n + 1 : Nat) : Int) := by
  show IntKind.u64.wrap ((BitVec.ofInt 64 ((2 * n : Nat) : Int) ||| BitVec.ofInt 64 1).toNat : Int) = _
  have h1 : (BitVec.ofInt 64 (1 : Int)).toNat = 1 := by decide
  have h2 : 2 * n ||| 1 = 2 * n + 1 := by
    apply Nat.eq_of_testBit_eq
    intro i
    rw [Nat.testBit_or]
    cases i with
    | zero => simp
    | succ i => simp [Nat.testBit_succ, Nat.mul_add_div]
  rw [BitVec.toNat_or, h1, BitVec.ofInt_natCast, BitVec.toNat_ofNat, Nat.mod_eq_of_lt h, h2, IntWalk.u64_in _ (by omega)]

theorem unsigned_l (n : Nat) : ∀ (xs : List Int), xs.length + (leb n).length < 140737488355328 →
    Ev (fun k => codec_unsigned.l0 k (n : Int) xs) (strOfNums (xs ++ leb n)) := by
  induction n using Nat.strongRecOn with
  | _ n ih =>
    intro xs hx
    refine Ev.step (fun k => rfl) ?_
    by_cases h : n < 128
    · refine Ev.congr (f := fun _ => some (strOfNums (xs ++ leb n))) (fun k => ?_) (Ev.now _)
      rw [leb_lt h] at hx ⊢
      simp only [List.length_cons, List.length_nil] at hx
      rw [codec_unsigned.l0, if_neg (by omega), if_pos (by omega), show ((n : Int) % 256) = (n : Int) by omega]
    · rw [leb_ge h] at hx ⊢
      simp only [List.length_cons] at hx
      refine Ev.congr (f := fun k => codec_unsigned.l0 k ((n / 128 : Nat) : Int) (xs ++ [((n % 128 + 128 : Nat) : Int)])) (fun k => ?_) ?_
      · rw [codec_unsigned.l0, if_pos (by omega), if_pos (by omega), or128 _ (by omega), show ((n : Int) / 128) = ((n / 128 : Nat) : Int) by omega, show ((n : Int) % 128 + 128) = ((n % 128 + 128 : Nat) : Int) by omega]
      · have := ih (n / 128) (by omega) (xs ++ [((n % 128 + 128 : Nat) : Int)]) (by simp; omega)
        rwa [List.append_assoc] at this
theorem unsigned_ev (n : Nat) (h : n < 18446744073709551616) : Ev (fun k => codec_unsigned.f k (n : Int)) (encU n) := by
  have := unsigned_l n [] (by have := leb_len10 h; simp; omega)
  simpa [codec_unsigned.f, encU] using this

theorem unsigned_rl (n : Nat) : ∀ (xs : List Int), n < 18446744073709551616 → xs.length + (leb n).length < 140737488355328 →
    Ev (fun k => modcertref02_unsigned.l0 k (n : Int) xs) (strOfNums (xs ++ leb n)) := by
  induction n using Nat.strongRecOn with
  | _ n ih =>
    intro xs hn hx
    refine Ev.step (fun k => rfl) ?_
    by_cases h : n < 128
    · refine Ev.congr (f := fun _ => some (strOfNums (xs ++ leb n))) (fun k => ?_) (Ev.now _)
      rw [leb_lt h] at hx ⊢
      simp only [List.length_cons, List.length_nil] at hx
      rw [modcertref02_unsigned.l0, if_neg (by omega), if_pos (by omega), show ((n : Int) % 256) = (n : Int) by omega]
    · rw [leb_ge h] at hx ⊢
      simp only [List.length_cons] at hx
      refine Ev.congr (f := fun k => modcertref02_unsigned.l0 k ((n / 128 : Nat) : Int) (xs ++ [((n % 128 + 128 : Nat) : Int)])) (fun k => ?_) ?_
      · rw [modcertref02_unsigned.l0, if_pos (by omega), if_pos (by omega), Int.tmod_eq_emod_of_nonneg (by omega), Int.tdiv_eq_ediv_of_nonneg (by omega), IntWalk.u64_in _ (by omega), show ((n : Int) / 128) = ((n / 128 : Nat) : Int) by omega, show (((n : Int) % 128 + 128) % 256) = ((n % 128 + 128 : Nat) : Int) by omega]
      · have := ih (n / 128) (by omega) (xs ++ [((n % 128 + 128 : Nat) : Int)]) (by omega) (by simp; omega)
        rwa [List.append_assoc] at this
theorem unsigned_rev (n : Nat) (h : n < 18446744073709551616) : Ev (fun k => modcertref02_unsigned.f k (n : Int)) (encU n) := by
  have := unsigned_rl n [] h (by have := leb_len10 h; simp; omega)
  simpa [modcertref02_unsigned.f, encU] using this

/-- Uint -/
def uintS (n : Int) : ByteArray × Int := if n < 0 then (⟨#[]⟩, 2) else (encU n.toNat, 0)
theorem Uint_ev (n : Int) (h1 : n ≤ 9223372036854775807) : Ev (fun k => codec_Uint.f k n) (uintS n) := by
  unfold codec_Uint.f uintS
  by_cases h : n < 0
  · simp only [if_pos h]; exact Ev.now _
  · simp only [if_neg h]
    obtain ⟨m, rfl⟩ := Int.eq_ofNat_of_zero_le (Int.not_lt.1 h)
    rw [IntWalk.u64_in _ (by omega), Int.toNat_natCast]
    exact Ev.bind (f := fun _ t => some (t, 0)) (unsigned_ev m (by omega)) (Ev.now _)
theorem Uint_rev (n : Int) (h1 : n ≤ 9223372036854775807) : Ev (fun k => modcertref02_Uint.f k n) (uintS n) := by
  unfold modcertref02_Uint.f uintS
  by_cases h : n < 0
  · simp only [if_pos h]; exact Ev.now _
  · simp only [if_neg h]
    obtain ⟨m, rfl⟩ := Int.eq_ofNat_of_zero_le (Int.not_lt.1 h)
    rw [IntWalk.u64_in _ (by omega), Int.toNat_natCast]
    exact Ev.bind (f := fun _ t => some (t, 0)) (unsigned_rev m (by omega)) (Ev.now _)
/-- Int -/
theorem Int_ev (n : Int) (h0 : -9223372036854775808 ≤ n) (h1 : n ≤ 9223372036854775807) : Ev (fun k => codec_Int.f k n) (encU (zig n)) := by
  unfold codec_Int.f
  have hz := zig_lt h0 h1
  by_cases h : n < 0
  · simp only [if_pos h]
    rw [xor_m1 n h0 h1, IntWalk.u64_in (-n - 1) (by omega), IntWalk.u64_in ((-n - 1) * 2) (by omega)]
    obtain ⟨m, hm⟩ := Int.eq_ofNat_of_zero_le (show 0 ≤ -n - 1 by omega)
    rw [show (-n - 1) * 2 = ((2 * m : Nat) : Int) by omega, or_one m (by omega)]
    have : zig n = 2 * m + 1 := by unfold zig; rw [if_pos h]; omega
    rw [this] at hz ⊢
    exact Ev.bind (f := fun _ t => some t) (unsigned_ev _ hz) (Ev.now _)
  · simp only [if_neg h]
    rw [IntWalk.u64_in n (by omega), IntWalk.u64_in (n * 2) (by omega)]
    have : n * 2 = ((zig n : Nat) : Int) := by unfold zig; rw [if_neg h]; omega
    rw [this]
    exact Ev.bind (f := fun _ t => some t) (unsigned_ev _ hz) (Ev.now _)
theorem Int_rev (n : Int) (h0 : -9223372036854775808 ≤ n) (h1 : n ≤ 9223372036854775807) : Ev (fun k => modcertref02_Int.f k n) (encU (zig n)) := by
  unfold modcertref02_Int.f
  have hz := zig_lt h0 h1
  by_cases h : n < 0
  · simp only [if_neg (show ¬ n ≥ 0 by omega)]
    rw [IntWalk.wrap64_in (n + 1) (by omega), IntWalk.wrap64_in (-(n + 1)) (by omega), IntWalk.u64_in (-(n + 1)) (by omega), IntWalk.u64_in (2 * -(n + 1)) (by omega), IntWalk.u64_in (2 * -(n + 1) + 1) (by omega)]
    have : 2 * -(n + 1) + 1 = ((zig n : Nat) : Int) := by unfold zig; rw [if_pos h]; omega
    rw [this]
    exact Ev.bind (f := fun _ t => some t) (unsigned_rev _ hz) (Ev.now _)
  · simp only [if_pos (show n ≥ 0 by omega)]
    rw [IntWalk.u64_in n (by omega), IntWalk.u64_in (2 * n) (by omega)]
    have : 2 * n = ((zig n : Nat) : Int) := by unfold zig; rw [if_neg h]; omega
    rw [this]
    exact Ev.bind (f := fun _ t => some t) (unsigned_rev _ hz) (Ev.now _)
/-- Text -/
def textS (s : ByteArray) : ByteArray := encU s.size ++ s
theorem textS_size (s : ByteArray) (h : s.size < 18446744073709551616) : (textS s).size ≤ s.size + 10 := by
  have := encU_size10 h
  unfold textS; rw [ByteArray.size_append]; omega
theorem Text_ev (s : ByteArray) (h : s.size ≤ 140737488355328) : Ev (fun k => codec_Text.f k s) (textS s) := by
  have h10 := encU_size10 (n := s.size) (by omega)
  unfold codec_Text.f
  refine Ev.bind (f := fun _ t => if t.size + s.size ≤ 9223372036854775807 then some (t ++ s) else none) (unsigned_ev s.size (by omega)) ?_
  exact Ev.congr (f := fun _ => some (textS s)) (fun k => by rw [if_pos (by omega)]; rfl) (Ev.now _)
theorem Text_rev (s : ByteArray) (h : s.size ≤ 140737488355328) : Ev (fun k => modcertref02_Text.f k s) (textS s) := by
  have h10 := encU_size10 (n := s.size) (by omega)
  unfold modcertref02_Text.f
  refine Ev.bind (f := fun _ t => if t.size + s.size ≤ 9223372036854775807 then some (t ++ s) else none) (unsigned_rev s.size (by omega)) ?_
  exact Ev.congr (f := fun _ => some (textS s)) (fun k => by rw [if_pos (by omega)]; rfl) (Ev.now _)
/-- Texts -/
def catS : List ByteArray → ByteArray → ByteArray
  | [], b => b
  | s :: l, b => catS l (b ++ textS s)
def textsS (l : List ByteArray) : ByteArray := catS l (encU l.length)
/-- how many bytes a list takes at the most -/
def room : List ByteArray → Nat
  | [] => 0
  | s :: l => s.size + 10 + room l
theorem Texts_l : ∀ (l : List ByteArray) (b : ByteArray), b.size + room l < 140737488355328 → Ev (fun k => codec_Texts.l0 k l b) (catS l b)
  | [], b, _ => Ev.now _
  | s :: l, b, h => by
    rw [room] at h
    have hs := textS_size s (by omega)
    refine Ev.bind (f := fun k t => if b.size + t.size < 140737488355328 then codec_Texts.l0 k l (b ++ t) else none) (Text_ev s (by omega)) ?_
    refine Ev.congr (f := fun k => codec_Texts.l0 k l (b ++ textS s)) (fun k => by rw [if_pos (by omega)]) ?_
    exact Texts_l l _ (by rw [ByteArray.size_append]; omega)
theorem room_length : ∀ l : List ByteArray, 10 * l.length ≤ room l
  | [] => by simp [room]
  | s :: l => by have := room_length l; simp [room]; omega
theorem Texts_ev (l : List ByteArray) (h : room l + 10 < 140737488355328) : Ev (fun k => codec_Texts.f k l) (textsS l) := by
  have hl := room_length l
  have h10 := encU_size10 (n := l.length) (by omega)
  unfold codec_Texts.f
  refine Ev.bind (f := fun k t => if t.size < 140737488355328 then codec_Texts.l0 k l t else none) (unsigned_ev l.length (by omega)) ?_
  exact Ev.congr (f := fun k => codec_Texts.l0 k l (encU l.length)) (fun k => by rw [if_pos (by omega)]) (Texts_l l _ (by omega))
theorem rdOf_at (l : List ByteArray) (j : Nat) (h : j < l.length) : rdOf ByteArray.empty l (j : Int) = l[j] := by
  simp [rdOf, List.getD_eq_getElem?_getD, List.getElem?_eq_getElem h]
theorem Texts_rl (l : List ByteArray) : ∀ (d j : Nat) (b : ByteArray), d + j = l.length → b.size + room (l.drop j) < 140737488355328 → l.length < 9223372036854775807 →
    Ev (fun k => modcertref02_Texts.l0 k l b (j : Int)) (catS (l.drop j) b)
  | 0, j, b, hd, hb, hl => by
    refine Ev.step (fun k => rfl) ?_
    rw [List.drop_of_length_le (by omega)]
    exact Ev.congr (f := fun _ => some b) (fun k => by rw [modcertref02_Texts.l0, if_neg (by omega)]) (Ev.now _)
  | d + 1, j, b, hd, hb, hl => by
    refine Ev.step (fun k => rfl) ?_
    have hlt : j < l.length := by omega
    rw [List.drop_eq_getElem_cons hlt] at hb ⊢
    rw [room] at hb
    have hs := textS_size l[j] (by omega)
    refine Ev.congr (f := fun k => (modcertref02_Text.f k l[j]).bind fun t => if b.size + t.size ≤ 9223372036854775807 then modcertref02_Texts.l0 k l (b ++ t) ((j + 1 : Nat) : Int) else none) (fun k => ?_) ?_
    · rw [modcertref02_Texts.l0, if_pos (by omega), if_pos (by omega), rdOf_at l j hlt, IntWalk.wrap64_in _ (by omega)]
      rfl
    · refine Ev.bind (f := fun k t => if b.size + t.size ≤ 9223372036854775807 then modcertref02_Texts.l0 k l (b ++ t) ((j + 1 : Nat) : Int) else none) (Text_rev l[j] (by omega)) ?_
      refine Ev.congr (f := fun k => modcertref02_Texts.l0 k l (b ++ textS l[j]) ((j + 1 : Nat) : Int)) (fun k => by rw [if_pos (by omega)]) ?_
      exact Texts_rl l d (j + 1) _ (by omega) (by rw [ByteArray.size_append]; omega) hl
theorem Texts_rev (l : List ByteArray) (h : room l + 10 < 140737488355328) : Ev (fun k => modcertref02_Texts.f k l) (textsS l) := by
  have hl := room_length l
  have h10 := encU_size10 (n := l.length) (by omega)
  unfold modcertref02_Texts.f
  rw [IntWalk.u64_in _ (by omega)]
  refine Ev.bind (f := fun k t => modcertref02_Texts.l0 k l t 0) (unsigned_rev l.length (by omega)) ?_
  exact Texts_rl l l.length 0 _ (by omega) (by rw [List.drop_zero]; omega) (by omega)

/-- Few -/
def sizes : List ByteArray → Nat
  | [] => 0
  | s :: l => s.size + sizes l
theorem Few_l (l : List ByteArray) (m : Int) : ∀ (d j : Nat) (a : Int), d + j = l.length → 0 ≤ a → a + sizes (l.drop j) ≤ 9223372036854775807 → l.length < 9223372036854775807 →
    Ev (fun k => modcertref01_Few.l0 k l m a (j : Int)) (decide (a + sizes (l.drop j) ≤ m))
  | 0, j, a, hd, ha, hb, hl => by
    refine Ev.step (fun k => rfl) ?_
    rw [List.drop_of_length_le (by omega)]
    exact Ev.congr (f := fun _ => some (decide (a + ((0 : Nat) : Int) ≤ m))) (fun k => by rw [modcertref01_Few.l0, if_neg (by omega)]; simp) (Ev.now _)
  | d + 1, j, a, hd, ha, hb, hl => by
    refine Ev.step (fun k => rfl) ?_
    have hlt : j < l.length := by omega
    rw [List.drop_eq_getElem_cons hlt] at hb ⊢
    rw [sizes] at hb ⊢
    refine Ev.congr (f := fun k => modcertref01_Few.l0 k l m (a + (l[j].size : Int)) ((j + 1 : Nat) : Int)) (fun k => ?_) ?_
    · rw [modcertref01_Few.l0, if_pos (by omega), if_pos (by omega), rdOf_at l j hlt, IntWalk.wrap64_in (a + _) (by omega), IntWalk.wrap64_in ((j : Int) + 1) (by omega)]
      rfl
    · have := Few_l l m d (j + 1) (a + (l[j].size : Int)) (by omega) (by omega) (by omega) hl
      rw [show a + ((l[j].size + sizes (l.drop (j + 1)) : Nat) : Int) = a + (l[j].size : Int) + ((sizes (l.drop (j + 1)) : Nat) : Int) by omega]
      exact this
theorem Few_ev (l : List ByteArray) (m : Int) (h : l.length + sizes l < 9223372036854775807) : Ev (fun k => modcertref01_Few.f k l m) (decide (((l.length + sizes l : Nat) : Int) ≤ m)) := by
  have := Few_l l m l.length 0 (l.length : Int) (by omega) (by omega) (by rw [List.drop_zero]; omega) (by omega)
  rw [List.drop_zero] at this
  rw [show ((l.length + sizes l : Nat) : Int) = (l.length : Int) + ((sizes l : Nat) : Int) by omega]
  exact this
theorem room_sizes : ∀ l : List ByteArray, room l = sizes l + 10 * l.length
  | [] => rfl
  | s :: l => by have := room_sizes l; simp [room, sizes]; omega
theorem awake02 : Ev (fun k => modcertlaw02_awake.f k) true := Ev.of (fun k => modcertlaw02_awake.mono k) (k := 20) (by decide +kernel)
end Go.Proofs.Ytldkkboeaadbeaa.Pr
