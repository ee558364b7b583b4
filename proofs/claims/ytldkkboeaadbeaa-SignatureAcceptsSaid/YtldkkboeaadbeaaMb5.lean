/- ReadsS, SgF -/
import Derived.Test.YtldkkboeaadbeaaMb1
import Derived.Test.YtldkkboeaadbeaaMb2
import Derived.Test.YtldkkboeaadbeaaMb3
import Derived.Test.YtldkkboeaadbeaaMb4
import Derived.Laws.BitsAllLaws
import Derived.Laws.Bits64
import Derived.IntWalk
import Derived.Test.YtldkkboeaadbeaaMb0
section
/- What the codec's readers read, in the program and in the reference. -/
set_option linter.unusedVariables false
set_option linter.unusedSimpArgs false
namespace Go.Proofs.Ytldkkboeaadbeaa.Pr
open Go.RowKit Go.Proofs.YtldkkboeaadbeaaW.PrintWords Go.Proofs.YtldkkboeaadbeaaW.PrintLast Go.Proofs.YtldkkboeaadbeaaW.PrintMore Go.Proofs.Ytldkkboeaadbeaa.Pl

theorem drop_bt (s : ByteArray) (p : Nat) (h : p < s.size) : (bytesOf s).drop p = bt s (p : Int) :: (bytesOf s).drop (p + 1) := by
  have h' : p < (bytesOf s).length := by rw [bytesOf_length]; exact h
  rw [List.drop_eq_getElem_cons h']
  congr 1
  simp [bytesOf, bt, h, ByteArray.getElem_eq_getElem_data]
theorem and127 (b : Int) (h0 : 0 ≤ b) (h1 : b ≤ 255) : Go.bits .and .u8 b 127 = b % 128 := by
  rw [Go.u8_and b 127 h0 (by omega) (by omega) (by omega), show (127 : Int).toNat = 127 from rfl, Go.nat_mask7]
  omega
theorem pow7 (i : Nat) (h : i ≤ 9) : 2 ^ (7 * i) * 2 ^ (63 - 7 * i) = 9223372036854775808 := by
  rw [← Nat.pow_add, show 7 * i + (63 - 7 * i) = 63 by omega]
theorem pow7s (i : Nat) : 2 ^ (7 * (i + 1)) = 128 * 2 ^ (7 * i) := by
  rw [show 7 * (i + 1) = 7 + 7 * i by omega, Nat.pow_add]
theorem pow7le (i : Nat) (h : i ≤ 9) : 2 ^ (7 * i) ≤ 9223372036854775808 := Nat.pow_le_pow_right (n := 2) (by omega) (show 7 * i ≤ 63 by omega)
theorem pow7le8 (i : Nat) (h : i ≤ 8) : 2 ^ (7 * i) ≤ 72057594037927936 := Nat.pow_le_pow_right (n := 2) (by omega) (show 7 * i ≤ 56 by omega)
theorem shl_7 (c i : Nat) (hi : i ≤ 9) (hc : c < 128) (h9 : i = 9 → c ≤ 1) : c * 2 ^ (7 * i) ≤ 127 * 72057594037927936 + 2147483648 ∨ c * 2 ^ (7 * i) ≤ 9223372036854775808 := by
  rcases Nat.lt_or_ge i 9 with h | h
  · left
    have := pow7le8 i (by omega)
    have : c * 2 ^ (7 * i) ≤ 127 * 72057594037927936 := Nat.mul_le_mul (by omega) this
    omega
  · right
    obtain rfl : i = 9 := by omega
    have := h9 rfl
    have : c * 2 ^ (7 * 9) ≤ 1 * 2 ^ (7 * 9) := Nat.mul_le_mul_right _ this
    omega
theorem or_shl (n c i : Nat) (hi : i ≤ 9) (hn : n < 2 ^ (7 * i)) (hc : c < 128) (h9 : i = 9 → c ≤ 1) :
    Go.bits .or .u64 (n : Int) (shl .u64 (c : Int) ((7 * i : Nat) : Int)) = ((n + c * 2 ^ (7 * i) : Nat) : Int) := by
  have hb := shl_7 c i hi hc h9
  have hp := pow7le i hi
  have e : shl .u64 (c : Int) ((7 * i : Nat) : Int) = ((c * 2 ^ (7 * i) : Nat) : Int) := by
    unfold shl
    rw [Int.toNat_natCast, show IntKind.u64.bits = 64 from rfl, Nat.min_eq_left (by omega)]
    rw [show ((c : Int) * 2 ^ (7 * i)) = ((c * 2 ^ (7 * i) : Nat) : Int) by push_cast; rfl]
    rw [IntWalk.u64_in _ (by omega)]
  rw [e, Go.u64_or_nat _ _ (by omega) (by omega), Nat.or_comm, Go.nat_join (7 * i) _ _ (Nat.mul_mod_left _ _) hn, Nat.add_comm]
theorem scan_l (s : ByteArray) (a e : Int) (hs : s.size < 4611686018427387904) : ∀ (d i p n : Nat), d + i = 9 → n < 2 ^ (7 * i) → p ≤ s.size →
    ∃ r, Ev (fun k => codec_Reader_scan.l0 k (p : Int) (n : Int) ((7 * i : Nat) : Int) s a e) r ∧ r.2.2.2 = (s, a, e) ∧
      (un i ((bytesOf s).drop p) = none → r.2.2.1 = false) ∧
      (∀ v rest, un i ((bytesOf s).drop p) = some (v, rest) → r = (((n + v * 2 ^ (7 * i) : Nat) : Int), ((p + (leb v).length : Nat) : Int), true, s, a, e)) := by
  intro d
  induction d with
  | zero =>
    intro i p n hd hn hp
    obtain rfl : i = 9 := by omega
    by_cases hlt : p < s.size
    · have hr := bt_range s (p : Int)
      rw [drop_bt s p hlt]
      generalize hb : bt s (p : Int) = b at hr
      by_cases h1 : 1 < b
      · refine ⟨(0, 0, false, s, a, e), ?_, rfl, fun _ => rfl, fun v rest h => ?_⟩
        · refine Ev.step (f := fun k => codec_Reader_scan.j1 k (p : Int) n ((7 * 9 : Nat) : Int) true s a e) (fun k => by rw [codec_Reader_scan.l0, if_pos (by omega)]; rfl) ?_
          refine Ev.step (f := fun k => codec_Reader_scan.j2 k (wrap64 ((p : Int) + 1)) n ((7 * 9 : Nat) : Int) b true s a e) (fun k => by rw [codec_Reader_scan.j1, if_pos rfl, if_pos (by omega), if_pos (by omega), if_pos (by omega), hb, decide_eq_true h1]) ?_
          exact Ev.step (f := fun _ => some (0, 0, false, s, a, e)) (fun k => by rw [codec_Reader_scan.j2, if_pos rfl]) (Ev.now _)
        · rw [un, if_pos ⟨rfl, h1⟩] at h; cases h
      · have hw : wrap64 ((p : Int) + 1) = ((p + 1 : Nat) : Int) := by rw [IntWalk.wrap64_in _ (by omega)]; rfl
        obtain ⟨c, rfl⟩ := Int.eq_ofNat_of_zero_le hr.1
        have h128 : IntKind.u64.wrap (Go.bits .and .u8 (c : Int) 127) = (c : Int) := by rw [and127 _ hr.1 hr.2, IntWalk.u64_in _ (by omega)]; omega
        have key : ∀ (q : Bool), Ev (fun k => codec_Reader_scan.j2 k ((p + 1 : Nat) : Int) (n : Int) ((7 * 9 : Nat) : Int) (c : Int) false s a e) (((n + c * 2 ^ (7 * 9) : Nat) : Int), ((p + 1 : Nat) : Int), decide (0 < c), s, a, e) := by
          intro _
          refine Ev.step (f := fun _ => some (((n + c * 2 ^ (7 * 9) : Nat) : Int), ((p + 1 : Nat) : Int), decide (0 < c), s, a, e)) (fun k => ?_) (Ev.now _)
          rw [codec_Reader_scan.j2, if_neg (by simp), if_pos (by omega), if_pos (by omega), h128, or_shl n c 9 (by omega) hn (by omega) (fun _ => by omega)]
          by_cases h0 : 0 < c
          · rw [if_pos (by omega), decide_eq_true h0]
          · rw [if_neg (by omega), decide_eq_false h0]; rfl
        refine ⟨(((n + c * 2 ^ (7 * 9) : Nat) : Int), ((p + 1 : Nat) : Int), decide (0 < c), s, a, e), ?_, rfl, fun h => ?_, fun v rest h => ?_⟩
        · refine Ev.step (f := fun k => codec_Reader_scan.j1 k (p : Int) n ((7 * 9 : Nat) : Int) true s a e) (fun k => by rw [codec_Reader_scan.l0, if_pos (by omega)]; rfl) ?_
          refine Ev.step (f := fun k => codec_Reader_scan.j2 k ((p + 1 : Nat) : Int) n ((7 * 9 : Nat) : Int) (c : Int) false s a e) (fun k => by rw [codec_Reader_scan.j1, if_pos rfl, if_pos (by omega), if_pos (by omega), if_pos (by omega), hb, hw, decide_eq_false (by omega)]) (key true)
        · rw [un, if_neg (by omega), if_pos (by omega)] at h
          by_cases h0 : 0 < (c : Int) ∨ 9 = 0
          · rw [if_pos h0] at h; cases h
          · exact decide_eq_false (by omega)
        · rw [un, if_neg (by omega), if_pos (by omega)] at h
          by_cases h0 : 0 < (c : Int) ∨ 9 = 0
          · rw [if_pos h0, Int.toNat_natCast] at h
            simp only [Option.some.injEq, Prod.mk.injEq] at h
            obtain ⟨rfl, rfl⟩ := h
            rw [leb_lt (by omega), decide_eq_true (by omega)]
            rfl
          · rw [if_neg h0] at h; cases h
    · rw [List.drop_of_length_le (by rw [bytesOf_length]; omega)]
      refine ⟨(0, 0, false, s, a, e), ?_, rfl, fun _ => rfl, fun v rest h => by cases h⟩
      refine Ev.step (f := fun k => codec_Reader_scan.j1 k (p : Int) n ((7 * 9 : Nat) : Int) false s a e) (fun k => by rw [codec_Reader_scan.l0, if_neg (by omega)]) ?_
      exact Ev.step (f := fun _ => some (0, 0, false, s, a, e)) (fun k => by rw [codec_Reader_scan.j1, if_neg (by simp)]) (Ev.now _)
  | succ d ih =>
    intro i p n hd hn hp
    by_cases hlt : p < s.size
    · have hr := bt_range s (p : Int)
      rw [drop_bt s p hlt]
      generalize hb : bt s (p : Int) = b at hr
      obtain ⟨c, rfl⟩ := Int.eq_ofNat_of_zero_le hr.1
      have hw : wrap64 ((p : Int) + 1) = ((p + 1 : Nat) : Int) := by rw [IntWalk.wrap64_in _ (by omega)]; rfl
      have h128 : IntKind.u64.wrap (Go.bits .and .u8 (c : Int) 127) = ((c % 128 : Nat) : Int) := by rw [and127 _ hr.1 hr.2, IntWalk.u64_in _ (by omega)]; omega
      have toJ2 : ∀ r, Ev (fun k => codec_Reader_scan.j2 k ((p + 1 : Nat) : Int) n ((7 * i : Nat) : Int) (c : Int) false s a e) r → Ev (fun k => codec_Reader_scan.l0 k (p : Int) (n : Int) ((7 * i : Nat) : Int) s a e) r := by
        intro r hj
        refine Ev.step (f := fun k => codec_Reader_scan.j1 k (p : Int) n ((7 * i : Nat) : Int) true s a e) (fun k => by rw [codec_Reader_scan.l0, if_pos (by omega), decide_eq_true (by omega)]) ?_
        exact Ev.step (f := fun k => codec_Reader_scan.j2 k ((p + 1 : Nat) : Int) n ((7 * i : Nat) : Int) (c : Int) false s a e) (fun k => by rw [codec_Reader_scan.j1, if_pos rfl, if_pos (by omega), if_pos (by omega), if_neg (by omega), hb, hw]) hj
      have hor := or_shl n (c % 128) i (by omega) hn (by omega) (fun h => by omega)
      by_cases hsm : c < 128
      · have hcm : c % 128 = c := Nat.mod_eq_of_lt hsm
        rw [hcm] at hor h128
        refine ⟨(((n + c * 2 ^ (7 * i) : Nat) : Int), ((p + 1 : Nat) : Int), decide (0 < c ∨ i = 0), s, a, e), toJ2 _ ?_, rfl, fun h => ?_, fun v rest h => ?_⟩
        · refine Ev.step (f := fun _ => some (((n + c * 2 ^ (7 * i) : Nat) : Int), ((p + 1 : Nat) : Int), decide (0 < c ∨ i = 0), s, a, e)) (fun k => ?_) (Ev.now _)
          rw [codec_Reader_scan.j2, if_neg (by simp), if_pos (by omega), if_pos (by omega), h128, hor]
          by_cases h0 : 0 < c
          · rw [if_pos (by omega), decide_eq_true (.inl h0)]
          · rw [if_neg (by omega)]
            have : (((7 * i : Nat) : Int) == 0) = decide (0 < c ∨ i = 0) := by
              rw [Bool.eq_iff_iff]; simp; omega
            rw [this]
        · rw [un, if_neg (by omega), if_pos (by omega)] at h
          by_cases h0 : 0 < (c : Int) ∨ i = 0
          · rw [if_pos h0] at h; cases h
          · exact decide_eq_false (by omega)
        · rw [un, if_neg (by omega), if_pos (by omega)] at h
          by_cases h0 : 0 < (c : Int) ∨ i = 0
          · rw [if_pos h0, Int.toNat_natCast] at h
            simp only [Option.some.injEq, Prod.mk.injEq] at h
            obtain ⟨rfl, rfl⟩ := h
            rw [leb_lt hsm, decide_eq_true (by omega)]
            rfl
          · rw [if_neg h0] at h; cases h
      · have hn' : n + c % 128 * 2 ^ (7 * i) < 2 ^ (7 * (i + 1)) := by
          rw [pow7s]
          have : c % 128 * 2 ^ (7 * i) ≤ 127 * 2 ^ (7 * i) := Nat.mul_le_mul_right _ (by omega)
          omega
        obtain ⟨r, h1, h2, h3, h4⟩ := ih (i + 1) (p + 1) (n + c % 128 * 2 ^ (7 * i)) (by omega) hn' (by omega)
        have hun : un i ((c : Int) :: (bytesOf s).drop (p + 1)) = (un (i + 1) ((bytesOf s).drop (p + 1))).map fun p => (((c : Int) - 128).toNat + 128 * p.1, p.2) := by
          rw [un, if_neg (by omega), if_neg (by omega), if_neg (by omega)]
        refine ⟨r, toJ2 _ ?_, h2, fun h => ?_, fun v rest h => ?_⟩
        · refine Ev.step (f := fun k => codec_Reader_scan.l0 k ((p + 1 : Nat) : Int) ((n + c % 128 * 2 ^ (7 * i) : Nat) : Int) ((7 * (i + 1) : Nat) : Int) s a e) (fun k => ?_) h1
          rw [codec_Reader_scan.j2, if_neg (by simp), if_pos (by omega), if_neg (by omega), h128, hor, IntWalk.wrap64_in _ (by omega)]
          rfl
        · rw [hun] at h
          exact h3 (Option.map_eq_none_iff.1 h)
        · rw [hun] at h
          obtain ⟨⟨v', r'⟩, g1, g2⟩ := Option.map_eq_some_iff.1 h
          simp only [Prod.mk.injEq] at g2
          obtain ⟨rfl, rfl⟩ := g2
          have hpos := (un_some _ _ _ _ (by omega) (fun x hx => bytesOf_range s x (List.mem_of_mem_drop hx)) g1).2.1
          have e1 : ((c : Int) - 128).toNat = c % 128 := by omega
          have e2 : (c % 128 + 128 * v') / 128 = v' := by omega
          rw [h4 _ _ g1, e1, leb_ge (n := c % 128 + 128 * v') (by omega), e2, pow7s, List.length_cons]
          have e3 : n + c % 128 * 2 ^ (7 * i) + v' * (128 * 2 ^ (7 * i)) = n + (c % 128 + 128 * v') * 2 ^ (7 * i) := by
            rw [Nat.add_mul, Nat.add_assoc]
            congr 2
            rw [← Nat.mul_assoc, Nat.mul_comm v' 128]
          rw [e3]
          congr 2
          omega
    · rw [List.drop_of_length_le (by rw [bytesOf_length]; omega)]
      refine ⟨(0, 0, false, s, a, e), ?_, rfl, fun _ => rfl, fun v rest h => by cases h⟩
      refine Ev.step (f := fun k => codec_Reader_scan.j1 k (p : Int) n ((7 * i : Nat) : Int) false s a e) (fun k => by rw [codec_Reader_scan.l0, if_neg (by omega)]) ?_
      exact Ev.step (f := fun _ => some (0, 0, false, s, a, e)) (fun k => by rw [codec_Reader_scan.j1, if_neg (by simp)]) (Ev.now _)
/-- the unsigned number at an offset, and the offset behind it -/
def rdU (s : ByteArray) (p : Nat) : Option (Nat × Nat) := (un 0 ((bytesOf s).drop p)).map fun q => (q.1, p + (leb q.1).length)
theorem rdU_le {s : ByteArray} {p v q : Nat} (hp : p ≤ s.size) (h : rdU s p = some (v, q)) : p < q ∧ q ≤ s.size ∧ v < 18446744073709551616 ∧ (bytesOf s).drop p = leb v ++ (bytesOf s).drop q := by
  obtain ⟨⟨v', r'⟩, g1, g2⟩ := Option.map_eq_some_iff.1 h
  simp only [Prod.mk.injEq] at g2
  obtain ⟨rfl, rfl⟩ := g2
  obtain ⟨e1, _, e3⟩ := un_some _ _ _ _ (by omega) (fun x hx => bytesOf_range s x (List.mem_of_mem_drop hx)) g1
  have hl := congrArg List.length e1
  rw [List.length_drop, bytesOf_length, List.length_append] at hl
  have := leb_pos v'
  refine ⟨by omega, by omega, by simpa using e3, ?_⟩
  rw [← List.drop_drop, e1]
  simp
/-- scan -/
theorem scan_ev (s : ByteArray) (a e : Int) (hs : s.size < 4611686018427387904) (p : Nat) (hp : p ≤ s.size) :
    ∃ r, Ev (fun k => codec_Reader_scan.f k s a e (p : Int)) r ∧ r.2.2.2 = (s, a, e) ∧ (rdU s p = none → r.2.2.1 = false) ∧ (∀ v q, rdU s p = some (v, q) → r = ((v : Int), (q : Int), true, s, a, e)) := by
  obtain ⟨r, h1, h2, h3, h4⟩ := scan_l s a e hs 9 0 p 0 (by omega) (by simp) hp
  refine ⟨r, h1, h2, fun h => h3 (Option.map_eq_none_iff.1 h), fun v q h => ?_⟩
  obtain ⟨⟨v', r'⟩, g1, g2⟩ := Option.map_eq_some_iff.1 h
  simp only [Prod.mk.injEq] at g2
  obtain ⟨rfl, rfl⟩ := g2
  rw [h4 _ _ g1]
  simp
/-- the number below 2^63 at an offset; the string; the strings -/
def rdN (s : ByteArray) (p : Nat) : Option (Nat × Nat) := (rdU s p).bind fun q => if q.1 < 9223372036854775808 then some q else none
def rdT (s : ByteArray) (p : Nat) : Option (ByteArray × Nat) := (rdN s p).bind fun q => if q.2 + q.1 ≤ s.size then some (s.extract q.2 (q.2 + q.1), q.2 + q.1) else none
def rdTn (s : ByteArray) : Nat → Nat → List ByteArray → Option (List ByteArray × Nat)
  | 0, p, l => some (l, p)
  | n + 1, p, l => (rdT s p).bind fun q => rdTn s n q.2 (l ++ [q.1])
def rdTs (s : ByteArray) (p : Nat) : Option (List ByteArray × Nat) := (rdN s p).bind fun q => if q.2 + q.1 ≤ s.size then rdTn s q.1 q.2 [] else none
theorem rdN_le {s : ByteArray} {p v q : Nat} (hp : p ≤ s.size) (h : rdN s p = some (v, q)) : p < q ∧ q ≤ s.size ∧ v < 9223372036854775808 ∧ (bytesOf s).drop p = leb v ++ (bytesOf s).drop q := by
  obtain ⟨⟨v', q'⟩, g1, g2⟩ := Option.bind_eq_some_iff.1 h
  dsimp only at g2
  by_cases hv : v' < 9223372036854775808
  · rw [if_pos hv] at g2
    cases g2
    have := rdU_le hp g1
    exact ⟨this.1, this.2.1, hv, this.2.2.2⟩
  · rw [if_neg hv] at g2; cases g2
theorem drop_extract (s : ByteArray) (p n : Nat) : (bytesOf s).drop p = bytesOf (s.extract p (p + n)) ++ (bytesOf s).drop (p + n) := by
  rw [bytesOf_extract, ← List.drop_drop, List.drop_take, show p + n - p = n by omega, List.take_append_drop]
theorem extract_size (s : ByteArray) (p n : Nat) (h : p + n ≤ s.size) : (s.extract p (p + n)).size = n := by rw [ByteArray.size_extract]; omega
theorem rdT_le {s t : ByteArray} {p q : Nat} (hp : p ≤ s.size) (h : rdT s p = some (t, q)) : p < q ∧ q ≤ s.size ∧ t.size < 9223372036854775808 ∧ (bytesOf s).drop p = txt (bytesOf t) ++ (bytesOf s).drop q := by
  obtain ⟨⟨v', q'⟩, g1, g2⟩ := Option.bind_eq_some_iff.1 h
  dsimp only at g2
  by_cases hv : q' + v' ≤ s.size
  · rw [if_pos hv] at g2
    cases g2
    have := rdN_le hp g1
    have hz := extract_size s q' v' hv
    refine ⟨by omega, by omega, by omega, ?_⟩
    rw [this.2.2.2, txt, bytesOf_length, hz, List.append_assoc, ← drop_extract]
  · rw [if_neg hv] at g2; cases g2
theorem rdTn_le {s : ByteArray} : ∀ (n p : Nat) (l : List ByteArray) (r : List ByteArray) (q : Nat), p ≤ s.size → rdTn s n p l = some (r, q) → p ≤ q ∧ q ≤ s.size ∧ ∃ m, r = l ++ m ∧ m.length = n ∧ (bytesOf s).drop p = (m.map bytesOf).flatMap txt ++ (bytesOf s).drop q
  | 0, p, l, r, q, hp, h => by cases h; exact ⟨by omega, hp, [], by simp, rfl, by simp⟩
  | n + 1, p, l, r, q, hp, h => by
    rw [rdTn] at h
    obtain ⟨⟨t, q'⟩, g1, g2⟩ := Option.bind_eq_some_iff.1 h
    have h1 := rdT_le hp g1
    obtain ⟨h2, h3, m, rfl, hm, h4⟩ := rdTn_le n q' _ r q h1.2.1 g2
    refine ⟨by omega, h3, t :: m, by simp, by simp [hm], ?_⟩
    rw [h1.2.2.2, h4]
    simp
theorem rdTs_le {s : ByteArray} {p q : Nat} {r : List ByteArray} (hp : p ≤ s.size) (h : rdTs s p = some (r, q)) : p < q ∧ q ≤ s.size ∧ r.length < 9223372036854775808 ∧ (bytesOf s).drop p = txts (r.map bytesOf) ++ (bytesOf s).drop q := by
  obtain ⟨⟨v', q'⟩, g1, g2⟩ := Option.bind_eq_some_iff.1 h
  dsimp only at g2
  by_cases hv : q' + v' ≤ s.size
  · rw [if_pos hv] at g2
    have h1 := rdN_le hp g1
    obtain ⟨h2, h3, m, hr, hm, h4⟩ := rdTn_le v' q' _ r q h1.2.1 g2
    rw [List.nil_append] at hr
    subst hr
    refine ⟨by omega, h3, by omega, ?_⟩
    rw [h1.2.2.2, h4, txts, List.length_map, hm, List.append_assoc]
  · rw [if_neg hv] at g2; cases g2
/-- what stands there is read -/
theorem rdU_of {s : ByteArray} {p v : Nat} {r : List Int} (hv : v < 18446744073709551616) (h : (bytesOf s).drop p = leb v ++ r) : rdU s p = some (v, p + (leb v).length) := by
  unfold rdU
  rw [h, un_leb v 0 r (by omega) (by simpa using hv) (.inl rfl)]
  rfl
theorem rdN_of {s : ByteArray} {p v : Nat} {r : List Int} (hv : v < 9223372036854775808) (h : (bytesOf s).drop p = leb v ++ r) : rdN s p = some (v, p + (leb v).length) := by
  unfold rdN
  rw [rdU_of (by omega) h, Option.bind_some, if_pos hv]
theorem drop_size {s : ByteArray} {p : Nat} {a r : List Int} (h : (bytesOf s).drop p = a ++ r) (ha : 0 < a.length) : p + a.length + r.length = s.size ∧ (bytesOf s).drop (p + a.length) = r := by
  have hl := congrArg List.length h
  rw [List.length_drop, bytesOf_length, List.length_append] at hl
  refine ⟨by omega, ?_⟩
  rw [← List.drop_drop, h]
  simp
theorem rdT_of {s t : ByteArray} {p : Nat} {r : List Int} (hv : t.size < 9223372036854775808) (h : (bytesOf s).drop p = txt (bytesOf t) ++ r) : rdT s p = some (t, p + (txt (bytesOf t)).length) := by
  unfold txt at h ⊢
  rw [List.append_assoc, bytesOf_length] at h
  rw [bytesOf_length, List.length_append, bytesOf_length]
  obtain ⟨h1, h2⟩ := drop_size h (leb_pos _)
  rw [List.length_append, bytesOf_length] at h1
  unfold rdT
  rw [rdN_of hv h, Option.bind_some, if_pos (by omega)]
  have e : s.extract (p + (leb t.size).length) (p + (leb t.size).length + t.size) = t := by
    apply bytesOf_inj
    rw [bytesOf_extract, List.drop_take, h2, Nat.add_sub_cancel_left, List.take_left' (bytesOf_length t)]
  rw [e, Nat.add_assoc]
theorem rdTn_of {s : ByteArray} : ∀ (m : List ByteArray) (p : Nat) (l : List ByteArray) (r : List Int), (∀ t ∈ m, t.size < 9223372036854775808) → (bytesOf s).drop p = (m.map bytesOf).flatMap txt ++ r → rdTn s m.length p l = some (l ++ m, p + ((m.map bytesOf).flatMap txt).length)
  | [], p, l, r, _, _ => by simp [rdTn]
  | t :: m, p, l, r, hm, h => by
    rw [List.map_cons, List.flatMap_cons, List.append_assoc] at h
    have h1 := rdT_of (hm t List.mem_cons_self) h
    have hpos : 0 < (txt (bytesOf t)).length := by unfold txt; rw [List.length_append]; have := leb_pos (bytesOf t).length; omega
    have h2 := (drop_size h hpos).2
    rw [List.length_cons, rdTn, h1, Option.bind_some, rdTn_of m _ _ r (fun x hx => hm x (List.mem_cons_of_mem _ hx)) h2]
    simp [Nat.add_assoc]
theorem rdTs_of {s : ByteArray} {m : List ByteArray} {p : Nat} {r : List Int} (hm : ∀ t ∈ m, t.size < 9223372036854775808) (hl : m.length < 9223372036854775808) (h : (bytesOf s).drop p = txts (m.map bytesOf) ++ r) : rdTs s p = some (m, p + (txts (m.map bytesOf)).length) := by
  unfold txts at h ⊢
  rw [List.append_assoc, List.length_map] at h
  rw [List.length_map, List.length_append]
  obtain ⟨h1, h2⟩ := drop_size h (leb_pos _)
  rw [List.length_append] at h1
  have h3 := flat_length (m.map bytesOf)
  rw [List.length_map] at h3
  unfold rdTs
  rw [rdN_of hl h, Option.bind_some, if_pos (by omega), rdTn_of m _ [] r hm h2, List.nil_append, Nat.add_assoc]
theorem Ev.bindE {α β : Type} {g : Nat → Option α} {f : Nat → α → Option β} {a : α} {r : β} (h : Ev g a) (k : ∀ n, f n a = some r) : Ev (fun n => (g n).bind (f n)) r := Ev.bind h ⟨0, fun n _ => k n⟩
theorem size_ev (s : ByteArray) (a e : Int) (hs : s.size < 4611686018427387904) (p : Nat) (hp : p ≤ s.size) :
    ∃ r, Ev (fun k => codec_Reader_size.f k s a e (p : Int)) r ∧ r.2.2.2 = (s, a, e) ∧ (rdN s p = none → r.2.2.1 = false) ∧ (∀ v q, rdN s p = some (v, q) → r = ((v : Int), (q : Int), true, s, a, e)) := by
  obtain ⟨⟨r1, r2, r3, r4⟩, h1, h2, h3, h4⟩ := scan_ev s a e hs p hp
  dsimp only at h2 h3
  subst h2
  unfold codec_Reader_size.f
  cases hU : rdU s p with
  | none =>
    have := h3 hU
    subst this
    refine ⟨(wrap64 r1, r2, false, s, a, e), Ev.bindE h1 (fun k => rfl), rfl, fun _ => rfl, fun v q h => ?_⟩
    rw [rdN, hU] at h; cases h
  | some u =>
    obtain ⟨v, q⟩ := u
    have hle := rdU_le hp hU
    have := h4 v q hU
    cases this
    refine ⟨(wrap64 (v : Int), (q : Int), (((v : Int) / 9223372036854775808) == 0), s, a, e), Ev.bindE h1 (fun k => rfl), rfl, fun h => ?_, fun v' q' h => ?_⟩
    · rw [rdN, hU, Option.bind_some] at h
      by_cases hv : v < 9223372036854775808
      · rw [if_pos hv] at h; cases h
      · simp; omega
    · rw [rdN, hU, Option.bind_some] at h
      by_cases hv : v < 9223372036854775808
      · rw [if_pos hv] at h
        cases h
        have e1 : (((v : Int) / 9223372036854775808) == 0) = true := by simp; omega
        rw [e1, IntWalk.wrap64_in _ (by omega)]
      · rw [if_neg hv] at h; cases h
theorem text_ev (s : ByteArray) (a e : Int) (hs : s.size < 4611686018427387904) (p : Nat) (hp : p ≤ s.size) :
    ∃ r, Ev (fun k => codec_Reader_text.f k s a e (p : Int)) r ∧ r.2.2.2 = (s, a, e) ∧ (rdT s p = none → r.2.2.1 = false) ∧ (∀ v q, rdT s p = some (v, q) → r = (v, (q : Int), true, s, a, e)) := by
  obtain ⟨⟨r1, r2, r3, r4⟩, h1, h2, h3, h4⟩ := size_ev s a e hs p hp
  dsimp only at h2 h3
  subst h2
  unfold codec_Reader_text.f
  cases hU : rdN s p with
  | none =>
    have := h3 hU
    subst this
    refine ⟨(⟨#[]⟩, 0, false, s, a, e), Ev.bindE h1 (fun k => rfl), rfl, fun _ => rfl, fun v q h => ?_⟩
    rw [rdT, hU] at h; cases h
  | some u =>
    obtain ⟨v, q⟩ := u
    have hle := rdN_le hp hU
    have := h4 v q hU
    cases this
    by_cases hv : q + v ≤ s.size
    · refine ⟨(s.extract q (q + v), ((q + v : Nat) : Int), true, s, a, e), Ev.bindE h1 (fun k => ?_), rfl, fun h => ?_, fun v' q' h => ?_⟩
      · dsimp only
        have hw : wrap64 ((q : Int) + (v : Int)) = ((q + v : Nat) : Int) := by rw [IntWalk.wrap64_in _ (by omega)]; rfl
        rw [if_pos rfl, IntWalk.wrap64_in ((s.size : Int) - (q : Int)) (by omega), if_neg (by omega), if_pos (by omega), hw, if_pos (by omega), if_pos (by omega), Int.toNat_natCast, Int.toNat_natCast]
      · rw [rdT, hU, Option.bind_some, if_pos hv] at h; cases h
      · rw [rdT, hU, Option.bind_some, if_pos hv] at h; cases h; rfl
    · refine ⟨(⟨#[]⟩, 0, false, s, a, e), Ev.bindE h1 (fun k => ?_), rfl, fun h => rfl, fun v' q' h => ?_⟩
      · dsimp only
        rw [if_pos rfl, IntWalk.wrap64_in ((s.size : Int) - (q : Int)) (by omega), if_pos (by omega)]
      · rw [rdT, hU, Option.bind_some, if_neg hv] at h; cases h
/-- a result of take -/
def takeR {α : Type} (z : α) (s : ByteArray) (p : Nat) : Option (α × Nat) → α × ByteArray × Int × Int
  | some q => (q.1, s, (q.2 : Int), 0)
  | none => (z, s, (p : Int), 9)
def rdNI (s : ByteArray) (p : Nat) : Option (Int × Nat) := (rdN s p).map fun q => ((q.1 : Int), q.2)
theorem Uint_rd (s : ByteArray) (hs : s.size < 4611686018427387904) (p : Nat) (hp : p ≤ s.size) : Ev (fun k => codec_Reader_Uint.f k s (p : Int) 0) (takeR 0 s p (rdNI s p)) := by
  obtain ⟨⟨r1, r2, r3, r4⟩, h1, h2, h3, h4⟩ := size_ev s (p : Int) 0 hs p hp
  dsimp only at h2 h3
  subst h2
  unfold codec_Reader_Uint.f
  simp only [if_true]
  cases hU : rdN s p with
  | none =>
    have := h3 hU
    subst this
    rw [rdNI, hU]
    exact Ev.bindE h1 (fun k => rfl)
  | some u =>
    obtain ⟨v, q⟩ := u
    cases h4 v q hU
    rw [rdNI, hU]
    exact Ev.bindE h1 (fun k => rfl)
theorem Texts_l0 (s : ByteArray) (a e : Int) (hs : s.size < 4611686018427387904) : ∀ (n p : Nat) (l : List ByteArray), p ≤ s.size →
    Ev (fun k => codec_Reader_Texts.l0 k s a e n (p : Int) l) (match rdTn s n p l with | some q => (q.1, (q.2 : Int), true) | none => ([], 0, false))
  | 0, p, l, hp => Ev.now _
  | n + 1, p, l, hp => by
    obtain ⟨⟨r1, r2, r3, r4⟩, h1, h2, h3, h4⟩ := text_ev s a e hs p hp
    dsimp only at h2 h3
    subst h2
    rw [rdTn]
    cases hU : rdT s p with
    | none =>
      have := h3 hU
      subst this
      exact Ev.bindE h1 (fun k => rfl)
    | some u =>
      obtain ⟨v, q⟩ := u
      cases h4 v q hU
      refine Ev.bind (f := fun k b => if b.2.2.1 = true then codec_Reader_Texts.l0 k s a e n b.2.1 (l ++ [b.1]) else some ([], 0, false)) h1 ?_
      simp only [if_true, Option.bind_some]
      exact Texts_l0 s a e hs n q _ (rdT_le hp hU).2.1
theorem Texts_rd (s : ByteArray) (hs : s.size ≤ 8796093022208) (p : Nat) (hp : p ≤ s.size) : Ev (fun k => codec_Reader_Texts.f k s (p : Int) 0) (takeR [] s p (rdTs s p)) := by
  obtain ⟨⟨r1, r2, r3, r4⟩, h1, h2, h3, h4⟩ := size_ev s (p : Int) 0 (by omega) p hp
  dsimp only at h2 h3
  subst h2
  unfold codec_Reader_Texts.f
  simp only [if_true]
  have hc : Ev (fun k => codec_Reader_Texts.c k s (p : Int) 0 (p : Int)) (match rdTs s p with | some q => (q.1, (q.2 : Int), true) | none => ([], 0, false)) := by
    unfold codec_Reader_Texts.c rdTs
    cases hU : rdN s p with
    | none =>
      have := h3 hU
      subst this
      exact Ev.bindE h1 (fun k => rfl)
    | some u =>
      obtain ⟨v, q⟩ := u
      have hle := rdN_le hp hU
      cases h4 v q hU
      refine Ev.bind (f := fun k b => if b.2.2.1 = true then (if b.1 ≤ wrap64 ((s.size : Int) - b.2.1) then (if 0 ≤ b.1 ∧ b.1 ≤ 8796093022208 then codec_Reader_Texts.l0 k s (p : Int) 0 b.1.toNat b.2.1 [] else none) else some ([], 0, false)) else some ([], 0, false)) h1 ?_
      simp only [if_true, Option.bind_some, IntWalk.wrap64_in ((s.size : Int) - (q : Int)) (by omega), Int.toNat_natCast]
      by_cases hv : q + v ≤ s.size
      · simp only [if_pos hv, if_pos (show (v : Int) ≤ (s.size : Int) - (q : Int) by omega), if_pos (show 0 ≤ (v : Int) ∧ (v : Int) ≤ 8796093022208 by omega)]
        exact Texts_l0 s _ _ (by omega) v q [] hle.2.1
      · simp only [if_neg hv, if_neg (show ¬ (v : Int) ≤ (s.size : Int) - (q : Int) by omega)]
        exact Ev.now _
  cases hT : rdTs s p with
  | none => rw [hT] at hc; exact Ev.bindE hc (fun k => rfl)
  | some u => rw [hT] at hc; exact Ev.bindE hc (fun k => rfl)
end Go.Proofs.Ytldkkboeaadbeaa.Pr
end
section
/- The signature scheme in the program: Decode. -/
set_option linter.unusedVariables false
set_option linter.unusedSimpArgs false
namespace Go.Proofs.Ytldkkboeaadbeaa.Sg
open Go.RowKit Go.Proofs.YtldkkboeaadbeaaW.PrintWords Go.Proofs.YtldkkboeaadbeaaW.PrintLast Go.Proofs.YtldkkboeaadbeaaW.PrintMore
def uintR (s : ByteArray) (p : Nat) (e : Int) : Int × Nat × Int := if e = 0 then (match Pr.rdN s p with | some q => ((q.1 : Int), q.2, 0) | none => (0, p, 9)) else (0, p, e)
def textsR (s : ByteArray) (p : Nat) (e : Int) : List ByteArray × Nat × Int := if e = 0 then (match Pr.rdTs s p with | some q => (q.1, q.2, 0) | none => ([], p, 9)) else ([], p, e)
theorem uintR_le {s : ByteArray} {p : Nat} (e : Int) (hp : p ≤ s.size) : (uintR s p e).2.1 ≤ s.size ∧ 0 ≤ (uintR s p e).1 ∧ (uintR s p e).1 ≤ 9223372036854775807 := by
  unfold uintR
  split
  · cases h : Pr.rdN s p with
    | none => exact ⟨hp, by simp, by simp⟩
    | some q => have := Pr.rdN_le hp h; exact ⟨this.2.1, by simp, by simp; omega⟩
  · exact ⟨hp, by simp, by simp⟩
theorem textsR_le {s : ByteArray} {p : Nat} (e : Int) (hp : p ≤ s.size) : (textsR s p e).2.1 ≤ s.size := by
  unfold textsR
  split
  · cases h : Pr.rdTs s p with
    | none => exact hp
    | some q => exact (Pr.rdTs_le hp h).2.1
  · exact hp
theorem uintR_ev (s : ByteArray) (hs : s.size ≤ 8796093022208) (p : Nat) (hp : p ≤ s.size) (e : Int) : ∃ k, Pr.codec_Reader_Uint.f k s (p : Int) e = some ((uintR s p e).1, s, ((uintR s p e).2.1 : Int), (uintR s p e).2.2) := by
  by_cases h : e = 0
  · subst h
    obtain ⟨k, hk⟩ := Pr.Uint_rd s (by omega) p hp
    refine ⟨k, (hk k (Nat.le_refl _)).trans ?_⟩
    unfold uintR Pr.rdNI
    cases Pr.rdN s p <;> rfl
  · refine ⟨0, ?_⟩
    unfold Pr.codec_Reader_Uint.f uintR
    rw [if_neg h, if_neg h]
theorem textsR_ev (s : ByteArray) (hs : s.size ≤ 8796093022208) (p : Nat) (hp : p ≤ s.size) (e : Int) : ∃ k, Pr.codec_Reader_Texts.f k s (p : Int) e = some ((textsR s p e).1, s, ((textsR s p e).2.1 : Int), (textsR s p e).2.2) := by
  by_cases h : e = 0
  · subst h
    obtain ⟨k, hk⟩ := Pr.Texts_rd s hs p hp
    refine ⟨k, (hk k (Nat.le_refl _)).trans ?_⟩
    unfold textsR
    cases Pr.rdTs s p <;> rfl
  · refine ⟨0, ?_⟩
    unfold Pr.codec_Reader_Texts.f textsR
    rw [if_neg h, if_neg h]
def endR (s : ByteArray) (p : Nat) (e : Int) : Int := if e = 0 then (if p < s.size then 9 else 0) else e
def decA (data : ByteArray) := uintR data 0 0
def decC (data : ByteArray) := textsR data (decA data).2.1 (decA data).2.2
def decP (data : ByteArray) := textsR data (decC data).2.1 (decC data).2.2
def decE (data : ByteArray) : Int := endR data (decP data).2.1 (decP data).2.2
def decS (data : ByteArray) : Option Sig := if decE data = 0 ∧ encB (decA data).1 (decC data).1 (decP data).1 then some ⟨(decA data).1, (decC data).1, (decP data).1⟩ else none
abbrev RIs (w W : World) (g : Nat) (s : ByteArray) (p : Nat) (e : Int) : Prop := Pr.IsS89 w W g s (p : Int) e
/-- what lies still while a reader reads -/
structure RdJ (w W : World) (g : Nat) (s : ByteArray) (p : Nat) (e : Int) : Prop where
  is : RIs w W g s p e
  ext : Ext w W
  box : W.heap[w.heap.size]? = some (.cells #[.int .i64 0, .slice none 0 0, .slice none 0 0] 72 (0, 0))
theorem RdJ.ne {w W : World} {g : Nat} {s : ByteArray} {p : Nat} {e : Int} (h : RdJ w W g s p e) : g ≠ w.heap.size := by
  intro e
  have h1 := h.is.1
  rw [e, h.box] at h1
  injection h1 with h1
  injection h1 with _ h1
  exact absurd h1 (by decide)
theorem RdJ.keep {w W W' : World} {g : Nat} {s : ByteArray} {p p' : Nat} {e e' : Int} (h : RdJ w W g s p e) (hi : RIs w W' g s p' e') (hb : Below w.heap.size w W') (hk : KeepBut W W' g none) : RdJ w W' g s p' e' :=
  ⟨hi, hb, (hk.2 _ (Array.getElem?_eq_some_iff.1 h.box).1 (Ne.symm h.ne) (by simp)).trans h.box⟩
theorem RdJ.call {w W W' : World} {g : Nat} {s : ByteArray} {p : Nat} {e : Int} (h : RdJ w W g s p e) (hb : Below W.heap.size W W') : RdJ w W' g s p e :=
  ⟨⟨Ext.block hb h.is.1, h.is.2⟩, h.ext.call hb, Ext.block hb h.box⟩
/-- a row that was read: it is its own, and not the reader -/
def Row (W : World) (g : Nat) (v : Value) (l : List ByteArray) (b : Nat) : Prop := W.ownsRow b 9 1 v l.length (l.map Value.string) ∧ ∀ k, v.ownBlock = some k → k ≠ g
theorem Row.keep {W W' : World} {g b : Nat} {v : Value} {l : List ByteArray} (h : Row W g v l b) (hk : KeepBut W W' g none) : Row W' g v l b :=
  ⟨own_move h.1 (fun k e => hk.2 k (h.1.lt k e).2 (h.2 k e) (by simp)), h.2⟩
theorem Row.call {W W' : World} {g b : Nat} {v : Value} {l : List ByteArray} (h : Row W g v l b) (hb : Below W.heap.size W W') : Row W' g v l b := ⟨own_below h.1 hb, h.2⟩
theorem uint_step (w W : World) (g : Nat) (s : ByteArray) (p : Nat) (e : Int) (hs : s.size ≤ 8796093022208) (hp : p ≤ s.size) (h : RdJ w W g s p e) :
    Calls Try.prog 24 #[.pointer (some ⟨g, 0, none⟩)] W fun en w' => en = .returned (.int .i64 (uintR s p e).1) ∧ RdJ w w' g s (uintR s p e).2.1 (uintR s p e).2.2 ∧ KeepBut W w' g none := by
  obtain ⟨k, hk⟩ := uintR_ev s hs p hp e
  exact (Pr.codec_Reader_Uint.calls k g s p e _ _ _ _ w W h.is h.ext hk).mono fun en w' ⟨h1, h2, h3, h4⟩ => ⟨h1, h.keep h2 h3 h4, h4⟩
theorem texts_step (w W : World) (g : Nat) (s : ByteArray) (p : Nat) (e : Int) (hs : s.size ≤ 8796093022208) (hp : p ≤ s.size) (h : RdJ w W g s p e) :
    Calls Try.prog 28 #[.pointer (some ⟨g, 0, none⟩)] W fun en w' => ∃ v, en = .returned v ∧ Row w' g v (textsR s p e).1 W.heap.size ∧ RdJ w w' g s (textsR s p e).2.1 (textsR s p e).2.2 ∧ KeepBut W w' g none := by
  obtain ⟨k, hk⟩ := textsR_ev s hs p hp e
  exact (Pr.codec_Reader_Texts.calls k g s p e _ _ _ _ w W h.is h.ext hk).mono fun en w' ⟨v, h1, hr, h2, h3, h4⟩ => ⟨v, h1, ⟨Kd.own_of_R hr, hr.1⟩, h.keep h2 h3 h4, h4⟩
theorem end_step (w W : World) (g : Nat) (s : ByteArray) (p : Nat) (e : Int) (h : RdJ w W g s p e) :
    Calls Try.prog 30 #[.pointer (some ⟨g, 0, none⟩)] W fun en w' => en = .returned (.int .i64 (endR s p e)) ∧ RdJ w w' g s p e ∧ KeepBut W w' g none := by
  have hk : Pr.codec_Reader_End.f s (p : Int) e = some (endR s p e, s, (p : Int), e) := by
    unfold Pr.codec_Reader_End.f endR
    by_cases h0 : e = 0
    · subst h0
      by_cases hp : p < s.size
      · have : (p : Int) < (s.size : Int) := by omega
        simp [hp, this]
      · have : ¬ (p : Int) < (s.size : Int) := by omega
        simp [hp, this]
    · simp [h0]
  exact (Pr.codec_Reader_End.calls g s p e _ _ _ _ w W h.is h.ext hk).mono fun en w' ⟨h1, h2, h3, h4⟩ => ⟨h1, h.keep h2 h3 h4, h4⟩
set_option maxRecDepth 100000 in
set_option maxHeartbeats 4000000 in
theorem Decode_yes (data : ByteArray) (w : World) (s : Sig) (hd : data.size ≤ 8796093022208) (hs : decS data = some s) :
    Calls Try.prog 45 #[.string data] w fun e w' => ∃ A1 c1 A2 c2, e = .returned (.tuple #[sigV s.idx A1 s.ch.length c1 A2 s.path.length c2, .int .i64 0]) ∧ w'.ownsRow w.heap.size 9 1 (.slice A1 s.ch.length c1) s.ch.length (s.ch.map Value.string) ∧ w'.ownsRow w.heap.size 9 1 (.slice A2 s.path.length c2) s.path.length (s.path.map Value.string) ∧ Below w.heap.size w w' := by
  unfold decS at hs
  split at hs
  · rename_i hc
    obtain ⟨he, hb⟩ := hc
    cases hs
    have HBB := Lib.hid hb
    have EEQ := Lib.hid he
    clear hb he
    have HAle := uintR_le (s := data) (p := 0) 0 (Nat.zero_le _)
    have HCle := textsR_le (s := data) (p := (decA data).2.1) (decA data).2.2 HAle.1
    have HA := Lib.hid (show ∀ W g, RdJ w W g data 0 0 → Calls Try.prog 24 #[.pointer (some ⟨g, 0, none⟩)] W fun en w' => en = .returned (.int .i64 (decA data).1) ∧ RdJ w w' g data (decA data).2.1 (decA data).2.2 ∧ KeepBut W w' g none from fun W g h => uint_step w W g data 0 0 hd (Nat.zero_le _) h)
    have HT := Lib.hid (show ∀ W g, RdJ w W g data (decA data).2.1 (decA data).2.2 → Calls Try.prog 28 #[.pointer (some ⟨g, 0, none⟩)] W fun en w' => ∃ v, en = .returned v ∧ Row w' g v (decC data).1 W.heap.size ∧ RdJ w w' g data (decC data).2.1 (decC data).2.2 ∧ KeepBut W w' g none from fun W g h => texts_step w W g data _ _ hd HAle.1 h)
    have HP := Lib.hid (show ∀ W g, RdJ w W g data (decC data).2.1 (decC data).2.2 → Calls Try.prog 28 #[.pointer (some ⟨g, 0, none⟩)] W fun en w' => ∃ v, en = .returned v ∧ Row w' g v (decP data).1 W.heap.size ∧ RdJ w w' g data (decP data).2.1 (decP data).2.2 ∧ KeepBut W w' g none from fun W g h => texts_step w W g data _ _ hd HCle h)
    have HE := Lib.hid (show ∀ W g, RdJ w W g data (decP data).2.1 (decP data).2.2 → Calls Try.prog 30 #[.pointer (some ⟨g, 0, none⟩)] W fun en w' => en = .returned (.int .i64 (decE data)) ∧ RdJ w w' g data (decP data).2.1 (decP data).2.2 ∧ KeepBut W w' g none from fun W g h => end_step w W g data _ _ h)
    have HN := Lib.hid (fun W h => Pr.codec_NewReader.calls data data 0 0 w W h rfl)
    have hale : (decA data).1 ≤ 9223372036854775807 := HAle.2.2
    generalize decE data = ee at HE EEQ
    generalize decA data = a at *
    generalize decC data = c at *
    generalize decP data = p at *
    obtain ⟨ai, ap, ae⟩ := a
    obtain ⟨cl, cp, ce⟩ := c
    obtain ⟨pl, pp, pe⟩ := p
    simp only at HA HT HP HE HBB hale ⊢
    clear HAle HCle
    obtain rfl : ee = 0 := EEQ.out
    go_enter Try.func45, Try.ntmps45
    go_wp2_with (go_at_call 23; refine (HN.out _ ((Below.refl _ _).alloc (Nat.le_refl _) _)).mono ?_; rintro e w1 ⟨g, rfl, hI1, hB1, hb1⟩)
    have J1 : RdJ w w1 g data 0 0 := ⟨hI1, hB1, Ext.block hb1 (heap_alloc_new _ _)⟩
    clear hI1 hB1 hb1
    refine (HA.out w1 g J1).mono ?_
    rintro e w2 ⟨rfl, J2, k2⟩
    go_wp2_with fail
    refine (HT.out w2 g J2).mono ?_
    rintro e w3 ⟨v1, rfl, r1, J3, k3⟩
    obtain ⟨A1, c1, rfl⟩ := own_slice r1.1
    go_wp2_with fail
    refine (HP.out w3 g J3).mono ?_
    rintro e w4 ⟨v2, rfl, r2, J4, k4⟩
    obtain ⟨A2, c2, rfl⟩ := own_slice r2.1
    have q1 := r1.keep k4
    have J4H := Lib.hid J4
    have Q1 := Lib.hid q1
    have Q2 := Lib.hid r2
    have hz := Lib.hid (show w.heap.size < w2.heap.size ∧ w.heap.size < w3.heap.size from ⟨(Array.getElem?_eq_some_iff.1 J2.box).1, (Array.getElem?_eq_some_iff.1 J3.box).1⟩)
    clear J1 J2 J3 J4 k2 k3 k4 q1 r1 r2
    go_wp2_with fail
    have HEN := Encode_calls ai A1 c1 A2 c2 cl pl (w4.alloc (.cells #[.int .i64 ai, .slice A1 cl.length c1, .slice A2 pl.length c2] 72)) (own_reads_of' (Q1.out.1.alloc _)) (own_cap Q1.out.1) (own_reads_of' (Q2.out.1.alloc _)) (own_cap Q2.out.1) hale
    rw [if_pos HBB.out, if_pos HBB.out] at HEN
    refine HEN.mono ?_
    clear HEN
    rintro e w6 ⟨rfl, hb6⟩
    have hb5 : Below w4.heap.size w4 w6 := ((Below.refl w4.heap.size w4).alloc (Nat.le_refl _) (.cells #[.int .i64 ai, .slice A1 cl.length c1, .slice A2 pl.length c2] 72)).trans (hb6.mono (by simp))
    have J6 := J4H.out.call hb5
    have q1 := Q1.out.call hb5
    have q2 := Q2.out.call hb5
    have f6 := Ext.block hb6 (heap_alloc_new w4 (.cells #[.int .i64 ai, .slice A1 cl.length c1, .slice A2 pl.length c2] 72))
    have hgb : w4.heap.size ≠ g := fun e => by have := (Array.getElem?_eq_some_iff.1 J4H.out.is.1).1; omega
    have hs6 : w4.heap.size < w6.heap.size := (Array.getElem?_eq_some_iff.1 f6).1
    clear hb6 hb5
    go_wp2_with fail
    refine (HE.out w6 g J6).mono ?_
    rintro e w7 ⟨rfl, J7, k7⟩
    have f7 := (k7.2 _ hs6 hgb (by simp)).trans f6
    have q1 := q1.keep k7
    have q2 := q2.keep k7
    have c0 := cell_of_row _ _ 0 _ _ _ f7
    have c1' := cell_of_row _ _ 1 _ _ _ f7
    have c2' := cell_of_row _ _ 2 _ _ _ f7
    have d0 := cell_of_row _ _ 0 _ _ _ J7.box
    have d1 := cell_of_row _ _ 1 _ _ _ J7.box
    have d2 := cell_of_row _ _ 2 _ _ _ J7.box
    have e0 := frozen_of_row _ _ 0 _ _ J7.box
    have e1 := frozen_of_row _ _ 1 _ _ J7.box
    have e2 := frozen_of_row _ _ 2 _ _ J7.box
    have HX := Lib.hid J7
    have HQ1 := Lib.hid q1
    have HQ2 := Lib.hid q2
    clear J7 q1 q2 f7 f6 J6 k7
    go_wp2
    have hbox := heap_setCell_same _ _ 2 _ _ (.slice A2 pl.length c2) (heap_setCell_same _ _ 1 _ _ (.slice A1 cl.length c1) (heap_setCell_same _ _ 0 _ _ (.int .i64 ai) HX.out.box))
    have hoth : ∀ b, b ≠ w.heap.size → (((w7.setCell ⟨w.heap.size, 0, none⟩ (.int .i64 ai)).setCell ⟨w.heap.size, 1, none⟩ (.slice A1 cl.length c1)).setCell ⟨w.heap.size, 2, none⟩ (.slice A2 pl.length c2)).heap[b]? = w7.heap[b]? := fun b hb => (Below.heap_setCell _ ⟨w.heap.size, 2, none⟩ _ b hb).trans ((Below.heap_setCell _ ⟨w.heap.size, 1, none⟩ _ b hb).trans (Below.heap_setCell _ ⟨w.heap.size, 0, none⟩ _ b hb))
    have hext : Ext w (((w7.setCell ⟨w.heap.size, 0, none⟩ (.int .i64 ai)).setCell ⟨w.heap.size, 1, none⟩ (.slice A1 cl.length c1)).setCell ⟨w.heap.size, 2, none⟩ (.slice A2 pl.length c2)) := ((HX.out.ext.below.setCell (p := ⟨w.heap.size, 0, none⟩) (Nat.le_refl _) _).setCell (p := ⟨w.heap.size, 1, none⟩) (Nat.le_refl _) _).setCell (p := ⟨w.heap.size, 2, none⟩) (Nat.le_refl _) _
    obtain ⟨w8, hw8⟩ : ∃ w8, w8 = ((w7.setCell ⟨w.heap.size, 0, none⟩ (.int .i64 ai)).setCell ⟨w.heap.size, 1, none⟩ (.slice A1 cl.length c1)).setCell ⟨w.heap.size, 2, none⟩ (.slice A2 pl.length c2) := ⟨_, rfl⟩
    rw [← hw8] at hbox hoth hext ⊢
    have r0 := cell_of_row _ _ 0 _ _ _ hbox
    have r1 := cell_of_row _ _ 1 _ _ _ hbox
    have r2 := cell_of_row _ _ 2 _ _ _ hbox
    have hz1 := hz.out
    refine bodyPost_ret (v := .tuple #[sigV ai A1 cl.length c1 A2 pl.length c2, .int .i64 0]) (by simp [results, Try.results45, go_sem, r0, r1, r2]) rfl ⟨A1, c1, A2, c2, rfl, ?_, ?_, hext⟩
    · exact own_weaken (own_move HQ1.out.1 (fun b hb => hoth b (by have := (HQ1.out.1.lt b hb).1; have := (Array.getElem?_eq_some_iff.1 HX.out.box).1; omega))) (by omega)
    · exact own_weaken (own_move HQ2.out.1 (fun b hb => hoth b (by have := (HQ2.out.1.lt b hb).1; omega))) (by omega)
  · cases hs
end Go.Proofs.Ytldkkboeaadbeaa.Sg
end
