/- What the reference's readers read. -/
import Derived.Test.YtldkkboeaadbeaaReadsL
import Derived.Test.YtldkkboeaadbeaaPr12
set_option linter.unusedVariables false
set_option linter.unusedSimpArgs false
namespace Go.Proofs.Ytldkkboeaadbeaa.Pr
open Go.RowKit Go.Proofs.YtldkkboeaadbeaaW.PrintWords Go.Proofs.YtldkkboeaadbeaaW.PrintLast Go.Proofs.YtldkkboeaadbeaaW.PrintMore Go.Proofs.Ytldkkboeaadbeaa.Pl
theorem add_shl (n c i : Nat) (hi : i ≤ 9) (hn : n < 2 ^ (7 * i)) (hc : c < 128) (h9 : i = 9 → c ≤ 1) :
    IntKind.u64.wrap ((n : Int) + shl .u64 (c : Int) ((7 * i : Nat) : Int)) = ((n + c * 2 ^ (7 * i) : Nat) : Int) := by
  have hb := shl_7 c i hi hc h9
  have hp := pow7le i hi
  have e : shl .u64 (c : Int) ((7 * i : Nat) : Int) = ((c * 2 ^ (7 * i) : Nat) : Int) := by
    unfold shl
    rw [Int.toNat_natCast, show IntKind.u64.bits = 64 from rfl, Nat.min_eq_left (by omega)]
    rw [show ((c : Int) * 2 ^ (7 * i)) = ((c * 2 ^ (7 * i) : Nat) : Int) by push_cast; rfl]
    rw [IntWalk.u64_in _ (by omega)]
  rw [e, IntWalk.u64_in _ (by omega)]
  omega
theorem tmod_nat (c d : Nat) : Int.tmod (c : Int) (d : Int) = ((c % d : Nat) : Int) := rfl
theorem tdiv_nat (c d : Nat) : Int.tdiv (c : Int) (d : Int) = ((c / d : Nat) : Int) := rfl
theorem w_add (a b : Nat) (h : a + b < 9223372036854775808) : wrap64 ((a : Int) + (b : Int)) = ((a + b : Nat) : Int) := by rw [IntWalk.wrap64_in _ (by omega)]; omega
theorem w_add1 (a : Nat) (h : a + 1 < 9223372036854775808) : wrap64 ((a : Int) + 1) = ((a + 1 : Nat) : Int) := by rw [IntWalk.wrap64_in _ (by omega)]; omega
theorem w_mul7 (i : Nat) (h : i ≤ 9) : wrap64 (7 * (i : Int)) = ((7 * i : Nat) : Int) := by rw [IntWalk.wrap64_in _ (by omega)]; omega
theorem u_c (c : Nat) (h : c ≤ 255) : IntKind.u64.wrap (c : Int) = (c : Int) := IntWalk.u64_in _ (by omega)
def RU (s : ByteArray) (p i n : Nat) : Prop :=
  ∃ r, Ev (fun k => modcertref02_readUnsigned.l0 k s (p : Int) (n : Int) (i : Int)) r ∧ (un i ((bytesOf s).drop (p + i)) = none → r.2.2 = false) ∧
    (∀ v rest, un i ((bytesOf s).drop (p + i)) = some (v, rest) → r = (((n + v * 2 ^ (7 * i) : Nat) : Int), ((p + i + (leb v).length : Nat) : Int), true))
theorem ru_step (s : ByteArray) (hs : s.size < 4611686018427387904) (p i n : Nat) (hi : i ≤ 9) (hn : n < 2 ^ (7 * i)) (hp : p + i ≤ s.size)
    (IH : Aside0 (i < 9 → ∀ n', n' < 2 ^ (7 * (i + 1)) → p + (i + 1) ≤ s.size → RU s p (i + 1) n')) : RU s p i n := by
  have hx := Aside0.mk (w_add p i (by omega))
  unfold RU
  by_cases hlt : p + i < s.size
  · have hr := bt_range s ((p + i : Nat) : Int)
    rw [drop_bt s (p + i) hlt]
    generalize hb : bt s ((p + i : Nat) : Int) = b at hr
    obtain ⟨c, rfl⟩ := Int.eq_ofNat_of_zero_le hr.1
    have hbw := Aside0.mk (u_c c (by omega))
    have hw := Aside0.mk (w_add1 (p + i) (by omega))
    have hi1 := Aside0.mk (w_add1 i (by omega))
    have h7 := Aside0.mk (w_mul7 i hi)
    have hm := Aside0.mk (show Int.tmod (c : Int) 128 = ((c % 128 : Nat) : Int) from tmod_nat c 128)
    have toJ2 : ∀ r, Ev (fun k => modcertref02_readUnsigned.j2 k s (p : Int) (n : Int) (i : Int) (c : Int) (decide (i = 9 ∧ 1 < c))) r → Ev (fun k => modcertref02_readUnsigned.l0 k s (p : Int) (n : Int) (i : Int)) r := by
      intro r hj
      refine Ev.step (f := fun k => modcertref02_readUnsigned.j1 k s (p : Int) (n : Int) (i : Int) false) (fun k => by rw [modcertref02_readUnsigned.l0, if_pos (by omega), hx.out, if_neg (by omega), decide_eq_false (by omega)]) ?_
      refine Ev.step (f := fun k => modcertref02_readUnsigned.j2 k s (p : Int) (n : Int) (i : Int) (c : Int) (decide (i = 9 ∧ 1 < c))) (fun k => ?_) hj
      rw [modcertref02_readUnsigned.j1, if_neg (by simp), hx.out, if_pos (by omega), if_pos (by omega), hb, hbw.out]
      by_cases h9 : i = 9
      · rw [if_pos (by omega), show decide ((c : Int) > 1) = decide (i = 9 ∧ 1 < c) from decide_eq_decide.2 (by omega)]
      · rw [if_neg (by omega), show decide (i = 9 ∧ 1 < c) = false from decide_eq_false (by omega)]
    by_cases hbig : i = 9 ∧ 1 < c
    · refine ⟨(0, 0, false), toJ2 _ (Ev.step (f := fun _ => some (0, 0, false)) (fun k => by rw [decide_eq_true hbig, modcertref02_readUnsigned.j2, if_pos rfl]) (Ev.now _)), fun _ => rfl, fun v rest h => ?_⟩
      rw [un, if_pos ⟨hbig.1, by omega⟩] at h; cases h
    · have hsh := Aside0.mk (add_shl n (c % 128) i hi hn (by omega) (fun h => by omega))
      by_cases hsm : c < 128
      · have hcm : c % 128 = c := Nat.mod_eq_of_lt hsm
        have hsh := Aside0.mk (hcm ▸ hsh.out : IntKind.u64.wrap ((n : Int) + shl .u64 (c : Int) ((7 * i : Nat) : Int)) = ((n + c * 2 ^ (7 * i) : Nat) : Int))
        have hm := Aside0.mk (show Int.tmod (c : Int) 128 = (c : Int) from hm.out.trans (congrArg (fun x : Nat => (x : Int)) hcm))
        refine ⟨(((n + c * 2 ^ (7 * i) : Nat) : Int), ((p + i + 1 : Nat) : Int), decide (0 < c ∨ i = 0)), toJ2 _ ?_, fun h => ?_, fun v rest h => ?_⟩
        · refine Ev.step (f := fun _ => some (((n + c * 2 ^ (7 * i) : Nat) : Int), ((p + i + 1 : Nat) : Int), decide (0 < c ∨ i = 0))) (fun k => ?_) (Ev.now _)
          rw [decide_eq_false hbig, modcertref02_readUnsigned.j2, if_neg (by simp), h7.out, if_pos (by omega), if_pos (by omega), hm.out, hsh.out, hx.out, hw.out]
          by_cases h0 : i = 0
          · rw [if_pos (by omega), decide_eq_true (.inr h0)]
          · rw [if_neg (by omega)]
            have : ((c : Int) != 0) = decide (0 < c ∨ i = 0) := by
              rw [Bool.eq_iff_iff]; simp; omega
            rw [this]
        · rw [un, if_neg (by omega), if_pos (by omega)] at h
          by_cases h0 : 0 < (c : Int) ∨ i = 0
          · rw [if_pos h0] at h; cases h
          · exact decide_eq_false (by omega)
        · rw [un, if_neg (by omega), if_pos (by omega)] at h
          by_cases h0 : 0 < (c : Int) ∨ i = 0
          · rw [if_pos h0, Int.toNat_natCast] at h
            simp only [Option.some.injEq, Prod.mk.injEq] at h
            obtain ⟨rfl, rfl⟩ := h
            rw [leb_lt hsm, decide_eq_true (by omega)]
            rfl
          · rw [if_neg h0] at h; cases h
      · have hn' : n + c % 128 * 2 ^ (7 * i) < 2 ^ (7 * (i + 1)) := by
          rw [pow7s]
          have : c % 128 * 2 ^ (7 * i) ≤ 127 * 2 ^ (7 * i) := Nat.mul_le_mul_right _ (by omega)
          omega
        obtain ⟨r, h1, h3, h4⟩ := IH.out (by omega) (n + c % 128 * 2 ^ (7 * i)) hn' (by omega)
        rw [show p + (i + 1) = p + i + 1 from rfl] at h3 h4
        have hun : un i ((c : Int) :: (bytesOf s).drop (p + i + 1)) = (un (i + 1) ((bytesOf s).drop (p + i + 1))).map fun p => (((c : Int) - 128).toNat + 128 * p.1, p.2) := by
          rw [un, if_neg (by omega), if_neg (by omega), if_neg (by omega)]
        refine ⟨r, toJ2 _ ?_, fun h => ?_, fun v rest h => ?_⟩
        · refine Ev.step (f := fun k => modcertref02_readUnsigned.l0 k s (p : Int) ((n + c % 128 * 2 ^ (7 * i) : Nat) : Int) ((i + 1 : Nat) : Int)) (fun k => ?_) h1
          rw [decide_eq_false hbig, modcertref02_readUnsigned.j2, if_neg (by simp), h7.out, if_pos (by omega), if_neg (by omega), hm.out, hsh.out, hi1.out]
        · rw [hun] at h
          exact h3 (Option.map_eq_none_iff.1 h)
        · rw [hun] at h
          obtain ⟨⟨v', r'⟩, g1, g2⟩ := Option.map_eq_some_iff.1 h
          simp only [Prod.mk.injEq] at g2
          obtain ⟨rfl, rfl⟩ := g2
          have hpos := (un_some _ _ _ _ (by omega) (fun x hx => bytesOf_range s x (List.mem_of_mem_drop hx)) g1).2.1
          have e1 : ((c : Int) - 128).toNat = c % 128 := by omega
          have e2 : (c % 128 + 128 * v') / 128 = v' := by omega
          rw [h4 _ _ g1, e1, leb_ge (n := c % 128 + 128 * v') (by omega), e2, pow7s, List.length_cons]
          have e3 : n + c % 128 * 2 ^ (7 * i) + v' * (128 * 2 ^ (7 * i)) = n + (c % 128 + 128 * v') * 2 ^ (7 * i) := by
            rw [Nat.add_mul, Nat.add_assoc]
            congr 2
            rw [← Nat.mul_assoc, Nat.mul_comm v' 128]
          rw [e3]
          congr 2
          omega
  · rw [List.drop_of_length_le (by rw [bytesOf_length]; omega)]
    refine ⟨(0, 0, false), ?_, fun _ => rfl, fun v rest h => by cases h⟩
    refine Ev.step (f := fun k => modcertref02_readUnsigned.j1 k s (p : Int) (n : Int) (i : Int) true) (fun k => by rw [modcertref02_readUnsigned.l0, if_pos (by omega), hx.out, if_neg (by omega), decide_eq_true (by omega)]) ?_
    exact Ev.step (f := fun _ => some (0, 0, false)) (fun k => by rw [modcertref02_readUnsigned.j1, if_pos rfl]) (Ev.now _)
theorem ru_l (s : ByteArray) (hs : s.size < 4611686018427387904) (p : Nat) : ∀ d i n, d + i = 9 → n < 2 ^ (7 * i) → p + i ≤ s.size → RU s p i n
  | 0, i, n, hd, hn, hp => ru_step s hs p i n (by omega) hn hp ⟨fun h => by omega⟩
  | d + 1, i, n, hd, hn, hp => ru_step s hs p i n (by omega) hn hp ⟨fun h n' h1 h2 => ru_l s hs p d (i + 1) n' (by omega) h1 h2⟩
theorem ru_ev (s : ByteArray) (hs : s.size < 4611686018427387904) (p : Nat) (hp : p ≤ s.size) :
    ∃ r, Ev (fun k => modcertref02_readUnsigned.f k s (p : Int)) r ∧ (rdU s p = none → r.2.2 = false) ∧ (∀ v q, rdU s p = some (v, q) → r = ((v : Int), (q : Int), true)) := by
  obtain ⟨r, h1, h3, h4⟩ := ru_l s hs p 9 0 0 (by omega) (by simp) (by omega)
  refine ⟨r, h1, fun h => h3 (Option.map_eq_none_iff.1 h), fun v q h => ?_⟩
  obtain ⟨⟨v', r'⟩, g1, g2⟩ := Option.map_eq_some_iff.1 h
  simp only [Prod.mk.injEq] at g2
  obtain ⟨rfl, rfl⟩ := g2
  rw [h4 _ _ g1]
  simp
/-- a result of the reference's readers -/
def refR {α : Type} (z : α) : Option (α × Nat) → α × Int × Bool
  | some q => (q.1, (q.2 : Int), true)
  | none => (z, 0, false)
theorem ReadUint_ref (s : ByteArray) (hs : s.size < 4611686018427387904) (p : Nat) (hp : p ≤ s.size) : Ev (fun k => modcertref02_ReadUint.f k s (p : Int)) (refR 0 (rdNI s p)) := by
  obtain ⟨⟨r1, r2, r3⟩, h1, h3, h4⟩ := ru_ev s hs p hp
  dsimp only at h3
  unfold modcertref02_ReadUint.f
  cases hU : rdU s p with
  | none =>
    have := h3 hU
    subst this
    rw [rdNI, rdN, hU]
    exact Ev.bindE h1 (fun k => rfl)
  | some u =>
    obtain ⟨v, q⟩ := u
    cases h4 v q hU
    rw [rdNI, rdN, hU, Option.bind_some]
    by_cases hv : v < 9223372036854775808
    · rw [if_pos hv]
      exact Ev.bindE h1 (fun k => by dsimp only; rw [if_pos rfl, if_neg (by omega), IntWalk.wrap64_in _ (by omega)]; rfl)
    · rw [if_neg hv]
      exact Ev.bindE h1 (fun k => by dsimp only; rw [if_pos rfl, if_pos (by omega)]; rfl)
theorem ReadInt_ref (s : ByteArray) (hs : s.size < 4611686018427387904) (p : Nat) (hp : p ≤ s.size) : Ev (fun k => modcertref02_ReadInt.f k s (p : Int)) (refR 0 (rdI s p)) := by
  obtain ⟨⟨r1, r2, r3⟩, h1, h3, h4⟩ := ru_ev s hs p hp
  dsimp only at h3
  unfold modcertref02_ReadInt.f
  cases hU : rdU s p with
  | none =>
    have := h3 hU
    subst this
    rw [rdI, hU]
    exact Ev.bindE h1 (fun k => rfl)
  | some u =>
    obtain ⟨v, q⟩ := u
    have hv := (rdU_le hp hU).2.2.1
    cases h4 v q hU
    rw [rdI, hU]
    refine Ev.bindE h1 (fun k => ?_)
    dsimp only
    have ht : Int.tmod (v : Int) 2 = ((v % 2 : Nat) : Int) := tmod_nat v 2
    have hd : Int.tdiv (v : Int) 2 = ((v / 2 : Nat) : Int) := tdiv_nat v 2
    rw [if_pos rfl, ht, hd, IntWalk.u64_in _ (by omega), IntWalk.wrap64_in ((v / 2 : Nat) : Int) (by omega)]
    by_cases h2 : v % 2 = 0
    · rw [if_pos (by omega)]
      simp only [Option.map_some, refR, zag, if_pos h2]
    · rw [if_neg (by omega), IntWalk.wrap64_in (-((v / 2 : Nat) : Int)) (by omega), IntWalk.wrap64_in _ (by omega)]
      simp only [Option.map_some, refR, zag, if_neg h2]
theorem ReadText_ref (s : ByteArray) (hs : s.size < 4611686018427387904) (p : Nat) (hp : p ≤ s.size) : Ev (fun k => modcertref02_ReadText.f k s (p : Int)) (refR ⟨#[]⟩ (rdT s p)) := by
  have h := ReadUint_ref s hs p hp
  unfold modcertref02_ReadText.f
  rw [rdNI] at h
  rw [rdT]
  cases hU : rdN s p with
  | none =>
    rw [hU] at h
    exact Ev.bindE h (fun k => rfl)
  | some u =>
    obtain ⟨v, q⟩ := u
    obtain ⟨h1, h2, h3, _⟩ := rdN_le hp hU
    rw [hU] at h
    have h : Ev (fun k => modcertref02_ReadUint.f k s (p : Int)) ((v : Int), (q : Int), true) := h
    rw [Option.bind_some]
    dsimp only
    have hw1 := IntWalk.wrap64_in ((s.size : Int) - (q : Int)) (by omega)
    by_cases hv : q + v ≤ s.size
    · rw [if_pos hv]
      refine Ev.bindE h (fun k => ?_)
      have hw2 := IntWalk.wrap64_in ((q : Int) + (v : Int)) (by omega)
      dsimp only
      rw [if_pos rfl, hw1, if_neg (by omega), if_pos (by omega), hw2, if_pos (by omega), if_pos (by omega)]
      rfl
    · rw [if_neg hv]
      refine Ev.bindE h (fun k => ?_)
      dsimp only
      rw [if_pos rfl, hw1, if_pos (by omega)]
      rfl
theorem rdTn_len {s : ByteArray} {n p : Nat} {l r : List ByteArray} {q : Nat} (hp : p ≤ s.size) (h : rdTn s n p l = some (r, q)) : r.length = l.length + n := by
  obtain ⟨_, _, m, rfl, e, _⟩ := rdTn_le n p l r q hp h
  rw [List.length_append, e]
theorem ReadTexts_l (s : ByteArray) (hs : s.size ≤ 2000) (N : Nat) (hN : N ≤ s.size) : ∀ (d p : Nat) (l : List ByteArray), p ≤ s.size → d + l.length = N →
    Ev (fun k => modcertref02_ReadTexts.l0 k s (N : Int) (p : Int) l (l.length : Int)) (refR [] (rdTn s d p l))
  | 0, p, l, hp, hd => by
    refine Ev.step (f := fun _ => some (l, (p : Int), true)) (fun k => by rw [modcertref02_ReadTexts.l0, if_neg (by omega)]) ?_
    rw [rdTn]
    exact Ev.now _
  | d + 1, p, l, hp, hd => by
    have h := ReadText_ref s (by omega) p hp
    have hl : l.length < 8796093022208 := by omega
    refine Ev.step (f := fun k => (modcertref02_ReadText.f k s (p : Int)).bind fun b => if b.2.2 = true then modcertref02_ReadTexts.l0 k s (N : Int) b.2.1 (l ++ [b.1]) ((l.length + 1 : Nat) : Int) else some ([], 0, false)) (fun k => by
      rw [modcertref02_ReadTexts.l0, if_pos (by omega), show wrap64 ((l.length : Int) + 1) = ((l.length + 1 : Nat) : Int) by rw [IntWalk.wrap64_in _ (by omega)]; rfl]
      simp only [if_pos hl]) ?_
    rw [rdTn]
    cases hU : rdT s p with
    | none => rw [hU] at h; exact Ev.bindE h (fun k => rfl)
    | some u =>
      obtain ⟨v, q⟩ := u
      rw [hU] at h
      refine Ev.bind (f := fun k b => if b.2.2 = true then modcertref02_ReadTexts.l0 k s (N : Int) b.2.1 (l ++ [b.1]) ((l.length + 1 : Nat) : Int) else some ([], 0, false)) h ?_
      simp only [refR, if_true, Option.bind_some]
      have := ReadTexts_l s hs N hN d q (l ++ [v]) (rdT_le hp hU).2.1 (by rw [List.length_append, List.length_singleton]; omega)
      rw [List.length_append, List.length_singleton] at this
      exact this
theorem ReadTexts_ref (s : ByteArray) (hs : s.size ≤ 2000) (p : Nat) (hp : p ≤ s.size) : Ev (fun k => modcertref02_ReadTexts.f k s (p : Int)) (refR [] (rdTs s p)) := by
  have h := ReadUint_ref s (by omega) p hp
  unfold modcertref02_ReadTexts.f
  rw [rdNI] at h
  rw [rdTs]
  have hbad : ∀ a b : Int, Ev (fun k => modcertref02_ReadTexts.j0 k s a b true) (([] : List ByteArray), 0, false) := fun a b =>
    Ev.step (f := fun _ => some ([], 0, false)) (fun k => by rw [modcertref02_ReadTexts.j0, if_pos rfl]) (Ev.now _)
  cases hU : rdN s p with
  | none =>
    rw [hU] at h
    refine Ev.bind (f := fun k b => if b.2.2 = true then modcertref02_ReadTexts.j0 k s b.1 b.2.1 (decide (b.1 > (wrap64 ((s.size : Int) - b.2.1)))) else modcertref02_ReadTexts.j0 k s b.1 b.2.1 true) h ?_
    exact hbad _ _
  | some u =>
    obtain ⟨v, q⟩ := u
    obtain ⟨h1, h2, h3, _⟩ := rdN_le hp hU
    rw [hU] at h
    have h : Ev (fun k => modcertref02_ReadUint.f k s (p : Int)) ((v : Int), (q : Int), true) := h
    refine Ev.bind (f := fun k b => if b.2.2 = true then modcertref02_ReadTexts.j0 k s b.1 b.2.1 (decide (b.1 > (wrap64 ((s.size : Int) - b.2.1)))) else modcertref02_ReadTexts.j0 k s b.1 b.2.1 true) h ?_
    have hw1 := IntWalk.wrap64_in ((s.size : Int) - (q : Int)) (by omega)
    rw [Option.bind_some]
    dsimp only
    by_cases hv : q + v ≤ s.size
    · have hd : decide ((v : Int) > wrap64 ((s.size : Int) - (q : Int))) = false := by rw [hw1]; exact decide_eq_false (by omega)
      rw [hd, if_pos hv]
      simp only [if_true]
      refine Ev.step (f := fun k => modcertref02_ReadTexts.l0 k s (v : Int) (q : Int) [] 0) (fun k => by rw [modcertref02_ReadTexts.j0, if_neg (by simp)]) ?_
      exact ReadTexts_l s hs v (by omega) v q [] h2 rfl
    · have hd : decide ((v : Int) > wrap64 ((s.size : Int) - (q : Int))) = true := by rw [hw1]; exact decide_eq_true (by omega)
      rw [hd, if_neg hv]
      simp only [if_true]
      exact hbad _ _
end Go.Proofs.Ytldkkboeaadbeaa.Pr
