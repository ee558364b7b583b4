/- CodecReads, over numbers and strings alone. -/
import Derived.Test.YtldkkboeaadbeaaAwake02
import Derived.Test.YtldkkboeaadbeaaReadsRef
import Derived.Test.YtldkkboeaadbeaaPq2
set_option linter.unusedVariables false
set_option linter.unusedSimpArgs false
set_option linter.unusedSectionVars false
namespace Go.Proofs.Ytldkkboeaadbeaa.Pr
open Go.RowKit Go.Proofs.YtldkkboeaadbeaaW.PrintWords Go.Proofs.YtldkkboeaadbeaaW.PrintLast Go.Proofs.YtldkkboeaadbeaaW.PrintMore Go.Proofs.Ytldkkboeaadbeaa.Pl
/-- what a call of a reader that reads gives: the result, the offset and the error behind it -/
def fin {α : Type} (p : Nat) (z : α) (mk : α → Int → S47) : Option (α × Nat) → S47 × Nat × Int
  | some q => (mk q.1 0, q.2, 0)
  | none => (mk z 9, p, 9)
def mkN (n : Int) (e : Int) : S47 := ⟨n, ⟨#[]⟩, [], e⟩
def mkT (t : ByteArray) (e : Int) : S47 := ⟨0, t, [], e⟩
def mkL (l : List ByteArray) (e : Int) : S47 := ⟨0, ⟨#[]⟩, l, e⟩
def stepR (s : ByteArray) (p : Nat) (e : Int) (c : S51) : S47 × Nat × Int :=
  if c.f0 = 5 then (if e = 0 then (mkN 0 c.f1, p, c.f1) else (mkN 0 e, p, e))
  else if c.f0 = 6 then (if e = 0 then (if p = s.size then (mkN 0 0, p, 0) else (mkN 9 0, p, 0)) else (mkN e e, p, e))
  else if e = 0 then
    (if c.f0 = 0 then fin p 0 mkN (rdNI s p)
     else if c.f0 = 1 then fin p 0 mkN (rdI s p)
     else if c.f0 = 2 then fin p ⟨#[]⟩ mkT (rdT s p)
     else if c.f0 = 3 then fin p 0 mkN (rdC s p c.f1)
     else if c.f0 = 4 then fin p [] mkL (rdTs s p)
     else (mkN 0 0, p, 0))
  else (mkN 0 e, p, e)
def resR (s : ByteArray) (x : S47 × Nat × Int) : Int × ByteArray × List ByteArray × Int × ByteArray × Int × Int :=
  (x.1.f0, x.1.f1, x.1.f2, x.1.f3, s, (x.2.1 : Int), x.2.2)
theorem rdN_q {s : ByteArray} {p : Nat} (hp : p ≤ s.size) {q : Int × Nat} (h : rdNI s p = some q) : q.2 ≤ s.size := by
  obtain ⟨u, g1, g2⟩ := Option.map_eq_some_iff.1 h
  have := (rdN_le (v := u.1) (q := u.2) hp g1).2.1
  rw [← g2]; exact this
theorem rdI_q {s : ByteArray} {p : Nat} (hp : p ≤ s.size) {q : Int × Nat} (h : rdI s p = some q) : q.2 ≤ s.size := by
  obtain ⟨u, g1, g2⟩ := Option.map_eq_some_iff.1 h
  have := (rdU_le (v := u.1) (q := u.2) hp g1).2.1
  rw [← g2]; exact this
theorem rdC_q {s : ByteArray} {p : Nat} (hp : p ≤ s.size) {m : Int} {q : Int × Nat} (h : rdC s p m = some q) : q.2 ≤ s.size := by
  obtain ⟨u, g1, g2⟩ := Option.bind_eq_some_iff.1 h
  have := (rdN_le (v := u.1) (q := u.2) hp g1).2.1
  by_cases hm : (u.1 : Int) ≤ m
  · rw [if_pos hm] at g2; cases g2; exact this
  · rw [if_neg hm] at g2; cases g2
theorem fin_le {α : Type} {s : ByteArray} {p : Nat} (z : α) (mk : α → Int → S47) (o : Option (α × Nat)) (hp : p ≤ s.size) (h : ∀ q, o = some q → q.2 ≤ s.size) : (fin p z mk o).2.1 ≤ s.size := by
  cases o with
  | none => exact hp
  | some q => exact h q rfl
theorem fin_len {α : Type} {p : Nat} (z : α) (mk : α → Int → S47) (o : Option (α × Nat)) (hz : ∀ e, (mk z e).f2.length < 9223372036854775807) (h : ∀ q, o = some q → ∀ e, (mk q.1 e).f2.length < 9223372036854775807) : (fin p z mk o).1.f2.length < 9223372036854775807 := by
  cases o with
  | none => exact hz 9
  | some q => exact h q rfl 0
theorem stepR_le (s : ByteArray) (p : Nat) (e : Int) (c : S51) (hp : p ≤ s.size) : (stepR s p e c).2.1 ≤ s.size := by
  unfold stepR
  repeat' first
    | split
    | exact hp
    | exact fin_le _ _ _ hp (fun q h => rdN_q hp h)
    | exact fin_le _ _ _ hp (fun q h => rdI_q hp h)
    | exact fin_le _ _ _ hp (fun q h => rdC_q hp h)
    | exact fin_le _ _ _ hp (fun q h => (rdT_le (q := q.2) (t := q.1) hp h).2.1)
    | exact fin_le _ _ _ hp (fun q h => (rdTs_le (q := q.2) (r := q.1) hp h).2.1)
theorem rdTs_len {s : ByteArray} (hs : s.size ≤ 2000) {p : Nat} (hp : p ≤ s.size) {q : List ByteArray × Nat} (h : rdTs s p = some q) : q.1.length < 9223372036854775807 := by
  obtain ⟨u, g1, g2⟩ := Option.bind_eq_some_iff.1 h
  have hq := (rdN_le (v := u.1) (q := u.2) hp g1).2.1
  by_cases hm : u.2 + u.1 ≤ s.size
  · rw [if_pos hm] at g2
    have := rdTn_len (r := q.1) (q := q.2) hq g2
    rw [List.length_nil] at this
    omega
  · rw [if_neg hm] at g2; cases g2
theorem stepR_len (s : ByteArray) (hs : s.size ≤ 2000) (p : Nat) (e : Int) (c : S51) (hp : p ≤ s.size) : (stepR s p e c).1.f2.length < 9223372036854775807 := by
  unfold stepR
  have h0 : (0 : Nat) < 9223372036854775807 := by omega
  repeat' first
    | split
    | exact h0
    | exact fin_len (mk := mkN) _ _ (fun _ => h0) (fun _ _ _ => h0)
    | exact fin_len (mk := mkT) _ _ (fun _ => h0) (fun _ _ _ => h0)
    | exact fin_len (mk := mkL) _ _ (fun _ => h0) (fun q h _ => rdTs_len hs hp h)
theorem result_rd (s : ByteArray) (hs : s.size ≤ 2000) (p : Nat) (hp : p ≤ s.size) (e : Int) (c : S51) : Ev (fun k => modcertlaw02_result.f k s (p : Int) e c.f0 c.f1) (resR s (stepR s p e c)) := by
  obtain ⟨kd, num⟩ := c
  dsimp only
  unfold modcertlaw02_result.f stepR
  by_cases h5 : kd = 5
  · subst h5
    refine ⟨0, fun k _ => ?_⟩
    by_cases he : e = 0 <;> simp [codec_Reader_Fail.f, codec_Reader_Error.f, he, resR, mkN]
  by_cases h6 : kd = 6
  · subst h6
    refine ⟨0, fun k _ => ?_⟩
    by_cases he : e = 0
    · by_cases h : p = s.size
      · simp [codec_Reader_End.f, codec_Reader_Error.f, he, resR, mkN, h]
      · have : (p : Int) < (s.size : Int) := by omega
        simp [codec_Reader_End.f, codec_Reader_Error.f, he, resR, mkN, h, this]
        try omega
    · simp [codec_Reader_End.f, codec_Reader_Error.f, he, resR, mkN]
  rw [if_neg (show ¬ (⟨kd, num⟩ : S51).f0 = 5 from h5), if_neg (show ¬ (⟨kd, num⟩ : S51).f0 = 6 from h6)]
  dsimp only
  simp only [if_neg h5, if_neg h6]
  by_cases he : e = 0
  · subst he
    rw [if_pos rfl]
    by_cases h0 : kd = 0
    · simp only [if_pos h0]
      have h := Uint_rd s (by omega) p hp
      cases hU : rdNI s p with
      | none => rw [hU] at h; exact Ev.bindE h (fun k => rfl)
      | some u => rw [hU] at h; exact Ev.bindE h (fun k => rfl)
    simp only [if_neg h0]
    by_cases h1 : kd = 1
    · simp only [if_pos h1]
      have h := Int_rd s (by omega) p hp
      cases hU : rdI s p with
      | none => rw [hU] at h; exact Ev.bindE h (fun k => rfl)
      | some u => rw [hU] at h; exact Ev.bindE h (fun k => rfl)
    simp only [if_neg h1]
    by_cases h2 : kd = 2
    · simp only [if_pos h2]
      have h := Text_rd s (by omega) p hp
      cases hU : rdT s p with
      | none => rw [hU] at h; exact Ev.bindE h (fun k => rfl)
      | some u => rw [hU] at h; exact Ev.bindE h (fun k => rfl)
    simp only [if_neg h2]
    by_cases h3 : kd = 3
    · simp only [if_pos h3]
      have h := Count_rd s (by omega) p hp num
      cases hU : rdC s p num with
      | none => rw [hU] at h; exact Ev.bindE h (fun k => rfl)
      | some u => rw [hU] at h; exact Ev.bindE h (fun k => rfl)
    simp only [if_neg h3]
    by_cases h4 : kd = 4
    · simp only [if_pos h4]
      have h := Texts_rd s (by omega) p hp
      cases hU : rdTs s p with
      | none => rw [hU] at h; exact Ev.bindE h (fun k => rfl)
      | some u => rw [hU] at h; exact Ev.bindE h (fun k => rfl)
    simp only [if_neg h4]
    exact Ev.now _
  · refine ⟨0, fun k _ => ?_⟩
    by_cases h0 : kd = 0
    · simp [codec_Reader_Uint.f, codec_Reader_Error.f, he, h0, resR, mkN]
    by_cases h1 : kd = 1
    · simp [codec_Reader_Int.f, codec_Reader_Error.f, he, h1, resR, mkN]
    by_cases h2 : kd = 2
    · simp [codec_Reader_Text.f, codec_Reader_Error.f, he, h2, resR, mkN]
    by_cases h3 : kd = 3
    · simp [codec_Reader_Count.f, codec_Reader_Error.f, he, h3, resR, mkN]
    by_cases h4 : kd = 4
    · simp [codec_Reader_Texts.f, codec_Reader_Error.f, he, h4, resR, mkN]
    simp [codec_Reader_Error.f, he, h0, h1, h2, h3, h4, resR, mkN]
section
variable (s : ByteArray) (hs : s.size ≤ 2000) (l : List S51) (hl : l.length ≤ 30)
include hs hl
theorem join_ok (out : List S47) (ho : out.length < 2513169434916) (p j q : Nat) (hj : j < l.length) (n : Int) (t : ByteArray) (ls : List ByteArray) {r : List S47}
    (H : Ev (fun k => modcertref02_Read.l0 k s l (out ++ [⟨n, t, ls, 0⟩]) (q : Int) 0 ((j + 1 : Nat) : Int)) r) : Ev (fun k => modcertref02_Read.j1 k s l out (p : Int) 0 (j : Int) (q : Int) true n t ls 0) r := by
  have hw : wrap64 ((j : Int) + 1) = ((j + 1 : Nat) : Int) := by rw [IntWalk.wrap64_in _ (by omega)]; omega
  exact Ev.step (fun k => by rw [modcertref02_Read.j1, if_pos rfl, if_pos ho, hw]; try rfl) H
theorem join_bad (out : List S47) (ho : out.length < 2513169434916) (p j : Nat) (q : Int) (hj : j < l.length) (n : Int) (t : ByteArray) (ls : List ByteArray) {r : List S47}
    (H : Ev (fun k => modcertref02_Read.l0 k s l (out ++ [⟨n, t, ls, 9⟩]) (p : Int) 9 ((j + 1 : Nat) : Int)) r) : Ev (fun k => modcertref02_Read.j1 k s l out (p : Int) 0 (j : Int) q false n t ls 0) r := by
  have hw : wrap64 ((j : Int) + 1) = ((j + 1 : Nat) : Int) := by rw [IntWalk.wrap64_in _ (by omega)]; omega
  exact Ev.step (fun k => by rw [modcertref02_Read.j1, if_neg (by simp), if_pos ho, hw]; try rfl) H
theorem read_step (out : List S47) (ho : out.length < 2513169434916) (p j : Nat) (hp : p ≤ s.size) (hj : j < l.length) (e : Int) (c : S51) (hc : rd_T51 l (j : Int) = c) {r : List S47}
    (H : Ev (fun k => modcertref02_Read.l0 k s l (out ++ [(stepR s p e c).1]) ((stepR s p e c).2.1 : Int) (stepR s p e c).2.2 ((j + 1 : Nat) : Int)) r) :
    Ev (fun k => modcertref02_Read.l0 k s l out (p : Int) e (j : Int)) r := by
  have hw : wrap64 ((j : Int) + 1) = ((j + 1 : Nat) : Int) := by rw [IntWalk.wrap64_in _ (by omega)]; omega
  have hj0 : (j : Int) < (l.length : Int) := by omega
  have hj1 : (0 : Int) ≤ (j : Int) := by omega
  unfold stepR at H
  by_cases h5 : c.f0 = 5
  · rw [if_pos h5] at H
    by_cases he : e = 0
    · rw [if_pos he] at H
      exact Ev.step (fun k => by rw [modcertref02_Read.l0, if_pos hj0, if_pos hj1, hc, if_pos h5, if_pos he, if_pos ho, hw]; try rfl) H
    · rw [if_neg he] at H
      exact Ev.step (fun k => by rw [modcertref02_Read.l0, if_pos hj0, if_pos hj1, hc, if_pos h5, if_neg he, if_pos ho, hw]; try rfl) H
  rw [if_neg h5] at H
  by_cases h6 : c.f0 = 6
  · rw [if_pos h6] at H
    by_cases he : e = 0
    · rw [if_pos he] at H
      by_cases hq : p = s.size
      · rw [if_pos hq] at H
        subst he
        exact Ev.step (fun k => by rw [modcertref02_Read.l0, if_pos hj0, if_pos hj1, hc, if_neg h5, if_pos h6, if_pos rfl, if_pos (by omega), if_pos ho, hw]; try rfl) H
      · rw [if_neg hq] at H
        subst he
        exact Ev.step (fun k => by rw [modcertref02_Read.l0, if_pos hj0, if_pos hj1, hc, if_neg h5, if_pos h6, if_pos rfl, if_neg (by omega), if_pos ho, hw]; try rfl) H
    · rw [if_neg he] at H
      exact Ev.step (fun k => by rw [modcertref02_Read.l0, if_pos hj0, if_pos hj1, hc, if_neg h5, if_pos h6, if_neg he, if_pos ho, hw]; try rfl) H
  rw [if_neg h6] at H
  by_cases he : e = 0
  · subst he
    rw [if_pos rfl] at H
    by_cases h0 : c.f0 = 0
    · rw [if_pos h0] at H
      refine Ev.step (f := fun k => (modcertref02_ReadUint.f k s (p : Int)).bind fun b => modcertref02_Read.j1 k s l out (p : Int) 0 (j : Int) b.2.1 b.2.2 b.1 ⟨#[]⟩ [] 0) (fun k => by rw [modcertref02_Read.l0, if_pos hj0, if_pos hj1, hc, if_neg h5, if_neg h6, if_pos rfl, if_pos h0]) ?_
      have h := ReadUint_ref s (by omega) p hp
      refine Ev.bind (f := fun k b => modcertref02_Read.j1 k s l out (p : Int) 0 (j : Int) b.2.1 b.2.2 b.1 ⟨#[]⟩ [] 0) h ?_
      cases hU : rdNI s p with
      | none => rw [hU] at H; exact join_bad s hs l hl out ho p j 0 hj _ _ _ H
      | some u => rw [hU] at H; exact join_ok s hs l hl out ho p j u.2 hj _ _ _ H
    rw [if_neg h0] at H
    by_cases h1 : c.f0 = 1
    · rw [if_pos h1] at H
      refine Ev.step (f := fun k => (modcertref02_ReadInt.f k s (p : Int)).bind fun b => modcertref02_Read.j1 k s l out (p : Int) 0 (j : Int) b.2.1 b.2.2 b.1 ⟨#[]⟩ [] 0) (fun k => by rw [modcertref02_Read.l0, if_pos hj0, if_pos hj1, hc, if_neg h5, if_neg h6, if_pos rfl, if_neg h0, if_pos h1]) ?_
      have h := ReadInt_ref s (by omega) p hp
      refine Ev.bind (f := fun k b => modcertref02_Read.j1 k s l out (p : Int) 0 (j : Int) b.2.1 b.2.2 b.1 ⟨#[]⟩ [] 0) h ?_
      cases hU : rdI s p with
      | none => rw [hU] at H; exact join_bad s hs l hl out ho p j 0 hj _ _ _ H
      | some u => rw [hU] at H; exact join_ok s hs l hl out ho p j u.2 hj _ _ _ H
    rw [if_neg h1] at H
    by_cases h2 : c.f0 = 2
    · rw [if_pos h2] at H
      refine Ev.step (f := fun k => (modcertref02_ReadText.f k s (p : Int)).bind fun b => modcertref02_Read.j1 k s l out (p : Int) 0 (j : Int) b.2.1 b.2.2 0 b.1 [] 0) (fun k => by rw [modcertref02_Read.l0, if_pos hj0, if_pos hj1, hc, if_neg h5, if_neg h6, if_pos rfl, if_neg h0, if_neg h1, if_pos h2]) ?_
      have h := ReadText_ref s (by omega) p hp
      refine Ev.bind (f := fun k b => modcertref02_Read.j1 k s l out (p : Int) 0 (j : Int) b.2.1 b.2.2 0 b.1 [] 0) h ?_
      cases hU : rdT s p with
      | none => rw [hU] at H; exact join_bad s hs l hl out ho p j 0 hj _ _ _ H
      | some u => rw [hU] at H; exact join_ok s hs l hl out ho p j u.2 hj _ _ _ H
    rw [if_neg h2] at H
    by_cases h3 : c.f0 = 3
    · rw [if_pos h3] at H
      refine Ev.step (f := fun k => (modcertref02_ReadUint.f k s (p : Int)).bind fun b => if b.1 > c.f1 then modcertref02_Read.j1 k s l out (p : Int) 0 (j : Int) b.2.1 false 0 ⟨#[]⟩ [] 0 else modcertref02_Read.j1 k s l out (p : Int) 0 (j : Int) b.2.1 b.2.2 b.1 ⟨#[]⟩ [] 0) (fun k => by rw [modcertref02_Read.l0, if_pos hj0, if_pos hj1, hc, if_neg h5, if_neg h6, if_pos rfl, if_neg h0, if_neg h1, if_neg h2, if_pos h3]) ?_
      have h := ReadUint_ref s (by omega) p hp
      rw [rdC] at H
      rw [rdNI] at h
      cases hU : rdN s p with
      | none =>
        rw [hU] at H h
        have h : Ev (fun k => modcertref02_ReadUint.f k s (p : Int)) ((0 : Int), (0 : Int), false) := h
        refine Ev.bind (f := fun k b => if b.1 > c.f1 then modcertref02_Read.j1 k s l out (p : Int) 0 (j : Int) b.2.1 false 0 ⟨#[]⟩ [] 0 else modcertref02_Read.j1 k s l out (p : Int) 0 (j : Int) b.2.1 b.2.2 b.1 ⟨#[]⟩ [] 0) h ?_
        dsimp only
        by_cases hz : (0 : Int) > c.f1
        · simp only [if_pos hz]
          exact join_bad s hs l hl out ho p j 0 hj _ _ _ H
        · simp only [if_neg hz]
          exact join_bad s hs l hl out ho p j 0 hj _ _ _ H
      | some u =>
        rw [hU] at h
        rw [hU, Option.bind_some] at H
        have h : Ev (fun k => modcertref02_ReadUint.f k s (p : Int)) ((u.1 : Int), (u.2 : Int), true) := h
        refine Ev.bind (f := fun k b => if b.1 > c.f1 then modcertref02_Read.j1 k s l out (p : Int) 0 (j : Int) b.2.1 false 0 ⟨#[]⟩ [] 0 else modcertref02_Read.j1 k s l out (p : Int) 0 (j : Int) b.2.1 b.2.2 b.1 ⟨#[]⟩ [] 0) h ?_
        dsimp only
        by_cases hm : (u.1 : Int) ≤ c.f1
        · rw [if_pos hm] at H
          simp only [if_neg (show ¬ (u.1 : Int) > c.f1 by omega)]
          exact join_ok s hs l hl out ho p j u.2 hj _ _ _ H
        · rw [if_neg hm] at H
          simp only [if_pos (show (u.1 : Int) > c.f1 by omega)]
          exact join_bad s hs l hl out ho p j _ hj _ _ _ H
    rw [if_neg h3] at H
    by_cases h4 : c.f0 = 4
    · rw [if_pos h4] at H
      refine Ev.step (f := fun k => (modcertref02_ReadTexts.f k s (p : Int)).bind fun b => modcertref02_Read.j1 k s l out (p : Int) 0 (j : Int) b.2.1 b.2.2 0 ⟨#[]⟩ b.1 0) (fun k => by rw [modcertref02_Read.l0, if_pos hj0, if_pos hj1, hc, if_neg h5, if_neg h6, if_pos rfl, if_neg h0, if_neg h1, if_neg h2, if_neg h3, if_pos h4]) ?_
      have h := ReadTexts_ref s hs p hp
      refine Ev.bind (f := fun k b => modcertref02_Read.j1 k s l out (p : Int) 0 (j : Int) b.2.1 b.2.2 0 ⟨#[]⟩ b.1 0) h ?_
      cases hU : rdTs s p with
      | none => rw [hU] at H; exact join_bad s hs l hl out ho p j 0 hj _ _ _ H
      | some u => rw [hU] at H; exact join_ok s hs l hl out ho p j u.2 hj _ _ _ H
    rw [if_neg h4] at H
    refine Ev.step (f := fun k => modcertref02_Read.j1 k s l out (p : Int) 0 (j : Int) (p : Int) true 0 ⟨#[]⟩ [] 0) (fun k => by rw [modcertref02_Read.l0, if_pos hj0, if_pos hj1, hc, if_neg h5, if_neg h6, if_pos rfl, if_neg h0, if_neg h1, if_neg h2, if_neg h3, if_neg h4]) ?_
    exact join_ok s hs l hl out ho p j p hj _ _ _ H
  · rw [if_neg he] at H
    exact Ev.step (fun k => by rw [modcertref02_Read.l0, if_pos hj0, if_pos hj1, hc, if_neg h5, if_neg h6, if_neg he, if_pos ho, hw]; try rfl) H
end
def runR (s : ByteArray) : Nat → Int → List S51 → List S47
  | _, _, [] => []
  | p, e, c :: cs => (stepR s p e c).1 :: runR s (stepR s p e c).2.1 (stepR s p e c).2.2 cs
theorem runR_len (s : ByteArray) : ∀ (p : Nat) (e : Int) (cs : List S51), (runR s p e cs).length = cs.length
  | _, _, [] => rfl
  | p, e, c :: cs => by rw [runR, List.length_cons, runR_len s, List.length_cons]
theorem read_l (s : ByteArray) (hs : s.size ≤ 2000) (l : List S51) (hl : l.length ≤ 30) : ∀ (d j p : Nat) (e : Int) (out : List S47), p ≤ s.size → d + j = l.length → out.length = j →
    Ev (fun k => modcertref02_Read.l0 k s l out (p : Int) e (j : Int)) (out ++ runR s p e (l.drop j))
  | 0, j, p, e, out, hp, hd, ho => by
    rw [List.drop_of_length_le (by omega), runR, List.append_nil]
    exact Ev.step (f := fun _ => some out) (fun k => by rw [modcertref02_Read.l0, if_neg (by omega)]) (Ev.now _)
  | d + 1, j, p, e, out, hp, hd, ho => by
    have hj : j < l.length := by omega
    rw [List.drop_eq_getElem_cons hj, runR]
    have hc : rd_T51 l (j : Int) = l[j] := by rw [rd_T51, Int.toNat_natCast, List.getD_eq_getElem?_getD, List.getElem?_eq_getElem hj]; rfl
    refine read_step s hs l hl out (by omega) p j hp hj e l[j] hc ?_
    have := read_l s hs l hl d (j + 1) (stepR s p e l[j]).2.1 (stepR s p e l[j]).2.2 (out ++ [(stepR s p e l[j]).1]) (stepR_le s p e _ hp) (by omega) (by rw [List.length_append, List.length_singleton, ho])
    rw [List.append_assoc, List.singleton_append] at this
    exact this
theorem Same_l (a : Int) (b : ByteArray) (c : List ByteArray) (e : Int) (hc : c.length < 9223372036854775807) : ∀ (d j : Nat), d + j = c.length → Ev (fun k => modcertref02_Same.l0 k (j : Int) a b c e a b c e) true
  | 0, j, hd => Ev.step (f := fun _ => some true) (fun k => by rw [modcertref02_Same.l0, if_neg (by omega)]) (Ev.now _)
  | d + 1, j, hd => by
    have hw : wrap64 ((j : Int) + 1) = ((j + 1 : Nat) : Int) := by rw [IntWalk.wrap64_in _ (by omega)]; omega
    exact Ev.step (fun k => by rw [modcertref02_Same.l0, if_pos (by omega), if_pos (by omega), if_pos (by omega), if_pos rfl, hw]) (Same_l a b c e hc d (j + 1) (by omega))
theorem Same_self (a : Int) (b : ByteArray) (c : List ByteArray) (e : Int) (hc : c.length < 9223372036854775807) : Ev (fun k => modcertref02_Same.f k a b c e a b c e) true := by
  unfold modcertref02_Same.f
  simp only [if_true]
  exact Ev.step (f := fun k => modcertref02_Same.l0 k ((0 : Nat) : Int) a b c e a b c e) (fun k => by rw [bne_self_eq_false, modcertref02_Same.j0, if_neg (by simp)]; rfl) (Same_l a b c e hc c.length 0 (by omega))
theorem law_l (s : ByteArray) (hs : s.size ≤ 2000) (l : List S51) (hl : l.length ≤ 30) (t : List S47) (ht : t.length = l.length) : ∀ (d j p : Nat) (e : Int), p ≤ s.size → d + j = l.length → t.drop j = runR s p e (l.drop j) →
    Ev (fun k => modcertlaw02_CodecReads.l0 k l t (t.length : Int) (j : Int) s (p : Int) e) true
  | 0, j, p, e, hp, hd, h => Ev.step (f := fun _ => some true) (fun k => by rw [modcertlaw02_CodecReads.l0, if_neg (by omega)]) (Ev.now _)
  | d + 1, j, p, e, hp, hd, h => by
    have hj : j < l.length := by omega
    have hj' : j < t.length := by omega
    have hw : wrap64 ((j : Int) + 1) = ((j + 1 : Nat) : Int) := by rw [IntWalk.wrap64_in _ (by omega)]; omega
    rw [List.drop_eq_getElem_cons hj, List.drop_eq_getElem_cons hj', runR] at h
    obtain ⟨h1, h2⟩ := List.cons.inj h
    have hc : rd_T51 l (j : Int) = l[j] := by rw [rd_T51, Int.toNat_natCast, List.getD_eq_getElem?_getD, List.getElem?_eq_getElem hj]; rfl
    have hc' : rd_T47 t (j : Int) = t[j] := by rw [rd_T47, Int.toNat_natCast, List.getD_eq_getElem?_getD, List.getElem?_eq_getElem hj']; rfl
    refine Ev.step (f := fun k => (modcertlaw02_result.f k s (p : Int) e (l[j]).f0 (l[j]).f1).bind fun b => (modcertref02_Same.f k b.1 b.2.1 b.2.2.1 b.2.2.2.1 (t[j]).f0 (t[j]).f1 (t[j]).f2 (t[j]).f3).bind fun x => if x = true then modcertlaw02_CodecReads.l0 k l t (t.length : Int) ((j + 1 : Nat) : Int) b.2.2.2.2.1 b.2.2.2.2.2.1 b.2.2.2.2.2.2 else some false) (fun k => by
      rw [modcertlaw02_CodecReads.l0, if_pos (by omega), if_pos (by omega), if_pos (by omega), if_pos (by omega), hc, hc', hw]) ?_
    refine Ev.bind (f := fun k b => (modcertref02_Same.f k b.1 b.2.1 b.2.2.1 b.2.2.2.1 (t[j]).f0 (t[j]).f1 (t[j]).f2 (t[j]).f3).bind fun x => if x = true then modcertlaw02_CodecReads.l0 k l t (t.length : Int) ((j + 1 : Nat) : Int) b.2.2.2.2.1 b.2.2.2.2.2.1 b.2.2.2.2.2.2 else some false) (result_rd s hs p hp e l[j]) ?_
    rw [h1]
    refine Ev.bind (f := fun k x => if x = true then modcertlaw02_CodecReads.l0 k l t (t.length : Int) ((j + 1 : Nat) : Int) s ((stepR s p e l[j]).2.1 : Int) (stepR s p e l[j]).2.2 else some false) (Same_self _ _ _ _ (stepR_len s hs p e _ hp)) ?_
    simp only [if_true]
    exact law_l s hs l hl t ht d (j + 1) (stepR s p e l[j]).2.1 (stepR s p e l[j]).2.2 (stepR_le s p e _ hp) (by omega) h2
theorem CodecReads_pure (s : ByteArray) (l : List S51) : ∃ k, modcertlaw02_CodecReads.f k s l = some true := by
  apply Ev.rounds
  unfold modcertlaw02_CodecReads.f
  refine Ev.bind (f := fun k t => if t = true then (if (s.size : Int) > 2000 then modcertlaw02_CodecReads.j0 k s l true else modcertlaw02_CodecReads.j0 k s l (decide ((l.length : Int) > 30))) else some false) awake02 ?_
  simp only [if_true]
  have hT : Ev (fun k => modcertlaw02_CodecReads.j0 k s l true) true := Ev.step (f := fun _ => some true) (fun k => by rw [modcertlaw02_CodecReads.j0, if_pos rfl]) (Ev.now _)
  by_cases c1 : (s.size : Int) > 2000
  · simp only [if_pos c1]; exact hT
  · simp only [if_neg c1]
    by_cases c2 : (l.length : Int) > 30
    · rw [decide_eq_true c2]; exact hT
    · rw [decide_eq_false c2]
      refine Ev.step (f := fun k => (modcertref02_Read.f k s l).bind fun t => modcertlaw02_CodecReads.l0 k l t (t.length : Int) 0 s 0 0) (fun k => by rw [modcertlaw02_CodecReads.j0, if_neg (by simp)]; rfl) ?_
      have h := read_l s (by omega) l (by omega) l.length 0 0 0 [] (by omega) (by omega) rfl
      rw [List.drop_zero, List.nil_append] at h
      refine Ev.bind (f := fun k t => modcertlaw02_CodecReads.l0 k l t (t.length : Int) 0 s 0 0) h ?_
      exact law_l s (by omega) l (by omega) _ (runR_len s 0 0 l) l.length 0 0 0 (by omega) (by omega) rfl
end Go.Proofs.Ytldkkboeaadbeaa.Pr
