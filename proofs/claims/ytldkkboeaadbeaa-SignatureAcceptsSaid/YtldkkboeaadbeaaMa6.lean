/- SgC, SgA, SgB, Sched -/
import Derived.Test.YtldkkboeaadbeaaMa2
import Derived.Test.YtldkkboeaadbeaaMa5
import Derived.Laws.BitsAllLaws
import Derived.Laws.Bits64
import Derived.IntWalk
import Derived.Lib.Hide
import Derived.Laws.Rows
import Derived.Test.YtldkkboeaadbeaaWTab
import Derived.Deep.QuietTactic
import Derived.Maps.AppendAt
import Derived.OrdersIn
import Derived.TacticsIn
import Derived.RangeFuncCalls
section
/- The program's bytes of numbers and texts: what they return. -/
set_option linter.unusedVariables false
set_option linter.unusedSimpArgs false
namespace Go.Proofs.Ytldkkboeaadbeaa.Pr
open Go.RowKit Go.Proofs.YtldkkboeaadbeaaW.PrintWords Go.Proofs.YtldkkboeaadbeaaW.PrintLast Go.Proofs.YtldkkboeaadbeaaW.PrintMore Go.Proofs.Ytldkkboeaadbeaa.Pl
def encU (n : Nat) : ByteArray := strOfNums (leb n)
theorem encU_size (n : Nat) : (encU n).size = (leb n).length := by simp [encU, strOfNums_size]
theorem encU_size10 {n : Nat} (h : n < 18446744073709551616) : (encU n).size ≤ 10 := by rw [encU_size]; exact leb_len10 h
theorem or128 (x : Int) (h0 : 0 ≤ x) : Go.bits .or .u8 (x % 256) 128 = x % 128 + 128 := by
  obtain ⟨n, rfl⟩ := Int.eq_ofNat_of_zero_le h0
  have key : ∀ m : Fin 256, Go.bits .or .u8 ((m.val : Nat) : Int) 128 = ((m.val % 128 + 128 : Nat) : Int) := by decide +kernel
  have := key ⟨n % 256, Nat.mod_lt _ (by omega)⟩
  simp only at this
  rw [show ((n : Int) % 256) = ((n % 256 : Nat) : Int) by omega, this]
  omega
theorem unsigned_l (n : Nat) : ∀ (xs : List Int), xs.length + (leb n).length < 140737488355328 →
    Ev (fun k => codec_unsigned.l0 k (n : Int) xs) (strOfNums (xs ++ leb n)) := by
  induction n using Nat.strongRecOn with
  | _ n ih =>
    intro xs hx
    refine Ev.step (fun k => rfl) ?_
    by_cases h : n < 128
    · refine Ev.congr (f := fun _ => some (strOfNums (xs ++ leb n))) (fun k => ?_) (Ev.now _)
      rw [leb_lt h] at hx ⊢
      simp only [List.length_cons, List.length_nil] at hx
      rw [codec_unsigned.l0, if_neg (by omega), if_pos (by omega), show ((n : Int) % 256) = (n : Int) by omega]
    · rw [leb_ge h] at hx ⊢
      simp only [List.length_cons] at hx
      refine Ev.congr (f := fun k => codec_unsigned.l0 k ((n / 128 : Nat) : Int) (xs ++ [((n % 128 + 128 : Nat) : Int)])) (fun k => ?_) ?_
      · rw [codec_unsigned.l0, if_pos (by omega), if_pos (by omega), or128 _ (by omega), show ((n : Int) / 128) = ((n / 128 : Nat) : Int) by omega, show ((n : Int) % 128 + 128) = ((n % 128 + 128 : Nat) : Int) by omega]
      · have := ih (n / 128) (by omega) (xs ++ [((n % 128 + 128 : Nat) : Int)]) (by simp; omega)
        rwa [List.append_assoc] at this
theorem unsigned_ev (n : Nat) (h : n < 18446744073709551616) : Ev (fun k => codec_unsigned.f k (n : Int)) (encU n) := by
  have := unsigned_l n [] (by have := leb_len10 h; simp; omega)
  simpa [codec_unsigned.f, encU] using this
def uintS (n : Int) : ByteArray × Int := if n < 0 then (⟨#[]⟩, 2) else (encU n.toNat, 0)
theorem Uint_ev (n : Int) (h1 : n ≤ 9223372036854775807) : Ev (fun k => codec_Uint.f k n) (uintS n) := by
  unfold codec_Uint.f uintS
  by_cases h : n < 0
  · simp only [if_pos h]; exact Ev.now _
  · simp only [if_neg h]
    obtain ⟨m, rfl⟩ := Int.eq_ofNat_of_zero_le (Int.not_lt.1 h)
    rw [IntWalk.u64_in _ (by omega), Int.toNat_natCast]
    exact Ev.bind (f := fun _ t => some (t, 0)) (unsigned_ev m (by omega)) (Ev.now _)
def textS (s : ByteArray) : ByteArray := encU s.size ++ s
theorem textS_size (s : ByteArray) (h : s.size < 18446744073709551616) : (textS s).size ≤ s.size + 10 := by
  have := encU_size10 h
  unfold textS; rw [ByteArray.size_append]; omega
theorem Text_ev (s : ByteArray) (h : s.size ≤ 140737488355328) : Ev (fun k => codec_Text.f k s) (textS s) := by
  have h10 := encU_size10 (n := s.size) (by omega)
  unfold codec_Text.f
  refine Ev.bind (f := fun _ t => if t.size + s.size ≤ 9223372036854775807 then some (t ++ s) else none) (unsigned_ev s.size (by omega)) ?_
  exact Ev.congr (f := fun _ => some (textS s)) (fun k => by rw [if_pos (by omega)]; rfl) (Ev.now _)
def catS : List ByteArray → ByteArray → ByteArray
  | [], b => b
  | s :: l, b => catS l (b ++ textS s)
def textsS (l : List ByteArray) : ByteArray := catS l (encU l.length)
def room : List ByteArray → Nat
  | [] => 0
  | s :: l => s.size + 10 + room l
theorem Texts_l : ∀ (l : List ByteArray) (b : ByteArray), b.size + room l < 140737488355328 → Ev (fun k => codec_Texts.l0 k l b) (catS l b)
  | [], b, _ => Ev.now _
  | s :: l, b, h => by
    rw [room] at h
    have hs := textS_size s (by omega)
    refine Ev.bind (f := fun k t => if b.size + t.size < 140737488355328 then codec_Texts.l0 k l (b ++ t) else none) (Text_ev s (by omega)) ?_
    refine Ev.congr (f := fun k => codec_Texts.l0 k l (b ++ textS s)) (fun k => by rw [if_pos (by omega)]) ?_
    exact Texts_l l _ (by rw [ByteArray.size_append]; omega)
theorem room_length : ∀ l : List ByteArray, 10 * l.length ≤ room l
  | [] => by simp [room]
  | s :: l => by have := room_length l; simp [room]; omega
theorem Texts_ev (l : List ByteArray) (h : room l + 10 < 140737488355328) : Ev (fun k => codec_Texts.f k l) (textsS l) := by
  have hl := room_length l
  have h10 := encU_size10 (n := l.length) (by omega)
  unfold codec_Texts.f
  refine Ev.bind (f := fun k t => if t.size < 140737488355328 then codec_Texts.l0 k l t else none) (unsigned_ev l.length (by omega)) ?_
  exact Ev.congr (f := fun k => codec_Texts.l0 k l (encU l.length)) (fun k => by rw [if_pos (by omega)]) (Texts_l l _ (by omega))
end Go.Proofs.Ytldkkboeaadbeaa.Pr
namespace Go.Proofs.Ytldkkboeaadbeaa.Sg
open Go.RowKit Go.Proofs.YtldkkboeaadbeaaW.PrintWords Go.Proofs.YtldkkboeaadbeaaW.PrintLast Go.Proofs.YtldkkboeaadbeaaW.PrintMore
theorem uint_calls (n : Nat) (w : World) (h : n < 9223372036854775808) :
    Calls Try.prog 15 #[.int .i64 (n : Int)] w fun e w' => e = .returned (.tuple #[.string (U n), .int .i64 0]) ∧ Below w.heap.size w w' := by
  obtain ⟨k, hk⟩ := Pr.Uint_ev (n : Int) (by omega)
  have := hk k (Nat.le_refl _)
  rw [Pr.uintS, if_neg (by omega), Int.toNat_natCast] at this
  exact Pr.codec_Uint.calls k _ _ _ w this
end Go.Proofs.Ytldkkboeaadbeaa.Sg
end
section
/- The signature scheme's numbers, chains and secrets in the program. -/
set_option linter.unusedVariables false
set_option linter.unusedSimpArgs false
namespace Go.Proofs.Ytldkkboeaadbeaa.Sg
open Go.RowKit Go.Proofs.YtldkkboeaadbeaaW.PrintWords Go.Proofs.YtldkkboeaadbeaaW.PrintLast Go.Proofs.YtldkkboeaadbeaaW.PrintMore
theorem numS_take (l : List Nat) (j : Nat) (h : j < l.length) : numS (l.take (j + 1)) = numS (l.take j) ++ U (l.getD j 0) := by
  unfold numS
  rw [List.take_succ_eq_append_getElem h, List.map_append, List.map_cons, List.map_nil, cat_snoc, List.getD_eq_getElem?_getD, List.getElem?_eq_getElem h, Option.getD_some]
set_option maxHeartbeats 1000000 in
theorem numbers_calls (l : List Nat) (b c : Nat) (w : World) (hl : l.length ≤ 100) (hn : ∀ n ∈ l, n < 9223372036854775808) (hb : b < w.heap.size)
    (hc : ∀ j, j < l.length → w.cell? ⟨b, j, none⟩ = some (.int .i64 (l.getD j 0 : Nat))) :
    Calls Try.prog 80 #[.slice (some ⟨b, 0, none⟩) l.length c] w fun e w' => e = .returned (.string (numS l)) ∧ Below w.heap.size w w' := by
  have HC := Lib.hid hc
  have HN := Lib.hid hn
  clear hc hn
  go_enter Try.func80, Try.ntmps80
  go_wp2
  go_loopw [3, 10] (fun s i wr => ∃ j : Nat, j ≤ l.length ∧ i = .int .i64 j ∧ s = .string (numS (l.take j)) ∧ Hid (Below w.heap.size w wr)) (fun _ i _ => l.length - (intOf i).toNat)
  case atStart => exact ⟨0, Nat.zero_le _, rfl, rfl, Lib.hid (Below.refl _ _)⟩
  case round =>
    obtain ⟨j, hj, rfl, rfl, HB⟩ := hrel
    by_cases hlt : j < l.length
    · have hcj : wr.cell? ⟨b, j, none⟩ = some (.int .i64 (l.getD j 0 : Nat)) := (HB.out.cell (p := ⟨b, j, none⟩) hb).trans (HC.out j hlt)
      have hmem : l.getD j 0 < 9223372036854775808 := HN.out _ (by rw [List.getD_eq_getElem?_getD, List.getElem?_eq_getElem hlt]; exact List.getElem_mem hlt)
      have hs1 : (numS (l.take j)).size ≤ 1000 := by
        have := numS_le (l.take j) (fun n hn => by have := HN.out n (List.mem_of_mem_take hn); omega)
        have h2 : (l.take j).length ≤ 100 := by rw [List.length_take]; omega
        omega
      have hs2 : (U (l.getD j 0)).size ≤ 10 := U_le (by omega)
      obtain ⟨n, hnj⟩ : ∃ n, n = l.getD j 0 := ⟨_, rfl⟩
      rw [← hnj] at hcj hmem hs2
      have HJ := Lib.hid (numS_take l j hlt)
      have HE := Lib.hid hnj
      obtain ⟨S, hS⟩ : ∃ S, S = numS (l.take j) := ⟨_, rfl⟩
      rw [← hS] at hs1 ⊢
      have HS := Lib.hid hS
      clear hnj hS
      have hbig : (9223372036854775807 < S.size + (U n).size) = False := eq_false (by omega)
      go_wp2_with (go_at_call 15; refine (uint_calls _ _ hmem).mono ?_; rintro e w1 ⟨rfl, hb1⟩)
      go_roundw
      case rel => exact ⟨j + 1, by omega, by go_num, by rw [HJ.out, ← HS.out, ← HE.out], Lib.hid (HB.out.trans (hb1.mono HB.out.size))⟩
      case measure => simp [intOf]; omega
    · have : j = l.length := by omega
      subst this
      have HT := Lib.hid (List.take_of_length_le (Nat.le_refl l.length))
      go_wp2
      go_ret
      exact ⟨by rw [HT.out]; rfl, HB.out⟩
theorem new_cells (w : World) (cs : List Value) (T : TypeId) : ∀ (j : Nat) u, cs[j]? = some u → (w.alloc (.cells cs.toArray T)).cell? ⟨w.heap.size, j, none⟩ = some u := by
  intro j u hj
  rw [cell_of_row _ _ j _ _ _ (heap_alloc_new _ _)]
  simpa using hj
theorem numbers_new (l : List Nat) (w : World) (hl : l.length ≤ 100) (hn : ∀ n ∈ l, n < 9223372036854775808) :
    Calls Try.prog 80 #[.slice (some ⟨w.heap.size, 0, none⟩) l.length l.length] (w.alloc (.cells (l.map fun n => Value.int .i64 (n : Nat)).toArray 3)) fun e w' => e = .returned (.string (numS l)) ∧ Below w.heap.size w w' := by
  refine (numbers_calls l w.heap.size l.length _ hl hn (by simp) (fun j hj => ?_)).mono ?_
  · exact new_cells w _ _ j _ (by simp [List.getD_eq_getElem?_getD, List.getElem?_eq_getElem hj])
  · rintro e w' ⟨h1, h2⟩
    exact ⟨h1, ((Below.refl _ w).alloc (Nat.le_refl _) _).trans (h2.mono (by simp))⟩
set_option maxHeartbeats 1000000 in
theorem walk_calls (x : ByteArray) (k c p n t : Nat) (w : World) (ht : p + n = t) (hx : x.size = 32) (hk : k < 4611686018427387904) (hc : c < 4611686018427387904) (hp : p < 2305843009213693952) (hn : n < 2305843009213693952) :
    Calls Try.prog 75 #[.string x, .int .i64 (k : Int), .int .i64 (c : Int), .int .i64 (p : Int), .int .i64 (t : Int)] w fun e w' => e = .returned (.string (wk k c n p x)) ∧ Below w.heap.size w w' := by
  have hsub : (t : Int) - (p : Int) = (n : Int) := by omega
  have hsub0 : (0 : Int) ≤ (n : Int) := by omega
  have HX := Lib.hid hx
  clear hx
  go_enter Try.func75, Try.ntmps75
  go_wp2
  go_loopw [0, 15] (fun s i wr => ∃ j : Nat, j ≤ n ∧ i = .int .i64 j ∧ s = .string (wk k c j p x) ∧ Hid (Below w.heap.size w wr)) (fun _ i _ => n - (intOf i).toNat)
  case atStart => exact ⟨0, Nat.zero_le _, rfl, rfl, Lib.hid (Below.refl _ _)⟩
  case round =>
    obtain ⟨j, hj, rfl, rfl, HB⟩ := hrel
    by_cases hlt : j < n
    · obtain ⟨q, hq⟩ : ∃ q, q = p + j := ⟨_, rfl⟩
      have hpj : ((p : Int) + (j : Int)) = (q : Int) := by omega
      have HW := Lib.hid (wk_snoc k c j p x)
      have hs1 := wk_size k c j p x HX.out
      obtain ⟨X, hX⟩ : ∃ X, X = wk k c j p x := ⟨_, rfl⟩
      rw [← hX] at hs1 ⊢
      have HXX := Lib.hid hX
      have hN := numS_le [k, c, q] (by intro m hm; simp at hm; omega)
      have hN' : (numS [k, c, q]).size ≤ 30 := hN
      have HN := Lib.hid (numbers_new [k, c, q] wr (by simp) (by intro m hm; simp at hm; omega))
      obtain ⟨N, hNN⟩ : ∃ N, N = numS [k, c, q] := ⟨_, rfl⟩
      rw [← hNN] at hN' HN
      have HNN := Lib.hid hNN
      have b1 : (9223372036854775807 < 1 + N.size) = False := eq_false (by omega)
      have b2 : (9223372036854775807 < 1 + N.size + X.size) = False := eq_false (by omega)
      have b3 : (9223372036854775807 < (⟨#[3]⟩ ++ N : ByteArray).size + X.size) = False := eq_false (by rw [ByteArray.size_append]; show ¬ _ < 1 + N.size + X.size; omega)
      have hsz : (⟨#[3]⟩ ++ N ++ X : ByteArray).size ≤ 140737488355328 := by rw [ByteArray.size_append, ByteArray.size_append]; show 1 + N.size + X.size ≤ _; omega
      have HS := Lib.hid hsz
      have HQ := Lib.hid hq
      have HS1 := Lib.hid hs1
      clear hsz hN hNN hX hq hs1 hN'
      go_wp2_with (first | (go_at_call 80; refine (HN.out).mono ?_; rintro e w1 ⟨rfl, hb1⟩) | (go_at_call 87; refine (Sh.sum_calls _ _ HS.out).mono ?_; rintro e w2 ⟨rfl, hb2⟩))
      go_roundw
      case rel => exact ⟨j + 1, by omega, by go_num, by rw [HW.out, ← HXX.out, ← HQ.out, step, ← HNN.out]; rfl, Lib.hid ((HB.out.trans (hb1.mono HB.out.size)).trans (hb2.mono (Nat.le_trans HB.out.size hb1.size)))⟩
      case measure => simp [intOf]; omega
    · have : j = n := by omega
      subst this
      go_wp2
      go_ret
      exact ⟨rfl, HB.out⟩
set_option maxHeartbeats 1000000 in
theorem secret_calls (seed : ByteArray) (k c : Nat) (w : World) (hx : seed.size ≤ 70368744177664) (hk : k < 4611686018427387904) (hc : c < 4611686018427387904) :
    Calls Try.prog 76 #[.string seed, .int .i64 (k : Int), .int .i64 (c : Int)] w fun e w' => e = .returned (.string (sec seed k c)) ∧ Below w.heap.size w w' := by
  have hN := numS_le [k, c] (by intro m hm; simp at hm; omega)
  have hN' : (numS [k, c]).size ≤ 20 := hN
  have HN := Lib.hid (numbers_new [k, c] w (by simp) (by intro m hm; simp at hm; omega))
  have HE := Lib.hid (show sec seed k c = H (⟨#[2]⟩ ++ seed ++ numS [k, c]) from rfl)
  obtain ⟨N, hNN⟩ : ∃ N, N = numS [k, c] := ⟨_, rfl⟩
  rw [← hNN] at hN' HN HE
  have b1 : (9223372036854775807 < 1 + seed.size) = False := eq_false (by omega)
  have b2 : (9223372036854775807 < 1 + seed.size + N.size) = False := eq_false (by omega)
  have b3 : (9223372036854775807 < (⟨#[2]⟩ ++ seed : ByteArray).size + N.size) = False := eq_false (by rw [ByteArray.size_append]; show ¬ _ < 1 + seed.size + N.size; omega)
  have hsz : (⟨#[2]⟩ ++ seed ++ N : ByteArray).size ≤ 140737488355328 := by rw [ByteArray.size_append, ByteArray.size_append]; show 1 + seed.size + N.size ≤ _; omega
  have HS := Lib.hid hsz
  clear hsz hN hNN hN' hx
  go_enter Try.func76, Try.ntmps76
  go_wp2_with (first | (go_at_call 80; refine (HN.out).mono ?_; rintro e w1 ⟨rfl, hb1⟩) | (go_at_call 87; refine (Sh.sum_calls _ _ HS.out).mono ?_; rintro e w2 ⟨rfl, hb2⟩))
  go_ret
  exact ⟨by rw [HE.out]; rfl, hb1.trans (hb2.mono hb1.size)⟩
end Go.Proofs.Ytldkkboeaadbeaa.Sg
end
section
/- The tree of hashes in the program: digests, hash, Leaf, Node, split. -/
set_option linter.unusedVariables false
set_option linter.unusedSimpArgs false
namespace Go.Proofs.Ytldkkboeaadbeaa.Sg
open Go.RowKit Go.Proofs.YtldkkboeaadbeaaW.PrintWords Go.Proofs.YtldkkboeaadbeaaW.PrintLast Go.Proofs.YtldkkboeaadbeaaW.PrintMore
/-- a slice that reads as a list of strings -/
abbrev Strs (w : World) (A : Option Addr) (n : Nat) (l : List ByteArray) : Prop := ReadsOf Value.string ByteArray.empty w A n l
theorem digest_calls (s : ByteArray) (w : World) :
    Calls Try.prog 99 #[.string s] w fun e w' => e = .returned (.bool (decide (s.size = 32))) ∧ w = w' := by
  by_cases h : s.size = 32
  · have hd : decide (s.size = 32) = true := decide_eq_true h
    go_enter Try.func99, Try.ntmps99
    go_wp2
    go_ret
    exact ⟨by simp [h], rfl⟩
  · have hd : decide (s.size = 32) = false := decide_eq_false h
    go_enter Try.func99, Try.ntmps99
    go_wp2
    go_ret
    refine ⟨?_, rfl⟩
    simp [h]
    try omega
theorem valid1_calls (s : ByteArray) (w : World) :
    Calls Try.prog 112 #[.string s] w fun e w' => e = .returned (.bool (!decide (s.size = 32))) ∧ w = w' := by
  go_enter Try.func112, Try.ntmps112
  go_wp2_with (go_at_call 99; refine (digest_calls _ _).mono ?_; rintro e w1 ⟨rfl, rfl⟩)
  go_ret
  exact ⟨rfl, rfl⟩
theorem undigested_calls (s : ByteArray) (w : World) :
    Calls Try.prog 79 #[.string s] w fun e w' => e = .returned (.bool (!decide (s.size = 32))) ∧ w = w' := by
  by_cases h : s.size = 32
  · go_enter Try.func79, Try.ntmps79
    go_wp2
    go_ret
    exact ⟨by simp [h], rfl⟩
  · go_enter Try.func79, Try.ntmps79
    go_wp2
    go_ret
    refine ⟨?_, rfl⟩
    simp [h]
    try omega
def IdxPost (l : List ByteArray) (e : Ending) : Prop := ∃ i : Int, e = .returned (.int .i64 i) ∧ decide (0 ≤ i) = !dgst l
theorem strs_at {w : World} {A : Option Addr} {n : Nat} {l : List ByteArray} (h : Strs w A n l) (j : Nat) (hj : j < l.length) : ∃ ad, A = some ad ∧ w.cell? (ad.add j) = some (.string l[j]) := by
  obtain ⟨ad, e, hc⟩ := h.2.2 (by have := h.1; omega)
  refine ⟨ad, e, ?_⟩
  rw [hc j (by have := h.1; omega), List.getD_eq_getElem?_getD, List.getElem?_eq_getElem hj]; rfl
set_option maxHeartbeats 1000000 in
theorem indexFunc_calls (g : Nat) (hg : g = 112 ∨ g = 79) (A : Option Addr) (c : Nat) (l : List ByteArray) (w : World) (hr : Strs w A l.length l) :
    Calls Try.prog 98 #[.slice A l.length c, .func (.func g) #[] #[]] w fun e w' => IdxPost l e ∧ w = w' := by
  have hm : l.length ≤ 9223372036854775807 := hr.2.1
  have HR := Lib.hid hr
  clear hr
  rcases hg with rfl | rfl
  all_goals
    go_enter Try.func98, Try.ntmps98
    go_wp2
    go_loop [8] (fun i => ∃ j : Nat, j ≤ l.length ∧ i = .int .i64 j ∧ Hid (dgst (l.take j) = true)) (fun i => l.length - (intOf i).toNat)
    case atStart => exact ⟨0, Nat.zero_le _, rfl, Lib.hid rfl⟩
    case round =>
      obtain ⟨j, hj, rfl, HD⟩ := hrel
      by_cases hlt : j < l.length
      · obtain ⟨ad, rfl, hc⟩ := strs_at HR.out j hlt
        by_cases hs : l[j].size = 32
        · have HD2 := Lib.hid (show dgst (l.take (j + 1)) = true by rw [List.take_succ_eq_append_getElem hlt, dgst, List.all_append]; simp only [Bool.and_eq_true]; exact ⟨HD.out, by simp [hs]⟩)
          have hdd : decide (l[j].size = 32) = true := decide_eq_true hs
          obtain ⟨s, hse⟩ : ∃ s, s = l[j] := ⟨_, rfl⟩
          rw [← hse] at hc hdd
          clear hs hse
          go_wp2_with (first | (go_at_call 112; refine (valid1_calls _ _).mono ?_; rintro e w1 ⟨rfl, rfl⟩) | (go_at_call 79; refine (undigested_calls _ _).mono ?_; rintro e w1 ⟨rfl, rfl⟩))
          go_round
          case rel => exact ⟨j + 1, by omega, by go_num, HD2⟩
          case measure => simp [intOf]; omega
        · have HF := Lib.hid (show dgst l = false by
            rw [Bool.eq_false_iff]; intro h; exact hs ((dgst_iff l).1 h _ (List.getElem_mem hlt)))
          have hdd : decide (l[j].size = 32) = false := decide_eq_false hs
          obtain ⟨s, hse⟩ : ∃ s, s = l[j] := ⟨_, rfl⟩
          rw [← hse] at hc hdd
          clear hs hse
          go_wp2_with (first | (go_at_call 112; refine (valid1_calls _ _).mono ?_; rintro e w1 ⟨rfl, rfl⟩) | (go_at_call 79; refine (undigested_calls _ _).mono ?_; rintro e w1 ⟨rfl, rfl⟩))
          go_ret
          exact ⟨⟨j, rfl, by rw [HF.out]; simp⟩, rfl⟩
      · have : j = l.length := by omega
        subst this
        have HT := Lib.hid (show dgst l = true by have := HD.out; rwa [List.take_length] at this)
        go_wp2
        go_ret
        exact ⟨⟨-1, rfl, by rw [HT.out]; rfl⟩, rfl⟩
set_option maxHeartbeats 1000000 in
theorem containsFunc_calls (g : Nat) (hg : g = 112 ∨ g = 79) (A : Option Addr) (c : Nat) (l : List ByteArray) (w : World) (hr : Strs w A l.length l) :
    Calls Try.prog 78 #[.slice A l.length c, .func (.func g) #[] #[]] w fun e w' => e = .returned (.bool (!dgst l)) ∧ w = w' := by
  go_enter Try.func78, Try.ntmps78
  go_wp2_with (go_at_call 98; refine (indexFunc_calls g hg A c l _ hr).mono ?_; rintro e w1 ⟨⟨i, rfl, hi⟩, rfl⟩; have HI := Lib.hid hi; clear hi)
  go_ret
  exact ⟨by rw [← HI.out]; rfl, rfl⟩
theorem valid_calls (A : Option Addr) (c : Nat) (l : List ByteArray) (w : World) (hr : Strs w A l.length l) :
    Calls Try.prog 93 #[.slice A l.length c] w fun e w' => e = .returned (.bool (decide (l.length ≤ 4096) && dgst l)) ∧ w = w' := by
  by_cases h : l.length ≤ 4096
  · go_enter Try.func93, Try.ntmps93
    go_wp2_with (go_at_call 78; refine (containsFunc_calls _ (.inl rfl) A c l _ hr).mono ?_; rintro e w1 ⟨rfl, rfl⟩)
    go_ret
    exact ⟨by simp [h], rfl⟩
  · go_enter Try.func93, Try.ntmps93
    go_wp2
    go_ret
    exact ⟨by simp [h], rfl⟩
theorem join_cat : ∀ (l : List ByteArray) (b : ByteArray), (cat l b) = b ++ ⟨(Lib.join (l.map (·.data.toList)) []).toArray⟩
  | [], b => by apply ByteArray.ext; simp [cat, Lib.join_nil, ByteArray.data_append]
  | x :: l, b => by
    rw [cat, join_cat l, List.map_cons, Lib.join_cons]
    apply ByteArray.ext
    simp only [ByteArray.data_append]
    have : ∀ l : List (List UInt8), Lib.joinTail [] l = Lib.join l [] := by
      intro l
      cases l with
      | nil => rfl
      | cons y r => rw [Lib.join_cons]; simp [Lib.joinTail]
    rw [this]
    apply Array.ext'
    simp
theorem join_size (l : List ByteArray) : (Lib.join (l.map (·.data.toList)) []).length = (cat l ⟨#[]⟩).size := by
  rw [join_cat, ByteArray.size_append]
  show _ = 0 + _
  simp [ByteArray.size]
set_option maxHeartbeats 1000000 in
theorem hash_calls (kind : ByteArray) (l : List ByteArray) (bk c : Nat) (w : World) (hk : kind.size ≤ 1000000) (hl : l.length ≤ 1000000) (hc : l.length ≤ c) (hbk : bk < w.heap.size) (hz : (cat l ⟨#[]⟩).size ≤ 70368744177664)
    (hcells : ∀ (j : Nat) x, l[j]? = some x → w.cell? ⟨bk, 0 + j, none⟩ = some (.string x)) :
    Calls Try.prog 101 #[.string kind, .slice (some ⟨bk, 0, none⟩) l.length c] w fun e w' => e = .returned (.string (H (kind ++ cat l ⟨#[]⟩))) ∧ Below w.heap.size w w' := by
  have hj := join_cat l ⟨#[]⟩
  have he : (⟨#[]⟩ : ByteArray) ++ ⟨(Lib.join (l.map (·.data.toList)) []).toArray⟩ = ⟨(Lib.join (l.map (·.data.toList)) []).toArray⟩ := by apply ByteArray.ext; simp
  rw [he] at hj
  have HJ := Lib.hid ((Try.strings_Join bk 0 c l ⟨#[]⟩ w hcells hbk (by omega) hc (by rw [show (⟨#[]⟩ : ByteArray).data.toList = [] from rfl, join_size]; omega)))
  rw [show (⟨#[]⟩ : ByteArray).data.toList = [] from rfl, ← hj] at HJ
  obtain ⟨X, hX⟩ : ∃ X, X = cat l ⟨#[]⟩ := ⟨_, rfl⟩
  rw [← hX] at HJ hz ⊢
  have hb : (9223372036854775807 < kind.size + X.size) = False := eq_false (by omega)
  have HS := Lib.hid (show (kind ++ X : ByteArray).size ≤ 140737488355328 by rw [ByteArray.size_append]; omega)
  clear hj he hX hcells hz hk
  go_enter Try.func101, Try.ntmps101
  go_wp2_with (first | (go_at_call 115; refine HJ.out.mono ?_; rintro e w1 ⟨rfl, hb1⟩) | (go_at_call 87; refine (Sh.sum_calls _ _ HS.out).mono ?_; rintro e w2 ⟨rfl, hb2⟩))
  go_ret
  exact ⟨rfl, hb1.trans (hb2.mono hb1.size)⟩
theorem hash_new (kind : ByteArray) (l : List ByteArray) (w : World) (hk : kind.size ≤ 1000000) (hl : l.length ≤ 1000000) (hz : (cat l ⟨#[]⟩).size ≤ 70368744177664) :
    Calls Try.prog 101 #[.string kind, .slice (some ⟨w.heap.size, 0, none⟩) l.length l.length] (w.alloc (.cells (l.map Value.string).toArray 9)) fun e w' => e = .returned (.string (H (kind ++ cat l ⟨#[]⟩))) ∧ Below w.heap.size w w' := by
  refine (hash_calls kind l w.heap.size l.length _ hk hl (Nat.le_refl _) (by simp) hz (fun j x hj => ?_)).mono ?_
  · rw [Nat.zero_add]
    exact new_cells w _ _ j _ (by simp [hj])
  · rintro e w' ⟨h1, h2⟩
    exact ⟨h1, ((Below.refl _ w).alloc (Nat.le_refl _) _).trans (h2.mono (by simp))⟩
theorem leaf_calls (b : ByteArray) (w : World) (hb : b.size ≤ 70368744177664) :
    Calls Try.prog 82 #[.string b] w fun e w' => e = .returned (.string (leafH b)) ∧ Below w.heap.size w w' := by
  have hc : cat [b] ⟨#[]⟩ = b := by show ⟨#[]⟩ ++ b = b; apply ByteArray.ext; simp
  have HH := Lib.hid (hash_new ⟨#[0]⟩ [b] w (by show 1 ≤ _; omega) (by simp) (by rw [hc]; exact hb))
  rw [hc] at HH
  clear hc
  go_enter Try.func82, Try.ntmps82
  go_wp2_with (go_at_call 101; refine HH.out.mono ?_; rintro e w1 ⟨rfl, hb1⟩)
  go_ret
  exact ⟨rfl, hb1⟩
theorem node_calls (l r : ByteArray) (w : World) :
    Calls Try.prog 114 #[.string l, .string r] w fun e w' => e = .returned (.string (node l r)) ∧ Below w.heap.size w w' := by
  by_cases h1 : l.size = 32
  · by_cases h2 : r.size = 32
    · have hc : cat [l, r] ⟨#[]⟩ = l ++ r := by show (⟨#[]⟩ ++ l) ++ r = l ++ r; congr 1
      have HH := Lib.hid (hash_new ⟨#[1]⟩ [l, r] w (by show 1 ≤ _; omega) (by simp) (by rw [hc, ByteArray.size_append]; omega))
      rw [hc] at HH
      have HN := Lib.hid (show node l r = H (⟨#[1]⟩ ++ (l ++ r)) by rw [node, if_pos ⟨h1, h2⟩])
      have d1 : decide (l.size = 32) = true := decide_eq_true h1
      have d2 : decide (r.size = 32) = true := decide_eq_true h2
      clear hc h1 h2
      go_enter Try.func114, Try.ntmps114
      go_wp2_with (first | (go_at_call 99; refine (digest_calls _ _).mono ?_; rintro e w1 ⟨rfl, rfl⟩) | (go_at_call 101; refine HH.out.mono ?_; rintro e w1 ⟨rfl, hb1⟩))
      go_ret
      exact ⟨by rw [HN.out]; rfl, hb1⟩
    · have HN := Lib.hid (show node l r = ⟨#[]⟩ by rw [node, if_neg (fun h => h2 h.2)])
      have d1 : decide (l.size = 32) = true := decide_eq_true h1
      have d2 : decide (r.size = 32) = false := decide_eq_false h2
      clear h1 h2
      go_enter Try.func114, Try.ntmps114
      go_wp2_with (go_at_call 99; refine (digest_calls _ _).mono ?_; rintro e w1 ⟨rfl, rfl⟩)
      go_ret
      exact ⟨by rw [HN.out]; rfl, Below.refl _ _⟩
  · have HN := Lib.hid (show node l r = ⟨#[]⟩ by rw [node, if_neg (fun h => h1 h.1)])
    have d1 : decide (l.size = 32) = false := decide_eq_false h1
    clear h1
    go_enter Try.func114, Try.ntmps114
    go_wp2_with (go_at_call 99; refine (digest_calls _ _).mono ?_; rintro e w1 ⟨rfl, rfl⟩)
    go_ret
    exact ⟨by rw [HN.out]; rfl, Below.refl _ _⟩
end Go.Proofs.Ytldkkboeaadbeaa.Sg
end
section
/- A region that draws its order, walked in one order of one's own choosing: what yields in every world (or wherever S holds) first, the rest as it must come. -/
set_option linter.unusedVariables false
set_option linter.unusedSimpArgs false
namespace Go.Proofs.Ytldkkboeaadbeaa.Sd
open Go Go.RowKit Go.Proofs.YtldkkboeaadbeaaW.PrintLast
section
variable {P : Program} {ops : Array Oper} {Q : Exit → Act → World → Prop} {S : World → Prop} {F : Act → World → Prop}
def pureUpon (w : World) (v : Value) : Result Next → Prop
  | .ok (.value u) w' => w' = w ∧ u = v
  | _ => False
def pureAt (P : Program) (o : Oper) (a : Act) (w : World) (v : Value) : Prop := pureUpon w v ((execOp a.eval o).run P w)
def pureq (P : Program) (o : Oper) (a : Act) (S : World → Prop) (next : Act → Prop) : Prop := ∃ v, (∀ w, S w → pureAt P o a w v) ∧ next (a.put o.dst v)
theorem pureUpon_eq {w : World} {v : Value} {r : Result Next} (h : pureUpon w v r) : r = .ok (.value v) w := by
  unfold pureUpon at h
  split at h
  · obtain ⟨rfl, rfl⟩ := h; rfl
  · exact h.elim
/-- kinds: 0 yields in every world; 1 yields where S holds; 2 comes alone, S behind it; 3 comes alone, S no more -/
def wpS (P : Program) (ops : Array Oper) (Q : Exit → Act → World → Prop) (S : World → Prop) (F : Act → World → Prop) : List (Nat × Nat) → Act → World → Prop
  | [], a, w => F a w
  | (i, k) :: r, a, w => ∃ o, ops[i]? = some o ∧ match k with
    | 0 => if Region.wanted o (yielded ops a.tmps) = true then pureq P o a (fun _ => True) (fun a' => wpS P ops Q S F r a' w) else wpS P ops Q S F r (a.put o.dst undef) w
    | 1 => if Region.wanted o (yielded ops a.tmps) = true then pureq P o a S (fun a' => wpS P ops Q S F r a' w) else wpS P ops Q S F r (a.put o.dst undef) w
    | 2 => if Region.wanted o (yielded ops a.tmps) = true then Oper.wp P o a w (fun a' w' => S w' ∧ wpS P ops Q S F r a' w') Q else S w ∧ wpS P ops Q S F r (a.put o.dst undef) w
    | _ => if Region.wanted o (yielded ops a.tmps) = true then Oper.wp P o a w (fun a' w' => wpS P ops Q S F r a' w') Q else wpS P ops Q S F r (a.put o.dst undef) w
theorem nil {a : Act} {w : World} (h : F a w) : wpS P ops Q S F [] a w := h
theorem s0 {i : Nat} {o : Oper} {r : List (Nat × Nat)} {a : Act} {w : World} (hi : ops[i]? = some o)
    (h : ∀ K : Act → Prop, (∀ a, wpS P ops Q S F r a w → K a) → if Region.wanted o (yielded ops a.tmps) = true then pureq P o a (fun _ => True) K else K (a.put o.dst undef)) : wpS P ops Q S F ((i, 0) :: r) a w :=
  ⟨o, hi, h _ (fun _ h => h)⟩
theorem s1 {i : Nat} {o : Oper} {r : List (Nat × Nat)} {a : Act} {w : World} (hi : ops[i]? = some o)
    (h : ∀ K : Act → Prop, (∀ a, wpS P ops Q S F r a w → K a) → if Region.wanted o (yielded ops a.tmps) = true then pureq P o a S K else K (a.put o.dst undef)) : wpS P ops Q S F ((i, 1) :: r) a w :=
  ⟨o, hi, h _ (fun _ h => h)⟩
theorem s2 {i : Nat} {o : Oper} {r : List (Nat × Nat)} {a : Act} {w : World} (hi : ops[i]? = some o)
    (h : ∀ K : Act → World → Prop, (∀ a w, S w → wpS P ops Q S F r a w → K a w) → if Region.wanted o (yielded ops a.tmps) = true then Oper.wp P o a w K Q else K (a.put o.dst undef) w) : wpS P ops Q S F ((i, 2) :: r) a w :=
  ⟨o, hi, h _ (fun _ _ h1 h2 => ⟨h1, h2⟩)⟩
theorem s3 {i : Nat} {o : Oper} {r : List (Nat × Nat)} {a : Act} {w : World} (hi : ops[i]? = some o)
    (h : ∀ K : Act → World → Prop, (∀ a w, wpS P ops Q S F r a w → K a w) → if Region.wanted o (yielded ops a.tmps) = true then Oper.wp P o a w K Q else K (a.put o.dst undef) w) : wpS P ops Q S F ((i, 3) :: r) a w :=
  ⟨o, hi, h _ (fun _ _ h => h)⟩
/-- append onto a row of the call's own -/
theorem append_ {K : Act → World → Prop} {o : Oper} {a : Act} {W : World} (base : Nat) (hw : Region.wanted o (yielded ops a.tmps) = true) (s x : Operand) (t e : TypeId) (z : Value) (size bytes : Nat)
    (ho : o.op = .call { callee := .builtin .append, args := #[s, x], argTypes := #[t, t] })
    (ht : P.underlying t = some (.slice e)) (hinfo : (P.info? e).map (fun i => (i.zero, i.size, i.bytes)) = some (some z, size, bytes)) (hz : z.cells.size = size) (hs0 : 0 < size)
    (v : Value) (n : Nat) (xs : List Value) (A : Addr) (m c : Nat) (news : List Value) (hs : a.eval s = v) (hx : a.eval x = .slice (some A) m c) (hl : news.length = m * size) (hnews : ∀ j u, news[j]? = some u → W.cell? (A.add j) = some u) (h1 : ∀ u ∈ news, u.oneCell' = true)
    (HO : W.ownsRow base e size v n xs) (h63 : n + m ≤ maxLen) (hbytes : (n + m) * bytes ≤ 140737488355328) (hbase : base ≤ W.heap.size)
    (h : ∀ v1 w1, w1.ownsRow base e size v1 (n + m) (xs ++ news) → W.grownBy w1 v.ownBlock → K (a.put o.dst v1) w1) :
    if Region.wanted o (yielded ops a.tmps) = true then Oper.wp P o a W K Q else K (a.put o.dst undef) W := by
  obtain ⟨i0, hi, hzz⟩ := Option.map_eq_some_iff.1 hinfo
  simp only [Prod.mk.injEq] at hzz
  obtain ⟨hz0, hz1, hz2⟩ := hzz
  rw [if_pos hw]
  obtain ⟨v1, w1, hr, hown, hg, _, _⟩ := run_append_own_at (P := P) (w := W) base t o.type e i0 z size bytes ht hi hz0 hz1 hz2 hz hs0 v n xs HO A m c news hl hnews h1 h63 hbytes hbase
  unfold Oper.wp execOp
  simp only [ho, resolve, invoke, builtin, Sem.run_bind, Sem.run_pure, Result.andThen_ok, List.map_toArray, List.map_cons, List.map_nil, hs, hx, hr]
  exact h v1 w1 hown hg
def runT (T : Bool × List (List Nat × List Nat)) (ds : List Nat) : List (Nat × Nat) → List Bool → Bool → Option (List Bool × Bool)
  | [], l, b => some (l, b)
  | (i, 0) :: r, l, b => if anyT T l (l.set i true) i = true then runT T ds r (l.set i true) b else none
  | (i, 1) :: r, l, b => if (b && takeT T ds l (l.set i true) i) = true then runT T ds r (l.set i true) b else none
  | (i, 2) :: r, l, b => if (readyT T.2 l == [i] && !ds.contains i) = true then runT T ds r (l.set i true) b else none
  | (i, _ + 3) :: r, l, _ => if (readyT T.2 l == [i] && ds.contains i) = true then runT T ds r (l.set i true) false else none
theorem put_any (hQ : ∀ c (a : Act) (n : Tmp) v w, Q (.panic c) (a.put (some n) v) w → Q (.panic c) a w) {c : _} {a : Act} {n : Option Tmp} {v : Value} {w : World} (h : Q (.panic c) (a.put n v) w) : Q (.panic c) a w := by
  cases n with
  | none => exact h
  | some n => exact hQ _ _ _ _ _ h
theorem sound {ds : List Nat} (hQ : ∀ c (a : Act) (n : Tmp) v w, Q (.panic c) (a.put (some n) v) w → Q (.panic c) a w) : ∀ (σ : List (Nat × Nat)) (m : Nat) (l l' : Array Bool) (b b' : Bool) (a : Act) (w : World),
    runT (rtab .any ops) ds σ l.toList b = some (l'.toList, b') → (b = true → S w) → (∀ a w, (b' = true → S w) → F a w → wpAnyLast P .any ops Q S ds m l' a w) → wpS P ops Q S F σ a w → wpAnyLast P .any ops Q S ds (m + σ.length) l a w
  | [], m, l, l', b, b', a, w, hk, hS, hF, h => by
    simp only [runT, Option.some.injEq, Prod.mk.injEq] at hk
    obtain ⟨h1, rfl⟩ := hk
    obtain rfl := Array.ext' h1
    exact hF a w hS h
  | (i, k) :: r, m, l, l', b, b', a, w, hk, hS, hF, h => by
    obtain ⟨o, hi, h⟩ := h
    have hset : (l.setIfInBounds i true).toList = l.toList.set i true := Array.toList_setIfInBounds
    match k, hk, h with
    | 0, hk, h =>
      simp only [runT] at hk
      split at hk
      · rename_i h1
        have h1' : anyT (rtab .any ops) l.toList (l.setIfInBounds i true).toList i = true := by rw [hset]; exact h1
        have hc := any_of (l := l) (l' := l.setIfInBounds i true) rfl h1'
        by_cases hw : Region.wanted o (yielded ops a.tmps) = true
        · simp only [hw, if_true] at h
          obtain ⟨v, hv, h⟩ := h
          exact pure_ _ hi rfl hc (fun _ _ _ h => put_any hQ h) (.inl ⟨hw, fun w => pureUpon_eq (hv w trivial)⟩) rfl (sound hQ r m _ l' b b' _ w (by rw [hset]; exact hk) hS hF h)
        · simp only [hw] at h
          exact pure_ _ hi rfl hc (fun _ _ _ h => put_any hQ h) (.inr ⟨by simpa using hw, rfl⟩) rfl (sound hQ r m _ l' b b' _ w (by rw [hset]; exact hk) hS hF h)
      · cases hk
    | 1, hk, h =>
      simp only [runT] at hk
      split at hk
      · rename_i h1
        simp only [Bool.and_eq_true] at h1
        obtain ⟨hb, h1⟩ := h1
        have h1' : takeT (rtab .any ops) ds l.toList (l.setIfInBounds i true).toList i = true := by rw [hset]; exact h1
        have hc := take_of (l := l) (l' := l.setIfInBounds i true) rfl h1'
        by_cases hw : Region.wanted o (yielded ops a.tmps) = true
        · simp only [hw, if_true] at h
          obtain ⟨v, hv, h⟩ := h
          exact take_ _ hi rfl hc (fun _ _ _ h => put_any hQ h) (.inl ⟨hw, fun w hw => pureUpon_eq (hv w hw)⟩) (hS hb) rfl (sound hQ r m _ l' b b' _ w (by rw [hset]; exact hk) hS hF h)
        · simp only [hw] at h
          exact take_ _ hi rfl hc (fun _ _ _ h => put_any hQ h) (.inr ⟨by simpa using hw, rfl⟩) (hS hb) rfl (sound hQ r m _ l' b b' _ w (by rw [hset]; exact hk) hS hF h)
      · cases hk
    | 2, hk, h =>
      simp only [runT] at hk
      split at hk
      · rename_i h1
        simp only [Bool.and_eq_true, Bool.not_eq_true'] at h1
        obtain ⟨h1, hd⟩ := h1
        have hc := one_of (l' := l.setIfInBounds i true) (i := i) rfl (by rw [Bool.and_eq_true]; exact ⟨h1, by rw [hset]; exact beq_self_eq_true _⟩)
        refine one_ _ hi rfl hc (by simpa using hd) (fun K hK => ?_)
        by_cases hw : Region.wanted o (yielded ops a.tmps) = true
        · simp only [hw, if_true] at h ⊢
          exact Oper.wp_mono (fun a' w' ⟨h3, h4⟩ => hK.out _ _ h3 (fun h5 => sound hQ r m _ l' b b' _ w' (by rw [hset]; exact hk) (fun _ => h5) hF h4)) h
        · simp only [hw] at h ⊢
          exact hK.out _ _ h.1 (fun h5 => sound hQ r m _ l' b b' _ w (by rw [hset]; exact hk) (fun _ => h5) hF h.2)
      · cases hk
    | k + 3, hk, h =>
      simp only [runT] at hk
      split at hk
      · rename_i h1
        simp only [Bool.and_eq_true] at h1
        obtain ⟨h1, hd⟩ := h1
        have hc := one_of (l' := l.setIfInBounds i true) (i := i) rfl (by rw [Bool.and_eq_true]; exact ⟨h1, by rw [hset]; exact beq_self_eq_true _⟩)
        refine last_ _ hi rfl hc (by simpa using hd) (fun K hK => ?_)
        by_cases hw : Region.wanted o (yielded ops a.tmps) = true
        · simp only [hw, if_true] at h ⊢
          exact Oper.wp_mono (fun a' w' h4 => hK.out _ _ (sound hQ r m _ l' false b' _ w' (by rw [hset]; exact hk) (fun h => by cases h) hF h4)) h
        · simp only [hw] at h ⊢
          exact hK.out _ _ (sound hQ r m _ l' false b' _ w (by rw [hset]; exact hk) (fun h => by cases h) hF h)
      · cases hk
/-- a tree of orders: a piece that comes in one order, then an end or two operations that may come in either order -/
inductive Tr where
  | seq : List (Nat × Nat) → Tr
  | two : List (Nat × Nat) → Nat → Nat → Tr → Tr → Tr
def wpT (P : Program) (ops : Array Oper) (Q : Exit → Act → World → Prop) (S : World → Prop) : Tr → Act → World → Prop
  | .seq σ, a, w => wpS P ops Q S (Q .normal) σ a w
  | .two σ i j ti tj, a, w => wpS P ops Q S (fun a w => wpS P ops Q S (wpT P ops Q S ti) [(i, 2)] a w ∧ wpS P ops Q S (wpT P ops Q S tj) [(j, 2)] a w) σ a w
def okTr (T : Bool × List (List Nat × List Nat)) (ds : List Nat) : Tr → Nat → List Bool → Bool → Bool
  | .seq σ, n, l, b => match runT T ds σ l b with
    | some (l', _) => σ.length ≤ n && readyT T.2 l' == []
    | none => false
  | .two σ i j ti tj, n, l, b => match runT T ds σ l b with
    | some (l', b') => b' && σ.length + 1 ≤ n && readyT T.2 l' == [i, j] && !ds.contains i && !ds.contains j && okTr T ds ti (n - σ.length - 1) (l'.set i true) true && okTr T ds tj (n - σ.length - 1) (l'.set j true) true
    | none => false
theorem one_step {i : Nat} {a : Act} {w : World} {G : Act → World → Prop} {K : Act → World → Prop} (hK : ∀ a w, S w → G a w → K a w) (h : wpS P ops Q S G [(i, 2)] a w) :
    ∃ oi, ops[i]? = some oi ∧ if Region.wanted oi (yielded ops a.tmps) = true then Oper.wp P oi a w K Q else K (a.put oi.dst undef) w := by
  obtain ⟨o, hi, h⟩ := h
  refine ⟨o, hi, ?_⟩
  by_cases hw : Region.wanted o (yielded ops a.tmps) = true
  · simp only [hw, if_true] at h ⊢
    exact Oper.wp_mono (fun a' w' ⟨h3, h4⟩ => hK _ _ h3 h4) h
  · simp only [hw] at h ⊢
    exact hK _ _ h.1 h.2
theorem soundT {ds : List Nat} (hQ : ∀ c (a : Act) (n : Tmp) v w, Q (.panic c) (a.put (some n) v) w → Q (.panic c) a w) : ∀ (t : Tr) (n : Nat) (l : Array Bool) (b : Bool) (a : Act) (w : World),
    okTr (rtab .any ops) ds t n l.toList b = true → (b = true → S w) → wpT P ops Q S t a w → wpAnyLast P .any ops Q S ds n l a w
  | .seq σ, n, l, b, a, w, hk, hS, h => by
    simp only [okTr] at hk
    split at hk
    · rename_i l' b' hr
      simp only [Bool.and_eq_true, decide_eq_true_eq] at hk
      obtain ⟨h1, h2⟩ := hk
      have := sound hQ σ (n - σ.length) l l'.toArray b b' a w (by simpa using hr) hS (fun a w _ hq => done_ (by rw [ready_eq]; simpa using h2) hq) h
      rwa [Nat.sub_add_cancel h1] at this
    · cases hk
  | .two σ i j ti tj, n, l, b, a, w, hk, hS, h => by
    simp only [okTr] at hk
    split at hk
    · rename_i l' b' hr
      simp only [Bool.and_eq_true, decide_eq_true_eq, Bool.not_eq_true'] at hk
      obtain ⟨⟨⟨⟨⟨⟨h0, h1⟩, h2⟩, h3⟩, h4⟩, h5⟩, h6⟩ := hk
      have hti : (l'.toArray.setIfInBounds i true).toList = l'.set i true := by rw [Array.toList_setIfInBounds]
      have htj : (l'.toArray.setIfInBounds j true).toList = l'.set j true := by rw [Array.toList_setIfInBounds]
      have := sound hQ σ (n - σ.length) l l'.toArray b b' a w (by simpa using hr) hS (fun a w hs ⟨hq1, hq2⟩ => by
        obtain ⟨oi, hi, _⟩ := one_step (K := fun _ _ => True) (fun _ _ _ _ => trivial) hq1
        obtain ⟨oj, hj, _⟩ := one_step (K := fun _ _ => True) (fun _ _ _ _ => trivial) hq2
        rw [show n - σ.length = (n - σ.length - 1) + 1 by omega]
        refine two_ (l'.toArray.setIfInBounds i true) (l'.toArray.setIfInBounds j true) hi hj rfl rfl (two_of rfl (by rw [hti, htj]; simp only [Bool.and_eq_true]; exact ⟨⟨h2, beq_self_eq_true _⟩, beq_self_eq_true _⟩)) (by simpa using h3) (by simpa using h4) (fun K hK => ?_) (fun K hK => ?_)
        · obtain ⟨o, ho, hx⟩ := one_step (K := K) (fun a w hs hg => hK.out _ _ hs (fun hs => soundT hQ ti _ _ true a w (by rw [hti]; exact h5) (fun _ => hs) hg)) hq1
          rw [hi] at ho
          cases ho
          exact hx
        · obtain ⟨o, ho, hx⟩ := one_step (K := K) (fun a w hs hg => hK.out _ _ hs (fun hs => soundT hQ tj _ _ true a w (by rw [htj]; exact h6) (fun _ => hs) hg)) hq2
          rw [hj] at ho
          cases ho
          exact hx) h
      rwa [Nat.sub_add_cancel (by omega)] at this
    · cases hk
def okS (ops : Array Oper) (σ : List (Nat × Nat)) : Bool :=
  okTr (rtab .any ops) ((σ.filter fun p => p.2 == 3).map (·.1)) (.seq σ) ops.size (List.replicate ops.size false) true
theorem region {id : Nat} {a : Act} {w : World} {l : List Oper} (S : World → Prop) (σ : List (Nat × Nat)) (hm : P.follows .mixedOrders = true) (hk : okS l.toArray σ = true)
    (hQ : ∀ c (a : Act) (n : Tmp) v w, Q (.panic c) (a.put (some n) v) w → Q (.panic c) a w) (hS : S w.drew) (h : wpS P l.toArray Q S (Q .normal) σ a w.drew) : (Code.region id l.toArray true).wp P Q a w :=
  wp_region_last hm (S := S) (ds := (σ.filter fun p => p.2 == 3).map (·.1)) (soundT hQ (.seq σ) _ _ true a w.drew (by rw [Array.toList_replicate]; exact hk) (fun _ => hS) h)
theorem regionT {id : Nat} {a : Act} {w : World} {l : List Oper} (S : World → Prop) (ds : List Nat) (t : Tr) (hm : P.follows .mixedOrders = true) (hk : okTr (rtab .any l.toArray) ds t l.toArray.size (List.replicate l.toArray.size false) true = true)
    (hQ : ∀ c (a : Act) (n : Tmp) v w, Q (.panic c) (a.put (some n) v) w → Q (.panic c) a w) (hS : S w.drew) (h : wpT P l.toArray Q S t a w.drew) : (Code.region id l.toArray true).wp P Q a w :=
  wp_region_last hm (S := S) (ds := ds) (soundT hQ t _ _ true a w.drew (by rw [Array.toList_replicate]; exact hk) (fun _ => hS) h)
/-- nothing but the normal way out -/
def calm (Q : Exit → Act → World → Prop) : Exit → Act → World → Prop := fun e a w => e = .normal ∧ Q e a w
theorem nilC {a : Act} {w : World} (h : Q .normal a w) : wpS P ops (calm Q) S ((calm Q) .normal) [] a w := ⟨rfl, h⟩
theorem anyC {l : List Oper} {a : Act} {w : World} (S : World → Prop) (σ : List (Nat × Nat)) (hk : okS l.toArray σ = true) (hS : S w)
    (h : wpS P l.toArray (calm Q) S ((calm Q) .normal) σ a w) : wpAny P .any l.toArray (calm Q) l.toArray.size (Array.replicate l.toArray.size false) a w :=
  wpAny_of_last (S := S) (ds := (σ.filter fun p => p.2 == 3).map (·.1)) _ _ _ _ (soundT (fun c a n v w h => nomatch h.1) (.seq σ) _ _ true a w (by rw [Array.toList_replicate]; exact hk) (fun _ => hS) h)
theorem regionC {id : Nat} {a : Act} {w : World} {l : List Oper} (S : World → Prop) (σ : List (Nat × Nat)) (hm : P.follows .mixedOrders = true) (hk : okS l.toArray σ = true)
    (hS : S w.drew) (h : wpS P l.toArray (calm Q) S ((calm Q) .normal) σ a w.drew) : (Code.region id l.toArray true).wp P Q a w :=
  wp_mono (wp_region_any hm (anyC S σ hk hS h)) (fun _ _ _ h => h.2)
def noDefer (l : List Oper) : Bool := l.all fun o => match o.op with | .defer _ => false | _ => true
theorem noDefer_spec {l : List Oper} (h : noDefer l = true) {i : Nat} {o : Oper} (hi : l.toArray[i]? = some o) : ∀ c, o.op ≠ .defer c := by
  intro c hc
  have hm : o ∈ l := by
    have : l[i]? = some o := by simpa using hi
    exact List.mem_of_getElem? this
  have := (List.all_eq_true.1 h) o hm
  simp [hc] at this
theorem wp_in {r n : Nat} {o : Oper} {a : Act} {w : World} {K : Act → World → Prop} (hd : ∀ c, o.op ≠ .defer c) (h : o.wp P a w K Q) : o.wpIn (Fence.wide.inRound r) n P a w K Q := by
  refine ⟨fun _ _ => trivial, ?_⟩
  unfold Oper.wp at h
  show o.uponIn _ n P a K Q ((o.semAt (some r) a.eval).run P w)
  rw [Oper.semAt_some r _ o hd]
  generalize (execOp a.eval o).run P w = x at *
  cases x with
  | ok y w' =>
    cases y with
    | row rw args => exact ⟨fun h => by simp [Fence.wide] at h, fun c cs _ => let ⟨v, w'', r, s⟩ := h c cs; ⟨v, w'', r, stepsIn_wide.2 s⟩⟩
    | round => exact h.elim
    | enter f args => exact ⟨fun h => by simp [Fence.wide] at h, CallsIn.inRound r (callsIn_wide.2 h)⟩
    | _ => exact h
  | halt y w' => cases y <;> exact h
theorem any_in {r n : Nat} {l : List Oper} (hd : noDefer l = true) (hL : ¬ LetsOut Q) : ∀ (m : Nat) (b : Array Bool) (a : Act) (w : World), wpAny P .any l.toArray Q m b a w → wpAnyIn (Fence.wide.inRound r) n P .any l.toArray Q m b a w
  | 0, _, _, _, h => h
  | m + 1, b, a, w, h => ⟨h.1, fun i hi => by
    have h1 := h.2 i hi
    unfold wpOp at h1
    unfold wpOpIn
    split
    · rename_i e
      rw [e] at h1
      exact any_in hd hL m _ _ _ h1
    · rename_i o e
      rw [e] at h1
      simp only at h1
      by_cases hw : Region.wanted o (yielded l.toArray a.tmps) = true
      · rw [if_pos hw] at h1 ⊢
        exact wp_in (noDefer_spec hd e) (Oper.wp_mono (fun a w h => any_in hd hL m _ a w h) (h1.resolve_right (fun h => hL h.2)))
      · rw [if_neg hw] at h1 ⊢
        exact ⟨fun _ _ => trivial, any_in hd hL m _ _ _ h1⟩⟩
theorem regionIn {r n id : Nat} {a : Act} {w : World} {l : List Oper} (S : World → Prop) (σ : List (Nat × Nat)) (hm : P.follows .mixedOrders = true) (hk : okS l.toArray σ = true) (hd : noDefer l = true)
    (hS : S w.drew) (h : wpS P l.toArray (calm Q) S ((calm Q) .normal) σ a w.drew) : (Code.region id l.toArray true).wpIn (Fence.wide.inRound r) n P Q a w :=
  wpIn_mono (wpIn_region_any hm (any_in hd (fun ⟨_, _, h1⟩ => nomatch h1.1) _ _ _ _ (anyC S σ hk hS h))) (fun _ _ _ h => h.2)
end
end Go.Proofs.Ytldkkboeaadbeaa.Sd
end
