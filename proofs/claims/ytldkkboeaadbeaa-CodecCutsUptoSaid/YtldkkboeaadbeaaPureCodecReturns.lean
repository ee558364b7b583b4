/- CodecReturns, over numbers and strings alone. -/
import Derived.Test.YtldkkboeaadbeaaReads
import Derived.Test.YtldkkboeaadbeaaPr6
set_option linter.unusedVariables false
set_option linter.unusedSimpArgs false
namespace Go.Proofs.Ytldkkboeaadbeaa.Pr
open Go.RowKit Go.Proofs.YtldkkboeaadbeaaW.PrintWords Go.Proofs.YtldkkboeaadbeaaW.PrintLast Go.Proofs.YtldkkboeaadbeaaW.PrintMore Go.Proofs.Ytldkkboeaadbeaa.Pl
theorem size_of_mem : ∀ {l : List ByteArray}, ∀ t ∈ l, t.size ≤ sizes l
  | a :: l, t, h => by
    rw [sizes]
    rcases List.mem_cons.1 h with rfl | h
    · omega
    · have := size_of_mem t h; omega
theorem textsS_size (l : List ByteArray) (h : room l + 10 < 140737488355328) : (textsS l).size ≤ room l + 10 := by
  have hc : ∀ (l : List ByteArray) (b : ByteArray), room l < 18446744073709551616 → (catS l b).size ≤ b.size + room l := by
    intro l
    induction l with
    | nil => intro b _; simp [catS, room]
    | cons s l ih =>
      intro b hb
      rw [room] at hb
      have := ih (b ++ textS s) (by omega)
      have := textS_size s (by omega)
      rw [ByteArray.size_append] at *
      rw [catS, room]
      omega
  have := hc l (encU l.length) (by omega)
  have := room_length l
  have := encU_size10 (n := l.length) (by omega)
  unfold textsS
  omega
/-- what is written, from an offset on -/
theorem Returns_read (v : Nat) (m : Int) (s : ByteArray) (l : List ByteArray) (rest u : ByteArray) (hs : s.size ≤ 1048576) (hl : sizes l + l.length ≤ 1048576) (hrest : rest.size ≤ 1048576) (hu : u.size ≤ 10)
    (hm0 : -9223372036854775808 ≤ m) (hm1 : m ≤ 9223372036854775807) (all : ByteArray) (hall : all = ((((u ++ encU (zig m)) ++ textS s) ++ textsS l) ++ rest)) :
    ∃ p2 p3 p4 : Nat, (∃ K, ∀ k, K ≤ k → codec_Reader_Int.f k all (u.size : Int) 0 = some (m, all, (p2 : Int), 0) ∧ codec_Reader_Text.f k all (p2 : Int) 0 = some (s, all, (p3 : Int), 0) ∧ codec_Reader_Texts.f k all (p3 : Int) 0 = some (l, all, (p4 : Int), 0)) ∧
      ∃ x, codec_Reader_End.f all (p4 : Int) 0 = some (x, all, (p4 : Int), 0) ∧ ((x == 0) == rest.toList.isEmpty) = true := by
  have hz := zig_lt hm0 hm1
  have hroom := room_sizes l
  have e1 := encU_size10 hz
  have e2 := textS_size s (by omega)
  have e3 := textsS_size l (by omega)
  have hsz : all.size ≤ 8796093022208 := by rw [hall]; simp only [ByteArray.size_append]; omega
  have hb : bytesOf all = bytesOf u ++ (leb (zig m) ++ (txt (bytesOf s) ++ (txts (l.map bytesOf) ++ bytesOf rest))) := by
    rw [hall]; simp only [bytesOf_append, bytes_encU, bytes_textS, bytes_textsS, List.append_assoc]
  have d1 : (bytesOf all).drop u.size = leb (zig m) ++ (txt (bytesOf s) ++ (txts (l.map bytesOf) ++ bytesOf rest)) := by
    rw [hb, List.drop_left' (bytesOf_length u)]
  have q1 := drop_size d1 (leb_pos _)
  have ht : 0 < (txt (bytesOf s)).length := by unfold txt; rw [List.length_append]; have := leb_pos (bytesOf s).length; omega
  have hts : 0 < (txts (l.map bytesOf)).length := by unfold txts; rw [List.length_append]; have := leb_pos (l.map bytesOf).length; omega
  have q2 := drop_size q1.2 ht
  have q3 := drop_size q2.2 hts
  have r1 := rdU_of hz d1
  have r2 := rdT_of (t := s) (by omega) q1.2
  have r3 := rdTs_of (m := l) (fun t h => by have := size_of_mem t h; omega) (by omega) q2.2
  have w1 := Int_rd all (by omega) u.size (by omega)
  have w2 := Text_rd all (by omega) (u.size + (leb (zig m)).length) (by omega)
  have w3 := Texts_rd all (by omega) (u.size + (leb (zig m)).length + (txt (bytesOf s)).length) (by omega)
  rw [rdI, r1] at w1
  rw [r2] at w2
  rw [r3] at w3
  obtain ⟨K1, w1⟩ := w1
  obtain ⟨K2, w2⟩ := w2
  obtain ⟨K3, w3⟩ := w3
  refine ⟨_, _, _, ⟨K1 + K2 + K3, fun k hk => ⟨(w1 k (by omega)).trans ?_, w2 k (by omega), w3 k (by omega)⟩⟩, ?_⟩
  · simp only [Option.map_some, takeR, zag_zig]
  · have hlen := q3.1
    rw [bytesOf_length] at hlen
    unfold codec_Reader_End.f
    simp only [if_true]
    by_cases hr : rest.size = 0
    · refine ⟨0, by rw [if_neg (by omega)], ?_⟩
      have : rest.toList = [] := by rw [ByteArray.toList_eq]; exact List.eq_nil_of_length_eq_zero (by simpa using hr)
      rw [this]; rfl
    · refine ⟨9, by rw [if_pos (by omega)], ?_⟩
      have : rest.toList ≠ [] := by rw [ByteArray.toList_eq]; exact fun h => hr (by have := congrArg List.length h; simpa using this)
      simpa using this
end Go.Proofs.Ytldkkboeaadbeaa.Pr
