/- Walks: the cutter's next token. -/
import Derived.Test.YtgaiheojlmebaaaDoorC3
namespace Go.Proofs.YtgaiheojlmebaaaDoor
open Go Go.RowKit Go.Lib

theorem move {w w1 w2 : World} {K g : Nat} {o o' : Obj} (hb : Below w.heap.size w w1) (hk : w1.heap[K]? = some o) (hg : w1.heap[g]? = some o') (h : Below w1.heap.size w1 w2) :
    Below w.heap.size w w2 ∧ w2.heap[K]? = some o ∧ w2.heap[g]? = some o' :=
  ⟨hb.trans (h.mono hb.size), (h.block _ (blk_lt hk)).trans hk, (h.block _ (blk_lt hg)).trans hg⟩
theorem ext_take (s : ByteArray) (n : Nat) : s.extract 0 n = ⟨(s.data.toList.take n).toArray⟩ := by
  apply ByteArray.ext
  apply Array.toList_inj.1
  simp
theorem wordN_le : ∀ (n : Nat) (l : List UInt8), l.length ≤ n → wordN (runes l) ≤ l.length := by
  intro n
  induction n with
  | zero => intro l h; rw [List.eq_nil_of_length_eq_zero (by omega : l.length = 0)]; exact Nat.le_refl _
  | succ n ih =>
    intro l h
    by_cases hl : l = []
    · subst hl; exact Nat.le_refl _
    · have h1 : 0 < l.length := List.length_pos_iff.2 hl
      have hw := decodeL_width l
      have hle := decodeL_le l hl
      have := ih (l.drop (decodeL l).2) (by rw [List.length_drop]; omega)
      rw [List.length_drop] at this
      rw [runes_cons l hl, wordN_cons]
      split <;> omega
theorem tokF2 {s : ByteArray} (h : cls (decodeL s.data.toList).1 = 2) : tokF s.data.toList =
    if 12 < (runes (s.data.toList.take (wordN (runes s.data.toList)))).length then (zTok, 0, 2) else (⟨1, s.extract 0 (wordN (runes s.data.toList)), 0, 0⟩, (wordN (runes s.data.toList) : Int), 0) := by
  unfold tokF; simp only [h, ext_take, if_true]
theorem tokF3 {s : ByteArray} (h : cls (decodeL s.data.toList).1 = 3) : tokF s.data.toList =
    if (numB (s.extract 0 (wordN (runes s.data.toList)))).2 then (⟨2, s.extract 0 (wordN (runes s.data.toList)), (numB (s.extract 0 (wordN (runes s.data.toList)))).1, 0⟩, (wordN (runes s.data.toList) : Int), 0) else (zTok, 0, 11) := by
  unfold tokF; simp only [h, ext_take]; rw [if_neg (by decide), if_pos trivial]
theorem tokF5 {s : ByteArray} (h : cls (decodeL s.data.toList).1 = 5) : tokF s.data.toList = textF s.data.toList := by
  unfold tokF; simp only [h]; rw [if_neg (by decide), if_neg (by decide), if_pos trivial]
theorem tokF0 {s : ByteArray} (h : cls (decodeL s.data.toList).1 ≠ 2 ∧ cls (decodeL s.data.toList).1 ≠ 3 ∧ cls (decodeL s.data.toList).1 ≠ 5 ∧ cls (decodeL s.data.toList).1 ≠ 4) : tokF s.data.toList = (zTok, 0, 11) := by
  unfold tokF; simp only [h.1, h.2.1, h.2.2.1, h.2.2.2, if_false]
theorem tokF4 {s : ByteArray} (h : cls (decodeL s.data.toList).1 = 4) : tokF s.data.toList =
    (⟨4, s.extract 0 (if 1 < s.size ∧ s.data.toList.getD 1 0 = 61 ∧ 0 ≤ indexByte [60, 62, 61, 33, 58] (s.data.toList.getD 0 0) then 2 else (decodeL s.data.toList).2), 0, 0⟩, ((if 1 < s.size ∧ s.data.toList.getD 1 0 = 61 ∧ 0 ≤ indexByte [60, 62, 61, 33, 58] (s.data.toList.getD 0 0) then 2 else (decodeL s.data.toList).2 : Nat) : Int), 0) := by
  unfold tokF; simp only [h, ext_take, size_data]; rw [if_neg (by decide), if_neg (by decide), if_neg (by decide), if_pos trivial]
theorem five (c : Int) : c = 2 ∨ c = 3 ∨ c = 5 ∨ c = 4 ∨ ((c == 2) = false ∧ (c == 3) = false ∧ (c == 5) = false ∧ (c == 4) = false ∧ c ≠ 2 ∧ c ≠ 3 ∧ c ≠ 5 ∧ c ≠ 4) := by
  simp only [beq_eq_false_iff_ne, ne_eq]
  omega
theorem decodeGo_L (s : ByteArray) (h : 0 < s.size) : Lib.decodeGo s = decodeL s.data.toList := by
  have := decodeL_drop s 0
  rw [List.drop_zero] at this
  unfold Lib.decodeGo
  rw [if_neg (by omega), this]

set_option maxHeartbeats 2000000 in
set_option maxRecDepth 100000 in
theorem token2 (g : Nat) (s : ByteArray) (at_ : Int) (v : Value) (w : World) (hb : CutB w g s at_ v) (hs : s.size ≤ 1000000) (hp : 0 < s.size) (hT : Tabs w) (k : Int) (hk : cls (decodeL s.data.toList).1 = k) (hk2 : k = 2) :
    Calls Tryd.prog 38 #[.pointer (some ⟨g, 0, none⟩)] w fun e w' =>
      (∃ t : Tok × Int × Int, t = tokF s.data.toList ∧ e = .returned (.tuple #[.agg #[.int .i64 t.1.kind, .string t.1.text, .int .i64 t.1.n, .int .i64 t.1.at_], .int .i64 t.2.1, .int .i64 t.2.2])) ∧ Below w.heap.size w w' := by
  have hc0 : w.cell? ⟨g, 0, none⟩ = some (.string s) := (blk_cell hb 0).trans rfl
  have hg := blk_lt hb
  have HB := Lib.hid hb
  have HT := Lib.hid hT
  obtain ⟨r, hr⟩ : ∃ r, (decodeL s.data.toList).1 = r := ⟨_, rfl⟩
  obtain ⟨wd, hw⟩ : ∃ wd, (decodeL s.data.toList).2 = wd := ⟨_, rfl⟩
  have HD : Hid (∀ W, Tabs W → Calls Tryd.prog 61 #[.string s] W fun e w' => e = .returned (.tuple #[.int .i32 r, .int .i64 wd]) ∧ Below W.heap.size W w') := fun W hW => by
    have := Tryd.utf8_DecodeRuneInString s W hW.utf
    rw [decodeGo_L s hp, hr, hw] at this
    exact this
  have hwd := decodeL_le s.data.toList (by intro e; have := size_data s; rw [e] at this; simp at this; omega)
  have hwd1 := decodeL_width s.data.toList
  rw [size_data, hw] at hwd
  rw [hw] at hwd1
  have hr2 := decodeL_rune s.data.toList
  rw [hr] at hk hr2
  have HC : Hid (∀ W, Calls Tryd.prog 62 #[.int .i32 r] W fun e w' => e = .returned (.int .i64 k) ∧ W = w') := fun W => by rw [← hk]; exact class_any _ W (by omega) (by omega)
  have HTF := Lib.hid (tokF2 (s := s) (by rw [hr, hk, hk2]))
  clear hb hT hr hw hk
  subst hk2
  obtain ⟨n, hn⟩ : ∃ n, wordN (runes s.data.toList) = n := ⟨_, rfl⟩
  have hnl := wordN_le _ s.data.toList (Nat.le_refl _)
  have HW : Hid (∀ W, CutB W g s at_ v → Calls Tryd.prog 64 #[.pointer (some ⟨g, 0, none⟩)] W fun e w' => e = .returned (.int .i64 n) ∧ Below W.heap.size W w') := fun W hW => by
    rw [← hn]; exact word_any g s at_ v W hW hs
  rw [size_data, hn] at hnl
  rw [hn] at HTF
  have hnz : (n : Int) ≤ s.size := by omega
  clear hn
  have HR : Hid (∀ W, Calls Tryd.prog 65 #[.string (s.extract 0 n)] W fun e w' => e = .returned (.int .i64 (runes (s.data.toList.take n)).length) ∧ Below W.heap.size W w') := fun W => by
    have h1 := Tryd.utf8_RuneCountInString (s.extract 0 n) W (by simp; omega)
    have h2 : runeCount (s.extract 0 n) = (runes (s.data.toList.take n)).length := by rw [runeCount_runes, ext_take]
    rw [h2] at h1
    refine h1.mono ?_
    rintro e w' ⟨he, pos, rfl⟩
    exact ⟨he, below_iter _ _ _⟩
  obtain ⟨N, hN⟩ : ∃ N, (runes (s.data.toList.take n)).length = N := ⟨_, rfl⟩
  rw [hN] at HR HTF
  clear hN
  go_enter Tryd.func38, Tryd.ntmps38
  go_wp2_with fail
  obtain ⟨w0, hw0⟩ : ∃ w0, w.alloc (.cells #[.int .i64 0, .string ⟨#[]⟩, .int .i64 0, .int .i64 0] 52) = w0 := ⟨_, rfl⟩
  have hk0 : w0.heap[w.heap.size]? = some (.cells #[.int .i64 0, .string ⟨#[]⟩, .int .i64 0, .int .i64 0] 52 (0, 0)) := by rw [← hw0]; exact heap_alloc_new _ _
  have hb0 : Below w.heap.size w w0 := by rw [← hw0]; exact (Below.refl _ _).alloc (Nat.le_refl _) _
  have hg0 := (hb0.block g (blk_lt HB.out)).trans HB.out
  have HS0 := Lib.hid (And.intro hb0 (And.intro hk0 hg0))
  rw [hw0]
  clear hw0 hb0 hk0 hg0 hc0
  refine (HD.out _ (HT.out.below HS0.out.1)).mono ?_
  rintro e w1 ⟨rfl, hb1⟩
  have HS1 := Lib.hid (move HS0.out.1 HS0.out.2.1 HS0.out.2.2 hb1)
  have c1 := (blk_cell HS1.out.2.2 0).trans rfl
  clear hb1 HS0
  go_wp2_with fail
  refine (HC.out _).mono ?_
  rintro e w' ⟨rfl, rfl⟩
  go_wp2_with fail
  refine (HW.out _ HS1.out.2.2).mono ?_
  rintro e w2 ⟨rfl, hb2⟩
  have HS2 := Lib.hid (move HS1.out.1 HS1.out.2.1 HS1.out.2.2 hb2)
  have c2 := (blk_cell HS2.out.2.2 0).trans rfl
  clear hb2 HS1 c1
  go_wp2_with fail
  refine (HR.out _).mono ?_
  rintro e w3 ⟨rfl, hb3⟩
  have HS3 := Lib.hid (move HS2.out.1 HS2.out.2.1 HS2.out.2.2 hb3)
  have c3 := (blk_cell HS3.out.2.2 0).trans rfl
  clear hb3 HS2 c2
  have q0 := (blk_cell HS3.out.2.1 0).trans rfl
  have q1 := (blk_cell HS3.out.2.1 1).trans rfl
  have q2 := (blk_cell HS3.out.2.1 2).trans rfl
  have q3 := (blk_cell HS3.out.2.1 3).trans rfl
  have f0 := blk_frozen HS3.out.2.1 0
  have f1 := blk_frozen HS3.out.2.1 1
  have f2 := blk_frozen HS3.out.2.1 2
  have f3 := blk_frozen HS3.out.2.1 3
  by_cases h12 : 12 < N
  · have hz : (12 : Int) < N := by omega
    have H12 := Lib.hid h12
    clear h12
    go_wp2_with fail
    refine bodyPost_ret (v := .tuple #[.agg #[.int .i64 0, .string ⟨#[]⟩, .int .i64 0, .int .i64 0], .int .i64 0, .int .i64 2]) (by simp [results, Tryd.results38, go_sem, *]) rfl ⟨⟨(zTok, 0, 2), ?_, rfl⟩, below_set4 HS3.out.1 (Nat.le_refl _) _ _ _ _⟩
    rw [HTF.out]; simp [H12.out]
  · have hz : (N : Int) ≤ 12 := by omega
    have H12 := Lib.hid h12
    clear h12
    go_wp2_with fail
    refine bodyPost_ret (v := .tuple #[.agg #[.int .i64 1, .string (s.extract 0 n), .int .i64 0, .int .i64 0], .int .i64 n, .int .i64 0]) (by simp [results, Tryd.results38, go_sem, *]) rfl ⟨⟨(⟨1, s.extract 0 n, 0, 0⟩, n, 0), ?_, rfl⟩, below_set4 HS3.out.1 (Nat.le_refl _) _ _ _ _⟩
    rw [HTF.out]; simp [H12.out]

set_option maxHeartbeats 2000000 in
set_option maxRecDepth 100000 in
theorem token3 (g : Nat) (s : ByteArray) (at_ : Int) (v : Value) (w : World) (hb : CutB w g s at_ v) (hs : s.size ≤ 1000000) (hp : 0 < s.size) (hT : Tabs w) (k : Int) (hk : cls (decodeL s.data.toList).1 = k) (hk2 : k = 3) :
    Calls Tryd.prog 38 #[.pointer (some ⟨g, 0, none⟩)] w fun e w' =>
      (∃ t : Tok × Int × Int, t = tokF s.data.toList ∧ e = .returned (.tuple #[.agg #[.int .i64 t.1.kind, .string t.1.text, .int .i64 t.1.n, .int .i64 t.1.at_], .int .i64 t.2.1, .int .i64 t.2.2])) ∧ Below w.heap.size w w' := by
  have hc0 : w.cell? ⟨g, 0, none⟩ = some (.string s) := (blk_cell hb 0).trans rfl
  have hg := blk_lt hb
  have HB := Lib.hid hb
  have HT := Lib.hid hT
  obtain ⟨r, hr⟩ : ∃ r, (decodeL s.data.toList).1 = r := ⟨_, rfl⟩
  obtain ⟨wd, hw⟩ : ∃ wd, (decodeL s.data.toList).2 = wd := ⟨_, rfl⟩
  have HD : Hid (∀ W, Tabs W → Calls Tryd.prog 61 #[.string s] W fun e w' => e = .returned (.tuple #[.int .i32 r, .int .i64 wd]) ∧ Below W.heap.size W w') := fun W hW => by
    have := Tryd.utf8_DecodeRuneInString s W hW.utf
    rw [decodeGo_L s hp, hr, hw] at this
    exact this
  have hwd := decodeL_le s.data.toList (by intro e; have := size_data s; rw [e] at this; simp at this; omega)
  have hwd1 := decodeL_width s.data.toList
  rw [size_data, hw] at hwd
  rw [hw] at hwd1
  have hr2 := decodeL_rune s.data.toList
  rw [hr] at hk hr2
  have HC : Hid (∀ W, Calls Tryd.prog 62 #[.int .i32 r] W fun e w' => e = .returned (.int .i64 k) ∧ W = w') := fun W => by rw [← hk]; exact class_any _ W (by omega) (by omega)
  have HTF := Lib.hid (tokF3 (s := s) (by rw [hr, hk, hk2]))
  clear hb hT hr hw hk
  subst hk2
  obtain ⟨n, hn⟩ : ∃ n, wordN (runes s.data.toList) = n := ⟨_, rfl⟩
  have hnl := wordN_le _ s.data.toList (Nat.le_refl _)
  have HW : Hid (∀ W, CutB W g s at_ v → Calls Tryd.prog 64 #[.pointer (some ⟨g, 0, none⟩)] W fun e w' => e = .returned (.int .i64 n) ∧ Below W.heap.size W w') := fun W hW => by
    rw [← hn]; exact word_any g s at_ v W hW hs
  rw [size_data, hn] at hnl
  rw [hn] at HTF
  have hnz : (n : Int) ≤ s.size := by omega
  clear hn
  obtain ⟨x, hx⟩ : ∃ x, numB (s.extract 0 n) = x := ⟨_, rfl⟩
  have HR : Hid (∀ W, Calls Tryd.prog 66 #[.string (s.extract 0 n)] W fun e w' => e = .returned (.tuple #[.int .i64 x.1, .bool x.2]) ∧ Below W.heap.size W w') := fun W => by
    rw [← hx]; exact number_any _ W
  rw [hx] at HTF
  clear hx
  go_enter Tryd.func38, Tryd.ntmps38
  go_wp2_with fail
  obtain ⟨w0, hw0⟩ : ∃ w0, w.alloc (.cells #[.int .i64 0, .string ⟨#[]⟩, .int .i64 0, .int .i64 0] 52) = w0 := ⟨_, rfl⟩
  have hk0 : w0.heap[w.heap.size]? = some (.cells #[.int .i64 0, .string ⟨#[]⟩, .int .i64 0, .int .i64 0] 52 (0, 0)) := by rw [← hw0]; exact heap_alloc_new _ _
  have hb0 : Below w.heap.size w w0 := by rw [← hw0]; exact (Below.refl _ _).alloc (Nat.le_refl _) _
  have hg0 := (hb0.block g (blk_lt HB.out)).trans HB.out
  have HS0 := Lib.hid (And.intro hb0 (And.intro hk0 hg0))
  rw [hw0]
  clear hw0 hb0 hk0 hg0 hc0
  refine (HD.out _ (HT.out.below HS0.out.1)).mono ?_
  rintro e w1 ⟨rfl, hb1⟩
  have HS1 := Lib.hid (move HS0.out.1 HS0.out.2.1 HS0.out.2.2 hb1)
  have c1 := (blk_cell HS1.out.2.2 0).trans rfl
  clear hb1 HS0
  go_wp2_with fail
  refine (HC.out _).mono ?_
  rintro e w' ⟨rfl, rfl⟩
  go_wp2_with fail
  refine (HW.out _ HS1.out.2.2).mono ?_
  rintro e w2 ⟨rfl, hb2⟩
  have HS2 := Lib.hid (move HS1.out.1 HS1.out.2.1 HS1.out.2.2 hb2)
  have c2 := (blk_cell HS2.out.2.2 0).trans rfl
  clear hb2 HS1 c1
  go_wp2_with fail
  refine (HR.out _).mono ?_
  rintro e w3 ⟨rfl, hb3⟩
  have HS3 := Lib.hid (move HS2.out.1 HS2.out.2.1 HS2.out.2.2 hb3)
  have c3 := (blk_cell HS3.out.2.2 0).trans rfl
  clear hb3 HS2 c2
  have q0 := (blk_cell HS3.out.2.1 0).trans rfl
  have q1 := (blk_cell HS3.out.2.1 1).trans rfl
  have q2 := (blk_cell HS3.out.2.1 2).trans rfl
  have q3 := (blk_cell HS3.out.2.1 3).trans rfl
  have f0 := blk_frozen HS3.out.2.1 0
  have f1 := blk_frozen HS3.out.2.1 1
  have f2 := blk_frozen HS3.out.2.1 2
  have f3 := blk_frozen HS3.out.2.1 3
  obtain ⟨x1, x2⟩ := x
  cases x2
  · go_wp2_with fail
    refine bodyPost_ret (v := .tuple #[.agg #[.int .i64 0, .string ⟨#[]⟩, .int .i64 0, .int .i64 0], .int .i64 0, .int .i64 11]) (by simp [results, Tryd.results38, go_sem, *]) rfl ⟨⟨(zTok, 0, 11), ?_, rfl⟩, below_set4 HS3.out.1 (Nat.le_refl _) _ _ _ _⟩
    rw [HTF.out]; simp
  · go_wp2_with fail
    refine bodyPost_ret (v := .tuple #[.agg #[.int .i64 2, .string (s.extract 0 n), .int .i64 x1, .int .i64 0], .int .i64 n, .int .i64 0]) (by simp [results, Tryd.results38, go_sem, *]) rfl ⟨⟨(⟨2, s.extract 0 n, x1, 0⟩, n, 0), ?_, rfl⟩, below_set4 HS3.out.1 (Nat.le_refl _) _ _ _ _⟩
    rw [HTF.out]; simp

set_option maxHeartbeats 2000000 in
set_option maxRecDepth 100000 in
theorem token5 (g : Nat) (s : ByteArray) (at_ : Int) (v : Value) (w : World) (hb : CutB w g s at_ v) (hs : s.size ≤ 1000000) (hp : 0 < s.size) (hT : Tabs w) (k : Int) (hk : cls (decodeL s.data.toList).1 = k) (hk2 : k = 5) :
    Calls Tryd.prog 38 #[.pointer (some ⟨g, 0, none⟩)] w fun e w' =>
      (∃ t : Tok × Int × Int, t = tokF s.data.toList ∧ e = .returned (.tuple #[.agg #[.int .i64 t.1.kind, .string t.1.text, .int .i64 t.1.n, .int .i64 t.1.at_], .int .i64 t.2.1, .int .i64 t.2.2])) ∧ Below w.heap.size w w' := by
  have hc0 : w.cell? ⟨g, 0, none⟩ = some (.string s) := (blk_cell hb 0).trans rfl
  have hg := blk_lt hb
  have HB := Lib.hid hb
  have HT := Lib.hid hT
  obtain ⟨r, hr⟩ : ∃ r, (decodeL s.data.toList).1 = r := ⟨_, rfl⟩
  obtain ⟨wd, hw⟩ : ∃ wd, (decodeL s.data.toList).2 = wd := ⟨_, rfl⟩
  have HD : Hid (∀ W, Tabs W → Calls Tryd.prog 61 #[.string s] W fun e w' => e = .returned (.tuple #[.int .i32 r, .int .i64 wd]) ∧ Below W.heap.size W w') := fun W hW => by
    have := Tryd.utf8_DecodeRuneInString s W hW.utf
    rw [decodeGo_L s hp, hr, hw] at this
    exact this
  have hwd := decodeL_le s.data.toList (by intro e; have := size_data s; rw [e] at this; simp at this; omega)
  have hwd1 := decodeL_width s.data.toList
  rw [size_data, hw] at hwd
  rw [hw] at hwd1
  have hr2 := decodeL_rune s.data.toList
  rw [hr] at hk hr2
  have HC : Hid (∀ W, Calls Tryd.prog 62 #[.int .i32 r] W fun e w' => e = .returned (.int .i64 k) ∧ W = w') := fun W => by rw [← hk]; exact class_any _ W (by omega) (by omega)
  have HTF := Lib.hid (tokF5 (s := s) (by rw [hr, hk, hk2]))
  clear hb hT hr hw hk
  subst hk2
  go_enter Tryd.func38, Tryd.ntmps38
  go_wp2_with fail
  obtain ⟨w0, hw0⟩ : ∃ w0, w.alloc (.cells #[.int .i64 0, .string ⟨#[]⟩, .int .i64 0, .int .i64 0] 52) = w0 := ⟨_, rfl⟩
  have hk0 : w0.heap[w.heap.size]? = some (.cells #[.int .i64 0, .string ⟨#[]⟩, .int .i64 0, .int .i64 0] 52 (0, 0)) := by rw [← hw0]; exact heap_alloc_new _ _
  have hb0 : Below w.heap.size w w0 := by rw [← hw0]; exact (Below.refl _ _).alloc (Nat.le_refl _) _
  have hg0 := (hb0.block g (blk_lt HB.out)).trans HB.out
  have HS0 := Lib.hid (And.intro hb0 (And.intro hk0 hg0))
  rw [hw0]
  clear hw0 hb0 hk0 hg0 hc0
  refine (HD.out _ (HT.out.below HS0.out.1)).mono ?_
  rintro e w1 ⟨rfl, hb1⟩
  have HS1 := Lib.hid (move HS0.out.1 HS0.out.2.1 HS0.out.2.2 hb1)
  have c1 := (blk_cell HS1.out.2.2 0).trans rfl
  clear hb1 HS0
  go_wp2_with fail
  refine (HC.out _).mono ?_
  rintro e w' ⟨rfl, rfl⟩
  go_wp2_with fail
  refine (ctext_any g s at_ v _ HS1.out.2.2 hs hp (HT.out.below HS1.out.1)).mono ?_
  rintro e w2 ⟨⟨⟨⟨t1, t2, t3, t4⟩, t5, t6⟩, ht, rfl⟩, hb2⟩
  have HTX := Lib.hid ht
  have HS3 := Lib.hid (move HS1.out.1 HS1.out.2.1 HS1.out.2.2 hb2)
  clear hb2 HS1 c1 ht
  have q0 := (blk_cell HS3.out.2.1 0).trans rfl
  have q1 := (blk_cell HS3.out.2.1 1).trans rfl
  have q2 := (blk_cell HS3.out.2.1 2).trans rfl
  have q3 := (blk_cell HS3.out.2.1 3).trans rfl
  have f0 := blk_frozen HS3.out.2.1 0
  have f1 := blk_frozen HS3.out.2.1 1
  have f2 := blk_frozen HS3.out.2.1 2
  have f3 := blk_frozen HS3.out.2.1 3
  go_wp2_with fail
  refine bodyPost_ret (v := .tuple #[.agg #[.int .i64 t1, .string t2, .int .i64 t3, .int .i64 t4], .int .i64 t5, .int .i64 t6]) (by simp [results, Tryd.results38, go_sem, *]) rfl ⟨⟨(⟨t1, t2, t3, t4⟩, t5, t6), ?_, rfl⟩, below_set4 HS3.out.1 (Nat.le_refl _) _ _ _ _⟩
  rw [HTF.out, HTX.out]

set_option maxHeartbeats 2000000 in
set_option maxRecDepth 100000 in
theorem token0 (g : Nat) (s : ByteArray) (at_ : Int) (v : Value) (w : World) (hb : CutB w g s at_ v) (hs : s.size ≤ 1000000) (hp : 0 < s.size) (hT : Tabs w) (k : Int) (hk : cls (decodeL s.data.toList).1 = k) (hk2 : (k == 2) = false ∧ (k == 3) = false ∧ (k == 5) = false ∧ (k == 4) = false ∧ k ≠ 2 ∧ k ≠ 3 ∧ k ≠ 5 ∧ k ≠ 4) :
    Calls Tryd.prog 38 #[.pointer (some ⟨g, 0, none⟩)] w fun e w' =>
      (∃ t : Tok × Int × Int, t = tokF s.data.toList ∧ e = .returned (.tuple #[.agg #[.int .i64 t.1.kind, .string t.1.text, .int .i64 t.1.n, .int .i64 t.1.at_], .int .i64 t.2.1, .int .i64 t.2.2])) ∧ Below w.heap.size w w' := by
  have hc0 : w.cell? ⟨g, 0, none⟩ = some (.string s) := (blk_cell hb 0).trans rfl
  have hg := blk_lt hb
  have HB := Lib.hid hb
  have HT := Lib.hid hT
  obtain ⟨r, hr⟩ : ∃ r, (decodeL s.data.toList).1 = r := ⟨_, rfl⟩
  obtain ⟨wd, hw⟩ : ∃ wd, (decodeL s.data.toList).2 = wd := ⟨_, rfl⟩
  have HD : Hid (∀ W, Tabs W → Calls Tryd.prog 61 #[.string s] W fun e w' => e = .returned (.tuple #[.int .i32 r, .int .i64 wd]) ∧ Below W.heap.size W w') := fun W hW => by
    have := Tryd.utf8_DecodeRuneInString s W hW.utf
    rw [decodeGo_L s hp, hr, hw] at this
    exact this
  have hwd := decodeL_le s.data.toList (by intro e; have := size_data s; rw [e] at this; simp at this; omega)
  have hwd1 := decodeL_width s.data.toList
  rw [size_data, hw] at hwd
  rw [hw] at hwd1
  have hr2 := decodeL_rune s.data.toList
  rw [hr] at hk hr2
  have HC : Hid (∀ W, Calls Tryd.prog 62 #[.int .i32 r] W fun e w' => e = .returned (.int .i64 k) ∧ W = w') := fun W => by rw [← hk]; exact class_any _ W (by omega) (by omega)
  have HTF := Lib.hid (tokF0 (s := s) (by rw [hr, hk]; exact hk2.2.2.2.2))
  clear hb hT hr hw hk
  go_enter Tryd.func38, Tryd.ntmps38
  go_wp2_with fail
  obtain ⟨w0, hw0⟩ : ∃ w0, w.alloc (.cells #[.int .i64 0, .string ⟨#[]⟩, .int .i64 0, .int .i64 0] 52) = w0 := ⟨_, rfl⟩
  have hk0 : w0.heap[w.heap.size]? = some (.cells #[.int .i64 0, .string ⟨#[]⟩, .int .i64 0, .int .i64 0] 52 (0, 0)) := by rw [← hw0]; exact heap_alloc_new _ _
  have hb0 : Below w.heap.size w w0 := by rw [← hw0]; exact (Below.refl _ _).alloc (Nat.le_refl _) _
  have hg0 := (hb0.block g (blk_lt HB.out)).trans HB.out
  have HS0 := Lib.hid (And.intro hb0 (And.intro hk0 hg0))
  rw [hw0]
  clear hw0 hb0 hk0 hg0 hc0
  refine (HD.out _ (HT.out.below HS0.out.1)).mono ?_
  rintro e w1 ⟨rfl, hb1⟩
  have HS1 := Lib.hid (move HS0.out.1 HS0.out.2.1 HS0.out.2.2 hb1)
  have c1 := (blk_cell HS1.out.2.2 0).trans rfl
  clear hb1 HS0
  go_wp2_with fail
  refine (HC.out _).mono ?_
  rintro e w' ⟨rfl, rfl⟩
  have q0 := (blk_cell HS1.out.2.1 0).trans rfl
  have q1 := (blk_cell HS1.out.2.1 1).trans rfl
  have q2 := (blk_cell HS1.out.2.1 2).trans rfl
  have q3 := (blk_cell HS1.out.2.1 3).trans rfl
  have f0 := blk_frozen HS1.out.2.1 0
  have f1 := blk_frozen HS1.out.2.1 1
  have f2 := blk_frozen HS1.out.2.1 2
  have f3 := blk_frozen HS1.out.2.1 3
  obtain ⟨b2, b3, b5, b4, n2, n3, n5, n4⟩ := hk2
  clear n2 n3 n5 n4
  go_wp2_with fail
  refine bodyPost_ret (v := .tuple #[.agg #[.int .i64 0, .string ⟨#[]⟩, .int .i64 0, .int .i64 0], .int .i64 0, .int .i64 11]) (by simp [results, Tryd.results38, go_sem, *]) rfl ⟨⟨(zTok, 0, 11), ?_, rfl⟩, below_set4 HS1.out.1 (Nat.le_refl _) _ _ _ _⟩
  exact HTF.out.symm

set_option maxHeartbeats 2000000 in
set_option maxRecDepth 100000 in
theorem token4 (g : Nat) (s : ByteArray) (at_ : Int) (v : Value) (w : World) (hb : CutB w g s at_ v) (hs : s.size ≤ 1000000) (hp : 0 < s.size) (hT : Tabs w) (k : Int) (hk : cls (decodeL s.data.toList).1 = k) (hk2 : k = 4) :
    Calls Tryd.prog 38 #[.pointer (some ⟨g, 0, none⟩)] w fun e w' =>
      (∃ t : Tok × Int × Int, t = tokF s.data.toList ∧ e = .returned (.tuple #[.agg #[.int .i64 t.1.kind, .string t.1.text, .int .i64 t.1.n, .int .i64 t.1.at_], .int .i64 t.2.1, .int .i64 t.2.2])) ∧ Below w.heap.size w w' := by
  have hc0 : w.cell? ⟨g, 0, none⟩ = some (.string s) := (blk_cell hb 0).trans rfl
  have hg := blk_lt hb
  have HB := Lib.hid hb
  have HT := Lib.hid hT
  obtain ⟨r, hr⟩ : ∃ r, (decodeL s.data.toList).1 = r := ⟨_, rfl⟩
  obtain ⟨wd, hw⟩ : ∃ wd, (decodeL s.data.toList).2 = wd := ⟨_, rfl⟩
  have HD : Hid (∀ W, Tabs W → Calls Tryd.prog 61 #[.string s] W fun e w' => e = .returned (.tuple #[.int .i32 r, .int .i64 wd]) ∧ Below W.heap.size W w') := fun W hW => by
    have := Tryd.utf8_DecodeRuneInString s W hW.utf
    rw [decodeGo_L s hp, hr, hw] at this
    exact this
  have hwd := decodeL_le s.data.toList (by intro e; have := size_data s; rw [e] at this; simp at this; omega)
  have hwd1 := decodeL_width s.data.toList
  rw [size_data, hw] at hwd
  rw [hw] at hwd1
  have hr2 := decodeL_rune s.data.toList
  rw [hr] at hk hr2
  have HC : Hid (∀ W, Calls Tryd.prog 62 #[.int .i32 r] W fun e w' => e = .returned (.int .i64 k) ∧ W = w') := fun W => by rw [← hk]; exact class_any _ W (by omega) (by omega)
  have HTF := Lib.hid (tokF4 (s := s) (by rw [hr, hk, hk2]))
  rw [hw] at HTF
  clear hb hT hr hw hk
  subst hk2
  obtain ⟨c0, hc0'⟩ : ∃ c, s.data.toList.getD 0 0 = c := ⟨_, rfl⟩
  have h00 : s[0] = c0 := by rw [head_getD s hp]; exact hc0'
  have hp0 : (0 : Int) < s.size := by omega
  have hwz : (wd : Int) ≤ s.size := by omega
  by_cases h1 : 1 < s.size
  · have h1z : (1 : Int) < s.size := by omega
    obtain ⟨c1', hc1⟩ : ∃ c, s.data.toList.getD 1 0 = c := ⟨_, rfl⟩
    have h01 : s[1] = c1' := by rw [← hc1, List.getD_eq_getElem?_getD, List.getElem?_eq_getElem (by rw [size_data]; exact h1)]; rfl
    by_cases h61 : c1' = 61
    · subst h61
      obtain ⟨x, hx⟩ : ∃ x, indexByte [60, 62, 61, 33, 58] c0 = x := ⟨_, rfl⟩
      have HIX : Hid (∀ W, Calls Tryd.prog 63 #[.string ⟨#[60, 62, 61, 33, 58]⟩, .int .u8 c0.toNat] W fun e w' => e = .returned (.int .i64 x) ∧ W = w') := fun W => by
        refine (Tryd.strings_IndexByte ⟨#[60, 62, 61, 33, 58]⟩ c0.toNat W).mono ?_
        rintro e w' ⟨rfl, rfl⟩
        exact ⟨by rw [← hx]; simp, rfl⟩
      rw [hc0', hc1, hx] at HTF
      have h61b : (((61 : UInt8).toNat : Int) == 61) = true := by decide
      have h2z : (2 : Int) ≤ s.size := by omega
      rcases Int.lt_or_le x 0 with hx0 | hx0
      · rw [if_neg (by omega)] at HTF
        clear hc0' hc1 hx
        go_enter Tryd.func38, Tryd.ntmps38
        go_wp2_with fail
        obtain ⟨w0, hw0⟩ : ∃ w0, w.alloc (.cells #[.int .i64 0, .string ⟨#[]⟩, .int .i64 0, .int .i64 0] 52) = w0 := ⟨_, rfl⟩
        have hk0 : w0.heap[w.heap.size]? = some (.cells #[.int .i64 0, .string ⟨#[]⟩, .int .i64 0, .int .i64 0] 52 (0, 0)) := by rw [← hw0]; exact heap_alloc_new _ _
        have hb0 : Below w.heap.size w w0 := by rw [← hw0]; exact (Below.refl _ _).alloc (Nat.le_refl _) _
        have hg0 := (hb0.block g (blk_lt HB.out)).trans HB.out
        have HS0 := Lib.hid (And.intro hb0 (And.intro hk0 hg0))
        rw [hw0]
        clear hw0 hb0 hk0 hg0 hc0
        refine (HD.out _ (HT.out.below HS0.out.1)).mono ?_
        rintro e w1 ⟨rfl, hb1⟩
        have HS1 := Lib.hid (move HS0.out.1 HS0.out.2.1 HS0.out.2.2 hb1)
        have c1 := (blk_cell HS1.out.2.2 0).trans rfl
        clear hb1 HS0
        go_wp2_with fail
        refine (HC.out _).mono ?_
        rintro e w' ⟨rfl, rfl⟩
        have q0 := (blk_cell HS1.out.2.1 0).trans rfl
        have q1 := (blk_cell HS1.out.2.1 1).trans rfl
        have q2 := (blk_cell HS1.out.2.1 2).trans rfl
        have q3 := (blk_cell HS1.out.2.1 3).trans rfl
        have f0 := blk_frozen HS1.out.2.1 0
        have f1 := blk_frozen HS1.out.2.1 1
        have f2 := blk_frozen HS1.out.2.1 2
        have f3 := blk_frozen HS1.out.2.1 3
        go_wp2_with (go_at_call 63; refine (HIX.out _).mono ?_; rintro e w' ⟨rfl, rfl⟩)
        refine bodyPost_ret (v := .tuple #[.agg #[.int .i64 4, .string (s.extract 0 wd), .int .i64 0, .int .i64 0], .int .i64 wd, .int .i64 0]) (by simp [results, Tryd.results38, go_sem, *]) rfl ⟨⟨(⟨4, s.extract 0 wd, 0, 0⟩, wd, 0), HTF.out.symm, rfl⟩, below_set4 HS1.out.1 (Nat.le_refl _) _ _ _ _⟩

      · rw [if_pos ⟨h1, rfl, hx0⟩] at HTF
        clear hc0' hc1 hx
        go_enter Tryd.func38, Tryd.ntmps38
        go_wp2_with fail
        obtain ⟨w0, hw0⟩ : ∃ w0, w.alloc (.cells #[.int .i64 0, .string ⟨#[]⟩, .int .i64 0, .int .i64 0] 52) = w0 := ⟨_, rfl⟩
        have hk0 : w0.heap[w.heap.size]? = some (.cells #[.int .i64 0, .string ⟨#[]⟩, .int .i64 0, .int .i64 0] 52 (0, 0)) := by rw [← hw0]; exact heap_alloc_new _ _
        have hb0 : Below w.heap.size w w0 := by rw [← hw0]; exact (Below.refl _ _).alloc (Nat.le_refl _) _
        have hg0 := (hb0.block g (blk_lt HB.out)).trans HB.out
        have HS0 := Lib.hid (And.intro hb0 (And.intro hk0 hg0))
        rw [hw0]
        clear hw0 hb0 hk0 hg0 hc0
        refine (HD.out _ (HT.out.below HS0.out.1)).mono ?_
        rintro e w1 ⟨rfl, hb1⟩
        have HS1 := Lib.hid (move HS0.out.1 HS0.out.2.1 HS0.out.2.2 hb1)
        have c1 := (blk_cell HS1.out.2.2 0).trans rfl
        clear hb1 HS0
        go_wp2_with fail
        refine (HC.out _).mono ?_
        rintro e w' ⟨rfl, rfl⟩
        have q0 := (blk_cell HS1.out.2.1 0).trans rfl
        have q1 := (blk_cell HS1.out.2.1 1).trans rfl
        have q2 := (blk_cell HS1.out.2.1 2).trans rfl
        have q3 := (blk_cell HS1.out.2.1 3).trans rfl
        have f0 := blk_frozen HS1.out.2.1 0
        have f1 := blk_frozen HS1.out.2.1 1
        have f2 := blk_frozen HS1.out.2.1 2
        have f3 := blk_frozen HS1.out.2.1 3
        go_wp2_with (go_at_call 63; refine (HIX.out _).mono ?_; rintro e w' ⟨rfl, rfl⟩)
        refine bodyPost_ret (v := .tuple #[.agg #[.int .i64 4, .string (s.extract 0 2), .int .i64 0, .int .i64 0], .int .i64 2, .int .i64 0]) (by simp [results, Tryd.results38, go_sem, *]) rfl ⟨⟨(⟨4, s.extract 0 2, 0, 0⟩, 2, 0), HTF.out.symm, rfl⟩, below_set4 HS1.out.1 (Nat.le_refl _) _ _ _ _⟩

    · have h61b : ((c1'.toNat : Int) == 61) = false := by rw [beq_eq_false_iff_ne]; intro e; exact h61 (UInt8.toNat_inj.1 (by simpa using (by omega : c1'.toNat = 61)))
      have hlt := c1'.toNat_lt
      rw [hc1, if_neg (fun h => h61 h.2.1)] at HTF
      clear hc0' hc1 h61
      go_enter Tryd.func38, Tryd.ntmps38
      go_wp2_with fail
      obtain ⟨w0, hw0⟩ : ∃ w0, w.alloc (.cells #[.int .i64 0, .string ⟨#[]⟩, .int .i64 0, .int .i64 0] 52) = w0 := ⟨_, rfl⟩
      have hk0 : w0.heap[w.heap.size]? = some (.cells #[.int .i64 0, .string ⟨#[]⟩, .int .i64 0, .int .i64 0] 52 (0, 0)) := by rw [← hw0]; exact heap_alloc_new _ _
      have hb0 : Below w.heap.size w w0 := by rw [← hw0]; exact (Below.refl _ _).alloc (Nat.le_refl _) _
      have hg0 := (hb0.block g (blk_lt HB.out)).trans HB.out
      have HS0 := Lib.hid (And.intro hb0 (And.intro hk0 hg0))
      rw [hw0]
      clear hw0 hb0 hk0 hg0 hc0
      refine (HD.out _ (HT.out.below HS0.out.1)).mono ?_
      rintro e w1 ⟨rfl, hb1⟩
      have HS1 := Lib.hid (move HS0.out.1 HS0.out.2.1 HS0.out.2.2 hb1)
      have c1 := (blk_cell HS1.out.2.2 0).trans rfl
      clear hb1 HS0
      go_wp2_with fail
      refine (HC.out _).mono ?_
      rintro e w' ⟨rfl, rfl⟩
      have q0 := (blk_cell HS1.out.2.1 0).trans rfl
      have q1 := (blk_cell HS1.out.2.1 1).trans rfl
      have q2 := (blk_cell HS1.out.2.1 2).trans rfl
      have q3 := (blk_cell HS1.out.2.1 3).trans rfl
      have f0 := blk_frozen HS1.out.2.1 0
      have f1 := blk_frozen HS1.out.2.1 1
      have f2 := blk_frozen HS1.out.2.1 2
      have f3 := blk_frozen HS1.out.2.1 3
      go_wp2_with fail
      refine bodyPost_ret (v := .tuple #[.agg #[.int .i64 4, .string (s.extract 0 wd), .int .i64 0, .int .i64 0], .int .i64 wd, .int .i64 0]) (by simp [results, Tryd.results38, go_sem, *]) rfl ⟨⟨(⟨4, s.extract 0 wd, 0, 0⟩, wd, 0), HTF.out.symm, rfl⟩, below_set4 HS1.out.1 (Nat.le_refl _) _ _ _ _⟩

  · have h1z : (s.size : Int) ≤ 1 := by omega
    rw [if_neg (fun h => h1 h.1)] at HTF
    clear hc0' h1
    go_enter Tryd.func38, Tryd.ntmps38
    go_wp2_with fail
    obtain ⟨w0, hw0⟩ : ∃ w0, w.alloc (.cells #[.int .i64 0, .string ⟨#[]⟩, .int .i64 0, .int .i64 0] 52) = w0 := ⟨_, rfl⟩
    have hk0 : w0.heap[w.heap.size]? = some (.cells #[.int .i64 0, .string ⟨#[]⟩, .int .i64 0, .int .i64 0] 52 (0, 0)) := by rw [← hw0]; exact heap_alloc_new _ _
    have hb0 : Below w.heap.size w w0 := by rw [← hw0]; exact (Below.refl _ _).alloc (Nat.le_refl _) _
    have hg0 := (hb0.block g (blk_lt HB.out)).trans HB.out
    have HS0 := Lib.hid (And.intro hb0 (And.intro hk0 hg0))
    rw [hw0]
    clear hw0 hb0 hk0 hg0 hc0
    refine (HD.out _ (HT.out.below HS0.out.1)).mono ?_
    rintro e w1 ⟨rfl, hb1⟩
    have HS1 := Lib.hid (move HS0.out.1 HS0.out.2.1 HS0.out.2.2 hb1)
    have c1 := (blk_cell HS1.out.2.2 0).trans rfl
    clear hb1 HS0
    go_wp2_with fail
    refine (HC.out _).mono ?_
    rintro e w' ⟨rfl, rfl⟩
    have q0 := (blk_cell HS1.out.2.1 0).trans rfl
    have q1 := (blk_cell HS1.out.2.1 1).trans rfl
    have q2 := (blk_cell HS1.out.2.1 2).trans rfl
    have q3 := (blk_cell HS1.out.2.1 3).trans rfl
    have f0 := blk_frozen HS1.out.2.1 0
    have f1 := blk_frozen HS1.out.2.1 1
    have f2 := blk_frozen HS1.out.2.1 2
    have f3 := blk_frozen HS1.out.2.1 3
    go_wp2_with fail
    refine bodyPost_ret (v := .tuple #[.agg #[.int .i64 4, .string (s.extract 0 wd), .int .i64 0, .int .i64 0], .int .i64 wd, .int .i64 0]) (by simp [results, Tryd.results38, go_sem, *]) rfl ⟨by rw [HTF.out], below_set4 HS1.out.1 (Nat.le_refl _) _ _ _ _⟩


theorem token_any (g : Nat) (s : ByteArray) (at_ : Int) (v : Value) (w : World) (hb : CutB w g s at_ v) (hs : s.size ≤ 1000000) (hp : 0 < s.size) (hT : Tabs w) :
    Calls Tryd.prog 38 #[.pointer (some ⟨g, 0, none⟩)] w fun e w' =>
      (∃ t : Tok × Int × Int, t = tokF s.data.toList ∧ e = .returned (.tuple #[.agg #[.int .i64 t.1.kind, .string t.1.text, .int .i64 t.1.n, .int .i64 t.1.at_], .int .i64 t.2.1, .int .i64 t.2.2])) ∧ Below w.heap.size w w' := by
  rcases five (cls (decodeL s.data.toList).1) with h | h | h | h | h
  · exact token2 g s at_ v w hb hs hp hT _ rfl h
  · exact token3 g s at_ v w hb hs hp hT _ rfl h
  · exact token5 g s at_ v w hb hs hp hT _ rfl h
  · exact token4 g s at_ v w hb hs hp hT _ rfl h
  · exact token0 g s at_ v w hb hs hp hT _ rfl h
end Go.Proofs.YtgaiheojlmebaaaDoor
