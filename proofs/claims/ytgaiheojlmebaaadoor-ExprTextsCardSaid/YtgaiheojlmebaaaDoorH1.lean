/- The law that what any text is, printed, is the same again: the walk. -/
import Derived.Test.YtgaiheojlmebaaaDoorD1
import Derived.Test.YtgaiheojlmebaaaDoorF1
import Derived.Test.YtgaiheojlmebaaaDoorG4
namespace Go.Proofs.YtgaiheojlmebaaaDoor
open Go Go.RowKit Go.Lib

/-- A tree's block, by value. -/
def ExB (w : World) (k : Nat) (e : Ex) (A : Option Addr) (c : Nat) : Prop := w.heap[k]? = some (.cells #[.int .i64 e.op, .int .i64 e.n, .string e.name, .slice A e.kids.length c] 25 (0, 0))
theorem ExB.step {w w' : World} {k : Nat} {e : Ex} {A : Option Addr} {c : Nat} (h : ExB w k e A c) (hb : Below w.heap.size w w') : ExB w' k e A c := (hb.block k (blk_lt h)).trans h
theorem ExB.cells {w : World} {k : Nat} {e : Ex} {A : Option Addr} {c : Nat} (h : ExB w k e A c) :
    w.cell? ⟨k, 0, none⟩ = some (.int .i64 e.op) ∧ w.cell? ⟨k, 1, none⟩ = some (.int .i64 e.n) ∧ w.cell? ⟨k, 2, none⟩ = some (.string e.name) ∧ w.cell? ⟨k, 3, none⟩ = some (.slice A e.kids.length c) :=
  ⟨blk_cell h 0, blk_cell h 1, blk_cell h 2, blk_cell h 3⟩
theorem ExF.row {P : Nat → Prop} {w : World} {e : Ex} {A : Option Addr} {c : Nat} (h : ExF P w e A c) : exK.Row [] w A e.kids := h.2 [] (fun k hk => by simp at hk)

set_option maxHeartbeats 8000000 in
set_option maxRecDepth 100000 in
theorem again_long (s : ByteArray) (w : World) (hT : Tabs w) (hl : 5000 < s.size) :
    Calls Tryd.prog 7 #[.string s] w fun r w' => r = .returned (.bool true) ∧ Below w.heap.size w w' := by
  have HT := Lib.hid hT
  have hz : (5000 : Int) < s.size := by omega
  clear hT hl
  go_enter Tryd.func7, Tryd.ntmps7
  go_wp2_with fail
  refine (awake_any w HT.out).mono ?_
  rintro r w1 ⟨rfl, hb1⟩
  have H1 := Lib.hid hb1
  clear hb1
  go_wp2_with fail
  go_ret
  exact ⟨rfl, H1.out⟩

set_option maxHeartbeats 8000000 in
set_option maxRecDepth 100000 in
theorem again_bad (s : ByteArray) (w : World) (hT : Tabs w) (hl : s.size ≤ 5000) (hf : (parseP s).2.1 ≠ 0) :
    Calls Tryd.prog 7 #[.string s] w fun r w' => r = .returned (.bool true) ∧ Below w.heap.size w w' := by
  have HT := Lib.hid hT
  have hz : (s.size : Int) ≤ 5000 := by omega
  have HP := Lib.hid (fun W hT => parse_any s W hT (by omega))
  obtain ⟨⟨e, f, at_⟩, hp⟩ : ∃ p, parseP s = p := ⟨_, rfl⟩
  rw [hp] at HP hf
  have hfb : (f != 0) = true := bnet hf
  clear hT hl hf hp
  go_enter Tryd.func7, Tryd.ntmps7
  go_wp2_with fail
  refine (awake_any w HT.out).mono ?_
  rintro r w1 ⟨rfl, hb1⟩
  have H1 := Lib.hid (Hold.mk (HT.out.below hb1) hb1)
  clear hb1
  go_wp2_with fail
  refine (HP.out w1 H1.out.tabs).mono ?_
  rintro r w2 ⟨B, d, rfl, hx2, hb2⟩
  have H2 := Lib.hid (H1.out.step hb2)
  clear hx2 hb2
  go_wp2_with fail
  go_ret
  exact ⟨rfl, H2.out.below.alloc H2.out.below.size _⟩

set_option maxHeartbeats 8000000 in
set_option maxRecDepth 100000 in
theorem again_good (s : ByteArray) (w : World) (hT : Tabs w) (hl : s.size ≤ 5000) (hf : (parseP s).2.1 = 0) :
    Calls Tryd.prog 7 #[.string s] w fun r w' => r = .returned (.bool true) ∧ Below w.heap.size w w' := by
  have HT := Lib.hid hT
  have hz : (s.size : Int) ≤ 5000 := by omega
  obtain ⟨hok, hmay, hag, hlen⟩ := parse_again hf
  have HP := Lib.hid (fun W hT => parse_any s W hT (by omega))
  obtain ⟨⟨e, f, at_⟩, hp⟩ : ∃ p, parseP s = p := ⟨_, rfl⟩
  rw [hp] at HP hf hok hmay hag hlen
  simp only at hf hok hmay hag hlen
  subst hf
  obtain ⟨t, ht⟩ : ∃ t, str (eText e) = t := ⟨_, rfl⟩
  have htl : t.size ≤ 9223372036854775806 := by
    have h1 := text_len_may hok hmay
    rw [← ht, str_sz]
    omega
  have hpr : str (ePrint e) = t := by
    unfold ePrint
    rw [hmay, if_pos rfl, ht]
  rw [ht] at hag hlen
  have HPR : Hid (∀ (A : Option Addr) (c : Nat) (W : World), exK.Row [] W A e.kids → e.kids.length ≤ c → Tabs W → Calls Tryd.prog 23 #[exV e A c] W fun r w' => r = .returned (.string t) ∧ Below W.heap.size W w') := Lib.hid (fun A c W h1 h2 h3 => by
    have := print_any e A c W h1 h2 hok h3
    rwa [hpr] at this)
  have HPA : Hid (∀ W, Tabs W → Calls Tryd.prog 14 #[.string t] W (TakePost W.heap.size (e, 0, 0) W)) := Lib.hid (fun W h => by
    have := parse_any t W h htl
    rwa [hag] at this)
  have HC1 := Lib.hid (fun W h => cut_any s W h (by omega))
  have HC2 := Lib.hid (fun W h => cut_any t W h htl)
  unfold CutPost at HC1 HC2
  obtain ⟨L, hL⟩ : ∃ L, (cutB s).1.length = L := ⟨_, rfl⟩
  obtain ⟨M, hM⟩ : ∃ M, (cutB t).1.length = M := ⟨_, rfl⟩
  rw [hL] at HC1 hlen
  rw [hM] at HC2 hlen
  have hle : decide (M ≤ L) = true := decide_eq_true hlen
  have hle' : decide ((M : Int) ≤ L) = true := decide_eq_true (by omega)
  clear hT hl hok hmay hag hlen hp ht htl hpr hL hM
  go_enter Tryd.func7, Tryd.ntmps7
  go_wp2_with fail
  refine (awake_any w HT.out).mono ?_
  rintro r w1 ⟨rfl, hb1⟩
  have H1 := Lib.hid (Hold.mk (HT.out.below hb1) hb1)
  clear hb1
  go_wp2_with fail
  refine (HP.out w1 H1.out.tabs).mono ?_
  rintro r w2 ⟨B, d, rfl, hx2, hb2⟩
  have H2 := Lib.hid (H1.out.step hb2)
  have X2 := Lib.hid hx2
  clear hx2 hb2
  go_wp2_with fail
  obtain ⟨w3, hw3⟩ : ∃ w', w2.alloc (.cells #[.int .i64 e.op, .int .i64 e.n, .string e.name, .slice B e.kids.length d] 25 (0, 0)) = w' := ⟨_, rfl⟩
  have hb3 : Below w2.heap.size w2 w3 := hw3 ▸ (Below.refl _ _).alloc (Nat.le_refl _) _
  have hq3 : ExB w3 w2.heap.size e B d := hw3 ▸ heap_alloc_new _ _
  obtain ⟨K, hK⟩ : ∃ K, w2.heap.size = K := ⟨_, rfl⟩
  rw [hw3, hK]
  rw [hK] at hq3
  have H3 := Lib.hid (H2.out.step hb3)
  have X3 := Lib.hid (X2.out.below hb3)
  have Q3 := Lib.hid hq3
  clear hb3 hq3 hw3 hK
  refine (HPR.out B d w3 X3.out.row X3.out.1 H3.out.tabs).mono ?_
  rintro r w4 ⟨rfl, hb4⟩
  have H4 := Lib.hid (H3.out.step hb4)
  have X4 := Lib.hid (X3.out.below hb4)
  have Q4 := Lib.hid (Q3.out.step hb4)
  clear hb4
  go_wp2_with fail
  refine (HPA.out w4 H4.out.tabs).mono ?_
  rintro r w5 ⟨B', d', rfl, hy5, hb5⟩
  have H5 := Lib.hid (H4.out.step hb5)
  have X5 := Lib.hid (X4.out.below hb5)
  have Y5 := Lib.hid hy5
  have Q5 := Lib.hid (Q4.out.step hb5)
  obtain ⟨x0, x1, x2, x3⟩ := Q5.out.cells
  have hlK := blk_lt Q5.out
  clear hb5 hy5
  go_wp2_with fail
  obtain ⟨w6, hw6⟩ : ∃ w', w5.alloc (.cells #[.int .i64 e.op, .int .i64 e.n, .string e.name, .slice B' e.kids.length d'] 25 (0, 0)) = w' := ⟨_, rfl⟩
  have hb6 : Below w5.heap.size w5 w6 := hw6 ▸ (Below.refl _ _).alloc (Nat.le_refl _) _
  rw [hw6]
  have H6 := Lib.hid (H5.out.step hb6)
  have X6 := Lib.hid (X5.out.below hb6)
  have Y6 := Lib.hid (Y5.out.below hb6)
  clear hb6 hw6
  refine (same_eq e B' d' B d w6 Y6.out.row Y6.out.1 X6.out.row X6.out.1).mono ?_
  rintro r w7 ⟨rfl, hb7⟩
  have H7 := Lib.hid (H6.out.step hb7)
  clear hb7 x0 x1 x2 x3
  go_wp2_with fail
  refine (HC1.out w7 H7.out.tabs).mono ?_
  rintro r w8 ⟨A8, c8, rfl, _, _, hb8⟩
  have H8 := Lib.hid (H7.out.step hb8)
  clear hb8
  go_wp2_with fail
  refine (HC2.out w8 H8.out.tabs).mono ?_
  rintro r w9 ⟨A9, c9, rfl, _, _, hb9⟩
  have H9 := Lib.hid (H8.out.step hb9)
  clear hb9
  go_wp2_with fail
  go_ret
  exact ⟨rfl, H9.out.below⟩
theorem again_any (s : ByteArray) (w : World) (hT : Tabs w) (_hs : s.size ≤ maxLen) :
    Calls Tryd.prog 7 #[.string s] w fun r w' => r = .returned (.bool true) ∧ Below w.heap.size w w' := by
  by_cases h1 : 5000 < s.size
  · exact again_long s w hT h1
  · by_cases h2 : (parseP s).2.1 = 0
    · exact again_good s w hT (by omega) h2
    · exact again_bad s w hT (by omega) h2
end Go.Proofs.YtgaiheojlmebaaaDoor
