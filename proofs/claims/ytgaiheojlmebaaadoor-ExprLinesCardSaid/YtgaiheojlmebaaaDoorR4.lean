/- Walks: the reader's lines. (printed by gen_rows.py) -/
import Derived.Test.YtgaiheojlmebaaaDoorR3
namespace Go.Proofs.YtgaiheojlmebaaaDoor
open Go Go.RowKit Go.Lib

theorem rowF_grows {l : List Tok} {first a b : Int} {below : St → Ex × St} (h : Grows first below) : ∀ (n : Nat) (e : Ex) (s : St), s.at_ ≤ first + 64 → s.at_ ≤ (rowF l first a b below n e s).2.at_ ∧ (rowF l first a b below n e s).2.at_ ≤ first + 64
  | 0, e, s, h1 => ⟨Int.le_refl _, h1⟩
  | n + 1, e, s, h1 => by
    rw [rowF]
    cases isP l a b s with
    | none => exact ⟨Int.le_refl _, h1⟩
    | some op =>
      have hp := passP_at first s
      simp only
      by_cases hb : (passP first s).1 = false
      · rw [if_pos hb]
        have := hp.2 hb
        exact ⟨by simp only; omega, by simp only; omega⟩
      · rw [if_neg hb]
        have h2 := hp.1 (by simpa using hb)
        have h3 := h (passP first s).2 (by omega)
        have h4 := rowF_grows (l := l) (a := a) (b := b) h n (node2 op e (below (passP first s).2).1) (below (passP first s).2).2 h3.2
        omega
theorem rowP_grows {l : List Tok} {first a b : Int} {below : St → Ex × St} (h : Grows first below) : Grows first (rowP l first a b below) := fun s h1 => by
  have h2 := h s h1
  have h3 := rowF_grows (l := l) (a := a) (b := b) h 66 (below s).1 (below s).2 h2.2
  unfold rowP
  omega
theorem ReadsAs.lo {l : List Tok} {g c F : Nat} {A : Option Addr} {first lo lo' : Int} {P : St → Ex × St} (h : ReadsAs l g A c first lo F P) (hl : lo ≤ lo') : ReadsAs l g A c first lo' F P :=
  fun s w h1 h2 h3 h4 h5 => h s w h1 h2 h3 (Int.le_trans hl h4) h5

set_option maxHeartbeats 1000000 in
theorem rterm_any (l : List Tok) (g : Nat) (A : Option Addr) (c : Nat) (first lo : Int) (below : St → Ex × St)
    (hF : ReadsAs l g A c first lo 111 below) (hG : Grows first below) (hlc : l.length ≤ c) (hf0 : -9223372036854775808 ≤ first) :
    ReadsAs l g A c first lo 108 (rowP l first 6 8 below) := by
  intro s w hb hr h1 h2 h3
  have eg : ∀ args w, (callFunc 111 args).run Tryd.prog w = .ok (.enter 111 args) w := enters_of Tryd.func111 (by kernel_rfl) rfl
  have hg := blk_lt hb
  have hb0 : Below w.heap.size w (w.alloc (.cells #[.int .i64 0, .int .i64 0, .string ⟨#[]⟩, .slice none 0 0] 25 (0, 0))) := (Below.refl _ _).alloc (Nat.le_refl _) _
  have HROW := Lib.hid (row_any l g A c first lo 6 8 111 below (by omega) (by omega) (by omega) hF hG hlc hf0 eg s _ (hb.same hb0) (hr.keep (Same.of_below hb0)) h1 h2 h3)
  obtain ⟨⟨e, s'⟩, hp⟩ : ∃ p, rowP l first 6 8 below s = p := ⟨_, rfl⟩
  rw [hp] at HROW ⊢
  clear hb hr h1 h2 h3 hF hG hp eg
  go_enter Tryd.func108, Tryd.ntmps108
  go_wp2_with fail
  refine HROW.out.mono ?_
  rintro r w1 ⟨B, d, rfl, hx, hrd, hs⟩
  obtain ⟨⟨z0, z1, z2, z3⟩, f0, f1, f2, f3⟩ := blk4 (hs.heap (k := w.heap.size) (by simp; omega) (heap_alloc_new w _))
  have H := Lib.hid (⟨hx, hrd, (Same.of_below hb0).trans hs (fun _ h => .inl h)⟩ : _ ∧ _ ∧ _)
  clear hx hrd hs hb0
  go_wp2_with fail
  refine bodyPost_ret (v := exV e B d) (by simp [results, Tryd.results108, go_sem, *]) rfl ?_
  exact rd_end (fun k hk => by show k < _; simp; omega) (by show w.heap.size < _; simp) H.out.1 H.out.2.1 H.out.2.2 (Nat.le_refl _) hg _ _ _ _

set_option maxHeartbeats 1000000 in
theorem rsum_any (l : List Tok) (g : Nat) (A : Option Addr) (c : Nat) (first lo : Int) (below : St → Ex × St)
    (hF : ReadsAs l g A c first lo 108 below) (hG : Grows first below) (hlc : l.length ≤ c) (hf0 : -9223372036854775808 ≤ first) :
    ReadsAs l g A c first lo 101 (rowP l first 4 5 below) := by
  intro s w hb hr h1 h2 h3
  have eg : ∀ args w, (callFunc 108 args).run Tryd.prog w = .ok (.enter 108 args) w := enters_of Tryd.func108 (by kernel_rfl) rfl
  have hg := blk_lt hb
  have hb0 : Below w.heap.size w (w.alloc (.cells #[.int .i64 0, .int .i64 0, .string ⟨#[]⟩, .slice none 0 0] 25 (0, 0))) := (Below.refl _ _).alloc (Nat.le_refl _) _
  have HROW := Lib.hid (row_any l g A c first lo 4 5 108 below (by omega) (by omega) (by omega) hF hG hlc hf0 eg s _ (hb.same hb0) (hr.keep (Same.of_below hb0)) h1 h2 h3)
  obtain ⟨⟨e, s'⟩, hp⟩ : ∃ p, rowP l first 4 5 below s = p := ⟨_, rfl⟩
  rw [hp] at HROW ⊢
  clear hb hr h1 h2 h3 hF hG hp eg
  go_enter Tryd.func101, Tryd.ntmps101
  go_wp2_with fail
  refine HROW.out.mono ?_
  rintro r w1 ⟨B, d, rfl, hx, hrd, hs⟩
  obtain ⟨⟨z0, z1, z2, z3⟩, f0, f1, f2, f3⟩ := blk4 (hs.heap (k := w.heap.size) (by simp; omega) (heap_alloc_new w _))
  have H := Lib.hid (⟨hx, hrd, (Same.of_below hb0).trans hs (fun _ h => .inl h)⟩ : _ ∧ _ ∧ _)
  clear hx hrd hs hb0
  go_wp2_with fail
  refine bodyPost_ret (v := exV e B d) (by simp [results, Tryd.results101, go_sem, *]) rfl ?_
  exact rd_end (fun k hk => by show k < _; simp; omega) (by show w.heap.size < _; simp) H.out.1 H.out.2.1 H.out.2.2 (Nat.le_refl _) hg _ _ _ _

set_option maxHeartbeats 1000000 in
theorem rand_any (l : List Tok) (g : Nat) (A : Option Addr) (c : Nat) (first lo : Int) (below : St → Ex × St)
    (hF : ReadsAs l g A c first lo 77 below) (hG : Grows first below) (hlc : l.length ≤ c) (hf0 : -9223372036854775808 ≤ first) :
    ReadsAs l g A c first lo 44 (rowP l first 15 15 below) := by
  intro s w hb hr h1 h2 h3
  have eg : ∀ args w, (callFunc 77 args).run Tryd.prog w = .ok (.enter 77 args) w := enters_of Tryd.func77 (by kernel_rfl) rfl
  have hg := blk_lt hb
  have hb0 : Below w.heap.size w (w.alloc (.cells #[.int .i64 0, .int .i64 0, .string ⟨#[]⟩, .slice none 0 0] 25 (0, 0))) := (Below.refl _ _).alloc (Nat.le_refl _) _
  have HROW := Lib.hid (row_any l g A c first lo 15 15 77 below (by omega) (by omega) (by omega) hF hG hlc hf0 eg s _ (hb.same hb0) (hr.keep (Same.of_below hb0)) h1 h2 h3)
  obtain ⟨⟨e, s'⟩, hp⟩ : ∃ p, rowP l first 15 15 below s = p := ⟨_, rfl⟩
  rw [hp] at HROW ⊢
  clear hb hr h1 h2 h3 hF hG hp eg
  go_enter Tryd.func44, Tryd.ntmps44
  go_wp2_with fail
  refine HROW.out.mono ?_
  rintro r w1 ⟨B, d, rfl, hx, hrd, hs⟩
  obtain ⟨⟨z0, z1, z2, z3⟩, f0, f1, f2, f3⟩ := blk4 (hs.heap (k := w.heap.size) (by simp; omega) (heap_alloc_new w _))
  have H := Lib.hid (⟨hx, hrd, (Same.of_below hb0).trans hs (fun _ h => .inl h)⟩ : _ ∧ _ ∧ _)
  clear hx hrd hs hb0
  go_wp2_with fail
  refine bodyPost_ret (v := exV e B d) (by simp [results, Tryd.results44, go_sem, *]) rfl ?_
  exact rd_end (fun k hk => by show k < _; simp; omega) (by show w.heap.size < _; simp) H.out.1 H.out.2.1 H.out.2.2 (Nat.le_refl _) hg _ _ _ _

set_option maxHeartbeats 1000000 in
theorem ror_any (l : List Tok) (g : Nat) (A : Option Addr) (c : Nat) (first lo : Int) (below : St → Ex × St)
    (hF : ReadsAs l g A c first lo 44 below) (hG : Grows first below) (hlc : l.length ≤ c) (hf0 : -9223372036854775808 ≤ first) :
    ReadsAs l g A c first lo 28 (rowP l first 16 16 below) := by
  intro s w hb hr h1 h2 h3
  have eg : ∀ args w, (callFunc 44 args).run Tryd.prog w = .ok (.enter 44 args) w := enters_of Tryd.func44 (by kernel_rfl) rfl
  have hg := blk_lt hb
  have hb0 : Below w.heap.size w (w.alloc (.cells #[.int .i64 0, .int .i64 0, .string ⟨#[]⟩, .slice none 0 0] 25 (0, 0))) := (Below.refl _ _).alloc (Nat.le_refl _) _
  have HROW := Lib.hid (row_any l g A c first lo 16 16 44 below (by omega) (by omega) (by omega) hF hG hlc hf0 eg s _ (hb.same hb0) (hr.keep (Same.of_below hb0)) h1 h2 h3)
  obtain ⟨⟨e, s'⟩, hp⟩ : ∃ p, rowP l first 16 16 below s = p := ⟨_, rfl⟩
  rw [hp] at HROW ⊢
  clear hb hr h1 h2 h3 hF hG hp eg
  go_enter Tryd.func28, Tryd.ntmps28
  go_wp2_with fail
  refine HROW.out.mono ?_
  rintro r w1 ⟨B, d, rfl, hx, hrd, hs⟩
  obtain ⟨⟨z0, z1, z2, z3⟩, f0, f1, f2, f3⟩ := blk4 (hs.heap (k := w.heap.size) (by simp; omega) (heap_alloc_new w _))
  have H := Lib.hid (⟨hx, hrd, (Same.of_below hb0).trans hs (fun _ h => .inl h)⟩ : _ ∧ _ ∧ _)
  clear hx hrd hs hb0
  go_wp2_with fail
  refine bodyPost_ret (v := exV e B d) (by simp [results, Tryd.results28, go_sem, *]) rfl ?_
  exact rd_end (fun k hk => by show k < _; simp; omega) (by show w.heap.size < _; simp) H.out.1 H.out.2.1 H.out.2.2 (Nat.le_refl _) hg _ _ _ _
end Go.Proofs.YtgaiheojlmebaaaDoor
