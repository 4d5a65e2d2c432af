/- Walks: the law's small functions. -/
import Derived.Test.YtgaiheojlmebaaaGreatDoorR11
import Derived.Test.YtgaiheojlmebaaaGreatDoorE7
import Derived.Test.YtgaiheojlmebaaaGreatDoorP7
namespace Go.Proofs.YtgaiheojlmebaaaGreatDoor
open Go Go.RowKit Go.Lib

theorem awake_ok : ExOk awakeE :=
  .mk (by decide) (by decide) (by decide) (fun k hk => by
    simp only [List.mem_cons, List.not_mem_nil, or_false] at hk
    rcases hk with rfl | rfl
    · exact .mk (by decide) (by decide) (by decide) (fun k hk => by simp at hk)
    · refine .mk (by decide) (by decide) (by decide) (fun k hk => ?_)
      simp only [List.mem_cons, List.not_mem_nil, or_false] at hk
      rcases hk with rfl | rfl <;> exact .mk (by decide) (by decide) (by decide) (fun k hk => by simp at hk))
/-- A row of one cell. -/
theorem cel_row1 {M : List Nat} {w : World} {k : Nat} {nm : ByteArray} {n : Int} {t : TypeId} (hk : k ∉ M) (h : w.heap[k]? = some (.cells #[.string nm, .int .i64 n] t (0, 0))) : celK.Row M w (some ⟨k, 0, none⟩) [⟨nm, n⟩] :=
  ⟨by show 1 ≤ _; decide, fun _ => ⟨⟨k, 0, none⟩, rfl, hk, blk_lt h, fun i hi => by
    match i, hi with
    | 0, _ => exact ⟨[.string nm, .int .i64 n], ⟨[_], _, rfl, rfl, rfl⟩, fun j u hu => by
        match j, hu with
        | 0, hu => exact (blk_cell h 0).trans hu
        | 1, hu => exact (blk_cell h 1).trans hu⟩⟩⟩
theorem cel_row2 {M : List Nat} {w : World} {k : Nat} {nm nm2 : ByteArray} {n n2 : Int} {t : TypeId} (hk : k ∉ M) (h : w.heap[k]? = some (.cells #[.string nm, .int .i64 n, .string nm2, .int .i64 n2] t (0, 0))) : celK.Row M w (some ⟨k, 0, none⟩) [⟨nm, n⟩, ⟨nm2, n2⟩] :=
  ⟨by show 2 ≤ _; decide, fun _ => ⟨⟨k, 0, none⟩, rfl, hk, blk_lt h, fun i hi => by
    match i, hi with
    | 0, _ => exact ⟨[.string nm, .int .i64 n], ⟨[_], _, rfl, rfl, rfl⟩, fun j u hu => by
        match j, hu with
        | 0, hu => exact (blk_cell h 0).trans hu
        | 1, hu => exact (blk_cell h 1).trans hu⟩
    | 1, _ => exact ⟨[.string nm2, .int .i64 n2], ⟨[_], _, rfl, rfl, rfl⟩, fun j u hu => by
        match j, hu with
        | 0, hu => exact (blk_cell h 2).trans hu
        | 1, hu => exact (blk_cell h 3).trans hu⟩⟩⟩

set_option maxHeartbeats 4000000 in
set_option maxRecDepth 100000 in
theorem awake_any (w : World) (hT : Tabs w) : Calls Tryz.prog 5 #[] w fun r w' => r = .returned (.bool true) ∧ Below w.heap.size w w' := by
  have h := parse_any awakeS w hT (by decide)
  rw [awake_parse] at h
  have HPAR := Lib.hid h
  have HT := Lib.hid hT
  clear h hT
  go_enter Tryz.func5, Tryz.ntmps5
  go_wp2_with fail
  refine HPAR.out.mono ?_
  rintro r w1 ⟨B, d, rfl, hx1, hb1⟩
  have HX1 := Lib.hid hx1
  have HB1 := Lib.hid hb1
  clear hx1 hb1
  go_wp2_with fail
  obtain ⟨w2, hw2⟩ : ∃ w2, w1.alloc (.cells #[.int .i64 awakeE.op, .int .i64 awakeE.n, .string awakeE.name, .slice B awakeE.kids.length d] 24 (0, 0)) = w2 := ⟨_, rfl⟩
  obtain ⟨w3, hw3⟩ : ∃ w3, w2.alloc (.cells #[.string ⟨#[120]⟩, .int .i64 7] 45 (0, 0)) = w3 := ⟨_, rfl⟩
  have h2 : Below w1.heap.size w1 w2 := hw2 ▸ (Below.refl _ _).alloc (Nat.le_refl _) _
  have h3 : Below w2.heap.size w2 w3 := hw3 ▸ (Below.refl _ _).alloc (Nat.le_refl _) _
  have hc3 : w3.heap[w2.heap.size]? = some (.cells #[.string ⟨#[120]⟩, .int .i64 7] 45 (0, 0)) := hw3 ▸ heap_alloc_new _ _
  have he2 : w2.heap[w1.heap.size]? = some (.cells #[.int .i64 awakeE.op, .int .i64 awakeE.n, .string awakeE.name, .slice B awakeE.kids.length d] 24 (0, 0)) := hw2 ▸ heap_alloc_new _ _
  have hsz : w1.heap.size + 1 = w2.heap.size := by rw [← hw2]; simp
  have h13 := h2.trans (h3.mono h2.size)
  have he3 := (h3.block _ (blk_lt he2)).trans he2
  rw [hw2, hw3, hsz]
  have hx3 := HX1.out.below h13
  have hT3 : Tabs w3 := (HT.out.below HB1.out).below h13
  refine (eval_any [⟨⟨#[120]⟩, 7⟩] (some ⟨w2.heap.size, 0, none⟩) 1 awakeE B d w3 (by simp) (fun c hc => by simp at hc; subst hc; decide) (hx3.2 [] (fun k hk => by simp at hk)) hx3.1 awake_ok (cel_row1 (by simp) hc3) hT3).mono ?_
  rw [awake_eval]
  rintro r w4 ⟨rfl, hb4⟩
  have he4 := (hb4.block _ (blk_lt he3)).trans he3
  obtain ⟨⟨e0, e1, e2, e3⟩, _⟩ := blk4 he4
  have hw34 := Below.size hb4
  have H4 := Lib.hid (⟨hx3.below hb4, hT3.below hb4, he4, (HB1.out.trans (h13.mono HB1.out.size)).trans (hb4.mono (Below.size (HB1.out.trans (h13.mono HB1.out.size))))⟩ : _ ∧ _ ∧ _ ∧ _)
  clear h2 h3 hc3 he2 hsz h13 he3 hx3 hT3 hb4 he4 hw2 hw3 hw34
  go_wp2_with fail
  refine (may_any awakeE B d w4 (H4.out.1.2 [] (fun k hk => by simp at hk)) H4.out.1.1 awake_ok H4.out.2.1).mono ?_
  rw [awake_may]
  rintro r w5 ⟨rfl, hb5⟩
  obtain ⟨⟨g0, g1, g2, g3⟩, _⟩ := blk4 ((hb5.block _ (blk_lt H4.out.2.2.1)).trans H4.out.2.2.1)
  have H5 := Lib.hid (⟨H4.out.1.below hb5, H4.out.2.1.below hb5, H4.out.2.2.2.trans (hb5.mono H4.out.2.2.2.size)⟩ : _ ∧ _ ∧ _)
  clear hb5
  go_wp2_with fail
  refine (print_any awakeE B d w5 (H5.out.1.2 [] (fun k hk => by simp at hk)) H5.out.1.1 awake_ok H5.out.2.1).mono ?_
  rw [awake_print, show str awakeS.data.toList = ⟨#[49, 32, 43, 32, 120, 32, 42, 32, 50]⟩ from rfl]
  rintro r w6 ⟨rfl, hb6⟩
  have H6 := Lib.hid (H5.out.2.2.trans (hb6.mono H5.out.2.2.size))
  clear hb6
  go_wp2_with fail
  go_ret
  exact ⟨rfl, H6.out⟩
end Go.Proofs.YtgaiheojlmebaaaGreatDoor
