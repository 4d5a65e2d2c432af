/- The law that any tree may be, or not, has the text, and the names, that the document says: the walk. -/
import Derived.Test.YtgaiheojlmebaaaGreatDoorZ7
import Derived.Test.YtgaiheojlmebaaaGreatDoorF3
import Derived.Test.YtgaiheojlmebaaaGreatDoorH1
namespace Go.Proofs.YtgaiheojlmebaaaGreatDoor
open Go Go.RowKit Go.Lib

set_option maxHeartbeats 8000000 in
set_option maxRecDepth 100000 in
theorem trees_any (e : Ex) (A : Option Addr) (c : Nat) (w : World) (hT : Tabs w) (hk : ExOk e) (ha : exK.Row [] w A e.kids) (hc : e.kids.length ≤ c) :
    Calls Tryz.prog 3 #[exV e A c] w fun r w' => r = .returned (.bool true) ∧ Below w.heap.size w w' := by
  obtain ⟨w0, hw0⟩ : ∃ w0, w.alloc (.cells #[.int .i64 e.op, .int .i64 e.n, .string e.name, .slice A e.kids.length c] 24) = w0 := ⟨_, rfl⟩
  have hal : Below w.heap.size w w0 := hw0 ▸ (Below.refl _ _).alloc (Nat.le_refl _) _
  have hx : ExB w0 w.heap.size e A c := hw0 ▸ heap_alloc_new _ _
  obtain ⟨K, hK⟩ : ∃ K, w.heap.size = K := ⟨_, rfl⟩
  have HL := Lib.hid (fun W h => lightN_any e A c W hk h hc)
  have HM1 := Lib.hid (fun W h1 h2 => may_any e A c W h1 hc hk h2)
  have HM2 := Lib.hid (fun W h1 h2 => xmay_any e A c W h1 hc h2)
  have HP1 := Lib.hid (fun W h1 h2 => print_any e A c W h1 hc hk h2)
  have HP2 := Lib.hid (fun W h1 h2 => xprint_any e A c W h1 hc hk h2)
  have HN1 := Lib.hid (fun W h1 h2 => enames_any e A c W h1 hc hk h2)
  have HN2 := Lib.hid (fun W h1 h2 => xNames_any e A c W h1 hc h2)
  obtain ⟨l, hl⟩ : ∃ l, namesP e = l := ⟨_, rfl⟩
  obtain ⟨t, ht⟩ : ∃ t, str (ePrint e) = t := ⟨_, rfl⟩
  obtain ⟨m, hm⟩ : ∃ m, eMay e = m := ⟨_, rfl⟩
  rw [hl] at HN1 HN2
  rw [ht] at HP1 HP2
  rw [hm] at HM1 HM2
  unfold NamesPost at HN1 HN2
  have H0 := Lib.hid (Hold.mk (hT.below hal) hal)
  have R0 := Lib.hid (ha.keep (Same.of_below (M := []) hal))
  have HW0 := Lib.hid hw0
  have Q0 : Hid (ExB w0 K e A c) := Lib.hid (by rw [← hK]; exact hx)
  clear hT hk ha hc hw0 hal hx hl ht hm
  go_enter Tryz.func3, Tryz.ntmps3
  go_wp2_with fail
  rw [HW0.out]
  clear hK
  refine (awake_any w0 H0.out.tabs).mono ?_
  rintro r w1 ⟨rfl, hb1⟩
  have H1 := Lib.hid (H0.out.step hb1)
  have R1 := Lib.hid (R0.out.keep (Same.of_below (M := []) hb1))
  have Q1 := Lib.hid (Q0.out.step hb1)
  obtain ⟨x0, x1, x2, x3⟩ := Q1.out.cells
  clear hb1
  go_wp2_with fail
  refine (HL.out w1 R1.out).mono ?_
  rintro r w2 ⟨b, rfl, hn, hb2⟩
  have HN := Lib.hid hn
  have H2 := Lib.hid (H1.out.step hb2)
  have R2 := Lib.hid (R1.out.keep (Same.of_below (M := []) hb2))
  have Q2 := Lib.hid (Q1.out.step hb2)
  clear x0 x1 x2 x3 hn
  obtain ⟨x0, x1, x2, x3⟩ := Q2.out.cells
  clear hb2
  cases b
  · go_wp2_with fail
    go_ret
    exact ⟨rfl, H2.out.below⟩
  · have HN3 := Lib.hid (HN.out rfl)
    have hlK := blk_lt Q2.out
    clear HN
    go_wp2_with fail
    have SK : ∀ W, Below w2.heap.size w2 W → W.cell? ⟨K, 0, none⟩ = some (.int .i64 e.op) ∧ W.cell? ⟨K, 1, none⟩ = some (.int .i64 e.n) ∧ W.cell? ⟨K, 2, none⟩ = some (.string e.name) ∧ W.cell? ⟨K, 3, none⟩ = some (.slice A e.kids.length c) ∧ Hid (Below w2.heap.size w2 W) := fun W hW => by
      obtain ⟨y0, y1, y2, y3⟩ := (Q2.out.step hW).cells
      exact ⟨y0, y1, y2, y3, hW⟩
    have HSK := Lib.hid SK
    have N1 : Hid (∀ W, Below w2.heap.size w2 W → Calls Tryz.prog 8 #[exV e A c] W fun r w' => ∃ A c, r = .returned (.slice A l.length c) ∧ l.length ≤ c ∧ sK.Row [] w' A l ∧ Below w2.heap.size w2 w' ∧ Below W.heap.size W w') := Lib.hid (fun W hW => (HN1.out W (R2.out.keep (Same.of_below (M := []) hW)) (H2.out.step hW).tabs).mono (by
      rintro r w' ⟨A, c, rfl, h1, h2, h3⟩
      exact ⟨A, c, rfl, h1, h2, hW.trans (h3.mono hW.size), h3⟩))
    have N2 : Hid (∀ W, Below w2.heap.size w2 W → Calls Tryz.prog 9 #[exV e A c] W fun r w' => ∃ A c, r = .returned (.slice A l.length c) ∧ l.length ≤ c ∧ sK.Row [] w' A l ∧ Below w2.heap.size w2 w' ∧ Below W.heap.size W w') := Lib.hid (fun W hW => (HN2.out W (R2.out.keep (Same.of_below (M := []) hW)) HN3.out).mono (by
      rintro r w' ⟨A, c, rfl, h1, h2, h3⟩
      exact ⟨A, c, rfl, h1, h2, hW.trans (h3.mono hW.size), h3⟩))
    have M1 : Hid (∀ W, Below w2.heap.size w2 W → Calls Tryz.prog 10 #[exV e A c] W fun r w' => r = .returned (.bool m) ∧ Below w2.heap.size w2 w') := Lib.hid (fun W hW => (HM1.out W (R2.out.keep (Same.of_below (M := []) hW)) (H2.out.step hW).tabs).mono (by
      rintro r w' ⟨rfl, h3⟩
      exact ⟨rfl, hW.trans (h3.mono hW.size)⟩))
    have M2 : Hid (∀ W, Below w2.heap.size w2 W → Calls Tryz.prog 11 #[exV e A c] W fun r w' => r = .returned (.bool m) ∧ Below w2.heap.size w2 w') := Lib.hid (fun W hW => (HM2.out W (R2.out.keep (Same.of_below (M := []) hW)) HN3.out).mono (by
      rintro r w' ⟨rfl, h3⟩
      exact ⟨rfl, hW.trans (h3.mono hW.size)⟩))
    have P1 : Hid (∀ W, Below w2.heap.size w2 W → Calls Tryz.prog 12 #[exV e A c] W fun r w' => r = .returned (.string t) ∧ Below w2.heap.size w2 w') := Lib.hid (fun W hW => (HP1.out W (R2.out.keep (Same.of_below (M := []) hW)) (H2.out.step hW).tabs).mono (by
      rintro r w' ⟨rfl, h3⟩
      exact ⟨rfl, hW.trans (h3.mono hW.size)⟩))
    have P2 : Hid (∀ W, Below w2.heap.size w2 W → Calls Tryz.prog 13 #[exV e A c] W fun r w' => r = .returned (.string t) ∧ Below w2.heap.size w2 w') := Lib.hid (fun W hW => (HP2.out W (R2.out.keep (Same.of_below (M := []) hW)) HN3.out).mono (by
      rintro r w' ⟨rfl, h3⟩
      exact ⟨rfl, hW.trans (h3.mono hW.size)⟩))
    clear SK
    have HBr := Lib.hid ((Below.refl w2.heap.size w2).drew)
    obtain ⟨i0, i1, i2, i3, i4⟩ := HSK.out _ HBr.out
    go_region_held3 (fun W => W.cell? ⟨K, 0, none⟩ = some (.int .i64 e.op) ∧ W.cell? ⟨K, 1, none⟩ = some (.int .i64 e.n) ∧ W.cell? ⟨K, 2, none⟩ = some (.string e.name) ∧ W.cell? ⟨K, 3, none⟩ = some (.slice A e.kids.length c) ∧ Hid (Below w2.heap.size w2 W))
      (first | exact HSK.out _ hb | exact HSK.out _ HBr.out | go_keep)
      (first
        | (go_at_call 7; refine (texts_same l A1 A2 c1 c2 _ (hr1.keep (Same.of_below (M := []) hs2)) hr2 hl1 hl2).mono ?_; rintro r v3 ⟨rfl, hb3⟩; have hb := hb.trans (hb3.mono hb.size))
        | (go_at_call 8; refine (N1.out _ ?_).mono ?_; (first | exact HBr.out | assumption); rintro r v1 ⟨A1, c1, rfl, hl1, hr1, hb, hs1⟩)
        | (go_at_call 9; refine (N2.out _ ?_).mono ?_; (first | exact HBr.out | assumption); rintro r v2 ⟨A2, c2, rfl, hl2, hr2, hb, hs2⟩))
    all_goals
      have HB3 := Lib.hid hb
      clear hb hb3 hs1 hs2 hr1 hr2 hl1 hl2 i0 i1 i2 i3 i4 x0 x1 x2 x3
      go_wp2_with fail
      have HBq := Lib.hid (HB3.out.drew)
      obtain ⟨i0, i1, i2, i3, i4⟩ := HSK.out _ HBq.out
      go_region_held3 (fun W => W.cell? ⟨K, 0, none⟩ = some (.int .i64 e.op) ∧ W.cell? ⟨K, 1, none⟩ = some (.int .i64 e.n) ∧ W.cell? ⟨K, 2, none⟩ = some (.string e.name) ∧ W.cell? ⟨K, 3, none⟩ = some (.slice A e.kids.length c) ∧ Hid (Below w2.heap.size w2 W))
        (first | exact HSK.out _ hb | exact HSK.out _ HBq.out | go_keep)
        (first
          | (go_at_call 10; refine (M1.out _ ?_).mono ?_; (first | exact HBq.out | assumption); rintro r v1 ⟨rfl, hb⟩)
          | (go_at_call 11; refine (M2.out _ ?_).mono ?_; (first | exact HBq.out | assumption); rintro r v2 ⟨rfl, hb⟩)
          | (go_at_call 12; refine (P1.out _ ?_).mono ?_; (first | exact HBq.out | assumption); rintro r v1 ⟨rfl, hb⟩)
          | (go_at_call 13; refine (P2.out _ ?_).mono ?_; (first | exact HBq.out | assumption); rintro r v2 ⟨rfl, hb⟩))
      all_goals
        go_wp2_with fail
        go_ret
        exact ⟨rfl, H2.out.below.trans (hb.mono H2.out.below.size)⟩
end Go.Proofs.YtgaiheojlmebaaaGreatDoor
