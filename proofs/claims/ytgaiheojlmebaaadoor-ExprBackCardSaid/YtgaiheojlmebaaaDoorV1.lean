/- The law that the text of any tree that may be is that tree: the walk. -/
import Derived.Test.YtgaiheojlmebaaaDoorH1
import Derived.Test.YtgaiheojlmebaaaDoorF2
namespace Go.Proofs.YtgaiheojlmebaaaDoor
open Go Go.RowKit Go.Lib

set_option maxHeartbeats 8000000 in
set_option maxRecDepth 100000 in
theorem back_no (e : Ex) (A : Option Addr) (c : Nat) (w : World) (hT : Tabs w) (hk : ExOk e) (ha : exK.Row [] w A e.kids) (hc : e.kids.length ≤ c) (hmay : eMay e = false) :
    Calls Tryd.prog 6 #[exV e A c] w fun r w' => r = .returned (.bool true) ∧ Below w.heap.size w w' := by
  obtain ⟨w0, hw0⟩ : ∃ w0, w.alloc (.cells #[.int .i64 e.op, .int .i64 e.n, .string e.name, .slice A e.kids.length c] 25) = w0 := ⟨_, rfl⟩
  have hal : Below w.heap.size w w0 := hw0 ▸ (Below.refl _ _).alloc (Nat.le_refl _) _
  have hx : ExB w0 w.heap.size e A c := hw0 ▸ heap_alloc_new _ _
  obtain ⟨K, hK⟩ : ∃ K, w.heap.size = K := ⟨_, rfl⟩
  have HM : Hid (∀ W, exK.Row [] W A e.kids → Tabs W → Calls Tryd.prog 22 #[exV e A c] W fun r w' => r = .returned (.bool false) ∧ Below W.heap.size W w') := Lib.hid (fun W h1 h2 => by
    have := may_any e A c W h1 hc hk h2
    rwa [hmay] at this)
  have HL := Lib.hid (fun W h => light_any e A c W hk h hc)
  have H0 := Lib.hid (Hold.mk (hT.below hal) hal)
  have R0 := Lib.hid (ha.keep (Same.of_below (M := []) hal))
  have HW0 := Lib.hid hw0
  have Q0 : Hid (ExB w0 K e A c) := Lib.hid (by rw [← hK]; exact hx)
  clear hT hk ha hc hmay hw0 hal hx
  go_enter Tryd.func6, Tryd.ntmps6
  go_wp2_with fail
  rw [HW0.out]
  clear hK
  refine (awake_any w0 H0.out.tabs).mono ?_
  rintro r w1 ⟨rfl, hb1⟩
  have H1 := Lib.hid (H0.out.step hb1)
  have R1 := Lib.hid (R0.out.keep (Same.of_below (M := []) hb1))
  have Q1 := Lib.hid (Q0.out.step hb1)
  obtain ⟨x0, x1, x2, x3⟩ := Q1.out.cells
  clear hb1
  go_wp2_with fail
  refine (HL.out w1 R1.out).mono ?_
  rintro r w2 ⟨⟨b, rfl⟩, hb2⟩
  have H2 := Lib.hid (H1.out.step hb2)
  have R2 := Lib.hid (R1.out.keep (Same.of_below (M := []) hb2))
  have Q2 := Lib.hid (Q1.out.step hb2)
  clear x0 x1 x2 x3
  obtain ⟨x0, x1, x2, x3⟩ := Q2.out.cells
  clear hb2
  cases b
  · go_wp2_with fail
    go_ret
    exact ⟨rfl, H2.out.below⟩
  · go_wp2_with fail
    refine (HM.out w2 R2.out H2.out.tabs).mono ?_
    rintro r w3 ⟨rfl, hb3⟩
    have H3 := Lib.hid (H2.out.step hb3)
    clear hb3
    go_wp2_with fail
    go_ret
    exact ⟨rfl, H3.out.below⟩

set_option maxHeartbeats 8000000 in
set_option maxRecDepth 100000 in
theorem back_yes (e : Ex) (A : Option Addr) (c : Nat) (w : World) (hT : Tabs w) (hk : ExOk e) (ha : exK.Row [] w A e.kids) (hc : e.kids.length ≤ c) (hmay : eMay e = true) :
    Calls Tryd.prog 6 #[exV e A c] w fun r w' => r = .returned (.bool true) ∧ Below w.heap.size w w' := by
  obtain ⟨w0, hw0⟩ : ∃ w0, w.alloc (.cells #[.int .i64 e.op, .int .i64 e.n, .string e.name, .slice A e.kids.length c] 25) = w0 := ⟨_, rfl⟩
  have hal : Below w.heap.size w w0 := hw0 ▸ (Below.refl _ _).alloc (Nat.le_refl _) _
  have hx : ExB w0 w.heap.size e A c := hw0 ▸ heap_alloc_new _ _
  obtain ⟨K, hK⟩ : ∃ K, w.heap.size = K := ⟨_, rfl⟩
  have HM : Hid (∀ W, exK.Row [] W A e.kids → Tabs W → Calls Tryd.prog 22 #[exV e A c] W fun r w' => r = .returned (.bool true) ∧ Below W.heap.size W w') := Lib.hid (fun W h1 h2 => by
    have := may_any e A c W h1 hc hk h2
    rwa [hmay] at this)
  obtain ⟨t, ht⟩ : ∃ t, str (eText e) = t := ⟨_, rfl⟩
  have htl : t.size ≤ 9223372036854775806 := by
    have h1 := text_len_may hk hmay
    rw [← ht, str_sz]
    omega
  have HPR : Hid (∀ (W : World), exK.Row [] W A e.kids → Tabs W → Calls Tryd.prog 23 #[exV e A c] W fun r w' => r = .returned (.string t) ∧ Below W.heap.size W w') := Lib.hid (fun W h1 h3 => by
    have := print_any e A c W h1 hc hk h3
    unfold ePrint at this
    rwa [hmay, if_pos rfl, ht] at this)
  have HPA : Hid (∀ W, Tabs W → Calls Tryd.prog 14 #[.string t] W (TakePost W.heap.size (e, 0, 0) W)) := Lib.hid (fun W h => by
    have := parse_any t W h htl
    rwa [← ht, parse_back hmay hk, ht] at this)
  have HL := Lib.hid (fun W h => light_any e A c W hk h hc)
  have H0 := Lib.hid (Hold.mk (hT.below hal) hal)
  have R0 := Lib.hid (ha.keep (Same.of_below (M := []) hal))
  have HW0 := Lib.hid hw0
  have HC := Lib.hid hc
  have Q0 : Hid (ExB w0 K e A c) := Lib.hid (by rw [← hK]; exact hx)
  clear hT hk ha hc hmay hw0 hal hx ht htl
  go_enter Tryd.func6, Tryd.ntmps6
  go_wp2_with fail
  rw [HW0.out]
  clear hK
  refine (awake_any w0 H0.out.tabs).mono ?_
  rintro r w1 ⟨rfl, hb1⟩
  have H1 := Lib.hid (H0.out.step hb1)
  have R1 := Lib.hid (R0.out.keep (Same.of_below (M := []) hb1))
  have Q1 := Lib.hid (Q0.out.step hb1)
  obtain ⟨x0, x1, x2, x3⟩ := Q1.out.cells
  clear hb1
  go_wp2_with fail
  refine (HL.out w1 R1.out).mono ?_
  rintro r w2 ⟨⟨b, rfl⟩, hb2⟩
  have H2 := Lib.hid (H1.out.step hb2)
  have R2 := Lib.hid (R1.out.keep (Same.of_below (M := []) hb2))
  have Q2 := Lib.hid (Q1.out.step hb2)
  clear x0 x1 x2 x3
  obtain ⟨x0, x1, x2, x3⟩ := Q2.out.cells
  clear hb2
  cases b
  · go_wp2_with fail
    go_ret
    exact ⟨rfl, H2.out.below⟩
  · go_wp2_with fail
    refine (HM.out w2 R2.out H2.out.tabs).mono ?_
    rintro r w3 ⟨rfl, hb3⟩
    have H3 := Lib.hid (H2.out.step hb3)
    have R3 := Lib.hid (R2.out.keep (Same.of_below (M := []) hb3))
    have Q3 := Lib.hid (Q2.out.step hb3)
    clear x0 x1 x2 x3
    obtain ⟨x0, x1, x2, x3⟩ := Q3.out.cells
    clear hb3
    go_wp2_with fail
    refine (HPR.out w3 R3.out H3.out.tabs).mono ?_
    rintro r w4 ⟨rfl, hb4⟩
    have H4 := Lib.hid (H3.out.step hb4)
    have R4 := Lib.hid (R3.out.keep (Same.of_below (M := []) hb4))
    have Q4 := Lib.hid (Q3.out.step hb4)
    clear x0 x1 x2 x3 hb4
    go_wp2_with fail
    refine (HPA.out w4 H4.out.tabs).mono ?_
    rintro r w5 ⟨B, d, rfl, hy5, hb5⟩
    have H5 := Lib.hid (H4.out.step hb5)
    have R5 := Lib.hid (R4.out.keep (Same.of_below (M := []) hb5))
    have Q5 := Lib.hid (Q4.out.step hb5)
    have Y5 := Lib.hid hy5
    obtain ⟨x0, x1, x2, x3⟩ := Q5.out.cells
    have hlK := blk_lt Q5.out
    clear hb5 hy5
    go_wp2_with fail
    obtain ⟨w6, hw6⟩ : ∃ w', w5.alloc (.cells #[.int .i64 e.op, .int .i64 e.n, .string e.name, .slice B e.kids.length d] 25 (0, 0)) = w' := ⟨_, rfl⟩
    have hb6 : Below w5.heap.size w5 w6 := hw6 ▸ (Below.refl _ _).alloc (Nat.le_refl _) _
    rw [hw6]
    have H6 := Lib.hid (H5.out.step hb6)
    have R6 := Lib.hid (R5.out.keep (Same.of_below (M := []) hb6))
    have Y6 := Lib.hid (Y5.out.below hb6)
    clear hb6 hw6
    refine (same_eq e B d A c w6 Y6.out.row Y6.out.1 R6.out HC.out).mono ?_
    rintro r w7 ⟨rfl, hb7⟩
    have H7 := Lib.hid (H6.out.step hb7)
    clear hb7 x0 x1 x2 x3
    go_wp2_with fail
    go_ret
    exact ⟨rfl, H7.out.below⟩
theorem back_any (e : Ex) (A : Option Addr) (c : Nat) (w : World) (hT : Tabs w) (hk : ExOk e) (ha : exK.Row [] w A e.kids) (hc : e.kids.length ≤ c) :
    Calls Tryd.prog 6 #[exV e A c] w fun r w' => r = .returned (.bool true) ∧ Below w.heap.size w w' := by
  cases h : eMay e with
  | false => exact back_no e A c w hT hk ha hc h
  | true => exact back_yes e A c w hT hk ha hc h
end Go.Proofs.YtgaiheojlmebaaaDoor
