/- The law that any tree comes to the number, or to the error, that the document says: the walk. -/
import Derived.Test.YtgaiheojlmebaaaDoorSA
import Derived.Test.YtgaiheojlmebaaaDoorH1
namespace Go.Proofs.YtgaiheojlmebaaaDoor
open Go Go.RowKit Go.Lib

set_option maxHeartbeats 8000000 in
set_option maxRecDepth 100000 in
theorem evals_any (env : List Cel) (EA : Option Addr) (ec : Nat) (e : Ex) (A : Option Addr) (c : Nat) (w : World) (hT : Tabs w) (hk : ExOk e) (ha : exK.Row [] w A e.kids) (hc : e.kids.length ≤ c) (he : celK.Row [] w EA env) (hle : env.length ≤ ec) (hf : ∀ x, x ∈ env → Fits x.n) :
    Calls Tryd.prog 5 #[exV e A c, .slice EA env.length ec] w fun r w' => r = .returned (.bool true) ∧ Below w.heap.size w w' := by
  obtain ⟨w0, hw0⟩ : ∃ w0, w.alloc (.cells #[.int .i64 e.op, .int .i64 e.n, .string e.name, .slice A e.kids.length c] 25) = w0 := ⟨_, rfl⟩
  have hal : Below w.heap.size w w0 := hw0 ▸ (Below.refl _ _).alloc (Nat.le_refl _) _
  have hx : ExB w0 w.heap.size e A c := hw0 ▸ heap_alloc_new _ _
  obtain ⟨K, hK⟩ : ∃ K, w.heap.size = K := ⟨_, rfl⟩
  have HL := Lib.hid (fun W h => lightN_any e A c W hk h hc)
  have HE1 := Lib.hid (fun W h1 h2 h3 => eval_any env EA ec e A c W hle hf h1 hc hk h2 h3)
  have HE2 := Lib.hid (fun W h1 h2 h3 => xeval_any env EA ec e A c W hle hf h1 hc hk h2 h3)
  obtain ⟨p, hp⟩ : ∃ p, eEval e env = p := ⟨_, rfl⟩
  rw [hp] at HE1 HE2
  obtain ⟨p1, p2⟩ := p
  unfold ReckPost at HE1 HE2
  have H0 := Lib.hid (Hold.mk (hT.below hal) hal)
  have R0 := Lib.hid (ha.keep (Same.of_below (M := []) hal))
  have E0 := Lib.hid (he.keep (Same.of_below (M := []) hal))
  have HW0 := Lib.hid hw0
  have Q0 : Hid (ExB w0 K e A c) := Lib.hid (by rw [← hK]; exact hx)
  have hmz : (env.length : Int) ≤ 9223372036854775807 := by have := he.1; omega
  clear hT hk ha hc he hle hf hp hw0 hal hx
  go_enter Tryd.func5, Tryd.ntmps5
  go_wp2_with fail
  rw [HW0.out]
  clear hK
  refine (awake_any w0 H0.out.tabs).mono ?_
  rintro r w1 ⟨rfl, hb1⟩
  have H1 := Lib.hid (H0.out.step hb1)
  have R1 := Lib.hid (R0.out.keep (Same.of_below (M := []) hb1))
  have E1 := Lib.hid (E0.out.keep (Same.of_below (M := []) hb1))
  have Q1 := Lib.hid (Q0.out.step hb1)
  obtain ⟨x0, x1, x2, x3⟩ := Q1.out.cells
  clear hb1
  go_wp2_with fail
  refine (HL.out w1 R1.out).mono ?_
  rintro r w2 ⟨b, rfl, hn, hb2⟩
  have HN := Lib.hid hn
  have H2 := Lib.hid (H1.out.step hb2)
  have R2 := Lib.hid (R1.out.keep (Same.of_below (M := []) hb2))
  have E2 := Lib.hid (E1.out.keep (Same.of_below (M := []) hb2))
  have Q2 := Lib.hid (Q1.out.step hb2)
  clear x0 x1 x2 x3 hn
  obtain ⟨x0, x1, x2, x3⟩ := Q2.out.cells
  clear hb2
  cases b
  · go_wp2_with fail
    go_ret
    exact ⟨rfl, H2.out.below⟩
  · have HN2 := Lib.hid (HN.out rfl)
    clear HN
    by_cases hl : (1000 : Int) < env.length
    · go_wp2_with fail
      go_ret
      exact ⟨rfl, H2.out.below⟩
    · have hl' : (env.length : Int) ≤ 1000 := by omega
      clear hl
      go_wp2_with fail
      refine (HE1.out w2 R2.out E2.out H2.out.tabs).mono ?_
      rintro r w3 ⟨rfl, hb3⟩
      have H3 := Lib.hid (H2.out.step hb3)
      have R3 := Lib.hid (R2.out.keep (Same.of_below (M := []) hb3))
      have E3 := Lib.hid (E2.out.keep (Same.of_below (M := []) hb3))
      have Q3 := Lib.hid (Q2.out.step hb3)
      clear x0 x1 x2 x3
      obtain ⟨x0, x1, x2, x3⟩ := Q3.out.cells
      clear hb3
      go_wp2_with fail
      refine (HE2.out w3 R3.out HN2.out E3.out).mono ?_
      rintro r w4 ⟨rfl, hb4⟩
      have H4 := Lib.hid (H3.out.step hb4)
      clear hb4 x0 x1 x2 x3
      go_wp2_with fail
      go_ret
      exact ⟨rfl, H4.out.below⟩
end Go.Proofs.YtgaiheojlmebaaaDoor
