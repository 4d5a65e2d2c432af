/- The law of quotients: the walk. -/
import Derived.Test.YtgaiheojlmebaaaDoorA1
namespace Go.Proofs.YtgaiheojlmebaaaDoor
open Go Go.RowKit Go.Lib

theorem pair_may (op : Int) (h1 : 4 ≤ op) (h2 : op ≤ 16) : eMay (pairE op) = true := by
  have h : ((List.range 13).all fun k => eMay (pairE (4 + (k : Int)))) = true := by kernel_rfl
  have := List.all_eq_true.1 h (op - 4).toNat (List.mem_range.2 (by omega))
  rwa [show 4 + ((op - 4).toNat : Int) = op by omega] at this
theorem pair_eval (op x y : Int) (h1 : 4 ≤ op) (h2 : op ≤ 16) : eEval (pairE op) [⟨⟨#[97]⟩, x⟩, ⟨⟨#[98]⟩, y⟩] = eTwo op x y := by
  unfold eEval
  rw [pair_may op h1 h2, if_pos rfl]
  have ha : eReck [⟨⟨#[97]⟩, x⟩, ⟨⟨#[98]⟩, y⟩] (.mk 1 0 ⟨#[97]⟩ []) = (x, 0) := by rw [eReck.eq_def]; exact rfl
  have hb : eReck [⟨⟨#[97]⟩, x⟩, ⟨⟨#[98]⟩, y⟩] (.mk 1 0 ⟨#[98]⟩ []) = (y, 0) := by rw [eReck.eq_def]; exact rfl
  unfold pairE
  rw [eReck.eq_def]
  simp only [ha, hb]
  rw [if_neg (by omega), if_neg (by omega), if_neg (by decide), if_neg (by decide)]
/-- Two cells in memory. -/
def EnvB (w : World) (K : Nat) (x y : Int) : Prop := w.heap[K]? = some (.cells #[.string ⟨#[97]⟩, .int .i64 x, .string ⟨#[98]⟩, .int .i64 y] 44 (0, 0))
theorem evalpair_any (op x y : Int) (h1 : 4 ≤ op) (h2 : op ≤ 16) (hx : Fits x) (hy : Fits y) (B : Option Addr) (K : Nat) (b : Nat) (W : World) (he : ExF (fun k => k < b) W (pairE op) B 2) (hK : EnvB W K x y) (hT : Tabs W) :
    Calls Tryd.prog 20 #[exV (pairE op) B 2, .slice (some ⟨K, 0, none⟩) 2 2] W (ReckPost (eTwo op x y) W) := by
  have h := eval_any [⟨⟨#[97]⟩, x⟩, ⟨⟨#[98]⟩, y⟩] (some ⟨K, 0, none⟩) 2 (pairE op) B 2 W (by simp) (fun c hc => by
    simp only [List.mem_cons, List.not_mem_nil, or_false] at hc
    rcases hc with rfl | rfl
    · exact hx
    · exact hy) (he.2 [] (fun k hk => by simp at hk)) he.1 (pairE_ok op ⟨by omega, by omega⟩) (cel_row2 (by simp) hK) hT
  rw [pair_eval op x y h1 h2] at h
  exact h
/-- What a step of such a law holds on to. -/
structure Hold (w0 : World) (w : World) : Prop where
  tabs : Tabs w
  below : Below w0.heap.size w0 w
theorem Hold.step {w0 w w' : World} (h : Hold w0 w) (hb : Below w.heap.size w w') : Hold w0 w' := ⟨h.tabs.below hb, h.below.trans (hb.mono h.below.size)⟩
theorem EnvB.step {w w' : World} {K : Nat} {x y : Int} (h : EnvB w K x y) (hb : Below w.heap.size w w') : EnvB w' K x y := (hb.block K (blk_lt h)).trans h

set_option maxHeartbeats 4000000 in
set_option maxRecDepth 100000 in
theorem div_zero (a b : Int) (w : World) (hT : Tabs w) (ha : Fits a) (hb : Fits b) (h0 : b = 0) :
    Calls Tryd.prog 10 #[.int .i64 a, .int .i64 b] w fun r w' => r = .returned (.bool true) ∧ Below w.heap.size w w' := by
  have e7 : eTwo 7 a b = (0, 23) := by rw [h0]; rfl
  have e8 : eTwo 8 a b = (0, 23) := by rw [h0]; rfl
  have h0b : (b == 0) = true := beq_iff_eq.2 h0
  have HT := Lib.hid hT
  have HA := Lib.hid ha
  have HB := Lib.hid hb
  have E7 := Lib.hid e7
  have E8 := Lib.hid e8
  clear hT ha hb e7 e8 h0
  go_enter Tryd.func10, Tryd.ntmps10
  go_wp2_with fail
  refine (awake_any w HT.out).mono ?_
  rintro r w1 ⟨rfl, hb1⟩
  have H1 := Lib.hid (Hold.mk (HT.out.below hb1) hb1)
  clear hb1
  go_wp2_with fail
  obtain ⟨w2, hw2⟩ : ∃ w2, w1.alloc (.cells #[.string ⟨#[97]⟩, .int .i64 a, .string ⟨#[98]⟩, .int .i64 b] 44 (0, 0)) = w2 := ⟨_, rfl⟩
  have hb2 : Below w1.heap.size w1 w2 := hw2 ▸ (Below.refl _ _).alloc (Nat.le_refl _) _
  have hK2 : EnvB w2 w1.heap.size a b := hw2 ▸ heap_alloc_new _ _
  obtain ⟨K, hK⟩ : ∃ K, w1.heap.size = K := ⟨_, rfl⟩
  rw [hw2, hK]
  rw [hK] at hK2
  have H2 := Lib.hid (H1.out.step hb2)
  have N2 := Lib.hid hK2
  clear hb2 hK2 hw2 hK
  refine (pair_any 7 w2).mono ?_
  rintro r w3 ⟨B3, rfl, hx3, hb3⟩
  have H3 := Lib.hid (H2.out.step hb3)
  have N3 := Lib.hid (N2.out.step hb3)
  have X3 := Lib.hid hx3
  clear hx3 hb3
  go_wp2_with fail
  refine (evalpair_any 7 a b (by decide) (by decide) HA.out HB.out B3 K _ w3 X3.out N3.out H3.out.tabs).mono ?_
  rw [E7.out]
  rintro r w4 ⟨rfl, hb4⟩
  have H4 := Lib.hid (H3.out.step hb4)
  have N4 := Lib.hid (N3.out.step hb4)
  clear hb4
  go_wp2_with fail
  refine (pair_any 8 w4).mono ?_
  rintro r w5 ⟨B5, rfl, hx5, hb5⟩
  have H5 := Lib.hid (H4.out.step hb5)
  have N5 := Lib.hid (N4.out.step hb5)
  have X5 := Lib.hid hx5
  clear hx5 hb5
  go_wp2_with fail
  refine (evalpair_any 8 a b (by decide) (by decide) HA.out HB.out B5 K _ w5 X5.out N5.out H5.out.tabs).mono ?_
  rw [E8.out]
  rintro r w6 ⟨rfl, hb6⟩
  have H6 := Lib.hid (H5.out.step hb6)
  clear hb6
  go_wp2_with fail
  go_ret
  exact ⟨rfl, H6.out.below⟩
end Go.Proofs.YtgaiheojlmebaaaDoor
