/- The law of truths: its words. (printed by gen_truth.py) -/
import Derived.Test.YtgaiheojlmebaaaDoorD1
namespace Go.Proofs.YtgaiheojlmebaaaDoor
open Go Go.RowKit Go.Lib

theorem truth_two (op a b : Int) (h9 : 9 ≤ op) (h16 : op ≤ 16) : ∃ p : Bool, eTwo op a b = (b01 p, 0) := by
  have hop : op = 9 ∨ op = 10 ∨ op = 11 ∨ op = 12 ∨ op = 13 ∨ op = 14 ∨ op = 15 ∨ op = 16 := by omega
  rcases hop with rfl | rfl | rfl | rfl | rfl | rfl | rfl | rfl <;> exact ⟨_, rfl⟩
/-- What the array holds of operator j, as long as the operators below op are through. -/
def vAt (a b op j : Int) : Int := if 9 ≤ j ∧ j < op then (eTwo j a b).1 else 0
def vArr (a b op : Int) : Array Value := #[.int .i64 (vAt a b op 0), .int .i64 (vAt a b op 1), .int .i64 (vAt a b op 2), .int .i64 (vAt a b op 3), .int .i64 (vAt a b op 4), .int .i64 (vAt a b op 5), .int .i64 (vAt a b op 6), .int .i64 (vAt a b op 7), .int .i64 (vAt a b op 8), .int .i64 (vAt a b op 9), .int .i64 (vAt a b op 10), .int .i64 (vAt a b op 11), .int .i64 (vAt a b op 12), .int .i64 (vAt a b op 13), .int .i64 (vAt a b op 14), .int .i64 (vAt a b op 15), .int .i64 (vAt a b op 16)]
theorem vAt_step (a b op j : Int) (h : j ≠ op) : vAt a b (op + 1) j = vAt a b op j := by
  unfold vAt
  by_cases h1 : 9 ≤ j ∧ j < op
  · rw [if_pos h1, if_pos (by omega)]
  · rw [if_neg h1, if_neg (by omega)]
theorem vAt_new (a b op : Int) (h : 9 ≤ op) : vAt a b (op + 1) op = (eTwo op a b).1 := by
  unfold vAt
  rw [if_pos (by omega)]
theorem vArr_start (a b : Int) : vArr a b 9 = #[.int .i64 0, .int .i64 0, .int .i64 0, .int .i64 0, .int .i64 0, .int .i64 0, .int .i64 0, .int .i64 0, .int .i64 0, .int .i64 0, .int .i64 0, .int .i64 0, .int .i64 0, .int .i64 0, .int .i64 0, .int .i64 0, .int .i64 0] := by
  have h : ∀ j, vAt a b 9 j = 0 := fun j => by unfold vAt; rw [if_neg (by omega)]
  unfold vArr
  simp only [h]
theorem vArr_set9 (a b n : Int) (h : (eTwo 9 a b).1 = n) : (vArr a b 9).setIfInBounds 9 (.int .i64 n) = vArr a b (9 + 1) := by
  subst h
  unfold vArr
  rw [vAt_new a b 9 (by decide), vAt_step a b 9 0 (by decide), vAt_step a b 9 1 (by decide), vAt_step a b 9 2 (by decide), vAt_step a b 9 3 (by decide), vAt_step a b 9 4 (by decide), vAt_step a b 9 5 (by decide), vAt_step a b 9 6 (by decide), vAt_step a b 9 7 (by decide), vAt_step a b 9 8 (by decide), vAt_step a b 9 10 (by decide), vAt_step a b 9 11 (by decide), vAt_step a b 9 12 (by decide), vAt_step a b 9 13 (by decide), vAt_step a b 9 14 (by decide), vAt_step a b 9 15 (by decide), vAt_step a b 9 16 (by decide)]
  rfl
theorem vArr_set10 (a b n : Int) (h : (eTwo 10 a b).1 = n) : (vArr a b 10).setIfInBounds 10 (.int .i64 n) = vArr a b (10 + 1) := by
  subst h
  unfold vArr
  rw [vAt_new a b 10 (by decide), vAt_step a b 10 0 (by decide), vAt_step a b 10 1 (by decide), vAt_step a b 10 2 (by decide), vAt_step a b 10 3 (by decide), vAt_step a b 10 4 (by decide), vAt_step a b 10 5 (by decide), vAt_step a b 10 6 (by decide), vAt_step a b 10 7 (by decide), vAt_step a b 10 8 (by decide), vAt_step a b 10 9 (by decide), vAt_step a b 10 11 (by decide), vAt_step a b 10 12 (by decide), vAt_step a b 10 13 (by decide), vAt_step a b 10 14 (by decide), vAt_step a b 10 15 (by decide), vAt_step a b 10 16 (by decide)]
  rfl
theorem vArr_set11 (a b n : Int) (h : (eTwo 11 a b).1 = n) : (vArr a b 11).setIfInBounds 11 (.int .i64 n) = vArr a b (11 + 1) := by
  subst h
  unfold vArr
  rw [vAt_new a b 11 (by decide), vAt_step a b 11 0 (by decide), vAt_step a b 11 1 (by decide), vAt_step a b 11 2 (by decide), vAt_step a b 11 3 (by decide), vAt_step a b 11 4 (by decide), vAt_step a b 11 5 (by decide), vAt_step a b 11 6 (by decide), vAt_step a b 11 7 (by decide), vAt_step a b 11 8 (by decide), vAt_step a b 11 9 (by decide), vAt_step a b 11 10 (by decide), vAt_step a b 11 12 (by decide), vAt_step a b 11 13 (by decide), vAt_step a b 11 14 (by decide), vAt_step a b 11 15 (by decide), vAt_step a b 11 16 (by decide)]
  rfl
theorem vArr_set12 (a b n : Int) (h : (eTwo 12 a b).1 = n) : (vArr a b 12).setIfInBounds 12 (.int .i64 n) = vArr a b (12 + 1) := by
  subst h
  unfold vArr
  rw [vAt_new a b 12 (by decide), vAt_step a b 12 0 (by decide), vAt_step a b 12 1 (by decide), vAt_step a b 12 2 (by decide), vAt_step a b 12 3 (by decide), vAt_step a b 12 4 (by decide), vAt_step a b 12 5 (by decide), vAt_step a b 12 6 (by decide), vAt_step a b 12 7 (by decide), vAt_step a b 12 8 (by decide), vAt_step a b 12 9 (by decide), vAt_step a b 12 10 (by decide), vAt_step a b 12 11 (by decide), vAt_step a b 12 13 (by decide), vAt_step a b 12 14 (by decide), vAt_step a b 12 15 (by decide), vAt_step a b 12 16 (by decide)]
  rfl
theorem vArr_set13 (a b n : Int) (h : (eTwo 13 a b).1 = n) : (vArr a b 13).setIfInBounds 13 (.int .i64 n) = vArr a b (13 + 1) := by
  subst h
  unfold vArr
  rw [vAt_new a b 13 (by decide), vAt_step a b 13 0 (by decide), vAt_step a b 13 1 (by decide), vAt_step a b 13 2 (by decide), vAt_step a b 13 3 (by decide), vAt_step a b 13 4 (by decide), vAt_step a b 13 5 (by decide), vAt_step a b 13 6 (by decide), vAt_step a b 13 7 (by decide), vAt_step a b 13 8 (by decide), vAt_step a b 13 9 (by decide), vAt_step a b 13 10 (by decide), vAt_step a b 13 11 (by decide), vAt_step a b 13 12 (by decide), vAt_step a b 13 14 (by decide), vAt_step a b 13 15 (by decide), vAt_step a b 13 16 (by decide)]
  rfl
theorem vArr_set14 (a b n : Int) (h : (eTwo 14 a b).1 = n) : (vArr a b 14).setIfInBounds 14 (.int .i64 n) = vArr a b (14 + 1) := by
  subst h
  unfold vArr
  rw [vAt_new a b 14 (by decide), vAt_step a b 14 0 (by decide), vAt_step a b 14 1 (by decide), vAt_step a b 14 2 (by decide), vAt_step a b 14 3 (by decide), vAt_step a b 14 4 (by decide), vAt_step a b 14 5 (by decide), vAt_step a b 14 6 (by decide), vAt_step a b 14 7 (by decide), vAt_step a b 14 8 (by decide), vAt_step a b 14 9 (by decide), vAt_step a b 14 10 (by decide), vAt_step a b 14 11 (by decide), vAt_step a b 14 12 (by decide), vAt_step a b 14 13 (by decide), vAt_step a b 14 15 (by decide), vAt_step a b 14 16 (by decide)]
  rfl
theorem vArr_set15 (a b n : Int) (h : (eTwo 15 a b).1 = n) : (vArr a b 15).setIfInBounds 15 (.int .i64 n) = vArr a b (15 + 1) := by
  subst h
  unfold vArr
  rw [vAt_new a b 15 (by decide), vAt_step a b 15 0 (by decide), vAt_step a b 15 1 (by decide), vAt_step a b 15 2 (by decide), vAt_step a b 15 3 (by decide), vAt_step a b 15 4 (by decide), vAt_step a b 15 5 (by decide), vAt_step a b 15 6 (by decide), vAt_step a b 15 7 (by decide), vAt_step a b 15 8 (by decide), vAt_step a b 15 9 (by decide), vAt_step a b 15 10 (by decide), vAt_step a b 15 11 (by decide), vAt_step a b 15 12 (by decide), vAt_step a b 15 13 (by decide), vAt_step a b 15 14 (by decide), vAt_step a b 15 16 (by decide)]
  rfl
theorem vArr_set16 (a b n : Int) (h : (eTwo 16 a b).1 = n) : (vArr a b 16).setIfInBounds 16 (.int .i64 n) = vArr a b (16 + 1) := by
  subst h
  unfold vArr
  rw [vAt_new a b 16 (by decide), vAt_step a b 16 0 (by decide), vAt_step a b 16 1 (by decide), vAt_step a b 16 2 (by decide), vAt_step a b 16 3 (by decide), vAt_step a b 16 4 (by decide), vAt_step a b 16 5 (by decide), vAt_step a b 16 6 (by decide), vAt_step a b 16 7 (by decide), vAt_step a b 16 8 (by decide), vAt_step a b 16 9 (by decide), vAt_step a b 16 10 (by decide), vAt_step a b 16 11 (by decide), vAt_step a b 16 12 (by decide), vAt_step a b 16 13 (by decide), vAt_step a b 16 14 (by decide), vAt_step a b 16 15 (by decide)]
  rfl

def notE (s : ByteArray) : Ex := node1 3 (.mk 1 0 s [])
theorem not_may : eMay (notE ⟨#[97]⟩) = true ∧ eMay (notE ⟨#[98]⟩) = true := by constructor <;> kernel_rfl
theorem notE_ok (s : ByteArray) (h : s.size ≤ 140737488355328) : ExOk (notE s) :=
  .mk (by decide) (by decide) (by decide) (fun k hk => by
    simp only [List.mem_cons, List.not_mem_nil, or_false] at hk
    subst hk
    exact .mk (by decide) (by decide) h (fun k hk => by simp at hk))
theorem not_eval (x y : Int) : eEval (notE ⟨#[97]⟩) [⟨⟨#[97]⟩, x⟩, ⟨⟨#[98]⟩, y⟩] = (b01 (x == 0), 0) ∧ eEval (notE ⟨#[98]⟩) [⟨⟨#[97]⟩, x⟩, ⟨⟨#[98]⟩, y⟩] = (b01 (y == 0), 0) := by
  have ha : eReck [⟨⟨#[97]⟩, x⟩, ⟨⟨#[98]⟩, y⟩] (.mk 1 0 ⟨#[97]⟩ []) = (x, 0) := by rw [eReck.eq_def]; exact rfl
  have hb : eReck [⟨⟨#[97]⟩, x⟩, ⟨⟨#[98]⟩, y⟩] (.mk 1 0 ⟨#[98]⟩ []) = (y, 0) := by rw [eReck.eq_def]; exact rfl
  unfold eEval
  rw [not_may.1, not_may.2, if_pos rfl, if_pos rfl]
  unfold notE node1
  constructor
  · rw [eReck.eq_def]
    simp only [ha]
    rw [if_neg (by decide), if_neg (by decide), if_neg (by decide), if_neg (by decide)]
  · rw [eReck.eq_def]
    simp only [hb]
    rw [if_neg (by decide), if_neg (by decide), if_neg (by decide), if_neg (by decide)]
theorem evalnot_any (s : ByteArray) (x y z : Int) (hs : s.size ≤ 140737488355328) (he : eEval (notE s) [⟨⟨#[97]⟩, x⟩, ⟨⟨#[98]⟩, y⟩] = (z, 0)) (hx : Fits x) (hy : Fits y) (K Q : Nat) (W : World)
    (hQ : W.heap[Q]? = some (.cells #[.int .i64 1, .int .i64 0, .string s, .slice none 0 0] 25 (0, 0))) (hK : EnvB W K x y) (hT : Tabs W) :
    Calls Tryd.prog 20 #[.agg #[.int .i64 3, .int .i64 0, .string ⟨#[]⟩, .slice (some ⟨Q, 0, none⟩) 1 1], .slice (some ⟨K, 0, none⟩) 2 2] W (ReckPost (z, 0) W) := by
  have hx1 : ExF (fun k => k < Q) W (notE s) (some ⟨Q, 0, none⟩) 1 := ExF.one (k := Q) (e := .mk 1 0 s []) (A := none) (c := 0) (t := 25) (by omega) (ExF.leaf rfl) hQ 3
  have h := eval_any [⟨⟨#[97]⟩, x⟩, ⟨⟨#[98]⟩, y⟩] (some ⟨K, 0, none⟩) 2 (notE s) (some ⟨Q, 0, none⟩) 1 W (by simp) (fun c hc => by
    simp only [List.mem_cons, List.not_mem_nil, or_false] at hc
    rcases hc with rfl | rfl
    · exact hx
    · exact hy) (hx1.2 [] (fun k hk => by simp at hk)) hx1.1 (notE_ok s hs) (cel_row2 (by simp) hK) hT
  rw [he] at h
  exact h

/-- How the truths fit together. -/
theorem truths_fit (a b : Int) : ∃ v9 v10 v11 v12 v13 v14 v15 v16 na nb : Int,
    (eTwo 9 a b).1 = v9 ∧ (eTwo 10 a b).1 = v10 ∧ (eTwo 11 a b).1 = v11 ∧ (eTwo 12 a b).1 = v12 ∧ (eTwo 13 a b).1 = v13 ∧ (eTwo 14 a b).1 = v14 ∧ (eTwo 15 a b).1 = v15 ∧ (eTwo 16 a b).1 = v16 ∧ b01 (a == 0) = na ∧ b01 (b == 0) = nb ∧
    (0 ≤ v9 ∧ v9 ≤ 1 ∧ 0 ≤ v10 ∧ v10 ≤ 1 ∧ 0 ≤ v11 ∧ v11 ≤ 1 ∧ 0 ≤ v12 ∧ v12 ≤ 1 ∧ 0 ≤ v13 ∧ v13 ≤ 1 ∧ 0 ≤ v14 ∧ v14 ≤ 1 ∧ 0 ≤ v15 ∧ v15 ≤ 1 ∧ 0 ≤ v16 ∧ v16 ≤ 1 ∧ 0 ≤ na ∧ na ≤ 1 ∧ 0 ≤ nb ∧ nb ≤ 1) ∧
    (v9 + v12 = 1 ∧ v11 + v10 = 1 ∧ v13 + v14 = 1 ∧ v9 + v13 + v11 = 1 ∧ v15 = (1 - na) * (1 - nb) ∧ v16 = 1 - na * nb) := by
  refine ⟨_, _, _, _, _, _, _, _, _, _, rfl, rfl, rfl, rfl, rfl, rfl, rfl, rfl, rfl, rfl, ?_⟩
  have e9 : (eTwo 9 a b).1 = b01 (decide (a < b)) := rfl
  have e10 : (eTwo 10 a b).1 = b01 (decide (a ≤ b)) := rfl
  have e11 : (eTwo 11 a b).1 = b01 (decide (b < a)) := rfl
  have e12 : (eTwo 12 a b).1 = b01 (decide (b ≤ a)) := rfl
  have e13 : (eTwo 13 a b).1 = b01 (a == b) := rfl
  have e14 : (eTwo 14 a b).1 = b01 (a != b) := rfl
  have e15 : (eTwo 15 a b).1 = b01 (a != 0 && b != 0) := rfl
  have e16 : (eTwo 16 a b).1 = b01 (a != 0 || b != 0) := rfl
  rw [e9, e10, e11, e12, e13, e14, e15, e16]
  have ht : (decide (a < b) = true ∧ decide (a ≤ b) = true ∧ decide (b < a) = false ∧ decide (b ≤ a) = false ∧ (a == b) = false ∧ (a != b) = true) ∨ (decide (a < b) = false ∧ decide (a ≤ b) = true ∧ decide (b < a) = false ∧ decide (b ≤ a) = true ∧ (a == b) = true ∧ (a != b) = false) ∨
      (decide (a < b) = false ∧ decide (a ≤ b) = false ∧ decide (b < a) = true ∧ decide (b ≤ a) = true ∧ (a == b) = false ∧ (a != b) = true) := by
    rcases Int.lt_trichotomy a b with h | h | h
    · exact .inl ⟨decide_eq_true h, decide_eq_true (by omega), decide_eq_false (by omega), decide_eq_false (by omega), beq_eq_false_iff_ne.2 (by omega), bne_iff_ne.2 (by omega)⟩
    · exact .inr (.inl ⟨decide_eq_false (by omega), decide_eq_true (by omega), decide_eq_false (by omega), decide_eq_true (by omega), beq_iff_eq.2 h, bne_eq_false_iff_eq.2 h⟩)
    · exact .inr (.inr ⟨decide_eq_false (by omega), decide_eq_false (by omega), decide_eq_true h, decide_eq_true (by omega), beq_eq_false_iff_ne.2 (by omega), bne_iff_ne.2 (by omega)⟩)
  have hn : ∀ x : Int, (x != 0) = !(x == 0) := fun _ => rfl
  rw [hn a, hn b]
  generalize (a == 0) = p
  generalize (b == 0) = q
  rcases ht with ⟨h1, h2, h3, h4, h5, h6⟩ | ⟨h1, h2, h3, h4, h5, h6⟩ | ⟨h1, h2, h3, h4, h5, h6⟩ <;> rw [h1, h2, h3, h4, h5, h6] <;> cases p <;> cases q <;> decide
end Go.Proofs.YtgaiheojlmebaaaDoor
