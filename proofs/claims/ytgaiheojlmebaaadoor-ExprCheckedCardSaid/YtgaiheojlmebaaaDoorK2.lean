/- The law of sums: the walk. -/
import Derived.Test.YtgaiheojlmebaaaDoorK1
namespace Go.Proofs.YtgaiheojlmebaaaDoor
open Go Go.RowKit Go.Lib

/-- A tree of two names. -/
def pairN (op : Int) (p q : ByteArray) : Ex := node2 op (.mk 1 0 p []) (.mk 1 0 q [])
theorem pairN_ok (op : Int) (h : Fits op) (p q : ByteArray) (hp : p.size ≤ 140737488355328) (hq : q.size ≤ 140737488355328) : ExOk (pairN op p q) :=
  .mk h (by decide) (by decide) (fun k hk => by
    simp only [List.mem_cons, List.not_mem_nil, or_false] at hk
    rcases hk with rfl | rfl
    · exact .mk (by decide) (by decide) hp (fun k hk => by simp at hk)
    · exact .mk (by decide) (by decide) hq (fun k hk => by simp at hk))
theorem back_may : ∀ op : Int, op = 4 ∨ op = 5 → eMay (pairN op ⟨#[99]⟩ ⟨#[98]⟩) = true := by
  rintro op (rfl | rfl) <;> kernel_rfl
theorem back_eval (op x y : Int) (h : op = 4 ∨ op = 5) : eEval (pairN op ⟨#[99]⟩ ⟨#[98]⟩) [⟨⟨#[99]⟩, x⟩, ⟨⟨#[98]⟩, y⟩] = eTwo op x y := by
  unfold eEval
  rw [back_may op h, if_pos rfl]
  have ha : eReck [⟨⟨#[99]⟩, x⟩, ⟨⟨#[98]⟩, y⟩] (.mk 1 0 ⟨#[99]⟩ []) = (x, 0) := by rw [eReck.eq_def]; exact rfl
  have hb : eReck [⟨⟨#[99]⟩, x⟩, ⟨⟨#[98]⟩, y⟩] (.mk 1 0 ⟨#[98]⟩ []) = (y, 0) := by rw [eReck.eq_def]; exact rfl
  unfold pairN node2
  rw [eReck.eq_def]
  simp only [ha, hb]
  rw [if_neg (by omega), if_neg (by omega), if_neg (by decide), if_neg (by decide)]
theorem evalback_any (op x y : Int) (h : op = 4 ∨ op = 5) (hx : Fits x) (hy : Fits y) (B : Option Addr) (K : Nat) (P : Nat → Prop) (W : World) (he : ExF P W (pairN op ⟨#[99]⟩ ⟨#[98]⟩) B 2)
    (hK : W.heap[K]? = some (.cells #[.string ⟨#[99]⟩, .int .i64 x, .string ⟨#[98]⟩, .int .i64 y] 44 (0, 0))) (hT : Tabs W) :
    Calls Tryd.prog 20 #[exV (pairN op ⟨#[99]⟩ ⟨#[98]⟩) B 2, .slice (some ⟨K, 0, none⟩) 2 2] W (ReckPost (eTwo op x y) W) := by
  have h' := eval_any [⟨⟨#[99]⟩, x⟩, ⟨⟨#[98]⟩, y⟩] (some ⟨K, 0, none⟩) 2 (pairN op ⟨#[99]⟩ ⟨#[98]⟩) B 2 W (by simp) (fun c hc => by
    simp only [List.mem_cons, List.not_mem_nil, or_false] at hc
    rcases hc with rfl | rfl
    · exact hx
    · exact hy) (he.2 [] (fun k hk => by simp at hk)) he.1 (pairN_ok op ⟨by omega, by omega⟩ _ _ (by decide) (by decide)) (cel_row2 (by simp) hK) hT
  rw [back_eval op x y h] at h'
  exact h'
end Go.Proofs.YtgaiheojlmebaaaDoor
