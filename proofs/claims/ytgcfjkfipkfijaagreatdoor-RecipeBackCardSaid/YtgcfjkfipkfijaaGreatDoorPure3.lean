/- The value of a tree, as a plain function. -/
import Derived.Test.YtgcfjkfipkfijaaGreatDoorPure5
import Derived.Test.YtgcfjkfipkfijaaGreatDoorE5
namespace Go.Proofs.YtgcfjkfipkfijaaGreatDoor
open Go Go.RowKit Go.Lib

/-- A tree has as many parts as its operators ask for. -/
inductive ExSh : Ex → Prop where
  | leaf {op n : Int} {nm : ByteArray} {ks : List Ex} (h : op = 0 ∨ op = 1) (h2 : ks = []) : ExSh (.mk op n nm ks)
  | node {op n : Int} {nm : ByteArray} {ks : List Ex} (h1 : 2 ≤ op) (h2 : op ≤ 16) (h3 : ks.length = eParts op) (h4 : ∀ k, k ∈ ks → ExSh k) : ExSh (.mk op n nm ks)
theorem sh_of_toks (N : Nat) : (∀ e : Ex, SizeOf.sizeOf e < N → ∀ most, 0 ≤ eTok e most → ExSh e) ∧ (∀ ks : List Ex, SizeOf.sizeOf ks < N → ∀ op i n most, 0 ≤ eToks op ks i n most → ∀ k, k ∈ ks → ExSh k) := by
  induction N with
  | zero => exact ⟨fun _ h => absurd h (by omega), fun _ h => absurd h (by omega)⟩
  | succ N ih =>
    refine ⟨fun e he most h => ?_, fun ks hk op i n most h k hm => ?_⟩
    · obtain ⟨o, n, nm, ks⟩ := e
      by_cases h0 : o = 0 ∨ o = 1
      · by_cases h1 : 0 < ks.length ∨ o = 0 ∧ (n < 0 ∨ nm.size ≠ 0) ∨ o = 1 ∧ (n ≠ 0 ∨ nameB nm = false)
        · rw [eTok, if_pos h0, if_pos h1] at h
          omega
        · exact .leaf h0 (List.eq_nil_of_length_eq_zero (by omega))
      · by_cases h1 : o < 0 ∨ 16 < o ∨ n ≠ 0 ∨ nm.size ≠ 0 ∨ ks.length ≠ eParts o ∨ most < 1
        · rw [eTok, if_neg h0, if_pos h1] at h
          omega
        · rw [eTok, if_neg h0, if_neg h1] at h
          refine .node (by omega) (by omega) (by omega) (ih.2 ks ?_ o 0 1 most h)
          simp at he
          omega
    · cases ks with
      | nil => simp at hm
      | cons x xs =>
        simp at hk
        rw [eToks_cons] at h
        by_cases h1 : eTok x (most - n) < 0
        · rw [if_pos h1] at h; omega
        · rw [if_neg h1] at h
          generalize (if eWrapped op x.op i = true then (2 : Int) else 0) = z at h
          split at h
          · omega
          · rcases List.mem_cons.1 hm with rfl | hm
            · exact ih.1 _ (by omega) (most - n) (by omega)
            · exact ih.2 xs (by omega) _ _ _ _ h k hm
theorem sh_of_may {e : Ex} (h : eMay e = true) : ExSh e := by
  unfold eMay at h
  rw [Bool.and_eq_true, decide_eq_true_eq] at h
  exact (sh_of_toks (SizeOf.sizeOf e + 1)).1 e (by omega) 64 (by omega)
/-- The value of a tree, and the error. -/
def eReck (env : List Cel) : Ex → Int × Int
  | .mk op n nm ks =>
    if op = 0 then (n, 0)
    else if op = 1 then (if (cellP nm env).2 then ((cellP nm env).1, 0) else (0, 21))
    else match ks with
      | [] => (0, 0)
      | [a] => if (eReck env a).2 ≠ 0 then (0, (eReck env a).2) else if op = 2 then chk (-(eReck env a).1) else (b01 ((eReck env a).1 == 0), 0)
      | a :: b :: _ => if (eReck env a).2 ≠ 0 then (0, (eReck env a).2) else if (eReck env b).2 ≠ 0 then (0, (eReck env b).2) else eTwo op (eReck env a).1 (eReck env b).1
def eEval (e : Ex) (env : List Cel) : Int × Int := if eMay e then eReck env e else (0, 1)
theorem chk_fits (n : Int) : Fits (chk n).1 := by
  unfold chk
  split
  · assumption
  · exact ⟨by omega, by omega⟩
theorem b01_fits (p : Bool) : Fits (b01 p) := by cases p <;> exact ⟨by decide, by decide⟩
theorem eTwo_fits {op a b : Int} (ha : Fits a) (_hb : Fits b) : Fits (eTwo op a b).1 := by
  have hz : Fits 0 := ⟨by omega, by omega⟩
  unfold eTwo eDivide
  repeat' split
  all_goals first
  | exact chk_fits _
  | exact b01_fits _
  | exact hz
  | skip
  all_goals
    have h1 : (a.tmod b).natAbs = a.natAbs % b.natAbs := Int.natAbs_tmod a b
    have h4 := Nat.mod_le a.natAbs b.natAbs
    have h5 : a < 0 → a.tmod b ≤ 0 := fun h => by have := Int.tmod_nonneg b (show 0 ≤ -a by omega); rw [Int.neg_tmod] at this; omega
    obtain ⟨h2, h3⟩ := ha
    constructor <;> omega
theorem cellP_fits {nm : ByteArray} : ∀ {env : List Cel}, (∀ c, c ∈ env → Fits c.n) → Fits (cellP nm env).1
  | [], _ => ⟨by simp only [cellP]; decide, by simp only [cellP]; decide⟩
  | c :: cs, h => by
    simp only [cellP]
    split
    · exact h c (by simp)
    · exact cellP_fits (fun c hc => h c (by simp [hc]))
theorem eReck_fits {env : List Cel} (he : ∀ c, c ∈ env → Fits c.n) (N : Nat) : ∀ e : Ex, SizeOf.sizeOf e < N → ExOk e → Fits (eReck env e).1 := by
  have hz : Fits 0 := ⟨by omega, by omega⟩
  induction N with
  | zero => intro e h; omega
  | succ N ih =>
    intro e hs hk
    obtain ⟨o, n, nm, ks⟩ := e
    simp at hs
    rw [eReck.eq_def]
    simp only
    split
    · exact hk.n
    · split
      · split
        · exact cellP_fits he
        · exact hz
      · split
        · exact hz
        · rename_i a
          simp at hs
          split
          · exact hz
          · split
            · exact chk_fits _
            · exact b01_fits _
        · rename_i a b r
          simp at hs
          split
          · exact hz
          · split
            · exact hz
            · exact eTwo_fits (ih a (by omega) (hk.kids a (by simp [Ex.kids]))) (ih b (by omega) (hk.kids b (by simp [Ex.kids])))
end Go.Proofs.YtgcfjkfipkfijaaGreatDoor
