/- Where the reader ends: never behind the last token. -/
import Derived.Test.YtgcfjkfipkfijaaGreatDoorR10
import Derived.Test.YtgcfjkfipkfijaaGreatDoorTokB
namespace Go.Proofs.YtgcfjkfipkfijaaGreatDoor
open Go

/-- The last token is an end. -/
def Ended (l : List Tok) : Prop := 0 < l.length ∧ (tokAt l ((l.length : Int) - 1)).kind = 0
def InL (l : List Tok) (s : St) : Prop := 0 ≤ s.at_ ∧ s.at_ < l.length
def Stays (l : List Tok) (P : St → Ex × St) : Prop := ∀ s, InL l s → InL l (P s).2
theorem pass_in {l : List Tok} {first : Int} {s : St} (hl : Ended l) (h : InL l s) (hk : (tokAt l s.at_).kind ≠ 0) : InL l (passP first s).2 := by
  have hp := passP_at first s
  have hne : s.at_ ≠ (l.length : Int) - 1 := fun e => hk (by rw [e]; exact hl.2)
  unfold InL at *
  cases hb : (passP first s).1 with
  | true => have := hp.1 hb; omega
  | false => have := hp.2 hb; omega
theorem isP_kind {l : List Tok} {a b : Int} {s : St} {x : Int} (h : isP l a b s = some x) : (tokAt l s.at_).kind ≠ 0 := by
  rw [(isF_kind _ _ _ _ _ h).1]; decide
theorem fail_in {l : List Tok} {e : Int} {s : St} (h : InL l s) : InL l (failP e s) := by unfold InL at *; rw [failP_at]; exact h
theorem rowF_stays {l : List Tok} {first a b : Int} {below : St → Ex × St} (hl : Ended l) (h : Stays l below) : ∀ (n : Nat) (e : Ex) (s : St), InL l s → InL l (rowF l first a b below n e s).2
  | 0, e, s, h1 => h1
  | n + 1, e, s, h1 => by
    rw [rowF]
    cases hi : isP l a b s with
    | none => exact h1
    | some op =>
      have hp := pass_in (first := first) hl h1 (isP_kind hi)
      simp only
      split
      · exact hp
      · exact rowF_stays hl h n _ _ (h _ hp)
theorem rowP_stays {l : List Tok} {first a b : Int} {below : St → Ex × St} (hl : Ended l) (h : Stays l below) : Stays l (rowP l first a b below) := fun s h1 => rowF_stays hl h 66 _ _ (h s h1)
theorem cmpP_stays {l : List Tok} {first : Int} {sum : St → Ex × St} (hl : Ended l) (h : Stays l sum) : Stays l (cmpP l first sum) := fun s h1 => by
  have h2 := h s h1
  unfold cmpP
  cases hi : isP l 9 14 (sum s).2 with
  | none => exact h2
  | some op =>
    have hp := pass_in (first := first) hl h2 (isP_kind hi)
    simp only
    split
    · exact hp
    · exact h _ hp
theorem orOf_stays {l : List Tok} {first : Int} {un : St → Ex × St} (hl : Ended l) (h : Stays l un) : Stays l (orOf l first un) :=
  rowP_stays hl (rowP_stays hl (cmpP_stays hl (rowP_stays hl (rowP_stays hl h))))
theorem unS_stays {l : List Tok} {first : Int} {un orr : St → Ex × St} (hl : Ended l) (h1 : Stays l un) (h2 : Stays l orr) : Stays l (unS l first un orr) := fun s hs => by
  unfold unS
  cases hi : isP l 2 3 s with
  | some op =>
    have hp := pass_in (first := first) hl hs (isP_kind hi)
    simp only
    split
    · exact hp
    · exact h1 _ hp
  | none =>
    simp only
    split
    · exact fail_in hs
    · rename_i hc
      have hk : (tokAt l s.at_).kind ≠ 0 := by
        intro e
        refine hc (.inr ⟨?_, by rw [e]; decide, by rw [e]; decide⟩)
        simp [isOpen, e]
      have hp := pass_in (first := first) hl hs hk
      split
      · exact hp
      · split
        · exact hp
        · split
          · exact hp
          · have ho := h2 _ hp
            split
            · exact fail_in ho
            · rename_i hd
              split
              · rename_i hb
                refine pass_in hl ho ?_
                intro e
                refine hd ⟨hb, ?_⟩
                simp [isShut, e]
              · exact ho
theorem unP_stays {l : List Tok} (first : Int) (hl : Ended l) : ∀ f, Stays l (unP l first f)
  | 0 => fun _ h => h
  | f + 1 => fun s h => by rw [unP_succ]; exact unS_stays hl (unP_stays first hl f) (orOf_stays hl (unP_stays first hl f)) s h
theorem takeP_in {l : List Tok} (a : Int) (hl : Ended l) (h : 0 ≤ a ∧ a < l.length) : 0 ≤ (takeP l a).2.2 ∧ (takeP l a).2.2 < l.length := by
  have h1 := orOf_stays (first := a) hl (unP_stays a hl 66) ⟨a, 0⟩ h
  unfold takeP
  simp only
  split
  · exact h1
  · exact h1
theorem tokAt_last (out : List Tok) (t : Tok) : tokAt (out ++ [t]) (((out ++ [t]).length : Int) - 1) = t := by
  unfold tokAt
  have e : ((out ++ [t]).length : Int) - 1 = (out.length : Int) := by simp
  rw [if_neg (by simp; omega), e, Int.toNat_natCast]
  simp
theorem skipN_pos_drop {l : List UInt8} (a : Int) : ∀ f, (skipF f l a).1.length ≤ l.length := by
  intro f
  induction f generalizing l a with
  | zero => exact Nat.le_refl _
  | succ f ih =>
    by_cases h : skipN l = 0
    · rw [skipF_end h]; exact Nat.le_refl _
    · rw [skipF_step h]
      exact Nat.le_trans (ih _) (by simp)
theorem cutG_ended : ∀ (f : Nat) (l : List UInt8) (a : Int) (out : List Tok), l.length < f → (cutG f l a out).2.1 = 0 → Ended (cutG f l a out).1
  | 0, _, _, _, h, _ => by omega
  | f + 1, l, a, out, h, he => by
    rw [cutG] at he ⊢
    by_cases hl : l = []
    · rw [if_pos hl]
      exact ⟨by simp, by rw [tokAt_last]⟩
    · rw [if_neg hl] at he ⊢
      simp only at he ⊢
      by_cases h2 : (if out.length = 2000 then (2 : Int) else (tokF l).2.2) = 0
      · rw [if_neg (by simpa using h2)] at he ⊢
        have h3 : (tokF l).2.2 = 0 := by
          by_cases ho : out.length = 2000
          · rw [if_pos ho] at h2; omega
          · rw [if_neg ho] at h2; exact h2
        have h4 := tokF_ok hl h3
        refine cutG_ended f _ _ _ ?_ he
        refine Nat.lt_of_le_of_lt (skipN_pos_drop _ _) ?_
        rw [List.length_drop]
        omega
      · rw [if_pos h2] at he
        exact absurd he h2
theorem cutB_ended (s : ByteArray) (h : (cutB s).2.1 = 0) : Ended (cutB s).1 := by
  unfold cutB at h ⊢
  split at h
  · simp at h
  · rename_i h1
    rw [if_neg h1]
    split at h
    · simp at h
    · rename_i h2
      rw [if_neg h2]
      refine cutG_ended _ _ _ _ ?_ h
      refine Nat.lt_of_le_of_lt (skipN_pos_drop _ _) ?_
      have := size_data s
      omega
end Go.Proofs.YtgcfjkfipkfijaaGreatDoor
