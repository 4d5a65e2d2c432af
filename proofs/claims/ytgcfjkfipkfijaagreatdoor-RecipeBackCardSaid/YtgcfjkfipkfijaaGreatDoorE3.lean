/- A walk: tokens. -/
import Derived.Test.YtgcfjkfipkfijaaGreatDoorE2
namespace Go.Proofs.YtgcfjkfipkfijaaGreatDoor
open Go Go.RowKit Go.Lib

theorem beqf {a b : Int} (h : a ≠ b) : (a == b) = false := beq_eq_false_iff_ne.2 h
theorem bnet {a b : Int} (h : a ≠ b) : (a != b) = true := bne_iff_ne.2 h
theorem bnef {a b : Int} (h : a = b) : (a != b) = false := by rw [h]; simp
set_option maxHeartbeats 4000000 in
set_option maxRecDepth 100000 in
theorem tokens_bad (o n : Int) (nm : ByteArray) (ks : List Ex) (A : Option Addr) (c : Nat) (most : Int) (w : World) (hop : ¬ (o = 0 ∨ o = 1)) (hbad : o < 0 ∨ 16 < o ∨ n ≠ 0 ∨ nm.size ≠ 0 ∨ ks.length ≠ eParts o ∨ most < 1) :
    Calls Tryz.prog 158 #[.agg #[.int .i64 o, .int .i64 n, .string nm, .slice A ks.length c], .int .i64 most] w fun r w' => r = .returned (.int .i64 (-1)) ∧ Below w.heap.size w w' := by
  obtain ⟨P, hP⟩ : ∃ P : Int, (eParts o : Int) = P := ⟨_, rfl⟩
  have hbad : o < 0 ∨ 16 < o ∨ n ≠ 0 ∨ nm.size ≠ 0 ∨ (ks.length : Int) ≠ P ∨ most < 1 := by
    rcases hbad with h | h | h | h | h | h
    · exact .inl h
    · exact .inr (.inl h)
    · exact .inr (.inr (.inl h))
    · exact .inr (.inr (.inr (.inl h)))
    · exact .inr (.inr (.inr (.inr (.inl (by omega)))))
    · exact .inr (.inr (.inr (.inr (.inr h))))
  have hc : o = 2 ∧ P = 1 ∨ o = 3 ∧ P = 1 ∨ ((o == 0) = false ∧ (o == 1) = false ∧ (o == 2) = false ∧ (o == 3) = false ∧ P = 2) := by
    unfold eParts at hP
    by_cases h2 : o = 2
    · subst h2; exact .inl ⟨rfl, by simp at hP; omega⟩
    · by_cases h3 : o = 3
      · subst h3; exact .inr (.inl ⟨rfl, by simp at hP; omega⟩)
      · exact .inr (.inr ⟨beqf (fun e => hop (.inl e)), beqf (fun e => hop (.inr e)), beqf h2, beqf h3, by rw [if_neg (by omega)] at hP; omega⟩)
  clear hP hop
  have hwhy : (o < 0) ∨ (0 ≤ o ∧ 16 < o) ∨ (0 ≤ o ∧ o ≤ 16 ∧ (n != 0) = true) ∨ (0 ≤ o ∧ o ≤ 16 ∧ (n != 0) = false ∧ nm.toList.isEmpty = false) ∨
      (0 ≤ o ∧ o ≤ 16 ∧ (n != 0) = false ∧ nm.toList.isEmpty = true ∧ ((ks.length : Int) != P) = true) ∨ (0 ≤ o ∧ o ≤ 16 ∧ (n != 0) = false ∧ nm.toList.isEmpty = true ∧ ((ks.length : Int) != P) = false ∧ most < 1) := by
    by_cases h1 : o < 0
    · exact .inl h1
    · by_cases h2 : 16 < o
      · exact .inr (.inl ⟨by omega, h2⟩)
      · by_cases h3 : n = 0
        · by_cases h4 : nm.size = 0
          · by_cases h5 : (ks.length : Int) = P
            · exact .inr (.inr (.inr (.inr (.inr ⟨by omega, by omega, bnef h3, isEmpty_of' h4, bnef h5, by omega⟩))))
            · exact .inr (.inr (.inr (.inr (.inl ⟨by omega, by omega, bnef h3, isEmpty_of' h4, bnet h5⟩))))
          · exact .inr (.inr (.inr (.inl ⟨by omega, by omega, bnef h3, isEmpty_of h4⟩)))
        · exact .inr (.inr (.inl ⟨by omega, by omega, bnet h3⟩))
  clear hbad
  rcases hc with ⟨rfl, rfl⟩ | ⟨rfl, rfl⟩ | ⟨b0, b1, b2, b3, rfl⟩
  all_goals
    rcases hwhy with h1 | ⟨h1, h2⟩ | ⟨h1, h2, h3⟩ | ⟨h1, h2, h3, h4⟩ | ⟨h1, h2, h3, h4, h5⟩ | ⟨h1, h2, h3, h4, h5, h6⟩
    all_goals first | (exfalso; omega) | skip
    all_goals
      go_enter Tryz.func158, Tryz.ntmps158
      go_wp2_with fail
      go_ret
      exact ⟨rfl, (Below.refl _ _).alloc (Nat.le_refl _) _⟩
end Go.Proofs.YtgcfjkfipkfijaaGreatDoor
