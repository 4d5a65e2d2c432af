/- Runes: the plain side of lex. -/
import Derived.Test.YtgaiheojlmebaaaDoorData
import Derived.Lib.TrimUEq
import Derived.Lib.MapLaws
import Derived.Lib.ValidLaws
import Derived.Lib.RuneCount
import Derived.Lib.IndexMore
namespace Go.Proofs.YtgaiheojlmebaaaDoor
open Go Go.RowKit Go.Lib

/-- A text's runes, each with its width. -/
def runesF : Nat → List UInt8 → List (Nat × Nat)
  | 0, _ => []
  | n + 1, l => if l = [] then [] else decodeL l :: runesF n (l.drop (decodeL l).2)
def runes (l : List UInt8) : List (Nat × Nat) := runesF l.length l
theorem runesF_nil : ∀ n, runesF n [] = []
  | 0 => rfl
  | _ + 1 => rfl
theorem runesF_fuel : ∀ (n m : Nat) (l : List UInt8), l.length ≤ n → l.length ≤ m → runesF n l = runesF m l := by
  intro n
  induction n with
  | zero => intro m l hn _; rw [List.eq_nil_of_length_eq_zero (by omega : l.length = 0), runesF_nil, runesF_nil]
  | succ n ih =>
    intro m l hn hm
    by_cases hl : l = []
    · rw [hl, runesF_nil, runesF_nil]
    · have h1 : 0 < l.length := List.length_pos_iff.2 hl
      obtain ⟨m, rfl⟩ : ∃ k, m = k + 1 := ⟨m - 1, by omega⟩
      have hw := decodeL_width l
      simp only [runesF, if_neg hl]
      rw [ih m _ (by rw [List.length_drop]; omega) (by rw [List.length_drop]; omega)]
theorem runes_nil : runes [] = [] := rfl
theorem runes_cons (l : List UInt8) (h : l ≠ []) : runes l = decodeL l :: runes (l.drop (decodeL l).2) := by
  have h1 : 0 < l.length := List.length_pos_iff.2 h
  have hw := decodeL_width l
  unfold runes
  obtain ⟨n, hn⟩ : ∃ k, l.length = k + 1 := ⟨l.length - 1, by omega⟩
  rw [hn]
  simp only [runesF, if_neg h]
  rw [runesF_fuel n _ _ (by rw [List.length_drop]; omega) (Nat.le_refl _)]
theorem runes_at (s : ByteArray) (pos : Nat) (h : pos < s.size) :
    runes (s.data.toList.drop pos) = Utf8.decode s pos :: runes (s.data.toList.drop (pos + (Utf8.decode s pos).2)) := by
  have hl : s.data.toList.drop pos ≠ [] := by
    intro e
    have := congrArg List.length e
    simp at this
    have : s.data.size = s.size := rfl
    omega
  rw [runes_cons _ hl, decodeL_drop, List.drop_drop]
theorem runes_end (s : ByteArray) (pos : Nat) (h : ¬ pos < s.size) : runes (s.data.toList.drop pos) = [] := by
  rw [List.drop_of_length_le (by simp; have : s.data.size = s.size := rfl; omega), runes_nil]
theorem decode_fits (s : ByteArray) (pos : Nat) (h : pos < s.size) : pos + (Utf8.decode s pos).2 ≤ s.size := by
  have hl : s.data.toList.drop pos ≠ [] := by
    intro e
    have := congrArg List.length e
    simp at this
    have : s.data.size = s.size := rfl
    omega
  have := decodeL_le _ hl
  rw [decodeL_drop] at this
  simp at this
  have : s.data.size = s.size := rfl
  omega
theorem runeCountFrom_runes (s : ByteArray) : ∀ (fuel pos : Nat), s.size ≤ pos + fuel → runeCountFrom s fuel pos = (runes (s.data.toList.drop pos)).length := by
  intro fuel
  induction fuel with
  | zero => intro pos h; rw [runes_end s pos (by omega)]; rfl
  | succ n ih =>
    intro pos h
    simp only [runeCountFrom]
    by_cases hp : pos < s.size
    · have := decode_width_pos s pos hp
      rw [if_pos hp, runes_at s pos hp, ih _ (by omega), List.length_cons]
      omega
    · rw [if_neg hp, runes_end s pos hp]; rfl
theorem runeCount_runes (s : ByteArray) : runeCount s = (runes s.data.toList).length := by
  unfold runeCount
  rw [runeCountFrom_runes s _ _ (by omega), List.drop_zero]
theorem validD_runes (l : List UInt8) : validD l = (runes l).all (fun r => !(r == (65533, 1))) := by
  obtain ⟨n, hn⟩ : ∃ n, l.length = n := ⟨_, rfl⟩
  induction n using Nat.strongRecOn generalizing l with
  | _ n ih =>
    by_cases hl : l = []
    · subst hl; rfl
    · have h1 : 0 < l.length := List.length_pos_iff.2 hl
      have hw := decodeL_width l
      rw [validD_step l hl, runes_cons l hl, List.all_cons]
      by_cases hb : (decodeL l).1 = 65533 ∧ (decodeL l).2 = 1
      · rw [if_pos hb]
        have : (decodeL l) = (65533, 1) := Prod.ext hb.1 hb.2
        simp [this]
      · rw [if_neg hb, ih _ (by rw [← hn, List.length_drop]; omega) _ rfl]
        have : (decodeL l == (65533, 1)) = false := by
          rw [beq_eq_false_iff_ne]; intro e; exact hb ⟨by rw [e], by rw [e]⟩
        simp [this]

def signs : List UInt8 := [40, 41, 123, 125, 44, 59, 58, 61, 43, 45, 42, 47, 37, 60, 62, 33, 38, 124]
/-- What a rune is. -/
def cls (r : Int) : Int :=
  if r = 32 ∨ r = 9 ∨ r = 13 ∨ r = 10 then 1
  else if (97 ≤ r ∧ r ≤ 122) ∨ (65 ≤ r ∧ r ≤ 90) ∨ r = 95 then 2
  else if 192 ≤ r ∧ r ≤ 591 ∧ r ≠ 215 ∧ r ≠ 247 then 2
  else if 48 ≤ r ∧ r ≤ 57 then 3
  else if r = 34 then 5
  else if r = 35 then 6
  else if 32 < r ∧ r < 127 ∧ 0 ≤ indexByte signs r.toNat.toUInt8 then 4
  else 0
def isW (r : Nat) : Bool := cls r == 2 || cls r == 3
def wordyL (rs : List (Nat × Nat)) : Bool := rs.all fun r => isW r.1
def wordyB (s : ByteArray) : Bool := wordyL (runes s.data.toList) && decide (s.size ≠ 0)
/-- Where the first byte that is no rune's stands: so many runes stand ahead; below 0: there is none. -/
def badF : Int → List (Nat × Nat) → Int
  | _, [] => -1
  | k, r :: rs => if r = (65533, 1) then k else badF (k + 1) rs
/-- So many bytes have the letters and digits at the begin. -/
def wordN : List (Nat × Nat) → Nat
  | [] => 0
  | r :: rs => if isW r.1 then r.2 + wordN rs else 0
/-- A number, digit by digit. -/
def numF : Nat → List (Nat × Nat) → Option Nat
  | a, [] => some a
  | a, r :: rs => if cls r.1 = 3 then numF (10 * a + (r.1 - 48)) rs else none
def numT : Option Nat → Int × Bool
  | none => (0, false)
  | some n => if 9223372036854775807 < n then (0, false) else (n, true)
def numB (s : ByteArray) : Int × Bool :=
  if s.size = 0 ∨ 19 < s.size ∨ 1 < s.size ∧ s.data.toList.getD 0 0 = 48 then (0, false) else numT (numF 0 (runes s.data.toList))
/-- Is a text a name? -/
def nameB (s : ByteArray) : Bool :=
  validD s.data.toList && wordyB s && (decide ((s.data.toList.getD 0 0).toNat < 48) || decide (57 < (s.data.toList.getD 0 0).toNat)) && decide ((runes s.data.toList).length ≤ 12)
end Go.Proofs.YtgaiheojlmebaaaDoor
