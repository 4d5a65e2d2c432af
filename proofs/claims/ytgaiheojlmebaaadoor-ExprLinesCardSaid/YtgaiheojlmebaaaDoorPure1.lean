/- Layers 1 and 2 as plain functions on numbers, bytes and trees: what the walks show that the code computes. -/
import Derived.Test.YtgaiheojlmebaaaDoorData
namespace Go.Proofs.YtgaiheojlmebaaaDoor
open Go Go.RowKit

/-- Are two texts the same? -/
def seq (a b : ByteArray) : Bool := a.data.toList == b.data.toList
theorem seq_iff {a b : ByteArray} : seq a b = true ↔ a = b := by
  unfold seq
  rw [beq_iff_eq]
  exact ⟨fun h => ByteArray.ext (Array.toList_inj.1 h), fun h => by rw [h]⟩
def eLine (op : Int) : Int := if op = 16 then 1 else if op = 15 then 2 else if 9 ≤ op ∧ op ≤ 14 then 3 else if op = 4 ∨ op = 5 then 4 else if 6 ≤ op ∧ op ≤ 8 then 5 else 6
def bytes (l : List UInt8) : ByteArray := ⟨l.toArray⟩
def eSign (op : Int) : ByteArray :=
  bytes (if op = 2 ∨ op = 5 then [45] else if op = 3 then [33] else if op = 4 then [43] else if op = 6 then [42] else if op = 7 then [47] else if op = 8 then [37] else
    if op = 9 then [60] else if op = 10 then [60, 61] else if op = 11 then [62] else if op = 12 then [62, 61] else if op = 13 then [61, 61] else if op = 14 then [33, 61] else if op = 15 then [38] else [124])
abbrev Fits (n : Int) : Prop := -9223372036854775808 ≤ n ∧ n ≤ 9223372036854775807
/-- A number, if it stays within 64 bits; else the error 22. -/
def chk (n : Int) : Int × Int := if -9223372036854775808 ≤ n ∧ n ≤ 9223372036854775807 then (n, 0) else (0, 22)
def b01 (p : Bool) : Int := if p then 1 else 0
def eDivide (op a b : Int) : Int × Int := if b = 0 then (0, 23) else if op = 8 then (a.tmod b, 0) else chk (a.tdiv b)
def eTwo (op a b : Int) : Int × Int :=
  if op = 4 then chk (a + b) else if op = 5 then chk (a - b) else if op = 6 then chk (a * b) else if op = 7 ∨ op = 8 then eDivide op a b else
  if op = 9 then (b01 (decide (a < b)), 0) else if op = 10 then (b01 (decide (a ≤ b)), 0) else if op = 11 then (b01 (decide (b < a)), 0) else if op = 12 then (b01 (decide (b ≤ a)), 0) else
  if op = 13 then (b01 (a == b), 0) else if op = 14 then (b01 (a != b), 0) else if op = 15 then (b01 (a != 0 && b != 0), 0) else (b01 (a != 0 || b != 0), 0)
theorem wrap64_eq (n : Int) : wrap64 n = (n + 9223372036854775808) % 18446744073709551616 - 9223372036854775808 := by unfold wrap64; exact rfl
theorem tdiv_fits {a b : Int} (ha1 : -9223372036854775808 ≤ a) (ha2 : a ≤ 9223372036854775807) (hb0 : ¬ b = 0) (hb1 : ¬ b = -1) : -9223372036854775808 ≤ a.tdiv b ∧ a.tdiv b ≤ 9223372036854775807 := by
  have h : (a.tdiv b).natAbs = a.natAbs / b.natAbs := Int.natAbs_tdiv a b
  have h2 : a.natAbs / b.natAbs ≤ a.natAbs := Nat.div_le_self _ _
  by_cases hb : b.natAbs = 1
  · have : b = 1 := by omega
    subst this
    rw [Int.tdiv_one]
    exact ⟨ha1, ha2⟩
  · have h3 : a.natAbs / b.natAbs ≤ a.natAbs / 2 := Nat.div_le_div_left (by omega) (by omega)
    omega
theorem plus_bad {a b : Int} (ha1 : -9223372036854775808 ≤ a) (ha2 : a ≤ 9223372036854775807) (hb1 : -9223372036854775808 ≤ b) (hb2 : b ≤ 9223372036854775807)
    (h : (!decide (wrap64 (a + b) < a) == decide (b < 0)) = true) : ((0 : Int), (22 : Int)) = chk (a + b) := by
  have e := wrap64_eq (a + b)
  unfold chk
  by_cases h1 : wrap64 (a + b) < a <;> by_cases h2 : b < 0 <;> simp [h1, h2] at h <;> rw [if_neg (by omega)]
theorem plus_good {a b : Int} (ha1 : -9223372036854775808 ≤ a) (ha2 : a ≤ 9223372036854775807) (hb1 : -9223372036854775808 ≤ b) (hb2 : b ≤ 9223372036854775807)
    (h : (!decide (wrap64 (a + b) < a) == decide (b < 0)) = false) : (wrap64 (a + b), (0 : Int)) = chk (a + b) := by
  have e := wrap64_eq (a + b)
  unfold chk
  by_cases h1 : wrap64 (a + b) < a <;> by_cases h2 : b < 0 <;> simp [h1, h2] at h <;> rw [if_pos (by omega)] <;> congr 1 <;> omega
theorem minus_bad {a b : Int} (ha1 : -9223372036854775808 ≤ a) (ha2 : a ≤ 9223372036854775807) (hb1 : -9223372036854775808 ≤ b) (hb2 : b ≤ 9223372036854775807)
    (h : (!decide (a < wrap64 (a - b)) == decide (b < 0)) = true) : ((0 : Int), (22 : Int)) = chk (a - b) := by
  have e := wrap64_eq (a - b)
  unfold chk
  by_cases h1 : a < wrap64 (a - b) <;> by_cases h2 : b < 0 <;> simp [h1, h2] at h <;> rw [if_neg (by omega)]
theorem minus_good {a b : Int} (ha1 : -9223372036854775808 ≤ a) (ha2 : a ≤ 9223372036854775807) (hb1 : -9223372036854775808 ≤ b) (hb2 : b ≤ 9223372036854775807)
    (h : (!decide (a < wrap64 (a - b)) == decide (b < 0)) = false) : (wrap64 (a - b), (0 : Int)) = chk (a - b) := by
  have e := wrap64_eq (a - b)
  unfold chk
  by_cases h1 : a < wrap64 (a - b) <;> by_cases h2 : b < 0 <;> simp [h1, h2] at h <;> rw [if_pos (by omega)] <;> congr 1 <;> omega
end Go.Proofs.YtgaiheojlmebaaaDoor
