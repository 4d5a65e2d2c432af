/- Expressions as plain functions on trees: how many tokens, the text, the value. -/
import Derived.Test.YtgaiheojlmebaaaDoorPure1
import Derived.Test.YtgaiheojlmebaaaDoorRunes
import Derived.Test.YtgaiheojlmebaaaDoorShelf
namespace Go.Proofs.YtgaiheojlmebaaaDoor
open Go Go.RowKit Go.Lib

/-- Numbers within 64 bits, names of some length: all through the tree. -/
inductive ExOk : Ex → Prop where
  | mk {op n : Int} {nm : ByteArray} {ks : List Ex} (h1 : Fits op) (h2 : Fits n) (h3 : nm.size ≤ 140737488355328) (h4 : ∀ k, k ∈ ks → ExOk k) : ExOk (.mk op n nm ks)
theorem ExOk.op {e : Ex} (h : ExOk e) : Fits e.op := by cases h; assumption
theorem ExOk.n {e : Ex} (h : ExOk e) : Fits e.n := by cases h; assumption
theorem ExOk.name {e : Ex} (h : ExOk e) : e.name.size ≤ 140737488355328 := by cases h; assumption
theorem ExOk.kids {e : Ex} (h : ExOk e) : ∀ k, k ∈ e.kids → ExOk k := by cases h; assumption
theorem ExOk.kid {e : Ex} (h : ExOk e) (i : Nat) (hi : i < e.kids.length) : ExOk e.kids[i] := h.kids _ (List.getElem_mem hi)
theorem sizeOf_kid {e : Ex} (i : Nat) (hi : i < e.kids.length) : SizeOf.sizeOf e.kids[i] < SizeOf.sizeOf e := by
  cases e with
  | mk o n nm ks =>
    have h1 : SizeOf.sizeOf ks[i] < SizeOf.sizeOf ks := List.sizeOf_lt_of_mem (List.getElem_mem hi)
    show SizeOf.sizeOf ks[i] < SizeOf.sizeOf (Ex.mk o n nm ks)
    simp
    omega

/-- Does a part stand in brackets? -/
def eWrapped (op kop : Int) (i : Int) : Bool := decide (eLine kop < eLine op) || (eLine kop == eLine op && decide (eLine op < 6) && (i == 1 || eLine op == 3))
def eParts (op : Int) : Nat := if op = 2 ∨ op = 3 then 1 else 2
mutual
/-- How many tokens a tree has; below 0: it is none, or has too many. -/
def eTok : Ex → Int → Int
  | .mk op n nm ks, most =>
    if op = 0 ∨ op = 1 then (if 0 < ks.length ∨ op = 0 ∧ (n < 0 ∨ nm.size ≠ 0) ∨ op = 1 ∧ (n ≠ 0 ∨ nameB nm = false) then -1 else 1)
    else if op < 0 ∨ 16 < op ∨ n ≠ 0 ∨ nm.size ≠ 0 ∨ ks.length ≠ eParts op ∨ most < 1 then -1
    else eToks op ks 0 1 most
def eToks (op : Int) : List Ex → Int → Int → Int → Int
  | [], _, n, _ => n
  | k :: ks, i, n, most =>
    if eTok k (most - n) < 0 then -1
    else if most < n + eTok k (most - n) + (if eWrapped op k.op i then 2 else 0) then -1
    else eToks op ks (i + 1) (n + eTok k (most - n) + (if eWrapped op k.op i then 2 else 0)) most
end
def eMay (e : Ex) : Bool := decide (0 < eTok e 64) && decide (eTok e 64 ≤ 64)

theorem eToks_le : ∀ (ks : List Ex) (op i n most : Int), n ≤ most ∨ n = -1 → eToks op ks i n most ≤ most ∨ eToks op ks i n most = -1
  | [], _, _, _, _, h => by simp only [eToks]; exact h
  | k :: ks, op, i, n, most, h => by
    simp only [eToks]
    have hx : (0 : Int) ≤ (if eWrapped op k.op i = true then 2 else 0) := by split <;> omega
    generalize (if eWrapped op k.op i = true then (2 : Int) else 0) = x at hx ⊢
    split
    · exact .inr rfl
    · split
      · exact .inr rfl
      · exact eToks_le ks op _ _ _ (.inl (by omega))
theorem eTok_le (e : Ex) (most : Int) : eTok e most ≤ most ∨ eTok e most ≤ 1 := by
  cases e with
  | mk o n nm ks =>
    simp only [eTok]
    split
    · split <;> right <;> decide
    · split
      · right; decide
      · rename_i h
        rcases eToks_le ks o 0 1 most (.inl (by omega)) with h | h <;> omega
theorem eToks_ge : ∀ (ks : List Ex) (op i n most : Int), -1 ≤ n → -1 ≤ eToks op ks i n most
  | [], _, _, _, _, h => by simp only [eToks]; exact h
  | k :: ks, op, i, n, most, h => by
    simp only [eToks]
    have hx : (0 : Int) ≤ (if eWrapped op k.op i = true then 2 else 0) := by split <;> omega
    generalize (if eWrapped op k.op i = true then (2 : Int) else 0) = x at hx ⊢
    split
    · omega
    · split
      · omega
      · exact eToks_ge ks op _ _ _ (by omega)
theorem eTok_ge (e : Ex) (most : Int) : -1 ≤ eTok e most := by
  cases e with
  | mk o n nm ks =>
    simp only [eTok]
    split
    · split <;> decide
    · split
      · omega
      · exact eToks_ge _ _ _ _ _ (by omega)
end Go.Proofs.YtgaiheojlmebaaaDoor
