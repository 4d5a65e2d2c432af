/- Layers 1 and 2 as plain functions on numbers, bytes and trees: what the walks show that the code computes. Expressions as plain functions on trees: how many tokens, the text, the value. The parser as a plain function on tokens. -/
import Derived.Test.YtgcfjkfipkfijaaGreatDoorData
import Derived.Test.YtgcfjkfipkfijaaGreatDoorTokB
import Derived.Test.YtgcfjkfipkfijaaGreatDoorShelf
/-! Layers 1 and 2 as plain functions on numbers, bytes and trees: what the walks show that the code computes. -/
namespace Go.Proofs.YtgcfjkfipkfijaaGreatDoor
open Go Go.RowKit

/-- Are two texts the same? -/
def seq (a b : ByteArray) : Bool := a.data.toList == b.data.toList
theorem seq_iff {a b : ByteArray} : seq a b = true ↔ a = b := by
  unfold seq
  rw [beq_iff_eq]
  exact ⟨fun h => ByteArray.ext (Array.toList_inj.1 h), fun h => by rw [h]⟩
def eLine (op : Int) : Int := if op = 16 then 1 else if op = 15 then 2 else if 9 ≤ op ∧ op ≤ 14 then 3 else if op = 4 ∨ op = 5 then 4 else if 6 ≤ op ∧ op ≤ 8 then 5 else 6
def bytes (l : List UInt8) : ByteArray := ⟨l.toArray⟩
def eSign (op : Int) : ByteArray :=
  bytes (if op = 2 ∨ op = 5 then [45] else if op = 3 then [33] else if op = 4 then [43] else if op = 6 then [42] else if op = 7 then [47] else if op = 8 then [37] else
    if op = 9 then [60] else if op = 10 then [60, 61] else if op = 11 then [62] else if op = 12 then [62, 61] else if op = 13 then [61, 61] else if op = 14 then [33, 61] else if op = 15 then [38] else [124])
abbrev Fits (n : Int) : Prop := -9223372036854775808 ≤ n ∧ n ≤ 9223372036854775807
/-- A number, if it stays within 64 bits; else the error 22. -/
def chk (n : Int) : Int × Int := if -9223372036854775808 ≤ n ∧ n ≤ 9223372036854775807 then (n, 0) else (0, 22)
def b01 (p : Bool) : Int := if p then 1 else 0
def eDivide (op a b : Int) : Int × Int := if b = 0 then (0, 23) else if op = 8 then (a.tmod b, 0) else chk (a.tdiv b)
def eTwo (op a b : Int) : Int × Int :=
  if op = 4 then chk (a + b) else if op = 5 then chk (a - b) else if op = 6 then chk (a * b) else if op = 7 ∨ op = 8 then eDivide op a b else
  if op = 9 then (b01 (decide (a < b)), 0) else if op = 10 then (b01 (decide (a ≤ b)), 0) else if op = 11 then (b01 (decide (b < a)), 0) else if op = 12 then (b01 (decide (b ≤ a)), 0) else
  if op = 13 then (b01 (a == b), 0) else if op = 14 then (b01 (a != b), 0) else if op = 15 then (b01 (a != 0 && b != 0), 0) else (b01 (a != 0 || b != 0), 0)
theorem wrap64_eq (n : Int) : wrap64 n = (n + 9223372036854775808) % 18446744073709551616 - 9223372036854775808 := by unfold wrap64; exact rfl
theorem tdiv_fits {a b : Int} (ha1 : -9223372036854775808 ≤ a) (ha2 : a ≤ 9223372036854775807) (hb0 : ¬ b = 0) (hb1 : ¬ b = -1) : -9223372036854775808 ≤ a.tdiv b ∧ a.tdiv b ≤ 9223372036854775807 := by
  have h : (a.tdiv b).natAbs = a.natAbs / b.natAbs := Int.natAbs_tdiv a b
  have h2 : a.natAbs / b.natAbs ≤ a.natAbs := Nat.div_le_self _ _
  by_cases hb : b.natAbs = 1
  · have : b = 1 := by omega
    subst this
    rw [Int.tdiv_one]
    exact ⟨ha1, ha2⟩
  · have h3 : a.natAbs / b.natAbs ≤ a.natAbs / 2 := Nat.div_le_div_left (by omega) (by omega)
    omega
theorem plus_bad {a b : Int} (ha1 : -9223372036854775808 ≤ a) (ha2 : a ≤ 9223372036854775807) (hb1 : -9223372036854775808 ≤ b) (hb2 : b ≤ 9223372036854775807)
    (h : (!decide (wrap64 (a + b) < a) == decide (b < 0)) = true) : ((0 : Int), (22 : Int)) = chk (a + b) := by
  have e := wrap64_eq (a + b)
  unfold chk
  by_cases h1 : wrap64 (a + b) < a <;> by_cases h2 : b < 0 <;> simp [h1, h2] at h <;> rw [if_neg (by omega)]
theorem plus_good {a b : Int} (ha1 : -9223372036854775808 ≤ a) (ha2 : a ≤ 9223372036854775807) (hb1 : -9223372036854775808 ≤ b) (hb2 : b ≤ 9223372036854775807)
    (h : (!decide (wrap64 (a + b) < a) == decide (b < 0)) = false) : (wrap64 (a + b), (0 : Int)) = chk (a + b) := by
  have e := wrap64_eq (a + b)
  unfold chk
  by_cases h1 : wrap64 (a + b) < a <;> by_cases h2 : b < 0 <;> simp [h1, h2] at h <;> rw [if_pos (by omega)] <;> congr 1 <;> omega
theorem minus_bad {a b : Int} (ha1 : -9223372036854775808 ≤ a) (ha2 : a ≤ 9223372036854775807) (hb1 : -9223372036854775808 ≤ b) (hb2 : b ≤ 9223372036854775807)
    (h : (!decide (a < wrap64 (a - b)) == decide (b < 0)) = true) : ((0 : Int), (22 : Int)) = chk (a - b) := by
  have e := wrap64_eq (a - b)
  unfold chk
  by_cases h1 : a < wrap64 (a - b) <;> by_cases h2 : b < 0 <;> simp [h1, h2] at h <;> rw [if_neg (by omega)]
theorem minus_good {a b : Int} (ha1 : -9223372036854775808 ≤ a) (ha2 : a ≤ 9223372036854775807) (hb1 : -9223372036854775808 ≤ b) (hb2 : b ≤ 9223372036854775807)
    (h : (!decide (a < wrap64 (a - b)) == decide (b < 0)) = false) : (wrap64 (a - b), (0 : Int)) = chk (a - b) := by
  have e := wrap64_eq (a - b)
  unfold chk
  by_cases h1 : a < wrap64 (a - b) <;> by_cases h2 : b < 0 <;> simp [h1, h2] at h <;> rw [if_pos (by omega)] <;> congr 1 <;> omega
end Go.Proofs.YtgcfjkfipkfijaaGreatDoor
/-! Expressions as plain functions on trees: how many tokens, the text, the value. -/
namespace Go.Proofs.YtgcfjkfipkfijaaGreatDoor
open Go Go.RowKit Go.Lib

/-- Numbers within 64 bits, names of some length: all through the tree. -/
inductive ExOk : Ex → Prop where
  | mk {op n : Int} {nm : ByteArray} {ks : List Ex} (h1 : Fits op) (h2 : Fits n) (h3 : nm.size ≤ 140737488355328) (h4 : ∀ k, k ∈ ks → ExOk k) : ExOk (.mk op n nm ks)
theorem ExOk.op {e : Ex} (h : ExOk e) : Fits e.op := by cases h; assumption
theorem ExOk.n {e : Ex} (h : ExOk e) : Fits e.n := by cases h; assumption
theorem ExOk.name {e : Ex} (h : ExOk e) : e.name.size ≤ 140737488355328 := by cases h; assumption
theorem ExOk.kids {e : Ex} (h : ExOk e) : ∀ k, k ∈ e.kids → ExOk k := by cases h; assumption
theorem ExOk.kid {e : Ex} (h : ExOk e) (i : Nat) (hi : i < e.kids.length) : ExOk e.kids[i] := h.kids _ (List.getElem_mem hi)
theorem sizeOf_kid {e : Ex} (i : Nat) (hi : i < e.kids.length) : SizeOf.sizeOf e.kids[i] < SizeOf.sizeOf e := by
  cases e with
  | mk o n nm ks =>
    have h1 : SizeOf.sizeOf ks[i] < SizeOf.sizeOf ks := List.sizeOf_lt_of_mem (List.getElem_mem hi)
    show SizeOf.sizeOf ks[i] < SizeOf.sizeOf (Ex.mk o n nm ks)
    simp
    omega
/-- Does a part stand in brackets? -/
def eWrapped (op kop : Int) (i : Int) : Bool := decide (eLine kop < eLine op) || (eLine kop == eLine op && decide (eLine op < 6) && (i == 1 || eLine op == 3))
def eParts (op : Int) : Nat := if op = 2 ∨ op = 3 then 1 else 2
mutual
/-- How many tokens a tree has; below 0: it is none, or has too many. -/
def eTok : Ex → Int → Int
  | .mk op n nm ks, most =>
    if op = 0 ∨ op = 1 then (if 0 < ks.length ∨ op = 0 ∧ (n < 0 ∨ nm.size ≠ 0) ∨ op = 1 ∧ (n ≠ 0 ∨ nameB nm = false) then -1 else 1)
    else if op < 0 ∨ 16 < op ∨ n ≠ 0 ∨ nm.size ≠ 0 ∨ ks.length ≠ eParts op ∨ most < 1 then -1
    else eToks op ks 0 1 most
def eToks (op : Int) : List Ex → Int → Int → Int → Int
  | [], _, n, _ => n
  | k :: ks, i, n, most =>
    if eTok k (most - n) < 0 then -1
    else if most < n + eTok k (most - n) + (if eWrapped op k.op i then 2 else 0) then -1
    else eToks op ks (i + 1) (n + eTok k (most - n) + (if eWrapped op k.op i then 2 else 0)) most
end
def eMay (e : Ex) : Bool := decide (0 < eTok e 64) && decide (eTok e 64 ≤ 64)
theorem eToks_le : ∀ (ks : List Ex) (op i n most : Int), n ≤ most ∨ n = -1 → eToks op ks i n most ≤ most ∨ eToks op ks i n most = -1
  | [], _, _, _, _, h => by simp only [eToks]; exact h
  | k :: ks, op, i, n, most, h => by
    simp only [eToks]
    have hx : (0 : Int) ≤ (if eWrapped op k.op i = true then 2 else 0) := by split <;> omega
    generalize (if eWrapped op k.op i = true then (2 : Int) else 0) = x at hx ⊢
    split
    · exact .inr rfl
    · split
      · exact .inr rfl
      · exact eToks_le ks op _ _ _ (.inl (by omega))
theorem eTok_le (e : Ex) (most : Int) : eTok e most ≤ most ∨ eTok e most ≤ 1 := by
  cases e with
  | mk o n nm ks =>
    simp only [eTok]
    split
    · split <;> right <;> decide
    · split
      · right; decide
      · rename_i h
        rcases eToks_le ks o 0 1 most (.inl (by omega)) with h | h <;> omega
theorem eToks_ge : ∀ (ks : List Ex) (op i n most : Int), -1 ≤ n → -1 ≤ eToks op ks i n most
  | [], _, _, _, _, h => by simp only [eToks]; exact h
  | k :: ks, op, i, n, most, h => by
    simp only [eToks]
    have hx : (0 : Int) ≤ (if eWrapped op k.op i = true then 2 else 0) := by split <;> omega
    generalize (if eWrapped op k.op i = true then (2 : Int) else 0) = x at hx ⊢
    split
    · omega
    · split
      · omega
      · exact eToks_ge ks op _ _ _ (by omega)
theorem eTok_ge (e : Ex) (most : Int) : -1 ≤ eTok e most := by
  cases e with
  | mk o n nm ks =>
    simp only [eTok]
    split
    · split <;> decide
    · split
      · omega
      · exact eToks_ge _ _ _ _ _ (by omega)
end Go.Proofs.YtgcfjkfipkfijaaGreatDoor
/-! The parser as a plain function on tokens. -/
namespace Go.Proofs.YtgcfjkfipkfijaaGreatDoor
open Go Go.RowKit Go.Lib

/-- Where the reader stands, and what is wrong. -/
structure St where
  at_ : Int
  bad : Int
def tokAt (l : List Tok) (i : Int) : Tok := if i < 0 ∨ (l.length : Int) ≤ i then zTok else l.getD i.toNat zTok
def zEx : Ex := .mk 0 0 ⟨#[]⟩ []
def failP (e : Int) (s : St) : St := if s.bad = 0 then ⟨s.at_, e⟩ else s
def passP (first : Int) (s : St) : Bool × St := if 64 ≤ s.at_ - first then (false, failP 2 s) else (true, ⟨s.at_ + 1, s.bad⟩)
/-- The operator that is next, from one on: so many are tried. -/
def isF (t : Tok) (bad : Int) : Nat → Int → Option Int
  | 0, _ => none
  | n + 1, op => if t.kind = 4 ∧ bad = 0 then (if seq (eSign op) t.text then some op else isF t bad n (op + 1)) else none
def isP (l : List Tok) (a b : Int) (s : St) : Option Int := isF (tokAt l s.at_) s.bad (b - a + 1).toNat a
def node1 (op : Int) (e : Ex) : Ex := .mk op 0 ⟨#[]⟩ [e]
def node2 (op : Int) (e r : Ex) : Ex := .mk op 0 ⟨#[]⟩ [e, r]
/-- Parts of the line below, with operators between them. -/
def rowF (l : List Tok) (first a b : Int) (below : St → Ex × St) : Nat → Ex → St → Ex × St
  | 0, e, s => (e, s)
  | n + 1, e, s =>
    match isP l a b s with
    | none => (e, s)
    | some op =>
      if (passP first s).1 = false then (e, (passP first s).2)
      else rowF l first a b below n (node2 op e (below (passP first s).2).1) (below (passP first s).2).2
def rowP (l : List Tok) (first a b : Int) (below : St → Ex × St) (s : St) : Ex × St := rowF l first a b below 66 (below s).1 (below s).2
def cmpP (l : List Tok) (first : Int) (sum : St → Ex × St) (s : St) : Ex × St :=
  match isP l 9 14 (sum s).2 with
  | none => sum s
  | some op =>
    if (passP first (sum s).2).1 = false then ((sum s).1, (passP first (sum s).2).2)
    else (node2 op (sum s).1 (sum (passP first (sum s).2).2).1, (sum (passP first (sum s).2).2).2)
def orOf (l : List Tok) (first : Int) (un : St → Ex × St) : St → Ex × St :=
  rowP l first 16 16 (rowP l first 15 15 (cmpP l first (rowP l first 4 5 (rowP l first 6 8 un))))
def isOpen (t : Tok) : Bool := t.kind == 4 && seq t.text ⟨#[40]⟩
def isShut (t : Tok) : Bool := t.kind == 4 && seq t.text ⟨#[41]⟩
/-- One step of a part. -/
def unS (l : List Tok) (first : Int) (un orr : St → Ex × St) (s : St) : Ex × St :=
  match isP l 2 3 s with
  | some op =>
    if (passP first s).1 = false then (zEx, (passP first s).2)
    else (node1 op (un (passP first s).2).1, (un (passP first s).2).2)
  | none =>
    if s.bad ≠ 0 ∨ isOpen (tokAt l s.at_) = false ∧ (tokAt l s.at_).kind ≠ 2 ∧ (tokAt l s.at_).kind ≠ 1 then (zEx, failP 11 s)
    else if (passP first s).1 = false then (zEx, (passP first s).2)
    else if (tokAt l s.at_).kind = 2 then (.mk 0 (tokAt l s.at_).n ⟨#[]⟩ [], (passP first s).2)
    else if (tokAt l s.at_).kind = 1 then (.mk 1 0 (tokAt l s.at_).text [], (passP first s).2)
    else
      if (orr (passP first s).2).2.bad = 0 ∧ isShut (tokAt l (orr (passP first s).2).2.at_) = false then (zEx, failP 11 (orr (passP first s).2).2)
      else if (orr (passP first s).2).2.bad = 0 then ((orr (passP first s).2).1, (passP first (orr (passP first s).2).2).2)
      else orr (passP first s).2
def unP (l : List Tok) (first : Int) : Nat → St → Ex × St
  | 0 => fun s => (zEx, s)
  | f + 1 => unS l first (unP l first f) (orOf l first (unP l first f))
/-- The expression that begins at a token: the tree, the error, the place. -/
def takeP (l : List Tok) (a : Int) : Ex × Int × Int :=
  let p := orOf l a (unP l a 66) ⟨a, 0⟩
  if p.2.bad ≠ 0 then (zEx, p.2.bad, p.2.at_) else (p.1, 0, p.2.at_)
/-- A text's expression: the tree, the error, the place. -/
def parseP (s : ByteArray) : Ex × Int × Int :=
  let c := cutB s
  if c.2.1 ≠ 0 then (zEx, c.2.1, c.2.2)
  else
    let p := takeP c.1 0
    let e := if p.2.1 = 0 ∧ (tokAt c.1 p.2.2).kind ≠ 0 then 11 else p.2.1
    if e ≠ 0 then (zEx, e, (tokAt c.1 p.2.2).at_) else (p.1, 0, 0)
end Go.Proofs.YtgcfjkfipkfijaaGreatDoor
