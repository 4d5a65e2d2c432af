/- The parser as a plain function on tokens. -/
import Derived.Test.YtgaiheojlmebaaaDoorPure2
import Derived.Test.YtgaiheojlmebaaaDoorCutP
namespace Go.Proofs.YtgaiheojlmebaaaDoor
open Go Go.RowKit Go.Lib

/-- Where the reader stands, and what is wrong. -/
structure St where
  at_ : Int
  bad : Int
def tokAt (l : List Tok) (i : Int) : Tok := if i < 0 ∨ (l.length : Int) ≤ i then zTok else l.getD i.toNat zTok
def zEx : Ex := .mk 0 0 ⟨#[]⟩ []
def failP (e : Int) (s : St) : St := if s.bad = 0 then ⟨s.at_, e⟩ else s
def passP (first : Int) (s : St) : Bool × St := if 64 ≤ s.at_ - first then (false, failP 2 s) else (true, ⟨s.at_ + 1, s.bad⟩)
/-- The operator that is next, from one on: so many are tried. -/
def isF (t : Tok) (bad : Int) : Nat → Int → Option Int
  | 0, _ => none
  | n + 1, op => if t.kind = 4 ∧ bad = 0 then (if seq (eSign op) t.text then some op else isF t bad n (op + 1)) else none
def isP (l : List Tok) (a b : Int) (s : St) : Option Int := isF (tokAt l s.at_) s.bad (b - a + 1).toNat a
def node1 (op : Int) (e : Ex) : Ex := .mk op 0 ⟨#[]⟩ [e]
def node2 (op : Int) (e r : Ex) : Ex := .mk op 0 ⟨#[]⟩ [e, r]
/-- Parts of the line below, with operators between them. -/
def rowF (l : List Tok) (first a b : Int) (below : St → Ex × St) : Nat → Ex → St → Ex × St
  | 0, e, s => (e, s)
  | n + 1, e, s =>
    match isP l a b s with
    | none => (e, s)
    | some op =>
      if (passP first s).1 = false then (e, (passP first s).2)
      else rowF l first a b below n (node2 op e (below (passP first s).2).1) (below (passP first s).2).2
def rowP (l : List Tok) (first a b : Int) (below : St → Ex × St) (s : St) : Ex × St := rowF l first a b below 66 (below s).1 (below s).2
def cmpP (l : List Tok) (first : Int) (sum : St → Ex × St) (s : St) : Ex × St :=
  match isP l 9 14 (sum s).2 with
  | none => sum s
  | some op =>
    if (passP first (sum s).2).1 = false then ((sum s).1, (passP first (sum s).2).2)
    else (node2 op (sum s).1 (sum (passP first (sum s).2).2).1, (sum (passP first (sum s).2).2).2)
def orOf (l : List Tok) (first : Int) (un : St → Ex × St) : St → Ex × St :=
  rowP l first 16 16 (rowP l first 15 15 (cmpP l first (rowP l first 4 5 (rowP l first 6 8 un))))
def isOpen (t : Tok) : Bool := t.kind == 4 && seq t.text ⟨#[40]⟩
def isShut (t : Tok) : Bool := t.kind == 4 && seq t.text ⟨#[41]⟩
/-- One step of a part. -/
def unS (l : List Tok) (first : Int) (un orr : St → Ex × St) (s : St) : Ex × St :=
  match isP l 2 3 s with
  | some op =>
    if (passP first s).1 = false then (zEx, (passP first s).2)
    else (node1 op (un (passP first s).2).1, (un (passP first s).2).2)
  | none =>
    if s.bad ≠ 0 ∨ isOpen (tokAt l s.at_) = false ∧ (tokAt l s.at_).kind ≠ 2 ∧ (tokAt l s.at_).kind ≠ 1 then (zEx, failP 11 s)
    else if (passP first s).1 = false then (zEx, (passP first s).2)
    else if (tokAt l s.at_).kind = 2 then (.mk 0 (tokAt l s.at_).n ⟨#[]⟩ [], (passP first s).2)
    else if (tokAt l s.at_).kind = 1 then (.mk 1 0 (tokAt l s.at_).text [], (passP first s).2)
    else
      if (orr (passP first s).2).2.bad = 0 ∧ isShut (tokAt l (orr (passP first s).2).2.at_) = false then (zEx, failP 11 (orr (passP first s).2).2)
      else if (orr (passP first s).2).2.bad = 0 then ((orr (passP first s).2).1, (passP first (orr (passP first s).2).2).2)
      else orr (passP first s).2
def unP (l : List Tok) (first : Int) : Nat → St → Ex × St
  | 0 => fun s => (zEx, s)
  | f + 1 => unS l first (unP l first f) (orOf l first (unP l first f))
/-- The expression that begins at a token: the tree, the error, the place. -/
def takeP (l : List Tok) (a : Int) : Ex × Int × Int :=
  let p := orOf l a (unP l a 66) ⟨a, 0⟩
  if p.2.bad ≠ 0 then (zEx, p.2.bad, p.2.at_) else (p.1, 0, p.2.at_)
/-- A text's expression: the tree, the error, the place. -/
def parseP (s : ByteArray) : Ex × Int × Int :=
  let c := cutB s
  if c.2.1 ≠ 0 then (zEx, c.2.1, c.2.2)
  else
    let p := takeP c.1 0
    let e := if p.2.1 = 0 ∧ (tokAt c.1 p.2.2).kind ≠ 0 then 11 else p.2.1
    if e ≠ 0 then (zEx, e, (tokAt c.1 p.2.2).at_) else (p.1, 0, 0)
end Go.Proofs.YtgaiheojlmebaaaDoor
