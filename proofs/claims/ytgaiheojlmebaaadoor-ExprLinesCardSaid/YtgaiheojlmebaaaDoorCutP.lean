/- The lexer as a plain function on bytes. -/
import Derived.Test.YtgaiheojlmebaaaDoorRunes
namespace Go.Proofs.YtgaiheojlmebaaaDoor
open Go Go.RowKit Go.Lib

/-- So many bytes are passed over at the begin: a blank, or a remark; 0: neither. -/
def skipN (l : List UInt8) : Nat :=
  match l with
  | [] => 0
  | c :: _ => if cls c.toNat = 1 then 1 else if cls c.toNat = 6 then (if indexByte l 10 < 0 then l.length else (indexByte l 10).toNat) else 0
/-- What is left behind blanks and remarks, and how many runes stand ahead of it. -/
def skipF : Nat → List UInt8 → Int → List UInt8 × Int
  | 0, l, a => (l, a)
  | f + 1, l, a => if skipN l = 0 then (l, a) else skipF f (l.drop (skipN l)) (a + (runes (l.take (skipN l))).length)
def zTok : Tok := ⟨0, ⟨#[]⟩, 0, 0⟩
/-- A text in quotes: the token, its bytes, the error. -/
def textF (l : List UInt8) : Tok × Int × Int :=
  let c := cut (cut (l.drop 1) [10]).1 [34]
  if c.2.2 = false then (zTok, 0, 11)
  else if (runes c.1).any (fun r => decide (r.1 < 32)) then (zTok, 0, 11)
  else if 20 < (runes c.1).length then (zTok, 0, 2)
  else (⟨3, bytes' c.1, 0, 0⟩, c.1.length + 2, 0)
where bytes' (l : List UInt8) : ByteArray := ⟨l.toArray⟩
/-- The token at the begin, its bytes, the error. -/
def tokF (l : List UInt8) : Tok × Int × Int :=
  let k := cls (decodeL l).1
  let n := wordN (runes l)
  if k = 2 then (if 12 < (runes (l.take n)).length then (zTok, 0, 2) else (⟨1, ⟨(l.take n).toArray⟩, 0, 0⟩, n, 0))
  else if k = 3 then (if (numB ⟨(l.take n).toArray⟩).2 then (⟨2, ⟨(l.take n).toArray⟩, (numB ⟨(l.take n).toArray⟩).1, 0⟩, n, 0) else (zTok, 0, 11))
  else if k = 5 then textF l
  else if k = 4 then
    let m := if 1 < l.length ∧ l.getD 1 0 = 61 ∧ 0 ≤ indexByte [60, 62, 61, 33, 58] (l.getD 0 0) then 2 else (decodeL l).2
    (⟨4, ⟨(l.take m).toArray⟩, 0, 0⟩, m, 0)
  else (zTok, 0, 11)
def skip (l : List UInt8) (a : Int) : List UInt8 × Int := skipF (l.length + 1) l a
/-- From a place behind blanks on: the tokens, or the error and the place. -/
def cutG : Nat → List UInt8 → Int → List Tok → List Tok × Int × Int
  | 0, _, _, _ => ([], 0, 0)
  | f + 1, l, a, out =>
    if l = [] then (out ++ [⟨0, ⟨#[]⟩, 0, a⟩], 0, 0)
    else
      let t := tokF l
      let e := if out.length = 2000 then 2 else t.2.2
      if e ≠ 0 then ([], e, a)
      else
        let p := skip (l.drop t.2.1.toNat) (a + (runes (l.take t.2.1.toNat)).length)
        cutG f p.1 p.2 (out ++ [{ t.1 with at_ := a }])
/-- A text's tokens, or the error and the place. -/
def cutB (s : ByteArray) : List Tok × Int × Int :=
  if 8192 < s.size then ([], 2, 0)
  else if 0 ≤ badF 0 (runes s.data.toList) then ([], 10, badF 0 (runes s.data.toList))
  else cutG (s.size + 1) (skip s.data.toList 0).1 (skip s.data.toList 0).2 []

theorem skipF_step {f : Nat} {l : List UInt8} {a : Int} (h : skipN l ≠ 0) : skipF (f + 1) l a = skipF f (l.drop (skipN l)) (a + (runes (l.take (skipN l))).length) := by
  simp only [skipF, if_neg h]
theorem skipF_end {f : Nat} {l : List UInt8} {a : Int} (h : skipN l = 0) : skipF f l a = (l, a) := by
  cases f with
  | zero => rfl
  | succ f => simp only [skipF, if_pos h]
theorem indexByte_le : ∀ (l : List UInt8) (c : UInt8), -1 ≤ indexByte l c ∧ indexByte l c < l.length
  | [], _ => by simp [indexByte]
  | b :: l, c => by
    have := indexByte_le l c
    simp only [indexByte, List.length_cons]
    repeat' split
    all_goals omega
theorem runes_le : ∀ (n : Nat) (l : List UInt8), l.length ≤ n → (runes l).length ≤ l.length := by
  intro n
  induction n with
  | zero => intro l h; rw [List.eq_nil_of_length_eq_zero (by omega : l.length = 0)]; exact Nat.le_refl _
  | succ n ih =>
    intro l h
    by_cases hl : l = []
    · subst hl; exact Nat.le_refl _
    · have h1 : 0 < l.length := List.length_pos_iff.2 hl
      have hw := decodeL_width l
      have := ih (l.drop (decodeL l).2) (by rw [List.length_drop]; omega)
      rw [runes_cons l hl, List.length_cons]
      rw [List.length_drop] at this
      omega
theorem runes_len (l : List UInt8) : (runes l).length ≤ l.length := runes_le _ l (Nat.le_refl _)
end Go.Proofs.YtgaiheojlmebaaaDoor
