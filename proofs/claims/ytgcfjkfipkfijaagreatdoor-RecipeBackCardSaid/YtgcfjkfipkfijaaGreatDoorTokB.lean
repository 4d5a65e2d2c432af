/- Runes: the plain side of lex. The lexer as a plain function on bytes. How many bytes a token has: at least one, and no more than there are. Plain. -/
import Derived.Test.YtgcfjkfipkfijaaGreatDoorData
import Derived.Lib.TrimUEq
import Derived.Lib.MapLaws
import Derived.Lib.ValidLaws
import Derived.Lib.RuneCount
import Derived.Lib.IndexMore
/-! Runes: the plain side of lex. -/
namespace Go.Proofs.YtgcfjkfipkfijaaGreatDoor
open Go Go.RowKit Go.Lib

/-- A text's runes, each with its width. -/
def runesF : Nat → List UInt8 → List (Nat × Nat)
  | 0, _ => []
  | n + 1, l => if l = [] then [] else decodeL l :: runesF n (l.drop (decodeL l).2)
def runes (l : List UInt8) : List (Nat × Nat) := runesF l.length l
theorem runesF_nil : ∀ n, runesF n [] = []
  | 0 => rfl
  | _ + 1 => rfl
theorem runesF_fuel : ∀ (n m : Nat) (l : List UInt8), l.length ≤ n → l.length ≤ m → runesF n l = runesF m l := by
  intro n
  induction n with
  | zero => intro m l hn _; rw [List.eq_nil_of_length_eq_zero (by omega : l.length = 0), runesF_nil, runesF_nil]
  | succ n ih =>
    intro m l hn hm
    by_cases hl : l = []
    · rw [hl, runesF_nil, runesF_nil]
    · have h1 : 0 < l.length := List.length_pos_iff.2 hl
      obtain ⟨m, rfl⟩ : ∃ k, m = k + 1 := ⟨m - 1, by omega⟩
      have hw := decodeL_width l
      simp only [runesF, if_neg hl]
      rw [ih m _ (by rw [List.length_drop]; omega) (by rw [List.length_drop]; omega)]
theorem runes_nil : runes [] = [] := rfl
theorem runes_cons (l : List UInt8) (h : l ≠ []) : runes l = decodeL l :: runes (l.drop (decodeL l).2) := by
  have h1 : 0 < l.length := List.length_pos_iff.2 h
  have hw := decodeL_width l
  unfold runes
  obtain ⟨n, hn⟩ : ∃ k, l.length = k + 1 := ⟨l.length - 1, by omega⟩
  rw [hn]
  simp only [runesF, if_neg h]
  rw [runesF_fuel n _ _ (by rw [List.length_drop]; omega) (Nat.le_refl _)]
theorem runes_at (s : ByteArray) (pos : Nat) (h : pos < s.size) :
    runes (s.data.toList.drop pos) = Utf8.decode s pos :: runes (s.data.toList.drop (pos + (Utf8.decode s pos).2)) := by
  have hl : s.data.toList.drop pos ≠ [] := by
    intro e
    have := congrArg List.length e
    simp at this
    have : s.data.size = s.size := rfl
    omega
  rw [runes_cons _ hl, decodeL_drop, List.drop_drop]
theorem runes_end (s : ByteArray) (pos : Nat) (h : ¬ pos < s.size) : runes (s.data.toList.drop pos) = [] := by
  rw [List.drop_of_length_le (by simp; have : s.data.size = s.size := rfl; omega), runes_nil]
theorem decode_fits (s : ByteArray) (pos : Nat) (h : pos < s.size) : pos + (Utf8.decode s pos).2 ≤ s.size := by
  have hl : s.data.toList.drop pos ≠ [] := by
    intro e
    have := congrArg List.length e
    simp at this
    have : s.data.size = s.size := rfl
    omega
  have := decodeL_le _ hl
  rw [decodeL_drop] at this
  simp at this
  have : s.data.size = s.size := rfl
  omega
theorem runeCountFrom_runes (s : ByteArray) : ∀ (fuel pos : Nat), s.size ≤ pos + fuel → runeCountFrom s fuel pos = (runes (s.data.toList.drop pos)).length := by
  intro fuel
  induction fuel with
  | zero => intro pos h; rw [runes_end s pos (by omega)]; rfl
  | succ n ih =>
    intro pos h
    simp only [runeCountFrom]
    by_cases hp : pos < s.size
    · have := decode_width_pos s pos hp
      rw [if_pos hp, runes_at s pos hp, ih _ (by omega), List.length_cons]
      omega
    · rw [if_neg hp, runes_end s pos hp]; rfl
theorem runeCount_runes (s : ByteArray) : runeCount s = (runes s.data.toList).length := by
  unfold runeCount
  rw [runeCountFrom_runes s _ _ (by omega), List.drop_zero]
theorem validD_runes (l : List UInt8) : validD l = (runes l).all (fun r => !(r == (65533, 1))) := by
  obtain ⟨n, hn⟩ : ∃ n, l.length = n := ⟨_, rfl⟩
  induction n using Nat.strongRecOn generalizing l with
  | _ n ih =>
    by_cases hl : l = []
    · subst hl; rfl
    · have h1 : 0 < l.length := List.length_pos_iff.2 hl
      have hw := decodeL_width l
      rw [validD_step l hl, runes_cons l hl, List.all_cons]
      by_cases hb : (decodeL l).1 = 65533 ∧ (decodeL l).2 = 1
      · rw [if_pos hb]
        have : (decodeL l) = (65533, 1) := Prod.ext hb.1 hb.2
        simp [this]
      · rw [if_neg hb, ih _ (by rw [← hn, List.length_drop]; omega) _ rfl]
        have : (decodeL l == (65533, 1)) = false := by
          rw [beq_eq_false_iff_ne]; intro e; exact hb ⟨by rw [e], by rw [e]⟩
        simp [this]
def signs : List UInt8 := [40, 41, 123, 125, 44, 59, 58, 61, 43, 45, 42, 47, 37, 60, 62, 33, 38, 124]
/-- What a rune is. -/
def cls (r : Int) : Int :=
  if r = 32 ∨ r = 9 ∨ r = 13 ∨ r = 10 then 1
  else if (97 ≤ r ∧ r ≤ 122) ∨ (65 ≤ r ∧ r ≤ 90) ∨ r = 95 then 2
  else if 192 ≤ r ∧ r ≤ 591 ∧ r ≠ 215 ∧ r ≠ 247 then 2
  else if 48 ≤ r ∧ r ≤ 57 then 3
  else if r = 34 then 5
  else if r = 35 then 6
  else if 32 < r ∧ r < 127 ∧ 0 ≤ indexByte signs r.toNat.toUInt8 then 4
  else 0
def isW (r : Nat) : Bool := cls r == 2 || cls r == 3
def wordyL (rs : List (Nat × Nat)) : Bool := rs.all fun r => isW r.1
def wordyB (s : ByteArray) : Bool := wordyL (runes s.data.toList) && decide (s.size ≠ 0)
/-- Where the first byte that is no rune's stands: so many runes stand ahead; below 0: there is none. -/
def badF : Int → List (Nat × Nat) → Int
  | _, [] => -1
  | k, r :: rs => if r = (65533, 1) then k else badF (k + 1) rs
/-- So many bytes have the letters and digits at the begin. -/
def wordN : List (Nat × Nat) → Nat
  | [] => 0
  | r :: rs => if isW r.1 then r.2 + wordN rs else 0
/-- A number, digit by digit. -/
def numF : Nat → List (Nat × Nat) → Option Nat
  | a, [] => some a
  | a, r :: rs => if cls r.1 = 3 then numF (10 * a + (r.1 - 48)) rs else none
def numT : Option Nat → Int × Bool
  | none => (0, false)
  | some n => if 9223372036854775807 < n then (0, false) else (n, true)
def numB (s : ByteArray) : Int × Bool :=
  if s.size = 0 ∨ 19 < s.size ∨ 1 < s.size ∧ s.data.toList.getD 0 0 = 48 then (0, false) else numT (numF 0 (runes s.data.toList))
/-- Is a text a name? -/
def nameB (s : ByteArray) : Bool :=
  validD s.data.toList && wordyB s && (decide ((s.data.toList.getD 0 0).toNat < 48) || decide (57 < (s.data.toList.getD 0 0).toNat)) && decide ((runes s.data.toList).length ≤ 12)
end Go.Proofs.YtgcfjkfipkfijaaGreatDoor
/-! The lexer as a plain function on bytes. -/
namespace Go.Proofs.YtgcfjkfipkfijaaGreatDoor
open Go Go.RowKit Go.Lib

/-- So many bytes are passed over at the begin: a blank, or a remark; 0: neither. -/
def skipN (l : List UInt8) : Nat :=
  match l with
  | [] => 0
  | c :: _ => if cls c.toNat = 1 then 1 else if cls c.toNat = 6 then (if indexByte l 10 < 0 then l.length else (indexByte l 10).toNat) else 0
/-- What is left behind blanks and remarks, and how many runes stand ahead of it. -/
def skipF : Nat → List UInt8 → Int → List UInt8 × Int
  | 0, l, a => (l, a)
  | f + 1, l, a => if skipN l = 0 then (l, a) else skipF f (l.drop (skipN l)) (a + (runes (l.take (skipN l))).length)
def zTok : Tok := ⟨0, ⟨#[]⟩, 0, 0⟩
/-- A text in quotes: the token, its bytes, the error. -/
def textF (l : List UInt8) : Tok × Int × Int :=
  let c := cut (cut (l.drop 1) [10]).1 [34]
  if c.2.2 = false then (zTok, 0, 11)
  else if (runes c.1).any (fun r => decide (r.1 < 32)) then (zTok, 0, 11)
  else if 20 < (runes c.1).length then (zTok, 0, 2)
  else (⟨3, bytes' c.1, 0, 0⟩, c.1.length + 2, 0)
where bytes' (l : List UInt8) : ByteArray := ⟨l.toArray⟩
/-- The token at the begin, its bytes, the error. -/
def tokF (l : List UInt8) : Tok × Int × Int :=
  let k := cls (decodeL l).1
  let n := wordN (runes l)
  if k = 2 then (if 12 < (runes (l.take n)).length then (zTok, 0, 2) else (⟨1, ⟨(l.take n).toArray⟩, 0, 0⟩, n, 0))
  else if k = 3 then (if (numB ⟨(l.take n).toArray⟩).2 then (⟨2, ⟨(l.take n).toArray⟩, (numB ⟨(l.take n).toArray⟩).1, 0⟩, n, 0) else (zTok, 0, 11))
  else if k = 5 then textF l
  else if k = 4 then
    let m := if 1 < l.length ∧ l.getD 1 0 = 61 ∧ 0 ≤ indexByte [60, 62, 61, 33, 58] (l.getD 0 0) then 2 else (decodeL l).2
    (⟨4, ⟨(l.take m).toArray⟩, 0, 0⟩, m, 0)
  else (zTok, 0, 11)
def skip (l : List UInt8) (a : Int) : List UInt8 × Int := skipF (l.length + 1) l a
/-- From a place behind blanks on: the tokens, or the error and the place. -/
def cutG : Nat → List UInt8 → Int → List Tok → List Tok × Int × Int
  | 0, _, _, _ => ([], 0, 0)
  | f + 1, l, a, out =>
    if l = [] then (out ++ [⟨0, ⟨#[]⟩, 0, a⟩], 0, 0)
    else
      let t := tokF l
      let e := if out.length = 2000 then 2 else t.2.2
      if e ≠ 0 then ([], e, a)
      else
        let p := skip (l.drop t.2.1.toNat) (a + (runes (l.take t.2.1.toNat)).length)
        cutG f p.1 p.2 (out ++ [{ t.1 with at_ := a }])
/-- A text's tokens, or the error and the place. -/
def cutB (s : ByteArray) : List Tok × Int × Int :=
  if 8192 < s.size then ([], 2, 0)
  else if 0 ≤ badF 0 (runes s.data.toList) then ([], 10, badF 0 (runes s.data.toList))
  else cutG (s.size + 1) (skip s.data.toList 0).1 (skip s.data.toList 0).2 []
theorem skipF_step {f : Nat} {l : List UInt8} {a : Int} (h : skipN l ≠ 0) : skipF (f + 1) l a = skipF f (l.drop (skipN l)) (a + (runes (l.take (skipN l))).length) := by
  simp only [skipF, if_neg h]
theorem skipF_end {f : Nat} {l : List UInt8} {a : Int} (h : skipN l = 0) : skipF f l a = (l, a) := by
  cases f with
  | zero => rfl
  | succ f => simp only [skipF, if_pos h]
theorem indexByte_le : ∀ (l : List UInt8) (c : UInt8), -1 ≤ indexByte l c ∧ indexByte l c < l.length
  | [], _ => by simp [indexByte]
  | b :: l, c => by
    have := indexByte_le l c
    simp only [indexByte, List.length_cons]
    repeat' split
    all_goals omega
theorem runes_le : ∀ (n : Nat) (l : List UInt8), l.length ≤ n → (runes l).length ≤ l.length := by
  intro n
  induction n with
  | zero => intro l h; rw [List.eq_nil_of_length_eq_zero (by omega : l.length = 0)]; exact Nat.le_refl _
  | succ n ih =>
    intro l h
    by_cases hl : l = []
    · subst hl; exact Nat.le_refl _
    · have h1 : 0 < l.length := List.length_pos_iff.2 hl
      have hw := decodeL_width l
      have := ih (l.drop (decodeL l).2) (by rw [List.length_drop]; omega)
      rw [runes_cons l hl, List.length_cons]
      rw [List.length_drop] at this
      omega
theorem runes_len (l : List UInt8) : (runes l).length ≤ l.length := runes_le _ l (Nat.le_refl _)
end Go.Proofs.YtgcfjkfipkfijaaGreatDoor
/-! How many bytes a token has: at least one, and no more than there are. Plain. -/
namespace Go.Proofs.YtgcfjkfipkfijaaGreatDoor
open Go Go.RowKit Go.Lib

theorem wordN_le' : ∀ (n : Nat) (l : List UInt8), l.length ≤ n → wordN (runes l) ≤ l.length := by
  intro n
  induction n with
  | zero => intro l h; rw [List.eq_nil_of_length_eq_zero (by omega : l.length = 0)]; exact Nat.le_refl _
  | succ n ih =>
    intro l h
    by_cases hl : l = []
    · subst hl; exact Nat.le_refl _
    · have h1 : 0 < l.length := List.length_pos_iff.2 hl
      have hw := decodeL_width l
      have hle := decodeL_le l hl
      have := ih (l.drop (decodeL l).2) (by rw [List.length_drop]; omega)
      rw [List.length_drop] at this
      rw [runes_cons l hl]
      simp only [wordN]
      split <;> omega
theorem wordN_pos {l : List UInt8} (hl : l ≠ []) (h : cls (decodeL l).1 = 2 ∨ cls (decodeL l).1 = 3) : 1 ≤ wordN (runes l) := by
  have hw := decodeL_width l
  rw [runes_cons l hl]
  have : isW (decodeL l).1 = true := by unfold isW; rcases h with h | h <;> rw [h] <;> rfl
  simp only [wordN, this, if_true]
  omega
theorem cut_found {l sep : List UInt8} (h : (cut l sep).2.2 = true) (hs : sep.length = 1) : (cut l sep).1.length + 1 ≤ l.length := by
  unfold cut at h ⊢
  by_cases hi : 0 ≤ index l sep
  · rw [if_pos hi]
    have hb := index_room l sep hi
    simp
    omega
  · rw [if_neg hi] at h
    simp at h
theorem cut_len' (l sep : List UInt8) : (cut l sep).1.length ≤ l.length := by
  unfold cut
  split
  · simp; omega
  · simp
theorem textF_ok {l : List UInt8} (h : (textF l).2.2 = 0) : 1 ≤ (textF l).2.1 ∧ (textF l).2.1 ≤ l.length := by
  unfold textF at h ⊢
  simp only at h ⊢
  by_cases h1 : (cut (cut (l.drop 1) [10]).1 [34]).2.2 = false
  · rw [if_pos h1] at h; simp at h
  · rw [if_neg h1] at h ⊢
    have h1' : (cut (cut (l.drop 1) [10]).1 [34]).2.2 = true := by simpa using h1
    have a := cut_found h1' rfl
    have b := cut_len' (l.drop 1) [10]
    rw [List.length_drop] at b
    split at h
    · simp at h
    · rename_i h2
      rw [if_neg h2]
      split at h
      · simp at h
      · rename_i h3
        rw [if_neg h3]
        simp only
        omega
theorem tokF_ok {l : List UInt8} (hl : l ≠ []) (h : (tokF l).2.2 = 0) : 1 ≤ (tokF l).2.1 ∧ (tokF l).2.1 ≤ l.length := by
  have h0 : 0 < l.length := List.length_pos_iff.2 hl
  have hw := decodeL_width l
  have hle := decodeL_le l hl
  have hn := wordN_le' _ l (Nat.le_refl _)
  unfold tokF at h ⊢
  simp only at h ⊢
  split at h
  · rename_i h2
    rw [if_pos h2]
    have := wordN_pos hl (.inl h2)
    split at h
    · simp at h
    · rename_i h3
      rw [if_neg h3]
      simp only
      omega
  · rename_i h2
    rw [if_neg h2]
    split at h
    · rename_i h3
      rw [if_pos h3]
      have := wordN_pos hl (.inr h3)
      split at h
      · rename_i h4
        rw [if_pos h4]
        simp only
        omega
      · simp at h
    · rename_i h3
      rw [if_neg h3]
      split at h
      · rename_i h4
        rw [if_pos h4]
        exact textF_ok h
      · rename_i h4
        rw [if_neg h4]
        split at h
        · rename_i h5
          rw [if_pos h5]
          simp only
          split <;> omega
        · simp at h
end Go.Proofs.YtgcfjkfipkfijaaGreatDoor
