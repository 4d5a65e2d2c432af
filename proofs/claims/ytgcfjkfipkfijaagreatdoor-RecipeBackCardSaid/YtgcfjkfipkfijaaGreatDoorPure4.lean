/- The text of a tree, as a plain function. -/
import Derived.Test.YtgcfjkfipkfijaaGreatDoorPure3
import Derived.Test.YtgcfjkfipkfijaaGreatDoorE5
import Derived.Lib.ItoaLen
namespace Go.Proofs.YtgcfjkfipkfijaaGreatDoor
open Go Go.RowKit Go.Lib

/-- A part's text, in brackets where it is to stand so. -/
def brk (b : Bool) (l : List UInt8) : List UInt8 := if b then [40] ++ l ++ [41] else l
def eText : Ex → List UInt8
  | .mk op n nm ks =>
    if op = 0 then Lib.itoa n
    else if op = 1 then nm.data.toList
    else match ks with
      | [] => []
      | [a] => (eSign op).data.toList ++ brk (eWrapped op a.op 0) (eText a)
      | a :: b :: _ => brk (eWrapped op a.op 0) (eText a) ++ [32] ++ (eSign op).data.toList ++ [32] ++ brk (eWrapped op b.op 1) (eText b)
def ePrint (e : Ex) : List UInt8 := if eMay e then eText e else []
def str (l : List UInt8) : ByteArray := ⟨l.toArray⟩
theorem str_app (a b : List UInt8) : str a ++ str b = str (a ++ b) := by
  apply ByteArray.ext
  simp [str]
theorem str_size (l : List UInt8) : (str l).size = l.length := by
  rw [← size_data]
  simp [str]
theorem str_data (s : ByteArray) : str s.data.toList = s := by
  apply ByteArray.ext
  simp [str]
theorem data_str (l : List UInt8) : (str l).data.toList = l := by simp [str]
theorem brk_len (b : Bool) (l : List UInt8) : (brk b l).length = l.length + (if b then 2 else 0) := by
  unfold brk
  split <;> simp_all
theorem ite_len {p : Prop} [Decidable p] {a b : List UInt8} {n : Nat} (h1 : a.length ≤ n) (h2 : b.length ≤ n) : (if p then a else b).length ≤ n := by split <;> assumption
theorem sign_len (op : Int) : (eSign op).data.toList.length ≤ 2 := by
  have h : ∀ l : List UInt8, (bytes l).data.toList = l := fun l => by simp [bytes]
  unfold eSign
  rw [h]
  repeat' (refine ite_len ?_ ?_)
  all_goals decide
def partsLen (op : Int) : List Ex → Int → Nat
  | [], _ => 0
  | k :: ks, i => (brk (eWrapped op k.op i) (eText k)).length + partsLen op ks (i + 1)
theorem text_len (N : Nat) : (∀ e : Ex, SizeOf.sizeOf e < N → ExOk e → ∀ m, 0 ≤ eTok e m → ((eText e).length : Int) ≤ 281474976710656 * eTok e m) ∧
    (∀ ks : List Ex, SizeOf.sizeOf ks < N → (∀ k, k ∈ ks → ExOk k) → ∀ op i n m, 1 ≤ n → 0 ≤ eToks op ks i n m → (partsLen op ks i : Int) ≤ 281474976710656 * (eToks op ks i n m - n)) := by
  induction N with
  | zero => exact ⟨fun _ h => absurd h (by omega), fun _ h => absurd h (by omega)⟩
  | succ N ih =>
    refine ⟨fun e he hk m h => ?_, fun ks hs hk op i n m hn h => ?_⟩
    · obtain ⟨o, n, nm, ks⟩ := e
      have hfn : Fits n := hk.n
      have hnm : nm.size ≤ 140737488355328 := hk.name
      simp at he
      by_cases h0 : o = 0 ∨ o = 1
      · by_cases h1 : 0 < ks.length ∨ o = 0 ∧ (n < 0 ∨ nm.size ≠ 0) ∨ o = 1 ∧ (n ≠ 0 ∨ nameB nm = false)
        · rw [eTok, if_pos h0, if_pos h1] at h
          omega
        · rw [eTok, if_pos h0, if_neg h1, eText.eq_def]
          simp only
          rcases h0 with rfl | rfl
          · rw [if_pos rfl]
            have := Lib.itoa_length_le n hfn.1 hfn.2
            omega
          · rw [if_neg (by decide), if_pos rfl, size_data]
            omega
      · by_cases h1 : o < 0 ∨ 16 < o ∨ n ≠ 0 ∨ nm.size ≠ 0 ∨ ks.length ≠ eParts o ∨ m < 1
        · rw [eTok, if_neg h0, if_pos h1] at h
          omega
        · rw [eTok, if_neg h0, if_neg h1] at h ⊢
          have h2 := ih.2 ks (by omega) hk.kids o 0 1 m (by omega) h
          have hsg := sign_len o
          rw [eText.eq_def]
          simp only
          rw [if_neg (by omega), if_neg (by omega)]
          have hge := eToks_ge ks o 0 1 m (by omega)
          match ks, h2, h1, h with
          | [], _, h1, _ =>
            have : eParts o = 1 ∨ eParts o = 2 := by unfold eParts; split <;> simp
            simp at h1
            omega
          | [a], h2, _, _ =>
            simp only [partsLen] at h2
            simp only [List.length_append]
            omega
          | a :: b :: r, h2, _, _ =>
            simp only [partsLen] at h2
            simp only [List.length_append, List.length_cons, List.length_nil]
            have hz : (0 : Int) + 1 = 1 := by omega
            rw [hz] at h2
            omega
    · cases ks with
      | nil => simp [partsLen, eToks]
      | cons x xs =>
        simp at hs
        rw [eToks_cons] at h ⊢
        have hx : 0 ≤ (if eWrapped op x.op i = true then (2 : Int) else 0) := by split <;> omega
        by_cases h1 : eTok x (m - n) < 0
        · rw [if_pos h1] at h; omega
        · rw [if_neg h1] at h ⊢
          by_cases h3 : m < n + eTok x (m - n) + (if eWrapped op x.op i = true then 2 else 0)
          · rw [if_pos h3] at h; omega
          · rw [if_neg h3] at h ⊢
            have a1 := ih.1 x (by omega) (hk x (by simp)) (m - n) (by omega)
            have a2 := ih.2 xs (by omega) (fun k hk' => hk k (by simp [hk'])) op (i + 1) _ m (by omega) h
            simp only [partsLen, brk_len]
            have hw : ((if eWrapped op x.op i = true then 2 else 0 : Nat) : Int) = (if eWrapped op x.op i = true then 2 else 0) := by split <;> rfl
            push_cast
            rw [hw]
            generalize (if eWrapped op x.op i = true then (2 : Int) else 0) = z at *
            omega
theorem text_len_may {e : Ex} (hk : ExOk e) (h : eMay e = true) : (eText e).length ≤ 18014398509481984 := by
  unfold eMay at h
  rw [Bool.and_eq_true, decide_eq_true_eq, decide_eq_true_eq] at h
  have := (text_len (SizeOf.sizeOf e + 1)).1 e (by omega) hk 64 (by omega)
  omega
end Go.Proofs.YtgcfjkfipkfijaaGreatDoor
