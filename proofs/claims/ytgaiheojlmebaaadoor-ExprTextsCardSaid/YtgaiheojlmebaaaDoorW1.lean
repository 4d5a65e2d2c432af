/- Walks: the reference's small functions on tokens. -/
import Derived.Test.YtgaiheojlmebaaaDoorR3
import Derived.Test.YtgaiheojlmebaaaDoorF1
import Derived.Test.YtgaiheojlmebaaaDoorG1
namespace Go.Proofs.YtgaiheojlmebaaaDoor
open Go Go.RowKit Go.Lib

set_option maxHeartbeats 1000000 in
theorem xline_any (op : Int) (w : World) : Calls Tryd.prog 79 #[.int .i64 op] w fun e w' => e = .returned (.int .i64 (eLine op)) ∧ w' = w := by
  go_enter Tryd.func79, Tryd.ntmps79
  go_wp2
  all_goals
    go_ret
    refine ⟨ret_int ?_, rfl⟩
    simp only [beq_iff_eq, beq_eq_false_iff_ne, ne_eq] at *
    unfold eLine
    (repeat (first | rw [if_pos (by omega)] | rw [if_neg (by omega)]))

def sg17 : Array Value := #[.string ⟨#[]⟩, .string ⟨#[]⟩, .string ⟨#[45]⟩, .string ⟨#[33]⟩, .string ⟨#[43]⟩, .string ⟨#[45]⟩, .string ⟨#[42]⟩, .string ⟨#[47]⟩, .string ⟨#[37]⟩, .string ⟨#[60]⟩, .string ⟨#[60, 61]⟩, .string ⟨#[62]⟩, .string ⟨#[62, 61]⟩, .string ⟨#[61, 61]⟩, .string ⟨#[33, 61]⟩, .string ⟨#[38]⟩, .string ⟨#[124]⟩]
theorem sg17_at (i : Nat) (h2 : 2 ≤ i) (h : i < 17) : sg17[i]? = some (.string (eSign i)) := by
  have hi : i = 2 ∨ i = 3 ∨ i = 4 ∨ i = 5 ∨ i = 6 ∨ i = 7 ∨ i = 8 ∨ i = 9 ∨ i = 10 ∨ i = 11 ∨ i = 12 ∨ i = 13 ∨ i = 14 ∨ i = 15 ∨ i = 16 := by omega
  rcases hi with rfl | rfl | rfl | rfl | rfl | rfl | rfl | rfl | rfl | rfl | rfl | rfl | rfl | rfl | rfl <;> rfl
set_option maxHeartbeats 2000000 in
set_option maxRecDepth 100000 in
theorem xsign_any (i : Nat) (h2 : 2 ≤ i) (h : i < 17) (w : World) : Calls Tryd.prog 80 #[.int .i64 i] w fun e w' => e = .returned (.string (eSign i)) ∧ Below w.heap.size w w' := by
  have hz : (i : Int) < 17 := by omega
  have hz0 : (0 : Int) ≤ i := by omega
  have hs := sg17_at i h2 h
  unfold sg17 at hs
  clear h2 h
  go_enter Tryd.func80, Tryd.ntmps80
  go_wp2_with fail
  go_ret
  exact ⟨rfl, (Below.refl _ _).alloc (Nat.le_refl _) _⟩

set_option maxHeartbeats 2000000 in
theorem xtoken_any (l : List Tok) (A : Option Addr) (c : Nat) (i : Int) (w : World) (hr : tokK.Row [] w A l) (hlc : l.length ≤ c) :
    Calls Tryd.prog 47 #[.slice A l.length c, .int .i64 i] w fun r w' => r = .returned (tokV (tokAt l i)) ∧ Below w.heap.size w w' := by
  have HR := Lib.hid hr
  have hm := hr.1
  clear hr
  by_cases h1 : i < 0
  · have HX : Hid (tokAt l i = zTok) := by unfold tokAt; rw [if_pos (.inl h1)]; exact rfl
    have h1b : decide (i < 0) = true := decide_eq_true h1
    go_enter Tryd.func47, Tryd.ntmps47
    go_wp2_with fail
    refine bodyPost_ret (v := .agg #[.int .i64 0, .string ⟨#[]⟩, .int .i64 0, .int .i64 0]) (by simp [results, Tryd.results47, go_sem]) rfl ⟨by rw [HX.out]; rfl, ?_⟩
    exact (Below.refl _ _).alloc (Nat.le_refl _) _
  · by_cases h2 : (l.length : Int) ≤ i
    · have HX : Hid (tokAt l i = zTok) := by unfold tokAt; rw [if_pos (.inr h2)]; exact rfl
      have h1b : decide (i < 0) = false := decide_eq_false h1
      have h2b : decide ((l.length : Int) ≤ i) = true := decide_eq_true h2
      go_enter Tryd.func47, Tryd.ntmps47
      go_wp2_with fail
      refine bodyPost_ret (v := .agg #[.int .i64 0, .string ⟨#[]⟩, .int .i64 0, .int .i64 0]) (by simp [results, Tryd.results47, go_sem]) rfl ⟨by rw [HX.out]; rfl, ?_⟩
      exact (Below.refl _ _).alloc (Nat.le_refl _) _
    · obtain ⟨k, rfl⟩ := Int.eq_ofNat_of_zero_le (show 0 ≤ i by omega)
      have hk : k < l.length := by omega
      obtain ⟨ad, rfl⟩ := row_some0 HR.out (by omega)
      obtain ⟨x0, x1, x2, x3⟩ := tok_some HR.out k hk
      have hlt := World.block_lt_of_cell? w _ x0
      have HX : Hid (tokAt l (k : Int) = l[k]) := by
        unfold tokAt
        rw [if_neg (by omega), Int.toNat_natCast, List.getD_eq_getElem?_getD, List.getElem?_eq_getElem hk]
        exact rfl
      have h1b : decide ((k : Int) < 0) = false := decide_eq_false h1
      have h2b : decide (l.length ≤ k) = false := decide_eq_false (by omega)
      have h2c : decide ((l.length : Int) ≤ (k : Int)) = false := decide_eq_false h2
      have hkz : (k : Int) < l.length := by omega
      have hk0 : (0 : Int) ≤ k := by omega
      have hlcz : (l.length : Int) ≤ c := by omega
      obtain ⟨t, ht⟩ : ∃ t, l[k] = t := ⟨_, rfl⟩
      rw [ht] at HX x0 x1 x2 x3
      clear h1 h2 ht
      go_enter Tryd.func47, Tryd.ntmps47
      go_wp2_with fail
      refine bodyPost_ret (v := tokV t) (by simp [results, Tryd.results47, go_sem, tokV]) rfl ⟨by rw [HX.out], ?_⟩
      exact (Below.refl _ _).alloc (Nat.le_refl _) _

set_option maxHeartbeats 2000000 in
theorem xis_any (t : Tok) (s : ByteArray) (w : World) :
    Calls Tryd.prog 78 #[tokV t, .string s] w fun r w' => r = .returned (.bool (t.kind == 4 && seq t.text s)) ∧ Below w.heap.size w w' := by
  obtain ⟨k, x, n, p⟩ := t
  unfold tokV
  by_cases hk : k = 4
  · subst hk
    go_enter Tryd.func78, Tryd.ntmps78
    go_wp2_with fail
    go_ret
    exact ⟨ret_bool (by rw [show ((4 : Int) == 4 && seq x s) = seq x s from rfl]; unfold seq; rw [Lib.toList_data, Lib.toList_data]), (Below.refl _ _).alloc (Nat.le_refl _) _⟩
  · have hkb : (k == 4) = false := by rw [beq_eq_false_iff_ne]; exact hk
    have HX : Hid ((k == 4 && seq x s) = false) := Lib.hid (by rw [hkb]; rfl)
    clear hk
    go_enter Tryd.func78, Tryd.ntmps78
    go_wp2_with fail
    go_ret
    exact ⟨ret_bool (by rw [HX.out]), (Below.refl _ _).alloc (Nat.le_refl _) _⟩

/-- The operator of a line that a token is, from one on: so many are tried; below 0: none. -/
def twF (n : Int) (t : Tok) : Nat → Int → Int
  | 0, _ => -1
  | k + 1, op => if eLine op = n ∧ seq (eSign op) t.text = true then op else twF n t k (op + 1)
def twoX (n : Int) (t : Tok) : Int := if t.kind = 4 then twF n t 13 4 else -1
theorem twF_none {n : Int} {t : Tok} : ∀ (k : Nat) (a : Int), (∀ op, a ≤ op → op < a + k → ¬ (eLine op = n ∧ seq (eSign op) t.text = true)) → twF n t k a = -1
  | 0, _, _ => rfl
  | k + 1, a, h => by
    rw [twF, if_neg (h a (Int.le_refl _) (by omega))]
    exact twF_none k (a + 1) (fun op h1 h2 => h op (by omega) (by omega))
theorem twF_some {n : Int} {t : Tok} {op : Int} (hs : eLine op = n ∧ seq (eSign op) t.text = true) : ∀ (k : Nat) (a : Int), a ≤ op → op < a + k → (∀ o, a ≤ o → o < op → ¬ (eLine o = n ∧ seq (eSign o) t.text = true)) → twF n t k a = op
  | 0, _, h1, h2, _ => by omega
  | k + 1, a, h1, h2, h => by
    rw [twF]
    by_cases e : a = op
    · subst e; rw [if_pos hs]
    · rw [if_neg (h a (Int.le_refl _) (by omega))]
      exact twF_some hs k (a + 1) (by omega) (by omega) (fun o h1 h2 => h o (by omega) h2)
theorem twoX_isP (l : List Tok) (i : Int) (n : Nat) (h1 : 1 ≤ n) (h5 : n ≤ 5) : twoX n (tokAt l i) = match isP l (lo n) (hi n) ⟨i, 0⟩ with | none => -1 | some op => op := by
  by_cases h : ∃ op, 4 ≤ op ∧ op ≤ 16 ∧ eLine op = n ∧ Sgn op (tokAt l i)
  · obtain ⟨op, h4, h16, hl, hs⟩ := h
    have hlo := line_lo op n h4 h16 hl
    rw [isP_some h1 h5 hlo.1 hlo.2.1 hs]
    unfold twoX
    rw [if_pos hs.1]
    exact twF_some ⟨hl, hs.2⟩ 13 4 h4 (by omega) (fun o ho1 ho2 ho3 => by
      have := sgn_inj ho1 (by omega) h4 h16 ⟨hs.1, ho3.2⟩ hs
      omega)
  · have hno : isP l (lo n) (hi n) ⟨i, 0⟩ = none := by
      cases hp : isP l (lo n) (hi n) ⟨i, 0⟩ with
      | none => rfl
      | some op =>
        have hn : n = 1 ∨ n = 2 ∨ n = 3 ∨ n = 4 ∨ n = 5 := by omega
        have hlh : lo n ≤ hi n := by rcases hn with rfl | rfl | rfl | rfl | rfl <;> decide
        have his := isP_is hp hlh
        have hol := lo_line op n h1 h5 his.1 his.2.1
        exact absurd ⟨op, hol.1, hol.2.1, hol.2.2, his.2.2⟩ h
    rw [hno]
    unfold twoX
    split
    · rename_i hk
      exact twF_none 13 4 (fun op ho1 ho2 ho3 => h ⟨op, ho1, by omega, ho3.1, hk, ho3.2⟩)
    · rfl

set_option maxHeartbeats 4000000 in
set_option maxRecDepth 100000 in
theorem xtwo_any (n : Int) (t : Tok) (w : World) :
    Calls Tryd.prog 46 #[.int .i64 n, tokV t] w fun r w' => r = .returned (.int .i64 (twoX n t)) ∧ Below w.heap.size w w' := by
  obtain ⟨tk, tx, tn, tp⟩ := t
  unfold tokV
  obtain ⟨w0, hw0⟩ : ∃ w', w.alloc (.cells #[.int .i64 tk, .string tx, .int .i64 tn, .int .i64 tp] 52 (0, 0)) = w' := ⟨_, rfl⟩
  have hal : Below w.heap.size w w0 := hw0 ▸ (Below.refl _ _).alloc (Nat.le_refl _) _
  have hq : w0.heap[w.heap.size]? = some (.cells #[.int .i64 tk, .string tx, .int .i64 tn, .int .i64 tp] 52 (0, 0)) := hw0 ▸ heap_alloc_new _ _
  have HAL := Lib.hid hal
  have HQ := Lib.hid hq
  have HW0 := Lib.hid hw0
  clear hal hq hw0
  by_cases hk : tk = 4
  · subst hk
    have HX : Hid (twoX n ⟨4, tx, tn, tp⟩ = twF n ⟨4, tx, tn, tp⟩ 13 4) := Lib.hid (if_pos rfl)
    obtain ⟨ANS, hANS⟩ : ∃ a, twF n ⟨4, tx, tn, tp⟩ 13 4 = a := ⟨_, rfl⟩
    have HANS := Lib.hid hANS
    clear hANS
    go_enter Tryd.func46, Tryd.ntmps46
    go_wp2_with fail
    rw [HW0.out]
    go_loopg [5] 14 (fun k s5 w' => ∃ op : Int, s5 = .int .i64 op ∧ 4 ≤ op ∧ op ≤ 17 ∧ (17 - op).toNat < k ∧ twF n ⟨4, tx, tn, tp⟩ (17 - op).toNat op = ANS ∧ Below w0.heap.size w0 w')
    case atStart => exact ⟨4, rfl, by decide, by decide, by decide, HANS.out, Below.refl _ _⟩
    case round =>
      obtain ⟨op, rfl, h4, h17, hok, hans, hbl⟩ := hrel
      obtain ⟨gk, rfl⟩ : ∃ k, gk = k + 1 := ⟨gk - 1, by omega⟩
      have HBW := Lib.hid hbl
      have hqr := (hbl.block _ (blk_lt HQ.out)).trans HQ.out
      have k1 : wr.cell? ⟨w.heap.size, 1, none⟩ = some (.string tx) := (blk_cell hqr 1).trans rfl
      have hlK := blk_lt hqr
      clear hbl
      by_cases hle : op ≤ 16
      · obtain ⟨m, hm⟩ : ∃ m, (17 - op).toNat = m + 1 := ⟨(16 - op).toNat, by omega⟩
        have hm' : (17 - (op + 1)).toNat = m := by omega
        rw [hm, twF] at hans
        obtain ⟨o, rfl⟩ := Int.eq_ofNat_of_zero_le (show 0 ≤ op by omega)
        have HSG := Lib.hid (fun W => xsign_any o (by omega) (by omega) W)
        by_cases hl : eLine (o : Int) = n
        · have hlb : (eLine (o : Int) == n) = true := beq_iff_eq.2 hl
          obtain ⟨q, hq⟩ : ∃ q, seq (eSign (o : Int)) tx = q := ⟨_, rfl⟩
          have hq' : ((eSign (o : Int)).toList == tx.toList) = q := by rw [Lib.toList_data, Lib.toList_data]; exact hq
          rw [show seq (eSign (o : Int)) (⟨4, tx, tn, tp⟩ : Tok).text = q from hq] at hans
          obtain ⟨sgn, hsgn⟩ : ∃ s, eSign (o : Int) = s := ⟨_, rfl⟩
          rw [hsgn] at HSG hq'
          have HL : Hid (∀ W, Calls Tryd.prog 79 #[.int .i64 o] W fun e w' => e = .returned (.int .i64 n) ∧ w' = W) := Lib.hid (fun W => by have := xline_any o W; rwa [hl] at this)
          have HN := Lib.hid (⟨hl, hans⟩ : _ ∧ _)
          have HM := Lib.hid hm'
          clear hl hlb hq hsgn hans hm hm'
          go_wp2_with fail
          go_cut [23] (fun s23 wx => s23 = .bool q ∧ Below wr.heap.size wr wx)
          case first =>
            go_region_with (first
              | (go_at_call 79; refine (HL.out _).mono ?_; rintro e w' ⟨rfl, rfl⟩)
              | (go_at_call 80; refine (HSG.out _).mono ?_; rintro e w5 ⟨rfl, hb5⟩; have z1 := (hb5.cell (p := ⟨w.heap.size, 1, none⟩) hlK).trans k1; have HB5 := Lib.hid hb5; clear hb5))
            all_goals
              go_wp2_with fail
              go_meet
              exact ⟨rfl, by first | exact HB5.out | exact (Below.refl _ _).drew.trans HB5.out⟩
          case rest =>
            obtain ⟨rfl, hbx⟩ := hcut
            have HBX := Lib.hid hbx
            clear hbx k1 hlK
            cases q
            · go_wp2_with fail
              go_roundg gk
              case measure => omega
              case rel =>
                refine ⟨(o : Int) + 1, rfl, by omega, by omega, by omega, ?_, HBW.out.trans (HBX.out.mono HBW.out.size)⟩
                have h := HN.out.2
                rw [if_neg (fun h => by cases h.2)] at h
                rw [HM.out]
                exact h
            · go_wp2_with fail
              go_ret
              refine ⟨ret_int ?_, HAL.out.trans ((HBW.out.trans (HBX.out.mono HBW.out.size)).mono HAL.out.size)⟩
              have h := HN.out.2
              rw [if_pos ⟨HN.out.1, by simp⟩] at h
              rw [HX.out, HANS.out, h]
        · have hlb : (eLine (o : Int) == n) = false := beq_eq_false_iff_ne.2 hl
          rw [if_neg (fun h => hl h.1)] at hans
          have HN := Lib.hid hans
          have HM := Lib.hid hm'
          obtain ⟨L, hL⟩ : ∃ L, eLine (o : Int) = L := ⟨_, rfl⟩
          have HL : Hid (∀ W, Calls Tryd.prog 79 #[.int .i64 o] W fun e w' => e = .returned (.int .i64 L) ∧ w' = W) := Lib.hid (fun W => by have := xline_any o W; rwa [hL] at this)
          rw [hL] at hlb
          clear hl hans hm hm' hL
          go_wp2_with fail
          go_quiet ((go_at_call 79; exact Calls.quiet_of_same (HL.out _)))
          go_wp2_with fail
          go_roundg gk
          case measure => omega
          case rel =>
            refine ⟨(o : Int) + 1, rfl, by omega, by omega, by omega, ?_, below_drewN HBW.out _⟩
            rw [HM.out]
            exact HN.out
      · obtain rfl : op = 17 := by omega
        have HN := Lib.hid hans
        clear hans h4 h17 hle
        go_wp2_with fail
        go_ret
        refine ⟨ret_int ?_, HAL.out.trans (HBW.out.mono HAL.out.size)⟩
        rw [HX.out, HANS.out]
        exact HN.out
  · have hkb : (tk == 4) = false := by rw [beq_eq_false_iff_ne]; exact hk
    have HX : Hid (twoX n ⟨tk, tx, tn, tp⟩ = -1) := Lib.hid (if_neg hk)
    clear hk
    go_enter Tryd.func46, Tryd.ntmps46
    go_wp2_with fail
    go_ret
    exact ⟨ret_int HX.out.symm, by first | exact HAL.out | exact HW0.out ▸ HAL.out | exact (Below.refl _ _).alloc (Nat.le_refl _) _⟩
end Go.Proofs.YtgaiheojlmebaaaDoor
