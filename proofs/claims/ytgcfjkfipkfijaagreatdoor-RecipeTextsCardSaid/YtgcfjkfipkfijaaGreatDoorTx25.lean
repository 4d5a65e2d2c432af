/- Part 25 of the proof of rtexts_card; no conditions. -/
import Derived.Test.YtgcfjkfipkfijaaGreatDoorTx24
import Derived.Test.YtgcfjkfipkfijaaGreatDoorTx16
namespace Go.Proofs.YtgcfjkfipkfijaaGreatDoor
open Go Go.RowKit Go.Lib
theorem head_at {s : ByteArray} (hv : Vd s.data.toList) {i : Nat} (h : i < (rv s.data.toList).length) : (rv (suf_ s i)).getD 0 0 = (rv s.data.toList)[i] := by
 rw [(sufx hv (Nat.le_of_lt h)).2, List.getD_eq_getElem?_getD, List.getElem?_drop, Nat.add_zero, List.getElem?_eq_getElem h]
 rfl
section
variable {s : ByteArray} (hv : Vd s.data.toList) {i : Nat} (h : i < (rv s.data.toList).length)
include hv h
theorem tokI2 (hc : cls (rv s.data.toList)[i] = 2) : tokT (tokX (suf_ s i)) i = if 12 < wordC ((rv s.data.toList).drop i) then (zTok, 0, 2) else (⟨1, s.extract (bw s.data.toList i) (bw s.data.toList (i + wordC ((rv s.data.toList).drop i))), 0, i⟩, ((i + wordC ((rv s.data.toList).drop i) : Nat) : Int), 0) := by
 have e : tokX (suf_ s i) = if 12 < wordC ((rv s.data.toList).drop i) then (zTok, 0, 2) else (⟨1, partX (suf_ s i) (wordC ((rv s.data.toList).drop i)), 0, 0⟩, wordC ((rv s.data.toList).drop i), 0) := by
  unfold tokX
  simp only
  rw [head_at hv h, hc, if_pos rfl, (sufx hv (Nat.le_of_lt h)).2]
 rw [e, ext_part hv (Nat.le_of_lt h)]
 unfold tokT
 by_cases h12 : 12 < wordC ((rv s.data.toList).drop i)
 ·rw [if_pos h12, if_pos h12]; exact if_neg (by decide)
 ·rw [if_neg h12, if_neg h12]; exact if_pos rfl
theorem tokI3 (hc : cls (rv s.data.toList)[i] = 3) {p : ByteArray} (hp : s.extract (bw s.data.toList i) (bw s.data.toList (i + wordC ((rv s.data.toList).drop i))) = p) :
  tokT (tokX (suf_ s i)) i = if (numS p).2 then (⟨2, p, (numS p).1, i⟩, ((i + wordC ((rv s.data.toList).drop i) : Nat) : Int), 0) else (zTok, 0, 11) := by
 subst hp
 have e : tokX (suf_ s i) = if (numS (partX (suf_ s i) (wordC ((rv s.data.toList).drop i)))).2 then (⟨2, partX (suf_ s i) (wordC ((rv s.data.toList).drop i)), (numS (partX (suf_ s i) (wordC ((rv s.data.toList).drop i)))).1, 0⟩, wordC ((rv s.data.toList).drop i), 0) else (zTok, 0, 11) := by
  unfold tokX
  simp only
  rw [head_at hv h, hc, if_neg (show ¬ (3 : Int) = 2 by decide), if_pos rfl, (sufx hv (Nat.le_of_lt h)).2]
 rw [e, ext_part hv (Nat.le_of_lt h)]
 unfold tokT
 by_cases hn : (numS (partX (suf_ s i) (wordC ((rv s.data.toList).drop i)))).2 = true
 ·rw [if_pos hn, if_pos hn]; exact if_pos rfl
 ·rw [if_neg hn, if_neg hn]; exact if_neg (by decide)
theorem tokI5 (hc : cls (rv s.data.toList)[i] = 5) : tokT (tokX (suf_ s i)) i = quoI s i := by
 have h34 : (rv s.data.toList)[i] = 34 := by
  unfold cls at hc
  by_cases e : (rv s.data.toList)[i] = 34
  ·exact e
  ·rw [if_neg e] at hc
   repeat' split at hc
   all_goals cases hc
 rw [← quoI_is hv h (by rw [List.getD_eq_getElem?_getD, List.getElem?_eq_getElem h]; exact h34)]
 unfold tokX
 simp only
 rw [head_at hv h, hc, if_neg (show ¬ (5 : Int) = 2 by decide), if_neg (show ¬ (5 : Int) = 3 by decide), if_pos rfl]
theorem tokI4 (hc : cls (rv s.data.toList)[i] = 4) {m : Nat} (hm : m = if i + 1 < (rv s.data.toList).length ∧ (rv s.data.toList).getD (i + 1) 0 = 61 then (if isTwo (s.extract (bw s.data.toList i) (bw s.data.toList (i + 2))) then 2 else 1) else 1) :
  tokT (tokX (suf_ s i)) i = (⟨4, s.extract (bw s.data.toList i) (bw s.data.toList (i + m)), 0, i⟩, ((i + m : Nat) : Int), 0) := by
 have hs : sigN (suf_ s i) = m := by
  rw [hm, ext_part hv (Nat.le_of_lt h)]
  unfold sigN
  rw [(sufx hv (Nat.le_of_lt h)).2, List.length_drop, List.getD_eq_getElem?_getD, List.getElem?_drop, ← List.getD_eq_getElem?_getD]
  by_cases e : i + 1 < (rv s.data.toList).length ∧ (rv s.data.toList).getD (i + 1) 0 = 61
  ·rw [if_pos e, if_pos ⟨by omega, e.2⟩]
  ·rw [if_neg e, if_neg (fun e2 => e ⟨by omega, e2.2⟩)]
 have e : tokX (suf_ s i) = (⟨4, partX (suf_ s i) m, 0, 0⟩, m, 0) := by
  unfold tokX
  simp only
  rw [head_at hv h, hc, if_neg (show ¬ (4 : Int) = 2 by decide), if_neg (show ¬ (4 : Int) = 3 by decide), if_neg (show ¬ (4 : Int) = 5 by decide), if_pos rfl, hs]
 rw [e, ext_part hv (Nat.le_of_lt h)]
 exact if_pos rfl
theorem tokI0 (hc : cls (rv s.data.toList)[i] ≠ 2 ∧ cls (rv s.data.toList)[i] ≠ 3 ∧ cls (rv s.data.toList)[i] ≠ 5 ∧ cls (rv s.data.toList)[i] ≠ 4) : tokT (tokX (suf_ s i)) i = (zTok, 0, 11) := by
 have e : tokX (suf_ s i) = (zTok, 0, 11) := by
  unfold tokX
  simp only
  rw [head_at hv h, if_neg hc.1, if_neg hc.2.1, if_neg hc.2.2.1, if_neg hc.2.2.2]
 rw [e]
 exact if_neg (by decide)
end
structure TokW (w0 : World) (K P : Nat) (s : ByteArray) (A : Option Addr) (a : Nat) (B : Option Addr) (b L1 L2 : Nat) (W : World) : Prop where
 txt : Txt W s A a B b
 box : TxB W K s (.slice A L1 a) (.slice B L2 b)
 out : W.heap[P]? = some (.cells #[.int .i64 0, .string ⟨#[]⟩, .int .i64 0, .int .i64 0] 60 (0, 0))
 below : Below w0.heap.size w0 W
theorem TokW.step {w0 W W' : World} {K P : Nat} {s : ByteArray} {A B : Option Addr} {a b L1 L2 : Nat} (h : TokW w0 K P s A a B b L1 L2 W) (hb : Below W.heap.size W W') : TokW w0 K P s A a B b L1 L2 W' :=
 ⟨h.txt.below hb, (hb.block K (blk_lt h.box)).trans h.box, (hb.block P (blk_lt h.out)).trans h.out, h.below.trans (hb.mono h.below.size)⟩
def TkPost (t : Tok × Int × Int) (w : World) (r : Ending) (w' : World) : Prop := r = .returned (.tuple #[tokV t.1, .int .i64 t.2.1, .int .i64 t.2.2]) ∧ Below w.heap.size w w'
set_option maxHeartbeats 16000000 in
set_option maxRecDepth 100000 in
theorem xtoken_2 (s : ByteArray) (A : Option Addr) (a : Nat) (B : Option Addr) (b : Nat) (i : Nat) (w : World) (h : Txt w s A a B b) (hi : i < (rv s.data.toList).length) (hc : cls (rv s.data.toList)[i] = 2) :
  Calls Tryz.prog 59 #[txV s A a B b, .int .i64 i] w (TkPost (tokT (tokX (suf_ s i)) i) w) := by
 have hn := h.runes_le
 have hra := h.ra
 have hsz := h.size
 have HX := Lib.hid (tokI2 h.vd hi hc)
 generalize tokT (tokX (suf_ s i)) i = T at HX ⊢
 have HT := Lib.hid h
 have hwl := wordC_le ((rv s.data.toList).drop i)
 rw [List.length_drop] at hwl
 have HWD := Lib.hid (fun W (hW : Txt W s A a B b) => xword_any s A a B b i W hW (Nat.le_of_lt hi))
 have HPT := Lib.hid (fun (k : Nat) (W : World) (hW : Txt W s A a B b) (h1 : i ≤ k) (h2 : k ≤ (rv s.data.toList).length) => xpart_any s A a B b i k W hW h1 h2)
 have hrow := h.r
 unfold txV at HWD HPT ⊢
 generalize bw s.data.toList = BW at HX HPT
 generalize hRR : rv s.data.toList = R at *
 generalize hL2 : (plc s.data.toList).length = L2 at *
 clear h
 obtain ⟨n, hwn⟩ : ∃ n, wordC (R.drop i) = n := ⟨_, rfl⟩
 rw [hwn] at hwl HWD HX
 obtain ⟨q, hq⟩ : ∃ q, i + n = q := ⟨_, rfl⟩
 rw [hq] at HWD HX
 have hiq : i ≤ q := by omega
 have hqr : q ≤ R.length := by omega
 have HNQ := Lib.hid hq
 obtain ⟨ad, rfl⟩ := row_some hrow (by omega)
 obtain ⟨ad', e0, x0⟩ := int_at hrow i hi
 injection e0 with e0
 subst e0
 obtain ⟨r, hr⟩ : ∃ r, R[i] = r := ⟨_, rfl⟩
 rw [hr] at x0 hc
 have HC : Hid (∀ W, Calls Tryz.prog 87 #[.int .i64 r] W fun e w' => e = .returned (.int .i64 2) ∧ W = w') := Lib.hid (fun W => by have := xclass_q r W; rwa [hc] at this)
 have hnz : (R.length : Int) ≤ 8192 := by omega
 have hraz : (R.length : Int) ≤ a := by omega
 have hi0 : (0 : Int) ≤ i := by omega
 have hiz : (i : Int) < R.length := by omega
 have hqz : (q : Int) ≤ 8192 := by omega
 have hiqz : (i : Int) ≤ q := by omega
 have HROW := Lib.hid hrow
 have hltx := World.block_lt_of_cell? w _ x0
 obtain ⟨w0, hw0⟩ : ∃ w', w.alloc (.cells #[.string s, .slice (some ad) R.length a, .slice B L2 b] 99 (0, 0)) = w' := ⟨_, rfl⟩
 have hb0 : Below w.heap.size w w0 := hw0 ▸ (Below.refl _ _).alloc (Nat.le_refl _) _
 have hq0 : TxB w0 w.heap.size s (.slice (some ad) R.length a) (.slice B L2 b) := hw0 ▸ heap_alloc_new _ _
 obtain ⟨w1, hw1⟩ : ∃ w', w0.alloc (.cells #[.int .i64 0, .string ⟨#[]⟩, .int .i64 0, .int .i64 0] 60 (0, 0)) = w' := ⟨_, rfl⟩
 have hb1 : Below w0.heap.size w0 w1 := hw1 ▸ (Below.refl _ _).alloc (Nat.le_refl _) _
 have hz1 : w1.heap[w0.heap.size]? = some (.cells #[.int .i64 0, .string ⟨#[]⟩, .int .i64 0, .int .i64 0] 60 (0, 0)) := hw1 ▸ heap_alloc_new _ _
 have hq1 := (hb1.block _ (blk_lt hq0)).trans hq0
 have hb01 := hb0.trans (hb1.mono hb0.size)
 obtain ⟨K, hK⟩ : ∃ K, w.heap.size = K := ⟨_, rfl⟩
 obtain ⟨P, hP⟩ : ∃ P, w0.heap.size = P := ⟨_, rfl⟩
 have hKP : w.heap.size ≤ P := by rw [← hP]; exact hb0.size
 have HKP := Lib.hid hKP
 have H1 : Hid (TokW w K P s (some ad) a B b R.length L2 w1) := Lib.hid ⟨HT.out.below hb01, by rw [← hK]; exact hq1, by rw [← hP]; exact hz1, hb01⟩
 have x1 := (hb01.cell hltx).trans x0
 have HX1 := Lib.hid x1
 have HL1 := Lib.hid (Nat.lt_of_lt_of_le hltx hb01.size)
 obtain ⟨⟨y0, y1, y2⟩, _⟩ := blk3 H1.out.box
 have hlK := blk_lt H1.out.box
 clear hwn hq hrow x0 hltx hb0 hq0 hb1 hz1 hq1 hb01 hKP x1 HT hr
 go_enter Tryz.func59, Tryz.ntmps59
 go_wp2_with fail
 clear hw0 hw1 hK hP
 refine (HWD.out w1 H1.out.txt).mono ?_
 rintro e w2 ⟨rfl, hb2⟩
 have H2 := Lib.hid (H1.out.step hb2)
 have x2 := (hb2.cell HL1.out).trans HX1.out
 have hlx := Nat.lt_of_lt_of_le HL1.out hb2.size
 have HROW2 := Lib.hid ((HROW.out.keep (Same.of_below (M := []) H2.out.below)))
 clear y0 y1 y2 hlK hb2
 obtain ⟨⟨y0, y1, y2⟩, _⟩ := blk3 H2.out.box
 have hlK := blk_lt H2.out.box
 go_wp2_with fail
 refine (HC.out w2).mono ?_
 rintro e w3 ⟨rfl, rfl⟩
 by_cases h12 : 12 < n
 ·have HE : Hid (T = (zTok, 0, 2)) := Lib.hid (by rw [HX.out, if_pos h12])
  have h12z : (12 : Int) < (q : Int) - i := by have := HNQ.out; omega
  clear h12
  obtain ⟨⟨z0, z1, z2, z3⟩, g0, g1, g2, g3⟩ := blk4 H2.out.out
  have hlP := blk_lt H2.out.out
  go_wp2
  refine bodyPost_ret (v := .tuple #[.agg #[.int .i64 0, .string ⟨#[]⟩, .int .i64 0, .int .i64 0], .int .i64 0, .int .i64 2]) (by simp [results, Tryz.results59, go_sem, *]) rfl ?_
  exact ⟨by rw [HE.out]; first | done | rfl, below_set4' H2.out.below HKP.out _ _ _ _⟩
 ·have HE : Hid (T = (⟨1, s.extract (BW i) (BW q), 0, i⟩, (q : Int), 0)) := Lib.hid (by rw [HX.out, if_neg h12])
  have h12z : (q : Int) - i ≤ 12 := by have := HNQ.out; omega
  clear h12
  go_wp2_with fail
  refine (HPT.out q w2 H2.out.txt (by omega) (by omega)).mono ?_
  rintro e w4 ⟨rfl, hb4⟩
  have H4 := Lib.hid (H2.out.step hb4)
  clear y0 y1 y2 hlK hb4
  generalize s.extract (BW i) (BW q) = tx at HE ⊢
  obtain ⟨⟨z0, z1, z2, z3⟩, g0, g1, g2, g3⟩ := blk4 H4.out.out
  have hlP := blk_lt H4.out.out
  go_wp2
  refine bodyPost_ret (v := .tuple #[.agg #[.int .i64 1, .string tx, .int .i64 0, .int .i64 i], .int .i64 q, .int .i64 0]) (by simp [results, Tryz.results59, go_sem, *]) rfl ?_
  exact ⟨by rw [HE.out]; first | done | rfl, below_set4' H4.out.below HKP.out _ _ _ _⟩
set_option maxHeartbeats 16000000 in
set_option maxRecDepth 100000 in
theorem xtoken_3 (s : ByteArray) (A : Option Addr) (a : Nat) (B : Option Addr) (b : Nat) (i : Nat) (w : World) (h : Txt w s A a B b) (hi : i < (rv s.data.toList).length) (hc : cls (rv s.data.toList)[i] = 3) :
  Calls Tryz.prog 59 #[txV s A a B b, .int .i64 i] w (TkPost (tokT (tokX (suf_ s i)) i) w) := by
 have hn := h.runes_le
 have hra := h.ra
 have hsz := h.size
 have HX := Lib.hid (tokI3 h.vd hi hc rfl)
 generalize tokT (tokX (suf_ s i)) i = T at HX ⊢
 have HT := Lib.hid h
 have hwl := wordC_le ((rv s.data.toList).drop i)
 rw [List.length_drop] at hwl
 have HWD := Lib.hid (fun W (hW : Txt W s A a B b) => xword_any s A a B b i W hW (Nat.le_of_lt hi))
 have HPT := Lib.hid (fun (k : Nat) (W : World) (hW : Txt W s A a B b) (h1 : i ≤ k) (h2 : k ≤ (rv s.data.toList).length) => xpart_any s A a B b i k W hW h1 h2)
 have hrow := h.r
 unfold txV at HWD HPT ⊢
 generalize bw s.data.toList = BW at HX HPT
 generalize hRR : rv s.data.toList = R at *
 generalize hL2 : (plc s.data.toList).length = L2 at *
 clear h
 obtain ⟨n, hwn⟩ : ∃ n, wordC (R.drop i) = n := ⟨_, rfl⟩
 rw [hwn] at hwl HWD HX
 obtain ⟨q, hq⟩ : ∃ q, i + n = q := ⟨_, rfl⟩
 rw [hq] at HWD HX
 have hiq : i ≤ q := by omega
 have hqr : q ≤ R.length := by omega
 have HNQ := Lib.hid hq
 obtain ⟨ad, rfl⟩ := row_some hrow (by omega)
 obtain ⟨ad', e0, x0⟩ := int_at hrow i hi
 injection e0 with e0
 subst e0
 obtain ⟨r, hr⟩ : ∃ r, R[i] = r := ⟨_, rfl⟩
 rw [hr] at x0 hc
 have HC : Hid (∀ W, Calls Tryz.prog 87 #[.int .i64 r] W fun e w' => e = .returned (.int .i64 3) ∧ W = w') := Lib.hid (fun W => by have := xclass_q r W; rwa [hc] at this)
 have hnz : (R.length : Int) ≤ 8192 := by omega
 have hraz : (R.length : Int) ≤ a := by omega
 have hi0 : (0 : Int) ≤ i := by omega
 have hiz : (i : Int) < R.length := by omega
 have hqz : (q : Int) ≤ 8192 := by omega
 have hiqz : (i : Int) ≤ q := by omega
 have HROW := Lib.hid hrow
 have hltx := World.block_lt_of_cell? w _ x0
 obtain ⟨w0, hw0⟩ : ∃ w', w.alloc (.cells #[.string s, .slice (some ad) R.length a, .slice B L2 b] 99 (0, 0)) = w' := ⟨_, rfl⟩
 have hb0 : Below w.heap.size w w0 := hw0 ▸ (Below.refl _ _).alloc (Nat.le_refl _) _
 have hq0 : TxB w0 w.heap.size s (.slice (some ad) R.length a) (.slice B L2 b) := hw0 ▸ heap_alloc_new _ _
 obtain ⟨w1, hw1⟩ : ∃ w', w0.alloc (.cells #[.int .i64 0, .string ⟨#[]⟩, .int .i64 0, .int .i64 0] 60 (0, 0)) = w' := ⟨_, rfl⟩
 have hb1 : Below w0.heap.size w0 w1 := hw1 ▸ (Below.refl _ _).alloc (Nat.le_refl _) _
 have hz1 : w1.heap[w0.heap.size]? = some (.cells #[.int .i64 0, .string ⟨#[]⟩, .int .i64 0, .int .i64 0] 60 (0, 0)) := hw1 ▸ heap_alloc_new _ _
 have hq1 := (hb1.block _ (blk_lt hq0)).trans hq0
 have hb01 := hb0.trans (hb1.mono hb0.size)
 obtain ⟨K, hK⟩ : ∃ K, w.heap.size = K := ⟨_, rfl⟩
 obtain ⟨P, hP⟩ : ∃ P, w0.heap.size = P := ⟨_, rfl⟩
 have hKP : w.heap.size ≤ P := by rw [← hP]; exact hb0.size
 have HKP := Lib.hid hKP
 have H1 : Hid (TokW w K P s (some ad) a B b R.length L2 w1) := Lib.hid ⟨HT.out.below hb01, by rw [← hK]; exact hq1, by rw [← hP]; exact hz1, hb01⟩
 have x1 := (hb01.cell hltx).trans x0
 have HX1 := Lib.hid x1
 have HL1 := Lib.hid (Nat.lt_of_lt_of_le hltx hb01.size)
 obtain ⟨⟨y0, y1, y2⟩, _⟩ := blk3 H1.out.box
 have hlK := blk_lt H1.out.box
 clear hwn hq hrow x0 hltx hb0 hq0 hb1 hz1 hq1 hb01 hKP x1 HT hr
 go_enter Tryz.func59, Tryz.ntmps59
 go_wp2_with fail
 clear hw0 hw1 hK hP
 refine (HWD.out w1 H1.out.txt).mono ?_
 rintro e w2 ⟨rfl, hb2⟩
 have H2 := Lib.hid (H1.out.step hb2)
 have x2 := (hb2.cell HL1.out).trans HX1.out
 have hlx := Nat.lt_of_lt_of_le HL1.out hb2.size
 have HROW2 := Lib.hid ((HROW.out.keep (Same.of_below (M := []) H2.out.below)))
 clear y0 y1 y2 hlK hb2
 obtain ⟨⟨y0, y1, y2⟩, _⟩ := blk3 H2.out.box
 have hlK := blk_lt H2.out.box
 go_wp2_with fail
 refine (HC.out w2).mono ?_
 rintro e w3 ⟨rfl, rfl⟩
 go_wp2_with fail
 refine (HPT.out q w2 H2.out.txt (by omega) (by omega)).mono ?_
 rintro e w4 ⟨rfl, hb4⟩
 have H4 := Lib.hid (H2.out.step hb4)
 clear y0 y1 y2 hlK hb4
 obtain ⟨⟨y0, y1, y2⟩, _⟩ := blk3 H4.out.box
 have hlK := blk_lt H4.out.box
 have hps : (s.extract (BW i) (BW q)).size ≤ 8192 := by simp; omega
 have HNU := Lib.hid (fun W => xnumber_any (s.extract (BW i) (BW q)) W hps)
 obtain ⟨tx, htx⟩ : ∃ t, s.extract (BW i) (BW q) = t := ⟨_, rfl⟩
 rw [htx] at HX HNU
 obtain ⟨⟨v, ok⟩, hv⟩ : ∃ p, numS tx = p := ⟨_, rfl⟩
 rw [hv] at HX HNU
 clear hv hps
 go_wp2_with fail
 refine (HNU.out w4).mono ?_
 rintro e w5 ⟨rfl, rfl⟩
 cases ok
 ·have HE : Hid (T = (zTok, 0, 11)) := Lib.hid (by rw [HX.out]; rfl)
  obtain ⟨⟨z0, z1, z2, z3⟩, g0, g1, g2, g3⟩ := blk4 H4.out.out
  have hlP := blk_lt H4.out.out
  go_wp2
  refine bodyPost_ret (v := .tuple #[.agg #[.int .i64 0, .string ⟨#[]⟩, .int .i64 0, .int .i64 0], .int .i64 0, .int .i64 11]) (by simp [results, Tryz.results59, go_sem, *]) rfl ?_
  exact ⟨by rw [HE.out]; first | done | rfl, below_set4' H4.out.below HKP.out _ _ _ _⟩
 ·have HE : Hid (T = (⟨2, tx, v, i⟩, (q : Int), 0)) := Lib.hid (by rw [HX.out]; rfl)
  go_wp2_with fail
  refine (HPT.out q w4 H4.out.txt (by omega) (by omega)).mono ?_
  rintro e w6 ⟨rfl, hb6⟩
  have H6 := Lib.hid (H4.out.step hb6)
  clear y0 y1 y2 hlK hb6
  obtain ⟨⟨z0, z1, z2, z3⟩, g0, g1, g2, g3⟩ := blk4 H6.out.out
  have hlP := blk_lt H6.out.out
  go_wp2
  refine bodyPost_ret (v := .tuple #[.agg #[.int .i64 2, .string tx, .int .i64 v, .int .i64 i], .int .i64 q, .int .i64 0]) (by simp [results, Tryz.results59, go_sem, *]) rfl ?_
  exact ⟨by rw [HE.out]; first | done | rfl, below_set4' H6.out.below HKP.out _ _ _ _⟩
set_option maxHeartbeats 16000000 in
set_option maxRecDepth 100000 in
theorem xtoken_5 (s : ByteArray) (A : Option Addr) (a : Nat) (B : Option Addr) (b : Nat) (i : Nat) (w : World) (h : Txt w s A a B b) (hi : i < (rv s.data.toList).length) (hc : cls (rv s.data.toList)[i] = 5) :
  Calls Tryz.prog 59 #[txV s A a B b, .int .i64 i] w (TkPost (tokT (tokX (suf_ s i)) i) w) := by
 have hn := h.runes_le
 have hra := h.ra
 have hsz := h.size
 have HX := Lib.hid (tokI5 h.vd hi hc)
 generalize tokT (tokX (suf_ s i)) i = T at HX ⊢
 have HT := Lib.hid h
 have hwl := wordC_le ((rv s.data.toList).drop i)
 rw [List.length_drop] at hwl
 have HWD := Lib.hid (fun W (hW : Txt W s A a B b) => xword_any s A a B b i W hW (Nat.le_of_lt hi))
 have HPT := Lib.hid (fun (k : Nat) (W : World) (hW : Txt W s A a B b) (h1 : i ≤ k) (h2 : k ≤ (rv s.data.toList).length) => xpart_any s A a B b i k W hW h1 h2)
 have HQU := Lib.hid (fun W (hW : Txt W s A a B b) => xquoted_any s A a B b i W hW hi)
 obtain ⟨⟨⟨tk, tx, tn, ta⟩, qn, qe⟩, hQI⟩ : ∃ p, quoI s i = p := ⟨_, rfl⟩
 rw [hQI] at HX HQU
 clear hQI
 have hrow := h.r
 unfold txV at HWD HPT HQU ⊢
 generalize bw s.data.toList = BW at HX HPT
 generalize hRR : rv s.data.toList = R at *
 generalize hL2 : (plc s.data.toList).length = L2 at *
 clear h
 obtain ⟨n, hwn⟩ : ∃ n, wordC (R.drop i) = n := ⟨_, rfl⟩
 rw [hwn] at hwl HWD
 obtain ⟨q, hq⟩ : ∃ q, i + n = q := ⟨_, rfl⟩
 rw [hq] at HWD
 have hiq : i ≤ q := by omega
 have hqr : q ≤ R.length := by omega
 have HNQ := Lib.hid hq
 obtain ⟨ad, rfl⟩ := row_some hrow (by omega)
 obtain ⟨ad', e0, x0⟩ := int_at hrow i hi
 injection e0 with e0
 subst e0
 obtain ⟨r, hr⟩ : ∃ r, R[i] = r := ⟨_, rfl⟩
 rw [hr] at x0 hc
 have HC : Hid (∀ W, Calls Tryz.prog 87 #[.int .i64 r] W fun e w' => e = .returned (.int .i64 5) ∧ W = w') := Lib.hid (fun W => by have := xclass_q r W; rwa [hc] at this)
 have hnz : (R.length : Int) ≤ 8192 := by omega
 have hraz : (R.length : Int) ≤ a := by omega
 have hi0 : (0 : Int) ≤ i := by omega
 have hiz : (i : Int) < R.length := by omega
 have hqz : (q : Int) ≤ 8192 := by omega
 have hiqz : (i : Int) ≤ q := by omega
 have HROW := Lib.hid hrow
 have hltx := World.block_lt_of_cell? w _ x0
 obtain ⟨w0, hw0⟩ : ∃ w', w.alloc (.cells #[.string s, .slice (some ad) R.length a, .slice B L2 b] 99 (0, 0)) = w' := ⟨_, rfl⟩
 have hb0 : Below w.heap.size w w0 := hw0 ▸ (Below.refl _ _).alloc (Nat.le_refl _) _
 have hq0 : TxB w0 w.heap.size s (.slice (some ad) R.length a) (.slice B L2 b) := hw0 ▸ heap_alloc_new _ _
 obtain ⟨w1, hw1⟩ : ∃ w', w0.alloc (.cells #[.int .i64 0, .string ⟨#[]⟩, .int .i64 0, .int .i64 0] 60 (0, 0)) = w' := ⟨_, rfl⟩
 have hb1 : Below w0.heap.size w0 w1 := hw1 ▸ (Below.refl _ _).alloc (Nat.le_refl _) _
 have hz1 : w1.heap[w0.heap.size]? = some (.cells #[.int .i64 0, .string ⟨#[]⟩, .int .i64 0, .int .i64 0] 60 (0, 0)) := hw1 ▸ heap_alloc_new _ _
 have hq1 := (hb1.block _ (blk_lt hq0)).trans hq0
 have hb01 := hb0.trans (hb1.mono hb0.size)
 obtain ⟨K, hK⟩ : ∃ K, w.heap.size = K := ⟨_, rfl⟩
 obtain ⟨P, hP⟩ : ∃ P, w0.heap.size = P := ⟨_, rfl⟩
 have hKP : w.heap.size ≤ P := by rw [← hP]; exact hb0.size
 have HKP := Lib.hid hKP
 have H1 : Hid (TokW w K P s (some ad) a B b R.length L2 w1) := Lib.hid ⟨HT.out.below hb01, by rw [← hK]; exact hq1, by rw [← hP]; exact hz1, hb01⟩
 have x1 := (hb01.cell hltx).trans x0
 have HX1 := Lib.hid x1
 have HL1 := Lib.hid (Nat.lt_of_lt_of_le hltx hb01.size)
 obtain ⟨⟨y0, y1, y2⟩, _⟩ := blk3 H1.out.box
 have hlK := blk_lt H1.out.box
 clear hwn hq hrow x0 hltx hb0 hq0 hb1 hz1 hq1 hb01 hKP x1 HT hr
 go_enter Tryz.func59, Tryz.ntmps59
 go_wp2_with fail
 clear hw0 hw1 hK hP
 refine (HWD.out w1 H1.out.txt).mono ?_
 rintro e w2 ⟨rfl, hb2⟩
 have H2 := Lib.hid (H1.out.step hb2)
 have x2 := (hb2.cell HL1.out).trans HX1.out
 have hlx := Nat.lt_of_lt_of_le HL1.out hb2.size
 have HROW2 := Lib.hid ((HROW.out.keep (Same.of_below (M := []) H2.out.below)))
 clear y0 y1 y2 hlK hb2
 obtain ⟨⟨y0, y1, y2⟩, _⟩ := blk3 H2.out.box
 have hlK := blk_lt H2.out.box
 go_wp2_with fail
 refine (HC.out w2).mono ?_
 rintro e w3 ⟨rfl, rfl⟩
 go_wp2_with fail
 refine (HQU.out w2 H2.out.txt).mono ?_
 rintro e w4 ⟨rfl, hb4⟩
 have H4 := Lib.hid (H2.out.step hb4)
 clear y0 y1 y2 hlK hb4
 obtain ⟨⟨z0, z1, z2, z3⟩, g0, g1, g2, g3⟩ := blk4 H4.out.out
 have hlP := blk_lt H4.out.out
 go_wp2
 refine bodyPost_ret (v := .tuple #[.agg #[.int .i64 tk, .string tx, .int .i64 tn, .int .i64 ta], .int .i64 qn, .int .i64 qe]) (by simp [results, Tryz.results59, go_sem, *]) rfl ?_
 exact ⟨by rw [HX.out]; first | done | rfl, below_set4' H4.out.below HKP.out _ _ _ _⟩
set_option maxHeartbeats 16000000 in
set_option maxRecDepth 100000 in
theorem xtoken_0 (s : ByteArray) (A : Option Addr) (a : Nat) (B : Option Addr) (b : Nat) (i : Nat) (w : World) (h : Txt w s A a B b) (hi : i < (rv s.data.toList).length) (hc : cls (rv s.data.toList)[i] ≠ 2 ∧ cls (rv s.data.toList)[i] ≠ 3 ∧ cls (rv s.data.toList)[i] ≠ 5 ∧ cls (rv s.data.toList)[i] ≠ 4) :
  Calls Tryz.prog 59 #[txV s A a B b, .int .i64 i] w (TkPost (tokT (tokX (suf_ s i)) i) w) := by
 have hn := h.runes_le
 have hra := h.ra
 have hsz := h.size
 have HX := Lib.hid (tokI0 h.vd hi hc)
 generalize tokT (tokX (suf_ s i)) i = T at HX ⊢
 have HT := Lib.hid h
 have hwl := wordC_le ((rv s.data.toList).drop i)
 rw [List.length_drop] at hwl
 have HWD := Lib.hid (fun W (hW : Txt W s A a B b) => xword_any s A a B b i W hW (Nat.le_of_lt hi))
 have HPT := Lib.hid (fun (k : Nat) (W : World) (hW : Txt W s A a B b) (h1 : i ≤ k) (h2 : k ≤ (rv s.data.toList).length) => xpart_any s A a B b i k W hW h1 h2)
 have hrow := h.r
 unfold txV at HWD HPT ⊢
 generalize bw s.data.toList = BW at HX HPT
 generalize hRR : rv s.data.toList = R at *
 generalize hL2 : (plc s.data.toList).length = L2 at *
 clear h
 obtain ⟨n, hwn⟩ : ∃ n, wordC (R.drop i) = n := ⟨_, rfl⟩
 rw [hwn] at hwl HWD
 obtain ⟨q, hq⟩ : ∃ q, i + n = q := ⟨_, rfl⟩
 rw [hq] at HWD
 have hiq : i ≤ q := by omega
 have hqr : q ≤ R.length := by omega
 have HNQ := Lib.hid hq
 obtain ⟨ad, rfl⟩ := row_some hrow (by omega)
 obtain ⟨ad', e0, x0⟩ := int_at hrow i hi
 injection e0 with e0
 subst e0
 obtain ⟨r, hr⟩ : ∃ r, R[i] = r := ⟨_, rfl⟩
 rw [hr] at x0 hc
 obtain ⟨c, hcc⟩ : ∃ c, cls r = c := ⟨_, rfl⟩
 rw [hcc] at hc
 have HC : Hid (∀ W, Calls Tryz.prog 87 #[.int .i64 r] W fun e w' => e = .returned (.int .i64 c) ∧ W = w') := Lib.hid (fun W => by have := xclass_q r W; rwa [hcc] at this)
 have hc2 : (c == 2) = false := beqf hc.1
 have hc3 : (c == 3) = false := beqf hc.2.1
 have hc5 : (c == 5) = false := beqf hc.2.2.1
 have hc4 : (c == 4) = false := beqf hc.2.2.2
 clear hc hcc
 have hnz : (R.length : Int) ≤ 8192 := by omega
 have hraz : (R.length : Int) ≤ a := by omega
 have hi0 : (0 : Int) ≤ i := by omega
 have hiz : (i : Int) < R.length := by omega
 have hqz : (q : Int) ≤ 8192 := by omega
 have hiqz : (i : Int) ≤ q := by omega
 have HROW := Lib.hid hrow
 have hltx := World.block_lt_of_cell? w _ x0
 obtain ⟨w0, hw0⟩ : ∃ w', w.alloc (.cells #[.string s, .slice (some ad) R.length a, .slice B L2 b] 99 (0, 0)) = w' := ⟨_, rfl⟩
 have hb0 : Below w.heap.size w w0 := hw0 ▸ (Below.refl _ _).alloc (Nat.le_refl _) _
 have hq0 : TxB w0 w.heap.size s (.slice (some ad) R.length a) (.slice B L2 b) := hw0 ▸ heap_alloc_new _ _
 obtain ⟨w1, hw1⟩ : ∃ w', w0.alloc (.cells #[.int .i64 0, .string ⟨#[]⟩, .int .i64 0, .int .i64 0] 60 (0, 0)) = w' := ⟨_, rfl⟩
 have hb1 : Below w0.heap.size w0 w1 := hw1 ▸ (Below.refl _ _).alloc (Nat.le_refl _) _
 have hz1 : w1.heap[w0.heap.size]? = some (.cells #[.int .i64 0, .string ⟨#[]⟩, .int .i64 0, .int .i64 0] 60 (0, 0)) := hw1 ▸ heap_alloc_new _ _
 have hq1 := (hb1.block _ (blk_lt hq0)).trans hq0
 have hb01 := hb0.trans (hb1.mono hb0.size)
 obtain ⟨K, hK⟩ : ∃ K, w.heap.size = K := ⟨_, rfl⟩
 obtain ⟨P, hP⟩ : ∃ P, w0.heap.size = P := ⟨_, rfl⟩
 have hKP : w.heap.size ≤ P := by rw [← hP]; exact hb0.size
 have HKP := Lib.hid hKP
 have H1 : Hid (TokW w K P s (some ad) a B b R.length L2 w1) := Lib.hid ⟨HT.out.below hb01, by rw [← hK]; exact hq1, by rw [← hP]; exact hz1, hb01⟩
 have x1 := (hb01.cell hltx).trans x0
 have HX1 := Lib.hid x1
 have HL1 := Lib.hid (Nat.lt_of_lt_of_le hltx hb01.size)
 obtain ⟨⟨y0, y1, y2⟩, _⟩ := blk3 H1.out.box
 have hlK := blk_lt H1.out.box
 clear hwn hq hrow x0 hltx hb0 hq0 hb1 hz1 hq1 hb01 hKP x1 HT hr
 go_enter Tryz.func59, Tryz.ntmps59
 go_wp2_with fail
 clear hw0 hw1 hK hP
 refine (HWD.out w1 H1.out.txt).mono ?_
 rintro e w2 ⟨rfl, hb2⟩
 have H2 := Lib.hid (H1.out.step hb2)
 have x2 := (hb2.cell HL1.out).trans HX1.out
 have hlx := Nat.lt_of_lt_of_le HL1.out hb2.size
 have HROW2 := Lib.hid ((HROW.out.keep (Same.of_below (M := []) H2.out.below)))
 clear y0 y1 y2 hlK hb2
 obtain ⟨⟨y0, y1, y2⟩, _⟩ := blk3 H2.out.box
 have hlK := blk_lt H2.out.box
 go_wp2_with fail
 refine (HC.out w2).mono ?_
 rintro e w3 ⟨rfl, rfl⟩
 obtain ⟨⟨z0, z1, z2, z3⟩, g0, g1, g2, g3⟩ := blk4 H2.out.out
 have hlP := blk_lt H2.out.out
 go_wp2
 refine bodyPost_ret (v := .tuple #[.agg #[.int .i64 0, .string ⟨#[]⟩, .int .i64 0, .int .i64 0], .int .i64 0, .int .i64 11]) (by simp [results, Tryz.results59, go_sem, *]) rfl ?_
 exact ⟨by rw [HX.out]; first | done | rfl, below_set4' H2.out.below HKP.out _ _ _ _⟩
end Go.Proofs.YtgcfjkfipkfijaaGreatDoor
namespace Go.Proofs.YtgcfjkfipkfijaaGreatDoor
open Go Go.RowKit Go.Lib
set_option maxHeartbeats 16000000 in
set_option maxRecDepth 100000 in
theorem xtoken_4 (s : ByteArray) (A : Option Addr) (a : Nat) (B : Option Addr) (b : Nat) (i : Nat) (w : World) (h : Txt w s A a B b) (hi : i < (rv s.data.toList).length) (hc : cls (rv s.data.toList)[i] = 4) :
  Calls Tryz.prog 59 #[txV s A a B b, .int .i64 i] w (TkPost (tokT (tokX (suf_ s i)) i) w) := by
 have hn := h.runes_le
 have hra := h.ra
 have hsz := h.size
 obtain ⟨m, hm⟩ : ∃ m, m = if i + 1 < (rv s.data.toList).length ∧ (rv s.data.toList).getD (i + 1) 0 = 61 then (if isTwo (s.extract (bw s.data.toList i) (bw s.data.toList (i + 2))) then 2 else 1) else 1 := ⟨_, rfl⟩
 have HX := Lib.hid (tokI4 h.vd hi hc hm)
 generalize tokT (tokX (suf_ s i)) i = T at HX ⊢
 have HT := Lib.hid h
 have hwl := wordC_le ((rv s.data.toList).drop i)
 rw [List.length_drop] at hwl
 have HWD := Lib.hid (fun W (hW : Txt W s A a B b) => xword_any s A a B b i W hW (Nat.le_of_lt hi))
 have HPT := Lib.hid (fun (k : Nat) (W : World) (hW : Txt W s A a B b) (h1 : i ≤ k) (h2 : k ≤ (rv s.data.toList).length) => xpart_any s A a B b i k W hW h1 h2)
 have hrow := h.r
 unfold txV at HWD HPT ⊢
 generalize bw s.data.toList = BW at HX HPT hm
 generalize hRR : rv s.data.toList = R at *
 generalize hL2 : (plc s.data.toList).length = L2 at *
 clear h
 obtain ⟨n, hwn⟩ : ∃ n, wordC (R.drop i) = n := ⟨_, rfl⟩
 rw [hwn] at hwl HWD
 obtain ⟨q, hq⟩ : ∃ q, i + n = q := ⟨_, rfl⟩
 rw [hq] at HWD
 have hiq : i ≤ q := by omega
 have hqr : q ≤ R.length := by omega
 have HNQ := Lib.hid hq
 obtain ⟨ad, rfl⟩ := row_some hrow (by omega)
 obtain ⟨ad', e0, x0⟩ := int_at hrow i hi
 injection e0 with e0
 subst e0
 obtain ⟨r, hr⟩ : ∃ r, R[i] = r := ⟨_, rfl⟩
 rw [hr] at x0 hc
 have HC : Hid (∀ W, Calls Tryz.prog 87 #[.int .i64 r] W fun e w' => e = .returned (.int .i64 4) ∧ W = w') := Lib.hid (fun W => by have := xclass_q r W; rwa [hc] at this)
 obtain ⟨j, hj⟩ : ∃ j, i + 1 = j := ⟨_, rfl⟩
 obtain ⟨j2, hj2⟩ : ∃ j, i + 2 = j := ⟨_, rfl⟩
 have hjz : (i : Int) + 1 = (j : Int) := by omega
 have hjz2 : (i : Int) + 2 = (j2 : Int) := by omega
 have hjz3 : (j : Int) + 1 = (j2 : Int) := by omega
 rw [hj, hj2] at hm
 have HP1 := Lib.hid (fun W hW h2 => HPT.out j W hW (by omega) h2)
 have HP2 := Lib.hid (fun W hW h2 => HPT.out j2 W hW (by omega) h2)
 have HJ := Lib.hid (And.intro hj hj2)
 have HM := Lib.hid hm
 clear hm HPT hj hj2
 have hnz : (R.length : Int) ≤ 8192 := by omega
 have hraz : (R.length : Int) ≤ a := by omega
 have hi0 : (0 : Int) ≤ i := by omega
 have hiz : (i : Int) < R.length := by omega
 have hqz : (q : Int) ≤ 8192 := by omega
 have hiqz : (i : Int) ≤ q := by omega
 have HROW := Lib.hid hrow
 have hltx := World.block_lt_of_cell? w _ x0
 obtain ⟨w0, hw0⟩ : ∃ w', w.alloc (.cells #[.string s, .slice (some ad) R.length a, .slice B L2 b] 99 (0, 0)) = w' := ⟨_, rfl⟩
 have hb0 : Below w.heap.size w w0 := hw0 ▸ (Below.refl _ _).alloc (Nat.le_refl _) _
 have hq0 : TxB w0 w.heap.size s (.slice (some ad) R.length a) (.slice B L2 b) := hw0 ▸ heap_alloc_new _ _
 obtain ⟨w1, hw1⟩ : ∃ w', w0.alloc (.cells #[.int .i64 0, .string ⟨#[]⟩, .int .i64 0, .int .i64 0] 60 (0, 0)) = w' := ⟨_, rfl⟩
 have hb1 : Below w0.heap.size w0 w1 := hw1 ▸ (Below.refl _ _).alloc (Nat.le_refl _) _
 have hz1 : w1.heap[w0.heap.size]? = some (.cells #[.int .i64 0, .string ⟨#[]⟩, .int .i64 0, .int .i64 0] 60 (0, 0)) := hw1 ▸ heap_alloc_new _ _
 have hq1 := (hb1.block _ (blk_lt hq0)).trans hq0
 have hb01 := hb0.trans (hb1.mono hb0.size)
 obtain ⟨K, hK⟩ : ∃ K, w.heap.size = K := ⟨_, rfl⟩
 obtain ⟨P, hP⟩ : ∃ P, w0.heap.size = P := ⟨_, rfl⟩
 have hKP : w.heap.size ≤ P := by rw [← hP]; exact hb0.size
 have HKP := Lib.hid hKP
 have H1 : Hid (TokW w K P s (some ad) a B b R.length L2 w1) := Lib.hid ⟨HT.out.below hb01, by rw [← hK]; exact hq1, by rw [← hP]; exact hz1, hb01⟩
 have x1 := (hb01.cell hltx).trans x0
 have HX1 := Lib.hid x1
 have HL1 := Lib.hid (Nat.lt_of_lt_of_le hltx hb01.size)
 obtain ⟨⟨y0, y1, y2⟩, _⟩ := blk3 H1.out.box
 have hlK := blk_lt H1.out.box
 clear hwn hq hrow x0 hltx hb0 hq0 hb1 hz1 hq1 hb01 hKP x1 HT hr
 go_enter Tryz.func59, Tryz.ntmps59
 go_wp2_with fail
 clear hw0 hw1 hK hP
 refine (HWD.out w1 H1.out.txt).mono ?_
 rintro e w2 ⟨rfl, hb2⟩
 have H2 := Lib.hid (H1.out.step hb2)
 have x2 := (hb2.cell HL1.out).trans HX1.out
 have hlx := Nat.lt_of_lt_of_le HL1.out hb2.size
 have HROW2 := Lib.hid ((HROW.out.keep (Same.of_below (M := []) H2.out.below)))
 clear y0 y1 y2 hlK hb2
 obtain ⟨⟨y0, y1, y2⟩, _⟩ := blk3 H2.out.box
 have hlK := blk_lt H2.out.box
 go_wp2_with fail
 refine (HC.out w2).mono ?_
 rintro e w3 ⟨rfl, rfl⟩
 by_cases hl : j < R.length
 ·have hlz : (j : Int) < R.length := by omega
  have hj0 : (0 : Int) ≤ j := by omega
  obtain ⟨ad', e0, v0⟩ := int_at HROW2.out j hl
  injection e0 with e0
  subst e0
  have hltv := World.block_lt_of_cell? w2 _ v0
  obtain ⟨u, hu⟩ : ∃ u, R[j] = u := ⟨_, rfl⟩
  have hg : R.getD j 0 = u := by rw [List.getD_eq_getElem?_getD, List.getElem?_eq_getElem hl, hu]; rfl
  rw [hu] at v0
  by_cases h61 : u = 61
  ·have hm1 : m = if isTwo (s.extract (BW i) (BW j2)) then 2 else 1 := by rw [HM.out, if_pos ⟨hl, by rw [hg]; exact h61⟩]
   subst h61
   have HM1 := Lib.hid hm1
   clear hm1 hg hu
   go_wp2_with fail
   refine (HP2.out w2 H2.out.txt (by omega)).mono ?_
   rintro e w4 ⟨rfl, hb4⟩
   have H4 := Lib.hid (H2.out.step hb4)
   clear y0 y1 y2 hlK hb4 hltv v0
   obtain ⟨⟨y0, y1, y2⟩, _⟩ := blk3 H4.out.box
   have hlK := blk_lt H4.out.box
   obtain ⟨p2, hp2⟩ : ∃ p, s.extract (BW i) (BW j2) = p := ⟨_, rfl⟩
   have hm1 := HM1.out
   rw [hp2] at hm1 ⊢
   have HP2E := Lib.hid hp2
   have hI : isTwo p2 = (p2.toList == [60, 61] || (p2.toList == [62, 61] || (p2.toList == [61, 61] || (p2.toList == [33, 61] || p2.toList == [58, 61])))) := by unfold isTwo seq; rw [Lib.toList_data]
   have hw : ((((p2.toList == [60, 61]) = true) ∨ ((p2.toList == [60, 61]) = false ∧ (p2.toList == [62, 61]) = true) ∨ ((p2.toList == [60, 61]) = false ∧ (p2.toList == [62, 61]) = false ∧ (p2.toList == [61, 61]) = true) ∨ ((p2.toList == [60, 61]) = false ∧ (p2.toList == [62, 61]) = false ∧ (p2.toList == [61, 61]) = false ∧ (p2.toList == [33, 61]) = true) ∨ ((p2.toList == [60, 61]) = false ∧ (p2.toList == [62, 61]) = false ∧ (p2.toList == [61, 61]) = false ∧ (p2.toList == [33, 61]) = false ∧ (p2.toList == [58, 61]) = true)) ∧ m = 2) ∨ ((p2.toList == [60, 61]) = false ∧ (p2.toList == [62, 61]) = false ∧ (p2.toList == [61, 61]) = false ∧ (p2.toList == [33, 61]) = false ∧ (p2.toList == [58, 61]) = false ∧ m = 1) := by
    rw [hI] at hm1
    cases e1 : (p2.toList == [60, 61]) with
    | true => exact .inl ⟨.inl rfl, by rw [hm1, e1]; rfl⟩
    | false =>
    cases e2 : (p2.toList == [62, 61]) with
    | true => exact .inl ⟨.inr (.inl ⟨rfl, rfl⟩), by rw [hm1, e1, e2]; rfl⟩
    | false =>
    cases e3 : (p2.toList == [61, 61]) with
    | true => exact .inl ⟨.inr (.inr (.inl ⟨rfl, rfl, rfl⟩)), by rw [hm1, e1, e2, e3]; rfl⟩
    | false =>
    cases e4 : (p2.toList == [33, 61]) with
    | true => exact .inl ⟨.inr (.inr (.inr (.inl ⟨rfl, rfl, rfl, rfl⟩))), by rw [hm1, e1, e2, e3, e4]; rfl⟩
    | false =>
    cases e5 : (p2.toList == [58, 61]) with
    | true => exact .inl ⟨.inr (.inr (.inr (.inr (⟨rfl, rfl, rfl, rfl, rfl⟩)))), by rw [hm1, e1, e2, e3, e4, e5]; rfl⟩
    | false =>
    exact .inr ⟨rfl, rfl, rfl, rfl, rfl, by rw [hm1, e1, e2, e3, e4, e5]; rfl⟩
   clear hp2 hI hm1
   rcases hw with ⟨hw, hm2⟩ | ⟨e1, e2, e3, e4, e5, hm1⟩
   ·have HE : Hid (T = (⟨4, p2, 0, i⟩, (j2 : Int), 0)) := Lib.hid (by rw [HX.out, hm2, HJ.out.2, HP2E.out])
    clear hm2
    rcases hw with e1 | ⟨e1, e2⟩ | ⟨e1, e2, e3⟩ | ⟨e1, e2, e3, e4⟩ | ⟨e1, e2, e3, e4, e5⟩
    all_goals
     go_wp2_with fail
     refine (HP2.out w4 H4.out.txt (by omega)).mono ?_
     rw [HP2E.out]
     rintro e w5 ⟨rfl, hb5⟩
     have H5 := Lib.hid (H4.out.step hb5)
     clear y0 y1 y2 hlK hb5
     obtain ⟨⟨z0, z1, z2, z3⟩, g0, g1, g2, g3⟩ := blk4 H5.out.out
     have hlP := blk_lt H5.out.out
     go_wp2
     refine bodyPost_ret (v := .tuple #[.agg #[.int .i64 4, .string p2, .int .i64 0, .int .i64 i], .int .i64 j2, .int .i64 0]) (by simp [results, Tryz.results59, go_sem, *]) rfl ?_
     exact ⟨by rw [HE.out]; first | done | rfl, below_set4' H5.out.below HKP.out _ _ _ _⟩
   ·have HE : Hid (T = (⟨4, s.extract (BW i) (BW j), 0, i⟩, (j : Int), 0)) := Lib.hid (by rw [HX.out, hm1, HJ.out.1])
    clear hm1
    go_wp2_with fail
    refine (HP1.out w4 H4.out.txt (by omega)).mono ?_
    rintro e w5 ⟨rfl, hb5⟩
    have H5 := Lib.hid (H4.out.step hb5)
    clear y0 y1 y2 hlK hb5
    generalize s.extract (BW i) (BW j) = tx at HE ⊢
    obtain ⟨⟨z0, z1, z2, z3⟩, g0, g1, g2, g3⟩ := blk4 H5.out.out
    have hlP := blk_lt H5.out.out
    go_wp2
    refine bodyPost_ret (v := .tuple #[.agg #[.int .i64 4, .string tx, .int .i64 0, .int .i64 i], .int .i64 j, .int .i64 0]) (by simp [results, Tryz.results59, go_sem, *]) rfl ?_
    exact ⟨by rw [HE.out]; first | done | rfl, below_set4' H5.out.below HKP.out _ _ _ _⟩
  ·have hm1 : m = 1 := by rw [HM.out, if_neg (by rw [hg]; exact fun e => h61 e.2)]
   have h61b : (u == 61) = false := beqf h61
   have HE : Hid (T = (⟨4, s.extract (BW i) (BW j), 0, i⟩, (j : Int), 0)) := Lib.hid (by rw [HX.out, hm1, HJ.out.1])
   clear hm1 hg hu h61
   go_wp2_with fail
   refine (HP1.out w2 H2.out.txt (by omega)).mono ?_
   rintro e w4 ⟨rfl, hb4⟩
   have H4 := Lib.hid (H2.out.step hb4)
   clear y0 y1 y2 hlK hb4
   generalize s.extract (BW i) (BW j) = tx at HE ⊢
   obtain ⟨⟨z0, z1, z2, z3⟩, g0, g1, g2, g3⟩ := blk4 H4.out.out
   have hlP := blk_lt H4.out.out
   go_wp2
   refine bodyPost_ret (v := .tuple #[.agg #[.int .i64 4, .string tx, .int .i64 0, .int .i64 i], .int .i64 j, .int .i64 0]) (by simp [results, Tryz.results59, go_sem, *]) rfl ?_
   exact ⟨by rw [HE.out]; first | done | rfl, below_set4' H4.out.below HKP.out _ _ _ _⟩
 ·have hm1 : m = 1 := by rw [HM.out, if_neg (fun e => hl e.1)]
  have hlz : (R.length : Int) ≤ j := by omega
  have HE : Hid (T = (⟨4, s.extract (BW i) (BW j), 0, i⟩, (j : Int), 0)) := Lib.hid (by rw [HX.out, hm1, HJ.out.1])
  clear hm1 hl
  go_wp2_with fail
  refine (HP1.out w2 H2.out.txt (by omega)).mono ?_
  rintro e w4 ⟨rfl, hb4⟩
  have H4 := Lib.hid (H2.out.step hb4)
  clear y0 y1 y2 hlK hb4
  generalize s.extract (BW i) (BW j) = tx at HE ⊢
  obtain ⟨⟨z0, z1, z2, z3⟩, g0, g1, g2, g3⟩ := blk4 H4.out.out
  have hlP := blk_lt H4.out.out
  go_wp2
  refine bodyPost_ret (v := .tuple #[.agg #[.int .i64 4, .string tx, .int .i64 0, .int .i64 i], .int .i64 j, .int .i64 0]) (by simp [results, Tryz.results59, go_sem, *]) rfl ?_
  exact ⟨by rw [HE.out]; first | done | rfl, below_set4' H4.out.below HKP.out _ _ _ _⟩
theorem xlex_any (s : ByteArray) (A : Option Addr) (a : Nat) (B : Option Addr) (b : Nat) (i : Nat) (w : World) (h : Txt w s A a B b) (hi : i < (rv s.data.toList).length) :
  Calls Tryz.prog 59 #[txV s A a B b, .int .i64 i] w (TkPost (tokT (tokX (suf_ s i)) i) w) := by
 by_cases h2 : cls (rv s.data.toList)[i] = 2
 ·exact xtoken_2 s A a B b i w h hi h2
 ·by_cases h3 : cls (rv s.data.toList)[i] = 3
  ·exact xtoken_3 s A a B b i w h hi h3
  ·by_cases h5 : cls (rv s.data.toList)[i] = 5
   ·exact xtoken_5 s A a B b i w h hi h5
   ·by_cases h4 : cls (rv s.data.toList)[i] = 4
    ·exact xtoken_4 s A a B b i w h hi h4
    ·exact xtoken_0 s A a B b i w h hi ⟨h2, h3, h5, h4⟩
end Go.Proofs.YtgcfjkfipkfijaaGreatDoor
namespace Go.Proofs.YtgcfjkfipkfijaaGreatDoor
open Go Go.RowKit Go.Lib
theorem rowsOk_bad : ∀ (rs : List (Nat × Nat)) (k : Int) (p : Nat), rowsOk rs = false → badF k rs = k + (rowsF rs p).length
 | [], _, _, h => by cases h
 | r :: rs, k, p, h => by
  rw [rowsOk] at h
  rw [badF, rowsF]
  by_cases e : r = (65533, 1)
  ·rw [if_pos e, if_pos e]; simp
  ·rw [if_neg e] at h
   rw [if_neg e, if_neg e, rowsOk_bad rs (k + 1) (p + r.2) h, List.length_cons]
   omega
theorem rowsOk_vd {l : List UInt8} (h : rowsOk (runes l) = true) : Vd l := by
 rw [rowsOk_valid, List.all_eq_true] at h
 intro x hx e
 have := h x hx
 rw [e] at this
 simp at this
theorem suf_len {s : ByteArray} (i : Nat) : (suf_ s i).length = s.size - bw s.data.toList i := by unfold suf_; rw [List.length_drop, size_data]
theorem suf_end {s : ByteArray} (hv : Vd s.data.toList) : suf_ s (rv s.data.toList).length = [] := by
 unfold suf_
 rw [rv_len, bw_all hv, List.drop_length]
theorem tokT_ok {x : Tok × Nat × Int} {i : Nat} (h : x.2.2 = 0) : tokT x i = ({ x.1 with at_ := (i : Int) }, ((i + x.2.1 : Nat) : Int), 0) := if_pos h
theorem tokT_bad {x : Tok × Nat × Int} {i : Nat} (h : x.2.2 ≠ 0) : tokT x i = (zTok, 0, x.2.2) := if_neg h
theorem info_tok : (Tryz.prog.info? 60).map (fun i => (i.zero, i.size, i.bytes)) = some (some (.agg #[.int .i64 0, .string ⟨#[]⟩, .int .i64 0, .int .i64 0]), 4, 40) := by kernel_rfl
theorem bw_pos {l : List UInt8} (hl : l ≠ []) {k : Nat} (h : 1 ≤ k) : 1 ≤ bw l k := by
 obtain ⟨d, rfl⟩ : ∃ d, k = d + 1 := ⟨k - 1, by omega⟩
 have := decodeL_width l
 rw [bw_succ hl]
 omega
theorem cutI_step {s : ByteArray} (hv : Vd s.data.toList) {f i : Nat} {out : List Tok} (h : i < (rv s.data.toList).length) (ho : out.length ≠ 2000) {t : Tok} {cnt : Nat} (hx : tokX (suf_ s i) = (t, cnt, 0)) :
  i + cnt ≤ (rv s.data.toList).length ∧ (suf_ s (i + cnt + pastN false ((rv s.data.toList).drop (i + cnt)))).length < (suf_ s i).length ∧
   cutG (f + 1) (suf_ s i) i out = cutG f (suf_ s (i + cnt + pastN false ((rv s.data.toList).drop (i + cnt)))) ((i + cnt + pastN false ((rv s.data.toList).drop (i + cnt)) : Nat) : Int) (out ++ [{ t with at_ := (i : Int) }]) := by
 have hne := suf_ne hv h
 obtain ⟨hvx, hrx⟩ := sufx hv (Nat.le_of_lt h)
 obtain ⟨_, h2, h3⟩ := (tokX_is hne hvx).len (by rw [hx])
 rw [hx] at h2 h3
 simp only at h2 h3
 have hlen := rv_len (suf_ s i)
 rw [hrx, List.length_drop] at hlen
 have hj : i + cnt ≤ (rv s.data.toList).length := by omega
 have hp := pastN_le ((rv s.data.toList).drop (i + cnt)) false
 rw [List.length_drop] at hp
 obtain ⟨a1, a2⟩ := suf_add hv (k := cnt) (Nat.le_of_lt h)
 obtain ⟨b1, b2⟩ := suf_add hv (k := pastN false ((rv s.data.toList).drop (i + cnt))) hj
 have hb := bw_pos hne h2
 have hpos : 0 < (suf_ s i).length := List.length_pos_iff.2 hne
 refine ⟨hj, ?_, ?_⟩
 ·rw [suf_len] at hpos ⊢
  rw [suf_len]
  omega
 ·rw [cutX_step hne hvx ho (by rw [hx]), hx]
  simp only
  rw [← a2, (sufx hv hj).2, ← b2]
  rw [show (i : Int) + (cnt : Int) + (pastN false ((rv s.data.toList).drop (i + cnt)) : Int) = ((i + cnt + pastN false ((rv s.data.toList).drop (i + cnt)) : Nat) : Int) by omega]
structure CutW (s : ByteArray) (w1 : World) (K : Nat) (A : Option Addr) (a : Nat) (B : Option Addr) (b L1 L2 : Nat) (base : Nat) (out : List Tok) (v : Value) (W : World) : Prop where
 txt : Txt W s A a B b
 box : TxB W K s (.slice A L1 a) (.slice B L2 b)
 own : W.ownsRow base 60 4 v out.length (out.flatMap tokE)
 below : Below base w1 W
theorem CutW.step {s : ByteArray} {w1 W W' : World} {K : Nat} {A : Option Addr} {a : Nat} {B : Option Addr} {b L1 L2 base : Nat} {out : List Tok} {v : Value} (h : CutW s w1 K A a B b L1 L2 base out v W) (hb : Below W.heap.size W W') (hs : base ≤ W.heap.size) : CutW s w1 K A a B b L1 L2 base out v W' :=
 ⟨h.txt.below hb, (hb.block K (blk_lt h.box)).trans h.box, own_below h.own hb, h.below.trans (hb.mono hs)⟩
set_option maxHeartbeats 16000000 in
set_option maxRecDepth 100000 in
theorem xcut_any (s : ByteArray) (w : World) (hs : s.size ≤ 9223372036854775806) : Calls Tryz.prog 32 #[.string s] w (CutPost s w) := by
 by_cases h1 : 8192 < s.size
 ·have hz : (8192 : Int) < s.size := by omega
  have HX : Hid (cutB s = ([], 2, 0)) := by unfold cutB; rw [if_pos h1]; exact rfl
  clear h1
  go_enter Tryz.func32, Tryz.ntmps32
  go_wp2_with fail
  refine bodyPost_ret (results_tmp3 rfl _ _ _) rfl ?_
  exact cutPost_bad HX.out (Below.refl _ _)
 have hz : (s.size : Int) ≤ 8192 := by omega
 have hs8 : s.size ≤ 8192 := by omega
 have HRU := Lib.hid (xrunes_any s w (by omega))
 clear hs
 go_enter Tryz.func32, Tryz.ntmps32
 go_wp2_with fail
 refine HRU.out.mono ?_
 rintro r w1 ⟨R, Z, A, a, B, b, ok, hR, hZ, hok, rfl, hla, hlb, hra, hrb, hb1⟩
 have HB1 := Lib.hid hb1
 obtain ⟨w2, hw2⟩ : ∃ w', w1.alloc (.cells #[.string s, .slice A R.length a, .slice B Z.length b] 99 (0, 0)) = w' := ⟨_, rfl⟩
 have hb2 : Below w1.heap.size w1 w2 := hw2 ▸ (Below.refl _ _).alloc (Nat.le_refl _) _
 have hq2 : TxB w2 w1.heap.size s (.slice A R.length a) (.slice B Z.length b) := hw2 ▸ heap_alloc_new _ _
 have HB2 := Lib.hid (HB1.out.trans (hb2.mono HB1.out.size))
 cases ok
 ·have HX : Hid (cutB s = ([], 10, (R.length : Int))) := Lib.hid (by
   have hbad := rowsOk_bad (runes s.data.toList) 0 0 hok.symm
   rw [← hR, Int.zero_add] at hbad
   unfold cutB
   rw [if_neg h1, hbad, if_pos (by omega)])
  obtain ⟨⟨y0, y1, y2⟩, _⟩ := blk3 hq2
  have hlK := blk_lt hq2
  have hmz : (R.length : Int) ≤ 9223372036854775807 := by have := hra.1; omega
  clear hR hZ hok hla hlb hra hrb hb1 hb2 hq2 HRU h1
  go_wp2_with fail
  go_quiet (fail)
  go_wp2_with fail
  refine bodyPost_ret (results_tmp3 rfl _ _ _) rfl ?_
  exact cutPost_bad HX.out (below_drewN HB2.out _)
 ·have hv : Vd s.data.toList := rowsOk_vd hok.symm
  have hR2 : R = rv s.data.toList := by rw [hR]; exact rowsF_ok _ 0 hok.symm
  have hZ2 : Z = plc s.data.toList := hZ
  subst hR2 hZ2
  have HTX : Hid (Txt w2 s A a B b) := Lib.hid ⟨hv, hs8, hra.keep (Same.of_below hb2), hla, hrb.keep (Same.of_below hb2), hlb⟩
  have HV := Lib.hid hv
  obtain ⟨ANS, hANS⟩ : ∃ x, cutB s = x := ⟨_, rfl⟩
  have HX : Hid (cutG (s.size + 1) (suf_ s (pastN false (rv s.data.toList))) (pastN false (rv s.data.toList) : Nat) [] = ANS) := Lib.hid (by
   rw [← hANS]
   unfold cutB
   rw [if_neg h1, if_neg (by rw [badF_ok _ _ hv]; decide), skip_is _ _ hv]
   simp only [Int.zero_add]
   rfl)
  have HANS := Lib.hid hANS
  have HPA := Lib.hid (fun i W (hW : Txt W s A a B b) hi => xpast_any s A a B b i W hW hi)
  have HTK := Lib.hid (fun i W (hW : Txt W s A a B b) hi => xlex_any s A a B b i W hW hi)
  have hn := HTX.out.runes_le
  unfold txV at HPA HTK
  obtain ⟨K, hK⟩ : ∃ K, w1.heap.size = K := ⟨_, rfl⟩
  have H0 : Hid (CutW s w2 K A a B b (rv s.data.toList).length (plc s.data.toList).length w2.heap.size [] (.slice none 0 0) w2) := Lib.hid ⟨HTX.out, by rw [← hK]; exact hq2, ⟨rfl, .inl ⟨rfl, rfl⟩⟩, Below.refl _ _⟩
  obtain ⟨⟨y0, y1, y2⟩, _⟩ := blk3 H0.out.box
  have hlK := blk_lt H0.out.box
  have HP0 := HPA.out 0 w2 HTX.out (Nat.zero_le _)
  rw [Nat.zero_add, List.drop_zero, show ((0 : Nat) : Int) = 0 from rfl] at HP0
  have HPP := Lib.hid HP0
  have hp0 := pastN_le (rv s.data.toList) false
  obtain ⟨p0, hpp⟩ : ∃ p, pastN false (rv s.data.toList) = p := ⟨_, rfl⟩
  rw [hpp] at HX HPP hp0
  clear hR hZ hok hla hlb hra hrb hb1 hb2 hq2 HRU h1 hv hANS HP0 hpp
  go_wp2_with fail
  clear hw2 hK
  refine HPP.out.mono ?_
  rintro e w3 ⟨rfl, hb3⟩
  have H3 := Lib.hid (H0.out.step hb3 (Nat.le_refl _))
  have hs3 := hb3.size
  clear y0 y1 y2 hlK hb3
  go_wp2_with fail
  go_loopg [7, 8] (s.size + 1) (fun k s7 s8 w' => ∃ (i : Nat) (V : Option Addr) (c : Nat) (out : List Tok), s8 = .int .i64 i ∧ s7 = .slice V out.length c ∧ i ≤ (rv s.data.toList).length ∧ out.length ≤ 2000 ∧ (suf_ s i).length < k ∧ w2.heap.size ≤ w'.heap.size ∧
   CutW s w2 K A a B b (rv s.data.toList).length (plc s.data.toList).length w2.heap.size out (.slice V out.length c) w' ∧ cutG k (suf_ s i) i out = ANS)
  case atStart => exact ⟨p0, none, 0, [], rfl, rfl, hp0, by simp, by rw [suf_len]; omega, hs3, H3.out, HX.out⟩
  case round =>
   obtain ⟨i, V, c, out, rfl, rfl, hi, ho, hik, hsr, hcw, hans⟩ := hrel
   obtain ⟨gk, rfl⟩ : ∃ k, gk = k + 1 := ⟨gk - 1, by omega⟩
   have H := Lib.hid hcw
   have HA := Lib.hid hans
   have hi0 : (0 : Int) ≤ i := by omega
   have hnz : ((rv s.data.toList).length : Int) ≤ 8192 := by omega
   have hoz : (out.length : Int) ≤ 2000 := by omega
   obtain ⟨⟨y0, y1, y2⟩, _⟩ := blk3 hcw.box
   have hlK := blk_lt hcw.box
   clear hcw hans HX HPP
   by_cases hlt : i < (rv s.data.toList).length
   ·have hltz : (i : Int) < (rv s.data.toList).length := by omega
    have hne := suf_ne HV.out hlt
    have HNE := Lib.hid hne
    have hvx := (sufx HV.out (Nat.le_of_lt hlt)).1
    have HVX := Lib.hid hvx
    by_cases hout : out.length = 2000
    ·have hob : ((out.length : Int) == 2000) = true := beq_iff_eq.2 (by omega)
     have HE : Hid (cutB s = ([], 2, (i : Int))) := Lib.hid (by rw [HANS.out, ← HA.out, cutG_many hne hout])
     clear hne hvx hout
     go_wp2_with fail
     refine bodyPost_ret (results_tmp3 rfl _ _ _) rfl ?_
     exact cutPost_bad HE.out (HB2.out.trans (H.out.below.mono HB2.out.size))
    ·have hob : ((out.length : Int) == 2000) = false := beqf (by omega)
     obtain ⟨⟨⟨tk, tx, tn, ta⟩, cnt, te⟩, hx⟩ : ∃ x, tokX (suf_ s i) = x := ⟨_, rfl⟩
     have hst := HTK.out i wr H.out.txt hlt
     rw [hx] at hst
     by_cases he : te = 0
     ·subst he
      rw [tokT_ok rfl] at hst
      obtain ⟨s1, s2, s3⟩ := cutI_step (f := gk) HV.out hlt hout hx
      rw [HA.out] at s3
      obtain ⟨j, hj⟩ : ∃ j, i + cnt = j := ⟨_, rfl⟩
      unfold TkPost at hst
      simp only at hst
      rw [hj] at s1 s2 s3 hst
      have hpl := pastN_le ((rv s.data.toList).drop j) false
      rw [List.length_drop] at hpl
      obtain ⟨i2, hi2⟩ : ∃ k, j + pastN false ((rv s.data.toList).drop j) = k := ⟨_, rfl⟩
      have HPS : Hid (∀ W, Txt W s A a B b → Calls Tryz.prog 58 #[.agg #[.string s, .slice A (rv s.data.toList).length a, .slice B (plc s.data.toList).length b], .int .i64 j] W fun r w' => r = .returned (.int .i64 i2) ∧ Below W.heap.size W w') := Lib.hid (fun W hW => by have := HPA.out j W hW s1; rwa [hi2] at this)
      rw [hi2] at s2 s3
      have hi2n : i2 ≤ (rv s.data.toList).length := by omega
      have HST := Lib.hid hst
      have HS3 := Lib.hid s3.symm
      have HS2 := Lib.hid s2
      clear hne hvx hx hst s3 s2 hj hi2 hpl s1
      go_wp2_with fail
      refine HST.out.mono ?_
      rintro r w4 ⟨rfl, hb4⟩
      have H4 := Lib.hid (H.out.step hb4 hsr)
      have hs4 : w2.heap.size ≤ w4.heap.size := Nat.le_trans hsr hb4.size
      clear y0 y1 y2 hlK hb4
      obtain ⟨w5, hw5⟩ : ∃ w', w4.alloc (.cells #[.int .i64 tk, .string tx, .int .i64 tn, .int .i64 i] 60 (0, 0)) = w' := ⟨_, rfl⟩
      have hb5 : Below w4.heap.size w4 w5 := hw5 ▸ (Below.refl _ _).alloc (Nat.le_refl _) _
      have hq5 : w5.heap[w4.heap.size]? = some (.cells #[.int .i64 tk, .string tx, .int .i64 tn, .int .i64 i] 60 (0, 0)) := hw5 ▸ heap_alloc_new _ _
      have H5 := Lib.hid (H4.out.step hb5 hs4)
      have hs5 : w2.heap.size ≤ w5.heap.size := Nat.le_trans hs4 hb5.size
      obtain ⟨⟨z0, z1, z2, z3⟩, _⟩ := blk4' hq5
      have hl5 := blk_lt hq5
      obtain ⟨i0, hi0', hz0, hz1, hz2⟩ := info_parts info_tok
      clear hb5 hq5
      go_wp2_with (at_builtin; refine wpList_append_lies _ (by rfl) _ _ _ (by rfl) w2.heap.size 60 i0 _ 4 40 Tryz.underlying46 hi0' hz0 hz1 hz2 rfl (by omega) (.slice V out.length c) out.length (out.flatMap tokE) (by rfl) (H5.out.own.alloc _) ⟨w5.heap.size, 0, none⟩ 1 1 [.int .i64 tk, .string tx, .int .i64 tn, .int .i64 i] (by rfl) (by rfl) (World.news_of_block (cs := #[.int .i64 tk, .string tx, .int .i64 tn, .int .i64 i]) (t := 60) (fr := (0, 0)) (heap_alloc_new w5 _)) (by simp [Value.oneCell']) (by omega) (by unfold maxLen; omega) (by omega) (by simp; omega) (w5.heap.size + 1) (by simp) ?_; intro g cap w6 hown6 hgrow hat hlt6; refine Hid.out ?_)
      refine Lib.hid ?_
      have hS6 : Same [] w2 w6 := ((Same.of_below (M := []) H5.out.below).alloc _).grown hgrow (fun k hk => .inr (own_block H5.out.own k hk).1)
      have hb6 := hS6.below
      have hl1 : (out ++ [(⟨tk, tx, tn, i⟩ : Tok)]).length = out.length + 1 := by simp
      have H6 : Hid (CutW s w2 K A a B b (rv s.data.toList).length (plc s.data.toList).length w2.heap.size (out ++ [(⟨tk, tx, tn, i⟩ : Tok)]) (.slice (some ⟨g, 0, none⟩) (out ++ [(⟨tk, tx, tn, i⟩ : Tok)]).length cap) w6) := Lib.hid ⟨HTX.out.below hb6, (hb6.block K (blk_lt H0.out.box)).trans H0.out.box, by rw [List.flatMap_append, hl1]; exact hown6, hb6⟩
      have hs6 := hb6.size
      clear hS6 hb6 hown6 hgrow hat hlt6 z0 z1 z2 z3 hl5 hw5 hs4 hs5 hi0' hz0 hz1 hz2
      obtain ⟨⟨y0, y1, y2⟩, _⟩ := blk3 H6.out.box
      have hlK := blk_lt H6.out.box
      go_wp2_with fail
      refine (HPS.out w6 H6.out.txt).mono ?_
      rintro r w7 ⟨rfl, hb7⟩
      have H7 := Lib.hid (H6.out.step hb7 hs6)
      have hs7 := Nat.le_trans hs6 hb7.size
      clear y0 y1 y2 hlK hb7
      go_wp2_with fail
      go_roundg gk
      case measure => omega
      case rel => exact ⟨i2, some ⟨g, 0, none⟩, cap, out ++ [⟨tk, tx, tn, i⟩], rfl, by rw [hl1], hi2n, by rw [hl1]; omega, by have := HS2.out; omega, hs7, H7.out, HS3.out⟩
     ·have hE := cutX_bad (f := gk) (a := (i : Int)) (out := out) hne hvx hout (by rw [hx]; exact he)
      rw [hx, HA.out] at hE
      have HE : Hid (cutB s = ([], te, (i : Int))) := Lib.hid (by rw [HANS.out, hE])
      rw [tokT_bad (x := (⟨tk, tx, tn, ta⟩, cnt, te)) he] at hst
      unfold TkPost zTok at hst
      simp only at hst
      have HST := Lib.hid hst
      have heb : (te != 0) = true := bnet he
      clear hne hvx hx hst hE he
      go_wp2_with fail
      refine HST.out.mono ?_
      rintro r w4 ⟨rfl, hb4⟩
      have H4 := Lib.hid (H.out.step hb4 hsr)
      have hs4 : w2.heap.size ≤ w4.heap.size := Nat.le_trans hsr hb4.size
      clear y0 y1 y2 hlK hb4
      go_wp2_with fail
      refine bodyPost_ret (results_tmp3 rfl _ _ _) rfl ?_
      exact cutPost_bad HE.out (HB2.out.trans ((H4.out.below.alloc hs4 _).mono HB2.out.size))
   ·obtain rfl : i = (rv s.data.toList).length := by omega
    have hE := HA.out
    rw [suf_end HV.out, cutG_end] at hE
    have HE : Hid (cutB s = (out ++ [⟨0, ⟨#[]⟩, 0, ((rv s.data.toList).length : Int)⟩], 0, 0)) := Lib.hid (by rw [HANS.out, hE])
    have hnl : ¬ (((rv s.data.toList).length : Int) < (rv s.data.toList).length) := by omega
    obtain ⟨i0, hi0', hz0, hz1, hz2⟩ := info_parts info_tok
    obtain ⟨n, hnn⟩ : ∃ n, (rv s.data.toList).length = n := ⟨_, rfl⟩
    clear hE
    go_wp2_with (at_builtin; refine wpList_append_lies _ (by rfl) _ _ _ (by rfl) w2.heap.size 60 i0 _ 4 40 Tryz.underlying46 hi0' hz0 hz1 hz2 rfl (by omega) (.slice V out.length c) out.length (out.flatMap tokE) (by rfl) (H.out.own.alloc _) ⟨wr.heap.size, 0, none⟩ 1 1 [.int .i64 0, .string ⟨#[]⟩, .int .i64 0, .int .i64 n] (by rfl) (by rfl) (World.news_of_block (cs := #[.int .i64 0, .string ⟨#[]⟩, .int .i64 0, .int .i64 n]) (t := 60) (fr := (0, 0)) (heap_alloc_new wr _)) (by simp [Value.oneCell']) (by omega) (by unfold maxLen; omega) (by omega) (by simp; omega) (wr.heap.size + 1) (by simp) ?_; intro g cap w6 hown6 hgrow hat hlt6; refine Hid.out ?_)
    refine Lib.hid ?_
    have hS6 : Same [] w2 w6 := ((Same.of_below (M := []) H.out.below).alloc _).grown hgrow (fun k hk => .inr (own_block H.out.own k hk).1)
    have HW6 := Lib.hid (HB2.out.trans (hS6.below.mono HB2.out.size))
    have ho6 : w6.ownsRow w2.heap.size 60 4 (.slice (some ⟨g, 0, none⟩) (out.length + 1) cap) (out ++ [(⟨0, ⟨#[]⟩, 0, (n : Int)⟩ : Tok)]).length ((out ++ [(⟨0, ⟨#[]⟩, 0, (n : Int)⟩ : Tok)]).flatMap tokE) := by
     rw [List.flatMap_append, List.length_append]
     exact hown6
    have HO6 := Lib.hid ho6
    have HE2 : Hid (cutB s = (out ++ [⟨0, ⟨#[]⟩, 0, (n : Int)⟩], 0, 0)) := Lib.hid (by rw [← hnn]; exact HE.out)
    clear hS6 ho6 hown6 hgrow hat hlt6 y0 y1 y2 hlK hi0' hz0 hz1 hz2
    go_wp2_with fail
    refine bodyPost_ret (results_tmp3 rfl _ _ _) rfl ?_
    exact cutPost_ok HE2.out HO6.out HB2.out.size HW6.out
end Go.Proofs.YtgcfjkfipkfijaaGreatDoor
namespace Go.Proofs.YtgcfjkfipkfijaaGreatDoor
open Go Go.RowKit Go.Lib
theorem cutG_len : ∀ (f : Nat) (l : List UInt8) (a : Int) (out : List Tok), out.length ≤ 2000 → (cutG f l a out).1.length ≤ 2001
 | 0, _, _, _, _ => by simp [cutG]
 | f + 1, l, a, out, h => by
  by_cases hl : l = []
  ·subst hl; rw [cutG_end]; simp; omega
  ·by_cases ho : out.length = 2000
   ·rw [cutG_many hl ho]; simp
   ·by_cases he : (tokF l).2.2 = 0
    ·rw [cutG_step hl ho he]
     exact cutG_len f _ _ _ (by simp; omega)
    ·rw [cutG_bad hl ho he]; simp
theorem cutB_len (s : ByteArray) : (cutB s).1.length ≤ 2001 := by
 unfold cutB
 split
 ·simp
 ·split
  ·simp
  ·exact cutG_len _ _ _ _ (by simp)
end Go.Proofs.YtgcfjkfipkfijaaGreatDoor
