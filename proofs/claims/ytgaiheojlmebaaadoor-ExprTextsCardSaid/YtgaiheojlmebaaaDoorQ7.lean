/- Walks: the reference's token. -/
import Derived.Test.YtgaiheojlmebaaaDoorQ6
namespace Go.Proofs.YtgaiheojlmebaaaDoor
open Go Go.RowKit Go.Lib

theorem head_at {s : ByteArray} (hv : Vd s.data.toList) {i : Nat} (h : i < (rv s.data.toList).length) : (rv (suf_ s i)).getD 0 0 = (rv s.data.toList)[i] := by
  rw [(sufx hv (Nat.le_of_lt h)).2, List.getD_eq_getElem?_getD, List.getElem?_drop, Nat.add_zero, List.getElem?_eq_getElem h]
  rfl
section
variable {s : ByteArray} (hv : Vd s.data.toList) {i : Nat} (h : i < (rv s.data.toList).length)
include hv h
theorem tokI2 (hc : cls (rv s.data.toList)[i] = 2) : tokT (tokX (suf_ s i)) i = if 12 < wordC ((rv s.data.toList).drop i) then (zTok, 0, 2) else (⟨1, s.extract (bw s.data.toList i) (bw s.data.toList (i + wordC ((rv s.data.toList).drop i))), 0, i⟩, ((i + wordC ((rv s.data.toList).drop i) : Nat) : Int), 0) := by
  have e : tokX (suf_ s i) = if 12 < wordC ((rv s.data.toList).drop i) then (zTok, 0, 2) else (⟨1, partX (suf_ s i) (wordC ((rv s.data.toList).drop i)), 0, 0⟩, wordC ((rv s.data.toList).drop i), 0) := by
    unfold tokX
    simp only
    rw [head_at hv h, hc, if_pos rfl, (sufx hv (Nat.le_of_lt h)).2]
  rw [e, ext_part hv (Nat.le_of_lt h)]
  unfold tokT
  by_cases h12 : 12 < wordC ((rv s.data.toList).drop i)
  · rw [if_pos h12, if_pos h12]; exact if_neg (by decide)
  · rw [if_neg h12, if_neg h12]; exact if_pos rfl
theorem tokI3 (hc : cls (rv s.data.toList)[i] = 3) {p : ByteArray} (hp : s.extract (bw s.data.toList i) (bw s.data.toList (i + wordC ((rv s.data.toList).drop i))) = p) :
    tokT (tokX (suf_ s i)) i = if (numS p).2 then (⟨2, p, (numS p).1, i⟩, ((i + wordC ((rv s.data.toList).drop i) : Nat) : Int), 0) else (zTok, 0, 11) := by
  subst hp
  have e : tokX (suf_ s i) = if (numS (partX (suf_ s i) (wordC ((rv s.data.toList).drop i)))).2 then (⟨2, partX (suf_ s i) (wordC ((rv s.data.toList).drop i)), (numS (partX (suf_ s i) (wordC ((rv s.data.toList).drop i)))).1, 0⟩, wordC ((rv s.data.toList).drop i), 0) else (zTok, 0, 11) := by
    unfold tokX
    simp only
    rw [head_at hv h, hc, if_neg (show ¬ (3 : Int) = 2 by decide), if_pos rfl, (sufx hv (Nat.le_of_lt h)).2]
  rw [e, ext_part hv (Nat.le_of_lt h)]
  unfold tokT
  by_cases hn : (numS (partX (suf_ s i) (wordC ((rv s.data.toList).drop i)))).2 = true
  · rw [if_pos hn, if_pos hn]; exact if_pos rfl
  · rw [if_neg hn, if_neg hn]; exact if_neg (by decide)
theorem tokI5 (hc : cls (rv s.data.toList)[i] = 5) : tokT (tokX (suf_ s i)) i = quoI s i := by
  have h34 : (rv s.data.toList)[i] = 34 := by
    unfold cls at hc
    by_cases e : (rv s.data.toList)[i] = 34
    · exact e
    · rw [if_neg e] at hc
      repeat' split at hc
      all_goals cases hc
  rw [← quoI_is hv h (by rw [List.getD_eq_getElem?_getD, List.getElem?_eq_getElem h]; exact h34)]
  unfold tokX
  simp only
  rw [head_at hv h, hc, if_neg (show ¬ (5 : Int) = 2 by decide), if_neg (show ¬ (5 : Int) = 3 by decide), if_pos rfl]
theorem tokI4 (hc : cls (rv s.data.toList)[i] = 4) {m : Nat} (hm : m = if i + 1 < (rv s.data.toList).length ∧ (rv s.data.toList).getD (i + 1) 0 = 61 then (if isTwo (s.extract (bw s.data.toList i) (bw s.data.toList (i + 2))) then 2 else 1) else 1) :
    tokT (tokX (suf_ s i)) i = (⟨4, s.extract (bw s.data.toList i) (bw s.data.toList (i + m)), 0, i⟩, ((i + m : Nat) : Int), 0) := by
  have hs : sigN (suf_ s i) = m := by
    rw [hm, ext_part hv (Nat.le_of_lt h)]
    unfold sigN
    rw [(sufx hv (Nat.le_of_lt h)).2, List.length_drop, List.getD_eq_getElem?_getD, List.getElem?_drop, ← List.getD_eq_getElem?_getD]
    by_cases e : i + 1 < (rv s.data.toList).length ∧ (rv s.data.toList).getD (i + 1) 0 = 61
    · rw [if_pos e, if_pos ⟨by omega, e.2⟩]
    · rw [if_neg e, if_neg (fun e2 => e ⟨by omega, e2.2⟩)]
  have e : tokX (suf_ s i) = (⟨4, partX (suf_ s i) m, 0, 0⟩, m, 0) := by
    unfold tokX
    simp only
    rw [head_at hv h, hc, if_neg (show ¬ (4 : Int) = 2 by decide), if_neg (show ¬ (4 : Int) = 3 by decide), if_neg (show ¬ (4 : Int) = 5 by decide), if_pos rfl, hs]
  rw [e, ext_part hv (Nat.le_of_lt h)]
  exact if_pos rfl
theorem tokI0 (hc : cls (rv s.data.toList)[i] ≠ 2 ∧ cls (rv s.data.toList)[i] ≠ 3 ∧ cls (rv s.data.toList)[i] ≠ 5 ∧ cls (rv s.data.toList)[i] ≠ 4) : tokT (tokX (suf_ s i)) i = (zTok, 0, 11) := by
  have e : tokX (suf_ s i) = (zTok, 0, 11) := by
    unfold tokX
    simp only
    rw [head_at hv h, if_neg hc.1, if_neg hc.2.1, if_neg hc.2.2.1, if_neg hc.2.2.2]
  rw [e]
  exact if_neg (by decide)
end
/-- What the walk of a token asks of a world. -/
structure TokW (w0 : World) (K P : Nat) (s : ByteArray) (A : Option Addr) (a : Nat) (B : Option Addr) (b L1 L2 : Nat) (W : World) : Prop where
  txt : Txt W s A a B b
  box : TxB W K s (.slice A L1 a) (.slice B L2 b)
  out : W.heap[P]? = some (.cells #[.int .i64 0, .string ⟨#[]⟩, .int .i64 0, .int .i64 0] 52 (0, 0))
  below : Below w0.heap.size w0 W
theorem TokW.step {w0 W W' : World} {K P : Nat} {s : ByteArray} {A B : Option Addr} {a b L1 L2 : Nat} (h : TokW w0 K P s A a B b L1 L2 W) (hb : Below W.heap.size W W') : TokW w0 K P s A a B b L1 L2 W' :=
  ⟨h.txt.below hb, (hb.block K (blk_lt h.box)).trans h.box, (hb.block P (blk_lt h.out)).trans h.out, h.below.trans (hb.mono h.below.size)⟩
/-- What token hands back. -/
def TkPost (t : Tok × Int × Int) (w : World) (r : Ending) (w' : World) : Prop := r = .returned (.tuple #[tokV t.1, .int .i64 t.2.1, .int .i64 t.2.2]) ∧ Below w.heap.size w w'

set_option maxHeartbeats 16000000 in
set_option maxRecDepth 100000 in
theorem xtoken_2 (s : ByteArray) (A : Option Addr) (a : Nat) (B : Option Addr) (b : Nat) (i : Nat) (w : World) (h : Txt w s A a B b) (hi : i < (rv s.data.toList).length) (hc : cls (rv s.data.toList)[i] = 2) :
    Calls Tryd.prog 42 #[txV s A a B b, .int .i64 i] w (TkPost (tokT (tokX (suf_ s i)) i) w) := by
  have hn := h.runes_le
  have hra := h.ra
  have hsz := h.size
  have HX := Lib.hid (tokI2 h.vd hi hc)
  generalize tokT (tokX (suf_ s i)) i = T at HX ⊢
  have HT := Lib.hid h
  have hwl := wordC_le ((rv s.data.toList).drop i)
  rw [List.length_drop] at hwl
  have HWD := Lib.hid (fun W (hW : Txt W s A a B b) => xword_any s A a B b i W hW (Nat.le_of_lt hi))
  have HPT := Lib.hid (fun (k : Nat) (W : World) (hW : Txt W s A a B b) (h1 : i ≤ k) (h2 : k ≤ (rv s.data.toList).length) => xpart_any s A a B b i k W hW h1 h2)
  have hrow := h.r
  unfold txV at HWD HPT ⊢
  generalize bw s.data.toList = BW at HX HPT
  generalize hRR : rv s.data.toList = R at *
  generalize hL2 : (plc s.data.toList).length = L2 at *
  clear h
  obtain ⟨n, hwn⟩ : ∃ n, wordC (R.drop i) = n := ⟨_, rfl⟩
  rw [hwn] at hwl HWD HX
  obtain ⟨q, hq⟩ : ∃ q, i + n = q := ⟨_, rfl⟩
  rw [hq] at HWD HX
  have hiq : i ≤ q := by omega
  have hqr : q ≤ R.length := by omega
  have HNQ := Lib.hid hq
  obtain ⟨ad, rfl⟩ := row_some hrow (by omega)
  obtain ⟨ad', e0, x0⟩ := int_at hrow i hi
  injection e0 with e0
  subst e0
  obtain ⟨r, hr⟩ : ∃ r, R[i] = r := ⟨_, rfl⟩
  rw [hr] at x0 hc
  have HC : Hid (∀ W, Calls Tryd.prog 69 #[.int .i64 r] W fun e w' => e = .returned (.int .i64 2) ∧ W = w') := Lib.hid (fun W => by have := xclass_q r W; rwa [hc] at this)
  have hnz : (R.length : Int) ≤ 8192 := by omega
  have hraz : (R.length : Int) ≤ a := by omega
  have hi0 : (0 : Int) ≤ i := by omega
  have hiz : (i : Int) < R.length := by omega
  have hqz : (q : Int) ≤ 8192 := by omega
  have hiqz : (i : Int) ≤ q := by omega
  have HROW := Lib.hid hrow
  have hltx := World.block_lt_of_cell? w _ x0
  obtain ⟨w0, hw0⟩ : ∃ w', w.alloc (.cells #[.string s, .slice (some ad) R.length a, .slice B L2 b] 68 (0, 0)) = w' := ⟨_, rfl⟩
  have hb0 : Below w.heap.size w w0 := hw0 ▸ (Below.refl _ _).alloc (Nat.le_refl _) _
  have hq0 : TxB w0 w.heap.size s (.slice (some ad) R.length a) (.slice B L2 b) := hw0 ▸ heap_alloc_new _ _
  obtain ⟨w1, hw1⟩ : ∃ w', w0.alloc (.cells #[.int .i64 0, .string ⟨#[]⟩, .int .i64 0, .int .i64 0] 52 (0, 0)) = w' := ⟨_, rfl⟩
  have hb1 : Below w0.heap.size w0 w1 := hw1 ▸ (Below.refl _ _).alloc (Nat.le_refl _) _
  have hz1 : w1.heap[w0.heap.size]? = some (.cells #[.int .i64 0, .string ⟨#[]⟩, .int .i64 0, .int .i64 0] 52 (0, 0)) := hw1 ▸ heap_alloc_new _ _
  have hq1 := (hb1.block _ (blk_lt hq0)).trans hq0
  have hb01 := hb0.trans (hb1.mono hb0.size)
  obtain ⟨K, hK⟩ : ∃ K, w.heap.size = K := ⟨_, rfl⟩
  obtain ⟨P, hP⟩ : ∃ P, w0.heap.size = P := ⟨_, rfl⟩
  have hKP : w.heap.size ≤ P := by rw [← hP]; exact hb0.size
  have HKP := Lib.hid hKP
  have H1 : Hid (TokW w K P s (some ad) a B b R.length L2 w1) := Lib.hid ⟨HT.out.below hb01, by rw [← hK]; exact hq1, by rw [← hP]; exact hz1, hb01⟩
  have x1 := (hb01.cell hltx).trans x0
  have HX1 := Lib.hid x1
  have HL1 := Lib.hid (Nat.lt_of_lt_of_le hltx hb01.size)
  obtain ⟨⟨y0, y1, y2⟩, _⟩ := blk3 H1.out.box
  have hlK := blk_lt H1.out.box
  clear hwn hq hrow x0 hltx hb0 hq0 hb1 hz1 hq1 hb01 hKP x1 HT hr
  go_enter Tryd.func42, Tryd.ntmps42
  go_wp2_with fail
  clear hw0 hw1 hK hP
  refine (HWD.out w1 H1.out.txt).mono ?_
  rintro e w2 ⟨rfl, hb2⟩
  have H2 := Lib.hid (H1.out.step hb2)
  have x2 := (hb2.cell HL1.out).trans HX1.out
  have hlx := Nat.lt_of_lt_of_le HL1.out hb2.size
  have HROW2 := Lib.hid ((HROW.out.keep (Same.of_below (M := []) H2.out.below)))
  clear y0 y1 y2 hlK hb2
  obtain ⟨⟨y0, y1, y2⟩, _⟩ := blk3 H2.out.box
  have hlK := blk_lt H2.out.box
  go_wp2_with fail
  refine (HC.out w2).mono ?_
  rintro e w3 ⟨rfl, rfl⟩
  by_cases h12 : 12 < n
  · have HE : Hid (T = (zTok, 0, 2)) := Lib.hid (by rw [HX.out, if_pos h12])
    have h12z : (12 : Int) < (q : Int) - i := by have := HNQ.out; omega
    clear h12
    obtain ⟨⟨z0, z1, z2, z3⟩, g0, g1, g2, g3⟩ := blk4 H2.out.out
    have hlP := blk_lt H2.out.out
    go_wp2
    refine bodyPost_ret (v := .tuple #[.agg #[.int .i64 0, .string ⟨#[]⟩, .int .i64 0, .int .i64 0], .int .i64 0, .int .i64 2]) (by simp [results, Tryd.results42, go_sem, *]) rfl ?_
    exact ⟨by rw [HE.out]; first | done | rfl, below_set4' H2.out.below HKP.out _ _ _ _⟩
  · have HE : Hid (T = (⟨1, s.extract (BW i) (BW q), 0, i⟩, (q : Int), 0)) := Lib.hid (by rw [HX.out, if_neg h12])
    have h12z : (q : Int) - i ≤ 12 := by have := HNQ.out; omega
    clear h12
    go_wp2_with fail
    refine (HPT.out q w2 H2.out.txt (by omega) (by omega)).mono ?_
    rintro e w4 ⟨rfl, hb4⟩
    have H4 := Lib.hid (H2.out.step hb4)
    clear y0 y1 y2 hlK hb4
    generalize s.extract (BW i) (BW q) = tx at HE ⊢
    obtain ⟨⟨z0, z1, z2, z3⟩, g0, g1, g2, g3⟩ := blk4 H4.out.out
    have hlP := blk_lt H4.out.out
    go_wp2
    refine bodyPost_ret (v := .tuple #[.agg #[.int .i64 1, .string tx, .int .i64 0, .int .i64 i], .int .i64 q, .int .i64 0]) (by simp [results, Tryd.results42, go_sem, *]) rfl ?_
    exact ⟨by rw [HE.out]; first | done | rfl, below_set4' H4.out.below HKP.out _ _ _ _⟩

set_option maxHeartbeats 16000000 in
set_option maxRecDepth 100000 in
theorem xtoken_3 (s : ByteArray) (A : Option Addr) (a : Nat) (B : Option Addr) (b : Nat) (i : Nat) (w : World) (h : Txt w s A a B b) (hi : i < (rv s.data.toList).length) (hc : cls (rv s.data.toList)[i] = 3) :
    Calls Tryd.prog 42 #[txV s A a B b, .int .i64 i] w (TkPost (tokT (tokX (suf_ s i)) i) w) := by
  have hn := h.runes_le
  have hra := h.ra
  have hsz := h.size
  have HX := Lib.hid (tokI3 h.vd hi hc rfl)
  generalize tokT (tokX (suf_ s i)) i = T at HX ⊢
  have HT := Lib.hid h
  have hwl := wordC_le ((rv s.data.toList).drop i)
  rw [List.length_drop] at hwl
  have HWD := Lib.hid (fun W (hW : Txt W s A a B b) => xword_any s A a B b i W hW (Nat.le_of_lt hi))
  have HPT := Lib.hid (fun (k : Nat) (W : World) (hW : Txt W s A a B b) (h1 : i ≤ k) (h2 : k ≤ (rv s.data.toList).length) => xpart_any s A a B b i k W hW h1 h2)
  have hrow := h.r
  unfold txV at HWD HPT ⊢
  generalize bw s.data.toList = BW at HX HPT
  generalize hRR : rv s.data.toList = R at *
  generalize hL2 : (plc s.data.toList).length = L2 at *
  clear h
  obtain ⟨n, hwn⟩ : ∃ n, wordC (R.drop i) = n := ⟨_, rfl⟩
  rw [hwn] at hwl HWD HX
  obtain ⟨q, hq⟩ : ∃ q, i + n = q := ⟨_, rfl⟩
  rw [hq] at HWD HX
  have hiq : i ≤ q := by omega
  have hqr : q ≤ R.length := by omega
  have HNQ := Lib.hid hq
  obtain ⟨ad, rfl⟩ := row_some hrow (by omega)
  obtain ⟨ad', e0, x0⟩ := int_at hrow i hi
  injection e0 with e0
  subst e0
  obtain ⟨r, hr⟩ : ∃ r, R[i] = r := ⟨_, rfl⟩
  rw [hr] at x0 hc
  have HC : Hid (∀ W, Calls Tryd.prog 69 #[.int .i64 r] W fun e w' => e = .returned (.int .i64 3) ∧ W = w') := Lib.hid (fun W => by have := xclass_q r W; rwa [hc] at this)
  have hnz : (R.length : Int) ≤ 8192 := by omega
  have hraz : (R.length : Int) ≤ a := by omega
  have hi0 : (0 : Int) ≤ i := by omega
  have hiz : (i : Int) < R.length := by omega
  have hqz : (q : Int) ≤ 8192 := by omega
  have hiqz : (i : Int) ≤ q := by omega
  have HROW := Lib.hid hrow
  have hltx := World.block_lt_of_cell? w _ x0
  obtain ⟨w0, hw0⟩ : ∃ w', w.alloc (.cells #[.string s, .slice (some ad) R.length a, .slice B L2 b] 68 (0, 0)) = w' := ⟨_, rfl⟩
  have hb0 : Below w.heap.size w w0 := hw0 ▸ (Below.refl _ _).alloc (Nat.le_refl _) _
  have hq0 : TxB w0 w.heap.size s (.slice (some ad) R.length a) (.slice B L2 b) := hw0 ▸ heap_alloc_new _ _
  obtain ⟨w1, hw1⟩ : ∃ w', w0.alloc (.cells #[.int .i64 0, .string ⟨#[]⟩, .int .i64 0, .int .i64 0] 52 (0, 0)) = w' := ⟨_, rfl⟩
  have hb1 : Below w0.heap.size w0 w1 := hw1 ▸ (Below.refl _ _).alloc (Nat.le_refl _) _
  have hz1 : w1.heap[w0.heap.size]? = some (.cells #[.int .i64 0, .string ⟨#[]⟩, .int .i64 0, .int .i64 0] 52 (0, 0)) := hw1 ▸ heap_alloc_new _ _
  have hq1 := (hb1.block _ (blk_lt hq0)).trans hq0
  have hb01 := hb0.trans (hb1.mono hb0.size)
  obtain ⟨K, hK⟩ : ∃ K, w.heap.size = K := ⟨_, rfl⟩
  obtain ⟨P, hP⟩ : ∃ P, w0.heap.size = P := ⟨_, rfl⟩
  have hKP : w.heap.size ≤ P := by rw [← hP]; exact hb0.size
  have HKP := Lib.hid hKP
  have H1 : Hid (TokW w K P s (some ad) a B b R.length L2 w1) := Lib.hid ⟨HT.out.below hb01, by rw [← hK]; exact hq1, by rw [← hP]; exact hz1, hb01⟩
  have x1 := (hb01.cell hltx).trans x0
  have HX1 := Lib.hid x1
  have HL1 := Lib.hid (Nat.lt_of_lt_of_le hltx hb01.size)
  obtain ⟨⟨y0, y1, y2⟩, _⟩ := blk3 H1.out.box
  have hlK := blk_lt H1.out.box
  clear hwn hq hrow x0 hltx hb0 hq0 hb1 hz1 hq1 hb01 hKP x1 HT hr
  go_enter Tryd.func42, Tryd.ntmps42
  go_wp2_with fail
  clear hw0 hw1 hK hP
  refine (HWD.out w1 H1.out.txt).mono ?_
  rintro e w2 ⟨rfl, hb2⟩
  have H2 := Lib.hid (H1.out.step hb2)
  have x2 := (hb2.cell HL1.out).trans HX1.out
  have hlx := Nat.lt_of_lt_of_le HL1.out hb2.size
  have HROW2 := Lib.hid ((HROW.out.keep (Same.of_below (M := []) H2.out.below)))
  clear y0 y1 y2 hlK hb2
  obtain ⟨⟨y0, y1, y2⟩, _⟩ := blk3 H2.out.box
  have hlK := blk_lt H2.out.box
  go_wp2_with fail
  refine (HC.out w2).mono ?_
  rintro e w3 ⟨rfl, rfl⟩
  go_wp2_with fail
  refine (HPT.out q w2 H2.out.txt (by omega) (by omega)).mono ?_
  rintro e w4 ⟨rfl, hb4⟩
  have H4 := Lib.hid (H2.out.step hb4)
  clear y0 y1 y2 hlK hb4
  obtain ⟨⟨y0, y1, y2⟩, _⟩ := blk3 H4.out.box
  have hlK := blk_lt H4.out.box
  have hps : (s.extract (BW i) (BW q)).size ≤ 8192 := by simp; omega
  have HNU := Lib.hid (fun W => xnumber_any (s.extract (BW i) (BW q)) W hps)
  obtain ⟨tx, htx⟩ : ∃ t, s.extract (BW i) (BW q) = t := ⟨_, rfl⟩
  rw [htx] at HX HNU
  obtain ⟨⟨v, ok⟩, hv⟩ : ∃ p, numS tx = p := ⟨_, rfl⟩
  rw [hv] at HX HNU
  clear hv hps
  go_wp2_with fail
  refine (HNU.out w4).mono ?_
  rintro e w5 ⟨rfl, rfl⟩
  cases ok
  · have HE : Hid (T = (zTok, 0, 11)) := Lib.hid (by rw [HX.out]; rfl)
    obtain ⟨⟨z0, z1, z2, z3⟩, g0, g1, g2, g3⟩ := blk4 H4.out.out
    have hlP := blk_lt H4.out.out
    go_wp2
    refine bodyPost_ret (v := .tuple #[.agg #[.int .i64 0, .string ⟨#[]⟩, .int .i64 0, .int .i64 0], .int .i64 0, .int .i64 11]) (by simp [results, Tryd.results42, go_sem, *]) rfl ?_
    exact ⟨by rw [HE.out]; first | done | rfl, below_set4' H4.out.below HKP.out _ _ _ _⟩
  · have HE : Hid (T = (⟨2, tx, v, i⟩, (q : Int), 0)) := Lib.hid (by rw [HX.out]; rfl)
    go_wp2_with fail
    refine (HPT.out q w4 H4.out.txt (by omega) (by omega)).mono ?_
    rintro e w6 ⟨rfl, hb6⟩
    have H6 := Lib.hid (H4.out.step hb6)
    clear y0 y1 y2 hlK hb6
    obtain ⟨⟨z0, z1, z2, z3⟩, g0, g1, g2, g3⟩ := blk4 H6.out.out
    have hlP := blk_lt H6.out.out
    go_wp2
    refine bodyPost_ret (v := .tuple #[.agg #[.int .i64 2, .string tx, .int .i64 v, .int .i64 i], .int .i64 q, .int .i64 0]) (by simp [results, Tryd.results42, go_sem, *]) rfl ?_
    exact ⟨by rw [HE.out]; first | done | rfl, below_set4' H6.out.below HKP.out _ _ _ _⟩

set_option maxHeartbeats 16000000 in
set_option maxRecDepth 100000 in
theorem xtoken_5 (s : ByteArray) (A : Option Addr) (a : Nat) (B : Option Addr) (b : Nat) (i : Nat) (w : World) (h : Txt w s A a B b) (hi : i < (rv s.data.toList).length) (hc : cls (rv s.data.toList)[i] = 5) :
    Calls Tryd.prog 42 #[txV s A a B b, .int .i64 i] w (TkPost (tokT (tokX (suf_ s i)) i) w) := by
  have hn := h.runes_le
  have hra := h.ra
  have hsz := h.size
  have HX := Lib.hid (tokI5 h.vd hi hc)
  generalize tokT (tokX (suf_ s i)) i = T at HX ⊢
  have HT := Lib.hid h
  have hwl := wordC_le ((rv s.data.toList).drop i)
  rw [List.length_drop] at hwl
  have HWD := Lib.hid (fun W (hW : Txt W s A a B b) => xword_any s A a B b i W hW (Nat.le_of_lt hi))
  have HPT := Lib.hid (fun (k : Nat) (W : World) (hW : Txt W s A a B b) (h1 : i ≤ k) (h2 : k ≤ (rv s.data.toList).length) => xpart_any s A a B b i k W hW h1 h2)
  have HQU := Lib.hid (fun W (hW : Txt W s A a B b) => xquoted_any s A a B b i W hW hi)
  obtain ⟨⟨⟨tk, tx, tn, ta⟩, qn, qe⟩, hQI⟩ : ∃ p, quoI s i = p := ⟨_, rfl⟩
  rw [hQI] at HX HQU
  clear hQI
  have hrow := h.r
  unfold txV at HWD HPT HQU ⊢
  generalize bw s.data.toList = BW at HX HPT
  generalize hRR : rv s.data.toList = R at *
  generalize hL2 : (plc s.data.toList).length = L2 at *
  clear h
  obtain ⟨n, hwn⟩ : ∃ n, wordC (R.drop i) = n := ⟨_, rfl⟩
  rw [hwn] at hwl HWD
  obtain ⟨q, hq⟩ : ∃ q, i + n = q := ⟨_, rfl⟩
  rw [hq] at HWD
  have hiq : i ≤ q := by omega
  have hqr : q ≤ R.length := by omega
  have HNQ := Lib.hid hq
  obtain ⟨ad, rfl⟩ := row_some hrow (by omega)
  obtain ⟨ad', e0, x0⟩ := int_at hrow i hi
  injection e0 with e0
  subst e0
  obtain ⟨r, hr⟩ : ∃ r, R[i] = r := ⟨_, rfl⟩
  rw [hr] at x0 hc
  have HC : Hid (∀ W, Calls Tryd.prog 69 #[.int .i64 r] W fun e w' => e = .returned (.int .i64 5) ∧ W = w') := Lib.hid (fun W => by have := xclass_q r W; rwa [hc] at this)
  have hnz : (R.length : Int) ≤ 8192 := by omega
  have hraz : (R.length : Int) ≤ a := by omega
  have hi0 : (0 : Int) ≤ i := by omega
  have hiz : (i : Int) < R.length := by omega
  have hqz : (q : Int) ≤ 8192 := by omega
  have hiqz : (i : Int) ≤ q := by omega
  have HROW := Lib.hid hrow
  have hltx := World.block_lt_of_cell? w _ x0
  obtain ⟨w0, hw0⟩ : ∃ w', w.alloc (.cells #[.string s, .slice (some ad) R.length a, .slice B L2 b] 68 (0, 0)) = w' := ⟨_, rfl⟩
  have hb0 : Below w.heap.size w w0 := hw0 ▸ (Below.refl _ _).alloc (Nat.le_refl _) _
  have hq0 : TxB w0 w.heap.size s (.slice (some ad) R.length a) (.slice B L2 b) := hw0 ▸ heap_alloc_new _ _
  obtain ⟨w1, hw1⟩ : ∃ w', w0.alloc (.cells #[.int .i64 0, .string ⟨#[]⟩, .int .i64 0, .int .i64 0] 52 (0, 0)) = w' := ⟨_, rfl⟩
  have hb1 : Below w0.heap.size w0 w1 := hw1 ▸ (Below.refl _ _).alloc (Nat.le_refl _) _
  have hz1 : w1.heap[w0.heap.size]? = some (.cells #[.int .i64 0, .string ⟨#[]⟩, .int .i64 0, .int .i64 0] 52 (0, 0)) := hw1 ▸ heap_alloc_new _ _
  have hq1 := (hb1.block _ (blk_lt hq0)).trans hq0
  have hb01 := hb0.trans (hb1.mono hb0.size)
  obtain ⟨K, hK⟩ : ∃ K, w.heap.size = K := ⟨_, rfl⟩
  obtain ⟨P, hP⟩ : ∃ P, w0.heap.size = P := ⟨_, rfl⟩
  have hKP : w.heap.size ≤ P := by rw [← hP]; exact hb0.size
  have HKP := Lib.hid hKP
  have H1 : Hid (TokW w K P s (some ad) a B b R.length L2 w1) := Lib.hid ⟨HT.out.below hb01, by rw [← hK]; exact hq1, by rw [← hP]; exact hz1, hb01⟩
  have x1 := (hb01.cell hltx).trans x0
  have HX1 := Lib.hid x1
  have HL1 := Lib.hid (Nat.lt_of_lt_of_le hltx hb01.size)
  obtain ⟨⟨y0, y1, y2⟩, _⟩ := blk3 H1.out.box
  have hlK := blk_lt H1.out.box
  clear hwn hq hrow x0 hltx hb0 hq0 hb1 hz1 hq1 hb01 hKP x1 HT hr
  go_enter Tryd.func42, Tryd.ntmps42
  go_wp2_with fail
  clear hw0 hw1 hK hP
  refine (HWD.out w1 H1.out.txt).mono ?_
  rintro e w2 ⟨rfl, hb2⟩
  have H2 := Lib.hid (H1.out.step hb2)
  have x2 := (hb2.cell HL1.out).trans HX1.out
  have hlx := Nat.lt_of_lt_of_le HL1.out hb2.size
  have HROW2 := Lib.hid ((HROW.out.keep (Same.of_below (M := []) H2.out.below)))
  clear y0 y1 y2 hlK hb2
  obtain ⟨⟨y0, y1, y2⟩, _⟩ := blk3 H2.out.box
  have hlK := blk_lt H2.out.box
  go_wp2_with fail
  refine (HC.out w2).mono ?_
  rintro e w3 ⟨rfl, rfl⟩
  go_wp2_with fail
  refine (HQU.out w2 H2.out.txt).mono ?_
  rintro e w4 ⟨rfl, hb4⟩
  have H4 := Lib.hid (H2.out.step hb4)
  clear y0 y1 y2 hlK hb4
  obtain ⟨⟨z0, z1, z2, z3⟩, g0, g1, g2, g3⟩ := blk4 H4.out.out
  have hlP := blk_lt H4.out.out
  go_wp2
  refine bodyPost_ret (v := .tuple #[.agg #[.int .i64 tk, .string tx, .int .i64 tn, .int .i64 ta], .int .i64 qn, .int .i64 qe]) (by simp [results, Tryd.results42, go_sem, *]) rfl ?_
  exact ⟨by rw [HX.out]; first | done | rfl, below_set4' H4.out.below HKP.out _ _ _ _⟩

set_option maxHeartbeats 16000000 in
set_option maxRecDepth 100000 in
theorem xtoken_0 (s : ByteArray) (A : Option Addr) (a : Nat) (B : Option Addr) (b : Nat) (i : Nat) (w : World) (h : Txt w s A a B b) (hi : i < (rv s.data.toList).length) (hc : cls (rv s.data.toList)[i] ≠ 2 ∧ cls (rv s.data.toList)[i] ≠ 3 ∧ cls (rv s.data.toList)[i] ≠ 5 ∧ cls (rv s.data.toList)[i] ≠ 4) :
    Calls Tryd.prog 42 #[txV s A a B b, .int .i64 i] w (TkPost (tokT (tokX (suf_ s i)) i) w) := by
  have hn := h.runes_le
  have hra := h.ra
  have hsz := h.size
  have HX := Lib.hid (tokI0 h.vd hi hc)
  generalize tokT (tokX (suf_ s i)) i = T at HX ⊢
  have HT := Lib.hid h
  have hwl := wordC_le ((rv s.data.toList).drop i)
  rw [List.length_drop] at hwl
  have HWD := Lib.hid (fun W (hW : Txt W s A a B b) => xword_any s A a B b i W hW (Nat.le_of_lt hi))
  have HPT := Lib.hid (fun (k : Nat) (W : World) (hW : Txt W s A a B b) (h1 : i ≤ k) (h2 : k ≤ (rv s.data.toList).length) => xpart_any s A a B b i k W hW h1 h2)
  have hrow := h.r
  unfold txV at HWD HPT ⊢
  generalize bw s.data.toList = BW at HX HPT
  generalize hRR : rv s.data.toList = R at *
  generalize hL2 : (plc s.data.toList).length = L2 at *
  clear h
  obtain ⟨n, hwn⟩ : ∃ n, wordC (R.drop i) = n := ⟨_, rfl⟩
  rw [hwn] at hwl HWD
  obtain ⟨q, hq⟩ : ∃ q, i + n = q := ⟨_, rfl⟩
  rw [hq] at HWD
  have hiq : i ≤ q := by omega
  have hqr : q ≤ R.length := by omega
  have HNQ := Lib.hid hq
  obtain ⟨ad, rfl⟩ := row_some hrow (by omega)
  obtain ⟨ad', e0, x0⟩ := int_at hrow i hi
  injection e0 with e0
  subst e0
  obtain ⟨r, hr⟩ : ∃ r, R[i] = r := ⟨_, rfl⟩
  rw [hr] at x0 hc
  obtain ⟨c, hcc⟩ : ∃ c, cls r = c := ⟨_, rfl⟩
  rw [hcc] at hc
  have HC : Hid (∀ W, Calls Tryd.prog 69 #[.int .i64 r] W fun e w' => e = .returned (.int .i64 c) ∧ W = w') := Lib.hid (fun W => by have := xclass_q r W; rwa [hcc] at this)
  have hc2 : (c == 2) = false := beqf hc.1
  have hc3 : (c == 3) = false := beqf hc.2.1
  have hc5 : (c == 5) = false := beqf hc.2.2.1
  have hc4 : (c == 4) = false := beqf hc.2.2.2
  clear hc hcc
  have hnz : (R.length : Int) ≤ 8192 := by omega
  have hraz : (R.length : Int) ≤ a := by omega
  have hi0 : (0 : Int) ≤ i := by omega
  have hiz : (i : Int) < R.length := by omega
  have hqz : (q : Int) ≤ 8192 := by omega
  have hiqz : (i : Int) ≤ q := by omega
  have HROW := Lib.hid hrow
  have hltx := World.block_lt_of_cell? w _ x0
  obtain ⟨w0, hw0⟩ : ∃ w', w.alloc (.cells #[.string s, .slice (some ad) R.length a, .slice B L2 b] 68 (0, 0)) = w' := ⟨_, rfl⟩
  have hb0 : Below w.heap.size w w0 := hw0 ▸ (Below.refl _ _).alloc (Nat.le_refl _) _
  have hq0 : TxB w0 w.heap.size s (.slice (some ad) R.length a) (.slice B L2 b) := hw0 ▸ heap_alloc_new _ _
  obtain ⟨w1, hw1⟩ : ∃ w', w0.alloc (.cells #[.int .i64 0, .string ⟨#[]⟩, .int .i64 0, .int .i64 0] 52 (0, 0)) = w' := ⟨_, rfl⟩
  have hb1 : Below w0.heap.size w0 w1 := hw1 ▸ (Below.refl _ _).alloc (Nat.le_refl _) _
  have hz1 : w1.heap[w0.heap.size]? = some (.cells #[.int .i64 0, .string ⟨#[]⟩, .int .i64 0, .int .i64 0] 52 (0, 0)) := hw1 ▸ heap_alloc_new _ _
  have hq1 := (hb1.block _ (blk_lt hq0)).trans hq0
  have hb01 := hb0.trans (hb1.mono hb0.size)
  obtain ⟨K, hK⟩ : ∃ K, w.heap.size = K := ⟨_, rfl⟩
  obtain ⟨P, hP⟩ : ∃ P, w0.heap.size = P := ⟨_, rfl⟩
  have hKP : w.heap.size ≤ P := by rw [← hP]; exact hb0.size
  have HKP := Lib.hid hKP
  have H1 : Hid (TokW w K P s (some ad) a B b R.length L2 w1) := Lib.hid ⟨HT.out.below hb01, by rw [← hK]; exact hq1, by rw [← hP]; exact hz1, hb01⟩
  have x1 := (hb01.cell hltx).trans x0
  have HX1 := Lib.hid x1
  have HL1 := Lib.hid (Nat.lt_of_lt_of_le hltx hb01.size)
  obtain ⟨⟨y0, y1, y2⟩, _⟩ := blk3 H1.out.box
  have hlK := blk_lt H1.out.box
  clear hwn hq hrow x0 hltx hb0 hq0 hb1 hz1 hq1 hb01 hKP x1 HT hr
  go_enter Tryd.func42, Tryd.ntmps42
  go_wp2_with fail
  clear hw0 hw1 hK hP
  refine (HWD.out w1 H1.out.txt).mono ?_
  rintro e w2 ⟨rfl, hb2⟩
  have H2 := Lib.hid (H1.out.step hb2)
  have x2 := (hb2.cell HL1.out).trans HX1.out
  have hlx := Nat.lt_of_lt_of_le HL1.out hb2.size
  have HROW2 := Lib.hid ((HROW.out.keep (Same.of_below (M := []) H2.out.below)))
  clear y0 y1 y2 hlK hb2
  obtain ⟨⟨y0, y1, y2⟩, _⟩ := blk3 H2.out.box
  have hlK := blk_lt H2.out.box
  go_wp2_with fail
  refine (HC.out w2).mono ?_
  rintro e w3 ⟨rfl, rfl⟩
  obtain ⟨⟨z0, z1, z2, z3⟩, g0, g1, g2, g3⟩ := blk4 H2.out.out
  have hlP := blk_lt H2.out.out
  go_wp2
  refine bodyPost_ret (v := .tuple #[.agg #[.int .i64 0, .string ⟨#[]⟩, .int .i64 0, .int .i64 0], .int .i64 0, .int .i64 11]) (by simp [results, Tryd.results42, go_sem, *]) rfl ?_
  exact ⟨by rw [HX.out]; first | done | rfl, below_set4' H2.out.below HKP.out _ _ _ _⟩

end Go.Proofs.YtgaiheojlmebaaaDoor
