/- Walks: the reference's text in quotes. -/
import Derived.Test.YtgaiheojlmebaaaDoorQ5
namespace Go.Proofs.YtgaiheojlmebaaaDoor
open Go Go.RowKit Go.Lib

/-- What stands behind the i-th rune. -/
def suf_ (s : ByteArray) (i : Nat) : List UInt8 := s.data.toList.drop (bw s.data.toList i)
theorem sufx {s : ByteArray} (hv : Vd s.data.toList) {i : Nat} (h : i ≤ (rv s.data.toList).length) : Vd (suf_ s i) ∧ rv (suf_ s i) = (rv s.data.toList).drop i := by
  rw [rv_len] at h
  exact ⟨(split_at i _ hv h).2.2.2, rv_drop hv h⟩
theorem suf_add {s : ByteArray} (hv : Vd s.data.toList) {i k : Nat} (h : i ≤ (rv s.data.toList).length) : bw s.data.toList (i + k) = bw s.data.toList i + bw (suf_ s i) k ∧ suf_ s (i + k) = (suf_ s i).drop (bw (suf_ s i) k) := by
  rw [rv_len] at h
  have := bw_add hv i k h
  refine ⟨this, ?_⟩
  unfold suf_ at this ⊢
  rw [this, List.drop_drop]
theorem ext_part {s : ByteArray} (hv : Vd s.data.toList) {i k : Nat} (h : i ≤ (rv s.data.toList).length) : s.extract (bw s.data.toList i) (bw s.data.toList (i + k)) = partX (suf_ s i) k := by
  rw [(suf_add hv h).1]
  unfold partX suf_
  apply ByteArray.ext
  apply Array.toList_inj.1
  simp
theorem suf_ne {s : ByteArray} (hv : Vd s.data.toList) {i : Nat} (h : i < (rv s.data.toList).length) : suf_ s i ≠ [] := by
  intro e
  have := (sufx hv (Nat.le_of_lt h)).2
  rw [e, rv_nil] at this
  have := congrArg List.length this
  rw [List.length_drop, List.length_nil] at this
  omega
/-- A token at its place. -/
def tokT (x : Tok × Nat × Int) (i : Nat) : Tok × Int × Int := if x.2.2 = 0 then ({ x.1 with at_ := (i : Int) }, ((i + x.2.1 : Nat) : Int), 0) else (zTok, 0, x.2.2)
/-- A text in quotes, by the place. -/
def quoI (s : ByteArray) (i : Nat) : Tok × Int × Int :=
  let R := (rv s.data.toList).drop (i + 1)
  let k := quoN R
  if ¬ (k < R.length ∧ R.getD k 0 ≠ 10) then (zTok, 0, 11)
  else if (R.take k).any (fun r => decide (r < 32)) then (zTok, 0, 11)
  else if 20 < k then (zTok, 0, 2)
  else (⟨3, s.extract (bw s.data.toList (i + 1)) (bw s.data.toList (i + 1 + k)), 0, i⟩, ((i + (k + 2) : Nat) : Int), 0)
theorem quoI_is {s : ByteArray} (hv : Vd s.data.toList) {i : Nat} (h : i < (rv s.data.toList).length) (h34 : (rv s.data.toList).getD i 0 = 34) : tokT (quoX (suf_ s i)) i = quoI s i := by
  have hn := suf_ne hv h
  obtain ⟨hv1, hr1⟩ := sufx hv (Nat.le_of_lt h)
  have hd : (decodeL (suf_ s i)).1 = 34 := by
    have e : (rv (suf_ s i)).getD 0 0 = 34 := by
      rw [hr1, List.getD_eq_getElem?_getD, List.getElem?_drop, Nat.add_zero, ← List.getD_eq_getElem?_getD]; exact h34
    rw [rv_cons hn] at e
    have e2 : ((decodeL (suf_ s i)).1 : Int) = 34 := e
    omega
  obtain ⟨h1, _⟩ := rune_low hn hv1 (by omega)
  have hb1 : bw (suf_ s i) 1 = 1 := by rw [bw_succ hn, bw_zero, h1]
  have hs := suf_add hv (k := 1) (Nat.le_of_lt h)
  rw [hb1] at hs
  have hr2 := (sufx hv (i := i + 1) h).2
  rw [hs.2] at hr2
  unfold quoX quoI tokT
  simp only
  rw [hr2]
  generalize hk : quoN ((rv s.data.toList).drop (i + 1)) = k
  by_cases c1 : ¬ (k < ((rv s.data.toList).drop (i + 1)).length ∧ ((rv s.data.toList).drop (i + 1)).getD k 0 ≠ 10)
  · rw [if_pos c1, if_pos c1]; exact if_neg (by decide)
  · rw [if_neg c1, if_neg c1]
    by_cases c2 : (((rv s.data.toList).drop (i + 1)).take k).any (fun r => decide (r < 32)) = true
    · rw [if_pos c2, if_pos c2]; exact if_neg (by decide)
    · rw [if_neg c2, if_neg c2]
      by_cases c3 : 20 < k
      · rw [if_pos c3, if_pos c3]; exact if_neg (by decide)
      · rw [if_neg c3, if_neg c3, ext_part hv (i := i + 1) (k := k) h, hs.2]
        exact if_pos rfl

set_option maxHeartbeats 16000000 in
set_option maxRecDepth 100000 in
theorem xquoted_any (s : ByteArray) (A : Option Addr) (a : Nat) (B : Option Addr) (b : Nat) (i : Nat) (w : World) (h : Txt w s A a B b) (hi : i < (rv s.data.toList).length) :
    Calls Tryd.prog 73 #[txV s A a B b, .int .i64 i] w fun r w' => r = .returned (.tuple #[tokV (quoI s i).1, .int .i64 (quoI s i).2.1, .int .i64 (quoI s i).2.2]) ∧ Below w.heap.size w w' := by
  have hn := h.runes_le
  have hra := h.ra
  have HT := Lib.hid h
  have HR := Lib.hid h.r
  have hp0 := fun (k : Nat) (W : World) (hW : Txt W s A a B b) (h1 : i + 1 ≤ k) (h2 : k ≤ (rv s.data.toList).length) => xpart_any s A a B b (i + 1) k W hW h1 h2
  rw [show ((i + 1 : Nat) : Int) = (i : Int) + 1 by omega] at hp0
  have HP := Lib.hid hp0
  clear hp0
  have HX : Hid (quoI s i = if ¬ (quoN ((rv s.data.toList).drop (i + 1)) < ((rv s.data.toList).drop (i + 1)).length ∧ ((rv s.data.toList).drop (i + 1)).getD (quoN ((rv s.data.toList).drop (i + 1))) 0 ≠ 10) then (zTok, 0, 11)
    else if (((rv s.data.toList).drop (i + 1)).take (quoN ((rv s.data.toList).drop (i + 1)))).any (fun r => decide (r < 32)) then (zTok, 0, 11)
    else if 20 < quoN ((rv s.data.toList).drop (i + 1)) then (zTok, 0, 2)
    else (⟨3, s.extract (bw s.data.toList (i + 1)) (bw s.data.toList (i + 1 + quoN ((rv s.data.toList).drop (i + 1)))), 0, i⟩, ((i + (quoN ((rv s.data.toList).drop (i + 1)) + 2) : Nat) : Int), 0)) := Lib.hid rfl
  generalize quoI s i = QI at HX ⊢
  unfold txV at HP ⊢
  generalize bw s.data.toList = BW at HX HP
  generalize hRR : rv s.data.toList = R at *
  generalize hL2 : (plc s.data.toList).length = L2 at HP ⊢
  clear h
  obtain ⟨KA, hKA⟩ : ∃ x, i + 1 + quoN (R.drop (i + 1)) = x := ⟨_, rfl⟩
  have HKA := Lib.hid hKA
  have hnz : (R.length : Int) ≤ 8192 := by omega
  have hraz : (R.length : Int) ≤ a := by omega
  have hi0 : (0 : Int) ≤ i := by omega
  have hin : (i : Int) ≤ 8192 := by omega
  obtain ⟨w0, hw0⟩ : ∃ w', w.alloc (.cells #[.string s, .slice A R.length a, .slice B L2 b] 68 (0, 0)) = w' := ⟨_, rfl⟩
  have hb0 : Below w.heap.size w w0 := hw0 ▸ (Below.refl _ _).alloc (Nat.le_refl _) _
  have hq0 : TxB w0 w.heap.size s (.slice A R.length a) (.slice B L2 b) := hw0 ▸ heap_alloc_new _ _
  obtain ⟨w1, hw1⟩ : ∃ w', w0.alloc (.cells #[.int .i64 0, .string ⟨#[]⟩, .int .i64 0, .int .i64 0] 52 (0, 0)) = w' := ⟨_, rfl⟩
  have hb1 : Below w0.heap.size w0 w1 := hw1 ▸ (Below.refl _ _).alloc (Nat.le_refl _) _
  have hz1 : w1.heap[w0.heap.size]? = some (.cells #[.int .i64 0, .string ⟨#[]⟩, .int .i64 0, .int .i64 0] 52 (0, 0)) := hw1 ▸ heap_alloc_new _ _
  have hq1 := (hb1.block _ (blk_lt hq0)).trans hq0
  obtain ⟨K, hK⟩ : ∃ K, w.heap.size = K := ⟨_, rfl⟩
  obtain ⟨P, hP⟩ : ∃ P, w0.heap.size = P := ⟨_, rfl⟩
  have hKP : K < P := by rw [← hK, ← hP]; exact blk_lt hq0
  have HKP := Lib.hid hKP
  have HB1 := Lib.hid (hb0.trans (hb1.mono hb0.size))
  have HQ1 : Hid (TxB w1 K s (.slice A R.length a) (.slice B L2 b)) := Lib.hid (by rw [← hK]; exact hq1)
  have HZ1 : Hid (w1.heap[P]? = some (.cells #[.int .i64 0, .string ⟨#[]⟩, .int .i64 0, .int .i64 0] 52 (0, 0))) := Lib.hid (by rw [← hP]; exact hz1)
  have HKW := Lib.hid hK
  have HR1 := Lib.hid (HR.out.keep (Same.of_below (M := []) HB1.out))
  have HT1 := Lib.hid (HT.out.below HB1.out)
  have HW1 := Lib.hid hw1
  have HW0 := Lib.hid hw0
  obtain ⟨⟨y0, y1, y2⟩, _⟩ := blk3 HQ1.out
  obtain ⟨⟨z0, z1, z2, z3⟩, g0, g1, g2, g3⟩ := blk4 HZ1.out
  have hlK := blk_lt HQ1.out
  have hlP := blk_lt HZ1.out
  clear hKA hb0 hq0 hb1 hz1 hq1 hKP HR HT
  go_enter Tryd.func73, Tryd.ntmps73
  go_wp2_with fail
  clear hw0 hw1 hK hP
  go_loopg [7] (R.length + 1) (fun k s7 w' => ∃ m : Nat, s7 = .int .i64 m ∧ i + 1 ≤ m ∧ m ≤ R.length ∧ R.length - m < k ∧ m + quoN (R.drop m) = KA ∧ w' = w1)
  case atStart => exact ⟨i + 1, by go_num, Nat.le_refl _, by omega, by omega, HKA.out, rfl⟩
  case round =>
    obtain ⟨m, rfl, hm1, hm2, hmk, hans, rfl⟩ := hrel
    obtain ⟨gk, rfl⟩ : ∃ k, gk = k + 1 := ⟨gk - 1, by omega⟩
    have hm0 : (0 : Int) ≤ m := by omega
    have hmi : (i : Int) + 1 ≤ m := by omega
    by_cases hlt : m < R.length
    · have hltz : (m : Int) < R.length := by omega
      obtain ⟨ad, rfl⟩ := row_some HR1.out (by omega)
      obtain ⟨ad', e0, x0⟩ := int_at HR1.out m hlt
      injection e0 with e0
      subst e0
      have hlt2 := World.block_lt_of_cell? wr _ x0
      rw [drop_cons R m hlt] at hans
      obtain ⟨r, hr⟩ : ∃ r, R[m] = r := ⟨_, rfl⟩
      rw [hr] at x0 hans
      by_cases h10 : r = 10
      · subst h10
        have HE : Hid (QI = (zTok, 0, 11)) := Lib.hid (by
          rw [show quoN ((10 : Int) :: R.drop (m + 1)) = 0 from if_pos (.inr rfl)] at hans
          have hk := HKA.out
          rw [HX.out, show quoN (R.drop (i + 1)) = m - (i + 1) by omega, if_pos]
          rintro ⟨_, e⟩
          refine e ?_
          rw [List.getD_eq_getElem?_getD, List.getElem?_drop, show i + 1 + (m - (i + 1)) = m by omega, List.getElem?_eq_getElem hlt, hr]
          rfl)
        have hne : ((m : Int) == R.length) = false := beqf (by omega)
        clear hans hr
        go_wp2
        refine bodyPost_ret (v := .tuple #[.agg #[.int .i64 0, .string ⟨#[]⟩, .int .i64 0, .int .i64 0], .int .i64 0, .int .i64 11]) (by simp [results, Tryd.results73, go_sem, *]) rfl ?_
        exact ⟨by rw [HE.out]; rfl, below_set4' HB1.out (by rw [HKW.out]; exact Nat.le_of_lt HKP.out) _ _ _ _⟩
      · have h10b : (r != 10) = true := bnet h10
        have h10c : (r == 10) = false := beqf h10
        by_cases h34 : r = 34
        · subst h34
          obtain ⟨k0, hk0⟩ : ∃ k, quoN (R.drop (i + 1)) = k := ⟨_, rfl⟩
          rw [show quoN ((34 : Int) :: R.drop (m + 1)) = 0 from if_pos (.inl rfl)] at hans
          have hka := HKA.out
          have hmk : m = i + 1 + k0 := by omega
          obtain ⟨AN, hAN⟩ : ∃ x, ((R.drop (i + 1)).take k0).any (fun r => decide (r < 32)) = x := ⟨_, rfl⟩
          have HX2 : Hid (QI = if AN = true then (zTok, 0, 11) else if 20 < k0 then (zTok, 0, 2) else (⟨3, s.extract (BW (i + 1)) (BW m), 0, i⟩, ((m : Int) + 1), 0)) := Lib.hid (by
            rw [HX.out, hk0, if_neg, hAN, ← hmk, show ((i + (k0 + 2) : Nat) : Int) = (m : Int) + 1 by omega]
            · intro e
              refine e ⟨by rw [List.length_drop]; omega, ?_⟩
              rw [List.getD_eq_getElem?_getD, List.getElem?_drop, ← hmk, List.getElem?_eq_getElem hlt, hr]
              decide)
          have HAN : Hid (((R.drop (i + 1)).take (m - (i + 1))).any (fun r => decide (r < 32)) = AN) := Lib.hid (by rw [← hAN, show m - (i + 1) = k0 by omega])
          have hne : ((m : Int) == R.length) = false := beqf (by omega)
          have hmr : m ≤ R.length := hm2
          have HMK := Lib.hid hmk
          clear hans hr hk0 hka hAN HX hmk
          go_wp2_with fail
          go_loopg [8] (R.length + 1) (fun k s8 w' => ∃ q : Nat, s8 = .int .i64 q ∧ i + 1 ≤ q ∧ q ≤ m ∧ m - q < k ∧ ((R.drop q).take (m - q)).any (fun r => decide (r < 32)) = AN ∧ w' = wr)
          case atStart => exact ⟨i + 1, by go_num, Nat.le_refl _, by omega, by omega, HAN.out, rfl⟩
          case round =>
            obtain ⟨q, rfl, hq1, hq2, hqk, hans, rfl⟩ := hrel
            obtain ⟨gi, rfl⟩ : ∃ k, gk = k + 1 := ⟨gk - 1, by omega⟩
            have hq0 : (0 : Int) ≤ q := by omega
            by_cases hqm : q < m
            · have hqmz : (q : Int) < m := by omega
              have hqz : (q : Int) < R.length := by omega
              obtain ⟨ad', e0, v0⟩ := int_at HR1.out q (by omega)
              injection e0 with e0
              subst e0
              have hlt3 := World.block_lt_of_cell? wr _ v0
              rw [drop_cons R q (by omega), show m - q = (m - (q + 1)) + 1 by omega, List.take_succ_cons, List.any_cons] at hans
              generalize R[q]'(by omega) = u at v0 hans
              by_cases hu : u < 32
              · have HE : Hid (QI = (zTok, 0, 11)) := Lib.hid (by rw [HX2.out, ← hans, decide_eq_true hu]; rfl)
                clear hans
                go_wp2
                refine bodyPost_ret (v := .tuple #[.agg #[.int .i64 0, .string ⟨#[]⟩, .int .i64 0, .int .i64 0], .int .i64 0, .int .i64 11]) (by simp [results, Tryd.results73, go_sem, *]) rfl ?_
                exact ⟨by rw [HE.out]; rfl, below_set4' HB1.out (by rw [HKW.out]; exact Nat.le_of_lt HKP.out) _ _ _ _⟩
              · have HN : Hid (((R.drop (q + 1)).take (m - (q + 1))).any (fun r => decide (r < 32)) = AN) := Lib.hid (by rw [decide_eq_false hu] at hans; simpa using hans)
                have hu2 : 32 ≤ u := by omega
                clear hans hu
                go_wp2_with fail
                go_roundg gi
                case measure => omega
                case rel => exact ⟨q + 1, by go_num, by omega, by omega, by omega, HN.out, rfl⟩
            · obtain rfl : q = m := by omega
              rw [Nat.sub_self, List.take_zero, List.any_nil] at hans
              subst hans
              have hnl : ¬ ((q : Int) < q) := by omega
              by_cases h20 : 20 < k0
              · have HE : Hid (QI = (zTok, 0, 2)) := Lib.hid (by rw [HX2.out, if_neg (by decide), if_pos h20])
                have h20z : (20 : Int) < (q : Int) - i - 1 := by have := HMK.out; omega
                clear h20
                go_wp2
                refine bodyPost_ret (v := .tuple #[.agg #[.int .i64 0, .string ⟨#[]⟩, .int .i64 0, .int .i64 0], .int .i64 0, .int .i64 2]) (by simp [results, Tryd.results73, go_sem, *]) rfl ?_
                exact ⟨by rw [HE.out]; rfl, below_set4' HB1.out (by rw [HKW.out]; exact Nat.le_of_lt HKP.out) _ _ _ _⟩
              · have HE : Hid (QI = (⟨3, s.extract (BW (i + 1)) (BW q), 0, i⟩, ((q : Int) + 1), 0)) := Lib.hid (by rw [HX2.out, if_neg (by decide), if_neg h20])
                have h20z : (q : Int) - i - 1 ≤ 20 := by have := HMK.out; omega
                have HPC := Lib.hid (HP.out q wr HT1.out hq1 hmr)
                clear h20 HP
                go_wp2_with fail
                refine HPC.out.mono ?_
                rintro e w2 ⟨rfl, hb2⟩
                have HZ2 := Lib.hid ((hb2.block _ hlP).trans HZ1.out)
                have HB2 := Lib.hid (HB1.out.trans (hb2.mono HB1.out.size))
                clear z0 z1 z2 z3 g0 g1 g2 g3 y0 y1 y2 hlK hlP hb2
                obtain ⟨⟨z0, z1, z2, z3⟩, g0, g1, g2, g3⟩ := blk4 HZ2.out
                have hlP := blk_lt HZ2.out
                generalize s.extract (BW (i + 1)) (BW q) = tx at HE ⊢
                go_wp2
                refine bodyPost_ret (v := .tuple #[.agg #[.int .i64 3, .string tx, .int .i64 0, .int .i64 i], .int .i64 ((q : Int) + 1), .int .i64 0]) (by simp [results, Tryd.results73, go_sem, *]) rfl ?_
                exact ⟨by rw [HE.out], below_set4' HB2.out (by rw [HKW.out]; exact Nat.le_of_lt HKP.out) _ _ _ _⟩
        · have h34b : (r != 34) = true := bnet h34
          have HN : Hid ((m + 1) + quoN (R.drop (m + 1)) = KA) := Lib.hid (by
            rw [show quoN (r :: R.drop (m + 1)) = 1 + quoN (R.drop (m + 1)) from if_neg (by omega)] at hans
            omega)
          clear hans hr h10 h34
          go_wp2_with fail
          go_roundg gk
          case measure => omega
          case rel => exact ⟨m + 1, by go_num, by omega, by omega, by omega, HN.out, rfl⟩
    · obtain rfl : m = R.length := by omega
      have HE : Hid (QI = (zTok, 0, 11)) := Lib.hid (by
        rw [List.drop_length] at hans
        have hk := HKA.out
        have hz : quoN [] = 0 := rfl
        rw [HX.out, if_pos]
        rintro ⟨e, _⟩
        rw [List.length_drop] at e
        omega)
      have hnl : ¬ ((R.length : Int) < R.length) := by omega
      clear hans
      go_wp2
      refine bodyPost_ret (v := .tuple #[.agg #[.int .i64 0, .string ⟨#[]⟩, .int .i64 0, .int .i64 0], .int .i64 0, .int .i64 11]) (by simp [results, Tryd.results73, go_sem, *]) rfl ?_
      exact ⟨by rw [HE.out]; rfl, below_set4' HB1.out (by rw [HKW.out]; exact Nat.le_of_lt HKP.out) _ _ _ _⟩
end Go.Proofs.YtgaiheojlmebaaaDoor
