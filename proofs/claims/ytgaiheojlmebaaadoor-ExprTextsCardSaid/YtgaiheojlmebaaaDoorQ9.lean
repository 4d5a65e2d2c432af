/- Walks: the reference's Cut. -/
import Derived.Test.YtgaiheojlmebaaaDoorQ8
namespace Go.Proofs.YtgaiheojlmebaaaDoor
open Go Go.RowKit Go.Lib

theorem rowsOk_bad : ∀ (rs : List (Nat × Nat)) (k : Int) (p : Nat), rowsOk rs = false → badF k rs = k + (rowsF rs p).length
  | [], _, _, h => by cases h
  | r :: rs, k, p, h => by
    rw [rowsOk] at h
    rw [badF, rowsF]
    by_cases e : r = (65533, 1)
    · rw [if_pos e, if_pos e]; simp
    · rw [if_neg e] at h
      rw [if_neg e, if_neg e, rowsOk_bad rs (k + 1) (p + r.2) h, List.length_cons]
      omega
theorem rowsOk_vd {l : List UInt8} (h : rowsOk (runes l) = true) : Vd l := by
  rw [rowsOk_valid, List.all_eq_true] at h
  intro x hx e
  have := h x hx
  rw [e] at this
  simp at this
theorem suf_len {s : ByteArray} (i : Nat) : (suf_ s i).length = s.size - bw s.data.toList i := by unfold suf_; rw [List.length_drop, size_data]
theorem suf_end {s : ByteArray} (hv : Vd s.data.toList) : suf_ s (rv s.data.toList).length = [] := by
  unfold suf_
  rw [rv_len, bw_all hv, List.drop_length]
theorem tokT_ok {x : Tok × Nat × Int} {i : Nat} (h : x.2.2 = 0) : tokT x i = ({ x.1 with at_ := (i : Int) }, ((i + x.2.1 : Nat) : Int), 0) := if_pos h
theorem tokT_bad {x : Tok × Nat × Int} {i : Nat} (h : x.2.2 ≠ 0) : tokT x i = (zTok, 0, x.2.2) := if_neg h
theorem info_tok : (Tryd.prog.info? 52).map (fun i => (i.zero, i.size, i.bytes)) = some (some (.agg #[.int .i64 0, .string ⟨#[]⟩, .int .i64 0, .int .i64 0]), 4, 40) := by kernel_rfl
theorem bw_pos {l : List UInt8} (hl : l ≠ []) {k : Nat} (h : 1 ≤ k) : 1 ≤ bw l k := by
  obtain ⟨d, rfl⟩ : ∃ d, k = d + 1 := ⟨k - 1, by omega⟩
  have := decodeL_width l
  rw [bw_succ hl]
  omega
/-- A step of the cutting, by the place. -/
theorem cutI_step {s : ByteArray} (hv : Vd s.data.toList) {f i : Nat} {out : List Tok} (h : i < (rv s.data.toList).length) (ho : out.length ≠ 2000) {t : Tok} {cnt : Nat} (hx : tokX (suf_ s i) = (t, cnt, 0)) :
    i + cnt ≤ (rv s.data.toList).length ∧ (suf_ s (i + cnt + pastN false ((rv s.data.toList).drop (i + cnt)))).length < (suf_ s i).length ∧
      cutG (f + 1) (suf_ s i) i out = cutG f (suf_ s (i + cnt + pastN false ((rv s.data.toList).drop (i + cnt)))) ((i + cnt + pastN false ((rv s.data.toList).drop (i + cnt)) : Nat) : Int) (out ++ [{ t with at_ := (i : Int) }]) := by
  have hne := suf_ne hv h
  obtain ⟨hvx, hrx⟩ := sufx hv (Nat.le_of_lt h)
  obtain ⟨_, h2, h3⟩ := (tokX_is hne hvx).len (by rw [hx])
  rw [hx] at h2 h3
  simp only at h2 h3
  have hlen := rv_len (suf_ s i)
  rw [hrx, List.length_drop] at hlen
  have hj : i + cnt ≤ (rv s.data.toList).length := by omega
  have hp := pastN_le ((rv s.data.toList).drop (i + cnt)) false
  rw [List.length_drop] at hp
  obtain ⟨a1, a2⟩ := suf_add hv (k := cnt) (Nat.le_of_lt h)
  obtain ⟨b1, b2⟩ := suf_add hv (k := pastN false ((rv s.data.toList).drop (i + cnt))) hj
  have hb := bw_pos hne h2
  have hpos : 0 < (suf_ s i).length := List.length_pos_iff.2 hne
  refine ⟨hj, ?_, ?_⟩
  · rw [suf_len] at hpos ⊢
    rw [suf_len]
    omega
  · rw [cutX_step hne hvx ho (by rw [hx]), hx]
    simp only
    rw [← a2, (sufx hv hj).2, ← b2]
    rw [show (i : Int) + (cnt : Int) + (pastN false ((rv s.data.toList).drop (i + cnt)) : Int) = ((i + cnt + pastN false ((rv s.data.toList).drop (i + cnt)) : Nat) : Int) by omega]
/-- What the loop of Cut holds. -/
structure CutW (s : ByteArray) (w1 : World) (K : Nat) (A : Option Addr) (a : Nat) (B : Option Addr) (b L1 L2 : Nat) (base : Nat) (out : List Tok) (v : Value) (W : World) : Prop where
  txt : Txt W s A a B b
  box : TxB W K s (.slice A L1 a) (.slice B L2 b)
  own : W.ownsRow base 52 4 v out.length (out.flatMap tokE)
  below : Below base w1 W
theorem CutW.step {s : ByteArray} {w1 W W' : World} {K : Nat} {A : Option Addr} {a : Nat} {B : Option Addr} {b L1 L2 base : Nat} {out : List Tok} {v : Value} (h : CutW s w1 K A a B b L1 L2 base out v W) (hb : Below W.heap.size W W') (hs : base ≤ W.heap.size) : CutW s w1 K A a B b L1 L2 base out v W' :=
  ⟨h.txt.below hb, (hb.block K (blk_lt h.box)).trans h.box, own_below h.own hb, h.below.trans (hb.mono hs)⟩

set_option maxHeartbeats 16000000 in
set_option maxRecDepth 100000 in
theorem xcut_any (s : ByteArray) (w : World) (hs : s.size ≤ 9223372036854775806) : Calls Tryd.prog 27 #[.string s] w (CutPost s w) := by
  by_cases h1 : 8192 < s.size
  · have hz : (8192 : Int) < s.size := by omega
    have HX : Hid (cutB s = ([], 2, 0)) := by unfold cutB; rw [if_pos h1]; exact rfl
    clear h1
    go_enter Tryd.func27, Tryd.ntmps27
    go_wp2_with fail
    refine bodyPost_ret (results_tmp3 rfl _ _ _) rfl ?_
    exact cutPost_bad HX.out (Below.refl _ _)
  have hz : (s.size : Int) ≤ 8192 := by omega
  have hs8 : s.size ≤ 8192 := by omega
  have HRU := Lib.hid (xrunes_any s w (by omega))
  clear hs
  go_enter Tryd.func27, Tryd.ntmps27
  go_wp2_with fail
  refine HRU.out.mono ?_
  rintro r w1 ⟨R, Z, A, a, B, b, ok, hR, hZ, hok, rfl, hla, hlb, hra, hrb, hb1⟩
  have HB1 := Lib.hid hb1
  obtain ⟨w2, hw2⟩ : ∃ w', w1.alloc (.cells #[.string s, .slice A R.length a, .slice B Z.length b] 68 (0, 0)) = w' := ⟨_, rfl⟩
  have hb2 : Below w1.heap.size w1 w2 := hw2 ▸ (Below.refl _ _).alloc (Nat.le_refl _) _
  have hq2 : TxB w2 w1.heap.size s (.slice A R.length a) (.slice B Z.length b) := hw2 ▸ heap_alloc_new _ _
  have HB2 := Lib.hid (HB1.out.trans (hb2.mono HB1.out.size))
  cases ok
  · have HX : Hid (cutB s = ([], 10, (R.length : Int))) := Lib.hid (by
      have hbad := rowsOk_bad (runes s.data.toList) 0 0 hok.symm
      rw [← hR, Int.zero_add] at hbad
      unfold cutB
      rw [if_neg h1, hbad, if_pos (by omega)])
    obtain ⟨⟨y0, y1, y2⟩, _⟩ := blk3 hq2
    have hlK := blk_lt hq2
    have hmz : (R.length : Int) ≤ 9223372036854775807 := by have := hra.1; omega
    clear hR hZ hok hla hlb hra hrb hb1 hb2 hq2 HRU h1
    go_wp2_with fail
    go_quiet (fail)
    go_wp2_with fail
    refine bodyPost_ret (results_tmp3 rfl _ _ _) rfl ?_
    exact cutPost_bad HX.out (below_drewN HB2.out _)
  · have hv : Vd s.data.toList := rowsOk_vd hok.symm
    have hR2 : R = rv s.data.toList := by rw [hR]; exact rowsF_ok _ 0 hok.symm
    have hZ2 : Z = plc s.data.toList := hZ
    subst hR2 hZ2
    have HTX : Hid (Txt w2 s A a B b) := Lib.hid ⟨hv, hs8, hra.keep (Same.of_below hb2), hla, hrb.keep (Same.of_below hb2), hlb⟩
    have HV := Lib.hid hv
    obtain ⟨ANS, hANS⟩ : ∃ x, cutB s = x := ⟨_, rfl⟩
    have HX : Hid (cutG (s.size + 1) (suf_ s (pastN false (rv s.data.toList))) (pastN false (rv s.data.toList) : Nat) [] = ANS) := Lib.hid (by
      rw [← hANS]
      unfold cutB
      rw [if_neg h1, if_neg (by rw [badF_ok _ _ hv]; decide), skip_is _ _ hv]
      simp only [Int.zero_add]
      rfl)
    have HANS := Lib.hid hANS
    have HPA := Lib.hid (fun i W (hW : Txt W s A a B b) hi => xpast_any s A a B b i W hW hi)
    have HTK := Lib.hid (fun i W (hW : Txt W s A a B b) hi => xlex_any s A a B b i W hW hi)
    have hn := HTX.out.runes_le
    unfold txV at HPA HTK
    obtain ⟨K, hK⟩ : ∃ K, w1.heap.size = K := ⟨_, rfl⟩
    have H0 : Hid (CutW s w2 K A a B b (rv s.data.toList).length (plc s.data.toList).length w2.heap.size [] (.slice none 0 0) w2) := Lib.hid ⟨HTX.out, by rw [← hK]; exact hq2, ⟨rfl, .inl ⟨rfl, rfl⟩⟩, Below.refl _ _⟩
    obtain ⟨⟨y0, y1, y2⟩, _⟩ := blk3 H0.out.box
    have hlK := blk_lt H0.out.box
    have HP0 := HPA.out 0 w2 HTX.out (Nat.zero_le _)
    rw [Nat.zero_add, List.drop_zero, show ((0 : Nat) : Int) = 0 from rfl] at HP0
    have HPP := Lib.hid HP0
    have hp0 := pastN_le (rv s.data.toList) false
    obtain ⟨p0, hpp⟩ : ∃ p, pastN false (rv s.data.toList) = p := ⟨_, rfl⟩
    rw [hpp] at HX HPP hp0
    clear hR hZ hok hla hlb hra hrb hb1 hb2 hq2 HRU h1 hv hANS HP0 hpp
    go_wp2_with fail
    clear hw2 hK
    refine HPP.out.mono ?_
    rintro e w3 ⟨rfl, hb3⟩
    have H3 := Lib.hid (H0.out.step hb3 (Nat.le_refl _))
    have hs3 := hb3.size
    clear y0 y1 y2 hlK hb3
    go_wp2_with fail
    go_loopg [7, 8] (s.size + 1) (fun k s7 s8 w' => ∃ (i : Nat) (V : Option Addr) (c : Nat) (out : List Tok), s8 = .int .i64 i ∧ s7 = .slice V out.length c ∧ i ≤ (rv s.data.toList).length ∧ out.length ≤ 2000 ∧ (suf_ s i).length < k ∧ w2.heap.size ≤ w'.heap.size ∧
      CutW s w2 K A a B b (rv s.data.toList).length (plc s.data.toList).length w2.heap.size out (.slice V out.length c) w' ∧ cutG k (suf_ s i) i out = ANS)
    case atStart => exact ⟨p0, none, 0, [], rfl, rfl, hp0, by simp, by rw [suf_len]; omega, hs3, H3.out, HX.out⟩
    case round =>
      obtain ⟨i, V, c, out, rfl, rfl, hi, ho, hik, hsr, hcw, hans⟩ := hrel
      obtain ⟨gk, rfl⟩ : ∃ k, gk = k + 1 := ⟨gk - 1, by omega⟩
      have H := Lib.hid hcw
      have HA := Lib.hid hans
      have hi0 : (0 : Int) ≤ i := by omega
      have hnz : ((rv s.data.toList).length : Int) ≤ 8192 := by omega
      have hoz : (out.length : Int) ≤ 2000 := by omega
      obtain ⟨⟨y0, y1, y2⟩, _⟩ := blk3 hcw.box
      have hlK := blk_lt hcw.box
      clear hcw hans HX HPP
      by_cases hlt : i < (rv s.data.toList).length
      · have hltz : (i : Int) < (rv s.data.toList).length := by omega
        have hne := suf_ne HV.out hlt
        have HNE := Lib.hid hne
        have hvx := (sufx HV.out (Nat.le_of_lt hlt)).1
        have HVX := Lib.hid hvx
        by_cases hout : out.length = 2000
        · have hob : ((out.length : Int) == 2000) = true := beq_iff_eq.2 (by omega)
          have HE : Hid (cutB s = ([], 2, (i : Int))) := Lib.hid (by rw [HANS.out, ← HA.out, cutG_many hne hout])
          clear hne hvx hout
          go_wp2_with fail
          refine bodyPost_ret (results_tmp3 rfl _ _ _) rfl ?_
          exact cutPost_bad HE.out (HB2.out.trans (H.out.below.mono HB2.out.size))
        · have hob : ((out.length : Int) == 2000) = false := beqf (by omega)
          obtain ⟨⟨⟨tk, tx, tn, ta⟩, cnt, te⟩, hx⟩ : ∃ x, tokX (suf_ s i) = x := ⟨_, rfl⟩
          have hst := HTK.out i wr H.out.txt hlt
          rw [hx] at hst
          by_cases he : te = 0
          · subst he
            rw [tokT_ok rfl] at hst
            obtain ⟨s1, s2, s3⟩ := cutI_step (f := gk) HV.out hlt hout hx
            rw [HA.out] at s3
            obtain ⟨j, hj⟩ : ∃ j, i + cnt = j := ⟨_, rfl⟩
            unfold TkPost at hst
            simp only at hst
            rw [hj] at s1 s2 s3 hst
            have hpl := pastN_le ((rv s.data.toList).drop j) false
            rw [List.length_drop] at hpl
            obtain ⟨i2, hi2⟩ : ∃ k, j + pastN false ((rv s.data.toList).drop j) = k := ⟨_, rfl⟩
            have HPS : Hid (∀ W, Txt W s A a B b → Calls Tryd.prog 41 #[.agg #[.string s, .slice A (rv s.data.toList).length a, .slice B (plc s.data.toList).length b], .int .i64 j] W fun r w' => r = .returned (.int .i64 i2) ∧ Below W.heap.size W w') := Lib.hid (fun W hW => by have := HPA.out j W hW s1; rwa [hi2] at this)
            rw [hi2] at s2 s3
            have hi2n : i2 ≤ (rv s.data.toList).length := by omega
            have HST := Lib.hid hst
            have HS3 := Lib.hid s3.symm
            have HS2 := Lib.hid s2
            clear hne hvx hx hst s3 s2 hj hi2 hpl s1
            go_wp2_with fail
            refine HST.out.mono ?_
            rintro r w4 ⟨rfl, hb4⟩
            have H4 := Lib.hid (H.out.step hb4 hsr)
            have hs4 : w2.heap.size ≤ w4.heap.size := Nat.le_trans hsr hb4.size
            clear y0 y1 y2 hlK hb4
            obtain ⟨w5, hw5⟩ : ∃ w', w4.alloc (.cells #[.int .i64 tk, .string tx, .int .i64 tn, .int .i64 i] 52 (0, 0)) = w' := ⟨_, rfl⟩
            have hb5 : Below w4.heap.size w4 w5 := hw5 ▸ (Below.refl _ _).alloc (Nat.le_refl _) _
            have hq5 : w5.heap[w4.heap.size]? = some (.cells #[.int .i64 tk, .string tx, .int .i64 tn, .int .i64 i] 52 (0, 0)) := hw5 ▸ heap_alloc_new _ _
            have H5 := Lib.hid (H4.out.step hb5 hs4)
            have hs5 : w2.heap.size ≤ w5.heap.size := Nat.le_trans hs4 hb5.size
            obtain ⟨⟨z0, z1, z2, z3⟩, _⟩ := blk4' hq5
            have hl5 := blk_lt hq5
            obtain ⟨i0, hi0', hz0, hz1, hz2⟩ := info_parts info_tok
            clear hb5 hq5
            go_wp2_with (at_builtin; refine wpList_append_lies _ (by rfl) _ _ _ (by rfl) w2.heap.size 52 i0 _ 4 40 Tryd.underlying31 hi0' hz0 hz1 hz2 rfl (by omega) (.slice V out.length c) out.length (out.flatMap tokE) (by rfl) (H5.out.own.alloc _) ⟨w5.heap.size, 0, none⟩ 1 1 [.int .i64 tk, .string tx, .int .i64 tn, .int .i64 i] (by rfl) (by rfl) (World.news_of_block (cs := #[.int .i64 tk, .string tx, .int .i64 tn, .int .i64 i]) (t := 52) (fr := (0, 0)) (heap_alloc_new w5 _)) (by simp [Value.oneCell']) (by omega) (by unfold maxLen; omega) (by omega) (by simp; omega) (w5.heap.size + 1) (by simp) ?_; intro g cap w6 hown6 hgrow hat hlt6; refine Hid.out ?_)
            refine Lib.hid ?_
            have hS6 : Same [] w2 w6 := ((Same.of_below (M := []) H5.out.below).alloc _).grown hgrow (fun k hk => .inr (own_block H5.out.own k hk).1)
            have hb6 := hS6.below
            have hl1 : (out ++ [(⟨tk, tx, tn, i⟩ : Tok)]).length = out.length + 1 := by simp
            have H6 : Hid (CutW s w2 K A a B b (rv s.data.toList).length (plc s.data.toList).length w2.heap.size (out ++ [(⟨tk, tx, tn, i⟩ : Tok)]) (.slice (some ⟨g, 0, none⟩) (out ++ [(⟨tk, tx, tn, i⟩ : Tok)]).length cap) w6) := Lib.hid ⟨HTX.out.below hb6, (hb6.block K (blk_lt H0.out.box)).trans H0.out.box, by rw [List.flatMap_append, hl1]; exact hown6, hb6⟩
            have hs6 := hb6.size
            clear hS6 hb6 hown6 hgrow hat hlt6 z0 z1 z2 z3 hl5 hw5 hs4 hs5 hi0' hz0 hz1 hz2
            obtain ⟨⟨y0, y1, y2⟩, _⟩ := blk3 H6.out.box
            have hlK := blk_lt H6.out.box
            go_wp2_with fail
            refine (HPS.out w6 H6.out.txt).mono ?_
            rintro r w7 ⟨rfl, hb7⟩
            have H7 := Lib.hid (H6.out.step hb7 hs6)
            have hs7 := Nat.le_trans hs6 hb7.size
            clear y0 y1 y2 hlK hb7
            go_wp2_with fail
            go_roundg gk
            case measure => omega
            case rel => exact ⟨i2, some ⟨g, 0, none⟩, cap, out ++ [⟨tk, tx, tn, i⟩], rfl, by rw [hl1], hi2n, by rw [hl1]; omega, by have := HS2.out; omega, hs7, H7.out, HS3.out⟩
          · have hE := cutX_bad (f := gk) (a := (i : Int)) (out := out) hne hvx hout (by rw [hx]; exact he)
            rw [hx, HA.out] at hE
            have HE : Hid (cutB s = ([], te, (i : Int))) := Lib.hid (by rw [HANS.out, hE])
            rw [tokT_bad (x := (⟨tk, tx, tn, ta⟩, cnt, te)) he] at hst
            unfold TkPost zTok at hst
            simp only at hst
            have HST := Lib.hid hst
            have heb : (te != 0) = true := bnet he
            clear hne hvx hx hst hE he
            go_wp2_with fail
            refine HST.out.mono ?_
            rintro r w4 ⟨rfl, hb4⟩
            have H4 := Lib.hid (H.out.step hb4 hsr)
            have hs4 : w2.heap.size ≤ w4.heap.size := Nat.le_trans hsr hb4.size
            clear y0 y1 y2 hlK hb4
            go_wp2_with fail
            refine bodyPost_ret (results_tmp3 rfl _ _ _) rfl ?_
            exact cutPost_bad HE.out (HB2.out.trans ((H4.out.below.alloc hs4 _).mono HB2.out.size))
      · obtain rfl : i = (rv s.data.toList).length := by omega
        have hE := HA.out
        rw [suf_end HV.out, cutG_end] at hE
        have HE : Hid (cutB s = (out ++ [⟨0, ⟨#[]⟩, 0, ((rv s.data.toList).length : Int)⟩], 0, 0)) := Lib.hid (by rw [HANS.out, hE])
        have hnl : ¬ (((rv s.data.toList).length : Int) < (rv s.data.toList).length) := by omega
        obtain ⟨i0, hi0', hz0, hz1, hz2⟩ := info_parts info_tok
        obtain ⟨n, hnn⟩ : ∃ n, (rv s.data.toList).length = n := ⟨_, rfl⟩
        clear hE
        go_wp2_with (at_builtin; refine wpList_append_lies _ (by rfl) _ _ _ (by rfl) w2.heap.size 52 i0 _ 4 40 Tryd.underlying31 hi0' hz0 hz1 hz2 rfl (by omega) (.slice V out.length c) out.length (out.flatMap tokE) (by rfl) (H.out.own.alloc _) ⟨wr.heap.size, 0, none⟩ 1 1 [.int .i64 0, .string ⟨#[]⟩, .int .i64 0, .int .i64 n] (by rfl) (by rfl) (World.news_of_block (cs := #[.int .i64 0, .string ⟨#[]⟩, .int .i64 0, .int .i64 n]) (t := 52) (fr := (0, 0)) (heap_alloc_new wr _)) (by simp [Value.oneCell']) (by omega) (by unfold maxLen; omega) (by omega) (by simp; omega) (wr.heap.size + 1) (by simp) ?_; intro g cap w6 hown6 hgrow hat hlt6; refine Hid.out ?_)
        refine Lib.hid ?_
        have hS6 : Same [] w2 w6 := ((Same.of_below (M := []) H.out.below).alloc _).grown hgrow (fun k hk => .inr (own_block H.out.own k hk).1)
        have HW6 := Lib.hid (HB2.out.trans (hS6.below.mono HB2.out.size))
        have ho6 : w6.ownsRow w2.heap.size 52 4 (.slice (some ⟨g, 0, none⟩) (out.length + 1) cap) (out ++ [(⟨0, ⟨#[]⟩, 0, (n : Int)⟩ : Tok)]).length ((out ++ [(⟨0, ⟨#[]⟩, 0, (n : Int)⟩ : Tok)]).flatMap tokE) := by
          rw [List.flatMap_append, List.length_append]
          exact hown6
        have HO6 := Lib.hid ho6
        have HE2 : Hid (cutB s = (out ++ [⟨0, ⟨#[]⟩, 0, (n : Int)⟩], 0, 0)) := Lib.hid (by rw [← hnn]; exact HE.out)
        clear hS6 ho6 hown6 hgrow hat hlt6 y0 y1 y2 hlK hi0' hz0 hz1 hz2
        go_wp2_with fail
        refine bodyPost_ret (results_tmp3 rfl _ _ _) rfl ?_
        exact cutPost_ok HE2.out HO6.out HB2.out.size HW6.out
end Go.Proofs.YtgaiheojlmebaaaDoor
