/- Part 22 of the proof of rtexts_card; no conditions. -/
import Derived.Test.YtgcfjkfipkfijaaGreatDoorTx21
import Derived.Test.YtgcfjkfipkfijaaGreatDoorTx01
import Derived.Test.YtgcfjkfipkfijaaGreatDoorTx07
import Derived.Test.YtgcfjkfipkfijaaGreatDoorTx18
import Derived.Lib.IndexBytes
namespace Go.Proofs.YtgcfjkfipkfijaaGreatDoor
open Go Go.RowKit Go.Lib
section
variable {l : List Tok} {g c b0 more of n b : Nat} {A B : Option Addr} {s : RS} {w : World} {nm pV : Value} {qs : List NQ} {m : Int} {nd : RS → Pc × RS}
theorem modify_mid {xs ys : List Nd} {x : Nd} {i : Nat} (h : xs.length = i) (f : Nd → Nd) : (xs ++ x :: ys).modify i f = xs ++ f x :: ys := by subst h; exact modify_last xs ys x f
theorem choice_nodes {xs : List Nd} {n of n7 : Nat} (hq : xs.length = n) (hof : of < n) (e : Ex) (a b : List Pc) (h7 : n7 = n + 2 + (numPs ((n + 1 + 1 : Nat) : Int) a).1.length) :
  (((((xs ++ [(⟨4, [], [], ⟨#[]⟩, [], e⟩ : Nd)]).modify of (kidsOn [(n : Int)]) ++ [(q0R 0).nd]).modify n (kidsOn [((n + 1 : Nat) : Int)])).modify (n + 1) (kidsOn (numPs ((n + 1 + 1 : Nat) : Int) a).2) ++ (numPs ((n + 1 + 1 : Nat) : Int) a).1 ++ [(q0R 0).nd]).modify n (kidsOn [(n7 : Int)])).modify n7 (kidsOn (numPs ((n7 + 1 : Nat) : Int) b).2) ++ (numPs ((n7 + 1 : Nat) : Int) b).1
        = xs.modify of (kidsOn [(n : Int)]) ++ numP n (.choice e a b) := by
 rw [numP]
 have c2 : (n : Int) + 2 = ((n + 1 + 1 : Nat) : Int) := by omega
 rw [c2]
 obtain ⟨P, hP⟩ : ∃ P, numPs ((n + 1 + 1 : Nat) : Int) a = P := ⟨_, rfl⟩
 rw [hP] at h7 ⊢
 have c3 : (n : Int) + 3 + P.1.length = ((n7 + 1 : Nat) : Int) := by omega
 have c4 : ((n + 1 + 1 : Nat) : Int) + P.1.length = (n7 : Int) := by omega
 have c5 : (n : Int) + 1 = ((n + 1 : Nat) : Int) := by omega
 simp only [c3, c4, c5]
 obtain ⟨R, hR⟩ : ∃ R, numPs ((n7 + 1 : Nat) : Int) b = R := ⟨_, rfl⟩
 rw [hR, modify_left (by omega : of < xs.length)]
 obtain ⟨Y, hY⟩ : ∃ Y, xs.modify of (kidsOn [(n : Int)]) = Y := ⟨_, rfl⟩
 have hYl : Y.length = n := by rw [← hY, List.length_modify, hq]
 rw [hY]
 have s1 : ∀ f, (Y ++ [(⟨4, [], [], ⟨#[]⟩, [], e⟩ : Nd)] ++ [(q0R 0).nd]).modify n f = Y ++ f ⟨4, [], [], ⟨#[]⟩, [], e⟩ :: [(q0R 0).nd] := fun f => by rw [List.append_assoc]; exact modify_mid hYl f
 have s2 : ∀ N f, (Y ++ N :: [(q0R 0).nd]).modify (n + 1) f = Y ++ N :: [f (q0R 0).nd] := fun N f => by
  have := modify_mid (xs := Y ++ [N]) (ys := []) (x := (q0R 0).nd) (i := n + 1) (by rw [List.length_append, hYl]; rfl) f
  simpa using this
 have s3 : ∀ N Z f, (Y ++ N :: [Z] ++ P.1 ++ [(q0R 0).nd]).modify n f = Y ++ f N :: (Z :: (P.1 ++ [(q0R 0).nd])) := fun N Z f => by
  have := modify_mid (xs := Y) (ys := Z :: (P.1 ++ [(q0R 0).nd])) (x := N) hYl f
  simpa using this
 have s4 : ∀ N Z f, (Y ++ N :: (Z :: (P.1 ++ [(q0R 0).nd]))).modify n7 f = Y ++ N :: (Z :: (P.1 ++ [f (q0R 0).nd])) := fun N Z f => by
  have := modify_mid (xs := Y ++ N :: Z :: P.1) (ys := []) (x := (q0R 0).nd) (i := n7) (by simp only [List.length_append, List.length_cons]; omega) f
  simpa using this
 rw [s1, s2, s3, s4]
 simp [kidsOn, q0R]
set_option maxHeartbeats 8000000 in
set_option maxRecDepth 100000 in
theorem ynode_if (T : Toks l) (hl : l.length ≤ 2001) (hn : NodeX l g A c b0 nm pV (m + 1) nd) (hon : NodeOn l (m + 1) nd) (h : YSt l g A c b0 more nm pV w s B n b qs) (hb : s.bad = 0) (hm : m ≤ s.nodes) (hof : of < n) (hfit : n + more + 3 ≤ 24) (y : ByteArray) (hyk : y = ⟨#[105, 102]⟩) (hy : keyP (tokAt l s.at_) = y) :
  Calls Tryz.prog 63 #[.pointer (some ⟨g, 0, none⟩), .int .i64 of, .int .i64 more] w (YNd l g A c b0 more nm pV B n b qs of [(n : Int)] (numP n (nodeS l (blockP l nd) y s).1) (nodeS l (blockP l nd) y s).2 w) := by
 obtain ⟨hB, hE⟩ := h.begin hb 3 hfit
 have hE1 : rBegin 3 s = ⟨s.at_, s.bad, s.nodes + 3⟩ := hE
 have htk := takes_word (k := s.nodes + 3) hb hy
 have hmt := must_takes htk
 obtain ⟨s1, h1⟩ : ∃ x, (rTakes l y ⟨s.at_, s.bad, s.nodes + 3⟩).2 = x := ⟨_, rfl⟩
 rw [h1] at hmt
 have HQ := Lib.hid (⟨hE1, h1⟩ : _ ∧ _)
 have hnx : nextT l s = tokAt l s.at_ := if_pos hb
 have HNX := Lib.hid (ynext_any h.xn.rdr)
 have hts := nextT_text T s
 have HKY := Lib.hid (fun W => ykey_any (nextT l s) W hts)
 rw [hnx] at HNX
 simp only [hnx, hy] at HKY
 have H := Lib.hid (⟨h, hB, hmt⟩ : _ ∧ _ ∧ _)
 clear h hB hE hE1 htk hmt h1 hnx hts hy
 subst hyk
 go_enter Tryz.func63, Tryz.ntmps63
 go_wp2_with fail
 refine HNX.out.mono ?_
 rintro e w1 ⟨rfl, hb1⟩
 have HW1 := Lib.hid ((YW.refl H.out.2.1).below hb1)
 clear hb1
 go_wp2_with fail
 refine (HKY.out w1).mono ?_
 rintro e w2 ⟨rfl, hb2⟩
 have HW2 := Lib.hid (HW1.out.below hb2)
 obtain ⟨⟨q0, q1, q2, q3, q4, q5⟩, _⟩ := blk6 HW2.out.st.xn.rdr.rd
 have hgl := HW2.out.st.xn.rdr.lt
 clear hb2
 go_wp2_with fail
 refine (ymust_any T HW2.out.st.xn.rdr ⟨#[105, 102]⟩ (by decide)).mono ?_
 have hmt := H.out.2.2
 have hon1 := rMust_on T.fin ⟨#[105, 102]⟩ (by decide) HW2.out.st.xn.rdr.inr
 have hct := must_cnt (l := l) (s := ⟨s.at_, s.bad, s.nodes + ((3 : Nat) : Int)⟩) (x := ⟨#[105, 102]⟩)
 rw [show (s.nodes + ((3 : Nat) : Int)) = s.nodes + 3 from rfl] at hon1 hct ⊢
 rw [hmt] at hon1 hct ⊢
 rintro e w3 ⟨rfl, hr3, hs3⟩
 have HW3 := Lib.hid (HW2.out.step hs3 hr3 hon1.1 hct)
 have hm1 : m + 1 ≤ s1.nodes := by have h1 := hon1.2; simp only at h1; omega
 clear hr3 hs3 hon1 hct hmt q0 q1 q2 q3 q4 q5 hgl
 obtain ⟨⟨e0, s2⟩, h2⟩ : ∃ x, rExpr l s1 = x := ⟨_, rfl⟩
 have hxa := yexpr_any hl HW3.out.st.xn.rdr
 have hon2 := rExpr_on T.take HW3.out.st.xn.rdr.inr
 have hct2 := expr_cnt (l := l) (s := s1)
 rw [h2] at hxa hon2 hct2
 have HX := Lib.hid (⟨hxa, hon2, hct2, h2⟩ : _ ∧ _ ∧ _ ∧ _)
 clear hxa hon2 hct2 h2
 go_wp2_with fail
 refine HX.out.1.mono ?_
 rintro e w4 ⟨eB, ed, rfl, hx4, hr4, hs4⟩
 simp only at hx4 hr4
 have HW4 := Lib.hid (HW3.out.step hs4 hr4 HX.out.2.1.1 HX.out.2.2.1)
 have hrs : Rest (fun k => k < b0 ∨ k ∈ blks (.slice B n b) qs) w4 ⟨⟨4, [], [], ⟨#[]⟩, [], e0⟩, none, 0, none, 0, none, 0, eB, ed⟩ := ⟨(q0R_rest _ _ 0).us, (q0R_rest _ _ 0).gs, hx4.more (fun k hk => .inl (by
  have h0 := HW3.out.st.xn.lo
  rcases hk with hk | hk
  ·omega
  ·exact (HW3.out.st.xn.nodes.lt k hk).2))⟩
 have HAD := Lib.hid (yadd_any HW4.out.st.xn of hof (by omega) (fun q hq => by have := HW4.out.st.kids q hq; omega) ⟨⟨4, [], [], ⟨#[]⟩, [], e0⟩, none, 0, none, 0, none, 0, eB, ed⟩ rfl rfl hrs)
 clear hx4 hr4 hs4 hrs
 go_wp2_with fail
 refine HAD.out.mono ?_
 rintro e w5 ⟨rfl, B5, b5, qs5, hx5, hm5, hs5, hk5⟩
 have HW5 := Lib.hid (HW4.out.add (q0 := ⟨⟨4, [], [], ⟨#[]⟩, [], e0⟩, none, 0, none, 0, none, 0, eB, ed⟩) rfl hof hx5 hm5 hs5 hk5)
 clear hx5 hm5 hs5 hk5
 have HAD2 := Lib.hid (yadd_any HW5.out.st.xn n (Nat.lt_succ_self n) (by omega) (fun q hq => by have := HW5.out.st.kids q hq; omega) (q0R 0) rfl rfl (q0R_rest _ _ _))
 go_wp2_with fail
 refine HAD2.out.mono ?_
 rintro e w6 ⟨rfl, B6, b6, qs6, hx6, hm6, hs6, hk6⟩
 have HW6 := Lib.hid (HW5.out.add (q0 := q0R 0) rfl (Nat.lt_succ_self n) hx6 hm6 hs6 hk6)
 clear hx6 hm6 hs6 hk6
 have hm2 : m + 1 ≤ s2.nodes := by have h1 := HX.out.2.1.2; have h2 := hm1; omega
 have hadd : IntKind.i64.wrap ((more : Int) + 1) = more + 1 := IntWalk.i64_in _ (by omega)
 have hbd := ybody_any T hn hon HW6.out.st hm2 (Nat.lt_succ_self (n + 1))
 rw [show ((more + 1 : Nat) : Int) = (more : Int) + 1 by omega] at hbd
 have HBD := Lib.hid hbd
 clear hbd
 go_wp2_with fail
 refine HBD.out.mono ?_
 rintro e w7 ⟨rfl, B7, n7, b7, qs7, hY⟩
 have HW7 := Lib.hid (HW6.out.body block_bad hY)
 have hl7 : n + 1 + 1 ≤ n7 := hY.len
 clear hY
 have hf7 := HW7.out.st.fit
 have HAD3 := Lib.hid (yadd_any HW7.out.st.xn n (by omega) (by omega) (fun q hq => by have := HW7.out.st.kids q hq; omega) (q0R 0) rfl rfl (q0R_rest _ _ _))
 go_wp2_with fail
 refine HAD3.out.mono ?_
 rintro e w8 ⟨rfl, B8, b8, qs8, hx8, hm8, hs8, hk8⟩
 have HW8 := Lib.hid (HW7.out.add (q0 := q0R 0) rfl (by omega) hx8 hm8 hs8 hk8)
 clear hx8 hm8 hs8 hk8
 obtain ⟨⟨qe, s9⟩, h9⟩ : ∃ x, rTakes l wElse (blockP l nd s2).2 = x := ⟨_, rfl⟩
 have h7' : (blockP l nd s2).2.bad = 0 → n7 = n + 2 + (numPs ((n + 1 + 1 : Nat) : Int) (blockP l nd s2).1).1.length := fun hb => by
  have h1 := congrArg List.length (HW7.out.nds hb)
  have h2 := HW7.out.st.xn.nodes.len
  have h3 := HW7.out.was
  simp only [List.length_map, List.length_append, List.length_modify, List.length_singleton] at h1
  omega
 have HL7 := Lib.hid h7'
 have HT9 := Lib.hid h9
 have hXif : nodeS l (blockP l nd) ⟨#[105, 102]⟩ s = if qe = true then (.choice e0 (blockP l nd s2).1 (blockP l nd s9).1, (blockP l nd s9).2) else (.choice e0 (blockP l nd s2).1 [], s9) := by
  have hA : nodeS l (blockP l nd) ⟨#[105, 102]⟩ s = (if (rTakes l wElse (blockP l nd (rExpr l (rTakes l ⟨#[105, 102]⟩ (rBegin 3 s)).2).2).2).1 = true then (.choice (rExpr l (rTakes l ⟨#[105, 102]⟩ (rBegin 3 s)).2).1 (blockP l nd (rExpr l (rTakes l ⟨#[105, 102]⟩ (rBegin 3 s)).2).2).1 (blockP l nd (rTakes l wElse (blockP l nd (rExpr l (rTakes l ⟨#[105, 102]⟩ (rBegin 3 s)).2).2).2).2).1, (blockP l nd (rTakes l wElse (blockP l nd (rExpr l (rTakes l ⟨#[105, 102]⟩ (rBegin 3 s)).2).2).2).2).2) else (.choice (rExpr l (rTakes l ⟨#[105, 102]⟩ (rBegin 3 s)).2).1 (blockP l nd (rExpr l (rTakes l ⟨#[105, 102]⟩ (rBegin 3 s)).2).2).1 [], (rTakes l wElse (blockP l nd (rExpr l (rTakes l ⟨#[105, 102]⟩ (rBegin 3 s)).2).2).2).2)) := by
   unfold nodeS
   rw [if_neg (by decide), if_neg (by decide), if_pos (by decide)]
  rw [hA, HQ.out.1, HQ.out.2, HX.out.2.2.2]
  simp only
  rw [h9]
 have HXI := Lib.hid hXif
 have HI := Lib.hid (yis_any T HW8.out.st.xn.rdr wElse (by decide))
 rw [h9] at HI
 clear h9 h7' hXif
 cases qe with
 | false =>
  have hno := takes_no (l := l) (x := wElse) (s := (blockP l nd s2).2) (by rw [HT9.out])
  rw [HT9.out] at hno
  simp only at hno
  subst hno
  go_wp2_with fail
  refine HI.out.mono ?_
  rintro e w9 ⟨rfl, hb9⟩
  have HW9 := Lib.hid (HW8.out.below hb9)
  clear hb9
  go_wp2_with fail
  go_end0
  rw [HXI.out, if_neg (by decide)]
  refine ⟨rfl, B8, n7 + 1, b8, qs8, HW9.out.way (fun hb => ?_)⟩
  have h1 := choice_nodes (xs := qs.map (·.nd)) (by rw [List.length_map]; exact HW9.out.was) hof e0 (blockP l nd s2).1 [] (HL7.out hb)
  rw [numPs_nil] at h1
  rw [← h1, modify_nil, List.append_nil]
 | true =>
  have hmt9 := must_takes (l := l) (x := wElse) (s := (blockP l nd s2).2) (by rw [HT9.out])
  have hok9 := takes_ok (l := l) (x := wElse) (s := (blockP l nd s2).2) (by rw [HT9.out])
  have hb8 : (blockP l nd s2).2.bad = 0 := by
   have := must_cnt (l := l) (x := wElse) (s := (blockP l nd s2).2)
   rw [hmt9] at this
   exact (this hok9).1
  have hn9 := must_cnt (l := l) (x := wElse) (s := (blockP l nd s2).2)
  rw [hmt9] at hn9
  rw [HT9.out] at hmt9 hok9 hn9
  simp only at hmt9 hok9 hn9
  have HM9 := Lib.hid (⟨hmt9, hn9, hb8⟩ : _ ∧ _ ∧ _)
  clear hmt9 hok9 hn9 hb8
  go_wp2_with fail
  refine HI.out.mono ?_
  rintro e w9 ⟨rfl, hb9⟩
  have HW9 := Lib.hid (HW8.out.below hb9)
  clear hb9
  go_wp2_with fail
  refine (ymust_any T HW9.out.st.xn.rdr wElse (by decide)).mono ?_
  have hon9 := rMust_on T.fin wElse (by decide) HW9.out.st.xn.rdr.inr
  rw [HM9.out.1] at hon9 ⊢
  rintro e w10 ⟨rfl, hr10, hs10⟩
  have HW10 := Lib.hid (HW9.out.step hs10 hr10 hon9.1 HM9.out.2.1)
  have hm9 : m + 1 ≤ s9.nodes := by
   have h1 := hon9.2
   have h2 := (blockP_on T.fin hon HX.out.2.1.1 hm2).2
   omega
  clear hr10 hs10 hon9
  have HBD2 := Lib.hid (ybody_any T hn hon HW10.out.st hm9 (Nat.lt_succ_self n7))
  go_wp2_with fail
  refine HBD2.out.mono ?_
  rintro e w11 ⟨rfl, B11, n11, b11, qs11, hY⟩
  have HW11 := Lib.hid (HW10.out.body block_bad hY)
  clear hY
  go_wp2_with fail
  go_end0
  rw [HXI.out, if_pos trivial]
  refine ⟨rfl, B11, n11, b11, qs11, HW11.out.way (fun hb => ?_)⟩
  exact choice_nodes (xs := qs.map (·.nd)) (by rw [List.length_map]; exact HW11.out.was) hof e0 (blockP l nd s2).1 (blockP l nd s9).1 (HL7.out HM9.out.2.2)
end
end Go.Proofs.YtgcfjkfipkfijaaGreatDoor
namespace Go.Proofs.YtgcfjkfipkfijaaGreatDoor
open Go Go.RowKit Go.Lib
section
variable {l : List Tok} {g c b0 more of n b : Nat} {A B : Option Addr} {s : RS} {w : World} {nm pV : Value} {qs : List NQ} {m : Int} {nd : RS → Pc × RS}
def q0U (us : List ByteArray) (U : Option Addr) (u : Nat) : NQ := ⟨⟨2, [], us, ⟨#[]⟩, [], zEx⟩, none, 0, U, u, none, 0, none, 0⟩
theorem unit_nodes {us : List ByteArray} {U : Option Addr} {u : Nat} (hq : qs.length = n) (hof : of < n) (ps : List Pc) : ((qs.map (·.nd) ++ [(q0U us U u).nd]).modify of (kidsOn [(n : Int)])).modify n (kidsOn (numPs ((n + 1 : Nat) : Int) ps).2) ++ (numPs ((n + 1 : Nat) : Int) ps).1 = (qs.map (·.nd)).modify of (kidsOn [(n : Int)]) ++ numP n (.row 2 us ps) := by
 rw [modify_left (by rw [List.length_map]; omega)]
 have hl : ((qs.map (·.nd)).modify of (kidsOn [(n : Int)])).length = n := by rw [List.length_modify, List.length_map, hq]
 have h1 := modify_last ((qs.map (·.nd)).modify of (kidsOn [(n : Int)])) [] (q0U us U u).nd (kidsOn (numPs ((n + 1 : Nat) : Int) ps).2)
 rw [hl] at h1
 rw [h1, numP, List.append_assoc, show ((n + 1 : Nat) : Int) = (n : Int) + 1 by omega]
 rfl
structure YUn (l : List Tok) (g : Nat) (A : Option Addr) (c : Nat) (t : RT) (w0 wr : World) (U : Option Addr) (u : Nat) (us : List ByteArray) (s0 s : RS) : Prop where
 rows : GrowB Kind.str 9 w0.heap.size (fun k => k < w0.heap.size) wr U us.length u (us.map sE)
 rdr : Xdr l g A c wr s t
 same : Same [g] w0 wr
 cnt : NoCnt s0 s
 lt : g < w0.heap.size
theorem YUn.step {U : Option Addr} {u : Nat} {us : List ByteArray} {s0 s' : RS} {w0 wr w' : World} {t : RT} (h : YUn l g A c t w0 wr U u us s0 s) (hs : Same [g] wr w') (hr : XdP w' g A l.length c s' t) (hi : InR l s') (hn : NoCnt s s') : YUn l g A c t w0 w' U u us s0 s' :=
 have hl := h.lt
 ⟨h.rows.keepS hs (fun k hk e => by simp at hk; have := (h.rows.blk k e).1; omega), h.rdr.next hr hs (fun k hk => by simp at hk; omega) hi, h.same.then_ hs, h.cnt.trans hn, hl⟩
theorem YUn.push {U : Option Addr} {u : Nat} {us : List ByteArray} {s0 : RS} {w0 wr w6 : World} {t : RT} {g2 cap : Nat} {x : ByteArray} (h : YUn l g A c t w0 wr U u us s0 s) (hG : GrowB Kind.str 9 w0.heap.size (fun k => k < w0.heap.size) w6 (some ⟨g2, 0, none⟩) (us.length + 1) cap (us.map sE ++ [(x, [.string x])])) (hS : Same (Value.slice U us.length u).ownBlock.toList wr w6) :
  YUn l g A c t w0 w6 (some ⟨g2, 0, none⟩) cap (us ++ [x]) s0 s := by
 have hl := h.lt
 have hlen : (us ++ [x]).length = us.length + 1 := by simp
 have hno : ∀ k, k ∈ (Value.slice U us.length u).ownBlock.toList → w0.heap.size ≤ k := fun k hk => (h.rows.blk k (by simpa using hk)).1
 refine ⟨by rw [hlen, List.map_append]; exact hG, h.rdr.next (hS.heap (fun hc => by have := hno g hc; omega) h.rdr.rd) hS (fun k hk => by have := hno k hk; omega) h.rdr.inr, h.same.trans hS (fun y hy => .inr (hno y hy)), h.cnt, hl⟩
set_option maxHeartbeats 8000000 in
set_option maxRecDepth 100000 in
theorem ynode_unit (T : Toks l) (hn : NodeX l g A c b0 nm pV (m + 1) nd) (hon : NodeOn l (m + 1) nd) (h : YSt l g A c b0 more nm pV w s B n b qs) (hb : s.bad = 0) (hm : m ≤ s.nodes) (hof : of < n) (hfit : n + more + 1 ≤ 24) (y : ByteArray) (hyk : y = ⟨#[117, 110, 105, 116]⟩) (hy : keyP (tokAt l s.at_) = y) :
  Calls Tryz.prog 63 #[.pointer (some ⟨g, 0, none⟩), .int .i64 of, .int .i64 more] w (YNd l g A c b0 more nm pV B n b qs of [(n : Int)] (numP n (nodeS l (blockP l nd) y s).1) (nodeS l (blockP l nd) y s).2 w) := by
 obtain ⟨hB, hE⟩ := h.begin hb 1 hfit
 have hE1 : rBegin 1 s = ⟨s.at_, s.bad, s.nodes + 1⟩ := hE
 have htk := takes_word (k := s.nodes + 1) hb hy
 have hmt := must_takes htk
 obtain ⟨s1, h1⟩ : ∃ x, (rTakes l y ⟨s.at_, s.bad, s.nodes + 1⟩).2 = x := ⟨_, rfl⟩
 rw [h1] at hmt
 obtain ⟨a, ha⟩ : ∃ x, rName l [] s1 = x := ⟨_, rfl⟩
 obtain ⟨⟨us6, s6⟩, h6⟩ : ∃ x, unitF l 8 [a.1] a.2 = x := ⟨_, rfl⟩
 have hst : nodeS l (blockP l nd) y s = (.row 2 us6 (blockP l nd s6).1, (blockP l nd s6).2) := by
  subst hyk
  have hA : nodeS l (blockP l nd) ⟨#[117, 110, 105, 116]⟩ s = (.row 2 (unitF l 8 [(rName l [] (rTakes l ⟨#[117, 110, 105, 116]⟩ (rBegin 1 s)).2).1] (rName l [] (rTakes l ⟨#[117, 110, 105, 116]⟩ (rBegin 1 s)).2).2).1 (blockP l nd (unitF l 8 [(rName l [] (rTakes l ⟨#[117, 110, 105, 116]⟩ (rBegin 1 s)).2).1] (rName l [] (rTakes l ⟨#[117, 110, 105, 116]⟩ (rBegin 1 s)).2).2).2).1, (blockP l nd (unitF l 8 [(rName l [] (rTakes l ⟨#[117, 110, 105, 116]⟩ (rBegin 1 s)).2).1] (rName l [] (rTakes l ⟨#[117, 110, 105, 116]⟩ (rBegin 1 s)).2).2).2).2) := by
   unfold nodeS
   rw [if_neg (by decide), if_pos (by decide)]
  rw [hA, hE1, h1, ha, h6]
 have hnx : nextT l s = tokAt l s.at_ := if_pos hb
 have HNX := Lib.hid (ynext_any h.xn.rdr)
 have hts := nextT_text T s
 have HKY := Lib.hid (fun W => ykey_any (nextT l s) W hts)
 rw [hnx] at HNX
 simp only [hnx, hy] at HKY
 have H := Lib.hid (⟨h, hB, hmt⟩ : _ ∧ _ ∧ _)
 have HST := Lib.hid hst
 have HS := Lib.hid (⟨ha, h6⟩ : _ ∧ _)
 clear h hB hE hE1 htk hmt h1 hnx hts hy ha h6 hst
 subst hyk
 go_enter Tryz.func63, Tryz.ntmps63
 go_wp2_with fail
 refine HNX.out.mono ?_
 rintro e w1 ⟨rfl, hb1⟩
 have HW1 := Lib.hid ((YW.refl H.out.2.1).below hb1)
 clear hb1
 go_wp2_with fail
 refine (HKY.out w1).mono ?_
 rintro e w2 ⟨rfl, hb2⟩
 have HW2 := Lib.hid (HW1.out.below hb2)
 obtain ⟨⟨q0, q1, q2, q3, q4, q5⟩, _⟩ := blk6 HW2.out.st.xn.rdr.rd
 have hgl := HW2.out.st.xn.rdr.lt
 clear hb2
 go_wp2_with fail
 refine (ymust_any T HW2.out.st.xn.rdr ⟨#[117, 110, 105, 116]⟩ (by decide)).mono ?_
 have hmt := H.out.2.2
 have hon1 := rMust_on T.fin ⟨#[117, 110, 105, 116]⟩ (by decide) HW2.out.st.xn.rdr.inr
 have hct := must_cnt (l := l) (s := ⟨s.at_, s.bad, s.nodes + ((1 : Nat) : Int)⟩) (x := ⟨#[117, 110, 105, 116]⟩)
 rw [show (s.nodes + ((1 : Nat) : Int)) = s.nodes + 1 from rfl] at hon1 hct ⊢
 rw [hmt] at hon1 hct ⊢
 rintro e w3 ⟨rfl, hr3, hs3⟩
 have HW3 := Lib.hid (HW2.out.step hs3 hr3 hon1.1 hct)
 have hm1 : m + 1 ≤ s1.nodes := by have h1 := hon1.2; simp only at h1; omega
 clear hr3 hs3 hon1 hct hmt q0 q1 q2 q3 q4 q5 hgl
 have hnm := yname_any T HW3.out.st.xn.rdr (a := none) (cc := 0) (had := []) (StrR.nil _ _) 5 (by decide)
 rw [show rMost l (([] : List ByteArray).length : Nat) 5 s1 = s1 from if_neg (fun hc => absurd hc.1 (by decide)), HS.out.1] at hnm
 have HNM := Lib.hid hnm
 clear hnm
 go_wp2_with fail
 refine HNM.out.mono ?_
 rintro e w4 ⟨rfl, hr4, hs4⟩
 have hona := rName_on T.fin [] HW3.out.st.xn.rdr.inr
 rw [HS.out.1] at hona
 have HW4 := Lib.hid (HW3.out.step hs4 hr4 hona.1 (by have := name_cnt (l := l) (s := s1) []; rwa [HS.out.1] at this))
 have hma : m + 1 ≤ a.2.nodes := by have := hona.2; omega
 clear hr4 hs4 hona
 go_wp2_with fail
 obtain ⟨U, hU⟩ : ∃ U, w4.heap.size = U := ⟨_, rfl⟩
 obtain ⟨w5, hw5⟩ : ∃ w5, w4.alloc (.cells #[.string a.1] 9 (0, 0)) = w5 := ⟨_, rfl⟩
 have hb5 : Below w4.heap.size w4 w5 := hw5 ▸ (Below.refl _ _).alloc (Nat.le_refl _) _
 have hu5 : w5.heap[U]? = some (.cells #[.string a.1] 9 (0, 0)) := by rw [← hU, ← hw5]; exact heap_alloc_new _ _
 have HX5 : Hid (YUn l g A c (nm, pV, .slice B n b) w4 w5 (some ⟨U, 0, none⟩) 1 [a.1] a.2 a.2) := Lib.hid ⟨grow_one hu5 (by omega), HW4.out.st.xn.rdr.step hb5, Same.of_below hb5, .refl, HW4.out.st.xn.rdr.lt⟩
 rw [hw5, hU]
 clear hb5 hu5 hw5 hU
 go_loopg [8] 10 (fun k s8 wr => ∃ f V v us s', s8 = .slice V us.length v ∧ YUn l g A c (nm, pV, .slice B n b) w4 wr V v us a.2 s' ∧ f < k ∧ f + us.length = 9 ∧ (s'.bad = 0 → us.length ≤ 5) ∧ unitF l f us s' = (us6, s6))
 case atStart => exact ⟨8, some ⟨U, 0, none⟩, 1, [a.1], a.2, rfl, HX5.out, by omega, rfl, fun _ => by simp, HS.out.2⟩
 case round =>
  obtain ⟨f, V, v, us, s', rfl, hX, hfk, hfl, h5, hans⟩ := hrel
  obtain ⟨gk, rfl⟩ : ∃ k, gk = k + 1 := ⟨gk - 1, by omega⟩
  have HX := Lib.hid hX
  have HI := Lib.hid (yis_any T hX.rdr ⟨#[44]⟩ (by decide))
  obtain ⟨q, hq⟩ : ∃ q, (rTakes l ⟨#[44]⟩ s').1 = q := ⟨_, rfl⟩
  rw [hq] at HI
  cases q with
  | false =>
   have hfin : (us, s') = (us6, s6) := by
    rw [← hans]
    cases f with
    | zero => rfl
    | succ f => rw [unitF, if_neg (by rw [hq]; decide), takes_no hq]
   obtain ⟨rfl, rfl⟩ := Prod.mk.inj hfin
   clear hX hans hq h5 hfin
   go_wp2_with fail
   refine HI.out.mono ?_
   rintro e w6 ⟨rfl, hb6⟩
   have HX6 := Lib.hid (HX.out.step (Same.of_below hb6) (HX.out.rdr.step hb6).rd HX.out.rdr.inr .refl)
   clear hb6
   have HW6 := Lib.hid (HW4.out.step HX6.out.same HX6.out.rdr.rd HX6.out.rdr.inr HX6.out.cnt)
   have hrs : Rest (fun k => k < b0 ∨ k ∈ blks (.slice B n b) qs) w6 (q0U us V v) := ⟨(HX6.out.rows.row (fun _ h => h)).more (fun k hk => .inl (by
    have h0 := HW4.out.st.xn.lo
    rcases hk with hk | hk
    ·omega
    ·exact (HW4.out.st.xn.nodes.lt k hk).2)), (q0R_rest _ _ 0).gs, (q0R_rest _ _ 0).ex⟩
   have HAD := Lib.hid (yadd_any HW6.out.st.xn of hof (by omega) (fun q hq => by have := HW6.out.st.kids q hq; omega) (q0U us V v) rfl rfl hrs)
   have hon6 := unitF_on T.fin 8 [a.1] a.2 HW4.out.st.xn.rdr.inr
   rw [HS.out.2] at hon6
   have hm6 : m + 1 ≤ s'.nodes := by have := hon6.2; simp only at this; omega
   clear hrs hon6
   go_wp2_with fail
   refine HAD.out.mono ?_
   rintro e w7 ⟨rfl, B7, b7, qs7, hx7, hm7, hs7, hk7⟩
   have HW7 := Lib.hid (HW6.out.add (q0 := q0U us V v) rfl hof hx7 hm7 hs7 hk7)
   clear hx7 hm7 hs7 hk7
   have HBD := Lib.hid (ybody_any T hn hon HW7.out.st hm6 (Nat.lt_succ_self n))
   go_wp2_with fail
   refine HBD.out.mono ?_
   rintro e w8 ⟨rfl, B8, n8, b8, qs8, hY⟩
   have HW8 := Lib.hid (HW7.out.body block_bad hY)
   clear hY
   go_wp2_with fail
   go_end0
   rw [HST.out]
   exact ⟨rfl, B8, n8, b8, qs8, HW8.out.way (fun _ => unit_nodes HW8.out.was hof _)⟩
  | true =>
   have hb' := rTakes_bad (l := l) (by decide) hq
   have hu5 := h5 hb'
   obtain ⟨j, rfl⟩ : ∃ j, f = j + 1 := ⟨f - 1, by omega⟩
   have hmt2 := must_takes hq
   obtain ⟨s2, hs2⟩ : ∃ x, (rTakes l ⟨#[44]⟩ s').2 = x := ⟨_, rfl⟩
   have hfull := rMost_full (l := l) (had := us) (most := 5) (s := s2)
   obtain ⟨t, ht⟩ : ∃ x, rName l us (rMost l us.length 5 s2) = x := ⟨_, rfl⟩
   rw [unitF, if_pos hq, hs2] at hans
   simp only [ht] at hans
   rw [hs2] at hmt2
   rw [ht] at hfull
   have hc2 := mustC (l := l) (s := s') ⟨#[44]⟩
   rw [hmt2] at hc2
   have hct := (most_cnt (l := l) (s := s2) us.length 5).trans (name_cnt (l := l) us)
   rw [ht] at hct
   have HR := Lib.hid (⟨hmt2, ht, hans, hfull, hc2, hct⟩ : _ ∧ _ ∧ _ ∧ _ ∧ _ ∧ _)
   clear hX hans hq h5 hmt2 ht hfull hc2 hct hb' hs2
   go_wp2_with fail
   refine HI.out.mono ?_
   rintro e w6 ⟨rfl, hb6⟩
   have HX6 := Lib.hid (HX.out.step (Same.of_below hb6) (HX.out.rdr.step hb6).rd HX.out.rdr.inr .refl)
   clear hb6
   go_wp2_with fail
   refine (ymust_any T HX6.out.rdr ⟨#[44]⟩ (by decide)).mono ?_
   have hon7 := rMust_on T.fin ⟨#[44]⟩ (by decide) HX6.out.rdr.inr
   rw [HR.out.1] at hon7 ⊢
   rintro e w7 ⟨rfl, hr7, hs7⟩
   have HX7 := Lib.hid (HX6.out.step hs7 hr7 hon7.1 HR.out.2.2.2.2.1)
   clear hr7 hs7 hon7
   have hnm := yname_any T HX7.out.rdr (cc := v) (had := us) HX7.out.rows.strs 5 (by omega)
   rw [HR.out.2.1] at hnm
   have HNM2 := Lib.hid hnm
   clear hnm
   go_wp2_with fail
   refine HNM2.out.mono ?_
   rintro e w8 ⟨rfl, hr8, hs8⟩
   have hin8 : InR l t.2 := by
    have h1 := rMost_on (l := l) (us.length : Int) 5 HX7.out.rdr.inr
    have h2 := (rName_on T.fin us h1.1).1
    rwa [HR.out.2.1] at h2
   have HX8 := Lib.hid (HX7.out.step hs8 hr8 hin8 HR.out.2.2.2.2.2)
   clear hr8 hs8 hin8
   go_wp2_with (at_builtin; refine Hid.out ?_)
   refine Lib.hid ?_
   refine wpList_grow (by rfl) _ _ _ (by rfl) (.string ⟨#[]⟩) 16 Tryz.underlying37 info_str (by rfl) (by decide) (by rfl) HX8.out.rows t.1 #[.string t.1] _ (by rfl) (by rfl) (by simp [Value.oneCell']) (Av.str _ _ _) (by unfold maxLen; omega) (by omega) HX8.out.same.size ?_
   intro g2 cap2 w9 hG9 hS9 hg9
   have HX9 := Lib.hid (HX8.out.push hG9 hS9)
   clear hG9 hS9 hg9
   go_wp2_with fail
   go_roundg gk
   case measure => omega
   case rel => exact ⟨j, some ⟨g2, 0, none⟩, cap2, us ++ [t.1], t.2, by simp, HX9.out, by omega, by simp; omega, fun hc => by
    have h1 : us.length ≠ 5 := fun he => HR.out.2.2.2.1 (by omega) hc
    simp
    omega, HR.out.2.2.1⟩
end
end Go.Proofs.YtgcfjkfipkfijaaGreatDoor
namespace Go.Proofs.YtgcfjkfipkfijaaGreatDoor
open Go Go.RowKit Go.Lib
section
variable {l : List Tok} {g c b0 : Nat} {A : Option Addr} {nm pV : Value} {m : Int} {nd : RS → Pc × RS}
theorem own_le {y : ByteArray} {n more : Nat} {s : RS} (hc : s.nodes = n + more) {o : Nat} (ho : ownN y = o) (h : ¬ n + more + o ≤ 24) : 24 < s.nodes + ownN y := by rw [hc, ho]; omega
theorem ynode_any (T : Toks l) (hl : l.length ≤ 2001) (hn : NodeX l g A c b0 nm pV (m + 1) nd) (hon : NodeOn l (m + 1) nd) : NodeX l g A c b0 nm pV m (fun s => nodeS l (blockP l nd) (keyP (tokAt l s.at_)) s) := by
 intro s w B n b qs of more h hb hm hof
 obtain ⟨y, hy⟩ : ∃ y, keyP (tokAt l s.at_) = y := ⟨_, rfl⟩
 simp only [hy]
 have hc := h.cnt hb
 by_cases h1 : seq y wSeq = true
 ·have e := seq_iff.1 h1
  subst e
  by_cases hf : n + more + 1 ≤ 24
  ·have hA : nodeS l (blockP l nd) wSeq s = (.row 0 [] (blockP l nd (rTakes l wSeq (rBegin 1 s)).2).1, (blockP l nd (rTakes l wSeq (rBegin 1 s)).2).2) := by
    unfold nodeS
    rw [if_pos (by decide), if_neg (by decide)]
   rw [hA]
   exact ynode_row T hn hon h hb hm hof hf wSeq 0 (.inl ⟨rfl, rfl⟩) hy
  ·rw [node_full (fun s => block_stop) hb (.inl rfl) (own_le hc rfl hf), show ownN wSeq = ((1 : Nat) : Int) from rfl]
   exact ynode_over T h hb wSeq hy 1 (.inl ⟨.inl rfl, rfl⟩) (by omega) _ _
 ·by_cases h2 : seq y wPar = true
  ·have e := seq_iff.1 h2
   subst e
   by_cases hf : n + more + 1 ≤ 24
   ·have hA : nodeS l (blockP l nd) wPar s = (.row 1 [] (blockP l nd (rTakes l wPar (rBegin 1 s)).2).1, (blockP l nd (rTakes l wPar (rBegin 1 s)).2).2) := by
     unfold nodeS
     rw [if_pos (by decide), if_pos (by decide)]
    rw [hA]
    exact ynode_row T hn hon h hb hm hof hf wPar 1 (.inr ⟨rfl, rfl⟩) hy
   ·rw [node_full (fun s => block_stop) hb (.inr (.inl rfl)) (own_le hc rfl hf), show ownN wPar = ((1 : Nat) : Int) from rfl]
    exact ynode_over T h hb wPar hy 1 (.inl ⟨.inr (.inl rfl), rfl⟩) (by omega) _ _
  ·by_cases h3 : seq y wUnit = true
   ·have e := seq_iff.1 h3
    subst e
    by_cases hf : n + more + 1 ≤ 24
    ·exact ynode_unit T hn hon h hb hm hof hf wUnit rfl hy
    ·rw [node_full (fun s => block_stop) hb (.inr (.inr (.inl rfl))) (own_le hc rfl hf), show ownN wUnit = ((1 : Nat) : Int) from rfl]
     exact ynode_over T h hb wUnit hy 1 (.inl ⟨.inr (.inr (.inl rfl)), rfl⟩) (by omega) _ _
   ·by_cases h4 : seq y wIf = true
    ·have e := seq_iff.1 h4
     subst e
     by_cases hf : n + more + 3 ≤ 24
     ·exact ynode_if T hl hn hon h hb hm hof hf wIf rfl hy
     ·rw [node_full (fun s => block_stop) hb (.inr (.inr (.inr (.inl rfl)))) (own_le hc rfl hf), show ownN wIf = ((3 : Nat) : Int) from rfl]
      exact ynode_over T h hb wIf hy 3 (.inr ⟨rfl, rfl⟩) (by omega) _ _
    ·by_cases h5 : seq y wPhase = true
     ·have e := seq_iff.1 h5
      subst e
      by_cases hf : n + more + 1 ≤ 24
      ·have hA : nodeS l (blockP l nd) wPhase s = stepP l (rTakes l wPhase (rBegin 1 s)).2 := by
        unfold nodeS
        rw [if_neg (by decide), if_neg (by decide), if_neg (by decide), if_pos (by decide)]
       rw [hA]
       exact ynode_phase T hl h hb hof hf wPhase rfl hy
      ·rw [node_full (fun s => block_stop) hb (.inr (.inr (.inr (.inr rfl)))) (own_le hc rfl hf), show ownN wPhase = ((1 : Nat) : Int) from rfl]
       exact ynode_over T h hb wPhase hy 1 (.inl ⟨.inr (.inr (.inr rfl)), rfl⟩) (by omega) _ _
     ·have hA : nodeS l (blockP l nd) y s = (.step ⟨#[]⟩ [], rFail 11 s) := by
       unfold nodeS
       rw [if_neg (fun hc => hc.elim h1 h2), if_neg h3, if_neg h4, if_neg h5]
      rw [hA]
      exact ynode_none T h hb y hy (by simpa using h1) (by simpa using h2) (by simpa using h3) (by simpa using h4) (by simpa using h5) _ _
theorem ynodes_any (T : Toks l) (hl : l.length ≤ 2001) : ∀ f : Nat, NodeX l g A c b0 nm pV (25 - f) (nodeF l f)
 | 0 => fun s w B n b qs of more h hb hm hof => absurd (h.xn.rdr.inr.2.2.2.2 hb) (by omega)
 | f + 1 => by
  have h1 := ynodes_any T hl f
  have h2 := nodeF_on T.fin T.take f
  have e : 25 - ((f + 1 : Nat) : Int) + 1 = 25 - f := by omega
  rw [← e] at h1 h2
  exact ynode_any T hl h1 h2
end
end Go.Proofs.YtgcfjkfipkfijaaGreatDoor
namespace Go.Proofs.YtgcfjkfipkfijaaGreatDoor
open Go Go.RowKit Go.Lib
def byteZ (s : ByteArray) (j : Nat) : Int := ((s.data.toList.getD j 0).toNat : Int)
theorem byteZ_get (s : ByteArray) (j : Nat) (h : j < s.size) : byteZ s j = ((s.get! j).toNat : Int) := by
 have h1 : j < s.data.size := h
 unfold byteZ
 rw [List.getD_eq_getElem?_getD]
 have h2 : s.get! j = s.data[j]! := rfl
 rw [h2, getElem!_pos s.data j h1, List.getElem?_eq_getElem (by simpa using h1)]
 simp
def tailB (s : ByteArray) (i : Nat) : Nat → Nat → Int → Int
 | 0, _, b => b
 | m + 1, k, b => if byteZ s (i + k) < 128 ∨ 192 ≤ byteZ s (i + k) then -1 else tailB s i m (k + 1) (64 * b + byteZ s (i + k) - 128)
def runeR (n least c : Int) : Int × Int := if c < least ∨ 1114111 < c ∨ 55296 ≤ c ∧ c ≤ 57343 then (0, 0) else (c, n)
def runeG (s : ByteArray) (i : Nat) (m : Nat) (least b : Int) : Int × Int := if (s.size : Int) - i < m + 1 then (0, 0) else runeR (m + 1) least (tailB s i m 1 b)
def runeX (s : ByteArray) (i : Nat) : Int × Int :=
 if byteZ s i < 128 then (byteZ s i, 1)
 else if 192 ≤ byteZ s i ∧ byteZ s i < 224 then runeG s i 1 128 (byteZ s i - 192)
 else if 224 ≤ byteZ s i ∧ byteZ s i < 240 then runeG s i 2 2048 (byteZ s i - 224)
 else if 240 ≤ byteZ s i ∧ byteZ s i < 248 then runeG s i 3 65536 (byteZ s i - 240)
 else (0, 0)
def rune1 (p : Nat × Nat) : Int × Int := if p = (65533, 1) then (0, 0) else ((p.1 : Int), (p.2 : Int))
theorem rune1_bad : rune1 (65533, 1) = (0, 0) := rfl
theorem rune1_ok {a b : Nat} (h : ¬ (a = 65533 ∧ b = 1)) : rune1 (a, b) = ((a : Int), (b : Int)) := by
 unfold rune1
 rw [if_neg (fun e => h (by simpa using e))]
theorem decode_eq (s : ByteArray) (i : Nat) : Utf8.decode s i =
  if (s.get! i).toNat < 128 then ((s.get! i).toNat, 1)
  else if (s.get! i).toNat / 32 = 6 ∧ (i + 1 < s.size ∧ (s.get! (i + 1)).toNat / 64 = 2) then
   (if 128 ≤ (s.get! i).toNat % 32 * 64 + (s.get! (i + 1)).toNat % 64 then ((s.get! i).toNat % 32 * 64 + (s.get! (i + 1)).toNat % 64, 2) else (65533, 1))
  else if (s.get! i).toNat / 16 = 14 ∧ (i + 1 < s.size ∧ (s.get! (i + 1)).toNat / 64 = 2) ∧ (i + 2 < s.size ∧ (s.get! (i + 2)).toNat / 64 = 2) then
   (if 2048 ≤ (s.get! i).toNat % 16 * 4096 + (s.get! (i + 1)).toNat % 64 * 64 + (s.get! (i + 2)).toNat % 64 ∧ Utf8.valid (((s.get! i).toNat % 16 * 4096 + (s.get! (i + 1)).toNat % 64 * 64 + (s.get! (i + 2)).toNat % 64 : Nat) : Int) = true
     then ((s.get! i).toNat % 16 * 4096 + (s.get! (i + 1)).toNat % 64 * 64 + (s.get! (i + 2)).toNat % 64, 3) else (65533, 1))
  else if (s.get! i).toNat / 8 = 30 ∧ (i + 1 < s.size ∧ (s.get! (i + 1)).toNat / 64 = 2) ∧ (i + 2 < s.size ∧ (s.get! (i + 2)).toNat / 64 = 2) ∧ (i + 3 < s.size ∧ (s.get! (i + 3)).toNat / 64 = 2) then
   (if 65536 ≤ (s.get! i).toNat % 8 * 262144 + (s.get! (i + 1)).toNat % 64 * 4096 + (s.get! (i + 2)).toNat % 64 * 64 + (s.get! (i + 3)).toNat % 64 ∧ Utf8.valid (((s.get! i).toNat % 8 * 262144 + (s.get! (i + 1)).toNat % 64 * 4096 + (s.get! (i + 2)).toNat % 64 * 64 + (s.get! (i + 3)).toNat % 64 : Nat) : Int) = true
     then ((s.get! i).toNat % 8 * 262144 + (s.get! (i + 1)).toNat % 64 * 4096 + (s.get! (i + 2)).toNat % 64 * 64 + (s.get! (i + 3)).toNat % 64, 4) else (65533, 1))
  else (65533, 1) := by
 unfold Utf8.decode Utf8.runeError
 simp only [Nat.add_zero, Bool.and_eq_true, beq_iff_eq, decide_eq_true_eq, and_assoc, ge_iff_le]
theorem valid_iff (c : Nat) : Utf8.valid (c : Int) = true ↔ c < 55296 ∨ (57344 ≤ c ∧ c ≤ 1114111) := by
 unfold Utf8.valid
 simp only [Bool.or_eq_true, Bool.and_eq_true, decide_eq_true_eq]
 omega
theorem runeX_eq (s : ByteArray) (i : Nat) (h : i < s.size) : runeX s i = rune1 (Utf8.decode s i) := by
 rw [decode_eq]
 have hb0 := (s.get! i).toNat_lt
 have hb1 := (s.get! (i + 1)).toNat_lt
 have hb2 := (s.get! (i + 2)).toNat_lt
 have hb3 := (s.get! (i + 3)).toNat_lt
 have e0 := byteZ_get s i h
 have e1 := byteZ_get s (i + 1)
 have e2 := byteZ_get s (i + 2)
 have e3 := byteZ_get s (i + 3)
 unfold runeX
 rw [e0]
 generalize (s.get! i).toNat = b0 at *
 generalize (s.get! (i + 1)).toNat = b1 at *
 generalize (s.get! (i + 2)).toNat = b2 at *
 generalize (s.get! (i + 3)).toNat = b3 at *
 by_cases h1 : b0 < 128
 ·rw [if_pos h1, if_pos (by omega), rune1_ok (by omega)]; rfl
 rw [if_neg h1, if_neg (by omega)]
 by_cases h2 : 192 ≤ b0 ∧ b0 < 224
 ·rw [if_pos (show 192 ≤ (b0 : Int) ∧ (b0 : Int) < 224 by omega)]
  unfold runeG
  by_cases hs1 : i + 1 < s.size
  ·rw [if_neg (show ¬ ((s.size : Int) - i < ((1 : Nat) : Int) + 1) by omega)]
   simp only [tailB]
   rw [e1 hs1]
   by_cases hc1 : b1 / 64 = 2
   ·rw [if_neg (show ¬ ((b1 : Int) < 128 ∨ 192 ≤ (b1 : Int)) by omega), if_pos ⟨by omega, hs1, hc1⟩]
    unfold runeR
    split
    ·rw [if_neg (by omega)]; rfl
    ·rw [if_pos (by omega), rune1_ok (by omega)]
     refine Prod.ext ?_ rfl
     show _ = _
     simp only
     omega
   ·rw [if_pos (show ((b1 : Int) < 128 ∨ 192 ≤ (b1 : Int)) by omega), if_neg (fun h => hc1 h.2.2), if_neg (by omega), if_neg (by omega)]
    rfl
  ·rw [if_pos (show ((s.size : Int) - i < ((1 : Nat) : Int) + 1) by omega), if_neg (fun h => hs1 h.2.1), if_neg (by omega), if_neg (by omega)]
   rfl
 rw [if_neg (show ¬ (192 ≤ (b0 : Int) ∧ (b0 : Int) < 224) by omega), if_neg (show ¬ (b0 / 32 = 6 ∧ i + 1 < s.size ∧ b1 / 64 = 2) by omega)]
 by_cases h3 : 224 ≤ b0 ∧ b0 < 240
 ·rw [if_pos (show 224 ≤ (b0 : Int) ∧ (b0 : Int) < 240 by omega)]
  unfold runeG
  by_cases hs2 : i + 2 < s.size
  ·rw [if_neg (show ¬ ((s.size : Int) - i < ((2 : Nat) : Int) + 1) by omega)]
   simp only [tailB]
   rw [e1 (by omega), e2 hs2]
   by_cases hc1 : b1 / 64 = 2
   ·rw [if_neg (show ¬ ((b1 : Int) < 128 ∨ 192 ≤ (b1 : Int)) by omega)]
    by_cases hc2 : b2 / 64 = 2
    ·rw [if_neg (show ¬ ((b2 : Int) < 128 ∨ 192 ≤ (b2 : Int)) by omega), if_pos ⟨by omega, ⟨by omega, hc1⟩, hs2, hc2⟩]
     unfold runeR
     split
     ·rw [if_neg (by rw [valid_iff]; omega)]; rfl
     ·rw [if_pos (by rw [valid_iff]; omega), rune1_ok (by omega)]
      refine Prod.ext ?_ rfl
      simp only
      omega
    ·rw [if_pos (show ((b2 : Int) < 128 ∨ 192 ≤ (b2 : Int)) by omega), if_neg (fun h => hc2 h.2.2.2), if_neg (by omega)]
     rfl
   ·rw [if_pos (show ((b1 : Int) < 128 ∨ 192 ≤ (b1 : Int)) by omega), if_neg (fun h => hc1 h.2.1.2), if_neg (by omega)]
    rfl
  ·rw [if_pos (show ((s.size : Int) - i < ((2 : Nat) : Int) + 1) by omega), if_neg (fun h => hs2 h.2.2.1), if_neg (by omega)]
   rfl
 rw [if_neg (show ¬ (224 ≤ (b0 : Int) ∧ (b0 : Int) < 240) by omega), if_neg (show ¬ (b0 / 16 = 14 ∧ (i + 1 < s.size ∧ b1 / 64 = 2) ∧ i + 2 < s.size ∧ b2 / 64 = 2) by omega)]
 by_cases h4 : 240 ≤ b0 ∧ b0 < 248
 ·rw [if_pos (show 240 ≤ (b0 : Int) ∧ (b0 : Int) < 248 by omega)]
  unfold runeG
  by_cases hs3 : i + 3 < s.size
  ·rw [if_neg (show ¬ ((s.size : Int) - i < ((3 : Nat) : Int) + 1) by omega)]
   simp only [tailB]
   rw [e1 (by omega), e2 (by omega), e3 hs3]
   by_cases hc1 : b1 / 64 = 2
   ·rw [if_neg (show ¬ ((b1 : Int) < 128 ∨ 192 ≤ (b1 : Int)) by omega)]
    by_cases hc2 : b2 / 64 = 2
    ·rw [if_neg (show ¬ ((b2 : Int) < 128 ∨ 192 ≤ (b2 : Int)) by omega)]
     by_cases hc3 : b3 / 64 = 2
     ·rw [if_neg (show ¬ ((b3 : Int) < 128 ∨ 192 ≤ (b3 : Int)) by omega), if_pos ⟨by omega, ⟨by omega, hc1⟩, ⟨by omega, hc2⟩, hs3, hc3⟩]
      unfold runeR
      split
      ·rw [if_neg (by rw [valid_iff]; omega)]; rfl
      ·rw [if_pos (by rw [valid_iff]; omega), rune1_ok (by omega)]
       refine Prod.ext ?_ rfl
       simp only
       omega
     ·rw [if_pos (show ((b3 : Int) < 128 ∨ 192 ≤ (b3 : Int)) by omega), if_neg (fun h => hc3 h.2.2.2.2)]
      rfl
    ·rw [if_pos (show ((b2 : Int) < 128 ∨ 192 ≤ (b2 : Int)) by omega), if_neg (fun h => hc2 h.2.2.1.2)]
     rfl
   ·rw [if_pos (show ((b1 : Int) < 128 ∨ 192 ≤ (b1 : Int)) by omega), if_neg (fun h => hc1 h.2.1.2)]
    rfl
  ·rw [if_pos (show ((s.size : Int) - i < ((3 : Nat) : Int) + 1) by omega), if_neg (fun h => hs3 h.2.2.2.1)]
   rfl
 rw [if_neg (show ¬ (240 ≤ (b0 : Int) ∧ (b0 : Int) < 248) by omega), if_neg (fun h => by omega)]
 rfl
def rowsF : List (Nat × Nat) → Nat → List Int
 | [], _ => []
 | r :: rs, p => if r = (65533, 1) then [] else (r.1 : Int) :: rowsF rs (p + r.2)
def rowsA : List (Nat × Nat) → Nat → List Int
 | [], p => [(p : Int)]
 | r :: rs, p => if r = (65533, 1) then [] else (p : Int) :: rowsA rs (p + r.2)
def rowsOk : List (Nat × Nat) → Bool
 | [] => true
 | r :: rs => if r = (65533, 1) then false else rowsOk rs
theorem rowsOk_valid (l : List (Nat × Nat)) : rowsOk l = l.all (fun r => !(r == (65533, 1))) := by
 induction l with
 | nil => rfl
 | cons r rs ih =>
  rw [rowsOk, List.all_cons, ih]
  by_cases h : r = (65533, 1)
  ·rw [if_pos h, beq_iff_eq.2 h]; rfl
  ·rw [if_neg h, beq_eq_false_iff_ne.2 h]; rfl
theorem rowsF_ok : ∀ (l : List (Nat × Nat)) (p : Nat), rowsOk l = true → rowsF l p = l.map (fun r => (r.1 : Int))
 | [], _, _ => rfl
 | r :: rs, p, h => by
  rw [rowsOk] at h
  rw [rowsF]
  by_cases e : r = (65533, 1)
  ·rw [if_pos e] at h; cases h
  ·rw [if_neg e] at h
   rw [if_neg e, rowsF_ok rs _ h]; rfl
end Go.Proofs.YtgcfjkfipkfijaaGreatDoor
namespace Go.Proofs.YtgcfjkfipkfijaaGreatDoor
open Go Go.RowKit Go.Lib
theorem vd_rune {l : List UInt8} (h : Vd l) (hl : l ≠ []) : Vd (l.drop (decodeL l).2) := fun x hx => h x (by rw [runes_cons l hl]; simp [hx])
theorem vd_head {l : List UInt8} (h : Vd l) (hl : l ≠ []) : decodeL l ≠ (65533, 1) := h _ (by rw [runes_cons l hl]; simp)
theorem getD_drop (l : List UInt8) (k i : Nat) : (l.drop k).getD i 0 = l.getD (k + i) 0 := by simp [List.getD, List.getElem?_drop]
end Go.Proofs.YtgcfjkfipkfijaaGreatDoor
namespace Go.Proofs.YtgcfjkfipkfijaaGreatDoor
open Go Go.RowKit Go.Lib
def isWz (r : Int) : Bool := cls r == 2 || cls r == 3
def sgF (r : Int) : List UInt8 → Int
 | [] => 0
 | c :: cs => if (c.toNat : Int) = r then 4 else sgF r cs
theorem sgF_cls (r : Int) (h : ¬ (r = 32 ∨ r = 9 ∨ r = 13 ∨ r = 10)) (h2 : ¬ ((97 ≤ r ∧ r ≤ 122) ∨ (65 ≤ r ∧ r ≤ 90) ∨ r = 95)) (h3 : ¬ (192 ≤ r ∧ r ≤ 591 ∧ r ≠ 215 ∧ r ≠ 247)) (h4 : ¬ (48 ≤ r ∧ r ≤ 57)) (h5 : ¬ r = 34) (h6 : ¬ r = 35) : sgF r signs = cls r := by
 unfold cls
 rw [if_neg h, if_neg h2, if_neg h3, if_neg h4, if_neg h5, if_neg h6]
 by_cases hr : 32 < r ∧ r < 127
 ·have hd : ((List.range 127).all fun k => sgF (k : Int) signs == if 32 < (k : Int) ∧ (k : Int) < 127 ∧ 0 ≤ indexByte signs k.toUInt8 then 4 else 0) = true := by kernel_rfl
  have := List.all_eq_true.1 hd r.toNat (List.mem_range.2 (by omega))
  rw [beq_iff_eq] at this
  rw [show ((r.toNat : Nat) : Int) = r by omega] at this
  exact this
 ·rw [if_neg (fun e => hr ⟨e.1, e.2.1⟩)]
  have hs : ∀ l : List UInt8, (∀ c, c ∈ l → (c.toNat : Int) ≠ r) → sgF r l = 0 := by
   intro l
   induction l with
   | nil => intro _; rfl
   | cons c cs ih => intro hc; rw [sgF, if_neg (hc c (by simp)), ih (fun x hx => hc x (by simp [hx]))]
  refine hs signs (fun c hc => ?_)
  have hd : (signs.all fun c => decide (32 < c.toNat) && decide (c.toNat < 127)) = true := by kernel_rfl
  have := List.all_eq_true.1 hd c hc
  simp only [Bool.and_eq_true, decide_eq_true_eq] at this
  omega
set_option maxHeartbeats 4000000 in
theorem xclass_sign (r : Int) (w : World) (h : ¬ (r = 32 ∨ r = 9 ∨ r = 13 ∨ r = 10)) (h2 : ¬ ((97 ≤ r ∧ r ≤ 122) ∨ (65 ≤ r ∧ r ≤ 90) ∨ r = 95)) (h3 : ¬ (192 ≤ r ∧ r ≤ 591 ∧ r ≠ 215 ∧ r ≠ 247)) (h4 : ¬ (48 ≤ r ∧ r ≤ 57)) (h5 : ¬ r = 34) (h6 : ¬ r = 35) :
  Calls Tryz.prog 87 #[.int .i64 r] w fun e w' => e = .returned (.int .i64 (cls r)) ∧ w' = w := by
 rw [← sgF_cls r h h2 h3 h4 h5 h6]
 obtain ⟨ANS, hANS⟩ : ∃ a, sgF r signs = a := ⟨_, rfl⟩
 have HANS := Lib.hid hANS
 rw [hANS]
 have hb : (r == 32) = false ∧ (r == 9) = false ∧ (r == 13) = false ∧ (r == 10) = false ∧ (r == 95) = false ∧ (r == 34) = false ∧ (r == 35) = false := ⟨beqf (by omega), beqf (by omega), beqf (by omega), beqf (by omega), beqf (by omega), beqf (by omega), beqf (by omega)⟩
 obtain ⟨b0, b1, b2, b3, b4, b5, b6⟩ := hb
 have hi : r < 48 ∨ (57 < r ∧ r < 65) ∨ (90 < r ∧ r < 97) ∨ (122 < r ∧ r < 192) ∨ (192 ≤ r ∧ r ≤ 591 ∧ (r != 215) = false) ∨ (192 ≤ r ∧ r ≤ 591 ∧ (r != 215) = true ∧ (r != 247) = false) ∨ 591 < r := by
  by_cases e1 : r = 215
  ·exact .inr (.inr (.inr (.inr (.inl ⟨by omega, by omega, bnef e1⟩))))
  ·by_cases e2 : r = 247
   ·exact .inr (.inr (.inr (.inr (.inr (.inl ⟨by omega, by omega, bnet e1, bnef e2⟩)))))
   ·omega
 clear h h2 h3 h4 h5 h6 hANS
 rcases hi with i1 | ⟨i1, i2⟩ | ⟨i1, i2⟩ | ⟨i1, i2⟩ | ⟨i1, i2, i3⟩ | ⟨i1, i2, i3, i4⟩ | i1
 all_goals
  go_enter Tryz.func87, Tryz.ntmps87
  go_wp2_with fail
  go_loopg [4] 19 (fun k s4 w' => ∃ i : Nat, s4 = .int .i64 i ∧ i ≤ 18 ∧ 18 - i < k ∧ sgF r (signs.drop i) = ANS ∧ w' = w)
  case atStart => exact ⟨0, rfl, by omega, by omega, HANS.out, rfl⟩
  case round =>
   obtain ⟨i, rfl, hi, hik, hans, rfl⟩ := hrel
   obtain ⟨gk, rfl⟩ : ∃ k, gk = k + 1 := ⟨gk - 1, by omega⟩
   by_cases hlt : i < 18
   ·have hltz : (i : Int) < 18 := by omega
    obtain ⟨c, hc⟩ : ∃ c, signs[i]'hlt = c := ⟨_, rfl⟩
    have hh : (⟨#[40, 41, 123, 125, 44, 59, 58, 61, 43, 45, 42, 47, 37, 60, 62, 33, 38, 124]⟩ : ByteArray)[i]'hlt = c := hc
    have hclt := c.toNat_lt
    rw [drop_cons signs i hlt, sgF, hc] at hans
    by_cases e : (c.toNat : Int) = r
    ·have eb : ((c.toNat : Int) == r) = true := beq_iff_eq.2 e
     rw [if_pos e] at hans
     have HN := Lib.hid hans
     clear hans e hc
     go_wp2_with fail
     go_ret
     exact ⟨ret_int HN.out, rfl⟩
    ·have eb : ((c.toNat : Int) == r) = false := beqf e
     rw [if_neg e] at hans
     have HN := Lib.hid hans
     clear hans e hc
     go_wp2_with fail
     go_roundg gk
     case measure => omega
     case rel => exact ⟨i + 1, by go_num, by omega, by omega, HN.out, rfl⟩
   ·obtain rfl : i = 18 := by omega
    have HN := Lib.hid hans
    clear hans
    go_wp2_with fail
    go_ret
    exact ⟨ret_int HN.out, rfl⟩
set_option maxHeartbeats 4000000 in
theorem xclass_any (r : Int) (w : World) : Calls Tryz.prog 87 #[.int .i64 r] w fun e w' => e = .returned (.int .i64 (cls r)) ∧ w' = w := by
 by_cases h : r = 32 ∨ r = 9 ∨ r = 13 ∨ r = 10
 ·have HX : Hid (cls r = 1) := Lib.hid (if_pos h)
  rcases h with rfl | rfl | rfl | rfl
  all_goals
   go_enter Tryz.func87, Tryz.ntmps87
   go_wp2_with fail
   go_ret
   exact ⟨ret_int HX.out.symm, rfl⟩
 have hb : (r == 32) = false ∧ (r == 9) = false ∧ (r == 13) = false ∧ (r == 10) = false := ⟨beqf (by omega), beqf (by omega), beqf (by omega), beqf (by omega)⟩
 obtain ⟨b0, b1, b2, b3⟩ := hb
 by_cases h2 : (97 ≤ r ∧ r ≤ 122) ∨ (65 ≤ r ∧ r ≤ 90) ∨ r = 95
 ·have HX : Hid (cls r = 2) := Lib.hid (by unfold cls; rw [if_neg h, if_pos h2])
  clear h
  rcases h2 with ⟨h2, h3⟩ | ⟨h2, h3⟩ | rfl
  all_goals
   go_enter Tryz.func87, Tryz.ntmps87
   go_wp2_with fail
   go_ret
   exact ⟨ret_int HX.out.symm, rfl⟩
 by_cases h3 : 192 ≤ r ∧ r ≤ 591 ∧ r ≠ 215 ∧ r ≠ 247
 ·have HX : Hid (cls r = 2) := Lib.hid (by unfold cls; rw [if_neg h, if_neg h2, if_pos h3])
  obtain ⟨h4, h5, h6, h7⟩ := h3
  have c4 : (r == 95) = false := beqf (by omega)
  have c5 : (r != 215) = true := bnet h6
  have c6 : (r != 247) = true := bnet h7
  clear h h2 h6 h7
  go_enter Tryz.func87, Tryz.ntmps87
  go_wp2_with fail
  go_ret
  exact ⟨ret_int HX.out.symm, rfl⟩
 by_cases h4 : 48 ≤ r ∧ r ≤ 57
 ·have HX : Hid (cls r = 3) := Lib.hid (by unfold cls; rw [if_neg h, if_neg h2, if_neg h3, if_pos h4])
  obtain ⟨h5, h6⟩ := h4
  have c4 : (r == 95) = false := beqf (by omega)
  clear h h2 h3
  go_enter Tryz.func87, Tryz.ntmps87
  go_wp2_with fail
  go_ret
  exact ⟨ret_int HX.out.symm, rfl⟩
 by_cases h5 : r = 34
 ·subst h5
  clear h h2 h3 h4
  go_enter Tryz.func87, Tryz.ntmps87
  go_wp2_with fail
  go_ret
  exact ⟨rfl, rfl⟩
 by_cases h6 : r = 35
 ·subst h6
  clear h h2 h3 h4 h5
  go_enter Tryz.func87, Tryz.ntmps87
  go_wp2_with fail
  go_ret
  exact ⟨rfl, rfl⟩
 exact xclass_sign r w h h2 h3 h4 h5 h6
set_option maxHeartbeats 1000000 in
theorem xwordy_any (r : Int) (w : World) : Calls Tryz.prog 109 #[.int .i64 r] w fun e w' => e = .returned (.bool (isWz r)) ∧ w' = w := by
 have HC := Lib.hid (xclass_any r w)
 obtain ⟨c, hc⟩ : ∃ c, cls r = c := ⟨_, rfl⟩
 have HX : Hid (isWz r = (c == 2 || c == 3)) := Lib.hid (by unfold isWz; rw [hc])
 rw [hc] at HC
 clear hc
 rcases three c with rfl | rfl | ⟨n2, n3⟩
 all_goals
  (try rw [bne, Bool.not_eq_true'] at n2 n3)
  go_enter Tryz.func109, Tryz.ntmps109
  go_wp2_with (go_at_call 87; refine HC.out.mono ?_; rintro e w' ⟨rfl, rfl⟩)
  go_ret
  exact ⟨ret_bool (by rw [HX.out]; simp [*]), rfl⟩
end Go.Proofs.YtgcfjkfipkfijaaGreatDoor
