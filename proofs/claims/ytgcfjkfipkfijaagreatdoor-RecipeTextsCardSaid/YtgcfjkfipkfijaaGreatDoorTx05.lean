/- Part 5 of the proof of rtexts_card; no conditions. -/
import Derived.Test.YtgcfjkfipkfijaaGreatDoorTx04
namespace Go.Proofs.YtgcfjkfipkfijaaGreatDoor
open Go Go.RowKit Go.Lib
set_option maxHeartbeats 4000000 in
set_option maxRecDepth 100000 in
theorem un_par_bad (l : List Tok) (g : Nat) (A : Option Addr) (c : Nat) (first : Int) (hlc : l.length ≤ c) (hf0 : -9223372036854775808 ≤ first)
  (at_ : Int) (w : World) (hb : RdB w g A l.length c first ⟨at_, 0⟩) (hr : tokK.Row [g] w A l) (h1 : first ≤ at_) (h3 : at_ ≤ first + 64) (hisp : isP l 2 3 ⟨at_, 0⟩ = none)
  (n a : Int) (x : ByteArray) (ht : tokAt l at_ = ⟨4, x, n, a⟩) (hx : seq x ⟨#[40]⟩ = true) (sp : St) (hpp : passP first ⟨at_, 0⟩ = (true, sp)) (lo : Int) (orr : St → Ex × St) (hO : ReadsAs l g A c first lo 121 orr) (hl1 : first ≤ sp.at_) (hl2 : lo ≤ sp.at_) (hl3 : sp.at_ ≤ first + 64) (e : Ex) (at2 bad2 k2 n2 a2 : Int) (x2 : ByteArray) (hp2 : orr sp = (e, ⟨at2, bad2⟩)) (ht2 : tokAt l at2 = ⟨k2, x2, n2, a2⟩) (hlo2 : first ≤ at2) (hhi2 : at2 ≤ first + 64) (h0 : bad2 ≠ 0) :
  Calls Tryz.prog 173 #[.pointer (some ⟨g, 0, none⟩)] w (RdPost g A l.length c first (e, ⟨at2, bad2⟩) w) := by
 have HR := Lib.hid hr
 have hg := blk_lt hb
 obtain ⟨wr, hw2⟩ : ∃ w2, w.alloc (.cells #[.int .i64 0, .int .i64 0, .string ⟨#[]⟩, .slice none 0 0] 41 (0, 0)) = w2 := ⟨_, rfl⟩
 have hb2 : Below w.heap.size w wr := hw2 ▸ (Below.refl _ _).alloc (Nat.le_refl _) _
 have q5 : wr.heap[w.heap.size]? = some (.cells #[.int .i64 0, .int .i64 0, .string ⟨#[]⟩, .slice none 0 0] 41 (0, 0)) := hw2 ▸ heap_alloc_new _ _
 have q3 := hb.same hb2
 have q4 : Same [g] w wr := Same.of_below hb2
 obtain ⟨K8, hK8⟩ : ∃ K, w.heap.size = K := ⟨_, rfl⟩
 have HIS := ris_any l g A c first ⟨at_, 0⟩ wr q3 (HR.out.keep q4) hlc 2 3 (by omega) (by omega) (by omega)
 rw [hK8] at q5
 have Q := Lib.hid (⟨q3, q4, q5⟩ : _ ∧ _ ∧ _)
 rw [hisp] at HIS
 have HHIS := Lib.hid HIS
 have HW2 := Lib.hid (⟨hw2, hK8⟩ : _ ∧ _)
 have HT := Lib.hid ht
 have hmx := hr.1
 clear HIS q3 q4 q5 hb2 hw2 hK8 hb hr hisp ht
 have hxb : (x.toList == [40]) = true := by rw [Lib.toList_data]; exact hx
 have hnb : (bad2 != 0) = true := bne_iff_ne.2 h0
 have hbb : (bad2 == 0) = false := beq_eq_false_iff_ne.2 h0
 have HO := Lib.hid hO
 clear hO
 go_enter Tryz.func173, Tryz.ntmps173
 go_wp2_with (rw [HW2.out.1, HW2.out.2]; refine HHIS.out.mono ?_; rintro r w3 ⟨rfl, hb3⟩; have HB3 := Lib.hid hb3; clear hb3)
 refine (rtoken_any l g A c first ⟨at_, 0⟩ w3 (Q.out.1.same HB3.out) ((HR.out.keep Q.out.2.1).keep (Same.of_below HB3.out)) hlc).mono ?_
 rw [show tokAt l (St.mk at_ 0).at_ = ⟨4, x, n, a⟩ from HT.out]
 rintro r w4 ⟨rfl, hb4⟩
 obtain ⟨w5, hw5⟩ : ∃ w5, w4.alloc (.cells #[.int .i64 4, .string x, .int .i64 n, .int .i64 a] 60 (0, 0)) = w5 := ⟨_, rfl⟩
 have hb35 : Below w3.heap.size w3 w5 := hb4.trans (hw5 ▸ (Below.refl _ _).alloc hb4.size _)
 have hb5 : Below wr.heap.size wr w5 := HB3.out.trans (hb35.mono HB3.out.size)
 have ht5 : w5.heap[w4.heap.size]? = some (.cells #[.int .i64 4, .string x, .int .i64 n, .int .i64 a] 60 (0, 0)) := hw5 ▸ heap_alloc_new _ _
 have hrd5 := Q.out.1.same hb5
 have hz5 := (hb5.block K8 (blk_lt Q.out.2.2)).trans Q.out.2.2
 obtain ⟨⟨t0, t1, t2, t3⟩, _⟩ := blk4 ht5
 obtain ⟨⟨_, _, _, r3⟩, _⟩ := blk4 hrd5
 obtain ⟨⟨z0, z1, z2, z3⟩, f0, f1, f2, f3⟩ := blk4 hz5
 have hgt : g < w4.heap.size := by have h1 := hb4.size; have h2 := HB3.out.size; have h3 := blk_lt Q.out.1; omega
 have H5 := Lib.hid (⟨hrd5, hz5, ht5, Q.out.2.1.below_ hb5, HW2.out.2⟩ : _ ∧ _ ∧ _ ∧ _ ∧ _)
 have HW5 := Lib.hid hw5
 obtain ⟨Kt, hKt⟩ : ∃ K, w4.heap.size = K := ⟨_, rfl⟩
 rw [hKt] at t0 t1 t2 t3 H5 hgt
 have HKt := Lib.hid hKt
 clear hb35 hb5 hb4 hrd5 hz5 ht5 hw5 hKt
 go_wp2_with (rw [HW5.out, HKt.out])
 have hin := (tokAt_in (l := l) (i := at_) (by rw [HT.out]; show (4 : Int) ≠ 0; decide)).2
 refine (rpass_any g A l.length c first ⟨at_, 0⟩ w5 H5.out.1 h1 h3 (by show at_ < _; omega) hf0).mono ?_
 rw [hpp]
 rintro r w6 ⟨rfl, hrd6, hs6⟩
 have hK8 := H5.out.2.2.2.2
 obtain ⟨⟨y0, y1, y2, y3⟩, g0, g1, g2, g3⟩ := blk4 (hs6.heap (by simp; omega) H5.out.2.1)
 obtain ⟨⟨u0, u1, u2, u3⟩, _⟩ := blk4 (hs6.heap (k := Kt) (by simp; omega) H5.out.2.2.1)
 have H6 := Lib.hid (⟨hrd6, hs6⟩ : _ ∧ _)
 have HK8 := Lib.hid hK8
 clear hrd6 hs6 hK8
 go_wp2_with fail
 have HS6 := Lib.hid (H5.out.2.2.2.1.then_ H6.out.2)
 refine (HO.out sp w6 H6.out.1 (HR.out.keep HS6.out) (by omega) (by omega) (by omega)).mono ?_
 rw [hp2]
 rintro r w7 ⟨B, d, rfl, hx7, hrd7, hs7⟩
 simp only at hx7 hrd7
 obtain ⟨w8, hw8⟩ : ∃ w8, w7.alloc (.cells #[.int .i64 e.op, .int .i64 e.n, .string e.name, .slice B e.kids.length d] 41 (0, 0)) = w8 := ⟨_, rfl⟩
 have hb78 : Below w7.heap.size w7 w8 := hw8 ▸ (Below.refl _ _).alloc (Nat.le_refl _) _
 have he8 : w8.heap[w7.heap.size]? = some (.cells #[.int .i64 e.op, .int .i64 e.n, .string e.name, .slice B e.kids.length d] 41 (0, 0)) := hw8 ▸ heap_alloc_new _ _
 have hs58 : Same [g] w5 w8 := (H6.out.2.then_ hs7).below_ hb78
 have hk58 := HK8.out
 have hz8 := hs58.heap (k := K8) (by simp; omega) H5.out.2.1
 have hg7 : g < w7.heap.size := blk_lt hrd7
 have hk7 : K8 < w7.heap.size := blk_lt ((H6.out.2.then_ hs7).heap (k := K8) (by simp; omega) H5.out.2.1)
 have hx8 : ExF (fun k => k ≤ K8) w8 e B d := (hx7.more (Q := fun k => k ≤ K8) (fun k hk => .inl (Nat.lt_of_le_of_lt hk (blk_lt (H6.out.2.heap (k := K8) (by simp; omega) H5.out.2.1))))).below hb78
 have H8 := Lib.hid (⟨hrd7.same hb78, hz8, he8, hx8, (HS6.out.then_ hs7).below_ hb78⟩ : _ ∧ _ ∧ _ ∧ _ ∧ _)
 have hg8 : g ≠ K8 := by omega
 obtain ⟨Ke, hKe⟩ : ∃ K, w7.heap.size = K := ⟨_, rfl⟩
 rw [hKe] at H8 hg7 hk7
 have HW8 := Lib.hid (⟨hw8, hKe⟩ : _ ∧ _)
 clear hx7 hrd7 hs7 hb78 he8 hs58 hz8 hx8 hw8 hKe y0 y1 y2 y3 g0 g1 g2 g3 u0 u1 u2 u3 z0 z1 z2 z3 f0 f1 f2 f3 t0 t1 t2 t3 r3 hk58
 go_wp2_with (rw [HW8.out.1, HW8.out.2])
 refine (rtoken_any l g A c first ⟨at2, bad2⟩ w8 H8.out.1 (HR.out.keep H8.out.2.2.2.2) hlc).mono ?_
 rw [show tokAt l (St.mk at2 bad2).at_ = ⟨k2, x2, n2, a2⟩ from ht2]
 rintro r w9 ⟨rfl, hb9⟩
 obtain ⟨w10, hw10⟩ : ∃ w5, w9.alloc (.cells #[.int .i64 k2, .string x2, .int .i64 n2, .int .i64 a2] 60 (0, 0)) = w5 := ⟨_, rfl⟩
 have hb10 : Below w8.heap.size w8 w10 := hb9.trans (hw10 ▸ (Below.refl _ _).alloc hb9.size _)
 have ht10 : w10.heap[w9.heap.size]? = some (.cells #[.int .i64 k2, .string x2, .int .i64 n2, .int .i64 a2] 60 (0, 0)) := hw10 ▸ heap_alloc_new _ _
 have hrd10 := H8.out.1.same hb10
 have hz10 := (hb10.block K8 (blk_lt H8.out.2.1)).trans H8.out.2.1
 have he10 := (hb10.block Ke (blk_lt H8.out.2.2.1)).trans H8.out.2.2.1
 obtain ⟨⟨t0, t1, t2, t3⟩, _⟩ := blk4 ht10
 obtain ⟨⟨_, _, _, r3⟩, _⟩ := blk4 hrd10
 obtain ⟨⟨z0, z1, z2, z3⟩, f0, f1, f2, f3⟩ := blk4 hz10
 obtain ⟨⟨v0, v1, v2, v3⟩, _⟩ := blk4 he10
 have H10 := Lib.hid (⟨hrd10, hz10, he10, H8.out.2.2.2.1.below hb10, H8.out.2.2.2.2.below_ hb10⟩ : _ ∧ _ ∧ _ ∧ _ ∧ _)
 have HW10 := Lib.hid hw10
 clear hb9 hb10 ht10 hrd10 hz10 he10 hw10
 go_wp2_with (rw [HW10.out])
 have _u := (⟨hlo2, hhi2⟩ : _ ∧ _)
 clear _u hlo2 hhi2
 refine bodyPost_ret (v := exV e B d) (by simp [results, Tryz.results173, go_sem, *]) rfl ?_
 have hK8 := HK8.out
 exact rd_end (P := fun k => k ≤ K8) (fun k hk => by show k ≤ K8; omega) (Nat.le_refl _) H10.out.2.2.2.1 H10.out.1 H10.out.2.2.2.2 (by omega) hg _ _ _ _
set_option maxHeartbeats 4000000 in
set_option maxRecDepth 100000 in
theorem un_par_k (l : List Tok) (g : Nat) (A : Option Addr) (c : Nat) (first : Int) (hlc : l.length ≤ c) (hf0 : -9223372036854775808 ≤ first)
  (at_ : Int) (w : World) (hb : RdB w g A l.length c first ⟨at_, 0⟩) (hr : tokK.Row [g] w A l) (h1 : first ≤ at_) (h3 : at_ ≤ first + 64) (hisp : isP l 2 3 ⟨at_, 0⟩ = none)
  (n a : Int) (x : ByteArray) (ht : tokAt l at_ = ⟨4, x, n, a⟩) (hx : seq x ⟨#[40]⟩ = true) (sp : St) (hpp : passP first ⟨at_, 0⟩ = (true, sp)) (lo : Int) (orr : St → Ex × St) (hO : ReadsAs l g A c first lo 121 orr) (hl1 : first ≤ sp.at_) (hl2 : lo ≤ sp.at_) (hl3 : sp.at_ ≤ first + 64) (e : Ex) (at2 k2 n2 a2 : Int) (x2 : ByteArray) (hp2 : orr sp = (e, ⟨at2, 0⟩)) (ht2 : tokAt l at2 = ⟨k2, x2, n2, a2⟩) (hlo2 : first ≤ at2) (hhi2 : at2 ≤ first + 64) (h4 : k2 ≠ 4) :
  Calls Tryz.prog 173 #[.pointer (some ⟨g, 0, none⟩)] w (RdPost g A l.length c first (zEx, failP 11 ⟨at2, 0⟩) w) := by
 have HR := Lib.hid hr
 have hg := blk_lt hb
 obtain ⟨wr, hw2⟩ : ∃ w2, w.alloc (.cells #[.int .i64 0, .int .i64 0, .string ⟨#[]⟩, .slice none 0 0] 41 (0, 0)) = w2 := ⟨_, rfl⟩
 have hb2 : Below w.heap.size w wr := hw2 ▸ (Below.refl _ _).alloc (Nat.le_refl _) _
 have q5 : wr.heap[w.heap.size]? = some (.cells #[.int .i64 0, .int .i64 0, .string ⟨#[]⟩, .slice none 0 0] 41 (0, 0)) := hw2 ▸ heap_alloc_new _ _
 have q3 := hb.same hb2
 have q4 : Same [g] w wr := Same.of_below hb2
 obtain ⟨K8, hK8⟩ : ∃ K, w.heap.size = K := ⟨_, rfl⟩
 have HIS := ris_any l g A c first ⟨at_, 0⟩ wr q3 (HR.out.keep q4) hlc 2 3 (by omega) (by omega) (by omega)
 rw [hK8] at q5
 have Q := Lib.hid (⟨q3, q4, q5⟩ : _ ∧ _ ∧ _)
 rw [hisp] at HIS
 have HHIS := Lib.hid HIS
 have HW2 := Lib.hid (⟨hw2, hK8⟩ : _ ∧ _)
 have HT := Lib.hid ht
 have hmx := hr.1
 clear HIS q3 q4 q5 hb2 hw2 hK8 hb hr hisp ht
 have hxb : (x.toList == [40]) = true := by rw [Lib.toList_data]; exact hx
 have hnk : (k2 != 4) = true := bne_iff_ne.2 h4
 have hk4 : (k2 == 4) = false := beq_eq_false_iff_ne.2 h4
 have HO := Lib.hid hO
 clear hO
 go_enter Tryz.func173, Tryz.ntmps173
 go_wp2_with (rw [HW2.out.1, HW2.out.2]; refine HHIS.out.mono ?_; rintro r w3 ⟨rfl, hb3⟩; have HB3 := Lib.hid hb3; clear hb3)
 refine (rtoken_any l g A c first ⟨at_, 0⟩ w3 (Q.out.1.same HB3.out) ((HR.out.keep Q.out.2.1).keep (Same.of_below HB3.out)) hlc).mono ?_
 rw [show tokAt l (St.mk at_ 0).at_ = ⟨4, x, n, a⟩ from HT.out]
 rintro r w4 ⟨rfl, hb4⟩
 obtain ⟨w5, hw5⟩ : ∃ w5, w4.alloc (.cells #[.int .i64 4, .string x, .int .i64 n, .int .i64 a] 60 (0, 0)) = w5 := ⟨_, rfl⟩
 have hb35 : Below w3.heap.size w3 w5 := hb4.trans (hw5 ▸ (Below.refl _ _).alloc hb4.size _)
 have hb5 : Below wr.heap.size wr w5 := HB3.out.trans (hb35.mono HB3.out.size)
 have ht5 : w5.heap[w4.heap.size]? = some (.cells #[.int .i64 4, .string x, .int .i64 n, .int .i64 a] 60 (0, 0)) := hw5 ▸ heap_alloc_new _ _
 have hrd5 := Q.out.1.same hb5
 have hz5 := (hb5.block K8 (blk_lt Q.out.2.2)).trans Q.out.2.2
 obtain ⟨⟨t0, t1, t2, t3⟩, _⟩ := blk4 ht5
 obtain ⟨⟨_, _, _, r3⟩, _⟩ := blk4 hrd5
 obtain ⟨⟨z0, z1, z2, z3⟩, f0, f1, f2, f3⟩ := blk4 hz5
 have hgt : g < w4.heap.size := by have h1 := hb4.size; have h2 := HB3.out.size; have h3 := blk_lt Q.out.1; omega
 have H5 := Lib.hid (⟨hrd5, hz5, ht5, Q.out.2.1.below_ hb5, HW2.out.2⟩ : _ ∧ _ ∧ _ ∧ _ ∧ _)
 have HW5 := Lib.hid hw5
 obtain ⟨Kt, hKt⟩ : ∃ K, w4.heap.size = K := ⟨_, rfl⟩
 rw [hKt] at t0 t1 t2 t3 H5 hgt
 have HKt := Lib.hid hKt
 clear hb35 hb5 hb4 hrd5 hz5 ht5 hw5 hKt
 go_wp2_with (rw [HW5.out, HKt.out])
 have hin := (tokAt_in (l := l) (i := at_) (by rw [HT.out]; show (4 : Int) ≠ 0; decide)).2
 refine (rpass_any g A l.length c first ⟨at_, 0⟩ w5 H5.out.1 h1 h3 (by show at_ < _; omega) hf0).mono ?_
 rw [hpp]
 rintro r w6 ⟨rfl, hrd6, hs6⟩
 have hK8 := H5.out.2.2.2.2
 obtain ⟨⟨y0, y1, y2, y3⟩, g0, g1, g2, g3⟩ := blk4 (hs6.heap (by simp; omega) H5.out.2.1)
 obtain ⟨⟨u0, u1, u2, u3⟩, _⟩ := blk4 (hs6.heap (k := Kt) (by simp; omega) H5.out.2.2.1)
 have H6 := Lib.hid (⟨hrd6, hs6⟩ : _ ∧ _)
 have HK8 := Lib.hid hK8
 clear hrd6 hs6 hK8
 go_wp2_with fail
 have HS6 := Lib.hid (H5.out.2.2.2.1.then_ H6.out.2)
 refine (HO.out sp w6 H6.out.1 (HR.out.keep HS6.out) (by omega) (by omega) (by omega)).mono ?_
 rw [hp2]
 rintro r w7 ⟨B, d, rfl, hx7, hrd7, hs7⟩
 simp only at hx7 hrd7
 obtain ⟨w8, hw8⟩ : ∃ w8, w7.alloc (.cells #[.int .i64 e.op, .int .i64 e.n, .string e.name, .slice B e.kids.length d] 41 (0, 0)) = w8 := ⟨_, rfl⟩
 have hb78 : Below w7.heap.size w7 w8 := hw8 ▸ (Below.refl _ _).alloc (Nat.le_refl _) _
 have he8 : w8.heap[w7.heap.size]? = some (.cells #[.int .i64 e.op, .int .i64 e.n, .string e.name, .slice B e.kids.length d] 41 (0, 0)) := hw8 ▸ heap_alloc_new _ _
 have hs58 : Same [g] w5 w8 := (H6.out.2.then_ hs7).below_ hb78
 have hk58 := HK8.out
 have hz8 := hs58.heap (k := K8) (by simp; omega) H5.out.2.1
 have hg7 : g < w7.heap.size := blk_lt hrd7
 have hk7 : K8 < w7.heap.size := blk_lt ((H6.out.2.then_ hs7).heap (k := K8) (by simp; omega) H5.out.2.1)
 have hx8 : ExF (fun k => k ≤ K8) w8 e B d := (hx7.more (Q := fun k => k ≤ K8) (fun k hk => .inl (Nat.lt_of_le_of_lt hk (blk_lt (H6.out.2.heap (k := K8) (by simp; omega) H5.out.2.1))))).below hb78
 have H8 := Lib.hid (⟨hrd7.same hb78, hz8, he8, hx8, (HS6.out.then_ hs7).below_ hb78⟩ : _ ∧ _ ∧ _ ∧ _ ∧ _)
 have hg8 : g ≠ K8 := by omega
 obtain ⟨Ke, hKe⟩ : ∃ K, w7.heap.size = K := ⟨_, rfl⟩
 rw [hKe] at H8 hg7 hk7
 have HW8 := Lib.hid (⟨hw8, hKe⟩ : _ ∧ _)
 clear hx7 hrd7 hs7 hb78 he8 hs58 hz8 hx8 hw8 hKe y0 y1 y2 y3 g0 g1 g2 g3 u0 u1 u2 u3 z0 z1 z2 z3 f0 f1 f2 f3 t0 t1 t2 t3 r3 hk58
 go_wp2_with (rw [HW8.out.1, HW8.out.2])
 refine (rtoken_any l g A c first ⟨at2, 0⟩ w8 H8.out.1 (HR.out.keep H8.out.2.2.2.2) hlc).mono ?_
 rw [show tokAt l (St.mk at2 0).at_ = ⟨k2, x2, n2, a2⟩ from ht2]
 rintro r w9 ⟨rfl, hb9⟩
 obtain ⟨w10, hw10⟩ : ∃ w5, w9.alloc (.cells #[.int .i64 k2, .string x2, .int .i64 n2, .int .i64 a2] 60 (0, 0)) = w5 := ⟨_, rfl⟩
 have hb10 : Below w8.heap.size w8 w10 := hb9.trans (hw10 ▸ (Below.refl _ _).alloc hb9.size _)
 have ht10 : w10.heap[w9.heap.size]? = some (.cells #[.int .i64 k2, .string x2, .int .i64 n2, .int .i64 a2] 60 (0, 0)) := hw10 ▸ heap_alloc_new _ _
 have hrd10 := H8.out.1.same hb10
 have hz10 := (hb10.block K8 (blk_lt H8.out.2.1)).trans H8.out.2.1
 have he10 := (hb10.block Ke (blk_lt H8.out.2.2.1)).trans H8.out.2.2.1
 obtain ⟨⟨t0, t1, t2, t3⟩, _⟩ := blk4 ht10
 obtain ⟨⟨_, _, _, r3⟩, _⟩ := blk4 hrd10
 obtain ⟨⟨z0, z1, z2, z3⟩, f0, f1, f2, f3⟩ := blk4 hz10
 obtain ⟨⟨v0, v1, v2, v3⟩, _⟩ := blk4 he10
 have H10 := Lib.hid (⟨hrd10, hz10, he10, H8.out.2.2.2.1.below hb10, H8.out.2.2.2.2.below_ hb10⟩ : _ ∧ _ ∧ _ ∧ _ ∧ _)
 have HW10 := Lib.hid hw10
 clear hb9 hb10 ht10 hrd10 hz10 he10 hw10
 go_wp2_with (rw [HW10.out])
 have _u := (⟨hlo2, hhi2⟩ : _ ∧ _)
 clear _u hlo2 hhi2
 refine (fail_any g A l.length c first ⟨at2, 0⟩ w10 H10.out.1 11).mono ?_
 rintro r w11 ⟨rfl, hrd11, hs11⟩
 obtain ⟨⟨y0, y1, y2, y3⟩, g0, g1, g2, g3⟩ := blk4 (hs11.heap (by simp; omega) H10.out.2.1)
 have H11 := Lib.hid (⟨hrd11, hs11⟩ : _ ∧ _)
 clear hrd11 hs11
 go_wp2_with fail
 refine bodyPost_ret (v := exV zEx none 0) (by simp [results, Tryz.results173, go_sem, *] <;> exact ⟨rfl, rfl, rfl, rfl⟩) rfl ?_
 have hK8 := HK8.out
 exact rd_end (P := fun k => k ≤ K8) (fun k hk => by show k ≤ K8; omega) (Nat.le_refl _) (ExF.leaf rfl) H11.out.1 (H10.out.2.2.2.2.then_ H11.out.2) (by omega) hg _ _ _ _
set_option maxHeartbeats 4000000 in
set_option maxRecDepth 100000 in
theorem un_par_x (l : List Tok) (g : Nat) (A : Option Addr) (c : Nat) (first : Int) (hlc : l.length ≤ c) (hf0 : -9223372036854775808 ≤ first)
  (at_ : Int) (w : World) (hb : RdB w g A l.length c first ⟨at_, 0⟩) (hr : tokK.Row [g] w A l) (h1 : first ≤ at_) (h3 : at_ ≤ first + 64) (hisp : isP l 2 3 ⟨at_, 0⟩ = none)
  (n a : Int) (x : ByteArray) (ht : tokAt l at_ = ⟨4, x, n, a⟩) (hx : seq x ⟨#[40]⟩ = true) (sp : St) (hpp : passP first ⟨at_, 0⟩ = (true, sp)) (lo : Int) (orr : St → Ex × St) (hO : ReadsAs l g A c first lo 121 orr) (hl1 : first ≤ sp.at_) (hl2 : lo ≤ sp.at_) (hl3 : sp.at_ ≤ first + 64) (e : Ex) (at2 n2 a2 : Int) (x2 : ByteArray) (hp2 : orr sp = (e, ⟨at2, 0⟩)) (ht2 : tokAt l at2 = ⟨4, x2, n2, a2⟩) (hlo2 : first ≤ at2) (hhi2 : at2 ≤ first + 64) (hx2 : seq x2 ⟨#[41]⟩ = false) :
  Calls Tryz.prog 173 #[.pointer (some ⟨g, 0, none⟩)] w (RdPost g A l.length c first (zEx, failP 11 ⟨at2, 0⟩) w) := by
 have HR := Lib.hid hr
 have hg := blk_lt hb
 obtain ⟨wr, hw2⟩ : ∃ w2, w.alloc (.cells #[.int .i64 0, .int .i64 0, .string ⟨#[]⟩, .slice none 0 0] 41 (0, 0)) = w2 := ⟨_, rfl⟩
 have hb2 : Below w.heap.size w wr := hw2 ▸ (Below.refl _ _).alloc (Nat.le_refl _) _
 have q5 : wr.heap[w.heap.size]? = some (.cells #[.int .i64 0, .int .i64 0, .string ⟨#[]⟩, .slice none 0 0] 41 (0, 0)) := hw2 ▸ heap_alloc_new _ _
 have q3 := hb.same hb2
 have q4 : Same [g] w wr := Same.of_below hb2
 obtain ⟨K8, hK8⟩ : ∃ K, w.heap.size = K := ⟨_, rfl⟩
 have HIS := ris_any l g A c first ⟨at_, 0⟩ wr q3 (HR.out.keep q4) hlc 2 3 (by omega) (by omega) (by omega)
 rw [hK8] at q5
 have Q := Lib.hid (⟨q3, q4, q5⟩ : _ ∧ _ ∧ _)
 rw [hisp] at HIS
 have HHIS := Lib.hid HIS
 have HW2 := Lib.hid (⟨hw2, hK8⟩ : _ ∧ _)
 have HT := Lib.hid ht
 have hmx := hr.1
 clear HIS q3 q4 q5 hb2 hw2 hK8 hb hr hisp ht
 have hxb : (x.toList == [40]) = true := by rw [Lib.toList_data]; exact hx
 have hxb2 : (x2.toList == [41]) = false := by rw [Lib.toList_data]; exact hx2
 have hxn2 : (x2.toList != [41]) = true := by simp only [bne, hxb2]; rfl
 have HO := Lib.hid hO
 clear hO
 go_enter Tryz.func173, Tryz.ntmps173
 go_wp2_with (rw [HW2.out.1, HW2.out.2]; refine HHIS.out.mono ?_; rintro r w3 ⟨rfl, hb3⟩; have HB3 := Lib.hid hb3; clear hb3)
 refine (rtoken_any l g A c first ⟨at_, 0⟩ w3 (Q.out.1.same HB3.out) ((HR.out.keep Q.out.2.1).keep (Same.of_below HB3.out)) hlc).mono ?_
 rw [show tokAt l (St.mk at_ 0).at_ = ⟨4, x, n, a⟩ from HT.out]
 rintro r w4 ⟨rfl, hb4⟩
 obtain ⟨w5, hw5⟩ : ∃ w5, w4.alloc (.cells #[.int .i64 4, .string x, .int .i64 n, .int .i64 a] 60 (0, 0)) = w5 := ⟨_, rfl⟩
 have hb35 : Below w3.heap.size w3 w5 := hb4.trans (hw5 ▸ (Below.refl _ _).alloc hb4.size _)
 have hb5 : Below wr.heap.size wr w5 := HB3.out.trans (hb35.mono HB3.out.size)
 have ht5 : w5.heap[w4.heap.size]? = some (.cells #[.int .i64 4, .string x, .int .i64 n, .int .i64 a] 60 (0, 0)) := hw5 ▸ heap_alloc_new _ _
 have hrd5 := Q.out.1.same hb5
 have hz5 := (hb5.block K8 (blk_lt Q.out.2.2)).trans Q.out.2.2
 obtain ⟨⟨t0, t1, t2, t3⟩, _⟩ := blk4 ht5
 obtain ⟨⟨_, _, _, r3⟩, _⟩ := blk4 hrd5
 obtain ⟨⟨z0, z1, z2, z3⟩, f0, f1, f2, f3⟩ := blk4 hz5
 have hgt : g < w4.heap.size := by have h1 := hb4.size; have h2 := HB3.out.size; have h3 := blk_lt Q.out.1; omega
 have H5 := Lib.hid (⟨hrd5, hz5, ht5, Q.out.2.1.below_ hb5, HW2.out.2⟩ : _ ∧ _ ∧ _ ∧ _ ∧ _)
 have HW5 := Lib.hid hw5
 obtain ⟨Kt, hKt⟩ : ∃ K, w4.heap.size = K := ⟨_, rfl⟩
 rw [hKt] at t0 t1 t2 t3 H5 hgt
 have HKt := Lib.hid hKt
 clear hb35 hb5 hb4 hrd5 hz5 ht5 hw5 hKt
 go_wp2_with (rw [HW5.out, HKt.out])
 have hin := (tokAt_in (l := l) (i := at_) (by rw [HT.out]; show (4 : Int) ≠ 0; decide)).2
 refine (rpass_any g A l.length c first ⟨at_, 0⟩ w5 H5.out.1 h1 h3 (by show at_ < _; omega) hf0).mono ?_
 rw [hpp]
 rintro r w6 ⟨rfl, hrd6, hs6⟩
 have hK8 := H5.out.2.2.2.2
 obtain ⟨⟨y0, y1, y2, y3⟩, g0, g1, g2, g3⟩ := blk4 (hs6.heap (by simp; omega) H5.out.2.1)
 obtain ⟨⟨u0, u1, u2, u3⟩, _⟩ := blk4 (hs6.heap (k := Kt) (by simp; omega) H5.out.2.2.1)
 have H6 := Lib.hid (⟨hrd6, hs6⟩ : _ ∧ _)
 have HK8 := Lib.hid hK8
 clear hrd6 hs6 hK8
 go_wp2_with fail
 have HS6 := Lib.hid (H5.out.2.2.2.1.then_ H6.out.2)
 refine (HO.out sp w6 H6.out.1 (HR.out.keep HS6.out) (by omega) (by omega) (by omega)).mono ?_
 rw [hp2]
 rintro r w7 ⟨B, d, rfl, hx7, hrd7, hs7⟩
 simp only at hx7 hrd7
 obtain ⟨w8, hw8⟩ : ∃ w8, w7.alloc (.cells #[.int .i64 e.op, .int .i64 e.n, .string e.name, .slice B e.kids.length d] 41 (0, 0)) = w8 := ⟨_, rfl⟩
 have hb78 : Below w7.heap.size w7 w8 := hw8 ▸ (Below.refl _ _).alloc (Nat.le_refl _) _
 have he8 : w8.heap[w7.heap.size]? = some (.cells #[.int .i64 e.op, .int .i64 e.n, .string e.name, .slice B e.kids.length d] 41 (0, 0)) := hw8 ▸ heap_alloc_new _ _
 have hs58 : Same [g] w5 w8 := (H6.out.2.then_ hs7).below_ hb78
 have hk58 := HK8.out
 have hz8 := hs58.heap (k := K8) (by simp; omega) H5.out.2.1
 have hg7 : g < w7.heap.size := blk_lt hrd7
 have hk7 : K8 < w7.heap.size := blk_lt ((H6.out.2.then_ hs7).heap (k := K8) (by simp; omega) H5.out.2.1)
 have hx8 : ExF (fun k => k ≤ K8) w8 e B d := (hx7.more (Q := fun k => k ≤ K8) (fun k hk => .inl (Nat.lt_of_le_of_lt hk (blk_lt (H6.out.2.heap (k := K8) (by simp; omega) H5.out.2.1))))).below hb78
 have H8 := Lib.hid (⟨hrd7.same hb78, hz8, he8, hx8, (HS6.out.then_ hs7).below_ hb78⟩ : _ ∧ _ ∧ _ ∧ _ ∧ _)
 have hg8 : g ≠ K8 := by omega
 obtain ⟨Ke, hKe⟩ : ∃ K, w7.heap.size = K := ⟨_, rfl⟩
 rw [hKe] at H8 hg7 hk7
 have HW8 := Lib.hid (⟨hw8, hKe⟩ : _ ∧ _)
 clear hx7 hrd7 hs7 hb78 he8 hs58 hz8 hx8 hw8 hKe y0 y1 y2 y3 g0 g1 g2 g3 u0 u1 u2 u3 z0 z1 z2 z3 f0 f1 f2 f3 t0 t1 t2 t3 r3 hk58
 go_wp2_with (rw [HW8.out.1, HW8.out.2])
 refine (rtoken_any l g A c first ⟨at2, 0⟩ w8 H8.out.1 (HR.out.keep H8.out.2.2.2.2) hlc).mono ?_
 rw [show tokAt l (St.mk at2 0).at_ = ⟨4, x2, n2, a2⟩ from ht2]
 rintro r w9 ⟨rfl, hb9⟩
 obtain ⟨w10, hw10⟩ : ∃ w5, w9.alloc (.cells #[.int .i64 4, .string x2, .int .i64 n2, .int .i64 a2] 60 (0, 0)) = w5 := ⟨_, rfl⟩
 have hb10 : Below w8.heap.size w8 w10 := hb9.trans (hw10 ▸ (Below.refl _ _).alloc hb9.size _)
 have ht10 : w10.heap[w9.heap.size]? = some (.cells #[.int .i64 4, .string x2, .int .i64 n2, .int .i64 a2] 60 (0, 0)) := hw10 ▸ heap_alloc_new _ _
 have hrd10 := H8.out.1.same hb10
 have hz10 := (hb10.block K8 (blk_lt H8.out.2.1)).trans H8.out.2.1
 have he10 := (hb10.block Ke (blk_lt H8.out.2.2.1)).trans H8.out.2.2.1
 obtain ⟨⟨t0, t1, t2, t3⟩, _⟩ := blk4 ht10
 obtain ⟨⟨_, _, _, r3⟩, _⟩ := blk4 hrd10
 obtain ⟨⟨z0, z1, z2, z3⟩, f0, f1, f2, f3⟩ := blk4 hz10
 obtain ⟨⟨v0, v1, v2, v3⟩, _⟩ := blk4 he10
 have H10 := Lib.hid (⟨hrd10, hz10, he10, H8.out.2.2.2.1.below hb10, H8.out.2.2.2.2.below_ hb10⟩ : _ ∧ _ ∧ _ ∧ _ ∧ _)
 have HW10 := Lib.hid hw10
 clear hb9 hb10 ht10 hrd10 hz10 he10 hw10
 go_wp2_with (rw [HW10.out])
 have _u := (⟨hlo2, hhi2⟩ : _ ∧ _)
 clear _u hlo2 hhi2
 refine (fail_any g A l.length c first ⟨at2, 0⟩ w10 H10.out.1 11).mono ?_
 rintro r w11 ⟨rfl, hrd11, hs11⟩
 obtain ⟨⟨y0, y1, y2, y3⟩, g0, g1, g2, g3⟩ := blk4 (hs11.heap (by simp; omega) H10.out.2.1)
 have H11 := Lib.hid (⟨hrd11, hs11⟩ : _ ∧ _)
 clear hrd11 hs11
 go_wp2_with fail
 refine bodyPost_ret (v := exV zEx none 0) (by simp [results, Tryz.results173, go_sem, *] <;> exact ⟨rfl, rfl, rfl, rfl⟩) rfl ?_
 have hK8 := HK8.out
 exact rd_end (P := fun k => k ≤ K8) (fun k hk => by show k ≤ K8; omega) (Nat.le_refl _) (ExF.leaf rfl) H11.out.1 (H10.out.2.2.2.2.then_ H11.out.2) (by omega) hg _ _ _ _
set_option maxHeartbeats 4000000 in
set_option maxRecDepth 100000 in
theorem un_par_ok (l : List Tok) (g : Nat) (A : Option Addr) (c : Nat) (first : Int) (hlc : l.length ≤ c) (hf0 : -9223372036854775808 ≤ first)
  (at_ : Int) (w : World) (hb : RdB w g A l.length c first ⟨at_, 0⟩) (hr : tokK.Row [g] w A l) (h1 : first ≤ at_) (h3 : at_ ≤ first + 64) (hisp : isP l 2 3 ⟨at_, 0⟩ = none)
  (n a : Int) (x : ByteArray) (ht : tokAt l at_ = ⟨4, x, n, a⟩) (hx : seq x ⟨#[40]⟩ = true) (sp : St) (hpp : passP first ⟨at_, 0⟩ = (true, sp)) (lo : Int) (orr : St → Ex × St) (hO : ReadsAs l g A c first lo 121 orr) (hl1 : first ≤ sp.at_) (hl2 : lo ≤ sp.at_) (hl3 : sp.at_ ≤ first + 64) (e : Ex) (at2 n2 a2 : Int) (x2 : ByteArray) (hp2 : orr sp = (e, ⟨at2, 0⟩)) (ht2 : tokAt l at2 = ⟨4, x2, n2, a2⟩) (hlo2 : first ≤ at2) (hhi2 : at2 ≤ first + 64) (hx2 : seq x2 ⟨#[41]⟩ = true) :
  Calls Tryz.prog 173 #[.pointer (some ⟨g, 0, none⟩)] w (RdPost g A l.length c first (e, (passP first ⟨at2, 0⟩).2) w) := by
 have HR := Lib.hid hr
 have hg := blk_lt hb
 obtain ⟨wr, hw2⟩ : ∃ w2, w.alloc (.cells #[.int .i64 0, .int .i64 0, .string ⟨#[]⟩, .slice none 0 0] 41 (0, 0)) = w2 := ⟨_, rfl⟩
 have hb2 : Below w.heap.size w wr := hw2 ▸ (Below.refl _ _).alloc (Nat.le_refl _) _
 have q5 : wr.heap[w.heap.size]? = some (.cells #[.int .i64 0, .int .i64 0, .string ⟨#[]⟩, .slice none 0 0] 41 (0, 0)) := hw2 ▸ heap_alloc_new _ _
 have q3 := hb.same hb2
 have q4 : Same [g] w wr := Same.of_below hb2
 obtain ⟨K8, hK8⟩ : ∃ K, w.heap.size = K := ⟨_, rfl⟩
 have HIS := ris_any l g A c first ⟨at_, 0⟩ wr q3 (HR.out.keep q4) hlc 2 3 (by omega) (by omega) (by omega)
 rw [hK8] at q5
 have Q := Lib.hid (⟨q3, q4, q5⟩ : _ ∧ _ ∧ _)
 rw [hisp] at HIS
 have HHIS := Lib.hid HIS
 have HW2 := Lib.hid (⟨hw2, hK8⟩ : _ ∧ _)
 have HT := Lib.hid ht
 have hmx := hr.1
 clear HIS q3 q4 q5 hb2 hw2 hK8 hb hr hisp ht
 have hxb : (x.toList == [40]) = true := by rw [Lib.toList_data]; exact hx
 have hxb2 : (x2.toList == [41]) = true := by rw [Lib.toList_data]; exact hx2
 have hxn2 : (x2.toList != [41]) = false := by simp only [bne, hxb2]; rfl
 have HO := Lib.hid hO
 clear hO
 go_enter Tryz.func173, Tryz.ntmps173
 go_wp2_with (rw [HW2.out.1, HW2.out.2]; refine HHIS.out.mono ?_; rintro r w3 ⟨rfl, hb3⟩; have HB3 := Lib.hid hb3; clear hb3)
 refine (rtoken_any l g A c first ⟨at_, 0⟩ w3 (Q.out.1.same HB3.out) ((HR.out.keep Q.out.2.1).keep (Same.of_below HB3.out)) hlc).mono ?_
 rw [show tokAt l (St.mk at_ 0).at_ = ⟨4, x, n, a⟩ from HT.out]
 rintro r w4 ⟨rfl, hb4⟩
 obtain ⟨w5, hw5⟩ : ∃ w5, w4.alloc (.cells #[.int .i64 4, .string x, .int .i64 n, .int .i64 a] 60 (0, 0)) = w5 := ⟨_, rfl⟩
 have hb35 : Below w3.heap.size w3 w5 := hb4.trans (hw5 ▸ (Below.refl _ _).alloc hb4.size _)
 have hb5 : Below wr.heap.size wr w5 := HB3.out.trans (hb35.mono HB3.out.size)
 have ht5 : w5.heap[w4.heap.size]? = some (.cells #[.int .i64 4, .string x, .int .i64 n, .int .i64 a] 60 (0, 0)) := hw5 ▸ heap_alloc_new _ _
 have hrd5 := Q.out.1.same hb5
 have hz5 := (hb5.block K8 (blk_lt Q.out.2.2)).trans Q.out.2.2
 obtain ⟨⟨t0, t1, t2, t3⟩, _⟩ := blk4 ht5
 obtain ⟨⟨_, _, _, r3⟩, _⟩ := blk4 hrd5
 obtain ⟨⟨z0, z1, z2, z3⟩, f0, f1, f2, f3⟩ := blk4 hz5
 have hgt : g < w4.heap.size := by have h1 := hb4.size; have h2 := HB3.out.size; have h3 := blk_lt Q.out.1; omega
 have H5 := Lib.hid (⟨hrd5, hz5, ht5, Q.out.2.1.below_ hb5, HW2.out.2⟩ : _ ∧ _ ∧ _ ∧ _ ∧ _)
 have HW5 := Lib.hid hw5
 obtain ⟨Kt, hKt⟩ : ∃ K, w4.heap.size = K := ⟨_, rfl⟩
 rw [hKt] at t0 t1 t2 t3 H5 hgt
 have HKt := Lib.hid hKt
 clear hb35 hb5 hb4 hrd5 hz5 ht5 hw5 hKt
 go_wp2_with (rw [HW5.out, HKt.out])
 have hin := (tokAt_in (l := l) (i := at_) (by rw [HT.out]; show (4 : Int) ≠ 0; decide)).2
 refine (rpass_any g A l.length c first ⟨at_, 0⟩ w5 H5.out.1 h1 h3 (by show at_ < _; omega) hf0).mono ?_
 rw [hpp]
 rintro r w6 ⟨rfl, hrd6, hs6⟩
 have hK8 := H5.out.2.2.2.2
 obtain ⟨⟨y0, y1, y2, y3⟩, g0, g1, g2, g3⟩ := blk4 (hs6.heap (by simp; omega) H5.out.2.1)
 obtain ⟨⟨u0, u1, u2, u3⟩, _⟩ := blk4 (hs6.heap (k := Kt) (by simp; omega) H5.out.2.2.1)
 have H6 := Lib.hid (⟨hrd6, hs6⟩ : _ ∧ _)
 have HK8 := Lib.hid hK8
 clear hrd6 hs6 hK8
 go_wp2_with fail
 have HS6 := Lib.hid (H5.out.2.2.2.1.then_ H6.out.2)
 refine (HO.out sp w6 H6.out.1 (HR.out.keep HS6.out) (by omega) (by omega) (by omega)).mono ?_
 rw [hp2]
 rintro r w7 ⟨B, d, rfl, hx7, hrd7, hs7⟩
 simp only at hx7 hrd7
 obtain ⟨w8, hw8⟩ : ∃ w8, w7.alloc (.cells #[.int .i64 e.op, .int .i64 e.n, .string e.name, .slice B e.kids.length d] 41 (0, 0)) = w8 := ⟨_, rfl⟩
 have hb78 : Below w7.heap.size w7 w8 := hw8 ▸ (Below.refl _ _).alloc (Nat.le_refl _) _
 have he8 : w8.heap[w7.heap.size]? = some (.cells #[.int .i64 e.op, .int .i64 e.n, .string e.name, .slice B e.kids.length d] 41 (0, 0)) := hw8 ▸ heap_alloc_new _ _
 have hs58 : Same [g] w5 w8 := (H6.out.2.then_ hs7).below_ hb78
 have hk58 := HK8.out
 have hz8 := hs58.heap (k := K8) (by simp; omega) H5.out.2.1
 have hg7 : g < w7.heap.size := blk_lt hrd7
 have hk7 : K8 < w7.heap.size := blk_lt ((H6.out.2.then_ hs7).heap (k := K8) (by simp; omega) H5.out.2.1)
 have hx8 : ExF (fun k => k ≤ K8) w8 e B d := (hx7.more (Q := fun k => k ≤ K8) (fun k hk => .inl (Nat.lt_of_le_of_lt hk (blk_lt (H6.out.2.heap (k := K8) (by simp; omega) H5.out.2.1))))).below hb78
 have H8 := Lib.hid (⟨hrd7.same hb78, hz8, he8, hx8, (HS6.out.then_ hs7).below_ hb78⟩ : _ ∧ _ ∧ _ ∧ _ ∧ _)
 have hg8 : g ≠ K8 := by omega
 obtain ⟨Ke, hKe⟩ : ∃ K, w7.heap.size = K := ⟨_, rfl⟩
 rw [hKe] at H8 hg7 hk7
 have HW8 := Lib.hid (⟨hw8, hKe⟩ : _ ∧ _)
 clear hx7 hrd7 hs7 hb78 he8 hs58 hz8 hx8 hw8 hKe y0 y1 y2 y3 g0 g1 g2 g3 u0 u1 u2 u3 z0 z1 z2 z3 f0 f1 f2 f3 t0 t1 t2 t3 r3 hk58
 go_wp2_with (rw [HW8.out.1, HW8.out.2])
 refine (rtoken_any l g A c first ⟨at2, 0⟩ w8 H8.out.1 (HR.out.keep H8.out.2.2.2.2) hlc).mono ?_
 rw [show tokAt l (St.mk at2 0).at_ = ⟨4, x2, n2, a2⟩ from ht2]
 rintro r w9 ⟨rfl, hb9⟩
 obtain ⟨w10, hw10⟩ : ∃ w5, w9.alloc (.cells #[.int .i64 4, .string x2, .int .i64 n2, .int .i64 a2] 60 (0, 0)) = w5 := ⟨_, rfl⟩
 have hb10 : Below w8.heap.size w8 w10 := hb9.trans (hw10 ▸ (Below.refl _ _).alloc hb9.size _)
 have ht10 : w10.heap[w9.heap.size]? = some (.cells #[.int .i64 4, .string x2, .int .i64 n2, .int .i64 a2] 60 (0, 0)) := hw10 ▸ heap_alloc_new _ _
 have hrd10 := H8.out.1.same hb10
 have hz10 := (hb10.block K8 (blk_lt H8.out.2.1)).trans H8.out.2.1
 have he10 := (hb10.block Ke (blk_lt H8.out.2.2.1)).trans H8.out.2.2.1
 obtain ⟨⟨t0, t1, t2, t3⟩, _⟩ := blk4 ht10
 obtain ⟨⟨_, _, _, r3⟩, _⟩ := blk4 hrd10
 obtain ⟨⟨z0, z1, z2, z3⟩, f0, f1, f2, f3⟩ := blk4 hz10
 obtain ⟨⟨v0, v1, v2, v3⟩, _⟩ := blk4 he10
 have H10 := Lib.hid (⟨hrd10, hz10, he10, H8.out.2.2.2.1.below hb10, H8.out.2.2.2.2.below_ hb10⟩ : _ ∧ _ ∧ _ ∧ _ ∧ _)
 have HW10 := Lib.hid hw10
 clear hb9 hb10 ht10 hrd10 hz10 he10 hw10
 go_wp2_with (rw [HW10.out])
 have hin2 := (tokAt_in (l := l) (i := at2) (by rw [ht2]; show (4 : Int) ≠ 0; decide)).2
 refine (rpass_any g A l.length c first ⟨at2, 0⟩ w10 H10.out.1 hlo2 hhi2 (by show at2 < _; omega) hf0).mono ?_
 rintro r w11 ⟨rfl, hrd11, hs11⟩
 obtain ⟨⟨y0, y1, y2, y3⟩, g0, g1, g2, g3⟩ := blk4 (hs11.heap (k := K8) (by simp; omega) H10.out.2.1)
 obtain ⟨⟨u0, u1, u2, u3⟩, _⟩ := blk4 (hs11.heap (k := Ke) (by simp; omega) H10.out.2.2.1)
 have H11 := Lib.hid (⟨hrd11, hs11⟩ : _ ∧ _)
 clear hrd11 hs11
 go_wp2_with fail
 refine bodyPost_ret (v := exV e B d) (by simp [results, Tryz.results173, go_sem, *]) rfl ?_
 have hK8 := HK8.out
 exact rd_end (P := fun k => k ≤ K8) (fun k hk => by show k ≤ K8; omega) (Nat.le_refl _) (H10.out.2.2.2.1.keep H11.out.2 (fun k hk => by simp at hk; omega)) H11.out.1 (H10.out.2.2.2.2.then_ H11.out.2) (by omega) hg _ _ _ _
end Go.Proofs.YtgcfjkfipkfijaaGreatDoor
namespace Go.Proofs.YtgcfjkfipkfijaaGreatDoor
open Go Go.RowKit Go.Lib
theorem unP_succ (l : List Tok) (first : Int) (f : Nat) (s : St) : unP l first (f + 1) s = unS l first (unP l first f) (orOf l first (unP l first f)) s := rfl
theorem failP_at (e : Int) (s : St) : (failP e s).at_ = s.at_ := by unfold failP; split <;> rfl
theorem passP_grows (first : Int) (s : St) (h : s.at_ ≤ first + 64) : s.at_ ≤ (passP first s).2.at_ ∧ (passP first s).2.at_ ≤ first + 64 := by
 have hp := passP_at first s
 cases hb : (passP first s).1 with
 | true => have := hp.1 hb; omega
 | false => have := hp.2 hb; omega
theorem unS_grows {l : List Tok} {first : Int} {un orr : St → Ex × St} (h1 : Grows first un) (h2 : Grows first orr) : Grows first (unS l first un orr) := fun s hs => by
 have hp := passP_grows first s hs
 have hu := h1 (passP first s).2 hp.2
 have ho := h2 (passP first s).2 hp.2
 have hp2 := passP_grows first (orr (passP first s).2).2 ho.2
 unfold unS
 split
 ·split
  ·exact hp
  ·exact ⟨by simp only; omega, hu.2⟩
 ·split
  ·exact ⟨by simp only [failP_at]; omega, by simp only [failP_at]; omega⟩
  ·split
   ·exact hp
   ·split
    ·exact hp
    ·split
     ·exact hp
     ·split
      ·exact ⟨by simp only [failP_at]; omega, by simp only [failP_at]; omega⟩
      ·split
       ·exact ⟨by simp only; omega, hp2.2⟩
       ·exact ⟨by omega, ho.2⟩
theorem orOf_grows {l : List Tok} {first : Int} {un : St → Ex × St} (h : Grows first un) : Grows first (orOf l first un) :=
 rowP_grows (rowP_grows (cmpP_grows (rowP_grows (rowP_grows h))))
theorem unP_grows (l : List Tok) (first : Int) : ∀ f, Grows first (unP l first f)
 | 0 => fun s h => ⟨Int.le_refl _, h⟩
 | f + 1 => fun s h => by rw [unP_succ]; exact unS_grows (unP_grows l first f) (orOf_grows (unP_grows l first f)) s h
theorem orOf_any (l : List Tok) (g : Nat) (A : Option Addr) (c : Nat) (first lo : Int) (un : St → Ex × St)
  (hF : ReadsAs l g A c first lo 173 un) (hG : Grows first un) (hlc : l.length ≤ c) (hf0 : -9223372036854775808 ≤ first) :
  ReadsAs l g A c first lo 121 (orOf l first un) :=
 ror_any l g A c first lo _ (rand_any l g A c first lo _ (rcmp_any l g A c first lo _ (rsum_any l g A c first lo _ (rterm_any l g A c first lo _ hF hG hlc hf0)
  (rowP_grows hG) hlc hf0) (rowP_grows (rowP_grows hG)) hlc hf0) (cmpP_grows (rowP_grows (rowP_grows hG))) hlc hf0) (rowP_grows (cmpP_grows (rowP_grows (rowP_grows hG)))) hlc hf0
theorem unS_any (l : List Tok) (g : Nat) (A : Option Addr) (c : Nat) (first lo : Int) (un orr : St → Ex × St)
  (hF : ReadsAs l g A c first lo 173 un) (hO : ReadsAs l g A c first lo 121 orr) (hG : Grows first orr) (hlc : l.length ≤ c) (hf0 : -9223372036854775808 ≤ first)
  (s : St) (w : World) (hb : RdB w g A l.length c first s) (hr : tokK.Row [g] w A l) (h1 : first ≤ s.at_) (h2 : lo ≤ s.at_ + 1) (h3 : s.at_ ≤ first + 64) :
  Calls Tryz.prog 173 #[.pointer (some ⟨g, 0, none⟩)] w (RdPost g A l.length c first (unS l first un orr s) w) := by
 obtain ⟨at_, bad⟩ := s
 simp only at h1 h2 h3
 unfold unS
 cases hisp : isP l 2 3 ⟨at_, bad⟩ with
 | some op => exact un_op l g A c first lo un hF hlc hf0 ⟨at_, bad⟩ w hb hr h1 h2 h3 op hisp
 | none =>
  obtain ⟨⟨k, x, n, a⟩, ht⟩ : ∃ t, tokAt l at_ = t := ⟨_, rfl⟩
  simp only [ht]
  by_cases h0 : bad = 0
  ·subst h0
   by_cases h4 : k = 4
   ·subst h4
    cases hx : seq x ⟨#[40]⟩ with
    | false =>
     rw [if_pos (.inr ⟨by simp [isOpen, hx], by decide, by decide⟩)]
     exact un_fail_x l g A c first hlc hf0 at_ w hb hr h1 h3 hisp n a x ht hx
    | true =>
     rw [if_neg (by simp [isOpen, hx])]
     obtain ⟨⟨pb, sp⟩, hpp⟩ : ∃ p, passP first ⟨at_, 0⟩ = p := ⟨_, rfl⟩
     have hpa := passP_at first ⟨at_, 0⟩
     rw [hpp] at hpa
     simp only [hpp]
     cases pb with
     | false => exact un_par_f l g A c first hlc hf0 at_ w hb hr h1 h3 hisp n a x ht hx sp hpp
     | true =>
      have hp1 := hpa.1 rfl
      simp only at hp1
      rw [if_neg (by simp), if_neg (by decide), if_neg (by decide)]
      have hg2 := hG sp (by omega)
      obtain ⟨⟨e, at2, bad2⟩, hp2⟩ : ∃ p, orr sp = p := ⟨_, rfl⟩
      rw [hp2] at hg2
      simp only at hg2
      obtain ⟨⟨k2, x2, n2, a2⟩, ht2⟩ : ∃ t, tokAt l at2 = t := ⟨_, rfl⟩
      simp only [hp2, ht2]
      by_cases hb2 : bad2 = 0
      ·subst hb2
       by_cases hk2 : k2 = 4
       ·subst hk2
        cases hx2 : seq x2 ⟨#[41]⟩ with
        | false =>
         rw [if_pos ⟨rfl, by simp [isShut, hx2]⟩]
         exact un_par_x l g A c first hlc hf0 at_ w hb hr h1 h3 hisp n a x ht hx sp hpp lo orr hO (by omega) (by omega) (by omega) e at2 n2 a2 x2 hp2 ht2 (by omega) (by omega) hx2
        | true =>
         rw [if_neg (by simp [isShut, hx2]), if_pos rfl]
         exact un_par_ok l g A c first hlc hf0 at_ w hb hr h1 h3 hisp n a x ht hx sp hpp lo orr hO (by omega) (by omega) (by omega) e at2 n2 a2 x2 hp2 ht2 (by omega) (by omega) hx2
       ·rw [if_pos ⟨rfl, by simp [isShut, hk2]⟩]
        exact un_par_k l g A c first hlc hf0 at_ w hb hr h1 h3 hisp n a x ht hx sp hpp lo orr hO (by omega) (by omega) (by omega) e at2 k2 n2 a2 x2 hp2 ht2 (by omega) (by omega) hk2
      ·rw [if_neg (fun h => hb2 h.1), if_neg hb2]
       exact un_par_bad l g A c first hlc hf0 at_ w hb hr h1 h3 hisp n a x ht hx sp hpp lo orr hO (by omega) (by omega) (by omega) e at2 bad2 k2 n2 a2 x2 hp2 ht2 (by omega) (by omega) hb2
   ·by_cases h5 : k = 2
    ·subst h5
     rw [if_neg (by simp)]
     obtain ⟨⟨pb, sp⟩, hpp⟩ : ∃ p, passP first ⟨at_, 0⟩ = p := ⟨_, rfl⟩
     simp only [hpp]
     cases pb with
     | false => exact un_num_f l g A c first hlc hf0 at_ w hb hr h1 h3 hisp n a x ht sp hpp
     | true => exact un_num l g A c first hlc hf0 at_ w hb hr h1 h3 hisp n a x ht sp hpp
    ·by_cases h6 : k = 1
     ·subst h6
      rw [if_neg (by simp)]
      obtain ⟨⟨pb, sp⟩, hpp⟩ : ∃ p, passP first ⟨at_, 0⟩ = p := ⟨_, rfl⟩
      simp only [hpp]
      cases pb with
      | false => exact un_name_f l g A c first hlc hf0 at_ w hb hr h1 h3 hisp n a x ht sp hpp
      | true => exact un_name l g A c first hlc hf0 at_ w hb hr h1 h3 hisp n a x ht sp hpp
     ·rw [if_pos (.inr ⟨by simp [isOpen, h4], h5, h6⟩)]
      exact un_fail_k l g A c first hlc hf0 at_ w hb hr h1 h3 hisp k n a x ht h4 h5 h6
  ·rw [if_pos (.inl h0)]
   by_cases h4 : k = 4
   ·subst h4
    exact un_fail_b4 l g A c first hlc hf0 at_ bad w hb hr h1 h3 hisp n a x ht h0
   ·exact un_fail_b l g A c first hlc hf0 at_ bad w hb hr h1 h3 hisp k n a x ht h0 h4
theorem unary_any (l : List Tok) (g : Nat) (A : Option Addr) (c : Nat) (first : Int) (hlc : l.length ≤ c) (hf0 : -9223372036854775808 ≤ first) :
  ∀ f : Nat, ReadsAs l g A c first (first + 65 - f) 173 (unP l first f)
 | 0 => fun s w _ _ _ h2 h3 => by simp at h2; omega
 | f + 1 => fun s w hb hr h1 h2 h3 => by
  have hu := unary_any l g A c first hlc hf0 f
  have hg := unP_grows l first f
  rw [unP_succ]
  exact unS_any l g A c first (first + 65 - f) (unP l first f) (orOf l first (unP l first f)) hu (orOf_any l g A c first _ _ hu hg hlc hf0) (orOf_grows hg) hlc hf0 s w hb hr h1 (by push_cast at h2; omega) h3
theorem expr_any (l : List Tok) (g : Nat) (A : Option Addr) (c : Nat) (first : Int) (hlc : l.length ≤ c) (hf0 : -9223372036854775808 ≤ first) :
  ReadsAs l g A c first first 121 (orOf l first (unP l first 66)) :=
 (orOf_any l g A c first _ _ (unary_any l g A c first hlc hf0 66) (unP_grows l first 66) hlc hf0).lo (by simp; omega)
end Go.Proofs.YtgcfjkfipkfijaaGreatDoor
namespace Go.Proofs.YtgcfjkfipkfijaaGreatDoor
open Go Go.RowKit Go.Lib
def TakePost (b : Nat) (p : Ex × Int × Int) (w : World) (r : Ending) (w' : World) : Prop :=
 ∃ B d, r = .returned (.tuple #[exV p.1 B d, .int .i64 p.2.1, .int .i64 p.2.2]) ∧ ExF (fun k => k < b) w' p.1 B d ∧ Below b w w'
theorem take_end {g K : Nat} {B : Option Addr} {d : Nat} {e : Ex} {x y : Int} {w w2 w3 w4 W : World} (hb : Below w.heap.size w w2) (hK : w.heap.size = K) (hg : K < g) (hs3 : Same [g] w2 w3) (hx : ExF (fun k => k < w2.heap.size) w3 e B d) (hk2 : g < w2.heap.size)
  (hb4 : Below w3.heap.size w3 w4) (h4 : Same [K] w4 W) : TakePost K (e, x, y) w (.returned (.tuple #[exV e B d, .int .i64 x, .int .i64 y])) W := by
 rw [← hK]
 refine ⟨B, d, rfl, ((hx.below hb4).keep h4 (fun k hk => by simp at hk; omega)).more (fun k hk => .inl (by show k < w2.heap.size; omega)), ?_⟩
 exact (((Same.of_below (M := [g, K]) hb).trans hs3 (fun x hx => by simp at hx; subst hx; simp)).trans (Same.of_below (M := []) hb4) (fun x hx => by simp at hx)).trans h4 (fun x hx => by simp at hx; subst hx; simp)
  |>.below_of (fun k hk => by simp at hk; omega)
set_option maxHeartbeats 4000000 in
set_option maxRecDepth 100000 in
theorem take_any (l : List Tok) (A : Option Addr) (c : Nat) (a : Int) (w : World) (hr : tokK.Row [] w A l) (hlc : l.length ≤ c) (ha : -9223372036854775808 ≤ a) :
  Calls Tryz.prog 108 #[.slice A l.length c, .int .i64 a] w (TakePost w.heap.size (takeP l a) w) := by
 obtain ⟨ANS, hANS⟩ : ∃ r, takeP l a = r := ⟨_, rfl⟩
 rw [hANS]
 unfold takeP at hANS
 have HE := Lib.hid (fun g s W => expr_any l g A c a hlc ha s W)
 obtain ⟨⟨e, at2, bad2⟩, hp⟩ : ∃ p, orOf l a (unP l a 66) ⟨a, 0⟩ = p := ⟨_, rfl⟩
 simp only [hp] at hANS
 have HANS := Lib.hid hANS
 obtain ⟨w1, hw1⟩ : ∃ w1, w.alloc (.cells #[.int .i64 0, .int .i64 0, .string ⟨#[]⟩, .slice none 0 0] 41 (0, 0)) = w1 := ⟨_, rfl⟩
 obtain ⟨w2, hw2⟩ : ∃ w2, w1.alloc (.cells #[.slice A l.length c, .int .i64 a, .int .i64 a, .int .i64 0] 161 (0, 0)) = w2 := ⟨_, rfl⟩
 have hb1 : Below w.heap.size w w1 := hw1 ▸ (Below.refl _ _).alloc (Nat.le_refl _) _
 have hb2 : Below w1.heap.size w1 w2 := hw2 ▸ (Below.refl _ _).alloc (Nat.le_refl _) _
 have hbw : Below w.heap.size w w2 := hb1.trans (hb2.mono hb1.size)
 have hz1 : w1.heap[w.heap.size]? = some (.cells #[.int .i64 0, .int .i64 0, .string ⟨#[]⟩, .slice none 0 0] 41 (0, 0)) := hw1 ▸ heap_alloc_new _ _
 have hrd2 : RdB w2 w1.heap.size A l.length c a ⟨a, 0⟩ := hw2 ▸ heap_alloc_new _ _
 have hz2 := (hb2.block _ (blk_lt hz1)).trans hz1
 obtain ⟨g, hg⟩ : ∃ g, w1.heap.size = g := ⟨_, rfl⟩
 obtain ⟨K, hK⟩ : ∃ g, w.heap.size = g := ⟨_, rfl⟩
 have hKg : w.heap.size < w1.heap.size := blk_lt hz1
 rw [hg] at hrd2 hKg
 rw [hK] at hz2 hKg
 have hr2 : tokK.Row [g] w2 A l := (hr.less (M' := [g]) (fun k hk => by simp at hk; omega)).keep (Same.of_below hbw)
 have H2 := Lib.hid (⟨hrd2, hr2, hz2, hbw⟩ : _ ∧ _ ∧ _ ∧ _)
 have HP := Lib.hid hp
 have hgk : K + 1 = g := by rw [← hg, ← hw1, ← hK]; simp
 have HW := Lib.hid (⟨hw1, hw2, hgk⟩ : _ ∧ _ ∧ _)
 clear hw1 hw2 hb1 hb2 hbw hz1 hrd2 hz2 hr2 hANS hp hg hr hgk
 by_cases h0 : bad2 = 0
 ·have h0b : (bad2 != 0) = false := by rw [h0]; rfl
  have h0c : (bad2 == 0) = true := by rw [h0]; rfl
  go_enter Tryz.func108, Tryz.ntmps108
  go_wp2_with fail
  rw [HW.out.1, HW.out.2.1, show K + 1 = g from HW.out.2.2]
  refine (HE.out g ⟨a, 0⟩ w2 H2.out.1 H2.out.2.1 (Int.le_refl _) (Int.le_refl _) (by show a ≤ a + 64; omega)).mono ?_
  rw [HP.out]
  rintro r w3 ⟨B, d, rfl, hx3, hrd3, hs3⟩
  simp only at hx3 hrd3
  have hz3 := hs3.heap (k := K) (by simp; omega) H2.out.2.2.1
  have H3 := Lib.hid (⟨hx3, hrd3, hs3, hz3⟩ : _ ∧ _ ∧ _ ∧ _)
  obtain ⟨⟨_, _, r2, r3⟩, _⟩ := blk4 hrd3
  obtain ⟨⟨z0, z1, z2, z3⟩, f0, f1, f2, f3⟩ := blk4 hz3
  have hgs : g < w3.heap.size := blk_lt hrd3
  have hks : K < w3.heap.size := blk_lt hz3
  obtain ⟨w4, hw4⟩ : ∃ w4, w3.alloc (.cells #[.int .i64 e.op, .int .i64 e.n, .string e.name, .slice B e.kids.length d] 41 (0, 0)) = w4 := ⟨_, rfl⟩
  have hb4 : Below w3.heap.size w3 w4 := hw4 ▸ (Below.refl _ _).alloc (Nat.le_refl _) _
  have hx4 : w4.heap[w3.heap.size]? = some (.cells #[.int .i64 e.op, .int .i64 e.n, .string e.name, .slice B e.kids.length d] 41 (0, 0)) := hw4 ▸ heap_alloc_new _ _
  have H4 := Lib.hid (⟨hb4, hrd3.same hb4, (hb4.block _ hks).trans hz3, hx4⟩ : _ ∧ _ ∧ _ ∧ _)
  have HW4 := Lib.hid hw4
  have HK := Lib.hid hK
  have HG2 := Lib.hid (blk_lt H2.out.1)
  obtain ⟨Kx, hKx⟩ : ∃ K, w3.heap.size = K := ⟨_, rfl⟩
  have HKx := Lib.hid hKx
  clear hx3 hrd3 hs3 hz3 hw4 hb4 hx4 hKx
  go_wp2_with fail
  clear r2 r3 z0 z1 z2 z3 f0 f1 f2 f3
  rw [HW4.out]
  obtain ⟨⟨_, _, r2, r3⟩, _⟩ := blk4 H4.out.2.1
  obtain ⟨⟨z0, z1, z2, z3⟩, f0, f1, f2, f3⟩ := blk4 H4.out.2.2.1
  obtain ⟨⟨x0, x1, x2, x3⟩, _⟩ := blk4 H4.out.2.2.2
  go_region_with (fail)
  all_goals
   go_wp2
   refine bodyPost_ret (v := .tuple #[exV e B d, .int .i64 0, .int .i64 at2]) (by simp [results, Tryz.results108, go_sem, *] <;> exact ⟨rfl, rfl, rfl, rfl⟩) rfl ?_
   have h4 : ∀ a b c d, Same [K] w4 (((((w4.setCell ⟨K, 0, none⟩ a).setCell ⟨K, 1, none⟩ b).setCell ⟨K, 2, none⟩ c).setCell ⟨K, 3, none⟩ d)) := same_set4 w4 K
   rw [← HANS.out, if_neg (by simp [h0])]
   have hK := HK.out
   first
    | exact take_end H2.out.2.2.2 hK hKg H3.out.2.2.1 H3.out.1 HG2.out H4.out.1 (h4 _ _ _ _)
    | exact take_end H2.out.2.2.2 hK hKg H3.out.2.2.1 H3.out.1 HG2.out H4.out.1 ((h4 _ _ _ _).drew)
    | exact take_end H2.out.2.2.2 hK hKg H3.out.2.2.1 H3.out.1 HG2.out H4.out.1 ((Same.drew (Same.refl [K] w4)).then_ (same_set4 _ K _ _ _ _))
 ·have h0b : (bad2 != 0) = true := bne_iff_ne.2 h0
  have h0c : (bad2 == 0) = false := beq_eq_false_iff_ne.2 h0
  go_enter Tryz.func108, Tryz.ntmps108
  go_wp2_with fail
  rw [HW.out.1, HW.out.2.1, show K + 1 = g from HW.out.2.2]
  refine (HE.out g ⟨a, 0⟩ w2 H2.out.1 H2.out.2.1 (Int.le_refl _) (Int.le_refl _) (by show a ≤ a + 64; omega)).mono ?_
  rw [HP.out]
  rintro r w3 ⟨B, d, rfl, hx3, hrd3, hs3⟩
  simp only at hx3 hrd3
  have hz3 := hs3.heap (k := K) (by simp; omega) H2.out.2.2.1
  have H3 := Lib.hid (⟨hx3, hrd3, hs3, hz3⟩ : _ ∧ _ ∧ _ ∧ _)
  obtain ⟨⟨_, _, r2, r3⟩, _⟩ := blk4 hrd3
  obtain ⟨⟨z0, z1, z2, z3⟩, f0, f1, f2, f3⟩ := blk4 hz3
  have hgs : g < w3.heap.size := blk_lt hrd3
  have hks : K < w3.heap.size := blk_lt hz3
  obtain ⟨w4, hw4⟩ : ∃ w4, w3.alloc (.cells #[.int .i64 e.op, .int .i64 e.n, .string e.name, .slice B e.kids.length d] 41 (0, 0)) = w4 := ⟨_, rfl⟩
  have hb4 : Below w3.heap.size w3 w4 := hw4 ▸ (Below.refl _ _).alloc (Nat.le_refl _) _
  have hx4 : w4.heap[w3.heap.size]? = some (.cells #[.int .i64 e.op, .int .i64 e.n, .string e.name, .slice B e.kids.length d] 41 (0, 0)) := hw4 ▸ heap_alloc_new _ _
  have H4 := Lib.hid (⟨hb4, hrd3.same hb4, (hb4.block _ hks).trans hz3, hx4⟩ : _ ∧ _ ∧ _ ∧ _)
  have HW4 := Lib.hid hw4
  have HK := Lib.hid hK
  have HG2 := Lib.hid (blk_lt H2.out.1)
  obtain ⟨Kx, hKx⟩ : ∃ K, w3.heap.size = K := ⟨_, rfl⟩
  have HKx := Lib.hid hKx
  clear hx3 hrd3 hs3 hz3 hw4 hb4 hx4 hKx
  go_wp2_with fail
  clear r2 r3 z0 z1 z2 z3 f0 f1 f2 f3
  rw [HW4.out]
  obtain ⟨⟨_, _, r2, r3⟩, _⟩ := blk4 H4.out.2.1
  obtain ⟨⟨z0, z1, z2, z3⟩, f0, f1, f2, f3⟩ := blk4 H4.out.2.2.1
  obtain ⟨⟨x0, x1, x2, x3⟩, _⟩ := blk4 H4.out.2.2.2
  go_region_with (fail)
  all_goals
   go_wp2
   refine bodyPost_ret (v := .tuple #[exV zEx none 0, .int .i64 bad2, .int .i64 at2]) (by simp [results, Tryz.results108, go_sem, *] <;> exact ⟨rfl, rfl, rfl, rfl⟩) rfl ?_
   have h4 : ∀ a b c d, Same [K] w4 (((((w4.setCell ⟨K, 0, none⟩ a).setCell ⟨K, 1, none⟩ b).setCell ⟨K, 2, none⟩ c).setCell ⟨K, 3, none⟩ d)) := same_set4 w4 K
   rw [← HANS.out, if_pos h0]
   have hK := HK.out
   first
    | exact take_end H2.out.2.2.2 hK hKg H3.out.2.2.1 (ExF.leaf (e := zEx) rfl) HG2.out H4.out.1 (h4 _ _ _ _)
    | exact take_end H2.out.2.2.2 hK hKg H3.out.2.2.1 (ExF.leaf (e := zEx) rfl) HG2.out H4.out.1 ((h4 _ _ _ _).drew)
    | exact take_end H2.out.2.2.2 hK hKg H3.out.2.2.1 (ExF.leaf (e := zEx) rfl) HG2.out H4.out.1 ((Same.drew (Same.refl [K] w4)).then_ (same_set4 _ K _ _ _ _))
end Go.Proofs.YtgcfjkfipkfijaaGreatDoor
