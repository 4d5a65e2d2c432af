/- Walks: the reader's parts in brackets. (printed by gen_par.py) -/
import Derived.Test.YtgaiheojlmebaaaDoorR7
namespace Go.Proofs.YtgaiheojlmebaaaDoor
open Go Go.RowKit Go.Lib

set_option maxHeartbeats 4000000 in
set_option maxRecDepth 100000 in
theorem un_par_bad (l : List Tok) (g : Nat) (A : Option Addr) (c : Nat) (first : Int) (hlc : l.length ≤ c) (hf0 : -9223372036854775808 ≤ first)
    (at_ : Int) (w : World) (hb : RdB w g A l.length c first ⟨at_, 0⟩) (hr : tokK.Row [g] w A l) (h1 : first ≤ at_) (h3 : at_ ≤ first + 64) (hisp : isP l 2 3 ⟨at_, 0⟩ = none)
    (n a : Int) (x : ByteArray) (ht : tokAt l at_ = ⟨4, x, n, a⟩) (hx : seq x ⟨#[40]⟩ = true) (sp : St) (hpp : passP first ⟨at_, 0⟩ = (true, sp)) (lo : Int) (orr : St → Ex × St) (hO : ReadsAs l g A c first lo 28 orr) (hl1 : first ≤ sp.at_) (hl2 : lo ≤ sp.at_) (hl3 : sp.at_ ≤ first + 64) (e : Ex) (at2 bad2 k2 n2 a2 : Int) (x2 : ByteArray) (hp2 : orr sp = (e, ⟨at2, bad2⟩)) (ht2 : tokAt l at2 = ⟨k2, x2, n2, a2⟩) (hlo2 : first ≤ at2) (hhi2 : at2 ≤ first + 64) (h0 : bad2 ≠ 0) :
    Calls Tryd.prog 111 #[.pointer (some ⟨g, 0, none⟩)] w (RdPost g A l.length c first (e, ⟨at2, bad2⟩) w) := by
  have HR := Lib.hid hr
  have hg := blk_lt hb
  obtain ⟨wr, hw2⟩ : ∃ w2, w.alloc (.cells #[.int .i64 0, .int .i64 0, .string ⟨#[]⟩, .slice none 0 0] 25 (0, 0)) = w2 := ⟨_, rfl⟩
  have hb2 : Below w.heap.size w wr := hw2 ▸ (Below.refl _ _).alloc (Nat.le_refl _) _
  have q5 : wr.heap[w.heap.size]? = some (.cells #[.int .i64 0, .int .i64 0, .string ⟨#[]⟩, .slice none 0 0] 25 (0, 0)) := hw2 ▸ heap_alloc_new _ _
  have q3 := hb.same hb2
  have q4 : Same [g] w wr := Same.of_below hb2
  obtain ⟨K8, hK8⟩ : ∃ K, w.heap.size = K := ⟨_, rfl⟩
  have HIS := ris_any l g A c first ⟨at_, 0⟩ wr q3 (HR.out.keep q4) hlc 2 3 (by omega) (by omega) (by omega)
  rw [hK8] at q5
  have Q := Lib.hid (⟨q3, q4, q5⟩ : _ ∧ _ ∧ _)
  rw [hisp] at HIS
  have HHIS := Lib.hid HIS
  have HW2 := Lib.hid (⟨hw2, hK8⟩ : _ ∧ _)
  have HT := Lib.hid ht
  have hmx := hr.1
  clear HIS q3 q4 q5 hb2 hw2 hK8 hb hr hisp ht
  have hxb : (x.toList == [40]) = true := by rw [Lib.toList_data]; exact hx
  have hnb : (bad2 != 0) = true := bne_iff_ne.2 h0
  have hbb : (bad2 == 0) = false := beq_eq_false_iff_ne.2 h0
  have HO := Lib.hid hO
  clear hO

  go_enter Tryd.func111, Tryd.ntmps111
  go_wp2_with (rw [HW2.out.1, HW2.out.2]; refine HHIS.out.mono ?_; rintro r w3 ⟨rfl, hb3⟩; have HB3 := Lib.hid hb3; clear hb3)
  refine (rtoken_any l g A c first ⟨at_, 0⟩ w3 (Q.out.1.same HB3.out) ((HR.out.keep Q.out.2.1).keep (Same.of_below HB3.out)) hlc).mono ?_
  rw [show tokAt l (St.mk at_ 0).at_ = ⟨4, x, n, a⟩ from HT.out]
  rintro r w4 ⟨rfl, hb4⟩
  obtain ⟨w5, hw5⟩ : ∃ w5, w4.alloc (.cells #[.int .i64 4, .string x, .int .i64 n, .int .i64 a] 52 (0, 0)) = w5 := ⟨_, rfl⟩
  have hb35 : Below w3.heap.size w3 w5 := hb4.trans (hw5 ▸ (Below.refl _ _).alloc hb4.size _)
  have hb5 : Below wr.heap.size wr w5 := HB3.out.trans (hb35.mono HB3.out.size)
  have ht5 : w5.heap[w4.heap.size]? = some (.cells #[.int .i64 4, .string x, .int .i64 n, .int .i64 a] 52 (0, 0)) := hw5 ▸ heap_alloc_new _ _
  have hrd5 := Q.out.1.same hb5
  have hz5 := (hb5.block K8 (blk_lt Q.out.2.2)).trans Q.out.2.2
  obtain ⟨⟨t0, t1, t2, t3⟩, _⟩ := blk4 ht5
  obtain ⟨⟨_, _, _, r3⟩, _⟩ := blk4 hrd5
  obtain ⟨⟨z0, z1, z2, z3⟩, f0, f1, f2, f3⟩ := blk4 hz5
  have hgt : g < w4.heap.size := by have h1 := hb4.size; have h2 := HB3.out.size; have h3 := blk_lt Q.out.1; omega
  have H5 := Lib.hid (⟨hrd5, hz5, ht5, Q.out.2.1.below_ hb5, HW2.out.2⟩ : _ ∧ _ ∧ _ ∧ _ ∧ _)
  have HW5 := Lib.hid hw5
  obtain ⟨Kt, hKt⟩ : ∃ K, w4.heap.size = K := ⟨_, rfl⟩
  rw [hKt] at t0 t1 t2 t3 H5 hgt
  have HKt := Lib.hid hKt
  clear hb35 hb5 hb4 hrd5 hz5 ht5 hw5 hKt
  go_wp2_with (rw [HW5.out, HKt.out])
  have hin := (tokAt_in (l := l) (i := at_) (by rw [HT.out]; show (4 : Int) ≠ 0; decide)).2
  refine (rpass_any g A l.length c first ⟨at_, 0⟩ w5 H5.out.1 h1 h3 (by show at_ < _; omega) hf0).mono ?_
  rw [hpp]
  rintro r w6 ⟨rfl, hrd6, hs6⟩
  have hK8 := H5.out.2.2.2.2
  obtain ⟨⟨y0, y1, y2, y3⟩, g0, g1, g2, g3⟩ := blk4 (hs6.heap (by simp; omega) H5.out.2.1)
  obtain ⟨⟨u0, u1, u2, u3⟩, _⟩ := blk4 (hs6.heap (k := Kt) (by simp; omega) H5.out.2.2.1)
  have H6 := Lib.hid (⟨hrd6, hs6⟩ : _ ∧ _)
  have HK8 := Lib.hid hK8
  clear hrd6 hs6 hK8
  go_wp2_with fail
  have HS6 := Lib.hid (H5.out.2.2.2.1.then_ H6.out.2)
  refine (HO.out sp w6 H6.out.1 (HR.out.keep HS6.out) (by omega) (by omega) (by omega)).mono ?_
  rw [hp2]
  rintro r w7 ⟨B, d, rfl, hx7, hrd7, hs7⟩
  simp only at hx7 hrd7
  obtain ⟨w8, hw8⟩ : ∃ w8, w7.alloc (.cells #[.int .i64 e.op, .int .i64 e.n, .string e.name, .slice B e.kids.length d] 25 (0, 0)) = w8 := ⟨_, rfl⟩
  have hb78 : Below w7.heap.size w7 w8 := hw8 ▸ (Below.refl _ _).alloc (Nat.le_refl _) _
  have he8 : w8.heap[w7.heap.size]? = some (.cells #[.int .i64 e.op, .int .i64 e.n, .string e.name, .slice B e.kids.length d] 25 (0, 0)) := hw8 ▸ heap_alloc_new _ _
  have hs58 : Same [g] w5 w8 := (H6.out.2.then_ hs7).below_ hb78
  have hk58 := HK8.out
  have hz8 := hs58.heap (k := K8) (by simp; omega) H5.out.2.1
  have hg7 : g < w7.heap.size := blk_lt hrd7
  have hk7 : K8 < w7.heap.size := blk_lt ((H6.out.2.then_ hs7).heap (k := K8) (by simp; omega) H5.out.2.1)
  have hx8 : ExF (fun k => k ≤ K8) w8 e B d := (hx7.more (Q := fun k => k ≤ K8) (fun k hk => .inl (Nat.lt_of_le_of_lt hk (blk_lt (H6.out.2.heap (k := K8) (by simp; omega) H5.out.2.1))))).below hb78
  have H8 := Lib.hid (⟨hrd7.same hb78, hz8, he8, hx8, (HS6.out.then_ hs7).below_ hb78⟩ : _ ∧ _ ∧ _ ∧ _ ∧ _)
  have hg8 : g ≠ K8 := by omega
  obtain ⟨Ke, hKe⟩ : ∃ K, w7.heap.size = K := ⟨_, rfl⟩
  rw [hKe] at H8 hg7 hk7
  have HW8 := Lib.hid (⟨hw8, hKe⟩ : _ ∧ _)
  clear hx7 hrd7 hs7 hb78 he8 hs58 hz8 hx8 hw8 hKe y0 y1 y2 y3 g0 g1 g2 g3 u0 u1 u2 u3 z0 z1 z2 z3 f0 f1 f2 f3 t0 t1 t2 t3 r3 hk58
  go_wp2_with (rw [HW8.out.1, HW8.out.2])
  refine (rtoken_any l g A c first ⟨at2, bad2⟩ w8 H8.out.1 (HR.out.keep H8.out.2.2.2.2) hlc).mono ?_
  rw [show tokAt l (St.mk at2 bad2).at_ = ⟨k2, x2, n2, a2⟩ from ht2]
  rintro r w9 ⟨rfl, hb9⟩
  obtain ⟨w10, hw10⟩ : ∃ w5, w9.alloc (.cells #[.int .i64 k2, .string x2, .int .i64 n2, .int .i64 a2] 52 (0, 0)) = w5 := ⟨_, rfl⟩
  have hb10 : Below w8.heap.size w8 w10 := hb9.trans (hw10 ▸ (Below.refl _ _).alloc hb9.size _)
  have ht10 : w10.heap[w9.heap.size]? = some (.cells #[.int .i64 k2, .string x2, .int .i64 n2, .int .i64 a2] 52 (0, 0)) := hw10 ▸ heap_alloc_new _ _
  have hrd10 := H8.out.1.same hb10
  have hz10 := (hb10.block K8 (blk_lt H8.out.2.1)).trans H8.out.2.1
  have he10 := (hb10.block Ke (blk_lt H8.out.2.2.1)).trans H8.out.2.2.1
  obtain ⟨⟨t0, t1, t2, t3⟩, _⟩ := blk4 ht10
  obtain ⟨⟨_, _, _, r3⟩, _⟩ := blk4 hrd10
  obtain ⟨⟨z0, z1, z2, z3⟩, f0, f1, f2, f3⟩ := blk4 hz10
  obtain ⟨⟨v0, v1, v2, v3⟩, _⟩ := blk4 he10
  have H10 := Lib.hid (⟨hrd10, hz10, he10, H8.out.2.2.2.1.below hb10, H8.out.2.2.2.2.below_ hb10⟩ : _ ∧ _ ∧ _ ∧ _ ∧ _)
  have HW10 := Lib.hid hw10
  clear hb9 hb10 ht10 hrd10 hz10 he10 hw10
  go_wp2_with (rw [HW10.out])
  have _u := (⟨hlo2, hhi2⟩ : _ ∧ _)
  clear _u hlo2 hhi2
  refine bodyPost_ret (v := exV e B d) (by simp [results, Tryd.results111, go_sem, *]) rfl ?_
  have hK8 := HK8.out
  exact rd_end (P := fun k => k ≤ K8) (fun k hk => by show k ≤ K8; omega) (Nat.le_refl _) H10.out.2.2.2.1 H10.out.1 H10.out.2.2.2.2 (by omega) hg _ _ _ _
set_option maxHeartbeats 4000000 in
set_option maxRecDepth 100000 in
theorem un_par_k (l : List Tok) (g : Nat) (A : Option Addr) (c : Nat) (first : Int) (hlc : l.length ≤ c) (hf0 : -9223372036854775808 ≤ first)
    (at_ : Int) (w : World) (hb : RdB w g A l.length c first ⟨at_, 0⟩) (hr : tokK.Row [g] w A l) (h1 : first ≤ at_) (h3 : at_ ≤ first + 64) (hisp : isP l 2 3 ⟨at_, 0⟩ = none)
    (n a : Int) (x : ByteArray) (ht : tokAt l at_ = ⟨4, x, n, a⟩) (hx : seq x ⟨#[40]⟩ = true) (sp : St) (hpp : passP first ⟨at_, 0⟩ = (true, sp)) (lo : Int) (orr : St → Ex × St) (hO : ReadsAs l g A c first lo 28 orr) (hl1 : first ≤ sp.at_) (hl2 : lo ≤ sp.at_) (hl3 : sp.at_ ≤ first + 64) (e : Ex) (at2 k2 n2 a2 : Int) (x2 : ByteArray) (hp2 : orr sp = (e, ⟨at2, 0⟩)) (ht2 : tokAt l at2 = ⟨k2, x2, n2, a2⟩) (hlo2 : first ≤ at2) (hhi2 : at2 ≤ first + 64) (h4 : k2 ≠ 4) :
    Calls Tryd.prog 111 #[.pointer (some ⟨g, 0, none⟩)] w (RdPost g A l.length c first (zEx, failP 11 ⟨at2, 0⟩) w) := by
  have HR := Lib.hid hr
  have hg := blk_lt hb
  obtain ⟨wr, hw2⟩ : ∃ w2, w.alloc (.cells #[.int .i64 0, .int .i64 0, .string ⟨#[]⟩, .slice none 0 0] 25 (0, 0)) = w2 := ⟨_, rfl⟩
  have hb2 : Below w.heap.size w wr := hw2 ▸ (Below.refl _ _).alloc (Nat.le_refl _) _
  have q5 : wr.heap[w.heap.size]? = some (.cells #[.int .i64 0, .int .i64 0, .string ⟨#[]⟩, .slice none 0 0] 25 (0, 0)) := hw2 ▸ heap_alloc_new _ _
  have q3 := hb.same hb2
  have q4 : Same [g] w wr := Same.of_below hb2
  obtain ⟨K8, hK8⟩ : ∃ K, w.heap.size = K := ⟨_, rfl⟩
  have HIS := ris_any l g A c first ⟨at_, 0⟩ wr q3 (HR.out.keep q4) hlc 2 3 (by omega) (by omega) (by omega)
  rw [hK8] at q5
  have Q := Lib.hid (⟨q3, q4, q5⟩ : _ ∧ _ ∧ _)
  rw [hisp] at HIS
  have HHIS := Lib.hid HIS
  have HW2 := Lib.hid (⟨hw2, hK8⟩ : _ ∧ _)
  have HT := Lib.hid ht
  have hmx := hr.1
  clear HIS q3 q4 q5 hb2 hw2 hK8 hb hr hisp ht
  have hxb : (x.toList == [40]) = true := by rw [Lib.toList_data]; exact hx
  have hnk : (k2 != 4) = true := bne_iff_ne.2 h4
  have hk4 : (k2 == 4) = false := beq_eq_false_iff_ne.2 h4
  have HO := Lib.hid hO
  clear hO

  go_enter Tryd.func111, Tryd.ntmps111
  go_wp2_with (rw [HW2.out.1, HW2.out.2]; refine HHIS.out.mono ?_; rintro r w3 ⟨rfl, hb3⟩; have HB3 := Lib.hid hb3; clear hb3)
  refine (rtoken_any l g A c first ⟨at_, 0⟩ w3 (Q.out.1.same HB3.out) ((HR.out.keep Q.out.2.1).keep (Same.of_below HB3.out)) hlc).mono ?_
  rw [show tokAt l (St.mk at_ 0).at_ = ⟨4, x, n, a⟩ from HT.out]
  rintro r w4 ⟨rfl, hb4⟩
  obtain ⟨w5, hw5⟩ : ∃ w5, w4.alloc (.cells #[.int .i64 4, .string x, .int .i64 n, .int .i64 a] 52 (0, 0)) = w5 := ⟨_, rfl⟩
  have hb35 : Below w3.heap.size w3 w5 := hb4.trans (hw5 ▸ (Below.refl _ _).alloc hb4.size _)
  have hb5 : Below wr.heap.size wr w5 := HB3.out.trans (hb35.mono HB3.out.size)
  have ht5 : w5.heap[w4.heap.size]? = some (.cells #[.int .i64 4, .string x, .int .i64 n, .int .i64 a] 52 (0, 0)) := hw5 ▸ heap_alloc_new _ _
  have hrd5 := Q.out.1.same hb5
  have hz5 := (hb5.block K8 (blk_lt Q.out.2.2)).trans Q.out.2.2
  obtain ⟨⟨t0, t1, t2, t3⟩, _⟩ := blk4 ht5
  obtain ⟨⟨_, _, _, r3⟩, _⟩ := blk4 hrd5
  obtain ⟨⟨z0, z1, z2, z3⟩, f0, f1, f2, f3⟩ := blk4 hz5
  have hgt : g < w4.heap.size := by have h1 := hb4.size; have h2 := HB3.out.size; have h3 := blk_lt Q.out.1; omega
  have H5 := Lib.hid (⟨hrd5, hz5, ht5, Q.out.2.1.below_ hb5, HW2.out.2⟩ : _ ∧ _ ∧ _ ∧ _ ∧ _)
  have HW5 := Lib.hid hw5
  obtain ⟨Kt, hKt⟩ : ∃ K, w4.heap.size = K := ⟨_, rfl⟩
  rw [hKt] at t0 t1 t2 t3 H5 hgt
  have HKt := Lib.hid hKt
  clear hb35 hb5 hb4 hrd5 hz5 ht5 hw5 hKt
  go_wp2_with (rw [HW5.out, HKt.out])
  have hin := (tokAt_in (l := l) (i := at_) (by rw [HT.out]; show (4 : Int) ≠ 0; decide)).2
  refine (rpass_any g A l.length c first ⟨at_, 0⟩ w5 H5.out.1 h1 h3 (by show at_ < _; omega) hf0).mono ?_
  rw [hpp]
  rintro r w6 ⟨rfl, hrd6, hs6⟩
  have hK8 := H5.out.2.2.2.2
  obtain ⟨⟨y0, y1, y2, y3⟩, g0, g1, g2, g3⟩ := blk4 (hs6.heap (by simp; omega) H5.out.2.1)
  obtain ⟨⟨u0, u1, u2, u3⟩, _⟩ := blk4 (hs6.heap (k := Kt) (by simp; omega) H5.out.2.2.1)
  have H6 := Lib.hid (⟨hrd6, hs6⟩ : _ ∧ _)
  have HK8 := Lib.hid hK8
  clear hrd6 hs6 hK8
  go_wp2_with fail
  have HS6 := Lib.hid (H5.out.2.2.2.1.then_ H6.out.2)
  refine (HO.out sp w6 H6.out.1 (HR.out.keep HS6.out) (by omega) (by omega) (by omega)).mono ?_
  rw [hp2]
  rintro r w7 ⟨B, d, rfl, hx7, hrd7, hs7⟩
  simp only at hx7 hrd7
  obtain ⟨w8, hw8⟩ : ∃ w8, w7.alloc (.cells #[.int .i64 e.op, .int .i64 e.n, .string e.name, .slice B e.kids.length d] 25 (0, 0)) = w8 := ⟨_, rfl⟩
  have hb78 : Below w7.heap.size w7 w8 := hw8 ▸ (Below.refl _ _).alloc (Nat.le_refl _) _
  have he8 : w8.heap[w7.heap.size]? = some (.cells #[.int .i64 e.op, .int .i64 e.n, .string e.name, .slice B e.kids.length d] 25 (0, 0)) := hw8 ▸ heap_alloc_new _ _
  have hs58 : Same [g] w5 w8 := (H6.out.2.then_ hs7).below_ hb78
  have hk58 := HK8.out
  have hz8 := hs58.heap (k := K8) (by simp; omega) H5.out.2.1
  have hg7 : g < w7.heap.size := blk_lt hrd7
  have hk7 : K8 < w7.heap.size := blk_lt ((H6.out.2.then_ hs7).heap (k := K8) (by simp; omega) H5.out.2.1)
  have hx8 : ExF (fun k => k ≤ K8) w8 e B d := (hx7.more (Q := fun k => k ≤ K8) (fun k hk => .inl (Nat.lt_of_le_of_lt hk (blk_lt (H6.out.2.heap (k := K8) (by simp; omega) H5.out.2.1))))).below hb78
  have H8 := Lib.hid (⟨hrd7.same hb78, hz8, he8, hx8, (HS6.out.then_ hs7).below_ hb78⟩ : _ ∧ _ ∧ _ ∧ _ ∧ _)
  have hg8 : g ≠ K8 := by omega
  obtain ⟨Ke, hKe⟩ : ∃ K, w7.heap.size = K := ⟨_, rfl⟩
  rw [hKe] at H8 hg7 hk7
  have HW8 := Lib.hid (⟨hw8, hKe⟩ : _ ∧ _)
  clear hx7 hrd7 hs7 hb78 he8 hs58 hz8 hx8 hw8 hKe y0 y1 y2 y3 g0 g1 g2 g3 u0 u1 u2 u3 z0 z1 z2 z3 f0 f1 f2 f3 t0 t1 t2 t3 r3 hk58
  go_wp2_with (rw [HW8.out.1, HW8.out.2])
  refine (rtoken_any l g A c first ⟨at2, 0⟩ w8 H8.out.1 (HR.out.keep H8.out.2.2.2.2) hlc).mono ?_
  rw [show tokAt l (St.mk at2 0).at_ = ⟨k2, x2, n2, a2⟩ from ht2]
  rintro r w9 ⟨rfl, hb9⟩
  obtain ⟨w10, hw10⟩ : ∃ w5, w9.alloc (.cells #[.int .i64 k2, .string x2, .int .i64 n2, .int .i64 a2] 52 (0, 0)) = w5 := ⟨_, rfl⟩
  have hb10 : Below w8.heap.size w8 w10 := hb9.trans (hw10 ▸ (Below.refl _ _).alloc hb9.size _)
  have ht10 : w10.heap[w9.heap.size]? = some (.cells #[.int .i64 k2, .string x2, .int .i64 n2, .int .i64 a2] 52 (0, 0)) := hw10 ▸ heap_alloc_new _ _
  have hrd10 := H8.out.1.same hb10
  have hz10 := (hb10.block K8 (blk_lt H8.out.2.1)).trans H8.out.2.1
  have he10 := (hb10.block Ke (blk_lt H8.out.2.2.1)).trans H8.out.2.2.1
  obtain ⟨⟨t0, t1, t2, t3⟩, _⟩ := blk4 ht10
  obtain ⟨⟨_, _, _, r3⟩, _⟩ := blk4 hrd10
  obtain ⟨⟨z0, z1, z2, z3⟩, f0, f1, f2, f3⟩ := blk4 hz10
  obtain ⟨⟨v0, v1, v2, v3⟩, _⟩ := blk4 he10
  have H10 := Lib.hid (⟨hrd10, hz10, he10, H8.out.2.2.2.1.below hb10, H8.out.2.2.2.2.below_ hb10⟩ : _ ∧ _ ∧ _ ∧ _ ∧ _)
  have HW10 := Lib.hid hw10
  clear hb9 hb10 ht10 hrd10 hz10 he10 hw10
  go_wp2_with (rw [HW10.out])
  have _u := (⟨hlo2, hhi2⟩ : _ ∧ _)
  clear _u hlo2 hhi2
  refine (fail_any g A l.length c first ⟨at2, 0⟩ w10 H10.out.1 11).mono ?_
  rintro r w11 ⟨rfl, hrd11, hs11⟩
  obtain ⟨⟨y0, y1, y2, y3⟩, g0, g1, g2, g3⟩ := blk4 (hs11.heap (by simp; omega) H10.out.2.1)
  have H11 := Lib.hid (⟨hrd11, hs11⟩ : _ ∧ _)
  clear hrd11 hs11
  go_wp2_with fail
  refine bodyPost_ret (v := exV zEx none 0) (by simp [results, Tryd.results111, go_sem, *] <;> exact ⟨rfl, rfl, rfl, rfl⟩) rfl ?_
  have hK8 := HK8.out
  exact rd_end (P := fun k => k ≤ K8) (fun k hk => by show k ≤ K8; omega) (Nat.le_refl _) (ExF.leaf rfl) H11.out.1 (H10.out.2.2.2.2.then_ H11.out.2) (by omega) hg _ _ _ _
set_option maxHeartbeats 4000000 in
set_option maxRecDepth 100000 in
theorem un_par_x (l : List Tok) (g : Nat) (A : Option Addr) (c : Nat) (first : Int) (hlc : l.length ≤ c) (hf0 : -9223372036854775808 ≤ first)
    (at_ : Int) (w : World) (hb : RdB w g A l.length c first ⟨at_, 0⟩) (hr : tokK.Row [g] w A l) (h1 : first ≤ at_) (h3 : at_ ≤ first + 64) (hisp : isP l 2 3 ⟨at_, 0⟩ = none)
    (n a : Int) (x : ByteArray) (ht : tokAt l at_ = ⟨4, x, n, a⟩) (hx : seq x ⟨#[40]⟩ = true) (sp : St) (hpp : passP first ⟨at_, 0⟩ = (true, sp)) (lo : Int) (orr : St → Ex × St) (hO : ReadsAs l g A c first lo 28 orr) (hl1 : first ≤ sp.at_) (hl2 : lo ≤ sp.at_) (hl3 : sp.at_ ≤ first + 64) (e : Ex) (at2 n2 a2 : Int) (x2 : ByteArray) (hp2 : orr sp = (e, ⟨at2, 0⟩)) (ht2 : tokAt l at2 = ⟨4, x2, n2, a2⟩) (hlo2 : first ≤ at2) (hhi2 : at2 ≤ first + 64) (hx2 : seq x2 ⟨#[41]⟩ = false) :
    Calls Tryd.prog 111 #[.pointer (some ⟨g, 0, none⟩)] w (RdPost g A l.length c first (zEx, failP 11 ⟨at2, 0⟩) w) := by
  have HR := Lib.hid hr
  have hg := blk_lt hb
  obtain ⟨wr, hw2⟩ : ∃ w2, w.alloc (.cells #[.int .i64 0, .int .i64 0, .string ⟨#[]⟩, .slice none 0 0] 25 (0, 0)) = w2 := ⟨_, rfl⟩
  have hb2 : Below w.heap.size w wr := hw2 ▸ (Below.refl _ _).alloc (Nat.le_refl _) _
  have q5 : wr.heap[w.heap.size]? = some (.cells #[.int .i64 0, .int .i64 0, .string ⟨#[]⟩, .slice none 0 0] 25 (0, 0)) := hw2 ▸ heap_alloc_new _ _
  have q3 := hb.same hb2
  have q4 : Same [g] w wr := Same.of_below hb2
  obtain ⟨K8, hK8⟩ : ∃ K, w.heap.size = K := ⟨_, rfl⟩
  have HIS := ris_any l g A c first ⟨at_, 0⟩ wr q3 (HR.out.keep q4) hlc 2 3 (by omega) (by omega) (by omega)
  rw [hK8] at q5
  have Q := Lib.hid (⟨q3, q4, q5⟩ : _ ∧ _ ∧ _)
  rw [hisp] at HIS
  have HHIS := Lib.hid HIS
  have HW2 := Lib.hid (⟨hw2, hK8⟩ : _ ∧ _)
  have HT := Lib.hid ht
  have hmx := hr.1
  clear HIS q3 q4 q5 hb2 hw2 hK8 hb hr hisp ht
  have hxb : (x.toList == [40]) = true := by rw [Lib.toList_data]; exact hx
  have hxb2 : (x2.toList == [41]) = false := by rw [Lib.toList_data]; exact hx2
  have hxn2 : (x2.toList != [41]) = true := by simp only [bne, hxb2]; rfl
  have HO := Lib.hid hO
  clear hO

  go_enter Tryd.func111, Tryd.ntmps111
  go_wp2_with (rw [HW2.out.1, HW2.out.2]; refine HHIS.out.mono ?_; rintro r w3 ⟨rfl, hb3⟩; have HB3 := Lib.hid hb3; clear hb3)
  refine (rtoken_any l g A c first ⟨at_, 0⟩ w3 (Q.out.1.same HB3.out) ((HR.out.keep Q.out.2.1).keep (Same.of_below HB3.out)) hlc).mono ?_
  rw [show tokAt l (St.mk at_ 0).at_ = ⟨4, x, n, a⟩ from HT.out]
  rintro r w4 ⟨rfl, hb4⟩
  obtain ⟨w5, hw5⟩ : ∃ w5, w4.alloc (.cells #[.int .i64 4, .string x, .int .i64 n, .int .i64 a] 52 (0, 0)) = w5 := ⟨_, rfl⟩
  have hb35 : Below w3.heap.size w3 w5 := hb4.trans (hw5 ▸ (Below.refl _ _).alloc hb4.size _)
  have hb5 : Below wr.heap.size wr w5 := HB3.out.trans (hb35.mono HB3.out.size)
  have ht5 : w5.heap[w4.heap.size]? = some (.cells #[.int .i64 4, .string x, .int .i64 n, .int .i64 a] 52 (0, 0)) := hw5 ▸ heap_alloc_new _ _
  have hrd5 := Q.out.1.same hb5
  have hz5 := (hb5.block K8 (blk_lt Q.out.2.2)).trans Q.out.2.2
  obtain ⟨⟨t0, t1, t2, t3⟩, _⟩ := blk4 ht5
  obtain ⟨⟨_, _, _, r3⟩, _⟩ := blk4 hrd5
  obtain ⟨⟨z0, z1, z2, z3⟩, f0, f1, f2, f3⟩ := blk4 hz5
  have hgt : g < w4.heap.size := by have h1 := hb4.size; have h2 := HB3.out.size; have h3 := blk_lt Q.out.1; omega
  have H5 := Lib.hid (⟨hrd5, hz5, ht5, Q.out.2.1.below_ hb5, HW2.out.2⟩ : _ ∧ _ ∧ _ ∧ _ ∧ _)
  have HW5 := Lib.hid hw5
  obtain ⟨Kt, hKt⟩ : ∃ K, w4.heap.size = K := ⟨_, rfl⟩
  rw [hKt] at t0 t1 t2 t3 H5 hgt
  have HKt := Lib.hid hKt
  clear hb35 hb5 hb4 hrd5 hz5 ht5 hw5 hKt
  go_wp2_with (rw [HW5.out, HKt.out])
  have hin := (tokAt_in (l := l) (i := at_) (by rw [HT.out]; show (4 : Int) ≠ 0; decide)).2
  refine (rpass_any g A l.length c first ⟨at_, 0⟩ w5 H5.out.1 h1 h3 (by show at_ < _; omega) hf0).mono ?_
  rw [hpp]
  rintro r w6 ⟨rfl, hrd6, hs6⟩
  have hK8 := H5.out.2.2.2.2
  obtain ⟨⟨y0, y1, y2, y3⟩, g0, g1, g2, g3⟩ := blk4 (hs6.heap (by simp; omega) H5.out.2.1)
  obtain ⟨⟨u0, u1, u2, u3⟩, _⟩ := blk4 (hs6.heap (k := Kt) (by simp; omega) H5.out.2.2.1)
  have H6 := Lib.hid (⟨hrd6, hs6⟩ : _ ∧ _)
  have HK8 := Lib.hid hK8
  clear hrd6 hs6 hK8
  go_wp2_with fail
  have HS6 := Lib.hid (H5.out.2.2.2.1.then_ H6.out.2)
  refine (HO.out sp w6 H6.out.1 (HR.out.keep HS6.out) (by omega) (by omega) (by omega)).mono ?_
  rw [hp2]
  rintro r w7 ⟨B, d, rfl, hx7, hrd7, hs7⟩
  simp only at hx7 hrd7
  obtain ⟨w8, hw8⟩ : ∃ w8, w7.alloc (.cells #[.int .i64 e.op, .int .i64 e.n, .string e.name, .slice B e.kids.length d] 25 (0, 0)) = w8 := ⟨_, rfl⟩
  have hb78 : Below w7.heap.size w7 w8 := hw8 ▸ (Below.refl _ _).alloc (Nat.le_refl _) _
  have he8 : w8.heap[w7.heap.size]? = some (.cells #[.int .i64 e.op, .int .i64 e.n, .string e.name, .slice B e.kids.length d] 25 (0, 0)) := hw8 ▸ heap_alloc_new _ _
  have hs58 : Same [g] w5 w8 := (H6.out.2.then_ hs7).below_ hb78
  have hk58 := HK8.out
  have hz8 := hs58.heap (k := K8) (by simp; omega) H5.out.2.1
  have hg7 : g < w7.heap.size := blk_lt hrd7
  have hk7 : K8 < w7.heap.size := blk_lt ((H6.out.2.then_ hs7).heap (k := K8) (by simp; omega) H5.out.2.1)
  have hx8 : ExF (fun k => k ≤ K8) w8 e B d := (hx7.more (Q := fun k => k ≤ K8) (fun k hk => .inl (Nat.lt_of_le_of_lt hk (blk_lt (H6.out.2.heap (k := K8) (by simp; omega) H5.out.2.1))))).below hb78
  have H8 := Lib.hid (⟨hrd7.same hb78, hz8, he8, hx8, (HS6.out.then_ hs7).below_ hb78⟩ : _ ∧ _ ∧ _ ∧ _ ∧ _)
  have hg8 : g ≠ K8 := by omega
  obtain ⟨Ke, hKe⟩ : ∃ K, w7.heap.size = K := ⟨_, rfl⟩
  rw [hKe] at H8 hg7 hk7
  have HW8 := Lib.hid (⟨hw8, hKe⟩ : _ ∧ _)
  clear hx7 hrd7 hs7 hb78 he8 hs58 hz8 hx8 hw8 hKe y0 y1 y2 y3 g0 g1 g2 g3 u0 u1 u2 u3 z0 z1 z2 z3 f0 f1 f2 f3 t0 t1 t2 t3 r3 hk58
  go_wp2_with (rw [HW8.out.1, HW8.out.2])
  refine (rtoken_any l g A c first ⟨at2, 0⟩ w8 H8.out.1 (HR.out.keep H8.out.2.2.2.2) hlc).mono ?_
  rw [show tokAt l (St.mk at2 0).at_ = ⟨4, x2, n2, a2⟩ from ht2]
  rintro r w9 ⟨rfl, hb9⟩
  obtain ⟨w10, hw10⟩ : ∃ w5, w9.alloc (.cells #[.int .i64 4, .string x2, .int .i64 n2, .int .i64 a2] 52 (0, 0)) = w5 := ⟨_, rfl⟩
  have hb10 : Below w8.heap.size w8 w10 := hb9.trans (hw10 ▸ (Below.refl _ _).alloc hb9.size _)
  have ht10 : w10.heap[w9.heap.size]? = some (.cells #[.int .i64 4, .string x2, .int .i64 n2, .int .i64 a2] 52 (0, 0)) := hw10 ▸ heap_alloc_new _ _
  have hrd10 := H8.out.1.same hb10
  have hz10 := (hb10.block K8 (blk_lt H8.out.2.1)).trans H8.out.2.1
  have he10 := (hb10.block Ke (blk_lt H8.out.2.2.1)).trans H8.out.2.2.1
  obtain ⟨⟨t0, t1, t2, t3⟩, _⟩ := blk4 ht10
  obtain ⟨⟨_, _, _, r3⟩, _⟩ := blk4 hrd10
  obtain ⟨⟨z0, z1, z2, z3⟩, f0, f1, f2, f3⟩ := blk4 hz10
  obtain ⟨⟨v0, v1, v2, v3⟩, _⟩ := blk4 he10
  have H10 := Lib.hid (⟨hrd10, hz10, he10, H8.out.2.2.2.1.below hb10, H8.out.2.2.2.2.below_ hb10⟩ : _ ∧ _ ∧ _ ∧ _ ∧ _)
  have HW10 := Lib.hid hw10
  clear hb9 hb10 ht10 hrd10 hz10 he10 hw10
  go_wp2_with (rw [HW10.out])
  have _u := (⟨hlo2, hhi2⟩ : _ ∧ _)
  clear _u hlo2 hhi2
  refine (fail_any g A l.length c first ⟨at2, 0⟩ w10 H10.out.1 11).mono ?_
  rintro r w11 ⟨rfl, hrd11, hs11⟩
  obtain ⟨⟨y0, y1, y2, y3⟩, g0, g1, g2, g3⟩ := blk4 (hs11.heap (by simp; omega) H10.out.2.1)
  have H11 := Lib.hid (⟨hrd11, hs11⟩ : _ ∧ _)
  clear hrd11 hs11
  go_wp2_with fail
  refine bodyPost_ret (v := exV zEx none 0) (by simp [results, Tryd.results111, go_sem, *] <;> exact ⟨rfl, rfl, rfl, rfl⟩) rfl ?_
  have hK8 := HK8.out
  exact rd_end (P := fun k => k ≤ K8) (fun k hk => by show k ≤ K8; omega) (Nat.le_refl _) (ExF.leaf rfl) H11.out.1 (H10.out.2.2.2.2.then_ H11.out.2) (by omega) hg _ _ _ _
set_option maxHeartbeats 4000000 in
set_option maxRecDepth 100000 in
theorem un_par_ok (l : List Tok) (g : Nat) (A : Option Addr) (c : Nat) (first : Int) (hlc : l.length ≤ c) (hf0 : -9223372036854775808 ≤ first)
    (at_ : Int) (w : World) (hb : RdB w g A l.length c first ⟨at_, 0⟩) (hr : tokK.Row [g] w A l) (h1 : first ≤ at_) (h3 : at_ ≤ first + 64) (hisp : isP l 2 3 ⟨at_, 0⟩ = none)
    (n a : Int) (x : ByteArray) (ht : tokAt l at_ = ⟨4, x, n, a⟩) (hx : seq x ⟨#[40]⟩ = true) (sp : St) (hpp : passP first ⟨at_, 0⟩ = (true, sp)) (lo : Int) (orr : St → Ex × St) (hO : ReadsAs l g A c first lo 28 orr) (hl1 : first ≤ sp.at_) (hl2 : lo ≤ sp.at_) (hl3 : sp.at_ ≤ first + 64) (e : Ex) (at2 n2 a2 : Int) (x2 : ByteArray) (hp2 : orr sp = (e, ⟨at2, 0⟩)) (ht2 : tokAt l at2 = ⟨4, x2, n2, a2⟩) (hlo2 : first ≤ at2) (hhi2 : at2 ≤ first + 64) (hx2 : seq x2 ⟨#[41]⟩ = true) :
    Calls Tryd.prog 111 #[.pointer (some ⟨g, 0, none⟩)] w (RdPost g A l.length c first (e, (passP first ⟨at2, 0⟩).2) w) := by
  have HR := Lib.hid hr
  have hg := blk_lt hb
  obtain ⟨wr, hw2⟩ : ∃ w2, w.alloc (.cells #[.int .i64 0, .int .i64 0, .string ⟨#[]⟩, .slice none 0 0] 25 (0, 0)) = w2 := ⟨_, rfl⟩
  have hb2 : Below w.heap.size w wr := hw2 ▸ (Below.refl _ _).alloc (Nat.le_refl _) _
  have q5 : wr.heap[w.heap.size]? = some (.cells #[.int .i64 0, .int .i64 0, .string ⟨#[]⟩, .slice none 0 0] 25 (0, 0)) := hw2 ▸ heap_alloc_new _ _
  have q3 := hb.same hb2
  have q4 : Same [g] w wr := Same.of_below hb2
  obtain ⟨K8, hK8⟩ : ∃ K, w.heap.size = K := ⟨_, rfl⟩
  have HIS := ris_any l g A c first ⟨at_, 0⟩ wr q3 (HR.out.keep q4) hlc 2 3 (by omega) (by omega) (by omega)
  rw [hK8] at q5
  have Q := Lib.hid (⟨q3, q4, q5⟩ : _ ∧ _ ∧ _)
  rw [hisp] at HIS
  have HHIS := Lib.hid HIS
  have HW2 := Lib.hid (⟨hw2, hK8⟩ : _ ∧ _)
  have HT := Lib.hid ht
  have hmx := hr.1
  clear HIS q3 q4 q5 hb2 hw2 hK8 hb hr hisp ht
  have hxb : (x.toList == [40]) = true := by rw [Lib.toList_data]; exact hx
  have hxb2 : (x2.toList == [41]) = true := by rw [Lib.toList_data]; exact hx2
  have hxn2 : (x2.toList != [41]) = false := by simp only [bne, hxb2]; rfl
  have HO := Lib.hid hO
  clear hO

  go_enter Tryd.func111, Tryd.ntmps111
  go_wp2_with (rw [HW2.out.1, HW2.out.2]; refine HHIS.out.mono ?_; rintro r w3 ⟨rfl, hb3⟩; have HB3 := Lib.hid hb3; clear hb3)
  refine (rtoken_any l g A c first ⟨at_, 0⟩ w3 (Q.out.1.same HB3.out) ((HR.out.keep Q.out.2.1).keep (Same.of_below HB3.out)) hlc).mono ?_
  rw [show tokAt l (St.mk at_ 0).at_ = ⟨4, x, n, a⟩ from HT.out]
  rintro r w4 ⟨rfl, hb4⟩
  obtain ⟨w5, hw5⟩ : ∃ w5, w4.alloc (.cells #[.int .i64 4, .string x, .int .i64 n, .int .i64 a] 52 (0, 0)) = w5 := ⟨_, rfl⟩
  have hb35 : Below w3.heap.size w3 w5 := hb4.trans (hw5 ▸ (Below.refl _ _).alloc hb4.size _)
  have hb5 : Below wr.heap.size wr w5 := HB3.out.trans (hb35.mono HB3.out.size)
  have ht5 : w5.heap[w4.heap.size]? = some (.cells #[.int .i64 4, .string x, .int .i64 n, .int .i64 a] 52 (0, 0)) := hw5 ▸ heap_alloc_new _ _
  have hrd5 := Q.out.1.same hb5
  have hz5 := (hb5.block K8 (blk_lt Q.out.2.2)).trans Q.out.2.2
  obtain ⟨⟨t0, t1, t2, t3⟩, _⟩ := blk4 ht5
  obtain ⟨⟨_, _, _, r3⟩, _⟩ := blk4 hrd5
  obtain ⟨⟨z0, z1, z2, z3⟩, f0, f1, f2, f3⟩ := blk4 hz5
  have hgt : g < w4.heap.size := by have h1 := hb4.size; have h2 := HB3.out.size; have h3 := blk_lt Q.out.1; omega
  have H5 := Lib.hid (⟨hrd5, hz5, ht5, Q.out.2.1.below_ hb5, HW2.out.2⟩ : _ ∧ _ ∧ _ ∧ _ ∧ _)
  have HW5 := Lib.hid hw5
  obtain ⟨Kt, hKt⟩ : ∃ K, w4.heap.size = K := ⟨_, rfl⟩
  rw [hKt] at t0 t1 t2 t3 H5 hgt
  have HKt := Lib.hid hKt
  clear hb35 hb5 hb4 hrd5 hz5 ht5 hw5 hKt
  go_wp2_with (rw [HW5.out, HKt.out])
  have hin := (tokAt_in (l := l) (i := at_) (by rw [HT.out]; show (4 : Int) ≠ 0; decide)).2
  refine (rpass_any g A l.length c first ⟨at_, 0⟩ w5 H5.out.1 h1 h3 (by show at_ < _; omega) hf0).mono ?_
  rw [hpp]
  rintro r w6 ⟨rfl, hrd6, hs6⟩
  have hK8 := H5.out.2.2.2.2
  obtain ⟨⟨y0, y1, y2, y3⟩, g0, g1, g2, g3⟩ := blk4 (hs6.heap (by simp; omega) H5.out.2.1)
  obtain ⟨⟨u0, u1, u2, u3⟩, _⟩ := blk4 (hs6.heap (k := Kt) (by simp; omega) H5.out.2.2.1)
  have H6 := Lib.hid (⟨hrd6, hs6⟩ : _ ∧ _)
  have HK8 := Lib.hid hK8
  clear hrd6 hs6 hK8
  go_wp2_with fail
  have HS6 := Lib.hid (H5.out.2.2.2.1.then_ H6.out.2)
  refine (HO.out sp w6 H6.out.1 (HR.out.keep HS6.out) (by omega) (by omega) (by omega)).mono ?_
  rw [hp2]
  rintro r w7 ⟨B, d, rfl, hx7, hrd7, hs7⟩
  simp only at hx7 hrd7
  obtain ⟨w8, hw8⟩ : ∃ w8, w7.alloc (.cells #[.int .i64 e.op, .int .i64 e.n, .string e.name, .slice B e.kids.length d] 25 (0, 0)) = w8 := ⟨_, rfl⟩
  have hb78 : Below w7.heap.size w7 w8 := hw8 ▸ (Below.refl _ _).alloc (Nat.le_refl _) _
  have he8 : w8.heap[w7.heap.size]? = some (.cells #[.int .i64 e.op, .int .i64 e.n, .string e.name, .slice B e.kids.length d] 25 (0, 0)) := hw8 ▸ heap_alloc_new _ _
  have hs58 : Same [g] w5 w8 := (H6.out.2.then_ hs7).below_ hb78
  have hk58 := HK8.out
  have hz8 := hs58.heap (k := K8) (by simp; omega) H5.out.2.1
  have hg7 : g < w7.heap.size := blk_lt hrd7
  have hk7 : K8 < w7.heap.size := blk_lt ((H6.out.2.then_ hs7).heap (k := K8) (by simp; omega) H5.out.2.1)
  have hx8 : ExF (fun k => k ≤ K8) w8 e B d := (hx7.more (Q := fun k => k ≤ K8) (fun k hk => .inl (Nat.lt_of_le_of_lt hk (blk_lt (H6.out.2.heap (k := K8) (by simp; omega) H5.out.2.1))))).below hb78
  have H8 := Lib.hid (⟨hrd7.same hb78, hz8, he8, hx8, (HS6.out.then_ hs7).below_ hb78⟩ : _ ∧ _ ∧ _ ∧ _ ∧ _)
  have hg8 : g ≠ K8 := by omega
  obtain ⟨Ke, hKe⟩ : ∃ K, w7.heap.size = K := ⟨_, rfl⟩
  rw [hKe] at H8 hg7 hk7
  have HW8 := Lib.hid (⟨hw8, hKe⟩ : _ ∧ _)
  clear hx7 hrd7 hs7 hb78 he8 hs58 hz8 hx8 hw8 hKe y0 y1 y2 y3 g0 g1 g2 g3 u0 u1 u2 u3 z0 z1 z2 z3 f0 f1 f2 f3 t0 t1 t2 t3 r3 hk58
  go_wp2_with (rw [HW8.out.1, HW8.out.2])
  refine (rtoken_any l g A c first ⟨at2, 0⟩ w8 H8.out.1 (HR.out.keep H8.out.2.2.2.2) hlc).mono ?_
  rw [show tokAt l (St.mk at2 0).at_ = ⟨4, x2, n2, a2⟩ from ht2]
  rintro r w9 ⟨rfl, hb9⟩
  obtain ⟨w10, hw10⟩ : ∃ w5, w9.alloc (.cells #[.int .i64 4, .string x2, .int .i64 n2, .int .i64 a2] 52 (0, 0)) = w5 := ⟨_, rfl⟩
  have hb10 : Below w8.heap.size w8 w10 := hb9.trans (hw10 ▸ (Below.refl _ _).alloc hb9.size _)
  have ht10 : w10.heap[w9.heap.size]? = some (.cells #[.int .i64 4, .string x2, .int .i64 n2, .int .i64 a2] 52 (0, 0)) := hw10 ▸ heap_alloc_new _ _
  have hrd10 := H8.out.1.same hb10
  have hz10 := (hb10.block K8 (blk_lt H8.out.2.1)).trans H8.out.2.1
  have he10 := (hb10.block Ke (blk_lt H8.out.2.2.1)).trans H8.out.2.2.1
  obtain ⟨⟨t0, t1, t2, t3⟩, _⟩ := blk4 ht10
  obtain ⟨⟨_, _, _, r3⟩, _⟩ := blk4 hrd10
  obtain ⟨⟨z0, z1, z2, z3⟩, f0, f1, f2, f3⟩ := blk4 hz10
  obtain ⟨⟨v0, v1, v2, v3⟩, _⟩ := blk4 he10
  have H10 := Lib.hid (⟨hrd10, hz10, he10, H8.out.2.2.2.1.below hb10, H8.out.2.2.2.2.below_ hb10⟩ : _ ∧ _ ∧ _ ∧ _ ∧ _)
  have HW10 := Lib.hid hw10
  clear hb9 hb10 ht10 hrd10 hz10 he10 hw10
  go_wp2_with (rw [HW10.out])
  have hin2 := (tokAt_in (l := l) (i := at2) (by rw [ht2]; show (4 : Int) ≠ 0; decide)).2
  refine (rpass_any g A l.length c first ⟨at2, 0⟩ w10 H10.out.1 hlo2 hhi2 (by show at2 < _; omega) hf0).mono ?_
  rintro r w11 ⟨rfl, hrd11, hs11⟩
  obtain ⟨⟨y0, y1, y2, y3⟩, g0, g1, g2, g3⟩ := blk4 (hs11.heap (k := K8) (by simp; omega) H10.out.2.1)
  obtain ⟨⟨u0, u1, u2, u3⟩, _⟩ := blk4 (hs11.heap (k := Ke) (by simp; omega) H10.out.2.2.1)
  have H11 := Lib.hid (⟨hrd11, hs11⟩ : _ ∧ _)
  clear hrd11 hs11
  go_wp2_with fail
  refine bodyPost_ret (v := exV e B d) (by simp [results, Tryd.results111, go_sem, *]) rfl ?_
  have hK8 := HK8.out
  exact rd_end (P := fun k => k ≤ K8) (fun k hk => by show k ≤ K8; omega) (Nat.le_refl _) (H10.out.2.2.2.1.keep H11.out.2 (fun k hk => by simp at hk; omega)) H11.out.1 (H10.out.2.2.2.2.then_ H11.out.2) (by omega) hg _ _ _ _
end Go.Proofs.YtgaiheojlmebaaaDoor
