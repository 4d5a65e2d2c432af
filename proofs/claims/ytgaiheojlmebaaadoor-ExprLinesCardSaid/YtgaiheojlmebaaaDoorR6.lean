/- Walks: the reader's parts, behind an operator of one part. -/
import Derived.Test.YtgaiheojlmebaaaDoorR5
namespace Go.Proofs.YtgaiheojlmebaaaDoor
open Go Go.RowKit Go.Lib

set_option maxHeartbeats 4000000 in
set_option maxRecDepth 100000 in
theorem un_op (l : List Tok) (g : Nat) (A : Option Addr) (c : Nat) (first lo : Int) (un : St → Ex × St)
    (hF : ReadsAs l g A c first lo 111 un) (hlc : l.length ≤ c) (hf0 : -9223372036854775808 ≤ first)
    (s : St) (w : World) (hb : RdB w g A l.length c first s) (hr : tokK.Row [g] w A l) (h1 : first ≤ s.at_) (h2 : lo ≤ s.at_ + 1) (h3 : s.at_ ≤ first + 64) (op : Int) (hisp : isP l 2 3 s = some op) :
    Calls Tryd.prog 111 #[.pointer (some ⟨g, 0, none⟩)] w (RdPost g A l.length c first (if (passP first s).1 = false then (zEx, (passP first s).2) else (node1 op (un (passP first s).2).1, (un (passP first s).2).2)) w) := by
  have HR := Lib.hid hr
  have HF := Lib.hid hF
  have hg := blk_lt hb
  have H2 := Lib.hid h2
  obtain ⟨ANS, hANS⟩ : ∃ r, (if (passP first s).1 = false then (zEx, (passP first s).2) else (node1 op (un (passP first s).2).1, (un (passP first s).2).2)) = r := ⟨_, rfl⟩
  rw [hANS]
  have HANS := Lib.hid hANS
  obtain ⟨wr, hw2⟩ : ∃ w2, w.alloc (.cells #[.int .i64 0, .int .i64 0, .string ⟨#[]⟩, .slice none 0 0] 25 (0, 0)) = w2 := ⟨_, rfl⟩
  have hb2 : Below w.heap.size w wr := hw2 ▸ (Below.refl _ _).alloc (Nat.le_refl _) _
  have q5 : wr.heap[w.heap.size]? = some (.cells #[.int .i64 0, .int .i64 0, .string ⟨#[]⟩, .slice none 0 0] 25 (0, 0)) := hw2 ▸ heap_alloc_new _ _
  have q3 := hb.same hb2
  have q4 : Same [g] w wr := Same.of_below hb2
  obtain ⟨K8, hK8⟩ : ∃ K, w.heap.size = K := ⟨_, rfl⟩
  have HIS := ris_any l g A c first s wr q3 (HR.out.keep q4) hlc 2 3 (by omega) (by omega) (by omega)
  rw [hK8] at q5
  have Q := Lib.hid (⟨q3, q4, q5⟩ : _ ∧ _ ∧ _)
  rw [hisp] at HIS
  have HHIS := Lib.hid HIS
  have HW2 := Lib.hid (⟨hw2, hK8⟩ : _ ∧ _)
  have hop := isP_in hisp
  have hmx := HR.out.1
  have HP := Lib.hid (passP_at first s)
  obtain ⟨⟨pb, sp⟩, hpp⟩ : ∃ p, passP first s = p := ⟨_, rfl⟩
  simp only [hpp] at HANS HP
  clear HIS q3 q4 q5 hb2 hw2 hK8 hb hr hF h2 hANS
  cases pb with
  | false =>
    go_enter Tryd.func111, Tryd.ntmps111
    go_wp2_with (rw [HW2.out.1, HW2.out.2]; refine HHIS.out.mono ?_; rintro r w3 ⟨rfl, hb3⟩; have HB3 := Lib.hid hb3; clear hb3)
    refine (rpass_any g A l.length c first s w3 (Q.out.1.same HB3.out) h1 h3 (by omega) hf0).mono ?_
    rw [hpp]
    rintro r w4 ⟨rfl, hrd4, hs4⟩
    have hs34 : Same [g] wr w4 := (Same.of_below HB3.out).trans hs4 (fun _ h => .inl h)
    have hK8 := HW2.out.2
    obtain ⟨⟨z0, z1, z2, z3⟩, f0, f1, f2, f3⟩ := blk4 (hs34.heap (by simp; omega) Q.out.2.2)
    have HRD4 := Lib.hid hrd4
    have HS4 := Lib.hid hs34
    have HK8 := Lib.hid hK8
    clear hrd4 hs4 hs34 hK8
    go_wp2_with fail
    refine bodyPost_ret (v := exV zEx none 0) (by simp [results, Tryd.results111, go_sem, *] <;> exact ⟨rfl, rfl, rfl, rfl⟩) rfl ?_
    have h := HANS.out
    rw [if_pos trivial] at h
    rw [← h]
    have hK8 := HK8.out
    exact rd_end (P := fun k => k ≤ K8) (fun k hk => by show k ≤ K8; omega) (Nat.le_refl _) (ExF.leaf rfl) HRD4.out (Q.out.2.1.then_ HS4.out) (by omega) hg _ _ _ _
  | true =>
    obtain ⟨hsp, hlt64⟩ := HP.out.1 rfl
    obtain ⟨⟨e2, s2⟩, hp2⟩ : ∃ p, un sp = p := ⟨_, rfl⟩
    simp only [hp2] at HANS
    have HA2 : Hid ((node1 op e2, s2) = ANS) := Lib.hid (by have h := HANS.out; simpa using h)
    go_enter Tryd.func111, Tryd.ntmps111
    go_wp2_with (rw [HW2.out.1, HW2.out.2]; refine HHIS.out.mono ?_; rintro r w3 ⟨rfl, hb3⟩; have HB3 := Lib.hid hb3; clear hb3)
    refine (rpass_any g A l.length c first s w3 (Q.out.1.same HB3.out) h1 h3 (by omega) hf0).mono ?_
    rw [hpp]
    rintro r w4 ⟨rfl, hrd4, hs4⟩
    have hs34 : Same [g] wr w4 := (Same.of_below HB3.out).trans hs4 (fun _ h => .inl h)
    have hK8 := HW2.out.2
    have HZ4 := Lib.hid (hs34.heap (k := K8) (by simp; omega) Q.out.2.2)
    have HS4 := Lib.hid (Q.out.2.1.then_ hs34)
    have HRD4 := Lib.hid hrd4
    have hz4 : K8 < w4.heap.size := blk_lt HZ4.out
    have HK8 := Lib.hid hK8
    have hg8 : g ≠ K8 := by omega
    clear hrd4 hs4 hs34 hK8
    go_wp2_with fail
    refine (HF.out sp _ HRD4.out (HR.out.keep HS4.out) (by omega) (by have := H2.out; omega) (by omega)).mono ?_
    rw [hp2]
    rintro r w5 ⟨B5, d5, rfl, hx5, hrd5, hs5⟩
    have hz5 := hs5.heap (k := K8) (by simp; omega) HZ4.out
    have H5 := Lib.hid (⟨hx5, hrd5, hs5, hz5⟩ : _ ∧ _ ∧ _ ∧ _)
    clear hx5 hrd5 hs5 hz5 hp2
    go_wp2_with fail
    refine (node_any op _ 1 1 _).mono ?_
    rintro r w6 ⟨rfl, hb6⟩
    have hK6 := (hb6.block K8 (by have := blk_lt H5.out.2.2.2; simp; omega)).trans ((((Below.refl w5.heap.size w5).alloc (Nat.le_refl _) _).block K8 (blk_lt H5.out.2.2.2)).trans H5.out.2.2.2)
    have hbn := (hb6.block w5.heap.size (by simp)).trans (heap_alloc_new w5 _)
    obtain ⟨⟨k0, k1, k2, k3⟩, g0, g1, g2, g3⟩ := blk4 hK6
    have H6 := Lib.hid (⟨hb6, hK6, hbn⟩ : _ ∧ _ ∧ _)
    clear hb6 hK6 hbn
    go_wp2_with fail
    have hs45 : Same [g] w4 w5 := H5.out.2.2.1
    have hK8 := HK8.out
    have hx5 : ExF (fun k => k ≤ K8) w5 e2 B5 d5 := H5.out.1.more (fun k hk => .inl (show k < w4.heap.size by omega))
    have hb56 : Below w5.heap.size w5 w6 := ((Below.refl _ _).alloc (Nat.le_refl _) _).trans (H6.out.1.mono (by simp))
    have h45 := hs45.size
    refine bodyPost_ret (v := exV (node1 op e2) (some ⟨w5.heap.size, 0, none⟩) 1) (by simp [results, Tryd.results111, go_sem, node1, Ex.op, Ex.n, Ex.name, Ex.kids, *]) rfl ?_
    rw [← HA2.out]
    exact rd_end (P := fun k => k ≤ K8) (fun k hk => by show k ≤ K8; omega) (Nat.le_refl _) (ExF.one (k := w5.heap.size) (by omega) (hx5.below hb56) H6.out.2.2 op) (H5.out.2.1.same hb56) ((HS4.out.then_ hs45).below_ hb56) (by omega) hg _ _ _ _
end Go.Proofs.YtgaiheojlmebaaaDoor
