/- Part 14 of the proof of rtexts_card; no conditions. -/
import Derived.Test.YtgcfjkfipkfijaaGreatDoorTx13
namespace Go.Proofs.YtgcfjkfipkfijaaGreatDoor
open Go Go.RowKit Go.Lib
set_option maxHeartbeats 4000000 in
set_option maxRecDepth 100000 in
theorem eq_ints {P Q : Nat → Prop} {w : World} {A B : Option Addr} {a b : Nat} {xs ys : List Int} (hx : RowF (Kind.int .i64) P w A a xs) (hy : RowF (Kind.int .i64) Q w B b ys) :
  Calls Tryz.prog 101 #[.slice A xs.length a, .slice B ys.length b] w fun r w' => r = .returned (.bool (decide (xs = ys))) ∧ Below w.heap.size w w' := by
 obtain ⟨F, hF⟩ : ∃ F, decide (xs = ys) = F := ⟨_, rfl⟩
 rw [hF]
 have hxm := (hx.2 [] (by simp)).1
 have hym := (hy.2 [] (by simp)).1
 have hxc := hx.1
 have hyc := hy.1
 obtain ⟨n, hn⟩ : ∃ n, xs.length = n := ⟨_, rfl⟩
 obtain ⟨m, hm⟩ : ∃ n, ys.length = n := ⟨_, rfl⟩
 rw [hn] at hxm hxc ⊢
 rw [hm] at hym hyc ⊢
 have H := Lib.hid (⟨hx, hy, hn, hm, hF⟩ : _ ∧ _ ∧ _ ∧ _ ∧ _)
 clear hx hy hn hm hF
 by_cases hnm : n = m
 ·subst hnm
  go_enter Tryz.func101, Tryz.ntmps101
  go_wp2_with fail
  go_loopg [13] (n + 1) (fun q s13 wr => ∃ i : Nat, s13 = .int .i64 (i : Nat) ∧ i ≤ n ∧ n - i < q ∧ xs.take i = ys.take i ∧ Below w.heap.size w wr)
  case atStart => exact ⟨0, rfl, Nat.zero_le _, by omega, by simp, Below.refl _ _⟩
  case round =>
   obtain ⟨i, rfl, hin, hiq, htk, hb⟩ := hrel
   obtain ⟨gk, rfl⟩ : ∃ k, gk = k + 1 := ⟨gk - 1, by omega⟩
   by_cases hlt : i < n
   ·have hix : i < xs.length := by rw [H.out.2.2.1]; exact hlt
    have hiy : i < ys.length := by rw [H.out.2.2.2.1]; exact hlt
    obtain ⟨ad, rfl, c0, hl1⟩ := int_some (H.out.1.below hb) i hix
    obtain ⟨bd, rfl, d0, hl2⟩ := int_some (H.out.2.1.below hb) i hiy
    obtain ⟨x, hxx⟩ : ∃ x, xs[i] = x := ⟨_, rfl⟩
    obtain ⟨y, hyy⟩ : ∃ x, ys[i] = x := ⟨_, rfl⟩
    have hs1 : xs.take (i + 1) = xs.take i ++ [x] := by rw [List.take_succ_eq_append_getElem hix, hxx]
    have hs2 : ys.take (i + 1) = ys.take i ++ [y] := by rw [List.take_succ_eq_append_getElem hiy, hyy]
    rw [hxx] at c0
    rw [hyy] at d0
    have HS := Lib.hid (⟨hs1, hs2, htk, hb⟩ : _ ∧ _ ∧ _ ∧ _)
    have hz : (i : Int) < n := by omega
    have hz0 : (0 : Int) ≤ i := by omega
    clear hs1 hs2 htk hb hix hiy hxx hyy
    by_cases hxy : x = y
    ·subst hxy
     go_wp2_with fail
     go_region
     all_goals
      go_wp2_with fail
      go_roundg gk
      case measure => omega
      case rel => exact ⟨i + 1, by go_num, by omega, by omega, by rw [HS.out.1, HS.out.2.1, HS.out.2.2.1], HS.out.2.2.2.drew⟩
    ·have t1 : (x == y) = false := beqf hxy
     have t2 : (x != y) = true := by unfold bne; rw [t1]; rfl
     have HF : Hid (F = false) := Lib.hid (by
      rw [← H.out.2.2.2.2]
      refine decide_eq_false (fun e => hxy ?_)
      have h1 := HS.out.1
      rw [e, HS.out.2.1] at h1
      have := List.append_inj' h1 rfl
      simpa using this.2.symm)
     go_wp2_with fail
     go_region
     all_goals
      go_wp2_with fail
      refine bodyPost_ret (v := .bool false) (by simp [results, Tryz.results101, go_sem, *]) rfl ?_
      exact ⟨by rw [HF.out], HS.out.2.2.2.drew⟩
   ·obtain rfl : i = n := by omega
    have HF : Hid (F = true) := Lib.hid (by
     rw [← H.out.2.2.2.2]
     refine decide_eq_true ?_
     have h1 : xs.take xs.length = ys.take ys.length := by rw [H.out.2.2.1, H.out.2.2.2.1]; exact htk
     simpa using h1)
    have HB := Lib.hid hb
    clear hb htk
    go_wp2_with fail
    refine bodyPost_ret (v := .bool true) (by simp [results, Tryz.results101, go_sem, *]) rfl ?_
    exact ⟨by rw [HF.out], HB.out⟩
 ·have t1 : ((n : Int) == m) = false := beqf (by omega)
  have t2 : ((n : Int) != m) = true := by unfold bne; rw [t1]; rfl
  have HF : Hid (F = false) := Lib.hid (by
   rw [← H.out.2.2.2.2]
   refine decide_eq_false (fun e => hnm ?_)
   rw [← H.out.2.2.1, ← H.out.2.2.2.1, e])
  clear hnm
  go_enter Tryz.func101, Tryz.ntmps101
  go_wp2_with fail
  refine bodyPost_ret (v := .bool false) (by simp [results, Tryz.results101, go_sem, *]) rfl ?_
  exact ⟨by rw [HF.out], Below.refl _ _⟩
end Go.Proofs.YtgcfjkfipkfijaaGreatDoor
namespace Go.Proofs.YtgcfjkfipkfijaaGreatDoor
open Go Go.RowKit Go.Lib
theorem cell_some {P : Nat → Prop} {w : World} {A : Option Addr} {c : Nat} {l : List ByteArray} (h : RowF Kind.str P w A c l) (i : Nat) (hi : i < l.length) : ∃ ad, A = some ad ∧ w.cell? (ad.add i) = some (.string l[i]) ∧ ad.block < w.heap.size := by
 obtain ⟨ad, cs, e, hav, hcell⟩ := h.at_ i hi
 have he : cs = [.string l[i]] := hav [] (by simp)
 subst he
 refine ⟨ad, e, ?_, row_lt h i hi e⟩
 have := hcell 0 _ rfl
 simpa [Kind.str] using this
set_option maxHeartbeats 4000000 in
set_option maxRecDepth 100000 in
theorem eq_strs {P Q : Nat → Prop} {w : World} {A B : Option Addr} {a b : Nat} {xs ys : List ByteArray} (hx : RowF Kind.str P w A a xs) (hy : RowF Kind.str Q w B b ys) :
  Calls Tryz.prog 102 #[.slice A xs.length a, .slice B ys.length b] w fun r w' => r = .returned (.bool (decide (xs = ys))) ∧ Below w.heap.size w w' := by
 obtain ⟨F, hF⟩ : ∃ F, decide (xs = ys) = F := ⟨_, rfl⟩
 rw [hF]
 have hxm := (hx.2 [] (by simp)).1
 have hym := (hy.2 [] (by simp)).1
 have hxc := hx.1
 have hyc := hy.1
 obtain ⟨n, hn⟩ : ∃ n, xs.length = n := ⟨_, rfl⟩
 obtain ⟨m, hm⟩ : ∃ n, ys.length = n := ⟨_, rfl⟩
 rw [hn] at hxm hxc ⊢
 rw [hm] at hym hyc ⊢
 have H := Lib.hid (⟨hx, hy, hn, hm, hF⟩ : _ ∧ _ ∧ _ ∧ _ ∧ _)
 clear hx hy hn hm hF
 by_cases hnm : n = m
 ·subst hnm
  go_enter Tryz.func102, Tryz.ntmps102
  go_wp2_with fail
  go_loopg [13] (n + 1) (fun q s13 wr => ∃ i : Nat, s13 = .int .i64 (i : Nat) ∧ i ≤ n ∧ n - i < q ∧ xs.take i = ys.take i ∧ Below w.heap.size w wr)
  case atStart => exact ⟨0, rfl, Nat.zero_le _, by omega, by simp, Below.refl _ _⟩
  case round =>
   obtain ⟨i, rfl, hin, hiq, htk, hb⟩ := hrel
   obtain ⟨gk, rfl⟩ : ∃ k, gk = k + 1 := ⟨gk - 1, by omega⟩
   by_cases hlt : i < n
   ·have hix : i < xs.length := by rw [H.out.2.2.1]; exact hlt
    have hiy : i < ys.length := by rw [H.out.2.2.2.1]; exact hlt
    obtain ⟨ad, rfl, c0, hl1⟩ := cell_some (H.out.1.below hb) i hix
    obtain ⟨bd, rfl, d0, hl2⟩ := cell_some (H.out.2.1.below hb) i hiy
    obtain ⟨x, hxx⟩ : ∃ x, xs[i] = x := ⟨_, rfl⟩
    obtain ⟨y, hyy⟩ : ∃ x, ys[i] = x := ⟨_, rfl⟩
    have hs1 : xs.take (i + 1) = xs.take i ++ [x] := by rw [List.take_succ_eq_append_getElem hix, hxx]
    have hs2 : ys.take (i + 1) = ys.take i ++ [y] := by rw [List.take_succ_eq_append_getElem hiy, hyy]
    rw [hxx] at c0
    rw [hyy] at d0
    have HS := Lib.hid (⟨hs1, hs2, htk, hb⟩ : _ ∧ _ ∧ _ ∧ _)
    have hz : (i : Int) < n := by omega
    have hz0 : (0 : Int) ≤ i := by omega
    clear hs1 hs2 htk hb hix hiy hxx hyy
    by_cases hxy : x = y
    ·subst hxy
     go_wp2_with fail
     go_region
     all_goals
      go_wp2_with fail
      go_roundg gk
      case measure => omega
      case rel => exact ⟨i + 1, by go_num, by omega, by omega, by rw [HS.out.1, HS.out.2.1, HS.out.2.2.1], HS.out.2.2.2.drew⟩
    ·have t1 : (x.data.toList == y.data.toList) = false := by
      rw [beq_eq_false_iff_ne]
      exact fun e => hxy (ByteArray.ext (Array.toList_inj.1 e))
     have t2 : (x.toList == y.toList) = false := by rw [Lib.toList_data, Lib.toList_data]; exact t1
     have HF : Hid (F = false) := Lib.hid (by
      rw [← H.out.2.2.2.2]
      refine decide_eq_false (fun e => hxy ?_)
      have h1 := HS.out.1
      rw [e, HS.out.2.1] at h1
      have := List.append_inj' h1 rfl
      simpa using this.2.symm)
     go_wp2_with fail
     go_region
     all_goals
      go_wp2_with fail
      refine bodyPost_ret (v := .bool false) (by simp [results, Tryz.results102, go_sem, *]) rfl ?_
      exact ⟨by rw [HF.out], HS.out.2.2.2.drew⟩
   ·obtain rfl : i = n := by omega
    have HF : Hid (F = true) := Lib.hid (by
     rw [← H.out.2.2.2.2]
     refine decide_eq_true ?_
     have h1 : xs.take xs.length = ys.take ys.length := by rw [H.out.2.2.1, H.out.2.2.2.1]; exact htk
     simpa using h1)
    have HB := Lib.hid hb
    clear hb htk
    go_wp2_with fail
    refine bodyPost_ret (v := .bool true) (by simp [results, Tryz.results102, go_sem, *]) rfl ?_
    exact ⟨by rw [HF.out], HB.out⟩
 ·have t1 : ((n : Int) == m) = false := beqf (by omega)
  have t2 : ((n : Int) != m) = true := by unfold bne; rw [t1]; rfl
  have HF : Hid (F = false) := Lib.hid (by
   rw [← H.out.2.2.2.2]
   refine decide_eq_false (fun e => hnm ?_)
   rw [← H.out.2.2.1, ← H.out.2.2.2.1, e])
  clear hnm
  go_enter Tryz.func102, Tryz.ntmps102
  go_wp2_with fail
  refine bodyPost_ret (v := .bool false) (by simp [results, Tryz.results102, go_sem, *]) rfl ?_
  exact ⟨by rw [HF.out], Below.refl _ _⟩
end Go.Proofs.YtgcfjkfipkfijaaGreatDoor
namespace Go.Proofs.YtgcfjkfipkfijaaGreatDoor
open Go Go.RowKit Go.Lib
set_option maxHeartbeats 4000000 in
set_option maxRecDepth 100000 in
open Classical in
theorem eq_prms {P Q : Nat → Prop} {w : World} {A B : Option Addr} {a b : Nat} {xs ys : List Prm} (hx : RowF prmK P w A a xs) (hy : RowF prmK Q w B b ys) :
  Calls Tryz.prog 69 #[.slice A xs.length a, .slice B ys.length b] w fun r w' => r = .returned (.bool (decide (xs = ys))) ∧ Below w.heap.size w w' := by
 obtain ⟨F, hF⟩ : ∃ F, decide (xs = ys) = F := ⟨_, rfl⟩
 rw [hF]
 have hxm := (hx.2 [] (by simp)).1
 have hym := (hy.2 [] (by simp)).1
 have hxc := hx.1
 have hyc := hy.1
 obtain ⟨n, hn⟩ : ∃ n, xs.length = n := ⟨_, rfl⟩
 obtain ⟨m, hm⟩ : ∃ n, ys.length = n := ⟨_, rfl⟩
 rw [hn] at hxm hxc ⊢
 rw [hm] at hym hyc ⊢
 have H := Lib.hid (⟨hx, hy, hn, hm, hF⟩ : _ ∧ _ ∧ _ ∧ _ ∧ _)
 clear hx hy hn hm hF
 by_cases hnm : n = m
 ·subst hnm
  go_enter Tryz.func69, Tryz.ntmps69
  go_wp2_with fail
  go_loopg [13] (n + 1) (fun q s13 wr => ∃ i : Nat, s13 = .int .i64 (i : Nat) ∧ i ≤ n ∧ n - i < q ∧ xs.take i = ys.take i ∧ Below w.heap.size w wr)
  case atStart => exact ⟨0, rfl, Nat.zero_le _, by omega, by simp, Below.refl _ _⟩
  case round =>
   obtain ⟨i, rfl, hin, hiq, htk, hb⟩ := hrel
   obtain ⟨gk, rfl⟩ : ∃ k, gk = k + 1 := ⟨gk - 1, by omega⟩
   by_cases hlt : i < n
   ·have hix : i < xs.length := by rw [H.out.2.2.1]; exact hlt
    have hiy : i < ys.length := by rw [H.out.2.2.2.1]; exact hlt
    obtain ⟨ad, rfl, c0, c1, c2, hl1⟩ := prm_some (H.out.1.below hb) i hix
    obtain ⟨bd, rfl, d0, d1, d2, hl2⟩ := prm_some (H.out.2.1.below hb) i hiy
    obtain ⟨x, hxx⟩ : ∃ x, xs[i] = x := ⟨_, rfl⟩
    obtain ⟨y, hyy⟩ : ∃ x, ys[i] = x := ⟨_, rfl⟩
    have hs1 : xs.take (i + 1) = xs.take i ++ [x] := by rw [List.take_succ_eq_append_getElem hix, hxx]
    have hs2 : ys.take (i + 1) = ys.take i ++ [y] := by rw [List.take_succ_eq_append_getElem hiy, hyy]
    rw [hxx] at c0 c1 c2
    rw [hyy] at d0 d1 d2
    obtain ⟨xn, xi, xs'⟩ := x
    obtain ⟨yn, yi, ys'⟩ := y
    simp only at c0 c1 c2 d0 d1 d2
    have HS := Lib.hid (⟨hs1, hs2, htk, hb⟩ : _ ∧ _ ∧ _ ∧ _)
    have hz : (i : Int) < n := by omega
    have hz0 : (0 : Int) ≤ i := by omega
    clear hs1 hs2 htk hb hix hiy hxx hyy
    by_cases hxy : (⟨xn, xi, xs'⟩ : Prm) = ⟨yn, yi, ys'⟩
    ·injection hxy with e1 e2 e3
     subst e1 e2 e3
     go_wp2_with fail
     go_region
     all_goals
      go_wp2_with fail
      go_roundg gk
      case measure => omega
      case rel => exact ⟨i + 1, by go_num, by omega, by omega, by rw [HS.out.1, HS.out.2.1, HS.out.2.2.1], HS.out.2.2.2.drew⟩
    ·have HF : Hid (F = false) := Lib.hid (by
      rw [← H.out.2.2.2.2]
      refine decide_eq_false (fun e => hxy ?_)
      have h1 := HS.out.1
      rw [e, HS.out.2.1] at h1
      have := List.append_inj' h1 rfl
      simpa using this.2.symm)
     by_cases q1 : xn = yn
     ·subst q1
      by_cases q2 : xi = yi
      ·subst q2
       have q3 : ¬ xs' = ys' := fun e => hxy (by rw [e])
       clear hxy
       go_wp2_with fail
       go_region
       all_goals
        go_wp2_with fail
        refine bodyPost_ret (v := .bool false) (by simp [results, Tryz.results69, go_sem, *]) rfl ?_
        exact ⟨by rw [HF.out], HS.out.2.2.2.drew⟩
      ·clear hxy
       go_wp2_with fail
       go_region
       all_goals
        go_wp2_with fail
        refine bodyPost_ret (v := .bool false) (by simp [results, Tryz.results69, go_sem, *]) rfl ?_
        exact ⟨by rw [HF.out], HS.out.2.2.2.drew⟩
     ·have q4 : ¬ xn.toList = yn.toList := fun e => q1 (by
       rw [Lib.toList_data, Lib.toList_data] at e
       exact ByteArray.ext (Array.toList_inj.1 e))
      clear hxy
      go_wp2_with fail
      go_region
      all_goals
       go_wp2_with fail
       refine bodyPost_ret (v := .bool false) (by simp [results, Tryz.results69, go_sem, *]) rfl ?_
       exact ⟨by rw [HF.out], HS.out.2.2.2.drew⟩
   ·obtain rfl : i = n := by omega
    have HF : Hid (F = true) := Lib.hid (by
     rw [← H.out.2.2.2.2]
     refine decide_eq_true ?_
     have h1 : xs.take xs.length = ys.take ys.length := by rw [H.out.2.2.1, H.out.2.2.2.1]; exact htk
     simpa using h1)
    have HB := Lib.hid hb
    clear hb htk
    go_wp2_with fail
    refine bodyPost_ret (v := .bool true) (by simp [results, Tryz.results69, go_sem, *]) rfl ?_
    exact ⟨by rw [HF.out], HB.out⟩
 ·have t1 : ((n : Int) == m) = false := beqf (by omega)
  have t2 : ((n : Int) != m) = true := by unfold bne; rw [t1]; rfl
  have HF : Hid (F = false) := Lib.hid (by
   rw [← H.out.2.2.2.2]
   refine decide_eq_false (fun e => hnm ?_)
   rw [← H.out.2.2.1, ← H.out.2.2.2.1, e])
  clear hnm
  go_enter Tryz.func69, Tryz.ntmps69
  go_wp2_with fail
  refine bodyPost_ret (v := .bool false) (by simp [results, Tryz.results69, go_sem, *]) rfl ?_
  exact ⟨by rw [HF.out], Below.refl _ _⟩
end Go.Proofs.YtgcfjkfipkfijaaGreatDoor
namespace Go.Proofs.YtgcfjkfipkfijaaGreatDoor
open Go Go.RowKit Go.Lib
open Classical in
noncomputable def mayR (r : Rec) : Bool := (textP r).2 && ((recP (str (textP r).1)).2.1 == 0 && decide ((recP (str (textP r).1)).1 = r))
noncomputable def printR (r : Rec) : ByteArray := if mayR r = true then str (textP r).1 else ⟨#[]⟩
theorem mayR_iff (r : Rec) : mayR r = true ↔ (textP r).2 = true ∧ (recP (str (textP r).1)).2.1 = 0 ∧ (recP (str (textP r).1)).1 = r := by
 unfold mayR
 simp only [Bool.and_eq_true, beq_iff_eq, decide_eq_true_eq]
def nmsOf (kind : Int) (x : Nd) : List ByteArray := if x.kind = kind then (if x.kind = 3 then [x.name] else x.units) else []
def addU (l : List ByteArray) (s : ByteArray) : List ByteArray := if inB s l = true then l else l ++ [s]
noncomputable def namedR (r : Rec) (kind : Int) : List ByteArray := if mayR r = true then (r.nodes.flatMap (nmsOf kind)).foldl addU [] else []
end Go.Proofs.YtgcfjkfipkfijaaGreatDoor
namespace Go.Proofs.YtgcfjkfipkfijaaGreatDoor
open Go Go.RowKit Go.Lib
theorem exf_some {P : Nat → Prop} {w : World} {ad : Addr} {c : Nat} {l : List Ex} (h : RowF exK P w (some ad) c l) (i : Nat) (hi : i < l.length) : ∃ A ec, (w.cell? (ad.add (i * 4)) = some (.int .i64 l[i].op) ∧ w.cell? ⟨(ad.add (i * 4)).block, (ad.add (i * 4)).off + 1, none⟩ = some (.int .i64 l[i].n) ∧
  w.cell? ⟨(ad.add (i * 4)).block, (ad.add (i * 4)).off + 2, none⟩ = some (.string l[i].name) ∧ w.cell? ⟨(ad.add (i * 4)).block, (ad.add (i * 4)).off + 3, none⟩ = some (.slice A l[i].kids.length ec)) ∧
  ExF P w l[i] A ec ∧ (ad.add (i * 4)).block < w.heap.size := by
 obtain ⟨ad', cs, e, hav, hcell⟩ := h.at_ i hi
 injection e with e
 subst e
 obtain ⟨A, ec, rfl, hec, _⟩ := exK_open (hav [] (by simp))
 refine ⟨A, ec, ⟨hcell 0 _ rfl, ?_, ?_, ?_⟩, ⟨hec, fun M hM => ?_⟩, by rw [add_block]; exact row_lt h i hi rfl⟩
 ·rw [← add_off _ _ 1 (by decide)]; exact hcell 1 _ rfl
 ·rw [← add_off _ _ 2 (by decide)]; exact hcell 2 _ rfl
 ·rw [← add_off _ _ 3 (by decide)]; exact hcell 3 _ rfl
 ·obtain ⟨A', ec', e', _, hex'⟩ := exK_open (hav M hM)
  simp at e'
  rw [e'.1]
  exact hex'
theorem two_box {w : World} {cs ds : Array Value} {t u : TypeId} : ∃ w0, (w.alloc (.cells cs t)).alloc (.cells ds u) = w0 ∧ Below w.heap.size w w0 ∧ w0.heap[w.heap.size]? = some (.cells cs t (0, 0)) ∧ w0.heap[w.heap.size + 1]? = some (.cells ds u (0, 0)) := by
 refine ⟨_, rfl, ((Below.refl _ _).alloc (Nat.le_refl _) _).alloc (by simp) _, (Below.heap_alloc _ _ _ (by simp)).trans (heap_alloc_new _ _), ?_⟩
 have h := heap_alloc_new (w.alloc (.cells cs t)) (.cells ds u)
 simpa using h
theorem row_ad {α : Type} {d : Kind α} {P : Nat → Prop} {w : World} {A : Option Addr} {c : Nat} {l : List α} (h : RowF d P w A c l) (i : Nat) (hi : i < l.length) : ∃ ad, A = some ad := by
 obtain ⟨ad, cs, e, _⟩ := h.at_ i hi
 exact ⟨ad, e⟩
theorem take_eq {α : Type} {xs ys : List α} {n i : Nat} (hn : xs.length = n) (hm : ys.length = n) (h : xs.take i = ys.take i) (hi : i = n) : xs = ys := by
 subst hi
 rw [List.take_of_length_le (by omega), List.take_of_length_le (by omega)] at h
 exact h
theorem take_next {α : Type} {xs ys : List α} {i : Nat} (h1 : i < xs.length) (h2 : i < ys.length) (h : xs.take i = ys.take i) (e : xs[i] = ys[i]) : xs.take (i + 1) = ys.take (i + 1) := by
 rw [List.take_succ_eq_append_getElem h1, List.take_succ_eq_append_getElem h2, h, e]
theorem ne_at {α : Type} {xs ys : List α} {i : Nat} (h1 : i < xs.length) (h2 : i < ys.length) (e : xs[i] ≠ ys[i]) : xs ≠ ys := fun h => e (by subst h; rfl)
def ExIs (P : Nat → Prop) (w : World) (e : Ex) (v : Value) : Prop := ∃ A c, v = exV e A c ∧ ExF P w e A c
def ArIs (P : Nat → Prop) (w : World) (a : Ar) (v : Value) : Prop := ∃ A c, v = .agg #[.string a.name, .int .i64 a.e.op, .int .i64 a.e.n, .string a.e.name, .slice A a.e.kids.length c] ∧ ExF P w a.e A c
structure NdF (P : Nat → Prop) (w : World) (x : Nd) (kA : Option Addr) (kc : Nat) (uA : Option Addr) (uc : Nat) (gA : Option Addr) (gc : Nat) (eA : Option Addr) (ec : Nat) : Prop where
 kids : RowF (Kind.int .i64) P w kA kc x.kids
 units : RowF Kind.str P w uA uc x.units
 args : RowF arK P w gA gc x.args
 ex : ExF P w x.e eA ec
theorem NdF.below {P : Nat → Prop} {w w' : World} {x : Nd} {kA uA gA eA : Option Addr} {kc uc gc ec : Nat} (h : NdF P w x kA kc uA uc gA gc eA ec) (hs : Below w.heap.size w w') : NdF P w' x kA kc uA uc gA gc eA ec := ⟨h.kids.below hs, h.units.below hs, h.args.below hs, h.ex.below hs⟩
abbrev ndV (x : Nd) (kA : Option Addr) (kc : Nat) (uA : Option Addr) (uc : Nat) (gA : Option Addr) (gc : Nat) (eA : Option Addr) (ec : Nat) : Value :=
 .agg #[.int .i64 x.kind, .slice kA x.kids.length kc, .slice uA x.units.length uc, .string x.name, .slice gA x.args.length gc, .int .i64 x.e.op, .int .i64 x.e.n, .string x.e.name, .slice eA x.e.kids.length ec]
def NdIs (P : Nat → Prop) (w : World) (x : Nd) (v : Value) : Prop := ∃ kA kc uA uc gA gc eA ec, v = ndV x kA kc uA uc gA gc eA ec ∧ NdF P w x kA kc uA uc gA gc eA ec
set_option maxHeartbeats 8000000 in
set_option maxRecDepth 100000 in
open Classical in
theorem eqf_exs {P Q : Nat → Prop} {w : World} {A B : Option Addr} {a b : Nat} {xs ys : List Ex} {F : FuncId} (hx : RowF exK P w A a xs) (hy : RowF exK Q w B b ys)
  (eg : ∀ args w, (callFunc F args).run Tryz.prog w = .ok (.enter F args) w)
  (hF : ∀ i (hi : i < xs.length) (hj : i < ys.length) u v W, Below w.heap.size w W → ExIs P W xs[i] u → ExIs Q W ys[i] v → Calls Tryz.prog F #[u, v] W fun r w' => r = .returned (.bool (decide (xs[i] = ys[i]))) ∧ Below W.heap.size W w') :
  Calls Tryz.prog 116 #[.slice A xs.length a, .slice B ys.length b, .func (.func F) #[] #[]] w fun r w' => r = .returned (.bool (decide (xs = ys))) ∧ Below w.heap.size w w' := by
 obtain ⟨R, hR⟩ : ∃ F, decide (xs = ys) = F := ⟨_, rfl⟩
 rw [hR]
 have hxm := (hx.2 [] (by simp)).1
 have hym := (hy.2 [] (by simp)).1
 have hxc := hx.1
 have hyc := hy.1
 obtain ⟨n, hn⟩ : ∃ n, xs.length = n := ⟨_, rfl⟩
 obtain ⟨m, hm⟩ : ∃ n, ys.length = n := ⟨_, rfl⟩
 have H := Lib.hid (⟨hx, hy, hF, hn, hm, hR⟩ : _ ∧ _ ∧ _ ∧ _ ∧ _ ∧ _)
 rw [hn] at hxm hxc ⊢
 rw [hm] at hym hyc ⊢
 clear hx hy hn hm hR hF
 by_cases hnm : n = m
 ·subst hnm
  go_enter Tryz.func116, Tryz.ntmps116
  go_wp2_with fail
  go_loopg [17] (n + 1) (fun q s17 wr => ∃ i : Nat, s17 = .int .i64 (i : Nat) ∧ i ≤ n ∧ n - i < q ∧ xs.take i = ys.take i ∧ Below w.heap.size w wr)
  case atStart => exact ⟨0, rfl, Nat.zero_le _, by omega, by simp, Below.refl _ _⟩
  case round =>
   obtain ⟨i, rfl, hin, hiq, htk, hb⟩ := hrel
   obtain ⟨gk, rfl⟩ : ∃ k, gk = k + 1 := ⟨gk - 1, by omega⟩
   by_cases hlt : i < n
   ·have hix : i < xs.length := by rw [H.out.2.2.2.1]; exact hlt
    have hiy : i < ys.length := by rw [H.out.2.2.2.2.1]; exact hlt
    obtain ⟨ad, rfl⟩ := row_ad H.out.1 i hix
    obtain ⟨bd, rfl⟩ := row_ad H.out.2.1 i hiy
    obtain ⟨uA, uc, ⟨c0, c1, c2, c3⟩, hux, hul⟩ := exf_some (H.out.1.below hb) i hix
    obtain ⟨vA, vc, ⟨d0, d1, d2, d3⟩, hvx, hvl⟩ := exf_some (H.out.2.1.below hb) i hiy
    have HC := Lib.hid (fun W (hW : Below wr.heap.size wr W) => H.out.2.2.1 i hix hiy _ _ W (hb.trans (hW.mono hb.size)) ⟨uA, uc, rfl, hux.below hW⟩ ⟨vA, vc, rfl, hvx.below hW⟩)
    clear hux hvx
    obtain ⟨q, hq⟩ : ∃ q, decide (xs[i] = ys[i]) = q := ⟨_, rfl⟩
    rw [hq] at HC
    have HS := Lib.hid (⟨hix, hiy, hq, htk, hb⟩ : ∃ (h1 : i < xs.length) (h2 : i < ys.length), decide (xs[i] = ys[i]) = q ∧ xs.take i = ys.take i ∧ Below w.heap.size w wr)
    obtain ⟨x, hxx⟩ : ∃ x, xs[i] = x := ⟨_, rfl⟩
    obtain ⟨y, hyy⟩ : ∃ x, ys[i] = x := ⟨_, rfl⟩
    rw [hxx] at HC c0 c1 c2 c3
    rw [hyy] at HC d0 d1 d2 d3
    have hz : (i : Int) < n := by omega
    have hz0 : (0 : Int) ≤ i := by omega
    clear htk hb hxx hyy hq hix hiy
    go_wp2_with fail
    obtain ⟨w2, hw2, hb2, _⟩ := two_box (w := wr) (cs := #[.int .i64 x.op, .int .i64 x.n, .string x.name, .slice uA x.kids.length uc]) (ds := #[.int .i64 y.op, .int .i64 y.n, .string y.name, .slice vA y.kids.length vc]) (t := 41) (u := 41)
    rw [hw2]
    refine (HC.out w2 hb2).mono ?_
    rintro r w3 ⟨rfl, hb3⟩
    have HB3 := Lib.hid (hb2.trans (hb3.mono hb2.size))
    clear hw2 hb2 hb3 c0 c1 c2 c3 d0 d1 d2 d3
    cases q
    ·have HF : Hid (R = false) := Lib.hid (by
      obtain ⟨h1, h2, h3, _⟩ := HS.out
      rw [← H.out.2.2.2.2.2]
      exact decide_eq_false (ne_at h1 h2 (of_decide_eq_false h3)))
     have HB : Hid (Below w.heap.size w w3) := Lib.hid (by obtain ⟨_, _, _, _, h5⟩ := HS.out; exact h5.trans (HB3.out.mono h5.size))
     go_wp2_with fail
     refine bodyPost_ret (v := .bool false) (by simp [results, Tryz.results116, go_sem, *]) rfl ?_
     exact ⟨by rw [HF.out], HB.out⟩
    ·go_wp2_with fail
     go_roundg gk
     case measure => omega
     case rel =>
      obtain ⟨h1, h2, h3, h4, h5⟩ := HS.out
      exact ⟨i + 1, by go_num, by omega, by omega, take_next h1 h2 h4 (of_decide_eq_true h3), h5.trans (HB3.out.mono h5.size)⟩
   ·obtain rfl : i = n := by omega
    have HF : Hid (R = true) := Lib.hid (by
     rw [← H.out.2.2.2.2.2]
     exact decide_eq_true (take_eq H.out.2.2.2.1 H.out.2.2.2.2.1 htk rfl))
    have HB := Lib.hid hb
    clear hb htk
    go_wp2_with fail
    refine bodyPost_ret (v := .bool true) (by simp [results, Tryz.results116, go_sem, *]) rfl ?_
    exact ⟨by rw [HF.out], HB.out⟩
 ·have t1 : ((n : Int) == m) = false := beqf (by omega)
  have t2 : ((n : Int) != m) = true := by unfold bne; rw [t1]; rfl
  have HF : Hid (R = false) := Lib.hid (by
   rw [← H.out.2.2.2.2.2]
   refine decide_eq_false (fun e => hnm ?_)
   rw [← H.out.2.2.2.1, ← H.out.2.2.2.2.1, e])
  clear hnm
  go_enter Tryz.func116, Tryz.ntmps116
  go_wp2_with fail
  refine bodyPost_ret (v := .bool false) (by simp [results, Tryz.results116, go_sem, *]) rfl ?_
  exact ⟨by rw [HF.out], Below.refl _ _⟩
set_option maxHeartbeats 8000000 in
set_option maxRecDepth 100000 in
open Classical in
theorem eqf_ars {P Q : Nat → Prop} {w : World} {A B : Option Addr} {a b : Nat} {xs ys : List Ar} {F : FuncId} (hx : RowF arK P w A a xs) (hy : RowF arK Q w B b ys)
  (eg : ∀ args w, (callFunc F args).run Tryz.prog w = .ok (.enter F args) w)
  (hF : ∀ i (hi : i < xs.length) (hj : i < ys.length) u v W, Below w.heap.size w W → ArIs P W xs[i] u → ArIs Q W ys[i] v → Calls Tryz.prog F #[u, v] W fun r w' => r = .returned (.bool (decide (xs[i] = ys[i]))) ∧ Below W.heap.size W w') :
  Calls Tryz.prog 103 #[.slice A xs.length a, .slice B ys.length b, .func (.func F) #[] #[]] w fun r w' => r = .returned (.bool (decide (xs = ys))) ∧ Below w.heap.size w w' := by
 obtain ⟨R, hR⟩ : ∃ F, decide (xs = ys) = F := ⟨_, rfl⟩
 rw [hR]
 have hxm := (hx.2 [] (by simp)).1
 have hym := (hy.2 [] (by simp)).1
 have hxc := hx.1
 have hyc := hy.1
 obtain ⟨n, hn⟩ : ∃ n, xs.length = n := ⟨_, rfl⟩
 obtain ⟨m, hm⟩ : ∃ n, ys.length = n := ⟨_, rfl⟩
 have H := Lib.hid (⟨hx, hy, hF, hn, hm, hR⟩ : _ ∧ _ ∧ _ ∧ _ ∧ _ ∧ _)
 rw [hn] at hxm hxc ⊢
 rw [hm] at hym hyc ⊢
 clear hx hy hn hm hR hF
 by_cases hnm : n = m
 ·subst hnm
  go_enter Tryz.func103, Tryz.ntmps103
  go_wp2_with fail
  go_loopg [17] (n + 1) (fun q s17 wr => ∃ i : Nat, s17 = .int .i64 (i : Nat) ∧ i ≤ n ∧ n - i < q ∧ xs.take i = ys.take i ∧ Below w.heap.size w wr)
  case atStart => exact ⟨0, rfl, Nat.zero_le _, by omega, by simp, Below.refl _ _⟩
  case round =>
   obtain ⟨i, rfl, hin, hiq, htk, hb⟩ := hrel
   obtain ⟨gk, rfl⟩ : ∃ k, gk = k + 1 := ⟨gk - 1, by omega⟩
   by_cases hlt : i < n
   ·have hix : i < xs.length := by rw [H.out.2.2.2.1]; exact hlt
    have hiy : i < ys.length := by rw [H.out.2.2.2.2.1]; exact hlt
    obtain ⟨ad, rfl⟩ := row_ad H.out.1 i hix
    obtain ⟨bd, rfl⟩ := row_ad H.out.2.1 i hiy
    obtain ⟨uA, uc, c0, c1, c2, c3, c4, hux, hul⟩ := ar_some (H.out.1.below hb) i hix
    obtain ⟨vA, vc, d0, d1, d2, d3, d4, hvx, hvl⟩ := ar_some (H.out.2.1.below hb) i hiy
    have HC := Lib.hid (fun W (hW : Below wr.heap.size wr W) => H.out.2.2.1 i hix hiy _ _ W (hb.trans (hW.mono hb.size)) ⟨uA, uc, rfl, hux.below hW⟩ ⟨vA, vc, rfl, hvx.below hW⟩)
    clear hux hvx
    obtain ⟨q, hq⟩ : ∃ q, decide (xs[i] = ys[i]) = q := ⟨_, rfl⟩
    rw [hq] at HC
    have HS := Lib.hid (⟨hix, hiy, hq, htk, hb⟩ : ∃ (h1 : i < xs.length) (h2 : i < ys.length), decide (xs[i] = ys[i]) = q ∧ xs.take i = ys.take i ∧ Below w.heap.size w wr)
    obtain ⟨x, hxx⟩ : ∃ x, xs[i] = x := ⟨_, rfl⟩
    obtain ⟨y, hyy⟩ : ∃ x, ys[i] = x := ⟨_, rfl⟩
    rw [hxx] at HC c0 c1 c2 c3 c4
    rw [hyy] at HC d0 d1 d2 d3 d4
    have hz : (i : Int) < n := by omega
    have hz0 : (0 : Int) ≤ i := by omega
    clear htk hb hxx hyy hq hix hiy
    go_wp2_with fail
    obtain ⟨w2, hw2, hb2, _⟩ := two_box (w := wr) (cs := #[.string x.name, .int .i64 x.e.op, .int .i64 x.e.n, .string x.e.name, .slice uA x.e.kids.length uc]) (ds := #[.string y.name, .int .i64 y.e.op, .int .i64 y.e.n, .string y.e.name, .slice vA y.e.kids.length vc]) (t := 75) (u := 75)
    rw [hw2]
    refine (HC.out w2 hb2).mono ?_
    rintro r w3 ⟨rfl, hb3⟩
    have HB3 := Lib.hid (hb2.trans (hb3.mono hb2.size))
    clear hw2 hb2 hb3 c0 c1 c2 c3 c4 d0 d1 d2 d3 d4
    cases q
    ·have HF : Hid (R = false) := Lib.hid (by
      obtain ⟨h1, h2, h3, _⟩ := HS.out
      rw [← H.out.2.2.2.2.2]
      exact decide_eq_false (ne_at h1 h2 (of_decide_eq_false h3)))
     have HB : Hid (Below w.heap.size w w3) := Lib.hid (by obtain ⟨_, _, _, _, h5⟩ := HS.out; exact h5.trans (HB3.out.mono h5.size))
     go_wp2_with fail
     refine bodyPost_ret (v := .bool false) (by simp [results, Tryz.results103, go_sem, *]) rfl ?_
     exact ⟨by rw [HF.out], HB.out⟩
    ·go_wp2_with fail
     go_roundg gk
     case measure => omega
     case rel =>
      obtain ⟨h1, h2, h3, h4, h5⟩ := HS.out
      exact ⟨i + 1, by go_num, by omega, by omega, take_next h1 h2 h4 (of_decide_eq_true h3), h5.trans (HB3.out.mono h5.size)⟩
   ·obtain rfl : i = n := by omega
    have HF : Hid (R = true) := Lib.hid (by
     rw [← H.out.2.2.2.2.2]
     exact decide_eq_true (take_eq H.out.2.2.2.1 H.out.2.2.2.2.1 htk rfl))
    have HB := Lib.hid hb
    clear hb htk
    go_wp2_with fail
    refine bodyPost_ret (v := .bool true) (by simp [results, Tryz.results103, go_sem, *]) rfl ?_
    exact ⟨by rw [HF.out], HB.out⟩
 ·have t1 : ((n : Int) == m) = false := beqf (by omega)
  have t2 : ((n : Int) != m) = true := by unfold bne; rw [t1]; rfl
  have HF : Hid (R = false) := Lib.hid (by
   rw [← H.out.2.2.2.2.2]
   refine decide_eq_false (fun e => hnm ?_)
   rw [← H.out.2.2.2.1, ← H.out.2.2.2.2.1, e])
  clear hnm
  go_enter Tryz.func103, Tryz.ntmps103
  go_wp2_with fail
  refine bodyPost_ret (v := .bool false) (by simp [results, Tryz.results103, go_sem, *]) rfl ?_
  exact ⟨by rw [HF.out], Below.refl _ _⟩
set_option maxHeartbeats 8000000 in
set_option maxRecDepth 100000 in
open Classical in
theorem eqf_nds {P Q : Nat → Prop} {w : World} {A B : Option Addr} {a b : Nat} {xs ys : List Nd} {F : FuncId} (hx : RowF ndK P w A a xs) (hy : RowF ndK Q w B b ys)
  (eg : ∀ args w, (callFunc F args).run Tryz.prog w = .ok (.enter F args) w)
  (hF : ∀ i (hi : i < xs.length) (hj : i < ys.length) u v W, Below w.heap.size w W → NdIs P W xs[i] u → NdIs Q W ys[i] v → Calls Tryz.prog F #[u, v] W fun r w' => r = .returned (.bool (decide (xs[i] = ys[i]))) ∧ Below W.heap.size W w') :
  Calls Tryz.prog 70 #[.slice A xs.length a, .slice B ys.length b, .func (.func F) #[] #[]] w fun r w' => r = .returned (.bool (decide (xs = ys))) ∧ Below w.heap.size w w' := by
 obtain ⟨R, hR⟩ : ∃ F, decide (xs = ys) = F := ⟨_, rfl⟩
 rw [hR]
 have hxm := (hx.2 [] (by simp)).1
 have hym := (hy.2 [] (by simp)).1
 have hxc := hx.1
 have hyc := hy.1
 obtain ⟨n, hn⟩ : ∃ n, xs.length = n := ⟨_, rfl⟩
 obtain ⟨m, hm⟩ : ∃ n, ys.length = n := ⟨_, rfl⟩
 have H := Lib.hid (⟨hx, hy, hF, hn, hm, hR⟩ : _ ∧ _ ∧ _ ∧ _ ∧ _ ∧ _)
 rw [hn] at hxm hxc ⊢
 rw [hm] at hym hyc ⊢
 clear hx hy hn hm hR hF
 by_cases hnm : n = m
 ·subst hnm
  go_enter Tryz.func70, Tryz.ntmps70
  go_wp2_with fail
  go_loopg [17] (n + 1) (fun q s17 wr => ∃ i : Nat, s17 = .int .i64 (i : Nat) ∧ i ≤ n ∧ n - i < q ∧ xs.take i = ys.take i ∧ Below w.heap.size w wr)
  case atStart => exact ⟨0, rfl, Nat.zero_le _, by omega, by simp, Below.refl _ _⟩
  case round =>
   obtain ⟨i, rfl, hin, hiq, htk, hb⟩ := hrel
   obtain ⟨gk, rfl⟩ : ∃ k, gk = k + 1 := ⟨gk - 1, by omega⟩
   by_cases hlt : i < n
   ·have hix : i < xs.length := by rw [H.out.2.2.2.1]; exact hlt
    have hiy : i < ys.length := by rw [H.out.2.2.2.2.1]; exact hlt
    obtain ⟨ad, rfl⟩ := row_ad H.out.1 i hix
    obtain ⟨bd, rfl⟩ := row_ad H.out.2.1 i hiy
    obtain ⟨ukA, ukc, uuA, uuc, ugA, ugc, ueA, uec, ⟨c0, c1, c2, c3, c4, c5, c6, c7, c8⟩, hu1, hu2, hu3, hu4, hul⟩ := nd_some (H.out.1.below hb) i hix
    obtain ⟨vkA, vkc, vuA, vuc, vgA, vgc, veA, vec, ⟨d0, d1, d2, d3, d4, d5, d6, d7, d8⟩, hv1, hv2, hv3, hv4, hvl⟩ := nd_some (H.out.2.1.below hb) i hiy
    have HC := Lib.hid (fun W (hW : Below wr.heap.size wr W) => H.out.2.2.1 i hix hiy _ _ W (hb.trans (hW.mono hb.size)) ⟨_, _, _, _, _, _, _, _, rfl, NdF.below ⟨hu1, hu2, hu3, hu4⟩ hW⟩ ⟨_, _, _, _, _, _, _, _, rfl, NdF.below ⟨hv1, hv2, hv3, hv4⟩ hW⟩)
    clear hu1 hu2 hu3 hu4 hv1 hv2 hv3 hv4
    obtain ⟨q, hq⟩ : ∃ q, decide (xs[i] = ys[i]) = q := ⟨_, rfl⟩
    rw [hq] at HC
    have HS := Lib.hid (⟨hix, hiy, hq, htk, hb⟩ : ∃ (h1 : i < xs.length) (h2 : i < ys.length), decide (xs[i] = ys[i]) = q ∧ xs.take i = ys.take i ∧ Below w.heap.size w wr)
    obtain ⟨x, hxx⟩ : ∃ x, xs[i] = x := ⟨_, rfl⟩
    obtain ⟨y, hyy⟩ : ∃ x, ys[i] = x := ⟨_, rfl⟩
    rw [hxx] at HC c0 c1 c2 c3 c4 c5 c6 c7 c8
    rw [hyy] at HC d0 d1 d2 d3 d4 d5 d6 d7 d8
    have hz : (i : Int) < n := by omega
    have hz0 : (0 : Int) ≤ i := by omega
    clear htk hb hxx hyy hq hix hiy
    go_wp2_with fail
    obtain ⟨w2, hw2, hb2, _⟩ := two_box (w := wr) (cs := #[.int .i64 x.kind, .slice ukA x.kids.length ukc, .slice uuA x.units.length uuc, .string x.name, .slice ugA x.args.length ugc, .int .i64 x.e.op, .int .i64 x.e.n, .string x.e.name, .slice ueA x.e.kids.length uec]) (ds := #[.int .i64 y.kind, .slice vkA y.kids.length vkc, .slice vuA y.units.length vuc, .string y.name, .slice vgA y.args.length vgc, .int .i64 y.e.op, .int .i64 y.e.n, .string y.e.name, .slice veA y.e.kids.length vec]) (t := 43) (u := 43)
    rw [hw2]
    refine (HC.out w2 hb2).mono ?_
    rintro r w3 ⟨rfl, hb3⟩
    have HB3 := Lib.hid (hb2.trans (hb3.mono hb2.size))
    clear hw2 hb2 hb3 c0 c1 c2 c3 c4 c5 c6 c7 c8 d0 d1 d2 d3 d4 d5 d6 d7 d8
    cases q
    ·have HF : Hid (R = false) := Lib.hid (by
      obtain ⟨h1, h2, h3, _⟩ := HS.out
      rw [← H.out.2.2.2.2.2]
      exact decide_eq_false (ne_at h1 h2 (of_decide_eq_false h3)))
     have HB : Hid (Below w.heap.size w w3) := Lib.hid (by obtain ⟨_, _, _, _, h5⟩ := HS.out; exact h5.trans (HB3.out.mono h5.size))
     go_wp2_with fail
     refine bodyPost_ret (v := .bool false) (by simp [results, Tryz.results70, go_sem, *]) rfl ?_
     exact ⟨by rw [HF.out], HB.out⟩
    ·go_wp2_with fail
     go_roundg gk
     case measure => omega
     case rel =>
      obtain ⟨h1, h2, h3, h4, h5⟩ := HS.out
      exact ⟨i + 1, by go_num, by omega, by omega, take_next h1 h2 h4 (of_decide_eq_true h3), h5.trans (HB3.out.mono h5.size)⟩
   ·obtain rfl : i = n := by omega
    have HF : Hid (R = true) := Lib.hid (by
     rw [← H.out.2.2.2.2.2]
     exact decide_eq_true (take_eq H.out.2.2.2.1 H.out.2.2.2.2.1 htk rfl))
    have HB := Lib.hid hb
    clear hb htk
    go_wp2_with fail
    refine bodyPost_ret (v := .bool true) (by simp [results, Tryz.results70, go_sem, *]) rfl ?_
    exact ⟨by rw [HF.out], HB.out⟩
 ·have t1 : ((n : Int) == m) = false := beqf (by omega)
  have t2 : ((n : Int) != m) = true := by unfold bne; rw [t1]; rfl
  have HF : Hid (R = false) := Lib.hid (by
   rw [← H.out.2.2.2.2.2]
   refine decide_eq_false (fun e => hnm ?_)
   rw [← H.out.2.2.2.1, ← H.out.2.2.2.2.1, e])
  clear hnm
  go_enter Tryz.func70, Tryz.ntmps70
  go_wp2_with fail
  refine bodyPost_ret (v := .bool false) (by simp [results, Tryz.results70, go_sem, *]) rfl ?_
  exact ⟨by rw [HF.out], Below.refl _ _⟩
end Go.Proofs.YtgcfjkfipkfijaaGreatDoor
namespace Go.Proofs.YtgcfjkfipkfijaaGreatDoor
open Go Go.RowKit Go.Lib
theorem blk4a {w : World} {k : Nat} {v0 v1 v2 v3 : Value} {t : TypeId} (h : w.heap[k]? = some (.cells #[v0, v1, v2, v3] t (0, 0))) :
  w.cell? ⟨k, 0, none⟩ = some v0 ∧ w.cell? ⟨k, 1, none⟩ = some v1 ∧ w.cell? ⟨k, 2, none⟩ = some v2 ∧ w.cell? ⟨k, 3, none⟩ = some v3 := ⟨blk_cell h 0, blk_cell h 1, blk_cell h 2, blk_cell h 3⟩
theorem str_ne {x y : ByteArray} (h : x ≠ y) : (x.data.toList == y.data.toList) = false ∧ (x.toList == y.toList) = false := by
 rw [Lib.toList_data, Lib.toList_data, and_self, beq_eq_false_iff_ne]
 exact fun e => h (ByteArray.ext (Array.toList_inj.1 e))
theorem bne_of {α : Type} [BEq α] {a b : α} (h : (a == b) = false) : (a != b) = true := by unfold bne; rw [h]; rfl
theorem enters_equal (args : Array Value) (W : World) : (callFunc 100 args).run Tryz.prog W = .ok (.enter 100 args) W := enters_of Tryz.func100 (by kernel_rfl) rfl args W
set_option maxHeartbeats 8000000 in
set_option maxRecDepth 100000 in
open Classical in
theorem equal_step {P Q : Nat → Prop} (o n : Int) (nm : ByteArray) (ks : List Ex) (o' n' : Int) (nm' : ByteArray) (ks' : List Ex) (A : Option Addr) (c : Nat) (B : Option Addr) (d : Nat) (w : World) (ha : ExF P w (.mk o n nm ks) A c) (hb : ExF Q w (.mk o' n' nm' ks') B d)
  (ih : ∀ i (hi : i < ks.length) (hj : i < ks'.length) A' c' B' d' W, ExF P W ks[i] A' c' → ExF Q W ks'[i] B' d' → Calls Tryz.prog 100 #[exV ks[i] A' c', exV ks'[i] B' d'] W fun r w' => r = .returned (.bool (decide (ks[i] = ks'[i]))) ∧ Below W.heap.size W w') :
  Calls Tryz.prog 100 #[.agg #[.int .i64 o, .int .i64 n, .string nm, .slice A ks.length c], .agg #[.int .i64 o', .int .i64 n', .string nm', .slice B ks'.length d]] w fun r w' => r = .returned (.bool (decide (Ex.mk o n nm ks = .mk o' n' nm' ks'))) ∧ Below w.heap.size w w' := by
 have hra : RowF exK P w A c ks := ⟨ha.1, ha.2⟩
 have hrb : RowF exK Q w B d ks' := ⟨hb.1, hb.2⟩
 have HE : Hid (∀ W, Below w.heap.size w W → Calls Tryz.prog 116 #[.slice A ks.length c, .slice B ks'.length d, .func (.func 100) #[] #[]] W fun r w' => r = .returned (.bool (decide (ks = ks'))) ∧ Below W.heap.size W w') :=
  Lib.hid (fun W hW => eqf_exs (hra.below hW) (hrb.below hW) enters_equal (fun i hi hj u v W' hW' hu hv => by
   obtain ⟨A', c', rfl, hx⟩ := hu
   obtain ⟨B', d', rfl, hy⟩ := hv
   exact ih i hi hj A' c' B' d' W' hx hy))
 obtain ⟨q, hq⟩ : ∃ q, decide (ks = ks') = q := ⟨_, rfl⟩
 rw [hq] at HE
 obtain ⟨R, hR⟩ : ∃ q, decide (Ex.mk o n nm ks = .mk o' n' nm' ks') = q := ⟨_, rfl⟩
 rw [hR]
 obtain ⟨w0, hw0⟩ : ∃ w0, (w.alloc (.cells #[.int .i64 o, .int .i64 n, .string nm, .slice A ks.length c] 41)).alloc (.cells #[.int .i64 o', .int .i64 n', .string nm', .slice B ks'.length d] 41) = w0 := ⟨_, rfl⟩
 have hal : Below w.heap.size w w0 := hw0 ▸ ((Below.refl _ _).alloc (Nat.le_refl _) _).alloc (by simp) _
 have hx : w0.heap[w.heap.size]? = some (.cells #[.int .i64 o, .int .i64 n, .string nm, .slice A ks.length c] 41 (0, 0)) := hw0 ▸ (Below.heap_alloc _ _ _ (by simp)).trans (heap_alloc_new _ _)
 have hy : w0.heap[w.heap.size + 1]? = some (.cells #[.int .i64 o', .int .i64 n', .string nm', .slice B ks'.length d] 41 (0, 0)) := by
  have h := heap_alloc_new (w.alloc (.cells #[.int .i64 o, .int .i64 n, .string nm, .slice A ks.length c] 41)) (.cells #[.int .i64 o', .int .i64 n', .string nm', .slice B ks'.length d] 41)
  rw [hw0] at h
  simpa using h
 obtain ⟨x0, x1, x2, x3⟩ := blk4a hx
 obtain ⟨y0, y1, y2, y3⟩ := blk4a hy
 have hlx := blk_lt hx
 have hly := blk_lt hy
 have HW0 := Lib.hid hw0
 have HAL := Lib.hid hal
 have HR := Lib.hid (⟨hq, hR⟩ : _ ∧ _)
 clear ha hb ih hra hrb hx hy hw0 hal hq hR
 by_cases he : o = o' ∧ n = n' ∧ nm = nm'
 ·obtain ⟨rfl, rfl, rfl⟩ := he
  have HQ : Hid (R = q) := Lib.hid (by rw [← HR.out.1, ← HR.out.2]; simp)
  go_enter Tryz.func100, Tryz.ntmps100
  go_wp2_with fail
  rw [HW0.out]
  refine (HE.out _ HAL.out).mono ?_
  rintro r w5 ⟨rfl, hb5⟩
  have HB5 := Lib.hid (HAL.out.trans (hb5.mono HAL.out.size))
  clear hb5
  go_wp2_with fail
  go_ret
  exact ⟨by rw [HQ.out]; rfl, HB5.out⟩
 ·have HQ : Hid (R = false) := Lib.hid (by rw [← HR.out.2]; exact decide_eq_false (fun e => he (by injection e with e1 e2 e3; exact ⟨e1, e2, e3⟩)))
  have key : (o == o') = false ∨ o = o' ∧ ((n == n') = false ∨ n = n' ∧ ((nm.data.toList == nm'.data.toList) = false ∧ (nm.toList == nm'.toList) = false)) := by
   by_cases e1 : o = o'
   ·refine .inr ⟨e1, ?_⟩
    by_cases e2 : n = n'
    ·exact .inr ⟨e2, str_ne (fun e3 => he ⟨e1, e2, e3⟩)⟩
    ·exact .inl (beqf e2)
   ·exact .inl (beqf e1)
  rcases key with t1 | ⟨rfl, t1 | ⟨rfl, t1, t3⟩⟩
  all_goals
   clear he
   go_enter Tryz.func100, Tryz.ntmps100
   go_wp2_with fail
   rw [HW0.out]
   go_ret
   exact ⟨by rw [HQ.out]; rfl, HAL.out⟩
open Classical in
theorem equal_any' (N : Nat) : ∀ {P Q : Nat → Prop} (e f : Ex) (A : Option Addr) (c : Nat) (B : Option Addr) (d : Nat) (w : World), SizeOf.sizeOf e < N → ExF P w e A c → ExF Q w f B d →
  Calls Tryz.prog 100 #[exV e A c, exV f B d] w fun r w' => r = .returned (.bool (decide (e = f))) ∧ Below w.heap.size w w' := by
 induction N with
 | zero => intro P Q e f A c B d w h; omega
 | succ N ih =>
  intro P Q e f A c B d w hN ha hb
  obtain ⟨o, n, nm, ks⟩ := e
  obtain ⟨o', n', nm', ks'⟩ := f
  refine equal_step o n nm ks o' n' nm' ks' A c B d w ha hb (fun i hi hj A' c' B' d' W h1 h2 => ih _ _ A' c' B' d' W ?_ h1 h2)
  have h1 : SizeOf.sizeOf ks[i] < SizeOf.sizeOf ks := List.sizeOf_lt_of_mem (List.getElem_mem hi)
  simp at hN
  omega
open Classical in
theorem equal_any {P Q : Nat → Prop} (e f : Ex) (A : Option Addr) (c : Nat) (B : Option Addr) (d : Nat) (w : World) (ha : ExF P w e A c) (hb : ExF Q w f B d) :
  Calls Tryz.prog 100 #[exV e A c, exV f B d] w fun r w' => r = .returned (.bool (decide (e = f))) ∧ Below w.heap.size w w' := equal_any' _ e f A c B d w (Nat.lt_succ_self _) ha hb
end Go.Proofs.YtgcfjkfipkfijaaGreatDoor
