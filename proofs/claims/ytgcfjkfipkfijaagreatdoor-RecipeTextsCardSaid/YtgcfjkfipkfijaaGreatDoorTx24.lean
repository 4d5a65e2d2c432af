/- Part 24 of the proof of rtexts_card; no conditions. -/
import Derived.Test.YtgcfjkfipkfijaaGreatDoorTx23
import Derived.OwnWalk
import Derived.Deep.AppendLies
import Derived.BigQuiet
namespace Go.Proofs.YtgcfjkfipkfijaaGreatDoor
open Go Go.RowKit Go.Lib
def intK : Kind Int := Kind.int .i64
def intE (x : Int) : List Value := [.int .i64 x]
theorem intE_rep (M : List Nat) (w : World) (x : Int) : intK.rep M w x (intE x) := rfl
theorem intE_len (x : Int) : (intE x).length = intK.sz := rfl
theorem info_int : (Tryz.prog.info? 3).map (fun i => (i.zero, i.size, i.bytes)) = some (some (.int .i64 0), 1, 8) := by kernel_rfl
theorem int_at {M : List Nat} {w : World} {A : Option Addr} {ks : List Int} (h : intK.Row M w A ks) (k : Nat) (hk : k < ks.length) : ∃ ad, A = some ad ∧ w.cell? (ad.add k) = some (.int .i64 ks[k]) := by
 obtain ⟨ad, cs, e, _, hr, hc⟩ := h.at_ k hk
 have hr' : cs = [.int .i64 ks[k]] := hr
 subst hr'
 have := hc 0 _ rfl
 rw [show k * intK.sz + 0 = k by show k * 1 + 0 = k; omega] at this
 exact ⟨ad, e, this⟩
theorem blk3 {w : World} {k : Nat} {v0 v1 v2 : Value} {t : TypeId} (h : w.heap[k]? = some (.cells #[v0, v1, v2] t (0, 0))) :
  (w.cell? ⟨k, 0, none⟩ = some v0 ∧ w.cell? ⟨k, 1, none⟩ = some v1 ∧ w.cell? ⟨k, 2, none⟩ = some v2) ∧ w.frozen? ⟨k, 0, none⟩ = false ∧ w.frozen? ⟨k, 1, none⟩ = false ∧ w.frozen? ⟨k, 2, none⟩ = false :=
 ⟨⟨blk_cell h 0, blk_cell h 1, blk_cell h 2⟩, blk_frozen h 0, blk_frozen h 1, blk_frozen h 2⟩
abbrev TxB (w : World) (k : Nat) (s : ByteArray) (r a : Value) : Prop := w.heap[k]? = some (.cells #[.string s, r, a] 99 (0, 0))
abbrev OwnI (w : World) (base : Nat) (v : Value) (l : List Int) : Prop := w.ownsRow base 3 1 v l.length (l.flatMap intE)
def RunPost (s : ByteArray) (w : World) (r : Ending) (w' : World) : Prop := ∃ (R Z : List Int) (A : Option Addr) (a : Nat) (B : Option Addr) (b : Nat) (ok : Bool),
 R = rowsF (runes s.data.toList) 0 ∧ Z = rowsA (runes s.data.toList) 0 ∧ ok = rowsOk (runes s.data.toList) ∧
 r = .returned (.tuple #[.agg #[.string s, .slice A R.length a, .slice B Z.length b], .bool ok]) ∧ R.length ≤ a ∧ Z.length ≤ b ∧ intK.Row [] w' A R ∧ intK.Row [] w' B Z ∧ Below w.heap.size w w'
structure RunAt (s : ByteArray) (pos : Nat) (R Z : List Int) : Prop where
 at_ : pos ≤ s.size
 len : R.length ≤ pos
 same : Z.length = R.length
 row : rowsF (runes s.data.toList) 0 = R ++ rowsF (runes (s.data.toList.drop pos)) pos
 places : rowsA (runes s.data.toList) 0 = Z ++ rowsA (runes (s.data.toList.drop pos)) pos
 ok : rowsOk (runes s.data.toList) = rowsOk (runes (s.data.toList.drop pos))
theorem RunAt.step {s : ByteArray} {pos : Nat} {R Z : List Int} (h : RunAt s pos R Z) (hp : pos < s.size) (hb : Utf8.decode s pos ≠ (65533, 1)) :
  RunAt s (pos + (Utf8.decode s pos).2) (R ++ [((Utf8.decode s pos).1 : Int)]) (Z ++ [(pos : Int)]) := by
 have hr := runes_at s pos hp
 have hw := Lib.decode_width_pos s pos hp
 have hf := decode_fits s pos hp
 obtain ⟨h1, h2, h3, h4, h5, h6⟩ := h
 rw [hr] at h4 h5 h6
 rw [rowsF, if_neg hb] at h4
 rw [rowsA, if_neg hb] at h5
 rw [rowsOk, if_neg hb] at h6
 refine ⟨hf, ?_, ?_, ?_, ?_, h6⟩
 ·rw [List.length_append, List.length_singleton]; omega
 ·rw [List.length_append, List.length_append, List.length_singleton, List.length_singleton, h3]
 ·rw [h4, List.append_assoc]; rfl
 ·rw [h5, List.append_assoc]; rfl
theorem own_row {w : World} {base : Nat} {v : Value} {l : List Int} (h : OwnI w base v l) : ∃ A c, v = .slice A l.length c ∧ l.length ≤ c ∧ intK.Row [] w A l :=
 row_of_own (d := intK) (enc := intE) intE_len h (M := []) (fun k hk => by simp at hk) (fun x _ => intE_rep _ _ x)
theorem runP {s : ByteArray} {w w' : World} {A B : Option Addr} {a b base : Nat} {R Z : List Int} {ok : Bool} (hR : R = rowsF (runes s.data.toList) 0) (hZ : Z = rowsA (runes s.data.toList) 0) (hk : ok = rowsOk (runes s.data.toList))
  (h1 : OwnI w' base (.slice A R.length a) R) (h2 : OwnI w' base (.slice B Z.length b) Z) (hb : Below w.heap.size w w') : RunPost s w (.returned (.tuple #[.agg #[.string s, .slice A R.length a, .slice B Z.length b], .bool ok])) w' := by
 obtain ⟨A', a', e1, l1, r1⟩ := own_row h1
 obtain ⟨B', b', e2, l2, r2⟩ := own_row h2
 injection e1 with e1 _ e3
 injection e2 with e2 _ e4
 subst e1 e2 e3 e4
 exact ⟨R, Z, A, a, B, b, ok, hR, hZ, hk, rfl, l1, l2, r1, r2, hb⟩
def Apart (r z : Value) : Prop := z.ownBlock = none ∨ z.ownBlock ≠ r.ownBlock
theorem apart_swap {g : Nat} {n c : Nat} {v z : Value} {w : World} {base m : Nat} {xs : List Value} (h : Apart v z) (hz : w.ownsRow base 3 1 z m xs) (hat : v.ownBlock = some g ∨ g = w.heap.size + 1) : Apart z (.slice (some ⟨g, 0, none⟩) n c) := by
 right
 show some g ≠ z.ownBlock
 rcases hat with e | e
 ·rw [← e]
  rcases h with h | h
  ·rw [e, h]; simp
  ·exact fun e => h e.symm
 ·intro e2
  have := (own_block hz g e2.symm).2
  omega
theorem own_set3 {w : World} {base P n : Nat} {v : Value} {xs : List Value} (h : w.ownsRow base 3 1 v n xs) (hP : P < base) (a b c : Value) : (((w.setCell ⟨P, 0, none⟩ a).setCell ⟨P, 1, none⟩ b).setCell ⟨P, 2, none⟩ c).ownsRow base 3 1 v n xs := by
 have hne : v.ownBlock ≠ some P := fun e => by have := (own_block h P e).1; omega
 exact own_set (own_set (own_set h (p := ⟨P, 0, none⟩) hne a) (p := ⟨P, 1, none⟩) hne b) (p := ⟨P, 2, none⟩) hne c
theorem below_set3 {B P : Nat} {w W : World} (h : Below B w W) (hP : B ≤ P) (a b c : Value) : Below B w (((W.setCell ⟨P, 0, none⟩ a).setCell ⟨P, 1, none⟩ b).setCell ⟨P, 2, none⟩ c) :=
 ((h.setCell hP a).setCell hP b).setCell hP c
theorem far_block {w w' : World} {base n k : Nat} {v : Value} {xs : List Value} {o : Obj} {ob : Obj} (h : w.ownsRow base 3 1 v n xs) (hg : (w.alloc o).grownBy w' v.ownBlock) (hk : w.heap[k]? = some ob) (hb : k < base) : w'.heap[k]? = some ob := by
 have hne : some k ≠ v.ownBlock := fun e => by have := (own_block h k e.symm).1; omega
 have hl : k < w.heap.size := blk_lt hk
 exact (hg.block k (by simp; omega) hne).trans ((((Below.refl w.heap.size w).alloc (Nat.le_refl _) o).block k hl).trans hk)
set_option maxHeartbeats 8000000 in
set_option maxRecDepth 100000 in
theorem xrunes_any (s : ByteArray) (w : World) (hs : s.size ≤ 17592186044400) : Calls Tryz.prog 57 #[.string s] w (RunPost s w) := by
 have hsz : (s.size : Int) ≤ 17592186044400 := by omega
 obtain ⟨w0, hw0⟩ : ∃ w', w.alloc (.cells #[.string ⟨#[]⟩, .slice none 0 0, .slice none 0 0] 99 (0, 0)) = w' := ⟨_, rfl⟩
 have hal : Below w.heap.size w w0 := hw0 ▸ (Below.refl _ _).alloc (Nat.le_refl _) _
 have hq : TxB w0 w.heap.size ⟨#[]⟩ (.slice none 0 0) (.slice none 0 0) := hw0 ▸ heap_alloc_new _ _
 obtain ⟨P, hP⟩ : ∃ P, w.heap.size = P := ⟨_, rfl⟩
 obtain ⟨w1, hw1⟩ : ∃ w', w0.alloc (.cells #[.string s, .slice none 0 0, .slice none 0 0] 99 (0, 0)) = w' := ⟨_, rfl⟩
 have hb1 : Below w0.heap.size w0 w1 := hw1 ▸ (Below.refl _ _).alloc (Nat.le_refl _) _
 have hq1 : TxB w1 w0.heap.size s (.slice none 0 0) (.slice none 0 0) := hw1 ▸ heap_alloc_new _ _
 obtain ⟨G, hG⟩ : ∃ G, w0.heap.size = G := ⟨_, rfl⟩
 have HPG : Hid (P < G) := Lib.hid (by rw [← hP, ← hG]; exact blk_lt hq)
 have HP1 : Hid (TxB w1 P ⟨#[]⟩ (.slice none 0 0) (.slice none 0 0)) := Lib.hid (by rw [← hP]; exact (hb1.block _ (blk_lt hq)).trans hq)
 have HG1 : Hid (TxB w1 G s (.slice none 0 0) (.slice none 0 0)) := Lib.hid (by rw [← hG]; exact hq1)
 have HB1 : Hid (Below P w w1) := Lib.hid (by rw [← hP]; exact hal.trans (hb1.mono hal.size))
 have HW := Lib.hid hP
 have HW1 := Lib.hid hw1
 have HWG := Lib.hid hG
 have HR0 : Hid (RunAt s 0 [] []) := Lib.hid ⟨by omega, by simp, rfl, by simp, by simp, by simp⟩
 clear hal hq hb1 hq1 hw1
 go_enter Tryz.func57, Tryz.ntmps57
 go_wp2_with fail
 rw [HW1.out]
 clear hw0 hG hP
 go_loopg [5] (s.size + 1) (fun k s5 w' => ∃ (pos : Nat) (R Z : List Int) (A : Option Addr) (a : Nat) (B : Option Addr) (b : Nat), s5 = .int .i64 pos ∧ s.size - pos < k ∧
  TxB w' G s (.slice A R.length a) (.slice B Z.length b) ∧ TxB w' P ⟨#[]⟩ (.slice none 0 0) (.slice none 0 0) ∧ OwnI w' (G + 1) (.slice A R.length a) R ∧ OwnI w' (G + 1) (.slice B Z.length b) Z ∧
  Apart (.slice A R.length a) (.slice B Z.length b) ∧ RunAt s pos R Z ∧ Below P w w')
 case atStart => exact ⟨0, [], [], none, 0, none, 0, rfl, by omega, HG1.out, HP1.out, ⟨rfl, .inl ⟨rfl, rfl⟩⟩, ⟨rfl, .inl ⟨rfl, rfl⟩⟩, .inl rfl, HR0.out, HB1.out⟩
 case round =>
  obtain ⟨pos, R, Z, A, a, B, b, rfl, hk, hg, hpz, ho1, ho2, hap, hra, hbl⟩ := hrel
  obtain ⟨gk, rfl⟩ : ∃ k, gk = k + 1 := ⟨gk - 1, by omega⟩
  have HGr := Lib.hid hg
  have HPr := Lib.hid hpz
  have HO1 := Lib.hid ho1
  have HO2 := Lib.hid ho2
  have HAP := Lib.hid hap
  have HRA := Lib.hid hra
  have HBL := Lib.hid hbl
  have hat := hra.at_
  have hlen := hra.len
  have hzl : Z.length ≤ pos := by have := hra.same; have := hra.len; omega
  have hpos0 : (0 : Int) ≤ pos := by omega
  clear HG1 HP1 HR0 HB1 ho1 ho2 hap hra hbl
  by_cases hp : pos < s.size
  ·have hpz' : (pos : Int) < s.size := by omega
   have hwd := Lib.decode_width_pos s pos hp
   have hfit := decode_fits s pos hp
   have hle := decode_le' s pos
   obtain ⟨⟨x0, x1, x2⟩, fg⟩ := blk3 hg
   obtain ⟨⟨y0, y1, y2⟩, g0, g1, g2⟩ := blk3 hpz
   have hlG := blk_lt hg
   have hlP := blk_lt hpz
   clear hg hpz
   have HRU := Lib.hid (xrune_any s pos wr hp (by omega))
   by_cases hbad : Utf8.decode s pos = (65533, 1)
   ·have HX : Hid (false = rowsOk (runes s.data.toList) ∧ R = rowsF (runes s.data.toList) 0 ∧ Z = rowsA (runes s.data.toList) 0) := Lib.hid (by
     have h := HRA.out
     obtain ⟨_, _, _, h4, h5, h6⟩ := h
     rw [runes_at s pos hp] at h4 h5 h6
     rw [rowsF, if_pos hbad, List.append_nil] at h4
     rw [rowsA, if_pos hbad, List.append_nil] at h5
     rw [rowsOk, if_pos hbad] at h6
     exact ⟨h6.symm, h4.symm, h5.symm⟩)
    rw [hbad, rune1_bad] at HRU
    clear hbad hwd hfit hle
    go_wp2_with fail
    refine HRU.out.mono ?_
    rintro r w2 ⟨rfl, rfl⟩
    go_wp2
    refine bodyPost_ret (v := .tuple #[.agg #[.string s, .slice A R.length a, .slice B Z.length b], .bool false]) (by simp [results, Tryz.results57, go_sem, *]) rfl ?_
    obtain ⟨e1, e2, e3⟩ := HX.out
    have hPG := HPG.out
    exact runP e2 e3 e1 (own_set3 HO1.out (by omega) _ _ _) (own_set3 HO2.out (by omega) _ _ _) (by rw [HW.out]; exact below_set3 HBL.out (Nat.le_refl _) _ _ _)
   ·have HST := Lib.hid (HRA.out.step hp hbad)
    obtain ⟨r, n, hd⟩ : ∃ r n, Utf8.decode s pos = (r, n) := ⟨_, _, rfl⟩
    rw [hd] at HRU HST hwd hfit hle hbad
    rw [rune1_ok (fun e => hbad (by rw [e.1, e.2]))] at HRU
    have hnb : ((n : Int) == 0) = false := beqf (by simp at hwd; omega)
    simp only at hwd hfit hle
    have hPG := HPG.out
    obtain ⟨i0, hi0, hz0, hz1, hz2⟩ := info_parts info_int
    clear hd hbad
    go_wp2_with fail
    refine HRU.out.mono ?_
    rintro e w2 ⟨rfl, rfl⟩
    go_wp2_with (at_builtin; refine wpList_append_lies _ (by rfl) _ _ _ (by rfl) (G + 1) 3 i0 _ 1 8 Tryz.underlying36 hi0 hz0 hz1 hz2 rfl (by omega) (.slice A R.length a) R.length (R.flatMap intE) (by rfl) (HO1.out.alloc _) ⟨w2.heap.size, 0, none⟩ 1 1 [.int .i64 r] (by rfl) (by rfl) (World.news_of_block (cs := #[.int .i64 r]) (t := 3) (fr := (0, 0)) (heap_alloc_new w2 _)) (by simp [Value.oneCell']) (by omega) (by unfold maxLen; omega) (by omega) (by simp; omega) (w2.heap.size + 1) (by simp) ?_; intro g cap w3 hown3 hgrow hat3 hlt3; refine Hid.out ?_)
    refine Lib.hid ?_
    have hg3 := far_block HO1.out hgrow HGr.out (Nat.lt_succ_self G)
    have hp3 := far_block HO1.out hgrow HPr.out (by omega)
    have ho3 : w3.ownsRow (G + 1) 3 1 (.slice B Z.length b) Z.length (Z.flatMap intE) := (HO2.out.alloc _).kept hgrow HAP.out
    have hap3 := apart_swap (n := R.length + 1) (c := cap) HAP.out HO2.out hat3
    have hb3 : Below P w w3 := ((Same.of_below (M := []) (by rw [HW.out]; exact HBL.out)).alloc _ |>.grown hgrow (fun k hk => .inr (by have := (own_block HO1.out k hk).1; have := HW.out; omega))).below.mono (by rw [HW.out]; exact Nat.le_refl _)
    clear x0 x1 x2 y0 y1 y2 fg g0 g1 g2 hlG hlP
    obtain ⟨⟨x0, x1, x2⟩, f0, f1, f2⟩ := blk3 hg3
    have hlG := blk_lt hg3
    obtain ⟨N3, hN3⟩ : ∃ N, w3.heap.size = N := ⟨_, rfl⟩
    obtain ⟨w4, hw4⟩ : ∃ w', w3.setCell ⟨G, 1, none⟩ (.slice (some ⟨g, 0, none⟩) (R.length + 1) cap) = w' := ⟨_, rfl⟩
    have hN4 : w4.heap.size = N3 := by rw [← hw4, ← hN3]; simp [World.setCell]
    have hg4 : TxB w4 G s (.slice (some ⟨g, 0, none⟩) (R.length + 1) cap) (.slice B Z.length b) := by rw [← hw4]; exact blk_set hg3 1 _
    have hp4 : TxB w4 P ⟨#[]⟩ (.slice none 0 0) (.slice none 0 0) := by rw [← hw4]; exact (Below.heap_setCell _ ⟨G, 1, none⟩ _ P (by show P ≠ G; omega)).trans hp3
    have hr4 : w4.ownsRow (G + 1) 3 1 (.slice (some ⟨g, 0, none⟩) (R.length + 1) cap) (R.length + 1) (R.flatMap intE ++ [.int .i64 r]) := by
     rw [← hw4]; exact own_set hown3 (p := ⟨G, 1, none⟩) (fun e => by have := (own_block hown3 G e).1; omega) _
    have ho4 : w4.ownsRow (G + 1) 3 1 (.slice B Z.length b) Z.length (Z.flatMap intE) := by
     rw [← hw4]; exact own_set ho3 (p := ⟨G, 1, none⟩) (fun e => by have := (own_block ho3 G e).1; omega) _
    have hb4 : Below P w w4 := by rw [← hw4]; exact hb3.setCell (by show P ≤ G; omega) _
    obtain ⟨⟨k0, k1, k2⟩, e0, e1, e2⟩ := blk3 hg4
    have hlG4 := blk_lt hg4
    have HG4 := Lib.hid hg4
    have HP4 := Lib.hid hp4
    have HR4 := Lib.hid hr4
    have HO4 := Lib.hid ho4
    have HB4 := Lib.hid hb4
    have HAP4 := Lib.hid hap3
    have HNEW : Hid (∀ o, (w4.alloc o).heap[N3]? = some o) := Lib.hid (fun o => by rw [← hN4]; exact heap_alloc_new w4 o)
    clear hg3 hp3 hown3 ho3 hb3 hgrow hat3 hlt3 hap3 hg4 hp4 hr4 ho4 hb4
    go_wp2_with (at_builtin; refine wpList_append_lies _ (by rfl) _ _ _ (by rfl) (G + 1) 3 i0 _ 1 8 Tryz.underlying36 hi0 hz0 hz1 hz2 rfl (by omega) (.slice B Z.length b) Z.length (Z.flatMap intE) (by rfl) (HO4.out.alloc _) ⟨N3, 0, none⟩ 1 1 [.int .i64 pos] (by rfl) (by rfl) (World.news_of_block (cs := #[.int .i64 pos]) (t := 3) (fr := (0, 0)) (HNEW.out _)) (by simp [Value.oneCell']) (by omega) (by unfold maxLen; omega) (by omega) (by simp; omega) (w4.heap.size + 1) (by simp) ?_; intro g2 cap2 w5 hown5 hgrow5 hat5 hlt5; refine Hid.out ?_)
    refine Lib.hid ?_
    have hg5 := far_block HO4.out hgrow5 HG4.out (Nat.lt_succ_self G)
    have hp5 := far_block HO4.out hgrow5 HP4.out (by omega)
    have ho5 := (HR4.out.alloc _).kept hgrow5 (.inr (by rcases HAP4.out with h | h; cases h; exact h))
    have hap5 := apart_swap (n := Z.length + 1) (c := cap2) HAP4.out HR4.out hat5
    have hb5 : Below P w w5 := ((Same.of_below (M := []) (by rw [HW.out]; exact HB4.out)).alloc _ |>.grown hgrow5 (fun k hk => .inr (by have := (own_block HO4.out k hk).1; have := HW.out; omega))).below.mono (by rw [HW.out]; exact Nat.le_refl _)
    clear x0 x1 x2 f0 f1 f2 k0 k1 k2 e0 e1 e2 hlG hlG4 hw4 hN3 hN4
    obtain ⟨⟨x0, x1, x2⟩, f0, f1, f2⟩ := blk3 hg5
    have hlG := blk_lt hg5
    have HG5 := Lib.hid hg5
    have HP5 := Lib.hid hp5
    have HR5 := Lib.hid ho5
    have HZ5 := Lib.hid hown5
    have HB5 := Lib.hid hb5
    have HAP5 := Lib.hid hap5
    clear hg5 hp5 ho5 hown5 hb5 hgrow5 hat5 hlt5 hap5
    go_wp2_with fail
    go_roundg gk
    case measure => omega
    case rel =>
     have hl1 : (R ++ [(r : Int)]).length = R.length + 1 := by simp
     have hl2 : (Z ++ [(pos : Int)]).length = Z.length + 1 := by simp
     refine ⟨pos + n, R ++ [(r : Int)], Z ++ [(pos : Int)], some ⟨g, 0, none⟩, cap, some ⟨g2, 0, none⟩, cap2, by go_num, by omega, ?_, ?_, ?_, ?_, ?_, HST.out, ?_⟩
     ·rw [hl1, hl2]; exact blk_set HG5.out 2 _
     ·exact (Below.heap_setCell _ ⟨G, 2, none⟩ _ P (by show P ≠ G; omega)).trans HP5.out
     ·unfold OwnI
      rw [hl1, List.flatMap_append]
      exact own_set HR5.out (p := ⟨G, 2, none⟩) (fun e => by have := (own_block HR5.out G e).1; omega) _
     ·unfold OwnI
      rw [hl2, List.flatMap_append]
      exact own_set HZ5.out (p := ⟨G, 2, none⟩) (fun e => by have := (own_block HZ5.out G e).1; omega) _
     ·rw [hl1, hl2]; exact HAP5.out
     ·exact HB5.out.setCell (by show P ≤ G; omega) _
  ·obtain rfl : pos = s.size := by omega
   have hnz : ¬ ((s.size : Int) < s.size) := by omega
   obtain ⟨⟨x0, x1, x2⟩, f0, f1, f2⟩ := blk3 hg
   have hlG := blk_lt hg
   have hlP := blk_lt hpz
   have hPG := HPG.out
   have HX : Hid (true = rowsOk (runes s.data.toList) ∧ R = rowsF (runes s.data.toList) 0 ∧ Z ++ [(s.size : Int)] = rowsA (runes s.data.toList) 0) := Lib.hid (by
    have h := HRA.out
    obtain ⟨_, _, _, h4, h5, h6⟩ := h
    rw [runes_end s s.size (by omega)] at h4 h5 h6
    rw [rowsF, List.append_nil] at h4
    exact ⟨h6.symm, h4.symm, h5.symm⟩)
   obtain ⟨i0, hi0, hz0, hz1, hz2⟩ := info_parts info_int
   clear hg hpz
   go_wp2_with (at_builtin; refine wpList_append_lies _ (by rfl) _ _ _ (by rfl) (G + 1) 3 i0 _ 1 8 Tryz.underlying36 hi0 hz0 hz1 hz2 rfl (by omega) (.slice B Z.length b) Z.length (Z.flatMap intE) (by rfl) (HO2.out.alloc _) ⟨wr.heap.size, 0, none⟩ 1 1 [.int .i64 s.size] (by rfl) (by rfl) (World.news_of_block (cs := #[.int .i64 s.size]) (t := 3) (fr := (0, 0)) (heap_alloc_new wr _)) (by simp [Value.oneCell']) (by omega) (by unfold maxLen; omega) (by omega) (by simp; omega) (wr.heap.size + 1) (by simp) ?_; intro g2 cap2 w5 hown5 hgrow5 hat5 hlt5; refine Hid.out ?_)
   refine Lib.hid ?_
   have hg5 := far_block HO2.out hgrow5 HGr.out (Nat.lt_succ_self G)
   have hp5 := far_block HO2.out hgrow5 HPr.out (by omega)
   have ho5 := (HO1.out.alloc _).kept hgrow5 (by
    rcases HAP.out with h | h
    ·rw [h]
     cases hv : (Value.slice A R.length a).ownBlock with
     | none => exact .inl rfl
     | some k => exact .inr (by simp)
    ·exact .inr (fun e => h e.symm))
   have hb5 : Below P w w5 := ((Same.of_below (M := []) (by rw [HW.out]; exact HBL.out)).alloc _ |>.grown hgrow5 (fun k hk => .inr (by have := (own_block HO2.out k hk).1; have := HW.out; omega))).below.mono (by rw [HW.out]; exact Nat.le_refl _)
   clear x0 x1 x2 f0 f1 f2 hlG hlP
   obtain ⟨⟨x0, x1, x2⟩, f0, f1, f2⟩ := blk3 hg5
   obtain ⟨N5, hN5⟩ : ∃ N, w5.heap.size = N := ⟨_, rfl⟩
   obtain ⟨w6, hw6⟩ : ∃ w', w5.setCell ⟨G, 2, none⟩ (.slice (some ⟨g2, 0, none⟩) (Z.length + 1) cap2) = w' := ⟨_, rfl⟩
   have hN6 : w6.heap.size = N5 := by rw [← hw6, ← hN5]; simp [World.setCell]
   have hg6 : TxB w6 G s (.slice A R.length a) (.slice (some ⟨g2, 0, none⟩) (Z.length + 1) cap2) := by rw [← hw6]; exact blk_set hg5 2 _
   have hp6 : TxB w6 P ⟨#[]⟩ (.slice none 0 0) (.slice none 0 0) := by rw [← hw6]; exact (Below.heap_setCell _ ⟨G, 2, none⟩ _ P (by show P ≠ G; omega)).trans hp5
   have hr6 : OwnI w6 (G + 1) (.slice A R.length a) R := by
    rw [← hw6]; exact own_set ho5 (p := ⟨G, 2, none⟩) (fun e => by have := (own_block ho5 G e).1; omega) _
   have hl2 : (Z ++ [(s.size : Int)]).length = Z.length + 1 := by simp
   have hz6 : OwnI w6 (G + 1) (.slice (some ⟨g2, 0, none⟩) (Z ++ [(s.size : Int)]).length cap2) (Z ++ [(s.size : Int)]) := by
    unfold OwnI
    rw [← hw6, hl2, List.flatMap_append]
    exact own_set hown5 (p := ⟨G, 2, none⟩) (fun e => by have := (own_block hown5 G e).1; omega) _
   have hb6 : Below P w w6 := by rw [← hw6]; exact hb5.setCell (by show P ≤ G; omega) _
   obtain ⟨⟨k0, k1, k2⟩, e0, e1, e2⟩ := blk3 hg6
   obtain ⟨⟨y0, y1, y2⟩, u0, u1, u2⟩ := blk3 hp6
   have hlG := blk_lt hg6
   have hlP := blk_lt hp6
   have hlG5 := blk_lt hg5
   have HR6 := Lib.hid hr6
   have HZ6 := Lib.hid hz6
   have HB6 := Lib.hid hb6
   have HL2 := Lib.hid hl2
   clear hg5 hp5 ho5 hown5 hb5 hgrow5 hat5 hlt5 hg6 hp6 hr6 hz6 hb6 hl2
   go_wp2
   refine bodyPost_ret (v := .tuple #[.agg #[.string s, .slice A R.length a, .slice (some ⟨g2, 0, none⟩) (Z.length + 1) cap2], .bool true]) (by simp [results, Tryz.results57, go_sem, *]) rfl ?_
   obtain ⟨q1, q2, q3⟩ := HX.out
   have h := runP q2 q3 q1 (own_set3 HR6.out (show P < G + 1 by omega) (.string s) (.slice A R.length a) (.slice (some ⟨g2, 0, none⟩) (Z.length + 1) cap2)) (own_set3 HZ6.out (show P < G + 1 by omega) _ _ _) (by rw [HW.out]; exact below_set3 HB6.out (Nat.le_refl _) _ _ _)
   rw [HL2.out] at h
   exact h
end Go.Proofs.YtgcfjkfipkfijaaGreatDoor
namespace Go.Proofs.YtgcfjkfipkfijaaGreatDoor
open Go Go.RowKit Go.Lib
def plc (l : List UInt8) : List Int := rowsA (runes l) 0
theorem rowsA_len : ∀ (rs : List (Nat × Nat)) (p : Nat), (∀ x, x ∈ rs → x ≠ (65533, 1)) → (rowsA rs p).length = rs.length + 1
 | [], p, _ => rfl
 | r :: rs, p, h => by
  rw [rowsA, if_neg (h r (by simp)), List.length_cons, rowsA_len rs _ (fun x hx => h x (by simp [hx])), List.length_cons]
theorem rowsA_at : ∀ (rs : List (Nat × Nat)) (p k : Nat), (∀ x, x ∈ rs → x ≠ (65533, 1)) → k ≤ rs.length → (rowsA rs p)[k]? = some ((p + wid (rs.take k) : Nat) : Int)
 | [], p, k, _, hk => by
  obtain rfl : k = 0 := by simpa using hk
  rfl
 | r :: rs, p, 0, h, _ => by
  rw [rowsA, if_neg (h r (by simp))]
  rfl
 | r :: rs, p, k + 1, h, hk => by
  rw [rowsA, if_neg (h r (by simp)), List.getElem?_cons_succ, rowsA_at rs (p + r.2) k (fun x hx => h x (by simp [hx])) (by simpa using hk), List.take_succ_cons, wid, Nat.add_assoc]
theorem plc_len {l : List UInt8} (hv : Vd l) : (plc l).length = (rv l).length + 1 := by rw [rv_len]; exact rowsA_len _ _ hv
theorem plc_at {l : List UInt8} (hv : Vd l) {k : Nat} (h : k ≤ (rv l).length) : (plc l)[k]? = some (bw l k : Int) := by
 have := rowsA_at (runes l) 0 k hv (by rwa [rv_len] at h)
 rwa [Nat.zero_add] at this
structure Txt (w : World) (s : ByteArray) (A : Option Addr) (a : Nat) (B : Option Addr) (b : Nat) : Prop where
 vd : Vd s.data.toList
 size : s.size ≤ 8192
 r : intK.Row [] w A (rv s.data.toList)
 ra : (rv s.data.toList).length ≤ a
 z : intK.Row [] w B (plc s.data.toList)
 zb : (plc s.data.toList).length ≤ b
theorem Txt.below {w w' : World} {s : ByteArray} {A B : Option Addr} {a b : Nat} (h : Txt w s A a B b) (hb : Below w.heap.size w w') : Txt w' s A a B b :=
 ⟨h.vd, h.size, h.r.keep (Same.of_below hb), h.ra, h.z.keep (Same.of_below hb), h.zb⟩
theorem Txt.runes_le {w : World} {s : ByteArray} {A B : Option Addr} {a b : Nat} (h : Txt w s A a B b) : (rv s.data.toList).length ≤ 8192 := by
 have h1 := runes_len s.data.toList
 rw [rv_len]
 rw [size_data] at h1
 have := h.size
 omega
abbrev txV (s : ByteArray) (A : Option Addr) (a : Nat) (B : Option Addr) (b : Nat) : Value := .agg #[.string s, .slice A (rv s.data.toList).length a, .slice B (plc s.data.toList).length b]
theorem pastN_hash {c : Int} {cs : List Int} (h : cls c = 6) : pastN false (c :: cs) = pastN true (c :: cs) := by
 have := cls_hash h
 simp only [pastN]
 rw [if_pos h, if_neg (by omega)]
theorem pastN_line (cs : List Int) : pastN true (10 :: cs) = pastN false (10 :: cs) := by
 rw [show pastN true (10 :: cs) = 1 + pastN false cs from if_pos rfl, show pastN false (10 :: cs) = 1 + pastN false cs from (if_neg (by decide)).trans (if_pos (by decide))]
theorem xclass_q (r : Int) (w : World) : Calls Tryz.prog 87 #[.int .i64 r] w fun e w' => e = .returned (.int .i64 (cls r)) ∧ w = w' := (xclass_any r w).mono (fun _ _ h => ⟨h.1, h.2.symm⟩)
theorem xwordy_q (r : Int) (w : World) : Calls Tryz.prog 109 #[.int .i64 r] w fun e w' => e = .returned (.bool (isWz r)) ∧ w = w' := (xwordy_any r w).mono (fun _ _ h => ⟨h.1, h.2.symm⟩)
set_option maxHeartbeats 8000000 in
set_option maxRecDepth 100000 in
theorem xpast_any (s : ByteArray) (A : Option Addr) (a : Nat) (B : Option Addr) (b : Nat) (i : Nat) (w : World) (h : Txt w s A a B b) (hi : i ≤ (rv s.data.toList).length) :
  Calls Tryz.prog 58 #[txV s A a B b, .int .i64 i] w fun r w' => r = .returned (.int .i64 ((i + pastN false ((rv s.data.toList).drop i) : Nat) : Int)) ∧ Below w.heap.size w w' := by
 have hn := h.runes_le
 have hra := h.ra
 have HR := Lib.hid h.r
 unfold txV
 generalize rv s.data.toList = R at *
 generalize (plc s.data.toList).length = L2
 obtain ⟨ANS, hANS⟩ : ∃ x, i + pastN false (R.drop i) = x := ⟨_, rfl⟩
 rw [hANS]
 have HANS := Lib.hid hANS
 have hnz : (R.length : Int) ≤ 8192 := by omega
 have hraz : (R.length : Int) ≤ a := by omega
 obtain ⟨w0, hw0⟩ : ∃ w', w.alloc (.cells #[.string s, .slice A R.length a, .slice B L2 b] 99 (0, 0)) = w' := ⟨_, rfl⟩
 have hb0 : Below w.heap.size w w0 := hw0 ▸ (Below.refl _ _).alloc (Nat.le_refl _) _
 have hq : TxB w0 w.heap.size s (.slice A R.length a) (.slice B L2 b) := hw0 ▸ heap_alloc_new _ _
 obtain ⟨⟨y0, y1, y2⟩, _⟩ := blk3 hq
 have HR0 := Lib.hid (HR.out.keep (Same.of_below (M := []) hb0))
 have HB0 := Lib.hid hb0
 have hlq := blk_lt hq
 have HW0 := Lib.hid hw0
 clear hANS hb0 hq hw0 h
 go_enter Tryz.func58, Tryz.ntmps58
 go_wp2_with fail
 rw [HW0.out]
 go_loopg [1] (R.length + 1) (fun k s1 w' => ∃ j : Nat, s1 = .int .i64 j ∧ j ≤ R.length ∧ R.length - j < k ∧ j + pastN false (R.drop j) = ANS ∧ w' = w0)
 case atStart => exact ⟨i, rfl, hi, by omega, HANS.out, rfl⟩
 case round =>
  obtain ⟨j, rfl, hj, hjk, hans, rfl⟩ := hrel
  obtain ⟨go, rfl⟩ : ∃ k, gk = k + 1 := ⟨gk - 1, by omega⟩
  have hj0 : (0 : Int) ≤ j := by omega
  by_cases hlt : j < R.length
  ·have hltz : (j : Int) < R.length := by omega
   obtain ⟨ad, rfl⟩ := row_some HR0.out (by omega)
   obtain ⟨ad', e0, x0⟩ := int_at HR0.out j hlt
   injection e0 with e0
   subst e0
   have hlt2 := World.block_lt_of_cell? wr _ x0
   rw [drop_cons R j hlt] at hans
   obtain ⟨r, hr⟩ : ∃ r, R[j] = r := ⟨_, rfl⟩
   rw [hr] at x0 hans
   have HRJ := Lib.hid hr
   have HC := Lib.hid (fun W => xclass_q r W)
   obtain ⟨c, hc⟩ : ∃ c, cls r = c := ⟨_, rfl⟩
   rw [hc] at HC
   have HCC := Lib.hid hc
   have HN := Lib.hid hans
   clear hans hc hr
   by_cases h6 : c = 6
   ·subst h6
    have h35 := cls_hash HCC.out
    have HNE : Hid (r ≠ 10) := Lib.hid (by omega)
    clear h35
    go_wp2_with (go_at_call 87; refine (HC.out _).mono ?_; rintro e w' ⟨rfl, rfl⟩)
    go_loopg [1] (R.length + 1) (fun k s1 w' => ∃ m : Nat, s1 = .int .i64 m ∧ j ≤ m ∧ m ≤ R.length ∧ R.length - m < k ∧ m + pastN true (R.drop m) = ANS ∧ w' = wr)
    case atStart => exact ⟨j, rfl, Nat.le_refl _, by omega, by omega, by have := HN.out; rw [pastN_hash HCC.out] at this; rw [drop_cons R j hlt, HRJ.out]; exact this, rfl⟩
    case round =>
     obtain ⟨m, rfl, hm1, hm2, hmk, hans, rfl⟩ := hrel
     obtain ⟨gi, rfl⟩ : ∃ k, gk = k + 1 := ⟨gk - 1, by omega⟩
     have hm0 : (0 : Int) ≤ m := by omega
     clear x0 hlt2
     by_cases hml : m < R.length
     ·have hmlz : (m : Int) < R.length := by omega
      obtain ⟨ad', e0, x0⟩ := int_at HR0.out m hml
      injection e0 with e0
      subst e0
      have hlt2 := World.block_lt_of_cell? wr _ x0
      rw [drop_cons R m hml] at hans
      obtain ⟨q, hq⟩ : ∃ q, R[m] = q := ⟨_, rfl⟩
      rw [hq] at x0 hans
      have HQ := Lib.hid hq
      have HM := Lib.hid hans
      clear hans hq
      by_cases h10 : q = 10
      ·subst h10
       have hgt : j < m := by
        have hne : m ≠ j := by
         rintro rfl
         exact HNE.out (HRJ.out.symm.trans HQ.out)
        omega
       go_wp2_with fail
       go_roundg go
       case measure => omega
       case rel => exact ⟨m, rfl, hm2, by omega, by have := HM.out; rw [pastN_line, ← HQ.out, ← drop_cons R m hml] at this; exact this, rfl⟩
      ·have h10b : (q != 10) = true := bnet h10
       have HN2 : Hid ((m + 1) + pastN true (R.drop (m + 1)) = ANS) := Lib.hid (by
        have := HM.out
        rw [show pastN true (q :: R.drop (m + 1)) = 1 + pastN true (R.drop (m + 1)) from if_neg h10] at this
        omega)
       clear h10
       go_wp2_with fail
       go_roundg gi
       case measure => omega
       case rel => exact ⟨m + 1, by go_num, by omega, by omega, by omega, HN2.out, rfl⟩
     ·obtain rfl : m = R.length := by omega
      rw [List.drop_length] at hans
      have HM := Lib.hid hans
      clear hans
      have hnl : ¬ ((R.length : Int) < R.length) := by omega
      go_wp2_with fail
      go_roundg go
      case measure => omega
      case rel => exact ⟨R.length, rfl, hm2, by omega, by rw [List.drop_length]; exact HM.out, rfl⟩
   ·by_cases h1 : c = 1
    ·subst h1
     have HN2 : Hid ((j + 1) + pastN false (R.drop (j + 1)) = ANS) := Lib.hid (by
      have := HN.out
      rw [show pastN false (r :: R.drop (j + 1)) = 1 + pastN false (R.drop (j + 1)) from (if_neg (by rw [HCC.out]; decide)).trans (if_pos HCC.out)] at this
      omega)
     clear h6
     go_wp2_with (go_at_call 87; refine (HC.out _).mono ?_; rintro e w' ⟨rfl, rfl⟩)
     go_roundg go
     case measure => omega
     case rel => exact ⟨j + 1, by go_num, by omega, by omega, HN2.out, rfl⟩
    ·have h6b : (c == 6) = false := beqf h6
     have h1b : (c != 1) = true := bnet h1
     have HN2 : Hid (j = ANS) := Lib.hid (by
      have := HN.out
      rw [show pastN false (r :: R.drop (j + 1)) = 0 from (if_neg (by rw [HCC.out]; exact h6)).trans (if_neg (by rw [HCC.out]; exact h1))] at this
      omega)
     clear h6 h1
     go_wp2_with (go_at_call 87; refine (HC.out _).mono ?_; rintro e w' ⟨rfl, rfl⟩)
     go_ret
     exact ⟨ret_int (by rw [HN2.out]), HB0.out⟩
  ·obtain rfl : j = R.length := by omega
   rw [List.drop_length] at hans
   have HN2 : Hid (R.length = ANS) := Lib.hid (by simpa [pastN] using hans)
   clear hans
   have hnl : ¬ ((R.length : Int) < R.length) := by omega
   go_wp2_with fail
   go_ret
   exact ⟨ret_int (by rw [HN2.out]), HB0.out⟩
end Go.Proofs.YtgcfjkfipkfijaaGreatDoor
namespace Go.Proofs.YtgcfjkfipkfijaaGreatDoor
open Go Go.RowKit Go.Lib
set_option maxHeartbeats 8000000 in
set_option maxRecDepth 100000 in
theorem xword_any (s : ByteArray) (A : Option Addr) (a : Nat) (B : Option Addr) (b : Nat) (i : Nat) (w : World) (h : Txt w s A a B b) (hi : i ≤ (rv s.data.toList).length) :
  Calls Tryz.prog 88 #[txV s A a B b, .int .i64 i] w fun r w' => r = .returned (.int .i64 ((i + wordC ((rv s.data.toList).drop i) : Nat) : Int)) ∧ Below w.heap.size w w' := by
 have hn := h.runes_le
 have hra := h.ra
 have HR := Lib.hid h.r
 unfold txV
 generalize rv s.data.toList = R at *
 generalize (plc s.data.toList).length = L2
 obtain ⟨ANS, hANS⟩ : ∃ x, i + wordC (R.drop i) = x := ⟨_, rfl⟩
 rw [hANS]
 have HANS := Lib.hid hANS
 have hnz : (R.length : Int) ≤ 8192 := by omega
 have hraz : (R.length : Int) ≤ a := by omega
 obtain ⟨w0, hw0⟩ : ∃ w', w.alloc (.cells #[.string s, .slice A R.length a, .slice B L2 b] 99 (0, 0)) = w' := ⟨_, rfl⟩
 have hb0 : Below w.heap.size w w0 := hw0 ▸ (Below.refl _ _).alloc (Nat.le_refl _) _
 have hq : TxB w0 w.heap.size s (.slice A R.length a) (.slice B L2 b) := hw0 ▸ heap_alloc_new _ _
 obtain ⟨⟨y0, y1, y2⟩, _⟩ := blk3 hq
 have HR0 := Lib.hid (HR.out.keep (Same.of_below (M := []) hb0))
 have HB0 := Lib.hid hb0
 have hlq := blk_lt hq
 have HW0 := Lib.hid hw0
 clear hANS hb0 hq hw0 h
 go_enter Tryz.func88, Tryz.ntmps88
 go_wp2_with fail
 rw [HW0.out]
 go_loopg [1] (R.length + 1) (fun k s1 w' => ∃ j : Nat, s1 = .int .i64 j ∧ j ≤ R.length ∧ R.length - j < k ∧ j + wordC (R.drop j) = ANS ∧ w' = w0)
 case atStart => exact ⟨i, rfl, hi, by omega, HANS.out, rfl⟩
 case round =>
  obtain ⟨j, rfl, hj, hjk, hans, rfl⟩ := hrel
  obtain ⟨gk, rfl⟩ : ∃ k, gk = k + 1 := ⟨gk - 1, by omega⟩
  have hj0 : (0 : Int) ≤ j := by omega
  by_cases hlt : j < R.length
  ·have hltz : (j : Int) < R.length := by omega
   obtain ⟨ad, rfl⟩ := row_some HR0.out (by omega)
   obtain ⟨ad', e0, x0⟩ := int_at HR0.out j hlt
   injection e0 with e0
   subst e0
   have hlt2 := World.block_lt_of_cell? wr _ x0
   rw [drop_cons R j hlt, wordC] at hans
   obtain ⟨r, hr⟩ : ∃ r, R[j] = r := ⟨_, rfl⟩
   rw [hr] at x0 hans
   have HC := Lib.hid (fun W => xwordy_q r W)
   obtain ⟨c, hc⟩ : ∃ c, isWz r = c := ⟨_, rfl⟩
   rw [hc] at HC hans
   cases c
   ·have HN : Hid (j = ANS) := Lib.hid (by simpa using hans)
    clear hans hc hr
    go_wp2_with (go_at_call 109; refine (HC.out _).mono ?_; rintro e w' ⟨rfl, rfl⟩)
    go_ret
    exact ⟨ret_int (by rw [HN.out]), HB0.out⟩
   ·have HN : Hid ((j + 1) + wordC (R.drop (j + 1)) = ANS) := Lib.hid (by rw [if_pos rfl] at hans; omega)
    clear hans hc hr
    go_wp2_with (go_at_call 109; refine (HC.out _).mono ?_; rintro e w' ⟨rfl, rfl⟩)
    go_roundg gk
    case measure => omega
    case rel => exact ⟨j + 1, by go_num, by omega, by omega, HN.out, rfl⟩
  ·obtain rfl : j = R.length := by omega
   rw [List.drop_length] at hans
   have HN2 : Hid (R.length = ANS) := Lib.hid (by simpa [wordC] using hans)
   clear hans
   have hnl : ¬ ((R.length : Int) < R.length) := by omega
   go_wp2_with fail
   go_ret
   exact ⟨ret_int (by rw [HN2.out]), HB0.out⟩
theorem plc_cell {w : World} {B : Option Addr} {l : List UInt8} (h : intK.Row [] w B (plc l)) (hv : Vd l) {k : Nat} (hk : k ≤ (rv l).length) : ∃ ad, B = some ad ∧ w.cell? (ad.add k) = some (.int .i64 (bw l k : Int)) := by
 have hl := plc_len hv
 obtain ⟨ad, e, hc⟩ := int_at h k (by omega)
 have h2 := plc_at hv hk
 rw [List.getElem?_eq_getElem (by omega)] at h2
 injection h2 with h2
 rw [h2] at hc
 exact ⟨ad, e, hc⟩
theorem bw_mono {l : List UInt8} (hv : Vd l) {i k : Nat} (hik : i ≤ k) (hk : k ≤ (rv l).length) : bw l i ≤ bw l k ∧ bw l k ≤ l.length := by
 rw [rv_len] at hk
 obtain ⟨d, rfl⟩ : ∃ d, k = i + d := ⟨k - i, by omega⟩
 have := bw_add hv i d (by omega)
 exact ⟨by omega, (split_at _ l hv hk).1⟩
set_option maxHeartbeats 8000000 in
set_option maxRecDepth 100000 in
theorem xpart_any (s : ByteArray) (A : Option Addr) (a : Nat) (B : Option Addr) (b : Nat) (i k : Nat) (w : World) (h : Txt w s A a B b) (hik : i ≤ k) (hk : k ≤ (rv s.data.toList).length) :
  Calls Tryz.prog 89 #[txV s A a B b, .int .i64 i, .int .i64 k] w fun r w' => r = .returned (.string (s.extract (bw s.data.toList i) (bw s.data.toList k))) ∧ Below w.heap.size w w' := by
 have hn := h.runes_le
 have hsz := h.size
 obtain ⟨ad, rfl, x0⟩ := plc_cell h.z h.vd (k := i) (by omega)
 obtain ⟨ad', e0, x1⟩ := plc_cell h.z h.vd hk
 injection e0 with e0
 subst e0
 have hm := bw_mono h.vd hik hk
 have hpl := plc_len h.vd
 have hzb := h.zb
 rw [size_data] at hm
 generalize bw s.data.toList i = p at *
 generalize bw s.data.toList k = q at *
 unfold txV
 generalize (rv s.data.toList).length = L1 at *
 generalize (plc s.data.toList).length = L2 at *
 have hlt := World.block_lt_of_cell? w _ x0
 have hlt1 := World.block_lt_of_cell? w _ x1
 have hi0 : (0 : Int) ≤ i := by omega
 have hk0 : (0 : Int) ≤ k := by omega
 have hil : (i : Int) < L2 := by omega
 have hkl : (k : Int) < L2 := by omega
 have hbz : (L2 : Int) ≤ b := by omega
 have hp0 : (0 : Int) ≤ p := by omega
 have hpq : (p : Int) ≤ q := by omega
 have hqs : (q : Int) ≤ s.size := by omega
 clear h hm hpl hzb
 go_enter Tryz.func89, Tryz.ntmps89
 go_wp2_with fail
 go_quiet (fail)
 go_wp2_with fail
 go_ret
 exact ⟨ret_str (by first | rfl | simp), below_drewN ((Below.refl _ _).alloc (Nat.le_refl _) _) _⟩
set_option maxHeartbeats 8000000 in
set_option maxRecDepth 100000 in
theorem xnumber_any (s : ByteArray) (w : World) (hs : s.size ≤ 8192) :
  Calls Tryz.prog 90 #[.string s] w fun r w' => r = .returned (.tuple #[.int .i64 (numS s).1, .bool (numS s).2]) ∧ w = w' := by
 have hsz : (s.size : Int) ≤ 8192 := by omega
 have hat : ∀ j (h : j < s.size), s.data.toList[j]'(by rw [size_data]; exact h) = s[j] := fun j h => rfl
 by_cases h0 : s.size = 0
 ·have HX : Hid (numS s = (0, false)) := Lib.hid (if_pos (.inl h0))
  have h0b : ((s.size : Int) == 0) = true := beq_iff_eq.2 (by omega)
  clear h0
  go_enter Tryz.func90, Tryz.ntmps90
  go_wp2_with fail
  go_ret2
  exact ⟨by rw [HX.out]; first | done | rfl, rfl⟩
 have h0b : ((s.size : Int) == 0) = false := beqf (by omega)
 have hp : 0 < s.size := by omega
 have hpz : (0 : Int) < s.size := by omega
 obtain ⟨c0, hc0⟩ : ∃ c, s[0] = c := ⟨_, rfl⟩
 have hg0 : s.data.toList.getD 0 0 = c0 := by rw [← head_getD s hp, hc0]
 by_cases h48 : 1 < s.size ∧ c0 = 48
 ·have HX : Hid (numS s = (0, false)) := Lib.hid (if_pos (.inr ⟨h48.1, by rw [hg0]; exact h48.2⟩))
  obtain ⟨h1, rfl⟩ := h48
  have h1z : (1 : Int) < s.size := by omega
  clear h0 h1 hg0
  go_enter Tryz.func90, Tryz.ntmps90
  go_wp2_with fail
  go_ret2
  exact ⟨by rw [HX.out]; first | done | rfl, rfl⟩
 obtain ⟨ANS, hANS⟩ : ∃ x, numX s.data.toList 0 = x := ⟨_, rfl⟩
 have HX : Hid (numS s = ANS) := Lib.hid (by
  unfold numS
  rw [if_neg (by rw [hg0]; rintro (e | e); exact h0 e; exact h48 e), hANS])
 have HANS := Lib.hid hANS
 have hor : (s.size : Int) ≤ 1 ∨ (1 : Int) < s.size ∧ ((c0.toNat : Int) == 48) = false := by
  rcases Nat.lt_or_ge 1 s.size with h | h
  ·refine .inr ⟨by omega, ?_⟩
   rw [beq_eq_false_iff_ne]
   intro e
   exact h48 ⟨h, UInt8.toNat_inj.1 (by simpa using (by omega : c0.toNat = 48))⟩
  ·exact .inl (by omega)
 have HAT := Lib.hid hat
 clear h0 h48 hg0 hANS hat
 rcases hor with hor | ⟨hor, hor2⟩
 all_goals
  go_enter Tryz.func90, Tryz.ntmps90
  go_wp2_with fail
  go_loopg [4, 5] (s.size + 1) (fun k s4 s5 w' => ∃ (j : Nat) (v : Int), s5 = .int .i64 j ∧ s4 = .int .i64 v ∧ j ≤ s.size ∧ s.size - j < k ∧ 0 ≤ v ∧ v ≤ 9223372036854775807 ∧ numX (s.data.toList.drop j) v = ANS ∧ w' = w)
  case atStart => exact ⟨0, 0, rfl, rfl, by omega, by omega, by decide, by decide, HANS.out, rfl⟩
  case round =>
   obtain ⟨j, v, rfl, rfl, hj, hjk, hv0, hv1, hans, rfl⟩ := hrel
   obtain ⟨gk, rfl⟩ : ∃ k, gk = k + 1 := ⟨gk - 1, by omega⟩
   have hj0 : (0 : Int) ≤ j := by omega
   by_cases hlt : j < s.size
   ·have hltz : (j : Int) < s.size := by omega
    obtain ⟨c, hc⟩ : ∃ c, s[j] = c := ⟨_, rfl⟩
    have hcl := c.toNat_lt
    rw [drop_cons s.data.toList j (by rw [size_data]; exact hlt), HAT.out j hlt, hc, numX] at hans
    by_cases hd : (c.toNat : Int) < 48 ∨ 57 < (c.toNat : Int)
    ·rw [if_pos hd] at hans
     have HN : Hid (numS s = (0, false)) := Lib.hid (by rw [HX.out, ← hans])
     have hd2 : (c.toNat : Int) < 48 ∨ (48 ≤ (c.toNat : Int) ∧ 57 < (c.toNat : Int)) := by omega
     clear hans hd
     rcases hd2 with hd2 | ⟨hd2, hd3⟩
     all_goals
      go_wp2_with fail
      go_ret2
      exact ⟨by rw [HN.out]; first | done | rfl, rfl⟩
    ·rw [if_neg hd] at hans
     have hd2 : 48 ≤ (c.toNat : Int) := by omega
     have hd3 : (c.toNat : Int) ≤ 57 := by omega
     obtain ⟨d, hdd⟩ : ∃ d, (c.toNat : Int) - 48 = d := ⟨_, rfl⟩
     have hdb : 0 ≤ d ∧ d ≤ 9 := by omega
     obtain ⟨t, ht⟩ : ∃ t, (9223372036854775807 - d).tdiv 10 = t := ⟨_, rfl⟩
     have ht2 : t = (9223372036854775807 - d) / 10 := by rw [← ht, Int.tdiv_eq_ediv_of_nonneg (by omega)]
     have htb : 0 ≤ t := by omega
     have htb2 : t ≤ 922337203685477580 := by omega
     rw [hdd, ht] at hans
     by_cases ho : t < v
     ·rw [if_pos ho] at hans
      have HN : Hid (numS s = (0, false)) := Lib.hid (by rw [HX.out, ← hans])
      clear hans hd ht2
      go_wp2_with fail
      go_ret2
      exact ⟨by rw [HN.out]; first | done | rfl, rfl⟩
     ·rw [if_neg ho] at hans
      have ho2 : v ≤ t := by omega
      have HN := Lib.hid hans
      have hfit : 10 * v + d ≤ 9223372036854775807 := by omega
      clear hans hd ho ht2
      go_wp2_with fail
      go_roundg gk
      case measure => omega
      case rel => exact ⟨j + 1, 10 * v + d, by go_num, by go_num, by omega, by omega, by omega, hfit, HN.out, rfl⟩
   ·obtain rfl : j = s.size := by omega
    rw [show s.data.toList.drop s.size = [] from List.drop_of_length_le (by rw [size_data]; exact Nat.le_refl _), numX] at hans
    have HN : Hid (numS s = (v, true)) := Lib.hid (by rw [HX.out, ← hans])
    clear hans
    have hnl : ¬ ((s.size : Int) < s.size) := by omega
    go_wp2_with fail
    go_ret2
    exact ⟨by rw [HN.out]; first | done | rfl, rfl⟩
end Go.Proofs.YtgcfjkfipkfijaaGreatDoor
namespace Go.Proofs.YtgcfjkfipkfijaaGreatDoor
open Go Go.RowKit Go.Lib
def suf_ (s : ByteArray) (i : Nat) : List UInt8 := s.data.toList.drop (bw s.data.toList i)
theorem sufx {s : ByteArray} (hv : Vd s.data.toList) {i : Nat} (h : i ≤ (rv s.data.toList).length) : Vd (suf_ s i) ∧ rv (suf_ s i) = (rv s.data.toList).drop i := by
 rw [rv_len] at h
 exact ⟨(split_at i _ hv h).2.2.2, rv_drop hv h⟩
theorem suf_add {s : ByteArray} (hv : Vd s.data.toList) {i k : Nat} (h : i ≤ (rv s.data.toList).length) : bw s.data.toList (i + k) = bw s.data.toList i + bw (suf_ s i) k ∧ suf_ s (i + k) = (suf_ s i).drop (bw (suf_ s i) k) := by
 rw [rv_len] at h
 have := bw_add hv i k h
 refine ⟨this, ?_⟩
 unfold suf_ at this ⊢
 rw [this, List.drop_drop]
theorem ext_part {s : ByteArray} (hv : Vd s.data.toList) {i k : Nat} (h : i ≤ (rv s.data.toList).length) : s.extract (bw s.data.toList i) (bw s.data.toList (i + k)) = partX (suf_ s i) k := by
 rw [(suf_add hv h).1]
 unfold partX suf_
 apply ByteArray.ext
 apply Array.toList_inj.1
 simp
theorem suf_ne {s : ByteArray} (hv : Vd s.data.toList) {i : Nat} (h : i < (rv s.data.toList).length) : suf_ s i ≠ [] := by
 intro e
 have := (sufx hv (Nat.le_of_lt h)).2
 rw [e, rv_nil] at this
 have := congrArg List.length this
 rw [List.length_drop, List.length_nil] at this
 omega
def tokT (x : Tok × Nat × Int) (i : Nat) : Tok × Int × Int := if x.2.2 = 0 then ({ x.1 with at_ := (i : Int) }, ((i + x.2.1 : Nat) : Int), 0) else (zTok, 0, x.2.2)
def quoI (s : ByteArray) (i : Nat) : Tok × Int × Int :=
 let R := (rv s.data.toList).drop (i + 1)
 let k := quoN R
 if ¬ (k < R.length ∧ R.getD k 0 ≠ 10) then (zTok, 0, 11)
 else if (R.take k).any (fun r => decide (r < 32)) then (zTok, 0, 11)
 else if 20 < k then (zTok, 0, 2)
 else (⟨3, s.extract (bw s.data.toList (i + 1)) (bw s.data.toList (i + 1 + k)), 0, i⟩, ((i + (k + 2) : Nat) : Int), 0)
theorem quoI_is {s : ByteArray} (hv : Vd s.data.toList) {i : Nat} (h : i < (rv s.data.toList).length) (h34 : (rv s.data.toList).getD i 0 = 34) : tokT (quoX (suf_ s i)) i = quoI s i := by
 have hn := suf_ne hv h
 obtain ⟨hv1, hr1⟩ := sufx hv (Nat.le_of_lt h)
 have hd : (decodeL (suf_ s i)).1 = 34 := by
  have e : (rv (suf_ s i)).getD 0 0 = 34 := by
   rw [hr1, List.getD_eq_getElem?_getD, List.getElem?_drop, Nat.add_zero, ← List.getD_eq_getElem?_getD]; exact h34
  rw [rv_cons hn] at e
  have e2 : ((decodeL (suf_ s i)).1 : Int) = 34 := e
  omega
 obtain ⟨h1, _⟩ := rune_low hn hv1 (by omega)
 have hb1 : bw (suf_ s i) 1 = 1 := by rw [bw_succ hn, bw_zero, h1]
 have hs := suf_add hv (k := 1) (Nat.le_of_lt h)
 rw [hb1] at hs
 have hr2 := (sufx hv (i := i + 1) h).2
 rw [hs.2] at hr2
 unfold quoX quoI tokT
 simp only
 rw [hr2]
 generalize hk : quoN ((rv s.data.toList).drop (i + 1)) = k
 by_cases c1 : ¬ (k < ((rv s.data.toList).drop (i + 1)).length ∧ ((rv s.data.toList).drop (i + 1)).getD k 0 ≠ 10)
 ·rw [if_pos c1, if_pos c1]; exact if_neg (by decide)
 ·rw [if_neg c1, if_neg c1]
  by_cases c2 : (((rv s.data.toList).drop (i + 1)).take k).any (fun r => decide (r < 32)) = true
  ·rw [if_pos c2, if_pos c2]; exact if_neg (by decide)
  ·rw [if_neg c2, if_neg c2]
   by_cases c3 : 20 < k
   ·rw [if_pos c3, if_pos c3]; exact if_neg (by decide)
   ·rw [if_neg c3, if_neg c3, ext_part hv (i := i + 1) (k := k) h, hs.2]
    exact if_pos rfl
set_option maxHeartbeats 16000000 in
set_option maxRecDepth 100000 in
theorem xquoted_any (s : ByteArray) (A : Option Addr) (a : Nat) (B : Option Addr) (b : Nat) (i : Nat) (w : World) (h : Txt w s A a B b) (hi : i < (rv s.data.toList).length) :
  Calls Tryz.prog 91 #[txV s A a B b, .int .i64 i] w fun r w' => r = .returned (.tuple #[tokV (quoI s i).1, .int .i64 (quoI s i).2.1, .int .i64 (quoI s i).2.2]) ∧ Below w.heap.size w w' := by
 have hn := h.runes_le
 have hra := h.ra
 have HT := Lib.hid h
 have HR := Lib.hid h.r
 have hp0 := fun (k : Nat) (W : World) (hW : Txt W s A a B b) (h1 : i + 1 ≤ k) (h2 : k ≤ (rv s.data.toList).length) => xpart_any s A a B b (i + 1) k W hW h1 h2
 rw [show ((i + 1 : Nat) : Int) = (i : Int) + 1 by omega] at hp0
 have HP := Lib.hid hp0
 clear hp0
 have HX : Hid (quoI s i = if ¬ (quoN ((rv s.data.toList).drop (i + 1)) < ((rv s.data.toList).drop (i + 1)).length ∧ ((rv s.data.toList).drop (i + 1)).getD (quoN ((rv s.data.toList).drop (i + 1))) 0 ≠ 10) then (zTok, 0, 11)
  else if (((rv s.data.toList).drop (i + 1)).take (quoN ((rv s.data.toList).drop (i + 1)))).any (fun r => decide (r < 32)) then (zTok, 0, 11)
  else if 20 < quoN ((rv s.data.toList).drop (i + 1)) then (zTok, 0, 2)
  else (⟨3, s.extract (bw s.data.toList (i + 1)) (bw s.data.toList (i + 1 + quoN ((rv s.data.toList).drop (i + 1)))), 0, i⟩, ((i + (quoN ((rv s.data.toList).drop (i + 1)) + 2) : Nat) : Int), 0)) := Lib.hid rfl
 generalize quoI s i = QI at HX ⊢
 unfold txV at HP ⊢
 generalize bw s.data.toList = BW at HX HP
 generalize hRR : rv s.data.toList = R at *
 generalize hL2 : (plc s.data.toList).length = L2 at HP ⊢
 clear h
 obtain ⟨KA, hKA⟩ : ∃ x, i + 1 + quoN (R.drop (i + 1)) = x := ⟨_, rfl⟩
 have HKA := Lib.hid hKA
 have hnz : (R.length : Int) ≤ 8192 := by omega
 have hraz : (R.length : Int) ≤ a := by omega
 have hi0 : (0 : Int) ≤ i := by omega
 have hin : (i : Int) ≤ 8192 := by omega
 obtain ⟨w0, hw0⟩ : ∃ w', w.alloc (.cells #[.string s, .slice A R.length a, .slice B L2 b] 99 (0, 0)) = w' := ⟨_, rfl⟩
 have hb0 : Below w.heap.size w w0 := hw0 ▸ (Below.refl _ _).alloc (Nat.le_refl _) _
 have hq0 : TxB w0 w.heap.size s (.slice A R.length a) (.slice B L2 b) := hw0 ▸ heap_alloc_new _ _
 obtain ⟨w1, hw1⟩ : ∃ w', w0.alloc (.cells #[.int .i64 0, .string ⟨#[]⟩, .int .i64 0, .int .i64 0] 60 (0, 0)) = w' := ⟨_, rfl⟩
 have hb1 : Below w0.heap.size w0 w1 := hw1 ▸ (Below.refl _ _).alloc (Nat.le_refl _) _
 have hz1 : w1.heap[w0.heap.size]? = some (.cells #[.int .i64 0, .string ⟨#[]⟩, .int .i64 0, .int .i64 0] 60 (0, 0)) := hw1 ▸ heap_alloc_new _ _
 have hq1 := (hb1.block _ (blk_lt hq0)).trans hq0
 obtain ⟨K, hK⟩ : ∃ K, w.heap.size = K := ⟨_, rfl⟩
 obtain ⟨P, hP⟩ : ∃ P, w0.heap.size = P := ⟨_, rfl⟩
 have hKP : K < P := by rw [← hK, ← hP]; exact blk_lt hq0
 have HKP := Lib.hid hKP
 have HB1 := Lib.hid (hb0.trans (hb1.mono hb0.size))
 have HQ1 : Hid (TxB w1 K s (.slice A R.length a) (.slice B L2 b)) := Lib.hid (by rw [← hK]; exact hq1)
 have HZ1 : Hid (w1.heap[P]? = some (.cells #[.int .i64 0, .string ⟨#[]⟩, .int .i64 0, .int .i64 0] 60 (0, 0))) := Lib.hid (by rw [← hP]; exact hz1)
 have HKW := Lib.hid hK
 have HR1 := Lib.hid (HR.out.keep (Same.of_below (M := []) HB1.out))
 have HT1 := Lib.hid (HT.out.below HB1.out)
 have HW1 := Lib.hid hw1
 have HW0 := Lib.hid hw0
 obtain ⟨⟨y0, y1, y2⟩, _⟩ := blk3 HQ1.out
 obtain ⟨⟨z0, z1, z2, z3⟩, g0, g1, g2, g3⟩ := blk4 HZ1.out
 have hlK := blk_lt HQ1.out
 have hlP := blk_lt HZ1.out
 clear hKA hb0 hq0 hb1 hz1 hq1 hKP HR HT
 go_enter Tryz.func91, Tryz.ntmps91
 go_wp2_with fail
 clear hw0 hw1 hK hP
 go_loopg [7] (R.length + 1) (fun k s7 w' => ∃ m : Nat, s7 = .int .i64 m ∧ i + 1 ≤ m ∧ m ≤ R.length ∧ R.length - m < k ∧ m + quoN (R.drop m) = KA ∧ w' = w1)
 case atStart => exact ⟨i + 1, by go_num, Nat.le_refl _, by omega, by omega, HKA.out, rfl⟩
 case round =>
  obtain ⟨m, rfl, hm1, hm2, hmk, hans, rfl⟩ := hrel
  obtain ⟨gk, rfl⟩ : ∃ k, gk = k + 1 := ⟨gk - 1, by omega⟩
  have hm0 : (0 : Int) ≤ m := by omega
  have hmi : (i : Int) + 1 ≤ m := by omega
  by_cases hlt : m < R.length
  ·have hltz : (m : Int) < R.length := by omega
   obtain ⟨ad, rfl⟩ := row_some HR1.out (by omega)
   obtain ⟨ad', e0, x0⟩ := int_at HR1.out m hlt
   injection e0 with e0
   subst e0
   have hlt2 := World.block_lt_of_cell? wr _ x0
   rw [drop_cons R m hlt] at hans
   obtain ⟨r, hr⟩ : ∃ r, R[m] = r := ⟨_, rfl⟩
   rw [hr] at x0 hans
   by_cases h10 : r = 10
   ·subst h10
    have HE : Hid (QI = (zTok, 0, 11)) := Lib.hid (by
     rw [show quoN ((10 : Int) :: R.drop (m + 1)) = 0 from if_pos (.inr rfl)] at hans
     have hk := HKA.out
     rw [HX.out, show quoN (R.drop (i + 1)) = m - (i + 1) by omega, if_pos]
     rintro ⟨_, e⟩
     refine e ?_
     rw [List.getD_eq_getElem?_getD, List.getElem?_drop, show i + 1 + (m - (i + 1)) = m by omega, List.getElem?_eq_getElem hlt, hr]
     rfl)
    have hne : ((m : Int) == R.length) = false := beqf (by omega)
    clear hans hr
    go_wp2
    refine bodyPost_ret (v := .tuple #[.agg #[.int .i64 0, .string ⟨#[]⟩, .int .i64 0, .int .i64 0], .int .i64 0, .int .i64 11]) (by simp [results, Tryz.results91, go_sem, *]) rfl ?_
    exact ⟨by rw [HE.out]; rfl, below_set4' HB1.out (by rw [HKW.out]; exact Nat.le_of_lt HKP.out) _ _ _ _⟩
   ·have h10b : (r != 10) = true := bnet h10
    have h10c : (r == 10) = false := beqf h10
    by_cases h34 : r = 34
    ·subst h34
     obtain ⟨k0, hk0⟩ : ∃ k, quoN (R.drop (i + 1)) = k := ⟨_, rfl⟩
     rw [show quoN ((34 : Int) :: R.drop (m + 1)) = 0 from if_pos (.inl rfl)] at hans
     have hka := HKA.out
     have hmk : m = i + 1 + k0 := by omega
     obtain ⟨AN, hAN⟩ : ∃ x, ((R.drop (i + 1)).take k0).any (fun r => decide (r < 32)) = x := ⟨_, rfl⟩
     have HX2 : Hid (QI = if AN = true then (zTok, 0, 11) else if 20 < k0 then (zTok, 0, 2) else (⟨3, s.extract (BW (i + 1)) (BW m), 0, i⟩, ((m : Int) + 1), 0)) := Lib.hid (by
      rw [HX.out, hk0, if_neg, hAN, ← hmk, show ((i + (k0 + 2) : Nat) : Int) = (m : Int) + 1 by omega]
      ·intro e
       refine e ⟨by rw [List.length_drop]; omega, ?_⟩
       rw [List.getD_eq_getElem?_getD, List.getElem?_drop, ← hmk, List.getElem?_eq_getElem hlt, hr]
       decide)
     have HAN : Hid (((R.drop (i + 1)).take (m - (i + 1))).any (fun r => decide (r < 32)) = AN) := Lib.hid (by rw [← hAN, show m - (i + 1) = k0 by omega])
     have hne : ((m : Int) == R.length) = false := beqf (by omega)
     have hmr : m ≤ R.length := hm2
     have HMK := Lib.hid hmk
     clear hans hr hk0 hka hAN HX hmk
     go_wp2_with fail
     go_loopg [8] (R.length + 1) (fun k s8 w' => ∃ q : Nat, s8 = .int .i64 q ∧ i + 1 ≤ q ∧ q ≤ m ∧ m - q < k ∧ ((R.drop q).take (m - q)).any (fun r => decide (r < 32)) = AN ∧ w' = wr)
     case atStart => exact ⟨i + 1, by go_num, Nat.le_refl _, by omega, by omega, HAN.out, rfl⟩
     case round =>
      obtain ⟨q, rfl, hq1, hq2, hqk, hans, rfl⟩ := hrel
      obtain ⟨gi, rfl⟩ : ∃ k, gk = k + 1 := ⟨gk - 1, by omega⟩
      have hq0 : (0 : Int) ≤ q := by omega
      by_cases hqm : q < m
      ·have hqmz : (q : Int) < m := by omega
       have hqz : (q : Int) < R.length := by omega
       obtain ⟨ad', e0, v0⟩ := int_at HR1.out q (by omega)
       injection e0 with e0
       subst e0
       have hlt3 := World.block_lt_of_cell? wr _ v0
       rw [drop_cons R q (by omega), show m - q = (m - (q + 1)) + 1 by omega, List.take_succ_cons, List.any_cons] at hans
       generalize R[q]'(by omega) = u at v0 hans
       by_cases hu : u < 32
       ·have HE : Hid (QI = (zTok, 0, 11)) := Lib.hid (by rw [HX2.out, ← hans, decide_eq_true hu]; rfl)
        clear hans
        go_wp2
        refine bodyPost_ret (v := .tuple #[.agg #[.int .i64 0, .string ⟨#[]⟩, .int .i64 0, .int .i64 0], .int .i64 0, .int .i64 11]) (by simp [results, Tryz.results91, go_sem, *]) rfl ?_
        exact ⟨by rw [HE.out]; rfl, below_set4' HB1.out (by rw [HKW.out]; exact Nat.le_of_lt HKP.out) _ _ _ _⟩
       ·have HN : Hid (((R.drop (q + 1)).take (m - (q + 1))).any (fun r => decide (r < 32)) = AN) := Lib.hid (by rw [decide_eq_false hu] at hans; simpa using hans)
        have hu2 : 32 ≤ u := by omega
        clear hans hu
        go_wp2_with fail
        go_roundg gi
        case measure => omega
        case rel => exact ⟨q + 1, by go_num, by omega, by omega, by omega, HN.out, rfl⟩
      ·obtain rfl : q = m := by omega
       rw [Nat.sub_self, List.take_zero, List.any_nil] at hans
       subst hans
       have hnl : ¬ ((q : Int) < q) := by omega
       by_cases h20 : 20 < k0
       ·have HE : Hid (QI = (zTok, 0, 2)) := Lib.hid (by rw [HX2.out, if_neg (by decide), if_pos h20])
        have h20z : (20 : Int) < (q : Int) - i - 1 := by have := HMK.out; omega
        clear h20
        go_wp2
        refine bodyPost_ret (v := .tuple #[.agg #[.int .i64 0, .string ⟨#[]⟩, .int .i64 0, .int .i64 0], .int .i64 0, .int .i64 2]) (by simp [results, Tryz.results91, go_sem, *]) rfl ?_
        exact ⟨by rw [HE.out]; rfl, below_set4' HB1.out (by rw [HKW.out]; exact Nat.le_of_lt HKP.out) _ _ _ _⟩
       ·have HE : Hid (QI = (⟨3, s.extract (BW (i + 1)) (BW q), 0, i⟩, ((q : Int) + 1), 0)) := Lib.hid (by rw [HX2.out, if_neg (by decide), if_neg h20])
        have h20z : (q : Int) - i - 1 ≤ 20 := by have := HMK.out; omega
        have HPC := Lib.hid (HP.out q wr HT1.out hq1 hmr)
        clear h20 HP
        go_wp2_with fail
        refine HPC.out.mono ?_
        rintro e w2 ⟨rfl, hb2⟩
        have HZ2 := Lib.hid ((hb2.block _ hlP).trans HZ1.out)
        have HB2 := Lib.hid (HB1.out.trans (hb2.mono HB1.out.size))
        clear z0 z1 z2 z3 g0 g1 g2 g3 y0 y1 y2 hlK hlP hb2
        obtain ⟨⟨z0, z1, z2, z3⟩, g0, g1, g2, g3⟩ := blk4 HZ2.out
        have hlP := blk_lt HZ2.out
        generalize s.extract (BW (i + 1)) (BW q) = tx at HE ⊢
        go_wp2
        refine bodyPost_ret (v := .tuple #[.agg #[.int .i64 3, .string tx, .int .i64 0, .int .i64 i], .int .i64 ((q : Int) + 1), .int .i64 0]) (by simp [results, Tryz.results91, go_sem, *]) rfl ?_
        exact ⟨by rw [HE.out], below_set4' HB2.out (by rw [HKW.out]; exact Nat.le_of_lt HKP.out) _ _ _ _⟩
    ·have h34b : (r != 34) = true := bnet h34
     have HN : Hid ((m + 1) + quoN (R.drop (m + 1)) = KA) := Lib.hid (by
      rw [show quoN (r :: R.drop (m + 1)) = 1 + quoN (R.drop (m + 1)) from if_neg (by omega)] at hans
      omega)
     clear hans hr h10 h34
     go_wp2_with fail
     go_roundg gk
     case measure => omega
     case rel => exact ⟨m + 1, by go_num, by omega, by omega, by omega, HN.out, rfl⟩
  ·obtain rfl : m = R.length := by omega
   have HE : Hid (QI = (zTok, 0, 11)) := Lib.hid (by
    rw [List.drop_length] at hans
    have hk := HKA.out
    have hz : quoN [] = 0 := rfl
    rw [HX.out, if_pos]
    rintro ⟨e, _⟩
    rw [List.length_drop] at e
    omega)
   have hnl : ¬ ((R.length : Int) < R.length) := by omega
   clear hans
   go_wp2
   refine bodyPost_ret (v := .tuple #[.agg #[.int .i64 0, .string ⟨#[]⟩, .int .i64 0, .int .i64 0], .int .i64 0, .int .i64 11]) (by simp [results, Tryz.results91, go_sem, *]) rfl ?_
   exact ⟨by rw [HE.out]; rfl, below_set4' HB1.out (by rw [HKW.out]; exact Nat.le_of_lt HKP.out) _ _ _ _⟩
end Go.Proofs.YtgcfjkfipkfijaaGreatDoor
