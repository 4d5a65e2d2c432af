/- Part 20 of the proof of ragain_card; no conditions. -/
import Derived.Test.YtgcfjkfipkfijaaGreatDoorAg01
import Derived.Test.YtgcfjkfipkfijaaGreatDoorAg19
import Derived.OwnWalk
import Derived.Deep.AppendLies
set_option maxRecDepth 100000
set_option maxHeartbeats 8000000
namespace Go.Proofs.YtgcfjkfipkfijaaGreatDoor
open Go Go.RowKit Go.Lib Tryz
variable {xs : List Value} {base k n : Nat} {v : Value} {w : World}
def qz : ax Int := ax.int .i64
def m6 (x : Int) : List Value := [.int .i64 x]
theorem xB (M w x) : qz.rep M w x (m6 x) := rfl
theorem xC (x) : (m6 x).length = qz.sz := rfl
theorem qA : (Tryz.prog.info? 3).map (fun i => (i.zero, i.size, i.bytes)) = some (some (.int .i64 0), 1, 8) := by kernel_rfl
theorem xD {M w A ks} (h : qz.Row M w A ks) (k) (hk : k < ks.length) : ∃ ad, A = some ad ∧ w.cell? (ad.add k) = some (.int .i64 ks[k]) := by
 obtain ⟨ad, cs, e, _, hr, hc⟩ := h.at_ k hk
 have hr' : cs = [.int .i64 ks[k]] := hr
 subst hr'
 have := hc 0 _ rfl
 rw [show k * qz.sz + 0 = k by show k * 1 + 0 = k; omega] at this
 exact ⟨ad, e, this⟩
theorem m7 {v0 v1 v2 : Value} {t : TypeId} (h : w.heap[k]? = some (.cells #[v0, v1, v2] t (0, 0))) :
  (w.cell? ⟨k, 0, none⟩ = some v0 ∧ w.cell? ⟨k, 1, none⟩ = some v1 ∧ w.cell? ⟨k, 2, none⟩ = some v2) ∧ w.frozen? ⟨k, 0, none⟩ = false ∧ w.frozen? ⟨k, 1, none⟩ = false ∧ w.frozen? ⟨k, 2, none⟩ = false :=
 ⟨⟨aa h 0, aa h 1, aa h 2⟩, af h 0, af h 1, af h 2⟩
abbrev xE (w : World) (k : Nat) (s : ByteArray) (r a : Value) : Prop := w.heap[k]? = some (.cells #[.string s, r, a] 99 (0, 0))
abbrev m9 (w : World) (base : Nat) (v : Value) (l : List Int) : Prop := w.ownsRow base 3 1 v l.length (l.flatMap m6)
def oY (s : ByteArray) (w : World) (r : Ending) (w' : World) : Prop := ∃ (R Z : List Int) (A : Option Addr) (a : Nat) (B : Option Addr) (b : Nat) (ok : Bool),
 R = gS (ai s.data.toList) 0 ∧ Z = j4 (ai s.data.toList) 0 ∧ ok = dC (ai s.data.toList) ∧
 r = .returned (.tuple #[.agg #[.string s, .slice A R.length a, .slice B Z.length b], .bool ok]) ∧ R.length ≤ a ∧ Z.length ≤ b ∧ qz.Row [] w' A R ∧ qz.Row [] w' B Z ∧ Below w.heap.size w w'
structure qB (s : ByteArray) (pos : Nat) (R Z : List Int) : Prop where
 at_ : pos ≤ s.size
 len : R.length ≤ pos
 same : Z.length = R.length
 row : gS (ai s.data.toList) 0 = R ++ gS (ai (s.data.toList.drop pos)) pos
 places : j4 (ai s.data.toList) 0 = Z ++ j4 (ai (s.data.toList.drop pos)) pos
 ok : dC (ai s.data.toList) = dC (ai (s.data.toList.drop pos))
theorem qB.step {s pos R Z} (h : qB s pos R Z) (hp : pos < s.size) (hb : Utf8.decode s pos ≠ (65533, 1)) :
  qB s (pos + (Utf8.decode s pos).2) (R ++ [((Utf8.decode s pos).1 : Int)]) (Z ++ [(pos : Int)]) := by
 have hr := dQ s pos hp
 have hw := Lib.decode_width_pos s pos hp
 have hf := eB s pos hp
 obtain ⟨h1, h2, h3, h4, h5, h6⟩ := h
 rw [hr] at h4 h5 h6
 rw [gS, K_ hb] at h4
 rw [j4, K_ hb] at h5
 rw [dC, K_ hb] at h6
 refine ⟨hf, ?_, ?_, ?_, ?_, h6⟩
 ·rw [O_, List.length_singleton]; omega
 ·rw [O_, O_, List.length_singleton, List.length_singleton, h3]
 ·rw [h4, o_]; rfl
 ·rw [h5, o_]; rfl
theorem tJ {w base v l} (h : m9 w base v l) : ∃ A c, v = .slice A l.length c ∧ l.length ≤ c ∧ qz.Row [] w A l :=
 gw (d := qz) (enc := m6) xC h (M := []) (fun k hk => by simp at hk) (fun x _ => xB _ _ x)
theorem AK {s w w' A B a b base R Z ok} (hR : R = gS (ai s.data.toList) 0) (hZ : Z = j4 (ai s.data.toList) 0) (hk : ok = dC (ai s.data.toList)) (h1 : m9 w' base (.slice A R.length a) R) (h2 : m9 w' base (.slice B Z.length b) Z) (hb : Below w.heap.size w w') : oY s w (.returned (.tuple #[.agg #[.string s, .slice A R.length a, .slice B Z.length b], .bool ok])) w' := by
 obtain ⟨A', a', e1, l1, r1⟩ := tJ h1
 obtain ⟨B', b', e2, l2, r2⟩ := tJ h2
 injection e1 with e1 _ e3
 injection e2 with e2 _ e4
 subst e1 e2 e3 e4
 exact ⟨R, Z, A, a, B, b, ok, hR, hZ, hk, rfl, l1, l2, r1, r2, hb⟩
def xF (r z : Value) : Prop := z.ownBlock = none ∨ z.ownBlock ≠ r.ownBlock
theorem mA {g : Nat} {c : Nat} {z : Value} {m : Nat} (h : xF v z) (hz : w.ownsRow base 3 1 z m xs) (hat : v.ownBlock = some g ∨ g = w.heap.size + 1) : xF z (.slice (some ⟨g, 0, none⟩) n c) := by
 right
 show some g ≠ z.ownBlock
 rcases hat with e | e
 ·rw [← e]
  rcases h with h | h
  ·rw [e, h]; simp
  ·exact fun e => h e.symm
 ·intro e2
  have := (aG hz g e2.symm).2
  omega
theorem j5 {P : Nat} (h : w.ownsRow base 3 1 v n xs) (hP : P < base) (a b c) : (((w.setCell ⟨P, 0, none⟩ a).setCell ⟨P, 1, none⟩ b).setCell ⟨P, 2, none⟩ c).ownsRow base 3 1 v n xs := by
 have hne : v.ownBlock ≠ some P := fun e => by have := (aG h P e).1; omega
 exact ew (ew (ew h (p := ⟨P, 0, none⟩) hne a) (p := ⟨P, 1, none⟩) hne b) (p := ⟨P, 2, none⟩) hne c
theorem mB {B P w W} (h : Below B w W) (hP : B ≤ P) (a b c) : Below B w (((W.setCell ⟨P, 0, none⟩ a).setCell ⟨P, 1, none⟩ b).setCell ⟨P, 2, none⟩ c) :=
 ((h.setCell hP a).setCell hP b).setCell hP c
theorem eZ {w' : World} {o : Obj} {ob : Obj} (h : w.ownsRow base 3 1 v n xs) (hg : (w.alloc o).grownBy w' v.ownBlock) (hk : w.heap[k]? = some ob) (hb : k < base) : w'.heap[k]? = some ob := by
 have hne : some k ≠ v.ownBlock := fun e => by have := (aG h k e.symm).1; omega
 have hl : k < w.heap.size := ab hk
 exact (hg.block k (by simp; omega) hne).trans ((((J_ w.heap.size w).alloc le_ o).block k hl).trans hk)
theorem sl (s w) (hs : s.size ≤ 17592186044400) : Calls prog 57 #[.string s] w (oY s w) := by
 have hsz : (s.size : Int) ≤ 17592186044400 := by omega
 obtain ⟨w0, hw0, hal, _⟩ := alo_ w (.cells #[.string ⟨#[]⟩, .slice none 0 0, .slice none 0 0] 99 (0, 0))
 have hq : xE w0 w.heap.size ⟨#[]⟩ (.slice none 0 0) (.slice none 0 0) := hw0 ▸ I_ _ _
 obtain ⟨P, hP⟩ := nm_ w.heap.size
 obtain ⟨w1, hw1, hb1, _⟩ := alo_ w0 (.cells #[.string s, .slice none 0 0, .slice none 0 0] 99 (0, 0))
 have hq1 : xE w1 w0.heap.size s (.slice none 0 0) (.slice none 0 0) := hw1 ▸ I_ _ _
 obtain ⟨G, hG⟩ := nm_ w0.heap.size
 have HPG : Hid (P < G) := hid (by rw [← hP, ← hG]; exact ab hq)
 have HP1 : Hid (xE w1 P ⟨#[]⟩ (.slice none 0 0) (.slice none 0 0)) := hid (by rw [← hP]; exact (hb1.block _ (ab hq)).trans hq)
 have HG1 : Hid (xE w1 G s (.slice none 0 0) (.slice none 0 0)) := hid (by rw [← hG]; exact hq1)
 have HB1 : Hid (Below P w w1) := hid (by rw [← hP]; exact hal.trans (hb1.mono hal.size))
 have HW := hid hP
 have HW1 := hid hw1
 have HWG := hid hG
 have HR0 : Hid (qB s 0 [] []) := hid ⟨by omega, by simp, rfl, by simp, by simp, by simp⟩
 clear hal hq hb1 hq1 hw1
 go_enter func57, ntmps57
 go_wp2_with fail
 rw [HW1.out]
 clear hw0 hG hP
 go_loopg [5] (s.size + 1) (fun k s5 w' => ∃ (pos : Nat) (R Z : List Int) (A : Option Addr) (a : Nat) (B : Option Addr) (b : Nat), s5 = .int .i64 pos ∧ s.size - pos < k ∧
  xE w' G s (.slice A R.length a) (.slice B Z.length b) ∧ xE w' P ⟨#[]⟩ (.slice none 0 0) (.slice none 0 0) ∧ m9 w' (G + 1) (.slice A R.length a) R ∧ m9 w' (G + 1) (.slice B Z.length b) Z ∧
  xF (.slice A R.length a) (.slice B Z.length b) ∧ qB s pos R Z ∧ Below P w w')
 case atStart => exact ⟨0, [], [], none, 0, none, 0, rfl, by omega, HG1.out, HP1.out, ⟨rfl, .inl ⟨rfl, rfl⟩⟩, ⟨rfl, .inl ⟨rfl, rfl⟩⟩, .inl rfl, HR0.out, HB1.out⟩
 case round =>
  obtain ⟨pos, R, Z, A, a, B, b, rfl, hk, hg, hpz, ho1, ho2, hap, hra, hbl⟩ := hrel
  obtain ⟨gk, rfl⟩ := pk_ gk 1 (by omega)
  have HGr := hid hg
  have HPr := hid hpz
  have HO1 := hid ho1
  have HO2 := hid ho2
  have HAP := hid hap
  have HRA := hid hra
  have HBL := hid hbl
  have hat := hra.at_
  have hlen := hra.len
  have hzl : Z.length ≤ pos := by have := hra.same; have := hra.len; omega
  have hpos0 : (0 : Int) ≤ pos := by omega
  clear HG1 HP1 HR0 HB1 ho1 ho2 hap hra hbl
  by_cases hp : pos < s.size
  ·have hpz' : (pos : Int) < s.size := by omega
   have hwd := Lib.decode_width_pos s pos hp
   have hfit := eB s pos hp
   have hle := fc s pos
   obtain ⟨⟨x0, x1, x2⟩, fg⟩ := m7 hg
   obtain ⟨⟨y0, y1, y2⟩, g0, g1, g2⟩ := m7 hpz
   have hlG := ab hg
   have hlP := ab hpz
   clear hg hpz
   have HRU := hid (vg s pos wr hp (by omega))
   by_cases hbad : Utf8.decode s pos = (65533, 1)
   ·have HX : Hid (false = dC (ai s.data.toList) ∧ R = gS (ai s.data.toList) 0 ∧ Z = j4 (ai s.data.toList) 0) := hid (by
     have h := HRA.out
     obtain ⟨_, _, _, h4, h5, h6⟩ := h
     rw [dQ s pos hp] at h4 h5 h6
     rw [gS, M_ hbad, List.append_nil] at h4
     rw [j4, M_ hbad, List.append_nil] at h5
     rw [dC, M_ hbad] at h6
     exact ⟨h6.symm, h4.symm, h5.symm⟩)
    rw [hbad, vf] at HRU
    clear hbad hwd hfit hle
    go_wp2_with fail
    refine HRU.out.mono ?_
    rintro r w2 ⟨rfl, rfl⟩
    go_wp2
    refine L_ (v := .tuple #[.agg #[.string s, .slice A R.length a, .slice B Z.length b], .bool false]) (by simp [results, results57, go_sem, *]) rfl ?_
    obtain ⟨e1, e2, e3⟩ := HX.out
    have hPG := HPG.out
    exact AK e2 e3 e1 (j5 HO1.out (by omega) _ _ _) (j5 HO2.out (by omega) _ _ _) (by rw [HW.out]; exact mB HBL.out le_ _ _ _)
   ·have HST := hid (HRA.out.step hp hbad)
    obtain ⟨r, n, hd⟩ : ∃ r n, Utf8.decode s pos = (r, n) := ⟨_, _, rfl⟩
    rw [hd] at HRU HST hwd hfit hle hbad
    rw [iw (fun e => hbad (by rw [e.1, e.2]))] at HRU
    have hnb : ((n : Int) == 0) = false := aO (by simp at hwd; omega)
    simp only at hwd hfit hle
    have hPG := HPG.out
    obtain ⟨i0, hi0, hz0, hz1, hz2⟩ := info_parts qA
    clear hd hbad
    go_wp2_with fail
    refine HRU.out.mono ?_
    rintro e w2 ⟨rfl, rfl⟩
    go_wp2_with (at_builtin; refine wpList_append_lies _ (by rfl) _ _ _ (by rfl) (G + 1) 3 i0 _ 1 8 underlying36 hi0 hz0 hz1 hz2 rfl (by omega) (.slice A R.length a) R.length (R.flatMap m6) (by rfl) (HO1.out.alloc _) ⟨w2.heap.size, 0, none⟩ 1 1 [.int .i64 r] (by rfl) (by rfl) (World.news_of_block (cs := #[.int .i64 r]) (t := 3) (fr := (0, 0)) (I_ w2 _)) (by simp [Value.oneCell']) (by omega) (by unfold maxLen; omega) (by omega) (by simp; omega) (w2.heap.size + 1) (by simp) ?_; intro g cap w3 hown3 hgrow hat3 hlt3; refine Hid.out ?_)
    refine hid ?_
    have hg3 := eZ HO1.out hgrow HGr.out (n_ G)
    have hp3 := eZ HO1.out hgrow HPr.out (by omega)
    have ho3 : w3.ownsRow (G + 1) 3 1 (.slice B Z.length b) Z.length (Z.flatMap m6) := (HO2.out.alloc _).kept hgrow HAP.out
    have hap3 := mA (n := R.length + 1) (c := cap) HAP.out HO2.out hat3
    have hb3 : Below P w w3 := ((Same.of_below (M := []) (by rw [HW.out]; exact HBL.out)).alloc _ |>.grown hgrow (fun k hk => .inr (by have := (aG HO1.out k hk).1; have := HW.out; omega))).below.mono (by rw [HW.out]; exact H_ _)
    clear x0 x1 x2 y0 y1 y2 fg g0 g1 g2 hlG hlP
    obtain ⟨⟨x0, x1, x2⟩, f0, f1, f2⟩ := m7 hg3
    have hlG := ab hg3
    obtain ⟨N3, hN3⟩ := nm_ w3.heap.size
    obtain ⟨w4, hw4⟩ := nm_ (w3.setCell ⟨G, 1, none⟩ (.slice (some ⟨g, 0, none⟩) (R.length + 1) cap))
    have hN4 : w4.heap.size = N3 := by rw [← hw4, ← hN3]; simp [World.setCell]
    have hg4 : xE w4 G s (.slice (some ⟨g, 0, none⟩) (R.length + 1) cap) (.slice B Z.length b) := by rw [← hw4]; exact bh hg3 1 _
    have hp4 : xE w4 P ⟨#[]⟩ (.slice none 0 0) (.slice none 0 0) := by rw [← hw4]; exact (Below.heap_setCell _ ⟨G, 1, none⟩ _ P (by show P ≠ G; omega)).trans hp3
    have hr4 : w4.ownsRow (G + 1) 3 1 (.slice (some ⟨g, 0, none⟩) (R.length + 1) cap) (R.length + 1) (R.flatMap m6 ++ [.int .i64 r]) := by
     rw [← hw4]; exact ew hown3 (p := ⟨G, 1, none⟩) (fun e => by have := (aG hown3 G e).1; omega) _
    have ho4 : w4.ownsRow (G + 1) 3 1 (.slice B Z.length b) Z.length (Z.flatMap m6) := by
     rw [← hw4]; exact ew ho3 (p := ⟨G, 1, none⟩) (fun e => by have := (aG ho3 G e).1; omega) _
    have hb4 : Below P w w4 := by rw [← hw4]; exact hb3.setCell (by show P ≤ G; omega) _
    obtain ⟨⟨k0, k1, k2⟩, e0, e1, e2⟩ := m7 hg4
    have hlG4 := ab hg4
    have HG4 := hid hg4
    have HP4 := hid hp4
    have HR4 := hid hr4
    have HO4 := hid ho4
    have HB4 := hid hb4
    have HAP4 := hid hap3
    have HNEW : Hid (∀ o, (w4.alloc o).heap[N3]? = some o) := hid (fun o => by rw [← hN4]; exact I_ w4 o)
    clear hg3 hp3 hown3 ho3 hb3 hgrow hat3 hlt3 hap3 hg4 hp4 hr4 ho4 hb4
    go_wp2_with (at_builtin; refine wpList_append_lies _ (by rfl) _ _ _ (by rfl) (G + 1) 3 i0 _ 1 8 underlying36 hi0 hz0 hz1 hz2 rfl (by omega) (.slice B Z.length b) Z.length (Z.flatMap m6) (by rfl) (HO4.out.alloc _) ⟨N3, 0, none⟩ 1 1 [.int .i64 pos] (by rfl) (by rfl) (World.news_of_block (cs := #[.int .i64 pos]) (t := 3) (fr := (0, 0)) (HNEW.out _)) (by simp [Value.oneCell']) (by omega) (by unfold maxLen; omega) (by omega) (by simp; omega) (w4.heap.size + 1) (by simp) ?_; intro g2 cap2 w5 hown5 hgrow5 hat5 hlt5; refine Hid.out ?_)
    refine hid ?_
    have hg5 := eZ HO4.out hgrow5 HG4.out (n_ G)
    have hp5 := eZ HO4.out hgrow5 HP4.out (by omega)
    have ho5 := (HR4.out.alloc _).kept hgrow5 (.inr (by rcases HAP4.out with h | h; cases h; exact h))
    have hap5 := mA (n := Z.length + 1) (c := cap2) HAP4.out HR4.out hat5
    have hb5 : Below P w w5 := ((Same.of_below (M := []) (by rw [HW.out]; exact HB4.out)).alloc _ |>.grown hgrow5 (fun k hk => .inr (by have := (aG HO4.out k hk).1; have := HW.out; omega))).below.mono (by rw [HW.out]; exact H_ _)
    clear x0 x1 x2 f0 f1 f2 k0 k1 k2 e0 e1 e2 hlG hlG4 hw4 hN3 hN4
    obtain ⟨⟨x0, x1, x2⟩, f0, f1, f2⟩ := m7 hg5
    have hlG := ab hg5
    have HG5 := hid hg5
    have HP5 := hid hp5
    have HR5 := hid ho5
    have HZ5 := hid hown5
    have HB5 := hid hb5
    have HAP5 := hid hap5
    clear hg5 hp5 ho5 hown5 hb5 hgrow5 hat5 hlt5 hap5
    go_wp2_with fail
    go_roundg gk
    case measure => omega
    case rel =>
     have hl1 : (R ++ [(r : Int)]).length = R.length + 1 := by simp
     have hl2 : (Z ++ [(pos : Int)]).length = Z.length + 1 := by simp
     refine ⟨pos + n, R ++ [(r : Int)], Z ++ [(pos : Int)], some ⟨g, 0, none⟩, cap, some ⟨g2, 0, none⟩, cap2, by go_num, by omega, ?_, ?_, ?_, ?_, ?_, HST.out, ?_⟩
     ·rw [hl1, hl2]; exact bh HG5.out 2 _
     ·exact (Below.heap_setCell _ ⟨G, 2, none⟩ _ P (by show P ≠ G; omega)).trans HP5.out
     ·unfold m9
      rw [hl1, p_]
      exact ew HR5.out (p := ⟨G, 2, none⟩) (fun e => by have := (aG HR5.out G e).1; omega) _
     ·unfold m9
      rw [hl2, p_]
      exact ew HZ5.out (p := ⟨G, 2, none⟩) (fun e => by have := (aG HZ5.out G e).1; omega) _
     ·rw [hl1, hl2]; exact HAP5.out
     ·exact HB5.out.setCell (by show P ≤ G; omega) _
  ·obtain rfl : pos = s.size := by omega
   have hnz : ¬ ((s.size : Int) < s.size) := by omega
   obtain ⟨⟨x0, x1, x2⟩, f0, f1, f2⟩ := m7 hg
   have hlG := ab hg
   have hlP := ab hpz
   have hPG := HPG.out
   have HX : Hid (true = dC (ai s.data.toList) ∧ R = gS (ai s.data.toList) 0 ∧ Z ++ [(s.size : Int)] = j4 (ai s.data.toList) 0) := hid (by
    have h := HRA.out
    obtain ⟨_, _, _, h4, h5, h6⟩ := h
    rw [di s s.size (by omega)] at h4 h5 h6
    rw [gS, List.append_nil] at h4
    exact ⟨h6.symm, h4.symm, h5.symm⟩)
   obtain ⟨i0, hi0, hz0, hz1, hz2⟩ := info_parts qA
   clear hg hpz
   go_wp2_with (at_builtin; refine wpList_append_lies _ (by rfl) _ _ _ (by rfl) (G + 1) 3 i0 _ 1 8 underlying36 hi0 hz0 hz1 hz2 rfl (by omega) (.slice B Z.length b) Z.length (Z.flatMap m6) (by rfl) (HO2.out.alloc _) ⟨wr.heap.size, 0, none⟩ 1 1 [.int .i64 s.size] (by rfl) (by rfl) (World.news_of_block (cs := #[.int .i64 s.size]) (t := 3) (fr := (0, 0)) (I_ wr _)) (by simp [Value.oneCell']) (by omega) (by unfold maxLen; omega) (by omega) (by simp; omega) (wr.heap.size + 1) (by simp) ?_; intro g2 cap2 w5 hown5 hgrow5 hat5 hlt5; refine Hid.out ?_)
   refine hid ?_
   have hg5 := eZ HO2.out hgrow5 HGr.out (n_ G)
   have hp5 := eZ HO2.out hgrow5 HPr.out (by omega)
   have ho5 := (HO1.out.alloc _).kept hgrow5 (by
    rcases HAP.out with h | h
    ·rw [h]
     cases hv : (Value.slice A R.length a).ownBlock with
     | none => exact .inl rfl
     | some k => exact .inr (by simp)
    ·exact .inr (fun e => h e.symm))
   have hb5 : Below P w w5 := ((Same.of_below (M := []) (by rw [HW.out]; exact HBL.out)).alloc _ |>.grown hgrow5 (fun k hk => .inr (by have := (aG HO2.out k hk).1; have := HW.out; omega))).below.mono (by rw [HW.out]; exact H_ _)
   clear x0 x1 x2 f0 f1 f2 hlG hlP
   obtain ⟨⟨x0, x1, x2⟩, f0, f1, f2⟩ := m7 hg5
   obtain ⟨N5, hN5⟩ := nm_ w5.heap.size
   obtain ⟨w6, hw6⟩ := nm_ (w5.setCell ⟨G, 2, none⟩ (.slice (some ⟨g2, 0, none⟩) (Z.length + 1) cap2))
   have hN6 : w6.heap.size = N5 := by rw [← hw6, ← hN5]; simp [World.setCell]
   have hg6 : xE w6 G s (.slice A R.length a) (.slice (some ⟨g2, 0, none⟩) (Z.length + 1) cap2) := by rw [← hw6]; exact bh hg5 2 _
   have hp6 : xE w6 P ⟨#[]⟩ (.slice none 0 0) (.slice none 0 0) := by rw [← hw6]; exact (Below.heap_setCell _ ⟨G, 2, none⟩ _ P (by show P ≠ G; omega)).trans hp5
   have hr6 : m9 w6 (G + 1) (.slice A R.length a) R := by
    rw [← hw6]; exact ew ho5 (p := ⟨G, 2, none⟩) (fun e => by have := (aG ho5 G e).1; omega) _
   have hl2 : (Z ++ [(s.size : Int)]).length = Z.length + 1 := by simp
   have hz6 : m9 w6 (G + 1) (.slice (some ⟨g2, 0, none⟩) (Z ++ [(s.size : Int)]).length cap2) (Z ++ [(s.size : Int)]) := by
    unfold m9
    rw [← hw6, hl2, p_]
    exact ew hown5 (p := ⟨G, 2, none⟩) (fun e => by have := (aG hown5 G e).1; omega) _
   have hb6 : Below P w w6 := by rw [← hw6]; exact hb5.setCell (by show P ≤ G; omega) _
   obtain ⟨⟨k0, k1, k2⟩, e0, e1, e2⟩ := m7 hg6
   obtain ⟨⟨y0, y1, y2⟩, u0, u1, u2⟩ := m7 hp6
   have hlG := ab hg6
   have hlP := ab hp6
   have hlG5 := ab hg5
   have HR6 := hid hr6
   have HZ6 := hid hz6
   have HB6 := hid hb6
   have HL2 := hid hl2
   clear hg5 hp5 ho5 hown5 hb5 hgrow5 hat5 hlt5 hg6 hp6 hr6 hz6 hb6 hl2
   go_wp2
   refine L_ (v := .tuple #[.agg #[.string s, .slice A R.length a, .slice (some ⟨g2, 0, none⟩) (Z.length + 1) cap2], .bool true]) (by simp [results, results57, go_sem, *]) rfl ?_
   obtain ⟨q1, q2, q3⟩ := HX.out
   have h := AK q2 q3 q1 (j5 HR6.out (show P < G + 1 by omega) (.string s) (.slice A R.length a) (.slice (some ⟨g2, 0, none⟩) (Z.length + 1) cap2)) (j5 HZ6.out (show P < G + 1 by omega) _ _ _) (by rw [HW.out]; exact mB HB6.out le_ _ _ _)
   rw [HL2.out] at h
   exact h
theorem vh (rs) : (rs.map (fun r => (r.1 : Int))).all oX = dR rs := by
 unfold dR
 rw [List.all_map]
 rfl
theorem vi (s w) (hs : s.size ≤ 17592186044400) : Calls prog 142 #[.string s] w fun r w' => r = .returned (.bool (cg s)) ∧ Below w.heap.size w w' := by
 rw [← xy]
 have HRU := hid (sl s w hs)
 unfold oY at HRU
 generalize ai s.data.toList = rs at HRU ⊢
 go_enter func142, ntmps142
 go_wp2_with fail
 refine HRU.out.mono ?_
 rintro r w1 ⟨R, Z, A, a, B, b, ok, hR, hZ, hok, rfl, hla, hlb, hra, hrb, hb1⟩
 have HB1 := hid hb1
 have hmax := hra.1
 clear HRU hZ hlb hrb hb1
 cases ok
 ·have HX : Hid (gT rs = false) := hid (by unfold gT; rw [← hok]; rfl)
  clear hR hok hla hra
  go_wp2_with fail
  go_ret
  exact ⟨bS HX.out.symm, HB1.out.alloc HB1.out.size _⟩
 ·have hRm : R = rs.map (fun r => (r.1 : Int)) := by rw [hR]; exact qx rs 0 hok.symm
  have hlen : R.length = rs.length := by rw [hRm, U_]
  have hwo : R.all oX = dR rs := by rw [hRm]; exact vh rs
  have hlaz : (R.length : Int) ≤ a := by omega
  have hmz : (R.length : Int) ≤ 9223372036854775807 := by omega
  by_cases h0 : R.length = 0
  ·have HX : Hid (gT rs = false) := hid (by unfold gT; rw [← hlen, h0]; simp)
   have h0b : ((R.length : Int) == 0) = true := D_ (by omega)
   clear hR hok hla hra hRm hlen hwo h0
   go_wp2_with fail
   go_ret
   exact ⟨bS HX.out.symm, HB1.out.alloc HB1.out.size _⟩
  ·have h0b : ((R.length : Int) == 0) = false := aO (by omega)
   by_cases h12 : 12 < R.length
   ·have HX : Hid (gT rs = false) := hid (by unfold gT; rw [V_ (show ¬ rs.length ≤ 12 by omega)]; simp)
    have h12z : (12 : Int) < R.length := by omega
    clear hR hok hla hra hRm hlen hwo h0 h12
    go_wp2_with fail
    go_ret
    exact ⟨bS HX.out.symm, HB1.out.alloc HB1.out.size _⟩
   ·have h12z : (R.length : Int) ≤ 12 := by omega
    have hpz : (0 : Int) < R.length := by omega
    obtain ⟨ad, rfl⟩ := mi hra (by omega)
    obtain ⟨ad', e0, x0⟩ := xD hra 0 (by omega)
    injection e0 with e0
    subst e0
    obtain ⟨r0, hr0⟩ := nm_ (R[0]'(by omega))
    rw [hr0, show ad.add 0 = ad from by unfold Addr.add; rw [M_ rfl]] at x0
    have hd : ((rs.headD (0, 0)).1 : Int) = r0 := by
     rw [← hr0]
     cases rs with
     | nil => exact absurd (show R.length = 0 from hlen) (by omega)
     | cons p ps => simp [hRm]
    have hlt := N_ w1 _ x0
    have HRA := hid hra
    obtain ⟨c0, hc0⟩ := nm_ (cO r0)
    have HC : Hid (∀ W, Calls prog 87 #[.int .i64 r0] W fun e w' => e = .returned (.int .i64 c0) ∧ W = w') := hid (fun W => by have := mw r0 W; rw [hc0] at this; exact this.mono (fun e w' h => ⟨h.1, h.2.symm⟩))
    have HX : Hid (gT rs = (c0 == 2 && R.all oX)) := hid (by
     unfold gT
     rw [← hok, hd, hc0, hwo, ← hlen, W_ (show 0 < R.length by omega), W_ (show R.length ≤ 12 by omega)]
     rfl)
    clear hR hok hla hra hRm hlen hwo h0 h12 hr0 hd hc0
    by_cases hc : c0 = 2
    ·subst hc
     obtain ⟨ANS, hANS⟩ := nm_ (R.all oX)
     have HX2 : Hid (gT rs = ANS) := hid (by rw [HX.out, hANS]; rfl)
     have HANS := hid hANS
     clear hANS
     obtain ⟨w2, hw2, hb2, _⟩ := alo_ w1 (.cells #[.string s, .slice (some ad) R.length a, .slice B Z.length b] 99 (0, 0))
     have hq2 : xE w2 w1.heap.size s (.slice (some ad) R.length a) (.slice B Z.length b) := hw2 ▸ I_ _ _
     obtain ⟨⟨y0, y1, y2⟩, _⟩ := m7 hq2
     have HRA2 := hid (HRA.out.keep (Same.of_below (M := []) hb2))
     have HB2 := tm_ HB1 hb2
     have x0' := (hb2.cell hlt).trans x0
     have hlt' := N_ w2 _ x0'
     clear hb2 hq2 x0 hlt
     go_wp2_with (go_at_call 87; refine (HC.out _).mono ?_; rintro e w' ⟨rfl, rfl⟩)
     go_loopg [5] (R.length + 1) (fun k s5 w' => ∃ i : Nat, s5 = .int .i64 i ∧ i ≤ R.length ∧ R.length - i < k ∧ (R.drop i).all oX = ANS ∧ w' = w2)
     case atStart => exact ⟨0, rfl, by omega, by omega, HANS.out, rfl⟩
     case round =>
      obtain ⟨i, rfl, hi, hik, hans, rfl⟩ := hrel
      obtain ⟨gk, rfl⟩ := pk_ gk 1 (by omega)
      have hi0 : (0 : Int) ≤ i := by omega
      by_cases hlt : i < R.length
      ·have hltz : (i : Int) < R.length := by omega
       obtain ⟨ad', e0, z0⟩ := xD HRA2.out i hlt
       injection e0 with e0
       subst e0
       obtain ⟨ri, hri⟩ := nm_ (R[i])
       rw [hri] at z0
       have hltb := N_ wr _ z0
       rw [fR R i hlt, List.all_cons, hri] at hans
       have HCW := hid (fun W => sk ri W)
       obtain ⟨wi, hwi⟩ := nm_ (oX ri)
       rw [hwi] at hans HCW
       have HN := hid hans
       clear hans hri hwi
       cases wi
       ·go_wp2_with (go_at_call 109; refine (HCW.out _).mono ?_; rintro e w' ⟨rfl, rfl⟩)
        go_ret
        have h := HN.out
        exact ⟨bS (by rw [HX2.out, ← h]; rfl), HB2.out⟩
       ·go_wp2_with (go_at_call 109; refine (HCW.out _).mono ?_; rintro e w' ⟨rfl, rfl⟩)
        go_roundg gk
        case measure => omega
        case rel => exact ⟨i + 1, by go_num, by omega, by omega, by have h := HN.out; simpa using h, rfl⟩
      ·have hgez : (R.length : Int) ≤ i := by omega
       rw [List.drop_of_length_le (by omega)] at hans
       have HN := hid hans
       clear hans
       go_wp2_with fail
       go_ret
       have h := HN.out
       exact ⟨bS (by rw [HX2.out, ← h]; rfl), HB2.out⟩
    ·have hcb : (c0 != 2) = true := jA hc
     have HX2 : Hid (gT rs = false) := hid (by rw [HX.out, aO hc]; rfl)
     clear hc
     go_wp2_with (go_at_call 87; refine (HC.out _).mono ?_; rintro e w' ⟨rfl, rfl⟩)
     go_ret
     exact ⟨bS HX2.out.symm, HB1.out.alloc HB1.out.size _⟩
inductive tK : Ex → Prop where
 | mk {op n : Int} {nm : ByteArray} {ks : List Ex} (h1 : nm.size ≤ 200) (h2 : ∀ k, k ∈ ks → tK k) : tK (.mk op n nm ks)
theorem tK.name {e} (h : tK e) : e.name.size ≤ 200 := by cases h; assumption
theorem tK.kids {e} (h : tK e) : ∀ k, k ∈ e.kids → tK k := by cases h; assumption
theorem xG (o) : aH o ≤ 6 := by
 unfold aH
 repeat' split
 all_goals omega
theorem j6 (e : Ex) (A : Option Addr) (c i : Nat) (w : World) (hr : dZ.Row [] w A e.kids) (hi : i < e.kids.length) (hlc : e.kids.length ≤ c) :
  Calls prog 127 #[cM e A c, .int .i64 i] w fun r w' => r = .returned (.bool (ag e.op e.kids[i].op i)) ∧ Below w.heap.size w w' := by
 obtain ⟨ad, A', c', hA, h0, h1, h2, h3, _, _, _⟩ := vR hr i hi
 subst hA
 obtain ⟨o1, ho1⟩ := nm_ e.op
 obtain ⟨o2, ho2⟩ := nm_ (e.kids[i].op)
 obtain ⟨L, hL⟩ := nm_ e.kids.length
 have HX : Hid (ag o1 o2 i = (decide (aH o2 < aH o1) || (aH o2 == aH o1 && decide (aH o1 < 6) && ((i : Int) == 1 || aH o1 == 3)))) := rfl
 unfold cM
 rw [ho2] at h0
 rw [ho1, ho2, hL]
 rw [hL] at hi hlc
 have hlt := N_ w _ h0
 have hz : (i : Int) < L := by omega
 have hz0 : (0 : Int) ≤ i := by omega
 have hlcz : (L : Int) ≤ c := by omega
 have hle := xG o1
 have HL1 := hid (fun W => oa o1 W)
 have HL2 := hid (fun W => oa o2 W)
 generalize aH o1 = l1 at HX HL1 hle
 generalize aH o2 = l2 at HX HL2
 have hw : (l2 < l1 ∧ ag o1 o2 i = true) ∨ (l1 ≤ l2 ∧ (l2 == l1) = false ∧ ag o1 o2 i = false) ∨ (l1 ≤ l2 ∧ (l2 == l1) = true ∧ (l1 != 6) = false ∧ ag o1 o2 i = false) ∨
   (l1 ≤ l2 ∧ (l2 == l1) = true ∧ (l1 != 6) = true ∧ ((i : Int) == 1) = true ∧ ag o1 o2 i = true) ∨ (l1 ≤ l2 ∧ (l2 == l1) = true ∧ (l1 != 6) = true ∧ ((i : Int) == 1) = false ∧ ag o1 o2 i = (l1 == 3)) := by
  rw [HX.out]
  by_cases h1 : l2 < l1
  ·exact .inl ⟨h1, by rw [W_ h1]; rfl⟩
  ·rw [V_ h1]
   by_cases h2 : l2 = l1
   ·subst h2
    have hb : (l2 == l2) = true := D_ rfl
    rw [hb]
    by_cases h3 : l2 = 6
    ·exact .inr (.inr (.inl ⟨l_ _, rfl, km h3, by rw [V_ (by omega)]; rfl⟩))
    ·rw [W_ (show l2 < 6 by omega)]
     by_cases h4 : (i : Int) = 1
     ·exact .inr (.inr (.inr (.inl ⟨l_ _, rfl, jA h3, D_ h4, by rw [D_ h4]; rfl⟩)))
     ·exact .inr (.inr (.inr (.inr ⟨l_ _, rfl, jA h3, aO h4, by rw [aO h4]; rfl⟩)))
   ·rw [aO h2]
    exact .inr (.inl ⟨by omega, rfl, rfl⟩)
 clear h1 h2 h3 hr ho1 ho2 hL HX hle
 rcases hw with ⟨h1, h2⟩ | ⟨h1, h3, h2⟩ | ⟨h1, h3, h4, h2⟩ | ⟨h1, h3, h4, h5, h2⟩ | ⟨h1, h3, h4, h5, h2⟩
 all_goals
  have HX := hid h2
  clear h2
  go_enter func127, ntmps127
  go_wp2_with fail
  refine (HL1.out _).mono ?_
  rintro r w1 ⟨rfl, rfl⟩
  go_wp2_with fail
  refine (HL2.out _).mono ?_
  rintro r w2 ⟨rfl, rfl⟩
  go_wp2_with fail
  go_ret
  exact ⟨bS HX.out.symm, (J_ _ _).alloc le_ _⟩
theorem sm {o n nm ks most} (hm : 1 ≤ most) (h : o = 0 ∨ o = 1) :
  cL (.mk o n nm ks) most = if 0 < ks.length ∨ o = 0 ∧ (n < 0 ∨ nm.size ≠ 0) ∨ o = 1 ∧ (n ≠ 0 ∨ cg nm = false) then -1 else most - 1 := by
 rw [cL, K_ (show ¬ (most < 1 ∨ o < 0 ∨ 16 < o) by omega), M_ h]
theorem sn {o n nm ks most} (hm : 1 ≤ most) (h2 : 2 ≤ o) (h16 : o ≤ 16) :
  cL (.mk o n nm ks) most = if ks.length ≠ aE o ∨ n ≠ 0 ∨ nm.size ≠ 0 then -1 else dv o ks 0 (most - 1) := by
 rw [cL, K_ (show ¬ (most < 1 ∨ o < 0 ∨ 16 < o) by omega), K_ (show ¬ (o = 0 ∨ o = 1) by omega)]
theorem vj (o n nm L A c most w) (h : most < 1 ∨ o < 0 ∨ 16 < o) :
  Calls prog 126 #[.agg #[.int .i64 o, .int .i64 n, .string nm, .slice A L c], .int .i64 most] w fun r w' => r = .returned (.int .i64 (-1)) ∧ Below w.heap.size w w' := by
 have h3 : most < 1 ∨ (1 ≤ most ∧ o < 0) ∨ (1 ≤ most ∧ 0 ≤ o ∧ 16 < o) := by omega
 clear h
 rcases h3 with h | ⟨h, h2⟩ | ⟨h, h2, h3⟩
 all_goals
  go_enter func126, ntmps126
  go_wp2_with fail
  go_ret
  exact ⟨rfl, (J_ _ _).alloc le_ _⟩
theorem so (o n nm ks A c most w) (hm : 1 ≤ most) (hm2 : most ≤ 64) (hop : o = 0 ∨ o = 1) (hnm : nm.size ≤ 200) (hks : ks.length ≤ 9223372036854775807) :
  Calls prog 126 #[.agg #[.int .i64 o, .int .i64 n, .string nm, .slice A ks.length c], .int .i64 most] w fun r w' => r = .returned (.int .i64 (cL (.mk o n nm ks) most)) ∧ Below w.heap.size w w' := by
 have hX := sm (o := o) (n := n) (nm := nm) (ks := ks) hm hop
 obtain ⟨L, hL⟩ := nm_ ks.length
 rw [hL] at hX hks ⊢
 rw [hX]
 have HN := hid (fun W => vi nm W (by omega))
 obtain ⟨V, hV⟩ := nm_ (cg nm)
 rw [hV] at HN ⊢
 have hLz : (L : Int) ≤ 9223372036854775807 := by omega
 clear hX hL hV
 obtain ⟨w0, hw0, hal, hq⟩ := alo_ w (.cells #[.int .i64 o, .int .i64 n, .string nm, .slice A L c] 41 (0, 0))
 have HAL := hid hal
 have HQ := hid hq
 have HW0 := hid hw0
 obtain ⟨⟨x0, x1, x2, x3⟩, _⟩ := gf hq
 have FIN : ∀ (b : Bool) (P : Prop) [Decidable P], (b = true ↔ P) → (if P then (-1 : Int) else most - 1) = if b then -1 else most - 1 := fun b P _ h => by
  by_cases hp : P
  ·rw [M_ hp, h.2 hp, M_ rfl]
  ·cases b
   ·rw [K_ hp]; rfl
   ·exact absurd (h.1 rfl) hp
 have HF := hid FIN
 clear hal hq hw0 FIN
 have hwhy : (((L : Int) != 0) = true) ∨ (((L : Int) != 0) = false ∧ o = 0 ∧ n < 0) ∨ (((L : Int) != 0) = false ∧ o = 0 ∧ 0 ≤ n ∧ nm.size ≠ 0) ∨ (((L : Int) != 0) = false ∧ o = 0 ∧ 0 ≤ n ∧ nm.size = 0) ∨
   (((L : Int) != 0) = false ∧ o = 1 ∧ V = false) ∨ (((L : Int) != 0) = false ∧ o = 1 ∧ V = true ∧ (n != 0) = true) ∨ (((L : Int) != 0) = false ∧ o = 1 ∧ V = true ∧ n = 0) := by
  by_cases hl : L = 0
  ·have hlb : ((L : Int) != 0) = false := km (by omega)
   rcases hop with rfl | rfl
   ·by_cases hn : n < 0
    ·exact .inr (.inl ⟨hlb, rfl, hn⟩)
    ·by_cases hs : nm.size = 0
     ·exact .inr (.inr (.inr (.inl ⟨hlb, rfl, by omega, hs⟩)))
     ·exact .inr (.inr (.inl ⟨hlb, rfl, by omega, hs⟩))
   ·cases V
    ·exact .inr (.inr (.inr (.inr (.inl ⟨hlb, rfl, rfl⟩))))
    ·by_cases hn : n = 0
     ·exact .inr (.inr (.inr (.inr (.inr (.inr ⟨hlb, rfl, rfl, hn⟩)))))
     ·exact .inr (.inr (.inr (.inr (.inr (.inl ⟨hlb, rfl, rfl, jA hn⟩)))))
  ·exact .inl (jA (by omega))
 rcases hwhy with h | ⟨h, rfl, h2⟩ | ⟨h, rfl, h2, h3⟩ | ⟨h, rfl, h2, h3⟩ | ⟨h, rfl, rfl⟩ | ⟨h, rfl, rfl, h2⟩ | ⟨h, rfl, rfl, rfl⟩
 ·have HP : Hid (0 < L) := hid (by rw [bne_iff_ne] at h; omega)
  rw [HF.out true _ ⟨fun _ => .inl HP.out, fun _ => rfl⟩, M_ rfl]
  rcases hop with rfl | rfl
  all_goals
   go_enter func126, ntmps126
   go_wp2_with fail
   rw [HW0.out]
   refine (HN.out _).mono ?_
   rintro r w1 ⟨rfl, hb1⟩
   have HB1 := tm_ HAL hb1
   have hq1 := bp_ hb1 HQ.out
   clear x0 x1 x2 x3 hb1
   obtain ⟨⟨x0, x1, x2, x3⟩, _⟩ := gf hq1
   clear hq1
   go_wp2_with fail
   go_ret
   exact ⟨rfl, HB1.out⟩
 ·have HP : Hid (n < 0) := hid h2
  rw [HF.out true _ ⟨fun _ => .inr (.inl ⟨rfl, .inl HP.out⟩), fun _ => rfl⟩, M_ rfl]
  go_enter func126, ntmps126
  go_wp2_with fail
  rw [HW0.out]
  refine (HN.out _).mono ?_
  rintro r w1 ⟨rfl, hb1⟩
  have HB1 := tm_ HAL hb1
  have hq1 := bp_ hb1 HQ.out
  clear x0 x1 x2 x3 hb1
  obtain ⟨⟨x0, x1, x2, x3⟩, _⟩ := gf hq1
  clear hq1
  go_wp2_with fail
  go_ret
  exact ⟨rfl, HB1.out⟩
 ·have HP : Hid (nm.size ≠ 0) := hid h3
  rw [HF.out true _ ⟨fun _ => .inr (.inl ⟨rfl, .inr HP.out⟩), fun _ => rfl⟩, M_ rfl]
  have h4 := ef h3
  clear h3
  go_enter func126, ntmps126
  go_wp2_with fail
  rw [HW0.out]
  refine (HN.out _).mono ?_
  rintro r w1 ⟨rfl, hb1⟩
  have HB1 := tm_ HAL hb1
  have hq1 := bp_ hb1 HQ.out
  clear x0 x1 x2 x3 hb1
  obtain ⟨⟨x0, x1, x2, x3⟩, _⟩ := gf hq1
  clear hq1
  go_wp2_with fail
  go_ret
  exact ⟨rfl, HB1.out⟩
 ·have HP : Hid (¬ (0 < L ∨ (0 : Int) = 0 ∧ (n < 0 ∨ nm.size ≠ 0) ∨ (0 : Int) = 1 ∧ (n ≠ 0 ∨ V = false))) := hid (by
   rw [bne_eq_false_iff_eq] at h
   rintro (e | ⟨_, e | e⟩ | ⟨e, _⟩)
   ·omega
   ·omega
   ·exact e h3
   ·cases e)
  rw [HF.out false _ ⟨fun e => (by cases e), fun e => absurd e HP.out⟩, K_ (by decide)]
  have h4 := dG h3
  clear h3
  go_enter func126, ntmps126
  go_wp2_with fail
  rw [HW0.out]
  refine (HN.out _).mono ?_
  rintro r w1 ⟨rfl, hb1⟩
  have HB1 := tm_ HAL hb1
  have hq1 := bp_ hb1 HQ.out
  clear x0 x1 x2 x3 hb1
  obtain ⟨⟨x0, x1, x2, x3⟩, _⟩ := gf hq1
  clear hq1
  go_wp2_with fail
  go_ret
  exact ⟨rfl, HB1.out⟩
 ·rw [HF.out true _ ⟨fun _ => .inr (.inr ⟨rfl, .inr rfl⟩), fun _ => rfl⟩, M_ rfl]
  go_enter func126, ntmps126
  go_wp2_with fail
  rw [HW0.out]
  refine (HN.out _).mono ?_
  rintro r w1 ⟨rfl, hb1⟩
  have HB1 := tm_ HAL hb1
  have hq1 := bp_ hb1 HQ.out
  clear x0 x1 x2 x3 hb1
  obtain ⟨⟨x0, x1, x2, x3⟩, _⟩ := gf hq1
  clear hq1
  go_wp2_with fail
  go_ret
  exact ⟨rfl, HB1.out⟩
 ·have HP : Hid (n ≠ 0) := hid (bne_iff_ne.1 h2)
  rw [HF.out true _ ⟨fun _ => .inr (.inr ⟨rfl, .inl HP.out⟩), fun _ => rfl⟩, M_ rfl]
  go_enter func126, ntmps126
  go_wp2_with fail
  rw [HW0.out]
  refine (HN.out _).mono ?_
  rintro r w1 ⟨rfl, hb1⟩
  have HB1 := tm_ HAL hb1
  have hq1 := bp_ hb1 HQ.out
  clear x0 x1 x2 x3 hb1
  obtain ⟨⟨x0, x1, x2, x3⟩, _⟩ := gf hq1
  clear hq1
  go_wp2_with fail
  go_ret
  exact ⟨rfl, HB1.out⟩
 ·have HP : Hid (¬ (0 < L ∨ (1 : Int) = 0 ∧ ((0 : Int) < 0 ∨ nm.size ≠ 0) ∨ (1 : Int) = 1 ∧ ((0 : Int) ≠ 0 ∨ true = false))) := hid (by
   rw [bne_eq_false_iff_eq] at h
   rintro (e | ⟨e, _⟩ | ⟨_, e | e⟩)
   ·omega
   ·cases e
   ·exact e rfl
   ·cases e)
  rw [HF.out false _ ⟨fun e => (by cases e), fun e => absurd e HP.out⟩, K_ (by decide)]
  go_enter func126, ntmps126
  go_wp2_with fail
  rw [HW0.out]
  refine (HN.out _).mono ?_
  rintro r w1 ⟨rfl, hb1⟩
  have HB1 := tm_ HAL hb1
  have hq1 := bp_ hb1 HQ.out
  clear x0 x1 x2 x3 hb1
  obtain ⟨⟨x0, x1, x2, x3⟩, _⟩ := gf hq1
  clear hq1
  go_wp2_with fail
  go_ret
  exact ⟨rfl, HB1.out⟩
theorem qC (o n : Int) (nm : ByteArray) (ks : List Ex) (A : Option Addr) (c : Nat) (most : Int) (w : World) (hm : 1 ≤ most) (h2 : 2 ≤ o) (h16 : o ≤ 16) (hks : ks.length ≤ 9223372036854775807) (hbad : ks.length ≠ aE o ∨ n ≠ 0 ∨ nm.size ≠ 0) :
  Calls prog 126 #[.agg #[.int .i64 o, .int .i64 n, .string nm, .slice A ks.length c], .int .i64 most] w fun r w' => r = .returned (.int .i64 (-1)) ∧ Below w.heap.size w w' := by
 obtain ⟨L, hL⟩ := nm_ ks.length
 rw [hL] at hks hbad ⊢
 obtain ⟨P, hP⟩ : ∃ P : Int, (aE o : Int) = P := ⟨_, rfl⟩
 have hc : ((o == 2) = true ∧ P = 1) ∨ ((o == 2) = false ∧ (o == 3) = true ∧ P = 1) ∨ ((o == 2) = false ∧ (o == 3) = false ∧ P = 2) := by
  unfold aE at hP
  by_cases h2 : o = 2
  ·exact .inl ⟨D_ h2, by rw [M_ (.inl h2)] at hP; omega⟩
  ·by_cases h3 : o = 3
   ·exact .inr (.inl ⟨aO h2, D_ h3, by rw [M_ (.inr h3)] at hP; omega⟩)
   ·exact .inr (.inr ⟨aO h2, aO h3, by rw [K_ (by omega)] at hP; omega⟩)
 have hw : ((L : Int) != P) = true ∨ (((L : Int) != P) = false ∧ (n != 0) = true) ∨ (((L : Int) != P) = false ∧ (n != 0) = false ∧ nm.toList.isEmpty = false) := by
  by_cases e : (L : Int) = P
  ·by_cases e2 : n = 0
   ·exact .inr (.inr ⟨km e, km e2, ef (by rcases hbad with h | h | h; exact absurd (by omega) h; exact absurd e2 h; exact h)⟩)
   ·exact .inr (.inl ⟨km e, jA e2⟩)
  ·exact .inl (jA e)
 have b0 : (o == 0) = false := aO (by omega)
 have b1 : (o == 1) = false := aO (by omega)
 have g1 : 0 ≤ o := by omega
 have hLz : (L : Int) ≤ 9223372036854775807 := by omega
 clear hL hP hbad h2
 rcases hc with ⟨b2, rfl⟩ | ⟨b2, b3, rfl⟩ | ⟨b2, b3, rfl⟩
 all_goals
  rcases hw with h1 | ⟨h1, h2⟩ | ⟨h1, h2, h3⟩
  all_goals
   go_enter func126, ntmps126
   go_wp2_with fail
   go_ret
   exact ⟨rfl, (J_ _ _).alloc le_ _⟩
theorem sq (o n nm ks A c most w) (hm : 1 ≤ most) (hm2 : most ≤ 64) (h2 : 2 ≤ o) (h16 : o ≤ 16) (hlen : ks.length = aE o) (hn : n = 0) (hs : nm.size = 0) (hr : dZ.Row [] w A ks) (hlc : ks.length ≤ c) (ih : ∀ (j : Nat) (hj : j < ks.length) (A' : Option Addr) (c' : Nat) (m : Int) (W : World), -2 ≤ m → m ≤ 64 → dZ.Row [] W A' ks[j].kids → ks[j].kids.length ≤ c' →
    Calls prog 126 #[cM ks[j] A' c', .int .i64 m] W fun r w' => r = .returned (.int .i64 (cL ks[j] m)) ∧ Below W.heap.size W w') :
  Calls prog 126 #[.agg #[.int .i64 o, .int .i64 n, .string nm, .slice A ks.length c], .int .i64 most] w fun r w' => r = .returned (.int .i64 (dv o ks 0 (most - 1))) ∧ Below w.heap.size w w' := by
 subst hn
 obtain ⟨P, hP⟩ : ∃ P : Int, (aE o : Int) = P := ⟨_, rfl⟩
 have hlz : (ks.length : Int) = P := by rw [← hP]; omega
 have hp1 : 1 ≤ ks.length := by
  have : aE o = 1 ∨ aE o = 2 := by unfold aE; split <;> simp
  omega
 have hc : ((o == 2) = true ∧ P = 1) ∨ ((o == 2) = false ∧ (o == 3) = true ∧ P = 1) ∨ ((o == 2) = false ∧ (o == 3) = false ∧ P = 2) := by
  unfold aE at hP
  by_cases h2 : o = 2
  ·exact .inl ⟨D_ h2, by rw [M_ (.inl h2)] at hP; omega⟩
  ·by_cases h3 : o = 3
   ·exact .inr (.inl ⟨aO h2, D_ h3, by rw [M_ (.inr h3)] at hP; omega⟩)
   ·exact .inr (.inr ⟨aO h2, aO h3, by rw [K_ (by omega)] at hP; omega⟩)
 have b0 : (o == 0) = false := aO (by omega)
 have b1 : (o == 1) = false := aO (by omega)
 have g1 : 0 ≤ o := by omega
 have g4 : nm.toList.isEmpty = true := dG hs
 have g5 : ((ks.length : Int) != P) = false := km hlz
 have HIH := hid ih
 obtain ⟨ad, rfl⟩ : ∃ ad, A = some ad := by
  obtain ⟨ad, e, _⟩ := hr.2 hp1
  exact ⟨ad, e⟩
 have HW : Hid (∀ (W : World) (i : Nat), dZ.Row [] W (some ad) ks → (h : i < ks.length) → Calls prog 127 #[.agg #[.int .i64 o, .int .i64 0, .string nm, .slice (some ad) ks.length c], .int .i64 i] W fun r w' => r = .returned (.bool (ag o ks[i].op i)) ∧ Below W.heap.size W w') :=
  hid (fun W i hr h => j6 (.mk o 0 nm ks) (some ad) c i W hr h hlc)
 have HROW := hid hr
 obtain ⟨ANS, hANS⟩ := nm_ (dv o ks 0 (most - 1))
 rw [hANS]
 have HANS := hid hANS
 have hlcz : (ks.length : Int) ≤ c := by omega
 have hlen2 : (ks.length : Int) ≤ 2 := by omega
 clear ih hP hlen hr hANS h2 hs
 rcases hc with ⟨b2, rfl⟩ | ⟨b2, b3, rfl⟩ | ⟨b2, b3, rfl⟩
 all_goals
  go_enter func126, ntmps126
  go_wp2_with fail
  go_loopg [1, 7] (ks.length + 1) (fun k s1 s7 w' => ∃ (j : Nat) (m : Int), s7 = .int .i64 j ∧ s1 = .int .i64 m ∧ j ≤ ks.length ∧ ks.length - j < k ∧ -2 ≤ m ∧ m ≤ 64 ∧
   w'.heap[w.heap.size]? = some (.cells #[.int .i64 o, .int .i64 0, .string nm, .slice (some ad) ks.length c] 41 (0, 0)) ∧ Below w.heap.size w w' ∧ dv o (ks.drop j) j m = ANS)
  case atStart => exact ⟨0, _, rfl, rfl, by omega, by omega, by omega, by omega, I_ _ _, (J_ _ _).alloc le_ _, HANS.out⟩
  case round =>
   obtain ⟨j, m, rfl, rfl, hj, hjk, hm3, hm4, hbx, hbl, hans⟩ := hrel
   obtain ⟨gk, rfl⟩ := pk_ gk 1 (by omega)
   have HBX := hid hbx
   have HBL := hid hbl
   have HA := hid hans
   clear hans
   by_cases hlt : j < ks.length
   ·have hltz : (j : Int) < ks.length := by omega
    have hltp := hltz
    rw [hlz] at hltp
    have hrow : dZ.Row [] wr (some ad) ks := HROW.out.keep (Same.of_below hbl)
    obtain ⟨A', c', x0, x1, x2, x3, hlc', hrow', _⟩ := lk hrow j hlt
    have HROWR := hid hrow
    have HKID := hid (HIH.out j hlt A' c' m wr hm3 hm4 hrow' hlc')
    obtain ⟨t, ht⟩ := nm_ (cL ks[j] m)
    have ht1 : t ≤ 64 := by
     rw [← ht]
     by_cases e : m < 1
     ·rw [kI _ e]; decide
     ·have := (xv (SizeOf.sizeOf ks[j] + 1)).1 ks[j] (by omega) m (by omega); omega
    have ht2 : -2 ≤ t := by rw [← ht]; exact (xw (SizeOf.sizeOf ks[j] + 1)).1 ks[j] (by omega) m
    rw [ht] at HKID
    obtain ⟨b, hb⟩ := nm_ (ag o ks[j].op j)
    have HWR := hid (fun W h => HW.out W j h hlt)
    have h := HA.out
    rw [fR ks j hlt, eG, ht] at h
    rw [hb] at h HWR
    have HE := hid h
    have hadlt := N_ wr _ x0
    obtain ⟨⟨z0, z1, z2, z3⟩, _⟩ := gf hbx
    clear h ht hb hrow hrow' hbx hbl
    go_wp2_with fail
    refine HKID.out.mono ?_
    rintro r w2 ⟨rfl, hb2⟩
    have hbx2 := bp_ hb2 HBX.out
    have HBX2 := hid hbx2
    have HBL2 := tm_ HBL hb2
    have HROW2 := hid (HROWR.out.keep (Same.of_below hb2))
    clear z0 z1 z2 z3 hb2
    obtain ⟨⟨z0, z1, z2, z3⟩, _⟩ := gf hbx2
    clear hbx2
    by_cases htn : t < 0
    ·have h := HE.out
     rw [M_ htn] at h
     have HE2 := hid h
     clear h
     go_wp2_with fail
     go_ret
     exact ⟨bP HE2.out, HBL2.out⟩
    ·have htn' : 0 ≤ t := by omega
     have h := HE.out
     rw [K_ htn] at h
     have HE2 := hid h
     clear h htn
     go_wp2_with fail
     refine (HWR.out _ HROW2.out).mono ?_
     rintro r w3 ⟨rfl, hb3⟩
     have HBX3 := bl_ hb3 HBX2
     have HBL3 := tm_ HBL2 hb3
     clear z0 z1 z2 z3 hb3
     cases b
     ·go_wp2_with fail
      go_roundg gk
      case measure => omega
      case rel => exact ⟨j + 1, t, by go_num, rfl, by omega, by omega, by omega, by omega, HBX3.out, HBL3.out, by have h := HE2.out; simpa using h⟩
     ·go_wp2_with fail
      go_roundg gk
      case measure => omega
      case rel => exact ⟨j + 1, t - 2, by go_num, by go_num, by omega, by omega, by omega, by omega, HBX3.out, HBL3.out, by have h := HE2.out; simpa using h⟩
   ·have hge : (ks.length : Int) ≤ j := by omega
    have hgep := hge
    rw [hlz] at hgep
    have h := HA.out
    rw [List.drop_of_length_le (by omega), mv] at h
    have HE := hid h
    clear h hbx hbl
    go_wp2_with fail
    go_ret
    exact ⟨bP HE.out, HBL.out⟩
theorem vk (N) : ∀ (e : Ex) (A : Option Addr) (c : Nat) (most : Int) (w : World), SizeOf.sizeOf e < N → dZ.Row [] w A e.kids → e.kids.length ≤ c → tK e → -2 ≤ most → most ≤ 64 →
  Calls prog 126 #[cM e A c, .int .i64 most] w fun r w' => r = .returned (.int .i64 (cL e most)) ∧ Below w.heap.size w w' := by
 induction N with
 | zero => intro e A c most w h; omega
 | succ N ih =>
  intro e A c most w hN hr hlc hk h0 hm
  obtain ⟨o, n, nm, ks⟩ := e
  have hks : ks.length ≤ 9223372036854775807 := hr.1
  by_cases hout : most < 1 ∨ o < 0 ∨ 16 < o
  ·rw [cL, M_ hout]
   exact vj o n nm ks.length A c most w hout
  ·by_cases hop : o = 0 ∨ o = 1
   ·exact so o n nm ks A c most w (by omega) hm hop hk.name hks
   ·rw [sn (by omega) (by omega) (by omega)]
    by_cases hbad : ks.length ≠ aE o ∨ n ≠ 0 ∨ nm.size ≠ 0
    ·rw [M_ hbad]
     exact qC o n nm ks A c most w (by omega) (by omega) (by omega) hks hbad
    ·rw [K_ hbad]
     refine sq o n nm ks A c most w (by omega) hm (by omega) (by omega) (by omega) (by omega) (by omega) hr hlc (fun j hj A' c' m W h1 h2 h3 h4 => ih _ A' c' m W ?_ h3 h4 (hk.kids _ (g_ hj)) h1 h2)
     have h1 : SizeOf.sizeOf ks[j] < SizeOf.sizeOf ks := List.sizeOf_lt_of_mem (g_ hj)
     simp at hN
     omega
theorem xH (e A c w) (hr : dZ.Row [] w A e.kids) (hlc : e.kids.length ≤ c) (hk : tK e) :
  Calls prog 117 #[cM e A c] w fun r w' => r = .returned (.bool (gW e)) ∧ Below w.heap.size w w' := by
 have HC := hid (fun W (h : dZ.Row [] W A e.kids) => vk (SizeOf.sizeOf e + 1) e A c 64 W (by omega) h hlc hk (by omega) (by omega))
 have HX := hid (xt e)
 obtain ⟨t, ht⟩ := nm_ (cL e 64)
 rw [ht] at HC HX
 clear ht
 have HR := hid (hr.keep ((Same.refl [] w).alloc (.cells #[.int .i64 e.op, .int .i64 e.n, .string e.name, .slice A e.kids.length c] 41)))
 clear hr
 go_enter func117, ntmps117
 go_wp2_with (go_at_call 126; refine (HC.out _ HR.out).mono ?_; rintro r w2 ⟨rfl, hb2⟩)
 all_goals
  go_ret
  exact ⟨bS HX.out, ((J_ _ _).alloc le_ _).trans (hb2.mono (by simp))⟩
end Go.Proofs.YtgcfjkfipkfijaaGreatDoor
