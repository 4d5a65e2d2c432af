/- Walks: the reference's runes of a text, and names. -/
import Derived.Test.YtgaiheojlmebaaaGreatDoorS6
import Derived.OwnWalk
import Derived.Deep.AppendLies
namespace Go.Proofs.YtgaiheojlmebaaaGreatDoor
open Go Go.RowKit Go.Lib

def intK : Kind Int := Kind.int .i64
def intE (x : Int) : List Value := [.int .i64 x]
theorem intE_rep (M : List Nat) (w : World) (x : Int) : intK.rep M w x (intE x) := rfl
theorem intE_len (x : Int) : (intE x).length = intK.sz := rfl
theorem intE_all (l : List Int) : (l.flatMap intE).length = l.length := by rw [length_flatMap_const (n := 1) (fun _ => rfl)]; omega
theorem info_int : (Tryz.prog.info? 3).map (fun i => (i.zero, i.size, i.bytes)) = some (some (.int .i64 0), 1, 8) := by kernel_rfl
theorem int_at {M : List Nat} {w : World} {A : Option Addr} {ks : List Int} (h : intK.Row M w A ks) (k : Nat) (hk : k < ks.length) : ∃ ad, A = some ad ∧ w.cell? (ad.add k) = some (.int .i64 ks[k]) := by
  obtain ⟨ad, cs, e, _, hr, hc⟩ := h.at_ k hk
  have hr' : cs = [.int .i64 ks[k]] := hr
  subst hr'
  have := hc 0 _ rfl
  rw [show k * intK.sz + 0 = k by show k * 1 + 0 = k; omega] at this
  exact ⟨ad, e, this⟩
theorem blk3 {w : World} {k : Nat} {v0 v1 v2 : Value} {t : TypeId} (h : w.heap[k]? = some (.cells #[v0, v1, v2] t (0, 0))) :
    (w.cell? ⟨k, 0, none⟩ = some v0 ∧ w.cell? ⟨k, 1, none⟩ = some v1 ∧ w.cell? ⟨k, 2, none⟩ = some v2) ∧ w.frozen? ⟨k, 0, none⟩ = false ∧ w.frozen? ⟨k, 1, none⟩ = false ∧ w.frozen? ⟨k, 2, none⟩ = false :=
  ⟨⟨blk_cell h 0, blk_cell h 1, blk_cell h 2⟩, blk_frozen h 0, blk_frozen h 1, blk_frozen h 2⟩
/-- A text's block: its bytes, its runes, their places. -/
abbrev TxB (w : World) (k : Nat) (s : ByteArray) (r a : Value) : Prop := w.heap[k]? = some (.cells #[.string s, r, a] 93 (0, 0))
/-- A row of numbers of the call's own. -/
abbrev OwnI (w : World) (base : Nat) (v : Value) (l : List Int) : Prop := w.ownsRow base 3 1 v l.length (l.flatMap intE)
/-- What Runes hands back. -/
def RunPost (s : ByteArray) (w : World) (r : Ending) (w' : World) : Prop := ∃ (R Z : List Int) (A : Option Addr) (a : Nat) (B : Option Addr) (b : Nat) (ok : Bool),
  R = rowsF (runes s.data.toList) 0 ∧ Z = rowsA (runes s.data.toList) 0 ∧ ok = rowsOk (runes s.data.toList) ∧
  r = .returned (.tuple #[.agg #[.string s, .slice A R.length a, .slice B Z.length b], .bool ok]) ∧ R.length ≤ a ∧ Z.length ≤ b ∧ intK.Row [] w' A R ∧ intK.Row [] w' B Z ∧ Below w.heap.size w w'
/-- The state of the loop: so much is read. -/
structure RunAt (s : ByteArray) (pos : Nat) (R Z : List Int) : Prop where
  at_ : pos ≤ s.size
  len : R.length ≤ pos
  same : Z.length = R.length
  row : rowsF (runes s.data.toList) 0 = R ++ rowsF (runes (s.data.toList.drop pos)) pos
  places : rowsA (runes s.data.toList) 0 = Z ++ rowsA (runes (s.data.toList.drop pos)) pos
  ok : rowsOk (runes s.data.toList) = rowsOk (runes (s.data.toList.drop pos))
theorem RunAt.step {s : ByteArray} {pos : Nat} {R Z : List Int} (h : RunAt s pos R Z) (hp : pos < s.size) (hb : Utf8.decode s pos ≠ (65533, 1)) :
    RunAt s (pos + (Utf8.decode s pos).2) (R ++ [((Utf8.decode s pos).1 : Int)]) (Z ++ [(pos : Int)]) := by
  have hr := runes_at s pos hp
  have hw := Lib.decode_width_pos s pos hp
  have hf := decode_fits s pos hp
  obtain ⟨h1, h2, h3, h4, h5, h6⟩ := h
  rw [hr] at h4 h5 h6
  rw [rowsF, if_neg hb] at h4
  rw [rowsA, if_neg hb] at h5
  rw [rowsOk, if_neg hb] at h6
  refine ⟨hf, ?_, ?_, ?_, ?_, h6⟩
  · rw [List.length_append, List.length_singleton]; omega
  · rw [List.length_append, List.length_append, List.length_singleton, List.length_singleton, h3]
  · rw [h4, List.append_assoc]; rfl
  · rw [h5, List.append_assoc]; rfl

theorem own_row {w : World} {base : Nat} {v : Value} {l : List Int} (h : OwnI w base v l) : ∃ A c, v = .slice A l.length c ∧ l.length ≤ c ∧ intK.Row [] w A l :=
  row_of_own (d := intK) (enc := intE) intE_len h (M := []) (fun k hk => by simp at hk) (fun x _ => intE_rep _ _ x)
theorem runP {s : ByteArray} {w w' : World} {A B : Option Addr} {a b base : Nat} {R Z : List Int} {ok : Bool} (hR : R = rowsF (runes s.data.toList) 0) (hZ : Z = rowsA (runes s.data.toList) 0) (hk : ok = rowsOk (runes s.data.toList))
    (h1 : OwnI w' base (.slice A R.length a) R) (h2 : OwnI w' base (.slice B Z.length b) Z) (hb : Below w.heap.size w w') : RunPost s w (.returned (.tuple #[.agg #[.string s, .slice A R.length a, .slice B Z.length b], .bool ok])) w' := by
  obtain ⟨A', a', e1, l1, r1⟩ := own_row h1
  obtain ⟨B', b', e2, l2, r2⟩ := own_row h2
  injection e1 with e1 _ e3
  injection e2 with e2 _ e4
  subst e1 e2 e3 e4
  exact ⟨R, Z, A, a, B, b, ok, hR, hZ, hk, rfl, l1, l2, r1, r2, hb⟩

/-- Two rows of the call's own lie in two blocks. -/
def Apart (r z : Value) : Prop := z.ownBlock = none ∨ z.ownBlock ≠ r.ownBlock
theorem apart_swap {g : Nat} {n c : Nat} {v z : Value} {w : World} {base m : Nat} {xs : List Value} (h : Apart v z) (hz : w.ownsRow base 3 1 z m xs) (hat : v.ownBlock = some g ∨ g = w.heap.size + 1) : Apart z (.slice (some ⟨g, 0, none⟩) n c) := by
  right
  show some g ≠ z.ownBlock
  rcases hat with e | e
  · rw [← e]
    rcases h with h | h
    · rw [e, h]; simp
    · exact fun e => h e.symm
  · intro e2
    have := (own_block hz g e2.symm).2
    omega
theorem own_set3 {w : World} {base P n : Nat} {v : Value} {xs : List Value} (h : w.ownsRow base 3 1 v n xs) (hP : P < base) (a b c : Value) : (((w.setCell ⟨P, 0, none⟩ a).setCell ⟨P, 1, none⟩ b).setCell ⟨P, 2, none⟩ c).ownsRow base 3 1 v n xs := by
  have hne : v.ownBlock ≠ some P := fun e => by have := (own_block h P e).1; omega
  exact own_set (own_set (own_set h (p := ⟨P, 0, none⟩) hne a) (p := ⟨P, 1, none⟩) hne b) (p := ⟨P, 2, none⟩) hne c
theorem below_set3 {B P : Nat} {w W : World} (h : Below B w W) (hP : B ≤ P) (a b c : Value) : Below B w (((W.setCell ⟨P, 0, none⟩ a).setCell ⟨P, 1, none⟩ b).setCell ⟨P, 2, none⟩ c) :=
  ((h.setCell hP a).setCell hP b).setCell hP c
/-- Behind an append to a row of the call's own: a block that is not the row is as it was. -/
theorem far_block {w w' : World} {base n k : Nat} {v : Value} {xs : List Value} {o : Obj} {ob : Obj} (h : w.ownsRow base 3 1 v n xs) (hg : (w.alloc o).grownBy w' v.ownBlock) (hk : w.heap[k]? = some ob) (hb : k < base) : w'.heap[k]? = some ob := by
  have hne : some k ≠ v.ownBlock := fun e => by have := (own_block h k e.symm).1; omega
  have hl : k < w.heap.size := blk_lt hk
  exact (hg.block k (by simp; omega) hne).trans ((((Below.refl w.heap.size w).alloc (Nat.le_refl _) o).block k hl).trans hk)

set_option maxHeartbeats 8000000 in
set_option maxRecDepth 100000 in
theorem xrunes_any (s : ByteArray) (w : World) (hs : s.size ≤ 17592186044400) : Calls Tryz.prog 71 #[.string s] w (RunPost s w) := by
  have hsz : (s.size : Int) ≤ 17592186044400 := by omega
  obtain ⟨w0, hw0⟩ : ∃ w', w.alloc (.cells #[.string ⟨#[]⟩, .slice none 0 0, .slice none 0 0] 93 (0, 0)) = w' := ⟨_, rfl⟩
  have hal : Below w.heap.size w w0 := hw0 ▸ (Below.refl _ _).alloc (Nat.le_refl _) _
  have hq : TxB w0 w.heap.size ⟨#[]⟩ (.slice none 0 0) (.slice none 0 0) := hw0 ▸ heap_alloc_new _ _
  obtain ⟨P, hP⟩ : ∃ P, w.heap.size = P := ⟨_, rfl⟩
  obtain ⟨w1, hw1⟩ : ∃ w', w0.alloc (.cells #[.string s, .slice none 0 0, .slice none 0 0] 93 (0, 0)) = w' := ⟨_, rfl⟩
  have hb1 : Below w0.heap.size w0 w1 := hw1 ▸ (Below.refl _ _).alloc (Nat.le_refl _) _
  have hq1 : TxB w1 w0.heap.size s (.slice none 0 0) (.slice none 0 0) := hw1 ▸ heap_alloc_new _ _
  obtain ⟨G, hG⟩ : ∃ G, w0.heap.size = G := ⟨_, rfl⟩
  have HPG : Hid (P < G) := Lib.hid (by rw [← hP, ← hG]; exact blk_lt hq)
  have HP1 : Hid (TxB w1 P ⟨#[]⟩ (.slice none 0 0) (.slice none 0 0)) := Lib.hid (by rw [← hP]; exact (hb1.block _ (blk_lt hq)).trans hq)
  have HG1 : Hid (TxB w1 G s (.slice none 0 0) (.slice none 0 0)) := Lib.hid (by rw [← hG]; exact hq1)
  have HB1 : Hid (Below P w w1) := Lib.hid (by rw [← hP]; exact hal.trans (hb1.mono hal.size))
  have HW := Lib.hid hP
  have HW1 := Lib.hid hw1
  have HWG := Lib.hid hG
  have HR0 : Hid (RunAt s 0 [] []) := Lib.hid ⟨by omega, by simp, rfl, by simp, by simp, by simp⟩
  clear hal hq hb1 hq1 hw1
  go_enter Tryz.func71, Tryz.ntmps71
  go_wp2_with fail
  rw [HW1.out]
  clear hw0 hG hP
  go_loopg [5] (s.size + 1) (fun k s5 w' => ∃ (pos : Nat) (R Z : List Int) (A : Option Addr) (a : Nat) (B : Option Addr) (b : Nat), s5 = .int .i64 pos ∧ s.size - pos < k ∧
    TxB w' G s (.slice A R.length a) (.slice B Z.length b) ∧ TxB w' P ⟨#[]⟩ (.slice none 0 0) (.slice none 0 0) ∧ OwnI w' (G + 1) (.slice A R.length a) R ∧ OwnI w' (G + 1) (.slice B Z.length b) Z ∧
    Apart (.slice A R.length a) (.slice B Z.length b) ∧ RunAt s pos R Z ∧ Below P w w')
  case atStart => exact ⟨0, [], [], none, 0, none, 0, rfl, by omega, HG1.out, HP1.out, ⟨rfl, .inl ⟨rfl, rfl⟩⟩, ⟨rfl, .inl ⟨rfl, rfl⟩⟩, .inl rfl, HR0.out, HB1.out⟩
  case round =>
    obtain ⟨pos, R, Z, A, a, B, b, rfl, hk, hg, hpz, ho1, ho2, hap, hra, hbl⟩ := hrel
    obtain ⟨gk, rfl⟩ : ∃ k, gk = k + 1 := ⟨gk - 1, by omega⟩
    have HGr := Lib.hid hg
    have HPr := Lib.hid hpz
    have HO1 := Lib.hid ho1
    have HO2 := Lib.hid ho2
    have HAP := Lib.hid hap
    have HRA := Lib.hid hra
    have HBL := Lib.hid hbl
    have hat := hra.at_
    have hlen := hra.len
    have hzl : Z.length ≤ pos := by have := hra.same; have := hra.len; omega
    have hpos0 : (0 : Int) ≤ pos := by omega
    clear HG1 HP1 HR0 HB1 ho1 ho2 hap hra hbl
    by_cases hp : pos < s.size
    · have hpz' : (pos : Int) < s.size := by omega
      have hwd := Lib.decode_width_pos s pos hp
      have hfit := decode_fits s pos hp
      have hle := decode_le' s pos
      obtain ⟨⟨x0, x1, x2⟩, fg⟩ := blk3 hg
      obtain ⟨⟨y0, y1, y2⟩, g0, g1, g2⟩ := blk3 hpz
      have hlG := blk_lt hg
      have hlP := blk_lt hpz
      clear hg hpz
      have HRU := Lib.hid (xrune_any s pos wr hp (by omega))
      by_cases hbad : Utf8.decode s pos = (65533, 1)
      · have HX : Hid (false = rowsOk (runes s.data.toList) ∧ R = rowsF (runes s.data.toList) 0 ∧ Z = rowsA (runes s.data.toList) 0) := Lib.hid (by
          have h := HRA.out
          obtain ⟨_, _, _, h4, h5, h6⟩ := h
          rw [runes_at s pos hp] at h4 h5 h6
          rw [rowsF, if_pos hbad, List.append_nil] at h4
          rw [rowsA, if_pos hbad, List.append_nil] at h5
          rw [rowsOk, if_pos hbad] at h6
          exact ⟨h6.symm, h4.symm, h5.symm⟩)
        rw [hbad, rune1_bad] at HRU
        clear hbad hwd hfit hle
        go_wp2_with fail
        refine HRU.out.mono ?_
        rintro r w2 ⟨rfl, rfl⟩
        go_wp2
        refine bodyPost_ret (v := .tuple #[.agg #[.string s, .slice A R.length a, .slice B Z.length b], .bool false]) (by simp [results, Tryz.results71, go_sem, *]) rfl ?_
        obtain ⟨e1, e2, e3⟩ := HX.out
        have hPG := HPG.out
        exact runP e2 e3 e1 (own_set3 HO1.out (by omega) _ _ _) (own_set3 HO2.out (by omega) _ _ _) (by rw [HW.out]; exact below_set3 HBL.out (Nat.le_refl _) _ _ _)
      · have HST := Lib.hid (HRA.out.step hp hbad)
        obtain ⟨r, n, hd⟩ : ∃ r n, Utf8.decode s pos = (r, n) := ⟨_, _, rfl⟩
        rw [hd] at HRU HST hwd hfit hle hbad
        rw [rune1_ok (fun e => hbad (by rw [e.1, e.2]))] at HRU
        have hnb : ((n : Int) == 0) = false := beqf (by simp at hwd; omega)
        simp only at hwd hfit hle
        have hPG := HPG.out
        obtain ⟨i0, hi0, hz0, hz1, hz2⟩ := info_parts info_int
        clear hd hbad
        go_wp2_with fail
        refine HRU.out.mono ?_
        rintro e w2 ⟨rfl, rfl⟩
        go_wp2_with (at_builtin; refine wpList_append_lies _ (by rfl) _ _ _ (by rfl) (G + 1) 3 i0 _ 1 8 Tryz.underlying91 hi0 hz0 hz1 hz2 rfl (by omega) (.slice A R.length a) R.length (R.flatMap intE) (by rfl) (HO1.out.alloc _) ⟨w2.heap.size, 0, none⟩ 1 1 [.int .i64 r] (by rfl) (by rfl) (World.news_of_block (cs := #[.int .i64 r]) (t := 3) (fr := (0, 0)) (heap_alloc_new w2 _)) (by simp [Value.oneCell']) (by omega) (by unfold maxLen; omega) (by omega) (by simp; omega) (w2.heap.size + 1) (by simp) ?_; intro g cap w3 hown3 hgrow hat3 hlt3; refine Hid.out ?_)
        refine Lib.hid ?_
        have hg3 := far_block HO1.out hgrow HGr.out (Nat.lt_succ_self G)
        have hp3 := far_block HO1.out hgrow HPr.out (by omega)
        have ho3 : w3.ownsRow (G + 1) 3 1 (.slice B Z.length b) Z.length (Z.flatMap intE) := (HO2.out.alloc _).kept hgrow HAP.out
        have hap3 := apart_swap (n := R.length + 1) (c := cap) HAP.out HO2.out hat3
        have hb3 : Below P w w3 := ((Same.of_below (M := []) (by rw [HW.out]; exact HBL.out)).alloc _ |>.grown hgrow (fun k hk => .inr (by have := (own_block HO1.out k hk).1; have := HW.out; omega))).below.mono (by rw [HW.out]; exact Nat.le_refl _)
        clear x0 x1 x2 y0 y1 y2 fg g0 g1 g2 hlG hlP
        obtain ⟨⟨x0, x1, x2⟩, f0, f1, f2⟩ := blk3 hg3
        have hlG := blk_lt hg3
        obtain ⟨N3, hN3⟩ : ∃ N, w3.heap.size = N := ⟨_, rfl⟩
        obtain ⟨w4, hw4⟩ : ∃ w', w3.setCell ⟨G, 1, none⟩ (.slice (some ⟨g, 0, none⟩) (R.length + 1) cap) = w' := ⟨_, rfl⟩
        have hN4 : w4.heap.size = N3 := by rw [← hw4, ← hN3]; simp [World.setCell]
        have hg4 : TxB w4 G s (.slice (some ⟨g, 0, none⟩) (R.length + 1) cap) (.slice B Z.length b) := by rw [← hw4]; exact blk_set hg3 1 _
        have hp4 : TxB w4 P ⟨#[]⟩ (.slice none 0 0) (.slice none 0 0) := by rw [← hw4]; exact (Below.heap_setCell _ ⟨G, 1, none⟩ _ P (by show P ≠ G; omega)).trans hp3
        have hr4 : w4.ownsRow (G + 1) 3 1 (.slice (some ⟨g, 0, none⟩) (R.length + 1) cap) (R.length + 1) (R.flatMap intE ++ [.int .i64 r]) := by
          rw [← hw4]; exact own_set hown3 (p := ⟨G, 1, none⟩) (fun e => by have := (own_block hown3 G e).1; omega) _
        have ho4 : w4.ownsRow (G + 1) 3 1 (.slice B Z.length b) Z.length (Z.flatMap intE) := by
          rw [← hw4]; exact own_set ho3 (p := ⟨G, 1, none⟩) (fun e => by have := (own_block ho3 G e).1; omega) _
        have hb4 : Below P w w4 := by rw [← hw4]; exact hb3.setCell (by show P ≤ G; omega) _
        obtain ⟨⟨k0, k1, k2⟩, e0, e1, e2⟩ := blk3 hg4
        have hlG4 := blk_lt hg4
        have HG4 := Lib.hid hg4
        have HP4 := Lib.hid hp4
        have HR4 := Lib.hid hr4
        have HO4 := Lib.hid ho4
        have HB4 := Lib.hid hb4
        have HAP4 := Lib.hid hap3
        have HNEW : Hid (∀ o, (w4.alloc o).heap[N3]? = some o) := Lib.hid (fun o => by rw [← hN4]; exact heap_alloc_new w4 o)
        clear hg3 hp3 hown3 ho3 hb3 hgrow hat3 hlt3 hap3 hg4 hp4 hr4 ho4 hb4
        go_wp2_with (at_builtin; refine wpList_append_lies _ (by rfl) _ _ _ (by rfl) (G + 1) 3 i0 _ 1 8 Tryz.underlying91 hi0 hz0 hz1 hz2 rfl (by omega) (.slice B Z.length b) Z.length (Z.flatMap intE) (by rfl) (HO4.out.alloc _) ⟨N3, 0, none⟩ 1 1 [.int .i64 pos] (by rfl) (by rfl) (World.news_of_block (cs := #[.int .i64 pos]) (t := 3) (fr := (0, 0)) (HNEW.out _)) (by simp [Value.oneCell']) (by omega) (by unfold maxLen; omega) (by omega) (by simp; omega) (w4.heap.size + 1) (by simp) ?_; intro g2 cap2 w5 hown5 hgrow5 hat5 hlt5; refine Hid.out ?_)
        refine Lib.hid ?_
        have hg5 := far_block HO4.out hgrow5 HG4.out (Nat.lt_succ_self G)
        have hp5 := far_block HO4.out hgrow5 HP4.out (by omega)
        have ho5 := (HR4.out.alloc _).kept hgrow5 (.inr (by rcases HAP4.out with h | h; cases h; exact h))
        have hap5 := apart_swap (n := Z.length + 1) (c := cap2) HAP4.out HR4.out hat5
        have hb5 : Below P w w5 := ((Same.of_below (M := []) (by rw [HW.out]; exact HB4.out)).alloc _ |>.grown hgrow5 (fun k hk => .inr (by have := (own_block HO4.out k hk).1; have := HW.out; omega))).below.mono (by rw [HW.out]; exact Nat.le_refl _)
        clear x0 x1 x2 f0 f1 f2 k0 k1 k2 e0 e1 e2 hlG hlG4 hw4 hN3 hN4
        obtain ⟨⟨x0, x1, x2⟩, f0, f1, f2⟩ := blk3 hg5
        have hlG := blk_lt hg5
        have HG5 := Lib.hid hg5
        have HP5 := Lib.hid hp5
        have HR5 := Lib.hid ho5
        have HZ5 := Lib.hid hown5
        have HB5 := Lib.hid hb5
        have HAP5 := Lib.hid hap5
        clear hg5 hp5 ho5 hown5 hb5 hgrow5 hat5 hlt5 hap5
        go_wp2_with fail
        go_roundg gk
        case measure => omega
        case rel =>
          have hl1 : (R ++ [(r : Int)]).length = R.length + 1 := by simp
          have hl2 : (Z ++ [(pos : Int)]).length = Z.length + 1 := by simp
          refine ⟨pos + n, R ++ [(r : Int)], Z ++ [(pos : Int)], some ⟨g, 0, none⟩, cap, some ⟨g2, 0, none⟩, cap2, by go_num, by omega, ?_, ?_, ?_, ?_, ?_, HST.out, ?_⟩
          · rw [hl1, hl2]; exact blk_set HG5.out 2 _
          · exact (Below.heap_setCell _ ⟨G, 2, none⟩ _ P (by show P ≠ G; omega)).trans HP5.out
          · unfold OwnI
            rw [hl1, List.flatMap_append]
            exact own_set HR5.out (p := ⟨G, 2, none⟩) (fun e => by have := (own_block HR5.out G e).1; omega) _
          · unfold OwnI
            rw [hl2, List.flatMap_append]
            exact own_set HZ5.out (p := ⟨G, 2, none⟩) (fun e => by have := (own_block HZ5.out G e).1; omega) _
          · rw [hl1, hl2]; exact HAP5.out
          · exact HB5.out.setCell (by show P ≤ G; omega) _
    · obtain rfl : pos = s.size := by omega
      have hnz : ¬ ((s.size : Int) < s.size) := by omega
      obtain ⟨⟨x0, x1, x2⟩, f0, f1, f2⟩ := blk3 hg
      have hlG := blk_lt hg
      have hlP := blk_lt hpz
      have hPG := HPG.out
      have HX : Hid (true = rowsOk (runes s.data.toList) ∧ R = rowsF (runes s.data.toList) 0 ∧ Z ++ [(s.size : Int)] = rowsA (runes s.data.toList) 0) := Lib.hid (by
        have h := HRA.out
        obtain ⟨_, _, _, h4, h5, h6⟩ := h
        rw [runes_end s s.size (by omega)] at h4 h5 h6
        rw [rowsF, List.append_nil] at h4
        exact ⟨h6.symm, h4.symm, h5.symm⟩)
      obtain ⟨i0, hi0, hz0, hz1, hz2⟩ := info_parts info_int
      clear hg hpz
      go_wp2_with (at_builtin; refine wpList_append_lies _ (by rfl) _ _ _ (by rfl) (G + 1) 3 i0 _ 1 8 Tryz.underlying91 hi0 hz0 hz1 hz2 rfl (by omega) (.slice B Z.length b) Z.length (Z.flatMap intE) (by rfl) (HO2.out.alloc _) ⟨wr.heap.size, 0, none⟩ 1 1 [.int .i64 s.size] (by rfl) (by rfl) (World.news_of_block (cs := #[.int .i64 s.size]) (t := 3) (fr := (0, 0)) (heap_alloc_new wr _)) (by simp [Value.oneCell']) (by omega) (by unfold maxLen; omega) (by omega) (by simp; omega) (wr.heap.size + 1) (by simp) ?_; intro g2 cap2 w5 hown5 hgrow5 hat5 hlt5; refine Hid.out ?_)
      refine Lib.hid ?_
      have hg5 := far_block HO2.out hgrow5 HGr.out (Nat.lt_succ_self G)
      have hp5 := far_block HO2.out hgrow5 HPr.out (by omega)
      have ho5 := (HO1.out.alloc _).kept hgrow5 (by
        rcases HAP.out with h | h
        · rw [h]
          cases hv : (Value.slice A R.length a).ownBlock with
          | none => exact .inl rfl
          | some k => exact .inr (by simp)
        · exact .inr (fun e => h e.symm))
      have hb5 : Below P w w5 := ((Same.of_below (M := []) (by rw [HW.out]; exact HBL.out)).alloc _ |>.grown hgrow5 (fun k hk => .inr (by have := (own_block HO2.out k hk).1; have := HW.out; omega))).below.mono (by rw [HW.out]; exact Nat.le_refl _)
      clear x0 x1 x2 f0 f1 f2 hlG hlP
      obtain ⟨⟨x0, x1, x2⟩, f0, f1, f2⟩ := blk3 hg5
      obtain ⟨N5, hN5⟩ : ∃ N, w5.heap.size = N := ⟨_, rfl⟩
      obtain ⟨w6, hw6⟩ : ∃ w', w5.setCell ⟨G, 2, none⟩ (.slice (some ⟨g2, 0, none⟩) (Z.length + 1) cap2) = w' := ⟨_, rfl⟩
      have hN6 : w6.heap.size = N5 := by rw [← hw6, ← hN5]; simp [World.setCell]
      have hg6 : TxB w6 G s (.slice A R.length a) (.slice (some ⟨g2, 0, none⟩) (Z.length + 1) cap2) := by rw [← hw6]; exact blk_set hg5 2 _
      have hp6 : TxB w6 P ⟨#[]⟩ (.slice none 0 0) (.slice none 0 0) := by rw [← hw6]; exact (Below.heap_setCell _ ⟨G, 2, none⟩ _ P (by show P ≠ G; omega)).trans hp5
      have hr6 : OwnI w6 (G + 1) (.slice A R.length a) R := by
        rw [← hw6]; exact own_set ho5 (p := ⟨G, 2, none⟩) (fun e => by have := (own_block ho5 G e).1; omega) _
      have hl2 : (Z ++ [(s.size : Int)]).length = Z.length + 1 := by simp
      have hz6 : OwnI w6 (G + 1) (.slice (some ⟨g2, 0, none⟩) (Z ++ [(s.size : Int)]).length cap2) (Z ++ [(s.size : Int)]) := by
        unfold OwnI
        rw [← hw6, hl2, List.flatMap_append]
        exact own_set hown5 (p := ⟨G, 2, none⟩) (fun e => by have := (own_block hown5 G e).1; omega) _
      have hb6 : Below P w w6 := by rw [← hw6]; exact hb5.setCell (by show P ≤ G; omega) _
      obtain ⟨⟨k0, k1, k2⟩, e0, e1, e2⟩ := blk3 hg6
      obtain ⟨⟨y0, y1, y2⟩, u0, u1, u2⟩ := blk3 hp6
      have hlG := blk_lt hg6
      have hlP := blk_lt hp6
      have hlG5 := blk_lt hg5
      have HR6 := Lib.hid hr6
      have HZ6 := Lib.hid hz6
      have HB6 := Lib.hid hb6
      have HL2 := Lib.hid hl2
      clear hg5 hp5 ho5 hown5 hb5 hgrow5 hat5 hlt5 hg6 hp6 hr6 hz6 hb6 hl2
      go_wp2
      refine bodyPost_ret (v := .tuple #[.agg #[.string s, .slice A R.length a, .slice (some ⟨g2, 0, none⟩) (Z.length + 1) cap2], .bool true]) (by simp [results, Tryz.results71, go_sem, *]) rfl ?_
      obtain ⟨q1, q2, q3⟩ := HX.out
      have h := runP q2 q3 q1 (own_set3 HR6.out (show P < G + 1 by omega) (.string s) (.slice A R.length a) (.slice (some ⟨g2, 0, none⟩) (Z.length + 1) cap2)) (own_set3 HZ6.out (show P < G + 1 by omega) _ _ _) (by rw [HW.out]; exact below_set3 HB6.out (Nat.le_refl _) _ _ _)
      rw [HL2.out] at h
      exact h

theorem words_map (rs : List (Nat × Nat)) : (rs.map (fun r => (r.1 : Int))).all isWz = wordyL rs := by
  unfold wordyL
  rw [List.all_map]
  rfl
set_option maxHeartbeats 4000000 in
set_option maxRecDepth 100000 in
theorem xname_any (s : ByteArray) (w : World) (hs : s.size ≤ 17592186044400) : Calls Tryz.prog 38 #[.string s] w fun r w' => r = .returned (.bool (nameB s)) ∧ Below w.heap.size w w' := by
  rw [← nameX_eq]
  have HRU := Lib.hid (xrunes_any s w hs)
  unfold RunPost at HRU
  generalize runes s.data.toList = rs at HRU ⊢
  go_enter Tryz.func38, Tryz.ntmps38
  go_wp2_with fail
  refine HRU.out.mono ?_
  rintro r w1 ⟨R, Z, A, a, B, b, ok, hR, hZ, hok, rfl, hla, hlb, hra, hrb, hb1⟩
  have HB1 := Lib.hid hb1
  have hmax := hra.1
  clear HRU hZ hlb hrb hb1
  cases ok
  · have HX : Hid (nameX rs = false) := Lib.hid (by unfold nameX; rw [← hok]; rfl)
    clear hR hok hla hra
    go_wp2_with fail
    go_ret
    exact ⟨ret_bool HX.out.symm, HB1.out.alloc HB1.out.size _⟩
  · have hRm : R = rs.map (fun r => (r.1 : Int)) := by rw [hR]; exact rowsF_ok rs 0 hok.symm
    have hlen : R.length = rs.length := by rw [hRm, List.length_map]
    have hwo : R.all isWz = wordyL rs := by rw [hRm]; exact words_map rs
    have hlaz : (R.length : Int) ≤ a := by omega
    have hmz : (R.length : Int) ≤ 9223372036854775807 := by omega
    by_cases h0 : R.length = 0
    · have HX : Hid (nameX rs = false) := Lib.hid (by unfold nameX; rw [← hlen, h0]; simp)
      have h0b : ((R.length : Int) == 0) = true := beq_iff_eq.2 (by omega)
      clear hR hok hla hra hRm hlen hwo h0
      go_wp2_with fail
      go_ret
      exact ⟨ret_bool HX.out.symm, HB1.out.alloc HB1.out.size _⟩
    · have h0b : ((R.length : Int) == 0) = false := beqf (by omega)
      by_cases h12 : 12 < R.length
      · have HX : Hid (nameX rs = false) := Lib.hid (by unfold nameX; rw [decide_eq_false (show ¬ rs.length ≤ 12 by omega)]; simp)
        have h12z : (12 : Int) < R.length := by omega
        clear hR hok hla hra hRm hlen hwo h0 h12
        go_wp2_with fail
        go_ret
        exact ⟨ret_bool HX.out.symm, HB1.out.alloc HB1.out.size _⟩
      · have h12z : (R.length : Int) ≤ 12 := by omega
        have hpz : (0 : Int) < R.length := by omega
        obtain ⟨ad, rfl⟩ := row_some hra (by omega)
        obtain ⟨ad', e0, x0⟩ := int_at hra 0 (by omega)
        injection e0 with e0
        subst e0
        obtain ⟨r0, hr0⟩ : ∃ r, R[0]'(by omega) = r := ⟨_, rfl⟩
        rw [hr0, show ad.add 0 = ad from by unfold Addr.add; rw [if_pos rfl]] at x0
        have hd : ((rs.headD (0, 0)).1 : Int) = r0 := by
          rw [← hr0]
          cases rs with
          | nil => exact absurd (show R.length = 0 from hlen) (by omega)
          | cons p ps => simp [hRm]
        have hlt := World.block_lt_of_cell? w1 _ x0
        have HRA := Lib.hid hra
        obtain ⟨c0, hc0⟩ : ∃ c, cls r0 = c := ⟨_, rfl⟩
        have HC : Hid (∀ W, Calls Tryz.prog 72 #[.int .i64 r0] W fun e w' => e = .returned (.int .i64 c0) ∧ W = w') := Lib.hid (fun W => by have := xclass_any r0 W; rw [hc0] at this; exact this.mono (fun e w' h => ⟨h.1, h.2.symm⟩))
        have HX : Hid (nameX rs = (c0 == 2 && R.all isWz)) := Lib.hid (by
          unfold nameX
          rw [← hok, hd, hc0, hwo, ← hlen, decide_eq_true (show 0 < R.length by omega), decide_eq_true (show R.length ≤ 12 by omega)]
          rfl)
        clear hR hok hla hra hRm hlen hwo h0 h12 hr0 hd hc0
        by_cases hc : c0 = 2
        · subst hc
          obtain ⟨ANS, hANS⟩ : ∃ b, R.all isWz = b := ⟨_, rfl⟩
          have HX2 : Hid (nameX rs = ANS) := Lib.hid (by rw [HX.out, hANS]; rfl)
          have HANS := Lib.hid hANS
          clear hANS
          obtain ⟨w2, hw2⟩ : ∃ w', w1.alloc (.cells #[.string s, .slice (some ad) R.length a, .slice B Z.length b] 93 (0, 0)) = w' := ⟨_, rfl⟩
          have hb2 : Below w1.heap.size w1 w2 := hw2 ▸ (Below.refl _ _).alloc (Nat.le_refl _) _
          have hq2 : TxB w2 w1.heap.size s (.slice (some ad) R.length a) (.slice B Z.length b) := hw2 ▸ heap_alloc_new _ _
          obtain ⟨⟨y0, y1, y2⟩, _⟩ := blk3 hq2
          have HRA2 := Lib.hid (HRA.out.keep (Same.of_below (M := []) hb2))
          have HB2 := Lib.hid (HB1.out.trans (hb2.mono HB1.out.size))
          have x0' := (hb2.cell hlt).trans x0
          have hlt' := World.block_lt_of_cell? w2 _ x0'
          clear hb2 hq2 x0 hlt
          go_wp2_with (go_at_call 72; refine (HC.out _).mono ?_; rintro e w' ⟨rfl, rfl⟩)
          go_loopg [5] (R.length + 1) (fun k s5 w' => ∃ i : Nat, s5 = .int .i64 i ∧ i ≤ R.length ∧ R.length - i < k ∧ (R.drop i).all isWz = ANS ∧ w' = w2)
          case atStart => exact ⟨0, rfl, by omega, by omega, HANS.out, rfl⟩
          case round =>
            obtain ⟨i, rfl, hi, hik, hans, rfl⟩ := hrel
            obtain ⟨gk, rfl⟩ : ∃ k, gk = k + 1 := ⟨gk - 1, by omega⟩
            have hi0 : (0 : Int) ≤ i := by omega
            by_cases hlt : i < R.length
            · have hltz : (i : Int) < R.length := by omega
              obtain ⟨ad', e0, z0⟩ := int_at HRA2.out i hlt
              injection e0 with e0
              subst e0
              obtain ⟨ri, hri⟩ : ∃ r, R[i] = r := ⟨_, rfl⟩
              rw [hri] at z0
              have hltb := World.block_lt_of_cell? wr _ z0
              rw [drop_cons R i hlt, List.all_cons, hri] at hans
              have HCW := Lib.hid (fun W => xwordy_any ri W)
              obtain ⟨wi, hwi⟩ : ∃ b, isWz ri = b := ⟨_, rfl⟩
              rw [hwi] at hans HCW
              have HN := Lib.hid hans
              clear hans hri hwi
              cases wi
              · go_wp2_with (go_at_call 73; refine (HCW.out _).mono ?_; rintro e w' ⟨rfl, rfl⟩)
                go_ret
                have h := HN.out
                exact ⟨ret_bool (by rw [HX2.out, ← h]; rfl), HB2.out⟩
              · go_wp2_with (go_at_call 73; refine (HCW.out _).mono ?_; rintro e w' ⟨rfl, rfl⟩)
                go_roundg gk
                case measure => omega
                case rel => exact ⟨i + 1, by go_num, by omega, by omega, by have h := HN.out; simpa using h, rfl⟩
            · have hgez : (R.length : Int) ≤ i := by omega
              rw [List.drop_of_length_le (by omega)] at hans
              have HN := Lib.hid hans
              clear hans
              go_wp2_with fail
              go_ret
              have h := HN.out
              exact ⟨ret_bool (by rw [HX2.out, ← h]; rfl), HB2.out⟩
        · have hcb : (c0 != 2) = true := bnet hc
          have HX2 : Hid (nameX rs = false) := Lib.hid (by rw [HX.out, beqf hc]; rfl)
          clear hc
          go_wp2_with (go_at_call 72; refine (HC.out _).mono ?_; rintro e w' ⟨rfl, rfl⟩)
          go_ret
          exact ⟨ret_bool HX2.out.symm, HB1.out.alloc HB1.out.size _⟩
end Go.Proofs.YtgaiheojlmebaaaGreatDoor
