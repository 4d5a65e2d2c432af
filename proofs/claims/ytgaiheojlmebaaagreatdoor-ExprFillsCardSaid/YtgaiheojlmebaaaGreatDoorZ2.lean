/- Walks: a tree's names, sorted by the library. -/
import Derived.Test.YtgaiheojlmebaaaGreatDoorZ1
import Derived.Test.YtgaiheojlmebaaaGreatDoorF1
import Derived.Test.YtgaiheojlmebaaaGreatDoorH1
import Derived.OwnWalk
import Derived.Deep.AppendLies
import Derived.Sort.OwnSorted
namespace Go.Proofs.YtgaiheojlmebaaaGreatDoor
open Go Go.RowKit Go.Lib Go.Sort

theorem info_str : (Tryz.prog.info? 9).map (fun i => (i.zero, i.size, i.bytes)) = some (some (.string ⟨#[]⟩), 1, 16) := by kernel_rfl
theorem enc_name (s : ByteArray) : encStr s.data.toList = .string s := by
  show Value.string ⟨s.data.toList.toArray⟩ = _
  rw [list_eta]
/-- A row of texts of the call's own. -/
abbrev OwnS (w : World) (base : Nat) (v : Value) (l : List Bs) : Prop := w.ownsRow base 9 1 v l.length (l.map encStr)
/-- What names hands back: the list with a tree's names behind it. -/
def NmPost (w0 : World) (l : List Bs) (r : Ending) (w' : World) : Prop := ∃ V d, r = .returned (.slice V l.length d) ∧ OwnS w' w0.heap.size (.slice V l.length d) l ∧ Below w0.heap.size w0 w'

set_option maxHeartbeats 8000000 in
set_option maxRecDepth 100000 in
theorem ename_leaf (n : Int) (nm : ByteArray) (ks : List Ex) (A : Option Addr) (c : Nat) (w0 w : World) (V : Option Addr) (d : Nat) (ss : List Bs) (hb : Below w0.heap.size w0 w) (ho : OwnS w w0.heap.size (.slice V ss.length d) ss) (hB : ss.length ≤ 1000) :
    Calls Tryz.prog 21 #[.agg #[.int .i64 1, .int .i64 n, .string nm, .slice A ks.length c], .slice V ss.length d] w (NmPost w0 (ss ++ [nm.data.toList])) := by
  have HB := Lib.hid hb
  have HO := Lib.hid ho
  have hsz := hb.size
  obtain ⟨i0, hi0, hz0, hz1, hz2⟩ := info_parts info_str
  obtain ⟨w1, hw1⟩ : ∃ w', w.alloc (.cells #[.int .i64 1, .int .i64 n, .string nm, .slice A ks.length c] 24 (0, 0)) = w' := ⟨_, rfl⟩
  have hb1 : Below w.heap.size w w1 := hw1 ▸ (Below.refl _ _).alloc (Nat.le_refl _) _
  have hq1 : w1.heap[w.heap.size]? = some (.cells #[.int .i64 1, .int .i64 n, .string nm, .slice A ks.length c] 24 (0, 0)) := hw1 ▸ heap_alloc_new _ _
  have HB1 := Lib.hid (HB.out.trans (hb1.mono hsz))
  have HO1 := Lib.hid (own_below HO.out hb1)
  have hs1 := Nat.le_trans hsz hb1.size
  obtain ⟨⟨z0, z1, z2, z3⟩, _⟩ := blk4' hq1
  have hlq := blk_lt hq1
  clear hb ho hb1 hq1
  go_enter Tryz.func21, Tryz.ntmps21
  go_wp2_with (at_builtin; refine wpList_append_lies _ (by rfl) _ _ _ (by rfl) w0.heap.size 9 i0 _ 1 16 Tryz.underlying28 hi0 hz0 hz1 hz2 rfl (by omega) (.slice V ss.length d) ss.length (ss.map encStr) (by rfl) (HO1.out.alloc _) ⟨w1.heap.size, 0, none⟩ 1 1 [.string nm] (by rfl) (by rfl) (World.news_of_block (cs := #[.string nm]) (t := 9) (fr := (0, 0)) (heap_alloc_new w1 _)) (by simp [Value.oneCell']) (by omega) (by unfold maxLen; omega) (by omega) (by simp; omega) (w1.heap.size + 1) (by simp) ?_; intro g cap w3 hown3 hgrow hat hlt3; refine Hid.out ?_)
  refine Lib.hid ?_
  have hS3 : Same [] w0 w3 := ((Same.of_below (M := []) HB1.out).alloc _).grown hgrow (fun k hk => .inr (own_block HO1.out k hk).1)
  have HB3 := Lib.hid hS3.below
  have HO3 : Hid (OwnS w3 w0.heap.size (.slice (some ⟨g, 0, none⟩) (ss ++ [nm.data.toList]).length cap) (ss ++ [nm.data.toList])) := Lib.hid (by
    unfold OwnS
    rw [List.map_append, List.length_append, List.map_cons, List.map_nil, enc_name]
    exact hown3)
  clear hS3 hown3 hgrow hat hlt3
  go_wp2_with fail
  go_ret
  have hl : (ss ++ [nm.data.toList]).length = ss.length + 1 := by simp
  refine ⟨some ⟨g, 0, none⟩, cap, by rw [hl]; rfl, HO3.out, HB3.out⟩

set_option maxHeartbeats 8000000 in
set_option maxRecDepth 100000 in
theorem ename_node (o n : Int) (nm : ByteArray) (ks : List Ex) (A : Option Addr) (c : Nat) (w0 w : World) (V : Option Addr) (d : Nat) (ss : List Bs) (ho1 : o ≠ 1) (hr : exK.Row [] w0 A ks) (hlc : ks.length ≤ c) (hb : Below w0.heap.size w0 w) (ho : OwnS w w0.heap.size (.slice V ss.length d) ss)
    (hB : ss.length + (nmEs ks).length ≤ 1000)
    (ih : ∀ (j : Nat) (hj : j < ks.length) (A' : Option Addr) (c' : Nat) (V : Option Addr) (d : Nat) (tt : List Bs) (W : World), exK.Row [] w0 A' ks[j].kids → ks[j].kids.length ≤ c' → Below w0.heap.size w0 W → OwnS W w0.heap.size (.slice V tt.length d) tt → tt.length + (nmE ks[j]).length ≤ 1000 →
      Calls Tryz.prog 21 #[exV ks[j] A' c', .slice V tt.length d] W (NmPost w0 (tt ++ nmE ks[j]))) :
    Calls Tryz.prog 21 #[.agg #[.int .i64 o, .int .i64 n, .string nm, .slice A ks.length c], .slice V ss.length d] w (NmPost w0 (ss ++ nmEs ks)) := by
  have HB := Lib.hid hb
  have HO := Lib.hid ho
  have HIH := Lib.hid ih
  have HR := Lib.hid hr
  have hmax := hr.1
  have hmz : (ks.length : Int) ≤ 9223372036854775807 := by omega
  have hlcz : (ks.length : Int) ≤ c := by omega
  have o1 : (o == 1) = false := beqf ho1
  obtain ⟨ANS, hANS⟩ : ∃ x, ss ++ nmEs ks = x := ⟨_, rfl⟩
  have hBA : ANS.length ≤ 1000 := by rw [← hANS, List.length_append]; omega
  rw [hANS]
  have HANS := Lib.hid hANS
  obtain ⟨w1, hw1⟩ : ∃ w', w.alloc (.cells #[.int .i64 o, .int .i64 n, .string nm, .slice A ks.length c] 24 (0, 0)) = w' := ⟨_, rfl⟩
  have hb1 : Below w.heap.size w w1 := hw1 ▸ (Below.refl _ _).alloc (Nat.le_refl _) _
  have hq1 : w1.heap[w.heap.size]? = some (.cells #[.int .i64 o, .int .i64 n, .string nm, .slice A ks.length c] 24 (0, 0)) := hw1 ▸ heap_alloc_new _ _
  have HB1 := Lib.hid (HB.out.trans (hb1.mono hb.size))
  have HO1 := Lib.hid (own_below HO.out hb1)
  obtain ⟨⟨z0, z1, z2, z3⟩, _⟩ := blk4' hq1
  have hlq := blk_lt hq1
  have HW1 := Lib.hid hw1
  clear hb ho hb1 hq1 ih hr hANS ho1 hw1
  go_enter Tryz.func21, Tryz.ntmps21
  go_wp2_with fail
  rw [HW1.out]
  go_loopg [1, 18] (ks.length + 1) (fun k s1 s18 w' => ∃ (j : Nat) (tt : List Bs) (B : Option Addr) (b : Nat), s18 = .int .i64 j ∧ s1 = .slice B tt.length b ∧ j ≤ ks.length ∧ ks.length - j < k ∧ OwnS w' w0.heap.size (.slice B tt.length b) tt ∧ tt ++ nmEs (ks.drop j) = ANS ∧ Below w0.heap.size w0 w')
  case atStart => exact ⟨0, ss, V, d, rfl, rfl, by omega, by omega, HO1.out, HANS.out, HB1.out⟩
  case round =>
    obtain ⟨j, tt, B, b, rfl, rfl, hj, hjk, hot, hans, hbl⟩ := hrel
    obtain ⟨gk, rfl⟩ : ∃ k, gk = k + 1 := ⟨gk - 1, by omega⟩
    have HBL := Lib.hid hbl
    have HOT := Lib.hid hot
    have HA := Lib.hid hans
    have hj0 : (0 : Int) ≤ j := by omega
    clear z0 z1 z2 z3 hlq
    by_cases hlt : j < ks.length
    · have hltz : (j : Int) < ks.length := by omega
      obtain ⟨ad, rfl⟩ := row_some HR.out (by omega)
      obtain ⟨A', c', y0, y1, y2, y3, hlc', hrow', hnb⟩ := ex_some HR.out j hlt
      have hl0 := World.block_lt_of_cell? w0 _ y0
      have x0 := (hbl.cell hl0).trans y0
      have x1 := (hbl.cell (p := ⟨(ad.add (j * 4)).block, (ad.add (j * 4)).off + 1, none⟩) hl0).trans y1
      have x2 := (hbl.cell (p := ⟨(ad.add (j * 4)).block, (ad.add (j * 4)).off + 2, none⟩) hl0).trans y2
      have x3 := (hbl.cell (p := ⟨(ad.add (j * 4)).block, (ad.add (j * 4)).off + 3, none⟩) hl0).trans y3
      have hadlt := World.block_lt_of_cell? wr _ x0
      rw [drop_cons ks j hlt, nmEs_cons, ← List.append_assoc] at hans
      have hbt : tt.length + (nmE ks[j]).length ≤ 1000 := by rw [← hans, List.length_append, List.length_append] at hBA; omega
      have HKID := Lib.hid (fun W h1 h2 => HIH.out j hlt A' c' B b tt W hrow' hlc' h1 h2 hbt)
      have HN := Lib.hid hans
      clear y0 y1 y2 y3 hl0 hans hot hbl hrow' hnb hbt
      go_wp2_with fail
      have HB2 := Lib.hid (HBL.out.alloc HBL.out.size (.cells #[.int .i64 ks[j].op, .int .i64 ks[j].n, .string ks[j].name, .slice A' ks[j].kids.length c'] 24))
      have HO2 := Lib.hid (HOT.out.alloc (.cells #[.int .i64 ks[j].op, .int .i64 ks[j].n, .string ks[j].name, .slice A' ks[j].kids.length c'] 24))
      refine (HKID.out _ HB2.out HO2.out).mono ?_
      rintro r w3 ⟨B3, b3, rfl, ho3, hb3⟩
      have HO3 := Lib.hid ho3
      have HB3 := Lib.hid hb3
      clear ho3 hb3
      go_wp2_with fail
      go_roundg gk
      case measure => omega
      case rel => exact ⟨j + 1, tt ++ nmE ks[j], B3, b3, by go_num, by rw [List.length_append], by omega, by omega, HO3.out, HN.out, HB3.out⟩
    · have hge : (ks.length : Int) ≤ j := by omega
      rw [List.drop_of_length_le (by omega), nmEs, List.append_nil] at hans
      subst hans
      clear hot hbl
      go_wp2_with fail
      go_ret
      exact ⟨B, b, rfl, HOT.out, HBL.out⟩
theorem ename_any (w0 : World) (N : Nat) : ∀ (e : Ex) (A : Option Addr) (c : Nat) (V : Option Addr) (d : Nat) (ss : List Bs) (w : World), SizeOf.sizeOf e < N → exK.Row [] w0 A e.kids → e.kids.length ≤ c → Below w0.heap.size w0 w → OwnS w w0.heap.size (.slice V ss.length d) ss → ss.length + (nmE e).length ≤ 1000 →
    Calls Tryz.prog 21 #[exV e A c, .slice V ss.length d] w (NmPost w0 (ss ++ nmE e)) := by
  induction N with
  | zero => intro e A c V d ss w h; omega
  | succ N ih =>
    intro e A c V d ss w hN hr hlc hb ho hB
    obtain ⟨o, n, nm, ks⟩ := e
    by_cases h1 : o = 1
    · subst h1
      rw [nmE, if_pos rfl]
      exact ename_leaf n nm ks A c w0 w V d ss hb ho (by omega)
    · rw [nmE, if_neg h1] at hB ⊢
      refine ename_node o n nm ks A c w0 w V d ss h1 hr hlc hb ho hB (fun j hj A' c' V d tt W h2 h3 h4 h5 h6 => ih _ A' c' V d tt W ?_ h2 h3 h4 h5 h6)
      have h7 : SizeOf.sizeOf ks[j] < SizeOf.sizeOf ks := List.sizeOf_lt_of_mem (List.getElem_mem hj)
      simp at hN
      omega
end Go.Proofs.YtgaiheojlmebaaaGreatDoor
