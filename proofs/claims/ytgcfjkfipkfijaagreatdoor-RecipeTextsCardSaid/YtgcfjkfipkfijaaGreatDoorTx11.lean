/- Part 11 of the proof of rtexts_card; no conditions. -/
import Derived.Test.YtgcfjkfipkfijaaGreatDoorTx07
import Derived.Test.YtgcfjkfipkfijaaGreatDoorTx10
import Derived.Deep.RegionHeld3
import Derived.Deep.DrawnRows
namespace Go.Proofs.YtgcfjkfipkfijaaGreatDoor
open Go Go.RowKit Go.Lib
set_option maxHeartbeats 4000000 in
set_option maxRecDepth 100000 in
theorem part_of (e : Ex) (A : Option Addr) (c i : Nat) (w : World) (hr : exK.Row [] w A e.kids) (hlc : e.kids.length ≤ c) (hi : i < e.kids.length) (hT : Tabs w) (hl : (eText e.kids[i]).length ≤ 18014398509481984)
  (ih : ∀ (A' : Option Addr) (c' : Nat) (W : World), exK.Row [] W A' e.kids[i].kids → e.kids[i].kids.length ≤ c' → Tabs W → Calls Tryz.prog 141 #[exV e.kids[i] A' c'] W fun r w' => r = .returned (.string (str (eText e.kids[i]))) ∧ Below W.heap.size W w') :
  Calls Tryz.prog 160 #[exV e A c, .int .i64 i] w fun r w' => r = .returned (.string (str (brk (eWrapped e.op e.kids[i].op i) (eText e.kids[i])))) ∧ Below w.heap.size w w' := by
 obtain ⟨ad, rfl⟩ := row_some hr (by omega)
 obtain ⟨A', c', x0, x1, x2, x3, hlc', hrow', _⟩ := ex_some hr i hi
 have HROW := Lib.hid hr
 have HROWK := Lib.hid hrow'
 have HT := Lib.hid hT
 have hlt := World.block_lt_of_cell? w _ x0
 have HIH := Lib.hid (fun W h hT => ih A' c' W h hlc' hT)
 have HW := Lib.hid (fun W h => wrapped_nat e (some ad) c i W h hi hlc)
 have HAL := Lib.hid (Same.alloc (Same.refl [] w) (.cells #[.int .i64 e.op, .int .i64 e.n, .string e.name, .slice (some ad) e.kids.length c] 41))
 have HBOX := Lib.hid (heap_alloc_new w (.cells #[.int .i64 e.op, .int .i64 e.n, .string e.name, .slice (some ad) e.kids.length c] 41))
 obtain ⟨t, ht⟩ : ∃ t, eText e.kids[i] = t := ⟨_, rfl⟩
 obtain ⟨b, hb⟩ : ∃ b, eWrapped e.op e.kids[i].op i = b := ⟨_, rfl⟩
 rw [ht] at HIH hl ⊢
 rw [hb] at HW ⊢
 have hz : (i : Int) < e.kids.length := by omega
 have hlcz : (e.kids.length : Int) ≤ c := by omega
 have hl2 := str_size t
 obtain ⟨s, hs⟩ : ∃ s, str t = s := ⟨_, rfl⟩
 rw [hs] at HIH hl2
 have hsz : (s.size : Int) ≤ 18014398509481984 := by omega
 have HFIN : Hid (str (brk true t) = ⟨#[40]⟩ ++ s ++ ⟨#[41]⟩) := by
  have e1 : (⟨#[40]⟩ : ByteArray) = str [40] := rfl
  have e2 : (⟨#[41]⟩ : ByteArray) = str [41] := rfl
  rw [e1, e2, ← hs, str_app, str_app]; exact rfl
 have HFIN0 : Hid (str (brk false t) = s) := hs
 clear hr hrow' hT ih ht hb hl2 hs
 go_enter Tryz.func160, Tryz.ntmps160
 go_wp2_with fail
 refine (HIH.out _ (HROWK.out.keep HAL.out) (HT.out.alloc _)).mono ?_
 rintro r w2 ⟨rfl, hb2⟩
 have hbx := (hb2.block w.heap.size (by simp)).trans HBOX.out
 have q0 := (blk_cell hbx 0).trans rfl
 have q1 := (blk_cell hbx 1).trans rfl
 have q2 := (blk_cell hbx 2).trans rfl
 have q3 := (blk_cell hbx 3).trans rfl
 have HS2 := Lib.hid (HAL.out.below_ hb2)
 clear hb2 hbx
 go_wp2_with fail
 refine (HW.out _ (HROW.out.keep HS2.out)).mono ?_
 rintro r w3 ⟨rfl, hb3⟩
 have HB3 := Lib.hid (HS2.out.below.trans (hb3.mono HS2.out.size))
 clear hb3
 cases b
 ·go_wp2_with fail
  go_ret
  exact ⟨ret_str HFIN0.out.symm, HB3.out⟩
 ·go_wp2_with fail
  go_ret
  exact ⟨ret_str HFIN.out.symm, HB3.out⟩
theorem part_any (e : Ex) (A : Option Addr) (c : Nat) (i : Int) (w : World) (hr : exK.Row [] w A e.kids) (hlc : e.kids.length ≤ c) (h0 : 0 ≤ i) (hi : i < e.kids.length) (hT : Tabs w) (hl : (eText (e.kids[i.toNat]'(by omega))).length ≤ 18014398509481984)
  (ih : ∀ k, k ∈ e.kids → ∀ (A' : Option Addr) (c' : Nat) (W : World), exK.Row [] W A' k.kids → k.kids.length ≤ c' → Tabs W → Calls Tryz.prog 141 #[exV k A' c'] W fun r w' => r = .returned (.string (str (eText k))) ∧ Below W.heap.size W w') :
  Calls Tryz.prog 160 #[exV e A c, .int .i64 i] w fun r w' => r = .returned (.string (str (brk (eWrapped e.op (e.kids[i.toNat]'(by omega)).op i) (eText (e.kids[i.toNat]'(by omega)))))) ∧ Below w.heap.size w w' := by
 obtain ⟨k, rfl⟩ := Int.eq_ofNat_of_zero_le h0
 exact part_of e A c k w hr hlc (by omega) hT hl (fun A' c' W a b c => ih _ (List.getElem_mem (by omega)) A' c' W a b c)
set_option maxHeartbeats 4000000 in
set_option maxRecDepth 100000 in
theorem text_one (o n : Int) (nm : ByteArray) (a : Ex) (A : Option Addr) (c : Nat) (w : World) (ho : o = 2 ∨ o = 3) (hr : exK.Row [] w A [a]) (hlc : 1 ≤ c) (hT : Tabs w) (hl : (eText (.mk o n nm [a])).length ≤ 18014398509481984)
  (ih : ∀ (A' : Option Addr) (c' : Nat) (W : World), exK.Row [] W A' a.kids → a.kids.length ≤ c' → Tabs W → Calls Tryz.prog 141 #[exV a A' c'] W fun r w' => r = .returned (.string (str (eText a))) ∧ Below W.heap.size W w') :
  Calls Tryz.prog 141 #[.agg #[.int .i64 o, .int .i64 n, .string nm, .slice A 1 c]] w fun r w' => r = .returned (.string (str (eText (.mk o n nm [a])))) ∧ Below w.heap.size w w' := by
 have hX : eText (.mk o n nm [a]) = (eSign o).data.toList ++ brk (eWrapped o a.op 0) (eText a) := by
  rw [eText.eq_def]; simp only
  rw [if_neg (by omega), if_neg (by omega)]
 rw [hX, List.length_append, brk_len] at hl
 have hk : (eText a).length ≤ 18014398509481984 := by omega
 obtain ⟨w0, hw0⟩ : ∃ w0, w.alloc (.cells #[.int .i64 o, .int .i64 n, .string nm, .slice A 1 c] 41) = w0 := ⟨_, rfl⟩
 have hal : Below w.heap.size w w0 := by rw [← hw0]; exact (Below.refl _ _).alloc (Nat.le_refl _) _
 have hbox : w0.heap[w.heap.size]? = some (.cells #[.int .i64 o, .int .i64 n, .string nm, .slice A 1 c] 41 (0, 0)) := by rw [← hw0]; exact heap_alloc_new _ _
 have HP : Hid (∀ W, Below w0.heap.size w0 W → Calls Tryz.prog 160 #[.agg #[.int .i64 o, .int .i64 n, .string nm, .slice A 1 c], .int .i64 0] W fun r w' => r = .returned (.string (str (brk (eWrapped o a.op 0) (eText a)))) ∧ Below w0.heap.size w0 w') := fun W hW => by
  have hS := (hal.trans (hW.mono hal.size))
  refine (part_any (.mk o n nm [a]) A c 0 W (hr.keep (Same.of_below hS)) hlc (by omega) (by simp [Ex.kids]) (hT.below hS) hk (fun k hk' => by simp [Ex.kids] at hk'; subst hk'; exact ih)).mono ?_
  rintro r w' ⟨rfl, hb⟩
  exact ⟨rfl, hW.trans (hb.mono hW.size)⟩
 have hsg := sign_len o
 obtain ⟨s1, hs1⟩ : ∃ s, str (brk (eWrapped o a.op 0) (eText a)) = s := ⟨_, rfl⟩
 obtain ⟨s2, hs2⟩ : ∃ s, eSign o = s := ⟨_, rfl⟩
 have hz1 : (s1.size : Int) ≤ 18014398509481999 := by rw [← hs1, str_size, brk_len]; split <;> omega
 have hz2 : (s2.size : Int) ≤ 2 := by rw [← hs2, ← size_data]; omega
 have HF : Hid (str (eText (.mk o n nm [a])) = s2 ++ s1) := by rw [hX, ← str_app, str_data, hs1, hs2]; exact rfl
 rw [hs1] at HP
 have HS : Hid (∀ W, Calls Tryz.prog 159 #[.int .i64 o] W fun e w' => e = .returned (.string s2) ∧ W = w') := fun W => by rw [← hs2]; exact sign_any o W
 have SK : ∀ W, Below w0.heap.size w0 W → W.cell? ⟨w.heap.size, 0, none⟩ = some (.int .i64 o) ∧ W.cell? ⟨w.heap.size, 1, none⟩ = some (.int .i64 n) ∧ W.cell? ⟨w.heap.size, 2, none⟩ = some (.string nm) ∧ W.cell? ⟨w.heap.size, 3, none⟩ = some (.slice A 1 c) ∧ Hid (Below w0.heap.size w0 W) := fun W hW => by
  have hb := (hW.block _ (blk_lt hbox)).trans hbox
  exact ⟨(blk_cell hb 0).trans rfl, (blk_cell hb 1).trans rfl, (blk_cell hb 2).trans rfl, (blk_cell hb 3).trans rfl, hW⟩
 have HSK := Lib.hid SK
 have hcat : ∀ W, (Op.stringOp .add s2 s1).run Tryz.prog W = .ok (.string (s2 ++ s1)) W := fun W => run_string_add_sum (w := W) s2 s1 (by omega)
 have HAL := Lib.hid hal
 have HW0 := Lib.hid hw0
 have o0 : (o == 0) = false := beqf (by omega)
 have o1 : (o == 1) = false := beqf (by omega)
 have hoo : (o == 2) = true ∨ ((o == 2) = false ∧ (o == 3) = true) := by
  rcases ho with rfl | rfl
  ·exact .inl rfl
  ·exact .inr ⟨rfl, rfl⟩
 clear hr hT ih hX hl hk hal hbox SK hs1 hs2 hw0 ho hsg
 rcases hoo with b2 | ⟨b2, b3⟩
 all_goals
  go_enter Tryz.func141, Tryz.ntmps141
  go_wp2_with fail
  rw [HW0.out]
  have HB0 := Lib.hid ((Below.refl w0.heap.size w0).drew)
  obtain ⟨i0, i1, i2, i3, i4⟩ := HSK.out _ HB0.out
  go_region_held3 (fun W => W.cell? ⟨w.heap.size, 0, none⟩ = some (.int .i64 o) ∧ W.cell? ⟨w.heap.size, 1, none⟩ = some (.int .i64 n) ∧ W.cell? ⟨w.heap.size, 2, none⟩ = some (.string nm) ∧ W.cell? ⟨w.heap.size, 3, none⟩ = some (.slice A 1 c) ∧ Hid (Below w0.heap.size w0 W))
   (first | exact HSK.out _ hb | exact HSK.out _ HB0.out | go_keep)
   (first
     | (go_at_call 159; refine (HS.out _).mono ?_; rintro e w' ⟨rfl, rfl⟩)
     | (go_at_call 160; refine (HP.out _ ?_).mono ?_; (first | exact HB0.out | assumption); rintro e w' ⟨rfl, hb⟩))
  all_goals
   go_wp2_with fail
   go_ret
   exact ⟨ret_str HF.out.symm, HAL.out.trans (hb.mono HAL.out.size)⟩
set_option maxHeartbeats 8000000 in
set_option maxRecDepth 100000 in
theorem text_two (o n : Int) (nm : ByteArray) (a b : Ex) (A : Option Addr) (c : Nat) (w : World) (ho : 4 ≤ o) (hr : exK.Row [] w A [a, b]) (hlc : 2 ≤ c) (hT : Tabs w) (hl : (eText (.mk o n nm [a, b])).length ≤ 18014398509481984)
  (ih : ∀ k, k ∈ [a, b] → ∀ (A' : Option Addr) (c' : Nat) (W : World), exK.Row [] W A' k.kids → k.kids.length ≤ c' → Tabs W → Calls Tryz.prog 141 #[exV k A' c'] W fun r w' => r = .returned (.string (str (eText k))) ∧ Below W.heap.size W w') :
  Calls Tryz.prog 141 #[.agg #[.int .i64 o, .int .i64 n, .string nm, .slice A 2 c]] w fun r w' => r = .returned (.string (str (eText (.mk o n nm [a, b])))) ∧ Below w.heap.size w w' := by
 have hX : eText (.mk o n nm [a, b]) = brk (eWrapped o a.op 0) (eText a) ++ [32] ++ (eSign o).data.toList ++ [32] ++ brk (eWrapped o b.op 1) (eText b) := by
  rw [eText.eq_def]; simp only
  rw [if_neg (by omega), if_neg (by omega)]
 rw [hX] at hl
 simp only [List.length_append, brk_len, List.length_cons, List.length_nil] at hl
 obtain ⟨w0, hw0⟩ : ∃ w0, w.alloc (.cells #[.int .i64 o, .int .i64 n, .string nm, .slice A 2 c] 41) = w0 := ⟨_, rfl⟩
 have hal : Below w.heap.size w w0 := by rw [← hw0]; exact (Below.refl _ _).alloc (Nat.le_refl _) _
 have hbox : w0.heap[w.heap.size]? = some (.cells #[.int .i64 o, .int .i64 n, .string nm, .slice A 2 c] 41 (0, 0)) := by rw [← hw0]; exact heap_alloc_new _ _
 obtain ⟨ps, hp0, hp1⟩ : ∃ ps : Int → ByteArray, ps 0 = str (brk (eWrapped o a.op 0) (eText a)) ∧ ps 1 = str (brk (eWrapped o b.op 1) (eText b)) := ⟨fun i => if i = 0 then str (brk (eWrapped o a.op 0) (eText a)) else str (brk (eWrapped o b.op 1) (eText b)), rfl, rfl⟩
 have HP : Hid (∀ W (i : Int), i = 0 ∨ i = 1 → Below w0.heap.size w0 W → Calls Tryz.prog 160 #[.agg #[.int .i64 o, .int .i64 n, .string nm, .slice A 2 c], .int .i64 i] W fun r w' => r = .returned (.string (ps i)) ∧ Below w0.heap.size w0 w') := fun W i hi hW => by
  have hS := (hal.trans (hW.mono hal.size))
  rcases hi with rfl | rfl
  ·refine (part_any (.mk o n nm [a, b]) A c 0 W (hr.keep (Same.of_below hS)) hlc (by omega) (by simp [Ex.kids]) (hT.below hS) (show (eText a).length ≤ _ by omega) ih).mono ?_
   rintro r w' ⟨rfl, hb⟩
   exact ⟨by rw [hp0]; rfl, hW.trans (hb.mono hW.size)⟩
  ·refine (part_any (.mk o n nm [a, b]) A c 1 W (hr.keep (Same.of_below hS)) hlc (by omega) (by simp [Ex.kids]) (hT.below hS) (show (eText b).length ≤ _ by omega) ih).mono ?_
   rintro r w' ⟨rfl, hb⟩
   exact ⟨by rw [hp1]; rfl, hW.trans (hb.mono hW.size)⟩
 have hsg := sign_len o
 obtain ⟨s2, hs2⟩ : ∃ s, eSign o = s := ⟨_, rfl⟩
 have hz0 : (ps 0).size ≤ 18014398509481999 := by rw [hp0, str_size, brk_len]; split <;> omega
 have hz1 : (ps 1).size ≤ 18014398509481999 := by rw [hp1, str_size, brk_len]; split <;> omega
 have hz2 : s2.size ≤ 2 := by rw [← hs2, ← size_data]; omega
 have hsp : (⟨#[32]⟩ : ByteArray) = str [32] := rfl
 have HF : Hid (str (eText (.mk o n nm [a, b])) = ps 0 ++ ⟨#[32]⟩ ++ s2 ++ ⟨#[32]⟩ ++ ps 1) := by
  rw [hX, ← str_app, ← str_app, ← str_app, ← str_app, str_data, ← hp0, ← hp1, hs2, hsp]; exact rfl
 have HS : Hid (∀ W, Calls Tryz.prog 159 #[.int .i64 o] W fun e w' => e = .returned (.string s2) ∧ W = w') := fun W => by rw [← hs2]; exact sign_any o W
 have SK : ∀ W, Below w0.heap.size w0 W → W.cell? ⟨w.heap.size, 0, none⟩ = some (.int .i64 o) ∧ W.cell? ⟨w.heap.size, 1, none⟩ = some (.int .i64 n) ∧ W.cell? ⟨w.heap.size, 2, none⟩ = some (.string nm) ∧ W.cell? ⟨w.heap.size, 3, none⟩ = some (.slice A 2 c) ∧ Hid (Below w0.heap.size w0 W) := fun W hW => by
  have hb := (hW.block _ (blk_lt hbox)).trans hbox
  exact ⟨(blk_cell hb 0).trans rfl, (blk_cell hb 1).trans rfl, (blk_cell hb 2).trans rfl, (blk_cell hb 3).trans rfl, hW⟩
 have HSK := Lib.hid SK
 have e1 : (⟨#[32]⟩ : ByteArray).size = 1 := rfl
 have c1 : ∀ W, (Op.stringOp .add (ps 0) ⟨#[32]⟩).run Tryz.prog W = .ok (.string (ps 0 ++ ⟨#[32]⟩)) W := fun W => run_string_add_sum (w := W) _ _ (by rw [e1]; omega)
 have c2 : ∀ W, (Op.stringOp .add (ps 0 ++ ⟨#[32]⟩) s2).run Tryz.prog W = .ok (.string (ps 0 ++ ⟨#[32]⟩ ++ s2)) W := fun W => run_string_add_sum (w := W) _ _ (by rw [ByteArray.size_append, e1]; omega)
 have c3 : ∀ W, (Op.stringOp .add (ps 0 ++ ⟨#[32]⟩ ++ s2) ⟨#[32]⟩).run Tryz.prog W = .ok (.string (ps 0 ++ ⟨#[32]⟩ ++ s2 ++ ⟨#[32]⟩)) W := fun W => run_string_add_sum (w := W) _ _ (by rw [ByteArray.size_append, ByteArray.size_append, e1]; omega)
 have c4 : ∀ W, (Op.stringOp .add (ps 0 ++ ⟨#[32]⟩ ++ s2 ++ ⟨#[32]⟩) (ps 1)).run Tryz.prog W = .ok (.string (ps 0 ++ ⟨#[32]⟩ ++ s2 ++ ⟨#[32]⟩ ++ ps 1)) W := fun W => run_string_add_sum (w := W) _ _ (by rw [ByteArray.size_append, ByteArray.size_append, ByteArray.size_append, e1]; omega)
 have HAL := Lib.hid hal
 have HW0 := Lib.hid hw0
 have o0 : (o == 0) = false := beqf (by omega)
 have o1 : (o == 1) = false := beqf (by omega)
 have o2 : (o == 2) = false := beqf (by omega)
 have o3 : (o == 3) = false := beqf (by omega)
 clear hr hT ih hX hl hal hbox SK hs2 hw0 ho hsg hp0 hp1 hsp e1
 go_enter Tryz.func141, Tryz.ntmps141
 go_wp2_with fail
 rw [HW0.out]
 have HB0 := Lib.hid ((Below.refl w0.heap.size w0).drew)
 obtain ⟨i0, i1, i2, i3, i4⟩ := HSK.out _ HB0.out
 go_region_held3 (fun W => W.cell? ⟨w.heap.size, 0, none⟩ = some (.int .i64 o) ∧ W.cell? ⟨w.heap.size, 1, none⟩ = some (.int .i64 n) ∧ W.cell? ⟨w.heap.size, 2, none⟩ = some (.string nm) ∧ W.cell? ⟨w.heap.size, 3, none⟩ = some (.slice A 2 c) ∧ Hid (Below w0.heap.size w0 W))
  (first | exact HSK.out _ hb | exact HSK.out _ HB0.out | go_keep)
  (first
    | (go_at_call 159; refine (HS.out _).mono ?_; rintro e w' ⟨rfl, rfl⟩)
    | (go_at_call 160; refine (HP.out _ _ (by omega) ?_).mono ?_; (first | exact HB0.out | assumption); rintro e w' ⟨rfl, hb⟩))
 all_goals
  go_wp2_with fail
  go_ret
  exact ⟨ret_str HF.out.symm, HAL.out.trans (hb.mono HAL.out.size)⟩
set_option maxHeartbeats 4000000 in
set_option maxRecDepth 100000 in
theorem text_leaf (o n : Int) (nm : ByteArray) (A : Option Addr) (c : Nat) (w : World) (ho : o = 0 ∨ o = 1) (hn : Fits n) (hT : Tabs w) :
  Calls Tryz.prog 141 #[.agg #[.int .i64 o, .int .i64 n, .string nm, .slice A 0 c]] w fun r w' => r = .returned (.string (str (eText (.mk o n nm [])))) ∧ Below w.heap.size w w' := by
 have HS := Lib.hid (fun W h => show_any n W hn.1 hn.2 h)
 have HT := Lib.hid hT
 clear hT
 rcases ho with rfl | rfl
 ·have HX : Hid (eText (.mk 0 n nm []) = Lib.itoa n) := by rw [eText.eq_def]; exact rfl
  go_enter Tryz.func141, Tryz.ntmps141
  go_wp2_with (go_at_call 66; refine (HS.out _ (HT.out.alloc _)).mono ?_; rintro e w2 ⟨rfl, hb2⟩)
  go_ret
  exact ⟨ret_str (by rw [HX.out]; rfl), ((Below.refl _ _).alloc (Nat.le_refl _) _).trans (hb2.mono (by simp))⟩
 ·have HX : Hid (eText (.mk 1 n nm []) = nm.data.toList) := by rw [eText.eq_def]; exact rfl
  go_enter Tryz.func141, Tryz.ntmps141
  go_wp2_with fail
  go_ret
  exact ⟨ret_str (by rw [HX.out, str_data]), (Below.refl _ _).alloc (Nat.le_refl _) _⟩
theorem text_kid_one {o n : Int} {nm : ByteArray} {a : Ex} (ho : ¬ (o = 0 ∨ o = 1)) : (eText a).length ≤ (eText (.mk o n nm [a])).length := by
 conv => rhs; rw [eText.eq_def]
 simp only
 rw [if_neg (by omega), if_neg (by omega), List.length_append, brk_len]
 omega
theorem text_kid_two {o n : Int} {nm : ByteArray} {a b : Ex} (ho : ¬ (o = 0 ∨ o = 1)) : (eText a).length ≤ (eText (.mk o n nm [a, b])).length ∧ (eText b).length ≤ (eText (.mk o n nm [a, b])).length := by
 constructor
 all_goals
  conv => rhs; rw [eText.eq_def]
  simp only
  rw [if_neg (by omega), if_neg (by omega)]
  simp only [List.length_append, brk_len]
  omega
theorem text_any (N : Nat) : ∀ (e : Ex) (A : Option Addr) (c : Nat) (w : World), SizeOf.sizeOf e < N → exK.Row [] w A e.kids → e.kids.length ≤ c → ExOk e → ExSh e → (eText e).length ≤ 18014398509481984 → Tabs w →
  Calls Tryz.prog 141 #[exV e A c] w fun r w' => r = .returned (.string (str (eText e))) ∧ Below w.heap.size w w' := by
 induction N with
 | zero => intro e A c w h; omega
 | succ N ih =>
  intro e A c w hN hr hlc hk hs hl hT
  cases hs with
  | leaf h h2 =>
   subst h2
   exact text_leaf _ _ _ A c w h hk.n hT
  | @node op n nm ks h1 h2 h3 h4 =>
   have hsz : ∀ x, x ∈ ks → SizeOf.sizeOf x < N := fun x hx => by
    have := List.sizeOf_lt_of_mem hx
    simp at hN
    omega
   have hlc : ks.length ≤ c := hlc
   have hr : exK.Row [] w A ks := hr
   have hno : ¬ (op = 0 ∨ op = 1) := by omega
   by_cases ho : op = 2 ∨ op = 3
   ·have hp : eParts op = 1 := if_pos ho
    obtain ⟨a, rfl⟩ : ∃ a, ks = [a] := List.length_eq_one_iff.1 (h3.trans hp)
    have hla := text_kid_one (n := n) (nm := nm) (a := a) hno
    exact text_one op n nm a A c w ho hr hlc hT hl (fun A' c' W hr' hl' hT' => ih a A' c' W (hsz a (by simp)) hr' hl' (hk.kids a (by simp [Ex.kids])) (h4 a (by simp)) (by omega) hT')
   ·have hp : eParts op = 2 := if_neg ho
    obtain ⟨a, b, rfl⟩ : ∃ a b, ks = [a, b] := by
     have h5 := h3.trans hp
     match ks, h5 with
     | [a, b], _ => exact ⟨a, b, rfl⟩
    have hla := text_kid_two (n := n) (nm := nm) (a := a) (b := b) hno
    exact text_two op n nm a b A c w (by omega) hr hlc hT hl (fun k hkm A' c' W hr' hl' hT' => ih k A' c' W (hsz k hkm) hr' hl' (hk.kids k hkm) (h4 k hkm) (by simp at hkm; rcases hkm with rfl | rfl <;> omega) hT')
set_option maxHeartbeats 2000000 in
theorem print_any (e : Ex) (A : Option Addr) (c : Nat) (w : World) (hr : exK.Row [] w A e.kids) (hlc : e.kids.length ≤ c) (hk : ExOk e) (hT : Tabs w) :
  Calls Tryz.prog 125 #[exV e A c] w fun r w' => r = .returned (.string (str (ePrint e))) ∧ Below w.heap.size w w' := by
 have HM := Lib.hid (fun W h hT => may_any e A c W h hlc hk hT)
 have HAL := Lib.hid (Same.alloc (Same.refl [] w) (.cells #[.int .i64 e.op, .int .i64 e.n, .string e.name, .slice A e.kids.length c] 41))
 have HBOX := Lib.hid (heap_alloc_new w (.cells #[.int .i64 e.op, .int .i64 e.n, .string e.name, .slice A e.kids.length c] 41))
 have HX : Hid (ePrint e = if eMay e then eText e else []) := rfl
 have HT := Lib.hid hT
 have HR := Lib.hid hr
 cases hb : eMay e
 ·rw [hb] at HM HX
  clear hr hT
  go_enter Tryz.func125, Tryz.ntmps125
  go_wp2_with (go_at_call 140; refine (HM.out _ (HR.out.keep HAL.out) (HT.out.alloc _)).mono ?_; rintro r w2 ⟨rfl, hb2⟩)
  go_ret
  exact ⟨ret_str (by rw [HX.out]; rfl), HAL.out.below.trans (hb2.mono (by simp))⟩
 ·have HRK := Lib.hid (fun W hr hT => text_any (SizeOf.sizeOf e + 1) e A c W (by omega) hr hlc hk (sh_of_may hb) (text_len_may hk hb) hT)
  rw [hb] at HM HX
  clear hr hT
  go_enter Tryz.func125, Tryz.ntmps125
  go_wp2_with fail
  refine (HM.out _ (HR.out.keep HAL.out) (HT.out.alloc _)).mono ?_
  rintro r w2 ⟨rfl, hb2⟩
  have hbx := (hb2.block w.heap.size (by simp)).trans HBOX.out
  have q0 := (blk_cell hbx 0).trans rfl
  have q1 := (blk_cell hbx 1).trans rfl
  have q2 := (blk_cell hbx 2).trans rfl
  have q3 := (blk_cell hbx 3).trans rfl
  have HS2 := Lib.hid (HAL.out.below_ hb2)
  clear hb2 hbx
  go_wp2_with (go_at_call 141; refine (HRK.out _ (HR.out.keep HS2.out) (HT.out.below HS2.out.below)).mono ?_; rintro r w3 ⟨rfl, hb3⟩)
  go_ret
  exact ⟨ret_str (by rw [HX.out]; rfl), HS2.out.below.trans (hb3.mono HS2.out.size)⟩
end Go.Proofs.YtgcfjkfipkfijaaGreatDoor
