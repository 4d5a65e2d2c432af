/- Part 15 of the proof of rtexts_card; no conditions. -/
import Derived.Test.YtgcfjkfipkfijaaGreatDoorTx02
import Derived.Test.YtgcfjkfipkfijaaGreatDoorTx01
import Derived.Deep.LoopGhost
namespace Go.Proofs.YtgcfjkfipkfijaaGreatDoor
open Go Go.RowKit Go.Lib
theorem six (c : Int) : c = 1 ∨ c = 6 ∧ (c == 1) = false ∨ (c == 1) = false ∧ (c == 6) = false ∧ c ≠ 1 ∧ c ≠ 6 := by
 simp only [beq_eq_false_iff_ne, ne_eq]
 omega
theorem head_cons {s : ByteArray} (h : 0 < s.size) : s.data.toList = s[0] :: s.data.toList.tail := by
 have h' : 0 < s.data.toList.length := by rw [size_data]; exact h
 have e := head_getD s h
 cases hl : s.data.toList with
 | nil => rw [hl] at h'; simp at h'
 | cons a t => rw [hl] at e; rw [e]; rfl
theorem nonempty_ne {s : ByteArray} (h : 0 < s.size) : (!s.toList.isEmpty) = true := by rw [ne_empty]; exact decide_eq_true (by omega)
theorem nonempty_eq {s : ByteArray} (h : ¬ 0 < s.size) : (!s.toList.isEmpty) = false := by rw [ne_empty]; exact decide_eq_false (by omega)
theorem cls6 {r : Int} : cls r = 6 ↔ r = 35 := by
 unfold cls
 repeat' split
 all_goals omega
theorem hash_at {l t : List UInt8} {c : UInt8} (h : l = c :: t) (hc : c.toNat = 35) : indexByte l 10 ≠ 0 := by
 subst h
 have : (c == 10) = false := by rw [beq_eq_false_iff_ne]; rintro rfl; simp at hc
 have h2 := indexByte_le t 10
 simp only [indexByte, this]
 repeat' split
 all_goals first | omega | (simp_all; done) | (simp_all; omega)
set_option maxHeartbeats 2000000 in
set_option maxRecDepth 100000 in
theorem blanks_any (g : Nat) (rest : ByteArray) (at_ : Int) (v : Value) (w : World) (hb : CutB w g rest at_ v) (_hs : rest.size ≤ 100000) (ha0 : 0 ≤ at_) (ha : at_ + rest.size ≤ 100000) (ANS : List UInt8 × Int) (hA : skipF (rest.size + 1) rest.data.toList at_ = ANS) :
  Calls Tryz.prog 48 #[.pointer (some ⟨g, 0, none⟩)] w fun e w' =>
   e = .returned (.tuple #[]) ∧ ∃ r a, CutB w' g r a v ∧ Same [g] w w' ∧ r.data.toList = ANS.1 ∧ a = ANS.2 ∧ r.size ≤ rest.size ∧ at_ ≤ a ∧ a + r.size ≤ at_ + rest.size := by
 go_enter Tryz.func48, Tryz.ntmps48
 go_wp2
 go_loopg [2] (rest.size + 1) (fun k _ w' => ∃ (r : ByteArray) (a : Int), CutB w' g r a v ∧ Same [g] w w' ∧ r.size < k ∧ skipF k r.data.toList a = ANS ∧ r.size ≤ rest.size ∧ at_ ≤ a ∧ a + r.size ≤ at_ + rest.size)
 case atStart => exact ⟨rest, at_, hb, Same.refl _ _, by omega, hA, by omega, by omega, by omega⟩
 case round =>
  obtain ⟨r, a, hb', hS, hk, hr, hl1, hl2, hl3⟩ := hrel
  have HB := Lib.hid hb'
  have HS := Lib.hid hS
  have HR := Lib.hid hr
  have hc0 : wr.cell? ⟨g, 0, none⟩ = some (.string r) := (blk_cell hb' 0).trans rfl
  obtain ⟨gk, rfl⟩ : ∃ k, gk = k + 1 := ⟨gk - 1, by omega⟩
  clear hb hb' hS hr hA
  by_cases hp : 0 < r.size
  ·have hne := nonempty_ne hp
   have hz : (0 : Int) < r.size := by omega
   obtain ⟨c, hc⟩ : ∃ c, r[0] = c := ⟨_, rfl⟩
   have hcons := head_cons hp
   rw [hc] at hcons
   have HCONS := Lib.hid hcons
   obtain ⟨k, hk'⟩ : ∃ k, cls (c.toNat : Int) = k := ⟨_, rfl⟩
   have hlt := c.toNat_lt
   have HC : Hid (∀ W, Calls Tryz.prog 74 #[.int .i32 c.toNat] W fun e w' => e = .returned (.int .i64 k) ∧ W = w') := fun W => by rw [← hk']; exact class_any _ W (by omega) (by omega)
   have HN : Hid (skipN r.data.toList = if k = 1 then 1 else if k = 6 then (if indexByte r.data.toList 10 < 0 then r.size else (indexByte r.data.toList 10).toNat) else 0) := by
    rw [hcons, ← hk', ← size_data r, hcons]; exact rfl
   have H6 : Hid (k = 6 → c.toNat = 35) := fun e => by have := cls6.1 (hk'.trans e); omega
   clear hk' hcons
   rcases six k with rfl | ⟨rfl, h61⟩ | ⟨h1, h6, h1', h6'⟩
   ·have HN' : Hid (skipN r.data.toList = 1) := by rw [HN.out]; rfl
    go_wp2_with (first | (go_at_call 74; refine (HC.out _).mono ?_; rintro e w' ⟨rfl, rfl⟩) | (go_at_call 50; refine (pass_any g r a v _ _ HB.out (by omega) (by omega) (by omega) (by omega) (by omega)).mono ?_; rintro e w3 ⟨rfl, hb3, hs3⟩))
    go_roundg gk
    case measure => omega
    case rel =>
     have h1 := HR.out
     rw [skipF_step (by rw [HN'.out]; decide), HN'.out] at h1
     have h2 := runes_len (r.data.toList.take (Int.toNat 1))
     rw [List.length_take, size_data] at h2
     exact ⟨_, _, hb3, HS.out.then_ hs3, by rw [Lib.ext_size]; omega, by rw [ext_drop]; exact h1, by rw [Lib.ext_size]; omega, by omega, by rw [Lib.ext_size]; omega⟩
   ·have H35 := Lib.hid (H6.out rfl)
    obtain ⟨x, hx⟩ : ∃ x, indexByte r.data.toList 10 = x := ⟨_, rfl⟩
    have hxb := indexByte_le r.data.toList 10
    rw [size_data, hx] at hxb
    have HIX : Hid (∀ W, Calls Tryz.prog 75 #[.string r, .int .u8 10] W fun e w' => e = .returned (.int .i64 x) ∧ W = w') := fun W => by
     have := Tryz.strings_IndexByte r 10 W
     refine this.mono ?_
     rintro e w' ⟨rfl, rfl⟩
     exact ⟨by rw [← hx]; rfl, rfl⟩
    have hx0 : x ≠ 0 := by
     rw [← hx]
     exact hash_at HCONS.out H35.out
    have HN' : Hid (skipN r.data.toList = if x < 0 then r.size else x.toNat) := by rw [HN.out, hx]; rfl
    clear hx
    rcases Int.lt_or_le x 0 with hneg | hpos
    ·have HN2 : Hid (skipN r.data.toList = r.size) := by rw [HN'.out, if_pos hneg]; rfl
     go_wp2_with (first | (go_at_call 74; refine (HC.out _).mono ?_; rintro e w' ⟨rfl, rfl⟩) | (go_at_call 75; refine (HIX.out _).mono ?_; rintro e w' ⟨rfl, rfl⟩) | (go_at_call 50; refine (pass_any g r a v _ _ HB.out (by omega) (by omega) (by omega) (by omega) (by omega)).mono ?_; rintro e w3 ⟨rfl, hb3, hs3⟩))
     go_roundg gk
     case measure => omega
     case rel =>
      have h1 := HR.out
      rw [skipF_step (by rw [HN2.out]; omega), HN2.out] at h1
      have h2 := runes_len (r.data.toList.take (r.size : Int).toNat)
      rw [List.length_take, size_data] at h2
      refine ⟨_, _, hb3, HS.out.then_ hs3, by rw [Lib.ext_size]; omega, by rw [ext_drop]; exact h1, by rw [Lib.ext_size]; omega, by omega, by rw [Lib.ext_size]; omega⟩
    ·have HN2 : Hid (skipN r.data.toList = x.toNat) := by rw [HN'.out, if_neg (by omega)]; rfl
     go_wp2_with (first | (go_at_call 74; refine (HC.out _).mono ?_; rintro e w' ⟨rfl, rfl⟩) | (go_at_call 75; refine (HIX.out _).mono ?_; rintro e w' ⟨rfl, rfl⟩) | (go_at_call 50; refine (pass_any g r a v _ _ HB.out (by omega) (by omega) (by omega) (by omega) (by omega)).mono ?_; rintro e w3 ⟨rfl, hb3, hs3⟩))
     go_roundg gk
     case measure => omega
     case rel =>
      have h1 := HR.out
      rw [skipF_step (by rw [HN2.out]; omega), HN2.out] at h1
      have h2 := runes_len (r.data.toList.take x.toNat)
      rw [List.length_take, size_data] at h2
      refine ⟨_, _, hb3, HS.out.then_ hs3, by rw [Lib.ext_size]; omega, by rw [ext_drop]; exact h1, by rw [Lib.ext_size]; omega, by omega, by rw [Lib.ext_size]; omega⟩
   ·have HN' : Hid (skipN r.data.toList = 0) := by rw [HN.out, if_neg h1', if_neg h6']; rfl
    go_wp2_with (first | (go_at_call 74; refine (HC.out _).mono ?_; rintro e w' ⟨rfl, rfl⟩))
    refine bodyPost_ret (results_none rfl _ _ _) rfl ?_
    have h1 := HR.out
    rw [skipF_end HN'.out] at h1
    exact ⟨rfl, r, a, HB.out, HS.out, by rw [← h1], by rw [← h1], hl1, hl2, hl3⟩
  ·have hne := nonempty_eq hp
   have HN' : Hid (skipN r.data.toList = 0) := by
    have : r.data.toList = [] := List.eq_nil_of_length_eq_zero (by rw [size_data]; omega)
    rw [this]; rfl
   go_wp2
   go_end0
   have h1 := HR.out
   rw [skipF_end HN'.out] at h1
   exact ⟨rfl, r, a, HB.out, HS.out, by rw [← h1], by rw [← h1], hl1, hl2, hl3⟩
end Go.Proofs.YtgcfjkfipkfijaaGreatDoor
namespace Go.Proofs.YtgcfjkfipkfijaaGreatDoor
open Go Go.RowKit Go.Lib
theorem wordN_cons (r : Nat × Nat) (rs : List (Nat × Nat)) : wordN (r :: rs) = if isW r.1 then r.2 + wordN rs else 0 := rfl
set_option maxHeartbeats 1000000 in
set_option maxRecDepth 100000 in
theorem word_any (g : Nat) (s : ByteArray) (at_ : Int) (v : Value) (w : World) (hb : CutB w g s at_ v) (hs : s.size ≤ 1000000) :
  Calls Tryz.prog 76 #[.pointer (some ⟨g, 0, none⟩)] w fun e w' => e = .returned (.int .i64 (wordN (runes s.data.toList))) ∧ Below w.heap.size w w' := by
 obtain ⟨ANS, hANS⟩ : ∃ ANS, wordN (runes s.data.toList) = ANS := ⟨_, rfl⟩
 rw [hANS]
 have hc0 : w.cell? ⟨g, 0, none⟩ = some (.string s) := (blk_cell hb 0).trans rfl
 have HC0 := Lib.hid hc0
 clear hb
 go_enter Tryz.func76, Tryz.ntmps76
 go_wp2
 go_loopw [3, 4, 5] (fun _ _ _ w' => ∃ pos, w' = w.iter s pos ∧ pos ≤ s.size ∧ pos + wordN (runes (s.data.toList.drop pos)) = ANS) (fun _ _ _ w' => s.size - w'.iterPos w.heap.size)
 case atStart => exact ⟨0, rfl, by omega, by simpa using hANS⟩
 case round =>
  obtain ⟨pos, rfl, hps, hr⟩ := hrel
  have HR := Lib.hid hr
  clear hr hANS hc0
  by_cases hp : pos < s.size
  ·have hnx : ∀ ty, (Instr.next (.pointer (some ⟨w.heap.size, 0, none⟩)) true ty).run Tryz.prog (w.iter s pos) = _ := fun ty => run_next_any w s pos ty hp
   have hwd := Lib.decode_width_pos s pos hp
   have hft := decode_fits s pos hp
   have hle := decode_le' s pos
   obtain ⟨c, hc⟩ : ∃ c, cls ((Utf8.decode s pos).1 : Int) = c := ⟨_, rfl⟩
   have HC : Hid (∀ w', Calls Tryz.prog 74 #[.int .i32 (Utf8.decode s pos).1] w' fun e w'' => e = .returned (.int .i64 c) ∧ w' = w'') := by
    subst hc
    exact fun w' => class_any _ w' (by omega) hle
   have HI : Hid (isW (Utf8.decode s pos).1 = (c == 2 || c == 3)) := isW_class hc
   have HRR : Hid (wordN (runes (s.data.toList.drop pos)) = if isW (Utf8.decode s pos).1 then (Utf8.decode s pos).2 + wordN (runes (s.data.toList.drop (pos + (Utf8.decode s pos).2))) else 0) := by
    rw [runes_at s pos hp]; exact rfl
   clear hc
   rcases three c with rfl | rfl | ⟨n2, n3⟩
   ·go_wp2_with (go_at_call 74; refine (HC.out _).mono ?_; rintro e w' ⟨rfl, rfl⟩)
    go_roundw
    case rel => exact ⟨_, rfl, hft, by have h1 := HR.out; rw [HRR.out, HI.out] at h1; simp at h1; omega⟩
    case measure => simp; omega
   ·go_wp2_with (go_at_call 74; refine (HC.out _).mono ?_; rintro e w' ⟨rfl, rfl⟩)
    go_roundw
    case rel => exact ⟨_, rfl, hft, by have h1 := HR.out; rw [HRR.out, HI.out] at h1; simp at h1; omega⟩
    case measure => simp; omega
   ·go_wp2_with (go_at_call 74; refine (HC.out _).mono ?_; rintro e w' ⟨rfl, rfl⟩)
    go_ret
    refine ⟨ret_cls ?_, below_iter _ _ _⟩
    have h1 := HR.out
    rw [HRR.out, HI.out] at h1
    simp only [bne_iff_ne, ne_eq] at n2 n3
    simp [n2, n3] at h1
    omega
  ·have hnx : ∀ ty, (Instr.next (.pointer (some ⟨w.heap.size, 0, none⟩)) true ty).run Tryz.prog (w.iter s pos) = _ := fun ty => run_next_end w s pos ty hp
   have hc1 := cell_iter s pos HC0.out
   go_wp2
   go_ret
   refine ⟨ret_cls ?_, below_iter _ _ _⟩
   have h1 := HR.out
   rw [runes_end s pos hp] at h1
   simp only [wordN] at h1
   omega
theorem below_set4 {B k : Nat} {w W : World} (h : Below B w W) (hk : B ≤ k) (a b c d : Value) : Below B w ((((W.setCell ⟨k, 0, none⟩ a).setCell ⟨k, 1, none⟩ b).setCell ⟨k, 2, none⟩ c).setCell ⟨k, 3, none⟩ d) :=
 (((h.setCell hk a).setCell hk b).setCell hk c).setCell hk d
theorem cut_len (l sep : List UInt8) : (cut l sep).1.length ≤ l.length := by
 unfold cut
 split
 ·simp; omega
 ·simp
set_option maxHeartbeats 2000000 in
set_option maxRecDepth 100000 in
theorem ctext_any (g : Nat) (s : ByteArray) (at_ : Int) (v : Value) (w : World) (hb : CutB w g s at_ v) (hs : s.size ≤ 1000000) (hp : 0 < s.size) (hT : Tabs w) :
  Calls Tryz.prog 79 #[.pointer (some ⟨g, 0, none⟩)] w fun e w' =>
   (∃ t : Tok × Int × Int, t = textF s.data.toList ∧ e = .returned (.tuple #[.agg #[.int .i64 t.1.kind, .string t.1.text, .int .i64 t.1.n, .int .i64 t.1.at_], .int .i64 t.2.1, .int .i64 t.2.2])) ∧ Below w.heap.size w w' := by
 have hc0 : w.cell? ⟨g, 0, none⟩ = some (.string s) := (blk_cell hb 0).trans rfl
 have hz : (1 : Int) ≤ s.size := by omega
 have hg := blk_lt hb
 obtain ⟨m, hm⟩ := hT.len
 have hsz := hT.size
 have HM := Lib.hid hm
 obtain ⟨c1, hc1⟩ : ∃ c1, Lib.cut (s.data.toList.drop 1) [10] = c1 := ⟨_, rfl⟩
 obtain ⟨c2, hc2⟩ : ∃ c2, Lib.cut c1.1 [34] = c2 := ⟨_, rfl⟩
 have H1 : Hid (∀ W, W.cell? ⟨2, 0, none⟩ = some (.int .i64 m) → Calls Tryz.prog 107 #[.string (s.extract 1 s.size), .string ⟨#[10]⟩] W fun e w' => e = .returned (.tuple #[.string ⟨c1.1.toArray⟩, .string ⟨c1.2.1.toArray⟩, .bool c1.2.2]) ∧ ∃ n, w' = W.drewN n) := fun W hW => by
  have := Tryz.strings_Cut (s.extract 1 s.size) ⟨#[10]⟩ m W (by rw [Lib.ext_size]; omega) hW
  rw [ext_drop] at this
  rw [← hc1]
  exact this
 obtain ⟨u, hu⟩ : ∃ u : ByteArray, u = ⟨c1.1.toArray⟩ := ⟨_, rfl⟩
 have hu' : u.data.toList = c1.1 := by rw [hu]
 have hul : u.size ≤ s.size := by
  rw [← size_data, hu', ← hc1, ← size_data s]
  have := cut_len (s.data.toList.drop 1) [10]
  simp at this ⊢
  omega
 obtain ⟨t, ht⟩ : ∃ t : ByteArray, t = ⟨c2.1.toArray⟩ := ⟨_, rfl⟩
 have ht' : t.data.toList = c2.1 := by rw [ht]
 have htl : t.size ≤ s.size := by
  rw [← size_data, ht', ← hc2]
  have := cut_len c1.1 [34]
  rw [← hu', size_data] at this
  rw [← hu']
  omega
 have H2 : Hid (∀ W, W.cell? ⟨2, 0, none⟩ = some (.int .i64 m) → Calls Tryz.prog 107 #[.string u, .string ⟨#[34]⟩] W fun e w' => e = .returned (.tuple #[.string t, .string ⟨c2.2.1.toArray⟩, .bool c2.2.2]) ∧ ∃ n, w' = W.drewN n) := fun W hW => by
  have := Tryz.strings_Cut u ⟨#[34]⟩ m W (by omega) hW
  rw [hu'] at this
  rw [ht, ← hc2]
  exact this
 rw [← hu] at H1
 have HX : Hid (textF s.data.toList = if c2.2.2 = false then (zTok, 0, 11) else if (runes t.data.toList).any (fun r => decide (r.1 < 32)) then (zTok, 0, 11) else if 20 < (runes t.data.toList).length then (zTok, 0, 2) else (⟨3, t, 0, 0⟩, (t.size : Int) + 2, 0)) := by
  unfold textF
  rw [hc1, hc2, ← size_data t, ht', ht]
  exact rfl
 have HM1 : Hid (∀ n, ((w.alloc (.cells #[.int .i64 0, .string ⟨#[]⟩, .int .i64 0, .int .i64 0] 60)).drewN n).cell? ⟨2, 0, none⟩ = some (.int .i64 m)) := fun n =>
  (((Below.refl _ _).alloc (Nat.le_refl _) _).cell (World.block_lt_of_cell? w _ HM.out)).trans HM.out
 clear hu hu' ht hc1 hc2 hm hT HM1
 have HRC : Hid (∀ W, Calls Tryz.prog 77 #[.string t] W fun e w' => e = .returned (.int .i64 (runes t.data.toList).length) ∧ ∃ pos, w' = W.iter t pos) := fun W => by
  have := Tryz.utf8_RuneCountInString t W (by omega)
  rw [runeCount_runes] at this
  exact this
 obtain ⟨AN, hAN⟩ : ∃ AN, (runes t.data.toList).any (fun r => decide (r.1 < 32)) = AN := ⟨_, rfl⟩
 rw [hAN] at HX
 have HAN := Lib.hid hAN
 clear hAN
 go_enter Tryz.func79, Tryz.ntmps79
 go_wp2_with fail
 obtain ⟨w0, hw0⟩ : ∃ w0, w.alloc (.cells #[.int .i64 0, .string ⟨#[]⟩, .int .i64 0, .int .i64 0] 60) = w0 := ⟨_, rfl⟩
 have hk0 : w0.heap[w.heap.size]? = some (.cells #[.int .i64 0, .string ⟨#[]⟩, .int .i64 0, .int .i64 0] 60 (0, 0)) := by rw [← hw0]; exact heap_alloc_new _ _
 have hb0 : Below w.heap.size w w0 := by rw [← hw0]; exact (Below.refl _ _).alloc (Nat.le_refl _) _
 have hm0 := ((hb0.cell (World.block_lt_of_cell? w _ HM.out)).trans HM.out)
 have HK0 := Lib.hid hk0
 have HB0 := Lib.hid hb0
 rw [hw0]
 clear hw0 hb0 hc0
 refine (H1.out _ hm0).mono ?_
 rintro e w1 ⟨rfl, n1, rfl⟩
 go_wp2_with fail
 refine (H2.out (w0.drewN n1) hm0).mono ?_
 rintro e w2 ⟨rfl, n2, hw2⟩
 have hk2 : w2.heap[w.heap.size]? = some (.cells #[.int .i64 0, .string ⟨#[]⟩, .int .i64 0, .int .i64 0] 60 (0, 0)) := by rw [hw2]; exact HK0.out
 have hb2 : Below w.heap.size w w2 := by rw [hw2]; exact ⟨HB0.out.os, HB0.out.tape, HB0.out.output, HB0.out.size, HB0.out.block⟩
 clear hm0 hk0 hw2 HK0 HB0
 cases hok : c2.2.2
 ·rw [hok] at HX H2
  have q0 := (blk_cell hk2 0).trans rfl
  have q1 := (blk_cell hk2 1).trans rfl
  have q2 := (blk_cell hk2 2).trans rfl
  have q3 := (blk_cell hk2 3).trans rfl
  have f0 := blk_frozen hk2 0
  have f1 := blk_frozen hk2 1
  have f2 := blk_frozen hk2 2
  have f3 := blk_frozen hk2 3
  have HB2 := Lib.hid hb2
  clear hk2 hb2
  go_wp2_with fail
  refine bodyPost_ret (v := .tuple #[.agg #[.int .i64 0, .string ⟨#[]⟩, .int .i64 0, .int .i64 0], .int .i64 0, .int .i64 11]) (by simp [results, Tryz.results79, go_sem, *]) rfl ⟨⟨(zTok, 0, 11), by rw [HX.out]; rfl, rfl⟩, ?_⟩
  exact below_set4 HB2.out (Nat.le_refl _) _ _ _ _
 ·rw [hok] at HX H2
  have HK2 := Lib.hid hk2
  have HB2 := Lib.hid hb2
  clear hk2 hb2
  go_wp2_with fail
  go_loopw [12] (fun _ w' => ∃ pos, w' = w2.iter t pos ∧ (runes (t.data.toList.drop pos)).any (fun r => decide (r.1 < 32)) = AN) (fun _ w' => t.size - w'.iterPos w2.heap.size)
  case atStart => exact ⟨0, rfl, by simpa using HAN.out⟩
  case round =>
   obtain ⟨pos, rfl, hr⟩ := hrel
   have HR := Lib.hid hr
   clear hr
   by_cases hp' : pos < t.size
   ·have hnx : ∀ ty, (Instr.next (.pointer (some ⟨w2.heap.size, 0, none⟩)) true ty).run Tryz.prog (w2.iter t pos) = _ := fun ty => run_next_any w2 t pos ty hp'
    have hwd := Lib.decode_width_pos t pos hp'
    have HRR : Hid ((runes (t.data.toList.drop pos)).any (fun r => decide (r.1 < 32)) = (decide ((Utf8.decode t pos).1 < 32) || (runes (t.data.toList.drop (pos + (Utf8.decode t pos).2))).any (fun r => decide (r.1 < 32)))) := by
     rw [runes_at t pos hp']; exact rfl
    rcases Nat.lt_or_ge (Utf8.decode t pos).1 32 with hlt | hge
    ·have hltz : ((Utf8.decode t pos).1 : Int) < 32 := by omega
     have HD : Hid (decide ((Utf8.decode t pos).1 < 32) = true) := decide_eq_true hlt
     have hk3 : ∀ p, (w2.iter t p).heap[w.heap.size]? = _ := fun p => ((below_iter w2 t p).block _ (blk_lt HK2.out)).trans HK2.out
     have q0 := fun p => (blk_cell (hk3 p) 0).trans rfl
     have q1 := fun p => (blk_cell (hk3 p) 1).trans rfl
     have q2 := fun p => (blk_cell (hk3 p) 2).trans rfl
     have q3 := fun p => (blk_cell (hk3 p) 3).trans rfl
     have f0 := fun p => blk_frozen (hk3 p) 0
     have f1 := fun p => blk_frozen (hk3 p) 1
     have f2 := fun p => blk_frozen (hk3 p) 2
     have f3 := fun p => blk_frozen (hk3 p) 3
     clear hlt hk3
     go_wp2_with fail
     refine bodyPost_ret (v := .tuple #[.agg #[.int .i64 0, .string ⟨#[]⟩, .int .i64 0, .int .i64 0], .int .i64 0, .int .i64 11]) (by simp [results, Tryz.results79, go_sem, *]) rfl ⟨⟨(zTok, 0, 11), ?_, rfl⟩, ?_⟩
     ·have h1 := HR.out
      rw [HRR.out, HD.out, Bool.true_or] at h1
      rw [HX.out, ← h1]; rfl
     ·exact below_set4 (HB2.out.trans ((below_iter w2 t _).mono HB2.out.size)) (Nat.le_refl _) _ _ _ _
    ·have hgez : (32 : Int) ≤ ((Utf8.decode t pos).1 : Int) := by omega
     have HD : Hid (decide ((Utf8.decode t pos).1 < 32) = false) := decide_eq_false (by omega)
     clear hge
     go_wp2_with fail
     go_roundw
     case rel => exact ⟨_, rfl, by have h1 := HR.out; rw [HRR.out, HD.out, Bool.false_or] at h1; exact h1⟩
     case measure => simp; omega
   ·have hnx : ∀ ty, (Instr.next (.pointer (some ⟨w2.heap.size, 0, none⟩)) true ty).run Tryz.prog (w2.iter t pos) = _ := fun ty => run_next_end w2 t pos ty hp'
    have HE : Hid (AN = false) := by have h1 := HR.out; rw [runes_end t pos hp'] at h1; exact h1.symm
    go_wp2_with fail
    refine (HRC.out _).mono ?_
    rintro e w3 ⟨rfl, pos', rfl⟩
    obtain ⟨w4, hw4⟩ : ∃ w4, (w2.iter t pos).iter t pos' = w4 := ⟨_, rfl⟩
    have hb4 : Below w.heap.size w w4 := by
     have h1 := HB2.out.trans ((below_iter w2 t pos).mono HB2.out.size)
     rw [← hw4]
     exact h1.trans ((below_iter _ t pos').mono h1.size)
    have hk4 : w4.heap[w.heap.size]? = some (.cells #[.int .i64 0, .string ⟨#[]⟩, .int .i64 0, .int .i64 0] 60 (0, 0)) := by
     have h1 := ((below_iter w2 t pos).block _ (blk_lt HK2.out)).trans HK2.out
     rw [← hw4]
     exact ((below_iter _ t pos').block _ (blk_lt h1)).trans h1
    rw [hw4]
    have q0 := (blk_cell hk4 0).trans rfl
    have q1 := (blk_cell hk4 1).trans rfl
    have q2 := (blk_cell hk4 2).trans rfl
    have q3 := (blk_cell hk4 3).trans rfl
    have f0 := blk_frozen hk4 0
    have f1 := blk_frozen hk4 1
    have f2 := blk_frozen hk4 2
    have f3 := blk_frozen hk4 3
    have HB4 := Lib.hid hb4
    clear hw4 hb4 hk4 hnx
    obtain ⟨N, hN⟩ : ∃ N, (runes t.data.toList).length = N := ⟨_, rfl⟩
    rw [hN] at HX ⊢
    clear hN
    by_cases hN : 20 < N
    ·have hNz : (20 : Int) < N := by omega
     have HN := Lib.hid hN
     clear hN
     go_wp2_with fail
     refine bodyPost_ret (v := .tuple #[.agg #[.int .i64 0, .string ⟨#[]⟩, .int .i64 0, .int .i64 0], .int .i64 0, .int .i64 2]) (by simp [results, Tryz.results79, go_sem, *]) rfl ⟨⟨(zTok, 0, 2), ?_, rfl⟩, below_set4 HB4.out (Nat.le_refl _) _ _ _ _⟩
     rw [HX.out, HE.out, if_pos HN.out]; rfl
    ·have hNz : (N : Int) ≤ 20 := by omega
     have HN := Lib.hid hN
     clear hN
     have hts : (t.size : Int) ≤ 1000000 := by omega
     go_wp2_with fail
     refine bodyPost_ret (v := .tuple #[.agg #[.int .i64 3, .string t, .int .i64 0, .int .i64 0], .int .i64 (t.size + 2), .int .i64 0]) (by simp [results, Tryz.results79, go_sem, *]) rfl ⟨⟨(⟨3, t, 0, 0⟩, (t.size : Int) + 2, 0), ?_, rfl⟩, below_set4 HB4.out (Nat.le_refl _) _ _ _ _⟩
     rw [HX.out, HE.out, if_neg HN.out]; rfl
end Go.Proofs.YtgcfjkfipkfijaaGreatDoor
namespace Go.Proofs.YtgcfjkfipkfijaaGreatDoor
open Go Go.RowKit Go.Lib
theorem move {w w1 w2 : World} {K g : Nat} {o o' : Obj} (hb : Below w.heap.size w w1) (hk : w1.heap[K]? = some o) (hg : w1.heap[g]? = some o') (h : Below w1.heap.size w1 w2) :
  Below w.heap.size w w2 ∧ w2.heap[K]? = some o ∧ w2.heap[g]? = some o' :=
 ⟨hb.trans (h.mono hb.size), (h.block _ (blk_lt hk)).trans hk, (h.block _ (blk_lt hg)).trans hg⟩
theorem ext_take (s : ByteArray) (n : Nat) : s.extract 0 n = ⟨(s.data.toList.take n).toArray⟩ := by
 apply ByteArray.ext
 apply Array.toList_inj.1
 simp
theorem wordN_le : ∀ (n : Nat) (l : List UInt8), l.length ≤ n → wordN (runes l) ≤ l.length := by
 intro n
 induction n with
 | zero => intro l h; rw [List.eq_nil_of_length_eq_zero (by omega : l.length = 0)]; exact Nat.le_refl _
 | succ n ih =>
  intro l h
  by_cases hl : l = []
  ·subst hl; exact Nat.le_refl _
  ·have h1 : 0 < l.length := List.length_pos_iff.2 hl
   have hw := decodeL_width l
   have hle := decodeL_le l hl
   have := ih (l.drop (decodeL l).2) (by rw [List.length_drop]; omega)
   rw [List.length_drop] at this
   rw [runes_cons l hl, wordN_cons]
   split <;> omega
theorem tokF2 {s : ByteArray} (h : cls (decodeL s.data.toList).1 = 2) : tokF s.data.toList =
  if 12 < (runes (s.data.toList.take (wordN (runes s.data.toList)))).length then (zTok, 0, 2) else (⟨1, s.extract 0 (wordN (runes s.data.toList)), 0, 0⟩, (wordN (runes s.data.toList) : Int), 0) := by
 unfold tokF; simp only [h, ext_take, if_true]
theorem tokF3 {s : ByteArray} (h : cls (decodeL s.data.toList).1 = 3) : tokF s.data.toList =
  if (numB (s.extract 0 (wordN (runes s.data.toList)))).2 then (⟨2, s.extract 0 (wordN (runes s.data.toList)), (numB (s.extract 0 (wordN (runes s.data.toList)))).1, 0⟩, (wordN (runes s.data.toList) : Int), 0) else (zTok, 0, 11) := by
 unfold tokF; simp only [h, ext_take]; rw [if_neg (by decide), if_pos trivial]
theorem tokF5 {s : ByteArray} (h : cls (decodeL s.data.toList).1 = 5) : tokF s.data.toList = textF s.data.toList := by
 unfold tokF; simp only [h]; rw [if_neg (by decide), if_neg (by decide), if_pos trivial]
theorem tokF0 {s : ByteArray} (h : cls (decodeL s.data.toList).1 ≠ 2 ∧ cls (decodeL s.data.toList).1 ≠ 3 ∧ cls (decodeL s.data.toList).1 ≠ 5 ∧ cls (decodeL s.data.toList).1 ≠ 4) : tokF s.data.toList = (zTok, 0, 11) := by
 unfold tokF; simp only [h.1, h.2.1, h.2.2.1, h.2.2.2, if_false]
theorem tokF4 {s : ByteArray} (h : cls (decodeL s.data.toList).1 = 4) : tokF s.data.toList =
  (⟨4, s.extract 0 (if 1 < s.size ∧ s.data.toList.getD 1 0 = 61 ∧ 0 ≤ indexByte [60, 62, 61, 33, 58] (s.data.toList.getD 0 0) then 2 else (decodeL s.data.toList).2), 0, 0⟩, ((if 1 < s.size ∧ s.data.toList.getD 1 0 = 61 ∧ 0 ≤ indexByte [60, 62, 61, 33, 58] (s.data.toList.getD 0 0) then 2 else (decodeL s.data.toList).2 : Nat) : Int), 0) := by
 unfold tokF; simp only [h, ext_take, size_data]; rw [if_neg (by decide), if_neg (by decide), if_neg (by decide), if_pos trivial]
theorem five (c : Int) : c = 2 ∨ c = 3 ∨ c = 5 ∨ c = 4 ∨ ((c == 2) = false ∧ (c == 3) = false ∧ (c == 5) = false ∧ (c == 4) = false ∧ c ≠ 2 ∧ c ≠ 3 ∧ c ≠ 5 ∧ c ≠ 4) := by
 simp only [beq_eq_false_iff_ne, ne_eq]
 omega
theorem decodeGo_L (s : ByteArray) (h : 0 < s.size) : Lib.decodeGo s = decodeL s.data.toList := by
 have := decodeL_drop s 0
 rw [List.drop_zero] at this
 unfold Lib.decodeGo
 rw [if_neg (by omega), this]
set_option maxHeartbeats 2000000 in
set_option maxRecDepth 100000 in
theorem token2 (g : Nat) (s : ByteArray) (at_ : Int) (v : Value) (w : World) (hb : CutB w g s at_ v) (hs : s.size ≤ 1000000) (hp : 0 < s.size) (hT : Tabs w) (k : Int) (hk : cls (decodeL s.data.toList).1 = k) (hk2 : k = 2) :
  Calls Tryz.prog 49 #[.pointer (some ⟨g, 0, none⟩)] w fun e w' =>
   (∃ t : Tok × Int × Int, t = tokF s.data.toList ∧ e = .returned (.tuple #[.agg #[.int .i64 t.1.kind, .string t.1.text, .int .i64 t.1.n, .int .i64 t.1.at_], .int .i64 t.2.1, .int .i64 t.2.2])) ∧ Below w.heap.size w w' := by
 have hc0 : w.cell? ⟨g, 0, none⟩ = some (.string s) := (blk_cell hb 0).trans rfl
 have hg := blk_lt hb
 have HB := Lib.hid hb
 have HT := Lib.hid hT
 obtain ⟨r, hr⟩ : ∃ r, (decodeL s.data.toList).1 = r := ⟨_, rfl⟩
 obtain ⟨wd, hw⟩ : ∃ wd, (decodeL s.data.toList).2 = wd := ⟨_, rfl⟩
 have HD : Hid (∀ W, Tabs W → Calls Tryz.prog 73 #[.string s] W fun e w' => e = .returned (.tuple #[.int .i32 r, .int .i64 wd]) ∧ Below W.heap.size W w') := fun W hW => by
  have := Tryz.utf8_DecodeRuneInString s W hW.utf
  rw [decodeGo_L s hp, hr, hw] at this
  exact this
 have hwd := decodeL_le s.data.toList (by intro e; have := size_data s; rw [e] at this; simp at this; omega)
 have hwd1 := decodeL_width s.data.toList
 rw [size_data, hw] at hwd
 rw [hw] at hwd1
 have hr2 := decodeL_rune s.data.toList
 rw [hr] at hk hr2
 have HC : Hid (∀ W, Calls Tryz.prog 74 #[.int .i32 r] W fun e w' => e = .returned (.int .i64 k) ∧ W = w') := fun W => by rw [← hk]; exact class_any _ W (by omega) (by omega)
 have HTF := Lib.hid (tokF2 (s := s) (by rw [hr, hk, hk2]))
 clear hb hT hr hw hk
 subst hk2
 obtain ⟨n, hn⟩ : ∃ n, wordN (runes s.data.toList) = n := ⟨_, rfl⟩
 have hnl := wordN_le _ s.data.toList (Nat.le_refl _)
 have HW : Hid (∀ W, CutB W g s at_ v → Calls Tryz.prog 76 #[.pointer (some ⟨g, 0, none⟩)] W fun e w' => e = .returned (.int .i64 n) ∧ Below W.heap.size W w') := fun W hW => by
  rw [← hn]; exact word_any g s at_ v W hW hs
 rw [size_data, hn] at hnl
 rw [hn] at HTF
 have hnz : (n : Int) ≤ s.size := by omega
 clear hn
 have HR : Hid (∀ W, Calls Tryz.prog 77 #[.string (s.extract 0 n)] W fun e w' => e = .returned (.int .i64 (runes (s.data.toList.take n)).length) ∧ Below W.heap.size W w') := fun W => by
  have h1 := Tryz.utf8_RuneCountInString (s.extract 0 n) W (by simp; omega)
  have h2 : runeCount (s.extract 0 n) = (runes (s.data.toList.take n)).length := by rw [runeCount_runes, ext_take]
  rw [h2] at h1
  refine h1.mono ?_
  rintro e w' ⟨he, pos, rfl⟩
  exact ⟨he, below_iter _ _ _⟩
 obtain ⟨N, hN⟩ : ∃ N, (runes (s.data.toList.take n)).length = N := ⟨_, rfl⟩
 rw [hN] at HR HTF
 clear hN
 go_enter Tryz.func49, Tryz.ntmps49
 go_wp2_with fail
 obtain ⟨w0, hw0⟩ : ∃ w0, w.alloc (.cells #[.int .i64 0, .string ⟨#[]⟩, .int .i64 0, .int .i64 0] 60) = w0 := ⟨_, rfl⟩
 have hk0 : w0.heap[w.heap.size]? = some (.cells #[.int .i64 0, .string ⟨#[]⟩, .int .i64 0, .int .i64 0] 60 (0, 0)) := by rw [← hw0]; exact heap_alloc_new _ _
 have hb0 : Below w.heap.size w w0 := by rw [← hw0]; exact (Below.refl _ _).alloc (Nat.le_refl _) _
 have hg0 := (hb0.block g (blk_lt HB.out)).trans HB.out
 have HS0 := Lib.hid (And.intro hb0 (And.intro hk0 hg0))
 rw [hw0]
 clear hw0 hb0 hk0 hg0 hc0
 refine (HD.out _ (HT.out.below HS0.out.1)).mono ?_
 rintro e w1 ⟨rfl, hb1⟩
 have HS1 := Lib.hid (move HS0.out.1 HS0.out.2.1 HS0.out.2.2 hb1)
 have c1 := (blk_cell HS1.out.2.2 0).trans rfl
 clear hb1 HS0
 go_wp2_with fail
 refine (HC.out _).mono ?_
 rintro e w' ⟨rfl, rfl⟩
 go_wp2_with fail
 refine (HW.out _ HS1.out.2.2).mono ?_
 rintro e w2 ⟨rfl, hb2⟩
 have HS2 := Lib.hid (move HS1.out.1 HS1.out.2.1 HS1.out.2.2 hb2)
 have c2 := (blk_cell HS2.out.2.2 0).trans rfl
 clear hb2 HS1 c1
 go_wp2_with fail
 refine (HR.out _).mono ?_
 rintro e w3 ⟨rfl, hb3⟩
 have HS3 := Lib.hid (move HS2.out.1 HS2.out.2.1 HS2.out.2.2 hb3)
 have c3 := (blk_cell HS3.out.2.2 0).trans rfl
 clear hb3 HS2 c2
 have q0 := (blk_cell HS3.out.2.1 0).trans rfl
 have q1 := (blk_cell HS3.out.2.1 1).trans rfl
 have q2 := (blk_cell HS3.out.2.1 2).trans rfl
 have q3 := (blk_cell HS3.out.2.1 3).trans rfl
 have f0 := blk_frozen HS3.out.2.1 0
 have f1 := blk_frozen HS3.out.2.1 1
 have f2 := blk_frozen HS3.out.2.1 2
 have f3 := blk_frozen HS3.out.2.1 3
 by_cases h12 : 12 < N
 ·have hz : (12 : Int) < N := by omega
  have H12 := Lib.hid h12
  clear h12
  go_wp2_with fail
  refine bodyPost_ret (v := .tuple #[.agg #[.int .i64 0, .string ⟨#[]⟩, .int .i64 0, .int .i64 0], .int .i64 0, .int .i64 2]) (by simp [results, Tryz.results49, go_sem, *]) rfl ⟨⟨(zTok, 0, 2), ?_, rfl⟩, below_set4 HS3.out.1 (Nat.le_refl _) _ _ _ _⟩
  rw [HTF.out]; simp [H12.out]
 ·have hz : (N : Int) ≤ 12 := by omega
  have H12 := Lib.hid h12
  clear h12
  go_wp2_with fail
  refine bodyPost_ret (v := .tuple #[.agg #[.int .i64 1, .string (s.extract 0 n), .int .i64 0, .int .i64 0], .int .i64 n, .int .i64 0]) (by simp [results, Tryz.results49, go_sem, *]) rfl ⟨⟨(⟨1, s.extract 0 n, 0, 0⟩, n, 0), ?_, rfl⟩, below_set4 HS3.out.1 (Nat.le_refl _) _ _ _ _⟩
  rw [HTF.out]; simp [H12.out]
set_option maxHeartbeats 2000000 in
set_option maxRecDepth 100000 in
theorem token3 (g : Nat) (s : ByteArray) (at_ : Int) (v : Value) (w : World) (hb : CutB w g s at_ v) (hs : s.size ≤ 1000000) (hp : 0 < s.size) (hT : Tabs w) (k : Int) (hk : cls (decodeL s.data.toList).1 = k) (hk2 : k = 3) :
  Calls Tryz.prog 49 #[.pointer (some ⟨g, 0, none⟩)] w fun e w' =>
   (∃ t : Tok × Int × Int, t = tokF s.data.toList ∧ e = .returned (.tuple #[.agg #[.int .i64 t.1.kind, .string t.1.text, .int .i64 t.1.n, .int .i64 t.1.at_], .int .i64 t.2.1, .int .i64 t.2.2])) ∧ Below w.heap.size w w' := by
 have hc0 : w.cell? ⟨g, 0, none⟩ = some (.string s) := (blk_cell hb 0).trans rfl
 have hg := blk_lt hb
 have HB := Lib.hid hb
 have HT := Lib.hid hT
 obtain ⟨r, hr⟩ : ∃ r, (decodeL s.data.toList).1 = r := ⟨_, rfl⟩
 obtain ⟨wd, hw⟩ : ∃ wd, (decodeL s.data.toList).2 = wd := ⟨_, rfl⟩
 have HD : Hid (∀ W, Tabs W → Calls Tryz.prog 73 #[.string s] W fun e w' => e = .returned (.tuple #[.int .i32 r, .int .i64 wd]) ∧ Below W.heap.size W w') := fun W hW => by
  have := Tryz.utf8_DecodeRuneInString s W hW.utf
  rw [decodeGo_L s hp, hr, hw] at this
  exact this
 have hwd := decodeL_le s.data.toList (by intro e; have := size_data s; rw [e] at this; simp at this; omega)
 have hwd1 := decodeL_width s.data.toList
 rw [size_data, hw] at hwd
 rw [hw] at hwd1
 have hr2 := decodeL_rune s.data.toList
 rw [hr] at hk hr2
 have HC : Hid (∀ W, Calls Tryz.prog 74 #[.int .i32 r] W fun e w' => e = .returned (.int .i64 k) ∧ W = w') := fun W => by rw [← hk]; exact class_any _ W (by omega) (by omega)
 have HTF := Lib.hid (tokF3 (s := s) (by rw [hr, hk, hk2]))
 clear hb hT hr hw hk
 subst hk2
 obtain ⟨n, hn⟩ : ∃ n, wordN (runes s.data.toList) = n := ⟨_, rfl⟩
 have hnl := wordN_le _ s.data.toList (Nat.le_refl _)
 have HW : Hid (∀ W, CutB W g s at_ v → Calls Tryz.prog 76 #[.pointer (some ⟨g, 0, none⟩)] W fun e w' => e = .returned (.int .i64 n) ∧ Below W.heap.size W w') := fun W hW => by
  rw [← hn]; exact word_any g s at_ v W hW hs
 rw [size_data, hn] at hnl
 rw [hn] at HTF
 have hnz : (n : Int) ≤ s.size := by omega
 clear hn
 obtain ⟨x, hx⟩ : ∃ x, numB (s.extract 0 n) = x := ⟨_, rfl⟩
 have HR : Hid (∀ W, Calls Tryz.prog 78 #[.string (s.extract 0 n)] W fun e w' => e = .returned (.tuple #[.int .i64 x.1, .bool x.2]) ∧ Below W.heap.size W w') := fun W => by
  rw [← hx]; exact number_any _ W
 rw [hx] at HTF
 clear hx
 go_enter Tryz.func49, Tryz.ntmps49
 go_wp2_with fail
 obtain ⟨w0, hw0⟩ : ∃ w0, w.alloc (.cells #[.int .i64 0, .string ⟨#[]⟩, .int .i64 0, .int .i64 0] 60) = w0 := ⟨_, rfl⟩
 have hk0 : w0.heap[w.heap.size]? = some (.cells #[.int .i64 0, .string ⟨#[]⟩, .int .i64 0, .int .i64 0] 60 (0, 0)) := by rw [← hw0]; exact heap_alloc_new _ _
 have hb0 : Below w.heap.size w w0 := by rw [← hw0]; exact (Below.refl _ _).alloc (Nat.le_refl _) _
 have hg0 := (hb0.block g (blk_lt HB.out)).trans HB.out
 have HS0 := Lib.hid (And.intro hb0 (And.intro hk0 hg0))
 rw [hw0]
 clear hw0 hb0 hk0 hg0 hc0
 refine (HD.out _ (HT.out.below HS0.out.1)).mono ?_
 rintro e w1 ⟨rfl, hb1⟩
 have HS1 := Lib.hid (move HS0.out.1 HS0.out.2.1 HS0.out.2.2 hb1)
 have c1 := (blk_cell HS1.out.2.2 0).trans rfl
 clear hb1 HS0
 go_wp2_with fail
 refine (HC.out _).mono ?_
 rintro e w' ⟨rfl, rfl⟩
 go_wp2_with fail
 refine (HW.out _ HS1.out.2.2).mono ?_
 rintro e w2 ⟨rfl, hb2⟩
 have HS2 := Lib.hid (move HS1.out.1 HS1.out.2.1 HS1.out.2.2 hb2)
 have c2 := (blk_cell HS2.out.2.2 0).trans rfl
 clear hb2 HS1 c1
 go_wp2_with fail
 refine (HR.out _).mono ?_
 rintro e w3 ⟨rfl, hb3⟩
 have HS3 := Lib.hid (move HS2.out.1 HS2.out.2.1 HS2.out.2.2 hb3)
 have c3 := (blk_cell HS3.out.2.2 0).trans rfl
 clear hb3 HS2 c2
 have q0 := (blk_cell HS3.out.2.1 0).trans rfl
 have q1 := (blk_cell HS3.out.2.1 1).trans rfl
 have q2 := (blk_cell HS3.out.2.1 2).trans rfl
 have q3 := (blk_cell HS3.out.2.1 3).trans rfl
 have f0 := blk_frozen HS3.out.2.1 0
 have f1 := blk_frozen HS3.out.2.1 1
 have f2 := blk_frozen HS3.out.2.1 2
 have f3 := blk_frozen HS3.out.2.1 3
 obtain ⟨x1, x2⟩ := x
 cases x2
 ·go_wp2_with fail
  refine bodyPost_ret (v := .tuple #[.agg #[.int .i64 0, .string ⟨#[]⟩, .int .i64 0, .int .i64 0], .int .i64 0, .int .i64 11]) (by simp [results, Tryz.results49, go_sem, *]) rfl ⟨⟨(zTok, 0, 11), ?_, rfl⟩, below_set4 HS3.out.1 (Nat.le_refl _) _ _ _ _⟩
  rw [HTF.out]; simp
 ·go_wp2_with fail
  refine bodyPost_ret (v := .tuple #[.agg #[.int .i64 2, .string (s.extract 0 n), .int .i64 x1, .int .i64 0], .int .i64 n, .int .i64 0]) (by simp [results, Tryz.results49, go_sem, *]) rfl ⟨⟨(⟨2, s.extract 0 n, x1, 0⟩, n, 0), ?_, rfl⟩, below_set4 HS3.out.1 (Nat.le_refl _) _ _ _ _⟩
  rw [HTF.out]; simp
set_option maxHeartbeats 2000000 in
set_option maxRecDepth 100000 in
theorem token5 (g : Nat) (s : ByteArray) (at_ : Int) (v : Value) (w : World) (hb : CutB w g s at_ v) (hs : s.size ≤ 1000000) (hp : 0 < s.size) (hT : Tabs w) (k : Int) (hk : cls (decodeL s.data.toList).1 = k) (hk2 : k = 5) :
  Calls Tryz.prog 49 #[.pointer (some ⟨g, 0, none⟩)] w fun e w' =>
   (∃ t : Tok × Int × Int, t = tokF s.data.toList ∧ e = .returned (.tuple #[.agg #[.int .i64 t.1.kind, .string t.1.text, .int .i64 t.1.n, .int .i64 t.1.at_], .int .i64 t.2.1, .int .i64 t.2.2])) ∧ Below w.heap.size w w' := by
 have hc0 : w.cell? ⟨g, 0, none⟩ = some (.string s) := (blk_cell hb 0).trans rfl
 have hg := blk_lt hb
 have HB := Lib.hid hb
 have HT := Lib.hid hT
 obtain ⟨r, hr⟩ : ∃ r, (decodeL s.data.toList).1 = r := ⟨_, rfl⟩
 obtain ⟨wd, hw⟩ : ∃ wd, (decodeL s.data.toList).2 = wd := ⟨_, rfl⟩
 have HD : Hid (∀ W, Tabs W → Calls Tryz.prog 73 #[.string s] W fun e w' => e = .returned (.tuple #[.int .i32 r, .int .i64 wd]) ∧ Below W.heap.size W w') := fun W hW => by
  have := Tryz.utf8_DecodeRuneInString s W hW.utf
  rw [decodeGo_L s hp, hr, hw] at this
  exact this
 have hwd := decodeL_le s.data.toList (by intro e; have := size_data s; rw [e] at this; simp at this; omega)
 have hwd1 := decodeL_width s.data.toList
 rw [size_data, hw] at hwd
 rw [hw] at hwd1
 have hr2 := decodeL_rune s.data.toList
 rw [hr] at hk hr2
 have HC : Hid (∀ W, Calls Tryz.prog 74 #[.int .i32 r] W fun e w' => e = .returned (.int .i64 k) ∧ W = w') := fun W => by rw [← hk]; exact class_any _ W (by omega) (by omega)
 have HTF := Lib.hid (tokF5 (s := s) (by rw [hr, hk, hk2]))
 clear hb hT hr hw hk
 subst hk2
 go_enter Tryz.func49, Tryz.ntmps49
 go_wp2_with fail
 obtain ⟨w0, hw0⟩ : ∃ w0, w.alloc (.cells #[.int .i64 0, .string ⟨#[]⟩, .int .i64 0, .int .i64 0] 60) = w0 := ⟨_, rfl⟩
 have hk0 : w0.heap[w.heap.size]? = some (.cells #[.int .i64 0, .string ⟨#[]⟩, .int .i64 0, .int .i64 0] 60 (0, 0)) := by rw [← hw0]; exact heap_alloc_new _ _
 have hb0 : Below w.heap.size w w0 := by rw [← hw0]; exact (Below.refl _ _).alloc (Nat.le_refl _) _
 have hg0 := (hb0.block g (blk_lt HB.out)).trans HB.out
 have HS0 := Lib.hid (And.intro hb0 (And.intro hk0 hg0))
 rw [hw0]
 clear hw0 hb0 hk0 hg0 hc0
 refine (HD.out _ (HT.out.below HS0.out.1)).mono ?_
 rintro e w1 ⟨rfl, hb1⟩
 have HS1 := Lib.hid (move HS0.out.1 HS0.out.2.1 HS0.out.2.2 hb1)
 have c1 := (blk_cell HS1.out.2.2 0).trans rfl
 clear hb1 HS0
 go_wp2_with fail
 refine (HC.out _).mono ?_
 rintro e w' ⟨rfl, rfl⟩
 go_wp2_with fail
 refine (ctext_any g s at_ v _ HS1.out.2.2 hs hp (HT.out.below HS1.out.1)).mono ?_
 rintro e w2 ⟨⟨⟨⟨t1, t2, t3, t4⟩, t5, t6⟩, ht, rfl⟩, hb2⟩
 have HTX := Lib.hid ht
 have HS3 := Lib.hid (move HS1.out.1 HS1.out.2.1 HS1.out.2.2 hb2)
 clear hb2 HS1 c1 ht
 have q0 := (blk_cell HS3.out.2.1 0).trans rfl
 have q1 := (blk_cell HS3.out.2.1 1).trans rfl
 have q2 := (blk_cell HS3.out.2.1 2).trans rfl
 have q3 := (blk_cell HS3.out.2.1 3).trans rfl
 have f0 := blk_frozen HS3.out.2.1 0
 have f1 := blk_frozen HS3.out.2.1 1
 have f2 := blk_frozen HS3.out.2.1 2
 have f3 := blk_frozen HS3.out.2.1 3
 go_wp2_with fail
 refine bodyPost_ret (v := .tuple #[.agg #[.int .i64 t1, .string t2, .int .i64 t3, .int .i64 t4], .int .i64 t5, .int .i64 t6]) (by simp [results, Tryz.results49, go_sem, *]) rfl ⟨⟨(⟨t1, t2, t3, t4⟩, t5, t6), ?_, rfl⟩, below_set4 HS3.out.1 (Nat.le_refl _) _ _ _ _⟩
 rw [HTF.out, HTX.out]
set_option maxHeartbeats 2000000 in
set_option maxRecDepth 100000 in
theorem token0 (g : Nat) (s : ByteArray) (at_ : Int) (v : Value) (w : World) (hb : CutB w g s at_ v) (hs : s.size ≤ 1000000) (hp : 0 < s.size) (hT : Tabs w) (k : Int) (hk : cls (decodeL s.data.toList).1 = k) (hk2 : (k == 2) = false ∧ (k == 3) = false ∧ (k == 5) = false ∧ (k == 4) = false ∧ k ≠ 2 ∧ k ≠ 3 ∧ k ≠ 5 ∧ k ≠ 4) :
  Calls Tryz.prog 49 #[.pointer (some ⟨g, 0, none⟩)] w fun e w' =>
   (∃ t : Tok × Int × Int, t = tokF s.data.toList ∧ e = .returned (.tuple #[.agg #[.int .i64 t.1.kind, .string t.1.text, .int .i64 t.1.n, .int .i64 t.1.at_], .int .i64 t.2.1, .int .i64 t.2.2])) ∧ Below w.heap.size w w' := by
 have hc0 : w.cell? ⟨g, 0, none⟩ = some (.string s) := (blk_cell hb 0).trans rfl
 have hg := blk_lt hb
 have HB := Lib.hid hb
 have HT := Lib.hid hT
 obtain ⟨r, hr⟩ : ∃ r, (decodeL s.data.toList).1 = r := ⟨_, rfl⟩
 obtain ⟨wd, hw⟩ : ∃ wd, (decodeL s.data.toList).2 = wd := ⟨_, rfl⟩
 have HD : Hid (∀ W, Tabs W → Calls Tryz.prog 73 #[.string s] W fun e w' => e = .returned (.tuple #[.int .i32 r, .int .i64 wd]) ∧ Below W.heap.size W w') := fun W hW => by
  have := Tryz.utf8_DecodeRuneInString s W hW.utf
  rw [decodeGo_L s hp, hr, hw] at this
  exact this
 have hwd := decodeL_le s.data.toList (by intro e; have := size_data s; rw [e] at this; simp at this; omega)
 have hwd1 := decodeL_width s.data.toList
 rw [size_data, hw] at hwd
 rw [hw] at hwd1
 have hr2 := decodeL_rune s.data.toList
 rw [hr] at hk hr2
 have HC : Hid (∀ W, Calls Tryz.prog 74 #[.int .i32 r] W fun e w' => e = .returned (.int .i64 k) ∧ W = w') := fun W => by rw [← hk]; exact class_any _ W (by omega) (by omega)
 have HTF := Lib.hid (tokF0 (s := s) (by rw [hr, hk]; exact hk2.2.2.2.2))
 clear hb hT hr hw hk
 go_enter Tryz.func49, Tryz.ntmps49
 go_wp2_with fail
 obtain ⟨w0, hw0⟩ : ∃ w0, w.alloc (.cells #[.int .i64 0, .string ⟨#[]⟩, .int .i64 0, .int .i64 0] 60) = w0 := ⟨_, rfl⟩
 have hk0 : w0.heap[w.heap.size]? = some (.cells #[.int .i64 0, .string ⟨#[]⟩, .int .i64 0, .int .i64 0] 60 (0, 0)) := by rw [← hw0]; exact heap_alloc_new _ _
 have hb0 : Below w.heap.size w w0 := by rw [← hw0]; exact (Below.refl _ _).alloc (Nat.le_refl _) _
 have hg0 := (hb0.block g (blk_lt HB.out)).trans HB.out
 have HS0 := Lib.hid (And.intro hb0 (And.intro hk0 hg0))
 rw [hw0]
 clear hw0 hb0 hk0 hg0 hc0
 refine (HD.out _ (HT.out.below HS0.out.1)).mono ?_
 rintro e w1 ⟨rfl, hb1⟩
 have HS1 := Lib.hid (move HS0.out.1 HS0.out.2.1 HS0.out.2.2 hb1)
 have c1 := (blk_cell HS1.out.2.2 0).trans rfl
 clear hb1 HS0
 go_wp2_with fail
 refine (HC.out _).mono ?_
 rintro e w' ⟨rfl, rfl⟩
 have q0 := (blk_cell HS1.out.2.1 0).trans rfl
 have q1 := (blk_cell HS1.out.2.1 1).trans rfl
 have q2 := (blk_cell HS1.out.2.1 2).trans rfl
 have q3 := (blk_cell HS1.out.2.1 3).trans rfl
 have f0 := blk_frozen HS1.out.2.1 0
 have f1 := blk_frozen HS1.out.2.1 1
 have f2 := blk_frozen HS1.out.2.1 2
 have f3 := blk_frozen HS1.out.2.1 3
 obtain ⟨b2, b3, b5, b4, n2, n3, n5, n4⟩ := hk2
 clear n2 n3 n5 n4
 go_wp2_with fail
 refine bodyPost_ret (v := .tuple #[.agg #[.int .i64 0, .string ⟨#[]⟩, .int .i64 0, .int .i64 0], .int .i64 0, .int .i64 11]) (by simp [results, Tryz.results49, go_sem, *]) rfl ⟨⟨(zTok, 0, 11), ?_, rfl⟩, below_set4 HS1.out.1 (Nat.le_refl _) _ _ _ _⟩
 exact HTF.out.symm
set_option maxHeartbeats 2000000 in
set_option maxRecDepth 100000 in
theorem token4 (g : Nat) (s : ByteArray) (at_ : Int) (v : Value) (w : World) (hb : CutB w g s at_ v) (hs : s.size ≤ 1000000) (hp : 0 < s.size) (hT : Tabs w) (k : Int) (hk : cls (decodeL s.data.toList).1 = k) (hk2 : k = 4) :
  Calls Tryz.prog 49 #[.pointer (some ⟨g, 0, none⟩)] w fun e w' =>
   (∃ t : Tok × Int × Int, t = tokF s.data.toList ∧ e = .returned (.tuple #[.agg #[.int .i64 t.1.kind, .string t.1.text, .int .i64 t.1.n, .int .i64 t.1.at_], .int .i64 t.2.1, .int .i64 t.2.2])) ∧ Below w.heap.size w w' := by
 have hc0 : w.cell? ⟨g, 0, none⟩ = some (.string s) := (blk_cell hb 0).trans rfl
 have hg := blk_lt hb
 have HB := Lib.hid hb
 have HT := Lib.hid hT
 obtain ⟨r, hr⟩ : ∃ r, (decodeL s.data.toList).1 = r := ⟨_, rfl⟩
 obtain ⟨wd, hw⟩ : ∃ wd, (decodeL s.data.toList).2 = wd := ⟨_, rfl⟩
 have HD : Hid (∀ W, Tabs W → Calls Tryz.prog 73 #[.string s] W fun e w' => e = .returned (.tuple #[.int .i32 r, .int .i64 wd]) ∧ Below W.heap.size W w') := fun W hW => by
  have := Tryz.utf8_DecodeRuneInString s W hW.utf
  rw [decodeGo_L s hp, hr, hw] at this
  exact this
 have hwd := decodeL_le s.data.toList (by intro e; have := size_data s; rw [e] at this; simp at this; omega)
 have hwd1 := decodeL_width s.data.toList
 rw [size_data, hw] at hwd
 rw [hw] at hwd1
 have hr2 := decodeL_rune s.data.toList
 rw [hr] at hk hr2
 have HC : Hid (∀ W, Calls Tryz.prog 74 #[.int .i32 r] W fun e w' => e = .returned (.int .i64 k) ∧ W = w') := fun W => by rw [← hk]; exact class_any _ W (by omega) (by omega)
 have HTF := Lib.hid (tokF4 (s := s) (by rw [hr, hk, hk2]))
 rw [hw] at HTF
 clear hb hT hr hw hk
 subst hk2
 obtain ⟨c0, hc0'⟩ : ∃ c, s.data.toList.getD 0 0 = c := ⟨_, rfl⟩
 have h00 : s[0] = c0 := by rw [head_getD s hp]; exact hc0'
 have hp0 : (0 : Int) < s.size := by omega
 have hwz : (wd : Int) ≤ s.size := by omega
 by_cases h1 : 1 < s.size
 ·have h1z : (1 : Int) < s.size := by omega
  obtain ⟨c1', hc1⟩ : ∃ c, s.data.toList.getD 1 0 = c := ⟨_, rfl⟩
  have h01 : s[1] = c1' := by rw [← hc1, List.getD_eq_getElem?_getD, List.getElem?_eq_getElem (by rw [size_data]; exact h1)]; rfl
  by_cases h61 : c1' = 61
  ·subst h61
   obtain ⟨x, hx⟩ : ∃ x, indexByte [60, 62, 61, 33, 58] c0 = x := ⟨_, rfl⟩
   have HIX : Hid (∀ W, Calls Tryz.prog 75 #[.string ⟨#[60, 62, 61, 33, 58]⟩, .int .u8 c0.toNat] W fun e w' => e = .returned (.int .i64 x) ∧ W = w') := fun W => by
    refine (Tryz.strings_IndexByte ⟨#[60, 62, 61, 33, 58]⟩ c0.toNat W).mono ?_
    rintro e w' ⟨rfl, rfl⟩
    exact ⟨by rw [← hx]; simp, rfl⟩
   rw [hc0', hc1, hx] at HTF
   have h61b : (((61 : UInt8).toNat : Int) == 61) = true := by decide
   have h2z : (2 : Int) ≤ s.size := by omega
   rcases Int.lt_or_le x 0 with hx0 | hx0
   ·rw [if_neg (by omega)] at HTF
    clear hc0' hc1 hx
    go_enter Tryz.func49, Tryz.ntmps49
    go_wp2_with fail
    obtain ⟨w0, hw0⟩ : ∃ w0, w.alloc (.cells #[.int .i64 0, .string ⟨#[]⟩, .int .i64 0, .int .i64 0] 60) = w0 := ⟨_, rfl⟩
    have hk0 : w0.heap[w.heap.size]? = some (.cells #[.int .i64 0, .string ⟨#[]⟩, .int .i64 0, .int .i64 0] 60 (0, 0)) := by rw [← hw0]; exact heap_alloc_new _ _
    have hb0 : Below w.heap.size w w0 := by rw [← hw0]; exact (Below.refl _ _).alloc (Nat.le_refl _) _
    have hg0 := (hb0.block g (blk_lt HB.out)).trans HB.out
    have HS0 := Lib.hid (And.intro hb0 (And.intro hk0 hg0))
    rw [hw0]
    clear hw0 hb0 hk0 hg0 hc0
    refine (HD.out _ (HT.out.below HS0.out.1)).mono ?_
    rintro e w1 ⟨rfl, hb1⟩
    have HS1 := Lib.hid (move HS0.out.1 HS0.out.2.1 HS0.out.2.2 hb1)
    have c1 := (blk_cell HS1.out.2.2 0).trans rfl
    clear hb1 HS0
    go_wp2_with fail
    refine (HC.out _).mono ?_
    rintro e w' ⟨rfl, rfl⟩
    have q0 := (blk_cell HS1.out.2.1 0).trans rfl
    have q1 := (blk_cell HS1.out.2.1 1).trans rfl
    have q2 := (blk_cell HS1.out.2.1 2).trans rfl
    have q3 := (blk_cell HS1.out.2.1 3).trans rfl
    have f0 := blk_frozen HS1.out.2.1 0
    have f1 := blk_frozen HS1.out.2.1 1
    have f2 := blk_frozen HS1.out.2.1 2
    have f3 := blk_frozen HS1.out.2.1 3
    go_wp2_with (go_at_call 75; refine (HIX.out _).mono ?_; rintro e w' ⟨rfl, rfl⟩)
    refine bodyPost_ret (v := .tuple #[.agg #[.int .i64 4, .string (s.extract 0 wd), .int .i64 0, .int .i64 0], .int .i64 wd, .int .i64 0]) (by simp [results, Tryz.results49, go_sem, *]) rfl ⟨⟨(⟨4, s.extract 0 wd, 0, 0⟩, wd, 0), HTF.out.symm, rfl⟩, below_set4 HS1.out.1 (Nat.le_refl _) _ _ _ _⟩
   ·rw [if_pos ⟨h1, rfl, hx0⟩] at HTF
    clear hc0' hc1 hx
    go_enter Tryz.func49, Tryz.ntmps49
    go_wp2_with fail
    obtain ⟨w0, hw0⟩ : ∃ w0, w.alloc (.cells #[.int .i64 0, .string ⟨#[]⟩, .int .i64 0, .int .i64 0] 60) = w0 := ⟨_, rfl⟩
    have hk0 : w0.heap[w.heap.size]? = some (.cells #[.int .i64 0, .string ⟨#[]⟩, .int .i64 0, .int .i64 0] 60 (0, 0)) := by rw [← hw0]; exact heap_alloc_new _ _
    have hb0 : Below w.heap.size w w0 := by rw [← hw0]; exact (Below.refl _ _).alloc (Nat.le_refl _) _
    have hg0 := (hb0.block g (blk_lt HB.out)).trans HB.out
    have HS0 := Lib.hid (And.intro hb0 (And.intro hk0 hg0))
    rw [hw0]
    clear hw0 hb0 hk0 hg0 hc0
    refine (HD.out _ (HT.out.below HS0.out.1)).mono ?_
    rintro e w1 ⟨rfl, hb1⟩
    have HS1 := Lib.hid (move HS0.out.1 HS0.out.2.1 HS0.out.2.2 hb1)
    have c1 := (blk_cell HS1.out.2.2 0).trans rfl
    clear hb1 HS0
    go_wp2_with fail
    refine (HC.out _).mono ?_
    rintro e w' ⟨rfl, rfl⟩
    have q0 := (blk_cell HS1.out.2.1 0).trans rfl
    have q1 := (blk_cell HS1.out.2.1 1).trans rfl
    have q2 := (blk_cell HS1.out.2.1 2).trans rfl
    have q3 := (blk_cell HS1.out.2.1 3).trans rfl
    have f0 := blk_frozen HS1.out.2.1 0
    have f1 := blk_frozen HS1.out.2.1 1
    have f2 := blk_frozen HS1.out.2.1 2
    have f3 := blk_frozen HS1.out.2.1 3
    go_wp2_with (go_at_call 75; refine (HIX.out _).mono ?_; rintro e w' ⟨rfl, rfl⟩)
    refine bodyPost_ret (v := .tuple #[.agg #[.int .i64 4, .string (s.extract 0 2), .int .i64 0, .int .i64 0], .int .i64 2, .int .i64 0]) (by simp [results, Tryz.results49, go_sem, *]) rfl ⟨⟨(⟨4, s.extract 0 2, 0, 0⟩, 2, 0), HTF.out.symm, rfl⟩, below_set4 HS1.out.1 (Nat.le_refl _) _ _ _ _⟩
  ·have h61b : ((c1'.toNat : Int) == 61) = false := by rw [beq_eq_false_iff_ne]; intro e; exact h61 (UInt8.toNat_inj.1 (by simpa using (by omega : c1'.toNat = 61)))
   have hlt := c1'.toNat_lt
   rw [hc1, if_neg (fun h => h61 h.2.1)] at HTF
   clear hc0' hc1 h61
   go_enter Tryz.func49, Tryz.ntmps49
   go_wp2_with fail
   obtain ⟨w0, hw0⟩ : ∃ w0, w.alloc (.cells #[.int .i64 0, .string ⟨#[]⟩, .int .i64 0, .int .i64 0] 60) = w0 := ⟨_, rfl⟩
   have hk0 : w0.heap[w.heap.size]? = some (.cells #[.int .i64 0, .string ⟨#[]⟩, .int .i64 0, .int .i64 0] 60 (0, 0)) := by rw [← hw0]; exact heap_alloc_new _ _
   have hb0 : Below w.heap.size w w0 := by rw [← hw0]; exact (Below.refl _ _).alloc (Nat.le_refl _) _
   have hg0 := (hb0.block g (blk_lt HB.out)).trans HB.out
   have HS0 := Lib.hid (And.intro hb0 (And.intro hk0 hg0))
   rw [hw0]
   clear hw0 hb0 hk0 hg0 hc0
   refine (HD.out _ (HT.out.below HS0.out.1)).mono ?_
   rintro e w1 ⟨rfl, hb1⟩
   have HS1 := Lib.hid (move HS0.out.1 HS0.out.2.1 HS0.out.2.2 hb1)
   have c1 := (blk_cell HS1.out.2.2 0).trans rfl
   clear hb1 HS0
   go_wp2_with fail
   refine (HC.out _).mono ?_
   rintro e w' ⟨rfl, rfl⟩
   have q0 := (blk_cell HS1.out.2.1 0).trans rfl
   have q1 := (blk_cell HS1.out.2.1 1).trans rfl
   have q2 := (blk_cell HS1.out.2.1 2).trans rfl
   have q3 := (blk_cell HS1.out.2.1 3).trans rfl
   have f0 := blk_frozen HS1.out.2.1 0
   have f1 := blk_frozen HS1.out.2.1 1
   have f2 := blk_frozen HS1.out.2.1 2
   have f3 := blk_frozen HS1.out.2.1 3
   go_wp2_with fail
   refine bodyPost_ret (v := .tuple #[.agg #[.int .i64 4, .string (s.extract 0 wd), .int .i64 0, .int .i64 0], .int .i64 wd, .int .i64 0]) (by simp [results, Tryz.results49, go_sem, *]) rfl ⟨⟨(⟨4, s.extract 0 wd, 0, 0⟩, wd, 0), HTF.out.symm, rfl⟩, below_set4 HS1.out.1 (Nat.le_refl _) _ _ _ _⟩
 ·have h1z : (s.size : Int) ≤ 1 := by omega
  rw [if_neg (fun h => h1 h.1)] at HTF
  clear hc0' h1
  go_enter Tryz.func49, Tryz.ntmps49
  go_wp2_with fail
  obtain ⟨w0, hw0⟩ : ∃ w0, w.alloc (.cells #[.int .i64 0, .string ⟨#[]⟩, .int .i64 0, .int .i64 0] 60) = w0 := ⟨_, rfl⟩
  have hk0 : w0.heap[w.heap.size]? = some (.cells #[.int .i64 0, .string ⟨#[]⟩, .int .i64 0, .int .i64 0] 60 (0, 0)) := by rw [← hw0]; exact heap_alloc_new _ _
  have hb0 : Below w.heap.size w w0 := by rw [← hw0]; exact (Below.refl _ _).alloc (Nat.le_refl _) _
  have hg0 := (hb0.block g (blk_lt HB.out)).trans HB.out
  have HS0 := Lib.hid (And.intro hb0 (And.intro hk0 hg0))
  rw [hw0]
  clear hw0 hb0 hk0 hg0 hc0
  refine (HD.out _ (HT.out.below HS0.out.1)).mono ?_
  rintro e w1 ⟨rfl, hb1⟩
  have HS1 := Lib.hid (move HS0.out.1 HS0.out.2.1 HS0.out.2.2 hb1)
  have c1 := (blk_cell HS1.out.2.2 0).trans rfl
  clear hb1 HS0
  go_wp2_with fail
  refine (HC.out _).mono ?_
  rintro e w' ⟨rfl, rfl⟩
  have q0 := (blk_cell HS1.out.2.1 0).trans rfl
  have q1 := (blk_cell HS1.out.2.1 1).trans rfl
  have q2 := (blk_cell HS1.out.2.1 2).trans rfl
  have q3 := (blk_cell HS1.out.2.1 3).trans rfl
  have f0 := blk_frozen HS1.out.2.1 0
  have f1 := blk_frozen HS1.out.2.1 1
  have f2 := blk_frozen HS1.out.2.1 2
  have f3 := blk_frozen HS1.out.2.1 3
  go_wp2_with fail
  refine bodyPost_ret (v := .tuple #[.agg #[.int .i64 4, .string (s.extract 0 wd), .int .i64 0, .int .i64 0], .int .i64 wd, .int .i64 0]) (by simp [results, Tryz.results49, go_sem, *]) rfl ⟨by rw [HTF.out], below_set4 HS1.out.1 (Nat.le_refl _) _ _ _ _⟩
theorem token_any (g : Nat) (s : ByteArray) (at_ : Int) (v : Value) (w : World) (hb : CutB w g s at_ v) (hs : s.size ≤ 1000000) (hp : 0 < s.size) (hT : Tabs w) :
  Calls Tryz.prog 49 #[.pointer (some ⟨g, 0, none⟩)] w fun e w' =>
   (∃ t : Tok × Int × Int, t = tokF s.data.toList ∧ e = .returned (.tuple #[.agg #[.int .i64 t.1.kind, .string t.1.text, .int .i64 t.1.n, .int .i64 t.1.at_], .int .i64 t.2.1, .int .i64 t.2.2])) ∧ Below w.heap.size w w' := by
 rcases five (cls (decodeL s.data.toList).1) with h | h | h | h | h
 ·exact token2 g s at_ v w hb hs hp hT _ rfl h
 ·exact token3 g s at_ v w hb hs hp hT _ rfl h
 ·exact token5 g s at_ v w hb hs hp hT _ rfl h
 ·exact token4 g s at_ v w hb hs hp hT _ rfl h
 ·exact token0 g s at_ v w hb hs hp hT _ rfl h
end Go.Proofs.YtgcfjkfipkfijaaGreatDoor
