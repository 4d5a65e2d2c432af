/- Part 2 of the proof of ragain_card; no conditions. -/
import Derived.Test.YtgcfjkfipkfijaaGreatDoorAg01
import Derived.Lib.OthersKept
import Derived.Deep.RegionHeld3
import Derived.Deep.RegionLaw
import Derived.Laws.AppendOwn
import Derived.Laws.OwnMore
import Derived.Deep.AppendLies
import Derived.Deep.LoopGhost
import Derived.ChangeAlike
import Derived.RegionTactic
import Derived.BigQuiet
set_option maxRecDepth 100000
set_option maxHeartbeats 4000000
namespace Go.Proofs.YtgcfjkfipkfijaaGreatDoor
open Go Go.RowKit Go.Lib Tryz
theorem bS {a b} (h : a = b) : Ending.returned (.bool a) = .returned (.bool b) := by rw [h]
theorem ak (s : ByteArray) : s.data.toList.length = s.size := by simp
theorem aR (w s pos) : Below w.heap.size w (w.iter s pos) := (J_ _ _).alloc le_ _
theorem nb {r : Nat} {c : Int} (h : cO (r : Int) = c) : lf r = (c == 2 || c == 3) := by unfold lf; rw [h]
theorem fc (s pos) : ((Utf8.decode s pos).1 : Int) ≤ 2147483647 := by have := decode_le s pos; omega
theorem fe (s : ByteArray) : (!s.toList.isEmpty) = decide (s.size ≠ 0) := by
 rw [Lib.toList_data, ← ak]
 cases s.data.toList <;> simp
theorem dF (c : Int) : c = 2 ∨ c = 3 ∨ (c != 2) = true ∧ (c != 3) = true := by
 simp only [bne_iff_ne, ne_eq]
 omega
theorem tY (s w) : Calls prog 171 #[.string s] w fun e w' => e = .returned (.bool (fC s)) ∧ Below w.heap.size w w' := by
 obtain ⟨ANS, hANS⟩ := nm_ (dR (ai s.data.toList))
 have HA : Hid (fC s = (ANS && decide (s.size ≠ 0))) := by unfold fC; rw [hANS]; exact rfl
 go_enter func171, ntmps171
 go_wp2
 go_loopw [4, 5] (fun _ _ w' => ∃ pos, w' = w.iter s pos ∧ dR (ai (s.data.toList.drop pos)) = ANS) (fun _ _ w' => s.size - w'.iterPos w.heap.size)
 case atStart => exact ⟨0, rfl, by simpa using hANS⟩
 case round =>
  obtain ⟨pos, rfl, hr⟩ := hrel
  clear hANS
  have HR := hid hr
  clear hr
  by_cases hp : pos < s.size
  ·have hnx : ∀ ty, (Instr.next (.pointer (some ⟨w.heap.size, 0, none⟩)) true ty).run prog (w.iter s pos) = _ := fun ty => run_next_any w s pos ty hp
   have hwd := Lib.decode_width_pos s pos hp
   have hle := fc s pos
   obtain ⟨c, hc⟩ := nm_ (cO ((Utf8.decode s pos).1 : Int))
   have hC : ∀ w', Calls prog 74 #[.int .i32 (Utf8.decode s pos).1] w' fun e w'' => e = .returned (.int .i64 c) ∧ w' = w'' := by
    subst hc
    exact fun w' => dj _ w' (by omega) hle
   have HC := hid hC
   have HI : Hid (lf (Utf8.decode s pos).1 = (c == 2 || c == 3)) := nb hc
   have HRR : Hid (dR (ai (s.data.toList.drop pos)) = (lf (Utf8.decode s pos).1 && dR (ai (s.data.toList.drop (pos + (Utf8.decode s pos).2))))) := by
    rw [dQ s pos hp]; exact rfl
   clear hC hc
   rcases dF c with rfl | rfl | ⟨n2, n3⟩
   ·go_wp2_with (go_at_call 74; refine (HC.out _).mono ?_; rintro e w' ⟨rfl, rfl⟩)
    go_roundw
    case rel => exact ⟨_, rfl, by have h1 := HR.out; rw [HRR.out, HI.out] at h1; simpa using h1⟩
    case measure => simp; omega
   ·go_wp2_with (go_at_call 74; refine (HC.out _).mono ?_; rintro e w' ⟨rfl, rfl⟩)
    go_roundw
    case rel => exact ⟨_, rfl, by have h1 := HR.out; rw [HRR.out, HI.out] at h1; simpa using h1⟩
    case measure => simp; omega
   ·go_wp2_with (go_at_call 74; refine (HC.out _).mono ?_; rintro e w' ⟨rfl, rfl⟩)
    go_ret
    refine ⟨bS ?_, aR _ _ _⟩
    have h1 := HR.out
    rw [HRR.out, HI.out] at h1
    rw [HA.out, ← h1]
    simp only [bne_iff_ne, ne_eq] at n2 n3
    simp [n2, n3]
  ·have hnx : ∀ ty, (Instr.next (.pointer (some ⟨w.heap.size, 0, none⟩)) true ty).run prog (w.iter s pos) = _ := fun ty => run_next_end w s pos ty hp
   go_wp2
   go_ret
   refine ⟨bS ?_, aR _ _ _⟩
   have h1 := HR.out
   rw [di s pos hp] at h1
   rw [HA.out, ← h1]
   simp only [dR, List.all_nil, Bool.true_and]
   exact fe s
end Go.Proofs.YtgcfjkfipkfijaaGreatDoor
namespace Go.Proofs.YtgcfjkfipkfijaaGreatDoor
open Go Go.RowKit Go.Lib Tryz
theorem rf (w q os) : Below w.heap.size w (Sort.grow (w.drewN q) os) := by
 refine ⟨rfl, rfl, rfl, by simp [Sort.grow, World.drewN], fun k hk => ?_⟩
 show (w.heap ++ os)[k]? = _
 rw [Array.getElem?_append_left hk]
theorem rh {s} (h : fC s = true) : 0 < s.size := by
 unfold fC at h
 rw [a_, decide_eq_true_eq] at h
 omega
theorem pj (n w) (h0 : -9223372036854775808 ≤ n) (h1 : n ≤ 9223372036854775807) (hT : bq w) :
  Calls prog 66 #[.int .i64 n] w fun e w' => e = .returned (.string ⟨(Lib.itoa n).toArray⟩) ∧ Below w.heap.size w w' := by
 have HC := hid (Tryz.strconv_Itoa n h0 h1 w hT.pow)
 clear hT
 go_enter func66, ntmps66
 go_wp2_with (go_at_call 97; refine HC.out.mono ?_; rintro e w' ⟨rfl, k, os, rfl⟩)
 go_ret
 exact ⟨rfl, rf _ _ _⟩
theorem iC (s : ByteArray) (h : 0 < s.size) : s[0] = s.data.toList.getD 0 0 := by
 have h' : 0 < s.data.toList.length := by rw [ak]; exact h
 rw [S_, R_ h']
 rfl
theorem vW (s w) (hs : s.size < 9223372036854775807) (hT : bq w) :
  Calls prog 167 #[.string s] w fun e w' => e = .returned (.bool (cg s)) ∧ Below w.heap.size w w' := by
 have HV := hid (Tryz.utf8_ValidString s w (by omega) hT.utf)
 clear hT
 obtain ⟨V, hV⟩ := nm_ (Lib.validD s.data.toList)
 obtain ⟨W, hW⟩ := nm_ (fC s)
 obtain ⟨n, hn⟩ : ∃ n : Nat, (ai s.data.toList).length = n := ⟨_, rfl⟩
 obtain ⟨c, hc⟩ : ∃ c : UInt8, s.data.toList.getD 0 0 = c := ⟨_, rfl⟩
 have HA : Hid (cg s = (V && W && (decide (c.toNat < 48) || decide (57 < c.toNat)) && decide (n ≤ 12))) := by unfold cg; rw [hV, hW, hn, hc]; exact rfl
 have HWd : Hid (∀ w, Calls prog 171 #[.string s] w fun e w' => e = .returned (.bool W) ∧ Below w.heap.size w w') := fun w => by have := tY s w; rw [hW] at this; exact this
 have HR : Hid (∀ w, Calls prog 77 #[.string s] w fun e w' => e = .returned (.int .i64 n) ∧ ∃ pos, w' = w.iter s pos) := fun w => by
  have := Tryz.utf8_RuneCountInString s w hs; rw [dy, hn] at this; exact this
 rw [hV] at HV
 cases V
 ·go_enter func167, ntmps167
  go_wp2_with (go_at_call 170; refine HV.out.mono ?_; rintro e w1 ⟨rfl, hb1⟩)
  go_ret
  exact ⟨bS (by rw [HA.out]; rfl), hb1⟩
 ·cases W
  ·clear hV hW hn hc
   go_enter func167, ntmps167
   go_wp2_with (first | (go_at_call 170; refine HV.out.mono ?_; rintro e w1 ⟨rfl, hb1⟩) | (go_at_call 171; refine (HWd.out _).mono ?_; rintro e w2 ⟨rfl, hb2⟩))
   go_ret
   exact ⟨bS (by rw [HA.out]; rfl), hb1.trans (hb2.mono hb1.size)⟩
  ·have h0 : 0 < s.size := rh hW
   have hz : (0 : Int) < s.size := by omega
   have hh : s[0] = c := by rw [iC s h0]; exact hc
   have hlt := c.toNat_lt
   clear hV hW hn hc
   have hd : ((c.toNat : Int) < 48 ∧ decide ((c.toNat : Int) < 48) = true ∧ (decide (c.toNat < 48) || decide (57 < c.toNat)) = true) ∨
     (48 ≤ (c.toNat : Int) ∧ 57 < (c.toNat : Int) ∧ (decide (c.toNat < 48) || decide (57 < c.toNat)) = true) ∨
     (48 ≤ (c.toNat : Int) ∧ (c.toNat : Int) ≤ 57 ∧ (decide (c.toNat < 48) || decide (57 < c.toNat)) = false) := by
    rcases Nat.lt_or_ge c.toNat 48 with h1 | h1
    ·exact .inl ⟨by omega, W_ (by omega), by simp [h1]⟩
    ·rcases Nat.lt_or_ge 57 c.toNat with h2 | h2
     ·exact .inr (.inl ⟨by omega, by omega, by simp [h2]⟩)
     ·exact .inr (.inr ⟨by omega, by omega, by simp; omega⟩)
   rcases hd with ⟨d1, d2, hd⟩ | ⟨d1, d2, hd⟩ | ⟨d1, d2, hd⟩
   all_goals
    have HD := hid hd
    clear hd
    go_enter func167, ntmps167
    go_wp2_with (first | (go_at_call 170; refine HV.out.mono ?_; rintro e w1 ⟨rfl, hb1⟩) | (go_at_call 171; refine (HWd.out _).mono ?_; rintro e w2 ⟨rfl, hb2⟩) | (go_at_call 77; refine (HR.out _).mono ?_; rintro e w3 ⟨rfl, pos, rfl⟩))
    all_goals
     go_ret
     first
     | exact ⟨bS (by rw [HA.out, HD.out]; simp <;> omega), hb1.trans (hb2.mono hb1.size)⟩
     | exact ⟨bS (by rw [HA.out, HD.out]; simp <;> omega), (hb1.trans (hb2.mono hb1.size)).trans ((aR _ _ _).mono (d_ hb1.size hb2.size))⟩
end Go.Proofs.YtgcfjkfipkfijaaGreatDoor
namespace Go.Proofs.YtgcfjkfipkfijaaGreatDoor
open Go Go.RowKit Go.Lib Tryz
theorem rj {a b p} (h : (a, b) = p) : Ending.returned (.tuple #[.int .i64 a, .bool b]) = .returned (.tuple #[.int .i64 p.1, .bool p.2]) := by rw [← h]
theorem lG {s} (h : s.size = 0 ∨ 19 < s.size ∨ 1 < s.size ∧ s.data.toList.getD 0 0 = 48) : hH s = (0, false) := by unfold hH; rw [M_ h]
theorem vX {n} (h : 9223372036854775807 < n) : rb (some n) = (0, false) := M_ h
theorem yB {n} (h : ¬ 9223372036854775807 < n) : rb (some n) = ((n : Int), true) := K_ h
theorem AP {r} : cO r = 3 ↔ 48 ≤ r ∧ r ≤ 57 := by
 unfold cO
 repeat' split
 all_goals omega
theorem vY {a d p q} (ha : a < 10 ^ p) (hd : d ≤ 9) (hq : 1 ≤ q) : 10 * a + d < 10 ^ (p + q) := by
 have h1 : 10 ^ (p + 1) ≤ 10 ^ (p + q) := Nat.pow_le_pow_right (by omega) (by omega)
 rw [Nat.pow_succ] at h1
 omega
theorem yC {a p} (ha : a < 10 ^ p) (hp : p ≤ 18) : a ≤ 999999999999999999 := by
 have h1 : 10 ^ p ≤ 10 ^ 18 := Nat.pow_le_pow_right (by omega) hp
 omega
theorem vZ {a p} (ha : a < 10 ^ p) (hp : p ≤ 19) : a ≤ 9999999999999999999 := by
 have h1 : 10 ^ p ≤ 10 ^ 19 := Nat.pow_le_pow_right (by omega) hp
 omega
theorem rk (s w) : Calls prog 78 #[.string s] w fun e w' => e = .returned (.tuple #[.int .i64 (hH s).1, .bool (hH s).2]) ∧ Below w.heap.size w w' := by
 by_cases h0 : s.size = 0
 ·have hE : s.toList.isEmpty = true := by
   have := fe s; simp [h0] at this; simpa using this
  rw [lG (.inl h0)]
  clear h0
  go_enter func78, ntmps78
  go_wp2
  go_ret2
  exact ⟨rfl, J_ _ _⟩
 have hE : s.toList.isEmpty = false := by
  have := fe s; simp [h0] at this; simpa using this
 by_cases h19 : 19 < s.size
 ·rw [lG (.inr (.inl h19))]
  have hz : (19 : Int) < s.size := by omega
  clear h0 h19
  go_enter func78, ntmps78
  go_wp2
  go_ret2
  exact ⟨rfl, J_ _ _⟩
 have hz19 : (s.size : Int) ≤ 19 := by omega
 have hp0 : 0 < s.size := by omega
 have hz0 : (0 : Int) < s.size := by omega
 obtain ⟨c, hc⟩ : ∃ c : UInt8, s.data.toList.getD 0 0 = c := ⟨_, rfl⟩
 have hh : s[0] = c := by rw [iC s hp0]; exact hc
 have hlt := c.toNat_lt
 by_cases h1 : 1 < s.size ∧ c = 48
 ·rw [lG (.inr (.inr ⟨h1.1, by rw [hc]; exact h1.2⟩))]
  obtain ⟨h1, rfl⟩ := h1
  have hz1 : (1 : Int) < s.size := by omega
  clear hc h0 h19 h1
  go_enter func78, ntmps78
  go_wp2
  go_ret2
  exact ⟨rfl, J_ _ _⟩
 obtain ⟨ANS, hANS⟩ := nm_ (iT 0 (ai s.data.toList))
 have HA : Hid (hH s = rb ANS) := by
  unfold hH
  rw [K_ (by rw [hc]; rintro (h | h | h); exact h0 h; exact h19 h; exact h1 h), hANS]
  exact rfl
 have hor : (s.size : Int) ≤ 1 ∨ (1 : Int) < s.size ∧ ((c.toNat : Int) == 48) = false := by
  rcases Nat.lt_or_ge 1 s.size with h | h
  ·refine .inr ⟨by omega, ?_⟩
   rw [beq_eq_false_iff_ne]
   intro e
   exact h1 ⟨h, UInt8.toNat_inj.1 (by simpa using (by omega : c.toNat = 48))⟩
  ·exact .inl (by omega)
 have H19 := hid h19
 clear hc h0 h19 h1
 rcases hor with hor | ⟨hor, hor2⟩
 all_goals
  go_enter func78, ntmps78
  go_wp2
  go_loopw [4, 6] (fun n _ w' => ∃ pos acc : Nat, w' = w.iter s pos ∧ n = .int .u64 acc ∧ acc < 10 ^ pos ∧ pos ≤ s.size ∧ iT acc (ai (s.data.toList.drop pos)) = ANS) (fun _ _ w' => s.size - w'.iterPos w.heap.size)
  case atStart => exact ⟨0, 0, rfl, rfl, by simp, by omega, by simpa using hANS⟩
  case round =>
   obtain ⟨pos, acc, rfl, rfl, hacc, hps, hr⟩ := hrel
   clear hANS
   have HR := hid hr
   have HACC := hid hacc
   have hcap := vZ hacc (by omega)
   clear hr
   by_cases hp : pos < s.size
   ·have hnx : ∀ ty, (Instr.next (.pointer (some ⟨w.heap.size, 0, none⟩)) true ty).run prog (w.iter s pos) = _ := fun ty => run_next_any w s pos ty hp
    have hwd := Lib.decode_width_pos s pos hp
    have hle := fc s pos
    have hft := eB s pos hp
    have hcap2 := yC hacc (by omega)
    clear hacc
    obtain ⟨cl, hcl⟩ := nm_ (cO ((Utf8.decode s pos).1 : Int))
    have hC : ∀ w', Calls prog 74 #[.int .i32 (Utf8.decode s pos).1] w' fun e w'' => e = .returned (.int .i64 cl) ∧ w' = w'' := by
     subst hcl
     exact fun w' => dj _ w' (by omega) hle
    have HC := hid hC
    have HRR : Hid (iT acc (ai (s.data.toList.drop pos)) = if cl = 3 then iT (10 * acc + ((Utf8.decode s pos).1 - 48)) (ai (s.data.toList.drop (pos + (Utf8.decode s pos).2))) else none) := by
     rw [dQ s pos hp, ← hcl]; exact rfl
    by_cases h3 : cl = 3
    ·subst h3
     obtain ⟨hd1, hd2⟩ := AP.1 hcl
     clear hC hcl
     go_wp2_with (go_at_call 74; refine (HC.out _).mono ?_; rintro e w' ⟨rfl, rfl⟩)
     go_roundw
     case rel =>
      have h1 := HR.out
      rw [HRR.out, M_ trivial] at h1
      exact ⟨_, _, rfl, by congr 1; omega, vY HACC.out (by omega) hwd, hft, h1⟩
     case measure => simp; omega
    ·have hb : (cl != 3) = true := by rw [bne_iff_ne]; exact h3
     have H3 := hid h3
     clear hC hcl h3
     go_wp2_with (go_at_call 74; refine (HC.out _).mono ?_; rintro e w' ⟨rfl, rfl⟩)
     go_ret2
     refine ⟨rj ?_, aR _ _ _⟩
     have h1 := HR.out
     rw [HRR.out, K_ H3.out] at h1
     rw [HA.out, ← h1]
     rfl
   ·have hnx : ∀ ty, (Instr.next (.pointer (some ⟨w.heap.size, 0, none⟩)) true ty).run prog (w.iter s pos) = _ := fun ty => run_next_end w s pos ty hp
    have HE : Hid (ANS = some acc) := by
     have h1 := HR.out
     rw [di s pos hp] at h1
     exact h1.symm
    by_cases hbig : 9223372036854775807 < acc
    ·have hz : (9223372036854775807 : Int) < acc := by omega
     clear hacc
     go_wp2
     go_ret2
     exact ⟨rj (by rw [HA.out, HE.out, vX hbig]), aR _ _ _⟩
    ·have hz : (acc : Int) ≤ 9223372036854775807 := by omega
     clear hacc
     go_wp2
     go_ret2
     exact ⟨rj (by rw [HA.out, HE.out, yB hbig]), aR _ _ _⟩
end Go.Proofs.YtgcfjkfipkfijaaGreatDoor
namespace Go.Proofs.YtgcfjkfipkfijaaGreatDoor
open Go Go.RowKit Go.Lib Tryz
theorem gv {w : World} {k : Nat} {s : ByteArray} {p : Nat} (h : w.heap[k]? = some (.stringIter s p)) : w.iterPos k = p := by unfold World.iterPos; rw [h]
theorem fN (s : ByteArray) (k : Nat) : (s.extract k s.size).data.toList = s.data.toList.drop k := Lib.ext_list s k
theorem ox (s k) (h : k < s.size) : Lib.decodeGo (s.extract k s.size) = Utf8.decode s k := by
 unfold Lib.decodeGo
 rw [K_ (by rw [Lib.ext_size]; omega), ← decodeL_drop s k, ← fN s k]
 have := decodeL_drop (s.extract k s.size) 0
 rw [← this]; rfl
theorem yD (s w) (hs : s.size ≤ 9223372036854775806) (hT : bq w) : Calls prog 47 #[.string s] w fun e w' => e = .returned (.int .i64 (iS 0 (ai s.data.toList))) ∧ Below w.heap.size w w' := by
 obtain ⟨ANS, hANS⟩ := nm_ (iS 0 (ai s.data.toList))
 rw [hANS]
 have HT := hid hT
 clear hT
 go_enter func47, ntmps47
 go_wp2
 go_loopw [3, 4, 5, 6, 7] (fun a _ _ _ _ w' => ∃ pos k : Nat, a = .int .i64 k ∧ k ≤ pos ∧ pos ≤ s.size ∧ w'.heap[w.heap.size]? = some (.stringIter s pos) ∧ Below w.heap.size w w' ∧ iS k (ai (s.data.toList.drop pos)) = ANS) (fun _ _ _ _ _ w' => s.size - w'.iterPos w.heap.size)
 case atStart => exact ⟨0, 0, rfl, by omega, by omega, World.iter_heap w s 0, aR w s 0, by simpa using hANS⟩
 case round =>
  obtain ⟨pos, k, rfl, hkp, hps, hit, hbel, hr⟩ := hrel
  have HR := hid hr
  have HIT := hid hit
  have HB := hid hbel
  clear hr hANS
  obtain ⟨wo, hwo⟩ : ∃ wo : World, wo = wr := ⟨_, rfl⟩
  by_cases hp : pos < s.size
  ·have hnx : ∀ ty, (Instr.next (.pointer (some ⟨w.heap.size, 0, none⟩)) true ty).run prog wr = _ := fun ty => run_next_any_at wr w.heap.size s pos ty hit hp
   have hwd := Lib.decode_width_pos s pos hp
   have hle := fc s pos
   have hft := eB s pos hp
   obtain ⟨r, hr⟩ := nm_ ((Utf8.decode s pos).1)
   obtain ⟨wd, hw⟩ := nm_ ((Utf8.decode s pos).2)
   have HRR : Hid (iS k (ai (s.data.toList.drop pos)) = if (r, wd) = (65533, 1) then (k : Int) else iS (k + 1) (ai (s.data.toList.drop (pos + wd)))) := by
    rw [dQ s pos hp, ← hr, ← hw]; exact rfl
   have hIT2 := iterAt_heap wr w.heap.size s pos (pos + wd) hit
   have hB2 := below_iterAt hbel (k := w.heap.size) le_ s (pos + wd)
   have HD : Hid (∀ W, bq W → Calls prog 73 #[.string (s.extract pos s.size)] W fun e w' => e = .returned (.tuple #[.int .i32 r, .int .i64 wd]) ∧ Below W.heap.size W w') := fun W hW => by
    have := Tryz.utf8_DecodeRuneInString (s.extract pos s.size) W hW.utf
    rw [ox s pos hp, hr, hw] at this
    exact this
   rw [hr, hw] at hnx
   rw [hr] at hle
   rw [hw] at hwd hft
   obtain ⟨W2, hW2⟩ := nm_ (wr.iterAt w.heap.size s (pos + wd))
   rw [hW2] at hnx hIT2 hB2
   have HIT2 := hid hIT2
   have HB2 := hid hB2
   have hposz : (pos : Int) ≤ s.size := by omega
   clear hit hbel hIT2 hB2 hr hw hW2 hwo wo
   by_cases h1 : r = 65533
   ·by_cases h2 : wd = 1
    ·subst h1 h2
     go_wp2_with (go_at_call 73; refine (HD.out _ (HT.out.below HB2.out)).mono ?_; rintro e w3 ⟨rfl, hb3⟩)
     go_ret
     refine ⟨iB ?_, HB2.out.trans (hb3.mono HB2.out.size)⟩
     have h1 := HR.out
     rw [HRR.out] at h1
     simpa using h1
    ·have c2 : ((wd : Int) == 1) = false := by rw [beq_eq_false_iff_ne]; omega
     have H2 := hid h2
     clear h2
     subst h1
     go_wp2_with (go_at_call 73; refine (HD.out _ (HT.out.below HB2.out)).mono ?_; rintro e w3 ⟨rfl, hb3⟩)
     go_roundw
     case rel =>
      have h1 := HR.out
      rw [HRR.out, K_ (fun e => H2.out (c_ Prod.snd e))] at h1
      have hlt : w.heap.size < W2.heap.size := (C_ HIT2.out).1
      exact ⟨pos + wd, k + 1, by go_num, by omega, hft, (hb3.block _ hlt).trans HIT2.out, HB2.out.trans (hb3.mono HB2.out.size), by rw [← h1]; rfl⟩
     case measure =>
      have hlt : w.heap.size < W2.heap.size := (C_ HIT2.out).1
      rw [gv ((hb3.block _ hlt).trans HIT2.out), gv HIT.out]
      omega
   ·have c1 : ((r : Int) == 65533) = false := by rw [beq_eq_false_iff_ne]; omega
    have H1 := hid h1
    clear h1
    go_wp2_with fail
    go_roundw
    case rel =>
     have h1 := HR.out
     rw [HRR.out, K_ (fun e => H1.out (c_ Prod.fst e))] at h1
     exact ⟨pos + wd, k + 1, by go_num, by omega, hft, HIT2.out, HB2.out, by rw [← h1]; rfl⟩
    case measure =>
     rw [gv HIT2.out, gv HIT.out]
     omega
  ·have hnx : ∀ ty, (Instr.next (.pointer (some ⟨w.heap.size, 0, none⟩)) true ty).run prog wr = _ := fun ty => run_next_end_at wr w.heap.size s pos ty hit hp
   clear hit hbel hwo wo
   go_wp2
   go_ret
   refine ⟨iB ?_, HB.out⟩
   have h1 := HR.out
   rw [di s pos hp] at h1
   exact h1
end Go.Proofs.YtgcfjkfipkfijaaGreatDoor
namespace Go.Proofs.YtgcfjkfipkfijaaGreatDoor
open Go Go.RowKit Go.Lib Tryz
variable {a : Addr} {cs : Array Value} {g : Nat} {fr : Nat × Nat} {t : TypeId} {v : Value} {w : World}
theorem aa (h : w.heap[g]? = some (.cells cs t fr)) (i) : w.cell? ⟨g, i, none⟩ = cs[i]? := by simp [World.cell?, h]
theorem af (h : w.heap[g]? = some (.cells cs t (0, 0))) (i) : w.frozen? ⟨g, i, none⟩ = false := by simp [World.frozen?, h]
theorem bh (h : w.heap[g]? = some (.cells cs t fr)) (i v) : (w.setCell ⟨g, i, none⟩ v).heap[g]? = some (.cells (cs.setIfInBounds i v) t fr) := by simp [World.setCell, Array.getElem?_modify, h]
theorem ab {o : Obj} (h : w.heap[g]? = some o) : g < w.heap.size := (C_ h).1
theorem kk (s pos) (h : w.cell? a = some v) : (w.iter s pos).cell? a = some v := ((aR w s pos).cell (N_ w a h)).trans h
theorem kQ (s pos) (hc : w.cell? a = some v) (h : w.frozen? a = false) : (w.iter s pos).frozen? a = false := ((aR w s pos).frozen (N_ w a hc)).trans h
theorem kR {b : Bool} (h : w.frozen? a = b) : w.drew.frozen? a = b := h
theorem iD (h : w.cell? a = some v) : w.drew.cell? a = some v := h
def ft (w : World) (g : Nat) (rest : ByteArray) (at_ : Int) (v : Value) : Prop := w.heap[g]? = some (.cells #[.string rest, .int .i64 at_, v] 84 (0, 0))
theorem v_ (g rest at_ v n w) (hb : ft w g rest at_ v) (hn : n ≤ rest.size) (hs : rest.size ≤ 1000000) (ha0 : 0 ≤ at_) (ha : at_ ≤ 1000000) :
  Calls prog 50 #[.pointer (some ⟨g, 0, none⟩), .int .i64 n] w fun e w' =>
   e = .returned (.tuple #[]) ∧ ft w' g (rest.extract n rest.size) (at_ + (ai (rest.data.toList.take n)).length) v ∧ Same [g] w w' := by
 have hc0 : w.cell? ⟨g, 0, none⟩ = some (.string rest) := (aa hb 0).trans rfl
 have hc1 : w.cell? ⟨g, 1, none⟩ = some (.int .i64 at_) := (aa hb 1).trans rfl
 have hf0 := af hb 0
 have hf1 := af hb 1
 have HB := hid hb
 clear hb
 have hnz : (n : Int) ≤ rest.size := by omega
 have hz : (runeCount (rest.extract 0 n) : Int) ≤ 1000000 := by have := runeCount_le (rest.extract 0 n); simp at this; omega
 obtain ⟨RC, hRC⟩ := nm_ (runeCount (rest.extract 0 n))
 rw [hRC] at hz
 have hRC' : (ai (rest.data.toList.take n)).length = RC := by rw [← hRC, dy]; congr 2; simp
 have HC : Hid (∀ W, Calls prog 77 #[.string (rest.extract 0 n)] W fun e w' => e = .returned (.int .i64 RC) ∧ ∃ pos, w' = W.iter (rest.extract 0 n) pos) := fun W => by
  rw [← hRC]; exact Tryz.utf8_RuneCountInString _ W (by simp; omega)
 rw [hRC']
 clear hRC hRC'
 go_enter func50, ntmps50
 go_wp2_with fail
 have hsum : IntKind.i64.wrap (at_ + ↑RC) = at_ + ↑RC := IntWalk.i64_in _ (by omega)
 go_region_with (first | (go_at_call 77; refine (HC.out _).mono ?_; rintro e w' ⟨rfl, pos, rfl⟩; have q0 := kk (rest.extract 0 n) pos (iD hc0); have q1 := kk (rest.extract 0 n) pos (iD hc1); have qf0 := kQ (rest.extract 0 n) pos (iD hc0) (kR hf0); have qf1 := kQ (rest.extract 0 n) pos (iD hc1) (kR hf1)))
 all_goals
  go_wp2
  go_end0
  refine ⟨rfl, ?_, ?_⟩
  ·have h1 := bh (v := Value.int .i64 (at_ + ↑RC)) (show (w.drew.iter (rest.extract 0 n) pos).heap[g]? = _ from ((aR w.drew _ pos).block g (ab HB.out)).trans HB.out) 1
   exact bh h1 0 _
  ·refine Same.setCell (Same.setCell ?_ (.inl (by simp)) _) (.inl (by simp)) _
   exact Same.alloc (Same.drew (Same.refl _ _)) _
theorem jz (g : Nat) (rest : ByteArray) (at_ : Int) (v : Value) (n : Int) (w : World) (hb : ft w g rest at_ v) (hn0 : 0 ≤ n) (hn : n ≤ rest.size) (hs : rest.size ≤ 1000000) (ha0 : 0 ≤ at_) (ha : at_ ≤ 1000000) :
  Calls prog 50 #[.pointer (some ⟨g, 0, none⟩), .int .i64 n] w fun e w' =>
   e = .returned (.tuple #[]) ∧ ft w' g (rest.extract n.toNat rest.size) (at_ + (ai (rest.data.toList.take n.toNat)).length) v ∧ Same [g] w w' := by
 obtain ⟨k, rfl⟩ := q_ hn0
 rw [Int.toNat_natCast]
 exact v_ g rest at_ v k w hb (by omega) hs ha0 ha
end Go.Proofs.YtgcfjkfipkfijaaGreatDoor
namespace Go.Proofs.YtgcfjkfipkfijaaGreatDoor
open Go Go.RowKit Tryz
variable {M : List Nat} {xs : List Value} {base n size : Nat} {α : Type} {e : TypeId} {v : Value} {w : World} {d : ax α}
theorem cJ {B w W} (h : Below B w W) (n) : Below B w (W.drewN n) := ⟨h.os, h.tape, h.output, h.size, h.block⟩
theorem eC {B k w W} (h : Below B w W) (hk : B ≤ k) (a b c d) : Below B w ((((W.setCell ⟨k, 0, none⟩ a).setCell ⟨k, 1, none⟩ b).setCell ⟨k, 2, none⟩ c).setCell ⟨k, 3, none⟩ d) :=
 (((h.setCell hk a).setCell hk b).setCell hk c).setCell hk d
theorem nf {A : Option Addr} {xs : List α} (h : d.Row M w A xs) (hp : 0 < xs.length) : ∃ ad, A = some ad := by
 obtain ⟨ad, e, _⟩ := h.2 hp
 exact ⟨ad, e⟩
theorem bY {α β : Type} {f : α → List β} {n} (hf : ∀ x, (f x).length = n) : ∀ (l : List α) (i j : Nat) (h : i < l.length), j < n → (l.flatMap f)[i * n + j]? = (f l[i])[j]?
 | x :: l, 0, j, _, hj => by
  rw [i_, Nat.zero_mul, Nat.zero_add, List.getElem?_append_left (by rw [hf]; exact hj)]
  rfl
 | x :: l, i + 1, j, h, hj => by
  rw [i_, List.getElem?_append_right (by rw [hf, Nat.succ_mul]; omega), hf]
  have : (i + 1) * n + j - n = i * n + j := by rw [Nat.succ_mul]; omega
  rw [this, bY hf l i j (by simpa using h) hj]
  rfl
theorem gw {enc : α → List Value} (hl : ∀ x, (enc x).length = d.sz) {xs : List α}
  (h : w.ownsRow base e d.sz v xs.length (xs.flatMap enc)) (hM : ∀ k, k ∈ M → k < base) (hr : ∀ x, x ∈ xs → d.rep M w x (enc x)) :
  ∃ A c, v = .slice A xs.length c ∧ xs.length ≤ c ∧ d.Row M w A xs := by
 rcases h.2 with ⟨rfl, h0⟩ | ⟨g, cap, cur, rfl, hg, hh, h1, h2, h3, h4⟩
 ·obtain rfl : xs = [] := X_ h0
  exact ⟨none, 0, rfl, H_ _, ax.Row.nil _ _ _ _⟩
 ·refine ⟨_, cap, rfl, h1, by simp only [maxLen] at h2; omega, fun hn => ⟨_, rfl, fun hc => ?_, (C_ hh).1, fun i hi => ⟨enc xs[i], hr _ (g_ hi), fun j u hu => ?_⟩⟩⟩
  ·have := hM _ hc
   simp at this
   omega
  ·have hj : j < d.sz := by
    rw [← hl xs[i]]
    exact (List.getElem?_eq_some_iff.1 hu).1
   exact h.cells (g := g) rfl (i * d.sz + j) u (by rw [bY hl xs i j hi hj]; exact hu)
theorem aG (h : w.ownsRow base e size v n xs) (k) (hk : v.ownBlock = some k) : base ≤ k ∧ k < w.heap.size := by
 rcases h.2 with ⟨rfl, _⟩ | ⟨g, cap, cur, rfl, hb, hh, _⟩
 ·simp [Value.ownBlock] at hk
 ·have : g = k := by simpa [Value.ownBlock] using hk
  subst this
  exact ⟨hb, (C_ hh).1⟩
theorem eU {w w1 base e size v n xs} (h : w.ownsRow base e size v n xs) (hb : Below w.heap.size w w1) : w1.ownsRow base e size v n xs :=
 h.kept (row := none) ⟨hb.os, hb.tape, hb.output, hb.size, fun i hi _ => hb.block i hi⟩ (by cases v.ownBlock <;> simp)
theorem pk {w w1 base M e size v n xs} (h : w.ownsRow base e size v n xs) (hs : Same M w w1) (hM : ∀ k, k ∈ M → k < base) : w1.ownsRow base e size v n xs := by
 refine ⟨h.1, ?_⟩
 rcases h.2 with h' | ⟨g, cap, cur, hv, hg, hh, r⟩
 ·exact .inl h'
 ·exact .inr ⟨g, cap, cur, hv, hg, hs.heap (fun hc => by have := hM _ hc; omega) hh, r⟩
theorem ew (h : w.ownsRow base e size v n xs) {p : Addr} (hp : v.ownBlock ≠ some p.block) (u) : (w.setCell p u).ownsRow base e size v n xs := by
 refine ⟨h.1, ?_⟩
 rcases h.2 with h' | ⟨g, cap, cur, hv, hg, hh, r⟩
 ·exact .inl h'
 ·exact .inr ⟨g, cap, cur, hv, hg, by rw [Below.heap_setCell _ _ _ _ (fun e => hp (by rw [hv, e]; rfl))]; exact hh, r⟩
def po (t : aZ) : List Value := [.int .i64 t.kind, .string t.text, .int .i64 t.n, .int .i64 t.at_]
theorem pr (M w t) : db.rep M w t (po t) := ⟨[_], _, rfl, rfl, [_], _, rfl, rfl, [_], _, rfl, rfl, rfl⟩
theorem pw (t) : (po t).length = db.sz := rfl
end Go.Proofs.YtgcfjkfipkfijaaGreatDoor
namespace Go.Proofs.YtgcfjkfipkfijaaGreatDoor
open Go Go.RowKit Go.Lib Tryz
variable {s : ByteArray} {a b : Int}
abbrev cM (e : Ex) (A : Option Addr) (c : Nat) : Value := .agg #[.int .i64 e.op, .int .i64 e.n, .string e.name, .slice A e.kids.length c]
theorem zS (op w) : Calls prog 172 #[.int .i64 op] w fun e w' => e = .returned (.int .i64 (aH op)) ∧ w' = w := (vV op w).mono (by rintro e w' ⟨rfl, rfl⟩; exact ⟨rfl, rfl⟩)
theorem kS (e : Ex) (A : Option Addr) (c i : Nat) (w : World) (hr : dZ.Row [] w A e.kids) (hi : i < e.kids.length) (_hlc : e.kids.length ≤ c) :
  Calls prog 168 #[cM e A c, .int .i64 i] w fun r w' => r = .returned (.bool (ag e.op e.kids[i].op i)) ∧ Below w.heap.size w w' := by
 obtain ⟨ad, A', c', hA, h0, h1, h2, h3, _, _, _⟩ := vR hr i hi
 subst hA
 obtain ⟨o1, ho1⟩ := nm_ e.op
 obtain ⟨o2, ho2⟩ := nm_ (e.kids[i].op)
 obtain ⟨L, hL⟩ := nm_ e.kids.length
 have HX : Hid (ag o1 o2 i = (decide (aH o2 < aH o1) || (aH o2 == aH o1 && decide (aH o1 < 6) && ((i : Int) == 1 || aH o1 == 3)))) := rfl
 unfold cM
 rw [ho2] at h0
 rw [ho1, ho2, hL]
 rw [hL] at hi
 have hlt := N_ w _ h0
 have hz : (i : Int) < L := by omega
 have hz0 : (0 : Int) ≤ i := by omega
 clear h1 h2 h3 hr ho1 ho2 hL
 go_enter func168, ntmps168
 go_wp2_with fail
 go_quiet ((go_at_call 172; exact Calls.quiet_of_same (zS _ _)))
 go_wp2_with fail
 all_goals
  go_ret
  refine ⟨bS ?_, cJ ((J_ _ _).alloc le_ _) _⟩
  rw [HX.out]
  generalize aH o1 = l1 at *
  generalize aH o2 = l2 at *
  clear HX
  first
  | (simp [*]; done)
  | (simp [*]; omega)
theorem mV {e most} (h : e.op = 0 ∨ e.op = 1) (h2 : 0 < e.kids.length ∨ e.op = 0 ∧ (e.n < 0 ∨ e.name.size ≠ 0) ∨ e.op = 1 ∧ (e.n ≠ 0 ∨ cg e.name = false)) : aK e most = -1 := by
 rw [e.eta, aK, M_ h, M_ h2]
theorem tZ {e most} (h : e.op = 0 ∨ e.op = 1) (h2 : ¬ (0 < e.kids.length ∨ e.op = 0 ∧ (e.n < 0 ∨ e.name.size ≠ 0) ∨ e.op = 1 ∧ (e.n ≠ 0 ∨ cg e.name = false))) : aK e most = 1 := by
 rw [e.eta, aK, M_ h, K_ h2]
theorem wa {e most} (h : ¬ (e.op = 0 ∨ e.op = 1)) (h2 : e.op < 0 ∨ 16 < e.op ∨ e.n ≠ 0 ∨ e.name.size ≠ 0 ∨ e.kids.length ≠ aE e.op ∨ most < 1) : aK e most = -1 := by
 rw [e.eta, aK, K_ h, M_ h2]
theorem t7 {e most} (h : ¬ (e.op = 0 ∨ e.op = 1)) (h2 : ¬ (e.op < 0 ∨ 16 < e.op ∨ e.n ≠ 0 ∨ e.name.size ≠ 0 ∨ e.kids.length ≠ aE e.op ∨ most < 1)) : aK e most = bp e.op e.kids 0 1 most := by
 conv => lhs; rw [e.eta]
 rw [aK, K_ h, K_ h2]
theorem ef (h : s.size ≠ 0) : s.toList.isEmpty = false := by have := fe s; rw [W_ h] at this; simpa using this
theorem dG (h : s.size = 0) : s.toList.isEmpty = true := by have := fe s; rw [V_ (by omega)] at this; simpa using this
theorem px (e A c most w) (hop : e.op = 0 ∨ e.op = 1) (hk : ch e) (hT : bq w) :
  Calls prog 158 #[cM e A c, .int .i64 most] w fun r w' => r = .returned (.int .i64 (aK e most)) ∧ Below w.heap.size w w' := by
 have hnl := hk.name
 have hX1 := mV (e := e) (most := most) hop
 have hX2 := tZ (e := e) (most := most) hop
 unfold cM
 obtain ⟨L, hL⟩ := nm_ e.kids.length
 obtain ⟨o, ho⟩ := nm_ e.op
 obtain ⟨n, hn⟩ := nm_ e.n
 obtain ⟨nm, hnm⟩ := nm_ e.name
 rw [hL, ho, hn, hnm] at hX1 hX2 ⊢
 rw [hnm] at hnl
 rw [ho] at hop
 clear hL ho hn hnm hk
 have HX1 := hid hX1
 have HX2 := hid hX2
 have HN := hid (fun W => vW nm W (by omega))
 have HT := hid hT
 clear hX1 hX2 hT
 by_cases h0 : 0 < L
 ·have h0z : (0 : Int) < L := by omega
  have H := hid (HX1.out (.inl h0))
  clear h0
  rcases hop with rfl | rfl
  all_goals
   go_enter func158, ntmps158
   go_wp2_with fail
   go_ret
   exact ⟨bP H.out.symm, (J_ _ _).alloc le_ _⟩
 ·obtain rfl : L = 0 := by omega
  clear h0
  rcases hop with rfl | rfl
  ·by_cases hn : n < 0
   ·have H := hid (HX1.out (.inr (.inl ⟨rfl, .inl hn⟩)))
    go_enter func158, ntmps158
    go_wp2_with fail
    go_ret
    exact ⟨bP H.out.symm, (J_ _ _).alloc le_ _⟩
   ·have hn' : 0 ≤ n := by omega
    by_cases hm : nm.size = 0
    ·have he := dG hm
     have H := hid (HX2.out (by omega))
     clear hn hm
     go_enter func158, ntmps158
     go_wp2_with fail
     go_ret
     exact ⟨bP H.out.symm, (J_ _ _).alloc le_ _⟩
    ·have he := ef hm
     have H := hid (HX1.out (.inr (.inl ⟨rfl, .inr hm⟩)))
     clear hn hm
     go_enter func158, ntmps158
     go_wp2_with fail
     go_ret
     exact ⟨bP H.out.symm, (J_ _ _).alloc le_ _⟩
  ·by_cases hn : n = 0
   ·subst hn
    have hbz : ∀ W, (w.alloc W).heap.size = (w.alloc W).heap.size := fun _ => rfl
    cases hB : cg nm
    ·have H := hid (HX1.out (.inr (.inr ⟨rfl, .inr hB⟩)))
     rw [hB] at HN
     clear hB
     go_enter func158, ntmps158
     go_wp2_with (go_at_call 167; refine (HN.out _ (HT.out.alloc _)).mono ?_; rintro e w1 ⟨rfl, hb1⟩)
     go_ret
     exact ⟨bP H.out.symm, ((J_ _ _).alloc le_ _).trans (hb1.mono (by simp))⟩
    ·have H := hid (HX2.out (by simp [hB]))
     rw [hB] at HN
     clear hB
     go_enter func158, ntmps158
     go_wp2_with (go_at_call 167; refine (HN.out _ (HT.out.alloc _)).mono ?_; rintro e w1 ⟨rfl, hb1⟩)
     go_ret
     exact ⟨bP H.out.symm, ((J_ _ _).alloc le_ _).trans (hb1.mono (by simp))⟩
   ·have hnb : (n != 0) = true := by rw [bne_iff_ne]; exact hn
    have H := hid (HX1.out (.inr (.inr ⟨rfl, .inl hn⟩)))
    clear hn
    go_enter func158, ntmps158
    go_wp2_with fail
    go_ret
    exact ⟨bP H.out.symm, (J_ _ _).alloc le_ _⟩
theorem aO (h : a ≠ b) : (a == b) = false := A_ h
theorem jA (h : a ≠ b) : (a != b) = true := B_ h
theorem km (h : a = b) : (a != b) = false := by rw [h]; simp
theorem rl (o n : Int) (nm : ByteArray) (ks : List Ex) (A : Option Addr) (c : Nat) (most : Int) (w : World) (hop : ¬ (o = 0 ∨ o = 1)) (hbad : o < 0 ∨ 16 < o ∨ n ≠ 0 ∨ nm.size ≠ 0 ∨ ks.length ≠ aE o ∨ most < 1) :
  Calls prog 158 #[.agg #[.int .i64 o, .int .i64 n, .string nm, .slice A ks.length c], .int .i64 most] w fun r w' => r = .returned (.int .i64 (-1)) ∧ Below w.heap.size w w' := by
 obtain ⟨P, hP⟩ : ∃ P : Int, (aE o : Int) = P := ⟨_, rfl⟩
 have hbad : o < 0 ∨ 16 < o ∨ n ≠ 0 ∨ nm.size ≠ 0 ∨ (ks.length : Int) ≠ P ∨ most < 1 := by
  rcases hbad with h | h | h | h | h | h
  ·exact .inl h
  ·exact .inr (.inl h)
  ·exact .inr (.inr (.inl h))
  ·exact .inr (.inr (.inr (.inl h)))
  ·exact .inr (.inr (.inr (.inr (.inl (by omega)))))
  ·exact .inr (.inr (.inr (.inr (.inr h))))
 have hc : o = 2 ∧ P = 1 ∨ o = 3 ∧ P = 1 ∨ ((o == 0) = false ∧ (o == 1) = false ∧ (o == 2) = false ∧ (o == 3) = false ∧ P = 2) := by
  unfold aE at hP
  by_cases h2 : o = 2
  ·subst h2; exact .inl ⟨rfl, by simp at hP; omega⟩
  ·by_cases h3 : o = 3
   ·subst h3; exact .inr (.inl ⟨rfl, by simp at hP; omega⟩)
   ·exact .inr (.inr ⟨aO (fun e => hop (.inl e)), aO (fun e => hop (.inr e)), aO h2, aO h3, by rw [K_ (by omega)] at hP; omega⟩)
 clear hP hop
 have hwhy : (o < 0) ∨ (0 ≤ o ∧ 16 < o) ∨ (0 ≤ o ∧ o ≤ 16 ∧ (n != 0) = true) ∨ (0 ≤ o ∧ o ≤ 16 ∧ (n != 0) = false ∧ nm.toList.isEmpty = false) ∨
   (0 ≤ o ∧ o ≤ 16 ∧ (n != 0) = false ∧ nm.toList.isEmpty = true ∧ ((ks.length : Int) != P) = true) ∨ (0 ≤ o ∧ o ≤ 16 ∧ (n != 0) = false ∧ nm.toList.isEmpty = true ∧ ((ks.length : Int) != P) = false ∧ most < 1) := by
  by_cases h1 : o < 0
  ·exact .inl h1
  ·by_cases h2 : 16 < o
   ·exact .inr (.inl ⟨by omega, h2⟩)
   ·by_cases h3 : n = 0
    ·by_cases h4 : nm.size = 0
     ·by_cases h5 : (ks.length : Int) = P
      ·exact .inr (.inr (.inr (.inr (.inr ⟨by omega, by omega, km h3, dG h4, km h5, by omega⟩))))
      ·exact .inr (.inr (.inr (.inr (.inl ⟨by omega, by omega, km h3, dG h4, jA h5⟩))))
     ·exact .inr (.inr (.inr (.inl ⟨by omega, by omega, km h3, ef h4⟩)))
    ·exact .inr (.inr (.inl ⟨by omega, by omega, jA h3⟩))
 clear hbad
 rcases hc with ⟨rfl, rfl⟩ | ⟨rfl, rfl⟩ | ⟨b0, b1, b2, b3, rfl⟩
 all_goals
  rcases hwhy with h1 | ⟨h1, h2⟩ | ⟨h1, h2, h3⟩ | ⟨h1, h2, h3, h4⟩ | ⟨h1, h2, h3, h4, h5⟩ | ⟨h1, h2, h3, h4, h5, h6⟩
  all_goals first | (exfalso; omega) | skip
  all_goals
   go_enter func158, ntmps158
   go_wp2_with fail
   go_ret
   exact ⟨rfl, (J_ _ _).alloc le_ _⟩
def iW (w : World) (g : Nat) (A : Option Addr) (n c : Nat) (first : Int) (s : St) : Prop :=
 w.heap[g]? = some (.cells #[.slice A n c, .int .i64 first, .int .i64 s.at_, .int .i64 s.bad] 161 (0, 0))
theorem iW.same {w w' g A n c first s} (h : iW w g A n c first s) (hb : Below w.heap.size w w') : iW w' g A n c first s := bp_ hb h
abbrev wb (t : aZ) : Value := .agg #[.int .i64 t.kind, .string t.text, .int .i64 t.n, .int .i64 t.at_]
theorem py {M w ad ks} (h : db.Row M w (some ad) ks) (k) (hk : k < ks.length) :
  w.cell? (ad.add (k * 4)) = some (.int .i64 ks[k].kind) ∧ w.cell? ⟨(ad.add (k * 4)).block, (ad.add (k * 4)).off + 1, none⟩ = some (.string ks[k].text) ∧
   w.cell? ⟨(ad.add (k * 4)).block, (ad.add (k * 4)).off + 2, none⟩ = some (.int .i64 ks[k].n) ∧ w.cell? ⟨(ad.add (k * 4)).block, (ad.add (k * 4)).off + 3, none⟩ = some (.int .i64 ks[k].at_) := by
 obtain ⟨ad', e, h0, h1, h2, h3, _⟩ := zR h k hk
 injection e with e
 subst e
 exact ⟨h0, h1, h2, h3⟩
theorem aW (l g A c first s w) (hb : iW w g A l.length c first s) (hr : db.Row [g] w A l) (hlc : l.length ≤ c) :
  Calls prog 162 #[.pointer (some ⟨g, 0, none⟩)] w fun r w' => r = .returned (wb (ah l s.at_)) ∧ Below w.heap.size w w' := by
 obtain ⟨at_, bad⟩ := s
 have hc0 : w.cell? ⟨g, 0, none⟩ = some (.slice A l.length c) := (aa hb 0).trans rfl
 have hc2 : w.cell? ⟨g, 2, none⟩ = some (.int .i64 at_) := (aa hb 2).trans rfl
 have hg := ab hb
 have HR := hid hr
 have hm := hr.1
 clear hr hb
 by_cases h1 : at_ < 0
 ·have HX : Hid (ah l at_ = fs) := by unfold ah; rw [M_ (.inl h1)]; exact rfl
  have h1b : decide (at_ < 0) = true := W_ h1
  go_enter func162, ntmps162
  go_wp2_with fail
  go_quiet (fail)
  go_wp2_with fail
  refine L_ (v := .agg #[.int .i64 0, .string ⟨#[]⟩, .int .i64 0, .int .i64 0]) (by simp [results, results162, go_sem]) rfl ⟨by rw [HX.out]; rfl, ?_⟩
  exact eC (cJ ((J_ _ _).alloc le_ _) _) le_ _ _ _ _
 ·by_cases h2 : (l.length : Int) ≤ at_
  ·have HX : Hid (ah l at_ = fs) := by unfold ah; rw [M_ (.inr h2)]; exact rfl
   have h1b : decide (at_ < 0) = false := V_ h1
   have h2b : decide ((l.length : Int) ≤ at_) = true := W_ h2
   go_enter func162, ntmps162
   go_wp2_with fail
   go_quiet (fail)
   go_wp2_with fail
   refine L_ (v := .agg #[.int .i64 0, .string ⟨#[]⟩, .int .i64 0, .int .i64 0]) (by simp [results, results162, go_sem]) rfl ⟨by rw [HX.out]; rfl, ?_⟩
   exact eC (cJ ((J_ _ _).alloc le_ _) _) le_ _ _ _ _
  ·obtain ⟨k, rfl⟩ := q_ (show 0 ≤ at_ by omega)
   have hk : k < l.length := by omega
   obtain ⟨ad, rfl⟩ := nf HR.out (by omega)
   obtain ⟨x0, x1, x2, x3⟩ := py HR.out k hk
   have hlt := N_ w _ x0
   have HX : Hid (ah l (k : Int) = l[k]) := by
    unfold ah
    rw [K_ (by omega), Int.toNat_natCast, S_, R_ hk]
    exact rfl
   have h1b : decide ((k : Int) < 0) = false := V_ h1
   have h2b : decide (l.length ≤ k) = false := V_ (by omega)
   have h2c : decide ((l.length : Int) ≤ (k : Int)) = false := V_ h2
   have hkz : (k : Int) < l.length := by omega
   have hk0 : (0 : Int) ≤ k := by omega
   have hlcz : (l.length : Int) ≤ c := by omega
   clear h1 h2
   go_enter func162, ntmps162
   go_wp2_with fail
   go_quiet (fail)
   go_wp2_with fail
   obtain ⟨w1, hw1⟩ := nm_ ((w.alloc (.cells #[.int .i64 0, .string ⟨#[]⟩, .int .i64 0, .int .i64 0] 60 (0, 0))).drewN nq)
   have hb1 : Below w.heap.size w w1 := hw1 ▸ cJ ((J_ _ _).alloc le_ _) _
   have hbb : w1.heap[w.heap.size]? = some (.cells #[.int .i64 0, .string ⟨#[]⟩, .int .i64 0, .int .i64 0] 60 (0, 0)) := by
    rw [← hw1]; exact I_ _ _
   rw [hw1]
   have q0 := (hb1.cell hg).trans hc0
   have q2 := (hb1.cell hg).trans hc2
   have y0 := (hb1.cell hlt).trans x0
   have y1 := (hb1.cell (N_ w _ x1)).trans x1
   have y2 := (hb1.cell (N_ w _ x2)).trans x2
   have y3 := (hb1.cell (N_ w _ x3)).trans x3
   have z0 := aa hbb 0
   have z1 := aa hbb 1
   have z2 := aa hbb 2
   have z3 := aa hbb 3
   have f0 := af hbb 0
   have f1 := af hbb 1
   have f2 := af hbb 2
   have f3 := af hbb 3
   simp only [List.getElem?_toArray, List.getElem?_cons_zero, List.getElem?_cons_succ] at z0 z1 z2 z3
   have HB := hid hb1
   clear hb1 hbb hw1
   go_region_with (fail)
   all_goals
    go_wp2
    refine L_ (v := wb l[k]) (by simp [results, results162, go_sem, *]) rfl ⟨by rw [HX.out], ?_⟩
    exact Below.drew (eC HB.out le_ _ _ _ _)
theorem ff (g A n c first s w) (hb : iW w g A n c first s) (x) :
  Calls prog 163 #[.pointer (some ⟨g, 0, none⟩), .int .i64 x] w fun r w' => r = .returned (cM dP none 0) ∧ iW w' g A n c first (cz x s) ∧ Same [g] w w' := by
 obtain ⟨at_, bad⟩ := s
 have hc3 : w.cell? ⟨g, 3, none⟩ = some (.int .i64 bad) := (aa hb 3).trans rfl
 have hf3 := af hb 3
 have hg := ab hb
 have HB := hid hb
 clear hb
 by_cases h0 : bad = 0
 ·have hbt : (bad == 0) = true := D_ h0
  have HP : Hid (cz x ⟨at_, bad⟩ = ⟨at_, x⟩) := by unfold cz; rw [M_ h0]; exact rfl
  go_enter func163, ntmps163
  go_wp2_with fail
  refine L_ (v := cM dP none 0) (by simp [results, results163, go_sem, *] <;> exact ⟨rfl, rfl, rfl, rfl⟩) rfl ⟨rfl, ?_, ?_⟩
  ·rw [HP.out]
   exact (((J_ _ _).alloc le_ _).block g (by simpa using hg)).trans (bh HB.out 3 _)
  ·exact (Same.setCell (Same.refl _ _) (.inl (by simp)) _).alloc _
 ·have hbt : (bad == 0) = false := A_ h0
  have HP : Hid (cz x ⟨at_, bad⟩ = ⟨at_, bad⟩) := by unfold cz; rw [K_ h0]; exact rfl
  go_enter func163, ntmps163
  go_wp2_with fail
  refine L_ (v := cM dP none 0) (by simp [results, results163, go_sem, *] <;> exact ⟨rfl, rfl, rfl, rfl⟩) rfl ⟨rfl, ?_, ?_⟩
  ·rw [HP.out]
   exact (((J_ _ _).alloc le_ _).block g hg).trans HB.out
  ·exact (Same.refl _ _).alloc _
theorem bE (g A n c first s w) (hb : iW w g A n c first s) (h1 : first ≤ s.at_) (h2 : s.at_ ≤ first + 64) (h3 : s.at_ < 9223372036854775807) (h4 : -9223372036854775808 ≤ first) :
  Calls prog 148 #[.pointer (some ⟨g, 0, none⟩)] w fun r w' => r = .returned (.bool (ay first s).1) ∧ iW w' g A n c first (ay first s).2 ∧ Same [g] w w' := by
 obtain ⟨at_, bad⟩ := s
 have hc1 : w.cell? ⟨g, 1, none⟩ = some (.int .i64 first) := (aa hb 1).trans rfl
 have hc2 : w.cell? ⟨g, 2, none⟩ = some (.int .i64 at_) := (aa hb 2).trans rfl
 have hf2 := af hb 2
 have hg := ab hb
 simp only at h1 h2 h3
 have HB := hid hb
 clear hb
 have hsub : IntKind.i64.wrap (at_ - first) = at_ - first := IntWalk.i64_in _ (by omega)
 have hadd : IntKind.i64.wrap (at_ + 1) = at_ + 1 := IntWalk.i64_in _ (by omega)
 by_cases h0 : 64 ≤ at_ - first
 ·have hbt : decide (64 ≤ at_ - first) = true := W_ h0
  have HP : Hid (ay first ⟨at_, bad⟩ = (false, cz 2 ⟨at_, bad⟩)) := by unfold ay; rw [M_ h0]; exact rfl
  go_enter func148, ntmps148
  go_wp2_with fail
  go_quiet (fail)
  go_wp2_with fail
  refine (ff g A n c first ⟨at_, bad⟩ _ (HB.out.same (cJ (J_ _ _) _)) 2).mono ?_
  rintro e w2 ⟨rfl, hb2, hs2⟩
  go_wp2_with fail
  refine L_ (v := .bool false) (by simp [results, results148, go_sem, *]) rfl ⟨by rw [HP.out], ?_, ?_⟩
  ·rw [HP.out]; exact hb2
  ·exact ((Same.refl [g] w).drewN nq).trans hs2 (fun _ h => .inl h)
 ·have hbt : decide (64 ≤ at_ - first) = false := V_ h0
  have HP : Hid (ay first ⟨at_, bad⟩ = (true, ⟨at_ + 1, bad⟩)) := by unfold ay; rw [K_ h0]; exact rfl
  go_enter func148, ntmps148
  go_wp2_with fail
  go_quiet (fail)
  go_wp2_with fail
  refine L_ (v := .bool true) (by simp [results, results148, go_sem, *]) rfl ⟨by rw [HP.out], ?_, ?_⟩
  ·rw [HP.out]; exact bh (HB.out.same (cJ (J_ _ _) _)) 2 _
  ·exact Same.setCell ((Same.refl [g] w).drewN nq) (.inl (by simp)) _
abbrev AY : Option Int → Value
 | some op => .tuple #[.int .i64 op, .bool true]
 | none => .tuple #[.int .i64 0, .bool false]
theorem wc (op w) : Calls prog 159 #[.int .i64 op] w fun e w' => e = .returned (.string (aT op)) ∧ w' = w :=
 (lE op w).mono fun _ _ h => ⟨h.1, h.2.symm⟩
theorem cC (l g A c first s w) (hb : iW w g A l.length c first s) (hr : db.Row [g] w A l) (hlc : l.length ≤ c) (a b) (hab : a ≤ b + 1) (hb1 : b ≤ 1000) (ha1 : 0 ≤ a) :
  Calls prog 147 #[.pointer (some ⟨g, 0, none⟩), .int .i64 a, .int .i64 b] w fun r w' => r = .returned (AY (eJ l a b s)) ∧ Below w.heap.size w w' := by
 have HTOK := hid (aW l g A c first s w hb hr hlc)
 obtain ⟨at_, bad⟩ := s
 obtain ⟨ANS, hANS⟩ := nm_ (eJ l a b ⟨at_, bad⟩)
 have HANS := hid hANS
 have hc3 : w.cell? ⟨g, 3, none⟩ = some (.int .i64 bad) := (aa hb 3).trans rfl
 have HC3 := hid hc3
 rw [hANS]
 obtain ⟨t, ht⟩ := nm_ (ah l at_)
 unfold eJ at HANS
 simp only [ht] at HANS HTOK
 clear hr hb hANS hc3
 go_enter func147, ntmps147
 go_wp2_with fail
 refine HTOK.out.mono ?_
 rintro e w1 ⟨rfl, hbl⟩
 have HBL := hid hbl
 clear hbl
 go_wp2_with fail
 obtain ⟨w2, hw2, _, hb2⟩ := alo_ w1 (.cells #[.int .i64 t.kind, .string t.text, .int .i64 t.n, .int .i64 t.at_] 60 (0, 0))
 have HB2 : Hid (Below w.heap.size w w2) := hid (hw2 ▸ HBL.out.alloc (HBL.out.size) _)
 rw [hw2]
 have hk0 : w2.cell? ⟨w1.heap.size, 0, none⟩ = some (.int .i64 t.kind) := (aa hb2 0).trans rfl
 have hk1 : w2.cell? ⟨w1.heap.size, 1, none⟩ = some (.string t.text) := (aa hb2 1).trans rfl
 have hr3 : w2.cell? ⟨g, 3, none⟩ = some (.int .i64 bad) := (HB2.out.cell (p := ⟨g, 3, none⟩) (N_ w _ HC3.out)).trans HC3.out
 have HK0 := hid hk0
 have HK1 := hid hk1
 have HR3 := hid hr3
 obtain ⟨B, hB⟩ := nm_ w1.heap.size
 rw [hB] at HK0 HK1 ⊢
 clear hk0 hk1 hr3 hb2 hw2 hB
 go_loopg [9] ((b + 2 - a).toNat + 1) (fun k s9 w' => ∃ op : Int, s9 = .int .i64 op ∧ 0 ≤ op ∧ op ≤ b + 1 ∧ (b + 1 - op).toNat < k ∧ ra t bad (b - op + 1).toNat op = ANS ∧ Below w2.heap.size w2 w')
 case atStart => exact ⟨a, rfl, ha1, hab, by omega, HANS.out, J_ _ _⟩
 case round =>
  obtain ⟨op, rfl, ho0, hob, hok, hans, hbl⟩ := hrel
  obtain ⟨gk, rfl⟩ := pk_ gk 1 (by omega)
  have HBW := hid hbl
  have HA := hid hans
  have k0 : wr.cell? ⟨B, 0, none⟩ = some (.int .i64 t.kind) := (hbl.cell (p := ⟨B, 0, none⟩) (N_ w2 _ HK0.out)).trans HK0.out
  have k1 : wr.cell? ⟨B, 1, none⟩ = some (.string t.text) := (hbl.cell (p := ⟨B, 1, none⟩) (N_ w2 _ HK1.out)).trans HK1.out
  have r3 : wr.cell? ⟨g, 3, none⟩ = some (.int .i64 bad) := (hbl.cell (p := ⟨g, 3, none⟩) (N_ w2 _ HR3.out)).trans HR3.out
  clear hans hbl
  have hadd : IntKind.i64.wrap (op + 1) = op + 1 := IntWalk.i64_in _ (by omega)
  by_cases hle : op ≤ b
  ·have hleb : decide (op ≤ b) = true := W_ hle
   obtain ⟨n, hn⟩ : ∃ n, (b - op + 1).toNat = n + 1 := ⟨(b - op).toNat, by omega⟩
   have hn' : (b - (op + 1) + 1).toNat = n := by omega
   have h := HA.out
   rw [hn, ra] at h
   by_cases hk : t.kind = 4
   ·have hkb : (t.kind == 4) = true := D_ hk
    by_cases hbad : bad = 0
    ·have hbb : (bad == 0) = true := D_ hbad
     rw [M_ ⟨hk, hbad⟩] at h
     obtain ⟨q, hq⟩ := nm_ (dE (aT op) t.text)
     have hq' : ((aT op).toList == t.text.toList) = q := by rw [Lib.toList_data, Lib.toList_data]; exact hq
     rw [hq] at h
     have HE := hid h
     clear h hk hbad hle hq
     cases q
     ·go_wp2_with fail
      go_quiet ((go_at_call 159; exact Calls.quiet_of_same (wc op _)))
      go_wp2_with fail
      go_roundg gk
      case measure => omega
      case rel =>
       refine ⟨op + 1, rfl, by omega, by omega, by omega, ?_, cJ HBW.out _⟩
       rw [hn']
       simpa using HE.out
     ·go_wp2_with fail
      go_quiet ((go_at_call 159; exact Calls.quiet_of_same (wc op _)))
      go_wp2_with fail
      refine L_ (results_tmp2 rfl _ _ _) rfl ⟨?_, HB2.out.trans (cJ (HBW.out.mono HB2.out.size) _)⟩
      have h : some op = ANS := by simpa using HE.out
      rw [← h]
      exact rfl
    ·have hbb : (bad == 0) = false := A_ hbad
     rw [K_ (fun h => hbad h.2)] at h
     have HE := hid h
     clear h hle
     go_wp2_with fail
     refine L_ (results_tmp2 rfl _ _ _) rfl ⟨?_, HB2.out.trans (HBW.out.mono HB2.out.size)⟩
     rw [← HE.out]; exact rfl
   ·have hkb : (t.kind == 4) = false := A_ hk
    rw [K_ (fun h => hk h.1)] at h
    have HE := hid h
    clear h hle
    go_wp2_with fail
    refine L_ (results_tmp2 rfl _ _ _) rfl ⟨?_, HB2.out.trans (HBW.out.mono HB2.out.size)⟩
    rw [← HE.out]; exact rfl
  ·have hleb : decide (op ≤ b) = false := V_ hle
   have h := HA.out
   rw [show (b - op + 1).toNat = 0 by omega, ra] at h
   have HE := hid h
   clear h
   go_wp2_with fail
   refine L_ (results_tmp2 rfl _ _ _) rfl ⟨?_, HB2.out.trans (HBW.out.mono HB2.out.size)⟩
   rw [← HE.out]; exact rfl
end Go.Proofs.YtgcfjkfipkfijaaGreatDoor
