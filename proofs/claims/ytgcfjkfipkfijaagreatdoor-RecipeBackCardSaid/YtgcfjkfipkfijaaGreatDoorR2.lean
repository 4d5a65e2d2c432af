/- Walks: the reader's next operator. -/
import Derived.Test.YtgcfjkfipkfijaaGreatDoorR1
import Derived.BigQuiet
namespace Go.Proofs.YtgcfjkfipkfijaaGreatDoor
open Go Go.RowKit Go.Lib

abbrev isV : Option Int → Value
  | some op => .tuple #[.int .i64 op, .bool true]
  | none => .tuple #[.int .i64 0, .bool false]
theorem sign_q (op : Int) (w : World) : Calls Tryz.prog 159 #[.int .i64 op] w fun e w' => e = .returned (.string (eSign op)) ∧ w' = w :=
  (sign_any op w).mono fun _ _ h => ⟨h.1, h.2.symm⟩
set_option maxHeartbeats 2000000 in
theorem ris_any (l : List Tok) (g : Nat) (A : Option Addr) (c : Nat) (first : Int) (s : St) (w : World) (hb : RdB w g A l.length c first s) (hr : tokK.Row [g] w A l) (hlc : l.length ≤ c) (a b : Int) (hab : a ≤ b + 1) (hb1 : b ≤ 1000) (ha1 : 0 ≤ a) :
    Calls Tryz.prog 147 #[.pointer (some ⟨g, 0, none⟩), .int .i64 a, .int .i64 b] w fun r w' => r = .returned (isV (isP l a b s)) ∧ Below w.heap.size w w' := by
  have HTOK := Lib.hid (rtoken_any l g A c first s w hb hr hlc)
  obtain ⟨at_, bad⟩ := s
  obtain ⟨ANS, hANS⟩ : ∃ r, isP l a b ⟨at_, bad⟩ = r := ⟨_, rfl⟩
  have HANS := Lib.hid hANS
  have hc3 : w.cell? ⟨g, 3, none⟩ = some (.int .i64 bad) := (blk_cell hb 3).trans rfl
  have HC3 := Lib.hid hc3
  rw [hANS]
  obtain ⟨t, ht⟩ : ∃ t, tokAt l at_ = t := ⟨_, rfl⟩
  unfold isP at HANS
  simp only [ht] at HANS HTOK
  clear hr hb hANS hc3
  go_enter Tryz.func147, Tryz.ntmps147
  go_wp2_with fail
  refine HTOK.out.mono ?_
  rintro e w1 ⟨rfl, hbl⟩
  have HBL := Lib.hid hbl
  clear hbl
  go_wp2_with fail
  obtain ⟨w2, hw2⟩ : ∃ w2, w1.alloc (.cells #[.int .i64 t.kind, .string t.text, .int .i64 t.n, .int .i64 t.at_] 60 (0, 0)) = w2 := ⟨_, rfl⟩
  have hb2 : w2.heap[w1.heap.size]? = some (.cells #[.int .i64 t.kind, .string t.text, .int .i64 t.n, .int .i64 t.at_] 60 (0, 0)) := by
    rw [← hw2]; exact heap_alloc_new _ _
  have HB2 : Hid (Below w.heap.size w w2) := Lib.hid (hw2 ▸ HBL.out.alloc (HBL.out.size) _)
  rw [hw2]
  have hk0 : w2.cell? ⟨w1.heap.size, 0, none⟩ = some (.int .i64 t.kind) := (blk_cell hb2 0).trans rfl
  have hk1 : w2.cell? ⟨w1.heap.size, 1, none⟩ = some (.string t.text) := (blk_cell hb2 1).trans rfl
  have hr3 : w2.cell? ⟨g, 3, none⟩ = some (.int .i64 bad) := (HB2.out.cell (p := ⟨g, 3, none⟩) (World.block_lt_of_cell? w _ HC3.out)).trans HC3.out
  have HK0 := Lib.hid hk0
  have HK1 := Lib.hid hk1
  have HR3 := Lib.hid hr3
  obtain ⟨B, hB⟩ : ∃ B, w1.heap.size = B := ⟨_, rfl⟩
  rw [hB] at HK0 HK1 ⊢
  clear hk0 hk1 hr3 hb2 hw2 hB
  go_loopg [9] ((b + 2 - a).toNat + 1) (fun k s9 w' => ∃ op : Int, s9 = .int .i64 op ∧ 0 ≤ op ∧ op ≤ b + 1 ∧ (b + 1 - op).toNat < k ∧ isF t bad (b - op + 1).toNat op = ANS ∧ Below w2.heap.size w2 w')
  case atStart => exact ⟨a, rfl, ha1, hab, by omega, HANS.out, Below.refl _ _⟩
  case round =>
    obtain ⟨op, rfl, ho0, hob, hok, hans, hbl⟩ := hrel
    obtain ⟨gk, rfl⟩ : ∃ k, gk = k + 1 := ⟨gk - 1, by omega⟩
    have HBW := Lib.hid hbl
    have HA := Lib.hid hans
    have k0 : wr.cell? ⟨B, 0, none⟩ = some (.int .i64 t.kind) := (hbl.cell (p := ⟨B, 0, none⟩) (World.block_lt_of_cell? w2 _ HK0.out)).trans HK0.out
    have k1 : wr.cell? ⟨B, 1, none⟩ = some (.string t.text) := (hbl.cell (p := ⟨B, 1, none⟩) (World.block_lt_of_cell? w2 _ HK1.out)).trans HK1.out
    have r3 : wr.cell? ⟨g, 3, none⟩ = some (.int .i64 bad) := (hbl.cell (p := ⟨g, 3, none⟩) (World.block_lt_of_cell? w2 _ HR3.out)).trans HR3.out
    clear hans hbl
    have hadd : IntKind.i64.wrap (op + 1) = op + 1 := IntWalk.i64_in _ (by omega)
    by_cases hle : op ≤ b
    · have hleb : decide (op ≤ b) = true := decide_eq_true hle
      obtain ⟨n, hn⟩ : ∃ n, (b - op + 1).toNat = n + 1 := ⟨(b - op).toNat, by omega⟩
      have hn' : (b - (op + 1) + 1).toNat = n := by omega
      have h := HA.out
      rw [hn, isF] at h
      by_cases hk : t.kind = 4
      · have hkb : (t.kind == 4) = true := beq_iff_eq.2 hk
        by_cases hbad : bad = 0
        · have hbb : (bad == 0) = true := beq_iff_eq.2 hbad
          rw [if_pos ⟨hk, hbad⟩] at h
          obtain ⟨q, hq⟩ : ∃ q, seq (eSign op) t.text = q := ⟨_, rfl⟩
          have hq' : ((eSign op).toList == t.text.toList) = q := by rw [Lib.toList_data, Lib.toList_data]; exact hq
          rw [hq] at h
          have HE := Lib.hid h
          clear h hk hbad hle hq
          cases q
          · go_wp2_with fail
            go_quiet ((go_at_call 159; exact Calls.quiet_of_same (sign_q op _)))
            go_wp2_with fail
            go_roundg gk
            case measure => omega
            case rel =>
              refine ⟨op + 1, rfl, by omega, by omega, by omega, ?_, below_drewN HBW.out _⟩
              rw [hn']
              simpa using HE.out
          · go_wp2_with fail
            go_quiet ((go_at_call 159; exact Calls.quiet_of_same (sign_q op _)))
            go_wp2_with fail
            refine bodyPost_ret (results_tmp2 rfl _ _ _) rfl ⟨?_, HB2.out.trans (below_drewN (HBW.out.mono HB2.out.size) _)⟩
            have h : some op = ANS := by simpa using HE.out
            rw [← h]
            exact rfl
        · have hbb : (bad == 0) = false := beq_eq_false_iff_ne.2 hbad
          rw [if_neg (fun h => hbad h.2)] at h
          have HE := Lib.hid h
          clear h hle
          go_wp2_with fail
          refine bodyPost_ret (results_tmp2 rfl _ _ _) rfl ⟨?_, HB2.out.trans (HBW.out.mono HB2.out.size)⟩
          rw [← HE.out]; exact rfl
      · have hkb : (t.kind == 4) = false := beq_eq_false_iff_ne.2 hk
        rw [if_neg (fun h => hk h.1)] at h
        have HE := Lib.hid h
        clear h hle
        go_wp2_with fail
        refine bodyPost_ret (results_tmp2 rfl _ _ _) rfl ⟨?_, HB2.out.trans (HBW.out.mono HB2.out.size)⟩
        rw [← HE.out]; exact rfl
    · have hleb : decide (op ≤ b) = false := decide_eq_false hle
      have h := HA.out
      rw [show (b - op + 1).toNat = 0 by omega, isF] at h
      have HE := Lib.hid h
      clear h
      go_wp2_with fail
      refine bodyPost_ret (results_tmp2 rfl _ _ _) rfl ⟨?_, HB2.out.trans (HBW.out.mono HB2.out.size)⟩
      rw [← HE.out]; exact rfl
end Go.Proofs.YtgcfjkfipkfijaaGreatDoor
