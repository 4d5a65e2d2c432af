/- Any tree is filled as the document says, and comes to the same: the statement. -/
import Derived.Test.YtgaiheojlmebaaaGreatDoorI7
import Derived.Test.YtgaiheojlmebaaaGreatDoorO1
import Derived.OpenShut
import Derived.ChangeMaps5
namespace Go.Proofs.YtgaiheojlmebaaaGreatDoor
open Go Go.RowKit Go.ChangeShapes Go.WideShapes

set_option maxRecDepth 100000 in
/-- Cells that come in. -/
theorem cels_arg {H : Type} {enc : TypeId × Value → H} {W : World} {r : Reach} {b0 : Nat} {v : Value} {d : DataW H} {ps : List MemPlace} (hv : Value.okWide Tryz.prog W r b0 32 v) (h : DataW.Trod enc Tryz.prog W 0 (fun _ => true) true 32 v d ps) (hw : Light8 32 d) :
    ∃ (l : List Cel) (A : Option Addr) (c : Nat), v = .slice A l.length c ∧ l.length ≤ c ∧ celK.Row [] W A l ∧ ∀ x, x ∈ l → CelIn x := by
  obtain ⟨a, len, cap, rfl⟩ := okWide_slice (P := Tryz.prog) Tryz.underlying32 hv
  obtain ⟨fuel, hf⟩ := h
  have hf' : Reads8 enc W fuel 32 [.slice a len cap] (d, ps) := hf
  have hw' : Light8 32 ((d, ps) : DataW H × List MemPlace).1 := hw
  obtain ⟨xs, A, c, h3, hc, hr, hk, _⟩ := row_open celK (Q := CelIn) Tryz.underlying32 cells_cel (by decide) (fun n _ cs x hx hw => cel_open n cs x hx hw) hf' hw'
  exact ⟨xs, A, c, (List.cons.inj h3).1, hc, hr, hk⟩

theorem fills_witness (os : Os) {H : Type} (enc : TypeId × Value → H) :
    (OpenSpec.ofChange Rows.exprFillsSpec).preRow enc Tryz.prog Tryz.f4 Rows.exprFillsRow.domain false Rows.exprFillsRow.laid ((laidWorld os).forCall (fun _ _ => 0) ⟨#[], #[.agg #[.int .i64 0, .int .i64 0, .string ⟨#[]⟩, .slice none 0 0], .slice none 0 0], []⟩).memory #[.agg #[.int .i64 0, .int .i64 0, .string ⟨#[]⟩, .slice none 0 0], .slice none 0 0] := by
  have hw : (DataW.whole enc Tryz.prog ((laidWorld os).forCall (fun _ _ => 0) ⟨#[], #[.agg #[.int .i64 0, .int .i64 0, .string ⟨#[]⟩, .slice none 0 0], .slice none 0 0], []⟩).memory Tryz.f4.params.toList (OpenSpec.ofChange Rows.exprFillsSpec).vars false #[Value.agg #[.int .i64 0, .int .i64 0, .string ⟨#[]⟩, .slice none 0 0], Value.slice none 0 0].toList 8).map (fun x => (x.1, x.2.1)) =
      some ([.agg [.lit (.int .i64 0), .lit (.int .i64 0), .lit (.string []), .nil], .nil], []) := by kernel_rfl
  obtain ⟨⟨x1, x2, x3⟩, hx, hx1⟩ := Option.map_eq_some_iff.1 hw
  simp only [Prod.mk.injEq] at hx1
  obtain ⟨rfl, rfl⟩ := hx1
  exact OpenSpec.preRow_of_cond 8 hx (by kernel_rfl) (fun k hk => by cases hk) (by kernel_rfl) (laid_met os _)

set_option maxRecDepth 100000 in
theorem fills_lifted (os : Os) (started : os.Started) (H : Type) (enc : TypeId × Value → H) (F : Stop.Interp) :
    ReturnsInHanded {} Tryz.checked os 4 .any ((OpenSpec.ofChange Rows.exprFillsSpec).preRow enc Tryz.prog Tryz.f4 Rows.exprFillsRow.domain false Rows.exprFillsRow.laid)
      (((OpenSpec.ofChange Rows.exprFillsSpec).at F).post enc Tryz.prog Tryz.f4 false true false false) := by
  refine returnsInHanded_of_row (C := Tryz.checked) (s := OpenSpec.ofChange Rows.exprFillsSpec) own started (by kernel_rfl) Tryz.func4
    (witness_row_atRef (enc := enc) (C := Tryz.checked) false (laidWorld os) #[.agg #[.int .i64 0, .int .i64 0, .string ⟨#[]⟩, .slice none 0 0], .slice none 0 0] rfl (by kernel_rfl) (by kernel_rfl) (by kernel_rfl) (fills_witness os enc)) ?_
  intro W base args ds gs before hval0 hW _ _ hz hL hsh _
  have hval : ∀ (j : Nat) t v, Tryz.f4.params[j]? = some t → args[j]? = some v → Value.okWide Tryz.prog W .any base t v := hval0
  have hW' := hW
  obtain ⟨p, q, hA0, hV0, rfl, _, _⟩ := hW
  have hA : DataW.TrodAll enc Tryz.prog W 0 (fun _ => true) true Tryz.f4.params.toList args.toList ds p := hA0
  rw [Tryz.params4] at hA hval hz
  obtain ⟨v0, v1, d0, d1, p0, p1, rfl, rfl, rfl, h0, h1⟩ := trodAll_two hA
  obtain ⟨rfl, rfl⟩ := trodVars_none hV0
  have hz1 : (DataW.weightsEach Tryz.prog ([24, 32] ++ []) ([d0, d1] ++ [])).all (fun n => decide (n ≤ reachBytes)) = true := hz
  have hz3 : Light8 24 d0 ∧ Light8 32 d1 := by
    unfold Light8
    simpa [DataW.weightsEach] using hz1
  obtain ⟨hz2, hz4⟩ := hz3
  obtain ⟨e, A, c, rfl, hc, hr, hk⟩ := ex_arg (hval 0 24 v0 rfl rfl) h0 hz2
  obtain ⟨l, B, b, rfl, hb, hl, hf⟩ := cels_arg (hval 1 32 v1 rfl rfl) h1 hz4
  clear hA0 hV0 hval0 hz hz1
  simp only [List.append_nil] at hW'
  have hlt0 : ∀ x ∈ p0, x.block < W.heap.size := fun x hx => by simpa using hW'.lt x (by simp [hx])
  have hlt1 : ∀ x ∈ p1, x.block < W.heap.size := fun x hx => by simpa using hW'.lt x (by simp [hx])
  refine (fills_any l B b e A c W (tabs_of hL hsh) hk hr hc hl hb (fun x hx => (hf x hx).n)).mono ?_
  rintro r W' ⟨rfl, bel⟩
  have e1 : ((OpenSpec.ofChange Rows.exprFillsSpec).at F).fn H ([d0, d1] ++ []) = { results := [.lit (.bool true)], args := [d0, d1] } := rfl
  refine ⟨_, rfl, _, _, _, [], p0 ++ p1, [], hW', ?_, ?_, ?_, bel.frame _, fun h => by cases h⟩
  · rw [e1]; exact trodAll_mk1 (shut_bool Tryz.underlying4 true)
  · rw [e1]
    exact trodAll_mk2 (Below.trod laidOut (by kernel_rfl) (of_decide_eq_true (by kernel_rfl)) h0 bel hlt0) (Below.trod laidOut (by kernel_rfl) (of_decide_eq_true (by kernel_rfl)) h1 bel hlt1)
  · rw [e1]; rfl

theorem fills_holds : Rows.ExprFillsSaid :=
  OpenClaim.holds_of_cond 4 Tryz.f4 rfl rfl rfl rfl rfl rfl rfl ⟨rfl, rfl, rfl, rfl, rfl⟩ rfl rfl rfl rfl rfl (by kernel_rfl) Tryz.func4 (by kernel_rfl)
    (of_decide_eq_true (by kernel_rfl)) (by unfold Func.isWrapper; rw [if_neg (of_decide_eq_false (by kernel_rfl))]; exact ⟨rfl, rfl⟩)
    (fun os started H enc _ F0 => by rw [OpenClaim.pre_eq_preRow]; exact fills_lifted os started H enc F0)

theorem fills_card : Rows.ExprFillsCardSaid :=
  Claim7.holds_tied_plain_at .later [] [.data, .data, .data, .data, .pinned] true (true, "762f3ddc65ba64c3bdfdf8a468a210e2cc16db127b131ee42487fd71f493d30a") false
    fills_holds (fun _ h => by cases h) (by kernel_rfl) (fun _ h => by cases h) exprFills_row_tie rfl ⟨rfl, rfl⟩ (by kernel_rfl) rfl
    (fun f fn hf hfn => by
      obtain rfl : f = 4 := Option.some.inj ((show Tryz.prog.funcNamed "malthouse/malthouselaw02.ExprFills" = some 4 by kernel_rfl).symm.trans hf) |>.symm
      obtain rfl : fn = Tryz.f4 := (Option.some.inj (Tryz.func4.symm.trans hfn)).symm
      exact ⟨by kernel_rfl, fun j t ht => by
        rw [Tryz.params4] at ht
        have h3 : t = 24 ∨ t = 32 := by
          rcases j with _ | _ | j
          · exact .inl (by simpa using ht.symm)
          · exact .inr (by simpa using ht.symm)
          · simp at ht
        rcases h3 with rfl | rfl
        · exact (show Tryz.prog.wantsStandIn 24 = false by kernel_rfl)
        · exact (show Tryz.prog.wantsStandIn 32 = false by kernel_rfl)⟩)
    (by kernel_rfl)
#print axioms fills_card
end Go.Proofs.YtgaiheojlmebaaaGreatDoor
