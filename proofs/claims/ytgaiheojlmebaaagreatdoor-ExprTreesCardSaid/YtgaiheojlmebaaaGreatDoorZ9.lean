/- Any tree may be, or not, has the text, and the names, that the document says: the statement. -/
import Derived.Test.YtgaiheojlmebaaaGreatDoorZ8
import Derived.Test.YtgaiheojlmebaaaGreatDoorO1
import Derived.OpenShut
import Derived.ChangeMaps5
namespace Go.Proofs.YtgaiheojlmebaaaGreatDoor
open Go Go.RowKit Go.ChangeShapes Go.WideShapes

theorem trees_witness (os : Os) {H : Type} (enc : TypeId × Value → H) :
    (OpenSpec.ofChange Rows.exprTreesSpec).preRow enc Tryz.prog Tryz.f3 Rows.exprTreesRow.domain false Rows.exprTreesRow.laid ((laidWorld os).forCall (fun _ _ => 0) ⟨#[], #[.agg #[.int .i64 0, .int .i64 0, .string ⟨#[]⟩, .slice none 0 0]], []⟩).memory #[.agg #[.int .i64 0, .int .i64 0, .string ⟨#[]⟩, .slice none 0 0]] := by
  have hw : (DataW.whole enc Tryz.prog ((laidWorld os).forCall (fun _ _ => 0) ⟨#[], #[.agg #[.int .i64 0, .int .i64 0, .string ⟨#[]⟩, .slice none 0 0]], []⟩).memory Tryz.f3.params.toList (OpenSpec.ofChange Rows.exprTreesSpec).vars false #[Value.agg #[.int .i64 0, .int .i64 0, .string ⟨#[]⟩, .slice none 0 0]].toList 8).map (fun x => (x.1, x.2.1)) =
      some ([.agg [.lit (.int .i64 0), .lit (.int .i64 0), .lit (.string []), .nil]], []) := by kernel_rfl
  obtain ⟨⟨x1, x2, x3⟩, hx, hx1⟩ := Option.map_eq_some_iff.1 hw
  simp only [Prod.mk.injEq] at hx1
  obtain ⟨rfl, rfl⟩ := hx1
  exact OpenSpec.preRow_of_cond 8 hx (by kernel_rfl) (fun k hk => by cases hk) (by kernel_rfl) (laid_met os _)

set_option maxRecDepth 100000 in
theorem trees_lifted (os : Os) (started : os.Started) (H : Type) (enc : TypeId × Value → H) (F : Stop.Interp) :
    ReturnsInHanded {} Tryz.checked os 3 .any ((OpenSpec.ofChange Rows.exprTreesSpec).preRow enc Tryz.prog Tryz.f3 Rows.exprTreesRow.domain false Rows.exprTreesRow.laid)
      (((OpenSpec.ofChange Rows.exprTreesSpec).at F).post enc Tryz.prog Tryz.f3 false true false false) := by
  refine returnsInHanded_of_row (C := Tryz.checked) (s := OpenSpec.ofChange Rows.exprTreesSpec) own started (by kernel_rfl) Tryz.func3
    (witness_row_atRef (enc := enc) (C := Tryz.checked) false (laidWorld os) #[.agg #[.int .i64 0, .int .i64 0, .string ⟨#[]⟩, .slice none 0 0]] rfl (by kernel_rfl) (by kernel_rfl) (by kernel_rfl) (trees_witness os enc)) ?_
  intro W base args ds gs before hval0 hW _ _ hz hL hsh _
  have hval : ∀ (j : Nat) t v, Tryz.f3.params[j]? = some t → args[j]? = some v → Value.okWide Tryz.prog W .any base t v := hval0
  have hW' := hW
  obtain ⟨p, q, hA0, hV0, rfl, _, _⟩ := hW
  have hA : DataW.TrodAll enc Tryz.prog W 0 (fun _ => true) true Tryz.f3.params.toList args.toList ds p := hA0
  rw [Tryz.params3] at hA hval hz
  obtain ⟨v0, d0, rfl, rfl, h0⟩ := trodAll_one hA
  obtain ⟨rfl, rfl⟩ := trodVars_none hV0
  have hz1 : (DataW.weightsEach Tryz.prog ([24] ++ []) ([d0] ++ [])).all (fun n => decide (n ≤ reachBytes)) = true := hz
  have hz2 : Light8 24 d0 := by unfold Light8; simpa [DataW.weightsEach] using hz1
  obtain ⟨e, A, c, rfl, hc, hr, hk⟩ := ex_arg (hval 0 24 v0 rfl rfl) h0 hz2
  clear hA0 hV0 hval0 hz hz1
  simp only [List.append_nil] at hW'
  have hlt : ∀ x ∈ p, x.block < W.heap.size := fun x hx => by simpa using hW'.lt x hx
  refine (trees_any e A c W (tabs_of hL hsh) hk hr hc).mono ?_
  rintro r W' ⟨rfl, bel⟩
  have e1 : ((OpenSpec.ofChange Rows.exprTreesSpec).at F).fn H ([d0] ++ []) = { results := [.lit (.bool true)], args := [d0] } := rfl
  refine ⟨_, rfl, _, _, _, [], p, [], hW', ?_, ?_, ?_, bel.frame _, fun h => by cases h⟩
  · rw [e1]; exact trodAll_mk1 (shut_bool Tryz.underlying4 true)
  · rw [e1]; exact trodAll_mk1 (Below.trod laidOut (by kernel_rfl) (of_decide_eq_true (by kernel_rfl)) h0 bel hlt)
  · rw [e1]; rfl

theorem trees_holds : Rows.ExprTreesSaid :=
  OpenClaim.holds_of_cond 3 Tryz.f3 rfl rfl rfl rfl rfl rfl rfl ⟨rfl, rfl, rfl, rfl, rfl⟩ rfl rfl rfl rfl rfl (by kernel_rfl) Tryz.func3 (by kernel_rfl)
    (of_decide_eq_true (by kernel_rfl)) (by unfold Func.isWrapper; rw [if_neg (of_decide_eq_false (by kernel_rfl))]; exact ⟨rfl, rfl⟩)
    (fun os started H enc _ F0 => by rw [OpenClaim.pre_eq_preRow]; exact trees_lifted os started H enc F0)

theorem trees_card : Rows.ExprTreesCardSaid :=
  Claim7.holds_tied_plain_at .later [] [.data, .data, .data, .data, .pinned] true (true, "762f3ddc65ba64c3bdfdf8a468a210e2cc16db127b131ee42487fd71f493d30a") false
    trees_holds (fun _ h => by cases h) (by kernel_rfl) (fun _ h => by cases h) exprTrees_row_tie rfl ⟨rfl, rfl⟩ (by kernel_rfl) rfl
    (fun f fn hf hfn => by
      obtain rfl : f = 3 := Option.some.inj ((show Tryz.prog.funcNamed "malthouse/malthouselaw02.ExprTrees" = some 3 by kernel_rfl).symm.trans hf) |>.symm
      obtain rfl : fn = Tryz.f3 := (Option.some.inj (Tryz.func3.symm.trans hfn)).symm
      exact ⟨by kernel_rfl, fun j t ht => by
        rw [Tryz.params3] at ht
        have h3 : t = 24 := by
          rcases j with _ | j
          · simpa using ht.symm
          · simp at ht
        subst h3
        exact (show Tryz.prog.wantsStandIn 24 = false by kernel_rfl)⟩)
    (by kernel_rfl)
#print axioms trees_card
end Go.Proofs.YtgaiheojlmebaaaGreatDoor
