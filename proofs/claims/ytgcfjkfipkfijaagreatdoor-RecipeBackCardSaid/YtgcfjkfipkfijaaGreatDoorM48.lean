/- The text of any recipe that may be is that recipe: the statement. -/
import Derived.Test.YtgcfjkfipkfijaaGreatDoorM47
import Derived.Test.YtgcfjkfipkfijaaGreatDoorO1
import Derived.OpenShut
import Derived.ChangeMaps5
namespace Go.Proofs.YtgcfjkfipkfijaaGreatDoor
open Go Go.RowKit Go.ChangeShapes Go.WideShapes

theorem rback_witness (os : Os) {H : Type} (enc : TypeId × Value → H) :
    (OpenSpec.ofChange Rows.recipeBackSpec).preRow enc Tryz.prog Tryz.f4 Rows.recipeBackRow.domain false Rows.recipeBackRow.laid ((laidWorld os).forCall (fun _ _ => 0) ⟨#[], #[.agg #[.string ⟨#[]⟩, .slice none 0 0, .slice none 0 0]], []⟩).memory #[.agg #[.string ⟨#[]⟩, .slice none 0 0, .slice none 0 0]] := by
  have hw : (DataW.whole enc Tryz.prog ((laidWorld os).forCall (fun _ _ => 0) ⟨#[], #[.agg #[.string ⟨#[]⟩, .slice none 0 0, .slice none 0 0]], []⟩).memory Tryz.f4.params.toList (OpenSpec.ofChange Rows.recipeBackSpec).vars false #[Value.agg #[.string ⟨#[]⟩, .slice none 0 0, .slice none 0 0]].toList 8).map (fun x => (x.1, x.2.1)) =
      some ([.agg [.lit (.string []), .nil, .nil]], []) := by kernel_rfl
  obtain ⟨⟨x1, x2, x3⟩, hx, hx1⟩ := Option.map_eq_some_iff.1 hw
  simp only [Prod.mk.injEq] at hx1
  obtain ⟨rfl, rfl⟩ := hx1
  exact OpenSpec.preRow_of_cond 8 hx (by kernel_rfl) (fun k hk => by cases hk) (by kernel_rfl) (laid_met os _)
set_option maxRecDepth 100000 in
theorem rback_lifted (os : Os) (started : os.Started) (H : Type) (enc : TypeId × Value → H) (F : Stop.Interp) :
    ReturnsInHanded {} Tryz.checked os 4 .any ((OpenSpec.ofChange Rows.recipeBackSpec).preRow enc Tryz.prog Tryz.f4 Rows.recipeBackRow.domain false Rows.recipeBackRow.laid)
      (((OpenSpec.ofChange Rows.recipeBackSpec).at F).post enc Tryz.prog Tryz.f4 false true false false) := by
  refine returnsInHanded_of_row (C := Tryz.checked) (s := OpenSpec.ofChange Rows.recipeBackSpec) own started (by kernel_rfl) Tryz.func4
    (witness_row_atRef (enc := enc) (C := Tryz.checked) false (laidWorld os) #[.agg #[.string ⟨#[]⟩, .slice none 0 0, .slice none 0 0]] rfl (by kernel_rfl) (by kernel_rfl) (by kernel_rfl) (rback_witness os enc)) ?_
  intro W base args ds gs before hval0 hW _ _ hz hL hsh _
  have hval : ∀ (j : Nat) t v, Tryz.f4.params[j]? = some t → args[j]? = some v → Value.okWide Tryz.prog W .any base t v := hval0
  have hW' := hW
  obtain ⟨p, q, hA0, hV0, rfl, _, _⟩ := hW
  have hA : DataW.TrodAll enc Tryz.prog W 0 (fun _ => true) true Tryz.f4.params.toList args.toList ds p := hA0
  rw [Tryz.params4] at hA hval hz
  obtain ⟨v0, d0, rfl, rfl, h0⟩ := trodAll_one hA
  obtain ⟨rfl, rfl⟩ := trodVars_none hV0
  have hz1 : (DataW.weightsEach Tryz.prog ([26] ++ []) ([d0] ++ [])).all (fun n => decide (n ≤ reachBytes)) = true := hz
  have hz2 : Light8 26 d0 := by unfold Light8; simpa [DataW.weightsEach] using hz1
  obtain ⟨e, pA, pc, nA, nc, rfl, hr, hk⟩ := rec_arg (hval 0 26 v0 rfl rfl) h0 hz2
  clear hA0 hV0 hval0 hz hz1
  simp only [List.append_nil] at hW'
  have hlt : ∀ x ∈ p, x.block < W.heap.size := fun x hx => by simpa using hW'.lt x hx
  refine (rback_any e pA pc nA nc W hr hk (tabs_of hL hsh)).mono ?_
  rintro r W' ⟨rfl, bel⟩
  have e1 : ((OpenSpec.ofChange Rows.recipeBackSpec).at F).fn H ([d0] ++ []) = { results := [.lit (.bool true)], args := [d0] } := rfl
  refine ⟨_, rfl, _, _, _, [], p, [], hW', ?_, ?_, ?_, bel.frame _, fun h => by cases h⟩
  · rw [e1]; exact trodAll_mk1 (shut_bool Tryz.underlying4 true)
  · rw [e1]; exact trodAll_mk1 (Below.trod laidOut (by kernel_rfl) (of_decide_eq_true (by kernel_rfl)) h0 bel hlt)
  · rw [e1]; rfl
theorem rback_holds : Rows.RecipeBackSaid :=
  OpenClaim.holds_of_cond 4 Tryz.f4 rfl rfl rfl rfl rfl rfl rfl ⟨rfl, rfl, rfl, rfl, rfl⟩ rfl rfl rfl rfl rfl (by kernel_rfl) Tryz.func4 (by kernel_rfl)
    (of_decide_eq_true (by kernel_rfl)) (by unfold Func.isWrapper; rw [if_neg (of_decide_eq_false (by kernel_rfl))]; exact ⟨rfl, rfl⟩)
    (fun os started H enc _ F0 => by rw [OpenClaim.pre_eq_preRow]; exact rback_lifted os started H enc F0)
theorem rback_card : Rows.RecipeBackCardSaid :=
  Claim7.holds_tied_plain_at .later [] [.data, .data, .data, .data, .pinned] true (true, "04ca698ff224db9bd73a9a6d26b4a2bcbb32795aec38f415137af063ca9367ec") true
    rback_holds (fun _ h => by cases h) (by kernel_rfl) (fun _ h => by cases h) recipeBack_row_tie rfl ⟨rfl, rfl⟩ (by kernel_rfl) rfl
    (fun f fn hf hfn => by
      obtain rfl : f = 4 := Option.some.inj ((show Tryz.prog.funcNamed "malthouse/malthouselaw15.RecipeBack" = some 4 by kernel_rfl).symm.trans hf) |>.symm
      obtain rfl : fn = Tryz.f4 := (Option.some.inj (Tryz.func4.symm.trans hfn)).symm
      exact ⟨by kernel_rfl, fun j t ht => by
        rw [Tryz.params4] at ht
        have h3 : t = 26 := by
          rcases j with _ | j
          · simpa using ht.symm
          · simp at ht
        subst h3
        exact (show Tryz.prog.wantsStandIn 26 = false by kernel_rfl)⟩)
    (by kernel_rfl)
#print axioms rback_card
end Go.Proofs.YtgcfjkfipkfijaaGreatDoor
