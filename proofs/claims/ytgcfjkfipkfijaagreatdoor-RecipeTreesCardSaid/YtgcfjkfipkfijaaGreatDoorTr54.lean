/- Part 54 of the proof of rtrees_card; no conditions. -/
import Derived.Test.YtgcfjkfipkfijaaGreatDoorTr01
import Derived.Test.YtgcfjkfipkfijaaGreatDoorTr53
import Derived.Test.YtgcfjkfipkfijaaGreatDoorTr38
import Derived.Test.YtgcfjkfipkfijaaGreatDoorTr32
import Derived.Test.YtgcfjkfipkfijaaGreatDoorTr37
import Derived.OpenShut
import Derived.ChangeMaps5
set_option maxRecDepth 100000
set_option maxHeartbeats 16000000
namespace Go.Proofs.YtgcfjkfipkfijaaGreatDoor
open Go Go.RowKit Go.Lib _root_.Go.Proofs.Tryz
theorem Hg {P} (r pA pc nA nc w) (h:kI P w r pA pc nA nc) (hr:rI r) (hT:cF w) :
  Calls prog 17 #[iG r pA pc nA nc] w (eS (gW r 3) w):=by
 have hb1:Below w.heap.size w (w.alloc (.cells #[.string r.name,.slice pA r.params.length pc,.slice nA r.nodes.length nc] 26)):=(J_ _ _).alloc le_ _
 have HN:=hid (Ad r pA pc nA nc 3 _ (h.below hb1) hr (hT.below hb1))
 have HB:=hid hb1
 clear h hr hT hb1
 go_enter func17,ntmps17
 go_wp2_with fail
 refine HN.out.mono ?_
 rintro e w2 ⟨B,b,rfl,h2,hb2⟩
 have H2:=hj_ (h2.more (Q:=fun k=>k<w.heap.size) (fun k hk=>.inl (Y_ hk HB.out.size))) (HB.out.trans (hb2.mono HB.out.size))
 clear h2 hb2
 go_wp2_with fail
 go_ret
 exact ⟨B,b,rfl,H2.out.1,H2.out.2⟩
theorem yQ {P Q w5 w7 W A B a b l} (h5:aO aN.str P w5 A a l) (h7:aO aN.str Q w7 B b l) (hb:Below w5.heap.size w5 w7) (hW:Below w7.heap.size w7 W) :
  Calls prog 16 #[.slice A l.length a,.slice B l.length b] W fun e w'=>e=.returned (.bool true)∧Below w5.heap.size w5 w':=by
 have h57:=hb.trans (hW.mono hb.size)
 refine (xX (h5.below h57) (h7.below hW)).mono ?_
 rintro e w' ⟨rfl,h⟩
 exact ⟨by simp,h57.trans (h.mono h57.size)⟩
def tG (l:List ByteArray) (W0:World) (e:Ending) (w':World):Prop:=∃(P:Nat→Prop) (B:Option Addr) (b:Nat),e=.returned (.slice B l.length b)∧aO aN.str P w' B b l∧Below W0.heap.size W0 w'
theorem eS.at_ {l W0 W w' e} (hW:Below W0.heap.size W0 W) (h:eS l W e w'):tG l W0 e w':=by
 obtain ⟨B,b,rfl,h1,h2⟩:=h
 exact ⟨_,B,b,rfl,h1,hW.trans (h2.mono hW.size)⟩
theorem Kr {P} (r pA pc nA nc w) (h:kI P w r pA pc nA nc) (hr:Sv r) (hT:cF w) :
  Calls prog 7 #[iG r pA pc nA nc] w fun e w'=>e=.returned (.bool true)∧Below w.heap.size w w':=by
 obtain ⟨w1,hw1,hb1,_⟩:=alo_ w (.cells #[.string r.name,.slice pA r.params.length pc,.slice nA r.nodes.length nc] 26)
 obtain ⟨K,hK⟩:=nm_ w.heap.size
 have hx1:w1.heap[K]? = some (.cells #[.string r.name,.slice pA r.params.length pc,.slice nA r.nodes.length nc] 26 (0,0)):=by rw [←hK,←hw1];exact I_ _ _
 have H:=hm_ h hr hT hb1 hx1
 have HW1:=hid hw1
 have HK:=hid hK
 clear h hr hT hb1 hx1 hw1 hK
 go_enter func7,ntmps7
 go_wp2_with fail
 rw [HW1.out,HK.out]
 refine (Ja w1 (H.out.2.2.1.below H.out.2.2.2.1)).mono ?_
 rintro e w2 ⟨rfl,hb2⟩
 have H2:=hj_ (H.out.2.2.2.1.trans (hb2.mono H.out.2.2.2.1.size)) ((hb2.block K (aC H.out.2.2.2.2)).trans H.out.2.2.2.2)
 clear hb2
 obtain ⟨⟨x0,x1,x2⟩,_⟩:=bH H2.out.2
 have hlx:=aC H2.out.2
 go_wp2_with fail
 refine (Fq r pA pc nA nc w2 (H.out.1.below H2.out.1) H.out.2.1).mono ?_
 rintro e w3 ⟨⟨b,rfl,hbn⟩,hb3⟩
 have H3:=hk_ (H2.out.1.trans (hb3.mono H2.out.1.size)) ((hb3.block K hlx).trans H2.out.2) hbn
 clear hb3 hbn x0 x1 x2 hlx
 cases b with
 | false=>
  go_wp2_with fail
  go_ret
  exact ⟨rfl,H3.out.1⟩
 | true=>
  obtain ⟨⟨x0,x1,x2⟩,_⟩:=bH H3.out.2.1
  have hlx:=aC H3.out.2.1
  have HN:=hid (H3.out.2.2 rfl)
  obtain ⟨L3,hL3⟩:=nm_ (gW r 3)
  obtain ⟨L2,hL2⟩:=nm_ (gW r 2)
  obtain ⟨q,hq⟩:=nm_ (nW r)
  obtain ⟨PR,hPR⟩:=nm_ (nX r)
  have HA:Hid (∀W,Below w3.heap.size w3 W→kI P W r pA pc nA nc∧cF W):=hid (fun W hW=>by
   have hb:=H3.out.1.trans (hW.mono H3.out.1.size)
   exact ⟨H.out.1.below hb,H.out.2.2.1.below hb⟩)
  have HP3:Hid (∀W0 W,Below w3.heap.size w3 W0→Below W0.heap.size W0 W→Calls prog 17 #[iG r pA pc nA nc] W (tG L3 W0)):=hid (fun W0 W h0 hW=>by
   have ha:=HA.out W (h0.trans (hW.mono h0.size))
   rw [←hL3]
   exact (Hg r pA pc nA nc W ha.1 HN.out.1 ha.2).mono (fun e w' h=>eS.at_ hW h))
  have HX3:Hid (∀W0 W,Below w3.heap.size w3 W0→Below W0.heap.size W0 W→Calls prog 18 #[iG r pA pc nA nc] W (tG L3 W0)):=hid (fun W0 W h0 hW=>by
   have ha:=HA.out W (h0.trans (hW.mono h0.size))
   rw [←hL3]
   exact (Hf ha.1 HN.out.1 HN.out.2).mono (fun e w' h=>eS.at_ hW h))
  have HP2:Hid (∀W0 W,Below w3.heap.size w3 W0→Below W0.heap.size W0 W→Calls prog 19 #[iG r pA pc nA nc] W (tG L2 W0)):=hid (fun W0 W h0 hW=>by
   have ha:=HA.out W (h0.trans (hW.mono h0.size))
   rw [←hL2]
   exact (xF r pA pc nA nc W ha.1 HN.out.1 ha.2).mono (fun e w' h=>eS.at_ hW h))
  have HX2:Hid (∀W0 W,Below w3.heap.size w3 W0→Below W0.heap.size W0 W→Calls prog 20 #[iG r pA pc nA nc] W (tG L2 W0)):=hid (fun W0 W h0 hW=>by
   have ha:=HA.out W (h0.trans (hW.mono h0.size))
   rw [←hL2]
   exact (Kq ha.1 HN.out.1 HN.out.2).mono (fun e w' h=>eS.at_ hW h))
  have HMY:Hid (∀W0 W,Below w3.heap.size w3 W0→Below W0.heap.size W0 W→Calls prog 13 #[iG r pA pc nA nc] W fun e w'=>e=.returned (.bool q)∧Below w3.heap.size w3 w'):=hid (fun W0 W h0 hW=>by
   have hb:=h0.trans (hW.mono h0.size)
   have ha:=HA.out W hb
   rw [←hq]
   exact (sR r pA pc nA nc W ha.1 HN.out.1 ha.2).mono (fun e w' h=>⟨h.1,hb.trans (h.2.mono hb.size)⟩))
  have HMX:Hid (∀W0 W,Below w3.heap.size w3 W0→Below W0.heap.size W0 W→Calls prog 21 #[iG r pA pc nA nc] W fun e w'=>e=.returned (.bool q)∧Below w3.heap.size w3 w'):=hid (fun W0 W h0 hW=>by
   have hb:=h0.trans (hW.mono h0.size)
   have ha:=HA.out W hb
   rw [←hq,←tF]
   exact (qE ha.1 HN.out.1 HN.out.2).mono (fun e w' h=>⟨h.1,hb.trans (h.2.mono hb.size)⟩))
  have HPR:Hid (∀W0 W,Below w3.heap.size w3 W0→Below W0.heap.size W0 W→Calls prog 14 #[iG r pA pc nA nc] W fun e w'=>e=.returned (.string PR)∧Below w3.heap.size w3 w'):=hid (fun W0 W h0 hW=>by
   have hb:=h0.trans (hW.mono h0.size)
   have ha:=HA.out W hb
   rw [←hPR]
   exact (xE r pA pc nA nc W ha.1 HN.out.1 ha.2).mono (fun e w' h=>⟨h.1,hb.trans (h.2.mono hb.size)⟩))
  have HPX:Hid (∀W0 W,Below w3.heap.size w3 W0→Below W0.heap.size W0 W→Calls prog 22 #[iG r pA pc nA nc] W fun e w'=>e=.returned (.string PR)∧Below w3.heap.size w3 w'):=hid (fun W0 W h0 hW=>by
   have hb:=h0.trans (hW.mono h0.size)
   have ha:=HA.out W hb
   rw [←hPR]
   exact (He ha.1 HN.out.1 HN.out.2).mono (fun e w' h=>⟨h.1,hb.trans (h.2.mono hb.size)⟩))
  clear hL3 hL2 hq hPR HA
  go_wp2_with fail
  go_cut [5] (fun s5 wx=>s5=.bool true∧Below w3.heap.size w3 wx)
  case first=>
   go_region_with (first
    | (go_at_call 17;refine (HP3.out w3 _ (J_ _ _) ?_).mono ?_;(first | exact J_ _ _ | exact (J_ _ _).drew | exact (J_ _ _).drew.drew);rintro e5 w5 ⟨P5,B5,b5,rfl,hr5,hb5⟩;have H5:=hid (⟨hr5,hb5⟩:_∧_);obtain ⟨⟨y0,y1,y2⟩,_⟩:=bH ((hb5.block K hlx).trans H3.out.2.1);have hly:=Y_ hlx hb5.size;clear hr5 hb5)
    | (go_at_call 18;refine (HX3.out w5 _ H5.out.2 ?_).mono ?_;(first | exact J_ _ _ | exact (J_ _ _).drew | exact (J_ _ _).drew.drew);rintro e7 w7 ⟨P7,B7,b7,rfl,hr7,hb7⟩;have H7:=hid (⟨hr7,hb7⟩:_∧_);clear hr7 hb7)
    | (go_at_call 16;refine (yQ H5.out.1 H7.out.1 H7.out.2 ?_).mono ?_;(first | exact J_ _ _ | exact (J_ _ _).drew | exact (J_ _ _).drew.drew);rintro e8 w8 ⟨rfl,hb8⟩;have H8:=hid (H5.out.2.trans (hb8.mono H5.out.2.size));clear hb8))
   all_goals
    go_wp2_with fail
    go_meet
    exact ⟨rfl,by first | exact H8.out | exact H8.out.drew⟩
  case rest=>
   obtain ⟨rfl,hbx⟩:=hcut
   obtain ⟨⟨z0,z1,z2⟩,_⟩:=bH ((hbx.block K hlx).trans H3.out.2.1)
   have hlz:=Y_ hlx hbx.size
   clear x0 x1 x2
   go_wp2_with fail
   go_cut [6] (fun s6 wz=>s6=.bool true∧Below w3.heap.size w3 wz)
   case first=>
    go_region_with (first
     | (go_at_call 19;refine (HP2.out wc _ hbx ?_).mono ?_;(first | exact J_ _ _ | exact (J_ _ _).drew | exact (J_ _ _).drew.drew);rintro e5 w5 ⟨P5,B5,b5,rfl,hr5,hb5⟩;have H5:=hid (⟨hr5,hbx.trans (hb5.mono hbx.size)⟩:_∧_);obtain ⟨⟨y0,y1,y2⟩,_⟩:=bH (((hbx.trans (hb5.mono hbx.size)).block K hlx).trans H3.out.2.1);have hly:=Y_ hlx (hbx.trans (hb5.mono hbx.size)).size;clear hr5 hb5)
     | (go_at_call 20;refine (HX2.out w5 _ H5.out.2 ?_).mono ?_;(first | exact J_ _ _ | exact (J_ _ _).drew | exact (J_ _ _).drew.drew);rintro e7 w7 ⟨P7,B7,b7,rfl,hr7,hb7⟩;have H7:=hid (⟨hr7,hb7⟩:_∧_);clear hr7 hb7)
     | (go_at_call 16;refine (yQ H5.out.1 H7.out.1 H7.out.2 ?_).mono ?_;(first | exact J_ _ _ | exact (J_ _ _).drew | exact (J_ _ _).drew.drew);rintro e8 w8 ⟨rfl,hb8⟩;have H8:=hid (H5.out.2.trans (hb8.mono H5.out.2.size));clear hb8))
    all_goals
     go_wp2_with fail
     go_meet
     exact ⟨rfl,by first | exact H8.out | exact H8.out.drew⟩
   case rest=>
    obtain ⟨rfl,hbz⟩:=hcut
    have HZ:=hj_ hbz H3.out.1
    clear hbx z0 z1 z2 hlz
    obtain ⟨⟨z0,z1,z2⟩,_⟩:=bH ((hbz.block K hlx).trans H3.out.2.1)
    have hlz:=Y_ hlx hbz.size
    go_wp2_with fail
    go_region_with (first
     | (go_at_call 13;refine (HMY.out wc _ hbz ?_).mono ?_;(first | exact J_ _ _ | exact (J_ _ _).drew | exact (J_ _ _).drew.drew);rintro e5 w5 ⟨rfl,hb5⟩;have H5:=hid hb5;obtain ⟨⟨y0,y1,y2⟩,_⟩:=bH ((hb5.block K hlx).trans H3.out.2.1);have hly:=Y_ hlx hb5.size;clear hb5)
     | (go_at_call 21;refine (HMX.out w5 _ H5.out ?_).mono ?_;(first | exact J_ _ _ | exact (J_ _ _).drew | exact (J_ _ _).drew.drew);rintro e6 w6 ⟨rfl,hb6⟩;have H6:=hid hb6;obtain ⟨⟨u0,u1,u2⟩,_⟩:=bH ((hb6.block K hlx).trans H3.out.2.1);have hlu:=Y_ hlx hb6.size;clear hb6)
     | (go_at_call 14;refine (HPR.out w6 _ H6.out ?_).mono ?_;(first | exact J_ _ _ | exact (J_ _ _).drew | exact (J_ _ _).drew.drew);rintro e7 w7 ⟨rfl,hb7⟩;have H7:=hid hb7;obtain ⟨⟨v0,v1,v2⟩,_⟩:=bH ((hb7.block K hlx).trans H3.out.2.1);have hlv:=Y_ hlx hb7.size;clear hb7)
     | (go_at_call 22;refine (HPX.out w7 _ H7.out ?_).mono ?_;(first | exact J_ _ _ | exact (J_ _ _).drew | exact (J_ _ _).drew.drew);rintro e8 w8 ⟨rfl,hb8⟩;have H8:=hid (H3.out.1.trans (hb8.mono H3.out.1.size));clear hb8))
    all_goals
     go_wp2_with fail
     go_ret
     exact ⟨rfl,by first | exact H8.out | exact H8.out.drew⟩
end Go.Proofs.YtgcfjkfipkfijaaGreatDoor
namespace Go.Proofs.YtgcfjkfipkfijaaGreatDoor
open Go Go.RowKit Go.ChangeShapes Go.WideShapes _root_.Go.Proofs.Tryz
theorem yR (os:Os) {H:Type} (enc:TypeId × Value→H) :
  (OpenSpec.ofChange Rows.recipeTreesSpec).preRow enc prog Tryz.f7 Rows.recipeTreesRow.domain false Rows.recipeTreesRow.laid ((qC os).forCall (fun _ _=>0) ⟨#[],#[.agg #[.string ⟨#[]⟩,.slice none 0 0,.slice none 0 0]],[]⟩).memory #[.agg #[.string ⟨#[]⟩,.slice none 0 0,.slice none 0 0]]:=by
 have hw:(DataW.whole enc prog ((qC os).forCall (fun _ _=>0) ⟨#[],#[.agg #[.string ⟨#[]⟩,.slice none 0 0,.slice none 0 0]],[]⟩).memory Tryz.f7.params.toList (OpenSpec.ofChange Rows.recipeTreesSpec).vars false #[Value.agg #[.string ⟨#[]⟩,.slice none 0 0,.slice none 0 0]].toList 8).map (fun x=>(x.1,x.2.1)) =
   some ([.agg [.lit (.string []),.nil,.nil]],[]):=by kernel_rfl
 obtain ⟨⟨x1,x2,x3⟩,hx,hx1⟩:=Option.map_eq_some_iff.1 hw
 simp only [Prod.mk.injEq] at hx1
 obtain ⟨rfl,rfl⟩:=hx1
 exact OpenSpec.preRow_of_cond 8 hx (by kernel_rfl) (fun k hk=>by cases hk) (by kernel_rfl) (Tu os _)
theorem zE (os:Os) (started:os.Started) (H:Type) (enc:TypeId × Value→H) (F:Stop.Interp) :
  ReturnsInHanded {} Tryz.checked os 7 .any ((OpenSpec.ofChange Rows.recipeTreesSpec).preRow enc prog Tryz.f7 Rows.recipeTreesRow.domain false Rows.recipeTreesRow.laid)
   (((OpenSpec.ofChange Rows.recipeTreesSpec).at F).post enc prog Tryz.f7 false true false false):=by
 refine returnsInHanded_of_row (C:=Tryz.checked) (s:=OpenSpec.ofChange Rows.recipeTreesSpec) own started (by kernel_rfl) func7
  (witness_row_atRef (enc:=enc) (C:=Tryz.checked) false (qC os) #[.agg #[.string ⟨#[]⟩,.slice none 0 0,.slice none 0 0]] rfl (by kernel_rfl) (by kernel_rfl) (by kernel_rfl) (yR os enc)) ?_
 intro W base args ds gs before hval0 hW _ _ hz hL hsh _
 have hval:∀(j:Nat) t v,Tryz.f7.params[j]? = some t→args[j]? = some v→Value.okWide prog W .any base t v:=hval0
 have hW':=hW
 obtain ⟨p,q,hA0,hV0,rfl,_,_⟩:=hW
 have hA:DataW.TrodAll enc prog W 0 (fun _=>true) true Tryz.f7.params.toList args.toList ds p:=hA0
 rw [Tryz.params7] at hA hval hz
 obtain ⟨v0,d0,rfl,rfl,h0⟩:=trodAll_one hA
 obtain ⟨rfl,rfl⟩:=trodVars_none hV0
 have hz1:(DataW.weightsEach prog ([26]++[]) ([d0]++[])).all (fun n=>decide (n≤reachBytes))=true:=hz
 have hz2:eU 26 d0:=by unfold eU;simpa [DataW.weightsEach] using hz1
 obtain ⟨e,pA,pc,nA,nc,rfl,hr,hk⟩:=Xm (hval 0 26 v0 rfl rfl) h0 hz2
 clear hA0 hV0 hval0 hz hz1
 simp only [List.append_nil] at hW'
 have hlt:∀x∈p,x.block<W.heap.size:=fun x hx=>by simpa using hW'.lt x hx
 refine (Kr e pA pc nA nc W hr hk (Xl hL hsh)).mono ?_
 rintro r W' ⟨rfl,bel⟩
 have e1:((OpenSpec.ofChange Rows.recipeTreesSpec).at F).fn H ([d0]++[])={ results:=[.lit (.bool true)],args:=[d0] }:=rfl
 refine ⟨_,rfl,_,_,_,[],p,[],hW',?_,?_,?_,bel.frame _,fun h=>by cases h⟩
 ·rw [e1];exact trodAll_mk1 (shut_bool underlying4 true)
 ·rw [e1];exact trodAll_mk1 (Below.trod Xk (by kernel_rfl) (of_decide_eq_true (by kernel_rfl)) h0 bel hlt)
 ·rw [e1];rfl
theorem Dc:Rows.RecipeTreesSaid:=
 OpenClaim.holds_of_cond 7 Tryz.f7 rfl rfl rfl rfl rfl rfl rfl ⟨rfl,rfl,rfl,rfl,rfl⟩ rfl rfl rfl rfl rfl (by kernel_rfl) func7 (by kernel_rfl)
  (of_decide_eq_true (by kernel_rfl)) (by unfold Func.isWrapper;rw [K_ (of_decide_eq_false (by kernel_rfl))];exact ⟨rfl,rfl⟩)
  (fun os started H enc _ F0=>by rw [OpenClaim.pre_eq_preRow];exact zE os started H enc F0)
theorem rtrees_card:Rows.RecipeTreesCardSaid:=
 Claim7.holds_tied_plain_at .later [] [.data,.data,.data,.data,.pinned] true (true, "04ca698ff224db9bd73a9a6d26b4a2bcbb32795aec38f415137af063ca9367ec") true
  Dc (fun _ h=>by cases h) (by kernel_rfl) (fun _ h=>by cases h) recipeTrees_row_tie rfl ⟨rfl,rfl⟩ (by kernel_rfl) rfl
  (fun f fn hf hfn=>by
    obtain rfl:f=7:=e_ ((show Tryz.prog.funcNamed "malthouse/malthouselaw15.RecipeTrees" = some 7 by kernel_rfl).symm.trans hf) |>.symm
    obtain rfl:fn=Tryz.f7:=(e_ (Tryz.func7.symm.trans hfn)).symm
    exact ⟨by kernel_rfl,fun j t ht=>by
     rw [Tryz.params7] at ht
     have h3:t=26:=by
      rcases j with _ | j
      ·simpa using ht.symm
      ·simp at ht
     subst h3
     exact (show Tryz.prog.wantsStandIn 26=false by kernel_rfl)⟩)
  (by kernel_rfl)
end Go.Proofs.YtgcfjkfipkfijaaGreatDoor
