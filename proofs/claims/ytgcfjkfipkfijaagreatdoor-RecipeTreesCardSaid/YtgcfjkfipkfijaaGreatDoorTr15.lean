/- Part 15 of the proof of rtrees_card; no conditions. -/
import Derived.Test.YtgcfjkfipkfijaaGreatDoorTr01
import Derived.Test.YtgcfjkfipkfijaaGreatDoorTr13
import Derived.Test.YtgcfjkfipkfijaaGreatDoorTr14
set_option maxRecDepth 100000
set_option maxHeartbeats 8000000
namespace Go.Proofs.YtgcfjkfipkfijaaGreatDoor
open Go Go.RowKit Go.Lib _root_.Go.Proofs.Tryz
theorem Ln:(Tryz.prog.info? 43).map (fun i=>(i.zero,i.size,i.bytes))=some (some (.agg #[.int .i64 0,.slice none 0 0,.slice none 0 0,.string ⟨#[]⟩,.slice none 0 0,.int .i64 0,.int .i64 0,.string ⟨#[]⟩,.slice none 0 0]),9,152):=by kernel_rfl
theorem dR (b):aV b []=([],[]):=by rw [aV]
theorem cH (b p ps):aV b (p::ps)=(cX b p++(aV (b+(cX b p).length) ps).1,b::(aV (b+(cX b p).length) ps).2):=by rw [aV]
theorem rF:∀(ps:List Pc) (b:Int) (p:Pc),aV b (ps++[p])=((aV b ps).1++cX (b+(aV b ps).1.length) p,(aV b ps).2++[b+((aV b ps).1.length:Int)])
 | [],b,p=>by
  have e:b+((0:Nat):Int)=b:=by omega
  simp only [List.nil_append,cH,dR,List.append_nil,b_,e]
 | q::qs,b,p=>by
  have e:∀n m:Nat,b+((n+m:Nat):Int)=b+n+m:=fun n m=>by omega
  rw [List.cons_append,cH,rF qs,cH]
  simp only [p_,O_,e,List.cons_append]
def Wj (b0:Nat) (P:Nat→Prop) (B:Option Addr) (n b:Nat) (qs:List NQ) (p:Pc) (w:World) (r:Ending) (w':World):Prop:=
 ∃B' b' qs',r=.returned (.tuple #[.slice B' qs'.length b',.int .i64 n])∧dF b0 P w' B' qs'.length b' qs'∧qs'.map (·.nd)=qs.map (·.nd)++cX n p∧Same (bJ (.slice B n b) qs) w w'∧∀k,k∈bJ (.slice B' qs'.length b') qs'→k∈bJ (.slice B n b) qs∨w.heap.size≤k
theorem Nv (k uA un uc kA kn kc w) :
  Calls prog 190 #[.agg #[.int .i64 k,.slice uA un uc,.slice kA kn kc]] w fun r w'=>r=.returned (.slice kA kn kc)∧Below w.heap.size w w':=by
 go_enter func190,ntmps190
 go_wp2_with fail
 go_ret
 exact ⟨rfl,(J_ _ _).alloc le_ _⟩
theorem Ij (nm gA gn gc w) :
  Calls prog 192 #[.agg #[.string nm,.slice gA gn gc]] w fun r w'=>r=.returned (.slice none 0 0)∧Below w.heap.size w w':=by
 go_enter func192,ntmps192
 go_wp2_with fail
 go_ret
 exact ⟨rfl,(J_ _ _).alloc le_ _⟩
theorem Cg (e:Ex) (eA:Option Addr) (ec:Nat) (aA:Option Addr) (an ac:Nat) (bA:Option Addr) (bn bc:Nat) (w:World) :
  Calls prog 191 #[.agg #[.int .i64 e.op,.int .i64 e.n,.string e.name,.slice eA e.kids.length ec,.int .i64 0,.slice none 0 0,.slice aA an ac,.int .i64 0,.slice none 0 0,.slice bA bn bc]] w
   fun r w'=>∃C,r=.returned (.slice (some ⟨C,0,none⟩) 2 2)∧w.heap.size≤C∧w'.heap[C]? = some (.cells #[Ef 0 none 0 0 aA an ac,Ef 0 none 0 0 bA bn bc] 91 (0,0))∧Below w.heap.size w w':=by
 go_enter func191,ntmps191
 go_wp2_with fail
 go_ret
 refine ⟨w.heap.size+1,rfl,by omega,?_,((J_ _ _).alloc le_ _).alloc (by simp) _⟩
 have h:=I_ (w.alloc (.cells #[.int .i64 e.op,.int .i64 e.n,.string e.name,.slice eA e.kids.length ec,.int .i64 0,.slice none 0 0,.slice aA an ac,.int .i64 0,.slice none 0 0,.slice bA bn bc] 95)) (.cells #[Ef 0 none 0 0 aA an ac,Ef 0 none 0 0 bA bn bc] 91)
 simpa using h
theorem Ik (a b c w):(Instr.typeAssert (.iface 58 (.agg #[a,b,c])) 91 58 true).run prog w=.ok (.tuple #[.agg #[a,b,c],.bool true]) w:=by kernel_rfl
abbrev Zv:Value:=.agg #[.int .i64 0,.slice none 0 0,.slice none 0 0]
abbrev AZ:Value:=.agg #[.int .i64 0,.int .i64 0,.string ⟨#[]⟩,.slice none 0 0,.int .i64 0,.slice none 0 0,.slice none 0 0,.int .i64 0,.slice none 0 0,.slice none 0 0]
theorem wP (v w):(Instr.typeAssert (.iface 95 v) 91 58 true).run prog w=.ok (.tuple #[Zv,.bool false]) w:=by kernel_rfl
theorem uZ (v w):(Instr.typeAssert (.iface 97 v) 91 58 true).run prog w=.ok (.tuple #[Zv,.bool false]) w:=by kernel_rfl
theorem Il (a b c d e f g h i j w):(Instr.typeAssert (.iface 95 (.agg #[a,b,c,d,e,f,g,h,i,j])) 91 95 true).run prog w=.ok (.tuple #[.agg #[a,b,c,d,e,f,g,h,i,j],.bool true]) w:=by kernel_rfl
theorem vB (v w):(Instr.typeAssert (.iface 97 v) 91 95 true).run prog w=.ok (.tuple #[AZ,.bool false]) w:=by kernel_rfl
theorem Em (a b w):(Instr.typeAssert (.iface 97 (.agg #[a,b])) 91 97 false).run prog w=.ok (.agg #[a,b]) w:=by kernel_rfl
theorem En {ops rest o a Q b0 P w B n b qs} (hgd:o.guard=none) (s x) (ho:o.op=.call { callee:=.builtin .append,args:=#[s,x],argTypes:=#[24,24] }) (hs:a.eval s=.slice B n b) (h:dF b0 P w B n b qs) (q0) (h0:q0.nd.kids=[]) (hk0:q0.kV=.slice none 0 0) (hr:mX (fun k=>P k∨k∈bJ (.slice B n b) qs) w q0) (cs) (hcs:cs.toList=q0.enc) (ty) (hx:a.eval x=.slice (some ⟨w.heap.size,0,none⟩) 1 1) (hn:n≤1000) (hb0:b0≤w.heap.size) (k:∀g cap w',dF b0 P w' (some ⟨g,0,none⟩) (n+1) cap (qs++[q0])→Same (bJ (.slice B n b) qs) w w'→(∀k,k∈bJ (.slice (some ⟨g,0,none⟩) (n+1) cap) (qs++[q0])→k∈bJ (.slice B n b) qs∨w.heap.size≤k) →
    wpList prog ops Q rest (a.put o.dst (.slice (some ⟨g,0,none⟩) (n+1) cap)) w'):wpList prog ops Q (o::rest) a (w.alloc (.cells cs ty)):=by
 obtain ⟨i0,hi0,hz0,hz1,hz2⟩:=info_parts Ln
 refine wpList_append_lies _ hgd s x _ ho b0 43 i0 _ 9 152 underlying24 hi0 hz0 hz1 hz2 rfl (by omega) (.slice B n b) n (qs.flatMap NQ.enc) hs (h.own.alloc _) ⟨w.heap.size,0,none⟩ 1 1 q0.enc hx rfl ?_ (by simp [NQ.enc,NQ.kV,Value.oneCell']) (by decide) (by unfold maxLen;omega) (by omega) (by simp;omega) (w.heap.size+1) (by simp) ?_
 ·intro j u hu
  have:=aB (I_ w (.cells cs ty)) j
  have e:(⟨w.heap.size,0,none⟩:Addr).add j=⟨w.heap.size,j,none⟩:=by unfold Addr.add;split <;> simp_all
  rw [e,this]
  rw [←hcs] at hu
  simpa using hu
 ·intro g cap w6 hown hg hat hlt
  obtain ⟨h1,h2,h3⟩:=h.push h0 hk0 hr hg hown hat
  exact k g cap w6 h1 (h2.mono (fun x hx=>eR.2 (.inl (by simpa using hx)))) h3
theorem Im (args W):(callFunc 190 args).run prog W=.ok (.enter 190 args) W:=enters_of func190 (by kernel_rfl) rfl args W
theorem Io (args W):(callFunc 191 args).run prog W=.ok (.enter 191 args) W:=enters_of func191 (by kernel_rfl) rfl args W
theorem Eo (args W):(callFunc 192 args).run prog W=.ok (.enter 192 args) W:=enters_of func192 (by kernel_rfl) rfl args W
theorem Sf {Z0 w p vt vu} (h:Av rR Z0 w p [.iface vt vu]):∃F:FuncId,(∀W,(method 304 vt vu "malthouse/recipe.parts").run prog W=.ok (F,vu) W)∧(∀args W,(callFunc F args).run prog W=.ok (.enter F args) W) ∧
  ∀(M:List Nat) W,Same M w W→(∀k,k∈M→Z0 k)→Calls prog F #[vu] W fun r w'=>∃pA pc Z,r=.returned (.slice pA (aY p).length pc)∧aO rR Z w' pA pc (aY p)∧Below W.heap.size W w'∧(∀k,Z0 k→k<W.heap.size→Z k)∧∀k,w.heap.size≤k→k<W.heap.size∨w'.heap.size≤k→Z k:=by
 cases p with
 | row k us kids=>
  obtain ⟨uA,uc,kA,kc,hv,_,_,hkc,_⟩:=fC.1 (h [] (by simp))
  obtain ⟨rfl,rfl⟩:vt=58∧vu=.agg #[.int .i64 k,.slice uA us.length uc,.slice kA kids.length kc]:=by simpa using hv
  have hR:aO rR Z0 w kA kc kids:=⟨hkc,fun M hM=>by
   obtain ⟨uA',uc',kA',kc',hv',_,_,_,hr⟩:=fC.1 (h M hM)
   have e:kA=kA':=by simp at hv';exact hv'.2.1
   rw [e];exact hr⟩
  refine ⟨190,fun W=>by kernel_rfl,fun args W=>Im args W,fun M W hW hM=>(Nv k uA us.length uc kA kids.length kc W).mono ?_⟩
  rintro r w' ⟨rfl,hb⟩
  exact ⟨kA,kc,fun k=>Z0 k∨w.heap.size≤k,rfl,((hR.more (fun k hk=>hk)).keep hW (fun k hk=>.inl (hM k hk))).below hb,hb,fun k hk _=>.inl hk,fun k hk _=>.inr hk⟩
 | choice e a b=>
  obtain ⟨eA,ec,aA,ac,bA,bc,hv,_,_,hac,_,hbc,_⟩:=fC.1 (h [] (by simp))
  obtain ⟨rfl,rfl⟩:vt=95∧vu=.agg #[.int .i64 e.op,.int .i64 e.n,.string e.name,.slice eA e.kids.length ec,.int .i64 0,.slice none 0 0,.slice aA a.length ac,.int .i64 0,.slice none 0 0,.slice bA b.length bc]:=by simpa using hv
  have hA:aO rR Z0 w aA ac a∧aO rR Z0 w bA bc b:=by
   refine ⟨⟨hac,fun M hM=>?_⟩,⟨hbc,fun M hM=>?_⟩⟩
   all_goals
    obtain ⟨eA',ec',aA',ac',bA',bc',hv',_,_,_,h1,_,h2⟩:=fC.1 (h M hM)
    simp at hv'
   ·rw [hv'.2.1.1];exact h1
   ·rw [hv'.2.2.1];exact h2
  refine ⟨191,fun W=>by kernel_rfl,fun args W=>Io args W,fun M W hW hM=>(Cg e eA ec aA a.length ac bA b.length bc W).mono ?_⟩
  rintro r w' ⟨C,rfl,hC,hk,hb⟩
  have hZ:∀k,((Z0 k∧k<W.heap.size)∨(w.heap.size≤k∧(k<W.heap.size∨w'.heap.size≤k)))→k≠C:=fun k hk' e=>by have:=aC hk;omega
  have hp:∀{A:Option Addr} {c:Nat} {xs:List Pc},aO rR Z0 w A c xs→Av rR (fun k=>(Z0 k∧k<W.heap.size)∨(w.heap.size≤k∧(k<W.heap.size∨w'.heap.size≤k))) w' (.row 0 [] xs) [Ef 0 none 0 0 A xs.length c]:=fun hx=>
   Av.row (aO.nil _ _ _ _ _) ((((hx.more (Q:=fun k=>Z0 k∨w.heap.size≤k) (fun k hk=>hk)).keep hW (fun k hk=>.inl (hM k hk))).more (fun k hk=>.inl (hk.elim (fun h=>.inl h.1) (fun h=>.inr h.1)))).below hb)
  refine ⟨some ⟨C,0,none⟩,2,fun k=>(Z0 k∧k<W.heap.size)∨(w.heap.size≤k∧(k<W.heap.size∨w'.heap.size≤k)),rfl,⟨H_ _,fun M hM=>⟨by show 2≤_;decide,fun _=>⟨⟨C,0,none⟩,rfl,fun hc=>hZ C (hM C hc) rfl,aC hk,fun i hi=>?_⟩⟩⟩,hb,fun k h1 h2=>.inl ⟨h1,h2⟩,fun k h1 h2=>.inr ⟨h1,h2⟩⟩
  match i,hi with
  | 0,_=>exact ⟨_,hp hA.1 M hM,fun j u hu=>by
    match j,hu with
    | 0,hu=>exact (aB hk 0).trans hu⟩
  | 1,_=>exact ⟨_,hp hA.2 M hM,fun j u hu=>by
    match j,hu with
    | 0,hu=>exact (aB hk 1).trans hu⟩
 | step nm al=>
  obtain ⟨gA,gc,hv,_,_⟩:=fC.1 (h [] (by simp))
  obtain ⟨rfl,rfl⟩:vt=97∧vu=.agg #[.string nm,.slice gA al.length gc]:=by simpa using hv
  refine ⟨192,fun W=>by kernel_rfl,fun args W=>Eo args W,fun M W _ _=>(Ij nm gA al.length gc W).mono ?_⟩
  rintro r w' ⟨rfl,hb⟩
  exact ⟨none,0,fun _=>True,rfl,aO.nil _ _ _ _ _,hb,fun _ _ _=>trivial,fun _ _ _=>trivial⟩
end Go.Proofs.YtgcfjkfipkfijaaGreatDoor
namespace Go.Proofs.YtgcfjkfipkfijaaGreatDoor
open Go Go.RowKit Go.Lib _root_.Go.Proofs.Tryz
variable {w : World}
theorem nV {k:Nat} {v0 v1 v2 v3 v4 v5 v6 v7 v8:Value} {t:TypeId} (h:w.heap[k]? = some (.cells #[v0,v1,v2,v3,v4,v5,v6,v7,v8] t (0,0))) :
  w.cell? ⟨k,0,none⟩=some v0∧w.cell? ⟨k,1,none⟩=some v1∧w.cell? ⟨k,2,none⟩=some v2∧w.cell? ⟨k,3,none⟩=some v3∧w.cell? ⟨k,4,none⟩=some v4∧w.cell? ⟨k,5,none⟩=some v5∧w.cell? ⟨k,6,none⟩=some v6∧w.cell? ⟨k,7,none⟩=some v7∧w.cell? ⟨k,8,none⟩=some v8:=
 ⟨aB h 0,aB h 1,aB h 2,aB h 3,aB h 4,aB h 5,aB h 6,aB h 7,aB h 8⟩
def Zw (Z0:Nat→Prop) (p:Pc) (w w':World) (K:Nat) (q0:NQ):Prop:=
 w'.heap[K]? = some (.cells q0.enc.toArray 43 (0,0))∧q0.nd=mD p∧q0.kV=.slice none 0 0∧mX Z0 w' q0∧Below w.heap.size w w'
theorem Ch (w a b):((w.alloc a).alloc b).heap[w.heap.size]? = some a∧Below w.heap.size w ((w.alloc a).alloc b):=
 ⟨(((J_ (w.alloc a).heap.size (w.alloc a)).alloc le_ b).block w.heap.size (by simp)).trans (I_ w a),((J_ _ _).alloc le_ _).alloc (by simp) _⟩
theorem aO.at_ {α:Type} {d:aN α} {P:Nat→Prop} {B:Option Addr} {b:Nat} {xs:List α} (h:aO d P w B b xs) (i) (hi:i<xs.length):∃ad cs,B=some ad∧Av d P w xs[i] cs∧∀j u,cs[j]? = some u→w.cell? (ad.add (i*d.sz+j))=some u:=by
 obtain ⟨ad,cs,e,_,hr,hc⟩:=(h.2 [] (by simp)).at_ i hi
 refine ⟨ad,cs,e,fun M hM=>?_,hc⟩
 obtain ⟨ad',cs',e',_,hr',hc'⟩:=(h.2 M hM).at_ i hi
 obtain rfl:ad=ad':=by rw [e] at e';exact e_ e'
 have hl:=d.len hr
 have hl':=d.len hr'
 have:cs'=cs:=by
  apply List.ext_getElem?
  intro j
  by_cases hj:j<d.sz
  ·have h1:=hc j _ (R_ (by omega))
   have h2:=hc' j _ (R_ (by omega))
   rw [h1] at h2
   rw [R_ (by omega),R_ (by omega)]
   exact h2.symm
  ·rw [List.getElem?_eq_none (by omega),List.getElem?_eq_none (by omega)]
 rw [←this]
 exact hr'
theorem zV:(Tryz.prog.info? 3).map (fun i=>(i.zero,i.size,i.bytes))=some (some (.int .i64 0),1,8):=by kernel_rfl
theorem wQ (b ps i):(aV b (ps.take i)).1.length≤(aV b ps).1.length:=by
 induction ps generalizing b i with
 | nil=>simp
 | cons p ps ih=>
  cases i with
  | zero=>simp [dR]
  | succ i=>
   rw [List.take_succ_cons,cH,cH]
   simp only [O_]
   have:=ih (b+(cX b p).length) i
   omega
theorem Ep:∀(ps:List Pc) (b:Int),(aV b ps).2.length≤(aV b ps).1.length
 | [],b=>by rw [dR];exact H_ _
 | p::ps,b=>by
  rw [cH]
  have h:=Ep ps (b+(cX b p).length)
  have h1:1≤(cX b p).length:=by rw [nQ];simp
  simp only [P_,O_]
  omega
theorem Sg {p q} (h:q∈aY p):SizeOf.sizeOf q<SizeOf.sizeOf p:=by
 cases p with
 | row k us kids=>
  have:=List.sizeOf_lt_of_mem (show q∈kids from h)
  simp
  omega
 | choice e a b=>
  obtain ⟨o,n,nm,ks⟩:=e
  have hl:∀l:List Pc,1≤SizeOf.sizeOf l:=fun l=>by cases l <;> simp <;> omega
  have hk:1≤SizeOf.sizeOf ks:=by cases ks <;> simp <;> omega
  have ha:=hl a
  have hb:=hl b
  simp only [aY,List.mem_cons,List.not_mem_nil,or_false] at h
  rcases h with rfl | rfl
  all_goals
   simp
   have h0:SizeOf.sizeOf (0:Int)=1:=rfl
   have e0:SizeOf.sizeOf ([]:List ByteArray)=1:=rfl
   omega
 | step nm al=>simp [aY] at h
theorem Ci (b0 P) (hP:∀k,P k→k<b0) (N):∀(p:Pc) (vt:TypeId) (vu:Value) (w:World) (B:Option Addr) (n b:Nat) (qs:List NQ),SizeOf.sizeOf p<N→dF b0 P w B n b qs→Av rR (fun k=>P k∨k∈bJ (.slice B n b) qs) w p [.iface vt vu]→b0≤w.heap.size→n+(cX n p).length≤1000 →
  Calls prog 31 #[.slice B n b,.iface vt vu] w (Wj b0 P B n b qs p w):=by
 induction N with
 | zero=>intro p vt vu w B n b qs h;omega
 | succ N ih=>
  intro p vt vu w B n b qs hN hB hv hb0 hcn
  obtain ⟨F,hme,heg,hpt⟩:=Sf hv
  have H:=hj_ hB hv
  have HPT:=hid hpt
  clear hB hv hpt
  go_enter func31,ntmps31
  go_upto_block 0 with fail
  go_cut [6] (fun s6 wx=>∃K q0,s6=.pointer (some ⟨K,0,none⟩)∧Zw (fun k=>P k∨k∈bJ (.slice B n b) qs) p w wx K q0)
  case first=>
   clear hme heg HPT ih
   obtain ⟨hB,hv⟩:=H.out
   clear H
   cases p with
   | row k us kids=>
    obtain ⟨uA,uc,kA,kc,he,huc,_,_,_⟩:=fC.1 (hv [] (by simp))
    obtain ⟨rfl,rfl⟩:vt=58∧vu=.agg #[.int .i64 k,.slice uA us.length uc,.slice kA kids.length kc]:=by simpa using he
    have ha:=fun W=>Ik (.int .i64 k) (.slice uA us.length uc) (.slice kA kids.length kc) W
    have hU:aO aN.str (fun k=>P k∨k∈bJ (.slice B n b) qs) w uA uc us:=⟨huc,fun M hM=>by
     obtain ⟨uA',uc',kA',kc',hv',_,hr,_⟩:=fC.1 (hv M hM)
     have e:uA=uA':=by simp at hv';exact hv'.1.1
     rw [e];exact hr⟩
    have HU:=hid hU
    clear hU hv hB he
    go_wp2_with fail
    go_meet
    exact ⟨w.heap.size,⟨mD (.row k us kids),none,0,uA,uc,none,0,none,0⟩,rfl,(Ch w _ _).1,rfl,rfl,⟨HU.out.below (Ch w _ _).2,aO.nil _ _ _ _ _,cR.leaf rfl⟩,(Ch w _ _).2⟩
   | choice e a bb=>
    obtain ⟨eA,ec,aA,ac,bA,bc,he,hec,_,_⟩:=fC.1 (hv [] (by simp))
    obtain ⟨rfl,rfl⟩:vt=95∧vu=.agg #[.int .i64 e.op,.int .i64 e.n,.string e.name,.slice eA e.kids.length ec,.int .i64 0,.slice none 0 0,.slice aA a.length ac,.int .i64 0,.slice none 0 0,.slice bA bb.length bc]:=by simpa using he
    have ha:=fun W=>wP (.agg #[.int .i64 e.op,.int .i64 e.n,.string e.name,.slice eA e.kids.length ec,.int .i64 0,.slice none 0 0,.slice aA a.length ac,.int .i64 0,.slice none 0 0,.slice bA bb.length bc]) W
    have ha2:=fun W=>Il (.int .i64 e.op) (.int .i64 e.n) (.string e.name) (.slice eA e.kids.length ec) (.int .i64 0) (.slice none 0 0) (.slice aA a.length ac) (.int .i64 0) (.slice none 0 0) (.slice bA bb.length bc) W
    have hU:cR (fun k=>P k∨k∈bJ (.slice B n b) qs) w e eA ec:=⟨hec,fun M hM=>by
     obtain ⟨eA',ec',aA',ac',bA',bc',hv',_,hr,_⟩:=fC.1 (hv M hM)
     have e:eA=eA':=by simp at hv';exact hv'.1.1
     rw [e];exact hr⟩
    have HU:=hid hU
    clear hU hv hB he
    go_wp2_with fail
    go_meet
    exact ⟨w.heap.size,⟨mD (.choice e a bb),none,0,none,0,none,0,eA,ec⟩,rfl,(Ch w _ _).1,rfl,rfl,⟨aO.nil _ _ _ _ _,aO.nil _ _ _ _ _,HU.out.below (Ch w _ _).2⟩,(Ch w _ _).2⟩
   | step nm al=>
    obtain ⟨gA,gc,he,hgc,_⟩:=fC.1 (hv [] (by simp))
    obtain ⟨rfl,rfl⟩:vt=97∧vu=.agg #[.string nm,.slice gA al.length gc]:=by simpa using he
    have ha:=fun W=>uZ (.agg #[.string nm,.slice gA al.length gc]) W
    have ha2:=fun W=>vB (.agg #[.string nm,.slice gA al.length gc]) W
    have ha3:=fun W=>Em (.string nm) (.slice gA al.length gc) W
    have hU:aO oH (fun k=>P k∨k∈bJ (.slice B n b) qs) w gA gc al:=⟨hgc,fun M hM=>by
     obtain ⟨gA',gc',hv',_,hr⟩:=fC.1 (hv M hM)
     have e:gA=gA':=by simp at hv';exact hv'.1
     rw [e];exact hr⟩
    have HU:=hid hU
    clear hU hv hB he
    go_wp2_with fail
    go_meet
    exact ⟨w.heap.size,⟨mD (.step nm al),none,0,none,0,gA,gc,none,0⟩,rfl,(Ch w _ _).1,rfl,rfl,⟨aO.nil _ _ _ _ _,HU.out.below (Ch w _ _).2,cR.leaf rfl⟩,(Ch w _ _).2⟩
  case rest=>
   obtain ⟨K,q0,rfl,hk1,hq1,hq2,hR,hb1⟩:=hcut
   have H1:=hid (H.out.1.below hb1)
   have HQ:=hl_ hq1 hq2 hR hb1
   have hkl:=aC hk1
   obtain ⟨⟨kind,kids,us,nm,al,⟨eo,en,enm,ek⟩⟩,kA,kc,uA,uc,gA,gc,eA,ec⟩:=q0
   have hkids:kids=[]:=by have:=c_ Nd.kids hq1;cases p <;> exact this
   subst hkids
   obtain ⟨rfl,rfl⟩:kA=none∧kc=0:=by have:Value.slice kA 0 kc=.slice none 0 0:=hq2;simpa using this
   obtain ⟨c0,c1,c2,c3,c4,c5,c6,c7,c8⟩:=nV hk1
   have hn:n≤1000:=by omega
   have hz1:=hb1.size
   clear hk1 hq1 hq2 hR hb1
   go_wp2_with (at_builtin;refine Hid.out ?_)
   refine hid ?_
   refine En (by rfl) _ _ (by rfl) (by rfl) H1.out ⟨⟨kind,[],us,nm,al,.mk eo en enm ek⟩,none,0,uA,uc,gA,gc,eA,ec⟩ rfl rfl HQ.out.2.2.1 #[.int .i64 kind,.slice none 0 0,.slice uA us.length uc,.string nm,.slice gA al.length gc,.int .i64 eo,.int .i64 en,.string enm,.slice eA ek.length ec] (by rfl) _ (by rfl) hn (by omega) ?_
   intro g cap w2 hN2 hS2 hm2
   have H2:=hk_ hN2 hS2 hm2
   clear hN2 hS2 hm2 c0 c1 c2 c3 c4 c5 c6 c7 c8 hkl
   go_wp2_with fail
   have hS02:Same (bJ (.slice B n b) qs) w w2:=(Same.of_below HQ.out.2.2.2).then_ H2.out.2.1
   refine (HPT.out _ w2 hS02 (fun k hk=>.inr hk)).mono ?_
   rintro r w3 ⟨pA,pc,Z,rfl,hrow,hb3,hz1',hz2⟩
   have hs02:=hS02.size
   have H3:=hid (⟨H2.out.1.below hb3,hrow,hS02.below_ hb3,fun k hk=>(H2.out.2.2 k hk).imp id (fun h=>d_ hz1 h),fun k hk=>by
    have hl:=(H2.out.1.lt k hk).2
    rcases H2.out.2.2 k hk with h1 | h1
    ·exact hz1' k (.inr h1) hl
    ·exact hz2 k (by omega) (.inl hl)⟩:dF b0 P w3 (some ⟨g,0,none⟩) (n+1) cap _∧aO rR Z w3 pA pc (aY p)∧Same (bJ (.slice B n b) qs) w w3∧(∀k,k∈bJ _ _→k∈bJ (.slice B n b) qs∨w.heap.size≤k)∧∀k,k∈bJ (.slice (some ⟨g,0,none⟩) (n+1) cap) _→Z k)
   have HZ:Hid ((∀k,w3.heap.size≤k→Z k)∧∀k,P k→Z k):=hid ⟨fun k hk=>hz2 k (by have:=hb3.size;omega) (.inr hk),fun k hk=>hz1' k (.inl hk) (by have:=hP k hk;omega)⟩
   have hpl:=hrow.1
   have hml:=(hrow.2 [] (by simp)).1
   have hs23:=hb3.size
   have hnum:cX n p={ mD p with kids:=(aV (n+1) (aY p)).2 }::(aV (n+1) (aY p)).1:=nQ _ _
   have HNU:=hid hnum
   rw [hnum] at hcn
   simp only [P_] at hcn
   have HK2:=hj_ hs02 hs23
   have hq1:(⟨kind,[],us,nm,al,.mk eo en enm ek⟩:Nd)=mD p:=HQ.out.1
   have HH:=hid hq1
   clear hS02 hrow hb3 hz1' hz2 hnum hme heg hs02 hs23 hq1 HPT
   go_wp2_with fail
   go_loopg [0,47] ((aY p).length+1) (fun k s0 s47 wr=>∃i m B' b' qs',s0=.slice B' m b'∧s47=.int .i64 (i:Nat)∧i≤(aY p).length∧(aY p).length - i<k∧dF b0 P wr B' m b' qs'∧m=n+1+(aV (n+1) ((aY p).take i)).1.length ∧
    qs'.map (·.nd)=qs.map (·.nd)++({ mD p with kids:=(aV (n+1) ((aY p).take i)).2 }::(aV (n+1) ((aY p).take i)).1)∧Same (bJ (.slice B n b) qs) w wr∧(∀k,k∈bJ (.slice B' m b') qs'→k∈bJ (.slice B n b) qs∨w.heap.size≤k)∧(∀k,k∈bJ (.slice B' m b') qs'→Z k)∧aO rR Z wr pA pc (aY p)∧w3.heap.size≤wr.heap.size)
   case atStart=>
    refine ⟨0,n+1,some ⟨g,0,none⟩,cap,_,rfl,rfl,h_ _,by omega,H3.out.1,?_,?_,H3.out.2.2.1,H3.out.2.2.2.1,H3.out.2.2.2.2,H3.out.2.1,H_ _⟩
    ·rw [List.take_zero,dR];rfl
    ·rw [List.take_zero,dR,f_,←HH.out];rfl
   case round=>
    obtain ⟨i,m,B',b',qs',rfl,rfl,hip,hik,hB',hm',hnd,hS',hmem,hmz,hrow,hsz⟩:=hrel
    obtain ⟨gk,rfl⟩:=pk_ gk 1 (by omega)
    by_cases hlt:i<(aY p).length
    ·obtain ⟨ad,cs,rfl,hav,hcell⟩:=hrow.at_ i hlt
     have hp:=g_ hlt
     obtain ⟨q,hq⟩:=nm_ ((aY p)[i])
     have htk:(aY p).take (i+1)=(aY p).take i++[q]:=by rw [Z_ hlt,hq]
     rw [hq] at hav hp
     obtain ⟨v,rfl⟩:∃v,cs=[v]:=List.length_eq_one_iff.1 (rR.len (hav [] (by simp)))
     obtain ⟨vt',vu',rfl⟩:=Sc (hav [] (by simp))
     have c0:wr.cell? (ad.add i)=some (.iface vt' vu'):=by have:=hcell 0 _ rfl;simpa [rR] using this
     have hsn:=rF ((aY p).take i) (n+1) q
     rw [←htk] at hsn
     have hle:(aV (n+1) ((aY p).take (i+1))).1.length≤(aV (n+1) (aY p)).1.length:=wQ _ _ _
     have em:(m:Int)=n+1+((aV (n+1) ((aY p).take i)).1.length:Int):=by rw [hm'];omega
     rw [←em] at hsn
     have HCall:=hid (ih q vt' vu' wr B' m b' qs' (by have:=Sg hp;omega) hB' (hav.more (fun k hk=>.inl (hk.elim (HZ.out.2 k) (hmz k)))) (by have:=HK2.out;omega) (by rw [hsn] at hle;simp at hle;omega))
     have HR:=hid (⟨hm',hnd,hS',hmem,hmz,hrow,hsn,hB'.len,hle⟩:_∧_∧_∧_∧_∧_∧_∧_∧_)
     have hii:(i:Int)<((aY p).length:Int):=by omega
     clear hB' hm' hnd hS' hmem hmz hrow hav hcell hsn hle htk hq hp em
     go_wp2_with fail
     refine HCall.out.mono ?_
     rintro r w5 ⟨B5,b5,qs5,rfl,hB5,hnd5,hS5,hmem5⟩
     have hl5:qs5.length=m+(cX m q).length:=by
      have h1:=c_ List.length hnd5
      rw [U_,O_,U_,HR.out.2.2.2.2.2.2.2.1] at h1
      exact h1
     have hm0:n<m:=by have:=HR.out.1;omega
     have hnq:n<qs5.length:=by omega
     obtain ⟨g5,rfl⟩:∃g5,B5=some ⟨g5,0,none⟩:=by
      rcases hB5.own.2 with ⟨_,h0⟩ | ⟨g5,cap5,cur5,he,_⟩
      ·omega
      ·injection he with e1 _ _;exact ⟨g5,e1⟩
     obtain ⟨x,hx⟩:=nm_ (qs5[n])
     have hxm:x∈qs5:=hx▸g_ hnq
     have hcell:w5.cell? ⟨g5,n*9+1,none⟩=some x.kV:=by
      have h1:=hB5.own.cells (g:=g5) rfl (n*9+1) x.kV (by rw [cQ (f:=NQ.enc) (n:=9) (fun _=>rfl) qs5 n 1 hnq (by omega),hx];rfl)
      simpa [Addr.add] using h1
     have hxk:x.nd={ mD p with kids:=(aV (n+1) ((aY p).take i)).2 }:=by
      have h1:=c_ (fun l=>l[n]?) hnd5
      simp only at h1
      rw [List.getElem?_map,R_ hnq,hx,HR.out.2.1] at h1
      have hq0:(qs.map (·.nd)).length=n:=by rw [U_];exact H.out.1.len
      rw [p_,List.getElem?_append_right (by omega),hq0,Nat.sub_self] at h1
      simpa using h1
     have hkl:x.nd.kids.length≤1000:=by
      rw [hxk]
      have h1:=Ep ((aY p).take i) (n+1:Int)
      have h2:=wQ (n+1) (aY p) i
      show (aV (n+1) ((aY p).take i)).2.length≤1000
      omega
     have hfr:w5.frozen? ⟨g5,n*9+1,none⟩=false:=hB5.own.frozenAt _
     have HB5:=hl_ hB5 hnd5 hS5 hmem5
     have HX:=hl_ hx hxm hxk hl5
     have hnz:(n:Int)<(qs5.length:Int):=by omega
     have hlg5:=N_ w5 _ hcell
     obtain ⟨xA,xc,hkv⟩:∃xA xc,x.kV=.slice xA x.nd.kids.length xc:=⟨_,_,rfl⟩
     rw [hkv] at hcell
     have HKV:=hid hkv
     have hms:=hB5.own.1
     have hcap5:qs5.length≤9223372036854775807:=by
      rcases hB5.own.2 with ⟨_,h0⟩ | ⟨g5,cap5,cur5,he,_,_,h3,h4,_⟩
      ·omega
      ·unfold maxLen at h4;omega
     clear hB5 hnd5 hS5 hmem5 hx hxm hxk hl5 hkv hms c0
     obtain ⟨kl,hkl'⟩:=nm_ x.nd.kids.length
     rw [hkl'] at hcell hkl HKV
     have HKL:=hid hkl'
     clear hkl'
     go_wp2_with (at_builtin;refine Hid.out ?_)
     refine hid ?_
     obtain ⟨i0,hi0,hz0,hz1,hz2⟩:=info_parts zV
     have hown5:=HB5.out.1.kid x HX.out.2.1
     rw [HKV.out,HKL.out] at hown5
     refine wpList_append_lies _ (by rfl) _ _ _ (by rfl) b0 3 i0 _ 1 8 underlying36 hi0 hz0 hz1 hz2 rfl (by omega) (.slice xA kl xc) kl (x.nd.kids.map (Value.int .i64 ·)) (by rfl) (hown5.alloc _) ⟨w5.heap.size,0,none⟩ 1 1 [.int .i64 m] (by rfl) (by rfl) (World.news_of_block (cs:=#[.int .i64 m]) (t:=3) (fr:=(0,0)) (I_ w5 _)) (by simp [Value.oneCell']) (by omega) (by unfold maxLen;omega) (by omega) (by have:=HB5.out.2.2.1.size;have:=HR.out.2.2.1.size;simp;omega) (w5.heap.size+1) (by simp) ?_
     intro g6 cap6 w6 hown6 hgrow hat hlt6
     have hS6:Same (Value.slice xA kl xc).ownBlock.toList w5 w6:=((Same.refl _ w5).alloc _).grown hgrow (fun k hk=>.inl (by rw [hk];simp))
     have hne:g5∉(Value.slice xA kl xc).ownBlock.toList:=fun hc=>kW HB5.out.1.dist x HX.out.2.1 g5 (by rw [HKV.out];simpa using hc) rfl
     have hcell6:=hS6.cell (p:=⟨g5,n*9+1,none⟩) hne hcell
     have hfr6:w6.frozen? ⟨g5,n*9+1,none⟩=false:=(World.frozen?_of_block (hS6.block g5 hlg5 hne)).trans hfr
     have hlg6:=N_ w6 _ hcell6
     have hpush:=dF.kidPush (j:=n) (num:=m) (w:=w5) (w6:=w6) (g:=g6) (cap:=cap6) HB5.out.1 hnq (by rw [HX.out.1,HKV.out];exact hgrow) (by rw [HX.out.1,HKL.out];exact hown6) (by rw [HX.out.1,HKV.out];exact hat)
     rw [HX.out.1,HKL.out] at hpush
     have HPU:=hid hpush
     clear hown5 hown6 hgrow hat hS6 hne hcell hfr hpush hi0 hz0 hz1 hz2
     go_wp2_with fail
     go_roundg gk
     case measure=>omega
     case rel=>
      obtain ⟨hB5,hnd5,hS5,hmem5⟩:=HB5.out
      obtain ⟨hx,hxm,hxk,hl5⟩:=HX.out
      obtain ⟨hm',hnd,hS',hmem,hmz,hrow,hsn,_,_⟩:=HR.out
      obtain ⟨hP1,hP2,hP3⟩:=HPU.out
      have hw5:=hS5.size
      have hw':=hS'.size
      have hz5:∀k,k∈bJ (.slice (some ⟨g5,0,none⟩) qs5.length b5) qs5→Z k:=fun k hk=>(hmem5 k hk).elim (hmz k) (fun h=>HZ.out.1 k (by omega))
      have hm5:∀k,k∈bJ (.slice (some ⟨g5,0,none⟩) qs5.length b5) qs5→k∈bJ (.slice B n b) qs∨w.heap.size≤k:=fun k hk=>(hmem5 k hk).elim (hmem k) (fun h=>.inr (by omega))
      have hq0:(qs.map (·.nd)).length=n:=by rw [U_];exact H.out.1.len
      refine ⟨i+1,qs5.length,some ⟨g5,0,none⟩,b5,qs5.set n (x.one m g6 cap6),rfl,by go_num,by omega,by omega,hP1,?_,?_,(hS'.trans hS5 (fun y hy=>hmem y hy)).trans hP2 (fun y hy=>hm5 y hy),fun k hk=>(hP3 k hk).elim (hm5 k) (fun h=>.inr (by omega)),fun k hk=>(hP3 k hk).elim (hz5 k) (fun h=>HZ.out.1 k (by omega)),(hrow.keep hS5 hmz).keep hP2 hz5,?_⟩
      ·rw [hl5,hsn]
       simp only [O_]
       omega
      ·rw [List.map_set,hnd5,hnd,hsn,p_,List.set_append_right _ _ (by omega),hq0,Nat.sub_self,List.cons_append,List.set_cons_zero]
       have e:(x.one m g6 cap6).nd={ mD p with kids:=(aV (n+1) ((aY p).take i)).2++[(m:Int)] }:=by
        unfold NQ.one
        simp only [hxk]
       rw [e]
      ·have:=hP2.size;omega
    ·obtain rfl:i=(aY p).length:=by omega
     rw [List.take_length] at hnd
     have HR:=hl_ hB' hnd hS' hmem
     have hl5:=hB'.len
     clear hB' hnd hS' hmem hmz hrow hm' hip
     go_wp2_with fail
     go_ret2
     subst hl5
     exact ⟨B',b',qs',rfl,HR.out.1,by rw [HNU.out];exact HR.out.2.1,HR.out.2.2.1,HR.out.2.2.2⟩
end Go.Proofs.YtgcfjkfipkfijaaGreatDoor
namespace Go.Proofs.YtgcfjkfipkfijaaGreatDoor
open Go Go.RowKit Go.Lib _root_.Go.Proofs.Tryz
theorem sH (l:List UInt8):(⟨l.toArray⟩:ByteArray).size=l.length:=rfl
theorem Sh (l s):(cut l s).1.length≤l.length:=by
 unfold cut
 split
 ·exact List.length_take_le' _ _
 ·exact H_ _
theorem Nw (l):(eX l).1.text.size≤l.length:=by
 unfold eX
 simp only
 split
 ·split
  ·exact h_ _
  ·show (⟨(l.take _).toArray⟩:ByteArray).size≤_
   rw [sH]
   exact List.length_take_le' _ _
 ·split
  ·split
   ·show (⟨(l.take _).toArray⟩:ByteArray).size≤_
    rw [sH]
    exact List.length_take_le' _ _
   ·exact h_ _
  ·split
   ·unfold mN
    simp only
    split
    ·exact h_ _
    ·split
     ·exact h_ _
     ·split
      ·exact h_ _
      ·show (⟨(cut (cut (l.drop 1) [10]).1 [34]).1.toArray⟩:ByteArray).size≤_
       rw [sH]
       exact d_ (Sh _ _) (d_ (Sh _ _) (by simp))
   ·split
    ·show (⟨(l.take _).toArray⟩:ByteArray).size≤_
     rw [sH]
     exact List.length_take_le' _ _
    ·exact h_ _
theorem zW (N):∀(f:Nat) (l:List UInt8) (a:Int) (out:List bQ),l.length≤N→(∀t,t∈out→t.text.size≤N)→∀t,t∈(gJ f l a out).1→t.text.size≤N
 | 0,_,_,_,_,_,t,ht=>by simp [gJ] at ht
 | f+1,l,a,out,hl,ho,t,ht=>by
  rw [gJ] at ht
  split at ht
  ·rcases G_ ht with ht | ht
   ·exact ho t ht
   ·simp at ht;subst ht;exact h_ _
  ·simp only at ht
   generalize (if out.length=2000 then (2:Int) else (eX l).2.2)=e at ht
   split at ht
   ·simp at ht
   ·refine zW N f _ _ _ ?_ ?_ t ht
    ·refine d_ (iK _ _) ?_
     rw [Q_];omega
    ·intro t ht
     rcases G_ ht with ht | ht
     ·exact ho t ht
     ·simp at ht;subst ht
      exact d_ (Nw l) hl
theorem Nx (s):∀t,t∈(cI s).1→t.text.size≤8192:=by
 unfold cI
 split
 ·intro t ht;simp at ht
 ·split
  ·intro t ht;simp at ht
  ·rename_i h _
   refine zW 8192 _ _ _ _ ?_ (fun t ht=>by simp at ht)
   refine d_ (iK _ _) ?_
   have:=aJ s
   omega
theorem Cj {s} (h:(cI s).2.1=0):fZ (cI s).1:=by
 have he:=Ii s h
 refine ⟨he,fun a h1 h2=>Se a he ⟨h1,h2⟩,fun i=>?_⟩
 unfold aE
 split
 ·exact h_ _
 ·rw [S_]
  cases hh:(cI s).1[i.toNat]? with
  | none=>exact h_ _
  | some t=>exact Nx s t (List.mem_of_getElem? hh)
mutual
def cP:Pc→Nat
 | .row _ _ kids=>1+oQ kids
 | .choice _ a b=>3+(oQ a+oQ b)
 | .step _ _=>1
def oQ:List Pc→Nat
 | []=>0
 | p::ps=>cP p+oQ ps
end
theorem Si (N):(∀p:Pc,SizeOf.sizeOf p<N→∀b,(cX b p).length=cP p)∧∀ps:List Pc,SizeOf.sizeOf ps<N→∀b,(aV b ps).1.length=oQ ps:=by
 induction N with
 | zero=>exact ⟨fun p h=>by omega,fun ps h=>by omega⟩
 | succ N ih=>
  refine ⟨fun p h b=>?_,fun ps h b=>?_⟩
  ·cases p with
   | row k us kids=>
    rw [cX,cP,P_,ih.2 kids (by simp at h;omega)]
    omega
   | choice e x y=>
    simp at h
    rw [cX,cP]
    simp only [P_,O_]
    rw [ih.2 x (by omega),ih.2 y (by omega)]
    omega
   | step nm al=>rw [cX,cP];rfl
  ·cases ps with
   | nil=>rw [dR,oQ];rfl
   | cons p ps=>
    simp at h
    rw [cH,oQ]
    simp only [O_]
    rw [ih.1 p (by omega),ih.2 ps (by omega)]
theorem mY (b p):(cX b p).length=cP p:=(Si (SizeOf.sizeOf p+1)).1 p (by omega) b
theorem Lo:∀(a b:List Pc),oQ (a++b)=oQ a+oQ b
 | [],b=>by simp [oQ]
 | p::a,b=>by rw [List.cons_append,oQ,oQ,Lo a b];omega
def sI (l:List bQ) (m:Int) (nd:RS→Pc × RS):Prop:=∀s,iY l s→s.bad=0→m≤s.nodes→(nd s).2.bad=0→(cP (nd s).1:Int)≤(nd s).2.nodes - s.nodes
theorem wR {l m nd} (hon:fL l m nd) (hc:sI l m nd):∀(f:Nat) (ps:List Pc) (s:RS),iY l s→m≤s.nodes→(dB l nd f ps s).2.bad=0→s.bad=0∧(oQ (dB l nd f ps s).1:Int)≤oQ ps+((dB l nd f ps s).2.nodes - s.nodes)
 | 0,ps,s,h,_,hb=>⟨hb,by simp only [dB];omega⟩
 | f+1,ps,s,h,hm,hb=>by
  rw [dB] at hb ⊢
  split at hb
  ·rename_i hi
   rw [M_ hi]
   have h1:=hon s h hi.1 hm
   have h2:=wR hon hc f (ps++[(nd s).1]) (nd s).2 h1.1.1 (k_ hm h1.1.2) hb
   have h3:=hc s h hi.1 hm h2.1
   have h4:=h2.2
   rw [Lo] at h4
   simp only [oQ] at h4
   exact ⟨hi.1,by omega⟩
  ·rename_i hi
   rw [K_ hi]
   exact ⟨hb,by simp⟩
theorem Lp {l x s} (h:(bC l x s).bad=0):s.bad=0:=Decidable.byContradiction fun hc=>Lk hc h
theorem Wk {l x s}:(bC l x s).nodes=s.nodes:=by
 unfold bC aF bB fQ
 repeat' split
 all_goals rfl
theorem wS {l x s}:(aF l x s).2.nodes=s.nodes:=by
 unfold aF fQ
 split <;> rfl
theorem gV {l m nd} (hl:oP l) (hon:fL l m nd) (hc:sI l m nd) {s} (h:iY l s) (hm:m≤s.nodes) (hb:(aL l nd s).2.bad=0):s.bad=0∧(oQ (aL l nd s).1:Int)≤(aL l nd s).2.nodes - s.nodes:=by
 have h1:=aQ hl ⟨#[123]⟩ (by decide) h
 unfold aL at hb ⊢
 simp only at hb ⊢
 have h2:=wR hon hc 30 [] _ h1.1 (k_ hm h1.2) (Lp hb)
 refine ⟨Lp h2.1,?_⟩
 have h3:=h2.2
 rw [Wk] at h3 ⊢
 simp only [oQ] at h3
 omega
theorem sJ (n s):(aU n s).nodes=s.nodes+n:=by
 unfold aU bB
 repeat' split
 all_goals rfl
theorem Ny {l m nd} (hl:oP l) (ht:nR l) (hon:fL l (m+1) nd) (hc:sI l (m+1) nd) (w):sI l m (dI l (aL l nd) w):=fun s h hb hm hz=>by
 unfold dI at hz ⊢
 have one:=iB 1 (by decide) (by decide) hb h
 split at hz
 ·rename_i hw
  rw [M_ hw]
  have hw0:w.size≠0:=by rcases hw with hw | hw <;> exact jQ hw (by decide)
  have h1:=bK hl w hw0 one.1.1
  have h2:=(gV hl hon hc h1.1 (by have:=h1.2;have:=one.2;omega) hz).2
  rw [wS,sJ] at h2
  simp only [cP]
  omega
 ·rename_i hw
  rw [K_ hw]
  split at hz
  ·rename_i hu
   rw [M_ hu]
   have h1:=bK hl w (jQ hu (by decide)) one.1.1
   have h2:=h1.trans (cT hl [] h1.1)
   have h3:=h2.trans (oW hl 8 [(bG l [] (aF l w (aU 1 s)).2).1] _ h2.1)
   have h4:=(gV hl hon hc h3.1 (by have:=h3.2;have:=one.2;omega) hz).2
   have h5:=h3.2
   rw [sJ] at h5
   simp only [cP]
   omega
  ·rename_i hu
   rw [K_ hu]
   split at hz
   ·rename_i hi
    rw [M_ hi]
    have lG:=iB 3 (by decide) (by decide) hb h
    have h1:=bK hl w (jQ hi (by decide)) lG.1.1
    have h2:=h1.trans (lM ht h1.1)
    have h3:=h2.trans (dW hl hon h2.1 (by have:=h2.2;have:=lG.2;omega))
    have h4:=h3.trans (bK hl gF (by decide) h3.1)
    have h5:=h2.2
    rw [sJ] at h5
    simp only at hz ⊢
    split at hz
    ·rename_i he
     rw [M_ he]
     have k1:=gV hl hon hc h4.1 (by have:=h4.2;have:=lG.2;omega) hz
     rw [wJ,wS] at k1
     have k2:=(gV hl hon hc h2.1 (by have:=h2.2;have:=lG.2;omega) k1.1).2
     simp only [cP]
     omega
    ·rename_i he
     rw [K_ he]
     rw [wJ] at hz
     have k2:=(gV hl hon hc h2.1 (by have:=h2.2;have:=lG.2;omega) hz).2
     simp only [cP,oQ,wS]
     omega
   ·rename_i hi
    rw [K_ hi]
    split at hz
    ·rename_i hp
     rw [M_ hp]
     have h1:=bK hl w (jQ hp (by decide)) one.1.1
     have h2:=h1.trans (Du hl ht h1.1)
     have h3:=h2.2
     rw [sJ] at h3
     have e:cP (lK l (aF l w (aU 1 s)).2).1=1:=by unfold lK;simp only [cP]
     rw [e]
     omega
    ·exact absurd hz (cK (by decide) s)
theorem tR {l} (hl:oP l) (ht:nR l):∀f:Nat,sI l (25 - f) (gK l f)
 | 0=>fun s h hb hm _=>by have:=h.2.2.2.2 hb;omega
 | f+1=>fun s h hb hm hz=>by
  rw [gK] at hz ⊢
  have h1:=lN hl ht f
  have h2:=tR hl ht f
  have e:25 - ((f+1:Nat):Int)+1=25 - f:=by omega
  rw [←e] at h1 h2
  exact Ny hl ht h1 h2 _ s h hb hm hz
def Zx (M:List Nat) (w:World) (x:Nd) (cs:List Value):Prop:=
 ∃q:NQ,q.nd=x∧cs=q.enc∧(x.kids.length≤q.kc∧(aN.int .i64).Row M w q.kA x.kids)∧(x.units.length≤q.uc∧aN.str.Row M w q.uA x.units)∧(x.args.length≤q.gc∧oH.Row M w q.gA x.args)∧x.e.kids.length≤q.ec∧gU.Row M w q.eA x.e.kids
def yS:aN Nd:=⟨9,Zx,fun h=>by obtain ⟨q,_,rfl,_⟩:=h;rfl,
 fun h s=>by obtain ⟨q,h1,h2,h3,h4,h5,h6⟩:=h;exact ⟨q,h1,h2,⟨h3.1,h3.2.keep s⟩,⟨h4.1,h4.2.keep s⟩,⟨h5.1,h5.2.keep s⟩,h6.1,h6.2.keep s⟩,
 fun h s=>by obtain ⟨q,h1,h2,h3,h4,h5,h6⟩:=h;exact ⟨q,h1,h2,⟨h3.1,h3.2.less s⟩,⟨h4.1,h4.2.less s⟩,⟨h5.1,h5.2.less s⟩,h6.1,h6.2.less s⟩⟩
theorem zX:∀xs:List Int,xs.map (Value.int .i64 ·)=xs.flatMap (fun x=>[Value.int .i64 x])
 | []=>rfl
 | x::xs=>by rw [List.map_cons,i_,zX xs];rfl
theorem Sj {w b0 t P A c xs} (h:w.ownsRow b0 t 1 (.slice A xs.length c) xs.length (xs.map (Value.int .i64 ·))) (hP:∀k,P k→k<b0):aO (aN.int .i64) P w A c xs:=by
 have e:xs.map (Value.int .i64 ·)=(xs.map (fun x=>(x,[Value.int .i64 x]))).flatMap (·.2):=by
  rw [List.flatMap_map]
  exact zX xs
 have hG:aR (aN.int .i64) t b0 P w A xs.length c (xs.map (fun x=>(x,[Value.int .i64 x]))):=⟨by simp,by rw [e] at h;exact h,fun q hq=>by
  obtain ⟨x,_,rfl⟩:=List.mem_map.1 hq
  exact fun _ _=>rfl⟩
 have h1:=hG.out hP (fun q hq=>by obtain ⟨x,_,rfl⟩:=List.mem_map.1 hq;rfl)
 rwa [List.map_map,show ((fun q:Int × List Value=>q.1) ∘ fun x=>(x,[Value.int .i64 x]))=id from rfl,List.map_id] at h1
theorem dF.out {b0 P w B n b qs} (h:dF b0 P w B n b qs) (hP:∀k,P k→k<b0):aO yS P w B b (qs.map (·.nd)):=by
 have hl':=h.len
 rcases h.own.2 with ⟨h',h0⟩ | ⟨g,cap,cur,hv,hg,hh,h1,h2,h3,h4⟩
 ·have:qs=[]:=X_ (by omega)
  subst this
  exact aO.nil _ _ _ _ _
 ·injection hv with e1 _ e3
  subst e1 e3
  refine ⟨by rw [U_];omega,fun M hM=>⟨by rw [U_];simp only [maxLen] at h2;omega,fun hn=>⟨⟨g,0,none⟩,rfl,fun hc=>?_,(C_ hh).1,fun i hi=>?_⟩⟩⟩
  ·have:=hP _ (hM _ hc)
   simp at this
   omega
  ·have hi':i<qs.length:=by simpa using hi
   have hm:=g_ hi'
   have hr:=h.rest _ hm
   have hk:=Sj (h.kid _ hm) hP
   refine ⟨qs[i].enc,⟨qs[i],by rw [List.getElem_map],rfl,?_,?_,?_,?_,?_⟩,fun j u hu=>?_⟩
   ·rw [List.getElem_map];exact ⟨hk.1,hk.2 M hM⟩
   ·rw [List.getElem_map];exact ⟨hr.us.1,hr.us.2 M (fun k hk=>.inl (hM k hk))⟩
   ·rw [List.getElem_map];exact ⟨hr.gs.1,hr.gs.2 M (fun k hk=>.inl (hM k hk))⟩
   ·rw [List.getElem_map];exact hr.ex.1
   ·rw [List.getElem_map];exact hr.ex.2 M (fun k hk=>.inl (hM k hk))
   ·have hj:j<9:=(List.getElem?_eq_some_iff.1 hu).1
    exact h.own.cells (g:=g) rfl (i*9+j) u (by rw [cQ (f:=NQ.enc) (n:=9) (fun _=>rfl) qs i j hi' hj];exact hu)
end Go.Proofs.YtgcfjkfipkfijaaGreatDoor
