/- Part 1 of the proof of rtrees_card; no conditions. -/
import Derived.Below
import Derived.Laws.OwnMore
import Derived.Deep.Draws
import Derived.WalkKit
import Derived.Lib.TrimUEq
import Derived.Lib.MapLaws
import Derived.Lib.ValidLaws
import Derived.Lib.RuneCount
import Derived.Lib.IndexMore
import Derived.Lib.Hide
import Derived.RowKit3
import Derived.Test.YtgcfjkfipkfijaaGreatDoorProg
namespace Go.Proofs.YtgcfjkfipkfijaaGreatDoor
open Go Go.RowKit Go.Lib
theorem alo_ (w:World) (o:Obj):∃x,w.alloc o=x∧Below w.heap.size w x∧x.heap[w.heap.size]? = some o:=⟨_,rfl,(Below.refl _ _).alloc (Nat.le_refl _) _,heap_alloc_new _ _⟩
theorem tm_ {w a b:World} (h:Hid (Below w.heap.size w a)) (k:Below a.heap.size a b):Hid (Below w.heap.size w b):=h.out.trans (k.mono h.out.size)
theorem bp_ {a b:World} {k:Nat} {o:Obj} (h:Below a.heap.size a b) (H:a.heap[k]? = some o):b.heap[k]? = some o:=(h.block k (Array.getElem?_eq_some_iff.1 H).1).trans H
theorem bl_ {a b:World} {k:Nat} {o:Obj} (h:Below a.heap.size a b) (H:Hid (a.heap[k]? = some o)):Hid (b.heap[k]? = some o):=bp_ h H.out
theorem nm_.{u} {α:Sort u} (a:α):∃b,a=b:=⟨_,rfl⟩
theorem hj_ {p q:Prop} (a:p) (b:q):Hid (p∧q):=⟨a,b⟩
theorem hk_ {p q r:Prop} (a:p) (b:q) (c:r):Hid (p∧q∧r):=⟨a,b,c⟩
theorem hl_ {p q r s:Prop} (a:p) (b:q) (c:r) (d:s):Hid (p∧q∧r∧s):=⟨a,b,c,d⟩
theorem hm_ {p q r s t:Prop} (a:p) (b:q) (c:r) (d:s) (e:t):Hid (p∧q∧r∧s∧t):=⟨a,b,c,d,e⟩
theorem pk_ (n k:Nat) (h:k≤n):∃m,n=m+k:=⟨n - k,by omega⟩
theorem le_ {n:Nat}:n≤n:=Nat.le_refl n
theorem A_ {α:Type _} [BEq α] [LawfulBEq α] {a b:α} (h:a≠b):(a == b)=false:=beq_eq_false_iff_ne.2 h
theorem B_ {α:Type _} [BEq α] [LawfulBEq α] {a b:α} (h:a≠b):(a != b)=true:=bne_iff_ne.2 h
theorem C_ {α:Type _} {xs:Array α} {i:Nat} {b:α} (h:xs[i]? = some b):∃h:i<xs.size,xs[i]=b:=Array.getElem?_eq_some_iff.1 h
theorem D_ {α:Type _} [BEq α] [LawfulBEq α] {a b:α} (h:a=b):(a == b)=true:=beq_iff_eq.2 h
theorem E_ {b:Bool} (h:b≠true):b=false:=Bool.eq_false_iff.2 h
theorem F_ {α:Type _} {l:List α} (h:l≠[]):0<l.length:=List.length_pos_iff.2 h
theorem G_ {α:Type _} {a:α} {s t:List α} (h:a∈s++t):a∈s∨a∈t:=List.mem_append.1 h
abbrev H_:=@Nat.le_refl
abbrev I_:=@heap_alloc_new
abbrev J_:=@Below.refl
abbrev K_:=@if_neg
abbrev L_:=@bodyPost_ret
abbrev M_:=@if_pos
abbrev N_:=@World.block_lt_of_cell?
abbrev O_:=@List.length_append
abbrev P_:=@List.length_cons
abbrev Q_:=@List.length_drop
abbrev R_:=@List.getElem?_eq_getElem
abbrev S_:=@List.getD_eq_getElem?_getD
abbrev T_:=@And.intro
abbrev U_:=@List.length_map
abbrev V_:=@decide_eq_false
abbrev W_:=@decide_eq_true
abbrev X_:=@List.eq_nil_of_length_eq_zero
abbrev Y_:=@Nat.lt_of_lt_of_le
abbrev Z_:=@List.take_succ_eq_append_getElem
abbrev a_:=@Bool.and_eq_true
abbrev b_:=@List.length_nil
abbrev c_:=@congrArg
abbrev d_:=@Nat.le_trans
abbrev e_:=@Option.some.inj
abbrev f_:=@List.map_append
abbrev g_:=@List.getElem_mem
abbrev h_:=@Nat.zero_le
abbrev i_:=@List.flatMap_cons
abbrev j_:=@Nat.le_of_lt
abbrev k_:=@Int.le_trans
abbrev l_:=@List.length_take
abbrev m_:=@Int.le_refl
abbrev n_:=@List.exists_cons_of_ne_nil
abbrev o_:=@Nat.lt_succ_self
abbrev p_:=@List.append_assoc
abbrev q_:=@List.flatMap_append
abbrev r_:=@Int.eq_ofNat_of_zero_le
end Go.Proofs.YtgcfjkfipkfijaaGreatDoor
namespace Go.Proofs.YtgcfjkfipkfijaaGreatDoor
open Go Go.RowKit _root_.Go.Proofs.Tryz
structure Same (M:List Nat) (w w':World):Prop where
 os:w'.os=w.os
 tape:w'.tape=w.tape
 output:w'.output=w.output
 size:w.heap.size≤w'.heap.size
 block:∀k,k<w.heap.size→k∉M→w'.heap[k]? = w.heap[k]?
namespace Same
variable {M M' : List Nat} {a b c w w' : World}
theorem refl (M w):Same M w w:=⟨rfl,rfl,rfl,H_ _,fun _ _ _=>rfl⟩
theorem trans (h:Same M a b) (k:Same M' b c) (hm:∀x,x∈M'→x∈M∨a.heap.size≤x):Same M a c:=
 ⟨k.os.trans h.os,k.tape.trans h.tape,k.output.trans h.output,d_ h.size k.size,fun i hi hn=>
  (k.block i (Y_ hi h.size) (fun hc=>(hm i hc).elim hn (fun h'=>by omega))).trans (h.block i hi hn)⟩
theorem then_ (h:Same M a b) (k:Same M b c):Same M a c:=h.trans k (fun _ hx=>Or.inl hx)
theorem mono (h:Same M w w') (hm:∀x,x∈M→x∈M'):Same M' w w':=⟨h.os,h.tape,h.output,h.size,fun i hi hn=>h.block i hi (fun hc=>hn (hm i hc))⟩
theorem of_below (h:Below w.heap.size w w'):Same M w w':=⟨h.os,h.tape,h.output,h.size,fun i hi _=>h.block i hi⟩
theorem below (h:Same [] w w'):Below w.heap.size w w':=⟨h.os,h.tape,h.output,h.size,fun i hi=>h.block i hi (by simp)⟩
theorem below_ (h:Same M a b) (k:Below b.heap.size b c):Same M a c:=h.trans (of_below (M:=[]) k) (fun _ hx=>by simp at hx)
theorem below_of (h:Same M w w') (hM:∀k,k∈M→w.heap.size≤k):Below w.heap.size w w':=⟨h.os,h.tape,h.output,h.size,fun i hi=>h.block i hi (fun hc=>by have:=hM i hc;omega)⟩
theorem alloc (h:Same M a w) (o):Same M a (w.alloc o):=
 h.trans (M':=[]) ⟨rfl,rfl,rfl,by simp,fun i hi _=>Below.heap_alloc _ _ _ hi⟩ (fun _ hx=>by simp at hx)
theorem drew (h:Same M a w):Same M a w.drew:=⟨h.os,h.tape,h.output,h.size,h.block⟩
theorem drewN (h:Same M a w) (n):Same M a (w.drewN n):=⟨h.os,h.tape,h.output,h.size,h.block⟩
theorem setCell (h:Same M a w) {p} (hp:p.block∈M∨a.heap.size≤p.block) (v):Same M a (w.setCell p v):=
 h.trans (M':=[p.block]) ⟨rfl,rfl,rfl,by simp [World.setCell],fun i _ hn=>Below.heap_setCell _ _ _ _ (by simpa using hn)⟩
  (fun x hx=>by simp at hx;subst hx;exact hp)
theorem grown (h:Same M a w) {row} (hg:w.grownBy w' row) (hr:∀k,row=some k→k∈M∨a.heap.size≤k):Same M a w':=
 h.trans (M':=row.toList) ⟨hg.os,hg.tape,hg.output,hg.size,fun i hi hn=>hg.block i hi (fun e=>hn (by rw [←e];simp))⟩
  (fun x hx=>hr x (by cases row <;> simp_all))
theorem cell (h:Same M w w') {p v} (hp:p.block∉M) (hc:w.cell? p=some v):w'.cell? p=some v:=
 (World.cell?_of_block (w:=w) (h.block p.block (N_ w p hc) hp)).trans hc
theorem heap (h:Same M w w') {k o} (hk:k∉M) (ho:w.heap[k]? = some o):w'.heap[k]? = some o:=
 (h.block k (C_ ho).1 hk).trans ho
end Same
structure aN (α:Type) where
 sz:Nat
 rep:List Nat→World→α→List Value→Prop
 len:∀{M w x cs},rep M w x cs→cs.length=sz
 keep:∀{M w w' x cs},rep M w x cs→Same M w w'→rep M w' x cs
 less:∀{M M' w x cs},rep M w x cs→(∀k,k∈M'→k∈M∨w.heap.size≤k)→rep M' w x cs
namespace aN
variable {α β : Type}
def int (k:IntKind):aN Int:=⟨1,fun _ _ x cs=>cs=[.int k x],fun h=>by rw [h];rfl,fun h _=>h,fun h _=>h⟩
def bool:aN Bool:=⟨1,fun _ _ x cs=>cs=[.bool x],fun h=>by rw [h];rfl,fun h _=>h,fun h _=>h⟩
def str:aN ByteArray:=⟨1,fun _ _ x cs=>cs=[.string x],fun h=>by rw [h];rfl,fun h _=>h,fun h _=>h⟩
def pair (p:aN α) (q:aN β):aN (α × β):=
 ⟨p.sz+q.sz,fun M w x cs=>∃c d,cs=c++d∧p.rep M w x.1 c∧q.rep M w x.2 d,
  fun h=>by obtain ⟨c,d,rfl,h1,h2⟩:=h;rw [O_,p.len h1,q.len h2],
  fun h s=>by obtain ⟨c,d,rfl,h1,h2⟩:=h;exact ⟨c,d,rfl,p.keep h1 s,q.keep h2 s⟩,
  fun h s=>by obtain ⟨c,d,rfl,h1,h2⟩:=h;exact ⟨c,d,rfl,p.less h1 s,q.less h2 s⟩⟩
def iso (p:aN β) (f:α→β):aN α:=⟨p.sz,fun M w x cs=>p.rep M w (f x) cs,fun h=>p.len h,fun h s=>p.keep h s,fun h s=>p.less h s⟩
def Row (d:aN α) (M:List Nat) (w:World) (A:Option Addr) (xs:List α):Prop:=
 xs.length≤9223372036854775807∧(0<xs.length→∃ad,A=some ad∧ad.block∉M∧ad.block<w.heap.size ∧
  ∀i (h:i<xs.length),∃cs,d.rep M w xs[i] cs∧∀j u,cs[j]? = some u→w.cell? (ad.add (i*d.sz+j))=some u)
theorem block_add (a:Addr) (n:Nat):(a.add n).block=a.block:=by unfold Addr.add;split <;> rfl
theorem add_add (a:Addr) (i j:Nat):(a.add i).add j=a.add (i+j):=by
 unfold Addr.add
 by_cases hi:i=0 <;> by_cases hj:j=0 <;> simp [hi,hj,Nat.add_assoc]
theorem add_field (a:Addr) (p j:Nat) (hj:0<j):a.add (p+j)=⟨(a.add p).block,(a.add p).off+j,none⟩:=by
 have h:∀b:Addr,b.add j=⟨b.block,b.off+j,none⟩:=fun b=>by unfold Addr.add;rw [K_ (by omega)]
 rw [←add_add,h]
theorem Row.keep {d:aN α} {M:List Nat} {w w':World} {A:Option Addr} {xs:List α} (h:d.Row M w A xs) (s:Same M w w'):d.Row M w' A xs:=
 ⟨h.1,fun hn=>by
  obtain ⟨ad,e,hb,hl,hc⟩:=h.2 hn
  refine ⟨ad,e,hb,Y_ hl s.size,fun i hi=>?_⟩
  obtain ⟨cs,hk,hcs⟩:=hc i hi
  exact ⟨cs,d.keep hk s,fun j u hu=>s.cell (by rw [block_add];exact hb) (hcs j u hu)⟩⟩
theorem Row.less {d:aN α} {M M':List Nat} {w:World} {A:Option Addr} {xs:List α} (h:d.Row M w A xs) (hm:∀k,k∈M'→k∈M∨w.heap.size≤k):d.Row M' w A xs:=
 ⟨h.1,fun hn=>by
  obtain ⟨ad,e,hb,hl,hc⟩:=h.2 hn
  refine ⟨ad,e,fun hb'=>(hm _ hb').elim hb (fun h1=>by omega),hl,fun i hi=>?_⟩
  obtain ⟨cs,hk,hcs⟩:=hc i hi
  exact ⟨cs,d.less hk hm,hcs⟩⟩
theorem Row.nil (d:aN α) (M:List Nat) (w:World) (A:Option Addr):d.Row M w A []:=⟨by simp,fun h=>absurd h (by simp)⟩
theorem Row.imp {d d':aN α} {M:List Nat} {w:World} {A:Option Addr} {xs:List α} (hs:d'.sz=d.sz) (h:d.Row M w A xs)
  (hi:∀x cs,x∈xs→d.rep M w x cs→d'.rep M w x cs):d'.Row M w A xs:=
 ⟨h.1,fun hn=>by
  obtain ⟨ad,e,hb,hl,hc⟩:=h.2 hn
  refine ⟨ad,e,hb,hl,fun i hi'=>?_⟩
  obtain ⟨cs,hk,hcs⟩:=hc i hi'
  exact ⟨cs,hi _ _ (g_ hi') hk,by rw [hs];exact hcs⟩⟩
theorem Row.at_ {d:aN α} {M:List Nat} {w:World} {A:Option Addr} {xs:List α} (h:d.Row M w A xs) (k) (hk:k<xs.length) :
  ∃ad cs,A=some ad∧ad.block∉M∧d.rep M w xs[k] cs∧∀j u,cs[j]? = some u→w.cell? (ad.add (k*d.sz+j))=some u:=by
 obtain ⟨ad,e,hb,_,hc⟩:=h.2 (by omega)
 obtain ⟨cs,h1,h2⟩:=hc k hk
 exact ⟨ad,cs,e,hb,h1,h2⟩
def slice (d:aN α):aN (List α):=
 ⟨1,fun M w xs cs=>∃A c,cs=[.slice A xs.length c]∧xs.length≤c∧d.Row M w A xs,
  fun h=>by obtain ⟨A,c,rfl,_⟩:=h;rfl,
  fun h s=>by obtain ⟨A,c,e,h1,h2⟩:=h;exact ⟨A,c,e,h1,h2.keep s⟩,
  fun h s=>by obtain ⟨A,c,e,h1,h2⟩:=h;exact ⟨A,c,e,h1,h2.less s⟩⟩
end aN
end Go.Proofs.YtgcfjkfipkfijaaGreatDoor
namespace Go.Proofs.YtgcfjkfipkfijaaGreatDoor
open Go Go.RowKit _root_.Go.Proofs.Tryz
structure bQ where
 kind:Int
 text:ByteArray
 n:Int
 at_:Int
inductive Ex where
 | mk (op:Int) (n:Int) (name:ByteArray) (kids:List Ex)
namespace Ex
def op:Ex→Int | .mk o _ _ _=>o
def n:Ex→Int | .mk _ n _ _=>n
def name:Ex→ByteArray | .mk _ _ s _=>s
def kids:Ex→List Ex | .mk _ _ _ k=>k
theorem eta (e:Ex):e=.mk e.op e.n e.name e.kids:=by cases e;rfl
end Ex
def cN:aN bQ:=aN.iso (.pair (.int .i64) (.pair .str (.pair (.int .i64) (.int .i64)))) (fun t=>(t.kind,t.text,t.n,t.at_))
def Ks:Nat→aN Ex
 | 0=>⟨4,fun _ _ _ _=>False,fun h=>h.elim,fun h _=>h.elim,fun h _=>h.elim⟩
 | d+1=>aN.iso (.pair (.int .i64) (.pair (.int .i64) (.pair .str (.slice (Ks d))))) (fun e=>(e.op,e.n,e.name,e.kids))
theorem vQ:∀d,(Ks d).sz=4
 | 0=>rfl
 | _+1=>rfl
theorem rS {d M w e cs}:(Ks (d+1)).rep M w e cs ↔
  ∃A c,cs=[.int .i64 e.op,.int .i64 e.n,.string e.name,.slice A e.kids.length c]∧e.kids.length≤c∧(Ks d).Row M w A e.kids:=by
 constructor
 ·rintro ⟨_,_,rfl,rfl,_,_,rfl,rfl,_,_,rfl,rfl,A,c,rfl,h1,h2⟩
  exact ⟨A,c,rfl,h1,h2⟩
 ·rintro ⟨A,c,rfl,h1,h2⟩
  exact ⟨[.int .i64 e.op],[.int .i64 e.n,.string e.name,.slice A e.kids.length c],rfl,rfl,[.int .i64 e.n],[.string e.name,.slice A e.kids.length c],rfl,rfl,[.string e.name],[.slice A e.kids.length c],rfl,rfl,A,c,rfl,h1,h2⟩
theorem Df:∀{d:Nat} {M:List Nat} {w:World} {e:Ex} {cs:List Value},(Ks d).rep M w e cs→(Ks (d+1)).rep M w e cs
 | 0,_,_,_,_,h=>h.elim
 | d+1,M,w,e,cs,h=>by
  obtain ⟨A,c,rfl,h1,h2⟩:=rS.1 h
  exact rS.2 ⟨A,c,rfl,h1,h2.imp (by rw [vQ,vQ]) (fun x cs _ hx=>Df hx)⟩
theorem Qr {d d'} (hd:d≤d') {M w e cs} (h:(Ks d).rep M w e cs):(Ks d').rep M w e cs:=by
 induction hd with
 | refl=>exact h
 | step _ ih=>exact Df ih
def gU:aN Ex:=⟨4,fun M w e cs=>∃d,(Ks d).rep M w e cs,fun h=>by obtain ⟨d,h⟩:=h;rw [(Ks d).len h,vQ],fun h s=>h.imp fun d h=>(Ks d).keep h s,fun h s=>h.imp fun d h=>(Ks d).less h s⟩
theorem oR {M w e cs} (h:gU.rep M w e cs) :
  ∃A c,cs=[.int .i64 e.op,.int .i64 e.n,.string e.name,.slice A e.kids.length c]∧e.kids.length≤c∧gU.Row M w A e.kids:=by
 obtain ⟨d,h⟩:=h
 cases d with
 | zero=>exact h.elim
 | succ d=>
  obtain ⟨A,c,rfl,h1,h2⟩:=rS.1 h
  exact ⟨A,c,rfl,h1,h2.imp (by rw [vQ];rfl) (fun x cs _ hx=>⟨d,hx⟩)⟩
theorem Vk {M w A ks} (h:gU.Row M w A ks):∃d,(Ks d).Row M w A ks:=by
 by_cases hn:0<ks.length
 ·obtain ⟨ad,e,hb,hl,hc⟩:=h.2 hn
  have key:∀m,m≤ks.length→∃d,∀i (hi:i<ks.length),i<m→∃cs,(Ks d).rep M w ks[i] cs∧∀j u,cs[j]? = some u→w.cell? (ad.add (i*4+j))=some u:=by
   intro m
   induction m with
   | zero=>intro _;exact ⟨0,fun i _ h=>absurd h (by omega)⟩
   | succ m ih=>
    intro hm
    obtain ⟨d,hd⟩:=ih (by omega)
    obtain ⟨cs,⟨d',h'⟩,hcs⟩:=hc m (by omega)
    refine ⟨d+d',fun i hi him=>?_⟩
    by_cases e:i=m
    ·subst e;exact ⟨cs,Qr (by omega) h',hcs⟩
    ·obtain ⟨cs,h1,h2⟩:=hd i hi (by omega)
     exact ⟨cs,Qr (by omega) h1,h2⟩
  obtain ⟨d,hd⟩:=key ks.length le_
  refine ⟨d,h.1,fun _=>⟨ad,e,hb,hl,fun i hi=>?_⟩⟩
  rw [vQ]
  exact hd i hi hi
 ·exact ⟨0,h.1,fun h=>absurd h hn⟩
theorem vR {M w e A c} (h1:e.kids.length≤c) (h2:gU.Row M w A e.kids) :
  gU.rep M w e [.int .i64 e.op,.int .i64 e.n,.string e.name,.slice A e.kids.length c]:=by
 obtain ⟨d,h⟩:=Vk h2
 exact ⟨d+1,rS.2 ⟨A,c,rfl,h1,h⟩⟩
theorem Qs {M w A ks} (h:gU.Row M w A ks) (k) (hk:k<ks.length) :
  ∃ad A' c',A=some ad∧w.cell? (ad.add (k*4))=some (.int .i64 ks[k].op)∧w.cell? ⟨(ad.add (k*4)).block,(ad.add (k*4)).off+1,none⟩=some (.int .i64 ks[k].n) ∧
   w.cell? ⟨(ad.add (k*4)).block,(ad.add (k*4)).off+2,none⟩=some (.string ks[k].name)∧w.cell? ⟨(ad.add (k*4)).block,(ad.add (k*4)).off+3,none⟩=some (.slice A' ks[k].kids.length c') ∧
   ks[k].kids.length≤c'∧gU.Row M w A' ks[k].kids∧ad.block∉M:=by
 obtain ⟨ad,cs,e,hb,hr,hc⟩:=h.at_ k hk
 obtain ⟨A',c',rfl,h1,h2⟩:=oR hr
 have hc0:∀j u,_→w.cell? (ad.add (k*4+j))=some u:=hc
 exact ⟨ad,A',c',e,hc0 0 _ rfl,by rw [←aN.add_field _ _ 1 (by omega)];exact hc0 1 _ rfl,by rw [←aN.add_field _ _ 2 (by omega)];exact hc0 2 _ rfl,by rw [←aN.add_field _ _ 3 (by omega)];exact hc0 3 _ rfl,h1,h2,hb⟩
theorem rT {M w ad ks} (h:gU.Row M w (some ad) ks) (k) (hk:k<ks.length) :
  ∃A' c',w.cell? (ad.add (k*4))=some (.int .i64 ks[k].op)∧w.cell? ⟨(ad.add (k*4)).block,(ad.add (k*4)).off+1,none⟩=some (.int .i64 ks[k].n) ∧
   w.cell? ⟨(ad.add (k*4)).block,(ad.add (k*4)).off+2,none⟩=some (.string ks[k].name)∧w.cell? ⟨(ad.add (k*4)).block,(ad.add (k*4)).off+3,none⟩=some (.slice A' ks[k].kids.length c') ∧
   ks[k].kids.length≤c'∧gU.Row M w A' ks[k].kids∧ad.block∉M:=by
 obtain ⟨ad',A',c',e,h⟩:=Qs h k hk
 injection e with e
 subst e
 exact ⟨A',c',h⟩
theorem Yp {M w A ks} (h:cN.Row M w A ks) (k) (hk:k<ks.length) :
  ∃ad,A=some ad∧w.cell? (ad.add (k*4))=some (.int .i64 ks[k].kind)∧w.cell? ⟨(ad.add (k*4)).block,(ad.add (k*4)).off+1,none⟩=some (.string ks[k].text) ∧
   w.cell? ⟨(ad.add (k*4)).block,(ad.add (k*4)).off+2,none⟩=some (.int .i64 ks[k].n)∧w.cell? ⟨(ad.add (k*4)).block,(ad.add (k*4)).off+3,none⟩=some (.int .i64 ks[k].at_)∧ad.block∉M:=by
 obtain ⟨ad,cs,e,hb,⟨_,_,rfl,rfl,_,_,rfl,rfl,_,_,rfl,rfl,rfl⟩,hc⟩:=h.at_ k hk
 have hc0:∀j u,_→w.cell? (ad.add (k*4+j))=some u:=hc
 exact ⟨ad,e,hc0 0 _ rfl,by rw [←aN.add_field _ _ 1 (by omega)];exact hc0 1 _ rfl,by rw [←aN.add_field _ _ 2 (by omega)];exact hc0 2 _ rfl,by rw [←aN.add_field _ _ 3 (by omega)];exact hc0 3 _ rfl,hb⟩
end Go.Proofs.YtgcfjkfipkfijaaGreatDoor
namespace Go.Proofs.YtgcfjkfipkfijaaGreatDoor
open Go Go.RowKit Go.Lib _root_.Go.Proofs.Tryz
def qP:Nat→List UInt8→List (Nat × Nat)
 | 0,_=>[]
 | n+1,l=>if l=[] then [] else decodeL l::qP n (l.drop (decodeL l).2)
def aI (l:List UInt8):List (Nat × Nat):=qP l.length l
theorem nJ:∀n,qP n []=[]
 | 0=>rfl
 | _+1=>rfl
theorem Dg:∀(n m:Nat) (l:List UInt8),l.length≤n→l.length≤m→qP n l=qP m l:=by
 intro n
 induction n with
 | zero=>intro m l hn _;rw [X_ (by omega:l.length=0),nJ,nJ]
 | succ n ih=>
  intro m l hn hm
  by_cases hl:l=[]
  ·rw [hl,nJ,nJ]
  ·have h1:0<l.length:=F_ hl
   obtain ⟨m,rfl⟩:=pk_ m 1 (by omega)
   have hw:=decodeL_width l
   simp only [qP,K_ hl]
   rw [ih m _ (by rw [Q_];omega) (by rw [Q_];omega)]
theorem pP:aI []=[]:=rfl
theorem bD (l) (h:l≠[]):aI l=decodeL l::aI (l.drop (decodeL l).2):=by
 have h1:0<l.length:=F_ h
 have hw:=decodeL_width l
 unfold aI
 obtain ⟨n,hn⟩:∃k,l.length=k+1:=⟨l.length - 1,by omega⟩
 rw [hn]
 simp only [qP,K_ h]
 rw [Dg n _ _ (by rw [Q_];omega) le_]
theorem iH (s pos) (h:pos<s.size) :
  aI (s.data.toList.drop pos)=Utf8.decode s pos::aI (s.data.toList.drop (pos+(Utf8.decode s pos).2)):=by
 have hl:s.data.toList.drop pos≠[]:=by
  intro e
  have:=c_ List.length e
  simp at this
  have:s.data.size=s.size:=rfl
  omega
 rw [bD _ hl,decodeL_drop,List.drop_drop]
theorem fX (s:ByteArray) (pos:Nat) (h:¬pos<s.size):aI (s.data.toList.drop pos)=[]:=by
 rw [List.drop_of_length_le (by simp;have:s.data.size=s.size:=rfl;omega),pP]
theorem jN (s pos) (h:pos<s.size):pos+(Utf8.decode s pos).2≤s.size:=by
 have hl:s.data.toList.drop pos≠[]:=by
  intro e
  have:=c_ List.length e
  simp at this
  have:s.data.size=s.size:=rfl
  omega
 have:=decodeL_le _ hl
 rw [decodeL_drop] at this
 simp at this
 have:s.data.size=s.size:=rfl
 omega
theorem qF (s):∀(fuel pos:Nat),s.size≤pos+fuel→runeCountFrom s fuel pos=(aI (s.data.toList.drop pos)).length:=by
 intro fuel
 induction fuel with
 | zero=>intro pos h;rw [fX s pos (by omega)];rfl
 | succ n ih=>
  intro pos h
  simp only [runeCountFrom]
  by_cases hp:pos<s.size
  ·have:=decode_width_pos s pos hp
   rw [M_ hp,iH s pos hp,ih _ (by omega),P_]
   omega
  ·rw [K_ hp,fX s pos hp];rfl
theorem gP (s):runeCount s=(aI s.data.toList).length:=by
 unfold runeCount
 rw [qF s _ _ (by omega),List.drop_zero]
theorem rU (l):validD l=(aI l).all (fun r=>!(r == (65533,1))):=by
 obtain ⟨n,hn⟩:=nm_ l.length
 induction n using Nat.strongRecOn generalizing l with
 | _ n ih=>
  by_cases hl:l=[]
  ·subst hl;rfl
  ·have h1:0<l.length:=F_ hl
   have hw:=decodeL_width l
   rw [validD_step l hl,bD l hl,List.all_cons]
   by_cases hb:(decodeL l).1=65533∧(decodeL l).2=1
   ·rw [M_ hb]
    have:(decodeL l)=(65533,1):=Prod.ext hb.1 hb.2
    simp [this]
   ·rw [K_ hb,ih _ (by rw [←hn,Q_];omega) _ rfl]
    have:(decodeL l == (65533,1))=false:=by
     rw [beq_eq_false_iff_ne];intro e;exact hb ⟨by rw [e],by rw [e]⟩
    simp [this]
def oE:List UInt8:=[40,41,123,125,44,59,58,61,43,45,42,47,37,60,62,33,38,124]
def dJ (r:Int):Int:=
 if r=32∨r=9∨r=13∨r=10 then 1
 else if (97≤r∧r≤122)∨(65≤r∧r≤90)∨r=95 then 2
 else if 192≤r∧r≤591∧r≠215∧r≠247 then 2
 else if 48≤r∧r≤57 then 3
 else if r=34 then 5
 else if r=35 then 6
 else if 32<r∧r<127∧0≤indexByte oE r.toNat.toUInt8 then 4
 else 0
def Hk (r:Nat):Bool:=dJ r == 2 || dJ r == 3
def iT (rs:List (Nat × Nat)):Bool:=rs.all fun r=>Hk r.1
def nK (s:ByteArray):Bool:=iT (aI s.data.toList) && decide (s.size≠0)
def qQ:Int→List (Nat × Nat)→Int
 | _,[]=>-1
 | k,r::rs=>if r=(65533,1) then k else qQ (k+1) rs
def eN:List (Nat × Nat)→Nat
 | []=>0
 | r::rs=>if Hk r.1 then r.2+eN rs else 0
def yU:Nat→List (Nat × Nat)→Option Nat
 | a,[]=>some a
 | a,r::rs=>if dJ r.1=3 then yU (10*a+(r.1 - 48)) rs else none
def Vl:Option Nat→Int × Bool
 | none=>(0,false)
 | some n=>if 9223372036854775807<n then (0,false) else (n,true)
def qG (s:ByteArray):Int × Bool:=
 if s.size=0∨19<s.size∨1<s.size∧s.data.toList.getD 0 0=48 then (0,false) else Vl (yU 0 (aI s.data.toList))
def gI (s:ByteArray):Bool:=
 validD s.data.toList && nK s && (decide ((s.data.toList.getD 0 0).toNat<48) || decide (57<(s.data.toList.getD 0 0).toNat)) && decide ((aI s.data.toList).length≤12)
end Go.Proofs.YtgcfjkfipkfijaaGreatDoor
namespace Go.Proofs.YtgcfjkfipkfijaaGreatDoor
open Go Go.RowKit Go.Lib _root_.Go.Proofs.Tryz
def kJ (l:List UInt8):Nat:=
 match l with
 | []=>0
 | c::_=>if dJ c.toNat=1 then 1 else if dJ c.toNat=6 then (if indexByte l 10<0 then l.length else (indexByte l 10).toNat) else 0
def oS:Nat→List UInt8→Int→List UInt8 × Int
 | 0,l,a=>(l,a)
 | f+1,l,a=>if kJ l=0 then (l,a) else oS f (l.drop (kJ l)) (a+(aI (l.take (kJ l))).length)
def cB:bQ:=⟨0,⟨#[]⟩,0,0⟩
def mN (l:List UInt8):bQ × Int × Int:=
 let c:=cut (cut (l.drop 1) [10]).1 [34]
 if c.2.2=false then (cB,0,11)
 else if (aI c.1).any (fun r=>decide (r.1<32)) then (cB,0,11)
 else if 20<(aI c.1).length then (cB,0,2)
 else (⟨3,bytes' c.1,0,0⟩,c.1.length+2,0)
where bytes' (l:List UInt8):ByteArray:=⟨l.toArray⟩
def eX (l:List UInt8):bQ × Int × Int:=
 let k:=dJ (decodeL l).1
 let n:=eN (aI l)
 if k=2 then (if 12<(aI (l.take n)).length then (cB,0,2) else (⟨1,⟨(l.take n).toArray⟩,0,0⟩,n,0))
 else if k=3 then (if (qG ⟨(l.take n).toArray⟩).2 then (⟨2,⟨(l.take n).toArray⟩,(qG ⟨(l.take n).toArray⟩).1,0⟩,n,0) else (cB,0,11))
 else if k=5 then mN l
 else if k=4 then
  let m:=if 1<l.length∧l.getD 1 0=61∧0≤indexByte [60,62,61,33,58] (l.getD 0 0) then 2 else (decodeL l).2
  (⟨4,⟨(l.take m).toArray⟩,0,0⟩,m,0)
 else (cB,0,11)
def skip (l:List UInt8) (a:Int):List UInt8 × Int:=oS (l.length+1) l a
def gJ:Nat→List UInt8→Int→List bQ→List bQ × Int × Int
 | 0,_,_,_=>([],0,0)
 | f+1,l,a,out=>
  if l=[] then (out++[⟨0,⟨#[]⟩,0,a⟩],0,0)
  else
   let t:=eX l
   let e:=if out.length=2000 then 2 else t.2.2
   if e≠0 then ([],e,a)
   else
    let p:=skip (l.drop t.2.1.toNat) (a+(aI (l.take t.2.1.toNat)).length)
    gJ f p.1 p.2 (out++[{ t.1 with at_:=a }])
def cI (s:ByteArray):List bQ × Int × Int:=
 if 8192<s.size then ([],2,0)
 else if 0≤qQ 0 (aI s.data.toList) then ([],10,qQ 0 (aI s.data.toList))
 else gJ (s.size+1) (skip s.data.toList 0).1 (skip s.data.toList 0).2 []
theorem iU {f l a} (h:kJ l≠0):oS (f+1) l a=oS f (l.drop (kJ l)) (a+(aI (l.take (kJ l))).length):=by
 simp only [oS,K_ h]
theorem iV {f l a} (h:kJ l=0):oS f l a=(l,a):=by
 cases f with
 | zero=>rfl
 | succ f=>simp only [oS,M_ h]
theorem kL:∀(l:List UInt8) (c:UInt8),-1≤indexByte l c∧indexByte l c<l.length
 | [],_=>by simp [indexByte]
 | b::l,c=>by
  have:=kL l c
  simp only [indexByte,P_]
  repeat' split
  all_goals omega
theorem runes_le:∀(n:Nat) (l:List UInt8),l.length≤n→(aI l).length≤l.length:=by
 intro n
 induction n with
 | zero=>intro l h;rw [X_ (by omega:l.length=0)];exact H_ _
 | succ n ih=>
  intro l h
  by_cases hl:l=[]
  ·subst hl;exact H_ _
  ·have h1:0<l.length:=F_ hl
   have hw:=decodeL_width l
   have:=ih (l.drop (decodeL l).2) (by rw [Q_];omega)
   rw [bD l hl,P_]
   rw [Q_] at this
   omega
theorem mO (l):(aI l).length≤l.length:=runes_le _ l le_
end Go.Proofs.YtgcfjkfipkfijaaGreatDoor
namespace Go.Proofs.YtgcfjkfipkfijaaGreatDoor
open Go Go.RowKit Go.Lib _root_.Go.Proofs.Tryz
theorem Mr:∀(n:Nat) (l:List UInt8),l.length≤n→eN (aI l)≤l.length:=by
 intro n
 induction n with
 | zero=>intro l h;rw [X_ (by omega:l.length=0)];exact H_ _
 | succ n ih=>
  intro l h
  by_cases hl:l=[]
  ·subst hl;exact H_ _
  ·have h1:0<l.length:=F_ hl
   have hw:=decodeL_width l
   have hle:=decodeL_le l hl
   have:=ih (l.drop (decodeL l).2) (by rw [Q_];omega)
   rw [Q_] at this
   rw [bD l hl]
   simp only [eN]
   split <;> omega
theorem zF {l} (hl:l≠[]) (h:dJ (decodeL l).1=2∨dJ (decodeL l).1=3):1≤eN (aI l):=by
 have hw:=decodeL_width l
 rw [bD l hl]
 have:Hk (decodeL l).1=true:=by unfold Hk;rcases h with h | h <;> rw [h] <;> rfl
 simp only [eN,this,if_true]
 omega
theorem Ms {l sep} (h:(cut l sep).2.2=true) (hs:sep.length=1):(cut l sep).1.length+1≤l.length:=by
 unfold cut at h ⊢
 by_cases hi:0≤index l sep
 ·rw [M_ hi]
  have hb:=index_room l sep hi
  simp
  omega
 ·rw [K_ hi] at h
  simp at h
theorem Qt (l sep):(cut l sep).1.length≤l.length:=by
 unfold cut
 split
 ·simp;omega
 ·simp
theorem Qu {l} (h:(mN l).2.2=0):1≤(mN l).2.1∧(mN l).2.1≤l.length:=by
 unfold mN at h ⊢
 simp only at h ⊢
 by_cases h1:(cut (cut (l.drop 1) [10]).1 [34]).2.2=false
 ·rw [M_ h1] at h;simp at h
 ·rw [K_ h1] at h ⊢
  have h1':(cut (cut (l.drop 1) [10]).1 [34]).2.2=true:=by simpa using h1
  have a:=Ms h1' rfl
  have b:=Qt (l.drop 1) [10]
  rw [Q_] at b
  split at h
  ·simp at h
  ·rename_i h2
   rw [K_ h2]
   split at h
   ·simp at h
   ·rename_i h3
    rw [K_ h3]
    simp only
    omega
theorem Ku {l} (hl:l≠[]) (h:(eX l).2.2=0):1≤(eX l).2.1∧(eX l).2.1≤l.length:=by
 have h0:0<l.length:=F_ hl
 have hw:=decodeL_width l
 have hle:=decodeL_le l hl
 have hn:=Mr _ l le_
 unfold eX at h ⊢
 simp only at h ⊢
 split at h
 ·rename_i h2
  rw [M_ h2]
  have:=zF hl (.inl h2)
  split at h
  ·simp at h
  ·rename_i h3
   rw [K_ h3]
   simp only
   omega
 ·rename_i h2
  rw [K_ h2]
  split at h
  ·rename_i h3
   rw [M_ h3]
   have:=zF hl (.inr h3)
   split at h
   ·rename_i h4
    rw [M_ h4]
    simp only
    omega
   ·simp at h
  ·rename_i h3
   rw [K_ h3]
   split at h
   ·rename_i h4
    rw [M_ h4]
    exact Qu h
   ·rename_i h4
    rw [K_ h4]
    split at h
    ·rename_i h5
     rw [M_ h5]
     simp only
     split <;> omega
    ·simp at h
end Go.Proofs.YtgcfjkfipkfijaaGreatDoor
