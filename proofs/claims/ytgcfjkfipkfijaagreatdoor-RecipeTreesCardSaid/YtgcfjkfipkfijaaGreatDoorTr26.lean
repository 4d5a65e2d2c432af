/- Part 26 of the proof of rtrees_card; no conditions. -/
import Derived.Test.YtgcfjkfipkfijaaGreatDoorTr01
import Derived.Test.YtgcfjkfipkfijaaGreatDoorTr11
import Derived.Test.YtgcfjkfipkfijaaGreatDoorTr25
set_option maxHeartbeats 4000000
namespace Go.Proofs.YtgcfjkfipkfijaaGreatDoor
open Go Go.RowKit Go.Lib _root_.Go.Proofs.Tryz
def cM (s:ByteArray) (j:Nat):Int:=((s.data.toList.getD j 0).toNat:Int)
theorem nB (s j) (h:j<s.size):cM s j=((s.get! j).toNat:Int):=by
 have h1:j<s.data.size:=h
 unfold cM
 rw [S_]
 have h2:s.get! j=s.data[j]!:=rfl
 rw [h2,getElem!_pos s.data j h1,R_ (by simpa using h1)]
 simp
def iE (s:ByteArray) (i:Nat):Nat→Nat→Int→Int
 | 0,_,b=>b
 | m+1,k,b=>if cM s (i+k)<128∨192≤cM s (i+k) then -1 else iE s i m (k+1) (64*b+cM s (i+k) - 128)
def oK (n least c:Int):Int × Int:=if c<least∨1114111<c∨55296≤c∧c≤57343 then (0,0) else (c,n)
def gO (s:ByteArray) (i:Nat) (m:Nat) (least b:Int):Int × Int:=if (s.size:Int) - i<m+1 then (0,0) else oK (m+1) least (iE s i m 1 b)
def oL (s:ByteArray) (i:Nat):Int × Int:=
 if cM s i<128 then (cM s i,1)
 else if 192≤cM s i∧cM s i<224 then gO s i 1 128 (cM s i - 192)
 else if 224≤cM s i∧cM s i<240 then gO s i 2 2048 (cM s i - 224)
 else if 240≤cM s i∧cM s i<248 then gO s i 3 65536 (cM s i - 240)
 else (0,0)
def Al (p:Nat × Nat):Int × Int:=if p=(65533,1) then (0,0) else ((p.1:Int),(p.2:Int))
theorem Oq:Al (65533,1)=(0,0):=rfl
theorem pE {a b} (h:¬(a=65533∧b=1)):Al (a,b)=((a:Int),(b:Int)):=by
 unfold Al
 rw [K_ (fun e=>h (by simpa using e))]
theorem Am (s i):Utf8.decode s i =
  if (s.get! i).toNat<128 then ((s.get! i).toNat,1)
  else if (s.get! i).toNat / 32=6∧(i+1<s.size∧(s.get! (i+1)).toNat / 64=2) then
   (if 128≤(s.get! i).toNat % 32*64+(s.get! (i+1)).toNat % 64 then ((s.get! i).toNat % 32*64+(s.get! (i+1)).toNat % 64,2) else (65533,1))
  else if (s.get! i).toNat / 16=14∧(i+1<s.size∧(s.get! (i+1)).toNat / 64=2)∧(i+2<s.size∧(s.get! (i+2)).toNat / 64=2) then
   (if 2048≤(s.get! i).toNat % 16*4096+(s.get! (i+1)).toNat % 64*64+(s.get! (i+2)).toNat % 64∧Utf8.valid (((s.get! i).toNat % 16*4096+(s.get! (i+1)).toNat % 64*64+(s.get! (i+2)).toNat % 64:Nat):Int)=true
     then ((s.get! i).toNat % 16*4096+(s.get! (i+1)).toNat % 64*64+(s.get! (i+2)).toNat % 64,3) else (65533,1))
  else if (s.get! i).toNat / 8=30∧(i+1<s.size∧(s.get! (i+1)).toNat / 64=2)∧(i+2<s.size∧(s.get! (i+2)).toNat / 64=2)∧(i+3<s.size∧(s.get! (i+3)).toNat / 64=2) then
   (if 65536≤(s.get! i).toNat % 8*262144+(s.get! (i+1)).toNat % 64*4096+(s.get! (i+2)).toNat % 64*64+(s.get! (i+3)).toNat % 64∧Utf8.valid (((s.get! i).toNat % 8*262144+(s.get! (i+1)).toNat % 64*4096+(s.get! (i+2)).toNat % 64*64+(s.get! (i+3)).toNat % 64:Nat):Int)=true
     then ((s.get! i).toNat % 8*262144+(s.get! (i+1)).toNat % 64*4096+(s.get! (i+2)).toNat % 64*64+(s.get! (i+3)).toNat % 64,4) else (65533,1))
  else (65533,1):=by
 unfold Utf8.decode Utf8.runeError
 simp only [Nat.add_zero,a_,beq_iff_eq,decide_eq_true_eq,and_assoc,ge_iff_le]
theorem qB (c:Nat):Utf8.valid (c:Int)=true↔c<55296∨(57344≤c∧c≤1114111):=by
 unfold Utf8.valid
 simp only [Bool.or_eq_true,a_,decide_eq_true_eq]
 omega
theorem Tc (s i) (h:i<s.size):oL s i=Al (Utf8.decode s i):=by
 rw [Am]
 have hb0:=(s.get! i).toNat_lt
 have hb1:=(s.get! (i+1)).toNat_lt
 have hb2:=(s.get! (i+2)).toNat_lt
 have hb3:=(s.get! (i+3)).toNat_lt
 have e0:=nB s i h
 have e1:=nB s (i+1)
 have e2:=nB s (i+2)
 have e3:=nB s (i+3)
 unfold oL
 rw [e0]
 generalize (s.get! i).toNat=b0 at *
 generalize (s.get! (i+1)).toNat=b1 at *
 generalize (s.get! (i+2)).toNat=b2 at *
 generalize (s.get! (i+3)).toNat=b3 at *
 by_cases h1:b0<128
 ·rw [M_ h1,M_ (by omega),pE (by omega)];rfl
 rw [K_ h1,K_ (by omega)]
 by_cases h2:192≤b0∧b0<224
 ·rw [M_ (show 192≤(b0:Int)∧(b0:Int)<224 by omega)]
  unfold gO
  by_cases hs1:i+1<s.size
  ·rw [K_ (show ¬((s.size:Int) - i<((1:Nat):Int)+1) by omega)]
   simp only [iE]
   rw [e1 hs1]
   by_cases hc1:b1 / 64=2
   ·rw [K_ (show ¬((b1:Int)<128∨192≤(b1:Int)) by omega),M_ ⟨by omega,hs1,hc1⟩]
    unfold oK
    split
    ·rw [K_ (by omega)];rfl
    ·rw [M_ (by omega),pE (by omega)]
     refine Prod.ext ?_ rfl
     show _=_
     simp only
     omega
   ·rw [M_ (show ((b1:Int)<128∨192≤(b1:Int)) by omega),K_ (fun h=>hc1 h.2.2),K_ (by omega),K_ (by omega)]
    rfl
  ·rw [M_ (show ((s.size:Int) - i<((1:Nat):Int)+1) by omega),K_ (fun h=>hs1 h.2.1),K_ (by omega),K_ (by omega)]
   rfl
 rw [K_ (show ¬(192≤(b0:Int)∧(b0:Int)<224) by omega),K_ (show ¬(b0 / 32=6∧i+1<s.size∧b1 / 64=2) by omega)]
 by_cases h3:224≤b0∧b0<240
 ·rw [M_ (show 224≤(b0:Int)∧(b0:Int)<240 by omega)]
  unfold gO
  by_cases hs2:i+2<s.size
  ·rw [K_ (show ¬((s.size:Int) - i<((2:Nat):Int)+1) by omega)]
   simp only [iE]
   rw [e1 (by omega),e2 hs2]
   by_cases hc1:b1 / 64=2
   ·rw [K_ (show ¬((b1:Int)<128∨192≤(b1:Int)) by omega)]
    by_cases hc2:b2 / 64=2
    ·rw [K_ (show ¬((b2:Int)<128∨192≤(b2:Int)) by omega),M_ ⟨by omega,⟨by omega,hc1⟩,hs2,hc2⟩]
     unfold oK
     split
     ·rw [K_ (by rw [qB];omega)];rfl
     ·rw [M_ (by rw [qB];omega),pE (by omega)]
      refine Prod.ext ?_ rfl
      simp only
      omega
    ·rw [M_ (show ((b2:Int)<128∨192≤(b2:Int)) by omega),K_ (fun h=>hc2 h.2.2.2),K_ (by omega)]
     rfl
   ·rw [M_ (show ((b1:Int)<128∨192≤(b1:Int)) by omega),K_ (fun h=>hc1 h.2.1.2),K_ (by omega)]
    rfl
  ·rw [M_ (show ((s.size:Int) - i<((2:Nat):Int)+1) by omega),K_ (fun h=>hs2 h.2.2.1),K_ (by omega)]
   rfl
 rw [K_ (show ¬(224≤(b0:Int)∧(b0:Int)<240) by omega),K_ (show ¬(b0 / 16=14∧(i+1<s.size∧b1 / 64=2)∧i+2<s.size∧b2 / 64=2) by omega)]
 by_cases h4:240≤b0∧b0<248
 ·rw [M_ (show 240≤(b0:Int)∧(b0:Int)<248 by omega)]
  unfold gO
  by_cases hs3:i+3<s.size
  ·rw [K_ (show ¬((s.size:Int) - i<((3:Nat):Int)+1) by omega)]
   simp only [iE]
   rw [e1 (by omega),e2 (by omega),e3 hs3]
   by_cases hc1:b1 / 64=2
   ·rw [K_ (show ¬((b1:Int)<128∨192≤(b1:Int)) by omega)]
    by_cases hc2:b2 / 64=2
    ·rw [K_ (show ¬((b2:Int)<128∨192≤(b2:Int)) by omega)]
     by_cases hc3:b3 / 64=2
     ·rw [K_ (show ¬((b3:Int)<128∨192≤(b3:Int)) by omega),M_ ⟨by omega,⟨by omega,hc1⟩,⟨by omega,hc2⟩,hs3,hc3⟩]
      unfold oK
      split
      ·rw [K_ (by rw [qB];omega)];rfl
      ·rw [M_ (by rw [qB];omega),pE (by omega)]
       refine Prod.ext ?_ rfl
       simp only
       omega
     ·rw [M_ (show ((b3:Int)<128∨192≤(b3:Int)) by omega),K_ (fun h=>hc3 h.2.2.2.2)]
      rfl
    ·rw [M_ (show ((b2:Int)<128∨192≤(b2:Int)) by omega),K_ (fun h=>hc2 h.2.2.1.2)]
     rfl
   ·rw [M_ (show ((b1:Int)<128∨192≤(b1:Int)) by omega),K_ (fun h=>hc1 h.2.1.2)]
    rfl
  ·rw [M_ (show ((s.size:Int) - i<((3:Nat):Int)+1) by omega),K_ (fun h=>hs3 h.2.2.2.1)]
   rfl
 rw [K_ (show ¬(240≤(b0:Int)∧(b0:Int)<248) by omega),K_ (fun h=>by omega)]
 rfl
def mG:List (Nat × Nat)→Nat→List Int
 | [],_=>[]
 | r::rs,p=>if r=(65533,1) then [] else (r.1:Int)::mG rs (p+r.2)
def lT:List (Nat × Nat)→Nat→List Int
 | [],p=>[(p:Int)]
 | r::rs,p=>if r=(65533,1) then [] else (p:Int)::lT rs (p+r.2)
def fO:List (Nat × Nat)→Bool
 | []=>true
 | r::rs=>if r=(65533,1) then false else fO rs
theorem sT (l):fO l=l.all (fun r=>!(r == (65533,1))):=by
 induction l with
 | nil=>rfl
 | cons r rs ih=>
  rw [fO,List.all_cons,ih]
  by_cases h:r=(65533,1)
  ·rw [M_ h,D_ h];rfl
  ·rw [K_ h,A_ h];rfl
theorem xI:∀(l:List (Nat × Nat)) (p:Nat),fO l=true→mG l p=l.map (fun r=>(r.1:Int))
 | [],_,_=>rfl
 | r::rs,p,h=>by
  rw [fO] at h
  rw [mG]
  by_cases e:r=(65533,1)
  ·rw [M_ e] at h;cases h
  ·rw [K_ e] at h
   rw [K_ e,xI rs _ h];rfl
theorem Je (s i):((s.get! i).toNat<128→(Utf8.decode s i).1=(s.get! i).toNat)∧(128≤(s.get! i).toNat→128≤(Utf8.decode s i).1):=by
 rw [Am]
 refine ⟨fun h=>by rw [M_ h],fun h=>?_⟩
 rw [K_ (by omega)]
 split
 ·split
  ·assumption
  ·decide
 ·split
  ·split
   ·rename_i h2;exact d_ (by decide) h2.1
   ·decide
  ·split
   ·split
    ·rename_i h2;exact d_ (by decide) h2.1
    ·decide
   ·decide
theorem Xb {r} (h:dJ r=2):¬(48≤r∧r≤57):=by
 intro hr
 unfold dJ at h
 rw [K_ (by omega),K_ (by omega),K_ (by omega),M_ (by omega)] at h
 cases h
def oM (rs:List (Nat × Nat)):Bool:=fO rs && (decide (0<rs.length) && (decide (rs.length≤12) && (dJ ((rs.headD (0,0)).1:Int) == 2 && iT rs)))
theorem Td (s):oM (aI s.data.toList)=gI s:=by
 unfold oM gI nK
 rw [rU,←sT]
 by_cases h0:s.size=0
 ·have hr:aI s.data.toList=[]:=by
   have:=fX s 0 (by omega)
   simpa using this
  rw [hr,h0]
  simp
 ·have hp:0<s.size:=by omega
  have hr:=iH s 0 hp
  rw [List.drop_zero] at hr
  obtain ⟨p,hp1⟩:=nm_ (Utf8.decode s 0)
  have hlow:=Je s 0
  have hb:=nB s 0 hp
  unfold cM at hb
  have hb':(s.data.toList.getD 0 0).toNat=(s.get! 0).toNat:=by omega
  rw [hp1] at hr hlow
  rw [hb']
  generalize (s.get! 0).toNat=b0 at *
  generalize aI (s.data.toList.drop (0+p.2))=rest at hr
  rw [hr]
  have hlen:decide (0<(p::rest).length)=true:=by simp
  have hsz:decide (s.size≠0)=true:=W_ h0
  rw [hlen,hsz,Bool.true_and,Bool.and_true]
  cases hw:iT (p::rest) with
  | false=>simp
  | true=>
   have hwp:Hk p.1=true:=by
    unfold iT at hw
    rw [List.all_cons,a_] at hw
    exact hw.1
   have hc:(dJ ((((p::rest).headD (0,0)).1:Nat):Int) == 2)=(decide (b0<48) || decide (57<b0)):=by
    show (dJ (p.1:Int) == 2)=_
    unfold Hk at hwp
    rw [Bool.or_eq_true,beq_iff_eq,beq_iff_eq] at hwp
    rcases hwp with h2 | h3
    ·have:=Xb h2
     rw [h2]
     have h:b0<48∨57<b0:=by omega
     rcases h with h | h <;> simp [h]
    ·have:=zP h3
     rw [h3]
     have h:¬b0<48∧¬57<b0:=by omega
     simp [h.1,h.2]
   rw [hc]
   cases fO (p::rest) <;> cases (decide (b0<48) || decide (57<b0)) <;> simp
def qJ (r:Int):Bool:=dJ r == 2 || dJ r == 3
def Yl (r:Int):List UInt8→Int
 | []=>0
 | c::cs=>if (c.toNat:Int)=r then 4 else Yl r cs
theorem Xc (r) (h:¬(r=32∨r=9∨r=13∨r=10)) (h2:¬((97≤r∧r≤122)∨(65≤r∧r≤90)∨r=95)) (h3:¬(192≤r∧r≤591∧r≠215∧r≠247)) (h4:¬(48≤r∧r≤57)) (h5:¬r=34) (h6:¬r=35):Yl r oE=dJ r:=by
 unfold dJ
 rw [K_ h,K_ h2,K_ h3,K_ h4,K_ h5,K_ h6]
 by_cases hr:32<r∧r<127
 ·have hd:((List.range 127).all fun k=>Yl (k:Int) oE == if 32<(k:Int)∧(k:Int)<127∧0≤indexByte oE k.toUInt8 then 4 else 0)=true:=by kernel_rfl
  have:=List.all_eq_true.1 hd r.toNat (List.mem_range.2 (by omega))
  rw [beq_iff_eq] at this
  rw [show ((r.toNat:Nat):Int)=r by omega] at this
  exact this
 ·rw [K_ (fun e=>hr ⟨e.1,e.2.1⟩)]
  have hs:∀l:List UInt8,(∀c,c∈l→(c.toNat:Int)≠r)→Yl r l=0:=by
   intro l
   induction l with
   | nil=>intro _;rfl
   | cons c cs ih=>intro hc;rw [Yl,K_ (hc c (by simp)),ih (fun x hx=>hc x (by simp [hx]))]
  refine hs oE (fun c hc=>?_)
  have hd:(oE.all fun c=>decide (32<c.toNat) && decide (c.toNat<127))=true:=by kernel_rfl
  have:=List.all_eq_true.1 hd c hc
  simp only [a_,decide_eq_true_eq] at this
  omega
theorem Fi (r w) (h:¬(r=32∨r=9∨r=13∨r=10)) (h2:¬((97≤r∧r≤122)∨(65≤r∧r≤90)∨r=95)) (h3:¬(192≤r∧r≤591∧r≠215∧r≠247)) (h4:¬(48≤r∧r≤57)) (h5:¬r=34) (h6:¬r=35) :
  Calls prog 87 #[.int .i64 r] w fun e w'=>e=.returned (.int .i64 (dJ r))∧w'=w:=by
 rw [←Xc r h h2 h3 h4 h5 h6]
 obtain ⟨ANS,hANS⟩:=nm_ (Yl r oE)
 have HANS:=hid hANS
 rw [hANS]
 have hb:(r == 32)=false∧(r == 9)=false∧(r == 13)=false∧(r == 10)=false∧(r == 95)=false∧(r == 34)=false∧(r == 35)=false:=⟨aW (by omega),aW (by omega),aW (by omega),aW (by omega),aW (by omega),aW (by omega),aW (by omega)⟩
 obtain ⟨b0,b1,b2,b3,b4,b5,b6⟩:=hb
 have hi:r<48∨(57<r∧r<65)∨(90<r∧r<97)∨(122<r∧r<192)∨(192≤r∧r≤591∧(r != 215)=false)∨(192≤r∧r≤591∧(r != 215)=true∧(r != 247)=false)∨591<r:=by
  by_cases e1:r=215
  ·exact .inr (.inr (.inr (.inr (.inl ⟨by omega,by omega,tK e1⟩))))
  ·by_cases e2:r=247
   ·exact .inr (.inr (.inr (.inr (.inr (.inl ⟨by omega,by omega,kB e1,tK e2⟩)))))
   ·omega
 clear h h2 h3 h4 h5 h6 hANS
 rcases hi with i1 | ⟨i1,i2⟩ | ⟨i1,i2⟩ | ⟨i1,i2⟩ | ⟨i1,i2,i3⟩ | ⟨i1,i2,i3,i4⟩ | i1
 all_goals
  go_enter func87,ntmps87
  go_wp2_with fail
  go_loopg [4] 19 (fun k s4 w'=>∃i:Nat,s4=.int .i64 i∧i≤18∧18 - i<k∧Yl r (oE.drop i)=ANS∧w'=w)
  case atStart=>exact ⟨0,rfl,by omega,by omega,HANS.out,rfl⟩
  case round=>
   obtain ⟨i,rfl,hi,hik,hans,rfl⟩:=hrel
   obtain ⟨gk,rfl⟩:=pk_ gk 1 (by omega)
   by_cases hlt:i<18
   ·have hltz:(i:Int)<18:=by omega
    obtain ⟨c,hc⟩:=nm_ (oE[i]'hlt)
    have hh:(⟨#[40,41,123,125,44,59,58,61,43,45,42,47,37,60,62,33,38,124]⟩:ByteArray)[i]'hlt=c:=hc
    have hclt:=c.toNat_lt
    rw [dX oE i hlt,Yl,hc] at hans
    by_cases e:(c.toNat:Int)=r
    ·have eb:((c.toNat:Int) == r)=true:=D_ e
     rw [M_ e] at hans
     have HN:=hid hans
     clear hans e hc
     go_wp2_with fail
     go_ret
     exact ⟨bU HN.out,rfl⟩
    ·have eb:((c.toNat:Int) == r)=false:=aW e
     rw [K_ e] at hans
     have HN:=hid hans
     clear hans e hc
     go_wp2_with fail
     go_roundg gk
     case measure=>omega
     case rel=>exact ⟨i+1,by go_num,by omega,by omega,HN.out,rfl⟩
   ·obtain rfl:i=18:=by omega
    have HN:=hid hans
    clear hans
    go_wp2_with fail
    go_ret
    exact ⟨bU HN.out,rfl⟩
theorem rL (r w):Calls prog 87 #[.int .i64 r] w fun e w'=>e=.returned (.int .i64 (dJ r))∧w'=w:=by
 by_cases h:r=32∨r=9∨r=13∨r=10
 ·have HX:Hid (dJ r=1):=hid (M_ h)
  rcases h with rfl | rfl | rfl | rfl
  all_goals
   go_enter func87,ntmps87
   go_wp2_with fail
   go_ret
   exact ⟨bU HX.out.symm,rfl⟩
 have hb:(r == 32)=false∧(r == 9)=false∧(r == 13)=false∧(r == 10)=false:=⟨aW (by omega),aW (by omega),aW (by omega),aW (by omega)⟩
 obtain ⟨b0,b1,b2,b3⟩:=hb
 by_cases h2:(97≤r∧r≤122)∨(65≤r∧r≤90)∨r=95
 ·have HX:Hid (dJ r=2):=hid (by unfold dJ;rw [K_ h,M_ h2])
  clear h
  rcases h2 with ⟨h2,h3⟩ | ⟨h2,h3⟩ | rfl
  all_goals
   go_enter func87,ntmps87
   go_wp2_with fail
   go_ret
   exact ⟨bU HX.out.symm,rfl⟩
 by_cases h3:192≤r∧r≤591∧r≠215∧r≠247
 ·have HX:Hid (dJ r=2):=hid (by unfold dJ;rw [K_ h,K_ h2,M_ h3])
  obtain ⟨h4,h5,h6,h7⟩:=h3
  have c4:(r == 95)=false:=aW (by omega)
  have c5:(r != 215)=true:=kB h6
  have c6:(r != 247)=true:=kB h7
  clear h h2 h6 h7
  go_enter func87,ntmps87
  go_wp2_with fail
  go_ret
  exact ⟨bU HX.out.symm,rfl⟩
 by_cases h4:48≤r∧r≤57
 ·have HX:Hid (dJ r=3):=hid (by unfold dJ;rw [K_ h,K_ h2,K_ h3,M_ h4])
  obtain ⟨h5,h6⟩:=h4
  have c4:(r == 95)=false:=aW (by omega)
  clear h h2 h3
  go_enter func87,ntmps87
  go_wp2_with fail
  go_ret
  exact ⟨bU HX.out.symm,rfl⟩
 by_cases h5:r=34
 ·subst h5
  clear h h2 h3 h4
  go_enter func87,ntmps87
  go_wp2_with fail
  go_ret
  exact ⟨rfl,rfl⟩
 by_cases h6:r=35
 ·subst h6
  clear h h2 h3 h4 h5
  go_enter func87,ntmps87
  go_wp2_with fail
  go_ret
  exact ⟨rfl,rfl⟩
 exact Fi r w h h2 h3 h4 h5 h6
theorem xJ (r w):Calls prog 109 #[.int .i64 r] w fun e w'=>e=.returned (.bool (qJ r))∧w'=w:=by
 have HC:=hid (rL r w)
 obtain ⟨c,hc⟩:=nm_ (dJ r)
 have HX:Hid (qJ r=(c == 2 || c == 3)):=hid (by unfold qJ;rw [hc])
 rw [hc] at HC
 clear hc
 rcases lG c with rfl | rfl | ⟨n2,n3⟩
 all_goals
  (try rw [bne,Bool.not_eq_true'] at n2 n3)
  go_enter func109,ntmps109
  go_wp2_with (go_at_call 87;refine HC.out.mono ?_;rintro e w' ⟨rfl,rfl⟩)
  go_ret
  exact ⟨cO (by rw [HX.out];simp [*]),rfl⟩
end Go.Proofs.YtgcfjkfipkfijaaGreatDoor
