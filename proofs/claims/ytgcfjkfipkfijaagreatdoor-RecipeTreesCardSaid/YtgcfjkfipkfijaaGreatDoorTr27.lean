/- Part 27 of the proof of rtrees_card; no conditions. -/
import Derived.Test.YtgcfjkfipkfijaaGreatDoorTr01
import Derived.Test.YtgcfjkfipkfijaaGreatDoorTr26
set_option maxRecDepth 100000
set_option maxHeartbeats 4000000
namespace Go.Proofs.YtgcfjkfipkfijaaGreatDoor
open Go Go.RowKit Go.Lib _root_.Go.Proofs.Tryz
def Te (j:Nat) (v:Int):Prop:=j=1∧v<32∨j=2∧v<2048∨j=3∧v<131072∨j=4∧v<8388608
theorem xK {j v} (h:Te j v):v<8388608:=by unfold Te at h;omega
theorem xL {j v c} (h:Te j v) (hj:j≤3) (hc:c<192):Te (j+1) (64*v+c - 128):=by unfold Te at h ⊢;omega
theorem lU (s j) (h:j<s.size):cM s j=((s[j]'h).toNat:Int):=by
 unfold cM
 rw [S_,R_ (by simpa using h)]
 rfl
theorem kY {n least c} (h:c<least∨1114111<c∨55296≤c∧c≤57343):oK n least c=(0,0):=M_ h
theorem xM {n least c} (h:¬(c<least∨1114111<c∨55296≤c∧c≤57343)):oK n least c=(c,n):=K_ h
theorem Xd (s i w) (hi:i<s.size) (hs:s.size≤4611686018427387904) (hlo:192≤cM s i) (hhi:cM s i<224) :
  Calls prog 86 #[.string s,.int .i64 i] w fun e w'=>e=.returned (.tuple #[.int .i64 (gO s i 1 128 (cM s i - 192)).1,.int .i64 (gO s i 1 128 (cM s i - 192)).2])∧w'=w:=by
 have hiz:(i:Int)<s.size:=by omega
 have hi0:(0:Int)≤i:=by omega
 have hsz:(s.size:Int)≤4611686018427387904:=by omega
 obtain ⟨c,hc⟩:=nm_ (s[i])
 have hb:cM s i=(c.toNat:Int):=by rw [lU s i hi,hc]
 rw [hb] at hlo hhi ⊢
 have HX:Hid (gO s i 1 128 (c.toNat - 192)=if (s.size:Int) - i<2 then (0,0) else oK 2 128 (iE s i 1 1 (c.toNat - 192))):=hid rfl
 generalize gO s i 1 128 (c.toNat - 192)=G at HX ⊢
 clear hb
 by_cases hn:(s.size:Int) - i<2
 ·have HX2:Hid (G=(0,0)):=hid (by rw [HX.out,M_ hn])
  go_enter func86,ntmps86
  go_wp2_with fail
  go_ret2
  exact ⟨by rw [HX2.out];first | done | rfl,rfl⟩
 obtain ⟨ANS,hANS⟩:=nm_ (iE s i 1 1 (c.toNat - 192))
 have HX2:Hid (G=oK 2 128 ANS):=hid (by rw [HX.out,K_ hn,hANS])
 have HANS:=hid hANS
 have hn':2≤(s.size:Int) - i:=by omega
 clear hn hANS
 go_enter func86,ntmps86
 go_wp2_with fail
 go_loopg [6,9] 2 (fun k s6 s9 w'=>∃(j:Nat) (v:Int),s9=.int .i64 j∧s6=.int .i64 v∧1≤j∧j≤2∧2 - j<k∧0≤v∧Hid (Te j v)∧Hid (iE s i (2 - j) j v=ANS)∧w'=w)
 case atStart=>exact ⟨1,_,rfl,rfl,by omega,by omega,by omega,by omega,hid (by unfold Te;omega),HANS,rfl⟩
 case round=>
  obtain ⟨j,v,rfl,rfl,hj1,hj2,hjk,hv0,HBIG,hans,rfl⟩:=hrel
  obtain ⟨gk,rfl⟩:=pk_ gk 1 (by omega)
  have hv9:=xK HBIG.out
  by_cases hlt:j<2
  ·have hltz:(j:Int)<2:=by omega
   have hp:i+j<s.size:=by omega
   obtain ⟨q,hq⟩:∃q:Nat,q=i+j:=⟨_,rfl⟩
   have hqz:(i:Int)+(j:Int)=(q:Int):=by omega
   have hqs:q<s.size:=by omega
   have hqs':(q:Int)<s.size:=by omega
   obtain ⟨d,hd⟩:=nm_ (s[q])
   have hdl:=d.toNat_lt
   have hbd:cM s (i+j)=(d.toNat:Int):=by rw [←hq,lU s q hqs,hd]
   have ht:=hans.out
   rw [show 2 - j=(1 - j)+1 by omega,iE,hbd] at ht
   by_cases hbad:(d.toNat:Int)<128∨192≤(d.toNat:Int)
   ·rw [M_ hbad] at ht
    have HT:Hid (G=(0,0)):=hid (by rw [HX2.out,←ht];exact kY (.inl (by decide)))
    clear ht hbd hq
    rcases hbad with hbad | hbad
    ·go_wp2_with fail
     go_ret2
     exact ⟨by rw [HT.out];first | done | rfl,rfl⟩
    ·have hb2:128≤(d.toNat:Int):=by omega
     go_wp2_with fail
     go_ret2
     exact ⟨by rw [HT.out];first | done | rfl,rfl⟩
   ·rw [K_ hbad] at ht
    have hb1:128≤(d.toNat:Int):=by omega
    have hb2:(d.toNat:Int)<192:=by omega
    have HT:=hid ht
    have HN:=hid (xL HBIG.out (by omega) hb2)
    clear ht hbd hbad hq
    go_wp2_with fail
    go_roundg gk
    case measure=>omega
    case rel=>exact ⟨j+1,64*v+d.toNat - 128,by go_num,by go_num,by omega,by omega,by omega,by omega,HN,hid (by rw [show 2 - (j+1)=1 - j by omega];exact HT.out),rfl⟩
  ·obtain rfl:j=2:=by omega
   have ht:=hans.out
   rw [show 2 - 2=0 from rfl,iE] at ht
   subst ht
   by_cases hbad:v<128∨1114111<v∨55296≤v∧v≤57343
   ·have HT:Hid (G=(0,0)):=hid (by rw [HX2.out];exact kY hbad)
    have hw:v<128∨(128≤v∧1114111<v)∨(128≤v∧v≤1114111∧55296≤v∧v≤57343):=by omega
    clear hbad hans
    rcases hw with hw | ⟨hw,hw2⟩ | ⟨hw,hw2,hw3,hw4⟩
    all_goals
     go_wp2_with fail
     go_ret2
     exact ⟨by rw [HT.out];first | done | rfl,rfl⟩
   ·have HT:Hid (G=(v,2)):=hid (by rw [HX2.out];exact xM hbad)
    have hw:128≤v∧v≤1114111∧(v<55296∨(55296≤v∧57343<v)):=by omega
    obtain ⟨hw1,hw2,hw3⟩:=hw
    clear hbad hans
    rcases hw3 with hw3 | ⟨hw3,hw4⟩
    all_goals first | (exfalso;omega) | skip
    all_goals
     go_wp2_with fail
     go_ret2
     exact ⟨by rw [HT.out];first | done | rfl,rfl⟩
theorem Xe (s i w) (hi:i<s.size) (hs:s.size≤4611686018427387904) (hlo:224≤cM s i) (hhi:cM s i<240) :
  Calls prog 86 #[.string s,.int .i64 i] w fun e w'=>e=.returned (.tuple #[.int .i64 (gO s i 2 2048 (cM s i - 224)).1,.int .i64 (gO s i 2 2048 (cM s i - 224)).2])∧w'=w:=by
 have hiz:(i:Int)<s.size:=by omega
 have hi0:(0:Int)≤i:=by omega
 have hsz:(s.size:Int)≤4611686018427387904:=by omega
 obtain ⟨c,hc⟩:=nm_ (s[i])
 have hb:cM s i=(c.toNat:Int):=by rw [lU s i hi,hc]
 rw [hb] at hlo hhi ⊢
 have HX:Hid (gO s i 2 2048 (c.toNat - 224)=if (s.size:Int) - i<3 then (0,0) else oK 3 2048 (iE s i 2 1 (c.toNat - 224))):=hid rfl
 generalize gO s i 2 2048 (c.toNat - 224)=G at HX ⊢
 clear hb
 by_cases hn:(s.size:Int) - i<3
 ·have HX2:Hid (G=(0,0)):=hid (by rw [HX.out,M_ hn])
  go_enter func86,ntmps86
  go_wp2_with fail
  go_ret2
  exact ⟨by rw [HX2.out];first | done | rfl,rfl⟩
 obtain ⟨ANS,hANS⟩:=nm_ (iE s i 2 1 (c.toNat - 224))
 have HX2:Hid (G=oK 3 2048 ANS):=hid (by rw [HX.out,K_ hn,hANS])
 have HANS:=hid hANS
 have hn':3≤(s.size:Int) - i:=by omega
 clear hn hANS
 go_enter func86,ntmps86
 go_wp2_with fail
 go_loopg [6,9] 3 (fun k s6 s9 w'=>∃(j:Nat) (v:Int),s9=.int .i64 j∧s6=.int .i64 v∧1≤j∧j≤3∧3 - j<k∧0≤v∧Hid (Te j v)∧Hid (iE s i (3 - j) j v=ANS)∧w'=w)
 case atStart=>exact ⟨1,_,rfl,rfl,by omega,by omega,by omega,by omega,hid (by unfold Te;omega),HANS,rfl⟩
 case round=>
  obtain ⟨j,v,rfl,rfl,hj1,hj2,hjk,hv0,HBIG,hans,rfl⟩:=hrel
  obtain ⟨gk,rfl⟩:=pk_ gk 1 (by omega)
  have hv9:=xK HBIG.out
  by_cases hlt:j<3
  ·have hltz:(j:Int)<3:=by omega
   have hp:i+j<s.size:=by omega
   obtain ⟨q,hq⟩:∃q:Nat,q=i+j:=⟨_,rfl⟩
   have hqz:(i:Int)+(j:Int)=(q:Int):=by omega
   have hqs:q<s.size:=by omega
   have hqs':(q:Int)<s.size:=by omega
   obtain ⟨d,hd⟩:=nm_ (s[q])
   have hdl:=d.toNat_lt
   have hbd:cM s (i+j)=(d.toNat:Int):=by rw [←hq,lU s q hqs,hd]
   have ht:=hans.out
   rw [show 3 - j=(2 - j)+1 by omega,iE,hbd] at ht
   by_cases hbad:(d.toNat:Int)<128∨192≤(d.toNat:Int)
   ·rw [M_ hbad] at ht
    have HT:Hid (G=(0,0)):=hid (by rw [HX2.out,←ht];exact kY (.inl (by decide)))
    clear ht hbd hq
    rcases hbad with hbad | hbad
    ·go_wp2_with fail
     go_ret2
     exact ⟨by rw [HT.out];first | done | rfl,rfl⟩
    ·have hb2:128≤(d.toNat:Int):=by omega
     go_wp2_with fail
     go_ret2
     exact ⟨by rw [HT.out];first | done | rfl,rfl⟩
   ·rw [K_ hbad] at ht
    have hb1:128≤(d.toNat:Int):=by omega
    have hb2:(d.toNat:Int)<192:=by omega
    have HT:=hid ht
    have HN:=hid (xL HBIG.out (by omega) hb2)
    clear ht hbd hbad hq
    go_wp2_with fail
    go_roundg gk
    case measure=>omega
    case rel=>exact ⟨j+1,64*v+d.toNat - 128,by go_num,by go_num,by omega,by omega,by omega,by omega,HN,hid (by rw [show 3 - (j+1)=2 - j by omega];exact HT.out),rfl⟩
  ·obtain rfl:j=3:=by omega
   have ht:=hans.out
   rw [show 3 - 3=0 from rfl,iE] at ht
   subst ht
   by_cases hbad:v<2048∨1114111<v∨55296≤v∧v≤57343
   ·have HT:Hid (G=(0,0)):=hid (by rw [HX2.out];exact kY hbad)
    have hw:v<2048∨(2048≤v∧1114111<v)∨(2048≤v∧v≤1114111∧55296≤v∧v≤57343):=by omega
    clear hbad hans
    rcases hw with hw | ⟨hw,hw2⟩ | ⟨hw,hw2,hw3,hw4⟩
    all_goals
     go_wp2_with fail
     go_ret2
     exact ⟨by rw [HT.out];first | done | rfl,rfl⟩
   ·have HT:Hid (G=(v,3)):=hid (by rw [HX2.out];exact xM hbad)
    have hw:2048≤v∧v≤1114111∧(v<55296∨(55296≤v∧57343<v)):=by omega
    obtain ⟨hw1,hw2,hw3⟩:=hw
    clear hbad hans
    rcases hw3 with hw3 | ⟨hw3,hw4⟩
    all_goals first | (exfalso;omega) | skip
    all_goals
     go_wp2_with fail
     go_ret2
     exact ⟨by rw [HT.out];first | done | rfl,rfl⟩
theorem Xf (s i w) (hi:i<s.size) (hs:s.size≤4611686018427387904) (hlo:240≤cM s i) (hhi:cM s i<248) :
  Calls prog 86 #[.string s,.int .i64 i] w fun e w'=>e=.returned (.tuple #[.int .i64 (gO s i 3 65536 (cM s i - 240)).1,.int .i64 (gO s i 3 65536 (cM s i - 240)).2])∧w'=w:=by
 have hiz:(i:Int)<s.size:=by omega
 have hi0:(0:Int)≤i:=by omega
 have hsz:(s.size:Int)≤4611686018427387904:=by omega
 obtain ⟨c,hc⟩:=nm_ (s[i])
 have hb:cM s i=(c.toNat:Int):=by rw [lU s i hi,hc]
 rw [hb] at hlo hhi ⊢
 have HX:Hid (gO s i 3 65536 (c.toNat - 240)=if (s.size:Int) - i<4 then (0,0) else oK 4 65536 (iE s i 3 1 (c.toNat - 240))):=hid rfl
 generalize gO s i 3 65536 (c.toNat - 240)=G at HX ⊢
 clear hb
 by_cases hn:(s.size:Int) - i<4
 ·have HX2:Hid (G=(0,0)):=hid (by rw [HX.out,M_ hn])
  go_enter func86,ntmps86
  go_wp2_with fail
  go_ret2
  exact ⟨by rw [HX2.out];first | done | rfl,rfl⟩
 obtain ⟨ANS,hANS⟩:=nm_ (iE s i 3 1 (c.toNat - 240))
 have HX2:Hid (G=oK 4 65536 ANS):=hid (by rw [HX.out,K_ hn,hANS])
 have HANS:=hid hANS
 have hn':4≤(s.size:Int) - i:=by omega
 clear hn hANS
 go_enter func86,ntmps86
 go_wp2_with fail
 go_loopg [6,9] 4 (fun k s6 s9 w'=>∃(j:Nat) (v:Int),s9=.int .i64 j∧s6=.int .i64 v∧1≤j∧j≤4∧4 - j<k∧0≤v∧Hid (Te j v)∧Hid (iE s i (4 - j) j v=ANS)∧w'=w)
 case atStart=>exact ⟨1,_,rfl,rfl,by omega,by omega,by omega,by omega,hid (by unfold Te;omega),HANS,rfl⟩
 case round=>
  obtain ⟨j,v,rfl,rfl,hj1,hj2,hjk,hv0,HBIG,hans,rfl⟩:=hrel
  obtain ⟨gk,rfl⟩:=pk_ gk 1 (by omega)
  have hv9:=xK HBIG.out
  by_cases hlt:j<4
  ·have hltz:(j:Int)<4:=by omega
   have hp:i+j<s.size:=by omega
   obtain ⟨q,hq⟩:∃q:Nat,q=i+j:=⟨_,rfl⟩
   have hqz:(i:Int)+(j:Int)=(q:Int):=by omega
   have hqs:q<s.size:=by omega
   have hqs':(q:Int)<s.size:=by omega
   obtain ⟨d,hd⟩:=nm_ (s[q])
   have hdl:=d.toNat_lt
   have hbd:cM s (i+j)=(d.toNat:Int):=by rw [←hq,lU s q hqs,hd]
   have ht:=hans.out
   rw [show 4 - j=(3 - j)+1 by omega,iE,hbd] at ht
   by_cases hbad:(d.toNat:Int)<128∨192≤(d.toNat:Int)
   ·rw [M_ hbad] at ht
    have HT:Hid (G=(0,0)):=hid (by rw [HX2.out,←ht];exact kY (.inl (by decide)))
    clear ht hbd hq
    rcases hbad with hbad | hbad
    ·go_wp2_with fail
     go_ret2
     exact ⟨by rw [HT.out];first | done | rfl,rfl⟩
    ·have hb2:128≤(d.toNat:Int):=by omega
     go_wp2_with fail
     go_ret2
     exact ⟨by rw [HT.out];first | done | rfl,rfl⟩
   ·rw [K_ hbad] at ht
    have hb1:128≤(d.toNat:Int):=by omega
    have hb2:(d.toNat:Int)<192:=by omega
    have HT:=hid ht
    have HN:=hid (xL HBIG.out (by omega) hb2)
    clear ht hbd hbad hq
    go_wp2_with fail
    go_roundg gk
    case measure=>omega
    case rel=>exact ⟨j+1,64*v+d.toNat - 128,by go_num,by go_num,by omega,by omega,by omega,by omega,HN,hid (by rw [show 4 - (j+1)=3 - j by omega];exact HT.out),rfl⟩
  ·obtain rfl:j=4:=by omega
   have ht:=hans.out
   rw [show 4 - 4=0 from rfl,iE] at ht
   subst ht
   by_cases hbad:v<65536∨1114111<v∨55296≤v∧v≤57343
   ·have HT:Hid (G=(0,0)):=hid (by rw [HX2.out];exact kY hbad)
    have hw:v<65536∨(65536≤v∧1114111<v)∨(65536≤v∧v≤1114111∧55296≤v∧v≤57343):=by omega
    clear hbad hans
    rcases hw with hw | ⟨hw,hw2⟩ | ⟨hw,hw2,hw3,hw4⟩
    all_goals
     go_wp2_with fail
     go_ret2
     exact ⟨by rw [HT.out];first | done | rfl,rfl⟩
   ·have HT:Hid (G=(v,4)):=hid (by rw [HX2.out];exact xM hbad)
    have hw:65536≤v∧v≤1114111∧(v<55296∨(55296≤v∧57343<v)):=by omega
    obtain ⟨hw1,hw2,hw3⟩:=hw
    clear hbad hans
    rcases hw3 with hw3 | ⟨hw3,hw4⟩
    all_goals first | (exfalso;omega) | skip
    all_goals
     go_wp2_with fail
     go_ret2
     exact ⟨by rw [HT.out];first | done | rfl,rfl⟩
theorem Ot (s:ByteArray) (i:Nat) (w:World) (hi:i<s.size) (hs:s.size≤4611686018427387904) :
  Calls prog 86 #[.string s,.int .i64 i] w fun e w'=>e=.returned (.tuple #[.int .i64 (Al (Utf8.decode s i)).1,.int .i64 (Al (Utf8.decode s i)).2])∧w'=w:=by
 rw [←Tc s i hi]
 have hiz:(i:Int)<s.size:=by omega
 have hi0:(0:Int)≤i:=by omega
 obtain ⟨c,hc⟩:=nm_ (s[i])
 have hb:cM s i=(c.toNat:Int):=by rw [lU s i hi,hc]
 have hclt:=c.toNat_lt
 by_cases h1:c.toNat<128
 ·have h1z:(c.toNat:Int)<128:=by omega
  have HX:Hid (oL s i=((c.toNat:Int),1)):=hid (by unfold oL;rw [hb,M_ h1z])
  clear hb h1
  go_enter func86,ntmps86
  go_wp2_with fail
  go_ret2
  exact ⟨by rw [HX.out];first | done | rfl,rfl⟩
 by_cases h2:c.toNat<192∨248≤c.toNat
 ·have HX:Hid (oL s i=(0,0)):=hid (by unfold oL;rw [hb,K_ (by omega),K_ (by omega),K_ (by omega),K_ (by omega)])
  have h3:(128≤(c.toNat:Int)∧(c.toNat:Int)<192)∨248≤(c.toNat:Int):=by omega
  clear hb h1 h2
  rcases h3 with ⟨h3,h4⟩ | h3
  all_goals
   go_enter func86,ntmps86
   go_wp2_with fail
   go_ret2
   exact ⟨by rw [HX.out];first | done | rfl,rfl⟩
 by_cases g1:c.toNat<224
 ·have HX:oL s i=gO s i 1 128 (cM s i - 192):=by unfold oL;rw [hb,K_ (by omega),M_ (by omega)]
  rw [HX]
  exact Xd s i w hi hs (by omega) (by omega)
 by_cases g2:c.toNat<240
 ·have HX:oL s i=gO s i 2 2048 (cM s i - 224):=by unfold oL;rw [hb,K_ (by omega),K_ (by omega),M_ (by omega)]
  rw [HX]
  exact Xe s i w hi hs (by omega) (by omega)
 ·have HX:oL s i=gO s i 3 65536 (cM s i - 240):=by unfold oL;rw [hb,K_ (by omega),K_ (by omega),K_ (by omega),M_ (by omega)]
  rw [HX]
  exact Xf s i w hi hs (by omega) (by omega)
end Go.Proofs.YtgcfjkfipkfijaaGreatDoor
