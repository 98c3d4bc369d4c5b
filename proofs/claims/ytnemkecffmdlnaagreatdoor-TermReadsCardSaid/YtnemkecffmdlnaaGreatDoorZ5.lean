/-
 Part 5 of the proof (packed).
-/
import Derived.Test.YtnemkecffmdlnaaGreatDoorZ4
import Derived.Shelf.Small.Strs
import Derived.Shelf.LaysM
import Derived.Shelf.Strconv.AtoiAll
import Derived.Shelf.Strings.Search1
import Derived.Shelf.Strings.Search2
import Derived.Shelf.Strings.Search3
import Derived.Shelf.Small.Wraps
import Derived.Shelf.Strings.Split
import Derived.Test.YtnemkecffmdlnaaGreatDoorProg
import Derived.Handy
import Derived.Lib.AtoiAllCases
import Derived.Lib.IndexBytes
import Derived.Shelf.Strconv.ToError
import Derived.Shelf.LaysC
import Derived.Lib.ConvBytes
import Derived.Lib.Hide
import Derived.Laws.Strings3
import Derived.Laws.Closers25
import Derived.Laws.Closers25b
set_option linter.unusedSimpArgs false
set_option linter.unusedVariables false
set_option linter.defProp false
set_option maxHeartbeats 16000000
noncomputable section
namespace Go.Proofs.YtnemkecffmdlnaaGreatDoor
section
open Go.RowKit Go.LE Go.Proofs.Tryz
end
section
open Go.RowKit Go.LE Go.Proofs.Tryz
set_option maxRecDepth 10000
variable{s:ao}(W:ar)
abbrev h5:Env prog:=a7 aeP.spec (a7 avk.spec aa)
def Bg(q:EP):Value:=.tuple #[q.1,q.2.1,q.2.2.1,q.2.2.2]
def aeT{c:Int}(A:0<=c)(D:c<256):-1<=fF c/\fF c<16:=by
 unfold fF EO;split
 ·rename_i h;simp only[ob,oa]at h;omega
 ·split
  ·rename_i h;simp only[ob,oa]at h;omega
  ·omega
def eF:=(b3 ez @Rl @Rm @Rn)
def avp(s:ao)(i:Nat)(hi:i<s.size)(V:s.size<=4096)(w:ar):cQ 135 #[s,i] w (Bg (jA s i)):=by
 have fS:=fK i;refine cB (nt:=120) [.tmp 4,.tmp 5,.tmp 6,.tmp 7] func135 ?_;refine bk h5 eF ?_;refine dL h5 (I eF fS) ?_
 refine ae.loop (λp:Nat×Nat×ByteArray=>⟨20,bK [(0,s),(1,i),(8,.is (.ak 19)),(9,p.2.1)],bA [(19,.row 5 1 p.2.2.size ((byteCells p.2.2).map .v))]⟩) (λp=>(i+1<=p.2.1/\p.2.1<=s.size)/\p.2.2.size<=p.2.1/\s.size<=p.2.1+p.1/\oZ s i p.1 p.2.1 p.2.2=jA s i) (λp=>p.1) (s.size-(i+1),i+1,fN) ?_ ⟨⟨eo _,hi⟩,ef _,by dsimp only;omega,rfl⟩ ?_
 ·exact b8 (λk=>if k=19 then .nil else .key k) (b3 eF @fN.eq_1 (show(⟨#[]⟩:ao).size=0 from rfl) (show byteCells ⟨#[]⟩=[] from rfl))
 rintro⟨n,k,o⟩ ⟨⟨g0,g1⟩,g2,g3,g4⟩;dsimp only at g0 g1 g2 g3 g4 ⊢;refine ae.seq ?_;refine aR h5 eF ?_ ?_<;>intro J
 ·have ax:k<s.size:=bt J
  obtain⟨n,rfl⟩:∃jh,n=jh+1:=⟨n-1,U⟩;obtain⟨c0,hx⟩:=r0 s k;have z:=g4;rw[oZ,al ax]at z;have dM:=fK k;have CU:=iv ((k:Int)+2) ((k+2:Nat):Int);have avq:=iv ((k:Int)+3) ((k+3:Nat):Int)
  have avr:=iv (((k+2:Nat):Int)+2) ((k+4:Nat):Int);refine a1 ?_;refine ae.block ?_;refine aL h5 eF ?_ ?_
  ·omega
  refine ae.seq ?_;refine aR h5 eF ?_ ?_<;>intro J
  ·have h:af s (k:Nat)=34:=aC J
   rw[al h]at z;rw[<- z];refine aA h5 (I eF dM) ?_;exact bE eF
  have CV:¬af s (k:Nat)=34:=aC J
  rw[ab CV]at z;clear J;refine a1 ?_;refine ae.seq ?_;refine aR h5 eF ?_ ?_<;>intro J
  ·have h:qI (af s (k:Nat))=false:=aC J
   rw[al h]at z;rw[<- z];refine aA h5 eF ?_;exact bE eF
  have hp:¬qI (af s (k:Nat))=false:=aC J
  rw[ab hp]at z;clear J;refine a1 ?_;refine ae.seq ?_;refine aR h5 eF ?_ ?_<;>intro J
  ·have h:¬af s (k:Nat)=92:=aC J
   rw[al h]at z;have aQ:=yc o [af s (k:Nat)] (λc J=>by rw[l8.1 J];exact⟨c0,hx⟩);have bx:(o++fD [af s (k:Nat)]).size=o.size+1:=by rw[dU,mw];rfl
   simp only[fc,jc]at aQ;refine aL h5 (I eF aQ) ?_ ?_
   ·exact⟨by unfold maxLen;omega,U⟩
   refine aA h5 (I eF dM) ?_;refine c6 ?_;refine⟨(n,k+1,o++fD [af s (k:Nat)]),⟨⟨by dsimp only;omega,by dsimp only;omega⟩,by dsimp only;omega,by dsimp only;omega,z⟩,by dsimp only;omega,?_⟩;exact b8 (λk=>if k=19 then .key 304 else .key k) (I eF bx)
  have A2:¬ ¬af s (k:Nat)=92:=aC J
  rw[ab A2]at z;clear J;refine dL h5 (I eF dM) ?_;refine bC eF ?_ ?_<;>intro J
  ·have h:¬k+1<s.size:=bt J
   rw[al h]at z;rw[<- z];refine aA h5 eF ?_;exact bE eF
  have gN:k+1<s.size:=bt J
  rw[ab U]at z;clear J;obtain⟨d0,d1⟩:=r0 s ((k+1:Nat):Int);refine a1 ?_;refine ae.seq ?_;refine aL h5 (I eF dM) ?_ ?_
  ·omega
  refine ae.block ?_;refine aR h5 eF ?_ ?_<;>intro J
  ·have h:af s ((k+1:Nat):Int)=110:=aC J
   rw[al h]at z;have aQ:=yc o [10] (λc J=>by rw[l8.1 J];omega);have bx:(o++fD [10]).size=o.size+1:=by rw[dU,mw];rfl
   simp only[fc,jc]at aQ;refine wr h5 (I eF aQ) ?_ ?_
   ·exact⟨by unfold maxLen;omega,U⟩
   refine bY h5 (I eF CU) ?_;refine⟨(n,k+2,o++fD [10]),⟨⟨by dsimp only;omega,by dsimp only;omega⟩,by dsimp only;omega,by dsimp only;omega,z⟩,by dsimp only;omega,?_⟩;exact b8 (λk=>if k=19 then .key 384 else .key k) (I eF bx)
  have CJ:¬af s ((k+1:Nat):Int)=110:=aC J
  rw[ab CJ]at z;clear J;refine aR h5 eF ?_ ?_<;>intro J
  ·have h:af s ((k+1:Nat):Int)=114:=aC J
   rw[al h]at z;have aQ:=yc o [13] (λc J=>by rw[l8.1 J];omega);have bx:(o++fD [13]).size=o.size+1:=by rw[dU,mw];rfl
   simp only[fc,jc]at aQ;refine wr h5 (I eF aQ) ?_ ?_
   ·exact⟨by unfold maxLen;omega,U⟩
   refine bY h5 (I eF CU) ?_;refine⟨(n,k+2,o++fD [13]),⟨⟨by dsimp only;omega,by dsimp only;omega⟩,by dsimp only;omega,by dsimp only;omega,z⟩,by dsimp only;omega,?_⟩;exact b8 (λk=>if k=19 then .key 400 else .key k) (I eF bx)
  have Es:¬af s ((k+1:Nat):Int)=114:=aC J
  rw[ab Es]at z;clear J;refine aR h5 eF ?_ ?_<;>intro J
  ·have h:af s ((k+1:Nat):Int)=116:=aC J
   rw[al h]at z;have aQ:=yc o [9] (λc J=>by rw[l8.1 J];omega);have bx:(o++fD [9]).size=o.size+1:=by rw[dU,mw];rfl
   simp only[fc,jc]at aQ;refine wr h5 (I eF aQ) ?_ ?_
   ·exact⟨by unfold maxLen;omega,U⟩
   refine bY h5 (I eF CU) ?_;refine⟨(n,k+2,o++fD [9]),⟨⟨by dsimp only;omega,by dsimp only;omega⟩,by dsimp only;omega,by dsimp only;omega,z⟩,by dsimp only;omega,?_⟩;exact b8 (λk=>if k=19 then .key 416 else .key k) (I eF bx)
  have GZ:¬af s ((k+1:Nat):Int)=116:=aC J
  rw[ab GZ]at z;clear J;by_cases NH:af s ((k+1:Nat):Int)=34\/af s ((k+1:Nat):Int)=92
  ·rw[al NH]at z;have aQ:=yc o [af s ((k+1:Nat):Int)] (λc J=>by rw[l8.1 J];exact⟨d0,d1⟩);have bx:(o++fD [af s ((k+1:Nat):Int)]).size=o.size+1:=by rw[dU,mw];rfl
   simp only[fc,jc]at aQ
   refine fR ⟨80,bK [(0,s),(1,i),(8,.is (.ak 19)),(9,k),(48,.is (.v (.int .u8 (af s ((k+1:Nat):Int))))),(66,true)],bA [(19,.row 5 1 o.size ((byteCells o).map .v))]⟩ ?_ ?_
   ·skip;refine aR h5 eF ?_ ?_<;>intro J
    ·refine a1 ?_;exact bh (I eF J)
    ·have O:decide (af s ((k+1:Nat):Int)=92)=true:=nJ (NH.resolve_left (qY J));refine bY h5 (I eF O) ?_;exact bh eF
   refine fu (Γ:=aa) trivial eF ?_;skip;refine wr h5 (aT eF aQ dM) ?_ ?_
   ·exact⟨U,by unfold maxLen;omega,U⟩
   refine bY h5 (I eF CU) ?_;refine⟨(n,k+2,o++fD [af s ((k+1:Nat):Int)]),⟨⟨by dsimp only;omega,by dsimp only;omega⟩,by dsimp only;omega,by dsimp only;omega,z⟩,by dsimp only;omega,?_⟩;exact b8 (λk=>if k=19 then .key 688 else .key k) (I eF bx)
  rw[ab NH]at z;have avs:decide (af s ((k+1:Nat):Int)=34)=false:=yJ λh=>NH (.inl h)
  have avt:decide (af s ((k+1:Nat):Int)=92)=false:=yJ λh=>NH (.inr h)
  refine bk h5 (I eF avs) ?_;refine bC eF ?_ ?_<;>intro J
  ·exact absurd J bq
  clear J;refine bY h5 (I eF avt) ?_;refine bC eF ?_ ?_<;>intro J
  ·exact absurd J bq
  clear J;refine aR h5 eF ?_ ?_<;>intro J
  ·have Et:af s ((k+1:Nat):Int)=120:=aC J
   rw[al Et]at z;clear J;refine dL h5 eF ?_
   refine ae.loop (λd:Nat=>⟨100,bK [(0,s),(1,i),(8,.is (.ak 19)),(9,k),(11,d)],bA [(19,.row 5 1 o.size ((byteCells o).map .v))]⟩) (λd=>2<=d/\d<=4/\(3<=d->k+2<s.size/\¬fF (af s ((k+2:Nat):Int))<0)/\(4<=d->k+3<s.size/\¬fF (af s ((k+3:Nat):Int))<0)) (λd=>4-d) 2 ?_ ⟨U,U,λh=>by omega,λh=>by omega⟩ ?_
   ·exact bh (I eF (show((2:Nat):Int)=2 from rfl))
   rintro d ⟨bg,bN,dQ,h1⟩;refine ae.seq ?_;refine aR h5 eF ?_ ?_<;>intro J
   ·have avu:d<4:=bt J
    have wd:=fK d;have WQ:=iv ((k:Int)+(d:Int)) ((k+d:Nat):Int);obtain⟨lx,eh⟩:=r0 s ((k+d:Nat):Int);have Hl:d=2\/d=3:=U;refine ti h5 (I eF WQ) ?_;refine bC eF ?_ ?_<;>intro J
    ·have h:¬k+d<s.size:=bt J
     have au:jA s i=(fN,0,51,i):=by
      rw[<- z];rcases Hl with rfl|rfl
      ·rw[al h]
      ·obtain⟨f1,f2⟩:=dQ U;rw[ab U,ab f2,al h]
     rw[au];refine aA h5 eF ?_;exact bE eF
    have WR:k+d<s.size:=bt J
    clear J;refine a1 ?_;refine aL h5 (I eF WQ) ?_ ?_
    ·exact⟨U,lx,eh⟩
    refine bC eF ?_ ?_<;>intro J
    ·have h:fF (af s ((k+d:Nat):Int))<0:=aC J
     have au:jA s i=(fN,0,50,k+d):=by
      rw[<- z];rcases Hl with rfl|rfl
      ·rw[ab U,al h]
      ·obtain⟨f1,f2⟩:=dQ U;rw[ab U,ab f2,ab U,al h]
     rw[au];refine aA h5 (I eF WQ) ?_;exact bE eF
    have aeU:¬fF (af s ((k+d:Nat):Int))<0:=aC J
    clear J;refine a1 ?_;refine bY h5 (I eF wd) ?_;refine⟨d+1,⟨U,U,λh=>?_,λh=>?_⟩,U,?_⟩
    ·rcases Hl with rfl|rfl
     ·exact⟨WR,aeU⟩
     ·exact dQ U
    ·rcases Hl with rfl|rfl
     ·omega
     ·exact⟨WR,aeU⟩
    ·exact bh eF
   ·have avu:d=4:=bt J
    obtain⟨f1,f2⟩:=dQ U;obtain⟨f3,f4⟩:=h1 U;rw[ab U,ab f2,ab U,ab f4]at z;obtain⟨dw,ee⟩:=r0 s ((k+2:Nat):Int);obtain⟨mo,vp⟩:=r0 s ((k+3:Nat):Int);have aB:=aeT dw ee;have cG:=aeT mo vp;have cT:=dv (16*fF (af s ((k+2:Nat):Int)))
    have eO:=dv (16*fF (af s ((k+2:Nat):Int))+fF (af s ((k+3:Nat):Int)));have tk:IntKind.u8.wrap (16*fF (af s ((k+2:Nat):Int))+fF (af s ((k+3:Nat):Int)))=16*fF (af s ((k+2:Nat):Int))+fF (af s ((k+3:Nat):Int)):=rh U U
    have aQ:=yc o [16*fF (af s ((k+2:Nat):Int))+fF (af s ((k+3:Nat):Int))] (λc J=>by rw[l8.1 J];omega);have bx:(o++fD [16*fF (af s ((k+2:Nat):Int))+fF (af s ((k+3:Nat):Int))]).size=o.size+1:=by rw[dU,mw];rfl
    simp only[fc,jc]at aQ;refine c6 ?_;refine dh h5 (hV eF CU avq cT eO tk aQ) ?_ ?_
    ·exact⟨⟨U,U⟩,⟨dw,ee⟩,⟨U,U⟩,⟨mo,vp⟩,by unfold maxLen;omega,U⟩
    refine bY h5 (I eF CU) ?_;refine bY h5 (I eF avr) ?_;refine⟨(n,k+4,o++fD [16*fF (af s ((k+2:Nat):Int))+fF (af s ((k+3:Nat):Int))]),⟨⟨by dsimp only;omega,by dsimp only;omega⟩,by dsimp only;omega,by dsimp only;omega,z⟩,by dsimp only;omega,?_⟩
    exact b8 (λk=>if k=19 then .key 936 else .key k) (I eF bx)
  ·have Et:¬af s ((k+1:Nat):Int)=120:=aC J
   rw[ab Et]at z;rw[<- z];refine aA h5 (I eF dM) ?_;exact bE eF
 ·have Iq:s.size<=k:=bt J
  have au:jA s i=(fN,0,51,i):=by
   rw[<- g4];cases n with
   |zero=>rfl
   |succ n=>rw[oZ,ab U]
  rw[au];refine c6 ?_;refine aA h5 eF ?_;exact bE eF
def WS:cV prog 135 where
 pre:=λW bs aj=>∃(s:ao) (i:Nat),aj=[.val (.string s),.val (.int .i64 (i:Nat))]/\i<s.size/\s.size<=4096
 res:=λ_ aj=>match aj with
  |[.val (.string s),.val (.int _ i)]=>Bg (jA s i.toNat)
  |_=>undef
 enters:=call135
 ok:=by
  intro W w bs us aj ad hu hp;obtain⟨s,i,rfl,D,O⟩:=hp
  match us,hu with
  |[x,y],hu=>obtain⟨rfl,rfl,_⟩:=hu;exact avp s i D O w
def avv(bs:aD)(s:ao)(i:Nat):WS.pre W bs [.val (.string s),.val (.int .i64 (i:Nat))]=(i<s.size/\s.size<=4096):=
 propext ⟨λ⟨hf,kp,h,O⟩=>by
  simp only[pZ,br.val.injEq,Value.string.injEq,Value.int.injEq,yL,we]at h
  obtain⟨rfl,h⟩:=h
  obtain rfl:i=kp := U
  exact O,λh=>⟨s,i,rfl,h⟩⟩
def avw(s:ao)(i:Nat):WS.res W [.val (.string s),.val (.int .i64 (i:Nat))]=Bg (jA s i):=by show Bg (jA s ((i:Int)).toNat)=_;rw[kR]
abbrev tw:Env prog:=a7 aeP.spec aa
def lC:=ez
def avx(s:ao)(i:Nat)(hi:i<s.size)(V:s.size<=4096)(w:ar):cQ 136 #[s,i] w (Bg (kt s i)):=by
 have fS:=fK i;refine cB (nt:=53) [.tmp 4,.tmp 5,.tmp 6,.tmp 7] func136 ?_;refine aA tw lC ?_;refine dL tw (I lC fS) ?_
 refine ae.loop (λp:Nat×Nat=>⟨20,bK [(0,s),(1,i),(8,p.2)],bA []⟩) (λp=>(i+1<=p.2/\p.2<=s.size+1)/\s.size<=p.2+p.1/\r2 s i p.1 p.2=kt s i) (λp=>p.1) (s.size-(i+1),i+1) ?_ ⟨⟨eo _,by dsimp only;omega⟩,by dsimp only;omega,rfl⟩ ?_
 ·exact bh lC
 rintro⟨n,k⟩ ⟨⟨g0,g1⟩,g3,g4⟩;dsimp only at g0 g1 g3 g4 ⊢;refine ae.seq ?_;refine aR tw lC ?_ ?_<;>intro J
 ·have ax:k<s.size:=bt J
  obtain⟨n,rfl⟩:∃jh,n=jh+1:=⟨n-1,U⟩;have z:=g4;rw[r2,al ax]at z;have dM:=fK k;have CU:=iv (((k+1:Nat):Int)+1) ((k+2:Nat):Int);refine a1 ?_;refine ae.block ?_;refine ae.seq ?_;refine aL tw lC ?_ ?_
  ·omega
  refine bC lC ?_ ?_<;>intro J
  ·have h:qI (af s (k:Nat))=false:=aC J
   rw[al h]at z;rw[<- z];refine aA tw lC ?_;exact bE lC
  have D:¬qI (af s (k:Nat))=false:=aC J
  rw[ab D]at z;clear J;refine a1 ?_;refine ae.seq ?_;refine aL tw lC ?_ ?_
  ·omega
  refine bC lC ?_ ?_<;>intro J
  ·have h:af s (k:Nat)=47:=aC J
   rw[al h]at z;rw[<- z];refine aL tw (aT lC fS dM) ?_ ?_
   ·exact⟨U,U,U⟩
   exact bE lC
  have O:¬af s (k:Nat)=47:=aC J
  rw[ab O]at z;clear J;refine a1 ?_;refine ae.seq ?_;refine aL tw lC ?_ ?_
  ·omega
  refine bC lC ?_ ?_<;>intro J
  ·have h:af s (k:Nat)=92:=aC J
   rw[al h]at z;clear J;refine aA tw (I lC dM) ?_;by_cases gN:k+1<s.size
   ·have bg:decide (((k+1:Nat):Int)<((s.size:Nat):Int))=true:=by simp;omega
    refine aL tw (I lC bg) ?_ ?_
    ·omega
    refine bC lC ?_ ?_<;>intro J
    ·have hp:qI (af s ((k+1:Nat):Int))=false:=aC J
     rw[al ⟨gN,hp⟩]at z;rw[<- z];refine aA tw lC ?_;exact bE lC
    have hp:¬qI (af s ((k+1:Nat):Int))=false:=aC J
    rw[ab λg=>hp g.2]at z;refine a1 ?_;refine bY tw (I lC CU) ?_;refine⟨(n,k+2),⟨⟨by dsimp only;omega,by dsimp only;omega⟩,by dsimp only;omega,z⟩,by dsimp only;omega,?_⟩;exact bh lC
   ·have bg:decide (((k+1:Nat):Int)<((s.size:Nat):Int))=false:=by simp;omega
    rw[ab λg=>gN g.1]at z;refine aA tw (I lC bg) ?_;refine bk aa lC ?_;refine bY tw (I lC CU) ?_;refine⟨(n,k+2),⟨⟨by dsimp only;omega,by dsimp only;omega⟩,by dsimp only;omega,z⟩,by dsimp only;omega,?_⟩;exact bh lC
  ·have h:¬af s (k:Nat)=92:=aC J
   rw[ab h]at z;refine a1 ?_;refine bY tw (I lC dM) ?_;refine⟨(n,k+1),⟨⟨by dsimp only;omega,by dsimp only;omega⟩,by dsimp only;omega,z⟩,by dsimp only;omega,?_⟩;exact bh lC
 ·have Iq:s.size<=k:=bt J
  have au:kt s i=(fN,0,52,i):=by
   rw[<- g4];cases n with
   |zero=>rfl
   |succ n=>rw[r2,ab U]
  rw[au];refine c6 ?_;refine aA tw lC ?_;exact bE lC
def WT:cV prog 136 where
 pre:=λW bs aj=>∃(s:ao) (i:Nat),aj=[.val (.string s),.val (.int .i64 (i:Nat))]/\i<s.size/\s.size<=4096
 res:=λ_ aj=>match aj with
  |[.val (.string s),.val (.int _ i)]=>Bg (kt s i.toNat)
  |_=>undef
 enters:=call136
 ok:=by
  intro W w bs us aj ad hu hp;obtain⟨s,i,rfl,D,O⟩:=hp
  match us,hu with
  |[x,y],hu=>obtain⟨rfl,rfl,_⟩:=hu;exact avx s i D O w
def avy(bs:aD)(s:ao)(i:Nat):WT.pre W bs [.val (.string s),.val (.int .i64 (i:Nat))]=(i<s.size/\s.size<=4096):=
 propext ⟨λ⟨hf,kp,h,O⟩=>by
  simp only[pZ,br.val.injEq,Value.string.injEq,Value.int.injEq,yL,we]at h
  obtain⟨rfl,h⟩:=h
  obtain rfl:i=kp := U
  exact O,λh=>⟨s,i,rfl,h⟩⟩
def avz(s:ao)(i:Nat):WT.res W [.val (.string s),.val (.int .i64 (i:Nat))]=Bg (kt s i):=by show Bg (kt s ((i:Int)).toNat)=_;rw[kR]
def NI:cV prog 132 where
 pre:=λW bs aj=>∃(s:ao) (i:Nat),aj=[.val (.string s),.val (.int .i64 (i:Nat))]/\i<=s.size/\s.size<=4096
 res:=λ_ aj=>match aj with
  |[.val (.string s),.val (.int _ i)]=>.int .i64 (nW s i.toNat:Nat)
  |_=>undef
 enters:=call132
 ok:=by
  intro W w bs us aj ad hu hp;obtain⟨s,i,rfl,D,O⟩:=hp
  match us,hu with
  |[x,y],hu=>obtain⟨rfl,rfl,_⟩:=hu;exact avn s i D U w
def aeV(bs:aD)(s:ao)(i:Nat):NI.pre W bs [.val (.string s),.val (.int .i64 (i:Nat))]=(i<=s.size/\s.size<=4096):=
 propext ⟨λ⟨hf,kp,h,O⟩=>by
  simp only[pZ,br.val.injEq,Value.string.injEq,Value.int.injEq,yL,we]at h
  obtain⟨rfl,h⟩:=h
  obtain rfl:i=kp := U
  exact O,λh=>⟨s,i,rfl,h⟩⟩
def aeW(s:ao)(i:Nat):NI.res W [.val (.string s),.val (.int .i64 (i:Nat))]=.int .i64 (nW s i:Nat):=by show Value.int .i64 (nW s ((i:Int)).toNat:Nat)=_;rw[kR]
def avA(bs:aD)(s:ao):NI.pre W bs [.val (.string s),.val (.int .i64 0)]=(s.size<=4096):=by have h:=aeV W bs s 0;rw[show((0:Nat):Int)=0 from rfl]at h;rw[h];exact propext ⟨λh=>h.2,λh=>⟨ef _,h⟩⟩
def avB(s:ao):NI.res W [.val (.string s),.val (.int .i64 0)]=.int .i64 (nW s 0:Nat):=aeW W s 0
def aeX(s:ao)(i:Nat):∀n k o,(oZ s i n k o).2.2.1=0->k<(oZ s i n k o).2.1/\(oZ s i n k o).2.1<=s.size
 |0,k,o,h=>by simp[oZ]at h
 |n+1,k,o,h=>by
  have bb:=aeX s i n;rw[oZ]at h ⊢;by_cases ad:k<s.size
  ·rw[al ad]at h ⊢;by_cases D:af s (k:Nat)=34
   ·rw[al D];exact⟨Dz _,ad⟩
   rw[ab D]at h ⊢;by_cases O:qI (af s (k:Nat))=false
   ·rw[al O]at h;simp at h
   rw[ab O]at h ⊢;by_cases B:¬af s (k:Nat)=92
   ·rw[al B]at h ⊢;have:=bb _ _ h;omega
   rw[ab B]at h ⊢;by_cases aU:¬k+1<s.size
   ·rw[al aU]at h;simp at h
   rw[ab aU]at h ⊢;by_cases eN:af s ((k+1:Nat):Int)=110
   ·rw[al eN]at h ⊢;have:=bb _ _ h;omega
   rw[ab eN]at h ⊢;by_cases gK:af s ((k+1:Nat):Int)=114
   ·rw[al gK]at h ⊢;have:=bb _ _ h;omega
   rw[ab gK]at h ⊢;by_cases ea:af s ((k+1:Nat):Int)=116
   ·rw[al ea]at h ⊢;have:=bb _ _ h;omega
   rw[ab ea]at h ⊢;by_cases ji:af s ((k+1:Nat):Int)=34\/af s ((k+1:Nat):Int)=92
   ·rw[al ji]at h ⊢;have:=bb _ _ h;omega
   rw[ab ji]at h ⊢;by_cases bn:af s ((k+1:Nat):Int)=120
   ·rw[al bn]at h ⊢;by_cases cA:¬k+2<s.size
    ·rw[al cA]at h;simp at h
    rw[ab cA]at h ⊢;by_cases c1:fF (af s ((k+2:Nat):Int))<0
    ·rw[al c1]at h;simp at h
    rw[ab c1]at h ⊢;by_cases oq:¬k+3<s.size
    ·rw[al oq]at h;simp at h
    rw[ab oq]at h ⊢;by_cases uy:fF (af s ((k+3:Nat):Int))<0
    ·rw[al uy]at h;simp at h
    rw[ab uy]at h ⊢;have:=bb _ _ h;omega
   ·rw[ab bn]at h;simp at h
  ·rw[ab ad]at h;simp at h
def aeY(s:ao)(i:Nat):∀n k,(r2 s i n k).2.2.1=0->k<(r2 s i n k).2.1/\(r2 s i n k).2.1<=s.size
 |0,k,h=>by simp[r2]at h
 |n+1,k,h=>by
  have bb:=aeY s i n;rw[r2]at h ⊢
  repeat' (split at h<;>rename_i hh<;>(first|rw[al hh]|rw[ab hh]))
  all_goals first
   |(exfalso;simp at h;done)
   |(have:=bb _ h;omega)
   |exact⟨Dz _,by dsimp only;omega⟩
def aeZ(s:ao):∀n k,k<=wY s n k/\wY s n k<=k+n
 |0,k=>⟨eo _,eo _⟩
 |n+1,k=>by
  have:=aeZ s n (k+1);rw[wY];split
  ·split<;>omega
  ·omega
def WU{i:Nat}(hi:i<s.size):i<iU s i/\iU s i<=s.size:=by have:=aeZ s (s.size-(i+1)) (i+1);unfold iU;omega
def WV{i:Nat}(hi:i<s.size)(h:(dT s i).2.2.1=0):i<(dT s i).2.1/\(dT s i).2.1<=s.size:=by
 have aE:=WU hi;unfold dT at h ⊢
 repeat' (split at h<;>rename_i hh<;>(first|rw[al hh]|rw[ab hh]))
 all_goals first
  |(exfalso;simp at h;done)
  |(have:=aeX s i _ _ _ h;simp only[jA];omega)
  |(have:=aeY s i _ _ h;simp only[kt];omega)
  |(simp only;omega)
def iH(l:List bH):List Value:=l.flatMap λt=>[.int .i64 t.1,.int .i64 (t.2.1:Nat),.string t.2.2]
def ae0(l:List bH)(x:Int)(y:Nat)(aE7:ao):List.map ag.v (iH l)++[.v (.int .i64 x),.v (.int .i64 (y:Nat)),.v (.string aE7)]=List.map ag.v (iH (l++[(x,y,aE7)])):=by unfold iH;rw[OQ,sY];rfl
abbrev jB:Env prog:=a7 NI.spec (a7 avi.spec (a7 aeO.spec (a7 WS.spec (a7 WT.spec (a7 avm.spec aa)))))
def fA:=(I (ch lC @aeW @aeV @avB @avA @avw @avv @avz) @avy)
def avC(s:ao)(w:ar)(bx:s.size<=9223372036854775807):Calls prog 78 #[s] w λe M =>
  ∃u fp,e=.returned (.tuple #[u,.int .i64 (cZ s).2.1,((cZ s).2.2)])/\(∀cK,e3 cK u fp M (.row 168 3 (cZ s).1.length ((iH (cZ s).1).map .v)))/\(∀b∈fp,w.heap.size<=b/\b<M.heap.size)/\LE.cr w [] M:=by
 refine UF (nt:=130) (λv=>.tuple #[v,.int .i64 (cZ s).2.1,((cZ s).2.2)]) [.tmp 2,.tmp 3,.tmp 4] func78 ?_;refine bk jB fA ?_;refine aR jB fA ?_ ?_<;>intro J
 ·have h:4096<s.size:=bt J
  have e:cZ s=([],1,0):=by unfold cZ;rw[al h]
  rw[e];refine aA jB fA ?_;refine bf fA ?_;exact⟨q5,⟨aq,.inr ⟨rfl,rfl,rfl⟩⟩,λE=>rfl⟩
 have aU:s.size<=4096:=bt J
 have cv:cZ s=o0 s s.size (nW s 0) []:=by unfold cZ;rw[ab U]
 clear J;refine bk jB fA ?_;refine aL jB fA ?_ ?_
 ·exact aU
 have qk:=JX (ef s.size);refine ae.seq (ae.block ?_)
 refine ae.loop (λp:Nat×Nat×List bH=>⟨20,bK [(0,s),(5,.is (.ak 19)),(6,p.2.1)],bA [(19,.row 168 3 p.2.2.length ((iH p.2.2).map .v))]⟩) (λp=>p.2.1<=s.size/\p.2.2.length<=p.2.1/\s.size<=p.2.1+p.1/\o0 s p.1 p.2.1 p.2.2=cZ s) (λp=>p.1) (s.size,nW s 0,[]) ?_ ⟨qk.2,ef _,by dsimp only;omega,cv.symm⟩ ?_
 ·exact b8 (λk=>if k=19 then .nil else .key k) (aT fA @iH.eq_1 @Lc)
 rintro⟨n,i,l⟩ ⟨g1,g2,g3,g4⟩;dsimp only at g1 g2 g3 g4 ⊢;refine ae.seq ?_;refine aR jB fA ?_ ?_<;>intro J
 ·have ax:i<s.size:=bt J
  clear J;obtain⟨n,rfl⟩:∃jh,n=jh+1:=⟨n-1,U⟩;rw[o0,al ax]at g4;have p9:=WV ax;have fS:=fK i;have JY:=iv ((i:Int)+2) ((i+2:Nat):Int);refine a1 ?_;refine ae.block ?_;refine aL jB fA ?_ ?_
  ·omega
  refine aA jB fA ?_;refine aA jB (I fA fS) ?_
  refine fR ⟨80,bK [(0,s),(5,.is (.ak 19)),(6,i),(8,.is (.own 24 0)),(9,((dT s i).2.1)),(10,.is (.v (.int .i64 (dT s i).2.2.1))),(11,((dT s i).2.2.2))],bA [(19,.row 168 3 l.length ((iH l).map .v)),(24,.cells 168 [.v (.int .i64 (dT s i).1.1),((dT s i).1.2.1),.v (.string (dT s i).1.2.2)])]⟩ ?_ ?_
  ·skip;refine aR jB fA ?_ ?_<;>intro J
   ·have gi:vC (af s (i:Nat))=true:=J;clear J;have bJ:dT s i=if 32<iU s i-i then((0,0,fN),0,1,i) else((1,i,s.extract i (iU s i)),iU s i,0,0):=by unfold dT;rw[al gi]
    have G3:=WU ax;have RD:=iv (((iU s i:Nat):Int)-((i:Nat):Int)) ((iU s i-i:Nat):Int);refine ae.seq (ae.block ?_)
    refine ae.loop (λp:Nat×Nat=>⟨60,bK [(0,s),(5,.is (.ak 19)),(6,i),(8,.is (.own 24 0)),(9,p.2),(10,(0:Int)),(11,(0:Int))],bA [(19,.row 168 3 l.length ((iH l).map .v)),(24,.cells 168 [(0:Int),i,.v (.string ⟨#[]⟩)])]⟩) (λp=>(i+1<=p.2/\p.2<=s.size)/\s.size<=p.2+p.1/\wY s p.1 p.2=iU s i) (λp=>p.1) (s.size-(i+1),i+1) ?_ ⟨⟨eo _,ax⟩,by dsimp only;omega,rfl⟩ ?_
    ·exact b8 (λk=>if k=24 then .key 240 else .key k) fA
    rintro⟨m,k⟩ ⟨⟨bg,bN⟩,dQ,h1⟩;dsimp only at bg bN dQ h1 ⊢;have dM:=fK k;refine ae.seq ?_;by_cases ad:k<s.size
    ·have ak:decide (((k:Nat):Int)<((s.size:Nat):Int))=true:=by simp;omega
     obtain⟨m,rfl⟩:∃Mt,m=Mt+1:=⟨m-1,U⟩;rw[wY,al ad]at h1;refine aL jB (I fA ak) ?_ ?_
     ·exact⟨U,λ_=>by omega⟩
     refine bC fA ?_ ?_<;>intro J
     ·have aE:Bf (af s (k:Nat))=true:=by
       unfold Bf;simpa using J
      rw[al aE]at h1;refine a1 ?_;refine ae.block ?_;refine bY jB (I fA dM) ?_;refine⟨(m,k+1),⟨⟨by dsimp only;omega,by dsimp only;omega⟩,by dsimp only;omega,h1⟩,by dsimp only;omega,?_⟩;exact bh fA
     ·have aE:¬Bf (af s (k:Nat))=true:=by
       unfold Bf;simpa using J
      rw[ab aE]at h1;subst h1;refine c6 ?_;refine bk jB (I fA RD) ?_;refine bC fA ?_ ?_<;>intro J
      ·have zD:32<iU s i-i:=bt J
       rw[al zD]at bJ;rw[bJ]at g4;simp only at g4;rw[ab U]at g4;rw[<- g4];refine aA jB fA ?_;refine bf fA ?_;exact⟨q5,⟨aq,.inr ⟨rfl,rfl,rfl⟩⟩,λE=>rfl⟩
      ·have zD:¬32<iU s i-i:=bt J
       rw[ab zD]at bJ;rw[bJ];refine a1 ?_;refine iP jB fA ?_ ?_
       ·exact⟨U,U,U⟩
       exact bh (I fA (show((0:Nat):Int)=0 from rfl))
    ·have ak:decide (((k:Nat):Int)<((s.size:Nat):Int))=false:=by simp;omega
     have h1:k=iU s i:=by
      rw[<- h1];cases m with
      |zero=>rfl
      |succ m=>rw[wY,ab ad]
     subst h1;refine aA jB (I fA ak) ?_;refine fu (Γ:=aa) trivial fA ?_;refine c6 ?_;refine bk jB (I fA RD) ?_;refine bC fA ?_ ?_<;>intro J
     ·have zD:32<iU s i-i:=bt J
      rw[al zD]at bJ;rw[bJ]at g4;simp only at g4;rw[ab U]at g4;rw[<- g4];refine aA jB fA ?_;refine bf fA ?_;exact⟨q5,⟨aq,.inr ⟨rfl,rfl,rfl⟩⟩,λE=>rfl⟩
     ·have zD:¬32<iU s i-i:=bt J
      rw[ab zD]at bJ;rw[bJ];refine a1 ?_;refine iP jB fA ?_ ?_
      ·exact⟨U,U,U⟩
      exact bh (I fA (show((0:Nat):Int)=0 from rfl))
   have gi:¬vC (af s (i:Nat))=true:=by rw[J];simp
   clear J;refine aR jB fA ?_ ?_<;>intro J
   ·have CV:af s (i:Nat)=34:=aC J
    have bJ:dT s i=((2,i,(jA s i).1),(jA s i).2.1,(jA s i).2.2.1,(jA s i).2.2.2):=by unfold dT;rw[ab gi,al CV]
    rw[bJ];refine aA jB fA ?_;refine wr jB (I fA @Bg.eq_1) ?_ ?_
    ·exact⟨ax,aU⟩
    exact b8 (λk=>if k=24 then .key 240 else .key k) fA
   have CV:¬af s (i:Nat)=34:=aC J
   clear J;refine aR jB fA ?_ ?_<;>intro J
   ·have RE:af s (i:Nat)=47:=aC J
    have bJ:dT s i=((3,i,(kt s i).1),(kt s i).2.1,(kt s i).2.2.1,(kt s i).2.2.2):=by unfold dT;rw[ab gi,ab CV,al RE]
    rw[bJ];refine aA jB fA ?_;refine wr jB (I fA @Bg.eq_1) ?_ ?_
    ·exact⟨ax,aU⟩
    exact b8 (λk=>if k=24 then .key 240 else .key k) fA
   have RE:¬af s (i:Nat)=47:=aC J
   clear J;refine aR jB fA ?_ ?_<;>intro J
   ·have Mv:tv (af s (i:Nat))=true:=J;have bJ:dT s i=((4,i,s.extract i (i+1)),i+1,0,0):=by unfold dT;rw[ab gi,ab CV,ab RE,al Mv]
    rw[bJ];refine iP jB (I fA fS) ?_ ?_
    ·exact⟨U,U,U⟩
    exact b8 (λk=>if k=24 then .key 240 else .key k) (I fA (show((0:Nat):Int)=0 from rfl))
   have Mv:¬tv (af s (i:Nat))=true:=by rw[J];simp
   clear J;have bJ:dT s i=if af s (i:Nat)=62/\i+1<s.size/\af s ((i+1:Nat):Int)=62 then((4,i,⟨#[62,62]⟩),i+2,0,0) else((0,0,fN),0,50,i):=by unfold dT;rw[ab gi,ab CV,ab RE,ab Mv]
   refine aA jB (I fA fS) ?_;refine bC fA ?_ ?_<;>intro J
   ·have h:af s (i:Nat)=62/\i+1<s.size/\af s ((i+1:Nat):Int)=62:=by
     simp only[ob,oa]at J;omega
    rw[al h]at bJ;rw[bJ];refine aA jB (I fA JY) ?_;refine bY jB fA ?_;exact b8 (λk=>if k=24 then .key 240 else .key k) (I fA (show((0:Nat):Int)=0 from rfl))
   ·have h:¬(af s (i:Nat)=62/\i+1<s.size/\af s ((i+1:Nat):Int)=62):=by
     simp only[ZM,uT]at J;omega
    rw[ab h]at bJ;rw[bJ]at g4;simp only at g4;rw[ab U]at g4;rw[<- g4];refine aA jB fA ?_;refine bf fA ?_;exact⟨q5,⟨aq,.inr ⟨rfl,rfl,rfl⟩⟩,λE=>rfl⟩
  ·clear fS JY;generalize dT s i=t at *;obtain⟨⟨WW,bM,WX⟩,avD,e,at_⟩:=t;dsimp only at g4 p9 ⊢;refine ae.seq ?_;refine aR jB fA ?_ ?_<;>intro J
   ·have he:¬e=0:=aC J
    rw[ab he]at g4;rw[<- g4];refine aA jB fA ?_;refine bf fA ?_;exact⟨q5,⟨aq,.inr ⟨rfl,rfl,rfl⟩⟩,λE=>rfl⟩
   have he:e=0:=aC J
   rw[al he]at g4;obtain⟨ee,fh⟩:=p9 he;have avE:=JX fh;have aQ:=ae0 l WW bM WX;have bx:(l++[(WW,bM,WX)]).length=l.length+1:=by rw[ec];rfl
   refine a1 ?_;refine aL jB (I fA aQ) ?_ ?_
   ·exact⟨by unfold maxLen;omega,U⟩
   refine wr jB fA ?_ ?_
   ·exact⟨fh,aU⟩
   refine⟨(n,nW s avD,l++[(WW,bM,WX)]),⟨avE.2,by dsimp only;omega,by dsimp only;omega,g4⟩,by dsimp only;omega,?_⟩;exact b8 (λk=>if k=19 then .key 680 else .key k) (I fA bx)
 ·have Iq:s.size<=i:=bt J
  have au:cZ s=(l++[(0,s.size,fN)],0,0):=by
   rw[<- g4];cases n with
   |zero=>rfl
   |succ n=>rw[o0,ab U]
  have aQ:=ae0 l 0 s.size fN;have bx:(l++[((0:Int),s.size,fN)]).length=l.length+1:=by rw[ec];rfl
  rw[au];refine c6 ?_;refine aL jB fA ?_ ?_
  ·exact⟨by unfold maxLen;omega,U⟩
  refine bf fA ?_;exact⟨_,⟨aq,.inl ⟨_,rfl,by rw[bx,<- aQ];rfl⟩⟩,λE=>rfl⟩
end
end Go.Proofs.YtnemkecffmdlnaaGreatDoor
namespace Go.Proofs
section
open Go.Shelf
end
end Go.Proofs
namespace Go.Proofs.YtnemkecffmdlnaaGreatDoor
section
open Go.RowKit Go.LE Go.Proofs.Tryz
set_option maxRecDepth 10000
variable{W:ar}{ay:dj}{vs:aX}
def Hm(W:ar)(S:aY):Prop:=(S 1/\∃m:Int,W.cell? ⟨1,0,none⟩=some (.int .i64 m))/\(S 5/\∃t v,W.cell? ⟨5,0,none⟩=some (.iface t v))/\S 6/\∃t v,W.cell? ⟨6,0,none⟩=some (.iface t v)
theorem Hm.mono{W aO:World}{S bz:Nat->Prop}(h:Hm W S)(V:bT W S aO bz):Hm aO bz:=by
 obtain⟨⟨a,m,aQ⟩,⟨b,t,v,Z⟩,c,eU,eT,J⟩:=h;have g:∀b o v,S b->W.cell? ⟨b,o,none⟩=some v->aO.cell? ⟨b,o,none⟩=some v/\bz b:=λb o v bp au=>by have:=gd.mono (b:=b) (o:=o) (v:=v) ⟨bp,au⟩ V;exact⟨this.2,this.1⟩
 exact⟨⟨(g _ _ _ a aQ).2,m,(g _ _ _ a aQ).1⟩,⟨(g _ _ _ b Z).2,t,v,(g _ _ _ b Z).1⟩,(g _ _ _ c J).2,eU,eT,(g _ _ _ c J).1⟩
def Hm.km{W w:ar}{bs fp:aD}(h:Hm W (Out bs))(ad:LE.cr W bs w)(hm:∀b∈fp,W.heap.size<=b\/b∈bs):Hm w (Out fp):=h.mono λb Z V=>⟨ad.block b Z V,λdO=>(hm b dO).elim (λg=>absurd g (rG.2 Z)) V⟩
section
variable (s:ao)(v:Int)(h:Lib.atoiAll s.data.toList=.ok v)(V:s.size<=9)
end
def avF:∀b:Fin 256,(0<=IntKind.u8.wrap (((b.val:Nat):Int).tdiv 16)/\IntKind.u8.wrap (((b.val:Nat):Int).tdiv 16)<16)/\(0<=((b.val:Nat):Int).tmod 16/\((b.val:Nat):Int).tmod 16<16) /\
  IntKind.u8.wrap (((b.val:Nat):Int).tdiv 16)=((b.val:Nat):Int)/16/\((b.val:Nat):Int).tmod 16=((b.val:Nat):Int)%16:=by decide +kernel
def mV:=(b3 ez @Rl @Rm @Rn)
def avG(s:ao)(V:s.size<=16777216)(w:ar):cQ 61 #[s] w (.string (e9 s)):=by
 refine cB (nt:=69) [.tmp 2] func61 ?_;have JP:(⟨#[48,49,50,51,52,53,54,55,56,57,97,98,99,100,101,102]⟩:ao)=rZ:=rfl;refine Je aa mV ?_
 refine ae.loop (λk:Nat=>⟨20,bK [(0,s),(3,.is (.ak 8)),(4,rZ),(5,k)],bA [(8,.row 5 1 (gw s k).size ((byteCells (gw s k)).map .v))]⟩) (λk=>k<=s.size) (λk=>s.size-k) 0 ?_ (ef _) ?_
 ·exact b8 (λk=>if k=8 then .key 32 else .key k) (I mV JP)
 rintro k ad;refine ae.seq ?_;refine aR aa mV ?_ ?_<;>intro J
 ·have ax:k<s.size:=bt J
  obtain⟨c0,hx⟩:=r0 s k;have z:=JO s k;have aQ:=λl aN=>yc (gw s k) l aN
  have Z:gw s (k+1)=gw s k++fD (lB (af s k)):=rfl;have dM:=fK k;refine a1 ?_
  refine fR ⟨20,bK [(0,s),(3,.is (.ak 8)),(4,rZ),(5,k)],bA [(8,.row 5 1 (gw s (k+1)).size ((byteCells (gw s (k+1))).map .v))]⟩ ?_ ?_
  ·refine ae.block ?_;refine aL aa mV ?_ ?_
   ·first|omega|exact⟨U,U⟩
   refine aR aa mV ?_ ?_<;>intro J
   ·have au:af s k=10:=aC J
    have cv:lB (af s k)=[92,110]:=by rw[lB,ab U,ab U,al au]
    rw[cv]at Z;have bg:=aQ _ (λc (J:c∈[92,110])=>by simp at J;omega);rw[<- Z]at bg;simp only[fc,jc]at bg;have bN:(gw s (k+1)).size=(gw s k).size+2:=by rw[Z,dU,mw];rfl
    refine wr aa mV ?_ ?_
    ·exact by unfold maxLen;omega
    exact b8 (λk=>if k=8 then .key 256 else .key k) (aT mV bg bN)
   have eY:¬af s k=10:=aC J
   refine aR aa mV ?_ ?_<;>intro J
   ·have au:af s k=13:=aC J
    have cv:lB (af s k)=[92,114]:=by rw[lB,ab U,ab U,ab eY,al au]
    rw[cv]at Z;have bg:=aQ _ (λc (J:c∈[92,114])=>by simp at J;omega);rw[<- Z]at bg;simp only[fc,jc]at bg;have bN:(gw s (k+1)).size=(gw s k).size+2:=by rw[Z,dU,mw];rfl
    refine wr aa mV ?_ ?_
    ·exact by unfold maxLen;omega
    exact b8 (λk=>if k=8 then .key 272 else .key k) (aT mV bg bN)
   have n3:¬af s k=13:=aC J
   refine aR aa mV ?_ ?_<;>intro J
   ·have au:af s k=9:=aC J
    have cv:lB (af s k)=[92,116]:=by rw[lB,ab U,ab U,ab eY,ab n3,al au]
    rw[cv]at Z;have bg:=aQ _ (λc (J:c∈[92,116])=>by simp at J;omega);rw[<- Z]at bg;simp only[fc,jc]at bg;have bN:(gw s (k+1)).size=(gw s k).size+2:=by rw[Z,dU,mw];rfl
    refine wr aa mV ?_ ?_
    ·exact by unfold maxLen;omega
    exact b8 (λk=>if k=8 then .key 288 else .key k) (aT mV bg bN)
   have n4:¬af s k=9:=aC J
   refine aR aa mV ?_ ?_<;>intro J
   ·have au:af s k<32\/126<af s k:=aC J
    have cv:lB (af s k)=[92,120,af rZ (af s k/16),af rZ (af s k%16)]:=by rw[lB,ab U,ab U,ab eY,ab n3,ab n4]
    obtain⟨x,aB⟩:=l7 c0;have ee:x<256:=U;obtain⟨f1,f2,f3,f4⟩:=avF ⟨x,ee⟩;simp only at f1 f2 f3 f4;rw[aB]at cv;rw[aB,cv]at Z;have eh:=r0 rZ ((x:Int)/16);have lU:=r0 rZ ((x:Int)%16)
    have bg:=aQ _ (λc (J:c∈[92,120,af rZ ((x:Int)/16),af rZ ((x:Int)%16)])=>by simp at J;omega);rw[<- Z]at bg;simp only[fc,jc]at bg;have bN:(gw s (k+1)).size=(gw s k).size+4:=by rw[Z,dU,mw];rfl
    refine iP aa (de mV aB f3 f4 JP) ?_ ?_
    ·rw[f3]at f1;rw[f4]at f2;exact⟨U,f1,U,f2,by unfold maxLen;omega,U⟩
    exact b8 (λk=>if k=8 then .key 400 else .key k) (hV mV aB f3 f4 JP bg bN)
   have JR:¬(af s k<32\/126<af s k):=aC J
   refine ae.seq ?_;refine aR aa mV ?_ ?_<;>intro J
   ·have au:af s k=34\/af s k=92:=aC J
    have cv:lB (af s k)=[92,af s k]:=by rw[lB,al au]
    rw[cv]at Z;have bg:=aQ _ (λc (J:c∈[92,af s k])=>by simp at J;omega);rw[<- Z]at bg;simp only[fc,jc]at bg;have bN:(gw s (k+1)).size=(gw s k).size+2:=by rw[Z,dU,mw];rfl
    refine wr aa mV ?_ ?_
    ·exact by unfold maxLen;omega
    refine wr aa mV ?_ ?_
    ·exact by unfold maxLen;omega
    exact b8 (λk=>if k=8 then .key 424 else .key k) (de mV bg bN @mJ @Le)
   ·have n6:¬(af s k=34\/af s k=92):=aC J
    refine a1 ?_;have hw:32<=af s k/\af s k<=126:=U;have cv:lB (af s k)=[af s k]:=by rw[lB,ab n6,al hw]
    rw[cv]at Z;have bg:=aQ _ (λc (J:c∈[af s k])=>by simp at J;omega);rw[<- Z]at bg;simp only[fc,jc]at bg;have bN:(gw s (k+1)).size=(gw s k).size+1:=by rw[Z,dU,mw];rfl
    refine wr aa mV ?_ ?_
    ·exact by unfold maxLen;omega
    exact b8 (λk=>if k=8 then .key 392 else .key k) (aT mV bg bN)
  refine wr aa (I mV dM) ?_ ?_
  ·first|trivial|omega
  refine⟨k+1,ax,U,?_⟩;exact bh mV
 ·have e4:k=s.size:=bt J
  subst e4;have aQ:=yc (gw s s.size) [34] (λc J=>by simp at J;omega);simp only[fc,jc]at aQ;have z:=JO s s.size;have bN:(e9 s).size=(gw s s.size).size+1:=by rw[e9,dU,mw];rfl
  refine c6 ?_;refine aL aa (I mV aQ) ?_ ?_
  ·exact⟨by unfold maxLen;omega,U⟩
  refine aL aa (I mV aQ) ?_ ?_
  ·exact by rw[aej,<- e9,bN]
  exact bE mV
def avH(s:ao)(V:s.size<=1048576)(w:ar):cQ 61 #[s] w (.string (e9 s)):= avG s U w
abbrev avI:cV prog 61:=kH (λ| [.val (.string s)]=>some (s)|_=>none) (λav W bs=>av.size<=1048576) call61 λav W w bs ad hp=>avH av hp w
theorem EN.mono{p:zC}{W aO:World}{S bz:Nat->Prop}{eM a2 a3:dj}(h:EN p W S eM a2 a3)(V:bT W S aO bz):EN p aO bz eM a2 a3:=⟨h.1.mono V,h.2.1.mono V,h.2.2.mono V⟩
def ae1{S:aY}{n aw:Nat}(h:b0 W S ay vs)(aN:n*aw=vs.length)(eL:vs≠[]):∃b o,ay=some ⟨b,o,none⟩/\S b/\mb W b o (n*aw)=List.map ag.v vs/\p2 W b o (n*aw)=True:=by
 rcases h with h|⟨b,o,rfl,J⟩
 ·exact absurd h eL
 ·have A:=J 0 (by cases vs with|nil=>exact absurd rfl eL|cons=>simp);have:=Wu (w:=W) (b:=b) vs o λj Y=>(J j Y).2
  rw[aN];exact⟨b,o,rfl,A.1,this.1,DF this.2⟩
def ae2{α:Type}{l:List α}(h:l≠[]):(l.length==0)=false:=by
 cases l with
 |nil=>exact absurd rfl h
 |cons x r=>rfl
def NJ{G:aY}{W aO:World}{bs bl:List Nat}(hu:oi G W bs)(h:b0 aO (D0 W bs bl) ay vs):b0 aO (bw G bl) ay vs:=h.out λb Z=>⟨hu b Z.2,Z.1⟩
def EN.is{p:zC}{w:ar}{S:aY}{eM a2 a3:dj}(h:EN p w S eM a2 a3)(Z:JV p):RB p w eM a2 a3:=⟨Z,h.1.is,h.2.1.is,h.2.2.is⟩
section
variable (p:zC)(eM a2 a3:dj)(hx c2 c3:Nat)(Z:JV p)(aE:p.ty.length<=1048576/\p.cx.length<=1048576/\p.co.length<=1048576)
end
section
variable (W:ar)(bs:aD)(n op k a b:Int)
end
section
variable (p:zC)(eM a2 a3:dj)(hx c2 c3:Nat)(bx:WL p)(V:au1 p)
end
structure aEi where
 ty:List ByteArray
 cx:List ByteArray
 co:List (Int×Int×Int×Int)
 src:Int
 WJ:Int
 pl:Nat
end
end Go.Proofs.YtnemkecffmdlnaaGreatDoor
namespace Go.Proofs
section
open Go.Shelf
def Tryz.avJ:Go.Shelf.Ren:=⟨λ| 137=>138|217=>189|266=>231|n=>n,λ| 9=>9|5=>5|3=>3|n=>n,λ| n=>n⟩
def Tryz.avK:Go.Proofs.Lays.n137 Tryz.prog Tryz.avJ:={
 mixed:=by kernel_rfl
 f137:=Tryz.func138.trans (fZ some (by kernel_rfl))
 f217:=Tryz.func189.trans (fZ some (by kernel_rfl))
 f266:=Tryz.func231.trans (fZ some (by kernel_rfl))
 t3:=Tryz.underlying3
 a3:=Tryz.isAgg3
 z3:=Tryz.sizeOf3
 v3:=Tryz.zeroValue3
 t5:=Tryz.underlying5
 a5:=Tryz.isAgg5
 z5:=Tryz.sizeOf5
 v5:=Tryz.zeroValue5
 t9:=Tryz.underlying9
 a9:=Tryz.isAgg9
 z9:=Tryz.sizeOf9
 v9:=Tryz.zeroValue9 }
end
end Go.Proofs
namespace Go.Proofs.YtnemkecffmdlnaaGreatDoor
section
open Go.RowKit Go.LE Go.Proofs.Tryz
set_option maxRecDepth 10000
variable{i d k:Nat}{s t:ao}{c a:Int}
def avL(s:ao)(c:Int)(w:ar):cQ 138 #[s,.int .u8 c] w (.int .i64 (Lib.indexByte s.data.toList c.toNat.toUInt8)):=(Any.strings_IndexByte Tryz.avK s c w).mono λe M ⟨he,hw⟩=>⟨he,by rw[hw];exact LE.cr.refl w []⟩
abbrev ae3:cV prog 138:=oR (λ| [.val (.string s),.val (.int .u8 c)]=>some (s,c)|_=>none) call138 λav w=>avL av.1 av.2 w
def Hn:=ez
def avM(c:Int)(w:ar):cQ 163 #[.int .u8 c] w (.bool (vC c)):=by refine cB (nt:=21) [.tmp 2] func163 ?_;refine bk aa Hn ?_;exact bE Hn
def avN(c:Int)(w:ar):cQ 164 #[.int .u8 c] w (.bool (EO c)):=by refine cB (nt:=9) [.tmp 2] func164 ?_;refine bk aa Hn ?_;exact bE Hn
def avO(c:Int)(w:ar):cQ 210 #[.int .u8 c] w (.bool (qI c)):=by refine cB (nt:=9) [.tmp 2] func210 ?_;refine bk aa Hn ?_;exact bE Hn
abbrev avP:cV prog 163:=oR (λ| [.val (.int .u8 c)]=>some (c)|_=>none) call163 λav w=>avM av w
abbrev avQ:cV prog 164:=oR (λ| [.val (.int .u8 c)]=>some (c)|_=>none) call164 λav w=>avN av w
abbrev avR:cV prog 210:=oR (λ| [.val (.int .u8 c)]=>some (c)|_=>none) call210 λav w=>avO av w
def hy(s:ao)(i:Int)(d:Nat)(op:aX)(c a:Int)(t:ao):List br:=[.val (.string s),.val (.int .i64 i),.row 225 3 d op,.val (.int .i64 c),.val (.int .i64 a),.val (.string t)]
def Ho(s:ao)(i:Nat)(l:List bH)(c a:Int):List br:=hy s (i:Nat) l.length (iH l) c a ⟨#[]⟩
def avS{w:ar}{u:aM}{fp:aD}{i:Int}{op:aX}(h:eH w u fp 223 (hy s i d op c a t)):
  ∃b,u=.pointer (some ⟨b,0,none⟩)/\w.cell? ⟨b,0,none⟩=some (.string s)/\w.cell? ⟨b,0+1,none⟩=some (.int .i64 i):=by
 obtain⟨b,us,D,O,B⟩:=Qb h
 match us,O with
 |[x,y,aE7,sZ,FM,aEj],O=>obtain⟨rfl,rfl,_⟩:=O;exact⟨b,D,B 0 bq,B 1 bq⟩
def zE:=(aT Hn @hy.eq_1 @Ho.eq_1)
def avT(s:ao)(i:Int)(b:Nat)(w:ar)(g1:w.cell? ⟨b,0,none⟩=some (.string s))(g2:w.cell? ⟨b,0+1,none⟩=some (.int .i64 i)) :
  cQ 107 #[.pointer (some ⟨b,0,none⟩)] w (.bool (decide ((s.size:Int)<=i))):=by
 refine cB (nt:=13) [.tmp 2] func107 ?_;refine aA aa zE ?_;refine hs aa (aT zE g1 g2) ?_;exact bE zE
abbrev NK:y1 prog 107 where
 T:=223
 pre:=λW bs fs aj=>match fs,aj with|[.val (.string s),.val (.int .i64 i),.row 225 3 d op,.val (.int .i64 c),.val (.int .i64 a),.val (.string t)],[]=>True|_,_=>False
 res:=λW fs aj=>match fs,aj with|[.val (.string s),.val (.int .i64 i),.row 225 3 d op,.val (.int .i64 c),.val (.int .i64 a),.val (.string t)],[]=>.bool (decide ((s.size:Int)<=i))|_,_=>undef
 enters:=call107
 ok:=by
  intro W w bs u fp us fs aj ad H hu hp;split at hp
  ·rename_i s i d op c a t
   match us,hu with
   |[],_=>obtain⟨b,rfl,g1,g2⟩:=avS H;exact avT s i b w g1 g2
  ·exact hp.elim
def avU(s:ao)(i:Int)(d:Nat)(op:aX)(c a:Int)(t:ao)(e j:Int)(u:aM)(fp:aD)(w:ar)(H:eH w u fp 223 (hy s i d op c a t))(ax:∀b∈fp,b<w.heap.size) :
  Calls prog 165 (#[u]++#[.int .i64 e,.int .i64 j]) w λx M=>h0 w u fp 223 x M (.ret (.bool false) (hy s i d op e j ⟨#[]⟩)):=by
 refine jP (nt:=13) [.tmp 6] H ax func165 ?_;refine dL aa zE ?_;refine bf zE ?_;exact eC (I zE @bQ)
abbrev ae4:iO prog 165:=sy 223 (λ| [.val (.string s),.val (.int .i64 i),.row 225 3 d op,.val (.int .i64 c),.val (.int .i64 a),.val (.string t)],[.val (.int .i64 e),.val (.int .i64 j)]=>some (s,i,d,op,c,a,t,e,j)|_,_=>none) (λav W bs=>True) call165 λav W w bs u fp ad hp H ax fi=>avU av.1 av.2.1 av.2.2.1 av.2.2.2.1 av.2.2.2.2.1 av.2.2.2.2.2.1 av.2.2.2.2.2.2.1 av.2.2.2.2.2.2.2.1 av.2.2.2.2.2.2.2.2 u fp w H ax
def avV(s:ao)(i:Int)(d:Nat)(op:aX)(c a:Int)(t:ao)(k j:Int)(x:ao)(u:aM)(fp:aD)(w:ar)(ak:op.length=d*3)(sD:d<=1000000)(H:eH w u fp 223 (hy s i d op c a t))(ax:∀b∈fp,b<w.heap.size) :
  Calls prog 109 (#[u]++#[.int .i64 k,.int .i64 j,.string x]) w λy M=>h0 w u fp 223 y M (.ret (.bool true) (hy s i (d+1) (op++[.int .i64 k,.int .i64 j,.string x]) c a t)):=by
 have cm:op.map ag.v++[.v (.int .i64 k),.v (.int .i64 j),.v (.string x)]=(op++([.int .i64 k,.int .i64 j,.string x]:aX)).map ag.v:=by simp
 refine jP (nt:=22) [.tmp 8] H ax func109 ?_;refine aA aa zE ?_;refine aL aa zE ?_ ?_
 ·exact⟨by unfold maxLen;omega,U⟩
 refine aA aa zE ?_;refine bf (I zE cm) ?_;exact eC (I zE @bQ)
abbrev WY:iO prog 109:=sy 223 (λ| [.val (.string s),.val (.int .i64 i),.row 225 3 d op,.val (.int .i64 c),.val (.int .i64 a),.val (.string t)],[.val (.int .i64 k),.val (.int .i64 j),.val (.string x)]=>some (s,i,d,op,c,a,t,k,j,x)|_,_=>none) (λav W bs=>av.2.2.2.1.length=av.2.2.1*3/\av.2.2.1<=1000000) call109 λav W w bs u fp ad hp H ax fi=>avV av.1 av.2.1 av.2.2.1 av.2.2.2.1 av.2.2.2.2.1 av.2.2.2.2.2.1 av.2.2.2.2.2.2.1 av.2.2.2.2.2.2.2.1 av.2.2.2.2.2.2.2.2.1 av.2.2.2.2.2.2.2.2.2 u fp w hp.1 hp.2 H ax
def ER(l:List bH):(iH l).length=l.length*3:=by
 induction l with
 |nil=>rfl
 |cons x r bb=>have e:iH (x::r)=[.int .i64 x.1,.int .i64 (x.2.1:Nat),.string x.2.2]++iH r:=rfl;rw[e,ec,bb];simp only[l9,uW];omega
def ae5(l:List bH)(x:Int)(y:Nat)(aE7:ao):iH l++[.int .i64 x,.int .i64 (y:Nat),.string aE7]=iH (l++[(x,y,aE7)]):=by unfold iH;rw[OQ];rfl
def wZ(c:Int):Bool:=((decide (c=32)||decide (c=9))||decide (c=10))||decide (c=13)
def avW(c:Int):Hk c false=!wZ c:=by unfold Hk wZ;generalize decide (c=32)=eM;generalize decide (c=9)=a2;generalize decide (c=10)=a3;generalize decide (c=13)=a4;cases eM<;>cases a2<;>cases a3<;>cases a4<;>rfl
def WZ(s:ao)(h:s.size<=i)(b:Bool):pJ s (s.size-i) b i=i:=by rw[show s.size-i=0 by omega];rfl
def JZ(s:ao)(h:i<s.size)(b:Bool):pJ s (s.size-i) b i=if Hk (af s i) (pI (af s i) b)=true then i else pJ s (s.size-(i+1)) (pI (af s i) b) (i+1):=by rw[show s.size-i=(s.size-(i+1))+1 by omega];rfl
def avX(s:ao)(h:i<s.size)(J:¬af s i=10):pJ s (s.size-i) true i=pJ s (s.size-(i+1)) true (i+1):=by
 rw[JZ s h];have e:pI (af s i) true=true:=by unfold pI;rw[ab J];split<;>rfl
 rw[e,ab (by simp[Hk])]
def avY(s:ao)(h:i<s.size)(J:af s i=10):pJ s (s.size-i) true i=pJ s (s.size-i) false i:=by
 rw[JZ s h,JZ s h];have e:∀b,pI (af s i) b=false:=λb=>by rw[pI,al J]
 rw[e,e]
def avZ(s:ao)(h:i<s.size)(J:af s i=35):pJ s (s.size-i) false i=pJ s (s.size-i) true i:=by
 rw[JZ s h,JZ s h];have e:∀b,pI (af s i) b=true:=λb=>by rw[pI,ab U,al J]
 rw[e,e]
def av0(s:ao)(h:i<s.size)(J:¬af s i=35):pJ s (s.size-i) false i=if wZ (af s i)=true then pJ s (s.size-(i+1)) false (i+1) else i:=by
 rw[JZ s h];have e:pI (af s i) false=false:=by simp[pI,J]
 rw[e,avW];cases wZ (af s i)<;>rfl
abbrev Bh:Env prog:=a7 NK.spec aa
def nx:=(aT ez @hy.eq_1 @Ho.eq_1)
def av1(s:ao)(i:Nat)(d:Nat)(op:aX)(c a:Int)(t:ao)(u:aM)(fp:aD)(w:ar)(hi:i<=s.size)(V:s.size<=100000000)(H:eH w u fp 223 (hy s i d op c a t))(ax:∀b∈fp,b<w.heap.size) :
  Calls prog 106 (#[u]++#[]) w λx M=>h0 w u fp 223 x M (.ret (.tuple #[]) (hy s (nW s i:Nat) d op c a t)):=by
 refine jP (nt:=50) [] H ax func106 ?_;refine ae.block ?_
 refine ae.loop (λk:Nat=>⟨1,bK [(0,.is (.own 0 0))],bA [(0,.cells 223 [s,k,.ak 3,c,a,t]),(3,.row 225 3 d (op.map .v))]⟩) (λk=>k<=s.size/\pJ s (s.size-k) false k=nW s i) (λk=>s.size-k) i ?_ ⟨hi,rfl⟩ ?_
 ·exact bh nx
 rintro k ⟨ad,aK⟩;refine ae.seq ?_;refine aR Bh nx ?_ ?_<;>intro J
 ·have ax:k<s.size:=bt J
  have dM:=fK k;refine a1 ?_;refine ae.block ?_;refine dh Bh nx ?_ ?_
  ·omega
  refine ae.block ?_;refine aR Bh nx ?_ ?_<;>intro J
  ·have RF:af s k=35:=aC J
   rw[avZ s ax RF]at aK;refine ae.block ?_
   refine ae.loop (λj:Nat=>⟨40,bK [(0,.is (.own 0 0))],bA [(0,.cells 223 [s,j,.ak 3,c,a,t]),(3,.row 225 3 d (op.map .v))]⟩) (λj=>k<=j/\j<=s.size/\(j=k->af s k=35)/\pJ s (s.size-j) true j=nW s i) (λj=>s.size-j) k ?_ ⟨eo _,ad,λ_=>RF,aK⟩ ?_
   ·exact bh nx
   rintro j ⟨aEk,zd,arI,ES⟩;have iF:=fK j;refine ae.seq ?_;refine hs Bh nx ?_;refine bC nx ?_ ?_<;>intro J
   ·have Y:j<s.size/\¬af s j=10:=by
     simp at J;exact⟨U,J.2⟩
    rw[avX s Y.1 Y.2]at ES;refine a1 ?_;refine ae.block ?_;refine bY Bh (I nx iF) ?_;refine⟨j+1,⟨U,U,λh=>by omega,ES⟩,U,?_⟩;exact bh nx
   ·have Y:s.size<=j\/af s j=10:=by
     by_cases h:j<s.size
     ·right;simp at J;exact J h
     ·left;omega
    have eL:k<j:=by
     rcases Lf k j with h|h
     ·exact h
     ·have:j=k:=U;subst this;rcases Y with Y|Y
      ·omega
      ·omega
    refine c6 ?_;refine⟨j,⟨zd,?_⟩,U,?_⟩
    ·rcases Y with Y|Y
     ·rw[WZ s Y]at ES ⊢;exact ES
     ·by_cases h:j<s.size
      ·rw[avY s h Y]at ES;exact ES
      ·rw[WZ s U]at ES ⊢;exact ES
    ·exact bh nx
  ·have RF:¬af s k=35:=aC J
   rw[av0 s ax RF]at aK;clear J;refine fR ⟨60,bK [(0,.is (.own 0 0)),(38,(wZ (af s k)))],bA [(0,.cells 223 [s,k,.ak 3,c,a,t]),(3,.row 225 3 d (op.map .v))]⟩ ?_ ?_
   ·generalize af s k=aE7 at *;skip;refine aR Bh nx ?_ ?_<;>intro J
    ·have h:wZ aE7=true:=by
      simp at J;simp[wZ,J]
     refine a1 ?_;exact bh (aT nx h J)
    refine aA Bh nx ?_;have A:decide (aE7=32)=false:=J;clear J;refine bC nx ?_ ?_<;>intro J
    ·have h:wZ aE7=true:=by
      simp at J;simp[wZ,J]
     refine a1 ?_;exact bh (aT nx h J)
    have D:decide (aE7=9)=false:=J;clear J;refine aR Bh nx ?_ ?_<;>intro J
    ·have h:wZ aE7=true:=by
      simp at J;simp[wZ,J]
     refine a1 ?_;exact bh (aT nx h J)
    have O:decide (aE7=10)=false:=J;clear J;have e:wZ aE7=decide (aE7=13):=by rw[wZ,A,D,O];rfl
    refine bY Bh nx ?_;exact bh (I nx e)
   refine bC nx ?_ ?_<;>intro J
   ·rw[al J]at aK;refine bY Bh (I nx dM) ?_;refine⟨k+1,⟨U,aK⟩,U,?_⟩;exact bh nx
   ·rw[ab (by rw[J];simp)]at aK;rw[<- aK];refine bf nx ?_;exact eC (I nx @bQ)
 ·have e4:k=s.size:=bt J
  rw[WZ s U]at aK;rw[<- aK];refine c6 ?_;refine jQ nx ?_;exact eC (I nx @bQ)
abbrev av2:iO prog 106:=sy 223 (λ| [.val (.string s),.val (.int .i64 i),.row 225 3 d op,.val (.int .i64 c),.val (.int .i64 a),.val (.string t)],[]=>some (s,i,d,op,c,a,t)|_,_=>none) (λav W bs=>(0<=av.2.1/\av.2.1<=av.1.size)/\av.1.size<=100000000) call106 (e:=λav=>#[]) (fs:=λav=>[.val (.string av.1),.val (.int .i64 av.2.1),.row 225 3 av.2.2.1 av.2.2.2.1,.val (.int .i64 av.2.2.2.2.1),.val (.int .i64 av.2.2.2.2.2.1),.val (.string av.2.2.2.2.2.2)]) (out:=λav=>.ret (.tuple #[]) (hy av.1 (nW av.1 av.2.1.toNat:Nat) av.2.2.1 av.2.2.2.1 av.2.2.2.2.1 av.2.2.2.2.2.1 av.2.2.2.2.2.2)) λav W w bs u fp ad hp H ax fi=>by obtain⟨s,i,d,op,c,a,t⟩:=av;try dsimp only at hp;try dsimp only at H;obtain⟨k,rfl⟩:=l7 hp.1.1;exact av1 s k d op c a t u fp w U hp.2 H ax
def k4(s:ao)(i:Nat):Int×Bool×Nat:=
 if¬i+1<s.size then(0,false,i+1)
 else if af s ((i+1:Nat):Int)=110 then(10,true,i+1)
 else if af s ((i+1:Nat):Int)=114 then(13,true,i+1)
 else if af s ((i+1:Nat):Int)=116 then(9,true,i+1)
 else if af s ((i+1:Nat):Int)=34\/af s ((i+1:Nat):Int)=92 then(af s ((i+1:Nat):Int),true,i+1)
 else if af s ((i+1:Nat):Int)=120 then
  if¬i+2<s.size then(0,false,i+2)
  else if fF (af s ((i+2:Nat):Int))<0 then(0,false,i+2)
  else if¬i+3<s.size then(0,false,i+3)
  else if fF (af s ((i+3:Nat):Int))<0 then(0,false,i+3)
  else(16*fF (af s ((i+2:Nat):Int))+fF (af s ((i+3:Nat):Int)),true,i+3)
 else(0,false,i+1)
def av3:∀b:Fin 256,Lib.indexByte [48,49,50,51,52,53,54,55,56,57,97,98,99,100,101,102] ((b.val:Int).toNat.toUInt8)=fF ((b.val:Nat):Int):=by decide +kernel
def NL(c:Int):fF c<=15:=by
 unfold fF;split
 ·rename_i h;simp[EO]at h;omega
 ·split
  ·rename_i h;simp at h;omega
  ·omega
def av4(s:ao)(j:Nat):Lib.indexByte [48,49,50,51,52,53,54,55,56,57,97,98,99,100,101,102] ((af s (j:Nat)).toNat.toUInt8)=fF (af s (j:Nat)):=by obtain⟨c0,hx⟩:=r0 s j;obtain⟨b,Z⟩:=l7 c0;have:=av3 ⟨b,U⟩;rw[Z];exact this
def RG(s:ao)(d:Nat)(op:aX)(c a:Int)(t:ao)(q:Int×Bool×Nat):j7:=.ret (.tuple #[.int .u8 q.1,q.2.1]) (hy s (q.2.2:Nat) d op c a t)
abbrev mz:Env prog:=a7 NK.spec (a7 ae3.spec aa)
def gh:=(de ez @hy.eq_1 @Ho.eq_1 @av4 @RG.eq_1)
def av5(s:ao)(i:Nat)(d:Nat)(op:aX)(c a:Int)(t:ao)(u:aM)(fp:aD)(w:ar)(hi:i<=s.size)(V:s.size<=100000000)(H:eH w u fp 223 (hy s i d op c a t))(ax:∀b∈fp,b<w.heap.size) :
  Calls prog 211 (#[u]++#[]) w λx M=>h0 w u fp 223 x M (RG s d op c a t (k4 s i)):=by
 have fS:=fK i;refine jP (nt:=68) [.tmp 2,.tmp 3] H ax func211 ?_;refine aA mz gh ?_;refine bk mz (I gh fS) ?_;refine aR mz gh ?_ ?_<;>intro J
 ·have h:¬i+1<s.size:=bt J
  have e:k4 s i=(0,false,i+1):=by rw[k4,al h]
  rw[e];refine aA mz gh ?_;refine bf gh ?_;exact eC (I gh @bQ)
 have h:i+1<s.size:=bt J
 clear J;refine a1 ?_;refine ae.seq ?_;refine dh mz gh ?_ ?_
 ·omega
 refine bk mz gh ?_;obtain⟨z0,JW⟩:=r0 s ((i+1:Nat):Int);refine aR mz gh ?_ ?_<;>intro J
 ·have bx:af s ((i+1:Nat):Int)=110:=aC J
  have e:k4 s i=(10,true,i+1):=by rw[k4,ab U,al bx]
  rw[e];refine aA mz gh ?_;refine bf gh ?_;exact eC (I gh @bQ)
 have dE:¬af s ((i+1:Nat):Int)=110:=aC J
 clear J;refine aR mz gh ?_ ?_<;>intro J
 ·have bx:af s ((i+1:Nat):Int)=114:=aC J
  have e:k4 s i=(13,true,i+1):=by rw[k4,ab U,ab dE,al bx]
  rw[e];refine aA mz gh ?_;refine bf gh ?_;exact eC (I gh @bQ)
 have eY:¬af s ((i+1:Nat):Int)=114:=aC J
 clear J;refine aR mz gh ?_ ?_<;>intro J
 ·have bx:af s ((i+1:Nat):Int)=116:=aC J
  have e:k4 s i=(9,true,i+1):=by rw[k4,ab U,ab dE,ab eY,al bx]
  rw[e];refine aA mz gh ?_;refine bf gh ?_;exact eC (I gh @bQ)
 have n3:¬af s ((i+1:Nat):Int)=116:=aC J
 clear J
 refine fR ⟨60,bK [(0,.is (.own 0 0)),(4,.is (.v (.int .u8 (af s ((i+1:Nat):Int))))),(25,.is (.v (.int .u8 (af s ((i+1:Nat):Int))))),(32,.is (.v (.bool (decide (af s ((i+1:Nat):Int)=34\/af s ((i+1:Nat):Int)=92)))))],bA [(0,.cells 223 [s,(i+1:Nat),.ak 3,c,a,t]),(3,.row 225 3 d (op.map .v))]⟩ ?_ ?_
 ·generalize af s ((i+1:Nat):Int)=aE7 at *;skip;refine aR mz gh ?_ ?_<;>intro J
  ·have bx:aE7=34:=aC J
   have e:decide (aE7=34\/aE7=92)=true:=by simp[bx]
   refine a1 ?_;exact bh (aT gh e J)
  ·have bx:¬aE7=34:=aC J
   have e:decide (aE7=34\/aE7=92)=decide (aE7=92):=by simp[bx]
   refine bY mz gh ?_;exact bh (I gh e)
 refine bC gh ?_ ?_<;>intro J
 ·have bx:af s ((i+1:Nat):Int)=34\/af s ((i+1:Nat):Int)=92:=aC J
  have e:k4 s i=(af s ((i+1:Nat):Int),true,i+1):=by rw[k4,ab U,ab dE,ab eY,ab n3,al bx]
  rw[e];refine aA mz gh ?_;refine bf gh ?_;exact eC (I gh @bQ)
 have n4:¬(af s ((i+1:Nat):Int)=34\/af s ((i+1:Nat):Int)=92):=aC J
 clear J;refine aR mz gh ?_ ?_<;>intro J
 rotate_left
 ·have JR:¬af s ((i+1:Nat):Int)=120:=aC J
  have e:k4 s i=(0,false,i+1):=by rw[k4,ab U,ab dE,ab eY,ab n3,ab n4,ab JR]
  rw[e];refine bk mz gh ?_;refine bf gh ?_;exact eC (I gh @bQ)
 have bx:af s ((i+1:Nat):Int)=120:=aC J
 have cv:k4 s i=if¬i+2<s.size then(0,false,i+2)
  else if fF (af s ((i+2:Nat):Int))<0 then(0,false,i+2)
  else if¬i+3<s.size then(0,false,i+3)
  else if fF (af s ((i+3:Nat):Int))<0 then(0,false,i+3)
  else(16*fF (af s ((i+2:Nat):Int))+fF (af s ((i+3:Nat):Int)),true,i+3):=by rw[k4,ab U,ab dE,ab eY,ab n3,ab n4,al bx]
 clear J;refine dL mz gh ?_;have fh:=NL (af s ((i+2:Nat):Int));have gO:=NL (af s ((i+3:Nat):Int));refine ae.block ?_
 refine ae.loop (λp:Nat×Int=>⟨100,bK [(0,.is (.own 0 0)),(5,p.2),(38,p.1)],bA [(0,.cells 223 [s,(i+1+p.1:Nat),.ak 3,c,a,t]),(3,.row 225 3 d (op.map .v))]⟩)
  (λp=>p.1<=2/\(p.1=0->p.2=0)/\(1<=p.1->i+2<s.size/\0<=fF (af s ((i+2:Nat):Int)))/\(p.1=1->p.2=fF (af s ((i+2:Nat):Int)))/\(p.1=2->i+3<s.size/\0<=fF (af s ((i+3:Nat):Int))/\p.2=16*fF (af s ((i+2:Nat):Int))+fF (af s ((i+3:Nat):Int)))) (λp=>2-p.1) (0,0) ?_ ⟨aq,λ_=>rfl,λh=>absurd h aq,λh=>absurd h aq,λh=>absurd h aq⟩ ?_
 ·exact bh gh
 rintro⟨k,v⟩ ⟨e8,dz,kn,om,te⟩;dsimp only at e8 dz kn om te ⊢;refine bk mz gh ?_;refine bC gh ?_ ?_<;>intro J
 rotate_left
 ·have ad:k=2:=bt J
  subst ad;obtain⟨m1,m2⟩:=kn U;obtain⟨m3,m4,m5⟩:=te rfl;rw[ab U,ab U,ab U,ab U,<- m5]at cv;rw[cv];have av6:IntKind.u8.wrap v=v:=rh U U;refine c6 ?_;refine aA mz (I gh av6) ?_;refine bf gh ?_;exact eC (I gh @bQ)
 have ad:k<2:=bt J
 clear J;have iF:=iv (((i+1+k:Nat):Int)+1) ((i+2+k:Nat):Int);have dM:=fK k;refine ti mz (I gh iF) ?_;refine aR mz gh ?_ ?_<;>intro J
 ·have ax:¬i+2+k<s.size:=bt J
  have e:k4 s i=(0,false,i+2+k):=by
   rcases(show k=0\/k=1 by omega) with rfl|rfl
   ·rw[cv,al U]
   ·obtain⟨m1,m2⟩:=kn U;rw[cv,ab U,ab U,al U]
  rw[e];refine aA mz gh ?_;refine bf gh ?_;exact eC (I gh @bQ)
 have ax:i+2+k<s.size:=bt J
 clear J;refine a1 ?_;refine dh mz gh ?_ ?_
 ·omega
 have Hp:=NL (af s ((i+2+k:Nat):Int));have au:0<=v/\v<=15:=by
  rcases(show k=0\/k=1 by omega) with rfl|rfl
  ·have:=dz rfl;omega
  ·obtain⟨m1,m2⟩:=kn U;have:=om rfl;omega
 refine ae.seq ?_;refine aR mz gh ?_ ?_<;>intro J
 ·have aE:fF (af s ((i+2+k:Nat):Int))<0:=aC J
  have e:k4 s i=(0,false,i+2+k):=by
   rcases(show k=0\/k=1 by omega) with rfl|rfl
   ·rw[cv,ab U,al (by exact aE)]
   ·obtain⟨m1,m2⟩:=kn U;rw[cv,ab U,ab U,ab U,al (by exact aE)]
  rw[e];refine aA mz gh ?_;refine bf gh ?_;exact eC (I gh @bQ)
 have aE:0<=fF (af s ((i+2+k:Nat):Int)):=by have:=qY J;omega
 clear J;have dp:=dv (16*v);have kI:=dv (16*v+fF (af s ((i+2+k:Nat):Int)));refine a1 ?_;refine bY mz (aT gh dp kI) ?_;refine bY mz (I gh dM) ?_
 refine⟨(k+1,16*v+fF (af s ((i+2+k:Nat):Int))),⟨by dsimp only;omega,λh=>?_,λ_=>?_,λh=>?_,λh=>?_⟩,by dsimp only;omega,?_⟩
 ·dsimp only at h;omega
 ·rcases(show k=0\/k=1 by omega) with rfl|rfl
  ·exact⟨ax,aE⟩
  ·exact kn U
 ·dsimp only at h ⊢;obtain rfl:k=0:=U;rw[dz rfl];show 16*0+_=_;simp
 ·dsimp only at h ⊢;obtain rfl:k=1:=U;rw[om rfl];exact⟨ax,aE,rfl⟩
 ·exact bh (I gh (show i+1+(k+1)=i+2+k by omega))
abbrev av7:iO prog 211:=sy 223 (λ| [.val (.string s),.val (.int .i64 i),.row 225 3 d op,.val (.int .i64 c),.val (.int .i64 a),.val (.string t)],[]=>some (s,i,d,op,c,a,t)|_,_=>none) (λav W bs=>(0<=av.2.1/\av.2.1<=av.1.size)/\av.1.size<=100000000) call211 (e:=λav=>#[]) (fs:=λav=>[.val (.string av.1),.val (.int .i64 av.2.1),.row 225 3 av.2.2.1 av.2.2.2.1,.val (.int .i64 av.2.2.2.2.1),.val (.int .i64 av.2.2.2.2.2.1),.val (.string av.2.2.2.2.2.2)]) (out:=λav=>RG av.1 av.2.2.1 av.2.2.2.1 av.2.2.2.2.1 av.2.2.2.2.2.1 av.2.2.2.2.2.2 (k4 av.1 av.2.1.toNat)) λav W w bs u fp ad hp H ax fi=>by obtain⟨s,i,d,op,c,a,t⟩:=av;try dsimp only at hp;try dsimp only at H;obtain⟨k,rfl⟩:=l7 hp.1.1;exact av5 s k d op c a t u fp w U hp.2 H ax
def av8(ad:k<s.size):(k<(k4 s k).2.2/\(k4 s k).2.2<=s.size)/\(0<=(k4 s k).1/\(k4 s k).1<256):=by
 have aE7:=r0 s ((k+1:Nat):Int);have fh:=NL (af s ((k+2:Nat):Int));have gO:=NL (af s ((k+3:Nat):Int));unfold k4
 repeat' split
 all_goals(refine⟨⟨?_,?_⟩,?_,?_⟩<;>dsimp only<;>omega)
def av9(s:ao)(i n:Nat)(o:ao)(ad:k<s.size)(h:af s (k:Nat)=92):oZ s i (n+1) k o =
  if s.size<=(k4 s k).2.2 then(fN,0,51,i) else if(k4 s k).2.1=false then(fN,0,50,(k4 s k).2.2) else oZ s i n ((k4 s k).2.2+1) (o++fD [(k4 s k).1]):=by
 have hp:¬qI 92=false:=by decide
 rw[oZ,al ad,h,ab U,ab hp,ab U];by_cases D:k+1<s.size
 ·rw[ab (show¬ ¬k+1<s.size by omega)];unfold k4;rw[ab (show¬ ¬k+1<s.size by omega)];generalize bx:af s ((k+1:Nat):Int)=aE7 at *;by_cases bg:aE7=110
  ·rw[al bg,al bg,ab (by dsimp only;omega),ab bq]
  rw[ab bg,ab bg];by_cases bN:aE7=114
  ·rw[al bN,al bN,ab (by dsimp only;omega),ab bq]
  rw[ab bN,ab bN];by_cases dQ:aE7=116
  ·rw[al dQ,al dQ,ab (by dsimp only;omega),ab bq]
  rw[ab dQ,ab dQ];by_cases h1:aE7=34\/aE7=92
  ·rw[al h1,al h1,ab (by dsimp only;omega),ab bq]
  rw[ab h1,ab h1];by_cases rU:aE7=120
  ·rw[al rU,al rU];by_cases O:k+2<s.size
   ·rw[ab (show¬ ¬k+2<s.size by omega),ab (show¬ ¬k+2<s.size by omega)];by_cases fh:fF (af s ((k+2:Nat):Int))<0
    ·rw[al fh,al fh,ab (by dsimp only;omega),al rfl]
    rw[ab fh,ab fh];by_cases B:k+3<s.size
    ·rw[ab (show¬ ¬k+3<s.size by omega),ab (show¬ ¬k+3<s.size by omega)];by_cases gO:fF (af s ((k+3:Nat):Int))<0
     ·rw[al gO,al gO,ab (by dsimp only;omega),al rfl]
     rw[ab gO,ab gO,ab (by dsimp only;omega),ab bq]
    ·rw[al B,al B,al (by dsimp only;omega)]
   ·rw[al O,al O,al (by dsimp only;omega)]
  ·rw[ab rU,ab rU,ab (by dsimp only;omega),al rfl]
 ·rw[al D];unfold k4;rw[al D,al (by dsimp only;omega)]
def mW(s:ao)(i:Nat)(oj:Int)(d:Nat)(op:aX)(c a:Int)(t:ao)(q:EP):j7:=
 if q.2.2.1=0 then .ret (.bool true) (hy s (q.2.1:Nat) (d+1) (op++[.int .i64 oj,.int .i64 (i:Nat),.string q.1]) c a t)
 else .ret (.bool false) (hy s (if q.2.2.1=50 then(q.2.2.2:Nat) else(s.size:Nat)) d op q.2.2.1 (q.2.2.2:Nat) ⟨#[]⟩)
abbrev jC:Env prog:=a7 NK.spec (a7 WY.spec (a7 ae4.spec (a7 avR.spec (a7 av7.spec aa))))
def ku:=(hV ez @hy.eq_1 @Ho.eq_1 @Rl @Rm @Rn @RG.eq_1)
def awa(s:ao)(i:Nat)(d:Nat)(op:aX)(c a:Int)(t:ao)(u:aM)(fp:aD)(w:ar)(hi:i<s.size)(V:s.size<=4096)(ak:op.length=d*3)(sD:d<=1000000)(H:eH w u fp 223 (hy s (i:Nat) d op c a t))(ax:∀b∈fp,b<w.heap.size) :
  Calls prog 166 (#[u]++#[]) w λx M=>h0 w u fp 223 x M (mW s i 2 d op c a t (jA s i)):=by
 have fS:=fK i;refine jP (nt:=95) [.tmp 2] H ax func166 ?_;refine gJ jC ku ?_;refine bk jC (I ku fS) ?_
 refine ae.loop (λp:Nat×Nat×ByteArray=>⟨20,bK [(0,.is (.own 0 0)),(3,i),(4,.is (.ak 19))],bA [(0,.cells 223 [s,p.2.1,.ak 3,c,a,t]),(3,.row 225 3 d (op.map .v)),(19,.row 5 1 p.2.2.size ((byteCells p.2.2).map .v))]⟩) (λp=>(i+1<=p.2.1/\p.2.1<=s.size)/\p.2.2.size<=p.2.1/\s.size<=p.2.1+p.1/\oZ s i p.1 p.2.1 p.2.2=jA s i) (λp=>p.1) (s.size-(i+1),i+1,fN) ?_ ⟨⟨eo _,hi⟩,ef _,by dsimp only;omega,rfl⟩ ?_
 ·exact b8 (λk=>if k=19 then .nil else .key k) (b3 ku @fN.eq_1 (show(⟨#[]⟩:ao).size=0 from rfl) (show byteCells ⟨#[]⟩=[] from rfl))
 rintro⟨n,k,o⟩ ⟨⟨g0,g1⟩,g2,g3,g4⟩;dsimp only at g0 g1 g2 g3 g4 ⊢;refine ae.seq ?_;refine aR jC ku ?_ ?_<;>intro J
 rotate_left
 ·have ad:k=s.size:=bt J
  subst ad;have z:jA s i=(fN,0,51,i):=by
   rw[<- g4];cases n with
   |zero=>rfl
   |succ n=>rw[oZ,ab U]
  have cg:mW s i 2 d op c a t (fN,0,51,i)=.ret (.bool false) (hy s (s.size:Nat) d op 51 (i:Nat) ⟨#[]⟩):=rfl;rw[z,cg];refine c6 ?_;refine aL jC ku ?_ ?_
  ·exact⟨aq,λ_ h=>h.elim⟩
  refine bf ku ?_;exact eC (I ku @bQ)
 have ax:k<s.size:=bt J
 clear J;obtain⟨n,rfl⟩:∃jh,n=jh+1:=⟨n-1,U⟩;obtain⟨c0,hx⟩:=r0 s k;have z:=g4;rw[oZ,al ax]at z;have dM:=fK k;refine a1 ?_;refine ae.seq (ae.block ?_);refine dh jC ku ?_ ?_
 ·omega
 refine ae.seq (ae.block ?_);refine aR jC ku ?_ ?_<;>intro J
 ·have h:af s (k:Nat)=34:=aC J
  rw[al h]at z;have cg:mW s i 2 d op c a t (o,k+1,0,0)=.ret (.bool true) (hy s (k+1:Nat) (d+1) (op++[.int .i64 2,.int .i64 (i:Nat),.string o]) c a t):=rfl;rw[<- z,cg];refine aA jC (I ku dM) ?_;refine aA jC ku ?_;refine bf ku ?_;exact eC (I ku @bQ)
 have CV:¬af s (k:Nat)=34:=aC J
 rw[ab CV]at z;clear J;refine aR jC ku ?_ ?_<;>intro J
 ·have h:qI (af s (k:Nat))=false:=aC J
  rw[al h]at z;have cg:mW s i 2 d op c a t (fN,0,50,k)=.ret (.bool false) (hy s (k:Nat) d op 50 (k:Nat) ⟨#[]⟩):=rfl;rw[<- z,cg];refine aL jC ku ?_ ?_
  ·exact⟨aq,λ_ h=>h.elim⟩
  refine bf ku ?_;exact eC (I ku @bQ)
 have hp:¬qI (af s (k:Nat))=false:=aC J
 rw[ab hp]at z;clear J;refine aR jC ku ?_ ?_<;>intro J
 ·have h:¬af s (k:Nat)=92:=aC J
  rw[al h]at z;have aQ:=yc o [af s (k:Nat)] (λc J=>by rw[l8.1 J];exact⟨c0,hx⟩);have bx:(o++fD [af s (k:Nat)]).size=o.size+1:=by rw[dU,mw];rfl
  simp only[fc,jc]at aQ;refine aL jC (I ku aQ) ?_ ?_
  ·exact⟨by unfold maxLen;omega,U⟩
  refine c6 ?_;refine bY jC (I ku dM) ?_;refine⟨(n,k+1,o++fD [af s (k:Nat)]),⟨⟨by dsimp only;omega,by dsimp only;omega⟩,by dsimp only;omega,by dsimp only;omega,z⟩,by dsimp only;omega,?_⟩;exact b8 (λk=>if k=19 then .key 368 else .key k) (I ku bx)
 have A2:af s (k:Nat)=92:=aC J
 clear J z;rw[av9 s i n o ax A2]at g4;obtain⟨⟨gK,ea⟩,ji,tq⟩:=av8 ax;generalize aZ:k4 s k=q at *;obtain⟨b,ok,j⟩:=q;dsimp only at g4 gK ea ji tq;refine a1 ?_;refine aL jC (I ku aZ) ?_ ?_
 ·exact⟨⟨⟨U,U⟩,U⟩,aq,λ_ h=>h.elim⟩
 refine ae.seq ?_;refine aR jC ku ?_ ?_<;>intro J
 ·have Y:j=s.size:=bt J
  subst Y;rw[al (eo _)]at g4;have cg:mW s i 2 d op c a t (fN,0,51,i)=.ret (.bool false) (hy s (s.size:Nat) d op 51 (i:Nat) ⟨#[]⟩):=rfl;rw[<- g4,cg];refine aL jC ku ?_ ?_
  ·exact⟨aq,λ_ h=>h.elim⟩
  refine bf ku ?_;exact eC (I ku @bQ)
 have Y:¬s.size<=j:=bt J
 rw[ab Y]at g4;clear J;refine a1 ?_;refine ae.seq ?_;refine aR jC ku ?_ ?_<;>intro J
 ·have bW:ok=false:=aC J
  rw[al bW]at g4;have cg:mW s i 2 d op c a t (fN,0,50,j)=.ret (.bool false) (hy s (j:Nat) d op 50 (j:Nat) ⟨#[]⟩):=rfl;rw[<- g4,cg];refine aL jC ku ?_ ?_
  ·exact⟨aq,λ_ h=>h.elim⟩
  refine bf ku ?_;exact eC (I ku @bQ)
 have bW:ok=true:=aC J
 rw[ab (by rw[bW];simp)]at g4;clear J;have aQ:=yc o [b] (λc J=>by rw[l8.1 J];exact⟨ji,tq⟩);have bx:(o++fD [b]).size=o.size+1:=by rw[dU,mw];rfl
 have iF:=fK j;simp only[fc,jc]at aQ;refine a1 ?_;refine wr jC (I ku aQ) ?_ ?_
 ·exact⟨by unfold maxLen;omega,U⟩
 refine bY jC (I ku iF) ?_;refine⟨(n,j+1,o++fD [b]),⟨⟨by dsimp only;omega,by dsimp only;omega⟩,by dsimp only;omega,by dsimp only;omega,g4⟩,by dsimp only;omega,?_⟩;exact b8 (λk=>if k=19 then .key 456 else if k=3 then .key 354 else .key k) (I ku bx)
abbrev awb:iO prog 166:=sy 223 (λ| [.val (.string s),.val (.int .i64 i),.row 225 3 d op,.val (.int .i64 c),.val (.int .i64 a),.val (.string t)],[]=>some (s,i,d,op,c,a,t)|_,_=>none) (λav W bs=>((0<=av.2.1/\av.2.1<av.1.size)/\av.1.size<=4096)/\av.2.2.2.1.length=av.2.2.1*3/\av.2.2.1<=1000000) call166 (e:=λav=>#[]) (fs:=λav=>[.val (.string av.1),.val (.int .i64 av.2.1),.row 225 3 av.2.2.1 av.2.2.2.1,.val (.int .i64 av.2.2.2.2.1),.val (.int .i64 av.2.2.2.2.2.1),.val (.string av.2.2.2.2.2.2)]) (out:=λav=>mW av.1 av.2.1.toNat 2 av.2.2.1 av.2.2.2.1 av.2.2.2.2.1 av.2.2.2.2.2.1 av.2.2.2.2.2.2 (jA av.1 av.2.1.toNat)) λav W w bs u fp ad hp H ax fi=>by obtain⟨s,i,d,op,c,a,t⟩:=av;try dsimp only at hp;try dsimp only at H;obtain⟨k,rfl⟩:=l7 hp.1.1.1;exact awa s k d op c a t u fp w U hp.1.2 hp.2.1 hp.2.2 H ax
def W0(s:ao)(i n:Nat)(h:s.size<=k):r2 s i n k=(fN,0,52,i):=by
 cases n with
 |zero=>rfl
 |succ n=>rw[r2,ab U]
def lD:=(aT ez @hy.eq_1 @Ho.eq_1)
def awc(s:ao)(i:Nat)(d:Nat)(op:aX)(c a:Int)(t:ao)(u:aM)(fp:aD)(w:ar)(hi:i<s.size)(V:s.size<=4096)(ak:op.length=d*3)(sD:d<=1000000)(H:eH w u fp 223 (hy s (i:Nat) d op c a t))(ax:∀b∈fp,b<w.heap.size) :
  Calls prog 167 (#[u]++#[]) w λx M=>h0 w u fp 223 x M (mW s i 3 d op c a t (kt s i)):=by
 have fS:=fK i;refine jP (nt:=112) [.tmp 2] H ax func167 ?_;refine dL jC lD ?_;refine bk jC (I lD fS) ?_
 refine ae.loop (λp:Nat×Nat=>⟨20,bK [(0,.is (.own 0 0)),(3,i)],bA [(0,.cells 223 [s,p.2,.ak 3,c,a,t]),(3,.row 225 3 d (op.map .v))]⟩) (λp=>(i+1<=p.2/\p.2<=s.size)/\s.size<=p.2+p.1/\r2 s i p.1 p.2=kt s i) (λp=>p.1) (s.size-(i+1),i+1) ?_ ⟨⟨eo _,hi⟩,by dsimp only;omega,rfl⟩ ?_
 ·exact bh lD
 rintro⟨n,k⟩ ⟨⟨g0,g1⟩,g3,g4⟩;dsimp only at g0 g1 g3 g4 ⊢;refine ae.seq ?_;refine aR jC lD ?_ ?_<;>intro J
 rotate_left
 ·have ad:k=s.size:=bt J
  subst ad;rw[W0 s i n (eo _)]at g4;have cg:mW s i 3 d op c a t (fN,0,52,i)=.ret (.bool false) (hy s (s.size:Nat) d op 52 (i:Nat) ⟨#[]⟩):=rfl;rw[<- g4,cg];refine c6 ?_;refine aL jC lD ?_ ?_
  ·exact⟨aq,λ_ h=>h.elim⟩
  refine bf lD ?_;exact eC (I lD @bQ)
 have ax:k<s.size:=bt J
 clear J;obtain⟨n,rfl⟩:∃jh,n=jh+1:=⟨n-1,U⟩;obtain⟨c0,hx⟩:=r0 s k;have z:=g4;rw[r2,al ax]at z;have dM:=fK k;refine a1 ?_;refine ae.seq (ae.block ?_);refine dh jC lD ?_ ?_
 ·omega
 obtain⟨aE7,j,cG,aE⟩:∃(aE7:Int) (j:Nat),(af s (k:Nat)=92/\k+1<s.size->aE7=32/\j=k+1)/\(¬(af s (k:Nat)=92/\k+1<s.size)->aE7=af s (k:Nat)/\j=k):=by
  by_cases h:af s (k:Nat)=92/\k+1<s.size
  ·exact⟨32,k+1,λ_=>⟨rfl,rfl⟩,λbu=>absurd h bu⟩
  ·exact⟨_,k,λbu=>absurd bu h,λ_=>⟨rfl,rfl⟩⟩
 refine rb (λ_:Unit=>⟨60,bK [(0,.is (.own 0 0)),(3,i),(4,.is (.v (.int .u8 aE7)))],bA [(0,.cells 223 [s,j,.ak 3,c,a,t]),(3,.row 225 3 d (op.map .v))]⟩) (λ_=>w) (λ_=>fp) (λ_=>(af s (k:Nat)=92/\k+1<s.size)->¬qI (af s ((k+1:Nat):Int))=false) ?_ ?_
 ·skip;refine hs jC (I lD dM) ?_;refine bC lD ?_ ?_<;>intro J
  ·have h:af s (k:Nat)=92/\k+1<s.size:=by
    simp at J;exact⟨J.1,U⟩
   obtain⟨rfl,rfl⟩:=cG h;clear J;refine aA jC (I lD dM) ?_;refine aA jC lD ?_;refine dh jC lD ?_ ?_
   ·omega
   refine bC lD ?_ ?_<;>intro J
   ·have hp:qI (af s ((k+1:Nat):Int))=false:=aC J
    rw[h.1,ab aq,ab U,al rfl,al ⟨h.2,hp⟩]at z;have cg:mW s i 3 d op c a t (fN,0,50,k+1)=.ret (.bool false) (hy s (k+1:Nat) d op 50 (k+1:Nat) ⟨#[]⟩):=rfl;rw[<- z,cg];refine aL jC lD ?_ ?_
    ·exact⟨aq,λ_ h=>h.elim⟩
    refine bf lD ?_;exact eC (I lD @bQ)
   have hp:¬qI (af s ((k+1:Nat):Int))=false:=aC J
   refine a1 ?_;refine⟨(),λ_=>hp,rfl,rfl,?_⟩;exact bh lD
  ·have h:¬(af s (k:Nat)=92/\k+1<s.size):=by
    intro h;simp at J;have:=J h.1;omega
   obtain⟨rfl,rfl⟩:=aE h;refine a1 ?_;refine⟨(),λbu=>absurd bu h,rfl,rfl,?_⟩;exact bh lD
 rintro-T7 aB;have iF:IntKind.i64.wrap ((j:Int)+1)=((j+1:Nat):Int):=by
  by_cases h:af s (k:Nat)=92/\k+1<s.size
  ·have:=(cG h).2;rw[gb U U];omega
  ·have:=(aE h).2;rw[gb U U];omega
 refine ae.block ?_;refine aR jC lD ?_ ?_<;>intro J
 ·have hp:qI aE7=false:=aC J
  have h:¬(af s (k:Nat)=92/\k+1<s.size):=λh=>by rw[(cG h).1]at hp;exact absurd hp aq
  obtain⟨rfl,zF⟩:=aE h;obtain rfl:=zF.symm;rw[al hp]at z;have cg:mW s i 3 d op c a t (fN,0,50,k)=.ret (.bool false) (hy s (k:Nat) d op 50 (k:Nat) ⟨#[]⟩):=rfl;rw[<- z,cg];refine aL jC lD ?_ ?_
  ·exact⟨aq,λ_ h=>h.elim⟩
  refine bf lD ?_;exact eC (I lD @bQ)
 have hp:¬qI aE7=false:=aC J
 clear J;refine aR jC lD ?_ ?_<;>intro J
 ·have bx:aE7=47:=aC J
  have h:¬(af s (k:Nat)=92/\k+1<s.size):=λh=>by have:=(cG h).1;omega
  obtain⟨rfl,zF⟩:=aE h;obtain rfl:=zF.symm;rw[ab hp,al bx]at z;have cg:mW s i 3 d op c a t (s.extract (i+1) k,k+1,0,0)=.ret (.bool true) (hy s (k+1:Nat) (d+1) (op++[.int .i64 3,.int .i64 (i:Nat),.string (s.extract (i+1) k)]) c a t):=rfl;rw[<- z,cg]
  have wS:=iv (((k+1:Nat):Int)-1) ((k:Nat):Int);refine aA jC (I lD iF) ?_;refine dh jC (aT lD fS wS) ?_ ?_
  ·exact⟨⟨U,U,U⟩,⟨ak,sD⟩,aq,λ_ h=>h.elim⟩
  refine bf lD ?_;exact eC (I lD @bQ)
 have bx:¬aE7=47:=aC J
 clear J;refine a1 ?_;refine bY jC (I lD iF) ?_;have h6:(j+1<=s.size/\i+1<=j+1/\k<=j)/\r2 s i n (j+1)=kt s i:=by
  by_cases h:af s (k:Nat)=92/\k+1<s.size
  ·obtain⟨rfl,rfl⟩:=cG h;rw[h.1,ab aq,ab U,al rfl,ab (λbu=>T7 h bu.2)]at z;exact⟨⟨U,U,U⟩,z⟩
  ·obtain⟨rfl,zF⟩:=aE h;obtain rfl:=zF.symm;rw[ab hp,ab bx]at z;refine⟨⟨U,U,U⟩,?_⟩;by_cases A2:af s (k:Nat)=92
   ·have gN:¬k+1<s.size:=λbu=>h ⟨A2,bu⟩
    rw[al A2,ab (λbu=>gN bu.1),W0 s i n U]at z;rw[W0 s i n U];exact z
   ·rw[ab A2]at z;exact z
 refine⟨(n,j+1),⟨⟨by dsimp only;omega,by dsimp only;omega⟩,by dsimp only;omega,h6.2⟩,by dsimp only;omega,?_⟩;exact bh lD
abbrev awd:iO prog 167:=sy 223 (λ| [.val (.string s),.val (.int .i64 i),.row 225 3 d op,.val (.int .i64 c),.val (.int .i64 a),.val (.string t)],[]=>some (s,i,d,op,c,a,t)|_,_=>none) (λav W bs=>((0<=av.2.1/\av.2.1<av.1.size)/\av.1.size<=4096)/\av.2.2.2.1.length=av.2.2.1*3/\av.2.2.1<=1000000) call167 (e:=λav=>#[]) (fs:=λav=>[.val (.string av.1),.val (.int .i64 av.2.1),.row 225 3 av.2.2.1 av.2.2.2.1,.val (.int .i64 av.2.2.2.2.1),.val (.int .i64 av.2.2.2.2.2.1),.val (.string av.2.2.2.2.2.2)]) (out:=λav=>mW av.1 av.2.1.toNat 3 av.2.2.1 av.2.2.2.1 av.2.2.2.2.1 av.2.2.2.2.2.1 av.2.2.2.2.2.2 (kt av.1 av.2.1.toNat)) λav W w bs u fp ad hp H ax fi=>by obtain⟨s,i,d,op,c,a,t⟩:=av;try dsimp only at hp;try dsimp only at H;obtain⟨k,rfl⟩:=l7 hp.1.1.1;exact awc s k d op c a t u fp w U hp.1.2 hp.2.1 hp.2.2 H ax
def RH(s p:ao):Bool:=decide ((p.size:Int)<=(s.size:Nat))&&decide (s.extract 0 p.size=p)
def W1:=ez
def awe(s p:ao)(w:ar):cQ 190 #[s,p] w (.bool (RH s p)):=by refine cB (nt:=18) [.tmp 4] func190 ?_;refine bk aa W1 ?_;exact bE W1
abbrev awf:cV prog 190:=oR (λ| [.val (.string s),.val (.string p)]=>some (s,p)|_=>none) call190 λav w=>awe av.1 av.2 w
abbrev awg:Env prog:=a7 awf.spec aa
def ae6:=W1
def awh(s p:ao)(w:ar):cQ 168 #[s,p] w (.bool (RH s p)):=by refine cB (nt:=8) [.tmp 4] func168 ?_;refine bk awg ae6 ?_;exact bE ae6
abbrev awi:cV prog 168:=oR (λ| [.val (.string s),.val (.string p)]=>some (s,p)|_=>none) call168 λav w=>awh av.1 av.2 w
def awj(s:ao)(hi:i<s.size):RH (s.extract i s.size) ⟨#[62,62]⟩=decide (af s (i:Nat)=62/\i+1<s.size/\af s ((i+1:Nat):Int)=62):=by
 have aE7:(⟨#[62,62]⟩:ao).size=2:=rfl;have bx:=aeR s i s.size (eo _);have t0:af (⟨#[62,62]⟩:ao) ((0:Nat):Int)=62:=rfl;have t1:af (⟨#[62,62]⟩:ao) ((1:Nat):Int)=62:=rfl;unfold RH;rw[aE7,bx];by_cases h:i+1<s.size
 ·rw[nJ (show((2:Nat):Int)<=((s.size-i:Nat):Nat) by omega),FE,uV];have J0:((s.extract i s.size).extract 0 2).size=2:=by rw[aeR _ _ _ U]
  have lx:=NG (s.extract i s.size) 0 2 0 U U;have eh:=NG (s.extract i s.size) 0 2 1 U U;have c0:=NG s i s.size 0 (eo _) U;have hx:=NG s i s.size 1 (eo _) U;simp only[lM,tT]at lx eh c0 hx;rw[c0]at lx;rw[hx]at eh;constructor
  ·intro e;rw[e]at lx eh;exact⟨by rw[<- lx];exact t0,h,by rw[<- eh];exact t1⟩
  ·rintro⟨cv,_,bg⟩;refine avo (by rw[J0,aE7]) λj Y=>?_
   rw[J0]at Y;rcases(show j=0\/j=1 by omega) with rfl|rfl
   ·rw[lx,cv];rfl
   ·rw[eh,bg];rfl
 ·rw[yJ (show¬((2:Nat):Int)<=((s.size-i:Nat):Nat) by omega),O6]
  symm
  apply yJ;rintro⟨_,bu,_⟩;exact h bu
def awk:∀b:Fin 256,decide (0<=Lib.indexByte [61,59,40,41,123,125,44,124,38,45,46,126,42,43,63] ((b.val:Int).toNat.toUInt8))=tv ((b.val:Nat):Int):=by decide +kernel
def awl(s:ao)(j:Nat):decide (0<=Lib.indexByte [61,59,40,41,123,125,44,124,38,45,46,126,42,43,63] ((af s (j:Nat)).toNat.toUInt8))=tv (af s (j:Nat)):=by obtain⟨c0,hx⟩:=r0 s j;obtain⟨b,Z⟩:=l7 c0;have:=awk ⟨b,U⟩;rw[Z];exact this
def lY(s:ao)(i:Nat)(d:Nat)(op:aX)(c a:Int)(t:ao):j7:=
 if vC (af s (i:Nat))=true then
  if 32<iU s i-i then .ret (.bool false) (hy s (iU s i:Nat) d op 1 (i:Nat) ⟨#[]⟩)
  else .ret (.bool true) (hy s (iU s i:Nat) (d+1) (op++[.int .i64 1,.int .i64 (i:Nat),.string (s.extract i (iU s i))]) c a t)
 else if af s (i:Nat)=34 then mW s i 2 d op c a t (jA s i)
 else if af s (i:Nat)=47 then mW s i 3 d op c a t (kt s i)
 else if tv (af s (i:Nat))=true then .ret (.bool true) (hy s (i+1:Nat) (d+1) (op++[.int .i64 4,.int .i64 (i:Nat),.string (s.extract i (i+1))]) c a t)
 else if af s (i:Nat)=62/\i+1<s.size/\af s ((i+1:Nat):Int)=62 then .ret (.bool true) (hy s (i+2:Nat) (d+1) (op++[.int .i64 4,.int .i64 (i:Nat),.string ⟨#[62,62]⟩]) c a t)
 else .ret (.bool false) (hy s (i:Nat) d op 50 (i:Nat) ⟨#[]⟩)
def awm{op:aX}(h:(dT s i).2.2.1=0):
  lY s i d op c a t=.ret (.bool true) (hy s ((dT s i).2.1:Nat) (d+1) (op++[.int .i64 (dT s i).1.1,.int .i64 ((dT s i).1.2.1:Nat),.string (dT s i).1.2.2]) c a t):=by
 by_cases A:vC (af s (i:Nat))=true
 ·by_cases aN:32<iU s i-i
  ·have e:dT s i=((0,0,fN),0,1,i):=by unfold dT;rw[al A,al aN]
   rw[e]at h ⊢;exact absurd h bq
  ·have e:dT s i=((1,i,s.extract i (iU s i)),iU s i,0,0):=by unfold dT;rw[al A,ab aN]
   rw[e]at h ⊢;unfold lY;rw[al A,ab aN]
 by_cases D:af s (i:Nat)=34
 ·have e:dT s i=((2,i,(jA s i).1),(jA s i).2.1,(jA s i).2.2.1,(jA s i).2.2.2):=by unfold dT;rw[ab A,al D]
  rw[e]at h ⊢;have bN:lY s i d op c a t=mW s i 2 d op c a t (jA s i):=by unfold lY;rw[ab A,al D]
  dsimp only at h;rw[bN];unfold mW;rw[al h]
 by_cases O:af s (i:Nat)=47
 ·have e:dT s i=((3,i,(kt s i).1),(kt s i).2.1,(kt s i).2.2.1,(kt s i).2.2.2):=by unfold dT;rw[ab A,ab D,al O]
  rw[e]at h ⊢;have bN:lY s i d op c a t=mW s i 3 d op c a t (kt s i):=by unfold lY;rw[ab A,ab D,al O]
  dsimp only at h;rw[bN];unfold mW;rw[al h]
 by_cases B:tv (af s (i:Nat))=true
 ·have e:dT s i=((4,i,s.extract i (i+1)),i+1,0,0):=by unfold dT;rw[ab A,ab D,ab O,al B]
  rw[e]at h ⊢;unfold lY;rw[ab A,ab D,ab O,al B]
 by_cases aU:af s (i:Nat)=62/\i+1<s.size/\af s ((i+1:Nat):Int)=62
 ·have e:dT s i=((4,i,⟨#[62,62]⟩),i+2,0,0):=by unfold dT;rw[ab A,ab D,ab O,ab B,al aU]
  rw[e]at h ⊢;unfold lY;rw[ab A,ab D,ab O,ab B,al aU]
 have e:dT s i=((0,0,fN),0,50,i):=by unfold dT;rw[ab A,ab D,ab O,ab B,ab aU]
 rw[e]at h ⊢;exact absurd h bq
def awn{op:aX}(h:(dT s i).2.2.1≠0):
  ∃j:Int,lY s i d op c a t=.ret (.bool false) (hy s j d op (dT s i).2.2.1 ((dT s i).2.2.2:Nat) ⟨#[]⟩):=by
 by_cases A:vC (af s (i:Nat))=true
 ·by_cases aN:32<iU s i-i
  ·have e:dT s i=((0,0,fN),0,1,i):=by unfold dT;rw[al A,al aN]
   rw[e]at h ⊢;unfold lY;rw[al A,al aN];exact⟨_,rfl⟩
  ·have e:dT s i=((1,i,s.extract i (iU s i)),iU s i,0,0):=by unfold dT;rw[al A,ab aN]
   rw[e]at h ⊢;exact absurd h bq
 by_cases D:af s (i:Nat)=34
 ·have e:dT s i=((2,i,(jA s i).1),(jA s i).2.1,(jA s i).2.2.1,(jA s i).2.2.2):=by unfold dT;rw[ab A,al D]
  rw[e]at h ⊢;have bN:lY s i d op c a t=mW s i 2 d op c a t (jA s i):=by unfold lY;rw[ab A,al D]
  dsimp only at h;rw[bN];unfold mW;rw[ab h];split
  ·exact⟨_,rfl⟩
  ·exact⟨_,rfl⟩
 by_cases O:af s (i:Nat)=47
 ·have e:dT s i=((3,i,(kt s i).1),(kt s i).2.1,(kt s i).2.2.1,(kt s i).2.2.2):=by unfold dT;rw[ab A,ab D,al O]
  rw[e]at h ⊢;have bN:lY s i d op c a t=mW s i 3 d op c a t (kt s i):=by unfold lY;rw[ab A,ab D,al O]
  dsimp only at h;rw[bN];unfold mW;rw[ab h];split
  ·exact⟨_,rfl⟩
  ·exact⟨_,rfl⟩
 by_cases B:tv (af s (i:Nat))=true
 ·have e:dT s i=((4,i,s.extract i (i+1)),i+1,0,0):=by unfold dT;rw[ab A,ab D,ab O,al B]
  rw[e]at h ⊢;exact absurd h bq
 by_cases aU:af s (i:Nat)=62/\i+1<s.size/\af s ((i+1:Nat):Int)=62
 ·have e:dT s i=((4,i,⟨#[62,62]⟩),i+2,0,0):=by unfold dT;rw[ab A,ab D,ab O,ab B,al aU]
  rw[e]at h ⊢;exact absurd h bq
 have e:dT s i=((0,0,fN),0,50,i):=by unfold dT;rw[ab A,ab D,ab O,ab B,ab aU]
 rw[e]at h ⊢;unfold lY;rw[ab A,ab D,ab O,ab B,ab aU];exact⟨_,rfl⟩
def awo(h:vC c=true):Bf c=true:=by unfold Bf;rw[h];rfl
def awp(hi:i<s.size)(h:vC (af s (i:Nat))=true):wY s (s.size-i) i=iU s i:=by rw[show s.size-i=(s.size-(i+1))+1 by omega,wY,al hi,al (awo h)];rfl
def ae7(s:ao)(i:Nat)(oj:Int)(d:Nat)(op:aX)(c a:Int)(t:ao)(q:EP):∃(b:Bool) (j:Int) (RI:Nat) (oD:List Value) (fE cn:Int) (eU:ByteArray),mW s i oj d op c a t q=.ret (.bool b) (hy s j RI oD fE cn eU):=by
 unfold mW;split
 ·exact⟨_,_,_,_,_,_,_,rfl⟩
 ·split<;>exact⟨_,_,_,_,_,_,_,rfl⟩
abbrev rq:Env prog:=a7 NK.spec (a7 WY.spec (a7 ae4.spec (a7 avP.spec (a7 avQ.spec (a7 ae3.spec (a7 awi.spec (a7 awb.spec (a7 awd.spec aa))))))))
def iV:=(b3 ez @hy.eq_1 @Ho.eq_1 @awl)
def awq(s:ao)(i:Nat)(d:Nat)(op:aX)(c a:Int)(t:ao)(u:aM)(fp:aD)(w:ar)(hi:i<s.size)(V:s.size<=4096)(ak:op.length=d*3)(sD:d<=1000000)(H:eH w u fp 223 (hy s (i:Nat) d op c a t))(ax:∀b∈fp,b<w.heap.size) :
  Calls prog 108 (#[u]++#[]) w λx M=>h0 w u fp 223 x M (lY s i d op c a t):=by
 have fS:=fK i;have JY:=iv ((i:Int)+2) ((i+2:Nat):Int);obtain⟨c0,hx⟩:=r0 s i;refine jP (nt:=130) [.tmp 2] H ax func108 ?_;refine dL rq iV ?_;refine aL rq iV ?_ ?_
 ·omega
 refine ae.block ?_;refine aR rq iV ?_ ?_<;>intro J
 ·have gi:vC (af s (i:Nat))=true:=J;clear J;have G3:=WU hi
  have cv:lY s i d op c a t=if 32<iU s i-i then .ret (.bool false) (hy s (iU s i:Nat) d op 1 (i:Nat) ⟨#[]⟩) else .ret (.bool true) (hy s (iU s i:Nat) (d+1) (op++[.int .i64 1,.int .i64 (i:Nat),.string (s.extract i (iU s i))]) c a t):=by unfold lY;rw[al gi]
  have RD:=iv (((iU s i:Nat):Int)-((i:Nat):Int)) ((iU s i-i:Nat):Int);refine ae.seq (ae.block ?_)
  refine ae.loop (λk:Nat=>⟨60,bK [(0,.is (.own 0 0)),(3,i)],bA [(0,.cells 223 [s,k,.ak 3,c,a,t]),(3,.row 225 3 d (op.map .v))]⟩) (λk=>(i<=k/\k<=s.size)/\wY s (s.size-k) k=iU s i) (λk=>s.size-k) i ?_ ⟨⟨eo _,U⟩,awp hi gi⟩ ?_
  ·exact bh iV
  rintro k ⟨⟨e8,dz⟩,kn⟩;have dM:=fK k;refine ae.seq ?_;refine hs rq iV ?_;refine bC iV ?_ ?_<;>intro J
  ·have h:k<s.size/\Bf (af s (k:Nat))=true:=by
    simp at J;refine⟨U,?_⟩;unfold Bf;rw[wa];exact J.2
   rw[show s.size-k=(s.size-(k+1))+1 by omega,wY,al h.1,al h.2]at kn;refine a1 ?_;refine ae.block ?_;refine bY rq (I iV dM) ?_;refine⟨k+1,⟨⟨U,U⟩,kn⟩,U,?_⟩;exact bh iV
  ·have h:iU s i=k:=by
    rw[<- kn];by_cases ad:k<s.size
    ·rw[show s.size-k=(s.size-(k+1))+1 by omega,wY,al ad,ab];intro h;unfold Bf at h;simp[ad]at J;rw[J.1,J.2]at h;simp at h
    ·rw[show s.size-k=0 by omega];rfl
   subst h;refine c6 ?_;refine bk rq (I iV RD) ?_;clear J;refine bC iV ?_ ?_<;>intro J
   ·have zD:32<iU s i-i:=bt J
    rw[al zD]at cv;rw[cv];refine aL rq iV ?_ ?_
    ·exact⟨aq,λ_ h=>h.elim⟩
    refine bf iV ?_;exact eC (I iV @bQ)
   have zD:¬32<iU s i-i:=bt J
   rw[ab zD]at cv;rw[cv];refine a1 ?_;refine dh rq iV ?_ ?_
   ·exact⟨⟨U,U,U⟩,⟨ak,sD⟩,aq,λ_ h=>h.elim⟩
   refine bf iV ?_;exact eC (I iV @bQ)
 have ek:¬vC (af s (i:Nat))=true:=by rw[show vC (af s (i:Nat))=false from J];simp
 clear J;refine aR rq iV ?_ ?_<;>intro J
 ·have h:af s (i:Nat)=34:=aC J
  have cv:lY s i d op c a t=mW s i 2 d op c a t (jA s i):=by unfold lY;rw[ab ek,al h]
  obtain⟨b,j,RI,oD,fE,cn,eU,lQ⟩:=ae7 s i 2 d op c a t (jA s i);rw[cv,lQ];refine aL rq (I iV lQ) ?_ ?_
  ·exact⟨⟨⟨⟨U,U⟩,V⟩,ak,sD⟩,aq,λ_ h=>h.elim⟩
  refine bf iV ?_;exact eC (I iV @bQ)
 have dE:¬af s (i:Nat)=34:=aC J
 clear J;refine aR rq iV ?_ ?_<;>intro J
 ·have h:af s (i:Nat)=47:=aC J
  have cv:lY s i d op c a t=mW s i 3 d op c a t (kt s i):=by unfold lY;rw[ab ek,ab dE,al h]
  obtain⟨b,j,RI,oD,fE,cn,eU,lQ⟩:=ae7 s i 3 d op c a t (kt s i);rw[cv,lQ];refine aL rq (I iV lQ) ?_ ?_
  ·exact⟨⟨⟨⟨U,U⟩,V⟩,ak,sD⟩,aq,λ_ h=>h.elim⟩
  refine bf iV ?_;exact eC (I iV @bQ)
 have eY:¬af s (i:Nat)=47:=aC J
 clear J;refine aR rq iV ?_ ?_<;>intro J
 ·have h:tv (af s (i:Nat))=true:=J;have cv:lY s i d op c a t=.ret (.bool true) (hy s (i+1:Nat) (d+1) (op++[.int .i64 4,.int .i64 (i:Nat),.string (s.extract i (i+1))]) c a t):=by unfold lY;rw[ab ek,ab dE,ab eY,al h]
  rw[cv];refine aA rq (I iV fS) ?_;refine dh rq iV ?_ ?_
  ·exact⟨⟨U,U,U⟩,⟨ak,sD⟩,aq,λ_ h=>h.elim⟩
  refine bf iV ?_;exact eC (I iV @bQ)
 have n3:¬tv (af s (i:Nat))=true:=by rw[show tv (af s (i:Nat))=false from J];simp
 clear J;have Eg:=awj s hi;refine aL rq (I iV Eg) ?_ ?_
 ·skip;omega
 refine bC iV ?_ ?_<;>intro J
 ·have h:af s (i:Nat)=62/\i+1<s.size/\af s ((i+1:Nat):Int)=62:=tR J;have cv:lY s i d op c a t=.ret (.bool true) (hy s (i+2:Nat) (d+1) (op++[.int .i64 4,.int .i64 (i:Nat),.string ⟨#[62,62]⟩]) c a t):=by unfold lY;rw[ab ek,ab dE,ab eY,ab n3,al h]
  rw[cv];refine aA rq (I iV JY) ?_;refine aL rq iV ?_ ?_
  ·exact⟨⟨ak,sD⟩,aq,λ_ h=>h.elim⟩
  refine bf iV ?_;exact eC (I iV @bQ)
 have n4:¬(af s (i:Nat)=62/\i+1<s.size/\af s ((i+1:Nat):Int)=62):=qY J;have cv:lY s i d op c a t=.ret (.bool false) (hy s (i:Nat) d op 50 (i:Nat) ⟨#[]⟩):=by unfold lY;rw[ab ek,ab dE,ab eY,ab n3,ab n4]
 rw[cv];refine a1 ?_;refine aL rq iV ?_ ?_
 ·exact⟨aq,λ_ h=>h.elim⟩
 refine bf iV ?_;exact eC (I iV @bQ)
abbrev awr:iO prog 108:=sy 223 (λ| [.val (.string s),.val (.int .i64 i),.row 225 3 d op,.val (.int .i64 c),.val (.int .i64 a),.val (.string t)],[]=>some (s,i,d,op,c,a,t)|_,_=>none) (λav W bs=>((0<=av.2.1/\av.2.1<av.1.size)/\av.1.size<=4096)/\av.2.2.2.1.length=av.2.2.1*3/\av.2.2.1<=1000000) call108 (e:=λav=>#[]) (fs:=λav=>[.val (.string av.1),.val (.int .i64 av.2.1),.row 225 3 av.2.2.1 av.2.2.2.1,.val (.int .i64 av.2.2.2.2.1),.val (.int .i64 av.2.2.2.2.2.1),.val (.string av.2.2.2.2.2.2)]) (out:=λav=>lY av.1 av.2.1.toNat av.2.2.1 av.2.2.2.1 av.2.2.2.2.1 av.2.2.2.2.2.1 av.2.2.2.2.2.2) λav W w bs u fp ad hp H ax fi=>by obtain⟨s,i,d,op,c,a,t⟩:=av;try dsimp only at hp;try dsimp only at H;obtain⟨k,rfl⟩:=l7 hp.1.1.1;exact awq s k d op c a t u fp w U hp.1.2 hp.2.1 hp.2.2 H ax
def Bi(c a:Int):ag:=.agg [c,a,.v (.string ⟨#[]⟩)]
abbrev yf:Env prog:=a7 av2.spec (a7 NK.spec (a7 awr.spec (a7 WY.spec aa)))
def o1:=(de ez @hy.eq_1 @Ho.eq_1 @wy.eq_1 @wy.eq_2)
def aws(s:ao)(w:ar)(fp:aD)(E:dF)(F:lK)(V:an w fp E F (bA []) w)(bx:s.size<=9223372036854775807) :
  Calls prog 66 (ba E [s]).toArray w λe M=>∃cK fC,e=.returned (den cK (.iK [.ak 8,Bi (cZ s).2.1 ((cZ s).2.2:Nat)]))/\(∀k∈([]:aD),cK k=E k)/\an w fp cK fC (bA [(8,.row 225 3 (cZ s).1.length ((iH (cZ s).1).map .v))]) M:=by
 refine acL (nt:=35) [.tmp 2,.cell 3 39] V ?_ ?_ func66 rfl rfl rfl ?_
 ·simp[F8,wy,eJ.keys,ag.keys]
 ·simp
 refine bk yf o1 ?_;refine aR yf o1 ?_ ?_<;>intro J
 ·have h:4096<s.size:=bt J
  have e:cZ s=([],1,0):=by unfold cZ;rw[al h]
  rw[e];refine aA yf o1 ?_;refine bf o1 ?_;exact Qp (λk=>.nil) (b3 o1 @Bi.eq_1 @iH.eq_1 @Lc)
 have aU:s.size<=4096:=bt J
 have cv:cZ s=o0 s s.size (nW s 0) []:=by unfold cZ;rw[ab U]
 clear J;have qk:=JX (ef s.size);refine bk yf o1 ?_
 refine ae.xB (cd := ⟨60,bK [(0,s),(3,.is (.own 5 0)),(4,.is (.own 0 0))],bA [(0,.cells 223 [s,(0:Int),.ak 3,(0:Int),(0:Int),.v (.string ⟨#[]⟩)]),(3,.row 225 3 0 (([]:aX).map .v)),(5,.cells 39 [(0:Int),(0:Int),.v (.string ⟨#[]⟩)])]⟩) ?_ ?_
 ·exact b8 (λk=>if k=0 then .key 64 else if k=3 then .nil else if k=5 then .key 16 else .key k) o1
 refine ae.seq ?_;refine aL yf o1 ?_ ?_
 ·exact⟨⟨U,U⟩,aq,λ_ h=>h.elim⟩
 refine ae.block ?_
 refine ae.loop (λp:Nat×Nat×List bH=>⟨100,bK [(0,s),(3,.is (.own 5 0)),(4,.is (.own 0 0))],bA [(0,.cells 223 [s,p.2.1,.ak 3,(0:Int),(0:Int),.v (.string ⟨#[]⟩)]),(3,.row 225 3 p.2.2.length ((iH p.2.2).map .v)),(5,.cells 39 [(0:Int),(0:Int),.v (.string ⟨#[]⟩)])]⟩) (λp=>p.2.1<=s.size/\p.2.2.length<=p.2.1/\s.size<=p.2.1+p.1/\o0 s p.1 p.2.1 p.2.2=cZ s) (λp=>p.1) (s.size,nW s 0,[]) ?_ ⟨qk.2,ef _,by dsimp only;omega,cv.symm⟩ ?_
 ·exact b8 (λk=>if k=3 then .key 490 else .key k) (aT o1 @iH.eq_1 @Lc)
 rintro⟨n,i,l⟩ ⟨g1,g2,g3,g4⟩;dsimp only at g1 g2 g3 g4 ⊢;have W2:=ER l;refine ae.seq ?_;refine aR yf o1 ?_ ?_<;>intro J
 rotate_left
 ·have hi:i=s.size:=bt J
  subst hi;have bg:cZ s=(l++[(0,s.size,fN)],0,0):=by
   rw[<- g4];cases n with
   |zero=>rfl
   |succ n=>rw[o0,ab U]
  rw[bg];refine c6 ?_;refine aL yf o1 ?_ ?_
  ·exact⟨⟨W2,U⟩,aq,λ_ h=>h.elim⟩
  refine aA yf o1 ?_;refine bf o1 ?_;have bN:iH l++[.int .i64 0,.int .i64 (s.size:Nat),.string ⟨#[]⟩]=iH (l++[(0,s.size,fN)]):=ae5 l 0 s.size fN;have dQ:(l++[((0:Int),s.size,fN)]).length=l.length+1:=by simp
  exact Qp (λk=>if k=8 then .key 850 else .key k) (de o1 @Bi.eq_1 bN dQ @gq)
 have hi:i<s.size:=bt J
 clear J;obtain⟨n,rfl⟩:∃jh,n=jh+1:=⟨n-1,U⟩;rw[o0,al hi]at g4;refine a1 ?_;refine ae.seq (ae.block ?_);by_cases A:(dT s i).2.2.1=0
 ·have p9:=WV hi A;rw[al A]at g4;have awt:=JX p9.2;have xu:=awm (d:=l.length) (op:=iH l) (c:=0) (a:=0) (t:=⟨#[]⟩) A;refine aL yf (I o1 xu) ?_ ?_
  ·exact⟨⟨⟨⟨U,U⟩,aU⟩,W2,U⟩,aq,λ_ h=>h.elim⟩
  refine bk aa o1 ?_;refine wr yf o1 ?_ ?_
  ·exact⟨⟨⟨U,U⟩,U⟩,aq,λ_ h=>h.elim⟩
  have bN:iH l++[.int .i64 (dT s i).1.1,.int .i64 ((dT s i).1.2.1:Nat),.string (dT s i).1.2.2]=iH (l++[(dT s i).1]):=ae5 l _ _ _;have dQ:(l++[(dT s i).1]).length=l.length+1:=by simp
  refine⟨(n,nW s (dT s i).2.1,l++[(dT s i).1]),⟨awt.2,by dsimp only;rw[ec,sX];omega,by dsimp only;omega,g4⟩,by dsimp only;omega,?_⟩;exact b8 (λk=>if k=3 then .key 858 else .key k) (aT o1 bN dQ)
 ·rw[ab A]at g4;obtain⟨j,xu⟩:=awn (d:=l.length) (op:=iH l) (c:=0) (a:=0) (t:=⟨#[]⟩) A;refine aL yf (I o1 xu) ?_ ?_
  ·exact⟨⟨⟨⟨U,U⟩,aU⟩,W2,U⟩,aq,λ_ h=>h.elim⟩
  refine fu (Γ:=aa) trivial o1 ?_;rw[<- g4];refine hs yf o1 ?_;refine bf o1 ?_;exact Qp (λk=>.nil) (b3 o1 @Bi.eq_1 @iH.eq_1 @Lc)
def W3(s:ao):Gs prog 66 where
 args:=[.v (.string s)]
 L:=[]
 val:=.iK [.ak 8,Bi (cZ s).2.1 ((cZ s).2.2:Nat)]
 jw := [(8,.row 225 3 (cZ s).1.length ((iH (cZ s).1).map .v))]
 ir:=[]
 pre:=λW bs=>s.size<=9223372036854775807
 low:=by simp
 kept:=by simp
 Qm:=by intro k ad;right;simp[Bi,ag.keys,cP]at ad;unfold fresh;omega
 Gt:=by intro p hp;simp only[gG,tS,uX]at hp;rcases hp with rfl;exact⟨.inr (by unfold fresh;omega),by simp[bL.keys,so]⟩
 aH:=by simp
 enters:=call66
 ok:=by intro W w bs fp E F ad hm V hp;exact aws s w fp E F V hp
end
section
open Go.RowKit Go.LE Go.Proofs.Tryz
variable{r:List bH}{m:ao}
inductive bO where
 |name (a:Nat) (s:ao)
 |text (a:Nat) (s:ao)
 |rx (a:Nat) (s:ao)
 |call (a:Nat) (w:ao) (l:bO)
 |keyed (a:Nat) (x:bO)
 |unary (a:Nat) (op:ao) (x:bO)
 |binary (a:Nat) (op:ao) (x y:bO)
 |nil
 |cons (x l:bO)
def ed(s:ao):Int:=
 if s=⟨#[99,111,112,121]⟩\/s=⟨#[107,101,121]⟩\/s=⟨#[105,110,115]⟩\/s=⟨#[105,100]⟩\/s=⟨#[102,111,108,100]⟩ then 1
 else if s=⟨#[100,101,108]⟩\/s=⟨#[108,101,102,116]⟩\/s=⟨#[114,105,103,104,116]⟩\/s=⟨#[100,101,102,97,117,108,116]⟩ then 2
 else if s=⟨#[110,111,114,109]⟩ then 3
 else if s=⟨#[108,101,116]⟩ then -1
 else 0
def mX:Nat->ByteArray
 |0=>⟨#[124]⟩
 |1=>⟨#[38,45]⟩
 |2=>⟨#[62,62]⟩
 |3=>⟨#[126]⟩
 |_=>⟨#[46]⟩
def NM(s:ao)(i:Nat):Bool:=(!decide (s=⟨#[]⟩)&&Lib.contains (mX i).data.toList s.data.toList)&&(decide ((s.size:Int)=2)||!decide (mX i=⟨#[62,62]⟩))
def rr(s:ao):Int:=match EM (NM s) 5 0 with
 |some i=>(i:Nat)
 |none=>-1
def aF:List bH->bH
 |t::_=>t
 |[]=>(0,0,fN)
def dI(r:List bH)(m:ao):Bool:=decide ((aF r).1=4)&&decide ((aF r).2.2=m)
abbrev cW:=Except (Int×Nat) (bO×List bH)
def oE(sub:List bH->cW)(mA:Int):Nat->bO->List bH->cW
 |0,a,r=>.ok (a,r)
 |n+1,a,r=>
  if(aF r).1=4/\rr (aF r).2.2=mA then match sub r.tail with
   |.error e=>.error e
   |.ok (b,bG)=>oE sub mA n (.binary (aF r).2.1 (aF r).2.2 a b) bG
  else .ok (a,r)
def tx(sub:List bH->cW)(mA:Int)(r:List bH):cW:=match sub r with
 |.error e=>.error e
 |.ok (a,bG)=>oE sub mA bG.length a bG
def ny:ByteArray:=⟨#[42]⟩
def pK:ByteArray:=⟨#[43]⟩
def Hq:ByteArray:=⟨#[63]⟩
def vE:Nat->bO->List bH->bO×List bH
 |0,a,r=>(a,r)
 |n+1,a,r=>if((dI r ny||dI r pK)||dI r Hq)=true then vE n (.unary (aF r).2.1 (aF r).2.2 a) r.tail else(a,r)
def pL(atom:List bH->cW)(r:List bH):cW:=match atom r with
 |.error e=>.error e
 |.ok (a,bG)=>.ok (vE bG.length a bG)
def pM(atom:List bH->cW):Nat->List bH->cW
 |0=>pL atom
 |k+1=>tx (pM atom k) (4-(k:Nat))
def uz(atom:List bH->cW):List bH->cW:=pM atom 5
def er:ByteArray:=⟨#[40]⟩
def fG:ByteArray:=⟨#[41]⟩
def gx:ByteArray:=⟨#[123]⟩
def jD:ByteArray:=⟨#[125]⟩
def mB:ByteArray:=⟨#[44]⟩
def iy(m:ao)(f:bO->bO):cW->cW
 |.error e=>.error e
 |.ok (a,r)=>if dI r m=true then .ok (f a,r.tail) else .error (60,(aF r).2.1)
def vF:bO->bO->bO
 |.cons x l,y=>.cons x (vF l y)
 |_,y=>.cons y .nil
def ql(ex:List bH->cW):Nat->Nat->bO->List bH->cW
 |0,_,l,r=>.ok (l,r)
 |n+1,k,l,r=>
  if 0<k/\dI r mB=false then .error (60,(aF r).2.1)
  else match ex (if 0<k then r.tail else r) with
   |.error e=>.error e
   |.ok (a,bG)=>ql ex n (k+1) (vF l a) bG
def lE(m:Option (List bH->cW))(r:List bH)(b:ao)(go:(List bH->cW)->List bH->cW):cW:=
 if dI r b=true then match m with
  |none=>.error (23,(aF r).2.1)
  |some ex=>go ex r.tail
 else .error (60,(aF r).2.1)
def mC(m:Option (List bH->cW))(r:List bH):cW:=
 if(aF r).1=2 then .ok (.text (aF r).2.1 (aF r).2.2,r.tail)
 else if(aF r).1=3 then .ok (.rx (aF r).2.1 (aF r).2.2,r.tail)
 else if(aF r).1=1/\0<ed (aF r).2.2 then lE m r.tail er λex bG=>iy fG (.call (aF r).2.1 (aF r).2.2) (ql ex (ed (aF r).2.2).toNat 0 .nil bG)
 else if(aF r).1=1/\ed (aF r).2.2=0 then .ok (.name (aF r).2.1 (aF r).2.2,r.tail)
 else if dI r gx=true then lE m r gx λex bG=>iy jD (.keyed (aF r).2.1) (ex bG)
 else if dI r er=true then lE m r er λex bG=>iy fG id (ex bG)
 else .error (60,(aF r).2.1)
def o2:Nat->List bH->cW
 |0=>mC none
 |m+1=>mC (some (uz (o2 m)))
abbrev pN:=List (Nat×ByteArray×bO)×bO
def ET:ByteArray:=⟨#[108,101,116]⟩
def ru:ByteArray:=⟨#[61]⟩
def tz:ByteArray:=⟨#[59]⟩
def r3(ex:List bH->cW):Nat->List (Nat×ByteArray×bO)->List bH->Except (Int×Nat) (pN×List bH)
 |0,az,r=>.error (60,(aF r).2.1)
 |n+1,az,r=>
  if(aF r).1=1/\(aF r).2.2=ET then
   if¬(aF r.tail).1=1\/¬ed (aF r.tail).2.2=0 then .error (60,(aF r.tail).2.1)
   else if dI r.tail.tail ru=false then .error (60,(aF r.tail.tail).2.1)
   else match ex r.tail.tail.tail with
    |.error e=>.error e
    |.ok (x,bG)=>if dI bG tz=false then .error (60,(aF bG).2.1)
     else r3 ex n (az++[((aF r.tail).2.1,(aF r.tail).2.2,x)]) bG.tail
  else match ex r with
   |.error e=>.error e
   |.ok (x,bG)=>if(aF bG).1=0 then .ok ((az,x),bG) else .error (60,(aF bG).2.1)
def rv(s:ao):Except (Int×Nat) pN:=
 if(cZ s).2.1=0 then match r3 (uz (o2 64)) (cZ s).1.length [] (cZ s).1 with
  |.error e=>.error e
  |.ok (p,_)=>.ok p
 else .error ((cZ s).2.1,(cZ s).2.2)
def ij(r:List bH):Prop:=∃l e,r=l++[e]/\e.1=0/\∀t∈l,t.1≠0
def ij.ne(h:ij r):r≠[]:=by obtain⟨l,e,rfl,_⟩:=h;simp
def ij.tail(h:ij r)(ad:(aF r).1≠0):ij r.tail/\r=aF r::r.tail:=by
 obtain⟨l,e,rfl,A,aN⟩:=h;cases l with
 |nil=>exact absurd A ad
 |cons t l=>exact⟨⟨l,e,rfl,A,λt aV=>aN t (Ie _ aV)⟩,rfl⟩
theorem ij.pos(h:ij r):1<=r.length:=by obtain⟨l,e,rfl,_⟩:=h;simp
def Left(r bG:List bH)(n:Nat):Prop:=ij bG/\bG <:+ r/\bG.length+n<=r.length
theorem Left.refl(h:ij r):Left r r 0:=⟨h,FB _,eo _⟩
theorem Left.trans{r bG cE:List bH}{n m:Nat}(h:Left r bG n)(bu:Left bG cE m):Left r cE (n+m):=⟨bu.1,bu.2.1.trans h.2.1,by have:=h.2.2;have:=bu.2.2;omega⟩
def Left.xB{r bG:List bH}{n m:Nat}(h:Left r bG n)(hm:m<=n):Left r bG m:=⟨h.1,h.2.1,by have:=h.2.2;omega⟩
theorem Left.next(h:ij r)(ad:(aF r).1≠0):Left r r.tail 1:=by obtain⟨D,O⟩:=h.tail ad;refine⟨D,List.tail_suffix r,?_⟩;have:=h.pos;rw[FC];omega
theorem r4(h:dI r m=true):(aF r).1≠0:=by unfold dI at h;simp at h;omega
def o3(sub:List bH->cW)(n:Nat):Prop:=∀r,ij r->∀a bG,sub r=.ok (a,bG)->Left r bG n
def ae8{sub:List bH->cW}(h:o3 sub 1)(mA:Int):∀n a r,ij r->∀b bG,oE sub mA n a r=.ok (b,bG)->Left r bG 0
 |0,a,r,aI,b,bG,he=>by cases he;exact .refl aI
 |n+1,a,r,aI,b,bG,he=>by
  rw[oE]at he;split at he
  ·rename_i J;have D:=Left.next aI U
   split at he
   ·cases he
   ·rename_i x cE V;have O:=h _ D.1 _ _ V;exact((D.trans O).trans (ae8 h mA n _ _ O.1 _ _ he)).xB U
  ·cases he;exact .refl aI
def awu{sub:List bH->cW}(h:o3 sub 1)(mA:Int):o3 (tx sub mA) 1:=λr aI a bG he=>by
 unfold tx at he;split at he
 ·cases he
 ·rename_i x cE V;have O:=h _ aI _ _ V;exact(O.trans (ae8 h mA _ _ _ O.1 _ _ he)).xB U
def ae9:∀n a r,ij r->Left r (vE n a r).2 0
 |0,a,r,aI=>.refl aI
 |n+1,a,r,aI=>by
  rw[vE];split
  ·rename_i J;have ad:(aF r).1≠0:=by
    simp only[wa]at J;rcases J with(J|J)|J<;>exact r4 J
   have D:=Left.next aI ad
   exact(D.trans (ae9 n _ _ D.1)).xB U
  ·exact .refl aI
def awv{atom:List bH->cW}(h:o3 atom 1):o3 (pL atom) 1:=λr aI a bG he=>by
 unfold pL at he;split at he
 ·cases he
 ·rename_i x cE V;have O:=h _ aI _ _ V;simp only[ng]at he;have B:=ae9 cE.length x cE O.1;rw[he]at B;exact O.trans B
theorem CW{atom:List bH->cW}(h:o3 atom 1):∀k,o3 (pM atom k) 1
 |0=>awv h
 |k+1=>awu (CW h k) _
def afa{ex:List bH->cW}(h:o3 ex 1):∀n k l r,ij r->∀a bG,ql ex n k l r=.ok (a,bG)->Left r bG 0
 |0,k,l,r,aI,a,bG,he=>by cases he;exact .refl aI
 |n+1,k,l,r,aI,a,bG,he=>by
  rw[ql]at he;split at he
  ·cases he
  ·rename_i J;have D:Left r (if 0<k then r.tail else r) 0:=by
    split
    ·rename_i ad;have:dI r mB=true:=by
      cases hm:dI r mB with
      |true=>rfl
      |false=>exact absurd ⟨ad,hm⟩ J
     exact(Left.next aI (r4 this)).xB U
    ·exact .refl aI
   split at he
   ·cases he
   ·rename_i x cE V;have O:=h _ D.1 _ _ V;exact((D.trans O).trans (afa h n _ _ _ O.1 _ _ he)).xB U
def W4{f:bO->bO}{q:cW}{n:Nat}(h:∀a bG,q=.ok (a,bG)->Left r bG n){a:bO}{bG:List bH}(he:iy m f q=.ok (a,bG)):Left r bG (n+1):=by
 cases q with
 |error e=>cases he
 |ok p=>
  obtain⟨x,cE⟩:=p;have ma:(if dI cE m=true then(.ok (f x,cE.tail):cW) else .error (60,(aF cE).2.1))=.ok (a,bG):=he;by_cases hm:dI cE m=true
  ·rw[al hm]at ma;cases ma;have D:=h _ _ rfl;exact D.trans (Left.next D.1 (r4 hm))
  ·rw[ab hm]at ma;cases ma
def afb{m:Option (List bH->cW)}(hm:∀ex,m=some ex->o3 ex 1):o3 (mC m) 1:=λr aI a bG he=>by
 have key:∀{cR:List bH} {b:ao} {go:(List bH->cW)->List bH->cW} {n:Nat},Left r cR n->lE m cR b go=.ok (a,bG)->∃ex,o3 ex 1/\Left r cR.tail (n+1)/\go ex cR.tail=.ok (a,bG):=λ{cR b go n} D h=>by
  unfold lE at h;split at h
  ·rename_i Z;cases m with
   |none=>cases h
   |some ex=>exact⟨ex,hm ex rfl,D.trans (Left.next D.1 (r4 Z)),h⟩
  ·cases h
 unfold mC at he;split at he
 ·cases he;exact Left.next aI U
 split at he
 ·cases he;exact Left.next aI U
 split at he
 ·rename_i J;obtain⟨ex,D,O,B⟩:=key (Left.next aI U) he;exact(W4 (λx cE V=>O.trans (afa D _ _ _ _ O.1 _ _ V)) B).xB U
 split at he
 ·cases he;exact Left.next aI U
 split at he
 ·obtain⟨ex,D,O,B⟩:=key (.refl aI) he;exact(W4 (λx cE V=>O.trans (D _ O.1 _ _ V)) B).xB U
 split at he
 ·obtain⟨ex,D,O,B⟩:=key (.refl aI) he;exact(W4 (λx cE V=>O.trans (D _ O.1 _ _ V)) B).xB U
 ·cases he
def J1:∀m,o3 (o2 m) 1
 |0=>afb λex h=>by cases h
 |m+1=>afb λex h=>by cases h;exact CW (J1 m) 5
def afc(s:ao):∀(n i:Nat) (l:List bH),(∀t∈l,t.1≠0)->(o0 s n i l).2.1=0->ij (o0 s n i l).1
 |0,i,l,aN,h=>⟨l,(0,s.size,fN),rfl,rfl,aN⟩
 |n+1,i,l,aN,h=>by
  rw[o0]at h ⊢;split
  ·rename_i hi;rw[al hi]at h;split
   ·rename_i A;rw[al A]at h;refine afc s n _ _ (λt aV=>?_) h;rcases hq.1 aV with aV|aV
    ·exact aN t aV
    ·rw[l8.1 aV];unfold dT at A ⊢
     repeat' (split at A<;>rename_i hh<;>(first|rw[al hh]|rw[ab hh]))
     all_goals first|(intro J;cases J;done)|(exfalso;simp at A;done)|(dsimp only;omega)
   ·rename_i A;rw[ab A]at h;exact absurd h A
  ·exact⟨l,(0,s.size,fN),rfl,rfl,aN⟩
def W5{s:ao}(h:(cZ s).2.1=0):ij (cZ s).1:=by
 unfold cZ at h ⊢;split
 ·rename_i aU;rw[al aU]at h;cases h
 ·rename_i aU;rw[ab aU]at h;exact afc s _ _ _ (λt aV=>by cases aV) h
end
end Go.Proofs.YtnemkecffmdlnaaGreatDoor
namespace Go.Proofs
section
open Go.Shelf
def Tryz.aww:Go.Shelf.Ren:=⟨λ| 144=>213|143=>85|219=>144|217=>189|225=>197|224=>198|267=>199|266=>231|314=>242|n=>n,λ| 9=>9|4=>4|3=>3|5=>5|46=>158|146=>348|51=>335|n=>n,λ| 1=>1|n=>n⟩
def Tryz.awx:Go.Proofs.Lays.n144 Tryz.prog Tryz.aww:={
 mixed:=by kernel_rfl
 f143:=Tryz.func85.trans (fZ some (by kernel_rfl))
 f144:=Tryz.func213.trans (fZ some (by kernel_rfl))
 f217:=Tryz.func189.trans (fZ some (by kernel_rfl))
 f219:=Tryz.func144.trans (fZ some (by kernel_rfl))
 f224:=Tryz.func198.trans (fZ some (by kernel_rfl))
 f225:=Tryz.func197.trans (fZ some (by kernel_rfl))
 f266:=Tryz.func231.trans (fZ some (by kernel_rfl))
 f267:=Tryz.func199.trans (fZ some (by kernel_rfl))
 f314:=Tryz.func242.trans (fZ some (by kernel_rfl))
 t3:=Tryz.underlying3
 a3:=Tryz.isAgg3
 z3:=Tryz.sizeOf3
 v3:=Tryz.zeroValue3
 t4:=Tryz.underlying4
 a4:=Tryz.isAgg4
 z4:=Tryz.sizeOf4
 v4:=Tryz.zeroValue4
 t5:=Tryz.underlying5
 a5:=Tryz.isAgg5
 z5:=Tryz.sizeOf5
 v5:=Tryz.zeroValue5
 t9:=Tryz.underlying9
 a9:=Tryz.isAgg9
 z9:=Tryz.sizeOf9
 v9:=Tryz.zeroValue9
 t46:=Tryz.underlying158
 a46:=Tryz.isAgg158
 z46:=Tryz.sizeOf158
 v46:=Tryz.zeroValue158
 t51:=Tryz.underlying335
 a51:=Tryz.isAgg335
 z51:=Tryz.sizeOf335
 v51:=Tryz.zeroValue335
 t146:=Tryz.underlying348
 a146:=Tryz.isAgg348
 z146:=Tryz.sizeOf348
 v146:=Tryz.zeroValue348
 g1:=by kernel_rfl }
open Go.RowKit Go.Lib in
open Go.RowKit Go.Lib in
def Tryz.strings_Contains(s sub:ao)(m:Int)(w:ar)(V:s.size<4294967281)(hm:w.cell? ⟨1,0,none⟩=some (.int .i64 m)) :
  Calls Tryz.prog 213 #[s,sub] w λe M=>e=.returned (.bool (Lib.contains s.data.toList sub.data.toList))/\M=w:=Any.strings_Contains Tryz.awx s sub m w V hm
end
end Go.Proofs
namespace Go.Proofs.YtnemkecffmdlnaaGreatDoor
section
open Go.RowKit Go.LE Go.Proofs.Tryz
set_option maxRecDepth 10000
variable{W w:ar}{r:List bH}{fp bs:aD}{m:ao}
def J2(W:ar)(S:aY):Prop:=S 1/\∃m:Int,W.cell? ⟨1,0,none⟩=some (.int .i64 m)
def NN(W:ar)(S:aY):Prop:=S 2/\W.cell? ⟨2,0,none⟩=some (.string (mX 0))/\W.cell? ⟨2,0+1,none⟩=some (.string (mX 1))/\W.cell? ⟨2,0+1+1,none⟩=some (.string (mX 2))/\W.cell? ⟨2,0+1+1+1,none⟩=some (.string (mX 3))/\W.cell? ⟨2,0+1+1+1+1,none⟩=some (.string (mX 4))
theorem J2.mono{W aO:World}{S bz:Nat->Prop}(h:J2 W S)(V:bT W S aO bz):J2 aO bz:=by obtain⟨A,m,D⟩:=h;have:=gd.mono (b:=1) (o:=0) (v:=.int .i64 m) ⟨A,D⟩ V;exact⟨this.1,m,this.2⟩
theorem NN.mono{W aO:World}{S bz:Nat->Prop}(h:NN W S)(V:bT W S aO bz):NN aO bz:=by
 obtain⟨A,D,O,B,aU,bn⟩:=h;have g:∀o v,W.cell? ⟨2,o,none⟩=some v->aO.cell? ⟨2,o,none⟩=some v/\bz 2:=λo v au=>by have:=gd.mono (b:=2) (o:=o) (v:=v) ⟨A,au⟩ V;exact⟨this.2,this.1⟩
 exact⟨(g _ _ D).2,(g _ _ D).1,(g _ _ O).1,(g _ _ B).1,(g _ _ aU).1,(g _ _ bn).1⟩
def nX(W:ar)(S:aY):Prop:=J2 W S/\NN W S
theorem nX.mono{W aO:World}{S bz:Nat->Prop}(h:nX W S)(V:bT W S aO bz):nX aO bz := ⟨h.1.mono V,h.2.mono V⟩
def nX.km(h:nX W (Out bs))(ad:LE.cr W bs w)(hm:∀b∈fp,W.heap.size<=b\/b∈bs):nX w (Out fp):=h.mono λb Z V=>⟨ad.block b Z V,λdO=>(hm b dO).elim (λg=>absurd g (rG.2 Z)) V⟩
abbrev awy:cV prog 213:=kH (λ| [.val (.string s),.val (.string p)]=>some (s,p)|_=>none) (λav W bs=>av.1.size<4294967281/\J2 W (Out bs)) call213 (e:=λav=>#[.string av.1,.string av.2]) (res:=λav=>.bool (Lib.contains av.1.data.toList av.2.data.toList)) λav W w bs ad hp=>by obtain⟨s,p⟩:=av;try dsimp only at hp;obtain⟨m,hm⟩:=(hp.2.mono (bz := Out []) (λb Z V=>⟨ad.block b Z V,by simp[Out]⟩)).2;exact(Tryz.strings_Contains s p m w hp.1 hm).mono λe M ⟨he,hw⟩=>⟨he,by rw[hw];exact LE.cr.refl w []⟩
abbrev lZ:Env prog:=a7 awy.spec aa
def fH:=ez
def awz(s:ao)(w:ar)(aK:nX w (Out [])):cQ 171 #[s] w (.int .i64 (rr s)):=by
 obtain⟨A,D,O,B,aU,bn⟩:=aK.2;refine cB (nt:=28) [.tmp 2] func171 ?_;refine bk lZ fH ?_;refine bk lZ (eI fH D O B aU bn) ?_
 refine ae.loop (λk:Nat=>⟨20,bK [(0,s),(5,.is (.agg [(mX 0),(mX 1),(mX 2),(mX 3),(mX 4)])),(6,k)],bA []⟩) (λk=>k<=5/\∀i<k,NM s i=false) (λk=>5-k) 0 ?_ ⟨aq,λi h=>by omega⟩ ?_
 ·exact bh (I fH @gq)
 rintro k ⟨e8,dz⟩;refine bk lZ fH ?_;refine bC fH ?_ ?_<;>intro J
 ·have ad:k<5:=bt J
  clear J;have dM:=fK k;refine a1 ?_;refine ae.seq (ae.block ?_)
  refine fR ⟨40,bK [(3,k),(4,(mX k)),(0,s),(5,.is (.agg [(mX 0),(mX 1),(mX 2),(mX 3),(mX 4)])),(6,k)],bA []⟩ ?_ ?_
  ·have cv:((0:Nat):Int)=0:=rfl;have bg:((1:Nat):Int)=1:=rfl;have bN:((2:Nat):Int)=2:=rfl;have dQ:((3:Nat):Int)=3:=rfl;have h1:((4:Nat):Int)=4:=rfl;rcases(show k=0\/k=1\/k=2\/k=3\/k=4 by omega) with rfl|rfl|rfl|rfl|rfl
   ·skip;refine wr lZ (I fH cv) ?_ ?_
    ·first|trivial|decide|omega
    exact bh (I fH cv)
   ·skip;refine wr lZ (I fH bg) ?_ ?_
    ·first|trivial|decide|omega
    exact bh (I fH bg)
   ·skip;refine wr lZ (I fH bN) ?_ ?_
    ·first|trivial|decide|omega
    exact bh (I fH bN)
   ·skip;refine wr lZ (I fH dQ) ?_ ?_
    ·first|trivial|decide|omega
    exact bh (I fH dQ)
   ·skip;refine wr lZ (I fH h1) ?_ ?_
    ·first|trivial|decide|omega
    exact bh (I fH h1)
  have bx:(mX k).size<4294967281:=by unfold mX;split<;>decide
  have Z:NM s k=((!decide (s=⟨#[]⟩)&&Lib.contains (mX k).data.toList s.data.toList)&&(decide ((s.size:Int)=2)||!decide (mX k=⟨#[62,62]⟩))):=rfl;generalize mX k=p at *;refine aL lZ fH ?_ ?_
  ·exact λ_=>⟨bx,aK.1⟩
  refine bC fH ?_ ?_<;>intro J
  ·have e:rr s=(k:Nat):=by
    unfold rr;rw[auZ (NM s) 5 k ad dz (Z.trans J)]
   rw[e];refine aA lZ fH ?_;exact bE fH
  refine a1 ?_;refine bY lZ (I fH dM) ?_;refine⟨k+1,⟨U,λi hi=>?_⟩,U,?_⟩
  ·rcases Lf i k with h|h
   ·exact dz i h
   ·obtain rfl:i=k:=U;rw[Z];exact J
  ·exact bh fH
 ·have ad:k=5:=bt J
  subst ad;have e:rr s=-1:=by unfold rr;rw[au0 (NM s) 5 dz]
  rw[e];refine c6 ?_;refine aA lZ fH ?_;exact bE fH
abbrev afd:cV prog 171:=kH (λ| [.val (.string s)]=>some (s)|_=>none) (λav W bs=>nX W (Out bs)) call171 λav W w bs ad hp=>awz av w (hp.mono (λb Z V=>⟨ad.block b Z V,by simp[Out]⟩))
def awA(s:ao)(w:ar):cQ 112 #[s] w (.int .i64 (ed s)):=by
 refine cB (nt:=19) [.tmp 2] func112 ?_;refine gJ lZ fH ?_;refine fR ⟨60,bK [(0,s),(3,s),(4,(decide (s=⟨#[99,111,112,121]⟩\/s=⟨#[107,101,121]⟩\/s=⟨#[105,110,115]⟩\/s=⟨#[105,100]⟩\/s=⟨#[102,111,108,100]⟩)))],bA []⟩ ?_ ?_
 ·skip;refine aR lZ fH ?_ ?_<;>intro J
  ·have h:s=⟨#[99,111,112,121]⟩:=tR J;have e:decide (s=⟨#[99,111,112,121]⟩\/s=⟨#[107,101,121]⟩\/s=⟨#[105,110,115]⟩\/s=⟨#[105,100]⟩\/s=⟨#[102,111,108,100]⟩)=true:=nJ (Or.inl h);refine a1 ?_;exact bh (aT fH e J)
  have ek:¬s=⟨#[99,111,112,121]⟩:=qY J;clear J;refine aR lZ fH ?_ ?_<;>intro J
  ·have h:s=⟨#[107,101,121]⟩:=tR J;have e:decide (s=⟨#[99,111,112,121]⟩\/s=⟨#[107,101,121]⟩\/s=⟨#[105,110,115]⟩\/s=⟨#[105,100]⟩\/s=⟨#[102,111,108,100]⟩)=true:=nJ (Or.inr (Or.inl h));refine a1 ?_;exact bh (aT fH e J)
  have dE:¬s=⟨#[107,101,121]⟩:=qY J;clear J;refine aR lZ fH ?_ ?_<;>intro J
  ·have h:s=⟨#[105,110,115]⟩:=tR J;have e:decide (s=⟨#[99,111,112,121]⟩\/s=⟨#[107,101,121]⟩\/s=⟨#[105,110,115]⟩\/s=⟨#[105,100]⟩\/s=⟨#[102,111,108,100]⟩)=true:=nJ (Or.inr (Or.inr (Or.inl h)));refine a1 ?_;exact bh (aT fH e J)
  have eY:¬s=⟨#[105,110,115]⟩:=qY J;clear J;refine aR lZ fH ?_ ?_<;>intro J
  ·have h:s=⟨#[105,100]⟩:=tR J;have e:decide (s=⟨#[99,111,112,121]⟩\/s=⟨#[107,101,121]⟩\/s=⟨#[105,110,115]⟩\/s=⟨#[105,100]⟩\/s=⟨#[102,111,108,100]⟩)=true:=nJ (Or.inr (Or.inr (Or.inr (Or.inl h))));refine a1 ?_;exact bh (aT fH e J)
  have n3:¬s=⟨#[105,100]⟩:=qY J;clear J
  have e:decide (s=⟨#[99,111,112,121]⟩\/s=⟨#[107,101,121]⟩\/s=⟨#[105,110,115]⟩\/s=⟨#[105,100]⟩\/s=⟨#[102,111,108,100]⟩)=decide (s=⟨#[102,111,108,100]⟩):=by simp only[DE ek,DD,DE dE,DD,DE eY,DD,DE n3,DD]
  refine bY lZ fH ?_;exact bh (I fH e)
 refine bC fH ?_ ?_<;>intro J
 ·have h:s=⟨#[99,111,112,121]⟩\/s=⟨#[107,101,121]⟩\/s=⟨#[105,110,115]⟩\/s=⟨#[105,100]⟩\/s=⟨#[102,111,108,100]⟩:=tR J;have e:ed s=1:=by unfold ed;rw[al h]
  rw[e];refine aA lZ fH ?_;exact bE fH
 have m1:¬(s=⟨#[99,111,112,121]⟩\/s=⟨#[107,101,121]⟩\/s=⟨#[105,110,115]⟩\/s=⟨#[105,100]⟩\/s=⟨#[102,111,108,100]⟩):=qY J;clear J
 refine fR ⟨60,bK [(0,s),(3,s),(10,(decide (s=⟨#[100,101,108]⟩\/s=⟨#[108,101,102,116]⟩\/s=⟨#[114,105,103,104,116]⟩\/s=⟨#[100,101,102,97,117,108,116]⟩)))],bA []⟩ ?_ ?_
 ·skip;refine aR lZ fH ?_ ?_<;>intro J
  ·have h:s=⟨#[100,101,108]⟩:=tR J;have e:decide (s=⟨#[100,101,108]⟩\/s=⟨#[108,101,102,116]⟩\/s=⟨#[114,105,103,104,116]⟩\/s=⟨#[100,101,102,97,117,108,116]⟩)=true:=nJ (Or.inl h);refine a1 ?_;exact bh (aT fH e J)
  have ek:¬s=⟨#[100,101,108]⟩:=qY J;clear J;refine aR lZ fH ?_ ?_<;>intro J
  ·have h:s=⟨#[108,101,102,116]⟩:=tR J;have e:decide (s=⟨#[100,101,108]⟩\/s=⟨#[108,101,102,116]⟩\/s=⟨#[114,105,103,104,116]⟩\/s=⟨#[100,101,102,97,117,108,116]⟩)=true:=nJ (Or.inr (Or.inl h));refine a1 ?_;exact bh (aT fH e J)
  have dE:¬s=⟨#[108,101,102,116]⟩:=qY J;clear J;refine aR lZ fH ?_ ?_<;>intro J
  ·have h:s=⟨#[114,105,103,104,116]⟩:=tR J;have e:decide (s=⟨#[100,101,108]⟩\/s=⟨#[108,101,102,116]⟩\/s=⟨#[114,105,103,104,116]⟩\/s=⟨#[100,101,102,97,117,108,116]⟩)=true:=nJ (Or.inr (Or.inr (Or.inl h)));refine a1 ?_;exact bh (aT fH e J)
  have eY:¬s=⟨#[114,105,103,104,116]⟩:=qY J;clear J
  have e:decide (s=⟨#[100,101,108]⟩\/s=⟨#[108,101,102,116]⟩\/s=⟨#[114,105,103,104,116]⟩\/s=⟨#[100,101,102,97,117,108,116]⟩)=decide (s=⟨#[100,101,102,97,117,108,116]⟩):=by simp only[DE ek,DD,DE dE,DD,DE eY,DD]
  refine bY lZ fH ?_;exact bh (I fH e)
 refine bC fH ?_ ?_<;>intro J
 ·have h:s=⟨#[100,101,108]⟩\/s=⟨#[108,101,102,116]⟩\/s=⟨#[114,105,103,104,116]⟩\/s=⟨#[100,101,102,97,117,108,116]⟩:=tR J;have e:ed s=2:=by unfold ed;rw[ab m1,al h]
  rw[e];refine aA lZ fH ?_;exact bE fH
 have m2:¬(s=⟨#[100,101,108]⟩\/s=⟨#[108,101,102,116]⟩\/s=⟨#[114,105,103,104,116]⟩\/s=⟨#[100,101,102,97,117,108,116]⟩):=qY J;clear J;refine aR lZ fH ?_ ?_<;>intro J
 ·have h:s=⟨#[110,111,114,109]⟩:=tR J;have e:ed s=3:=by unfold ed;rw[ab m1,ab m2,al h]
  rw[e];refine aA lZ fH ?_;exact bE fH
 have m3:¬s=⟨#[110,111,114,109]⟩:=qY J;clear J;refine aR lZ fH ?_ ?_<;>intro J
 ·have h:s=⟨#[108,101,116]⟩:=tR J;have e:ed s=-1:=by unfold ed;rw[ab m1,ab m2,ab m3,al h]
  rw[e];refine aA lZ fH ?_;exact bE fH
 have m4:¬s=⟨#[108,101,116]⟩:=qY J;have e:ed s=0:=by unfold ed;rw[ab m1,ab m2,ab m3,ab m4]
 rw[e];refine bk lZ fH ?_;exact bE fH
abbrev afe:cV prog 112:=oR (λ| [.val (.string s)]=>some (s)|_=>none) call112 λav w=>awA av w
structure di where
 b:Nat
 o:Nat
 c:Nat
 L:List bH
variable{q:di}
def di.at(q:di)(r:List bH):Nat:=q.o+3*(q.L.length-r.length)
def di.r5(q:di)(r:List bH):Value:=.slice (some ⟨q.b,q.at r,none⟩) r.length (q.c-(q.L.length-r.length))
def iI(q:di)(r:List bH)(op:Nat):List br:=[.val (q.r5 r),.val (.int .i64 (op:Nat))]
def di.ok(q:di)(W:ar)(S:aY):Prop:=b0 W S (some ⟨q.b,q.o,none⟩) (iH q.L)/\q.L.length<=q.c/\q.L.length<=1000000
def di.ok.W6{W aO:World}{S bz:Nat->Prop}(h:q.ok W S)(V:bT W S aO bz):q.ok aO bz := ⟨h.1.mono V,h.2⟩
def Bj(t:bH):Value:=.agg #[t.1,t.2.1,t.2.2]
def W7{S:aY}{b o:Nat}:∀{L:List bH} {r:List bH},b0 W S (some ⟨b,o,none⟩) (iH L)->r <:+ L->r≠[] ->
  W.cell? ⟨b,o+3*(L.length-r.length),none⟩=some (.int .i64 (aF r).1)/\W.cell? ⟨b,o+3*(L.length-r.length)+1,none⟩=some (.int .i64 ((aF r).2.1:Nat))/\W.cell? ⟨b,o+3*(L.length-r.length)+1+1,none⟩=some (.string (aF r).2.2):=by
 intro L r h aI eL;obtain⟨p,rfl⟩:=aI;obtain⟨t,r,rfl⟩:∃t bG,r=t::bG:=by
  cases r with
  |nil=>exact absurd rfl eL
  |cons t r=>exact⟨t,r,rfl⟩
 have aN:(p++t::r).length-(t::r).length=p.length:=by rw[ec];omega
 rw[aN];have au:iH (p++t::r)=iH p++([.int .i64 t.1,.int .i64 (t.2.1:Nat),.string t.2.2]++iH r):=by unfold iH;rw[OQ,OT]
 have hp:=ER p;rw[au]at h;rcases h with h|⟨p6,u7,he,J⟩
 ·exact absurd (fZ List.length h) bq
 ·cases he;have g:∀j v,([.int .i64 t.1,.int .i64 (t.2.1:Nat),.string t.2.2]:aX)[j]?=some v->W.cell? ⟨b,o+(3*p.length+j),none⟩=some v:=λj v au=>by
   have Y:j<3:=by
    rcases Lf j 3 with h|h
    ·exact h
    ·rw[ZN (aC h)]at au;cases au
   have:=(J (3*p.length+j) (by rw[ec,ec,hp];simp only[l9,uW];omega)).2;rw[this]
   congr 1
   have O:(iH p++([.int .i64 t.1,.int .i64 (t.2.1:Nat),.string t.2.2]++iH r))[3*p.length+j]?=some v:=by rw[Dv U,hp,show 3*p.length+j-p.length*3=j by omega,BL (aC Y)];exact au
   rw[uS (by rw[ec,ec,hp];simp only[l9,uW];omega)]at O;exact qZ O
  refine⟨?_,?_,?_⟩
  ·have:=g 0 _ rfl
   rwa [tT]at this
  ·exact g 1 _ rfl
  ·exact g 2 _ rfl
def aff{u:aM}{op:Nat}(h:eH w u fp 143 (iI q r op)):
  ∃b,u=.pointer (some ⟨b,0,none⟩)/\w.cell? ⟨b,0,none⟩=some (q.r5 r)/\w.cell? ⟨b,0+1,none⟩=some (.int .i64 (op:Nat)):=by
 obtain⟨b,us,D,O,B⟩:=Qb h
 match us,O with
 |[x,y],O=>obtain⟨rfl,rfl,_⟩:=O;exact⟨b,D,B 0 bq,B 1 bq⟩
def RJ:=ez
def afg(q:di)(r:List bH)(b:Nat)(w:ar)(z:q.ok w (Out []))(aI:r <:+ q.L)(eL:r≠[])(g1:w.cell? ⟨b,0,none⟩=some (q.r5 r)) :
  cQ 110 #[.pointer (some ⟨b,0,none⟩)] w (Bj (aF r)):=by
 obtain⟨ee,fh,gO⟩:=W7 z.1 aI eL;have um:q.o+3*(q.L.length-r.length)=q.at r:=rfl;rw[um]at ee fh gO;unfold di.r5 at g1;have aN:0<r.length:=by
  rcases r with _|⟨t,r⟩
  ·exact absurd rfl eL
  ·simp
 refine cB (nt:=9) [.cell 2 225] func110 ?_;refine aA aa RJ ?_;refine aL aa (de RJ g1 ee fh gO) ?_ ?_
 ·omega
 exact bE RJ
def di.st(q:di)(W:ar)(S:aY)(r:List bH):Prop:=q.ok W S/\r <:+ q.L/\ij r
def di.st.oF{W aO:World}{S bz:Nat->Prop}(h:q.st W S r)(V:bT W S aO bz):q.st aO bz r:=⟨h.1.W6 V,h.2⟩
abbrev yg (q:di)(r:List bH)(op:Nat):y1 prog 110 where
 T:=143
 pre:=λW bs fs aj=>(fs=iI q r op/\aj=[])/\q.st W (Out bs) r
 res:=λW fs aj=>Bj (aF r)
 enters:=call110
 ok:=by
  intro W w bs u fp us fs aj ad H hu hp;obtain⟨⟨rfl,rfl⟩,D,O,B⟩:=hp
  match us,hu with
  |[],_=>obtain⟨b,rfl,g1,g2⟩:=aff H;exact afg q r b w (D.W6 λb Z V=>⟨ad.block b Z V,by simp[Out]⟩) O B.ne g1
abbrev afh (q:di)(r:List bH)(b:Nat):cV prog 110 where
 pre:=λW bs aj=>aj=[.val (.pointer (some ⟨b,0,none⟩))]/\(b∉bs/\W.cell? ⟨b,0,none⟩=some (q.r5 r))/\q.st W (Out bs) r
 res:=λW aj=>Bj (aF r)
 enters:=call110
 ok:=by
  intro W w bs us aj ad hu hp;obtain⟨rfl,⟨g0,g1⟩,D,O,B⟩:=hp
  match us,hu with
  |[x],hu=>
   obtain⟨rfl,_⟩:=hu;have V:bT W (Out bs) w (Out []):=λb Z V=>⟨ad.block b Z V,by simp[Out]⟩
   exact afg q r b w (D.W6 V) O B.ne (gd.mono (b:=b) (o:=0) ⟨g0,g1⟩ V).2
section
variable (q:di)(r:List bH)(b:Nat)
abbrev awB:Env prog:=a7 ((afh q r b).spec) aa
end
def RL:=(b3 RJ @afh.eq_1 @iI.eq_1 @Bj.eq_1)
def awC(q:di)(r:List bH)(m:ao)(b:Nat)(w:ar)(z:q.st w (Out []) r)(g1:w.cell? ⟨b,0,none⟩=some (q.r5 r)) :
  cQ 169 #[.pointer (some ⟨b,0,none⟩),m] w (.bool (dI r m)):=by
 have Z:b∉([]:aD):=by simp
 refine cB (nt:=16) [.tmp 4] func169 ?_;refine aA aa RL ?_;refine aA (awB q r b) RL ?_;exact bE RL
abbrev Bk (q:di)(r:List bH)(op:Nat):y1 prog 169 where
 T:=143
 pre:=λW bs fs aj=>(fs=iI q r op/\∃m,aj=[.val (.string m)])/\q.st W (Out bs) r
 res:=λW fs aj=>match aj with
  |[.val (.string m)]=>.bool (dI r m)
  |_=>undef
 enters:=call169
 ok:=by
  intro W w bs u fp us fs aj ad H hu hp;obtain⟨⟨rfl,m,rfl⟩,D⟩:=hp
  match us,hu with
  |[x],hu=>obtain⟨rfl,_⟩:=hu;obtain⟨b,rfl,g1,g2⟩:=aff H;exact awC q r m b w (D.oF λb Z V=>⟨ad.block b Z V,by simp[Out]⟩) g1
section
variable (q:di)(r:List bH)(op:Nat)
abbrev awD:Env prog:=a7 ((yg q r op).spec) (a7 ((Bk q r op).spec) aa)
end
def awE(aI:r <:+ q.L)(h:ij r)(ad:(aF r).1≠0):q.at r+3=q.at r.tail/\r.length-1=r.tail.length/\(q.c-(q.L.length-r.length))-1=q.c-(q.L.length-r.tail.length):=by have D:=h.pos;have O:=aI.length_le;have B:=FC (l:=r);unfold di.at;refine⟨U,U,U⟩
def EU:=(aT RL @yg.eq_1 @Bk.eq_1)
def awF(q:di)(r:List bH)(op:Nat)(u:aM)(fp:aD)(w:ar)(z:q.st w (Out fp) r)(ad:(aF r).1≠0)(H:eH w u fp 143 (iI q r op))(ax:∀b∈fp,b<w.heap.size) :
  Calls prog 111 (#[u]++#[]) w λx M=>h0 w u fp 143 x M (.ret (Bj (aF r)) (iI q r.tail op)):=by
 obtain⟨D,O,B⟩:=z;obtain⟨ee,fh,gO⟩:=W7 D.1 O B.ne;have um:q.o+3*(q.L.length-r.length)=q.at r:=rfl;rw[um]at ee fh gO;obtain⟨dE,eY,n3⟩:=awE O B ad;have aN:=B.pos;have hle:=O.length_le;have J:=D.2.1;have jv:¬q.b∈fp:=by
  rcases D.1 with h|⟨p6,u7,he,aB⟩
  ·have:=ER q.L;rw[h]at this;simp at this;omega
  ·cases he;exact(aB 0 (by rw[ER];omega)).1
 have CM:Ge (some ⟨q.b,q.at r,none⟩) 1 3 (q.c-(q.L.length-r.length))=some ⟨q.b,q.at r.tail,none⟩:=by have:=(B.tail ad).1.pos;unfold Ge;rw[ab U,<- dE];rfl
 refine jP (nt:=19) [.cell 2 225] H ax func111 ?_;refine aA aa (I EU @di.r5.eq_1) ?_;refine aL aa (de EU ee fh gO @di.r5.eq_1) ?_ ?_
 ·exact⟨U,jv⟩
 refine aL aa (I EU @di.r5.eq_1) ?_ ?_
 ·exact⟨U,U⟩
 refine aA aa (I EU @di.r5.eq_1) ?_;refine bf (de EU @di.r5.eq_1 CM eY n3) ?_;exact eC (I EU @bQ)
abbrev zG (q:di)(r:List bH)(op:Nat):iO prog 111:=AP 143 (λW bs=>q.st W (Out bs) r/\(aF r).1≠0) call111 λW w bs u fp ad hp H ax fi=>awF q r op u fp w (hp.1.oF λb Z V=>⟨ad.block b Z V,λdO=>(fi b dO).elim (λg=>absurd g (rG.2 Z)) V⟩) hp.2 H ax
def yh(c:Int)(r:List bH):List PanicEntry:=jy c ((aF r).2.1:Nat)
def awG(q:di)(r:List bH)(op:Nat)(c:Int)(u:aM)(fp:aD)(w:ar)(z:q.st w (Out fp) r)(H:eH w u fp 143 (iI q r op))(ax:∀b∈fp,b<w.heap.size) :
  Calls prog 113 (#[u]++#[.int .i64 c]) w λx M=>h0 w u fp 143 x M (.b7 (yh c r) (.tuple #[])):=by
 refine jP (nt:=10) [] H ax func113 ?_;refine ae.gz (awD q r op) bX (aJ (b3 EU @yh.eq_1 @jy.eq_1 @ix.eq_1)) ?_ ?_
 ·exact⟨aq,z⟩
 exact cC
abbrev Hr (q:di)(r:List bH)(op:Nat):iO prog 113 where
 T:=143
 pre:=λW bs fs aj=>(fs=iI q r op/\∃c,aj=[.val (.int .i64 c)])/\q.st W (Out bs) r
 out:=λW fs aj=>match aj with
  |[.val (.int _ c)]=>.b7 (yh c r) (.tuple #[])
  |_=>.b7 [] undef
 enters:=call113
 ok:=by
  intro W w bs u fp us fs aj ad H ax fi hu hp;obtain⟨⟨rfl,c,rfl⟩,D⟩:=hp
  match us,hu with
  |[x],hu=>obtain⟨rfl,_⟩:=hu;exact awG q r op c u fp w (D.oF λb Z V=>⟨ad.block b Z V,λdO=>(fi b dO).elim (λg=>absurd g (rG.2 Z)) V⟩) H ax
section
variable (q:di)(r:List bH)(op:Nat)
abbrev W8:Env prog:=a7 ((yg q r op).spec) (a7 ((Bk q r op).spec) (a7 ((zG q r op).spec) (a7 ((Hr q r op).spec) aa)))
end
def l0(q:di)(r:List bH)(op oD:Nat)(m:ao):j7:=if dI r m=true then .ret (.tuple #[]) (iI q r.tail oD) else .b7 (yh 60 r) (.tuple #[])
def J3:=(aT EU @zG.eq_1 @Hr.eq_1)
def awH(q:di)(r:List bH)(op:Nat)(m:ao)(u:aM)(fp:aD)(w:ar)(z:q.st w (Out fp) r)(H:eH w u fp 143 (iI q r op))(ax:∀b∈fp,b<w.heap.size) :
  Calls prog 114 (#[u]++#[.string m]) w λx M=>h0 w u fp 143 x M (l0 q r op op m):=by
 refine jP (nt:=12) [] H ax func114 ?_;refine ae.seq ?_;refine aR (W8 q r op) J3 ?_ ?_<;>intro J
 ·have h:¬dI r m=true:=aC J
  rw[l0,ab h];refine ae.gz (W8 q r op) bX (aJ J3) ?_ ?_
  ·exact⟨⟨⟨_,rfl⟩,z⟩,aq,λ_ h=>h.elim⟩
  exact cC
 have h:dI r m=true:=aC J
 rw[l0,al h];refine a1 ?_;refine wr (W8 q r op) J3 ?_ ?_
 ·exact⟨⟨z,r4 h⟩,aq,λ_ h=>h.elim⟩
 refine jQ J3 ?_;exact eC (I J3 @bQ)
def W9(h:q.st W (Out bs) r)(ad:LE.cr W bs w)(hm:∀b∈fp,W.heap.size<=b\/b∈bs):q.st w (Out fp) r:=h.oF λb Z V=>⟨ad.block b Z V,λdO=>(hm b dO).elim (λg=>absurd g (rG.2 Z)) V⟩
abbrev J4 (q:di)(r:List bH)(op:Nat):iO prog 114 where
 T:=143
 pre:=λW bs fs aj=>(fs=iI q r op/\∃m,aj=[.val (.string m)])/\q.st W (Out bs) r
 out:=λW fs aj=>match aj with
  |[.val (.string m)]=>l0 q r op op m
  |_=>.b7 [] undef
 enters:=call114
 ok:=by
  intro W w bs u fp us fs aj ad H ax fi hu hp;obtain⟨⟨rfl,m,rfl⟩,D⟩:=hp
  match us,hu with
  |[x],hu=>obtain⟨rfl,_⟩:=hu;exact awH q r op m u fp w (W9 D ad fi) H ax
section
variable (q:di)(r:List bH)(op:Nat)
abbrev J5:Env prog:=a7 ((yg q r op).spec) (a7 ((Bk q r op).spec) (a7 ((zG q r op).spec) (a7 ((Hr q r op).spec) (a7 ((J4 q r op).spec) (a7 afe.spec (a7 afd.spec aa))))))
end
def Bl(q:di)(r:List bH)(op:Nat)(m:ao):j7:=if dI r m=true/\64<=op then .b7 (yh 23 r) (.tuple #[]) else l0 q r op (op+1) m
def yi:=(I J3 @J4.eq_1)
def awI(q:di)(r:List bH)(op:Nat)(m:ao)(u:aM)(fp:aD)(w:ar)(z:q.st w (Out fp) r)(cm:op<=64)(H:eH w u fp 143 (iI q r op))(ax:∀b∈fp,b<w.heap.size) :
  Calls prog 247 (#[u]++#[.string m]) w λx M=>h0 w u fp 143 x M (Bl q r op m):=by
 have w0:=fK op;refine jP (nt:=26) [] H ax func247 ?_;refine ae.seq ?_;refine aR (J5 q r op) yi ?_ ?_<;>intro J
 ·have h:dI r m=true/\64<=op:=by
   simp at J;exact⟨J.1,U⟩
  rw[Bl,al h];refine ae.gz (J5 q r op) bX (aJ yi) ?_ ?_
  ·exact⟨⟨⟨_,rfl⟩,z⟩,aq,λ_ h=>h.elim⟩
  exact cC
 have h:¬(dI r m=true/\64<=op):=by rintro⟨D,O⟩;simp[D]at J;omega
 rw[Bl,ab h];refine a1 ?_;by_cases hm:dI r m=true
 ·have hw:l0 q r op op m=.ret (.tuple #[]) (iI q r.tail op):=by rw[l0,al hm]
  have Ah:l0 q r op (op+1) m=.ret (.tuple #[]) (iI q r.tail (op+1)):=by rw[l0,al hm]
  rw[Ah];refine aA (J5 q r op) (I yi hw) ?_;refine bY aa (I yi w0) ?_;refine jQ yi ?_;exact eC (I yi @bQ)
 ·have hw:l0 q r op op m=.b7 (yh 60 r) (.tuple #[]):=by rw[l0,ab hm]
  have Ah:l0 q r op (op+1) m=.b7 (yh 60 r) (.tuple #[]):=by rw[l0,ab hm]
  rw[Ah];refine ae.fe (J5 q r op) bX (aJ (I yi hw)) ?_ ?_
  ·exact⟨⟨⟨_,rfl⟩,z⟩,aq,λ_ h=>h.elim⟩
  exact cC
abbrev RM (q:di)(r:List bH)(op:Nat):iO prog 247 where
 T:=143
 pre:=λW bs fs aj=>(fs=iI q r op/\∃m,aj=[.val (.string m)])/\q.st W (Out bs) r/\op<=64
 out:=λW fs aj=>match aj with
  |[.val (.string m)]=>Bl q r op m
  |_=>.b7 [] undef
 enters:=call247
 ok:=by
  intro W w bs u fp us fs aj ad H ax fi hu hp;obtain⟨⟨rfl,m,rfl⟩,D,O⟩:=hp
  match us,hu with
  |[x],hu=>obtain⟨rfl,_⟩:=hu;exact awI q r op m u fp w (W9 D ad fi) O H ax
def awJ(q:di)(r:List bH)(op:Nat)(m:ao)(u:aM)(fp:aD)(w:ar)(z:q.st w (Out fp) r)(cm:op+1<=64)(H:eH w u fp 143 (iI q r (op+1)))(ax:∀b∈fp,b<w.heap.size) :
  Calls prog 248 (#[u]++#[.string m]) w λx M=>h0 w u fp 143 x M (l0 q r (op+1) op m):=by
 have w0:=iv (((op+1:Nat):Int)-1) ((op:Nat):Int);refine jP (nt:=14) [] H ax func248 ?_;by_cases hm:dI r m=true
 ·have hw:l0 q r (op+1) (op+1) m=.ret (.tuple #[]) (iI q r.tail (op+1)):=by rw[l0,al hm]
  have Ah:l0 q r (op+1) op m=.ret (.tuple #[]) (iI q r.tail op):=by rw[l0,al hm]
  rw[Ah];refine aA (J5 q r (op+1)) (I yi hw) ?_;refine bY aa (I yi w0) ?_;refine jQ yi ?_;exact eC (I yi @bQ)
 ·have hw:l0 q r (op+1) (op+1) m=.b7 (yh 60 r) (.tuple #[]):=by rw[l0,ab hm]
  have Ah:l0 q r (op+1) op m=.b7 (yh 60 r) (.tuple #[]):=by rw[l0,ab hm]
  rw[Ah];refine ae.fe (J5 q r (op+1)) bX (aJ (I yi hw)) ?_ ?_
  ·exact⟨⟨⟨_,rfl⟩,z⟩,aq,λ_ h=>h.elim⟩
  exact cC
abbrev RN (q:di)(r:List bH)(op:Nat):iO prog 248 where
 T:=143
 pre:=λW bs fs aj=>(fs=iI q r (op+1)/\∃m,aj=[.val (.string m)])/\q.st W (Out bs) r/\op+1<=64
 out:=λW fs aj=>match aj with
  |[.val (.string m)]=>l0 q r (op+1) op m
  |_=>.b7 [] undef
 enters:=call248
 ok:=by
  intro W w bs u fp us fs aj ad H ax fi hu hp;obtain⟨⟨rfl,m,rfl⟩,D,O⟩:=hp
  match us,hu with
  |[x],hu=>obtain⟨rfl,_⟩:=hu;exact awJ q r op m u fp w (W9 D ad fi) O H ax
inductive h7 (W:ar) (S:aY):Bool->List Value->bO->Prop where
 |name (a:Nat) (s:ao):h7 W S true [.iface 205 (.agg #[a,s])] (.name a s)
 |text (a:Nat) (s:ao):h7 W S true [.iface 206 (.agg #[a,s])] (.text a s)
 |rx (a:Nat) (s:ao):h7 W S true [.iface 207 (.agg #[a,s])] (.rx a s)
 |call (a:Nat) (s:ao) (ay:dj) (c:Nat) (vs:aX) (l:bO):b0 W S ay vs->vs.length<=c->h7 W S false vs l->h7 W S true [.iface 219 (.agg #[a,s,.slice ay vs.length c])] (.call a s l)
 |keyed (a:Nat) (v:aM) (x:bO):h7 W S true [v] x->h7 W S true [.iface 209 (.agg #[a,v])] (.keyed a x)
 |unary (a:Nat) (s:ao) (v:aM) (x:bO):h7 W S true [v] x->h7 W S true [.iface 212 (.agg #[a,s,v])] (.unary a s x)
 |binary (a:Nat) (s:ao) (v u:aM) (x y:bO):h7 W S true [v] x->h7 W S true [u] y->h7 W S true [.iface 215 (.agg #[a,s,v,u])] (.binary a s x y)
 |nil:h7 W S false [] .nil
 |cons (v:aM) (vs:aX) (x l:bO):h7 W S true [v] x->h7 W S false vs l->h7 W S false (v::vs) (.cons x l)
theorem h7.mono{W aO:World}{S bz:Nat->Prop}{k:Bool}{vs:aX}{x:bO}(h:h7 W S k vs x)(V:bT W S aO bz):h7 aO bz k vs x:=by
 induction h with
 |name a s=>exact .name a s
 |text a s=>exact .text a s
 |rx a s=>exact .rx a s
 |call a s ay c vs l D O _ bb=>exact .call a s ay c vs l (D.mono V) O bb
 |keyed a v x _ bb=>exact .keyed a v x bb
 |unary a s v x _ bb=>exact .unary a s v x bb
 |binary a s v u x y _ _ i1 i2=>exact .binary a s v u x y i1 i2
 |nil=>exact .nil
 |cons v vs x l _ _ i1 i2=>exact .cons v vs x l i1 i2
abbrev o4 (W:ar)(S:aY)(v:aM)(x:bO):Prop:=h7 W S true [v] x
def h7.iface{S:aY}{v:aM}{x:bO}(h:o4 W S v x):∃t u,v=.iface t u:=by cases h<;>exact⟨_,_,rfl⟩
def h7.one{S:aY}{v:aM}{x:bO}(h:o4 W S v x):v.oneCell'=true:=by obtain⟨t,u,rfl⟩:=h.iface;rfl
def h7.au{S:aY}{v:aM}{x:bO}(h:o4 W S v x):au v=v:=qq h.one
def h7.parts{S:aY}{v:aM}{x:bO}(h:o4 W S v x):partsOf (.v v)=[.v v]:=by obtain⟨t,u,rfl⟩:=h.iface;rfl
def RO(x:bO):lr:=⟨λcs W S=>∃v,cs=[v]/\o4 W S v x,λV ⟨v,D,O⟩=>⟨v,D,O.mono V⟩⟩
def Bm{S:aY}{x:bO}{cs:aX}(h:(RO x).Φ cs W S):∃v,cs=[v]/\o4 W S v x/\au v=v:=by obtain⟨v,D,O⟩:=h;exact⟨v,D,O,O.au⟩
def J6{v:aM}(h:au v=v):b5.one.val [v]=v:=by show au v=v;exact h
def Bn{x:bO}{cy:ar}{ck fp:aD}{S:aY}{v:aM}{T:a6}{h:ca}{vs:List ag}{fx:List hZ}{ks:aD}(aK:o4 cy (bw (aP w S fp) ck) v x)
  (A:h 0=some (.cells T vs)) (au:e6 h vs=some (px [v] fx,ks)) (aE:(0::ks).Nodup) (hp:∀x∈fx,∃a,x=.eg a:=by simp):bZ w S fp T cy ck (.v v) h (.fact b5.one (RO x) fx):=
 bZ.plain [v] ⟨λE=>(J6 aK.au).symm,v,rfl,aK⟩ A au aE hp
def J7(q:di)(op:Nat):cW->j7
 |.ok (x,r)=>.fact b5.one (RO x) ((iI q r op).map .eg)
 |.error (c,a)=>.b7 (jy c (a:Nat)) .nilIface
theorem uA(q:di)(op:Nat)(x:bO)(r:List bH):J7 q op (.ok (x,r))=.fact b5.one (RO x) ((iI q r op).map .eg):=rfl
theorem pO(q:di)(op:Nat)(c:Int)(a:Nat):J7 q op (.error (c,a))=.b7 (jy c (a:Nat)) .nilIface:=rfl
def qJ(f:dr)(aj:aX)(op:Nat)(sub:List bH->cW):Prop:=∀(q:di) (r:List bH) (u:aM) (fp:aD) (w:ar) (S:aY),q.st w S r->nX w S->eH w u fp 143 (iI q r op)->(∀b∈fp,b<w.heap.size)->(∀b∈fp,¬S b) ->
 Calls prog f (#[u]++aj.toArray) w λe M=>sx w S u fp 143 e M (J7 q op (sub r))
def Xa{w:ar}{S:aY}:∀{aj us:aX},Cm w S (aj.map λ_=>none) us (aj.map br.val)->us=aj
 |[],[],_=>rfl
 |[],_::_,h=>h.elim
 |a::r,[],h=>h.elim
 |a::r,u::us,h=>by obtain⟨D,O⟩:=h;have D:u=a:=D;rw[D,Xa O]
abbrev CX (f:dr)(aj:aX)(op:Nat)(sub:List bH->cW)(he:∀args w,(callFunc f args).run prog w=.ok (.enter f args) w)(h:qJ f aj op sub)(q:di)(r:List bH):y2 prog f where
 T:=143
 kinds:=aj.map λ_=>none
 pre:=λfs k5 W S=>(fs=iI q r op/\k5=aj.map br.val)/\q.st W S r/\nX W S
 gA:=λfs k5 W S aO bz V ⟨D,O,B⟩=>⟨D,O.oF V,B.mono V⟩
 out:=λ_ _=>J7 q op (sub r)
 enters:=he
 ok:=by intro w S u fp us fs k5 H ax bp hu hp;obtain⟨⟨rfl,rfl⟩,D,O⟩:=hp;obtain rfl:=Xa hu;have:=h q r u fp w S D O H ax bp;simpa using this
structure J8 where
 W:World
 bs:List Nat
 v:Value
 x:bO
 r:List bH
 n:Nat
section
variable (G:aY)(q:di)(r:List bH)(op:Nat)(atom:List bH->cW)(h:qJ 212 [] op atom)
abbrev RP:Env prog:=a7 ((yg q r op).spec) (a7 ((Bk q r op).spec) (a7 ((zG q r op).spec) (a7 ((CX 212 [] op atom call212 h q r).spec G) aa)))
end
def di.st.out{S:aY}(h:q.st w (bw S fp) r):q.st w (Out fp) r:=h.oF λb _ Z=>⟨rfl,Z.2⟩
def w1:=(I (ch ez @yg.eq_1 @Bk.eq_1 @zG.eq_1 @iI.eq_1 @Bj.eq_1 @CX.eq_1 @uA) @pO)
def awK(op:Nat)(atom:List bH->cW)(bJ:o3 atom 1)(cb:qJ 212 [] op atom):qJ 170 [] op (pL atom):=by
 intro q r u fp w S z zH H ax bp;have cf:=aP.up w S fp;have eN:=z.oF (aP.ep w S fp bp);have iS:=zH.mono (aP.ep w S fp bp);refine nm (nt:=27) S [.tmp 2] H ax func170 ?_;refine aA aa w1 ?_;cases bo:atom r with
 |error e=>
  obtain⟨c,j⟩:=e;have aZ:pL atom r=.error (c,j):=by rw[pL,bo]
  rw[aZ,pO];refine ae.fe (RP (aP w S fp) q r op atom cb) bX (aJ (I w1 bo)) ?_ ?_
  ·exact⟨⟨eN,iS⟩,aq,λ_ h=>h.elim⟩
  exact cC
 |ok p=>
  obtain⟨dw,eW⟩:=p;have gi:=bJ r z.2.2 _ _ bo;have aZ:pL atom r=.ok (vE eW.length dw eW):=by rw[pL,bo]
  rw[aZ];generalize dW:vE eW.length dw eW=R;refine aL (RP (aP w S fp) q r op atom cb) (I w1 bo) ?_ ?_
  ·exact⟨⟨eN,iS⟩,aq,(λ_ h=>h.elim),cf⟩
  refine ae.dt 31 (aJ w1) (bT.refl _ _) λcy ck cs bD dR=>?_
  obtain⟨v0,rfl,qk,fI⟩:=Bm dR;have gK:q.st cy (bw (aP w S fp) ck) eW:=⟨(eN.oF bD.cc).1,gi.2.1.trans z.2.1,gi.1⟩;refine ae.seq (ae.block ?_);refine ae.q4 (λp:J8=>⟨20,bK [(0,.is (.own 0 0)),(3,p.v)],bA [(0,.cells 143 [(q.r5 p.r),op])]⟩)
   J8.W J8.bs (λp=>q.st p.W (bw (aP w S fp) p.bs) p.r/\o4 p.W (bw (aP w S fp) p.bs) p.v p.x/\p.r.length<=p.n/\vE p.n p.x p.r=R) (λp=>p.n) ⟨cy,ck,v0,dw,eW,eW.length⟩ rfl rfl ?_ ⟨gK,qk,eo _,dW⟩ ?_
  ·exact bh (I w1 fI)
  rintro⟨cL,c7,v,x,cE,n⟩ ⟨ea,aK,aE,kd⟩ cq;simp only at ea aK aE kd cq;dsimp only;have kS:=ea.2.2.pos;obtain⟨n,rfl⟩:∃m,n=m+1:=⟨n-1,U⟩;refine ae.seq ?_;refine aL (RP (aP w S fp) q cE op atom cb) w1 ?_ ?_
  ·exact⟨⟨aq,⟨_,rfl⟩,ea.out⟩,λ_=>⟨aq,⟨_,rfl⟩,ea.out⟩,λ_=>⟨aq,⟨_,rfl⟩,ea.out⟩⟩
  refine bC w1 ?_ ?_<;>intro J
  ·have h:((dI cE ny||dI cE pK)||dI cE Hq)=true:=J;rw[vE,al h]at kd;have ad:(aF cE).1≠0:=by
    simp only[wa]at h;rcases h with(h|h)|h<;>exact r4 h
   refine a1 ?_;refine ae.block ?_;refine aL (RP (aP w S fp) q cE op atom cb) w1 ?_ ?_
   ·exact⟨⟨ea.out,ad⟩,aq,λ_ h=>h.elim⟩
   refine bY aa (I w1 aK.parts) ?_;have h6:=Left.next ea.2.2 ad
   refine⟨⟨cL,c7,.iface 212 (.agg #[((aF cE).2.1),.string (aF cE).2.2,v]),.unary (aF cE).2.1 (aF cE).2.2 x,cE.tail,n⟩,⟨⟨ea.1,h6.2.1.trans ea.2.1,h6.1⟩,.unary _ _ _ _ aK,by have:=h6.2.2;dsimp only;omega,kd⟩,by dsimp only;omega,rfl,rfl,?_⟩;exact bh w1
  ·have h:((dI cE ny||dI cE pK)||dI cE Hq)=false:=J;rw[vE,ab (by rw[h];simp)]at kd;rw[<- kd,uA];refine c6 ?_;refine aA aa w1 ?_;refine bf w1 ?_;exact Bn aK rfl ((aJ (I w1 @bQ))) aq
theorem w2(P:bR)(T:a6)(l:List ag):Vg P T l none=⟨P.concrete T=true,.jL T (.agg l),[],none,[],[]⟩:=rfl
theorem yj(k i:Nat)(r:List ag):jO (.part k i::r)=none:=rfl
def qv.const{nt:Nat}{az:jN}{σ cd:eG}(t:Nat){x:ag}{v:aM}(aB:σ.φ t=.is x)(J:q9 x=some v)(h:qv W bs nt az ⟨σ.n,bF σ.φ t (.is (.v v)),σ.h⟩ cd):qv W bs nt az σ cd:=by
 rintro a w ⟨⟨E,F,iN,V,hp⟩,D,O,B,aU,bn⟩;refine h a w ⟨⟨E,F,λj=>?_,V,hp⟩,D,O,B,λj k ad=>?_,bn⟩
 ·show fits E (bF σ.φ t (.is (.v v)) j) _;by_cases Y:j=t
  ·subst Y;rw[iB];have:=iN j;rw[aB]at this;rw[<- P7 (E:=E) J];exact this
  ·rw[hF _ _ Y];exact iN j
 ·show k/8<σ.n;have ad:k∈(bF σ.φ t (.is (.v v)) j).keys:=ad;by_cases Y:j=t
  ·subst Y;rw[iB]at ad;cases ad
  ·rw[hF _ _ Y]at ad;exact aU j k ad
section
variable (G:aY)(q:di)(r:List bH)(op:Nat)(sub:List bH->cW)(aj:aX)(h:qJ 170 [] op sub)(bu:qJ 115 aj op sub)
abbrev afi:Env prog:=a7 ((CX 170 [] op sub call170 h q r).spec G) aa
abbrev J9:Env prog:=a7 ((yg q r op).spec) (a7 ((zG q r op).spec) (a7 afd.spec (a7 ((CX 115 aj op sub call115 bu q r).spec G) aa)))
end
def nX.out{S:aY}(h:nX w (bw S fp)):nX w (Out fp):=h.mono λb _ Z=>⟨rfl,Z.2⟩
def nY:=(I (ch ez @w2 @yj @yg.eq_1 @zG.eq_1 @iI.eq_1 @Bj.eq_1 @CX.eq_1) (I @uA @pO))
def awL(op:Nat)(atom:List bH->cW)(cb:qJ 170 [] op (pL atom)):qJ 115 [.int .i64 5] op (pM atom 0):=by
 intro q r u fp w S z zH H ax bp;have cf:=aP.up w S fp;have eN:=z.oF (aP.ep w S fp bp);have iS:=zH.mono (aP.ep w S fp bp);have aZ:pM atom 0 r=pL atom r:=rfl;rw[aZ];refine nm (nt:=41) S [.tmp 4] H ax func115 ?_;refine gJ aa nY ?_;cases bo:pL atom r with
 |error e=>
  obtain⟨c,j⟩:=e;rw[pO];refine ae.fe (afi (aP w S fp) q r op (pL atom) cb) bX (aJ (I nY bo)) ?_ ?_
  ·exact⟨⟨eN,iS⟩,aq,λ_ h=>h.elim⟩
  exact cC
 |ok p=>
  obtain⟨dw,eW⟩:=p;rw[uA];refine aL (afi (aP w S fp) q r op (pL atom) cb) (I nY bo) ?_ ?_
  ·exact⟨⟨eN,iS⟩,aq,(λ_ h=>h.elim),cf⟩
  refine ae.dt 47 (aJ nY) (bT.refl _ _) λcy ck cs bD dR=>?_
  obtain⟨v0,rfl,qk,fI⟩:=Bm dR;refine bf (I nY fI) ?_;exact Bn qk rfl ((aJ (I nY @bQ))) aq
def awM(op k:Nat)(ad:k<=4)(sub:List bH->cW)(bJ:o3 sub 1)(cb:qJ 115 [.int .i64 (5-(k:Nat))] op sub):qJ 115 [.int .i64 (4-(k:Nat))] op (tx sub (4-(k:Nat))):=by
 intro q r u fp w S z zH H ax bp;have cf:=aP.up w S fp;have eN:=z.oF (aP.ep w S fp bp);have iS:=zH.mono (aP.ep w S fp bp);have wl:=iv (4-(k:Int)+1) (5-(k:Nat));have ak:decide (4-(k:Int)=5)=false:=yJ U;refine nm (nt:=41) S [.tmp 4] H ax func115 ?_
 refine bk aa nY ?_;refine aA aa (I nY ak) ?_;refine bk aa nY ?_;cases bo:sub r with
 |error e=>
  obtain⟨c,j⟩:=e;have aZ:tx sub (4-(k:Nat)) r=.error (c,j):=by rw[tx,bo]
  rw[aZ,pO];refine ae.fe (J9 (aP w S fp) q r op sub _ cb) bX (aJ (aT nY bo wl)) ?_ ?_
  ·exact⟨⟨eN,iS⟩,aq,λ_ h=>h.elim⟩
  exact cC
 |ok p=>
  obtain⟨dw,eW⟩:=p;have gi:=bJ r z.2.2 _ _ bo;have aZ:tx sub (4-(k:Nat)) r=oE sub (4-(k:Nat)) eW.length dw eW:=by rw[tx,bo]
  rw[aZ];generalize dW:oE sub (4-(k:Nat)) eW.length dw eW=R;refine aL (J9 (aP w S fp) q r op sub _ cb) (aT nY bo wl) ?_ ?_
  ·exact⟨⟨eN,iS⟩,aq,(λ_ h=>h.elim),cf⟩
  refine ae.dt 63 (aJ nY) (bT.refl _ _) λcy ck cs bD dR=>?_
  obtain⟨v0,rfl,qk,fI⟩:=Bm dR;have gK:q.st cy (bw (aP w S fp) ck) eW:=⟨(eN.oF bD.cc).1,gi.2.1.trans z.2.1,gi.1⟩;refine ae.seq (ae.block ?_)
  refine ae.q4 (λp:J8=>⟨20,bK [(0,.is (.own 0 0)),(1,.is (.v (.int .i64 (4-(k:Nat))))),(5,p.v)],bA [(0,.cells 143 [(q.r5 p.r),op])]⟩)
   J8.W J8.bs (λp=>q.st p.W (bw (aP w S fp) p.bs) p.r/\nX p.W (bw (aP w S fp) p.bs)/\o4 p.W (bw (aP w S fp) p.bs) p.v p.x/\p.r.length<=p.n/\oE sub (4-(k:Nat)) p.n p.x p.r=R) (λp=>p.n) ⟨cy,ck,v0,dw,eW,eW.length⟩ rfl rfl ?_ ⟨gK,iS.mono bD.cc,qk,eo _,dW⟩ ?_
  ·exact bh (I nY fI)
  rintro⟨cL,c7,v,x,cE,n⟩ ⟨ea,s2,aK,aE,kd⟩ cq;simp only at ea s2 aK aE kd cq;dsimp only;have awN:=bD.trans cq;have eO:=cf.ext awN;have kS:=ea.2.2.pos;obtain⟨n,rfl⟩:∃m,n=m+1:=⟨n-1,U⟩;rw[oE]at kd;refine ae.seq ?_;refine aL (J9 (aP w S fp) q cE op sub _ cb) nY ?_ ?_
  ·exact⟨⟨aq,ea.out⟩,λ_=>⟨aq,ea.out⟩,λ_=>s2.out⟩
  refine bC nY ?_ ?_<;>intro J
  ·have h:(aF cE).1=4/\rr (aF cE).2.2=4-(k:Nat):=by
    simp at J;exact J
   rw[al h]at kd;have GM:(aF cE).1≠0:=U;have h6:=Left.next ea.2.2 GM
   have ji:q.st cL (bw (aP w S fp) c7) cE.tail:=⟨ea.1,h6.2.1.trans ea.2.1,h6.1⟩;refine a1 ?_;refine ae.block ?_;refine aL (J9 (aP w S fp) q cE op sub _ cb) nY ?_ ?_
   ·exact⟨⟨ea.out,GM⟩,aq,λ_ h=>h.elim⟩
   cases gf:sub cE.tail with
   |error e=>
    obtain⟨c,j⟩:=e;rw[gf]at kd;simp only at kd;rw[<- kd,pO];refine ae.xC (J9 (aP w S fp) q cE.tail op sub _ cb) bX (aJ (b3 nY gf wl aK.parts)) rfl (by kernel_rfl) ?_ ?_
    ·exact⟨⟨ji,s2⟩,aq,λ_ h=>h.elim⟩
    exact cC
   |ok p=>
    obtain⟨y,sr⟩:=p;rw[gf]at kd;simp only at kd;have oB:=bJ _ h6.1 _ _ gf;refine ae.more ?_;refine iP (J9 (aP w S fp) q cE.tail op sub _ cb) (b3 nY gf wl aK.parts) ?_ ?_
    ·exact⟨⟨ji,s2⟩,aq,(λ_ h=>h.elim),eO⟩
    refine pw ?_;refine eZ.dt 359 (aJ nY) (bT.refl _ _) λe0 eu cs du e1=>?_
    obtain⟨v3,rfl,mR,mS⟩:=Bm e1;refine eZ.here ?_;refine kG ?_
    refine⟨⟨e0,eu,.iface 215 (.agg #[((aF cE).2.1),.string (aF cE).2.2,v,v3]),.binary (aF cE).2.1 (aF cE).2.2 x y,sr,n⟩,⟨⟨(ea.oF du.cc).1,oB.2.1.trans (h6.2.1.trans ea.2.1),oB.1⟩,s2.mono du.cc,.binary _ _ _ _ _ _ (aK.mono du.cc) mR,by have:=h6.2.2;have:=oB.2.2;dsimp only;omega,kd⟩,by dsimp only;omega,rfl,rfl,?_⟩
    refine qv.const 5 ((aJ (I nY mS))) ((aJ (I nY mS))) ?_;exact bh (I nY mS)
  ·have h:¬((aF cE).1=4/\rr (aF cE).2.2=4-(k:Nat)):=by
    intro h;simp at J;exact J h.1 h.2
   rw[ab h]at kd;rw[<- kd,uA];refine c6 ?_;refine aA aa nY ?_;refine bf nY ?_;exact Bn aK rfl ((aJ (I nY @bQ))) aq
def afj(op:Nat)(atom:List bH->cW)(bJ:o3 atom 1)(cb:qJ 212 [] op atom):∀k,k<=5->qJ 115 [.int .i64 (5-(k:Nat))] op (pM atom k)
 |0,_=>awL op atom (awK op atom bJ cb)
 |k+1,h=>by have:=awM op k U (pM atom k) (CW bJ k) (afj op atom bJ cb k U);rw[show(5-((k+1:Nat):Int))=4-(k:Nat) by omega];exact this
def afk(op:Nat)(atom:List bH->cW)(bJ:o3 atom 1)(cb:qJ 212 [] op atom):qJ 115 [.int .i64 0] op (uz atom):=afj op atom bJ cb 5 (eo _)
def Xb(f:dr)(aj:aX)(op:Nat)(sub:List bH->cW)(P:List bH->Prop):Prop:=∀(q:di) (r:List bH) (u:aM) (fp:aD) (w:ar) (S:aY),P r->q.st w S r->nX w S->eH w u fp 143 (iI q r op)->(∀b∈fp,b<w.heap.size)->(∀b∈fp,¬S b) ->
 Calls prog f (#[u]++aj.toArray) w λe M=>sx w S u fp 143 e M (J7 q op (sub r))
abbrev afl (f:dr)(aj:aX)(op:Nat)(sub:List bH->cW)(P:List bH->Prop)(he:∀args w,(callFunc f args).run prog w=.ok (.enter f args) w)(h:Xb f aj op sub P)(q:di)(r:List bH):y2 prog f where
 T:=143
 kinds:=aj.map λ_=>none
 pre:=λfs k5 W S=>(fs=iI q r op/\k5=aj.map br.val)/\P r/\q.st W S r/\nX W S
 gA:=λfs k5 W S aO bz V ⟨D,A,O,B⟩=>⟨D,A,O.oF V,B.mono V⟩
 out:=λ_ _=>J7 q op (sub r)
 enters:=he
 ok:=by intro w S u fp us fs k5 H ax bp hu hp;obtain⟨⟨rfl,rfl⟩,A,D,O⟩:=hp;obtain rfl:=Xa hu;have:=h q r u fp w S A D O H ax bp;simpa using this
def yk(mD:Option (List bH->cW))(r:List bH):cW:=lE mD r.tail er λex bG=>iy fG (.call (aF r).2.1 (aF r).2.2) (ql ex (ed (aF r).2.2).toNat 0 .nil bG)
def afm(op:Nat)(mD:Option (List bH->cW)):Prop:=op<=64/\(mD=none->op=64)/\∀ex,mD=some ex->op<64/\o3 ex 1/\qJ 115 [.int .i64 0] (op+1) ex
section
variable (G:aY)(q:di)(r:List bH)(op:Nat)(sub:List bH->cW)(h:qJ 115 [.int .i64 0] op sub)
abbrev iW:Env prog:=a7 ((zG q r op).spec) (a7 afe.spec (a7 ((J4 q r op).spec) (a7 ((RM q r op).spec) (a7 ((RN q r op).spec) (a7 ((yg q r op).spec) (a7 ((Bk q r op).spec) (a7 ((Hr q r op).spec) aa)))))))
abbrev Bo:Env prog:=a7 ((CX 115 [.int .i64 0] op sub call115 h q r).spec G) aa
end
def awO{op:Nat}(h:dI r m=false):Bl q r op m=.b7 (yh 60 r) (.tuple #[]):=by unfold Bl l0;rw[ab (by rw[h];simp),ab (by rw[h];simp)]
def Xc(h:dI r m=true):Bl q r 64 m=.b7 (yh 23 r) (.tuple #[]):=by unfold Bl;rw[al ⟨h,eo _⟩]
def Xd{op:Nat}(h:dI r m=true)(H:op<64):Bl q r op m=.ret (.tuple #[]) (iI q r.tail (op+1)):=by unfold Bl l0;rw[ab U,al h]
def Ka{op oD:Nat}(h:dI r m=true):l0 q r op oD m=.ret (.tuple #[]) (iI q r.tail oD):=by rw[l0,al h]
def Kb{op oD:Nat}(h:dI r m=false):l0 q r op oD m=.b7 (yh 60 r) (.tuple #[]):=by rw[l0,ab (by rw[h];simp)]
def h7.Bp{S:aY}{v:aM}{x:bO}(aB:o4 W S v x):∀{k:Bool} {vs:aX} {l:bO},h7 W S k vs l->k=false->h7 W S false (vs++[v]) (vF l x):=by
 intro k vs l h
 induction h with
 |nil=>exact λ_=>.cons _ _ _ _ aB .nil
 |cons eT vs sZ l D O i1 i2=>exact λ_=>.cons _ _ _ _ D (i2 rfl)
 |_=>exact λe=>by cases e
structure Xe where
 W:World
 bs:List Nat
 vs:List Value
 l:bO
 r:List bH
 k:Nat
 n:Nat
def Xf(s:ao):ed s<=3:=by
 unfold ed
 repeat' split
 all_goals decide
def mY:=(I (ch ez @w2 @yj @zG.eq_1 @J4.eq_1 @RM.eq_1 @RN.eq_1 @yg.eq_1) (hV @Bk.eq_1 @Hr.eq_1 @iI.eq_1 @Bj.eq_1 @CX.eq_1 @uA @pO))
def awP(op:Nat)(mD:Option (List bH->cW))(hm:afm op mD):Xb 246 [] op (yk mD) (λr=>(aF r).1=1/\0<ed (aF r).2.2):=by
 intro q r u fp w S lQ z zH H ax bp;obtain⟨cm,BU,En⟩:=hm;obtain⟨r6,RQ⟩:=lQ;have cf:=aP.up w S fp;have eN:=z.oF (aP.ep w S fp bp);have iS:=zH.mono (aP.ep w S fp bp);have ad:(aF r).1≠0:=U;have h6:=Left.next z.2.2 ad
 have gK:q.st w (bw (aP w S fp) fp) r.tail:=⟨eN.1,h6.2.1.trans eN.2.1,h6.1⟩;refine nm (nt:=37) S [.tmp 2] H ax func246 ?_;refine aA aa mY ?_;refine aL (iW q r op) mY ?_ ?_
 ·exact⟨⟨eN.out,ad⟩,aq,λ_ h=>h.elim⟩
 refine aA aa mY ?_;by_cases Z:dI r.tail er=true
 rotate_left
 ·have dO:dI r.tail er=false:=aC Z
  have aZ:yk mD r=.error (60,(aF r.tail).2.1):=by unfold yk lE;rw[ab Z]
  have ly:=awO (q:=q) (op:=op) dO;unfold er at ly;rw[aZ,pO];refine ae.fe (iW q r.tail op) bX (aJ (I mY ly)) ?_ ?_
  ·exact⟨⟨⟨_,rfl⟩,gK.out,cm⟩,aq,λ_ h=>h.elim⟩
  exact cC
 cases mD with
 |none=>
  have NO:=BU rfl;subst NO;have aZ:yk none r=.error (23,(aF r.tail).2.1):=by unfold yk lE;rw[al Z]
  have ly:=Xc (q:=q) Z;unfold er at ly;rw[aZ,pO];refine ae.fe (iW q r.tail 64) bX (aJ (I mY ly)) ?_ ?_
  ·exact⟨⟨⟨_,rfl⟩,gK.out⟩,aq,λ_ h=>h.elim⟩
  exact cC
 |some ex=>
  obtain⟨Hs,bJ,cb⟩:=En ex rfl;have aZ:yk (some ex) r=iy fG (.call (aF r).2.1 (aF r).2.2) (ql ex (ed (aF r).2.2).toNat 0 .nil r.tail.tail):=by unfold yk lE;rw[al Z]
  have ly:=Xd (q:=q) Z Hs;unfold er at ly;have Kc:=Left.next gK.2.2 (r4 Z)
  have ea:q.st w (bw (aP w S fp) fp) r.tail.tail:=⟨eN.1,Kc.2.1.trans gK.2.1,Kc.1⟩;rw[aZ];refine aL (iW q r.tail op) (I mY ly) ?_ ?_
  ·exact⟨⟨⟨_,rfl⟩,gK.out,cm⟩,aq,λ_ h=>h.elim⟩
  refine bk (iW q r op) mY ?_;have Xg:=Xf (aF r).2.2;obtain⟨N,db⟩:=l7 (show 0<=ed (aF r).2.2 by omega);rw[db,kR];rw[db]at Xg RQ;generalize dW:ql ex N 0 .nil r.tail.tail=R;refine ae.block ?_
  refine ae.q4 (λp:Xe=>⟨60,bK [(0,.is (.own 0 0)),(4,.is (.own 4 0)),(17,N),(18,p.k)],bA [(0,.cells 143 [(q.r5 p.r),(op+1:Nat)]),(4,.cells 219 [((aF r).2.1),.v (.string (aF r).2.2),.ak 5]),(5,.row 77 1 p.vs.length (p.vs.map .v))]⟩)
   Xe.W Xe.bs (λp=>q.st p.W (bw (aP w S fp) p.bs) p.r/\nX p.W (bw (aP w S fp) p.bs)/\h7 p.W (bw (aP w S fp) p.bs) false p.vs p.l/\(p.vs.length=p.k/\p.k+p.n=N)/\ql ex p.n p.k p.l p.r=R) (λp=>p.n) ⟨w,fp,[],.nil,r.tail.tail,0,N⟩ rfl rfl ?_ ⟨ea,iS,.nil,⟨rfl,lM N⟩,dW⟩ ?_
  ·exact b8 (λk=>if k=4 then .key 88 else if k=5 then .nil else .key k) (aT mY @gq db)
  rintro⟨cy,ck,vs,l,cR,k,n⟩ ⟨ji,EV,au,⟨awQ,Gm⟩,cu⟩ bD;simp only at ji EV au awQ Gm cu bD;dsimp only;have cT:=cf.ext bD;refine bk aa mY ?_;refine bC mY ?_ ?_<;>intro J
  ·have gN:k<N:=bt J
   clear J;obtain⟨n,rfl⟩:∃m,n=m+1:=⟨n-1,U⟩;rw[ql]at cu;have dM:=fK k;refine gJ aa mY ?_
   refine rb (λ_:Unit=>⟨80,bK [(0,.is (.own 0 0)),(4,.is (.own 4 0)),(17,N),(18,k)],bA [(0,.cells 143 [.v (q.r5 (if 0<k then cR.tail else cR)),(op+1:Nat)]),(4,.cells 219 [((aF r).2.1),.v (.string (aF r).2.2),.ak 5]),(5,.row 77 1 vs.length (vs.map .v))]⟩) (λ_=>cy) (λ_=>ck) (λ_=>0<k->dI cR mB=true) ?_ ?_
   ·skip;refine aR aa mY ?_ ?_<;>intro J
    ·have xP:0<k:=by
      simp at J;exact J
     cases u1:dI cR mB with
     |false=>
      rw[al ⟨xP,u1⟩]at cu;have hw:=Kb (q:=q) (op:=op+1) (oD := op+1) u1;unfold mB at hw;rw[<- cu];show ae prog cy ck _ _ _ _ _;have e7:iy fG (.call (aF r).2.1 (aF r).2.2) (.error (60,(aF cR).2.1))=.error (60,(aF cR).2.1):=rfl;rw[e7,pO]
      refine ae.gz (iW q cR (op+1)) bX (aJ (I mY hw)) ?_ ?_
      ·exact⟨⟨⟨_,rfl⟩,ji.out⟩,aq,λ_ h=>h.elim⟩
      exact cC
     |true=>
      have hw:=Ka (q:=q) (op:=op+1) (oD := op+1) u1;unfold mB at hw;refine wr (iW q cR (op+1)) (I mY hw) ?_ ?_
      ·exact⟨⟨⟨_,rfl⟩,ji.out⟩,aq,λ_ h=>h.elim⟩
      refine⟨(),λ_=>rfl,rfl,rfl,?_⟩;exact bh (I mY (Vw xP))
    ·have xP:¬0<k:=bt J
     refine a1 ?_;refine⟨(),λh=>absurd h xP,rfl,rfl,?_⟩;exact bh (I mY (Qo xP))
   rintro-u1 RR;have awR:¬(0<k/\dI cR mB=false):=λ⟨h,bu⟩=>by rw[u1 h]at bu;cases bu
   rw[ab awR]at cu;have EW:Left cR (if 0<k then cR.tail else cR) 0:=by
    split
    ·rename_i h;exact(Left.next ji.2.2 (r4 (u1 h))).xB U
    ·exact .refl ji.2.2
   generalize(if 0<k then cR.tail else cR)=cE at *;have tq:q.st cy (bw (aP w S fp) ck) cE:=⟨ji.1,EW.2.1.trans ji.2.1,EW.1⟩;cases bo:ex cE with
   |error e=>
    obtain⟨c,j⟩:=e;rw[bo]at cu;simp only at cu;have e7:iy fG (.call (aF r).2.1 (aF r).2.2) (.error (c,j))=.error (c,j):=rfl;rw[<- cu,e7,pO];refine ae.xC (Bo (aP w S fp) q cE (op+1) ex cb) bX (aJ (I mY bo)) rfl (by kernel_rfl) ?_ ?_
    ·exact⟨⟨⟨tq,EV⟩,aq,λ_ h=>h.elim⟩,by unfold maxLen;omega,U⟩
    exact cC
   |ok p=>
    obtain⟨y,sr⟩:=p;rw[bo]at cu;simp only at cu;have oB:=bJ _ EW.1 _ _ bo;refine ae.more ?_;refine iP (Bo (aP w S fp) q cE (op+1) ex cb) (I mY bo) ?_ ?_
    ·exact⟨⟨⟨tq,EV⟩,aq,(λ_ h=>h.elim),cT⟩,by unfold maxLen;omega,U⟩
    refine pw ?_;refine eZ.dt 671 (aJ mY) (bT.refl _ _) λe0 eu cs du e1=>?_
    obtain⟨v3,rfl,mR,mS⟩:=Bm e1;refine eZ.here ?_;refine kG ?_;refine bY aa (I mY dM) ?_;have em:List.map ag.v vs++[.v v3]=List.map ag.v (vs++[v3]):=by simp
    have el:(vs++[v3]).length=vs.length+1:=by simp
    refine⟨⟨e0,eu,vs++[v3],vF l y,sr,k+1,n⟩,⟨⟨(tq.oF du.cc).1,oB.2.1.trans tq.2.1,oB.1⟩,EV.mono du.cc,h7.Bp mR (au.mono du.cc) rfl,⟨by dsimp only;omega,by dsimp only;omega⟩,cu⟩,by dsimp only;omega,rfl,rfl,?_⟩;exact b8 (λk=>if k=5 then .key 680 else .key k) (b3 mY mS em el)
  ·have Ht:k=N:=bt J
   obtain rfl:n=0:=U;have kd:R=.ok (l,cR):=cu.symm;rw[kd];refine c6 ?_;cases me:dI cR fG with
   |false=>
    have e7:iy fG (.call (aF r).2.1 (aF r).2.2) (.ok (l,cR))=.error (60,(aF cR).2.1):=by unfold iy;dsimp only;rw[ab (by rw[me];simp)]
    have hw:=Kb (q:=q) (op:=op+1) (oD := op) me;unfold fG at hw;rw[e7,pO];refine ae.fe (iW q cR op) bX (aJ (I mY hw)) ?_ ?_
    ·exact⟨⟨⟨_,rfl⟩,ji.out,U⟩,aq,λ_ h=>h.elim⟩
    exact cC
   |true=>
    have e7:iy fG (.call (aF r).2.1 (aF r).2.2) (.ok (l,cR))=.ok (.call (aF r).2.1 (aF r).2.2 l,cR.tail):=by unfold iy;dsimp only;rw[al me]
    have hw:=Ka (q:=q) (op:=op+1) (oD := op) me;unfold fG at hw;rw[e7,uA];refine ae.rQ 5 (aJ (I mY @gr)) (λE=>by simp only[ba,den,gr];exact rfl) λcL c7 dx c2 cq rP sD=>?_
    have eO:=cT.ext cq;have uB:q.st cL (bw (aP w S fp) c7) cR:=ji.oF cq.cc;refine aL (iW q cR op) (I mY hw) ?_ ?_
    ·exact⟨⟨⟨_,rfl⟩,uB.out,U⟩,aq,λ_ h=>h.elim⟩
    refine aA aa mY ?_;refine bf mY ?_;have Kd:b0 cL (bw (aP w S fp) c7) dx vs:=rP.out λb Z=>⟨cT b Z.2,Z.1⟩
    exact Bn (.call (aF r).2.1 (aF r).2.2 dx c2 vs l Kd sD (au.mono cq.cc)) rfl ((aJ (I mY @bQ))) aq
section
variable (G:aY)(q:di)(r:List bH)(op:Nat)(sub:List bH->cW)(h:Xb 246 [] op sub (λr=>(aF r).1=1/\0<ed (aF r).2.2))
abbrev afn:Env prog:=a7 ((afl 246 [] op sub _ call246 h q r).spec G) aa
end
def gP:=(I (ch ez @w2 @yj @zG.eq_1 @J4.eq_1 @RM.eq_1 @RN.eq_1 @yg.eq_1) (ch @Bk.eq_1 @Hr.eq_1 @iI.eq_1 @Bj.eq_1 @CX.eq_1 @afl.eq_1 @uA @pO))
def afo(op:Nat)(mD:Option (List bH->cW))(hm:afm op mD):qJ 212 [] op (mC mD):=by
 intro q r u fp w S z zH H ax bp;have afp:=awP op mD hm;obtain⟨cm,BU,En⟩:=hm;have cf:=aP.up w S fp;have eN:=z.oF (aP.ep w S fp bp);have iS:=zH.mono (aP.ep w S fp bp);have zI:=eN.out;refine nm (nt:=88) S [.tmp 2] H ax func212 ?_;refine aA aa gP ?_;refine aL (iW q r op) gP ?_ ?_
 ·exact⟨aq,zI⟩
 refine ae.seq (ae.block ?_);refine aR aa gP ?_ ?_<;>intro J
 ·have ad:(aF r).1=2:=aC J
  have aZ:mC mD r=.ok (.text (aF r).2.1 (aF r).2.2,r.tail):=by unfold mC;rw[al ad]
  rw[aZ,uA];refine aL (iW q r op) gP ?_ ?_
  ·exact⟨⟨zI,U⟩,aq,λ_ h=>h.elim⟩
  refine aA aa gP ?_;refine bf gP ?_;exact Bn (.text (aF r).2.1 (aF r).2.2) rfl ((aJ (I gP @bQ))) aq
 have ek:¬(aF r).1=2:=aC J
 clear J;refine aR aa gP ?_ ?_<;>intro J
 ·have ad:(aF r).1=3:=aC J
  have aZ:mC mD r=.ok (.rx (aF r).2.1 (aF r).2.2,r.tail):=by unfold mC;rw[ab ek,al ad]
  rw[aZ,uA];refine aL (iW q r op) gP ?_ ?_
  ·exact⟨⟨zI,U⟩,aq,λ_ h=>h.elim⟩
  refine aA aa gP ?_;refine bf gP ?_;exact Bn (.rx (aF r).2.1 (aF r).2.2) rfl ((aJ (I gP @bQ))) aq
 have dE:¬(aF r).1=3:=aC J
 clear J;refine aR (iW q r op) gP ?_ ?_<;>intro J
 ·have ad:(aF r).1=1/\0<ed (aF r).2.2:=by
   simp at J;exact J
  have aZ:mC mD r=yk mD r:=by unfold mC yk;rw[ab ek,ab dE,al ad]
  rw[aZ];cases bo:yk mD r with
  |error e=>
   obtain⟨c,j⟩:=e;rw[pO];refine ae.fe (afn (aP w S fp) q r op (yk mD) afp) bX (aJ (I gP bo)) ?_ ?_
   ·exact⟨⟨ad,eN,iS⟩,aq,λ_ h=>h.elim⟩
   exact cC
  |ok p=>
   obtain⟨dw,eW⟩:=p;rw[uA];refine aL (afn (aP w S fp) q r op (yk mD) afp) (I gP bo) ?_ ?_
   ·exact⟨⟨ad,eN,iS⟩,aq,(λ_ h=>h.elim),cf⟩
   refine ae.dt 207 (aJ gP) (bT.refl _ _) λcy ck cs bD dR=>?_
   obtain⟨v0,rfl,qk,fI⟩:=Bm dR;refine bf (I gP fI) ?_;exact Bn qk rfl ((aJ (I gP @bQ))) aq
 have eY:¬((aF r).1=1/\0<ed (aF r).2.2):=by intro h;simp at J;have:=J h.1;omega
 clear J;refine aR (iW q r op) gP ?_ ?_<;>intro J
 ·have ad:(aF r).1=1/\ed (aF r).2.2=0:=by
   simp at J;exact J
  have aZ:mC mD r=.ok (.name (aF r).2.1 (aF r).2.2,r.tail):=by unfold mC;rw[ab ek,ab dE,ab eY,al ad]
  rw[aZ,uA];refine aL (iW q r op) gP ?_ ?_
  ·exact⟨⟨zI,U⟩,aq,λ_ h=>h.elim⟩
  refine aA aa gP ?_;refine bf gP ?_;exact Bn (.name (aF r).2.1 (aF r).2.2) rfl ((aJ (I gP @bQ))) aq
 have n3:¬((aF r).1=1/\ed (aF r).2.2=0):=by intro h;simp at J;exact J h.1 h.2
 clear J;refine aL (iW q r op) gP ?_ ?_
 ·exact⟨aq,⟨_,rfl⟩,zI⟩
 refine bC gP ?_ ?_<;>intro J
 ·have Z:dI r gx=true:=J;clear J;have aZ:mC mD r=lE mD r gx λex bG=>iy jD (.keyed (aF r).2.1) (ex bG):=by unfold mC;rw[ab ek,ab dE,ab eY,ab n3,al Z]
  rw[aZ];cases mD with
  |none=>
   have NO:=BU rfl;subst NO;have fm:lE none r gx (λex bG=>iy jD (.keyed (aF r).2.1) (ex bG))=.error (23,(aF r).2.1):=by unfold lE;rw[al Z]
   have ly:=Xc (q:=q) Z;unfold gx at ly;rw[fm,pO];refine ae.fe (iW q r 64) bX (aJ (I gP ly)) ?_ ?_
   ·exact⟨⟨⟨_,rfl⟩,zI⟩,aq,λ_ h=>h.elim⟩
   exact cC
  |some ex=>
   obtain⟨Hs,bJ,cb⟩:=En ex rfl;have fm:lE (some ex) r gx (λex bG=>iy jD (.keyed (aF r).2.1) (ex bG))=iy jD (.keyed (aF r).2.1) (ex r.tail):=by unfold lE;rw[al Z]
   have ly:=Xd (q:=q) Z Hs;unfold gx at ly;have h6:=Left.next z.2.2 (r4 Z)
   have gK:q.st w (bw (aP w S fp) fp) r.tail:=⟨eN.1,h6.2.1.trans eN.2.1,h6.1⟩;rw[fm];refine aL (iW q r op) (I gP ly) ?_ ?_
   ·exact⟨⟨⟨_,rfl⟩,zI,cm⟩,aq,λ_ h=>h.elim⟩
   cases bo:ex r.tail with
   |error e=>
    obtain⟨c,j⟩:=e;have e7:iy jD (.keyed (aF r).2.1) (.error (c,j))=.error (c,j):=rfl;rw[e7,pO];refine ae.fe (Bo (aP w S fp) q r.tail (op+1) ex cb) bX (aJ (I gP bo)) ?_ ?_
    ·exact⟨⟨gK,iS⟩,aq,λ_ h=>h.elim⟩
    exact cC
   |ok p=>
    obtain⟨dw,eW⟩:=p;have gi:=bJ _ h6.1 _ _ bo;refine aL (Bo (aP w S fp) q r.tail (op+1) ex cb) (I gP bo) ?_ ?_
    ·exact⟨⟨gK,iS⟩,aq,(λ_ h=>h.elim),cf⟩
    refine ae.dt 327 (aJ gP) (bT.refl _ _) λcy ck cs bD dR=>?_
    obtain⟨v0,rfl,qk,fI⟩:=Bm dR;have ea:q.st cy (bw (aP w S fp) ck) eW:=⟨(gK.oF bD.cc).1,gi.2.1.trans gK.2.1,gi.1⟩;cases me:dI eW jD with
    |false=>
     have e7:iy jD (.keyed (aF r).2.1) (.ok (dw,eW))=.error (60,(aF eW).2.1):=by unfold iy;dsimp only;rw[ab (by rw[me];simp)]
     have hw:=Kb (q:=q) (op:=op+1) (oD := op) me;unfold jD at hw;rw[e7,pO];refine ae.fe (iW q eW op) bX (aJ (I gP hw)) ?_ ?_
     ·exact⟨⟨⟨_,rfl⟩,ea.out,U⟩,aq,λ_ h=>h.elim⟩
     exact cC
    |true=>
     have e7:iy jD (.keyed (aF r).2.1) (.ok (dw,eW))=.ok (.keyed (aF r).2.1 dw,eW.tail):=by
      unfold iy;dsimp only;rw[al me]
      try rfl
     have hw:=Ka (q:=q) (op:=op+1) (oD := op) me;unfold jD at hw;rw[e7,uA];refine aL (iW q eW op) (I gP hw) ?_ ?_
     ·exact⟨⟨⟨_,rfl⟩,ea.out,U⟩,aq,λ_ h=>h.elim⟩
     refine aA aa (aT gP qk.parts fI) ?_;refine bf (I gP fI) ?_;exact Bn (.keyed _ _ _ qk) rfl ((aJ (I gP @bQ))) aq
 have n4:¬dI r gx=true:=by have:dI r gx=false:=J;rw[this];simp
 clear J;refine aL (iW q r op) gP ?_ ?_
 ·exact⟨aq,⟨_,rfl⟩,zI⟩
 refine bC gP ?_ ?_<;>intro J
 ·have Z:dI r er=true:=J;clear J;have aZ:mC mD r=lE mD r er λex bG=>iy fG id (ex bG):=by unfold mC;rw[ab ek,ab dE,ab eY,ab n3,ab n4,al Z]
  rw[aZ];cases mD with
  |none=>
   have NO:=BU rfl;subst NO;have fm:lE none r er (λex bG=>iy fG id (ex bG))=.error (23,(aF r).2.1):=by unfold lE;rw[al Z]
   have ly:=Xc (q:=q) Z;unfold er at ly;rw[fm,pO];refine ae.fe (iW q r 64) bX (aJ (I gP ly)) ?_ ?_
   ·exact⟨⟨⟨_,rfl⟩,zI⟩,aq,λ_ h=>h.elim⟩
   exact cC
  |some ex=>
   obtain⟨Hs,bJ,cb⟩:=En ex rfl;have fm:lE (some ex) r er (λex bG=>iy fG id (ex bG))=iy fG id (ex r.tail):=by unfold lE;rw[al Z]
   have ly:=Xd (q:=q) Z Hs;unfold er at ly;have h6:=Left.next z.2.2 (r4 Z)
   have gK:q.st w (bw (aP w S fp) fp) r.tail:=⟨eN.1,h6.2.1.trans eN.2.1,h6.1⟩;rw[fm];refine aL (iW q r op) (I gP ly) ?_ ?_
   ·exact⟨⟨⟨_,rfl⟩,zI,cm⟩,aq,λ_ h=>h.elim⟩
   cases bo:ex r.tail with
   |error e=>
    obtain⟨c,j⟩:=e;have e7:iy fG id (.error (c,j))=.error (c,j):=rfl;rw[e7,pO];refine ae.fe (Bo (aP w S fp) q r.tail (op+1) ex cb) bX (aJ (I gP bo)) ?_ ?_
    ·exact⟨⟨gK,iS⟩,aq,λ_ h=>h.elim⟩
    exact cC
   |ok p=>
    obtain⟨dw,eW⟩:=p;have gi:=bJ _ h6.1 _ _ bo;refine aL (Bo (aP w S fp) q r.tail (op+1) ex cb) (I gP bo) ?_ ?_
    ·exact⟨⟨gK,iS⟩,aq,(λ_ h=>h.elim),cf⟩
    refine ae.dt 351 (aJ gP) (bT.refl _ _) λcy ck cs bD dR=>?_
    obtain⟨v0,rfl,qk,fI⟩:=Bm dR;have ea:q.st cy (bw (aP w S fp) ck) eW:=⟨(gK.oF bD.cc).1,gi.2.1.trans gK.2.1,gi.1⟩;cases me:dI eW fG with
    |false=>
     have e7:iy fG id (.ok (dw,eW))=.error (60,(aF eW).2.1):=by unfold iy;dsimp only;rw[ab (by rw[me];simp)]
     have hw:=Kb (q:=q) (op:=op+1) (oD := op) me;unfold fG at hw;rw[e7,pO];refine ae.fe (iW q eW op) bX (aJ (I gP hw)) ?_ ?_
     ·exact⟨⟨⟨_,rfl⟩,ea.out,U⟩,aq,λ_ h=>h.elim⟩
     exact cC
    |true=>
     have e7:iy fG id (.ok (dw,eW))=.ok (dw,eW.tail):=by
      unfold iy;dsimp only;rw[al me]
      try rfl
     have hw:=Ka (q:=q) (op:=op+1) (oD := op) me;unfold fG at hw;rw[e7,uA];refine aL (iW q eW op) (I gP hw) ?_ ?_
     ·exact⟨⟨⟨_,rfl⟩,ea.out,U⟩,aq,λ_ h=>h.elim⟩
     refine aA aa (aT gP qk.parts fI) ?_;refine bf (I gP fI) ?_;exact Bn (qk) rfl ((aJ (I gP @bQ))) aq
 have JR:¬dI r er=true:=by have:dI r er=false:=J;rw[this];simp
 clear J;have aZ:mC mD r=.error (60,(aF r).2.1):=by unfold mC;rw[ab ek,ab dE,ab eY,ab n3,ab n4,ab JR]
 rw[aZ,pO];refine a1 ?_;refine ae.fe (iW q r op) bX (aJ gP) ?_ ?_
 ·exact⟨⟨⟨_,rfl⟩,zI⟩,aq,λ_ h=>h.elim⟩
 exact cC
def afq:∀m,m<=64->qJ 212 [] (64-m) (o2 m)
 |0,_=>afo 64 none ⟨eo _,λ_=>rfl,λex h=>by cases h⟩
 |m+1,h=>by refine afo (64-(m+1)) (some (uz (o2 m))) ⟨U,(λh=>by cases h),λex he=>?_⟩;cases he;refine⟨U,CW (J1 m) 5,?_⟩;rw[show 64-(m+1)+1=64-m by omega];exact afk (64-m) (o2 m) (J1 m) (afq m U)
def awS:qJ 115 [.int .i64 0] 0 (uz (o2 64)):=afk 0 (o2 64) (J1 64) (afq 64 (eo _))
inductive vG (W:ar) (S:aY):List Value->List (Nat×ByteArray×bO)->Prop where
 |nil:vG W S [] []
 |cons (a:Nat) (s:ao) (v:aM) (x:bO) (vs:aX) (az:List (Nat×ByteArray×bO)):o4 W S v x->vG W S vs az->vG W S (.int .i64 (a:Nat)::.string s::v::vs) ((a,s,x)::az)
theorem vG.mono{W aO:World}{S bz:Nat->Prop}{vs:aX}{az:List (Nat×ByteArray×bO)}(h:vG W S vs az)(V:bT W S aO bz):vG aO bz vs az:=by
 induction h with
 |nil=>exact .nil
 |cons a s v x vs az D _ bb=>exact .cons a s v x vs az (D.mono V) bb
def vG.snoc{W:ar}{S:aY}{vs:aX}{az:List (Nat×ByteArray×bO)}(h:vG W S vs az){a:Nat}{s:ao}{v:aM}{x:bO}(aB:o4 W S v x):vG W S (vs++[.int .i64 (a:Nat),.string s,v]) (az++[(a,s,x)]):=by
 induction h with
 |nil=>exact .cons _ _ _ _ _ _ aB .nil
 |cons cn hf eT sZ AL aEl D _ bb=>exact .cons _ _ _ _ _ _ D bb
theorem vG.len{S:aY}{vs:aX}{az:List (Nat×ByteArray×bO)}(h:vG W S vs az):vs.length=az.length*3:=by
 induction h with
 |nil=>rfl
 |cons a s v x vs az _ _ bb=>simp only[l9,bb];omega
def Bq(W:ar)(S:aY)(v:aM)(p:pN):Prop:=∃(b:Nat) (ay:dj) (c:Nat) (vs:aX) (u:aM),v=.pointer (some ⟨b,0,none⟩)/\gd W S b 0 (.slice ay p.1.length c)/\gd W S b 1 u/\(b0 W S ay vs/\vG W S vs p.1/\p.1.length<=c)/\o4 W S u p.2
theorem Bq.mono{W aO:World}{S bz:Nat->Prop}{v:aM}{p:pN}(h:Bq W S v p)(V:bT W S aO bz):Bq aO bz v p:=by obtain⟨b,ay,c,vs,u,D,O,B,⟨aU,bn,cA⟩,c1⟩:=h;exact⟨b,ay,c,vs,u,D,O.mono V,B.mono V,⟨aU.mono V,bn.mono V,cA⟩,c1.mono V⟩
def Bq.au{S:aY}{v:aM}{p:pN}(h:Bq W S v p):au v=v:=by obtain⟨b,ay,c,vs,u,rfl,_⟩:=h;rfl
def afr(p:pN):lr:=⟨λcs W S=>∃v,cs=[v]/\Bq W S v p,λV ⟨v,D,O⟩=>⟨v,D,O.mono V⟩⟩
def RS(q:di)(op:Nat):Except (Int×Nat) (pN×List bH)->j7
 |.ok (x,r)=>.fact b5.one (afr x) ((iI q r op).map .eg)
 |.error (c,a)=>.b7 (jy c (a:Nat)) (.pointer none)
theorem afs(q:di)(op:Nat)(x:pN)(r:List bH):RS q op (.ok (x,r))=.fact b5.one (afr x) ((iI q r op).map .eg):=rfl
theorem Hu(q:di)(op:Nat)(c:Int)(a:Nat):RS q op (.error (c,a))=.b7 (jy c (a:Nat)) (.pointer none):=rfl
structure Xh where
 W:World
 bs:List Nat
 vs:List Value
 az:List (Nat×ByteArray×bO)
 r:List bH
 n:Nat
def mE:=(I (ch ez @w2 @yj @zG.eq_1 @J4.eq_1 @RM.eq_1 @RN.eq_1 @yg.eq_1) (hV @Bk.eq_1 @Hr.eq_1 @iI.eq_1 @Bj.eq_1 @CX.eq_1 @uA @pO))
def awT(op:Nat)(ex:List bH->cW)(bJ:o3 ex 1)(cb:qJ 115 [.int .i64 0] op ex)(q:di)(r:List bH)(u:aM)(fp:aD)(w:ar)(S:aY)(z:q.st w S r)(zH:nX w S)(H:eH w u fp 143 (iI q r op))(ax:∀b∈fp,b<w.heap.size)(bp:∀b∈fp,¬S b) :
  Calls prog 68 (#[u]++#[]) w λe M=>sx w S u fp 143 e M (RS q op (r3 ex r.length [] r)):=by
 have cf:=aP.up w S fp;have eN:=z.oF (aP.ep w S fp bp);have iS:=zH.mono (aP.ep w S fp bp);have aEm:=eN.1.2.2;generalize dW:r3 ex r.length [] r=R;refine nm (nt:=66) S [.tmp 2] H ax func68 ?_;refine gJ aa mE ?_
 refine ae.q4 (λp:Xh=>⟨20,bK [(0,.is (.own 0 0)),(3,.is (.own 4 0))],bA [(0,.cells 143 [(q.r5 p.r),op]),(4,.cells 79 [.ak 5,.v .nilIface]),(5,.row 134 3 p.az.length (p.vs.map .v))]⟩)
  Xh.W Xh.bs (λp=>q.st p.W (bw (aP w S fp) p.bs) p.r/\nX p.W (bw (aP w S fp) p.bs)/\vG p.W (bw (aP w S fp) p.bs) p.vs p.az/\(p.r.length<=p.n/\p.az.length+p.r.length<=q.L.length)/\r3 ex p.n p.az p.r=R) (λp=>p.n) ⟨w,fp,[],[],r,r.length⟩ rfl rfl ?_ ⟨eN,iS,.nil,⟨eo _,by have:=eN.2.1.length_le;simpa using this⟩,dW⟩ ?_
 ·exact b8 (λk=>if k=4 then .key 24 else if k=5 then .nil else .key k) mE
 rintro⟨cy,ck,vs,az,cR,n⟩ ⟨gK,s1,ak,⟨aE,aft⟩,cu⟩ bD;simp only at gK s1 ak aE aft cu bD;dsimp only;have cT:=cf.ext bD;have kS:=gK.2.2.pos;have hle:=gK.2.1.length_le;have akz:=ak.len;obtain⟨n,rfl⟩:∃m,n=m+1:=⟨n-1,U⟩;rw[r3]at cu;refine ae.seq ?_;refine aL (iW q cR op) mE ?_ ?_
 ·exact⟨⟨aq,gK.out⟩,λ_=>⟨aq,gK.out⟩⟩
 refine bC mE ?_ ?_<;>intro J
 ·have aN:(aF cR).1=1/\(aF cR).2.2=ET:=by
   simp at J;exact J
  clear J;rw[al aN]at cu;have ad:(aF cR).1≠0:=U;have h6:=Left.next gK.2.2 ad
  have ea:q.st cy (bw (aP w S fp) ck) cR.tail:=⟨gK.1,h6.2.1.trans gK.2.1,h6.1⟩;refine a1 ?_;refine ae.block ?_;refine aL (iW q cR op) mE ?_ ?_
  ·exact⟨⟨gK.out,ad⟩,aq,λ_ h=>h.elim⟩
  refine aL (iW q cR.tail op) mE ?_ ?_
  ·exact⟨aq,ea.out⟩
  refine ae.seq ?_;refine aR (iW q cR.tail op) mE ?_ ?_<;>intro J
  ·have Z:¬(aF cR.tail).1=1\/¬ed (aF cR.tail).2.2=0:=by
    simp at J;exact J
   rw[al Z]at cu;rw[<- cu,Hu];refine ae.gz (iW q cR.tail op) bX (aJ mE) ?_ ?_
   ·exact⟨⟨⟨_,rfl⟩,ea.out⟩,aq,λ_ h=>h.elim⟩
   exact cC
  have Z:¬(¬(aF cR.tail).1=1\/¬ed (aF cR.tail).2.2=0):=by
   intro h;simp at J;rcases h with h|h
   ·exact h J.1
   ·exact h J.2
  clear J;rw[ab Z]at cu;have sE:(aF cR.tail).1≠0:=λh=>Z (.inl U)
  have Kc:=Left.next ea.2.2 sE
  have ji:q.st cy (bw (aP w S fp) ck) cR.tail.tail:=⟨gK.1,Kc.2.1.trans ea.2.1,Kc.1⟩;refine a1 ?_;refine aL (iW q cR.tail op) mE ?_ ?_
  ·exact⟨⟨ea.out,sE⟩,aq,λ_ h=>h.elim⟩
  cases NP:dI cR.tail.tail ru with
  |false=>
   rw[al NP]at cu;have hw:=Kb (q:=q) (op:=op) (oD := op) NP;unfold ru at hw;rw[<- cu,Hu];refine ae.fe (iW q cR.tail.tail op) bX (aJ (I mE hw)) ?_ ?_
   ·exact⟨⟨⟨_,rfl⟩,ji.out⟩,aq,λ_ h=>h.elim⟩
   exact cC
  |true=>
   rw[ab (by rw[NP];simp)]at cu;have hw:=Ka (q:=q) (op:=op) (oD := op) NP;unfold ru at hw;have EW:=Left.next ji.2.2 (r4 NP)
   have tq:q.st cy (bw (aP w S fp) ck) cR.tail.tail.tail:=⟨gK.1,EW.2.1.trans ji.2.1,EW.1⟩;refine aL (iW q cR.tail.tail op) (I mE hw) ?_ ?_
   ·exact⟨⟨⟨_,rfl⟩,ji.out⟩,aq,λ_ h=>h.elim⟩
   cases bo:ex cR.tail.tail.tail with
   |error e=>
    obtain⟨c,j⟩:=e;rw[bo]at cu;simp only at cu;rw[<- cu,Hu];refine ae.PN (Bo (aP w S fp) q cR.tail.tail.tail op ex cb) bX (aJ (I mE bo)) rfl (by kernel_rfl) ?_ ?_
    ·exact⟨⟨⟨tq,s1⟩,aq,λ_ h=>h.elim⟩,by unfold maxLen;omega,U⟩
    exact cC
   |ok p=>
    obtain⟨y,cE⟩:=p;rw[bo]at cu;simp only at cu;have oB:=bJ _ EW.1 _ _ bo;refine dh (Bo (aP w S fp) q cR.tail.tail.tail op ex cb) (I mE bo) ?_ ?_
    ·exact⟨⟨⟨tq,s1⟩,aq,(λ_ h=>h.elim),cT⟩,by unfold maxLen;omega,U⟩
    refine ae.dt 479 (aJ mE) (bT.refl _ _) λcL c7 cs cq dR=>?_
    obtain⟨v0,rfl,qk,fI⟩:=Bm dR;have uB:q.st cL (bw (aP w S fp) c7) cE:=⟨(tq.oF cq.cc).1,oB.2.1.trans tq.2.1,oB.1⟩;cases oh:dI cE tz with
    |false=>
     rw[al oh]at cu;have x7:=Kb (q:=q) (op:=op) (oD := op) oh;unfold tz at x7;rw[<- cu,Hu];refine ae.gz (iW q cE op) bX (aJ (I mE x7)) ?_ ?_
     ·exact⟨⟨⟨_,rfl⟩,uB.out⟩,aq,λ_ h=>h.elim⟩
     exact cC
    |true=>
     rw[ab (by rw[oh];simp)]at cu;have x7:=Ka (q:=q) (op:=op) (oD := op) oh;unfold tz at x7;have Xi:=Left.next uB.2.2 (r4 oh)
     have awU:q.st cL (bw (aP w S fp) c7) cE.tail:=⟨uB.1,Xi.2.1.trans uB.2.1,Xi.1⟩;refine wr (iW q cE op) (I mE x7) ?_ ?_
     ·exact⟨⟨⟨_,rfl⟩,uB.out⟩,aq,λ_ h=>h.elim⟩
     have em:List.map ag.v vs++[.v (.int .i64 ((aF cR.tail).2.1:Nat)),.v (.string (aF cR.tail).2.2),.v v0]=List.map ag.v (vs++[.int .i64 ((aF cR.tail).2.1:Nat),.string (aF cR.tail).2.2,v0]):=by simp
     have el:(az++[((aF cR.tail).2.1,(aF cR.tail).2.2,y)]).length=az.length+1:=by simp
     have mP:=h6.2.2;have lT:=Kc.2.2;have xL:=EW.2.2;have Qa:=oB.2.2;have Va:=Xi.2.2
     refine⟨⟨cL,c7,vs++[.int .i64 ((aF cR.tail).2.1:Nat),.string (aF cR.tail).2.2,v0],az++[((aF cR.tail).2.1,(aF cR.tail).2.2,y)],cE.tail,n⟩,⟨awU,s1.mono cq.cc,(ak.mono cq.cc).snoc qk,⟨by dsimp only;omega,by dsimp only;rw[el];omega⟩,cu⟩,by dsimp only;omega,rfl,rfl,?_⟩
     exact b8 (λk=>if k=5 then .key 496 else .key k) (b3 mE fI em el)
 have aN:¬((aF cR).1=1/\(aF cR).2.2=ET):=by intro h;simp at J;exact J h.1 h.2
 clear J;rw[ab aN]at cu;refine c6 ?_;cases bo:ex cR with
 |error e=>
  obtain⟨c,j⟩:=e;rw[bo]at cu;simp only at cu;rw[<- cu,Hu];refine ae.fe (Bo (aP w S fp) q cR op ex cb) bX (aJ (I mE bo)) ?_ ?_
  ·exact⟨⟨gK,s1⟩,aq,λ_ h=>h.elim⟩
  exact cC
 |ok p=>
  obtain⟨y,cE⟩:=p;rw[bo]at cu;simp only at cu;have oB:=bJ _ gK.2.2 _ _ bo;refine aL (Bo (aP w S fp) q cR op ex cb) (I mE bo) ?_ ?_
  ·exact⟨⟨gK,s1⟩,aq,(λ_ h=>h.elim),cT⟩
  refine ae.dt 263 (aJ mE) (bT.refl _ _) λcL c7 cs cq dR=>?_
  obtain⟨v0,rfl,qk,fI⟩:=Bm dR;have uB:q.st cL (bw (aP w S fp) c7) cE:=⟨(gK.oF cq.cc).1,oB.2.1.trans gK.2.1,oB.1⟩;refine ae.seq ?_;refine aL (iW q cE op) mE ?_ ?_
  ·exact⟨aq,uB.out⟩
  refine bC mE ?_ ?_<;>intro J
  ·have bx:¬(aF cE).1=0:=aC J
   rw[ab bx]at cu;rw[<- cu,Hu];refine ae.gz (iW q cE op) bX (aJ mE) ?_ ?_
   ·exact⟨⟨⟨_,rfl⟩,uB.out⟩,aq,λ_ h=>h.elim⟩
   exact cC
  have bx:(aF cE).1=0:=aC J
  rw[al bx]at cu;rw[<- cu,afs];refine a1 ?_;have eO:=cT.ext cq;refine ae.rQ 5 (aJ (aT mE @gr fI)) (λE=>by simp only[ba,den,gr,fI];exact rfl) λe0 eu Xj c3 du RT awV=>?_
  have tk:=eO.ext du;refine ae.jt 4 (aJ (I mE fI)) (λE=>by simp only[ba,den,fI];exact rfl) λGN GO nR xX GK MI zj=>?_
  refine aA aa mE ?_;refine bf mE ?_;have awW:=cq.trans (du.trans xX);have NQ:b0 GN (bw (aP w S fp) GO) Xj vs:=(RT.out λb Z=>⟨eO b Z.2,Z.1⟩).mono xX.cc;have dw:gd GN (bw (aP w S fp) GO) nR 0 (.slice Xj az.length c3):=⟨⟨tk nR MI,GK⟩,cell_of zj 0 bq⟩
  have ee:gd GN (bw (aP w S fp) GO) nR 1 v0:=⟨⟨tk nR MI,GK⟩,cell_of zj 1 bq⟩;refine⟨[_],⟨λE=>rfl,.inl bq,_,rfl,nR,Xj,c3,vs,v0,rfl,dw,ee,⟨NQ,ak.mono awW.cc,awV⟩,qk.mono (du.trans xX).cc⟩,_,_,rfl,(aJ (I mE @bQ)),aq⟩
def afu{P:bR}{fn:Func}{nt:Nat}{f:dr}{c:Code}{args:hE}{out:ud}(S:aY)(aW:P.funcs[f]?=some fn)(Z:fn.body=some c)(jM:args.size+(fn.ntmps-args.size)=nt)
  (h:kW P fn nt [] (λaO bl x _=>Mc w S aO bl x out) (λc _=>∃v,out=.b7 c v) w [] c (qw args.toList)):Calls P f args w λe M=>oO w S e M out:=by
 refine(acu aW Z (LV args jM) h).mono λe M he=>?_
 cases e with
 |returned u=>
  obtain⟨aO,bl,E,F,x,h,aB,bW,rfl,V,_⟩:=he;cases out with
  |val v=>exact⟨by rw[bW E],aB.ir V.keeps⟩
  |fact eE Φ=>obtain⟨cs,ak,dR⟩:=bW;exact⟨cs,by rw[ak E],Φ.mono (λb Z aI=>⟨V.keeps.block b Z aI.2,aI.1⟩) dR,aB.ir V.keeps⟩
  |b7 c v=>exact bW.elim
 |panicked c=>obtain⟨aO,bl,E,F,bu,aB,⟨v,rfl⟩,V,_⟩:=he;exact⟨rfl,aB.ir V.keeps⟩
 |outgrown=>exact he.elim
def afv(s:ao):∀(n i:Nat) (l:List bH),i<=s.size->l.length<=i->(o0 s n i l).1.length<=s.size+1
 |0,i,l,hi,aN=>by show(l++[_]).length<=_;rw[ec,sX];omega
 |n+1,i,l,hi,aN=>by
  rw[o0];split
  ·rename_i ax;split
   ·rename_i A;have D:=WV ax A;have O:=JX D.2;exact afv s n _ _ O.2 (by rw[ec,sX];omega)
   ·exact ef _
  ·show(l++[_]).length<=_;rw[ec,sX];omega
def RU(s:ao):(cZ s).1.length<=4097:=by
 unfold cZ;split
 ·exact ef _
 ·have:=afv s s.size (nW s 0) [] (JX (ef _)).2 (ef _);omega
def afw(s:ao):∀(n i:Nat) (l:List bH),(o0 s n i l).2.1=0->(o0 s n i l).2.2=0
 |0,i,l,h=>rfl
 |n+1,i,l,h=>by
  rw[o0]at h ⊢;split
  ·rename_i hi;rw[al hi]at h;split
   ·rename_i A;rw[al A]at h;exact afw s n _ _ h
   ·rename_i A;rw[ab A]at h;exact absurd h A
  ·rfl
def awX{s:ao}(h:(cZ s).2.1=0):(cZ s).2.2=0:=by
 unfold cZ at h ⊢;split
 ·rfl
 ·rename_i aU;rw[ab aU]at h;exact afw s _ _ _ h
def b5.Hv:b5:=⟨λk=>.iK [.part k 0,.agg [.part k 1,.part k 2,.part k 3]],λ_ _=>rfl,λk j Y=>by simpa [ag.keys,cP] using Y⟩
def Xk{v:aM}(h:au v=v):b5.Hv.val [v,.int .i64 0,.int .i64 0,.string ⟨#[]⟩]=.tuple #[v,ix 0 0 ⟨#[]⟩]:=by show Value.tuple #[au v,.agg #[.int .i64 0,.int .i64 0,.string ⟨#[]⟩]]=_;rw[h];rfl
def afx(p:pN):lr:=⟨λcs W S=>∃v,cs=[v,.int .i64 0,.int .i64 0,.string ⟨#[]⟩]/\Bq W S v p,λV ⟨v,D,O⟩=>⟨v,D,O.mono V⟩⟩
def Xl:Except (Int×Nat) pN->ud
 |.ok p=>.fact b5.Hv (afx p)
 |.error (c,a)=>.val (.tuple #[.pointer none,ix c (a:Nat) ⟨#[]⟩])
theorem afy(p:pN):Xl (.ok p)=.fact b5.Hv (afx p):=rfl
theorem Xm(c:Int)(a:Nat):Xl (.error (c,a))=.val (.tuple #[.pointer none,ix c (a:Nat) ⟨#[]⟩]):=rfl
abbrev Xn (q:di)(r:List bH):y2 prog 68 where
 T:=143
 kinds:=[]
 pre:=λfs k5 W S=>(fs=iI q r 0/\k5=[])/\q.st W S r/\nX W S
 gA:=λfs k5 W S aO bz V ⟨D,O,B⟩=>⟨D,O.oF V,B.mono V⟩
 out:=λ_ _=>RS q 0 (r3 (uz (o2 64)) r.length [] r)
 enters:=call68
 ok:=by
  intro w S u fp us fs k5 H ax bp hu hp;obtain⟨⟨rfl,rfl⟩,D,O⟩:=hp
  match us,hu with
  |[],_=>exact awT 0 _ (CW (J1 64) 5) awS q r u fp w S D O H ax bp
section
variable (s:ao)(G:aY)(q:di)(r:List bH)
def Ke:Env prog:=⟨λ| 66=>some ((W3 s).spec [])|_=>none,λ| 39=>some tm|_=>none,λ_ _=>none⟩
def Xo:Env prog:=⟨λ| 68=>some ((Xn q r).spec G)|_=>none,λ| 39=>some tm|_=>none,λ_ _=>none⟩
theorem awY:(Ke s).sp 66=some ((W3 s).spec []):=rfl
theorem awZ:(Ke s).eqs 39=some tm:=rfl
theorem aw0:(Xo G q r).sp 68=some ((Xn q r).spec G):=rfl
end
def o5:=(eI (ch ez @apL @Ef.eq_1 @mM.eq_1 @mM.eq_2 @gU.eq_1 @gU.eq_2 @gU.eq_3) (ch @gU.eq_4 @gU.eq_5 @gU.eq_6 @gU.eq_7 @gU.eq_8 @xN.eq_1 @xN.eq_2 @pz.eq_1) (ch @pz.eq_2 @tg.eq_1 @tg.eq_2 @lR.eq_1 @lR.eq_2 @lR.eq_3 @lR.eq_4 @ml.eq_1) (ch @mp.eq_1 @PZ @Ve @Vf @M5 @awY @awZ @aw0) (ch @W3.eq_1 @Xn.eq_1 @afs @Hu @Bi.eq_1 @q5.eq_1 @ix.eq_1 @Gr.eq_1) (de @Cq.eq_1 @ug.eq_1 @ug.eq_2 @y7.eq_1 @y7.eq_2))
def aw1:Ec prog 67 where
 bc:=[72,39]
 enters:=call67
 pre:=λdG pv=>(∃a f g h,dG=[[a],[f,g,h]])/\∃c i t,pv=.iface 39 (ix c i t)
 out:=λdG pv=>[[.pointer none],match pv with|.iface _ (.agg x)=>x.toList|_=>[]]
 df:=λdG pv=>[.pointer none,match pv with|.iface _ x=>x|_=>undef]
 Mj:=by rintro dG pv ⟨_,c,i,t,rfl⟩;refine⟨.inr ⟨(kX o5),rfl⟩,.inl ⟨(kX o5),(kX o5),rfl⟩,trivial⟩
 quiet:=λw us aN=>by
  match us,aN with
  |[cf,cT],_=>
   refine Qi (nt:=8) w _ func67 rfl rfl U U rfl ?_;refine dL aa o5 ?_
   simp only[wz,Op.operands,Value.cells,qw,nN,Nat.reduceEqDiff,Nat.reduceAdd,Nat.reduceMul,Nat.reduceLT,Nat.reduceLeDiff,Nat.reduceBEq,kT,Int.reduceToNat,Int.reduceLT,Int.reduceLE,Nat.reduceDiv,Nat.reduceMod,Nat.reduceSub,Int.reducePow,Nat.reducePow,Gc,Gd,nn.eq_2,nn.eq_3,o5]
   done
 Mk:=λw us fr dG pv aN aE ax hp=>by
  obtain⟨⟨a,f,g,h,rfl⟩,k,i,t,rfl⟩:=hp;have B:=aN.len.1;refine Qk (nt:=8) func67 rfl rfl U U ?_ aN aE ax ?_ ?_
  ·rw[B];rfl
  ·rw[B];decide
  intro us _;refine bk aa o5 ?_;skip;refine AM aa (I o5 @ix.eq_1) ?_;refine jQ o5 ?_;exact⟨rfl,rfl,trivial⟩
def aw2(s:ao)(w:ar)(S:aY)(V:s.size<=9223372036854775807)(aK:nX w S) :
  Calls prog 28 #[s] w λe M=>oO w S e M (Xl (rv s)):=by
 have cf:=b1.up w S;have iS:=aK.mono (b1.ep w S);have hlen:=RU s;refine afu (nt:=22) S func28 rfl rfl ?_;refine kW.seq' (rs:=[.cell 2 72,.cell 3 39]) rfl ?_;refine bY aa o5 ?_;refine kW.seq' (rs:=[.cell 2 72,.cell 3 39]) rfl ?_;by_cases A:(cZ s).2.1=0
 rotate_left
 ·have he:rv s=.error ((cZ s).2.1,(cZ s).2.2):=by rw[rv,ab A]
  have RV:decide ((cZ s).2.1=0)=false:=yJ A;rw[he,Xm];refine wr (Ke s) o5 ?_ ?_
  ·exact⟨aq,V⟩
  refine kW.seq' (rs:=[.cell 2 72,.cell 3 39]) rfl ?_;refine aA (Ke s) (I o5 RV) ?_;refine fu (Γ:=aa) trivial o5 ?_;skip;refine hs aa o5 ?_;exact bE o5
 ·have aZ:=W5 A;have bx:=awX A;have he:rv s=match r3 (uz (o2 64)) (cZ s).1.length [] (cZ s).1 with
    |.error e=>.error e
    |.ok (p,_)=>.ok p:=by rw[rv,al A];all_goals rfl
  rw[he];generalize gi:(cZ s).1=L at *;refine wr (Ke s) (de o5 A bx gi @gq) ?_ ?_
  ·exact⟨aq,V⟩
  refine kW.seq' (rs:=[.cell 2 72,.cell 3 39]) rfl ?_;refine ae.rQ 24 (aJ (I o5 @gr)) (λE=>by simp only[ba,den,gr];exact rfl) λcy ck ay c bD e7 zJ=>?_
  have cT:=cf.ext bD;have sI:b0 cy (bw (b1 w S) ck) ay (iH L):=e7.out λb Z=>⟨cf b Z.2,Z.1⟩
  obtain⟨b,o,rfl⟩:∃b o,ay=some ⟨b,o,none⟩:=by
   rcases sI with h|⟨b,o,rfl,_⟩
   ·have:=ER L;rw[h]at this;have:=aZ.pos;simp at *;omega
   ·exact⟨b,o,rfl⟩
  have z:(di.mk b o c L).st cy (bw (b1 w S) ck) L:=⟨⟨sI,zJ,by dsimp only;omega⟩,FB _,aZ⟩;have CM:(di.mk b o c L).r5 L=.slice (some ⟨b,o,none⟩) L.length c:=by unfold di.r5 di.at;simp
  refine dL (Ke s) o5 ?_;refine kW.Ql (rs:=[.cell 2 72,.cell 3 39]) rfl aw1 [2,3] [0,8] rfl aq rfl aq rfl rfl ?_ ?_ λus DO=>?_
  ·rintro p hp;simp only[Ih,Ii,gG,tS,uX]at hp;rcases hp with rfl|rfl<;>rfl
  ·rintro k ad;simp only[gG,tS,uX]at ad;rcases ad with rfl|rfl<;>exact⟨_,_,rfl⟩
  refine aA aa o5 ?_
  match us,DO with
  |[adz,adA],_=>
  have s1:=iS.mono bD.cc;have afz:[br.val (.slice (some ⟨b,o,none⟩) L.length c),br.val (.int .i64 0)]=iI (di.mk b o c L) L 0:=by unfold iI;rw[CM];rfl
  cases bo:r3 (uz (o2 64)) L.length [] L with
  |error e=>
   obtain⟨e,j⟩:=e;simp only;rw[Xm];refine ae.fe (Xo (b1 w S) (di.mk b o c L) L) bX (aJ (I o5 bo)) ?_ ?_
   ·exact⟨⟨afz,z,s1⟩,aq,λ_ h=>h.elim⟩
   refine kG ?_;refine jQ (I o5 @nn.eq_3) ?_;refine⟨.iface 39 (ix e j ⟨#[]⟩),[[.pointer none],[.int .i64 0,.int .i64 0,.string ⟨#[]⟩]],rfl,⟨?_,?_,?_,?_,trivial⟩,⟨⟨_,_,_,_,rfl⟩,e,j,⟨#[]⟩,rfl⟩,λE=>rfl⟩
   all_goals rfl
  |ok p=>
   obtain⟨p,cE⟩:=p;simp only;rw[afy];refine aL (Xo (b1 w S) (di.mk b o c L) L) (aT o5 bo @iI.eq_1) ?_ ?_
   ·exact⟨⟨afz,z,s1⟩,aq,(λ_ h=>h.elim),cT⟩
   refine ae.dt 159 (aJ o5) (bT.refl _ _) λcL c7 cs cq dR=>?_
   obtain⟨v,rfl,au⟩:=dR;have Ao:LE.au v=v:=au.au;refine bf (aT o5 @nn.eq_2 Ao) ?_;exact⟨[v,.int .i64 0,.int .i64 0,.string ⟨#[]⟩],λE=>(Xk Ao).symm,v,rfl,au⟩
abbrev Xp (s:ao):py prog 28:=Jg (λW S=>s.size<=9223372036854775807/\nX W S) (λ_ _ _ _ V h=>⟨h.1,h.2.mono V⟩) call28 λw S hp=>aw2 s w S hp.1 hp.2
section
variable (p:ao)(O:p.size<=2)(v:Nat)(au:WO p=some (v:Int))
end
def Kf(W:ar)(S:aY):Prop:=(Hh W S/\gl W S)/\wX W S/\Hm W S
theorem Kf.mono{W aO:World}{S bz:Nat->Prop}(h:Kf W S)(V:bT W S aO bz):Kf aO bz := ⟨⟨h.1.1.mono V,h.1.2.mono V⟩,h.2.1.mono V,h.2.2.mono V⟩
def Kf.km(h:Kf W (Out bs))(ad:LE.cr W bs w)(hm:∀b∈fp,W.heap.size<=b\/b∈bs):Kf w (Out fp):=h.mono λb Z V=>⟨ad.block b Z V,λdO=>(hm b dO).elim (λg=>absurd g (rG.2 Z)) V⟩
def Xq:cV prog 38 where
 pre:=λW bs aj=>∃s,aj=[.val (.string s)]/\s.size<=16777216
 res:=λ_ aj=>match aj with
  |[.val (.string s)]=>.string (e9 s)
  |_=>undef
 enters:=call38
 ok:=by
  intro W w bs us aj ad hu hp;obtain⟨s,rfl,D⟩:=hp
  match us,hu with
  |[x],hu=>obtain⟨rfl,_⟩:=hu;exact ats s D w
def aw3(W:ar)(bs:aD)(s:ao):Xq.pre W bs [.val (.string s)]=(s.size<=16777216):=
 propext ⟨λ⟨hf,h,O⟩=>by
  cases h
  exact O,λh=>⟨s,rfl,h⟩⟩
theorem aw4(W:ar)(s:ao):Xq.res W [.val (.string s)]=.string (e9 s):=rfl
section
variable (p:ao)(O:p.size<=2)(v:Nat)(au:WO p=some (v:Int))(aE:WO p=none)(aJ:aM)
end
end
end Go.Proofs.YtnemkecffmdlnaaGreatDoor
namespace Go.LE
section
open Go.RowKit
section
variable {P:bR}(Γ:Env P){W:ar}{bs:aD}{κ:Nat}{h:ca}
end
section
variable {P:bR}{W:ar}{bs:aD}{κ:Nat}{h:ca}
theorem afA:IB κ []=⟨True,.ak (8*κ),[(8*κ,some (.mp [] []))],none,[],[]⟩:=rfl
theorem afB :
  (∀(T:a6) (r:Option Operand),kF (.makeMap T r)=false) /\
  (∀(T:a6) (x y:Operand) (ok:Bool),kF (.lookup T x y ok)=false) /\
  (∀(T:a6) (x y aE7:Operand),kF (.mapUpdate T x y aE7)=false) /\
  (∀(T:a6) (x y aE7:Operand),kF (.insert T x y aE7)=false):=by
 grind [kF]
theorem afC(T:a6):(Op.makeMap T none).operands=#[]:=rfl
theorem afD(T:a6)(x y:Operand)(ok:Bool):(Op.lookup T x y ok).operands=#[x,y]:=rfl
theorem aw5(T:a6)(x y aE7:Operand):(Op.mapUpdate T x y aE7).operands=#[x,y,aE7]:=rfl
theorem afE(T:a6)(x y aE7:Operand):(Op.insert T x y aE7).operands=#[x,y,aE7]:=rfl
end
theorem afF{K:Nat}{cs:aX}(h:∀c∈cs,au c=c):nk K (nj cs) (AJ K cs.length)=cs.map .v:=by
 have e:∀l:List Nat,nk K (nj cs) (l.map (.part K))=(l.map (λi=>au (cs.getD i .nilIface))).map .v:=λl=>by
  induction l with
  |nil=>rfl
  |cons i r bb=>simp[nk,kV,UR,bb]
 grind [ab1,AJ]
end
end Go.LE
