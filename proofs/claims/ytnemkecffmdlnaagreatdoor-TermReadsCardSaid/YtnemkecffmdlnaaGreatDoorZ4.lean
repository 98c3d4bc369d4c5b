/-
 Part 4 of the proof (packed).
-/
import Derived.Test.YtnemkecffmdlnaaGreatDoorZ3
import Derived.Lib.AppendIntMem
import Derived.Shelf.Strings.Builder1
import Derived.Shelf.RegionOpenPlain
import Derived.Test.YtnemkecffmdlnaaGreatDoorCards
import Derived.WalkKit
import Derived.ProofKit
import Derived.OpenShut
import Derived.Deep.DeepHandedRow
import Derived.Lib.LaidTab
import Derived.Lib.LaidU8
import Derived.Lay
set_option linter.unusedSimpArgs false
set_option linter.unusedVariables false
set_option linter.defProp false
set_option maxHeartbeats 16000000
noncomputable section
namespace Go.Proofs.YtnemkecffmdlnaaGreatDoor
section
open Go.RowKit Go.LE Go.Proofs.Tryz
set_option maxRecDepth 10000
variable{d:bj}{t:bU}{w:ar}{ay:dj}(X:List bj)
abbrev asF(X:List bj)(pre:List cD)(f:cD):Env prog:=a7 ((QZ 121 gg call121 adK X pre f).spec) (a7 Wb.spec aa)
def Wl(f:cD):(gg X f).1.length<=X.length+1:=by
 unfold gg;split
 ·simp
 ·split
  ·simp
  ·simp
def adL(f:cD):(oy X f).1.length<=X.length+1:=by unfold oy;split<;>simp
def adM(f:cD):(wT X f).1.length<=X.length+1:=by
 unfold wT;split
 ·simp
 ·split<;>simp
def asG(f:cD):(qi X f).1.length<=X.length+3:=by have D:=Wl X f;have O:=adL (gg X f).1 (gg X f).2;have B:=adM (oy (gg X f).1 (gg X f).2).1 (oy (gg X f).1 (gg X f).2).2;unfold qi;omega
def Wm(l:List bj)(d:bj):(l++[d]).length=l.length+1:=by simp
def adN(l:List bj)(d:bj):cw (l++[d])=cw l++d.df:=by simp[cw]
def oA:=(aT (ch @qa @pr.eq_1 @pt @qd @zv @Wg @QW @Wh) (ch @QX @Wi @Nf @Wj @Wk @mJ @oz @QZ.eq_1) @ur.eq_1)
def asH(pre:List cD)(f:cD)(u:aM)(fp:aD)(w:ar)(aN:X.length<=3999990)(hp:pre.length<=2000)(H:eH w u fp 232 (ur X pre f))(ax:∀b∈fp,b<w.heap.size):
  Calls prog 120 (#[u]++#[]) w λe M=>h0 w u fp 232 e M (.ret (.tuple #[]) (ur (qi X f).1 pre (qi X f).2)):=by
 have wp:=QY pre hp;have mP:=Wl X f;have lT:=adL (gg X f).1 (gg X f).2;refine jP (nt:=72) [] H ax func120 ?_;refine aL (asF X pre f) oA ?_ ?_
 ·exact⟨⟨rfl,U,hp⟩,aq,bq⟩
 have BR:qi X f=wT (oy (gg X f).1 (gg X f).2).1 (oy (gg X f).1 (gg X f).2).2:=rfl;rw[BR];generalize(gg X f).2=f1 at *;generalize(gg X f).1=tr at *;refine hs aa (I oA wp) ?_
 refine fR ⟨40,bK [(0,.is (.own 0 0)),(2,.is (.own 17 (pre.length*6)))],bA [(0,.cells 232 [.ak 3,.ak 17]),(3,.row 243 261 (oy tr f1).1.length ((cw (oy tr f1).1).map .v)),(17,.row 234 6 (pre.length+1) ((lW pre++(oy tr f1).2.df).map .v))]⟩ ?_ ?_
 ·skip;refine aL aa oA ?_ ?_
  ·omega
  refine bC oA ?_ ?_<;>intro J
  ·have aI:f1.row<0:=aC J
   have he:oy tr f1=(tr++[fT 0 0 0],{ f1 with row:=tr.length }):=by rw[oy,al aI]
   rw[he];refine bY Ng oA ?_;exact b8 (λx=>if x=3 then .key 176 else .key x) (eI oA @cD.df.eq_1 @Wm @adN @sY @vd)
  ·have aI:¬f1.row<0:=aC J
   have he:oy tr f1=(tr,f1):=by rw[oy,ab aI]
   rw[he];refine a1 ?_;exact b8 (λx=>if x=3 then .key 16 else .key x) (I oA @vd)
 generalize(oy tr f1).2=f2 at *;generalize(oy tr f1).1=Ez at *;refine ae.seq ?_;refine aL aa oA ?_ ?_
 ·omega
 refine bC oA ?_ ?_<;>intro J
 ·have hm:f2.meet<0:=aC J
  have he:wT Ez f2=(Ez,{ f2 with meet:=f2.row,row:=-1 }):=by rw[wT,al hm]
  rw[he];refine wr aa oA ?_ ?_
  ·omega
  refine wr aa oA ?_ ?_
  ·omega
  refine jQ oA ?_;exact eC (aT oA @bQ @oz)
 ·have hm:¬f2.meet<0:=aC J
  refine aL aa oA ?_ ?_
  ·omega
  refine bC oA ?_ ?_<;>intro J
  ·have V:f2.gV=38:=aC J
   have he:wT Ez f2=(Ez++[fT 5 f2.meet f2.row],{ f2 with meet:=Ez.length,row:=-1 }):=by rw[wT,ab hm,al V]
   rw[he,QU];refine AM Ng oA ?_;refine wr aa oA ?_ ?_
   ·omega
   refine jQ oA ?_;exact eC (aT oA @bQ @oz)
  ·have V:¬f2.gV=38:=aC J
   have he:wT Ez f2=(Ez++[fT 6 f2.meet f2.row],{ f2 with meet:=Ez.length,row:=-1 }):=by rw[wT,ab hm,ab V]
   rw[he,QU];refine AM Ng oA ?_;refine wr aa oA ?_ ?_
   ·omega
   refine jQ oA ?_;exact eC (aT oA @bQ @oz)
abbrev Q0 (X:List bj)(pre:List cD)(x3:cD):iO prog 120:=AP 232 (λ_ _=>X.length<=3999990/\pre.length<=2000) call120 λW w bs u fp ad hp H ax fi=>asH X pre x3 u fp w hp.1 hp.2 H ax
abbrev asI(X:List bj)(pre:List cD)(f:cD):Env prog:=a7 ((Q0 X pre f).spec) (a7 Wb.spec aa)
def x4:=(I oA @Q0.eq_1)
def asJ(pre:List cD)(f:cD)(u:aM)(fp:aD)(w:ar)(aN:X.length<=3999980)(hp:pre.length<=2000)(H:eH w u fp 232 (ur X pre f))(ax:∀b∈fp,b<w.heap.size):
  Calls prog 119 (#[u]++#[]) w λe M=>h0 w u fp 232 e M (.ret (.tuple #[]) (ur (fM X f).1 pre (fM X f).2)):=by
 have wp:=QY pre hp;have mP:=asG X f;refine jP (nt:=44) [] H ax func119 ?_;refine aL (asI X pre f) x4 ?_ ?_
 ·exact⟨⟨rfl,U,hp⟩,aq,bq⟩
 have BR:fM X f=Ew (qi X f).1 (qi X f).2:=rfl;rw[BR];generalize(qi X f).2=f1 at *;generalize(qi X f).1=tr at *;refine hs aa (I x4 wp) ?_;refine ae.seq ?_;refine aL aa x4 ?_ ?_
 ·omega
 refine bC x4 ?_ ?_<;>intro J
 ·have hm:f1.alt<0:=aC J
  have he:Ew tr f1=(tr,{ f1 with alt:=f1.meet,meet:=-1 }):=by rw[Ew,al hm]
  rw[he];refine wr aa x4 ?_ ?_
  ·omega
  refine wr aa x4 ?_ ?_
  ·omega
  refine jQ x4 ?_;exact eC (aT x4 @bQ @oz)
 ·have hm:¬f1.alt<0:=aC J
  have he:Ew tr f1=(tr++[fT 3 f1.alt f1.meet],{ f1 with alt:=tr.length,meet:=-1 }):=by rw[Ew,ab hm]
  rw[he,QU];refine AM Ng x4 ?_;refine wr aa x4 ?_ ?_
  ·omega
  refine jQ x4 ?_;exact eC (aT x4 @bQ @oz)
abbrev adO (X:List bj)(pre:List cD)(x3:cD):iO prog 119:=AP 232 (λ_ _=>X.length<=3999980/\pre.length<=2000) call119 λW w bs u fp ad hp H ax fi=>asJ X pre x3 u fp w hp.1 hp.2 H ax
abbrev Q1:Env prog:=a7 aso.spec aa
def Wn:Except (Int×Int) (Int×Int×Int)->Value
 |.error (c,j)=>.tuple #[(0:Int),(0:Int),(0:Int),c,j]
 |.ok (m,n,j)=>.tuple #[m,n,j,(0:Int),(0:Int)]
def JG(s:ao)(i:Int):A5 s i=true ↔ (i<s.size/\48<=af s i/\af s i<=57):=by simp[A5,and_assoc]
def adP(s:ao)(i:Int)(h:A5 s i=false):np (af s) s.size i=.error (20,i):=by
 have bu:¬A5 s i=true:=by simp[h]
 rw[JG]at bu;rw[np,mm,ab bu,al rfl]
def adQ(s:ao)(i:Int)(h:A5 s i=true):np (af s) s.size i=.ok (mm (af s) s.size 3 0 i):=by rw[JG]at h;have O:=(acV (c:=af s) (N:=s.size) 2 (10*0+(af s i-48)) (i+1)).1;rw[np,ab];rw[mm,al h];omega
def okB(s:ao)(i:Int)(p:Int×Int×Int×Int):Prop:=
 (p.1=0/\p.2.1=0/\p.2.2.1=0/\p.2.2.2=i+1) \/
 (p.1=1/\p.2.2.1=0/\(0<=p.2.1/\p.2.1<=999)/\(i<p.2.2.2/\p.2.2.2<=s.size)/\np (af s) s.size (i+1)=.ok (p.2.1,p.2.2.2-1)/\qz (af s) s.size p.2.1 (p.2.2.2-1)=np (af s) s.size p.2.2.2) \/
 (p.1=2/\(0<=p.2.1/\p.2.1<=999)/\(-1<=p.2.2.1/\p.2.2.1<=999)/\(i<p.2.2.2/\p.2.2.2<=s.size)/\∃l,np (af s) s.size (i+1)=.ok (p.2.1,l)/\qz (af s) s.size p.2.1 l=.ok (p.2.2.1,p.2.2.2))
def asK(s:ao)(i:Int)(p:Int×Int×Int×Int):Prop:=
 (p.1=1/\p.2.2.1=0/\(0<=p.2.1/\p.2.1<=999)/\(i<p.2.2.2/\p.2.2.2<=s.size)/\np (af s) s.size (i+1)=.ok (p.2.1,p.2.2.2)/\qz (af s) s.size p.2.1 p.2.2.2=.ok (p.2.1,p.2.2.2)) \/
 (p.1=2/\(0<=p.2.1/\p.2.1<=999)/\(-1<=p.2.2.1/\p.2.2.1<=999)/\(i<p.2.2.2/\p.2.2.2<=s.size)/\∃l,np (af s) s.size (i+1)=.ok (p.2.1,l)/\qz (af s) s.size p.2.1 l=.ok (p.2.2.1,p.2.2.2))
def fk:=(b3 @qa @pr.eq_1 @pt @qd)
def asL(s:ao)(i:Int)(A:0<=i)(hi:i<s.size)(V:s.size<=140737488351232)(w:ar):cQ 118 #[s,i] w (Wn (jR (af s) s.size i)):=by
 refine cB (nt:=117) [.tmp 4,.tmp 5,.tmp 6,.tmp 7,.tmp 8] func118 ?_;have dp:=dv (i+1);have adR:IntKind.i64.wrap (0+1)=1:=rfl;have adS:IntKind.i64.wrap (1+1)=2:=rfl;refine aA aa fk ?_;refine aA aa (I fk dp) ?_;refine bk aa fk ?_
 refine rb (λp:Int×Int×Int×Int=>⟨200,bK [(0,s),(1,i),(9,p.2.2.2),(10,.is (.own 64 0)),(11,p.1)],bA [(64,.cells 298 [p.2.1,p.2.2.1])]⟩) (λ_=>w) (λ_=>[]) (asK s i) ?_ ?_
 ·refine ae.block ?_;refine ae.loop (λp:Int×Int×Int×Int=>⟨30,bK [(0,s),(1,i),(9,p.2.2.2),(10,.is (.own 64 0)),(11,p.1)],bA [(64,.cells 298 [p.2.1,p.2.2.1])]⟩)
   (okB s i) (λp=>(2-p.1).toNat) (0,0,0,i+1) ?_ (.inl ⟨rfl,rfl,rfl,rfl⟩) ?_
  ·exact bh fk
  rintro⟨p,m,n,j⟩ (⟨hp,hm,aE,Y⟩|⟨hp,aE,hm,Y,db,dY⟩|⟨hp,hm,aE,Y,l,db,dY⟩)
  ·simp only at hp hm aE Y;subst hp aE hm Y;have FV:i<i+1/\i+1<=s.size:=U;generalize Y:i+1=j at *;refine ae.seq ?_;refine aR aa fk ?_ ?_<;>intro J
   rotate_left
   ·exfalso;simp at J
   refine a1 ?_;refine ae.block ?_;refine ae.seq ?_;refine aL Q1 fk ?_ ?_
   ·omega
   refine bC fk ?_ ?_<;>intro J
   ·have ak:A5 s j=false:=aC J
    have he:jR (af s) s.size i=.error (20,j):=by rw[jR,Y,adP s j ak]
    rw[he];refine aA aa fk ?_;exact bE fk
   have ak:A5 s j=true:=aC J
   have aZ:=adQ s j ak;refine a1 ?_;generalize dW:mm (af s) s.size 3 0 j=R at *
   refine rb (λq:Int×Int=>⟨200,bK [(0,s),(1,i),(9,q.2),(10,.is (.own 64 0)),(11,(0:Int))],bA [(64,.cells 298 [q.1,(0:Int)])]⟩) (λ_=>w) (λ_=>[]) (λq=>R=q/\(0<=q.1/\q.1<=999)/\(j<=q.2/\q.2<=s.size)) ?_ ?_
   ·skip;refine bk aa fk ?_
    refine ae.loop (λq:Nat×Int=>⟨70,bK [(0,s),(1,i),(9,.is (.v (.int .i64 (j+(3-(q.1:Nat)))))),(10,.is (.own 64 0)),(11,(0:Int)),(12,.is (.v (.int .i64 (3-(q.1:Nat)))))],bA [(64,.cells 298 [q.2,(0:Int)])]⟩)
     (λq=>q.1<=3/\(0<=q.2/\q.2<=bd q.1)/\j+(3-(q.1:Nat))<=s.size/\mm (af s) s.size q.1 q.2 (j+(3-(q.1:Nat)))=R) (λq=>q.1) (3,0) ?_ ⟨bq,by simp[bd],by simp only;omega,by simpa using dW⟩ ?_
    ·exact bh (b3 fk @TJ @O8 (show(3:Int)-((3:Nat):Int)=0 from rfl))
    rintro⟨k,x⟩ ⟨ad,⟨ff,bD⟩,lq,dd⟩;simp only at ad ff bD lq dd;have MS:=QJ k;refine ae.seq ?_;refine aL Q1 fk ?_ ?_
    ·exact λ_=>by omega
    refine bC fk ?_ ?_<;>intro J
    ·simp only[ob,oa,JG]at J;obtain⟨D,O⟩:=J;obtain⟨k,rfl⟩:∃j,k=j+1:=⟨k-1,U⟩;rw[mm,al O]at dd;obtain⟨O,B,aU⟩:=O;have hX:=QK ad;generalize um:j+(3-((k+1:Nat):Int))=at_ at *;have CD:=dv (10*x)
     have CE:IntKind.u8.wrap (af s at_-48)=af s at_-48:=rh U U;have wM:=dv (af s at_-48);have wd:=dv (10*x+(af s at_-48));have MT:=iv (at_+1) (j+(3-((k:Nat):Int)))
     have wf:=iv (3-((k+1:Nat):Int)+1) (3-((k:Nat):Int));refine a1 ?_;refine ae.seq (ae.block ?_);refine dh aa (de fk CD CE wM wd) ?_ ?_
     ·exact⟨U,U⟩
     refine bY aa (I fk MT) ?_;refine bY aa (I fk wf) ?_;refine⟨(k,10*x+(af s at_-48)),⟨by simp only;omega,⟨by simp only;omega,by simp only;omega⟩,by simp only;omega,by simp only;rw[show j+(3-(k:Int))=at_+1 by omega];exact dd⟩,by simp only;omega,?_⟩;exact bh fk
    ·have hX:¬(3-(k:Int)<3/\(j+(3-(k:Int))<s.size/\48<=af s (j+(3-(k:Int)))/\af s (j+(3-(k:Int)))<=57)):=λh=>by
      apply pY.1 J;simp only[ob,oa,JG];exact h
     have wN:R=(x,j+(3-(k:Int))):=by
      rw[<- dd];cases k with
      |zero=>rfl
      |succ k=>exact V1 _ _ _ _ _ (λh=>hX ⟨U,h⟩)
     refine c6 ?_;refine⟨(x,j+(3-(k:Int))),⟨wN,⟨ff,by simp only;omega⟩,by simp only;omega,lq⟩,rfl,rfl,?_⟩;exact bh fk
   rintro⟨x,l⟩ ⟨wN,aB,aN⟩ -;simp only at wN aB aN;rw[wN]at aZ;subst wN;clear dW;dsimp only;refine bk aa (aT fk adR adS) ?_;refine aR aa fk ?_ ?_<;>intro J
   ·have CF:¬(l<s.size/\af s l=44):=by
     simp only[wa,oa,OU,uT]at J;omega
    refine c6 ?_;refine⟨(1,x,0,l),.inl ⟨rfl,rfl,aB,⟨by simp only;omega,by simp only;omega⟩,by rw[Y];exact aZ,by rw[qz,ab CF]⟩,rfl,rfl,?_⟩;exact bh fk
   have CF:l<s.size/\af s l=44:=by simp only[Bool.or_eq_false_iff,uT,Bool.not_eq_false',oa]at J;omega
   have wl:=dv (l+1);refine bk aa (I fk wl) ?_;refine aR aa fk ?_ ?_<;>intro J
   ·have wO:¬(¬l+1<s.size\/af s (l+1)≠125):=by
     simp only[ob,oa]at J;omega
    refine aA aa fk ?_;refine bY aa fk ?_;refine⟨(2,x,-1,l+1),.inr (.inr ⟨rfl,aB,by simp only;omega,⟨by simp only;omega,by simp only;omega⟩,l,by rw[Y];exact aZ,by rw[qz,al CF,ab wO]⟩),bq,?_⟩;exact bh fk
   ·have wO:¬l+1<s.size\/af s (l+1)≠125:=by
     simp only[ZM,uT]at J;omega
    refine a1 ?_;refine⟨(1,x,0,l+1),.inr (.inl ⟨rfl,rfl,aB,⟨by simp only;omega,by simp only;omega⟩,by rw[Y];show np _ _ _=.ok (x,l+1-1);rw[Int.add_sub_cancel];exact aZ,by show qz _ _ x (l+1-1)=_;rw[Int.add_sub_cancel,qz,al CF,al wO]⟩),bq,?_⟩;exact bh fk
  ·simp only at hp hm aE Y db dY;subst hp aE;have FV:=Y;refine ae.seq ?_;refine aR aa fk ?_ ?_<;>intro J
   rotate_left
   ·exfalso;simp at J
   refine a1 ?_;refine ae.block ?_;refine ae.seq ?_;refine aL Q1 fk ?_ ?_
   ·omega
   refine bC fk ?_ ?_<;>intro J
   ·have ak:A5 s j=false:=aC J
    have he:jR (af s) s.size i=.error (20,j):=by rw[jR,db];simp only[dY,adP s j ak]
    rw[he];refine aA aa fk ?_;exact bE fk
   have ak:A5 s j=true:=aC J
   have aZ:=adQ s j ak;refine a1 ?_;generalize dW:mm (af s) s.size 3 0 j=R at *
   refine rb (λq:Int×Int=>⟨200,bK [(0,s),(1,i),(9,q.2),(10,.is (.own 64 0)),(11,(1:Int))],bA [(64,.cells 298 [m,q.1])]⟩) (λ_=>w) (λ_=>[]) (λq=>R=q/\(0<=q.1/\q.1<=999)/\(j<=q.2/\q.2<=s.size)) ?_ ?_
   ·skip;refine bk aa fk ?_
    refine ae.loop (λq:Nat×Int=>⟨70,bK [(0,s),(1,i),(9,.is (.v (.int .i64 (j+(3-(q.1:Nat)))))),(10,.is (.own 64 0)),(11,(1:Int)),(12,.is (.v (.int .i64 (3-(q.1:Nat)))))],bA [(64,.cells 298 [m,q.2])]⟩)
     (λq=>q.1<=3/\(0<=q.2/\q.2<=bd q.1)/\j+(3-(q.1:Nat))<=s.size/\mm (af s) s.size q.1 q.2 (j+(3-(q.1:Nat)))=R) (λq=>q.1) (3,0) ?_ ⟨bq,by simp[bd],by simp only;omega,by simpa using dW⟩ ?_
    ·exact bh (b3 fk @TJ @O8 (show(3:Int)-((3:Nat):Int)=0 from rfl))
    rintro⟨k,x⟩ ⟨ad,⟨ff,bD⟩,lq,dd⟩;simp only at ad ff bD lq dd;have MS:=QJ k;refine ae.seq ?_;refine aL Q1 fk ?_ ?_
    ·exact λ_=>by omega
    refine bC fk ?_ ?_<;>intro J
    ·simp only[ob,oa,JG]at J;obtain⟨D,O⟩:=J;obtain⟨k,rfl⟩:∃j,k=j+1:=⟨k-1,U⟩;rw[mm,al O]at dd;obtain⟨O,B,aU⟩:=O;have hX:=QK ad;generalize um:j+(3-((k+1:Nat):Int))=at_ at *;have CD:=dv (10*x)
     have CE:IntKind.u8.wrap (af s at_-48)=af s at_-48:=rh U U;have wM:=dv (af s at_-48);have wd:=dv (10*x+(af s at_-48));have MT:=iv (at_+1) (j+(3-((k:Nat):Int)))
     have wf:=iv (3-((k+1:Nat):Int)+1) (3-((k:Nat):Int));refine a1 ?_;refine ae.seq (ae.block ?_);refine dh aa (de fk CD CE wM wd) ?_ ?_
     ·exact⟨U,U⟩
     refine bY aa (I fk MT) ?_;refine bY aa (I fk wf) ?_;refine⟨(k,10*x+(af s at_-48)),⟨by simp only;omega,⟨by simp only;omega,by simp only;omega⟩,by simp only;omega,by simp only;rw[show j+(3-(k:Int))=at_+1 by omega];exact dd⟩,by simp only;omega,?_⟩;exact bh fk
    ·have hX:¬(3-(k:Int)<3/\(j+(3-(k:Int))<s.size/\48<=af s (j+(3-(k:Int)))/\af s (j+(3-(k:Int)))<=57)):=λh=>by
      apply pY.1 J;simp only[ob,oa,JG];exact h
     have wN:R=(x,j+(3-(k:Int))):=by
      rw[<- dd];cases k with
      |zero=>rfl
      |succ k=>exact V1 _ _ _ _ _ (λh=>hX ⟨U,h⟩)
     refine c6 ?_;refine⟨(x,j+(3-(k:Int))),⟨wN,⟨ff,by simp only;omega⟩,by simp only;omega,lq⟩,rfl,rfl,?_⟩;exact bh fk
   rintro⟨x,l⟩ ⟨wN,aB,aN⟩ -;simp only at wN aB aN;rw[wN]at aZ;subst wN;clear dW;dsimp only;refine bk aa (aT fk adR adS) ?_;refine aR aa fk ?_ ?_<;>intro J
   rotate_left
   ·exfalso;simp at J
   refine c6 ?_;refine⟨(2,m,x,l),.inr ⟨rfl,hm,by simp only;omega,⟨by simp only;omega,by simp only;omega⟩,j-1,db,by rw[dY,aZ]⟩,rfl,rfl,?_⟩;exact bh fk
  ·simp only at hp hm aE Y db dY;subst hp;refine ae.seq ?_;refine aR aa fk ?_ ?_<;>intro J
   ·exfalso;simp at J
   refine c6 ?_;refine⟨(2,m,n,j),.inr ⟨rfl,hm,aE,Y,l,db,dY⟩,rfl,rfl,?_⟩;exact bh fk
 have fin:∀m n j:Int,(0<=m/\m<=999)->(-1<=n/\n<=999)->(i<j/\j<=s.size)->jR (af s) s.size i=wA (af s) s.size m n j i ->
   ∃Mt jh:Int,True:=λm n j _ _ _ _=>⟨m,n,trivial⟩
 refine λp hp _=>rb (λp:Int×Int×Int=>⟨300,bK [(0,s),(1,i),(9,p.2.2),(10,.is (.own 64 0))],bA [(64,.cells 298 [p.1,p.2.1])]⟩) (λ_=>w) (λ_=>[])
  (λp=>(0<=p.1/\p.1<=999)/\(-1<=p.2.1/\p.2.1<=999)/\(i<p.2.2/\p.2.2<=s.size)/\jR (af s) s.size i=wA (af s) s.size p.1 p.2.1 p.2.2 i) ?_ ?_
 ·obtain⟨p,m,n,j⟩:=p;rcases hp with⟨hp,aE,hm,Y,db,dY⟩|⟨hp,hm,aE,Y,l,db,dY⟩
  ·simp only at hp aE hm Y db dY;subst hp aE;dsimp only;refine aR aa fk ?_ ?_<;>intro J
   rotate_left
   ·exfalso;simp at J
   refine bY aa fk ?_;refine⟨(m,m,j),⟨hm,by simp only;omega,Y,by rw[jR,db];simp only[dY]⟩,rfl,rfl,?_⟩;exact bh fk
  ·simp only at hp aE hm Y db dY;subst hp;dsimp only;refine aR aa fk ?_ ?_<;>intro J
   ·exfalso;simp at J
   refine a1 ?_;refine⟨(m,n,j),⟨hm,aE,Y,by rw[jR,db];simp only[dY]⟩,rfl,rfl,?_⟩;exact bh fk
 rintro⟨m,n,j⟩ ⟨hm,aE,Y,he⟩ -;simp only at hm aE Y he;rw[he];dsimp only;refine ae.seq ?_;refine aR aa fk ?_ ?_<;>intro J
 ·have wO:¬j<s.size\/af s j≠125:=by
   simp only[wa,oa,OU,uT]at J;omega
  rw[wA,al wO];refine aA aa fk ?_;exact bE fk
 have wO:¬(¬j<s.size\/af s j≠125):=by simp only[Bool.or_eq_false_iff,uT,Bool.not_eq_false',oa]at J;omega
 refine a1 ?_;refine ae.seq ?_;refine aR aa fk ?_ ?_<;>intro J
 ·have Z:255<m\/255<n\/(0<=n/\n<m):=by
   simp only[wa,ob,oa]at J;omega
  rw[wA,ab wO,al Z];refine aA aa fk ?_;exact bE fk
 have Z:¬(255<m\/255<n\/(0<=n/\n<m)):=by intro Z;apply pY.1 J;simp only[wa,ob,oa];omega
 rw[wA,ab wO,ab Z];refine a1 ?_;have iF:=dv (j+1);refine hs aa (I fk iF) ?_;exact bE fk
abbrev asM:cV prog 118:=kH (λ| [.val (.string s),.val (.int .i64 i)]=>some (s,i)|_=>none) (λav W bs=>0<=av.2/\av.2<av.1.size/\av.1.size<=140737488351232) call118 λav W w bs ad hp=>asL av.1 av.2 hp.1 hp.2.1 hp.2.2 w
def Wo{x y p q:Int}(A:0<=x)(D:x<=p)(O:0<=y)(B:y<=q):0<=x*y/\x*y<=p*q:=⟨Ld A O,Int.mul_le_mul D B O U⟩
def rW:=(b3 @qa @pr.eq_1 @pt @qd)
def asN(a m n:Int)(A:0<=a)(D:a<=2001)(Ji:x0 m n)(w:ar):cQ 175 #[a,m,n] w (.int .i64 (re a m n)):=by
 refine cB (nt:=59) [.tmp 6] func175 ?_;unfold x0 at Ji;refine bk aa rW ?_;refine aR aa rW ?_ ?_<;>intro J
 ·have hm:m=-2:=aC J
  have bg:=dv (a+1);have bN:=dv (a+1+a);have dQ:=dv (a+1+a+1);rw[re,al hm];refine aA aa (b3 rW bg bN dQ) ?_;exact bE rW
 have hm:¬m=-2:=aC J
 have BU:0<=m/\m<=255/\n<=255:=U;have aD0:=Wo BU.1 BU.2.1 A D;rw[re,ab hm];refine a1 ?_;refine ae.seq ?_;refine aR aa rW ?_ ?_<;>intro J
 ·have O:n<0/\m=0:=aC J
  have bg:=dv (a+1);rw[al O];refine aA aa (I rW bg) ?_;exact bE rW
 have O:¬(n<0/\m=0):=by intro h;apply pY.1 J;simp[h.1,h.2]
 rw[ab O];refine a1 ?_;refine ae.seq ?_;refine aR aa rW ?_ ?_<;>intro J
 ·have B:n<0:=aC J
  have cv:=dv (m*a);have bg:=dv (m*a+m);have bN:=dv (m*a+m-1);have dQ:=dv (m*a+m-1+1);have h1:=dv (m*a+m-1+1+a)
  have rU:=dv (m*a+m-1+1+a+1);rw[al B];refine aA aa (hV rW cv bg bN dQ h1 rU) ?_;exact bE rW
 have B:¬n<0:=aC J
 rw[ab B];refine a1 ?_;refine ae.seq ?_;refine aR aa rW ?_ ?_<;>intro J
 ·have aU:n=0:=aC J
  rw[al aU];refine aA aa rW ?_;exact bE rW
 have aU:¬n=0:=aC J
 rw[ab aU];refine a1 ?_;refine ae.seq ?_;refine aR aa rW ?_ ?_<;>intro J
 ·have bn:m=0:=aC J
  have aD1:=Wo (x:=n) (y:=a+2) (p:=255) (q:=2003) U U U U;have cv:=dv (a+2);have bg:=dv (n*(a+2));have bN:=dv (n*(a+2)+n);have dQ:=dv (n*(a+2)+n-1);rw[al bn]
  refine aA aa (de rW cv bg bN dQ) ?_;exact bE rW
 have bn:¬m=0:=aC J
 have G3:=Wo (x:=n-m) (y:=a+2+1) (p:=255) (q:=2004) U U U U;have cv:=dv (m*a);have bg:=dv (m*a+m);have bN:=dv (m*a+m-1);have dQ:=dv (n-m)
 have h1:=dv (a+2);have rU:=dv (a+2+1);have Ei:=dv ((n-m)*(a+2+1));have zw:=dv (m*a+m-1+(n-m)*(a+2+1));rw[ab bn]
 refine bk aa (ch rW cv bg bN dQ h1 rU (I Ei zw)) ?_;exact bE rW
abbrev asO:cV prog 175:=kH (λ| [.val (.int .i64 a),.val (.int .i64 m),.val (.int .i64 n)]=>some (a,m,n)|_=>none) (λav W bs=>(0<=av.1/\av.1<=2001)/\x0 av.2.1 av.2.2) call175 λav W w bs ad hp=>asN av.1 av.2.1 av.2.2 hp.1.1 hp.1.2 hp.2 w
abbrev asP:Env prog:=a7 asO.spec aa
def G4(X:List bj):Prop:=∀k (h:k<X.length),(0<=X[k].op/\X[k].op<=7)/\(2<=X[k].op->0<=X[k].a/\X[k].a<k)/\(2<=X[k].op->X[k].op≠7->0<=X[k].b/\X[k].b<k)/\(X[k].op=7->x0 X[k].m X[k].n)
theorem qE.ok{ah:List bU}(h:qE ah d t):(0<=d.op/\d.op<=7)/\(2<=d.op->0<=d.a/\d.a<ah.length)/\(2<=d.op->d.op≠7->0<=d.b/\d.b<ah.length)/\(d.op=7->x0 d.m d.n):=by
 have lt:∀{x:Int} {a:bU},0<=x->ah[x.toNat]?=some a->x<ah.length:=λ{x a} A h=>by have:=(kC.1 h).1;omega
 cases h with
 |bV A _=>exact⟨U,λh=>by omega,λh=>by omega,λh=>by omega⟩
 |cls A=>exact⟨U,λh=>by omega,λh=>by omega,λh=>by omega⟩
 |cat a b A D O B aU=>exact⟨U,λh=>⟨D,lt D O⟩,λh _=>⟨B,lt B aU⟩,λh=>by omega⟩
 |alt a b A D O B aU=>exact⟨U,λh=>⟨D,lt D O⟩,λh _=>⟨B,lt B aU⟩,λh=>by omega⟩
 |and a b A D O B aU=>exact⟨U,λh=>⟨D,lt D O⟩,λh _=>⟨B,lt B aU⟩,λh=>by omega⟩
 |minus a b A D O B aU=>exact⟨U,λh=>⟨D,lt D O⟩,λh _=>⟨B,lt B aU⟩,λh=>by omega⟩
 |rep a A D O B=>exact⟨U,λh=>⟨D,lt D O⟩,λh bu=>absurd A bu,λ_=>B⟩
theorem jT.ok{X:List bj}{ah:List bU}(h:jT X ah):G4 X:=by
 induction h with
 |nil=>intro k ad;cases ad
 |@snoc X ah d t aQ aE bb=>
  intro k ad;by_cases ax:k<X.length
  ·rw[Fx ax];exact bb k ax
  ·have e4:k=X.length:=bt ad
   subst e4;have:=aE.ok;rw[aQ.len]at this;rw[K4 (eo _)];simpa using this
def Wp:∀(l:List bj) (k j:Nat) (ad:k<l.length),j<261->(cw l)[k*261+j]?=l[k].df[j]?
 |d::r,0,j,_,Y=>by show(d.df++cw r)[0*261+j]?=_;rw[BL (by rw[bj.CL];omega)];simp
 |d::r,k+1,j,ad,Y=>by show(d.df++cw r)[(k+1)*261+j]?=_;rw[Dv (by rw[bj.CL];omega),bj.CL,show(k+1)*261+j-261=k*261+j by omega];have:=Wp r k j (aC ad) Y;simpa using this
theorem bj.asQ(d:bj):d.df[0]?=some (.int .i64 d.op):=rfl
def bj.Nh(d:bj)(j:Nat):d.df[257+j]?=[Value.int .i64 d.a,.int .i64 d.b,.int .i64 d.m,.int .i64 d.n][j]?:=by have e:d.df=(Value.int .i64 d.op::dS d.set.getLsbD)++[.int .i64 d.a,.int .i64 d.b,.int .i64 d.m,.int .i64 d.n]:=rfl;rw[e,Dv (by rw[l9,A3];omega),l9,A3,show 257+j-(256+1)=j by omega]
def qx.aH{l:List bj}(h:qx w ay (cw l)){k:Nat}(ad:k<l.length):∃b o,ay=some ⟨b,o,none⟩ /\
  w.cell? ⟨b,o+k*261,none⟩=some (.int .i64 l[k].op)/\w.cell? ⟨b,o+k*261+257,none⟩=some (.int .i64 l[k].a)/\w.cell? ⟨b,o+k*261+258,none⟩=some (.int .i64 l[k].b) /\
  w.cell? ⟨b,o+k*261+259,none⟩=some (.int .i64 l[k].m)/\w.cell? ⟨b,o+k*261+260,none⟩=some (.int .i64 l[k].n):=by
 have aN:=Na l;rcases h with h|⟨b,o,rfl,J⟩
 ·rw[h]at aN;simp at aN;omega
 ·have key:∀j (Y:j<261) (v:aM),l[k].df[j]?=some v->w.cell? ⟨b,o+k*261+j,none⟩=some v:=λj Y v au=>by
   have ax:k*261+j<(cw l).length:=U;have D:=J (k*261+j) ax;have O:=Wp l k j ad Y;rw[uS ax,au]at O;rw[<- Le]at D;rw[D,O]
  exact⟨b,o,rfl,key 0 U _ (bj.asQ _),key 257 U _ (bj.Nh _ 0),key 258 U _ (bj.Nh _ 1),key 259 U _ (bj.Nh _ 2),key 260 U _ (bj.Nh _ 3)⟩
def uu(aFd:List Int):List Value:=aFd.map (.int .i64)
def adT(aFd:List Int):(List.map ag.v (uu aFd)).length=aFd.length:=by simp[uu]
def Q2(aFd:List Int)(k:Nat)(ad:k<aFd.length):(List.map ag.v (uu aFd)).getD k (.v undef)=.v (.int .i64 (aFd.getD k 0)):=by simp[uu,mI,ad]
def Ni(aFd:List Int)(k:Nat)(x:Int)(ad:k<aFd.length):List.take k (List.map ag.v (uu aFd))++[ag.v (.int .i64 x)]++List.drop (k+1) (List.map ag.v (uu aFd))=List.map ag.v (uu (aFd.set k x)):=by rw[Zw,al ad];simp[uu]
def ts(X:List bj)(k:Nat):List Int:=iT (X.take k)++List.replicate (X.length-k) 0
def Wq(d:bj):iT (X++[d])=iT X++[uq (iT X) d]:=by unfold iT;rw[List.foldl_append];rfl
def adU{α:Type}{P:List α->Prop}(A:P [])(D:∀l d,P l->P (l++[d]))(l:List α):P l:=by
 have key:∀m:List α,P m.reverse:=λm=>by
  induction m with
  |nil=>exact A
  |cons d r bb=>rw[List.reverse_cons];exact D _ _ bb
 have:=key l.reverse
 rwa [List.reverse_reverse]at this
def EA:(iT X).length=X.length:=by
 refine adU (P:=λX=>(iT X).length=X.length) rfl (λX d bb=>?_) X
 ·rw[Wq,ec,ec,bb];rfl
def asR(k:Nat)(ad:k<=X.length):(ts X k).length=X.length:=by rw[ts,ec,EA,Il,List.length_replicate];omega
def asS(k j:Nat)(Y:j<k)(ad:k<=X.length):(ts X k).getD j 0=(iT (X.take k)).getD j 0:=by rw[mI,mI,ts,BL (by rw[EA,Il];omega)]
def asT(k:Nat)(ad:k<X.length):(ts X k).set k (uq (iT (X.take k)) X[k])=ts X (k+1):=by
 have aN:(iT (X.take k)).length=k:=by rw[EA,Il];omega
 have aV:X.take (k+1)=X.take k++[X[k]]:=by rw[Te ad]
 rw[ts,ts,aV,Wq,List.set_append_right _ _ U,aN,FF,show X.length-k=(X.length-(k+1))+1 by omega,Fy,List.set_cons_zero,mJ];rfl
def asU:List.map ag.v (List.replicate X.length [Value.int .i64 0]).flatten=List.map ag.v (uu (ts X 0)):=by
 have:∀n:Nat,(List.replicate n [Value.int .i64 0]).flatten=uu (List.replicate n 0):=λn=>by
  induction n with
  |zero=>rfl
  |succ n bb=>rw[Fy,List.flatten_cons,bb];rfl
 rw[this];simp[ts,iT]
def asV(bW:G4 X):∀j,j<X.length->0<=(iT X).getD j 0/\(iT X).getD j 0<=2001:=by
 revert bW;refine adU (P:=λX=>G4 X->∀j,j<X.length->0<=(iT X).getD j 0/\(iT X).getD j 0<=2001) (λ_ j Y=>by cases Y) (λX d bb bW=>?_) X
 ·skip;have Nj:G4 X:=λk ad=>by
   have:=bW k (by simp;omega);rw[Fx ad]at this;exact this
  intro j Y;rw[Wq,mI];by_cases ax:j<X.length
  ·rw[BL (by rw[EA];exact ax),<- mI];exact bb Nj j ax
  ·have hW:j=X.length:=bt Y
   subst hW;have ak:=bW X.length bq;rw[K4 (eo _)]at ak;simp only[FF,ZH]at ak;rw[Dv (by rw[EA];exact eo _),EA,FF];show 0<=uq (iT X) d/\uq (iT X) d<=2001;have au:0<=jz (iT X) d:=by
    unfold jz;split
    ·omega
    ·rename_i D;have aQ:=ak.2.1 U;have cb:=bb Nj d.a.toNat U;split
     ·rename_i c1;exact adI cb.1 (ak.2.2.2 c1)
     ·rename_i c1;have Z:=ak.2.2.1 U c1;have gj:=bb Nj d.b.toNat U;omega
   unfold uq;split<;>omega
def kb:=(ch va vb vc @qa @pr.eq_1 @pt @qd @adT)
def asW(bW:G4 X)(JH:X.length<=4000000)(ay:dj)(c:Nat)(w:ar)(aN:qx w ay (cw X)):
  Calls prog 123 #[.slice ay X.length c] w λe M =>∃u fp,e=.returned u/\(∀cK,e3 cK u fp M (.row 3 1 X.length ((uu (iT X)).map .v)))/\(∀b∈fp,w.heap.size<=b/\b<M.heap.size)/\cr w [] M:=by
 refine UF (nt:=80) id [.tmp 2] func123 ?_;refine aA aa kb ?_;refine bk aa (I kb @asU) ?_;refine bk aa kb ?_
 refine ae.loop (λk:Nat=>⟨20,bK [(0,.is (.v (.slice ay X.length c))),(3,.is (.ak 24)),(4,k)],bA [(24,.row 3 1 X.length (List.map ag.v (uu (ts X k))))]⟩) (λk=>k<=X.length) (λk=>X.length-k) 0 ?_ (ef _) ?_
 ·exact bh kb
 rintro k D;refine ae.seq ?_;refine aR aa kb ?_ ?_<;>intro J
 ·have ad:k<X.length:=bt J
  obtain⟨b,o,rfl,c0,hx,c2,c3,c4⟩:=qx.aH aN ad;have ak:=bW k ad;have bp:=asT X k ad;have asX:=asR X k D;have adV:∀x:Int,0<=x->x<k->(ts X k).getD x.toNat 0=(iT (X.take k)).getD x.toNat 0:=λx A aB=>asS X k x.toNat U D
  have Nj:G4 (X.take k):=λj Y=>by rw[Il]at Y;rw[List.getElem_take];exact bW j U
  have gj:=asV (X.take k) Nj;have Q3:∀x:Int,0<=x->x<k->0<=(iT (X.take k)).getD x.toNat 0/\(iT (X.take k)).getD x.toNat 0<=2001:=λx A aB=>gj x.toNat (by rw[Il];omega)
  have bP:uq (iT (X.take k)) X[k]=if 2001<jz (iT (X.take k)) X[k] then 2001 else jz (iT (X.take k)) X[k]:=rfl;have dM:=fK k;rw[bP]at bp;generalize X[k]=d at *;generalize aD2:iT (X.take k)=aw at *;generalize aD3:ts X k=aFd at *
  generalize adW:ts X (k+1)=aD4 at *;refine gJ aa kb ?_
  refine fR ⟨40,bK [(0,.is (.v (.slice (some ⟨b,o,none⟩) X.length c))),(3,.is (.ak 24)),(4,k),(5,.is (.v (.int .i64 (if 2<=d.op then aw.getD d.a.toNat 0 else 0))))],bA [(24,.row 3 1 X.length (List.map ag.v (uu aFd)))]⟩ ?_ ?_
  ·skip;refine aL aa (I kb c0) ?_ ?_
   ·omega
   refine bC kb ?_ ?_<;>intro J
   ·have O:2<=d.op:=aC J
    have aQ:=ak.2.1 O;rw[al O];refine wr aa (b3 kb hx (Q2 aFd d.a.toNat U) (adV d.a aQ.1 aQ.2)) ?_ ?_
    ·omega
    exact bh kb
   ·have O:¬2<=d.op:=aC J
    rw[ab O];refine a1 ?_;exact bh kb
  generalize bn:(if 2<=d.op then aw.getD d.a.toNat 0 else 0)=t5;refine fR ⟨70,bK [(0,.is (.v (.slice (some ⟨b,o,none⟩) X.length c))),(3,.is (.ak 24)),(4,k)],bA [(24,.row 3 1 X.length (List.map ag.v (uu (aFd.set k (jz aw d)))))]⟩ ?_ ?_
  ·skip;refine aL aa (I kb c0) ?_ ?_
   ·omega
   refine ae.block ?_;refine ae.seq ?_;refine aR aa kb ?_ ?_<;>intro J
   ·have A:d.op=0:=aC J
    have au:jz aw d=1:=by rw[jz,al (.inl A)]
    rw[au];refine a1 ?_;refine bC kb ?_ ?_<;>intro J
    rotate_left
    ·exfalso;simp[A]at J
    refine wr aa (I kb (Ni aFd k 1 U)) ?_ ?_
    ·omega
    exact bh kb
   have A:¬d.op=0:=aC J
   refine bY aa kb ?_;refine bC kb ?_ ?_<;>intro J
   ·have pE:d.op=1:=aC J
    have au:jz aw d=1:=by rw[jz,al (.inr pE)]
    rw[au];refine wr aa (I kb (Ni aFd k 1 U)) ?_ ?_
    ·omega
    exact bh kb
   have pE:¬d.op=1:=aC J
   have O:2<=d.op:=U;have aQ:=ak.2.1 O;have cb:=Q3 d.a aQ.1 aQ.2;rw[al O]at bn;rw[bn]at cb;refine aR aa kb ?_ ?_<;>intro J
   ·have c1:d.op=7:=aC J
    have au:jz aw d=re t5 d.m d.n:=by rw[jz,ab U,al c1,bn]
    have Ji:=ak.2.2.2 c1;rw[au];refine iP asP (b3 kb c3 c4 (Ni aFd k (re t5 d.m d.n) U)) ?_ ?_
    ·exact⟨U,U,⟨cb,Ji⟩,U,U⟩
    exact bh kb
   ·have c1:¬d.op=7:=aC J
    have Z:=ak.2.2.1 O c1;have aD5:=Q3 d.b Z.1 Z.2;have au:jz aw d=1+t5+aw.getD d.b.toNat 0:=by rw[jz,ab U,ab c1,bn]
    have bg:=dv (1+t5);have bN:=dv (1+t5+aw.getD d.b.toNat 0);rw[au];refine wr aa (hV kb c2 (Q2 aFd d.b.toNat U) (adV d.b Z.1 Z.2) bg bN (Ni aFd k (1+t5+aw.getD d.b.toNat 0) U)) ?_ ?_
    ·omega
    exact bh kb
  have asY:(aFd.set k (jz aw d)).getD k 0=jz aw d:=by rw[mI,List.getElem?_set_self U];rfl
  have aD6:(aFd.set k (jz aw d)).length=X.length:=by rw[List.length_set,asX]
  refine aL aa (aT kb (Q2 (aFd.set k (jz aw d)) k U) asY) ?_ ?_
  ·omega
  refine bC kb ?_ ?_<;>intro J
  ·have yU:2001<jz aw d:=aC J
   rw[al yU]at bp;refine wr aa (b3 kb (Ni (aFd.set k (jz aw d)) k 2001 U) @List.set_set.{0} bp) ?_ ?_
   ·omega
   refine bY aa (I kb dM) ?_;refine⟨k+1,U,U,?_⟩;rw[adW];exact bh kb
  ·have yU:¬2001<jz aw d:=aC J
   rw[ab yU]at bp;refine a1 ?_;refine bY aa (I kb dM) ?_;refine⟨k+1,U,U,?_⟩;rw[adW];exact bh (I kb bp)
 ·have ad:k=X.length:=bt J
  have bx:ts X k=iT X:=by rw[ad,ts,Tz,FF];simp
  refine c6 ?_;refine aA aa kb ?_;refine bf kb ?_;refine⟨_,⟨aq,.inl ⟨_,rfl,?_⟩⟩,λE=>rfl⟩;rw[<- bx];rfl
abbrev adX:IL prog 123 where
 pre:=λW bs aj=>(∃a,aj=[a]/\UQ W bs 261 X.length (cw X) a)/\G4 X/\X.length<=4000000
 T:=3
 s:=1
 n:=λ_ _=>X.length
 vs:=λ_ _=>uu (iT X)
 fV:=λ_ _ x=>x
 g:=λ_ _ v=>v
 IM:=λ_ _ _ _=>rfl
 IN:=λ_ _ _ _ h=>h
 enters:=call123
 ok:=by
  intro W w bs us aj ad hu hp;obtain⟨⟨a,rfl,D⟩,O,B⟩:=hp
  match us,hu with
  |[u],hu=>obtain⟨ay,c,rfl,CM⟩:=anw ad hu.1 D;exact asW X O B ay c w CM
def aG:bm->Nat
 |.bV=>1
 |.cls _=>1
 |.cat a b=>aG a+aG b+1
 |.alt a b=>aG a+aG b+1
 |.star a=>aG a+1
 |.and a b=>aG a+aG b+1
 |.minus a b=>aG a+aG b+1
def dq(n:Nat):bm->List bj
 |.bV=>[fT 0 0 0]
 |.cls S=>[⟨1,S,0,0,0,0⟩]
 |.cat a b=>dq n a++(dq (n+aG a) b++[fT 2 ((n+aG a-1:Nat):Int) ((n+aG a+aG b-1:Nat):Int)])
 |.alt a b=>dq n a++(dq (n+aG a) b++[fT 3 ((n+aG a-1:Nat):Int) ((n+aG a+aG b-1:Nat):Int)])
 |.star a=>dq n a++[fT 4 ((n+aG a-1:Nat):Int) 0]
 |.and a b=>dq n a++(dq (n+aG a) b++[fT 5 ((n+aG a-1:Nat):Int) ((n+aG a+aG b-1:Nat):Int)])
 |.minus a b=>dq n a++(dq (n+aG a) b++[fT 6 ((n+aG a-1:Nat):Int) ((n+aG a+aG b-1:Nat):Int)])
def qF(t:bm):1<=aG t:=by cases t<;>simp[aG]
def uv(t:bm):∀n,(dq n t).length=aG t:=by
 induction t with
 |bV=>intro n;rfl
 |cls S=>intro n;rfl
 |star a bb=>intro n;simp[dq,aG,bb]
 |cat a b oV oW=>intro n;simp only[dq,aG,ec,oV,oW,l9,uW];omega
 |alt a b oV oW=>intro n;simp only[dq,aG,ec,oV,oW,l9,uW];omega
 |and a b oV oW=>intro n;simp only[dq,aG,ec,oV,oW,l9,uW];omega
 |minus a b oV oW=>intro n;simp only[dq,aG,ec,oV,oW,l9,uW];omega
def k1(l m:List bj):cw (l++m)=cw l++cw m:=by simp[cw]
def x5(d:bj):cw [d]=d.df:=by simp[cw]
def Nk:=(I (ch va vb vc @qa @pr.eq_1 @pt @qd @QR) (I @JC @JD))
def asZ(l:List bj)(r:Int)(op a b:Int)(u:aM)(fp:aD)(w:ar)(aN:l.length<=4000000)(H:eH w u fp 64 [.row 243 261 l.length (cw l),r])(ax:∀b∈fp,b<w.heap.size) :
  Calls prog 177 (#[u]++#[.int .i64 op,.int .i64 a,.int .i64 b]) w λe M=>h0 w u fp 64 e M (.ret (.int .i64 (l.length:Nat)) [.row 243 261 (l.length+1) (cw l++(fT op a b).df),r]):=by
 rw[show cw l++(fT op a b).df=cw (l++[fT op a b]) by simp[cw]];refine jP (nt:=28) [.tmp 8] H ax func177 ?_;refine aA aa Nk ?_;refine aL aa Nk ?_ ?_
 ·exact⟨bq,by unfold maxLen;omega,U,bj.pG _⟩
 have dp:=iv (((l.length+1:Nat):Int)-1) ((l.length:Nat):Int);refine aA aa (I Nk dp) ?_;refine bf Nk ?_;exact eC (aT Nk @bQ @sY)
abbrev Q4:iO prog 177:=sy 64 (λ| [.row 243 261 n vs,.val (.int .i64 r)],[.val (.int .i64 op),.val (.int .i64 a),.val (.int .i64 b)]=>some (n,vs,r,op,a,b)|_,_=>none) (λav W bs=>∃l:List bj,av.2.1=cw l/\av.1=l.length/\l.length<=4000000) call177 (e:=λav=>#[.int .i64 av.2.2.2.1,.int .i64 av.2.2.2.2.1,.int .i64 av.2.2.2.2.2]) (fs:=λav=>[.row 243 261 av.1 av.2.1,.val (.int .i64 av.2.2.1)]) (out:=λav=>.ret (.int .i64 (av.1:Nat)) [.row 243 261 (av.1+1) (av.2.1++(fT av.2.2.2.1 av.2.2.2.2.1 av.2.2.2.2.2).df),av.2.2.1]) λav W w bs u fp ad hp H ax fi=>by obtain⟨n,vs,r,op,a,b⟩:=av;try dsimp only at hp;try dsimp only at H;obtain⟨l,rfl,rfl,aN⟩:=hp;exact asZ l r op a b u fp w aN H ax
def JI{W w:ar}{bs fp:aD}(ad:cr W bs w)(h:∀b∈fp,W.heap.size<=b\/b∈bs):bT W (Out bs) w (Out fp):=λb Z V=>⟨ad.block b Z V,λaW=>(h b aW).elim (λg=>by omega) V⟩
def as0(a b:bj):cw [a,b]=a.df++b.df:=by simp[cw]
abbrev G5 (X:List bj)(ay:dj)(c:Nat)(f:dr)(v:aM)(t:bm):Prop:=
 ∀(l:List bj) (r:Int) (u:aM) (fp:aD) (w:ar),l.length+aG t<=4000000->eH w u fp 64 [.row 243 261 l.length (cw l),r]->(∀b∈fp,b<w.heap.size)->b0 w (Out fp) ay (cw X) ->
  Calls prog f #[.slice ay X.length c,v,u] w λe M=>h0 w u fp 64 e M (.ret (.int .i64 ((l.length+aG t-1:Nat):Int)) [.row 243 261 (l.length+aG t) (cw l++cw (dq l.length t)),r])
def layOut(rm:Value->bm)(fs aj:List br):j7:=match fs,aj with
 |[.row _ _ n vs,.val r],[_,.val v]=>.ret (.int .i64 ((n+aG (rm v)-1:Nat):Int)) [.row 243 261 (n+aG (rm v)) (vs++cw (dq n (rm v))),r]
 |_,_=>.ret undef []
theorem Q5(rm:Value->bm)(T s n:Nat)(vs:aX)(r v:aM)(x:br):layOut rm [.row T s n vs,r] [x,.val v]=.ret (.int .i64 ((n+aG (rm v)-1:Nat):Int)) [.row 243 261 (n+aG (rm v)) (vs++cw (dq n (rm v))),r]:=rfl
def CN(ay:dj)(c:Nat)(f:dr)(ly:∀args w,(callFunc f args).run prog w=.ok (.enter f args) w)(EB:Value->Prop)(rm:Value->bm)(h:∀v,EB v->G5 X ay c f v (rm v)):aog prog f where
 T:=64
 pre:=λW bs fs aj=>∃(l:List bj) (r:Int) (v:aM),fs=[.row 243 261 l.length (cw l),.val (.int .i64 r)]/\aj=[.val (.slice ay X.length c),.val v]/\EB v/\l.length+aG (rm v)<=4000000/\b0 W (Out bs) ay (cw X)
 out:=λ_=>layOut rm
 enters:=ly
 ok:=by
  intro W w bs u fp us fs aj ad H ax fi hu hp;obtain⟨l,r,v,rfl,rfl,ak,aN,V⟩:=hp
  match us,hu with
  |[x,y],hu=>obtain⟨rfl,rfl,_⟩:=hu;exact h _ ak l r u fp w aN H ax (V.mono (JI ad fi))
section
variable (X:List bj)(ay:dj)(c:Nat)(f:dr)(ly:∀args w,(callFunc f args).run prog w=.ok (.enter f args) w)(EB:Value->Prop)(rm:Value->bm)(h:∀v,EB v->G5 X ay c f v (rm v))
theorem Q6:(CN X ay c f ly EB rm h).T=64:=rfl
theorem Q7(W:ar):(CN X ay c f ly EB rm h).out W=layOut rm:=rfl
def Q8(W:ar)(bs:aD)(T s n:Nat)(vs:aX)(r:Int)(v:aM):(CN X ay c f ly EB rm h).pre W bs [.row T s n vs,r] [.val (.slice ay X.length c),.val v] =
  (T=243/\s=261/\(∃l:List bj,vs=cw l/\n=l.length)/\EB v/\n+aG (rm v)<=4000000/\b0 W (Out bs) ay (cw X)):=by
 apply propext;constructor
 ·rintro⟨l,bG,eT,D,O,B,aU,bn⟩;simp only[pZ,br.row.injEq,br.val.injEq,we]at D O;obtain⟨⟨rfl,rfl,rfl,rfl⟩,_⟩:=D;obtain⟨_,rfl⟩:=O;exact⟨rfl,rfl,⟨l,rfl,rfl⟩,B,aU,bn⟩
 ·rintro⟨rfl,rfl,⟨l,rfl,rfl⟩,B,aU,bn⟩;exact⟨l,r,v,rfl,rfl,B,aU,bn⟩
end
def EC(ah:List bU)(v:aM):bm:=match v with
 |.int _ x=>(ah.getD x.toNat .bV).expand
 |_=>.bV
theorem Q9(ah:List bU)(k:IntKind)(x:Int):EC ah (.int k x)=(ah.getD x.toNat .bV).expand:=rfl
def Nl(ah:List bU)(v:aM):bm:=.alt (EC ah v) .bV
def below(n:Nat)(v:aM):Prop:=∃x:Int,v=.int .i64 x/\0<=x/\x<n
def Ra(n:Nat)(x:Int):below n (.int .i64 x)=(0<=x/\x<n):=by
 apply propext;constructor
 ·rintro⟨y,h,D,O⟩;simp only[Value.int.injEq,yL]at h;subst h;exact⟨D,O⟩
 ·exact λh=>⟨x,rfl,h⟩
abbrev ED (X:List bj)(ah:List bU)(ay:dj)(c n:Nat):Prop:=∀v,below n v->G5 X ay c 124 v (EC ah v)
abbrev Wr (X:List bj)(ah:List bU)(ay:dj)(c n:Nat):Prop:=∀v,below n v->G5 X ay c 215 v (Nl ah v)
section
variable (X:List bj)(ah:List bU)(ay:dj)(c n:Nat)
abbrev Ws(h:ED X ah ay c n):Env prog:=a7 ((CN X ay c 124 call124 (below n) (EC ah) h).spec) (a7 Q4.spec aa)
def JJ:=(I (ch va vb vc @qa @pr.eq_1 @pt @qd @Q6) (de @Q7 @Q8 @Q5 @Ra @Q9))
def adY(aK:ED X ah ay c n):Wr X ah ay c n:=by
 rintro _ ⟨x,rfl,aB⟩ l r u fp w aN H ax V;have hM:aG (Nl ah (.int .i64 x))=aG (ah.getD x.toNat .bV).expand+1+1:=rfl
 have zx:∀m,dq m (Nl ah (.int .i64 x))=dq m (ah.getD x.toNat .bV).expand++([fT 0 0 0]++[fT 3 ((m+aG (ah.getD x.toNat .bV).expand-1:Nat):Int) ((m+aG (ah.getD x.toNat .bV).expand+1-1:Nat):Int)]):=λm=>rfl
 rw[zx,hM];rw[hM]at aN;have bJ:=uv (ah.getD x.toNat .bV).expand l.length;refine Vd (nt:=19) _ _ [.tmp 6] H ax func215 ?_;refine aA aa JJ ?_;refine aA (Ws X ah ay c n aK) JJ ?_;generalize(ah.getD x.toNat .bV).expand=T at *;refine aL (Ws X ah ay c n aK) JJ ?_ ?_
 ·exact⟨⟨l++dq l.length T,by rw[k1],by rw[ec,bJ],by rw[ec,bJ];omega⟩,aq,bq⟩
 refine aL (Ws X ah ay c n aK) JJ ?_ ?_
 ·exact⟨⟨l++dq l.length T++[fT 0 0 0],by rw[k1,k1,x5],by rw[ec,ec,bJ];rfl,by rw[ec,ec,bJ,sX];omega⟩,aq,bq⟩
 refine bf JJ ?_;have e:(l.length+(aG T+1+1)-1:Nat)=l.length+aG T+1:=U;have bN:(l.length+aG T+1-1:Nat)=l.length+aG T:=U;have dQ:l.length+(aG T+1+1)=l.length+aG T+1+1:=U;rw[e,bN,dQ,k1,as0,<- mJ,<- mJ];exact eC (I JJ @bQ)
end
theorem Nn(d:bj):partsOf (.v (.agg d.df.toArray))=List.map ag.v d.df:=rfl
def JK(d:bj):(List.map ag.v d.df).length=261:=by rw[lL,bj.CL]
theorem No(d:bj)(x:ag):(List.map ag.v d.df).getD 0 x=.v (.int .i64 d.op):=rfl
def Rb(d:bj)(x:ag)(j:Nat)(v:aM)(h:[Value.int .i64 d.a,.int .i64 d.b,.int .i64 d.m,.int .i64 d.n][j]?=some v):(List.map ag.v d.df).getD (257+j) x=.v v:=by rw[mI,yG,bj.Nh,h];rfl
def Np(d:bj)(x:ag):(List.map ag.v d.df).getD 257 x=.v (.int .i64 d.a):=Rb d x 0 _ rfl
def Nq(d:bj)(x:ag):(List.map ag.v d.df).getD 258 x=.v (.int .i64 d.b):=Rb d x 1 _ rfl
def Nr(d:bj)(x:ag):(List.map ag.v d.df).getD 259 x=.v (.int .i64 d.m):=Rb d x 2 _ rfl
def Ns(d:bj)(x:ag):(List.map ag.v d.df).getD 260 x=.v (.int .i64 d.n):=Rb d x 3 _ rfl
def adZ(x:bm)(m:Int):∀(j:Nat) (k:Int) (w:bm),aG w<=aG (pC x m j k w)
 |0,_,w=>eo _
 |j+1,k,w=>by have:=adZ x m j (k+1) (.cat w (kY x m k));show _<=aG (pC x m j (k+1) (.cat w (kY x m k)));have e:aG (.cat w (kY x m k))=aG w+aG (kY x m k)+1:=rfl;omega
def vz(o:Option bm):Nat:=o.elim 0 aG
def zy(m:Nat)(o:Option bm):List bj:=o.elim [] (dq m)
def EE(m:Nat)(o:Option bm):Int:=o.elim (-1) λw=>((m+aG w-1:Nat):Int)
def as1(m:Nat)(o:Option bm):(zy m o).length=vz o:=by
 cases o with
 |none=>rfl
 |some w=>exact uv w m
section
variable (X:List bj)(ah:List bU)(ay:dj)(c n:Nat)
abbrev JL(h:ED X ah ay c n)(bu:Wr X ah ay c n):Env prog:=a7 ((CN X ay c 124 call124 (below n) (EC ah) h).spec) (a7 ((CN X ay c 215 call215 (below n) (Nl ah) bu).spec) (a7 Q4.spec aa))
def hS:=(aT (ch va vb vc @qa @pr.eq_1 @pt @qd @Q6) (ch @Q7 @Q8 @Q5 @Ra @Q9 @No @Np @Nq) (b3 @Nr @Ns @JK @Nn))
def ad0(aK:ED X ah ay c n)(xK:Wr X ah ay c n)(d:bj)(aQ:0<=d.a/\d.a<n)(Ji:x0 d.m d.n):G5 X ay c 176 (.agg d.df.toArray) (qA (ah.getD d.a.toNat .bV).expand d.m d.n):=by
 intro l r u fp w aN H ax V;have GU:EC ah (.int .i64 d.a)=(ah.getD d.a.toNat .bV).expand:=rfl;have cm:Nl ah (.int .i64 d.a)=.alt (ah.getD d.a.toNat .bV).expand .bV:=rfl;refine Vd (nt:=79) _ _ [.tmp 6] H ax func176 ?_;unfold x0 at Ji;refine bk aa hS ?_
 generalize q8:(ah.getD d.a.toNat .bV).expand=aE5 at *
 refine fR ⟨20,bK [(0,.is (.v (.slice ay X.length c))),(2,.is (.own 0 0)),(4,.is (.own 8 0)),(7,(ie d.m))],bA [(0,.cells 64 [.ak 1,r]),(1,.row 243 261 l.length (List.map ag.v (cw l))),(8,.cells 243 (List.map ag.v d.df))]⟩ ?_ ?_
 ·skip;refine aR aa hS ?_ ?_<;>intro J
  ·have O:d.m=-2:=aC J
   rw[ie,al O];refine bY aa hS ?_;exact bh hS
  ·have O:¬d.m=-2:=aC J
   rw[ie,ab O];refine a1 ?_;exact bh hS
 refine ae.seq ?_;refine aR aa hS ?_ ?_<;>intro J
 ·have B:d.n<0/\ie d.m=0:=aC J
  have he:qA aE5 d.m d.n=.star aE5:=by rw[qA,al B]
  rw[he]at aN ⊢;have bJ:=uv aE5 l.length;have hM:aG (.star aE5)=aG aE5+1:=rfl;have zx:dq l.length (.star aE5)=dq l.length aE5++[fT 4 ((l.length+aG aE5-1:Nat):Int) 0]:=rfl;refine aL (JL X ah ay c n aK xK) (I hS q8) ?_ ?_
  ·exact⟨⟨⟨⟨l,rfl,rfl⟩,aQ,U,V⟩,aq,bq⟩,⟨l++dq l.length aE5,by rw[k1],by rw[ec,bJ],by rw[ec,bJ];omega⟩,aq,bq⟩
  refine bf hS ?_;rw[zx,hM,k1,x5,<- mJ,show l.length+(aG aE5+1)-1=l.length+aG aE5 by omega,show l.length+(aG aE5+1)=l.length+aG aE5+1 by omega];exact eC (I hS @bQ)
 have B:¬(d.n<0/\ie d.m=0):=by intro h;apply pY.1 J;simp[h.1,h.2]
 refine a1 ?_;refine ae.seq ?_;refine aR aa hS ?_ ?_<;>intro J
 ·have aU:d.n=0:=aC J
  have he:qA aE5 d.m d.n=.bV:=by rw[qA,ab B,al aU]
  rw[he]at aN ⊢;have hM:aG .bV=1:=rfl;have zx:dq l.length .bV=[fT 0 0 0]:=rfl;refine aA (JL X ah ay c n aK xK) hS ?_;refine bf hS ?_;rw[zx,hM,x5,Ij];exact eC (I hS @bQ)
 have aU:¬d.n=0:=aC J
 refine a1 ?_;have aD7:0<=ie d.m/\ie d.m<=255:=by unfold ie;split<;>omega
 obtain⟨qj,x6⟩:∃qj:Nat,(if d.n<0 then ie d.m else d.n)=(qj:Int):=⟨(if d.n<0 then ie d.m else d.n).toNat,by split<;>omega⟩;have aD8:1<=qj:=by
  by_cases h:d.n<0
  ·rw[al h]at x6;omega
  ·rw[ab h]at x6;omega
 have aD9:qj<=255:=by
  by_cases h:d.n<0
  ·rw[al h]at x6;omega
  ·rw[ab h]at x6;omega
 obtain⟨fin,Wt⟩:∃fin,fin=pC aE5 (ie d.m) (qj-1) 1 (kY aE5 (ie d.m) 0):=⟨_,rfl⟩;have he:qA aE5 d.m d.n=if d.n<0 then .cat fin (.star aE5) else fin:=by
  rw[qA,ab B,ab aU];by_cases h:d.n<0
  ·rw[al h]at x6;rw[al h,al h,Wt,x6,show((qj:Int)-1).toNat=qj-1 by omega]
  ·rw[ab h]at x6;rw[ab h,ab h,Wt,x6,show((qj:Int)-1).toNat=qj-1 by omega]
 have aEa:l.length+aG fin<=4000000:=by
  rw[he]at aN;by_cases h:d.n<0
  ·rw[al h]at aN;have:aG (.cat fin (.star aE5))=aG fin+(aG aE5+1)+1:=rfl;omega
  ·rw[ab h]at aN;exact aN
 refine aA aa hS ?_
 refine fR ⟨40,bK [(0,.is (.v (.slice ay X.length c))),(2,.is (.own 0 0)),(4,.is (.own 8 0)),(7,(ie d.m)),(8,qj)],bA [(0,.cells 64 [.ak 1,r]),(1,.row 243 261 l.length (List.map ag.v (cw l))),(8,.cells 243 (List.map ag.v d.df))]⟩ ?_ ?_
 ·skip;refine aR aa hS ?_ ?_<;>intro J
  ·have bn:d.n<0:=aC J
   rw[al bn]at x6;rw[<- x6];refine bY aa hS ?_;exact bh hS
  ·have bn:¬d.n<0:=aC J
   rw[ab bn]at x6;rw[<- x6];refine a1 ?_;exact bh hS
 refine gJ aa hS ?_
 refine ae.loop (λp:Nat×Option bm=>⟨60,bK [(0,.is (.v (.slice ay X.length c))),(2,.is (.own 0 0)),(4,.is (.own 8 0)),(7,(ie d.m)),(8,qj),(9,(EE l.length p.2)),(10,p.1)],bA [(0,.cells 64 [.ak 1,r]),(1,.row 243 261 (l.length+vz p.2) (List.map ag.v (cw l++cw (zy l.length p.2)))),(8,.cells 243 (List.map ag.v d.df))]⟩)
  (λp=>p.1<=qj/\match p.2 with|none=>p.1=0|some y=>1<=p.1/\pC aE5 (ie d.m) (qj-p.1) p.1 y=fin) (λp=>qj-p.1) (0,none) ?_ ⟨ef _,rfl⟩ ?_
 ·exact bh (hV hS @EE.eq_1 @vz.eq_1 @zy.eq_1 @Option.elim.eq_1.{0,1} @Option.elim.eq_2.{0,1} (show cw []=[] from rfl))
 rintro⟨k,o⟩ ⟨D,nT⟩;simp only at D nT;refine ae.seq ?_;refine aR aa hS ?_ ?_<;>intro J
 ·have ad:k<qj:=bt J
  refine gJ aa hS ?_;have cg:=as1 l.length o;have p9:∃kI,pC aE5 (ie d.m) (qj-(k+1)) (k+1:Nat) kI=fin/\(match o with|none=>kI=kY aE5 (ie d.m) k|some y=>kI=.cat y (kY aE5 (ie d.m) k)):=by
   cases o with
   |none=>simp only at nT;subst nT;exact⟨_,Wt.symm,rfl⟩
   |some y=>refine⟨_,?_,rfl⟩;have O:=nT.2;rw[show qj-k=(qj-(k+1))+1 by omega]at O;exact O
  obtain⟨kI,x7,EF⟩:=p9;have Ek:=adZ aE5 (ie d.m) (qj-(k+1)) (k+1:Nat) kI;rw[x7]at Ek;have EG:vz o+aG (kY aE5 (ie d.m) k)<=aG kI/\(o.isSome->vz o+aG (kY aE5 (ie d.m) k)+1<=aG kI):=by
   cases o with
   |none=>simp only at EF;subst EF;exact⟨by simp[vz],λh=>by cases h⟩
   |some y=>simp only at EF;subst EF;exact⟨by show aG y+_<=aG y+_+1;omega,λ_=>eo _⟩
  refine fR ⟨90,bK [(0,.is (.v (.slice ay X.length c))),(2,.is (.own 0 0)),(4,.is (.own 8 0)),(7,(ie d.m)),(8,qj),(9,(EE l.length o)),(10,k),(11,(l.length+vz o+aG (kY aE5 (ie d.m) k)-1:Nat))],bA [(0,.cells 64 [.ak 1,r]),(1,.row 243 261 (l.length+vz o+aG (kY aE5 (ie d.m) k)) (List.map ag.v (cw l++cw (zy l.length o)++cw (dq (l.length+vz o) (kY aE5 (ie d.m) k))))),(8,.cells 243 (List.map ag.v d.df))]⟩ ?_ ?_
  ·skip;refine aR aa hS ?_ ?_<;>intro J
   ·have bn:(k:Int)<ie d.m:=aC J
    have hp:kY aE5 (ie d.m) k=aE5:=by rw[kY,al bn]
    rw[hp]at EG ⊢;refine wr (JL X ah ay c n aK xK) (I hS q8) ?_ ?_
    ·exact⟨⟨⟨l++zy l.length o,by rw[k1],by rw[ec,cg]⟩,aQ,U,V⟩,aq,bq⟩
    exact b8 (λx=>if x=1 then .key 568 else .key x) hS
   ·have bn:¬(k:Int)<ie d.m:=aC J
    have hp:kY aE5 (ie d.m) k=.alt aE5 .bV:=by rw[kY,ab bn]
    rw[hp]at EG ⊢;refine wr (JL X ah ay c n aK xK) (I hS cm) ?_ ?_
    ·exact⟨⟨⟨l++zy l.length o,by rw[k1],by rw[ec,cg]⟩,aQ,U,V⟩,aq,bq⟩
    exact b8 (λx=>if x=1 then .key 568 else .key x) hS
  generalize kY aE5 (ie d.m) k=q at *;have z:=qF q;cases o with
  |none=>
   simp only at EF nT;subst EF nT;have bg:EE l.length (none:Option bm)=-1:=rfl;have bN:cw l++cw (zy l.length (none:Option bm))=cw l:=yI _;have dQ:l.length+vz (none:Option bm)=l.length:=rfl;rw[bg,bN,dQ];refine aR aa hS ?_ ?_<;>intro J
   rotate_left
   ·exfalso;simp at J
   refine bY aa hS ?_;refine bY aa hS ?_;refine⟨(1,some kI),⟨U,eo _,x7⟩,U,?_⟩;exact b8 (λx=>.key x) (eI hS @EE.eq_1 @vz.eq_1 @zy.eq_1 @Option.elim.eq_1.{0,1} @Option.elim.eq_2.{0,1})
  |some y=>
   simp only at EF nT;have bg:EE l.length (some y)=((l.length+aG y-1:Nat):Int):=rfl;have bN:zy l.length (some y)=dq l.length y:=rfl;have dQ:vz (some y)=aG y:=rfl;have as2 := EG.2 rfl;rw[bg,bN,dQ];rw[dQ]at as2;have x8:=uv y l.length;have oB:=uv q (l.length+aG y);refine aR aa hS ?_ ?_<;>intro J
   ·exfalso;simp at J;omega
   refine wr (JL X ah ay c n aK xK) hS ?_ ?_
   ·exact⟨⟨l++dq l.length y++dq (l.length+aG y) q,by rw[k1,k1],by rw[ec,ec,x8,oB],by rw[ec,ec,x8,oB];omega⟩,aq,bq⟩
   have dM:=fK k;refine bY aa (I hS dM) ?_;subst EF;refine⟨(k+1,some (.cat y q)),⟨U,by simp only;omega,x7⟩,by simp only;omega,?_⟩;have f1:EE l.length (some (.cat y q))=((l.length+aG y+aG q:Nat):Int):=by
    show((l.length+(aG y+aG q+1)-1:Nat):Int)=_
    congr 1;omega
   have f2:l.length+vz (some (.cat y q))=l.length+aG y+aG q+1:=by show l.length+(aG y+aG q+1)=_;omega
   have f3:cw l++cw (zy l.length (some (.cat y q)))=cw l++cw (dq l.length y)++cw (dq (l.length+aG y) q)++(fT 2 ((l.length+aG y-1:Nat):Int) ((l.length+aG y+aG q-1:Nat):Int)).df:=by show cw l++cw (dq l.length y++(dq (l.length+aG y) q++[_]))=_;rw[k1,k1,x5];simp only[mJ]
   exact b8 (λx=>if x=1 then .key 760 else .key x) (b3 hS f1 f2 f3)
 ·have ad:k=qj:=bt J
  subst ad;refine c6 ?_;cases o with
  |none=>simp only at nT;omega
  |some y=>
   simp only at nT;have cG:y=fin:=by have:=nT.2;rw[FF]at this;exact this
   subst cG;have bg:EE l.length (some y)=((l.length+aG y-1:Nat):Int):=rfl;have bN:zy l.length (some y)=dq l.length y:=rfl;have dQ:vz (some y)=aG y:=rfl;rw[bg,bN,dQ];have x8:=uv y l.length;refine ae.seq ?_;refine aR aa hS ?_ ?_<;>intro J
   ·have bn:d.n<0:=aC J
    rw[al bn]at he;rw[he]at aN ⊢;have hM:aG (.cat y (.star aE5))=aG y+(aG aE5+1)+1:=rfl;have oB:=uv aE5 (l.length+aG y);refine wr (JL X ah ay c n aK xK) (I hS q8) ?_ ?_
    ·refine⟨⟨⟨⟨l++dq l.length y,by rw[k1],by rw[ec,x8]⟩,aQ,U,V⟩,aq,bq⟩,
      ⟨⟨l++dq l.length y++dq (l.length+aG y) aE5,by rw[k1,k1],by rw[ec,ec,x8,oB],by rw[ec,ec,x8,oB];omega⟩,aq,bq⟩,
      ⟨l++dq l.length y++dq (l.length+aG y) aE5++[fT 4 ((l.length+aG y+aG aE5-1:Nat):Int) 0],by rw[k1,k1,k1,x5],by rw[ec,ec,ec,x8,oB,sX],by rw[ec,ec,ec,x8,oB,sX];omega⟩,aq,bq⟩
    refine aA aa hS ?_;refine bf hS ?_;have g1:l.length+aG (.cat y (.star aE5))=l.length+aG y+aG aE5+1+1:=by rw[hM];omega
    have g2:l.length+aG y+aG aE5+1+1-1=l.length+aG y+aG aE5+1:=U;have g3:cw l++cw (dq l.length (.cat y (.star aE5)))=cw l++cw (dq l.length y)++cw (dq (l.length+aG y) aE5)++(fT 4 ((l.length+aG y+aG aE5-1:Nat):Int) 0).df++(fT 2 ((l.length+aG y-1:Nat):Int) ((l.length+aG y+aG aE5:Nat):Int)).df:=by show cw l++cw (dq l.length y++((dq (l.length+aG y) aE5++[_])++[_]))=_;rw[k1,k1,k1,x5,x5];simp only[mJ];rw[show l.length+aG y+aG (.star aE5)-1=l.length+aG y+aG aE5 from rfl]
    rw[g1,g2,g3];exact eC (I hS @bQ)
   ·have bn:¬d.n<0:=aC J
    rw[ab bn]at he;rw[he]at aN ⊢;refine bk aa hS ?_;refine bf hS ?_;exact eC (I hS @bQ)
end
def jT.xA{X:List bj}{ah:List bU}(h:jT X ah):∀k (ad:k<X.length),∃t,ah[k]?=some t/\qE (ah.take k) X[k] t:=by
 induction h with
 |nil=>intro k ad;cases ad
 |@snoc X ah d t aQ aE bb=>
  intro k ad;by_cases ax:k<X.length
  ·obtain⟨eU,D,O⟩:=bb k ax;have aN:=aQ.len;refine⟨eU,by rw[BL U];exact D,?_⟩;rw[Fx ax,List.take_append_of_le_length U];exact O
  ·have e4:k=X.length:=bt ad
   subst e4;have aN:=aQ.len;refine⟨t,by rw[<- aN];simp,?_⟩;have e:(ah++[t]).take X.length=ah:=by rw[<- aN,TE]
   rw[K4 (eo _),e];simpa using aE
def Wu{w:ar}{b:Nat}:∀(vs:aX) (o:Nat),(∀j (h:j<vs.length),w.cell? ⟨b,o+j,none⟩=some vs[j])->mb w b o vs.length=List.map ag.v vs/\p2 w b o vs.length
 |[],_,_=>⟨rfl,trivial⟩
 |v::r,o,h=>by
  have A:=h 0 bq;have aI:=Wu r (o+1) λj Y=>by have:=h (j+1) (aC Y);rw[show o+(j+1)=o+1+j by omega]at this;simpa using this
  rw[tT]at A;simp only[ZH]at A;rw[l9];exact⟨by rw[mb,A,aI.1];rfl,by rw[p2,A];exact⟨rfl,aI.2⟩⟩
def x9{S:aY}{l:List bj}(h:b0 w S ay (cw l)){k:Nat}(ad:k<l.length):∃b o,ay=some ⟨b,o,none⟩/\S b/\mb w b (o+k*261) 261=List.map ag.v l[k].df/\(p2 w b (o+k*261) 261)=True:=by
 have aN:=Na l;rcases h with h|⟨b,o,rfl,J⟩
 ·rw[h]at aN;simp at aN;omega
 ·have A:=J 0 U;have:=Wu (w:=w) (b:=b) l[k].df (o+k*261) λj Y=>by
   rw[bj.CL]at Y;have D:=J (k*261+j) U;have O:=Wp l k j ad Y;rw[uS U,uS (by rw[bj.CL];exact Y)]at O;simp only[qo]at O;rw[<- O,<- D.2,Le]
  rw[bj.CL]at this;exact⟨b,o,rfl,A.1,this.1,DF this.2⟩
def Rc(d:bj):List.take 256 (List.drop 1 (List.map ag.v d.df))=List.map ag.v (dS d.set.getLsbD):=by
 have e:List.drop 1 (List.map ag.v d.df)=List.map ag.v (dS d.set.getLsbD)++List.map ag.v [.int .i64 d.a,.int .i64 d.b,.int .i64 d.m,.int .i64 d.n]:=by show List.map ag.v (dS d.set.getLsbD++_)=_;rw[sY]
 rw[e,O2 (by rw[vv])]
def Rd(d:bj):List.take 261 (List.map ag.v d.df)=List.map ag.v d.df:=ZG (by rw[JK];omega)
def Re(op:Int)(S:dc):s3 prog 243 [0,1] [.v (.int .i64 op),.agg (List.map ag.v (dS S.getLsbD))]=⟨True,.agg ((⟨op,S,0,0,0,0⟩:bj).df.map .v),[],none,[],[]⟩:=by kernel_rfl
def qE.leaf{ah:List bU}(h:qE ah d t)(O:d.op<2):(∀m,dq m t.expand=[⟨d.op,d.set,0,0,0,0⟩])/\aG t.expand=1:=by
 cases h with
 |bV A D=>exact⟨λm=>by rw[A,D];rfl,rfl⟩
 |cls A=>exact⟨λm=>by rw[A];rfl,rfl⟩
 |cat a b A|alt a b A|and a b A|minus a b A|rep a A=>omega
def qE.two{ah:List bU}(h:qE ah d t)(O:2<=d.op)(c1:d.op≠7):∃a b,ah[d.a.toNat]?=some a/\ah[d.b.toNat]?=some b/\aG t.expand=aG a.expand+aG b.expand+1 /\
  ∀m,dq m t.expand=dq m a.expand++(dq (m+aG a.expand) b.expand++[fT d.op ((m+aG a.expand-1:Nat):Int) ((m+aG a.expand+aG b.expand-1:Nat):Int)]):=by
 cases h with
 |bV A|cls A=>omega
 |cat a b A _ D _ O=>exact⟨a,b,D,O,rfl,λm=>by rw[A];rfl⟩
 |alt a b A _ D _ O=>exact⟨a,b,D,O,rfl,λm=>by rw[A];rfl⟩
 |and a b A _ D _ O=>exact⟨a,b,D,O,rfl,λm=>by rw[A];rfl⟩
 |minus a b A _ D _ O=>exact⟨a,b,D,O,rfl,λm=>by rw[A];rfl⟩
 |rep a A=>exact absurd A c1
def qE.seven{ah:List bU}(h:qE ah d t)(c1:d.op=7):∃a,ah[d.a.toNat]?=some a/\t.expand=qA a.expand d.m d.n:=by
 cases h with
 |bV A|cls A|cat a b A|alt a b A|and a b A|minus a b A=>omega
 |rep a A _ D _=>exact⟨a,D,rfl⟩
def Rf:List.drop 260 (List.map ag.v (List.replicate 256 (Value.bool false)++[Value.int .i64 0]++[Value.int .i64 0]++[Value.int .i64 0]++[Value.int .i64 0]))=[]:=by apply K5;simp
section
variable (X:List bj)(ah:List bU)(ay:dj)(c n:Nat)(d:bj)
abbrev Wv:Prop:=∀v,v=.agg d.df.toArray->G5 X ay c 176 v ((λ_=>qA (ah.getD d.a.toNat .bV).expand d.m d.n) v)
abbrev Rg(h:ED X ah ay c n)(bu:Wv X ah ay c d):Env prog:=a7 ((CN X ay c 124 call124 (below n) (EC ah) h).spec) (a7 ((CN X ay c 176 call176 (λv=>v=.agg d.df.toArray) (λ_=>qA (ah.getD d.a.toNat .bV).expand d.m d.n) bu).spec) (a7 Q4.spec aa))
def oC:=(b3 (ch va vb vc @qa @pr.eq_1 @pt @qd @Q6) (ch @Q7 @Q8 @Q5 @Ra @Q9 @No @Np @Nq) (ch @Nr @Ns @JK @Nn @JC @JD @Rc @Re) (aT @Rf @Rd @bQ))
def as3(Nt:jT X ah)(k:Nat)(ad:k<X.length)(aK:ED X ah ay c k):G5 X ay c 124 (.int .i64 k) (ah.getD k .bV).expand:=by
 obtain⟨t,aV,G3⟩:=Nt.xA k ad;have As:(ah.getD k .bV)=t:=by rw[mI,aV];rfl
 have bW:=Nt.ok k ad;have at':∀(x:Int) (a:bU),(ah.take k)[x.toNat]?=some a->ah.getD x.toNat .bV=a:=λx a aB=>by
  rw[Ig]at aB;split at aB
  ·rw[mI,aB];rfl
  ·cases aB
 rw[As];intro l r u fp w aN H ax V;obtain⟨b,o,JM,Z,bD,cq⟩:=x9 V ad;have as4:Wv X ah ay c X[k]\/X[k].op≠7:=by
  by_cases c1:X[k].op=7
  ·left;rintro _ rfl;exact ad0 X ah ay c k aK (adY X ah ay c k aK) X[k] (bW.2.1 U) (bW.2.2.2 c1)
  ·exact .inr c1
 generalize X[k]=d at *;refine Vd (nt:=61) _ _ [.tmp 6] H ax func124 ?_;subst JM;refine aA aa oC ?_;refine ae.s7 aa bX (xQ oC (I bD cq)) rfl ?_ ?_
 ·exact⟨U,Z,bq,bj.pG d⟩
 refine ti aa oC ?_;have aEb:∀m:Nat,aG t.expand=1->l.length+aG t.expand-1=l.length:=λ_ h=>by omega
 have leaf:d.op<2->True:=λ_=>trivial
 refine bC oC ?_ ?_<;>intro J
 ·have A:d.op=0:=aC J
  obtain⟨zx,hM⟩:=G3.leaf U;refine a1 ?_;refine bC oC ?_ ?_<;>intro J
  rotate_left
  ·exfalso;simp[A]at J
  rw[zx,hM,<- k1,Ij];refine dh aa oC ?_ ?_
  ·exact⟨bq,by unfold maxLen;omega,U,bj.pG _⟩
  have dp:=iv (((l.length+1:Nat):Int)-1) ((l.length:Nat):Int);refine aA aa (I oC dp) ?_;refine bf oC ?_;exact eC (I oC @bQ)
 ·have A:¬d.op=0:=aC J
  refine bY aa oC ?_;refine bC oC ?_ ?_<;>intro J
  ·have D:d.op=1:=aC J
   obtain⟨zx,hM⟩:=G3.leaf U;rw[zx,hM,<- k1,Ij];refine dh aa oC ?_ ?_
   ·exact⟨bq,by unfold maxLen;omega,U,bj.pG _⟩
   have dp:=iv (((l.length+1:Nat):Int)-1) ((l.length:Nat):Int);refine aA aa (I oC dp) ?_;refine bf oC ?_;exact eC (I oC @bQ)
  have D:¬d.op=1:=aC J
  refine aR aa oC ?_ ?_<;>intro J
  ·have c1:d.op=7:=aC J
   obtain⟨a,g1,g2⟩:=G3.seven c1;have g3:=at' _ _ g1;have Nu := as4.resolve_right (λh=>h c1);rw[g2]at aN ⊢;rw[<- g3]at aN ⊢;refine aA (Rg X ah (some ⟨b,o,none⟩) c k d aK Nu) oC ?_;refine bf oC ?_;exact eC (I oC @bQ)
  have c1:¬d.op=7:=aC J
  obtain⟨a,cn,g1,g2,hM,zx⟩:=G3.two U c1;have g3:=at' _ _ g1;have g4:=at' _ _ g2;have aQ:=bW.2.1 U;have dO := bW.2.2.1 U c1;have x8:=uv a.expand l.length;have oB:=uv cn.expand (l.length+aG a.expand);rw[zx,hM];rw[hM]at aN;have Nu:Wv X ah (some ⟨b,o,none⟩) c ⟨7,0,d.a,0,0,0⟩:=by rintro _ rfl;exact ad0 X ah _ c k aK (adY X ah _ c k aK) ⟨7,0,d.a,0,0,0⟩ aQ (.inr (by show(0:Int)<=0/\(0:Int)<=255/\(0:Int)<=255/\((0:Int)=-1\/(0:Int)<=0/\(0:Int)<=0);omega))
  refine bk (Rg X ah (some ⟨b,o,none⟩) c k ⟨7,0,d.a,0,0,0⟩ aK Nu) (I oC g3) ?_;refine aL (Rg X ah (some ⟨b,o,none⟩) c k ⟨7,0,d.a,0,0,0⟩ aK Nu) (I oC g4) ?_ ?_
  ·exact⟨⟨⟨l++dq l.length a.expand,by rw[k1],by rw[ec,x8]⟩,dO,U,V⟩,aq,bq⟩
  refine aL (Rg X ah (some ⟨b,o,none⟩) c k ⟨7,0,d.a,0,0,0⟩ aK Nu) oC ?_ ?_
  ·exact⟨⟨l++dq l.length a.expand++dq (l.length+aG a.expand) cn.expand,by rw[k1,k1],by rw[ec,ec,x8,oB],by rw[ec,ec,x8,oB];omega⟩,aq,bq⟩
  refine bf oC ?_;have e:l.length+(aG a.expand+aG cn.expand+1)=l.length+aG a.expand+aG cn.expand+1:=U;rw[e,Ij,k1,k1,x5,<- mJ,<- mJ];exact eC (I oC @bQ)
def ad1(Nt:jT X ah):∀n,n<=X.length->ED X ah ay c n
 |0,_=>by rintro _ ⟨x,rfl,aB⟩;omega
 |n+1,aE=>by
  have bb:=ad1 Nt n U;rintro _ ⟨x,rfl,aB⟩;by_cases h:x<n
  ·exact bb _ ⟨x,rfl,aB.1,h⟩
  ·have e:x=(n:Int):=U;subst e;exact as3 X ah ay c Nt n U bb
end
end
section
def h4(r:cH):Prop:=r.1=fz (aG r.2)
def h4.leaf{t:bm}(h:aG t=1):h4 (ht t):=by show 1=fz (aG t);rw[h];rfl
def h4.join{mk:bm->bm->bm}(hm:∀x y,aG (mk x y)=aG x+aG y+1){a b:cH}(aQ:h4 a)(Z:h4 b):h4 (eV mk a b):=by
 show fz (1+a.1+b.1)=fz (aG (mk a.2 b.2));rw[hm,aQ,Z,acO,acN]
 congr 1
 omega
def h4.star{a:cH}(aQ:h4 a):h4 (qf a):=by show fz (1+a.1)=fz (aG a.2+1);rw[aQ];unfold fz;omega
def h4.maybe{a:cH}(aQ:h4 a):h4 (jx a):=h4.join (λ_ _=>rfl) aQ (h4.leaf rfl)
def h4.iter{f:cH->cH}(aW:∀x,h4 x->h4 (f x)):∀(k:Nat) {x:cH},h4 x->h4 (gk f k x)
 |0,_,h=>h
 |k+1,_,h=>h4.iter aW k (aW _ h)
def h4.times{a:cH}(aQ:h4 a)(m n:Int):h4 (nO a m n):=by
 have D:h4 (if m=0 then jx a else a):=by split;exact aQ.maybe;exact aQ
 have O:h4 (gk (λx=>eV .cat x a) (m-1).toNat (if m=0 then jx a else a)):=h4.iter (λx aB=>h4.join (λ_ _=>rfl) aB aQ) _ D;unfold nO;split
 ·exact aQ.star
 ·split
  ·exact h4.leaf rfl
  ·split
   ·exact h4.join (λ_ _=>rfl) O aQ.star
   ·exact h4.iter (λx aB=>h4.join (λ_ _=>rfl) aB aQ.maybe) _ O
theorem bU.Gw(t:bU):t.aw<=2001:=by
 cases t with
 |bV=>decide
 |cls S=>show 1<=2001;decide
 |cat a b=>exact Cs _
 |alt a b=>exact Cs _
 |and a b=>exact Cs _
 |minus a b=>exact Cs _
 |rep a m n=>exact Cs _
theorem qE.size{ah:List bU}{d:bj}{t:bU}(h:qE ah d t)(kD:∀s∈ah,h4 s.val):h4 t.val:=by
 have at':∀{x:Nat} {a:bU},ah[x]?=some a->h4 a.val:=λh=>kD _ (si h)
 cases h with
 |bV A D=>exact h4.leaf rfl
 |cls A=>exact h4.leaf rfl
 |cat a b _ _ D _ O=>exact h4.join (mk:=.cat) (λ_ _=>rfl) (at' D) (at' O)
 |alt a b _ _ D _ O=>exact h4.join (mk:=.alt) (λ_ _=>rfl) (at' D) (at' O)
 |and a b _ _ D _ O=>exact h4.join (mk:=.and) (λ_ _=>rfl) (at' D) (at' O)
 |minus a b _ _ D _ O=>exact h4.join (mk:=.minus) (λ_ _=>rfl) (at' D) (at' O)
 |rep a _ _ D O=>
  rcases O with⟨bg,bN⟩|⟨g0,_,_,g1⟩
  ·rw[bg,bN,<- acR];exact h4.join (λ_ _=>rfl) (at' D) (at' D).star
  ·rw[<- acT a d.m d.n g0 g1 a.Gw];exact(at' D).times _ _
theorem jT.size{X:List bj}{ah:List bU}(h:jT X ah):∀t∈ah,h4 t.val:=by
 induction h with
 |nil=>intro t aV;cases aV
 |snoc aQ aE bb=>
  intro s V;rcases hq.1 V with V|V
  ·exact bb s V
  ·rw[l8.1 V];exact aE.size bb
theorem jT.small{X:List bj}{ah:List bU}(h:jT X ah){t:bU}(aV:t∈ah)(V:t.aw<=2000):aG t.expand<=2000:=by have:=h.size t aV;have e:t.aw=fz (aG t.expand):=this;unfold fz at e;omega
end
section
open Go.RowKit Go.LE Go.Proofs.Tryz
set_option maxRecDepth 10000
variable{s:ao}{X:List bj}{i N n:Int}{W w:ar}{rest:List cD}{c:Int->Int}{bs fp:aD}{u:Nat}
def A6(n:Int):UInt8:=if n<10 then(48+n).toNat.toUInt8 else(87+n).toNat.toUInt8
def hG(b:Int)(barred:Bool):ByteArray:=
 if b=10 then⟨#[92,110]⟩ else if b=13 then⟨#[92,114]⟩ else if b=9 then⟨#[92,116]⟩
 else if b<32\/126<b then⟨#[92,120,A6 (b/16),A6 (b%16)]⟩
 else if barred=true then⟨#[92,b.toNat.toUInt8]⟩ else⟨#[b.toNat.toUInt8]⟩
def G6(b:Int)(q:Bool):(hG b q).size<=4:=by
 unfold hG
 repeat' split
 all_goals(show Array.size _<=4;simp)
def oX(S:dc):Nat->Nat
 |0=>0
 |n+1=>oX S n+if S.getLsbD n=true then 1 else 0
def pH(S:dc):Nat:=oX S 256
def Ww(S:dc)(n:Nat):oX S n<=n:=by
 induction n with
 |zero=>exact eo _
 |succ n bb=>unfold oX;split<;>omega
def CO(S:dc):Nat->Nat->Nat
 |0,b=>b
 |k+1,b=>if S.getLsbD b=true then b else CO S k (b+1)
def A7(S:dc):Nat:=CO S 256 0
def ad2(S:dc):∀k b,b<=CO S k b/\CO S k b<=b+k
 |0,b=>⟨eo _,eo _⟩
 |k+1,b=>by
  unfold CO;split
  ·omega
  ·have:=ad2 S k (b+1);omega
def ad3(S:dc)(b:Nat)(Z:b<256)(D:∀j<b,S.getLsbD j=false)(O:S.getLsbD b=true):A7 S=b:=by
 have key:∀k j,j+k=256->j<=b->CO S k j=b:=by
  intro k
  induction k with
  |zero=>intro j Y as5;omega
  |succ k bb=>
   intro j Y as5;unfold CO;by_cases e:j=b
   ·subst e;rw[al O]
   ·rw[ab (by rw[D j U];simp)];exact bb (j+1) U U
 exact key 256 0 rfl (ef _)
def ad4(S:dc)(n:Nat)(h:∀j<n,S.getLsbD j=false):oX S n=0:=by
 induction n with
 |zero=>rfl
 |succ n bb=>unfold oX;rw[bb λj Y=>h j U,h n U];rfl
def tt(T:dc):Nat->Nat->Nat
 |0,b=>b
 |k+1,b=>if T.getLsbD (b+1)=true then tt T k (b+1) else b
def nU(T:dc)(b:Nat):Nat:=tt T (255-b) b
def ad5(T:dc)(b:Nat)(Z:b<255)(h:T.getLsbD (b+1)=true):nU T b=nU T (b+1):=by unfold nU;rw[show 255-b=(255-(b+1))+1 by omega,tt,al h]
def ad6(T:dc)(b:Nat)(h:b<255->T.getLsbD (b+1)=false):nU T b=b:=by
 unfold nU;by_cases Z:b<255
 ·rw[show 255-b=(255-(b+1))+1 by omega,tt,ab (by rw[h Z];simp)]
 ·rw[show 255-b=0 by omega,tt]
def ad7(T:dc)(b:Nat)(Z:b<256):b<=nU T b/\nU T b<256:=by
 have key:∀k j,b<=j->j+k<=255->b<=tt T k j/\tt T k j<256:=by
  intro k
  induction k with
  |zero=>intro j D O;exact⟨D,by rw[tt];omega⟩
  |succ k bb=>
   intro j D O;unfold tt;split
   ·exact bb (j+1) U U
   ·omega
 exact key (255-b) b (eo _) U
def as6(T:dc)(b j:Nat)(Z:b<256)(A:T.getLsbD b=true)(D:b<=j)(O:j<=nU T b):T.getLsbD j=true:=by
 have key:∀k i,T.getLsbD i=true->i<=j->j<=tt T k i->T.getLsbD j=true:=by
  intro k
  induction k with
  |zero=>intro i hi D O;rw[tt]at O;have:i=j:=U;rw[<- this];exact hi
  |succ k bb=>
   intro i hi D O;unfold tt at O;by_cases e:i=j
   ·rw[<- e];exact hi
   ·split at O
    ·rename_i aE;exact bb (i+1) aE U O
    ·omega
 exact key _ b A D O
def as7(T:dc)(b:Nat)(Z:b<256)(h:nU T b<255):T.getLsbD (nU T b+1)=false:=by
 have key:∀k i,i+k=255->tt T k i<255->T.getLsbD (tt T k i+1)=false:=by
  intro k
  induction k with
  |zero=>intro i D O;rw[tt]at O;omega
  |succ k bb=>
   intro i D O;unfold tt at O ⊢;split at O
   ·rename_i aE;rw[al aE];exact bb (i+1) U O
   ·rename_i aE;rw[ab aE];simpa using aE
 exact key (255-b) b U h
def ya:ByteArray:=⟨#[45]⟩
def G7(out:ao)(b e:Nat):ByteArray:=if b<e then(if b+1<e then out++hG b (hR iw b)++ya else out++hG b (hR iw b))++hG e (hR iw e) else out++hG b (hR iw b)
def as8(out:ao)(b e:Nat):(G7 out b e).size<=out.size+9:=by
 have D:=G6 b (hR iw b);have O:=G6 e (hR iw e);have B:ya.size=1:=rfl;unfold G7
 repeat' split
 all_goals simp only[dU];omega
def yb(T:dc)(b:Nat):Bool:=T.getLsbD b&&(b==0||!T.getLsbD (b-1))
def jU(T:dc)(pre:ao):Nat->ByteArray
 |0=>pre
 |b+1=>if yb T b=true then G7 (jU T pre b) b (nU T b) else jU T pre b
def JN(T:dc)(pre:ao)(b:Nat):(jU T pre b).size<=pre.size+9*b:=by
 induction b with
 |zero=>simp[jU]
 |succ b bb=>
  unfold jU;split
  ·have:=as8 (jU T pre b) b (nU T b);omega
  ·omega
def as9(T:dc)(pre:ao)(b:Nat)(Z:b<256)(A:T.getLsbD b=true):∀j,b<j->j<=nU T b+1->jU T pre j=jU T pre (b+1):=by
 intro j
 induction j with
 |zero=>intro h;omega
 |succ j bb=>
  intro D O;by_cases e:j=b
  ·rw[e]
  ·have V:yb T j=false:=by
    have g1:=as6 T b (j-1) Z A U U;unfold yb;rw[g1];have:(j==0)=false:=by simp;omega
    rw[this];simp
   rw[jU,ab (by rw[V];simp)];exact bb U U
def G8:ByteArray:=⟨#[91]⟩
def G9:ByteArray:=⟨#[91,94]⟩
def Rh:ByteArray:=⟨#[93]⟩
def tu(S:dc):ByteArray:=
 if pH S=1 then hG (A7 S) (hR qC (A7 S))
 else(if 128<pH S then jU (~~~S) G9 256 else jU S G8 256)++Rh
def ata(S:dc):(tu S).size<=2400:=by
 have A:G9.size=2:=rfl;have D:G8.size=1:=rfl;have O:Rh.size=1:=rfl;unfold tu;split
 ·have:=G6 (A7 S) (hR qC (A7 S));omega
 ·rw[dU];split
  ·have:=JN (~~~S) G9 256;omega
  ·have:=JN S G8 256;omega
def mT:bm->Int
 |.bV=>4
 |.cls _=>4
 |.cat _ _=>2
 |.alt _ _=>0
 |.star _=>3
 |.and _ _=>1
 |.minus _ _=>1
def Ri:ByteArray:=⟨#[40]⟩
def Rj:ByteArray:=⟨#[41]⟩
def atb:ByteArray:=⟨#[40,41]⟩
def ad8:ByteArray:=⟨#[124]⟩
def ad9:ByteArray:=⟨#[38]⟩
def aea:ByteArray:=⟨#[42]⟩
def sG(r fL:Int)(s:ao):ByteArray:=if r<fL then Ri++s++Rj else s
def iG:bm->ByteArray
 |.bV=>atb
 |.cls S=>tu S
 |.cat a b=>sG (mT a) 2 (iG a)++sG (mT b) 3 (iG b)
 |.alt a b=>sG (mT a) 0 (iG a)++ad8++sG (mT b) 1 (iG b)
 |.star a=>sG (mT a) 3 (iG a)++aea
 |.and a b=>sG (mT a) 1 (iG a)++ad9++sG (mT b) 2 (iG b)
 |.minus a b=>sG (mT a) 1 (iG a)++ya++sG (mT b) 2 (iG b)
def rX(t:bm)(fL:Int):ByteArray:=sG (mT t) fL (iG t)
def A8(r fL:Int)(s:ao):(sG r fL s).size<=s.size+2:=by
 have D:Ri.size=1:=rfl;have O:Rj.size=1:=rfl;unfold sG;split
 ·rw[dU,dU];omega
 ·omega
theorem vA:∀t:bm,(iG t).size<=2400*aG t
 |.bV=>by show 2<=2400*1;omega
 |.cls S=>by have:=ata S;show(tu S).size<=2400*1;omega
 |.cat a b=>by have D:=vA a;have O:=vA b;have B:=A8 (mT a) 2 (iG a);have aU:=A8 (mT b) 3 (iG b);have bn:aG (.cat a b)=aG a+aG b+1:=rfl;unfold iG;rw[dU];omega
 |.alt a b=>by have D:=vA a;have O:=vA b;have B:=A8 (mT a) 0 (iG a);have aU:=A8 (mT b) 1 (iG b);have bn:aG (.alt a b)=aG a+aG b+1:=rfl;have cA:ad8.size=1:=rfl;unfold iG;rw[dU,dU];omega
 |.star a=>by have D:=vA a;have B:=A8 (mT a) 3 (iG a);have bn:aG (.star a)=aG a+1:=rfl;have cA:aea.size=1:=rfl;unfold iG;rw[dU];omega
 |.and a b=>by have D:=vA a;have O:=vA b;have B:=A8 (mT a) 1 (iG a);have aU:=A8 (mT b) 2 (iG b);have bn:aG (.and a b)=aG a+aG b+1:=rfl;have cA:ad9.size=1:=rfl;unfold iG;rw[dU,dU];omega
 |.minus a b=>by have D:=vA a;have O:=vA b;have B:=A8 (mT a) 1 (iG a);have aU:=A8 (mT b) 2 (iG b);have bn:aG (.minus a b)=aG a+aG b+1:=rfl;have cA:ya.size=1:=rfl;unfold iG;rw[dU,dU];omega
def Nv(k a b c d:Nat)(J:c<2^k)(ak:d<2^k):(2^k*a+c) &&& (2^k*b+d)=2^k*(a &&& b)+(c &&& d):=by
 have he:(c &&& d)<2^k:=Nat.lt_of_le_of_lt Nat.and_le_left J;apply Nat.eq_of_testBit_eq;intro j;rw[TD,K3 a J,K3 b ak,K3 _ he];by_cases h:j<k
 ·rw[al h,al h,al h,TD]
 ·rw[ab h,ab h,ab h,TD]
def A9:Nat->Nat
 |0=>0
 |n+1=>4*A9 n+1
def f0(n x:Nat):Nat:=((x/2) &&& A9 n)+(x &&& A9 n)
def atc(x:Nat):f0 0 x=0:=by simp[f0,A9]
def Rk(n q d:Nat)(ak:d<4):f0 (n+1) (4*q+d)=4*f0 n q+(d/2+d%2):=by
 have D:(4*q+d)/2=2^2*(q/2)+(2*(q%2)+d/2):=U;have O:=Nv 2 (q/2) (A9 n) (2*(q%2)+d/2) 1 U U;have B:=Nv 2 q (A9 n) d 1 U U;have aU:(2*(q%2)+d/2) &&& 1=d/2:=by rw[Nat.and_one_is_mod];omega
 have bn:d &&& 1=d%2:=Nat.and_one_is_mod d;rw[aU]at O;rw[bn]at B;unfold f0;rw[D,A9];rw[show 4*A9 n+1=2^2*A9 n+1 by omega,show 4*q+d=2^2*q+d by omega,O,B];omega
def atd(n q b:Nat)(Z:b<256):f0 (n+4) (256*q+b)=256*f0 n q+f0 4 b:=by
 have key:∀m r,f0 (m+4) (256*r+b)=256*f0 m r+(64*(b/64/2+b/64%2)+(16*(b/16%4/2+b/16%4%2)+(4*(b/4%4/2+b/4%4%2)+(b%4/2+b%4%2)))):=λm r=>by rw[show 256*r+b=4*(4*(4*(4*r+b/64)+b/16%4)+b/4%4)+b%4 by omega];rw[Rk _ _ _ U,Rk _ _ _ U,Rk _ _ _ U,Rk _ _ _ U];omega
 have A:=key 0 0;rw[atc]at A;rw[key,show f0 4 b=f0 (0+4) (256*0+b) by rw[Nat.mul_zero,lM,lM],A];omega
def Ba:Nat->Nat
 |0=>0
 |n+1=>16*Ba n+3
def f1(n x:Nat):Nat:=((x/4) &&& Ba n)+(x &&& Ba n)
def aeb(x:Nat):f1 0 x=0:=by simp[f1,Ba]
def aec(x:Nat):x &&& 3=x%4:=Tg x 2
def ate(x:Nat):x &&& 15=x%16:=Tg x 4
def aed(n q d:Nat)(ak:d<16):f1 (n+1) (16*q+d)=16*f1 n q+(d/4+d%4):=by
 have D:(16*q+d)/4=2^4*(q/4)+(4*(q%4)+d/4):=U;have O:=Nv 4 (q/4) (Ba n) (4*(q%4)+d/4) 3 U U;have B:=Nv 4 q (Ba n) d 3 U U;have aU:(4*(q%4)+d/4) &&& 3=d/4:=by rw[aec];omega
 rw[aU]at O;rw[aec]at B;unfold f1;rw[D,Ba];rw[show 16*Ba n+3=2^4*Ba n+3 by omega,show 16*q+d=2^4*q+d by omega,O,B];omega
def atf(n q b:Nat)(Z:b<256):f1 (n+2) (256*q+b)=256*f1 n q+f1 2 b:=by
 have key:∀m r,f1 (m+2) (256*r+b)=256*f1 m r+(16*(b/16/4+b/16%4)+(b%16/4+b%16%4)):=λm r=>by rw[show 256*r+b=16*(16*r+b/16)+b%16 by omega];rw[aed _ _ _ U,aed _ _ _ U];omega
 have A:=key 0 0;rw[aeb]at A;rw[key,show f1 2 b=f1 (0+2) (256*0+b) by rw[Nat.mul_zero,lM,lM],A];omega
def M2:Nat->Nat
 |0=>0
 |n+1=>256*M2 n+15
def f2(n x:Nat):Nat:=(x/16+x) &&& M2 n
def atg(x:Nat):f2 0 x=0:=by simp[f2,M2]
def ath(n q d:Nat)(ak:d%16<=4/\d/16<=4)(z:q%16<=4):f2 (n+1) (256*q+d)=256*f2 n q+(d/16+d%16):=by
 have D:(256*q+d)/16+(256*q+d)=2^8*(q/16+q)+(16*(q%16)+d/16+d):=U;have O:=Nv 8 (q/16+q) (M2 n) (16*(q%16)+d/16+d) 15 U U;have aU:(16*(q%16)+d/16+d) &&& 15=d/16+d%16:=by rw[ate];omega
 rw[aU]at O;unfold f2;rw[D,M2];rw[show 256*M2 n+15=2^8*M2 n+15 by omega,O]
def jj(x:Nat):Nat->Nat
 |0=>0
 |k+1=>jj x k+if x.testBit k=true then 1 else 0
def aee(q b:Nat)(Z:b<256):∀k,k<=8->jj (256*q+b) k=jj b k
 |0,_=>rfl
 |k+1,h=>by have oq:=K3 (i:=8) q (b:=b) Z k;rw[al (show k<8 by omega),show 2^8*q+b=256*q+b by omega]at oq;rw[jj,jj,aee q b Z k U,oq]
def aef(q b:Nat)(Z:b<256):∀k,jj (256*q+b) (8+k)=jj b 8+jj q k
 |0=>aee q b Z 8 (eo _)
 |k+1=>by
  have oq:=K3 (i:=8) q (b:=b) Z (8+k);rw[ab (show¬8+k<8 by omega),show 2^8*q+b=256*q+b by omega,show 8+k-8=k by omega]at oq;have bb:=aef q b Z k;have bg:jj (256*q+b) (8+(k+1))=jj (256*q+b) (8+k)+if(256*q+b).testBit (8+k)=true then 1 else 0:=rfl
  have bN:jj q (k+1)=jj q k+if q.testBit k=true then 1 else 0:=rfl;rw[bg,bN,bb,oq];omega
def aeg:∀b:Fin 256,f0 4 b.val<256/\f1 2 (f0 4 b.val)<256/\f1 2 (f0 4 b.val)%16<=4/\f1 2 (f0 4 b.val)/16<=4/\f1 2 (f0 4 b.val)/16+f1 2 (f0 4 b.val)%16=jj b.val 8/\jj b.val 8<=8:=by decide +kernel
def ati(n q b:Nat)(Z:b<256)(z:f1 (n*2) (f0 (n*4) q)%16<=4) :
  f2 (n+1) (f1 ((n+1)*2) (f0 ((n+1)*4) (256*q+b)))=256*f2 n (f1 (n*2) (f0 (n*4) q))+jj b 8/\f1 ((n+1)*2) (f0 ((n+1)*4) (256*q+b))%16<=4:=by
 obtain⟨D,O,B,aU,bn,cA⟩:=aeg ⟨b,Z⟩;simp only at D O B aU bn cA;rw[show(n+1)*4=n*4+4 by omega,show(n+1)*2=n*2+2 by omega,atd _ _ _ Z,atf _ _ _ D];refine⟨?_,U⟩;rw[ath _ _ _ ⟨B,aU⟩ z,bn]
def EH:Nat->Nat->Nat
 |0,_=>0
 |n+1,x=>256*EH n (x/256)+jj (x%256) 8
def aeh:∀n x,f2 n (f1 (n*2) (f0 (n*4) x))=EH n x/\f1 (n*2) (f0 (n*4) x)%16<=4
 |0,x=>by show f2 0 (f1 0 (f0 0 x))=EH 0 x/\f1 0 (f0 0 x)%16<=4;rw[atg,aeb];exact⟨rfl,U⟩
 |n+1,x=>by have bb:=aeh n (x/256);have h:=ati n (x/256) (x%256) U bb.2;rw[show 256*(x/256)+x%256=x by omega,bb.1]at h;exact h
def atj(x:Nat):jj x 64=jj (x%256) 8+(jj (x/256%256) 8+(jj (x/256/256%256) 8+(jj (x/256/256/256%256) 8+(jj (x/256/256/256/256%256) 8+(jj (x/256/256/256/256/256%256) 8+(jj (x/256/256/256/256/256/256%256) 8+jj (x/256/256/256/256/256/256/256%256) 8)))))):=by
 have step:∀k y,jj y (8+k)=jj (y%256) 8+jj (y/256) k:=λk y=>by have h:=aef (y/256) (y%256) U k;rw[show 256*(y/256)+y%256=y by omega]at h;exact h
 rw[show 64=8+(8+(8+(8+(8+(8+(8+(8+0))))))) from rfl];rw[step,step,step,step,step,step,step,step];rfl
def EI(x:Nat):jj (x%256) 8<=8:=(aeg ⟨x%256,U⟩).2.2.2.2.2
def atk(x:Nat):∃c0 hx c2 c3 c4 c5 uw rY:Nat,(c0<=8/\hx<=8/\c2<=8/\c3<=8/\c4<=8/\c5<=8/\uw<=8/\rY<=8) /\
  EH 8 x=256*(256*(256*(256*(256*(256*(256*(256*0+rY)+uw)+c5)+c4)+c3)+c2)+hx)+c0/\jj x 64=c0+(hx+(c2+(c3+(c4+(c5+(uw+rY)))))):=
 ⟨_,_,_,_,_,_,_,_,⟨EI _,EI _,EI _,EI _,EI _,EI _,EI _,EI _⟩,rfl,atj x⟩
def atl(x:Nat):∃y,y=EH 8 x/\y+y/256<2^64/\(y+y/256)+(y+y/256)/65536<2^64/\(y+y/256)+(y+y/256)/65536+((y+y/256)+(y+y/256)/65536)/4294967296<2^63 /\
  ((y+y/256)+(y+y/256)/65536+((y+y/256)+(y+y/256)/65536)/4294967296)%128=jj x 64:=by
 obtain⟨c0,hx,c2,c3,c4,c5,uw,rY,J,D,O⟩:=atk x;refine⟨EH 8 x,rfl,?_⟩;rw[O];have B:EH 8 x=c0+256*hx+65536*c2+16777216*c3+4294967296*c4+1099511627776*c5+281474976710656*uw+72057594037927936*rY:=by rw[D];omega
 generalize EH 8 x=y at *;have aU:y/256=hx+256*c2+65536*c3+16777216*c4+4294967296*c5+1099511627776*uw+281474976710656*rY:=U;obtain⟨d0,cv⟩:∃d,d=c0+hx:=⟨_,rfl⟩;obtain⟨d1,bg⟩:∃d,d=hx+c2:=⟨_,rfl⟩;obtain⟨d2,bN⟩:∃d,d=c2+c3:=⟨_,rfl⟩;obtain⟨d3,dQ⟩:∃d,d=c3+c4:=⟨_,rfl⟩
 obtain⟨d4,h1⟩:∃d,d=c4+c5:=⟨_,rfl⟩;obtain⟨d5,rU⟩:∃d,d=c5+uw:=⟨_,rfl⟩;obtain⟨d6,Ei⟩:∃d,d=uw+rY:=⟨_,rfl⟩;have bn:y+y/256=d0+256*d1+65536*d2+16777216*d3+4294967296*d4+1099511627776*d5+281474976710656*d6+72057594037927936*rY:=U;have V:c0+(hx+(c2+(c3+(c4+(c5+(uw+rY))))))=d0+d2+d4+d6:=U
 have ak:d0<=16/\d1<=16/\d2<=16/\d3<=16/\d4<=16/\d5<=16/\d6<=16/\rY<=16:=U;rw[V];clear D O B aU V J cv bg bN dQ h1 rU Ei;generalize y+y/256=aE7 at *;have cA:aE7/65536=d2+256*d3+65536*d4+16777216*d5+4294967296*d6+1099511627776*rY:=U;obtain⟨g0,pA⟩:∃d,d=d0+d2:=⟨_,rfl⟩
 obtain⟨g1,e8⟩:∃d,d=d1+d3:=⟨_,rfl⟩;obtain⟨g2,dz⟩:∃d,d=d2+d4:=⟨_,rfl⟩;obtain⟨g3,kn⟩:∃d,d=d3+d5:=⟨_,rfl⟩;obtain⟨g4,om⟩:∃d,d=d4+d6:=⟨_,rfl⟩;obtain⟨g5,te⟩:∃d,d=d5+rY:=⟨_,rfl⟩
 have c1:aE7+aE7/65536=g0+256*g1+65536*g2+16777216*g3+4294967296*g4+1099511627776*g5+281474976710656*d6+72057594037927936*rY:=U;have bx:aE7<2^64:=U;have rP:d0+d2+d4+d6=g0+g4:=U;have aK:g0<=32/\g1<=32/\g2<=32/\g3<=32/\g4<=32/\g5<=32/\d6<=16/\rY<=16:=U;rw[rP];clear bn cA rP ak pA e8 dz kn om te
 generalize aE7+aE7/65536=u at *;have oq:u/4294967296=g4+256*g5+65536*d6+16777216*rY:=U;refine⟨bx,U,U,?_⟩;omega
def aei(S:dc)(j:Nat):∀k,k<=64->oX S (64*j+k)=oX S (64*j)+jj (wd S j).toNat k
 |0,_=>rfl
 |k+1,h=>by
  have e:(wd S j).toNat.testBit k=S.getLsbD (64*j+k):=by rw[wd,kR];show(S.extractLsb' (64*j) 64).getLsbD k=_;rw[Ae];simp;omega
  rw[show 64*j+(k+1)=(64*j+k)+1 by omega,oX,jj,aei S j k U,e];omega
def atm(S:dc)(j:Nat):(wd S j).toNat<2^64:=by rw[wd,kR];exact(S.extractLsb' (64*j) 64).isLt
def atn:∀b:Fin 256,(0<=IntKind.u8.wrap (((b.val:Nat):Int).tdiv 16)/\IntKind.u8.wrap (((b.val:Nat):Int).tdiv 16)<16)/\(0<=((b.val:Nat):Int).tmod 16/\((b.val:Nat):Int).tmod 16<16) /\
  (⟨#[92,120]⟩:ao)++fD [af ⟨#[48,49,50,51,52,53,54,55,56,57,97,98,99,100,101,102]⟩ (IntKind.u8.wrap (((b.val:Nat):Int).tdiv 16)),af ⟨#[48,49,50,51,52,53,54,55,56,57,97,98,99,100,101,102]⟩ (((b.val:Nat):Int).tmod 16)]=⟨#[92,120,A6 (((b.val:Nat):Int)/16),A6 (((b.val:Nat):Int)%16)]⟩:=by decide +kernel
def rn:=(ch ez @G1 @vv @A4 @G2 @zq @bQ @vx)
def ato(b:Int)(q:Bool)(A:0<=b)(D:b<256)(w:ar):cQ 204 #[.int .u8 b,q] w (.string (hG b q)):=by
 refine cB (nt:=37) [.tmp 4] func204 ?_;refine bk aa rn ?_;refine aR aa rn ?_ ?_<;>intro J
 ·have h:b=10:=aC J
  have e:hG b q=⟨#[92,110]⟩:=by rw[hG,al h]
  rw[e];refine aA aa rn ?_;exact bE rn
 have CP:¬b=10:=aC J
 refine a1 ?_;refine ae.seq ?_;refine aR aa rn ?_ ?_<;>intro J
 ·have h:b=13:=aC J
  have e:hG b q=⟨#[92,114]⟩:=by rw[hG,ab CP,al h]
  rw[e];refine aA aa rn ?_;exact bE rn
 have EJ:¬b=13:=aC J
 refine a1 ?_;refine ae.seq ?_;refine aR aa rn ?_ ?_<;>intro J
 ·have h:b=9:=aC J
  have e:hG b q=⟨#[92,116]⟩:=by rw[hG,ab CP,ab EJ,al h]
  rw[e];refine aA aa rn ?_;exact bE rn
 have Ha:¬b=9:=aC J
 refine a1 ?_;refine ae.seq ?_;refine aR aa rn ?_ ?_<;>intro J
 ·have h:b<32\/126<b:=aC J
  have e:hG b q=⟨#[92,120,A6 (b/16),A6 (b%16)]⟩:=by rw[hG,ab CP,ab EJ,ab Ha,al h]
  rw[e];obtain⟨n,rfl⟩:=l7 A;obtain⟨f1,f2,f3⟩:=atn ⟨n,U⟩;simp only at f1 f2 f3;refine aA aa rn ?_;refine dh aa rn ?_ ?_
  ·exact⟨U,f1,U,f2,by show 2+2<=9223372036854775807;omega⟩
  refine bf rn ?_;exact λE=>fZ Value.string f3
 have Nw:¬(b<32\/126<b):=aC J
 refine a1 ?_;refine ae.seq ?_;refine aR aa rn ?_ ?_<;>intro J
 ·subst J;have e:hG b true=⟨#[92,b.toNat.toUInt8]⟩:=by rw[hG,ab CP,ab EJ,ab Ha,ab Nw,al rfl]
  rw[e];refine aL aa rn ?_ ?_
  ·show 1+1<=9223372036854775807;omega
  exact bE rn
 ·subst J;have e:hG b false=⟨#[b.toNat.toUInt8]⟩:=by rw[hG,ab CP,ab EJ,ab Ha,ab Nw,ab bq]
  rw[e];refine bk aa rn ?_;exact bE rn
abbrev atp:cV prog 204:=kH (λ| [.val (.int .u8 b),.val (.bool q)]=>some (b,q)|_=>none) (λav W bs=>0<=av.1/\av.1<256) call204 λav W w bs ad hp=>ato av.1 av.2 hp.1 hp.2 w
def Rl(s:ao):At ((byteCells s).map ag.v)=some (s.data.toList.map λc=>(c.toNat:Int)):=by
 have h:(byteCells s).map ag.v=(s.data.toList.map λc=>(c.toNat:Int)).map λn=>ag.v (.int .u8 n):=by simp[byteCells]
 rw[h,Vl]
def Rm(s:ao):fD (s.data.toList.map λc=>(c.toNat:Int))=s:=by
 rcases s with⟨⟨l⟩⟩;unfold fD;rw[DC];have h:(λn:Int=>UInt8.ofNat n.toNat) ∘ (λc:UInt8=>(c.toNat:Int))=id:=by
  funext c
  show UInt8.ofNat ((c.toNat:Int).toNat)=c;rw[kR,UInt8.ofNat_toNat]
 rw[h,List.map_id]
def Rn(s:ao):((byteCells s).map ag.v).all jq=true:=by rw[FA];intro x aB;obtain⟨v,au,rfl⟩:=qp.1 aB;obtain⟨c,_,rfl⟩:=qp.1 au;rfl
def yc(s:ao)(l:List Int)(h:∀c∈l,0<=c/\c<256):(byteCells s).map ag.v++l.map (λc=>ag.v (.int .u8 c))=(byteCells (s++fD l)).map ag.v:=by
 unfold byteCells fD;rw[Tm,Array.toList_append,sY,sY]
 congr 1
 simp only[DC];refine K7 λc J=>?_
 obtain⟨A,D⟩:=h c J;simp only[Function.comp,UInt8.toNat_ofNat'];rw[K9 U]
 congr 2
 omega
def Wx(s t:ao):(byteCells s).map ag.v++(byteCells t).map ag.v=(byteCells (s++t)).map ag.v:=by unfold byteCells;rw[Tm,Array.toList_append,sY,sY]
def atq:∀b:Fin 256,(0<=((b.val:Nat):Int).fdiv 16/\((b.val:Nat):Int).fdiv 16<16)/\(0<=ia .and .u8 ((b.val:Nat):Int) 15/\ia .and .u8 ((b.val:Nat):Int) 15<16) /\
  ((b.val:Nat):Int).fdiv 16=((b.val:Nat):Int)/16/\ia .and .u8 ((b.val:Nat):Int) 15=((b.val:Nat):Int)%16:=by decide +kernel
def aej(s:ao):(s.data.toList.map λc=>(c.toNat:Int)).length=s.size:=by rw[lL];rfl
theorem mw(l:List Int):(fD l).size=l.length:=by simp[fD,ByteArray.size]
def rZ:ByteArray:=⟨#[48,49,50,51,52,53,54,55,56,57,97,98,99,100,101,102]⟩
def lB(c:Int):List Int:=if c=34\/c=92 then [92,c] else if 32<=c/\c<=126 then [c] else if c=10 then [92,110] else if c=13 then [92,114] else if c=9 then [92,116] else [92,120,af rZ (c/16),af rZ (c%16)]
def gw(s:ao):Nat->ByteArray
 |0=>fD [34]
 |k+1=>gw s k++fD (lB (af s k))
def e9(s:ao):ByteArray:=gw s s.size++fD [34]
def atr(c:Int):(lB c).length<=4:=by
 unfold lB
 repeat' split
 all_goals simp
def JO(s:ao):∀k,(gw s k).size<=1+4*k
 |0=>by show(fD [34]).size<=_;rw[mw];simp
 |k+1=>by show(gw s k++fD (lB (af s k))).size<=_;rw[dU,mw];have:=JO s k;have:=atr (af s k);omega
def EK(s:ao):(e9 s).size<=2+4*s.size:=by show(gw s s.size++fD [34]).size<=_;rw[dU,mw];have:=JO s s.size;simp only[l9,uW];omega
def r0(s:ao)(i:Int):0<=af s i/\af s i<256:=by unfold af;have:=(s.data[i.toNat]?.getD 0).toNat_lt;omega
def mU:=(b3 ez @Rl @Rm @Rn)
def ats(s:ao)(V:s.size<=16777216)(w:ar):cQ 38 #[s] w (.string (e9 s)):=by
 refine cB (nt:=66) [.tmp 2] func38 ?_;refine ti aa mU ?_
 refine ae.loop (λk:Nat=>⟨20,bK [(0,s),(3,.is (.ak 8)),(8,s.size),(9,k)],bA [(8,.row 5 1 (gw s k).size ((byteCells (gw s k)).map .v))]⟩) (λk=>k<=s.size) (λk=>s.size-k) 0 ?_ (ef _) ?_
 ·exact bh mU
 rintro k ad;refine bk aa mU ?_;refine bC mU ?_ ?_<;>intro J
 ·have ax:k<s.size:=bt J
  obtain⟨c0,hx⟩:=r0 s k;have z:=JO s k;have aQ:=λl aN=>yc (gw s k) l aN
  have Z:gw s (k+1)=gw s k++fD (lB (af s k)):=rfl;have dM:=fK k;refine a1 ?_
  refine fR ⟨20,bK [(0,s),(8,s.size),(9,k),(3,.is (.ak 8))],bA [(8,.row 5 1 (gw s (k+1)).size ((byteCells (gw s (k+1))).map .v))]⟩ ?_ ?_
  ·refine ae.block ?_;refine aA aa mU ?_;refine aL aa mU ?_ ?_
   ·first|omega|exact⟨U,U⟩
   refine ae.block ?_;refine aR aa mU ?_ ?_<;>intro J
   ·have au:af s k=34\/af s k=92:=aC J
    have cv:lB (af s k)=[92,af s k]:=by rw[lB,al au]
    rw[cv]at Z;have bg:=aQ _ (λc (J:c∈[92,af s k])=>by simp at J;omega);rw[<- Z]at bg;simp only[fc,jc]at bg;have bN:(gw s (k+1)).size=(gw s k).size+2:=by rw[Z,dU,mw];rfl
    refine wr aa mU ?_ ?_
    ·exact by unfold maxLen;omega
    exact b8 (λk=>if k=8 then .key 296 else .key k) (aT mU bg bN)
   have ek:¬(af s k=34\/af s k=92):=aC J
   refine aR aa mU ?_ ?_<;>intro J
   ·have au:32<=af s k/\af s k<=126:=aC J
    have cv:lB (af s k)=[af s k]:=by rw[lB,ab ek,al au]
    rw[cv]at Z;have bg:=aQ _ (λc (J:c∈[af s k])=>by simp at J;omega);rw[<- Z]at bg;simp only[fc,jc]at bg;have bN:(gw s (k+1)).size=(gw s k).size+1:=by rw[Z,dU,mw];rfl
    refine wr aa mU ?_ ?_
    ·exact by unfold maxLen;omega
    exact b8 (λk=>if k=8 then .key 352 else .key k) (aT mU bg bN)
   have dE:¬(32<=af s k/\af s k<=126):=aC J
   refine aR aa mU ?_ ?_<;>intro J
   ·have au:af s k=10:=aC J
    have cv:lB (af s k)=[92,110]:=by rw[lB,ab ek,ab dE,al au]
    rw[cv]at Z;have bg:=Wx (gw s k) (fD [92,110]);rw[<- Z]at bg;have bN:(gw s (k+1)).size=(gw s k).size+2:=by rw[Z,dU,mw];rfl
    have dQ:(⟨#[92,110]⟩:ao)=fD [92,110]:=rfl;have h1:(fD [92,110]).size=2:=rfl;refine wr aa (aT mU dQ h1) ?_ ?_
    ·unfold maxLen;omega
    exact b8 (λk=>if k=8 then .key 360 else .key k) (aT mU bg bN)
   have eY:¬af s k=10:=aC J
   refine aR aa mU ?_ ?_<;>intro J
   ·have au:af s k=13:=aC J
    have cv:lB (af s k)=[92,114]:=by rw[lB,ab ek,ab dE,ab eY,al au]
    rw[cv]at Z;have bg:=Wx (gw s k) (fD [92,114]);rw[<- Z]at bg;have bN:(gw s (k+1)).size=(gw s k).size+2:=by rw[Z,dU,mw];rfl
    have dQ:(⟨#[92,114]⟩:ao)=fD [92,114]:=rfl;have h1:(fD [92,114]).size=2:=rfl;refine wr aa (aT mU dQ h1) ?_ ?_
    ·unfold maxLen;omega
    exact b8 (λk=>if k=8 then .key 384 else .key k) (aT mU bg bN)
   have n3:¬af s k=13:=aC J
   refine aR aa mU ?_ ?_<;>intro J
   ·have au:af s k=9:=aC J
    have cv:lB (af s k)=[92,116]:=by rw[lB,ab ek,ab dE,ab eY,ab n3,al au]
    rw[cv]at Z;have bg:=Wx (gw s k) (fD [92,116]);rw[<- Z]at bg;have bN:(gw s (k+1)).size=(gw s k).size+2:=by rw[Z,dU,mw];rfl
    have dQ:(⟨#[92,116]⟩:ao)=fD [92,116]:=rfl;have h1:(fD [92,116]).size=2:=rfl;refine wr aa (aT mU dQ h1) ?_ ?_
    ·unfold maxLen;omega
    exact b8 (λk=>if k=8 then .key 408 else .key k) (aT mU bg bN)
   have n4:¬af s k=9:=aC J
   have cv:lB (af s k)=[92,120,af rZ (af s k/16),af rZ (af s k%16)]:=by rw[lB,ab ek,ab dE,ab eY,ab n3,ab n4]
   obtain⟨x,aB⟩:=l7 c0;have ee:x<256:=U;obtain⟨f1,f2,f3,f4⟩:=atq ⟨x,ee⟩;simp only at f1 f2 f3 f4;rw[aB]at cv;rw[aB,cv]at Z;have eh:=r0 rZ ((x:Int)/16);have lU:=r0 rZ ((x:Int)%16)
   have bg:=aQ _ (λc (J:c∈[92,120,af rZ ((x:Int)/16),af rZ ((x:Int)%16)])=>by simp at J;omega);rw[<- Z]at bg;simp only[fc,jc]at bg;have bN:(gw s (k+1)).size=(gw s k).size+4:=by rw[Z,dU,mw];rfl
   have JP:(⟨#[48,49,50,51,52,53,54,55,56,57,97,98,99,100,101,102]⟩:ao)=rZ:=rfl;refine iP aa (de mU aB f3 f4 JP) ?_ ?_
   ·rw[f3]at f1;rw[f4]at f2;exact⟨f1,f2,by unfold maxLen;omega,U⟩
   exact b8 (λk=>if k=8 then .key 464 else .key k) (hV mU aB f3 f4 JP bg bN)
  refine wr aa (I mU dM) ?_ ?_
  ·first|trivial|omega
  refine⟨k+1,ax,U,?_⟩;exact bh mU
 ·have e4:k=s.size:=bt J
  subst e4;have aQ:=yc (gw s s.size) [34] (λc J=>by simp at J;omega);simp only[fc,jc]at aQ;have z:=JO s s.size;have bN:(e9 s).size=(gw s s.size).size+1:=by rw[e9,dU,mw];rfl
  refine c6 ?_;refine aL aa (I mU aQ) ?_ ?_
  ·exact⟨⟨by unfold maxLen;omega,U⟩,by rw[aej,<- e9,bN]⟩
  exact bE mU
def aek(S T:dc)(h:vw S=vw T):S=T:=by have h:dS S.getLsbD=dS T.getLsbD:=fZ (λv=>match v with|Value.agg a=>a.toList|_=>[]) h;apply Ic;intro i hi;have D:=Eu S.getLsbD i hi;rw[h,Eu T.getLsbD i hi]at D;simpa using D.symm
def wV:=(I (ch @Ch @DZ @qa @pr.eq_1 @pt @qd @G1 @vv) (de @A4 @G2 @zq @bQ @vx))
def att(S:dc)(w:ar):cQ 203 #[vw S] w (.int .i64 (pH S:Nat)):=by
 refine cB (nt:=15) [.tmp 2] func203 ?_;refine aA aa (I wV @vw.eq_1) ?_;refine gJ aa wV ?_
 refine ae.loop (λj:Nat=>⟨20,bK [(1,.is (.own 0 0)),(3,(oX S j)),(4,j)],bA [(0,.cells 241 ((dS S.getLsbD).map .v))]⟩) (λj=>j<=256) (λj=>256-j) 0 ?_ (ef _) ?_
 ·exact bh wV
 rintro j Y;have hle:=Ww S j;refine ae.seq ?_;refine aR aa wV ?_ ?_<;>intro J
 ·have ax:j<256:=bt J
  have iF:=fK j;refine a1 ?_;refine ae.seq (ae.block ?_);refine aL aa (I wV (λgW=>Eu gW j ax)) ?_ ?_
  ·omega
  refine bC wV ?_ ?_<;>intro J
  ·have e:oX S (j+1)=oX S j+1:=by rw[oX,al J]
   have wM:IntKind.i64.wrap ((oX S j:Int)+1)=((oX S (j+1):Nat):Int):=by rw[gb U U,e];omega
   refine bY aa (I wV wM) ?_;refine bY aa (I wV iF) ?_;refine⟨j+1,U,U,?_⟩;exact bh wV
  ·have e:oX S (j+1)=oX S j:=by rw[oX,ab (by rw[J];simp)];omega
   refine a1 ?_;refine bY aa (I wV iF) ?_;refine⟨j+1,U,U,?_⟩;rw[e];exact bh wV
 ·have hW:j=256:=bt J
  subst hW;refine c6 ?_;refine aA aa wV ?_;exact bE wV
abbrev atu:cV prog 203:=oR (λ| [.val mo]=>dec vw mo|_=>none) call203 λav w=>att av w
theorem atv(S:dc):partsOf (.v (vw S))=List.map ag.v (dS S.getLsbD):=rfl
theorem Ro(S:dc):Value.agg (dS S.getLsbD).toArray=vw S:=rfl
abbrev my:Env prog:=a7 atu.spec (a7 atp.spec (a7 adC.spec (a7 adD.spec aa)))
def atw(S:dc)(D:pH S≠1):∃(T:dc) (pre:ao) (want:Bool),tu S=jU T pre 256++Rh/\pre.size<=2/\(∀k<256,(S.getLsbD k==want)=T.getLsbD k)/\want=!decide (128<pH S)/\pre=bif decide (128<pH S) then G9 else G8:=by
 by_cases h:128<pH S
 ·refine⟨~~~S,G9,false,?_,aq,λk ad=>?_,by simp[h],by simp[h]⟩
  ·rw[tu,ab D,al h]
  ·rw[OR];cases S.getLsbD k<;>simp[ad]
 ·refine⟨S,G8,true,?_,aq,λk ad=>?_,by simp[h],by simp[h]⟩
  ·rw[tu,ab D,ab h]
  ·cases S.getLsbD k<;>simp
theorem atx{P:bR}{eqs:(T:a6)->Option (rJ P T)}(h:ca)(T:a6)(aE5 aE8:Operand)(b:Bool):nL P eqs h .eql T aE5 aE8 [.v undef,.v (.bool b)]=.bad:=rfl
theorem bad_eq:R.bad=⟨False,undef,[],none,[],[]⟩:=rfl
def ael(out:ao)(b e:Nat):G7 out b e=if b<e then(if b+1<e then out++hG b (hR iw b)++ya else out++hG b (hR iw b))++hG e (hR iw e) else(if b+1<e then out++hG b (hR iw b)++ya else out++hG b (hR iw b)):=by
 unfold G7;split
 ·rfl
 ·rw[ab U]
def gM:=(I (ch @Ch @DZ @qa @pr.eq_1 @pt @qd @G1 @vv) (ch @A4 @G2 @zq @bQ @vx (uf aek) @Ro @atv))
def aty(S:dc)(w:ar):cQ 156 #[vw S] w (.string (tu S)):=by
 refine cB (nt:=92) [.tmp 2] func156 ?_;refine dL my gM ?_;refine aR my gM ?_ ?_<;>intro J
 ·have D:pH S=1:=bt J
  refine bk my gM ?_;refine ae.loop (λj:Nat=>⟨20,bK [(1,.is (.own 0 0)),(4,j)],bA [(0,.cells 241 ((dS S.getLsbD).map .v))]⟩) (λj=>j<=256/\∀k<j,S.getLsbD k=false) (λj=>256-j) 0 ?_ ⟨ef _,λk h=>by omega⟩ ?_
  ·exact bh gM
  rintro j ⟨Y,aE⟩;refine ae.seq ?_;refine aR my gM ?_ ?_<;>intro J
  ·have ax:j<256:=bt J
   have iF:=fK j;have zz:IntKind.u8.wrap (j:Int)=(j:Int):=rh U U;refine a1 ?_;refine ae.seq (ae.block ?_);refine aL my (I gM (λgW=>Eu gW j ax)) ?_ ?_
   ·omega
   refine bC gM ?_ ?_<;>intro J
   ·have e:tu S=hG j (hR qC j):=by rw[tu,al D,ad3 S j ax aE J]
    rw[e];refine aL my (I gM zz) ?_ ?_
    ·omega
    exact bE gM
   ·refine a1 ?_;refine bY my (I gM iF) ?_;refine⟨j+1,⟨U,λk ad=>?_⟩,U,?_⟩
    ·by_cases h:k=j
     ·rw[h];exact J
     ·exact aE k U
    ·exact bh gM
  ·exfalso;have hW:j=256:=bt J
   subst hW;have:=ad4 S 256 aE;rw[pH]at D;omega
 have D:pH S≠1:=bt J
 obtain⟨T,pre,want,he,B4,bJ,hw,hp⟩:=atw S D;rw[he];refine dL my gM ?_;refine fR ⟨60,bK [(1,.is (.own 0 0)),(5,pre),(6,want)],bA [(0,.cells 241 ((dS S.getLsbD).map .v))]⟩ ?_ ?_
 ·skip;refine aR my gM ?_ ?_<;>intro J
  ·have h:decide (128<pH S)=true:=by simp at J ⊢;omega
   rw[h]at hw hp;subst hw hp;refine aA my gM ?_;refine bY my gM ?_;exact bh gM
  ·have h:decide (128<pH S)=false:=by simp at J ⊢;omega
   rw[h]at hw hp;subst hw hp;refine a1 ?_;exact bh gM
 clear hw hp;refine dL my gM ?_;refine ae.loop (λb:Nat=>⟨70,bK [(1,.is (.own 0 0)),(5,(jU T pre b)),(6,want),(7,b)],bA [(0,.cells 241 ((dS S.getLsbD).map .v))]⟩) (λb=>b<=256) (λb=>256-b) 0 ?_ (ef _) ?_
 ·exact bh gM
 intro b Z;refine ae.seq ?_;refine aR my gM ?_ ?_<;>intro J
 ·have ax:b<256:=bt J
  have iF:=fK b;have dp:=dv ((b:Int)-1);have kI:((b:Int)-1).toNat=b-1:=U;have zz:IntKind.u8.wrap (b:Int)=(b:Int):=rh U U;have bP:=JN T pre b
  have hX:(!(S.getLsbD b==want)||(decide (0<(b:Int))&&(S.getLsbD (b-1)==want)))=!yb T b:=by
   rw[bJ b ax,bJ (b-1) U,yb];by_cases A:b=0
   ·subst A;simp
   ·rw[show decide (0<(b:Int))=true by simp;omega,show(b==0)=false by simpa using A];cases T.getLsbD b<;>cases T.getLsbD (b-1)<;>rfl
  refine a1 ?_;refine ae.seq (ae.block ?_);refine ae.seq ?_;refine aL my (de gM dp kI (λgW=>Eu gW b ax) (λgW=>Eu gW (b-1) (show b-1<256 by omega))) ?_ ?_
  ·exact⟨⟨U,U⟩,U,λh=>⟨by simp at h;omega,U⟩,λh=>by omega⟩
  refine bC gM ?_ ?_<;>intro J
  ·have V:yb T b=false:=by
    rw[hX]at J;simpa using J
   have e:jU T pre (b+1)=jU T pre b:=by rw[jU,ab (by rw[V];simp)]
   refine c6 ?_;refine bY my (I gM iF) ?_;refine⟨b+1,U,U,?_⟩;rw[e];exact bh gM
  have V:yb T b=true:=by rw[hX]at J;simpa using J
  have Hb:T.getLsbD b=true:=by rw[yb,ob]at V;exact V.1
  have MS:=ad7 T b ax;have e:jU T pre (b+1)=G7 (jU T pre b) b (nU T b):=by rw[jU,al V]
  generalize cg:jU T pre b=aE6 at *;generalize aem:jU T pre (b+1)=aEc at *;refine bk my gM ?_;obtain⟨m,hm⟩:∃m,nU T b=b+m:=⟨nU T b-b,U⟩
  refine fR ⟨120,bK [(1,.is (.own 0 0)),(5,aE6),(6,want),(7,b),(8,.is (.v (.int .i64 ((m:Int)+1))))],bA [(0,.cells 241 ((dS S.getLsbD).map .v))]⟩ ?_ ?_
  ·skip;refine ae.block ?_
   refine ae.loop (λk:Nat=>⟨100,bK [(1,.is (.own 0 0)),(5,aE6),(6,want),(7,b),(8,k)],bA [(0,.cells 241 ((dS S.getLsbD).map .v))]⟩) (λk=>(1<=k/\b+k<=256)/\nU T b=nU T (b+k-1)) (λk=>256-k) 1 ?_ ⟨⟨eo _,U⟩,by rw[Ij]⟩ ?_
   ·exact bh gM
   rintro k ⟨⟨gN,ad⟩,q3⟩;have aen:=dv ((b:Int)+(k:Int));have rO:((b:Int)+(k:Int)).toNat=b+k:=U;have dM:=fK k;have fin:(b+k<256->T.getLsbD (b+k)=false)->(k:Int)=(m:Int)+1:=λh=>by have:=ad6 T (b+k-1) (λO=>by rw[show b+k-1+1=b+k by omega];exact h U);omega
   by_cases qs:b+k<256
   ·have ak:decide ((b:Int)+(k:Int)<256)=true:=by simp;omega
    refine ae.seq ?_;refine aL my (de gM aen rO ak (λgW=>Eu gW (b+k) qs)) ?_ ?_
    ·exact⟨⟨U,U⟩,U⟩
    refine bC gM ?_ ?_<;>intro J
    ·rw[bJ _ qs]at J;refine a1 ?_;refine ae.block ?_;refine bY my (I gM dM) ?_;have atz:=ad5 T (b+k-1) U (by rw[show b+k-1+1=b+k by omega];exact J);refine⟨k+1,⟨⟨U,U⟩,by rw[q3,atz];congr 1;omega⟩,U,?_⟩;exact bh gM
    ·rw[bJ _ qs]at J;refine c6 ?_;have aW:=fin λ_=>J
     exact bh (I gM aW)
   ·have ak:decide ((b:Int)+(k:Int)<256)=false:=by simp;omega
    have H:(List.map ag.v (dS S.getLsbD)).getD (b+k) (ag.v undef)=ag.v undef:=by rw[mI,ZN (by rw[vv];omega)];rfl
    refine ae.seq ?_;refine aL my (hV gM aen rO ak H @atx @bad_eq) ?_ ?_
    ·simp
    refine fu (Γ:=aa) trivial gM ?_;refine c6 ?_;have aW:=fin λh=>absurd h qs
    exact bh (I gM aW)
  have atA:=dv ((b:Int)+((m:Int)+1));have atB:=iv ((b:Int)+((m:Int)+1)-1) ((b+m:Nat):Int);have atC:IntKind.u8.wrap ((b+m:Nat):Int)=((b+m:Nat):Int):=rh U U;have mv:=G6 b (hR iw b);have uo:=G6 ((b+m:Nat):Int) (hR iw ((b+m:Nat):Int))
  rw[ael,hm]at e;refine aL my (I gM zz) ?_ ?_
  ·exact⟨⟨U,U⟩,⟨U,U⟩,U⟩
  have atD:(aE6++hG b (hR iw b)).size<=2400:=by rw[dU];omega
  generalize aE6++hG b (hR iw b)=sH at *;refine aA my (b3 gM atA atB atC) ?_
  refine fR ⟨150,bK [(1,.is (.own 0 0)),(5,.is (.v (.string (if b+1<b+m then sH++ya else sH)))),(6,want),(7,b),(8,.is (.v (.int .i64 ((m:Int)+1)))),(9,.is (.v (.int .u8 ((b+m:Nat):Int))))],bA [(0,.cells 241 ((dS S.getLsbD).map .v))]⟩ ?_ ?_
  ·skip;refine aR my gM ?_ ?_<;>intro J
   ·have h:b+1<b+m:=bt J
    rw[al h];refine wr my gM ?_ ?_
    ·show sH.size+1<=_;omega
    exact bh gM
   ·have h:¬b+1<b+m:=bt J
    rw[ab h];refine a1 ?_;exact bh gM
  have atE:(if b+1<b+m then sH++ya else sH).size<=2401:=by
   split
   ·rw[dU];show sH.size+1<=2401;omega
   ·omega
  generalize(if b+1<b+m then sH++ya else sH)=atF at *;refine aR my gM ?_ ?_<;>intro J
  ·have h:b<b+m:=bt J
   rw[al h]at e;subst e;refine wr my gM ?_ ?_
   ·exact⟨⟨U,U⟩,⟨U,U⟩,U⟩
   refine bY my (I gM iF) ?_;refine⟨b+1,U,U,?_⟩;rw[aem];exact bh gM
  ·have h:¬b<b+m:=bt J
   rw[ab h]at e;subst e;refine a1 ?_;refine bY my (I gM iF) ?_;refine⟨b+1,U,U,?_⟩;rw[aem];exact bh gM
 ·have dO:b=256:=bt J
  subst dO;have bP:=JN T pre 256;refine c6 ?_;refine aL my gM ?_ ?_
  ·show(jU T pre 256).size+1<=_;omega
  exact bE gM
abbrev aeo:cV prog 156:=oR (λ| [.val mo]=>dec vw mo|_=>none) call156 λav w=>aty av w
def Nx(a b:Nat)(aQ:a<2^64)(Z:b<2^64):ia .and .u64 (a:Int) (b:Int)=((a &&& b:Nat):Int):=by have h:=VH (BitVec.ofNat 64 a) (BitVec.ofNat 64 b);rw[BitVec.toNat_and,Ts,Ts,K9 aQ,K9 Z]at h;exact h
def Hc(a:Nat)(aQ:a<2^64):IntKind.u64.wrap (a:Int)=(a:Int):=by have h:=Mx (BitVec.ofNat 64 a);rw[Ts,K9 aQ]at h;exact h
def Rp(a n:Nat):(a:Int).fdiv (n:Int)=((a/n:Nat):Int):=by rw[Th _ (Tr _)];rfl
def atG(x:Nat)(aB:x<2^64):IntKind.u64.wrap (ia .and .u64 ((x:Int).fdiv 2) 6148914691236517205+ia .and .u64 (x:Int) 6148914691236517205)=((f0 32 x:Nat):Int)/\f0 32 x<2^64:=by
 have hm:A9 32=6148914691236517205:=by decide
 have D:=OY (n:=x/2) (m:=6148914691236517205);have O:=OY (n:=x) (m:=6148914691236517205);have aW:f0 32 x=(x/2 &&& 6148914691236517205)+(x &&& 6148914691236517205):=by rw[f0,hm]
 have aN:f0 32 x<2^64:=U;refine⟨?_,aN⟩;have bg:(x:Int).fdiv 2=((x/2:Nat):Int):=Rp x 2;have bN:=Nx (x/2) 6148914691236517205 U U;have dQ:=Nx x 6148914691236517205 U U;rw[bg,show(6148914691236517205:Int)=((6148914691236517205:Nat):Int) from rfl,bN,dQ,<- O4,<- aW,Hc _ aN]
def atH(x:Nat)(aB:x<2^64):IntKind.u64.wrap (ia .and .u64 ((x:Int).fdiv 4) 3689348814741910323+ia .and .u64 (x:Int) 3689348814741910323)=((f1 16 x:Nat):Int)/\f1 16 x<=7378697629483820646:=by
 have hm:Ba 16=3689348814741910323:=by decide
 have D:=OY (n:=x/4) (m:=3689348814741910323);have O:=OY (n:=x) (m:=3689348814741910323);have aW:f1 16 x=(x/4 &&& 3689348814741910323)+(x &&& 3689348814741910323):=by rw[f1,hm]
 have aN:f1 16 x<=7378697629483820646:=U;refine⟨?_,aN⟩;have bg:(x:Int).fdiv 4=((x/4:Nat):Int):=Rp x 4;have bN:=Nx (x/4) 3689348814741910323 U U;have dQ:=Nx x 3689348814741910323 U U
 rw[bg,show(3689348814741910323:Int)=((3689348814741910323:Nat):Int) from rfl,bN,dQ,<- O4,<- aW,Hc _ U]
def atI(x:Nat)(aB:x<=7378697629483820646):ia .and .u64 (IntKind.u64.wrap ((x:Int).fdiv 16+(x:Int))) 1085102592571150095=((f2 8 x:Nat):Int):=by
 have hm:M2 8=1085102592571150095:=by decide
 have bg:(x:Int).fdiv 16=((x/16:Nat):Int):=Rp x 16;rw[bg,<- O4,Hc _ U,show(1085102592571150095:Int)=((1085102592571150095:Nat):Int) from rfl,Nx _ _ U U,f2,hm]
def Wy(x n:Nat)(h:x+x/n<2^64):IntKind.u64.wrap ((x:Int)+(x:Int).fdiv (n:Int))=((x+x/n:Nat):Int):=by rw[Rp,<- O4,Hc _ h]
def atJ(x:Nat)(aB:x<2^63):ia .and .i64 (IntKind.i64.wrap (x:Int)) 127=((x%128:Nat):Int):=by
 rw[gb U U];show IntKind.i64.wrap (((BitVec.ofInt 64 (x:Int) &&& BitVec.ofInt 64 127:BitVec 64).toNat:Nat):Int)=_;have D:(BitVec.ofInt 64 (x:Int)).toNat=x:=by rw[BitVec.toNat_ofInt];omega
 have O:(BitVec.ofInt 64 127).toNat=127:=rfl;have B:x &&& 127=x%128:=Tg x 7;rw[BitVec.toNat_and,D,O,B,gb U U]
def Hd:=ez
def atK(x:Nat)(aB:x<2^64)(w:ar):cQ 253 #[.int .u64 (x:Nat)] w (.int .i64 (jj x 64:Nat)):=by
 obtain⟨cR,mP⟩:=atG x aB;obtain⟨cE,lT⟩:=atH (f0 32 x) mP;have sr:=atI _ lT;have hX:=(aeh 8 x).1;obtain⟨y,cG,eh,lU,eX,hp⟩:=atl x;have FW:=Wy y 256 eh;have FX:=Wy _ 65536 lU;have atL:=Wy (y+y/256+(y+y/256)/65536) 4294967296 U;have atM:=atJ _ eX
 have atN:ia .and .u64 (IntKind.u64.wrap (((f1 16 (f0 32 x):Nat):Int).fdiv 16+((f1 16 (f0 32 x):Nat):Int))) 1085102592571150095=((y:Nat):Int):=by rw[sr,cG,<- hX]
 rw[<- hp];refine cB (nt:=35) [.tmp 2] func253 ?_;refine aA aa Hd ?_;refine aA aa (I Hd cR) ?_;refine aA aa (I Hd cE) ?_;refine aA aa (I Hd atN) ?_;refine gJ aa Hd ?_;refine bf Hd ?_;intro E;show Value.int IntKind.i64 _=_
 congr 1
 refine Eq.trans ?_ atM
 congr 2
 refine Eq.trans ?_ atL;have rU:IntKind.u64.wrap (((y+y/256:Nat):Int)+((y+y/256:Nat):Int).fdiv 65536)=((y+y/256+(y+y/256)/65536:Nat):Int):=FX;have h1:IntKind.u64.wrap ((y:Int)+(y:Int).fdiv 256)=((y+y/256:Nat):Int):=FW;rw[h1,rU];rfl
abbrev atO:cV prog 253:=kH (λ| [.val (.int .u64 x)]=>some (x)|_=>none) (λav W bs=>0<=av/\av<18446744073709551616) call253 (e:=λav=>#[.int .u64 av]) (res:=λav=>.int .i64 (jj av.toNat 64:Nat)) λav W w bs ad hp=>by have:=atK av.toNat U w;rw[OP hp.1]at this;exact this
abbrev He:Env prog:=a7 atO.spec aa
attribute [local simp] so
def yd:=(eI Hd @GF @GA @GB @GC @GD)
def atP(S:dc)(w:ar):cQ 221 #[jS S] w (.int .i64 (pH S:Nat)):=by
 refine cB (nt:=16) [.tmp 2] func221 ?_;refine aA He (I yd @xT) ?_;refine gJ He yd ?_;refine ae.loop (λk:Nat=>⟨20,bK [(3,(oX S (64*k):Nat)),(6,.is (.agg ((hv S).map .v))),(7,k)],bA []⟩) (λk=>k<=4) (λk=>4-k) 0 ?_ (ef _) ?_
 ·exact bh yd
 rintro k ad;have hle:=Ww S (64*k);have aEd:=Ww S (64*(k+1));refine bk He yd ?_;refine bC yd ?_ ?_<;>intro J
 ·have ax:k<4:=bt J
  have hw:=aei S k 64 (eo _);have aB:=atm S k;have ff:0<=wd S k:=by rw[wd];omega
  have dM:=fK k;have e:oX S (64*(k+1))=oX S (64*k)+jj (wd S k).toNat 64:=hw;have wM:IntKind.i64.wrap ((oX S (64*k):Int)+((jj (wd S k).toNat 64:Nat):Int))=((oX S (64*(k+1)):Nat):Int):=by rw[gb U U,e];omega
  refine a1 ?_;refine ae.seq (ae.block ?_);refine aL He (I yd (Jk S k ax)) ?_ ?_
  ·omega
  refine wr He (I yd wM) ?_ ?_
  ·omega
  refine bY He (I yd dM) ?_;refine⟨k+1,U,U,?_⟩;exact bh yd
 ·have e4:k=4:=bt J
  subst e4;refine c6 ?_;refine aA He yd ?_;exact bE yd
abbrev atQ:cV prog 221:=oR (λ| [.val mo]=>dec jS mo|_=>none) call221 λav w=>atP av w
abbrev aep:cV prog 225:=kH (λ| [.val mo,.val (.int .u8 b)]=>(dec jS mo).map λS=>(S,b)|_=>none) (λav W bs=>0<=av.2/\av.2<256) call225 (e:=λav=>#[jS av.1,.int .u8 av.2]) (res:=λav=>.bool (av.1.getLsbD av.2.toNat)) λav W w bs ad hp=>by obtain⟨S,b⟩:=av;try dsimp only at hp;have:=aqt S b.toNat U w;rw[OP hp.1]at this;exact this
abbrev JQ:Env prog:=a7 aep.spec aa
def Bb:=(I yd (uf MB))
def atS(S:dc)(bp:∃b<256,S.getLsbD b=true)(w:ar):cQ 222 #[jS S,(0:Int)] w (.tuple #[.int .u8 (A7 S:Nat),true]):=by
 refine cB (nt:=19) [.tmp 4,.tmp 5] func222 ?_;refine bk JQ (I Bb @xT) ?_;refine bk JQ Bb ?_
 refine ae.loop (λj:Nat=>⟨20,bK [(2,.is (.own 0 0)),(6,j)],bA [(0,.cells 309 ((hv S).map .v))]⟩) (λj=>j<=256/\∀k<j,S.getLsbD k=false) (λj=>256-j) 0 ?_ ⟨ef _,λk h=>by omega⟩ ?_
 ·exact bh Bb
 rintro j ⟨Y,aE⟩;refine ae.seq ?_;refine aR JQ Bb ?_ ?_<;>intro J
 ·have ax:j<256:=bt J
  have iF:=fK j;have zz:IntKind.u8.wrap (j:Int)=(j:Int):=rh U U;refine a1 ?_;refine ae.seq (ae.block ?_);refine aL JQ (aT Bb zz @uj) ?_ ?_
  ·omega
  refine bC Bb ?_ ?_<;>intro J
  ·rw[ad3 S j ax aE J];refine aA JQ (I Bb zz) ?_;exact bE Bb
  ·refine a1 ?_;refine bY JQ (I Bb iF) ?_;refine⟨j+1,⟨U,λk ad=>?_⟩,U,?_⟩
   ·by_cases h:k=j
    ·rw[h];exact J
    ·exact aE k U
   ·exact bh Bb
 ·exfalso;have hW:j=256:=bt J
  subst hW;obtain⟨b,D,O⟩:=bp;rw[aE b D]at O;cases O
def atT(S:dc)(h:pH S=1):∃b<256,S.getLsbD b=true:=by
 refine ZB λaE=>?_
 have:=ad4 S 256 λj Y=>by
  cases Z:S.getLsbD j with
  |false=>rfl
  |true=>exact absurd ⟨j,Y,Z⟩ aE
 rw[pH]at h;omega
abbrev atU:cV prog 222:=kH (λ| [.val mo,.val (.int .i64 x)]=>(dec jS mo).map λS=>(S,x)|_=>none) (λav W bs=>av.2=0/\∃b<256,av.1.getLsbD b=true) call222 (e:=λav=>#[jS av.1,.int .i64 av.2]) (res:=λav=>.tuple #[.int .u8 (A7 av.1:Nat),true]) λav W w bs ad hp=>by obtain⟨S,x⟩:=av;try dsimp only at hp;obtain⟨rfl,bp⟩:=hp;exact atS S bp w
def wW(n:Int):ByteArray:=⟨(Lib.itoa n).toArray⟩
def aeq(n:Nat):wW n=⟨(Lib.decDigits n).toArray⟩:=by unfold wW Lib.itoa;rw[ab U,kR]
def aer:∀(k u:Nat),u<10^(k+1)->Lib.nDigits u<=k+1
 |0,u,h=>by rw[Lib.nDigits_small U];omega
 |k+1,u,h=>by
  by_cases D:u<10
  ·rw[Lib.nDigits_small D];omega
  ·rw[Lib.nDigits_big D];have:=aer k (u/10) (by rw[Nat.pow_succ]at h;omega);omega
def Rq(A:0<=n)(D:n<=9223372036854775807):(wW n).size<=19:=by obtain⟨m,rfl⟩:=l7 A;rw[aeq];show(Lib.decDigits m).length<=19;rw[Lib.decDigits_length];exact aer 18 m U
def wX(W:ar)(S:aY):Prop:=S 3/\Lib.TabIs prog W "internal/strconv.uint64pow10" .u64 Lib.pow10Tab
def Wz:prog.globalNamed "internal/strconv.uint64pow10"=some 3:=mN
theorem wX.mono{W aO:World}{S bz:Nat->Prop}(h:wX W S)(V:bT W S aO bz):wX aO bz:=by
 obtain⟨A,D⟩:=h;unfold Lib.TabIs World.var? at D;rw[Wz,BM]at D;have ax:3<W.heap.size:=by
  refine Decidable.byContradiction λaE=>?_
  rw[ON U]at D;cases D
 obtain⟨g1,g2⟩:=V 3 ax A;refine⟨g2,?_⟩;unfold Lib.TabIs World.var?;rw[Wz,BM,g1];exact D
def wX.km(h:wX W (Out bs))(ad:cr W bs w)(hm:∀b∈fp,W.heap.size<=b\/b∈bs):wX w (Out fp):=h.mono λb Z V=>⟨ad.block b Z V,λdO=>(hm b dO).elim (λg=>absurd g (rG.2 Z)) V⟩
def atV(n:Int)(A:0<=n)(D:n<=9223372036854775807)(w:ar)(aV:wX w (Out [])):cQ 39 #[n] w (.string (wW n)):=by refine(Any.strconv_Itoa Tryz.ap9 n U D w aV.2).mono ?_;rintro e M ⟨rfl,k,os,rfl⟩;exact⟨rfl,LE.cr.ZP (Lib.below_grow _ w (eo _) k os)⟩
abbrev aes:cV prog 39:=kH (λ| [.val (.int .i64 n)]=>some (n)|_=>none) (λav W bs=>(0<=av/\av<=9223372036854775807)/\wX W (Out bs)) call39 λav W w bs ad hp=>atV av hp.1.1 hp.1.2 w (hp.2.km ad bq)
def atW(h:u<=9223372036854775807):((u:Nat):Int).tmod 10=((u%10:Nat):Int)/\IntKind.u64.wrap (((u:Nat):Int).tdiv 10)=((u/10:Nat):Int) /\
  IntKind.u64.wrap (48+((u%10:Nat):Int))=((48+u%10:Nat):Int)/\IntKind.u8.wrap ((48+u%10:Nat):Int)=((48+u%10:Nat):Int):=by
 refine⟨(Int.ofNat_tmod u 10).symm,?_,?_,?_⟩
 ·rw[show((u:Nat):Int).tdiv 10=((u/10:Nat):Int) from(Int.ofNat_tdiv u 10).symm];exact Hc _ U
 ·exact Hc (48+u%10) U
 ·exact rh U U
def atX(h:u<10):Lib.decDigits u=[UInt8.ofNat (48+u%10)]:=by rw[Lib.decDigits_one h,K9 h]
def aet(h:¬u<10):Lib.decDigits u=Lib.decDigits (u/10)++[UInt8.ofNat (48+u%10)]:=by rw[Lib.decDigits,dif_neg h]
def aeu(n:Nat):fD [((n:Nat):Int)]=⟨#[UInt8.ofNat n]⟩:=by simp[fD]
def atY(l:List UInt8)(c:UInt8)(o:ao):(⟨(l++[c]).toArray⟩:ao)++o=⟨l.toArray⟩++((⟨#[c]⟩:ao)++o):=by apply DB;simp[Tm]
def Bc:=ez
def atZ(n:Nat)(aE:(n:Int)<=9223372036854775807)(w:ar):cQ 62 #[n] w (.string (wW (n:Nat))):=by
 refine cB (nt:=28) [.tmp 2] func62 ?_;have hw:=Hc n U;refine aA aa Bc ?_;refine aA aa (I Bc hw) ?_;refine Je aa Bc ?_
 refine ae.loop (λp:Nat×ByteArray=>⟨20,bK [(3,.is (.v (.int .u64 (p.1:Nat)))),(4,.is (.v (.string ⟨#[]⟩))),(5,p.2)],bA []⟩) (λp=>p.1<=n/\p.2.size<=19/\wW n=(⟨(Lib.decDigits p.1).toArray⟩:ao)++p.2) (λp=>p.1) (n,⟨#[]⟩) ?_ ⟨eo _,by simp[ByteArray.size],by rw[aeq];apply DB;simp⟩ ?_
 ·exact bh Bc
 rintro⟨u,o⟩ ⟨D,O,B⟩;dsimp only at D O B ⊢;obtain⟨f1,f2,f3,f4⟩:=atW (u:=u) U;refine ae.block ?_;refine aL aa (b3 Bc f1 f3 f4) ?_ ?_
 ·exact⟨aq,by rw[mw];simp only[l9,uW];omega⟩
 refine aA aa (I Bc f2) ?_;refine aR aa Bc ?_ ?_<;>intro J
 ·have hu:u<10:=bt J
  rw[atX hu]at B;have aU:fD [((48+u%10:Nat):Int)]++o=wW n:=by rw[B,aeu]
  have cv:(⟨#[]⟩:ao)++wW n=wW n:=by apply DB;simp
  refine aL aa (aT Bc aU cv) ?_ ?_
  ·have:=Rq (n:=n) U aE;have bg:(⟨#[]⟩:ao).size=0:=rfl;rw[bg];omega
  exact bE Bc
 ·have hu:¬u<10:=bt J
  refine a1 ?_;refine⟨(u/10,fD [((48+u%10:Nat):Int)]++o),⟨by dsimp only;omega,?_,?_⟩,by dsimp only;omega,?_⟩
  ·have aU:=fZ ByteArray.size B;have bn:=Rq (n:=n) U aE;rw[aU,aet hu,dU]at bn;have cA:(⟨(Lib.decDigits (u/10)++[UInt8.ofNat (48+u%10)]).toArray⟩:ao).size=(Lib.decDigits (u/10)).length+1:=by
    show(Lib.decDigits (u/10)++[UInt8.ofNat (48+u%10)]).length=_;rw[ec];rfl
   rw[cA]at bn;rw[dU,mw];simp only[l9,uW];omega
  ·rw[B,aet hu,atY,aeu]
  ·exact bh Bc
abbrev at0:cV prog 62:=kH (λ| [.val (.int .i64 n)]=>some (n)|_=>none) (λav W bs=>(0<=av/\av<=9223372036854775807)) call62 (e:=λav=>#[.int .i64 av]) (res:=λav=>.string (wW av)) λav W w bs ad hp=>by obtain⟨m,rfl⟩:=l7 hp.1;exact atZ m hp.2 w
def aev:bm->Int
 |.bV=>0
 |.cls _=>1
 |.cat _ _=>2
 |.alt _ _=>3
 |.star _=>4
 |.and _ _=>5
 |.minus _ _=>6
def Rr(op:Int):Int:=if op=3 then 0 else if op=5\/op=6 then 1 else if op=2 then 2 else if op=4 then 3 else 4
def at1(t:bm):Rr (aev t)=mT t:=by cases t<;>rfl
def qG:=(aT (ch va vb vc @qa @pr.eq_1 @pt @qd (uf aek)) (ch @No @Np @Nq @Nr @Ns @JK @Nn @Rc) (ch @Rf @Rd @bQ @vv @A4 @zq @vx @Ro))
def at2(op:Int)(w:ar):cQ 207 #[op] w (.int .i64 (Rr op)):=by
 refine cB (nt:=13) [.tmp 2] func207 ?_;refine gJ aa qG ?_;refine aR aa qG ?_ ?_<;>intro J
 ·have h:op=3:=aC J
  rw[Rr,al h];refine aA aa qG ?_;exact bE qG
 have n3:¬op=3:=aC J
 rw[Rr,ab n3];refine fR ⟨40,bK [(3,op),(6,(decide (op=5\/op=6)))],bA []⟩ ?_ ?_
 ·skip;refine aR aa qG ?_ ?_<;>intro J
  ·have h:op=5:=aC J
   rw[show decide (op=5\/op=6)=true by simp[h]];refine a1 ?_;exact bh (I qG J)
  ·have h:¬op=5:=aC J
   rw[show decide (op=5\/op=6)=decide (op=6) by simp[h]];refine bY aa qG ?_;exact bh qG
 refine bC qG ?_ ?_<;>intro J
 ·have h:op=5\/op=6:=aC J
  rw[al h];refine aA aa qG ?_;exact bE qG
 have JR:¬(op=5\/op=6):=aC J
 rw[ab JR];refine aR aa qG ?_ ?_<;>intro J
 ·have h:op=2:=aC J
  rw[al h];refine aA aa qG ?_;exact bE qG
 have eY:¬op=2:=aC J
 rw[ab eY];refine aR aa qG ?_ ?_<;>intro J
 ·have h:op=4:=aC J
  rw[al h];refine aA aa qG ?_;exact bE qG
 have n4:¬op=4:=aC J
 rw[ab n4];refine bk aa qG ?_;exact bE qG
abbrev at3:cV prog 207:=oR (λ| [.val (.int .i64 op)]=>some (op)|_=>none) call207 λav w=>at2 av w
def fl(l:List bj):Nat->bm->Prop
 |i,.bV=>∃d,l[i]?=some d/\d.op=0
 |i,.cls S=>∃d,l[i]?=some d/\d.op=1/\d.set=S
 |i,.cat a b=>∃d,∃x y:Nat,l[i]?=some d/\d.op=2/\d.a=x/\d.b=y/\x<y/\fl l x a/\fl l y b
 |i,.alt a b=>∃d,∃x y:Nat,l[i]?=some d/\d.op=3/\d.a=x/\d.b=y/\x<y/\fl l x a/\fl l y b
 |i,.star a=>∃d,∃x:Nat,l[i]?=some d/\d.op=4/\d.a=x/\fl l x a
 |i,.and a b=>∃d,∃x y:Nat,l[i]?=some d/\d.op=5/\d.a=x/\d.b=y/\x<y/\fl l x a/\fl l y b
 |i,.minus a b=>∃d,∃x y:Nat,l[i]?=some d/\d.op=6/\d.a=x/\d.b=y/\x<y/\fl l x a/\fl l y b
theorem fl.op{l:List bj}{i:Nat}{t:bm}(h:fl l i t):∃d,l[i]?=some d/\d.op=aev t:=by
 cases t with
 |bV=>obtain⟨d,D,O⟩:=h;exact⟨d,D,O⟩
 |cls S=>obtain⟨d,D,O,_⟩:=h;exact⟨d,D,O⟩
 |star a=>obtain⟨d,_,D,O,_⟩:=h;exact⟨d,D,O⟩
 |cat a b=>obtain⟨d,_,_,D,O,_⟩:=h;exact⟨d,D,O⟩
 |alt a b=>obtain⟨d,_,_,D,O,_⟩:=h;exact⟨d,D,O⟩
 |and a b=>obtain⟨d,_,_,D,O,_⟩:=h;exact⟨d,D,O⟩
 |minus a b=>obtain⟨d,_,_,D,O,_⟩:=h;exact⟨d,D,O⟩
def Rs{α:Type}(l:List α)(d:α)(r:List α){k:Nat}(ad:k=l.length):(l++d::r)[k]?=some d:=by subst ad;simp
def aew:∀(t:bm) (pre post:List bj),fl (pre++dq pre.length t++post) (pre.length+aG t-1) t:=by
 have two:∀(a b:bm) (d:bj) (pre post:List bj),(∀pre post:List bj,fl (pre++dq pre.length a++post) (pre.length+aG a-1) a)->(∀pre post:List bj,fl (pre++dq pre.length b++post) (pre.length+aG b-1) b) ->
   (pre++(dq pre.length a++(dq (pre.length+aG a) b++[d]))++post)[pre.length+(aG a+aG b+1)-1]?=some d/\fl (pre++(dq pre.length a++(dq (pre.length+aG a) b++[d]))++post) (pre.length+aG a-1) a/\fl (pre++(dq pre.length a++(dq (pre.length+aG a) b++[d]))++post) (pre.length+aG a+aG b-1) b:=by
  intro a b d pre post aQ Z;have Ny:=uv a pre.length;have at4:=uv b (pre.length+aG a);have bg:pre++(dq pre.length a++(dq (pre.length+aG a) b++[d]))++post=(pre++dq pre.length a++dq (pre.length+aG a) b)++d::post:=by simp
  have bN:pre++(dq pre.length a++(dq (pre.length+aG a) b++[d]))++post=pre++dq pre.length a++(dq (pre.length+aG a) b++d::post):=by simp
  have dQ:pre++(dq pre.length a++(dq (pre.length+aG a) b++[d]))++post=(pre++dq pre.length a)++dq (pre++dq pre.length a).length b++d::post:=by rw[ec,Ny];simp
  refine⟨?_,?_,?_⟩
  ·rw[bg];exact Rs _ _ _ (by rw[ec,ec,Ny,at4];omega)
  ·rw[bN];exact aQ pre _
  ·rw[dQ];have h:=Z (pre++dq pre.length a) (d::post);rw[ec,Ny]at h ⊢;exact h
 intro t
 induction t with
 |bV=>intro pre post;exact⟨_,by show(pre++[fT 0 0 0]++post)[pre.length+1-1]?=_;rw[mJ];exact Rs _ _ _ U,rfl⟩
 |cls S=>intro pre post;exact⟨_,by show(pre++[⟨1,S,0,0,0,0⟩]++post)[pre.length+1-1]?=_;rw[mJ];exact Rs _ _ _ U,rfl,rfl⟩
 |star a bb=>
  intro pre post;have Ny:=uv a pre.length;have hp:=qF a;refine⟨fT 4 ((pre.length+aG a-1:Nat):Int) 0,pre.length+aG a-1,?_,rfl,rfl,?_⟩
  ·have bg:pre++dq pre.length (.star a)++post=(pre++dq pre.length a)++fT 4 ((pre.length+aG a-1:Nat):Int) 0::post:=by simp[dq]
   rw[bg];exact Rs _ _ _ (by rw[ec,Ny];show pre.length+(aG a+1)-1=_;omega)
  ·have bN:pre++dq pre.length (.star a)++post=pre++dq pre.length a++fT 4 ((pre.length+aG a-1:Nat):Int) 0::post:=by simp[dq]
   rw[bN];exact bb pre _
 |cat a b oV oW=>intro pre post;have hp:=qF a;have z:=qF b;obtain⟨D,O,B⟩:=two a b _ pre post oV oW;exact⟨_,pre.length+aG a-1,pre.length+aG a+aG b-1,D,rfl,rfl,rfl,U,O,B⟩
 |alt a b oV oW=>intro pre post;have hp:=qF a;have z:=qF b;obtain⟨D,O,B⟩:=two a b _ pre post oV oW;exact⟨_,pre.length+aG a-1,pre.length+aG a+aG b-1,D,rfl,rfl,rfl,U,O,B⟩
 |and a b oV oW=>intro pre post;have hp:=qF a;have z:=qF b;obtain⟨D,O,B⟩:=two a b _ pre post oV oW;exact⟨_,pre.length+aG a-1,pre.length+aG a+aG b-1,D,rfl,rfl,rfl,U,O,B⟩
 |minus a b oV oW=>intro pre post;have hp:=qF a;have z:=qF b;obtain⟨D,O,B⟩:=two a b _ pre post oV oW;exact⟨_,pre.length+aG a-1,pre.length+aG a+aG b-1,D,rfl,rfl,rfl,U,O,B⟩
abbrev Bd (ay:dj)(n c:Nat)(r:Int):Value:=.agg #[.slice ay n c,r]
abbrev zA (l:List bj)(ay:dj)(c:Nat)(r:Int)(i:Nat)(t:bm):Prop:=∀w,qx w ay (cw l)->cQ 102 #[Bd ay l.length c r,i] w (.string (iG t))
abbrev Be (l:List bj)(ay:dj)(c:Nat)(r:Int)(i:Nat)(t:bm):Prop:=∀(fL:Int) (w:ar),qx w ay (cw l)->cQ 157 #[Bd ay l.length c r,i,fL] w (.string (rX t fL))
def CQ{ay:dj}{vs:aX}(h:b0 W (Out bs) ay vs)(ad:cr W bs w):qx w ay vs:=(h.mono ad.ep).is
section
variable (l:List bj)(ay:dj)(c:Nat)(r:Int)
abbrev aex (i:Nat)(t:bm)(h:zA l ay c r i t):cV prog 102:=Mo (λW bs=>b0 W (Out bs) ay (cw l)) call102 λW w bs ad hp=>h w (CQ hp ad)
abbrev WA(i:Nat)(t:bm)(h:zA l ay c r i t):Env prog:=a7 ((aex l ay c r i t h).spec) (a7 at3.spec aa)
def at5{i:Nat}{d:bj}(V:qx w ay (cw l))(ak:l[i]?=some d):i<l.length/\∃b o,ay=some ⟨b,o,none⟩/\w.cell? ⟨b,o+i*261,none⟩=some (.int .i64 d.op):=by obtain⟨ad,ak⟩:=kC.1 ak;obtain⟨b,o,D,O,_⟩:=qx.aH V ad;rw[ak]at O;exact⟨ad,b,o,D,O⟩
def CR:=(I qG @aex.eq_1)
def CS(i:Nat)(t:bm)(aV:fl l i t)(bP:aG t<=4000000)(h:zA l ay c r i t):Be l ay c r i t:=by
 intro fL w V;obtain⟨d,ak,cm⟩:=aV.op;obtain⟨hi,b,o,rfl,aB⟩:=at5 l ay V ak;have aey:=at1 t;rw[<- cm]at aey;have TT:=vA t;refine cB (nt:=24) [.tmp 6] func157 ?_;refine aA aa CR ?_;refine aL (WA l (some ⟨b,o,none⟩) c r i t h) CR ?_ ?_
 ·exact(b0.s8 V).out λ_ _=>by simp[Out]
 refine ae.seq ?_;refine aL (WA l (some ⟨b,o,none⟩) c r i t h) (aT CR aB aey) ?_ ?_
 ·omega
 refine bC CR ?_ ?_<;>intro J
 ·have ax:mT t<fL:=aC J
  have e:rX t fL=Ri++iG t++Rj:=by rw[rX,sG,al ax]
  rw[e];refine aL aa CR ?_ ?_
  ·refine⟨?_,?_⟩
   ·show 1+_<=_;omega
   ·rw[dU];show 1+_+1<=_;omega
  exact bE CR
 ·have ax:¬mT t<fL:=aC J
  have e:rX t fL=iG t:=by rw[rX,sG,ab ax]
  rw[e];refine bk aa CR ?_;exact bE CR
def WB(x y:Nat)(a b:bm)(aQ:Be l ay c r x a)(Z:Be l ay c r y b):cV prog 157 where
 pre:=λW bs aj=>∃i fL:Int,aj=[.val (Bd ay l.length c r),.val (.int .i64 i),.val (.int .i64 fL)]/\(i=x\/i=y)/\b0 W (Out bs) ay (cw l)
 res:=λ_ aj=>match aj with
  |[_,.val (.int _ i),.val (.int _ fL)]=>.string (rX (if i=x then a else b) fL)
  |_=>undef
 enters:=call157
 ok:=by
  intro W w bs us aj ad hu hp;obtain⟨i,fL,rfl,D,O⟩:=hp
  match us,hu with
  |[cT,eO,tk],hu=>
   obtain⟨rfl,rfl,rfl,_⟩:=hu;by_cases aB:i=x
   ·subst aB;simp only[wg];exact aQ fL w (CQ O ad)
   ·obtain rfl:=D.resolve_left aB;simp only[ab aB];exact Z fL w (CQ O ad)
section
variable (x y:Nat)(a b:bm)(aQ:Be l ay c r x a)(Z:Be l ay c r y b)
def at6(W:ar)(bs:aD)(i fL:Int):(WB l ay c r x y a b aQ Z).pre W bs [.val (Bd ay l.length c r),.val (.int .i64 i),.val (.int .i64 fL)]=((i=x\/i=y)/\b0 W (Out bs) ay (cw l)):=by
 apply propext;constructor
 ·rintro⟨kp,at7,D,O⟩;simp only[pZ,br.val.injEq,Value.int.injEq,yL,we]at D;obtain⟨rfl,rfl⟩:=D;exact O
 ·exact λh=>⟨i,fL,rfl,h⟩
theorem aua(W:ar)(v:br)(k eS:IntKind)(i fL:Int):(WB l ay c r x y a b aQ Z).res W [v,.val (.int k i),.val (.int eS fL)]=.string (rX (if i=x then a else b) fL):=rfl
abbrev Nz:Env prog:=a7 ((WB l ay c r x y a b aQ Z).spec) (a7 aeo.spec aa)
end
abbrev kL:Env prog:=a7 aeo.spec aa
def r1(t:bm)(fL:Int):(rX t fL).size<=2400*aG t+2:=by have D:=vA t;have O:=A8 (mT t) fL (iG t);unfold rX;omega
def hk:=(aT CR @at6 @aua)
def aub(i:Nat)(bP:aG (.bV)<=4000000)(aV:fl l i (.bV)):zA l ay c r i (.bV):=by
 intro w V;obtain⟨d,ak,cm⟩:=aV;obtain⟨hi,ak⟩:=kC.1 ak;have jV:b0 w (Out []) ay (cw l):=(b0.s8 V).out λ_ _=>by simp[Out]
 obtain⟨b,o,rfl,Z,bD,cq⟩:=x9 jV hi;rw[ak]at bD;refine cB (nt:=72) [.tmp 4] func102 ?_;refine aA kL hk ?_;refine ae.s7 kL bX (xQ hk (I bD cq)) rfl ?_ ?_
 ·exact⟨U,bq,bj.pG d⟩
 refine dL kL (I hk cm) ?_;refine dL kL hk ?_;exact bE hk
def auc(S:dc)(i:Nat)(bP:aG (.cls S)<=4000000)(aV:fl l i (.cls S)):zA l ay c r i (.cls S):=by
 intro w V;obtain⟨d,ak,cm,rfl⟩:=aV;obtain⟨hi,ak⟩:=kC.1 ak;have jV:b0 w (Out []) ay (cw l):=(b0.s8 V).out λ_ _=>by simp[Out]
 obtain⟨b,o,rfl,Z,bD,cq⟩:=x9 jV hi;rw[ak]at bD;refine cB (nt:=72) [.tmp 4] func102 ?_;refine aA kL hk ?_;refine ae.s7 kL bX (xQ hk (I bD cq)) rfl ?_ ?_
 ·exact⟨U,bq,bj.pG d⟩
 refine dL kL (I hk cm) ?_;refine ti kL hk ?_;exact bE hk
def aud(a b:bm)(i:Nat)(bP:aG (.cat a b)<=4000000)(aV:fl l i (.cat a b))(ux:∀(j:Nat),(∀t,(t=a\/t=b)->fl l j t->Be l ay c r j t)):zA l ay c r i (.cat a b):=by
 intro w V;obtain⟨d,x,y,ak,cm,oc,zm,Rt,gI,Hf⟩:=aV;have cb:=ux x a (.inl rfl) gI;have gj:=ux y b (.inr rfl) Hf;have eL:¬((y:Nat):Int)=((x:Nat):Int):=U;have s1:=r1 a 2;have s2:=r1 b 3;have FQ:aG a+aG b+1<=4000000:=bP;obtain⟨hi,ak⟩:=kC.1 ak
 have jV:b0 w (Out []) ay (cw l):=(b0.s8 V).out λ_ _=>by simp[Out]
 obtain⟨vB,o,rfl,Z,bD,cq⟩:=x9 jV hi;rw[ak]at bD;refine cB (nt:=72) [.tmp 4] func102 ?_;refine aA kL hk ?_;refine ae.s7 kL bX (xQ hk (I bD cq)) rfl ?_ ?_
 ·exact⟨U,bq,bj.pG d⟩
 refine dL kL (I hk cm) ?_;refine lv kL hk ?_;refine gJ kL hk ?_;refine dh (Nz l (some ⟨vB,o,none⟩) c r x y a b cb gj) (b3 hk oc zm eL) ?_ ?_
 ·exact⟨jV,⟨.inr trivial,jV⟩,U⟩
 exact bE hk
def aue(a b:bm)(i:Nat)(bP:aG (.alt a b)<=4000000)(aV:fl l i (.alt a b))(ux:∀(j:Nat),(∀t,(t=a\/t=b)->fl l j t->Be l ay c r j t)):zA l ay c r i (.alt a b):=by
 intro w V;obtain⟨d,x,y,ak,cm,oc,zm,Rt,gI,Hf⟩:=aV;have cb:=ux x a (.inl rfl) gI;have gj:=ux y b (.inr rfl) Hf;have eL:¬((y:Nat):Int)=((x:Nat):Int):=U;have s1:=r1 a 0;have s2:=r1 b 1;have FQ:aG a+aG b+1<=4000000:=bP;obtain⟨hi,ak⟩:=kC.1 ak
 have jV:b0 w (Out []) ay (cw l):=(b0.s8 V).out λ_ _=>by simp[Out]
 obtain⟨vB,o,rfl,Z,bD,cq⟩:=x9 jV hi;rw[ak]at bD;refine cB (nt:=72) [.tmp 4] func102 ?_;refine aA kL hk ?_;refine ae.s7 kL bX (xQ hk (I bD cq)) rfl ?_ ?_
 ·exact⟨U,bq,bj.pG d⟩
 refine dL kL (I hk cm) ?_;refine y9 kL hk ?_;refine dh (Nz l (some ⟨vB,o,none⟩) c r x y a b cb gj) (b3 hk oc zm eL) ?_ ?_
 ·exact⟨jV,by show _+1<=_;omega,⟨.inr trivial,jV⟩,by rw[dU];show _+1+_<=_;omega⟩
 exact bE hk
def auf(a b:bm)(i:Nat)(bP:aG (.and a b)<=4000000)(aV:fl l i (.and a b))(ux:∀(j:Nat),(∀t,(t=a\/t=b)->fl l j t->Be l ay c r j t)):zA l ay c r i (.and a b):=by
 intro w V;obtain⟨d,x,y,ak,cm,oc,zm,Rt,gI,Hf⟩:=aV;have cb:=ux x a (.inl rfl) gI;have gj:=ux y b (.inr rfl) Hf;have eL:¬((y:Nat):Int)=((x:Nat):Int):=U;have s1:=r1 a 1;have s2:=r1 b 2;have FQ:aG a+aG b+1<=4000000:=bP;obtain⟨hi,ak⟩:=kC.1 ak
 have jV:b0 w (Out []) ay (cw l):=(b0.s8 V).out λ_ _=>by simp[Out]
 obtain⟨vB,o,rfl,Z,bD,cq⟩:=x9 jV hi;rw[ak]at bD;refine cB (nt:=72) [.tmp 4] func102 ?_;refine aA kL hk ?_;refine ae.s7 kL bX (xQ hk (I bD cq)) rfl ?_ ?_
 ·exact⟨U,bq,bj.pG d⟩
 refine dL kL (I hk cm) ?_;refine lv kL hk ?_;refine dh (Nz l (some ⟨vB,o,none⟩) c r x y a b cb gj) (b3 hk oc zm eL) ?_ ?_
 ·exact⟨jV,by show _+1<=_;omega,⟨.inr trivial,jV⟩,by rw[dU];show _+1+_<=_;omega⟩
 exact bE hk
def aug(a b:bm)(i:Nat)(bP:aG (.minus a b)<=4000000)(aV:fl l i (.minus a b))(ux:∀(j:Nat),(∀t,(t=a\/t=b)->fl l j t->Be l ay c r j t)):zA l ay c r i (.minus a b):=by
 intro w V;obtain⟨d,x,y,ak,cm,oc,zm,Rt,gI,Hf⟩:=aV;have cb:=ux x a (.inl rfl) gI;have gj:=ux y b (.inr rfl) Hf;have eL:¬((y:Nat):Int)=((x:Nat):Int):=U;have s1:=r1 a 1;have s2:=r1 b 2;have FQ:aG a+aG b+1<=4000000:=bP;obtain⟨hi,ak⟩:=kC.1 ak
 have jV:b0 w (Out []) ay (cw l):=(b0.s8 V).out λ_ _=>by simp[Out]
 obtain⟨vB,o,rfl,Z,bD,cq⟩:=x9 jV hi;rw[ak]at bD;refine cB (nt:=72) [.tmp 4] func102 ?_;refine aA kL hk ?_;refine ae.s7 kL bX (xQ hk (I bD cq)) rfl ?_ ?_
 ·exact⟨U,bq,bj.pG d⟩
 refine dL kL (I hk cm) ?_;refine lv kL hk ?_;refine bk kL hk ?_;refine dh (Nz l (some ⟨vB,o,none⟩) c r x y a b cb gj) (b3 hk oc zm eL) ?_ ?_
 ·exact⟨jV,by show _+1<=_;omega,⟨.inr trivial,jV⟩,by rw[dU];show _+1+_<=_;omega⟩
 exact bE hk
def auh(a:bm)(i:Nat)(bP:aG (.star a)<=4000000)(aV:fl l i (.star a))(ux:∀(j:Nat),(∀t,t=a->fl l j t->Be l ay c r j t)):zA l ay c r i (.star a):=by
 intro w V;obtain⟨d,x,ak,cm,oc,gI⟩:=aV;have cb:=ux x a rfl gI;have s1:=r1 a 3;have FQ:aG a+1<=4000000:=bP;obtain⟨hi,ak⟩:=kC.1 ak;have jV:b0 w (Out []) ay (cw l):=(b0.s8 V).out λ_ _=>by simp[Out]
 obtain⟨vB,o,rfl,Z,bD,cq⟩:=x9 jV hi;rw[ak]at bD;refine cB (nt:=72) [.tmp 4] func102 ?_;refine aA kL hk ?_;refine ae.s7 kL bX (xQ hk (I bD cq)) rfl ?_ ?_
 ·exact⟨U,bq,bj.pG d⟩
 refine dL kL (I hk cm) ?_;refine lv kL hk ?_;refine ti kL hk ?_;refine aL (Nz l (some ⟨vB,o,none⟩) c r x x a a cb cb) (I hk oc) ?_ ?_
 ·exact⟨jV,by show _+1<=_;omega⟩
 exact bE hk
def aui:∀(t:bm) (i:Nat),aG t<=4000000->fl l i t->zA l ay c r i t:=by
 intro t
 induction t with
 |bV=>exact λi bP aV=>aub l ay c r i bP aV
 |cls S=>exact λi bP aV=>auc l ay c r S i bP aV
 |star a bb=>
  intro i bP aV;exact auh l ay c r a i bP aV λj t h Y=>by have A:aG a+1<=4000000:=bP;subst h;exact CS l ay c r j _ Y U (bb j U Y)
 |cat a b oV oW=>
  intro i bP aV;exact aud l ay c r a b i bP aV λj t h Y=>by
   have A:aG a+aG b+1<=4000000:=bP;rcases h with rfl|rfl
   ·exact CS l ay c r j _ Y U (oV j U Y)
   ·exact CS l ay c r j _ Y U (oW j U Y)
 |alt a b oV oW=>
  intro i bP aV;exact aue l ay c r a b i bP aV λj t h Y=>by
   have A:aG a+aG b+1<=4000000:=bP;rcases h with rfl|rfl
   ·exact CS l ay c r j _ Y U (oV j U Y)
   ·exact CS l ay c r j _ Y U (oW j U Y)
 |and a b oV oW=>
  intro i bP aV;exact auf l ay c r a b i bP aV λj t h Y=>by
   have A:aG a+aG b+1<=4000000:=bP;rcases h with rfl|rfl
   ·exact CS l ay c r j _ Y U (oV j U Y)
   ·exact CS l ay c r j _ Y U (oW j U Y)
 |minus a b oV oW=>
  intro i bP aV;exact aug l ay c r a b i bP aV λj t h Y=>by
   have A:aG a+aG b+1<=4000000:=bP;rcases h with rfl|rfl
   ·exact CS l ay c r j _ Y U (oV j U Y)
   ·exact CS l ay c r j _ Y U (oW j U Y)
def auj(i:Nat)(t:bm)(bP:aG t<=4000000)(aV:fl l i t)(w:ar)(V:qx w ay (cw l)):cQ 60 #[Bd ay l.length c i] w (.string (iG t)):=by
 have jV:b0 w (Out []) ay (cw l):=(b0.s8 V).out λ_ _=>by simp[Out]
 refine cB (nt:=7) [.tmp 2] func60 ?_;refine aA kL hk ?_;refine aL (WA l ay c i i t (aui l ay c i t i bP aV)) hk ?_ ?_
 ·exact jV
 exact bE hk
abbrev aez (i:Nat)(t:bm)(bP:aG t<=4000000)(aV:fl l i t):cV prog 60:=Mo (λW bs=>b0 W (Out bs) ay (cw l)) call60 λW w bs ad hp=>auj l ay c i t bP aV w (CQ hp ad)
end
abbrev qH:Env prog:=a7 Qv.spec aa
def auk:∀n:Fin 256,let b:=((n.val:Nat):Int);let h:ByteArray:=⟨#[48,49,50,51,52,53,54,55,56,57,97,98,99,100,101,102]⟩;
  let x:=h.extract (b.fdiv 16).toNat (IntKind.u8.wrap (b.fdiv 16+1)).toNat;let y:=h.extract (ia .and .u8 b 15).toNat (IntKind.u8.wrap (ia .and .u8 b 15+1)).toNat;
  (0<=b.fdiv 16/\b.fdiv 16<=IntKind.u8.wrap (b.fdiv 16+1)/\IntKind.u8.wrap (b.fdiv 16+1)<=16)/\(0<=ia .and .u8 b 15/\ia .and .u8 b 15<=IntKind.u8.wrap (ia .and .u8 b 15+1)/\IntKind.u8.wrap (ia .and .u8 b 15+1)<=16) /\
  (x.size=1/\y.size=1)/\(⟨#[92,120]⟩:ao)++x++y=⟨#[92,120,A6 (b/16),A6 (b%16)]⟩:=by decide +kernel
def k2:=ez
def aul(b:Int)(q:ao)(A:0<=b)(D:b<256)(w:ar)(aK:gl w (Out [])):cQ 223 #[.int .u8 b,q] w (.string (hG b (hR q b))):=by
 obtain⟨g0,g1,g2,g3,g4,g5,g6⟩:=aK;refine cB (nt:=54) [.tmp 4] func223 ?_;refine bk qH k2 ?_;refine bk qH (hV k2 g1 g2 g3 g4 g5 g6) ?_
 refine ae.loop (λk:Nat=>⟨40,bK [(0,.is (.v (.int .u8 b))),(1,q),(7,.is (.agg [.v (.int .u8 110),.v (.int .u8 10),.v (.int .u8 114),.v (.int .u8 13),.v (.int .u8 116),.v (.int .u8 9)])),(8,k)],bA []⟩)
  (λk=>k<=3/\(0<k->b≠10)/\(1<k->b≠13)/\(2<k->b≠9)) (λk=>3-k) 0 ?_ ⟨U,U,U,U⟩ ?_
 ·exact bh k2
 rintro k ⟨pA,e8,dz,kn⟩;refine bk qH k2 ?_;refine bC k2 ?_ ?_<;>intro J
 ·simp at J;refine a1 ?_;have wF:k<3:=U;have VN:k=0\/k=1\/k=2:=U;refine ae.seq (ae.block ?_);rcases VN with rfl|rfl|rfl
  ·skip;refine aA qH k2 ?_;refine aR qH k2 ?_ ?_<;>intro J
   ·have Z:b=10:=bt J
    have he:hG b (hR q b)=⟨#[92,110]⟩:=by rw[hG,al Z]
    rw[he];refine aL qH k2 ?_ ?_
    ·show 1+1<=9223372036854775807;omega
    exact bE k2
   ·have Z:¬b=10:=bt J
    refine a1 ?_;refine bY qH k2 ?_;refine⟨1,⟨U,λ_=>Z,U,U⟩,U,?_⟩;exact bh k2
  ·skip;refine aA qH k2 ?_;refine aR qH k2 ?_ ?_<;>intro J
   ·have Z:b=13:=bt J
    have he:hG b (hR q b)=⟨#[92,114]⟩:=by rw[hG,ab (e8 U),al Z]
    rw[he];refine aL qH k2 ?_ ?_
    ·show 1+1<=9223372036854775807;omega
    exact bE k2
   ·have Z:¬b=13:=bt J
    refine a1 ?_;refine bY qH k2 ?_;refine⟨2,⟨U,λ_=>e8 U,λ_=>Z,U⟩,U,?_⟩;exact bh k2
  ·skip;refine aA qH k2 ?_;refine aR qH k2 ?_ ?_<;>intro J
   ·have Z:b=9:=bt J
    have he:hG b (hR q b)=⟨#[92,116]⟩:=by rw[hG,ab (e8 U),ab (dz U),al Z]
    rw[he];refine aL qH k2 ?_ ?_
    ·show 1+1<=9223372036854775807;omega
    exact bE k2
   ·have Z:¬b=9:=bt J
    refine a1 ?_;refine bY qH k2 ?_;refine⟨3,⟨U,λ_=>e8 U,λ_=>dz U,λ_=>Z⟩,U,?_⟩;exact bh k2
 ·have ad:k=3:=bt J
  have CP:=e8 U;have EJ:=dz U;have Ha:=kn U;refine c6 ?_;refine ae.seq (ae.block ?_);refine aR qH k2 ?_ ?_<;>intro J
  ·have h:b<32\/126<b:=aC J
   have e:hG b (hR q b)=⟨#[92,120,A6 (b/16),A6 (b%16)]⟩:=by rw[hG,ab CP,ab EJ,ab Ha,al h]
   rw[e];obtain⟨n,rfl⟩:=l7 A;obtain⟨f1,f2,⟨f3,f4⟩,f5⟩:=auk ⟨n,U⟩;simp only at f1 f2 f3 f4 f5;refine dh qH k2 ?_ ?_
   ·refine⟨f1,?_,f2,?_⟩
    ·rw[f3];show 2+1<=9223372036854775807;omega
    ·rw[f4,dU,f3];show 2+1+1<=9223372036854775807;omega
   refine bf k2 ?_;exact λE=>fZ Value.string f5
  have Nw:¬(b<32\/126<b):=aC J
  refine aR qH k2 ?_ ?_<;>intro J
  ·have hi:hR q b=true:=by rw[hR];simpa using J
   have e:hG b (hR q b)=⟨#[92,b.toNat.toUInt8]⟩:=by rw[hG,ab CP,ab EJ,ab Ha,ab Nw,al hi]
   rw[e];refine aL qH k2 ?_ ?_
   ·show 1+1<=9223372036854775807;omega
   exact bE k2
  ·have hi:¬hR q b=true:=by rw[hR];simpa using J
   have e:hG b (hR q b)=⟨#[b.toNat.toUInt8]⟩:=by rw[hG,ab CP,ab EJ,ab Ha,ab Nw,ab hi]
   rw[e];refine bk qH k2 ?_;exact bE k2
abbrev aum:cV prog 223:=kH (λ| [.val (.int .u8 b),.val (.string q)]=>some (b,q)|_=>none) (λav W bs=>(0<=av.1/\av.1<256)/\gl W (Out bs)) call223 λav W w bs ad hp=>aul av.1 av.2 hp.1.1 hp.1.2 w (hp.2.km ad bq)
abbrev nV:Env prog:=a7 atQ.spec (a7 atU.spec (a7 aum.spec (a7 VO.spec (a7 aep.spec aa))))
attribute [local simp] so
def aun(S:dc)(D:pH S≠1):∃(T:dc) (pre:ao),tu S=jU T pre 256++Rh/\pre.size<=2/\(T,pre)=(if 128<pH S then(~~~S,G9) else(S,G8)):=by
 by_cases h:128<pH S
 ·exact⟨~~~S,G9,by rw[tu,ab D,al h],aq,by rw[al h]⟩
 ·exact⟨S,G8,by rw[tu,ab D,ab h],aq,by rw[ab h]⟩
def hH:=(I (ch ez (uf MB) @GF @GA @GB @GC @GD @ar4) @ar3)
def auo(S:dc)(w:ar)(aK:gl w (Out [])):cQ 182 #[jS S] w (.string (tu S)):=by
 refine cB (nt:=67) [.tmp 2] func182 ?_;refine aA nV (I hH @xT) ?_;refine bk nV (I hH @uj) ?_;refine aR nV hH ?_ ?_<;>intro J
 ·have D:pH S=1:=bt J
  have aN:=ad2 S 256 0;obtain⟨lx,Ai,mv⟩:=atT S D;have ax:A7 S<256:=by
   have aB:∀k j,j+k=256->j<=lx->CO S k j<256:=by
    intro k
    induction k with
    |zero=>intro j D O;omega
    |succ k bb=>
     intro j D O;unfold CO;split
     ·omega
     ·rename_i aE;refine bb (j+1) U ?_;by_cases he:j=lx
      ·rw[he]at aE;exact absurd mv aE
      ·omega
   exact aB 256 0 rfl (ef _)
  have e:tu S=hG (A7 S) (hR qC (A7 S)):=by rw[tu,al D]
  rw[e];refine aL nV (I hH @uj) ?_ ?_
  ·exact⟨lx,Ai,mv⟩
  refine aL nV hH ?_ ?_
  ·exact⟨⟨U,U⟩,aK⟩
  exact bE hH
 have D:pH S≠1:=bt J
 obtain⟨T,pre,he,B4,hp⟩:=aun S D;rw[he];refine bk nV hH ?_;refine fR ⟨60,bK [(1,.is (.own 0 0)),(6,pre)],bA [(0,.cells 309 ((hv T).map .v))]⟩ ?_ ?_
 ·skip;refine aR nV hH ?_ ?_<;>intro J
  ·have h:128<pH S:=bt J
   rw[al h,ll]at hp;obtain⟨rfl,rfl⟩:=hp;refine aA nV hH ?_;refine bY nV (aT hH @uj @xT) ?_;exact bh hH
  ·have h:¬128<pH S:=bt J
   rw[ab h,ll]at hp;obtain⟨rfl,rfl⟩:=hp;refine a1 ?_;exact bh hH
 clear hp;refine dL nV hH ?_;refine ae.loop (λb:Nat=>⟨70,bK [(1,.is (.own 0 0)),(6,(jU T pre b)),(7,b)],bA [(0,.cells 309 ((hv T).map .v))]⟩) (λb=>b<=256/\(b=0\/T.getLsbD (b-1)=false\/T.getLsbD b=false)) (λb=>256-b) 0 ?_ ⟨ef _,.inl rfl⟩ ?_
 ·exact bh hH
 rintro b ⟨Z,hinv⟩;refine ae.seq ?_;refine aR nV hH ?_ ?_<;>intro J
 ·have ax:b<256:=bt J
  have iF:=fK b;have zz:IntKind.u8.wrap (b:Int)=(b:Int):=rh U U;have bP:=JN T pre b;refine a1 ?_;refine ae.seq (ae.block ?_);refine ae.seq ?_;refine aL nV (aT hH zz @uj) ?_ ?_
  ·omega
  refine bC hH ?_ ?_<;>intro J
  ·have Hb:T.getLsbD b=false:=aC J
   have V:yb T b=false:=by rw[yb,Hb];rfl
   have e:jU T pre (b+1)=jU T pre b:=by rw[jU,ab (by rw[V];simp)]
   refine c6 ?_;refine bY nV (I hH iF) ?_;refine⟨b+1,⟨U,.inr (.inl Hb)⟩,U,?_⟩;rw[e];exact bh hH
  have Hb:T.getLsbD b=true:=aC J
  have V:yb T b=true:=by
   rw[yb,Hb,FE];rcases hinv with h|h|h
   ·subst h;rfl
   ·rw[h];simp
   ·rw[Hb]at h;cases h
  have MS:=ad7 T b ax;have e:jU T pre (b+1)=G7 (jU T pre b) b (nU T b):=by rw[jU,al V]
  have bN:jU T pre (nU T b+1)=jU T pre (b+1):=as9 T pre b ax Hb _ U (eo _);have jv:T.getLsbD (nU T b+1)=false:=by
   by_cases h:nU T b<255
   ·exact as7 T b ax h
   ·exact BitVec.getLsbD_of_ge _ _ U
  obtain⟨m,hm⟩:∃m,nU T b=m:=⟨_,rfl⟩;generalize cg:jU T pre b=aE6 at *;rw[hm]at MS e bN jv;rw[e]at bN;refine bk nV hH ?_;refine fR ⟨120,bK [(1,.is (.own 0 0)),(6,aE6),(7,b),(8,m)],bA [(0,.cells 309 ((hv T).map .v))]⟩ ?_ ?_
  ·skip;refine ae.block ?_;refine ae.loop (λk:Nat=>⟨100,bK [(1,.is (.own 0 0)),(6,aE6),(7,b),(8,k)],bA [(0,.cells 309 ((hv T).map .v))]⟩) (λk=>(b<=k/\k<256)/\nU T b=nU T k) (λk=>256-k) b ?_ ⟨⟨eo _,ax⟩,rfl⟩ ?_
   ·exact bh hH
   rintro k ⟨⟨gN,ad⟩,q3⟩;have dM:=fK k;have fin:(k<255->T.getLsbD (k+1)=false)->k=m:=λh=>by have:=ad6 T k h;omega
   by_cases qs:k<255
   ·have ak:decide ((k:Int)<255)=true:=by simp;omega
    have zz:IntKind.u8.wrap ((k+1:Nat):Int)=((k+1:Nat):Int):=rh U U;refine ae.seq ?_;refine aL nV (de hH dM ak zz @uj) ?_ ?_
    ·omega
    refine bC hH ?_ ?_<;>intro J
    ·refine a1 ?_;refine ae.block ?_;refine bY nV (I hH dM) ?_;refine⟨k+1,⟨⟨U,U⟩,by rw[q3];exact ad5 T k qs J⟩,U,?_⟩;exact bh hH
    ·refine c6 ?_;have aW:=fin λ_=>J
     subst aW;exact bh hH
   ·have ak:decide ((k:Int)<255)=false:=by simp;omega
    refine ae.seq ?_;refine aL nV (b3 hH dM ak @uj) ?_ ?_
    ·simp
    refine fu (Γ:=aa) trivial hH ?_;refine c6 ?_;have aW:=fin λh=>absurd h qs
    subst aW;exact bh hH
  have wS:IntKind.u8.wrap ((m:Nat):Int)=((m:Nat):Int):=rh U U;have aup:=fK m;have mv:=G6 b (hR iw b);have uo:=G6 ((m:Nat):Int) (hR iw ((m:Nat):Int));rw[ael]at bN;refine aL nV (I hH zz) ?_ ?_
  ·exact⟨⟨⟨U,U⟩,aK⟩,U⟩
  have atD:(aE6++hG b (hR iw b)).size<=2400:=by rw[dU];omega
  generalize aE6++hG b (hR iw b)=sH at *;refine fR ⟨150,bK [(1,.is (.own 0 0)),(6,.is (.v (.string (if b+1<m then sH++ya else sH)))),(7,b),(8,m)],bA [(0,.cells 309 ((hv T).map .v))]⟩ ?_ ?_
  ·skip;refine aA nV (I hH iF) ?_;refine bC hH ?_ ?_<;>intro J
   ·have h:b+1<m:=bt J
    rw[al h];refine wr nV hH ?_ ?_
    ·show sH.size+1<=_;omega
    exact bh hH
   ·have h:¬b+1<m:=bt J
    rw[ab h];refine a1 ?_;exact bh hH
  have atE:(if b+1<m then sH++ya else sH).size<=2401:=by
   split
   ·rw[dU];show sH.size+1<=2401;omega
   ·omega
  generalize(if b+1<m then sH++ya else sH)=atF at *;refine fR ⟨170,bK [(1,.is (.own 0 0)),(6,.is (.v (.string (jU T pre (m+1))))),(8,m)],bA [(0,.cells 309 ((hv T).map .v))]⟩ ?_ ?_
  ·skip;refine aR nV hH ?_ ?_<;>intro J
   ·have h:b<m:=bt J
    rw[al h]at bN;rw[bN];refine wr nV (I hH wS) ?_ ?_
    ·exact⟨⟨⟨U,U⟩,aK⟩,U⟩
    exact bh hH
   ·have h:¬b<m:=bt J
    rw[ab h]at bN;rw[bN];refine a1 ?_;exact bh hH
  refine bY nV hH ?_;refine bY nV (I hH aup) ?_;refine⟨m+1,⟨U,.inr (.inr jv)⟩,U,?_⟩;exact bh hH
 ·have dO:b=256:=bt J
  subst dO;have bP:=JN T pre 256;refine c6 ?_;refine aL nV hH ?_ ?_
  ·show(jU T pre 256).size+1<=_;omega
  exact bE hH
abbrev auq:cV prog 182:=kH (λ| [.val mo]=>dec jS mo|_=>none) (λav W bs=>gl W (Out bs)) call182 λav W w bs ad hp=>auo av w (hp.km ad bq)
theorem aur(X:List bj)(f:cD):(oy (gg X f).1 (gg X f).2).1.length<=X.length+1:=by grind [oy,gg]
theorem aeA(X:List bj)(f:cD):(qi X f).1.length<=X.length+2:=by
 have D:=aur X f;have B:=adM (oy (gg X f).1 (gg X f).2).1 (oy (gg X f).1 (gg X f).2).2
 grind [qi]
theorem WC(X:List bj)(f:cD):(fM X f).1.length<=X.length+3:=by
 have D:=aeA X f
 grind [fM,Ew]
def lX(s:ao):Except (Int×Int) bU:=AR (af s) s.size (fg s)
def JS:Except (Int×Int) bU->Nat
 |.ok t=>aG t.expand
 |.error _=>0
def JT:Except (Int×Int) bU->List Value
 |.ok t=>cw (dq 0 t.expand)
 |.error _=>[]
def WD:Except (Int×Int) bU->Value->Value
 |.ok t,v=>.tuple #[.agg #[v,(aG t.expand-1:Nat)],(0:Int),(0:Int)]
 |.error (c,p),v=>.tuple #[.agg #[v,(0:Int)],c,p]
def aus:s3 prog 64 [] []=⟨True,.agg [.v (.slice none 0 0),(0:Int)],[],none,[],[]⟩:=mN
def aut:s3 prog 232 [] []=⟨True,.agg [.v (.slice none 0 0),.v (.slice none 0 0)],[],none,[],[]⟩:=mN
theorem auu{P:bR}{T e:a6}{aw:Nat}{zs:aX}(κ:Nat)(x:ag)(l:List ag)(hp:partsOf x=l)(D:P.underlying T=some (.slice e))(O:ah P e=some aw)(B:ct P e=some zs)(aU:zs.length=aw)(bn:aw<=16777216)(cA:0<aw)(c1:l.length=aw) :
  wk P κ T 1 [0] [x]=⟨True,.ak (8*κ),[(8*κ,some (.row e aw 1 l))],none,[],[]⟩:=by
 have aW:qt (λi=>some (i*aw,aw)) ((List.replicate 1 zs).flatten.map .v) ([0].zip [x])=some l:=by simp_all [qt,kT]
 unfold wk
 grind [dV]
def auv(κ:Nat)(f:cD):wk prog κ 230 1 [0] [.v (.agg f.df.toArray)]=⟨True,.ak (8*κ),[(8*κ,some (.row 234 6 1 (f.df.map .v)))],none,[],[]⟩:=auu (e:=234) (aw:=6) (zs:=[.int .i64 0,.int .i64 0,.int .i64 0,.int .u8 0,.int .i64 0,.int .i64 0]) κ _ _ rfl (by kernel_rfl) (by kernel_rfl) (by kernel_rfl) rfl U U rfl
def zB(s:ao):Except (Int×Int) (List bj×cD×List cD):=x2 (af s) s.size (fg s) (s.size+1) 0 [] (zr (-1)) []
theorem NA{e:Int×Int}(Z:¬1048576<(s.size:Int))(h:zB s=.error e):lX s=.error e:=by
 have D:=Nd (c:=af s) (N:=s.size) (rd:=fg s) U;have O:zu (af s) s.size (fg s)=.error e:=by
  rw[zu,ab Z]
  grind [Ex,zB]
 grind [lX]
theorem aeB{f:cD}(Z:¬1048576<(s.size:Int))(h:zB s=.ok (X,f,rest)):lX s=match Ex (.ok (X,f,rest)) with
  |.error e=>.error e
  |.ok _=>lX s:=by
 have D:=Nd (c:=af s) (N:=s.size) (rd:=fg s) U
 grind [lX,zB,zu]
theorem auw{f:cD}(h:zB s=.ok (X,f,rest)):∃ah t,jT (fM X f).1 ah/\0<=(fM X f).2.alt/\ah[(fM X f).2.alt.toNat]?=some t:=by
 have hm:∀o:Int,o=-1->lA [] o none:=λo h=>by show o<0;omega
 have D:=Wf (c:=af s) (N:=s.size) (rd:=fg s) (s.size+1) 0 [] [] (zr (-1)) (ou (-1)) [] [] .nil ⟨rfl,hm _ rfl,hm _ rfl,rfl,hm _ rfl,hm _ rfl⟩ trivial;have O:x2 (af s) s.size (fg s) (s.size+1) 0 [] (zr (-1)) []=.ok (X,f,rest):=h;rw[O]at D
 cases B:runN (af s) s.size (fg s) (s.size+1) 0 (ou (-1)) [] with
 |error e=>grind [JF]
 |ok p=>
  obtain⟨L,sF⟩:=p;rw[B]at D;obtain⟨ah,aQ,aW,aI⟩:=D;obtain⟨l,eM,f1⟩:=QS aQ aW;have O:=f1.alt
  grind [lA,Gx]
theorem auy{f:cD}(Z:¬1048576<(s.size:Int))(h:zB s=.ok (X,f,[]))(bx:¬2000<(iT (fM X f).1).getD (fM X f).2.alt.toNat 0):
  ∃ah t,lX s=.ok t/\jT (fM X f).1 ah/\0<=(fM X f).2.alt/\(fM X f).2.alt<(fM X f).1.length/\ah[(fM X f).2.alt.toNat]?=some t/\aG t.expand<=2000:=by
 have D:=Nd (c:=af s) (N:=s.size) (rd:=fg s) U;have O:zu (af s) s.size (fg s)=.ok ((fM X f).1,(fM X f).2.alt):=by
  rw[zu,ab Z]
  grind [Ex,zB]
 rw[O]at D;cases B:AR (af s) s.size (fg s) with
 |error dn=>simp_all
 |ok t=>
  rw[B]at D;obtain⟨ah,eM,a2,a3⟩:=D;have ax:(fM X f).2.alt.toNat<ah.length:=(kC.1 a3).1;have hle:=eM.len;have bg:(iT (fM X f).1).getD (fM X f).2.alt.toNat 0=(t.aw:Int):=by rw[adJ eM,mI,yG,a3];rfl
  grind [jT.small,lX]
def auz{f:cD}(Z:¬1048576<(s.size:Int))(h:zB s=.ok (X,f,rest))(aI:rest≠[]):lX s=.error (21,f.place):=by
 have D:=aeB Z h
 simp_all [Ex]
def auA{f:cD}(Z:¬1048576<(s.size:Int))(h:zB s=.ok (X,f,[]))(bx:2000<(iT (fM X f).1).getD (fM X f).2.alt.toNat 0):lX s=.error (24,0):=by
 have D:=aeB Z h
 simp_all [Ex]
theorem aeC{e:Int×Int}(h:jR c N i=.error e):e.1≠0:=by
 have aE:∀i e,np c N i=.error e->e.1≠0:=λi e h=>by grind [np]
 have hu:∀m i e,qz c N m i=.error e->e.1≠0:=λm i e h=>by grind [qz]
 unfold jR at h
 grind [wA]
theorem Ru(h:c i≠123):x1 c N i=.ok (if c i=43 then -2 else 0,if c i=63 then 1 else -1,i+1):=by grind [x1]
def Rv(h:c i=123):x1 c N i=jR c N i:=by simp_all [x1]
theorem auB{N i m n j:Int}(hi:i<N)(h:x1 c N i=.ok (m,n,j)):i<j/\j<=N:=by
 by_cases D:c i=123
 ·rw[Rv D]at h;exact Ms h
 grind [Ru]
def auC(a m n:Int):s3 prog 243 [0,2,4,5] [.v (.int .i64 7),.v (.int .i64 a),.v (.int .i64 m),.v (.int .i64 n)]=⟨True,.agg ((⟨7,0,a,0,m,n⟩:bj).df.map .v),[],none,[],[]⟩:=by kernel_rfl
theorem WE:lW []=[]:=rfl
def auD(pre:List cD)(f:cD):lW (pre++[f])=lW pre++f.df:=by simp[lW]
def aeD(pre:List cD)(f:cD):List.map ag.v (lW (pre++[f]))=List.map ag.v (lW pre)++[.v (.int .i64 f.place),.v (.int .i64 f.alt),.v (.int .i64 f.meet),.v (.int .u8 f.gV),.v (.int .i64 f.row),.v (.int .i64 f.cM)]:=by rw[auD,zv]
theorem auE(m n j:Int):Wn (.ok (m,n,j))=.tuple #[m,n,j,(0:Int),(0:Int)]:=rfl
theorem auF(c j:Int):Wn (.error (c,j))=.tuple #[(0:Int),(0:Int),(0:Int),c,j]:=rfl
theorem auG(S:dc):partsOf (.v (vw S))=List.map ag.v (dS S.getLsbD):=rfl
abbrev CT(X:List bj)(pre:List cD)(f:cD):Env prog:=a7 adF.spec (a7 asM.spec (a7 ((adO X pre f).spec) (a7 ((Q0 X pre f).spec) (a7 ((QZ 121 gg call121 adK X pre f).spec) (a7 asm.spec aa)))))
abbrev auH(X:List bj):Env prog:=a7 ((adX X).spec) aa
section
variable (X:List bj)(ah:List bU)(ay:dj)(c n:Nat)
abbrev auI(h:ED X ah ay c n):Env prog:=a7 ((CN X ay c 124 call124 (below n) (EC ah) h).spec) aa
end
abbrev NB (n:Nat):Prop:=∀(t:bm) (fL:Int) (w:ar),ka t<n->aG t<=4000000->gl w (Out [])->cQ 129 #[cz t,fL] w (.string (rX t fL))
def Rw(n:Nat)(h:NB n):cV prog 129 where
 pre:=λW bs aj=>∃(t:bm) (fL:Int),aj=[.val (cz t),.val (.int .i64 fL)]/\ka t<n/\aG t<=4000000/\gl W (Out bs)
 res:=λ_ aj=>match aj with
  |[.val v,.val (.int _ fL)]=>(match dec cz v with
   |some t=>.string (rX t fL)
   |_=>undef)
  |_=>undef
 enters:=call129
 ok:=by
  intro W w bs us aj ad hu hp;obtain⟨t,fL,rfl,D,O,B⟩:=hp
  match us,hu with
  |[x,y],hu=>obtain⟨rfl,rfl,_⟩:=hu;simp only[uf pD];exact h t fL w D O (B.km ad bq)
section
variable (n:Nat)(h:NB n)
def auJ(W:ar)(bs:aD)(t:bm)(fL:Int):(Rw n h).pre W bs [.val (cz t),.val (.int .i64 fL)]=(ka t<n/\aG t<=4000000/\gl W (Out bs)):=by
 apply propext;constructor
 ·rintro⟨eU,at7,D,O⟩;simp only[pZ,br.val.injEq,Value.int.injEq,yL,we]at D;obtain⟨D,rfl⟩:=D;obtain rfl:=pD _ _ D;exact O
 ·exact λh=>⟨t,fL,rfl,h⟩
def auK(W:ar)(t:bm)(fL:Int):(Rw n h).res W [.val (cz t),.val (.int .i64 fL)]=.string (rX t fL):=by simp only[Rw,uf pD]
abbrev k3:Env prog:=a7 ((Rw n h).spec) (a7 auq.spec aa)
end
def ih:=(I (ch ez (uf MB) @GF @GA @GB @GC @GD @vq) (de @iR @xT @uj @auJ @auK))
def auL(n:Nat)(h:NB n):NB (n+1):=by
 intro t fL w NC bP aK;have TT:=vA t;refine cB (nt:=82) [.tmp 4] func129 ?_;refine bk (k3 n h) ih ?_;refine fR ⟨200,bK [(1,fL),(5,(iG t)),(6,(mT t))],bA []⟩ ?_ ?_
 ·skip;refine bk (k3 n h) ih ?_;cases t with
  |bV=>
   have au:cz (.bV)=_:=rfl;unfold cz;refine bk (k3 n h) ih ?_;refine aL (k3 n h) ih ?_ ?_
   ·first|trivial|simp
   refine bY (k3 n h) ih ?_;exact bh ih
  |cls S=>
   have au:cz (.cls S)=_:=rfl;unfold cz;refine gJ (k3 n h) ih ?_;refine aL (k3 n h) ih ?_ ?_
   ·first|trivial|simp
   refine wr (k3 n h) ih ?_ ?_
   ·exact aK
   exact bh ih
  |alt a b=>
   have ak:ka a+ka b+1<n+1:=NC;have bx:aG a+aG b+1<=4000000:=bP;have s1:=r1 a 0;have s2:=r1 b 1;have au:cz (.alt a b)=_:=rfl;unfold cz;refine y9 (k3 n h) ih ?_;refine aL (k3 n h) ih ?_ ?_
   ·rw[ob];exact⟨iR a,iR b⟩
   refine iP (k3 n h) ih ?_ ?_
   ·exact⟨⟨U,U,aK⟩,by show _+1<=_;omega,⟨U,U,aK⟩,by rw[dU];show _+1+_<=_;omega⟩
   exact bh ih
  |and a b=>
   have ak:ka a+ka b+1<n+1:=NC;have bx:aG a+aG b+1<=4000000:=bP;have s1:=r1 a 1;have s2:=r1 b 2;have au:cz (.and a b)=_:=rfl;unfold cz;refine lv (k3 n h) ih ?_;refine aL (k3 n h) ih ?_ ?_
   ·rw[ob];exact⟨iR a,iR b⟩
   refine iP (k3 n h) ih ?_ ?_
   ·exact⟨⟨U,U,aK⟩,by show _+1<=_;omega,⟨U,U,aK⟩,by rw[dU];show _+1+_<=_;omega⟩
   exact bh ih
  |minus a b=>
   have ak:ka a+ka b+1<n+1:=NC;have bx:aG a+aG b+1<=4000000:=bP;have s1:=r1 a 1;have s2:=r1 b 2;have au:cz (.minus a b)=_:=rfl;unfold cz;refine lv (k3 n h) ih ?_;refine bk (k3 n h) ih ?_;refine aL (k3 n h) ih ?_ ?_
   ·rw[ob];exact⟨iR a,iR b⟩
   refine iP (k3 n h) ih ?_ ?_
   ·exact⟨⟨U,U,aK⟩,by show _+1<=_;omega,⟨U,U,aK⟩,by rw[dU];show _+1+_<=_;omega⟩
   exact bh ih
  |cat a b=>
   have ak:ka a+ka b+1<n+1:=NC;have bx:aG a+aG b+1<=4000000:=bP;have s1:=r1 a 2;have s2:=r1 b 3;have au:cz (.cat a b)=_:=rfl;unfold cz;refine lv (k3 n h) ih ?_;refine gJ (k3 n h) ih ?_;refine aL (k3 n h) ih ?_ ?_
   ·rw[ob];exact⟨iR a,iR b⟩
   refine iP (k3 n h) ih ?_ ?_
   ·exact⟨⟨U,U,aK⟩,⟨U,U,aK⟩,U⟩
   exact bh ih
  |star a=>
   have ak:ka a+1<n+1:=NC;have bx:aG a+1<=4000000:=bP;have s1:=r1 a 3;have au:cz (.star a)=_:=rfl;unfold cz;refine lv (k3 n h) ih ?_;refine y9 (k3 n h) ih ?_;refine aL (k3 n h) ih ?_ ?_
   ·exact iR a
   refine wr (k3 n h) ih ?_ ?_
   ·exact⟨⟨U,U,aK⟩,by show _+1<=_;omega⟩
   exact bh ih
 refine ae.seq ?_;refine aR (k3 n h) ih ?_ ?_<;>intro J
 ·have ax:mT t<fL:=aC J
  have e:rX t fL=Ri++iG t++Rj:=by rw[rX,sG,al ax]
  rw[e];refine aL (k3 n h) ih ?_ ?_
  ·refine⟨?_,?_⟩
   ·show 1+_<=_;omega
   ·rw[dU];show 1+_+1<=_;omega
  exact bE ih
 ·have ax:¬mT t<fL:=aC J
  have e:rX t fL=iG t:=by rw[rX,sG,ab ax]
  rw[e];refine bk (k3 n h) ih ?_;exact bE ih
def WG:∀n,NB n
 |0=>λt _ _ h=>absurd h (wb _)
 |n+1=>auL n (WG n)
def auM(t:bm):rX t 0=iG t:=by rw[rX,sG,ab];cases t<;>simp[mT]
def auN(t:bm)(w:ar)(bP:aG t<=4000000)(aK:gl w (Out [])):cQ 72 #[cz t] w (.string (iG t)):=by
 refine cB (nt:=5) [.tmp 2] func72 ?_;refine aA (k3 (ka t+1) (WG _)) ih ?_;refine aL (k3 (ka t+1) (WG _)) (I ih @auM) ?_ ?_
 ·exact⟨U,bP,aK⟩
 exact bE ih
abbrev auO:cV prog 72:=kH (λ| [.val mo]=>dec cz mo|_=>none) (λav W bs=>aG av<=4000000/\gl W (Out bs)) call72 λav W w bs ad hp=>auN av w hp.1 (hp.2.km ad bq)
theorem aeE{t:bU}(h:lX s=.ok t):aG t.expand<=2000:=by
 have ak:AR (af s) s.size (fg s)=.ok t:=h;have D:=Nd (c:=af s) (N:=s.size) (rd:=fg s) U;have bx:t.aw<=2000:=by
  unfold AR at ak;split at ak
  ·cases ak
  ·unfold rf at ak;split at ak
   ·cases ak
   ·split at ak
    ·cases ak
    ·split at ak
     ·cases ak
     ·simp only[ng]at ak;rename_i aE;rw[<- ak];omega
 rw[ak]at D;cases O:zu (af s) s.size (fg s) with
 |error e=>rw[O]at D;exact D.elim
 |ok q=>rw[O]at D;obtain⟨ah,eM,a2,a3⟩:=D;exact eM.small (si a3) bx
def Hg(s:ao):vt s=Cu (lX s):=aqi (Er s) U
def auP(s:ao):Bool:=match lX s with
 |.ok t=>decide (iG t.expand=s)
 |.error _=>false
def aeF{e:Except (Int×Int) bU}{c p:Int}(h:e=.error (c,p)):Cu e=.error (c,p):=by subst h;rfl
def Rx(n m:Int):Bool:=decide (0<=n)&&decide (n<m)
def Ry(dE eY n3:Nat)(u n:Int):Bool:=if u=1 then Rx n n3 else if u=2 then Rx n dE else if u=3 then Rx n eY else decide (n=0)
section
variable (W:ar)(bs:aD)(eM a2 a3:dj)(dE eY n3 hx c2 c3:Nat)(s v u n:Int)
end
def auQ:List (ByteArray×Bool×Int×Int):=[(⟨#[104,97,108,116]⟩,false,0,0),(⟨#[99,97,108,108]⟩,false,1,0),(⟨#[114,101,116]⟩,false,0,0),(⟨#[106,117,109,112]⟩,false,1,0),(⟨#[101,109,105,116]⟩,true,0,0),(⟨#[100,114,111,112]⟩,true,0,0),(⟨#[116,101,120,116]⟩,false,3,0),(⟨#[112,117,115,104]⟩,true,3,0),(⟨#[100,117,112]⟩,true,0,0),(⟨#[102,108,105,112]⟩,true,0,0),(⟨#[109,111,118,101]⟩,true,0,0),(⟨#[111,112,101,110]⟩,false,0,0),(⟨#[116,97,107,101]⟩,true,0,0),(⟨#[108,111,119,101,114]⟩,true,0,0),(⟨#[99,117,116]⟩,true,2,2),(⟨#[105,110]⟩,true,2,1),(⟨#[99,104,117,110,107]⟩,true,2,0),(⟨#[109,111,114,101]⟩,false,1,0),(⟨#[122,105,112]⟩,false,0,0),(⟨#[97,108,105,103,110]⟩,false,1,1),(⟨#[112,108,97,110]⟩,false,1,1)]
def EL(n:Nat):ByteArray×Bool×Int×Int:=auQ.getD n (⟨#[]⟩,false,0,0)
def Hh(W:ar)(S:aY):Prop:=S 0/\∀n<21,W.cell? ⟨0,n*4,none⟩=some (.string (EL n).1)/\W.cell? ⟨0,n*4+1,none⟩=some (.bool (EL n).2.1)/\W.cell? ⟨0,n*4+2,none⟩=some (.int .i64 (EL n).2.2.1)/\W.cell? ⟨0,n*4+3,none⟩=some (.int .i64 (EL n).2.2.2)
theorem Hh.mono{W aO:World}{S bz:Nat->Prop}(h:Hh W S)(V:bT W S aO bz):Hh aO bz:=by
 obtain⟨A,D⟩:=h;have g:∀o v,W.cell? ⟨0,o,none⟩=some v->aO.cell? ⟨0,o,none⟩=some v/\bz 0:=λo v au=>by have:=gd.mono (b:=0) (o:=o) (v:=v) ⟨A,au⟩ V;exact⟨this.2,this.1⟩
 refine⟨(g _ _ (D 0 U).1).2,λn aE=>?_⟩;obtain⟨a,b,c,d⟩:=D n aE;exact⟨(g _ _ a).1,(g _ _ b).1,(g _ _ c).1,(g _ _ d).1⟩
def Hh.km(h:Hh W (Out bs))(ad:cr W bs w)(hm:∀b∈fp,W.heap.size<=b\/b∈bs):Hh w (Out fp):=h.mono λb Z V=>⟨ad.block b Z V,λdO=>(hm b dO).elim (λg=>absurd g (rG.2 Z)) V⟩
def WH(dE eY n3:Nat)(op k a b:Int):Bool:=decide (0<=op/\op<21)&&(decide (k=0)||((EL op.toNat).2.1&&decide (k=1)))&&(Ry dE eY n3 (EL op.toNat).2.2.1 a&&Ry dE eY n3 (EL op.toNat).2.2.2 b)
section
variable (W:ar)(bs:aD)(eM a2 a3:dj)(dE eY n3 hx c2 c3:Nat)(s v op k a b:Int)
end
section
variable (dE eY n3:Nat)
end
section
variable (W:ar)(bs:aD)(eM a2 a3:dj)(dE eY n3 hx c2 c3:Nat)(s v op k a b:Int)
end
abbrev aeG:Env prog:=a7 adF.spec aa
abbrev fW:Env prog:=a7 asq.spec aa
def dm:=(eI (ch va vb vc @qa @pr.eq_1 @pt @qd @zv) (ch @Wg @QW @Wh @QX @Wi @Nf @Wj @Wk) (ch @mJ @auv @JC @JD @auC @Re @aus @aut) (ch @adO.eq_1 @Q0.eq_1 @QZ.eq_1 @ur.eq_1 @bQ @oz @G1 @vv) (ch @A4 @G2 @zq @vx @auG @adX.eq_1 @Q6 @Q7) (b3 @Q8 @Q5 @Ra @Q9))
def auR(s:ao)(V:s.size<=140737488351232)(w:ar):Calls prog 69 #[s] w λe M =>
   ∃u fp,e=.returned (WD (lX s) u)/\(∀cK,e3 cK u fp M (.row 243 261 (JS (lX s)) ((JT (lX s)).map .v)))/\(∀b∈fp,w.heap.size<=b/\b<M.heap.size)/\cr w [] M:=by
 refine UF (nt:=310) (WD (lX s)) [.cell 2 64,.tmp 3,.tmp 4] func69 ?_;refine bk fW dm ?_;refine aR fW dm ?_ ?_<;>intro J
 ·have Z:1048576<(s.size:Int):=aC J
  have he:lX s=.error (1,0):=by rw[lX,AR,al Z]
  rw[he];refine aA fW dm ?_;refine bf dm ?_;exact⟨q5,⟨aq,.inr ⟨rfl,rfl,rfl⟩⟩,λE=>rfl⟩
 have Z:¬1048576<(s.size:Int):=aC J
 refine bk fW dm ?_;refine dh aeG dm ?_ ?_
 ·exact⟨aq,rfl⟩
 refine aA fW dm ?_;generalize dW:zB s=R;refine ae.seq (ae.block ?_)
 refine ae.loop (λp:Int×List bj×cD×List cD=>⟨25,bK [(0,s),(2,.is (.own 0 0)),(5,.is (.own 56 0)),(6,p.1)],bA [(0,.cells 64 [.v (.slice none 0 0),(0:Int)]),(56,.cells 232 [.ak 57,.ak 58]),(57,.row 243 261 p.2.1.length (List.map ag.v (cw p.2.1))),(58,.row 234 6 (p.2.2.2.length+1) (List.map ag.v (lW p.2.2.2++p.2.2.1.df)))]⟩)
  (λp=>(0<=p.1/\p.1<=s.size)/\(p.2.1.length:Int)<=3*p.1/\p.2.2.2.length<=1000/\∃n:Nat,s.size-p.1<n/\x2 (af s) s.size (fg s) n p.1 p.2.1 p.2.2.1 p.2.2.2.reverse=R) (λp=>(s.size-p.1).toNat) (0,[],zr (-1),[]) ?_
  ⟨⟨Lg _,U⟩,bq,bq,s.size+1,by simp only;omega,dW⟩ ?_
 ·exact b8 (λk=>if k=57 then .nil else if k=58 then .key 128 else .key k) dm
 rintro⟨i,X,f,pre⟩ ⟨⟨A,hi⟩,aN,hp,n,aE,e5⟩;simp only at A hi aN hp aE e5;have wp:=QY pre U;obtain⟨n,rfl⟩:∃m,n=m+1:=⟨n-1,U⟩;rw[x2]at e5;refine ae.seq ?_;refine aR fW dm ?_ ?_<;>intro J
 ·have ax:i<s.size:=aC J
  rw[al ax]at e5;have dp:=dv (i+1);refine a1 ?_;refine ae.block ?_;refine aL fW dm ?_ ?_
  ·omega
  refine hs fW (I dm wp) ?_;refine ae.seq ?_;refine aR fW dm ?_ ?_<;>intro J
  ·have vk:ic (af s i):=by simpa [M9] using J
   refine ae.seq ?_;refine aL fW dm ?_ ?_
   ·omega
   refine bC dm ?_ ?_<;>intro J
   ·have aW:f.cM<0:=aC J
    have hX:zt (af s) s.size (fg s) i X f pre.reverse=.error (20,i):=by rw[zt,al vk,al aW]
    rw[hX]at e5;have he:=NA Z (dW.trans e5.symm);rw[he];refine aA fW dm ?_;refine bf dm ?_;exact⟨q5,⟨aq,.inr ⟨rfl,rfl,rfl⟩⟩,λE=>rfl⟩
   have aW:¬f.cM<0:=aC J
   have hX:zt (af s) s.size (fg s) i X f pre.reverse=Nc (af s) s.size i X f pre.reverse:=by rw[zt,al vk,ab aW]
   rw[hX,Nc]at e5;refine bk fW (I dm dp) ?_
   refine fR ⟨100,bK [(0,s),(2,.is (.own 0 0)),(5,.is (.own 56 0)),(6,(i)),(7,.is (.v (.int .u8 (af s i)))),(8,.is (.own 58 (pre.length*6))),(9,.is (.v (.int .i64 (if af s i=43 then -2 else 0)))),(10,(-1:Int)),(11,(i+1:Int))],bA [(0,.cells 64 [.v (.slice none 0 0),(0:Int)]),(56,.cells 232 [.ak 57,.ak 58]),(57,.row 243 261 X.length (List.map ag.v (cw X))),(58,.row 234 6 (pre.length+1) (List.map ag.v (lW pre++f.df)))]⟩ ?_ ?_
   ·skip;refine aR fW dm ?_ ?_<;>intro J
    ·have Ct:af s i=43:=aC J
     rw[al Ct];refine bY fW dm ?_;exact bh (I dm @vd)
    ·have Ct:¬af s i=43:=aC J
     rw[ab Ct];refine a1 ?_;exact bh (I dm @vd)
   refine fR ⟨110,bK [(0,s),(2,.is (.own 0 0)),(5,.is (.own 56 0)),(6,(i)),(7,.is (.v (.int .u8 (af s i)))),(8,.is (.own 58 (pre.length*6))),(9,.is (.v (.int .i64 (if af s i=43 then -2 else 0)))),(10,.is (.v (.int .i64 (if af s i=63 then 1 else -1)))),(11,(i+1:Int))],bA [(0,.cells 64 [.v (.slice none 0 0),(0:Int)]),(56,.cells 232 [.ak 57,.ak 58]),(57,.row 243 261 X.length (List.map ag.v (cw X))),(58,.row 234 6 (pre.length+1) (List.map ag.v (lW pre++f.df)))]⟩ ?_ ?_
   ·skip;refine aR fW dm ?_ ?_<;>intro J
    ·have pk:af s i=63:=aC J
     rw[al pk];refine bY fW dm ?_;exact bh (I dm @vd)
    ·have pk:¬af s i=63:=aC J
     rw[ab pk];refine a1 ?_;exact bh (I dm @vd)
   cases hm:x1 (af s) s.size i with
   |error e=>
    obtain⟨cp,aEe⟩:=e;have xS:af s i=123:=ZB λh=>by rw[Ru h]at hm;cases hm
    rw[hm]at e5;rw[Rv xS]at hm;have eL:=aeC hm;have he:=NA Z (dW.trans e5.symm);rw[he];refine ae.seq ?_;refine aR fW dm ?_ ?_<;>intro J
    rotate_left
    ·exact absurd xS (aC J)
    refine aA fW dm ?_;refine aL (CT X pre f) (aT dm hm @auF) ?_ ?_
    ·omega
    refine aR fW dm ?_ ?_<;>intro J
    rotate_left
    ·exact absurd (aC J) eL
    refine aA fW dm ?_;refine bf dm ?_;exact⟨q5,⟨aq,.inr ⟨rfl,rfl,rfl⟩⟩,λE=>rfl⟩
   |ok q=>
    obtain⟨m,k,j⟩:=q;rw[hm]at e5;have PF:=auB ax hm
    refine fR ⟨150,bK [(0,s),(2,.is (.own 0 0)),(5,.is (.own 56 0)),(6,(i)),(8,.is (.own 58 (pre.length*6))),(9,(m)),(10,(k)),(11,(j))],bA [(0,.cells 64 [.v (.slice none 0 0),(0:Int)]),(56,.cells 232 [.ak 57,.ak 58]),(57,.row 243 261 X.length (List.map ag.v (cw X))),(58,.row 234 6 (pre.length+1) (List.map ag.v (lW pre++f.df)))]⟩ ?_ ?_
    ·skip;refine aR fW dm ?_ ?_<;>intro J
     ·have xS:af s i=123:=aC J
      rw[Rv xS]at hm;refine aA fW dm ?_;refine aL (CT X pre f) (aT dm hm @auE) ?_ ?_
      ·omega
      refine dL fW dm ?_;exact bh (I dm @vd)
     ·have xS:¬af s i=123:=aC J
      rw[Ru xS]at hm;simp only[ng,ll]at hm;obtain⟨rfl,rfl,rfl⟩:=hm;refine a1 ?_;exact bh (I dm @vd)
    refine dh fW dm ?_ ?_
    ·exact⟨U,U,U,by simp[A3],by unfold maxLen;omega,U,bj.pG _⟩
    have wl:=iv (((X.length+1:Nat):Int)-1) ((X.length:Nat):Int);refine aA fW (I dm wl) ?_;refine aA fW dm ?_;refine c6 ?_
    refine⟨(j,X++[⟨7,0,f.cM,0,m,k⟩],{ f with cM:=X.length },pre),⟨⟨U,U⟩,by simp only[ec,sX];omega,hp,n,U,e5⟩,by simp only;omega,?_⟩;exact b8 (λk=>if k=57 then .key 1304 else .key k) (b3 dm @Wm @zv @vd)
  have vk:¬ic (af s i):=by simpa [M9] using J
  rw[zt,ab vk]at e5;refine a1 ?_;refine ae.seq ?_;refine aR fW dm ?_ ?_<;>intro J
  ·have Ey:af s i=124:=aC J
   rw[al Ey]at e5;have me:=WC X f;refine aL (CT X pre f) dm ?_ ?_
   ·exact⟨⟨rfl,U,U⟩,aq,bq⟩
   refine aA fW (I dm dp) ?_;refine c6 ?_;refine⟨(i+1,(fM X f).1,(fM X f).2,pre),⟨⟨U,U⟩,by simp only;omega,hp,n,U,e5⟩,by simp only;omega,?_⟩;exact b8 (λk=>if k=57 then .key 400 else if k=58 then .key 401 else .key k) (aT dm @zv @vd)
  have Ey:¬af s i=124:=aC J
  rw[ab Ey]at e5;refine a1 ?_;refine ae.seq ?_;refine aR fW dm ?_ ?_<;>intro J
  ·have O:af s i=38\/af s i=45:=aC J
   rw[al O]at e5;have me:=aeA X f;refine aL (CT X pre f) dm ?_ ?_
   ·exact⟨⟨rfl,U,U⟩,aq,bq⟩
   refine hs fW (I dm wp) ?_;refine aA fW (I dm dp) ?_;refine c6 ?_;refine⟨(i+1,(qi X f).1,{ (qi X f).2 with gV:=af s i },pre),⟨⟨U,U⟩,by simp only;omega,hp,n,U,e5⟩,by simp only;omega,?_⟩;exact b8 (λk=>if k=57 then .key 448 else if k=58 then .key 449 else .key k) (aT dm @zv @vd)
  have O:¬(af s i=38\/af s i=45):=aC J
  rw[ab O]at e5;refine a1 ?_;refine ae.seq ?_;refine aR fW dm ?_ ?_<;>intro J
  ·have AV:af s i=41:=aC J
   rw[al AV]at e5;refine ae.seq ?_;refine aR fW dm ?_ ?_<;>intro J
   ·have JU:pre=[]:=by
     have:pre.length=0:=bt J
     exact K2 this
    subst JU;have he:=NA Z (dW.trans e5.symm);rw[he];refine aA fW dm ?_;refine bf dm ?_;exact⟨q5,⟨aq,.inr ⟨rfl,rfl,rfl⟩⟩,λE=>rfl⟩
   have JU:pre≠[]:=by rintro rfl;simp at J
   obtain⟨pre,g,rfl⟩:∃auS g,pre=auS ++ [g]:=⟨pre.dropLast,pre.getLast JU,(List.dropLast_concat_getLast JU).symm⟩;have me:=WC X f;rw[List.reverse_append,ZI,Tl,Wd]at e5;have kl:pre.length+1<=1000:=aC hp
   have auT:IntKind.i64.wrap (((pre++[g]).length:Int)-1)=((pre.length:Nat):Int):=by rw[ec,sX,gb U U];omega
   refine a1 ?_;refine aL (CT X (pre++[g]) f) dm ?_ ?_
   ·exact⟨⟨rfl,U,U⟩,aq,bq⟩
   refine hs fW (I dm wp) ?_;refine hs fW (I dm wp) ?_;refine hs fW (aT dm @aeD auT) ?_;refine aA fW (I dm dp) ?_;refine c6 ?_;refine⟨(i+1,(fM X f).1,{ g with cM:=(fM X f).2.alt },pre),⟨⟨U,U⟩,by simp only;omega,by show pre.length<=1000;omega,n,U,e5⟩,by simp only;omega,?_⟩
   exact b8 (λk=>if k=57 then .key 512 else if k=58 then .key 720 else .key k) (de dm @zv @ec @sX @vd)
  have AV:¬af s i=41:=aC J
  rw[ab AV]at e5;refine a1 ?_;have kc:=Wl X f;refine aL (CT X pre f) dm ?_ ?_
  ·exact⟨⟨rfl,U,U⟩,aq,bq⟩
  refine ae.seq ?_;refine aR fW dm ?_ ?_<;>intro J
  ·have oT:af s i=40:=aC J
   rw[al oT,List.length_reverse]at e5;refine ae.seq ?_;refine aR fW dm ?_ ?_<;>intro J
   ·have ak:1000<pre.length+1:=bt J
    rw[al ak]at e5;have he:=NA Z (dW.trans e5.symm);rw[he];refine aA fW dm ?_;refine bf dm ?_;exact⟨q5,⟨aq,.inr ⟨rfl,rfl,rfl⟩⟩,λE=>rfl⟩
   have ak:¬1000<pre.length+1:=bt J
   rw[ab ak]at e5;refine a1 ?_;refine dh aeG dm ?_ ?_
   ·exact⟨by unfold maxLen;omega,U,rfl⟩
   refine aA fW (I dm dp) ?_;refine c6 ?_;refine⟨(i+1,(gg X f).1,zr i,pre++[(gg X f).2]),⟨⟨U,U⟩,by simp only;omega,by simp only[ec,sX];omega,n,U,by simp only[List.reverse_append,ZI,Tl];exact e5⟩,by simp only;omega,?_⟩
   exact b8 (λk=>if k=57 then .key 464 else if k=58 then .key 600 else .key k) (eI dm @zv @aeD @ec @sX @vd)
  have oT:¬af s i=40:=aC J
  rw[ab oT,QT]at e5;refine a1 ?_;cases hit:nQ s i with
  |error j=>
   have iD:fg s i=.error (10,j):=by rw[fg,hit]
   rw[iD]at e5;have he:=NA Z (dW.trans e5.symm);rw[he];refine aL (CT X pre f) (b3 dm hit @M8.eq_1 @M8.eq_2) ?_ ?_
   ·omega
   refine gJ fW dm ?_;refine bf dm ?_;exact⟨q5,⟨aq,.inr ⟨rfl,rfl,rfl⟩⟩,λE=>rfl⟩
  |ok q=>
   obtain⟨S,j⟩:=q;have iD:fg s i=.ok (S,j):=by rw[fg,hit]
   rw[iD]at e5;have PF:=V3 hit A ax;refine aL (CT X pre f) (b3 dm hit @M8.eq_1 @M8.eq_2) ?_ ?_
   ·omega
   refine gJ fW dm ?_;refine dh fW dm ?_ ?_
   ·exact⟨by simp[A3],by unfold maxLen;omega,U,bj.pG _⟩
   have wl:=iv ((((gg X f).1.length+1:Nat):Int)-1) (((gg X f).1.length:Nat):Int);refine hs fW (aT dm wp wl) ?_;refine bY fW dm ?_
   refine⟨(j,(gg X f).1++[⟨1,S,0,0,0,0⟩],{ (gg X f).2 with cM:=(gg X f).1.length },pre),⟨⟨U,U⟩,by simp only[ec,sX];omega,hp,n,U,e5⟩,by simp only;omega,?_⟩;exact b8 (λk=>if k=57 then .key 672 else if k=58 then .key 465 else .key k) (b3 dm @Wm @zv @vd)
 ·have db:¬i<s.size:=aC J
  rw[ab db]at e5;have Rz:zB s=.ok (X,f,pre.reverse):=dW.trans e5.symm;refine c6 ?_;refine ae.seq ?_;refine aR fW dm ?_ ?_<;>intro J
  ·have wq:pre.reverse≠[]:=by
    intro h;have:=fZ List.length h;simp at this;subst this;simp at J
   rw[auz Z Rz wq];refine hs fW (I dm wp) ?_;refine bf dm ?_;exact⟨q5,⟨aq,.inr ⟨rfl,rfl,rfl⟩⟩,λE=>rfl⟩
  have JU:pre=[]:=by
   have:pre.length=0:=bt J
   exact K2 this
  subst JU;have me:=WC X f;obtain⟨ye,t0,eM,a2,a3⟩:=auw Rz;have aEf:(fM X f).2.alt.toNat<ye.length:=(kC.1 a3).1;have aEg:=eM.len;refine a1 ?_;refine aL (CT X [] f) dm ?_ ?_
  ·exact⟨⟨rfl,U⟩,aq,bq⟩
  refine aL fW (I dm @WE) ?_ ?_
  ·decide
  refine ae.seq ?_;refine aL (auH (fM X f).1) (b3 dm @WE @adT (Q2 (iT (fM X f).1) (fM X f).2.alt.toNat (by rw[EA];omega))) ?_ ?_
  ·exact⟨⟨⟨_,rfl,rfl,rfl,rfl⟩,eM.ok,U⟩,⟨U,U⟩,by rw[EA];omega⟩
  refine bC dm ?_ ?_<;>intro J
  ·have bx:2000<(iT (fM X f).1).getD (fM X f).2.alt.toNat 0:=aC J
   rw[auA Z Rz bx];refine aA fW dm ?_;refine bf dm ?_;exact⟨q5,⟨aq,.inr ⟨rfl,rfl,rfl⟩⟩,λE=>rfl⟩
  have bx:¬2000<(iT (fM X f).1).getD (fM X f).2.alt.toNat 0:=aC J
  obtain⟨ah,t,ak,eh,lU,eX,nR,rV⟩:=auy Z Rz bx;rw[ak];refine a1 ?_;refine ae.rQ 288 (aJ (I dm @gr)) (λE=>by simp only[ba,den,gr];exact rfl) λcy ck ay hx bD e7 jr=>?_
  have auU:ah.getD (fM X f).2.alt.toNat .bV=t:=by rw[mI,nR];rfl
  rw[<- auU]at rV ⊢;have jv:b0 cy (Out ck) ay (cw (fM X f).1):=e7.out λb Z=>Z.out
  refine fR ⟨100,bK [(2,.is (.own 0 0)),(5,.is (.own 56 0)),(19,.is (.v (.int .i64 (fM X f).2.alt))),(20,.is (.own 64 0))],bA [(0,.cells 64 [.v (.slice none 0 0),(0:Int)]),(56,.cells 232 [.v (.slice ay (fM X f).1.length hx),.ak 58]),(58,.row 234 6 1 (List.map ag.v ((fM X f).2.df))),(64,.cells 64 [.ak 65,(0:Int)]),(65,.row 243 261 0 [])]⟩ ?_ ?_
  ·skip;refine bY fW dm ?_;exact b8 (λk=>if k=58 then .key 289 else if k=64 then .key 432 else if k=65 then .nil else .key k) (b3 dm @zv @WE @cD.df.eq_1)
  refine aL (auI (fM X f).1 ah ay hx _ (ad1 (fM X f).1 ah ay hx eh (fM X f).1.length (eo _))) dm ?_ ?_
  ·exact⟨⟨⟨[],rfl,rfl⟩,⟨lU,U⟩,U,jv⟩,aq,bq⟩
  refine aA fW dm ?_;refine bf dm ?_;exact⟨_,⟨aq,.inl ⟨_,rfl,rfl⟩⟩,λE=>rfl⟩
section
variable {c:Int->Int}{N:Int}{rd:Int->Except (Int×Int) (BitVec 256×Int)}(iD:∀i e,rd i=.error e->e.1≠0)
include iD
def auV{f:cD}{e:Int×Int}(h:zt c N rd i X f rest=.error e):e.1≠0:=by
 unfold zt at h;split at h
 ·split at h
  ·cases h;show(20:Int)≠0;omega
  ·unfold Nc at h;split at h
   ·rename_i bg hm;cases h;by_cases D:c i=123
    ·rw[Rv D]at hm;exact aeC hm
    ·rw[Ru D]at hm;cases hm
   ·cases h
 ·split at h
  ·cases h
  ·split at h
   ·cases h
   ·split at h
    ·unfold Wd at h;split at h
     ·cases h;show(20:Int)≠0;omega
     ·cases h
    ·split at h
     ·split at h
      ·cases h;show(23:Int)≠0;omega
      ·cases h
     ·unfold QT at h;split at h
      ·rename_i bg hm;cases h;exact iD _ _ hm
      ·cases h
def aeH:∀(n:Nat) (i:Int) (X:List bj) (f:cD) (rest:List cD) (e:Int×Int),x2 c N rd n i X f rest=.error e->e.1≠0
 |0,i,X,f,rest,e,h=>by cases h
 |n+1,i,X,f,rest,e,h=>by
  rw[x2]at h;split at h
  ·split at h
   ·rename_i bg V;cases h;exact auV iD V
   ·exact aeH n _ _ _ _ e h
  ·cases h
def auW{e:Int×Int}(h:zu c N rd=.error e):e.1≠0:=by
 unfold zu at h;split at h
 ·cases h;show(1:Int)≠0;omega
 ·unfold Ex at h;split at h
  ·rename_i bg aI;cases h;exact aeH iD _ _ _ _ _ _ aI
  ·split at h
   ·cases h;show(21:Int)≠0;omega
   ·split at h
    ·cases h;show(24:Int)≠0;omega
    ·cases h
end
theorem WI{c p:Int}(h:lX s=.error (c,p)):c≠0:=by
 have ak:AR (af s) s.size (fg s)=.error (c,p):=h;have D:=Nd (c:=af s) (N:=s.size) (rd:=fg s) U;rw[ak]at D;cases O:zu (af s) s.size (fg s) with
 |error e=>
  rw[O]at D;have he:(c,p)=e:=D;have:=auW (rd:=fg s) (λi e hi=>by
   unfold fg at hi
   split at hi
   ·cases hi;show(10:Int)≠0;omega
   ·cases hi) O
  rw[<- he]at this;exact this
 |ok q=>rw[O]at D;exact D.elim
def Hi:Except (Int×Int) bU->ag->ag
 |.ok t,x=>.iK [.agg [x,(aG t.expand-1:Nat)],(0:Int),(0:Int)]
 |.error (c,p),x=>.iK [.agg [x,(0:Int)],c,p]
abbrev aeI (s:ao):IL prog 69 where
 pre:=λW bs aj=>aj=[.val (.string s)]/\s.size<=140737488351232
 T:=243
 s:=261
 n:=λ_ _=>JS (lX s)
 vs:=λ_ _=>JT (lX s)
 fV:=λ_ _ x=>Hi (lX s) x
 g:=λ_ _ v=>WD (lX s) v
 IM:=λ_ _ E x=>by cases lX s with|ok t=>rfl|error q=>rfl
 IN:=λ_ _ x k ad=>by
  cases ak:lX s with
  |ok t=>rw[ak]at ad;simpa [Hi,ag.keys,cP] using ad
  |error q=>rw[ak]at ad;simpa [Hi,ag.keys,cP] using ad
 enters:=call69
 ok:=by
  intro W w bs us aj ad hu hp;obtain⟨rfl,D⟩:=hp
  match us,hu with
  |[u],hu=>obtain⟨rfl,_⟩:=hu;exact auR s D w
abbrev auX(l:List bj)(ay:dj)(c:Nat)(i:Nat)(t:bm)(bP:aG t<=4000000)(aV:fl l i t):Env prog:=a7 ((aez l ay c i t bP aV).spec) aa
structure zC where
 ty:List ByteArray
 cx:List ByteArray
 co:List (Int×Int×Int×Int)
 src:Int
 WJ:Int
def RA(l:List ByteArray):List Value:=l.map .string
def auY(x:Int×Int×Int×Int):List Value:=[.int .i64 x.1,.int .i64 x.2.1,.int .i64 x.2.2.1,.int .i64 x.2.2.2]
def aeJ(l:List (Int×Int×Int×Int)):List Value:=l.flatMap auY
def EM(P:Nat->Bool):Nat->Nat->Option Nat
 |0,_=>none
 |k+1,j=>bif P j then some j else EM P k (j+1)
def auZ(P:Nat->Bool)(n j:Nat)(Y:j<n)(h:∀i<j,P i=false)(hp:P j=true):EM P n 0=some j:=by
 have key:∀k i,i+k=n->i<=j->EM P k i=some j:=by
  intro k
  induction k with
  |zero=>intro i D O;omega
  |succ k bb=>
   intro i D O;unfold EM;by_cases e:i=j
   ·subst e;rw[hp];rfl
   ·rw[h i U];exact bb (i+1) U U
 exact key n 0 U (ef _)
def au0(P:Nat->Bool)(n:Nat)(h:∀i<n,P i=false):EM P n 0=none:=by
 have key:∀k i,i+k=n->EM P k i=none:=by
  intro k
  induction k with
  |zero=>intro i D;rfl
  |succ k bb=>intro i D;unfold EM;rw[h i U];exact bb (i+1) U
 exact key n 0 U
section
variable (p:zC)
structure JV:Prop where
 mP:p.ty.length<=140737488351232
 lT:p.cx.length<=140737488351232
 xL:p.co.length<=140737488351232
 aw:∀s∈p.ty,s.size<=140737488351232
structure RB (w:ar)(eM a2 a3:dj):Prop extends JV p where
 ty:qx w eM (RA p.ty)
 cx:qx w a2 (RA p.cx)
 co:qx w a3 (aeJ p.co)
def EN(W:ar)(S:aY)(eM a2 a3:dj):Prop:=b0 W S eM (RA p.ty)/\b0 W S a2 (RA p.cx)/\b0 W S a3 (aeJ p.co)
theorem EN.ok{p:zC}{W w:ar}{bs:aD}{eM a2 a3:dj}(h:EN p W (Out bs) eM a2 a3)(Z:JV p)(ad:cr W bs w):RB p w eM a2 a3:=⟨Z,CQ h.1 ad,CQ h.2.1 ad,CQ h.2.2 ad⟩
def RB.x{p:zC}{w:ar}{eM a2 a3:dj}(h:RB p w eM a2 a3):EN p w (Out []) eM a2 a3:=⟨(b0.s8 h.ty).out λ_ _=>by simp[Out],(b0.s8 h.cx).out λ_ _=>by simp[Out],(b0.s8 h.co).out λ_ _=>by simp[Out]⟩
end
section
variable (p:zC)(eM a2 a3:dj)(hx c2 c3:Nat)(Z:JV p)
end
structure aeK (op k a b:Int):Prop where
 aEh:0<=op
 ND:op<21
 Pp:k=0\/((EL op.toNat).2.1=true/\k=1)
 a0:0<=a
 eM:a<=9223372036854775807
 lx:0<=b
 eh:b<=9223372036854775807
def aeL{dE eY n3:Nat}{u n:Int}(h:Ry dE eY n3 u n=true)(D:dE<=140737488351232)(O:eY<=140737488351232)(B:n3<=140737488351232):0<=n/\n<=9223372036854775807:=by
 unfold Ry at h
 repeat' split at h
 all_goals first
  |(simp[Rx]at h;omega)
  |(simp at h;omega)
def aeK.of{dE eY n3:Nat}{op k a b:Int}(h:WH dE eY n3 op k a b=true)(D:dE<=140737488351232)(O:eY<=140737488351232)(B:n3<=140737488351232):aeK op k a b:=by unfold WH at h;simp only[ob,wa,oa]at h;obtain⟨⟨⟨Jm,hY⟩,ad⟩,aQ,Z⟩:=h;have aQ:=aeL aQ D O B;have Z:=aeL Z D O B;exact⟨Jm,hY,ad,aQ.1,aQ.2,Z.1,Z.2⟩
end
section
open Go.RowKit
set_option maxRecDepth 10000
def WK(d:aX)(u:aM)(fp:aD)(w:ar):Prop:=
 ∃s b v p,d=[.string s]/\u=.pointer (some ⟨b,0,none⟩)/\fp=b::v.ownBlock.toList/\w.heap[b]?=some (.cells #[p,v] 91 (0,0))/\w.ownsRow 0 5 1 v s.size (Lib.strCells s)/\v.ownBlock≠some b /\
  (p=.pointer none\/p=.pointer (some ⟨b,0,none⟩))
def WK.local{d:aX}{u:aM}{fp:aD}{w M:World}(h:WK d u fp w)(aN:∀b∈fp,M.heap[b]?=w.heap[b]?):WK d u fp M:=by
 obtain⟨s,b,v,p,D,O,B,aU,bn,cA,c1⟩:=h;refine⟨s,b,v,p,D,O,B,by simp_all,⟨bn.1,?_⟩,cA,c1⟩;rcases bn.2 with h|⟨g,cap,cur,au,Z,aK,r⟩
 ·exact .inl h
 ·exact .inr ⟨g,cap,cur,au,Z,by rw[aN g (by rw[B,au];simp[Value.ownBlock])];exact aK,r⟩
end
section
open Go.RowKit
end
section
open Go.RowKit Go.LE Go.Proofs.Tryz
def RC(l:List ByteArray):Prop:=∀s∈l,s.size<=4194399
structure WL (p:zC):Prop where
 mP:p.ty.length<=1048576
 lT:p.cx.length<=1048576
 xL:p.co.length<=1048576
 JW:∀s∈p.ty,s.size<=1048576
 z2:∀s∈p.cx,s.size<=1048576
def WL.b{p:zC}(h:WL p):JV p:=⟨by have:=h.mP;omega,by have:=h.lT;omega,by have:=h.xL;omega,λs V=>by have:=h.JW s V;omega⟩
structure au1 (p:zC):Prop where
 iS:0<=p.src
 s1:p.src<p.ty.length
 v0:0<=p.WJ
 v1:p.WJ<p.ty.length
 ty:∀(i:Nat) (h:i<p.ty.length),auP p.ty[i]=true
 co:∀(i:Nat) (h:i<p.co.length),WH p.ty.length p.cx.length p.co.length p.co[i].1 p.co[i].2.1 p.co[i].2.2.1 p.co[i].2.2.2=true
theorem RC.app{l m:List ByteArray}(h:RC l)(bu:RC m):RC (l++m):=λs V=>(hq.1 V).elim (h s) (bu s)
end
section
open Go.ChangeShapes Go.WideShapes Go.ChangeAt Go.RowKit Go.LE
open Go.ChangeMaps (open_string shut_string)
set_option maxRecDepth 10000
def au2:ownKnob Tryz.prog.godebug=none:=mN
def au3:laidOutB Tryz.prog=true:=mN
def au4:mapsRowed Tryz.prog=true:=mN
def au5:((List.range Tryz.prog.types.size).all λt=>match Tryz.prog.underlying t with|some (.slice e)=>decide (0<Tryz.prog.cellsOf e)|_=>true)=true:=mN
def au6:Tryz.prog.cellsOf 9=1:=mN
def aeM:Tryz.prog.cellsOf 5=1:=mN
def au7:Tryz.prog.cellsOf 203=1:=mN
def au8:Tryz.prog.cellsOf 334=20:=mN
def aeN:Tryz.prog.cellsOf 355=2:=mN
section
variable {aE9:Type}{enc:TypeId×Value->aE9}
instance:Inhabited ByteArray:=⟨⟨#[]⟩⟩
end
end
section
open Go.ChangeShapes Go.WideShapes Go.ChangeAt Go.RowKit Go.LE
set_option maxRecDepth 10000
variable{W:ar}
def WM:Tryz.prog.globalNamed "loupe/class.escapes"=some 4:=mN
def au9:(Tryz.prog.globals[3]?).map (·.type)=some 334:=mN
def ava:(Tryz.prog.globals[4]?).map (·.type)=some 356:=mN
def WN{n:String}{g:Nat}{cs:hE}(aK:Tryz.prog.globalNamed n=some g)(h:W.var? Tryz.prog n=some cs)(i:Nat)(v:aM)(hi:cs.toList[i]?=some v):W.cell? ⟨g,i,none⟩=some v:=by
 unfold World.var? at h;rw[aK,BM]at h;split at h
 ·rename_i q7 T qb hh;cases h;simp only[World.cell?,hh];rw[Tk]at hi;simpa using hi
 ·cases h
def avb(h:Lib.VarReads Tryz.prog W "internal/strconv.uint64pow10" Rows.laid_internal_strconv_uint64pow10):wX W (Out []):=by
 obtain⟨g,t,cs,fuel,p,D,O,B,aU⟩:=h;obtain rfl:=qZ (Wz.symm.trans D);obtain rfl:=qZ (au9.symm.trans O);have e:(Rows.laid_internal_strconv_uint64pow10:DataW Unit)=Lib.tabData .u64 Lib.pow10Tab:=rfl;rw[e]at aU
 have bn:=Lib.cells_of_tab Tryz.underlying334 Tryz.underlying203 au7 au8 aU;refine⟨by simp[Out],?_⟩;show W.var? Tryz.prog _=_;rw[B,<- bn]
def avc{l:aX}{k:Nat}{x y:aM}(h:(l.drop k).take 2=[x,y]):l[k]?=some x/\l[k+1]?=some y:=by have A:=fZ (·[0]?) h;have D:=fZ (·[1]?) h;simp only[Ig,Lb]at A D;exact⟨by simpa using A,by simpa using D⟩
def avd{sp:Nat->Bool}{fuel:Nat}{cs:aX}{a b:Int}{q:List MemPlace}(h:DataW.trod (λ_=>()) Tryz.prog W 0 sp false fuel 355 cs=some (.agg [.lit (.int .u8 a),.lit (.int .u8 b)],q)):cs=[.int .u8 a,.int .u8 b]:=
 Lib.ints_of_struct (zs:=[a,b]) Tryz.underlying355 (λi f aW=>by
  match i,aW with
  |0,aW=>cases aW;exact⟨Tryz.underlying5,rfl,aeM⟩
  |1,aW=>cases aW;exact⟨Tryz.underlying5,rfl,aeM⟩
  |i+2,aW=>cases aW) aeN h
def ave(h:Lib.VarReads Tryz.prog W "loupe/class.escapes" Rows.laid_loupe_class_escapes):gl W (Out []):=by
 obtain⟨g,t,cs,fuel,p,D,O,B,aU⟩:=h;obtain rfl:=qZ (WM.symm.trans D);obtain rfl:=qZ (ava.symm.trans O)
 have key:∀i (a b:Int),i<3->[(110,10),(114,13),(116,9)][i]?=some (a,b)->W.cell? ⟨4,i*2,none⟩=some (.int .u8 a)/\W.cell? ⟨4,i*2+1,none⟩=some (.int .u8 b):=λi a b hi FN=>by
  obtain⟨xw,d,q,ak,aV⟩:=Lib.array_elem Tryz.underlying356 aU i hi;rw[aeN]at aV;have e:d=.agg [.lit (.int .u8 a),.lit (.int .u8 b)]:=by
   match i,hi with
   |0,_=>cases FN;cases ak;rfl
   |1,_=>cases FN;cases ak;rfl
   |2,_=>cases FN;cases ak;rfl
  subst e;obtain⟨g1,g2⟩:=avc (avd aV);exact⟨WN WM B _ _ g1,WN WM B _ _ g2⟩
 have pA:=key 0 _ _ U rfl;have e8:=key 1 _ _ U rfl;have dz:=key 2 _ _ U rfl;exact⟨by simp[Out],pA.1,pA.2,e8.1,e8.2,dz.1,dz.2⟩
end
section
open Go.RowKit Go.LE Go.Proofs.Tryz
set_option maxRecDepth 10000
variable{s:ao}(c:Int)
def vC(c:Int):Bool:=(decide (c=95)||(decide (97<=c)&&decide (c<=122)))||(decide (65<=c)&&decide (c<=90))
def EO(c:Int):Bool:=decide (48<=c)&&decide (c<=57)
def qI(c:Int):Bool:=decide (32<=c)&&decide (c<=126)
def Hj:=ez
def avf(w:ar):cQ 133 #[.int .u8 c] w (.bool (vC c)):=by refine cB (nt:=21) [.tmp 2] func133 ?_;refine bk aa Hj ?_;exact bE Hj
def avg(w:ar):cQ 134 #[.int .u8 c] w (.bool (EO c)):=by refine cB (nt:=9) [.tmp 2] func134 ?_;refine bk aa Hj ?_;exact bE Hj
def avh(w:ar):cQ 187 #[.int .u8 c] w (.bool (qI c)):=by refine cB (nt:=9) [.tmp 2] func187 ?_;refine bk aa Hj ?_;exact bE Hj
abbrev avi:cV prog 133:=oR (λ| [.val (.int .u8 c)]=>some (c)|_=>none) call133 λav w=>avf av w
abbrev aeO:cV prog 134:=oR (λ| [.val (.int .u8 c)]=>some (c)|_=>none) call134 λav w=>avg av w
abbrev aeP:cV prog 187:=oR (λ| [.val (.int .u8 c)]=>some (c)|_=>none) call187 λav w=>avh av w
abbrev vD:Env prog:=a7 aeO.spec aa
def fF(c:Int):Int:=if EO c=true then c-48 else if(decide (97<=c)&&decide (c<=102))=true then c-97+10 else -1
def oY:=Hj
def avj(A:0<=c)(D:c<256)(w:ar):cQ 188 #[.int .u8 c] w (.int .i64 (fF c)):=by
 refine cB (nt:=18) [.tmp 2] func188 ?_;refine bk vD oY ?_;refine aR vD oY ?_ ?_<;>intro J
 ·have au:48<=c/\c<=57:=by simpa [EO] using J
  have cT:IntKind.u8.wrap (c-48)=c-48:=rh U U;have eO:=dv (c-48);have e:fF c=c-48:=by rw[fF,al J]
  rw[e];refine aA vD (aT oY cT eO) ?_;exact bE oY
 have aE:¬EO c=true:=by rw[J];simp
 refine a1 ?_;refine ae.seq ?_;refine aR vD oY ?_ ?_<;>intro J
 ·have au:97<=c/\c<=102:=aC J
  have cT:IntKind.u8.wrap (c-97)=c-97:=rh U U;have eO:=dv (c-97);have tk:=dv (c-97+10);have e:fF c=c-97+10:=by rw[fF,ab aE,al J]
  rw[e];refine aA vD (b3 oY cT eO tk) ?_;exact bE oY
 ·have e:fF c=-1:=by rw[fF,ab aE,ab (by rw[J];simp)]
  rw[e];refine bk vD oY ?_;exact bE oY
abbrev avk:cV prog 188:=kH (λ| [.val (.int .u8 c)]=>some (c)|_=>none) (λav W bs=>0<=av/\av<256) call188 λav W w bs ad hp=>avj av hp.1 hp.2 w
def NF:ByteArray:=⟨#[61,59,40,41,123,125,44,124,38,45,46,126,42,43,63]⟩
def tv(c:Int):Bool:=(List.range 15).any λi=>decide (af NF i=c)
def avl(w:ar):cQ 137 #[.int .u8 c] w (.bool (tv c)):=by
 have hm:(⟨#[61,59,40,41,123,125,44,124,38,45,46,126,42,43,63]⟩:ao)=NF:=rfl;have bx:NF.size=15:=rfl;refine cB (nt:=16) [.tmp 2] func137 ?_;refine aA vD oY ?_;refine bk vD (I oY hm) ?_;refine bk vD oY ?_
 refine ae.loop (λk:Nat=>⟨20,bK [(0,.is (.v (.int .u8 c))),(3,NF),(4,k)],bA []⟩) (λk=>k<=15/\∀j<k,decide (af NF j=c)=false) (λk=>15-k) 0 ?_ ⟨ef _,λj Y=>by omega⟩ ?_
 ·exact bh oY
 rintro k ⟨ad,ak⟩;refine bk vD (I oY bx) ?_;refine bC oY ?_ ?_<;>intro J
 ·have ax:k<15:=bt J
  have dM:=fK k;refine a1 ?_;refine ae.seq (ae.block ?_);refine aL vD oY ?_ ?_
  ·rw[bx];omega
  refine bC oY ?_ ?_<;>intro J
  ·have e:tv c=true:=by
    rw[tv,Ty];exact⟨k,yK.2 ax,J⟩
   rw[e];refine aA vD oY ?_;exact bE oY
  ·refine a1 ?_;refine bY vD (I oY dM) ?_;refine⟨k+1,⟨U,λj Y=>?_⟩,U,?_⟩
   ·by_cases e:j=k
    ·rw[e];exact J
    ·exact ak j U
   ·exact bh oY
 ·have e4:k=15:=bt J
  have e:tv c=false:=by rw[tv,List.any_eq_false];intro j Y;have:=ak j (by have:=yK.1 Y;omega);rw[this];simp
  rw[e];refine c6 ?_;refine aA vD oY ?_;exact bE oY
abbrev avm:cV prog 137:=oR (λ| [.val (.int .u8 c)]=>some (c)|_=>none) call137 λav w=>avl av w
def pI(c:Int)(b:Bool):Bool:=if c=10 then false else if c=35 then true else b
def Hk(c:Int)(b:Bool):Bool:=(((!b&&!decide (c=32))&&!decide (c=9))&&!decide (c=10))&&!decide (c=13)
def pJ(s:ao):Nat->Bool->Nat->Nat
 |0,_,i=>i
 |n+1,b,i=>if Hk (af s i) (pI (af s i) b)=true then i else pJ s n (pI (af s i) b) (i+1)
def nW(s:ao)(i:Nat):Nat:=pJ s (s.size-i) false i
def rp:=ez
def avn(s:ao)(i:Nat)(hi:i<=s.size)(V:s.size<=100000000)(w:ar):cQ 132 #[s,i] w (.int .i64 (nW s i:Nat)):=by
 refine cB (nt:=40) [.tmp 4] func132 ?_;refine gJ aa rp ?_;refine ae.loop (λp:Bool×Nat=>⟨20,bK [(0,s),(1,p.2),(5,p.1)],bA []⟩) (λp=>p.2<=s.size/\pJ s (s.size-p.2) p.1 p.2=nW s i) (λp=>s.size-p.2) (false,i) ?_ ⟨hi,rfl⟩ ?_
 ·exact bh rp
 rintro⟨b,k⟩ ⟨ad,aK⟩;dsimp only at ad aK ⊢;refine ae.seq ?_;refine aR aa rp ?_ ?_<;>intro J
 ·have ax:k<s.size:=bt J
  have dM:=fK k;obtain⟨m,hm⟩:∃m,s.size-k=m+1:=⟨s.size-k-1,U⟩;have rK:s.size-(k+1)=m:=U;rw[hm]at aK;refine a1 ?_;refine ae.block ?_;refine aL aa rp ?_ ?_
  ·omega
  refine fR ⟨40,bK [(0,s),(1,k),(5,.is (.v (.bool (if af s k=35 then true else b)))),(6,.is (.v (.int .u8 (af s k))))],bA []⟩ ?_ ?_
  ·skip;refine aR aa rp ?_ ?_<;>intro J
   ·have h:af s k=35:=aC J
    refine bY aa rp ?_;exact bh (I rp (Vw h))
   ·have h:¬af s k=35:=aC J
    refine a1 ?_;exact bh (I rp (Qo h))
  refine fR ⟨60,bK [(0,s),(1,k),(5,(pI (af s k) b)),(6,.is (.v (.int .u8 (af s k))))],bA []⟩ ?_ ?_
  ·skip;refine aR aa rp ?_ ?_<;>intro J
   ·have h:af s k=10:=aC J
    have e:pI (af s k) b=false:=by rw[pI,al h]
    refine bY aa rp ?_;exact bh (I rp e)
   ·have h:¬af s k=10:=aC J
    have e:pI (af s k) b=if af s k=35 then true else b:=by rw[pI,ab h]
    refine a1 ?_;exact bh (I rp e)
  refine ae.seq ?_;refine aR aa rp ?_ ?_<;>intro J
  ·have e:nW s i=k:=by rw[<- aK,pJ,al (show Hk (af s k) (pI (af s k) b)=true from J)]
   rw[e];refine aA aa rp ?_;exact bE rp
  ·have e:pJ s m (pI (af s k) b) (k+1)=nW s i:=by rw[<- aK,pJ,ab (by rw[show Hk (af s k) (pI (af s k) b)=false from J];simp)]
   refine a1 ?_;refine bY aa (I rp dM) ?_;refine⟨(pI (af s k) b,k+1),⟨by dsimp only;omega,by dsimp only;rw[rK];exact e⟩,by dsimp only;omega,?_⟩;exact bh rp
 ·have e4:k=s.size:=bt J
  have e:nW s i=k:=by rw[<- aK,show s.size-k=0 by omega];rfl
  rw[e];refine c6 ?_;refine aA aa rp ?_;exact bE rp
def aeQ(s:ao):∀n b i,i<=pJ s n b i/\pJ s n b i<=i+n
 |0,_,i=>⟨eo _,eo _⟩
 |n+1,b,i=>by
  unfold pJ;split
  ·omega
  ·have:=aeQ s n (pI (af s i) b) (i+1);omega
def JX{i:Nat}(hi:i<=s.size):i<=nW s i/\nW s i<=s.size:=by have:=aeQ s (s.size-i) false i;unfold nW;omega
def aeR(s:ao)(i j:Nat)(Y:j<=s.size):(s.extract i j).size=j-i:=by simp_all
def NG(s:ao)(i j k:Nat)(Y:j<=s.size)(ad:k<j-i):af (s.extract i j) (k:Nat)=af s ((i+k:Nat):Int):=by
 unfold af;simp only[kR,ByteArray.data_extract,Array.getElem?_extract]
 simp_all
def aeS(c:Int):Option Int:=if 48<=c/\c<=57 then some (c-48) else if 97<=c/\c<=102 then some (c-87) else if 65<=c/\c<=70 then some (c-55) else none
def WO(p:ao):Option Int:=
 if p.size=0 then none
 else match aeS (af p (0:Nat)) with
  |none=>none
  |some a=>if p.size=1 then some a else match aeS (af p (1:Nat)) with
   |none=>none
   |some b=>some (16*a+b)
def fN:ByteArray:=⟨#[]⟩
abbrev bH:=Int×Nat×ByteArray
abbrev EP:=ByteArray×Nat×Int×Nat
def oZ(s:ao)(i:Nat):Nat->Nat->ByteArray->EP
 |0,_,_=>(fN,0,51,i)
 |n+1,k,o=>
  if k<s.size then
   if af s (k:Nat)=34 then(o,k+1,0,0)
   else if qI (af s (k:Nat))=false then(fN,0,50,k)
   else if¬af s (k:Nat)=92 then oZ s i n (k+1) (o++fD [af s (k:Nat)])
   else if¬k+1<s.size then(fN,0,51,i)
   else if af s ((k+1:Nat):Int)=110 then oZ s i n (k+2) (o++fD [10])
   else if af s ((k+1:Nat):Int)=114 then oZ s i n (k+2) (o++fD [13])
   else if af s ((k+1:Nat):Int)=116 then oZ s i n (k+2) (o++fD [9])
   else if af s ((k+1:Nat):Int)=34\/af s ((k+1:Nat):Int)=92 then oZ s i n (k+2) (o++fD [af s ((k+1:Nat):Int)])
   else if af s ((k+1:Nat):Int)=120 then
    if¬k+2<s.size then(fN,0,51,i)
    else if fF (af s ((k+2:Nat):Int))<0 then(fN,0,50,k+2)
    else if¬k+3<s.size then(fN,0,51,i)
    else if fF (af s ((k+3:Nat):Int))<0 then(fN,0,50,k+3)
    else oZ s i n (k+4) (o++fD [16*fF (af s ((k+2:Nat):Int))+fF (af s ((k+3:Nat):Int))])
   else(fN,0,50,k+1)
  else(fN,0,51,i)
def jA(s:ao)(i:Nat):EP:=oZ s i (s.size-(i+1)) (i+1) fN
def r2(s:ao)(i:Nat):Nat->Nat->EP
 |0,_=>(fN,0,52,i)
 |n+1,k=>
  if k<s.size then
   if qI (af s (k:Nat))=false then(fN,0,50,k)
   else if af s (k:Nat)=47 then(s.extract (i+1) k,k+1,0,0)
   else if af s (k:Nat)=92 then
    if k+1<s.size/\qI (af s ((k+1:Nat):Int))=false then(fN,0,50,k+1)
    else r2 s i n (k+2)
   else r2 s i n (k+1)
  else(fN,0,52,i)
def kt(s:ao)(i:Nat):EP:=r2 s i (s.size-(i+1)) (i+1)
def Bf(c:Int):Bool:=vC c||EO c
def wY(s:ao):Nat->Nat->Nat
 |0,k=>k
 |n+1,k=>if k<s.size then if Bf (af s (k:Nat))=true then wY s n (k+1) else k else k
def iU(s:ao)(i:Nat):Nat:=wY s (s.size-(i+1)) (i+1)
def dT(s:ao)(i:Nat):bH×Nat×Int×Nat:=
 if vC (af s (i:Nat))=true then
  if 32<iU s i-i then((0,0,fN),0,1,i) else((1,i,s.extract i (iU s i)),iU s i,0,0)
 else if af s (i:Nat)=34 then((2,i,(jA s i).1),(jA s i).2.1,(jA s i).2.2.1,(jA s i).2.2.2)
 else if af s (i:Nat)=47 then((3,i,(kt s i).1),(kt s i).2.1,(kt s i).2.2.1,(kt s i).2.2.2)
 else if tv (af s (i:Nat))=true then((4,i,s.extract i (i+1)),i+1,0,0)
 else if af s (i:Nat)=62/\i+1<s.size/\af s ((i+1:Nat):Int)=62 then((4,i,⟨#[62,62]⟩),i+2,0,0)
 else((0,0,fN),0,50,i)
def o0(s:ao):Nat->Nat->List bH->List bH×Int×Nat
 |0,i,l=>(l++[(0,s.size,fN)],0,0)
 |n+1,i,l=>
  if i<s.size then
   if(dT s i).2.2.1=0 then o0 s n (nW s (dT s i).2.1) (l++[(dT s i).1]) else([],(dT s i).2.2.1,(dT s i).2.2.2)
  else(l++[(0,s.size,fN)],0,0)
def cZ(s:ao):List bH×Int×Nat:=if 4096<s.size then([],1,0) else o0 s s.size (nW s 0) []
def avo{s t:ao}(V:s.size=t.size)(h:∀i:Nat,i<s.size->af s (i:Nat)=af t (i:Nat)):s=t:=by apply DB;apply Array.ext V;intro i D O;have:=h i D;simp only[af,kR,Ib D,Ib O,yH]at this;exact UInt8.toNat_inj.1 U
end
end Go.Proofs.YtnemkecffmdlnaaGreatDoor
