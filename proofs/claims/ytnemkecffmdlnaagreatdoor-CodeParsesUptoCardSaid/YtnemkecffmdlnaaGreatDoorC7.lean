/-
 CodeParsesUptoCardSaid: CodeParses returns true for every tape whose bulk is at most 1048576, and leaves it as it was; the listed tables are tied to the program's text.
-/
import Derived.Test.YtnemkecffmdlnaaGreatDoorC6
import Derived.Test.YtnemkecffmdlnaaGreatDoorCards
import Derived.Test.YtnemkecffmdlnaaGreatDoorTie
import Derived.WalkKit
import Derived.ProofKit
import Derived.OpenShut
import Derived.Deep.DeepHandedRow
import Derived.Lib.LaidTab
import Derived.Lib.LaidU8
import Derived.Lay
import Derived.Test.YtnemkecffmdlnaaGreatDoorRows
import Derived.JoinedCond
import Derived.Shelf.Vars
set_option linter.unusedSimpArgs false
set_option linter.unusedVariables false
set_option linter.defProp false
set_option maxHeartbeats 16000000
namespace Go.Proofs.YtnemkecffmdlnaaGreatDoor
section
open Go.RowKit Go.LE Go.Proofs.Tryz
set_option maxRecDepth 10000
theorem qG(s p:ByteArray):oP s p=kI s p:=by
 rw[Bool.eq_iff_iff];unfold oP Lib.hasPrefix kI;rw[List.isPrefixOf_iff_prefix,List.prefix_iff_eq_take];simp only[Bool.and_eq_true,decide_eq_true_eq];have e:(s.extract 0 p.size).data.toList=s.data.toList.take p.data.toList.length:=by
  rw[j9,List.drop_zero,Nat.sub_zero,Lib.size_eq p]
 constructor
 ·intro h;refine⟨?_,DY (by rw[e];exact h.symm)⟩;have:=congrArg List.length h;rw[List.length_take]at this;rw[Lib.size_eq s,Lib.size_eq p];omega
 ·rintro⟨h1,h2⟩;rw[<- e,h2]
theorem uQ{s p:ByteArray}(h:oP s p=true):(eu s p).data.toList=s.data.toList.drop p.data.toList.length:=by
 unfold eu Lib.trimPrefix;rw[if_pos (show Lib.hasPrefix s.data.toList p.data.toList=true from h)]
theorem Ss(t:ByteArray):Be t yB=true ↔ 0<t.size/\bt t ((t.size:Int)-1)=47:=by
 unfold Be Lib.hasSuffix;rw[List.isSuffixOf_iff_suffix,List.suffix_iff_eq_drop];have hl:yB.data.toList=[47]:=rfl;rw[hl,Lib.size_eq t];have hz:([47]:List UInt8).length=1:=rfl;rw[hz];constructor
 ·intro h;have hp:0<t.data.toList.length:=by
   have:=congrArg List.length h;rw[List.length_drop]at this;simp only[List.length_cons,List.length_nil]at this;omega
  refine⟨hp,?_⟩;rw[List.drop_eq_getElem_cons oM]at h;simp only[List.cons.injEq]at h;have hb:=fh t (k:=t.data.toList.length-1) oM;rw[show ((t.data.toList.length:Nat):Int)-1=((t.data.toList.length-1:Nat):Int) by omega,hb,<- h.1];rfl
 ·rintro⟨hp,hb⟩;rw[show ((t.data.toList.length:Nat):Int)-1=((t.data.toList.length-1:Nat):Int) by omega,fh t oM]at hb;rw[List.drop_eq_getElem_cons oM,show t.data.toList.length-1+1=t.data.toList.length by omega,List.drop_length]
  congr 1
  apply UInt8.toNat_inj.1;have:(47:UInt8).toNat=47:=rfl;omega
theorem adP(l:ByteArray):zY l=J0 l/\(zY l=true->p8 (eu l cH) yB=l.extract 6 (l.size-1)):=by
 have hl:cH.data.toList.length=6:=rfl;have body:oP l cH=true->Be (eu l cH) yB=true->p8 (eu l cH) yB=l.extract 6 (l.size-1):=λh1 h2=>by
  apply DY;unfold p8 Lib.trimSuffix;rw[if_pos (show Lib.hasSuffix (eu l cH).data.toList yB.data.toList=true from h2),j9];show (eu l cH).data.toList.take ((eu l cH).data.toList.length-1)=_;rw[uQ h1,hl,List.length_drop,Lib.size_eq l]
  congr 1
 have key:(oP l cH&&Be (eu l cH) yB)=((kI l cH&&decide (6<l.size))&&decide (bt l ((l.size:Int)-1)=47)):=by
  rw[qG];cases h1:kI l cH with
  |false=>rfl
  | true=>
   have h1' : oP l cH=true:=by rw[qG];exact h1
   rw[Bool.true_and,Bool.true_and,Bool.eq_iff_iff,Ss];simp only[Bool.and_eq_true,decide_eq_true_eq];have hc:=uQ h1';have hcl:(eu l cH).size=l.size-6:=by rw[Lib.size_eq,hc,hl,List.length_drop,<- Lib.size_eq l]
   rw[hcl];constructor
   ·rintro⟨g1,g2⟩;refine⟨oM,?_⟩;rw[show ((l.size-6:Nat):Int)-1=((l.size-7:Nat):Int) by omega,fh _ (by rw[hc,hl,List.length_drop,<- Lib.size_eq l];omega)]at g2;rw[show (l.size:Int)-1=((l.size-1:Nat):Int) by omega,fh l (by rw[<- Lib.size_eq l];omega)];simp only[hc,hl,List.getElem_drop]at g2;rw[<- g2]
    congr 3
    omega
   ·rintro⟨g1,g2⟩;refine⟨oM,?_⟩;rw[show ((l.size-6:Nat):Int)-1=((l.size-7:Nat):Int) by omega,fh _ (by rw[hc,hl,List.length_drop,<- Lib.size_eq l];omega)];rw[show (l.size:Int)-1=((l.size-1:Nat):Int) by omega,fh l (by rw[<- Lib.size_eq l];omega)]at g2;simp only[hc,hl,List.getElem_drop];rw[<- g2]
    congr 3
    omega
 constructor
 ·unfold zY J0;rw[<- key];cases h1:oP l cH with
  |false=>simp only[Bool.false_and]
  |true=>
   cases h2:Be (eu l cH) yB with
   |false=>simp only[Bool.and_false,Bool.false_and]
   |true=>rw[body h1 h2]
 ·intro h;unfold zY at h;simp only[Bool.and_eq_true]at h;exact body h.1.1 h.1.2
theorem PH(l:ByteArray):Cj l=GO l/\(Cj l=true->(gV (eu l fR)).1=(jI (oT l)).1):=by
 have hl:fR.data.toList.length=5:=rfl;have haft:oP l fR=true->eu l fR=oT l:=λh=>by
  have h5:5<=l.size:=by
   rw[qG]at h;unfold kI at h;simp only[Bool.and_eq_true,decide_eq_true_eq]at h;exact h.1
  apply DY;rw[uQ h,hl,oT,if_neg oM,j9,List.take_of_length_le];rw[List.length_drop,<- Lib.size_eq l];omega
 unfold Cj GO;rw[<- qG];cases h:oP l fR with
 |false=>exact⟨rfl,λh=>by cases h⟩
 |true=>
  rw[haft h,Bool.true_and,Bool.true_and];obtain⟨h1,h2⟩:=Vf (oT l);exact⟨h1.symm,λh=>(h2 h).symm⟩
theorem Gl(r:Rd)(l:ByteArray):(fT r l).2.ty=r.ty/\(fT r l).2.tx=r.tx/\(fT r l).2.co=r.co/\(fT r l).2.pl=r.pl/\match vc l with
  |none=>(fT r l).1=false
  |some (b,c)=>(fT r l).1=(bT b&&bT c)/\((bT b&&bT c)=true->(fT r l).2={ r with src:=iJ b,vw:=iJ c }):=by
 unfold fT vc;rw[ot];rcases gQ l with _|⟨a,_|⟨b,_|⟨c,_|⟨d,f⟩⟩⟩⟩
 ·exact⟨rfl,rfl,rfl,rfl,rfl⟩
 ·exact⟨rfl,rfl,rfl,rfl,rfl⟩
 ·exact⟨rfl,rfl,rfl,rfl,rfl⟩
 ·by_cases h:a=oF
  ·simp only[if_pos h];obtain⟨e1,e2⟩:=o8 b;obtain⟨e3,e4⟩:=o8 c;rw[e1,e3];refine⟨trivial,trivial,trivial,trivial,by first|trivial|rfl,λhb=>?_⟩;rw[Bool.and_eq_true]at hb;rw[e2 hb.1,e4 hb.2]
  ·simp only[if_neg h];exact⟨trivial,trivial,trivial,trivial,by first|trivial|rfl⟩
 ·exact⟨rfl,rfl,rfl,rfl,rfl⟩
def K4:List Bool->List ByteArray->Bool->Int×Int×Int->Option (Int×Int×Int)
 |[],[],_,x=>some x
 |true::ks,t::f,fst,x=>if t=sB then K4 ks f fst x else if t=vB then K4 ks f fst (1,x.2) else none
 |false::ks,t::f,fst,x=>if bT t=true then K4 ks f false (if fst=true then (x.1,iJ t,x.2.2) else (x.1,x.2.1,iJ t)) else none
 |_,_,_,_=>none
def kdU(u:ByteArray):List Bool:=u.data.toList.map λc=>decide (c.toNat=107)
def kdS(x:ByteArray×Bool×Int×Int):List Bool:=(if x.2.1=true then [true] else [])++((if x.2.2.1=0 then [] else [false])++(if x.2.2.2=0 then [] else [false]))
theorem yi(m:Nat)(hm:m<21):kdU (dq (m:Nat)).2=kdS (gq m)/\((gq m).2.2.2≠0->(gq m).2.2.1≠0)/\(dq (m:Nat)).1=(gq m).1:=by
 have h:∀ b:Fin 21,kdU (dq ((b.val:Nat):Int)).2=kdS (gq b.val)/\((gq b.val).2.2.2≠0->(gq b.val).2.2.1≠0)/\(dq ((b.val:Nat):Int)).1=(gq b.val).1:=by decide +kernel
 exact h ⟨m,hm⟩
theorem PW(u:ByteArray)(f:List ByteArray)(hf:f.length=u.data.toList.length):∀ (n i:Nat) (fst:Bool) (x:Int×Int×Int),i+n=u.data.toList.length->TO u f n i fst x=K4 ((kdU u).drop i) (f.drop i) fst x
 |0,i,fst,x,h=>by
  have h1:(kdU u).drop i=[]:=List.drop_eq_nil_of_le (by simp only[kdU,List.length_map];omega);have h2:f.drop i=[]:=List.drop_eq_nil_of_le oM;rw[h1,h2];rfl
 |n+1,i,fst,x,h=>by
  have hlt:i<u.data.toList.length:=oM;have hk:i<(kdU u).length:=by simp only[kdU,List.length_map];omega
  have hfl:i<f.length:=oM;have hsz:i<u.size:=by rw[Lib.size_eq];omega
  have hg:f.getD i dJ=f[i]:=by rw[List.getD_eq_getElem?_getD,List.getElem?_eq_getElem hfl];rfl
  have hkd:(kdU u)[i]=decide (u.data.toList[i].toNat=107):=by simp[kdU]
  have hb:=fh u hlt;rw[TO,if_pos hsz,List.drop_eq_getElem_cons hk,List.drop_eq_getElem_cons hfl,hg,hkd];by_cases h107:u.data.toList[i].toNat=107
  ·rw[if_pos oM,decide_eq_true h107,K4,PW u f hf n (i+1) _ _ oM,PW u f hf n (i+1) _ _ oM]
  ·rw[if_neg oM,decide_eq_false h107,K4,PW u f hf n (i+1) _ _ oM]
theorem Oz(u:Int)(t:ByteArray)(r:List ByteArray)(hu:¬ u=0):UH u (t::r)=if bT t=true then some (iJ t,r) else none:=by
 obtain⟨e1,e2⟩:=o8 t;unfold UH;rw[if_neg hu];simp only;rw[e1];by_cases h:bT t=true
 ·rw[if_pos h,if_pos h,e2 h]
 ·rw[if_neg h,if_neg h]
theorem J9(f:List ByteArray):UH 0 f=some (0,f):=by unfold UH;rw[if_pos rfl]
theorem yo(u:Int)(hu:¬ u=0):UH u []=none:=by unfold UH;rw[if_neg hu]
def Em{α:Type}:Option (α×List ByteArray)->Option α
 |some (x,f)=>if f.isEmpty=true then some x else none
 |none=>none
def xz(a b:Int)(f:List ByteArray):Option ((Int×Int)×List ByteArray):=match UH a f with
 |none=>none
 |some (x,f2)=>match UH b f2 with
  |none=>none
  |some (y,f3)=>some ((x,y),f3)
theorem Ac(a b:Int)(hab:b≠0->a≠0)(k:Int)(f:List ByteArray):(Em (xz a b f)).map (λp=>(k,p.1,p.2))=K4 ((if a=0 then [] else [false])++(if b=0 then [] else [false])) f true (k,0,0):=by
 by_cases ha:a=0
 ·have hb:b=0:=Decidable.byContradiction λh=>hab h ha
  subst ha;subst hb;rw[if_pos rfl,xz,J9];simp only[J9];cases f with
  |nil=>rfl
  |cons t r=>rfl
 ·rw [if_neg ha,xz];cases f with
  |nil=>rw[yo a ha];rfl
  | cons t r=>
   rw[Oz a t r ha,List.singleton_append,K4];by_cases ht:bT t=true
   ·rw[if_pos ht,if_pos ht];simp only;by_cases hb:b=0
    ·subst hb;rw[J9,if_pos rfl];simp only[if_true];cases r with
     |nil=>rfl
     |cons t2 r2=>rfl
    ·rw[if_neg hb];simp only[if_true];cases r with
     |nil=>rw[yo b hb];rfl
     | cons t2 r2=>
      rw[Oz b t2 r2 hb,K4];by_cases ht2:bT t2=true
      ·rw[if_pos ht2,if_pos ht2];cases r2 with
       |nil=>rfl
       |cons t3 r3=>rfl
      ·rw[if_neg ht2,if_neg ht2];rfl
   ·rw[if_neg ht,if_neg ht];rfl
theorem aav(m:Nat)(f:List ByteArray):cdX m f=match cdK (gq m).2.1 f with
  |none=>none
  |some (k,f1)=>match xz (gq m).2.2.1 (gq m).2.2.2 f1 with
   |none=>none
   |some (p,f3)=>some (((m:Nat),k,p.1,p.2),f3):=by
 unfold cdX xz;cases cdK (gq m).2.1 f with
 |none=>rfl
 | some q=>
  obtain⟨k,f1⟩:=q;simp only;cases UH (gq m).2.2.1 f1 with
  |none=>rfl
  |some q=>
   obtain⟨x,f2⟩:=q;simp only;cases UH (gq m).2.2.2 f2 with
   |none=>rfl
   |some q=>rfl
theorem Fk(m:Nat)(k:Int)(o:Option ((Int×Int)×List ByteArray)):Em (match o with
   |none=>none
   |some (p,f3)=>some ((((m:Nat):Int),k,p.1,p.2),f3))=((Em o).map (λp=>(k,p.1,p.2))).map λx=>(((m:Nat):Int),x):=by
 cases o with
 |none=>rfl
 |some q=>
  obtain⟨p,f3⟩:=q;simp only[Em];split<;>rfl
theorem ac8(m:Nat)(hm:m<21)(f:List ByteArray):Em (cdX m f)=(K4 (kdS (gq m)) f true (0,0,0)).map λx=>(((m:Nat):Int),x):=by
 obtain⟨_,hab,_⟩:=yi m hm;rw[aav];generalize gq m=sp at *;obtain⟨w,st,a,b⟩:=sp;simp only[kdS]at hab ⊢;cases st with
 |false=>
  unfold cdK;rw[if_neg sI,if_neg sI,List.nil_append,<- Ac a b hab 0 f];exact Fk m 0 _
 | true=>
  unfold cdK;rw[if_pos rfl,if_pos rfl];cases f with
  |nil=>rfl
  | cons t r=>
   rw[List.singleton_append,K4];simp only;by_cases h1:t=sB
   ·rw[if_pos h1,if_pos h1,<- Ac a b hab 0 r];exact Fk m 0 _
   ·rw[if_neg h1,if_neg h1];by_cases h2:t=vB
    ·rw[if_pos h2,if_pos h2,<- Ac a b hab 1 r];exact Fk m 1 _
    ·rw[if_neg h2,if_neg h2];rfl
theorem x8:∀ (ks:List Bool) (f:List ByteArray) (fst:Bool) (x:Int×Int×Int),f.length≠ks.length->K4 ks f fst x=none
 |[],[],_,_,h=>absurd rfl h
 |[],t::f,_,_,_=>rfl
 |true::ks,[],_,_,_=>rfl
 |false::ks,[],_,_,_=>rfl
 |true::ks,t::f,fst,x,h=>by
  have h' : f.length≠ks.length:=λe=>h (by simp[e])
  rw[K4,x8 ks f _ _ h',x8 ks f _ _ h'];split
  ·rfl
  ·split<;>rfl
 |false::ks,t::f,fst,x,h=>by
  have h' : f.length≠ks.length:=λe=>h (by simp[e])
  rw[K4,x8 ks f _ _ h'];split<;>rfl
theorem adb(t:ByteArray):V5 t=pr t:=by
 unfold V5 pr;have:∀ n j,j+n<=21->cS (λm=>decide ((gq m).1=t)) n j=cS (λm=>decide ((dq (m:Nat)).1=t)) n j:=by
  intro n
  induction n with
  |zero=>intro j _;rfl
  |succ n ih=>
   intro j hj;unfold cS;rw[(yi j oM).2.2,ih (j+1) oM]
 exact this 21 0 oM
theorem CP{P:Nat->Bool}:∀ {n j m:Nat},cS P n j=some m->m<j+n/\P m=true
 |0,j,m,h=>by cases h
 | n+1,j,m,h=>by
  unfold cS at h;cases hp:P j with
  |true=>
   rw[hp]at h;cases h;exact⟨oM,hp⟩
  |false=>
   rw[hp]at h;obtain⟨h1,h2⟩:=CP h;exact⟨oM,h2⟩
theorem afW(n:Nat)(l:ByteArray):match Bp n l with
  |some x=>B5 n l=(true,[x])
  |none=>(B5 n l).1=false:=by
 unfold Bp B5;rw[ot];rcases gQ l with _|⟨a,_|⟨b,f⟩⟩
 ·rfl
 ·rfl
 ·simp only;by_cases ha:a=fZ (n:Nat)
  ·rw [if_pos ha,if_pos ha,adb];cases hop:pr b with
   |none=>rfl
   | some m=>
    have hm:m<21:=by
     have:=(CP hop).1;omega
    simp only;have hx:=ac8 m hm f;obtain⟨hk,_,_⟩:=yi m hm;have hkl:(kdS (gq m)).length=(dq (m:Nat)).2.size:=by rw[<- hk,kdU,List.length_map,<- Lib.size_eq]
    by_cases hlen:f.length=(dq (m:Nat)).2.size
    ·rw[if_pos hlen,PW _ f (by rw[hlen,Lib.size_eq]) _ 0 _ _ (by rw[Lib.size_eq];omega),List.drop_zero,List.drop_zero,hk];cases hr:K4 (kdS (gq m)) f true (0,0,0) with
     | none=>
      rw[hr]at hx;cases hc:cdX m f with
      |none=>rfl
      |some q=>
       obtain⟨x,f'⟩:=q;rw[hc]at hx;simp only[Em,Option.map_none]at hx;simp only;cases f' with
       |nil=>simp at hx
       |cons _ _=>rfl
     | some y=>
      rw[hr]at hx;cases hc:cdX m f with
      |none=>rw[hc]at hx;simp[Em]at hx
      | some q=>
       obtain⟨x,f'⟩:=q;rw[hc]at hx;simp only[Em,Option.map_some]at hx;cases f' with
       |nil=>
        simp only[List.isEmpty_nil,if_true,Option.some.injEq]at hx;subst hx;rfl
       |cons _ _=>simp at hx
    ·rw[if_neg hlen];have hr:=x8 (kdS (gq m)) f true (0,0,0) (by rw[hkl];exact hlen);rw[hr]at hx;cases hc:cdX m f with
     |none=>rfl
     |some q=>
      obtain⟨x,f'⟩:=q;rw[hc]at hx;simp only[Em,Option.map_none]at hx;simp only;cases f' with
      |nil=>simp at hx
      |cons _ _=>rfl
  ·rw[if_neg ha,if_neg ha]
theorem lF{s:ByteArray}{i:Nat}(h:s.size<=i):bL s i=i:=by
 unfold bL;rw[show s.size-i=0 by omega];rfl
theorem uP(s:ByteArray)(i:Nat):i<=bL s i:=(xY s (s.size-i) i).1
theorem CR(tk:L1)(s:ByteArray):∀ (n m:Nat) (r:Rd),s.size<=r.pl+n->s.size<=r.pl+m->jS tk s n r=jS tk s m r
 |0,0,r,_,_=>rfl
 |0,m+1,r,h,_=>by
  rw[jS,jS,if_neg (by rw[lF oM];omega)]
 |n+1,0,r,_,h=>by
  rw[jS,jS,if_neg (by rw[lF oM];omega)]
 |n+1,m+1,r,h1,h2=>by
  have hg:=uP s r.pl;rw[jS,jS,CR tk s n m _ (by dsimp only;omega) (by dsimp only;omega)]
theorem eg(tk:L1)(s:ByteArray)(r:Rd):oJ tk s r=if bL s r.pl<s.size then if (tk r (dt s r.pl)).1=true then oJ tk s { (tk r (dt s r.pl)).2 with pl:=bL s r.pl+1 } else (tk r (dt s r.pl)).2 else r:=by
 have hg:=uP s r.pl;by_cases h:r.pl<s.size
 ·obtain⟨k,hk⟩:∃ k,s.size-r.pl=k+1:=⟨s.size-r.pl-1,oM⟩;unfold oJ;rw[hk,jS];rw[CR tk s k (s.size-(bL s r.pl+1)) _ (by dsimp only;omega) (by dsimp only;omega)]
 ·have hk:s.size-r.pl=0:=oM;unfold oJ;rw[hk,jS,if_neg oM]
theorem FN(P:Rd->Prop){tk:L1}(h1:∀ r l q,P r->P { (tk r l).2 with pl:=q })(h2:∀ r l,P r->P (tk r l).2)(s:ByteArray)(r:Rd)(h:P r):P (oJ tk s r):=by
 have key:∀ n r,P r->P (jS tk s n r):=by
  intro n
  induction n with
  |zero=>intro r h;exact h
  | succ n ih=>
   intro r h;rw[jS];split
   ·split
    ·exact ih _ (h1 _ _ _ h)
    ·exact h2 _ _ h
   ·exact h
 exact key _ r h
def B1(s:ByteArray)(r:Rd):Pg×Int×Int×ByteArray:=
 if r.pl<s.size then (eE,110,r.pl,dJ) else if (ie r.pg).1=0 then (r.pg,0,0,dJ) else (eE,ie r.pg)
def uy(s:ByteArray)(r:Rd):Pg×Int×Int×ByteArray:=
 if (sx s r).1=true then B1 s (oJ gW s (sx s r).2) else (eE,110,(sx s r).2.pl,dJ)
def YP(s:ByteArray):Except Nat (Nat×Rd)->Pg×Int×Int×ByteArray
 |.error i=>(eE,110,i,dJ)
 |.ok (g,r)=>if g<2 then (eE,110,s.size,dJ) else if (ie r.pg).1=0 then (r.pg,0,0,dJ) else (eE,ie r.pg)
theorem agu(r:Rd)(l:ByteArray):Mi 2 r l=match Bp r.co.length l with
  |none=>none
  |some x=>some (2,{ r with co:=r.co++[x] }):=by
 unfold Mi;rw[if_neg sI,if_neg sI,if_neg sI,if_pos rfl];cases Bp r.co.length l<;>rfl
theorem aaV(s:ByteArray):∀ (n:Nat) (r:Rd),s.size<=r.pl+n->YP s (Gx s n 2 r)=B1 s (oJ gW s r)
 |0,r,h=>by
  rw[eg,if_neg (by rw[lF oM];omega)];unfold B1;rw[if_neg oM];rfl
 | n+1,r,h=>by
  have hg:=uP s r.pl;rw[Gx,eg];by_cases hp:r.pl<s.size
  ·rw[if_pos hp,agu];have hc:=afW r.co.length (dt s r.pl);cases hr:Bp r.co.length (dt s r.pl) with
   | none=>
    rw[hr]at hc;simp only at hc ⊢;have e:B1 s (if bL s r.pl<s.size then if (gW r (dt s r.pl)).1=true then oJ gW s { (gW r (dt s r.pl)).2 with pl:=bL s r.pl+1 } else (gW r (dt s r.pl)).2 else r)=(eE,110,(r.pl:Int),dJ):=by
     have h1:(gW r (dt s r.pl)).1=false:=hc;rw[h1];split
     ·rw[if_neg sI];unfold B1;rw[if_pos (show (gW r (dt s r.pl)).2.pl<s.size from hp)];rfl
     ·unfold B1;rw[if_pos hp]
    rw[e];rfl
   | some x=>
    rw[hr]at hc;simp only at hc ⊢;have h1:(gW r (dt s r.pl))=(true,{ r with co:=r.co++[x] }):=by unfold gW;rw[hc]
    rw[h1];by_cases he:bL s r.pl<s.size
    ·rw[if_pos he,if_pos he,if_pos rfl];exact aaV s n _ (by dsimp only;omega)
    ·rw[if_neg he,if_neg he];unfold B1;rw[if_pos hp];rfl
  ·rw[if_neg hp,if_neg oM];unfold B1;rw[if_neg hp];rfl
def goR(s:ByteArray)(n:Nat)(r:Rd):Option (Nat×Rd)->Except Nat (Nat×Rd)
 |none=>.error r.pl
 |some (g',r')=>if bL s r.pl<s.size then Gx s n g' { r' with pl:=bL s r.pl+1 } else .error r.pl
theorem Yp(s:ByteArray)(n g:Nat)(r:Rd):Gx s (n+1) g r=if r.pl<s.size then goR s n r (Mi g r (dt s r.pl)) else .ok (g,r):=by
 rw[Gx];split
 ·cases Mi g r (dt s r.pl) with
  |none=>rfl
  |some q=>rfl
 ·rfl
theorem DT(s:ByteArray)(n:Nat)(r:Rd)(hp:r.pl<s.size)(h:s.size<=r.pl+(n+1))(x:Option (Nat×Rd))
  (hx:x=if (vc (dt s r.pl)).isSome=true then match vc (dt s r.pl) with
   |none=>none
   |some (b,c)=>if (bT b&&bT c)=true then some (2,{ r with src:=iJ b,vw:=iJ c }) else none
   else none) :
  YP s (goR s n r x)=uy s r:=by
 have hg:=uP s r.pl;obtain⟨m1,m2,m3,m4,m5⟩:=Gl r (dt s r.pl);have bad:(fT r (dt s r.pl)).1=false->uy s r=(eE,110,(r.pl:Int),dJ):=λhb=>by
  have e:(sx s r).1=false/\(sx s r).2.pl=r.pl:=by
   unfold sx;rw[hb];split
   ·rw[if_neg sI];exact⟨rfl,m4⟩
   ·exact⟨rfl,rfl⟩
  unfold uy;rw[if_neg (by rw[e.1];simp),e.2]
 subst hx;cases hr:vc (dt s r.pl) with
 |none=>
  rw[hr]at m5;simp only[Option.isSome_none,Bool.false_eq_true,if_false];rw[bad m5];rfl
 | some q=>
  obtain⟨b,c⟩:=q;rw[hr]at m5;simp only[Option.isSome_some,if_true]at m5 ⊢;obtain⟨m5,m6⟩:=m5;by_cases hbc:(bT b&&bT c)=true
  ·rw[if_pos hbc];rw[hbc]at m5;simp only[goR];have m6:=m6 hbc;by_cases he:bL s r.pl<s.size
   ·rw[if_pos he,aaV s n _ (by dsimp only;omega)];unfold uy sx;rw[if_pos he,if_pos m5,if_pos rfl,m6]
   ·rw[if_neg he];unfold uy sx;rw[if_neg he,if_neg sI];rfl
  ·rw[if_neg hbc];have:(fT r (dt s r.pl)).1=false:=by rw[m5];simpa using hbc
   rw[bad this];rfl
theorem sA{s:ByteArray}{r:Rd}(h:r.pl=s.size):uy s r=(eE,110,(s.size:Int),dJ):=by
 have he:¬ bL s r.pl<s.size:=by rw[lF oM];omega
 unfold uy sx;rw[if_neg he,if_neg sI];simp only[h]
theorem Xq(s:ByteArray):∀ (n:Nat) (r:Rd),r.pl<=s.size->s.size<=r.pl+n->YP s (Gx s n 1 r)=uy s (oJ eA s r)
 |0,r,h0,h=>by
  rw[eg,if_neg (by rw[lF oM];omega),sA oM];rfl
 | n+1,r,h0,h=>by
  have hg:=uP s r.pl;rw[Yp,eg];by_cases hp:r.pl<s.size
  ·have hle:=jR h0;rw[if_pos hp];obtain⟨t1,t2⟩:=PH (dt s r.pl);by_cases hx:Cj (dt s r.pl)=true
   ·have e1:Mi 1 r (dt s r.pl)=some (1,{ r with tx:=r.tx++[(gV (eu (dt s r.pl) fR)).1] }):=by
     unfold Mi;rw[if_neg sI,if_pos (by rw[<- t1,hx];rfl),t2 hx]
    have e2:eA r (dt s r.pl)=(true,{ r with tx:=r.tx++[(gV (eu (dt s r.pl) fR)).1] }):=by unfold eA;rw[if_pos hx]
    rw[e1,e2];simp only[goR];by_cases he:bL s r.pl<s.size
    ·rw[if_pos he,if_pos he,if_pos trivial];exact Xq s n _ (by dsimp only;omega) (by dsimp only;omega)
    ·rw[if_neg he,if_neg he];unfold uy sx;rw[if_neg he,if_neg sI];rfl
   ·have e2:eA r (dt s r.pl)=(false,r):=by unfold eA;rw[if_neg hx]
    have e3:(if bL s r.pl<s.size then if (eA r (dt s r.pl)).1=true then oJ eA s { (eA r (dt s r.pl)).2 with pl:=bL s r.pl+1 } else (eA r (dt s r.pl)).2 else r)=r:=by
     rw[e2];split
     ·rw[if_neg sI]
     ·rfl
    rw[e3];refine DT s n r hp h _ ?_;unfold Mi;rw[if_neg sI,if_neg (by rw[<- t1];simpa using hx)];cases hr:vc (dt s r.pl) with
    |none=>simp
    |some q=>
     obtain⟨b,c⟩:=q;simp
  ·rw[if_neg hp,if_neg oM,sA oM];rfl
theorem XH(s:ByteArray):∀ (n:Nat) (r:Rd),r.pl<=s.size->s.size<=r.pl+n->YP s (Gx s n 0 r)=uy s (oJ eA s (oJ fc s r))
 |0,r,h0,h=>by
  rw[eg fc,if_neg (by rw[lF oM];omega),eg,if_neg (by rw[lF oM];omega),sA oM];rfl
 | n+1,r,h0,h=>by
  have hg:=uP s r.pl;rw[Yp,eg fc];by_cases hp:r.pl<s.size
  ·have hle:=jR h0;rw[if_pos hp];obtain⟨y1,y2⟩:=adP (dt s r.pl);obtain⟨t1,t2⟩:=PH (dt s r.pl);by_cases hy:zY (dt s r.pl)=true
   ·have e1:Mi 0 r (dt s r.pl)=some (0,{ r with ty:=r.ty++[p8 (eu (dt s r.pl) cH) yB] }):=by
     unfold Mi;rw[if_pos (by rw[<- y1,hy];rfl),y2 hy]
    have e2:fc r (dt s r.pl)=(true,{ r with ty:=r.ty++[p8 (eu (dt s r.pl) cH) yB] }):=by unfold fc;rw[if_pos hy]
    rw[e1,e2];simp only[goR];by_cases he:bL s r.pl<s.size
    ·rw[if_pos he,if_pos he,if_pos trivial];exact XH s n _ (by dsimp only;omega) (by dsimp only;omega)
    ·rw[if_neg he,if_neg he,eg,if_neg he];unfold uy sx;rw[if_neg he,if_neg sI];rfl
   ·have e2:fc r (dt s r.pl)=(false,r):=by unfold fc;rw[if_neg hy]
    have e3:(if bL s r.pl<s.size then if (fc r (dt s r.pl)).1=true then oJ fc s { (fc r (dt s r.pl)).2 with pl:=bL s r.pl+1 } else (fc r (dt s r.pl)).2 else r)=r:=by
     rw[e2];split
     ·rw[if_neg sI]
     ·rfl
    rw[e3];by_cases hx:Cj (dt s r.pl)=true
    ·have e1:Mi 0 r (dt s r.pl)=some (1,{ r with tx:=r.tx++[(gV (eu (dt s r.pl) fR)).1] }):=by
      unfold Mi;rw[if_neg (by rw[<- y1];simpa using hy),if_pos (by rw[<- t1,hx];rfl),t2 hx]
     have e2:eA r (dt s r.pl)=(true,{ r with tx:=r.tx++[(gV (eu (dt s r.pl) fR)).1] }):=by unfold eA;rw[if_pos hx]
     rw[e1,eg,e2];simp only[goR];by_cases he:bL s r.pl<s.size
     ·rw[if_pos he,if_pos he,if_pos trivial];exact Xq s n _ (by dsimp only;omega) (by dsimp only;omega)
     ·rw[if_neg he,if_neg he];unfold uy sx;rw[if_neg he,if_neg sI];rfl
    ·have e2:eA r (dt s r.pl)=(false,r):=by unfold eA;rw[if_neg hx]
     have e3:oJ eA s r=r:=by
      rw[eg,e2];split
      ·rw[if_neg sI]
      ·rfl
     rw[e3];refine DT s n r hp h _ ?_;unfold Mi;rw[if_neg (by rw[<- y1];simpa using hy),if_neg (by rw[<- t1];simpa using hx)];cases hr:vc (dt s r.pl) with
     |none=>simp
     |some q=>
      obtain⟨b,c⟩:=q;simp
  ·rw[if_neg hp,if_neg oM,eg,if_neg oM,sA oM];rfl
def kF(r:Rd):Prop:=∀ t∈r.ty,uq t=true
theorem Vo(s:ByteArray)(r:Rd)(h:kF r):kF (oJ fc s r):=by
 have key:∀ r l,kF r->∀ t∈(fc r l).2.ty,uq t=true:=λr l h t ht=>by
  unfold fc at ht;split at ht
  ·rename_i hy;rcases List.mem_append.1 ht with ht|ht
   ·exact h t ht
   ·rw[List.mem_singleton.1 ht];unfold zY at hy;rw[Bool.and_eq_true]at hy;exact hy.2
  ·exact h t ht
 exact FN kF (λr l q h=>key r l h) key s r h
theorem Vu(s:ByteArray)(r:Rd)(h:kF r):kF (oJ eA s r):=by
 have key:∀ r l,kF r->∀ t∈(eA r l).2.ty,uq t=true:=λr l h t ht=>by
  unfold eA at ht;split at ht<;>exact h t ht
 exact FN kF (λr l q h=>key r l h) key s r h
theorem VQ(s:ByteArray)(r:Rd)(h:kF r):kF (oJ gW s r):=FN kF (λr l q h=>h) (λr l h=>h) s r h
theorem Xg(s:ByteArray)(r:Rd)(h:kF r):kF (sx s r).2:=by
 have key:∀ l,(fT r l).2.ty=r.ty:=λl=>(Gl r l).1
 unfold sx;split
 ·split
  ·intro t ht;exact h t (by rw[<- key (dt s r.pl)];exact ht)
  ·intro t ht;exact h t (by rw[<- key (dt s r.pl)];exact ht)
 ·exact h
theorem vb{P:Nat->Bool}:∀ {n j:Nat},(∀ i,j<=i->i<j+n->P i=false)->cS P n j=none
 |0,j,_=>rfl
 |n+1,j,h=>by
  unfold cS;rw[h j oM oM,cond_false];exact vb λi h1 h2=>h i oM oM
theorem XZ{r:Rd}(h:kF r):ie r.pg=if (131072<r.ty.length\/131072<r.tx.length)\/131072<r.co.length then (24,0,dJ) else eW r.pg:=by
 have hb:cS (oQ r.pg) r.pg.ty.length 0=none:=vb λi _ hi=>by
  have hi' : i<r.ty.length:=by have:r.pg.ty=r.ty:=rfl;rw[this]at hi;omega
  unfold oQ;rw[List.getD_eq_getElem?_getD,show r.pg.ty=r.ty from rfl,List.getElem?_eq_getElem hi',Option.getD_some,h _ (List.getElem_mem hi')];rfl
 unfold ie;rw[hb];rfl
theorem C1(p:Pg):(eW p).1=0 ↔ eW p=(0,0,dJ):=by
 constructor
 ·unfold eW;split
  ·intro h;cases h
  ·split
   ·intro h;cases h
   ·intro _;rfl
 ·intro h;rw[h]
theorem aek(s:ByteArray):JD s=if 8388608<s.size then (eE,1,0,dJ) else YP s (Gx s s.size 0 xQ):=by
 unfold JD;split
 ·rfl
 ·cases Gx s s.size 0 xQ with
  |error i=>rfl
  |ok q=>rfl
theorem Kz(s:ByteArray):q6 s=JD s:=by
 rw[aek];unfold q6;by_cases h8:8388608<s.size
 ·rw[if_pos h8,if_pos h8]
 ·rw[if_neg h8,if_neg h8];have h0:=XH s s.size xQ (Nat.zero_le _) (by show s.size<=0+s.size;omega);have ha:kF (me s):=by
   have h1:kF (Nj s).2:=Xg s _ (Vu s _ (Vo s _ (λt ht=>by cases ht)));unfold me;split
   ·exact VQ s _ h1
   ·exact h1
  have hc:=XZ ha;rw[h0];unfold uy;show _=if (Nj s).1=true then B1 s (oJ gW s (Nj s).2) else (eE,110,((Nj s).2.pl:Int),dJ);by_cases hm:(Nj s).1=true
  ·have hz:me s=oJ gW s (Nj s).2:=by unfold me;rw[if_pos hm]
   rw[if_pos hm,<- hz];unfold B1;by_cases hp:(me s).pl<s.size
   ·rw[if_pos (.inr hp),if_pos hp]
   ·rw[if_neg (by rintro (g|g);rw[g]at hm;cases hm;exact hp g),if_neg hp,hc];by_cases h24:(131072<(me s).ty.length\/131072<(me s).tx.length)\/131072<(me s).co.length
    ·rw[if_pos h24,if_pos h24,if_neg sI]
    ·rw[if_neg h24,if_neg h24];by_cases hr:eW (me s).pg=(0,0,dJ)
     ·rw[if_pos hr,if_pos ((C1 _).2 hr)]
     ·rw[if_neg hr,if_neg λg=>hr ((C1 _).1 g)]
  ·have hz:me s=(Nj s).2:=by unfold me;rw[if_neg hm]
   rw[if_neg hm,hz,if_pos (.inl (by simpa using hm))]
def P8:aM prog 44 where
 pre:=λW bs=>λ| [.val (.string q)]=>q.size<=16000000|_=>False
 res:=λW=>λ| [.val (.string q)]=>.tuple #[.string (jI q).1,.bool (jI q).2]|_=>undef
 enters:=call44
 ok:=by
  intro W w bs us as_ hk hu hp;split at hp
  ·rename_i q
   match us,hu with
   |[u0],hu=>
    obtain⟨rfl,_⟩:=hu;exact Xl q hp w
  ·exact hp.elim
theorem C6(W:World)(q:ByteArray):P8.res W [.val (.string q)]=.tuple #[.string (jI q).1,.bool (jI q).2]:=rfl
theorem DW(W:World)(bs:List Nat)(q:ByteArray):P8.pre W bs [.val (.string q)]=(q.size<=16000000):=rfl
noncomputable def eI(s:ByteArray)(hs:s.size<=100000000):Env prog:=⟨λ| 46=>some (uF s hs).spec|62=>some OV.spec|70=>some DQ.spec|47=>some RZ.spec|_=>none,λ_=>none,λ_ _=>none⟩
theorem afs(s:ByteArray)(hs:s.size<=100000000):(eI s hs).sp 46=some (uF s hs).spec:=rfl
theorem adN(s:ByteArray)(hs:s.size<=100000000):(eI s hs).sp 62=some OV.spec:=rfl
theorem adH(s:ByteArray)(hs:s.size<=100000000):(eI s hs).sp 70=some DQ.spec:=rfl
theorem agY(s:ByteArray)(hs:s.size<=100000000):(eI s hs).sp 47=some RZ.spec:=rfl
def riV(o:Option (Int×Int×Int×Int)):Value:=match o with
 |none=>.tuple #[.agg #[.int .i64 0,.int .i64 0,.int .i64 0,.int .i64 0],.bool false]
 |some x=>.tuple #[.agg #[.int .i64 x.1,.int .i64 x.2.1,.int .i64 x.2.2.1,.int .i64 x.2.2.2],.bool true]
theorem YX:∀ k:Fin 21,(dq ((k.val:Nat):Int)).2.size<=3:=by decide +kernel
def cu:=(aj @List.replicate_succ.{0} @List.replicate_zero.{0} @an @ab jo jl gS (aj ca cc b9 cg cf cj cd (aj ck fu fE fj fz fw dc (aj dh cZ db c8 dd sk ss (aj se rO HM JG HK Kf G7 (aj IY JH Ja GX D8 EJ ahG (aj aho @aG @al @ay @ax @gu @js (aj @ln @C6 @DW @afs @adN @adH @agY (uv @uF.eq_1 @TW @Ut @uM @uw @I3 @Iy)))))))))
theorem U3(l:ByteArray)(n:Nat)(hs:l.size<=100000000)(hn:n<=9223372036854775807)(w:World):Calls prog 48 #[.string l,.int .i64 (n:Nat)] w λe w' => e=.returned (riV (Bp n l))/\ah w [] w' := by
 refine af (nt:=93) [.cell 4 85,.tmp 5] func48 rfl rfl rfl ?_;refine vR (eI l hs) cu ?_;refine vR (eI l hs) cu ?_;have hnil:∀ {x:Option (Int×Int×Int×Int)},x=none->riV x=.tuple #[.agg #[.int .i64 0,.int .i64 0,.int .i64 0,.int .i64 0],.bool false]:=λh=>by rw[h];rfl
 have hln:1<=(gQ l).length:=by rw[<- ot,lW];omega
 rcases hp:gQ l with _|⟨a,_|⟨b,f⟩⟩
 ·rw[hp]at hln;simp at hln
 ·have hE:Bp n l=none:=by unfold Bp;rw[hp]
  rw[hnil hE];refine Wp.seq ?_;refine kO (eI l hs) (aa cu @aE.eq_1) ?_ ?_
  ·exact⟨⟨_,rfl⟩,λ_=>by decide,λ_=>⟨oM,oM⟩⟩
  refine wC cu (λhc=>?_) (λhc=>?_)
  ·skip;refine vR (eI l hs) cu ?_;refine wZ cu ?_;exact λE=>rfl
  ·exact absurd hc sI
 ·have hrow:aE (a::b::f)=.string a::.string b::aE f:=rfl;refine Wp.seq ?_;refine kO (eI l hs) (aa cu hrow) ?_ ?_
  ·exact⟨⟨_,rfl⟩,λ_=>by omega,λ_=>by omega,λ_=>⟨oM,oM⟩⟩
  refine wC cu (λhc=>?_) (λhc=>?_)
  ·have hne:¬ a=fZ (n:Nat):=by
    simp at hc;rcases hc with hc|hc
    ·omega
    ·exact hc
   have hE:Bp n l=none:=by unfold Bp;rw[hp];simp only;rw[if_neg hne]
   rw[hnil hE];refine vR (eI l hs) cu ?_;refine wZ cu ?_;exact λE=>rfl
  have heq:a=fZ (n:Nat):=by
   simp at hc;exact hc.2
  have hE0:pr b=none->Bp n l=none:=λh=>by unfold Bp;rw[hp];simp only;rw[if_pos heq,h]
  have hE1:∀ m,pr b=some m->¬ f.length=(dq (m:Nat)).2.size->Bp n l=none:=λm h h1=>by unfold Bp;rw[hp];simp only;rw[if_pos heq,h];simp only;rw[if_neg h1]
  have hE2:∀ m,pr b=some m->f.length=(dq (m:Nat)).2.size->TO (dq (m:Nat)).2 f (dq (m:Nat)).2.size 0 true (0,0,0)=none->Bp n l=none:=λm h h1 h2=>by unfold Bp;rw[hp];simp only;rw[if_pos heq,h];simp only;rw[if_pos h1,h2]
  have hE3:∀ m x,pr b=some m->f.length=(dq (m:Nat)).2.size->TO (dq (m:Nat)).2 f (dq (m:Nat)).2.size 0 true (0,0,0)=some x->Bp n l=some (((m:Nat):Int),x):=λm x h h1 h2=>by unfold Bp;rw[hp];simp only;rw[if_pos heq,h];simp only;rw[if_pos h1,h2]
  clear hc;refine wK ?_;refine Wp.seq ?_;refine vR (eI l hs) cu ?_;refine Wp.block ?_
  refine Wp.loop (λk:Nat=>⟨60,bm [(4,.is (.own 4 0)),(6,.is (.hd 19)),(7,.is (.v (.int .i64 (k:Nat))))],aY [(4,.cells 85 [.v (.int .i64 0),.v (.int .i64 0),.v (.int .i64 0),.v (.int .i64 0)]),(19,.row 9 1 (f.length+1+1) ((aE (a::b::f)).map .v))]⟩) (λk=>k<=21/\∀ j<k,¬ (dq (j:Nat)).1=b) (λk=>21-k) 0 ?_ ⟨oM,λj hj=>by omega⟩ ?_
  ·exact wM (λk=>if k=4 then .key 0 else if k=19 then .key 24 else .key k) (aa cu hrow)
  rintro k ⟨hk,hno⟩;refine Wp.seq ?_;refine vR (eI l hs) cu ?_;refine wC cu (λhc=>?_) (λhc=>?_)
  ·have hlt:k<21:=by
    simp at hc;omega
   have wk:IntKind.i64.wrap ((k:Int)+1)=((k+1:Nat):Int):=wW;have hus:=YX ⟨k,hlt⟩;simp only at hus;refine wK ?_;refine Wp.seq (Wp.block ?_);refine vR (eI l hs) cu ?_;have hO:(dq (k:Nat)).1=b->pr b=some k:=λh=>by
    unfold pr;refine lh _ _ _ hlt (λi hi=>by simp only[decide_eq_false_iff_not];exact hno i hi) (by simp only[decide_eq_true_eq];exact h)
   have hO2:=λh=>(aa (hE1 k (hO h)) (aa (hE2 k (hO h)) λx=>hE3 k x (hO h)))
   clear hO hE1 hE2 hE3 hE0;generalize hwu:dq (k:Nat)=wu at *;obtain⟨wd,u⟩:=wu;dsimp only at hO2 hus ⊢;have w2:IntKind.i64.wrap (2+(u.size:Int))=((u.size+2:Nat):Int):=wW;refine Wp.seq ?_;refine wR (eI l hs) (aa cu hrow) ?_ ?_
   ·exact⟨oM,oM⟩
   refine wC cu (λhc=>?_) (λhc=>?_)
   ·have hne:¬ wd=b:=by simpa using hc
    refine wE ?_;refine vr (eI l hs) (aa cu wk) ?_;refine⟨k+1,⟨oM,λj hj=>?_⟩,oM,?_⟩
    ·by_cases e:j=k
     ·rw[e,hwu];exact hne
     ·exact hno j oM
    ·exact wM (λk=>.key k) cu
   have hwd:wd=b:=by simpa using hc
   obtain⟨e1,e2,e3⟩:=hO2 hwd;clear hO2 hc;refine wK ?_;refine vR (eI l hs) cu ?_;refine Wp.seq ?_;refine vR (eI l hs) (aa cu w2) ?_;refine wC cu (λhc=>?_) (λhc=>?_)
   ·have h:¬ f.length=u.size:=by
     simp at hc;omega
    rw[hnil (e1 h)];refine vR (eI l hs) cu ?_;refine wZ cu ?_;exact λE=>rfl
   have hfl:f.length=u.size:=by
    simp at hc;omega
   have e2:=e2 hfl;have e3:=λx=>e3 x hfl
   clear e1 hc;refine wK ?_;refine vR (eI l hs) cu ?_;refine Wp.seq ?_;refine vR (eI l hs) cu ?_;refine Wp.block ?_
   refine Wp.loop (λp:Nat×Nat×Bool×Int×Int×Int=>⟨60,bm [(4,.is (.own 4 0)),(6,.is (.hd 19)),(9,.is (.v (.string u))),(10,.is (.own 10 0)),(11,.is (.v (.bool p.2.2.1))),(12,.is (.v (.int .i64 (p.2.1:Nat))))],aY [(4,.cells 85 [.v (.int .i64 0),.v (.int .i64 0),.v (.int .i64 0),.v (.int .i64 0)]),(10,.cells 85 [.v (.int .i64 (k:Nat)),.v (.int .i64 p.2.2.2.1),.v (.int .i64 p.2.2.2.2.1),.v (.int .i64 p.2.2.2.2.2)]),(19,.row 9 1 (f.length+1+1) ((aE (a::b::f)).map .v))]⟩) (λp=>p.2.1<=u.size/\u.size<=p.2.1+p.1/\TO u f p.1 p.2.1 p.2.2.1 p.2.2.2=TO u f u.size 0 true (0,0,0)) (λp=>p.1) (u.size,0,true,0,0,0) ?_ ⟨by dsimp only;omega,by dsimp only;omega,rfl⟩ ?_
   ·exact wM (λk=>if k=10 then .key 608 else .key k) (bQ cu hrow (show ((0:Nat):Int)=0 from rfl))
   rintro⟨m,i,fst,x0,x1,x2⟩ ⟨g1,g2,g3⟩;dsimp only at g1 g2 g3 ⊢;refine Wp.seq ?_;refine vR (eI l hs) cu ?_;refine wC cu (λhc=>?_) (λhc=>?_)
   ·have hlt:i<u.size:=by
     simp at hc;omega
    obtain⟨m,rfl⟩:∃ m',m=m' + 1:=⟨m-1,oM⟩;rw[TO,if_pos hlt]at g3;have wi:IntKind.i64.wrap ((i:Int)+1)=((i+1:Nat):Int):=wW;have wi2:IntKind.i64.wrap (2+(i:Int))=((i+2:Nat):Int):=wW;have hix:(List.map SV.v (aE (a::b::f))).getD (i+2) (.v undef)=.v (.string (f.getD i dJ)):=by
     have hi:i<f.length:=oM;rw[hrow];simp[aE,List.getElem?_eq_getElem hi]
    clear hc;refine wK ?_;refine Wp.seq (Wp.block ?_);refine wR (eI l hs) (bQ cu wi2 hix) ?_ ?_
    ·refine⟨⟨oM,oM⟩,?_⟩;rw[List.length_map,hrow];simp only[List.length_cons,aE,List.length_map];omega
    generalize f.getD i dJ=t at *;refine Wp.seq ?_;refine wR (eI l hs) cu ?_ ?_
    ·omega
    refine wC cu (λhc=>?_) (λhc=>?_)
    ·have hk7:bt u (i:Nat)=107:=by simpa using hc
     rw[if_pos hk7]at g3;clear hc;refine Wp.seq ?_;refine vR (eI l hs) cu ?_;refine wC cu (λhc=>?_) (λhc=>?_)
     ·have hts:¬ t=sB/\¬ t=vB:=by simpa [sB,vB] using hc
      rw[if_neg hts.1,if_neg hts.2]at g3;rw[hnil (e2 g3.symm)];refine vR (eI l hs) cu ?_;refine wZ cu ?_;exact λE=>rfl
     have hts:t=sB\/t=vB:=by
      by_cases h1:t=sB
      ·exact .inl h1
      ·by_cases h2:t=vB
       ·exact .inr h2
       ·have h1' : ¬ t=(⟨#[115]⟩:ByteArray):=h1;have h2' : ¬ t=(⟨#[118]⟩:ByteArray):=h2;exact absurd hc (by simp[h1',h2'])
     clear hc;refine wK ?_;by_cases hv:t=vB
     ·have hns:¬ t=sB:=by rw[hv];decide
      rw[if_neg hns,if_pos hv]at g3;refine Wp.seq ?_;refine vR (eI l hs) cu ?_;refine wC cu (λhc=>?_) (λhc=>?_)
      ·skip;refine vr (eI l hs) cu ?_;refine wE ?_;refine vr (eI l hs) (aa cu wi) ?_;refine⟨(m,i+1,fst,1,x1,x2),⟨by dsimp only;omega,by dsimp only;omega,g3⟩,by dsimp only;omega,?_⟩;exact wM (λk=>.key k) cu
      ·exact absurd hc (by rw[hv];decide)
     ·have hss:t=sB:=hts.resolve_right hv;rw[if_pos hss]at g3;refine Wp.seq ?_;refine vR (eI l hs) cu ?_;refine wC cu (λhc=>?_) (λhc=>?_)
      ·exact absurd hc (by rw[hss];decide)
      refine wK ?_;refine wE ?_;refine vr (eI l hs) (aa cu wi) ?_;refine⟨(m,i+1,fst,x0,x1,x2),⟨by dsimp only;omega,by dsimp only;omega,g3⟩,by dsimp only;omega,?_⟩;exact wM (λk=>.key k) cu
    have hk7:¬ bt u (i:Nat)=107:=by simpa using hc
    rw[if_neg hk7]at g3;clear hc;refine wK ?_;refine vR (eI l hs) cu ?_;refine Wp.seq ?_;refine vR (eI l hs) cu ?_;refine wC cu (λhc=>?_) (λhc=>?_)
    ·have ho:¬ bT t=true:=by simpa using hc
     rw[if_neg ho]at g3;rw[hnil (e2 g3.symm)];refine vR (eI l hs) cu ?_;refine wZ cu ?_;exact λE=>rfl
    have ho:bT t=true:=by simpa using hc
    rw[if_pos ho]at g3;clear hc;refine wK ?_;refine Wp.seq ?_;refine vR (eI l hs) cu ?_;refine wC cu (λhc=>?_) (λhc=>?_)
    ·have hf:fst=true:=hc;subst hf;refine vr (eI l hs) cu ?_;refine vr (eI l hs) cu ?_;refine vr (eI l hs) (aa cu wi) ?_;refine⟨(m,i+1,false,x0,iJ t,x2),⟨by dsimp only;omega,by dsimp only;omega,g3⟩,by dsimp only;omega,?_⟩;exact wM (λk=>.key k) cu
    ·have hf:fst=false:=hc;subst hf;refine vr (eI l hs) cu ?_;refine vr (eI l hs) cu ?_;refine vr (eI l hs) (aa cu wi) ?_;refine⟨(m,i+1,false,x0,x1,iJ t),⟨by dsimp only;omega,by dsimp only;omega,g3⟩,by dsimp only;omega,?_⟩;exact wM (λk=>.key k) cu
   ·have hge:u.size<=i:=by
     simp at hc;omega
    have hv:TO u f u.size 0 true (0,0,0)=some (x0,x1,x2):=by
     rw[<- g3];cases m with
     |zero=>rfl
     |succ m=>rw[TO,if_neg oM]
    rw[e3 _ hv];refine wE ?_;refine vR (eI l hs) cu ?_;refine wZ cu ?_;exact λE=>rfl
  ·have hge:21<=k:=by
    simp at hc;omega
   have hv:pr b=none:=iG _ _ λi hi=>by simp only[decide_eq_false_iff_not];exact hno i oM
   rw[hnil (hE0 hv)];refine wE ?_;refine vR (eI l hs) cu ?_;refine wZ cu ?_;exact λE=>rfl
def ad5(tk:L1):Prop:=∀ r l,(tk r l).2.pl=r.pl/\(tk r l).2.ty.length<=r.ty.length+1/\(tk r l).2.tx.length<=r.tx.length+1/\(tk r l).2.co.length<=r.co.length+1
theorem VY:ad5 fc:=λr l=>by
 unfold fc;split
 ·refine⟨rfl,?_,Nat.le_succ _,Nat.le_succ _⟩;simp
 ·exact⟨rfl,Nat.le_succ _,Nat.le_succ _,Nat.le_succ _⟩
theorem U0:ad5 eA:=λr l=>by
 unfold eA;split
 ·refine⟨rfl,Nat.le_succ _,?_,Nat.le_succ _⟩;simp
 ·exact⟨rfl,Nat.le_succ _,Nat.le_succ _,Nat.le_succ _⟩
theorem aau:ad5 fT:=λr l=>by
 unfold fT
 repeat' split
 all_goals exact⟨rfl,Nat.le_succ _,Nat.le_succ _,Nat.le_succ _⟩
theorem ad8(n:Nat)(l:ByteArray):(B5 n l).2.length<=1:=by
 unfold B5
 repeat' split
 all_goals simp
theorem Kq:ad5 gW:=λr l=>by
 refine⟨rfl,Nat.le_succ _,Nat.le_succ _,?_⟩;show (r.co++(B5 r.co.length l).2).length<=_;have:=ad8 r.co.length l;rw[List.length_append];omega
def xA(g:FuncId)(tk:L1)(hen:∀ args w,(callFunc g args).run prog w=.ok (.enter g args) w)(h:Wq g tk)(s:ByteArray)(r:Rd)(l:ByteArray):ed prog g where
 T:=112
 pre:=λW bs fs as_=>(fs=UY s r/\as_=[.val (.string l)])/\(Ni s r/\l.size<=16000000)/\fQ W (Out bs)
 out:=λW fs as_=>.ret (.bool (tk r l).1) (UY s (tk r l).2)
 enters:=hen
 ok:=by
  intro W w bs u fp us fs as_ hk ho hlt hmine hu hp;obtain⟨⟨rfl,rfl⟩,⟨h1,h2⟩,h3⟩:=hp
  match us,hu with
  |[x],hu=>
   obtain⟨rfl,_⟩:=hu;exact h s r l u fp w h1 h2 (h3.dW hk hmine) ho hlt
def zR(k:Nat)(s:ByteArray)(r:Rd):List (Nat×aT):=[(0,.cells 112 [.hd k,.hd (k+1),.hd (k+2),.v (.int .i64 r.src),.v (.int .i64 r.vw),.v (.string s),.v (.int .i64 (r.pl:Nat))]),(k,.row 9 1 r.ty.length ((aE r.ty).map .v)),(k+1,.row 9 1 r.tx.length ((aE r.tx).map .v)),(k+2,.row 50 4 r.co.length ((cn r.co).map .v))]
def Qi(g:FuncId)(tk:L1):Prop:=∀ (s:ByteArray) (r:Rd) (w:World) (fp:List Nat) (E:Nat->Value) (F:Nat->List Nat),Ni s r->fQ w (Out fp)->ai w fp E F (aY (zR 1 s r)) w ->
 Calls prog 49 (au E [.own 0 0,.fn (.func g) [.own 0 0] []]).toArray w λe w' => ∃ E' F',e=.returned (den E' (.tup []))/\(∀ k∈[0],E' k=E k)/\ai w fp E' F' (aY (zR 8 s (oJ tk s r))) w'
def rJ(g:FuncId)(tk:L1)(h:Qi g tk)(s:ByteArray)(r:Rd):mo prog 49 where
 args:=[.own 0 0,.fn (.func g) [.own 0 0] []]
 L:=zR 1 s r
 val:=.tup []
 L' := zR 8 s (oJ tk s r)
 eo:=[0]
 pre:=λW bs=>Ni s r/\fQ W (Out bs)
 low:=by simp[zR]
 kept:=by simp[zR]
 vk:=by simp[SV.keys,aw]
 lk:=by simp[zR,aT.keys,SV.keys,aw,aA,fresh]
 nd:=by simp[zR]
 enters:=call49
 ok:=by
  intro W w bs fp E F hk hm hs hp;exact h s r w fp E F hp.1 (hp.2.dW hk hm) hs
def aga:aM prog 82 where
 pre:=λW bs=>λ| [.val (.string q)]=>q.size<=16000000/\gM W (Out bs)|_=>False
 res:=λW=>λ| [.val (.string q)]=>.tuple #[.string (gV q).1,.bool (gV q).2]|_=>undef
 enters:=call82
 ok:=by
  intro W w bs us as_ hk hu hp;split at hp
  ·rename_i q
   match us,hu with
   |[u0],hu=>
    obtain⟨rfl,_⟩:=hu;exact aby q hp.1 w (hp.2.dW hk sI)
  ·exact hp.elim
theorem Xn(W:World)(q:ByteArray):aga.res W [.val (.string q)]=.tuple #[.string (gV q).1,.bool (gV q).2]:=rfl
theorem WW(W:World)(bs:List Nat)(q:ByteArray):aga.pre W bs [.val (.string q)]=(q.size<=16000000/\gM W (Out bs)):=rfl
noncomputable def FG:Env prog:=⟨λ| 80=>some C3.spec|82=>some aga.spec|_=>none,λ| _=>none,λ_ _=>none⟩
theorem agL:FG.sp 80=some C3.spec:=rfl
theorem ae9:FG.sp 82=some aga.spec:=rfl
def xN:=(aj @List.replicate_succ.{0} @List.replicate_zero.{0} @an @ab jo jl BH (aj BJ BG cf cj cd ck dc (aj dh cZ db c8 dd sk ss (aj se rO zy zK zP Bc A3 (aj Bu AF Bs An vC u5 pw (aj pU pY po pD oX pQ pf (aj qf pW pc ql @aG @al @ay (aj @ax @UY.eq_1 Xn WW agL ae9 @Cq @C8))))))))
theorem QD:Wq 51 eA:=by
 intro s r l u fp w hr hl ha ho hlt;obtain⟨⟨n1,n2,n3⟩,n4,n5⟩:=hr;have hc1:=Eg l fR;have hT:(⟨#[116,101,120,116,32]⟩:ByteArray)=fR:=rfl;refine bh (nt:=37) #[.string l] [.tmp 4] (by show 7<=7;omega) ho hlt func51 rfl rfl rfl ?_;refine vR FG xN ?_;refine vR FG (aa xN hT) ?_;refine wR FG xN ?_ ?_
 ·exact⟨oM,ha.2.2⟩
 refine Wp.seq ?_;refine vR FG xN ?_;refine wC xN (λhc=>?_) (λhc=>?_)
 ·have h:Cj l=false:=by
   unfold Cj;revert hc;generalize oP l fR=a;generalize (gV (eu l fR)).2=b;cases a<;>cases b<;>simp
  have e:eA r l=(false,r):=by unfold eA;rw[if_neg (by simp[h])]
  rw[e];refine vR FG xN ?_;refine wZ xN ?_;exact⟨_,_,rfl,λE=>rfl,_,_,rfl,(ev (aa xN @aB)),dE⟩
 ·have h:Cj l=true:=by
   unfold Cj;revert hc;generalize oP l fR=a;generalize (gV (eu l fR)).2=b;cases a<;>cases b<;>simp
  have e:eA r l=(true,{ r with tx:=r.tx++[(gV (eu l fR)).1] }):=by unfold eA;rw[if_pos h]
  have e1:=mW r.tx (gV (eu l fR)).1;have e2:(r.tx++[(gV (eu l fR)).1]).length=r.tx.length+1:=by rw[List.length_append];rfl
  rw[e];refine wK ?_;refine wR FG (aa xN e1) ?_ ?_
  ·exact⟨by unfold maxLen;omega,oM⟩
  refine vR FG xN ?_;refine wZ xN ?_;exact⟨_,_,rfl,λE=>rfl,_,_,rfl,(ev (bQ xN @aB e2)),dE⟩
section
variable (s:ByteArray)(r:Rd)(l:ByteArray)
noncomputable def IM:Env prog:=⟨λ| 79=>some (oz s r).spec|50=>some (xA 50 fc call50 OC s r l).spec|_=>none,λ_=>none,λ_ _=>none⟩
theorem aeo:(IM s r l).sp 79=some (oz s r).spec:=rfl
theorem aez:(IM s r l).sp 50=some (xA 50 fc call50 OC s r l).spec:=rfl
end
def q9:=(aj @List.replicate_succ.{0} @List.replicate_zero.{0} @an @ab jo jl gS (aj ca cc b9 cg cf cj cd (aj ck dc dh cZ db c8 dd (aj FB Fh Ef vC u5 pw pU (aj pY po pD oX pQ pf qf (aj pW pc ql @aG @al @ay @ax (aj @zR.eq_1 @UY.eq_1 @jV.eq_1 @jV.eq_2 @aB @gF @fY (eT @aeo @aez @oz.eq_1 @xA.eq_1))))))))
theorem AH:Qi 50 fc:=by
 intro s r w fp E F hr ha hs;refine ix (nt:=29) [] hs ?_ ?_ func49 rfl rfl rfl ?_
 ·simp[pH,jV,zR,FV.keys,SV.keys,aw,aT.keys,aA]
 ·simp
 refine Wp.block ?_;refine Wp.loop (λr' : Rd=>⟨10,bm [(0,.is (.own 0 0)),(1,.is (.fn (.func 50) [.own 0 0] []))],aY (zR 1 s r')⟩) (λr' => Ni s r' /\ oJ fc s r' = oJ fc s r) (λr' => s.size-r'.pl) r ?_ ⟨hr,rfl⟩ ?_
 ·simp only[zR];exact wM (λk=>.key k) q9
 rintro r' ⟨hb,hg⟩;have hb' := hb;obtain⟨⟨n1,n2,n3⟩,n4,n5⟩:=hb;have hle:=jR n4;have hst:=eg fc s r';refine Wp.block ?_;by_cases he:bL s r'.pl<s.size
 ·have hlin:l8 s r'.pl=.tuple #[.string (dt s r'.pl),.bool true]:=by rw[l8,if_pos he]
  have hlz:(dt s r'.pl).size=bL s r'.pl-r'.pl:=dD _ _ _ hle.2;obtain⟨q1,q2,q3,q4⟩:=VY r' (dt s r'.pl);rw[if_pos he]at hst;generalize hl:dt s r'.pl=l at *;cases ht:fc r' l with
  | mk b r2=>
   rw[ht]at hst q1 q2 q3 q4;simp only at q1 q2 q3 q4;refine wR (IM s r' l) (aa q9 hlin) ?_ ?_
   ·exact⟨dE,n4,oM⟩
   cases b with
   | false=>
    rw[if_neg sI]at hst;refine Wp.seq ?_;refine wR (IM s r' l) (aa q9 ht) ?_ ?_
    ·exact⟨⟨⟨hb',oM⟩,ha⟩,dE,sI⟩
    refine wC q9 (λhc=>?_) (λhc=>?_)
    ·refine wZ q9 ?_;rw[<- hg,hst];exact wN (λk=>if k=8 then .key 176 else if k=9 then .key 177 else if k=10 then .key 178 else .key k) q9
    ·exact absurd hc sI
   |true=>
    rw[if_pos rfl]at hst;have wz:IntKind.i64.wrap ((l.size:Int)+1)=((l.size+1:Nat):Int):=wW;have wa:IntKind.i64.wrap ((r2.pl:Int)+((l.size+1:Nat):Int))=((bL s r'.pl+1:Nat):Int):=wW;refine Wp.seq ?_;refine wR (IM s r' l) (aa q9 ht) ?_ ?_
    ·exact⟨⟨⟨hb',oM⟩,ha⟩,dE,sI⟩
    refine wC q9 (λhc=>?_) (λhc=>?_)
    ·exact absurd hc sI
    refine wK ?_;refine vr (IM s r' l) (bQ q9 wz wa) ?_;refine⟨{ r2 with pl:=bL s r'.pl+1 },⟨⟨⟨by dsimp only;omega,by dsimp only;omega,by dsimp only;omega⟩,by dsimp only;omega,n5⟩,by rw[<- hst];exact hg⟩,by dsimp only;omega,?_⟩;simp only[zR]
    exact wM (λk=>if k=1 then .key 176 else if k=2 then .key 177 else if k=3 then .key 178 else .key k) q9
 ·have hlin:l8 s r'.pl=.tuple #[.string ⟨#[]⟩,.bool false]:=by rw[l8,if_neg he]
  rw[if_neg he]at hst;refine wR (IM s r' dJ) (aa q9 hlin) ?_ ?_
  ·exact⟨dE,n4,oM⟩
  refine Wp.seq ?_;refine wR (IM s r' dJ) q9 ?_ ?_
  ·exact λh=>by cases h
  refine wC q9 (λhc=>?_) (λhc=>?_)
  ·refine wZ q9 ?_;rw[<- hg,hst];exact wN (λk=>if k=8 then .key 1 else if k=9 then .key 2 else if k=10 then .key 3 else .key k) q9
  ·exact absurd hc sI
section
variable (s:ByteArray)(r:Rd)(l:ByteArray)
noncomputable def Gy:Env prog:=⟨λ| 79=>some (oz s r).spec|51=>some (xA 51 eA call51 QD s r l).spec|_=>none,λ_=>none,λ_ _=>none⟩
theorem ahh:(Gy s r l).sp 79=some (oz s r).spec:=rfl
theorem afL:(Gy s r l).sp 51=some (xA 51 eA call51 QD s r l).spec:=rfl
end
def rW:=(oy q9 @ahh @afL @oz.eq_1 @xA.eq_1)
theorem yP:Qi 51 eA:=by
 intro s r w fp E F hr ha hs;refine ix (nt:=29) [] hs ?_ ?_ func49 rfl rfl rfl ?_
 ·simp[pH,jV,zR,FV.keys,SV.keys,aw,aT.keys,aA]
 ·simp
 refine Wp.block ?_;refine Wp.loop (λr' : Rd=>⟨10,bm [(0,.is (.own 0 0)),(1,.is (.fn (.func 51) [.own 0 0] []))],aY (zR 1 s r')⟩) (λr' => Ni s r' /\ oJ eA s r' = oJ eA s r) (λr' => s.size-r'.pl) r ?_ ⟨hr,rfl⟩ ?_
 ·simp only[zR];exact wM (λk=>.key k) rW
 rintro r' ⟨hb,hg⟩;have hb' := hb;obtain⟨⟨n1,n2,n3⟩,n4,n5⟩:=hb;have hle:=jR n4;have hst:=eg eA s r';refine Wp.block ?_;by_cases he:bL s r'.pl<s.size
 ·have hlin:l8 s r'.pl=.tuple #[.string (dt s r'.pl),.bool true]:=by rw[l8,if_pos he]
  have hlz:(dt s r'.pl).size=bL s r'.pl-r'.pl:=dD _ _ _ hle.2;obtain⟨q1,q2,q3,q4⟩:=U0 r' (dt s r'.pl);rw[if_pos he]at hst;generalize hl:dt s r'.pl=l at *;cases ht:eA r' l with
  | mk b r2=>
   rw[ht]at hst q1 q2 q3 q4;simp only at q1 q2 q3 q4;refine wR (Gy s r' l) (aa rW hlin) ?_ ?_
   ·exact⟨dE,n4,oM⟩
   cases b with
   | false=>
    rw[if_neg sI]at hst;refine Wp.seq ?_;refine wR (Gy s r' l) (aa rW ht) ?_ ?_
    ·exact⟨⟨⟨hb',oM⟩,ha⟩,dE,sI⟩
    refine wC rW (λhc=>?_) (λhc=>?_)
    ·refine wZ rW ?_;rw[<- hg,hst];exact wN (λk=>if k=8 then .key 176 else if k=9 then .key 177 else if k=10 then .key 178 else .key k) rW
    ·exact absurd hc sI
   |true=>
    rw[if_pos rfl]at hst;have wz:IntKind.i64.wrap ((l.size:Int)+1)=((l.size+1:Nat):Int):=wW;have wa:IntKind.i64.wrap ((r2.pl:Int)+((l.size+1:Nat):Int))=((bL s r'.pl+1:Nat):Int):=wW;refine Wp.seq ?_;refine wR (Gy s r' l) (aa rW ht) ?_ ?_
    ·exact⟨⟨⟨hb',oM⟩,ha⟩,dE,sI⟩
    refine wC rW (λhc=>?_) (λhc=>?_)
    ·exact absurd hc sI
    refine wK ?_;refine vr (Gy s r' l) (bQ rW wz wa) ?_;refine⟨{ r2 with pl:=bL s r'.pl+1 },⟨⟨⟨by dsimp only;omega,by dsimp only;omega,by dsimp only;omega⟩,by dsimp only;omega,n5⟩,by rw[<- hst];exact hg⟩,by dsimp only;omega,?_⟩;simp only[zR]
    exact wM (λk=>if k=1 then .key 176 else if k=2 then .key 177 else if k=3 then .key 178 else .key k) rW
 ·have hlin:l8 s r'.pl=.tuple #[.string ⟨#[]⟩,.bool false]:=by rw[l8,if_neg he]
  rw[if_neg he]at hst;refine wR (Gy s r' dJ) (aa rW hlin) ?_ ?_
  ·exact⟨dE,n4,oM⟩
  refine Wp.seq ?_;refine wR (Gy s r' dJ) rW ?_ ?_
  ·exact λh=>by cases h
  refine wC rW (λhc=>?_) (λhc=>?_)
  ·refine wZ rW ?_;rw[<- hg,hst];exact wN (λk=>if k=8 then .key 1 else if k=9 then .key 2 else if k=10 then .key 3 else .key k) rW
  ·exact absurd hc sI
theorem GN{α β:Type}(g:α->List β)(hg:∀ a,(g a).length=4):∀ (l:List α) (i m:Nat),m<4->(l.flatMap g)[4*i+m]?=(l[i]?).bind λa=>(g a)[m]?
 |[],i,m,_=>by simp
 |a::l,0,m,hm=>by
  rw[List.flatMap_cons,Nat.mul_zero,Nat.zero_add,List.getElem?_append_left (by rw[hg];exact hm)];rfl
 |a::l,i+1,m,hm=>by
  rw[List.flatMap_cons,List.getElem?_append_right (by rw[hg];omega),hg,show 4*(i+1)+m-4=4*i+m by omega,GN g hg l i m hm];rfl
theorem CJ{α β:Type}(g:α->List β)(hg:∀ a,(g a).length=4):∀ (l:List α) (i:Nat) (h:i<l.length),((l.flatMap g).drop (i*4)).take 4=g l[i]
 |a::l,0,_=>by
  rw[List.flatMap_cons,Nat.zero_mul,List.drop_zero,List.take_append_of_le_length (by rw[hg];exact Nat.le_refl _),List.take_of_length_le (by rw[hg];exact Nat.le_refl _)];rfl
 |a::l,i+1,h=>by
  have ih:=CJ g hg l i (by simpa using h);rw[List.flatMap_cons,show (i+1)*4=4+i*4 by omega,<- List.drop_drop,List.drop_append_of_le_length (by rw[hg];exact Nat.le_refl _),show (g a).drop 4=[] from List.drop_of_length_le (by rw[hg];exact Nat.le_refl _),List.nil_append];exact ih
def Ud(n:Nat):List Value:=[.string (gq n).1,.bool (gq n).2.1,.int .i64 (gq n).2.2.1,.int .i64 (gq n).2.2.2]
def rq:List Value:=(List.range 21).flatMap Ud
theorem vH:rq.length=84:=rfl
theorem Vd:(List.map SV.v rq).length=84:=rfl
theorem Tj{k:Nat}(hk:k<21):((List.map SV.v rq).drop (k*4)).take 4=(Ud k).map .v:=by
 unfold rq;rw[<- List.map_drop,<- List.map_take,CJ Ud (λ_=>rfl) (List.range 21) k (by simpa using hk)];rw[List.getElem_range]
theorem TL{W:World}{S:Nat->Prop}(h:fS W S):bW W 0 0 84=List.map SV.v rq/\dK W 0 0 84=True:=by
 have key:=vE (w:=W) (b:=0) rq 0 λj hj=>by
  rw[vH]at hj;obtain⟨h0,h1,h2,h3⟩:=h.2 (j / 4) oM;have hg:=GN Ud (λ_=>rfl) (List.range 21) (j / 4) (j % 4) oM;rw[show 4*(j / 4)+j % 4=j by omega]at hg;have hr:(List.range 21)[j / 4]?=some (j / 4):=by rw[List.getElem?_range oM]
  rw[hr,Option.bind_some]at hg;have hv:rq[j]?=some (rq[j]'(by rw[vH];exact hj)):=List.getElem?_eq_getElem _;have hv' : rq[j]?=(Ud (j / 4))[j % 4]?:=hg;rw[hv']at hv;rw[Nat.zero_add];have hm:j % 4=0\/j % 4=1\/j % 4=2\/j % 4=3:=oM;rcases hm with hm|hm|hm|hm
  ·rw[hm]at hv;rw[<- Option.some.inj hv];have e:j=j / 4*4:=oM
   conv=>lhs;rw[e]
   exact h0
  ·rw[hm]at hv;rw[<- Option.some.inj hv];have e:j=j / 4*4+1:=oM
   conv=>lhs;rw[e]
   exact h1
  ·rw[hm]at hv;rw[<- Option.some.inj hv];have e:j=j / 4*4+2:=oM
   conv=>lhs;rw[e]
   exact h2
  ·rw[hm]at hv;rw[<- Option.some.inj hv];have e:j=j / 4*4+3:=oM
   conv=>lhs;rw[e]
   exact h3
 rw[vH]at key;exact⟨key.1,eq_true key.2⟩
theorem CZ{W:World}{bs:List Nat}{ao:Option Addr}{t:ByteArray}{r:List ByteArray}(h:gJ W (Out bs) ao (aE (t::r))):∃ b o,ao=some ⟨b,o,none⟩/\b∉bs/\W.cell? ⟨b,o,none⟩=some (.string t):=by
 rcases h with h|⟨b,o,rfl,hc⟩
 ·cases h
 ·obtain⟨h1,h2⟩:=hc 0 (by simp[aE]);exact⟨b,o,rfl,h1,h2⟩
theorem ZP{W:World}{bs:List Nat}{ao:Option Addr}{f:List ByteArray}{a c:Nat}(h:gJ W (Out bs) ao (aE f))(hc:f.length<=c)(ha:a<=f.length):gJ W (Out bs) (qd ao a 1 c) (aE (f.drop a)):=by
 have:=h.at (a:=a) (sz:=1) (c:=c) (n:=f.length) (by simp[aE]) hc ha;rw[Nat.mul_one]at this;have e:(aE f).drop a=aE (f.drop a):=by simp[aE,List.map_drop]
 rw[e]at this;exact this
theorem JW(l:List (Int×Int×Int×Int))(x y z u:Int):List.map SV.v (cn l)++[.v (.int .i64 x),.v (.int .i64 y),.v (.int .i64 z),.v (.int .i64 u)]=List.map SV.v (cn (l++[(x,y,z,u)])):=by
 unfold cn;rw[List.flatMap_append,List.map_append];rfl
def svS:ByteArray:=⟨#[115,118]⟩
def O3:aM prog 85 where
 pre:=λW bs as_=>∃ t,as_=[.val (.string svS),.val (.string t)]/\(t=sB\/t=vB)/\gM W (Out bs)
 res:=λW as_=>match as_ with
  |[_,.val (.string t)]=>.int .i64 (if t=sB then 0 else 1)
  |_=>undef
 enters:=call85
 ok:=by
  intro W w bs us as_ hk hu hp;obtain⟨t,rfl,ht,hl⟩:=hp
  match us,hu with
  | [x,y],hu=>
   obtain⟨rfl,rfl,_⟩:=hu;obtain⟨m,hm⟩:=(hl.dW hk (fp:=[]) sI).1.2;refine (Any.strings_Index Tryz.ags svS t m w dE hm).mono λe w' ⟨he,hw⟩=>⟨?_,by rw[hw];exact LE.ah.refl _ _⟩
   rw[he];rcases ht with rfl|rfl
   ·have:Lib.index svS.data.toList sB.data.toList=0:=by decide +kernel
    rw[this];rfl
   ·have:Lib.index svS.data.toList vB.data.toList=1:=by decide +kernel
    rw[this];rfl
theorem Rv(W:World)(t:ByteArray):O3.res W [.val (.string svS),.val (.string t)]=.int .i64 (if t=sB then 0 else 1):=rfl
theorem Q7(W:World)(bs:List Nat)(t:ByteArray):O3.pre W bs [.val (.string svS),.val (.string t)]=((t=sB\/t=vB)/\gM W (Out bs)):=
 propext ⟨λ⟨t',h,h2⟩=>by
  cases h
  exact h2,λh=>⟨t,rfl,h⟩⟩
theorem agG{t:ByteArray}{k:Nat}(hk:k<21)(hno:∀ j<k,¬ (gq j).1=t)(h:(gq k).1=t):V5 t=some k:=lh _ 21 k hk (λj hj=>by simpa using hno j hj) (by simpa using h)
theorem ad4{t:ByteArray}(hno:∀ j<21,¬ (gq j).1=t):V5 t=none:=vb λi _ hi=>by simpa using hno i oM
def MW(W:World)(bs:List Nat)(ao:Option Addr)(f:List ByteArray):Prop:=∃ b o t,ao=some ⟨b,o,none⟩/\b∉bs/\W.cell? ⟨b,o,none⟩=some (.string t)/\(∀ x r,f=x::r->t=x)/\gJ W (Out bs) ao (aE f)
theorem MW.rest{W:World}{bs:List Nat}{ao:Option Addr}{f:List ByteArray}{a:Nat}(h:MW W bs ao f)(ha:a<=f.length):MW W bs (qd ao a 1 f.length) (f.drop a):=by
 obtain⟨b,o,t,rfl,h1,h2,h3,h4⟩:=h;have h5:=ZP h4 (Nat.le_refl _) ha;by_cases he:f.length=a
 ·have hd:f.drop a=[]:=List.drop_of_length_le oM;rw[hd]at h5 ⊢;have hs:qd (some ⟨b,o,none⟩) a 1 f.length=some ⟨b,o,none⟩:=by unfold qd;rw[if_pos he]
  rw[hs]at h5 ⊢;exact⟨b,o,t,rfl,h1,h2,(λx r hx=>by cases hx),h5⟩
 ·have hs:qd (some ⟨b,o,none⟩) a 1 f.length=some ⟨b,o+a,none⟩:=by unfold qd;rw[if_neg he];simp[Addr.add]
  rw[hs]at h5 ⊢;have hlt:a<f.length:=oM;have hd:f.drop a=f[a]::f.drop (a+1):=List.drop_eq_getElem_cons hlt;rw[hd]at h5 ⊢;obtain⟨b',o',hb,g1,g2⟩:=CZ h5;cases hb;exact⟨b,o+a,f[a],rfl,h1,g2,(λx r hx=>by cases hx;rfl),h5⟩
def alc(s:ByteArray):FK:=⟨λcs W S=>∃ b,cs=[.slice (some ⟨b,0,none⟩) (iq s).length (iq s).length]/\gJ W S (some ⟨b,0,none⟩) (aE (iq s)),λhs ⟨b,h1,h2⟩=>⟨b,h1,h2.mono hs⟩⟩
theorem L4(w:World)(cs:Array Value)(T:TypeId)(j:Nat)(v:Value)(h:cs[j]?=some v):(w.alloc (.cells cs T)).cell? ⟨w.heap.size,j,none⟩=some v:=by
 have hh:(w.alloc (.cells cs T)).heap[w.heap.size]?=some (.cells cs T):=heap_alloc_new w (.cells cs T);simp only[World.cell?,hh];simpa using h
theorem MF(s:ByteArray)(hs:s.size<4294967281)(w:World)(S:Nat->Prop)(hl:gM w S):Calls prog 83 #[.string s,.string ⟨#[32]⟩] w λe w' => rA w S e w' (.fact Sh.one (alc s)):=by
 obtain⟨m,hm⟩:=hl.1.2;refine (Any.strings_Split Tryz.OE (by kernel_rfl) s ⟨#[32]⟩ m w hs hm dE).mono λe w' ⟨he,hw⟩=>?_
 subst hw;refine⟨[.slice (some ⟨w.heap.size,0,none⟩) (iq s).length (iq s).length],?_,⟨w.heap.size,rfl,.inr ⟨w.heap.size,0,rfl,λj hj=>⟨λhlt=>absurd hlt oM,?_⟩⟩⟩,ke w _⟩
 ·rw[lW];exact he
 ·rw[Nat.zero_add];refine L4 w _ 9 j _ ?_;rw[List.getElem?_toArray];exact List.getElem?_eq_getElem hj
def aj6(s:ByteArray)(hs:s.size<4294967281):rr prog 83 where
 kinds:=[none,none]
 pre:=λas_ W S=>as_=[.val (.string s),.val (.string ⟨#[32]⟩)]/\gM W S
 premono:=λas_ W S W' S' hs h=>⟨h.1,h.2.mono hs⟩
 out:=λ_=>.fact Sh.one (alc s)
 enters:=call83
 ok:=by
  intro w S us as_ hg hp;obtain⟨rfl,h1⟩:=hp
  match us,hg with
  |[x,y],hg=>
   obtain⟨rfl,rfl,_⟩:=hg;exact MF s hs w S h1
noncomputable def dr(s:ByteArray)(hs:s.size<4294967281):Env prog:=⟨λ| 83=>some ((aj6 s hs).spec (λ_=>True))|84=>some Cr.spec|39=>some w8.spec|85=>some O3.spec|_=>none,λ_=>none,λ_ _=>none⟩
theorem abt(s:ByteArray)(hs:s.size<4294967281):(dr s hs).sp 83=some ((aj6 s hs).spec (λ_=>True)):=rfl
theorem ae2(s:ByteArray)(hs:s.size<4294967281):(dr s hs).sp 84=some Cr.spec:=rfl
theorem afD(s:ByteArray)(hs:s.size<4294967281):(dr s hs).sp 39=some w8.spec:=rfl
theorem acN(s:ByteArray)(hs:s.size<4294967281):(dr s hs).sp 85=some O3.spec:=rfl
def a7:=(aj @List.replicate_succ.{0} @List.replicate_zero.{0} @an @ab jo jl BH (aj BJ BG ty5 ty6 ty7 ty8 gS (aj ca cc b9 cg cf cj cd (aj ck dc dh cZ db c8 dd (aj sk ss se rO Jq GS Hl (aj Hc zy zK zP Bc A3 Bu (aj AF Bs An B4 B9 B3 BM (aj B2 BN Cl Ce ry D8 EJ (aj pw pU pY po pD oX pQ (aj pf qf pW pc ql Kh H9 (aj Ka Ic VR Yt ZI W6 WC (aj aab XW XK V4 X4 Wd ajX (aj aj3 aiV ajs ajv aiO ajT aih (aj ajn ajH aio ajC aiS air aiB (aj ai5 @aG @al @ay @ax @ig @UY.eq_1 (aj @aB @Sh.one.eq_1 @abt @ae2 @afD @acN @aj6.eq_1 (mh @C0 @Cx @qV @qB @Rv @Q7)))))))))))))))))
theorem Qv:Wq 54 gW:=by
 intro s r l u fp w hr hl ha ho hlt;have hs4:l.size<4294967281:=oM;obtain⟨⟨n1,n2,n3⟩,n4,n5⟩:=hr;have ffail:∀ {b},B5 r.co.length l=(b,[])->gW r l=(b,r):=λh=>by
  unfold gW;rw[h];simp
 refine bh (nt:=122) #[.string l] [.tmp 4] (by show 7<=7;omega) ho hlt func54 rfl rfl rfl ?_;refine vR (dr l hs4) a7 ?_;refine wR (dr l hs4) a7 ?_ ?_
 ·exact⟨ha.2.2.mono λb _ h=>⟨rfl,trivial,h⟩,Up.true _ _⟩
 refine Wp.ji 24 (ev a7) (cT.refl _ _) λW1 bs1 cs hx hΦ=>?_
 obtain⟨b0,rfl,hF⟩:=hΦ;have hF:gJ W1 (Out bs1) (some ⟨b0,0,none⟩) (aE (iq l)):=hF.out λb hb=>hb.2
 have ha1:fQ W1 (Out bs1):=ha.mono hx.lA;have hsz:=HB l;have hln:=lW l;cases hs:iq l with
 |nil=>rw[hs]at hln;simp at hln
 | cons a f0=>
  rw[hs]at hF hsz;obtain⟨b0',o0,hb0,hnb,x0⟩:=CZ hF;cases hb0;have za:=hsz a sI;have hPS:MW W1 bs1 (some ⟨b0,0,none⟩) (a::f0):=⟨b0,0,a,rfl,hnb,x0,(λx r hx=>by cases hx;rfl),hF⟩;cases f0 with
  | nil=>
   have hE:B5 r.co.length l=(false,[]):=by unfold B5;rw[hs]
   rw[ffail hE];refine Wp.seq ?_;refine kO (dr l hs4) (bQ a7 hs x0) ?_ ?_
   ·exact⟨⟨_,rfl⟩,λh=>by simp,λ_=>hnb,λ_=>⟨_,rfl⟩,λ_=>⟨⟨oM,oM⟩,ha1.2.1⟩⟩
   refine wC a7 (λhc=>?_) (λhc=>?_)
   ·skip;refine vR (dr l hs4) a7 ?_;refine wZ a7 ?_;exact⟨_,_,rfl,λE=>rfl,_,_,rfl,(ev a7),dE⟩
   ·exact absurd hc sI
  | cons b f=>
   have hP2:=hPS.rest (a:=2) sI;simp only[List.drop_succ_cons,List.drop_zero,List.length_cons]at hP2;have x1:W1.cell? ⟨b0,1,none⟩=some (.string b):=by
    rcases hF with h|⟨b',o',h,hc⟩
    ·cases h
    ·cases h;exact (hc 1 (by simp[aE])).2
   refine Wp.seq ?_;refine kO (dr l hs4) (bQ a7 hs x0) ?_ ?_
   ·exact⟨⟨_,rfl⟩,λh=>by omega,λ_=>hnb,λ_=>⟨_,rfl⟩,λ_=>⟨⟨oM,oM⟩,ha1.2.1⟩⟩
   refine wC a7 (λhc=>?_) (λhc=>?_)
   ·have hne:¬ a=fZ (r.co.length:Nat):=by
     simp at hc;rcases hc with hc|hc
     ·omega
     ·exact hc
    have hE:B5 r.co.length l=(false,[]):=by unfold B5;rw[hs];simp only;rw[if_neg hne]
    rw[ffail hE];refine vR (dr l hs4) a7 ?_;refine wZ a7 ?_;exact⟨_,_,rfl,λE=>rfl,_,_,rfl,(ev a7),dE⟩
   have heq:a=fZ (r.co.length:Nat):=by
    simp at hc;exact hc.2
   obtain⟨hX,hY⟩:=TL ha1.1.1;refine wK ?_;refine Wp.seq ?_
   refine Wp.o9 (dr l hs4) b8 (by simp only[jD,Op.operands,Value.cells,σ0,σB,Nat.reduceEqDiff,Nat.reduceAdd,Nat.reduceMul,Nat.reduceLT,Nat.reduceLeDiff,Nat.reduceBEq,av,Int.reduceToNat,Int.reduceLT,Int.reduceLE,Nat.reduceDiv,Nat.reduceMod,Nat.reduceSub,Int.reducePow,Nat.reducePow,σP,σB3,a7,↓hX,↓hY];exact rfl) rfl ?_ ?_
   ·exact ha1.1.1.1
   refine Wp.block ?_
   refine Wp.loop (λk:Nat=>⟨60,bm [(0,.is (.own 0 0)),(5,.is (.v (.slice (some ⟨b0,0,none⟩) (f.length+1+1) (f.length+1+1)))),(31,.is (.agg (List.map SV.v rq))),(32,.is (.v (.int .i64 (k:Nat))))],aY [(0,.cells 112 [.hd 1,.hd 2,.hd 3,.v (.int .i64 r.src),.v (.int .i64 r.vw),.v (.string s),.v (.int .i64 (r.pl:Nat))]),(1,.row 9 1 r.ty.length ((aE r.ty).map .v)),(2,.row 9 1 r.tx.length ((aE r.tx).map .v)),(3,.row 50 4 r.co.length ((cn r.co).map .v))]⟩) (λk=>k<=21/\∀ j<k,¬ (gq j).1=b) (λk=>21-k) 0 ?_ ⟨oM,λj hj=>by omega⟩ ?_
   ·exact wM (λk=>.key k) a7 (hk:=⟨by simp[FV.keys,SV.keys,aw,aA],by simp[aT.keys,aw,SV.keys,aA,aQ]⟩)
   rintro k ⟨hk,hno⟩;refine vR (dr l hs4) a7 ?_;refine Wp.seq ?_;refine wC a7 (λhc=>?_) (λhc=>?_)
   ·have hlt:k<21:=by
     simp at hc;omega
    have wk:IntKind.i64.wrap ((k:Int)+1)=((k+1:Nat):Int):=wW;have hP:=Tj hlt;simp only[Ud,List.map_cons,List.map_nil]at hP;have hE0:(gq k).1=b->B5 r.co.length l=match cdX k f with
      |none=>(false,[])
      |some (x,f')=>(f'.isEmpty,[x]):=λh=>by
     unfold B5;rw[hs];simp only;rw[if_pos heq,agG hlt hno h];rfl
    have hXAB:=aav k f;have hab:=(yi k hlt).2.1;generalize hsp:gq k=sp at *;obtain⟨wd,st,ua,ub⟩:=sp;simp only at hP hE0 hXAB hab;refine wK ?_;refine Wp.seq (Wp.block ?_);refine wR (dr l hs4) (bQ a7 @Vd hP) ?_ ?_
    ·omega
    refine Wp.seq ?_;refine kO (dr l hs4) (aa a7 x1) ?_ ?_
    ·exact⟨oM,hnb⟩
    refine wC a7 (λhc=>?_) (λhc=>?_)
    ·have hne:¬ wd=b:=by simpa using hc
     refine wE ?_;refine vr (dr l hs4) (aa a7 wk) ?_;refine⟨k+1,⟨oM,λj hj=>?_⟩,oM,?_⟩
     ·by_cases e:j=k
      ·rw[e,hsp];exact hne
      ·exact hno j oM
     ·exact wM (λk=>.key k) a7 (hk:=⟨by simp[FV.keys,SV.keys,aw,aA],by simp[aT.keys,aw,SV.keys,aA,aQ]⟩)
    have hwd:wd=b:=by simpa using hc
    have hE:=hE0 hwd;rw[hXAB]at hE;clear hE0 hXAB hno hP;refine wK ?_;refine vR (dr l hs4) a7 ?_;have hsz:∀ x∈f,x.size<=16000000:=λx hx=>Nat.le_trans (hsz x (by simp[hx])) hl
    have hl2:f.length+1+1-2=f.length:=oM;refine wR (dr l hs4) (aa a7 hl2) ?_ ?_
    ·omega
    generalize qd (some ⟨b0,0,none⟩) 2 1 (f.length+1+1)=ao2 at *
    refine Wp.Ix (σ' := ⟨100,bm [(0,.is (.own 0 0)),(5,.is (.v (.slice ao2 f.length f.length))),(7,.is (.own 24 0)),(8,.is (.own 16 0))],aY [(0,.cells 112 [.hd 1,.hd 2,.hd 3,.v (.int .i64 r.src),.v (.int .i64 r.vw),.v (.string s),.v (.int .i64 (r.pl:Nat))]),(1,.row 9 1 r.ty.length ((aE r.ty).map .v)),(2,.row 9 1 r.tx.length ((aE r.tx).map .v)),(3,.row 50 4 r.co.length ((cn r.co).map .v)),(16,.cells 50 [.v (.int .i64 (k:Nat)),.v (.int .i64 0),.v (.int .i64 0),.v (.int .i64 0)]),(24,.cells 160 [.v (.string wd),.v (.bool st),.v (.int .i64 ua),.v (.int .i64 ub)])]⟩) ?_ ?_
    ·exact wM (λk=>if k=16 then .key 592 else if k=24 then .key 504 else .key k) a7
    clear hPS x0 x1 hF;cases hK:cdK st f with
    | none=>
     rw[hK]at hE;rw[ffail hE];have hst:st=true:=by
      cases st with
      |false=>unfold cdK at hK;rw[if_neg sI]at hK;cases hK
      |true=>rfl
     subst hst;unfold cdK at hK;rw[if_pos rfl]at hK;obtain⟨b2,o2,t2,rfl,hn2,y2,y3,hF2⟩:=hP2;have hcond:f.length=0\/(¬ t2=sB/\¬ t2=vB):=by
      cases f with
      |nil=>left;rfl
      | cons x q=>
       right;obtain rfl:=y3 x q rfl;simp only at hK;refine⟨λe=>?_,λe=>?_⟩
       ·rw[if_pos e]at hK;cases hK
       ·by_cases e1:t2=sB
        ·rw[if_pos e1]at hK;cases hK
        ·rw[if_neg e1,if_pos e]at hK;cases hK
     refine Wp.seq ?_;refine vR (dr l hs4) a7 ?_;refine wC a7 (λhc=>?_) (λhc=>?_)
     ·refine Wp.seq ?_;refine wR (dr l hs4) (aa a7 y2) ?_ ?_
      ·exact ⟨⟨_, rfl⟩, (fun h => by rcases Nat.eq_zero_or_pos f.length with h0|h0;· simp[h0]at h
                                     ·omega), fun _ => hn2, (fun h => by rcases Nat.eq_zero_or_pos f.length with h0|h0;· simp[h0]at h
                                                                         ·omega),λ_=>hn2⟩
      refine wC a7 (λhc=>?_) (λhc=>?_)
      ·skip;refine vR (dr l hs4) a7 ?_;refine wZ a7 ?_;exact⟨_,_,rfl,λE=>rfl,_,_,rfl,(ev a7),dE⟩
      ·exfalso;have e1:(⟨#[115]⟩:ByteArray)=sB:=rfl;have e2:(⟨#[118]⟩:ByteArray)=vB:=rfl;rw[e1,e2]at hc;rcases hcond with h|⟨h1,h2⟩
       ·simp[h]at hc
       ·simp[h1,h2]at hc
     ·exact absurd hc sI
    | some q=>
     obtain⟨K,f1⟩:=q;rw[hK]at hE;simp only at hE;have hF1:(∀ x∈f1,x.size<=16000000)/\∃ ao1,MW W1 bs1 ao1 f1/\(st=false->f1=f/\K=0/\ao1=ao2)/\(st=true->∃ t,f=t::f1/\((t=sB/\K=0)\/(t=vB/\¬ t=sB/\K=1))/\ao1=qd ao2 1 1 f.length):=by
      cases st with
      |false=>
       unfold cdK at hK;rw[if_neg sI]at hK;cases hK;exact⟨hsz,ao2,hP2,λ_=>⟨rfl,rfl,rfl⟩,λh=>by cases h⟩
      | true=>
       unfold cdK at hK;rw[if_pos rfl]at hK;cases f with
       |nil=>cases hK
       | cons t q=>
        simp only at hK;have hq:f1=q/\((t=sB/\K=0)\/(t=vB/\¬ t=sB/\K=1)):=by
         by_cases h1:t=sB
         ·rw[if_pos h1]at hK;cases hK;exact⟨rfl,.inl ⟨h1,rfl⟩⟩
         ·rw[if_neg h1]at hK;by_cases h2:t=vB
          ·rw[if_pos h2]at hK;cases hK;exact⟨rfl,.inr ⟨h2,h1,rfl⟩⟩
          ·rw[if_neg h2]at hK;cases hK
        obtain⟨rfl,hq⟩:=hq;have h3:=hP2.rest (a:=1) sI;simp only[List.drop_succ_cons,List.drop_zero]at h3;exact⟨λx hx=>hsz x (by simp[hx]),_,h3,(λh=>by cases h),λ_=>⟨t,rfl,hq,rfl⟩⟩
     obtain⟨hsz1,ao1,hP1,hst0,hst1⟩:=hF1
     refine aW ⟨200,bm [(0,.is (.own 0 0)),(5,.is (.v (.slice ao1 f1.length f1.length))),(7,.is (.own 24 0)),(8,.is (.own 16 0))],aY [(0,.cells 112 [.hd 1,.hd 2,.hd 3,.v (.int .i64 r.src),.v (.int .i64 r.vw),.v (.string s),.v (.int .i64 (r.pl:Nat))]),(1,.row 9 1 r.ty.length ((aE r.ty).map .v)),(2,.row 9 1 r.tx.length ((aE r.tx).map .v)),(3,.row 50 4 r.co.length ((cn r.co).map .v)),(16,.cells 50 [.v (.int .i64 (k:Nat)),.v (.int .i64 K),.v (.int .i64 0),.v (.int .i64 0)]),(24,.cells 160 [.v (.string wd),.v (.bool st),.v (.int .i64 ua),.v (.int .i64 ub)])]⟩ ?_ ?_
     ·skip;cases st with
      |false=>
       obtain⟨rfl,rfl,rfl⟩:=hst0 rfl;refine vR (dr l hs4) a7 ?_;refine wC a7 (λhc=>?_) (λhc=>?_)
       ·exact absurd hc sI
       refine wK ?_;exact wM (λk=>.key k) a7
      | true=>
       obtain⟨t,rfl,htK,rfl⟩:=hst1 rfl;obtain⟨b2,o2,t2,rfl,hn2,y2,y3,hF2⟩:=hP2;obtain rfl:=y3 t f1 rfl;have e1:(⟨#[115]⟩:ByteArray)=sB:=rfl;have e2:(⟨#[118]⟩:ByteArray)=vB:=rfl;have e3:(⟨#[115,118]⟩:ByteArray)=svS:=rfl;have ht:t2=sB\/t2=vB:=by
        rcases htK with h|h
        ·exact .inl h.1
        ·exact .inr h.1
       have hKi:(if t2=sB then (0:Int) else 1)=K:=by
        rcases htK with h|h
        ·rw[if_pos h.1,h.2]
        ·rw[if_neg h.2.1,h.2.2]
       have hl1:f1.length+1-1=f1.length:=oM;refine vR (dr l hs4) a7 ?_;refine wC a7 (λhc=>?_) (λhc=>?_)
       ·refine Wp.seq ?_;refine wR (dr l hs4) (eT a7 y2 e1 e2) ?_ ?_
        ·exact⟨⟨_,rfl⟩,(λh=>by omega),(λ_=>hn2),(λh=>by omega),λ_=>hn2⟩
        refine wC a7 (λhc=>?_) (λhc=>?_)
        ·exfalso;rcases ht with h|h
         ·simp[h]at hc;omega
         ·rw[h]at hc;simp at hc;omega
        refine wK ?_;refine wR (dr l hs4) (eT a7 y2 e3 hKi) ?_ ?_
        ·exact⟨oM,hn2,ht,ha1.2.2⟩
        refine wr (dr l hs4) (aa a7 hl1) ?_ ?_
        ·omega
        exact wM (λk=>.key k) (aa a7 hl1)
       ·exact absurd hc sI
     refine Wp.seq ?_;refine vR (dr l hs4) a7 ?_;refine Wp.block ?_
     refine Wp.loop (λp:Nat×List ByteArray×Option Addr×Int×Int=>⟨300,bm [(0,.is (.own 0 0)),(5,.is (.v (.slice p.2.2.1 p.2.1.length p.2.1.length))),(8,.is (.own 16 0)),(78,.is (.hd 32)),(79,.is (.v (.int .i64 2))),(80,.is (.v (.int .i64 (p.1:Nat))))],aY [(0,.cells 112 [.hd 1,.hd 2,.hd 3,.v (.int .i64 r.src),.v (.int .i64 r.vw),.v (.string s),.v (.int .i64 (r.pl:Nat))]),(1,.row 9 1 r.ty.length ((aE r.ty).map .v)),(2,.row 9 1 r.tx.length ((aE r.tx).map .v)),(3,.row 50 4 r.co.length ((cn r.co).map .v)),(16,.cells 50 [.v (.int .i64 (k:Nat)),.v (.int .i64 K),.v (.int .i64 p.2.2.2.1),.v (.int .i64 p.2.2.2.2)]),(32,.row 174 2 2 [.v (.int .i64 ua),.own 16 2,.v (.int .i64 ub),.own 16 3])]⟩)
      (λp=>p.1<=2/\MW W1 bs1 p.2.2.1 p.2.1/\(∀ x∈p.2.1,x.size<=16000000)/\(p.1=0->p.2.1=f1/\p.2.2.2.1=0/\p.2.2.2.2=0)/\(p.1=1->UH ua f1=some (p.2.2.2.1,p.2.1)/\p.2.2.2.2=0)/\(p.1=2->xz ua ub f1=some ((p.2.2.2.1,p.2.2.2.2),p.2.1))) (λp=>2-p.1) (0,f1,ao1,0,0) ?_ ⟨sI,hP1,hsz1,λ_=>⟨rfl,rfl,rfl⟩,λh=>by simp at h,λh=>by simp at h⟩ ?_
     ·exact wM (λk=>if k=32 then .key 1664 else .key k) (bQ a7 (show ((2:Nat):Int)=2 from rfl) (show ((0:Nat):Int)=0 from rfl))
     rintro⟨j,g,ao,A,B⟩ ⟨hj,hG,hgz,p0,p1,p2⟩;dsimp only at hj hG hgz p0 p1 p2 ⊢;refine vR (dr l hs4) a7 ?_;refine Wp.seq ?_;refine wC a7 (λhc=>?_) (λhc=>?_)
     ·have hj2:j<2:=by
       simp at hc;omega
      obtain⟨b3,o3,t3,rfl,hn3,v2,v3,hF3⟩:=hG;have hG:MW W1 bs1 (some ⟨b3,o3,none⟩) g:=⟨b3,o3,t3,rfl,hn3,v2,v3,hF3⟩;have hjj:j=0\/j=1:=oM;refine wK ?_;refine Wp.seq (Wp.block ?_);rcases hjj with rfl|rfl
      ·clear p1 p2;have PJ0:=p0 rfl;refine vR (dr l hs4) a7 ?_;refine Wp.seq ?_;refine vR (dr l hs4) a7 ?_;refine wC a7 (λhc=>?_) (λhc=>?_)
       ·have hu:ua=0:=by simpa using hc
        refine wE ?_;refine vr (dr l hs4) a7 ?_;refine⟨(1,g,some ⟨b3,o3,none⟩,A,B),⟨sI,hG,hgz,λh=>by simp at h,?_,?_⟩,sI,?_⟩
        ·intro _;obtain⟨h1,h2,h3⟩:=PJ0;dsimp only;rw[hu,J9,h1,h2];exact⟨rfl,h3⟩
        ·intro h;simp at h
        ·exact wM (λk=>.key k) a7
       have hu:¬ ua=0:=by simpa using hc
       refine wK ?_;refine Wp.seq ?_;refine vR (dr l hs4) a7 ?_;refine wC a7 (λhc=>?_) (λhc=>?_)
       ·have hg0:g=[]:=by
         have:g.length=0:=by simpa using hc
         exact List.eq_nil_of_length_eq_zero this
        have hE' : B5 r.co.length l=(false,[]):=by
         rw[hE];obtain⟨h1,h2,h3⟩:=PJ0;rw[xz,<- h1,hg0,yo ua hu]
        rw[ffail hE'];refine vR (dr l hs4) a7 ?_;refine wZ a7 ?_;exact⟨_,_,rfl,λE=>rfl,_,_,rfl,(ev a7),dE⟩
       have hgp:0<g.length:=by
        have:¬ g.length=0:=by simpa using hc
        omega
       obtain⟨t,q,rfl⟩:∃ t q,g=t::q:=by
        cases g with
        |nil=>simp at hgp
        |cons t q=>exact⟨t,q,rfl⟩
       obtain rfl:=v3 t q rfl;have hzt:=hgz t3 sI;obtain⟨m1,m2⟩:=o8 t3;have hNN:=Oz ua t3 q hu;refine wK ?_;refine wR (dr l hs4) (aa a7 v2) ?_ ?_
       ·exact⟨oM,hn3,oM,ha1.2⟩
       refine Wp.seq ?_;refine vR (dr l hs4) a7 ?_;refine wC a7 (λhc=>?_) (λhc=>?_)
       ·have hno:¬ bT t3=true:=by rw[<- m1];simpa using hc
        rw[if_neg hno]at hNN;have hE' : B5 r.co.length l=(false,[]):=by
         rw[hE];obtain⟨h1,h2,h3⟩:=PJ0;rw[xz,<- h1,hNN]
        rw[ffail hE'];refine vR (dr l hs4) a7 ?_;refine wZ a7 ?_;exact⟨_,_,rfl,λE=>rfl,_,_,rfl,(ev a7),dE⟩
       have hyes:bT t3=true:=by rw[<- m1];simpa using hc
       rw[if_pos hyes]at hNN;have hnv:=m2 hyes;have hl1:q.length+1-1=q.length:=oM;have hR3:=hG.rest (a:=1) sI;simp only[List.drop_succ_cons,List.drop_zero,List.length_cons]at hR3;refine wK ?_;refine vR (dr l hs4) a7 ?_;refine wr (dr l hs4) (aa a7 hl1) ?_ ?_
       ·omega
       refine vr (dr l hs4) a7 ?_;refine⟨(1,q,qd (some ⟨b3,o3,none⟩) 1 1 (q.length+1),iJ t3,B),⟨sI,hR3,λx hx=>hgz x (by simp[hx]),λh=>by simp at h,?_,?_⟩,sI,?_⟩
       ·intro _;obtain⟨h1,h2,h3⟩:=PJ0;dsimp only;rw[<- h1,hNN];exact⟨rfl,h3⟩
       ·intro h;simp at h
       ·exact wM (λk=>.key k) (bQ a7 hl1 hnv)
      ·clear p0 p2;have PJ1:=p1 rfl;refine vR (dr l hs4) a7 ?_;refine Wp.seq ?_;refine vR (dr l hs4) a7 ?_;refine wC a7 (λhc=>?_) (λhc=>?_)
       ·have hu:ub=0:=by simpa using hc
        refine wE ?_;refine vr (dr l hs4) a7 ?_;refine⟨(2,g,some ⟨b3,o3,none⟩,A,B),⟨sI,hG,hgz,λh=>by simp at h,?_,?_⟩,sI,?_⟩
        ·intro h;simp at h
        ·intro _;obtain⟨h1,h2⟩:=PJ1;dsimp only;rw[xz,h1];simp only;rw[hu,J9,h2]
        ·exact wM (λk=>.key k) a7
       have hu:¬ ub=0:=by simpa using hc
       refine wK ?_;refine Wp.seq ?_;refine vR (dr l hs4) a7 ?_;refine wC a7 (λhc=>?_) (λhc=>?_)
       ·have hg0:g=[]:=by
         have:g.length=0:=by simpa using hc
         exact List.eq_nil_of_length_eq_zero this
        have hE' : B5 r.co.length l=(false,[]):=by
         rw[hE];obtain⟨h1,h2⟩:=PJ1;rw[xz,h1];simp only;rw[hg0,yo ub hu]
        rw[ffail hE'];refine vR (dr l hs4) a7 ?_;refine wZ a7 ?_;exact⟨_,_,rfl,λE=>rfl,_,_,rfl,(ev a7),dE⟩
       have hgp:0<g.length:=by
        have:¬ g.length=0:=by simpa using hc
        omega
       obtain⟨t,q,rfl⟩:∃ t q,g=t::q:=by
        cases g with
        |nil=>simp at hgp
        |cons t q=>exact⟨t,q,rfl⟩
       obtain rfl:=v3 t q rfl;have hzt:=hgz t3 sI;obtain⟨m1,m2⟩:=o8 t3;have hNN:=Oz ub t3 q hu;refine wK ?_;refine wR (dr l hs4) (aa a7 v2) ?_ ?_
       ·exact⟨oM,hn3,oM,ha1.2⟩
       refine Wp.seq ?_;refine vR (dr l hs4) a7 ?_;refine wC a7 (λhc=>?_) (λhc=>?_)
       ·have hno:¬ bT t3=true:=by rw[<- m1];simpa using hc
        rw[if_neg hno]at hNN;have hE' : B5 r.co.length l=(false,[]):=by
         rw[hE];obtain⟨h1,h2⟩:=PJ1;rw[xz,h1];simp only;rw[hNN]
        rw[ffail hE'];refine vR (dr l hs4) a7 ?_;refine wZ a7 ?_;exact⟨_,_,rfl,λE=>rfl,_,_,rfl,(ev a7),dE⟩
       have hyes:bT t3=true:=by rw[<- m1];simpa using hc
       rw[if_pos hyes]at hNN;have hnv:=m2 hyes;have hl1:q.length+1-1=q.length:=oM;have hR3:=hG.rest (a:=1) sI;simp only[List.drop_succ_cons,List.drop_zero,List.length_cons]at hR3;refine wK ?_;refine vR (dr l hs4) a7 ?_;refine wr (dr l hs4) (aa a7 hl1) ?_ ?_
       ·omega
       refine vr (dr l hs4) a7 ?_;refine⟨(2,q,qd (some ⟨b3,o3,none⟩) 1 1 (q.length+1),A,iJ t3),⟨sI,hR3,λx hx=>hgz x (by simp[hx]),λh=>by simp at h,?_,?_⟩,sI,?_⟩
       ·intro h;simp at h
       ·intro _;obtain⟨h1,h2⟩:=PJ1;dsimp only;rw[xz,h1];simp only;rw[hNN]
       ·exact wM (λk=>.key k) (bQ a7 hl1 hnv)
     ·have hj2:j=2:=by
       simp at hc;omega
      subst hj2;have hAB:=p2 rfl;rw[hAB]at hE;simp only at hE;have hfin:gW r l=(g.isEmpty,{ r with co:=r.co++[(((k:Nat):Int),K,A,B)] }):=by unfold gW;rw[hE]
      have e1:=JW r.co (k:Nat) K A B;have e2:(r.co++[(((k:Nat):Int),K,A,B)]).length=r.co.length+1:=by rw[List.length_append];rfl
      have e3:decide (((g.length:Nat):Int)=0)=g.isEmpty:=by cases g<;>simp<;>omega
      rw[hfin];refine wE ?_;refine kO (dr l hs4) (aa a7 e1) ?_ ?_
      ·exact⟨by unfold maxLen;omega,oM⟩
      refine vR (dr l hs4) (aa a7 e3) ?_;refine wZ a7 ?_;exact⟨_,_,rfl,λE=>rfl,_,_,rfl,(ev (aa a7 e2)),dE⟩
   ·have hk' : k=21:=by
     simp at hc;omega
    subst hk';have hE:B5 r.co.length l=(false,[]):=by
     unfold B5;rw[hs];simp only;rw[if_pos heq,ad4 hno]
    rw[ffail hE];refine wE ?_;refine vR (dr l hs4) a7 ?_;refine wZ a7 ?_;exact⟨_,_,rfl,λE=>rfl,_,_,rfl,(ev a7),dE⟩
section
variable (s:ByteArray)(r:Rd)(l:ByteArray)
noncomputable def Iz:Env prog:=⟨λ| 79=>some (oz s r).spec|54=>some (xA 54 gW call54 Qv s r l).spec|_=>none,λ_=>none,λ_ _=>none⟩
theorem adY:(Iz s r l).sp 79=some (oz s r).spec:=rfl
theorem afR:(Iz s r l).sp 54=some (xA 54 gW call54 Qv s r l).spec:=rfl
end
def rX:=(aj @List.replicate_succ.{0} @List.replicate_zero.{0} @an @ab jo jl gS (aj ca cc b9 cg cf cj cd (aj ck dc dh cZ db c8 dd (aj FB Fh Ef vC u5 pw pU (aj pY po pD oX pQ pf qf (aj pW pc ql @aG @al @ay @ax (aj @zR.eq_1 @UY.eq_1 @jV.eq_1 @jV.eq_2 @aB @gF @fY (eT @adY @afR @oz.eq_1 @xA.eq_1))))))))
theorem zO:Qi 54 gW:=by
 intro s r w fp E F hr ha hs;refine ix (nt:=29) [] hs ?_ ?_ func49 rfl rfl rfl ?_
 ·simp[pH,jV,zR,FV.keys,SV.keys,aw,aT.keys,aA]
 ·simp
 refine Wp.block ?_;refine Wp.loop (λr' : Rd=>⟨10,bm [(0,.is (.own 0 0)),(1,.is (.fn (.func 54) [.own 0 0] []))],aY (zR 1 s r')⟩) (λr' => Ni s r' /\ oJ gW s r' = oJ gW s r) (λr' => s.size-r'.pl) r ?_ ⟨hr,rfl⟩ ?_
 ·simp only[zR];exact wM (λk=>.key k) rX
 rintro r' ⟨hb,hg⟩;have hb' := hb;obtain⟨⟨n1,n2,n3⟩,n4,n5⟩:=hb;have hle:=jR n4;have hst:=eg gW s r';refine Wp.block ?_;by_cases he:bL s r'.pl<s.size
 ·have hlin:l8 s r'.pl=.tuple #[.string (dt s r'.pl),.bool true]:=by rw[l8,if_pos he]
  have hlz:(dt s r'.pl).size=bL s r'.pl-r'.pl:=dD _ _ _ hle.2;obtain⟨q1,q2,q3,q4⟩:=Kq r' (dt s r'.pl);rw[if_pos he]at hst;generalize hl:dt s r'.pl=l at *;cases ht:gW r' l with
  | mk b r2=>
   rw[ht]at hst q1 q2 q3 q4;simp only at q1 q2 q3 q4;refine wR (Iz s r' l) (aa rX hlin) ?_ ?_
   ·exact⟨dE,n4,oM⟩
   cases b with
   | false=>
    rw[if_neg sI]at hst;refine Wp.seq ?_;refine wR (Iz s r' l) (aa rX ht) ?_ ?_
    ·exact⟨⟨⟨hb',oM⟩,ha⟩,dE,sI⟩
    refine wC rX (λhc=>?_) (λhc=>?_)
    ·refine wZ rX ?_;rw[<- hg,hst];exact wN (λk=>if k=8 then .key 176 else if k=9 then .key 177 else if k=10 then .key 178 else .key k) rX
    ·exact absurd hc sI
   |true=>
    rw[if_pos rfl]at hst;have wz:IntKind.i64.wrap ((l.size:Int)+1)=((l.size+1:Nat):Int):=wW;have wa:IntKind.i64.wrap ((r2.pl:Int)+((l.size+1:Nat):Int))=((bL s r'.pl+1:Nat):Int):=wW;refine Wp.seq ?_;refine wR (Iz s r' l) (aa rX ht) ?_ ?_
    ·exact⟨⟨⟨hb',oM⟩,ha⟩,dE,sI⟩
    refine wC rX (λhc=>?_) (λhc=>?_)
    ·exact absurd hc sI
    refine wK ?_;refine vr (Iz s r' l) (bQ rX wz wa) ?_;refine⟨{ r2 with pl:=bL s r'.pl+1 },⟨⟨⟨by dsimp only;omega,by dsimp only;omega,by dsimp only;omega⟩,by dsimp only;omega,n5⟩,by rw[<- hst];exact hg⟩,by dsimp only;omega,?_⟩;simp only[zR]
    exact wM (λk=>if k=1 then .key 176 else if k=2 then .key 177 else if k=3 then .key 178 else .key k) rX
 ·have hlin:l8 s r'.pl=.tuple #[.string ⟨#[]⟩,.bool false]:=by rw[l8,if_neg he]
  rw[if_neg he]at hst;refine wR (Iz s r' dJ) (aa rX hlin) ?_ ?_
  ·exact⟨dE,n4,oM⟩
  refine Wp.seq ?_;refine wR (Iz s r' dJ) rX ?_ ?_
  ·exact λh=>by cases h
  refine wC rX (λhc=>?_) (λhc=>?_)
  ·refine wZ rX ?_;rw[<- hg,hst];exact wN (λk=>if k=8 then .key 1 else if k=9 then .key 2 else if k=10 then .key 3 else .key k) rX
  ·exact absurd hc sI
def yE(k:Nat)(b:Bool)(s:ByteArray)(r:Rd):List (Nat×aT):=[(0,.cells 112 [.hd k,.hd (k+1),.hd (k+2),.v (.int .i64 r.src),.v (.int .i64 r.vw),.v (.string s),.v (.int .i64 (r.pl:Nat))]),(k,.row 9 1 r.ty.length ((aE r.ty).map .v)),(k+1,.row 9 1 r.tx.length ((aE r.tx).map .v)),(k+2,.row 50 4 r.co.length ((cn r.co).map .v)),(1,.cells 4 [.v (.bool b)]),(2,.cells 110 [.own 0 0])]
section
variable (s:ByteArray)(r:Rd)(l:ByteArray)
noncomputable def Jj:Env prog:=⟨λ| 53=>some (xA 53 fT call53 Oo s r l).spec|_=>none,λ_=>none,λ_ _=>none⟩
theorem afF:(Jj s r l).sp 53=some (xA 53 fT call53 Oo s r l).spec:=rfl
end
def nf(b:Bool)(r:Rd)(l:ByteArray):Bool×Bool×Rd:=if b=true then (false,true,r) else ((fT r l).1,(fT r l).1,(fT r l).2)
def pE:=(aj @List.replicate_succ.{0} @List.replicate_zero.{0} @an @ab jo jl gS (aj ca cc b9 cg cf cj cd (aj ck dc dh cZ db c8 dd (aj FB Fh Ef vC u5 pw pU (aj pY po pD oX pQ pf qf (aj pW pc ql @aG @al @ay @ax (aj @o4 @yE.eq_1 @UY.eq_1 @jV.eq_1 @jV.eq_2 @aB @gF (bQ @fY @afF @xA.eq_1))))))))
theorem U2(b:Bool)(s:ByteArray)(r:Rd)(l:ByteArray)(w:World)(fp:List Nat)(E:Nat->Value)(F:Nat->List Nat)(hr:Ni s r)(hl:l.size<=16000000)(ha:fQ w (Out fp))(hs:ai w fp E F (aY (yE 3 b s r)) w) :
  Calls prog 52 (au E [.v (.string l),.own 1 0,.own 2 0]).toArray w λe w' => ∃ E' F',e=.returned (den E' (.v (.bool (nf b r l).1)))/\(∀ k∈[0,1,2],E' k=E k)/\ai w fp E' F' (aY (yE 8 (nf b r l).2.1 s (nf b r l).2.2)) w' := by
 refine ix (nt:=12) [.tmp 4] hs ?_ ?_ func52 rfl rfl rfl ?_
 ·simp[pH,jV,yE,FV.keys,SV.keys,aw,aT.keys,aA]
 ·simp
 refine vR (Jj s r l) pE ?_;refine Wp.seq ?_;cases b with
 | true=>
  have e:nf true r l=(false,true,r):=by unfold nf;rw[if_pos rfl]
  rw[e];refine wR (Jj s r l) pE ?_ ?_
  ·exact λh=>by cases h
  refine wC pE (λhc=>?_) (λhc=>?_)
  ·skip;refine vR (Jj s r l) pE ?_;refine wZ pE ?_;exact wN (λk=>if k=8 then .key 3 else if k=9 then .key 4 else if k=10 then .key 5 else .key k) pE
  ·exact absurd hc sI
 | false=>
  have e:nf false r l=((fT r l).1,(fT r l).1,(fT r l).2):=by unfold nf;rw[if_neg sI]
  rw[e];cases ht:fT r l with
  | mk x r2=>
   refine wR (Jj s r l) (aa pE ht) ?_ ?_
   ·exact⟨⟨⟨hr,hl⟩,ha⟩,dE,sI⟩
   cases x with
   | false=>
    refine wC pE (λhc=>?_) (λhc=>?_)
    ·skip;refine vR (Jj s r l) pE ?_;refine wZ pE ?_;exact wN (λk=>if k=8 then .key 48 else if k=9 then .key 49 else if k=10 then .key 50 else .key k) pE
    ·exact absurd hc sI
   |true=>
    refine wC pE (λhc=>?_) (λhc=>?_)
    ·exact absurd hc sI
    refine wK ?_;refine vR (Jj s r l) pE ?_;refine vR (Jj s r l) pE ?_;refine wZ pE ?_;exact wN (λk=>if k=8 then .key 48 else if k=9 then .key 49 else if k=10 then .key 50 else .key k) pE
def XN(b:Bool)(s:ByteArray)(r:Rd)(l:ByteArray):mo prog 52 where
 args:=[.v (.string l),.own 1 0,.own 2 0]
 L:=yE 3 b s r
 val:=.v (.bool (nf b r l).1)
 L' := yE 8 (nf b r l).2.1 s (nf b r l).2.2
 eo:=[0,1,2]
 pre:=λW bs=>(Ni s r/\l.size<=16000000)/\fQ W (Out bs)
 low:=by simp[yE]
 kept:=by simp[yE]
 vk:=by simp[SV.keys,aw]
 lk:=by simp[yE,aT.keys,SV.keys,aw,aA,fresh]
 nd:=by simp[yE]
 enters:=call52
 ok:=by
  intro W w bs fp E F hk hm hs hp;exact U2 b s r l w fp E F hp.1.1 hp.1.2 (hp.2.dW hk hm) hs
section
variable (b:Bool)(s:ByteArray)(r:Rd)(l:ByteArray)
noncomputable def I4:Env prog:=⟨λ| 79=>some (oz s r).spec|52=>some ((XN b s r l).spec [0,1,2,3,4,5])|_=>none,λ_=>none,λ_ _=>none⟩
theorem adV:(I4 b s r l).sp 79=some (oz s r).spec:=rfl
theorem ahf:(I4 b s r l).sp 52=some ((XN b s r l).spec [0,1,2,3,4,5]):=rfl
end
theorem ajy(b:Bool)(r:Rd)(l:ByteArray):(nf b r l).2.2.pl=r.pl/\(nf b r l).2.2.ty.length<=r.ty.length+1/\(nf b r l).2.2.tx.length<=r.tx.length+1/\(nf b r l).2.2.co.length<=r.co.length+1:=by
 unfold nf;split
 ·exact⟨rfl,Nat.le_succ _,Nat.le_succ _,Nat.le_succ _⟩
 ·exact aau r l
def rV:=(aj pE @adV @ahf @oz.eq_1 @XN.eq_1 @qk.eq_1 @fV.eq_1 (aj @fV.eq_2 @eZ.eq_1 @eZ.eq_2 @eZ.eq_3 @eZ.eq_4 @eZ.eq_5 @eZ.eq_6 (aj @eZ.eq_7 @eZ.eq_8 @kg.eq_1 @kg.eq_2 @eV.eq_1 @eV.eq_2 @gO.eq_1 (aj @gO.eq_2 @fU.eq_1 @fU.eq_2 @fU.eq_3 @sb.eq_1 @mp.eq_1 @eB (aa @gF @fY)))))
theorem Uk(s:ByteArray)(r:Rd)(w:World)(fp:List Nat)(E:Nat->Value)(F:Nat->List Nat)(hr:Ni s r)(ha:fQ w (Out fp))(hs:ai w fp E F (aY (yE 3 false s r)) w) :
  Calls prog 49 (au E [.own 0 0,.fn (.func 52) [] [.own 1 0,.own 2 0]]).toArray w λe w' => ∃ E' F',e=.returned (den E' (.tup []))/\(∀ k∈[0,1,2],E' k=E k)/\ai w fp E' F' (aY (yE 8 (sx s r).1 s (sx s r).2)) w' := by
 refine ix (nt:=29) [] hs ?_ ?_ func49 rfl rfl rfl ?_
 ·simp[pH,jV,yE,FV.keys,SV.keys,aw,aT.keys,aA]
 ·simp
 refine Wp.block ?_;refine Wp.loop (λq:Bool×Rd=>⟨10,bm [(0,.is (.own 0 0)),(1,.is (.fn (.func 52) [] [.own 1 0,.own 2 0]))],aY (yE 3 q.1 s q.2)⟩) (λq=>Ni s q.2/\((q.1=false/\q.2=r)\/(q.1=true/\sx s r=(true,q.2)))) (λq=>s.size-q.2.pl) (false,r) ?_ ⟨hr,.inl ⟨rfl,rfl⟩⟩ ?_
 ·simp only[yE];exact wM (λk=>.key k) rV
 rintro⟨b,r'⟩ ⟨hb,hg⟩;dsimp only at hb hg ⊢;have hb' := hb;obtain⟨⟨n1,n2,n3⟩,n4,n5⟩:=hb;have hle:=jR n4;refine Wp.block ?_;by_cases he:bL s r'.pl<s.size
 ·have hlin:l8 s r'.pl=.tuple #[.string (dt s r'.pl),.bool true]:=by rw[l8,if_pos he]
  have hlz:(dt s r'.pl).size=bL s r'.pl-r'.pl:=dD _ _ _ hle.2;obtain⟨q1,q2,q3,q4⟩:=ajy b r' (dt s r'.pl);have hon:b=false->sx s r' = if (fT r' (dt s r'.pl)).1=true then (true,{ (fT r' (dt s r'.pl)).2 with pl:=bL s r'.pl+1 }) else (false,(fT r' (dt s r'.pl)).2):=λ_=>by unfold sx;rw[if_pos he]
  have htk:b=true->nf b r' (dt s r'.pl)=(false,true,r'):=λh=>by unfold nf;rw[if_pos h]
  have htk0:b=false->nf b r' (dt s r'.pl)=((fT r' (dt s r'.pl)).1,(fT r' (dt s r'.pl)).1,(fT r' (dt s r'.pl)).2):=λh=>by unfold nf;rw[if_neg (by simp[h])]
  generalize hl:dt s r'.pl=l at *;cases ht:nf b r' l with
  | mk x q=>
   obtain⟨b2,r2⟩:=q;rw[ht]at q1 q2 q3 q4;simp only at q1 q2 q3 q4;refine wR (I4 b s r' l) (aa rV hlin) ?_ ?_
   ·exact⟨dE,n4,oM⟩
   cases x with
   | false=>
    have hres:sx s r=(b2,r2):=by
     rcases hg with ⟨rfl,rfl⟩|⟨rfl,h⟩
     ·have h0:=htk0 rfl;rw[ht]at h0;rw[hon rfl];simp only[Prod.mk.injEq]at h0;rw[if_neg (by rw[<- h0.1];simp),<- h0.2.2,h0.2.1,<- h0.1]
     ·have h0:=htk rfl;rw[ht]at h0;simp only[Prod.mk.injEq]at h0;rw[h,h0.2.1,h0.2.2]
    refine Wp.seq ?_;refine wR (I4 b s r' l) (aa rV ht) ?_ ?_
    ·exact⟨dE,⟨hb',oM⟩,ha⟩
    refine wC rV (λhc=>?_) (λhc=>?_)
    ·refine wZ rV ?_;rw[hres];exact wN (λk=>if k=8 then .key 176 else if k=9 then .key 177 else if k=10 then .key 178 else .key k) rV
    ·exact absurd hc sI
   | true=>
    have hbf:b=false:=by
     cases b with
     |false=>rfl
     |true=>have h0:=htk rfl;rw[ht]at h0;cases h0
    have h0:=htk0 hbf;rw[ht]at h0;simp only[Prod.mk.injEq]at h0;obtain⟨h01,h02,h03⟩:=h0;have hb2:b2=true:=by rw[h02,<- h01]
    subst hb2;have hr' : r' = r:=by
     rcases hg with ⟨_,h⟩|⟨h,_⟩
     ·exact h
     ·rw[hbf]at h;cases h
    have hres:sx s r=(true,{ r2 with pl:=bL s r'.pl+1 }):=by
     rw[<- hr',hon hbf,if_pos h01.symm,<- h03]
    have wz:IntKind.i64.wrap ((l.size:Int)+1)=((l.size+1:Nat):Int):=wW;have wa:IntKind.i64.wrap ((r2.pl:Int)+((l.size+1:Nat):Int))=((bL s r'.pl+1:Nat):Int):=wW;refine Wp.seq ?_;refine wR (I4 b s r' l) (aa rV ht) ?_ ?_
    ·exact⟨dE,⟨hb',oM⟩,ha⟩
    refine wC rV (λhc=>?_) (λhc=>?_)
    ·exact absurd hc sI
    refine wK ?_;refine vr (I4 b s r' l) (bQ rV wz wa) ?_;refine⟨(true,{ r2 with pl:=bL s r'.pl+1 }),⟨⟨⟨by dsimp only;omega,by dsimp only;omega,by dsimp only;omega⟩,by dsimp only;omega,n5⟩,.inr ⟨rfl,hres⟩⟩,by dsimp only;omega,?_⟩;simp only[yE]
    exact wM (λk=>if k=3 then .key 176 else if k=4 then .key 177 else if k=5 then .key 178 else .key k) rV
 ·have hlin:l8 s r'.pl=.tuple #[.string ⟨#[]⟩,.bool false]:=by rw[l8,if_neg he]
  have hres:sx s r=(b,r'):=by
   rcases hg with ⟨rfl,rfl⟩|⟨rfl,h⟩
   ·unfold sx;rw[if_neg he]
   ·exact h
  refine wR (I4 b s r' dJ) (aa rV hlin) ?_ ?_
  ·exact⟨dE,n4,oM⟩
  refine Wp.seq ?_;refine wR (I4 b s r' dJ) rV ?_ ?_
  ·exact λh=>by cases h
  refine wC rV (λhc=>?_) (λhc=>?_)
  ·refine wZ rV ?_;rw[hres];exact wN (λk=>if k=8 then .key 3 else if k=9 then .key 4 else if k=10 then .key 5 else .key k) rV
  ·exact absurd hc sI
def Mc(s:ByteArray)(r:Rd):mo prog 49 where
 args:=[.own 0 0,.fn (.func 52) [] [.own 1 0,.own 2 0]]
 L:=yE 3 false s r
 val:=.tup []
 L' := yE 8 (sx s r).1 s (sx s r).2
 eo:=[0,1,2]
 pre:=λW bs=>Ni s r/\fQ W (Out bs)
 low:=by simp[yE]
 kept:=by simp[yE]
 vk:=by simp[SV.keys,aw]
 lk:=by simp[yE,aT.keys,SV.keys,aw,aA,fresh]
 nd:=by simp[yE]
 enters:=call49
 ok:=by
  intro W w bs fp E F hk hm hs hp;exact Uk s r w fp E F hp.1 (hp.2.dW hk hm) hs
def qM(T k:Nat)(p:Pg):List (Nat×aT):=[(k,.row 9 1 p.ty.length ((aE p.ty).map .v)),(k+1,.row 9 1 p.tx.length ((aE p.tx).map .v)),(k+2,.row T 4 p.co.length ((cn p.co).map .v))]
def Li(k:Nat)(p:Pg):SV:=.agg [.hd k,.hd (k+1),.hd (k+2),.v (.int .i64 p.src),.v (.int .i64 p.vw)]
theorem M9{W w:World}{fp:List Nat}{E:Nat->Value}{F:Nat->List Nat}{h:Hp}{k:Nat}{T:TypeId}{s n:Nat}{vs:List Value}(hs:ai W fp E F h w)(hk:h k=some (.row T s n (vs.map .v))):∃ ao c,den E (.hd k)=.slice ao n c/\kZ w ao vs:=by
 obtain⟨ao,c,h1,h2,_⟩:=O4 (bs' := []) hs hk (λb _=>by simp);refine⟨ao,c,?_,?_⟩
 ·show hv (E k)=_;rw[h1];rfl
 ·rw[aJ]at h2;exact h2.is
theorem q5{W w:World}{fp:List Nat}{E:Nat->Value}{F:Nat->List Nat}{h:Hp}{T k:Nat}{p:Pg}(hs:ai W fp E F h w)(h0:h k=some (.row 9 1 p.ty.length ((aE p.ty).map .v)))(h1:h (k+1)=some (.row 9 1 p.tx.length ((aE p.tx).map .v)))(h2:h (k+2)=some (.row T 4 p.co.length ((cn p.co).map .v))) :
  ∃ a1 a2 a3 c1 c2 c3,den E (Li k p)=prV p a1 a2 a3 c1 c2 c3/\kZ w a1 (aE p.ty)/\kZ w a2 (aE p.tx)/\kZ w a3 (cn p.co):=by
 obtain⟨a1,c1,e1,g1⟩:=M9 hs h0;obtain⟨a2,c2,e2,g2⟩:=M9 hs h1;obtain⟨a3,c3,e3,g3⟩:=M9 hs h2;refine⟨a1,a2,a3,c1,c2,c3,?_,g1,g2,g3⟩;simp only[Li,den,au]at e1 e2 e3 ⊢;rw[e1,e2,e3]
theorem ahr(T:Nat)(p:Pg):aY (qM T 0 p) 0=some (.row 9 1 p.ty.length ((aE p.ty).map .v)):=rfl
theorem ahH(T:Nat)(p:Pg):aY (qM T 0 p) (0+1)=some (.row 9 1 p.tx.length ((aE p.tx).map .v)):=rfl
theorem ahZ(T:Nat)(p:Pg):aY (qM T 0 p) (0+2)=some (.row T 4 p.co.length ((cn p.co).map .v)):=rfl
def NH(p:Pg)(hb:PgB p):mo prog 34 where
 args:=[Li 0 p]
 L:=qM 50 0 p
 val:=.v (EY (eW p))
 L' := qM 50 0 p
 eo:=[0,1,2]
 pre:=λW bs=>fS W (Out bs)
 low:=by simp[qM]
 kept:=by simp[qM]
 vk:=by simp[SV.keys]
 lk:=by simp[qM,aT.keys,aA]
 nd:=by simp[qM]
 enters:=call34
 ok:=by
  intro W w bs fp E F hk hm hs hp;obtain⟨a1,a2,a3,c1,c2,c3,he,g1,g2,g3⟩:=q5 hs (ahr 50 p) (ahH 50 p) (ahZ 50 p);simp only[au,he];exact (Dy p a1 a2 a3 c1 c2 c3 w ⟨hb,g1,g2,g3⟩ (hp.dW hk sI)).mono λe w' ⟨h1,h2⟩=>⟨E,F,h1,λ_ _=>rfl,hs.grow h2⟩
theorem zV(s:ByteArray){tk:L1}(P:Rd->Prop)(h1:∀ r,P r->bL s r.pl<s.size->(tk r (dt s r.pl)).1=true->P { (tk r (dt s r.pl)).2 with pl:=bL s r.pl+1 })(r:Rd)(h:P r) :
  P (oJ tk s r)\/∃ r',P r' /\ bL s r'.pl<s.size/\(tk r' (dt s r'.pl)).1=false/\oJ tk s r=(tk r' (dt s r'.pl)).2:=by
 have key:∀ n r,P r->P (jS tk s n r)\/∃ r',P r' /\ bL s r'.pl<s.size/\(tk r' (dt s r'.pl)).1=false/\jS tk s n r=(tk r' (dt s r'.pl)).2:=by
  intro n
  induction n with
  |zero=>intro r h;exact .inl h
  | succ n ih=>
   intro r h;rw[jS];by_cases he:bL s r.pl<s.size
   ·rw[if_pos he];by_cases ht:(tk r (dt s r.pl)).1=true
    ·rw[if_pos ht];exact ih _ (h1 r h he ht)
    ·rw[if_neg ht];exact .inr ⟨r,h,he,by simpa using ht,rfl⟩
   ·rw[if_neg he];exact .inl h
 exact key _ r h
def Co(s:ByteArray)(r:Rd):Prop:=Ni s r/\∀ t∈r.ty,t.size<=s.size
theorem It(s:ByteArray){i:Nat}(hi:i<=s.size):(dt s i).size<=s.size:=by
 have:=jR hi;unfold dt;rw[dD _ _ _ this.2];omega
theorem oY{s:ByteArray}{r r2:Rd}(h:Ni s r)(he:bL s r.pl<s.size)(q:r2.pl=r.pl/\r2.ty.length<=r.ty.length+1/\r2.tx.length<=r.tx.length+1/\r2.co.length<=r.co.length+1):Ni s { r2 with pl:=bL s r.pl+1 }:=by
 obtain⟨⟨n1,n2,n3⟩,n4,n5⟩:=h;have:=jR n4;exact⟨⟨by dsimp only;omega,by dsimp only;omega,by dsimp only;omega⟩,by dsimp only;omega,n5⟩
theorem Qj{s:ByteArray}{r:Rd}(h:Co s r):Co s (oJ fc s r):=by
 have key:∀ r,Co s r->bL s r.pl<s.size->(fc r (dt s r.pl)).1=true->Co s { (fc r (dt s r.pl)).2 with pl:=bL s r.pl+1 }:=λr h he ht=>by
  refine⟨oY h.1 he (VY r _),λt ht' => ?_⟩;have ht' : t∈(fc r (dt s r.pl)).2.ty:=ht';unfold fc at ht';split at ht'
  ·rcases List.mem_append.1 ht' with hh|hh
   ·exact h.2 t hh
   ·rw[List.mem_singleton.1 hh];have h1:=Oc (eu (dt s r.pl) cH) yB;have h2:=Eg (dt s r.pl) cH;have h3:=It s h.1.2.1;omega
  ·exact h.2 t ht'
 rcases zV s (tk:=fc) (Co s) key r h with g|⟨r',g,he,ht,e⟩
 ·exact g
 ·rw[e];unfold fc at ht ⊢;split at ht
  ·cases ht
  ·rename_i hn;rw[if_neg hn];exact g
theorem Pk{s:ByteArray}{r:Rd}(h:Co s r):Co s (oJ eA s r):=by
 have key:∀ r,Co s r->bL s r.pl<s.size->(eA r (dt s r.pl)).1=true->Co s { (eA r (dt s r.pl)).2 with pl:=bL s r.pl+1 }:=λr h he ht=>by
  refine⟨oY h.1 he (U0 r _),λt ht' => ?_⟩;have ht' : t∈(eA r (dt s r.pl)).2.ty:=ht';unfold eA at ht';split at ht' <;> exact h.2 t ht'
 rcases zV s (tk:=eA) (Co s) key r h with g|⟨r',g,he,ht,e⟩
 ·exact g
 ·rw[e];unfold eA at ht ⊢;split at ht
  ·cases ht
  ·rename_i hn;rw[if_neg hn];exact g
theorem ahV{s:ByteArray}{r:Rd}(h:Co s r):Co s (sx s r).2:=by
 obtain⟨q1,q2,q3,q4,_⟩:=Gl r (dt s r.pl);unfold sx;split
 ·rename_i he;split
  ·exact⟨oY h.1 he (aau r _),λt ht=>h.2 t (by rw[<- q1];exact ht)⟩
  ·obtain⟨⟨n1,n2,n3⟩,n4,n5⟩:=h.1;exact⟨⟨⟨by rw[q1,q4];exact n1,by rw[q2,q4];exact n2,by rw[q3,q4];exact n3⟩,by rw[q4];exact n4,n5⟩,λt ht=>h.2 t (by rw[<- q1];exact ht)⟩
 ·exact h
def RdU(s:ByteArray)(r:Rd):Prop:=(r.ty.length<=r.pl+1/\r.tx.length<=r.pl+1/\r.co.length<=r.pl+1)/\r.pl<=s.size/\∀ t∈r.ty,t.size<=s.size
theorem Co.u{s:ByteArray}{r:Rd}(h:Co s r):RdU s r:=by
 obtain⟨⟨⟨n1,n2,n3⟩,n4,n5⟩,h2⟩:=h;exact⟨⟨oM,oM,oM⟩,n4,h2⟩
theorem acj{s:ByteArray}{r:Rd}(h:Co s r):RdU s (oJ gW s r):=by
 rcases zV s (tk:=gW) (Co s) (λr h he ht=>⟨oY h.1 he (Kq r _),λt ht' => h.2 t ht'⟩) r h with g|⟨r',g,he,ht,e⟩
 ·exact g.u
 ·rw[e];obtain⟨q1,q2,q3,q4⟩:=Kq r' (dt s r'.pl);obtain⟨⟨⟨n1,n2,n3⟩,n4,n5⟩,h2⟩:=g;exact⟨⟨oM,oM,oM⟩,oM,λt ht=>h2 t ht⟩
theorem QE{s:ByteArray}(hs:s.size<=16000000):Co s xQ:=⟨⟨⟨Nat.zero_le _,Nat.zero_le _,Nat.zero_le _⟩,Nat.zero_le _,hs⟩,λt ht=>by cases ht⟩
theorem ahw{s:ByteArray}(hs:s.size<=16000000):Co s (Nj s).2:=ahV (Pk (Qj (QE hs)))
theorem ahv{s:ByteArray}(hs:s.size<=16000000):RdU s (me s):=by
 unfold me;split
 ·exact acj (ahw hs)
 ·exact (ahw hs).u
theorem ahI{s:ByteArray}(hs:s.size<=16000000):PgB (me s).pg:=by
 obtain⟨⟨n1,n2,n3⟩,n4,h2⟩:=ahv hs;exact⟨by show (me s).ty.length<=_;omega,by show (me s).tx.length<=_;omega,by show (me s).co.length<=_;omega,λt ht=>by have:=h2 t ht;omega⟩
section
variable (s:ByteArray)(r:Rd)(p:Pg)(hb:PgB p)
noncomputable def alu:Env prog:=⟨λ| 49=>some ((rJ 50 fc AH s r).spec [24,25,26,27])|_=>none,λ_=>none,λ_ _=>none⟩
theorem abH:(alu s r).sp 49=some ((rJ 50 fc AH s r).spec [24,25,26,27]):=rfl
noncomputable def alR:Env prog:=⟨λ| 49=>some ((rJ 51 eA yP s r).spec [24,25,26,27])|_=>none,λ_=>none,λ_ _=>none⟩
theorem aeK:(alR s r).sp 49=some ((rJ 51 eA yP s r).spec [24,25,26,27]):=rfl
noncomputable def ali:Env prog:=⟨λ| 49=>some ((rJ 54 gW zO s r).spec [24,25,26,27])|_=>none,λ_=>none,λ_ _=>none⟩
theorem acf:(ali s r).sp 49=some ((rJ 54 gW zO s r).spec [24,25,26,27]):=rfl
noncomputable def alx:Env prog:=⟨λ| 49=>some ((Mc s r).spec [24,32,16,25,26,27])|_=>none,λ_=>none,λ_ _=>none⟩
theorem aeP:(alx s r).sp 49=some ((Mc s r).spec [24,32,16,25,26,27]):=rfl
noncomputable def acP:Env prog:=⟨λ| 34=>some ((NH p hb).spec [25,26,27])|_=>none,λ| 39=>some ux|_=>none,λ_ _=>none⟩
theorem adn:(acP p hb).sp 34=some ((NH p hb).spec [25,26,27]):=rfl
theorem So:(acP p hb).eqs 39=some ux:=rfl
end
theorem Oe(z:Rd):z.pg.ty=z.ty:=rfl
theorem PK(z:Rd):z.pg.tx=z.tx:=rfl
theorem PX(z:Rd):z.pg.co=z.co:=rfl
theorem Gk(z:Rd):z.pg.src=z.src:=rfl
theorem Pf(z:Rd):z.pg.vw=z.vw:=rfl
def ou(q:Int×Int×ByteArray):SV:=.agg [.v (.int .i64 q.1),.v (.int .i64 q.2.1),.v (.string q.2.2)]
def eU:=(aj @List.replicate_succ.{0} @List.replicate_zero.{0} @an @ab jo jl gS (aj ca cc b9 cg cf cj cd (aj ck dc dh cZ db c8 dd (aj sk ss se rO Jq GS Hl (aj Hc zy zK zP Bc A3 Bu (aj AF Bs An zQ AI zz zD (aj zd A6 yU AD Am AM B4 (aj B9 B3 BM B2 BN Cl Ce (aj ry FB Fh Ef pw pU pY (aj po pD oX pQ pf qf pW (aj pc ql @aG @al @ay @ax @o4 (aj @qk.eq_1 @fV.eq_1 @fV.eq_2 @eZ.eq_1 @eZ.eq_2 @eZ.eq_3 @eZ.eq_4 (aj @eZ.eq_5 @eZ.eq_6 @eZ.eq_7 @eZ.eq_8 @kg.eq_1 @kg.eq_2 @eV.eq_1 (aj @eV.eq_2 @gO.eq_1 @gO.eq_2 @fU.eq_1 @fU.eq_2 @fU.eq_3 @sb.eq_1 (aj @mp.eq_1 @eB @gF @fY @zR.eq_1 @yE.eq_1 @qM.eq_1 (aj @Li.eq_1 @jV.eq_1 @jV.eq_2 @su @EY.eq_1 @xZ.eq_1 @bI.eq_1 (aj @abH @aeK @acf @aeP @adn @So @rJ.eq_1 (aa @Mc.eq_1 @NH.eq_1))))))))))))))))))
theorem Md(s:ByteArray)(w:World)(fp:List Nat)(E:Nat->Value)(F:Nat->List Nat)(ha:fQ w (Out fp))(hs:ai w fp E F (aY []) w)(hz:s.size<=9223372036854775807) :
  Calls prog 20 (au E [.v (.string s)]).toArray w λe w' => ∃ E' F',e=.returned (den E' (.tup [Li 8 (q6 s).1,ou (q6 s).2]))/\(∀ k∈([]:List Nat),E' k=E k)/\ai w fp E' F' (aY (qM 50 8 (q6 s).1)) w' := by
 refine ix (nt:=85) [.cell 2 29,.cell 3 39] hs ?_ ?_ func20 rfl rfl rfl ?_
 ·simp[pH,jV,FV.keys,SV.keys]
 ·simp
 refine vR Γ0 eU ?_;refine Wp.seq ?_;refine vR Γ0 eU ?_;refine wC eU (λhc=>?_) (λhc=>?_)
 ·have h8:8388608<s.size:=by
   simp at hc;omega
  have e:q6 s=(eE,1,0,dJ):=by unfold q6;rw[if_pos h8]
  rw[e];refine vR Γ0 eU ?_;refine wZ eU ?_;exact wN (λk=>.nil) (mh eU @eE.eq_1 @dJ.eq_1 @ou.eq_1 @aE.eq_1 @cn.eq_1)
 have h8:¬ 8388608<s.size:=by
  simp at hc;omega
 have hs16:s.size<=16000000:=oM;have t1:=Qj (QE hs16);have t2:=Pk t1;have t3:=ahV t2;have tU:=ahv hs16;have tB:=ahI hs16;have ecp:q6 s=if (Nj s).1=false\/(me s).pl<s.size then (eE,110,((me s).pl:Int),dJ)
  else if (131072<(me s).ty.length\/131072<(me s).tx.length)\/131072<(me s).co.length then (eE,24,0,dJ)
  else if eW (me s).pg=(0,0,dJ) then ((me s).pg,0,0,dJ) else (eE,eW (me s).pg):=by unfold q6;rw[if_neg h8]
 refine wK ?_;refine vR Γ0 eU ?_
 refine Wp.Ix (σ' := ⟨60,bm [(0,.is (.v (.string s))),(2,.is (.own 0 0)),(3,.is (.own 8 0)),(4,.is (.own 16 0))],aY [(0,.cells 29 [.v bI,.v bI,.v bI,.v (.int .i64 0),.v (.int .i64 0)]),(8,.cells 39 [.v (.int .i64 0),.v (.int .i64 0),.v (.string ⟨#[]⟩)]),(16,.cells 110 [.own 24 0]),(24,.cells 112 [.hd 25,.hd 26,.hd 27,.v (.int .i64 xQ.src),.v (.int .i64 xQ.vw),.v (.string s),.v (.int .i64 (xQ.pl:Nat))]),(25,.row 9 1 xQ.ty.length ((aE xQ.ty).map .v)),(26,.row 9 1 xQ.tx.length ((aE xQ.tx).map .v)),(27,.row 50 4 xQ.co.length ((cn xQ.co).map .v))]⟩) ?_ ?_
 ·exact wM (λk=>if k=0 then .key 8 else if k=8 then .key 16 else if k=16 then .key 72 else if k=24 then .key 64 else if k=25 then .nil else if k=26 then .nil else if k=27 then .nil else .key k) (mh eU @xQ.eq_1 @aE.eq_1 @cn.eq_1 @List.flatMap_nil.{0,0} (show ((0:Nat):Int)=0 from rfl))
 refine wR (alu s xQ) eU ?_ ?_
 ·exact⟨dE,(QE hs16).1,ha⟩
 generalize hr1:oJ fc s xQ=r1 at *
 refine Wp.Ix (σ' := ⟨90,bm [(0,.is (.v (.string s))),(2,.is (.own 0 0)),(3,.is (.own 8 0)),(4,.is (.own 16 0))],aY [(0,.cells 29 [.v bI,.v bI,.v bI,.v (.int .i64 0),.v (.int .i64 0)]),(8,.cells 39 [.v (.int .i64 0),.v (.int .i64 0),.v (.string ⟨#[]⟩)]),(16,.cells 110 [.own 24 0]),(24,.cells 112 [.hd 25,.hd 26,.hd 27,.v (.int .i64 r1.src),.v (.int .i64 r1.vw),.v (.string s),.v (.int .i64 (r1.pl:Nat))]),(25,.row 9 1 r1.ty.length ((aE r1.ty).map .v)),(26,.row 9 1 r1.tx.length ((aE r1.tx).map .v)),(27,.row 50 4 r1.co.length ((cn r1.co).map .v))]⟩) ?_ ?_
 ·exact wM (λk=>if k=25 then .key 504 else if k=26 then .key 505 else if k=27 then .key 506 else .key k) eU
 refine wR (alR s r1) eU ?_ ?_
 ·exact⟨dE,t1.1,ha⟩
 generalize hr2:oJ eA s r1=r2 at *;refine vR Γ0 eU ?_
 refine Wp.Ix (σ' := ⟨120,bm [(0,.is (.v (.string s))),(2,.is (.own 0 0)),(3,.is (.own 8 0)),(4,.is (.own 16 0)),(5,.is (.own 32 0))],aY [(0,.cells 29 [.v bI,.v bI,.v bI,.v (.int .i64 0),.v (.int .i64 0)]),(8,.cells 39 [.v (.int .i64 0),.v (.int .i64 0),.v (.string ⟨#[]⟩)]),(16,.cells 110 [.own 24 0]),(32,.cells 4 [.v (.bool false)]),(24,.cells 112 [.hd 25,.hd 26,.hd 27,.v (.int .i64 r2.src),.v (.int .i64 r2.vw),.v (.string s),.v (.int .i64 (r2.pl:Nat))]),(25,.row 9 1 r2.ty.length ((aE r2.ty).map .v)),(26,.row 9 1 r2.tx.length ((aE r2.tx).map .v)),(27,.row 50 4 r2.co.length ((cn r2.co).map .v))]⟩) ?_ ?_
 ·exact wM (λk=>if k=25 then .key 744 else if k=26 then .key 745 else if k=27 then .key 746 else if k=32 then .key 752 else .key k) eU
 refine wR (alx s r2) eU ?_ ?_
 ·exact⟨dE,t2.1,ha⟩
 have hM:Nj s=sx s r2:=by unfold Nj;rw[hr1,hr2]
 rw[hM]at ecp;generalize hon:sx s r2=q at *;obtain⟨b,r3⟩:=q;simp only at t3 ecp;have hZ:me s=if b=true then oJ gW s r3 else r3:=by unfold me;rw[hM]
 refine Wp.Ix (σ' := ⟨150,bm [(0,.is (.v (.string s))),(2,.is (.own 0 0)),(3,.is (.own 8 0)),(4,.is (.own 16 0)),(5,.is (.own 32 0))],aY [(0,.cells 29 [.v bI,.v bI,.v bI,.v (.int .i64 0),.v (.int .i64 0)]),(8,.cells 39 [.v (.int .i64 0),.v (.int .i64 0),.v (.string ⟨#[]⟩)]),(16,.cells 110 [.own 24 0]),(32,.cells 4 [.v (.bool b)]),(24,.cells 112 [.hd 25,.hd 26,.hd 27,.v (.int .i64 r3.src),.v (.int .i64 r3.vw),.v (.string s),.v (.int .i64 (r3.pl:Nat))]),(25,.row 9 1 r3.ty.length ((aE r3.ty).map .v)),(26,.row 9 1 r3.tx.length ((aE r3.tx).map .v)),(27,.row 50 4 r3.co.length ((cn r3.co).map .v))]⟩) ?_ ?_
 ·exact wM (λk=>if k=25 then .key 976 else if k=26 then .key 977 else if k=27 then .key 978 else .key k) eU
 refine aW ⟨200,bm [(0,.is (.v (.string s))),(2,.is (.own 0 0)),(3,.is (.own 8 0)),(4,.is (.own 16 0)),(5,.is (.own 32 0))],aY [(0,.cells 29 [.v bI,.v bI,.v bI,.v (.int .i64 0),.v (.int .i64 0)]),(8,.cells 39 [.v (.int .i64 0),.v (.int .i64 0),.v (.string ⟨#[]⟩)]),(16,.cells 110 [.own 24 0]),(32,.cells 4 [.v (.bool b)]),(24,.cells 112 [.hd 25,.hd 26,.hd 27,.v (.int .i64 (me s).src),.v (.int .i64 (me s).vw),.v (.string s),.v (.int .i64 ((me s).pl:Nat))]),(25,.row 9 1 (me s).ty.length ((aE (me s).ty).map .v)),(26,.row 9 1 (me s).tx.length ((aE (me s).tx).map .v)),(27,.row 50 4 (me s).co.length ((cn (me s).co).map .v))]⟩ ?_ ?_
 ·skip;refine vR Γ0 eU ?_;cases b with
  | true=>
   refine wC eU (λhc=>?_) (λhc=>?_)
   ·rw[if_pos rfl]at hZ;rw[hZ];refine wr (ali s r3) eU ?_ ?_
    ·exact⟨dE,t3.1,ha⟩
    exact wM (λk=>if k=25 then .key 1232 else if k=26 then .key 1233 else if k=27 then .key 1234 else .key k) eU
   ·exact absurd hc sI
  |false=>
   refine wC eU (λhc=>?_) (λhc=>?_)
   ·exact absurd hc sI
   rw[if_neg sI]at hZ;rw[hZ];refine wK ?_;exact wM (λk=>.key k) eU
 clear hZ;generalize me s=z at *;obtain⟨⟨m1,m2,m3⟩,m4,m5⟩:=tU;refine Wp.seq ?_;refine vR Γ0 eU ?_;refine wC eU (λhc=>?_) (λhc=>?_)
 ·have hbad:b=false\/z.pl<s.size:=by
   cases b with
   |false=>exact .inl rfl
   |true=>
    right;simpa using hc
  rw[if_pos hbad]at ecp;rw[ecp];refine Qr Γ0 eU ?_;refine wZ eU ?_;exact wN (λk=>.nil) (mh eU @eE.eq_1 @dJ.eq_1 @ou.eq_1 @aE.eq_1 @cn.eq_1)
 have hgood:¬ (b=false\/z.pl<s.size):=by
  cases b with
  |false=>simp at hc
  |true=>
   simp at hc;rintro (h|h)
   ·cases h
   ·omega
 rw[if_neg hgood]at ecp;clear hc;refine wK ?_;refine Wp.seq ?_;refine kO Γ0 eU ?_ ?_
 ·exact⟨⟨_,rfl⟩,⟨_,rfl⟩,_,rfl⟩
 refine wC eU (λhc=>?_) (λhc=>?_)
 ·have h24:(131072<z.ty.length\/131072<z.tx.length)\/131072<z.co.length:=by
   simp only[decide_eq_true_eq]at hc;split at hc<;>split at hc<;>omega
  rw[if_pos h24]at ecp;rw[ecp];refine vR Γ0 eU ?_;refine wZ eU ?_;exact wN (λk=>.nil) (mh eU @eE.eq_1 @dJ.eq_1 @ou.eq_1 @aE.eq_1 @cn.eq_1)
 have h24:¬ ((131072<z.ty.length\/131072<z.tx.length)\/131072<z.co.length):=by
  simp only[decide_eq_false_iff_not]at hc;split at hc<;>split at hc<;>omega
 rw[if_neg h24]at ecp;clear hc;refine wK ?_;refine Wp.seq ?_;refine wR (acP z.pg tB) (mh eU @Oe @PK @PX @Gk @Pf) ?_ ?_
 ·exact⟨dE,ha.1.1⟩
 generalize hrest:eW z.pg=rs at *;obtain⟨c,i,t⟩:=rs;refine vR (acP z.pg tB) eU ?_;refine wC eU (λhc=>?_) (λhc=>?_)
 ·have hne:¬ (c,i,t)=(0,0,dJ):=by
   intro h;simp only[Prod.mk.injEq]at h;obtain⟨rfl,rfl,rfl⟩:=h;simp[dJ]at hc
  rw[if_neg hne]at ecp;rw[ecp];refine Qr Γ0 eU ?_;refine wZ eU ?_;exact wN (λk=>.nil) (mh eU @eE.eq_1 @dJ.eq_1 @ou.eq_1 @aE.eq_1 @cn.eq_1)
 ·have heq:(c,i,t)=(0,0,dJ):=by
   simp at hc;obtain⟨⟨rfl,rfl⟩,rfl⟩:=hc;rfl
  rw[if_pos heq]at ecp;rw[ecp];refine wK ?_;refine vR Γ0 eU ?_;refine wZ eU ?_;exact wN (λk=>if k=8 then .key 25 else if k=9 then .key 26 else if k=10 then .key 27 else .key k) (aj eU @dJ.eq_1 @ou.eq_1 @Oe @PK @PX @Gk @Pf)
def PB:aM prog 48 where
 pre:=λW bs as_=>∃ (l:ByteArray) (n:Nat),as_=[.val (.string l),.val (.int .i64 (n:Nat))]/\l.size<=100000000/\n<=9223372036854775807
 res:=λ_ as_=>match as_ with
  |[.val (.string l),.val (.int _ n)]=>riV (Bp n.toNat l)
  |_=>undef
 enters:=call48
 ok:=by
  intro W w bs us as_ hk hu hp;obtain⟨s,i,rfl,h1,h2⟩:=hp
  match us,hu with
  |[x,y],hu=>
   obtain⟨rfl,rfl,_⟩:=hu;exact U3 s i h1 h2 w
theorem Te(W:World)(bs:List Nat)(l:ByteArray)(n:Nat):PB.pre W bs [.val (.string l),.val (.int .i64 (n:Nat))]=(l.size<=100000000/\n<=9223372036854775807):=
 propext ⟨λ⟨s',i',h,h2⟩=>by
  simp only[List.cons.injEq,AV.val.injEq,Value.string.injEq,Value.int.injEq,true_and,and_true]at h
  obtain⟨rfl,h⟩:=h
  obtain rfl:n=i' := oM
  exact h2,λh=>⟨l,n,rfl,h⟩⟩
theorem SY(W:World)(l:ByteArray)(n:Nat):PB.res W [.val (.string l),.val (.int .i64 (n:Nat))]=riV (Bp n l):=by
 show riV (Bp ((n:Int)).toNat l)=_;rw[Int.toNat_natCast]
def FD(p:Pg)(hb:PgB p):mo prog 13 where
 args:=[Li 0 p]
 L:=qM 85 0 p
 val:=.v (YU (ie p))
 L' := qM 85 0 p
 eo:=[0,1,2]
 pre:=λW bs=>True
 low:=by simp[qM]
 kept:=by simp[qM]
 vk:=by simp[SV.keys]
 lk:=by simp[qM,aT.keys,aA]
 nd:=by simp[qM]
 enters:=call13
 ok:=by
  intro W w bs fp E F hk hm hs hp;obtain⟨a1,a2,a3,c1,c2,c3,he,g1,g2,g3⟩:=q5 hs (ahr 85 p) (ahH 85 p) (ahZ 85 p);simp only[au,he];exact (Lp p a1 a2 a3 c1 c2 c3 w ⟨hb,g1,g2,g3⟩).mono λe w' ⟨h1,h2⟩=>⟨E,F,h1,λ_ _=>rfl,hs.grow h2⟩
section
variable (l:ByteArray)(hl:l.size<=100000000)(p:Pg)(hb:PgB p)
noncomputable def rC:Env prog:=⟨λ| 43=>some yu.spec|30=>some uN.spec|45=>some E9.spec|44=>some P8.spec|46=>some (uF l hl).spec|47=>some RZ.spec|48=>some PB.spec|_=>none,λ_=>none,λ_ _=>none⟩
theorem abu:(rC l hl).sp 43=some yu.spec:=rfl
theorem agz:(rC l hl).sp 30=some uN.spec:=rfl
theorem ab7:(rC l hl).sp 45=some E9.spec:=rfl
theorem ado:(rC l hl).sp 44=some P8.spec:=rfl
theorem ae0:(rC l hl).sp 46=some (uF l hl).spec:=rfl
theorem abp:(rC l hl).sp 47=some RZ.spec:=rfl
theorem agq:(rC l hl).sp 48=some PB.spec:=rfl
noncomputable def alO:Env prog:=⟨λ| 13=>some ((FD p hb).spec [25,26,27])|_=>none,λ_=>none,λ_ _=>none⟩
theorem aeZ:(alO p hb).sp 13=some ((FD p hb).spec [25,26,27]):=rfl
end
theorem uh{s:ByteArray}{r r2:Rd}(h:Co s r)(he:bL s r.pl<s.size)(q:r2.pl=r.pl/\r2.ty.length<=r.ty.length+1/\r2.tx.length<=r.tx.length+1/\r2.co.length<=r.co.length+1)(ht:∀ t∈r2.ty,t.size<=s.size):Co s { r2 with pl:=bL s r.pl+1 }:=⟨oY h.1 he q,ht⟩
def aO:=(aj @List.replicate_succ.{0} @List.replicate_zero.{0} @an @ab jo jl BH (aj BJ BG gS ca cc b9 cg (aj cf cj cd ck fu fE fj (aj fz fw dc dh cZ db c8 (aj dd sk ss se rO amu amE (aj aex agK af5 ae4 aaQ aan Yl (aj U9 Wt Yh VK Zn Xw HM (aj JG HK Kf G7 IY JH Ja (aj GX vC u5 D8 EJ ah0 ai3 (aj @aG @al @ay @ax @o4 @qk.eq_1 @fV.eq_1 (aj @fV.eq_2 @eZ.eq_1 @eZ.eq_2 @eZ.eq_3 @eZ.eq_4 @eZ.eq_5 @eZ.eq_6 (aj @eZ.eq_7 @eZ.eq_8 @kg.eq_1 @kg.eq_2 @eV.eq_1 @eV.eq_2 @gO.eq_1 (aj @gO.eq_2 @fU.eq_1 @fU.eq_2 @fU.eq_3 @sb.eq_1 @mp.eq_1 @eB (aj @gF @fY @qM.eq_1 @Li.eq_1 @jV.eq_1 @jV.eq_2 @bI.eq_1 (aj @abu @agz @ab7 @ado @ae0 @abp @agq (aj @aeZ @FD.eq_1 @uF.eq_1 @w5 @wH @AG @zX (aj @Ar @As @C6 @DW @I3 @Iy @SY @Te)))))))))))))))))
theorem EI(s:ByteArray)(w:World)(fp:List Nat)(E:Nat->Value)(F:Nat->List Nat)(hs:ai w fp E F (aY []) w)(hz:s.size<=9223372036854775807) :
  Calls prog 19 (au E [.v (.string s)]).toArray w λe w' => ∃ E' F',e=.returned (den E' (.tup [Li 8 (JD s).1,.v (.int .i64 (JD s).2.1),.v (.int .i64 (JD s).2.2.1),.v (.string (JD s).2.2.2)]))/\(∀ k∈([]:List Nat),E' k=E k)/\ai w fp E' F' (aY (qM 85 8 (JD s).1)) w' := by
 refine ix (nt:=194) [.cell 2 35,.tmp 3,.tmp 4,.tmp 5] hs ?_ ?_ func19 rfl rfl rfl ?_
 ·simp[pH,jV,FV.keys,SV.keys]
 ·simp
 refine vR Γ0 aO ?_;refine Wp.seq ?_;refine vR Γ0 aO ?_;refine wC aO (λhc=>?_) (λhc=>?_)
 ·have h8:8388608<s.size:=by
   simp at hc;omega
  have e:JD s=(eE,1,0,dJ):=by unfold JD;rw[if_pos h8]
  rw[e];refine vR Γ0 aO ?_;refine wZ aO ?_;exact wN (λk=>.nil) (oy aO @eE.eq_1 @dJ.eq_1 @aE.eq_1 @cn.eq_1)
 have h8:¬ 8388608<s.size:=by
  simp at hc;omega
 have edp:JD s=match Gx s s.size 0 xQ with
  |.error i=>(eE,110,(i:Int),dJ)
  |.ok (g,r)=>if g<2 then (eE,110,(s.size:Int),dJ)
   else if (ie r.pg).1=0 then (r.pg,0,0,dJ) else (eE,ie r.pg):=by
  unfold JD;rw[if_neg h8];cases Gx s s.size 0 xQ<;>rfl
 have hs16:s.size<=16000000:=oM;clear hc;refine wK ?_;refine vR Γ0 aO ?_;refine vR Γ0 aO ?_;refine vR Γ0 aO ?_;refine Wp.seq (Wp.block ?_)
 refine Wp.loop (λp:Nat×Nat×Rd=>⟨60,bm [(0,.is (.v (.string s))),(2,.is (.own 0 0)),(6,.is (.own 8 0)),(7,.is (.v (.int .i64 (p.2.1:Nat)))),(8,.is (.v (.int .i64 (p.2.2.pl:Nat))))],aY [(0,.cells 35 [.v bI,.v bI,.v bI,.v (.int .i64 0),.v (.int .i64 0)]),(8,.cells 35 [.hd 25,.hd 26,.hd 27,.v (.int .i64 p.2.2.src),.v (.int .i64 p.2.2.vw)]),(25,.row 9 1 p.2.2.ty.length ((aE p.2.2.ty).map .v)),(26,.row 9 1 p.2.2.tx.length ((aE p.2.2.tx).map .v)),(27,.row 85 4 p.2.2.co.length ((cn p.2.2.co).map .v))]⟩) (λp=>s.size<=p.2.2.pl+p.1/\Co s p.2.2/\p.2.1<=2/\Gx s p.1 p.2.1 p.2.2=Gx s s.size 0 xQ) (λp=>p.1) (s.size,0,xQ) ?_ ⟨by dsimp only[xQ];omega,QE hs16,by dsimp only;omega,rfl⟩ ?_
 ·exact wM (λk=>if k=0 then .key 8 else if k=8 then .key 64 else if k=25 then .nil else if k=26 then .nil else if k=27 then .nil else .key k) (mh aO @xQ.eq_1 @aE.eq_1 @cn.eq_1 @List.flatMap_nil.{0,0} (show ((0:Nat):Int)=0 from rfl))
 rintro⟨n,g,r⟩ ⟨g1,gT,g2,g4⟩;dsimp only at g1 gT g2 g4 ⊢;have gB:=gT;obtain⟨⟨⟨b1,b2,b3⟩,b4,b5⟩,b6⟩:=gB;refine Wp.seq ?_;refine vR Γ0 aO ?_;refine wC aO (λhc=>?_) (λhc=>?_)
 ·have hlt:r.pl<s.size:=by
   simp at hc;omega
  obtain⟨n,rfl⟩:∃ n',n=n' + 1:=⟨n-1,oM⟩;rw[Gx,if_pos hlt]at g4;clear hc;have hel:=jR (Nat.le_of_lt hlt);have hll:=It s (Nat.le_of_lt hlt);refine wK ?_;refine Wp.block ?_;refine vR Γ0 aO ?_
  refine aW ⟨120,bm [(0,.is (.v (.string s))),(2,.is (.own 0 0)),(6,.is (.own 8 0)),(7,.is (.v (.int .i64 (g:Nat)))),(8,.is (.v (.int .i64 (r.pl:Nat)))),(9,.is (.v (.int .i64 (bL s r.pl:Nat))))],aY [(0,.cells 35 [.v bI,.v bI,.v bI,.v (.int .i64 0),.v (.int .i64 0)]),(8,.cells 35 [.hd 25,.hd 26,.hd 27,.v (.int .i64 r.src),.v (.int .i64 r.vw)]),(25,.row 9 1 r.ty.length ((aE r.ty).map .v)),(26,.row 9 1 r.tx.length ((aE r.tx).map .v)),(27,.row 85 4 r.co.length ((cn r.co).map .v))]⟩ ?_ ?_
  ·skip;refine Wp.block ?_
   refine Wp.loop (λp:Nat×Nat=>⟨100,bm [(0,.is (.v (.string s))),(2,.is (.own 0 0)),(6,.is (.own 8 0)),(7,.is (.v (.int .i64 (g:Nat)))),(8,.is (.v (.int .i64 (r.pl:Nat)))),(9,.is (.v (.int .i64 (p.2:Nat))))],aY [(0,.cells 35 [.v bI,.v bI,.v bI,.v (.int .i64 0),.v (.int .i64 0)]),(8,.cells 35 [.hd 25,.hd 26,.hd 27,.v (.int .i64 r.src),.v (.int .i64 r.vw)]),(25,.row 9 1 r.ty.length ((aE r.ty).map .v)),(26,.row 9 1 r.tx.length ((aE r.tx).map .v)),(27,.row 85 4 r.co.length ((cn r.co).map .v))]⟩) (λp=>p.2+p.1=s.size/\xB s p.1 p.2=bL s r.pl) (λp=>p.1) (s.size-r.pl,r.pl) ?_ ⟨by dsimp only;omega,rfl⟩ ?_
   ·exact wM (λk=>.key k) aO
   rintro⟨m,j⟩ ⟨k1,k2⟩;dsimp only at k1 k2 ⊢;refine Wp.seq ?_;by_cases hj:j<s.size
   ·have e1:decide ((j:Int)<((s.size:Nat):Int))=true:=by simp;omega
    have wj:IntKind.i64.wrap ((j:Int)+1)=((j+1:Nat):Int):=wW;obtain⟨m,rfl⟩:∃ m',m=m' + 1:=⟨m-1,oM⟩;rw[xB]at k2;refine wR Γ0 (aa aO e1) ?_ ?_
    ·omega
    refine wC aO (λhc=>?_) (λhc=>?_)
    ·have hb:¬ bt s (j:Nat)=10:=by simpa using hc
     rw[if_neg hb]at k2;refine wK ?_;refine Wp.block ?_;refine vr Γ0 (aa aO wj) ?_;refine⟨(m,j+1),⟨by dsimp only;omega,k2⟩,by dsimp only;omega,?_⟩;exact wM (λk=>.key k) aO
    have hb:bt s (j:Nat)=10:=by simpa using hc
    rw[if_pos hb]at k2;refine wE ?_;rw[<- k2];exact wM (λk=>.key k) aO
   ·have e1:decide ((j:Int)<((s.size:Nat):Int))=false:=by simp;omega
    have k3:j=bL s r.pl:=by
     rw[<- k2];obtain rfl:m=0:=oM;rfl
    refine wR Γ0 (aa aO e1) ?_ ?_
    ·exact λh=>by cases h
    refine wC aO (λhc=>?_) (λhc=>?_)
    ·exact absurd hc sI
    refine wE ?_;rw[<- k3];exact wM (λk=>.key k) aO
  generalize he:bL s r.pl=e at *;have hln:s.extract r.pl e=dt s r.pl:=by unfold dt;rw[he]
  generalize hL:dt s r.pl=l at *;have hl8:l.size<=100000000:=oM;have wl:IntKind.i64.wrap ((l.size:Int)-1)=(l.size:Int)-1:=ae oM oM;have htb:(⟨#[116,121,112,101,32,47]⟩:ByteArray)=cH:=rfl;have hxb:(⟨#[116,101,120,116,32]⟩:ByteArray)=fR:=rfl;have hmb:(⟨#[109,97,105,110]⟩:ByteArray)=oF:=rfl
  have hll2:l.size<=16000000:=oM;refine wR Γ0 (aa aO hln) ?_ ?_
  ·omega
  refine vR Γ0 aO ?_;refine Wp.seq ?_;refine wR (rC l hl8) (bQ aO wl htb) ?_ ?_
  ·refine⟨λh=>?_,λh=>?_,λh=>?_⟩
   ·simp at h;omega
   ·simp at h;omega
   ·simp at h;rw[dD _ _ _ oM];omega
  have hex:((l.size:Int)-1).toNat=l.size-1:=oM;have hA:((((decide ((g:Int)=0)&&kI l cH)&&decide (6<(l.size:Int)))&&decide (bt l ((l.size:Int)-1)=47))&&uq (l.extract 6 ((l.size:Int)-1).toNat))=(decide (g=0)&&J0 l):=by
   have d6:decide ((6:Int)<(l.size:Int))=decide (6<l.size):=decide_eq_decide.2 oM;rw[J0,hex,d6];simp[Bool.and_assoc]
  refine wC aO (λhc=>?_) (λhc=>?_)
  ·have hcA:=hc;rw[hA]at hcA;rw[Mi,if_pos hcA]at g4;simp only at g4;have h0:g=0/\6<l.size:=by
    simp at hc;omega
   have ha:=mW r.ty (l.extract 6 (l.size-1));have hz1:(r.ty++[l.extract 6 (l.size-1)]).length=r.ty.length+1:=by rw[List.length_append];rfl
   obtain⟨rfl,h6⟩:=h0;clear hc;refine xv Γ0 (eT aO wl hex ha) ?_ ?_
   ·exact⟨oM,by unfold maxLen;omega,oM⟩
   by_cases he2:e<s.size
   ·rw[if_pos he2]at g4;have de:decide ((e:Int)<((s.size:Nat):Int))=true:=by simp;omega
    have we:IntKind.i64.wrap ((e:Int)+1)=((e+1:Nat):Int):=wW;refine Wp.seq ?_;refine vR Γ0 (aa aO de) ?_;refine wC aO (λhc=>?_) (λhc=>?_)
    ·exact absurd hc sI
    refine wK ?_;refine vr Γ0 (aa aO we) ?_
    have hnx:=uh (r2:={ r with ty:=r.ty++[l.extract 6 (l.size-1)] }) gT (by rw[he];exact he2) ⟨rfl,by dsimp only;first|omega|(rw[List.length_append];exact Nat.le_refl _),by dsimp only;first|omega|(rw[List.length_append];exact Nat.le_refl _),by dsimp only;first|omega|(rw[List.length_append];exact Nat.le_refl _)⟩ (λt ht=>by rcases List.mem_append.1 ht with h|h<;>first|exact b6 t h|(rw[List.mem_singleton.1 h,dD _ _ _ oM];omega))
    rw[he]at hnx;refine⟨(n,0,{ { r with ty:=r.ty++[l.extract 6 (l.size-1)] } with pl:=e+1 }),⟨by dsimp only;omega,hnx,by dsimp only;omega,g4⟩,by dsimp only;omega,?_⟩;exact wM (λk=>if k=25 then .key 1320 else .key k) (aa aO hz1)
   ·rw[if_neg he2]at g4;have de:decide ((e:Int)<((s.size:Nat):Int))=false:=by simp;omega
    rw[<- g4]at edp;simp only at edp;rw[edp];refine Wp.seq ?_;refine vR Γ0 (aa aO de) ?_;refine wC aO (λhc=>?_) (λhc=>?_)
    ·skip;refine vR Γ0 aO ?_;refine wZ aO ?_;exact wN (λk=>.nil) (oy aO @eE.eq_1 @dJ.eq_1 @aE.eq_1 @cn.eq_1)
    ·exact absurd hc sI
  have hcA:=hc;rw[hA]at hcA;rw[Mi,if_neg (by rw[hcA];simp)]at g4;clear hc;refine wR (rC l hl8) aO ?_ ?_
  ·have hza:(oT l).size<=l.size:=by
    unfold oT;split
    ·exact Nat.zero_le _
    ·rw[dD _ _ _ (Nat.le_refl _)];omega
   omega
  refine vR (rC l hl8) (aa aO hxb) ?_;have hB:((decide ((g:Int)<=1)&&kI l fR)&&(jI (oT l)).2)=(decide (g<=1)&&GO l):=by
   rw[GO,<- Bool.and_assoc]
   congr 2
   simp;omega
  refine wC aO (λhc=>?_) (λhc=>?_)
  ·have hcB:=hc;rw[hB]at hcB;rw[if_pos hcB]at g4;simp only at g4;have ha:=mW r.tx (jI (oT l)).1;have hz1:(r.tx++[(jI (oT l)).1]).length=r.tx.length+1:=by rw[List.length_append];rfl
   clear hc;refine vR Γ0 aO ?_;refine wr Γ0 (aa aO ha) ?_ ?_
   ·exact⟨by unfold maxLen;omega,oM⟩
   by_cases he2:e<s.size
   ·rw[if_pos he2]at g4;have de:decide ((e:Int)<((s.size:Nat):Int))=true:=by simp;omega
    have we:IntKind.i64.wrap ((e:Int)+1)=((e+1:Nat):Int):=wW;refine Wp.seq ?_;refine vR Γ0 (aa aO de) ?_;refine wC aO (λhc=>?_) (λhc=>?_)
    ·exact absurd hc sI
    refine wK ?_;refine vr Γ0 (aa aO we) ?_
    have hnx:=uh (r2:={ r with tx:=r.tx++[(jI (oT l)).1] }) gT (by rw[he];exact he2) ⟨rfl,by dsimp only;first|omega|(rw[List.length_append];exact Nat.le_refl _),by dsimp only;first|omega|(rw[List.length_append];exact Nat.le_refl _),by dsimp only;first|omega|(rw[List.length_append];exact Nat.le_refl _)⟩ b6
    rw[he]at hnx;refine⟨(n,1,{ { r with tx:=r.tx++[(jI (oT l)).1] } with pl:=e+1 }),⟨by dsimp only;omega,hnx,by dsimp only;omega,g4⟩,by dsimp only;omega,?_⟩;exact wM (λk=>if k=26 then .key 1432 else .key k) (bQ aO hz1 (show ((1:Nat):Int)=1 from rfl))
   ·rw[if_neg he2]at g4;have de:decide ((e:Int)<((s.size:Nat):Int))=false:=by simp;omega
    rw[<- g4]at edp;simp only at edp;rw[edp];refine Wp.seq ?_;refine vR Γ0 (aa aO de) ?_;refine wC aO (λhc=>?_) (λhc=>?_)
    ·skip;refine vR Γ0 aO ?_;refine wZ aO ?_;exact wN (λk=>.nil) (oy aO @eE.eq_1 @dJ.eq_1 @aE.eq_1 @cn.eq_1)
    ·exact absurd hc sI
  have hcB:=hc;rw[hB]at hcB;rw[if_neg (by rw[hcB];simp)]at g4;clear hc;have hln1:1<=(gQ l).length:=by rw[<- ot,lW];omega
  rcases hp:gQ l with _|⟨a,t⟩
  ·rw[hp]at hln1;simp at hln1
  have hrow:aE (a::t)=.string a::aE t:=rfl;refine vR (rC l hl8) (aa aO hp) ?_;refine wR Γ0 (bQ aO hrow hmb) ?_ ?_
  ·exact⟨λ_=>⟨_,rfl⟩,λ_=>by omega,λ_=>by omega⟩
  refine wC aO (λhc=>?_) (λhc=>?_)
  ·have hm:g<=1/\t.length=2/\a=oF:=by
    simp only[Bool.and_eq_true,decide_eq_true_eq]at hc;exact⟨oM,oM,hc.2⟩
   obtain⟨hg1,ht2,rfl⟩:=hm;obtain⟨b,c,rfl⟩:∃ b c,t=[b,c]:=by
    match t,ht2 with
    |[b,c],_=>exact⟨b,c,rfl⟩
   have hrm:vc l=some (b,c):=by unfold vc;rw[hp];simp
   rw[hrm,if_pos (by simp;omega)]at g4;simp only at g4;clear hc;refine wR (rC l hl8) (bQ aO hrow @aE.eq_1) ?_ ?_
   ·decide
   refine wR (rC l hl8) (bQ aO hrow @aE.eq_1) ?_ ?_
   ·decide
   refine vR Γ0 aO ?_;refine vR Γ0 aO ?_;refine vr Γ0 aO ?_;by_cases hok:(bT b&&bT c)=true
   ·have hb1:bT b=true/\bT c=true:=by simpa using hok
    rw[if_pos hok]at g4;simp only at g4;by_cases he2:e<s.size
    ·rw[if_pos he2]at g4;have de:decide ((e:Int)<((s.size:Nat):Int))=true:=by simp;omega
     have we:IntKind.i64.wrap ((e:Int)+1)=((e+1:Nat):Int):=wW;refine Wp.seq ?_;refine vR Γ0 (eT aO de hb1.1 hb1.2) ?_;refine wC aO (λhc=>?_) (λhc=>?_)
     ·exact absurd hc sI
     refine wK ?_;refine vr Γ0 (aa aO we) ?_
     have hnx:=uh (r2:={ r with src:=iJ b,vw:=iJ c }) gT (by rw[he];exact he2) ⟨rfl,by dsimp only;first|omega|(rw[List.length_append];exact Nat.le_refl _),by dsimp only;first|omega|(rw[List.length_append];exact Nat.le_refl _),by dsimp only;first|omega|(rw[List.length_append];exact Nat.le_refl _)⟩ b6
     rw[he]at hnx;refine⟨(n,2,{ { r with src:=iJ b,vw:=iJ c } with pl:=e+1 }),⟨by dsimp only;omega,hnx,by dsimp only;omega,g4⟩,by dsimp only;omega,?_⟩;exact wM (λk=>.key k) (aa aO (show ((2:Nat):Int)=2 from rfl))
    ·rw[if_neg he2]at g4;have de:decide ((e:Int)<((s.size:Nat):Int))=false:=by simp;omega
     rw[<- g4]at edp;simp only at edp;rw[edp];refine Wp.seq ?_;refine vR Γ0 (eT aO de hb1.1 hb1.2) ?_;refine wC aO (λhc=>?_) (λhc=>?_)
     ·skip;refine vR Γ0 aO ?_;refine wZ aO ?_;exact wN (λk=>.nil) (oy aO @eE.eq_1 @dJ.eq_1 @aE.eq_1 @cn.eq_1)
     ·exact absurd hc sI
   ·have hb1:∀ x,((x&&bT b)&&bT c)=false:=λx=>by
     rw[Bool.and_assoc,eq_false_of_ne_true hok,Bool.and_false]
    rw[if_neg hok]at g4;rw[<- g4]at edp;simp only at edp;rw[edp];refine Wp.seq ?_;refine vR Γ0 (aa aO hb1) ?_;refine wC aO (λhc=>?_) (λhc=>?_)
    ·skip;refine vR Γ0 aO ?_;refine wZ aO ?_;exact wN (λk=>.nil) (oy aO @eE.eq_1 @dJ.eq_1 @aE.eq_1 @cn.eq_1)
    ·exact absurd hc sI
  have hC:¬ (decide (g<=1)&&(vc l).isSome)=true:=by
   intro h;simp only[Bool.and_eq_true,decide_eq_true_eq]at h;obtain⟨h1,h2⟩:=h;unfold vc at h2;rw[hp]at h2;rcases t with _|⟨b,_|⟨c,_|⟨d,t⟩⟩⟩
   ·cases h2
   ·cases h2
   ·simp only at h2;split at h2
    ·rename_i ha;subst ha;simp at hc;omega
    ·cases h2
   ·cases h2
  rw[if_neg hC]at g4;clear hc hC;cases hx:Bp r.co.length l with
  | none=>
   rw[hx]at g4;simp only[ite_self]at g4;refine wR (rC l hl8) (eT aO hx @riV.eq_1 @riV.eq_2) ?_ ?_
   ·exact⟨⟨_,rfl⟩,hl8,oM⟩
   refine vR Γ0 aO ?_;refine wC aO (λhc=>?_) (λhc=>?_)
   ·exact absurd hc sI
   refine vr Γ0 aO ?_;rw[<- g4]at edp;simp only at edp;rw[edp];refine Wp.seq ?_;refine vR Γ0 aO ?_;refine wC aO (λhc=>?_) (λhc=>?_)
   ·skip;refine vR Γ0 aO ?_;refine wZ aO ?_;exact wN (λk=>.nil) (oy aO @eE.eq_1 @dJ.eq_1 @aE.eq_1 @cn.eq_1)
   ·exact absurd hc sI
  | some x=>
   obtain⟨xo,xk,xa,xb⟩:=x;rw[hx]at g4;refine wR (rC l hl8) (eT aO hx @riV.eq_1 @riV.eq_2) ?_ ?_
   ·exact⟨⟨_,rfl⟩,hl8,oM⟩
   by_cases hg2:g=2
   ·subst hg2;rw[if_pos rfl]at g4;simp only at g4;have ha:=JW r.co xo xk xa xb;have hz1:(r.co++[(xo,xk,xa,xb)]).length=r.co.length+1:=by rw[List.length_append];rfl
    refine vR Γ0 aO ?_;refine wC aO (λhc=>?_) (λhc=>?_)
    ·skip;refine wr Γ0 (aa aO ha) ?_ ?_
     ·exact⟨by unfold maxLen;omega,oM⟩
     by_cases he2:e<s.size
     ·rw[if_pos he2]at g4;have de:decide ((e:Int)<((s.size:Nat):Int))=true:=by simp;omega
      have we:IntKind.i64.wrap ((e:Int)+1)=((e+1:Nat):Int):=wW;refine Wp.seq ?_;refine vR Γ0 (aa aO de) ?_;refine wC aO (λhc=>?_) (λhc=>?_)
      ·exact absurd hc sI
      refine wK ?_;refine vr Γ0 (aa aO we) ?_
      have hnx:=uh (r2:={ r with co:=r.co++[(xo,xk,xa,xb)] }) gT (by rw[he];exact he2) ⟨rfl,by dsimp only;first|omega|(rw[List.length_append];exact Nat.le_refl _),by dsimp only;first|omega|(rw[List.length_append];exact Nat.le_refl _),by dsimp only;first|omega|(rw[List.length_append];exact Nat.le_refl _)⟩ b6
      rw[he]at hnx;refine⟨(n,2,{ { r with co:=r.co++[(xo,xk,xa,xb)] } with pl:=e+1 }),⟨by dsimp only;omega,hnx,by dsimp only;omega,g4⟩,by dsimp only;omega,?_⟩;exact wM (λk=>if k=27 then .key 1680 else .key k) (aa aO hz1)
     ·rw[if_neg he2]at g4;have de:decide ((e:Int)<((s.size:Nat):Int))=false:=by simp;omega
      rw[<- g4]at edp;simp only at edp;rw[edp];refine Wp.seq ?_;refine vR Γ0 (aa aO de) ?_;refine wC aO (λhc=>?_) (λhc=>?_)
      ·skip;refine vR Γ0 aO ?_;refine wZ aO ?_;exact wN (λk=>.nil) (oy aO @eE.eq_1 @dJ.eq_1 @aE.eq_1 @cn.eq_1)
      ·exact absurd hc sI
    ·exact absurd hc sI
   ·rw[if_neg hg2]at g4;have dg:decide ((g:Int)=2)=false:=by simp;omega
    refine vR Γ0 (aa aO dg) ?_;refine wC aO (λhc=>?_) (λhc=>?_)
    ·exact absurd hc sI
    refine vr Γ0 aO ?_;rw[<- g4]at edp;simp only at edp;rw[edp];refine Wp.seq ?_;refine vR Γ0 aO ?_;refine wC aO (λhc=>?_) (λhc=>?_)
    ·skip;refine vR Γ0 aO ?_;refine wZ aO ?_;exact wN (λk=>.nil) (oy aO @eE.eq_1 @dJ.eq_1 @aE.eq_1 @cn.eq_1)
    ·exact absurd hc sI
 ·have hge:s.size<=r.pl:=by
   simp at hc;omega
  have hv:Gx s s.size 0 xQ=.ok (g,r):=by
   rw[<- g4];cases n with
   |zero=>rfl
   |succ n=>rw[Gx,if_neg oM]
  rw[hv]at edp;simp only at edp;have tB:PgB r.pg:=⟨by show r.ty.length<=_;omega,by show r.tx.length<=_;omega,by show r.co.length<=_;omega,λt ht=>by have:=b6 t ht;omega⟩;clear hc;refine wE ?_;refine Wp.seq ?_;refine vR Γ0 aO ?_;refine wC aO (λhc=>?_) (λhc=>?_)
  ·have h2:g<2:=by
    simp at hc;omega
   rw[if_pos h2]at edp;rw[edp];refine vR Γ0 aO ?_;refine wZ aO ?_;exact wN (λk=>.nil) (oy aO @eE.eq_1 @dJ.eq_1 @aE.eq_1 @cn.eq_1)
  have h2:¬ g<2:=by
   simp at hc;omega
  rw[if_neg h2]at edp;clear hc;refine wK ?_;refine wR (alO r.pg tB) (uv aO @Oe @PK @PX @Gk @Pf @YU.eq_1) ?_ ?_
  ·decide
  generalize hck:ie r.pg=q at *;obtain⟨c,i,t⟩:=q;dsimp only at edp;refine Wp.seq ?_;refine vR Γ0 aO ?_;refine wC aO (λhc=>?_) (λhc=>?_)
  ·have hne:¬ c=0:=by simpa using hc
   rw[if_neg hne]at edp;rw[edp];refine vR Γ0 aO ?_;refine wZ aO ?_;exact wN (λk=>.nil) (oy aO @eE.eq_1 @dJ.eq_1 @aE.eq_1 @cn.eq_1)
  have heq:c=0:=by simpa using hc
  rw[if_pos heq]at edp;rw[edp];refine wK ?_;refine vR Γ0 aO ?_;refine wZ aO ?_;exact wN (λk=>if k=8 then .key 25 else if k=9 then .key 26 else if k=10 then .key 27 else .key k) (uv aO @dJ.eq_1 @Oe @PK @PX @Gk @Pf)
def s9:=(aj @List.replicate_succ.{0} @List.replicate_zero.{0} @an @ab jo jl gS (aj ca cc b9 cg cf cj cd (aj ck dc dh cZ db c8 dd (aj sk ss se rO Jq GS Hl (aj Hc zy zK zP Bc A3 Bu (aj AF Bs An aex agK af5 ae4 (aj aaQ aan Yl U9 Wt Yh VK (aj Zn Xw B4 B9 B3 BM B2 (aj BN Cl Ce ry HM JG HK (aj Kf G7 IY JH Ja GX @aG (bQ @al @ay @ax)))))))))))
theorem TZ(l:List ByteArray)(a b:Option Addr)(c d:Nat)(hl:l.length<=140737488351232)(w:World)(ha:kZ w a (aE l))(hb:kZ w b (aE l)):Calls prog 35 #[.slice a l.length c,.slice b l.length d] w λe w' => e=.returned (.bool true)/\ah w [] w' := by
 refine af (nt:=26) [.tmp 4] func35 rfl rfl rfl ?_;refine vR Γ0 s9 ?_;refine Wp.seq ?_;refine vR Γ0 s9 ?_;refine wC s9 (λhc=>?_) (λhc=>?_)
 ·exact absurd hc sI
 refine wK ?_;refine Wp.seq ?_;refine vR Γ0 s9 ?_;refine Wp.block ?_;refine Wp.loop (λk:Nat=>⟨20,bm [(0,.is (.v (.slice a l.length c))),(1,.is (.v (.slice b l.length d))),(5,.is (.v (.int .i64 (k:Nat))))],aY []⟩) (λk=>k<=l.length) (λk=>l.length-k) 0 ?_ (Nat.zero_le _) ?_
 ·exact wM (λk=>.key k) s9
 intro k hk;refine Wp.seq ?_;refine vR Γ0 s9 ?_;refine wC s9 (λhc=>?_) (λhc=>?_)
 ·have hlt:k<l.length:=by
   simp at hc;omega
  have wk:IntKind.i64.wrap ((k:Int)+1)=((k+1:Nat):Int):=wW;obtain⟨b1,o1,rfl,hx⟩:=mT ha hlt;obtain⟨b2,o2,rfl,hy⟩:=mT hb hlt;refine wK ?_;refine Wp.seq (Wp.block ?_);refine kO Γ0 (bQ s9 hx hy) ?_ ?_
  ·omega
  refine wC s9 (λhc=>?_) (λhc=>?_)
  ·exact absurd hc sI
  refine wK ?_;refine vr Γ0 (aa s9 wk) ?_;refine⟨k+1,oM,oM,?_⟩;exact wM (λk=>.key k) s9
 ·refine wE ?_;refine vR Γ0 s9 ?_;refine wZ s9 ?_;exact λE=>rfl
def LI:aM prog 35 where
 pre:=λW bs as_=>∃ (l:List ByteArray) (a b:Option Addr) (c d:Nat),as_=[.val (.slice a l.length c),.val (.slice b l.length d)]/\l.length<=140737488351232/\gJ W (Out bs) a (aE l)/\gJ W (Out bs) b (aE l)
 res:=λ_ _=>.bool true
 enters:=call35
 ok:=by
  intro W w bs us as_ hk hu hp;obtain⟨l,a,b,c,d,rfl,hl,h1,h2⟩:=hp
  match us,hu with
  |[x,y],hu=>
   obtain⟨rfl,rfl,_⟩:=hu;exact TZ l a b c d hl w (gy h1 hk) (gy h2 hk)
theorem My(W:World)(l:List AV):LI.res W l=.bool true:=rfl
noncomputable def Γ94:Env prog:=⟨λ| 35=>some LI.spec|_=>none,λ| _=>none,λ_ _=>none⟩
theorem aiD:Γ94.sp 35=some LI.spec:=rfl
def td:=(bQ s9 aiD @My)
theorem Xs(p:Pg)(a1 a2 a3 b1 b2 b3:Option Addr)(c1 c2 c3 d1 d2 d3:Nat)(w:World)(hp:Ch p w a1 a2 a3)(hd:Ch p w b1 b2 b3):Calls prog 16 #[prV p a1 a2 a3 c1 c2 c3,prV p b1 b2 b3 d1 d2 d3] w λe w' => e=.returned (.bool true)/\ah w [] w' := by
 have h3:=hp.l3;have hx:=hp.x;have hy:=hd.x;refine af (nt:=88) [.tmp 4] func16 rfl rfl rfl ?_;refine vR Γ94 td ?_;refine Wp.seq ?_;refine wR Γ94 td ?_ ?_
 ·exact⟨⟨p.ty,_,_,_,_,rfl,hp.l1,hx.1,hy.1⟩,⟨p.tx,_,_,_,_,rfl,hp.l2,hx.2.1,hy.2.1⟩,⟨_,rfl⟩,_,rfl⟩
 refine wC td (λhc=>?_) (λhc=>?_)
 ·exact absurd hc sI
 refine wK ?_;refine Wp.seq ?_;refine vR Γ94 td ?_;refine Wp.block ?_
 refine Wp.loop (λk:Nat=>⟨90,bm [(2,.is (.own 0 0)),(3,.is (.own 8 0)),(5,.is (.v (.int .i64 (k:Nat))))],aY [(0,.cells 29 [.v (.slice a1 p.ty.length c1),.v (.slice a2 p.tx.length c2),.v (.slice a3 p.co.length c3),.v (.int .i64 p.src),.v (.int .i64 p.vw)]),(8,.cells 35 [.v (.slice b1 p.ty.length d1),.v (.slice b2 p.tx.length d2),.v (.slice b3 p.co.length d3),.v (.int .i64 p.src),.v (.int .i64 p.vw)])]⟩) (λk=>k<=p.co.length) (λk=>p.co.length-k) 0 ?_ (Nat.zero_le _) ?_
 ·exact wM (λk=>.key k) td
 intro k hk;refine Wp.seq ?_;refine vR Γ94 td ?_;refine wC td (λhc=>?_) (λhc=>?_)
 ·have hlt:k<p.co.length:=by
   simp at hc;omega
  have wk:IntKind.i64.wrap ((k:Int)+1)=((k+1:Nat):Int):=wW;obtain⟨b,o,rfl,x1,x2,x3,x4⟩:=pz hp.co hlt;obtain⟨b',o',rfl,y1,y2,y3,y4⟩:=pz hd.co hlt;generalize p.co[k]=x at *;refine wK ?_;refine Wp.seq (Wp.block ?_);refine kO Γ94 (aj td x1 x2 x3 x4 y1 y2 (aa y3 y4)) ?_ ?_
  ·omega
  refine vR Γ94 td ?_;refine wC td (λhc=>?_) (λhc=>?_)
  ·exact absurd hc sI
  refine wK ?_;refine vr Γ94 (aa td wk) ?_;refine⟨k+1,oM,oM,?_⟩;exact wM (λk=>.key k) td
 ·refine wE ?_;refine vR Γ94 td ?_;refine wZ td ?_;exact λE=>rfl
def acX:aM prog 40 where
 pre:=λW bs as_=>(∃ n op k a b:Int,as_=[.val (.int .i64 n),.val (inV op k a b)]/\0<=n/\n<=9223372036854775807/\wo op k a b)/\fS W (Out bs)/\fC W (Out bs)
 res:=λ_ as_=>match as_ with
  |[.val (.int _ n),.val (.agg ins)]=>(match ins.toList with
   |[.int _ op,.int _ k,.int _ a,.int _ b]=>.string (rn n op k a b)
   |_=>undef)
  |_=>undef
 enters:=call40
 ok:=by
  intro W w bs us as_ hk hu hp;obtain⟨⟨n,op,k,a,b,rfl,h0,h1,hi⟩,hg,ht⟩:=hp
  match us,hu with
  |[x,y],hu=>
   obtain⟨rfl,rfl,_⟩:=hu;exact aaO n op k a b h0 h1 hi w (hg.dW hk sI) (ht.dW hk sI)
section
variable (W:World)(bs:List Nat)(n op k a b:Int)
theorem ZT:acX.pre W bs [.val (.int .i64 n),.val (.agg #[.int .i64 op,.int .i64 k,.int .i64 a,.int .i64 b])]=((0<=n/\n<=9223372036854775807/\wo op k a b)/\fS W (Out bs)/\fC W (Out bs)):=
 propext ⟨λ⟨⟨n',op',k',a',b',h,h0,h1,hi⟩,h2⟩=>by
  cases h
  exact⟨⟨h0,h1,hi⟩,h2⟩,λh=>⟨⟨n,op,k,a,b,rfl,h.1⟩,h.2⟩⟩
theorem Wl:acX.res W [.val (.int .i64 n),.val (.agg #[.int .i64 op,.int .i64 k,.int .i64 a,.int .i64 b])]=.string (rn n op k a b):=rfl
end
theorem SM(W:World)(bs:List Nat)(κ:Nat)(h:Hp)(l:List SV):NR.ev W bs κ h l=XP h l:=rfl
theorem TC(W:World)(bs:List Nat)(κ:Nat)(h:Hp)(l:List SV):KZ.ev W bs κ h l=Wz h l:=rfl
section
variable (p:Pg)(a1 a2 a3:Option Addr)(c1 c2 c3:Nat)(hb:PgB p)
noncomputable def tC:Env prog:=⟨λ| 15=>some (qP p a1 a2 a3 c1 c2 c3 hb).spec|36=>some NR|38=>some DZ.spec|39=>some w8.spec|40=>some acX.spec|41=>some KZ|_=>none,λ| 39=>some ux|_=>none,λ_ _=>none⟩
theorem aiY:(tC p a1 a2 a3 c1 c2 c3 hb).sp 15=some (qP p a1 a2 a3 c1 c2 c3 hb).spec:=rfl
theorem aij:(tC p a1 a2 a3 c1 c2 c3 hb).sp 36=some NR:=rfl
theorem ai6:(tC p a1 a2 a3 c1 c2 c3 hb).sp 38=some DZ.spec:=rfl
theorem aik:(tC p a1 a2 a3 c1 c2 c3 hb).sp 39=some w8.spec:=rfl
theorem aiz:(tC p a1 a2 a3 c1 c2 c3 hb).sp 40=some acX.spec:=rfl
theorem akp:(tC p a1 a2 a3 c1 c2 c3 hb).sp 41=some KZ:=rfl
theorem Va:(tC p a1 a2 a3 c1 c2 c3 hb).eqs 39=some ux:=rfl
end
def gE:=(aj @List.replicate_succ.{0} @List.replicate_zero.{0} @an @ab jo jl gS (aj ca cc b9 cg cf cj cd (aj ck dc dh cZ db c8 dd (aj sk ss se rO Jq GS Hl (aj Hc zy zK zP Bc A3 Bu (aj AF Bs An zQ AI zz zD (aj zd A6 yU AD Am AM B4 (aj B9 B3 BM B2 BN Cl Ce (aj ry alF alw ala akU alE alZ (aj alB alD alS @aG @al @ay @ax (aj @su @EY.eq_1 @xZ.eq_1 @aiY @aij @ai6 @aik (aj @aiz @akp @Va @qP.eq_1 @LU @K2 @qV (aj @qB @ZT @Wl @SM @TC @mS @s7 (eT @Ys @Ab @nu @tw))))))))))))))
theorem LJ(p:Pg)(a1 a2 a3:Option Addr)(c1 c2 c3:Nat)(w:World)(hp:Ch p w a1 a2 a3)(hz:PgZ p)(hg:fS w (Out []))(he:bB w (Out []))(ht:fC w (Out [])) :
  Calls prog 17 #[prV p a1 a2 a3 c1 c2 c3] w λe w' => e=.returned (.string (Jf p))/\LE.ah w [] w' := by
 have hx:=hp.x;have hb:=hz.b;refine af (nt:=68) [.tmp 2] func17 rfl rfl rfl ?_;refine vR (tC p a1 a2 a3 c1 c2 c3 hb) gE ?_;refine Wp.seq ?_;refine wR (tC p a1 a2 a3 c1 c2 c3 hb) gE ?_ ?_
 ·exact⟨hx,hg,he⟩
 refine wC gE (λhc=>?_) (λhc=>?_)
 ·have h:¬ ie p=(0,0,⟨#[]⟩):=by
   intro h;rw[h]at hc;simp at hc
  have e:Jf p=⟨#[]⟩:=by rw[Jf,if_neg h]
  rw[e];refine vR (tC p a1 a2 a3 c1 c2 c3 hb) gE ?_;refine wZ gE ?_;exact λE=>rfl
 have h:ie p=(0,0,⟨#[]⟩):=by
  simp at hc;exact Prod.ext hc.1.1 (Prod.ext hc.1.2 hc.2)
 have e:Jf p=ahD p:=by rw[Jf,if_pos h]
 rw[e];obtain⟨_,hs,_⟩:=RU (congrArg Prod.fst h);have l1:=hz.l1;have l2:=hz.l2;have l3:=hz.l3;refine wK ?_;refine vR (tC p a1 a2 a3 c1 c2 c3 hb) gE ?_;refine vR (tC p a1 a2 a3 c1 c2 c3 hb) gE ?_;refine Wp.seq ?_;refine vR (tC p a1 a2 a3 c1 c2 c3 hb) gE ?_
 refine Wp.Ix (Le.conv (k:=48) (e' := .obj [.string ⟨#[]⟩] nV) (by simp only[Wk,if_true];rfl) (λE u fp w' h=>?_) (λj hj=>by cases hj)) ?_
 ·have:=yT (Ab 91) rfl h;refine⟨⟨this,?_⟩,λw'' hl=>this.local hl⟩;obtain⟨_,b,_,_,_,hu,_⟩:=this;rw[hu];rfl
 refine Wp.block ?_
 refine Wp.loop (λk:Nat=>⟨40,bm [(1,.is (.own 0 0)),(3,.is (.own 48 0)),(4,.is (.fn (.func 36) [] [.own 48 0])),(17,.is (.v (.slice a1 p.ty.length c1))),(18,.is (.v (.int .i64 p.ty.length))),(19,.is (.v (.int .i64 (k:Nat))))],aY [(0,.cells 29 [.v (.slice a1 p.ty.length c1),.v (.slice a2 p.tx.length c2),.v (.slice a3 p.co.length c3),.v (.int .i64 p.src),.v (.int .i64 p.vw)]),(48,.obj [.string (zG (yR p k))] nV)]⟩) (λk=>k<=p.ty.length) (λk=>p.ty.length-k) 0 ?_ (Nat.zero_le _) ?_
 ·exact wM (λk=>.key k) (aa gE (show zG (yR p 0)=⟨#[]⟩ from rfl))
 rintro k hk;refine vR (tC p a1 a2 a3 c1 c2 c3 hb) gE ?_;refine Wp.seq ?_;refine wC gE (λhc=>?_) (λhc=>?_)
 ·have hlt:k<p.ty.length:=by
   simp at hc;omega
  have wk:IntKind.i64.wrap ((k:Int)+1)=((k+1:Nat):Int):=wW;obtain⟨b,o,hao,x1⟩:=mT hp.ty hlt;have hsn:=Sf hlt;have hcat:=yz (Ol hz k) (by rw[Hf hk];omega);have hst:(⟨#[116,121,112,101,32,47]⟩++p.ty[k]++⟨#[47]⟩:ByteArray).size=p.ty[k].size+7:=JM p.ty[k];have hs1:=hz.z1 _ (List.getElem_mem hlt)
  have z6:(⟨#[116,121,112,101,32,47]⟩:ByteArray).size=6:=rfl;have z1:(⟨#[47]⟩:ByteArray).size=1:=rfl;have e1:=qx (yR p k) (tyL p.ty[k]);rw[<- hsn]at e1;have e2:tyL p.ty[k]=⟨#[116,121,112,101,32,47]⟩++p.ty[k]++⟨#[47]⟩:=rfl;generalize p.ty[k]=x at *;refine wK ?_;refine Wp.seq (Wp.block ?_)
  refine wR (tC p a1 a2 a3 c1 c2 c3 hb) (bQ gE hao x1) ?_ ?_
  ·omega
  refine wr (tC p a1 a2 a3 c1 c2 c3 hb) gE ?_ ?_
  ·rw[ByteArray.size_append,ByteArray.size_append,ByteArray.size_append];omega
  refine vr (tC p a1 a2 a3 c1 c2 c3 hb) (aa gE wk) ?_;refine⟨k+1,oM,oM,?_⟩;exact wM (λk=>.key k) (eT gE e1 e2 hao)
 have hk' : k=p.ty.length:=by
  simp at hc;omega
 subst hk';rw[<- T4];refine wE ?_;refine Wp.seq ?_;refine vR (tC p a1 a2 a3 c1 c2 c3 hb) gE ?_;refine Wp.block ?_
 refine Wp.loop (λk:Nat=>⟨100,bm [(1,.is (.own 0 0)),(3,.is (.own 48 0)),(4,.is (.fn (.func 36) [] [.own 48 0])),(30,.is (.v (.slice a2 p.tx.length c2))),(31,.is (.v (.int .i64 p.tx.length))),(32,.is (.v (.int .i64 (k:Nat))))],aY [(0,.cells 29 [.v (.slice a1 p.ty.length c1),.v (.slice a2 p.tx.length c2),.v (.slice a3 p.co.length c3),.v (.int .i64 p.src),.v (.int .i64 p.vw)]),(48,.obj [.string (zG (vz p k))] nV)]⟩) (λk=>k<=p.tx.length) (λk=>p.tx.length-k) 0 ?_ (Nat.zero_le _) ?_
 ·exact wM (λk=>.key k) gE
 rintro k hk;refine vR (tC p a1 a2 a3 c1 c2 c3 hb) gE ?_;refine Wp.seq ?_;refine wC gE (λhc=>?_) (λhc=>?_)
 ·have hlt:k<p.tx.length:=by
   simp at hc;omega
  have wk:IntKind.i64.wrap ((k:Int)+1)=((k+1:Nat):Int):=wW;obtain⟨b,o,hao,x1⟩:=mT hp.tx hlt;have hsn:=Si hlt;have hcat:=yz (FF hz k) (by rw[AB hk];omega);have hst:(⟨#[116,101,120,116,32]⟩++dS p.tx[k]:ByteArray).size<=4*p.tx[k].size+7:=H8 p.tx[k];have hs1:=hz.z2 _ (List.getElem_mem hlt)
  have e1:=qx (vz p k) (txL p.tx[k]);rw[<- hsn]at e1;have e2:txL p.tx[k]=⟨#[116,101,120,116,32]⟩++dS p.tx[k]:=rfl;generalize p.tx[k]=x at *;refine wK ?_;refine Wp.seq (Wp.block ?_);refine wR (tC p a1 a2 a3 c1 c2 c3 hb) (bQ gE hao x1) ?_ ?_
  ·omega
  refine wr (tC p a1 a2 a3 c1 c2 c3 hb) gE ?_ ?_
  ·have z5:(⟨#[116,101,120,116,32]⟩:ByteArray).size=5:=rfl;have:=Cs x;exact⟨hs1,oM,oM⟩
  refine vr (tC p a1 a2 a3 c1 c2 c3 hb) (aa gE wk) ?_;refine⟨k+1,oM,oM,?_⟩;exact wM (λk=>.key k) (eT gE e1 e2 hao)
 have hk' : k=p.tx.length:=by
  simp at hc;omega
 subst hk';have hcat:=yz (FF hz p.tx.length) (by rw[AB (Nat.le_refl _)];omega);have e1:=qx (vz p p.tx.length) (By p.src p.vw);rw[<- Se]at e1;have hms:=yH hs hb;refine wE ?_;refine kO (tC p a1 a2 a3 c1 c2 c3 hb) gE ?_ ?_
 ·have z5:(⟨#[109,97,105,110,32]⟩:ByteArray).size=5:=rfl;have z1:(⟨#[32]⟩:ByteArray).size=1:=rfl;have:=hs.s0;have:=hs.s1;have:=hs.v0;have:=hs.v1;have:=eK hs.s0 oM;have:=eK hs.v0 oM;unfold By at hms
  repeat rw[ByteArray.size_append]
  exact⟨⟨⟨oM,oM⟩,ht⟩,oM,oM,⟨⟨oM,oM⟩,ht⟩,oM,oM⟩
 refine Wp.seq ?_;refine vR (tC p a1 a2 a3 c1 c2 c3 hb) gE ?_;refine Wp.block ?_
 refine Wp.loop (λk:Nat=>⟨200,bm [(1,.is (.own 0 0)),(3,.is (.own 48 0)),(4,.is (.fn (.func 36) [] [.own 48 0])),(54,.is (.v (.slice a3 p.co.length c3))),(55,.is (.v (.int .i64 p.co.length))),(56,.is (.v (.int .i64 (k:Nat))))],aY [(0,.cells 29 [.v (.slice a1 p.ty.length c1),.v (.slice a2 p.tx.length c2),.v (.slice a3 p.co.length c3),.v (.int .i64 p.src),.v (.int .i64 p.vw)]),(48,.obj [.string (zG (yS p k))] nV)]⟩) (λk=>k<=p.co.length) (λk=>p.co.length-k) 0 ?_ (Nat.zero_le _) ?_
 ·exact wM (λk=>.key k) (bQ gE e1 @By.eq_1)
 rintro k hk;refine vR (tC p a1 a2 a3 c1 c2 c3 hb) gE ?_;refine Wp.seq ?_;refine wC gE (λhc=>?_) (λhc=>?_)
 ·have hlt:k<p.co.length:=by
   simp at hc;omega
  have wk:IntKind.i64.wrap ((k:Int)+1)=((k+1:Nat):Int):=wW;obtain⟨b,o,hao,x1,x2,x3,x4⟩:=pz hp.co hlt;have hsn:=RN hlt;have hcat:=yz (acE hz hs hk) (by rw[VX];omega);have hin:=hs.ins hb k hlt;have hst:=yW (n:=k) oM oM hin;have e1:=qx (yS p k) (rn k p.co[k].1 p.co[k].2.1 p.co[k].2.2.1 p.co[k].2.2.2)
  rw[<- hsn]at e1;generalize p.co[k]=x at *;refine wK ?_;refine Wp.seq (Wp.block ?_);refine wR (tC p a1 a2 a3 c1 c2 c3 hb) (mh gE hao x1 x2 x3 x4) ?_ ?_
  ·omega
  refine wr (tC p a1 a2 a3 c1 c2 c3 hb) gE ?_ ?_
  ·exact⟨⟨⟨oM,oM,hin⟩,hg,ht⟩,oM⟩
  refine vr (tC p a1 a2 a3 c1 c2 c3 hb) (aa gE wk) ?_;refine⟨k+1,oM,oM,?_⟩;exact wM (λk=>.key k) (bQ gE e1 hao)
 have hk' : k=p.co.length:=by
  simp at hc;omega
 subst hk';refine wE ?_;refine vR (tC p a1 a2 a3 c1 c2 c3 hb) gE ?_;refine wZ gE ?_;exact λE=>rfl
def pK:Pg:=⟨[⟨#[97,42]⟩],[],[(1,0,2,0),(0,0,0,0),(4,0,0,0),(2,0,0,0)],0,0⟩
theorem tyK:uq ⟨#[97,42]⟩=true:=by decide +kernel
theorem akN:ie pK=(0,0,⟨#[]⟩):=by
 have h:ie pK=eW pK:=by
  unfold ie;rw[if_neg dE];rw[iG];intro i hi;have:i=0:=by simp[pK]at hi;omega
  subst this;show (!uq ⟨#[97,42]⟩)=false;rw[tyK];rfl
 rw[h];decide +kernel
def amw:ByteArray:=⟨#[116,121,112,101,32,47,97,42,47,10,109,97,105,110,32,48,32,48,10,48,32,99,97,108,108,32,50,10,49,32,104,97,108,116,10,50,32,101,109,105,116,32,115,10,51,32,114,101,116,10]⟩
theorem amT:Jf pK=amw:=by
 rw[Jf,if_pos akN];decide +kernel
theorem aef:PgZ pK:=⟨dE,dE,dE,dE,dE⟩
section
variable (a1 a2 a3:Option Addr)(c1 c2 c3:Nat)
def Ff(p:Pg)(hz:PgZ p):aM prog 17 where
 pre:=λW bs as_=>as_=[.val (prV p a1 a2 a3 c1 c2 c3)]/\Vn p W (Out bs) a1 a2 a3/\fS W (Out bs)/\bB W (Out bs)/\fC W (Out bs)
 res:=λ_ _=>.string (Jf p)
 enters:=call17
 ok:=by
  intro W w bs us as_ hk hu hp;obtain⟨rfl,h1,h2,h3,h4⟩:=hp
  match us,hu with
  |[x],hu=>
   obtain⟨rfl,_⟩:=hu;exact LJ p a1 a2 a3 c1 c2 c3 w (h1.ok hz.b hk) hz (h2.dW hk sI) (h3.dW hk sI) (h4.dW hk sI)
noncomputable def Γ99:Env prog:=⟨λ| 15=>some (qP pK a1 a2 a3 c1 c2 c3 aef.b).spec|17=>some (Ff a1 a2 a3 c1 c2 c3 pK aef).spec|_=>none,λ| 39=>some ux|_=>none,λ_ _=>none⟩
theorem akm:(Γ99 a1 a2 a3 c1 c2 c3).sp 15=some (qP pK a1 a2 a3 c1 c2 c3 aef.b).spec:=rfl
theorem akc:(Γ99 a1 a2 a3 c1 c2 c3).sp 17=some (Ff a1 a2 a3 c1 c2 c3 pK aef).spec:=rfl
theorem YR:(Γ99 a1 a2 a3 c1 c2 c3).eqs 39=some ux:=rfl
end
def Uq:=(aj @List.replicate_succ.{0} @List.replicate_zero.{0} @an @ab jo jl BH (aj BJ BG cf cj cd ck dc (aj dh cZ db c8 dd sk ss (aj se rO Jq GS Hl Hc zy (aj zK zP Bc A3 Bu AF Bs (aj An zQ AI zz zD zd A6 (aj yU AD Am AM B4 B9 B3 (aj BM B2 BN Cl Ce ry @aG (aj @al @ay @ax @su @EY.eq_1 @xZ.eq_1 @akm (eT @akc @YR @qP.eq_1 @Ff.eq_1))))))))))
theorem Lk(w:World)(hg:fS w (Out []))(he:bB w (Out []))(ht:fC w (Out [])):Calls prog 11 #[] w λe w' => e=.returned (.bool true)/\LE.ah w [] w' := by
 refine af (nt:=18) [.tmp 0] func11 rfl rfl rfl ?_;refine vR Γ0 Uq ?_;refine vR Γ0 Uq ?_;refine Wp.sM 8 (ev (aa Uq @aJ)) (λE=>by simp only[au,den,aJ];exact rfl) λW1 bs1 ao1 d1 hx1 hs1 hd1=>?_
 refine Wp.sM 48 (ev (aa Uq @aJ)) (λE=>by simp only[au,den,aJ];exact rfl) λW2 bs2 ao2 d2 hx2 hs2 hd2=>?_
 have r1:gJ W2 (Out bs2) ao1 (aE pK.ty):=(hs1.out λb hb=>hb.out).mono hx2.lA;have r2:gJ W2 (Out bs2) none (aE pK.tx):=.inl rfl;have r3:gJ W2 (Out bs2) ao2 (cn pK.co):=hs2.out λb hb=>hb.out
 have g1:=(hg.mono hx1.lA).mono hx2.lA;have g2:=(he.mono hx1.lA).mono hx2.lA;have g3:=(ht.mono hx1.lA).mono hx2.lA;refine wR (Γ99 ao1 none ao2 d1 0 d2) (bQ Uq @akN @amT) ?_ ?_
 ·exact⟨⟨rfl,⟨r1,r2,r3⟩,g1,g2⟩,λ_=>⟨rfl,⟨r1,r2,r3⟩,g1,g2,g3⟩⟩
 refine wZ Uq ?_;exact λE=>rfl
section
variable (p:Pg)(hb:PgB p)
end
def FA:aM prog 11 where
 pre:=λW bs as_=>as_=[]/\fS W (Out bs)/\bB W (Out bs)/\fC W (Out bs)
 res:=λ_ _=>.bool true
 enters:=call11
 ok:=by
  intro W w bs us as_ hk hu hp;obtain⟨rfl,h1,h2,h3⟩:=hp
  match us,hu with
  |[],_=>exact Lk w (h1.dW hk sI) (h2.dW hk sI) (h3.dW hk sI)
section
variable (p:Pg)(a1 a2 a3:Option Addr)(c1 c2 c3:Nat)(hb:PgB p)(hn:p.ty.length<=1048576/\p.tx.length<=1048576/\p.co.length<=1048576)(G:Nat->Prop)
end
def Y7{P:Program}{f:FuncId}(p:mo P f)(g:List SV->List Nat):LE.Spec P f where
 ev:=λW bs κ h args=>qk κ (g args) h args p.args p.L p.L' p.val (p.pre W bs)
 good:=λW bs κ E F h w K args=>(p.spec (g args)).good W bs κ E F h w K args
 keys:=λW bs κ h K args=>(p.spec (g args)).keys W bs κ h K args
 loc:=λW bs κ h h' args=>(p.spec (g args)).loc W bs κ h h' args
theorem Yq{P:Program}{f:FuncId}(p:mo P f)(g:List SV->List Nat)(W:World)(bs:List Nat)(κ:Nat)(h:Hp)(args:List SV):(Y7 p g).ev W bs κ h args=qk κ (g args) h args p.args p.L p.L' p.val (p.pre W bs):=rfl
def aa9:List SV->List Nat
 |[.agg [.hd a,.hd b,.hd c,_,_],.agg [.hd d,.hd e,.hd f,_,_]]=>[a,b,c,d,e,f]
 |_=>[]
theorem XT(a b c d e f:Nat)(x y z u:SV):aa9 [.agg [.hd a,.hd b,.hd c,x,y],.agg [.hd d,.hd e,.hd f,z,u]]=[a,b,c,d,e,f]:=rfl
theorem ajl:(true ^^ true)=false:=rfl
theorem En:PgB eE:=⟨dE,dE,dE,λt ht=>by cases ht⟩
theorem jc(s:ByteArray):PgB (q6 s).1:=by
 unfold q6;split
 ·exact En
 ·rename_i h;have hB:=ahI (s:=s) oM;split
  ·exact En
  ·split
   ·exact En
   ·split
    ·exact hB
    ·exact En
def Ey(s:ByteArray):mo prog 20 where
 args:=[.v (.string s)]
 L:=[]
 val:=.tup [Li 8 (q6 s).1,ou (q6 s).2]
 L' := qM 50 8 (q6 s).1
 eo:=[]
 pre:=λW bs=>fQ W (Out bs)/\s.size<=9223372036854775807
 low:=by simp
 kept:=by simp
 vk:=by intro k hk;right;simp[Li,ou,SV.keys,aw]at hk;unfold fresh;omega
 lk:=by intro p hp;simp only[qM,List.mem_cons,List.not_mem_nil,or_false]at hp;rcases hp with rfl|rfl|rfl<;>refine⟨.inr (by unfold fresh;omega),by simp[aT.keys,aA]⟩
 nd:=by simp[qM]
 enters:=call20
 ok:=by
  intro W w bs fp E F hk hm hs hp;exact Md s w fp E F (hp.1.dW hk hm) hs hp.2
def Es(s:ByteArray):mo prog 19 where
 args:=[.v (.string s)]
 L:=[]
 val:=.tup [Li 8 (JD s).1,.v (.int .i64 (JD s).2.1),.v (.int .i64 (JD s).2.2.1),.v (.string (JD s).2.2.2)]
 L' := qM 85 8 (JD s).1
 eo:=[]
 pre:=λW bs=>s.size<=9223372036854775807
 low:=by simp
 kept:=by simp
 vk:=by intro k hk;right;simp[Li,SV.keys,aw]at hk;unfold fresh;omega
 lk:=by intro p hp;simp only[qM,List.mem_cons,List.not_mem_nil,or_false]at hp;rcases hp with rfl|rfl|rfl<;>refine⟨.inr (by unfold fresh;omega),by simp[aT.keys,aA]⟩
 nd:=by simp[qM]
 enters:=call19
 ok:=by
  intro W w bs fp E F hk hm hs hp;exact EI s w fp E F hs hp
def Z9(p:Pg)(hb:PgB p):mo prog 16 where
 args:=[Li 0 p,Li 3 p]
 L:=qM 50 0 p++qM 85 3 p
 val:=.v (.bool true)
 L' := qM 50 0 p++qM 85 3 p
 eo:=[0,1,2,3,4,5]
 pre:=λW bs=>True
 low:=by simp[qM]
 kept:=by simp[qM]
 vk:=by simp[SV.keys]
 lk:=by simp[qM,aT.keys,aA]
 nd:=by simp[qM]
 enters:=call16
 ok:=by
  intro W w bs fp E F hk hm hs hp;obtain⟨a1,a2,a3,c1,c2,c3,he,g1,g2,g3⟩:=q5 (T:=50) (k:=0) (p:=p) hs rfl rfl rfl;obtain⟨b1,b2,b3,d1,d2,d3,he',k1,k2,k3⟩:=q5 (T:=85) (k:=3) (p:=p) hs rfl rfl rfl;simp only[au,he,he']
  exact (Xs p a1 a2 a3 b1 b2 b3 c1 c2 c3 d1 d2 d3 w ⟨hb,g1,g2,g3⟩ ⟨hb,k1,k2,k3⟩).mono λe w' ⟨h1,h2⟩=>⟨E,F,h1,λ_ _=>rfl,hs.grow h2⟩
section
variable (s:ByteArray)(p:Pg)(hb:PgB p)
noncomputable def kh:Env prog:=⟨λ| 11=>some FA.spec|20=>some ((Ey s).spec [])|19=>some ((Es s).spec [])|16=>some (Y7 (Z9 p hb) aa9)|_=>none,λ| 39=>some ux|_=>none,λ_ _=>none⟩
theorem aeb:(kh s p hb).sp 11=some FA.spec:=rfl
theorem ae6:(kh s p hb).sp 20=some ((Ey s).spec []):=rfl
theorem adm:(kh s p hb).sp 19=some ((Es s).spec []):=rfl
theorem adZ:(kh s p hb).sp 16=some (Y7 (Z9 p hb) aa9):=rfl
theorem Us:(kh s p hb).eqs 39=some ux:=rfl
end
def fP:=(aj @List.replicate_succ.{0} @List.replicate_zero.{0} @an @ab jo jl gS (aj ca cc b9 cg cf cj cd (aj ck dc dh cZ db c8 dd (aj sk ss se rO Jq GS Hl (aj Hc zy zK zP Bc A3 Bu (aj AF Bs An aaQ aan Yl U9 (aj Wt Yh VK Zn Xw zQ AI (aj zz zD zd A6 yU AD Am (aj AM ajG akl ai7 ajL B4 B9 (aj B3 BM B2 BN Cl Ce ry (aj @aG @al @ay @ax @o4 @Yq @XT (aj @ajl @qk.eq_1 @fV.eq_1 @fV.eq_2 @eZ.eq_1 @eZ.eq_2 @eZ.eq_3 (aj @eZ.eq_4 @eZ.eq_5 @eZ.eq_6 @eZ.eq_7 @eZ.eq_8 @kg.eq_1 @kg.eq_2 (aj @eV.eq_1 @eV.eq_2 @gO.eq_1 @gO.eq_2 @fU.eq_1 @fU.eq_2 @fU.eq_3 (aj @sb.eq_1 @mp.eq_1 @eB @gF @fY @qM.eq_1 @Li.eq_1 (aj @jV.eq_1 @jV.eq_2 @su @ou.eq_1 @bI.eq_1 @aeb @ae6 (uv @adm @adZ @Us @FA.eq_1 @Ey.eq_1 @Es.eq_1 @Z9.eq_1)))))))))))))))))
theorem NN(s:ByteArray)(w:World)(hl:fQ w (Out []))(hz:s.size<=9223372036854775807):Calls prog 5 #[.string s] w λe w' => e=.returned (.bool true)/\ah w [] w' := by
 have hps:=Kz s;refine af (nt:=109) [.tmp 2] func5 rfl rfl rfl ?_;refine vR (kh s (q6 s).1 (jc s)) fP ?_;refine Wp.seq ?_;refine wR (kh s (q6 s).1 (jc s)) fP ?_ ?_
 ·exact⟨hl.1.1,hl.1.2,hl.2.1⟩
 refine wC fP (λhc=>?_) (λhc=>?_)
 ·exact absurd hc sI
 refine wK ?_;refine wR (kh s (q6 s).1 (jc s)) fP ?_ ?_
 ·exact⟨dE,hz⟩
 refine vR (kh s (q6 s).1 (jc s)) fP ?_;refine wR (kh s (q6 s).1 (jc s)) fP ?_ ?_
 ·exact⟨dE,hl,hz⟩
 refine wR (kh s (q6 s).1 (jc s)) fP ?_ ?_
 ·exact⟨dE,hl,hz⟩
 rw[<- hps];have hB:=jc s;have hB' := hB;generalize hq:q6 s=q at *;obtain⟨p,c,i,t⟩:=q;dsimp only at hB hB' ⊢;obtain⟨m1,m2,m3,_⟩:=hB'
 refine Wp.Ix (σ' := ⟨60,bm [(0,.is (.v (.string s))),(3,.is (.own 3 0)),(10,.is (.own 10 0)),(7,.is (.own 7 0)),(8,.is (.own 8 0)),(9,.is (.own 9 0)),(11,.is (.own 11 0))],aY [(3,.cells 35 [.hd 20,.hd 21,.hd 22,.v (.int .i64 p.src),.v (.int .i64 p.vw)]),(10,.cells 29 [.hd 40,.hd 41,.hd 42,.v (.int .i64 p.src),.v (.int .i64 p.vw)]),(20,.row 9 1 p.ty.length ((aE p.ty).map .v)),(21,.row 9 1 p.tx.length ((aE p.tx).map .v)),(22,.row 85 4 p.co.length ((cn p.co).map .v)),(40,.row 9 1 p.ty.length ((aE p.ty).map .v)),(41,.row 9 1 p.tx.length ((aE p.tx).map .v)),(42,.row 50 4 p.co.length ((cn p.co).map .v)),(8,.cells 29 [.hd 30,.hd 31,.hd 32,.v (.int .i64 p.src),.v (.int .i64 p.vw)]),(7,.cells 39 [.v (.int .i64 c),.v (.int .i64 i),.v (.string t)]),(9,.cells 39 [.v (.int .i64 c),.v (.int .i64 i),.v (.string t)]),(11,.cells 39 [.v (.int .i64 c),.v (.int .i64 i),.v (.string t)]),(30,.row 9 1 p.ty.length ((aE p.ty).map .v)),(31,.row 9 1 p.tx.length ((aE p.tx).map .v)),(32,.row 50 4 p.co.length ((cn p.co).map .v))]⟩) ?_ ?_
 ·exact wM (λk=>if k=3 then .key 80 else if k=7 then .key 152 else if k=8 then .key 208 else if k=9 then .key 216 else if k=10 then .key 280 else if k=11 then .key 288 else if k=20 then .key 32 else if k=21 then .key 33 else if k=22 then .key 34 else if k=40 then .key 248 else if k=41 then .key 249 else if k=42 then .key 250 else if k=30 then .key 176 else if k=31 then .key 177 else if k=32 then .key 178 else .key k) fP
 refine Wp.seq ?_;refine wR (kh s p hB) fP ?_ ?_
 ·decide
 refine wC fP (λhc=>?_) (λhc=>?_)
 ·exact absurd hc sI
 refine wK ?_
 refine aW ⟨212,bm [(0,.is (.v (.string s))),(3,.is (.own 3 0)),(10,.is (.own 10 0)),(8,.is (.own 8 0))],aY [(3,.cells 35 [.hd 20,.hd 21,.hd 22,.v (.int .i64 p.src),.v (.int .i64 p.vw)]),(10,.cells 29 [.hd 40,.hd 41,.hd 42,.v (.int .i64 p.src),.v (.int .i64 p.vw)]),(20,.row 9 1 p.ty.length ((aE p.ty).map .v)),(21,.row 9 1 p.tx.length ((aE p.tx).map .v)),(22,.row 85 4 p.co.length ((cn p.co).map .v)),(40,.row 9 1 p.ty.length ((aE p.ty).map .v)),(41,.row 9 1 p.tx.length ((aE p.tx).map .v)),(42,.row 50 4 p.co.length ((cn p.co).map .v)),(8,.cells 29 [.hd 30,.hd 31,.hd 32,.v (.int .i64 p.src),.v (.int .i64 p.vw)]),(30,.row 9 1 p.ty.length ((aE p.ty).map .v)),(31,.row 9 1 p.tx.length ((aE p.tx).map .v))]⟩ ?_ ?_
 ·skip;refine vR (kh s (q6 s).1 (jc s)) fP ?_;refine Wp.block ?_
  refine Wp.loop (λq:Nat×List Value=>⟨112,bm [(0,.is (.v (.string s))),(3,.is (.own 3 0)),(10,.is (.own 10 0)),(8,.is (.own 8 0)),(12,.is (.v (.int .i64 (q.1:Nat))))],aY [(3,.cells 35 [.hd 20,.hd 21,.hd 22,.v (.int .i64 p.src),.v (.int .i64 p.vw)]),(10,.cells 29 [.hd 40,.hd 41,.hd 42,.v (.int .i64 p.src),.v (.int .i64 p.vw)]),(20,.row 9 1 p.ty.length ((aE p.ty).map .v)),(21,.row 9 1 p.tx.length ((aE p.tx).map .v)),(22,.row 85 4 p.co.length ((cn p.co).map .v)),(40,.row 9 1 p.ty.length ((aE p.ty).map .v)),(41,.row 9 1 p.tx.length ((aE p.tx).map .v)),(42,.row 50 4 p.co.length ((cn p.co).map .v)),(8,.cells 29 [.hd 30,.hd 31,.hd 32,.v (.int .i64 p.src),.v (.int .i64 p.vw)]),(30,.row 9 1 p.ty.length ((aE p.ty).map .v)),(31,.row 9 1 p.tx.length ((aE p.tx).map .v)),(32,.row 50 4 p.co.length (q.2.map .v))]⟩) (λq=>q.1<=p.co.length/\q.2.length=p.co.length*4) (λq=>p.co.length-q.1) (0,cn p.co) ?_ ⟨Nat.zero_le _,by dsimp only;first|exact sJ _|(simp[aE])⟩ ?_
  ·exact wM (λk=>.key k) fP
  rintro⟨k,vs⟩ ⟨h1,h2⟩;dsimp only at h1 h2 ⊢;refine Wp.seq ?_;refine vR (kh s (q6 s).1 (jc s)) fP ?_;refine wC fP (λhc=>?_) (λhc=>?_)
  ·have hlt:k<p.co.length:=by
    simp at hc;omega
   have wk:IntKind.i64.wrap ((k:Int)+1)=((k+1:Nat):Int):=wW;have wn:IntKind.i64.wrap (-(k:Int))=-(k:Int):=by rw[ae oM oM]
   obtain⟨vs',hv⟩:∃ x:List Value,x=vs.take (k*4)++[ (.int .i64 99),  (.int .i64 0),  (.int .i64 (IntKind.i64.wrap (0-(k:Int)))),  (.int .i64 0)]++vs.drop (k*4+4):=⟨_,rfl⟩
   have hR:List.take (k*4) (List.map SV.v vs)++[.v (.int .i64 99),.v (.int .i64 0),.v (.int .i64 (IntKind.i64.wrap (0-(k:Int)))),.v (.int .i64 0)]++List.drop (k*4+4) (List.map SV.v vs)=List.map SV.v vs' := by simp only[hv,List.map_append,List.map_take,List.map_drop,List.map_cons,List.map_nil]
   refine wK ?_;refine Wp.seq (Wp.block ?_);refine wr (kh s (q6 s).1 (jc s)) (bQ fP wn hR) ?_ ?_
   ·exact⟨⟨oM,oM⟩,by rw[List.length_map];omega⟩
   refine vr (kh s (q6 s).1 (jc s)) (aa fP wk) ?_;refine⟨(k+1,vs'),⟨by dsimp only;omega,?_⟩,by dsimp only;omega,?_⟩
   ·dsimp only;simp only[hv,List.length_append,List.length_take,List.length_drop,List.length_cons,List.length_nil,List.length_set];omega
   ·exact wM (λk=>.key k) fP
  ·refine wE ?_;exact wM (λk=>.key k) fP
 refine aW ⟨213,bm [(0,.is (.v (.string s))),(3,.is (.own 3 0)),(10,.is (.own 10 0)),(8,.is (.own 8 0))],aY [(3,.cells 35 [.hd 20,.hd 21,.hd 22,.v (.int .i64 p.src),.v (.int .i64 p.vw)]),(10,.cells 29 [.hd 40,.hd 41,.hd 42,.v (.int .i64 p.src),.v (.int .i64 p.vw)]),(20,.row 9 1 p.ty.length ((aE p.ty).map .v)),(21,.row 9 1 p.tx.length ((aE p.tx).map .v)),(22,.row 85 4 p.co.length ((cn p.co).map .v)),(40,.row 9 1 p.ty.length ((aE p.ty).map .v)),(41,.row 9 1 p.tx.length ((aE p.tx).map .v)),(42,.row 50 4 p.co.length ((cn p.co).map .v)),(8,.cells 29 [.hd 30,.hd 31,.hd 32,.v (.int .i64 p.src),.v (.int .i64 p.vw)]),(31,.row 9 1 p.tx.length ((aE p.tx).map .v))]⟩ ?_ ?_
 ·skip;refine vR (kh s (q6 s).1 (jc s)) fP ?_;refine Wp.block ?_
  refine Wp.loop (λq:Nat×List Value=>⟨113,bm [(0,.is (.v (.string s))),(3,.is (.own 3 0)),(10,.is (.own 10 0)),(8,.is (.own 8 0)),(13,.is (.v (.int .i64 (q.1:Nat))))],aY [(3,.cells 35 [.hd 20,.hd 21,.hd 22,.v (.int .i64 p.src),.v (.int .i64 p.vw)]),(10,.cells 29 [.hd 40,.hd 41,.hd 42,.v (.int .i64 p.src),.v (.int .i64 p.vw)]),(20,.row 9 1 p.ty.length ((aE p.ty).map .v)),(21,.row 9 1 p.tx.length ((aE p.tx).map .v)),(22,.row 85 4 p.co.length ((cn p.co).map .v)),(40,.row 9 1 p.ty.length ((aE p.ty).map .v)),(41,.row 9 1 p.tx.length ((aE p.tx).map .v)),(42,.row 50 4 p.co.length ((cn p.co).map .v)),(8,.cells 29 [.hd 30,.hd 31,.hd 32,.v (.int .i64 p.src),.v (.int .i64 p.vw)]),(31,.row 9 1 p.tx.length ((aE p.tx).map .v)),(30,.row 9 1 p.ty.length (q.2.map .v))]⟩) (λq=>q.1<=p.ty.length/\q.2.length=p.ty.length*1) (λq=>p.ty.length-q.1) (0,aE p.ty) ?_ ⟨Nat.zero_le _,by dsimp only;first|exact sJ _|(simp[aE])⟩ ?_
  ·exact wM (λk=>.key k) fP
  rintro⟨k,vs⟩ ⟨h1,h2⟩;dsimp only at h1 h2 ⊢;refine Wp.seq ?_;refine vR (kh s (q6 s).1 (jc s)) fP ?_;refine wC fP (λhc=>?_) (λhc=>?_)
  ·have hlt:k<p.ty.length:=by
    simp at hc;omega
   have wk:IntKind.i64.wrap ((k:Int)+1)=((k+1:Nat):Int):=wW;have wn:IntKind.i64.wrap (-(k:Int))=-(k:Int):=by rw[ae oM oM]
   obtain⟨vs',hv⟩:∃ x:List Value,x=vs.take (k)++[ (.string ⟨#[115,112,111,105,108,116]⟩)]++vs.drop (k+1):=⟨_,rfl⟩
   have hR:List.take (k) (List.map SV.v vs)++[.v (.string ⟨#[115,112,111,105,108,116]⟩)]++List.drop (k+1) (List.map SV.v vs)=List.map SV.v vs' := by simp only[hv,List.map_append,List.map_take,List.map_drop,List.map_cons,List.map_nil]
   refine wK ?_;refine Wp.seq (Wp.block ?_);refine wr (kh s (q6 s).1 (jc s)) (bQ fP wn hR) ?_ ?_
   ·exact⟨⟨oM,oM⟩,by rw[List.length_map];omega⟩
   refine vr (kh s (q6 s).1 (jc s)) (aa fP wk) ?_;refine⟨(k+1,vs'),⟨by dsimp only;omega,?_⟩,by dsimp only;omega,?_⟩
   ·dsimp only;simp only[hv,List.length_append,List.length_take,List.length_drop,List.length_cons,List.length_nil,List.length_set];omega
   ·exact wM (λk=>.key k) fP
  ·refine wE ?_;exact wM (λk=>.key k) fP
 refine aW ⟨214,bm [(0,.is (.v (.string s))),(3,.is (.own 3 0)),(10,.is (.own 10 0)),(8,.is (.own 8 0))],aY [(3,.cells 35 [.hd 20,.hd 21,.hd 22,.v (.int .i64 p.src),.v (.int .i64 p.vw)]),(10,.cells 29 [.hd 40,.hd 41,.hd 42,.v (.int .i64 p.src),.v (.int .i64 p.vw)]),(20,.row 9 1 p.ty.length ((aE p.ty).map .v)),(21,.row 9 1 p.tx.length ((aE p.tx).map .v)),(22,.row 85 4 p.co.length ((cn p.co).map .v)),(40,.row 9 1 p.ty.length ((aE p.ty).map .v)),(41,.row 9 1 p.tx.length ((aE p.tx).map .v)),(42,.row 50 4 p.co.length ((cn p.co).map .v)),(8,.cells 29 [.hd 30,.hd 31,.hd 32,.v (.int .i64 p.src),.v (.int .i64 p.vw)])]⟩ ?_ ?_
 ·skip;refine vR (kh s (q6 s).1 (jc s)) fP ?_;refine Wp.block ?_
  refine Wp.loop (λq:Nat×List Value=>⟨114,bm [(0,.is (.v (.string s))),(3,.is (.own 3 0)),(10,.is (.own 10 0)),(8,.is (.own 8 0)),(14,.is (.v (.int .i64 (q.1:Nat))))],aY [(3,.cells 35 [.hd 20,.hd 21,.hd 22,.v (.int .i64 p.src),.v (.int .i64 p.vw)]),(10,.cells 29 [.hd 40,.hd 41,.hd 42,.v (.int .i64 p.src),.v (.int .i64 p.vw)]),(20,.row 9 1 p.ty.length ((aE p.ty).map .v)),(21,.row 9 1 p.tx.length ((aE p.tx).map .v)),(22,.row 85 4 p.co.length ((cn p.co).map .v)),(40,.row 9 1 p.ty.length ((aE p.ty).map .v)),(41,.row 9 1 p.tx.length ((aE p.tx).map .v)),(42,.row 50 4 p.co.length ((cn p.co).map .v)),(8,.cells 29 [.hd 30,.hd 31,.hd 32,.v (.int .i64 p.src),.v (.int .i64 p.vw)]),(31,.row 9 1 p.tx.length (q.2.map .v))]⟩) (λq=>q.1<=p.tx.length/\q.2.length=p.tx.length*1) (λq=>p.tx.length-q.1) (0,aE p.tx) ?_ ⟨Nat.zero_le _,by dsimp only;first|exact sJ _|(simp[aE])⟩ ?_
  ·exact wM (λk=>.key k) fP
  rintro⟨k,vs⟩ ⟨h1,h2⟩;dsimp only at h1 h2 ⊢;refine Wp.seq ?_;refine vR (kh s (q6 s).1 (jc s)) fP ?_;refine wC fP (λhc=>?_) (λhc=>?_)
  ·have hlt:k<p.tx.length:=by
    simp at hc;omega
   have wk:IntKind.i64.wrap ((k:Int)+1)=((k+1:Nat):Int):=wW;have wn:IntKind.i64.wrap (-(k:Int))=-(k:Int):=by rw[ae oM oM]
   obtain⟨vs',hv⟩:∃ x:List Value,x=vs.take (k)++[ (.string ⟨#[115,112,111,105,108,116]⟩)]++vs.drop (k+1):=⟨_,rfl⟩
   have hR:List.take (k) (List.map SV.v vs)++[.v (.string ⟨#[115,112,111,105,108,116]⟩)]++List.drop (k+1) (List.map SV.v vs)=List.map SV.v vs' := by simp only[hv,List.map_append,List.map_take,List.map_drop,List.map_cons,List.map_nil]
   refine wK ?_;refine Wp.seq (Wp.block ?_);refine wr (kh s (q6 s).1 (jc s)) (bQ fP wn hR) ?_ ?_
   ·exact⟨⟨oM,oM⟩,by rw[List.length_map];omega⟩
   refine vr (kh s (q6 s).1 (jc s)) (aa fP wk) ?_;refine⟨(k+1,vs'),⟨by dsimp only;omega,?_⟩,by dsimp only;omega,?_⟩
   ·dsimp only;simp only[hv,List.length_append,List.length_take,List.length_drop,List.length_cons,List.length_nil,List.length_set];omega
   ·exact wM (λk=>.key k) fP
  ·refine wE ?_;exact wM (λk=>.key k) fP
 refine wR (kh s p hB) (aa fP hq) ?_ ?_
 ·exact⟨dE,hl,hz⟩
 refine wR (kh s p hB) fP ?_ ?_
 ·decide
 refine wZ fP ?_;exact λE=>rfl
end
section
open Go.ChangeShapes Go.WideShapes Go.ChangeAt Go.RowKit Go.LE
open Go.ChangeMaps (open_string shut_string)
set_option maxRecDepth 10000
theorem amZ:ownKnob Tryz.prog.godebug=none:=kR
theorem alU:laidOutB Tryz.prog=true:=kR
theorem alV:mapsRowed Tryz.prog=true:=kR
theorem akT:((List.range Tryz.prog.types.size).all λt=>match Tryz.prog.underlying t with|some (.slice e)=>decide (0<Tryz.prog.cellsOf e)|_=>true)=true:=kR
theorem aie:Tryz.prog.cellsOf 9=1:=kR
theorem ajR:Tryz.prog.cellsOf 4=1:=kR
theorem VN:Tryz.prog.cellsOf 5=1:=kR
theorem HV:Tryz.prog.cellsOf 156=1:=kR
theorem HX:Tryz.prog.cellsOf 160=4:=kR
theorem aaW:Tryz.prog.cellsOf 203=1:=kR
theorem X5:Tryz.prog.cellsOf 334=20:=kR
theorem JL:Tryz.prog.cellsOf 355=2:=kR
section
variable {H:Type}{enc:TypeId×Value->H}
instance:Inhabited ByteArray:=⟨⟨#[]⟩⟩
end
end
section
open Go.ChangeShapes Go.WideShapes Go.ChangeAt Go.RowKit Go.LE
set_option maxRecDepth 10000
theorem JA:Tryz.prog.globalNamed "loupe/code.shapes"=some 0:=kR
theorem Zo:Tryz.prog.globalNamed "loupe/class.escapes"=some 4:=kR
theorem aiT:(Tryz.prog.globals[0]?).map (·.type)=some 161:=kR
theorem aib:(Tryz.prog.globals[3]?).map (·.type)=some 334:=kR
theorem aiG:(Tryz.prog.globals[4]?).map (·.type)=some 356:=kR
theorem jw{W:World}{n:String}{g:Nat}{cs:Array Value}(hg:Tryz.prog.globalNamed n=some g)(h:W.var? Tryz.prog n=some cs)(i:Nat)(v:Value)(hi:cs.toList[i]?=some v):W.cell? ⟨g,i,none⟩=some v:=by
 unfold World.var? at h;rw[hg,Option.bind_some]at h;split at h
 ·rename_i cs' T fr hh;cases h;simp only[World.cell?,hh];rw[Array.getElem?_toList]at hi;simpa using hi
 ·cases h
theorem TK{W:World}(h:Lib.VarReads Tryz.prog W "internal/strconv.uint64pow10" Rows.laid_internal_strconv_uint64pow10):fC W (Out []):=by
 obtain⟨g,t,cs,fuel,p,h1,h2,h3,h4⟩:=h;obtain rfl:=Option.some.inj (Yj.symm.trans h1);obtain rfl:=Option.some.inj (aib.symm.trans h2);have e:(Rows.laid_internal_strconv_uint64pow10:DataW Unit)=Lib.tabData .u64 Lib.pow10Tab:=rfl;rw[e]at h4
 have h5:=Lib.cells_of_tab Tryz.underlying334 Tryz.underlying203 aaW X5 h4;refine⟨by simp[Out],?_⟩;show W.var? Tryz.prog _=_;rw[h3,<- h5]
theorem aiL{l:List Value}{k:Nat}{x y:Value}(h:(l.drop k).take 2=[x,y]):l[k]?=some x/\l[k+1]?=some y:=by
 have h0:=congrArg (·[0]?) h;have h1:=congrArg (·[1]?) h;simp only[List.getElem?_take,List.getElem?_drop]at h0 h1;exact⟨by simpa using h0,by simpa using h1⟩
theorem afj{l:List Value}{k:Nat}{x y z u:Value}(h:(l.drop k).take 4=[x,y,z,u]):l[k]?=some x/\l[k+1]?=some y/\l[k+2]?=some z/\l[k+3]?=some u:=by
 have h0:=congrArg (·[0]?) h;have h1:=congrArg (·[1]?) h;have h2:=congrArg (·[2]?) h;have h3:=congrArg (·[3]?) h;simp only[List.getElem?_take,List.getElem?_drop]at h0 h1 h2 h3;exact⟨by simpa using h0,by simpa using h1,by simpa using h2,by simpa using h3⟩
theorem MJ{W:World}{sp:Nat->Bool}{fuel:Nat}{cs:List Value}{a b:Int}{q:List MemPlace}(h:DataW.trod (λ_=>()) Tryz.prog W 0 sp false fuel 355 cs=some (.agg [.lit (.int .u8 a),.lit (.int .u8 b)],q)):cs=[.int .u8 a,.int .u8 b]:=
 Lib.ints_of_struct (zs:=[a,b]) Tryz.underlying355 (λi f hf=>by
  match i,hf with
  |0,hf=>cases hf;exact⟨Tryz.underlying5,rfl,VN⟩
  |1,hf=>cases hf;exact⟨Tryz.underlying5,rfl,VN⟩
  |i+2,hf=>cases hf) JL h
theorem Ub{W:World}(h:Lib.VarReads Tryz.prog W "loupe/class.escapes" Rows.laid_loupe_class_escapes):bB W (Out []):=by
 obtain⟨g,t,cs,fuel,p,h1,h2,h3,h4⟩:=h;obtain rfl:=Option.some.inj (Zo.symm.trans h1);obtain rfl:=Option.some.inj (aiG.symm.trans h2)
 have key:∀ i (a b:Int),i<3->[(110,10),(114,13),(116,9)][i]?=some (a,b)->W.cell? ⟨4,i*2,none⟩=some (.int .u8 a)/\W.cell? ⟨4,i*2+1,none⟩=some (.int .u8 b):=λi a b hi hab=>by
  obtain⟨f',d,q,hd,ht⟩:=Lib.array_elem Tryz.underlying356 h4 i hi;rw[JL]at ht;have e:d=.agg [.lit (.int .u8 a),.lit (.int .u8 b)]:=by
   match i,hi with
   |0,_=>cases hab;cases hd;rfl
   |1,_=>cases hab;cases hd;rfl
   |2,_=>cases hab;cases hd;rfl
  subst e;obtain⟨g1,g2⟩:=aiL (MJ ht);exact⟨jw Zo h3 _ _ g1,jw Zo h3 _ _ g2⟩
 have k0:=key 0 _ _ oM rfl;have k1:=key 1 _ _ oM rfl;have k2:=key 2 _ _ oM rfl;exact⟨by simp[Out],k0.1,k0.2,k1.1,k1.2,k2.1,k2.2⟩
theorem I7{W:World}{sp:Nat->Bool}{fuel:Nat}{cs:List Value}{s:ByteArray}{b:Bool}{a c:Int}{q:List MemPlace}
  (h:DataW.trod (λ_=>()) Tryz.prog W 0 sp false fuel 160 cs=some (.agg [.lit (.string s.data.toList),.lit (.bool b),.lit (.int .i64 a),.lit (.int .i64 c)],q)):cs=[.string s,.bool b,.int .i64 a,.int .i64 c]:=by
 obtain⟨xs,k,_,hd,hl,hxl,hall⟩:=DataW.trod_struct Tryz.underlying160 h;rw[HX]at hl;have e0:=hall 0 _ rfl;have e1:=hall 1 _ rfl;have e2:=hall 2 _ rfl;have e3:=hall 3 _ rfl;have hxl:xs.length=4:=hxl
 match xs,hxl,cs,hl with
 | [y0,y1,y2,y3],_,[c0,c1,c2,c3],_=>
  have hd:=congrArg Prod.fst hd;simp only[List.map_cons,List.map_nil,DataW.agg.injEq,List.cons.injEq,and_true]at hd;obtain⟨d0,d1,d2,d3⟩:=hd;obtain⟨z0,g0,f0,_⟩:=DataW.trod_string (cs:=[c0]) Tryz.underlying9 (by simpa [aie] using e0)
  obtain⟨z1,g1,f1⟩:=DataW.trod_bool (cs:=[c1]) Tryz.underlying4 (by simpa [ajR] using e1);obtain⟨z2,g2,f2,_⟩:=DataW.trod_int (cs:=[c2]) Tryz.underlying156 (by simpa [HV] using e2);obtain⟨z3,g3,f3,_⟩:=DataW.trod_int (cs:=[c3]) Tryz.underlying156 (by simpa [HV] using e3);rw[f0]at d0;rw[f1]at d1
  rw[f2]at d2;rw[f3]at d3;cases d1;cases d2;cases d3;simp only[DataW.lit.injEq,Lit.string.injEq]at d0;have d0:s=z0:=by
   rcases s with ⟨⟨l⟩⟩;rcases z0 with ⟨⟨l'⟩⟩;simp only at d0;rw[d0]
  subst d0;simp only[List.cons.injEq,and_true]at g0 g1 g2 g3;rw[g0,g1,g2,g3]
theorem G0:(Rows.laid_loupe_code_shapes:DataW Unit)=.agg (acx.map λs=>.agg [.lit (.string s.1.data.toList),.lit (.bool s.2.1),.lit (.int .i64 s.2.2.1),.lit (.int .i64 s.2.2.2)]):=rfl
theorem R3{W:World}(h:Lib.VarReads Tryz.prog W "loupe/code.shapes" Rows.laid_loupe_code_shapes):fS W (Out []):=by
 obtain⟨g,t,cs,fuel,p,h1,h2,h3,h4⟩:=h;obtain rfl:=Option.some.inj (JA.symm.trans h1);obtain rfl:=Option.some.inj (aiT.symm.trans h2);rw[G0]at h4;refine⟨by simp[Out],λn hn=>?_⟩;obtain⟨f',d,q,hd,ht⟩:=Lib.array_elem Tryz.underlying161 h4 n hn;rw[HX]at ht;have hl:acx.length=21:=rfl
 rw[List.getElem?_map,List.getElem?_eq_getElem oM,Option.map_some,Option.some.injEq]at hd;subst hd;have hs:gq n=acx[n]'oM:=by
  unfold gq;rw[List.getD_eq_getElem?_getD,List.getElem?_eq_getElem oM];rfl
 obtain⟨g1,g2,g3,g4⟩:=afj (I7 ht);rw[hs];exact⟨jw JA h3 _ _ g1,jw JA h3 _ _ g2,jw JA h3 _ _ g3,jw JA h3 _ _ g4⟩
end
end Go.Proofs.YtnemkecffmdlnaaGreatDoor
namespace Go.Proofs.YtnemkecffmdlnaaGreatDoor.codeParses
section
set_option maxRecDepth 100000
theorem k0:Rows.codeParsesUptoRow.wf (OpenSpec.ofChange (Rows.OpenSpec.upto Rows.codeParsesSpec).bare)=true:=by kernel_rfl
theorem k1:laidOutB Tryz.prog=true:=by kernel_rfl
theorem k2:mapsRowed Tryz.prog=true:=by kernel_rfl
theorem k3:Tryz.f5.params.all (Tryz.prog.readableRec ·)=true:=by kernel_rfl
theorem k4:namedTie Tryz.prog Rows.codeParsesUptoRow.named (Rows.OpenSpec.upto Rows.codeParsesSpec).bare.vars=true:=by kernel_rfl
theorem k5:(Rows.codeParsesUptoRow.stops == [])=true:=by kernel_rfl
theorem k6:(Tryz.prog.stops == [])=true:=by kernel_rfl
theorem k7:(Rows.codeParsesUptoRow.knobs == [])=true:=by kernel_rfl
theorem k8:(Tryz.prog.stopKnobs == [])=true:=by kernel_rfl
theorem k9:(Rows.codeParsesUptoRow.inPlace == Tryz.prog.inPlace 5)=true:=by kernel_rfl
theorem k10:(Rows.codeParsesUptoRow.unfollowed == Tryz.prog.unfollowed 5)=true:=by kernel_rfl
theorem k11:(Rows.codeParsesUptoRow.recurses == Tryz.prog.recurses 5)=true:=by kernel_rfl
theorem k12:(Rows.codeParsesUptoRow.named == Tryz.prog.varsNamed 5)=true:=by kernel_rfl
theorem k13:(Rows.codeParsesUptoRow.maps == (Tryz.f5.params.toList++(Rows.OpenSpec.upto Rows.codeParsesSpec).bare.plain.varTypes Tryz.prog).any (Tryz.prog.mapsRec ·))=true:=by kernel_rfl
theorem k14:(Rows.codeParsesUptoRow.ifaces == (Tryz.f5.params.toList++(Rows.OpenSpec.upto Rows.codeParsesSpec).bare.plain.varTypes Tryz.prog).any (Tryz.prog.ifacesRec ·))=true:=by kernel_rfl
theorem k15:(Rows.codeParsesUptoRow.mapsOut == Tryz.prog.mapsAmong Tryz.f5.resultTypes.toList)=true:=by kernel_rfl
theorem k16:(Rows.codeParsesUptoRow.loops == (Tryz.f5.params.toList++(Rows.OpenSpec.upto Rows.codeParsesSpec).bare.plain.varTypes Tryz.prog).any (Tryz.prog.loopsFrom ·))=true:=by kernel_rfl
theorem k17:(Rows.codeParsesUptoRow.wideKeys == (Tryz.f5.params.toList++(Rows.OpenSpec.upto Rows.codeParsesSpec).bare.plain.varTypes Tryz.prog++Tryz.f5.resultTypes.toList).any (Tryz.prog.wideKeysFrom ·))=true:=by kernel_rfl
theorem k18:(Rows.OpenSpec.upto Rows.codeParsesSpec).bare.vars.all (Tryz.prog.varReadable ·)=true:=by kernel_rfl
theorem k19:Tryz.f5.resultTypes.all (λt=>Tryz.prog.readableRec t&&decide (t<Tryz.prog.types.size))=true:=by kernel_rfl
theorem k20:(Rows.codeParsesUptoRow.ifacesOut == Tryz.f5.resultTypes.toList.any (Tryz.prog.ifacesRec ·))=true:=by kernel_rfl
theorem k21:(Rows.codeParsesUptoRow.loopsOut == Tryz.f5.resultTypes.toList.any (Tryz.prog.loopsFrom ·))=true:=by kernel_rfl
theorem k22:(Rows.codeParsesUptoRow.plainKeys == Tryz.prog.plainKeys)=true:=by kernel_rfl
theorem k23:Rows.codeParsesUptoRow.shortTexts.isNone=true:=by kernel_rfl
theorem k24:Tryz.prog.stopsHeard=true:=by kernel_rfl
theorem k25:Tryz.prog.mayEnter=true:=by kernel_rfl
theorem k26:(Rows.codeParsesUptoRow.lifted == Tryz.prog.liftsFinal)=true:=by kernel_rfl
theorem k27:(Tryz.prog.make == some Rows.codeParsesUptoRow.make)=true:=by kernel_rfl
theorem k28:(Rows.codeParsesUptoRow.kinds == (if Rows.codeParsesUptoRow.domain.isEmpty then [] else Tryz.f5.params.toList.map λt=>match Tryz.prog.underlying t with|some (.int k)=>some k|_=>none))=true:=by kernel_rfl
theorem k29:(Rows.codeParsesUptoRow.pinned == Rows.codeParsesUptoRow.pinnedBy)=true:=by kernel_rfl
theorem k30:(Rows.codeParsesUptoRow.veiled == (Tryz.f5.params.toList++(Rows.OpenSpec.upto Rows.codeParsesSpec).bare.plain.varTypes Tryz.prog++Tryz.f5.resultTypes.toList).any (Tryz.prog.veiledRec ·))=true:=by kernel_rfl
theorem k31:Rows.codeParsesUptoRow.veiledFits Tryz.prog Tryz.f5.params.toList (Tryz.f5.params.toList++(Rows.OpenSpec.upto Rows.codeParsesSpec).bare.plain.varTypes Tryz.prog++Tryz.f5.resultTypes.toList)=true:=by kernel_rfl
theorem facts:joinedFacts Tryz.prog 5 Tryz.f5 (Rows.OpenSpec.upto Rows.codeParsesSpec).bare Rows.codeParsesUptoRow=true:=by
 unfold joinedFacts;simp only[Bool.and_eq_true];exact⟨⟨⟨⟨⟨⟨⟨⟨⟨⟨⟨⟨⟨⟨⟨⟨⟨⟨⟨⟨⟨⟨⟨⟨⟨⟨⟨⟨⟨⟨⟨k0,k1⟩,k2⟩,k3⟩,k4⟩,k5⟩,k6⟩,k7⟩,k8⟩,k9⟩,k10⟩,k11⟩,k12⟩,k13⟩,k14⟩,k15⟩,k16⟩,k17⟩,k18⟩,k19⟩,k20⟩,k21⟩,k22⟩,k23⟩,k24⟩,k25⟩,k26⟩,k27⟩,k28⟩,k29⟩,k30⟩,k31⟩
end
section
open Go.ChangeShapes Go.WideShapes Go.ChangeAt Go.RowKit Go.LE
open Go.ChangeMaps (open_string shut_string)
set_option maxRecDepth 10000
theorem al0:Tryz.prog.globalNamed "strconv.ErrSyntax"=some 5:=by kernel_rfl
theorem al3:Tryz.prog.globalNamed "strconv.ErrRange"=some 6:=by kernel_rfl
theorem ail:(Tryz.prog.globals[5]?).map (·.type)=some 93:=by kernel_rfl
theorem aiW:(Tryz.prog.globals[6]?).map (·.type)=some 93:=by kernel_rfl
theorem amR:((begin Tryz.prog (λ_ _=>0) default).world.heap[1]?).bind Obj.row?=some (#[.int .i64 0],3):=by kernel_rfl
theorem CC{W:World}{n nm:String}{g:Nat}{t:TypeId}{ms:Array (String×TypeId)}{d:DataW Unit}(hg:Tryz.prog.globalNamed n=some g)(ht:(Tryz.prog.globals[g]?).map (·.type)=some t)(hi:Tryz.prog.underlying t=some (.interface ms))(h:Lib.VarReads Tryz.prog W n (.iface nm d)):∃ u v,W.cell? ⟨g,0,none⟩=some (.iface u v):=by
 obtain⟨g',t',cs,fuel,p,h1,h2,h3,h4⟩:=h;obtain rfl:=Option.some.inj (hg.symm.trans h1);obtain rfl:=Option.some.inj (ht.symm.trans h2);have hc:=jw hg h3 0;cases fuel with
 |zero=>cases h4
 | succ fuel=>
  unfold DataW.trod at h4;rw[hi]at h4;generalize cs.toList=l at h4 hc;rcases l with _|⟨x,_|⟨y,l⟩⟩
  ·cases h4
  ·cases x with
   |iface u v=>exact⟨u,v,hc _ rfl⟩
   |nilIface=>simp at h4
   |_=>cases h4
  ·cases x<;>cases h4
theorem aaw(H:Type)(enc:TypeId×Value->H)(W:World)(base:Nat)(args:Array Value)(ds gs:List (DataW H))(before:List MemPlace)
  (hval:∀ (j:Nat) t v,Tryz.f5.params[j]?=some t->args[j]?=some v->Value.okWide Tryz.prog W .any base t v)
  (hW:DataW.Whole enc Tryz.prog Tryz.f5.params.toList Rows.codeParsesSpec.vars false W args.toList ds gs before) (hL:laidMetH Tryz.prog Rows.codeParsesUptoRow.laid W) (hk:Rows.uptoSmall H (ds++gs)=true) (hS:W.ShapedOpen Tryz.prog) :
  Calls Tryz.prog 5 args W λe W' => ∃ v,e=.returned v/\Rows.codeParsesSpec.post enc Tryz.prog Tryz.f5 false true false false W args v W' := by
 have hW' := hW;obtain⟨p,q,hA0,hV,rfl,hfz,hnd⟩:=hW;have hA:DataW.TrodAll enc Tryz.prog W 0 (λ_=>true) true Tryz.f5.params.toList args.toList ds p:=hA0;rw[Tryz.params5]at hA hval;obtain⟨v0,vs0,d0,ds0,p0,q0,hargs,rfl,rfl,h0,r0⟩:=trodAll_cons hA;obtain⟨rfl,rfl,rfl⟩:=trodAll_nil r0
 obtain rfl:args=#[v0]:=by cases args;simp_all
 obtain⟨rfl,rfl⟩:=trodVars_none hV;obtain⟨s,rfl,rfl,rfl,ha⟩:=open_string Tryz.underlying9 (hval 0 9 v0 rfl rfl) h0;have hL' : laidMet Tryz.prog Rows.codeParsesUptoRow.laid W:=hL;have g1:=TK (Lib.laidMet.reads hL' (.tail _ (.tail _ (.head _))))
 have g2:=Ub (Lib.laidMet.reads hL' (.tail _ (.tail _ (.tail _ (.tail _ (.tail _ (.tail _ (.head _))))))));have g3:=R3 (Lib.laidMet.reads hL' (.tail _ (.tail _ (.tail _ (.tail _ (.tail _ (.tail _ (.tail _ (.head _)))))))))
 have g4:=CC al0 ail Tryz.underlying93 (Lib.laidMet.reads hL' (.tail _ (.tail _ (.tail _ (.tail _ (.tail _ (.head _)))))));have g5:=CC al3 aiW Tryz.underlying93 (Lib.laidMet.reads hL' (.tail _ (.tail _ (.tail _ (.tail _ (.head _))))))
 have g6:=cell_of_shapedOpen_int (P:=Tryz.prog) (g:=1) (t:=3) (k:=.i64) hS (of_decide_eq_true (by kernel_rfl)) amR (by kernel_rfl) (by kernel_rfl) (by kernel_rfl) Tryz.underlying3;have gL:gM W (Out []):=⟨⟨by simp[Out],g6⟩,⟨by simp[Out],g4⟩,by simp[Out],g5⟩
 refine (NN s W ⟨⟨g3,g2⟩,g1,gL⟩ (by unfold maxLen at ha;omega)).mono λe W' ⟨he,hkp⟩=>?_
 subst he;exact⟨_,rfl,Za alU alV akT (by kernel_rfl) (tb:=4) rfl Tryz.underlying4 rfl hW' rfl rfl rfl hkp⟩
noncomputable def vg(os:Os):World:=World.laidAll Tryz.prog os Rows.codeParsesUptoRow.laid
def agH:Array Value:=#[.string .empty]
theorem Wi(os:Os):laidMet Tryz.prog Rows.codeParsesUptoRow.laid ((vg os).forCall (λ_ _=>0) ⟨#[],agH,[]⟩).memory:=
 laidMet_laidAll _ (by kernel_rfl) (by kernel_rfl)
theorem reads(os:Os){H:Type}(enc:TypeId×Value->H):∃ places,DataW.whole enc Tryz.prog ((vg os).forCall (λ_ _=>0) ⟨#[],agH,[]⟩).memory Tryz.f5.params.toList Rows.codeParsesSpec.vars false agH.toList 8=some ([.lit (.string [])],[],places):=
 ⟨[],by kernel_rfl⟩
set_option maxRecDepth 100000 in
theorem lifted(os:Os)(started:os.Started)(H:Type)(enc:TypeId×Value->H)(F:Stop.Interp) :
  ReturnsInHanded {} Tryz.checked os 5 .any ((Rows.OpenSpec.upto Rows.codeParsesSpec).preRow enc Tryz.prog Tryz.f5 Rows.codeParsesUptoRow.domain false Rows.codeParsesUptoRow.laid) (((Rows.OpenSpec.upto Rows.codeParsesSpec).at F).post enc Tryz.prog Tryz.f5 false true false false):=by
 obtain⟨places,hx⟩:=reads os enc;refine returnsInHanded_of_row (C:=Tryz.checked) (s:=Rows.OpenSpec.upto Rows.codeParsesSpec) amZ started (by kernel_rfl) Tryz.func5
  (witness_row_at (enc:=enc) (C:=Tryz.checked) false (vg os) agH (World.laidAll_os _ _ _) (by kernel_rfl) (by kernel_rfl) (by kernel_rfl)
   (OpenSpec.preRow_of_cond 8 hx (by kernel_rfl) (λk hk=>by cases hk;kernel_rfl) (by kernel_rfl) (Wi os))) ?_
 intro W base args ds gs before hval hW _ hcond _ hL hS _;exact aaw H enc W base args ds gs before hval hW hL (hcond _ rfl) hS
theorem said:Rows.CodeParsesUptoSaid:=
 OpenClaim.holds_of_cond 5 Tryz.f5 rfl rfl rfl rfl rfl rfl rfl ⟨rfl,rfl,rfl,rfl,rfl⟩ rfl rfl rfl rfl rfl (by kernel_rfl) Tryz.func5 facts
  (of_decide_eq_true (by kernel_rfl)) (by unfold Func.isWrapper;first|(rw[if_pos (by decide +kernel)];kernel_rfl)|(rw[if_neg (by decide +kernel)];exact⟨rfl,rfl⟩))
  (λos started H enc _ F=>by rw[OpenClaim.pre_eq_preRow];exact lifted os started H enc F)
theorem plain(f:FuncId)(fn:Func)(hf:Tryz.pinned.checked.prog.funcNamed "loupe/loupelaw20.CodeParses"=some f)(hfn:Tryz.pinned.checked.prog.funcs[f]?=some fn) :
  true=Tryz.pinned.checked.prog.looks []/\∀ (j:Nat) t,fn.params[j]?=some t->Tryz.pinned.checked.prog.wantsStandIn t=false:=by
 obtain rfl:f=5:=Option.some.inj ((show Tryz.prog.funcNamed "loupe/loupelaw20.CodeParses"=some 5 by kernel_rfl).symm.trans hf) |>.symm;obtain rfl:fn=Tryz.f5:=(Option.some.inj (Tryz.func5.symm.trans hfn)).symm;refine⟨by kernel_rfl,λj t ht=>?_⟩;rw[Tryz.params5]at ht;obtain rfl:t=9:=by simpa using Array.mem_of_getElem? ht
 exact (show Tryz.prog.wantsStandIn 9=false by kernel_rfl)
theorem proved:Rows.CodeParsesUptoCardSaid:=
 Claim7.holds_tied_plain_at .later [] _ _ _ _ said (λ_ h=>by cases h) (by kernel_rfl) (λ_ h=>by cases h) codeParsesUpto_row_tie rfl ⟨rfl,rfl⟩ (by kernel_rfl) rfl plain (by kernel_rfl)
end
end Go.Proofs.YtnemkecffmdlnaaGreatDoor.codeParses
