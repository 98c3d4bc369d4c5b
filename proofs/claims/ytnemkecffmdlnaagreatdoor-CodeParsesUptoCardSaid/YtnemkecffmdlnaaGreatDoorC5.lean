/-
 Part 5 of the proof (packed).
-/
import Derived.Test.YtnemkecffmdlnaaGreatDoorC4
import Derived.Shelf.Small.Strs
import Derived.Shelf.Strconv.ToError
import Derived.Shelf.LaysC
import Derived.Test.YtnemkecffmdlnaaGreatDoorProg
import Derived.Shelf.LaysM
import Derived.Shelf.Strconv.AtoiAll
import Derived.Shelf.Strings.Search1
import Derived.Shelf.Strings.Search2
import Derived.Shelf.Strings.Search3
import Derived.Shelf.Small.Wraps
import Derived.Shelf.Strings.Split
import Derived.Shelf.Strconv.Itoa3
import Derived.Lib.AppendIntMem
import Derived.Handy
import Derived.Lib.ConvBytes
import Derived.Lib.Hide
import Derived.Laws.Strings3
import Derived.Laws.Closers25
import Derived.Laws.Closers25b
import Derived.Lib.AtoiAllCases
set_option linter.unusedSimpArgs false
set_option linter.unusedVariables false
set_option linter.defProp false
set_option maxHeartbeats 16000000
namespace Go.Proofs.YtnemkecffmdlnaaGreatDoor
section
open Go.RowKit Go.LE Go.Proofs.Tryz
set_option maxRecDepth 10000
theorem rM(d:Nd):partsOf (.v (.agg d.bw.toArray))=List.map SV.v d.bw:=rfl
theorem EU(d:Nd):(List.map SV.v d.bw).length=261:=by rw[List.length_map,Nd.iM]
theorem ajq(d:Nd)(x:SV):(List.map SV.v d.bw).getD 0 x=.v (.int .i64 d.op):=rfl
theorem aeQ(d:Nd)(x:SV)(j:Nat)(v:Value)(h:[Value.int .i64 d.a,.int .i64 d.b,.int .i64 d.m,.int .i64 d.n][j]?=some v):(List.map SV.v d.bw).getD (257+j) x=.v v:=by
 rw[List.getD_eq_getElem?_getD,List.getElem?_map,Nd.p5,h];rfl
theorem aki(d:Nd)(x:SV):(List.map SV.v d.bw).getD 257 x=.v (.int .i64 d.a):=aeQ d x 0 _ rfl
theorem aiY(d:Nd)(x:SV):(List.map SV.v d.bw).getD 258 x=.v (.int .i64 d.b):=aeQ d x 1 _ rfl
theorem ah5(d:Nd)(x:SV):(List.map SV.v d.bw).getD 259 x=.v (.int .i64 d.m):=aeQ d x 2 _ rfl
theorem ajj(d:Nd)(x:SV):(List.map SV.v d.bw).getD 260 x=.v (.int .i64 d.n):=aeQ d x 3 _ rfl
theorem Dy(x:Rx)(m:Int):∀ (j:Nat) (k:Int) (w:Rx),aI w<=aI (dP x m j k w)
 |0,_,w=>Nat.le_refl _
 |j+1,k,w=>by
  have:=Dy x m j (k+1) (.cat w (du x m k));show _<=aI (dP x m j (k+1) (.cat w (du x m k)));have e:aI (.cat w (du x m k))=aI w+aI (du x m k)+1:=rfl;omega
def O3(o:Option Rx):Nat:=o.elim 0 aI
def Xg(m:Nat)(o:Option Rx):List Nd:=o.elim [] (eA m)
def oRt(m:Nat)(o:Option Rx):Int:=o.elim (-1) λw=>((m+aI w-1:Nat):Int)
theorem aeu(m:Nat)(o:Option Rx):(Xg m o).length=O3 o:=by
 cases o with
 |none=>rfl
 |some w=>exact gp w m
section
variable (ar:List Nd)(ts:List RT)(ao:Option Addr)(c n:Nat)
noncomputable def Γ69(h:jZ ar ts ao c n)(h' : Se ar ts ao c n):Env prog:=⟨λ| 124=>some (su ar ao c 124 call124 (below n) (UX ts) h).spec|215=>some (su ar ao c 215 call215 (below n) (Uj ts) h').spec|177=>some Ec.spec|_=>none,λ_=>none,λ_ _=>none⟩
theorem acM(h:jZ ar ts ao c n)(h' : Se ar ts ao c n):(Γ69 ar ts ao c n h h').sp 124=some (su ar ao c 124 call124 (below n) (UX ts) h).spec:=rfl
theorem afs(h:jZ ar ts ao c n)(h' : Se ar ts ao c n):(Γ69 ar ts ao c n h h').sp 215=some (su ar ao c 215 call215 (below n) (Uj ts) h').spec:=rfl
theorem afy(h:jZ ar ts ao c n)(h' : Se ar ts ao c n):(Γ69 ar ts ao c n h h').sp 177=some Ec.spec:=rfl
def cZ:=(aj jk jn gR ck cf b9 b8 (aj ca cc cg cd xi vU xj (aj tK yX AW Aa Al A5 AB (aj sK wP wU sF vY wV xn (aj vW wA wO w6 I6 HK GF (aj Kc Ji @aG @al @ax @aw @zj (aj @zy @LL @E6 @tZ @tH @qH @qN (aj @yl @ajq @aki @aiY @ah5 @ajj @EU (eS @rM @acM @afs @afy)))))))))
theorem zg(hg:jZ ar ts ao c n)(ho' : Se ar ts ao c n)(d:Nd)(ha:0<=d.a/\d.a<n)(hmn:uE d.m d.n):N2 ar ao c 176 (.agg d.bw.toArray) (da (ts.getD d.a.toNat .eps).expand d.m d.n):=by
 intro l r u fp w hl ho hlt hs;have hix:UX ts (.int .i64 d.a)=(ts.getD d.a.toNat .eps).expand:=rfl;have hop:Uj ts (.int .i64 d.a)=.alt (ts.getD d.a.toNat .eps).expand .eps:=rfl;refine mF (nt:=79) _ _ [.tmp 6] (by show 2<=7;omega) ho hlt func176 rfl rfl rfl ?_;unfold uE at hmn;refine vR Γ0 cZ ?_
 refine vR Γ0 cZ ?_;generalize hX:(ts.getD d.a.toNat .eps).expand=X at *
 refine aV ⟨20,bm [(0,.is (.v (.slice ao ar.length c))),(2,.is (.own 0 0)),(4,.is (.own 8 0)),(7,.is (.v (.int .i64 (cA d.m))))],aY [(0,.cells 64 [.hd 1,.v (.int .i64 r)]),(1,.row 243 261 l.length (List.map SV.v (dD l))),(8,.cells 243 (List.map SV.v d.bw))]⟩ ?_ ?_
 ·skip;refine vR Γ0 cZ ?_;refine wC cZ (λhc=>?_) (λhc=>?_)
  ·have h2:d.m=-2:=by simpa using hc
   rw[cA,if_pos h2];refine vr Γ0 cZ ?_;exact wM (λk=>.key k) cZ
  ·have h2:¬ d.m=-2:=by simpa using hc
   rw[cA,if_neg h2];refine wK ?_;exact wM (λk=>.key k) cZ
 refine Wp.seq ?_;refine vR Γ0 cZ ?_;refine wC cZ (λhc=>?_) (λhc=>?_)
 ·have h3:d.n<0/\cA d.m=0:=by simpa using hc
  have he:da X d.m d.n=.star X:=by rw[da,if_pos h3]
  rw[he]at hl ⊢;have hT:=gp X l.length;have hrs:aI (.star X)=aI X+1:=rfl;have hla:eA l.length (.star X)=eA l.length X++[cl 4 ((l.length+aI X-1:Nat):Int) 0]:=rfl;refine wR (Γ69 ar ts ao c n hg ho') (aa cZ hX) ?_ ?_
  ·exact⟨⟨⟨⟨l,rfl,rfl⟩,ha,oM,hs⟩,dE,sI⟩,⟨l++eA l.length X,by rw[bQ],by rw[List.length_append,hT],by rw[List.length_append,hT];omega⟩,dE,sI⟩
  refine wZ cZ ?_;rw[hla,hrs,bQ,mn,<- List.append_assoc,show l.length+(aI X+1)-1=l.length+aI X by omega,show l.length+(aI X+1)=l.length+aI X+1 by omega];exact⟨_,_,rfl,λE=>rfl,_,_,rfl,(ev (aa cZ @aA)),dE⟩
 have h3:¬ (d.n<0/\cA d.m=0):=by
  intro h;apply Bool.eq_false_iff.1 hc;simp[h.1,h.2]
 refine wK ?_;refine Wp.seq ?_;refine vR Γ0 cZ ?_;refine wC cZ (λhc=>?_) (λhc=>?_)
 ·have h4:d.n=0:=by simpa using hc
  have he:da X d.m d.n=.eps:=by rw[da,if_neg h3,if_pos h4]
  rw[he]at hl ⊢;have hrs:aI .eps=1:=rfl;have hla:eA l.length .eps=[cl 0 0 0]:=rfl;refine wR (Γ69 ar ts ao c n hg ho') cZ ?_ ?_
  ·exact⟨⟨l,rfl,rfl,oM⟩,dE,sI⟩
  refine wZ cZ ?_;rw[hla,hrs,mn,Nat.add_sub_cancel];exact⟨_,_,rfl,λE=>rfl,_,_,rfl,(ev (aa cZ @aA)),dE⟩
 have h4:¬ d.n=0:=by simpa using hc
 refine wK ?_;have hpm:0<=cA d.m/\cA d.m<=255:=by unfold cA;split<;>omega
 obtain⟨cnt,hcnt⟩:∃ cnt:Nat,(if d.n<0 then cA d.m else d.n)=(cnt:Int):=⟨(if d.n<0 then cA d.m else d.n).toNat,by split<;>omega⟩;have hcnt1:1<=cnt:=by
  by_cases h:d.n<0
  ·rw[if_pos h]at hcnt;omega
  ·rw[if_neg h]at hcnt;omega
 have hcnt2:cnt<=255:=by
  by_cases h:d.n<0
  ·rw[if_pos h]at hcnt;omega
  ·rw[if_neg h]at hcnt;omega
 obtain⟨fin,hfin⟩:∃ fin,fin=dP X (cA d.m) (cnt-1) 1 (du X (cA d.m) 0):=⟨_,rfl⟩;have he:da X d.m d.n=if d.n<0 then .cat fin (.star X) else fin:=by
  rw[da,if_neg h3,if_neg h4];by_cases h:d.n<0
  ·rw[if_pos h]at hcnt;rw[if_pos h,if_pos h,hfin,hcnt,show ((cnt:Int)-1).toNat=cnt-1 by omega]
  ·rw[if_neg h]at hcnt;rw[if_neg h,if_neg h,hfin,hcnt,show ((cnt:Int)-1).toNat=cnt-1 by omega]
 have hlf:l.length+aI fin<=4000000:=by
  rw[he]at hl;by_cases h:d.n<0
  ·rw[if_pos h]at hl;have:aI (.cat fin (.star X))=aI fin+(aI X+1)+1:=rfl;omega
  ·rw[if_neg h]at hl;exact hl
 refine vR Γ0 cZ ?_
 refine aV ⟨40,bm [(0,.is (.v (.slice ao ar.length c))),(2,.is (.own 0 0)),(4,.is (.own 8 0)),(7,.is (.v (.int .i64 (cA d.m)))),(8,.is (.v (.int .i64 (cnt:Nat))))],aY [(0,.cells 64 [.hd 1,.v (.int .i64 r)]),(1,.row 243 261 l.length (List.map SV.v (dD l))),(8,.cells 243 (List.map SV.v d.bw))]⟩ ?_ ?_
 ·skip;refine vR Γ0 cZ ?_;refine wC cZ (λhc=>?_) (λhc=>?_)
  ·have h5:d.n<0:=by simpa using hc
   rw[if_pos h5]at hcnt;rw[<- hcnt];refine vr Γ0 cZ ?_;exact wM (λk=>.key k) cZ
  ·have h5:¬ d.n<0:=by simpa using hc
   rw[if_neg h5]at hcnt;rw[<- hcnt];refine wK ?_;exact wM (λk=>.key k) cZ
 refine vR Γ0 cZ ?_;refine Wp.seq ?_;refine vR Γ0 cZ ?_;refine Wp.block ?_
 refine Wp.loop (λp:Nat×Option Rx=>⟨60,bm [(0,.is (.v (.slice ao ar.length c))),(2,.is (.own 0 0)),(4,.is (.own 8 0)),(7,.is (.v (.int .i64 (cA d.m)))),(8,.is (.v (.int .i64 (cnt:Nat)))),(9,.is (.v (.int .i64 (oRt l.length p.2)))),(10,.is (.v (.int .i64 (p.1:Nat))))],aY [(0,.cells 64 [.hd 1,.v (.int .i64 r)]),(1,.row 243 261 (l.length+O3 p.2) (List.map SV.v (dD l++dD (Xg l.length p.2)))),(8,.cells 243 (List.map SV.v d.bw))]⟩)
  (λp=>p.1<=cnt/\match p.2 with|none=>p.1=0|some y=>1<=p.1/\dP X (cA d.m) (cnt-p.1) p.1 y=fin) (λp=>cnt-p.1) (0,none) ?_ ⟨Nat.zero_le _,rfl⟩ ?_
 ·exact wM (λk=>.key k) (ur cZ @oRt.eq_1 @O3.eq_1 @Xg.eq_1 @Option.elim.eq_1.{0,1} @Option.elim.eq_2.{0,1} (show dD []=[] from rfl))
 rintro⟨k,o⟩ ⟨h1,ho2⟩;simp only at h1 ho2;refine Wp.seq ?_;refine vR Γ0 cZ ?_;refine wC cZ (λhc=>?_) (λhc=>?_)
 ·have hk:k<cnt:=by
   simp at hc;omega
  refine wK ?_;refine Wp.seq (Wp.block ?_);refine vR Γ0 cZ ?_;have hO:=aeu l.length o;have hnext:∃ w2,dP X (cA d.m) (cnt-(k+1)) (k+1:Nat) w2=fin/\(match o with|none=>w2=du X (cA d.m) k|some y=>w2=.cat y (du X (cA d.m) k)):=by
   cases o with
   |none=>
    simp only at ho2;subst ho2;exact⟨_,hfin.symm,rfl⟩
   |some y=>
    refine⟨_,?_,rfl⟩;have h2:=ho2.2;rw[show cnt-k=(cnt-(k+1))+1 by omega]at h2;exact h2
  obtain⟨w2,hw2,hw2o⟩:=hnext;have hr2:=Dy X (cA d.m) (cnt-(k+1)) (k+1:Nat) w2;rw[hw2]at hr2;have hrp:O3 o+aI (du X (cA d.m) k)<=aI w2/\(o.isSome->O3 o+aI (du X (cA d.m) k)+1<=aI w2):=by
   cases o with
   |none=>
    simp only at hw2o;subst hw2o;exact⟨by simp[O3],λh=>by cases h⟩
   |some y=>
    simp only at hw2o;subst hw2o;exact⟨by show aI y+_<=aI y+_+1;omega,λ_=>Nat.le_refl _⟩
  refine aV ⟨90,bm [(0,.is (.v (.slice ao ar.length c))),(2,.is (.own 0 0)),(4,.is (.own 8 0)),(7,.is (.v (.int .i64 (cA d.m)))),(8,.is (.v (.int .i64 (cnt:Nat)))),(9,.is (.v (.int .i64 (oRt l.length o)))),(10,.is (.v (.int .i64 (k:Nat)))),(11,.is (.v (.int .i64 ((l.length+O3 o+aI (du X (cA d.m) k)-1:Nat):Int))))],aY [(0,.cells 64 [.hd 1,.v (.int .i64 r)]),(1,.row 243 261 (l.length+O3 o+aI (du X (cA d.m) k)) (List.map SV.v (dD l++dD (Xg l.length o)++dD (eA (l.length+O3 o) (du X (cA d.m) k))))),(8,.cells 243 (List.map SV.v d.bw))]⟩ ?_ ?_
  ·skip;refine vR Γ0 cZ ?_;refine wC cZ (λhc=>?_) (λhc=>?_)
   ·have h5:(k:Int)<cA d.m:=by simpa using hc
    have hp:du X (cA d.m) k=X:=by rw[du,if_pos h5]
    rw[hp]at hrp ⊢;refine wr (Γ69 ar ts ao c n hg ho') (aa cZ hX) ?_ ?_
    ·exact⟨⟨⟨l++Xg l.length o,by rw[bQ],by rw[List.length_append,hO]⟩,ha,oM,hs⟩,dE,sI⟩
    exact wM (λx=>if x=1 then .key 568 else .key x) cZ
   ·have h5:¬ (k:Int)<cA d.m:=by simpa using hc
    have hp:du X (cA d.m) k=.alt X .eps:=by rw[du,if_neg h5]
    rw[hp]at hrp ⊢;refine wr (Γ69 ar ts ao c n hg ho') (aa cZ hop) ?_ ?_
    ·exact⟨⟨⟨l++Xg l.length o,by rw[bQ],by rw[List.length_append,hO]⟩,ha,oM,hs⟩,dE,sI⟩
    exact wM (λx=>if x=1 then .key 568 else .key x) cZ
  generalize du X (cA d.m) k=q at *;have hq:=jN q;cases o with
  | none=>
   simp only at hw2o ho2;subst hw2o ho2;have e1:oRt l.length (none:Option Rx)=-1:=rfl;have e2:dD l++dD (Xg l.length (none:Option Rx))=dD l:=List.append_nil _;have e3:l.length+O3 (none:Option Rx)=l.length:=rfl;rw[e1,e2,e3];refine vR Γ0 cZ ?_;refine wC cZ (λhc=>?_) (λhc=>?_)
   rotate_left
   ·exfalso;simp at hc
   refine vr Γ0 cZ ?_;refine vr Γ0 cZ ?_;refine⟨(1,some w2),⟨oM,Nat.le_refl _,hw2⟩,oM,?_⟩;exact wM (λx=>.key x) (ml cZ @oRt.eq_1 @O3.eq_1 @Xg.eq_1 @Option.elim.eq_1.{0,1} @Option.elim.eq_2.{0,1})
  | some y=>
   simp only at hw2o ho2;have e1:oRt l.length (some y)=((l.length+aI y-1:Nat):Int):=rfl;have e2:Xg l.length (some y)=eA l.length y:=rfl;have e3:O3 (some y)=aI y:=rfl;have hrp' := hrp.2 rfl;rw[e1,e2,e3];rw[e3]at hrp';have hL1:=gp y l.length;have hL2:=gp q (l.length+aI y);refine vR Γ0 cZ ?_
   refine wC cZ (λhc=>?_) (λhc=>?_)
   ·exfalso;simp at hc;omega
   refine wr (Γ69 ar ts ao c n hg ho') cZ ?_ ?_
   ·exact⟨⟨l++eA l.length y++eA (l.length+aI y) q,by rw[bQ,bQ],by rw[List.length_append,List.length_append,hL1,hL2],by rw[List.length_append,List.length_append,hL1,hL2];omega⟩,dE,sI⟩
   have wk:IntKind.i64.wrap ((k:Int)+1)=((k+1:Nat):Int):=wW;refine vr Γ0 (aa cZ wk) ?_;subst hw2o;refine⟨(k+1,some (.cat y q)),⟨oM,by simp only;omega,hw2⟩,by simp only;omega,?_⟩;have f1:oRt l.length (some (.cat y q))=((l.length+aI y+aI q:Nat):Int):=by
    show ((l.length+(aI y+aI q+1)-1:Nat):Int)=_
    congr 1;omega
   have f2:l.length+O3 (some (.cat y q))=l.length+aI y+aI q+1:=by
    show l.length+(aI y+aI q+1)=_;omega
   have f3:dD l++dD (Xg l.length (some (.cat y q)))=dD l++dD (eA l.length y)++dD (eA (l.length+aI y) q)++(cl 2 ((l.length+aI y-1:Nat):Int) ((l.length+aI y+aI q-1:Nat):Int)).bw:=by
    show dD l++dD (eA l.length y++(eA (l.length+aI y) q++[_]))=_;rw[bQ,bQ,mn];simp only[List.append_assoc]
   exact wM (λx=>if x=1 then .key 760 else .key x) (eS cZ f1 f2 f3)
 ·have hk:k=cnt:=by
   simp at hc;omega
  subst hk;refine wE ?_;cases o with
  |none=>
   simp only at ho2;omega
  | some y=>
   simp only at ho2;have hy:y=fin:=by
    have:=ho2.2;rw[Nat.sub_self]at this;exact this
   subst hy;have e1:oRt l.length (some y)=((l.length+aI y-1:Nat):Int):=rfl;have e2:Xg l.length (some y)=eA l.length y:=rfl;have e3:O3 (some y)=aI y:=rfl;rw[e1,e2,e3];have hL1:=gp y l.length;refine Wp.seq ?_;refine vR Γ0 cZ ?_;refine wC cZ (λhc=>?_) (λhc=>?_)
   ·have h5:d.n<0:=by simpa using hc
    rw[if_pos h5]at he;rw[he]at hl ⊢;have hrs:aI (.cat y (.star X))=aI y+(aI X+1)+1:=rfl;have hL2:=gp X (l.length+aI y);refine wr (Γ69 ar ts ao c n hg ho') (aa cZ hX) ?_ ?_
    ·refine⟨⟨⟨⟨l++eA l.length y,by rw[bQ],by rw[List.length_append,hL1]⟩,ha,oM,hs⟩,dE,sI⟩,
      ⟨⟨l++eA l.length y++eA (l.length+aI y) X,by rw[bQ,bQ],by rw[List.length_append,List.length_append,hL1,hL2],by rw[List.length_append,List.length_append,hL1,hL2];omega⟩,dE,sI⟩,
      ⟨l++eA l.length y++eA (l.length+aI y) X++[cl 4 ((l.length+aI y+aI X-1:Nat):Int) 0],by rw[bQ,bQ,bQ,mn],by rw[List.length_append,List.length_append,List.length_append,hL1,hL2,List.length_singleton],by rw[List.length_append,List.length_append,List.length_append,hL1,hL2,List.length_singleton];omega⟩,dE,sI⟩
    refine vR Γ0 cZ ?_;refine wZ cZ ?_;have g1:l.length+aI (.cat y (.star X))=l.length+aI y+aI X+1+1:=by rw[hrs];omega
    have g2:l.length+aI y+aI X+1+1-1=l.length+aI y+aI X+1:=oM;have g3:dD l++dD (eA l.length (.cat y (.star X)))=dD l++dD (eA l.length y)++dD (eA (l.length+aI y) X)++(cl 4 ((l.length+aI y+aI X-1:Nat):Int) 0).bw++(cl 2 ((l.length+aI y-1:Nat):Int) ((l.length+aI y+aI X:Nat):Int)).bw:=by
     show dD l++dD (eA l.length y++((eA (l.length+aI y) X++[_])++[_]))=_;rw[bQ,bQ,bQ,mn,mn];simp only[List.append_assoc];rw[show l.length+aI y+aI (.star X)-1=l.length+aI y+aI X from rfl]
    rw[g1,g2,g3];exact⟨_,_,rfl,λE=>rfl,_,_,rfl,(ev (aa cZ @aA)),dE⟩
   ·have h5:¬ d.n<0:=by simpa using hc
    rw[if_neg h5]at he;rw[he]at hl ⊢;refine wK ?_;refine vR Γ0 cZ ?_;refine wZ cZ ?_;exact⟨_,_,rfl,λE=>rfl,_,_,rfl,(ev (aa cZ @aA)),dE⟩
end
theorem AR.nm{ar:List Nd}{ts:List RT}(h:AR ar ts):∀ k (hk:k<ar.length),∃ t,ts[k]?=some t/\NM (ts.take k) ar[k] t:=by
 induction h with
 |nil=>intro k hk;cases hk
 | @snoc ar ts d t ha hn ih=>
  intro k hk;by_cases hlt:k<ar.length
  ·obtain⟨t',h1,h2⟩:=ih k hlt;have hl:=ha.len;refine⟨t',by rw[List.getElem?_append_left oM];exact h1,?_⟩;rw[List.getElem_append_left hlt,List.take_append_of_le_length oM];exact h2
  ·have hk' : k=ar.length:=by simp at hk;omega
   subst hk';have hl:=ha.len;refine⟨t,by rw[<- hl];simp,?_⟩;have e:(ts++[t]).take ar.length=ts:=by rw[<- hl,List.take_left]
   rw[List.getElem_append_right (Nat.le_refl _),e];simpa using hn
theorem u6{w:World}{b:Nat}:∀ (vs:List Value) (o:Nat),(∀ j (h:j<vs.length),w.cell? ⟨b,o+j,none⟩=some vs[j])->bU w b o vs.length=List.map SV.v vs/\dL w b o vs.length
 |[],_,_=>⟨rfl,trivial⟩
 | v::r,o,h=>by
  have h0:=h 0 sI;have hr:=u6 r (o+1) λj hj=>by
   have:=h (j+1) (by simpa using hj);rw[show o+(j+1)=o+1+j by omega]at this;simpa using this
  rw[Nat.add_zero]at h0;simp only[List.getElem_cons_zero]at h0;rw[List.length_cons];exact⟨by rw[bU,h0,hr.1];rfl,by rw[dL,h0];exact⟨rfl,hr.2⟩⟩
theorem kh{w:World}{S:Nat->Prop}{ao:Option Addr}{l:List Nd}(h:gO w S ao (dD l)){k:Nat}(hk:k<l.length):∃ b o,ao=some ⟨b,o,none⟩/\S b/\bU w b (o+k*261) 261=List.map SV.v l[k].bw/\(dL w b (o+k*261) 261)=True:=by
 have hl:=OJ l;rcases h with h|⟨b,o,rfl,hc⟩
 ·rw[h]at hl;simp at hl;omega
 ·have h0:=hc 0 oM;have:=u6 (w:=w) (b:=b) l[k].bw (o+k*261) λj hj=>by
   rw[Nd.iM]at hj;have h1:=hc (k*261+j) oM;have h2:=N5 l k j hk hj;rw[List.getElem?_eq_getElem oM,List.getElem?_eq_getElem (by rw[Nd.iM];exact hj)]at h2;simp only[Option.some.injEq]at h2;rw[<- h2,<- h1.2,Nat.add_assoc]
  rw[Nd.iM]at this;exact⟨b,o,rfl,h0.1,this.1,eq_true this.2⟩
theorem OF(d:Nd):List.take 256 (List.drop 1 (List.map SV.v d.bw))=List.map SV.v (gI d.set.getLsbD):=by
 have e:List.drop 1 (List.map SV.v d.bw)=List.map SV.v (gI d.set.getLsbD)++List.map SV.v [.int .i64 d.a,.int .i64 d.b,.int .i64 d.m,.int .i64 d.n]:=by
  show List.map SV.v (gI d.set.getLsbD++_)=_;rw[List.map_append]
 rw[e,List.take_left' (by rw[dN])]
theorem Bz(d:Nd):List.take 261 (List.map SV.v d.bw)=List.map SV.v d.bw:=List.take_of_length_le (by rw[EU];omega)
theorem tP(op:Int)(S:CS):dO prog 243 [0,1] [.v (.int .i64 op),.agg (List.map SV.v (gI S.getLsbD))]=⟨True,.agg ((⟨op,S,0,0,0,0⟩:Nd).bw.map .v),[],none,[],[]⟩:=by
 kernel_rfl
theorem NM.leaf{ts:List RT}{d:Nd}{t:RT}(h:NM ts d t)(h2:d.op<2):(∀ m,eA m t.expand=[⟨d.op,d.set,0,0,0,0⟩])/\aI t.expand=1:=by
 cases h with
 |eps h0 h1=>exact⟨λm=>by rw[h0,h1];rfl,rfl⟩
 |cls h0=>exact⟨λm=>by rw[h0];rfl,rfl⟩
 |cat a b h0|alt a b h0|and a b h0|minus a b h0|rep a h0=>omega
theorem NM.two{ts:List RT}{d:Nd}{t:RT}(h:NM ts d t)(h2:2<=d.op)(h7:d.op≠7):∃ a b,ts[d.a.toNat]?=some a/\ts[d.b.toNat]?=some b/\aI t.expand=aI a.expand+aI b.expand+1 /\
  ∀ m,eA m t.expand=eA m a.expand++(eA (m+aI a.expand) b.expand++[cl d.op ((m+aI a.expand-1:Nat):Int) ((m+aI a.expand+aI b.expand-1:Nat):Int)]):=by
 cases h with
 |eps h0|cls h0=>omega
 |cat a b h0 _ h1 _ h2=>exact⟨a,b,h1,h2,rfl,λm=>by rw[h0];rfl⟩
 |alt a b h0 _ h1 _ h2=>exact⟨a,b,h1,h2,rfl,λm=>by rw[h0];rfl⟩
 |and a b h0 _ h1 _ h2=>exact⟨a,b,h1,h2,rfl,λm=>by rw[h0];rfl⟩
 |minus a b h0 _ h1 _ h2=>exact⟨a,b,h1,h2,rfl,λm=>by rw[h0];rfl⟩
 |rep a h0=>exact absurd h0 h7
theorem NM.seven{ts:List RT}{d:Nd}{t:RT}(h:NM ts d t)(h7:d.op=7):∃ a,ts[d.a.toNat]?=some a/\t.expand=da a.expand d.m d.n:=by
 cases h with
 |eps h0|cls h0|cat a b h0|alt a b h0|and a b h0|minus a b h0=>omega
 |rep a h0 _ h1 _=>exact⟨a,h1,rfl⟩
theorem J5:List.drop 260 (List.map SV.v (List.replicate 256 (Value.bool false)++[Value.int .i64 0]++[Value.int .i64 0]++[Value.int .i64 0]++[Value.int .i64 0]))=[]:=by
 apply List.drop_of_length_le;simp
section
variable (ar:List Nd)(ts:List RT)(ao:Option Addr)(c n:Nat)(d:Nd)
abbrev UnT:Prop:=∀ v,v=.agg d.bw.toArray->N2 ar ao c 176 v ((λ_=>da (ts.getD d.a.toNat .eps).expand d.m d.n) v)
noncomputable def Γ70(h:jZ ar ts ao c n)(h' : UnT ar ts ao c d):Env prog:=⟨λ| 124=>some (su ar ao c 124 call124 (below n) (UX ts) h).spec|176=>some (su ar ao c 176 call176 (λv=>v=.agg d.bw.toArray) (λ_=>da (ts.getD d.a.toNat .eps).expand d.m d.n) h').spec|177=>some Ec.spec|_=>none,λ_=>none,λ_ _=>none⟩
theorem aft(h:jZ ar ts ao c n)(h' : UnT ar ts ao c d):(Γ70 ar ts ao c n d h h').sp 124=some (su ar ao c 124 call124 (below n) (UX ts) h).spec:=rfl
theorem ab5(h:jZ ar ts ao c n)(h' : UnT ar ts ao c d):(Γ70 ar ts ao c n d h h').sp 176=some (su ar ao c 176 call176 (λv=>v=.agg d.bw.toArray) (λ_=>da (ts.getD d.a.toNat .eps).expand d.m d.n) h').spec:=rfl
theorem ag0(h:jZ ar ts ao c n)(h' : UnT ar ts ao c d):(Γ70 ar ts ao c n d h h').sp 177=some Ec.spec:=rfl
def kb:=(aj jk jn BG BH BJ gR ck (aj cf b9 b8 ca cc cg cd (aj xi vU xj tK yX AW Aa (aj Al A5 AB DT Dq DD Cq (aj sK wP wU sF vY wV xn (aj vW wA wO w6 I6 HK GF (aj Kc Ji @aG @al @ax @aw @zj (aj @zy @LL @E6 @tZ @tH @qH @qN (aj @yl @ajq @aki @aiY @ah5 @ajj @EU (aj @rM @aft @ab5 @ag0 @ti @sH @OF (eS @tP @J5 @Bz @aA)))))))))))
theorem Yo(har:AR ar ts)(k:Nat)(hk:k<ar.length)(hg:jZ ar ts ao c k):N2 ar ao c 124 (.int .i64 k) (ts.getD k .eps).expand:=by
 obtain⟨t,ht,hnm⟩:=har.nm k hk;have htk:(ts.getD k .eps)=t:=by rw[List.getD_eq_getElem?_getD,ht];rfl
 have hok:=har.ok k hk;have at' : ∀ (x:Int) (a:RT),(ts.take k)[x.toNat]?=some a->ts.getD x.toNat .eps=a:=λx a hx=>by
  rw[List.getElem?_take]at hx;split at hx
  ·rw[List.getD_eq_getElem?_getD,hx];rfl
  ·cases hx
 rw[htk];intro l r u fp w hl ho hlt hs;obtain⟨b,o,hao,hb,hx1,hx2⟩:=kh hs hk;have hun:UnT ar ts ao c ar[k]\/ar[k].op≠7:=by
  by_cases h7:ar[k].op=7
  ·left;rintro _ rfl;exact zg ar ts ao c k hg (Oo ar ts ao c k hg) ar[k] (hok.2.1 oM) (hok.2.2.2 h7)
  ·exact .inr h7
 generalize ar[k]=d at *;refine mF (nt:=61) _ _ [.tmp 6] (by show 2<=7;omega) ho hlt func124 rfl rfl rfl ?_;subst hao;refine vR Γ0 kb ?_
 refine Wp.pn Γ0 cj (by simp only[kp,Op.operands,Value.cells,σ0,σB,Nat.reduceEqDiff,Nat.reduceAdd,Nat.reduceMul,Nat.reduceLT,Nat.reduceLeDiff,Nat.reduceBEq,av,Int.reduceToNat,Int.reduceLT,Int.reduceLE,Nat.reduceDiv,Nat.reduceMod,Nat.reduceSub,Int.reducePow,Nat.reducePow,σP,σB3,kb,↓hx1,↓hx2];exact rfl) rfl ?_ ?_
 ·exact⟨oM,hb,sI,Nd.ej d⟩
 refine Wp.seq ?_;refine vR Γ0 kb ?_;refine Wp.block ?_;refine Wp.seq ?_;refine vR Γ0 kb ?_;have hnl:∀ m:Nat,aI t.expand=1->l.length+aI t.expand-1=l.length:=λ_ h=>by omega
 have leaf:d.op<2->True:=λ_=>trivial
 refine wC kb (λhc=>?_) (λhc=>?_)
 ·have h0:d.op=0:=by simpa using hc
  obtain⟨hla,hrs⟩:=hnm.leaf oM;refine wK ?_;refine wC kb (λhc=>?_) (λhc=>?_)
  rotate_left
  ·exfalso;simp[h0]at hc
  rw[hla,hrs,<- bQ,Nat.add_sub_cancel];refine lf Γ0 kb ?_ ?_
  ·exact⟨sI,by unfold maxLen;omega,oM,Nd.ej _⟩
  have w1:IntKind.i64.wrap (((l.length+1:Nat):Int)-1)=((l.length:Nat):Int):=wW;refine vR Γ0 (aa kb w1) ?_;refine wZ kb ?_;exact⟨_,_,rfl,λE=>rfl,_,_,rfl,(ev (aa kb @aA)),dE⟩
 ·have h0:¬ d.op=0:=by simpa using hc
  refine vr Γ0 kb ?_;refine wC kb (λhc=>?_) (λhc=>?_)
  ·have h1:d.op=1:=by simpa using hc
   obtain⟨hla,hrs⟩:=hnm.leaf oM;rw[hla,hrs,<- bQ,Nat.add_sub_cancel];refine lf Γ0 kb ?_ ?_
   ·exact⟨sI,by unfold maxLen;omega,oM,Nd.ej _⟩
   have w1:IntKind.i64.wrap (((l.length+1:Nat):Int)-1)=((l.length:Nat):Int):=wW;refine vR Γ0 (aa kb w1) ?_;refine wZ kb ?_;exact⟨_,_,rfl,λE=>rfl,_,_,rfl,(ev (aa kb @aA)),dE⟩
  have h1:¬ d.op=1:=by simpa using hc
  refine vR Γ0 kb ?_;refine wC kb (λhc=>?_) (λhc=>?_)
  ·have h7:d.op=7:=by simpa using hc
   obtain⟨a,g1,g2⟩:=hnm.seven h7;have g3:=at' _ _ g1;have hun' := hun.resolve_right (λh=>h h7);rw[g2]at hl ⊢;rw[<- g3]at hl ⊢;refine wR (Γ70 ar ts (some ⟨b,o,none⟩) c k d hg hun') kb ?_ ?_
   ·exact⟨⟨⟨l,rfl,rfl⟩,hl,hs⟩,dE,sI⟩
   refine wZ kb ?_;exact⟨_,_,rfl,λE=>rfl,_,_,rfl,(ev (aa kb @aA)),dE⟩
  have h7:¬ d.op=7:=by simpa using hc
  obtain⟨a,a',g1,g2,hrs,hla⟩:=hnm.two oM h7;have g3:=at' _ _ g1;have g4:=at' _ _ g2;have ha:=hok.2.1 oM;have hb' := hok.2.2.1 oM h7;have hL1:=gp a.expand l.length;have hL2:=gp a'.expand (l.length+aI a.expand);rw[hla,hrs];rw[hrs]at hl;have hun' : UnT ar ts (some ⟨b,o,none⟩) c ⟨7,0,d.a,0,0,0⟩:=by
   rintro _ rfl;exact zg ar ts _ c k hg (Oo ar ts _ c k hg) ⟨7,0,d.a,0,0,0⟩ ha (.inr (by show (0:Int)<=0/\(0:Int)<=255/\(0:Int)<=255/\((0:Int)=-1\/(0:Int)<=0/\(0:Int)<=0);omega))
  refine wK ?_;refine wR (Γ70 ar ts (some ⟨b,o,none⟩) c k ⟨7,0,d.a,0,0,0⟩ hg hun') (aa kb g3) ?_ ?_
  ·exact⟨⟨⟨l,rfl,rfl⟩,ha,oM,hs⟩,dE,sI⟩
  refine wR (Γ70 ar ts (some ⟨b,o,none⟩) c k ⟨7,0,d.a,0,0,0⟩ hg hun') (aa kb g4) ?_ ?_
  ·exact⟨⟨⟨l++eA l.length a.expand,by rw[bQ],by rw[List.length_append,hL1]⟩,hb',oM,hs⟩,dE,sI⟩
  refine wR (Γ70 ar ts (some ⟨b,o,none⟩) c k ⟨7,0,d.a,0,0,0⟩ hg hun') kb ?_ ?_
  ·exact⟨⟨l++eA l.length a.expand++eA (l.length+aI a.expand) a'.expand,by rw[bQ,bQ],by rw[List.length_append,List.length_append,hL1,hL2],by rw[List.length_append,List.length_append,hL1,hL2];omega⟩,dE,sI⟩
  refine wZ kb ?_;have e:l.length+(aI a.expand+aI a'.expand+1)=l.length+aI a.expand+aI a'.expand+1:=oM;rw[e,Nat.add_sub_cancel,bQ,bQ,mn,<- List.append_assoc,<- List.append_assoc];exact⟨_,_,rfl,λE=>rfl,_,_,rfl,(ev (aa kb @aA)),dE⟩
theorem J7(har:AR ar ts):∀ n,n<=ar.length->jZ ar ts ao c n
 |0,_=>by
  rintro _ ⟨x,rfl,hx⟩;omega
 | n+1,hn=>by
  have ih:=J7 har n oM;rintro _ ⟨x,rfl,hx⟩;by_cases h:x<n
  ·exact ih _ ⟨x,rfl,hx.1,h⟩
  ·have e:x=(n:Int):=oM;subst e;exact Yo ar ts ao c har n oM ih
end
end
section
def mG(r:RL):Prop:=r.1=cG (aI r.2)
theorem mG.leaf{t:Rx}(h:aI t=1):mG (bY t):=by
 show 1=cG (aI t);rw[h];rfl
theorem mG.join{mk:Rx->Rx->Rx}(hm:∀ x y,aI (mk x y)=aI x+aI y+1){a b:RL}(ha:mG a)(hb:mG b):mG (aX mk a b):=by
 show cG (1+a.1+b.1)=cG (aI (mk a.2 b.2));rw[hm,ha,hb,NJ,MJ]
 congr 1
 omega
theorem mG.star{a:RL}(ha:mG a):mG (gm a):=by
 show cG (1+a.1)=cG (aI a.2+1);rw[ha];unfold cG;omega
theorem mG.maybe{a:RL}(ha:mG a):mG (bL a):=mG.join (λ_ _=>rfl) ha (mG.leaf rfl)
theorem mG.iter{f:RL->RL}(hf:∀ x,mG x->mG (f x)):∀ (k:Nat) {x:RL},mG x->mG (bH f k x)
 |0,_,h=>h
 |k+1,_,h=>mG.iter hf k (hf _ h)
theorem mG.times{a:RL}(ha:mG a)(m n:Int):mG (dA a m n):=by
 have h1:mG (if m=0 then bL a else a):=by split;exact ha.maybe;exact ha
 have h2:mG (bH (λx=>aX .cat x a) (m-1).toNat (if m=0 then bL a else a)):=mG.iter (λx hx=>mG.join (λ_ _=>rfl) hx ha) _ h1;unfold dA;split
 ·exact ha.star
 ·split
  ·exact mG.leaf rfl
  ·split
   ·exact mG.join (λ_ _=>rfl) h2 ha.star
   ·exact mG.iter (λx hx=>mG.join (λ_ _=>rfl) hx ha.maybe) _ h2
theorem RT.xl(t:RT):t.sz<=2001:=by
 cases t with
 |eps=>decide
 |cls S=>show 1<=2001;decide
 |cat a b=>exact kW _
 |alt a b=>exact kW _
 |and a b=>exact kW _
 |minus a b=>exact kW _
 |rep a m n=>exact kW _
theorem NM.size{ts:List RT}{d:Nd}{t:RT}(h:NM ts d t)(hts:∀ s∈ts,mG s.val):mG t.val:=by
 have at' : ∀ {x:Nat} {a:RT},ts[x]?=some a->mG a.val:=λh=>hts _ (List.mem_of_getElem? h)
 cases h with
 |eps h0 h1=>exact mG.leaf rfl
 |cls h0=>exact mG.leaf rfl
 |cat a b _ _ h1 _ h2=>exact mG.join (mk:=.cat) (λ_ _=>rfl) (at' h1) (at' h2)
 |alt a b _ _ h1 _ h2=>exact mG.join (mk:=.alt) (λ_ _=>rfl) (at' h1) (at' h2)
 |and a b _ _ h1 _ h2=>exact mG.join (mk:=.and) (λ_ _=>rfl) (at' h1) (at' h2)
 |minus a b _ _ h1 _ h2=>exact mG.join (mk:=.minus) (λ_ _=>rfl) (at' h1) (at' h2)
 | rep a _ _ h1 h2=>
  rcases h2 with ⟨e1,e2⟩|⟨g0,_,_,g1⟩
  ·rw[e1,e2,<- yD];exact mG.join (λ_ _=>rfl) (at' h1) (at' h1).star
  ·rw[<- uV a d.m d.n g0 g1 a.xl];exact (at' h1).times _ _
theorem AR.size{ar:List Nd}{ts:List RT}(h:AR ar ts):∀ t∈ts,mG t.val:=by
 induction h with
 |nil=>intro t ht;cases ht
 | snoc ha hn ih=>
  intro s hs;rcases List.mem_append.1 hs with hs|hs
  ·exact ih s hs
  ·rw[List.mem_singleton.1 hs];exact hn.size ih
theorem AR.small{ar:List Nd}{ts:List RT}(h:AR ar ts){t:RT}(ht:t∈ts)(hs:t.sz<=2000):aI t.expand<=2000:=by
 have:=h.size t ht;have e:t.sz=cG (aI t.expand):=this;unfold cG at e;omega
def hxD(n:Int):UInt8:=if n<10 then (48+n).toNat.toUInt8 else (87+n).toNat.toUInt8
def lh(b:Int)(barred:Bool):ByteArray:=
 if b=10 then ⟨#[92,110]⟩ else if b=13 then ⟨#[92,114]⟩ else if b=9 then ⟨#[92,116]⟩
 else if b<32\/126<b then ⟨#[92,120,hxD (b / 16),hxD (b % 16)]⟩
 else if barred=true then ⟨#[92,b.toNat.toUInt8]⟩ else ⟨#[b.toNat.toUInt8]⟩
theorem lQ(b:Int)(q:Bool):(lh b q).size<=4:=by
 unfold lh
 repeat' split
 all_goals (show Array.size _<=4;simp)
def lA(S:CS):Nat->Nat
 |0=>0
 |n+1=>lA S n+if S.getLsbD n=true then 1 else 0
def j1(S:CS):Nat:=lA S 256
theorem Fc(S:CS)(n:Nat):lA S n<=n:=by
 induction n with
 |zero=>exact Nat.le_refl _
 |succ n ih=>
  unfold lA;split<;>omega
def EO(S:CS):Nat->Nat->Nat
 |0,b=>b
 |k+1,b=>if S.getLsbD b=true then b else EO S k (b+1)
def Af(S:CS):Nat:=EO S 256 0
theorem P4(S:CS):∀ k b,b<=EO S k b/\EO S k b<=b+k
 |0,b=>⟨Nat.le_refl _,Nat.le_refl _⟩
 | k+1,b=>by
  unfold EO;split
  ·omega
  ·have:=P4 S k (b+1);omega
theorem Pb(S:CS)(b:Nat)(hb:b<256)(h1:∀ j<b,S.getLsbD j=false)(h2:S.getLsbD b=true):Af S=b:=by
 have key:∀ k j,j+k=256->j<=b->EO S k j=b:=by
  intro k
  induction k with
  |zero=>intro j hj hjb;omega
  | succ k ih=>
   intro j hj hjb;unfold EO;by_cases e:j=b
   ·subst e;rw[if_pos h2]
   ·rw[if_neg (by rw[h1 j oM];simp)];exact ih (j+1) oM oM
 exact key 256 0 rfl (Nat.zero_le _)
theorem DA(S:CS)(n:Nat)(h:∀ j<n,S.getLsbD j=false):lA S n=0:=by
 induction n with
 |zero=>rfl
 |succ n ih=>
  unfold lA;rw[ih λj hj=>h j oM,h n oM];rfl
def kE(T:CS):Nat->Nat->Nat
 |0,b=>b
 |k+1,b=>if T.getLsbD (b+1)=true then kE T k (b+1) else b
def kx(T:CS)(b:Nat):Nat:=kE T (255-b) b
theorem C3(T:CS)(b:Nat)(hb:b<255)(h:T.getLsbD (b+1)=true):kx T b=kx T (b+1):=by
 unfold kx;rw[show 255-b=(255-(b+1))+1 by omega,kE,if_pos h]
theorem Dn(T:CS)(b:Nat)(h:b<255->T.getLsbD (b+1)=false):kx T b=b:=by
 unfold kx;by_cases hb:b<255
 ·rw[show 255-b=(255-(b+1))+1 by omega,kE,if_neg (by rw[h hb];simp)]
 ·rw[show 255-b=0 by omega,kE]
theorem ON(T:CS)(b:Nat)(hb:b<256):b<=kx T b/\kx T b<256:=by
 have key:∀ k j,b<=j->j+k<=255->b<=kE T k j/\kE T k j<256:=by
  intro k
  induction k with
  |zero=>intro j h1 h2;exact⟨h1,by rw[kE];omega⟩
  |succ k ih=>
   intro j h1 h2;unfold kE;split
   ·exact ih (j+1) oM oM
   ·omega
 exact key (255-b) b (Nat.le_refl _) oM
theorem ad3(T:CS)(b j:Nat)(hb:b<256)(h0:T.getLsbD b=true)(h1:b<=j)(h2:j<=kx T b):T.getLsbD j=true:=by
 have key:∀ k i,T.getLsbD i=true->i<=j->j<=kE T k i->T.getLsbD j=true:=by
  intro k
  induction k with
  |zero=>
   intro i hi h1 h2;rw[kE]at h2;have:i=j:=oM;rw[<- this];exact hi
  | succ k ih=>
   intro i hi h1 h2;unfold kE at h2;by_cases e:i=j
   ·rw[<- e];exact hi
   ·split at h2
    ·rename_i hn;exact ih (i+1) hn oM h2
    ·omega
 exact key _ b h0 h1 h2
theorem Xe(T:CS)(b:Nat)(hb:b<256)(h:kx T b<255):T.getLsbD (kx T b+1)=false:=by
 have key:∀ k i,i+k=255->kE T k i<255->T.getLsbD (kE T k i+1)=false:=by
  intro k
  induction k with
  |zero=>intro i h1 h2;rw[kE]at h2;omega
  | succ k ih=>
   intro i h1 h2;unfold kE at h2 ⊢;split at h2
   ·rename_i hn;rw[if_pos hn];exact ih (i+1) oM h2
   ·rename_i hn;rw[if_neg hn];simpa using hn
 exact key (255-b) b oM h
def ow:ByteArray:=⟨#[45]⟩
def KY(out:ByteArray)(b e:Nat):ByteArray:=
 if b<e then (if b+1<e then out++lh b (kQ mH b)++ow else out++lh b (kQ mH b))++lh e (kQ mH e) else out++lh b (kQ mH b)
theorem SL(out:ByteArray)(b e:Nat):(KY out b e).size<=out.size+9:=by
 have h1:=lQ b (kQ mH b);have h2:=lQ e (kQ mH e);have h3:ow.size=1:=rfl;unfold KY
 repeat' split
 all_goals simp only[ByteArray.size_append];omega
def UY(T:CS)(b:Nat):Bool:=T.getLsbD b&&(b == 0||!T.getLsbD (b-1))
def dm(T:CS)(pre:ByteArray):Nat->ByteArray
 |0=>pre
 |b+1=>if UY T b=true then KY (dm T pre b) b (kx T b) else dm T pre b
theorem jM(T:CS)(pre:ByteArray)(b:Nat):(dm T pre b).size<=pre.size+9*b:=by
 induction b with
 |zero=>simp[dm]
 | succ b ih=>
  unfold dm;split
  ·have:=SL (dm T pre b) b (kx T b);omega
  ·omega
theorem Lk(T:CS)(pre:ByteArray)(b:Nat)(hb:b<256)(h0:T.getLsbD b=true):∀ j,b<j->j<=kx T b+1->dm T pre j=dm T pre (b+1):=by
 intro j
 induction j with
 |zero=>intro h;omega
 | succ j ih=>
  intro h1 h2;by_cases e:j=b
  ·rw[e]
  ·have hs:UY T j=false:=by
    have g1:=ad3 T b (j-1) hb h0 oM oM;unfold UY;rw[g1];have:(j == 0)=false:=by simp;omega
    rw[this];simp
   rw[dm,if_neg (by rw[hs];simp)];exact ih oM oM
def AX:ByteArray:=⟨#[91]⟩
def zV:ByteArray:=⟨#[91,94]⟩
def PC:ByteArray:=⟨#[93]⟩
def iD(S:CS):ByteArray:=
 if j1 S=1 then lh (Af S) (kQ BI (Af S))
 else (if 128<j1 S then dm (~~~S) zV 256 else dm S AX 256)++PC
theorem Nu(S:CS):(iD S).size<=2400:=by
 have h0:zV.size=2:=rfl;have h1:AX.size=1:=rfl;have h2:PC.size=1:=rfl;unfold iD;split
 ·have:=lQ (Af S) (kQ BI (Af S));omega
 ·rw[ByteArray.size_append];split
  ·have:=jM (~~~S) zV 256;omega
  ·have:=jM S AX 256;omega
def vc:Rx->Int
 |.eps=>4
 |.cls _=>4
 |.cat _ _=>2
 |.alt _ _=>0
 |.star _=>3
 |.and _ _=>1
 |.minus _ _=>1
def lpB:ByteArray:=⟨#[40]⟩
def rpB:ByteArray:=⟨#[41]⟩
def amH:ByteArray:=⟨#[40,41]⟩
def alE:ByteArray:=⟨#[124]⟩
def alD:ByteArray:=⟨#[38]⟩
def ahz:ByteArray:=⟨#[42]⟩
def qv(r need:Int)(s:ByteArray):ByteArray:=if r<need then lpB++s++rpB else s
def cr:Rx->ByteArray
 |.eps=>amH
 |.cls S=>iD S
 |.cat a b=>qv (vc a) 2 (cr a)++qv (vc b) 3 (cr b)
 |.alt a b=>qv (vc a) 0 (cr a)++alE++qv (vc b) 1 (cr b)
 |.star a=>qv (vc a) 3 (cr a)++ahz
 |.and a b=>qv (vc a) 1 (cr a)++alD++qv (vc b) 2 (cr b)
 |.minus a b=>qv (vc a) 1 (cr a)++ow++qv (vc b) 2 (cr b)
def Gv(t:Rx)(need:Int):ByteArray:=qv (vc t) need (cr t)
theorem fF(r need:Int)(s:ByteArray):(qv r need s).size<=s.size+2:=by
 have h1:lpB.size=1:=rfl;have h2:rpB.size=1:=rfl;unfold qv;split
 ·rw[ByteArray.size_append,ByteArray.size_append];omega
 ·omega
theorem dB:∀ t:Rx,(cr t).size<=2400*aI t
 |.eps=>by show 2<=2400*1;omega
 |.cls S=>by
  have:=Nu S;show (iD S).size<=2400*1;omega
 |.cat a b=>by
  have h1:=dB a;have h2:=dB b;have h3:=fF (vc a) 2 (cr a);have h4:=fF (vc b) 3 (cr b);have h5:aI (.cat a b)=aI a+aI b+1:=rfl;unfold cr;rw[ByteArray.size_append];omega
 |.alt a b=>by
  have h1:=dB a;have h2:=dB b;have h3:=fF (vc a) 0 (cr a);have h4:=fF (vc b) 1 (cr b);have h5:aI (.alt a b)=aI a+aI b+1:=rfl;have h6:alE.size=1:=rfl;unfold cr;rw[ByteArray.size_append,ByteArray.size_append];omega
 |.star a=>by
  have h1:=dB a;have h3:=fF (vc a) 3 (cr a);have h5:aI (.star a)=aI a+1:=rfl;have h6:ahz.size=1:=rfl;unfold cr;rw[ByteArray.size_append];omega
 |.and a b=>by
  have h1:=dB a;have h2:=dB b;have h3:=fF (vc a) 1 (cr a);have h4:=fF (vc b) 2 (cr b);have h5:aI (.and a b)=aI a+aI b+1:=rfl;have h6:alD.size=1:=rfl;unfold cr;rw[ByteArray.size_append,ByteArray.size_append];omega
 |.minus a b=>by
  have h1:=dB a;have h2:=dB b;have h3:=fF (vc a) 1 (cr a);have h4:=fF (vc b) 2 (cr b);have h5:aI (.minus a b)=aI a+aI b+1:=rfl;have h6:ow.size=1:=rfl;unfold cr;rw[ByteArray.size_append,ByteArray.size_append];omega
theorem qp(k a b c d:Nat)(hc:c<2 ^ k)(hd:d<2 ^ k):(2 ^ k*a+c) &&& (2 ^ k*b+d)=2 ^ k*(a &&& b)+(c &&& d):=by
 have he:(c &&& d)<2 ^ k:=Nat.lt_of_le_of_lt Nat.and_le_left hc;apply Nat.eq_of_testBit_eq;intro j;rw[Nat.testBit_and,Nat.testBit_two_pow_mul_add a hc,Nat.testBit_two_pow_mul_add b hd,Nat.testBit_two_pow_mul_add _ he];by_cases h:j<k
 ·rw[if_pos h,if_pos h,if_pos h,Nat.testBit_and]
 ·rw[if_neg h,if_neg h,if_neg h,Nat.testBit_and]
def M0:Nat->Nat
 |0=>0
 |n+1=>4*M0 n+1
def f0(n x:Nat):Nat:=((x / 2) &&& M0 n)+(x &&& M0 n)
theorem aeP(x:Nat):f0 0 x=0:=by simp[f0,M0]
theorem yr(n q d:Nat)(hd:d<4):f0 (n+1) (4*q+d)=4*f0 n q+(d / 2+d % 2):=by
 have h1:(4*q+d) / 2=2 ^ 2*(q / 2)+(2*(q % 2)+d / 2):=oM;have h2:=qp 2 (q / 2) (M0 n) (2*(q % 2)+d / 2) 1 oM oM;have h3:=qp 2 q (M0 n) d 1 oM oM;have h4:(2*(q % 2)+d / 2) &&& 1=d / 2:=by rw[Nat.and_one_is_mod];omega
 have h5:d &&& 1=d % 2:=Nat.and_one_is_mod d;rw[h4]at h2;rw[h5]at h3;unfold f0;rw[h1,M0];rw[show 4*M0 n+1=2 ^ 2*M0 n+1 by omega,show 4*q+d=2 ^ 2*q+d by omega,h2,h3];omega
theorem ae8(n q b:Nat)(hb:b<256):f0 (n+4) (256*q+b)=256*f0 n q+f0 4 b:=by
 have key:∀ m r,f0 (m+4) (256*r+b)=256*f0 m r+(64*(b / 64 / 2+b / 64 % 2)+(16*(b / 16 % 4 / 2+b / 16 % 4 % 2)+(4*(b / 4 % 4 / 2+b / 4 % 4 % 2)+(b % 4 / 2+b % 4 % 2)))):=λm r=>by
  rw[show 256*r+b=4*(4*(4*(4*r+b / 64)+b / 16 % 4)+b / 4 % 4)+b % 4 by omega];rw[yr _ _ _ oM,yr _ _ _ oM,yr _ _ _ oM,yr _ _ _ oM];omega
 have h0:=key 0 0;rw[aeP]at h0;rw[key,show f0 4 b=f0 (0+4) (256*0+b) by rw[Nat.mul_zero,Nat.zero_add,Nat.zero_add],h0];omega
def M1:Nat->Nat
 |0=>0
 |n+1=>16*M1 n+3
def f1(n x:Nat):Nat:=((x / 4) &&& M1 n)+(x &&& M1 n)
theorem OA(x:Nat):f1 0 x=0:=by simp[f1,M1]
theorem al3(x:Nat):x &&& 3=x % 4:=Nat.and_two_pow_sub_one_eq_mod x 2
theorem alX(x:Nat):x &&& 15=x % 16:=Nat.and_two_pow_sub_one_eq_mod x 4
theorem Of(n q d:Nat)(hd:d<16):f1 (n+1) (16*q+d)=16*f1 n q+(d / 4+d % 4):=by
 have h1:(16*q+d) / 4=2 ^ 4*(q / 4)+(4*(q % 4)+d / 4):=oM;have h2:=qp 4 (q / 4) (M1 n) (4*(q % 4)+d / 4) 3 oM oM;have h3:=qp 4 q (M1 n) d 3 oM oM;have h4:(4*(q % 4)+d / 4) &&& 3=d / 4:=by rw[al3];omega
 rw[h4]at h2;rw[al3]at h3;unfold f1;rw[h1,M1];rw[show 16*M1 n+3=2 ^ 4*M1 n+3 by omega,show 16*q+d=2 ^ 4*q+d by omega,h2,h3];omega
theorem aep(n q b:Nat)(hb:b<256):f1 (n+2) (256*q+b)=256*f1 n q+f1 2 b:=by
 have key:∀ m r,f1 (m+2) (256*r+b)=256*f1 m r+(16*(b / 16 / 4+b / 16 % 4)+(b % 16 / 4+b % 16 % 4)):=λm r=>by
  rw[show 256*r+b=16*(16*r+b / 16)+b % 16 by omega];rw[Of _ _ _ oM,Of _ _ _ oM];omega
 have h0:=key 0 0;rw[OA]at h0;rw[key,show f1 2 b=f1 (0+2) (256*0+b) by rw[Nat.mul_zero,Nat.zero_add,Nat.zero_add],h0];omega
def M2:Nat->Nat
 |0=>0
 |n+1=>256*M2 n+15
def f2(n x:Nat):Nat:=(x / 16+x) &&& M2 n
theorem agS(x:Nat):f2 0 x=0:=by simp[f2,M2]
theorem acI(n q d:Nat)(hd:d % 16<=4/\d / 16<=4)(hq:q % 16<=4):f2 (n+1) (256*q+d)=256*f2 n q+(d / 16+d % 16):=by
 have h1:(256*q+d) / 16+(256*q+d)=2 ^ 8*(q / 16+q)+(16*(q % 16)+d / 16+d):=oM;have h2:=qp 8 (q / 16+q) (M2 n) (16*(q % 16)+d / 16+d) 15 oM oM;have h4:(16*(q % 16)+d / 16+d) &&& 15=d / 16+d % 16:=by rw[alX];omega
 rw[h4]at h2;unfold f2;rw[h1,M2];rw[show 256*M2 n+15=2 ^ 8*M2 n+15 by omega,h2]
def fq(x:Nat):Nat->Nat
 |0=>0
 |k+1=>fq x k+if x.testBit k=true then 1 else 0
theorem HD(q b:Nat)(hb:b<256):∀ k,k<=8->fq (256*q+b) k=fq b k
 |0,_=>rfl
 |k+1,h=>by
  have h8:=Nat.testBit_two_pow_mul_add (i:=8) q (b:=b) hb k;rw[if_pos (show k<8 by omega),show 2 ^ 8*q+b=256*q+b by omega]at h8;rw[fq,fq,HD q b hb k oM,h8]
theorem CK(q b:Nat)(hb:b<256):∀ k,fq (256*q+b) (8+k)=fq b 8+fq q k
 |0=>HD q b hb 8 (Nat.le_refl _)
 |k+1=>by
  have h8:=Nat.testBit_two_pow_mul_add (i:=8) q (b:=b) hb (8+k);rw[if_neg (show ¬ 8+k<8 by omega),show 2 ^ 8*q+b=256*q+b by omega,show 8+k-8=k by omega]at h8;have ih:=CK q b hb k;have e1:fq (256*q+b) (8+(k+1))=fq (256*q+b) (8+k)+if (256*q+b).testBit (8+k)=true then 1 else 0:=rfl
  have e2:fq q (k+1)=fq q k+if q.testBit k=true then 1 else 0:=rfl;rw[e1,e2,ih,h8];omega
theorem AD:∀ b:Fin 256,f0 4 b.val<256/\f1 2 (f0 4 b.val)<256/\f1 2 (f0 4 b.val) % 16<=4/\f1 2 (f0 4 b.val) / 16<=4/\f1 2 (f0 4 b.val) / 16+f1 2 (f0 4 b.val) % 16=fq b.val 8/\fq b.val 8<=8:=by decide +kernel
theorem Ml(n q b:Nat)(hb:b<256)(hq:f1 (n*2) (f0 (n*4) q) % 16<=4) :
  f2 (n+1) (f1 ((n+1)*2) (f0 ((n+1)*4) (256*q+b)))=256*f2 n (f1 (n*2) (f0 (n*4) q))+fq b 8/\f1 ((n+1)*2) (f0 ((n+1)*4) (256*q+b)) % 16<=4:=by
 obtain⟨h1,h2,h3,h4,h5,h6⟩:=AD ⟨b,hb⟩;simp only at h1 h2 h3 h4 h5 h6;rw[show (n+1)*4=n*4+4 by omega,show (n+1)*2=n*2+2 by omega,ae8 _ _ _ hb,aep _ _ _ h1];refine⟨?_,oM⟩;rw[acI _ _ _ ⟨h3,h4⟩ hq,h5]
def JK:Nat->Nat->Nat
 |0,_=>0
 |n+1,x=>256*JK n (x / 256)+fq (x % 256) 8
theorem DB:∀ n x,f2 n (f1 (n*2) (f0 (n*4) x))=JK n x/\f1 (n*2) (f0 (n*4) x) % 16<=4
 |0,x=>by
  show f2 0 (f1 0 (f0 0 x))=JK 0 x/\f1 0 (f0 0 x) % 16<=4;rw[agS,OA];exact⟨rfl,oM⟩
 |n+1,x=>by
  have ih:=DB n (x / 256);have h:=Ml n (x / 256) (x % 256) oM ih.2;rw[show 256*(x / 256)+x % 256=x by omega,ih.1]at h;exact h
theorem N3(x:Nat):fq x 64=fq (x % 256) 8+(fq (x / 256 % 256) 8+(fq (x / 256 / 256 % 256) 8+(fq (x / 256 / 256 / 256 % 256) 8+(fq (x / 256 / 256 / 256 / 256 % 256) 8+(fq (x / 256 / 256 / 256 / 256 / 256 % 256) 8+(fq (x / 256 / 256 / 256 / 256 / 256 / 256 % 256) 8+fq (x / 256 / 256 / 256 / 256 / 256 / 256 / 256 % 256) 8)))))):=by
 have step:∀ k y,fq y (8+k)=fq (y % 256) 8+fq (y / 256) k:=λk y=>by
  have h:=CK (y / 256) (y % 256) oM k;rw[show 256*(y / 256)+y % 256=y by omega]at h;exact h
 rw[show 64=8+(8+(8+(8+(8+(8+(8+(8+0))))))) from rfl];rw[step,step,step,step,step,step,step,step];rfl
theorem mo(x:Nat):fq (x % 256) 8<=8:=(AD ⟨x % 256,oM⟩).2.2.2.2.2
theorem Mf(x:Nat):∃ c0 c1 c2 c3 c4 c5 c6 c7:Nat,(c0<=8/\c1<=8/\c2<=8/\c3<=8/\c4<=8/\c5<=8/\c6<=8/\c7<=8) /\
  JK 8 x=256*(256*(256*(256*(256*(256*(256*(256*0+c7)+c6)+c5)+c4)+c3)+c2)+c1)+c0/\fq x 64=c0+(c1+(c2+(c3+(c4+(c5+(c6+c7)))))):=
 ⟨_,_,_,_,_,_,_,_,⟨mo _,mo _,mo _,mo _,mo _,mo _,mo _,mo _⟩,rfl,N3 x⟩
theorem VN(x:Nat):∃ y,y=JK 8 x/\y+y / 256<2 ^ 64/\(y+y / 256)+(y+y / 256) / 65536<2 ^ 64/\(y+y / 256)+(y+y / 256) / 65536+((y+y / 256)+(y+y / 256) / 65536) / 4294967296<2 ^ 63 /\
  ((y+y / 256)+(y+y / 256) / 65536+((y+y / 256)+(y+y / 256) / 65536) / 4294967296) % 128=fq x 64:=by
 obtain⟨c0,c1,c2,c3,c4,c5,c6,c7,hc,h1,h2⟩:=Mf x;refine⟨JK 8 x,rfl,?_⟩;rw[h2];have h3:JK 8 x=c0+256*c1+65536*c2+16777216*c3+4294967296*c4+1099511627776*c5+281474976710656*c6+72057594037927936*c7:=by rw[h1];omega
 generalize JK 8 x=y at *;have h4:y / 256=c1+256*c2+65536*c3+16777216*c4+4294967296*c5+1099511627776*c6+281474976710656*c7:=oM;obtain⟨d0,e0⟩:∃ d,d=c0+c1:=⟨_,rfl⟩;obtain⟨d1,e1⟩:∃ d,d=c1+c2:=⟨_,rfl⟩;obtain⟨d2,e2⟩:∃ d,d=c2+c3:=⟨_,rfl⟩;obtain⟨d3,e3⟩:∃ d,d=c3+c4:=⟨_,rfl⟩
 obtain⟨d4,e4⟩:∃ d,d=c4+c5:=⟨_,rfl⟩;obtain⟨d5,e5⟩:∃ d,d=c5+c6:=⟨_,rfl⟩;obtain⟨d6,e6⟩:∃ d,d=c6+c7:=⟨_,rfl⟩;have h5:y+y / 256=d0+256*d1+65536*d2+16777216*d3+4294967296*d4+1099511627776*d5+281474976710656*d6+72057594037927936*c7:=oM;have hs:c0+(c1+(c2+(c3+(c4+(c5+(c6+c7))))))=d0+d2+d4+d6:=oM
 have hd:d0<=16/\d1<=16/\d2<=16/\d3<=16/\d4<=16/\d5<=16/\d6<=16/\c7<=16:=oM;rw[hs];clear h1 h2 h3 h4 hs hc e0 e1 e2 e3 e4 e5 e6;generalize y+y / 256=z at *;have h6:z / 65536=d2+256*d3+65536*d4+16777216*d5+4294967296*d6+1099511627776*c7:=oM;obtain⟨g0,k0⟩:∃ d,d=d0+d2:=⟨_,rfl⟩
 obtain⟨g1,k1⟩:∃ d,d=d1+d3:=⟨_,rfl⟩;obtain⟨g2,k2⟩:∃ d,d=d2+d4:=⟨_,rfl⟩;obtain⟨g3,k3⟩:∃ d,d=d3+d5:=⟨_,rfl⟩;obtain⟨g4,k4⟩:∃ d,d=d4+d6:=⟨_,rfl⟩;obtain⟨g5,k5⟩:∃ d,d=d5+c7:=⟨_,rfl⟩
 have h7:z+z / 65536=g0+256*g1+65536*g2+16777216*g3+4294967296*g4+1099511627776*g5+281474976710656*d6+72057594037927936*c7:=oM;have hz:z<2 ^ 64:=oM;have hs2:d0+d2+d4+d6=g0+g4:=oM;have hg:g0<=32/\g1<=32/\g2<=32/\g3<=32/\g4<=32/\g5<=32/\d6<=16/\c7<=16:=oM;rw[hs2];clear h5 h6 hs2 hd k0 k1 k2 k3 k4 k5
 generalize z+z / 65536=u at *;have h8:u / 4294967296=g4+256*g5+65536*d6+16777216*c7:=oM;refine⟨hz,oM,oM,?_⟩;omega
theorem Hn(S:CS)(j:Nat):∀ k,k<=64->lA S (64*j+k)=lA S (64*j)+fq (wd S j).toNat k
 |0,_=>rfl
 | k+1,h=>by
  have e:(wd S j).toNat.testBit k=S.getLsbD (64*j+k):=by
   rw[wd,Int.toNat_natCast];show (S.extractLsb' (64*j) 64).getLsbD k=_;rw[BitVec.getLsbD_extractLsb'];simp;omega
  rw[show 64*j+(k+1)=(64*j+k)+1 by omega,lA,fq,Hn S j k oM,e];omega
theorem al1(S:CS)(j:Nat):(wd S j).toNat<2 ^ 64:=by
 rw[wd,Int.toNat_natCast];exact (S.extractLsb' (64*j) 64).isLt
theorem Sf:∀ b:Fin 256,(0<=IntKind.u8.wrap (((b.val:Nat):Int).tdiv 16)/\IntKind.u8.wrap (((b.val:Nat):Int).tdiv 16)<16)/\(0<=((b.val:Nat):Int).tmod 16/\((b.val:Nat):Int).tmod 16<16) /\
  (⟨#[92,120]⟩:ByteArray)++bJ [bt ⟨#[48,49,50,51,52,53,54,55,56,57,97,98,99,100,101,102]⟩ (IntKind.u8.wrap (((b.val:Nat):Int).tdiv 16)),bt ⟨#[48,49,50,51,52,53,54,55,56,57,97,98,99,100,101,102]⟩ (((b.val:Nat):Int).tmod 16)]=⟨#[92,120,hxD (((b.val:Nat):Int) / 16),hxD (((b.val:Nat):Int) % 16)]⟩:=by decide +kernel
def ld:=(aj @List.replicate_succ.{0} @List.replicate_zero.{0} @an @ab BG BH BJ (aj ty5 ty6 ty7 ty8 ca cc cg (aj cd fu fh fy ft fB dc (aj df dh db cY c8 xw wG (aj wD vP @aG @al @ax @aw @mP (ml @dN @lO @nv @mm @aA @iX))))))
theorem Zr(b:Int)(q:Bool)(h0:0<=b)(h1:b<256)(w:World):Calls prog 204 #[.int .u8 b,.bool q] w λe w' => e=.returned (.string (lh b q))/\ah w [] w' := by
 refine af (nt:=37) [.tmp 4] func204 rfl rfl rfl ?_;refine vR Γ0 ld ?_;refine Wp.seq ?_;refine vR Γ0 ld ?_;refine wC ld (λhc=>?_) (λhc=>?_)
 ·have h:b=10:=by simpa using hc
  have e:lh b q=⟨#[92,110]⟩:=by rw[lh,if_pos h]
  rw[e];refine vR Γ0 ld ?_;refine wZ ld ?_;exact λE=>rfl
 have n10:¬ b=10:=by simpa using hc
 refine wK ?_;refine Wp.seq ?_;refine vR Γ0 ld ?_;refine wC ld (λhc=>?_) (λhc=>?_)
 ·have h:b=13:=by simpa using hc
  have e:lh b q=⟨#[92,114]⟩:=by rw[lh,if_neg n10,if_pos h]
  rw[e];refine vR Γ0 ld ?_;refine wZ ld ?_;exact λE=>rfl
 have n13:¬ b=13:=by simpa using hc
 refine wK ?_;refine Wp.seq ?_;refine vR Γ0 ld ?_;refine wC ld (λhc=>?_) (λhc=>?_)
 ·have h:b=9:=by simpa using hc
  have e:lh b q=⟨#[92,116]⟩:=by rw[lh,if_neg n10,if_neg n13,if_pos h]
  rw[e];refine vR Γ0 ld ?_;refine wZ ld ?_;exact λE=>rfl
 have n9:¬ b=9:=by simpa using hc
 refine wK ?_;refine Wp.seq ?_;refine vR Γ0 ld ?_;refine wC ld (λhc=>?_) (λhc=>?_)
 ·have h:b<32\/126<b:=by simpa using hc
  have e:lh b q=⟨#[92,120,hxD (b / 16),hxD (b % 16)]⟩:=by rw[lh,if_neg n10,if_neg n13,if_neg n9,if_pos h]
  rw[e];obtain⟨n,rfl⟩:=Int.eq_ofNat_of_zero_le h0;obtain⟨f1,f2,f3⟩:=Sf ⟨n,oM⟩;simp only at f1 f2 f3;refine vR Γ0 ld ?_;refine lf Γ0 ld ?_ ?_
  ·exact⟨oM,f1,oM,f2,by show 2+2<=9223372036854775807;omega⟩
  refine wZ ld ?_;exact λE=>congrArg Value.string f3
 have n32:¬ (b<32\/126<b):=by simpa using hc
 refine wK ?_;refine Wp.seq ?_;refine vR Γ0 ld ?_;refine wC ld (λhc=>?_) (λhc=>?_)
 ·subst hc;have e:lh b true=⟨#[92,b.toNat.toUInt8]⟩:=by rw[lh,if_neg n10,if_neg n13,if_neg n9,if_neg n32,if_pos rfl]
  rw[e];refine wR Γ0 ld ?_ ?_
  ·show 1+1<=9223372036854775807;omega
  refine wZ ld ?_;exact λE=>rfl
 ·subst hc;have e:lh b false=⟨#[b.toNat.toUInt8]⟩:=by rw[lh,if_neg n10,if_neg n13,if_neg n9,if_neg n32,if_neg sI]
  rw[e];refine wK ?_;refine vR Γ0 ld ?_;refine wZ ld ?_;exact λE=>rfl
def Qp:aM prog 204 where
 pre:=λW bs=>λ| [.val (.int .u8 b),.val (.bool q)]=>0<=b/\b<256|_=>False
 res:=λW=>λ| [.val (.int .u8 b),.val (.bool q)]=>.string (lh b q)|_=>undef
 enters:=call204
 ok:=by
  intro W w bs us as_ hk hu hp;split at hp
  ·rename_i b q
   match us,hu with
   |[u0,u1],hu=>
    obtain⟨rfl,rfl,_⟩:=hu;exact Zr b q hp.1 hp.2 w
  ·exact hp.elim
theorem R6(W:World)(b:Int)(q:Bool):Qp.res W [.val (.int .u8 b),.val (.bool q)]=.string (lh b q):=rfl
theorem Rv(W:World)(bs:List Nat)(b:Int)(q:Bool):Qp.pre W bs [.val (.int .u8 b),.val (.bool q)]=(0<=b/\b<256):=rfl
theorem gD(s:ByteArray):lT ((byteCells s).map SV.v)=some (s.data.toList.map λc=>(c.toNat:Int)):=by
 have h:(byteCells s).map SV.v=(s.data.toList.map λc=>(c.toNat:Int)).map λn=>SV.v (.int .u8 n):=by simp[byteCells]
 rw[h,pM]
theorem jz(s:ByteArray):bJ (s.data.toList.map λc=>(c.toNat:Int))=s:=by
 rcases s with ⟨⟨l⟩⟩;unfold bJ;rw[List.map_map];have h:(λn:Int=>UInt8.ofNat n.toNat) ∘ (λc:UInt8=>(c.toNat:Int))=id:=by
  funext c
  show UInt8.ofNat ((c.toNat:Int).toNat)=c;rw[Int.toNat_natCast,UInt8.ofNat_toNat]
 rw[h,List.map_id]
theorem lg(s:ByteArray):((byteCells s).map SV.v).all di=true:=by
 rw[List.all_eq_true];intro x hx;obtain⟨v,hv,rfl⟩:=List.mem_map.1 hx;obtain⟨c,_,rfl⟩:=List.mem_map.1 hv;rfl
theorem dX(s:ByteArray)(l:List Int)(h:∀ c∈l,0<=c/\c<256):(byteCells s).map SV.v++l.map (λc=>SV.v (.int .u8 c))=(byteCells (s++bJ l)).map SV.v:=by
 unfold byteCells bJ;rw[ByteArray.data_append,Array.toList_append,List.map_append,List.map_append]
 congr 1
 simp only[List.map_map];refine List.map_congr_left λc hc=>?_
 obtain⟨h0,h1⟩:=h c hc;simp only[Function.comp,UInt8.toNat_ofNat'];rw[Nat.mod_eq_of_lt oM]
 congr 2
 omega
theorem rJ(s t:ByteArray):(byteCells s).map SV.v++(byteCells t).map SV.v=(byteCells (s++t)).map SV.v:=by
 unfold byteCells;rw[ByteArray.data_append,Array.toList_append,List.map_append,List.map_append]
theorem Sq:∀ b:Fin 256,(0<=((b.val:Nat):Int).fdiv 16/\((b.val:Nat):Int).fdiv 16<16)/\(0<=cw .and .u8 ((b.val:Nat):Int) 15/\cw .and .u8 ((b.val:Nat):Int) 15<16) /\
  ((b.val:Nat):Int).fdiv 16=((b.val:Nat):Int) / 16/\cw .and .u8 ((b.val:Nat):Int) 15=((b.val:Nat):Int) % 16:=by decide +kernel
theorem iz(s:ByteArray):(s.data.toList.map λc=>(c.toNat:Int)).length=s.size:=by rw[List.length_map];rfl
theorem aU(l:List Int):(bJ l).size=l.length:=by simp[bJ,ByteArray.size]
def kt:ByteArray:=⟨#[48,49,50,51,52,53,54,55,56,57,97,98,99,100,101,102]⟩
def cW(c:Int):List Int:=
 if c=34\/c=92 then [92,c] else if 32<=c/\c<=126 then [c] else if c=10 then [92,110] else if c=13 then [92,114] else if c=9 then [92,116] else [92,120,bt kt (c / 16),bt kt (c % 16)]
def bq(s:ByteArray):Nat->ByteArray
 |0=>bJ [34]
 |k+1=>bq s k++bJ (cW (bt s k))
def dR(s:ByteArray):ByteArray:=bq s s.size++bJ [34]
theorem aaP(c:Int):(cW c).length<=4:=by
 unfold cW
 repeat' split
 all_goals simp
theorem lv(s:ByteArray):∀ k,(bq s k).size<=1+4*k
 |0=>by show (bJ [34]).size<=_;rw[aU];simp
 |k+1=>by
  show (bq s k++bJ (cW (bt s k))).size<=_;rw[ByteArray.size_append,aU];have:=lv s k;have:=aaP (bt s k);omega
theorem C2(s:ByteArray):(dR s).size<=2+4*s.size:=by
 show (bq s s.size++bJ [34]).size<=_;rw[ByteArray.size_append,aU];have:=lv s s.size;simp only[List.length_cons,List.length_nil];omega
theorem jo(s:ByteArray)(i:Int):0<=bt s i/\bt s i<256:=by
 unfold bt;have:=(s.data[i.toNat]?.getD 0).toNat_lt;omega
def gF:=(aj @List.replicate_succ.{0} @List.replicate_zero.{0} @an @ab BG BH BJ (aj ty5 ty6 ty7 ty8 gR ck cf (aj b9 b8 ca cc cg cd fu (aj fh fy ft fB dc df dh (aj db cY c8 xw wG wD vP (ur @aG @al @ax @aw @gD @jz @lg))))))
theorem Db(s:ByteArray)(hs:s.size<=16777216)(w:World):Calls prog 38 #[.string s] w λe w' => e=.returned (.string (dR s))/\ah w [] w' := by
 refine af (nt:=66) [.tmp 2] func38 rfl rfl rfl ?_;refine vR Γ0 gF ?_;refine vR Γ0 gF ?_;refine Wp.seq ?_;refine vR Γ0 gF ?_;refine Wp.block ?_
 refine Wp.loop (λk:Nat=>⟨20,bm [(0,.is (.v (.string s))),(3,.is (.hd 8)),(8,.is (.v (.int .i64 s.size))),(9,.is (.v (.int .i64 (k:Nat))))],aY [(8,.row 5 1 (bq s k).size ((byteCells (bq s k)).map .v))]⟩) (λk=>k<=s.size) (λk=>s.size-k) 0 ?_ (Nat.zero_le _) ?_
 ·exact wM (λk=>.key k) gF
 rintro k hk;refine vR Γ0 gF ?_;refine Wp.seq ?_;refine wC gF (λhc=>?_) (λhc=>?_)
 ·have hlt:k<s.size:=by
   simp at hc;omega
  obtain⟨c0,c1⟩:=jo s k;have hq:=lv s k;have ha:=λl hl=>dX (bq s k) l hl
  have hb:bq s (k+1)=bq s k++bJ (cW (bt s k)):=rfl;have wk:IntKind.i64.wrap ((k:Int)+1)=((k+1:Nat):Int):=wW;refine wK ?_
  refine aV ⟨20,bm [(0,.is (.v (.string s))),(8,.is (.v (.int .i64 s.size))),(9,.is (.v (.int .i64 (k:Nat)))),(3,.is (.hd 8))],aY [(8,.row 5 1 (bq s (k+1)).size ((byteCells (bq s (k+1))).map .v))]⟩ ?_ ?_
  ·refine Wp.block ?_;refine vR Γ0 gF ?_;refine wR Γ0 gF ?_ ?_
   ·first|omega|exact⟨oM,oM⟩
   refine Wp.block ?_;refine vR Γ0 gF ?_;refine wC gF (λhc=>?_) (λhc=>?_)
   ·have hv:bt s k=34\/bt s k=92:=by simpa using hc
    have e0:cW (bt s k)=[92,bt s k]:=by rw[cW,if_pos hv]
    rw[e0]at hb;have e1:=ha _ (λc (hc:c∈[92,bt s k])=>by simp at hc;omega);rw[<- hb]at e1;simp only[List.map_cons,List.map_nil]at e1;have e2:(bq s (k+1)).size=(bq s k).size+2:=by rw[hb,ByteArray.size_append,aU];rfl
    refine wr Γ0 gF ?_ ?_
    ·exact by unfold maxLen;omega
    exact wM (λk=>if k=8 then .key 296 else .key k) (bP gF e1 e2)
   have n0:¬ (bt s k=34\/bt s k=92):=by simpa using hc
   refine vR Γ0 gF ?_;refine wC gF (λhc=>?_) (λhc=>?_)
   ·have hv:32<=bt s k/\bt s k<=126:=by simpa using hc
    have e0:cW (bt s k)=[bt s k]:=by rw[cW,if_neg n0,if_pos hv]
    rw[e0]at hb;have e1:=ha _ (λc (hc:c∈[bt s k])=>by simp at hc;omega);rw[<- hb]at e1;simp only[List.map_cons,List.map_nil]at e1;have e2:(bq s (k+1)).size=(bq s k).size+1:=by rw[hb,ByteArray.size_append,aU];rfl
    refine wr Γ0 gF ?_ ?_
    ·exact by unfold maxLen;omega
    exact wM (λk=>if k=8 then .key 352 else .key k) (bP gF e1 e2)
   have n1:¬ (32<=bt s k/\bt s k<=126):=by simpa using hc
   refine vR Γ0 gF ?_;refine wC gF (λhc=>?_) (λhc=>?_)
   ·have hv:bt s k=10:=by simpa using hc
    have e0:cW (bt s k)=[92,110]:=by rw[cW,if_neg n0,if_neg n1,if_pos hv]
    rw[e0]at hb;have e1:=rJ (bq s k) (bJ [92,110]);rw[<- hb]at e1;have e2:(bq s (k+1)).size=(bq s k).size+2:=by rw[hb,ByteArray.size_append,aU];rfl
    have e3:(⟨#[92,110]⟩:ByteArray)=bJ [92,110]:=rfl;have e4:(bJ [92,110]).size=2:=rfl;refine wr Γ0 (bP gF e3 e4) ?_ ?_
    ·unfold maxLen;omega
    exact wM (λk=>if k=8 then .key 360 else .key k) (bP gF e1 e2)
   have n2:¬ bt s k=10:=by simpa using hc
   refine vR Γ0 gF ?_;refine wC gF (λhc=>?_) (λhc=>?_)
   ·have hv:bt s k=13:=by simpa using hc
    have e0:cW (bt s k)=[92,114]:=by rw[cW,if_neg n0,if_neg n1,if_neg n2,if_pos hv]
    rw[e0]at hb;have e1:=rJ (bq s k) (bJ [92,114]);rw[<- hb]at e1;have e2:(bq s (k+1)).size=(bq s k).size+2:=by rw[hb,ByteArray.size_append,aU];rfl
    have e3:(⟨#[92,114]⟩:ByteArray)=bJ [92,114]:=rfl;have e4:(bJ [92,114]).size=2:=rfl;refine wr Γ0 (bP gF e3 e4) ?_ ?_
    ·unfold maxLen;omega
    exact wM (λk=>if k=8 then .key 384 else .key k) (bP gF e1 e2)
   have n3:¬ bt s k=13:=by simpa using hc
   refine vR Γ0 gF ?_;refine wC gF (λhc=>?_) (λhc=>?_)
   ·have hv:bt s k=9:=by simpa using hc
    have e0:cW (bt s k)=[92,116]:=by rw[cW,if_neg n0,if_neg n1,if_neg n2,if_neg n3,if_pos hv]
    rw[e0]at hb;have e1:=rJ (bq s k) (bJ [92,116]);rw[<- hb]at e1;have e2:(bq s (k+1)).size=(bq s k).size+2:=by rw[hb,ByteArray.size_append,aU];rfl
    have e3:(⟨#[92,116]⟩:ByteArray)=bJ [92,116]:=rfl;have e4:(bJ [92,116]).size=2:=rfl;refine wr Γ0 (bP gF e3 e4) ?_ ?_
    ·unfold maxLen;omega
    exact wM (λk=>if k=8 then .key 408 else .key k) (bP gF e1 e2)
   have n4:¬ bt s k=9:=by simpa using hc
   have e0:cW (bt s k)=[92,120,bt kt (bt s k / 16),bt kt (bt s k % 16)]:=by rw[cW,if_neg n0,if_neg n1,if_neg n2,if_neg n3,if_neg n4]
   obtain⟨x,hx⟩:=Int.eq_ofNat_of_zero_le c0;have x1:x<256:=oM;obtain⟨f1,f2,f3,f4⟩:=Sq ⟨x,x1⟩;simp only at f1 f2 f3 f4;rw[hx]at e0;rw[hx,e0]at hb;have b1:=jo kt ((x:Int) / 16);have b2:=jo kt ((x:Int) % 16)
   have e1:=ha _ (λc (hc:c∈[92,120,bt kt ((x:Int) / 16),bt kt ((x:Int) % 16)])=>by simp at hc;omega);rw[<- hb]at e1;simp only[List.map_cons,List.map_nil]at e1;have e2:(bq s (k+1)).size=(bq s k).size+4:=by rw[hb,ByteArray.size_append,aU];rfl
   have hxe:(⟨#[48,49,50,51,52,53,54,55,56,57,97,98,99,100,101,102]⟩:ByteArray)=kt:=rfl;refine vZ Γ0 (oA gF hx f3 f4 hxe) ?_ ?_
   ·rw[f3]at f1;rw[f4]at f2;exact⟨f1,f2,by unfold maxLen;omega,oM⟩
   exact wM (λk=>if k=8 then .key 464 else .key k) (ur gF hx f3 f4 hxe e1 e2)
  refine wr Γ0 (aa gF wk) ?_ ?_
  ·first|trivial|omega
  refine⟨k+1,hlt,oM,?_⟩;exact wM (λk=>.key k) gF
 ·have hk' : k=s.size:=by
   simp at hc;omega
  subst hk';have ha:=dX (bq s s.size) [34] (λc hc=>by simp at hc;omega);simp only[List.map_cons,List.map_nil]at ha;have hq:=lv s s.size;have e2:(dR s).size=(bq s s.size).size+1:=by rw[dR,ByteArray.size_append,aU];rfl
  refine wE ?_;refine wR Γ0 (aa gF ha) ?_ ?_
  ·exact⟨⟨by unfold maxLen;omega,oM⟩,by rw[iz,<- dR,e2]⟩
  refine wZ gF ?_;exact λE=>rfl
theorem SR(s:ByteArray)(hs:s.size<=1048576)(w:World):Calls prog 38 #[.string s] w λe w' => e=.returned (.string (dR s))/\ah w [] w' := Db s oM w
def Mh(c:Int):Bool:=(decide (c=95)||(decide (97<=c)&&decide (c<=122)))||(decide (65<=c)&&decide (c<=90))
def HW(c:Int):Bool:=decide (48<=c)&&decide (c<=57)
def uw(c:Int):Bool:=decide (32<=c)&&decide (c<=126)
def B5:=(aj @List.replicate_succ.{0} @List.replicate_zero.{0} @an @ab gR ck cf (aj b9 b8 ca cc cg cd fu (aj fh fy ft fB dc df dh (ur db cY c8 @aG @al @ax @aw))))
theorem M3(c:Int)(w:World):Calls prog 133 #[.int .u8 c] w λe w' => e=.returned (.bool (Mh c))/\ah w [] w' := by
 refine af (nt:=21) [.tmp 2] func133 rfl rfl rfl ?_;refine vR Γ0 B5 ?_;refine vR Γ0 B5 ?_;refine wZ B5 ?_;exact λE=>rfl
theorem aeT(c:Int)(w:World):Calls prog 134 #[.int .u8 c] w λe w' => e=.returned (.bool (HW c))/\ah w [] w' := by
 refine af (nt:=9) [.tmp 2] func134 rfl rfl rfl ?_;refine vR Γ0 B5 ?_;refine vR Γ0 B5 ?_;refine wZ B5 ?_;exact λE=>rfl
theorem aei(c:Int)(w:World):Calls prog 187 #[.int .u8 c] w λe w' => e=.returned (.bool (uw c))/\ah w [] w' := by
 refine af (nt:=9) [.tmp 2] func187 rfl rfl rfl ?_;refine vR Γ0 B5 ?_;refine vR Γ0 B5 ?_;refine wZ B5 ?_;exact λE=>rfl
def yi:aM prog 133 where
 pre:=λW bs=>λ| [.val (.int .u8 c)]=>True|_=>False
 res:=λW=>λ| [.val (.int .u8 c)]=>.bool (Mh c)|_=>undef
 enters:=call133
 ok:=by
  intro W w bs us as_ hk hu hp;split at hp
  ·rename_i c
   match us,hu with
   |[u0],hu=>
    obtain⟨rfl,_⟩:=hu;exact M3 c w
  ·exact hp.elim
theorem wI(W:World)(c:Int):yi.res W [.val (.int .u8 c)]=.bool (Mh c):=rfl
theorem wQ(W:World)(bs:List Nat)(c:Int):yi.pre W bs [.val (.int .u8 c)]=(True):=rfl
def TO:aM prog 134 where
 pre:=λW bs=>λ| [.val (.int .u8 c)]=>True|_=>False
 res:=λW=>λ| [.val (.int .u8 c)]=>.bool (HW c)|_=>undef
 enters:=call134
 ok:=by
  intro W w bs us as_ hk hu hp;split at hp
  ·rename_i c
   match us,hu with
   |[u0],hu=>
    obtain⟨rfl,_⟩:=hu;exact aeT c w
  ·exact hp.elim
theorem J2(W:World)(c:Int):TO.res W [.val (.int .u8 c)]=.bool (HW c):=rfl
theorem GU(W:World)(bs:List Nat)(c:Int):TO.pre W bs [.val (.int .u8 c)]=(True):=rfl
def Ti:aM prog 187 where
 pre:=λW bs=>λ| [.val (.int .u8 c)]=>True|_=>False
 res:=λW=>λ| [.val (.int .u8 c)]=>.bool (uw c)|_=>undef
 enters:=call187
 ok:=by
  intro W w bs us as_ hk hu hp;split at hp
  ·rename_i c
   match us,hu with
   |[u0],hu=>
    obtain⟨rfl,_⟩:=hu;exact aei c w
  ·exact hp.elim
theorem A1(W:World)(c:Int):Ti.res W [.val (.int .u8 c)]=.bool (uw c):=rfl
theorem AL(W:World)(bs:List Nat)(c:Int):Ti.pre W bs [.val (.int .u8 c)]=(True):=rfl
noncomputable def rI:Env prog:=⟨λ| 134=>some TO.spec|_=>none,λ| _=>none,λ_ _=>none⟩
theorem Xn:rI.sp 134=some TO.spec:=rfl
def fz(c:Int):Int:=if HW c=true then c-48 else if (decide (97<=c)&&decide (c<=102))=true then c-97+10 else -1
def xH:=(aj B5 @wI @wQ @J2 @GU @A1 @AL Xn)
theorem adU(c:Int)(h0:0<=c)(h1:c<256)(w:World):Calls prog 188 #[.int .u8 c] w λe w' => e=.returned (.int .i64 (fz c))/\ah w [] w' := by
 refine af (nt:=18) [.tmp 2] func188 rfl rfl rfl ?_;refine vR rI xH ?_;refine Wp.seq ?_;refine vR rI xH ?_;refine wC xH (λhc=>?_) (λhc=>?_)
 ·have hv:48<=c/\c<=57:=by simpa [HW] using hc
  have u1:IntKind.u8.wrap (c-48)=c-48:=eQ oM oM;have u2:IntKind.i64.wrap (c-48)=c-48:=ae oM oM;have e:fz c=c-48:=by rw[fz,if_pos hc]
  rw[e];refine vR rI (bP xH u1 u2) ?_;refine wZ xH ?_;exact λE=>rfl
 have hn:¬ HW c=true:=by rw[hc];simp
 refine wK ?_;refine Wp.seq ?_;refine vR rI xH ?_;refine wC xH (λhc=>?_) (λhc=>?_)
 ·have hv:97<=c/\c<=102:=by simpa using hc
  have u1:IntKind.u8.wrap (c-97)=c-97:=eQ oM oM;have u2:IntKind.i64.wrap (c-97)=c-97:=ae oM oM;have u3:IntKind.i64.wrap (c-97+10)=c-97+10:=ae oM oM;have e:fz c=c-97+10:=by rw[fz,if_neg hn,if_pos hc]
  rw[e];refine vR rI (eS xH u1 u2 u3) ?_;refine wZ xH ?_;exact λE=>rfl
 ·have e:fz c=-1:=by rw[fz,if_neg hn,if_neg (by rw[hc];simp)]
  rw[e];refine wK ?_;refine vR rI xH ?_;refine wZ xH ?_;exact λE=>rfl
def abu:aM prog 188 where
 pre:=λW bs=>λ| [.val (.int .u8 c)]=>0<=c/\c<256|_=>False
 res:=λW=>λ| [.val (.int .u8 c)]=>.int .i64 (fz c)|_=>undef
 enters:=call188
 ok:=by
  intro W w bs us as_ hk hu hp;split at hp
  ·rename_i c
   match us,hu with
   |[u0],hu=>
    obtain⟨rfl,_⟩:=hu;exact adU c hp.1 hp.2 w
  ·exact hp.elim
theorem HM(W:World)(c:Int):abu.res W [.val (.int .u8 c)]=.int .i64 (fz c):=rfl
theorem Hc(W:World)(bs:List Nat)(c:Int):abu.pre W bs [.val (.int .u8 c)]=(0<=c/\c<256):=rfl
def YE:ByteArray:=⟨#[61,59,40,41,123,125,44,124,38,45,46,126,42,43,63]⟩
def B2(c:Int):Bool:=(List.range 15).any λi=>decide (bt YE i=c)
def uj:=(bP xH @HM @Hc)
theorem Xd(c:Int)(w:World):Calls prog 137 #[.int .u8 c] w λe w' => e=.returned (.bool (B2 c))/\ah w [] w' := by
 have hm:(⟨#[61,59,40,41,123,125,44,124,38,45,46,126,42,43,63]⟩:ByteArray)=YE:=rfl;have hz:YE.size=15:=rfl;refine af (nt:=16) [.tmp 2] func137 rfl rfl rfl ?_;refine vR rI uj ?_;refine vR rI (aa uj hm) ?_;refine Wp.seq ?_;refine vR rI uj ?_;refine Wp.block ?_
 refine Wp.loop (λk:Nat=>⟨20,bm [(0,.is (.v (.int .u8 c))),(3,.is (.v (.string YE))),(4,.is (.v (.int .i64 (k:Nat))))],aY []⟩) (λk=>k<=15/\∀ j<k,decide (bt YE j=c)=false) (λk=>15-k) 0 ?_ ⟨Nat.zero_le _,λj hj=>by omega⟩ ?_
 ·exact wM (λk=>.key k) uj
 rintro k ⟨hk,hd⟩;refine Wp.seq ?_;refine vR rI (aa uj hz) ?_;refine wC uj (λhc=>?_) (λhc=>?_)
 ·have hlt:k<15:=by
   simp at hc;omega
  have wk:IntKind.i64.wrap ((k:Int)+1)=((k+1:Nat):Int):=wW;refine wK ?_;refine Wp.seq (Wp.block ?_);refine wR rI uj ?_ ?_
  ·rw[hz];omega
  refine wC uj (λhc=>?_) (λhc=>?_)
  ·have e:B2 c=true:=by
    rw[B2,List.any_eq_true];exact⟨k,List.mem_range.2 hlt,hc⟩
   rw[e];refine vR rI uj ?_;refine wZ uj ?_;exact λE=>rfl
  ·refine wK ?_;refine vr rI (aa uj wk) ?_;refine⟨k+1,⟨oM,λj hj=>?_⟩,oM,?_⟩
   ·by_cases e:j=k
    ·rw[e];exact hc
    ·exact hd j oM
   ·exact wM (λk=>.key k) uj
 ·have hk' : k=15:=by
   simp at hc;omega
  have e:B2 c=false:=by
   rw[B2,List.any_eq_false];intro j hj;have:=hd j (by have:=List.mem_range.1 hj;omega);rw[this];simp
  rw[e];refine wE ?_;refine vR rI uj ?_;refine wZ uj ?_;exact λE=>rfl
def OG:aM prog 137 where
 pre:=λW bs=>λ| [.val (.int .u8 c)]=>True|_=>False
 res:=λW=>λ| [.val (.int .u8 c)]=>.bool (B2 c)|_=>undef
 enters:=call137
 ok:=by
  intro W w bs us as_ hk hu hp;split at hp
  ·rename_i c
   match us,hu with
   |[u0],hu=>
    obtain⟨rfl,_⟩:=hu;exact Xd c w
  ·exact hp.elim
theorem Q0(W:World)(c:Int):OG.res W [.val (.int .u8 c)]=.bool (B2 c):=rfl
theorem R1(W:World)(bs:List Nat)(c:Int):OG.pre W bs [.val (.int .u8 c)]=(True):=rfl
def xK(c:Int)(b:Bool):Bool:=if c=10 then false else if c=35 then true else b
def ah1(c:Int)(b:Bool):Bool:=(((!b&&!decide (c=32))&&!decide (c=9))&&!decide (c=10))&&!decide (c=13)
def FX(s:ByteArray):Nat->Bool->Nat->Nat
 |0,_,i=>i
 |n+1,b,i=>if ah1 (bt s i) (xK (bt s i) b)=true then i else FX s n (xK (bt s i) b) (i+1)
def qn(s:ByteArray)(i:Nat):Nat:=FX s (s.size-i) false i
def kT:=(aj @List.replicate_succ.{0} @List.replicate_zero.{0} @an @ab gR ck cf (aj b9 b8 ca cc cg cd fu (aj fh fy ft fB dc df dh (ur db cY c8 @aG @al @ax @aw))))
theorem abH(s:ByteArray)(i:Nat)(hi:i<=s.size)(hs:s.size<=100000000)(w:World):Calls prog 132 #[.string s,.int .i64 (i:Nat)] w λe w' => e=.returned (.int .i64 (qn s i:Nat))/\ah w [] w' := by
 refine af (nt:=40) [.tmp 4] func132 rfl rfl rfl ?_;refine vR Γ0 kT ?_;refine vR Γ0 kT ?_;refine Wp.seq (Wp.block ?_)
 refine Wp.loop (λp:Bool×Nat=>⟨20,bm [(0,.is (.v (.string s))),(1,.is (.v (.int .i64 (p.2:Nat)))),(5,.is (.v (.bool p.1)))],aY []⟩) (λp=>p.2<=s.size/\FX s (s.size-p.2) p.1 p.2=qn s i) (λp=>s.size-p.2) (false,i) ?_ ⟨hi,rfl⟩ ?_
 ·exact wM (λk=>.key k) kT
 rintro⟨b,k⟩ ⟨hk,hg⟩;dsimp only at hk hg ⊢;refine Wp.seq ?_;refine vR Γ0 kT ?_;refine wC kT (λhc=>?_) (λhc=>?_)
 ·have hlt:k<s.size:=by
   simp at hc;omega
  have wk:IntKind.i64.wrap ((k:Int)+1)=((k+1:Nat):Int):=wW;obtain⟨m,hm⟩:∃ m,s.size-k=m+1:=⟨s.size-k-1,oM⟩;have hm' : s.size-(k+1)=m:=oM;rw[hm]at hg;refine wK ?_;refine Wp.block ?_;refine wR Γ0 kT ?_ ?_
  ·omega
  refine aV ⟨40,bm [(0,.is (.v (.string s))),(1,.is (.v (.int .i64 (k:Nat)))),(5,.is (.v (.bool (if bt s k=35 then true else b)))),(6,.is (.v (.int .u8 (bt s k))))],aY []⟩ ?_ ?_
  ·skip;refine vR Γ0 kT ?_;refine wC kT (λhc=>?_) (λhc=>?_)
   ·have h:bt s k=35:=by simpa using hc
    refine vr Γ0 kT ?_;exact wM (λk=>.key k) (aa kT (if_pos h))
   ·have h:¬ bt s k=35:=by simpa using hc
    refine wK ?_;exact wM (λk=>.key k) (aa kT (if_neg h))
  refine aV ⟨60,bm [(0,.is (.v (.string s))),(1,.is (.v (.int .i64 (k:Nat)))),(5,.is (.v (.bool (xK (bt s k) b)))),(6,.is (.v (.int .u8 (bt s k))))],aY []⟩ ?_ ?_
  ·skip;refine vR Γ0 kT ?_;refine wC kT (λhc=>?_) (λhc=>?_)
   ·have h:bt s k=10:=by simpa using hc
    have e:xK (bt s k) b=false:=by rw[xK,if_pos h]
    refine vr Γ0 kT ?_;exact wM (λk=>.key k) (aa kT e)
   ·have h:¬ bt s k=10:=by simpa using hc
    have e:xK (bt s k) b=if bt s k=35 then true else b:=by rw[xK,if_neg h]
    refine wK ?_;exact wM (λk=>.key k) (aa kT e)
  refine Wp.seq ?_;refine vR Γ0 kT ?_;refine wC kT (λhc=>?_) (λhc=>?_)
  ·have e:qn s i=k:=by rw[<- hg,FX,if_pos (show ah1 (bt s k) (xK (bt s k) b)=true from hc)]
   rw[e];refine vR Γ0 kT ?_;refine wZ kT ?_;exact λE=>rfl
  ·have e:FX s m (xK (bt s k) b) (k+1)=qn s i:=by rw[<- hg,FX,if_neg (by rw[show ah1 (bt s k) (xK (bt s k) b)=false from hc];simp)]
   refine wK ?_;refine vr Γ0 (aa kT wk) ?_;refine⟨(xK (bt s k) b,k+1),⟨by dsimp only;omega,by dsimp only;rw[hm'];exact e⟩,by dsimp only;omega,?_⟩;exact wM (λk=>.key k) kT
 ·have hk' : k=s.size:=by
   simp at hc;omega
  have e:qn s i=k:=by
   rw[<- hg,show s.size-k=0 by omega];rfl
  rw[e];refine wE ?_;refine vR Γ0 kT ?_;refine wZ kT ?_;exact λE=>rfl
theorem QF(s:ByteArray):∀ n b i,i<=FX s n b i/\FX s n b i<=i+n
 |0,_,i=>⟨Nat.le_refl _,Nat.le_refl _⟩
 | n+1,b,i=>by
  unfold FX;split
  ·omega
  ·have:=QF s n (xK (bt s i) b) (i+1);omega
theorem Ok{s:ByteArray}{i:Nat}(hi:i<=s.size):i<=qn s i/\qn s i<=s.size:=by
 have:=QF s (s.size-i) false i;unfold qn;omega
theorem dF(s:ByteArray)(i j:Nat)(hj:j<=s.size):(s.extract i j).size=j-i:=by
 rw[ByteArray.size_extract];omega
theorem Fx(s:ByteArray)(i j k:Nat)(hj:j<=s.size)(hk:k<j-i):bt (s.extract i j) (k:Nat)=bt s ((i+k:Nat):Int):=by
 unfold bt;simp only[Int.toNat_natCast,ByteArray.data_extract,Array.getElem?_extract];rw[if_pos (by have:s.size=s.data.size:=rfl;omega)]
theorem nr(s t:ByteArray)(i:Nat):bt (s++t) (i:Nat)=if i<s.size then bt s (i:Nat) else bt t ((i-s.size:Nat):Int):=by
 unfold bt;simp only[Int.toNat_natCast,ByteArray.data_append];have hs:s.data.size=s.size:=rfl;split
 ·rename_i h;rw[Array.getElem?_append_left oM]
 ·rename_i h;rw[Array.getElem?_append_right oM,hs]
theorem OV{l:List Int}(h:∀ c∈l,0<=c/\c<256){j:Nat}(hj:j<l.length):bt (bJ l) (j:Nat)=l[j]:=by
 obtain⟨h0,h1⟩:=h _ (List.getElem_mem hj);unfold bt bJ;rw[Int.toNat_natCast];simp only[List.getElem?_toArray,List.getElem?_map,List.getElem?_eq_getElem hj,Option.map_some,Option.getD_some,UInt8.toNat_ofNat'];rw[Nat.mod_eq_of_lt oM];omega
theorem Fw(s:ByteArray)(k:Nat)(hk:k<s.size):s.extract 0 k++bJ [bt s (k:Nat)]=s.extract 0 (k+1):=by
 have hk' : k<s.data.toList.length:=by rw[Array.length_toList];exact hk
 apply ByteArray.ext;apply Array.ext';rw[ByteArray.data_append,Array.toList_append];have e1:∀ n,(s.extract 0 n).data.toList=s.data.toList.take n:=λn=>by
  rcases s with ⟨⟨l⟩⟩;simp
 have e3:(bJ [bt s (k:Nat)]).data.toList=[s.data.toList[k]]:=by
  unfold bJ bt;rw[Int.toNat_natCast,<- Array.getElem?_toList,List.getElem?_eq_getElem hk'];simp
 rw[e1,e1,e3,List.take_succ_eq_append_getElem hk']
theorem yB{s:ByteArray}:s.extract 0 s.size=s:=by
 rcases s with ⟨⟨l⟩⟩;apply ByteArray.ext;apply Array.ext';simp[ByteArray.size]
def Ey(c:Int):Option Int:=if 48<=c/\c<=57 then some (c-48) else if 97<=c/\c<=102 then some (c-87) else if 65<=c/\c<=70 then some (c-55) else none
def mC(p:ByteArray):Option Int:=
 if p.size=0 then none
 else match Ey (bt p (0:Nat)) with
  |none=>none
  |some a=>if p.size=1 then some a else match Ey (bt p (1:Nat)) with
   |none=>none
   |some b=>some (16*a+b)
def yw(s:ByteArray):Nat->Nat->ByteArray->Option ByteArray
 |0,_,o=>some o
 | n+1,i,o=>
  if i<s.size then
   if bt s (i:Nat)=92/\i+1<s.size then
    if bt s ((i+1:Nat):Int)=110 then yw s n (i+2) (o++bJ [10])
    else if bt s ((i+1:Nat):Int)=114 then yw s n (i+2) (o++bJ [13])
    else if bt s ((i+1:Nat):Int)=116 then yw s n (i+2) (o++bJ [9])
    else if bt s ((i+1:Nat):Int)=120 then match mC (s.extract (i+2) (min (i+4) s.size)) with
     |some v=>yw s n (i+4) (o++bJ [v])
     |none=>none
    else yw s n (i+2) (o++bJ [bt s ((i+1:Nat):Int)])
   else yw s n (i+1) (o++bJ [bt s (i:Nat)])
  else some o
def PL(q:ByteArray):Bool:=(decide (2<=q.size)&&decide (bt q 0=34))&&decide (bt q ((q.size:Int)-1)=34)
def oD(q:ByteArray):ByteArray:=q.extract 1 (q.size-1)
def ib(q:ByteArray):ByteArray×Bool:=
 if PL q=true then match yw (oD q) (oD q).size 0 ⟨#[]⟩ with
  |none=>(⟨#[]⟩,false)
  |some o=>(o,decide (dR o=q))
 else (⟨#[]⟩,false)
theorem GZ(c:Int)(h0:0<=c)(h1:c<256):∀ x∈cW c,0<=x/\x<256:=by
 have hh:∀ b:Fin 16,0<=bt kt ((b.val:Nat):Int)/\bt kt ((b.val:Nat):Int)<256:=by decide +kernel
 have h2:∀ d:Int,0<=d->d<16->0<=bt kt d/\bt kt d<256:=λd a b=>by
  obtain⟨m,rfl⟩:=Int.eq_ofNat_of_zero_le a;exact hh ⟨m,oM⟩
 have h3:=h2 (c / 16) oM oM;have h4:=h2 (c % 16) oM oM;unfold cW;intro x hx
 repeat' split at hx
 all_goals simp only[List.mem_cons,List.not_mem_nil,or_false]at hx
 all_goals omega
theorem nf(y:ByteArray)(k:Nat):(bq y (k+1)).size=(bq y k).size+(cW (bt y (k:Nat))).length:=by
 show (bq y k++bJ (cW (bt y k))).size=_;rw[ByteArray.size_append,aU]
theorem mR(y:ByteArray):∀ k,1<=(bq y k).size
 |0=>Nat.le_refl _
 |k+1=>by rw[nf];have:=mR y k;omega
theorem lj(y:ByteArray){k:Nat}:∀ m,(bq y k).size<=(bq y (k+m)).size
 |0=>Nat.le_refl _
 |m+1=>by
  have:=lj y (k:=k) m;rw[show k+(m+1)=k+m+1 by omega,nf];omega
theorem Ah(y:ByteArray){k i:Nat}(hi:i<(bq y k).size):∀ m,bt (bq y (k+m)) (i:Nat)=bt (bq y k) (i:Nat)
 |0=>rfl
 |m+1=>by
  have h:=lj y (k:=k) m;show bt (bq y (k+m)++bJ (cW (bt y (k+m:Nat)))) (i:Nat)=_;rw[nr,if_pos oM];exact Ah y hi m
theorem BB(y:ByteArray):(dR y).size=(bq y y.size).size+1:=by
 unfold dR;rw[ByteArray.size_append,aU];rfl
theorem aiC(y:ByteArray){k j:Nat}(hk:k<y.size)(hj:j<(cW (bt y (k:Nat))).length):bt (dR y) (((bq y k).size+j:Nat):Int)=(cW (bt y (k:Nat)))[j]:=by
 obtain⟨c0,c1⟩:=jo y k;have hl:=nf y k;have hm:=lj y (k:=k+1) (y.size-(k+1));have hp:=Ah y (k:=k+1) (i:=(bq y k).size+j) oM (y.size-(k+1));rw[show k+1+(y.size-(k+1))=y.size by omega]at hm hp;unfold dR;rw[nr,if_pos oM,hp];show bt (bq y k++bJ (cW (bt y k))) (((bq y k).size+j:Nat):Int)=_
 rw[nr,if_neg oM,show (bq y k).size+j-(bq y k).size=j by omega];exact OV (GZ _ c0 c1) hj
theorem XF(y:ByteArray){k j:Nat}(hk:k<y.size)(hj:j<(cW (bt y (k:Nat))).length):bt (oD (dR y)) (((bq y k).size-1+j:Nat):Int)=(cW (bt y (k:Nat)))[j]:=by
 have hl:=nf y k;have hm:=lj y (k:=k+1) (y.size-(k+1));rw[show k+1+(y.size-(k+1))=y.size by omega]at hm;have h1:=mR y k;have he:=BB y;unfold oD;rw[Fx _ _ _ _ oM oM,show 1+((bq y k).size-1+j)=(bq y k).size+j by omega];exact aiC y hk hj
theorem PT(y:ByteArray):(oD (dR y)).size=(bq y y.size).size-1:=by
 have he:=BB y;have h1:=mR y y.size;unfold oD;rw[dF _ _ _ oM];omega
theorem Pe(y:ByteArray):PL (dR y)=true:=by
 have he:=BB y;have h1:=mR y y.size;have hp:=Ah y (k:=0) (i:=0) (by show 0<(bJ [34]).size;decide) y.size;rw[Nat.zero_add]at hp;have h0:bt (dR y) ((0:Nat):Int)=34:=by
  unfold dR;rw[nr,if_pos oM,hp];rfl
 have hz:bt (dR y) (((bq y y.size).size:Nat):Int)=34:=by
  unfold dR;rw[nr,if_neg oM,Nat.sub_self];rfl
 unfold PL;simp only[Bool.and_eq_true,decide_eq_true_eq];refine⟨⟨oM,h0⟩,?_⟩;rw[he,show (((bq y y.size).size+1:Nat):Int)-1=(((bq y y.size).size:Nat):Int) by omega];exact hz
theorem zF:∀ b:Fin 256,(cW ((b.val:Nat):Int)=[((b.val:Nat):Int)]/\((b.val:Nat):Int)≠92) \/
  (∃ d:Fin 256,cW ((b.val:Nat):Int)=[92,((d.val:Nat):Int)]/\((d.val=110/\b.val=10)\/(d.val=114/\b.val=13)\/(d.val=116/\b.val=9)\/(d.val=b.val/\d.val≠110/\d.val≠114/\d.val≠116/\d.val≠120))) \/
  (∃ d e:Fin 256,cW ((b.val:Nat):Int)=[92,120,((d.val:Nat):Int),((e.val:Nat):Int)]/\∃ x y:Fin 16,Ey ((d.val:Nat):Int)=some ((x.val:Nat):Int)/\Ey ((e.val:Nat):Int)=some ((y.val:Nat):Int)/\16*x.val+y.val=b.val):=by
 have hx:∀ x:Fin 16,Ey (bt kt ((x.val:Nat):Int))=some ((x.val:Nat):Int):=by decide +kernel
 have hb:∀ x:Fin 16,0<=bt kt ((x.val:Nat):Int)/\bt kt ((x.val:Nat):Int)<256:=by decide +kernel
 intro b;obtain⟨b,hlt⟩:=b;simp only;unfold cW;split
 ·rename_i h;right;left;exact⟨⟨b,hlt⟩,rfl,.inr (.inr (.inr ⟨rfl,by dsimp only;omega,by dsimp only;omega,by dsimp only;omega,by dsimp only;omega⟩))⟩
 ·rename_i h;split
  ·left;exact⟨rfl,λe=>h (.inr e)⟩
  ·split
   ·rename_i g;right;left;exact⟨⟨110,oM⟩,rfl,.inl ⟨rfl,oM⟩⟩
   ·split
    ·rename_i g;right;left;exact⟨⟨114,oM⟩,rfl,.inr (.inl ⟨rfl,oM⟩)⟩
    ·split
     ·rename_i g;right;left;exact⟨⟨116,oM⟩,rfl,.inr (.inr (.inl ⟨rfl,oM⟩))⟩
     ·right;right;have e1:((b:Nat):Int) / 16=((b / 16:Nat):Int):=oM;have e2:((b:Nat):Int) % 16=((b % 16:Nat):Int):=oM;obtain⟨p0,p1⟩:=hb ⟨b / 16,oM⟩;obtain⟨q0,q1⟩:=hb ⟨b % 16,oM⟩;have r1:=hx ⟨b / 16,oM⟩;have r2:=hx ⟨b % 16,oM⟩;simp only at p0 p1 q0 q1 r1 r2;rw[e1,e2]
      obtain⟨d,hd⟩:=Int.eq_ofNat_of_zero_le p0;obtain⟨e,he⟩:=Int.eq_ofNat_of_zero_le q0;rw[hd]at p1 r1 ⊢;rw[he]at q1 r2 ⊢;exact⟨⟨d,oM⟩,⟨e,oM⟩,rfl,⟨b / 16,oM⟩,⟨b % 16,oM⟩,r1,r2,by dsimp only;omega⟩
theorem aif(y:ByteArray):∀ (m k n:Nat),k+m=y.size->(oD (dR y)).size<=(bq y k).size-1+n->yw (oD (dR y)) n ((bq y k).size-1) (y.extract 0 k)=some y:=by
 have hin:=PT y;intro m
 induction m with
 |zero=>
  intro k n hk hn;have hk' : k=y.size:=oM;subst hk';rw[yB];cases n with
  |zero=>rfl
  |succ n=>rw[yw,if_neg oM]
 | succ m ih=>
  intro k n hk hn;have hlt:k<y.size:=oM;obtain⟨c0,c1⟩:=jo y k;obtain⟨b,hb⟩:=Int.eq_ofNat_of_zero_le c0;have hl:=nf y k;have h1:=mR y k;have hm:=lj y (k:=k+1) (y.size-(k+1));rw[show k+1+(y.size-(k+1))=y.size by omega]at hm;have hat:=λj (hj:j<(cW (bt y (k:Nat))).length)=>XF y hlt hj
  have ho:=Fw y k hlt;have ih:=λn h=>ih (k+1) n oM h
  rw[hl]at hm ih;rw[<- ho]at ih;generalize hP:(bq y k).size-1=P at *;rw[show (bq y k).size=P+1 by omega]at hm ih;have hk4:=zF ⟨b,oM⟩;simp only at hk4;rw[<- hb]at hk4;generalize bt y (k:Nat)=c at *;generalize y.extract 0 k=o at *;generalize hI:oD (dR y)=s at *
  rcases hk4 with ⟨e,hne⟩|⟨⟨d,hd⟩,e,hcs⟩|⟨⟨d,hd⟩,⟨f,hf⟩,e,⟨x,hx⟩,⟨z,hz⟩,g1,g2,g3⟩
  ·rw[e]at hat hm ih;have a0:=hat 0 sI;simp only[List.getElem_cons_zero,Nat.add_zero,List.length_cons,List.length_nil]at a0 hm ih;obtain⟨n,rfl⟩:∃ n',n=n' + 1:=⟨n-1,oM⟩;rw[yw,if_pos oM,if_neg (by rw[a0];exact λh=>hne h.1),a0];exact ih n oM
  ·simp only at e hcs;rw[e]at hat hm ih;have a0:=hat 0 sI;have a1:=hat 1 sI;simp only[List.getElem_cons_zero,List.getElem_cons_succ,Nat.add_zero,List.length_cons,List.length_nil]at a0 a1 hm ih;obtain⟨n,rfl⟩:∃ n',n=n' + 1:=⟨n-1,oM⟩;rw[yw,if_pos oM,if_pos ⟨a0,oM⟩,a1];have ih' := ih n oM
   rw[show P+1+(0+1+1)-1=P+2 by omega]at ih';rcases hcs with ⟨rfl,hh⟩|⟨rfl,hh⟩|⟨rfl,hh⟩|⟨hh,n1,n2,n3,n4⟩
   ·rw[if_pos oM];rw[hb,hh]at ih';exact ih'
   ·rw[if_neg oM,if_pos oM];rw[hb,hh]at ih';exact ih'
   ·rw[if_neg oM,if_neg oM,if_pos oM];rw[hb,hh]at ih';exact ih'
   ·rw[if_neg oM,if_neg oM,if_neg oM,if_neg oM];rw[hb,<- hh]at ih';exact ih'
  ·simp only at e g1 g2 g3;rw[e]at hat hm ih;have a0:=hat 0 sI;have a1:=hat 1 sI;have a2:=hat 2 sI;have a3:=hat 3 sI;simp only[List.getElem_cons_zero,List.getElem_cons_succ,Nat.add_zero,List.length_cons,List.length_nil]at a0 a1 a2 a3 hm ih;obtain⟨n,rfl⟩:∃ n',n=n' + 1:=⟨n-1,oM⟩;have ih' := ih n oM
   rw[show P+1+(0+1+1+1+1)-1=P+4 by omega]at ih';have hmin:min (P+4) s.size=P+4:=oM;have hs:(s.extract (P+2) (P+4)).size=2:=by rw[dF _ _ _ oM];omega
   have b0:=Fx s (P+2) (P+4) 0 oM oM;have b1:=Fx s (P+2) (P+4) 1 oM oM;rw[show P+2+0=P+2 by omega,a2]at b0;rw[show P+2+1=P+3 by omega,a3]at b1;have hN:mC (s.extract (P+2) (P+4))=some c:=by
    unfold mC;rw[hs,if_neg oM,b0,g1];simp only;rw[if_neg oM,b1,g2];simp only[Option.some.injEq];omega
   rw[yw,if_pos oM,if_pos ⟨a0,oM⟩,a1,if_neg oM,if_neg oM,if_neg oM,if_pos rfl,hmin,hN];exact ih'
theorem af7(y:ByteArray):ib (dR y)=(y,true):=by
 have h:=aif y y.size 0 (oD (dR y)).size oM oM;have e:(bq y 0).size-1=0:=rfl;have e0:y.extract 0 0=⟨#[]⟩:=by apply ByteArray.ext;apply Array.ext';simp
 rw[e,e0]at h;unfold ib;rw[if_pos (Pe y),h];simp
theorem aau{q:ByteArray}(h:(ib q).2=true):q=dR (ib q).1:=by
 unfold ib at h ⊢;split at h
 ·rename_i hq;rw[if_pos hq];cases ho:yw (oD q) (oD q).size 0 ⟨#[]⟩ with
  |none=>rw[ho]at h;simp at h
  |some o=>
   rw[ho]at h;simp only[decide_eq_true_eq]at h ⊢;exact h.symm
 ·simp at h
def dJ:ByteArray:=⟨#[]⟩
abbrev Tk:=Int×Nat×ByteArray
abbrev Pc:=ByteArray×Nat×Int×Nat
def KG(s:ByteArray)(i:Nat):Nat->Nat->ByteArray->Pc
 |0,_,_=>(dJ,0,51,i)
 | n+1,k,o=>
  if k<s.size then
   if bt s (k:Nat)=34 then (o,k+1,0,0)
   else if uw (bt s (k:Nat))=false then (dJ,0,50,k)
   else if ¬ bt s (k:Nat)=92 then KG s i n (k+1) (o++bJ [bt s (k:Nat)])
   else if ¬ k+1<s.size then (dJ,0,51,i)
   else if bt s ((k+1:Nat):Int)=110 then KG s i n (k+2) (o++bJ [10])
   else if bt s ((k+1:Nat):Int)=114 then KG s i n (k+2) (o++bJ [13])
   else if bt s ((k+1:Nat):Int)=116 then KG s i n (k+2) (o++bJ [9])
   else if bt s ((k+1:Nat):Int)=34\/bt s ((k+1:Nat):Int)=92 then KG s i n (k+2) (o++bJ [bt s ((k+1:Nat):Int)])
   else if bt s ((k+1:Nat):Int)=120 then
    if ¬ k+2<s.size then (dJ,0,51,i)
    else if fz (bt s ((k+2:Nat):Int))<0 then (dJ,0,50,k+2)
    else if ¬ k+3<s.size then (dJ,0,51,i)
    else if fz (bt s ((k+3:Nat):Int))<0 then (dJ,0,50,k+3)
    else KG s i n (k+4) (o++bJ [16*fz (bt s ((k+2:Nat):Int))+fz (bt s ((k+3:Nat):Int))])
   else (dJ,0,50,k+1)
  else (dJ,0,51,i)
def Hs(s:ByteArray)(i:Nat):Pc:=KG s i (s.size-(i+1)) (i+1) dJ
def VP(s:ByteArray)(i:Nat):Nat->Nat->Pc
 |0,_=>(dJ,0,52,i)
 | n+1,k=>
  if k<s.size then
   if uw (bt s (k:Nat))=false then (dJ,0,50,k)
   else if bt s (k:Nat)=47 then (s.extract (i+1) k,k+1,0,0)
   else if bt s (k:Nat)=92 then
    if k+1<s.size/\uw (bt s ((k+1:Nat):Int))=false then (dJ,0,50,k+1)
    else VP s i n (k+2)
   else VP s i n (k+1)
  else (dJ,0,52,i)
def NL(s:ByteArray)(i:Nat):Pc:=VP s i (s.size-(i+1)) (i+1)
def nmB(c:Int):Bool:=Mh c||HW c
def nmN(s:ByteArray):Nat->Nat->Nat
 |0,k=>k
 |n+1,k=>if k<s.size then if nmB (bt s (k:Nat))=true then nmN s n (k+1) else k else k
def GY(s:ByteArray)(i:Nat):Nat:=nmN s (s.size-(i+1)) (i+1)
def jS(s:ByteArray)(i:Nat):Tk×Nat×Int×Nat:=
 if Mh (bt s (i:Nat))=true then
  if 32<GY s i-i then ((0,0,dJ),0,1,i) else ((1,i,s.extract i (GY s i)),GY s i,0,0)
 else if bt s (i:Nat)=34 then ((2,i,(Hs s i).1),(Hs s i).2.1,(Hs s i).2.2.1,(Hs s i).2.2.2)
 else if bt s (i:Nat)=47 then ((3,i,(NL s i).1),(NL s i).2.1,(NL s i).2.2.1,(NL s i).2.2.2)
 else if B2 (bt s (i:Nat))=true then ((4,i,s.extract i (i+1)),i+1,0,0)
 else if bt s (i:Nat)=62/\i+1<s.size/\bt s ((i+1:Nat):Int)=62 then ((4,i,⟨#[62,62]⟩),i+2,0,0)
 else ((0,0,dJ),0,50,i)
def scN(s:ByteArray):Nat->Nat->List Tk->List Tk×Int×Nat
 |0,i,l=>(l++[(0,s.size,dJ)],0,0)
 | n+1,i,l=>
  if i<s.size then
   if (jS s i).2.2.1=0 then scN s n (qn s (jS s i).2.1) (l++[(jS s i).1]) else ([],(jS s i).2.2.1,(jS s i).2.2.2)
  else (l++[(0,s.size,dJ)],0,0)
def fU(s:ByteArray):List Tk×Int×Nat:=if 4096<s.size then ([],1,0) else scN s s.size (qn s 0) []
def onT(p:ByteArray):Option ByteArray:=match (fU p).1 with
 |[t0,_]=>if (fU p).2.1=0/\t0.1=2/\t0.2.2.size=1 then some t0.2.2 else none
 |_=>none
def sy(s:ByteArray)(i:Nat):Nat:=if bt s (i:Nat)=92 then if i+1<s.size/\bt s ((i+1:Nat):Int)=120 then 4 else 2 else 1
def pcQ(p:ByteArray):ByteArray:=⟨#[34]⟩++p++⟨#[34]⟩
def Jq(s:ByteArray):Nat->Nat->ByteArray->Option ByteArray
 |0,_,o=>some o
 | n+1,i,o=>
  if i<s.size then
   if s.size<i+sy s i then none
   else match onT (pcQ (s.extract i (i+sy s i))) with
    |some t=>Jq s n (i+sy s i) (o++t)
    |none=>none
  else some o
def jr(q:ByteArray):ByteArray×Bool:=
 if PL q=true then match Jq (oD q) (oD q).size 0 ⟨#[]⟩ with
  |none=>(⟨#[]⟩,false)
  |some o=>(o,decide (dR o=q))
 else (⟨#[]⟩,false)
theorem ajI:∀ b:Fin 256,onT (pcQ (bJ (cW ((b.val:Nat):Int))))=some (bJ [((b.val:Nat):Int)]):=by decide +kernel
theorem ajW{s t:ByteArray}(hs:s.size=t.size)(h:∀ i:Nat,i<s.size->bt s (i:Nat)=bt t (i:Nat)):s=t:=by
 apply ByteArray.ext;apply Array.ext hs;intro i h1 h2;have:=h i h1;simp only[bt,Int.toNat_natCast,Array.getElem?_eq_getElem h1,Array.getElem?_eq_getElem h2,Option.getD_some]at this;exact UInt8.toNat_inj.1 oM
theorem ajg(y:ByteArray):∀ (m k n:Nat),k+m=y.size->(oD (dR y)).size<=(bq y k).size-1+n->Jq (oD (dR y)) n ((bq y k).size-1) (y.extract 0 k)=some y:=by
 have hin:=PT y;intro m
 induction m with
 |zero=>
  intro k n hk hn;have hk' : k=y.size:=oM;subst hk';rw[yB];cases n with
  |zero=>rfl
  |succ n=>rw[Jq,if_neg oM]
 | succ m ih=>
  intro k n hk hn;have hlt:k<y.size:=oM;obtain⟨c0,c1⟩:=jo y k;obtain⟨b,hb⟩:=Int.eq_ofNat_of_zero_le c0;have hl:=nf y k;have h1:=mR y k;have hm:=lj y (k:=k+1) (y.size-(k+1));rw[show k+1+(y.size-(k+1))=y.size by omega]at hm;have hat:=λj (hj:j<(cW (bt y (k:Nat))).length)=>XF y hlt hj
  have ho:=Fw y k hlt;have hlow:=GZ _ c0 c1;have ih:=λn h=>ih (k+1) n oM h
  rw[hl]at hm ih;rw[<- ho]at ih;generalize hP:(bq y k).size-1=P at *;rw[show (bq y k).size=P+1 by omega]at hm ih;have hk4:=zF ⟨b,oM⟩;have hq:=ajI ⟨b,oM⟩;simp only at hk4 hq;rw[<- hb]at hk4 hq;generalize bt y (k:Nat)=c at *;generalize y.extract 0 k=o at *;generalize hI:oD (dR y)=s at *
  have hlen:1<=(cW c).length/\sy s P=(cW c).length:=by
   rcases hk4 with ⟨e,hne⟩|⟨⟨d,hd⟩,e,hcs⟩|⟨⟨d,hd⟩,⟨f,hf⟩,e,_⟩
   ·rw[e]at hat hm ⊢;have a0:=hat 0 sI;simp only[List.getElem_cons_zero,Nat.add_zero]at a0;exact⟨sI,by rw[sy,if_neg (by rw[a0];exact hne)];rfl⟩
   ·simp only at e hcs;rw[e]at hat hm ⊢;have a0:=hat 0 sI;have a1:=hat 1 sI;simp only[List.getElem_cons_zero,List.getElem_cons_succ,Nat.add_zero]at a0 a1;refine⟨sI,?_⟩;rw[sy,if_pos a0,if_neg (by rw[a1];omega)];rfl
   ·simp only at e;rw[e]at hat hm ⊢;have a0:=hat 0 sI;have a1:=hat 1 sI;simp only[List.getElem_cons_zero,List.getElem_cons_succ,Nat.add_zero,List.length_cons,List.length_nil]at a0 a1 hm;refine⟨sI,?_⟩;rw[sy,if_pos a0,if_pos ⟨oM,a1⟩];rfl
  obtain⟨hl1,hl2⟩:=hlen;have hpc:s.extract P (P+(cW c).length)=bJ (cW c):=by
   have hz:(s.extract P (P+(cW c).length)).size=(cW c).length:=by rw[dF _ _ _ oM];omega
   refine ajW (by rw[hz,aU]) λi hi=>?_
   rw[hz]at hi;rw[Fx _ _ _ _ oM oM,hat i hi,OV hlow hi]
  obtain⟨n,rfl⟩:∃ n',n=n' + 1:=⟨n-1,oM⟩;rw[Jq,if_pos oM,hl2,if_neg oM,hpc,hq];have ih' := ih n oM;rw[show P+1+(cW c).length-1=P+(cW c).length by omega]at ih';exact ih'
theorem ac3(y:ByteArray):jr (dR y)=(y,true):=by
 have h:=ajg y y.size 0 (oD (dR y)).size oM oM;have e:(bq y 0).size-1=0:=rfl;have e0:y.extract 0 0=⟨#[]⟩:=by apply ByteArray.ext;apply Array.ext';simp
 rw[e,e0]at h;unfold jr;rw[if_pos (Pe y),h];simp
theorem aat{q:ByteArray}(h:(jr q).2=true):q=dR (jr q).1:=by
 unfold jr at h ⊢;split at h
 ·rename_i hq;rw[if_pos hq];cases ho:Jq (oD q) (oD q).size 0 ⟨#[]⟩ with
  |none=>rw[ho]at h;simp at h
  |some o=>
   rw[ho]at h;simp only[decide_eq_true_eq]at h ⊢;exact h.symm
 ·simp at h
theorem Vr(q:ByteArray):(jr q).2=(ib q).2/\((ib q).2=true->(jr q).1=(ib q).1):=by
 cases h:(ib q).2 with
 |true=>
  have e:=aau h;have h2:=ac3 (ib q).1;rw[<- e]at h2;exact⟨by rw[h2],λ_=>by rw[h2]⟩
 | false=>
  refine⟨?_,λh=>by cases h⟩;cases h' : (jr q).2 with
  |false=>rfl
  |true=>
   have e:=aat h';have h2:=af7 (jr q).1;rw[<- e]at h2;rw[h2]at h;cases h
end
section
open Go.RowKit Go.LE Go.Proofs.Tryz
theorem aim:ts prog 45=some 1:=kR
theorem ain:ta prog 45=some false:=kR
theorem aj6:ts prog 47=some 1:=kR
theorem aj4:ta prog 47=some false:=kR
theorem FT:ts prog 51=some 1:=kR
theorem F7:ta prog 51=some false:=kR
theorem D2:tz prog 51=some [Value.nilFunc]:=kR
theorem uR:ts prog 103=some 1:=kR
theorem vz:ta prog 103=some false:=kR
theorem Gp:ts prog 106=some 1:=kR
theorem Fv:ta prog 106=some false:=kR
theorem ah6:ts prog 108=some 1:=kR
theorem ajz:ta prog 108=some false:=kR
theorem o5:ts prog 110=some 1:=kR
theorem pY:ta prog 110=some false:=kR
theorem pw:tz prog 110=some [Value.pointer none]:=kR
theorem pZ:jq prog 110=some true:=kR
theorem pQ:Program.underlying prog 110=some (.pointer 112):=kR
theorem p6:ts prog 112=some 7:=kR
theorem pC:ta prog 112=some true:=kR
theorem o4:tz prog 112=some [Value.slice none 0 0,Value.slice none 0 0,Value.slice none 0 0,Value.int IntKind.i64 0,Value.int IntKind.i64 0,Value.string { data:=#[] },Value.int IntKind.i64 0]:=kR
theorem qf:rL prog 112=some [(0,5),(5,1),(6,1)]:=kR
theorem pO:tf prog 112 0=some (0,5,true):=kR
theorem o7:tf prog 112 1=some (5,1,false):=kR
theorem qd:tf prog 112 2=some (6,1,false):=kR
theorem Z0:ts prog 164=some 1:=kR
theorem Y3:ta prog 164=some false:=kR
theorem Yg:tz prog 164=some [Value.slice none 0 0]:=kR
theorem ZO:Program.underlying prog 164=some (.slice 168):=kR
theorem ajE:ts prog 165=some 1:=kR
theorem aj5:ta prog 165=some false:=kR
theorem XH:ts prog 168=some 3:=kR
theorem W7:ta prog 168=some true:=kR
theorem XY:sn prog 168=some 32:=kR
theorem aay:tz prog 168=some [Value.int IntKind.i64 0,Value.int IntKind.i64 0,Value.string { data:=#[] }]:=kR
theorem WU:rL prog 168=some [(0,1),(1,1),(2,1)]:=kR
theorem Wt:tf prog 168 0=some (0,1,false):=kR
theorem WM:tf prog 168 1=some (1,1,false):=kR
theorem XV:tf prog 168 2=some (2,1,false):=kR
theorem ai0:ts prog 173=some 1:=kR
theorem aiW:ta prog 173=some false:=kR
theorem ajR:tz prog 173=some [Value.pointer none]:=kR
theorem ajB:jq prog 173=some true:=kR
theorem akd:Program.underlying prog 173=some (.pointer 3):=kR
theorem akc:ts prog 174=some 2:=kR
theorem ajY:ta prog 174=some true:=kR
theorem aiR:sn prog 174=some 16:=kR
theorem ajL:tz prog 174=some [Value.int IntKind.i64 0,Value.pointer none]:=kR
theorem aii:rL prog 174=some [(0,1),(1,1)]:=kR
theorem akl:tf prog 174 0=some (0,1,false):=kR
theorem ajQ:tf prog 174 1=some (1,1,false):=kR
theorem akn:ts prog 175=some 1:=kR
theorem akb:ta prog 175=some false:=kR
theorem aj0:tz prog 175=some [Value.slice none 0 0]:=kR
theorem aia:Program.underlying prog 175=some (.slice 174):=kR
theorem ajD:ts prog 261=some 1:=kR
theorem ai9:ta prog 261=some false:=kR
theorem ZR:ts prog 264=some 1:=kR
theorem Zk:ta prog 264=some false:=kR
end
section
open Go.RowKit Go.LE Go.Proofs.Tryz
set_option maxRecDepth 10000
noncomputable def dV:Env prog:=⟨λ| 187=>some Ti.spec|188=>some abu.spec|_=>none,λ| _=>none,λ_ _=>none⟩
theorem Z7:dV.sp 187=some Ti.spec:=rfl
theorem Yu:dV.sp 188=some abu.spec:=rfl
def pcV(q:Pc):Value:=.tuple #[.string q.1,.int .i64 (q.2.1:Nat),.int .i64 q.2.2.1,.int .i64 (q.2.2.2:Nat)]
theorem QB{c:Int}(h0:0<=c)(h1:c<256):-1<=fz c/\fz c<16:=by
 unfold fz HW;split
 ·rename_i h;simp only[Bool.and_eq_true,decide_eq_true_eq]at h;omega
 ·split
  ·rename_i h;simp only[Bool.and_eq_true,decide_eq_true_eq]at h;omega
  ·omega
def bD:=(aj @List.replicate_succ.{0} @List.replicate_zero.{0} @an @ab BG BH BJ (aj gR ck cf b9 b8 ca cc (aj cg cd fu fh fy ft fB (aj dc df dh db cY c8 xw (aj wG wD vP @aG @al @ax @aw (aj @gD @jz @lg Z7 Yu @A1 @AL (aa @HM @Hc)))))))
theorem aij(s:ByteArray)(i:Nat)(hi:i<s.size)(hs:s.size<=4096)(w:World):Calls prog 135 #[.string s,.int .i64 (i:Nat)] w λe w' => e=.returned (pcV (Hs s i))/\ah w [] w' := by
 have wi:IntKind.i64.wrap ((i:Int)+1)=((i+1:Nat):Int):=wW;refine af (nt:=120) [.tmp 4,.tmp 5,.tmp 6,.tmp 7] func135 rfl rfl rfl ?_;refine vR dV bD ?_;refine vR dV bD ?_;refine vR dV (aa bD wi) ?_;refine Wp.seq (Wp.block ?_)
 refine Wp.loop (λp:Nat×Nat×ByteArray=>⟨20,bm [(0,.is (.v (.string s))),(1,.is (.v (.int .i64 (i:Nat)))),(8,.is (.hd 19)),(9,.is (.v (.int .i64 (p.2.1:Nat))))],aY [(19,.row 5 1 p.2.2.size ((byteCells p.2.2).map .v))]⟩) (λp=>(i+1<=p.2.1/\p.2.1<=s.size)/\p.2.2.size<=p.2.1/\s.size<=p.2.1+p.1/\KG s i p.1 p.2.1 p.2.2=Hs s i) (λp=>p.1) (s.size-(i+1),i+1,dJ) ?_ ⟨⟨Nat.le_refl _,hi⟩,Nat.zero_le _,by dsimp only;omega,rfl⟩ ?_
 ·exact wM (λk=>if k=19 then .nil else .key k) (eS bD @dJ.eq_1 (show (⟨#[]⟩:ByteArray).size=0 from rfl) (show byteCells ⟨#[]⟩=[] from rfl))
 rintro⟨n,k,o⟩ ⟨⟨g0,g1⟩,g2,g3,g4⟩;dsimp only at g0 g1 g2 g3 g4 ⊢;refine Wp.seq ?_;refine vR dV bD ?_;refine wC bD (λhc=>?_) (λhc=>?_)
 ·have hlt:k<s.size:=by
   simp at hc;omega
  obtain⟨n,rfl⟩:∃ n',n=n' + 1:=⟨n-1,oM⟩;obtain⟨c0,c1⟩:=jo s k;have hq:=g4;rw[KG,if_pos hlt]at hq;have wk:IntKind.i64.wrap ((k:Int)+1)=((k+1:Nat):Int):=wW;have wk2:IntKind.i64.wrap ((k:Int)+2)=((k+2:Nat):Int):=wW;have wk3:IntKind.i64.wrap ((k:Int)+3)=((k+3:Nat):Int):=wW
  have wk4:IntKind.i64.wrap (((k+2:Nat):Int)+2)=((k+4:Nat):Int):=wW;refine wK ?_;refine Wp.block ?_;refine wR dV bD ?_ ?_
  ·omega
  refine Wp.seq ?_;refine vR dV bD ?_;refine wC bD (λhc=>?_) (λhc=>?_)
  ·have h:bt s (k:Nat)=34:=by simpa using hc
   rw[if_pos h]at hq;rw[<- hq];refine wR dV (aa bD wk) ?_ ?_
   ·exact iz _
   refine wZ bD ?_;exact λE=>rfl
  have h34:¬ bt s (k:Nat)=34:=by simpa using hc
  rw[if_neg h34]at hq;clear hc;refine wK ?_;refine Wp.seq ?_;refine vR dV bD ?_;refine wC bD (λhc=>?_) (λhc=>?_)
  ·have h:uw (bt s (k:Nat))=false:=by simpa using hc
   rw[if_pos h]at hq;rw[<- hq];refine vR dV bD ?_;refine wZ bD ?_;exact λE=>rfl
  have hp:¬ uw (bt s (k:Nat))=false:=by simpa using hc
  rw[if_neg hp]at hq;clear hc;refine wK ?_;refine Wp.seq ?_;refine vR dV bD ?_;refine wC bD (λhc=>?_) (λhc=>?_)
  ·have h:¬ bt s (k:Nat)=92:=by simpa using hc
   rw[if_pos h]at hq;have ha:=dX o [bt s (k:Nat)] (λc hc=>by rw[List.mem_singleton.1 hc];exact⟨c0,c1⟩);have hz:(o++bJ [bt s (k:Nat)]).size=o.size+1:=by rw[ByteArray.size_append,aU];rfl
   simp only[List.map_cons,List.map_nil]at ha;refine wR dV (aa bD ha) ?_ ?_
   ·exact⟨by unfold maxLen;omega,oM⟩
   refine vR dV (aa bD wk) ?_;refine wE ?_;refine⟨(n,k+1,o++bJ [bt s (k:Nat)]),⟨⟨by dsimp only;omega,by dsimp only;omega⟩,by dsimp only;omega,by dsimp only;omega,hq⟩,by dsimp only;omega,?_⟩;exact wM (λk=>if k=19 then .key 304 else .key k) (aa bD hz)
  have h92:¬ ¬ bt s (k:Nat)=92:=by simpa using hc
  rw[if_neg h92]at hq;clear hc;refine wK ?_;refine Wp.seq ?_;refine vR dV (aa bD wk) ?_;refine wC bD (λhc=>?_) (λhc=>?_)
  ·have h:¬ k+1<s.size:=by
    simp at hc;omega
   rw[if_pos h]at hq;rw[<- hq];refine vR dV bD ?_;refine wZ bD ?_;exact λE=>rfl
  have hk1:k+1<s.size:=by
   simp at hc;omega
  rw[if_neg oM]at hq;clear hc;obtain⟨d0,d1⟩:=jo s ((k+1:Nat):Int);refine wK ?_;refine Wp.seq ?_;refine wR dV (aa bD wk) ?_ ?_
  ·omega
  refine Wp.block ?_;refine vR dV bD ?_;refine wC bD (λhc=>?_) (λhc=>?_)
  ·have h:bt s ((k+1:Nat):Int)=110:=by simpa using hc
   rw[if_pos h]at hq;have ha:=dX o [10] (λc hc=>by rw[List.mem_singleton.1 hc];omega);have hz:(o++bJ [10]).size=o.size+1:=by rw[ByteArray.size_append,aU];rfl
   simp only[List.map_cons,List.map_nil]at ha;refine wr dV (aa bD ha) ?_ ?_
   ·exact⟨by unfold maxLen;omega,oM⟩
   refine vr dV (aa bD wk2) ?_;refine⟨(n,k+2,o++bJ [10]),⟨⟨by dsimp only;omega,by dsimp only;omega⟩,by dsimp only;omega,by dsimp only;omega,hq⟩,by dsimp only;omega,?_⟩;exact wM (λk=>if k=19 then .key 384 else .key k) (aa bD hz)
  have h110:¬ bt s ((k+1:Nat):Int)=110:=by simpa using hc
  rw[if_neg h110]at hq;clear hc;refine vR dV bD ?_;refine wC bD (λhc=>?_) (λhc=>?_)
  ·have h:bt s ((k+1:Nat):Int)=114:=by simpa using hc
   rw[if_pos h]at hq;have ha:=dX o [13] (λc hc=>by rw[List.mem_singleton.1 hc];omega);have hz:(o++bJ [13]).size=o.size+1:=by rw[ByteArray.size_append,aU];rfl
   simp only[List.map_cons,List.map_nil]at ha;refine wr dV (aa bD ha) ?_ ?_
   ·exact⟨by unfold maxLen;omega,oM⟩
   refine vr dV (aa bD wk2) ?_;refine⟨(n,k+2,o++bJ [13]),⟨⟨by dsimp only;omega,by dsimp only;omega⟩,by dsimp only;omega,by dsimp only;omega,hq⟩,by dsimp only;omega,?_⟩;exact wM (λk=>if k=19 then .key 400 else .key k) (aa bD hz)
  have h114:¬ bt s ((k+1:Nat):Int)=114:=by simpa using hc
  rw[if_neg h114]at hq;clear hc;refine vR dV bD ?_;refine wC bD (λhc=>?_) (λhc=>?_)
  ·have h:bt s ((k+1:Nat):Int)=116:=by simpa using hc
   rw[if_pos h]at hq;have ha:=dX o [9] (λc hc=>by rw[List.mem_singleton.1 hc];omega);have hz:(o++bJ [9]).size=o.size+1:=by rw[ByteArray.size_append,aU];rfl
   simp only[List.map_cons,List.map_nil]at ha;refine wr dV (aa bD ha) ?_ ?_
   ·exact⟨by unfold maxLen;omega,oM⟩
   refine vr dV (aa bD wk2) ?_;refine⟨(n,k+2,o++bJ [9]),⟨⟨by dsimp only;omega,by dsimp only;omega⟩,by dsimp only;omega,by dsimp only;omega,hq⟩,by dsimp only;omega,?_⟩;exact wM (λk=>if k=19 then .key 416 else .key k) (aa bD hz)
  have h116:¬ bt s ((k+1:Nat):Int)=116:=by simpa using hc
  rw[if_neg h116]at hq;clear hc;by_cases hqb:bt s ((k+1:Nat):Int)=34\/bt s ((k+1:Nat):Int)=92
  ·rw[if_pos hqb]at hq;have ha:=dX o [bt s ((k+1:Nat):Int)] (λc hc=>by rw[List.mem_singleton.1 hc];exact⟨d0,d1⟩);have hz:(o++bJ [bt s ((k+1:Nat):Int)]).size=o.size+1:=by rw[ByteArray.size_append,aU];rfl
   simp only[List.map_cons,List.map_nil]at ha
   refine aV ⟨80,bm [(0,.is (.v (.string s))),(1,.is (.v (.int .i64 (i:Nat)))),(8,.is (.hd 19)),(9,.is (.v (.int .i64 (k:Nat)))),(48,.is (.v (.int .u8 (bt s ((k+1:Nat):Int))))),(66,.is (.v (.bool true)))],aY [(19,.row 5 1 o.size ((byteCells o).map .v))]⟩ ?_ ?_
   ·skip;refine vR dV bD ?_;refine wC bD (λhc=>?_) (λhc=>?_)
    ·refine wK ?_;exact wM (λk=>.key k) (aa bD hc)
    ·have h2:decide (bt s ((k+1:Nat):Int)=92)=true:=decide_eq_true (hqb.resolve_left (of_decide_eq_false hc));refine vr dV (aa bD h2) ?_;exact wM (λk=>.key k) bD
   refine wC bD (λhc=>?_) (λhc=>?_)
   ·skip;refine wr dV (bP bD ha wk) ?_ ?_
    ·exact⟨oM,by unfold maxLen;omega,oM⟩
    refine vr dV (aa bD wk2) ?_;refine⟨(n,k+2,o++bJ [bt s ((k+1:Nat):Int)]),⟨⟨by dsimp only;omega,by dsimp only;omega⟩,by dsimp only;omega,by dsimp only;omega,hq⟩,by dsimp only;omega,?_⟩;exact wM (λk=>if k=19 then .key 688 else .key k) (aa bD hz)
   ·exact absurd hc sI
  rw[if_neg hqb]at hq;have hq34:decide (bt s ((k+1:Nat):Int)=34)=false:=decide_eq_false λh=>hqb (.inl h)
  have hq92:decide (bt s ((k+1:Nat):Int)=92)=false:=decide_eq_false λh=>hqb (.inr h)
  refine Wp.seq ?_;refine vR dV (aa bD hq34) ?_;refine wC bD (λhc=>?_) (λhc=>?_)
  ·exact absurd hc sI
  clear hc;refine vr dV (aa bD hq92) ?_;refine wC bD (λhc=>?_) (λhc=>?_)
  ·exact absurd hc sI
  clear hc;refine vR dV bD ?_;refine wC bD (λhc=>?_) (λhc=>?_)
  ·have h120:bt s ((k+1:Nat):Int)=120:=by simpa using hc
   rw[if_pos h120]at hq;clear hc;refine Wp.seq ?_;refine vR dV bD ?_;refine Wp.block ?_
   refine Wp.loop (λd:Nat=>⟨100,bm [(0,.is (.v (.string s))),(1,.is (.v (.int .i64 (i:Nat)))),(8,.is (.hd 19)),(9,.is (.v (.int .i64 (k:Nat)))),(11,.is (.v (.int .i64 (d:Nat))))],aY [(19,.row 5 1 o.size ((byteCells o).map .v))]⟩) (λd=>2<=d/\d<=4/\(3<=d->k+2<s.size/\¬ fz (bt s ((k+2:Nat):Int))<0)/\(4<=d->k+3<s.size/\¬ fz (bt s ((k+3:Nat):Int))<0)) (λd=>4-d) 2 ?_ ⟨oM,oM,λh=>by omega,λh=>by omega⟩ ?_
   ·exact wM (λk=>.key k) (aa bD (show ((2:Nat):Int)=2 from rfl))
   rintro d ⟨e1,e2,e3,e4⟩;refine Wp.seq ?_;refine vR dV bD ?_;refine wC bD (λhc=>?_) (λhc=>?_)
   ·have hd4:d<4:=by
     simp at hc;omega
    have wd:IntKind.i64.wrap ((d:Int)+1)=((d+1:Nat):Int):=wW;have wkd:IntKind.i64.wrap ((k:Int)+(d:Int))=((k+d:Nat):Int):=wW;obtain⟨b0,b1⟩:=jo s ((k+d:Nat):Int);have hdd:d=2\/d=3:=oM;refine wK ?_;refine Wp.seq (Wp.block ?_);refine Wp.seq ?_;refine vR dV (aa bD wkd) ?_
    refine wC bD (λhc=>?_) (λhc=>?_)
    ·have h:¬ k+d<s.size:=by
      simp at hc;omega
     have hv:Hs s i=(dJ,0,51,i):=by
      rw[<- hq];rcases hdd with rfl|rfl
      ·rw[if_pos h]
      ·obtain⟨f1,f2⟩:=e3 oM;rw[if_neg oM,if_neg f2,if_pos h]
     rw[hv];refine vR dV bD ?_;refine wZ bD ?_;exact λE=>rfl
    have hkd:k+d<s.size:=by
     simp at hc;omega
    clear hc;refine wK ?_;refine wR dV (aa bD wkd) ?_ ?_
    ·exact⟨oM,b0,b1⟩
    refine wC bD (λhc=>?_) (λhc=>?_)
    ·have h:fz (bt s ((k+d:Nat):Int))<0:=by simpa using hc
     have hv:Hs s i=(dJ,0,50,k+d):=by
      rw[<- hq];rcases hdd with rfl|rfl
      ·rw[if_neg oM,if_pos h]
      ·obtain⟨f1,f2⟩:=e3 oM;rw[if_neg oM,if_neg f2,if_neg oM,if_pos h]
     rw[hv];refine vR dV (aa bD wkd) ?_;refine wZ bD ?_;exact λE=>rfl
    have hvd:¬ fz (bt s ((k+d:Nat):Int))<0:=by simpa using hc
    clear hc;refine wK ?_;refine vr dV (aa bD wd) ?_;refine⟨d+1,⟨oM,oM,λh=>?_,λh=>?_⟩,oM,?_⟩
    ·rcases hdd with rfl|rfl
     ·exact⟨hkd,hvd⟩
     ·exact e3 oM
    ·rcases hdd with rfl|rfl
     ·omega
     ·exact⟨hkd,hvd⟩
    ·exact wM (λk=>.key k) bD
   ·have hd4:d=4:=by
     simp at hc;omega
    obtain⟨f1,f2⟩:=e3 oM;obtain⟨f3,f4⟩:=e4 oM;rw[if_neg oM,if_neg f2,if_neg oM,if_neg f4]at hq;obtain⟨x0,x1⟩:=jo s ((k+2:Nat):Int);obtain⟨y0,y1⟩:=jo s ((k+3:Nat):Int);have hx:=QB x0 x1;have hy:=QB y0 y1;have u1:IntKind.i64.wrap (16*fz (bt s ((k+2:Nat):Int)))=16*fz (bt s ((k+2:Nat):Int)):=ae oM oM
    have u2:IntKind.i64.wrap (16*fz (bt s ((k+2:Nat):Int))+fz (bt s ((k+3:Nat):Int)))=16*fz (bt s ((k+2:Nat):Int))+fz (bt s ((k+3:Nat):Int)):=ae oM oM;have u3:IntKind.u8.wrap (16*fz (bt s ((k+2:Nat):Int))+fz (bt s ((k+3:Nat):Int)))=16*fz (bt s ((k+2:Nat):Int))+fz (bt s ((k+3:Nat):Int)):=eQ oM oM
    have ha:=dX o [16*fz (bt s ((k+2:Nat):Int))+fz (bt s ((k+3:Nat):Int))] (λc hc=>by rw[List.mem_singleton.1 hc];omega);have hz:(o++bJ [16*fz (bt s ((k+2:Nat):Int))+fz (bt s ((k+3:Nat):Int))]).size=o.size+1:=by rw[ByteArray.size_append,aU];rfl
    simp only[List.map_cons,List.map_nil]at ha;refine wE ?_;refine lf dV (ur bD wk2 wk3 u1 u2 u3 ha) ?_ ?_
    ·exact⟨⟨oM,oM⟩,⟨x0,x1⟩,⟨oM,oM⟩,⟨y0,y1⟩,by unfold maxLen;omega,oM⟩
    refine vr dV (aa bD wk2) ?_;refine vr dV (aa bD wk4) ?_;refine⟨(n,k+4,o++bJ [16*fz (bt s ((k+2:Nat):Int))+fz (bt s ((k+3:Nat):Int))]),⟨⟨by dsimp only;omega,by dsimp only;omega⟩,by dsimp only;omega,by dsimp only;omega,hq⟩,by dsimp only;omega,?_⟩
    exact wM (λk=>if k=19 then .key 936 else .key k) (aa bD hz)
  ·have h120:¬ bt s ((k+1:Nat):Int)=120:=by simpa using hc
   rw[if_neg h120]at hq;rw[<- hq];refine vR dV (aa bD wk) ?_;refine wZ bD ?_;exact λE=>rfl
 ·have hge:s.size<=k:=by
   simp at hc;omega
  have hv:Hs s i=(dJ,0,51,i):=by
   rw[<- g4];cases n with
   |zero=>rfl
   |succ n=>rw[KG,if_neg oM]
  rw[hv];refine wE ?_;refine vR dV bD ?_;refine wZ bD ?_;exact λE=>rfl
def qtC:aM prog 135 where
 pre:=λW bs as_=>∃ (s:ByteArray) (i:Nat),as_=[.val (.string s),.val (.int .i64 (i:Nat))]/\i<s.size/\s.size<=4096
 res:=λ_ as_=>match as_ with
  |[.val (.string s),.val (.int _ i)]=>pcV (Hs s i.toNat)
  |_=>undef
 enters:=call135
 ok:=by
  intro W w bs us as_ hk hu hp;obtain⟨s,i,rfl,h1,h2⟩:=hp
  match us,hu with
  |[x,y],hu=>
   obtain⟨rfl,rfl,_⟩:=hu;exact aij s i h1 h2 w
theorem acO(W:World)(bs:List Nat)(s:ByteArray)(i:Nat):qtC.pre W bs [.val (.string s),.val (.int .i64 (i:Nat))]=(i<s.size/\s.size<=4096):=
 propext ⟨λ⟨s',i',h,h2⟩=>by
  simp only[List.cons.injEq,AV.val.injEq,Value.string.injEq,Value.int.injEq,true_and,and_true]at h
  obtain⟨rfl,h⟩:=h
  obtain rfl:i=i' := oM
  exact h2,λh=>⟨s,i,rfl,h⟩⟩
theorem ag2(W:World)(s:ByteArray)(i:Nat):qtC.res W [.val (.string s),.val (.int .i64 (i:Nat))]=pcV (Hs s i):=by
 show pcV (Hs s ((i:Int)).toNat)=_;rw[Int.toNat_natCast]
noncomputable def pI:Env prog:=⟨λ| 187=>some Ti.spec|_=>none,λ| _=>none,λ_ _=>none⟩
theorem Ye:pI.sp 187=some Ti.spec:=rfl
def ir:=(aj @List.replicate_succ.{0} @List.replicate_zero.{0} @an @ab jk jn BG (aj BH BJ gR ck cf b9 b8 (aj ca cc cg cd fu fh fy (aj ft fB dc df dh db cY (aj c8 Z0 Y3 Yg ZO XH W7 (aj XY aay WU Wt WM XV ajD (aj ai9 @aG @al @ax @aw Ye @A1 @AL)))))))
theorem ajO(s:ByteArray)(i:Nat)(hi:i<s.size)(hs:s.size<=4096)(w:World):Calls prog 136 #[.string s,.int .i64 (i:Nat)] w λe w' => e=.returned (pcV (NL s i))/\ah w [] w' := by
 have wi:IntKind.i64.wrap ((i:Int)+1)=((i+1:Nat):Int):=wW;refine af (nt:=53) [.tmp 4,.tmp 5,.tmp 6,.tmp 7] func136 rfl rfl rfl ?_;refine vR pI ir ?_;refine vR pI (aa ir wi) ?_;refine Wp.seq (Wp.block ?_)
 refine Wp.loop (λp:Nat×Nat=>⟨20,bm [(0,.is (.v (.string s))),(1,.is (.v (.int .i64 (i:Nat)))),(8,.is (.v (.int .i64 (p.2:Nat))))],aY []⟩) (λp=>(i+1<=p.2/\p.2<=s.size+1)/\s.size<=p.2+p.1/\VP s i p.1 p.2=NL s i) (λp=>p.1) (s.size-(i+1),i+1) ?_ ⟨⟨Nat.le_refl _,by dsimp only;omega⟩,by dsimp only;omega,rfl⟩ ?_
 ·exact wM (λk=>.key k) ir
 rintro⟨n,k⟩ ⟨⟨g0,g1⟩,g3,g4⟩;dsimp only at g0 g1 g3 g4 ⊢;refine Wp.seq ?_;refine vR pI ir ?_;refine wC ir (λhc=>?_) (λhc=>?_)
 ·have hlt:k<s.size:=by
   simp at hc;omega
  obtain⟨n,rfl⟩:∃ n',n=n' + 1:=⟨n-1,oM⟩;have hq:=g4;rw[VP,if_pos hlt]at hq;have wk:IntKind.i64.wrap ((k:Int)+1)=((k+1:Nat):Int):=wW;have wk2:IntKind.i64.wrap (((k+1:Nat):Int)+1)=((k+2:Nat):Int):=wW;refine wK ?_;refine Wp.block ?_;refine Wp.seq ?_;refine wR pI ir ?_ ?_
  ·omega
  refine wC ir (λhc=>?_) (λhc=>?_)
  ·have h:uw (bt s (k:Nat))=false:=by simpa using hc
   rw[if_pos h]at hq;rw[<- hq];refine vR pI ir ?_;refine wZ ir ?_;exact λE=>rfl
  have h1:¬ uw (bt s (k:Nat))=false:=by simpa using hc
  rw[if_neg h1]at hq;clear hc;refine wK ?_;refine Wp.seq ?_;refine wR pI ir ?_ ?_
  ·omega
  refine wC ir (λhc=>?_) (λhc=>?_)
  ·have h:bt s (k:Nat)=47:=by simpa using hc
   rw[if_pos h]at hq;rw[<- hq];refine wR pI (bP ir wi wk) ?_ ?_
   ·exact⟨oM,oM,oM⟩
   refine wZ ir ?_;exact λE=>rfl
  have h2:¬ bt s (k:Nat)=47:=by simpa using hc
  rw[if_neg h2]at hq;clear hc;refine wK ?_;refine Wp.seq ?_;refine wR pI ir ?_ ?_
  ·omega
  refine wC ir (λhc=>?_) (λhc=>?_)
  ·have h:bt s (k:Nat)=92:=by simpa using hc
   rw[if_pos h]at hq;clear hc;refine vR pI (aa ir wk) ?_;by_cases hk1:k+1<s.size
   ·have e1:decide (((k+1:Nat):Int)<((s.size:Nat):Int))=true:=by simp;omega
    refine wR pI (aa ir e1) ?_ ?_
    ·omega
    refine wC ir (λhc=>?_) (λhc=>?_)
    ·have hp:uw (bt s ((k+1:Nat):Int))=false:=by simpa using hc
     rw[if_pos ⟨hk1,hp⟩]at hq;rw[<- hq];refine vR pI ir ?_;refine wZ ir ?_;exact λE=>rfl
    have hp:¬ uw (bt s ((k+1:Nat):Int))=false:=by simpa using hc
    rw[if_neg λg=>hp g.2]at hq;refine wK ?_;refine vr pI (aa ir wk2) ?_;refine⟨(n,k+2),⟨⟨by dsimp only;omega,by dsimp only;omega⟩,by dsimp only;omega,hq⟩,by dsimp only;omega,?_⟩;exact wM (λk=>.key k) ir
   ·have e1:decide (((k+1:Nat):Int)<((s.size:Nat):Int))=false:=by simp;omega
    rw[if_neg λg=>hk1 g.1]at hq;refine wR pI (aa ir e1) ?_ ?_
    ·exact λh=>by cases h
    refine wC ir (λhc=>?_) (λhc=>?_)
    ·exact absurd hc sI
    refine wK ?_;refine vr pI (aa ir wk2) ?_;refine⟨(n,k+2),⟨⟨by dsimp only;omega,by dsimp only;omega⟩,by dsimp only;omega,hq⟩,by dsimp only;omega,?_⟩;exact wM (λk=>.key k) ir
  ·have h:¬ bt s (k:Nat)=92:=by simpa using hc
   rw[if_neg h]at hq;refine wK ?_;refine vr pI (aa ir wk) ?_;refine⟨(n,k+1),⟨⟨by dsimp only;omega,by dsimp only;omega⟩,by dsimp only;omega,hq⟩,by dsimp only;omega,?_⟩;exact wM (λk=>.key k) ir
 ·have hge:s.size<=k:=by
   simp at hc;omega
  have hv:NL s i=(dJ,0,52,i):=by
   rw[<- g4];cases n with
   |zero=>rfl
   |succ n=>rw[VP,if_neg oM]
  rw[hv];refine wE ?_;refine vR pI ir ?_;refine wZ ir ?_;exact λE=>rfl
def rxC:aM prog 136 where
 pre:=λW bs as_=>∃ (s:ByteArray) (i:Nat),as_=[.val (.string s),.val (.int .i64 (i:Nat))]/\i<s.size/\s.size<=4096
 res:=λ_ as_=>match as_ with
  |[.val (.string s),.val (.int _ i)]=>pcV (NL s i.toNat)
  |_=>undef
 enters:=call136
 ok:=by
  intro W w bs us as_ hk hu hp;obtain⟨s,i,rfl,h1,h2⟩:=hp
  match us,hu with
  |[x,y],hu=>
   obtain⟨rfl,rfl,_⟩:=hu;exact ajO s i h1 h2 w
theorem aea(W:World)(bs:List Nat)(s:ByteArray)(i:Nat):rxC.pre W bs [.val (.string s),.val (.int .i64 (i:Nat))]=(i<s.size/\s.size<=4096):=
 propext ⟨λ⟨s',i',h,h2⟩=>by
  simp only[List.cons.injEq,AV.val.injEq,Value.string.injEq,Value.int.injEq,true_and,and_true]at h
  obtain⟨rfl,h⟩:=h
  obtain rfl:i=i' := oM
  exact h2,λh=>⟨s,i,rfl,h⟩⟩
theorem adQ(W:World)(s:ByteArray)(i:Nat):rxC.res W [.val (.string s),.val (.int .i64 (i:Nat))]=pcV (NL s i):=by
 show pcV (NL s ((i:Int)).toNat)=_;rw[Int.toNat_natCast]
def S0:aM prog 132 where
 pre:=λW bs as_=>∃ (s:ByteArray) (i:Nat),as_=[.val (.string s),.val (.int .i64 (i:Nat))]/\i<=s.size/\s.size<=4096
 res:=λ_ as_=>match as_ with
  |[.val (.string s),.val (.int _ i)]=>.int .i64 (qn s i.toNat:Nat)
  |_=>undef
 enters:=call132
 ok:=by
  intro W w bs us as_ hk hu hp;obtain⟨s,i,rfl,h1,h2⟩:=hp
  match us,hu with
  |[x,y],hu=>
   obtain⟨rfl,rfl,_⟩:=hu;exact abH s i h1 oM w
theorem Je(W:World)(bs:List Nat)(s:ByteArray)(i:Nat):S0.pre W bs [.val (.string s),.val (.int .i64 (i:Nat))]=(i<=s.size/\s.size<=4096):=
 propext ⟨λ⟨s',i',h,h2⟩=>by
  simp only[List.cons.injEq,AV.val.injEq,Value.string.injEq,Value.int.injEq,true_and,and_true]at h
  obtain⟨rfl,h⟩:=h
  obtain rfl:i=i' := oM
  exact h2,λh=>⟨s,i,rfl,h⟩⟩
theorem G6(W:World)(s:ByteArray)(i:Nat):S0.res W [.val (.string s),.val (.int .i64 (i:Nat))]=.int .i64 (qn s i:Nat):=by
 show Value.int .i64 (qn s ((i:Int)).toNat:Nat)=_;rw[Int.toNat_natCast]
theorem Q6(W:World)(bs:List Nat)(s:ByteArray):S0.pre W bs [.val (.string s),.val (.int .i64 0)]=(s.size<=4096):=by
 have h:=Je W bs s 0;rw[show ((0:Nat):Int)=0 from rfl]at h;rw[h];exact propext ⟨λh=>h.2,λh=>⟨Nat.zero_le _,h⟩⟩
theorem Sr(W:World)(s:ByteArray):S0.res W [.val (.string s),.val (.int .i64 0)]=.int .i64 (qn s 0:Nat):=G6 W s 0
theorem JU(s:ByteArray)(i:Nat):∀ n k o,(KG s i n k o).2.2.1=0->k<(KG s i n k o).2.1/\(KG s i n k o).2.1<=s.size
 |0,k,o,h=>by simp[KG]at h
 | n+1,k,o,h=>by
  have ih:=JU s i n;rw[KG]at h ⊢;by_cases hk:k<s.size
  ·rw[if_pos hk]at h ⊢;by_cases h1:bt s (k:Nat)=34
   ·rw[if_pos h1];exact⟨Nat.lt_succ_self _,hk⟩
   rw[if_neg h1]at h ⊢;by_cases h2:uw (bt s (k:Nat))=false
   ·rw[if_pos h2]at h;simp at h
   rw[if_neg h2]at h ⊢;by_cases h3:¬ bt s (k:Nat)=92
   ·rw[if_pos h3]at h ⊢;have:=ih _ _ h;omega
   rw[if_neg h3]at h ⊢;by_cases h4:¬ k+1<s.size
   ·rw[if_pos h4]at h;simp at h
   rw[if_neg h4]at h ⊢;by_cases q0:bt s ((k+1:Nat):Int)=110
   ·rw[if_pos q0]at h ⊢;have:=ih _ _ h;omega
   rw[if_neg q0]at h ⊢;by_cases q1:bt s ((k+1:Nat):Int)=114
   ·rw[if_pos q1]at h ⊢;have:=ih _ _ h;omega
   rw[if_neg q1]at h ⊢;by_cases q2:bt s ((k+1:Nat):Int)=116
   ·rw[if_pos q2]at h ⊢;have:=ih _ _ h;omega
   rw[if_neg q2]at h ⊢;by_cases q3:bt s ((k+1:Nat):Int)=34\/bt s ((k+1:Nat):Int)=92
   ·rw[if_pos q3]at h ⊢;have:=ih _ _ h;omega
   rw[if_neg q3]at h ⊢;by_cases h5:bt s ((k+1:Nat):Int)=120
   ·rw[if_pos h5]at h ⊢;by_cases h6:¬ k+2<s.size
    ·rw[if_pos h6]at h;simp at h
    rw[if_neg h6]at h ⊢;by_cases h7:fz (bt s ((k+2:Nat):Int))<0
    ·rw[if_pos h7]at h;simp at h
    rw[if_neg h7]at h ⊢;by_cases h8:¬ k+3<s.size
    ·rw[if_pos h8]at h;simp at h
    rw[if_neg h8]at h ⊢;by_cases h9:fz (bt s ((k+3:Nat):Int))<0
    ·rw[if_pos h9]at h;simp at h
    rw[if_neg h9]at h ⊢;have:=ih _ _ h;omega
   ·rw[if_neg h5]at h;simp at h
  ·rw[if_neg hk]at h;simp at h
theorem Jk(s:ByteArray)(i:Nat):∀ n k,(VP s i n k).2.2.1=0->k<(VP s i n k).2.1/\(VP s i n k).2.1<=s.size
 |0,k,h=>by simp[VP]at h
 | n+1,k,h=>by
  have ih:=Jk s i n;rw[VP]at h ⊢
  repeat' (split at h<;>rename_i hh<;>(first|rw[if_pos hh]|rw[if_neg hh]))
  all_goals first
   |(exfalso;simp at h;done)
   |(have:=ih _ h;omega)
   |exact⟨Nat.lt_succ_self _,by dsimp only;omega⟩
theorem XD(s:ByteArray):∀ n k,k<=nmN s n k/\nmN s n k<=k+n
 |0,k=>⟨Nat.le_refl _,Nat.le_refl _⟩
 |n+1,k=>by
  have:=XD s n (k+1);rw[nmN];split
  ·split<;>omega
  ·omega
theorem VT{s:ByteArray}{i:Nat}(hi:i<s.size):i<GY s i/\GY s i<=s.size:=by
 have:=XD s (s.size-(i+1)) (i+1);unfold GY;omega
theorem T0{s:ByteArray}{i:Nat}(hi:i<s.size)(h:(jS s i).2.2.1=0):i<(jS s i).2.1/\(jS s i).2.1<=s.size:=by
 have hn:=VT hi;unfold jS at h ⊢
 repeat' (split at h<;>rename_i hh<;>(first|rw[if_pos hh]|rw[if_neg hh]))
 all_goals first
  |(exfalso;simp at h;done)
  |(have:=JU s i _ _ _ h;simp only[Hs];omega)
  |(have:=Jk s i _ _ h;simp only[NL];omega)
  |(simp only;omega)
def Kl(l:List Tk):List Value:=l.flatMap λt=>[.int .i64 t.1,.int .i64 (t.2.1:Nat),.string t.2.2]
theorem PA(l:List Tk)(x:Int)(y:Nat)(z:ByteArray):List.map SV.v (Kl l)++[.v (.int .i64 x),.v (.int .i64 (y:Nat)),.v (.string z)]=List.map SV.v (Kl (l++[(x,y,z)])):=by
 unfold Kl;rw[List.flatMap_append,List.map_append];rfl
noncomputable def eF:Env prog:=⟨λ| 132=>some S0.spec|133=>some yi.spec|134=>some TO.spec|135=>some qtC.spec|136=>some rxC.spec|137=>some OG.spec|_=>none,λ| _=>none,λ_ _=>none⟩
theorem Xf:eF.sp 132=some S0.spec:=rfl
theorem Xj:eF.sp 133=some yi.spec:=rfl
theorem Zp:eF.sp 134=some TO.spec:=rfl
theorem YG:eF.sp 135=some qtC.spec:=rfl
theorem U8:eF.sp 136=some rxC.spec:=rfl
theorem VM:eF.sp 137=some OG.spec:=rfl
def cu:=(aj ir Xf Xj Zp YG U8 VM (aj @G6 @Je @Sr @Q6 @wI @wQ @J2 (ur @GU @ag2 @acO @adQ @aea @Q0 @R1)))
theorem Vf(s:ByteArray)(w:World)(hz:s.size<=9223372036854775807):Calls prog 78 #[.string s] w λe w' =>
  ∃ u fp,e=.returned (.tuple #[u,.int .i64 (fU s).2.1,.int .i64 ((fU s).2.2:Nat)])/\(∀ E',a6 E' u fp w' (.row 168 3 (fU s).1.length ((Kl (fU s).1).map .v)))/\(∀ b∈fp,w.heap.size<=b/\b<w'.heap.size)/\LE.ah w [] w' := by
 refine mq (nt:=130) (λv=>.tuple #[v,.int .i64 (fU s).2.1,.int .i64 ((fU s).2.2:Nat)]) [.tmp 2,.tmp 3,.tmp 4] func78 rfl rfl rfl ?_;refine vR eF cu ?_;refine Wp.seq ?_;refine vR eF cu ?_;refine wC cu (λhc=>?_) (λhc=>?_)
 ·have h:4096<s.size:=by
   simp at hc;omega
  have e:fU s=([],1,0):=by unfold fU;rw[if_pos h]
  rw[e];refine vR eF cu ?_;refine wZ cu ?_;exact⟨.v bS,⟨dE,.inr ⟨rfl,rfl,rfl⟩⟩,λE=>rfl⟩
 have h4:s.size<=4096:=by
  simp at hc;omega
 have e0:fU s=scN s s.size (qn s 0) []:=by unfold fU;rw[if_neg oM]
 clear hc;refine wK ?_;refine vR eF cu ?_;refine wR eF cu ?_ ?_
 ·exact h4
 have hg0:=Ok (Nat.zero_le s.size);refine Wp.seq (Wp.block ?_)
 refine Wp.loop (λp:Nat×Nat×List Tk=>⟨20,bm [(0,.is (.v (.string s))),(5,.is (.hd 19)),(6,.is (.v (.int .i64 (p.2.1:Nat))))],aY [(19,.row 168 3 p.2.2.length ((Kl p.2.2).map .v))]⟩) (λp=>p.2.1<=s.size/\p.2.2.length<=p.2.1/\s.size<=p.2.1+p.1/\scN s p.1 p.2.1 p.2.2=fU s) (λp=>p.1) (s.size,qn s 0,[]) ?_ ⟨hg0.2,Nat.zero_le _,by dsimp only;omega,e0.symm⟩ ?_
 ·exact wM (λk=>if k=19 then .nil else .key k) (bP cu @Kl.eq_1 @List.flatMap_nil.{0,0})
 rintro⟨n,i,l⟩ ⟨g1,g2,g3,g4⟩;dsimp only at g1 g2 g3 g4 ⊢;refine Wp.seq ?_;refine vR eF cu ?_;refine wC cu (λhc=>?_) (λhc=>?_)
 ·have hlt:i<s.size:=by
   simp at hc;omega
  clear hc;obtain⟨n,rfl⟩:∃ n',n=n' + 1:=⟨n-1,oM⟩;rw[scN,if_pos hlt]at g4;have hnext:=T0 hlt;have wi:IntKind.i64.wrap ((i:Int)+1)=((i+1:Nat):Int):=wW;have wi2:IntKind.i64.wrap ((i:Int)+2)=((i+2:Nat):Int):=wW;refine wK ?_;refine Wp.block ?_;refine wR eF cu ?_ ?_
  ·omega
  refine vR eF cu ?_;refine vR eF (aa cu wi) ?_
  refine aV ⟨80,bm [(0,.is (.v (.string s))),(5,.is (.hd 19)),(6,.is (.v (.int .i64 (i:Nat)))),(8,.is (.own 24 0)),(9,.is (.v (.int .i64 ((jS s i).2.1:Nat)))),(10,.is (.v (.int .i64 (jS s i).2.2.1))),(11,.is (.v (.int .i64 ((jS s i).2.2.2:Nat))))],aY [(19,.row 168 3 l.length ((Kl l).map .v)),(24,.cells 168 [.v (.int .i64 (jS s i).1.1),.v (.int .i64 ((jS s i).1.2.1:Nat)),.v (.string (jS s i).1.2.2)])]⟩ ?_ ?_
  ·skip;refine vR eF cu ?_;refine wC cu (λhc=>?_) (λhc=>?_)
   ·have hL:Mh (bt s (i:Nat))=true:=hc;clear hc;have hT:jS s i=if 32<GY s i-i then ((0,0,dJ),0,1,i) else ((1,i,s.extract i (GY s i)),GY s i,0,0):=by unfold jS;rw[if_pos hL]
    have hnm:=VT hlt;have wni:IntKind.i64.wrap (((GY s i:Nat):Int)-((i:Nat):Int))=((GY s i-i:Nat):Int):=wW;refine Wp.seq (Wp.block ?_)
    refine Wp.loop (λp:Nat×Nat=>⟨60,bm [(0,.is (.v (.string s))),(5,.is (.hd 19)),(6,.is (.v (.int .i64 (i:Nat)))),(8,.is (.own 24 0)),(9,.is (.v (.int .i64 (p.2:Nat)))),(10,.is (.v (.int .i64 0))),(11,.is (.v (.int .i64 0)))],aY [(19,.row 168 3 l.length ((Kl l).map .v)),(24,.cells 168 [.v (.int .i64 0),.v (.int .i64 (i:Nat)),.v (.string ⟨#[]⟩)])]⟩) (λp=>(i+1<=p.2/\p.2<=s.size)/\s.size<=p.2+p.1/\nmN s p.1 p.2=GY s i) (λp=>p.1) (s.size-(i+1),i+1) ?_ ⟨⟨Nat.le_refl _,hlt⟩,by dsimp only;omega,rfl⟩ ?_
    ·exact wM (λk=>if k=24 then .key 240 else .key k) cu
    rintro⟨m,k⟩ ⟨⟨e1,e2⟩,e3,e4⟩;dsimp only at e1 e2 e3 e4 ⊢;have wk:IntKind.i64.wrap ((k:Int)+1)=((k+1:Nat):Int):=wW;refine Wp.seq ?_;by_cases hk:k<s.size
    ·have hd:decide (((k:Nat):Int)<((s.size:Nat):Int))=true:=by simp;omega
     obtain⟨m,rfl⟩:∃ m',m=m' + 1:=⟨m-1,oM⟩;rw[nmN,if_pos hk]at e4;refine wR eF (aa cu hd) ?_ ?_
     ·exact⟨oM,λ_=>by omega⟩
     refine wC cu (λhc=>?_) (λhc=>?_)
     ·have hn:nmB (bt s (k:Nat))=true:=by
       unfold nmB;simpa using hc
      rw[if_pos hn]at e4;refine wK ?_;refine Wp.block ?_;refine vr eF (aa cu wk) ?_;refine⟨(m,k+1),⟨⟨by dsimp only;omega,by dsimp only;omega⟩,by dsimp only;omega,e4⟩,by dsimp only;omega,?_⟩;exact wM (λk=>.key k) cu
     ·have hn:¬ nmB (bt s (k:Nat))=true:=by
       unfold nmB;simpa using hc
      rw[if_neg hn]at e4;subst e4;refine wE ?_;refine Wp.seq ?_;refine vR eF (aa cu wni) ?_;refine wC cu (λhc=>?_) (λhc=>?_)
      ·have h32:32<GY s i-i:=by
        simp at hc;omega
       rw[if_pos h32]at hT;rw[hT]at g4;simp only at g4;rw[if_neg oM]at g4;rw[<- g4];refine vR eF cu ?_;refine wZ cu ?_;exact⟨.v bS,⟨dE,.inr ⟨rfl,rfl,rfl⟩⟩,λE=>rfl⟩
      ·have h32:¬ 32<GY s i-i:=by
        simp at hc;omega
       rw[if_neg h32]at hT;rw[hT];refine wK ?_;refine vZ eF cu ?_ ?_
       ·exact⟨oM,oM,oM⟩
       exact wM (λk=>.key k) (aa cu (show ((0:Nat):Int)=0 from rfl))
    ·have hd:decide (((k:Nat):Int)<((s.size:Nat):Int))=false:=by simp;omega
     have e4:k=GY s i:=by
      rw[<- e4];cases m with
      |zero=>rfl
      |succ m=>rw[nmN,if_neg hk]
     subst e4;refine wR eF (aa cu hd) ?_ ?_
     ·exact⟨(λh=>by cases h),λh=>by cases h⟩
     refine wC cu (λhc=>?_) (λhc=>?_)
     ·exact absurd hc sI
     refine wE ?_;refine Wp.seq ?_;refine vR eF (aa cu wni) ?_;refine wC cu (λhc=>?_) (λhc=>?_)
     ·have h32:32<GY s i-i:=by
       simp at hc;omega
      rw[if_pos h32]at hT;rw[hT]at g4;simp only at g4;rw[if_neg oM]at g4;rw[<- g4];refine vR eF cu ?_;refine wZ cu ?_;exact⟨.v bS,⟨dE,.inr ⟨rfl,rfl,rfl⟩⟩,λE=>rfl⟩
     ·have h32:¬ 32<GY s i-i:=by
       simp at hc;omega
      rw[if_neg h32]at hT;rw[hT];refine wK ?_;refine vZ eF cu ?_ ?_
      ·exact⟨oM,oM,oM⟩
      exact wM (λk=>.key k) (aa cu (show ((0:Nat):Int)=0 from rfl))
   have hL:¬ Mh (bt s (i:Nat))=true:=by rw[hc];simp
   clear hc;refine vR eF cu ?_;refine wC cu (λhc=>?_) (λhc=>?_)
   ·have h34:bt s (i:Nat)=34:=by simpa using hc
    have hT:jS s i=((2,i,(Hs s i).1),(Hs s i).2.1,(Hs s i).2.2.1,(Hs s i).2.2.2):=by unfold jS;rw[if_neg hL,if_pos h34]
    rw[hT];refine vR eF cu ?_;refine wr eF (aa cu @pcV.eq_1) ?_ ?_
    ·exact⟨hlt,h4⟩
    exact wM (λk=>if k=24 then .key 240 else .key k) cu
   have h34:¬ bt s (i:Nat)=34:=by simpa using hc
   clear hc;refine vR eF cu ?_;refine wC cu (λhc=>?_) (λhc=>?_)
   ·have h47:bt s (i:Nat)=47:=by simpa using hc
    have hT:jS s i=((3,i,(NL s i).1),(NL s i).2.1,(NL s i).2.2.1,(NL s i).2.2.2):=by unfold jS;rw[if_neg hL,if_neg h34,if_pos h47]
    rw[hT];refine vR eF cu ?_;refine wr eF (aa cu @pcV.eq_1) ?_ ?_
    ·exact⟨hlt,h4⟩
    exact wM (λk=>if k=24 then .key 240 else .key k) cu
   have h47:¬ bt s (i:Nat)=47:=by simpa using hc
   clear hc;refine vR eF cu ?_;refine wC cu (λhc=>?_) (λhc=>?_)
   ·have hmk:B2 (bt s (i:Nat))=true:=hc;have hT:jS s i=((4,i,s.extract i (i+1)),i+1,0,0):=by unfold jS;rw[if_neg hL,if_neg h34,if_neg h47,if_pos hmk]
    rw[hT];refine vZ eF (aa cu wi) ?_ ?_
    ·exact⟨oM,oM,oM⟩
    exact wM (λk=>if k=24 then .key 240 else .key k) (aa cu (show ((0:Nat):Int)=0 from rfl))
   have hmk:¬ B2 (bt s (i:Nat))=true:=by rw[hc];simp
   clear hc;have hT:jS s i=if bt s (i:Nat)=62/\i+1<s.size/\bt s ((i+1:Nat):Int)=62 then ((4,i,⟨#[62,62]⟩),i+2,0,0) else ((0,0,dJ),0,50,i):=by unfold jS;rw[if_neg hL,if_neg h34,if_neg h47,if_neg hmk]
   refine wR eF (aa cu wi) ?_ ?_
   ·intro h;simp only[Bool.and_eq_true,decide_eq_true_eq]at h;omega
   refine wC cu (λhc=>?_) (λhc=>?_)
   ·have h:bt s (i:Nat)=62/\i+1<s.size/\bt s ((i+1:Nat):Int)=62:=by
     simp only[Bool.and_eq_true,decide_eq_true_eq]at hc;omega
    rw[if_pos h]at hT;rw[hT];refine vR eF (aa cu wi2) ?_;refine vr eF cu ?_;exact wM (λk=>if k=24 then .key 240 else .key k) (aa cu (show ((0:Nat):Int)=0 from rfl))
   ·have h:¬ (bt s (i:Nat)=62/\i+1<s.size/\bt s ((i+1:Nat):Int)=62):=by
     simp only[Bool.and_eq_false_iff,decide_eq_false_iff_not]at hc;omega
    rw[if_neg h]at hT;rw[hT]at g4;simp only at g4;rw[if_neg oM]at g4;rw[<- g4];refine vR eF cu ?_;refine wZ cu ?_;exact⟨.v bS,⟨dE,.inr ⟨rfl,rfl,rfl⟩⟩,λE=>rfl⟩
  ·clear wi wi2;generalize jS s i=t at *;obtain⟨⟨tk,ta,tt⟩,nx,e,at_⟩:=t;dsimp only at g4 hnext ⊢;refine Wp.seq ?_;refine vR eF cu ?_;refine wC cu (λhc=>?_) (λhc=>?_)
   ·have he:¬ e=0:=by simpa using hc
    rw[if_neg he]at g4;rw[<- g4];refine vR eF cu ?_;refine wZ cu ?_;exact⟨.v bS,⟨dE,.inr ⟨rfl,rfl,rfl⟩⟩,λE=>rfl⟩
   have he:e=0:=by simpa using hc
   rw[if_pos he]at g4;obtain⟨x1,x2⟩:=hnext he;have hgp:=Ok x2;have ha:=PA l tk ta tt;have hz:(l++[(tk,ta,tt)]).length=l.length+1:=by rw[List.length_append];rfl
   refine wK ?_;refine wR eF (aa cu ha) ?_ ?_
   ·exact⟨by unfold maxLen;omega,oM⟩
   refine wr eF cu ?_ ?_
   ·exact⟨x2,h4⟩
   refine⟨(n,qn s nx,l++[(tk,ta,tt)]),⟨hgp.2,by dsimp only;omega,by dsimp only;omega,g4⟩,by dsimp only;omega,?_⟩;exact wM (λk=>if k=19 then .key 680 else .key k) (aa cu hz)
 ·have hge:s.size<=i:=by
   simp at hc;omega
  have hv:fU s=(l++[(0,s.size,dJ)],0,0):=by
   rw[<- g4];cases n with
   |zero=>rfl
   |succ n=>rw[scN,if_neg oM]
  have ha:=PA l 0 s.size dJ;have hz:(l++[((0:Int),s.size,dJ)]).length=l.length+1:=by rw[List.length_append];rfl
  rw[hv];refine wE ?_;refine wR eF cu ?_ ?_
  ·exact⟨by unfold maxLen;omega,oM⟩
  refine wZ cu ?_;exact⟨_,⟨dE,.inl ⟨_,rfl,by rw[hz,<- ha];rfl⟩⟩,λE=>rfl⟩
end
end Go.Proofs.YtnemkecffmdlnaaGreatDoor
namespace Go.Proofs
section
open Go.Shelf
def Tryz.Jr:Go.Shelf.Ren:=⟨λ| 137=>138|217=>189|266=>231|n=>n,λ| 9=>9|5=>5|3=>3|n=>n,λ| n=>n⟩
theorem Tryz.adt:Go.Proofs.Lays.n137 Tryz.prog Tryz.Jr:={
 mixed:=by kernel_rfl
 f137:=Tryz.func138.trans (congrArg some (by kernel_rfl))
 f217:=Tryz.func189.trans (congrArg some (by kernel_rfl))
 f266:=Tryz.func231.trans (congrArg some (by kernel_rfl))
 t3:=Tryz.underlying3
 a3:=Tryz.isAgg3
 z3:=Tryz.sizeOf3
 v3:=Tryz.zeroValue3
 t5:=Tryz.underlying5
 a5:=Tryz.isAgg5
 z5:=Tryz.sizeOf5
 v5:=Tryz.zeroValue5
 t9:=Tryz.underlying9
 a9:=Tryz.isAgg9
 z9:=Tryz.sizeOf9
 v9:=Tryz.zeroValue9 }
def Tryz.EC:Go.Shelf.Ren:=⟨λ| 245=>193|279=>234|280=>235|281=>236|282=>237|316=>256|171=>39|205=>257|243=>76|246=>131|283=>183|284=>184|285=>185|286=>186|129=>227|317=>226|318=>228|319=>229|320=>230|337=>254|338=>255|n=>n,λ| 9=>9|3=>3|75=>93|167=>339|4=>4|168=>341|210=>359|37=>89|0=>0|127=>162|145=>367|143=>365|2=>2|171=>313|53=>203|5=>5|173=>316|212=>334|51=>335|20=>20|213=>336|46=>158|232=>363|233=>364|80=>100|n=>n,λ| 15=>5|16=>6|17=>3|18=>7|19=>8|n=>n⟩
theorem Tryz.Vm:Go.Proofs.LaysC.n245 Tryz.prog Tryz.EC:={
 mixed:=by kernel_rfl
 f129:=Tryz.func227.trans (congrArg some (by kernel_rfl))
 f171:=Tryz.func39.trans (congrArg some (by kernel_rfl))
 f205:=Tryz.func257.trans (congrArg some (by kernel_rfl))
 f243:=Tryz.func76.trans (congrArg some (by kernel_rfl))
 f245:=Tryz.func193.trans (congrArg some (by kernel_rfl))
 f246:=Tryz.func131.trans (congrArg some (by kernel_rfl))
 f279:=Tryz.func234.trans (congrArg some (by kernel_rfl))
 f280:=Tryz.func235.trans (congrArg some (by kernel_rfl))
 f281:=Tryz.func236.trans (congrArg some (by kernel_rfl))
 f282:=Tryz.func237.trans (congrArg some (by kernel_rfl))
 f283:=Tryz.func183.trans (congrArg some (by kernel_rfl))
 f284:=Tryz.func184.trans (congrArg some (by kernel_rfl))
 f285:=Tryz.func185.trans (congrArg some (by kernel_rfl))
 f286:=Tryz.func186.trans (congrArg some (by kernel_rfl))
 f316:=Tryz.func256.trans (congrArg some (by kernel_rfl))
 f317:=Tryz.func226.trans (congrArg some (by kernel_rfl))
 f318:=Tryz.func228.trans (congrArg some (by kernel_rfl))
 f319:=Tryz.func229.trans (congrArg some (by kernel_rfl))
 f320:=Tryz.func230.trans (congrArg some (by kernel_rfl))
 f337:=Tryz.func254.trans (congrArg some (by kernel_rfl))
 f338:=Tryz.func255.trans (congrArg some (by kernel_rfl))
 t0:=Tryz.underlying0
 a0:=Tryz.isAgg0
 z0:=Tryz.sizeOf0
 v0:=Tryz.zeroValue0
 t2:=Tryz.underlying2
 a2:=Tryz.isAgg2
 z2:=Tryz.sizeOf2
 v2:=Tryz.zeroValue2
 t3:=Tryz.underlying3
 a3:=Tryz.isAgg3
 z3:=Tryz.sizeOf3
 v3:=Tryz.zeroValue3
 t4:=Tryz.underlying4
 a4:=Tryz.isAgg4
 z4:=Tryz.sizeOf4
 v4:=Tryz.zeroValue4
 t5:=Tryz.underlying5
 a5:=Tryz.isAgg5
 z5:=Tryz.sizeOf5
 v5:=Tryz.zeroValue5
 t9:=Tryz.underlying9
 a9:=Tryz.isAgg9
 z9:=Tryz.sizeOf9
 v9:=Tryz.zeroValue9
 t20:=Tryz.underlying20
 a20:=Tryz.isAgg20
 z20:=Tryz.sizeOf20
 v20:=Tryz.zeroValue20
 t37:=Tryz.underlying89
 a37:=Tryz.isAgg89
 z37:=Tryz.sizeOf89
 v37:=Tryz.zeroValue89
 t46:=Tryz.underlying158
 a46:=Tryz.isAgg158
 z46:=Tryz.sizeOf158
 v46:=Tryz.zeroValue158
 t51:=Tryz.underlying335
 a51:=Tryz.isAgg335
 z51:=Tryz.sizeOf335
 v51:=Tryz.zeroValue335
 t53:=Tryz.underlying203
 a53:=Tryz.isAgg203
 z53:=Tryz.sizeOf203
 v53:=Tryz.zeroValue203
 t75:=Tryz.underlying93
 a75:=Tryz.isAgg93
 z75:=Tryz.sizeOf93
 v75:=Tryz.zeroValue93
 t127:=Tryz.underlying162
 a127:=Tryz.isAgg162
 z127:=Tryz.sizeOf162
 v127:=Tryz.zeroValue162
 t143:=Tryz.underlying365
 a143:=Tryz.isAgg365
 z143:=Tryz.sizeOf365
 v143:=Tryz.zeroValue365
 t145:=Tryz.underlying367
 a145:=Tryz.isAgg367
 z145:=Tryz.sizeOf367
 v145:=Tryz.zeroValue367
 t167:=Tryz.underlying339
 a167:=Tryz.isAgg339
 z167:=Tryz.sizeOf339
 v167:=Tryz.zeroValue339
 t168:=Tryz.underlying341
 a168:=Tryz.isAgg341
 z168:=Tryz.sizeOf341
 v168:=Tryz.zeroValue341
 t171:=Tryz.underlying313
 a171:=Tryz.isAgg313
 z171:=Tryz.sizeOf313
 v171:=Tryz.zeroValue313
 t173:=Tryz.underlying316
 a173:=Tryz.isAgg316
 z173:=Tryz.sizeOf316
 v173:=Tryz.zeroValue316
 t210:=Tryz.underlying359
 a210:=Tryz.isAgg359
 z210:=Tryz.sizeOf359
 v210:=Tryz.zeroValue359
 t212:=Tryz.underlying334
 a212:=Tryz.isAgg334
 z212:=Tryz.sizeOf334
 v212:=Tryz.zeroValue334
 t213:=Tryz.underlying336
 a213:=Tryz.isAgg336
 z213:=Tryz.sizeOf336
 t232:=Tryz.underlying363
 a232:=Tryz.isAgg363
 z232:=Tryz.sizeOf363
 v232:=Tryz.zeroValue363
 t233:=Tryz.underlying364
 a233:=Tryz.isAgg364
 z233:=Tryz.sizeOf364
 v233:=Tryz.zeroValue364
 g15:=by kernel_rfl
 g16:=by kernel_rfl
 g17:=by kernel_rfl
 g18:=by kernel_rfl
 g19:=by kernel_rfl
 t80:=Tryz.underlying100
 a80:=Tryz.isAgg100
 z80:=Tryz.sizeOf100
 v80:=Tryz.zeroValue100
 i0:=by kernel_rfl
 i2:=by kernel_rfl
 i3:=by kernel_rfl
 i4:=by kernel_rfl
 i5:=by kernel_rfl
 i9:=by kernel_rfl
 i20:=by kernel_rfl
 i37:=by kernel_rfl
 i46:=by kernel_rfl
 i51:=by kernel_rfl
 i53:=by kernel_rfl
 i75:=by kernel_rfl
 i80:=by kernel_rfl
 i127:=by kernel_rfl
 i143:=by kernel_rfl
 i145:=by kernel_rfl
 i167:=by kernel_rfl
 i168:=by kernel_rfl
 i171:=by kernel_rfl
 i173:=by kernel_rfl
 i210:=by kernel_rfl
 i212:=by kernel_rfl
 i232:=by kernel_rfl
 i233:=by kernel_rfl
 m15:=by kernel_rfl
 m16:=by kernel_rfl
 m17:=by kernel_rfl
 m18:=by kernel_rfl
 m19:=by kernel_rfl
 c0:=by kernel_rfl
 c2:=by kernel_rfl
 c3:=by kernel_rfl
 c4:=by kernel_rfl
 c5:=by kernel_rfl
 c9:=by kernel_rfl
 c20:=by kernel_rfl
 c37:=by kernel_rfl
 c46:=by kernel_rfl
 c51:=by kernel_rfl
 c53:=by kernel_rfl
 c75:=by kernel_rfl
 c80:=by kernel_rfl
 c127:=by kernel_rfl
 c143:=by kernel_rfl
 c145:=by kernel_rfl
 c167:=by kernel_rfl
 c168:=by kernel_rfl
 c171:=by kernel_rfl
 c173:=by kernel_rfl
 c210:=by kernel_rfl
 c212:=by kernel_rfl
 c213:=by kernel_rfl
 c232:=by kernel_rfl
 c233:=by kernel_rfl }
def Tryz.I3:Go.Shelf.Ren:=⟨λ| 103=>80|210=>139|206=>190|n=>n,λ| 9=>9|4=>4|24=>103|3=>3|n=>n,λ| n=>n⟩
theorem Tryz.aeb:Go.Proofs.Lays.n103 Tryz.prog Tryz.I3:={
 mixed:=by kernel_rfl
 f103:=Tryz.func80.trans (congrArg some (by kernel_rfl))
 f206:=Tryz.func190.trans (congrArg some (by kernel_rfl))
 f210:=Tryz.func139.trans (congrArg some (by kernel_rfl))
 t3:=Tryz.underlying3
 a3:=Tryz.isAgg3
 z3:=Tryz.sizeOf3
 v3:=Tryz.zeroValue3
 t4:=Tryz.underlying4
 a4:=Tryz.isAgg4
 z4:=Tryz.sizeOf4
 v4:=Tryz.zeroValue4
 t9:=Tryz.underlying9
 a9:=Tryz.isAgg9
 z9:=Tryz.sizeOf9
 v9:=Tryz.zeroValue9
 t24:=Tryz.underlying103
 a24:=Tryz.isAgg103
 z24:=Tryz.sizeOf103
 v24:=Tryz.zeroValue103 }
def Tryz.Kf:Go.Shelf.Ren:=⟨λ| 104=>81|211=>140|207=>191|n=>n,λ| 9=>9|4=>4|24=>103|3=>3|n=>n,λ| n=>n⟩
theorem Tryz.ac8:Go.Proofs.Lays.n104 Tryz.prog Tryz.Kf:={
 mixed:=by kernel_rfl
 f104:=Tryz.func81.trans (congrArg some (by kernel_rfl))
 f207:=Tryz.func191.trans (congrArg some (by kernel_rfl))
 f211:=Tryz.func140.trans (congrArg some (by kernel_rfl))
 t3:=Tryz.underlying3
 a3:=Tryz.isAgg3
 z3:=Tryz.sizeOf3
 v3:=Tryz.zeroValue3
 t4:=Tryz.underlying4
 a4:=Tryz.isAgg4
 z4:=Tryz.sizeOf4
 v4:=Tryz.zeroValue4
 t9:=Tryz.underlying9
 a9:=Tryz.isAgg9
 z9:=Tryz.sizeOf9
 v9:=Tryz.zeroValue9
 t24:=Tryz.underlying103
 a24:=Tryz.isAgg103
 z24:=Tryz.sizeOf103
 v24:=Tryz.zeroValue103 }
def Tryz.Jp:Go.Shelf.Ren:=⟨λ| 143=>85|219=>144|217=>189|225=>197|224=>198|267=>199|266=>231|314=>242|n=>n,λ| 9=>9|3=>3|4=>4|5=>5|46=>158|146=>348|51=>335|n=>n,λ| 1=>1|n=>n⟩
theorem Tryz.acV:Go.Proofs.Lays.n143 Tryz.prog Tryz.Jp:={
 mixed:=by kernel_rfl
 f143:=Tryz.func85.trans (congrArg some (by kernel_rfl))
 f217:=Tryz.func189.trans (congrArg some (by kernel_rfl))
 f219:=Tryz.func144.trans (congrArg some (by kernel_rfl))
 f224:=Tryz.func198.trans (congrArg some (by kernel_rfl))
 f225:=Tryz.func197.trans (congrArg some (by kernel_rfl))
 f266:=Tryz.func231.trans (congrArg some (by kernel_rfl))
 f267:=Tryz.func199.trans (congrArg some (by kernel_rfl))
 f314:=Tryz.func242.trans (congrArg some (by kernel_rfl))
 t3:=Tryz.underlying3
 a3:=Tryz.isAgg3
 z3:=Tryz.sizeOf3
 v3:=Tryz.zeroValue3
 t4:=Tryz.underlying4
 a4:=Tryz.isAgg4
 z4:=Tryz.sizeOf4
 v4:=Tryz.zeroValue4
 t5:=Tryz.underlying5
 a5:=Tryz.isAgg5
 z5:=Tryz.sizeOf5
 v5:=Tryz.zeroValue5
 t9:=Tryz.underlying9
 a9:=Tryz.isAgg9
 z9:=Tryz.sizeOf9
 v9:=Tryz.zeroValue9
 t46:=Tryz.underlying158
 a46:=Tryz.isAgg158
 z46:=Tryz.sizeOf158
 v46:=Tryz.zeroValue158
 t51:=Tryz.underlying335
 a51:=Tryz.isAgg335
 z51:=Tryz.sizeOf335
 v51:=Tryz.zeroValue335
 t146:=Tryz.underlying348
 a146:=Tryz.isAgg348
 z146:=Tryz.sizeOf348
 v146:=Tryz.zeroValue348
 g1:=by kernel_rfl }
def Tryz.Jo:Go.Shelf.Ren:=⟨λ| 146=>83|221=>142|268=>194|138=>195|143=>85|195=>238|197=>239|218=>240|219=>144|260=>258|217=>189|225=>197|224=>198|267=>199|266=>231|314=>242|n=>n,λ| 9=>9|31=>22|3=>3|4=>4|0=>0|105=>344|21=>21|5=>5|46=>158|119=>368|139=>371|138=>370|146=>348|51=>335|n=>n,λ| 1=>1|3=>9|4=>10|n=>n⟩
theorem Tryz.P9:Go.Proofs.Lays.n146 Tryz.prog Tryz.Jo:={
 mixed:=by kernel_rfl
 f138:=Tryz.func195.trans (congrArg some (by kernel_rfl))
 f143:=Tryz.func85.trans (congrArg some (by kernel_rfl))
 f146:=Tryz.func83.trans (congrArg some (by kernel_rfl))
 f195:=Tryz.func238.trans (congrArg some (by kernel_rfl))
 f197:=Tryz.func239.trans (congrArg some (by kernel_rfl))
 f217:=Tryz.func189.trans (congrArg some (by kernel_rfl))
 f218:=Tryz.func240.trans (congrArg some (by kernel_rfl))
 f219:=Tryz.func144.trans (congrArg some (by kernel_rfl))
 f221:=Tryz.func142.trans (congrArg some (by kernel_rfl))
 f224:=Tryz.func198.trans (congrArg some (by kernel_rfl))
 f225:=Tryz.func197.trans (congrArg some (by kernel_rfl))
 f260:=Tryz.func258.trans (congrArg some (by kernel_rfl))
 f266:=Tryz.func231.trans (congrArg some (by kernel_rfl))
 f267:=Tryz.func199.trans (congrArg some (by kernel_rfl))
 f268:=Tryz.func194.trans (congrArg some (by kernel_rfl))
 f314:=Tryz.func242.trans (congrArg some (by kernel_rfl))
 t0:=Tryz.underlying0
 a0:=Tryz.isAgg0
 z0:=Tryz.sizeOf0
 v0:=Tryz.zeroValue0
 t3:=Tryz.underlying3
 a3:=Tryz.isAgg3
 z3:=Tryz.sizeOf3
 v3:=Tryz.zeroValue3
 t4:=Tryz.underlying4
 a4:=Tryz.isAgg4
 z4:=Tryz.sizeOf4
 v4:=Tryz.zeroValue4
 t5:=Tryz.underlying5
 a5:=Tryz.isAgg5
 z5:=Tryz.sizeOf5
 v5:=Tryz.zeroValue5
 t9:=Tryz.underlying9
 a9:=Tryz.isAgg9
 z9:=Tryz.sizeOf9
 v9:=Tryz.zeroValue9
 t21:=Tryz.underlying21
 a21:=Tryz.isAgg21
 z21:=Tryz.sizeOf21
 v21:=Tryz.zeroValue21
 t31:=Tryz.underlying22
 a31:=Tryz.isAgg22
 z31:=Tryz.sizeOf22
 v31:=Tryz.zeroValue22
 t46:=Tryz.underlying158
 a46:=Tryz.isAgg158
 z46:=Tryz.sizeOf158
 v46:=Tryz.zeroValue158
 t51:=Tryz.underlying335
 a51:=Tryz.isAgg335
 z51:=Tryz.sizeOf335
 v51:=Tryz.zeroValue335
 t105:=Tryz.underlying344
 a105:=Tryz.isAgg344
 z105:=Tryz.sizeOf344
 v105:=Tryz.zeroValue344
 t119:=Tryz.underlying368
 a119:=Tryz.isAgg368
 z119:=Tryz.sizeOf368
 t138:=Tryz.underlying370
 a138:=Tryz.isAgg370
 z138:=Tryz.sizeOf370
 v138:=Tryz.zeroValue370
 t139:=Tryz.underlying371
 a139:=Tryz.isAgg371
 z139:=Tryz.sizeOf371
 v139:=Tryz.zeroValue371
 t146:=Tryz.underlying348
 a146:=Tryz.isAgg348
 z146:=Tryz.sizeOf348
 v146:=Tryz.zeroValue348
 g1:=by kernel_rfl
 g3:=by kernel_rfl
 g4:=by kernel_rfl }
def Tryz.Fu:Go.Shelf.Ren:=⟨λ| 172=>143|244=>196|245=>193|247=>241|279=>234|280=>235|281=>236|282=>237|287=>192|316=>256|171=>39|205=>257|321=>232|322=>233|243=>76|246=>131|283=>183|284=>184|285=>185|286=>186|129=>227|317=>226|318=>228|319=>229|320=>230|337=>254|338=>255|n=>n,λ| 9=>9|3=>3|75=>93|76=>94|4=>4|5=>5|167=>339|37=>89|0=>0|85=>346|2=>2|168=>341|53=>203|175=>264|46=>158|210=>359|127=>162|145=>367|143=>365|21=>21|171=>313|173=>316|212=>334|51=>335|20=>20|213=>336|232=>363|233=>364|80=>100|n=>n,λ| 15=>5|16=>6|17=>3|18=>7|19=>8|n=>n⟩
theorem Tryz.zr:Go.Proofs.LaysC.n172 Tryz.prog Tryz.Fu:={
 mixed:=by kernel_rfl
 f129:=Tryz.func227.trans (congrArg some (by kernel_rfl))
 f171:=Tryz.func39.trans (congrArg some (by kernel_rfl))
 f172:=Tryz.func143.trans (congrArg some (by kernel_rfl))
 f205:=Tryz.func257.trans (congrArg some (by kernel_rfl))
 f243:=Tryz.func76.trans (congrArg some (by kernel_rfl))
 f244:=Tryz.func196.trans (congrArg some (by kernel_rfl))
 f245:=Tryz.func193.trans (congrArg some (by kernel_rfl))
 f246:=Tryz.func131.trans (congrArg some (by kernel_rfl))
 f247:=Tryz.func241.trans (congrArg some (by kernel_rfl))
 f279:=Tryz.func234.trans (congrArg some (by kernel_rfl))
 f280:=Tryz.func235.trans (congrArg some (by kernel_rfl))
 f281:=Tryz.func236.trans (congrArg some (by kernel_rfl))
 f282:=Tryz.func237.trans (congrArg some (by kernel_rfl))
 f283:=Tryz.func183.trans (congrArg some (by kernel_rfl))
 f284:=Tryz.func184.trans (congrArg some (by kernel_rfl))
 f285:=Tryz.func185.trans (congrArg some (by kernel_rfl))
 f286:=Tryz.func186.trans (congrArg some (by kernel_rfl))
 f287:=Tryz.func192.trans (congrArg some (by kernel_rfl))
 f316:=Tryz.func256.trans (congrArg some (by kernel_rfl))
 f317:=Tryz.func226.trans (congrArg some (by kernel_rfl))
 f318:=Tryz.func228.trans (congrArg some (by kernel_rfl))
 f319:=Tryz.func229.trans (congrArg some (by kernel_rfl))
 f320:=Tryz.func230.trans (congrArg some (by kernel_rfl))
 f321:=Tryz.func232.trans (congrArg some (by kernel_rfl))
 f322:=Tryz.func233.trans (congrArg some (by kernel_rfl))
 f337:=Tryz.func254.trans (congrArg some (by kernel_rfl))
 f338:=Tryz.func255.trans (congrArg some (by kernel_rfl))
 t0:=Tryz.underlying0
 a0:=Tryz.isAgg0
 z0:=Tryz.sizeOf0
 v0:=Tryz.zeroValue0
 t2:=Tryz.underlying2
 a2:=Tryz.isAgg2
 z2:=Tryz.sizeOf2
 v2:=Tryz.zeroValue2
 t3:=Tryz.underlying3
 a3:=Tryz.isAgg3
 z3:=Tryz.sizeOf3
 v3:=Tryz.zeroValue3
 t4:=Tryz.underlying4
 a4:=Tryz.isAgg4
 z4:=Tryz.sizeOf4
 v4:=Tryz.zeroValue4
 t5:=Tryz.underlying5
 a5:=Tryz.isAgg5
 z5:=Tryz.sizeOf5
 v5:=Tryz.zeroValue5
 t9:=Tryz.underlying9
 a9:=Tryz.isAgg9
 z9:=Tryz.sizeOf9
 v9:=Tryz.zeroValue9
 t20:=Tryz.underlying20
 a20:=Tryz.isAgg20
 z20:=Tryz.sizeOf20
 v20:=Tryz.zeroValue20
 t21:=Tryz.underlying21
 a21:=Tryz.isAgg21
 z21:=Tryz.sizeOf21
 v21:=Tryz.zeroValue21
 t37:=Tryz.underlying89
 a37:=Tryz.isAgg89
 z37:=Tryz.sizeOf89
 v37:=Tryz.zeroValue89
 t46:=Tryz.underlying158
 a46:=Tryz.isAgg158
 z46:=Tryz.sizeOf158
 v46:=Tryz.zeroValue158
 t51:=Tryz.underlying335
 a51:=Tryz.isAgg335
 z51:=Tryz.sizeOf335
 v51:=Tryz.zeroValue335
 t53:=Tryz.underlying203
 a53:=Tryz.isAgg203
 z53:=Tryz.sizeOf203
 v53:=Tryz.zeroValue203
 t75:=Tryz.underlying93
 a75:=Tryz.isAgg93
 z75:=Tryz.sizeOf93
 v75:=Tryz.zeroValue93
 t76:=Tryz.underlying94
 a76:=Tryz.isAgg94
 z76:=Tryz.sizeOf94
 v76:=Tryz.zeroValue94
 t85:=Tryz.underlying346
 a85:=Tryz.isAgg346
 z85:=Tryz.sizeOf346
 v85:=Tryz.zeroValue346
 t127:=Tryz.underlying162
 a127:=Tryz.isAgg162
 z127:=Tryz.sizeOf162
 v127:=Tryz.zeroValue162
 t143:=Tryz.underlying365
 a143:=Tryz.isAgg365
 z143:=Tryz.sizeOf365
 v143:=Tryz.zeroValue365
 t145:=Tryz.underlying367
 a145:=Tryz.isAgg367
 z145:=Tryz.sizeOf367
 v145:=Tryz.zeroValue367
 t167:=Tryz.underlying339
 a167:=Tryz.isAgg339
 z167:=Tryz.sizeOf339
 v167:=Tryz.zeroValue339
 t168:=Tryz.underlying341
 a168:=Tryz.isAgg341
 z168:=Tryz.sizeOf341
 v168:=Tryz.zeroValue341
 t171:=Tryz.underlying313
 a171:=Tryz.isAgg313
 z171:=Tryz.sizeOf313
 v171:=Tryz.zeroValue313
 t173:=Tryz.underlying316
 a173:=Tryz.isAgg316
 z173:=Tryz.sizeOf316
 v173:=Tryz.zeroValue316
 t175:=Tryz.underlying264
 a175:=Tryz.isAgg264
 z175:=Tryz.sizeOf264
 v175:=Tryz.zeroValue264
 t210:=Tryz.underlying359
 a210:=Tryz.isAgg359
 z210:=Tryz.sizeOf359
 v210:=Tryz.zeroValue359
 t212:=Tryz.underlying334
 a212:=Tryz.isAgg334
 z212:=Tryz.sizeOf334
 v212:=Tryz.zeroValue334
 t213:=Tryz.underlying336
 a213:=Tryz.isAgg336
 z213:=Tryz.sizeOf336
 t232:=Tryz.underlying363
 a232:=Tryz.isAgg363
 z232:=Tryz.sizeOf363
 v232:=Tryz.zeroValue363
 t233:=Tryz.underlying364
 a233:=Tryz.isAgg364
 z233:=Tryz.sizeOf364
 v233:=Tryz.zeroValue364
 g15:=by kernel_rfl
 g16:=by kernel_rfl
 g17:=by kernel_rfl
 g18:=by kernel_rfl
 g19:=by kernel_rfl
 t80:=Tryz.underlying100
 a80:=Tryz.isAgg100
 z80:=Tryz.sizeOf100
 v80:=Tryz.zeroValue100
 i0:=by kernel_rfl
 i2:=by kernel_rfl
 i3:=by kernel_rfl
 i4:=by kernel_rfl
 i5:=by kernel_rfl
 i9:=by kernel_rfl
 i20:=by kernel_rfl
 i21:=by kernel_rfl
 i37:=by kernel_rfl
 i46:=by kernel_rfl
 i51:=by kernel_rfl
 i53:=by kernel_rfl
 i75:=by kernel_rfl
 i76:=by kernel_rfl
 i80:=by kernel_rfl
 i85:=by kernel_rfl
 i127:=by kernel_rfl
 i143:=by kernel_rfl
 i145:=by kernel_rfl
 i167:=by kernel_rfl
 i168:=by kernel_rfl
 i171:=by kernel_rfl
 i173:=by kernel_rfl
 i175:=by kernel_rfl
 i210:=by kernel_rfl
 i212:=by kernel_rfl
 i232:=by kernel_rfl
 i233:=by kernel_rfl
 m15:=by kernel_rfl
 m16:=by kernel_rfl
 m17:=by kernel_rfl
 m18:=by kernel_rfl
 m19:=by kernel_rfl
 c0:=by kernel_rfl
 c2:=by kernel_rfl
 c3:=by kernel_rfl
 c4:=by kernel_rfl
 c5:=by kernel_rfl
 c9:=by kernel_rfl
 c20:=by kernel_rfl
 c21:=by kernel_rfl
 c37:=by kernel_rfl
 c46:=by kernel_rfl
 c51:=by kernel_rfl
 c53:=by kernel_rfl
 c75:=by kernel_rfl
 c76:=by kernel_rfl
 c80:=by kernel_rfl
 c85:=by kernel_rfl
 c127:=by kernel_rfl
 c143:=by kernel_rfl
 c145:=by kernel_rfl
 c167:=by kernel_rfl
 c168:=by kernel_rfl
 c171:=by kernel_rfl
 c173:=by kernel_rfl
 c175:=by kernel_rfl
 c210:=by kernel_rfl
 c212:=by kernel_rfl
 c213:=by kernel_rfl
 c232:=by kernel_rfl
 c233:=by kernel_rfl }
def Tryz.Hy:Go.Shelf.Ren:=⟨λ| 171=>39|243=>76|246=>131|283=>183|284=>184|285=>185|286=>186|129=>227|317=>226|318=>228|319=>229|320=>230|337=>254|338=>255|n=>n,λ| 3=>3|9=>9|2=>2|4=>4|171=>313|0=>0|53=>203|37=>89|5=>5|173=>316|212=>334|51=>335|20=>20|213=>336|46=>158|232=>363|233=>364|n=>n,λ| 17=>3|18=>7|19=>8|n=>n⟩
theorem Tryz.Ps:Go.Proofs.LaysM.n171 Tryz.prog Tryz.Hy:={
 mixed:=by kernel_rfl
 f129:=Tryz.func227.trans (congrArg some (by kernel_rfl))
 f171:=Tryz.func39.trans (congrArg some (by kernel_rfl))
 f243:=Tryz.func76.trans (congrArg some (by kernel_rfl))
 f246:=Tryz.func131.trans (congrArg some (by kernel_rfl))
 f283:=Tryz.func183.trans (congrArg some (by kernel_rfl))
 f284:=Tryz.func184.trans (congrArg some (by kernel_rfl))
 f285:=Tryz.func185.trans (congrArg some (by kernel_rfl))
 f286:=Tryz.func186.trans (congrArg some (by kernel_rfl))
 f317:=Tryz.func226.trans (congrArg some (by kernel_rfl))
 f318:=Tryz.func228.trans (congrArg some (by kernel_rfl))
 f319:=Tryz.func229.trans (congrArg some (by kernel_rfl))
 f320:=Tryz.func230.trans (congrArg some (by kernel_rfl))
 f337:=Tryz.func254.trans (congrArg some (by kernel_rfl))
 f338:=Tryz.func255.trans (congrArg some (by kernel_rfl))
 t0:=Tryz.underlying0
 a0:=Tryz.isAgg0
 z0:=Tryz.sizeOf0
 v0:=Tryz.zeroValue0
 t2:=Tryz.underlying2
 a2:=Tryz.isAgg2
 z2:=Tryz.sizeOf2
 v2:=Tryz.zeroValue2
 t3:=Tryz.underlying3
 a3:=Tryz.isAgg3
 z3:=Tryz.sizeOf3
 v3:=Tryz.zeroValue3
 t4:=Tryz.underlying4
 a4:=Tryz.isAgg4
 z4:=Tryz.sizeOf4
 v4:=Tryz.zeroValue4
 t5:=Tryz.underlying5
 a5:=Tryz.isAgg5
 z5:=Tryz.sizeOf5
 v5:=Tryz.zeroValue5
 t9:=Tryz.underlying9
 a9:=Tryz.isAgg9
 z9:=Tryz.sizeOf9
 v9:=Tryz.zeroValue9
 t20:=Tryz.underlying20
 a20:=Tryz.isAgg20
 z20:=Tryz.sizeOf20
 v20:=Tryz.zeroValue20
 t37:=Tryz.underlying89
 a37:=Tryz.isAgg89
 z37:=Tryz.sizeOf89
 v37:=Tryz.zeroValue89
 t46:=Tryz.underlying158
 a46:=Tryz.isAgg158
 z46:=Tryz.sizeOf158
 v46:=Tryz.zeroValue158
 t51:=Tryz.underlying335
 a51:=Tryz.isAgg335
 z51:=Tryz.sizeOf335
 v51:=Tryz.zeroValue335
 t53:=Tryz.underlying203
 a53:=Tryz.isAgg203
 z53:=Tryz.sizeOf203
 v53:=Tryz.zeroValue203
 t171:=Tryz.underlying313
 a171:=Tryz.isAgg313
 z171:=Tryz.sizeOf313
 v171:=Tryz.zeroValue313
 t173:=Tryz.underlying316
 a173:=Tryz.isAgg316
 z173:=Tryz.sizeOf316
 v173:=Tryz.zeroValue316
 t212:=Tryz.underlying334
 a212:=Tryz.isAgg334
 z212:=Tryz.sizeOf334
 v212:=Tryz.zeroValue334
 t213:=Tryz.underlying336
 a213:=Tryz.isAgg336
 z213:=Tryz.sizeOf336
 t232:=Tryz.underlying363
 a232:=Tryz.isAgg363
 z232:=Tryz.sizeOf363
 v232:=Tryz.zeroValue363
 t233:=Tryz.underlying364
 a233:=Tryz.isAgg364
 z233:=Tryz.sizeOf364
 v233:=Tryz.zeroValue364
 g17:=by kernel_rfl
 g18:=by kernel_rfl
 g19:=by kernel_rfl
 i0:=by kernel_rfl
 i2:=by kernel_rfl
 i3:=by kernel_rfl
 i4:=by kernel_rfl
 i5:=by kernel_rfl
 i9:=by kernel_rfl
 i20:=by kernel_rfl
 i37:=by kernel_rfl
 i46:=by kernel_rfl
 i51:=by kernel_rfl
 i53:=by kernel_rfl
 i171:=by kernel_rfl
 i173:=by kernel_rfl
 i212:=by kernel_rfl
 i232:=by kernel_rfl
 i233:=by kernel_rfl
 m17:=by kernel_rfl
 m18:=by kernel_rfl
 m19:=by kernel_rfl }
end
end Go.Proofs
namespace Go.Proofs.YtnemkecffmdlnaaGreatDoor
section
open Go.RowKit Go.LE Go.Proofs.Tryz
set_option maxRecDepth 10000
theorem nI(S T:CS)(h:nj S=nj T):S=T:=by
 have h:gI S.getLsbD=gI T.getLsbD:=congrArg (λv=>match v with|Value.agg a=>a.toList|_=>[]) h;apply BitVec.eq_of_getLsbD_eq;intro i hi;have h1:=mf S.getLsbD i hi;rw[h,mf T.getLsbD i hi]at h1;simpa using h1.symm
def lB:=(aj @an @ab jk jn gR ck cf (aj b9 b8 ca cc cg cd fu (aj fh fy ft fB dc df dh (aj db cY c8 DT Dq DD Cq (aj @aG @al @ax @aw @mP @dN @lO (eS @nv @mm @aA @iX))))))
theorem La(S:CS)(w:World):Calls prog 203 #[nj S] w λe w' => e=.returned (.int .i64 (j1 S:Nat))/\ah w [] w' := by
 refine af (nt:=15) [.tmp 2] func203 rfl rfl rfl ?_;refine vR Γ0 (aa lB @nj.eq_1) ?_;refine vR Γ0 lB ?_;refine Wp.seq ?_;refine vR Γ0 lB ?_;refine Wp.block ?_
 refine Wp.loop (λj:Nat=>⟨20,bm [(1,.is (.own 0 0)),(3,.is (.v (.int .i64 (lA S j:Nat)))),(4,.is (.v (.int .i64 (j:Nat))))],aY [(0,.cells 241 ((gI S.getLsbD).map .v))]⟩) (λj=>j<=256) (λj=>256-j) 0 ?_ (Nat.zero_le _) ?_
 ·exact wM (λk=>.key k) lB
 rintro j hj;have hle:=Fc S j;refine Wp.seq ?_;refine vR Γ0 lB ?_;refine wC lB (λhc=>?_) (λhc=>?_)
 ·have hlt:j<256:=by
   simp at hc;omega
  have wj:IntKind.i64.wrap ((j:Int)+1)=((j+1:Nat):Int):=wW;refine wK ?_;refine Wp.seq (Wp.block ?_)
  refine Wp.pn Γ0 cj (by simp only[kp,Op.operands,Value.cells,σ0,σB,Nat.reduceEqDiff,Nat.reduceAdd,Nat.reduceMul,Nat.reduceLT,Nat.reduceLeDiff,Nat.reduceBEq,av,Int.reduceToNat,Int.reduceLT,Int.reduceLE,Nat.reduceDiv,Nat.reduceMod,Nat.reduceSub,Int.reducePow,Nat.reducePow,σP,σB3,lB,mf _ j hlt];exact rfl) rfl ?_ ?_
  ·omega
  refine wC lB (λhc=>?_) (λhc=>?_)
  ·have e:lA S (j+1)=lA S j+1:=by rw[lA,if_pos hc]
   have wc:IntKind.i64.wrap ((lA S j:Int)+1)=((lA S (j+1):Nat):Int):=by rw[ae oM oM,e];omega
   refine vr Γ0 (aa lB wc) ?_;refine vr Γ0 (aa lB wj) ?_;refine⟨j+1,oM,oM,?_⟩;exact wM (λk=>.key k) lB
  ·have e:lA S (j+1)=lA S j:=by rw[lA,if_neg (by rw[hc];simp)];omega
   refine wK ?_;refine vr Γ0 (aa lB wj) ?_;refine⟨j+1,oM,oM,?_⟩;rw[e];exact wM (λk=>.key k) lB
 ·have hj' : j=256:=by
   simp at hc;omega
  subst hj';refine wE ?_;refine vR Γ0 lB ?_;refine wZ lB ?_;exact λE=>rfl
noncomputable def qy:aM prog 203 where
 pre:=λW bs=>λ| [.val y0]=>(match dec nj y0 with|some S=>True|_=>False)|_=>False
 res:=λW=>λ| [.val y0]=>(match dec nj y0 with|some S=>.int .i64 (j1 S:Nat)|_=>undef)|_=>undef
 enters:=call203
 ok:=by
  intro W w bs us as_ hk hu hp;split at hp
  ·rename_i y0;split at hp
   ·rename_i S h0
    match us,hu with
    |[u0],hu=>
     obtain⟨rfl,_⟩:=hu;obtain rfl:=gY h0
     try dsimp only
     try simp only[cN nI]
     exact La S w
   ·exact hp.elim
  ·exact hp.elim
theorem JW(W:World)(S:CS):qy.res W [.val (nj S)]=.int .i64 (j1 S:Nat):=by simp only[qy,cN nI]
theorem G7(W:World)(bs:List Nat)(S:CS):qy.pre W bs [.val (nj S)]=(True):=by simp only[qy,cN nI]
theorem K6(S:CS):partsOf (.v (nj S))=List.map SV.v (gI S.getLsbD):=rfl
theorem CM(S:CS):Value.agg (gI S.getLsbD).toArray=nj S:=rfl
noncomputable def qC:Env prog:=⟨λ| 203=>some qy.spec|204=>some Qp.spec|205=>some nE.spec|206=>some vo.spec|_=>none,λ| _=>none,λ_ _=>none⟩
theorem adl:qC.sp 203=some qy.spec:=rfl
theorem ahb:qC.sp 204=some Qp.spec:=rfl
theorem acB:qC.sp 205=some nE.spec:=rfl
theorem acp:qC.sp 206=some vo.spec:=rfl
theorem LI(S:CS)(h1:j1 S≠1):∃ (T:CS) (pre:ByteArray) (want:Bool),iD S=dm T pre 256++PC/\pre.size<=2/\(∀ k<256,(S.getLsbD k == want)=T.getLsbD k)/\want=!decide (128<j1 S)/\pre=bif decide (128<j1 S) then zV else AX:=by
 by_cases h:128<j1 S
 ·refine⟨~~~S,zV,false,?_,dE,λk hk=>?_,by simp[h],by simp[h]⟩
  ·rw[iD,if_neg h1,if_pos h]
  ·rw[BitVec.getLsbD_not];cases S.getLsbD k<;>simp[hk]
 ·refine⟨S,AX,true,?_,dE,λk hk=>?_,by simp[h],by simp[h]⟩
  ·rw[iD,if_neg h1,if_neg h]
  ·cases S.getLsbD k<;>simp
theorem F5{P:Program}{eqs:(T:TypeId)->Option (EqSpec P T)}(h:Hp)(T:TypeId)(X Y:Operand)(b:Bool):bE P eqs h .eql T X Y [.v undef,.v (.bool b)]=.bad:=rfl
theorem bad_eq:R.bad=⟨False,.v undef,[],none,[],[]⟩:=rfl
theorem PE(out:ByteArray)(b e:Nat):KY out b e=if b<e then (if b+1<e then out++lh b (kQ mH b)++ow else out++lh b (kQ mH b))++lh e (kQ mH e) else (if b+1<e then out++lh b (kQ mH b)++ow else out++lh b (kQ mH b)):=by
 unfold KY;split
 ·rfl
 ·rw[if_neg oM]
def bp:=(aj @an @ab jk jn gR ck cf (aj b9 b8 ca cc cg cd fu (aj fh fy ft fB dc df dh (aj db cY c8 DT Dq DD Cq (aj @aG @al @ax @aw @mP @dN @lO (aj @nv @mm @aA @iX @JW @G7 @R6 (aj @Rv @s6 @uh @Bd @A8 @CM @K6 (eS adl ahb acB acp))))))))
theorem QT(S:CS)(w:World):Calls prog 156 #[nj S] w λe w' => e=.returned (.string (iD S))/\ah w [] w' := by
 refine af (nt:=92) [.tmp 2] func156 rfl rfl rfl ?_;refine vR qC bp ?_;refine vR qC bp ?_;refine Wp.seq ?_;refine vR qC bp ?_;refine wC bp (λhc=>?_) (λhc=>?_)
 ·have h1:j1 S=1:=by simp at hc;omega
  refine vR qC bp ?_;refine Wp.block ?_;refine Wp.loop (λj:Nat=>⟨20,bm [(1,.is (.own 0 0)),(4,.is (.v (.int .i64 (j:Nat))))],aY [(0,.cells 241 ((gI S.getLsbD).map .v))]⟩) (λj=>j<=256/\∀ k<j,S.getLsbD k=false) (λj=>256-j) 0 ?_ ⟨Nat.zero_le _,λk h=>by omega⟩ ?_
  ·exact wM (λk=>.key k) bp
  rintro j ⟨hj,hn⟩;refine Wp.seq ?_;refine vR qC bp ?_;refine wC bp (λhc=>?_) (λhc=>?_)
  ·have hlt:j<256:=by
    simp at hc;omega
   have wj:IntKind.i64.wrap ((j:Int)+1)=((j+1:Nat):Int):=wW;have wu:IntKind.u8.wrap (j:Int)=(j:Int):=eQ oM oM;refine wK ?_;refine Wp.seq (Wp.block ?_)
   refine Wp.pn qC cj (by simp only[kp,Op.operands,Value.cells,σ0,σB,Nat.reduceEqDiff,Nat.reduceAdd,Nat.reduceMul,Nat.reduceLT,Nat.reduceLeDiff,Nat.reduceBEq,av,Int.reduceToNat,Int.reduceLT,Int.reduceLE,Nat.reduceDiv,Nat.reduceMod,Nat.reduceSub,Int.reducePow,Nat.reducePow,σP,σB3,bp,mf _ j hlt];exact rfl) rfl ?_ ?_
   ·omega
   refine wC bp (λhc=>?_) (λhc=>?_)
   ·have e:iD S=lh j (kQ BI j):=by rw[iD,if_pos h1,Pb S j hlt hn hc]
    rw[e];refine wR qC (aa bp wu) ?_ ?_
    ·omega
    refine wZ bp ?_;exact λE=>rfl
   ·refine wK ?_;refine vr qC (aa bp wj) ?_;refine⟨j+1,⟨oM,λk hk=>?_⟩,oM,?_⟩
    ·by_cases h:k=j
     ·rw[h];exact hc
     ·exact hn k oM
    ·exact wM (λk=>.key k) bp
  ·exfalso;have hj' : j=256:=by
    simp at hc;omega
   subst hj';have:=DA S 256 hn;rw[j1]at h1;omega
 have h1:j1 S≠1:=by simp at hc;omega
 obtain⟨T,pre,want,he,hpre,hT,hw,hp⟩:=LI S h1;rw[he];refine wK ?_;refine vR qC bp ?_;refine vR qC bp ?_;refine aV ⟨60,bm [(1,.is (.own 0 0)),(5,.is (.v (.string pre))),(6,.is (.v (.bool want)))],aY [(0,.cells 241 ((gI S.getLsbD).map .v))]⟩ ?_ ?_
 ·skip;refine vR qC bp ?_;refine wC bp (λhc=>?_) (λhc=>?_)
  ·have h:decide (128<j1 S)=true:=by simp at hc ⊢;omega
   rw[h]at hw hp;subst hw hp;refine vR qC bp ?_;refine vr qC bp ?_;exact wM (λk=>.key k) bp
  ·have h:decide (128<j1 S)=false:=by simp at hc ⊢;omega
   rw[h]at hw hp;subst hw hp;refine wK ?_;exact wM (λk=>.key k) bp
 clear hw hp;refine Wp.seq ?_;refine vR qC bp ?_;refine Wp.block ?_
 refine Wp.loop (λb:Nat=>⟨70,bm [(1,.is (.own 0 0)),(5,.is (.v (.string (dm T pre b)))),(6,.is (.v (.bool want))),(7,.is (.v (.int .i64 (b:Nat))))],aY [(0,.cells 241 ((gI S.getLsbD).map .v))]⟩) (λb=>b<=256) (λb=>256-b) 0 ?_ (Nat.zero_le _) ?_
 ·exact wM (λk=>.key k) bp
 intro b hb;refine Wp.seq ?_;refine vR qC bp ?_;refine wC bp (λhc=>?_) (λhc=>?_)
 ·have hlt:b<256:=by
   simp at hc;omega
  have wj:IntKind.i64.wrap ((b:Int)+1)=((b+1:Nat):Int):=wW;have w1:IntKind.i64.wrap ((b:Int)-1)=(b:Int)-1:=ae oM oM;have w2:((b:Int)-1).toNat=b-1:=oM;have wu:IntKind.u8.wrap (b:Int)=(b:Int):=eQ oM oM;have hsz:=jM T pre b
  have hst:(!(S.getLsbD b == want)||(decide (0<(b:Int))&&(S.getLsbD (b-1) == want)))=!UY T b:=by
   rw[hT b hlt,hT (b-1) oM,UY];by_cases h0:b=0
   ·subst h0;simp
   ·rw[show decide (0<(b:Int))=true by simp;omega,show (b == 0)=false by simpa using h0];cases T.getLsbD b<;>cases T.getLsbD (b-1)<;>rfl
  refine wK ?_;refine Wp.seq (Wp.block ?_);refine Wp.seq ?_
  refine Wp.pn qC cj (by simp only[kp,Op.operands,Value.cells,σ0,σB,Nat.reduceEqDiff,Nat.reduceAdd,Nat.reduceMul,Nat.reduceLT,Nat.reduceLeDiff,Nat.reduceBEq,av,Int.reduceToNat,Int.reduceLT,Int.reduceLE,Nat.reduceDiv,Nat.reduceMod,Nat.reduceSub,Int.reducePow,Nat.reducePow,σP,σB3,bp,w1,w2,mf _ b hlt,mf _ (b-1) (show b-1<256 by omega)];exact rfl) rfl ?_ ?_
  ·exact⟨⟨oM,oM⟩,oM,λh=>⟨by simp at h;omega,oM⟩,λh=>by omega⟩
  refine wC bp (λhc=>?_) (λhc=>?_)
  ·have hs:UY T b=false:=by
    rw[hst]at hc;simpa using hc
   have e:dm T pre (b+1)=dm T pre b:=by rw[dm,if_neg (by rw[hs];simp)]
   refine wE ?_;refine vr qC (aa bp wj) ?_;refine⟨b+1,oM,oM,?_⟩;rw[e];exact wM (λk=>.key k) bp
  have hs:UY T b=true:=by
   rw[hst]at hc;simpa using hc
  have hTb:T.getLsbD b=true:=by
   rw[UY,Bool.and_eq_true]at hs;exact hs.1
  have hbd:=ON T b hlt;have e:dm T pre (b+1)=KY (dm T pre b) b (kx T b):=by rw[dm,if_pos hs]
  generalize hO:dm T pre b=O at *;generalize hO' : dm T pre (b+1)=O' at *;refine wK ?_;refine vR qC bp ?_;obtain⟨m,hm⟩:∃ m,kx T b=b+m:=⟨kx T b-b,oM⟩
  refine aV ⟨120,bm [(1,.is (.own 0 0)),(5,.is (.v (.string O))),(6,.is (.v (.bool want))),(7,.is (.v (.int .i64 (b:Nat)))),(8,.is (.v (.int .i64 ((m:Int)+1))))],aY [(0,.cells 241 ((gI S.getLsbD).map .v))]⟩ ?_ ?_
  ·skip;refine Wp.block ?_
   refine Wp.loop (λk:Nat=>⟨100,bm [(1,.is (.own 0 0)),(5,.is (.v (.string O))),(6,.is (.v (.bool want))),(7,.is (.v (.int .i64 (b:Nat)))),(8,.is (.v (.int .i64 (k:Nat))))],aY [(0,.cells 241 ((gI S.getLsbD).map .v))]⟩) (λk=>(1<=k/\b+k<=256)/\kx T b=kx T (b+k-1)) (λk=>256-k) 1 ?_ ⟨⟨Nat.le_refl _,oM⟩,by rw[Nat.add_sub_cancel]⟩ ?_
   ·exact wM (λk=>.key k) bp
   rintro k ⟨⟨hk1,hk⟩,hke⟩;have wbk:IntKind.i64.wrap ((b:Int)+(k:Int))=(b:Int)+(k:Int):=ae oM oM;have w3:((b:Int)+(k:Int)).toNat=b+k:=oM;have wk:IntKind.i64.wrap ((k:Int)+1)=((k+1:Nat):Int):=wW;have fin:(b+k<256->T.getLsbD (b+k)=false)->(k:Int)=(m:Int)+1:=λh=>by
    have:=Dn T (b+k-1) (λh2=>by rw[show b+k-1+1=b+k by omega];exact h oM);omega
   by_cases hbk:b+k<256
   ·have hd:decide ((b:Int)+(k:Int)<256)=true:=by simp;omega
    refine Wp.seq ?_
    refine Wp.pn qC cj (by simp only[kp,Op.operands,Value.cells,σ0,σB,Nat.reduceEqDiff,Nat.reduceAdd,Nat.reduceMul,Nat.reduceLT,Nat.reduceLeDiff,Nat.reduceBEq,av,Int.reduceToNat,Int.reduceLT,Int.reduceLE,Nat.reduceDiv,Nat.reduceMod,Nat.reduceSub,Int.reducePow,Nat.reducePow,σP,σB3,bp,wbk,w3,hd,mf _ (b+k) hbk];exact rfl) rfl ?_ ?_
    ·exact⟨⟨oM,oM⟩,oM⟩
    refine wC bp (λhc=>?_) (λhc=>?_)
    ·rw[hT _ hbk]at hc;refine wK ?_;refine Wp.block ?_;refine vr qC (aa bp wk) ?_;have hst2:=C3 T (b+k-1) oM (by rw[show b+k-1+1=b+k by omega];exact hc);refine⟨k+1,⟨⟨oM,oM⟩,by rw[hke,hst2];congr 1;omega⟩,oM,?_⟩;exact wM (λk=>.key k) bp
    ·rw[hT _ hbk]at hc;refine wE ?_;have hf:=fin λ_=>hc
     exact wM (λk=>.key k) (aa bp hf)
   ·have hd:decide ((b:Int)+(k:Int)<256)=false:=by simp;omega
    have ho:(List.map SV.v (gI S.getLsbD)).getD (b+k) (SV.v undef)=SV.v undef:=by rw[List.getD_eq_getElem?_getD,List.getElem?_eq_none (by rw[dN];omega)];rfl
    refine Wp.seq ?_;refine wR qC (ur bp wbk w3 hd ho @F5 @bad_eq) ?_ ?_
    ·simp
    refine wC bp (λhc=>?_) (λhc=>?_)
    ·exact absurd hc sI
    ·refine wE ?_;have hf:=fin λh=>absurd h hbk
     exact wM (λk=>.key k) (aa bp hf)
  have we1:IntKind.i64.wrap ((b:Int)+((m:Int)+1))=(b:Int)+((m:Int)+1):=ae oM oM;have we2:IntKind.i64.wrap ((b:Int)+((m:Int)+1)-1)=((b+m:Nat):Int):=wW;have we3:IntKind.u8.wrap ((b+m:Nat):Int)=((b+m:Nat):Int):=eQ oM oM;have hb1:=lQ b (kQ mH b);have hb2:=lQ ((b+m:Nat):Int) (kQ mH ((b+m:Nat):Int))
  rw[PE,hm]at e;refine wR qC (aa bp wu) ?_ ?_
  ·exact⟨⟨oM,oM⟩,⟨oM,oM⟩,oM⟩
  have hO1:(O++lh b (kQ mH b)).size<=2400:=by rw[ByteArray.size_append];omega
  generalize O++lh b (kQ mH b)=O1 at *;refine vR qC (eS bp we1 we2 we3) ?_
  refine aV ⟨150,bm [(1,.is (.own 0 0)),(5,.is (.v (.string (if b+1<b+m then O1++ow else O1)))),(6,.is (.v (.bool want))),(7,.is (.v (.int .i64 (b:Nat)))),(8,.is (.v (.int .i64 ((m:Int)+1)))),(9,.is (.v (.int .u8 ((b+m:Nat):Int))))],aY [(0,.cells 241 ((gI S.getLsbD).map .v))]⟩ ?_ ?_
  ·skip;refine vR qC bp ?_;refine wC bp (λhc=>?_) (λhc=>?_)
   ·have h:b+1<b+m:=by simp at hc;omega
    rw[if_pos h];refine wr qC bp ?_ ?_
    ·show O1.size+1<=_;omega
    exact wM (λk=>.key k) bp
   ·have h:¬ b+1<b+m:=by simp at hc;omega
    rw[if_neg h];refine wK ?_;exact wM (λk=>.key k) bp
  have hO2:(if b+1<b+m then O1++ow else O1).size<=2401:=by
   split
   ·rw[ByteArray.size_append];show O1.size+1<=2401;omega
   ·omega
  generalize (if b+1<b+m then O1++ow else O1)=O2 at *;refine vR qC bp ?_;refine wC bp (λhc=>?_) (λhc=>?_)
  ·have h:b<b+m:=by simp at hc;omega
   rw[if_pos h]at e;subst e;refine wr qC bp ?_ ?_
   ·exact⟨⟨oM,oM⟩,⟨oM,oM⟩,oM⟩
   refine vr qC (aa bp wj) ?_;refine⟨b+1,oM,oM,?_⟩;rw[hO'];exact wM (λk=>.key k) bp
  ·have h:¬ b<b+m:=by simp at hc;omega
   rw[if_neg h]at e;subst e;refine wK ?_;refine vr qC (aa bp wj) ?_;refine⟨b+1,oM,oM,?_⟩;rw[hO'];exact wM (λk=>.key k) bp
 ·have hb' : b=256:=by
   simp at hc;omega
  subst hb';have hsz:=jM T pre 256;refine wE ?_;refine wR qC bp ?_ ?_
  ·show (dm T pre 256).size+1<=_;omega
  refine wZ bp ?_;exact λE=>rfl
noncomputable def pE:aM prog 156 where
 pre:=λW bs=>λ| [.val y0]=>(match dec nj y0 with|some S=>True|_=>False)|_=>False
 res:=λW=>λ| [.val y0]=>(match dec nj y0 with|some S=>.string (iD S)|_=>undef)|_=>undef
 enters:=call156
 ok:=by
  intro W w bs us as_ hk hu hp;split at hp
  ·rename_i y0;split at hp
   ·rename_i S h0
    match us,hu with
    |[u0],hu=>
     obtain⟨rfl,_⟩:=hu;obtain rfl:=gY h0
     try dsimp only
     try simp only[cN nI]
     exact QT S w
   ·exact hp.elim
  ·exact hp.elim
theorem Nq(W:World)(S:CS):pE.res W [.val (nj S)]=.string (iD S):=by simp only[pE,cN nI]
theorem NX(W:World)(bs:List Nat)(S:CS):pE.pre W bs [.val (nj S)]=(True):=by simp only[pE,cN nI]
theorem WZ(a b:Nat)(ha:a<2 ^ 64)(hb:b<2 ^ 64):cw .and .u64 (a:Int) (b:Int)=((a &&& b:Nat):Int):=by
 have h:=Vk (BitVec.ofNat 64 a) (BitVec.ofNat 64 b);rw[BitVec.toNat_and,BitVec.toNat_ofNat,BitVec.toNat_ofNat,Nat.mod_eq_of_lt ha,Nat.mod_eq_of_lt hb]at h;exact h
theorem r8(a:Nat)(ha:a<2 ^ 64):IntKind.u64.wrap (a:Int)=(a:Int):=by
 have h:=tD (BitVec.ofNat 64 a);rw[BitVec.toNat_ofNat,Nat.mod_eq_of_lt ha]at h;exact h
theorem Qz(a n:Nat):(a:Int).fdiv (n:Int)=((a / n:Nat):Int):=by
 rw[Int.fdiv_eq_ediv_of_nonneg _ (Int.natCast_nonneg _)];rfl
theorem agk(x:Nat)(hx:x<2 ^ 64):IntKind.u64.wrap (cw .and .u64 ((x:Int).fdiv 2) 6148914691236517205+cw .and .u64 (x:Int) 6148914691236517205)=((f0 32 x:Nat):Int)/\f0 32 x<2 ^ 64:=by
 have hm:M0 32=6148914691236517205:=by decide
 have h1:=Nat.and_le_right (n:=x / 2) (m:=6148914691236517205);have h2:=Nat.and_le_right (n:=x) (m:=6148914691236517205);have hf:f0 32 x=(x / 2 &&& 6148914691236517205)+(x &&& 6148914691236517205):=by rw[f0,hm]
 have hl:f0 32 x<2 ^ 64:=oM;refine⟨?_,hl⟩;have e1:(x:Int).fdiv 2=((x / 2:Nat):Int):=Qz x 2;have e2:=WZ (x / 2) 6148914691236517205 oM oM;have e3:=WZ x 6148914691236517205 oM oM;rw[e1,show (6148914691236517205:Int)=((6148914691236517205:Nat):Int) from rfl,e2,e3,<- Int.natCast_add,<- hf,r8 _ hl]
theorem afH(x:Nat)(hx:x<2 ^ 64):IntKind.u64.wrap (cw .and .u64 ((x:Int).fdiv 4) 3689348814741910323+cw .and .u64 (x:Int) 3689348814741910323)=((f1 16 x:Nat):Int)/\f1 16 x<=7378697629483820646:=by
 have hm:M1 16=3689348814741910323:=by decide
 have h1:=Nat.and_le_right (n:=x / 4) (m:=3689348814741910323);have h2:=Nat.and_le_right (n:=x) (m:=3689348814741910323);have hf:f1 16 x=(x / 4 &&& 3689348814741910323)+(x &&& 3689348814741910323):=by rw[f1,hm]
 have hl:f1 16 x<=7378697629483820646:=oM;refine⟨?_,hl⟩;have e1:(x:Int).fdiv 4=((x / 4:Nat):Int):=Qz x 4;have e2:=WZ (x / 4) 3689348814741910323 oM oM;have e3:=WZ x 3689348814741910323 oM oM
 rw[e1,show (3689348814741910323:Int)=((3689348814741910323:Nat):Int) from rfl,e2,e3,<- Int.natCast_add,<- hf,r8 _ oM]
theorem abL(x:Nat)(hx:x<=7378697629483820646):cw .and .u64 (IntKind.u64.wrap ((x:Int).fdiv 16+(x:Int))) 1085102592571150095=((f2 8 x:Nat):Int):=by
 have hm:M2 8=1085102592571150095:=by decide
 have e1:(x:Int).fdiv 16=((x / 16:Nat):Int):=Qz x 16;rw[e1,<- Int.natCast_add,r8 _ oM,show (1085102592571150095:Int)=((1085102592571150095:Nat):Int) from rfl,WZ _ _ oM oM,f2,hm]
theorem E9(x n:Nat)(h:x+x / n<2 ^ 64):IntKind.u64.wrap ((x:Int)+(x:Int).fdiv (n:Int))=((x+x / n:Nat):Int):=by
 rw[Qz,<- Int.natCast_add,r8 _ h]
theorem afa(x:Nat)(hx:x<2 ^ 63):cw .and .i64 (IntKind.i64.wrap (x:Int)) 127=((x % 128:Nat):Int):=by
 rw[ae oM oM];show IntKind.i64.wrap (((BitVec.ofInt 64 (x:Int) &&& BitVec.ofInt 64 127:BitVec 64).toNat:Nat):Int)=_;have h1:(BitVec.ofInt 64 (x:Int)).toNat=x:=by
  rw[BitVec.toNat_ofInt];omega
 have h2:(BitVec.ofInt 64 127).toNat=127:=rfl;have h3:x &&& 127=x % 128:=Nat.and_two_pow_sub_one_eq_mod x 7;rw[BitVec.toNat_and,h1,h2,h3,ae oM oM]
def Cl:=(aj @List.replicate_succ.{0} @List.replicate_zero.{0} @an @ab jk jn gR (aj ck cf b9 b8 ca cc cg (aj cd fu fh fy ft fB pJ (aj qg pB pA vS vX xv vM (eS @aG @al @ax @aw)))))
theorem aal(x:Nat)(hx:x<2 ^ 64)(w:World):Calls prog 253 #[.int .u64 (x:Nat)] w λe w' => e=.returned (.int .i64 (fq x 64:Nat))/\ah w [] w' := by
 obtain⟨r1,l1⟩:=agk x hx;obtain⟨r2,l2⟩:=afH (f0 32 x) l1;have r3:=abL _ l2;have hst:=(DB 8 x).1;obtain⟨y,hy,b1,b2,b3,hp⟩:=VN x;have r4:=E9 y 256 b1;have r5:=E9 _ 65536 b2;have r6:=E9 (y+y / 256+(y+y / 256) / 65536) 4294967296 oM;have r7:=afa _ b3
 have r3' : cw .and .u64 (IntKind.u64.wrap (((f1 16 (f0 32 x):Nat):Int).fdiv 16+((f1 16 (f0 32 x):Nat):Int))) 1085102592571150095=((y:Nat):Int):=by rw[r3,hy,<- hst]
 rw[<- hp];refine af (nt:=35) [.tmp 2] func253 rfl rfl rfl ?_;refine vR Γ0 Cl ?_;refine vR Γ0 (aa Cl r1) ?_;refine vR Γ0 (aa Cl r2) ?_;refine vR Γ0 (aa Cl r3') ?_;refine vR Γ0 Cl ?_;refine vR Γ0 Cl ?_;refine vR Γ0 Cl ?_;refine vR Γ0 Cl ?_;refine wZ Cl ?_;intro E;show Value.int IntKind.i64 _=_
 congr 1
 refine Eq.trans ?_ r7
 congr 2
 refine Eq.trans ?_ r6;have e5:IntKind.u64.wrap (((y+y / 256:Nat):Int)+((y+y / 256:Nat):Int).fdiv 65536)=((y+y / 256+(y+y / 256) / 65536:Nat):Int):=r5;have e4:IntKind.u64.wrap ((y:Int)+(y:Int).fdiv 256)=((y+y / 256:Nat):Int):=r4;rw[e4,e5];rfl
def QO:aM prog 253 where
 pre:=λW bs=>λ| [.val (.int .u64 x)]=>0<=x/\x<18446744073709551616|_=>False
 res:=λW=>λ| [.val (.int .u64 x)]=>.int .i64 (fq x.toNat 64:Nat)|_=>undef
 enters:=call253
 ok:=by
  intro W w bs us as_ hk hu hp;split at hp
  ·rename_i x
   match us,hu with
   |[u0],hu=>
    obtain⟨rfl,_⟩:=hu;have:=aal x.toNat oM w;rw[Int.toNat_of_nonneg hp.1]at this;exact this
  ·exact hp.elim
theorem Tu(W:World)(x:Int):QO.res W [.val (.int .u64 x)]=.int .i64 (fq x.toNat 64:Nat):=rfl
theorem T4(W:World)(bs:List Nat)(x:Int):QO.pre W bs [.val (.int .u64 x)]=(0<=x/\x<18446744073709551616):=rfl
noncomputable def Γ77:Env prog:=⟨λ| 253=>some QO.spec|_=>none,λ| _=>none,λ_ _=>none⟩
theorem aeH:Γ77.sp 253=some QO.spec:=rfl
attribute [local simp] aB
def uK:=(aj Cl Tu T4 aeH @jt @mO @nH (aa @ll @qx))
theorem MH(S:CS)(w:World):Calls prog 221 #[cC S] w λe w' => e=.returned (.int .i64 (j1 S:Nat))/\ah w [] w' := by
 refine af (nt:=16) [.tmp 2] func221 rfl rfl rfl ?_;refine vR Γ77 (aa uK @e8) ?_;refine vR Γ77 uK ?_;refine Wp.seq ?_;refine vR Γ77 uK ?_;refine Wp.block ?_
 refine Wp.loop (λk:Nat=>⟨20,bm [(3,.is (.v (.int .i64 (lA S (64*k):Nat)))),(6,.is (.agg ((l7 S).map .v))),(7,.is (.v (.int .i64 (k:Nat))))],aY []⟩) (λk=>k<=4) (λk=>4-k) 0 ?_ (Nat.zero_le _) ?_
 ·exact wM (λk=>.key k) uK
 rintro k hk;have hle:=Fc S (64*k);have hle2:=Fc S (64*(k+1));refine vR Γ77 uK ?_;refine Wp.seq ?_;refine wC uK (λhc=>?_) (λhc=>?_)
 ·have hlt:k<4:=by
   simp at hc;omega
  have hw:=Hn S k 64 (Nat.le_refl _);have hx:=al1 S k;have hx0:0<=wd S k:=by rw[wd];omega
  have wk:IntKind.i64.wrap ((k:Int)+1)=((k+1:Nat):Int):=wW;have e:lA S (64*(k+1))=lA S (64*k)+fq (wd S k).toNat 64:=hw;have wc:IntKind.i64.wrap ((lA S (64*k):Int)+((fq (wd S k).toNat 64:Nat):Int))=((lA S (64*(k+1)):Nat):Int):=by rw[ae oM oM,e];omega
  refine wK ?_;refine Wp.seq (Wp.block ?_);refine wR Γ77 (aa uK (iC S k hlt)) ?_ ?_
  ·omega
  refine wr Γ77 (aa uK wc) ?_ ?_
  ·omega
  refine vr Γ77 (aa uK wk) ?_;refine⟨k+1,oM,oM,?_⟩;exact wM (λk=>.key k) uK
 ·have hk' : k=4:=by
   simp at hc;omega
  subst hk';refine wE ?_;refine vR Γ77 uK ?_;refine wZ uK ?_;exact λE=>rfl
noncomputable def qL:aM prog 221 where
 pre:=λW bs=>λ| [.val y0]=>(match dec cC y0 with|some S=>True|_=>False)|_=>False
 res:=λW=>λ| [.val y0]=>(match dec cC y0 with|some S=>.int .i64 (j1 S:Nat)|_=>undef)|_=>undef
 enters:=call221
 ok:=by
  intro W w bs us as_ hk hu hp;split at hp
  ·rename_i y0;split at hp
   ·rename_i S h0
    match us,hu with
    |[u0],hu=>
     obtain⟨rfl,_⟩:=hu;obtain rfl:=gY h0
     try dsimp only
     try simp only[cN cJ]
     exact MH S w
   ·exact hp.elim
  ·exact hp.elim
theorem wX(W:World)(S:CS):qL.res W [.val (cC S)]=.int .i64 (j1 S:Nat):=by simp only[qL,cN cJ]
theorem wJ(W:World)(bs:List Nat)(S:CS):qL.pre W bs [.val (cC S)]=(True):=by simp only[qL,cN cJ]
noncomputable def xm:aM prog 225 where
 pre:=λW bs=>λ| [.val y0,.val (.int .u8 b)]=>(match dec cC y0 with|some S=>0<=b/\b<256|_=>False)|_=>False
 res:=λW=>λ| [.val y0,.val (.int .u8 b)]=>(match dec cC y0 with|some S=>.bool (S.getLsbD b.toNat)|_=>undef)|_=>undef
 enters:=call225
 ok:=by
  intro W w bs us as_ hk hu hp;split at hp
  ·rename_i y0 b;split at hp
   ·rename_i S h0
    match us,hu with
    |[u0,u1],hu=>
     obtain⟨rfl,rfl,_⟩:=hu;obtain rfl:=gY h0
     try dsimp only
     try simp only[cN cJ]
     have:=ab8 S b.toNat oM w;rw[Int.toNat_of_nonneg hp.1]at this;exact this
   ·exact hp.elim
  ·exact hp.elim
theorem Cu(W:World)(S:CS)(b:Int):xm.res W [.val (cC S),.val (.int .u8 b)]=.bool (S.getLsbD b.toNat):=by simp only[xm,cN cJ]
theorem CX(W:World)(bs:List Nat)(S:CS)(b:Int):xm.pre W bs [.val (cC S),.val (.int .u8 b)]=(0<=b/\b<256):=by simp only[xm,cN cJ]
noncomputable def Γ78:Env prog:=⟨λ| 225=>some xm.spec|_=>none,λ| _=>none,λ_ _=>none⟩
theorem aeM:Γ78.sp 225=some xm.spec:=rfl
def yV:=(ml uK @wX @wJ @Cu @CX aeM)
theorem Tp(S:CS)(hS:∃ b<256,S.getLsbD b=true)(w:World):Calls prog 222 #[cC S,.int .i64 0] w λe w' => e=.returned (.tuple #[.int .u8 (Af S:Nat),.bool true])/\ah w [] w' := by
 refine af (nt:=19) [.tmp 4,.tmp 5] func222 rfl rfl rfl ?_;refine vR Γ78 (aa yV @e8) ?_;refine Wp.seq ?_;refine vR Γ78 yV ?_;refine Wp.block ?_
 refine Wp.loop (λj:Nat=>⟨20,bm [(2,.is (.own 0 0)),(6,.is (.v (.int .i64 (j:Nat))))],aY [(0,.cells 309 ((l7 S).map .v))]⟩) (λj=>j<=256/\∀ k<j,S.getLsbD k=false) (λj=>256-j) 0 ?_ ⟨Nat.zero_le _,λk h=>by omega⟩ ?_
 ·exact wM (λk=>.key k) yV
 rintro j ⟨hj,hn⟩;refine Wp.seq ?_;refine vR Γ78 yV ?_;refine wC yV (λhc=>?_) (λhc=>?_)
 ·have hlt:j<256:=by
   simp at hc;omega
  have wj:IntKind.i64.wrap ((j:Int)+1)=((j+1:Nat):Int):=wW;have wu:IntKind.u8.wrap (j:Int)=(j:Int):=eQ oM oM;refine wK ?_;refine Wp.seq (Wp.block ?_);refine wR Γ78 (bP yV wu @dW) ?_ ?_
  ·omega
  refine wC yV (λhc=>?_) (λhc=>?_)
  ·rw[Pb S j hlt hn hc];refine vR Γ78 (aa yV wu) ?_;refine wZ yV ?_;exact λE=>rfl
  ·refine wK ?_;refine vr Γ78 (aa yV wj) ?_;refine⟨j+1,⟨oM,λk hk=>?_⟩,oM,?_⟩
   ·by_cases h:k=j
    ·rw[h];exact hc
    ·exact hn k oM
   ·exact wM (λk=>.key k) yV
 ·exfalso;have hj' : j=256:=by
   simp at hc;omega
  subst hj';obtain⟨b,h1,h2⟩:=hS;rw[hn b h1]at h2;cases h2
theorem X3(S:CS)(h:j1 S=1):∃ b<256,S.getLsbD b=true:=by
 refine Classical.byContradiction λhn=>?_
 have:=DA S 256 λj hj=>by
  cases hb:S.getLsbD j with
  |false=>rfl
  |true=>exact absurd ⟨j,hj,hb⟩ hn
 rw[j1]at h;omega
noncomputable def vq:aM prog 222 where
 pre:=λW bs=>λ| [.val y0,.val (.int .i64 x)]=>(match dec cC y0 with|some S=>x=0/\∃ b<256,S.getLsbD b=true|_=>False)|_=>False
 res:=λW=>λ| [.val y0,.val (.int .i64 x)]=>(match dec cC y0 with|some S=>.tuple #[.int .u8 (Af S:Nat),.bool true]|_=>undef)|_=>undef
 enters:=call222
 ok:=by
  intro W w bs us as_ hk hu hp;split at hp
  ·rename_i y0 x;split at hp
   ·rename_i S h0
    match us,hu with
    |[u0,u1],hu=>
     obtain⟨rfl,rfl,_⟩:=hu;obtain rfl:=gY h0
     try dsimp only
     try simp only[cN cJ]
     obtain⟨rfl,hS⟩:=hp;exact Tp S hS w
   ·exact hp.elim
  ·exact hp.elim
theorem Ld(W:World)(S:CS)(x:Int):vq.res W [.val (cC S),.val (.int .i64 x)]=.tuple #[.int .u8 (Af S:Nat),.bool true]:=by simp only[vq,cN cJ]
theorem Kq(W:World)(bs:List Nat)(S:CS)(x:Int):vq.pre W bs [.val (cC S),.val (.int .i64 x)]=(x=0/\∃ b<256,S.getLsbD b=true):=by simp only[vq,cN cJ]
def gl(n:Int):ByteArray:=⟨(Lib.itoa n).toArray⟩
theorem sL(n:Nat):gl n=⟨(Lib.decDigits n).toArray⟩:=by
 unfold gl Lib.itoa;rw[if_neg oM,Int.toNat_natCast]
theorem zu:∀ (k u:Nat),u<10 ^ (k+1)->Lib.nDigits u<=k+1
 |0,u,h=>by rw[Lib.nDigits_small oM];omega
 | k+1,u,h=>by
  by_cases h1:u<10
  ·rw[Lib.nDigits_small h1];omega
  ·rw[Lib.nDigits_big h1];have:=zu k (u / 10) (by rw[Nat.pow_succ]at h;omega);omega
theorem eP{n:Int}(h0:0<=n)(h1:n<=9223372036854775807):(gl n).size<=19:=by
 obtain⟨m,rfl⟩:=Int.eq_ofNat_of_zero_le h0;rw[sL];show (Lib.decDigits m).length<=19;rw[Lib.decDigits_length];exact zu 18 m oM
def fC(W:World)(S:Nat->Prop):Prop:=S 3/\Lib.TabIs prog W "internal/strconv.uint64pow10" .u64 Lib.pow10Tab
theorem ZX:prog.globalNamed "internal/strconv.uint64pow10"=some 3:=kR
theorem fC.mono{W W' : World}{S S' : Nat->Prop}(h:fC W S)(hs:cT W S W' S'):fC W' S' := by
 obtain⟨h0,h1⟩:=h;unfold Lib.TabIs World.var? at h1;rw[ZX,Option.bind_some]at h1;have hlt:3<W.heap.size:=by
  refine Decidable.byContradiction λhn=>?_
  rw[Array.getElem?_eq_none oM]at h1;cases h1
 obtain⟨g1,g2⟩:=hs 3 hlt h0;refine⟨g2,?_⟩;unfold Lib.TabIs World.var?;rw[ZX,Option.bind_some,g1];exact h1
theorem fC.dU{W w:World}{bs fp:List Nat}(h:fC W (Out bs))(hk:ah W bs w)(hm:∀ b∈fp,W.heap.size<=b\/b∈bs):fC w (Out fp):=
 h.mono λb hb hs=>⟨hk.block b hb hs,λhb' => (hm b hb').elim (λg=>absurd g (Nat.not_le.2 hb)) hs⟩
theorem Zs(n:Int)(h0:0<=n)(h1:n<=9223372036854775807)(w:World)(ht:fC w (Out [])):Calls prog 39 #[.int .i64 n] w λe w' => e=.returned (.string (gl n))/\LE.ah w [] w' := by
 refine (Any.strconv_Itoa Tryz.Ps n oM h1 w ht.2).mono ?_;rintro e w' ⟨rfl,k,os,rfl⟩;exact⟨rfl,LE.ah.lU (Lib.below_grow _ w (Nat.le_refl _) k os)⟩
def w5:aM prog 39 where
 pre:=λW bs=>λ| [.val (.int .i64 n)]=>(0<=n/\n<=9223372036854775807)/\fC W (Out bs)|_=>False
 res:=λW=>λ| [.val (.int .i64 n)]=>.string (gl n)|_=>undef
 enters:=call39
 ok:=by
  intro W w bs us as_ hk hu hp;split at hp
  ·rename_i n
   match us,hu with
   |[u0],hu=>
    obtain⟨rfl,_⟩:=hu;exact Zs n hp.1.1 hp.1.2 w (hp.2.dU hk sI)
  ·exact hp.elim
theorem qT(W:World)(n:Int):w5.res W [.val (.int .i64 n)]=.string (gl n):=rfl
theorem qR(W:World)(bs:List Nat)(n:Int):w5.pre W bs [.val (.int .i64 n)]=((0<=n/\n<=9223372036854775807)/\fC W (Out bs)):=rfl
theorem ZY{u:Nat}(h:u<=9223372036854775807):((u:Nat):Int).tmod 10=((u % 10:Nat):Int)/\IntKind.u64.wrap (((u:Nat):Int).tdiv 10)=((u / 10:Nat):Int) /\
  IntKind.u64.wrap (48+((u % 10:Nat):Int))=((48+u % 10:Nat):Int)/\IntKind.u8.wrap ((48+u % 10:Nat):Int)=((48+u % 10:Nat):Int):=by
 refine⟨(Int.ofNat_tmod u 10).symm,?_,?_,?_⟩
 ·rw[show ((u:Nat):Int).tdiv 10=((u / 10:Nat):Int) from (Int.ofNat_tdiv u 10).symm];exact r8 _ oM
 ·exact r8 (48+u % 10) oM
 ·exact eQ oM oM
theorem Ap{u:Nat}(h:u<10):Lib.decDigits u=[UInt8.ofNat (48+u % 10)]:=by rw[Lib.decDigits_one h,Nat.mod_eq_of_lt h]
theorem td{u:Nat}(h:¬ u<10):Lib.decDigits u=Lib.decDigits (u / 10)++[UInt8.ofNat (48+u % 10)]:=by
 rw[Lib.decDigits,dif_neg h]
theorem JV(n:Nat):bJ [((n:Nat):Int)]=⟨#[UInt8.ofNat n]⟩:=by simp[bJ]
theorem agz(l:List UInt8)(c:UInt8)(o:ByteArray):(⟨(l++[c]).toArray⟩:ByteArray)++o=⟨l.toArray⟩++((⟨#[c]⟩:ByteArray)++o):=by
 apply ByteArray.ext;simp[ByteArray.data_append]
def sA:=(aj @List.replicate_succ.{0} @List.replicate_zero.{0} @an @ab BG BH BJ (aj gR ck cf b9 b8 ca cc (aj cg cd fu fh fy ft fB (aj dc df dh db cY c8 xw (aj wG wD vP pJ qg pB pA (ml @aG @al @ax @aw @qT @qR))))))
theorem Zy(n:Nat)(hn:(n:Int)<=9223372036854775807)(w:World):Calls prog 62 #[.int .i64 (n:Nat)] w λe w' => e=.returned (.string (gl (n:Nat)))/\LE.ah w [] w' := by
 refine af (nt:=28) [.tmp 2] func62 rfl rfl rfl ?_;have hw:=r8 n oM;refine vR Γ0 sA ?_;refine vR Γ0 (aa sA hw) ?_;refine vR Γ0 sA ?_;refine Wp.seq ?_;refine vR Γ0 sA ?_;refine wC sA (λhc=>?_) (λhc=>?_)
 ·exact absurd hc sI
 refine wK ?_;refine vR Γ0 sA ?_;refine Wp.block ?_
 refine Wp.loop (λp:Nat×ByteArray=>⟨20,bm [(3,.is (.v (.int .u64 (p.1:Nat)))),(4,.is (.v (.string ⟨#[]⟩))),(5,.is (.v (.string p.2)))],aY []⟩) (λp=>p.1<=n/\p.2.size<=19/\gl n=(⟨(Lib.decDigits p.1).toArray⟩:ByteArray)++p.2) (λp=>p.1) (n,⟨#[]⟩) ?_ ⟨Nat.le_refl _,by simp[ByteArray.size],by rw[sL];apply ByteArray.ext;simp⟩ ?_
 ·exact wM (λk=>.key k) sA
 rintro⟨u,o⟩ ⟨h1,h2,h3⟩;dsimp only at h1 h2 h3 ⊢;obtain⟨f1,f2,f3,f4⟩:=ZY (u:=u) oM;refine Wp.block ?_;refine wR Γ0 (eS sA f1 f3 f4) ?_ ?_
 ·exact⟨dE,by rw[aU];simp only[List.length_cons,List.length_nil];omega⟩
 refine vR Γ0 (aa sA f2) ?_;refine vR Γ0 sA ?_;refine wC sA (λhc=>?_) (λhc=>?_)
 ·have hu:u<10:=by simp at hc;omega
  rw[Ap hu]at h3;have h4:bJ [((48+u % 10:Nat):Int)]++o=gl n:=by rw[h3,JV]
  have e0:(⟨#[]⟩:ByteArray)++gl n=gl n:=by apply ByteArray.ext;simp
  refine wR Γ0 (bP sA h4 e0) ?_ ?_
  ·have:=eP (n:=n) oM hn;have e1:(⟨#[]⟩:ByteArray).size=0:=rfl;rw[e1];omega
  refine wZ sA ?_;exact λE=>rfl
 ·have hu:¬ u<10:=by simp at hc;omega
  refine wK ?_;refine⟨(u / 10,bJ [((48+u % 10:Nat):Int)]++o),⟨by dsimp only;omega,?_,?_⟩,by dsimp only;omega,?_⟩
  ·have h4:=congrArg ByteArray.size h3;have h5:=eP (n:=n) oM hn;rw[h4,td hu,ByteArray.size_append]at h5;have h6:(⟨(Lib.decDigits (u / 10)++[UInt8.ofNat (48+u % 10)]).toArray⟩:ByteArray).size=(Lib.decDigits (u / 10)).length+1:=by
    show (Lib.decDigits (u / 10)++[UInt8.ofNat (48+u % 10)]).length=_;rw[List.length_append];rfl
   rw[h6]at h5;rw[ByteArray.size_append,aU];simp only[List.length_cons,List.length_nil];omega
  ·rw[h3,td hu,agz,JV]
  ·exact wM (λk=>.key k) sA
def O9:aM prog 62 where
 pre:=λW bs=>λ| [.val (.int .i64 n)]=>(0<=n/\n<=9223372036854775807)|_=>False
 res:=λW=>λ| [.val (.int .i64 n)]=>.string (gl n)|_=>undef
 enters:=call62
 ok:=by
  intro W w bs us as_ hk hu hp;split at hp
  ·rename_i n
   match us,hu with
   |[u0],hu=>
    obtain⟨rfl,_⟩:=hu;obtain⟨m,rfl⟩:=Int.eq_ofNat_of_zero_le hp.1;exact Zy m hp.2 w
  ·exact hp.elim
theorem TE(W:World)(n:Int):O9.res W [.val (.int .i64 n)]=.string (gl n):=rfl
theorem RQ(W:World)(bs:List Nat)(n:Int):O9.pre W bs [.val (.int .i64 n)]=((0<=n/\n<=9223372036854775807)):=rfl
def ez(s p:ByteArray):ByteArray:=⟨(Lib.trimPrefix s.data.toList p.data.toList).toArray⟩
def oQ(s p:ByteArray):Bool:=Lib.hasPrefix s.data.toList p.data.toList
def pd(s p:ByteArray):ByteArray:=⟨(Lib.trimSuffix s.data.toList p.data.toList).toArray⟩
def Bx(s p:ByteArray):Bool:=Lib.hasSuffix s.data.toList p.data.toList
theorem XX(s p:ByteArray)(w:World):Calls prog 80 #[.string s,.string p] w λe w' => e=.returned (.tuple #[.string (ez s p),.bool (oQ s p)])/\LE.ah w [] w' :=
 (Any.strings_CutPrefix Tryz.aeb s p w).mono λe w' ⟨he,hw⟩=>⟨he,by rw[hw];exact LE.ah.refl w []⟩
theorem U7(s p:ByteArray)(hs:s.size<=9223372036854775807)(w:World):Calls prog 81 #[.string s,.string p] w λe w' => e=.returned (.tuple #[.string (pd s p),.bool (Bx s p)])/\LE.ah w [] w' :=
 (Any.strings_CutSuffix Tryz.ac8 s p w hs).mono λe w' ⟨he,hw⟩=>⟨he,by rw[hw];exact LE.ah.refl w []⟩
def Ds:aM prog 80 where
 pre:=λW bs=>λ| [.val (.string s),.val (.string p)]=>True|_=>False
 res:=λW=>λ| [.val (.string s),.val (.string p)]=>.tuple #[.string (ez s p),.bool (oQ s p)]|_=>undef
 enters:=call80
 ok:=by
  intro W w bs us as_ hk hu hp;split at hp
  ·rename_i s p
   match us,hu with
   |[u0,u1],hu=>
    obtain⟨rfl,rfl,_⟩:=hu;exact XX s p w
  ·exact hp.elim
theorem Cz(W:World)(s p:ByteArray):Ds.res W [.val (.string s),.val (.string p)]=.tuple #[.string (ez s p),.bool (oQ s p)]:=rfl
theorem Df(W:World)(bs:List Nat)(s p:ByteArray):Ds.pre W bs [.val (.string s),.val (.string p)]=(True):=rfl
def PU:aM prog 81 where
 pre:=λW bs=>λ| [.val (.string s),.val (.string p)]=>s.size<=9223372036854775807|_=>False
 res:=λW=>λ| [.val (.string s),.val (.string p)]=>.tuple #[.string (pd s p),.bool (Bx s p)]|_=>undef
 enters:=call81
 ok:=by
  intro W w bs us as_ hk hu hp;split at hp
  ·rename_i s p
   match us,hu with
   |[u0,u1],hu=>
    obtain⟨rfl,rfl,_⟩:=hu;exact U7 s p hp w
  ·exact hp.elim
theorem TQ(W:World)(s p:ByteArray):PU.res W [.val (.string s),.val (.string p)]=.tuple #[.string (pd s p),.bool (Bx s p)]:=rfl
theorem TN(W:World)(bs:List Nat)(s p:ByteArray):PU.pre W bs [.val (.string s),.val (.string p)]=(s.size<=9223372036854775807):=rfl
def gJ(W:World)(S:Nat->Prop):Prop:=(S 1/\∃ m:Int,W.cell? ⟨1,0,none⟩=some (.int .i64 m))/\(S 5/\∃ t v,W.cell? ⟨5,0,none⟩=some (.iface t v))/\S 6/\∃ t v,W.cell? ⟨6,0,none⟩=some (.iface t v)
theorem gJ.mono{W W' : World}{S S' : Nat->Prop}(h:gJ W S)(hs:cT W S W' S'):gJ W' S' := by
 obtain⟨⟨a,m,ha⟩,⟨b,t,v,hb⟩,c,t',v',hc⟩:=h;have g:∀ b o v,S b->W.cell? ⟨b,o,none⟩=some v->W'.cell? ⟨b,o,none⟩=some v/\S' b:=λb o v hS hv=>by
  have:=XC.mono (b:=b) (o:=o) (v:=v) ⟨hS,hv⟩ hs;exact⟨this.2,this.1⟩
 exact⟨⟨(g _ _ _ a ha).2,m,(g _ _ _ a ha).1⟩,⟨(g _ _ _ b hb).2,t,v,(g _ _ _ b hb).1⟩,(g _ _ _ c hc).2,t',v',(g _ _ _ c hc).1⟩
theorem gJ.dU{W w:World}{bs fp:List Nat}(h:gJ W (Out bs))(hk:LE.ah W bs w)(hm:∀ b∈fp,W.heap.size<=b\/b∈bs):gJ w (Out fp):=
 h.mono λb hb hs=>⟨hk.block b hb hs,λhb' => (hm b hb').elim (λg=>absurd g (Nat.not_le.2 hb)) hs⟩
def iu(s:ByteArray):List ByteArray:=Lib.splitB ⟨#[32]⟩ 0 (Lib.countB s ⟨#[32]⟩) s
theorem lC(s:ByteArray):(iu s).length=Lib.countB s ⟨#[32]⟩+1:=Lib.splitB_all ⟨#[32]⟩ dE 0 _ s rfl
theorem Q1(s:ByteArray)(hs:s.size<4294967281)(w:World)(hl:gJ w (Out [])):Calls prog 83 #[.string s,.string ⟨#[32]⟩] w λe w' =>
  ∃ u fp,e=.returned u/\(∀ E',a6 E' u fp w' (.row 9 1 (iu s).length ((((iu s).map Value.string)).map .v)))/\(∀ b∈fp,w.heap.size<=b/\b<w'.heap.size)/\LE.ah w [] w' := by
 obtain⟨m,hm⟩:=hl.1.2;refine (Any.strings_Split Tryz.P9 (by kernel_rfl) s ⟨#[32]⟩ m w hs hm dE).mono λe w' ⟨he,hw⟩=>?_
 subst hw;refine⟨_,[w.heap.size],he,λE' => ?_,λb hb=>?_,j9 w _⟩
 ·have hc:=Lib.countB_le ⟨#[32]⟩ dE s.size s (Nat.le_refl _);have hn:(iu s).length<=maxLen:=by
   rw[lC];unfold maxLen;omega
  have hd:au E' (List.map SV.v ((iu s).map Value.string))=(iu s).map Value.string:=aJ _ _;refine⟨?_,rfl⟩;rw[hd,<- lC];refine⟨sI,.inr ⟨w.heap.size,(iu s).length,((iu s).map Value.string).toArray,rfl,Nat.zero_le _,?_,Nat.le_refl _,hn,sI,by simp[List.take_of_length_le]⟩⟩;exact Array.getElem?_push_size
 ·rw[List.mem_singleton.1 hb];exact⟨Nat.le_refl _,sI⟩
def FE(s:ByteArray):Int:=match Lib.atoiAll s.data.toList with
 |.ok v=>v
 |.range=>Lib.atoiSat s.data.toList
 |_=>0
theorem Ut(n:Int)(h0:-9223372036854775808<=n)(h1:n<=9223372036854775807)(w:World)(ht:fC w (Out [])):Calls prog 39 #[.int .i64 n] w λe w' => e=.returned (.string (gl n))/\LE.ah w [] w' := by
 refine (Any.strconv_Itoa Tryz.Ps n h0 h1 w ht.2).mono ?_;rintro e w' ⟨rfl,k,os,rfl⟩;exact⟨rfl,LE.ah.lU (Lib.below_grow _ w (Nat.le_refl _) k os)⟩
theorem abC(s:ByteArray)(hs:s.size<=9223372036854775806)(v:Int)(h:Lib.atoiAll s.data.toList=.ok v)(w:World):Calls prog 143 #[.string s] w λe w' => e=.returned (.tuple #[.int .i64 v,.nilIface])/\LE.ah w [] w' := by
 refine (Any.strconv_Atoi_ok Tryz.zr s hs v h w).mono ?_;rintro e w' ⟨rfl,hw⟩;refine⟨rfl,?_⟩;rcases hw with rfl|⟨t,rfl⟩
 ·exact LE.ah.refl _ _
 ·exact LE.ah.lU (Lib.bytesWorld_below _ _ _)
theorem XI(s:ByteArray)(hs:s.size<=281474976710656)(h:∀ v,Lib.atoiAll s.data.toList≠.ok v)(w:World)(hl:gJ w (Out [])):Calls prog 143 #[.string s] w λe w' => (∃ N,e=.returned (.tuple #[.int .i64 (FE s),.iface 341 (.pointer (some ⟨N,0,none⟩))]))/\LE.ah w [] w' := by
 obtain⟨_,⟨_,t5,v5,h5⟩,_,t6,v6,h6⟩:=hl;cases ha:Lib.atoiAll s.data.toList with
 |ok v=>exact absurd ha (h v)
 |range=>
  refine (Any.strconv_Atoi_range Tryz.zr s hs ha _ w h6 (.inr ⟨_,_,rfl⟩)).mono ?_;rintro e w' ⟨N,rfl,_,_,hb⟩;exact⟨⟨N,by unfold FE;rw[ha];rfl⟩,LE.ah.lU hb⟩
 |_=>
  refine (Any.strconv_Atoi_syntax Tryz.zr s hs ha _ w h5 (.inr ⟨_,_,rfl⟩)).mono ?_;rintro e w' ⟨N,rfl,_,_,hb⟩;exact⟨⟨N,by unfold FE;rw[ha];rfl⟩,LE.ah.lU hb⟩
def WS(c:Int):Int:=bits .or .u8 c 32
def Bc(c:Nat):Option Nat:=if 48<=c/\c<=57 then some (c-48) else if 97<=WS c/\WS c<=102 then some (WS c-87).toNat else none
def kS:Nat->List UInt8->Option Nat
 |acc,[]=>some acc
 |acc,c::r=>match Bc c.toNat with
  |none=>none
  |some d=>kS (acc*16+d) r
def ah2:Option Nat->Value
 |some v=>.tuple #[.int .u64 (v:Nat),.nilIface]
 |none=>.tuple #[.int .u64 0,.iface 339 (.int .i64 2)]
set_option maxRecDepth 100000 in
theorem Ku(t:ByteArray)(hne:t.size≠0)(h2:t.size<=2)(w:World) :
  Calls prog 192 #[.string t,.int .i64 16,.int .i64 8] w λe w' => e=.returned (ah2 (kS 0 t.data.toList))/\w' = Lib.bytesWorld w 5 t:=by
 have hemp:t.toList.isEmpty=false:=by
  rw[<- decide_eq_emptyBytes];exact decide_eq_false (λh=>hne (by rw[h];rfl))
 have hcv:=Lib.run_convert_string_bytes (P:=prog) w 9 89 5 t (u:=.string) Tryz.underlying9 Tryz.underlying89 Tryz.underlying5;have hB:∀ j,j<t.size->(Lib.bytesWorld w 5 t).cell? ⟨w.heap.size,j,none⟩=some (.int .u8 (t.data.toList.getD j 0).toNat):=λj hj=>Lib.bytesWorld_cell w 5 t j hj
 obtain⟨W1,hW1⟩:∃ W1,W1=Lib.bytesWorld w 5 t:=⟨_,rfl⟩;rw[<- hW1]at hcv hB ⊢;clear hW1;obtain⟨bs,hL⟩:∃ bs,bs=t.data.toList:=⟨_,rfl⟩;have hLn:bs.length=t.size:=by rw[hL,Lib.size_eq]
 rw[<- hL]at hB ⊢;clear hL;have hmv:IntKind.u64.wrap (IntKind.u64.wrap 256-1)=255:=by
  rw[IntKind.wrap_u64,IntKind.wrap_u64];decide
 go_enter func192,Tryz.ntmps192
 go_wp2
 go_loop [12,13,101] (λvu vn vi=>∃ (k acc:Nat) (a:Int),vu=.bool false/\vn=.int .u64 a/\vi=.int .i64 k/\k<=t.size/\Hid (a=(acc:Int)/\((k=0->acc=0)/\(k<=1->acc<=15)/\acc<=255)/\kS 0 bs=kS acc (bs.drop k)))
  (λ_ _ vi=>t.size-(intOf vi).toNat)
 case atStart=>exact⟨0,0,0,rfl,rfl,rfl,oM,rfl,⟨λ_=>rfl,oM,oM⟩,rfl⟩
 case round=>
  obtain⟨k,acc,a,rfl,rfl,rfl,hk,hh⟩:=hrel;obtain⟨ha,⟨hacc0,hacc1,hacc⟩,hdec⟩:=hh.out;clear hh;have a0:0<=a:=oM;have a1:a<=255:=oM;by_cases hkn:k<t.size
  ·have hc:=hB k hkn;have hdrop:bs.drop k=bs[k]'oM::bs.drop (k+1):=List.drop_eq_getElem_cons oM;have hget:bs.getD k 0=bs[k]'oM:=by simp[List.getD,List.getElem?_eq_getElem (show k<bs.length by omega)]
   have a15:a<=15:=oM;rw[hdrop]at hdec;rw[hget]at hc;generalize bs[k]'oM=c at hc hdec;have hc256:c.toNat<256:=c.toNat_lt;clear hB hdrop hget;by_cases hdig:48<=c.toNat/\c.toNat<=57
   ·obtain⟨hd0,hd1⟩:=hdig;have hF:kS acc (c::bs.drop (k+1))=kS (acc*16+(c.toNat-48)) (bs.drop (k+1)):=by simp[kS,Bc,hd0,hd1]
    have HN:Hid (a*16+((c.toNat:Int)-48)=((acc*16+(c.toNat-48):Nat):Int)/\((k+1=0->acc*16+(c.toNat-48)=0)/\(k+1<=1->acc*16+(c.toNat-48)<=15)/\acc*16+(c.toNat-48)<=255)/\kS 0 bs=kS (acc*16+(c.toNat-48)) (bs.drop (k+1))):=Lib.hid ⟨oM,⟨oM,oM,oM⟩,hdec.trans hF⟩;have iov:a*16+((c.toNat:Int)-48)<=255:=oM
    clear hacc0 hacc1 hacc hF hdec ha
    go_wp2
    refine⟨⟨k+1,acc*16+(c.toNat-48),a*16+((c.toNat:Int)-48),rfl,(by first|rfl|(congr 1;omega)),(by first|rfl|(congr 1;omega)),oM,HN⟩,by simp[intOf];omega⟩
   ·have hv0:=bits_lo_u8 .or (c.toNat:Int) 32;have hv1:=bits_hi_u8 .or (c.toNat:Int) 32;have hu0:=bits_lo_u8 .or 95 32;have hu1:=bits_hi_u8 .or 95 32;by_cases hlet:97<=bits .or .u8 (c.toNat:Int) 32/\bits .or .u8 (c.toNat:Int) 32<=102
    ·obtain⟨hl0,hl1⟩:=hlet;have hF:kS acc (c::bs.drop (k+1))=kS (acc*16+(bits .or .u8 (c.toNat:Int) 32-87).toNat) (bs.drop (k+1)):=by
      have e:Bc c.toNat=some (bits .or .u8 (c.toNat:Int) 32-87).toNat:=by
       unfold Bc WS;rw[if_neg hdig,if_pos ⟨hl0,hl1⟩]
      simp only[kS,e]
     obtain⟨d,hd⟩:∃ d,d=bits .or .u8 (c.toNat:Int) 32:=⟨_,rfl⟩;rw[<- hd]at hF hv0 hv1 hl0 hl1
     have HN:Hid (a*16+(d-97+10)=((acc*16+(d-87).toNat:Nat):Int)/\((k+1=0->acc*16+(d-87).toNat=0)/\(k+1<=1->acc*16+(d-87).toNat<=15)/\acc*16+(d-87).toNat<=255)/\kS 0 bs=kS (acc*16+(d-87).toNat) (bs.drop (k+1))):=Lib.hid ⟨oM,⟨oM,oM,oM⟩,hdec.trans hF⟩;have iov:a*16+(d-97+10)<=255:=oM
     have h95:c.toNat≠95:=λe=>by
      rw[e]at hd;have:bits .or .u8 ((95:Nat):Int) 32=127:=by decide +kernel
      omega
     clear hacc0 hacc1 hacc hF hdec ha;rw[hd]at hv0 hv1 hl0 hl1 iov;subst hd
     go_wp2
     all_goals refine⟨⟨k+1,acc*16+(bits .or .u8 (c.toNat:Int) 32-87).toNat,a*16+(bits .or .u8 (c.toNat:Int) 32-97+10),rfl,(by first|rfl|(congr 1;omega)),(by first|rfl|(congr 1;omega)),oM,HN⟩,by simp[intOf];omega⟩
    ·have hF:kS acc (c::bs.drop (k+1))=none:=by
      have e:Bc c.toNat=none:=by
       unfold Bc WS;rw[if_neg hdig,if_neg hlet]
      simp only[kS,e]
     rw[hF]at hdec;clear hacc0 hacc1 hacc hF ha
     go_wp2
     all_goals go_ret2
     all_goals first|exact⟨rfl,rfl⟩|exact⟨by rw[hdec];rfl,rfl⟩
  ·have hkk:k=t.size:=oM;subst hkk;have hF:kS acc (bs.drop t.size)=some acc:=by rw[List.drop_eq_nil_of_le oM];rfl
   rw[hF]at hdec;subst ha;clear hacc0 hacc1 hacc hF a0 a1
   go_wp2
   go_ret2
   first|exact⟨rfl,rfl⟩|exact⟨by rw[hdec];rfl,rfl⟩
def iE(s:ByteArray):Bool:=decide (s.size<=9)&&match Lib.atoiAll s.data.toList with
 |.ok v=>decide (gl v=s)&&decide (0<=v)
 |_=>false
def rT(s:ByteArray):Int:=if s.size<=9 then FE s else 0
def Eo:aM prog 39 where
 pre:=λW bs=>λ| [.val (.int .i64 n)]=>(-9223372036854775808<=n/\n<=9223372036854775807)/\fC W (Out bs)|_=>False
 res:=λW=>λ| [.val (.int .i64 n)]=>.string (gl n)|_=>undef
 enters:=call39
 ok:=by
  intro W w bs us as_ hk hu hp;split at hp
  ·rename_i n
   match us,hu with
   |[u0],hu=>
    obtain⟨rfl,_⟩:=hu;exact Ut n hp.1.1 hp.1.2 w (hp.2.dU hk sI)
  ·exact hp.elim
theorem L4(W:World)(n:Int):Eo.res W [.val (.int .i64 n)]=.string (gl n):=rfl
theorem MS(W:World)(bs:List Nat)(n:Int):Eo.pre W bs [.val (.int .i64 n)]=((-9223372036854775808<=n/\n<=9223372036854775807)/\fC W (Out bs)):=rfl
def Ea(s:ByteArray)(v:Int)(h:Lib.atoiAll s.data.toList=.ok v)(hs:s.size<=9):aM prog 143 where
 pre:=λW bs as_=>as_=[.val (.string s)]
 res:=λ_ _=>.tuple #[.int .i64 v,.nilIface]
 enters:=call143
 ok:=by
  intro W w bs us as_ hk hu hp;subst hp
  match us,hu with
  |[x],hu=>
   obtain⟨rfl,_⟩:=hu;exact abC s oM v h w
section
variable (s:ByteArray)(v:Int)(h:Lib.atoiAll s.data.toList=.ok v)(hs:s.size<=9)
noncomputable def SM:Env prog:=⟨λ| 39=>some Eo.spec|143=>some (Ea s v h hs).spec|_=>none,λ_=>none,λ_ _=>none⟩
theorem acF:(SM s v h hs).sp 39=some Eo.spec:=rfl
theorem U5:(SM s v h hs).sp 143=some (Ea s v h hs).spec:=rfl
end
def Bf:=(aj @List.replicate_succ.{0} @List.replicate_zero.{0} @an @ab gR ck cf (aj b9 b8 ca cc cg cd dc (aj df dh db cY c8 Wn Vd (aj XK aap alY ak3 @aG @al @ax (ml @aw @L4 @MS @acF @U5 @Ea.eq_1)))))
theorem SD(s:ByteArray)(v:Int)(h:Lib.atoiAll s.data.toList=.ok v)(hs:s.size<=9)(hv:-9223372036854775808<=v/\v<=9223372036854775807)(w:World)(ht:fC w (Out [])):Calls prog 84 #[.string s] w λe w' => e=.returned (.tuple #[.int .i64 v,.bool (decide (gl v=s)&&decide (0<=v))])/\LE.ah w [] w' := by
 refine af (nt:=27) [.tmp 2,.tmp 3] func84 rfl rfl rfl ?_;refine vR (SM s v h hs) Bf ?_;refine Wp.seq ?_;refine vR (SM s v h hs) Bf ?_;refine wC Bf (λhc=>?_) (λhc=>?_)
 ·exact absurd hc (by simp;omega)
 refine wK ?_;refine vR (SM s v h hs) Bf ?_;refine vR (SM s v h hs) Bf ?_;refine wZ Bf ?_;exact λE=>rfl
theorem MP(s:ByteArray)(hs:s.size<=9)(h:∀ v,Lib.atoiAll s.data.toList≠.ok v)(w:World)(hl:gJ w (Out [])):Calls prog 84 #[.string s] w λe w' => e=.returned (.tuple #[.int .i64 (FE s),.bool false])/\LE.ah w [] w' := by
 have hw:=XI s oM h w hl;have hlt:¬ (9:Int)<(s.size:Int):=oM
 go_enter func84,Tryz.ntmps84
 go_wp2_with (refine hw.mono ?_)
 rintro e w1 N rfl hk
 go_wp2
 all_goals go_returns
 all_goals trivial
theorem H3(s:ByteArray)(hs:9<s.size)(hm:s.size<=9223372036854775807)(w:World):Calls prog 84 #[.string s] w λe w' => e=.returned (.tuple #[.int .i64 0,.bool false])/\LE.ah w [] w' := by
 refine af (nt:=27) [.tmp 2,.tmp 3] func84 rfl rfl rfl ?_;refine vR Γ0 Bf ?_;refine Wp.seq ?_;refine vR Γ0 Bf ?_;refine wC Bf (λhc=>?_) (λhc=>?_)
 ·skip;refine vR Γ0 Bf ?_;refine wZ Bf ?_;exact λE=>rfl
 ·exact absurd hc (by simp;omega)
theorem Vq(s:ByteArray)(hm:s.size<=9223372036854775807)(w:World)(ht:fC w (Out []))(hl:gJ w (Out [])):Calls prog 84 #[.string s] w λe w' => e=.returned (.tuple #[.int .i64 (rT s),.bool (iE s)])/\LE.ah w [] w' := by
 by_cases hs:s.size<=9
 ·have e1:rT s=FE s:=by rw[rT,if_pos hs]
  rw[e1];cases ha:Lib.atoiAll s.data.toList with
  |ok v=>
   have e2:FE s=v:=by rw[FE,ha]
   have e3:iE s=(decide (gl v=s)&&decide (0<=v)):=by rw[iE,ha,decide_eq_true hs,Bool.true_and]
   rw[e2,e3];exact SD s v ha hs (Lib.atoiAll_bounds ha) w ht
  |_=>
   have e3:iE s=false:=by rw[iE,ha,Bool.and_false]
   rw[e3];exact MP s hs (λv hv=>by rw[ha]at hv;cases hv) w hl
 ·have e1:rT s=0:=by rw[rT,if_neg hs]
  have e2:iE s=false:=by rw[iE,decide_eq_false hs,Bool.false_and]
  rw[e1,e2];exact H3 s oM hm w
def DO:aM prog 84 where
 pre:=λW bs=>λ| [.val (.string s)]=>s.size<=9223372036854775807/\fC W (Out bs)/\gJ W (Out bs)|_=>False
 res:=λW=>λ| [.val (.string s)]=>.tuple #[.int .i64 (rT s),.bool (iE s)]|_=>undef
 enters:=call84
 ok:=by
  intro W w bs us as_ hk hu hp;split at hp
  ·rename_i s
   match us,hu with
   |[u0],hu=>
    obtain⟨rfl,_⟩:=hu;exact Vq s hp.1 w (hp.2.1.dU hk sI) (hp.2.2.dU hk sI)
  ·exact hp.elim
theorem C8(W:World)(s:ByteArray):DO.res W [.val (.string s)]=.tuple #[.int .i64 (rT s),.bool (iE s)]:=rfl
theorem Dj(W:World)(bs:List Nat)(s:ByteArray):DO.pre W bs [.val (.string s)]=(s.size<=9223372036854775807/\fC W (Out bs)/\gJ W (Out bs)):=rfl
def kz(s h:ByteArray):Bool:=decide (h.size<=s.size)&&decide (s.extract 0 h.size=h)
def uO:=(aj @List.replicate_succ.{0} @List.replicate_zero.{0} @an @ab gR ck cf (aj b9 b8 ca cc cg cd fu (aj fh fy ft fB dc df dh (ur db cY c8 @aG @al @ax @aw))))
theorem Lf(s h:ByteArray)(w:World):Calls prog 43 #[.string s,.string h] w λe w' => e=.returned (.bool (kz s h))/\ah w [] w' := by
 refine af (nt:=18) [.tmp 4] func43 rfl rfl rfl ?_;refine vR Γ0 uO ?_;by_cases hl:h.size<=s.size
 ·have e1:decide ((h.size:Int)<=(s.size:Int))=true:=by simp;omega
  have e2:kz s h=decide (s.extract 0 h.size=h):=by rw[kz,decide_eq_true hl,Bool.true_and]
  rw[e2];refine wR Γ0 (aa uO e1) ?_ ?_
  ·omega
  refine wZ uO ?_;exact λE=>rfl
 ·have e1:decide ((h.size:Int)<=(s.size:Int))=false:=by simp;omega
  have e2:kz s h=false:=by rw[kz,decide_eq_false hl,Bool.false_and]
  rw[e2];refine wR Γ0 (aa uO e1) ?_ ?_
  ·exact λh=>by cases h
  refine wZ uO ?_;exact λE=>rfl
def oO(s:ByteArray):ByteArray:=if s.size<5 then ⟨#[]⟩ else s.extract 5 s.size
theorem Ui(s:ByteArray)(w:World):Calls prog 45 #[.string s] w λe w' => e=.returned (.string (oO s))/\ah w [] w' := by
 refine af (nt:=8) [.tmp 2] func45 rfl rfl rfl ?_;refine vR Γ0 uO ?_;refine Wp.seq ?_;refine vR Γ0 uO ?_;refine wC uO (λhc=>?_) (λhc=>?_)
 ·have h:s.size<5:=by simp at hc;omega
  rw[oO,if_pos h];refine vR Γ0 uO ?_;refine wZ uO ?_;exact λE=>rfl
 ·have h:¬ s.size<5:=by simp at hc;omega
  rw[oO,if_neg h];refine wK ?_;refine wR Γ0 uO ?_ ?_
  ·omega
  refine wZ uO ?_;exact λE=>rfl
def yf:aM prog 43 where
 pre:=λW bs=>λ| [.val (.string s),.val (.string h)]=>True|_=>False
 res:=λW=>λ| [.val (.string s),.val (.string h)]=>.bool (kz s h)|_=>undef
 enters:=call43
 ok:=by
  intro W w bs us as_ hk hu hp;split at hp
  ·rename_i s h
   match us,hu with
   |[u0,u1],hu=>
    obtain⟨rfl,rfl,_⟩:=hu;exact Lf s h w
  ·exact hp.elim
theorem xq(W:World)(s h:ByteArray):yf.res W [.val (.string s),.val (.string h)]=.bool (kz s h):=rfl
theorem v8(W:World)(bs:List Nat)(s h:ByteArray):yf.pre W bs [.val (.string s),.val (.string h)]=(True):=rfl
def Fo:aM prog 45 where
 pre:=λW bs=>λ| [.val (.string s)]=>True|_=>False
 res:=λW=>λ| [.val (.string s)]=>.string (oO s)|_=>undef
 enters:=call45
 ok:=by
  intro W w bs us as_ hk hu hp;split at hp
  ·rename_i s
   match us,hu with
   |[u0],hu=>
    obtain⟨rfl,_⟩:=hu;exact Ui s w
  ·exact hp.elim
theorem At(W:World)(s:ByteArray):Fo.res W [.val (.string s)]=.string (oO s):=rfl
theorem y8(W:World)(bs:List Nat)(s:ByteArray):Fo.pre W bs [.val (.string s)]=(True):=rfl
def qh(s:ByteArray):Nat->Int
 |0=>0
 |k+1=>10*qh s k+(bt s k-48)
def GB(s:ByteArray)(k:Nat):Bool:=decide (48<=bt s k)&&decide (bt s k<=57)
def bR(s:ByteArray):Bool:=(decide (1<=s.size)&&decide (s.size<=9)&&!(decide (bt s 0=48)&&decide (1<s.size)))&&(List.range s.size).all (GB s)
def iK(s:ByteArray):Int:=if bR s=true then qh s s.size else 0
theorem OX{s:ByteArray}:∀ k,(∀ j<k,GB s j=true)->0<=qh s k/\qh s k<10 ^ k
 |0,_=>⟨Int.le_refl _,by show (0:Int)<1;decide⟩
 |k+1,h=>by
  obtain⟨h1,h2⟩:=OX k λj hj=>h j oM
  have h3:=h k oM;simp only[GB,Bool.and_eq_true,decide_eq_true_eq]at h3;show 0<=10*qh s k+(bt s k-48)/\10*qh s k+(bt s k-48)<10 ^ (k+1);rw[Int.pow_succ];omega
theorem ab2{s:ByteArray}:s.size=0 ↔ s=⟨#[]⟩:=by
 rcases s with ⟨⟨l⟩⟩;cases l<;>simp[ByteArray.size]
def ov:=(oA uO @xq @v8 @At @y8)
theorem ag9(s:ByteArray)(w:World):Calls prog 47 #[.string s] w λe w' => e=.returned (.tuple #[.int .i64 (iK s),.bool (bR s)])/\ah w [] w' := by
 have hz:=ab2 (s:=s);have hno:bR s=false->iK s=0:=λh=>by rw[iK,if_neg (by rw[h];simp)]
 refine af (nt:=48) [.tmp 2,.tmp 3] func47 rfl rfl rfl ?_;refine vR Γ0 ov ?_;refine Wp.seq ?_;refine wR Γ0 ov ?_ ?_
 ·intro h;simp only[Bool.not_eq_true',Bool.or_eq_false_iff,decide_eq_false_iff_not]at h;have:¬ s.size=0:=λh0=>h.1 (hz.1 h0)
  omega
 refine wC ov (λhc=>?_) (λhc=>?_)
 ·have h:bR s=false:=by
   simp only[Bool.or_eq_true,Bool.and_eq_true,decide_eq_true_eq]at hc;simp only[bR,Bool.and_eq_false_iff,Bool.not_eq_false',Bool.and_eq_true,decide_eq_true_eq,decide_eq_false_iff_not];have hz' := hz.2;rcases hc with (hc|hc)|hc
   ·have:=hz' hc;omega
   ·omega
   ·exact .inl (.inr ⟨hc.1,oM⟩)
  rw[h,hno h];refine vR Γ0 ov ?_;refine wZ ov ?_;exact λE=>rfl
 have hh:1<=s.size/\s.size<=9/\¬ (bt s 0=48/\1<s.size):=by
  simp only[Bool.or_eq_false_iff,Bool.and_eq_false_iff,decide_eq_false_iff_not]at hc;have:¬ s.size=0:=λh0=>hc.1.1 (hz.1 h0)
  refine⟨oM,oM,λh=>?_⟩;rcases hc.2 with g|g
  ·exact g h.1
  ·omega
 obtain⟨g1,g2,g3⟩:=hh;have hall:bR s=(List.range s.size).all (GB s):=by
  have e1:(decide (1<=s.size)&&decide (s.size<=9)&&!(decide (bt s 0=48)&&decide (1<s.size)))=true:=by
   rw[decide_eq_true g1,decide_eq_true g2];by_cases h0:bt s 0=48
   ·rw[decide_eq_false (show ¬ 1<s.size from λh=>g3 ⟨h0,h⟩)];simp
   ·rw[decide_eq_false h0];rfl
  rw[bR,e1,Bool.true_and]
 refine wK ?_;refine vR Γ0 ov ?_;refine Wp.seq ?_;refine vR Γ0 ov ?_;refine Wp.block ?_
 refine Wp.loop (λk:Nat=>⟨30,bm [(0,.is (.v (.string s))),(4,.is (.v (.int .i64 (qh s k)))),(5,.is (.v (.int .i64 (k:Nat))))],aY []⟩) (λk=>k<=s.size/\∀ j<k,GB s j=true) (λk=>s.size-k) 0 ?_ ⟨Nat.zero_le _,λj hj=>by omega⟩ ?_
 ·exact wM (λk=>.key k) (bP ov @qh.eq_1 @qh.eq_2)
 rintro k ⟨hk,hd⟩;refine Wp.seq ?_;refine vR Γ0 ov ?_;refine wC ov (λhc=>?_) (λhc=>?_)
 ·have hlt:k<s.size:=by
   simp at hc;omega
  have wk:IntKind.i64.wrap ((k:Int)+1)=((k+1:Nat):Int):=wW;obtain⟨b0,b1⟩:=jo s k;obtain⟨d0,d1⟩:=OX k hd;have d3:(10:Int) ^ k<=10 ^ 9:=by
   have h:=Nat.pow_le_pow_right (n:=10) dE (show k<=9 by omega)
   exact_mod_cast h
  have d2:qh s k<10 ^ 9:=Int.lt_of_lt_of_le d1 d3;refine wK ?_;refine Wp.seq (Wp.block ?_);refine Wp.seq ?_;refine wR Γ0 ov ?_ ?_
  ·omega
  refine wC ov (λhc=>?_) (λhc=>?_)
  ·have h:bR s=false:=by
    rw[hall,List.all_eq_false];refine⟨k,List.mem_range.2 hlt,?_⟩;simp only[Bool.or_eq_true,decide_eq_true_eq]at hc;simp only[GB,Bool.and_eq_true,decide_eq_true_eq];omega
   rw[h,hno h];refine vR Γ0 ov ?_;refine wZ ov ?_;exact λE=>rfl
  ·have hg:48<=bt s k/\bt s k<=57:=by
    simp only[Bool.or_eq_false_iff,decide_eq_false_iff_not]at hc;omega
   have u1:IntKind.u8.wrap (bt s k-48)=bt s k-48:=eQ oM oM;have u2:IntKind.i64.wrap (10*qh s k)=10*qh s k:=ae oM oM;have u3:IntKind.i64.wrap (10*qh s k+(bt s k-48))=qh s (k+1):=ae oM oM;have u4:IntKind.i64.wrap (bt s k-48)=bt s k-48:=ae oM oM;refine wK ?_;refine wr Γ0 (oA ov u1 u2 u4 u3) ?_ ?_
   ·omega
   refine vr Γ0 (aa ov wk) ?_;refine⟨k+1,⟨oM,λj hj=>?_⟩,oM,?_⟩
   ·by_cases e:j=k
    ·rw[e,GB,decide_eq_true hg.1,decide_eq_true hg.2];rfl
    ·exact hd j oM
   ·exact wM (λk=>.key k) ov
 ·have hk' : k=s.size:=by
   simp at hc;omega
  subst hk';have h:bR s=true:=by
   rw[hall,List.all_eq_true];exact λj hj=>hd j (List.mem_range.1 hj)
  have hv:iK s=qh s s.size:=by rw[iK,if_pos h]
  rw[h,hv];refine wE ?_;refine vR Γ0 ov ?_;refine wZ ov ?_;exact λE=>rfl
def Rl:aM prog 47 where
 pre:=λW bs=>λ| [.val (.string s)]=>True|_=>False
 res:=λW=>λ| [.val (.string s)]=>.tuple #[.int .i64 (iK s),.bool (bR s)]|_=>undef
 enters:=call47
 ok:=by
  intro W w bs us as_ hk hu hp;split at hp
  ·rename_i s
   match us,hu with
   |[u0],hu=>
    obtain⟨rfl,_⟩:=hu;exact ag9 s w
  ·exact hp.elim
theorem Ia(W:World)(s:ByteArray):Rl.res W [.val (.string s)]=.tuple #[.int .i64 (iK s),.bool (bR s)]:=rfl
theorem Hd(W:World)(bs:List Nat)(s:ByteArray):Rl.pre W bs [.val (.string s)]=(True):=rfl
def opR:Rx->Int
 |.eps=>0
 |.cls _=>1
 |.cat _ _=>2
 |.alt _ _=>3
 |.star _=>4
 |.and _ _=>5
 |.minus _ _=>6
def rkO(op:Int):Int:=if op=3 then 0 else if op=5\/op=6 then 1 else if op=2 then 2 else if op=4 then 3 else 4
theorem aj8(t:Rx):rkO (opR t)=vc t:=by cases t<;>rfl
def kv:=(aj jk jn gR ck cf b9 b8 (aj ca cc cg cd dc df dh (aj db cY c8 xi vU xj tK (aj yX AW Aa Al A5 AB DT (aj Dq DD Cq sK wP wU sF (aj vY wV xn vW wA wO w6 (aj @aG @al @ax @aw @Nq @NX @ajq (aj @aki @aiY @ah5 @ajj @EU @rM @OF (aj @J5 @Bz @aA @dN @lO @mm @iX @CM)))))))))
theorem Ug(op:Int)(w:World):Calls prog 207 #[.int .i64 op] w λe w' => e=.returned (.int .i64 (rkO op))/\ah w [] w' := by
 refine af (nt:=13) [.tmp 2] func207 rfl rfl rfl ?_;refine vR Γ0 kv ?_;refine Wp.seq ?_;refine vR Γ0 kv ?_;refine Wp.block ?_;refine vR Γ0 kv ?_;refine wC kv (λhc=>?_) (λhc=>?_)
 ·have h:op=3:=by simpa using hc
  rw[rkO,if_pos h];refine vR Γ0 kv ?_;refine wZ kv ?_;exact λE=>rfl
 have n3:¬ op=3:=by simpa using hc
 rw[rkO,if_neg n3];refine aV ⟨40,bm [(3,.is (.v (.int .i64 op))),(6,.is (.v (.bool (decide (op=5\/op=6)))))],aY []⟩ ?_ ?_
 ·skip;refine vR Γ0 kv ?_;refine wC kv (λhc=>?_) (λhc=>?_)
  ·have h:op=5:=by simpa using hc
   rw[show decide (op=5\/op=6)=true by simp[h]];refine wK ?_;exact wM (λk=>.key k) (aa kv hc)
  ·have h:¬ op=5:=by simpa using hc
   rw[show decide (op=5\/op=6)=decide (op=6) by simp[h]];refine vr Γ0 kv ?_;exact wM (λk=>.key k) kv
 refine wC kv (λhc=>?_) (λhc=>?_)
 ·have h:op=5\/op=6:=by simpa using hc
  rw[if_pos h];refine vR Γ0 kv ?_;refine wZ kv ?_;exact λE=>rfl
 have n5:¬ (op=5\/op=6):=by simpa using hc
 rw[if_neg n5];refine vR Γ0 kv ?_;refine wC kv (λhc=>?_) (λhc=>?_)
 ·have h:op=2:=by simpa using hc
  rw[if_pos h];refine vR Γ0 kv ?_;refine wZ kv ?_;exact λE=>rfl
 have n2:¬ op=2:=by simpa using hc
 rw[if_neg n2];refine vR Γ0 kv ?_;refine wC kv (λhc=>?_) (λhc=>?_)
 ·have h:op=4:=by simpa using hc
  rw[if_pos h];refine vR Γ0 kv ?_;refine wZ kv ?_;exact λE=>rfl
 have n4:¬ op=4:=by simpa using hc
 rw[if_neg n4];refine wK ?_;refine vR Γ0 kv ?_;refine wZ kv ?_;exact λE=>rfl
def Gf:aM prog 207 where
 pre:=λW bs=>λ| [.val (.int .i64 op)]=>True|_=>False
 res:=λW=>λ| [.val (.int .i64 op)]=>.int .i64 (rkO op)|_=>undef
 enters:=call207
 ok:=by
  intro W w bs us as_ hk hu hp;split at hp
  ·rename_i op
   match us,hu with
   |[u0],hu=>
    obtain⟨rfl,_⟩:=hu;exact Ug op w
  ·exact hp.elim
theorem KT(W:World)(op:Int):Gf.res W [.val (.int .i64 op)]=.int .i64 (rkO op):=rfl
theorem KH(W:World)(bs:List Nat)(op:Int):Gf.pre W bs [.val (.int .i64 op)]=(True):=rfl
def oW(l:List Nd):Nat->Rx->Prop
 |i,.eps=>∃ d,l[i]?=some d/\d.op=0
 |i,.cls S=>∃ d,l[i]?=some d/\d.op=1/\d.set=S
 |i,.cat a b=>∃ d,∃ x y:Nat,l[i]?=some d/\d.op=2/\d.a=x/\d.b=y/\x<y/\oW l x a/\oW l y b
 |i,.alt a b=>∃ d,∃ x y:Nat,l[i]?=some d/\d.op=3/\d.a=x/\d.b=y/\x<y/\oW l x a/\oW l y b
 |i,.star a=>∃ d,∃ x:Nat,l[i]?=some d/\d.op=4/\d.a=x/\oW l x a
 |i,.and a b=>∃ d,∃ x y:Nat,l[i]?=some d/\d.op=5/\d.a=x/\d.b=y/\x<y/\oW l x a/\oW l y b
 |i,.minus a b=>∃ d,∃ x y:Nat,l[i]?=some d/\d.op=6/\d.a=x/\d.b=y/\x<y/\oW l x a/\oW l y b
theorem oW.op{l:List Nd}{i:Nat}{t:Rx}(h:oW l i t):∃ d,l[i]?=some d/\d.op=opR t:=by
 cases t with
 |eps=>obtain⟨d,h1,h2⟩:=h;exact⟨d,h1,h2⟩
 |cls S=>obtain⟨d,h1,h2,_⟩:=h;exact⟨d,h1,h2⟩
 |star a=>obtain⟨d,_,h1,h2,_⟩:=h;exact⟨d,h1,h2⟩
 |cat a b=>obtain⟨d,_,_,h1,h2,_⟩:=h;exact⟨d,h1,h2⟩
 |alt a b=>obtain⟨d,_,_,h1,h2,_⟩:=h;exact⟨d,h1,h2⟩
 |and a b=>obtain⟨d,_,_,h1,h2,_⟩:=h;exact⟨d,h1,h2⟩
 |minus a b=>obtain⟨d,_,_,h1,h2,_⟩:=h;exact⟨d,h1,h2⟩
theorem yc{α:Type}(l:List α)(d:α)(r:List α){k:Nat}(hk:k=l.length):(l++d::r)[k]?=some d:=by
 subst hk;simp
theorem ajr:∀ (t:Rx) (pre post:List Nd),oW (pre++eA pre.length t++post) (pre.length+aI t-1) t:=by
 have two:∀ (a b:Rx) (d:Nd) (pre post:List Nd),(∀ pre post:List Nd,oW (pre++eA pre.length a++post) (pre.length+aI a-1) a)->(∀ pre post:List Nd,oW (pre++eA pre.length b++post) (pre.length+aI b-1) b) ->
   (pre++(eA pre.length a++(eA (pre.length+aI a) b++[d]))++post)[pre.length+(aI a+aI b+1)-1]?=some d/\oW (pre++(eA pre.length a++(eA (pre.length+aI a) b++[d]))++post) (pre.length+aI a-1) a/\oW (pre++(eA pre.length a++(eA (pre.length+aI a) b++[d]))++post) (pre.length+aI a+aI b-1) b:=by
  intro a b d pre post ha hb;have la:=gp a pre.length;have lb:=gp b (pre.length+aI a);have e1:pre++(eA pre.length a++(eA (pre.length+aI a) b++[d]))++post=(pre++eA pre.length a++eA (pre.length+aI a) b)++d::post:=by simp
  have e2:pre++(eA pre.length a++(eA (pre.length+aI a) b++[d]))++post=pre++eA pre.length a++(eA (pre.length+aI a) b++d::post):=by simp
  have e3:pre++(eA pre.length a++(eA (pre.length+aI a) b++[d]))++post=(pre++eA pre.length a)++eA (pre++eA pre.length a).length b++d::post:=by rw[List.length_append,la];simp
  refine⟨?_,?_,?_⟩
  ·rw[e1];exact yc _ _ _ (by rw[List.length_append,List.length_append,la,lb];omega)
  ·rw[e2];exact ha pre _
  ·rw[e3];have h:=hb (pre++eA pre.length a) (d::post);rw[List.length_append,la]at h ⊢;exact h
 intro t
 induction t with
 |eps=>intro pre post;exact⟨_,by show (pre++[cl 0 0 0]++post)[pre.length+1-1]?=_;rw[List.append_assoc];exact yc _ _ _ oM,rfl⟩
 |cls S=>intro pre post;exact⟨_,by show (pre++[⟨1,S,0,0,0,0⟩]++post)[pre.length+1-1]?=_;rw[List.append_assoc];exact yc _ _ _ oM,rfl,rfl⟩
 | star a ih=>
  intro pre post;have la:=gp a pre.length;have hp:=jN a;refine⟨cl 4 ((pre.length+aI a-1:Nat):Int) 0,pre.length+aI a-1,?_,rfl,rfl,?_⟩
  ·have e1:pre++eA pre.length (.star a)++post=(pre++eA pre.length a)++cl 4 ((pre.length+aI a-1:Nat):Int) 0::post:=by simp[eA]
   rw[e1];exact yc _ _ _ (by rw[List.length_append,la];show pre.length+(aI a+1)-1=_;omega)
  ·have e2:pre++eA pre.length (.star a)++post=pre++eA pre.length a++cl 4 ((pre.length+aI a-1:Nat):Int) 0::post:=by simp[eA]
   rw[e2];exact ih pre _
 |cat a b iha ihb=>
  intro pre post;have hp:=jN a;have hq:=jN b;obtain⟨h1,h2,h3⟩:=two a b _ pre post iha ihb;exact⟨_,pre.length+aI a-1,pre.length+aI a+aI b-1,h1,rfl,rfl,rfl,oM,h2,h3⟩
 |alt a b iha ihb=>
  intro pre post;have hp:=jN a;have hq:=jN b;obtain⟨h1,h2,h3⟩:=two a b _ pre post iha ihb;exact⟨_,pre.length+aI a-1,pre.length+aI a+aI b-1,h1,rfl,rfl,rfl,oM,h2,h3⟩
 |and a b iha ihb=>
  intro pre post;have hp:=jN a;have hq:=jN b;obtain⟨h1,h2,h3⟩:=two a b _ pre post iha ihb;exact⟨_,pre.length+aI a-1,pre.length+aI a+aI b-1,h1,rfl,rfl,rfl,oM,h2,h3⟩
 |minus a b iha ihb=>
  intro pre post;have hp:=jN a;have hq:=jN b;obtain⟨h1,h2,h3⟩:=two a b _ pre post iha ihb;exact⟨_,pre.length+aI a-1,pre.length+aI a+aI b-1,h1,rfl,rfl,rfl,oM,h2,h3⟩
abbrev reV (ao:Option Addr)(n c:Nat)(r:Int):Value:=.agg #[.slice ao n c,.int .i64 r]
abbrev mJ (l:List Nd)(ao:Option Addr)(c:Nat)(r:Int)(i:Nat)(t:Rx):Prop:=∀ w,kJ w ao (dD l)->Calls prog 102 #[reV ao l.length c r,.int .i64 (i:Nat)] w λe w' => e=.returned (.string (cr t))/\ah w [] w'
abbrev AtT (l:List Nd)(ao:Option Addr)(c:Nat)(r:Int)(i:Nat)(t:Rx):Prop:=∀ (need:Int) (w:World),kJ w ao (dD l)->Calls prog 157 #[reV ao l.length c r,.int .i64 (i:Nat),.int .i64 need] w λe w' => e=.returned (.string (Gv t need))/\ah w [] w'
theorem gH{W w:World}{bs:List Nat}{ao:Option Addr}{vs:List Value}(h:gO W (Out bs) ao vs)(hk:ah W bs w):kJ w ao vs:=(h.mono hk.lZ).is
section
variable (l:List Nd)(ao:Option Addr)(c:Nat)(r:Int)
def ZT(i:Nat)(t:Rx)(h:mJ l ao c r i t):aM prog 102 where
 pre:=λW bs as_=>as_=[.val (reV ao l.length c r),.val (.int .i64 (i:Nat))]/\gO W (Out bs) ao (dD l)
 res:=λ_ _=>.string (cr t)
 enters:=call102
 ok:=by
  intro W w bs us as_ hk hu hp;obtain⟨rfl,h1⟩:=hp
  match us,hu with
  |[x,y],hu=>
   obtain⟨rfl,rfl,_⟩:=hu;exact h w (gH h1 hk)
noncomputable def Γ81(i:Nat)(t:Rx)(h:mJ l ao c r i t):Env prog:=⟨λ| 102=>some (ZT l ao c r i t h).spec|207=>some Gf.spec|_=>none,λ_=>none,λ_ _=>none⟩
theorem aeI(i:Nat)(t:Rx)(h:mJ l ao c r i t):(Γ81 l ao c r i t h).sp 102=some (ZT l ao c r i t h).spec:=rfl
theorem ago(i:Nat)(t:Rx)(h:mJ l ao c r i t):(Γ81 l ao c r i t h).sp 207=some Gf.spec:=rfl
theorem RB{w:World}{i:Nat}{d:Nd}(hs:kJ w ao (dD l))(hd:l[i]?=some d):i<l.length/\∃ b o,ao=some ⟨b,o,none⟩/\w.cell? ⟨b,o+i*261,none⟩=some (.int .i64 d.op):=by
 obtain⟨hk,hd⟩:=List.getElem?_eq_some_iff.1 hd;obtain⟨b,o,h1,h2,_⟩:=kJ.nd hs hk;rw[hd]at h2;exact⟨hk,b,o,h1,h2⟩
def Gq:=(ml kv KT KH @aeI @ago @ZT.eq_1)
theorem kY(i:Nat)(t:Rx)(ht:oW l i t)(hsz:aI t<=4000000)(h:mJ l ao c r i t):AtT l ao c r i t:=by
 intro need w hs;obtain⟨d,hd,hop⟩:=ht.op;obtain⟨hi,b,o,rfl,hx⟩:=RB l ao hs hd;have hrk:=aj8 t;rw[<- hop]at hrk;have hbs:=dB t;refine af (nt:=24) [.tmp 6] func157 rfl rfl rfl ?_;refine vR Γ0 Gq ?_;refine wR (Γ81 l (some ⟨b,o,none⟩) c r i t h) Gq ?_ ?_
 ·exact (gO.oJ hs).out λ_ _=>by simp[Out]
 refine Wp.seq ?_;refine wR (Γ81 l (some ⟨b,o,none⟩) c r i t h) (bP Gq hx hrk) ?_ ?_
 ·omega
 refine wC Gq (λhc=>?_) (λhc=>?_)
 ·have hlt:vc t<need:=by simpa using hc
  have e:Gv t need=lpB++cr t++rpB:=by rw[Gv,qv,if_pos hlt]
  rw[e];refine wR Γ0 Gq ?_ ?_
  ·refine⟨?_,?_⟩
   ·show 1+_<=_;omega
   ·rw[ByteArray.size_append];show 1+_+1<=_;omega
  refine wZ Gq ?_;exact λE=>rfl
 ·have hlt:¬ vc t<need:=by simpa using hc
  have e:Gv t need=cr t:=by rw[Gv,qv,if_neg hlt]
  rw[e];refine wK ?_;refine vR Γ0 Gq ?_;refine wZ Gq ?_;exact λE=>rfl
def atC(x y:Nat)(a b:Rx)(ha:AtT l ao c r x a)(hb:AtT l ao c r y b):aM prog 157 where
 pre:=λW bs as_=>∃ i need:Int,as_=[.val (reV ao l.length c r),.val (.int .i64 i),.val (.int .i64 need)]/\(i=x\/i=y)/\gO W (Out bs) ao (dD l)
 res:=λ_ as_=>match as_ with
  |[_,.val (.int _ i),.val (.int _ need)]=>.string (Gv (if i=x then a else b) need)
  |_=>undef
 enters:=call157
 ok:=by
  intro W w bs us as_ hk hu hp;obtain⟨i,need,rfl,h1,h2⟩:=hp
  match us,hu with
  | [u1,u2,u3],hu=>
   obtain⟨rfl,rfl,rfl,_⟩:=hu;by_cases hx:i=x
   ·subst hx;simp only[if_true];exact ha need w (gH h2 hk)
   ·obtain rfl:=h1.resolve_left hx;simp only[if_neg hx];exact hb need w (gH h2 hk)
section
variable (x y:Nat)(a b:Rx)(ha:AtT l ao c r x a)(hb:AtT l ao c r y b)
theorem afj(W:World)(bs:List Nat)(i need:Int):(atC l ao c r x y a b ha hb).pre W bs [.val (reV ao l.length c r),.val (.int .i64 i),.val (.int .i64 need)]=((i=x\/i=y)/\gO W (Out bs) ao (dD l)):=by
 apply propext;constructor
 ·rintro⟨i',need',h1,h2⟩;simp only[List.cons.injEq,AV.val.injEq,Value.int.injEq,true_and,and_true]at h1;obtain⟨rfl,rfl⟩:=h1;exact h2
 ·exact λh=>⟨i,need,rfl,h⟩
theorem agq(W:World)(v:AV)(k k' : IntKind)(i need:Int):(atC l ao c r x y a b ha hb).res W [v,.val (.int k i),.val (.int k' need)]=.string (Gv (if i=x then a else b) need):=rfl
noncomputable def Γ82:Env prog:=⟨λ| 157=>some (atC l ao c r x y a b ha hb).spec|156=>some pE.spec|_=>none,λ_=>none,λ_ _=>none⟩
theorem adn:(Γ82 l ao c r x y a b ha hb).sp 157=some (atC l ao c r x y a b ha hb).spec:=rfl
theorem aem:(Γ82 l ao c r x y a b ha hb).sp 156=some pE.spec:=rfl
end
noncomputable def ko:Env prog:=⟨λ| 156=>some pE.spec|_=>none,λ| _=>none,λ_ _=>none⟩
theorem aeF:ko.sp 156=some pE.spec:=rfl
theorem cV(t:Rx)(need:Int):(Gv t need).size<=2400*aI t+2:=by
 have h1:=dB t;have h2:=fF (vc t) need (cr t);unfold Gv;omega
def a8:=(ml Gq aeF @adn @aem @afj @agq)
theorem Yx(i:Nat)(hsz:aI (.eps)<=4000000)(ht:oW l i (.eps)):mJ l ao c r i (.eps):=by
 intro w hs;obtain⟨d,hd,hop⟩:=ht;obtain⟨hi,hd⟩:=List.getElem?_eq_some_iff.1 hd;have hsx:gO w (Out []) ao (dD l):=(gO.oJ hs).out λ_ _=>by simp[Out]
 obtain⟨b,o,rfl,hb,hx1,hx2⟩:=kh hsx hi;rw[hd]at hx1;refine af (nt:=72) [.tmp 4] func102 rfl rfl rfl ?_;refine vR ko a8 ?_
 refine Wp.pn ko cj (by simp only[kp,Op.operands,Value.cells,σ0,σB,Nat.reduceEqDiff,Nat.reduceAdd,Nat.reduceMul,Nat.reduceLT,Nat.reduceLeDiff,Nat.reduceBEq,av,Int.reduceToNat,Int.reduceLT,Int.reduceLE,Nat.reduceDiv,Nat.reduceMod,Nat.reduceSub,Int.reducePow,Nat.reducePow,σP,σB3,a8,↓hx1,↓hx2];exact rfl) rfl ?_ ?_
 ·exact⟨oM,sI,Nd.ej d⟩
 refine Wp.seq ?_;refine vR ko (aa a8 hop) ?_;refine Wp.block ?_;refine vR ko a8 ?_;refine wC a8 (λhc=>?_) (λhc=>?_)
 rotate_left
 ·exact absurd hc dE
 refine vR ko a8 ?_;refine wZ a8 ?_;exact λE=>rfl
theorem Wo(S:CS)(i:Nat)(hsz:aI (.cls S)<=4000000)(ht:oW l i (.cls S)):mJ l ao c r i (.cls S):=by
 intro w hs;obtain⟨d,hd,hop,rfl⟩:=ht;obtain⟨hi,hd⟩:=List.getElem?_eq_some_iff.1 hd;have hsx:gO w (Out []) ao (dD l):=(gO.oJ hs).out λ_ _=>by simp[Out]
 obtain⟨b,o,rfl,hb,hx1,hx2⟩:=kh hsx hi;rw[hd]at hx1;refine af (nt:=72) [.tmp 4] func102 rfl rfl rfl ?_;refine vR ko a8 ?_
 refine Wp.pn ko cj (by simp only[kp,Op.operands,Value.cells,σ0,σB,Nat.reduceEqDiff,Nat.reduceAdd,Nat.reduceMul,Nat.reduceLT,Nat.reduceLeDiff,Nat.reduceBEq,av,Int.reduceToNat,Int.reduceLT,Int.reduceLE,Nat.reduceDiv,Nat.reduceMod,Nat.reduceSub,Int.reducePow,Nat.reducePow,σP,σB3,a8,↓hx1,↓hx2];exact rfl) rfl ?_ ?_
 ·exact⟨oM,sI,Nd.ej d⟩
 refine Wp.seq ?_;refine vR ko (aa a8 hop) ?_;refine Wp.block ?_;refine vR ko a8 ?_;refine wC a8 (λhc=>?_) (λhc=>?_)
 ·exact absurd hc dE
 refine vR ko a8 ?_;refine wC a8 (λhc=>?_) (λhc=>?_)
 rotate_left
 ·exact absurd hc dE
 refine vR ko a8 ?_;refine wZ a8 ?_;exact λE=>rfl
theorem aan(a b:Rx)(i:Nat)(hsz:aI (.cat a b)<=4000000)(ht:oW l i (.cat a b))(IH:∀ (j:Nat),(∀ t,(t=a\/t=b)->oW l j t->AtT l ao c r j t)):mJ l ao c r i (.cat a b):=by
 intro w hs;obtain⟨d,x,y,hd,hop,hda,hdb,hxy,hta,htb⟩:=ht;have hA:=IH x a (.inl rfl) hta;have hB:=IH y b (.inr rfl) htb;have hne:¬ ((y:Nat):Int)=((x:Nat):Int):=oM;have s1:=cV a 2;have s2:=cV b 3;have hsz' : aI a+aI b+1<=4000000:=hsz;obtain⟨hi,hd⟩:=List.getElem?_eq_some_iff.1 hd
 have hsx:gO w (Out []) ao (dD l):=(gO.oJ hs).out λ_ _=>by simp[Out]
 obtain⟨bb,o,rfl,hb,hx1,hx2⟩:=kh hsx hi;rw[hd]at hx1;refine af (nt:=72) [.tmp 4] func102 rfl rfl rfl ?_;refine vR ko a8 ?_
 refine Wp.pn ko cj (by simp only[kp,Op.operands,Value.cells,σ0,σB,Nat.reduceEqDiff,Nat.reduceAdd,Nat.reduceMul,Nat.reduceLT,Nat.reduceLeDiff,Nat.reduceBEq,av,Int.reduceToNat,Int.reduceLT,Int.reduceLE,Nat.reduceDiv,Nat.reduceMod,Nat.reduceSub,Int.reducePow,Nat.reducePow,σP,σB3,a8,↓hx1,↓hx2];exact rfl) rfl ?_ ?_
 ·exact⟨oM,sI,Nd.ej d⟩
 refine Wp.seq ?_;refine vR ko (aa a8 hop) ?_;refine Wp.block ?_;refine vR ko a8 ?_;refine wC a8 (λhc=>?_) (λhc=>?_)
 ·exact absurd hc dE
 refine vR ko a8 ?_;refine wC a8 (λhc=>?_) (λhc=>?_)
 ·exact absurd hc dE
 refine vR ko a8 ?_;refine wC a8 (λhc=>?_) (λhc=>?_)
 ·exact absurd hc dE
 refine vR ko a8 ?_;refine wC a8 (λhc=>?_) (λhc=>?_)
 ·exact absurd hc dE
 refine vR ko a8 ?_;refine wC a8 (λhc=>?_) (λhc=>?_)
 ·exact absurd hc dE
 refine vR ko a8 ?_;refine wC a8 (λhc=>?_) (λhc=>?_)
 rotate_left
 ·exact absurd hc dE
 refine lf (Γ82 l (some ⟨bb,o,none⟩) c r x y a b hA hB) (eS a8 hda hdb hne) ?_ ?_
 ·exact⟨hsx,⟨.inr trivial,hsx⟩,oM⟩
 refine wZ a8 ?_;exact λE=>rfl
theorem YV(a b:Rx)(i:Nat)(hsz:aI (.alt a b)<=4000000)(ht:oW l i (.alt a b))(IH:∀ (j:Nat),(∀ t,(t=a\/t=b)->oW l j t->AtT l ao c r j t)):mJ l ao c r i (.alt a b):=by
 intro w hs;obtain⟨d,x,y,hd,hop,hda,hdb,hxy,hta,htb⟩:=ht;have hA:=IH x a (.inl rfl) hta;have hB:=IH y b (.inr rfl) htb;have hne:¬ ((y:Nat):Int)=((x:Nat):Int):=oM;have s1:=cV a 0;have s2:=cV b 1;have hsz' : aI a+aI b+1<=4000000:=hsz;obtain⟨hi,hd⟩:=List.getElem?_eq_some_iff.1 hd
 have hsx:gO w (Out []) ao (dD l):=(gO.oJ hs).out λ_ _=>by simp[Out]
 obtain⟨bb,o,rfl,hb,hx1,hx2⟩:=kh hsx hi;rw[hd]at hx1;refine af (nt:=72) [.tmp 4] func102 rfl rfl rfl ?_;refine vR ko a8 ?_
 refine Wp.pn ko cj (by simp only[kp,Op.operands,Value.cells,σ0,σB,Nat.reduceEqDiff,Nat.reduceAdd,Nat.reduceMul,Nat.reduceLT,Nat.reduceLeDiff,Nat.reduceBEq,av,Int.reduceToNat,Int.reduceLT,Int.reduceLE,Nat.reduceDiv,Nat.reduceMod,Nat.reduceSub,Int.reducePow,Nat.reducePow,σP,σB3,a8,↓hx1,↓hx2];exact rfl) rfl ?_ ?_
 ·exact⟨oM,sI,Nd.ej d⟩
 refine Wp.seq ?_;refine vR ko (aa a8 hop) ?_;refine Wp.block ?_;refine vR ko a8 ?_;refine wC a8 (λhc=>?_) (λhc=>?_)
 ·exact absurd hc dE
 refine vR ko a8 ?_;refine wC a8 (λhc=>?_) (λhc=>?_)
 ·exact absurd hc dE
 refine vR ko a8 ?_;refine wC a8 (λhc=>?_) (λhc=>?_)
 rotate_left
 ·exact absurd hc dE
 refine lf (Γ82 l (some ⟨bb,o,none⟩) c r x y a b hA hB) (eS a8 hda hdb hne) ?_ ?_
 ·exact⟨hsx,by show _+1<=_;omega,⟨.inr trivial,hsx⟩,by rw[ByteArray.size_append];show _+1+_<=_;omega⟩
 refine wZ a8 ?_;exact λE=>rfl
theorem X0(a b:Rx)(i:Nat)(hsz:aI (.and a b)<=4000000)(ht:oW l i (.and a b))(IH:∀ (j:Nat),(∀ t,(t=a\/t=b)->oW l j t->AtT l ao c r j t)):mJ l ao c r i (.and a b):=by
 intro w hs;obtain⟨d,x,y,hd,hop,hda,hdb,hxy,hta,htb⟩:=ht;have hA:=IH x a (.inl rfl) hta;have hB:=IH y b (.inr rfl) htb;have hne:¬ ((y:Nat):Int)=((x:Nat):Int):=oM;have s1:=cV a 1;have s2:=cV b 2;have hsz' : aI a+aI b+1<=4000000:=hsz;obtain⟨hi,hd⟩:=List.getElem?_eq_some_iff.1 hd
 have hsx:gO w (Out []) ao (dD l):=(gO.oJ hs).out λ_ _=>by simp[Out]
 obtain⟨bb,o,rfl,hb,hx1,hx2⟩:=kh hsx hi;rw[hd]at hx1;refine af (nt:=72) [.tmp 4] func102 rfl rfl rfl ?_;refine vR ko a8 ?_
 refine Wp.pn ko cj (by simp only[kp,Op.operands,Value.cells,σ0,σB,Nat.reduceEqDiff,Nat.reduceAdd,Nat.reduceMul,Nat.reduceLT,Nat.reduceLeDiff,Nat.reduceBEq,av,Int.reduceToNat,Int.reduceLT,Int.reduceLE,Nat.reduceDiv,Nat.reduceMod,Nat.reduceSub,Int.reducePow,Nat.reducePow,σP,σB3,a8,↓hx1,↓hx2];exact rfl) rfl ?_ ?_
 ·exact⟨oM,sI,Nd.ej d⟩
 refine Wp.seq ?_;refine vR ko (aa a8 hop) ?_;refine Wp.block ?_;refine vR ko a8 ?_;refine wC a8 (λhc=>?_) (λhc=>?_)
 ·exact absurd hc dE
 refine vR ko a8 ?_;refine wC a8 (λhc=>?_) (λhc=>?_)
 ·exact absurd hc dE
 refine vR ko a8 ?_;refine wC a8 (λhc=>?_) (λhc=>?_)
 ·exact absurd hc dE
 refine vR ko a8 ?_;refine wC a8 (λhc=>?_) (λhc=>?_)
 rotate_left
 ·exact absurd hc dE
 refine lf (Γ82 l (some ⟨bb,o,none⟩) c r x y a b hA hB) (eS a8 hda hdb hne) ?_ ?_
 ·exact⟨hsx,by show _+1<=_;omega,⟨.inr trivial,hsx⟩,by rw[ByteArray.size_append];show _+1+_<=_;omega⟩
 refine wZ a8 ?_;exact λE=>rfl
theorem Lu(a b:Rx)(i:Nat)(hsz:aI (.minus a b)<=4000000)(ht:oW l i (.minus a b))(IH:∀ (j:Nat),(∀ t,(t=a\/t=b)->oW l j t->AtT l ao c r j t)):mJ l ao c r i (.minus a b):=by
 intro w hs;obtain⟨d,x,y,hd,hop,hda,hdb,hxy,hta,htb⟩:=ht;have hA:=IH x a (.inl rfl) hta;have hB:=IH y b (.inr rfl) htb;have hne:¬ ((y:Nat):Int)=((x:Nat):Int):=oM;have s1:=cV a 1;have s2:=cV b 2;have hsz' : aI a+aI b+1<=4000000:=hsz;obtain⟨hi,hd⟩:=List.getElem?_eq_some_iff.1 hd
 have hsx:gO w (Out []) ao (dD l):=(gO.oJ hs).out λ_ _=>by simp[Out]
 obtain⟨bb,o,rfl,hb,hx1,hx2⟩:=kh hsx hi;rw[hd]at hx1;refine af (nt:=72) [.tmp 4] func102 rfl rfl rfl ?_;refine vR ko a8 ?_
 refine Wp.pn ko cj (by simp only[kp,Op.operands,Value.cells,σ0,σB,Nat.reduceEqDiff,Nat.reduceAdd,Nat.reduceMul,Nat.reduceLT,Nat.reduceLeDiff,Nat.reduceBEq,av,Int.reduceToNat,Int.reduceLT,Int.reduceLE,Nat.reduceDiv,Nat.reduceMod,Nat.reduceSub,Int.reducePow,Nat.reducePow,σP,σB3,a8,↓hx1,↓hx2];exact rfl) rfl ?_ ?_
 ·exact⟨oM,sI,Nd.ej d⟩
 refine Wp.seq ?_;refine vR ko (aa a8 hop) ?_;refine Wp.block ?_;refine vR ko a8 ?_;refine wC a8 (λhc=>?_) (λhc=>?_)
 ·exact absurd hc dE
 refine vR ko a8 ?_;refine wC a8 (λhc=>?_) (λhc=>?_)
 ·exact absurd hc dE
 refine vR ko a8 ?_;refine wC a8 (λhc=>?_) (λhc=>?_)
 ·exact absurd hc dE
 refine vR ko a8 ?_;refine wC a8 (λhc=>?_) (λhc=>?_)
 ·exact absurd hc dE
 refine vR ko a8 ?_;refine wC a8 (λhc=>?_) (λhc=>?_)
 rotate_left
 ·exact absurd hc dE
 refine lf (Γ82 l (some ⟨bb,o,none⟩) c r x y a b hA hB) (eS a8 hda hdb hne) ?_ ?_
 ·exact⟨hsx,by show _+1<=_;omega,⟨.inr trivial,hsx⟩,by rw[ByteArray.size_append];show _+1+_<=_;omega⟩
 refine wZ a8 ?_;exact λE=>rfl
theorem Q2(a:Rx)(i:Nat)(hsz:aI (.star a)<=4000000)(ht:oW l i (.star a))(IH:∀ (j:Nat),(∀ t,t=a->oW l j t->AtT l ao c r j t)):mJ l ao c r i (.star a):=by
 intro w hs;obtain⟨d,x,hd,hop,hda,hta⟩:=ht;have hA:=IH x a rfl hta;have s1:=cV a 3;have hsz' : aI a+1<=4000000:=hsz;obtain⟨hi,hd⟩:=List.getElem?_eq_some_iff.1 hd;have hsx:gO w (Out []) ao (dD l):=(gO.oJ hs).out λ_ _=>by simp[Out]
 obtain⟨bb,o,rfl,hb,hx1,hx2⟩:=kh hsx hi;rw[hd]at hx1;refine af (nt:=72) [.tmp 4] func102 rfl rfl rfl ?_;refine vR ko a8 ?_
 refine Wp.pn ko cj (by simp only[kp,Op.operands,Value.cells,σ0,σB,Nat.reduceEqDiff,Nat.reduceAdd,Nat.reduceMul,Nat.reduceLT,Nat.reduceLeDiff,Nat.reduceBEq,av,Int.reduceToNat,Int.reduceLT,Int.reduceLE,Nat.reduceDiv,Nat.reduceMod,Nat.reduceSub,Int.reducePow,Nat.reducePow,σP,σB3,a8,↓hx1,↓hx2];exact rfl) rfl ?_ ?_
 ·exact⟨oM,sI,Nd.ej d⟩
 refine Wp.seq ?_;refine vR ko (aa a8 hop) ?_;refine Wp.block ?_;refine vR ko a8 ?_;refine wC a8 (λhc=>?_) (λhc=>?_)
 ·exact absurd hc dE
 refine vR ko a8 ?_;refine wC a8 (λhc=>?_) (λhc=>?_)
 ·exact absurd hc dE
 refine vR ko a8 ?_;refine wC a8 (λhc=>?_) (λhc=>?_)
 ·exact absurd hc dE
 refine vR ko a8 ?_;refine wC a8 (λhc=>?_) (λhc=>?_)
 ·exact absurd hc dE
 refine vR ko a8 ?_;refine wC a8 (λhc=>?_) (λhc=>?_)
 ·exact absurd hc dE
 refine vR ko a8 ?_;refine wC a8 (λhc=>?_) (λhc=>?_)
 ·exact absurd hc dE
 refine wK ?_;refine wR (Γ82 l (some ⟨bb,o,none⟩) c r x x a a hA hA) (aa a8 hda) ?_ ?_
 ·exact⟨hsx,by show _+1<=_;omega⟩
 refine wZ a8 ?_;exact λE=>rfl
theorem W8:∀ (t:Rx) (i:Nat),aI t<=4000000->oW l i t->mJ l ao c r i t:=by
 intro t
 induction t with
 |eps=>exact λi hsz ht=>Yx l ao c r i hsz ht
 |cls S=>exact λi hsz ht=>Wo l ao c r S i hsz ht
 | star a ih=>
  intro i hsz ht;exact Q2 l ao c r a i hsz ht λj t h hj=>by
   have h0:aI a+1<=4000000:=hsz;subst h;exact kY l ao c r j _ hj oM (ih j oM hj)
 | cat a b iha ihb=>
  intro i hsz ht;exact aan l ao c r a b i hsz ht λj t h hj=>by
   have h0:aI a+aI b+1<=4000000:=hsz;rcases h with rfl|rfl
   ·exact kY l ao c r j _ hj oM (iha j oM hj)
   ·exact kY l ao c r j _ hj oM (ihb j oM hj)
 | alt a b iha ihb=>
  intro i hsz ht;exact YV l ao c r a b i hsz ht λj t h hj=>by
   have h0:aI a+aI b+1<=4000000:=hsz;rcases h with rfl|rfl
   ·exact kY l ao c r j _ hj oM (iha j oM hj)
   ·exact kY l ao c r j _ hj oM (ihb j oM hj)
 | and a b iha ihb=>
  intro i hsz ht;exact X0 l ao c r a b i hsz ht λj t h hj=>by
   have h0:aI a+aI b+1<=4000000:=hsz;rcases h with rfl|rfl
   ·exact kY l ao c r j _ hj oM (iha j oM hj)
   ·exact kY l ao c r j _ hj oM (ihb j oM hj)
 | minus a b iha ihb=>
  intro i hsz ht;exact Lu l ao c r a b i hsz ht λj t h hj=>by
   have h0:aI a+aI b+1<=4000000:=hsz;rcases h with rfl|rfl
   ·exact kY l ao c r j _ hj oM (iha j oM hj)
   ·exact kY l ao c r j _ hj oM (ihb j oM hj)
theorem K8(i:Nat)(t:Rx)(hsz:aI t<=4000000)(ht:oW l i t)(w:World)(hs:kJ w ao (dD l)):Calls prog 60 #[reV ao l.length c i] w λe w' => e=.returned (.string (cr t))/\ah w [] w' := by
 have hsx:gO w (Out []) ao (dD l):=(gO.oJ hs).out λ_ _=>by simp[Out]
 refine af (nt:=7) [.tmp 2] func60 rfl rfl rfl ?_;refine vR ko a8 ?_;refine wR (Γ81 l ao c i i t (W8 l ao c i t i hsz ht)) a8 ?_ ?_
 ·exact hsx
 refine wZ a8 ?_;exact λE=>rfl
def x9(i:Nat)(t:Rx)(hsz:aI t<=4000000)(ht:oW l i t):aM prog 60 where
 pre:=λW bs as_=>as_=[.val (reV ao l.length c i)]/\gO W (Out bs) ao (dD l)
 res:=λ_ _=>.string (cr t)
 enters:=call60
 ok:=by
  intro W w bs us as_ hk hu hp;obtain⟨rfl,h1⟩:=hp
  match us,hu with
  |[x],hu=>
   obtain⟨rfl,_⟩:=hu;exact K8 l ao c i t hsz ht w (gH h1 hk)
end
noncomputable def BO:Env prog:=⟨λ| 138=>some ixC.spec|_=>none,λ| _=>none,λ_ _=>none⟩
theorem aeO:BO.sp 138=some ixC.spec:=rfl
theorem Gn:∀ n:Fin 256,let b:=((n.val:Nat):Int);let h:ByteArray:=⟨#[48,49,50,51,52,53,54,55,56,57,97,98,99,100,101,102]⟩;
  let x:=h.extract (b.fdiv 16).toNat (IntKind.u8.wrap (b.fdiv 16+1)).toNat;let y:=h.extract (cw .and .u8 b 15).toNat (IntKind.u8.wrap (cw .and .u8 b 15+1)).toNat;
  (0<=b.fdiv 16/\b.fdiv 16<=IntKind.u8.wrap (b.fdiv 16+1)/\IntKind.u8.wrap (b.fdiv 16+1)<=16)/\(0<=cw .and .u8 b 15/\cw .and .u8 b 15<=IntKind.u8.wrap (cw .and .u8 b 15+1)/\IntKind.u8.wrap (cw .and .u8 b 15+1)<=16) /\
  (x.size=1/\y.size=1)/\(⟨#[92,120]⟩:ByteArray)++x++y=⟨#[92,120,hxD (b / 16),hxD (b % 16)]⟩:=by decide +kernel
def cX:=(aj @List.replicate_succ.{0} @List.replicate_zero.{0} @an @ab jk jn BG (aj BH BJ gR ck cf b9 b8 (aj ca cc cg cd fu fh fy (aj ft fB dc df dh db cY (aj c8 xw wG wD vP ahn ahS (aj ahM ahT ahK ahR ahm ahP ahF (aj ahy @aG @al @ax @aw @F9 @FW aeO)))))))
theorem Jc(b:Int)(q:ByteArray)(h0:0<=b)(h1:b<256)(w:World)(hg:bB w (Out [])):Calls prog 223 #[.int .u8 b,.string q] w λe w' => e=.returned (.string (lh b (kQ q b)))/\ah w [] w' := by
 obtain⟨g0,g1,g2,g3,g4,g5,g6⟩:=hg;refine af (nt:=54) [.tmp 4] func223 rfl rfl rfl ?_;refine vR BO cX ?_;refine Wp.seq ?_;refine vR BO (ur cX g1 g2 g3 g4 g5 g6) ?_;refine Wp.block ?_
 refine Wp.loop (λk:Nat=>⟨40,bm [(0,.is (.v (.int .u8 b))),(1,.is (.v (.string q))),(7,.is (.agg [.v (.int .u8 110),.v (.int .u8 10),.v (.int .u8 114),.v (.int .u8 13),.v (.int .u8 116),.v (.int .u8 9)])),(8,.is (.v (.int .i64 k)))],aY []⟩)
  (λk=>k<=3/\(0<k->b≠10)/\(1<k->b≠13)/\(2<k->b≠9)) (λk=>3-k) 0 ?_ ⟨oM,oM,oM,oM⟩ ?_
 ·exact wM (λk=>.key k) cX
 rintro k ⟨k0,k1,k2,k3⟩;refine vR BO cX ?_;refine Wp.seq ?_;refine wC cX (λhc=>?_) (λhc=>?_)
 ·simp at hc;refine wK ?_;have hk3:k<3:=oM;have hcase:k=0\/k=1\/k=2:=oM;refine Wp.seq (Wp.block ?_);rcases hcase with rfl|rfl|rfl
  ·skip;refine vR BO cX ?_;refine vR BO cX ?_;refine wC cX (λhc=>?_) (λhc=>?_)
   ·have hb:b=10:=by simp at hc;omega
    have he:lh b (kQ q b)=⟨#[92,110]⟩:=by rw[lh,if_pos hb]
    rw[he];refine wR BO cX ?_ ?_
    ·show 1+1<=9223372036854775807;omega
    refine wZ cX ?_;exact λE=>rfl
   ·have hb:¬ b=10:=by simp at hc;omega
    refine wK ?_;refine vr BO cX ?_;refine⟨1,⟨oM,λ_=>hb,oM,oM⟩,oM,?_⟩;exact wM (λk=>.key k) cX
  ·skip;refine vR BO cX ?_;refine vR BO cX ?_;refine wC cX (λhc=>?_) (λhc=>?_)
   ·have hb:b=13:=by simp at hc;omega
    have he:lh b (kQ q b)=⟨#[92,114]⟩:=by rw[lh,if_neg (k1 oM),if_pos hb]
    rw[he];refine wR BO cX ?_ ?_
    ·show 1+1<=9223372036854775807;omega
    refine wZ cX ?_;exact λE=>rfl
   ·have hb:¬ b=13:=by simp at hc;omega
    refine wK ?_;refine vr BO cX ?_;refine⟨2,⟨oM,λ_=>k1 oM,λ_=>hb,oM⟩,oM,?_⟩;exact wM (λk=>.key k) cX
  ·skip;refine vR BO cX ?_;refine vR BO cX ?_;refine wC cX (λhc=>?_) (λhc=>?_)
   ·have hb:b=9:=by simp at hc;omega
    have he:lh b (kQ q b)=⟨#[92,116]⟩:=by rw[lh,if_neg (k1 oM),if_neg (k2 oM),if_pos hb]
    rw[he];refine wR BO cX ?_ ?_
    ·show 1+1<=9223372036854775807;omega
    refine wZ cX ?_;exact λE=>rfl
   ·have hb:¬ b=9:=by simp at hc;omega
    refine wK ?_;refine vr BO cX ?_;refine⟨3,⟨oM,λ_=>k1 oM,λ_=>k2 oM,λ_=>hb⟩,oM,?_⟩;exact wM (λk=>.key k) cX
 ·have hk:k=3:=by
   simp at hc;omega
  have n10:=k1 oM;have n13:=k2 oM;have n9:=k3 oM;refine wE ?_;refine Wp.seq (Wp.block ?_);refine vR BO cX ?_;refine wC cX (λhc=>?_) (λhc=>?_)
  ·have h:b<32\/126<b:=by simpa using hc
   have e:lh b (kQ q b)=⟨#[92,120,hxD (b / 16),hxD (b % 16)]⟩:=by rw[lh,if_neg n10,if_neg n13,if_neg n9,if_pos h]
   rw[e];obtain⟨n,rfl⟩:=Int.eq_ofNat_of_zero_le h0;obtain⟨f1,f2,⟨f3,f4⟩,f5⟩:=Gn ⟨n,oM⟩;simp only at f1 f2 f3 f4 f5;refine lf BO cX ?_ ?_
   ·refine⟨f1,?_,f2,?_⟩
    ·rw[f3];show 2+1<=9223372036854775807;omega
    ·rw[f4,ByteArray.size_append,f3];show 2+1+1<=9223372036854775807;omega
   refine wZ cX ?_;exact λE=>congrArg Value.string f5
  have n32:¬ (b<32\/126<b):=by simpa using hc
  refine vR BO cX ?_;refine wC cX (λhc=>?_) (λhc=>?_)
  ·have hi:kQ q b=true:=by rw[kQ];simpa using hc
   have e:lh b (kQ q b)=⟨#[92,b.toNat.toUInt8]⟩:=by rw[lh,if_neg n10,if_neg n13,if_neg n9,if_neg n32,if_pos hi]
   rw[e];refine wR BO cX ?_ ?_
   ·show 1+1<=9223372036854775807;omega
   refine wZ cX ?_;exact λE=>rfl
  ·have hi:¬ kQ q b=true:=by rw[kQ];simpa using hc
   have e:lh b (kQ q b)=⟨#[b.toNat.toUInt8]⟩:=by rw[lh,if_neg n10,if_neg n13,if_neg n9,if_neg n32,if_neg hi]
   rw[e];refine wK ?_;refine vR BO cX ?_;refine wZ cX ?_;exact λE=>rfl
def sT:aM prog 223 where
 pre:=λW bs=>λ| [.val (.int .u8 b),.val (.string q)]=>(0<=b/\b<256)/\bB W (Out bs)|_=>False
 res:=λW=>λ| [.val (.int .u8 b),.val (.string q)]=>.string (lh b (kQ q b))|_=>undef
 enters:=call223
 ok:=by
  intro W w bs us as_ hk hu hp;split at hp
  ·rename_i b q
   match us,hu with
   |[u0,u1],hu=>
    obtain⟨rfl,rfl,_⟩:=hu;exact Jc b q hp.1.1 hp.1.2 w (hp.2.dU hk sI)
  ·exact hp.elim
theorem F4(W:World)(b:Int)(q:ByteArray):sT.res W [.val (.int .u8 b),.val (.string q)]=.string (lh b (kQ q b)):=rfl
theorem ES(W:World)(bs:List Nat)(b:Int)(q:ByteArray):sT.pre W bs [.val (.int .u8 b),.val (.string q)]=((0<=b/\b<256)/\bB W (Out bs)):=rfl
end
end Go.Proofs.YtnemkecffmdlnaaGreatDoor
