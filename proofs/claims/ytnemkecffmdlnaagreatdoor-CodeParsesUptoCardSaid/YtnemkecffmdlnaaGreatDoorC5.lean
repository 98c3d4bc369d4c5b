/-
 Part 5 of the proof (packed).
-/
import Derived.Test.YtnemkecffmdlnaaGreatDoorC4
import Derived.Shelf.Small.Strs
import Derived.Shelf.Strconv.ToError
import Derived.Shelf.LaysC
import Derived.Test.YtnemkecffmdlnaaGreatDoorProg
import Derived.Shelf.LaysM
import Derived.Shelf.Strconv.AtoiAll
import Derived.Shelf.Strings.Search1
import Derived.Shelf.Strings.Search2
import Derived.Shelf.Strings.Search3
import Derived.Shelf.Small.Wraps
import Derived.Shelf.Strings.Split
import Derived.Shelf.Strconv.Itoa3
import Derived.Lib.AppendIntMem
import Derived.Handy
import Derived.Lib.ConvBytes
import Derived.Lib.Hide
import Derived.Laws.Strings3
import Derived.Laws.Closers25
import Derived.Laws.Closers25b
import Derived.Lib.AtoiAllCases
set_option linter.unusedSimpArgs false
set_option linter.unusedVariables false
set_option linter.defProp false
set_option maxHeartbeats 16000000
namespace Go.Proofs.YtnemkecffmdlnaaGreatDoor
section
open Go.RowKit Go.LE Go.Proofs.Tryz
set_option maxRecDepth 10000
theorem rS(d:Nd):partsOf (.v (.agg d.bw.toArray))=List.map SV.v d.bw:=rfl
theorem Gg(d:Nd):(List.map SV.v d.bw).length=261:=by rw[List.length_map,Nd.iS]
theorem ajD(d:Nd)(x:SV):(List.map SV.v d.bw).getD 0 x=.v (.int .i64 d.op):=rfl
theorem acb(d:Nd)(x:SV)(j:Nat)(v:Value)(h:[Value.int .i64 d.a,.int .i64 d.b,.int .i64 d.m,.int .i64 d.n][j]?=some v):(List.map SV.v d.bw).getD (257+j) x=.v v:=by
 rw[List.getD_eq_getElem?_getD,List.getElem?_map,Nd.pC,h];rfl
theorem aiE(d:Nd)(x:SV):(List.map SV.v d.bw).getD 257 x=.v (.int .i64 d.a):=acb d x 0 _ rfl
theorem ait(d:Nd)(x:SV):(List.map SV.v d.bw).getD 258 x=.v (.int .i64 d.b):=acb d x 1 _ rfl
theorem aiq(d:Nd)(x:SV):(List.map SV.v d.bw).getD 259 x=.v (.int .i64 d.m):=acb d x 2 _ rfl
theorem aiy(d:Nd)(x:SV):(List.map SV.v d.bw).getD 260 x=.v (.int .i64 d.n):=acb d x 3 _ rfl
theorem CH(x:Rx)(m:Int):∀ (j:Nat) (k:Int) (w:Rx),aI w<=aI (dO x m j k w)
 |0,_,w=>Nat.le_refl _
 |j+1,k,w=>by
  have:=CH x m j (k+1) (.cat w (dw x m k));show _<=aI (dO x m j (k+1) (.cat w (dw x m k)));have e:aI (.cat w (dw x m k))=aI w+aI (dw x m k)+1:=rfl;omega
def OG(o:Option Rx):Nat:=o.elim 0 aI
def oNd(m:Nat)(o:Option Rx):List Nd:=o.elim [] (eD m)
def oRt(m:Nat)(o:Option Rx):Int:=o.elim (-1) λw=>((m+aI w-1:Nat):Int)
theorem aeV(m:Nat)(o:Option Rx):(oNd m o).length=OG o:=by
 cases o with
 |none=>rfl
 |some w=>exact gC w m
section
variable (ar:List Nd)(ts:List RT)(ao:Option Addr)(c n:Nat)
noncomputable def Γ69(h:kn ar ts ao c n)(h' : Uf ar ts ao c n):Env prog:=⟨λ| 124=>some (rM ar ao c 124 call124 (below n) (US ts) h).spec|215=>some (rM ar ao c 215 call215 (below n) (Tb ts) h').spec|177=>some E7.spec|_=>none,λ_=>none,λ_ _=>none⟩
theorem aeX(h:kn ar ts ao c n)(h' : Uf ar ts ao c n):(Γ69 ar ts ao c n h h').sp 124=some (rM ar ao c 124 call124 (below n) (US ts) h).spec:=rfl
theorem aco(h:kn ar ts ao c n)(h' : Uf ar ts ao c n):(Γ69 ar ts ao c n h h').sp 215=some (rM ar ao c 215 call215 (below n) (Tb ts) h').spec:=rfl
theorem ag5(h:kn ar ts ao c n)(h' : Uf ar ts ao c n):(Γ69 ar ts ao c n h h').sp 177=some E7.spec:=rfl
def da:=(aj jo jl gS ca cc b9 cg (aj cf cj cd ck wA vP wX (aj tg Aw y5 zr yL Bz yZ (aj tR wx wF tn xq xt xw (aj wJ vW xi wO Ie Hj ID (aj G6 Ht @aG @al @ay @ax @Ai (aj @y8 @Nk @EX @s4 @sH @qy @qU (aj @yp @ajD @aiE @ait @aiq @aiy @Gg (eT @rS @aeX @aco @ag5)))))))))
theorem Bk(hg:kn ar ts ao c n)(ho' : Uf ar ts ao c n)(d:Nd)(ha:0<=d.a/\d.a<n)(hmn:uz d.m d.n):L7 ar ao c 176 (.agg d.bw.toArray) (df (ts.getD d.a.toNat .eps).expand d.m d.n):=by
 intro l r u fp w hl ho hlt hs;have hix:US ts (.int .i64 d.a)=(ts.getD d.a.toNat .eps).expand:=rfl;have hop:Tb ts (.int .i64 d.a)=.alt (ts.getD d.a.toNat .eps).expand .eps:=rfl;refine mE (nt:=79) _ _ [.tmp 6] (by show 2<=7;omega) ho hlt func176 rfl rfl rfl ?_;unfold uz at hmn;refine vR Γ0 da ?_
 refine vR Γ0 da ?_;generalize hX:(ts.getD d.a.toNat .eps).expand=X at *
 refine aW ⟨20,bm [(0,.is (.v (.slice ao ar.length c))),(2,.is (.own 0 0)),(4,.is (.own 8 0)),(7,.is (.v (.int .i64 (cA d.m))))],aY [(0,.cells 64 [.hd 1,.v (.int .i64 r)]),(1,.row 243 261 l.length (List.map SV.v (dC l))),(8,.cells 243 (List.map SV.v d.bw))]⟩ ?_ ?_
 ·skip;refine vR Γ0 da ?_;refine wC da (λhc=>?_) (λhc=>?_)
  ·have h2:d.m=-2:=by simpa using hc
   rw[cA,if_pos h2];refine vr Γ0 da ?_;exact wM (λk=>.key k) da
  ·have h2:¬ d.m=-2:=by simpa using hc
   rw[cA,if_neg h2];refine wK ?_;exact wM (λk=>.key k) da
 refine Wp.seq ?_;refine vR Γ0 da ?_;refine wC da (λhc=>?_) (λhc=>?_)
 ·have h3:d.n<0/\cA d.m=0:=by simpa using hc
  have he:df X d.m d.n=.star X:=by rw[df,if_pos h3]
  rw[he]at hl ⊢;have hT:=gC X l.length;have hrs:aI (.star X)=aI X+1:=rfl;have hla:eD l.length (.star X)=eD l.length X++[cm 4 ((l.length+aI X-1:Nat):Int) 0]:=rfl;refine wR (Γ69 ar ts ao c n hg ho') (aa da hX) ?_ ?_
  ·exact⟨⟨⟨⟨l,rfl,rfl⟩,ha,oM,hs⟩,dE,sI⟩,⟨l++eD l.length X,by rw[bR],by rw[List.length_append,hT],by rw[List.length_append,hT];omega⟩,dE,sI⟩
  refine wZ da ?_;rw[hla,hrs,bR,mq,<- List.append_assoc,show l.length+(aI X+1)-1=l.length+aI X by omega,show l.length+(aI X+1)=l.length+aI X+1 by omega];exact⟨_,_,rfl,λE=>rfl,_,_,rfl,(ev (aa da @aB)),dE⟩
 have h3:¬ (d.n<0/\cA d.m=0):=by
  intro h;apply Bool.eq_false_iff.1 hc;simp[h.1,h.2]
 refine wK ?_;refine Wp.seq ?_;refine vR Γ0 da ?_;refine wC da (λhc=>?_) (λhc=>?_)
 ·have h4:d.n=0:=by simpa using hc
  have he:df X d.m d.n=.eps:=by rw[df,if_neg h3,if_pos h4]
  rw[he]at hl ⊢;have hrs:aI .eps=1:=rfl;have hla:eD l.length .eps=[cm 0 0 0]:=rfl;refine wR (Γ69 ar ts ao c n hg ho') da ?_ ?_
  ·exact⟨⟨l,rfl,rfl,oM⟩,dE,sI⟩
  refine wZ da ?_;rw[hla,hrs,mq,Nat.add_sub_cancel];exact⟨_,_,rfl,λE=>rfl,_,_,rfl,(ev (aa da @aB)),dE⟩
 have h4:¬ d.n=0:=by simpa using hc
 refine wK ?_;have hpm:0<=cA d.m/\cA d.m<=255:=by unfold cA;split<;>omega
 obtain⟨cnt,hcnt⟩:∃ cnt:Nat,(if d.n<0 then cA d.m else d.n)=(cnt:Int):=⟨(if d.n<0 then cA d.m else d.n).toNat,by split<;>omega⟩;have hcnt1:1<=cnt:=by
  by_cases h:d.n<0
  ·rw[if_pos h]at hcnt;omega
  ·rw[if_neg h]at hcnt;omega
 have hcnt2:cnt<=255:=by
  by_cases h:d.n<0
  ·rw[if_pos h]at hcnt;omega
  ·rw[if_neg h]at hcnt;omega
 obtain⟨fin,hfin⟩:∃ fin,fin=dO X (cA d.m) (cnt-1) 1 (dw X (cA d.m) 0):=⟨_,rfl⟩;have he:df X d.m d.n=if d.n<0 then .cat fin (.star X) else fin:=by
  rw[df,if_neg h3,if_neg h4];by_cases h:d.n<0
  ·rw[if_pos h]at hcnt;rw[if_pos h,if_pos h,hfin,hcnt,show ((cnt:Int)-1).toNat=cnt-1 by omega]
  ·rw[if_neg h]at hcnt;rw[if_neg h,if_neg h,hfin,hcnt,show ((cnt:Int)-1).toNat=cnt-1 by omega]
 have hlf:l.length+aI fin<=4000000:=by
  rw[he]at hl;by_cases h:d.n<0
  ·rw[if_pos h]at hl;have:aI (.cat fin (.star X))=aI fin+(aI X+1)+1:=rfl;omega
  ·rw[if_neg h]at hl;exact hl
 refine vR Γ0 da ?_
 refine aW ⟨40,bm [(0,.is (.v (.slice ao ar.length c))),(2,.is (.own 0 0)),(4,.is (.own 8 0)),(7,.is (.v (.int .i64 (cA d.m)))),(8,.is (.v (.int .i64 (cnt:Nat))))],aY [(0,.cells 64 [.hd 1,.v (.int .i64 r)]),(1,.row 243 261 l.length (List.map SV.v (dC l))),(8,.cells 243 (List.map SV.v d.bw))]⟩ ?_ ?_
 ·skip;refine vR Γ0 da ?_;refine wC da (λhc=>?_) (λhc=>?_)
  ·have h5:d.n<0:=by simpa using hc
   rw[if_pos h5]at hcnt;rw[<- hcnt];refine vr Γ0 da ?_;exact wM (λk=>.key k) da
  ·have h5:¬ d.n<0:=by simpa using hc
   rw[if_neg h5]at hcnt;rw[<- hcnt];refine wK ?_;exact wM (λk=>.key k) da
 refine vR Γ0 da ?_;refine Wp.seq ?_;refine vR Γ0 da ?_;refine Wp.block ?_
 refine Wp.loop (λp:Nat×Option Rx=>⟨60,bm [(0,.is (.v (.slice ao ar.length c))),(2,.is (.own 0 0)),(4,.is (.own 8 0)),(7,.is (.v (.int .i64 (cA d.m)))),(8,.is (.v (.int .i64 (cnt:Nat)))),(9,.is (.v (.int .i64 (oRt l.length p.2)))),(10,.is (.v (.int .i64 (p.1:Nat))))],aY [(0,.cells 64 [.hd 1,.v (.int .i64 r)]),(1,.row 243 261 (l.length+OG p.2) (List.map SV.v (dC l++dC (oNd l.length p.2)))),(8,.cells 243 (List.map SV.v d.bw))]⟩)
  (λp=>p.1<=cnt/\match p.2 with|none=>p.1=0|some y=>1<=p.1/\dO X (cA d.m) (cnt-p.1) p.1 y=fin) (λp=>cnt-p.1) (0,none) ?_ ⟨Nat.zero_le _,rfl⟩ ?_
 ·exact wM (λk=>.key k) (uv da @oRt.eq_1 @OG.eq_1 @oNd.eq_1 @Option.elim.eq_1.{0,1} @Option.elim.eq_2.{0,1} (show dC []=[] from rfl))
 rintro⟨k,o⟩ ⟨h1,ho2⟩;simp only at h1 ho2;refine Wp.seq ?_;refine vR Γ0 da ?_;refine wC da (λhc=>?_) (λhc=>?_)
 ·have hk:k<cnt:=by
   simp at hc;omega
  refine wK ?_;refine Wp.seq (Wp.block ?_);refine vR Γ0 da ?_;have hO:=aeV l.length o;have hnext:∃ w2,dO X (cA d.m) (cnt-(k+1)) (k+1:Nat) w2=fin/\(match o with|none=>w2=dw X (cA d.m) k|some y=>w2=.cat y (dw X (cA d.m) k)):=by
   cases o with
   |none=>
    simp only at ho2;subst ho2;exact⟨_,hfin.symm,rfl⟩
   |some y=>
    refine⟨_,?_,rfl⟩;have h2:=ho2.2;rw[show cnt-k=(cnt-(k+1))+1 by omega]at h2;exact h2
  obtain⟨w2,hw2,hw2o⟩:=hnext;have hr2:=CH X (cA d.m) (cnt-(k+1)) (k+1:Nat) w2;rw[hw2]at hr2;have hrp:OG o+aI (dw X (cA d.m) k)<=aI w2/\(o.isSome->OG o+aI (dw X (cA d.m) k)+1<=aI w2):=by
   cases o with
   |none=>
    simp only at hw2o;subst hw2o;exact⟨by simp[OG],λh=>by cases h⟩
   |some y=>
    simp only at hw2o;subst hw2o;exact⟨by show aI y+_<=aI y+_+1;omega,λ_=>Nat.le_refl _⟩
  refine aW ⟨90,bm [(0,.is (.v (.slice ao ar.length c))),(2,.is (.own 0 0)),(4,.is (.own 8 0)),(7,.is (.v (.int .i64 (cA d.m)))),(8,.is (.v (.int .i64 (cnt:Nat)))),(9,.is (.v (.int .i64 (oRt l.length o)))),(10,.is (.v (.int .i64 (k:Nat)))),(11,.is (.v (.int .i64 ((l.length+OG o+aI (dw X (cA d.m) k)-1:Nat):Int))))],aY [(0,.cells 64 [.hd 1,.v (.int .i64 r)]),(1,.row 243 261 (l.length+OG o+aI (dw X (cA d.m) k)) (List.map SV.v (dC l++dC (oNd l.length o)++dC (eD (l.length+OG o) (dw X (cA d.m) k))))),(8,.cells 243 (List.map SV.v d.bw))]⟩ ?_ ?_
  ·skip;refine vR Γ0 da ?_;refine wC da (λhc=>?_) (λhc=>?_)
   ·have h5:(k:Int)<cA d.m:=by simpa using hc
    have hp:dw X (cA d.m) k=X:=by rw[dw,if_pos h5]
    rw[hp]at hrp ⊢;refine wr (Γ69 ar ts ao c n hg ho') (aa da hX) ?_ ?_
    ·exact⟨⟨⟨l++oNd l.length o,by rw[bR],by rw[List.length_append,hO]⟩,ha,oM,hs⟩,dE,sI⟩
    exact wM (λx=>if x=1 then .key 568 else .key x) da
   ·have h5:¬ (k:Int)<cA d.m:=by simpa using hc
    have hp:dw X (cA d.m) k=.alt X .eps:=by rw[dw,if_neg h5]
    rw[hp]at hrp ⊢;refine wr (Γ69 ar ts ao c n hg ho') (aa da hop) ?_ ?_
    ·exact⟨⟨⟨l++oNd l.length o,by rw[bR],by rw[List.length_append,hO]⟩,ha,oM,hs⟩,dE,sI⟩
    exact wM (λx=>if x=1 then .key 568 else .key x) da
  generalize dw X (cA d.m) k=q at *;have hq:=jQ q;cases o with
  | none=>
   simp only at hw2o ho2;subst hw2o ho2;have e1:oRt l.length (none:Option Rx)=-1:=rfl;have e2:dC l++dC (oNd l.length (none:Option Rx))=dC l:=List.append_nil _;have e3:l.length+OG (none:Option Rx)=l.length:=rfl;rw[e1,e2,e3];refine vR Γ0 da ?_;refine wC da (λhc=>?_) (λhc=>?_)
   rotate_left
   ·exfalso;simp at hc
   refine vr Γ0 da ?_;refine vr Γ0 da ?_;refine⟨(1,some w2),⟨oM,Nat.le_refl _,hw2⟩,oM,?_⟩;exact wM (λx=>.key x) (mh da @oRt.eq_1 @OG.eq_1 @oNd.eq_1 @Option.elim.eq_1.{0,1} @Option.elim.eq_2.{0,1})
  | some y=>
   simp only at hw2o ho2;have e1:oRt l.length (some y)=((l.length+aI y-1:Nat):Int):=rfl;have e2:oNd l.length (some y)=eD l.length y:=rfl;have e3:OG (some y)=aI y:=rfl;have hrp' := hrp.2 rfl;rw[e1,e2,e3];rw[e3]at hrp';have hL1:=gC y l.length;have hL2:=gC q (l.length+aI y);refine vR Γ0 da ?_
   refine wC da (λhc=>?_) (λhc=>?_)
   ·exfalso;simp at hc;omega
   refine wr (Γ69 ar ts ao c n hg ho') da ?_ ?_
   ·exact⟨⟨l++eD l.length y++eD (l.length+aI y) q,by rw[bR,bR],by rw[List.length_append,List.length_append,hL1,hL2],by rw[List.length_append,List.length_append,hL1,hL2];omega⟩,dE,sI⟩
   have wk:IntKind.i64.wrap ((k:Int)+1)=((k+1:Nat):Int):=wW;refine vr Γ0 (aa da wk) ?_;subst hw2o;refine⟨(k+1,some (.cat y q)),⟨oM,by simp only;omega,hw2⟩,by simp only;omega,?_⟩;have f1:oRt l.length (some (.cat y q))=((l.length+aI y+aI q:Nat):Int):=by
    show ((l.length+(aI y+aI q+1)-1:Nat):Int)=_
    congr 1;omega
   have f2:l.length+OG (some (.cat y q))=l.length+aI y+aI q+1:=by
    show l.length+(aI y+aI q+1)=_;omega
   have f3:dC l++dC (oNd l.length (some (.cat y q)))=dC l++dC (eD l.length y)++dC (eD (l.length+aI y) q)++(cm 2 ((l.length+aI y-1:Nat):Int) ((l.length+aI y+aI q-1:Nat):Int)).bw:=by
    show dC l++dC (eD l.length y++(eD (l.length+aI y) q++[_]))=_;rw[bR,bR,mq];simp only[List.append_assoc]
   exact wM (λx=>if x=1 then .key 760 else .key x) (eT da f1 f2 f3)
 ·have hk:k=cnt:=by
   simp at hc;omega
  subst hk;refine wE ?_;cases o with
  |none=>
   simp only at ho2;omega
  | some y=>
   simp only at ho2;have hy:y=fin:=by
    have:=ho2.2;rw[Nat.sub_self]at this;exact this
   subst hy;have e1:oRt l.length (some y)=((l.length+aI y-1:Nat):Int):=rfl;have e2:oNd l.length (some y)=eD l.length y:=rfl;have e3:OG (some y)=aI y:=rfl;rw[e1,e2,e3];have hL1:=gC y l.length;refine Wp.seq ?_;refine vR Γ0 da ?_;refine wC da (λhc=>?_) (λhc=>?_)
   ·have h5:d.n<0:=by simpa using hc
    rw[if_pos h5]at he;rw[he]at hl ⊢;have hrs:aI (.cat y (.star X))=aI y+(aI X+1)+1:=rfl;have hL2:=gC X (l.length+aI y);refine wr (Γ69 ar ts ao c n hg ho') (aa da hX) ?_ ?_
    ·refine⟨⟨⟨⟨l++eD l.length y,by rw[bR],by rw[List.length_append,hL1]⟩,ha,oM,hs⟩,dE,sI⟩,
      ⟨⟨l++eD l.length y++eD (l.length+aI y) X,by rw[bR,bR],by rw[List.length_append,List.length_append,hL1,hL2],by rw[List.length_append,List.length_append,hL1,hL2];omega⟩,dE,sI⟩,
      ⟨l++eD l.length y++eD (l.length+aI y) X++[cm 4 ((l.length+aI y+aI X-1:Nat):Int) 0],by rw[bR,bR,bR,mq],by rw[List.length_append,List.length_append,List.length_append,hL1,hL2,List.length_singleton],by rw[List.length_append,List.length_append,List.length_append,hL1,hL2,List.length_singleton];omega⟩,dE,sI⟩
    refine vR Γ0 da ?_;refine wZ da ?_;have g1:l.length+aI (.cat y (.star X))=l.length+aI y+aI X+1+1:=by rw[hrs];omega
    have g2:l.length+aI y+aI X+1+1-1=l.length+aI y+aI X+1:=oM;have g3:dC l++dC (eD l.length (.cat y (.star X)))=dC l++dC (eD l.length y)++dC (eD (l.length+aI y) X)++(cm 4 ((l.length+aI y+aI X-1:Nat):Int) 0).bw++(cm 2 ((l.length+aI y-1:Nat):Int) ((l.length+aI y+aI X:Nat):Int)).bw:=by
     show dC l++dC (eD l.length y++((eD (l.length+aI y) X++[_])++[_]))=_;rw[bR,bR,bR,mq,mq];simp only[List.append_assoc];rw[show l.length+aI y+aI (.star X)-1=l.length+aI y+aI X from rfl]
    rw[g1,g2,g3];exact⟨_,_,rfl,λE=>rfl,_,_,rfl,(ev (aa da @aB)),dE⟩
   ·have h5:¬ d.n<0:=by simpa using hc
    rw[if_neg h5]at he;rw[he]at hl ⊢;refine wK ?_;refine vR Γ0 da ?_;refine wZ da ?_;exact⟨_,_,rfl,λE=>rfl,_,_,rfl,(ev (aa da @aB)),dE⟩
end
theorem AR.nm{ar:List Nd}{ts:List RT}(h:AR ar ts):∀ k (hk:k<ar.length),∃ t,ts[k]?=some t/\NM (ts.take k) ar[k] t:=by
 induction h with
 |nil=>intro k hk;cases hk
 | @snoc ar ts d t ha hn ih=>
  intro k hk;by_cases hlt:k<ar.length
  ·obtain⟨t',h1,h2⟩:=ih k hlt;have hl:=ha.len;refine⟨t',by rw[List.getElem?_append_left oM];exact h1,?_⟩;rw[List.getElem_append_left hlt,List.take_append_of_le_length oM];exact h2
  ·have hk' : k=ar.length:=by simp at hk;omega
   subst hk';have hl:=ha.len;refine⟨t,by rw[<- hl];simp,?_⟩;have e:(ts++[t]).take ar.length=ts:=by rw[<- hl,List.take_left]
   rw[List.getElem_append_right (Nat.le_refl _),e];simpa using hn
theorem vE{w:World}{b:Nat}:∀ (vs:List Value) (o:Nat),(∀ j (h:j<vs.length),w.cell? ⟨b,o+j,none⟩=some vs[j])->bW w b o vs.length=List.map SV.v vs/\dK w b o vs.length
 |[],_,_=>⟨rfl,trivial⟩
 | v::r,o,h=>by
  have h0:=h 0 sI;have hr:=vE r (o+1) λj hj=>by
   have:=h (j+1) (by simpa using hj);rw[show o+(j+1)=o+1+j by omega]at this;simpa using this
  rw[Nat.add_zero]at h0;simp only[List.getElem_cons_zero]at h0;rw[List.length_cons];exact⟨by rw[bW,h0,hr.1];rfl,by rw[dK,h0];exact⟨rfl,hr.2⟩⟩
theorem jT{w:World}{S:Nat->Prop}{ao:Option Addr}{l:List Nd}(h:gJ w S ao (dC l)){k:Nat}(hk:k<l.length):∃ b o,ao=some ⟨b,o,none⟩/\S b/\bW w b (o+k*261) 261=List.map SV.v l[k].bw/\(dK w b (o+k*261) 261)=True:=by
 have hl:=P1 l;rcases h with h|⟨b,o,rfl,hc⟩
 ·rw[h]at hl;simp at hl;omega
 ·have h0:=hc 0 oM;have:=vE (w:=w) (b:=b) l[k].bw (o+k*261) λj hj=>by
   rw[Nd.iS]at hj;have h1:=hc (k*261+j) oM;have h2:=Mh l k j hk hj;rw[List.getElem?_eq_getElem oM,List.getElem?_eq_getElem (by rw[Nd.iS];exact hj)]at h2;simp only[Option.some.injEq]at h2;rw[<- h2,<- h1.2,Nat.add_assoc]
  rw[Nd.iS]at this;exact⟨b,o,rfl,h0.1,this.1,eq_true this.2⟩
theorem PZ(d:Nd):List.take 256 (List.drop 1 (List.map SV.v d.bw))=List.map SV.v (gA d.set.getLsbD):=by
 have e:List.drop 1 (List.map SV.v d.bw)=List.map SV.v (gA d.set.getLsbD)++List.map SV.v [.int .i64 d.a,.int .i64 d.b,.int .i64 d.m,.int .i64 d.n]:=by
  show List.map SV.v (gA d.set.getLsbD++_)=_;rw[List.map_append]
 rw[e,List.take_left' (by rw[dL])]
theorem zm(d:Nd):List.take 261 (List.map SV.v d.bw)=List.map SV.v d.bw:=List.take_of_length_le (by rw[Gg];omega)
theorem tJ(op:Int)(S:CS):dN prog 243 [0,1] [.v (.int .i64 op),.agg (List.map SV.v (gA S.getLsbD))]=⟨True,.agg ((⟨op,S,0,0,0,0⟩:Nd).bw.map .v),[],none,[],[]⟩:=by
 kernel_rfl
theorem NM.leaf{ts:List RT}{d:Nd}{t:RT}(h:NM ts d t)(h2:d.op<2):(∀ m,eD m t.expand=[⟨d.op,d.set,0,0,0,0⟩])/\aI t.expand=1:=by
 cases h with
 |eps h0 h1=>exact⟨λm=>by rw[h0,h1];rfl,rfl⟩
 |cls h0=>exact⟨λm=>by rw[h0];rfl,rfl⟩
 |cat a b h0|alt a b h0|and a b h0|minus a b h0|rep a h0=>omega
theorem NM.two{ts:List RT}{d:Nd}{t:RT}(h:NM ts d t)(h2:2<=d.op)(h7:d.op≠7):∃ a b,ts[d.a.toNat]?=some a/\ts[d.b.toNat]?=some b/\aI t.expand=aI a.expand+aI b.expand+1 /\
  ∀ m,eD m t.expand=eD m a.expand++(eD (m+aI a.expand) b.expand++[cm d.op ((m+aI a.expand-1:Nat):Int) ((m+aI a.expand+aI b.expand-1:Nat):Int)]):=by
 cases h with
 |eps h0|cls h0=>omega
 |cat a b h0 _ h1 _ h2=>exact⟨a,b,h1,h2,rfl,λm=>by rw[h0];rfl⟩
 |alt a b h0 _ h1 _ h2=>exact⟨a,b,h1,h2,rfl,λm=>by rw[h0];rfl⟩
 |and a b h0 _ h1 _ h2=>exact⟨a,b,h1,h2,rfl,λm=>by rw[h0];rfl⟩
 |minus a b h0 _ h1 _ h2=>exact⟨a,b,h1,h2,rfl,λm=>by rw[h0];rfl⟩
 |rep a h0=>exact absurd h0 h7
theorem NM.seven{ts:List RT}{d:Nd}{t:RT}(h:NM ts d t)(h7:d.op=7):∃ a,ts[d.a.toNat]?=some a/\t.expand=df a.expand d.m d.n:=by
 cases h with
 |eps h0|cls h0|cat a b h0|alt a b h0|and a b h0|minus a b h0=>omega
 |rep a h0 _ h1 _=>exact⟨a,h1,rfl⟩
theorem GD:List.drop 260 (List.map SV.v (List.replicate 256 (Value.bool false)++[Value.int .i64 0]++[Value.int .i64 0]++[Value.int .i64 0]++[Value.int .i64 0]))=[]:=by
 apply List.drop_of_length_le;simp
section
variable (ar:List Nd)(ts:List RT)(ao:Option Addr)(c n:Nat)(d:Nd)
abbrev UnT:Prop:=∀ v,v=.agg d.bw.toArray->L7 ar ao c 176 v ((λ_=>df (ts.getD d.a.toNat .eps).expand d.m d.n) v)
noncomputable def Γ70(h:kn ar ts ao c n)(h' : UnT ar ts ao c d):Env prog:=⟨λ| 124=>some (rM ar ao c 124 call124 (below n) (US ts) h).spec|176=>some (rM ar ao c 176 call176 (λv=>v=.agg d.bw.toArray) (λ_=>df (ts.getD d.a.toNat .eps).expand d.m d.n) h').spec|177=>some E7.spec|_=>none,λ_=>none,λ_ _=>none⟩
theorem afy(h:kn ar ts ao c n)(h' : UnT ar ts ao c d):(Γ70 ar ts ao c n d h h').sp 124=some (rM ar ao c 124 call124 (below n) (US ts) h).spec:=rfl
theorem af2(h:kn ar ts ao c n)(h' : UnT ar ts ao c d):(Γ70 ar ts ao c n d h h').sp 176=some (rM ar ao c 176 call176 (λv=>v=.agg d.bw.toArray) (λ_=>df (ts.getD d.a.toNat .eps).expand d.m d.n) h').spec:=rfl
theorem ag1(h:kn ar ts ao c n)(h' : UnT ar ts ao c d):(Γ70 ar ts ao c n d h h').sp 177=some E7.spec:=rfl
def j7:=(aj jo jl BH BJ BG gS ca (aj cc b9 cg cf cj cd ck (aj wA vP wX tg Aw y5 zr (aj yL Bz yZ Dn Ct Dl DL (aj tR wx wF tn xq xt xw (aj wJ vW xi wO Ie Hj ID (aj G6 Ht @aG @al @ay @ax @Ai (aj @y8 @Nk @EX @s4 @sH @qy @qU (aj @yp @ajD @aiE @ait @aiq @aiy @Gg (aj @rS @afy @af2 @ag1 @tQ @sS @PZ (eT @tJ @GD @zm @aB)))))))))))
theorem Vp(har:AR ar ts)(k:Nat)(hk:k<ar.length)(hg:kn ar ts ao c k):L7 ar ao c 124 (.int .i64 k) (ts.getD k .eps).expand:=by
 obtain⟨t,ht,hnm⟩:=har.nm k hk;have htk:(ts.getD k .eps)=t:=by rw[List.getD_eq_getElem?_getD,ht];rfl
 have hok:=har.ok k hk;have at' : ∀ (x:Int) (a:RT),(ts.take k)[x.toNat]?=some a->ts.getD x.toNat .eps=a:=λx a hx=>by
  rw[List.getElem?_take]at hx;split at hx
  ·rw[List.getD_eq_getElem?_getD,hx];rfl
  ·cases hx
 rw[htk];intro l r u fp w hl ho hlt hs;obtain⟨b,o,hao,hb,hx1,hx2⟩:=jT hs hk;have hun:UnT ar ts ao c ar[k]\/ar[k].op≠7:=by
  by_cases h7:ar[k].op=7
  ·left;rintro _ rfl;exact Bk ar ts ao c k hg (Ou ar ts ao c k hg) ar[k] (hok.2.1 oM) (hok.2.2.2 h7)
  ·exact .inr h7
 generalize ar[k]=d at *;refine mE (nt:=61) _ _ [.tmp 6] (by show 2<=7;omega) ho hlt func124 rfl rfl rfl ?_;subst hao;refine vR Γ0 j7 ?_
 refine Wp.o9 Γ0 b8 (by simp only[jD,Op.operands,Value.cells,σ0,σB,Nat.reduceEqDiff,Nat.reduceAdd,Nat.reduceMul,Nat.reduceLT,Nat.reduceLeDiff,Nat.reduceBEq,av,Int.reduceToNat,Int.reduceLT,Int.reduceLE,Nat.reduceDiv,Nat.reduceMod,Nat.reduceSub,Int.reducePow,Nat.reducePow,σP,σB3,j7,↓hx1,↓hx2];exact rfl) rfl ?_ ?_
 ·exact⟨oM,hb,sI,Nd.ej d⟩
 refine Wp.seq ?_;refine vR Γ0 j7 ?_;refine Wp.block ?_;refine Wp.seq ?_;refine vR Γ0 j7 ?_;have hnl:∀ m:Nat,aI t.expand=1->l.length+aI t.expand-1=l.length:=λ_ h=>by omega
 have leaf:d.op<2->True:=λ_=>trivial
 refine wC j7 (λhc=>?_) (λhc=>?_)
 ·have h0:d.op=0:=by simpa using hc
  obtain⟨hla,hrs⟩:=hnm.leaf oM;refine wK ?_;refine wC j7 (λhc=>?_) (λhc=>?_)
  rotate_left
  ·exfalso;simp[h0]at hc
  rw[hla,hrs,<- bR,Nat.add_sub_cancel];refine kO Γ0 j7 ?_ ?_
  ·exact⟨sI,by unfold maxLen;omega,oM,Nd.ej _⟩
  have w1:IntKind.i64.wrap (((l.length+1:Nat):Int)-1)=((l.length:Nat):Int):=wW;refine vR Γ0 (aa j7 w1) ?_;refine wZ j7 ?_;exact⟨_,_,rfl,λE=>rfl,_,_,rfl,(ev (aa j7 @aB)),dE⟩
 ·have h0:¬ d.op=0:=by simpa using hc
  refine vr Γ0 j7 ?_;refine wC j7 (λhc=>?_) (λhc=>?_)
  ·have h1:d.op=1:=by simpa using hc
   obtain⟨hla,hrs⟩:=hnm.leaf oM;rw[hla,hrs,<- bR,Nat.add_sub_cancel];refine kO Γ0 j7 ?_ ?_
   ·exact⟨sI,by unfold maxLen;omega,oM,Nd.ej _⟩
   have w1:IntKind.i64.wrap (((l.length+1:Nat):Int)-1)=((l.length:Nat):Int):=wW;refine vR Γ0 (aa j7 w1) ?_;refine wZ j7 ?_;exact⟨_,_,rfl,λE=>rfl,_,_,rfl,(ev (aa j7 @aB)),dE⟩
  have h1:¬ d.op=1:=by simpa using hc
  refine vR Γ0 j7 ?_;refine wC j7 (λhc=>?_) (λhc=>?_)
  ·have h7:d.op=7:=by simpa using hc
   obtain⟨a,g1,g2⟩:=hnm.seven h7;have g3:=at' _ _ g1;have hun' := hun.resolve_right (λh=>h h7);rw[g2]at hl ⊢;rw[<- g3]at hl ⊢;refine wR (Γ70 ar ts (some ⟨b,o,none⟩) c k d hg hun') j7 ?_ ?_
   ·exact⟨⟨⟨l,rfl,rfl⟩,hl,hs⟩,dE,sI⟩
   refine wZ j7 ?_;exact⟨_,_,rfl,λE=>rfl,_,_,rfl,(ev (aa j7 @aB)),dE⟩
  have h7:¬ d.op=7:=by simpa using hc
  obtain⟨a,a',g1,g2,hrs,hla⟩:=hnm.two oM h7;have g3:=at' _ _ g1;have g4:=at' _ _ g2;have ha:=hok.2.1 oM;have hb' := hok.2.2.1 oM h7;have hL1:=gC a.expand l.length;have hL2:=gC a'.expand (l.length+aI a.expand);rw[hla,hrs];rw[hrs]at hl;have hun' : UnT ar ts (some ⟨b,o,none⟩) c ⟨7,0,d.a,0,0,0⟩:=by
   rintro _ rfl;exact Bk ar ts _ c k hg (Ou ar ts _ c k hg) ⟨7,0,d.a,0,0,0⟩ ha (.inr (by show (0:Int)<=0/\(0:Int)<=255/\(0:Int)<=255/\((0:Int)=-1\/(0:Int)<=0/\(0:Int)<=0);omega))
  refine wK ?_;refine wR (Γ70 ar ts (some ⟨b,o,none⟩) c k ⟨7,0,d.a,0,0,0⟩ hg hun') (aa j7 g3) ?_ ?_
  ·exact⟨⟨⟨l,rfl,rfl⟩,ha,oM,hs⟩,dE,sI⟩
  refine wR (Γ70 ar ts (some ⟨b,o,none⟩) c k ⟨7,0,d.a,0,0,0⟩ hg hun') (aa j7 g4) ?_ ?_
  ·exact⟨⟨⟨l++eD l.length a.expand,by rw[bR],by rw[List.length_append,hL1]⟩,hb',oM,hs⟩,dE,sI⟩
  refine wR (Γ70 ar ts (some ⟨b,o,none⟩) c k ⟨7,0,d.a,0,0,0⟩ hg hun') j7 ?_ ?_
  ·exact⟨⟨l++eD l.length a.expand++eD (l.length+aI a.expand) a'.expand,by rw[bR,bR],by rw[List.length_append,List.length_append,hL1,hL2],by rw[List.length_append,List.length_append,hL1,hL2];omega⟩,dE,sI⟩
  refine wZ j7 ?_;have e:l.length+(aI a.expand+aI a'.expand+1)=l.length+aI a.expand+aI a'.expand+1:=oM;rw[e,Nat.add_sub_cancel,bR,bR,mq,<- List.append_assoc,<- List.append_assoc];exact⟨_,_,rfl,λE=>rfl,_,_,rfl,(ev (aa j7 @aB)),dE⟩
theorem H3(har:AR ar ts):∀ n,n<=ar.length->kn ar ts ao c n
 |0,_=>by
  rintro _ ⟨x,rfl,hx⟩;omega
 | n+1,hn=>by
  have ih:=H3 har n oM;rintro _ ⟨x,rfl,hx⟩;by_cases h:x<n
  ·exact ih _ ⟨x,rfl,hx.1,h⟩
  ·have e:x=(n:Int):=oM;subst e;exact Vp ar ts ao c har n oM ih
end
end
section
def mI(r:RL):Prop:=r.1=cF (aI r.2)
theorem mI.leaf{t:Rx}(h:aI t=1):mI (bY t):=by
 show 1=cF (aI t);rw[h];rfl
theorem mI.join{mk:Rx->Rx->Rx}(hm:∀ x y,aI (mk x y)=aI x+aI y+1){a b:RL}(ha:mI a)(hb:mI b):mI (aX mk a b):=by
 show cF (1+a.1+b.1)=cF (aI (mk a.2 b.2));rw[hm,ha,hb,NO,NT]
 congr 1
 omega
theorem mI.star{a:RL}(ha:mI a):mI (gf a):=by
 show cF (1+a.1)=cF (aI a.2+1);rw[ha];unfold cF;omega
theorem mI.maybe{a:RL}(ha:mI a):mI (bM a):=mI.join (λ_ _=>rfl) ha (mI.leaf rfl)
theorem mI.iter{f:RL->RL}(hf:∀ x,mI x->mI (f x)):∀ (k:Nat) {x:RL},mI x->mI (bH f k x)
 |0,_,h=>h
 |k+1,_,h=>mI.iter hf k (hf _ h)
theorem mI.times{a:RL}(ha:mI a)(m n:Int):mI (dy a m n):=by
 have h1:mI (if m=0 then bM a else a):=by split;exact ha.maybe;exact ha
 have h2:mI (bH (λx=>aX .cat x a) (m-1).toNat (if m=0 then bM a else a)):=mI.iter (λx hx=>mI.join (λ_ _=>rfl) hx ha) _ h1;unfold dy;split
 ·exact ha.star
 ·split
  ·exact mI.leaf rfl
  ·split
   ·exact mI.join (λ_ _=>rfl) h2 ha.star
   ·exact mI.iter (λx hx=>mI.join (λ_ _=>rfl) hx ha.maybe) _ h2
theorem RT.wG(t:RT):t.sz<=2001:=by
 cases t with
 |eps=>decide
 |cls S=>show 1<=2001;decide
 |cat a b=>exact kX _
 |alt a b=>exact kX _
 |and a b=>exact kX _
 |minus a b=>exact kX _
 |rep a m n=>exact kX _
theorem NM.size{ts:List RT}{d:Nd}{t:RT}(h:NM ts d t)(hts:∀ s∈ts,mI s.val):mI t.val:=by
 have at' : ∀ {x:Nat} {a:RT},ts[x]?=some a->mI a.val:=λh=>hts _ (List.mem_of_getElem? h)
 cases h with
 |eps h0 h1=>exact mI.leaf rfl
 |cls h0=>exact mI.leaf rfl
 |cat a b _ _ h1 _ h2=>exact mI.join (mk:=.cat) (λ_ _=>rfl) (at' h1) (at' h2)
 |alt a b _ _ h1 _ h2=>exact mI.join (mk:=.alt) (λ_ _=>rfl) (at' h1) (at' h2)
 |and a b _ _ h1 _ h2=>exact mI.join (mk:=.and) (λ_ _=>rfl) (at' h1) (at' h2)
 |minus a b _ _ h1 _ h2=>exact mI.join (mk:=.minus) (λ_ _=>rfl) (at' h1) (at' h2)
 | rep a _ _ h1 h2=>
  rcases h2 with ⟨e1,e2⟩|⟨g0,_,_,g1⟩
  ·rw[e1,e2,<- AK];exact mI.join (λ_ _=>rfl) (at' h1) (at' h1).star
  ·rw[<- vm a d.m d.n g0 g1 a.wG];exact (at' h1).times _ _
theorem AR.size{ar:List Nd}{ts:List RT}(h:AR ar ts):∀ t∈ts,mI t.val:=by
 induction h with
 |nil=>intro t ht;cases ht
 | snoc ha hn ih=>
  intro s hs;rcases List.mem_append.1 hs with hs|hs
  ·exact ih s hs
  ·rw[List.mem_singleton.1 hs];exact hn.size ih
theorem AR.small{ar:List Nd}{ts:List RT}(h:AR ar ts){t:RT}(ht:t∈ts)(hs:t.sz<=2000):aI t.expand<=2000:=by
 have:=h.size t ht;have e:t.sz=cF (aI t.expand):=this;unfold cF at e;omega
end
section
open Go.RowKit Go.LE Go.Proofs.Tryz
set_option maxRecDepth 10000
def hxD(n:Int):UInt8:=if n<10 then (48+n).toNat.toUInt8 else (87+n).toNat.toUInt8
def ly(b:Int)(barred:Bool):ByteArray:=
 if b=10 then ⟨#[92,110]⟩ else if b=13 then ⟨#[92,114]⟩ else if b=9 then ⟨#[92,116]⟩
 else if b<32\/126<b then ⟨#[92,120,hxD (b / 16),hxD (b % 16)]⟩
 else if barred=true then ⟨#[92,b.toNat.toUInt8]⟩ else ⟨#[b.toNat.toUInt8]⟩
theorem lZ(b:Int)(q:Bool):(ly b q).size<=4:=by
 unfold ly
 repeat' split
 all_goals (show Array.size _<=4;simp)
def lN(S:CS):Nat->Nat
 |0=>0
 |n+1=>lN S n+if S.getLsbD n=true then 1 else 0
def kb(S:CS):Nat:=lN S 256
theorem D1(S:CS)(n:Nat):lN S n<=n:=by
 induction n with
 |zero=>exact Nat.le_refl _
 |succ n ih=>
  unfold lN;split<;>omega
def F7(S:CS):Nat->Nat->Nat
 |0,b=>b
 |k+1,b=>if S.getLsbD b=true then b else F7 S k (b+1)
def AN(S:CS):Nat:=F7 S 256 0
theorem Oh(S:CS):∀ k b,b<=F7 S k b/\F7 S k b<=b+k
 |0,b=>⟨Nat.le_refl _,Nat.le_refl _⟩
 | k+1,b=>by
  unfold F7;split
  ·omega
  ·have:=Oh S k (b+1);omega
theorem Ox(S:CS)(b:Nat)(hb:b<256)(h1:∀ j<b,S.getLsbD j=false)(h2:S.getLsbD b=true):AN S=b:=by
 have key:∀ k j,j+k=256->j<=b->F7 S k j=b:=by
  intro k
  induction k with
  |zero=>intro j hj hjb;omega
  | succ k ih=>
   intro j hj hjb;unfold F7;by_cases e:j=b
   ·subst e;rw[if_pos h2]
   ·rw[if_neg (by rw[h1 j oM];simp)];exact ih (j+1) oM oM
 exact key 256 0 rfl (Nat.zero_le _)
theorem CW(S:CS)(n:Nat)(h:∀ j<n,S.getLsbD j=false):lN S n=0:=by
 induction n with
 |zero=>rfl
 |succ n ih=>
  unfold lN;rw[ih λj hj=>h j oM,h n oM];rfl
def kE(T:CS):Nat->Nat->Nat
 |0,b=>b
 |k+1,b=>if T.getLsbD (b+1)=true then kE T k (b+1) else b
def kv(T:CS)(b:Nat):Nat:=kE T (255-b) b
theorem DS(T:CS)(b:Nat)(hb:b<255)(h:T.getLsbD (b+1)=true):kv T b=kv T (b+1):=by
 unfold kv;rw[show 255-b=(255-(b+1))+1 by omega,kE,if_pos h]
theorem CK(T:CS)(b:Nat)(h:b<255->T.getLsbD (b+1)=false):kv T b=b:=by
 unfold kv;by_cases hb:b<255
 ·rw[show 255-b=(255-(b+1))+1 by omega,kE,if_neg (by rw[h hb];simp)]
 ·rw[show 255-b=0 by omega,kE]
theorem Ps(T:CS)(b:Nat)(hb:b<256):b<=kv T b/\kv T b<256:=by
 have key:∀ k j,b<=j->j+k<=255->b<=kE T k j/\kE T k j<256:=by
  intro k
  induction k with
  |zero=>intro j h1 h2;exact⟨h1,by rw[kE];omega⟩
  |succ k ih=>
   intro j h1 h2;unfold kE;split
   ·exact ih (j+1) oM oM
   ·omega
 exact key (255-b) b (Nat.le_refl _) oM
theorem aep(T:CS)(b j:Nat)(hb:b<256)(h0:T.getLsbD b=true)(h1:b<=j)(h2:j<=kv T b):T.getLsbD j=true:=by
 have key:∀ k i,T.getLsbD i=true->i<=j->j<=kE T k i->T.getLsbD j=true:=by
  intro k
  induction k with
  |zero=>
   intro i hi h1 h2;rw[kE]at h2;have:i=j:=oM;rw[<- this];exact hi
  | succ k ih=>
   intro i hi h1 h2;unfold kE at h2;by_cases e:i=j
   ·rw[<- e];exact hi
   ·split at h2
    ·rename_i hn;exact ih (i+1) hn oM h2
    ·omega
 exact key _ b h0 h1 h2
theorem XM(T:CS)(b:Nat)(hb:b<256)(h:kv T b<255):T.getLsbD (kv T b+1)=false:=by
 have key:∀ k i,i+k=255->kE T k i<255->T.getLsbD (kE T k i+1)=false:=by
  intro k
  induction k with
  |zero=>intro i h1 h2;rw[kE]at h2;omega
  | succ k ih=>
   intro i h1 h2;unfold kE at h2 ⊢;split at h2
   ·rename_i hn;rw[if_pos hn];exact ih (i+1) oM h2
   ·rename_i hn;rw[if_neg hn];simpa using hn
 exact key (255-b) b oM h
def oA:ByteArray:=⟨#[45]⟩
def NK(out:ByteArray)(b e:Nat):ByteArray:=
 if b<e then (if b+1<e then out++ly b (kW mH b)++oA else out++ly b (kW mH b))++ly e (kW mH e) else out++ly b (kW mH b)
theorem S3(out:ByteArray)(b e:Nat):(NK out b e).size<=out.size+9:=by
 have h1:=lZ b (kW mH b);have h2:=lZ e (kW mH e);have h3:oA.size=1:=rfl;unfold NK
 repeat' split
 all_goals simp only[ByteArray.size_append];omega
def UQ(T:CS)(b:Nat):Bool:=T.getLsbD b&&(b == 0||!T.getLsbD (b-1))
def dn(T:CS)(pre:ByteArray):Nat->ByteArray
 |0=>pre
 |b+1=>if UQ T b=true then NK (dn T pre b) b (kv T b) else dn T pre b
theorem jE(T:CS)(pre:ByteArray)(b:Nat):(dn T pre b).size<=pre.size+9*b:=by
 induction b with
 |zero=>simp[dn]
 | succ b ih=>
  unfold dn;split
  ·have:=S3 (dn T pre b) b (kv T b);omega
  ·omega
theorem NX(T:CS)(pre:ByteArray)(b:Nat)(hb:b<256)(h0:T.getLsbD b=true):∀ j,b<j->j<=kv T b+1->dn T pre j=dn T pre (b+1):=by
 intro j
 induction j with
 |zero=>intro h;omega
 | succ j ih=>
  intro h1 h2;by_cases e:j=b
  ·rw[e]
  ·have hs:UQ T j=false:=by
    have g1:=aep T b (j-1) hb h0 oM oM;unfold UQ;rw[g1];have:(j == 0)=false:=by simp;omega
    rw[this];simp
   rw[dn,if_neg (by rw[hs];simp)];exact ih oM oM
def zI:ByteArray:=⟨#[91]⟩
def Bw:ByteArray:=⟨#[91,94]⟩
def QQ:ByteArray:=⟨#[93]⟩
def iB(S:CS):ByteArray:=
 if kb S=1 then ly (AN S) (kW BK (AN S))
 else (if 128<kb S then dn (~~~S) Bw 256 else dn S zI 256)++QQ
theorem Lz(S:CS):(iB S).size<=2400:=by
 have h0:Bw.size=2:=rfl;have h1:zI.size=1:=rfl;have h2:QQ.size=1:=rfl;unfold iB;split
 ·have:=lZ (AN S) (kW BK (AN S));omega
 ·rw[ByteArray.size_append];split
  ·have:=jE (~~~S) Bw 256;omega
  ·have:=jE S zI 256;omega
def u9:Rx->Int
 |.eps=>4
 |.cls _=>4
 |.cat _ _=>2
 |.alt _ _=>0
 |.star _=>3
 |.and _ _=>1
 |.minus _ _=>1
def lpB:ByteArray:=⟨#[40]⟩
def rpB:ByteArray:=⟨#[41]⟩
def amH:ByteArray:=⟨#[40,41]⟩
def alJ:ByteArray:=⟨#[124]⟩
def ak1:ByteArray:=⟨#[38]⟩
def ahl:ByteArray:=⟨#[42]⟩
def qc(r need:Int)(s:ByteArray):ByteArray:=if r<need then lpB++s++rpB else s
def cq:Rx->ByteArray
 |.eps=>amH
 |.cls S=>iB S
 |.cat a b=>qc (u9 a) 2 (cq a)++qc (u9 b) 3 (cq b)
 |.alt a b=>qc (u9 a) 0 (cq a)++alJ++qc (u9 b) 1 (cq b)
 |.star a=>qc (u9 a) 3 (cq a)++ahl
 |.and a b=>qc (u9 a) 1 (cq a)++ak1++qc (u9 b) 2 (cq b)
 |.minus a b=>qc (u9 a) 1 (cq a)++oA++qc (u9 b) 2 (cq b)
def Gu(t:Rx)(need:Int):ByteArray:=qc (u9 t) need (cq t)
theorem fF(r need:Int)(s:ByteArray):(qc r need s).size<=s.size+2:=by
 have h1:lpB.size=1:=rfl;have h2:rpB.size=1:=rfl;unfold qc;split
 ·rw[ByteArray.size_append,ByteArray.size_append];omega
 ·omega
theorem dB:∀ t:Rx,(cq t).size<=2400*aI t
 |.eps=>by show 2<=2400*1;omega
 |.cls S=>by
  have:=Lz S;show (iB S).size<=2400*1;omega
 |.cat a b=>by
  have h1:=dB a;have h2:=dB b;have h3:=fF (u9 a) 2 (cq a);have h4:=fF (u9 b) 3 (cq b);have h5:aI (.cat a b)=aI a+aI b+1:=rfl;unfold cq;rw[ByteArray.size_append];omega
 |.alt a b=>by
  have h1:=dB a;have h2:=dB b;have h3:=fF (u9 a) 0 (cq a);have h4:=fF (u9 b) 1 (cq b);have h5:aI (.alt a b)=aI a+aI b+1:=rfl;have h6:alJ.size=1:=rfl;unfold cq;rw[ByteArray.size_append,ByteArray.size_append];omega
 |.star a=>by
  have h1:=dB a;have h3:=fF (u9 a) 3 (cq a);have h5:aI (.star a)=aI a+1:=rfl;have h6:ahl.size=1:=rfl;unfold cq;rw[ByteArray.size_append];omega
 |.and a b=>by
  have h1:=dB a;have h2:=dB b;have h3:=fF (u9 a) 1 (cq a);have h4:=fF (u9 b) 2 (cq b);have h5:aI (.and a b)=aI a+aI b+1:=rfl;have h6:ak1.size=1:=rfl;unfold cq;rw[ByteArray.size_append,ByteArray.size_append];omega
 |.minus a b=>by
  have h1:=dB a;have h2:=dB b;have h3:=fF (u9 a) 1 (cq a);have h4:=fF (u9 b) 2 (cq b);have h5:aI (.minus a b)=aI a+aI b+1:=rfl;have h6:oA.size=1:=rfl;unfold cq;rw[ByteArray.size_append,ByteArray.size_append];omega
theorem pA(k a b c d:Nat)(hc:c<2 ^ k)(hd:d<2 ^ k):(2 ^ k*a+c) &&& (2 ^ k*b+d)=2 ^ k*(a &&& b)+(c &&& d):=by
 have he:(c &&& d)<2 ^ k:=Nat.lt_of_le_of_lt Nat.and_le_left hc;apply Nat.eq_of_testBit_eq;intro j;rw[Nat.testBit_and,Nat.testBit_two_pow_mul_add a hc,Nat.testBit_two_pow_mul_add b hd,Nat.testBit_two_pow_mul_add _ he];by_cases h:j<k
 ·rw[if_pos h,if_pos h,if_pos h,Nat.testBit_and]
 ·rw[if_neg h,if_neg h,if_neg h,Nat.testBit_and]
def M0:Nat->Nat
 |0=>0
 |n+1=>4*M0 n+1
def f0(n x:Nat):Nat:=((x / 2) &&& M0 n)+(x &&& M0 n)
theorem abP(x:Nat):f0 0 x=0:=by simp[f0,M0]
theorem yt(n q d:Nat)(hd:d<4):f0 (n+1) (4*q+d)=4*f0 n q+(d / 2+d % 2):=by
 have h1:(4*q+d) / 2=2 ^ 2*(q / 2)+(2*(q % 2)+d / 2):=oM;have h2:=pA 2 (q / 2) (M0 n) (2*(q % 2)+d / 2) 1 oM oM;have h3:=pA 2 q (M0 n) d 1 oM oM;have h4:(2*(q % 2)+d / 2) &&& 1=d / 2:=by rw[Nat.and_one_is_mod];omega
 have h5:d &&& 1=d % 2:=Nat.and_one_is_mod d;rw[h4]at h2;rw[h5]at h3;unfold f0;rw[h1,M0];rw[show 4*M0 n+1=2 ^ 2*M0 n+1 by omega,show 4*q+d=2 ^ 2*q+d by omega,h2,h3];omega
theorem agM(n q b:Nat)(hb:b<256):f0 (n+4) (256*q+b)=256*f0 n q+f0 4 b:=by
 have key:∀ m r,f0 (m+4) (256*r+b)=256*f0 m r+(64*(b / 64 / 2+b / 64 % 2)+(16*(b / 16 % 4 / 2+b / 16 % 4 % 2)+(4*(b / 4 % 4 / 2+b / 4 % 4 % 2)+(b % 4 / 2+b % 4 % 2)))):=λm r=>by
  rw[show 256*r+b=4*(4*(4*(4*r+b / 64)+b / 16 % 4)+b / 4 % 4)+b % 4 by omega];rw[yt _ _ _ oM,yt _ _ _ oM,yt _ _ _ oM,yt _ _ _ oM];omega
 have h0:=key 0 0;rw[abP]at h0;rw[key,show f0 4 b=f0 (0+4) (256*0+b) by rw[Nat.mul_zero,Nat.zero_add,Nat.zero_add],h0];omega
def M1:Nat->Nat
 |0=>0
 |n+1=>16*M1 n+3
def f1(n x:Nat):Nat:=((x / 4) &&& M1 n)+(x &&& M1 n)
theorem PM(x:Nat):f1 0 x=0:=by simp[f1,M1]
theorem alW(x:Nat):x &&& 3=x % 4:=Nat.and_two_pow_sub_one_eq_mod x 2
theorem alg(x:Nat):x &&& 15=x % 16:=Nat.and_two_pow_sub_one_eq_mod x 4
theorem OK(n q d:Nat)(hd:d<16):f1 (n+1) (16*q+d)=16*f1 n q+(d / 4+d % 4):=by
 have h1:(16*q+d) / 4=2 ^ 4*(q / 4)+(4*(q % 4)+d / 4):=oM;have h2:=pA 4 (q / 4) (M1 n) (4*(q % 4)+d / 4) 3 oM oM;have h3:=pA 4 q (M1 n) d 3 oM oM;have h4:(4*(q % 4)+d / 4) &&& 3=d / 4:=by rw[alW];omega
 rw[h4]at h2;rw[alW]at h3;unfold f1;rw[h1,M1];rw[show 16*M1 n+3=2 ^ 4*M1 n+3 by omega,show 16*q+d=2 ^ 4*q+d by omega,h2,h3];omega
theorem ab0(n q b:Nat)(hb:b<256):f1 (n+2) (256*q+b)=256*f1 n q+f1 2 b:=by
 have key:∀ m r,f1 (m+2) (256*r+b)=256*f1 m r+(16*(b / 16 / 4+b / 16 % 4)+(b % 16 / 4+b % 16 % 4)):=λm r=>by
  rw[show 256*r+b=16*(16*r+b / 16)+b % 16 by omega];rw[OK _ _ _ oM,OK _ _ _ oM];omega
 have h0:=key 0 0;rw[PM]at h0;rw[key,show f1 2 b=f1 (0+2) (256*0+b) by rw[Nat.mul_zero,Nat.zero_add,Nat.zero_add],h0];omega
def M2:Nat->Nat
 |0=>0
 |n+1=>256*M2 n+15
def f2(n x:Nat):Nat:=(x / 16+x) &&& M2 n
theorem ae3(x:Nat):f2 0 x=0:=by simp[f2,M2]
theorem abQ(n q d:Nat)(hd:d % 16<=4/\d / 16<=4)(hq:q % 16<=4):f2 (n+1) (256*q+d)=256*f2 n q+(d / 16+d % 16):=by
 have h1:(256*q+d) / 16+(256*q+d)=2 ^ 8*(q / 16+q)+(16*(q % 16)+d / 16+d):=oM;have h2:=pA 8 (q / 16+q) (M2 n) (16*(q % 16)+d / 16+d) 15 oM oM;have h4:(16*(q % 16)+d / 16+d) &&& 15=d / 16+d % 16:=by rw[alg];omega
 rw[h4]at h2;unfold f2;rw[h1,M2];rw[show 256*M2 n+15=2 ^ 8*M2 n+15 by omega,h2]
def fD(x:Nat):Nat->Nat
 |0=>0
 |k+1=>fD x k+if x.testBit k=true then 1 else 0
theorem HL(q b:Nat)(hb:b<256):∀ k,k<=8->fD (256*q+b) k=fD b k
 |0,_=>rfl
 |k+1,h=>by
  have h8:=Nat.testBit_two_pow_mul_add (i:=8) q (b:=b) hb k;rw[if_pos (show k<8 by omega),show 2 ^ 8*q+b=256*q+b by omega]at h8;rw[fD,fD,HL q b hb k oM,h8]
theorem DA(q b:Nat)(hb:b<256):∀ k,fD (256*q+b) (8+k)=fD b 8+fD q k
 |0=>HL q b hb 8 (Nat.le_refl _)
 |k+1=>by
  have h8:=Nat.testBit_two_pow_mul_add (i:=8) q (b:=b) hb (8+k);rw[if_neg (show ¬ 8+k<8 by omega),show 2 ^ 8*q+b=256*q+b by omega,show 8+k-8=k by omega]at h8;have ih:=DA q b hb k;have e1:fD (256*q+b) (8+(k+1))=fD (256*q+b) (8+k)+if (256*q+b).testBit (8+k)=true then 1 else 0:=rfl
  have e2:fD q (k+1)=fD q k+if q.testBit k=true then 1 else 0:=rfl;rw[e1,e2,ih,h8];omega
theorem Bh:∀ b:Fin 256,f0 4 b.val<256/\f1 2 (f0 4 b.val)<256/\f1 2 (f0 4 b.val) % 16<=4/\f1 2 (f0 4 b.val) / 16<=4/\f1 2 (f0 4 b.val) / 16+f1 2 (f0 4 b.val) % 16=fD b.val 8/\fD b.val 8<=8:=by decide +kernel
theorem NY(n q b:Nat)(hb:b<256)(hq:f1 (n*2) (f0 (n*4) q) % 16<=4) :
  f2 (n+1) (f1 ((n+1)*2) (f0 ((n+1)*4) (256*q+b)))=256*f2 n (f1 (n*2) (f0 (n*4) q))+fD b 8/\f1 ((n+1)*2) (f0 ((n+1)*4) (256*q+b)) % 16<=4:=by
 obtain⟨h1,h2,h3,h4,h5,h6⟩:=Bh ⟨b,hb⟩;simp only at h1 h2 h3 h4 h5 h6;rw[show (n+1)*4=n*4+4 by omega,show (n+1)*2=n*2+2 by omega,agM _ _ _ hb,ab0 _ _ _ h1];refine⟨?_,oM⟩;rw[abQ _ _ _ ⟨h3,h4⟩ hq,h5]
def GK:Nat->Nat->Nat
 |0,_=>0
 |n+1,x=>256*GK n (x / 256)+fD (x % 256) 8
theorem Dp:∀ n x,f2 n (f1 (n*2) (f0 (n*4) x))=GK n x/\f1 (n*2) (f0 (n*4) x) % 16<=4
 |0,x=>by
  show f2 0 (f1 0 (f0 0 x))=GK 0 x/\f1 0 (f0 0 x) % 16<=4;rw[ae3,PM];exact⟨rfl,oM⟩
 |n+1,x=>by
  have ih:=Dp n (x / 256);have h:=NY n (x / 256) (x % 256) oM ih.2;rw[show 256*(x / 256)+x % 256=x by omega,ih.1]at h;exact h
theorem No(x:Nat):fD x 64=fD (x % 256) 8+(fD (x / 256 % 256) 8+(fD (x / 256 / 256 % 256) 8+(fD (x / 256 / 256 / 256 % 256) 8+(fD (x / 256 / 256 / 256 / 256 % 256) 8+(fD (x / 256 / 256 / 256 / 256 / 256 % 256) 8+(fD (x / 256 / 256 / 256 / 256 / 256 / 256 % 256) 8+fD (x / 256 / 256 / 256 / 256 / 256 / 256 / 256 % 256) 8)))))):=by
 have step:∀ k y,fD y (8+k)=fD (y % 256) 8+fD (y / 256) k:=λk y=>by
  have h:=DA (y / 256) (y % 256) oM k;rw[show 256*(y / 256)+y % 256=y by omega]at h;exact h
 rw[show 64=8+(8+(8+(8+(8+(8+(8+(8+0))))))) from rfl];rw[step,step,step,step,step,step,step,step];rfl
theorem ml(x:Nat):fD (x % 256) 8<=8:=(Bh ⟨x % 256,oM⟩).2.2.2.2.2
theorem LF(x:Nat):∃ c0 c1 c2 c3 c4 c5 c6 c7:Nat,(c0<=8/\c1<=8/\c2<=8/\c3<=8/\c4<=8/\c5<=8/\c6<=8/\c7<=8) /\
  GK 8 x=256*(256*(256*(256*(256*(256*(256*(256*0+c7)+c6)+c5)+c4)+c3)+c2)+c1)+c0/\fD x 64=c0+(c1+(c2+(c3+(c4+(c5+(c6+c7)))))):=
 ⟨_,_,_,_,_,_,_,_,⟨ml _,ml _,ml _,ml _,ml _,ml _,ml _,ml _⟩,rfl,No x⟩
theorem XY(x:Nat):∃ y,y=GK 8 x/\y+y / 256<2 ^ 64/\(y+y / 256)+(y+y / 256) / 65536<2 ^ 64/\(y+y / 256)+(y+y / 256) / 65536+((y+y / 256)+(y+y / 256) / 65536) / 4294967296<2 ^ 63 /\
  ((y+y / 256)+(y+y / 256) / 65536+((y+y / 256)+(y+y / 256) / 65536) / 4294967296) % 128=fD x 64:=by
 obtain⟨c0,c1,c2,c3,c4,c5,c6,c7,hc,h1,h2⟩:=LF x;refine⟨GK 8 x,rfl,?_⟩;rw[h2];have h3:GK 8 x=c0+256*c1+65536*c2+16777216*c3+4294967296*c4+1099511627776*c5+281474976710656*c6+72057594037927936*c7:=by rw[h1];omega
 generalize GK 8 x=y at *;have h4:y / 256=c1+256*c2+65536*c3+16777216*c4+4294967296*c5+1099511627776*c6+281474976710656*c7:=oM;obtain⟨d0,e0⟩:∃ d,d=c0+c1:=⟨_,rfl⟩;obtain⟨d1,e1⟩:∃ d,d=c1+c2:=⟨_,rfl⟩;obtain⟨d2,e2⟩:∃ d,d=c2+c3:=⟨_,rfl⟩;obtain⟨d3,e3⟩:∃ d,d=c3+c4:=⟨_,rfl⟩
 obtain⟨d4,e4⟩:∃ d,d=c4+c5:=⟨_,rfl⟩;obtain⟨d5,e5⟩:∃ d,d=c5+c6:=⟨_,rfl⟩;obtain⟨d6,e6⟩:∃ d,d=c6+c7:=⟨_,rfl⟩;have h5:y+y / 256=d0+256*d1+65536*d2+16777216*d3+4294967296*d4+1099511627776*d5+281474976710656*d6+72057594037927936*c7:=oM;have hs:c0+(c1+(c2+(c3+(c4+(c5+(c6+c7))))))=d0+d2+d4+d6:=oM
 have hd:d0<=16/\d1<=16/\d2<=16/\d3<=16/\d4<=16/\d5<=16/\d6<=16/\c7<=16:=oM;rw[hs];clear h1 h2 h3 h4 hs hc e0 e1 e2 e3 e4 e5 e6;generalize y+y / 256=z at *;have h6:z / 65536=d2+256*d3+65536*d4+16777216*d5+4294967296*d6+1099511627776*c7:=oM;obtain⟨g0,k0⟩:∃ d,d=d0+d2:=⟨_,rfl⟩
 obtain⟨g1,k1⟩:∃ d,d=d1+d3:=⟨_,rfl⟩;obtain⟨g2,k2⟩:∃ d,d=d2+d4:=⟨_,rfl⟩;obtain⟨g3,k3⟩:∃ d,d=d3+d5:=⟨_,rfl⟩;obtain⟨g4,k4⟩:∃ d,d=d4+d6:=⟨_,rfl⟩;obtain⟨g5,k5⟩:∃ d,d=d5+c7:=⟨_,rfl⟩
 have h7:z+z / 65536=g0+256*g1+65536*g2+16777216*g3+4294967296*g4+1099511627776*g5+281474976710656*d6+72057594037927936*c7:=oM;have hz:z<2 ^ 64:=oM;have hs2:d0+d2+d4+d6=g0+g4:=oM;have hg:g0<=32/\g1<=32/\g2<=32/\g3<=32/\g4<=32/\g5<=32/\d6<=16/\c7<=16:=oM;rw[hs2];clear h5 h6 hs2 hd k0 k1 k2 k3 k4 k5
 generalize z+z / 65536=u at *;have h8:u / 4294967296=g4+256*g5+65536*d6+16777216*c7:=oM;refine⟨hz,oM,oM,?_⟩;omega
theorem Ik(S:CS)(j:Nat):∀ k,k<=64->lN S (64*j+k)=lN S (64*j)+fD (wd S j).toNat k
 |0,_=>rfl
 | k+1,h=>by
  have e:(wd S j).toNat.testBit k=S.getLsbD (64*j+k):=by
   rw[wd,Int.toNat_natCast];show (S.extractLsb' (64*j) 64).getLsbD k=_;rw[BitVec.getLsbD_extractLsb'];simp;omega
  rw[show 64*j+(k+1)=(64*j+k)+1 by omega,lN,fD,Ik S j k oM,e];omega
theorem akM(S:CS)(j:Nat):(wd S j).toNat<2 ^ 64:=by
 rw[wd,Int.toNat_natCast];exact (S.extractLsb' (64*j) 64).isLt
theorem Uw:∀ b:Fin 256,(0<=IntKind.u8.wrap (((b.val:Nat):Int).tdiv 16)/\IntKind.u8.wrap (((b.val:Nat):Int).tdiv 16)<16)/\(0<=((b.val:Nat):Int).tmod 16/\((b.val:Nat):Int).tmod 16<16) /\
  (⟨#[92,120]⟩:ByteArray)++bK [bt ⟨#[48,49,50,51,52,53,54,55,56,57,97,98,99,100,101,102]⟩ (IntKind.u8.wrap (((b.val:Nat):Int).tdiv 16)),bt ⟨#[48,49,50,51,52,53,54,55,56,57,97,98,99,100,101,102]⟩ (((b.val:Nat):Int).tmod 16)]=⟨#[92,120,hxD (((b.val:Nat):Int) / 16),hxD (((b.val:Nat):Int) % 16)]⟩:=by decide +kernel
def kV:=(aj @List.replicate_succ.{0} @List.replicate_zero.{0} @an @ab BH BJ BG (aj ty5 ty6 ty7 ty8 cf cj cd (aj ck fu fE fj fz fw dc (aj dh cZ db c8 dd xj wP (aj wB v8 @aG @al @ay @ax @mK (mh @dL @lS @ni @mv @aB @iP))))))
theorem Zm(b:Int)(q:Bool)(h0:0<=b)(h1:b<256)(w:World):Calls prog 204 #[.int .u8 b,.bool q] w λe w' => e=.returned (.string (ly b q))/\ah w [] w' := by
 refine af (nt:=37) [.tmp 4] func204 rfl rfl rfl ?_;refine vR Γ0 kV ?_;refine Wp.seq ?_;refine vR Γ0 kV ?_;refine wC kV (λhc=>?_) (λhc=>?_)
 ·have h:b=10:=by simpa using hc
  have e:ly b q=⟨#[92,110]⟩:=by rw[ly,if_pos h]
  rw[e];refine vR Γ0 kV ?_;refine wZ kV ?_;exact λE=>rfl
 have n10:¬ b=10:=by simpa using hc
 refine wK ?_;refine Wp.seq ?_;refine vR Γ0 kV ?_;refine wC kV (λhc=>?_) (λhc=>?_)
 ·have h:b=13:=by simpa using hc
  have e:ly b q=⟨#[92,114]⟩:=by rw[ly,if_neg n10,if_pos h]
  rw[e];refine vR Γ0 kV ?_;refine wZ kV ?_;exact λE=>rfl
 have n13:¬ b=13:=by simpa using hc
 refine wK ?_;refine Wp.seq ?_;refine vR Γ0 kV ?_;refine wC kV (λhc=>?_) (λhc=>?_)
 ·have h:b=9:=by simpa using hc
  have e:ly b q=⟨#[92,116]⟩:=by rw[ly,if_neg n10,if_neg n13,if_pos h]
  rw[e];refine vR Γ0 kV ?_;refine wZ kV ?_;exact λE=>rfl
 have n9:¬ b=9:=by simpa using hc
 refine wK ?_;refine Wp.seq ?_;refine vR Γ0 kV ?_;refine wC kV (λhc=>?_) (λhc=>?_)
 ·have h:b<32\/126<b:=by simpa using hc
  have e:ly b q=⟨#[92,120,hxD (b / 16),hxD (b % 16)]⟩:=by rw[ly,if_neg n10,if_neg n13,if_neg n9,if_pos h]
  rw[e];obtain⟨n,rfl⟩:=Int.eq_ofNat_of_zero_le h0;obtain⟨f1,f2,f3⟩:=Uw ⟨n,oM⟩;simp only at f1 f2 f3;refine vR Γ0 kV ?_;refine kO Γ0 kV ?_ ?_
  ·exact⟨oM,f1,oM,f2,by show 2+2<=9223372036854775807;omega⟩
  refine wZ kV ?_;exact λE=>congrArg Value.string f3
 have n32:¬ (b<32\/126<b):=by simpa using hc
 refine wK ?_;refine Wp.seq ?_;refine vR Γ0 kV ?_;refine wC kV (λhc=>?_) (λhc=>?_)
 ·subst hc;have e:ly b true=⟨#[92,b.toNat.toUInt8]⟩:=by rw[ly,if_neg n10,if_neg n13,if_neg n9,if_neg n32,if_pos rfl]
  rw[e];refine wR Γ0 kV ?_ ?_
  ·show 1+1<=9223372036854775807;omega
  refine wZ kV ?_;exact λE=>rfl
 ·subst hc;have e:ly b false=⟨#[b.toNat.toUInt8]⟩:=by rw[ly,if_neg n10,if_neg n13,if_neg n9,if_neg n32,if_neg sI]
  rw[e];refine wK ?_;refine vR Γ0 kV ?_;refine wZ kV ?_;exact λE=>rfl
def O9:aM prog 204 where
 pre:=λW bs=>λ| [.val (.int .u8 b),.val (.bool q)]=>0<=b/\b<256|_=>False
 res:=λW=>λ| [.val (.int .u8 b),.val (.bool q)]=>.string (ly b q)|_=>undef
 enters:=call204
 ok:=by
  intro W w bs us as_ hk hu hp;split at hp
  ·rename_i b q
   match us,hu with
   |[u0,u1],hu=>
    obtain⟨rfl,rfl,_⟩:=hu;exact Zm b q hp.1 hp.2 w
  ·exact hp.elim
theorem RE(W:World)(b:Int)(q:Bool):O9.res W [.val (.int .u8 b),.val (.bool q)]=.string (ly b q):=rfl
theorem TF(W:World)(bs:List Nat)(b:Int)(q:Bool):O9.pre W bs [.val (.int .u8 b),.val (.bool q)]=(0<=b/\b<256):=rfl
theorem gu(s:ByteArray):lB ((byteCells s).map SV.v)=some (s.data.toList.map λc=>(c.toNat:Int)):=by
 have h:(byteCells s).map SV.v=(s.data.toList.map λc=>(c.toNat:Int)).map λn=>SV.v (.int .u8 n):=by simp[byteCells]
 rw[h,pL]
theorem js(s:ByteArray):bK (s.data.toList.map λc=>(c.toNat:Int))=s:=by
 rcases s with ⟨⟨l⟩⟩;unfold bK;rw[List.map_map];have h:(λn:Int=>UInt8.ofNat n.toNat) ∘ (λc:UInt8=>(c.toNat:Int))=id:=by
  funext c
  show UInt8.ofNat ((c.toNat:Int).toNat)=c;rw[Int.toNat_natCast,UInt8.ofNat_toNat]
 rw[h,List.map_id]
theorem ln(s:ByteArray):((byteCells s).map SV.v).all dm=true:=by
 rw[List.all_eq_true];intro x hx;obtain⟨v,hv,rfl⟩:=List.mem_map.1 hx;obtain⟨c,_,rfl⟩:=List.mem_map.1 hv;rfl
theorem dY(s:ByteArray)(l:List Int)(h:∀ c∈l,0<=c/\c<256):(byteCells s).map SV.v++l.map (λc=>SV.v (.int .u8 c))=(byteCells (s++bK l)).map SV.v:=by
 unfold byteCells bK;rw[ByteArray.data_append,Array.toList_append,List.map_append,List.map_append]
 congr 1
 simp only[List.map_map];refine List.map_congr_left λc hc=>?_
 obtain⟨h0,h1⟩:=h c hc;simp only[Function.comp,UInt8.toNat_ofNat'];rw[Nat.mod_eq_of_lt oM]
 congr 2
 omega
theorem so(s t:ByteArray):(byteCells s).map SV.v++(byteCells t).map SV.v=(byteCells (s++t)).map SV.v:=by
 unfold byteCells;rw[ByteArray.data_append,Array.toList_append,List.map_append,List.map_append]
theorem S6:∀ b:Fin 256,(0<=((b.val:Nat):Int).fdiv 16/\((b.val:Nat):Int).fdiv 16<16)/\(0<=cw .and .u8 ((b.val:Nat):Int) 15/\cw .and .u8 ((b.val:Nat):Int) 15<16) /\
  ((b.val:Nat):Int).fdiv 16=((b.val:Nat):Int) / 16/\cw .and .u8 ((b.val:Nat):Int) 15=((b.val:Nat):Int) % 16:=by decide +kernel
theorem iA(s:ByteArray):(s.data.toList.map λc=>(c.toNat:Int)).length=s.size:=by rw[List.length_map];rfl
theorem aU(l:List Int):(bK l).size=l.length:=by simp[bK,ByteArray.size]
def kx:ByteArray:=⟨#[48,49,50,51,52,53,54,55,56,57,97,98,99,100,101,102]⟩
def cW(c:Int):List Int:=
 if c=34\/c=92 then [92,c] else if 32<=c/\c<=126 then [c] else if c=10 then [92,110] else if c=13 then [92,114] else if c=9 then [92,116] else [92,120,bt kx (c / 16),bt kx (c % 16)]
def bq(s:ByteArray):Nat->ByteArray
 |0=>bK [34]
 |k+1=>bq s k++bK (cW (bt s k))
def dS(s:ByteArray):ByteArray:=bq s s.size++bK [34]
theorem Y0(c:Int):(cW c).length<=4:=by
 unfold cW
 repeat' split
 all_goals simp
theorem lj(s:ByteArray):∀ k,(bq s k).size<=1+4*k
 |0=>by show (bK [34]).size<=_;rw[aU];simp
 |k+1=>by
  show (bq s k++bK (cW (bt s k))).size<=_;rw[ByteArray.size_append,aU];have:=lj s k;have:=Y0 (bt s k);omega
theorem Cs(s:ByteArray):(dS s).size<=2+4*s.size:=by
 show (bq s s.size++bK [34]).size<=_;rw[ByteArray.size_append,aU];have:=lj s s.size;simp only[List.length_cons,List.length_nil];omega
theorem jq(s:ByteArray)(i:Int):0<=bt s i/\bt s i<256:=by
 unfold bt;have:=(s.data[i.toNat]?.getD 0).toNat_lt;omega
def gI:=(aj @List.replicate_succ.{0} @List.replicate_zero.{0} @an @ab BH BJ BG (aj ty5 ty6 ty7 ty8 gS ca cc (aj b9 cg cf cj cd ck fu (aj fE fj fz fw dc dh cZ (aj db c8 dd xj wP wB v8 (uv @aG @al @ay @ax @gu @js @ln))))))
theorem Di(s:ByteArray)(hs:s.size<=16777216)(w:World):Calls prog 38 #[.string s] w λe w' => e=.returned (.string (dS s))/\ah w [] w' := by
 refine af (nt:=66) [.tmp 2] func38 rfl rfl rfl ?_;refine vR Γ0 gI ?_;refine vR Γ0 gI ?_;refine Wp.seq ?_;refine vR Γ0 gI ?_;refine Wp.block ?_
 refine Wp.loop (λk:Nat=>⟨20,bm [(0,.is (.v (.string s))),(3,.is (.hd 8)),(8,.is (.v (.int .i64 s.size))),(9,.is (.v (.int .i64 (k:Nat))))],aY [(8,.row 5 1 (bq s k).size ((byteCells (bq s k)).map .v))]⟩) (λk=>k<=s.size) (λk=>s.size-k) 0 ?_ (Nat.zero_le _) ?_
 ·exact wM (λk=>.key k) gI
 rintro k hk;refine vR Γ0 gI ?_;refine Wp.seq ?_;refine wC gI (λhc=>?_) (λhc=>?_)
 ·have hlt:k<s.size:=by
   simp at hc;omega
  obtain⟨c0,c1⟩:=jq s k;have hq:=lj s k;have ha:=λl hl=>dY (bq s k) l hl
  have hb:bq s (k+1)=bq s k++bK (cW (bt s k)):=rfl;have wk:IntKind.i64.wrap ((k:Int)+1)=((k+1:Nat):Int):=wW;refine wK ?_
  refine aW ⟨20,bm [(0,.is (.v (.string s))),(8,.is (.v (.int .i64 s.size))),(9,.is (.v (.int .i64 (k:Nat)))),(3,.is (.hd 8))],aY [(8,.row 5 1 (bq s (k+1)).size ((byteCells (bq s (k+1))).map .v))]⟩ ?_ ?_
  ·refine Wp.block ?_;refine vR Γ0 gI ?_;refine wR Γ0 gI ?_ ?_
   ·first|omega|exact⟨oM,oM⟩
   refine Wp.block ?_;refine vR Γ0 gI ?_;refine wC gI (λhc=>?_) (λhc=>?_)
   ·have hv:bt s k=34\/bt s k=92:=by simpa using hc
    have e0:cW (bt s k)=[92,bt s k]:=by rw[cW,if_pos hv]
    rw[e0]at hb;have e1:=ha _ (λc (hc:c∈[92,bt s k])=>by simp at hc;omega);rw[<- hb]at e1;simp only[List.map_cons,List.map_nil]at e1;have e2:(bq s (k+1)).size=(bq s k).size+2:=by rw[hb,ByteArray.size_append,aU];rfl
    refine wr Γ0 gI ?_ ?_
    ·exact by unfold maxLen;omega
    exact wM (λk=>if k=8 then .key 296 else .key k) (bQ gI e1 e2)
   have n0:¬ (bt s k=34\/bt s k=92):=by simpa using hc
   refine vR Γ0 gI ?_;refine wC gI (λhc=>?_) (λhc=>?_)
   ·have hv:32<=bt s k/\bt s k<=126:=by simpa using hc
    have e0:cW (bt s k)=[bt s k]:=by rw[cW,if_neg n0,if_pos hv]
    rw[e0]at hb;have e1:=ha _ (λc (hc:c∈[bt s k])=>by simp at hc;omega);rw[<- hb]at e1;simp only[List.map_cons,List.map_nil]at e1;have e2:(bq s (k+1)).size=(bq s k).size+1:=by rw[hb,ByteArray.size_append,aU];rfl
    refine wr Γ0 gI ?_ ?_
    ·exact by unfold maxLen;omega
    exact wM (λk=>if k=8 then .key 352 else .key k) (bQ gI e1 e2)
   have n1:¬ (32<=bt s k/\bt s k<=126):=by simpa using hc
   refine vR Γ0 gI ?_;refine wC gI (λhc=>?_) (λhc=>?_)
   ·have hv:bt s k=10:=by simpa using hc
    have e0:cW (bt s k)=[92,110]:=by rw[cW,if_neg n0,if_neg n1,if_pos hv]
    rw[e0]at hb;have e1:=so (bq s k) (bK [92,110]);rw[<- hb]at e1;have e2:(bq s (k+1)).size=(bq s k).size+2:=by rw[hb,ByteArray.size_append,aU];rfl
    have e3:(⟨#[92,110]⟩:ByteArray)=bK [92,110]:=rfl;have e4:(bK [92,110]).size=2:=rfl;refine wr Γ0 (bQ gI e3 e4) ?_ ?_
    ·unfold maxLen;omega
    exact wM (λk=>if k=8 then .key 360 else .key k) (bQ gI e1 e2)
   have n2:¬ bt s k=10:=by simpa using hc
   refine vR Γ0 gI ?_;refine wC gI (λhc=>?_) (λhc=>?_)
   ·have hv:bt s k=13:=by simpa using hc
    have e0:cW (bt s k)=[92,114]:=by rw[cW,if_neg n0,if_neg n1,if_neg n2,if_pos hv]
    rw[e0]at hb;have e1:=so (bq s k) (bK [92,114]);rw[<- hb]at e1;have e2:(bq s (k+1)).size=(bq s k).size+2:=by rw[hb,ByteArray.size_append,aU];rfl
    have e3:(⟨#[92,114]⟩:ByteArray)=bK [92,114]:=rfl;have e4:(bK [92,114]).size=2:=rfl;refine wr Γ0 (bQ gI e3 e4) ?_ ?_
    ·unfold maxLen;omega
    exact wM (λk=>if k=8 then .key 384 else .key k) (bQ gI e1 e2)
   have n3:¬ bt s k=13:=by simpa using hc
   refine vR Γ0 gI ?_;refine wC gI (λhc=>?_) (λhc=>?_)
   ·have hv:bt s k=9:=by simpa using hc
    have e0:cW (bt s k)=[92,116]:=by rw[cW,if_neg n0,if_neg n1,if_neg n2,if_neg n3,if_pos hv]
    rw[e0]at hb;have e1:=so (bq s k) (bK [92,116]);rw[<- hb]at e1;have e2:(bq s (k+1)).size=(bq s k).size+2:=by rw[hb,ByteArray.size_append,aU];rfl
    have e3:(⟨#[92,116]⟩:ByteArray)=bK [92,116]:=rfl;have e4:(bK [92,116]).size=2:=rfl;refine wr Γ0 (bQ gI e3 e4) ?_ ?_
    ·unfold maxLen;omega
    exact wM (λk=>if k=8 then .key 408 else .key k) (bQ gI e1 e2)
   have n4:¬ bt s k=9:=by simpa using hc
   have e0:cW (bt s k)=[92,120,bt kx (bt s k / 16),bt kx (bt s k % 16)]:=by rw[cW,if_neg n0,if_neg n1,if_neg n2,if_neg n3,if_neg n4]
   obtain⟨x,hx⟩:=Int.eq_ofNat_of_zero_le c0;have x1:x<256:=oM;obtain⟨f1,f2,f3,f4⟩:=S6 ⟨x,x1⟩;simp only at f1 f2 f3 f4;rw[hx]at e0;rw[hx,e0]at hb;have b1:=jq kx ((x:Int) / 16);have b2:=jq kx ((x:Int) % 16)
   have e1:=ha _ (λc (hc:c∈[92,120,bt kx ((x:Int) / 16),bt kx ((x:Int) % 16)])=>by simp at hc;omega);rw[<- hb]at e1;simp only[List.map_cons,List.map_nil]at e1;have e2:(bq s (k+1)).size=(bq s k).size+4:=by rw[hb,ByteArray.size_append,aU];rfl
   have hxe:(⟨#[48,49,50,51,52,53,54,55,56,57,97,98,99,100,101,102]⟩:ByteArray)=kx:=rfl;refine xv Γ0 (oy gI hx f3 f4 hxe) ?_ ?_
   ·rw[f3]at f1;rw[f4]at f2;exact⟨f1,f2,by unfold maxLen;omega,oM⟩
   exact wM (λk=>if k=8 then .key 464 else .key k) (uv gI hx f3 f4 hxe e1 e2)
  refine wr Γ0 (aa gI wk) ?_ ?_
  ·first|trivial|omega
  refine⟨k+1,hlt,oM,?_⟩;exact wM (λk=>.key k) gI
 ·have hk' : k=s.size:=by
   simp at hc;omega
  subst hk';have ha:=dY (bq s s.size) [34] (λc hc=>by simp at hc;omega);simp only[List.map_cons,List.map_nil]at ha;have hq:=lj s s.size;have e2:(dS s).size=(bq s s.size).size+1:=by rw[dS,ByteArray.size_append,aU];rfl
  refine wE ?_;refine wR Γ0 (aa gI ha) ?_ ?_
  ·exact⟨⟨by unfold maxLen;omega,oM⟩,by rw[iA,<- dS,e2]⟩
  refine wZ gI ?_;exact λE=>rfl
theorem Ua(s:ByteArray)(hs:s.size<=1048576)(w:World):Calls prog 38 #[.string s] w λe w' => e=.returned (.string (dS s))/\ah w [] w' := Di s oM w
def M4(c:Int):Bool:=(decide (c=95)||(decide (97<=c)&&decide (c<=122)))||(decide (65<=c)&&decide (c<=90))
def Jr(c:Int):Bool:=decide (48<=c)&&decide (c<=57)
def uE(c:Int):Bool:=decide (32<=c)&&decide (c<=126)
def BP:=(aj @List.replicate_succ.{0} @List.replicate_zero.{0} @an @ab gS ca cc (aj b9 cg cf cj cd ck fu (aj fE fj fz fw dc dh cZ (uv db c8 dd @aG @al @ay @ax))))
theorem Ky(c:Int)(w:World):Calls prog 133 #[.int .u8 c] w λe w' => e=.returned (.bool (M4 c))/\ah w [] w' := by
 refine af (nt:=21) [.tmp 2] func133 rfl rfl rfl ?_;refine vR Γ0 BP ?_;refine vR Γ0 BP ?_;refine wZ BP ?_;exact λE=>rfl
theorem ac5(c:Int)(w:World):Calls prog 134 #[.int .u8 c] w λe w' => e=.returned (.bool (Jr c))/\ah w [] w' := by
 refine af (nt:=9) [.tmp 2] func134 rfl rfl rfl ?_;refine vR Γ0 BP ?_;refine vR Γ0 BP ?_;refine wZ BP ?_;exact λE=>rfl
theorem aeW(c:Int)(w:World):Calls prog 187 #[.int .u8 c] w λe w' => e=.returned (.bool (uE c))/\ah w [] w' := by
 refine af (nt:=9) [.tmp 2] func187 rfl rfl rfl ?_;refine vR Γ0 BP ?_;refine vR Γ0 BP ?_;refine wZ BP ?_;exact λE=>rfl
def ya:aM prog 133 where
 pre:=λW bs=>λ| [.val (.int .u8 c)]=>True|_=>False
 res:=λW=>λ| [.val (.int .u8 c)]=>.bool (M4 c)|_=>undef
 enters:=call133
 ok:=by
  intro W w bs us as_ hk hu hp;split at hp
  ·rename_i c
   match us,hu with
   |[u0],hu=>
    obtain⟨rfl,_⟩:=hu;exact Ky c w
  ·exact hp.elim
theorem wy(W:World)(c:Int):ya.res W [.val (.int .u8 c)]=.bool (M4 c):=rfl
theorem xu(W:World)(bs:List Nat)(c:Int):ya.pre W bs [.val (.int .u8 c)]=(True):=rfl
def SQ:aM prog 134 where
 pre:=λW bs=>λ| [.val (.int .u8 c)]=>True|_=>False
 res:=λW=>λ| [.val (.int .u8 c)]=>.bool (Jr c)|_=>undef
 enters:=call134
 ok:=by
  intro W w bs us as_ hk hu hp;split at hp
  ·rename_i c
   match us,hu with
   |[u0],hu=>
    obtain⟨rfl,_⟩:=hu;exact ac5 c w
  ·exact hp.elim
theorem Ju(W:World)(c:Int):SQ.res W [.val (.int .u8 c)]=.bool (Jr c):=rfl
theorem G8(W:World)(bs:List Nat)(c:Int):SQ.pre W bs [.val (.int .u8 c)]=(True):=rfl
def R9:aM prog 187 where
 pre:=λW bs=>λ| [.val (.int .u8 c)]=>True|_=>False
 res:=λW=>λ| [.val (.int .u8 c)]=>.bool (uE c)|_=>undef
 enters:=call187
 ok:=by
  intro W w bs us as_ hk hu hp;split at hp
  ·rename_i c
   match us,hu with
   |[u0],hu=>
    obtain⟨rfl,_⟩:=hu;exact aeW c w
  ·exact hp.elim
theorem Bd(W:World)(c:Int):R9.res W [.val (.int .u8 c)]=.bool (uE c):=rfl
theorem zg(W:World)(bs:List Nat)(c:Int):R9.pre W bs [.val (.int .u8 c)]=(True):=rfl
noncomputable def sf:Env prog:=⟨λ| 134=>some SQ.spec|_=>none,λ| _=>none,λ_ _=>none⟩
theorem Wb:sf.sp 134=some SQ.spec:=rfl
def fq(c:Int):Int:=if Jr c=true then c-48 else if (decide (97<=c)&&decide (c<=102))=true then c-97+10 else -1
def xL:=(aj BP @wy @xu @Ju @G8 @Bd @zg Wb)
theorem abS(c:Int)(h0:0<=c)(h1:c<256)(w:World):Calls prog 188 #[.int .u8 c] w λe w' => e=.returned (.int .i64 (fq c))/\ah w [] w' := by
 refine af (nt:=18) [.tmp 2] func188 rfl rfl rfl ?_;refine vR sf xL ?_;refine Wp.seq ?_;refine vR sf xL ?_;refine wC xL (λhc=>?_) (λhc=>?_)
 ·have hv:48<=c/\c<=57:=by simpa [Jr] using hc
  have u1:IntKind.u8.wrap (c-48)=c-48:=eS oM oM;have u2:IntKind.i64.wrap (c-48)=c-48:=ae oM oM;have e:fq c=c-48:=by rw[fq,if_pos hc]
  rw[e];refine vR sf (bQ xL u1 u2) ?_;refine wZ xL ?_;exact λE=>rfl
 have hn:¬ Jr c=true:=by rw[hc];simp
 refine wK ?_;refine Wp.seq ?_;refine vR sf xL ?_;refine wC xL (λhc=>?_) (λhc=>?_)
 ·have hv:97<=c/\c<=102:=by simpa using hc
  have u1:IntKind.u8.wrap (c-97)=c-97:=eS oM oM;have u2:IntKind.i64.wrap (c-97)=c-97:=ae oM oM;have u3:IntKind.i64.wrap (c-97+10)=c-97+10:=ae oM oM;have e:fq c=c-97+10:=by rw[fq,if_neg hn,if_pos hc]
  rw[e];refine vR sf (eT xL u1 u2 u3) ?_;refine wZ xL ?_;exact λE=>rfl
 ·have e:fq c=-1:=by rw[fq,if_neg hn,if_neg (by rw[hc];simp)]
  rw[e];refine wK ?_;refine vR sf xL ?_;refine wZ xL ?_;exact λE=>rfl
def abF:aM prog 188 where
 pre:=λW bs=>λ| [.val (.int .u8 c)]=>0<=c/\c<256|_=>False
 res:=λW=>λ| [.val (.int .u8 c)]=>.int .i64 (fq c)|_=>undef
 enters:=call188
 ok:=by
  intro W w bs us as_ hk hu hp;split at hp
  ·rename_i c
   match us,hu with
   |[u0],hu=>
    obtain⟨rfl,_⟩:=hu;exact abS c hp.1 hp.2 w
  ·exact hp.elim
theorem He(W:World)(c:Int):abF.res W [.val (.int .u8 c)]=.int .i64 (fq c):=rfl
theorem GL(W:World)(bs:List Nat)(c:Int):abF.pre W bs [.val (.int .u8 c)]=(0<=c/\c<256):=rfl
def Wg:ByteArray:=⟨#[61,59,40,41,123,125,44,124,38,45,46,126,42,43,63]⟩
def BZ(c:Int):Bool:=(List.range 15).any λi=>decide (bt Wg i=c)
def tE:=(bQ xL @He @GL)
theorem Xo(c:Int)(w:World):Calls prog 137 #[.int .u8 c] w λe w' => e=.returned (.bool (BZ c))/\ah w [] w' := by
 have hm:(⟨#[61,59,40,41,123,125,44,124,38,45,46,126,42,43,63]⟩:ByteArray)=Wg:=rfl;have hz:Wg.size=15:=rfl;refine af (nt:=16) [.tmp 2] func137 rfl rfl rfl ?_;refine vR sf tE ?_;refine vR sf (aa tE hm) ?_;refine Wp.seq ?_;refine vR sf tE ?_;refine Wp.block ?_
 refine Wp.loop (λk:Nat=>⟨20,bm [(0,.is (.v (.int .u8 c))),(3,.is (.v (.string Wg))),(4,.is (.v (.int .i64 (k:Nat))))],aY []⟩) (λk=>k<=15/\∀ j<k,decide (bt Wg j=c)=false) (λk=>15-k) 0 ?_ ⟨Nat.zero_le _,λj hj=>by omega⟩ ?_
 ·exact wM (λk=>.key k) tE
 rintro k ⟨hk,hd⟩;refine Wp.seq ?_;refine vR sf (aa tE hz) ?_;refine wC tE (λhc=>?_) (λhc=>?_)
 ·have hlt:k<15:=by
   simp at hc;omega
  have wk:IntKind.i64.wrap ((k:Int)+1)=((k+1:Nat):Int):=wW;refine wK ?_;refine Wp.seq (Wp.block ?_);refine wR sf tE ?_ ?_
  ·rw[hz];omega
  refine wC tE (λhc=>?_) (λhc=>?_)
  ·have e:BZ c=true:=by
    rw[BZ,List.any_eq_true];exact⟨k,List.mem_range.2 hlt,hc⟩
   rw[e];refine vR sf tE ?_;refine wZ tE ?_;exact λE=>rfl
  ·refine wK ?_;refine vr sf (aa tE wk) ?_;refine⟨k+1,⟨oM,λj hj=>?_⟩,oM,?_⟩
   ·by_cases e:j=k
    ·rw[e];exact hc
    ·exact hd j oM
   ·exact wM (λk=>.key k) tE
 ·have hk' : k=15:=by
   simp at hc;omega
  have e:BZ c=false:=by
   rw[BZ,List.any_eq_false];intro j hj;have:=hd j (by have:=List.mem_range.1 hj;omega);rw[this];simp
  rw[e];refine wE ?_;refine vR sf tE ?_;refine wZ tE ?_;exact λE=>rfl
def PJ:aM prog 137 where
 pre:=λW bs=>λ| [.val (.int .u8 c)]=>True|_=>False
 res:=λW=>λ| [.val (.int .u8 c)]=>.bool (BZ c)|_=>undef
 enters:=call137
 ok:=by
  intro W w bs us as_ hk hu hp;split at hp
  ·rename_i c
   match us,hu with
   |[u0],hu=>
    obtain⟨rfl,_⟩:=hu;exact Xo c w
  ·exact hp.elim
theorem RW(W:World)(c:Int):PJ.res W [.val (.int .u8 c)]=.bool (BZ c):=rfl
theorem Rb(W:World)(bs:List Nat)(c:Int):PJ.pre W bs [.val (.int .u8 c)]=(True):=rfl
def xG(c:Int)(b:Bool):Bool:=if c=10 then false else if c=35 then true else b
def aiA(c:Int)(b:Bool):Bool:=(((!b&&!decide (c=32))&&!decide (c=9))&&!decide (c=10))&&!decide (c=13)
def EF(s:ByteArray):Nat->Bool->Nat->Nat
 |0,_,i=>i
 |n+1,b,i=>if aiA (bt s i) (xG (bt s i) b)=true then i else EF s n (xG (bt s i) b) (i+1)
def pb(s:ByteArray)(i:Nat):Nat:=EF s (s.size-i) false i
def j4:=(aj @List.replicate_succ.{0} @List.replicate_zero.{0} @an @ab gS ca cc (aj b9 cg cf cj cd ck fu (aj fE fj fz fw dc dh cZ (uv db c8 dd @aG @al @ay @ax))))
theorem ad3(s:ByteArray)(i:Nat)(hi:i<=s.size)(hs:s.size<=100000000)(w:World):Calls prog 132 #[.string s,.int .i64 (i:Nat)] w λe w' => e=.returned (.int .i64 (pb s i:Nat))/\ah w [] w' := by
 refine af (nt:=40) [.tmp 4] func132 rfl rfl rfl ?_;refine vR Γ0 j4 ?_;refine vR Γ0 j4 ?_;refine Wp.seq (Wp.block ?_)
 refine Wp.loop (λp:Bool×Nat=>⟨20,bm [(0,.is (.v (.string s))),(1,.is (.v (.int .i64 (p.2:Nat)))),(5,.is (.v (.bool p.1)))],aY []⟩) (λp=>p.2<=s.size/\EF s (s.size-p.2) p.1 p.2=pb s i) (λp=>s.size-p.2) (false,i) ?_ ⟨hi,rfl⟩ ?_
 ·exact wM (λk=>.key k) j4
 rintro⟨b,k⟩ ⟨hk,hg⟩;dsimp only at hk hg ⊢;refine Wp.seq ?_;refine vR Γ0 j4 ?_;refine wC j4 (λhc=>?_) (λhc=>?_)
 ·have hlt:k<s.size:=by
   simp at hc;omega
  have wk:IntKind.i64.wrap ((k:Int)+1)=((k+1:Nat):Int):=wW;obtain⟨m,hm⟩:∃ m,s.size-k=m+1:=⟨s.size-k-1,oM⟩;have hm' : s.size-(k+1)=m:=oM;rw[hm]at hg;refine wK ?_;refine Wp.block ?_;refine wR Γ0 j4 ?_ ?_
  ·omega
  refine aW ⟨40,bm [(0,.is (.v (.string s))),(1,.is (.v (.int .i64 (k:Nat)))),(5,.is (.v (.bool (if bt s k=35 then true else b)))),(6,.is (.v (.int .u8 (bt s k))))],aY []⟩ ?_ ?_
  ·skip;refine vR Γ0 j4 ?_;refine wC j4 (λhc=>?_) (λhc=>?_)
   ·have h:bt s k=35:=by simpa using hc
    refine vr Γ0 j4 ?_
    exact Le.mk (λk=>.key k) ⟨by simp[FV.keys,SV.keys,aw],by simp[aT.keys,aw,SV.keys,aA,aQ]⟩ (by simp only[jD,Op.operands,Value.cells,σ0,σB,Nat.reduceEqDiff,Nat.reduceAdd,Nat.reduceMul,Nat.reduceLT,Nat.reduceLeDiff,Nat.reduceBEq,av,Int.reduceToNat,Int.reduceLT,Int.reduceLE,Nat.reduceDiv,Nat.reduceMod,Nat.reduceSub,Int.reducePow,Nat.reducePow,σP,σB3,j4,if_pos h,F6,ES,eZ,bI]<;>trivial) (by simp only[jD,Op.operands,Value.cells,σ0,σB,Nat.reduceEqDiff,Nat.reduceAdd,Nat.reduceMul,Nat.reduceLT,Nat.reduceLeDiff,Nat.reduceBEq,av,Int.reduceToNat,Int.reduceLT,Int.reduceLE,Nat.reduceDiv,Nat.reduceMod,Nat.reduceSub,Int.reducePow,Nat.reducePow,σP,σB3,j4,if_pos h,tN,mz,fU,eB,fV,eZ]<;>trivial) (by simp[dQ]) sI
   ·have h:¬ bt s k=35:=by simpa using hc
    refine wK ?_
    exact Le.mk (λk=>.key k) ⟨by simp[FV.keys,SV.keys,aw],by simp[aT.keys,aw,SV.keys,aA,aQ]⟩ (by simp only[jD,Op.operands,Value.cells,σ0,σB,Nat.reduceEqDiff,Nat.reduceAdd,Nat.reduceMul,Nat.reduceLT,Nat.reduceLeDiff,Nat.reduceBEq,av,Int.reduceToNat,Int.reduceLT,Int.reduceLE,Nat.reduceDiv,Nat.reduceMod,Nat.reduceSub,Int.reducePow,Nat.reducePow,σP,σB3,j4,if_neg h,F6,ES,eZ,bI]<;>trivial) (by simp only[jD,Op.operands,Value.cells,σ0,σB,Nat.reduceEqDiff,Nat.reduceAdd,Nat.reduceMul,Nat.reduceLT,Nat.reduceLeDiff,Nat.reduceBEq,av,Int.reduceToNat,Int.reduceLT,Int.reduceLE,Nat.reduceDiv,Nat.reduceMod,Nat.reduceSub,Int.reducePow,Nat.reducePow,σP,σB3,j4,if_neg h,tN,mz,fU,eB,fV,eZ]<;>trivial) (by simp[dQ]) sI
  refine aW ⟨60,bm [(0,.is (.v (.string s))),(1,.is (.v (.int .i64 (k:Nat)))),(5,.is (.v (.bool (xG (bt s k) b)))),(6,.is (.v (.int .u8 (bt s k))))],aY []⟩ ?_ ?_
  ·skip;refine vR Γ0 j4 ?_;refine wC j4 (λhc=>?_) (λhc=>?_)
   ·have h:bt s k=10:=by simpa using hc
    have e:xG (bt s k) b=false:=by rw[xG,if_pos h]
    refine vr Γ0 j4 ?_;exact wM (λk=>.key k) (aa j4 e)
   ·have h:¬ bt s k=10:=by simpa using hc
    have e:xG (bt s k) b=if bt s k=35 then true else b:=by rw[xG,if_neg h]
    refine wK ?_;exact wM (λk=>.key k) (aa j4 e)
  refine Wp.seq ?_;refine vR Γ0 j4 ?_;refine wC j4 (λhc=>?_) (λhc=>?_)
  ·have e:pb s i=k:=by rw[<- hg,EF,if_pos (show aiA (bt s k) (xG (bt s k) b)=true from hc)]
   rw[e];refine vR Γ0 j4 ?_;refine wZ j4 ?_;exact λE=>rfl
  ·have e:EF s m (xG (bt s k) b) (k+1)=pb s i:=by rw[<- hg,EF,if_neg (by rw[show aiA (bt s k) (xG (bt s k) b)=false from hc];simp)]
   refine wK ?_;refine vr Γ0 (aa j4 wk) ?_;refine⟨(xG (bt s k) b,k+1),⟨by dsimp only;omega,by dsimp only;rw[hm'];exact e⟩,by dsimp only;omega,?_⟩;exact wM (λk=>.key k) j4
 ·have hk' : k=s.size:=by
   simp at hc;omega
  have e:pb s i=k:=by
   rw[<- hg,show s.size-k=0 by omega];rfl
  rw[e];refine wE ?_;refine vR Γ0 j4 ?_;refine wZ j4 ?_;exact λE=>rfl
theorem PE(s:ByteArray):∀ n b i,i<=EF s n b i/\EF s n b i<=i+n
 |0,_,i=>⟨Nat.le_refl _,Nat.le_refl _⟩
 | n+1,b,i=>by
  unfold EF;split
  ·omega
  ·have:=PE s n (xG (bt s i) b) (i+1);omega
theorem P3{s:ByteArray}{i:Nat}(hi:i<=s.size):i<=pb s i/\pb s i<=s.size:=by
 have:=PE s (s.size-i) false i;unfold pb;omega
theorem dD(s:ByteArray)(i j:Nat)(hj:j<=s.size):(s.extract i j).size=j-i:=by
 rw[ByteArray.size_extract];omega
theorem F9(s:ByteArray)(i j k:Nat)(hj:j<=s.size)(hk:k<j-i):bt (s.extract i j) (k:Nat)=bt s ((i+k:Nat):Int):=by
 unfold bt;simp only[Int.toNat_natCast,ByteArray.data_extract,Array.getElem?_extract];rw[if_pos (by have:s.size=s.data.size:=rfl;omega)]
theorem ny(s t:ByteArray)(i:Nat):bt (s++t) (i:Nat)=if i<s.size then bt s (i:Nat) else bt t ((i-s.size:Nat):Int):=by
 unfold bt;simp only[Int.toNat_natCast,ByteArray.data_append];have hs:s.data.size=s.size:=rfl;split
 ·rename_i h;rw[Array.getElem?_append_left oM]
 ·rename_i h;rw[Array.getElem?_append_right oM,hs]
theorem OL{l:List Int}(h:∀ c∈l,0<=c/\c<256){j:Nat}(hj:j<l.length):bt (bK l) (j:Nat)=l[j]:=by
 obtain⟨h0,h1⟩:=h _ (List.getElem_mem hj);unfold bt bK;rw[Int.toNat_natCast];simp only[List.getElem?_toArray,List.getElem?_map,List.getElem?_eq_getElem hj,Option.map_some,Option.getD_some,UInt8.toNat_ofNat'];rw[Nat.mod_eq_of_lt oM];omega
theorem Gh(s:ByteArray)(k:Nat)(hk:k<s.size):s.extract 0 k++bK [bt s (k:Nat)]=s.extract 0 (k+1):=by
 have hk' : k<s.data.toList.length:=by rw[Array.length_toList];exact hk
 apply ByteArray.ext;apply Array.ext';rw[ByteArray.data_append,Array.toList_append];have e1:∀ n,(s.extract 0 n).data.toList=s.data.toList.take n:=λn=>by
  rcases s with ⟨⟨l⟩⟩;simp
 have e3:(bK [bt s (k:Nat)]).data.toList=[s.data.toList[k]]:=by
  unfold bK bt;rw[Int.toNat_natCast,<- Array.getElem?_toList,List.getElem?_eq_getElem hk'];simp
 rw[e1,e1,e3,List.take_succ_eq_append_getElem hk']
theorem zL{s:ByteArray}:s.extract 0 s.size=s:=by
 rcases s with ⟨⟨l⟩⟩;apply ByteArray.ext;apply Array.ext';simp[ByteArray.size]
def Fg(c:Int):Option Int:=if 48<=c/\c<=57 then some (c-48) else if 97<=c/\c<=102 then some (c-87) else if 65<=c/\c<=70 then some (c-55) else none
def mD(p:ByteArray):Option Int:=
 if p.size=0 then none
 else match Fg (bt p (0:Nat)) with
  |none=>none
  |some a=>if p.size=1 then some a else match Fg (bt p (1:Nat)) with
   |none=>none
   |some b=>some (16*a+b)
def yl(s:ByteArray):Nat->Nat->ByteArray->Option ByteArray
 |0,_,o=>some o
 | n+1,i,o=>
  if i<s.size then
   if bt s (i:Nat)=92/\i+1<s.size then
    if bt s ((i+1:Nat):Int)=110 then yl s n (i+2) (o++bK [10])
    else if bt s ((i+1:Nat):Int)=114 then yl s n (i+2) (o++bK [13])
    else if bt s ((i+1:Nat):Int)=116 then yl s n (i+2) (o++bK [9])
    else if bt s ((i+1:Nat):Int)=120 then match mD (s.extract (i+2) (min (i+4) s.size)) with
     |some v=>yl s n (i+4) (o++bK [v])
     |none=>none
    else yl s n (i+2) (o++bK [bt s ((i+1:Nat):Int)])
   else yl s n (i+1) (o++bK [bt s (i:Nat)])
  else some o
def P0(q:ByteArray):Bool:=(decide (2<=q.size)&&decide (bt q 0=34))&&decide (bt q ((q.size:Int)-1)=34)
def oK(q:ByteArray):ByteArray:=q.extract 1 (q.size-1)
def gV(q:ByteArray):ByteArray×Bool:=
 if P0 q=true then match yl (oK q) (oK q).size 0 ⟨#[]⟩ with
  |none=>(⟨#[]⟩,false)
  |some o=>(o,decide (dS o=q))
 else (⟨#[]⟩,false)
theorem Jp(c:Int)(h0:0<=c)(h1:c<256):∀ x∈cW c,0<=x/\x<256:=by
 have hh:∀ b:Fin 16,0<=bt kx ((b.val:Nat):Int)/\bt kx ((b.val:Nat):Int)<256:=by decide +kernel
 have h2:∀ d:Int,0<=d->d<16->0<=bt kx d/\bt kx d<256:=λd a b=>by
  obtain⟨m,rfl⟩:=Int.eq_ofNat_of_zero_le a;exact hh ⟨m,oM⟩
 have h3:=h2 (c / 16) oM oM;have h4:=h2 (c % 16) oM oM;unfold cW;intro x hx
 repeat' split at hx
 all_goals simp only[List.mem_cons,List.not_mem_nil,or_false]at hx
 all_goals omega
theorem mP(y:ByteArray)(k:Nat):(bq y (k+1)).size=(bq y k).size+(cW (bt y (k:Nat))).length:=by
 show (bq y k++bK (cW (bt y k))).size=_;rw[ByteArray.size_append,aU]
theorem nv(y:ByteArray):∀ k,1<=(bq y k).size
 |0=>Nat.le_refl _
 |k+1=>by rw[mP];have:=nv y k;omega
theorem lx(y:ByteArray){k:Nat}:∀ m,(bq y k).size<=(bq y (k+m)).size
 |0=>Nat.le_refl _
 |m+1=>by
  have:=lx y (k:=k) m;rw[show k+(m+1)=k+m+1 by omega,mP];omega
theorem Ap(y:ByteArray){k i:Nat}(hi:i<(bq y k).size):∀ m,bt (bq y (k+m)) (i:Nat)=bt (bq y k) (i:Nat)
 |0=>rfl
 |m+1=>by
  have h:=lx y (k:=k) m;show bt (bq y (k+m)++bK (cW (bt y (k+m:Nat)))) (i:Nat)=_;rw[ny,if_pos oM];exact Ap y hi m
theorem AE(y:ByteArray):(dS y).size=(bq y y.size).size+1:=by
 unfold dS;rw[ByteArray.size_append,aU];rfl
theorem akg(y:ByteArray){k j:Nat}(hk:k<y.size)(hj:j<(cW (bt y (k:Nat))).length):bt (dS y) (((bq y k).size+j:Nat):Int)=(cW (bt y (k:Nat)))[j]:=by
 obtain⟨c0,c1⟩:=jq y k;have hl:=mP y k;have hm:=lx y (k:=k+1) (y.size-(k+1));have hp:=Ap y (k:=k+1) (i:=(bq y k).size+j) oM (y.size-(k+1));rw[show k+1+(y.size-(k+1))=y.size by omega]at hm hp;unfold dS;rw[ny,if_pos oM,hp];show bt (bq y k++bK (cW (bt y k))) (((bq y k).size+j:Nat):Int)=_
 rw[ny,if_neg oM,show (bq y k).size+j-(bq y k).size=j by omega];exact OL (Jp _ c0 c1) hj
theorem Zt(y:ByteArray){k j:Nat}(hk:k<y.size)(hj:j<(cW (bt y (k:Nat))).length):bt (oK (dS y)) (((bq y k).size-1+j:Nat):Int)=(cW (bt y (k:Nat)))[j]:=by
 have hl:=mP y k;have hm:=lx y (k:=k+1) (y.size-(k+1));rw[show k+1+(y.size-(k+1))=y.size by omega]at hm;have h1:=nv y k;have he:=AE y;unfold oK;rw[F9 _ _ _ _ oM oM,show 1+((bq y k).size-1+j)=(bq y k).size+j by omega];exact akg y hk hj
theorem QM(y:ByteArray):(oK (dS y)).size=(bq y y.size).size-1:=by
 have he:=AE y;have h1:=nv y y.size;unfold oK;rw[dD _ _ _ oM];omega
theorem PV(y:ByteArray):P0 (dS y)=true:=by
 have he:=AE y;have h1:=nv y y.size;have hp:=Ap y (k:=0) (i:=0) (by show 0<(bK [34]).size;decide) y.size;rw[Nat.zero_add]at hp;have h0:bt (dS y) ((0:Nat):Int)=34:=by
  unfold dS;rw[ny,if_pos oM,hp];rfl
 have hz:bt (dS y) (((bq y y.size).size:Nat):Int)=34:=by
  unfold dS;rw[ny,if_neg oM,Nat.sub_self];rfl
 unfold P0;simp only[Bool.and_eq_true,decide_eq_true_eq];refine⟨⟨oM,h0⟩,?_⟩;rw[he,show (((bq y y.size).size+1:Nat):Int)-1=(((bq y y.size).size:Nat):Int) by omega];exact hz
theorem Bx:∀ b:Fin 256,(cW ((b.val:Nat):Int)=[((b.val:Nat):Int)]/\((b.val:Nat):Int)≠92) \/
  (∃ d:Fin 256,cW ((b.val:Nat):Int)=[92,((d.val:Nat):Int)]/\((d.val=110/\b.val=10)\/(d.val=114/\b.val=13)\/(d.val=116/\b.val=9)\/(d.val=b.val/\d.val≠110/\d.val≠114/\d.val≠116/\d.val≠120))) \/
  (∃ d e:Fin 256,cW ((b.val:Nat):Int)=[92,120,((d.val:Nat):Int),((e.val:Nat):Int)]/\∃ x y:Fin 16,Fg ((d.val:Nat):Int)=some ((x.val:Nat):Int)/\Fg ((e.val:Nat):Int)=some ((y.val:Nat):Int)/\16*x.val+y.val=b.val):=by
 have hx:∀ x:Fin 16,Fg (bt kx ((x.val:Nat):Int))=some ((x.val:Nat):Int):=by decide +kernel
 have hb:∀ x:Fin 16,0<=bt kx ((x.val:Nat):Int)/\bt kx ((x.val:Nat):Int)<256:=by decide +kernel
 intro b;obtain⟨b,hlt⟩:=b;simp only;unfold cW;split
 ·rename_i h;right;left;exact⟨⟨b,hlt⟩,rfl,.inr (.inr (.inr ⟨rfl,by dsimp only;omega,by dsimp only;omega,by dsimp only;omega,by dsimp only;omega⟩))⟩
 ·rename_i h;split
  ·left;exact⟨rfl,λe=>h (.inr e)⟩
  ·split
   ·rename_i g;right;left;exact⟨⟨110,oM⟩,rfl,.inl ⟨rfl,oM⟩⟩
   ·split
    ·rename_i g;right;left;exact⟨⟨114,oM⟩,rfl,.inr (.inl ⟨rfl,oM⟩)⟩
    ·split
     ·rename_i g;right;left;exact⟨⟨116,oM⟩,rfl,.inr (.inr (.inl ⟨rfl,oM⟩))⟩
     ·right;right;have e1:((b:Nat):Int) / 16=((b / 16:Nat):Int):=oM;have e2:((b:Nat):Int) % 16=((b % 16:Nat):Int):=oM;obtain⟨p0,p1⟩:=hb ⟨b / 16,oM⟩;obtain⟨q0,q1⟩:=hb ⟨b % 16,oM⟩;have r1:=hx ⟨b / 16,oM⟩;have r2:=hx ⟨b % 16,oM⟩;simp only at p0 p1 q0 q1 r1 r2;rw[e1,e2]
      obtain⟨d,hd⟩:=Int.eq_ofNat_of_zero_le p0;obtain⟨e,he⟩:=Int.eq_ofNat_of_zero_le q0;rw[hd]at p1 r1 ⊢;rw[he]at q1 r2 ⊢;exact⟨⟨d,oM⟩,⟨e,oM⟩,rfl,⟨b / 16,oM⟩,⟨b % 16,oM⟩,r1,r2,by dsimp only;omega⟩
theorem aia(y:ByteArray):∀ (m k n:Nat),k+m=y.size->(oK (dS y)).size<=(bq y k).size-1+n->yl (oK (dS y)) n ((bq y k).size-1) (y.extract 0 k)=some y:=by
 have hin:=QM y;intro m
 induction m with
 |zero=>
  intro k n hk hn;have hk' : k=y.size:=oM;subst hk';rw[zL];cases n with
  |zero=>rfl
  |succ n=>rw[yl,if_neg oM]
 | succ m ih=>
  intro k n hk hn;have hlt:k<y.size:=oM;obtain⟨c0,c1⟩:=jq y k;obtain⟨b,hb⟩:=Int.eq_ofNat_of_zero_le c0;have hl:=mP y k;have h1:=nv y k;have hm:=lx y (k:=k+1) (y.size-(k+1));rw[show k+1+(y.size-(k+1))=y.size by omega]at hm;have hat:=λj (hj:j<(cW (bt y (k:Nat))).length)=>Zt y hlt hj
  have ho:=Gh y k hlt;have ih:=λn h=>ih (k+1) n oM h
  rw[hl]at hm ih;rw[<- ho]at ih;generalize hP:(bq y k).size-1=P at *;rw[show (bq y k).size=P+1 by omega]at hm ih;have hk4:=Bx ⟨b,oM⟩;simp only at hk4;rw[<- hb]at hk4;generalize bt y (k:Nat)=c at *;generalize y.extract 0 k=o at *;generalize hI:oK (dS y)=s at *
  rcases hk4 with ⟨e,hne⟩|⟨⟨d,hd⟩,e,hcs⟩|⟨⟨d,hd⟩,⟨f,hf⟩,e,⟨x,hx⟩,⟨z,hz⟩,g1,g2,g3⟩
  ·rw[e]at hat hm ih;have a0:=hat 0 sI;simp only[List.getElem_cons_zero,Nat.add_zero,List.length_cons,List.length_nil]at a0 hm ih;obtain⟨n,rfl⟩:∃ n',n=n' + 1:=⟨n-1,oM⟩;rw[yl,if_pos oM,if_neg (by rw[a0];exact λh=>hne h.1),a0];exact ih n oM
  ·simp only at e hcs;rw[e]at hat hm ih;have a0:=hat 0 sI;have a1:=hat 1 sI;simp only[List.getElem_cons_zero,List.getElem_cons_succ,Nat.add_zero,List.length_cons,List.length_nil]at a0 a1 hm ih;obtain⟨n,rfl⟩:∃ n',n=n' + 1:=⟨n-1,oM⟩;rw[yl,if_pos oM,if_pos ⟨a0,oM⟩,a1];have ih' := ih n oM
   rw[show P+1+(0+1+1)-1=P+2 by omega]at ih';rcases hcs with ⟨rfl,hh⟩|⟨rfl,hh⟩|⟨rfl,hh⟩|⟨hh,n1,n2,n3,n4⟩
   ·rw[if_pos oM];rw[hb,hh]at ih';exact ih'
   ·rw[if_neg oM,if_pos oM];rw[hb,hh]at ih';exact ih'
   ·rw[if_neg oM,if_neg oM,if_pos oM];rw[hb,hh]at ih';exact ih'
   ·rw[if_neg oM,if_neg oM,if_neg oM,if_neg oM];rw[hb,<- hh]at ih';exact ih'
  ·simp only at e g1 g2 g3;rw[e]at hat hm ih;have a0:=hat 0 sI;have a1:=hat 1 sI;have a2:=hat 2 sI;have a3:=hat 3 sI;simp only[List.getElem_cons_zero,List.getElem_cons_succ,Nat.add_zero,List.length_cons,List.length_nil]at a0 a1 a2 a3 hm ih;obtain⟨n,rfl⟩:∃ n',n=n' + 1:=⟨n-1,oM⟩;have ih' := ih n oM
   rw[show P+1+(0+1+1+1+1)-1=P+4 by omega]at ih';have hmin:min (P+4) s.size=P+4:=oM;have hs:(s.extract (P+2) (P+4)).size=2:=by rw[dD _ _ _ oM];omega
   have b0:=F9 s (P+2) (P+4) 0 oM oM;have b1:=F9 s (P+2) (P+4) 1 oM oM;rw[show P+2+0=P+2 by omega,a2]at b0;rw[show P+2+1=P+3 by omega,a3]at b1;have hN:mD (s.extract (P+2) (P+4))=some c:=by
    unfold mD;rw[hs,if_neg oM,b0,g1];simp only;rw[if_neg oM,b1,g2];simp only[Option.some.injEq];omega
   rw[yl,if_pos oM,if_pos ⟨a0,oM⟩,a1,if_neg oM,if_neg oM,if_neg oM,if_pos rfl,hmin,hN];exact ih'
theorem adK(y:ByteArray):gV (dS y)=(y,true):=by
 have h:=aia y y.size 0 (oK (dS y)).size oM oM;have e:(bq y 0).size-1=0:=rfl;have e0:y.extract 0 0=⟨#[]⟩:=by apply ByteArray.ext;apply Array.ext';simp
 rw[e,e0]at h;unfold gV;rw[if_pos (PV y),h];simp
theorem aaN{q:ByteArray}(h:(gV q).2=true):q=dS (gV q).1:=by
 unfold gV at h ⊢;split at h
 ·rename_i hq;rw[if_pos hq];cases ho:yl (oK q) (oK q).size 0 ⟨#[]⟩ with
  |none=>rw[ho]at h;simp at h
  |some o=>
   rw[ho]at h;simp only[decide_eq_true_eq]at h ⊢;exact h.symm
 ·simp at h
def dJ:ByteArray:=⟨#[]⟩
abbrev Tk:=Int×Nat×ByteArray
abbrev Pc:=ByteArray×Nat×Int×Nat
def MQ(s:ByteArray)(i:Nat):Nat->Nat->ByteArray->Pc
 |0,_,_=>(dJ,0,51,i)
 | n+1,k,o=>
  if k<s.size then
   if bt s (k:Nat)=34 then (o,k+1,0,0)
   else if uE (bt s (k:Nat))=false then (dJ,0,50,k)
   else if ¬ bt s (k:Nat)=92 then MQ s i n (k+1) (o++bK [bt s (k:Nat)])
   else if ¬ k+1<s.size then (dJ,0,51,i)
   else if bt s ((k+1:Nat):Int)=110 then MQ s i n (k+2) (o++bK [10])
   else if bt s ((k+1:Nat):Int)=114 then MQ s i n (k+2) (o++bK [13])
   else if bt s ((k+1:Nat):Int)=116 then MQ s i n (k+2) (o++bK [9])
   else if bt s ((k+1:Nat):Int)=34\/bt s ((k+1:Nat):Int)=92 then MQ s i n (k+2) (o++bK [bt s ((k+1:Nat):Int)])
   else if bt s ((k+1:Nat):Int)=120 then
    if ¬ k+2<s.size then (dJ,0,51,i)
    else if fq (bt s ((k+2:Nat):Int))<0 then (dJ,0,50,k+2)
    else if ¬ k+3<s.size then (dJ,0,51,i)
    else if fq (bt s ((k+3:Nat):Int))<0 then (dJ,0,50,k+3)
    else MQ s i n (k+4) (o++bK [16*fq (bt s ((k+2:Nat):Int))+fq (bt s ((k+3:Nat):Int))])
   else (dJ,0,50,k+1)
  else (dJ,0,51,i)
def H2(s:ByteArray)(i:Nat):Pc:=MQ s i (s.size-(i+1)) (i+1) dJ
def XE(s:ByteArray)(i:Nat):Nat->Nat->Pc
 |0,_=>(dJ,0,52,i)
 | n+1,k=>
  if k<s.size then
   if uE (bt s (k:Nat))=false then (dJ,0,50,k)
   else if bt s (k:Nat)=47 then (s.extract (i+1) k,k+1,0,0)
   else if bt s (k:Nat)=92 then
    if k+1<s.size/\uE (bt s ((k+1:Nat):Int))=false then (dJ,0,50,k+1)
    else XE s i n (k+2)
   else XE s i n (k+1)
  else (dJ,0,52,i)
def Mp(s:ByteArray)(i:Nat):Pc:=XE s i (s.size-(i+1)) (i+1)
def nmB(c:Int):Bool:=M4 c||Jr c
def nmN(s:ByteArray):Nat->Nat->Nat
 |0,k=>k
 |n+1,k=>if k<s.size then if nmB (bt s (k:Nat))=true then nmN s n (k+1) else k else k
def Hd(s:ByteArray)(i:Nat):Nat:=nmN s (s.size-(i+1)) (i+1)
def j6(s:ByteArray)(i:Nat):Tk×Nat×Int×Nat:=
 if M4 (bt s (i:Nat))=true then
  if 32<Hd s i-i then ((0,0,dJ),0,1,i) else ((1,i,s.extract i (Hd s i)),Hd s i,0,0)
 else if bt s (i:Nat)=34 then ((2,i,(H2 s i).1),(H2 s i).2.1,(H2 s i).2.2.1,(H2 s i).2.2.2)
 else if bt s (i:Nat)=47 then ((3,i,(Mp s i).1),(Mp s i).2.1,(Mp s i).2.2.1,(Mp s i).2.2.2)
 else if BZ (bt s (i:Nat))=true then ((4,i,s.extract i (i+1)),i+1,0,0)
 else if bt s (i:Nat)=62/\i+1<s.size/\bt s ((i+1:Nat):Int)=62 then ((4,i,⟨#[62,62]⟩),i+2,0,0)
 else ((0,0,dJ),0,50,i)
def scN(s:ByteArray):Nat->Nat->List Tk->List Tk×Int×Nat
 |0,i,l=>(l++[(0,s.size,dJ)],0,0)
 | n+1,i,l=>
  if i<s.size then
   if (j6 s i).2.2.1=0 then scN s n (pb s (j6 s i).2.1) (l++[(j6 s i).1]) else ([],(j6 s i).2.2.1,(j6 s i).2.2.2)
  else (l++[(0,s.size,dJ)],0,0)
def gn(s:ByteArray):List Tk×Int×Nat:=if 4096<s.size then ([],1,0) else scN s s.size (pb s 0) []
def onT(p:ByteArray):Option ByteArray:=match (gn p).1 with
 |[t0,_]=>if (gn p).2.1=0/\t0.1=2/\t0.2.2.size=1 then some t0.2.2 else none
 |_=>none
def sw(s:ByteArray)(i:Nat):Nat:=if bt s (i:Nat)=92 then if i+1<s.size/\bt s ((i+1:Nat):Int)=120 then 4 else 2 else 1
def pcQ(p:ByteArray):ByteArray:=⟨#[34]⟩++p++⟨#[34]⟩
def Hn(s:ByteArray):Nat->Nat->ByteArray->Option ByteArray
 |0,_,o=>some o
 | n+1,i,o=>
  if i<s.size then
   if s.size<i+sw s i then none
   else match onT (pcQ (s.extract i (i+sw s i))) with
    |some t=>Hn s n (i+sw s i) (o++t)
    |none=>none
  else some o
def jI(q:ByteArray):ByteArray×Bool:=
 if P0 q=true then match Hn (oK q) (oK q).size 0 ⟨#[]⟩ with
  |none=>(⟨#[]⟩,false)
  |some o=>(o,decide (dS o=q))
 else (⟨#[]⟩,false)
theorem aje:∀ b:Fin 256,onT (pcQ (bK (cW ((b.val:Nat):Int))))=some (bK [((b.val:Nat):Int)]):=by decide +kernel
theorem aiF{s t:ByteArray}(hs:s.size=t.size)(h:∀ i:Nat,i<s.size->bt s (i:Nat)=bt t (i:Nat)):s=t:=by
 apply ByteArray.ext;apply Array.ext hs;intro i h1 h2;have:=h i h1;simp only[bt,Int.toNat_natCast,Array.getElem?_eq_getElem h1,Array.getElem?_eq_getElem h2,Option.getD_some]at this;exact UInt8.toNat_inj.1 oM
theorem ai1(y:ByteArray):∀ (m k n:Nat),k+m=y.size->(oK (dS y)).size<=(bq y k).size-1+n->Hn (oK (dS y)) n ((bq y k).size-1) (y.extract 0 k)=some y:=by
 have hin:=QM y;intro m
 induction m with
 |zero=>
  intro k n hk hn;have hk' : k=y.size:=oM;subst hk';rw[zL];cases n with
  |zero=>rfl
  |succ n=>rw[Hn,if_neg oM]
 | succ m ih=>
  intro k n hk hn;have hlt:k<y.size:=oM;obtain⟨c0,c1⟩:=jq y k;obtain⟨b,hb⟩:=Int.eq_ofNat_of_zero_le c0;have hl:=mP y k;have h1:=nv y k;have hm:=lx y (k:=k+1) (y.size-(k+1));rw[show k+1+(y.size-(k+1))=y.size by omega]at hm;have hat:=λj (hj:j<(cW (bt y (k:Nat))).length)=>Zt y hlt hj
  have ho:=Gh y k hlt;have hlow:=Jp _ c0 c1;have ih:=λn h=>ih (k+1) n oM h
  rw[hl]at hm ih;rw[<- ho]at ih;generalize hP:(bq y k).size-1=P at *;rw[show (bq y k).size=P+1 by omega]at hm ih;have hk4:=Bx ⟨b,oM⟩;have hq:=aje ⟨b,oM⟩;simp only at hk4 hq;rw[<- hb]at hk4 hq;generalize bt y (k:Nat)=c at *;generalize y.extract 0 k=o at *;generalize hI:oK (dS y)=s at *
  have hlen:1<=(cW c).length/\sw s P=(cW c).length:=by
   rcases hk4 with ⟨e,hne⟩|⟨⟨d,hd⟩,e,hcs⟩|⟨⟨d,hd⟩,⟨f,hf⟩,e,_⟩
   ·rw[e]at hat hm ⊢;have a0:=hat 0 sI;simp only[List.getElem_cons_zero,Nat.add_zero]at a0;exact⟨sI,by rw[sw,if_neg (by rw[a0];exact hne)];rfl⟩
   ·simp only at e hcs;rw[e]at hat hm ⊢;have a0:=hat 0 sI;have a1:=hat 1 sI;simp only[List.getElem_cons_zero,List.getElem_cons_succ,Nat.add_zero]at a0 a1;refine⟨sI,?_⟩;rw[sw,if_pos a0,if_neg (by rw[a1];omega)];rfl
   ·simp only at e;rw[e]at hat hm ⊢;have a0:=hat 0 sI;have a1:=hat 1 sI;simp only[List.getElem_cons_zero,List.getElem_cons_succ,Nat.add_zero,List.length_cons,List.length_nil]at a0 a1 hm;refine⟨sI,?_⟩;rw[sw,if_pos a0,if_pos ⟨oM,a1⟩];rfl
  obtain⟨hl1,hl2⟩:=hlen;have hpc:s.extract P (P+(cW c).length)=bK (cW c):=by
   have hz:(s.extract P (P+(cW c).length)).size=(cW c).length:=by rw[dD _ _ _ oM];omega
   refine aiF (by rw[hz,aU]) λi hi=>?_
   rw[hz]at hi;rw[F9 _ _ _ _ oM oM,hat i hi,OL hlow hi]
  obtain⟨n,rfl⟩:∃ n',n=n' + 1:=⟨n-1,oM⟩;rw[Hn,if_pos oM,hl2,if_neg oM,hpc,hq];have ih' := ih n oM;rw[show P+1+(cW c).length-1=P+(cW c).length by omega]at ih';exact ih'
theorem abX(y:ByteArray):jI (dS y)=(y,true):=by
 have h:=ai1 y y.size 0 (oK (dS y)).size oM oM;have e:(bq y 0).size-1=0:=rfl;have e0:y.extract 0 0=⟨#[]⟩:=by apply ByteArray.ext;apply Array.ext';simp
 rw[e,e0]at h;unfold jI;rw[if_pos (PV y),h];simp
theorem XU{q:ByteArray}(h:(jI q).2=true):q=dS (jI q).1:=by
 unfold jI at h ⊢;split at h
 ·rename_i hq;rw[if_pos hq];cases ho:Hn (oK q) (oK q).size 0 ⟨#[]⟩ with
  |none=>rw[ho]at h;simp at h
  |some o=>
   rw[ho]at h;simp only[decide_eq_true_eq]at h ⊢;exact h.symm
 ·simp at h
theorem Vf(q:ByteArray):(jI q).2=(gV q).2/\((gV q).2=true->(jI q).1=(gV q).1):=by
 cases h:(gV q).2 with
 |true=>
  have e:=aaN h;have h2:=abX (gV q).1;rw[<- e]at h2;exact⟨by rw[h2],λ_=>by rw[h2]⟩
 | false=>
  refine⟨?_,λh=>by cases h⟩;cases h' : (jI q).2 with
  |false=>rfl
  |true=>
   have e:=XU h';have h2:=adK (jI q).1;rw[<- e]at h2;rw[h2]at h;cases h
end
section
open Go.RowKit Go.LE Go.Proofs.Tryz
theorem ajG:ts prog 45=some 1:=kR
theorem akl:ta prog 45=some false:=kR
theorem ai7:ts prog 47=some 1:=kR
theorem ajL:ta prog 47=some false:=kR
theorem FB:ts prog 51=some 1:=kR
theorem Fh:ta prog 51=some false:=kR
theorem Ef:tz prog 51=some [Value.nilFunc]:=kR
theorem vC:ts prog 103=some 1:=kR
theorem u5:ta prog 103=some false:=kR
theorem D8:ts prog 106=some 1:=kR
theorem EJ:ta prog 106=some false:=kR
theorem ah0:ts prog 108=some 1:=kR
theorem ai3:ta prog 108=some false:=kR
theorem pw:ts prog 110=some 1:=kR
theorem pU:ta prog 110=some false:=kR
theorem pY:tz prog 110=some [Value.pointer none]:=kR
theorem po:jm prog 110=some true:=kR
theorem pD:Program.underlying prog 110=some (.pointer 112):=kR
theorem oX:ts prog 112=some 7:=kR
theorem pQ:ta prog 112=some true:=kR
theorem pf:tz prog 112=some [Value.slice none 0 0,Value.slice none 0 0,Value.slice none 0 0,Value.int IntKind.i64 0,Value.int IntKind.i64 0,Value.string { data:=#[] },Value.int IntKind.i64 0]:=kR
theorem qf:sr prog 112=some [(0,5),(5,1),(6,1)]:=kR
theorem pW:tf prog 112 0=some (0,5,true):=kR
theorem pc:tf prog 112 1=some (5,1,false):=kR
theorem ql:tf prog 112 2=some (6,1,false):=kR
theorem Z0:ts prog 164=some 1:=kR
theorem Xd:ta prog 164=some false:=kR
theorem aaK:tz prog 164=some [Value.slice none 0 0]:=kR
theorem X2:Program.underlying prog 164=some (.slice 168):=kR
theorem ajm:ts prog 165=some 1:=kR
theorem aju:ta prog 165=some false:=kR
theorem Z5:ts prog 168=some 3:=kR
theorem Z8:ta prog 168=some true:=kR
theorem Zs:rR prog 168=some 32:=kR
theorem Y2:tz prog 168=some [Value.int IntKind.i64 0,Value.int IntKind.i64 0,Value.string { data:=#[] }]:=kR
theorem Yb:sr prog 168=some [(0,1),(1,1),(2,1)]:=kR
theorem aaE:tf prog 168 0=some (0,1,false):=kR
theorem aaC:tf prog 168 1=some (1,1,false):=kR
theorem VJ:tf prog 168 2=some (2,1,false):=kR
theorem ajX:ts prog 173=some 1:=kR
theorem aj3:ta prog 173=some false:=kR
theorem aiV:tz prog 173=some [Value.pointer none]:=kR
theorem ajs:jm prog 173=some true:=kR
theorem ajv:Program.underlying prog 173=some (.pointer 3):=kR
theorem aiO:ts prog 174=some 2:=kR
theorem ajT:ta prog 174=some true:=kR
theorem aih:rR prog 174=some 16:=kR
theorem ajn:tz prog 174=some [Value.int IntKind.i64 0,Value.pointer none]:=kR
theorem ajH:sr prog 174=some [(0,1),(1,1)]:=kR
theorem aio:tf prog 174 0=some (0,1,false):=kR
theorem ajC:tf prog 174 1=some (1,1,false):=kR
theorem aiS:ts prog 175=some 1:=kR
theorem air:ta prog 175=some false:=kR
theorem aiB:tz prog 175=some [Value.slice none 0 0]:=kR
theorem ai5:Program.underlying prog 175=some (.slice 174):=kR
theorem ajt:ts prog 261=some 1:=kR
theorem aj9:ta prog 261=some false:=kR
theorem WO:ts prog 264=some 1:=kR
theorem Zy:ta prog 264=some false:=kR
end
section
open Go.RowKit Go.LE Go.Proofs.Tryz
set_option maxRecDepth 10000
noncomputable def dV:Env prog:=⟨λ| 187=>some R9.spec|188=>some abF.spec|_=>none,λ| _=>none,λ_ _=>none⟩
theorem Ze:dV.sp 187=some R9.spec:=rfl
theorem ZN:dV.sp 188=some abF.spec:=rfl
def pcV(q:Pc):Value:=.tuple #[.string q.1,.int .i64 (q.2.1:Nat),.int .i64 q.2.2.1,.int .i64 (q.2.2.2:Nat)]
theorem Qs{c:Int}(h0:0<=c)(h1:c<256):-1<=fq c/\fq c<16:=by
 unfold fq Jr;split
 ·rename_i h;simp only[Bool.and_eq_true,decide_eq_true_eq]at h;omega
 ·split
  ·rename_i h;simp only[Bool.and_eq_true,decide_eq_true_eq]at h;omega
  ·omega
def bD:=(aj @List.replicate_succ.{0} @List.replicate_zero.{0} @an @ab BH BJ BG (aj gS ca cc b9 cg cf cj (aj cd ck fu fE fj fz fw (aj dc dh cZ db c8 dd xj (aj wP wB v8 @aG @al @ay @ax (aj @gu @js @ln Ze ZN @Bd @zg (aa @He @GL)))))))
theorem ajr(s:ByteArray)(i:Nat)(hi:i<s.size)(hs:s.size<=4096)(w:World):Calls prog 135 #[.string s,.int .i64 (i:Nat)] w λe w' => e=.returned (pcV (H2 s i))/\ah w [] w' := by
 have wi:IntKind.i64.wrap ((i:Int)+1)=((i+1:Nat):Int):=wW;refine af (nt:=120) [.tmp 4,.tmp 5,.tmp 6,.tmp 7] func135 rfl rfl rfl ?_;refine vR dV bD ?_;refine vR dV bD ?_;refine vR dV (aa bD wi) ?_;refine Wp.seq (Wp.block ?_)
 refine Wp.loop (λp:Nat×Nat×ByteArray=>⟨20,bm [(0,.is (.v (.string s))),(1,.is (.v (.int .i64 (i:Nat)))),(8,.is (.hd 19)),(9,.is (.v (.int .i64 (p.2.1:Nat))))],aY [(19,.row 5 1 p.2.2.size ((byteCells p.2.2).map .v))]⟩) (λp=>(i+1<=p.2.1/\p.2.1<=s.size)/\p.2.2.size<=p.2.1/\s.size<=p.2.1+p.1/\MQ s i p.1 p.2.1 p.2.2=H2 s i) (λp=>p.1) (s.size-(i+1),i+1,dJ) ?_ ⟨⟨Nat.le_refl _,hi⟩,Nat.zero_le _,by dsimp only;omega,rfl⟩ ?_
 ·exact wM (λk=>if k=19 then .nil else .key k) (eT bD @dJ.eq_1 (show (⟨#[]⟩:ByteArray).size=0 from rfl) (show byteCells ⟨#[]⟩=[] from rfl))
 rintro⟨n,k,o⟩ ⟨⟨g0,g1⟩,g2,g3,g4⟩;dsimp only at g0 g1 g2 g3 g4 ⊢;refine Wp.seq ?_;refine vR dV bD ?_;refine wC bD (λhc=>?_) (λhc=>?_)
 ·have hlt:k<s.size:=by
   simp at hc;omega
  obtain⟨n,rfl⟩:∃ n',n=n' + 1:=⟨n-1,oM⟩;obtain⟨c0,c1⟩:=jq s k;have hq:=g4;rw[MQ,if_pos hlt]at hq;have wk:IntKind.i64.wrap ((k:Int)+1)=((k+1:Nat):Int):=wW;have wk2:IntKind.i64.wrap ((k:Int)+2)=((k+2:Nat):Int):=wW;have wk3:IntKind.i64.wrap ((k:Int)+3)=((k+3:Nat):Int):=wW
  have wk4:IntKind.i64.wrap (((k+2:Nat):Int)+2)=((k+4:Nat):Int):=wW;refine wK ?_;refine Wp.block ?_;refine wR dV bD ?_ ?_
  ·omega
  refine Wp.seq ?_;refine vR dV bD ?_;refine wC bD (λhc=>?_) (λhc=>?_)
  ·have h:bt s (k:Nat)=34:=by simpa using hc
   rw[if_pos h]at hq;rw[<- hq];refine wR dV (aa bD wk) ?_ ?_
   ·exact iA _
   refine wZ bD ?_;exact λE=>rfl
  have h34:¬ bt s (k:Nat)=34:=by simpa using hc
  rw[if_neg h34]at hq;clear hc;refine wK ?_;refine Wp.seq ?_;refine vR dV bD ?_;refine wC bD (λhc=>?_) (λhc=>?_)
  ·have h:uE (bt s (k:Nat))=false:=by simpa using hc
   rw[if_pos h]at hq;rw[<- hq];refine vR dV bD ?_;refine wZ bD ?_;exact λE=>rfl
  have hp:¬ uE (bt s (k:Nat))=false:=by simpa using hc
  rw[if_neg hp]at hq;clear hc;refine wK ?_;refine Wp.seq ?_;refine vR dV bD ?_;refine wC bD (λhc=>?_) (λhc=>?_)
  ·have h:¬ bt s (k:Nat)=92:=by simpa using hc
   rw[if_pos h]at hq;have ha:=dY o [bt s (k:Nat)] (λc hc=>by rw[List.mem_singleton.1 hc];exact⟨c0,c1⟩);have hz:(o++bK [bt s (k:Nat)]).size=o.size+1:=by rw[ByteArray.size_append,aU];rfl
   simp only[List.map_cons,List.map_nil]at ha;refine wR dV (aa bD ha) ?_ ?_
   ·exact⟨by unfold maxLen;omega,oM⟩
   refine vR dV (aa bD wk) ?_;refine wE ?_;refine⟨(n,k+1,o++bK [bt s (k:Nat)]),⟨⟨by dsimp only;omega,by dsimp only;omega⟩,by dsimp only;omega,by dsimp only;omega,hq⟩,by dsimp only;omega,?_⟩;exact wM (λk=>if k=19 then .key 304 else .key k) (aa bD hz)
  have h92:¬ ¬ bt s (k:Nat)=92:=by simpa using hc
  rw[if_neg h92]at hq;clear hc;refine wK ?_;refine Wp.seq ?_;refine vR dV (aa bD wk) ?_;refine wC bD (λhc=>?_) (λhc=>?_)
  ·have h:¬ k+1<s.size:=by
    simp at hc;omega
   rw[if_pos h]at hq;rw[<- hq];refine vR dV bD ?_;refine wZ bD ?_;exact λE=>rfl
  have hk1:k+1<s.size:=by
   simp at hc;omega
  rw[if_neg oM]at hq;clear hc;obtain⟨d0,d1⟩:=jq s ((k+1:Nat):Int);refine wK ?_;refine Wp.seq ?_;refine wR dV (aa bD wk) ?_ ?_
  ·omega
  refine Wp.block ?_;refine vR dV bD ?_;refine wC bD (λhc=>?_) (λhc=>?_)
  ·have h:bt s ((k+1:Nat):Int)=110:=by simpa using hc
   rw[if_pos h]at hq;have ha:=dY o [10] (λc hc=>by rw[List.mem_singleton.1 hc];omega);have hz:(o++bK [10]).size=o.size+1:=by rw[ByteArray.size_append,aU];rfl
   simp only[List.map_cons,List.map_nil]at ha;refine wr dV (aa bD ha) ?_ ?_
   ·exact⟨by unfold maxLen;omega,oM⟩
   refine vr dV (aa bD wk2) ?_;refine⟨(n,k+2,o++bK [10]),⟨⟨by dsimp only;omega,by dsimp only;omega⟩,by dsimp only;omega,by dsimp only;omega,hq⟩,by dsimp only;omega,?_⟩;exact wM (λk=>if k=19 then .key 384 else .key k) (aa bD hz)
  have h110:¬ bt s ((k+1:Nat):Int)=110:=by simpa using hc
  rw[if_neg h110]at hq;clear hc;refine vR dV bD ?_;refine wC bD (λhc=>?_) (λhc=>?_)
  ·have h:bt s ((k+1:Nat):Int)=114:=by simpa using hc
   rw[if_pos h]at hq;have ha:=dY o [13] (λc hc=>by rw[List.mem_singleton.1 hc];omega);have hz:(o++bK [13]).size=o.size+1:=by rw[ByteArray.size_append,aU];rfl
   simp only[List.map_cons,List.map_nil]at ha;refine wr dV (aa bD ha) ?_ ?_
   ·exact⟨by unfold maxLen;omega,oM⟩
   refine vr dV (aa bD wk2) ?_;refine⟨(n,k+2,o++bK [13]),⟨⟨by dsimp only;omega,by dsimp only;omega⟩,by dsimp only;omega,by dsimp only;omega,hq⟩,by dsimp only;omega,?_⟩;exact wM (λk=>if k=19 then .key 400 else .key k) (aa bD hz)
  have h114:¬ bt s ((k+1:Nat):Int)=114:=by simpa using hc
  rw[if_neg h114]at hq;clear hc;refine vR dV bD ?_;refine wC bD (λhc=>?_) (λhc=>?_)
  ·have h:bt s ((k+1:Nat):Int)=116:=by simpa using hc
   rw[if_pos h]at hq;have ha:=dY o [9] (λc hc=>by rw[List.mem_singleton.1 hc];omega);have hz:(o++bK [9]).size=o.size+1:=by rw[ByteArray.size_append,aU];rfl
   simp only[List.map_cons,List.map_nil]at ha;refine wr dV (aa bD ha) ?_ ?_
   ·exact⟨by unfold maxLen;omega,oM⟩
   refine vr dV (aa bD wk2) ?_;refine⟨(n,k+2,o++bK [9]),⟨⟨by dsimp only;omega,by dsimp only;omega⟩,by dsimp only;omega,by dsimp only;omega,hq⟩,by dsimp only;omega,?_⟩;exact wM (λk=>if k=19 then .key 416 else .key k) (aa bD hz)
  have h116:¬ bt s ((k+1:Nat):Int)=116:=by simpa using hc
  rw[if_neg h116]at hq;clear hc;by_cases hqb:bt s ((k+1:Nat):Int)=34\/bt s ((k+1:Nat):Int)=92
  ·rw[if_pos hqb]at hq;have ha:=dY o [bt s ((k+1:Nat):Int)] (λc hc=>by rw[List.mem_singleton.1 hc];exact⟨d0,d1⟩);have hz:(o++bK [bt s ((k+1:Nat):Int)]).size=o.size+1:=by rw[ByteArray.size_append,aU];rfl
   simp only[List.map_cons,List.map_nil]at ha
   refine aW ⟨80,bm [(0,.is (.v (.string s))),(1,.is (.v (.int .i64 (i:Nat)))),(8,.is (.hd 19)),(9,.is (.v (.int .i64 (k:Nat)))),(48,.is (.v (.int .u8 (bt s ((k+1:Nat):Int))))),(66,.is (.v (.bool true)))],aY [(19,.row 5 1 o.size ((byteCells o).map .v))]⟩ ?_ ?_
   ·skip;refine vR dV bD ?_;refine wC bD (λhc=>?_) (λhc=>?_)
    ·refine wK ?_;exact wM (λk=>.key k) (aa bD hc)
    ·have h2:decide (bt s ((k+1:Nat):Int)=92)=true:=decide_eq_true (hqb.resolve_left (of_decide_eq_false hc));refine vr dV (aa bD h2) ?_;exact wM (λk=>.key k) bD
   refine wC bD (λhc=>?_) (λhc=>?_)
   ·skip;refine wr dV (bQ bD ha wk) ?_ ?_
    ·exact⟨oM,by unfold maxLen;omega,oM⟩
    refine vr dV (aa bD wk2) ?_;refine⟨(n,k+2,o++bK [bt s ((k+1:Nat):Int)]),⟨⟨by dsimp only;omega,by dsimp only;omega⟩,by dsimp only;omega,by dsimp only;omega,hq⟩,by dsimp only;omega,?_⟩;exact wM (λk=>if k=19 then .key 688 else .key k) (aa bD hz)
   ·exact absurd hc sI
  rw[if_neg hqb]at hq;have hq34:decide (bt s ((k+1:Nat):Int)=34)=false:=decide_eq_false λh=>hqb (.inl h)
  have hq92:decide (bt s ((k+1:Nat):Int)=92)=false:=decide_eq_false λh=>hqb (.inr h)
  refine Wp.seq ?_;refine vR dV (aa bD hq34) ?_;refine wC bD (λhc=>?_) (λhc=>?_)
  ·exact absurd hc sI
  clear hc;refine vr dV (aa bD hq92) ?_;refine wC bD (λhc=>?_) (λhc=>?_)
  ·exact absurd hc sI
  clear hc;refine vR dV bD ?_;refine wC bD (λhc=>?_) (λhc=>?_)
  ·have h120:bt s ((k+1:Nat):Int)=120:=by simpa using hc
   rw[if_pos h120]at hq;clear hc;refine Wp.seq ?_;refine vR dV bD ?_;refine Wp.block ?_
   refine Wp.loop (λd:Nat=>⟨100,bm [(0,.is (.v (.string s))),(1,.is (.v (.int .i64 (i:Nat)))),(8,.is (.hd 19)),(9,.is (.v (.int .i64 (k:Nat)))),(11,.is (.v (.int .i64 (d:Nat))))],aY [(19,.row 5 1 o.size ((byteCells o).map .v))]⟩) (λd=>2<=d/\d<=4/\(3<=d->k+2<s.size/\¬ fq (bt s ((k+2:Nat):Int))<0)/\(4<=d->k+3<s.size/\¬ fq (bt s ((k+3:Nat):Int))<0)) (λd=>4-d) 2 ?_ ⟨oM,oM,λh=>by omega,λh=>by omega⟩ ?_
   ·exact wM (λk=>.key k) (aa bD (show ((2:Nat):Int)=2 from rfl))
   rintro d ⟨e1,e2,e3,e4⟩;refine Wp.seq ?_;refine vR dV bD ?_;refine wC bD (λhc=>?_) (λhc=>?_)
   ·have hd4:d<4:=by
     simp at hc;omega
    have wd:IntKind.i64.wrap ((d:Int)+1)=((d+1:Nat):Int):=wW;have wkd:IntKind.i64.wrap ((k:Int)+(d:Int))=((k+d:Nat):Int):=wW;obtain⟨b0,b1⟩:=jq s ((k+d:Nat):Int);have hdd:d=2\/d=3:=oM;refine wK ?_;refine Wp.seq (Wp.block ?_);refine Wp.seq ?_;refine vR dV (aa bD wkd) ?_
    refine wC bD (λhc=>?_) (λhc=>?_)
    ·have h:¬ k+d<s.size:=by
      simp at hc;omega
     have hv:H2 s i=(dJ,0,51,i):=by
      rw[<- hq];rcases hdd with rfl|rfl
      ·rw[if_pos h]
      ·obtain⟨f1,f2⟩:=e3 oM;rw[if_neg oM,if_neg f2,if_pos h]
     rw[hv];refine vR dV bD ?_;refine wZ bD ?_;exact λE=>rfl
    have hkd:k+d<s.size:=by
     simp at hc;omega
    clear hc;refine wK ?_;refine wR dV (aa bD wkd) ?_ ?_
    ·exact⟨oM,b0,b1⟩
    refine wC bD (λhc=>?_) (λhc=>?_)
    ·have h:fq (bt s ((k+d:Nat):Int))<0:=by simpa using hc
     have hv:H2 s i=(dJ,0,50,k+d):=by
      rw[<- hq];rcases hdd with rfl|rfl
      ·rw[if_neg oM,if_pos h]
      ·obtain⟨f1,f2⟩:=e3 oM;rw[if_neg oM,if_neg f2,if_neg oM,if_pos h]
     rw[hv];refine vR dV (aa bD wkd) ?_;refine wZ bD ?_;exact λE=>rfl
    have hvd:¬ fq (bt s ((k+d:Nat):Int))<0:=by simpa using hc
    clear hc;refine wK ?_;refine vr dV (aa bD wd) ?_;refine⟨d+1,⟨oM,oM,λh=>?_,λh=>?_⟩,oM,?_⟩
    ·rcases hdd with rfl|rfl
     ·exact⟨hkd,hvd⟩
     ·exact e3 oM
    ·rcases hdd with rfl|rfl
     ·omega
     ·exact⟨hkd,hvd⟩
    ·exact wM (λk=>.key k) bD
   ·have hd4:d=4:=by
     simp at hc;omega
    obtain⟨f1,f2⟩:=e3 oM;obtain⟨f3,f4⟩:=e4 oM;rw[if_neg oM,if_neg f2,if_neg oM,if_neg f4]at hq;obtain⟨x0,x1⟩:=jq s ((k+2:Nat):Int);obtain⟨y0,y1⟩:=jq s ((k+3:Nat):Int);have hx:=Qs x0 x1;have hy:=Qs y0 y1;have u1:IntKind.i64.wrap (16*fq (bt s ((k+2:Nat):Int)))=16*fq (bt s ((k+2:Nat):Int)):=ae oM oM
    have u2:IntKind.i64.wrap (16*fq (bt s ((k+2:Nat):Int))+fq (bt s ((k+3:Nat):Int)))=16*fq (bt s ((k+2:Nat):Int))+fq (bt s ((k+3:Nat):Int)):=ae oM oM;have u3:IntKind.u8.wrap (16*fq (bt s ((k+2:Nat):Int))+fq (bt s ((k+3:Nat):Int)))=16*fq (bt s ((k+2:Nat):Int))+fq (bt s ((k+3:Nat):Int)):=eS oM oM
    have ha:=dY o [16*fq (bt s ((k+2:Nat):Int))+fq (bt s ((k+3:Nat):Int))] (λc hc=>by rw[List.mem_singleton.1 hc];omega);have hz:(o++bK [16*fq (bt s ((k+2:Nat):Int))+fq (bt s ((k+3:Nat):Int))]).size=o.size+1:=by rw[ByteArray.size_append,aU];rfl
    simp only[List.map_cons,List.map_nil]at ha;refine wE ?_;refine kO dV (uv bD wk2 wk3 u1 u2 u3 ha) ?_ ?_
    ·exact⟨⟨oM,oM⟩,⟨x0,x1⟩,⟨oM,oM⟩,⟨y0,y1⟩,by unfold maxLen;omega,oM⟩
    refine vr dV (aa bD wk2) ?_;refine vr dV (aa bD wk4) ?_;refine⟨(n,k+4,o++bK [16*fq (bt s ((k+2:Nat):Int))+fq (bt s ((k+3:Nat):Int))]),⟨⟨by dsimp only;omega,by dsimp only;omega⟩,by dsimp only;omega,by dsimp only;omega,hq⟩,by dsimp only;omega,?_⟩
    exact wM (λk=>if k=19 then .key 936 else .key k) (aa bD hz)
  ·have h120:¬ bt s ((k+1:Nat):Int)=120:=by simpa using hc
   rw[if_neg h120]at hq;rw[<- hq];refine vR dV (aa bD wk) ?_;refine wZ bD ?_;exact λE=>rfl
 ·have hge:s.size<=k:=by
   simp at hc;omega
  have hv:H2 s i=(dJ,0,51,i):=by
   rw[<- g4];cases n with
   |zero=>rfl
   |succ n=>rw[MQ,if_neg oM]
  rw[hv];refine wE ?_;refine vR dV bD ?_;refine wZ bD ?_;exact λE=>rfl
def qtC:aM prog 135 where
 pre:=λW bs as_=>∃ (s:ByteArray) (i:Nat),as_=[.val (.string s),.val (.int .i64 (i:Nat))]/\i<s.size/\s.size<=4096
 res:=λ_ as_=>match as_ with
  |[.val (.string s),.val (.int _ i)]=>pcV (H2 s i.toNat)
  |_=>undef
 enters:=call135
 ok:=by
  intro W w bs us as_ hk hu hp;obtain⟨s,i,rfl,h1,h2⟩:=hp
  match us,hu with
  |[x,y],hu=>
   obtain⟨rfl,rfl,_⟩:=hu;exact ajr s i h1 h2 w
theorem acS(W:World)(bs:List Nat)(s:ByteArray)(i:Nat):qtC.pre W bs [.val (.string s),.val (.int .i64 (i:Nat))]=(i<s.size/\s.size<=4096):=
 propext ⟨λ⟨s',i',h,h2⟩=>by
  simp only[List.cons.injEq,AV.val.injEq,Value.string.injEq,Value.int.injEq,true_and,and_true]at h
  obtain⟨rfl,h⟩:=h
  obtain rfl:i=i' := oM
  exact h2,λh=>⟨s,i,rfl,h⟩⟩
theorem af4(W:World)(s:ByteArray)(i:Nat):qtC.res W [.val (.string s),.val (.int .i64 (i:Nat))]=pcV (H2 s i):=by
 show pcV (H2 s ((i:Int)).toNat)=_;rw[Int.toNat_natCast]
noncomputable def pd:Env prog:=⟨λ| 187=>some R9.spec|_=>none,λ| _=>none,λ_ _=>none⟩
theorem Xe:pd.sp 187=some R9.spec:=rfl
def iw:=(aj @List.replicate_succ.{0} @List.replicate_zero.{0} @an @ab jo jl BH (aj BJ BG gS ca cc b9 cg (aj cf cj cd ck fu fE fj (aj fz fw dc dh cZ db c8 (aj dd Z0 Xd aaK X2 Z5 Z8 (aj Zs Y2 Yb aaE aaC VJ ajt (aj aj9 @aG @al @ay @ax Xe @Bd @zg)))))))
theorem ake(s:ByteArray)(i:Nat)(hi:i<s.size)(hs:s.size<=4096)(w:World):Calls prog 136 #[.string s,.int .i64 (i:Nat)] w λe w' => e=.returned (pcV (Mp s i))/\ah w [] w' := by
 have wi:IntKind.i64.wrap ((i:Int)+1)=((i+1:Nat):Int):=wW;refine af (nt:=53) [.tmp 4,.tmp 5,.tmp 6,.tmp 7] func136 rfl rfl rfl ?_;refine vR pd iw ?_;refine vR pd (aa iw wi) ?_;refine Wp.seq (Wp.block ?_)
 refine Wp.loop (λp:Nat×Nat=>⟨20,bm [(0,.is (.v (.string s))),(1,.is (.v (.int .i64 (i:Nat)))),(8,.is (.v (.int .i64 (p.2:Nat))))],aY []⟩) (λp=>(i+1<=p.2/\p.2<=s.size+1)/\s.size<=p.2+p.1/\XE s i p.1 p.2=Mp s i) (λp=>p.1) (s.size-(i+1),i+1) ?_ ⟨⟨Nat.le_refl _,by dsimp only;omega⟩,by dsimp only;omega,rfl⟩ ?_
 ·exact wM (λk=>.key k) iw
 rintro⟨n,k⟩ ⟨⟨g0,g1⟩,g3,g4⟩;dsimp only at g0 g1 g3 g4 ⊢;refine Wp.seq ?_;refine vR pd iw ?_;refine wC iw (λhc=>?_) (λhc=>?_)
 ·have hlt:k<s.size:=by
   simp at hc;omega
  obtain⟨n,rfl⟩:∃ n',n=n' + 1:=⟨n-1,oM⟩;have hq:=g4;rw[XE,if_pos hlt]at hq;have wk:IntKind.i64.wrap ((k:Int)+1)=((k+1:Nat):Int):=wW;have wk2:IntKind.i64.wrap (((k+1:Nat):Int)+1)=((k+2:Nat):Int):=wW;refine wK ?_;refine Wp.block ?_;refine Wp.seq ?_;refine wR pd iw ?_ ?_
  ·omega
  refine wC iw (λhc=>?_) (λhc=>?_)
  ·have h:uE (bt s (k:Nat))=false:=by simpa using hc
   rw[if_pos h]at hq;rw[<- hq];refine vR pd iw ?_;refine wZ iw ?_;exact λE=>rfl
  have h1:¬ uE (bt s (k:Nat))=false:=by simpa using hc
  rw[if_neg h1]at hq;clear hc;refine wK ?_;refine Wp.seq ?_;refine wR pd iw ?_ ?_
  ·omega
  refine wC iw (λhc=>?_) (λhc=>?_)
  ·have h:bt s (k:Nat)=47:=by simpa using hc
   rw[if_pos h]at hq;rw[<- hq];refine wR pd (bQ iw wi wk) ?_ ?_
   ·exact⟨oM,oM,oM⟩
   refine wZ iw ?_;exact λE=>rfl
  have h2:¬ bt s (k:Nat)=47:=by simpa using hc
  rw[if_neg h2]at hq;clear hc;refine wK ?_;refine Wp.seq ?_;refine wR pd iw ?_ ?_
  ·omega
  refine wC iw (λhc=>?_) (λhc=>?_)
  ·have h:bt s (k:Nat)=92:=by simpa using hc
   rw[if_pos h]at hq;clear hc;refine vR pd (aa iw wk) ?_;by_cases hk1:k+1<s.size
   ·have e1:decide (((k+1:Nat):Int)<((s.size:Nat):Int))=true:=by simp;omega
    refine wR pd (aa iw e1) ?_ ?_
    ·omega
    refine wC iw (λhc=>?_) (λhc=>?_)
    ·have hp:uE (bt s ((k+1:Nat):Int))=false:=by simpa using hc
     rw[if_pos ⟨hk1,hp⟩]at hq;rw[<- hq];refine vR pd iw ?_;refine wZ iw ?_;exact λE=>rfl
    have hp:¬ uE (bt s ((k+1:Nat):Int))=false:=by simpa using hc
    rw[if_neg λg=>hp g.2]at hq;refine wK ?_;refine vr pd (aa iw wk2) ?_;refine⟨(n,k+2),⟨⟨by dsimp only;omega,by dsimp only;omega⟩,by dsimp only;omega,hq⟩,by dsimp only;omega,?_⟩;exact wM (λk=>.key k) iw
   ·have e1:decide (((k+1:Nat):Int)<((s.size:Nat):Int))=false:=by simp;omega
    rw[if_neg λg=>hk1 g.1]at hq;refine wR pd (aa iw e1) ?_ ?_
    ·exact λh=>by cases h
    refine wC iw (λhc=>?_) (λhc=>?_)
    ·exact absurd hc sI
    refine wK ?_;refine vr pd (aa iw wk2) ?_;refine⟨(n,k+2),⟨⟨by dsimp only;omega,by dsimp only;omega⟩,by dsimp only;omega,hq⟩,by dsimp only;omega,?_⟩;exact wM (λk=>.key k) iw
  ·have h:¬ bt s (k:Nat)=92:=by simpa using hc
   rw[if_neg h]at hq;refine wK ?_;refine vr pd (aa iw wk) ?_;refine⟨(n,k+1),⟨⟨by dsimp only;omega,by dsimp only;omega⟩,by dsimp only;omega,hq⟩,by dsimp only;omega,?_⟩;exact wM (λk=>.key k) iw
 ·have hge:s.size<=k:=by
   simp at hc;omega
  have hv:Mp s i=(dJ,0,52,i):=by
   rw[<- g4];cases n with
   |zero=>rfl
   |succ n=>rw[XE,if_neg oM]
  rw[hv];refine wE ?_;refine vR pd iw ?_;refine wZ iw ?_;exact λE=>rfl
def rxC:aM prog 136 where
 pre:=λW bs as_=>∃ (s:ByteArray) (i:Nat),as_=[.val (.string s),.val (.int .i64 (i:Nat))]/\i<s.size/\s.size<=4096
 res:=λ_ as_=>match as_ with
  |[.val (.string s),.val (.int _ i)]=>pcV (Mp s i.toNat)
  |_=>undef
 enters:=call136
 ok:=by
  intro W w bs us as_ hk hu hp;obtain⟨s,i,rfl,h1,h2⟩:=hp
  match us,hu with
  |[x,y],hu=>
   obtain⟨rfl,rfl,_⟩:=hu;exact ake s i h1 h2 w
theorem abL(W:World)(bs:List Nat)(s:ByteArray)(i:Nat):rxC.pre W bs [.val (.string s),.val (.int .i64 (i:Nat))]=(i<s.size/\s.size<=4096):=
 propext ⟨λ⟨s',i',h,h2⟩=>by
  simp only[List.cons.injEq,AV.val.injEq,Value.string.injEq,Value.int.injEq,true_and,and_true]at h
  obtain⟨rfl,h⟩:=h
  obtain rfl:i=i' := oM
  exact h2,λh=>⟨s,i,rfl,h⟩⟩
theorem ae7(W:World)(s:ByteArray)(i:Nat):rxC.res W [.val (.string s),.val (.int .i64 (i:Nat))]=pcV (Mp s i):=by
 show pcV (Mp s ((i:Int)).toNat)=_;rw[Int.toNat_natCast]
def SK:aM prog 132 where
 pre:=λW bs as_=>∃ (s:ByteArray) (i:Nat),as_=[.val (.string s),.val (.int .i64 (i:Nat))]/\i<=s.size/\s.size<=4096
 res:=λ_ as_=>match as_ with
  |[.val (.string s),.val (.int _ i)]=>.int .i64 (pb s i.toNat:Nat)
  |_=>undef
 enters:=call132
 ok:=by
  intro W w bs us as_ hk hu hp;obtain⟨s,i,rfl,h1,h2⟩:=hp
  match us,hu with
  |[x,y],hu=>
   obtain⟨rfl,rfl,_⟩:=hu;exact ad3 s i h1 oM w
theorem HZ(W:World)(bs:List Nat)(s:ByteArray)(i:Nat):SK.pre W bs [.val (.string s),.val (.int .i64 (i:Nat))]=(i<=s.size/\s.size<=4096):=
 propext ⟨λ⟨s',i',h,h2⟩=>by
  simp only[List.cons.injEq,AV.val.injEq,Value.string.injEq,Value.int.injEq,true_and,and_true]at h
  obtain⟨rfl,h⟩:=h
  obtain rfl:i=i' := oM
  exact h2,λh=>⟨s,i,rfl,h⟩⟩
theorem G4(W:World)(s:ByteArray)(i:Nat):SK.res W [.val (.string s),.val (.int .i64 (i:Nat))]=.int .i64 (pb s i:Nat):=by
 show Value.int .i64 (pb s ((i:Int)).toNat:Nat)=_;rw[Int.toNat_natCast]
theorem TP(W:World)(bs:List Nat)(s:ByteArray):SK.pre W bs [.val (.string s),.val (.int .i64 0)]=(s.size<=4096):=by
 have h:=HZ W bs s 0;rw[show ((0:Nat):Int)=0 from rfl]at h;rw[h];exact propext ⟨λh=>h.2,λh=>⟨Nat.zero_le _,h⟩⟩
theorem R8(W:World)(s:ByteArray):SK.res W [.val (.string s),.val (.int .i64 0)]=.int .i64 (pb s 0:Nat):=G4 W s 0
theorem Ig(s:ByteArray)(i:Nat):∀ n k o,(MQ s i n k o).2.2.1=0->k<(MQ s i n k o).2.1/\(MQ s i n k o).2.1<=s.size
 |0,k,o,h=>by simp[MQ]at h
 | n+1,k,o,h=>by
  have ih:=Ig s i n;rw[MQ]at h ⊢;by_cases hk:k<s.size
  ·rw[if_pos hk]at h ⊢;by_cases h1:bt s (k:Nat)=34
   ·rw[if_pos h1];exact⟨Nat.lt_succ_self _,hk⟩
   rw[if_neg h1]at h ⊢;by_cases h2:uE (bt s (k:Nat))=false
   ·rw[if_pos h2]at h;simp at h
   rw[if_neg h2]at h ⊢;by_cases h3:¬ bt s (k:Nat)=92
   ·rw[if_pos h3]at h ⊢;have:=ih _ _ h;omega
   rw[if_neg h3]at h ⊢;by_cases h4:¬ k+1<s.size
   ·rw[if_pos h4]at h;simp at h
   rw[if_neg h4]at h ⊢;by_cases q0:bt s ((k+1:Nat):Int)=110
   ·rw[if_pos q0]at h ⊢;have:=ih _ _ h;omega
   rw[if_neg q0]at h ⊢;by_cases q1:bt s ((k+1:Nat):Int)=114
   ·rw[if_pos q1]at h ⊢;have:=ih _ _ h;omega
   rw[if_neg q1]at h ⊢;by_cases q2:bt s ((k+1:Nat):Int)=116
   ·rw[if_pos q2]at h ⊢;have:=ih _ _ h;omega
   rw[if_neg q2]at h ⊢;by_cases q3:bt s ((k+1:Nat):Int)=34\/bt s ((k+1:Nat):Int)=92
   ·rw[if_pos q3]at h ⊢;have:=ih _ _ h;omega
   rw[if_neg q3]at h ⊢;by_cases h5:bt s ((k+1:Nat):Int)=120
   ·rw[if_pos h5]at h ⊢;by_cases h6:¬ k+2<s.size
    ·rw[if_pos h6]at h;simp at h
    rw[if_neg h6]at h ⊢;by_cases h7:fq (bt s ((k+2:Nat):Int))<0
    ·rw[if_pos h7]at h;simp at h
    rw[if_neg h7]at h ⊢;by_cases h8:¬ k+3<s.size
    ·rw[if_pos h8]at h;simp at h
    rw[if_neg h8]at h ⊢;by_cases h9:fq (bt s ((k+3:Nat):Int))<0
    ·rw[if_pos h9]at h;simp at h
    rw[if_neg h9]at h ⊢;have:=ih _ _ h;omega
   ·rw[if_neg h5]at h;simp at h
  ·rw[if_neg hk]at h;simp at h
theorem GM(s:ByteArray)(i:Nat):∀ n k,(XE s i n k).2.2.1=0->k<(XE s i n k).2.1/\(XE s i n k).2.1<=s.size
 |0,k,h=>by simp[XE]at h
 | n+1,k,h=>by
  have ih:=GM s i n;rw[XE]at h ⊢
  repeat' (split at h<;>rename_i hh<;>(first|rw[if_pos hh]|rw[if_neg hh]))
  all_goals first
   |(exfalso;simp at h;done)
   |(have:=ih _ h;omega)
   |exact⟨Nat.lt_succ_self _,by dsimp only;omega⟩
theorem ZV(s:ByteArray):∀ n k,k<=nmN s n k/\nmN s n k<=k+n
 |0,k=>⟨Nat.le_refl _,Nat.le_refl _⟩
 |n+1,k=>by
  have:=ZV s n (k+1);rw[nmN];split
  ·split<;>omega
  ·omega
theorem Wv{s:ByteArray}{i:Nat}(hi:i<s.size):i<Hd s i/\Hd s i<=s.size:=by
 have:=ZV s (s.size-(i+1)) (i+1);unfold Hd;omega
theorem UO{s:ByteArray}{i:Nat}(hi:i<s.size)(h:(j6 s i).2.2.1=0):i<(j6 s i).2.1/\(j6 s i).2.1<=s.size:=by
 have hn:=Wv hi;unfold j6 at h ⊢
 repeat' (split at h<;>rename_i hh<;>(first|rw[if_pos hh]|rw[if_neg hh]))
 all_goals first
  |(exfalso;simp at h;done)
  |(have:=Ig s i _ _ _ h;simp only[H2];omega)
  |(have:=GM s i _ _ h;simp only[Mp];omega)
  |(simp only;omega)
def Kk(l:List Tk):List Value:=l.flatMap λt=>[.int .i64 t.1,.int .i64 (t.2.1:Nat),.string t.2.2]
theorem PU(l:List Tk)(x:Int)(y:Nat)(z:ByteArray):List.map SV.v (Kk l)++[.v (.int .i64 x),.v (.int .i64 (y:Nat)),.v (.string z)]=List.map SV.v (Kk (l++[(x,y,z)])):=by
 unfold Kk;rw[List.flatMap_append,List.map_append];rfl
noncomputable def eH:Env prog:=⟨λ| 132=>some SK.spec|133=>some ya.spec|134=>some SQ.spec|135=>some qtC.spec|136=>some rxC.spec|137=>some PJ.spec|_=>none,λ| _=>none,λ_ _=>none⟩
theorem WU:eH.sp 132=some SK.spec:=rfl
theorem WI:eH.sp 133=some ya.spec:=rfl
theorem Xx:eH.sp 134=some SQ.spec:=rfl
theorem WS:eH.sp 135=some qtC.spec:=rfl
theorem XG:eH.sp 136=some rxC.spec:=rfl
theorem W8:eH.sp 137=some PJ.spec:=rfl
def cv:=(aj iw WU WI Xx WS XG W8 (aj @G4 @HZ @R8 @TP @wy @xu @Ju (uv @G8 @af4 @acS @ae7 @abL @RW @Rb)))
theorem X3(s:ByteArray)(w:World)(hz:s.size<=9223372036854775807):Calls prog 78 #[.string s] w λe w' =>
  ∃ u fp,e=.returned (.tuple #[u,.int .i64 (gn s).2.1,.int .i64 ((gn s).2.2:Nat)])/\(∀ E',a6 E' u fp w' (.row 168 3 (gn s).1.length ((Kk (gn s).1).map .v)))/\(∀ b∈fp,w.heap.size<=b/\b<w'.heap.size)/\LE.ah w [] w' := by
 refine mm (nt:=130) (λv=>.tuple #[v,.int .i64 (gn s).2.1,.int .i64 ((gn s).2.2:Nat)]) [.tmp 2,.tmp 3,.tmp 4] func78 rfl rfl rfl ?_;refine vR eH cv ?_;refine Wp.seq ?_;refine vR eH cv ?_;refine wC cv (λhc=>?_) (λhc=>?_)
 ·have h:4096<s.size:=by
   simp at hc;omega
  have e:gn s=([],1,0):=by unfold gn;rw[if_pos h]
  rw[e];refine vR eH cv ?_;refine wZ cv ?_;exact⟨.v bI,⟨dE,.inr ⟨rfl,rfl,rfl⟩⟩,λE=>rfl⟩
 have h4:s.size<=4096:=by
  simp at hc;omega
 have e0:gn s=scN s s.size (pb s 0) []:=by unfold gn;rw[if_neg oM]
 clear hc;refine wK ?_;refine vR eH cv ?_;refine wR eH cv ?_ ?_
 ·exact h4
 have hg0:=P3 (Nat.zero_le s.size);refine Wp.seq (Wp.block ?_)
 refine Wp.loop (λp:Nat×Nat×List Tk=>⟨20,bm [(0,.is (.v (.string s))),(5,.is (.hd 19)),(6,.is (.v (.int .i64 (p.2.1:Nat))))],aY [(19,.row 168 3 p.2.2.length ((Kk p.2.2).map .v))]⟩) (λp=>p.2.1<=s.size/\p.2.2.length<=p.2.1/\s.size<=p.2.1+p.1/\scN s p.1 p.2.1 p.2.2=gn s) (λp=>p.1) (s.size,pb s 0,[]) ?_ ⟨hg0.2,Nat.zero_le _,by dsimp only;omega,e0.symm⟩ ?_
 ·exact wM (λk=>if k=19 then .nil else .key k) (bQ cv @Kk.eq_1 @List.flatMap_nil.{0,0})
 rintro⟨n,i,l⟩ ⟨g1,g2,g3,g4⟩;dsimp only at g1 g2 g3 g4 ⊢;refine Wp.seq ?_;refine vR eH cv ?_;refine wC cv (λhc=>?_) (λhc=>?_)
 ·have hlt:i<s.size:=by
   simp at hc;omega
  clear hc;obtain⟨n,rfl⟩:∃ n',n=n' + 1:=⟨n-1,oM⟩;rw[scN,if_pos hlt]at g4;have hnext:=UO hlt;have wi:IntKind.i64.wrap ((i:Int)+1)=((i+1:Nat):Int):=wW;have wi2:IntKind.i64.wrap ((i:Int)+2)=((i+2:Nat):Int):=wW;refine wK ?_;refine Wp.block ?_;refine wR eH cv ?_ ?_
  ·omega
  refine vR eH cv ?_;refine vR eH (aa cv wi) ?_
  refine aW ⟨80,bm [(0,.is (.v (.string s))),(5,.is (.hd 19)),(6,.is (.v (.int .i64 (i:Nat)))),(8,.is (.own 24 0)),(9,.is (.v (.int .i64 ((j6 s i).2.1:Nat)))),(10,.is (.v (.int .i64 (j6 s i).2.2.1))),(11,.is (.v (.int .i64 ((j6 s i).2.2.2:Nat))))],aY [(19,.row 168 3 l.length ((Kk l).map .v)),(24,.cells 168 [.v (.int .i64 (j6 s i).1.1),.v (.int .i64 ((j6 s i).1.2.1:Nat)),.v (.string (j6 s i).1.2.2)])]⟩ ?_ ?_
  ·skip;refine vR eH cv ?_;refine wC cv (λhc=>?_) (λhc=>?_)
   ·have hL:M4 (bt s (i:Nat))=true:=hc;clear hc;have hT:j6 s i=if 32<Hd s i-i then ((0,0,dJ),0,1,i) else ((1,i,s.extract i (Hd s i)),Hd s i,0,0):=by unfold j6;rw[if_pos hL]
    have hnm:=Wv hlt;have wni:IntKind.i64.wrap (((Hd s i:Nat):Int)-((i:Nat):Int))=((Hd s i-i:Nat):Int):=wW;refine Wp.seq (Wp.block ?_)
    refine Wp.loop (λp:Nat×Nat=>⟨60,bm [(0,.is (.v (.string s))),(5,.is (.hd 19)),(6,.is (.v (.int .i64 (i:Nat)))),(8,.is (.own 24 0)),(9,.is (.v (.int .i64 (p.2:Nat)))),(10,.is (.v (.int .i64 0))),(11,.is (.v (.int .i64 0)))],aY [(19,.row 168 3 l.length ((Kk l).map .v)),(24,.cells 168 [.v (.int .i64 0),.v (.int .i64 (i:Nat)),.v (.string ⟨#[]⟩)])]⟩) (λp=>(i+1<=p.2/\p.2<=s.size)/\s.size<=p.2+p.1/\nmN s p.1 p.2=Hd s i) (λp=>p.1) (s.size-(i+1),i+1) ?_ ⟨⟨Nat.le_refl _,hlt⟩,by dsimp only;omega,rfl⟩ ?_
    ·exact wM (λk=>if k=24 then .key 240 else .key k) cv
    rintro⟨m,k⟩ ⟨⟨e1,e2⟩,e3,e4⟩;dsimp only at e1 e2 e3 e4 ⊢;have wk:IntKind.i64.wrap ((k:Int)+1)=((k+1:Nat):Int):=wW;refine Wp.seq ?_;by_cases hk:k<s.size
    ·have hd:decide (((k:Nat):Int)<((s.size:Nat):Int))=true:=by simp;omega
     obtain⟨m,rfl⟩:∃ m',m=m' + 1:=⟨m-1,oM⟩;rw[nmN,if_pos hk]at e4;refine wR eH (aa cv hd) ?_ ?_
     ·exact⟨oM,λ_=>by omega⟩
     refine wC cv (λhc=>?_) (λhc=>?_)
     ·have hn:nmB (bt s (k:Nat))=true:=by
       unfold nmB;simpa using hc
      rw[if_pos hn]at e4;refine wK ?_;refine Wp.block ?_;refine vr eH (aa cv wk) ?_;refine⟨(m,k+1),⟨⟨by dsimp only;omega,by dsimp only;omega⟩,by dsimp only;omega,e4⟩,by dsimp only;omega,?_⟩;exact wM (λk=>.key k) cv
     ·have hn:¬ nmB (bt s (k:Nat))=true:=by
       unfold nmB;simpa using hc
      rw[if_neg hn]at e4;subst e4;refine wE ?_;refine Wp.seq ?_;refine vR eH (aa cv wni) ?_;refine wC cv (λhc=>?_) (λhc=>?_)
      ·have h32:32<Hd s i-i:=by
        simp at hc;omega
       rw[if_pos h32]at hT;rw[hT]at g4;simp only at g4;rw[if_neg oM]at g4;rw[<- g4];refine vR eH cv ?_;refine wZ cv ?_;exact⟨.v bI,⟨dE,.inr ⟨rfl,rfl,rfl⟩⟩,λE=>rfl⟩
      ·have h32:¬ 32<Hd s i-i:=by
        simp at hc;omega
       rw[if_neg h32]at hT;rw[hT];refine wK ?_;refine xv eH cv ?_ ?_
       ·exact⟨oM,oM,oM⟩
       exact wM (λk=>.key k) (aa cv (show ((0:Nat):Int)=0 from rfl))
    ·have hd:decide (((k:Nat):Int)<((s.size:Nat):Int))=false:=by simp;omega
     have e4:k=Hd s i:=by
      rw[<- e4];cases m with
      |zero=>rfl
      |succ m=>rw[nmN,if_neg hk]
     subst e4;refine wR eH (aa cv hd) ?_ ?_
     ·exact⟨(λh=>by cases h),λh=>by cases h⟩
     refine wC cv (λhc=>?_) (λhc=>?_)
     ·exact absurd hc sI
     refine wE ?_;refine Wp.seq ?_;refine vR eH (aa cv wni) ?_;refine wC cv (λhc=>?_) (λhc=>?_)
     ·have h32:32<Hd s i-i:=by
       simp at hc;omega
      rw[if_pos h32]at hT;rw[hT]at g4;simp only at g4;rw[if_neg oM]at g4;rw[<- g4];refine vR eH cv ?_;refine wZ cv ?_;exact⟨.v bI,⟨dE,.inr ⟨rfl,rfl,rfl⟩⟩,λE=>rfl⟩
     ·have h32:¬ 32<Hd s i-i:=by
       simp at hc;omega
      rw[if_neg h32]at hT;rw[hT];refine wK ?_;refine xv eH cv ?_ ?_
      ·exact⟨oM,oM,oM⟩
      exact wM (λk=>.key k) (aa cv (show ((0:Nat):Int)=0 from rfl))
   have hL:¬ M4 (bt s (i:Nat))=true:=by rw[hc];simp
   clear hc;refine vR eH cv ?_;refine wC cv (λhc=>?_) (λhc=>?_)
   ·have h34:bt s (i:Nat)=34:=by simpa using hc
    have hT:j6 s i=((2,i,(H2 s i).1),(H2 s i).2.1,(H2 s i).2.2.1,(H2 s i).2.2.2):=by unfold j6;rw[if_neg hL,if_pos h34]
    rw[hT];refine vR eH cv ?_;refine wr eH (aa cv @pcV.eq_1) ?_ ?_
    ·exact⟨hlt,h4⟩
    exact wM (λk=>if k=24 then .key 240 else .key k) cv
   have h34:¬ bt s (i:Nat)=34:=by simpa using hc
   clear hc;refine vR eH cv ?_;refine wC cv (λhc=>?_) (λhc=>?_)
   ·have h47:bt s (i:Nat)=47:=by simpa using hc
    have hT:j6 s i=((3,i,(Mp s i).1),(Mp s i).2.1,(Mp s i).2.2.1,(Mp s i).2.2.2):=by unfold j6;rw[if_neg hL,if_neg h34,if_pos h47]
    rw[hT];refine vR eH cv ?_;refine wr eH (aa cv @pcV.eq_1) ?_ ?_
    ·exact⟨hlt,h4⟩
    exact wM (λk=>if k=24 then .key 240 else .key k) cv
   have h47:¬ bt s (i:Nat)=47:=by simpa using hc
   clear hc;refine vR eH cv ?_;refine wC cv (λhc=>?_) (λhc=>?_)
   ·have hmk:BZ (bt s (i:Nat))=true:=hc;have hT:j6 s i=((4,i,s.extract i (i+1)),i+1,0,0):=by unfold j6;rw[if_neg hL,if_neg h34,if_neg h47,if_pos hmk]
    rw[hT];refine xv eH (aa cv wi) ?_ ?_
    ·exact⟨oM,oM,oM⟩
    exact wM (λk=>if k=24 then .key 240 else .key k) (aa cv (show ((0:Nat):Int)=0 from rfl))
   have hmk:¬ BZ (bt s (i:Nat))=true:=by rw[hc];simp
   clear hc;have hT:j6 s i=if bt s (i:Nat)=62/\i+1<s.size/\bt s ((i+1:Nat):Int)=62 then ((4,i,⟨#[62,62]⟩),i+2,0,0) else ((0,0,dJ),0,50,i):=by unfold j6;rw[if_neg hL,if_neg h34,if_neg h47,if_neg hmk]
   refine wR eH (aa cv wi) ?_ ?_
   ·intro h;simp only[Bool.and_eq_true,decide_eq_true_eq]at h;omega
   refine wC cv (λhc=>?_) (λhc=>?_)
   ·have h:bt s (i:Nat)=62/\i+1<s.size/\bt s ((i+1:Nat):Int)=62:=by
     simp only[Bool.and_eq_true,decide_eq_true_eq]at hc;omega
    rw[if_pos h]at hT;rw[hT];refine vR eH (aa cv wi2) ?_;refine vr eH cv ?_;exact wM (λk=>if k=24 then .key 240 else .key k) (aa cv (show ((0:Nat):Int)=0 from rfl))
   ·have h:¬ (bt s (i:Nat)=62/\i+1<s.size/\bt s ((i+1:Nat):Int)=62):=by
     simp only[Bool.and_eq_false_iff,decide_eq_false_iff_not]at hc;omega
    rw[if_neg h]at hT;rw[hT]at g4;simp only at g4;rw[if_neg oM]at g4;rw[<- g4];refine vR eH cv ?_;refine wZ cv ?_;exact⟨.v bI,⟨dE,.inr ⟨rfl,rfl,rfl⟩⟩,λE=>rfl⟩
  ·clear wi wi2;generalize j6 s i=t at *;obtain⟨⟨tk,ta,tt⟩,nx,e,at_⟩:=t;dsimp only at g4 hnext ⊢;refine Wp.seq ?_;refine vR eH cv ?_;refine wC cv (λhc=>?_) (λhc=>?_)
   ·have he:¬ e=0:=by simpa using hc
    rw[if_neg he]at g4;rw[<- g4];refine vR eH cv ?_;refine wZ cv ?_;exact⟨.v bI,⟨dE,.inr ⟨rfl,rfl,rfl⟩⟩,λE=>rfl⟩
   have he:e=0:=by simpa using hc
   rw[if_pos he]at g4;obtain⟨x1,x2⟩:=hnext he;have hgp:=P3 x2;have ha:=PU l tk ta tt;have hz:(l++[(tk,ta,tt)]).length=l.length+1:=by rw[List.length_append];rfl
   refine wK ?_;refine wR eH (aa cv ha) ?_ ?_
   ·exact⟨by unfold maxLen;omega,oM⟩
   refine wr eH cv ?_ ?_
   ·exact⟨x2,h4⟩
   refine⟨(n,pb s nx,l++[(tk,ta,tt)]),⟨hgp.2,by dsimp only;omega,by dsimp only;omega,g4⟩,by dsimp only;omega,?_⟩;exact wM (λk=>if k=19 then .key 680 else .key k) (aa cv hz)
 ·have hge:s.size<=i:=by
   simp at hc;omega
  have hv:gn s=(l++[(0,s.size,dJ)],0,0):=by
   rw[<- g4];cases n with
   |zero=>rfl
   |succ n=>rw[scN,if_neg oM]
  have ha:=PU l 0 s.size dJ;have hz:(l++[((0:Int),s.size,dJ)]).length=l.length+1:=by rw[List.length_append];rfl
  rw[hv];refine wE ?_;refine wR eH cv ?_ ?_
  ·exact⟨by unfold maxLen;omega,oM⟩
  refine wZ cv ?_;exact⟨_,⟨dE,.inl ⟨_,rfl,by rw[hz,<- ha];rfl⟩⟩,λE=>rfl⟩
end
end Go.Proofs.YtnemkecffmdlnaaGreatDoor
namespace Go.Proofs
section
open Go.Shelf
def Tryz.Hv:Go.Shelf.Ren:=⟨λ| 137=>138|217=>189|266=>231|n=>n,λ| 9=>9|5=>5|3=>3|n=>n,λ| n=>n⟩
theorem Tryz.acG:Go.Proofs.Lays.n137 Tryz.prog Tryz.Hv:={
 mixed:=by kernel_rfl
 f137:=Tryz.func138.trans (congrArg some (by kernel_rfl))
 f217:=Tryz.func189.trans (congrArg some (by kernel_rfl))
 f266:=Tryz.func231.trans (congrArg some (by kernel_rfl))
 t3:=Tryz.underlying3
 a3:=Tryz.isAgg3
 z3:=Tryz.sizeOf3
 v3:=Tryz.zeroValue3
 t5:=Tryz.underlying5
 a5:=Tryz.isAgg5
 z5:=Tryz.sizeOf5
 v5:=Tryz.zeroValue5
 t9:=Tryz.underlying9
 a9:=Tryz.isAgg9
 z9:=Tryz.sizeOf9
 v9:=Tryz.zeroValue9 }
def Tryz.FM:Go.Shelf.Ren:=⟨λ| 245=>193|279=>234|280=>235|281=>236|282=>237|316=>256|171=>39|205=>257|243=>76|246=>131|283=>183|284=>184|285=>185|286=>186|129=>227|317=>226|318=>228|319=>229|320=>230|337=>254|338=>255|n=>n,λ| 9=>9|3=>3|75=>93|167=>339|4=>4|168=>341|210=>359|37=>89|0=>0|127=>162|145=>367|143=>365|2=>2|171=>313|53=>203|5=>5|173=>316|212=>334|51=>335|20=>20|213=>336|46=>158|232=>363|233=>364|80=>100|n=>n,λ| 15=>5|16=>6|17=>3|18=>7|19=>8|n=>n⟩
theorem Tryz.YB:Go.Proofs.LaysC.n245 Tryz.prog Tryz.FM:={
 mixed:=by kernel_rfl
 f129:=Tryz.func227.trans (congrArg some (by kernel_rfl))
 f171:=Tryz.func39.trans (congrArg some (by kernel_rfl))
 f205:=Tryz.func257.trans (congrArg some (by kernel_rfl))
 f243:=Tryz.func76.trans (congrArg some (by kernel_rfl))
 f245:=Tryz.func193.trans (congrArg some (by kernel_rfl))
 f246:=Tryz.func131.trans (congrArg some (by kernel_rfl))
 f279:=Tryz.func234.trans (congrArg some (by kernel_rfl))
 f280:=Tryz.func235.trans (congrArg some (by kernel_rfl))
 f281:=Tryz.func236.trans (congrArg some (by kernel_rfl))
 f282:=Tryz.func237.trans (congrArg some (by kernel_rfl))
 f283:=Tryz.func183.trans (congrArg some (by kernel_rfl))
 f284:=Tryz.func184.trans (congrArg some (by kernel_rfl))
 f285:=Tryz.func185.trans (congrArg some (by kernel_rfl))
 f286:=Tryz.func186.trans (congrArg some (by kernel_rfl))
 f316:=Tryz.func256.trans (congrArg some (by kernel_rfl))
 f317:=Tryz.func226.trans (congrArg some (by kernel_rfl))
 f318:=Tryz.func228.trans (congrArg some (by kernel_rfl))
 f319:=Tryz.func229.trans (congrArg some (by kernel_rfl))
 f320:=Tryz.func230.trans (congrArg some (by kernel_rfl))
 f337:=Tryz.func254.trans (congrArg some (by kernel_rfl))
 f338:=Tryz.func255.trans (congrArg some (by kernel_rfl))
 t0:=Tryz.underlying0
 a0:=Tryz.isAgg0
 z0:=Tryz.sizeOf0
 v0:=Tryz.zeroValue0
 t2:=Tryz.underlying2
 a2:=Tryz.isAgg2
 z2:=Tryz.sizeOf2
 v2:=Tryz.zeroValue2
 t3:=Tryz.underlying3
 a3:=Tryz.isAgg3
 z3:=Tryz.sizeOf3
 v3:=Tryz.zeroValue3
 t4:=Tryz.underlying4
 a4:=Tryz.isAgg4
 z4:=Tryz.sizeOf4
 v4:=Tryz.zeroValue4
 t5:=Tryz.underlying5
 a5:=Tryz.isAgg5
 z5:=Tryz.sizeOf5
 v5:=Tryz.zeroValue5
 t9:=Tryz.underlying9
 a9:=Tryz.isAgg9
 z9:=Tryz.sizeOf9
 v9:=Tryz.zeroValue9
 t20:=Tryz.underlying20
 a20:=Tryz.isAgg20
 z20:=Tryz.sizeOf20
 v20:=Tryz.zeroValue20
 t37:=Tryz.underlying89
 a37:=Tryz.isAgg89
 z37:=Tryz.sizeOf89
 v37:=Tryz.zeroValue89
 t46:=Tryz.underlying158
 a46:=Tryz.isAgg158
 z46:=Tryz.sizeOf158
 v46:=Tryz.zeroValue158
 t51:=Tryz.underlying335
 a51:=Tryz.isAgg335
 z51:=Tryz.sizeOf335
 v51:=Tryz.zeroValue335
 t53:=Tryz.underlying203
 a53:=Tryz.isAgg203
 z53:=Tryz.sizeOf203
 v53:=Tryz.zeroValue203
 t75:=Tryz.underlying93
 a75:=Tryz.isAgg93
 z75:=Tryz.sizeOf93
 v75:=Tryz.zeroValue93
 t127:=Tryz.underlying162
 a127:=Tryz.isAgg162
 z127:=Tryz.sizeOf162
 v127:=Tryz.zeroValue162
 t143:=Tryz.underlying365
 a143:=Tryz.isAgg365
 z143:=Tryz.sizeOf365
 v143:=Tryz.zeroValue365
 t145:=Tryz.underlying367
 a145:=Tryz.isAgg367
 z145:=Tryz.sizeOf367
 v145:=Tryz.zeroValue367
 t167:=Tryz.underlying339
 a167:=Tryz.isAgg339
 z167:=Tryz.sizeOf339
 v167:=Tryz.zeroValue339
 t168:=Tryz.underlying341
 a168:=Tryz.isAgg341
 z168:=Tryz.sizeOf341
 v168:=Tryz.zeroValue341
 t171:=Tryz.underlying313
 a171:=Tryz.isAgg313
 z171:=Tryz.sizeOf313
 v171:=Tryz.zeroValue313
 t173:=Tryz.underlying316
 a173:=Tryz.isAgg316
 z173:=Tryz.sizeOf316
 v173:=Tryz.zeroValue316
 t210:=Tryz.underlying359
 a210:=Tryz.isAgg359
 z210:=Tryz.sizeOf359
 v210:=Tryz.zeroValue359
 t212:=Tryz.underlying334
 a212:=Tryz.isAgg334
 z212:=Tryz.sizeOf334
 v212:=Tryz.zeroValue334
 t213:=Tryz.underlying336
 a213:=Tryz.isAgg336
 z213:=Tryz.sizeOf336
 t232:=Tryz.underlying363
 a232:=Tryz.isAgg363
 z232:=Tryz.sizeOf363
 v232:=Tryz.zeroValue363
 t233:=Tryz.underlying364
 a233:=Tryz.isAgg364
 z233:=Tryz.sizeOf364
 v233:=Tryz.zeroValue364
 g15:=by kernel_rfl
 g16:=by kernel_rfl
 g17:=by kernel_rfl
 g18:=by kernel_rfl
 g19:=by kernel_rfl
 t80:=Tryz.underlying100
 a80:=Tryz.isAgg100
 z80:=Tryz.sizeOf100
 v80:=Tryz.zeroValue100
 i0:=by kernel_rfl
 i2:=by kernel_rfl
 i3:=by kernel_rfl
 i4:=by kernel_rfl
 i5:=by kernel_rfl
 i9:=by kernel_rfl
 i20:=by kernel_rfl
 i37:=by kernel_rfl
 i46:=by kernel_rfl
 i51:=by kernel_rfl
 i53:=by kernel_rfl
 i75:=by kernel_rfl
 i80:=by kernel_rfl
 i127:=by kernel_rfl
 i143:=by kernel_rfl
 i145:=by kernel_rfl
 i167:=by kernel_rfl
 i168:=by kernel_rfl
 i171:=by kernel_rfl
 i173:=by kernel_rfl
 i210:=by kernel_rfl
 i212:=by kernel_rfl
 i232:=by kernel_rfl
 i233:=by kernel_rfl
 m15:=by kernel_rfl
 m16:=by kernel_rfl
 m17:=by kernel_rfl
 m18:=by kernel_rfl
 m19:=by kernel_rfl
 c0:=by kernel_rfl
 c2:=by kernel_rfl
 c3:=by kernel_rfl
 c4:=by kernel_rfl
 c5:=by kernel_rfl
 c9:=by kernel_rfl
 c20:=by kernel_rfl
 c37:=by kernel_rfl
 c46:=by kernel_rfl
 c51:=by kernel_rfl
 c53:=by kernel_rfl
 c75:=by kernel_rfl
 c80:=by kernel_rfl
 c127:=by kernel_rfl
 c143:=by kernel_rfl
 c145:=by kernel_rfl
 c167:=by kernel_rfl
 c168:=by kernel_rfl
 c171:=by kernel_rfl
 c173:=by kernel_rfl
 c210:=by kernel_rfl
 c212:=by kernel_rfl
 c213:=by kernel_rfl
 c232:=by kernel_rfl
 c233:=by kernel_rfl }
def Tryz.Ij:Go.Shelf.Ren:=⟨λ| 103=>80|210=>139|206=>190|n=>n,λ| 9=>9|4=>4|24=>103|3=>3|n=>n,λ| n=>n⟩
theorem Tryz.acW:Go.Proofs.Lays.n103 Tryz.prog Tryz.Ij:={
 mixed:=by kernel_rfl
 f103:=Tryz.func80.trans (congrArg some (by kernel_rfl))
 f206:=Tryz.func190.trans (congrArg some (by kernel_rfl))
 f210:=Tryz.func139.trans (congrArg some (by kernel_rfl))
 t3:=Tryz.underlying3
 a3:=Tryz.isAgg3
 z3:=Tryz.sizeOf3
 v3:=Tryz.zeroValue3
 t4:=Tryz.underlying4
 a4:=Tryz.isAgg4
 z4:=Tryz.sizeOf4
 v4:=Tryz.zeroValue4
 t9:=Tryz.underlying9
 a9:=Tryz.isAgg9
 z9:=Tryz.sizeOf9
 v9:=Tryz.zeroValue9
 t24:=Tryz.underlying103
 a24:=Tryz.isAgg103
 z24:=Tryz.sizeOf103
 v24:=Tryz.zeroValue103 }
def Tryz.H6:Go.Shelf.Ren:=⟨λ| 104=>81|211=>140|207=>191|n=>n,λ| 9=>9|4=>4|24=>103|3=>3|n=>n,λ| n=>n⟩
theorem Tryz.afh:Go.Proofs.Lays.n104 Tryz.prog Tryz.H6:={
 mixed:=by kernel_rfl
 f104:=Tryz.func81.trans (congrArg some (by kernel_rfl))
 f207:=Tryz.func191.trans (congrArg some (by kernel_rfl))
 f211:=Tryz.func140.trans (congrArg some (by kernel_rfl))
 t3:=Tryz.underlying3
 a3:=Tryz.isAgg3
 z3:=Tryz.sizeOf3
 v3:=Tryz.zeroValue3
 t4:=Tryz.underlying4
 a4:=Tryz.isAgg4
 z4:=Tryz.sizeOf4
 v4:=Tryz.zeroValue4
 t9:=Tryz.underlying9
 a9:=Tryz.isAgg9
 z9:=Tryz.sizeOf9
 v9:=Tryz.zeroValue9
 t24:=Tryz.underlying103
 a24:=Tryz.isAgg103
 z24:=Tryz.sizeOf103
 v24:=Tryz.zeroValue103 }
def Tryz.IJ:Go.Shelf.Ren:=⟨λ| 143=>85|219=>144|217=>189|225=>197|224=>198|267=>199|266=>231|314=>242|n=>n,λ| 9=>9|3=>3|4=>4|5=>5|46=>158|146=>348|51=>335|n=>n,λ| 1=>1|n=>n⟩
theorem Tryz.ags:Go.Proofs.Lays.n143 Tryz.prog Tryz.IJ:={
 mixed:=by kernel_rfl
 f143:=Tryz.func85.trans (congrArg some (by kernel_rfl))
 f217:=Tryz.func189.trans (congrArg some (by kernel_rfl))
 f219:=Tryz.func144.trans (congrArg some (by kernel_rfl))
 f224:=Tryz.func198.trans (congrArg some (by kernel_rfl))
 f225:=Tryz.func197.trans (congrArg some (by kernel_rfl))
 f266:=Tryz.func231.trans (congrArg some (by kernel_rfl))
 f267:=Tryz.func199.trans (congrArg some (by kernel_rfl))
 f314:=Tryz.func242.trans (congrArg some (by kernel_rfl))
 t3:=Tryz.underlying3
 a3:=Tryz.isAgg3
 z3:=Tryz.sizeOf3
 v3:=Tryz.zeroValue3
 t4:=Tryz.underlying4
 a4:=Tryz.isAgg4
 z4:=Tryz.sizeOf4
 v4:=Tryz.zeroValue4
 t5:=Tryz.underlying5
 a5:=Tryz.isAgg5
 z5:=Tryz.sizeOf5
 v5:=Tryz.zeroValue5
 t9:=Tryz.underlying9
 a9:=Tryz.isAgg9
 z9:=Tryz.sizeOf9
 v9:=Tryz.zeroValue9
 t46:=Tryz.underlying158
 a46:=Tryz.isAgg158
 z46:=Tryz.sizeOf158
 v46:=Tryz.zeroValue158
 t51:=Tryz.underlying335
 a51:=Tryz.isAgg335
 z51:=Tryz.sizeOf335
 v51:=Tryz.zeroValue335
 t146:=Tryz.underlying348
 a146:=Tryz.isAgg348
 z146:=Tryz.sizeOf348
 v146:=Tryz.zeroValue348
 g1:=by kernel_rfl }
def Tryz.HU:Go.Shelf.Ren:=⟨λ| 146=>83|221=>142|268=>194|138=>195|143=>85|195=>238|197=>239|218=>240|219=>144|260=>258|217=>189|225=>197|224=>198|267=>199|266=>231|314=>242|n=>n,λ| 9=>9|31=>22|3=>3|4=>4|0=>0|105=>344|21=>21|5=>5|46=>158|119=>368|139=>371|138=>370|146=>348|51=>335|n=>n,λ| 1=>1|3=>9|4=>10|n=>n⟩
theorem Tryz.OE:Go.Proofs.Lays.n146 Tryz.prog Tryz.HU:={
 mixed:=by kernel_rfl
 f138:=Tryz.func195.trans (congrArg some (by kernel_rfl))
 f143:=Tryz.func85.trans (congrArg some (by kernel_rfl))
 f146:=Tryz.func83.trans (congrArg some (by kernel_rfl))
 f195:=Tryz.func238.trans (congrArg some (by kernel_rfl))
 f197:=Tryz.func239.trans (congrArg some (by kernel_rfl))
 f217:=Tryz.func189.trans (congrArg some (by kernel_rfl))
 f218:=Tryz.func240.trans (congrArg some (by kernel_rfl))
 f219:=Tryz.func144.trans (congrArg some (by kernel_rfl))
 f221:=Tryz.func142.trans (congrArg some (by kernel_rfl))
 f224:=Tryz.func198.trans (congrArg some (by kernel_rfl))
 f225:=Tryz.func197.trans (congrArg some (by kernel_rfl))
 f260:=Tryz.func258.trans (congrArg some (by kernel_rfl))
 f266:=Tryz.func231.trans (congrArg some (by kernel_rfl))
 f267:=Tryz.func199.trans (congrArg some (by kernel_rfl))
 f268:=Tryz.func194.trans (congrArg some (by kernel_rfl))
 f314:=Tryz.func242.trans (congrArg some (by kernel_rfl))
 t0:=Tryz.underlying0
 a0:=Tryz.isAgg0
 z0:=Tryz.sizeOf0
 v0:=Tryz.zeroValue0
 t3:=Tryz.underlying3
 a3:=Tryz.isAgg3
 z3:=Tryz.sizeOf3
 v3:=Tryz.zeroValue3
 t4:=Tryz.underlying4
 a4:=Tryz.isAgg4
 z4:=Tryz.sizeOf4
 v4:=Tryz.zeroValue4
 t5:=Tryz.underlying5
 a5:=Tryz.isAgg5
 z5:=Tryz.sizeOf5
 v5:=Tryz.zeroValue5
 t9:=Tryz.underlying9
 a9:=Tryz.isAgg9
 z9:=Tryz.sizeOf9
 v9:=Tryz.zeroValue9
 t21:=Tryz.underlying21
 a21:=Tryz.isAgg21
 z21:=Tryz.sizeOf21
 v21:=Tryz.zeroValue21
 t31:=Tryz.underlying22
 a31:=Tryz.isAgg22
 z31:=Tryz.sizeOf22
 v31:=Tryz.zeroValue22
 t46:=Tryz.underlying158
 a46:=Tryz.isAgg158
 z46:=Tryz.sizeOf158
 v46:=Tryz.zeroValue158
 t51:=Tryz.underlying335
 a51:=Tryz.isAgg335
 z51:=Tryz.sizeOf335
 v51:=Tryz.zeroValue335
 t105:=Tryz.underlying344
 a105:=Tryz.isAgg344
 z105:=Tryz.sizeOf344
 v105:=Tryz.zeroValue344
 t119:=Tryz.underlying368
 a119:=Tryz.isAgg368
 z119:=Tryz.sizeOf368
 t138:=Tryz.underlying370
 a138:=Tryz.isAgg370
 z138:=Tryz.sizeOf370
 v138:=Tryz.zeroValue370
 t139:=Tryz.underlying371
 a139:=Tryz.isAgg371
 z139:=Tryz.sizeOf371
 v139:=Tryz.zeroValue371
 t146:=Tryz.underlying348
 a146:=Tryz.isAgg348
 z146:=Tryz.sizeOf348
 v146:=Tryz.zeroValue348
 g1:=by kernel_rfl
 g3:=by kernel_rfl
 g4:=by kernel_rfl }
def Tryz.FT:Go.Shelf.Ren:=⟨λ| 172=>143|244=>196|245=>193|247=>241|279=>234|280=>235|281=>236|282=>237|287=>192|316=>256|171=>39|205=>257|321=>232|322=>233|243=>76|246=>131|283=>183|284=>184|285=>185|286=>186|129=>227|317=>226|318=>228|319=>229|320=>230|337=>254|338=>255|n=>n,λ| 9=>9|3=>3|75=>93|76=>94|4=>4|5=>5|167=>339|37=>89|0=>0|85=>346|2=>2|168=>341|53=>203|175=>264|46=>158|210=>359|127=>162|145=>367|143=>365|21=>21|171=>313|173=>316|212=>334|51=>335|20=>20|213=>336|232=>363|233=>364|80=>100|n=>n,λ| 15=>5|16=>6|17=>3|18=>7|19=>8|n=>n⟩
theorem Tryz.At:Go.Proofs.LaysC.n172 Tryz.prog Tryz.FT:={
 mixed:=by kernel_rfl
 f129:=Tryz.func227.trans (congrArg some (by kernel_rfl))
 f171:=Tryz.func39.trans (congrArg some (by kernel_rfl))
 f172:=Tryz.func143.trans (congrArg some (by kernel_rfl))
 f205:=Tryz.func257.trans (congrArg some (by kernel_rfl))
 f243:=Tryz.func76.trans (congrArg some (by kernel_rfl))
 f244:=Tryz.func196.trans (congrArg some (by kernel_rfl))
 f245:=Tryz.func193.trans (congrArg some (by kernel_rfl))
 f246:=Tryz.func131.trans (congrArg some (by kernel_rfl))
 f247:=Tryz.func241.trans (congrArg some (by kernel_rfl))
 f279:=Tryz.func234.trans (congrArg some (by kernel_rfl))
 f280:=Tryz.func235.trans (congrArg some (by kernel_rfl))
 f281:=Tryz.func236.trans (congrArg some (by kernel_rfl))
 f282:=Tryz.func237.trans (congrArg some (by kernel_rfl))
 f283:=Tryz.func183.trans (congrArg some (by kernel_rfl))
 f284:=Tryz.func184.trans (congrArg some (by kernel_rfl))
 f285:=Tryz.func185.trans (congrArg some (by kernel_rfl))
 f286:=Tryz.func186.trans (congrArg some (by kernel_rfl))
 f287:=Tryz.func192.trans (congrArg some (by kernel_rfl))
 f316:=Tryz.func256.trans (congrArg some (by kernel_rfl))
 f317:=Tryz.func226.trans (congrArg some (by kernel_rfl))
 f318:=Tryz.func228.trans (congrArg some (by kernel_rfl))
 f319:=Tryz.func229.trans (congrArg some (by kernel_rfl))
 f320:=Tryz.func230.trans (congrArg some (by kernel_rfl))
 f321:=Tryz.func232.trans (congrArg some (by kernel_rfl))
 f322:=Tryz.func233.trans (congrArg some (by kernel_rfl))
 f337:=Tryz.func254.trans (congrArg some (by kernel_rfl))
 f338:=Tryz.func255.trans (congrArg some (by kernel_rfl))
 t0:=Tryz.underlying0
 a0:=Tryz.isAgg0
 z0:=Tryz.sizeOf0
 v0:=Tryz.zeroValue0
 t2:=Tryz.underlying2
 a2:=Tryz.isAgg2
 z2:=Tryz.sizeOf2
 v2:=Tryz.zeroValue2
 t3:=Tryz.underlying3
 a3:=Tryz.isAgg3
 z3:=Tryz.sizeOf3
 v3:=Tryz.zeroValue3
 t4:=Tryz.underlying4
 a4:=Tryz.isAgg4
 z4:=Tryz.sizeOf4
 v4:=Tryz.zeroValue4
 t5:=Tryz.underlying5
 a5:=Tryz.isAgg5
 z5:=Tryz.sizeOf5
 v5:=Tryz.zeroValue5
 t9:=Tryz.underlying9
 a9:=Tryz.isAgg9
 z9:=Tryz.sizeOf9
 v9:=Tryz.zeroValue9
 t20:=Tryz.underlying20
 a20:=Tryz.isAgg20
 z20:=Tryz.sizeOf20
 v20:=Tryz.zeroValue20
 t21:=Tryz.underlying21
 a21:=Tryz.isAgg21
 z21:=Tryz.sizeOf21
 v21:=Tryz.zeroValue21
 t37:=Tryz.underlying89
 a37:=Tryz.isAgg89
 z37:=Tryz.sizeOf89
 v37:=Tryz.zeroValue89
 t46:=Tryz.underlying158
 a46:=Tryz.isAgg158
 z46:=Tryz.sizeOf158
 v46:=Tryz.zeroValue158
 t51:=Tryz.underlying335
 a51:=Tryz.isAgg335
 z51:=Tryz.sizeOf335
 v51:=Tryz.zeroValue335
 t53:=Tryz.underlying203
 a53:=Tryz.isAgg203
 z53:=Tryz.sizeOf203
 v53:=Tryz.zeroValue203
 t75:=Tryz.underlying93
 a75:=Tryz.isAgg93
 z75:=Tryz.sizeOf93
 v75:=Tryz.zeroValue93
 t76:=Tryz.underlying94
 a76:=Tryz.isAgg94
 z76:=Tryz.sizeOf94
 v76:=Tryz.zeroValue94
 t85:=Tryz.underlying346
 a85:=Tryz.isAgg346
 z85:=Tryz.sizeOf346
 v85:=Tryz.zeroValue346
 t127:=Tryz.underlying162
 a127:=Tryz.isAgg162
 z127:=Tryz.sizeOf162
 v127:=Tryz.zeroValue162
 t143:=Tryz.underlying365
 a143:=Tryz.isAgg365
 z143:=Tryz.sizeOf365
 v143:=Tryz.zeroValue365
 t145:=Tryz.underlying367
 a145:=Tryz.isAgg367
 z145:=Tryz.sizeOf367
 v145:=Tryz.zeroValue367
 t167:=Tryz.underlying339
 a167:=Tryz.isAgg339
 z167:=Tryz.sizeOf339
 v167:=Tryz.zeroValue339
 t168:=Tryz.underlying341
 a168:=Tryz.isAgg341
 z168:=Tryz.sizeOf341
 v168:=Tryz.zeroValue341
 t171:=Tryz.underlying313
 a171:=Tryz.isAgg313
 z171:=Tryz.sizeOf313
 v171:=Tryz.zeroValue313
 t173:=Tryz.underlying316
 a173:=Tryz.isAgg316
 z173:=Tryz.sizeOf316
 v173:=Tryz.zeroValue316
 t175:=Tryz.underlying264
 a175:=Tryz.isAgg264
 z175:=Tryz.sizeOf264
 v175:=Tryz.zeroValue264
 t210:=Tryz.underlying359
 a210:=Tryz.isAgg359
 z210:=Tryz.sizeOf359
 v210:=Tryz.zeroValue359
 t212:=Tryz.underlying334
 a212:=Tryz.isAgg334
 z212:=Tryz.sizeOf334
 v212:=Tryz.zeroValue334
 t213:=Tryz.underlying336
 a213:=Tryz.isAgg336
 z213:=Tryz.sizeOf336
 t232:=Tryz.underlying363
 a232:=Tryz.isAgg363
 z232:=Tryz.sizeOf363
 v232:=Tryz.zeroValue363
 t233:=Tryz.underlying364
 a233:=Tryz.isAgg364
 z233:=Tryz.sizeOf364
 v233:=Tryz.zeroValue364
 g15:=by kernel_rfl
 g16:=by kernel_rfl
 g17:=by kernel_rfl
 g18:=by kernel_rfl
 g19:=by kernel_rfl
 t80:=Tryz.underlying100
 a80:=Tryz.isAgg100
 z80:=Tryz.sizeOf100
 v80:=Tryz.zeroValue100
 i0:=by kernel_rfl
 i2:=by kernel_rfl
 i3:=by kernel_rfl
 i4:=by kernel_rfl
 i5:=by kernel_rfl
 i9:=by kernel_rfl
 i20:=by kernel_rfl
 i21:=by kernel_rfl
 i37:=by kernel_rfl
 i46:=by kernel_rfl
 i51:=by kernel_rfl
 i53:=by kernel_rfl
 i75:=by kernel_rfl
 i76:=by kernel_rfl
 i80:=by kernel_rfl
 i85:=by kernel_rfl
 i127:=by kernel_rfl
 i143:=by kernel_rfl
 i145:=by kernel_rfl
 i167:=by kernel_rfl
 i168:=by kernel_rfl
 i171:=by kernel_rfl
 i173:=by kernel_rfl
 i175:=by kernel_rfl
 i210:=by kernel_rfl
 i212:=by kernel_rfl
 i232:=by kernel_rfl
 i233:=by kernel_rfl
 m15:=by kernel_rfl
 m16:=by kernel_rfl
 m17:=by kernel_rfl
 m18:=by kernel_rfl
 m19:=by kernel_rfl
 c0:=by kernel_rfl
 c2:=by kernel_rfl
 c3:=by kernel_rfl
 c4:=by kernel_rfl
 c5:=by kernel_rfl
 c9:=by kernel_rfl
 c20:=by kernel_rfl
 c21:=by kernel_rfl
 c37:=by kernel_rfl
 c46:=by kernel_rfl
 c51:=by kernel_rfl
 c53:=by kernel_rfl
 c75:=by kernel_rfl
 c76:=by kernel_rfl
 c80:=by kernel_rfl
 c85:=by kernel_rfl
 c127:=by kernel_rfl
 c143:=by kernel_rfl
 c145:=by kernel_rfl
 c167:=by kernel_rfl
 c168:=by kernel_rfl
 c171:=by kernel_rfl
 c173:=by kernel_rfl
 c175:=by kernel_rfl
 c210:=by kernel_rfl
 c212:=by kernel_rfl
 c213:=by kernel_rfl
 c232:=by kernel_rfl
 c233:=by kernel_rfl }
def Tryz.Ki:Go.Shelf.Ren:=⟨λ| 171=>39|243=>76|246=>131|283=>183|284=>184|285=>185|286=>186|129=>227|317=>226|318=>228|319=>229|320=>230|337=>254|338=>255|n=>n,λ| 3=>3|9=>9|2=>2|4=>4|171=>313|0=>0|53=>203|37=>89|5=>5|173=>316|212=>334|51=>335|20=>20|213=>336|46=>158|232=>363|233=>364|n=>n,λ| 17=>3|18=>7|19=>8|n=>n⟩
theorem Tryz.P9:Go.Proofs.LaysM.n171 Tryz.prog Tryz.Ki:={
 mixed:=by kernel_rfl
 f129:=Tryz.func227.trans (congrArg some (by kernel_rfl))
 f171:=Tryz.func39.trans (congrArg some (by kernel_rfl))
 f243:=Tryz.func76.trans (congrArg some (by kernel_rfl))
 f246:=Tryz.func131.trans (congrArg some (by kernel_rfl))
 f283:=Tryz.func183.trans (congrArg some (by kernel_rfl))
 f284:=Tryz.func184.trans (congrArg some (by kernel_rfl))
 f285:=Tryz.func185.trans (congrArg some (by kernel_rfl))
 f286:=Tryz.func186.trans (congrArg some (by kernel_rfl))
 f317:=Tryz.func226.trans (congrArg some (by kernel_rfl))
 f318:=Tryz.func228.trans (congrArg some (by kernel_rfl))
 f319:=Tryz.func229.trans (congrArg some (by kernel_rfl))
 f320:=Tryz.func230.trans (congrArg some (by kernel_rfl))
 f337:=Tryz.func254.trans (congrArg some (by kernel_rfl))
 f338:=Tryz.func255.trans (congrArg some (by kernel_rfl))
 t0:=Tryz.underlying0
 a0:=Tryz.isAgg0
 z0:=Tryz.sizeOf0
 v0:=Tryz.zeroValue0
 t2:=Tryz.underlying2
 a2:=Tryz.isAgg2
 z2:=Tryz.sizeOf2
 v2:=Tryz.zeroValue2
 t3:=Tryz.underlying3
 a3:=Tryz.isAgg3
 z3:=Tryz.sizeOf3
 v3:=Tryz.zeroValue3
 t4:=Tryz.underlying4
 a4:=Tryz.isAgg4
 z4:=Tryz.sizeOf4
 v4:=Tryz.zeroValue4
 t5:=Tryz.underlying5
 a5:=Tryz.isAgg5
 z5:=Tryz.sizeOf5
 v5:=Tryz.zeroValue5
 t9:=Tryz.underlying9
 a9:=Tryz.isAgg9
 z9:=Tryz.sizeOf9
 v9:=Tryz.zeroValue9
 t20:=Tryz.underlying20
 a20:=Tryz.isAgg20
 z20:=Tryz.sizeOf20
 v20:=Tryz.zeroValue20
 t37:=Tryz.underlying89
 a37:=Tryz.isAgg89
 z37:=Tryz.sizeOf89
 v37:=Tryz.zeroValue89
 t46:=Tryz.underlying158
 a46:=Tryz.isAgg158
 z46:=Tryz.sizeOf158
 v46:=Tryz.zeroValue158
 t51:=Tryz.underlying335
 a51:=Tryz.isAgg335
 z51:=Tryz.sizeOf335
 v51:=Tryz.zeroValue335
 t53:=Tryz.underlying203
 a53:=Tryz.isAgg203
 z53:=Tryz.sizeOf203
 v53:=Tryz.zeroValue203
 t171:=Tryz.underlying313
 a171:=Tryz.isAgg313
 z171:=Tryz.sizeOf313
 v171:=Tryz.zeroValue313
 t173:=Tryz.underlying316
 a173:=Tryz.isAgg316
 z173:=Tryz.sizeOf316
 v173:=Tryz.zeroValue316
 t212:=Tryz.underlying334
 a212:=Tryz.isAgg334
 z212:=Tryz.sizeOf334
 v212:=Tryz.zeroValue334
 t213:=Tryz.underlying336
 a213:=Tryz.isAgg336
 z213:=Tryz.sizeOf336
 t232:=Tryz.underlying363
 a232:=Tryz.isAgg363
 z232:=Tryz.sizeOf363
 v232:=Tryz.zeroValue363
 t233:=Tryz.underlying364
 a233:=Tryz.isAgg364
 z233:=Tryz.sizeOf364
 v233:=Tryz.zeroValue364
 g17:=by kernel_rfl
 g18:=by kernel_rfl
 g19:=by kernel_rfl
 i0:=by kernel_rfl
 i2:=by kernel_rfl
 i3:=by kernel_rfl
 i4:=by kernel_rfl
 i5:=by kernel_rfl
 i9:=by kernel_rfl
 i20:=by kernel_rfl
 i37:=by kernel_rfl
 i46:=by kernel_rfl
 i51:=by kernel_rfl
 i53:=by kernel_rfl
 i171:=by kernel_rfl
 i173:=by kernel_rfl
 i212:=by kernel_rfl
 i232:=by kernel_rfl
 i233:=by kernel_rfl
 m17:=by kernel_rfl
 m18:=by kernel_rfl
 m19:=by kernel_rfl }
end
end Go.Proofs
namespace Go.Proofs.YtnemkecffmdlnaaGreatDoor
section
open Go.RowKit Go.LE Go.Proofs.Tryz
set_option maxRecDepth 10000
theorem nC(S T:CS)(h:mX S=mX T):S=T:=by
 have h:gA S.getLsbD=gA T.getLsbD:=congrArg (λv=>match v with|Value.agg a=>a.toList|_=>[]) h;apply BitVec.eq_of_getLsbD_eq;intro i hi;have h1:=mw S.getLsbD i hi;rw[h,mw T.getLsbD i hi]at h1;simpa using h1.symm
def lJ:=(aj @an @ab jo jl gS ca cc (aj b9 cg cf cj cd ck fu (aj fE fj fz fw dc dh cZ (aj db c8 dd Dn Ct Dl DL (aj @aG @al @ay @ax @mK @dL @lS (eT @ni @mv @aB @iP))))))
theorem N3(S:CS)(w:World):Calls prog 203 #[mX S] w λe w' => e=.returned (.int .i64 (kb S:Nat))/\ah w [] w' := by
 refine af (nt:=15) [.tmp 2] func203 rfl rfl rfl ?_;refine vR Γ0 (aa lJ @mX.eq_1) ?_;refine vR Γ0 lJ ?_;refine Wp.seq ?_;refine vR Γ0 lJ ?_;refine Wp.block ?_
 refine Wp.loop (λj:Nat=>⟨20,bm [(1,.is (.own 0 0)),(3,.is (.v (.int .i64 (lN S j:Nat)))),(4,.is (.v (.int .i64 (j:Nat))))],aY [(0,.cells 241 ((gA S.getLsbD).map .v))]⟩) (λj=>j<=256) (λj=>256-j) 0 ?_ (Nat.zero_le _) ?_
 ·exact wM (λk=>.key k) lJ
 rintro j hj;have hle:=D1 S j;refine Wp.seq ?_;refine vR Γ0 lJ ?_;refine wC lJ (λhc=>?_) (λhc=>?_)
 ·have hlt:j<256:=by
   simp at hc;omega
  have wj:IntKind.i64.wrap ((j:Int)+1)=((j+1:Nat):Int):=wW;refine wK ?_;refine Wp.seq (Wp.block ?_)
  refine Wp.o9 Γ0 b8 (by simp only[jD,Op.operands,Value.cells,σ0,σB,Nat.reduceEqDiff,Nat.reduceAdd,Nat.reduceMul,Nat.reduceLT,Nat.reduceLeDiff,Nat.reduceBEq,av,Int.reduceToNat,Int.reduceLT,Int.reduceLE,Nat.reduceDiv,Nat.reduceMod,Nat.reduceSub,Int.reducePow,Nat.reducePow,σP,σB3,lJ,mw _ j hlt];exact rfl) rfl ?_ ?_
  ·omega
  refine wC lJ (λhc=>?_) (λhc=>?_)
  ·have e:lN S (j+1)=lN S j+1:=by rw[lN,if_pos hc]
   have wc:IntKind.i64.wrap ((lN S j:Int)+1)=((lN S (j+1):Nat):Int):=by rw[ae oM oM,e];omega
   refine vr Γ0 (aa lJ wc) ?_;refine vr Γ0 (aa lJ wj) ?_;refine⟨j+1,oM,oM,?_⟩;exact wM (λk=>.key k) lJ
  ·have e:lN S (j+1)=lN S j:=by rw[lN,if_neg (by rw[hc];simp)];omega
   refine wK ?_;refine vr Γ0 (aa lJ wj) ?_;refine⟨j+1,oM,oM,?_⟩;rw[e];exact wM (λk=>.key k) lJ
 ·have hj' : j=256:=by
   simp at hc;omega
  subst hj';refine wE ?_;refine vR Γ0 lJ ?_;refine wZ lJ ?_;exact λE=>rfl
noncomputable def qD:aM prog 203 where
 pre:=λW bs=>λ| [.val y0]=>(match dec mX y0 with|some S=>True|_=>False)|_=>False
 res:=λW=>λ| [.val y0]=>(match dec mX y0 with|some S=>.int .i64 (kb S:Nat)|_=>undef)|_=>undef
 enters:=call203
 ok:=by
  intro W w bs us as_ hk hu hp;split at hp
  ·rename_i y0;split at hp
   ·rename_i S h0
    match us,hu with
    |[u0],hu=>
     obtain⟨rfl,_⟩:=hu;obtain rfl:=gX h0
     try dsimp only
     try simp only[cN nC]
     exact N3 S w
   ·exact hp.elim
  ·exact hp.elim
theorem GC(W:World)(S:CS):qD.res W [.val (mX S)]=.int .i64 (kb S:Nat):=by simp only[qD,cN nC]
theorem IE(W:World)(bs:List Nat)(S:CS):qD.pre W bs [.val (mX S)]=(True):=by simp only[qD,cN nC]
theorem Ko(S:CS):partsOf (.v (mX S))=List.map SV.v (gA S.getLsbD):=rfl
theorem DJ(S:CS):Value.agg (gA S.getLsbD).toArray=mX S:=rfl
noncomputable def qw:Env prog:=⟨λ| 203=>some qD.spec|204=>some O9.spec|205=>some nq.spec|206=>some u6.spec|_=>none,λ| _=>none,λ_ _=>none⟩
theorem agF:qw.sp 203=some qD.spec:=rfl
theorem afH:qw.sp 204=some O9.spec:=rfl
theorem agW:qw.sp 205=some nq.spec:=rfl
theorem aeg:qw.sp 206=some u6.spec:=rfl
theorem Nt(S:CS)(h1:kb S≠1):∃ (T:CS) (pre:ByteArray) (want:Bool),iB S=dn T pre 256++QQ/\pre.size<=2/\(∀ k<256,(S.getLsbD k == want)=T.getLsbD k)/\want=!decide (128<kb S)/\pre=bif decide (128<kb S) then Bw else zI:=by
 by_cases h:128<kb S
 ·refine⟨~~~S,Bw,false,?_,dE,λk hk=>?_,by simp[h],by simp[h]⟩
  ·rw[iB,if_neg h1,if_pos h]
  ·rw[BitVec.getLsbD_not];cases S.getLsbD k<;>simp[hk]
 ·refine⟨S,zI,true,?_,dE,λk hk=>?_,by simp[h],by simp[h]⟩
  ·rw[iB,if_neg h1,if_neg h]
  ·cases S.getLsbD k<;>simp
theorem FH{P:Program}{eqs:(T:TypeId)->Option (EqSpec P T)}(h:Hp)(T:TypeId)(X Y:Operand)(b:Bool):bE P eqs h .eql T X Y [.v undef,.v (.bool b)]=.bad:=rfl
theorem bad_eq:R.bad=⟨False,.v undef,[],none,[],[]⟩:=rfl
theorem QP(out:ByteArray)(b e:Nat):NK out b e=if b<e then (if b+1<e then out++ly b (kW mH b)++oA else out++ly b (kW mH b))++ly e (kW mH e) else (if b+1<e then out++ly b (kW mH b)++oA else out++ly b (kW mH b)):=by
 unfold NK;split
 ·rfl
 ·rw[if_neg oM]
def bn:=(aj @an @ab jo jl gS ca cc (aj b9 cg cf cj cd ck fu (aj fE fj fz fw dc dh cZ (aj db c8 dd Dn Ct Dl DL (aj @aG @al @ay @ax @mK @dL @lS (aj @ni @mv @aB @iP @GC @IE @RE (aj @TF @tO @s3 @zl @AY @DJ @Ko (eT agF afH agW aeg))))))))
theorem Sy(S:CS)(w:World):Calls prog 156 #[mX S] w λe w' => e=.returned (.string (iB S))/\ah w [] w' := by
 refine af (nt:=92) [.tmp 2] func156 rfl rfl rfl ?_;refine vR qw bn ?_;refine vR qw bn ?_;refine Wp.seq ?_;refine vR qw bn ?_;refine wC bn (λhc=>?_) (λhc=>?_)
 ·have h1:kb S=1:=by simp at hc;omega
  refine vR qw bn ?_;refine Wp.block ?_;refine Wp.loop (λj:Nat=>⟨20,bm [(1,.is (.own 0 0)),(4,.is (.v (.int .i64 (j:Nat))))],aY [(0,.cells 241 ((gA S.getLsbD).map .v))]⟩) (λj=>j<=256/\∀ k<j,S.getLsbD k=false) (λj=>256-j) 0 ?_ ⟨Nat.zero_le _,λk h=>by omega⟩ ?_
  ·exact wM (λk=>.key k) bn
  rintro j ⟨hj,hn⟩;refine Wp.seq ?_;refine vR qw bn ?_;refine wC bn (λhc=>?_) (λhc=>?_)
  ·have hlt:j<256:=by
    simp at hc;omega
   have wj:IntKind.i64.wrap ((j:Int)+1)=((j+1:Nat):Int):=wW;have wu:IntKind.u8.wrap (j:Int)=(j:Int):=eS oM oM;refine wK ?_;refine Wp.seq (Wp.block ?_)
   refine Wp.o9 qw b8 (by simp only[jD,Op.operands,Value.cells,σ0,σB,Nat.reduceEqDiff,Nat.reduceAdd,Nat.reduceMul,Nat.reduceLT,Nat.reduceLeDiff,Nat.reduceBEq,av,Int.reduceToNat,Int.reduceLT,Int.reduceLE,Nat.reduceDiv,Nat.reduceMod,Nat.reduceSub,Int.reducePow,Nat.reducePow,σP,σB3,bn,mw _ j hlt];exact rfl) rfl ?_ ?_
   ·omega
   refine wC bn (λhc=>?_) (λhc=>?_)
   ·have e:iB S=ly j (kW BK j):=by rw[iB,if_pos h1,Ox S j hlt hn hc]
    rw[e];refine wR qw (aa bn wu) ?_ ?_
    ·omega
    refine wZ bn ?_;exact λE=>rfl
   ·refine wK ?_;refine vr qw (aa bn wj) ?_;refine⟨j+1,⟨oM,λk hk=>?_⟩,oM,?_⟩
    ·by_cases h:k=j
     ·rw[h];exact hc
     ·exact hn k oM
    ·exact wM (λk=>.key k) bn
  ·exfalso;have hj' : j=256:=by
    simp at hc;omega
   subst hj';have:=CW S 256 hn;rw[kb]at h1;omega
 have h1:kb S≠1:=by simp at hc;omega
 obtain⟨T,pre,want,he,hpre,hT,hw,hp⟩:=Nt S h1;rw[he];refine wK ?_;refine vR qw bn ?_;refine vR qw bn ?_;refine aW ⟨60,bm [(1,.is (.own 0 0)),(5,.is (.v (.string pre))),(6,.is (.v (.bool want)))],aY [(0,.cells 241 ((gA S.getLsbD).map .v))]⟩ ?_ ?_
 ·skip;refine vR qw bn ?_;refine wC bn (λhc=>?_) (λhc=>?_)
  ·have h:decide (128<kb S)=true:=by simp at hc ⊢;omega
   rw[h]at hw hp;subst hw hp;refine vR qw bn ?_;refine vr qw bn ?_;exact wM (λk=>.key k) bn
  ·have h:decide (128<kb S)=false:=by simp at hc ⊢;omega
   rw[h]at hw hp;subst hw hp;refine wK ?_;exact wM (λk=>.key k) bn
 clear hw hp;refine Wp.seq ?_;refine vR qw bn ?_;refine Wp.block ?_
 refine Wp.loop (λb:Nat=>⟨70,bm [(1,.is (.own 0 0)),(5,.is (.v (.string (dn T pre b)))),(6,.is (.v (.bool want))),(7,.is (.v (.int .i64 (b:Nat))))],aY [(0,.cells 241 ((gA S.getLsbD).map .v))]⟩) (λb=>b<=256) (λb=>256-b) 0 ?_ (Nat.zero_le _) ?_
 ·exact wM (λk=>.key k) bn
 intro b hb;refine Wp.seq ?_;refine vR qw bn ?_;refine wC bn (λhc=>?_) (λhc=>?_)
 ·have hlt:b<256:=by
   simp at hc;omega
  have wj:IntKind.i64.wrap ((b:Int)+1)=((b+1:Nat):Int):=wW;have w1:IntKind.i64.wrap ((b:Int)-1)=(b:Int)-1:=ae oM oM;have w2:((b:Int)-1).toNat=b-1:=oM;have wu:IntKind.u8.wrap (b:Int)=(b:Int):=eS oM oM;have hsz:=jE T pre b
  have hst:(!(S.getLsbD b == want)||(decide (0<(b:Int))&&(S.getLsbD (b-1) == want)))=!UQ T b:=by
   rw[hT b hlt,hT (b-1) oM,UQ];by_cases h0:b=0
   ·subst h0;simp
   ·rw[show decide (0<(b:Int))=true by simp;omega,show (b == 0)=false by simpa using h0];cases T.getLsbD b<;>cases T.getLsbD (b-1)<;>rfl
  refine wK ?_;refine Wp.seq (Wp.block ?_);refine Wp.seq ?_
  refine Wp.o9 qw b8 (by simp only[jD,Op.operands,Value.cells,σ0,σB,Nat.reduceEqDiff,Nat.reduceAdd,Nat.reduceMul,Nat.reduceLT,Nat.reduceLeDiff,Nat.reduceBEq,av,Int.reduceToNat,Int.reduceLT,Int.reduceLE,Nat.reduceDiv,Nat.reduceMod,Nat.reduceSub,Int.reducePow,Nat.reducePow,σP,σB3,bn,w1,w2,mw _ b hlt,mw _ (b-1) (show b-1<256 by omega)];exact rfl) rfl ?_ ?_
  ·exact⟨⟨oM,oM⟩,oM,λh=>⟨by simp at h;omega,oM⟩,λh=>by omega⟩
  refine wC bn (λhc=>?_) (λhc=>?_)
  ·have hs:UQ T b=false:=by
    rw[hst]at hc;simpa using hc
   have e:dn T pre (b+1)=dn T pre b:=by rw[dn,if_neg (by rw[hs];simp)]
   refine wE ?_;refine vr qw (aa bn wj) ?_;refine⟨b+1,oM,oM,?_⟩;rw[e];exact wM (λk=>.key k) bn
  have hs:UQ T b=true:=by
   rw[hst]at hc;simpa using hc
  have hTb:T.getLsbD b=true:=by
   rw[UQ,Bool.and_eq_true]at hs;exact hs.1
  have hbd:=Ps T b hlt;have e:dn T pre (b+1)=NK (dn T pre b) b (kv T b):=by rw[dn,if_pos hs]
  generalize hO:dn T pre b=O at *;generalize hO' : dn T pre (b+1)=O' at *;refine wK ?_;refine vR qw bn ?_;obtain⟨m,hm⟩:∃ m,kv T b=b+m:=⟨kv T b-b,oM⟩
  refine aW ⟨120,bm [(1,.is (.own 0 0)),(5,.is (.v (.string O))),(6,.is (.v (.bool want))),(7,.is (.v (.int .i64 (b:Nat)))),(8,.is (.v (.int .i64 ((m:Int)+1))))],aY [(0,.cells 241 ((gA S.getLsbD).map .v))]⟩ ?_ ?_
  ·skip;refine Wp.block ?_
   refine Wp.loop (λk:Nat=>⟨100,bm [(1,.is (.own 0 0)),(5,.is (.v (.string O))),(6,.is (.v (.bool want))),(7,.is (.v (.int .i64 (b:Nat)))),(8,.is (.v (.int .i64 (k:Nat))))],aY [(0,.cells 241 ((gA S.getLsbD).map .v))]⟩) (λk=>(1<=k/\b+k<=256)/\kv T b=kv T (b+k-1)) (λk=>256-k) 1 ?_ ⟨⟨Nat.le_refl _,oM⟩,by rw[Nat.add_sub_cancel]⟩ ?_
   ·exact wM (λk=>.key k) bn
   rintro k ⟨⟨hk1,hk⟩,hke⟩;have wbk:IntKind.i64.wrap ((b:Int)+(k:Int))=(b:Int)+(k:Int):=ae oM oM;have w3:((b:Int)+(k:Int)).toNat=b+k:=oM;have wk:IntKind.i64.wrap ((k:Int)+1)=((k+1:Nat):Int):=wW;have fin:(b+k<256->T.getLsbD (b+k)=false)->(k:Int)=(m:Int)+1:=λh=>by
    have:=CK T (b+k-1) (λh2=>by rw[show b+k-1+1=b+k by omega];exact h oM);omega
   by_cases hbk:b+k<256
   ·have hd:decide ((b:Int)+(k:Int)<256)=true:=by simp;omega
    refine Wp.seq ?_
    refine Wp.o9 qw b8 (by simp only[jD,Op.operands,Value.cells,σ0,σB,Nat.reduceEqDiff,Nat.reduceAdd,Nat.reduceMul,Nat.reduceLT,Nat.reduceLeDiff,Nat.reduceBEq,av,Int.reduceToNat,Int.reduceLT,Int.reduceLE,Nat.reduceDiv,Nat.reduceMod,Nat.reduceSub,Int.reducePow,Nat.reducePow,σP,σB3,bn,wbk,w3,hd,mw _ (b+k) hbk];exact rfl) rfl ?_ ?_
    ·exact⟨⟨oM,oM⟩,oM⟩
    refine wC bn (λhc=>?_) (λhc=>?_)
    ·rw[hT _ hbk]at hc;refine wK ?_;refine Wp.block ?_;refine vr qw (aa bn wk) ?_;have hst2:=DS T (b+k-1) oM (by rw[show b+k-1+1=b+k by omega];exact hc);refine⟨k+1,⟨⟨oM,oM⟩,by rw[hke,hst2];congr 1;omega⟩,oM,?_⟩;exact wM (λk=>.key k) bn
    ·rw[hT _ hbk]at hc;refine wE ?_;have hf:=fin λ_=>hc
     exact wM (λk=>.key k) (aa bn hf)
   ·have hd:decide ((b:Int)+(k:Int)<256)=false:=by simp;omega
    have ho:(List.map SV.v (gA S.getLsbD)).getD (b+k) (SV.v undef)=SV.v undef:=by rw[List.getD_eq_getElem?_getD,List.getElem?_eq_none (by rw[dL];omega)];rfl
    refine Wp.seq ?_;refine wR qw (uv bn wbk w3 hd ho @FH @bad_eq) ?_ ?_
    ·simp
    refine wC bn (λhc=>?_) (λhc=>?_)
    ·exact absurd hc sI
    ·refine wE ?_;have hf:=fin λh=>absurd h hbk
     exact wM (λk=>.key k) (aa bn hf)
  have we1:IntKind.i64.wrap ((b:Int)+((m:Int)+1))=(b:Int)+((m:Int)+1):=ae oM oM;have we2:IntKind.i64.wrap ((b:Int)+((m:Int)+1)-1)=((b+m:Nat):Int):=wW;have we3:IntKind.u8.wrap ((b+m:Nat):Int)=((b+m:Nat):Int):=eS oM oM;have hb1:=lZ b (kW mH b);have hb2:=lZ ((b+m:Nat):Int) (kW mH ((b+m:Nat):Int))
  rw[QP,hm]at e;refine wR qw (aa bn wu) ?_ ?_
  ·exact⟨⟨oM,oM⟩,⟨oM,oM⟩,oM⟩
  have hO1:(O++ly b (kW mH b)).size<=2400:=by rw[ByteArray.size_append];omega
  generalize O++ly b (kW mH b)=O1 at *;refine vR qw (eT bn we1 we2 we3) ?_
  refine aW ⟨150,bm [(1,.is (.own 0 0)),(5,.is (.v (.string (if b+1<b+m then O1++oA else O1)))),(6,.is (.v (.bool want))),(7,.is (.v (.int .i64 (b:Nat)))),(8,.is (.v (.int .i64 ((m:Int)+1)))),(9,.is (.v (.int .u8 ((b+m:Nat):Int))))],aY [(0,.cells 241 ((gA S.getLsbD).map .v))]⟩ ?_ ?_
  ·skip;refine vR qw bn ?_;refine wC bn (λhc=>?_) (λhc=>?_)
   ·have h:b+1<b+m:=by simp at hc;omega
    rw[if_pos h];refine wr qw bn ?_ ?_
    ·show O1.size+1<=_;omega
    exact wM (λk=>.key k) bn
   ·have h:¬ b+1<b+m:=by simp at hc;omega
    rw[if_neg h];refine wK ?_;exact wM (λk=>.key k) bn
  have hO2:(if b+1<b+m then O1++oA else O1).size<=2401:=by
   split
   ·rw[ByteArray.size_append];show O1.size+1<=2401;omega
   ·omega
  generalize (if b+1<b+m then O1++oA else O1)=O2 at *;refine vR qw bn ?_;refine wC bn (λhc=>?_) (λhc=>?_)
  ·have h:b<b+m:=by simp at hc;omega
   rw[if_pos h]at e;subst e;refine wr qw bn ?_ ?_
   ·exact⟨⟨oM,oM⟩,⟨oM,oM⟩,oM⟩
   refine vr qw (aa bn wj) ?_;refine⟨b+1,oM,oM,?_⟩;rw[hO'];exact wM (λk=>.key k) bn
  ·have h:¬ b<b+m:=by simp at hc;omega
   rw[if_neg h]at e;subst e;refine wK ?_;refine vr qw (aa bn wj) ?_;refine⟨b+1,oM,oM,?_⟩;rw[hO'];exact wM (λk=>.key k) bn
 ·have hb' : b=256:=by
   simp at hc;omega
  subst hb';have hsz:=jE T pre 256;refine wE ?_;refine wR qw bn ?_ ?_
  ·show (dn T pre 256).size+1<=_;omega
  refine wZ bn ?_;exact λE=>rfl
noncomputable def pM:aM prog 156 where
 pre:=λW bs=>λ| [.val y0]=>(match dec mX y0 with|some S=>True|_=>False)|_=>False
 res:=λW=>λ| [.val y0]=>(match dec mX y0 with|some S=>.string (iB S)|_=>undef)|_=>undef
 enters:=call156
 ok:=by
  intro W w bs us as_ hk hu hp;split at hp
  ·rename_i y0;split at hp
   ·rename_i S h0
    match us,hu with
    |[u0],hu=>
     obtain⟨rfl,_⟩:=hu;obtain rfl:=gX h0
     try dsimp only
     try simp only[cN nC]
     exact Sy S w
   ·exact hp.elim
  ·exact hp.elim
theorem L6(W:World)(S:CS):pM.res W [.val (mX S)]=.string (iB S):=by simp only[pM,cN nC]
theorem KB(W:World)(bs:List Nat)(S:CS):pM.pre W bs [.val (mX S)]=(True):=by simp only[pM,cN nC]
theorem Xk(a b:Nat)(ha:a<2 ^ 64)(hb:b<2 ^ 64):cw .and .u64 (a:Int) (b:Int)=((a &&& b:Nat):Int):=by
 have h:=Xm (BitVec.ofNat 64 a) (BitVec.ofNat 64 b);rw[BitVec.toNat_and,BitVec.toNat_ofNat,BitVec.toNat_ofNat,Nat.mod_eq_of_lt ha,Nat.mod_eq_of_lt hb]at h;exact h
theorem rU(a:Nat)(ha:a<2 ^ 64):IntKind.u64.wrap (a:Int)=(a:Int):=by
 have h:=tT (BitVec.ofNat 64 a);rw[BitVec.toNat_ofNat,Nat.mod_eq_of_lt ha]at h;exact h
theorem Qk(a n:Nat):(a:Int).fdiv (n:Int)=((a / n:Nat):Int):=by
 rw[Int.fdiv_eq_ediv_of_nonneg _ (Int.natCast_nonneg _)];rfl
theorem agR(x:Nat)(hx:x<2 ^ 64):IntKind.u64.wrap (cw .and .u64 ((x:Int).fdiv 2) 6148914691236517205+cw .and .u64 (x:Int) 6148914691236517205)=((f0 32 x:Nat):Int)/\f0 32 x<2 ^ 64:=by
 have hm:M0 32=6148914691236517205:=by decide
 have h1:=Nat.and_le_right (n:=x / 2) (m:=6148914691236517205);have h2:=Nat.and_le_right (n:=x) (m:=6148914691236517205);have hf:f0 32 x=(x / 2 &&& 6148914691236517205)+(x &&& 6148914691236517205):=by rw[f0,hm]
 have hl:f0 32 x<2 ^ 64:=oM;refine⟨?_,hl⟩;have e1:(x:Int).fdiv 2=((x / 2:Nat):Int):=Qk x 2;have e2:=Xk (x / 2) 6148914691236517205 oM oM;have e3:=Xk x 6148914691236517205 oM oM;rw[e1,show (6148914691236517205:Int)=((6148914691236517205:Nat):Int) from rfl,e2,e3,<- Int.natCast_add,<- hf,rU _ hl]
theorem afX(x:Nat)(hx:x<2 ^ 64):IntKind.u64.wrap (cw .and .u64 ((x:Int).fdiv 4) 3689348814741910323+cw .and .u64 (x:Int) 3689348814741910323)=((f1 16 x:Nat):Int)/\f1 16 x<=7378697629483820646:=by
 have hm:M1 16=3689348814741910323:=by decide
 have h1:=Nat.and_le_right (n:=x / 4) (m:=3689348814741910323);have h2:=Nat.and_le_right (n:=x) (m:=3689348814741910323);have hf:f1 16 x=(x / 4 &&& 3689348814741910323)+(x &&& 3689348814741910323):=by rw[f1,hm]
 have hl:f1 16 x<=7378697629483820646:=oM;refine⟨?_,hl⟩;have e1:(x:Int).fdiv 4=((x / 4:Nat):Int):=Qk x 4;have e2:=Xk (x / 4) 3689348814741910323 oM oM;have e3:=Xk x 3689348814741910323 oM oM
 rw[e1,show (3689348814741910323:Int)=((3689348814741910323:Nat):Int) from rfl,e2,e3,<- Int.natCast_add,<- hf,rU _ oM]
theorem acp(x:Nat)(hx:x<=7378697629483820646):cw .and .u64 (IntKind.u64.wrap ((x:Int).fdiv 16+(x:Int))) 1085102592571150095=((f2 8 x:Nat):Int):=by
 have hm:M2 8=1085102592571150095:=by decide
 have e1:(x:Int).fdiv 16=((x / 16:Nat):Int):=Qk x 16;rw[e1,<- Int.natCast_add,rU _ oM,show (1085102592571150095:Int)=((1085102592571150095:Nat):Int) from rfl,Xk _ _ oM oM,f2,hm]
theorem Ga(x n:Nat)(h:x+x / n<2 ^ 64):IntKind.u64.wrap ((x:Int)+(x:Int).fdiv (n:Int))=((x+x / n:Nat):Int):=by
 rw[Qk,<- Int.natCast_add,rU _ h]
theorem acA(x:Nat)(hx:x<2 ^ 63):cw .and .i64 (IntKind.i64.wrap (x:Int)) 127=((x % 128:Nat):Int):=by
 rw[ae oM oM];show IntKind.i64.wrap (((BitVec.ofInt 64 (x:Int) &&& BitVec.ofInt 64 127:BitVec 64).toNat:Nat):Int)=_;have h1:(BitVec.ofInt 64 (x:Int)).toNat=x:=by
  rw[BitVec.toNat_ofInt];omega
 have h2:(BitVec.ofInt 64 127).toNat=127:=rfl;have h3:x &&& 127=x % 128:=Nat.and_two_pow_sub_one_eq_mod x 7;rw[BitVec.toNat_and,h1,h2,h3,ae oM oM]
def Cb:=(aj @List.replicate_succ.{0} @List.replicate_zero.{0} @an @ab jo jl gS (aj ca cc b9 cg cf cj cd (aj ck fu fE fj fz fw pF (aj o6 px oZ w9 xp xm vS (eT @aG @al @ay @ax)))))
theorem ZF(x:Nat)(hx:x<2 ^ 64)(w:World):Calls prog 253 #[.int .u64 (x:Nat)] w λe w' => e=.returned (.int .i64 (fD x 64:Nat))/\ah w [] w' := by
 obtain⟨r1,l1⟩:=agR x hx;obtain⟨r2,l2⟩:=afX (f0 32 x) l1;have r3:=acp _ l2;have hst:=(Dp 8 x).1;obtain⟨y,hy,b1,b2,b3,hp⟩:=XY x;have r4:=Ga y 256 b1;have r5:=Ga _ 65536 b2;have r6:=Ga (y+y / 256+(y+y / 256) / 65536) 4294967296 oM;have r7:=acA _ b3
 have r3' : cw .and .u64 (IntKind.u64.wrap (((f1 16 (f0 32 x):Nat):Int).fdiv 16+((f1 16 (f0 32 x):Nat):Int))) 1085102592571150095=((y:Nat):Int):=by rw[r3,hy,<- hst]
 rw[<- hp];refine af (nt:=35) [.tmp 2] func253 rfl rfl rfl ?_;refine vR Γ0 Cb ?_;refine vR Γ0 (aa Cb r1) ?_;refine vR Γ0 (aa Cb r2) ?_;refine vR Γ0 (aa Cb r3') ?_;refine vR Γ0 Cb ?_;refine vR Γ0 Cb ?_;refine vR Γ0 Cb ?_;refine vR Γ0 Cb ?_;refine wZ Cb ?_;intro E;show Value.int IntKind.i64 _=_
 congr 1
 refine Eq.trans ?_ r7
 congr 2
 refine Eq.trans ?_ r6;have e5:IntKind.u64.wrap (((y+y / 256:Nat):Int)+((y+y / 256:Nat):Int).fdiv 65536)=((y+y / 256+(y+y / 256) / 65536:Nat):Int):=r5;have e4:IntKind.u64.wrap ((y:Int)+(y:Int).fdiv 256)=((y+y / 256:Nat):Int):=r4;rw[e4,e5];rfl
def Oi:aM prog 253 where
 pre:=λW bs=>λ| [.val (.int .u64 x)]=>0<=x/\x<18446744073709551616|_=>False
 res:=λW=>λ| [.val (.int .u64 x)]=>.int .i64 (fD x.toNat 64:Nat)|_=>undef
 enters:=call253
 ok:=by
  intro W w bs us as_ hk hu hp;split at hp
  ·rename_i x
   match us,hu with
   |[u0],hu=>
    obtain⟨rfl,_⟩:=hu;have:=ZF x.toNat oM w;rw[Int.toNat_of_nonneg hp.1]at this;exact this
  ·exact hp.elim
theorem Ta(W:World)(x:Int):Oi.res W [.val (.int .u64 x)]=.int .i64 (fD x.toNat 64:Nat):=rfl
theorem TE(W:World)(bs:List Nat)(x:Int):Oi.pre W bs [.val (.int .u64 x)]=(0<=x/\x<18446744073709551616):=rfl
noncomputable def Γ77:Env prog:=⟨λ| 253=>some Oi.spec|_=>none,λ| _=>none,λ_ _=>none⟩
theorem ady:Γ77.sp 253=some Oi.spec:=rfl
attribute [local simp] aA
def vh:=(aj Cb Ta TE ady @jC @np @nG (aa @ll @qX))
theorem Mq(S:CS)(w:World):Calls prog 221 #[cC S] w λe w' => e=.returned (.int .i64 (kb S:Nat))/\ah w [] w' := by
 refine af (nt:=16) [.tmp 2] func221 rfl rfl rfl ?_;refine vR Γ77 (aa vh @e8) ?_;refine vR Γ77 vh ?_;refine Wp.seq ?_;refine vR Γ77 vh ?_;refine Wp.block ?_
 refine Wp.loop (λk:Nat=>⟨20,bm [(3,.is (.v (.int .i64 (lN S (64*k):Nat)))),(6,.is (.agg ((l7 S).map .v))),(7,.is (.v (.int .i64 (k:Nat))))],aY []⟩) (λk=>k<=4) (λk=>4-k) 0 ?_ (Nat.zero_le _) ?_
 ·exact wM (λk=>.key k) vh
 rintro k hk;have hle:=D1 S (64*k);have hle2:=D1 S (64*(k+1));refine vR Γ77 vh ?_;refine Wp.seq ?_;refine wC vh (λhc=>?_) (λhc=>?_)
 ·have hlt:k<4:=by
   simp at hc;omega
  have hw:=Ik S k 64 (Nat.le_refl _);have hx:=akM S k;have hx0:0<=wd S k:=by rw[wd];omega
  have wk:IntKind.i64.wrap ((k:Int)+1)=((k+1:Nat):Int):=wW;have e:lN S (64*(k+1))=lN S (64*k)+fD (wd S k).toNat 64:=hw;have wc:IntKind.i64.wrap ((lN S (64*k):Int)+((fD (wd S k).toNat 64:Nat):Int))=((lN S (64*(k+1)):Nat):Int):=by rw[ae oM oM,e];omega
  refine wK ?_;refine Wp.seq (Wp.block ?_);refine wR Γ77 (aa vh (iH S k hlt)) ?_ ?_
  ·omega
  refine wr Γ77 (aa vh wc) ?_ ?_
  ·omega
  refine vr Γ77 (aa vh wk) ?_;refine⟨k+1,oM,oM,?_⟩;exact wM (λk=>.key k) vh
 ·have hk' : k=4:=by
   simp at hc;omega
  subst hk';refine wE ?_;refine vR Γ77 vh ?_;refine wZ vh ?_;exact λE=>rfl
noncomputable def qZ:aM prog 221 where
 pre:=λW bs=>λ| [.val y0]=>(match dec cC y0 with|some S=>True|_=>False)|_=>False
 res:=λW=>λ| [.val y0]=>(match dec cC y0 with|some S=>.int .i64 (kb S:Nat)|_=>undef)|_=>undef
 enters:=call221
 ok:=by
  intro W w bs us as_ hk hu hp;split at hp
  ·rename_i y0;split at hp
   ·rename_i S h0
    match us,hu with
    |[u0],hu=>
     obtain⟨rfl,_⟩:=hu;obtain rfl:=gX h0
     try dsimp only
     try simp only[cN cL]
     exact Mq S w
   ·exact hp.elim
  ·exact hp.elim
theorem vV(W:World)(S:CS):qZ.res W [.val (cC S)]=.int .i64 (kb S:Nat):=by simp only[qZ,cN cL]
theorem wY(W:World)(bs:List Nat)(S:CS):qZ.pre W bs [.val (cC S)]=(True):=by simp only[qZ,cN cL]
noncomputable def vQ:aM prog 225 where
 pre:=λW bs=>λ| [.val y0,.val (.int .u8 b)]=>(match dec cC y0 with|some S=>0<=b/\b<256|_=>False)|_=>False
 res:=λW=>λ| [.val y0,.val (.int .u8 b)]=>(match dec cC y0 with|some S=>.bool (S.getLsbD b.toNat)|_=>undef)|_=>undef
 enters:=call225
 ok:=by
  intro W w bs us as_ hk hu hp;split at hp
  ·rename_i y0 b;split at hp
   ·rename_i S h0
    match us,hu with
    |[u0,u1],hu=>
     obtain⟨rfl,rfl,_⟩:=hu;obtain rfl:=gX h0
     try dsimp only
     try simp only[cN cL]
     have:=adA S b.toNat oM w;rw[Int.toNat_of_nonneg hp.1]at this;exact this
   ·exact hp.elim
  ·exact hp.elim
theorem Cp(W:World)(S:CS)(b:Int):vQ.res W [.val (cC S),.val (.int .u8 b)]=.bool (S.getLsbD b.toNat):=by simp only[vQ,cN cL]
theorem C2(W:World)(bs:List Nat)(S:CS)(b:Int):vQ.pre W bs [.val (cC S),.val (.int .u8 b)]=(0<=b/\b<256):=by simp only[vQ,cN cL]
noncomputable def Γ78:Env prog:=⟨λ| 225=>some vQ.spec|_=>none,λ| _=>none,λ_ _=>none⟩
theorem afi:Γ78.sp 225=some vQ.spec:=rfl
def A4:=(mh vh @vV @wY @Cp @C2 afi)
theorem SO(S:CS)(hS:∃ b<256,S.getLsbD b=true)(w:World):Calls prog 222 #[cC S,.int .i64 0] w λe w' => e=.returned (.tuple #[.int .u8 (AN S:Nat),.bool true])/\ah w [] w' := by
 refine af (nt:=19) [.tmp 4,.tmp 5] func222 rfl rfl rfl ?_;refine vR Γ78 (aa A4 @e8) ?_;refine Wp.seq ?_;refine vR Γ78 A4 ?_;refine Wp.block ?_
 refine Wp.loop (λj:Nat=>⟨20,bm [(2,.is (.own 0 0)),(6,.is (.v (.int .i64 (j:Nat))))],aY [(0,.cells 309 ((l7 S).map .v))]⟩) (λj=>j<=256/\∀ k<j,S.getLsbD k=false) (λj=>256-j) 0 ?_ ⟨Nat.zero_le _,λk h=>by omega⟩ ?_
 ·exact wM (λk=>.key k) A4
 rintro j ⟨hj,hn⟩;refine Wp.seq ?_;refine vR Γ78 A4 ?_;refine wC A4 (λhc=>?_) (λhc=>?_)
 ·have hlt:j<256:=by
   simp at hc;omega
  have wj:IntKind.i64.wrap ((j:Int)+1)=((j+1:Nat):Int):=wW;have wu:IntKind.u8.wrap (j:Int)=(j:Int):=eS oM oM;refine wK ?_;refine Wp.seq (Wp.block ?_);refine wR Γ78 (bQ A4 wu @dX) ?_ ?_
  ·omega
  refine wC A4 (λhc=>?_) (λhc=>?_)
  ·rw[Ox S j hlt hn hc];refine vR Γ78 (aa A4 wu) ?_;refine wZ A4 ?_;exact λE=>rfl
  ·refine wK ?_;refine vr Γ78 (aa A4 wj) ?_;refine⟨j+1,⟨oM,λk hk=>?_⟩,oM,?_⟩
   ·by_cases h:k=j
    ·rw[h];exact hc
    ·exact hn k oM
   ·exact wM (λk=>.key k) A4
 ·exfalso;have hj' : j=256:=by
   simp at hc;omega
  subst hj';obtain⟨b,h1,h2⟩:=hS;rw[hn b h1]at h2;cases h2
theorem XD(S:CS)(h:kb S=1):∃ b<256,S.getLsbD b=true:=by
 refine Classical.byContradiction λhn=>?_
 have:=CW S 256 λj hj=>by
  cases hb:S.getLsbD j with
  |false=>rfl
  |true=>exact absurd ⟨j,hj,hb⟩ hn
 rw[kb]at h;omega
noncomputable def uU:aM prog 222 where
 pre:=λW bs=>λ| [.val y0,.val (.int .i64 x)]=>(match dec cC y0 with|some S=>x=0/\∃ b<256,S.getLsbD b=true|_=>False)|_=>False
 res:=λW=>λ| [.val y0,.val (.int .i64 x)]=>(match dec cC y0 with|some S=>.tuple #[.int .u8 (AN S:Nat),.bool true]|_=>undef)|_=>undef
 enters:=call222
 ok:=by
  intro W w bs us as_ hk hu hp;split at hp
  ·rename_i y0 x;split at hp
   ·rename_i S h0
    match us,hu with
    |[u0,u1],hu=>
     obtain⟨rfl,rfl,_⟩:=hu;obtain rfl:=gX h0
     try dsimp only
     try simp only[cN cL]
     obtain⟨rfl,hS⟩:=hp;exact SO S hS w
   ·exact hp.elim
  ·exact hp.elim
theorem Mz(W:World)(S:CS)(x:Int):uU.res W [.val (cC S),.val (.int .i64 x)]=.tuple #[.int .u8 (AN S:Nat),.bool true]:=by simp only[uU,cN cL]
theorem LR(W:World)(bs:List Nat)(S:CS)(x:Int):uU.pre W bs [.val (cC S),.val (.int .i64 x)]=(x=0/\∃ b<256,S.getLsbD b=true):=by simp only[uU,cN cL]
def fZ(n:Int):ByteArray:=⟨(Lib.itoa n).toArray⟩
theorem tp(n:Nat):fZ n=⟨(Lib.decDigits n).toArray⟩:=by
 unfold fZ Lib.itoa;rw[if_neg oM,Int.toNat_natCast]
theorem AL:∀ (k u:Nat),u<10 ^ (k+1)->Lib.nDigits u<=k+1
 |0,u,h=>by rw[Lib.nDigits_small oM];omega
 | k+1,u,h=>by
  by_cases h1:u<10
  ·rw[Lib.nDigits_small h1];omega
  ·rw[Lib.nDigits_big h1];have:=AL k (u / 10) (by rw[Nat.pow_succ]at h;omega);omega
theorem eK{n:Int}(h0:0<=n)(h1:n<=9223372036854775807):(fZ n).size<=19:=by
 obtain⟨m,rfl⟩:=Int.eq_ofNat_of_zero_le h0;rw[tp];show (Lib.decDigits m).length<=19;rw[Lib.decDigits_length];exact AL 18 m oM
def fC(W:World)(S:Nat->Prop):Prop:=S 3/\Lib.TabIs prog W "internal/strconv.uint64pow10" .u64 Lib.pow10Tab
theorem Yj:prog.globalNamed "internal/strconv.uint64pow10"=some 3:=kR
theorem fC.mono{W W' : World}{S S' : Nat->Prop}(h:fC W S)(hs:cT W S W' S'):fC W' S' := by
 obtain⟨h0,h1⟩:=h;unfold Lib.TabIs World.var? at h1;rw[Yj,Option.bind_some]at h1;have hlt:3<W.heap.size:=by
  refine Decidable.byContradiction λhn=>?_
  rw[Array.getElem?_eq_none oM]at h1;cases h1
 obtain⟨g1,g2⟩:=hs 3 hlt h0;refine⟨g2,?_⟩;unfold Lib.TabIs World.var?;rw[Yj,Option.bind_some,g1];exact h1
theorem fC.dW{W w:World}{bs fp:List Nat}(h:fC W (Out bs))(hk:ah W bs w)(hm:∀ b∈fp,W.heap.size<=b\/b∈bs):fC w (Out fp):=
 h.mono λb hb hs=>⟨hk.block b hb hs,λhb' => (hm b hb').elim (λg=>absurd g (Nat.not_le.2 hb)) hs⟩
theorem Wh(n:Int)(h0:0<=n)(h1:n<=9223372036854775807)(w:World)(ht:fC w (Out [])):Calls prog 39 #[.int .i64 n] w λe w' => e=.returned (.string (fZ n))/\LE.ah w [] w' := by
 refine (Any.strconv_Itoa Tryz.P9 n oM h1 w ht.2).mono ?_;rintro e w' ⟨rfl,k,os,rfl⟩;exact⟨rfl,LE.ah.lL (Lib.below_grow _ w (Nat.le_refl _) k os)⟩
def w8:aM prog 39 where
 pre:=λW bs=>λ| [.val (.int .i64 n)]=>(0<=n/\n<=9223372036854775807)/\fC W (Out bs)|_=>False
 res:=λW=>λ| [.val (.int .i64 n)]=>.string (fZ n)|_=>undef
 enters:=call39
 ok:=by
  intro W w bs us as_ hk hu hp;split at hp
  ·rename_i n
   match us,hu with
   |[u0],hu=>
    obtain⟨rfl,_⟩:=hu;exact Wh n hp.1.1 hp.1.2 w (hp.2.dW hk sI)
  ·exact hp.elim
theorem qV(W:World)(n:Int):w8.res W [.val (.int .i64 n)]=.string (fZ n):=rfl
theorem qB(W:World)(bs:List Nat)(n:Int):w8.pre W bs [.val (.int .i64 n)]=((0<=n/\n<=9223372036854775807)/\fC W (Out bs)):=rfl
theorem ZJ{u:Nat}(h:u<=9223372036854775807):((u:Nat):Int).tmod 10=((u % 10:Nat):Int)/\IntKind.u64.wrap (((u:Nat):Int).tdiv 10)=((u / 10:Nat):Int) /\
  IntKind.u64.wrap (48+((u % 10:Nat):Int))=((48+u % 10:Nat):Int)/\IntKind.u8.wrap ((48+u % 10:Nat):Int)=((48+u % 10:Nat):Int):=by
 refine⟨(Int.ofNat_tmod u 10).symm,?_,?_,?_⟩
 ·rw[show ((u:Nat):Int).tdiv 10=((u / 10:Nat):Int) from (Int.ofNat_tdiv u 10).symm];exact rU _ oM
 ·exact rU (48+u % 10) oM
 ·exact eS oM oM
theorem Ad{u:Nat}(h:u<10):Lib.decDigits u=[UInt8.ofNat (48+u % 10)]:=by rw[Lib.decDigits_one h,Nat.mod_eq_of_lt h]
theorem sF{u:Nat}(h:¬ u<10):Lib.decDigits u=Lib.decDigits (u / 10)++[UInt8.ofNat (48+u % 10)]:=by
 rw[Lib.decDigits,dif_neg h]
theorem Jw(n:Nat):bK [((n:Nat):Int)]=⟨#[UInt8.ofNat n]⟩:=by simp[bK]
theorem agO(l:List UInt8)(c:UInt8)(o:ByteArray):(⟨(l++[c]).toArray⟩:ByteArray)++o=⟨l.toArray⟩++((⟨#[c]⟩:ByteArray)++o):=by
 apply ByteArray.ext;simp[ByteArray.data_append]
def tW:=(aj @List.replicate_succ.{0} @List.replicate_zero.{0} @an @ab BH BJ BG (aj gS ca cc b9 cg cf cj (aj cd ck fu fE fj fz fw (aj dc dh cZ db c8 dd xj (aj wP wB v8 pF o6 px oZ (mh @aG @al @ay @ax @qV @qB))))))
theorem YW(n:Nat)(hn:(n:Int)<=9223372036854775807)(w:World):Calls prog 62 #[.int .i64 (n:Nat)] w λe w' => e=.returned (.string (fZ (n:Nat)))/\LE.ah w [] w' := by
 refine af (nt:=28) [.tmp 2] func62 rfl rfl rfl ?_;have hw:=rU n oM;refine vR Γ0 tW ?_;refine vR Γ0 (aa tW hw) ?_;refine vR Γ0 tW ?_;refine Wp.seq ?_;refine vR Γ0 tW ?_;refine wC tW (λhc=>?_) (λhc=>?_)
 ·exact absurd hc sI
 refine wK ?_;refine vR Γ0 tW ?_;refine Wp.block ?_
 refine Wp.loop (λp:Nat×ByteArray=>⟨20,bm [(3,.is (.v (.int .u64 (p.1:Nat)))),(4,.is (.v (.string ⟨#[]⟩))),(5,.is (.v (.string p.2)))],aY []⟩) (λp=>p.1<=n/\p.2.size<=19/\fZ n=(⟨(Lib.decDigits p.1).toArray⟩:ByteArray)++p.2) (λp=>p.1) (n,⟨#[]⟩) ?_ ⟨Nat.le_refl _,by simp[ByteArray.size],by rw[tp];apply ByteArray.ext;simp⟩ ?_
 ·exact wM (λk=>.key k) tW
 rintro⟨u,o⟩ ⟨h1,h2,h3⟩;dsimp only at h1 h2 h3 ⊢;obtain⟨f1,f2,f3,f4⟩:=ZJ (u:=u) oM;refine Wp.block ?_;refine wR Γ0 (eT tW f1 f3 f4) ?_ ?_
 ·exact⟨dE,by rw[aU];simp only[List.length_cons,List.length_nil];omega⟩
 refine vR Γ0 (aa tW f2) ?_;refine vR Γ0 tW ?_;refine wC tW (λhc=>?_) (λhc=>?_)
 ·have hu:u<10:=by simp at hc;omega
  rw[Ad hu]at h3;have h4:bK [((48+u % 10:Nat):Int)]++o=fZ n:=by rw[h3,Jw]
  have e0:(⟨#[]⟩:ByteArray)++fZ n=fZ n:=by apply ByteArray.ext;simp
  refine wR Γ0 (bQ tW h4 e0) ?_ ?_
  ·have:=eK (n:=n) oM hn;have e1:(⟨#[]⟩:ByteArray).size=0:=rfl;rw[e1];omega
  refine wZ tW ?_;exact λE=>rfl
 ·have hu:¬ u<10:=by simp at hc;omega
  refine wK ?_;refine⟨(u / 10,bK [((48+u % 10:Nat):Int)]++o),⟨by dsimp only;omega,?_,?_⟩,by dsimp only;omega,?_⟩
  ·have h4:=congrArg ByteArray.size h3;have h5:=eK (n:=n) oM hn;rw[h4,sF hu,ByteArray.size_append]at h5;have h6:(⟨(Lib.decDigits (u / 10)++[UInt8.ofNat (48+u % 10)]).toArray⟩:ByteArray).size=(Lib.decDigits (u / 10)).length+1:=by
    show (Lib.decDigits (u / 10)++[UInt8.ofNat (48+u % 10)]).length=_;rw[List.length_append];rfl
   rw[h6]at h5;rw[ByteArray.size_append,aU];simp only[List.length_cons,List.length_nil];omega
  ·rw[h3,sF hu,agO,Jw]
  ·exact wM (λk=>.key k) tW
def OV:aM prog 62 where
 pre:=λW bs=>λ| [.val (.int .i64 n)]=>(0<=n/\n<=9223372036854775807)|_=>False
 res:=λW=>λ| [.val (.int .i64 n)]=>.string (fZ n)|_=>undef
 enters:=call62
 ok:=by
  intro W w bs us as_ hk hu hp;split at hp
  ·rename_i n
   match us,hu with
   |[u0],hu=>
    obtain⟨rfl,_⟩:=hu;obtain⟨m,rfl⟩:=Int.eq_ofNat_of_zero_le hp.1;exact YW m hp.2 w
  ·exact hp.elim
theorem TW(W:World)(n:Int):OV.res W [.val (.int .i64 n)]=.string (fZ n):=rfl
theorem Ut(W:World)(bs:List Nat)(n:Int):OV.pre W bs [.val (.int .i64 n)]=((0<=n/\n<=9223372036854775807)):=rfl
def eu(s p:ByteArray):ByteArray:=⟨(Lib.trimPrefix s.data.toList p.data.toList).toArray⟩
def oP(s p:ByteArray):Bool:=Lib.hasPrefix s.data.toList p.data.toList
def p8(s p:ByteArray):ByteArray:=⟨(Lib.trimSuffix s.data.toList p.data.toList).toArray⟩
def Be(s p:ByteArray):Bool:=Lib.hasSuffix s.data.toList p.data.toList
theorem VO(s p:ByteArray)(w:World):Calls prog 80 #[.string s,.string p] w λe w' => e=.returned (.tuple #[.string (eu s p),.bool (oP s p)])/\LE.ah w [] w' :=
 (Any.strings_CutPrefix Tryz.acW s p w).mono λe w' ⟨he,hw⟩=>⟨he,by rw[hw];exact LE.ah.refl w []⟩
theorem YY(s p:ByteArray)(hs:s.size<=9223372036854775807)(w:World):Calls prog 81 #[.string s,.string p] w λe w' => e=.returned (.tuple #[.string (p8 s p),.bool (Be s p)])/\LE.ah w [] w' :=
 (Any.strings_CutSuffix Tryz.afh s p w hs).mono λe w' ⟨he,hw⟩=>⟨he,by rw[hw];exact LE.ah.refl w []⟩
def C3:aM prog 80 where
 pre:=λW bs=>λ| [.val (.string s),.val (.string p)]=>True|_=>False
 res:=λW=>λ| [.val (.string s),.val (.string p)]=>.tuple #[.string (eu s p),.bool (oP s p)]|_=>undef
 enters:=call80
 ok:=by
  intro W w bs us as_ hk hu hp;split at hp
  ·rename_i s p
   match us,hu with
   |[u0,u1],hu=>
    obtain⟨rfl,rfl,_⟩:=hu;exact VO s p w
  ·exact hp.elim
theorem Cq(W:World)(s p:ByteArray):C3.res W [.val (.string s),.val (.string p)]=.tuple #[.string (eu s p),.bool (oP s p)]:=rfl
theorem C8(W:World)(bs:List Nat)(s p:ByteArray):C3.pre W bs [.val (.string s),.val (.string p)]=(True):=rfl
def QI:aM prog 81 where
 pre:=λW bs=>λ| [.val (.string s),.val (.string p)]=>s.size<=9223372036854775807|_=>False
 res:=λW=>λ| [.val (.string s),.val (.string p)]=>.tuple #[.string (p8 s p),.bool (Be s p)]|_=>undef
 enters:=call81
 ok:=by
  intro W w bs us as_ hk hu hp;split at hp
  ·rename_i s p
   match us,hu with
   |[u0,u1],hu=>
    obtain⟨rfl,rfl,_⟩:=hu;exact YY s p hp w
  ·exact hp.elim
theorem Uj(W:World)(s p:ByteArray):QI.res W [.val (.string s),.val (.string p)]=.tuple #[.string (p8 s p),.bool (Be s p)]:=rfl
theorem UG(W:World)(bs:List Nat)(s p:ByteArray):QI.pre W bs [.val (.string s),.val (.string p)]=(s.size<=9223372036854775807):=rfl
def gM(W:World)(S:Nat->Prop):Prop:=(S 1/\∃ m:Int,W.cell? ⟨1,0,none⟩=some (.int .i64 m))/\(S 5/\∃ t v,W.cell? ⟨5,0,none⟩=some (.iface t v))/\S 6/\∃ t v,W.cell? ⟨6,0,none⟩=some (.iface t v)
theorem gM.mono{W W' : World}{S S' : Nat->Prop}(h:gM W S)(hs:cT W S W' S'):gM W' S' := by
 obtain⟨⟨a,m,ha⟩,⟨b,t,v,hb⟩,c,t',v',hc⟩:=h;have g:∀ b o v,S b->W.cell? ⟨b,o,none⟩=some v->W'.cell? ⟨b,o,none⟩=some v/\S' b:=λb o v hS hv=>by
  have:=XC.mono (b:=b) (o:=o) (v:=v) ⟨hS,hv⟩ hs;exact⟨this.2,this.1⟩
 exact⟨⟨(g _ _ _ a ha).2,m,(g _ _ _ a ha).1⟩,⟨(g _ _ _ b hb).2,t,v,(g _ _ _ b hb).1⟩,(g _ _ _ c hc).2,t',v',(g _ _ _ c hc).1⟩
theorem gM.dW{W w:World}{bs fp:List Nat}(h:gM W (Out bs))(hk:LE.ah W bs w)(hm:∀ b∈fp,W.heap.size<=b\/b∈bs):gM w (Out fp):=
 h.mono λb hb hs=>⟨hk.block b hb hs,λhb' => (hm b hb').elim (λg=>absurd g (Nat.not_le.2 hb)) hs⟩
def iq(s:ByteArray):List ByteArray:=Lib.splitB ⟨#[32]⟩ 0 (Lib.countB s ⟨#[32]⟩) s
theorem lW(s:ByteArray):(iq s).length=Lib.countB s ⟨#[32]⟩+1:=Lib.splitB_all ⟨#[32]⟩ dE 0 _ s rfl
theorem SF(s:ByteArray)(hs:s.size<4294967281)(w:World)(hl:gM w (Out [])):Calls prog 83 #[.string s,.string ⟨#[32]⟩] w λe w' =>
  ∃ u fp,e=.returned u/\(∀ E',a6 E' u fp w' (.row 9 1 (iq s).length ((((iq s).map Value.string)).map .v)))/\(∀ b∈fp,w.heap.size<=b/\b<w'.heap.size)/\LE.ah w [] w' := by
 obtain⟨m,hm⟩:=hl.1.2;refine (Any.strings_Split Tryz.OE (by kernel_rfl) s ⟨#[32]⟩ m w hs hm dE).mono λe w' ⟨he,hw⟩=>?_
 subst hw;refine⟨_,[w.heap.size],he,λE' => ?_,λb hb=>?_,ke w _⟩
 ·have hc:=Lib.countB_le ⟨#[32]⟩ dE s.size s (Nat.le_refl _);have hn:(iq s).length<=maxLen:=by
   rw[lW];unfold maxLen;omega
  have hd:au E' (List.map SV.v ((iq s).map Value.string))=(iq s).map Value.string:=aJ _ _;refine⟨?_,rfl⟩;rw[hd,<- lW];refine⟨sI,.inr ⟨w.heap.size,(iq s).length,((iq s).map Value.string).toArray,rfl,Nat.zero_le _,?_,Nat.le_refl _,hn,sI,by simp[List.take_of_length_le]⟩⟩;exact Array.getElem?_push_size
 ·rw[List.mem_singleton.1 hb];exact⟨Nat.le_refl _,sI⟩
def Fb(s:ByteArray):Int:=match Lib.atoiAll s.data.toList with
 |.ok v=>v
 |.range=>Lib.atoiSat s.data.toList
 |_=>0
theorem QX(n:Int)(h0:-9223372036854775808<=n)(h1:n<=9223372036854775807)(w:World)(ht:fC w (Out [])):Calls prog 39 #[.int .i64 n] w λe w' => e=.returned (.string (fZ n))/\LE.ah w [] w' := by
 refine (Any.strconv_Itoa Tryz.P9 n h0 h1 w ht.2).mono ?_;rintro e w' ⟨rfl,k,os,rfl⟩;exact⟨rfl,LE.ah.lL (Lib.below_grow _ w (Nat.le_refl _) k os)⟩
theorem aeO(s:ByteArray)(hs:s.size<=9223372036854775806)(v:Int)(h:Lib.atoiAll s.data.toList=.ok v)(w:World):Calls prog 143 #[.string s] w λe w' => e=.returned (.tuple #[.int .i64 v,.nilIface])/\LE.ah w [] w' := by
 refine (Any.strconv_Atoi_ok Tryz.At s hs v h w).mono ?_;rintro e w' ⟨rfl,hw⟩;refine⟨rfl,?_⟩;rcases hw with rfl|⟨t,rfl⟩
 ·exact LE.ah.refl _ _
 ·exact LE.ah.lL (Lib.bytesWorld_below _ _ _)
theorem YE(s:ByteArray)(hs:s.size<=281474976710656)(h:∀ v,Lib.atoiAll s.data.toList≠.ok v)(w:World)(hl:gM w (Out [])):Calls prog 143 #[.string s] w λe w' => (∃ N,e=.returned (.tuple #[.int .i64 (Fb s),.iface 341 (.pointer (some ⟨N,0,none⟩))]))/\LE.ah w [] w' := by
 obtain⟨_,⟨_,t5,v5,h5⟩,_,t6,v6,h6⟩:=hl;cases ha:Lib.atoiAll s.data.toList with
 |ok v=>exact absurd ha (h v)
 |range=>
  refine (Any.strconv_Atoi_range Tryz.At s hs ha _ w h6 (.inr ⟨_,_,rfl⟩)).mono ?_;rintro e w' ⟨N,rfl,_,_,hb⟩;exact⟨⟨N,by unfold Fb;rw[ha];rfl⟩,LE.ah.lL hb⟩
 |_=>
  refine (Any.strconv_Atoi_syntax Tryz.At s hs ha _ w h5 (.inr ⟨_,_,rfl⟩)).mono ?_;rintro e w' ⟨N,rfl,_,_,hb⟩;exact⟨⟨N,by unfold Fb;rw[ha];rfl⟩,LE.ah.lL hb⟩
def aam(c:Int):Int:=bits .or .u8 c 32
def A2(c:Nat):Option Nat:=if 48<=c/\c<=57 then some (c-48) else if 97<=aam c/\aam c<=102 then some (aam c-87).toNat else none
def kS:Nat->List UInt8->Option Nat
 |acc,[]=>some acc
 |acc,c::r=>match A2 c.toNat with
  |none=>none
  |some d=>kS (acc*16+d) r
def akr:Option Nat->Value
 |some v=>.tuple #[.int .u64 (v:Nat),.nilIface]
 |none=>.tuple #[.int .u64 0,.iface 339 (.int .i64 2)]
set_option maxRecDepth 100000 in
theorem KF(t:ByteArray)(hne:t.size≠0)(h2:t.size<=2)(w:World) :
  Calls prog 192 #[.string t,.int .i64 16,.int .i64 8] w λe w' => e=.returned (akr (kS 0 t.data.toList))/\w' = Lib.bytesWorld w 5 t:=by
 have hemp:t.toList.isEmpty=false:=by
  rw[<- decide_eq_emptyBytes];exact decide_eq_false (λh=>hne (by rw[h];rfl))
 have hcv:=Lib.run_convert_string_bytes (P:=prog) w 9 89 5 t (u:=.string) Tryz.underlying9 Tryz.underlying89 Tryz.underlying5;have hB:∀ j,j<t.size->(Lib.bytesWorld w 5 t).cell? ⟨w.heap.size,j,none⟩=some (.int .u8 (t.data.toList.getD j 0).toNat):=λj hj=>Lib.bytesWorld_cell w 5 t j hj
 obtain⟨W1,hW1⟩:∃ W1,W1=Lib.bytesWorld w 5 t:=⟨_,rfl⟩;rw[<- hW1]at hcv hB ⊢;clear hW1;obtain⟨bs,hL⟩:∃ bs,bs=t.data.toList:=⟨_,rfl⟩;have hLn:bs.length=t.size:=by rw[hL,Lib.size_eq]
 rw[<- hL]at hB ⊢;clear hL;have hmv:IntKind.u64.wrap (IntKind.u64.wrap 256-1)=255:=by
  rw[IntKind.wrap_u64,IntKind.wrap_u64];decide
 go_enter func192,Tryz.ntmps192
 go_wp2
 go_loop [12,13,101] (λvu vn vi=>∃ (k acc:Nat) (a:Int),vu=.bool false/\vn=.int .u64 a/\vi=.int .i64 k/\k<=t.size/\Hid (a=(acc:Int)/\((k=0->acc=0)/\(k<=1->acc<=15)/\acc<=255)/\kS 0 bs=kS acc (bs.drop k)))
  (λ_ _ vi=>t.size-(intOf vi).toNat)
 case atStart=>exact⟨0,0,0,rfl,rfl,rfl,oM,rfl,⟨λ_=>rfl,oM,oM⟩,rfl⟩
 case round=>
  obtain⟨k,acc,a,rfl,rfl,rfl,hk,hh⟩:=hrel;obtain⟨ha,⟨hacc0,hacc1,hacc⟩,hdec⟩:=hh.out;clear hh;have a0:0<=a:=oM;have a1:a<=255:=oM;by_cases hkn:k<t.size
  ·have hc:=hB k hkn;have hdrop:bs.drop k=bs[k]'oM::bs.drop (k+1):=List.drop_eq_getElem_cons oM;have hget:bs.getD k 0=bs[k]'oM:=by simp[List.getD,List.getElem?_eq_getElem (show k<bs.length by omega)]
   have a15:a<=15:=oM;rw[hdrop]at hdec;rw[hget]at hc;generalize bs[k]'oM=c at hc hdec;have hc256:c.toNat<256:=c.toNat_lt;clear hB hdrop hget;by_cases hdig:48<=c.toNat/\c.toNat<=57
   ·obtain⟨hd0,hd1⟩:=hdig;have hF:kS acc (c::bs.drop (k+1))=kS (acc*16+(c.toNat-48)) (bs.drop (k+1)):=by simp[kS,A2,hd0,hd1]
    have HN:Hid (a*16+((c.toNat:Int)-48)=((acc*16+(c.toNat-48):Nat):Int)/\((k+1=0->acc*16+(c.toNat-48)=0)/\(k+1<=1->acc*16+(c.toNat-48)<=15)/\acc*16+(c.toNat-48)<=255)/\kS 0 bs=kS (acc*16+(c.toNat-48)) (bs.drop (k+1))):=Lib.hid ⟨oM,⟨oM,oM,oM⟩,hdec.trans hF⟩;have iov:a*16+((c.toNat:Int)-48)<=255:=oM
    clear hacc0 hacc1 hacc hF hdec ha
    go_wp2
    refine⟨⟨k+1,acc*16+(c.toNat-48),a*16+((c.toNat:Int)-48),rfl,(by first|rfl|(congr 1;omega)),(by first|rfl|(congr 1;omega)),oM,HN⟩,by simp[intOf];omega⟩
   ·have hv0:=bits_lo_u8 .or (c.toNat:Int) 32;have hv1:=bits_hi_u8 .or (c.toNat:Int) 32;have hu0:=bits_lo_u8 .or 95 32;have hu1:=bits_hi_u8 .or 95 32;by_cases hlet:97<=bits .or .u8 (c.toNat:Int) 32/\bits .or .u8 (c.toNat:Int) 32<=102
    ·obtain⟨hl0,hl1⟩:=hlet;have hF:kS acc (c::bs.drop (k+1))=kS (acc*16+(bits .or .u8 (c.toNat:Int) 32-87).toNat) (bs.drop (k+1)):=by
      have e:A2 c.toNat=some (bits .or .u8 (c.toNat:Int) 32-87).toNat:=by
       unfold A2 aam;rw[if_neg hdig,if_pos ⟨hl0,hl1⟩]
      simp only[kS,e]
     obtain⟨d,hd⟩:∃ d,d=bits .or .u8 (c.toNat:Int) 32:=⟨_,rfl⟩;rw[<- hd]at hF hv0 hv1 hl0 hl1
     have HN:Hid (a*16+(d-97+10)=((acc*16+(d-87).toNat:Nat):Int)/\((k+1=0->acc*16+(d-87).toNat=0)/\(k+1<=1->acc*16+(d-87).toNat<=15)/\acc*16+(d-87).toNat<=255)/\kS 0 bs=kS (acc*16+(d-87).toNat) (bs.drop (k+1))):=Lib.hid ⟨oM,⟨oM,oM,oM⟩,hdec.trans hF⟩;have iov:a*16+(d-97+10)<=255:=oM
     have h95:c.toNat≠95:=λe=>by
      rw[e]at hd;have:bits .or .u8 ((95:Nat):Int) 32=127:=by decide +kernel
      omega
     clear hacc0 hacc1 hacc hF hdec ha;rw[hd]at hv0 hv1 hl0 hl1 iov;subst hd
     go_wp2
     all_goals refine⟨⟨k+1,acc*16+(bits .or .u8 (c.toNat:Int) 32-87).toNat,a*16+(bits .or .u8 (c.toNat:Int) 32-97+10),rfl,(by first|rfl|(congr 1;omega)),(by first|rfl|(congr 1;omega)),oM,HN⟩,by simp[intOf];omega⟩
    ·have hF:kS acc (c::bs.drop (k+1))=none:=by
      have e:A2 c.toNat=none:=by
       unfold A2 aam;rw[if_neg hdig,if_neg hlet]
      simp only[kS,e]
     rw[hF]at hdec;clear hacc0 hacc1 hacc hF ha
     go_wp2
     all_goals go_ret2
     all_goals first|exact⟨rfl,rfl⟩|exact⟨by rw[hdec];rfl,rfl⟩
  ·have hkk:k=t.size:=oM;subst hkk;have hF:kS acc (bs.drop t.size)=some acc:=by rw[List.drop_eq_nil_of_le oM];rfl
   rw[hF]at hdec;subst ha;clear hacc0 hacc1 hacc hF a0 a1
   go_wp2
   go_ret2
   first|exact⟨rfl,rfl⟩|exact⟨by rw[hdec];rfl,rfl⟩
def iD(s:ByteArray):Bool:=decide (s.size<=9)&&match Lib.atoiAll s.data.toList with
 |.ok v=>decide (fZ v=s)&&decide (0<=v)
 |_=>false
def rG(s:ByteArray):Int:=if s.size<=9 then Fb s else 0
def Gn:aM prog 39 where
 pre:=λW bs=>λ| [.val (.int .i64 n)]=>(-9223372036854775808<=n/\n<=9223372036854775807)/\fC W (Out bs)|_=>False
 res:=λW=>λ| [.val (.int .i64 n)]=>.string (fZ n)|_=>undef
 enters:=call39
 ok:=by
  intro W w bs us as_ hk hu hp;split at hp
  ·rename_i n
   match us,hu with
   |[u0],hu=>
    obtain⟨rfl,_⟩:=hu;exact QX n hp.1.1 hp.1.2 w (hp.2.dW hk sI)
  ·exact hp.elim
theorem Lt(W:World)(n:Int):Gn.res W [.val (.int .i64 n)]=.string (fZ n):=rfl
theorem LN(W:World)(bs:List Nat)(n:Int):Gn.pre W bs [.val (.int .i64 n)]=((-9223372036854775808<=n/\n<=9223372036854775807)/\fC W (Out bs)):=rfl
def Ej(s:ByteArray)(v:Int)(h:Lib.atoiAll s.data.toList=.ok v)(hs:s.size<=9):aM prog 143 where
 pre:=λW bs as_=>as_=[.val (.string s)]
 res:=λ_ _=>.tuple #[.int .i64 v,.nilIface]
 enters:=call143
 ok:=by
  intro W w bs us as_ hk hu hp;subst hp
  match us,hu with
  |[x],hu=>
   obtain⟨rfl,_⟩:=hu;exact aeO s oM v h w
section
variable (s:ByteArray)(v:Int)(h:Lib.atoiAll s.data.toList=.ok v)(hs:s.size<=9)
noncomputable def Tx:Env prog:=⟨λ| 39=>some Gn.spec|143=>some (Ej s v h hs).spec|_=>none,λ_=>none,λ_ _=>none⟩
theorem afl:(Tx s v h hs).sp 39=some Gn.spec:=rfl
theorem ZC:(Tx s v h hs).sp 143=some (Ej s v h hs).spec:=rfl
end
def zi:=(aj @List.replicate_succ.{0} @List.replicate_zero.{0} @an @ab gS ca cc (aj b9 cg cf cj cd ck dc (aj dh cZ db c8 dd V2 aaB (aj aaj aaD alT alK @aG @al @ay (mh @ax @Lt @LN @afl @ZC @Ej.eq_1)))))
theorem R0(s:ByteArray)(v:Int)(h:Lib.atoiAll s.data.toList=.ok v)(hs:s.size<=9)(hv:-9223372036854775808<=v/\v<=9223372036854775807)(w:World)(ht:fC w (Out [])):Calls prog 84 #[.string s] w λe w' => e=.returned (.tuple #[.int .i64 v,.bool (decide (fZ v=s)&&decide (0<=v))])/\LE.ah w [] w' := by
 refine af (nt:=27) [.tmp 2,.tmp 3] func84 rfl rfl rfl ?_;refine vR (Tx s v h hs) zi ?_;refine Wp.seq ?_;refine vR (Tx s v h hs) zi ?_;refine wC zi (λhc=>?_) (λhc=>?_)
 ·exact absurd hc (by simp;omega)
 refine wK ?_;refine vR (Tx s v h hs) zi ?_;refine vR (Tx s v h hs) zi ?_;refine wZ zi ?_;exact λE=>rfl
theorem K3(s:ByteArray)(hs:s.size<=9)(h:∀ v,Lib.atoiAll s.data.toList≠.ok v)(w:World)(hl:gM w (Out [])):Calls prog 84 #[.string s] w λe w' => e=.returned (.tuple #[.int .i64 (Fb s),.bool false])/\LE.ah w [] w' := by
 have hw:=YE s oM h w hl;have hlt:¬ (9:Int)<(s.size:Int):=oM
 go_enter func84,Tryz.ntmps84
 go_wp2_with (refine hw.mono ?_)
 rintro e w1 N rfl hk
 go_wp2
 all_goals go_returns
 all_goals trivial
theorem Ib(s:ByteArray)(hs:9<s.size)(hm:s.size<=9223372036854775807)(w:World):Calls prog 84 #[.string s] w λe w' => e=.returned (.tuple #[.int .i64 0,.bool false])/\LE.ah w [] w' := by
 refine af (nt:=27) [.tmp 2,.tmp 3] func84 rfl rfl rfl ?_;refine vR Γ0 zi ?_;refine Wp.seq ?_;refine vR Γ0 zi ?_;refine wC zi (λhc=>?_) (λhc=>?_)
 ·skip;refine vR Γ0 zi ?_;refine wZ zi ?_;exact λE=>rfl
 ·exact absurd hc (by simp;omega)
theorem ZO(s:ByteArray)(hm:s.size<=9223372036854775807)(w:World)(ht:fC w (Out []))(hl:gM w (Out [])):Calls prog 84 #[.string s] w λe w' => e=.returned (.tuple #[.int .i64 (rG s),.bool (iD s)])/\LE.ah w [] w' := by
 by_cases hs:s.size<=9
 ·have e1:rG s=Fb s:=by rw[rG,if_pos hs]
  rw[e1];cases ha:Lib.atoiAll s.data.toList with
  |ok v=>
   have e2:Fb s=v:=by rw[Fb,ha]
   have e3:iD s=(decide (fZ v=s)&&decide (0<=v)):=by rw[iD,ha,decide_eq_true hs,Bool.true_and]
   rw[e2,e3];exact R0 s v ha hs (Lib.atoiAll_bounds ha) w ht
  |_=>
   have e3:iD s=false:=by rw[iD,ha,Bool.and_false]
   rw[e3];exact K3 s hs (λv hv=>by rw[ha]at hv;cases hv) w hl
 ·have e1:rG s=0:=by rw[rG,if_neg hs]
  have e2:iD s=false:=by rw[iD,decide_eq_false hs,Bool.false_and]
  rw[e1,e2];exact Ib s oM hm w
def Cr:aM prog 84 where
 pre:=λW bs=>λ| [.val (.string s)]=>s.size<=9223372036854775807/\fC W (Out bs)/\gM W (Out bs)|_=>False
 res:=λW=>λ| [.val (.string s)]=>.tuple #[.int .i64 (rG s),.bool (iD s)]|_=>undef
 enters:=call84
 ok:=by
  intro W w bs us as_ hk hu hp;split at hp
  ·rename_i s
   match us,hu with
   |[u0],hu=>
    obtain⟨rfl,_⟩:=hu;exact ZO s hp.1 w (hp.2.1.dW hk sI) (hp.2.2.dW hk sI)
  ·exact hp.elim
theorem C0(W:World)(s:ByteArray):Cr.res W [.val (.string s)]=.tuple #[.int .i64 (rG s),.bool (iD s)]:=rfl
theorem Cx(W:World)(bs:List Nat)(s:ByteArray):Cr.pre W bs [.val (.string s)]=(s.size<=9223372036854775807/\fC W (Out bs)/\gM W (Out bs)):=rfl
def kI(s h:ByteArray):Bool:=decide (h.size<=s.size)&&decide (s.extract 0 h.size=h)
def uT:=(aj @List.replicate_succ.{0} @List.replicate_zero.{0} @an @ab gS ca cc (aj b9 cg cf cj cd ck fu (aj fE fj fz fw dc dh cZ (uv db c8 dd @aG @al @ay @ax))))
theorem Ks(s h:ByteArray)(w:World):Calls prog 43 #[.string s,.string h] w λe w' => e=.returned (.bool (kI s h))/\ah w [] w' := by
 refine af (nt:=18) [.tmp 4] func43 rfl rfl rfl ?_;refine vR Γ0 uT ?_;by_cases hl:h.size<=s.size
 ·have e1:decide ((h.size:Int)<=(s.size:Int))=true:=by simp;omega
  have e2:kI s h=decide (s.extract 0 h.size=h):=by rw[kI,decide_eq_true hl,Bool.true_and]
  rw[e2];refine wR Γ0 (aa uT e1) ?_ ?_
  ·omega
  refine wZ uT ?_;exact λE=>rfl
 ·have e1:decide ((h.size:Int)<=(s.size:Int))=false:=by simp;omega
  have e2:kI s h=false:=by rw[kI,decide_eq_false hl,Bool.false_and]
  rw[e2];refine wR Γ0 (aa uT e1) ?_ ?_
  ·exact λh=>by cases h
  refine wZ uT ?_;exact λE=>rfl
def oT(s:ByteArray):ByteArray:=if s.size<5 then ⟨#[]⟩ else s.extract 5 s.size
theorem Ur(s:ByteArray)(w:World):Calls prog 45 #[.string s] w λe w' => e=.returned (.string (oT s))/\ah w [] w' := by
 refine af (nt:=8) [.tmp 2] func45 rfl rfl rfl ?_;refine vR Γ0 uT ?_;refine Wp.seq ?_;refine vR Γ0 uT ?_;refine wC uT (λhc=>?_) (λhc=>?_)
 ·have h:s.size<5:=by simp at hc;omega
  rw[oT,if_pos h];refine vR Γ0 uT ?_;refine wZ uT ?_;exact λE=>rfl
 ·have h:¬ s.size<5:=by simp at hc;omega
  rw[oT,if_neg h];refine wK ?_;refine wR Γ0 uT ?_ ?_
  ·omega
  refine wZ uT ?_;exact λE=>rfl
def yu:aM prog 43 where
 pre:=λW bs=>λ| [.val (.string s),.val (.string h)]=>True|_=>False
 res:=λW=>λ| [.val (.string s),.val (.string h)]=>.bool (kI s h)|_=>undef
 enters:=call43
 ok:=by
  intro W w bs us as_ hk hu hp;split at hp
  ·rename_i s h
   match us,hu with
   |[u0,u1],hu=>
    obtain⟨rfl,rfl,_⟩:=hu;exact Ks s h w
  ·exact hp.elim
theorem w5(W:World)(s h:ByteArray):yu.res W [.val (.string s),.val (.string h)]=.bool (kI s h):=rfl
theorem wH(W:World)(bs:List Nat)(s h:ByteArray):yu.pre W bs [.val (.string s),.val (.string h)]=(True):=rfl
def E9:aM prog 45 where
 pre:=λW bs=>λ| [.val (.string s)]=>True|_=>False
 res:=λW=>λ| [.val (.string s)]=>.string (oT s)|_=>undef
 enters:=call45
 ok:=by
  intro W w bs us as_ hk hu hp;split at hp
  ·rename_i s
   match us,hu with
   |[u0],hu=>
    obtain⟨rfl,_⟩:=hu;exact Ur s w
  ·exact hp.elim
theorem Ar(W:World)(s:ByteArray):E9.res W [.val (.string s)]=.string (oT s):=rfl
theorem As(W:World)(bs:List Nat)(s:ByteArray):E9.pre W bs [.val (.string s)]=(True):=rfl
def qe(s:ByteArray):Nat->Int
 |0=>0
 |k+1=>10*qe s k+(bt s k-48)
def J6(s:ByteArray)(k:Nat):Bool:=decide (48<=bt s k)&&decide (bt s k<=57)
def bT(s:ByteArray):Bool:=(decide (1<=s.size)&&decide (s.size<=9)&&!(decide (bt s 0=48)&&decide (1<s.size)))&&(List.range s.size).all (J6 s)
def iJ(s:ByteArray):Int:=if bT s=true then qe s s.size else 0
theorem Py{s:ByteArray}:∀ k,(∀ j<k,J6 s j=true)->0<=qe s k/\qe s k<10 ^ k
 |0,_=>⟨Int.le_refl _,by show (0:Int)<1;decide⟩
 |k+1,h=>by
  obtain⟨h1,h2⟩:=Py k λj hj=>h j oM
  have h3:=h k oM;simp only[J6,Bool.and_eq_true,decide_eq_true_eq]at h3;show 0<=10*qe s k+(bt s k-48)/\10*qe s k+(bt s k-48)<10 ^ (k+1);rw[Int.pow_succ];omega
theorem adL{s:ByteArray}:s.size=0 ↔ s=⟨#[]⟩:=by
 rcases s with ⟨⟨l⟩⟩;cases l<;>simp[ByteArray.size]
def nR:=(oy uT @w5 @wH @Ar @As)
theorem acI(s:ByteArray)(w:World):Calls prog 47 #[.string s] w λe w' => e=.returned (.tuple #[.int .i64 (iJ s),.bool (bT s)])/\ah w [] w' := by
 have hz:=adL (s:=s);have hno:bT s=false->iJ s=0:=λh=>by rw[iJ,if_neg (by rw[h];simp)]
 refine af (nt:=48) [.tmp 2,.tmp 3] func47 rfl rfl rfl ?_;refine vR Γ0 nR ?_;refine Wp.seq ?_;refine wR Γ0 nR ?_ ?_
 ·intro h;simp only[Bool.not_eq_true',Bool.or_eq_false_iff,decide_eq_false_iff_not]at h;have:¬ s.size=0:=λh0=>h.1 (hz.1 h0)
  omega
 refine wC nR (λhc=>?_) (λhc=>?_)
 ·have h:bT s=false:=by
   simp only[Bool.or_eq_true,Bool.and_eq_true,decide_eq_true_eq]at hc;simp only[bT,Bool.and_eq_false_iff,Bool.not_eq_false',Bool.and_eq_true,decide_eq_true_eq,decide_eq_false_iff_not];have hz' := hz.2;rcases hc with (hc|hc)|hc
   ·have:=hz' hc;omega
   ·omega
   ·exact .inl (.inr ⟨hc.1,oM⟩)
  rw[h,hno h];refine vR Γ0 nR ?_;refine wZ nR ?_;exact λE=>rfl
 have hh:1<=s.size/\s.size<=9/\¬ (bt s 0=48/\1<s.size):=by
  simp only[Bool.or_eq_false_iff,Bool.and_eq_false_iff,decide_eq_false_iff_not]at hc;have:¬ s.size=0:=λh0=>hc.1.1 (hz.1 h0)
  refine⟨oM,oM,λh=>?_⟩;rcases hc.2 with g|g
  ·exact g h.1
  ·omega
 obtain⟨g1,g2,g3⟩:=hh;have hall:bT s=(List.range s.size).all (J6 s):=by
  have e1:(decide (1<=s.size)&&decide (s.size<=9)&&!(decide (bt s 0=48)&&decide (1<s.size)))=true:=by
   rw[decide_eq_true g1,decide_eq_true g2];by_cases h0:bt s 0=48
   ·rw[decide_eq_false (show ¬ 1<s.size from λh=>g3 ⟨h0,h⟩)];simp
   ·rw[decide_eq_false h0];rfl
  rw[bT,e1,Bool.true_and]
 refine wK ?_;refine vR Γ0 nR ?_;refine Wp.seq ?_;refine vR Γ0 nR ?_;refine Wp.block ?_
 refine Wp.loop (λk:Nat=>⟨30,bm [(0,.is (.v (.string s))),(4,.is (.v (.int .i64 (qe s k)))),(5,.is (.v (.int .i64 (k:Nat))))],aY []⟩) (λk=>k<=s.size/\∀ j<k,J6 s j=true) (λk=>s.size-k) 0 ?_ ⟨Nat.zero_le _,λj hj=>by omega⟩ ?_
 ·exact wM (λk=>.key k) (bQ nR @qe.eq_1 @qe.eq_2)
 rintro k ⟨hk,hd⟩;refine Wp.seq ?_;refine vR Γ0 nR ?_;refine wC nR (λhc=>?_) (λhc=>?_)
 ·have hlt:k<s.size:=by
   simp at hc;omega
  have wk:IntKind.i64.wrap ((k:Int)+1)=((k+1:Nat):Int):=wW;obtain⟨b0,b1⟩:=jq s k;obtain⟨d0,d1⟩:=Py k hd;have d3:(10:Int) ^ k<=10 ^ 9:=by
   have h:=Nat.pow_le_pow_right (n:=10) dE (show k<=9 by omega)
   exact_mod_cast h
  have d2:qe s k<10 ^ 9:=Int.lt_of_lt_of_le d1 d3;refine wK ?_;refine Wp.seq (Wp.block ?_);refine Wp.seq ?_;refine wR Γ0 nR ?_ ?_
  ·omega
  refine wC nR (λhc=>?_) (λhc=>?_)
  ·have h:bT s=false:=by
    rw[hall,List.all_eq_false];refine⟨k,List.mem_range.2 hlt,?_⟩;simp only[Bool.or_eq_true,decide_eq_true_eq]at hc;simp only[J6,Bool.and_eq_true,decide_eq_true_eq];omega
   rw[h,hno h];refine vR Γ0 nR ?_;refine wZ nR ?_;exact λE=>rfl
  ·have hg:48<=bt s k/\bt s k<=57:=by
    simp only[Bool.or_eq_false_iff,decide_eq_false_iff_not]at hc;omega
   have u1:IntKind.u8.wrap (bt s k-48)=bt s k-48:=eS oM oM;have u2:IntKind.i64.wrap (10*qe s k)=10*qe s k:=ae oM oM;have u3:IntKind.i64.wrap (10*qe s k+(bt s k-48))=qe s (k+1):=ae oM oM;have u4:IntKind.i64.wrap (bt s k-48)=bt s k-48:=ae oM oM;refine wK ?_;refine wr Γ0 (oy nR u1 u2 u4 u3) ?_ ?_
   ·omega
   refine vr Γ0 (aa nR wk) ?_;refine⟨k+1,⟨oM,λj hj=>?_⟩,oM,?_⟩
   ·by_cases e:j=k
    ·rw[e,J6,decide_eq_true hg.1,decide_eq_true hg.2];rfl
    ·exact hd j oM
   ·exact wM (λk=>.key k) nR
 ·have hk' : k=s.size:=by
   simp at hc;omega
  subst hk';have h:bT s=true:=by
   rw[hall,List.all_eq_true];exact λj hj=>hd j (List.mem_range.1 hj)
  have hv:iJ s=qe s s.size:=by rw[iJ,if_pos h]
  rw[h,hv];refine wE ?_;refine vR Γ0 nR ?_;refine wZ nR ?_;exact λE=>rfl
def RZ:aM prog 47 where
 pre:=λW bs=>λ| [.val (.string s)]=>True|_=>False
 res:=λW=>λ| [.val (.string s)]=>.tuple #[.int .i64 (iJ s),.bool (bT s)]|_=>undef
 enters:=call47
 ok:=by
  intro W w bs us as_ hk hu hp;split at hp
  ·rename_i s
   match us,hu with
   |[u0],hu=>
    obtain⟨rfl,_⟩:=hu;exact acI s w
  ·exact hp.elim
theorem I3(W:World)(s:ByteArray):RZ.res W [.val (.string s)]=.tuple #[.int .i64 (iJ s),.bool (bT s)]:=rfl
theorem Iy(W:World)(bs:List Nat)(s:ByteArray):RZ.pre W bs [.val (.string s)]=(True):=rfl
def opR:Rx->Int
 |.eps=>0
 |.cls _=>1
 |.cat _ _=>2
 |.alt _ _=>3
 |.star _=>4
 |.and _ _=>5
 |.minus _ _=>6
def rkO(op:Int):Int:=if op=3 then 0 else if op=5\/op=6 then 1 else if op=2 then 2 else if op=4 then 3 else 4
theorem aiU(t:Rx):rkO (opR t)=u9 t:=by cases t<;>rfl
def kz:=(aj jo jl gS ca cc b9 cg (aj cf cj cd ck dc dh cZ (aj db c8 dd wA vP wX tg (aj Aw y5 zr yL Bz yZ Dn (aj Ct Dl DL tR wx wF tn (aj xq xt xw wJ vW xi wO (aj @aG @al @ay @ax @L6 @KB @ajD (aj @aiE @ait @aiq @aiy @Gg @rS @PZ (aj @GD @zm @aB @dL @lS @mv @iP @DJ)))))))))
theorem S7(op:Int)(w:World):Calls prog 207 #[.int .i64 op] w λe w' => e=.returned (.int .i64 (rkO op))/\ah w [] w' := by
 refine af (nt:=13) [.tmp 2] func207 rfl rfl rfl ?_;refine vR Γ0 kz ?_;refine Wp.seq ?_;refine vR Γ0 kz ?_;refine Wp.block ?_;refine vR Γ0 kz ?_;refine wC kz (λhc=>?_) (λhc=>?_)
 ·have h:op=3:=by simpa using hc
  rw[rkO,if_pos h];refine vR Γ0 kz ?_;refine wZ kz ?_;exact λE=>rfl
 have n3:¬ op=3:=by simpa using hc
 rw[rkO,if_neg n3];refine aW ⟨40,bm [(3,.is (.v (.int .i64 op))),(6,.is (.v (.bool (decide (op=5\/op=6)))))],aY []⟩ ?_ ?_
 ·skip;refine vR Γ0 kz ?_;refine wC kz (λhc=>?_) (λhc=>?_)
  ·have h:op=5:=by simpa using hc
   rw[show decide (op=5\/op=6)=true by simp[h]];refine wK ?_;exact wM (λk=>.key k) (aa kz hc)
  ·have h:¬ op=5:=by simpa using hc
   rw[show decide (op=5\/op=6)=decide (op=6) by simp[h]];refine vr Γ0 kz ?_;exact wM (λk=>.key k) kz
 refine wC kz (λhc=>?_) (λhc=>?_)
 ·have h:op=5\/op=6:=by simpa using hc
  rw[if_pos h];refine vR Γ0 kz ?_;refine wZ kz ?_;exact λE=>rfl
 have n5:¬ (op=5\/op=6):=by simpa using hc
 rw[if_neg n5];refine vR Γ0 kz ?_;refine wC kz (λhc=>?_) (λhc=>?_)
 ·have h:op=2:=by simpa using hc
  rw[if_pos h];refine vR Γ0 kz ?_;refine wZ kz ?_;exact λE=>rfl
 have n2:¬ op=2:=by simpa using hc
 rw[if_neg n2];refine vR Γ0 kz ?_;refine wC kz (λhc=>?_) (λhc=>?_)
 ·have h:op=4:=by simpa using hc
  rw[if_pos h];refine vR Γ0 kz ?_;refine wZ kz ?_;exact λE=>rfl
 have n4:¬ op=4:=by simpa using hc
 rw[if_neg n4];refine wK ?_;refine vR Γ0 kz ?_;refine wZ kz ?_;exact λE=>rfl
def Ed:aM prog 207 where
 pre:=λW bs=>λ| [.val (.int .i64 op)]=>True|_=>False
 res:=λW=>λ| [.val (.int .i64 op)]=>.int .i64 (rkO op)|_=>undef
 enters:=call207
 ok:=by
  intro W w bs us as_ hk hu hp;split at hp
  ·rename_i op
   match us,hu with
   |[u0],hu=>
    obtain⟨rfl,_⟩:=hu;exact S7 op w
  ·exact hp.elim
theorem Mb(W:World)(op:Int):Ed.res W [.val (.int .i64 op)]=.int .i64 (rkO op):=rfl
theorem N1(W:World)(bs:List Nat)(op:Int):Ed.pre W bs [.val (.int .i64 op)]=(True):=rfl
def oU(l:List Nd):Nat->Rx->Prop
 |i,.eps=>∃ d,l[i]?=some d/\d.op=0
 |i,.cls S=>∃ d,l[i]?=some d/\d.op=1/\d.set=S
 |i,.cat a b=>∃ d,∃ x y:Nat,l[i]?=some d/\d.op=2/\d.a=x/\d.b=y/\x<y/\oU l x a/\oU l y b
 |i,.alt a b=>∃ d,∃ x y:Nat,l[i]?=some d/\d.op=3/\d.a=x/\d.b=y/\x<y/\oU l x a/\oU l y b
 |i,.star a=>∃ d,∃ x:Nat,l[i]?=some d/\d.op=4/\d.a=x/\oU l x a
 |i,.and a b=>∃ d,∃ x y:Nat,l[i]?=some d/\d.op=5/\d.a=x/\d.b=y/\x<y/\oU l x a/\oU l y b
 |i,.minus a b=>∃ d,∃ x y:Nat,l[i]?=some d/\d.op=6/\d.a=x/\d.b=y/\x<y/\oU l x a/\oU l y b
theorem oU.op{l:List Nd}{i:Nat}{t:Rx}(h:oU l i t):∃ d,l[i]?=some d/\d.op=opR t:=by
 cases t with
 |eps=>obtain⟨d,h1,h2⟩:=h;exact⟨d,h1,h2⟩
 |cls S=>obtain⟨d,h1,h2,_⟩:=h;exact⟨d,h1,h2⟩
 |star a=>obtain⟨d,_,h1,h2,_⟩:=h;exact⟨d,h1,h2⟩
 |cat a b=>obtain⟨d,_,_,h1,h2,_⟩:=h;exact⟨d,h1,h2⟩
 |alt a b=>obtain⟨d,_,_,h1,h2,_⟩:=h;exact⟨d,h1,h2⟩
 |and a b=>obtain⟨d,_,_,h1,h2,_⟩:=h;exact⟨d,h1,h2⟩
 |minus a b=>obtain⟨d,_,_,h1,h2,_⟩:=h;exact⟨d,h1,h2⟩
theorem yx{α:Type}(l:List α)(d:α)(r:List α){k:Nat}(hk:k=l.length):(l++d::r)[k]?=some d:=by
 subst hk;simp
theorem ajE:∀ (t:Rx) (pre post:List Nd),oU (pre++eD pre.length t++post) (pre.length+aI t-1) t:=by
 have two:∀ (a b:Rx) (d:Nd) (pre post:List Nd),(∀ pre post:List Nd,oU (pre++eD pre.length a++post) (pre.length+aI a-1) a)->(∀ pre post:List Nd,oU (pre++eD pre.length b++post) (pre.length+aI b-1) b) ->
   (pre++(eD pre.length a++(eD (pre.length+aI a) b++[d]))++post)[pre.length+(aI a+aI b+1)-1]?=some d/\oU (pre++(eD pre.length a++(eD (pre.length+aI a) b++[d]))++post) (pre.length+aI a-1) a/\oU (pre++(eD pre.length a++(eD (pre.length+aI a) b++[d]))++post) (pre.length+aI a+aI b-1) b:=by
  intro a b d pre post ha hb;have la:=gC a pre.length;have lb:=gC b (pre.length+aI a);have e1:pre++(eD pre.length a++(eD (pre.length+aI a) b++[d]))++post=(pre++eD pre.length a++eD (pre.length+aI a) b)++d::post:=by simp
  have e2:pre++(eD pre.length a++(eD (pre.length+aI a) b++[d]))++post=pre++eD pre.length a++(eD (pre.length+aI a) b++d::post):=by simp
  have e3:pre++(eD pre.length a++(eD (pre.length+aI a) b++[d]))++post=(pre++eD pre.length a)++eD (pre++eD pre.length a).length b++d::post:=by rw[List.length_append,la];simp
  refine⟨?_,?_,?_⟩
  ·rw[e1];exact yx _ _ _ (by rw[List.length_append,List.length_append,la,lb];omega)
  ·rw[e2];exact ha pre _
  ·rw[e3];have h:=hb (pre++eD pre.length a) (d::post);rw[List.length_append,la]at h ⊢;exact h
 intro t
 induction t with
 |eps=>intro pre post;exact⟨_,by show (pre++[cm 0 0 0]++post)[pre.length+1-1]?=_;rw[List.append_assoc];exact yx _ _ _ oM,rfl⟩
 |cls S=>intro pre post;exact⟨_,by show (pre++[⟨1,S,0,0,0,0⟩]++post)[pre.length+1-1]?=_;rw[List.append_assoc];exact yx _ _ _ oM,rfl,rfl⟩
 | star a ih=>
  intro pre post;have la:=gC a pre.length;have hp:=jQ a;refine⟨cm 4 ((pre.length+aI a-1:Nat):Int) 0,pre.length+aI a-1,?_,rfl,rfl,?_⟩
  ·have e1:pre++eD pre.length (.star a)++post=(pre++eD pre.length a)++cm 4 ((pre.length+aI a-1:Nat):Int) 0::post:=by simp[eD]
   rw[e1];exact yx _ _ _ (by rw[List.length_append,la];show pre.length+(aI a+1)-1=_;omega)
  ·have e2:pre++eD pre.length (.star a)++post=pre++eD pre.length a++cm 4 ((pre.length+aI a-1:Nat):Int) 0::post:=by simp[eD]
   rw[e2];exact ih pre _
 |cat a b iha ihb=>
  intro pre post;have hp:=jQ a;have hq:=jQ b;obtain⟨h1,h2,h3⟩:=two a b _ pre post iha ihb;exact⟨_,pre.length+aI a-1,pre.length+aI a+aI b-1,h1,rfl,rfl,rfl,oM,h2,h3⟩
 |alt a b iha ihb=>
  intro pre post;have hp:=jQ a;have hq:=jQ b;obtain⟨h1,h2,h3⟩:=two a b _ pre post iha ihb;exact⟨_,pre.length+aI a-1,pre.length+aI a+aI b-1,h1,rfl,rfl,rfl,oM,h2,h3⟩
 |and a b iha ihb=>
  intro pre post;have hp:=jQ a;have hq:=jQ b;obtain⟨h1,h2,h3⟩:=two a b _ pre post iha ihb;exact⟨_,pre.length+aI a-1,pre.length+aI a+aI b-1,h1,rfl,rfl,rfl,oM,h2,h3⟩
 |minus a b iha ihb=>
  intro pre post;have hp:=jQ a;have hq:=jQ b;obtain⟨h1,h2,h3⟩:=two a b _ pre post iha ihb;exact⟨_,pre.length+aI a-1,pre.length+aI a+aI b-1,h1,rfl,rfl,rfl,oM,h2,h3⟩
abbrev reV (ao:Option Addr)(n c:Nat)(r:Int):Value:=.agg #[.slice ao n c,.int .i64 r]
abbrev mN (l:List Nd)(ao:Option Addr)(c:Nat)(r:Int)(i:Nat)(t:Rx):Prop:=∀ w,kZ w ao (dC l)->Calls prog 102 #[reV ao l.length c r,.int .i64 (i:Nat)] w λe w' => e=.returned (.string (cq t))/\ah w [] w'
abbrev AtT (l:List Nd)(ao:Option Addr)(c:Nat)(r:Int)(i:Nat)(t:Rx):Prop:=∀ (need:Int) (w:World),kZ w ao (dC l)->Calls prog 157 #[reV ao l.length c r,.int .i64 (i:Nat),.int .i64 need] w λe w' => e=.returned (.string (Gu t need))/\ah w [] w'
theorem gy{W w:World}{bs:List Nat}{ao:Option Addr}{vs:List Value}(h:gJ W (Out bs) ao vs)(hk:ah W bs w):kZ w ao vs:=(h.mono hk.lA).is
section
variable (l:List Nd)(ao:Option Addr)(c:Nat)(r:Int)
def aaq(i:Nat)(t:Rx)(h:mN l ao c r i t):aM prog 102 where
 pre:=λW bs as_=>as_=[.val (reV ao l.length c r),.val (.int .i64 (i:Nat))]/\gJ W (Out bs) ao (dC l)
 res:=λ_ _=>.string (cq t)
 enters:=call102
 ok:=by
  intro W w bs us as_ hk hu hp;obtain⟨rfl,h1⟩:=hp
  match us,hu with
  |[x,y],hu=>
   obtain⟨rfl,rfl,_⟩:=hu;exact h w (gy h1 hk)
noncomputable def Γ81(i:Nat)(t:Rx)(h:mN l ao c r i t):Env prog:=⟨λ| 102=>some (aaq l ao c r i t h).spec|207=>some Ed.spec|_=>none,λ_=>none,λ_ _=>none⟩
theorem aec(i:Nat)(t:Rx)(h:mN l ao c r i t):(Γ81 l ao c r i t h).sp 102=some (aaq l ao c r i t h).spec:=rfl
theorem aeA(i:Nat)(t:Rx)(h:mN l ao c r i t):(Γ81 l ao c r i t h).sp 207=some Ed.spec:=rfl
theorem Uz{w:World}{i:Nat}{d:Nd}(hs:kZ w ao (dC l))(hd:l[i]?=some d):i<l.length/\∃ b o,ao=some ⟨b,o,none⟩/\w.cell? ⟨b,o+i*261,none⟩=some (.int .i64 d.op):=by
 obtain⟨hk,hd⟩:=List.getElem?_eq_some_iff.1 hd;obtain⟨b,o,h1,h2,_⟩:=kZ.nd hs hk;rw[hd]at h2;exact⟨hk,b,o,h1,h2⟩
def D3:=(mh kz Mb N1 @aec @aeA @aaq.eq_1)
theorem kN(i:Nat)(t:Rx)(ht:oU l i t)(hsz:aI t<=4000000)(h:mN l ao c r i t):AtT l ao c r i t:=by
 intro need w hs;obtain⟨d,hd,hop⟩:=ht.op;obtain⟨hi,b,o,rfl,hx⟩:=Uz l ao hs hd;have hrk:=aiU t;rw[<- hop]at hrk;have hbs:=dB t;refine af (nt:=24) [.tmp 6] func157 rfl rfl rfl ?_;refine vR Γ0 D3 ?_;refine wR (Γ81 l (some ⟨b,o,none⟩) c r i t h) D3 ?_ ?_
 ·exact (gJ.oH hs).out λ_ _=>by simp[Out]
 refine Wp.seq ?_;refine wR (Γ81 l (some ⟨b,o,none⟩) c r i t h) (bQ D3 hx hrk) ?_ ?_
 ·omega
 refine wC D3 (λhc=>?_) (λhc=>?_)
 ·have hlt:u9 t<need:=by simpa using hc
  have e:Gu t need=lpB++cq t++rpB:=by rw[Gu,qc,if_pos hlt]
  rw[e];refine wR Γ0 D3 ?_ ?_
  ·refine⟨?_,?_⟩
   ·show 1+_<=_;omega
   ·rw[ByteArray.size_append];show 1+_+1<=_;omega
  refine wZ D3 ?_;exact λE=>rfl
 ·have hlt:¬ u9 t<need:=by simpa using hc
  have e:Gu t need=cq t:=by rw[Gu,qc,if_neg hlt]
  rw[e];refine wK ?_;refine vR Γ0 D3 ?_;refine wZ D3 ?_;exact λE=>rfl
def atC(x y:Nat)(a b:Rx)(ha:AtT l ao c r x a)(hb:AtT l ao c r y b):aM prog 157 where
 pre:=λW bs as_=>∃ i need:Int,as_=[.val (reV ao l.length c r),.val (.int .i64 i),.val (.int .i64 need)]/\(i=x\/i=y)/\gJ W (Out bs) ao (dC l)
 res:=λ_ as_=>match as_ with
  |[_,.val (.int _ i),.val (.int _ need)]=>.string (Gu (if i=x then a else b) need)
  |_=>undef
 enters:=call157
 ok:=by
  intro W w bs us as_ hk hu hp;obtain⟨i,need,rfl,h1,h2⟩:=hp
  match us,hu with
  | [u1,u2,u3],hu=>
   obtain⟨rfl,rfl,rfl,_⟩:=hu;by_cases hx:i=x
   ·subst hx;simp only[if_true];exact ha need w (gy h2 hk)
   ·obtain rfl:=h1.resolve_left hx;simp only[if_neg hx];exact hb need w (gy h2 hk)
section
variable (x y:Nat)(a b:Rx)(ha:AtT l ao c r x a)(hb:AtT l ao c r y b)
theorem ahk(W:World)(bs:List Nat)(i need:Int):(atC l ao c r x y a b ha hb).pre W bs [.val (reV ao l.length c r),.val (.int .i64 i),.val (.int .i64 need)]=((i=x\/i=y)/\gJ W (Out bs) ao (dC l)):=by
 apply propext;constructor
 ·rintro⟨i',need',h1,h2⟩;simp only[List.cons.injEq,AV.val.injEq,Value.int.injEq,true_and,and_true]at h1;obtain⟨rfl,rfl⟩:=h1;exact h2
 ·exact λh=>⟨i,need,rfl,h⟩
theorem aen(W:World)(v:AV)(k k' : IntKind)(i need:Int):(atC l ao c r x y a b ha hb).res W [v,.val (.int k i),.val (.int k' need)]=.string (Gu (if i=x then a else b) need):=rfl
noncomputable def Γ82:Env prog:=⟨λ| 157=>some (atC l ao c r x y a b ha hb).spec|156=>some pM.spec|_=>none,λ_=>none,λ_ _=>none⟩
theorem aeq:(Γ82 l ao c r x y a b ha hb).sp 157=some (atC l ao c r x y a b ha hb).spec:=rfl
theorem afr:(Γ82 l ao c r x y a b ha hb).sp 156=some pM.spec:=rfl
end
noncomputable def kp:Env prog:=⟨λ| 156=>some pM.spec|_=>none,λ| _=>none,λ_ _=>none⟩
theorem afZ:kp.sp 156=some pM.spec:=rfl
theorem cV(t:Rx)(need:Int):(Gu t need).size<=2400*aI t+2:=by
 have h1:=dB t;have h2:=fF (u9 t) need (cq t);unfold Gu;omega
def a8:=(mh D3 afZ @aeq @afr @ahk @aen)
theorem aag(i:Nat)(hsz:aI (.eps)<=4000000)(ht:oU l i (.eps)):mN l ao c r i (.eps):=by
 intro w hs;obtain⟨d,hd,hop⟩:=ht;obtain⟨hi,hd⟩:=List.getElem?_eq_some_iff.1 hd;have hsx:gJ w (Out []) ao (dC l):=(gJ.oH hs).out λ_ _=>by simp[Out]
 obtain⟨b,o,rfl,hb,hx1,hx2⟩:=jT hsx hi;rw[hd]at hx1;refine af (nt:=72) [.tmp 4] func102 rfl rfl rfl ?_;refine vR kp a8 ?_
 refine Wp.o9 kp b8 (by simp only[jD,Op.operands,Value.cells,σ0,σB,Nat.reduceEqDiff,Nat.reduceAdd,Nat.reduceMul,Nat.reduceLT,Nat.reduceLeDiff,Nat.reduceBEq,av,Int.reduceToNat,Int.reduceLT,Int.reduceLE,Nat.reduceDiv,Nat.reduceMod,Nat.reduceSub,Int.reducePow,Nat.reducePow,σP,σB3,a8,↓hx1,↓hx2];exact rfl) rfl ?_ ?_
 ·exact⟨oM,sI,Nd.ej d⟩
 refine Wp.seq ?_;refine vR kp (aa a8 hop) ?_;refine Wp.block ?_;refine vR kp a8 ?_;refine wC a8 (λhc=>?_) (λhc=>?_)
 rotate_left
 ·exact absurd hc dE
 refine vR kp a8 ?_;refine wZ a8 ?_;exact λE=>rfl
theorem Xh(S:CS)(i:Nat)(hsz:aI (.cls S)<=4000000)(ht:oU l i (.cls S)):mN l ao c r i (.cls S):=by
 intro w hs;obtain⟨d,hd,hop,rfl⟩:=ht;obtain⟨hi,hd⟩:=List.getElem?_eq_some_iff.1 hd;have hsx:gJ w (Out []) ao (dC l):=(gJ.oH hs).out λ_ _=>by simp[Out]
 obtain⟨b,o,rfl,hb,hx1,hx2⟩:=jT hsx hi;rw[hd]at hx1;refine af (nt:=72) [.tmp 4] func102 rfl rfl rfl ?_;refine vR kp a8 ?_
 refine Wp.o9 kp b8 (by simp only[jD,Op.operands,Value.cells,σ0,σB,Nat.reduceEqDiff,Nat.reduceAdd,Nat.reduceMul,Nat.reduceLT,Nat.reduceLeDiff,Nat.reduceBEq,av,Int.reduceToNat,Int.reduceLT,Int.reduceLE,Nat.reduceDiv,Nat.reduceMod,Nat.reduceSub,Int.reducePow,Nat.reducePow,σP,σB3,a8,↓hx1,↓hx2];exact rfl) rfl ?_ ?_
 ·exact⟨oM,sI,Nd.ej d⟩
 refine Wp.seq ?_;refine vR kp (aa a8 hop) ?_;refine Wp.block ?_;refine vR kp a8 ?_;refine wC a8 (λhc=>?_) (λhc=>?_)
 ·exact absurd hc dE
 refine vR kp a8 ?_;refine wC a8 (λhc=>?_) (λhc=>?_)
 rotate_left
 ·exact absurd hc dE
 refine vR kp a8 ?_;refine wZ a8 ?_;exact λE=>rfl
theorem Ww(a b:Rx)(i:Nat)(hsz:aI (.cat a b)<=4000000)(ht:oU l i (.cat a b))(IH:∀ (j:Nat),(∀ t,(t=a\/t=b)->oU l j t->AtT l ao c r j t)):mN l ao c r i (.cat a b):=by
 intro w hs;obtain⟨d,x,y,hd,hop,hda,hdb,hxy,hta,htb⟩:=ht;have hA:=IH x a (.inl rfl) hta;have hB:=IH y b (.inr rfl) htb;have hne:¬ ((y:Nat):Int)=((x:Nat):Int):=oM;have s1:=cV a 2;have s2:=cV b 3;have hsz' : aI a+aI b+1<=4000000:=hsz;obtain⟨hi,hd⟩:=List.getElem?_eq_some_iff.1 hd
 have hsx:gJ w (Out []) ao (dC l):=(gJ.oH hs).out λ_ _=>by simp[Out]
 obtain⟨bb,o,rfl,hb,hx1,hx2⟩:=jT hsx hi;rw[hd]at hx1;refine af (nt:=72) [.tmp 4] func102 rfl rfl rfl ?_;refine vR kp a8 ?_
 refine Wp.o9 kp b8 (by simp only[jD,Op.operands,Value.cells,σ0,σB,Nat.reduceEqDiff,Nat.reduceAdd,Nat.reduceMul,Nat.reduceLT,Nat.reduceLeDiff,Nat.reduceBEq,av,Int.reduceToNat,Int.reduceLT,Int.reduceLE,Nat.reduceDiv,Nat.reduceMod,Nat.reduceSub,Int.reducePow,Nat.reducePow,σP,σB3,a8,↓hx1,↓hx2];exact rfl) rfl ?_ ?_
 ·exact⟨oM,sI,Nd.ej d⟩
 refine Wp.seq ?_;refine vR kp (aa a8 hop) ?_;refine Wp.block ?_;refine vR kp a8 ?_;refine wC a8 (λhc=>?_) (λhc=>?_)
 ·exact absurd hc dE
 refine vR kp a8 ?_;refine wC a8 (λhc=>?_) (λhc=>?_)
 ·exact absurd hc dE
 refine vR kp a8 ?_;refine wC a8 (λhc=>?_) (λhc=>?_)
 ·exact absurd hc dE
 refine vR kp a8 ?_;refine wC a8 (λhc=>?_) (λhc=>?_)
 ·exact absurd hc dE
 refine vR kp a8 ?_;refine wC a8 (λhc=>?_) (λhc=>?_)
 ·exact absurd hc dE
 refine vR kp a8 ?_;refine wC a8 (λhc=>?_) (λhc=>?_)
 rotate_left
 ·exact absurd hc dE
 refine kO (Γ82 l (some ⟨bb,o,none⟩) c r x y a b hA hB) (eT a8 hda hdb hne) ?_ ?_
 ·exact⟨hsx,⟨.inr trivial,hsx⟩,oM⟩
 refine wZ a8 ?_;exact λE=>rfl
theorem Vm(a b:Rx)(i:Nat)(hsz:aI (.alt a b)<=4000000)(ht:oU l i (.alt a b))(IH:∀ (j:Nat),(∀ t,(t=a\/t=b)->oU l j t->AtT l ao c r j t)):mN l ao c r i (.alt a b):=by
 intro w hs;obtain⟨d,x,y,hd,hop,hda,hdb,hxy,hta,htb⟩:=ht;have hA:=IH x a (.inl rfl) hta;have hB:=IH y b (.inr rfl) htb;have hne:¬ ((y:Nat):Int)=((x:Nat):Int):=oM;have s1:=cV a 0;have s2:=cV b 1;have hsz' : aI a+aI b+1<=4000000:=hsz;obtain⟨hi,hd⟩:=List.getElem?_eq_some_iff.1 hd
 have hsx:gJ w (Out []) ao (dC l):=(gJ.oH hs).out λ_ _=>by simp[Out]
 obtain⟨bb,o,rfl,hb,hx1,hx2⟩:=jT hsx hi;rw[hd]at hx1;refine af (nt:=72) [.tmp 4] func102 rfl rfl rfl ?_;refine vR kp a8 ?_
 refine Wp.o9 kp b8 (by simp only[jD,Op.operands,Value.cells,σ0,σB,Nat.reduceEqDiff,Nat.reduceAdd,Nat.reduceMul,Nat.reduceLT,Nat.reduceLeDiff,Nat.reduceBEq,av,Int.reduceToNat,Int.reduceLT,Int.reduceLE,Nat.reduceDiv,Nat.reduceMod,Nat.reduceSub,Int.reducePow,Nat.reducePow,σP,σB3,a8,↓hx1,↓hx2];exact rfl) rfl ?_ ?_
 ·exact⟨oM,sI,Nd.ej d⟩
 refine Wp.seq ?_;refine vR kp (aa a8 hop) ?_;refine Wp.block ?_;refine vR kp a8 ?_;refine wC a8 (λhc=>?_) (λhc=>?_)
 ·exact absurd hc dE
 refine vR kp a8 ?_;refine wC a8 (λhc=>?_) (λhc=>?_)
 ·exact absurd hc dE
 refine vR kp a8 ?_;refine wC a8 (λhc=>?_) (λhc=>?_)
 rotate_left
 ·exact absurd hc dE
 refine kO (Γ82 l (some ⟨bb,o,none⟩) c r x y a b hA hB) (eT a8 hda hdb hne) ?_ ?_
 ·exact⟨hsx,by show _+1<=_;omega,⟨.inr trivial,hsx⟩,by rw[ByteArray.size_append];show _+1+_<=_;omega⟩
 refine wZ a8 ?_;exact λE=>rfl
theorem aar(a b:Rx)(i:Nat)(hsz:aI (.and a b)<=4000000)(ht:oU l i (.and a b))(IH:∀ (j:Nat),(∀ t,(t=a\/t=b)->oU l j t->AtT l ao c r j t)):mN l ao c r i (.and a b):=by
 intro w hs;obtain⟨d,x,y,hd,hop,hda,hdb,hxy,hta,htb⟩:=ht;have hA:=IH x a (.inl rfl) hta;have hB:=IH y b (.inr rfl) htb;have hne:¬ ((y:Nat):Int)=((x:Nat):Int):=oM;have s1:=cV a 1;have s2:=cV b 2;have hsz' : aI a+aI b+1<=4000000:=hsz;obtain⟨hi,hd⟩:=List.getElem?_eq_some_iff.1 hd
 have hsx:gJ w (Out []) ao (dC l):=(gJ.oH hs).out λ_ _=>by simp[Out]
 obtain⟨bb,o,rfl,hb,hx1,hx2⟩:=jT hsx hi;rw[hd]at hx1;refine af (nt:=72) [.tmp 4] func102 rfl rfl rfl ?_;refine vR kp a8 ?_
 refine Wp.o9 kp b8 (by simp only[jD,Op.operands,Value.cells,σ0,σB,Nat.reduceEqDiff,Nat.reduceAdd,Nat.reduceMul,Nat.reduceLT,Nat.reduceLeDiff,Nat.reduceBEq,av,Int.reduceToNat,Int.reduceLT,Int.reduceLE,Nat.reduceDiv,Nat.reduceMod,Nat.reduceSub,Int.reducePow,Nat.reducePow,σP,σB3,a8,↓hx1,↓hx2];exact rfl) rfl ?_ ?_
 ·exact⟨oM,sI,Nd.ej d⟩
 refine Wp.seq ?_;refine vR kp (aa a8 hop) ?_;refine Wp.block ?_;refine vR kp a8 ?_;refine wC a8 (λhc=>?_) (λhc=>?_)
 ·exact absurd hc dE
 refine vR kp a8 ?_;refine wC a8 (λhc=>?_) (λhc=>?_)
 ·exact absurd hc dE
 refine vR kp a8 ?_;refine wC a8 (λhc=>?_) (λhc=>?_)
 ·exact absurd hc dE
 refine vR kp a8 ?_;refine wC a8 (λhc=>?_) (λhc=>?_)
 rotate_left
 ·exact absurd hc dE
 refine kO (Γ82 l (some ⟨bb,o,none⟩) c r x y a b hA hB) (eT a8 hda hdb hne) ?_ ?_
 ·exact⟨hsx,by show _+1<=_;omega,⟨.inr trivial,hsx⟩,by rw[ByteArray.size_append];show _+1+_<=_;omega⟩
 refine wZ a8 ?_;exact λE=>rfl
theorem MG(a b:Rx)(i:Nat)(hsz:aI (.minus a b)<=4000000)(ht:oU l i (.minus a b))(IH:∀ (j:Nat),(∀ t,(t=a\/t=b)->oU l j t->AtT l ao c r j t)):mN l ao c r i (.minus a b):=by
 intro w hs;obtain⟨d,x,y,hd,hop,hda,hdb,hxy,hta,htb⟩:=ht;have hA:=IH x a (.inl rfl) hta;have hB:=IH y b (.inr rfl) htb;have hne:¬ ((y:Nat):Int)=((x:Nat):Int):=oM;have s1:=cV a 1;have s2:=cV b 2;have hsz' : aI a+aI b+1<=4000000:=hsz;obtain⟨hi,hd⟩:=List.getElem?_eq_some_iff.1 hd
 have hsx:gJ w (Out []) ao (dC l):=(gJ.oH hs).out λ_ _=>by simp[Out]
 obtain⟨bb,o,rfl,hb,hx1,hx2⟩:=jT hsx hi;rw[hd]at hx1;refine af (nt:=72) [.tmp 4] func102 rfl rfl rfl ?_;refine vR kp a8 ?_
 refine Wp.o9 kp b8 (by simp only[jD,Op.operands,Value.cells,σ0,σB,Nat.reduceEqDiff,Nat.reduceAdd,Nat.reduceMul,Nat.reduceLT,Nat.reduceLeDiff,Nat.reduceBEq,av,Int.reduceToNat,Int.reduceLT,Int.reduceLE,Nat.reduceDiv,Nat.reduceMod,Nat.reduceSub,Int.reducePow,Nat.reducePow,σP,σB3,a8,↓hx1,↓hx2];exact rfl) rfl ?_ ?_
 ·exact⟨oM,sI,Nd.ej d⟩
 refine Wp.seq ?_;refine vR kp (aa a8 hop) ?_;refine Wp.block ?_;refine vR kp a8 ?_;refine wC a8 (λhc=>?_) (λhc=>?_)
 ·exact absurd hc dE
 refine vR kp a8 ?_;refine wC a8 (λhc=>?_) (λhc=>?_)
 ·exact absurd hc dE
 refine vR kp a8 ?_;refine wC a8 (λhc=>?_) (λhc=>?_)
 ·exact absurd hc dE
 refine vR kp a8 ?_;refine wC a8 (λhc=>?_) (λhc=>?_)
 ·exact absurd hc dE
 refine vR kp a8 ?_;refine wC a8 (λhc=>?_) (λhc=>?_)
 rotate_left
 ·exact absurd hc dE
 refine kO (Γ82 l (some ⟨bb,o,none⟩) c r x y a b hA hB) (eT a8 hda hdb hne) ?_ ?_
 ·exact⟨hsx,by show _+1<=_;omega,⟨.inr trivial,hsx⟩,by rw[ByteArray.size_append];show _+1+_<=_;omega⟩
 refine wZ a8 ?_;exact λE=>rfl
theorem Tn(a:Rx)(i:Nat)(hsz:aI (.star a)<=4000000)(ht:oU l i (.star a))(IH:∀ (j:Nat),(∀ t,t=a->oU l j t->AtT l ao c r j t)):mN l ao c r i (.star a):=by
 intro w hs;obtain⟨d,x,hd,hop,hda,hta⟩:=ht;have hA:=IH x a rfl hta;have s1:=cV a 3;have hsz' : aI a+1<=4000000:=hsz;obtain⟨hi,hd⟩:=List.getElem?_eq_some_iff.1 hd;have hsx:gJ w (Out []) ao (dC l):=(gJ.oH hs).out λ_ _=>by simp[Out]
 obtain⟨bb,o,rfl,hb,hx1,hx2⟩:=jT hsx hi;rw[hd]at hx1;refine af (nt:=72) [.tmp 4] func102 rfl rfl rfl ?_;refine vR kp a8 ?_
 refine Wp.o9 kp b8 (by simp only[jD,Op.operands,Value.cells,σ0,σB,Nat.reduceEqDiff,Nat.reduceAdd,Nat.reduceMul,Nat.reduceLT,Nat.reduceLeDiff,Nat.reduceBEq,av,Int.reduceToNat,Int.reduceLT,Int.reduceLE,Nat.reduceDiv,Nat.reduceMod,Nat.reduceSub,Int.reducePow,Nat.reducePow,σP,σB3,a8,↓hx1,↓hx2];exact rfl) rfl ?_ ?_
 ·exact⟨oM,sI,Nd.ej d⟩
 refine Wp.seq ?_;refine vR kp (aa a8 hop) ?_;refine Wp.block ?_;refine vR kp a8 ?_;refine wC a8 (λhc=>?_) (λhc=>?_)
 ·exact absurd hc dE
 refine vR kp a8 ?_;refine wC a8 (λhc=>?_) (λhc=>?_)
 ·exact absurd hc dE
 refine vR kp a8 ?_;refine wC a8 (λhc=>?_) (λhc=>?_)
 ·exact absurd hc dE
 refine vR kp a8 ?_;refine wC a8 (λhc=>?_) (λhc=>?_)
 ·exact absurd hc dE
 refine vR kp a8 ?_;refine wC a8 (λhc=>?_) (λhc=>?_)
 ·exact absurd hc dE
 refine vR kp a8 ?_;refine wC a8 (λhc=>?_) (λhc=>?_)
 ·exact absurd hc dE
 refine wK ?_;refine wR (Γ82 l (some ⟨bb,o,none⟩) c r x x a a hA hA) (aa a8 hda) ?_ ?_
 ·exact⟨hsx,by show _+1<=_;omega⟩
 refine wZ a8 ?_;exact λE=>rfl
theorem Wc:∀ (t:Rx) (i:Nat),aI t<=4000000->oU l i t->mN l ao c r i t:=by
 intro t
 induction t with
 |eps=>exact λi hsz ht=>aag l ao c r i hsz ht
 |cls S=>exact λi hsz ht=>Xh l ao c r S i hsz ht
 | star a ih=>
  intro i hsz ht;exact Tn l ao c r a i hsz ht λj t h hj=>by
   have h0:aI a+1<=4000000:=hsz;subst h;exact kN l ao c r j _ hj oM (ih j oM hj)
 | cat a b iha ihb=>
  intro i hsz ht;exact Ww l ao c r a b i hsz ht λj t h hj=>by
   have h0:aI a+aI b+1<=4000000:=hsz;rcases h with rfl|rfl
   ·exact kN l ao c r j _ hj oM (iha j oM hj)
   ·exact kN l ao c r j _ hj oM (ihb j oM hj)
 | alt a b iha ihb=>
  intro i hsz ht;exact Vm l ao c r a b i hsz ht λj t h hj=>by
   have h0:aI a+aI b+1<=4000000:=hsz;rcases h with rfl|rfl
   ·exact kN l ao c r j _ hj oM (iha j oM hj)
   ·exact kN l ao c r j _ hj oM (ihb j oM hj)
 | and a b iha ihb=>
  intro i hsz ht;exact aar l ao c r a b i hsz ht λj t h hj=>by
   have h0:aI a+aI b+1<=4000000:=hsz;rcases h with rfl|rfl
   ·exact kN l ao c r j _ hj oM (iha j oM hj)
   ·exact kN l ao c r j _ hj oM (ihb j oM hj)
 | minus a b iha ihb=>
  intro i hsz ht;exact MG l ao c r a b i hsz ht λj t h hj=>by
   have h0:aI a+aI b+1<=4000000:=hsz;rcases h with rfl|rfl
   ·exact kN l ao c r j _ hj oM (iha j oM hj)
   ·exact kN l ao c r j _ hj oM (ihb j oM hj)
theorem MV(i:Nat)(t:Rx)(hsz:aI t<=4000000)(ht:oU l i t)(w:World)(hs:kZ w ao (dC l)):Calls prog 60 #[reV ao l.length c i] w λe w' => e=.returned (.string (cq t))/\ah w [] w' := by
 have hsx:gJ w (Out []) ao (dC l):=(gJ.oH hs).out λ_ _=>by simp[Out]
 refine af (nt:=7) [.tmp 2] func60 rfl rfl rfl ?_;refine vR kp a8 ?_;refine wR (Γ81 l ao c i i t (Wc l ao c i t i hsz ht)) a8 ?_ ?_
 ·exact hsx
 refine wZ a8 ?_;exact λE=>rfl
def yd(i:Nat)(t:Rx)(hsz:aI t<=4000000)(ht:oU l i t):aM prog 60 where
 pre:=λW bs as_=>as_=[.val (reV ao l.length c i)]/\gJ W (Out bs) ao (dC l)
 res:=λ_ _=>.string (cq t)
 enters:=call60
 ok:=by
  intro W w bs us as_ hk hu hp;obtain⟨rfl,h1⟩:=hp
  match us,hu with
  |[x],hu=>
   obtain⟨rfl,_⟩:=hu;exact MV l ao c i t hsz ht w (gy h1 hk)
end
end
end Go.Proofs.YtnemkecffmdlnaaGreatDoor
