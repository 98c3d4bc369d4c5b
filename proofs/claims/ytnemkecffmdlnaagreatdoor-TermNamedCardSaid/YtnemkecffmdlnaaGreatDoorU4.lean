/-
 Part 4 of the proof (packed).
-/
import Derived.Test.YtnemkecffmdlnaaGreatDoorU3
import Derived.Lib.AppendIntMem
import Derived.Shelf.Strings.Builder1
import Derived.Shelf.RegionOpenPlain
import Derived.Test.YtnemkecffmdlnaaGreatDoorCards
import Derived.Test.YtnemkecffmdlnaaGreatDoorTie
import Derived.WalkKit
import Derived.ProofKit
import Derived.OpenShut
import Derived.Deep.DeepHandedRow
import Derived.Lib.LaidTab
import Derived.Lib.LaidU8
import Derived.Lay
set_option linter.unusedSimpArgs false
set_option linter.unusedVariables false
set_option linter.defProp false
set_option maxHeartbeats 16000000
namespace Go.Proofs.YtnemkecffmdlnaaGreatDoor
section
open Go.RowKit Go.LE Go.Proofs.Tryz
set_option maxRecDepth 10000
def ax:Rx->Value
 |.eps=>.iface 283 (.agg #[])
 |.cls S=>.iface 311 (cx S)
 |.cat a b=>.iface 281 (.agg #[ax a,ax b])
 |.alt a b=>.iface 284 (.agg #[ax a,ax b])
 |.star a=>.iface 279 (.agg #[ax a])
 |.and a b=>.iface 285 (.agg #[ax a,ax b])
 |.minus a b=>.iface 286 (.agg #[ax a,ax b])
theorem aL(t:Rx):(ax t).oneCell' = true:=by cases t<;>rfl
theorem ba:∀ a b:Rx,ax a=ax b->a=b
 |.eps,b,h=>by cases b<;>simp_all [ax]
 |.cls S,b,h=>by
  cases b<;>simp[ax]at h;rw[cF _ _ h]
 |.cat x y,b,h=>by
  cases b<;>simp[ax]at h;rw[ba x _ h.1,ba y _ h.2]
 |.alt x y,b,h=>by
  cases b<;>simp[ax]at h;rw[ba x _ h.1,ba y _ h.2]
 |.star x,b,h=>by
  cases b<;>simp[ax]at h;rw[ba x _ h]
 |.and x y,b,h=>by
  cases b<;>simp[ax]at h;rw[ba x _ h.1,ba y _ h.2]
 |.minus x y,b,h=>by
  cases b<;>simp[ax]at h;rw[ba x _ h.1,ba y _ h.2]
inductive Jn where
 |cat|alt|and|minus
def Jn.f:Jn->FuncId
 |.cat=>252
 |.alt=>181
 |.and=>217
 |.minus=>218
def Jn.mk:Jn->Rx->Rx->Rx
 |.cat=>.cat
 |.alt=>.alt
 |.and=>.and
 |.minus=>.minus
def Jn.T:Jn->TypeId
 |.cat=>281
 |.alt=>284
 |.and=>285
 |.minus=>286
def Jn.v(g:Jn):Value:=.func (.func g.f) #[] #[]
def pG(b:Nat):Value:=.pointer (some ⟨b,0,none⟩)
inductive bK (W:World) (S:Nat->Prop):Value->Rx->Prop where
 |leaf (b:Nat) (t:Rx):XC W S b 0 (ax t)->bK W S (.func (.func 259) #[] #[pG b]) t
 | join (g:Jn) (b5 b3 b4:Nat) (fa fb:Value) (ta tb:Rx):XC W S b5 0 g.v->XC W S b3 1 fa->XC W S b4 1 fb->bK W S fa ta->bK W S fb tb ->
   bK W S (.func (.func 220) #[] #[pG b5,pG b3,pG b4]) (g.mk ta tb)
 |star (b:Nat) (fa:Value) (ta:Rx):XC W S b 1 fa->bK W S fa ta->bK W S (.func (.func 264) #[] #[pG b]) (.star ta)
theorem bK.mono{W W' : World}{S S' : Nat->Prop}{v:Value}{t:Rx}(h:bK W S v t)(hs:aY W S W' S'):bK W' S' v t:=by
 induction h with
 |leaf b t h=>exact .leaf b t (h.mono hs)
 |join g b5 b3 b4 fa fb ta tb h1 h2 h3 _ _ ih1 ih2=>exact .join g b5 b3 b4 fa fb ta tb (h1.mono hs) (h2.mono hs) (h3.mono hs) ih1 ih2
 |star b fa ta h _ ih=>exact .star b fa ta (h.mono hs) ih
theorem bK.one{W:World}{S:Nat->Prop}{v:Value}{t:Rx}(h:bK W S v t):v.oneCell' = true:=by cases h<;>rfl
theorem MP{W:World}{S S' : Nat->Prop}{b o:Nat}{u v:Value}(h:XC W S b o u)(h' : XC W S' b o v):u=v:=Option.some.inj (h.2.symm.trans h'.2)
theorem bK.fn{W:World}{S S' : Nat->Prop}{v:Value}{t t' : Rx}(h:bK W S v t)(h' : bK W S' v t'):t=t' := by
 induction h generalizing t' with
 |leaf b t h=>
  cases h' with
  |leaf _ t' h2=>exact ba _ _ (MP h h2)
 | join g b5 b3 b4 fa fb ta tb h1 h2 h3 _ _ ih1 ih2=>
  cases h' with
  |join g' _ _ _ fa' fb' ta' tb' k1 k2 k3 k4 k5=>
   obtain rfl:=MP h2 k2;obtain rfl:=MP h3 k3;have hg:=MP h1 k1;rw[ih1 k4,ih2 k5];have:g=g' := by cases g<;>cases g' <;> simp[Jn.v,Jn.f]at hg<;>rfl
   rw[this]
 | star b fa ta h _ ih=>
  cases h' with
  |star _ fa' ta' k1 k2=>
   obtain rfl:=MP h k1;rw[ih k2]
def dX(r:RL):FK:=⟨λcs W S=>∃ fv,cs=[.int .i64 (r.1:Nat),fv]/\bK W S fv r.2,λhs ⟨fv,h1,h2⟩=>⟨fv,h1,h2.mono hs⟩⟩
def jC(r:RL)(fv:Value):Value:=.agg #[.int .i64 (r.1:Nat),fv]
theorem wJ(r:RL)(fv:Value)(h:fv.oneCell' = true):Sh.two.val [.int .i64 (r.1:Nat),fv]=jC r fv:=by
 show Value.agg #[hv (.int .i64 (r.1:Nat)),hv fv]=_;rw[fE h];rfl
theorem mc{W:World}{S:Nat->Prop}{r:RL}{u:Value}(h:∃ cs,u=Sh.two.val cs/\(dX r).Φ cs W S):∃ fv,u=jC r fv/\bK W S fv r.2:=by
 obtain⟨cs,rfl,fv,rfl,h⟩:=h;exact⟨fv,wJ r fv h.one,h⟩
theorem cd{W:World}{S:Nat->Prop}{r:RL}{fv:Value}(h:bK W S fv r.2):∃ cs,jC r fv=Sh.two.val cs/\(dX r).Φ cs W S:=
 ⟨_,(wJ r fv h.one).symm,fv,rfl,h⟩
theorem oX{r:RL}{W1:World}{bs1:List Nat}{w:World}{S:Nat->Prop}{fv:Value}(hg:bK W1 (bF (aE w S) bs1) fv r.2):Gq w S W1 bs1 (.agg [.v (.int .i64 (r.1:Nat)),.v fv]) (.fact Sh.two (dX r)):=
 ⟨[.int .i64 (r.1:Nat),fv],λE=>(wJ r fv hg.one).symm,fv,rfl,hg⟩
theorem cE{W:World}{S:Nat->Prop}{r:RL}{cs:List Value}(h:(dX r).Φ cs W S):∃ fv,cs=[.int .i64 (r.1:Nat),fv]/\bK W S fv r.2/\hv fv=fv:=by
 obtain⟨fv,h1,h2⟩:=h;exact⟨fv,h1,h2,fE h2.one⟩
theorem b6(t:Rx):partsOf (.v (ax t))=[.v (ax t)]:=by cases t<;>rfl
def JO:=(ae @List.replicate_succ.{0} @List.replicate_zero.{0} @au @ab kQ kS kU (ae dc dd de df iA iB iC (ae iD SA SB SC wU wV wX (ae wY w4 w5 Mi Mj Mk Ml (ae Mm Mn Mp Mq DC DD DE (ae DF DG DH DI DJ DK DL (ae DM DN DO DP DQ DR F5 (ae F6 F7 F8 F9 Ga Gb Gc (ae Gd Mr Mt Mu Mv Mw Mx (ae My Mz MA MB MC MD ME (ae MF MG MH MJ MK Ge Gf (ae Gg @aV @aw @aD @aG @b6 (λt=>fE (aL t)) @aL))))))))))))
theorem Zh(t:Rx)(w:World)(S:Nat->Prop):Calls prog 249 #[ax t] w λe w' => lh w S e w' (.fact Sh.two (dX (bV t))):=by
 refine eL (nt:=5) S [.cell 2 254] func249 rfl rfl rfl ?_;refine vR Γ0 JO ?_;refine vR Γ0 JO ?_;refine Wp.cS 0 (ev JO) (λE=>by simp only[ai,den];exact rfl) λW1 bs1 b hx hb hn hc=>?_
 refine wZ JO ?_;exact⟨[_,_],λE=>rfl,_,rfl,.leaf b t ⟨⟨aE.up w S b hn,hb⟩,cell_of hc 0 sI⟩⟩
def qH(t:Rx):lQ prog 249 where
 kinds:=[none]
 pre:=λas_ _ _=>as_=[.val (ax t)]
 premono:=λ_ _ _ _ _ _ h=>h
 out:=λ_=>.fact Sh.two (dX (bV t))
 enters:=call249
 ok:=by
  intro w S us as_ hu hp;subst hp
  match us,hu with
  |[u],hu=>
   obtain⟨rfl,_⟩:=hu;exact Zh t w S
theorem NK(n:Int)(w:World):Calls prog 219 #[.int .i64 n] w λe w' => e=.returned (.int .i64 (min n 2001))/\an w [] w' := by
 refine ak (nt:=5) [.tmp 2] func219 rfl rfl rfl ?_;refine vR Γ0 JO ?_;refine vR Γ0 JO ?_;refine wZ JO ?_;exact λE=>by simp only[den];congr 1;split<;>omega
def Ap:a7 prog 219 where
 pre:=λW bs=>λ| [.val (.int .i64 n)]=>True|_=>False
 res:=λW=>λ| [.val (.int .i64 n)]=>.int .i64 (min n 2001)|_=>undef
 enters:=call219
 ok:=by
  intro W w bs us as_ hk hu hp;split at hp
  ·rename_i n
   match us,hu with
   |[u0],hu=>
    obtain⟨rfl,_⟩:=hu;exact NK n w
  ·exact hp.elim
theorem zo(W:World)(n:Int):Ap.res W [.val (.int .i64 n)]=.int .i64 (min n 2001):=rfl
theorem zn(W:World)(bs:List Nat)(n:Int):Ap.pre W bs [.val (.int .i64 n)]=(True):=rfl
noncomputable def Γ40:Env prog:=⟨λ| 219=>some Ap.spec|_=>none,λ| _=>none,λ_ _=>none⟩
theorem Tb:Γ40.sp 219=some Ap.spec:=rfl
theorem S1{a b:Nat}(ha:a<=2001)(hb:b<=2001):IntKind.i64.wrap (IntKind.i64.wrap (1+(a:Int))+(b:Int))=((1+a+b:Nat):Int):=by
 rw[aA (n:=1+(a:Int)) oM oM,aA oM oM];omega
theorem lK(n:Nat):min ((n:Nat):Int) 2001=((cA n:Nat):Int):=by unfold cA;omega
def AZ:=(fJ JO @zo @zn @Tb)
theorem Y8(g:Jn)(a b:RL)(fa fb:Value)(ha:a.1<=2001)(hb:b.1<=2001)(w:World)(S:Nat->Prop)(h1:bK w S fa a.2)(h2:bK w S fb b.2) :
  Calls prog 180 #[jC a fa,jC b fb,g.v] w λe w' => lh w S e w' (.fact Sh.two (dX (bf g.mk a b))):=by
 have ga:partsOf (.v (jC a fa))=[.v (.int .i64 (a.1:Nat)),.v fa]:=rfl;have gb:partsOf (.v (jC b fb))=[.v (.int .i64 (b.1:Nat)),.v fb]:=rfl;have gg:partsOf (.v g.v)=[.v g.v]:=rfl;have w1:=S1 ha hb;refine eL (nt:=16) S [.cell 6 254] func180 rfl rfl rfl ?_;refine vR Γ40 (fJ AZ ga gb gg) ?_
 refine vR Γ40 (sK AZ ga gb gg w1 @lK) ?_;refine Wp.cS 0 (ev (fJ AZ ga gb gg)) (λE=>by simp only[ai,den,ga,gb,gg];exact rfl) λW1 bs1 b3 hx1 hb3 hn3 hc3=>?_
 refine Wp.cS 8 (ev (fJ AZ ga gb gg)) (λE=>by simp only[ai,den,ga,gb,gg];exact rfl) λW2 bs2 b4 hx2 hb4 hn4 hc4=>?_
 refine Wp.cS 16 (ev (fJ AZ ga gb gg)) (λE=>by simp only[ai,den,ga,gb,gg];exact rfl) λW3 bs3 b5 hx3 hb5 hn5 hc5=>?_
 refine wZ (sK AZ ga gb gg w1 @lK) ?_;have hx:=(hx1.trans hx2).trans hx3;have u0:=aE.up w S;have u1:=u0.ext hx1;have u2:=u1.ext hx2;have s0:aY w S W3 (bF (aE w S) bs3):=(aE.eQ w S).trans (hx.dW) (Nat.le_refl _)
 refine⟨[_,_],λE=>rfl,_,rfl,.join g b5 b3 b4 fa fb a.2 b.2 ⟨⟨u2 b5 hn5,hb5⟩,cell_of hc5 0 sI⟩ ?_ ?_ (h1.mono s0) (h2.mono s0)⟩
 ·exact XC.mono (XC.mono ⟨⟨u0 b3 hn3,hb3⟩,cell_of hc3 1 sI⟩ hx2.dW) hx3.dW
 ·exact XC.mono ⟨⟨u1 b4 hn4,hb4⟩,cell_of hc4 1 sI⟩ hx3.dW
def jw(g:Jn)(a b:RL):lQ prog 180 where
 kinds:=[some (Sh.two,dX a),some (Sh.two,dX b),none]
 pre:=λas_ _ _=>(a.1<=2001/\b.1<=2001)/\∃ x y,as_=[x,y,.val g.v]
 premono:=λ_ _ _ _ _ _ h=>h
 out:=λ_=>.fact Sh.two (dX (bf g.mk a b))
 enters:=call180
 ok:=by
  intro w S us as_ hu hp;obtain⟨⟨ha,hb⟩,x,y,rfl⟩:=hp
  match us,hu with
  |[u1,u2,u3],hu=>
   obtain⟨h1,h2,rfl,_⟩:=hu;obtain⟨fa,rfl,h1'⟩:=mc h1;obtain⟨fb,rfl,h2'⟩:=mc h2;exact Y8 g a b fa fb ha hb w S h1' h2'
theorem abc(a:RL)(fa:Value)(ha:a.1<=2001)(w:World)(S:Nat->Prop)(h1:bK w S fa a.2) :
  Calls prog 260 #[jC a fa] w λe w' => lh w S e w' (.fact Sh.two (dX (gz a))):=by
 have ga:partsOf (.v (jC a fa))=[.v (.int .i64 (a.1:Nat)),.v fa]:=rfl;have w1:IntKind.i64.wrap (1+(a.1:Int))=((1+a.1:Nat):Int):=wW;refine eL (nt:=9) S [.cell 2 254] func260 rfl rfl rfl ?_;refine vR Γ40 (aa AZ ga) ?_;refine vR Γ40 (fJ AZ ga w1 @lK) ?_
 refine Wp.cS 0 (ev (aa AZ ga)) (λE=>by simp only[ai,den,ga];exact rfl) λW1 bs1 b3 hx1 hb3 hn3 hc3=>?_
 refine wZ (fJ AZ ga w1 @lK) ?_;have s0:aY w S W1 (bF (aE w S) bs1):=(aE.eQ w S).trans (hx1.dW) (Nat.le_refl _);exact⟨[_,_],λE=>rfl,_,rfl,.star b3 fa a.2 ⟨⟨aE.up w S b3 hn3,hb3⟩,cell_of hc3 1 sI⟩ (h1.mono s0)⟩
def CF(a:RL):lQ prog 260 where
 kinds:=[some (Sh.two,dX a)]
 pre:=λas_ _ _=>a.1<=2001/\∃ x,as_=[x]
 premono:=λ_ _ _ _ _ _ h=>h
 out:=λ_=>.fact Sh.two (dX (gz a))
 enters:=call260
 ok:=by
  intro w S us as_ hu hp;obtain⟨hp,x,rfl⟩:=hp
  match us,hu with
  |[u1],hu=>
   obtain⟨h1,_⟩:=hu;obtain⟨fa,rfl,h1'⟩:=mc h1;exact abc a fa hp w S h1'
noncomputable def Γ41(G:Nat->Prop)(a:RL):Env prog:=⟨λ| 249=>some ((qH .eps).spec G)|180=>some ((jw .alt a (bV .eps)).spec G)|_=>none,λ_=>none,λ_ _=>none⟩
theorem ahf(G:Nat->Prop)(a:RL):(Γ41 G a).sp 249=some ((qH .eps).spec G):=rfl
theorem ahe(G:Nat->Prop)(a:RL):(Γ41 G a).sp 180=some ((jw .alt a (bV .eps)).spec G):=rfl
def adO:=(EP AZ @cK @qH.eq_1 @jw.eq_1 @CF.eq_1 @ahf @ahe)
theorem U5(a:RL)(fa:Value)(ha:a.1<=2001)(w:World)(S:Nat->Prop)(h1:bK w S fa a.2) :
  Calls prog 261 #[jC a fa] w λe w' => lh w S e w' (.fact Sh.two (dX (bO a))):=by
 have ga:partsOf (.v (jC a fa))=[.v (.int .i64 (a.1:Nat)),.v fa]:=rfl;refine eL (nt:=8) S [.cell 2 254] func261 rfl rfl rfl ?_;refine vR Γ40 (aa adO ga) ?_;refine kA (Γ41 (aE w S) a) (aa adO ga) ?_ ?_
 ·have u0:=aE.up w S;exact⟨⟨rfl,u0⟩,⟨cd (h1.mono (aE.eQ w S)),⟨ha,dE⟩,_,_,rfl⟩,u0⟩
 refine Wp.da 48 (ev (aa adO ga)) (aY.refl _ _) λW1 bs1 cs hx1 hΦ=>?_
 obtain⟨fv,rfl,hg,hv1⟩:=cE hΦ;refine wZ (bw adO ga hv1) ?_;exact oX hg
def yd(a:RL):lQ prog 261 where
 kinds:=[some (Sh.two,dX a)]
 pre:=λas_ _ _=>a.1<=2001/\∃ x,as_=[x]
 premono:=λ_ _ _ _ _ _ h=>h
 out:=λ_=>.fact Sh.two (dX (bO a))
 enters:=call261
 ok:=by
  intro w S us as_ hu hp;obtain⟨hp,x,rfl⟩:=hp
  match us,hu with
  |[u1],hu=>
   obtain⟨h1,_⟩:=hu;obtain⟨fa,rfl,h1'⟩:=mc h1;exact U5 a fa hp w S h1'
theorem uf(f:RL->RL):∀ (n:Nat) (x:RL),bH f (n+1) x=f (bH f n x)
 |0,x=>rfl
 |n+1,x=>by rw[bH,uf f n,<- bH]
theorem gn(mk:Rx->Rx->Rx)(a b:RL):(bf mk a b).1<=2001:=lA _
theorem rA(f:RL->RL)(hf:∀ x,(f x).1<=2001):∀ (n:Nat) (x:RL),x.1<=2001->(bH f n x).1<=2001
 |0,x,h=>h
 |n+1,x,h=>rA f hf n (f x) (hf x)
noncomputable def Γ42(G:Nat->Prop)(x y a:RL):Env prog:=⟨λ| 249=>some ((qH .eps).spec G)|180=>some ((jw .cat x y).spec G)|260=>some ((CF a).spec G)|261=>some ((yd a).spec G)|_=>none,λ_=>none,λ_ _=>none⟩
theorem ahh(G:Nat->Prop)(x y a:RL):(Γ42 G x y a).sp 249=some ((qH .eps).spec G):=rfl
theorem ahg(G:Nat->Prop)(x y a:RL):(Γ42 G x y a).sp 180=some ((jw .cat x y).spec G):=rfl
theorem ahi(G:Nat->Prop)(x y a:RL):(Γ42 G x y a).sp 260=some ((CF a).spec G):=rfl
theorem ahj(G:Nat->Prop)(x y a:RL):(Γ42 G x y a).sp 261=some ((yd a).spec G):=rfl
theorem r8(a:RL):(gz a).1<=2001:=lA _
theorem oI(a:RL):(bO a).1<=2001:=lA _
structure TI where
 W:World
 bs:List Nat
 fo:Value
 j:Nat
def cy:=(ae @List.replicate_succ.{0} @List.replicate_zero.{0} @au @ab kQ kS kU (ae dc dd de df dv dw dz (ae dA iA iB iC iD wU wV (ae wX wY w4 w5 DL DM DN (ae DO DP DQ DR Ge Gf Gg (ae @aV @aw @aD @aG @cK @qH.eq_1 @jw.eq_1 (sK @CF.eq_1 @yd.eq_1 @ahh @ahg @ahi @ahj)))))))
theorem WH(a:RL)(m n:Int)(fa:Value)(ha:a.1<=2001)(hm0:0<=m)(hm1:m<=255)(hn0:-1<=n)(hn1:n<=255)(w:World)(S:Nat->Prop)(h1:bK w S fa a.2) :
  Calls prog 266 #[jC a fa,.int .i64 m,.int .i64 n] w λe w' => lh w S e w' (.fact Sh.two (dX (dt a m n))):=by
 have ga:partsOf (.v (jC a fa))=[.v (.int .i64 (a.1:Nat)),.v fa]:=rfl;have u0:=aE.up w S;have g0:=h1.mono (aE.eQ w S);refine eL (nt:=55) S [.cell 6 254] func266 rfl rfl rfl ?_;refine vR Γ0 (aa cy ga) ?_;refine Wp.seq ?_;refine vR Γ0 cy ?_;refine wC cy (λhc=>?_) (λhc=>?_)
 ·have hc' : m=0/\n<0:=by simpa using hc
  have hR:dt a m n=gz a:=by rw[dt,if_pos hc']
  rw[hR];refine wR (Γ42 (aE w S) a a a) (aa cy ga) ?_ ?_
  ·exact⟨⟨cd g0,ha,_,rfl⟩,u0⟩
  refine Wp.da 72 (ev (aa cy ga)) (aY.refl _ _) λW1 bs1 cs hx1 hΦ=>?_
  obtain⟨fv,rfl,hg,hv1⟩:=cE hΦ;refine wZ (bw cy ga hv1) ?_;exact oX hg
 ·have hc1:¬ (m=0/\n<0):=by simpa using hc
  refine wK ?_;refine Wp.seq ?_;refine vR Γ0 cy ?_;refine wC cy (λhc=>?_) (λhc=>?_)
  ·have hc' : m=0/\n=0:=by simpa using hc
   have hR:dt a m n=bV .eps:=by rw[dt,if_neg hc1,if_pos hc']
   rw[hR];refine wR (Γ42 (aE w S) a a a) (aa cy ga) ?_ ?_
   ·exact⟨rfl,u0⟩
   refine Wp.da 128 (ev (aa cy ga)) (aY.refl _ _) λW1 bs1 cs hx1 hΦ=>?_
   obtain⟨fv,rfl,hg,hv1⟩:=cE hΦ;refine wZ (bw cy ga hv1) ?_;exact oX hg
  ·have hc2:¬ (m=0/\n=0):=by simpa using hc
   refine wK ?_;refine wR Γ0 (aa cy ga) ?_ ?_
   ·exact h1.one
   refine vR Γ0 cy ?_;generalize hr0:(if m=0 then bO a else a)=r0;have hr0' : r0.1<=2001:=by rw[<- hr0];split;exact oI a;exact ha
   refine AH (λp:TI=>⟨20,ee [(1,.is (.v (.int .i64 m))),(2,.is (.v (.int .i64 n))),(3,.is (.own 0 0)),(6,.is (.own 8 0)),(7,.is (.own 120 0)),(8,.is (.v (.int .i64 1)))],dP [(0,.cells 254 [.v (.int .i64 (a.1:Nat)),.v fa]),(8,.cells 254 [.v (.int .i64 0),.v .nilFunc]),(120,.cells 254 [.v (.int .i64 (r0.1:Nat)),.v p.fo])]⟩) TI.W TI.bs
    (λp=>bK p.W (bF (aE w S) p.bs) p.fo r0.2) ?_ ?_
   ·skip;refine vR Γ0 cy ?_;refine wC cy (λhc=>?_) (λhc=>?_)
    ·have hm:m=0:=by simpa using hc
     rw[if_pos hm]at hr0;subst hr0;refine Wp.more ?_;refine wr (Γ42 (aE w S) a a a) (aa cy ga) ?_ ?_
     ·exact⟨⟨cd g0,ha,_,rfl⟩,u0⟩
     refine dh ?_;refine Pw.da 168 (ev (aa cy ga)) (aY.refl _ _) λW1 bs1 cs hx1 hΦ=>?_
     obtain⟨fv,rfl,hg,hv1⟩:=cE hΦ;refine Pw.here ?_;refine qq ?_;refine⟨⟨W1,bs1,fv,0⟩,hg,rfl,rfl,?_⟩;exact wM (λk=>.key k) (bw cy ga hv1)
    ·have hm:¬ m=0:=by simpa using hc
     rw[if_neg hm]at hr0;subst hr0;refine wK ?_;refine⟨⟨w,[],fa,0⟩,g0,rfl,rfl,?_⟩;exact wM (λk=>.key k) (aa cy ga)
   rintro⟨W0,bs0,fo,j0⟩ hfo hx0;simp only at hfo hx0;dsimp only;have hR1:dt a m n=if n<0 then bf .cat (bH (λx=>bf .cat x a) (m-1).toNat r0) (gz a) else bH (λx=>bf .cat x (bO a)) (n-max m 1).toNat (bH (λx=>bf .cat x a) (m-1).toNat r0):=by
    rw[dt,if_neg hc1,if_neg hc2,hr0]
   have hi1:∀ k,(bH (λx=>bf .cat x a) k r0).1<=2001:=λk=>rA _ (λx=>gn _ _ _) k r0 hr0'
   refine Wp.seq (Wp.block ?_)
   refine Wp.qI (λp:TI=>⟨23,ee [(1,.is (.v (.int .i64 m))),(2,.is (.v (.int .i64 n))),(3,.is (.own 0 0)),(6,.is (.own 8 0)),(7,.is (.own 120 0)),(8,.is (.v (.int .i64 ((p.j:Nat)+1))))],dP [(0,.cells 254 [.v (.int .i64 (a.1:Nat)),.v fa]),(8,.cells 254 [.v (.int .i64 0),.v .nilFunc]),(120,.cells 254 [.v (.int .i64 ((bH (λx=>bf .cat x a) p.j r0).1:Nat)),.v p.fo])]⟩)
    TI.W TI.bs (λp=>p.j<=(m-1).toNat/\bK p.W (bF (aE w S) p.bs) p.fo (bH (λx=>bf .cat x a) p.j r0).2) (λp=>(m-1).toNat-p.j) ⟨W0,bs0,fo,0⟩ rfl rfl ?_ ⟨Nat.zero_le _,hfo⟩ ?_
   ·exact wM (λk=>.key k) (qE cy @bH.eq_1 @bH.eq_2 @Int.natCast_zero @Int.zero_add)
   rintro⟨W1,bs1,fo1,j⟩ ⟨hj,hfo1⟩ hx1;simp only at hj hfo1 hx1;dsimp only;have hx01:=hx0.trans hx1;have u1:=u0.ext hx01;have g1:=g0.mono hx01.dW;refine Wp.seq ?_;refine vR Γ0 cy ?_;refine wC cy (λhc=>?_) (λhc=>?_)
   ·have hjm:(j:Int)+1<m:=by simpa using hc
    refine wK ?_;refine Wp.seq (Wp.block ?_);refine Wp.more ?_;refine wr (Γ42 (aE w S) (bH (λx=>bf .cat x a) j r0) a a) (aa cy ga) ?_ ?_
    ·exact⟨⟨⟨cd hfo1,cd g1⟩,⟨hi1 j,ha⟩,_,_,rfl⟩,u1⟩
    refine dh ?_;refine Pw.da 224 (ev (aa cy ga)) (aY.refl _ _) λW2 bs2 cs hx2 hΦ=>?_
    obtain⟨fv,rfl,hg,hv1⟩:=cE hΦ;refine Pw.here ?_;refine qq ?_;have wn:IntKind.i64.wrap ((j:Int)+1+1)=((j+1:Nat):Int)+1:=wW;have e:bH (λx=>bf .cat x a) (j+1) r0=bf Jn.cat.mk (bH (λx=>bf .cat x a) j r0) a:=uf _ _ _;refine vr Γ0 (aa cy wn) ?_
    refine⟨⟨W2,bs2,fv,j+1⟩,⟨by simp only;omega,by simp only;rw[e];exact hg⟩,by simp only;omega,rfl,rfl,?_⟩;exact wM (λk=>.key k) (fJ cy ga hv1 e)
   ·have hjm:¬ (j:Int)+1<m:=by simpa using hc
    have hj' : j=(m-1).toNat:=oM;generalize hr1:bH (λx=>bf .cat x a) (m-1).toNat r0=r1 at hR1;have hr1' : r1.1<=2001:=by rw[<- hr1];exact hi1 _
    rw[hj',hr1]at hfo1;rw[hj',hr1];refine wE ?_;refine Wp.seq ?_;refine vR Γ0 cy ?_;refine wC cy (λhc=>?_) (λhc=>?_)
    ·have hn:n<0:=by simpa using hc
     rw[hR1,if_pos hn];refine kA (Γ42 (aE w S) r1 (gz a) a) (aa cy ga) ?_ ?_
     ·exact⟨⟨⟨cd g1,ha,_,rfl⟩,u1⟩,⟨cd hfo1,⟨hr1',r8 a⟩,_,_,rfl⟩,u1⟩
     refine Wp.da 248 (ev (aa cy ga)) (aY.refl _ _) λW2 bs2 cs hx2 hΦ=>?_
     obtain⟨fv,rfl,hg,hv1⟩:=cE hΦ;refine wZ (bw cy ga hv1) ?_;exact oX hg
    ·have hn:¬ n<0:=by simpa using hc
     rw[hR1,if_neg hn];have hk0:((j:Nat):Int)+1=max m 1:=oM;have hi2:∀ k,(bH (λx=>bf .cat x (bO a)) k r1).1<=2001:=λk=>rA _ (λx=>gn _ _ _) k r1 hr1'
     refine wK ?_;rw[<- hj']at *;refine Wp.seq (Wp.block ?_)
     refine Wp.qI (λp:TI=>⟨28,ee [(2,.is (.v (.int .i64 n))),(3,.is (.own 0 0)),(6,.is (.own 8 0)),(7,.is (.own 120 0)),(8,.is (.v (.int .i64 (((j:Nat):Int)+1+(p.j:Nat)))))],dP [(0,.cells 254 [.v (.int .i64 (a.1:Nat)),.v fa]),(8,.cells 254 [.v (.int .i64 0),.v .nilFunc]),(120,.cells 254 [.v (.int .i64 ((bH (λx=>bf .cat x (bO a)) p.j r1).1:Nat)),.v p.fo])]⟩)
      TI.W TI.bs (λp=>p.j<=(n-max m 1).toNat/\bK p.W (bF (aE w S) p.bs) p.fo (bH (λx=>bf .cat x (bO a)) p.j r1).2) (λp=>(n-max m 1).toNat-p.j) ⟨W1,bs1,fo1,0⟩ rfl rfl ?_ ⟨Nat.zero_le _,hfo1⟩ ?_
     ·exact wM (λk=>.key k) (qE cy @bH.eq_1 @bH.eq_2 @Int.natCast_zero @Int.add_zero)
     rintro⟨W3,bs3,fo3,i⟩ ⟨hi,hfo3⟩ hx3;simp only at hi hfo3 hx3;dsimp only;have u3:=u1.ext hx3;have g3:=g1.mono hx3.dW;refine Wp.seq ?_;refine vR Γ0 cy ?_;refine wC cy (λhc=>?_) (λhc=>?_)
     ·have hin:(j:Int)+1+i<n:=by simpa using hc
      refine wK ?_;refine Wp.seq (Wp.block ?_);refine Wp.more ?_;refine Jt (Γ42 (aE w S) (bH (λx=>bf .cat x (bO a)) i r1) (bO a) a) (aa cy ga) ?_ ?_
      ·exact⟨⟨⟨cd g3,ha,_,rfl⟩,u3⟩,⟨cd hfo3,⟨hi2 i,oI a⟩,_,_,rfl⟩,u3⟩
      refine dh ?_;refine Pw.da 272 (ev (aa cy ga)) (aY.refl _ _) λW4 bs4 cs hx4 hΦ=>?_
      obtain⟨fv,rfl,hg,hv1⟩:=cE hΦ;refine Pw.here ?_;refine qq ?_;have wn:IntKind.i64.wrap ((j:Int)+1+i+1)=(j:Int)+1+((i+1:Nat):Int):=wW;have e:bH (λx=>bf .cat x (bO a)) (i+1) r1=bf Jn.cat.mk (bH (λx=>bf .cat x (bO a)) i r1) (bO a):=uf _ _ _;refine vr Γ0 (aa cy wn) ?_
      refine⟨⟨W4,bs4,fv,i+1⟩,⟨by simp only;omega,by simp only;rw[e];exact hg⟩,by simp only;omega,rfl,rfl,?_⟩;exact wM (λk=>.key k) (fJ cy ga hv1 e)
     ·have hin:¬ (j:Int)+1+i<n:=by simpa using hc
      have hi' : i=(n-max m 1).toNat:=oM;refine wE ?_;refine wR Γ0 cy ?_ ?_
      ·exact hfo3.one
      refine wZ cy ?_;rw[<- hi'];exact oX hfo3
def CM(a:RL):lQ prog 266 where
 kinds:=[some (Sh.two,dX a),none,none]
 pre:=λas_ _ _=>a.1<=2001/\∃ x m n,as_=[x,.val (.int .i64 m),.val (.int .i64 n)]/\0<=m/\m<=255/\-1<=n/\n<=255
 premono:=λ_ _ _ _ _ _ h=>h
 out:=fun
  |[_,.val (.int .i64 m),.val (.int .i64 n)]=>.fact Sh.two (dX (dt a m n))
  |_=>.val undef
 enters:=call266
 ok:=by
  intro w S us as_ hu hp;obtain⟨ha,x,m,n,rfl,hp⟩:=hp
  match us,hu with
  |[u1,u2,u3],hu=>
   obtain⟨h1,rfl,rfl,_⟩:=hu;obtain⟨fa,rfl,h1'⟩:=mc h1;exact WH a m n fa ha hp.1 hp.2.1 hp.2.2.1 hp.2.2.2 w S h1'
def two(g:Jn)(x y:Value):Value:=.iface g.T (.agg #[x,y])
theorem abB(g:Jn)(a b:Rx):two g (ax a) (ax b)=ax (g.mk a b):=by cases g<;>rfl
def ow:=(ae @List.replicate_succ.{0} @List.replicate_zero.{0} @au @ab kQ kS iA (ae iB iC iD SA SB SC wU (ae wV wX wY w4 w5 Mi Mj (ae Mk Ml Mm Mn Mp Mq DC (ae DD DE DF DG DH DI DJ (ae DK F5 F6 F7 F8 F9 Ga (ae Gb Gc Gd Mr Mt Mu Mv (ae Mw Mx My Mz MA MB MC (ae MD ME MF MG MH MJ MK (ae Ge Gf Gg @aV @aw @aD @aG (bw @b6 (λt=>fE (aL t)) @aL)))))))))))
theorem ajT(a b:Rx)(w:World):Calls prog 252 #[ax a,ax b] w λe w' => e=.returned (two .cat (ax a) (ax b))/\an w [] w' := by
 refine ak (nt:=9) [.tmp 4] func252 rfl rfl rfl ?_;refine vR Γ0 ow ?_;refine vR Γ0 ow ?_;refine wZ ow ?_;exact λE=>rfl
theorem ajQ(a b:Rx)(w:World):Calls prog 181 #[ax a,ax b] w λe w' => e=.returned (two .alt (ax a) (ax b))/\an w [] w' := by
 refine ak (nt:=9) [.tmp 4] func181 rfl rfl rfl ?_;refine vR Γ0 ow ?_;refine vR Γ0 ow ?_;refine wZ ow ?_;exact λE=>rfl
theorem ajR(a b:Rx)(w:World):Calls prog 217 #[ax a,ax b] w λe w' => e=.returned (two .and (ax a) (ax b))/\an w [] w' := by
 refine ak (nt:=9) [.tmp 4] func217 rfl rfl rfl ?_;refine vR Γ0 ow ?_;refine vR Γ0 ow ?_;refine wZ ow ?_;exact λE=>rfl
theorem ZH(a b:Rx)(w:World):Calls prog 218 #[ax a,ax b] w λe w' => e=.returned (two .minus (ax a) (ax b))/\an w [] w' := by
 refine ak (nt:=9) [.tmp 4] func218 rfl rfl rfl ?_;refine vR Γ0 ow ?_;refine vR Γ0 ow ?_;refine wZ ow ?_;exact λE=>rfl
theorem ajS:∀ (g:Jn) (a b:Rx) (w:World),Calls prog g.f #[ax a,ax b] w λe w' => e=.returned (two g (ax a) (ax b))/\an w [] w'
 |.cat,a,b,w=>ajT a b w
 |.alt,a,b,w=>ajQ a b w
 |.and,a,b,w=>ajR a b w
 |.minus,a,b,w=>ZH a b w
theorem Ve:∀ (g:Jn) args w,(callFunc g.f args).run prog w=.ok (.enter g.f args) w
 |.cat=>call252
 |.alt=>call181
 |.and=>call217
 |.minus=>call218
def mkC(g:Jn):a7 prog g.f where
 pre:=λW bs as_=>∃ a b,as_=[.val (ax a),.val (ax b)]
 res:=λW=>λ| [.val x,.val y]=>two g x y|_=>undef
 enters:=Ve g
 ok:=by
  rintro W w bs us _ hk hu ⟨a,b,rfl⟩
  match us,hu with
  |[u,v],hu=>
   obtain⟨rfl,rfl,_⟩:=hu;exact ajS g a b w
theorem aeO(g:Jn)(W:World)(x y:Value):(mkC g).res W [.val x,.val y]=two g x y:=rfl
theorem aeN(g:Jn)(W:World)(bs:List Nat)(as_:List AV):(mkC g).pre W bs as_=∃ a b,as_=[.val (ax a),.val (ax b)]:=rfl
def dp:Rx->Nat
 |.eps=>0
 |.cls _=>0
 |.cat a b=>dp a+dp b+1
 |.alt a b=>dp a+dp b+1
 |.star a=>dp a+1
 |.and a b=>dp a+dp b+1
 |.minus a b=>dp a+dp b+1
theorem alq(g:Jn)(a b:Rx):dp (g.mk a b)=dp a+dp b+1:=by cases g<;>rfl
def kC(f:FuncId):Prop:=f=259\/f=220\/f=264
theorem bK.shape{W:World}{S:Nat->Prop}{v:Value}{t:Rx}(h:bK W S v t):∃ f cap,v=.func (.func f) #[] cap/\kC f:=by
 cases h with
 |leaf=>exact⟨_,_,rfl,.inl rfl⟩
 |join=>exact⟨_,_,rfl,.inr (.inl rfl)⟩
 |star=>exact⟨_,_,rfl,.inr (.inr rfl)⟩
theorem Ko{f:FuncId}(h:kC f):∀ args w,(callFunc f args).run prog w=.ok (.enter f args) w:=by
 rcases h with rfl|rfl|rfl
 ·exact call259
 ·exact call220
 ·exact call264
def jm(n:Nat):Prop:=∀ f cap w S t,bK w S (.func (.func f) #[] cap) t->dp t<n->Calls prog f cap w λe w' => e=.returned (ax t)/\an w [] w'
open Classical in
noncomputable def As(W:World)(f:FuncId)(as_:List AV):Value:=
 if h:∃ (cap:List Value) (t:Rx),as_=cap.map .val/\bK W (λ_=>True) (.func (.func f) #[] cap.toArray) t then ax h.choose_spec.choose else undef
theorem KK{l m:List Value}(h:l.map AV.val=m.map .val):l=m:=by
 have:=congrArg (List.map λ| AV.val v=>v|_=>undef) h;simpa [Function.comp_def] using this
theorem lX{W:World}{S:Nat->Prop}{f:FuncId}{cap:List Value}{t:Rx}(h:bK W S (.func (.func f) #[] cap.toArray) t):As W f (cap.map .val)=ax t:=by
 have h1:=h.mono (S' := λ_=>True) (W' := W) λb _ _=>⟨rfl,trivial⟩
 have hex:∃ (c:List Value) (t:Rx),cap.map AV.val=c.map .val/\bK W (λ_=>True) (.func (.func f) #[] c.toArray) t:=⟨cap,t,rfl,h1⟩;rw[As,dif_pos hex];obtain⟨g1,g2⟩:=hex.choose_spec.choose_spec;have key:∀ (c:List Value) (t' : Rx),cap=c->bK W (λ_=>True) (.func (.func f) #[] c.toArray) t' -> t' = t:=by
  rintro _ t' rfl hg;exact (h1.fn hg).symm
 rw[key _ _ (KK g1) g2]
theorem ze{w:World}:∀ {us cap:List Value},eW w us (cap.map .val)->us=cap
 |[],[],_=>rfl
 |u::us,c::cap,h=>by rw[h.1,ze h.2]
 |[],_::_,h=>h.elim
 |_::_,[],h=>h.elim
noncomputable def Kn(n:Nat)(ih:jm n)(f:FuncId)(hf:kC f):a7 prog f where
 pre:=λW bs as_=>∃ (cap:List Value) (t:Rx),as_=cap.map .val/\bK W (Out bs) (.func (.func f) #[] cap.toArray) t/\dp t<n
 res:=λW as_=>As W f as_
 enters:=Ko hf
 ok:=by
  rintro W w bs us _ hk hu ⟨cap,t,rfl,hg,hd⟩;rw[lX hg,ze hu];exact ih f _ w (Out bs) t (hg.mono hk.eQ) hd
open Classical in
noncomputable def Ok(n:Nat)(ih:jm n)(f:FuncId):Option (Go.LE.Spec prog f):=if hf:kC f then some (Kn n ih f hf).spec else none
theorem Ul(n:Nat)(ih:jm n)(f:FuncId)(hf:kC f):Ok n ih f=some (Kn n ih f hf).spec:=dif_pos hf
noncomputable def Γ43(n:Nat)(ih:jm n):Env prog:=⟨λ| 252=>some (mkC .cat).spec|181=>some (mkC .alt).spec|217=>some (mkC .and).spec|218=>some (mkC .minus).spec|f=>Ok n ih f,λ_=>none,λ_ _=>none⟩
theorem akV(n:Nat)(ih:jm n)(g:Jn):(Γ43 n ih).sp g.f=some (mkC g).spec:=by cases g<;>rfl
theorem xr(n:Nat)(ih:jm n)(f:FuncId)(hf:kC f):(Γ43 n ih).sp f=some (Kn n ih f hf).spec:=by
 rw[<- Ul];rcases hf with rfl|rfl|rfl<;>rfl
theorem Fi(n:Nat)(ih:jm n)(f:FuncId)(hf:kC f)(W:World)(as_:List AV):(Kn n ih f hf).res W as_=As W f as_:=rfl
theorem Fh(n:Nat)(ih:jm n)(f:FuncId)(hf:kC f)(W:World)(bs:List Nat)(as_:List AV):(Kn n ih f hf).pre W bs as_=∃ (cap:List Value) (t:Rx),as_=cap.map .val/\bK W (Out bs) (.func (.func f) #[] cap.toArray) t/\dp t<n:=rfl
theorem qA(h:Hp):∀ l:List Value,aB h (l.map .v)=some (l.map .val,[])
 |[]=>rfl
 |x::r=>by rw[List.map_cons,DX,qA h r];rfl
theorem Hn{W:World}{S:Nat->Prop}{v:Value}{t:Rx}(h:bK W S v t):bK W (Out []) v t:=h.mono λb _ _=>⟨rfl,by simp[Out]⟩
def vc:=(sK ow @aeO @aeN @Fi @Fh @akV)
theorem Un(b:Nat)(t:Rx)(w:World)(S:Nat->Prop)(h:XC w S b 0 (ax t)):Calls prog 259 #[pG b] w λe w' => e=.returned (ax t)/\an w [] w' := by
 have h1:w.cell? ⟨b,0,none⟩=some (ax t):=h.2;refine ak (nt:=3) [.tmp 1] func259 rfl rfl rfl ?_;refine vR Γ0 (aa vc @pG.eq_1) ?_;refine vR Γ0 (bw vc @pG.eq_1 h1) ?_;refine wZ vc ?_;exact λE=>rfl
theorem Uo(n:Nat)(ih:jm n)(b:Nat)(fa:Value)(ta:Rx)(w:World)(S:Nat->Prop)(h:XC w S b 1 fa)(hg:bK w S fa ta)(hd:dp ta<n) :
  Calls prog 264 #[pG b] w λe w' => e=.returned (ax (.star ta))/\an w [] w' := by
 have h1:w.cell? ⟨b,0+1,none⟩=some fa:=by rw[Nat.zero_add];exact h.2
 obtain⟨f,cap,rfl,hf⟩:=hg.shape;obtain⟨cap,rfl⟩:∃ l:List Value,cap=l.toArray:=⟨cap.toList,sI⟩;have hr:=lX hg;have hs:=xr n ih f hf;refine ak (nt:=7) [.tmp 1] func264 rfl rfl rfl ?_;refine vR Γ0 (aa vc @pG.eq_1) ?_;refine wR (Γ43 n ih) (sK vc @pG.eq_1 h1 hs hr @qA) ?_ ?_
 ·exact⟨cap,ta,rfl,Hn hg,hd⟩
 refine wZ vc ?_;exact λE=>rfl
theorem Um(n:Nat)(ih:jm n)(g:Jn)(b5 b3 b4:Nat)(fa fb:Value)(ta tb:Rx)(w:World)(S:Nat->Prop)(h5:XC w S b5 0 g.v)(h3:XC w S b3 1 fa)(h4:XC w S b4 1 fb)
  (hga:bK w S fa ta) (hgb:bK w S fb tb) (hda:dp ta<n) (hdb:dp tb<n) :
  Calls prog 220 #[pG b5,pG b3,pG b4] w λe w' => e=.returned (ax (g.mk ta tb))/\an w [] w' := by
 have g5:w.cell? ⟨b5,0,none⟩=some (.func (.func g.f) #[] #[]):=h5.2;have g3:w.cell? ⟨b3,0+1,none⟩=some fa:=by rw[Nat.zero_add];exact h3.2
 have g4:w.cell? ⟨b4,0+1,none⟩=some fb:=by rw[Nat.zero_add];exact h4.2
 obtain⟨f,cap,rfl,hf⟩:=hga.shape;obtain⟨cap,rfl⟩:∃ l:List Value,cap=l.toArray:=⟨cap.toList,sI⟩;obtain⟨f',cap',rfl,hf'⟩:=hgb.shape;obtain⟨cap',rfl⟩:∃ l:List Value,cap' = l.toArray:=⟨cap'.toList,sI⟩;have hr:=lX hga;have hs:=xr n ih f hf;have hr' := lX hgb;have hs' := xr n ih f' hf'
 refine ak (nt:=12) [.tmp 3] func220 rfl rfl rfl ?_;refine vR Γ0 (aa vc @pG.eq_1) ?_;refine kA (Γ43 n ih) (ae vc @pG.eq_1 g5 g3 g4 hs hs' (bw hr hr' @qA)) ?_ ?_
 ·exact⟨⟨cap,ta,rfl,Hn hga,hda⟩,⟨cap',tb,rfl,Hn hgb,hdb⟩,ta,tb,rfl⟩
 refine wZ vc ?_;exact λE=>abB g ta tb
theorem At:∀ n,jm n
 |0=>λ_ _ _ _ _ _ h=>by omega
 | n+1=>by
  have ih:=At n;intro f cap w S t h hd;cases h with
  |leaf b t h=>exact Un b t w S h
  |join g b5 b3 b4 fa fb ta tb h5 h3 h4 ha hb=>
   rw[alq]at hd;exact Um n ih g b5 b3 b4 fa fb ta tb w S h5 h3 h4 ha hb oM oM
  |star b fa ta h ha=>
   have:dp ta+1<n+1:=hd;exact Uo n ih b fa ta w S h ha oM
end
section
open Go.RowKit Go.LE Go.Proofs.Tryz
set_option maxRecDepth 10000
def z7(s:ByteArray)(i:Int)(d:Nat)(op:List Value):List AV:=[.val (.string s),.val (.int .i64 i),.row 3 1 d op]
def bb(c i:Int):List PanicEntry:=[{ v:=.iface 39 (pg c i ⟨#[]⟩),recovered:=false }]
theorem ajd{s:ByteArray}{i:Int}(h0:0<=i)(h:¬ i<s.size):bt s i=0:=by
 unfold bt;rw[Array.getElem?_eq_none (by have:s.data.size=s.size:=rfl;omega)];rfl
theorem Fg{w:World}{u:Value}{fp:List Nat}{s:ByteArray}{i:Int}{d:Nat}{op:List Value}(h:aW w u fp 251 (z7 s i d op)) :
  ∃ b,u=.pointer (some ⟨b,0,none⟩)/\w.cell? ⟨b,0,none⟩=some (.string s)/\w.cell? ⟨b,0+1,none⟩=some (.int .i64 i):=by
 obtain⟨b,us,h1,h2,h3⟩:=yg h
 match us,h2 with
 |[x,y,z],h2=>
  obtain⟨rfl,rfl,_,_⟩:=h2;exact⟨b,h1,h3 0 sI,h3 1 sI⟩
def adP:=(ae @List.replicate_succ.{0} @List.replicate_zero.{0} @au @ab kQ kS kU (ae dc dd de df dv dw dz (ae dA mV mW mX mY mZ eB (ae eC eD eE eF eG Jh Ji (ae Jj Jk n8 oa ob oc uK (ae uL uM uN uO uP uQ uR (ae uS uT Dq Dr Ds Dt Du (ae Dv Dw Dx Dy Dz DA DB (bw @z7.eq_1 @pg.eq_1 @bb.eq_1)))))))))
theorem T3(s:ByteArray)(i:Int)(b:Nat)(w:World)(g1:w.cell? ⟨b,0,none⟩=some (.string s))(g2:w.cell? ⟨b,0+1,none⟩=some (.int .i64 i)) :
  Calls prog 127 #[.pointer (some ⟨b,0,none⟩)] w λe w' => e=.returned (.bool (decide ((s.size:Int)<=i)))/\an w [] w' := by
 refine ak (nt:=13) [.tmp 2] func127 rfl rfl rfl ?_;refine vR Γ0 adP ?_;refine yY Γ0 (bw adP g1 g2) ?_;refine wZ adP ?_;exact λE=>rfl
def eM:y8 prog 127 where
 T:=251
 pre:=λW bs fs as_=>match fs,as_ with|[.val (.string s),.val (.int .i64 i),.row 3 1 d op],[]=>True|_,_=>False
 res:=λW fs as_=>match fs,as_ with|[.val (.string s),.val (.int .i64 i),.row 3 1 d op],[]=>.bool (decide ((s.size:Int)<=i))|_,_=>undef
 enters:=call127
 ok:=by
  intro W w bs u fp us fs as_ hk ho hu hp;split at hp
  ·rename_i s i d op
   match us,hu with
   |[],_=>
    obtain⟨b,rfl,g1,g2⟩:=Fg ho;exact T3 s i b w g1 g2
  ·exact hp.elim
theorem iN(W:World)(s:ByteArray)(i:Int)(d:Nat)(op:List Value):eM.res W [.val (.string s),.val (.int .i64 i),.row 3 1 d op] []=.bool (decide ((s.size:Int)<=i)):=rfl
theorem iM(W:World)(bs:List Nat)(s:ByteArray)(i:Int)(d:Nat)(op:List Value):eM.pre W bs [.val (.string s),.val (.int .i64 i),.row 3 1 d op] []=(True):=rfl
theorem lU:eM.T=251:=rfl
def JP:=(fJ adP @iN @iM @lU)
theorem ZQ(s:ByteArray)(i:Int)(b:Nat)(w:World)(h0:0<=i)(g1:w.cell? ⟨b,0,none⟩=some (.string s))(g2:w.cell? ⟨b,0+1,none⟩=some (.int .i64 i)) :
  Calls prog 179 #[.pointer (some ⟨b,0,none⟩)] w λe w' => e=.returned (.int .u8 (bt s i))/\an w [] w' := by
 refine ak (nt:=22) [.tmp 2] func179 rfl rfl rfl ?_;refine vR Γ0 JP ?_;refine Wp.seq ?_;refine yY Γ0 (bw JP g1 g2) ?_;refine wC JP (λhc=>?_) (λhc=>?_)
 ·have hi:i<s.size:=by simpa using hc
  refine yY Γ0 (bw JP g1 g2) ?_;refine wZ JP ?_;exact λE=>rfl
 ·have hi:¬ i<s.size:=by simpa using hc
  rw[ajd h0 hi];refine wK ?_;refine vR Γ0 JP ?_;refine wZ JP ?_;exact λE=>rfl
def jy:y8 prog 179 where
 T:=251
 pre:=λW bs fs as_=>match fs,as_ with|[.val (.string s),.val (.int .i64 i),.row 3 1 d op],[]=>0<=i|_,_=>False
 res:=λW fs as_=>match fs,as_ with|[.val (.string s),.val (.int .i64 i),.row 3 1 d op],[]=>.int .u8 (bt s i)|_,_=>undef
 enters:=call179
 ok:=by
  intro W w bs u fp us fs as_ hk ho hu hp;split at hp
  ·rename_i s i d op
   match us,hu with
   |[],_=>
    obtain⟨b,rfl,g1,g2⟩:=Fg ho;exact ZQ s i b w hp g1 g2
  ·exact hp.elim
theorem lN(W:World)(s:ByteArray)(i:Int)(d:Nat)(op:List Value):jy.res W [.val (.string s),.val (.int .i64 i),.row 3 1 d op] []=.int .u8 (bt s i):=rfl
theorem lM(W:World)(bs:List Nat)(s:ByteArray)(i:Int)(d:Nat)(op:List Value):jy.pre W bs [.val (.string s),.val (.int .i64 i),.row 3 1 d op] []=(0<=i):=rfl
theorem s8:jy.T=251:=rfl
def alh:=(fJ JP @lN @lM @s8)
theorem O7(s:ByteArray)(i:Int)(d:Nat)(op:List Value)(c j:Int)(u:Value)(fp:List Nat)(w:World)(ho:aW w u fp 251 (z7 s i d op))(hlt:∀ b∈fp,b<w.heap.size) :
  Calls prog 128 (#[u]++#[.int .i64 c,.int .i64 j]) w λe w' => dH w u fp 251 e w' (.pan (bb c j) (.tuple #[])):=by
 refine aN (nt:=10) #[.int .i64 c,.int .i64 j] [] (by show 3<=7;omega) ho hlt func128 rfl rfl rfl ?_;refine Wp.dF Γ0 aM (ev alh) ?_ ?_
 ·exact oo
 refine qq ?_;exact⟨_,rfl⟩
def gR:bJ prog 128 where
 T:=251
 pre:=λW bs fs as_=>match fs,as_ with|[.val (.string s),.val (.int .i64 i),.row 3 1 d op],[.val (.int .i64 c),.val (.int .i64 j)]=>True|_,_=>False
 out:=λW fs as_=>match fs,as_ with|[.val (.string s),.val (.int .i64 i),.row 3 1 d op],[.val (.int .i64 c),.val (.int .i64 j)]=>.pan (bb c j) (.tuple #[])|_,_=>.pan [] undef
 enters:=call128
 ok:=by
  intro W w bs u fp us fs as_ hk ho hlt hmine hu hp;split at hp
  ·rename_i s i d op c j
   match us,hu with
   |[u0,u1],hu=>
    obtain⟨rfl,rfl,_⟩:=hu;exact O7 s i d op c j u fp w ho hlt
  ·exact hp.elim
theorem kM(W:World)(s:ByteArray)(i:Int)(d:Nat)(op:List Value)(c:Int)(j:Int):gR.out W [.val (.string s),.val (.int .i64 i),.row 3 1 d op] [.val (.int .i64 c),.val (.int .i64 j)]=.pan (bb c j) (.tuple #[]):=rfl
theorem kN(W:World)(bs:List Nat)(s:ByteArray)(i:Int)(d:Nat)(op:List Value)(c:Int)(j:Int):gR.pre W bs [.val (.string s),.val (.int .i64 i),.row 3 1 d op] [.val (.int .i64 c),.val (.int .i64 j)]=(True):=rfl
theorem oU:gR.T=251:=rfl
noncomputable def Γ44:Env prog:=⟨λ| 127=>some eM.spec|179=>some jy.spec|128=>some gR.spec|_=>none,λ| _=>none,λ_ _=>none⟩
theorem ahk:Γ44.sp 127=some eM.spec:=rfl
theorem ahm:Γ44.sp 179=some jy.spec:=rfl
theorem ahl:Γ44.sp 128=some gR.spec:=rfl
def Z6(s:ByteArray)(d:Nat)(op:List Value):Except (Int×Int) (Int×Int)->BOut
 |.ok (n,j)=>.ret (.int .i64 n) (z7 s j d op)
 |.error (c,j)=>.pan (bb c j) (.int .i64 0)
theorem R9(s:ByteArray)(d:Nat)(op:List Value)(n j:Int):Z6 s d op (.ok (n,j))=.ret (.int .i64 n) (z7 s j d op):=rfl
theorem B0(s:ByteArray)(d:Nat)(op:List Value)(c j:Int):Z6 s d op (.error (c,j))=.pan (bb c j) (.int .i64 0):=rfl
theorem Vg(c:Int->Int)(N:Int)(k:Nat)(n i:Int)(h:¬ (i<N/\48<=c i/\c i<=57)):rK c N k n i=(n,i):=by
 cases k with
 |zero=>rfl
 |succ k=>rw[rK,if_neg h]
def bd:Nat->Int
 |0=>999
 |1=>99
 |2=>9
 |_=>0
theorem aik(k:Nat):bd k<=999:=by
 match k with
 |0=>simp[bd]
 |1=>simp[bd]
 |2=>simp[bd]
 |n+3=>simp[bd]
theorem Rk{k:Nat}(hk:k+1<=3):10*bd (k+1)+9<=bd k:=by
 match k,hk with
 |0,_=>simp[bd]
 |1,_=>simp[bd]
 |2,_=>simp[bd]
def vd:=(EP alh @kM @kN @oU ahk ahm ahl)
theorem OI(s:ByteArray)(i:Int)(d:Nat)(op:List Value)(u:Value)(fp:List Nat)(w:World)(h0:0<=i)(hi1:i<=s.size)(hs:s.size<=140737488351232)(ho:aW w u fp 251 (z7 s i d op))(hlt:∀ b∈fp,b<w.heap.size) :
  Calls prog 265 (#[u]++#[]) w λe w' => dH w u fp 251 e w' (Z6 s d op (oP (bt s) s.size i)):=by
 refine aN (nt:=58) #[] [.tmp 2] (by show 3<=7;omega) ho hlt func265 rfl rfl rfl ?_;refine vR Γ44 vd ?_;refine yY Γ44 vd ?_;generalize hR:rK (bt s) s.size 3 0 i=R;have w3:IntKind.i64.wrap (i+3)=i+3:=aA oM oM;refine Wp.seq (Wp.block ?_)
 refine Wp.loop (λp:Nat×Int=>⟨20,ee [(0,.is (.own 0 0)),(3,.is (.v (.int .i64 p.2))),(4,.is (.v (.int .i64 i)))],dP [(0,.cells 251 [.v (.string s),.v (.int .i64 (i+(3-(p.1:Nat)))),.hd 3]),(3,.row 3 1 d (op.map .v))]⟩)
  (λp=>p.1<=3/\(0<=p.2/\p.2<=bd p.1)/\i+(3-(p.1:Nat))<=s.size/\rK (bt s) s.size p.1 p.2 (i+(3-(p.1:Nat)))=R) (λp=>p.1) (3,0) ?_ ⟨sI,by simp[bd],by simpa using hi1,by simpa using hR⟩ ?_
 ·exact wM (λk=>.key k) (fJ vd @Int.sub_self @Int.add_zero (show (3:Int)-((3:Nat):Int)=0 from rfl))
 rintro⟨k,n⟩ ⟨hk,⟨hn0,hn1⟩,hi,hR'⟩;simp only at hk hn0 hn1 hi hR';have hbd:=aik k;refine Wp.seq ?_;refine wR Γ44 (aa vd w3) ?_ ?_
 ·exact⟨dE,λ_=>⟨dE,oM⟩,λ_=>⟨dE,oM⟩⟩
 refine wC vd (λhc=>?_) (λhc=>?_)
 ·simp only[Bool.and_eq_true,Bool.not_eq_true',decide_eq_true_eq,decide_eq_false_iff_not]at hc;obtain⟨⟨⟨h1,h2⟩,h3⟩,h4⟩:=hc;obtain⟨k,rfl⟩:∃ j,k=j+1:=⟨k-1,oM⟩;rw[rK,if_pos ⟨oM,h3,h4⟩]at hR';have hst:=Rk hk;generalize hat:i+(3-((k+1:Nat):Int))=at_ at *;have wa:IntKind.i64.wrap (10*n)=10*n:=aA oM oM
  have wb:IntKind.u8.wrap (bt s at_-48)=bt s at_-48:=uU oM oM;have wc:IntKind.i64.wrap (bt s at_-48)=bt s at_-48:=aA oM oM;have wd:IntKind.i64.wrap (10*n+(bt s at_-48))=10*n+(bt s at_-48):=aA oM oM;have we:IntKind.i64.wrap (at_+1)=i+(3-((k:Nat):Int)):=wW;refine wK ?_;refine Wp.block ?_
  refine wR Γ44 (qE vd wa wb wc wd) ?_ ?_
  ·exact⟨dE,oM⟩
  refine vr Γ44 (aa vd we) ?_;refine⟨(k,10*n+(bt s at_-48)),⟨by simp only;omega,⟨by simp only;omega,by simp only;omega⟩,by simp only;omega,by simp only;rw[show i+(3-(k:Int))=at_+1 by omega];exact hR'⟩,by simp only;omega,?_⟩;exact wM (λk=>.key k) vd
 ·have hst:¬ ((i+(3-(k:Int))<s.size/\i+(3-(k:Int))<i+3/\48<=bt s (i+(3-(k:Int))))/\bt s (i+(3-(k:Int)))<=57):=λh=>by
   apply Bool.eq_false_iff.1 hc;simp;omega
  have hRe:R=(n,i+(3-(k:Int))):=by
   rw[<- hR'];cases k with
   |zero=>rfl
   |succ k=>exact Vg _ _ _ _ _ (λh=>hst ⟨⟨h.1,oM,h.2.1⟩,h.2.2⟩)
  have he:oP (bt s) s.size i=if R.2=i then .error (20,i) else .ok R:=by rw[oP,hR]
  rw[he,hRe];refine wE ?_;refine Wp.seq ?_;refine vR Γ44 vd ?_;refine wC vd (λhc=>?_) (λhc=>?_)
  ·have h1:i+(3-(k:Int))=i:=by simpa using hc
   rw[if_pos h1,B0];refine Wp.dF Γ44 aM (ev (aa vd h1)) ?_ ?_
   ·exact⟨dE,sI⟩
   refine qq ?_;exact⟨_,rfl⟩
  ·have h1:¬ i+(3-(k:Int))=i:=by simpa using hc
   rw[if_neg h1,R9];refine wK ?_;refine vR Γ44 vd ?_;refine wZ vd ?_;exact⟨_,_,rfl,λE=>rfl,_,_,rfl,(ev (aa vd @aq)),dE⟩
def vT:bJ prog 265 where
 T:=251
 pre:=λW bs fs as_=>match fs,as_ with|[.val (.string s),.val (.int .i64 i),.row 3 1 d op],[]=>0<=i/\i<=s.size/\s.size<=140737488351232|_,_=>False
 out:=λW fs as_=>match fs,as_ with|[.val (.string s),.val (.int .i64 i),.row 3 1 d op],[]=>Z6 s d op (oP (bt s) s.size i)|_,_=>.pan [] undef
 enters:=call265
 ok:=by
  intro W w bs u fp us fs as_ hk ho hlt hmine hu hp;split at hp
  ·rename_i s i d op
   match us,hu with
   |[],_=>
    exact OI s i d op u fp w hp.1 hp.2.1 hp.2.2 ho hlt
  ·exact hp.elim
theorem KW(W:World)(s:ByteArray)(i:Int)(d:Nat)(op:List Value):vT.out W [.val (.string s),.val (.int .i64 i),.row 3 1 d op] []=Z6 s d op (oP (bt s) s.size i):=rfl
theorem KX(W:World)(bs:List Nat)(s:ByteArray)(i:Int)(d:Nat)(op:List Value):vT.pre W bs [.val (.string s),.val (.int .i64 i),.row 3 1 d op] []=(0<=i/\i<=s.size/\s.size<=140737488351232):=rfl
theorem Vh:vT.T=251:=rfl
theorem fN{r:RL}{W1:World}{bs1 fp:List Nat}{w:World}{S:Nat->Prop}{fv:Value}{T:TypeId}{h:Hp}{vs:List SV}{fs' : List AV}{ks:List Nat}(hg:bK W1 (bF (af w S fp) bs1) fv r.2)
  (h0:h 0=some (.cells T vs)) (hv:aB h vs=some (fs',ks)) (hn:(0::ks).Nodup):Ni w S fp T W1 bs1 (.agg [.v (.int .i64 (r.1:Nat)),.v fv]) h (.fact Sh.two (dX r) fs'):=
 ⟨⟨[.int .i64 (r.1:Nat),fv],λE=>(wJ r fv hg.one).symm,fv,rfl,hg⟩,vs,ks,h0,hv,hn⟩
theorem Qr(a:RL)(x:AV)(m n:Int):(CM a).out [x,.val (.int .i64 m),.val (.int .i64 n)]=.fact Sh.two (dX (dt a m n)):=rfl
theorem Qq(a:RL)(as_:List AV)(W:World)(S:Nat->Prop):(CM a).pre as_ W S=(a.1<=2001/\∃ x m n,as_=[x,.val (.int .i64 m),.val (.int .i64 n)]/\0<=m/\m<=255/\-1<=n/\n<=255):=rfl
theorem Ij(a:RL):(CM a).kinds=[some (Sh.two,dX a),none,none]:=rfl
noncomputable def Na(G:Nat->Prop)(a:RL):Env prog:=⟨λ| 127=>some eM.spec|179=>some jy.spec|128=>some gR.spec|265=>some vT.spec|266=>some ((CM a).spec G)|_=>none,λ_=>none,λ_ _=>none⟩
theorem ahn(G:Nat->Prop)(a:RL):(Na G a).sp 127=some eM.spec:=rfl
theorem ahp(G:Nat->Prop)(a:RL):(Na G a).sp 179=some jy.spec:=rfl
theorem aho(G:Nat->Prop)(a:RL):(Na G a).sp 128=some gR.spec:=rfl
theorem ahq(G:Nat->Prop)(a:RL):(Na G a).sp 265=some vT.spec:=rfl
theorem ahr(G:Nat->Prop)(a:RL):(Na G a).sp 266=some ((CM a).spec G):=rfl
def Co:Value:=.agg #[.int .i64 0,.nilFunc]
def Z5(a:RL)(s:ByteArray)(d:Nat)(op:List Value):Except (Int×Int) (Int×Int×Int)->GOut
 |.ok (m,n,j)=>.fact Sh.two (dX (dt a m n)) (z7 s j d op)
 |.error (c,j)=>.pan (bb c j) Co
theorem R2{c:Int->Int}{N i n j:Int}(h:oP c N i=.ok (n,j)):0<=n/\n<=999:=by
 have key:∀ (k:Nat) (n i:Int),k<=3->0<=n->n<=bd k->0<=(rK c N k n i).1/\(rK c N k n i).1<=999:=by
  intro k
  induction k with
  |zero=>intro n i _ h0 h1;exact⟨h0,h1⟩
  | succ k ih=>
   intro n i hk h0 h1;rw[rK];split
   ·rename_i h;have:=Rk hk;exact ih _ _ oM oM oM
   ·have:=aik (k+1);exact⟨h0,by simp only;omega⟩
 unfold oP at h;split at h
 ·cases h
 ·simp only[Except.ok.injEq]at h;have:=key 3 0 i (Nat.le_refl _) oM (by simp[bd]);rw[h]at this;exact this
def di:=(ae @List.replicate_succ.{0} @List.replicate_zero.{0} @au @ab kQ kS kU (ae dc dd de df dv dw dz (ae dA mV mW mX mY mZ n8 (ae oa ob oc Dq Dr Ds Dt (ae Du Dv Dw Dx Dy Dz DA (ae DB wU wV wX wY w4 w5 (ae @z7.eq_1 @pg.eq_1 @bb.eq_1 @aV @aw @aD @aG (ae @cK @e8 @iN @iM @lU @lN @lM (ae @s8 @kM @kN @oU @KW @KX @Vh (ae @R9 @B0 @ahn @ahp @aho @ahq @ahr (bw @Qr @Qq @Ij)))))))))))
theorem NB(s:ByteArray)(i:Int)(d:Nat)(op:List Value)(a:RL)(fa:Value)(ha:a.1<=2001)(u:Value)(fp:List Nat)(w:World)(S:Nat->Prop)(h0:0<=i)(hi1:i<s.size)(hs:s.size<=140737488351232)
  (ho:aW w u fp 251 (z7 s i d op)) (hlt:∀ b∈fp,b<w.heap.size) (hS:∀ b∈fp,¬ S b) (h1:bK w S fa a.2) :
  Calls prog 262 (#[u]++#[jC a fa]) w λe w' => vC w S u fp 251 e w' (Z5 a s d op (xu (bt s) s.size i)):=by
 have ga:partsOf (.v (jC a fa))=[.v (.int .i64 (a.1:Nat)),.v fa]:=rfl;have u0:=af.up w S fp;have g0:=h1.mono (af.eQ w S fp hS);have w1:IntKind.i64.wrap (i+1)=i+1:=aA oM oM;refine dm (nt:=88) S #[jC a fa] [.cell 4 254] (by show 3<=7;omega) ho hlt func262 rfl rfl rfl ?_;refine vR Γ0 (aa di ga) ?_
 refine vR Γ0 di ?_;refine vR Γ0 (aa di w1) ?_;cases hN:oP (bt s) s.size (i+1) with
 |error e=>
  obtain⟨c,j⟩:=e;have he:xu (bt s) s.size i=.error (c,j):=by rw[xu,hN]
  rw[he];refine Wp.bn (Na (af w S fp) a) aM (ev (bw di hN w1)) ?_ ?_
  ·first|trivial|omega|(simp[hs];done)|(simp[hs];omega)|(simp[hs]<;>omega)
  refine qq ?_;exact⟨_,rfl⟩
 | ok p=>
  obtain⟨m,j⟩:=p;have hj:=Ax hN;have hm:=R2 hN;refine wR (Na (af w S fp) a) (bw di hN w1) ?_ ?_
  ·first|trivial|omega|(simp[hs];done)|(simp[hs];omega)|(simp[hs]<;>omega)
  refine vR Γ0 di ?_;have wj:IntKind.i64.wrap (j+1)=j+1:=aA oM oM;have hb:∀ n k,Q0 (bt s) s.size m j=.ok (n,k)->xu (bt s) s.size i=zh (bt s) s.size m n k i:=λn k h=>by rw[xu,hN];simp only[h]
  cases hU:Q0 (bt s) s.size m j with
  | error e=>
   obtain⟨c,k⟩:=e;have he:xu (bt s) s.size i=.error (c,k):=by rw[xu,hN];simp only[hU]
   rw[he];rw[Q0]at hU;split at hU
   ·rename_i h44;split at hU
    ·rename_i h125;refine Wp.seq ?_;refine wR (Na (af w S fp) a) di ?_ ?_
     ·first|trivial|omega|(simp[hs];done)|(simp[hs];omega)|(simp[hs]<;>omega)
     refine wC di (λhc=>?_) (λhc=>?_)
     ·skip;refine vR Γ0 (aa di wj) ?_;refine vR Γ0 di ?_;refine wR (Na (af w S fp) a) di ?_ ?_
      ·first|trivial|omega|(simp[hs];done)|(simp[hs];omega)|(simp[hs]<;>omega)
      refine wC di (λhc=>?_) (λhc=>?_)
      ·skip;refine Wp.dF (Na (af w S fp) a) aM (ev (aa di hU)) ?_ ?_
       ·first|trivial|omega|(simp[hs];done)|(simp[hs];omega)|(simp[hs]<;>omega)
       refine qq ?_;exact⟨_,rfl⟩
      ·exfalso;apply Bool.eq_false_iff.1 hc;simp;omega
     ·exfalso;apply Bool.eq_false_iff.1 hc;simp;omega
    ·cases hU
   ·cases hU
  | ok q=>
   obtain⟨n,k⟩:=q;have hbe:=hb n k hU
   refine hH ⟨60,ee [(0,.is (.own 0 0)),(3,.is (.own 8 0)),(4,.is (.own 16 0)),(5,.is (.v (.int .i64 i))),(6,.is (.v (.int .i64 m))),(7,.is (.v (.int .i64 n)))],dP [(0,.cells 251 [.v (.string s),.v (.int .i64 k),.hd 3]),(3,.row 3 1 d (op.map .v)),(8,.cells 254 [.v (.int .i64 (a.1:Nat)),.v fa]),(16,.cells 254 [.v (.int .i64 0),.v .nilFunc])]⟩ ?_ ?_
   ·skip;refine wR (Na (af w S fp) a) di ?_ ?_
    ·first|trivial|omega|(simp[hs];done)|(simp[hs];omega)|(simp[hs]<;>omega)
    refine wC di (λhc=>?_) (λhc=>?_)
    ·have h44:j<s.size/\bt s j=44:=by
      simp at hc;omega
     rw[Q0,if_pos h44]at hU;refine vR Γ0 (aa di wj) ?_;refine vR Γ0 di ?_;refine wR (Na (af w S fp) a) di ?_ ?_
     ·first|trivial|omega|(simp[hs];done)|(simp[hs];omega)|(simp[hs]<;>omega)
     refine wC di (λhc=>?_) (λhc=>?_)
     ·have h125:¬ j+1<s.size\/bt s (j+1)≠125:=by
       simp at hc;omega
      rw[if_pos h125]at hU;refine wr (Na (af w S fp) a) (aa di hU) ?_ ?_
      ·first|trivial|omega|(simp[hs];done)|(simp[hs];omega)|(simp[hs]<;>omega)
      exact wM (λx=>if x=3 then .key 370 else .key x) di
     ·have h125:¬ (¬ j+1<s.size\/bt s (j+1)≠125):=by
       simp at hc;omega
      rw[if_neg h125]at hU;simp only[Except.ok.injEq,Prod.mk.injEq]at hU;obtain⟨rfl,rfl⟩:=hU;refine wK ?_;exact wM (λx=>if x=3 then .key 138 else .key x) di
    ·have h44:¬ (j<s.size/\bt s j=44):=λh=>by
      apply Bool.eq_false_iff.1 hc;simp;omega
     rw[Q0,if_neg h44]at hU;simp only[Except.ok.injEq,Prod.mk.injEq]at hU;obtain⟨rfl,rfl⟩:=hU;refine wK ?_;exact wM (λx=>if x=3 then .key 138 else .key x) di
   ·have hk:j<=k/\k<=s.size/\-1<=n/\n<=999:=by
     rw[Q0]at hU;split at hU
     ·split at hU
      ·have:=Ax hU;have:=R2 hU;omega
      ·simp only[Except.ok.injEq,Prod.mk.injEq]at hU;omega
     ·simp only[Except.ok.injEq,Prod.mk.injEq]at hU;omega
    have wk:IntKind.i64.wrap (k+1)=k+1:=aA oM oM;rw[hbe];refine Wp.seq ?_;refine wR (Na (af w S fp) a) di ?_ ?_
    ·first|trivial|omega|(simp[hs];done)|(simp[hs];omega)|(simp[hs]<;>omega)
    refine wC di (λhc=>?_) (λhc=>?_)
    ·have h2:¬ k<s.size\/bt s k≠125:=by
      simp at hc;omega
     rw[zh,if_pos h2];refine Wp.dF (Na (af w S fp) a) aM (ev di) ?_ ?_
     ·first|trivial|omega|(simp[hs];done)|(simp[hs];omega)|(simp[hs]<;>omega)
     refine qq ?_;exact⟨_,rfl⟩
    ·have h2:¬ (¬ k<s.size\/bt s k≠125):=λh=>by
      apply Bool.eq_false_iff.1 hc;simp;omega
     rw[zh,if_neg h2];refine wK ?_;refine vR Γ0 (aa di wk) ?_;refine Wp.seq ?_;refine vR Γ0 di ?_;refine wC di (λhc=>?_) (λhc=>?_)
     ·have h3:255<m\/255<n\/0<=n/\n<m:=by
       simp at hc;omega
      rw[if_pos h3];refine Wp.dF (Na (af w S fp) a) aM (ev di) ?_ ?_
      ·first|trivial|omega|(simp[hs];done)|(simp[hs];omega)|(simp[hs]<;>omega)
      refine qq ?_;exact⟨_,rfl⟩
     ·have h3:¬ (255<m\/255<n\/0<=n/\n<m):=λh=>by
       apply Bool.eq_false_iff.1 hc;simp;omega
      rw[if_neg h3];refine wK ?_;refine wR (Na (af w S fp) a) di ?_ ?_
      ·exact⟨⟨cd g0,ha,_,_,_,rfl,oM,oM,oM,oM⟩,u0⟩
      refine Wp.da 744 (ev (aa di ga)) (aY.refl _ _) λW1 bs1 cs hx1 hΦ=>?_
      obtain⟨fv,rfl,hg,hv1⟩:=cE hΦ;refine wZ (bw di ga hv1) ?_;exact fN hg rfl ((ev (aa di @aq))) dE
def sP(a:RL):u5 prog 262 where
 T:=251
 kinds:=[some (Sh.two,dX a)]
 pre:=λfs as_ W S=>∃ s i d op x,fs=z7 s i d op/\as_=[x]/\a.1<=2001/\0<=i/\i<s.size/\s.size<=140737488351232
 premono:=λ_ _ _ _ _ _ _ h=>h
 out:=λfs as_=>match fs with
  |[.val (.string s),.val (.int .i64 i),.row 3 1 d op]=>Z5 a s d op (xu (bt s) s.size i)
  |_=>.pan [] undef
 enters:=call262
 ok:=by
  intro w S u fp us fs as_ ho hlt hS hu hp;obtain⟨s,i,d,op,x,rfl,rfl,ha,h0,hi,hs⟩:=hp
  match us,hu with
  |[u1],hu=>
   obtain⟨h1,_⟩:=hu;obtain⟨fa,rfl,h1'⟩:=mc h1;exact NB s i d op a fa ha u fp w S h0 hi hs ho hlt hS h1'
theorem JU(a:RL)(s:ByteArray)(i:Int)(d:Nat)(op:List Value)(as_:List AV):(sP a).out [.val (.string s),.val (.int .i64 i),.row 3 1 d op] as_=Z5 a s d op (xu (bt s) s.size i):=rfl
theorem JV(a:RL)(fs as_:List AV)(W:World)(S:Nat->Prop):(sP a).pre fs as_ W S=∃ s i d op x,fs=z7 s i d op/\as_=[x]/\a.1<=2001/\0<=i/\i<s.size/\s.size<=140737488351232:=rfl
theorem Ei(a:RL):(sP a).kinds=[some (Sh.two,dX a)]:=rfl
theorem TD(a:RL):(sP a).T=251:=rfl
theorem ae6(a:RL)(s:ByteArray)(d:Nat)(op:List Value)(m n j:Int):Z5 a s d op (.ok (m,n,j))=.fact Sh.two (dX (dt a m n)) (z7 s j d op):=rfl
theorem OO(a:RL)(s:ByteArray)(d:Nat)(op:List Value)(c j:Int):Z5 a s d op (.error (c,j))=.pan (bb c j) Co:=rfl
noncomputable def Xl(G:Nat->Prop)(a:RL):Env prog:=⟨λ| 127=>some eM.spec|179=>some jy.spec|260=>some ((CF a).spec G)|180=>some ((jw .cat a (gz a)).spec G)|261=>some ((yd a).spec G)|262=>some ((sP a).spec G)|_=>none,λ_=>none,λ_ _=>none⟩
theorem ahs(G:Nat->Prop)(a:RL):(Xl G a).sp 127=some eM.spec:=rfl
theorem aht(G:Nat->Prop)(a:RL):(Xl G a).sp 179=some jy.spec:=rfl
theorem ahv(G:Nat->Prop)(a:RL):(Xl G a).sp 260=some ((CF a).spec G):=rfl
theorem ahu(G:Nat->Prop)(a:RL):(Xl G a).sp 180=some ((jw .cat a (gz a)).spec G):=rfl
theorem ahw(G:Nat->Prop)(a:RL):(Xl G a).sp 261=some ((yd a).spec G):=rfl
theorem ahx(G:Nat->Prop)(a:RL):(Xl G a).sp 262=some ((sP a).spec G):=rfl
def K6(s:ByteArray)(d:Nat)(op:List Value):Except (Int×Int) (RL×Int)->GOut
 |.ok (r,j)=>.fact Sh.two (dX r) (z7 s j d op)
 |.error (c,j)=>.pan (bb c j) Co
theorem te(s:ByteArray)(d:Nat)(op:List Value)(r:RL)(j:Int):K6 s d op (.ok (r,j))=.fact Sh.two (dX r) (z7 s j d op):=rfl
theorem bT(s:ByteArray)(d:Nat)(op:List Value)(c j:Int):K6 s d op (.error (c,j))=.pan (bb c j) Co:=rfl
theorem FZ(a:RL)(m n:Int)(ha:a.1<=2001):(dt a m n).1<=2001:=by
 have h1:(if m=0 then bO a else a).1<=2001:=by split;exact oI a;exact ha
 unfold dt;split
 ·exact r8 a
 ·split
  ·decide
  ·split
   ·exact gn _ _ _
   ·exact rA _ (λx=>gn _ _ _) _ _ (rA _ (λx=>gn _ _ _) _ _ h1)
structure RI where
 W:World
 bs:List Nat
 fo:Value
 r:RL
 i:Int
 n:Nat
def cW:=(ae @List.replicate_succ.{0} @List.replicate_zero.{0} @au @ab kQ kS kU (ae dc dd de df dv dw dz (ae dA mV mW mX mY mZ Dq (ae Dr Ds Dt Du Dv Dw Dx (ae Dy Dz DA DB wU wV wX (ae wY w4 w5 Ge Gf Gg @z7.eq_1 (ae @pg.eq_1 @bb.eq_1 @aV @aw @aD @aG @cK (ae @e8 @iN @iM @lU @lN @lM @s8 (ae @CF.eq_1 @jw.eq_1 @yd.eq_1 @ahs @aht @ahv @ahu (ae @ahw @ahx @JU @JV @Ei @TD @ae6 @OO))))))))))
theorem Lw(s:ByteArray)(i0:Int)(d:Nat)(op:List Value)(a:RL)(fa:Value)(ha:a.1<=2001)(u:Value)(fp:List Nat)(w:World)(S:Nat->Prop)(h0:0<=i0)(hi1:i0<=s.size)(hs:s.size<=140737488351232)
  (ho:aW w u fp 251 (z7 s i0 d op)) (hlt:∀ b∈fp,b<w.heap.size) (hS:∀ b∈fp,¬ S b) (h1:bK w S fa a.2) :
  Calls prog 250 (#[u]++#[jC a fa]) w λe w' => vC w S u fp 251 e w' (K6 s d op (ke (bt s) s.size ((s.size:Int).toNat+1) a i0)):=by
 have ga:partsOf (.v (jC a fa))=[.v (.int .i64 (a.1:Nat)),.v fa]:=rfl;have u0:=af.up w S fp;have g0:=h1.mono (af.eQ w S fp hS);generalize hR:ke (bt s) s.size ((s.size:Int).toNat+1) a i0=R;refine dm (nt:=38) S #[jC a fa] [.cell 4 254] (by show 3<=7;omega) ho hlt func250 rfl rfl rfl ?_
 refine vR Γ0 (aa cW ga) ?_;refine Wp.seq (Wp.block ?_)
 refine Wp.qI (λp:RI=>⟨5,ee [(0,.is (.own 0 0)),(3,.is (.own 8 0)),(4,.is (.own 16 0))],dP [(0,.cells 251 [.v (.string s),.v (.int .i64 p.i),.hd 3]),(3,.row 3 1 d (op.map .v)),(8,.cells 254 [.v (.int .i64 (p.r.1:Nat)),.v p.fo]),(16,.cells 254 [.v (.int .i64 0),.v .nilFunc])]⟩)
  RI.W RI.bs (λp=>(0<=p.i/\p.i<=s.size)/\p.r.1<=2001/\((s.size:Int)-p.i<p.n/\1<=p.n)/\bK p.W (bF (af w S fp) p.bs) p.fo p.r.2/\ke (bt s) s.size p.n p.r p.i=R) (λp=>p.n) ⟨w,fp,fa,a,i0,(s.size:Int).toNat+1⟩ rfl rfl ?_ ⟨⟨h0,hi1⟩,ha,⟨by simp only;omega,by simp only;omega⟩,g0,hR⟩ ?_
 ·exact wM (λx=>.key x) (aa cW ga)
 rintro⟨W1,bs1,fo,r,i,n⟩ ⟨⟨hi0,hiN⟩,hr,⟨hn,hn1⟩,hg,hR'⟩ hx1;simp only at hi0 hiN hr hn hn1 hg hR' hx1;dsimp only;obtain⟨n,rfl⟩:∃ m,n=m+1:=⟨n-1,oM⟩;have u1:=u0.ext hx1;refine Wp.seq ?_;refine wR (Xl (af w S fp) r) cW ?_ ?_
 ·first|trivial|omega|(simp[hs];done)|(simp[hs];omega)|(simp[hs]<;>omega)
 refine wC cW (λhc=>?_) (λhc=>?_)
 ·have hi:i<s.size:=by
   simp at hc;omega
  rw[ke,if_neg oM]at hR';have wi:IntKind.i64.wrap (i+1)=i+1:=aA oM oM;refine wK ?_;refine Wp.block ?_;refine Wp.seq ?_;refine wR (Xl (af w S fp) r) cW ?_ ?_
  ·first|trivial|omega|(simp[hs];done)|(simp[hs];omega)|(simp[hs]<;>omega)
  refine Wp.block ?_;refine vR Γ0 cW ?_;refine wC cW (λhc=>?_) (λhc=>?_)
  ·have h42:bt s i=42:=by simpa using hc
   rw[if_pos h42]at hR';refine Wp.more ?_;refine wr (Xl (af w S fp) r) cW ?_ ?_
   ·exact⟨⟨cd hg,hr,_,rfl⟩,u1⟩
   refine dh ?_;refine Pw.da 104 (ev cW) (aY.refl _ _) λW2 bs2 cs hx2 hΦ=>?_
   obtain⟨fv,rfl,hg2,hv2⟩:=cE hΦ;refine Pw.here ?_;refine qq ?_;refine vr Γ0 (aa cW wi) ?_;refine⟨⟨W2,bs2,fv,gz r,i+1,n⟩,⟨by simp only;omega,r8 r,by simp only;omega,hg2,hR'⟩,by simp only;omega,rfl,rfl,?_⟩;exact wM (λx=>.key x) (aa cW hv2)
  ·have h42:¬ bt s i=42:=by simpa using hc
   rw[if_neg h42]at hR';refine vR Γ0 cW ?_;refine wC cW (λhc=>?_) (λhc=>?_)
   ·have h43:bt s i=43:=by simpa using hc
    rw[if_pos h43]at hR';refine Wp.more ?_;refine Jt (Xl (af w S fp) r) cW ?_ ?_
    ·exact⟨⟨⟨cd hg,hr,_,rfl⟩,u1⟩,⟨cd hg,⟨hr,r8 r⟩,_,_,rfl⟩,u1⟩
    refine dh ?_;refine Pw.da 136 (ev cW) (aY.refl _ _) λW2 bs2 cs hx2 hΦ=>?_
    obtain⟨fv,rfl,hg2,hv2⟩:=cE hΦ;refine Pw.here ?_;refine qq ?_;refine vr Γ0 (aa cW wi) ?_;refine⟨⟨W2,bs2,fv,bf .cat r (gz r),i+1,n⟩,⟨by simp only;omega,gn _ _ _,by simp only;omega,hg2,hR'⟩,by simp only;omega,rfl,rfl,?_⟩;exact wM (λx=>.key x) (aa cW hv2)
   ·have h43:¬ bt s i=43:=by simpa using hc
    rw[if_neg h43]at hR';refine vR Γ0 cW ?_;refine wC cW (λhc=>?_) (λhc=>?_)
    ·have h63:bt s i=63:=by simpa using hc
     rw[if_pos h63]at hR';refine Wp.more ?_;refine wr (Xl (af w S fp) r) cW ?_ ?_
     ·exact⟨⟨cd hg,hr,_,rfl⟩,u1⟩
     refine dh ?_;refine Pw.da 136 (ev cW) (aY.refl _ _) λW2 bs2 cs hx2 hΦ=>?_
     obtain⟨fv,rfl,hg2,hv2⟩:=cE hΦ;refine Pw.here ?_;refine qq ?_;refine vr Γ0 (aa cW wi) ?_;refine⟨⟨W2,bs2,fv,bO r,i+1,n⟩,⟨by simp only;omega,oI r,by simp only;omega,hg2,hR'⟩,by simp only;omega,rfl,rfl,?_⟩;exact wM (λx=>.key x) (aa cW hv2)
    ·have h63:¬ bt s i=63:=by simpa using hc
     rw[if_neg h63]at hR';refine vR Γ0 cW ?_;refine wC cW (λhc=>?_) (λhc=>?_)
     ·have h123:bt s i=123:=by simpa using hc
      rw[if_pos h123]at hR';cases hB:xu (bt s) s.size i with
      |error e=>
       obtain⟨c,j⟩:=e;rw[hB]at hR';simp only at hR';rw[<- hR',bT];refine Wp.bn (Xl (af w S fp) r) aM (ev (aa cW hB)) ?_ ?_
       ·exact⟨⟨cd hg,_,_,_,_,_,rfl,rfl,hr,hi0,hi,hs⟩,dE,sI⟩
       refine qq ?_;exact⟨_,rfl⟩
      |ok q=>
       obtain⟨m,k,j⟩:=q;rw[hB]at hR';simp only at hR';have hj:=GC hB;refine wR (Xl (af w S fp) r) (aa cW hB) ?_ ?_
       ·exact⟨⟨cd hg,_,_,_,_,_,rfl,rfl,hr,hi0,hi,hs⟩,dE,sI,u1⟩
       refine Wp.da 167 (ev cW) (aY.refl _ _) λW2 bs2 cs hx2 hΦ=>?_
       obtain⟨fv,rfl,hg2,hv2⟩:=cE hΦ;refine wE ?_;refine⟨⟨W2,bs2,fv,dt r m k,j,n⟩,⟨by simp only;omega,FZ _ _ _ hr,by simp only;omega,hg2,hR'⟩,by simp only;omega,rfl,rfl,?_⟩;exact wM (λx=>if x=3 then .key 162 else .key x) (aa cW hv2)
     ·have h123:¬ bt s i=123:=by simpa using hc
      rw[if_neg h123]at hR';refine wR Γ0 cW ?_ ?_
      ·exact hg.one
      refine wZ cW ?_;rw[<- hR'];exact fN hg rfl ((ev (aa cW @aq))) dE
 ·have hi:¬ i<s.size:=by
   simp at hc;omega
  rw[ke,if_pos hi]at hR';refine wE ?_;refine wR Γ0 cW ?_ ?_
  ·exact hg.one
  refine wZ cW ?_;rw[<- hR'];exact fN hg rfl ((ev (aa cW @aq))) dE
def oW(a:RL):u5 prog 250 where
 T:=251
 kinds:=[some (Sh.two,dX a)]
 pre:=λfs as_ W S=>∃ s i d op x,fs=z7 s i d op/\as_=[x]/\a.1<=2001/\0<=i/\i<=s.size/\s.size<=140737488351232
 premono:=λ_ _ _ _ _ _ _ h=>h
 out:=λfs as_=>match fs with
  |[.val (.string s),.val (.int .i64 i),.row 3 1 d op]=>K6 s d op (ke (bt s) s.size ((s.size:Int).toNat+1) a i)
  |_=>.pan [] undef
 enters:=call250
 ok:=by
  intro w S u fp us fs as_ ho hlt hS hu hp;obtain⟨s,i,d,op,x,rfl,rfl,ha,h0,hi,hs⟩:=hp
  match us,hu with
  |[u1],hu=>
   obtain⟨h1,_⟩:=hu;obtain⟨fa,rfl,h1'⟩:=mc h1;exact Lw s i d op a fa ha u fp w S h0 hi hs ho hlt hS h1'
def nI(s:ByteArray)(i:Int):Except (Int×Int) (BitVec 256×Int):=match jv s i with
 |.error j=>.error (10,j)
 |.ok (a,j)=>.ok (a,j)
def Gr(f:FuncId)(E:ByteArray->Int->Except (Int×Int) (RL×Int))(need:ByteArray->Int->Prop)(n:Nat):Prop:=
 ∀ (s:ByteArray) (i:Int) (d:Nat) (op:List Value) (u:Value) (fp:List Nat) (w:World) (S:Nat->Prop),d+n=1000->op.length=d->0<=i->need s i->s.size<=140737488351232->bh w S ->
  aW w u fp 251 (z7 s i d op)->(∀ b∈fp,b<w.heap.size)->(∀ b∈fp,¬ S b) ->
  Calls prog f (#[u]++#[]) w λe w' => vC w S u fp 251 e w' (K6 s d op (E s i))
abbrev Jv (n:Nat):Prop:=Gr 251 (λs i=>bB (bt s) s.size (nI s) n i) (λs i=>i<s.size) n
abbrev Td (n:Nat):Prop:=Gr 216 (λs i=>fI (bt s) s.size (bB (bt s) s.size (nI s) n) ((s.size:Int).toNat+1) none i) (λs i=>i<=s.size) n
abbrev Jx (n:Nat):Prop:=Gr 178 (λs i=>l7 (bt s) s.size (fI (bt s) s.size (bB (bt s) s.size (nI s) n) ((s.size:Int).toNat+1) none) i) (λs i=>i<=s.size) n
abbrev Xy (n:Nat):Prop:=Gr 126 (λs i=>zX (bt s) s.size (bB (bt s) s.size (nI s) n) i) (λs i=>i<=s.size) n
def oG(f:FuncId)(E:ByteArray->Int->Except (Int×Int) (RL×Int))(need:ByteArray->Int->Prop)(n:Nat)(hen:∀ args w,(callFunc f args).run prog w=.ok (.enter f args) w)(h:Gr f E need n):u5 prog f where
 T:=251
 kinds:=[]
 pre:=λfs as_ W S=>(∃ s i d op,fs=z7 s i d op/\d+n=1000/\op.length=d/\0<=i/\need s i/\s.size<=140737488351232)/\bh W S
 premono:=λ_ _ _ _ _ _ hs h=>⟨h.1,h.2.mono hs⟩
 out:=λfs as_=>match fs with
  |[.val (.string s),.val (.int .i64 i),.row 3 1 d op]=>K6 s d op (E s i)
  |_=>.pan [] undef
 enters:=hen
 ok:=by
  intro w S u fp us fs as_ ho hlt hS hu hp;obtain⟨⟨s,i,d,op,rfl,h1,h2,h3,h4,h5⟩,h6⟩:=hp
  match us,as_,hu with
  |[],[],_=>exact h s i d op u fp w S h1 h2 h3 h4 h5 h6 ho hlt hS
theorem vM(f:FuncId)(E:ByteArray->Int->Except (Int×Int) (RL×Int))(need:ByteArray->Int->Prop)(n:Nat)(hen)(h:Gr f E need n)(s:ByteArray)(i:Int)(d:Nat)(op:List Value)(as_:List AV) :
  (oG f E need n hen h).out [.val (.string s),.val (.int .i64 i),.row 3 1 d op] as_=K6 s d op (E s i):=rfl
theorem vN(f:FuncId)(E:ByteArray->Int->Except (Int×Int) (RL×Int))(need:ByteArray->Int->Prop)(n:Nat)(hen)(h:Gr f E need n)(fs as_:List AV)(W:World)(S:Nat->Prop) :
  (oG f E need n hen h).pre fs as_ W S=((∃ s i d op,fs=z7 s i d op/\d+n=1000/\op.length=d/\0<=i/\need s i/\s.size<=140737488351232)/\bh W S):=rfl
theorem pE(f:FuncId)(E:ByteArray->Int->Except (Int×Int) (RL×Int))(need:ByteArray->Int->Prop)(n:Nat)(hen)(h:Gr f E need n):(oG f E need n hen h).kinds=[]:=rfl
theorem G5(f:FuncId)(E:ByteArray->Int->Except (Int×Int) (RL×Int))(need:ByteArray->Int->Prop)(n:Nat)(hen)(h:Gr f E need n):(oG f E need n hen h).T=251:=rfl
theorem HA(a:RL)(s:ByteArray)(i:Int)(d:Nat)(op:List Value)(as_:List AV):(oW a).out [.val (.string s),.val (.int .i64 i),.row 3 1 d op] as_=K6 s d op (ke (bt s) s.size ((s.size:Int).toNat+1) a i):=rfl
theorem HB(a:RL)(fs as_:List AV)(W:World)(S:Nat->Prop):(oW a).pre fs as_ W S=∃ s i d op x,fs=z7 s i d op/\as_=[x]/\a.1<=2001/\0<=i/\i<=s.size/\s.size<=140737488351232:=rfl
theorem Cl(a:RL):(oW a).kinds=[some (Sh.two,dX a)]:=rfl
theorem Pd(a:RL):(oW a).T=251:=rfl
noncomputable def Q9(G:Nat->Prop)(n:Nat)(h:Jv n)(a x y:RL):Env prog:=⟨λ| 127=>some eM.spec|179=>some jy.spec|128=>some gR.spec|249=>some ((qH .eps).spec G)|180=>some ((jw .cat x y).spec G)|250=>some ((oW a).spec G)|251=>some ((oG _ _ _ n call251 h).spec G)|_=>none,λ_=>none,λ_ _=>none⟩
section
variable (G:Nat->Prop)(n:Nat)(h:Jv n)(a x y:RL)
theorem ahy:(Q9 G n h a x y).sp 127=some eM.spec:=rfl
theorem ahA:(Q9 G n h a x y).sp 179=some jy.spec:=rfl
theorem ahz:(Q9 G n h a x y).sp 128=some gR.spec:=rfl
theorem ahC:(Q9 G n h a x y).sp 249=some ((qH .eps).spec G):=rfl
theorem ahB:(Q9 G n h a x y).sp 180=some ((jw .cat x y).spec G):=rfl
theorem ahD:(Q9 G n h a x y).sp 250=some ((oW a).spec G):=rfl
theorem ahE:(Q9 G n h a x y).sp 251=some ((oG _ _ _ n call251 h).spec G):=rfl
end
theorem Hd{s:ByteArray}:∀ {n:Nat} {i:Int} {a b:CS} {j:Int},Hc s n i a=.ok (b,j)->0<=i->i<j/\j<=s.size
 |0,i,a,b,j,h,_=>by cases h
 | n+1,i,a,b,j,h,h0=>by
  rw[Hc]at h;split at h
  ·simp only[Except.ok.injEq,Prod.mk.injEq]at h;omega
  ·cases h1:nH s i zi with
   |error e=>rw[h1]at h;cases h
   | ok p=>
    obtain⟨lo,k⟩:=p;rw[h1]at h;simp only at h;have g1:=s9 h1 h0;split at h
    ·cases h2:nH s (k+1) zi with
     |error e=>rw[h2]at h;cases h
     |ok p=>
      obtain⟨hi,l⟩:=p;rw[h2]at h;simp only at h;have g2:=s9 h2 oM;split at h
      ·cases h
      ·have:=Hd h oM;omega
    ·have:=Hd h oM;omega
theorem Kv{s:ByteArray}{i:Int}{a:CS}{j:Int}(h:jv s i=.ok (a,j))(h0:0<=i)(h1:i<s.size):i<j/\j<=s.size:=by
 rw[jv]at h;split at h
 ·simp only[Except.ok.injEq,Prod.mk.injEq]at h;omega
 ·split at h
  ·rw[jx]at h;cases hm:Hc s (s.size+1) (if vh s (i+1) then i+1+1 else i+1) 0 with
   |error e=>rw[hm]at h;cases h
   |ok p=>
    obtain⟨b,k⟩:=p;rw[hm]at h;simp only[KV,Except.ok.injEq,Prod.mk.injEq]at h;have:=Hd hm (by split<;>omega);have hle:i+1<=(if vh s (i+1) then i+1+1 else i+1):=by split<;>omega
    omega
  ·cases h2:nH s i spc with
   |error e=>rw[h2]at h;cases h
   |ok p=>
    obtain⟨b,k⟩:=p;rw[h2]at h;simp only[aj4,Except.ok.injEq,Prod.mk.injEq]at h;have:=s9 h2 h0;omega
theorem zL(s:ByteArray):xA s.size (nI s):=λi S j h0 h1 h=>by
 rw[nI]at h;cases h2:jv s i with
 |error e=>rw[h2]at h;cases h
 |ok p=>
  obtain⟨a,k⟩:=p;rw[h2]at h;simp only[Except.ok.injEq,Prod.mk.injEq]at h;have:=Kv h2 h0 h1;omega
theorem Nt{s:ByteArray}{n:Nat}(hn:n<=1000){i j:Int}{r:RL}(h0:0<=i)(hi:i<s.size)(he:¬ gV (bt s i))(hp:¬ bI (bt s i))(h:bB (bt s) s.size (nI s) n i=.ok (r,j)):i<j/\j<=s.size/\r.1<=2001:=by
 have:=u9 (c:=bt s) (zL s) n i (iZ 0) (List.replicate (1000-n) (iZ 0)) h0 hi he hp (by simp;omega);rw[h]at this;obtain⟨h1,h2,t,rfl,_⟩:=this;exact⟨h1,h2,zQ t⟩
theorem oV{s:ByteArray}:∀ {n:Nat} {r r' : RL} {i j:Int},ke (bt s) s.size n r i=.ok (r',j)->i<=s.size->r.1<=2001->i<=j/\j<=s.size/\r'.1<=2001
 |0,r,r',i,j,h,hi,hr=>by
  simp only[ke,Except.ok.injEq,Prod.mk.injEq]at h;obtain⟨rfl,rfl⟩:=h;exact⟨Int.le_refl _,hi,hr⟩
 | n+1,r,r',i,j,h,hi,hr=>by
  rw[ke]at h;split at h
  ·simp only[Except.ok.injEq,Prod.mk.injEq]at h;obtain⟨rfl,rfl⟩:=h;exact⟨Int.le_refl _,hi,hr⟩
  ·split at h
   ·have:=oV h oM (r8 _);exact⟨oM,this.2⟩
   ·split at h
    ·have:=oV h oM (gn _ _ _);exact⟨oM,this.2⟩
    ·split at h
     ·have:=oV h oM (oI _);exact⟨oM,this.2⟩
     ·split at h
      ·cases hB:xu (bt s) s.size i with
       |error e=>rw[hB]at h;cases h
       |ok q=>
        obtain⟨m,k,l⟩:=q;rw[hB]at h;have hl:=GC hB;have:=oV h oM (FZ _ _ _ hr);exact⟨oM,this.2⟩
      ·simp only[Except.ok.injEq,Prod.mk.injEq]at h;obtain⟨rfl,rfl⟩:=h;exact⟨Int.le_refl _,hi,hr⟩
theorem adU(o:Option RL)(p:RL)(hp:p.1<=2001):(A7 o p).1<=2001:=by
 cases o with
 |none=>exact hp
 |some x=>exact gn _ _ _
structure RO where
 W:World
 bs:List Nat
 fo:Value
 o:Option RL
 i:Int
 n:Nat
def bG:=(ae @List.replicate_succ.{0} @List.replicate_zero.{0} @au @ab kQ kS kU (ae dc dd de df dv dw dz (ae dA mV mW mX mY mZ n8 (ae oa ob oc iA iB iC iD (ae Dq Dr Ds Dt Du Dv Dw (ae Dx Dy Dz DA DB wU wV (ae wX wY w4 w5 DL DM DN (ae DO DP DQ DR Ge Gf Gg (ae @z7.eq_1 @pg.eq_1 @bb.eq_1 @aV @aw @aD @aG (ae @cK @e8 @iN @iM @lU @lN @lM (ae @s8 @kM @kN @oU @qH.eq_1 @jw.eq_1 @te (ae @bT @vM @vN @pE @G5 @HA @HB (ae @Cl @Pd @ahy @ahA @ahz @ahC @ahB (aa @ahD @ahE))))))))))))))
theorem Sl(n:Nat)(hA:Jv n):Td n:=by
 intro s i0 d op u fp w S hdn hop h0 hi1 hs hesc ho hlt hS;have u0:=af.up w S fp;have e0:=hesc.mono (af.eQ w S fp hS);dsimp only;generalize hR:fI (bt s) s.size (bB (bt s) s.size (nI s) n) ((s.size:Int).toNat+1) none i0=R
 refine dm (nt:=41) S #[] [.cell 2 254] (by show 3<=7;omega) ho hlt func216 rfl rfl rfl ?_;refine vR Γ0 bG ?_;refine wR (Q9 (af w S fp) n hA (bV .eps) (bV .eps) (bV .eps)) bG ?_ ?_
 ·exact⟨rfl,u0⟩
 refine Wp.da 32 (ev bG) (aY.refl _ _) λW0 bs0 cs hx0 hΦ=>?_
 obtain⟨fv,rfl,hg,hv1⟩:=cE hΦ;have u00:=u0.ext hx0;refine Wp.seq (Wp.block ?_)
 refine Wp.qI (λp:RO=>⟨10,ee [(0,.is (.own 0 0)),(2,.is (.own 8 0)),(3,.is (.own 40 0)),(4,.is (.v (.bool p.o.isSome)))],dP [(0,.cells 251 [.v (.string s),.v (.int .i64 p.i),.hd 3]),(3,.row 3 1 d (op.map .v)),(8,.cells 254 [.v (.int .i64 0),.v .nilFunc]),(40,.cells 254 [.v (.int .i64 ((yi p.o).1:Nat)),.v p.fo])]⟩)
  RO.W RO.bs (λp=>(0<=p.i/\p.i<=s.size)/\(yi p.o).1<=2001/\((s.size:Int)-p.i<p.n/\1<=p.n)/\bK p.W (bF (af w S fp) p.bs) p.fo (yi p.o).2/\fI (bt s) s.size (bB (bt s) s.size (nI s) n) p.n p.o p.i=R) (λp=>p.n) ⟨W0,bs0,fv,none,i0,(s.size:Int).toNat+1⟩ rfl rfl ?_ ⟨⟨h0,hi1⟩,by show 1<=2001;omega,⟨by simp only;omega,by simp only;omega⟩,hg,hR⟩ ?_
 ·exact wM (λx=>.key x) (qE bG hv1 @yi.eq_1 @bV.eq_1 @Option.getD_none.{0})
 rintro⟨W1,bs1,fo,o,i,k⟩ ⟨⟨hi0,hiN⟩,hr,⟨hn,hn1⟩,hg,hR'⟩ hx1;simp only at hi0 hiN hr hn hn1 hg hR' hx1;dsimp only;obtain⟨k,rfl⟩:∃ m,k=m+1:=⟨k-1,oM⟩;have hx01:=hx0.trans hx1;have u1:=u0.ext hx01;have e1:=e0.mono hx01.dW;refine Wp.seq ?_
 refine wR (Q9 (af w S fp) n hA (bV .eps) (bV .eps) (bV .eps)) bG ?_ ?_
 ·first|trivial|omega|(simp[hs];done)|(simp[hs];omega)|(simp[hs]<;>omega)
 refine wC bG (λhc=>?_) (λhc=>?_)
 ·have hi:i<s.size:=by
   simp at hc;omega
  rw[fI,if_neg oM]at hR';refine wK ?_;refine Wp.block ?_;refine Wp.seq ?_;refine wR (Q9 (af w S fp) n hA (bV .eps) (bV .eps) (bV .eps)) bG ?_ ?_
  ·first|trivial|omega|(simp[hs];done)|(simp[hs];omega)|(simp[hs]<;>omega)
  refine Wp.block ?_
  refine hH ⟨30,ee [(0,.is (.own 0 0)),(2,.is (.own 8 0)),(3,.is (.own 40 0)),(4,.is (.v (.bool o.isSome))),(13,.is (.v (.int .u8 (bt s i)))),(14,.is (.v (.bool (decide (gV (bt s i))))))],dP [(0,.cells 251 [.v (.string s),.v (.int .i64 i),.hd 3]),(3,.row 3 1 d (op.map .v)),(8,.cells 254 [.v (.int .i64 0),.v .nilFunc]),(40,.cells 254 [.v (.int .i64 ((yi o).1:Nat)),.v fo])]⟩ ?_ ?_
  ·skip;refine vR Γ0 bG ?_;refine wC bG (λhc=>?_) (λhc=>?_)
   ·have e:decide (gV (bt s i))=true:=decide_eq_true (show gV (bt s i) from .inl (by simpa using hc));refine wK ?_;exact wM (λx=>.key x) (bw bG hc e)
   ·have hc1:=hc;refine vR Γ0 bG ?_;refine wC bG (λhc=>?_) (λhc=>?_)
    ·have e:decide (gV (bt s i))=true:=decide_eq_true (show gV (bt s i) from .inr (.inl (by simpa using hc)));refine wK ?_;exact wM (λx=>.key x) (bw bG hc e)
    ·have hc2:=hc;refine vR Γ0 bG ?_;refine wC bG (λhc=>?_) (λhc=>?_)
     ·have e:decide (gV (bt s i))=true:=decide_eq_true (show gV (bt s i) from .inr (.inr (.inl (by simpa using hc))));refine wK ?_;exact wM (λx=>.key x) (bw bG hc e)
     ·have e:decide (gV (bt s i))=decide (bt s i=41):=by
       have g1:¬ bt s i=124:=by simpa using hc1
       have g2:¬ bt s i=38:=by simpa using hc2
       have g3:¬ bt s i=45:=by simpa using hc
       rw[decide_eq_decide];unfold gV;omega
      refine vr Γ0 bG ?_;exact wM (λx=>.key x) (aa bG e)
  refine wC bG (λhc=>?_) (λhc=>?_)
  ·have he:gV (bt s i):=by simpa using hc
   rw[if_pos he]at hR';refine wR Γ0 bG ?_ ?_
   ·exact hg.one
   refine wZ bG ?_;rw[<- hR'];exact fN hg rfl ((ev (aa bG @aq))) dE
  ·have he:¬ gV (bt s i):=by simpa using hc
   rw[if_neg he]at hR'
   refine hH ⟨50,ee [(0,.is (.own 0 0)),(2,.is (.own 8 0)),(3,.is (.own 40 0)),(4,.is (.v (.bool o.isSome))),(20,.is (.v (.bool (decide (bI (bt s i))))))],dP [(0,.cells 251 [.v (.string s),.v (.int .i64 i),.hd 3]),(3,.row 3 1 d (op.map .v)),(8,.cells 254 [.v (.int .i64 0),.v .nilFunc]),(40,.cells 254 [.v (.int .i64 ((yi o).1:Nat)),.v fo])]⟩ ?_ ?_
   ·skip;refine vR Γ0 bG ?_;refine wC bG (λhc=>?_) (λhc=>?_)
    ·have e:decide (bI (bt s i))=true:=decide_eq_true (show bI (bt s i) from .inl (by simpa using hc));refine wK ?_;exact wM (λx=>.key x) (bw bG hc e)
    ·have hc1:=hc;refine vR Γ0 bG ?_;refine wC bG (λhc=>?_) (λhc=>?_)
     ·have e:decide (bI (bt s i))=true:=decide_eq_true (show bI (bt s i) from .inr (.inl (by simpa using hc)));refine wK ?_;exact wM (λx=>.key x) (bw bG hc e)
     ·have hc2:=hc;refine vR Γ0 bG ?_;refine wC bG (λhc=>?_) (λhc=>?_)
      ·have e:decide (bI (bt s i))=true:=decide_eq_true (show bI (bt s i) from .inr (.inr (.inl (by simpa using hc))));refine wK ?_;exact wM (λx=>.key x) (bw bG hc e)
      ·have e:decide (bI (bt s i))=decide (bt s i=123):=by
        have g1:¬ bt s i=42:=by simpa using hc1
        have g2:¬ bt s i=43:=by simpa using hc2
        have g3:¬ bt s i=63:=by simpa using hc
        rw[decide_eq_decide];unfold bI;omega
       refine vr Γ0 bG ?_;exact wM (λx=>.key x) (aa bG e)
   refine wC bG (λhc=>?_) (λhc=>?_)
   ·have hp:bI (bt s i):=by simpa using hc
    rw[if_pos hp]at hR';rw[<- hR',bT];refine Wp.dF (Q9 (af w S fp) n hA (bV .eps) (bV .eps) (bV .eps)) aM (ev bG) ?_ ?_
    ·first|trivial|omega|(simp[hs];done)|(simp[hs];omega)|(simp[hs]<;>omega)
    refine qq ?_;exact⟨_,rfl⟩
   ·have hp:¬ bI (bt s i):=by simpa using hc
    rw[if_neg hp]at hR';refine wK ?_;cases hAt:bB (bt s) s.size (nI s) n i with
    |error e=>
     obtain⟨c,j⟩:=e;rw[hAt]at hR';simp only at hR';rw[<- hR',bT];refine Wp.bn (Q9 (af w S fp) n hA (bV .eps) (bV .eps) (bV .eps)) aM (ev (aa bG hAt)) ?_ ?_
     ·exact⟨⟨⟨_,_,_,_,rfl,hdn,hop,hi0,hi,hs⟩,e1⟩,dE,sI⟩
     refine qq ?_;exact⟨_,rfl⟩
    | ok q=>
     obtain⟨a,j⟩:=q;have ha:=Nt oM hi0 hi he hp hAt;rw[hAt]at hR';simp only at hR';cases hRp:ke (bt s) s.size ((s.size:Int).toNat+1) a j with
     |error e=>
      obtain⟨c,l⟩:=e;rw[hRp]at hR';simp only at hR';rw[<- hR',bT];have hRp' := hRp;rw[Int.toNat_natCast]at hRp';refine Wp.bn (Q9 (af w S fp) n hA a (bV .eps) (bV .eps)) aM (ev (bw bG hAt hRp')) ?_ ?_
      ·exact⟨⟨⟨⟨_,_,_,_,rfl,hdn,hop,hi0,hi,hs⟩,e1⟩,dE,sI,u1⟩,⟨_,_,_,_,_,rfl,rfl,ha.2.2,oM,ha.2.1,hs⟩,dE,sI⟩
      refine qq ?_;exact⟨_,rfl⟩
     | ok q=>
      obtain⟨p,l⟩:=q;have hp1:=oV hRp ha.2.1 ha.2.2;rw[hRp]at hR';simp only at hR';have hRp' := hRp;rw[Int.toNat_natCast]at hRp';refine wR (Q9 (af w S fp) n hA a (bV .eps) (bV .eps)) (bw bG hAt hRp') ?_ ?_
      ·exact⟨⟨⟨⟨_,_,_,_,rfl,hdn,hop,hi0,hi,hs⟩,e1⟩,dE,sI,u1⟩,⟨_,_,_,_,_,rfl,rfl,ha.2.2,oM,ha.2.1,hs⟩,dE,sI,u1⟩
      refine Wp.da 431 (ev bG) (aY.refl _ _) λW2 bs2 cs hx2 hΦ=>?_
      obtain⟨fp2,rfl,hg2,hv2⟩:=cE hΦ;have hgo:=hg.mono hx2.dW;have u2:=u1.ext hx2
      refine AH (λp2:TI=>⟨70,ee [(0,.is (.own 0 0)),(2,.is (.own 8 0)),(3,.is (.own 40 0)),(5,.is (.own 432 0))],dP [(0,.cells 251 [.v (.string s),.v (.int .i64 l),.hd 3]),(3,.row 3 1 d (op.map .v)),(8,.cells 254 [.v (.int .i64 0),.v .nilFunc]),(40,.cells 254 [.v (.int .i64 ((yi o).1:Nat)),.v fo]),(432,.cells 254 [.v (.int .i64 ((A7 o p).1:Nat)),.v p2.fo])]⟩) TI.W TI.bs
       (λp2=>bK p2.W (bF (af w S fp) p2.bs) p2.fo (A7 o p).2) ?_ ?_
      ·skip;refine vR Γ0 bG ?_;refine wC bG (λhc=>?_) (λhc=>?_)
       ·obtain⟨x,rfl⟩:=Option.isSome_iff_exists.1 hc;refine Wp.more ?_;refine wr (Q9 (af w S fp) n hA a x p) (bw bG hv2 @yi.eq_1) ?_ ?_
        ·exact⟨⟨⟨cd hgo,cd hg2⟩,⟨hr,hp1.2.2⟩,_,_,rfl⟩,u2⟩
        refine dh ?_;refine Pw.da 472 (ev (aa bG hv2)) (aY.refl _ _) λW3 bs3 cs hx3 hΦ3=>?_
        obtain⟨fp3,rfl,hg3,hv3⟩:=cE hΦ3;refine Pw.here ?_;refine qq ?_;refine⟨⟨W3,bs3,fp3,0⟩,hg3,rfl,rfl,?_⟩;exact wM (λx=>if x=3 then .key 426 else .key x) (qE bG hv2 hv3 @A7.eq_1 @A7.eq_2)
       ·have ho2:o=none:=by cases o with|none=>rfl|some x=>cases hc
        subst ho2;refine wK ?_;refine⟨⟨W2,bs2,fp2,0⟩,hg2,rfl,rfl,?_⟩;exact wM (λx=>if x=3 then .key 426 else .key x) (fJ bG hv2 @A7.eq_1 @A7.eq_2)
      rintro⟨W3,bs3,fo3,j3⟩ hg3 hx3;simp only at hg3 hx3;dsimp only;refine wr Γ0 bG ?_ ?_
      ·exact hg3.one
      refine⟨⟨W3,bs3,fo3,some (A7 o p),l,k⟩,⟨by simp only;omega,adU o p hp1.2.2,by simp only;omega,hg3,hR'⟩,by simp only;omega,rfl,rfl,?_⟩;exact wM (λx=>.key x) (aa bG @yi.eq_1)
 ·have hi:¬ i<s.size:=by
   simp at hc;omega
  rw[fI,if_pos hi]at hR';refine wE ?_;refine wR Γ0 bG ?_ ?_
  ·exact hg.one
  refine wZ bG ?_;rw[<- hR'];exact fN hg rfl ((ev (aa bG @aq))) dE
noncomputable def Γ48(G:Nat->Prop)(n:Nat)(h:Td n)(x y:RL):Env prog:=⟨λ| 127=>some eM.spec|179=>some jy.spec|180=>some ((jw .and x y).spec G)|216=>some ((oG _ _ _ n call216 h).spec G)|_=>none,λ_=>none,λ_ _=>none⟩
noncomputable def Γ49(G:Nat->Prop)(n:Nat)(h:Td n)(x y:RL):Env prog:=⟨λ| 127=>some eM.spec|179=>some jy.spec|180=>some ((jw .minus x y).spec G)|216=>some ((oG _ _ _ n call216 h).spec G)|_=>none,λ_=>none,λ_ _=>none⟩
noncomputable def Γ50(G:Nat->Prop)(n:Nat)(h:Jx n)(x y:RL):Env prog:=⟨λ| 127=>some eM.spec|179=>some jy.spec|180=>some ((jw .alt x y).spec G)|178=>some ((oG _ _ _ n call178 h).spec G)|_=>none,λ_=>none,λ_ _=>none⟩
def alf:FK:=⟨λ_ _ _=>True,λ_ _=>trivial⟩
def A0:=(ae @List.replicate_succ.{0} @List.replicate_zero.{0} @au @ab kQ kS kU (ae dc dd de df dv dw dz (ae dA mV mW mX mY mZ Dq (ae Dr Ds Dt Du Dv Dw Dx (ae Dy Dz DA DB SA SB SC (ae wU wV wX wY w4 w5 Ge (ae Gf Gg @z7.eq_1 @pg.eq_1 @bb.eq_1 @aV @aw (ae @aD @aG @cK @e8 @iN @iM @lU (ae @lN @lM @s8 @jw.eq_1 @te @bT @vM (sK @vN @pE @G5 @Tb @zo @zn))))))))))
theorem UJ(na nb:Nat)(fa fb g:Value)(ha:na<=2001)(hb:nb<=2001)(h1:fa.oneCell' = true)(h2:fb.oneCell' = true)(h3:g.oneCell' = true)(hg:partsOf (.v g)=[.v g])(w:World)(S:Nat->Prop) :
  Calls prog 180 #[.agg #[.int .i64 (na:Nat),fa],.agg #[.int .i64 (nb:Nat),fb],g] w λe w' => lh w S e w' (.fact Sh.two alf):=by
 have ga:partsOf (.v (.agg #[.int .i64 (na:Nat),fa]))=[.v (.int .i64 (na:Nat)),.v fa]:=rfl;have gb:partsOf (.v (.agg #[.int .i64 (nb:Nat),fb]))=[.v (.int .i64 (nb:Nat)),.v fb]:=rfl;have w1:=S1 ha hb;refine eL (nt:=16) S [.cell 6 254] func180 rfl rfl rfl ?_;refine vR Γ40 (fJ A0 ga gb hg) ?_
 refine vR Γ40 (sK A0 ga gb hg w1 @lK) ?_;refine Wp.cS 0 (ev (fJ A0 ga gb hg)) (λE=>by simp only[ai,den,ga,gb,hg];exact rfl) λW1 bs1 b3 hx1 hb3 hn3 hc3=>?_
 refine Wp.cS 8 (ev (fJ A0 ga gb hg)) (λE=>by simp only[ai,den,ga,gb,hg];exact rfl) λW2 bs2 b4 hx2 hb4 hn4 hc4=>?_
 refine Wp.cS 16 (ev (fJ A0 ga gb hg)) (λE=>by simp only[ai,den,ga,gb,hg];exact rfl) λW3 bs3 b5 hx3 hb5 hn5 hc5=>?_
 refine wZ (sK A0 ga gb hg w1 @lK) ?_;exact⟨[.int .i64 ((cA (1+na+nb):Nat):Int),.func (.func 220) #[] #[pG b5,pG b3,pG b4]],λE=>rfl,trivial⟩
def Kw:lQ prog 180 where
 kinds:=[none,none,none]
 pre:=λas_ _ _=>∃ (na nb:Nat) (fa fb:Value) (g:Jn),as_=[.val (.agg #[.int .i64 (na:Nat),fa]),.val (.agg #[.int .i64 (nb:Nat),fb]),.val g.v]/\na<=2001/\nb<=2001/\fa.oneCell' = true/\fb.oneCell' = true
 premono:=λ_ _ _ _ _ _ h=>h
 out:=λ_=>.fact Sh.two alf
 enters:=call180
 ok:=by
  intro w S us as_ hu hp;obtain⟨na,nb,fa,fb,g,rfl,ha,hb,h1,h2⟩:=hp
  match us,hu with
  |[u1,u2,u3],hu=>
   obtain⟨rfl,rfl,rfl,_⟩:=hu;exact UJ na nb fa fb g.v ha hb h1 h2 rfl rfl w S
noncomputable def Γ51(G:Nat->Prop)(n:Nat)(h:Td n):Env prog:=⟨λ| 180=>some (Kw.spec G)|216=>some ((oG _ _ _ n call216 h).spec G)|_=>none,λ_=>none,λ_ _=>none⟩
noncomputable def Γ52(G:Nat->Prop)(n:Nat)(h:Jx n):Env prog:=⟨λ| 180=>some (Kw.spec G)|178=>some ((oG _ _ _ n call178 h).spec G)|_=>none,λ_=>none,λ_ _=>none⟩
section
variable (G:Nat->Prop)(n:Nat)(h:Td n)(h' : Jx n)(x y:RL)
theorem ahS:(Γ51 G n h).sp 180=some (Kw.spec G):=rfl
theorem ahT:(Γ51 G n h).sp 216=some ((oG _ _ _ n call216 h).spec G):=rfl
theorem ahV:(Γ52 G n h').sp 180=some (Kw.spec G):=rfl
theorem ahU:(Γ52 G n h').sp 178=some ((oG _ _ _ n call178 h').spec G):=rfl
theorem ahG:(Γ48 G n h x y).sp 127=some eM.spec:=rfl
theorem ahH:(Γ48 G n h x y).sp 179=some jy.spec:=rfl
theorem ahI:(Γ48 G n h x y).sp 180=some ((jw .and x y).spec G):=rfl
theorem ahJ:(Γ48 G n h x y).sp 216=some ((oG _ _ _ n call216 h).spec G):=rfl
theorem ahK:(Γ49 G n h x y).sp 127=some eM.spec:=rfl
theorem ahL:(Γ49 G n h x y).sp 179=some jy.spec:=rfl
theorem ahM:(Γ49 G n h x y).sp 180=some ((jw .minus x y).spec G):=rfl
theorem ahN:(Γ49 G n h x y).sp 216=some ((oG _ _ _ n call216 h).spec G):=rfl
theorem ahO:(Γ50 G n h' x y).sp 127=some eM.spec:=rfl
theorem ahQ:(Γ50 G n h' x y).sp 179=some jy.spec:=rfl
theorem ahR:(Γ50 G n h' x y).sp 180=some ((jw .alt x y).spec G):=rfl
theorem ahP:(Γ50 G n h' x y).sp 178=some ((oG _ _ _ n call178 h').spec G):=rfl
end
theorem yu{s:ByteArray}{m:Nat}(hm:m<=1000){i j:Int}{r:RL}(h0:0<=i)(hi:i<=s.size)(h:fI (bt s) s.size (bB (bt s) s.size (nI s) m) ((s.size:Int).toNat+1) none i=.ok (r,j)):i<=j/\j<=s.size/\r.1<=2001:=by
 have:=HD (zL s) (u9 (c:=bt s) (zL s) m) ((s.size:Int).toNat+1) i (iZ 0) (List.replicate (1000-m) (iZ 0)) h0 hi oM (λh=>absurd rfl h) (by simp;omega);have e0:(rowOf (iZ 0).row (iZ 0).fac).map RT.val=none:=rfl;rw[e0,h]at this;obtain⟨h1,h2,_,row,fac,rfl,_⟩:=this;exact⟨h1,h2,zQ _⟩
theorem BP{s:ByteArray}{m:Nat}(hm:m<=1000){i j:Int}{r:RL}(h0:0<=i)(hi:i<=s.size)(h:l7 (bt s) s.size (fI (bt s) s.size (bB (bt s) s.size (nI s) m) ((s.size:Int).toNat+1) none) i=.ok (r,j)):i<=j/\j<=s.size/\r.1<=2001:=by
 have:=BQ (zL s) (u9 (c:=bt s) (zL s) m) i (iZ 0) (List.replicate (1000-m) (iZ 0)) h0 hi (by simp;omega) rfl rfl rfl;rw[h]at this;obtain⟨h1,h2,_,g,_,_,rfl,_⟩:=this;exact⟨h1,h2,zQ _⟩
theorem ES{s:ByteArray}{m:Nat}(hm:m<=1000){i j:Int}{r:RL}(h0:0<=i)(hi:i<=s.size)(h:zX (bt s) s.size (bB (bt s) s.size (nI s) m) i=.ok (r,j)):i<=j/\j<=s.size/\r.1<=2001/\(j<s.size->bt s j=41):=by
 have:=Gx (zL s) (u9 (c:=bt s) (zL s) m) i 0 (List.replicate (1000-m) (iZ 0)) h0 hi (by simp;omega);rw[h]at this;obtain⟨h1,h2,h3,g,_,rfl,_⟩:=this;exact⟨h1,h2,zQ _,h3⟩
def cf:=(ae A0 @ahS @ahT @ahV @ahU @Kw.eq_1 @Co.eq_1 (ae @ahG @ahH @ahI @ahJ @ahK @ahL @ahM (qE @ahN @ahO @ahQ @ahR @ahP)))
theorem Ft(n:Nat)(hA:Td n):Jx n:=by
 intro s i0 d op u fp w S hdn hop h0 hi1 hs hesc ho hlt hS;have u0:=af.up w S fp;have e0:=hesc.mono (af.eQ w S fp hS);dsimp only;unfold l7;refine dm (nt:=39) S #[] [.cell 2 254] (by show 3<=7;omega) ho hlt func178 rfl rfl rfl ?_;refine vR Γ0 cf ?_
 cases hF:fI (bt s) s.size (bB (bt s) s.size (nI s) n) ((s.size:Int).toNat+1) none i0 with
 |error e=>
  obtain⟨c,j⟩:=e;simp only;rw[bT];have hF' := hF;rw[Int.toNat_natCast]at hF';refine Wp.bn (Γ48 (af w S fp) n hA (bV .eps) (bV .eps)) aM (ev (aa cf hF')) ?_ ?_
  ·exact⟨⟨⟨_,_,_,_,rfl,hdn,hop,h0,hi1,hs⟩,e0⟩,dE,sI⟩
  refine qq ?_;exact⟨_,rfl⟩
 | ok q=>
  obtain⟨r0,j0⟩:=q;simp only;have hr0:=yu oM h0 hi1 hF;have hF' := hF;rw[Int.toNat_natCast]at hF';generalize hR:l8 (bt s) s.size (fI (bt s) s.size (bB (bt s) s.size (nI s) n) ((s.size:Int).toNat+1) none) ((s.size:Int).toNat+1) r0 j0=R
  refine wR (Γ48 (af w S fp) n hA (bV .eps) (bV .eps)) (aa cf hF') ?_ ?_
  ·exact⟨⟨⟨_,_,_,_,rfl,hdn,hop,h0,hi1,hs⟩,e0⟩,dE,sI,u0⟩
  refine Wp.da 31 (ev cf) (aY.refl _ _) λW0 bs0 cs hx0 hΦ=>?_
  obtain⟨fv,rfl,hg,hv1⟩:=cE hΦ;have u00:=u0.ext hx0;refine Wp.seq (Wp.block ?_)
  refine Wp.qI (λp:RI=>⟨10,ee [(0,.is (.own 0 0)),(2,.is (.own 8 0)),(3,.is (.own 32 0))],dP [(0,.cells 251 [.v (.string s),.v (.int .i64 p.i),.hd 3]),(3,.row 3 1 d (op.map .v)),(8,.cells 254 [.v (.int .i64 0),.v .nilFunc]),(32,.cells 254 [.v (.int .i64 (p.r.1:Nat)),.v p.fo])]⟩)
   RI.W RI.bs (λp=>(0<=p.i/\p.i<=s.size)/\p.r.1<=2001/\((s.size:Int)-p.i<p.n/\1<=p.n)/\bK p.W (bF (af w S fp) p.bs) p.fo p.r.2/\l8 (bt s) s.size (fI (bt s) s.size (bB (bt s) s.size (nI s) n) ((s.size:Int).toNat+1) none) p.n p.r p.i=R) (λp=>p.n) ⟨W0,bs0,fv,r0,j0,(s.size:Int).toNat+1⟩ rfl rfl ?_ ⟨⟨by simp only;omega,hr0.2.1⟩,hr0.2.2,⟨by simp only;omega,by simp only;omega⟩,hg,hR⟩ ?_
  ·exact wM (λx=>if x=3 then .key 26 else .key x) (aa cf hv1)
  rintro⟨W1,bs1,fo,r,i,k⟩ ⟨⟨hi0,hiN⟩,hr,⟨hn,hn1⟩,hg,hR'⟩ hx1;simp only at hi0 hiN hr hn hn1 hg hR' hx1;dsimp only;obtain⟨k,rfl⟩:∃ m,k=m+1:=⟨k-1,oM⟩;have hx01:=hx0.trans hx1;have u1:=u0.ext hx01;have e1:=e0.mono hx01.dW;refine Wp.seq ?_;refine wR (Γ48 (af w S fp) n hA (bV .eps) (bV .eps)) cf ?_ ?_
  ·first|trivial|omega|(simp[hs];done)|(simp[hs];omega)|(simp[hs]<;>omega)
  refine wC cf (λhc=>?_) (λhc=>?_)
  ·have hi:i<s.size:=by
    simp at hc;omega
   rw[l8,if_neg oM]at hR';refine wK ?_;refine Wp.block ?_;refine wR (Γ48 (af w S fp) n hA (bV .eps) (bV .eps)) cf ?_ ?_
   ·first|trivial|omega|(simp[hs];done)|(simp[hs];omega)|(simp[hs]<;>omega)
   refine Wp.block ?_;refine vR Γ0 cf ?_;refine wC cf (λhc=>?_) (λhc=>?_)
   ·have h38:bt s i=38:=by simpa using hc
    rw[if_pos h38]at hR';have wi:IntKind.i64.wrap (i+1)=i+1:=aA oM oM;refine vR Γ0 (aa cf wi) ?_;cases hF2:fI (bt s) s.size (bB (bt s) s.size (nI s) n) ((s.size:Int).toNat+1) none (i+1) with
    |error e=>
     obtain⟨c,j⟩:=e;rw[hF2]at hR';simp only at hR';rw[<- hR',bT];have hF2' := hF2;rw[Int.toNat_natCast]at hF2';refine Wp.qK (Γ51 (af w S fp) n hA) aM (ev (bw cf hF2' wi)) rfl (by kernel_rfl) ?_ ?_
     ·exact⟨⟨⟨⟨_,_,_,_,rfl,hdn,hop,oM,oM,hs⟩,e1⟩,dE,sI⟩,⟨r.1,0,fo,.nilFunc,.and,rfl,hr,oM,hg.one,rfl⟩,u1⟩
     refine qq ?_;exact⟨_,rfl⟩
    |ok q=>
     obtain⟨r2,j2⟩:=q;rw[hF2]at hR';simp only at hR';have hr2:=yu oM oM oM hF2;have hF2' := hF2;rw[Int.toNat_natCast]at hF2';refine Wp.more ?_;refine Jt (Γ48 (af w S fp) n hA r r2) (bw cf hF2' wi) ?_ ?_
     ·exact⟨⟨⟨⟨_,_,_,_,rfl,hdn,hop,oM,oM,hs⟩,e1⟩,dE,sI,u1⟩,⟨cd hg,⟨hr,hr2.2.2⟩,_,_,rfl⟩,u1⟩
     refine dh ?_;refine Pw.da 224 (ev cf) (aY.refl _ _) λW2 bs2 cs hx2 hΦ2=>?_
     obtain⟨fv2,rfl,hg2,hv2⟩:=cE hΦ2;refine Pw.here ?_;refine qq ?_;refine⟨⟨W2,bs2,fv2,bf .and r r2,j2,k⟩,⟨by simp only;omega,gn _ _ _,by simp only;omega,hg2,hR'⟩,by simp only;omega,rfl,rfl,?_⟩;exact wM (λx=>if x=3 then .key 218 else .key x) (aa cf hv2)
   ·have h38:¬ bt s i=38:=by simpa using hc
    rw[if_neg h38]at hR';refine vR Γ0 cf ?_;refine wC cf (λhc=>?_) (λhc=>?_)
    ·have h45:bt s i=45:=by simpa using hc
     rw[if_pos h45]at hR';have wi:IntKind.i64.wrap (i+1)=i+1:=aA oM oM;refine vR Γ0 (aa cf wi) ?_;cases hF2:fI (bt s) s.size (bB (bt s) s.size (nI s) n) ((s.size:Int).toNat+1) none (i+1) with
     |error e=>
      obtain⟨c,j⟩:=e;rw[hF2]at hR';simp only at hR';rw[<- hR',bT];have hF2' := hF2;rw[Int.toNat_natCast]at hF2';refine Wp.qK (Γ51 (af w S fp) n hA) aM (ev (bw cf hF2' wi)) rfl (by kernel_rfl) ?_ ?_
      ·exact⟨⟨⟨⟨_,_,_,_,rfl,hdn,hop,oM,oM,hs⟩,e1⟩,dE,sI⟩,⟨r.1,0,fo,.nilFunc,.minus,rfl,hr,oM,hg.one,rfl⟩,u1⟩
      refine qq ?_;exact⟨_,rfl⟩
     |ok q=>
      obtain⟨r2,j2⟩:=q;rw[hF2]at hR';simp only at hR';have hr2:=yu oM oM oM hF2;have hF2' := hF2;rw[Int.toNat_natCast]at hF2';refine Wp.more ?_;refine Jt (Γ49 (af w S fp) n hA r r2) (bw cf hF2' wi) ?_ ?_
      ·exact⟨⟨⟨⟨_,_,_,_,rfl,hdn,hop,oM,oM,hs⟩,e1⟩,dE,sI,u1⟩,⟨cd hg,⟨hr,hr2.2.2⟩,_,_,rfl⟩,u1⟩
      refine dh ?_;refine Pw.da 240 (ev cf) (aY.refl _ _) λW2 bs2 cs hx2 hΦ2=>?_
      obtain⟨fv2,rfl,hg2,hv2⟩:=cE hΦ2;refine Pw.here ?_;refine qq ?_;refine⟨⟨W2,bs2,fv2,bf .minus r r2,j2,k⟩,⟨by simp only;omega,gn _ _ _,by simp only;omega,hg2,hR'⟩,by simp only;omega,rfl,rfl,?_⟩;exact wM (λx=>if x=3 then .key 234 else .key x) (aa cf hv2)
    ·have h45:¬ bt s i=45:=by simpa using hc
     rw[if_neg h45]at hR';refine wR Γ0 cf ?_ ?_
     ·exact hg.one
     refine wZ cf ?_;rw[<- hR'];exact fN hg rfl ((ev (aa cf @aq))) dE
  ·have hi:¬ i<s.size:=by
    simp at hc;omega
   rw[l8,if_pos hi]at hR';refine wE ?_;refine wR Γ0 cf ?_ ?_
   ·exact hg.one
   refine wZ cf ?_;rw[<- hR'];exact fN hg rfl ((ev (aa cf @aq))) dE
theorem JF(n:Nat)(hA:Jx n):Xy n:=by
 intro s i0 d op u fp w S hdn hop h0 hi1 hs hesc ho hlt hS;have u0:=af.up w S fp;have e0:=hesc.mono (af.eQ w S fp hS);dsimp only;unfold zX ai4;refine dm (nt:=26) S #[] [.cell 2 254] (by show 3<=7;omega) ho hlt func126 rfl rfl rfl ?_;refine vR Γ0 cf ?_
 cases hF:l7 (bt s) s.size (fI (bt s) s.size (bB (bt s) s.size (nI s) n) ((s.size:Int).toNat+1) none) i0 with
 |error e=>
  obtain⟨c,j⟩:=e;simp only;rw[bT];have hF' := hF;rw[Int.toNat_natCast]at hF';refine Wp.bn (Γ50 (af w S fp) n hA (bV .eps) (bV .eps)) aM (ev (aa cf hF')) ?_ ?_
  ·exact⟨⟨⟨_,_,_,_,rfl,hdn,hop,h0,hi1,hs⟩,e0⟩,dE,sI⟩
  refine qq ?_;exact⟨_,rfl⟩
 | ok q=>
  obtain⟨r0,j0⟩:=q;simp only;have hr0:=BP oM h0 hi1 hF;have hF' := hF;rw[Int.toNat_natCast]at hF';generalize hR:AS (bt s) s.size (l7 (bt s) s.size (fI (bt s) s.size (bB (bt s) s.size (nI s) n) ((s.size:Int).toNat+1) none)) ((s.size:Int).toNat+1) r0 j0=R
  refine wR (Γ50 (af w S fp) n hA (bV .eps) (bV .eps)) (aa cf hF') ?_ ?_
  ·exact⟨⟨⟨_,_,_,_,rfl,hdn,hop,h0,hi1,hs⟩,e0⟩,dE,sI,u0⟩
  refine Wp.da 31 (ev cf) (aY.refl _ _) λW0 bs0 cs hx0 hΦ=>?_
  obtain⟨fv,rfl,hg,hv1⟩:=cE hΦ;have u00:=u0.ext hx0;refine Wp.seq (Wp.block ?_)
  refine Wp.qI (λp:RI=>⟨10,ee [(0,.is (.own 0 0)),(2,.is (.own 8 0)),(3,.is (.own 32 0))],dP [(0,.cells 251 [.v (.string s),.v (.int .i64 p.i),.hd 3]),(3,.row 3 1 d (op.map .v)),(8,.cells 254 [.v (.int .i64 0),.v .nilFunc]),(32,.cells 254 [.v (.int .i64 (p.r.1:Nat)),.v p.fo])]⟩)
   RI.W RI.bs (λp=>(0<=p.i/\p.i<=s.size)/\p.r.1<=2001/\((s.size:Int)-p.i<p.n/\1<=p.n)/\bK p.W (bF (af w S fp) p.bs) p.fo p.r.2/\AS (bt s) s.size (l7 (bt s) s.size (fI (bt s) s.size (bB (bt s) s.size (nI s) n) ((s.size:Int).toNat+1) none)) p.n p.r p.i=R) (λp=>p.n) ⟨W0,bs0,fv,r0,j0,(s.size:Int).toNat+1⟩ rfl rfl ?_ ⟨⟨by simp only;omega,hr0.2.1⟩,hr0.2.2,⟨by simp only;omega,by simp only;omega⟩,hg,hR⟩ ?_
  ·exact wM (λx=>if x=3 then .key 26 else .key x) (aa cf hv1)
  rintro⟨W1,bs1,fo,r,i,k⟩ ⟨⟨hi0,hiN⟩,hr,⟨hn,hn1⟩,hg,hR'⟩ hx1;simp only at hi0 hiN hr hn hn1 hg hR' hx1;dsimp only;obtain⟨k,rfl⟩:∃ m,k=m+1:=⟨k-1,oM⟩;have hx01:=hx0.trans hx1;have u1:=u0.ext hx01;have e1:=e0.mono hx01.dW;refine Wp.seq ?_;refine wR (Γ50 (af w S fp) n hA (bV .eps) (bV .eps)) cf ?_ ?_
  ·first|trivial|omega|(simp[hs];done)|(simp[hs];omega)|(simp[hs]<;>omega)
  refine wC cf (λhc=>?_) (λhc=>?_)
  ·have hi:i<s.size/\bt s i=124:=by
    simp at hc;omega
   rw[AS,if_pos hi]at hR';refine wK ?_;refine Wp.block ?_;have wi:IntKind.i64.wrap (i+1)=i+1:=aA oM oM;refine vR Γ0 (aa cf wi) ?_;cases hF2:l7 (bt s) s.size (fI (bt s) s.size (bB (bt s) s.size (nI s) n) ((s.size:Int).toNat+1) none) (i+1) with
   |error e=>
    obtain⟨c,j⟩:=e;rw[hF2]at hR';simp only at hR';rw[<- hR',bT];have hF2' := hF2;rw[Int.toNat_natCast]at hF2';refine Wp.qK (Γ52 (af w S fp) n hA) aM (ev (bw cf hF2' wi)) rfl (by kernel_rfl) ?_ ?_
    ·exact⟨⟨⟨⟨_,_,_,_,rfl,hdn,hop,oM,oM,hs⟩,e1⟩,dE,sI⟩,⟨r.1,0,fo,.nilFunc,.alt,rfl,hr,oM,hg.one,rfl⟩,u1⟩
    refine qq ?_;exact⟨_,rfl⟩
   |ok q=>
    obtain⟨r2,j2⟩:=q;rw[hF2]at hR';simp only at hR';have hr2:=BP oM oM oM hF2;have hF2' := hF2;rw[Int.toNat_natCast]at hF2';refine Wp.more ?_;refine Jt (Γ50 (af w S fp) n hA r r2) (bw cf hF2' wi) ?_ ?_
    ·exact⟨⟨⟨⟨_,_,_,_,rfl,hdn,hop,oM,oM,hs⟩,e1⟩,dE,sI,u1⟩,⟨cd hg,⟨hr,hr2.2.2⟩,_,_,rfl⟩,u1⟩
    refine dh ?_;refine Pw.da 232 (ev cf) (aY.refl _ _) λW2 bs2 cs hx2 hΦ2=>?_
    obtain⟨fv2,rfl,hg2,hv2⟩:=cE hΦ2;refine Pw.here ?_;refine qq ?_;refine⟨⟨W2,bs2,fv2,bf .alt r r2,j2,k⟩,⟨by simp only;omega,gn _ _ _,by simp only;omega,hg2,hR'⟩,by simp only;omega,rfl,rfl,?_⟩;exact wM (λx=>if x=3 then .key 226 else .key x) (aa cf hv2)
  ·have hi:¬ (i<s.size/\bt s i=124):=λh=>by
    apply Bool.eq_false_iff.1 hc;simp;omega
   rw[AS,if_neg hi]at hR';refine wE ?_;refine wR Γ0 cf ?_ ?_
   ·exact hg.one
   refine wZ cf ?_;rw[<- hR'];exact fN hg rfl ((ev (aa cf @aq))) dE
def qP:EqSpec prog 39 where
 f:=λxs ys=>match xs,ys with
  |[.int .i64 a,.int .i64 b,.string s],[.int .i64 a',.int .i64 b',.string s']=>some (decide (a=a')&&decide (b=b')&&decide (s=s'))
  |_,_=>none
 ok:=by
  intro xs ys b w h;split at h
  ·rename_i a b s a' b' s';cases h;refine⟨?_,?_⟩
   ·simp[eqGuard,go_sem,Tryz.eqGuardType39]
   ·simp only[Op.equal,Op.maxDepth,run_equalIn_agg w 9999 39 _ _ Tryz.underlying39 Tryz.stoodInHeld39];have e:s.toList=s'.toList ↔ s=s' := by
     have:=JY s s';rw[Bool.eq_iff_iff]at this;simpa using this
    simp[go_sem,e];by_cases h1:a=a' <;> by_cases h2:b=b' <;> by_cases h3:s=s' <;> simp[h1,h2,h3]
  ·cases h
theorem ua(a b a' b' : Int)(s s' : ByteArray):qP.f [.int .i64 a,.int .i64 b,.string s] [.int .i64 a',.int .i64 b',.string s']=some (decide (a=a')&&decide (b=b')&&decide (s=s')):=rfl
def Sf:a7 prog 263 where
 pre:=λW bs=>λ| [.val (.string s),.val (.int .i64 i)]=>s.size<=140737488351232/\bh W (Out bs)|_=>False
 res:=λW=>λ| [.val (.string s),.val (.int .i64 i)]=>vX s i|_=>undef
 enters:=call263
 ok:=by
  intro W w bs us as_ hk hu hp;split at hp
  ·rename_i s i
   match us,hu with
   |[u0,u1],hu=>
    obtain⟨rfl,rfl,_⟩:=hu;exact aat s i w hp.1 (hp.2.fR hk sI)
  ·exact hp.elim
theorem VO(W:World)(s:ByteArray)(i:Int):Sf.res W [.val (.string s),.val (.int .i64 i)]=vX s i:=rfl
theorem VN(W:World)(bs:List Nat)(s:ByteArray)(i:Int):Sf.pre W bs [.val (.string s),.val (.int .i64 i)]=(s.size<=140737488351232/\bh W (Out bs)):=rfl
noncomputable def Nh(G:Nat->Prop)(t:Rx):Env prog:=⟨λ| 127=>some eM.spec|179=>some jy.spec|128=>some gR.spec|263=>some Sf.spec|249=>some ((qH t).spec G)|_=>none,λ| 39=>some qP|_=>none,λ_ _=>none⟩
noncomputable def Γ54(G:Nat->Prop)(n:Nat)(h:Xy n):Env prog:=⟨λ| 126=>some ((oG _ _ _ n call126 h).spec G)|_=>none,λ_=>none,λ_ _=>none⟩
section
variable (G:Nat->Prop)(t:Rx)(n:Nat)(h:Xy n)
theorem ahW:(Nh G t).sp 127=some eM.spec:=rfl
theorem ahY:(Nh G t).sp 179=some jy.spec:=rfl
theorem ahX:(Nh G t).sp 128=some gR.spec:=rfl
theorem ah0:(Nh G t).sp 263=some Sf.spec:=rfl
theorem ahZ:(Nh G t).sp 249=some ((qH t).spec G):=rfl
theorem adh:(Nh G t).eqs 39=some qP:=rfl
theorem ah1:(Γ54 G n h).sp 126=some ((oG _ _ _ n call126 h).spec G):=rfl
end
def dN:=(ae @List.replicate_succ.{0} @List.replicate_zero.{0} @au @ab kQ kS Sz (ae SD SZ kU dc dd de df (ae dv dw dz dA mV mW mX (ae mY mZ eB eC eD eE eF (ae eG Jh Ji Jj Jk n8 oa (ae ob oc uK uL uM uN uO (ae uP uQ uR uS uT al8 al9 (ae ama amb iA iB iC iD wL (ae wO wP wQ Dq Dr Ds Dt (ae Du Dv Dw Dx Dy Dz DA (ae DB wU wV wX wY w4 w5 (ae w6 w7 w8 w9 SE SF SG (ae SH SI SJ SK SL amc amd (ae @z7.eq_1 @pg.eq_1 @bb.eq_1 @aV @aw @aD @aG (ae @cK @e8 @iN @iM @lU @lN @lM (ae @s8 @kM @kN @oU @qH.eq_1 @te @bT (ae @vM @vN @pE @G5 @cO @mL @mM (ae @mK @kp @qB @dr @Jm @iS @List.drop_nil.{0} (ae VO VN @ahW @ahY @ahX @ah0 @ahZ (bw @adh @ah1 @ua))))))))))))))))))))
theorem JL(n:Nat)(hA:∀ m,n=m+1->Xy m):Jv n:=by
 intro s i d op u fp w S hdn hop h0 hi hs hesc ho hlt hS;have u0:=af.up w S fp;have e0:=hesc.mono (af.eQ w S fp hS);have e0' : bh w (Out fp):=e0.mono λb _ hb=>⟨rfl,hb.2⟩
 dsimp only;have wi:IntKind.i64.wrap (i+1)=i+1:=aA oM oM;refine dm (nt:=108) S #[] [.cell 2 254] (by show 3<=7;omega) ho hlt func251 rfl rfl rfl ?_;refine vR Γ0 dN ?_;refine Wp.seq ?_;refine wR (Nh (af w S fp) .eps) dN ?_ ?_
 ·first|trivial|omega|(simp[hs];done)|(simp[hs];omega)|(simp[hs]<;>omega)
 refine wC dN (λhc=>?_) (λhc=>?_)
 ·have h40:¬ bt s i=40:=by simpa using hc
  have hL:bB (bt s) s.size (nI s) n i=vI (nI s) i:=by
   cases n with
   |zero=>rw[bB,if_neg h40]
   |succ n=>rw[bB,if_neg h40]
  rw[hL];have hre:vX s i=match jv s i with
    |.error j=>tS 10 0 0 j
    |.ok (a,j)=>tS 0 a j 0:=by
   rw[vX,if_neg oM];cases jv s i<;>rfl
  cases hI:jv s i with
  | error j=>
   rw[hI]at hre;simp only[tS]at hre;have hE:vI (nI s) i=.error (10,j):=by rw[vI,nI,hI]
   rw[hE,bT];refine kA (Nh (af w S fp) .eps) (aa dN hre) ?_ ?_
   ·exact⟨hs,e0'⟩
   refine Wp.seq ?_;refine wR (Nh (af w S fp) .eps) (aa dN hre) ?_ ?_
   ·first|trivial|omega|(simp[hs];done)|(simp[hs];omega)|(simp[hs]<;>omega)
   refine wC dN (λhc=>?_) (λhc=>?_)
   ·skip;refine Wp.dF (Nh (af w S fp) .eps) aM (ev (aa dN hre)) ?_ ?_
    ·first|trivial|omega|(simp[hs];done)|(simp[hs];omega)|(simp[hs]<;>omega)
    refine qq ?_;exact⟨_,rfl⟩
   ·exfalso;simp at hc
  | ok q=>
   obtain⟨a,j⟩:=q;have hj:=Kv hI h0 hi;rw[hI]at hre;simp only[tS]at hre;have hE:vI (nI s) i=.ok (bV (.cls a),j):=by rw[vI,nI,hI]
   rw[hE,te];refine kA (Nh (af w S fp) .eps) (aa dN hre) ?_ ?_
   ·exact⟨hs,e0'⟩
   refine Wp.seq ?_;refine wR (Nh (af w S fp) .eps) (aa dN hre) ?_ ?_
   ·first|trivial|omega|(simp[hs];done)|(simp[hs];omega)|(simp[hs]<;>omega)
   refine wC dN (λhc=>?_) (λhc=>?_)
   ·exfalso;simp at hc
   ·refine wK ?_;refine vR Γ0 dN ?_;refine wR (Nh (af w S fp) (.cls a)) dN ?_ ?_
    ·exact⟨rfl,u0⟩
    refine Wp.da 272 (ev dN) (aY.refl _ _) λW1 bs1 cs hx1 hΦ=>?_
    obtain⟨fv,rfl,hg,hv1⟩:=cE hΦ;refine wZ (aa dN hv1) ?_;exact fN hg rfl ((ev (aa dN @aq))) dE
 ·have h40:bt s i=40:=by simpa using hc
  refine wK ?_;refine Wp.seq ?_;refine vR Γ0 dN ?_;refine wC dN (λhc=>?_) (λhc=>?_)
  ·have hd:1000<=d:=by
    simp at hc;omega
   obtain rfl:n=0:=oM;rw[bB,if_pos h40,bT];refine Wp.dF (Nh (af w S fp) .eps) aM (ev dN) ?_ ?_
   ·first|trivial|omega|(simp[hs];done)|(simp[hs];omega)|(simp[hs]<;>omega)
   refine qq ?_;exact⟨_,rfl⟩
  ·have hd:¬ 1000<=d:=by
    simp at hc;omega
   obtain⟨n,rfl⟩:∃ m,n=m+1:=⟨n-1,oM⟩;have hA' := hA n rfl;rw[bB,if_pos h40];refine wK ?_;have hap:List.map SV.v op++[SV.v (.int .i64 i)]=List.map SV.v (op++[.int .i64 i]):=by simp
   refine kA Γ0 dN ?_ ?_
   ·unfold maxLen;omega
   refine vR Γ0 (aa dN wi) ?_;have hlen:(op++[Value.int .i64 i]).length=d+1:=by simp[hop]
   cases hF:zX (bt s) s.size (bB (bt s) s.size (nI s) n) (i+1) with
   |error e=>
    obtain⟨c,j⟩:=e;rw[xO,bT];refine Wp.bn (Γ54 (af w S fp) n hA') aM (ev (fJ dN hF wi hap)) ?_ ?_
    ·exact⟨⟨⟨_,_,_,_,rfl,oM,hlen,oM,oM,hs⟩,e0⟩,dE,sI⟩
    refine qq ?_;exact⟨_,rfl⟩
   | ok q=>
    obtain⟨r,j⟩:=q;have hr:=ES oM oM oM hF;have wd:IntKind.i64.wrap (((d+1:Nat):Int)-1)=((d:Nat):Int):=wW;have htk:List.take d (List.map SV.v (op++[Value.int .i64 i]))=List.map SV.v op:=by
     rw[<- List.map_take,<- hop,List.take_left]
    have hix:(List.map SV.v (op++[Value.int .i64 i])).getD d (.v undef)=.v (.int .i64 i):=by
     rw[<- hop];simp
    refine wR (Γ54 (af w S fp) n hA') (fJ dN hF wi hap) ?_ ?_
    ·exact⟨⟨⟨_,_,_,_,rfl,oM,hlen,oM,oM,hs⟩,e0⟩,dE,sI,u0⟩
    refine Wp.da 279 (ev dN) (aY.refl _ _) λW1 bs1 cs hx1 hΦ=>?_
    obtain⟨fv,rfl,hg,hv1⟩:=cE hΦ;refine Wp.seq ?_;refine wR (Nh (af w S fp) .eps) (aa dN hap) ?_ ?_
    ·first|trivial|omega|(simp[hs];done)|(simp[hs];omega)|(simp[hs]<;>omega)
    refine wC dN (λhc=>?_) (λhc=>?_)
    ·have hj:¬ j<s.size:=by
      simp at hc;omega
     rw[xO,if_pos hj,bT];refine Wp.qK (Nh (af w S fp) .eps) aM (ev (fJ dN hap wd hix)) rfl (by kernel_rfl) ?_ ?_
     ·exact⟨⟨_,rfl⟩,⟨oM,oM⟩,by simp[hop],dE,sI⟩
     refine qq ?_;exact⟨_,rfl⟩
    ·have hj:j<s.size:=by
      simp at hc;omega
     have wj:IntKind.i64.wrap (j+1)=j+1:=aA oM oM;rw[xO,if_neg oM,te];refine wK ?_;refine vR Γ0 (aa dN wj) ?_;refine kA Γ0 (bw dN wd htk) ?_ ?_
     ·exact⟨⟨_,rfl⟩,oM,oM⟩
     refine wR Γ0 (aa dN hv1) ?_ ?_
     ·exact hg.one
     refine wZ (aa dN hv1) ?_;exact fN hg rfl ((ev (aa dN @aq))) dE
theorem levels:∀ n,Jv n
 |0=>JL 0 λm h=>by omega
 |n+1=>JL (n+1) λm h=>by
  obtain rfl:n=m:=oM;exact JF n (Ft n (Sl n (levels n)))
theorem JE(n:Nat):Xy n:=JF n (Ft n (Sl n (levels n)))
noncomputable def Γ55(G:Nat->Prop):Env prog:=⟨λ| 127=>some eM.spec|128=>some gR.spec|126=>some ((oG _ _ _ 1000 call126 (JE 1000)).spec G)|f=>Ok 0 (At 0) f,λ_=>none,λ_ _=>none⟩
theorem ah3(G:Nat->Prop):(Γ55 G).sp 127=some eM.spec:=rfl
theorem ah4(G:Nat->Prop):(Γ55 G).sp 128=some gR.spec:=rfl
theorem ah2(G:Nat->Prop):(Γ55 G).sp 126=some ((oG _ _ _ 1000 call126 (JE 1000)).spec G):=rfl
def iL:=(ae @List.replicate_succ.{0} @List.replicate_zero.{0} @au @ab kQ kS Sz (ae SD SZ kU dc dd de df (ae dv dw dz dA eB eC eD (ae eE eF eG Jh Ji Jj Jk (ae n8 oa ob oc uK uL uM (ae uN uO uP uQ uR uS uT (ae iA iB iC iD Dq Dr Ds (ae Dt Du Dv Dw Dx Dy Dz (ae DA DB SA SB SC wU wV (ae wX wY w4 w5 @z7.eq_1 @pg.eq_1 @bb.eq_1 (ae @aV @aw @aD @aG @cK @e8 @iN (ae @iM @lU @kM @kN @oU @te @bT (ae @vM @vN @pE @G5 @σR.eq_1 @σL.eq_1 @l6.eq_1 (ae @l6.eq_2 @rE.eq_1 @rE.eq_2 @ah3 @ah4 @ah2 @Fi @Fh))))))))))))))
noncomputable def Ya:CatchC prog 125 where
 Ts:=[151,39]
 enters:=call125
 pre:=λvss pv=>(∃ a f g h,vss=[[a],[f,g,h]])/\∃ c i t,pv=.iface 39 (pg c i t)
 out:=λvss pv=>[[.nilIface],match pv with|.iface _ (.agg x)=>x.toList|_=>[]]
 pc:=λvss pv=>[.nilIface,match pv with|.iface _ x=>x|_=>undef]
 vals_ok:=by
  rintro vss pv ⟨_,c,i,t,rfl⟩
  refine⟨.inr ⟨by simp only[iO,Op.operands,Value.cells,σ0,σB,Nat.reduceEqDiff,Nat.reduceAdd,Nat.reduceMul,Nat.reduceLT,Nat.reduceLeDiff,Nat.reduceBEq,av,Int.reduceToNat,Int.reduceLT,Int.reduceLE,Nat.reduceDiv,Nat.reduceMod,Nat.reduceSub,Int.reducePow,Nat.reducePow,σP,σB3,iL],rfl⟩,.inl ⟨by simp only[iO,Op.operands,Value.cells,σ0,σB,Nat.reduceEqDiff,Nat.reduceAdd,Nat.reduceMul,Nat.reduceLT,Nat.reduceLeDiff,Nat.reduceBEq,av,Int.reduceToNat,Int.reduceLT,Int.reduceLE,Nat.reduceDiv,Nat.reduceMod,Nat.reduceSub,Int.reducePow,Nat.reducePow,σP,σB3,iL]<;>rfl,by simp only[iO,Op.operands,Value.cells,σ0,σB,Nat.reduceEqDiff,Nat.reduceAdd,Nat.reduceMul,Nat.reduceLT,Nat.reduceLeDiff,Nat.reduceBEq,av,Int.reduceToNat,Int.reduceLT,Int.reduceLE,Nat.reduceDiv,Nat.reduceMod,Nat.reduceSub,Int.reducePow,Nat.reducePow,σP,σB3,iL],rfl⟩,trivial⟩
 quiet:=λw us hl=>by
  match us,hl with
  | [u0,u1],_=>
   refine lz (nt:=8) w _ func125 rfl rfl oM oM rfl ?_;refine vR Γ0 iL ?_;refine wC iL (λhc=>?_) (λhc=>?_)
   ·simp at hc
   ·refine wK ?_;simp only[iO,Op.operands,Value.cells,σ0,σB,Nat.reduceEqDiff,Nat.reduceAdd,Nat.reduceMul,Nat.reduceLT,Nat.reduceLeDiff,Nat.reduceBEq,av,Int.reduceToNat,Int.reduceLT,Int.reduceLE,Nat.reduceDiv,Nat.reduceMod,Nat.reduceSub,Int.reducePow,Nat.reducePow,σP,σB3,nf,gf,kB,iJ,iL]
    done
 caught:=λw us bl vss pv hl hn hlt hp=>by
  obtain⟨⟨a,f,g,h,rfl⟩,k,i,t,rfl⟩:=hp;have h3:=hl.len.1;refine kq (nt:=8) func125 rfl rfl oM oM ?_ hl hn hlt ?_ ?_
  ·rw[h3];rfl
  ·rw[h3];decide
  intro us _;refine vR Γ0 iL ?_;refine wC iL (λhc=>?_) (λhc=>?_)
  ·skip;refine vrD Γ0 (aa iL @pg.eq_1) ?_;refine wS iL ?_;exact⟨rfl,rfl,trivial⟩
  ·cases hc
def rQ(s:ByteArray):Except (Int×Int) Rx:=B7 (bt s) s.size (nI s)
def uq:Except (Int×Int) Rx->Value
 |.ok t=>.tuple #[ax t,pg 0 0 ⟨#[]⟩]
 |.error (c,j)=>.tuple #[.nilIface,pg c j ⟨#[]⟩]
theorem Vr(s:ByteArray)(w:World)(hs:s.size<=140737488351232)(hg:bh w (Out [])) :
  Calls prog 71 #[.string s] w λe w' => e=.returned (uq (rQ s))/\an w [] w' := by
 have u0:Up (λ_=>True) w []:=Up.true _ _;have e0:bh w (bF (λ_=>True) []):=hg.mono λb _ hb=>⟨rfl,trivial,hb⟩
 refine zm (nt:=33) func71 rfl rfl ?_;refine iK.seq' (rs:=[.cell 2 151,.cell 3 39]) rfl ?_;refine vr Γ0 iL ?_;refine iK.seq' (rs:=[.cell 2 151,.cell 3 39]) rfl ?_;refine vR Γ0 iL ?_;refine wC iL (λhc=>?_) (λhc=>?_)
 ·have hb:1048576<(s.size:Int):=by simpa using hc
  have he:rQ s=.error (1,0):=by rw[rQ,B7,if_pos hb]
  rw[he];refine vR Γ0 iL ?_;refine wZ iL ?_;exact λE=>rfl
 ·have hb:¬ 1048576<(s.size:Int):=by simpa using hc
  have he:rQ s=T0 s.size (alts (bt s) s.size (nI s) 1000 0):=by rw[rQ,B7,if_neg hb]
  refine wK ?_;refine iK.GJ (rs:=[.cell 2 151,.cell 3 39]) rfl Ya [2,3] [0,8] rfl dE rfl dE rfl rfl ?_ ?_ λus hus=>?_
  ·rintro p hp;simp only[List.zip_cons_cons,List.zip_nil_right,List.mem_cons,List.not_mem_nil,or_false]at hp;rcases hp with rfl|rfl<;>rfl
  ·rintro k hk;simp only[List.mem_cons,List.not_mem_nil,or_false]at hk;rcases hk with rfl|rfl<;>exact⟨_,_,rfl⟩
  refine vR Γ0 iL ?_
  match us,hus with
  |[u0',u1'],_=>
  refine Wp.Am (σ' := ⟨20,ee [(2,.is (.own 0 0)),(3,.is (.own 8 0)),(4,.is (.own 72 0))],dP [(0,.cells 151 [.v .nilIface]),(8,.cells 39 [.v (.int .i64 0),.v (.int .i64 0),.v (.string ⟨#[]⟩)]),(72,.cells 251 [.v (.string s),.v (.int .i64 0),.hd 88]),(88,.row 3 1 0 [])]⟩) ?_ ?_
  ·exact wM (λx=>if x=88 then .nil else .key x) iL
  have hal:alts (bt s) s.size (nI s) 1000 0=zX (bt s) s.size (bB (bt s) s.size (nI s) 1000) 0:=rfl;rw[hal]at he;cases hF:zX (bt s) s.size (bB (bt s) s.size (nI s) 1000) 0 with
  |error e=>
   obtain⟨c,j⟩:=e;rw[hF]at he;simp only[T0]at he;rw[he];refine Wp.bn (Γ55 (λ_=>True)) aM (ev (aa iL hF)) ?_ ?_
   ·exact⟨⟨⟨_,_,_,_,rfl,rfl,rfl,oM,sI,hs⟩,e0⟩,dE,sI⟩
   refine qq ?_;refine wS iL ?_;refine⟨.iface 39 (pg c j ⟨#[]⟩),[[.nilIface],[.int .i64 0,.int .i64 0,.string ⟨#[]⟩]],rfl,⟨?_,?_,?_,?_,trivial⟩,⟨⟨_,_,_,_,rfl⟩,c,j,⟨#[]⟩,rfl⟩,λE=>rfl⟩
   all_goals rfl
  | ok q=>
   obtain⟨r,j⟩:=q;have hr:=ES (s:=s) (m:=1000) oM oM sI hF;rw[hF]at he;simp only[T0]at he;refine wR (Γ55 (λ_=>True)) (aa iL hF) ?_ ?_
   ·exact⟨⟨⟨_,_,_,_,rfl,rfl,rfl,oM,sI,hs⟩,e0⟩,dE,sI,u0⟩
   refine Wp.da 175 (ev iL) (aY.refl _ _) λW1 bs1 cs hx1 hΦ=>?_
   obtain⟨fv,rfl,hg1,hv1⟩:=cE hΦ;refine Wp.seq ?_;refine wR (Γ55 (λ_=>True)) iL ?_ ?_
   ·first|trivial|omega|(simp[hs];done)|(simp[hs];omega)|(simp[hs]<;>omega)
   refine wC iL (λhc=>?_) (λhc=>?_)
   ·have hj:j<s.size:=by
     simp at hc;omega
    rw[if_pos hj]at he;rw[he];refine Wp.dF (Γ55 (λ_=>True)) aM (ev iL) ?_ ?_
    ·first|trivial|omega|(simp[hs];done)|(simp[hs];omega)|(simp[hs]<;>omega)
    refine qq ?_;refine wS iL ?_;refine⟨.iface 39 (pg 20 j ⟨#[]⟩),[[.nilIface],[.int .i64 0,.int .i64 0,.string ⟨#[]⟩]],rfl,⟨?_,?_,?_,?_,trivial⟩,⟨⟨_,_,_,_,rfl⟩,20,j,⟨#[]⟩,rfl⟩,λE=>rfl⟩
    all_goals rfl
   ·have hj:¬ j<s.size:=by
     simp at hc;omega
    rw[if_neg hj]at he;refine wK ?_;refine Wp.seq ?_;refine vR Γ0 (aa iL hv1) ?_;refine wC iL (λhc=>?_) (λhc=>?_)
    ·have hz:2000<r.1:=by
      simp at hc;omega
     rw[if_pos hz]at he;rw[he];refine vR Γ0 iL ?_;refine wZ iL ?_;exact λE=>rfl
    ·have hz:¬ 2000<r.1:=by
      simp at hc;omega
     rw[if_neg hz]at he;rw[he];obtain⟨f,cap,rfl,hf⟩:=hg1.shape;obtain⟨cap,rfl⟩:∃ l:List Value,cap=l.toArray:=⟨cap.toList,sI⟩;have hgr:=lX hg1;have hsp:=xr (dp r.2+1) (At _) f hf;refine wK ?_;refine wR (Γ43 (dp r.2+1) (At _)) (EP iL hsp hgr @qA hv1 @b6 @aL) ?_ ?_
     ·exact⟨⟨cap,r.2,rfl,hg1.mono λb _ h=>⟨rfl,h.2⟩,oM⟩,aL _⟩
     refine wT ?_
     simp only[iO,Op.operands,Value.cells,σ0,σB,Nat.reduceEqDiff,Nat.reduceAdd,Nat.reduceMul,Nat.reduceLT,Nat.reduceLeDiff,Nat.reduceBEq,av,Int.reduceToNat,Int.reduceLT,Int.reduceLE,Nat.reduceDiv,Nat.reduceMod,Nat.reduceSub,Int.reducePow,Nat.reducePow,σP,σB3,nf,gf,kB,iJ,iL,kB,b6,aL,fE (aL _)]
     exact λE=>rfl
def Hq:a7 prog 71 where
 pre:=λW bs=>λ| [.val (.string s)]=>s.size<=140737488351232/\bh W (Out bs)|_=>False
 res:=λW=>λ| [.val (.string s)]=>uq (rQ s)|_=>undef
 enters:=call71
 ok:=by
  intro W w bs us as_ hk hu hp;split at hp
  ·rename_i s
   match us,hu with
   |[u0],hu=>
    obtain⟨rfl,_⟩:=hu;exact Vr s w hp.1 (hp.2.fR hk sI)
  ·exact hp.elim
theorem B6(W:World)(s:ByteArray):Hq.res W [.val (.string s)]=uq (rQ s):=rfl
theorem B5(W:World)(bs:List Nat)(s:ByteArray):Hq.pre W bs [.val (.string s)]=(s.size<=140737488351232/\bh W (Out bs)):=rfl
def ue(q:ByteArray)(b:Int):Bool:=decide (0<=BA q b)
theorem akk:(⟨#[40,41,91,93,123,125,124,38,45,42,43,63,46,92,47,94]⟩:ByteArray)=spc:=rfl
theorem ajc:(⟨#[92,93,91,45,94,47]⟩:ByteArray)=zi:=rfl
def blF(f:Nat->Bool):List Value:=(List.range 256).map λi=>.bool (f i)
theorem Gz(f:Nat->Bool):(blF f).length=256:=by simp[blF]
structure MI where
 n:Nat
 i:Int
 a:CS
structure Fm where
 place:Int
 alt:Int
 meet:Int
 sgn:Int
 row:Int
 fac:Int
def Fm.pc(f:Fm):List Value:=[.int .i64 f.place,.int .i64 f.alt,.int .i64 f.meet,.int .u8 f.sgn,.int .i64 f.row,.int .i64 f.fac]
def K2(i:Int):Fm:=⟨i,-1,-1,0,-1,-1⟩
structure Nd where
 op:Int
 set:CS
 a:Int
 b:Int
 m:Int
 n:Int
def Nd.pc(d:Nd):List Value:=.int .i64 d.op::(blF d.set.getLsbD++[.int .i64 d.a,.int .i64 d.b,.int .i64 d.m,.int .i64 d.n])
def Tr(l:List Nd):List Value:=l.flatMap Nd.pc
theorem Nd.xj(d:Nd):d.pc.length=261:=by simp[Nd.pc,Gz]
theorem adz(l:List Nd):(Tr l).length=l.length*261:=by
 induction l with
 |nil=>rfl
 |cons d r ih=>
  have:Tr (d::r)=d.pc++Tr r:=rfl;rw[this,List.length_append,ih,Nd.xj,List.length_cons];omega
def qJ(op a b:Int):Nd:=⟨op,0,a,b,0,0⟩
end
section
def iI(ar:List Nd)(f:Fm):List Nd×Fm:=
 if f.fac<0 then (ar,f)
 else if f.row<0 then (ar,{ f with row:=f.fac,fac:=-1 })
 else (ar++[qJ 2 f.row f.fac],{ f with row:=ar.length,fac:=-1 })
def aaB(ar:List Nd)(f:Fm):List Nd×Fm:=
 if f.row<0 then (ar++[qJ 0 0 0],{ f with row:=ar.length }) else (ar,f)
def RZ(ar:List Nd)(f:Fm):List Nd×Fm:=
 if f.meet<0 then (ar,{ f with meet:=f.row,row:=-1 })
 else if f.sgn=38 then (ar++[qJ 5 f.meet f.row],{ f with meet:=ar.length,row:=-1 })
 else (ar++[qJ 6 f.meet f.row],{ f with meet:=ar.length,row:=-1 })
def zA(ar:List Nd)(f:Fm):List Nd×Fm:=
 RZ (aaB (iI ar f).1 (iI ar f).2).1 (aaB (iI ar f).1 (iI ar f).2).2
def aii(ar:List Nd)(f:Fm):List Nd×Fm:=
 if f.alt<0 then (ar,{ f with alt:=f.meet,meet:=-1 })
 else (ar++[qJ 3 f.alt f.meet],{ f with alt:=ar.length,meet:=-1 })
def jZ(ar:List Nd)(f:Fm):List Nd×Fm:=aii (zA ar f).1 (zA ar f).2
def OJ(m n:Int):Prop:=(m=-2/\n=-1)\/(0<=m/\m<=255/\n<=255/\(n=-1\/(0<=n/\m<=n)))
inductive NM (ts:List RT):Nd->RT->Prop where
 |eps (d:Nd):d.op=0->d.set=0->NM ts d .eps
 |cls (d:Nd):d.op=1->NM ts d (.cls d.set)
 |cat (d:Nd) (a b:RT):d.op=2->0<=d.a->ts[d.a.toNat]?=some a->0<=d.b->ts[d.b.toNat]?=some b->NM ts d (.cat a b)
 |alt (d:Nd) (a b:RT):d.op=3->0<=d.a->ts[d.a.toNat]?=some a->0<=d.b->ts[d.b.toNat]?=some b->NM ts d (.alt a b)
 |and (d:Nd) (a b:RT):d.op=5->0<=d.a->ts[d.a.toNat]?=some a->0<=d.b->ts[d.b.toNat]?=some b->NM ts d (.and a b)
 |minus (d:Nd) (a b:RT):d.op=6->0<=d.a->ts[d.a.toNat]?=some a->0<=d.b->ts[d.b.toNat]?=some b->NM ts d (.minus a b)
 |rep (d:Nd) (a:RT):d.op=7->0<=d.a->ts[d.a.toNat]?=some a->OJ d.m d.n->NM ts d (.rep a d.m d.n)
inductive AR:List Nd->List RT->Prop where
 |nil:AR [] []
 |snoc {ar ts d t}:AR ar ts->NM ts d t->AR (ar++[d]) (ts++[t])
theorem AR.len{ar:List Nd}{ts:List RT}(h:AR ar ts):ts.length=ar.length:=by
 induction h with
 |nil=>rfl
 |snoc _ _ ih=>simp[ih]
def OD(ts:List RT)(x:Int):Option RT->Prop
 |none=>x<0
 |some t=>0<=x/\ts[x.toNat]?=some t
theorem OD.app{ts:List RT}{x:Int}{o:Option RT}(h:OD ts x o)(l:List RT):OD (ts++l) x o:=by
 cases o with
 |none=>exact h
 |some t=>
  refine⟨h.1,?_⟩;rw[List.getElem?_append_left (List.getElem?_eq_some_iff.1 h.2).1];exact h.2
theorem OD.last{ar:List Nd}{ts:List RT}(h:AR ar ts)(t:RT):OD (ts++[t]) ar.length (some t):=by
 refine⟨by omega,?_⟩;rw[Int.toNat_natCast,<- h.len];simp
structure FR (ts:List RT)(f:Fm)(L:Lv):Prop where
 place:f.place=L.place
 alt:OD ts f.alt L.alt
 meet:OD ts f.meet L.meet
 sgn:f.sgn=L.sgn
 row:OD ts f.row L.row
 fac:OD ts f.fac L.fac
theorem FR.app{ts:List RT}{f:Fm}{L:Lv}(h:FR ts f L)(l:List RT):FR (ts++l) f L:=
 ⟨h.place,h.alt.app l,h.meet.app l,h.sgn,h.row.app l,h.fac.app l⟩
def Xm(ts:List RT):List Fm->List Lv->Prop
 |[],[]=>True
 |f::r,L::s=>FR ts f L/\Xm ts r s
 |_,_=>False
theorem Xm.app{ts:List RT}:∀ {r:List Fm} {s:List Lv},Xm ts r s->∀ l,Xm (ts++l) r s
 |[],[],_,_=>trivial
 |[],_::_,h,_=>h.elim
 |_::_,[],h,_=>h.elim
 |f::r,L::s,h,l=>⟨h.1.app l,Xm.app h.2 l⟩
theorem Xm.len{ts:List RT}:∀ {r:List Fm} {s:List Lv},Xm ts r s->r.length=s.length
 |[],[],_=>rfl
 |[],_::_,h=>h.elim
 |_::_,[],h=>h.elim
 |f::r,L::s,h=>by rw[List.length_cons,List.length_cons,Xm.len h.2]
theorem uu{ar:List Nd}{ts:List RT}{f:Fm}{L:Lv}(ha:AR ar ts)(h:FR ts f L):∃ l,AR (iI ar f).1 (ts++l)/\FR (ts++l) (iI ar f).2 (fz L):=by
 unfold iI;cases hf:L.fac with
 | none=>
  have h1:=h.fac;rw[hf]at h1;have h2:f.fac<0:=h1;rw[if_pos h2];refine⟨[],by simpa using ha,?_⟩;rw[List.append_nil];refine⟨h.place,h.alt,h.meet,h.sgn,?_,?_⟩
  ·show OD ts f.row (rowOf L.row L.fac);rw[hf];exact h.row
  ·exact h2
 | some p=>
  have h1:=h.fac;rw[hf]at h1;have hf0:¬ f.fac<0:=by have:=h1.1;omega
  rw[if_neg hf0];cases hr:L.row with
  | none=>
   have h3:=h.row;rw[hr]at h3;have h4:f.row<0:=h3;rw[if_pos h4];refine⟨[],by simpa using ha,?_⟩;rw[List.append_nil];refine⟨h.place,h.alt,h.meet,h.sgn,?_,?_⟩
   ·show OD ts f.fac (rowOf L.row L.fac);rw[hf,hr];exact h1
   ·show (-1:Int)<0;omega
  | some r=>
   have h3:=h.row;rw[hr]at h3;have h4:¬ f.row<0:=by have:=h3.1;omega
   rw[if_neg h4];refine⟨[.cat r p],.snoc ha (.cat _ r p rfl h3.1 h3.2 h1.1 h1.2),?_⟩;refine⟨h.place,h.alt.app _,h.meet.app _,h.sgn,?_,?_⟩
   ·show OD _ (ar.length:Int) (rowOf L.row L.fac);rw[hf,hr];exact OD.last ha _
   ·show (-1:Int)<0;omega
theorem afl{ar:List Nd}{ts:List RT}{f:Fm}{L:Lv}(ha:AR ar ts)(h:FR ts f L):∃ l,AR (aaB ar f).1 (ts++l)/\FR (ts++l) (aaB ar f).2 { L with row:=some (L.row.getD .eps) }:=by
 unfold aaB;cases hr:L.row with
 |none=>
  have h3:=h.row;rw[hr]at h3;have h4:f.row<0:=h3;rw[if_pos h4];exact⟨[.eps],.snoc ha (.eps _ rfl rfl),h.place,h.alt.app _,h.meet.app _,h.sgn,OD.last ha _,h.fac.app _⟩
 |some r=>
  have h3:=h.row;rw[hr]at h3;have h4:¬ f.row<0:=by have:=h3.1;omega
  rw[if_neg h4];refine⟨[],by simpa using ha,?_⟩;rw[List.append_nil];exact⟨h.place,h.alt,h.meet,h.sgn,h3,h.fac⟩
theorem Zw{ar:List Nd}{ts:List RT}{f:Fm}{L:Lv}{r:RT}(ha:AR ar ts)(h:FR ts f L)(hr:L.row=some r):∃ l,AR (RZ ar f).1 (ts++l)/\FR (ts++l) (RZ ar f).2 { L with meet:=some (l9 L.meet L.sgn r),row:=none }:=by
 have h3:=h.row;rw[hr]at h3;unfold RZ;cases hm:L.meet with
 |none=>
  have h1:=h.meet;rw[hm]at h1;have h2:f.meet<0:=h1;rw[if_pos h2];refine⟨[],by simpa using ha,?_⟩;rw[List.append_nil];exact⟨h.place,h.alt,h3,h.sgn,(by show (-1:Int)<0;omega),h.fac⟩
 | some m=>
  have h1:=h.meet;rw[hm]at h1;have h2:¬ f.meet<0:=by have:=h1.1;omega
  rw[if_neg h2];by_cases hs:f.sgn=38
  ·rw[if_pos hs];refine⟨[.and m r],.snoc ha (.and _ m r rfl h1.1 h1.2 h3.1 h3.2),h.place,h.alt.app _,?_,h.sgn,(by show (-1:Int)<0;omega),h.fac.app _⟩;show OD _ (ar.length:Int) (some (l9 (some m) L.sgn r));rw[show l9 (some m) L.sgn r=.and m r by simp[l9,<- h.sgn,hs]];exact OD.last ha _
  ·rw[if_neg hs];refine⟨[.minus m r],.snoc ha (.minus _ m r rfl h1.1 h1.2 h3.1 h3.2),h.place,h.alt.app _,?_,h.sgn,(by show (-1:Int)<0;omega),h.fac.app _⟩;show OD _ (ar.length:Int) (some (l9 (some m) L.sgn r));rw[show l9 (some m) L.sgn r=.minus m r by simp[l9,<- h.sgn,hs]];exact OD.last ha _
theorem Kj{ar:List Nd}{ts:List RT}{f:Fm}{L:Lv}(ha:AR ar ts)(h:FR ts f L):∃ l,AR (zA ar f).1 (ts++l)/\FR (ts++l) (zA ar f).2 (np L):=by
 obtain⟨l1,a1,f1⟩:=uu ha h;obtain⟨l2,a2,f2⟩:=afl a1 f1;obtain⟨l3,a3,f3⟩:=Zw a2 f2 rfl;refine⟨l1++l2++l3,?_,?_⟩
 ·rw[<- List.append_assoc,<- List.append_assoc];exact a3
 ·rw[<- List.append_assoc,<- List.append_assoc];exact f3
theorem xQ{ar:List Nd}{ts:List RT}{f:Fm}{L:Lv}(ha:AR ar ts)(h:FR ts f L):∃ l,AR (jZ ar f).1 (ts++l)/\FR (ts++l) (jZ ar f).2 (xP L):=by
 obtain⟨l1,a1,f1⟩:=Kj ha h;have hm:(np L).meet=some (fm L):=rfl;have h1:=f1.meet;rw[hm]at h1;unfold jZ aii;cases hal:L.alt with
 |none=>
  have h2:=f1.alt;rw[show (np L).alt=L.alt from rfl,hal]at h2;have h3:(zA ar f).2.alt<0:=h2;rw[if_pos h3];refine⟨l1,a1,f1.place,?_,(by show (-1:Int)<0;omega),f1.sgn,f1.row,f1.fac⟩;show OD _ _ (some (jO L));rw[show jO L=fm L by unfold jO;rw[hal];rfl];exact h1
 | some a=>
  have h2:=f1.alt;rw[show (np L).alt=L.alt from rfl,hal]at h2;have h3:¬ (zA ar f).2.alt<0:=by have:=h2.1;omega
  rw[if_neg h3];refine⟨l1++[.alt a (fm L)],?_,?_⟩
  ·rw[<- List.append_assoc];exact .snoc a1 (.alt _ _ _ rfl h2.1 h2.2 h1.1 h1.2)
  ·rw[<- List.append_assoc];refine⟨f1.place,?_,(by show (-1:Int)<0;omega),f1.sgn,f1.row.app _,f1.fac.app _⟩;show OD _ _ (some (jO L));rw[show jO L=.alt a (fm L) by unfold jO;rw[hal];rfl];exact OD.last a1 _
end
section
section
variable (c:Int->Int)(N:Int)(rd:Int->Except (Int×Int) (BitVec 256×Int))
def mnA(i:Int):Except (Int×Int) (Int×Int×Int):=
 if c i=43 then .ok (-2,-1,i+1) else if c i=63 then .ok (0,1,i+1) else if c i=123 then xu c N i else .ok (0,-1,i+1)
def aak(i:Int)(ar:List Nd)(f:Fm)(rest:List Fm):Except (Int×Int) (Int×List Nd×Fm×List Fm):=
 match mnA c N i with
 |.error e=>.error e
 |.ok (m,n,j)=>.ok (j,ar++[⟨7,0,f.fac,0,m,n⟩],{ f with fac:=ar.length },rest)
def alV(i:Int)(ar:List Nd)(f:Fm):List Fm->Except (Int×Int) (Int×List Nd×Fm×List Fm)
 |[]=>.error (20,i)
 |g::r=>.ok (i+1,(jZ ar f).1,{ g with fac:=(jZ ar f).2.alt },r)
def Zg(i:Int)(ar:List Nd)(f:Fm)(rest:List Fm):Except (Int×Int) (Int×List Nd×Fm×List Fm):=
 match rd i with
 |.error e=>.error e
 |.ok (S,j)=>.ok (j,(iI ar f).1++[⟨1,S,0,0,0,0⟩],{ (iI ar f).2 with fac:=(iI ar f).1.length },rest)
def CH(i:Int)(ar:List Nd)(f:Fm)(rest:List Fm):Except (Int×Int) (Int×List Nd×Fm×List Fm):=
 if bI (c i) then (if f.fac<0 then .error (20,i) else aak c N i ar f rest)
 else if c i=124 then .ok (i+1,(jZ ar f).1,(jZ ar f).2,rest)
 else if c i=38\/c i=45 then .ok (i+1,(zA ar f).1,{ (zA ar f).2 with sgn:=c i },rest)
 else if c i=41 then alV i ar f rest
 else if c i=40 then
  if 1000<rest.length+1 then .error (23,i) else .ok (i+1,(iI ar f).1,K2 i,(iI ar f).2::rest)
 else Zg rd i ar f rest
def LB:Nat->Int->List Nd->Fm->List Fm->Except (Int×Int) (List Nd×Fm×List Fm)
 |0,_,ar,f,rest=>.ok (ar,f,rest)
 | n+1,i,ar,f,rest=>
  if i<N then match CH c N rd i ar f rest with
   |.error e=>.error e
   |.ok (j,ar',g,r)=>LB n j ar' g r
  else .ok (ar,f,rest)
end
def Ng(z:List Int)(d:Nd):Int:=
 if d.op=0\/d.op=1 then 1
 else if d.op=7 then gE (z.getD d.a.toNat 0) d.m d.n
 else 1+z.getD d.a.toNat 0+z.getD d.b.toNat 0
def szN(z:List Int)(d:Nd):Int:=if 2001<Ng z d then 2001 else Ng z d
def szL(ar:List Nd):List Int:=ar.foldl (λz d=>z++[szN z d]) []
def ajj:Except (Int×Int) (List Nd×Fm×List Fm)->Except (Int×Int) (List Nd×Int)
 |.error e=>.error e
 |.ok (ar,f,rest)=>if rest≠[] then .error (21,f.place)
  else if 2000<(szL (jZ ar f).1).getD (jZ ar f).2.alt.toNat 0 then .error (24,0) else .ok ((jZ ar f).1,(jZ ar f).2.alt)
def yj(c:Int->Int)(N:Int)(rd:Int->Except (Int×Int) (BitVec 256×Int)):Except (Int×Int) (List Nd×Int):=
 if 1048576<N then .error (1,0) else ajj (LB c N rd (N.toNat+1) 0 [] (K2 (-1)) [])
theorem TC{c:Int->Int}{N i m n j:Int}(h:xu c N i=.ok (m,n,j)):m<=255/\n<=255:=by
 unfold xu at h;cases h1:oP c N (i+1) with
 |error e=>rw[h1]at h;cases h
 | ok p=>
  obtain⟨m',j'⟩:=p;rw[h1]at h;simp only at h;cases h2:Q0 c N m' j' with
  |error e=>rw[h2]at h;cases h
  | ok p=>
   obtain⟨n',j2⟩:=p;rw[h2]at h;simp only at h;unfold zh at h;split at h
   ·cases h
   ·split at h
    ·cases h
    ·rename_i hn;simp only[Except.ok.injEq,Prod.mk.injEq]at h;obtain⟨rfl,rfl,_⟩:=h;omega
theorem ajW{c:Int->Int}{N i m n j:Int}(h:mnA c N i=.ok (m,n,j)):OJ m n:=by
 unfold mnA at h;unfold OJ;split at h
 ·simp only[Except.ok.injEq,Prod.mk.injEq]at h;omega
 ·split at h
  ·simp only[Except.ok.injEq,Prod.mk.injEq]at h;omega
  ·split at h
   ·have h1:=X6 h;have h2:=TC h;omega
   ·simp only[Except.ok.injEq,Prod.mk.injEq]at h;omega
section
variable {c:Int->Int}{N:Int}{rd:Int->Except (Int×Int) (BitVec 256×Int)}
def alb(ts:List RT):Except (Int×Int) (Int×Lv×List Lv)->Except (Int×Int) (Int×List Nd×Fm×List Fm)->Prop
 |.error e,.error e' => e=e'
 |.ok (j,L,Ls),.ok (j',ar,f,r)=>j=j' /\ ∃ l,AR ar (ts++l)/\FR (ts++l) f L/\Xm (ts++l) r Ls
 |_,_=>False
theorem ae9{i:Int}{L:Lv}{p:RT}(hp:bI (c i)):rP c N i L p=match mnA c N i with
  |.error e=>.error e
  |.ok (m,n,j)=>.ok (j,{ L with fac:=some (.rep p m n) }):=by
 unfold rP mnA;unfold bI at hp;by_cases h42:c i=42
 ·rw[if_pos h42,if_neg (by omega),if_neg (by omega),if_neg (by omega)]
 ·rw[if_neg h42];by_cases h43:c i=43
  ·rw[if_pos h43,if_pos h43]
  ·rw[if_neg h43,if_neg h43];by_cases h63:c i=63
   ·rw[if_pos h63,if_pos h63]
   ·rw[if_neg h63,if_neg h63,if_pos (by omega)];cases xu c N i<;>rfl
theorem abi{i:Int}{ar:List Nd}{ts:List RT}{f:Fm}{L:Lv}{rest:List Fm}{Ls:List Lv}(ha:AR ar ts)(hf:FR ts f L)(hr:Xm ts rest Ls):alb ts (fq c N rd i L Ls) (CH c N rd i ar f rest):=by
 unfold fq CH;by_cases hp:bI (c i)
 ·rw[if_pos hp,if_pos hp];cases hL:L.fac with
  |none=>
   have h1:=hf.fac;rw[hL]at h1;have h2:f.fac<0:=h1;rw[if_pos h2];rfl
  | some p=>
   have h1:=hf.fac;rw[hL]at h1;have h2:¬ f.fac<0:=by have:=h1.1;omega
   rw[if_neg h2];simp only[ae9 hp,aak];cases hm:mnA c N i with
   |error e=>rfl
   |ok q=>
    obtain⟨m,n,j⟩:=q;refine⟨rfl,[.rep p m n],.snoc ha (.rep ⟨7,0,f.fac,0,m,n⟩ p rfl h1.1 h1.2 (ajW hm)),⟨hf.place,hf.alt.app _,hf.meet.app _,hf.sgn,hf.row.app _,OD.last ha _⟩,hr.app _⟩
 ·rw [if_neg hp,if_neg hp];by_cases h124:c i=124
  ·rw[if_pos h124,if_pos h124];obtain⟨l,a1,f1⟩:=xQ ha hf;exact⟨rfl,l,a1,f1,hr.app l⟩
  ·rw [if_neg h124,if_neg h124];by_cases h2:c i=38\/c i=45
   ·rw[if_pos h2,if_pos h2];obtain⟨l,a1,f1⟩:=Kj ha hf;exact⟨rfl,l,a1,⟨f1.place,f1.alt,f1.meet,rfl,f1.row,f1.fac⟩,hr.app l⟩
   ·rw [if_neg h2,if_neg h2];by_cases h41:c i=41
    ·rw[if_pos h41,if_pos h41]
     match rest,Ls,hr with
     |[],[],_=>rfl
     |g::r,M::Ms,hr=>
      obtain⟨l,a1,f1⟩:=xQ ha hf;have g1:=hr.1.app l;exact⟨rfl,l,a1,⟨g1.place,g1.alt,g1.meet,g1.sgn,g1.row,f1.alt⟩,hr.2.app l⟩
    ·rw[if_neg h41,if_neg h41];by_cases h40:c i=40
     ·rw[if_pos h40,if_pos h40,hr.len];by_cases hd:1000<Ls.length+1
      ·rw[if_pos hd,if_pos hd];rfl
      ·rw[if_neg hd,if_neg hd];obtain⟨l,a1,f1⟩:=uu ha hf;have hm:∀ o:Int,o=-1->OD (ts++l) o none:=λo h=>by show o<0;omega
       exact⟨rfl,l,a1,⟨rfl,hm _ rfl,hm _ rfl,rfl,hm _ rfl,hm _ rfl⟩,f1,hr.app l⟩
     ·rw[if_neg h40,if_neg h40];unfold Zg;cases hS:rd i with
      |error e=>rfl
      | ok q=>
       obtain⟨S,j⟩:=q;obtain⟨l,a1,f1⟩:=uu ha hf;refine⟨rfl,l++[.cls S],?_,?_,?_⟩
       ·rw[<- List.append_assoc];exact .snoc a1 (.cls ⟨1,S,0,0,0,0⟩ rfl)
       ·rw[<- List.append_assoc];exact⟨f1.place,f1.alt.app _,f1.meet.app _,f1.sgn,f1.row.app _,OD.last a1 _⟩
       ·exact hr.app _
def ala:Except (Int×Int) (Lv×List Lv)->Except (Int×Int) (List Nd×Fm×List Fm)->Prop
 |.error e,.error e' => e=e'
 |.ok (L,Ls),.ok (ar,f,r)=>∃ ts,AR ar ts/\FR ts f L/\Xm ts r Ls
 |_,_=>False
theorem Sp:∀ (n:Nat) (i:Int) (ar:List Nd) (ts:List RT) (f:Fm) (L:Lv) (rest:List Fm) (Ls:List Lv),AR ar ts->FR ts f L->Xm ts rest Ls->ala (runN c N rd n i L Ls) (LB c N rd n i ar f rest)
 |0,i,ar,ts,f,L,rest,Ls,ha,hf,hr=>⟨ts,ha,hf,hr⟩
 | n+1,i,ar,ts,f,L,rest,Ls,ha,hf,hr=>by
  rw[runN,LB];by_cases hi:i<N
  ·rw[if_pos hi,if_pos hi];have h1:=abi (c:=c) (N:=N) (rd:=rd) (i:=i) ha hf hr;revert h1;cases fq c N rd i L Ls with
   |error e=>
    cases CH c N rd i ar f rest with
    |error e' => exact λh=>h
    |ok q=>exact λh=>h.elim
   | ok p=>
    obtain⟨j,L',Ls'⟩:=p;cases CH c N rd i ar f rest with
    |error e' => exact λh=>h.elim
    |ok q=>
     obtain⟨j',ar',f',r'⟩:=q;rintro⟨rfl,l,a1,f1,r1⟩;exact Sp n j ar' _ f' L' r' Ls' a1 f1 r1
  ·rw[if_neg hi,if_neg hi];exact⟨ts,ha,hf,hr⟩
end
theorem WG{a m n:Int}(ha:0<=a)(h:OJ m n):0<=gE a m n:=by
 unfold OJ at h;unfold gE;split
 ·omega
 ·split
  ·omega
  ·split
   ·have:0<=m*a:=Int.mul_nonneg (by omega) ha;omega
   ·split
    ·omega
    ·split
     ·have:0<=n*(a+2):=Int.mul_nonneg (by omega) (by omega);omega
     ·have h1:0<=m*a:=Int.mul_nonneg (by omega) ha;have h2:0<=(n-m)*(a+2+1):=Int.mul_nonneg (by omega) (by omega);omega
theorem aks{ts:List RT}{d:Nd}{t:RT}(h:NM ts d t):szN (ts.map λt=>(t.sz:Int)) d=(t.sz:Int):=by
 have at' : ∀ (x:Int) (a:RT),ts[x.toNat]?=some a->(ts.map λt=>(t.sz:Int)).getD x.toNat 0=(a.sz:Int):=λx a hx=>by
  rw[List.getD_eq_getElem?_getD,List.getElem?_map,hx];rfl
 have cap:∀ v:Nat,(if (2001:Int)<(v:Int) then (2001:Int) else (v:Int))=((cA v:Nat):Int):=λv=>by unfold cA;split<;>omega
 cases h with
 |eps h0 _=>
  have hv:Ng (ts.map λt=>(t.sz:Int)) d=((1:Nat):Int):=by rw[Ng,if_pos (.inl h0)];rfl
  rw[szN,hv,cap];rfl
 |cls h0=>
  have hv:Ng (ts.map λt=>(t.sz:Int)) d=((1:Nat):Int):=by rw[Ng,if_pos (.inr h0)];rfl
  rw[szN,hv,cap];rfl
 |cat a b h0 h1 h2 h3 h4=>
  have hv:Ng (ts.map λt=>(t.sz:Int)) d=((1+a.sz+b.sz:Nat):Int):=by rw[Ng,if_neg (by omega),if_neg (by omega),at' _ _ h2,at' _ _ h4];omega
  rw[szN,hv,cap];rfl
 |alt a b h0 h1 h2 h3 h4=>
  have hv:Ng (ts.map λt=>(t.sz:Int)) d=((1+a.sz+b.sz:Nat):Int):=by rw[Ng,if_neg (by omega),if_neg (by omega),at' _ _ h2,at' _ _ h4];omega
  rw[szN,hv,cap];rfl
 |and a b h0 h1 h2 h3 h4=>
  have hv:Ng (ts.map λt=>(t.sz:Int)) d=((1+a.sz+b.sz:Nat):Int):=by rw[Ng,if_neg (by omega),if_neg (by omega),at' _ _ h2,at' _ _ h4];omega
  rw[szN,hv,cap];rfl
 |minus a b h0 h1 h2 h3 h4=>
  have hv:Ng (ts.map λt=>(t.sz:Int)) d=((1+a.sz+b.sz:Nat):Int):=by rw[Ng,if_neg (by omega),if_neg (by omega),at' _ _ h2,at' _ _ h4];omega
  rw[szN,hv,cap];rfl
 |rep a h0 h1 h2 h3=>
  have hn:=WG (a:=(a.sz:Int)) (by omega) h3;obtain⟨v,hv⟩:=Int.eq_ofNat_of_zero_le hn;have hz:Ng (ts.map λt=>(t.sz:Int)) d=((v:Nat):Int):=by rw[Ng,if_neg (by omega),if_pos h0,at' _ _ h2,hv]
  rw[szN,hz,cap];show _=((cA (gE a.sz d.m d.n).toNat:Nat):Int);rw[hv];rfl
theorem akr{ar:List Nd}{ts:List RT}(h:AR ar ts):szL ar=ts.map λt=>(t.sz:Int):=by
 induction h with
 |nil=>rfl
 |snoc ha hn ih=>
  unfold szL at ih ⊢;rw[List.foldl_append,ih];simp[aks hn]
theorem Fz{c:Int->Int}{N:Int}{rd:Int->Except (Int×Int) (BitVec 256×Int)}(hN:0<=N):match rM c N rd,yj c N rd with
  |.error e,.error e' => e=e'
  |.ok t,.ok (ar,x)=>∃ ts,AR ar ts/\0<=x/\ts[x.toNat]?=some t
  |_,_=>False:=by
 unfold rM yj;by_cases hb:1048576<N
 ·rw[if_pos hb,if_pos hb]
 ·rw [if_neg hb,if_neg hb];have hm:∀ o:Int,o=-1->OD [] o none:=λo h=>by show o<0;omega
  have h1:=Sp (c:=c) (N:=N) (rd:=rd) (N.toNat+1) 0 [] [] (K2 (-1)) (iZ (-1)) [] [] .nil ⟨rfl,hm _ rfl,hm _ rfl,rfl,hm _ rfl,hm _ rfl⟩ trivial;have e:run c N rd 0 (iZ (-1)) []=runN c N rd (N.toNat+1) 0 (iZ (-1)) []:=by
   unfold run;rw[Int.sub_zero]
  rw[e];revert h1;cases runN c N rd (N.toNat+1) 0 (iZ (-1)) [] with
  |error e=>
   cases LB c N rd (N.toNat+1) 0 [] (K2 (-1)) [] with
   |error e' => exact λh=>h
   |ok q=>exact λh=>h.elim
  | ok p=>
   obtain⟨L,Ls⟩:=p;cases LB c N rd (N.toNat+1) 0 [] (K2 (-1)) [] with
   |error e' => exact λh=>h.elim
   | ok q=>
    obtain⟨ar,f,r⟩:=q;rintro⟨ts,ha,hf,hr⟩;simp only[rn,ajj]
    match r,Ls,hr with
    |g::r,M::Ms,hr=>
     rw[if_pos (by simp),if_pos (by simp)];rw[hf.place]
    | [],[],_=>
     rw[if_neg (show ¬ ([]:List Lv)≠[] by simp),if_neg (show ¬ ([]:List Fm)≠[] by simp)];obtain⟨l,a1,f1⟩:=xQ ha hf;have h2:=f1.alt;rw[show (xP L).alt=some (jO L) from rfl]at h2;have h3:(szL (jZ ar f).1).getD (jZ ar f).2.alt.toNat 0=((jO L).sz:Int):=by
      rw[akr a1,List.getD_eq_getElem?_getD,List.getElem?_map,h2.2];rfl
     rw[h3];by_cases hz:2000<(jO L).sz
     ·rw[if_pos hz,if_pos (by omega)]
     ·rw[if_neg hz,if_neg (by omega)];exact⟨_,a1,h2.1,h2.2⟩
end
section
open Go.RowKit Go.LE Go.Proofs.Tryz
set_option maxRecDepth 10000
section
variable (pre:List Fm)(B:List SV)(d:SV)(j:Nat)
end
def amE(ar:List Nd):Prop:=∀ k (h:k<ar.length),(0<=ar[k].op/\ar[k].op<=7)/\(2<=ar[k].op->0<=ar[k].a/\ar[k].a<k)/\(2<=ar[k].op->ar[k].op≠7->0<=ar[k].b/\ar[k].b<k)/\(ar[k].op=7->OJ ar[k].m ar[k].n)
theorem NM.ok{ts:List RT}{d:Nd}{t:RT}(h:NM ts d t):(0<=d.op/\d.op<=7)/\(2<=d.op->0<=d.a/\d.a<ts.length)/\(2<=d.op->d.op≠7->0<=d.b/\d.b<ts.length)/\(d.op=7->OJ d.m d.n):=by
 have lt:∀ {x:Int} {a:RT},0<=x->ts[x.toNat]?=some a->x<ts.length:=λ{x a} h0 h=>by
  have:=(List.getElem?_eq_some_iff.1 h).1;omega
 cases h with
 |eps h0 _=>exact⟨oM,λh=>by omega,λh=>by omega,λh=>by omega⟩
 |cls h0=>exact⟨oM,λh=>by omega,λh=>by omega,λh=>by omega⟩
 |cat a b h0 h1 h2 h3 h4=>exact⟨oM,λh=>⟨h1,lt h1 h2⟩,λh _=>⟨h3,lt h3 h4⟩,λh=>by omega⟩
 |alt a b h0 h1 h2 h3 h4=>exact⟨oM,λh=>⟨h1,lt h1 h2⟩,λh _=>⟨h3,lt h3 h4⟩,λh=>by omega⟩
 |and a b h0 h1 h2 h3 h4=>exact⟨oM,λh=>⟨h1,lt h1 h2⟩,λh _=>⟨h3,lt h3 h4⟩,λh=>by omega⟩
 |minus a b h0 h1 h2 h3 h4=>exact⟨oM,λh=>⟨h1,lt h1 h2⟩,λh _=>⟨h3,lt h3 h4⟩,λh=>by omega⟩
 |rep a h0 h1 h2 h3=>exact⟨oM,λh=>⟨h1,lt h1 h2⟩,λh h' => absurd h0 h',λ_=>h3⟩
theorem AR.ok{ar:List Nd}{ts:List RT}(h:AR ar ts):amE ar:=by
 induction h with
 |nil=>intro k hk;cases hk
 | @snoc ar ts d t ha hn ih=>
  intro k hk;by_cases hlt:k<ar.length
  ·rw[List.getElem_append_left hlt];exact ih k hlt
  ·have hk' : k=ar.length:=by simp at hk;omega
   subst hk';have:=hn.ok;rw[ha.len]at this;rw[List.getElem_append_right (Nat.le_refl _)];simpa using this
theorem XQ:∀ (l:List Nd) (k j:Nat) (hk:k<l.length),j<261->(Tr l)[k*261+j]?=l[k].pc[j]?
 |d::r,0,j,_,hj=>by
  show (d.pc++Tr r)[0*261+j]?=_;rw[List.getElem?_append_left (by rw[Nd.xj];omega)];simp
 |d::r,k+1,j,hk,hj=>by
  show (d.pc++Tr r)[(k+1)*261+j]?=_;rw[List.getElem?_append_right (by rw[Nd.xj];omega),Nd.xj,show (k+1)*261+j-261=k*261+j by omega];have:=XQ r k j (by simpa using hk) hj;simpa using this
theorem Nd.ajt(d:Nd):d.pc[0]?=some (.int .i64 d.op):=rfl
theorem Nd.vD(d:Nd)(j:Nat):d.pc[257+j]?=[Value.int .i64 d.a,.int .i64 d.b,.int .i64 d.m,.int .i64 d.n][j]?:=by
 have e:d.pc=(Value.int .i64 d.op::blF d.set.getLsbD)++[.int .i64 d.a,.int .i64 d.b,.int .i64 d.m,.int .i64 d.n]:=rfl;rw[e,List.getElem?_append_right (by rw[List.length_cons,Gz];omega),List.length_cons,Gz,show 257+j-(256+1)=j by omega]
theorem Gs.nd{w:World}{ao:Option Addr}{l:List Nd}(h:Gs w ao (Tr l)){k:Nat}(hk:k<l.length):∃ b o,ao=some ⟨b,o,none⟩ /\
  w.cell? ⟨b,o+k*261,none⟩=some (.int .i64 l[k].op)/\w.cell? ⟨b,o+k*261+257,none⟩=some (.int .i64 l[k].a)/\w.cell? ⟨b,o+k*261+258,none⟩=some (.int .i64 l[k].b) /\
  w.cell? ⟨b,o+k*261+259,none⟩=some (.int .i64 l[k].m)/\w.cell? ⟨b,o+k*261+260,none⟩=some (.int .i64 l[k].n):=by
 have hl:=adz l;rcases h with h|⟨b,o,rfl,hc⟩
 ·rw[h]at hl;simp at hl;omega
 ·have key:∀ j (hj:j<261) (v:Value),l[k].pc[j]?=some v->w.cell? ⟨b,o+k*261+j,none⟩=some v:=λj hj v hv=>by
   have hlt:k*261+j<(Tr l).length:=oM;have h1:=hc (k*261+j) hlt;have h2:=XQ l k j hk hj;rw[List.getElem?_eq_getElem hlt,hv]at h2;rw[<- Nat.add_assoc]at h1;rw[h1,h2]
  exact⟨b,o,rfl,key 0 oM _ (Nd.ajt _),key 257 oM _ (Nd.vD _ 0),key 258 oM _ (Nd.vD _ 1),key 259 oM _ (Nd.vD _ 2),key 260 oM _ (Nd.vD _ 3)⟩
def bR:Rx->Nat
 |.eps=>1
 |.cls _=>1
 |.cat a b=>bR a+bR b+1
 |.alt a b=>bR a+bR b+1
 |.star a=>bR a+1
 |.and a b=>bR a+bR b+1
 |.minus a b=>bR a+bR b+1
def RN(n:Nat):Rx->List Nd
 |.eps=>[qJ 0 0 0]
 |.cls S=>[⟨1,S,0,0,0,0⟩]
 |.cat a b=>RN n a++(RN (n+bR a) b++[qJ 2 ((n+bR a-1:Nat):Int) ((n+bR a+bR b-1:Nat):Int)])
 |.alt a b=>RN n a++(RN (n+bR a) b++[qJ 3 ((n+bR a-1:Nat):Int) ((n+bR a+bR b-1:Nat):Int)])
 |.star a=>RN n a++[qJ 4 ((n+bR a-1:Nat):Int) 0]
 |.and a b=>RN n a++(RN (n+bR a) b++[qJ 5 ((n+bR a-1:Nat):Int) ((n+bR a+bR b-1:Nat):Int)])
 |.minus a b=>RN n a++(RN (n+bR a) b++[qJ 6 ((n+bR a-1:Nat):Int) ((n+bR a+bR b-1:Nat):Int)])
theorem vZ(t:Rx):1<=bR t:=by cases t<;>simp[bR]
abbrev amF (ar:List Nd)(ao:Option Addr)(c:Nat)(f:FuncId)(v:Value)(t:Rx):Prop:=
 ∀ (l:List Nd) (r:Int) (u:Value) (fp:List Nat) (w:World),l.length+bR t<=4000000->aW w u fp 64 [.row 243 261 l.length (Tr l),.val (.int .i64 r)]->(∀ b∈fp,b<w.heap.size)->jN w (Out fp) ao (Tr ar) ->
  Calls prog f #[.slice ao ar.length c,v,u] w λe w' => dH w u fp 64 e w' (.ret (.int .i64 ((l.length+bR t-1:Nat):Int)) [.row 243 261 (l.length+bR t) (Tr l++Tr (RN l.length t)),.val (.int .i64 r)])
section
variable (ar:List Nd)(ao:Option Addr)(c:Nat)(f:FuncId)(hen:∀ args w,(callFunc f args).run prog w=.ok (.enter f args) w)(dom:Value->Prop)(tv:Value->Rx)(h:∀ v,dom v->amF ar ao c f v (tv v))
end
def below(n:Nat)(v:Value):Prop:=∃ x:Int,v=.int .i64 x/\0<=x/\x<n
section
variable (ar:List Nd)(ts:List RT)(ao:Option Addr)(c n:Nat)
end
section
variable (ar:List Nd)(ts:List RT)(ao:Option Addr)(c n:Nat)
end
theorem NM.leaf{ts:List RT}{d:Nd}{t:RT}(h:NM ts d t)(h2:d.op<2):(∀ m,RN m t.expand=[⟨d.op,d.set,0,0,0,0⟩])/\bR t.expand=1:=by
 cases h with
 |eps h0 h1=>exact⟨λm=>by rw[h0,h1];rfl,rfl⟩
 |cls h0=>exact⟨λm=>by rw[h0];rfl,rfl⟩
 |cat a b h0|alt a b h0|and a b h0|minus a b h0|rep a h0=>omega
theorem NM.two{ts:List RT}{d:Nd}{t:RT}(h:NM ts d t)(h2:2<=d.op)(h7:d.op≠7):∃ a b,ts[d.a.toNat]?=some a/\ts[d.b.toNat]?=some b/\bR t.expand=bR a.expand+bR b.expand+1 /\
  ∀ m,RN m t.expand=RN m a.expand++(RN (m+bR a.expand) b.expand++[qJ d.op ((m+bR a.expand-1:Nat):Int) ((m+bR a.expand+bR b.expand-1:Nat):Int)]):=by
 cases h with
 |eps h0|cls h0=>omega
 |cat a b h0 _ h1 _ h2=>exact⟨a,b,h1,h2,rfl,λm=>by rw[h0];rfl⟩
 |alt a b h0 _ h1 _ h2=>exact⟨a,b,h1,h2,rfl,λm=>by rw[h0];rfl⟩
 |and a b h0 _ h1 _ h2=>exact⟨a,b,h1,h2,rfl,λm=>by rw[h0];rfl⟩
 |minus a b h0 _ h1 _ h2=>exact⟨a,b,h1,h2,rfl,λm=>by rw[h0];rfl⟩
 |rep a h0=>exact absurd h0 h7
section
variable (ar:List Nd)(ts:List RT)(ao:Option Addr)(c n:Nat)(d:Nd)
end
end
section
def om(r:RL):Prop:=r.1=cA (bR r.2)
theorem om.leaf{t:Rx}(h:bR t=1):om (bV t):=by
 show 1=cA (bR t);rw[h];rfl
theorem om.join{mk:Rx->Rx->Rx}(hm:∀ x y,bR (mk x y)=bR x+bR y+1){a b:RL}(ha:om a)(hb:om b):om (bf mk a b):=by
 show cA (1+a.1+b.1)=cA (bR (mk a.2 b.2));rw[hm,ha,hb,NJ,NI]
 congr 1
 omega
theorem om.star{a:RL}(ha:om a):om (gz a):=by
 show cA (1+a.1)=cA (bR a.2+1);rw[ha];unfold cA;omega
theorem om.maybe{a:RL}(ha:om a):om (bO a):=om.join (λ_ _=>rfl) ha (om.leaf rfl)
theorem om.iter{f:RL->RL}(hf:∀ x,om x->om (f x)):∀ (k:Nat) {x:RL},om x->om (bH f k x)
 |0,_,h=>h
 |k+1,_,h=>om.iter hf k (hf _ h)
theorem om.times{a:RL}(ha:om a)(m n:Int):om (dt a m n):=by
 have h1:om (if m=0 then bO a else a):=by split;exact ha.maybe;exact ha
 have h2:om (bH (λx=>bf .cat x a) (m-1).toNat (if m=0 then bO a else a)):=om.iter (λx hx=>om.join (λ_ _=>rfl) hx ha) _ h1;unfold dt;split
 ·exact ha.star
 ·split
  ·exact om.leaf rfl
  ·split
   ·exact om.join (λ_ _=>rfl) h2 ha.star
   ·exact om.iter (λx hx=>om.join (λ_ _=>rfl) hx ha.maybe) _ h2
theorem RT.zQ(t:RT):t.sz<=2001:=by
 cases t with
 |eps=>decide
 |cls S=>show 1<=2001;decide
 |cat a b=>exact lA _
 |alt a b=>exact lA _
 |and a b=>exact lA _
 |minus a b=>exact lA _
 |rep a m n=>exact lA _
theorem NM.size{ts:List RT}{d:Nd}{t:RT}(h:NM ts d t)(hts:∀ s∈ts,om s.val):om t.val:=by
 have at' : ∀ {x:Nat} {a:RT},ts[x]?=some a->om a.val:=λh=>hts _ (List.mem_of_getElem? h)
 cases h with
 |eps h0 h1=>exact om.leaf rfl
 |cls h0=>exact om.leaf rfl
 |cat a b _ _ h1 _ h2=>exact om.join (mk:=.cat) (λ_ _=>rfl) (at' h1) (at' h2)
 |alt a b _ _ h1 _ h2=>exact om.join (mk:=.alt) (λ_ _=>rfl) (at' h1) (at' h2)
 |and a b _ _ h1 _ h2=>exact om.join (mk:=.and) (λ_ _=>rfl) (at' h1) (at' h2)
 |minus a b _ _ h1 _ h2=>exact om.join (mk:=.minus) (λ_ _=>rfl) (at' h1) (at' h2)
 | rep a _ _ h1 h2=>
  rcases h2 with ⟨e1,e2⟩|⟨g0,_,_,g1⟩
  ·rw[e1,e2,<- Cf];exact om.join (λ_ _=>rfl) (at' h1) (at' h1).star
  ·rw[<- yI a d.m d.n g0 g1 a.zQ];exact (at' h1).times _ _
theorem AR.size{ar:List Nd}{ts:List RT}(h:AR ar ts):∀ t∈ts,om t.val:=by
 induction h with
 |nil=>intro t ht;cases ht
 | snoc ha hn ih=>
  intro s hs;rcases List.mem_append.1 hs with hs|hs
  ·exact ih s hs
  ·rw[List.mem_singleton.1 hs];exact hn.size ih
theorem AR.small{ar:List Nd}{ts:List RT}(h:AR ar ts){t:RT}(ht:t∈ts)(hs:t.sz<=2000):bR t.expand<=2000:=by
 have:=h.size t ht;have e:t.sz=cA (bR t.expand):=this;unfold cA at e;omega
end
section
open Go.RowKit Go.LE Go.Proofs.Tryz
set_option maxRecDepth 10000
def hxD(n:Int):UInt8:=if n<10 then (48+n).toNat.toUInt8 else (87+n).toNat.toUInt8
def uZ(b:Int)(barred:Bool):ByteArray:=
 if b=10 then ⟨#[92,110]⟩ else if b=13 then ⟨#[92,114]⟩ else if b=9 then ⟨#[92,116]⟩
 else if b<32\/126<b then ⟨#[92,120,hxD (b / 16),hxD (b % 16)]⟩
 else if barred=true then ⟨#[92,b.toNat.toUInt8]⟩ else ⟨#[b.toNat.toUInt8]⟩
theorem sE(b:Int)(q:Bool):(uZ b q).size<=4:=by
 unfold uZ
 repeat' split
 all_goals (show Array.size _<=4;simp)
def vj(S:CS):Nat->Nat
 |0=>0
 |n+1=>vj S n+if S.getLsbD n=true then 1 else 0
def vi(S:CS):Nat:=vj S 256
theorem Rl(S:CS)(n:Nat):vj S n<=n:=by
 induction n with
 |zero=>exact Nat.le_refl _
 |succ n ih=>
  unfold vj;split<;>omega
def Hh(S:CS):Nat->Nat->Nat
 |0,b=>b
 |k+1,b=>if S.getLsbD b=true then b else Hh S k (b+1)
def BB(S:CS):Nat:=Hh S 256 0
theorem R3(S:CS):∀ k b,b<=Hh S k b/\Hh S k b<=b+k
 |0,b=>⟨Nat.le_refl _,Nat.le_refl _⟩
 | k+1,b=>by
  unfold Hh;split
  ·omega
  ·have:=R3 S k (b+1);omega
theorem aeF(S:CS)(b:Nat)(hb:b<256)(h1:∀ j<b,S.getLsbD j=false)(h2:S.getLsbD b=true):BB S=b:=by
 have key:∀ k j,j+k=256->j<=b->Hh S k j=b:=by
  intro k
  induction k with
  |zero=>intro j hj hjb;omega
  | succ k ih=>
   intro j hj hjb;unfold Hh;by_cases e:j=b
   ·subst e;rw[if_pos h2]
   ·rw[if_neg (by rw[h1 j oM];simp)];exact ih (j+1) oM oM
 exact key 256 0 rfl (Nat.zero_le _)
theorem TM(S:CS)(n:Nat)(h:∀ j<n,S.getLsbD j=false):vj S n=0:=by
 induction n with
 |zero=>rfl
 |succ n ih=>
  unfold vj;rw[ih λj hj=>h j oM,h n oM];rfl
def lp(T:CS):Nat->Nat->Nat
 |0,b=>b
 |k+1,b=>if T.getLsbD (b+1)=true then lp T k (b+1) else b
def oT(T:CS)(b:Nat):Nat:=lp T (255-b) b
theorem VL(T:CS)(b:Nat)(hb:b<255)(h:T.getLsbD (b+1)=true):oT T b=oT T (b+1):=by
 unfold oT;rw[show 255-b=(255-(b+1))+1 by omega,lp,if_pos h]
theorem VM(T:CS)(b:Nat)(h:b<255->T.getLsbD (b+1)=false):oT T b=b:=by
 unfold oT;by_cases hb:b<255
 ·rw[show 255-b=(255-(b+1))+1 by omega,lp,if_neg (by rw[h hb];simp)]
 ·rw[show 255-b=0 by omega,lp]
theorem afb(T:CS)(b:Nat)(hb:b<256):b<=oT T b/\oT T b<256:=by
 have key:∀ k j,b<=j->j+k<=255->b<=lp T k j/\lp T k j<256:=by
  intro k
  induction k with
  |zero=>intro j h1 h2;exact⟨h1,by rw[lp];omega⟩
  |succ k ih=>
   intro j h1 h2;unfold lp;split
   ·exact ih (j+1) oM oM
   ·omega
 exact key (255-b) b (Nat.le_refl _) oM
theorem afc(T:CS)(b j:Nat)(hb:b<256)(h0:T.getLsbD b=true)(h1:b<=j)(h2:j<=oT T b):T.getLsbD j=true:=by
 have key:∀ k i,T.getLsbD i=true->i<=j->j<=lp T k i->T.getLsbD j=true:=by
  intro k
  induction k with
  |zero=>
   intro i hi h1 h2;rw[lp]at h2;have:i=j:=oM;rw[<- this];exact hi
  | succ k ih=>
   intro i hi h1 h2;unfold lp at h2;by_cases e:i=j
   ·rw[<- e];exact hi
   ·split at h2
    ·rename_i hn;exact ih (i+1) hn oM h2
    ·omega
 exact key _ b h0 h1 h2
theorem aar(T:CS)(b:Nat)(hb:b<256)(h:oT T b<255):T.getLsbD (oT T b+1)=false:=by
 have key:∀ k i,i+k=255->lp T k i<255->T.getLsbD (lp T k i+1)=false:=by
  intro k
  induction k with
  |zero=>intro i h1 h2;rw[lp]at h2;omega
  | succ k ih=>
   intro i h1 h2;unfold lp at h2 ⊢;split at h2
   ·rename_i hn;rw[if_pos hn];exact ih (i+1) oM h2
   ·rename_i hn;rw[if_neg hn];simpa using hn
 exact key (255-b) b oM h
def vm:ByteArray:=⟨#[45]⟩
def Te(out:ByteArray)(b e:Nat):ByteArray:=
 if b<e then (if b+1<e then out++uZ b (ue zi b)++vm else out++uZ b (ue zi b))++uZ e (ue zi e) else out++uZ b (ue zi b)
theorem Tf(out:ByteArray)(b e:Nat):(Te out b e).size<=out.size+9:=by
 have h1:=sE b (ue zi b);have h2:=sE e (ue zi e);have h3:vm.size=1:=rfl;unfold Te
 repeat' split
 all_goals simp only[ByteArray.size_append];omega
def stB(T:CS)(b:Nat):Bool:=T.getLsbD b&&(b == 0||!T.getLsbD (b-1))
def fX(T:CS)(pre:ByteArray):Nat->ByteArray
 |0=>pre
 |b+1=>if stB T b=true then Te (fX T pre b) b (oT T b) else fX T pre b
theorem pI(T:CS)(pre:ByteArray)(b:Nat):(fX T pre b).size<=pre.size+9*b:=by
 induction b with
 |zero=>simp[fX]
 | succ b ih=>
  unfold fX;split
  ·have:=Tf (fX T pre b) b (oT T b);omega
  ·omega
theorem Pq(T:CS)(pre:ByteArray)(b:Nat)(hb:b<256)(h0:T.getLsbD b=true):∀ j,b<j->j<=oT T b+1->fX T pre j=fX T pre (b+1):=by
 intro j
 induction j with
 |zero=>intro h;omega
 | succ j ih=>
  intro h1 h2;by_cases e:j=b
  ·rw[e]
  ·have hs:stB T j=false:=by
    have g1:=afc T b (j-1) hb h0 oM oM;unfold stB;rw[g1];have:(j == 0)=false:=by simp;omega
    rw[this];simp
   rw[fX,if_neg (by rw[hs];simp)];exact ih oM oM
def K1:ByteArray:=⟨#[91]⟩
def K3:ByteArray:=⟨#[91,94]⟩
def Yg:ByteArray:=⟨#[93]⟩
def qN(S:CS):ByteArray:=
 if vi S=1 then uZ (BB S) (ue spc (BB S))
 else (if 128<vi S then fX (~~~S) K3 256 else fX S K1 256)++Yg
theorem Qa(S:CS):(qN S).size<=2400:=by
 have h0:K3.size=2:=rfl;have h1:K1.size=1:=rfl;have h2:Yg.size=1:=rfl;unfold qN;split
 ·have:=sE (BB S) (ue spc (BB S));omega
 ·rw[ByteArray.size_append];split
  ·have:=pI (~~~S) K3 256;omega
  ·have:=pI S K1 256;omega
def AB:Rx->Int
 |.eps=>4
 |.cls _=>4
 |.cat _ _=>2
 |.alt _ _=>0
 |.star _=>3
 |.and _ _=>1
 |.minus _ _=>1
def lpB:ByteArray:=⟨#[40]⟩
def rpB:ByteArray:=⟨#[41]⟩
def amM:ByteArray:=⟨#[40,41]⟩
def ali:ByteArray:=⟨#[124]⟩
def ale:ByteArray:=⟨#[38]⟩
def aiH:ByteArray:=⟨#[42]⟩
def uo(r need:Int)(s:ByteArray):ByteArray:=if r<need then lpB++s++rpB else s
def cX:Rx->ByteArray
 |.eps=>amM
 |.cls S=>qN S
 |.cat a b=>uo (AB a) 2 (cX a)++uo (AB b) 3 (cX b)
 |.alt a b=>uo (AB a) 0 (cX a)++ali++uo (AB b) 1 (cX b)
 |.star a=>uo (AB a) 3 (cX a)++aiH
 |.and a b=>uo (AB a) 1 (cX a)++ale++uo (AB b) 2 (cX b)
 |.minus a b=>uo (AB a) 1 (cX a)++vm++uo (AB b) 2 (cX b)
def Xn(t:Rx)(need:Int):ByteArray:=uo (AB t) need (cX t)
theorem fM(r need:Int)(s:ByteArray):(uo r need s).size<=s.size+2:=by
 have h1:lpB.size=1:=rfl;have h2:rpB.size=1:=rfl;unfold uo;split
 ·rw[ByteArray.size_append,ByteArray.size_append];omega
 ·omega
theorem cM:∀ t:Rx,(cX t).size<=2400*bR t
 |.eps=>by show 2<=2400*1;omega
 |.cls S=>by
  have:=Qa S;show (qN S).size<=2400*1;omega
 |.cat a b=>by
  have h1:=cM a;have h2:=cM b;have h3:=fM (AB a) 2 (cX a);have h4:=fM (AB b) 3 (cX b);have h5:bR (.cat a b)=bR a+bR b+1:=rfl;unfold cX;rw[ByteArray.size_append];omega
 |.alt a b=>by
  have h1:=cM a;have h2:=cM b;have h3:=fM (AB a) 0 (cX a);have h4:=fM (AB b) 1 (cX b);have h5:bR (.alt a b)=bR a+bR b+1:=rfl;have h6:ali.size=1:=rfl;unfold cX;rw[ByteArray.size_append,ByteArray.size_append];omega
 |.star a=>by
  have h1:=cM a;have h3:=fM (AB a) 3 (cX a);have h5:bR (.star a)=bR a+1:=rfl;have h6:aiH.size=1:=rfl;unfold cX;rw[ByteArray.size_append];omega
 |.and a b=>by
  have h1:=cM a;have h2:=cM b;have h3:=fM (AB a) 1 (cX a);have h4:=fM (AB b) 2 (cX b);have h5:bR (.and a b)=bR a+bR b+1:=rfl;have h6:ale.size=1:=rfl;unfold cX;rw[ByteArray.size_append,ByteArray.size_append];omega
 |.minus a b=>by
  have h1:=cM a;have h2:=cM b;have h3:=fM (AB a) 1 (cX a);have h4:=fM (AB b) 2 (cX b);have h5:bR (.minus a b)=bR a+bR b+1:=rfl;have h6:vm.size=1:=rfl;unfold cX;rw[ByteArray.size_append,ByteArray.size_append];omega
theorem rB(k a b c d:Nat)(hc:c<2 ^ k)(hd:d<2 ^ k):(2 ^ k*a+c) &&& (2 ^ k*b+d)=2 ^ k*(a &&& b)+(c &&& d):=by
 have he:(c &&& d)<2 ^ k:=Nat.lt_of_le_of_lt Nat.and_le_left hc;apply Nat.eq_of_testBit_eq;intro j;rw[Nat.testBit_and,Nat.testBit_two_pow_mul_add a hc,Nat.testBit_two_pow_mul_add b hd,Nat.testBit_two_pow_mul_add _ he];by_cases h:j<k
 ·rw[if_pos h,if_pos h,if_pos h,Nat.testBit_and]
 ·rw[if_neg h,if_neg h,if_neg h,Nat.testBit_and]
def M0:Nat->Nat
 |0=>0
 |n+1=>4*M0 n+1
def f0(n x:Nat):Nat:=((x / 2) &&& M0 n)+(x &&& M0 n)
theorem aeb(x:Nat):f0 0 x=0:=by simp[f0,M0]
theorem Ar(n q d:Nat)(hd:d<4):f0 (n+1) (4*q+d)=4*f0 n q+(d / 2+d % 2):=by
 have h1:(4*q+d) / 2=2 ^ 2*(q / 2)+(2*(q % 2)+d / 2):=oM;have h2:=rB 2 (q / 2) (M0 n) (2*(q % 2)+d / 2) 1 oM oM;have h3:=rB 2 q (M0 n) d 1 oM oM;have h4:(2*(q % 2)+d / 2) &&& 1=d / 2:=by rw[Nat.and_one_is_mod];omega
 have h5:d &&& 1=d % 2:=Nat.and_one_is_mod d;rw[h4]at h2;rw[h5]at h3;unfold f0;rw[h1,M0];rw[show 4*M0 n+1=2 ^ 2*M0 n+1 by omega,show 4*q+d=2 ^ 2*q+d by omega,h2,h3];omega
theorem aea(n q b:Nat)(hb:b<256):f0 (n+4) (256*q+b)=256*f0 n q+f0 4 b:=by
 have key:∀ m r,f0 (m+4) (256*r+b)=256*f0 m r+(64*(b / 64 / 2+b / 64 % 2)+(16*(b / 16 % 4 / 2+b / 16 % 4 % 2)+(4*(b / 4 % 4 / 2+b / 4 % 4 % 2)+(b % 4 / 2+b % 4 % 2)))):=λm r=>by
  rw[show 256*r+b=4*(4*(4*(4*r+b / 64)+b / 16 % 4)+b / 4 % 4)+b % 4 by omega];rw[Ar _ _ _ oM,Ar _ _ _ oM,Ar _ _ _ oM,Ar _ _ _ oM];omega
 have h0:=key 0 0;rw[aeb]at h0;rw[key,show f0 4 b=f0 (0+4) (256*0+b) by rw[Nat.mul_zero,Nat.zero_add,Nat.zero_add],h0];omega
def M1:Nat->Nat
 |0=>0
 |n+1=>16*M1 n+3
def f1(n x:Nat):Nat:=((x / 4) &&& M1 n)+(x &&& M1 n)
theorem Rw(x:Nat):f1 0 x=0:=by simp[f1,M1]
theorem ald(x:Nat):x &&& 3=x % 4:=Nat.and_two_pow_sub_one_eq_mod x 2
theorem alc(x:Nat):x &&& 15=x % 16:=Nat.and_two_pow_sub_one_eq_mod x 4
theorem Rv(n q d:Nat)(hd:d<16):f1 (n+1) (16*q+d)=16*f1 n q+(d / 4+d % 4):=by
 have h1:(16*q+d) / 4=2 ^ 4*(q / 4)+(4*(q % 4)+d / 4):=oM;have h2:=rB 4 (q / 4) (M1 n) (4*(q % 4)+d / 4) 3 oM oM;have h3:=rB 4 q (M1 n) d 3 oM oM;have h4:(4*(q % 4)+d / 4) &&& 3=d / 4:=by rw[ald];omega
 rw[h4]at h2;rw[ald]at h3;unfold f1;rw[h1,M1];rw[show 16*M1 n+3=2 ^ 4*M1 n+3 by omega,show 16*q+d=2 ^ 4*q+d by omega,h2,h3];omega
theorem aec(n q b:Nat)(hb:b<256):f1 (n+2) (256*q+b)=256*f1 n q+f1 2 b:=by
 have key:∀ m r,f1 (m+2) (256*r+b)=256*f1 m r+(16*(b / 16 / 4+b / 16 % 4)+(b % 16 / 4+b % 16 % 4)):=λm r=>by
  rw[show 256*r+b=16*(16*r+b / 16)+b % 16 by omega];rw[Rv _ _ _ oM,Rv _ _ _ oM];omega
 have h0:=key 0 0;rw[Rw]at h0;rw[key,show f1 2 b=f1 (0+2) (256*0+b) by rw[Nat.mul_zero,Nat.zero_add,Nat.zero_add],h0];omega
def M2:Nat->Nat
 |0=>0
 |n+1=>256*M2 n+15
def f2(n x:Nat):Nat:=(x / 16+x) &&& M2 n
theorem aee(x:Nat):f2 0 x=0:=by simp[f2,M2]
theorem aed(n q d:Nat)(hd:d % 16<=4/\d / 16<=4)(hq:q % 16<=4):f2 (n+1) (256*q+d)=256*f2 n q+(d / 16+d % 16):=by
 have h1:(256*q+d) / 16+(256*q+d)=2 ^ 8*(q / 16+q)+(16*(q % 16)+d / 16+d):=oM;have h2:=rB 8 (q / 16+q) (M2 n) (16*(q % 16)+d / 16+d) 15 oM oM;have h4:(16*(q % 16)+d / 16+d) &&& 15=d / 16+d % 16:=by rw[alc];omega
 rw[h4]at h2;unfold f2;rw[h1,M2];rw[show 256*M2 n+15=2 ^ 8*M2 n+15 by omega,h2]
def fG(x:Nat):Nat->Nat
 |0=>0
 |k+1=>fG x k+if x.testBit k=true then 1 else 0
theorem Li(q b:Nat)(hb:b<256):∀ k,k<=8->fG (256*q+b) k=fG b k
 |0,_=>rfl
 |k+1,h=>by
  have h8:=Nat.testBit_two_pow_mul_add (i:=8) q (b:=b) hb k;rw[if_pos (show k<8 by omega),show 2 ^ 8*q+b=256*q+b by omega]at h8;rw[fG,fG,Li q b hb k oM,h8]
theorem FC(q b:Nat)(hb:b<256):∀ k,fG (256*q+b) (8+k)=fG b 8+fG q k
 |0=>Li q b hb 8 (Nat.le_refl _)
 |k+1=>by
  have h8:=Nat.testBit_two_pow_mul_add (i:=8) q (b:=b) hb (8+k);rw[if_neg (show ¬ 8+k<8 by omega),show 2 ^ 8*q+b=256*q+b by omega,show 8+k-8=k by omega]at h8;have ih:=FC q b hb k;have e1:fG (256*q+b) (8+(k+1))=fG (256*q+b) (8+k)+if (256*q+b).testBit (8+k)=true then 1 else 0:=rfl
  have e2:fG q (k+1)=fG q k+if q.testBit k=true then 1 else 0:=rfl;rw[e1,e2,ih,h8];omega
theorem A3:∀ b:Fin 256,f0 4 b.val<256/\f1 2 (f0 4 b.val)<256/\f1 2 (f0 4 b.val) % 16<=4/\f1 2 (f0 4 b.val) / 16<=4/\f1 2 (f0 4 b.val) / 16+f1 2 (f0 4 b.val) % 16=fG b.val 8/\fG b.val 8<=8:=by decide +kernel
theorem Qk(n q b:Nat)(hb:b<256)(hq:f1 (n*2) (f0 (n*4) q) % 16<=4) :
  f2 (n+1) (f1 ((n+1)*2) (f0 ((n+1)*4) (256*q+b)))=256*f2 n (f1 (n*2) (f0 (n*4) q))+fG b 8/\f1 ((n+1)*2) (f0 ((n+1)*4) (256*q+b)) % 16<=4:=by
 obtain⟨h1,h2,h3,h4,h5,h6⟩:=A3 ⟨b,hb⟩;simp only at h1 h2 h3 h4 h5 h6;rw[show (n+1)*4=n*4+4 by omega,show (n+1)*2=n*2+2 by omega,aea _ _ _ hb,aec _ _ _ h1];refine⟨?_,oM⟩;rw[aed _ _ _ ⟨h3,h4⟩ hq,h5]
def Kq:Nat->Nat->Nat
 |0,_=>0
 |n+1,x=>256*Kq n (x / 256)+fG (x % 256) 8
theorem FW:∀ n x,f2 n (f1 (n*2) (f0 (n*4) x))=Kq n x/\f1 (n*2) (f0 (n*4) x) % 16<=4
 |0,x=>by
  show f2 0 (f1 0 (f0 0 x))=Kq 0 x/\f1 0 (f0 0 x) % 16<=4;rw[aee,Rw];exact⟨rfl,oM⟩
 |n+1,x=>by
  have ih:=FW n (x / 256);have h:=Qk n (x / 256) (x % 256) oM ih.2;rw[show 256*(x / 256)+x % 256=x by omega,ih.1]at h;exact h
theorem OZ(x:Nat):fG x 64=fG (x % 256) 8+(fG (x / 256 % 256) 8+(fG (x / 256 / 256 % 256) 8+(fG (x / 256 / 256 / 256 % 256) 8+(fG (x / 256 / 256 / 256 / 256 % 256) 8+(fG (x / 256 / 256 / 256 / 256 / 256 % 256) 8+(fG (x / 256 / 256 / 256 / 256 / 256 / 256 % 256) 8+fG (x / 256 / 256 / 256 / 256 / 256 / 256 / 256 % 256) 8)))))):=by
 have step:∀ k y,fG y (8+k)=fG (y % 256) 8+fG (y / 256) k:=λk y=>by
  have h:=FC (y / 256) (y % 256) oM k;rw[show 256*(y / 256)+y % 256=y by omega]at h;exact h
 rw[show 64=8+(8+(8+(8+(8+(8+(8+(8+0))))))) from rfl];rw[step,step,step,step,step,step,step,step];rfl
theorem nx(x:Nat):fG (x % 256) 8<=8:=(A3 ⟨x % 256,oM⟩).2.2.2.2.2
theorem On(x:Nat):∃ c0 c1 c2 c3 c4 c5 c6 c7:Nat,(c0<=8/\c1<=8/\c2<=8/\c3<=8/\c4<=8/\c5<=8/\c6<=8/\c7<=8) /\
  Kq 8 x=256*(256*(256*(256*(256*(256*(256*(256*0+c7)+c6)+c5)+c4)+c3)+c2)+c1)+c0/\fG x 64=c0+(c1+(c2+(c3+(c4+(c5+(c6+c7)))))):=
 ⟨_,_,_,_,_,_,_,_,⟨nx _,nx _,nx _,nx _,nx _,nx _,nx _,nx _⟩,rfl,OZ x⟩
theorem YI(x:Nat):∃ y,y=Kq 8 x/\y+y / 256<2 ^ 64/\(y+y / 256)+(y+y / 256) / 65536<2 ^ 64/\(y+y / 256)+(y+y / 256) / 65536+((y+y / 256)+(y+y / 256) / 65536) / 4294967296<2 ^ 63 /\
  ((y+y / 256)+(y+y / 256) / 65536+((y+y / 256)+(y+y / 256) / 65536) / 4294967296) % 128=fG x 64:=by
 obtain⟨c0,c1,c2,c3,c4,c5,c6,c7,hc,h1,h2⟩:=On x;refine⟨Kq 8 x,rfl,?_⟩;rw[h2];have h3:Kq 8 x=c0+256*c1+65536*c2+16777216*c3+4294967296*c4+1099511627776*c5+281474976710656*c6+72057594037927936*c7:=by rw[h1];omega
 generalize Kq 8 x=y at *;have h4:y / 256=c1+256*c2+65536*c3+16777216*c4+4294967296*c5+1099511627776*c6+281474976710656*c7:=oM;obtain⟨d0,e0⟩:∃ d,d=c0+c1:=⟨_,rfl⟩;obtain⟨d1,e1⟩:∃ d,d=c1+c2:=⟨_,rfl⟩;obtain⟨d2,e2⟩:∃ d,d=c2+c3:=⟨_,rfl⟩;obtain⟨d3,e3⟩:∃ d,d=c3+c4:=⟨_,rfl⟩
 obtain⟨d4,e4⟩:∃ d,d=c4+c5:=⟨_,rfl⟩;obtain⟨d5,e5⟩:∃ d,d=c5+c6:=⟨_,rfl⟩;obtain⟨d6,e6⟩:∃ d,d=c6+c7:=⟨_,rfl⟩;have h5:y+y / 256=d0+256*d1+65536*d2+16777216*d3+4294967296*d4+1099511627776*d5+281474976710656*d6+72057594037927936*c7:=oM;have hs:c0+(c1+(c2+(c3+(c4+(c5+(c6+c7))))))=d0+d2+d4+d6:=oM
 have hd:d0<=16/\d1<=16/\d2<=16/\d3<=16/\d4<=16/\d5<=16/\d6<=16/\c7<=16:=oM;rw[hs];clear h1 h2 h3 h4 hs hc e0 e1 e2 e3 e4 e5 e6;generalize y+y / 256=z at *;have h6:z / 65536=d2+256*d3+65536*d4+16777216*d5+4294967296*d6+1099511627776*c7:=oM;obtain⟨g0,k0⟩:∃ d,d=d0+d2:=⟨_,rfl⟩
 obtain⟨g1,k1⟩:∃ d,d=d1+d3:=⟨_,rfl⟩;obtain⟨g2,k2⟩:∃ d,d=d2+d4:=⟨_,rfl⟩;obtain⟨g3,k3⟩:∃ d,d=d3+d5:=⟨_,rfl⟩;obtain⟨g4,k4⟩:∃ d,d=d4+d6:=⟨_,rfl⟩;obtain⟨g5,k5⟩:∃ d,d=d5+c7:=⟨_,rfl⟩
 have h7:z+z / 65536=g0+256*g1+65536*g2+16777216*g3+4294967296*g4+1099511627776*g5+281474976710656*d6+72057594037927936*c7:=oM;have hz:z<2 ^ 64:=oM;have hs2:d0+d2+d4+d6=g0+g4:=oM;have hg:g0<=32/\g1<=32/\g2<=32/\g3<=32/\g4<=32/\g5<=32/\d6<=16/\c7<=16:=oM;rw[hs2];clear h5 h6 hs2 hd k0 k1 k2 k3 k4 k5
 generalize z+z / 65536=u at *;have h8:u / 4294967296=g4+256*g5+65536*d6+16777216*c7:=oM;refine⟨hz,oM,oM,?_⟩;omega
theorem J2(S:CS)(j:Nat):∀ k,k<=64->vj S (64*j+k)=vj S (64*j)+fG (wd S j).toNat k
 |0,_=>rfl
 | k+1,h=>by
  have e:(wd S j).toNat.testBit k=S.getLsbD (64*j+k):=by
   rw[wd,Int.toNat_natCast];show (S.extractLsb' (64*j) 64).getLsbD k=_;rw[BitVec.getLsbD_extractLsb'];simp;omega
  rw[show 64*j+(k+1)=(64*j+k)+1 by omega,vj,fG,J2 S j k oM,e];omega
theorem amf(S:CS)(j:Nat):(wd S j).toNat<2 ^ 64:=by
 rw[wd,Int.toNat_natCast];exact (S.extractLsb' (64*j) 64).isLt
theorem vg(s:ByteArray):lT ((byteCells s).map SV.v)=some (s.data.toList.map λc=>(c.toNat:Int)):=by
 have h:(byteCells s).map SV.v=(s.data.toList.map λc=>(c.toNat:Int)).map λn=>SV.v (.int .u8 n):=by simp[byteCells]
 rw[h,rh]
theorem CJ(s:ByteArray):ff (s.data.toList.map λc=>(c.toNat:Int))=s:=by
 rcases s with ⟨⟨l⟩⟩;unfold ff;rw[List.map_map];have h:(λn:Int=>UInt8.ofNat n.toNat) ∘ (λc:UInt8=>(c.toNat:Int))=id:=by
  funext c
  show UInt8.ofNat ((c.toNat:Int).toNat)=c;rw[Int.toNat_natCast,UInt8.ofNat_toNat]
 rw[h,List.map_id]
theorem E4(s:ByteArray):((byteCells s).map SV.v).all dI=true:=by
 rw[List.all_eq_true];intro x hx;obtain⟨v,hv,rfl⟩:=List.mem_map.1 hx;obtain⟨c,_,rfl⟩:=List.mem_map.1 hv;rfl
theorem sS(s:ByteArray)(l:List Int)(h:∀ c∈l,0<=c/\c<256):(byteCells s).map SV.v++l.map (λc=>SV.v (.int .u8 c))=(byteCells (s++ff l)).map SV.v:=by
 unfold byteCells ff;rw[ByteArray.data_append,Array.toList_append,List.map_append,List.map_append]
 congr 1
 simp only[List.map_map];refine List.map_congr_left λc hc=>?_
 obtain⟨h0,h1⟩:=h c hc;simp only[Function.comp,UInt8.toNat_ofNat'];rw[Nat.mod_eq_of_lt oM]
 congr 2
 omega
theorem tX(s t:ByteArray):(byteCells s).map SV.v++(byteCells t).map SV.v=(byteCells (s++t)).map SV.v:=by
 unfold byteCells;rw[ByteArray.data_append,Array.toList_append,List.map_append,List.map_append]
theorem VJ:∀ b:Fin 256,(0<=((b.val:Nat):Int).fdiv 16/\((b.val:Nat):Int).fdiv 16<16)/\(0<=cp .and .u8 ((b.val:Nat):Int) 15/\cp .and .u8 ((b.val:Nat):Int) 15<16) /\
  ((b.val:Nat):Int).fdiv 16=((b.val:Nat):Int) / 16/\cp .and .u8 ((b.val:Nat):Int) 15=((b.val:Nat):Int) % 16:=by decide +kernel
theorem BC(s:ByteArray):(s.data.toList.map λc=>(c.toNat:Int)).length=s.size:=by rw[List.length_map];rfl
theorem dK(l:List Int):(ff l).size=l.length:=by simp[ff,ByteArray.size]
def GX:ByteArray:=⟨#[48,49,50,51,52,53,54,55,56,57,97,98,99,100,101,102]⟩
def rR(c:Int):List Int:=
 if c=34\/c=92 then [92,c] else if 32<=c/\c<=126 then [c] else if c=10 then [92,110] else if c=13 then [92,114] else if c=9 then [92,116] else [92,120,bt GX (c / 16),bt GX (c % 16)]
def jA(s:ByteArray):Nat->ByteArray
 |0=>ff [34]
 |k+1=>jA s k++ff (rR (bt s k))
def eO(s:ByteArray):ByteArray:=jA s s.size++ff [34]
theorem aaq(c:Int):(rR c).length<=4:=by
 unfold rR
 repeat' split
 all_goals simp
theorem tj(s:ByteArray):∀ k,(jA s k).size<=1+4*k
 |0=>by show (ff [34]).size<=_;rw[dK];simp
 |k+1=>by
  show (jA s k++ff (rR (bt s k))).size<=_;rw[ByteArray.size_append,dK];have:=tj s k;have:=aaq (bt s k);omega
theorem ka(s:ByteArray):(eO s).size<=2+4*s.size:=by
 show (jA s s.size++ff [34]).size<=_;rw[ByteArray.size_append,dK];have:=tj s s.size;simp only[List.length_cons,List.length_nil];omega
theorem tM(s:ByteArray)(i:Int):0<=bt s i/\bt s i<256:=by
 unfold bt;have:=(s.data[i.toNat]?.getD 0).toNat_lt;omega
def gL:=(ae @List.replicate_succ.{0} @List.replicate_zero.{0} @au @ab Sz SD SZ (ae ty5 ty6 ty7 ty8 kU dc dd (ae de df dv dw dz dA mV (ae mW mX mY mZ eB eC eD (ae eE eF eG abF abG abH abI (EP @aV @aw @aD @aG @vg @CJ @E4))))))
theorem VK(s:ByteArray)(hs:s.size<=16777216)(w:World):Calls prog 38 #[.string s] w λe w' => e=.returned (.string (eO s))/\an w [] w' := by
 refine ak (nt:=66) [.tmp 2] func38 rfl rfl rfl ?_;refine vR Γ0 gL ?_;refine vR Γ0 gL ?_;refine Wp.seq ?_;refine vR Γ0 gL ?_;refine Wp.block ?_
 refine Wp.loop (λk:Nat=>⟨20,ee [(0,.is (.v (.string s))),(3,.is (.hd 8)),(8,.is (.v (.int .i64 s.size))),(9,.is (.v (.int .i64 (k:Nat))))],dP [(8,.row 5 1 (jA s k).size ((byteCells (jA s k)).map .v))]⟩) (λk=>k<=s.size) (λk=>s.size-k) 0 ?_ (Nat.zero_le _) ?_
 ·exact wM (λk=>.key k) gL
 rintro k hk;refine vR Γ0 gL ?_;refine Wp.seq ?_;refine wC gL (λhc=>?_) (λhc=>?_)
 ·have hlt:k<s.size:=by
   simp at hc;omega
  obtain⟨c0,c1⟩:=tM s k;have hq:=tj s k;have ha:=λl hl=>sS (jA s k) l hl
  have hb:jA s (k+1)=jA s k++ff (rR (bt s k)):=rfl;have wk:IntKind.i64.wrap ((k:Int)+1)=((k+1:Nat):Int):=wW;refine wK ?_
  refine hH ⟨20,ee [(0,.is (.v (.string s))),(8,.is (.v (.int .i64 s.size))),(9,.is (.v (.int .i64 (k:Nat)))),(3,.is (.hd 8))],dP [(8,.row 5 1 (jA s (k+1)).size ((byteCells (jA s (k+1))).map .v))]⟩ ?_ ?_
  ·refine Wp.block ?_;refine vR Γ0 gL ?_;refine wR Γ0 gL ?_ ?_
   ·first|omega|exact⟨oM,oM⟩
   refine Wp.block ?_;refine vR Γ0 gL ?_;refine wC gL (λhc=>?_) (λhc=>?_)
   ·have hv:bt s k=34\/bt s k=92:=by simpa using hc
    have e0:rR (bt s k)=[92,bt s k]:=by rw[rR,if_pos hv]
    rw[e0]at hb;have e1:=ha _ (λc (hc:c∈[92,bt s k])=>by simp at hc;omega);rw[<- hb]at e1;simp only[List.map_cons,List.map_nil]at e1;have e2:(jA s (k+1)).size=(jA s k).size+2:=by rw[hb,ByteArray.size_append,dK];rfl
    refine wr Γ0 gL ?_ ?_
    ·exact by unfold maxLen;omega
    exact wM (λk=>if k=8 then .key 296 else .key k) (bw gL e1 e2)
   have n0:¬ (bt s k=34\/bt s k=92):=by simpa using hc
   refine vR Γ0 gL ?_;refine wC gL (λhc=>?_) (λhc=>?_)
   ·have hv:32<=bt s k/\bt s k<=126:=by simpa using hc
    have e0:rR (bt s k)=[bt s k]:=by rw[rR,if_neg n0,if_pos hv]
    rw[e0]at hb;have e1:=ha _ (λc (hc:c∈[bt s k])=>by simp at hc;omega);rw[<- hb]at e1;simp only[List.map_cons,List.map_nil]at e1;have e2:(jA s (k+1)).size=(jA s k).size+1:=by rw[hb,ByteArray.size_append,dK];rfl
    refine wr Γ0 gL ?_ ?_
    ·exact by unfold maxLen;omega
    exact wM (λk=>if k=8 then .key 352 else .key k) (bw gL e1 e2)
   have n1:¬ (32<=bt s k/\bt s k<=126):=by simpa using hc
   refine vR Γ0 gL ?_;refine wC gL (λhc=>?_) (λhc=>?_)
   ·have hv:bt s k=10:=by simpa using hc
    have e0:rR (bt s k)=[92,110]:=by rw[rR,if_neg n0,if_neg n1,if_pos hv]
    rw[e0]at hb;have e1:=tX (jA s k) (ff [92,110]);rw[<- hb]at e1;have e2:(jA s (k+1)).size=(jA s k).size+2:=by rw[hb,ByteArray.size_append,dK];rfl
    have e3:(⟨#[92,110]⟩:ByteArray)=ff [92,110]:=rfl;have e4:(ff [92,110]).size=2:=rfl;refine wr Γ0 (bw gL e3 e4) ?_ ?_
    ·unfold maxLen;omega
    exact wM (λk=>if k=8 then .key 360 else .key k) (bw gL e1 e2)
   have n2:¬ bt s k=10:=by simpa using hc
   refine vR Γ0 gL ?_;refine wC gL (λhc=>?_) (λhc=>?_)
   ·have hv:bt s k=13:=by simpa using hc
    have e0:rR (bt s k)=[92,114]:=by rw[rR,if_neg n0,if_neg n1,if_neg n2,if_pos hv]
    rw[e0]at hb;have e1:=tX (jA s k) (ff [92,114]);rw[<- hb]at e1;have e2:(jA s (k+1)).size=(jA s k).size+2:=by rw[hb,ByteArray.size_append,dK];rfl
    have e3:(⟨#[92,114]⟩:ByteArray)=ff [92,114]:=rfl;have e4:(ff [92,114]).size=2:=rfl;refine wr Γ0 (bw gL e3 e4) ?_ ?_
    ·unfold maxLen;omega
    exact wM (λk=>if k=8 then .key 384 else .key k) (bw gL e1 e2)
   have n3:¬ bt s k=13:=by simpa using hc
   refine vR Γ0 gL ?_;refine wC gL (λhc=>?_) (λhc=>?_)
   ·have hv:bt s k=9:=by simpa using hc
    have e0:rR (bt s k)=[92,116]:=by rw[rR,if_neg n0,if_neg n1,if_neg n2,if_neg n3,if_pos hv]
    rw[e0]at hb;have e1:=tX (jA s k) (ff [92,116]);rw[<- hb]at e1;have e2:(jA s (k+1)).size=(jA s k).size+2:=by rw[hb,ByteArray.size_append,dK];rfl
    have e3:(⟨#[92,116]⟩:ByteArray)=ff [92,116]:=rfl;have e4:(ff [92,116]).size=2:=rfl;refine wr Γ0 (bw gL e3 e4) ?_ ?_
    ·unfold maxLen;omega
    exact wM (λk=>if k=8 then .key 408 else .key k) (bw gL e1 e2)
   have n4:¬ bt s k=9:=by simpa using hc
   have e0:rR (bt s k)=[92,120,bt GX (bt s k / 16),bt GX (bt s k % 16)]:=by rw[rR,if_neg n0,if_neg n1,if_neg n2,if_neg n3,if_neg n4]
   obtain⟨x,hx⟩:=Int.eq_ofNat_of_zero_le c0;have x1:x<256:=oM;obtain⟨f1,f2,f3,f4⟩:=VJ ⟨x,x1⟩;simp only at f1 f2 f3 f4;rw[hx]at e0;rw[hx,e0]at hb;have b1:=tM GX ((x:Int) / 16);have b2:=tM GX ((x:Int) % 16)
   have e1:=ha _ (λc (hc:c∈[92,120,bt GX ((x:Int) / 16),bt GX ((x:Int) % 16)])=>by simp at hc;omega);rw[<- hb]at e1;simp only[List.map_cons,List.map_nil]at e1;have e2:(jA s (k+1)).size=(jA s k).size+4:=by rw[hb,ByteArray.size_append,dK];rfl
   have hxe:(⟨#[48,49,50,51,52,53,54,55,56,57,97,98,99,100,101,102]⟩:ByteArray)=GX:=rfl;refine Jt Γ0 (qE gL hx f3 f4 hxe) ?_ ?_
   ·rw[f3]at f1;rw[f4]at f2;exact⟨f1,f2,by unfold maxLen;omega,oM⟩
   exact wM (λk=>if k=8 then .key 464 else .key k) (EP gL hx f3 f4 hxe e1 e2)
  refine wr Γ0 (aa gL wk) ?_ ?_
  ·first|trivial|omega
  refine⟨k+1,hlt,oM,?_⟩;exact wM (λk=>.key k) gL
 ·have hk' : k=s.size:=by
   simp at hc;omega
  subst hk';have ha:=sS (jA s s.size) [34] (λc hc=>by simp at hc;omega);simp only[List.map_cons,List.map_nil]at ha;have hq:=tj s s.size;have e2:(eO s).size=(jA s s.size).size+1:=by rw[eO,ByteArray.size_append,dK];rfl
  refine wE ?_;refine wR Γ0 (aa gL ha) ?_ ?_
  ·exact⟨⟨by unfold maxLen;omega,oM⟩,by rw[BC,<- eO,e2]⟩
  refine wZ gL ?_;exact λE=>rfl
theorem adt(out:ByteArray)(b e:Nat):Te out b e=if b<e then (if b+1<e then out++uZ b (ue zi b)++vm else out++uZ b (ue zi b))++uZ e (ue zi e) else (if b+1<e then out++uZ b (ue zi b)++vm else out++uZ b (ue zi b)):=by
 unfold Te;split
 ·rfl
 ·rw[if_neg oM]
theorem XK(a b:Nat)(ha:a<2 ^ 64)(hb:b<2 ^ 64):cp .and .u64 (a:Int) (b:Int)=((a &&& b:Nat):Int):=by
 have h:=XJ (BitVec.ofNat 64 a) (BitVec.ofNat 64 b);rw[BitVec.toNat_and,BitVec.toNat_ofNat,BitVec.toNat_ofNat,Nat.mod_eq_of_lt ha,Nat.mod_eq_of_lt hb]at h;exact h
theorem Jp(a:Nat)(ha:a<2 ^ 64):IntKind.u64.wrap (a:Int)=(a:Int):=by
 have h:=xl (BitVec.ofNat 64 a);rw[BitVec.toNat_ofNat,Nat.mod_eq_of_lt ha]at h;exact h
theorem RA(a n:Nat):(a:Int).fdiv (n:Int)=((a / n:Nat):Int):=by
 rw[Int.fdiv_eq_ediv_of_nonneg _ (Int.natCast_nonneg _)];rfl
theorem ae2(x:Nat)(hx:x<2 ^ 64):IntKind.u64.wrap (cp .and .u64 ((x:Int).fdiv 2) 6148914691236517205+cp .and .u64 (x:Int) 6148914691236517205)=((f0 32 x:Nat):Int)/\f0 32 x<2 ^ 64:=by
 have hm:M0 32=6148914691236517205:=by decide
 have h1:=Nat.and_le_right (n:=x / 2) (m:=6148914691236517205);have h2:=Nat.and_le_right (n:=x) (m:=6148914691236517205);have hf:f0 32 x=(x / 2 &&& 6148914691236517205)+(x &&& 6148914691236517205):=by rw[f0,hm]
 have hl:f0 32 x<2 ^ 64:=oM;refine⟨?_,hl⟩;have e1:(x:Int).fdiv 2=((x / 2:Nat):Int):=RA x 2;have e2:=XK (x / 2) 6148914691236517205 oM oM;have e3:=XK x 6148914691236517205 oM oM;rw[e1,show (6148914691236517205:Int)=((6148914691236517205:Nat):Int) from rfl,e2,e3,<- Int.natCast_add,<- hf,Jp _ hl]
theorem ae3(x:Nat)(hx:x<2 ^ 64):IntKind.u64.wrap (cp .and .u64 ((x:Int).fdiv 4) 3689348814741910323+cp .and .u64 (x:Int) 3689348814741910323)=((f1 16 x:Nat):Int)/\f1 16 x<=7378697629483820646:=by
 have hm:M1 16=3689348814741910323:=by decide
 have h1:=Nat.and_le_right (n:=x / 4) (m:=3689348814741910323);have h2:=Nat.and_le_right (n:=x) (m:=3689348814741910323);have hf:f1 16 x=(x / 4 &&& 3689348814741910323)+(x &&& 3689348814741910323):=by rw[f1,hm]
 have hl:f1 16 x<=7378697629483820646:=oM;refine⟨?_,hl⟩;have e1:(x:Int).fdiv 4=((x / 4:Nat):Int):=RA x 4;have e2:=XK (x / 4) 3689348814741910323 oM oM;have e3:=XK x 3689348814741910323 oM oM
 rw[e1,show (3689348814741910323:Int)=((3689348814741910323:Nat):Int) from rfl,e2,e3,<- Int.natCast_add,<- hf,Jp _ oM]
theorem ae4(x:Nat)(hx:x<=7378697629483820646):cp .and .u64 (IntKind.u64.wrap ((x:Int).fdiv 16+(x:Int))) 1085102592571150095=((f2 8 x:Nat):Int):=by
 have hm:M2 8=1085102592571150095:=by decide
 have e1:(x:Int).fdiv 16=((x / 16:Nat):Int):=RA x 16;rw[e1,<- Int.natCast_add,Jp _ oM,show (1085102592571150095:Int)=((1085102592571150095:Nat):Int) from rfl,XK _ _ oM oM,f2,hm]
theorem Hj(x n:Nat)(h:x+x / n<2 ^ 64):IntKind.u64.wrap ((x:Int)+(x:Int).fdiv (n:Int))=((x+x / n:Nat):Int):=by
 rw[RA,<- Int.natCast_add,Jp _ h]
theorem ae5(x:Nat)(hx:x<2 ^ 63):cp .and .i64 (IntKind.i64.wrap (x:Int)) 127=((x % 128:Nat):Int):=by
 rw[aA oM oM];show IntKind.i64.wrap (((BitVec.ofInt 64 (x:Int) &&& BitVec.ofInt 64 127:BitVec 64).toNat:Nat):Int)=_;have h1:(BitVec.ofInt 64 (x:Int)).toNat=x:=by
  rw[BitVec.toNat_ofInt];omega
 have h2:(BitVec.ofInt 64 127).toNat=127:=rfl;have h3:x &&& 127=x % 128:=Nat.and_two_pow_sub_one_eq_mod x 7;rw[BitVec.toNat_and,h1,h2,h3,aA oM oM]
def Ef:=(ae @List.replicate_succ.{0} @List.replicate_zero.{0} @au @ab kQ kS kU (ae dc dd de df dv dw dz (ae dA mV mW mX mY mZ wL (ae wO wP wQ w6 w7 w8 w9 (fJ @aV @aw @aD @aG)))))
theorem Z1(x:Nat)(hx:x<2 ^ 64)(w:World):Calls prog 253 #[.int .u64 (x:Nat)] w λe w' => e=.returned (.int .i64 (fG x 64:Nat))/\an w [] w' := by
 obtain⟨r1,l1⟩:=ae2 x hx;obtain⟨r2,l2⟩:=ae3 (f0 32 x) l1;have r3:=ae4 _ l2;have hst:=(FW 8 x).1;obtain⟨y,hy,b1,b2,b3,hp⟩:=YI x;have r4:=Hj y 256 b1;have r5:=Hj _ 65536 b2;have r6:=Hj (y+y / 256+(y+y / 256) / 65536) 4294967296 oM;have r7:=ae5 _ b3
 have r3' : cp .and .u64 (IntKind.u64.wrap (((f1 16 (f0 32 x):Nat):Int).fdiv 16+((f1 16 (f0 32 x):Nat):Int))) 1085102592571150095=((y:Nat):Int):=by rw[r3,hy,<- hst]
 rw[<- hp];refine ak (nt:=35) [.tmp 2] func253 rfl rfl rfl ?_;refine vR Γ0 Ef ?_;refine vR Γ0 (aa Ef r1) ?_;refine vR Γ0 (aa Ef r2) ?_;refine vR Γ0 (aa Ef r3') ?_;refine vR Γ0 Ef ?_;refine vR Γ0 Ef ?_;refine vR Γ0 Ef ?_;refine vR Γ0 Ef ?_;refine wZ Ef ?_;intro E;show Value.int IntKind.i64 _=_
 congr 1
 refine Eq.trans ?_ r7
 congr 2
 refine Eq.trans ?_ r6;have e5:IntKind.u64.wrap (((y+y / 256:Nat):Int)+((y+y / 256:Nat):Int).fdiv 65536)=((y+y / 256+(y+y / 256) / 65536:Nat):Int):=r5;have e4:IntKind.u64.wrap ((y:Int)+(y:Int).fdiv 256)=((y+y / 256:Nat):Int):=r4;rw[e4,e5];rfl
def R8:a7 prog 253 where
 pre:=λW bs=>λ| [.val (.int .u64 x)]=>0<=x/\x<18446744073709551616|_=>False
 res:=λW=>λ| [.val (.int .u64 x)]=>.int .i64 (fG x.toNat 64:Nat)|_=>undef
 enters:=call253
 ok:=by
  intro W w bs us as_ hk hu hp;split at hp
  ·rename_i x
   match us,hu with
   |[u0],hu=>
    obtain⟨rfl,_⟩:=hu;have:=Z1 x.toNat oM w;rw[Int.toNat_of_nonneg hp.1]at this;exact this
  ·exact hp.elim
theorem Vo(W:World)(x:Int):R8.res W [.val (.int .u64 x)]=.int .i64 (fG x.toNat 64:Nat):=rfl
theorem Vn(W:World)(bs:List Nat)(x:Int):R8.pre W bs [.val (.int .u64 x)]=(0<=x/\x<18446744073709551616):=rfl
noncomputable def Γ77:Env prog:=⟨λ| 253=>some R8.spec|_=>none,λ| _=>none,λ_ _=>none⟩
theorem ah6:Γ77.sp 253=some R8.spec:=rfl
attribute [local simp] aR
def xI:=(ae Ef Vo Vn ah6 @iS @mM @mK (aa @kp @qB))
theorem NL(S:CS)(w:World):Calls prog 221 #[cx S] w λe w' => e=.returned (.int .i64 (vi S:Nat))/\an w [] w' := by
 refine ak (nt:=16) [.tmp 2] func221 rfl rfl rfl ?_;refine vR Γ77 (aa xI @dr) ?_;refine vR Γ77 xI ?_;refine Wp.seq ?_;refine vR Γ77 xI ?_;refine Wp.block ?_
 refine Wp.loop (λk:Nat=>⟨20,ee [(3,.is (.v (.int .i64 (vj S (64*k):Nat)))),(6,.is (.agg ((mO S).map .v))),(7,.is (.v (.int .i64 (k:Nat))))],dP []⟩) (λk=>k<=4) (λk=>4-k) 0 ?_ (Nat.zero_le _) ?_
 ·exact wM (λk=>.key k) xI
 rintro k hk;have hle:=Rl S (64*k);have hle2:=Rl S (64*(k+1));refine vR Γ77 xI ?_;refine Wp.seq ?_;refine wC xI (λhc=>?_) (λhc=>?_)
 ·have hlt:k<4:=by
   simp at hc;omega
  have hw:=J2 S k 64 (Nat.le_refl _);have hx:=amf S k;have hx0:0<=wd S k:=by rw[wd];omega
  have wk:IntKind.i64.wrap ((k:Int)+1)=((k+1:Nat):Int):=wW;have e:vj S (64*(k+1))=vj S (64*k)+fG (wd S k).toNat 64:=hw;have wc:IntKind.i64.wrap ((vj S (64*k):Int)+((fG (wd S k).toNat 64:Nat):Int))=((vj S (64*(k+1)):Nat):Int):=by rw[aA oM oM,e];omega
  refine wK ?_;refine Wp.seq (Wp.block ?_);refine wR Γ77 (aa xI (je S k hlt)) ?_ ?_
  ·omega
  refine wr Γ77 (aa xI wc) ?_ ?_
  ·omega
  refine vr Γ77 (aa xI wk) ?_;refine⟨k+1,oM,oM,?_⟩;exact wM (λk=>.key k) xI
 ·have hk' : k=4:=by
   simp at hc;omega
  subst hk';refine wE ?_;refine vR Γ77 xI ?_;refine wZ xI ?_;exact λE=>rfl
noncomputable def sQ:a7 prog 221 where
 pre:=λW bs=>λ| [.val y0]=>(match dec cx y0 with|some S=>True|_=>False)|_=>False
 res:=λW=>λ| [.val y0]=>(match dec cx y0 with|some S=>.int .i64 (vi S:Nat)|_=>undef)|_=>undef
 enters:=call221
 ok:=by
  intro W w bs us as_ hk hu hp;split at hp
  ·rename_i y0;split at hp
   ·rename_i S h0
    match us,hu with
    |[u0],hu=>
     obtain⟨rfl,_⟩:=hu;obtain rfl:=gi h0
     try dsimp only
     try simp only[bW cF]
     exact NL S w
   ·exact hp.elim
  ·exact hp.elim
theorem zq(W:World)(S:CS):sQ.res W [.val (cx S)]=.int .i64 (vi S:Nat):=by simp only[sQ,bW cF]
theorem zp(W:World)(bs:List Nat)(S:CS):sQ.pre W bs [.val (cx S)]=(True):=by simp only[sQ,bW cF]
noncomputable def zr:a7 prog 225 where
 pre:=λW bs=>λ| [.val y0,.val (.int .u8 b)]=>(match dec cx y0 with|some S=>0<=b/\b<256|_=>False)|_=>False
 res:=λW=>λ| [.val y0,.val (.int .u8 b)]=>(match dec cx y0 with|some S=>.bool (S.getLsbD b.toNat)|_=>undef)|_=>undef
 enters:=call225
 ok:=by
  intro W w bs us as_ hk hu hp;split at hp
  ·rename_i y0 b;split at hp
   ·rename_i S h0
    match us,hu with
    |[u0,u1],hu=>
     obtain⟨rfl,rfl,_⟩:=hu;obtain rfl:=gi h0
     try dsimp only
     try simp only[bW cF]
     have:=aeo S b.toNat oM w;rw[Int.toNat_of_nonneg hp.1]at this;exact this
   ·exact hp.elim
  ·exact hp.elim
theorem E6(W:World)(S:CS)(b:Int):zr.res W [.val (cx S),.val (.int .u8 b)]=.bool (S.getLsbD b.toNat):=by simp only[zr,bW cF]
theorem E5(W:World)(bs:List Nat)(S:CS)(b:Int):zr.pre W bs [.val (cx S),.val (.int .u8 b)]=(0<=b/\b<256):=by simp only[zr,bW cF]
noncomputable def Γ78:Env prog:=⟨λ| 225=>some zr.spec|_=>none,λ| _=>none,λ_ _=>none⟩
theorem ah7:Γ78.sp 225=some zr.spec:=rfl
def A1:=(sK xI @zq @zp @E6 @E5 ah7)
theorem TL(S:CS)(hS:∃ b<256,S.getLsbD b=true)(w:World):Calls prog 222 #[cx S,.int .i64 0] w λe w' => e=.returned (.tuple #[.int .u8 (BB S:Nat),.bool true])/\an w [] w' := by
 refine ak (nt:=19) [.tmp 4,.tmp 5] func222 rfl rfl rfl ?_;refine vR Γ78 (aa A1 @dr) ?_;refine Wp.seq ?_;refine vR Γ78 A1 ?_;refine Wp.block ?_
 refine Wp.loop (λj:Nat=>⟨20,ee [(2,.is (.own 0 0)),(6,.is (.v (.int .i64 (j:Nat))))],dP [(0,.cells 309 ((mO S).map .v))]⟩) (λj=>j<=256/\∀ k<j,S.getLsbD k=false) (λj=>256-j) 0 ?_ ⟨Nat.zero_le _,λk h=>by omega⟩ ?_
 ·exact wM (λk=>.key k) A1
 rintro j ⟨hj,hn⟩;refine Wp.seq ?_;refine vR Γ78 A1 ?_;refine wC A1 (λhc=>?_) (λhc=>?_)
 ·have hlt:j<256:=by
   simp at hc;omega
  have wj:IntKind.i64.wrap ((j:Int)+1)=((j+1:Nat):Int):=wW;have wu:IntKind.u8.wrap (j:Int)=(j:Int):=uU oM oM;refine wK ?_;refine Wp.seq (Wp.block ?_);refine wR Γ78 (bw A1 wu @cO) ?_ ?_
  ·omega
  refine wC A1 (λhc=>?_) (λhc=>?_)
  ·rw[aeF S j hlt hn hc];refine vR Γ78 (aa A1 wu) ?_;refine wZ A1 ?_;exact λE=>rfl
  ·refine wK ?_;refine vr Γ78 (aa A1 wj) ?_;refine⟨j+1,⟨oM,λk hk=>?_⟩,oM,?_⟩
   ·by_cases h:k=j
    ·rw[h];exact hc
    ·exact hn k oM
   ·exact wM (λk=>.key k) A1
 ·exfalso;have hj' : j=256:=by
   simp at hc;omega
  subst hj';obtain⟨b,h1,h2⟩:=hS;rw[hn b h1]at h2;cases h2
theorem Yi(S:CS)(h:vi S=1):∃ b<256,S.getLsbD b=true:=by
 refine Classical.byContradiction λhn=>?_
 have:=TM S 256 λj hj=>by
  cases hb:S.getLsbD j with
  |false=>rfl
  |true=>exact absurd ⟨j,hj,hb⟩ hn
 rw[vi]at h;omega
noncomputable def xR:a7 prog 222 where
 pre:=λW bs=>λ| [.val y0,.val (.int .i64 x)]=>(match dec cx y0 with|some S=>x=0/\∃ b<256,S.getLsbD b=true|_=>False)|_=>False
 res:=λW=>λ| [.val y0,.val (.int .i64 x)]=>(match dec cx y0 with|some S=>.tuple #[.int .u8 (BB S:Nat),.bool true]|_=>undef)|_=>undef
 enters:=call222
 ok:=by
  intro W w bs us as_ hk hu hp;split at hp
  ·rename_i y0 x;split at hp
   ·rename_i S h0
    match us,hu with
    |[u0,u1],hu=>
     obtain⟨rfl,rfl,_⟩:=hu;obtain rfl:=gi h0
     try dsimp only
     try simp only[bW cF]
     obtain⟨rfl,hS⟩:=hp;exact TL S hS w
   ·exact hp.elim
  ·exact hp.elim
theorem NR(W:World)(S:CS)(x:Int):xR.res W [.val (cx S),.val (.int .i64 x)]=.tuple #[.int .u8 (BB S:Nat),.bool true]:=by simp only[xR,bW cF]
theorem NQ(W:World)(bs:List Nat)(S:CS)(x:Int):xR.pre W bs [.val (cx S),.val (.int .i64 x)]=(x=0/\∃ b<256,S.getLsbD b=true):=by simp only[xR,bW cF]
def OH(n:Int):ByteArray:=⟨(Lib.itoa n).toArray⟩
theorem ZV(n:Nat):OH n=⟨(Lib.decDigits n).toArray⟩:=by
 unfold OH Lib.itoa;rw[if_neg oM,Int.toNat_natCast]
theorem BU:∀ (k u:Nat),u<10 ^ (k+1)->Lib.nDigits u<=k+1
 |0,u,h=>by rw[Lib.nDigits_small oM];omega
 | k+1,u,h=>by
  by_cases h1:u<10
  ·rw[Lib.nDigits_small h1];omega
  ·rw[Lib.nDigits_big h1];have:=BU k (u / 10) (by rw[Nat.pow_succ]at h;omega);omega
theorem Fw{n:Int}(h0:0<=n)(h1:n<=9223372036854775807):(OH n).size<=19:=by
 obtain⟨m,rfl⟩:=Int.eq_ofNat_of_zero_le h0;rw[ZV];show (Lib.decDigits m).length<=19;rw[Lib.decDigits_length];exact BU 18 m oM
def ng(W:World)(S:Nat->Prop):Prop:=S 3/\Lib.TabIs prog W "internal/strconv.uint64pow10" .u64 Lib.pow10Tab
theorem YO:prog.globalNamed "internal/strconv.uint64pow10"=some 3:=kR
theorem ng.mono{W W' : World}{S S' : Nat->Prop}(h:ng W S)(hs:aY W S W' S'):ng W' S' := by
 obtain⟨h0,h1⟩:=h;unfold Lib.TabIs World.var? at h1;rw[YO,Option.bind_some]at h1;have hlt:3<W.heap.size:=by
  refine Decidable.byContradiction λhn=>?_
  rw[Array.getElem?_eq_none oM]at h1;cases h1
 obtain⟨g1,g2⟩:=hs 3 hlt h0;refine⟨g2,?_⟩;unfold Lib.TabIs World.var?;rw[YO,Option.bind_some,g1];exact h1
theorem ng.fR{W w:World}{bs fp:List Nat}(h:ng W (Out bs))(hk:an W bs w)(hm:∀ b∈fp,W.heap.size<=b\/b∈bs):ng w (Out fp):=
 h.mono λb hb hs=>⟨hk.block b hb hs,λhb' => (hm b hb').elim (λg=>absurd g (Nat.not_le.2 hb)) hs⟩
theorem Y4(n:Int)(h0:0<=n)(h1:n<=9223372036854775807)(w:World)(ht:ng w (Out [])):Calls prog 39 #[.int .i64 n] w λe w' => e=.returned (.string (OH n))/\LE.an w [] w' := by
 refine (Any.strconv_Itoa Tryz.aeC n oM h1 w ht.2).mono ?_;rintro e w' ⟨rfl,k,os,rfl⟩;exact⟨rfl,LE.an.KY (Lib.below_grow _ w (Nat.le_refl _) k os)⟩
def RH:a7 prog 39 where
 pre:=λW bs=>λ| [.val (.int .i64 n)]=>(0<=n/\n<=9223372036854775807)/\ng W (Out bs)|_=>False
 res:=λW=>λ| [.val (.int .i64 n)]=>.string (OH n)|_=>undef
 enters:=call39
 ok:=by
  intro W w bs us as_ hk hu hp;split at hp
  ·rename_i n
   match us,hu with
   |[u0],hu=>
    obtain⟨rfl,_⟩:=hu;exact Y4 n hp.1.1 hp.1.2 w (hp.2.fR hk sI)
  ·exact hp.elim
theorem UC(W:World)(n:Int):RH.res W [.val (.int .i64 n)]=.string (OH n):=rfl
theorem UB(W:World)(bs:List Nat)(n:Int):RH.pre W bs [.val (.int .i64 n)]=((0<=n/\n<=9223372036854775807)/\ng W (Out bs)):=rfl
def opR:Rx->Int
 |.eps=>0
 |.cls _=>1
 |.cat _ _=>2
 |.alt _ _=>3
 |.star _=>4
 |.and _ _=>5
 |.minus _ _=>6
def XA(l:List Nd):Nat->Rx->Prop
 |i,.eps=>∃ d,l[i]?=some d/\d.op=0
 |i,.cls S=>∃ d,l[i]?=some d/\d.op=1/\d.set=S
 |i,.cat a b=>∃ d,∃ x y:Nat,l[i]?=some d/\d.op=2/\d.a=x/\d.b=y/\x<y/\XA l x a/\XA l y b
 |i,.alt a b=>∃ d,∃ x y:Nat,l[i]?=some d/\d.op=3/\d.a=x/\d.b=y/\x<y/\XA l x a/\XA l y b
 |i,.star a=>∃ d,∃ x:Nat,l[i]?=some d/\d.op=4/\d.a=x/\XA l x a
 |i,.and a b=>∃ d,∃ x y:Nat,l[i]?=some d/\d.op=5/\d.a=x/\d.b=y/\x<y/\XA l x a/\XA l y b
 |i,.minus a b=>∃ d,∃ x y:Nat,l[i]?=some d/\d.op=6/\d.a=x/\d.b=y/\x<y/\XA l x a/\XA l y b
theorem XA.op{l:List Nd}{i:Nat}{t:Rx}(h:XA l i t):∃ d,l[i]?=some d/\d.op=opR t:=by
 cases t with
 |eps=>obtain⟨d,h1,h2⟩:=h;exact⟨d,h1,h2⟩
 |cls S=>obtain⟨d,h1,h2,_⟩:=h;exact⟨d,h1,h2⟩
 |star a=>obtain⟨d,_,h1,h2,_⟩:=h;exact⟨d,h1,h2⟩
 |cat a b=>obtain⟨d,_,_,h1,h2,_⟩:=h;exact⟨d,h1,h2⟩
 |alt a b=>obtain⟨d,_,_,h1,h2,_⟩:=h;exact⟨d,h1,h2⟩
 |and a b=>obtain⟨d,_,_,h1,h2,_⟩:=h;exact⟨d,h1,h2⟩
 |minus a b=>obtain⟨d,_,_,h1,h2,_⟩:=h;exact⟨d,h1,h2⟩
abbrev reV (ao:Option Addr)(n c:Nat)(r:Int):Value:=.agg #[.slice ao n c,.int .i64 r]
abbrev AtT (l:List Nd)(ao:Option Addr)(c:Nat)(r:Int)(i:Nat)(t:Rx):Prop:=∀ (need:Int) (w:World),Gs w ao (Tr l)->Calls prog 157 #[reV ao l.length c r,.int .i64 (i:Nat),.int .i64 need] w λe w' => e=.returned (.string (Xn t need))/\an w [] w'
theorem yF{W w:World}{bs:List Nat}{ao:Option Addr}{vs:List Value}(h:jN W (Out bs) ao vs)(hk:an W bs w):Gs w ao vs:=(h.mono hk.eQ).is
section
variable (l:List Nd)(ao:Option Addr)(c:Nat)(r:Int)
section
variable (x y:Nat)(a b:Rx)(ha:AtT l ao c r x a)(hb:AtT l ao c r y b)
end
theorem jo(t:Rx)(need:Int):(Xn t need).size<=2400*bR t+2:=by
 have h1:=cM t;have h2:=fM (AB t) need (cX t);unfold Xn;omega
end
noncomputable def EN:Env prog:=⟨λ| 138=>some ixC.spec|_=>none,λ| _=>none,λ_ _=>none⟩
theorem ah8:EN.sp 138=some ixC.spec:=rfl
theorem H7:∀ n:Fin 256,let b:=((n.val:Nat):Int);let h:ByteArray:=⟨#[48,49,50,51,52,53,54,55,56,57,97,98,99,100,101,102]⟩;
  let x:=h.extract (b.fdiv 16).toNat (IntKind.u8.wrap (b.fdiv 16+1)).toNat;let y:=h.extract (cp .and .u8 b 15).toNat (IntKind.u8.wrap (cp .and .u8 b 15+1)).toNat;
  (0<=b.fdiv 16/\b.fdiv 16<=IntKind.u8.wrap (b.fdiv 16+1)/\IntKind.u8.wrap (b.fdiv 16+1)<=16)/\(0<=cp .and .u8 b 15/\cp .and .u8 b 15<=IntKind.u8.wrap (cp .and .u8 b 15+1)/\IntKind.u8.wrap (cp .and .u8 b 15+1)<=16) /\
  (x.size=1/\y.size=1)/\(⟨#[92,120]⟩:ByteArray)++x++y=⟨#[92,120,hxD (b / 16),hxD (b % 16)]⟩:=by decide +kernel
def cQ:=(ae @List.replicate_succ.{0} @List.replicate_zero.{0} @au @ab kQ kS Sz (ae SD SZ kU dc dd de df (ae dv dw dz dA mV mW mX (ae mY mZ eB eC eD eE eF (ae eG abF abG abH abI aiK aiL (ae aiM aiN aiO aiP aiQ aiR aiS (ae aiT @aV @aw @aD @aG @G2 @G1 ah8)))))))
theorem J9(b:Int)(q:ByteArray)(h0:0<=b)(h1:b<256)(w:World)(hg:bh w (Out [])):Calls prog 223 #[.int .u8 b,.string q] w λe w' => e=.returned (.string (uZ b (ue q b)))/\an w [] w' := by
 obtain⟨g0,g1,g2,g3,g4,g5,g6⟩:=hg;refine ak (nt:=54) [.tmp 4] func223 rfl rfl rfl ?_;refine vR EN cQ ?_;refine Wp.seq ?_;refine vR EN (EP cQ g1 g2 g3 g4 g5 g6) ?_;refine Wp.block ?_
 refine Wp.loop (λk:Nat=>⟨40,ee [(0,.is (.v (.int .u8 b))),(1,.is (.v (.string q))),(7,.is (.agg [.v (.int .u8 110),.v (.int .u8 10),.v (.int .u8 114),.v (.int .u8 13),.v (.int .u8 116),.v (.int .u8 9)])),(8,.is (.v (.int .i64 k)))],dP []⟩)
  (λk=>k<=3/\(0<k->b≠10)/\(1<k->b≠13)/\(2<k->b≠9)) (λk=>3-k) 0 ?_ ⟨oM,oM,oM,oM⟩ ?_
 ·exact wM (λk=>.key k) cQ
 rintro k ⟨k0,k1,k2,k3⟩;refine vR EN cQ ?_;refine Wp.seq ?_;refine wC cQ (λhc=>?_) (λhc=>?_)
 ·simp at hc;refine wK ?_;have hk3:k<3:=oM;have hcase:k=0\/k=1\/k=2:=oM;refine Wp.seq (Wp.block ?_);rcases hcase with rfl|rfl|rfl
  ·skip;refine vR EN cQ ?_;refine vR EN cQ ?_;refine wC cQ (λhc=>?_) (λhc=>?_)
   ·have hb:b=10:=by simp at hc;omega
    have he:uZ b (ue q b)=⟨#[92,110]⟩:=by rw[uZ,if_pos hb]
    rw[he];refine wR EN cQ ?_ ?_
    ·show 1+1<=9223372036854775807;omega
    refine wZ cQ ?_;exact λE=>rfl
   ·have hb:¬ b=10:=by simp at hc;omega
    refine wK ?_;refine vr EN cQ ?_;refine⟨1,⟨oM,λ_=>hb,oM,oM⟩,oM,?_⟩;exact wM (λk=>.key k) cQ
  ·skip;refine vR EN cQ ?_;refine vR EN cQ ?_;refine wC cQ (λhc=>?_) (λhc=>?_)
   ·have hb:b=13:=by simp at hc;omega
    have he:uZ b (ue q b)=⟨#[92,114]⟩:=by rw[uZ,if_neg (k1 oM),if_pos hb]
    rw[he];refine wR EN cQ ?_ ?_
    ·show 1+1<=9223372036854775807;omega
    refine wZ cQ ?_;exact λE=>rfl
   ·have hb:¬ b=13:=by simp at hc;omega
    refine wK ?_;refine vr EN cQ ?_;refine⟨2,⟨oM,λ_=>k1 oM,λ_=>hb,oM⟩,oM,?_⟩;exact wM (λk=>.key k) cQ
  ·skip;refine vR EN cQ ?_;refine vR EN cQ ?_;refine wC cQ (λhc=>?_) (λhc=>?_)
   ·have hb:b=9:=by simp at hc;omega
    have he:uZ b (ue q b)=⟨#[92,116]⟩:=by rw[uZ,if_neg (k1 oM),if_neg (k2 oM),if_pos hb]
    rw[he];refine wR EN cQ ?_ ?_
    ·show 1+1<=9223372036854775807;omega
    refine wZ cQ ?_;exact λE=>rfl
   ·have hb:¬ b=9:=by simp at hc;omega
    refine wK ?_;refine vr EN cQ ?_;refine⟨3,⟨oM,λ_=>k1 oM,λ_=>k2 oM,λ_=>hb⟩,oM,?_⟩;exact wM (λk=>.key k) cQ
 ·have hk:k=3:=by
   simp at hc;omega
  have n10:=k1 oM;have n13:=k2 oM;have n9:=k3 oM;refine wE ?_;refine Wp.seq (Wp.block ?_);refine vR EN cQ ?_;refine wC cQ (λhc=>?_) (λhc=>?_)
  ·have h:b<32\/126<b:=by simpa using hc
   have e:uZ b (ue q b)=⟨#[92,120,hxD (b / 16),hxD (b % 16)]⟩:=by rw[uZ,if_neg n10,if_neg n13,if_neg n9,if_pos h]
   rw[e];obtain⟨n,rfl⟩:=Int.eq_ofNat_of_zero_le h0;obtain⟨f1,f2,⟨f3,f4⟩,f5⟩:=H7 ⟨n,oM⟩;simp only at f1 f2 f3 f4 f5;refine kA EN cQ ?_ ?_
   ·refine⟨f1,?_,f2,?_⟩
    ·rw[f3];show 2+1<=9223372036854775807;omega
    ·rw[f4,ByteArray.size_append,f3];show 2+1+1<=9223372036854775807;omega
   refine wZ cQ ?_;exact λE=>congrArg Value.string f5
  have n32:¬ (b<32\/126<b):=by simpa using hc
  refine vR EN cQ ?_;refine wC cQ (λhc=>?_) (λhc=>?_)
  ·have hi:ue q b=true:=by rw[ue];simpa using hc
   have e:uZ b (ue q b)=⟨#[92,b.toNat.toUInt8]⟩:=by rw[uZ,if_neg n10,if_neg n13,if_neg n9,if_neg n32,if_pos hi]
   rw[e];refine wR EN cQ ?_ ?_
   ·show 1+1<=9223372036854775807;omega
   refine wZ cQ ?_;exact λE=>rfl
  ·have hi:¬ ue q b=true:=by rw[ue];simpa using hc
   have e:uZ b (ue q b)=⟨#[b.toNat.toUInt8]⟩:=by rw[uZ,if_neg n10,if_neg n13,if_neg n9,if_neg n32,if_neg hi]
   rw[e];refine wK ?_;refine vR EN cQ ?_;refine wZ cQ ?_;exact λE=>rfl
def vl:a7 prog 223 where
 pre:=λW bs=>λ| [.val (.int .u8 b),.val (.string q)]=>(0<=b/\b<256)/\bh W (Out bs)|_=>False
 res:=λW=>λ| [.val (.int .u8 b),.val (.string q)]=>.string (uZ b (ue q b))|_=>undef
 enters:=call223
 ok:=by
  intro W w bs us as_ hk hu hp;split at hp
  ·rename_i b q
   match us,hu with
   |[u0,u1],hu=>
    obtain⟨rfl,rfl,_⟩:=hu;exact J9 b q hp.1.1 hp.1.2 w (hp.2.fR hk sI)
  ·exact hp.elim
theorem GI(W:World)(b:Int)(q:ByteArray):vl.res W [.val (.int .u8 b),.val (.string q)]=.string (uZ b (ue q b)):=rfl
theorem GH(W:World)(bs:List Nat)(b:Int)(q:ByteArray):vl.pre W bs [.val (.int .u8 b),.val (.string q)]=((0<=b/\b<256)/\bh W (Out bs)):=rfl
noncomputable def u4:Env prog:=⟨λ| 221=>some sQ.spec|222=>some xR.spec|223=>some vl.spec|224=>some Et.spec|225=>some zr.spec|_=>none,λ| _=>none,λ_ _=>none⟩
theorem ah9:u4.sp 221=some sQ.spec:=rfl
theorem aia:u4.sp 222=some xR.spec:=rfl
theorem aib:u4.sp 223=some vl.spec:=rfl
theorem aic:u4.sp 224=some Et.spec:=rfl
theorem aid:u4.sp 225=some zr.spec:=rfl
attribute [local simp] aR
theorem J8(S:CS)(h1:vi S≠1):∃ (T:CS) (pre:ByteArray),qN S=fX T pre 256++Yg/\pre.size<=2/\(T,pre)=(if 128<vi S then (~~~S,K3) else (S,K1)):=by
 by_cases h:128<vi S
 ·exact⟨~~~S,K3,by rw[qN,if_neg h1,if_pos h],dE,by rw[if_pos h]⟩
 ·exact⟨S,K1,by rw[qN,if_neg h1,if_neg h],dE,by rw[if_neg h]⟩
def bQ:=(ae @List.replicate_succ.{0} @List.replicate_zero.{0} @au @ab kQ kS kU (ae dc dd de df dv dw dz (ae dA mV mW mX mY mZ eB (ae eC eD eE eF eG wL wO (ae wP wQ w6 w7 w8 w9 ML (ae MM @aV @aw @aD @aG @zq @zp (ae @NR @NQ @GI @GH @KU @KT @E6 (ae @E5 @iS @mM @mK @kp @qB @ajc (sK @akk ah9 aia aib aic aid)))))))))
theorem TQ(S:CS)(w:World)(hg:bh w (Out [])):Calls prog 182 #[cx S] w λe w' => e=.returned (.string (qN S))/\an w [] w' := by
 refine ak (nt:=67) [.tmp 2] func182 rfl rfl rfl ?_;refine vR u4 (aa bQ @dr) ?_;refine vR u4 (aa bQ @cO) ?_;refine Wp.seq ?_;refine vR u4 bQ ?_;refine wC bQ (λhc=>?_) (λhc=>?_)
 ·have h1:vi S=1:=by simp at hc;omega
  have hl:=R3 S 256 0;obtain⟨b0,hb0,hb1⟩:=Yi S h1;have hlt:BB S<256:=by
   have hx:∀ k j,j+k=256->j<=b0->Hh S k j<256:=by
    intro k
    induction k with
    |zero=>intro j h1 h2;omega
    | succ k ih=>
     intro j h1 h2;unfold Hh;split
     ·omega
     ·rename_i hn;refine ih (j+1) oM ?_;by_cases he:j=b0
      ·rw[he]at hn;exact absurd hb1 hn
      ·omega
   exact hx 256 0 rfl (Nat.zero_le _)
  have e:qN S=uZ (BB S) (ue spc (BB S)):=by rw[qN,if_pos h1]
  rw[e];refine wR u4 (aa bQ @cO) ?_ ?_
  ·exact⟨b0,hb0,hb1⟩
  refine wR u4 bQ ?_ ?_
  ·exact⟨⟨oM,oM⟩,hg⟩
  refine wZ bQ ?_;exact λE=>rfl
 have h1:vi S≠1:=by simp at hc;omega
 obtain⟨T,pre,he,hpre,hp⟩:=J8 S h1;rw[he];refine wK ?_;refine vR u4 bQ ?_;refine hH ⟨60,ee [(1,.is (.own 0 0)),(6,.is (.v (.string pre)))],dP [(0,.cells 309 ((mO T).map .v))]⟩ ?_ ?_
 ·skip;refine vR u4 bQ ?_;refine wC bQ (λhc=>?_) (λhc=>?_)
  ·have h:128<vi S:=by simp at hc;omega
   rw[if_pos h,Prod.mk.injEq]at hp;obtain⟨rfl,rfl⟩:=hp;refine vR u4 bQ ?_;refine vr u4 (bw bQ @cO @dr) ?_;exact wM (λk=>.key k) bQ
  ·have h:¬ 128<vi S:=by simp at hc;omega
   rw[if_neg h,Prod.mk.injEq]at hp;obtain⟨rfl,rfl⟩:=hp;refine wK ?_;exact wM (λk=>.key k) bQ
 clear hp;refine Wp.seq ?_;refine vR u4 bQ ?_;refine Wp.block ?_
 refine Wp.loop (λb:Nat=>⟨70,ee [(1,.is (.own 0 0)),(6,.is (.v (.string (fX T pre b)))),(7,.is (.v (.int .i64 (b:Nat))))],dP [(0,.cells 309 ((mO T).map .v))]⟩) (λb=>b<=256/\(b=0\/T.getLsbD (b-1)=false\/T.getLsbD b=false)) (λb=>256-b) 0 ?_ ⟨Nat.zero_le _,.inl rfl⟩ ?_
 ·exact wM (λk=>.key k) bQ
 rintro b ⟨hb,hinv⟩;refine Wp.seq ?_;refine vR u4 bQ ?_;refine wC bQ (λhc=>?_) (λhc=>?_)
 ·have hlt:b<256:=by
   simp at hc;omega
  have wj:IntKind.i64.wrap ((b:Int)+1)=((b+1:Nat):Int):=wW;have wu:IntKind.u8.wrap (b:Int)=(b:Int):=uU oM oM;have hsz:=pI T pre b;refine wK ?_;refine Wp.seq (Wp.block ?_);refine Wp.seq ?_;refine wR u4 (bw bQ wu @cO) ?_ ?_
  ·omega
  refine wC bQ (λhc=>?_) (λhc=>?_)
  ·have hTb:T.getLsbD b=false:=by simpa using hc
   have hs:stB T b=false:=by rw[stB,hTb];rfl
   have e:fX T pre (b+1)=fX T pre b:=by rw[fX,if_neg (by rw[hs];simp)]
   refine wE ?_;refine vr u4 (aa bQ wj) ?_;refine⟨b+1,⟨oM,.inr (.inl hTb)⟩,oM,?_⟩;rw[e];exact wM (λk=>.key k) bQ
  have hTb:T.getLsbD b=true:=by simpa using hc
  have hs:stB T b=true:=by
   rw[stB,hTb,Bool.true_and];rcases hinv with h|h|h
   ·subst h;rfl
   ·rw[h];simp
   ·rw[hTb]at h;cases h
  have hbd:=afb T b hlt;have e:fX T pre (b+1)=Te (fX T pre b) b (oT T b):=by rw[fX,if_pos hs]
  have e2:fX T pre (oT T b+1)=fX T pre (b+1):=Pq T pre b hlt hTb _ oM (Nat.le_refl _);have hout:T.getLsbD (oT T b+1)=false:=by
   by_cases h:oT T b<255
   ·exact aar T b hlt h
   ·exact BitVec.getLsbD_of_ge _ _ oM
  obtain⟨m,hm⟩:∃ m,oT T b=m:=⟨_,rfl⟩;generalize hO:fX T pre b=O at *;rw[hm]at hbd e e2 hout;rw[e]at e2;refine wK ?_;refine vR u4 bQ ?_
  refine hH ⟨120,ee [(1,.is (.own 0 0)),(6,.is (.v (.string O))),(7,.is (.v (.int .i64 (b:Nat)))),(8,.is (.v (.int .i64 (m:Nat))))],dP [(0,.cells 309 ((mO T).map .v))]⟩ ?_ ?_
  ·skip;refine Wp.block ?_;refine Wp.loop (λk:Nat=>⟨100,ee [(1,.is (.own 0 0)),(6,.is (.v (.string O))),(7,.is (.v (.int .i64 (b:Nat)))),(8,.is (.v (.int .i64 (k:Nat))))],dP [(0,.cells 309 ((mO T).map .v))]⟩) (λk=>(b<=k/\k<256)/\oT T b=oT T k) (λk=>256-k) b ?_ ⟨⟨Nat.le_refl _,hlt⟩,rfl⟩ ?_
   ·exact wM (λk=>.key k) bQ
   rintro k ⟨⟨hk1,hk⟩,hke⟩;have wk:IntKind.i64.wrap ((k:Int)+1)=((k+1:Nat):Int):=wW;have fin:(k<255->T.getLsbD (k+1)=false)->k=m:=λh=>by
    have:=VM T k h;omega
   by_cases hbk:k<255
   ·have hd:decide ((k:Int)<255)=true:=by simp;omega
    have wu:IntKind.u8.wrap ((k+1:Nat):Int)=((k+1:Nat):Int):=uU oM oM;refine Wp.seq ?_;refine wR u4 (qE bQ wk hd wu @cO) ?_ ?_
    ·omega
    refine wC bQ (λhc=>?_) (λhc=>?_)
    ·refine wK ?_;refine Wp.block ?_;refine vr u4 (aa bQ wk) ?_;refine⟨k+1,⟨⟨oM,oM⟩,by rw[hke];exact VL T k hbk hc⟩,oM,?_⟩;exact wM (λk=>.key k) bQ
    ·refine wE ?_;have hf:=fin λ_=>hc
     subst hf;exact wM (λk=>.key k) bQ
   ·have hd:decide ((k:Int)<255)=false:=by simp;omega
    refine Wp.seq ?_;refine wR u4 (fJ bQ wk hd @cO) ?_ ?_
    ·simp
    refine wC bQ (λhc=>?_) (λhc=>?_)
    ·exact absurd hc sI
    ·refine wE ?_;have hf:=fin λh=>absurd h hbk
     subst hf;exact wM (λk=>.key k) bQ
  have wm:IntKind.u8.wrap ((m:Nat):Int)=((m:Nat):Int):=uU oM oM;have wm1:IntKind.i64.wrap ((m:Int)+1)=((m+1:Nat):Int):=wW;have hb1:=sE b (ue zi b);have hb2:=sE ((m:Nat):Int) (ue zi ((m:Nat):Int));rw[adt]at e2;refine wR u4 (aa bQ wu) ?_ ?_
  ·exact⟨⟨⟨oM,oM⟩,hg⟩,oM⟩
  have hO1:(O++uZ b (ue zi b)).size<=2400:=by rw[ByteArray.size_append];omega
  generalize O++uZ b (ue zi b)=O1 at *;refine hH ⟨150,ee [(1,.is (.own 0 0)),(6,.is (.v (.string (if b+1<m then O1++vm else O1)))),(7,.is (.v (.int .i64 (b:Nat)))),(8,.is (.v (.int .i64 (m:Nat))))],dP [(0,.cells 309 ((mO T).map .v))]⟩ ?_ ?_
  ·skip;refine vR u4 (aa bQ wj) ?_;refine wC bQ (λhc=>?_) (λhc=>?_)
   ·have h:b+1<m:=by simp at hc;omega
    rw[if_pos h];refine wr u4 bQ ?_ ?_
    ·show O1.size+1<=_;omega
    exact wM (λk=>.key k) bQ
   ·have h:¬ b+1<m:=by simp at hc;omega
    rw[if_neg h];refine wK ?_;exact wM (λk=>.key k) bQ
  have hO2:(if b+1<m then O1++vm else O1).size<=2401:=by
   split
   ·rw[ByteArray.size_append];show O1.size+1<=2401;omega
   ·omega
  generalize (if b+1<m then O1++vm else O1)=O2 at *;refine hH ⟨170,ee [(1,.is (.own 0 0)),(6,.is (.v (.string (fX T pre (m+1))))),(8,.is (.v (.int .i64 (m:Nat))))],dP [(0,.cells 309 ((mO T).map .v))]⟩ ?_ ?_
  ·skip;refine vR u4 bQ ?_;refine wC bQ (λhc=>?_) (λhc=>?_)
   ·have h:b<m:=by simp at hc;omega
    rw[if_pos h]at e2;rw[e2];refine wr u4 (aa bQ wm) ?_ ?_
    ·exact⟨⟨⟨oM,oM⟩,hg⟩,oM⟩
    exact wM (λk=>.key k) bQ
   ·have h:¬ b<m:=by simp at hc;omega
    rw[if_neg h]at e2;rw[e2];refine wK ?_;exact wM (λk=>.key k) bQ
  refine vr u4 bQ ?_;refine vr u4 (aa bQ wm1) ?_;refine⟨m+1,⟨oM,.inr (.inr hout)⟩,oM,?_⟩;exact wM (λk=>.key k) bQ
 ·have hb' : b=256:=by
   simp at hc;omega
  subst hb';have hsz:=pI T pre 256;refine wE ?_;refine wR u4 bQ ?_ ?_
  ·show (fX T pre 256).size+1<=_;omega
  refine wZ bQ ?_;exact λE=>rfl
noncomputable def xS:a7 prog 182 where
 pre:=λW bs=>λ| [.val y0]=>(match dec cx y0 with|some S=>bh W (Out bs)|_=>False)|_=>False
 res:=λW=>λ| [.val y0]=>(match dec cx y0 with|some S=>.string (qN S)|_=>undef)|_=>undef
 enters:=call182
 ok:=by
  intro W w bs us as_ hk hu hp;split at hp
  ·rename_i y0;split at hp
   ·rename_i S h0
    match us,hu with
    |[u0],hu=>
     obtain⟨rfl,_⟩:=hu;obtain rfl:=gi h0
     try dsimp only
     try simp only[bW cF]
     exact TQ S w (hp.fR hk sI)
   ·exact hp.elim
  ·exact hp.elim
theorem N2(W:World)(S:CS):xS.res W [.val (cx S)]=.string (qN S):=by simp only[xS,bW cF]
theorem N1(W:World)(bs:List Nat)(S:CS):xS.pre W bs [.val (cx S)]=(bh W (Out bs)):=by simp only[xS,bW cF]
def TV(s:ByteArray):Except (Int×Int) RT:=rM (bt s) s.size (nI s)
theorem X5{c:Int->Int}{N i:Int}{e:Int×Int}(h:xu c N i=.error e):e.1≠0:=by
 have hn:∀ i e,oP c N i=.error e->e.1≠0:=λi e h=>by
  unfold oP at h;split at h
  ·cases h;show (20:Int)≠0;omega
  ·cases h
 have hu:∀ m i e,Q0 c N m i=.error e->e.1≠0:=λm i e h=>by
  unfold Q0 at h;split at h
  ·split at h
   ·exact hn _ _ h
   ·cases h
  ·cases h
 unfold xu at h;cases h1:oP c N (i+1) with
 |error e1=>rw[h1]at h;cases h;exact hn _ _ h1
 | ok p=>
  rw[h1]at h;simp only at h;cases h2:Q0 c N p.1 p.2 with
  |error e2=>rw[h2]at h;cases h;exact hu _ _ _ h2
  | ok q=>
   rw[h2]at h;simp only at h;unfold zh at h;split at h
   ·cases h;show (20:Int)≠0;omega
   ·split at h
    ·cases h;show (22:Int)≠0;omega
    ·cases h
theorem ajV{c:Int->Int}{N i:Int}(h:c i≠123):mnA c N i=.ok (if c i=43 then -2 else 0,if c i=63 then 1 else -1,i+1):=by
 unfold mnA;by_cases h1:c i=43
 ·rw[if_pos h1,if_pos h1,if_neg oM]
 ·rw[if_neg h1,if_neg h1];by_cases h2:c i=63
  ·rw[if_pos h2,if_pos h2]
  ·rw[if_neg h2,if_neg h2,if_neg h]
theorem ajU{c:Int->Int}{N i:Int}(h:c i=123):mnA c N i=xu c N i:=by
 unfold mnA;rw[if_neg oM,if_neg oM,if_pos h]
section
variable (ar:List Nd)(ts:List RT)(ao:Option Addr)(c n:Nat)
end
abbrev AN (n:Nat):Prop:=∀ (t:Rx) (need:Int) (w:World),dp t<n->bR t<=4000000->bh w (Out [])->Calls prog 129 #[ax t,.int .i64 need] w λe w' => e=.returned (.string (Xn t need))/\an w [] w'
noncomputable def L0(n:Nat)(h:AN n):a7 prog 129 where
 pre:=λW bs as_=>∃ (t:Rx) (need:Int),as_=[.val (ax t),.val (.int .i64 need)]/\dp t<n/\bR t<=4000000/\bh W (Out bs)
 res:=λ_ as_=>match as_ with
  |[.val v,.val (.int _ need)]=>(match dec ax v with
   |some t=>.string (Xn t need)
   |_=>undef)
  |_=>undef
 enters:=call129
 ok:=by
  intro W w bs us as_ hk hu hp;obtain⟨t,need,rfl,h1,h2,h3⟩:=hp
  match us,hu with
  |[x,y],hu=>
   obtain⟨rfl,rfl,_⟩:=hu;simp only[bW ba];exact h t need w h1 h2 (h3.fR hk sI)
section
variable (n:Nat)(h:AN n)
theorem Wk(W:World)(bs:List Nat)(t:Rx)(need:Int):(L0 n h).pre W bs [.val (ax t),.val (.int .i64 need)]=(dp t<n/\bR t<=4000000/\bh W (Out bs)):=by
 apply propext;constructor
 ·rintro⟨t',need',h1,h2⟩;simp only[List.cons.injEq,AV.val.injEq,Value.int.injEq,true_and,and_true]at h1;obtain⟨h1,rfl⟩:=h1;obtain rfl:=ba _ _ h1;exact h2
 ·exact λh=>⟨t,need,rfl,h⟩
theorem Wl(W:World)(t:Rx)(need:Int):(L0 n h).res W [.val (ax t),.val (.int .i64 need)]=.string (Xn t need):=by
 simp only[L0,bW ba]
noncomputable def kV:Env prog:=⟨λ| 129=>some (L0 n h).spec|182=>some xS.spec|_=>none,λ_=>none,λ_ _=>none⟩
theorem aie:(kV n h).sp 129=some (L0 n h).spec:=rfl
theorem aif:(kV n h).sp 182=some xS.spec:=rfl
end
def bp:=(ae @List.replicate_succ.{0} @List.replicate_zero.{0} @au @ab kQ kS kU (ae dc dd de df dv dw dz (ae dA eB eC eD eE eF eG (ae iA iB iC iD wL wO wP (ae wQ Mi Mj Mk Ml Mm Mn (ae Mp Mq DC DD DE DF DG (ae DH DI DJ DK DL DM DN (ae DO DP DQ DR F5 F6 F7 (ae F8 F9 Ga Gb Gc Gd Mr (ae Mt Mu Mv Mw Mx My Mz (ae MA MB MC MD ME MF MG (ae MH MJ MK w6 w7 w8 w9 (ae SE SF SG SH SI SJ SK (ae SL @aV @aw @aD @aG @N2 @N1 (ae @iS @mM @mK @kp @qB @b6 @aL (sK @dr @cO @aie @aif @Wk @Wl))))))))))))))))
theorem Wm(n:Nat)(h:AN n):AN (n+1):=by
 intro t need w hdp hsz hg;have hbs:=cM t;refine ak (nt:=82) [.tmp 4] func129 rfl rfl rfl ?_;refine vR (kV n h) bp ?_;refine vR (kV n h) bp ?_;refine hH ⟨200,ee [(1,.is (.v (.int .i64 need))),(5,.is (.v (.string (cX t)))),(6,.is (.v (.int .i64 (AB t))))],dP []⟩ ?_ ?_
 ·skip;refine vR (kV n h) bp ?_;refine Wp.block ?_;cases t with
  |eps=>
   have hv:ax (.eps)=_:=rfl;unfold ax;refine vR (kV n h) bp ?_;refine wC bp (λhc=>?_) (λhc=>?_)
   rotate_left
   ·exact absurd hc sI
   refine wR (kV n h) bp ?_ ?_
   ·first|trivial|simp
   refine vr (kV n h) bp ?_;exact wM (λk=>.key k) bp
  |cls S=>
   have hv:ax (.cls S)=_:=rfl;unfold ax;refine vR (kV n h) bp ?_;refine wC bp (λhc=>?_) (λhc=>?_)
   ·exact absurd hc sI
   refine vR (kV n h) bp ?_;refine wC bp (λhc=>?_) (λhc=>?_)
   rotate_left
   ·exact absurd hc sI
   refine wR (kV n h) bp ?_ ?_
   ·first|trivial|simp
   refine wr (kV n h) bp ?_ ?_
   ·exact hg
   exact wM (λk=>.key k) bp
  |alt a b=>
   have hd:dp a+dp b+1<n+1:=hdp;have hz:bR a+bR b+1<=4000000:=hsz;have s1:=jo a 0;have s2:=jo b 1;have hv:ax (.alt a b)=_:=rfl;unfold ax;refine vR (kV n h) bp ?_;refine wC bp (λhc=>?_) (λhc=>?_)
   ·exact absurd hc sI
   refine vR (kV n h) bp ?_;refine wC bp (λhc=>?_) (λhc=>?_)
   ·exact absurd hc sI
   refine vR (kV n h) bp ?_;refine wC bp (λhc=>?_) (λhc=>?_)
   rotate_left
   ·exact absurd hc sI
   refine wR (kV n h) bp ?_ ?_
   ·rw[Bool.and_eq_true];exact⟨aL a,aL b⟩
   refine Jt (kV n h) bp ?_ ?_
   ·exact⟨⟨oM,oM,hg⟩,by show _+1<=_;omega,⟨oM,oM,hg⟩,by rw[ByteArray.size_append];show _+1+_<=_;omega⟩
   exact wM (λk=>.key k) bp
  |and a b=>
   have hd:dp a+dp b+1<n+1:=hdp;have hz:bR a+bR b+1<=4000000:=hsz;have s1:=jo a 1;have s2:=jo b 2;have hv:ax (.and a b)=_:=rfl;unfold ax;refine vR (kV n h) bp ?_;refine wC bp (λhc=>?_) (λhc=>?_)
   ·exact absurd hc sI
   refine vR (kV n h) bp ?_;refine wC bp (λhc=>?_) (λhc=>?_)
   ·exact absurd hc sI
   refine vR (kV n h) bp ?_;refine wC bp (λhc=>?_) (λhc=>?_)
   ·exact absurd hc sI
   refine vR (kV n h) bp ?_;refine wC bp (λhc=>?_) (λhc=>?_)
   rotate_left
   ·exact absurd hc sI
   refine wR (kV n h) bp ?_ ?_
   ·rw[Bool.and_eq_true];exact⟨aL a,aL b⟩
   refine Jt (kV n h) bp ?_ ?_
   ·exact⟨⟨oM,oM,hg⟩,by show _+1<=_;omega,⟨oM,oM,hg⟩,by rw[ByteArray.size_append];show _+1+_<=_;omega⟩
   exact wM (λk=>.key k) bp
  |minus a b=>
   have hd:dp a+dp b+1<n+1:=hdp;have hz:bR a+bR b+1<=4000000:=hsz;have s1:=jo a 1;have s2:=jo b 2;have hv:ax (.minus a b)=_:=rfl;unfold ax;refine vR (kV n h) bp ?_;refine wC bp (λhc=>?_) (λhc=>?_)
   ·exact absurd hc sI
   refine vR (kV n h) bp ?_;refine wC bp (λhc=>?_) (λhc=>?_)
   ·exact absurd hc sI
   refine vR (kV n h) bp ?_;refine wC bp (λhc=>?_) (λhc=>?_)
   ·exact absurd hc sI
   refine vR (kV n h) bp ?_;refine wC bp (λhc=>?_) (λhc=>?_)
   ·exact absurd hc sI
   refine vR (kV n h) bp ?_;refine wC bp (λhc=>?_) (λhc=>?_)
   rotate_left
   ·exact absurd hc sI
   refine wR (kV n h) bp ?_ ?_
   ·rw[Bool.and_eq_true];exact⟨aL a,aL b⟩
   refine Jt (kV n h) bp ?_ ?_
   ·exact⟨⟨oM,oM,hg⟩,by show _+1<=_;omega,⟨oM,oM,hg⟩,by rw[ByteArray.size_append];show _+1+_<=_;omega⟩
   exact wM (λk=>.key k) bp
  |cat a b=>
   have hd:dp a+dp b+1<n+1:=hdp;have hz:bR a+bR b+1<=4000000:=hsz;have s1:=jo a 2;have s2:=jo b 3;have hv:ax (.cat a b)=_:=rfl;unfold ax;refine vR (kV n h) bp ?_;refine wC bp (λhc=>?_) (λhc=>?_)
   ·exact absurd hc sI
   refine vR (kV n h) bp ?_;refine wC bp (λhc=>?_) (λhc=>?_)
   ·exact absurd hc sI
   refine vR (kV n h) bp ?_;refine wC bp (λhc=>?_) (λhc=>?_)
   ·exact absurd hc sI
   refine vR (kV n h) bp ?_;refine wC bp (λhc=>?_) (λhc=>?_)
   ·exact absurd hc sI
   refine vR (kV n h) bp ?_;refine wC bp (λhc=>?_) (λhc=>?_)
   ·exact absurd hc sI
   refine vR (kV n h) bp ?_;refine wC bp (λhc=>?_) (λhc=>?_)
   rotate_left
   ·exact absurd hc sI
   refine wR (kV n h) bp ?_ ?_
   ·rw[Bool.and_eq_true];exact⟨aL a,aL b⟩
   refine Jt (kV n h) bp ?_ ?_
   ·exact⟨⟨oM,oM,hg⟩,⟨oM,oM,hg⟩,oM⟩
   exact wM (λk=>.key k) bp
  |star a=>
   have hd:dp a+1<n+1:=hdp;have hz:bR a+1<=4000000:=hsz;have s1:=jo a 3;have hv:ax (.star a)=_:=rfl;unfold ax;refine vR (kV n h) bp ?_;refine wC bp (λhc=>?_) (λhc=>?_)
   ·exact absurd hc sI
   refine vR (kV n h) bp ?_;refine wC bp (λhc=>?_) (λhc=>?_)
   ·exact absurd hc sI
   refine vR (kV n h) bp ?_;refine wC bp (λhc=>?_) (λhc=>?_)
   ·exact absurd hc sI
   refine vR (kV n h) bp ?_;refine wC bp (λhc=>?_) (λhc=>?_)
   ·exact absurd hc sI
   refine vR (kV n h) bp ?_;refine wC bp (λhc=>?_) (λhc=>?_)
   ·exact absurd hc sI
   refine vR (kV n h) bp ?_;refine wC bp (λhc=>?_) (λhc=>?_)
   ·exact absurd hc sI
   refine vR (kV n h) bp ?_;refine wC bp (λhc=>?_) (λhc=>?_)
   rotate_left
   ·exact absurd hc sI
   refine wR (kV n h) bp ?_ ?_
   ·exact aL a
   refine wr (kV n h) bp ?_ ?_
   ·exact⟨⟨oM,oM,hg⟩,by show _+1<=_;omega⟩
   exact wM (λk=>.key k) bp
 refine Wp.seq ?_;refine vR (kV n h) bp ?_;refine wC bp (λhc=>?_) (λhc=>?_)
 ·have hlt:AB t<need:=by simpa using hc
  have e:Xn t need=lpB++cX t++rpB:=by rw[Xn,uo,if_pos hlt]
  rw[e];refine wR (kV n h) bp ?_ ?_
  ·refine⟨?_,?_⟩
   ·show 1+_<=_;omega
   ·rw[ByteArray.size_append];show 1+_+1<=_;omega
  refine wZ bp ?_;exact λE=>rfl
 ·have hlt:¬ AB t<need:=by simpa using hc
  have e:Xn t need=cX t:=by rw[Xn,uo,if_neg hlt]
  rw[e];refine wK ?_;refine vR (kV n h) bp ?_;refine wZ bp ?_;exact λE=>rfl
theorem CA:∀ n,AN n
 |0=>λt _ _ h=>absurd h (Nat.not_lt_zero _)
 |n+1=>Wm n (CA n)
theorem XU(t:Rx):Xn t 0=cX t:=by
 rw[Xn,uo,if_neg];cases t<;>simp[AB]
theorem O3(t:Rx)(w:World)(hsz:bR t<=4000000)(hg:bh w (Out [])):Calls prog 72 #[ax t] w λe w' => e=.returned (.string (cX t))/\an w [] w' := by
 refine ak (nt:=5) [.tmp 2] func72 rfl rfl rfl ?_;refine vR (kV (dp t+1) (CA _)) bp ?_;refine wR (kV (dp t+1) (CA _)) (aa bp @XU) ?_ ?_
 ·exact⟨oM,hsz,hg⟩
 refine wZ bp ?_;exact λE=>rfl
noncomputable def tg:a7 prog 72 where
 pre:=λW bs=>λ| [.val y0]=>(match dec ax y0 with|some t=>bR t<=4000000/\bh W (Out bs)|_=>False)|_=>False
 res:=λW=>λ| [.val y0]=>(match dec ax y0 with|some t=>.string (cX t)|_=>undef)|_=>undef
 enters:=call72
 ok:=by
  intro W w bs us as_ hk hu hp;split at hp
  ·rename_i y0;split at hp
   ·rename_i t h0
    match us,hu with
    |[u0],hu=>
     obtain⟨rfl,_⟩:=hu;obtain rfl:=gi h0
     try dsimp only
     try simp only[bW ba]
     exact O3 t w hp.1 (hp.2.fR hk sI)
   ·exact hp.elim
  ·exact hp.elim
theorem Lk(W:World)(t:Rx):tg.res W [.val (ax t)]=.string (cX t):=by simp only[tg,bW ba]
theorem Lj(W:World)(bs:List Nat)(t:Rx):tg.pre W bs [.val (ax t)]=(bR t<=4000000/\bh W (Out bs)):=by simp only[tg,bW ba]
theorem N3{s:ByteArray}{t:RT}(h:TV s=.ok t):bR t.expand<=2000:=by
 have hd:rM (bt s) s.size (nI s)=.ok t:=h;have h1:=Fz (c:=bt s) (N:=s.size) (rd:=nI s) oM;have hz:t.sz<=2000:=by
  unfold rM at hd;split at hd
  ·cases hd
  ·unfold rn at hd;split at hd
   ·cases hd
   ·split at hd
    ·cases hd
    ·split at hd
     ·cases hd
     ·simp only[Except.ok.injEq]at hd;rename_i hn;rw[<- hd];omega
 rw[hd]at h1;cases h2:yj (bt s) s.size (nI s) with
 |error e=>rw[h2]at h1;exact h1.elim
 |ok q=>
  rw[h2]at h1;obtain⟨ts,a1,a2,a3⟩:=h1;exact a1.small (List.mem_of_getElem? a3) hz
theorem yo(s:ByteArray):rQ s=ajN (TV s):=Vs (zL s) oM
def tyE(s:ByteArray):Bool:=match TV s with
 |.ok t=>decide (cX t.expand=s)
 |.error _=>false
theorem Fq{e:Except (Int×Int) RT}{c p:Int}(h:e=.error (c,p)):ajN e=.error (c,p):=by subst h;rfl
def akL(n m:Int):Bool:=decide (0<=n)&&decide (n<m)
def als(n1 n2 n3:Nat)(u n:Int):Bool:=if u=1 then akL n n3 else if u=2 then akL n n1 else if u=3 then akL n n2 else decide (n=0)
section
variable (W:World)(bs:List Nat)(a1 a2 a3:Option Addr)(n1 n2 n3 c1 c2 c3:Nat)(s v u n:Int)
end
def anb:List (ByteArray×Bool×Int×Int):=[(⟨#[104,97,108,116]⟩,false,0,0),(⟨#[99,97,108,108]⟩,false,1,0),(⟨#[114,101,116]⟩,false,0,0),(⟨#[106,117,109,112]⟩,false,1,0),(⟨#[101,109,105,116]⟩,true,0,0),(⟨#[100,114,111,112]⟩,true,0,0),(⟨#[116,101,120,116]⟩,false,3,0),(⟨#[112,117,115,104]⟩,true,3,0),(⟨#[100,117,112]⟩,true,0,0),(⟨#[102,108,105,112]⟩,true,0,0),(⟨#[109,111,118,101]⟩,true,0,0),(⟨#[111,112,101,110]⟩,false,0,0),(⟨#[116,97,107,101]⟩,true,0,0),(⟨#[108,111,119,101,114]⟩,true,0,0),(⟨#[99,117,116]⟩,true,2,2),(⟨#[105,110]⟩,true,2,1),(⟨#[99,104,117,110,107]⟩,true,2,0),(⟨#[109,111,114,101]⟩,false,1,0),(⟨#[122,105,112]⟩,false,0,0),(⟨#[97,108,105,103,110]⟩,false,1,1),(⟨#[112,108,97,110]⟩,false,1,1)]
def shp(n:Nat):ByteArray×Bool×Int×Int:=anb.getD n (⟨#[]⟩,false,0,0)
def AO(W:World)(S:Nat->Prop):Prop:=S 0/\∀ n<21,W.cell? ⟨0,n*4,none⟩=some (.string (shp n).1)/\W.cell? ⟨0,n*4+1,none⟩=some (.bool (shp n).2.1)/\W.cell? ⟨0,n*4+2,none⟩=some (.int .i64 (shp n).2.2.1)/\W.cell? ⟨0,n*4+3,none⟩=some (.int .i64 (shp n).2.2.2)
theorem AO.mono{W W' : World}{S S' : Nat->Prop}(h:AO W S)(hs:aY W S W' S'):AO W' S' := by
 obtain⟨h0,h1⟩:=h;have g:∀ o v,W.cell? ⟨0,o,none⟩=some v->W'.cell? ⟨0,o,none⟩=some v/\S' 0:=λo v hv=>by
  have:=XC.mono (b:=0) (o:=o) (v:=v) ⟨h0,hv⟩ hs;exact⟨this.2,this.1⟩
 refine⟨(g _ _ (h1 0 oM).1).2,λn hn=>?_⟩;obtain⟨a,b,c,d⟩:=h1 n hn;exact⟨(g _ _ a).1,(g _ _ b).1,(g _ _ c).1,(g _ _ d).1⟩
theorem AO.fR{W w:World}{bs fp:List Nat}(h:AO W (Out bs))(hk:an W bs w)(hm:∀ b∈fp,W.heap.size<=b\/b∈bs):AO w (Out fp):=
 h.mono λb hb hs=>⟨hk.block b hb hs,λhb' => (hm b hb').elim (λg=>absurd g (Nat.not_le.2 hb)) hs⟩
def ane(n1 n2 n3:Nat)(op k a b:Int):Bool:=
 decide (0<=op/\op<21)&&(decide (k=0)||((shp op.toNat).2.1&&decide (k=1)))&&(als n1 n2 n3 (shp op.toNat).2.2.1 a&&als n1 n2 n3 (shp op.toNat).2.2.2 b)
section
variable (W:World)(bs:List Nat)(a1 a2 a3:Option Addr)(n1 n2 n3 c1 c2 c3:Nat)(s v op k a b:Int)
end
section
variable (n1 n2 n3:Nat)
end
section
variable (W:World)(bs:List Nat)(a1 a2 a3:Option Addr)(n1 n2 n3 c1 c2 c3:Nat)(s v op k a b:Int)
end
section
variable {c:Int->Int}{N:Int}{rd:Int->Except (Int×Int) (BitVec 256×Int)}(hrd:∀ i e,rd i=.error e->e.1≠0)
include hrd
theorem Qi{i:Int}{ar:List Nd}{f:Fm}{rest:List Fm}{e:Int×Int}(h:CH c N rd i ar f rest=.error e):e.1≠0:=by
 unfold CH at h;split at h
 ·split at h
  ·cases h;show (20:Int)≠0;omega
  ·unfold aak at h;split at h
   ·rename_i e1 hm;cases h;by_cases h1:c i=123
    ·rw[ajU h1]at hm;exact X5 hm
    ·rw[ajV h1]at hm;cases hm
   ·cases h
 ·split at h
  ·cases h
  ·split at h
   ·cases h
   ·split at h
    ·unfold alV at h;split at h
     ·cases h;show (20:Int)≠0;omega
     ·cases h
    ·split at h
     ·split at h
      ·cases h;show (23:Int)≠0;omega
      ·cases h
     ·unfold Zg at h;split at h
      ·rename_i e1 hm;cases h;exact hrd _ _ hm
      ·cases h
theorem FJ:∀ (n:Nat) (i:Int) (ar:List Nd) (f:Fm) (rest:List Fm) (e:Int×Int),LB c N rd n i ar f rest=.error e->e.1≠0
 |0,i,ar,f,rest,e,h=>by cases h
 | n+1,i,ar,f,rest,e,h=>by
  rw[LB]at h;split at h
  ·split at h
   ·rename_i e1 hs;cases h;exact Qi hrd hs
   ·exact FJ n _ _ _ _ e h
  ·cases h
theorem K9{e:Int×Int}(h:yj c N rd=.error e):e.1≠0:=by
 unfold yj at h;split at h
 ·cases h;show (1:Int)≠0;omega
 ·unfold ajj at h;split at h
  ·rename_i e1 hr;cases h;exact FJ hrd _ _ _ _ _ _ hr
  ·split at h
   ·cases h;show (21:Int)≠0;omega
   ·split at h
    ·cases h;show (24:Int)≠0;omega
    ·cases h
end
theorem TW{s:ByteArray}{c p:Int}(h:TV s=.error (c,p)):c≠0:=by
 have hd:rM (bt s) s.size (nI s)=.error (c,p):=h;have h1:=Fz (c:=bt s) (N:=s.size) (rd:=nI s) oM;rw[hd]at h1;cases h2:yj (bt s) s.size (nI s) with
 | error e=>
  rw[h2]at h1;have he:(c,p)=e:=h1;have:=K9 (rd:=nI s) (λi e hi=>by
   unfold nI at hi
   split at hi
   ·cases hi;show (10:Int)≠0;omega
   ·cases hi) h2
  rw[<- he]at this;exact this
 |ok q=>rw[h2]at h1;exact h1.elim
structure Pg where
 ty:List ByteArray
 tx:List ByteArray
 co:List (Int×Int×Int×Int)
 src:Int
 vw:Int
def afN(l:List ByteArray):List Value:=l.map .string
def inL(x:Int×Int×Int×Int):List Value:=[.int .i64 x.1,.int .i64 x.2.1,.int .i64 x.2.2.1,.int .i64 x.2.2.2]
def alB(l:List (Int×Int×Int×Int)):List Value:=l.flatMap inL
def rr(P:Nat->Bool):Nat->Nat->Option Nat
 |0,_=>none
 |k+1,j=>bif P j then some j else rr P k (j+1)
theorem Uf(P:Nat->Bool)(n j:Nat)(hj:j<n)(h:∀ i<j,P i=false)(hp:P j=true):rr P n 0=some j:=by
 have key:∀ k i,i+k=n->i<=j->rr P k i=some j:=by
  intro k
  induction k with
  |zero=>intro i h1 h2;omega
  | succ k ih=>
   intro i h1 h2;unfold rr;by_cases e:i=j
   ·subst e;rw[hp];rfl
   ·rw[h i oM];exact ih (i+1) oM oM
 exact key n 0 oM (Nat.zero_le _)
theorem Ki(P:Nat->Bool)(n:Nat)(h:∀ i<n,P i=false):rr P n 0=none:=by
 have key:∀ k i,i+k=n->rr P k i=none:=by
  intro k
  induction k with
  |zero=>intro i h1;rfl
  |succ k ih=>
   intro i h1;unfold rr;rw[h i oM];exact ih (i+1) oM
 exact key n 0 oM
section
variable (p:Pg)
structure PgB:Prop where
 l1:p.ty.length<=140737488351232
 l2:p.tx.length<=140737488351232
 l3:p.co.length<=140737488351232
 sz:∀ s∈p.ty,s.size<=140737488351232
structure adr (w:World)(a1 a2 a3:Option Addr):Prop extends PgB p where
 ty:Gs w a1 (afN p.ty)
 tx:Gs w a2 (afN p.tx)
 co:Gs w a3 (alB p.co)
def PgX(W:World)(S:Nat->Prop)(a1 a2 a3:Option Addr):Prop:=jN W S a1 (afN p.ty)/\jN W S a2 (afN p.tx)/\jN W S a3 (alB p.co)
theorem PgX.ok{p:Pg}{W w:World}{bs:List Nat}{a1 a2 a3:Option Addr}(h:PgX p W (Out bs) a1 a2 a3)(hb:PgB p)(hk:an W bs w):adr p w a1 a2 a3:=
 ⟨hb,yF h.1 hk,yF h.2.1 hk,yF h.2.2 hk⟩
theorem adr.x{p:Pg}{w:World}{a1 a2 a3:Option Addr}(h:adr p w a1 a2 a3):PgX p w (Out []) a1 a2 a3:=
 ⟨(jN.ZW h.ty).out λ_ _=>by simp[Out],(jN.ZW h.tx).out λ_ _=>by simp[Out],(jN.ZW h.co).out λ_ _=>by simp[Out]⟩
end
section
variable (p:Pg)(a1 a2 a3:Option Addr)(c1 c2 c3:Nat)(hb:PgB p)
end
structure InsOk (op k a b:Int):Prop where
 op0:0<=op
 op1:op<21
 kk:k=0\/((shp op.toNat).2.1=true/\k=1)
 a0:0<=a
 a1:a<=9223372036854775807
 b0:0<=b
 b1:b<=9223372036854775807
end
section
open Go.RowKit
set_option maxRecDepth 10000
def aiY(d:List Value)(u:Value)(fp:List Nat)(w:World):Prop:=
 ∃ s b v p,d=[.string s]/\u=.pointer (some ⟨b,0,none⟩)/\fp=b::v.ownBlock.toList/\w.heap[b]?=some (.cells #[p,v] 91 (0,0))/\w.ownsRow 0 5 1 v s.size (Lib.strCells s)/\v.ownBlock≠some b /\
  (p=.pointer none\/p=.pointer (some ⟨b,0,none⟩))
theorem aiY.local{d:List Value}{u:Value}{fp:List Nat}{w w' : World}(h:aiY d u fp w)(hl:∀ b∈fp,w'.heap[b]?=w.heap[b]?):aiY d u fp w' := by
 obtain⟨s,b,v,p,h1,h2,h3,h4,h5,h6,h7⟩:=h;refine⟨s,b,v,p,h1,h2,h3,by rw[hl b (by simp[h3])];exact h4,⟨h5.1,?_⟩,h6,h7⟩;rcases h5.2 with h|⟨g,cap,cur,hv,hb,hg,r⟩
 ·exact .inl h
 ·exact .inr ⟨g,cap,cur,hv,hb,by rw[hl g (by rw[h3,hv];simp[Value.ownBlock])];exact hg,r⟩
end
section
open Go.RowKit
end
section
open Go.RowKit Go.LE Go.Proofs.Tryz
def SmL(l:List ByteArray):Prop:=∀ s∈l,s.size<=4194399
structure PgZ (p:Pg):Prop where
 l1:p.ty.length<=1048576
 l2:p.tx.length<=1048576
 l3:p.co.length<=1048576
 z1:∀ s∈p.ty,s.size<=1048576
 z2:∀ s∈p.tx,s.size<=1048576
theorem PgZ.b{p:Pg}(h:PgZ p):PgB p:=⟨by have:=h.l1;omega,by have:=h.l2;omega,by have:=h.l3;omega,λs hs=>by have:=h.z1 s hs;omega⟩
structure PgS (p:Pg):Prop where
 s0:0<=p.src
 s1:p.src<p.ty.length
 v0:0<=p.vw
 v1:p.vw<p.ty.length
 ty:∀ (i:Nat) (h:i<p.ty.length),tyE p.ty[i]=true
 co:∀ (i:Nat) (h:i<p.co.length),ane p.ty.length p.tx.length p.co.length p.co[i].1 p.co[i].2.1 p.co[i].2.2.1 p.co[i].2.2.2=true
theorem SmL.app{l m:List ByteArray}(h:SmL l)(h' : SmL m):SmL (l++m):=λs hs=>(List.mem_append.1 hs).elim (h s) (h' s)
end
section
open Go.ChangeShapes Go.WideShapes Go.ChangeAt Go.RowKit Go.LE
open Go.ChangeMaps (open_string shut_string)
set_option maxRecDepth 10000
theorem am9:ownKnob Tryz.prog.godebug=none:=kR
theorem alD:laidOutB Tryz.prog=true:=kR
theorem alN:mapsRowed Tryz.prog=true:=kR
theorem alu:((List.range Tryz.prog.types.size).all λt=>match Tryz.prog.underlying t with|some (.slice e)=>decide (0<Tryz.prog.cellsOf e)|_=>true)=true:=kR
theorem aje:Tryz.prog.cellsOf 9=1:=kR
theorem Yf:Tryz.prog.cellsOf 5=1:=kR
theorem Yd:Tryz.prog.cellsOf 203=1:=kR
theorem Ye:Tryz.prog.cellsOf 334=20:=kR
theorem J0:Tryz.prog.cellsOf 355=2:=kR
section
variable {H:Type}{enc:TypeId×Value->H}
instance:Inhabited ByteArray:=⟨⟨#[]⟩⟩
end
end
section
open Go.ChangeShapes Go.WideShapes Go.ChangeAt Go.RowKit Go.LE
set_option maxRecDepth 10000
theorem YP:Tryz.prog.globalNamed "loupe/class.escapes"=some 4:=kR
theorem aju:(Tryz.prog.globals[3]?).map (·.type)=some 334:=kR
theorem ajv:(Tryz.prog.globals[4]?).map (·.type)=some 356:=kR
theorem yZ{W:World}{n:String}{g:Nat}{cs:Array Value}(hg:Tryz.prog.globalNamed n=some g)(h:W.var? Tryz.prog n=some cs)(i:Nat)(v:Value)(hi:cs.toList[i]?=some v):W.cell? ⟨g,i,none⟩=some v:=by
 unfold World.var? at h;rw[hg,Option.bind_some]at h;split at h
 ·rename_i cs' T fr hh;cases h;simp only[World.cell?,hh];rw[Array.getElem?_toList]at hi;simpa using hi
 ·cases h
theorem WB{W:World}(h:Lib.VarReads Tryz.prog W "internal/strconv.uint64pow10" Rows.laid_internal_strconv_uint64pow10):ng W (Out []):=by
 obtain⟨g,t,cs,fuel,p,h1,h2,h3,h4⟩:=h;obtain rfl:=Option.some.inj (YO.symm.trans h1);obtain rfl:=Option.some.inj (aju.symm.trans h2);have e:(Rows.laid_internal_strconv_uint64pow10:DataW Unit)=Lib.tabData .u64 Lib.pow10Tab:=rfl;rw[e]at h4
 have h5:=Lib.cells_of_tab Tryz.underlying334 Tryz.underlying203 Yd Ye h4;refine⟨by simp[Out],?_⟩;show W.var? Tryz.prog _=_;rw[h3,<- h5]
theorem akw{l:List Value}{k:Nat}{x y:Value}(h:(l.drop k).take 2=[x,y]):l[k]?=some x/\l[k+1]?=some y:=by
 have h0:=congrArg (·[0]?) h;have h1:=congrArg (·[1]?) h;simp only[List.getElem?_take,List.getElem?_drop]at h0 h1;exact⟨by simpa using h0,by simpa using h1⟩
theorem OP{W:World}{sp:Nat->Bool}{fuel:Nat}{cs:List Value}{a b:Int}{q:List MemPlace}(h:DataW.trod (λ_=>()) Tryz.prog W 0 sp false fuel 355 cs=some (.agg [.lit (.int .u8 a),.lit (.int .u8 b)],q)):cs=[.int .u8 a,.int .u8 b]:=
 Lib.ints_of_struct (zs:=[a,b]) Tryz.underlying355 (λi f hf=>by
  match i,hf with
  |0,hf=>cases hf;exact⟨Tryz.underlying5,rfl,Yf⟩
  |1,hf=>cases hf;exact⟨Tryz.underlying5,rfl,Yf⟩
  |i+2,hf=>cases hf) J0 h
theorem T8{W:World}(h:Lib.VarReads Tryz.prog W "loupe/class.escapes" Rows.laid_loupe_class_escapes):bh W (Out []):=by
 obtain⟨g,t,cs,fuel,p,h1,h2,h3,h4⟩:=h;obtain rfl:=Option.some.inj (YP.symm.trans h1);obtain rfl:=Option.some.inj (ajv.symm.trans h2)
 have key:∀ i (a b:Int),i<3->[(110,10),(114,13),(116,9)][i]?=some (a,b)->W.cell? ⟨4,i*2,none⟩=some (.int .u8 a)/\W.cell? ⟨4,i*2+1,none⟩=some (.int .u8 b):=λi a b hi hab=>by
  obtain⟨f',d,q,hd,ht⟩:=Lib.array_elem Tryz.underlying356 h4 i hi;rw[J0]at ht;have e:d=.agg [.lit (.int .u8 a),.lit (.int .u8 b)]:=by
   match i,hi with
   |0,_=>cases hab;cases hd;rfl
   |1,_=>cases hab;cases hd;rfl
   |2,_=>cases hab;cases hd;rfl
  subst e;obtain⟨g1,g2⟩:=akw (OP ht);exact⟨yZ YP h3 _ _ g1,yZ YP h3 _ _ g2⟩
 have k0:=key 0 _ _ oM rfl;have k1:=key 1 _ _ oM rfl;have k2:=key 2 _ _ oM rfl;exact⟨by simp[Out],k0.1,k0.2,k1.1,k1.2,k2.1,k2.2⟩
end
section
open Go.RowKit Go.LE Go.Proofs.Tryz
set_option maxRecDepth 10000
def vL(c:Int):Bool:=(decide (c=95)||(decide (97<=c)&&decide (c<=122)))||(decide (65<=c)&&decide (c<=90))
def TU(c:Int):Bool:=decide (48<=c)&&decide (c<=57)
def qR(c:Int):Bool:=decide (32<=c)&&decide (c<=126)
def ie(c:Int):Int:=if TU c=true then c-48 else if (decide (97<=c)&&decide (c<=102))=true then c-97+10 else -1
def am6:ByteArray:=⟨#[61,59,40,41,123,125,44,124,38,45,46,126,42,43,63]⟩
def Er(c:Int):Bool:=(List.range 15).any λi=>decide (bt am6 i=c)
def rj(c:Int)(b:Bool):Bool:=if c=10 then false else if c=35 then true else b
def Qg(c:Int)(b:Bool):Bool:=(((!b&&!decide (c=32))&&!decide (c=9))&&!decide (c=10))&&!decide (c=13)
def lb(s:ByteArray):Nat->Bool->Nat->Nat
 |0,_,i=>i
 |n+1,b,i=>if Qg (bt s i) (rj (bt s i) b)=true then i else lb s n (rj (bt s i) b) (i+1)
def la(s:ByteArray)(i:Nat):Nat:=lb s (s.size-i) false i
theorem RB(s:ByteArray):∀ n b i,i<=lb s n b i/\lb s n b i<=i+n
 |0,_,i=>⟨Nat.le_refl _,Nat.le_refl _⟩
 | n+1,b,i=>by
  unfold lb;split
  ·omega
  ·have:=RB s n (rj (bt s i) b) (i+1);omega
theorem sV{s:ByteArray}{i:Nat}(hi:i<=s.size):i<=la s i/\la s i<=s.size:=by
 have:=RB s (s.size-i) false i;unfold la;omega
theorem wy(s:ByteArray)(i j:Nat)(hj:j<=s.size):(s.extract i j).size=j-i:=by
 rw[ByteArray.size_extract];omega
theorem xL(s:ByteArray)(i j k:Nat)(hj:j<=s.size)(hk:k<j-i):bt (s.extract i j) (k:Nat)=bt s ((i+k:Nat):Int):=by
 unfold bt;simp only[Int.toNat_natCast,ByteArray.data_extract,Array.getElem?_extract];rw[if_pos (by have:s.size=s.data.size:=rfl;omega)]
theorem xK(s t:ByteArray)(i:Nat):bt (s++t) (i:Nat)=if i<s.size then bt s (i:Nat) else bt t ((i-s.size:Nat):Int):=by
 unfold bt;simp only[Int.toNat_natCast,ByteArray.data_append];have hs:s.data.size=s.size:=rfl;split
 ·rename_i h;rw[Array.getElem?_append_left oM]
 ·rename_i h;rw[Array.getElem?_append_right oM,hs]
def aly(c:Int):Option Int:=if 48<=c/\c<=57 then some (c-48) else if 97<=c/\c<=102 then some (c-87) else if 65<=c/\c<=70 then some (c-55) else none
def ajG(p:ByteArray):Option Int:=
 if p.size=0 then none
 else match aly (bt p (0:Nat)) with
  |none=>none
  |some a=>if p.size=1 then some a else match aly (bt p (1:Nat)) with
   |none=>none
   |some b=>some (16*a+b)
end
end Go.Proofs.YtnemkecffmdlnaaGreatDoor
