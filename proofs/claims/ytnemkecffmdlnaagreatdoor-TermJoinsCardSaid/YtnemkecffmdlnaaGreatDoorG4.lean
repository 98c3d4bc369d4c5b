/-
 Part 4 of the proof (packed).
-/
import Derived.Test.YtnemkecffmdlnaaGreatDoorG3
import Derived.Lib.AppendIntMem
import Derived.Shelf.Strings.Builder1
import Derived.Shelf.RegionOpenPlain
import Derived.Test.YtnemkecffmdlnaaGreatDoorCards
import Derived.Test.YtnemkecffmdlnaaGreatDoorTie
import Derived.WalkKit
import Derived.ProofKit
import Derived.OpenShut
import Derived.Deep.DeepHandedRow
import Derived.Lib.LaidTab
import Derived.Lib.LaidU8
import Derived.Lay
set_option linter.unusedSimpArgs false
set_option linter.unusedVariables false
set_option linter.defProp false
set_option maxHeartbeats 16000000
namespace Go.Proofs.YtnemkecffmdlnaaGreatDoor
section
open Go.RowKit Go.LE Go.Proofs.Tryz
set_option maxRecDepth 10000
def ay:Rx->Value
 |.eps=>.iface 283 (.agg #[])
 |.cls S=>.iface 311 (cB S)
 |.cat a b=>.iface 281 (.agg #[ay a,ay b])
 |.alt a b=>.iface 284 (.agg #[ay a,ay b])
 |.star a=>.iface 279 (.agg #[ay a])
 |.and a b=>.iface 285 (.agg #[ay a,ay b])
 |.minus a b=>.iface 286 (.agg #[ay a,ay b])
theorem aM(t:Rx):(ay t).oneCell' = true:=by cases t<;>rfl
theorem bb:∀ a b:Rx,ay a=ay b->a=b
 |.eps,b,h=>by cases b<;>simp_all [ay]
 |.cls S,b,h=>by
  cases b<;>simp[ay]at h;rw[cJ _ _ h]
 |.cat x y,b,h=>by
  cases b<;>simp[ay]at h;rw[bb x _ h.1,bb y _ h.2]
 |.alt x y,b,h=>by
  cases b<;>simp[ay]at h;rw[bb x _ h.1,bb y _ h.2]
 |.star x,b,h=>by
  cases b<;>simp[ay]at h;rw[bb x _ h]
 |.and x y,b,h=>by
  cases b<;>simp[ay]at h;rw[bb x _ h.1,bb y _ h.2]
 |.minus x y,b,h=>by
  cases b<;>simp[ay]at h;rw[bb x _ h.1,bb y _ h.2]
inductive Jn where
 |cat|alt|and|minus
def Jn.f:Jn->FuncId
 |.cat=>252
 |.alt=>181
 |.and=>217
 |.minus=>218
def Jn.mk:Jn->Rx->Rx->Rx
 |.cat=>.cat
 |.alt=>.alt
 |.and=>.and
 |.minus=>.minus
def Jn.T:Jn->TypeId
 |.cat=>281
 |.alt=>284
 |.and=>285
 |.minus=>286
def Jn.v(g:Jn):Value:=.func (.func g.f) #[] #[]
def qe(b:Nat):Value:=.pointer (some ⟨b,0,none⟩)
inductive bQ (W:World) (S:Nat->Prop):Value->Rx->Prop where
 |leaf (b:Nat) (t:Rx):XC W S b 0 (ay t)->bQ W S (.func (.func 259) #[] #[qe b]) t
 | join (g:Jn) (b5 b3 b4:Nat) (fa fb:Value) (ta tb:Rx):XC W S b5 0 g.v->XC W S b3 1 fa->XC W S b4 1 fb->bQ W S fa ta->bQ W S fb tb ->
   bQ W S (.func (.func 220) #[] #[qe b5,qe b3,qe b4]) (g.mk ta tb)
 |star (b:Nat) (fa:Value) (ta:Rx):XC W S b 1 fa->bQ W S fa ta->bQ W S (.func (.func 264) #[] #[qe b]) (.star ta)
theorem bQ.mono{W W' : World}{S S' : Nat->Prop}{v:Value}{t:Rx}(h:bQ W S v t)(hs:aX W S W' S'):bQ W' S' v t:=by
 induction h with
 |leaf b t h=>exact .leaf b t (h.mono hs)
 |join g b5 b3 b4 fa fb ta tb h1 h2 h3 _ _ ih1 ih2=>exact .join g b5 b3 b4 fa fb ta tb (h1.mono hs) (h2.mono hs) (h3.mono hs) ih1 ih2
 |star b fa ta h _ ih=>exact .star b fa ta (h.mono hs) ih
theorem bQ.one{W:World}{S:Nat->Prop}{v:Value}{t:Rx}(h:bQ W S v t):v.oneCell' = true:=by cases h<;>rfl
theorem NC{W:World}{S S' : Nat->Prop}{b o:Nat}{u v:Value}(h:XC W S b o u)(h' : XC W S' b o v):u=v:=Option.some.inj (h.2.symm.trans h'.2)
theorem bQ.fn{W:World}{S S' : Nat->Prop}{v:Value}{t t' : Rx}(h:bQ W S v t)(h' : bQ W S' v t'):t=t' := by
 induction h generalizing t' with
 |leaf b t h=>
  cases h' with
  |leaf _ t' h2=>exact bb _ _ (NC h h2)
 | join g b5 b3 b4 fa fb ta tb h1 h2 h3 _ _ ih1 ih2=>
  cases h' with
  |join g' _ _ _ fa' fb' ta' tb' k1 k2 k3 k4 k5=>
   obtain rfl:=NC h2 k2;obtain rfl:=NC h3 k3;have hg:=NC h1 k1;rw[ih1 k4,ih2 k5];have:g=g' := by cases g<;>cases g' <;> simp[Jn.v,Jn.f]at hg<;>rfl
   rw[this]
 | star b fa ta h _ ih=>
  cases h' with
  |star _ fa' ta' k1 k2=>
   obtain rfl:=NC h k1;rw[ih k2]
def eu(r:RL):FK:=⟨λcs W S=>∃ fv,cs=[.int .i64 (r.1:Nat),fv]/\bQ W S fv r.2,λhs ⟨fv,h1,h2⟩=>⟨fv,h1,h2.mono hs⟩⟩
def jM(r:RL)(fv:Value):Value:=.agg #[.int .i64 (r.1:Nat),fv]
theorem xy(r:RL)(fv:Value)(h:fv.oneCell' = true):Sh.two.val [.int .i64 (r.1:Nat),fv]=jM r fv:=by
 show Value.agg #[hv (.int .i64 (r.1:Nat)),hv fv]=_;rw[fQ h];rfl
theorem mB{W:World}{S:Nat->Prop}{r:RL}{u:Value}(h:∃ cs,u=Sh.two.val cs/\(eu r).Φ cs W S):∃ fv,u=jM r fv/\bQ W S fv r.2:=by
 obtain⟨cs,rfl,fv,rfl,h⟩:=h;exact⟨fv,xy r fv h.one,h⟩
theorem cm{W:World}{S:Nat->Prop}{r:RL}{fv:Value}(h:bQ W S fv r.2):∃ cs,jM r fv=Sh.two.val cs/\(eu r).Φ cs W S:=
 ⟨_,(xy r fv h.one).symm,fv,rfl,h⟩
theorem pI{r:RL}{W1:World}{bs1:List Nat}{w:World}{S:Nat->Prop}{fv:Value}(hg:bQ W1 (bJ (aG w S) bs1) fv r.2):G4 w S W1 bs1 (.agg [.v (.int .i64 (r.1:Nat)),.v fv]) (.fact Sh.two (eu r)):=
 ⟨[.int .i64 (r.1:Nat),fv],λE=>(xy r fv hg.one).symm,fv,rfl,hg⟩
theorem cI{W:World}{S:Nat->Prop}{r:RL}{cs:List Value}(h:(eu r).Φ cs W S):∃ fv,cs=[.int .i64 (r.1:Nat),fv]/\bQ W S fv r.2/\hv fv=fv:=by
 obtain⟨fv,h1,h2⟩:=h;exact⟨fv,h1,h2,fQ h2.one⟩
theorem cf(t:Rx):partsOf (.v (ay t))=[.v (ay t)]:=by cases t<;>rfl
def Kq:=(ae @List.replicate_succ.{0} @List.replicate_zero.{0} @au @ab lx ly lA (ae di dj dk dm iH iI iJ (ae iK Tt Tu Tv xD xE xF (ae xG xH xI M5 M6 M7 M8 (ae M9 Na Nb Nc D9 Ea Eb (ae Ec Ed Ee Ef Eg Eh Ei (ae Ej Ek El Em Eo Ep GK (ae GL GM GN GO GP GQ GR (ae GS Nf Ng Nh Ni Nj Nk (ae Nl Nn No Np Nq Nr Ns (ae Nt Nu Nv Nw Nx GU GV (ae GW @aV @aw @aD @aF @cf (λt=>fQ (aM t)) @aM))))))))))))
theorem aac(t:Rx)(w:World)(S:Nat->Prop):Calls prog 249 #[ay t] w λe w' => lI w S e w' (.fact Sh.two (eu (b9 t))):=by
 refine eV (nt:=5) S [.cell 2 254] func249 rfl rfl rfl ?_;refine vR Γ0 Kq ?_;refine vR Γ0 Kq ?_;refine Wp.cX 0 (ev Kq) (λE=>by simp only[ai,den];exact rfl) λW1 bs1 b hx hb hn hc=>?_
 refine wZ Kq ?_;exact⟨[_,_],λE=>rfl,_,rfl,.leaf b t ⟨⟨aG.up w S b hn,hb⟩,cell_of hc 0 sI⟩⟩
def rl(t:Rx):me prog 249 where
 kinds:=[none]
 pre:=λas_ _ _=>as_=[.val (ay t)]
 premono:=λ_ _ _ _ _ _ h=>h
 out:=λ_=>.fact Sh.two (eu (b9 t))
 enters:=call249
 ok:=by
  intro w S us as_ hu hp;subst hp
  match us,hu with
  |[u],hu=>
   obtain⟨rfl,_⟩:=hu;exact aac t w S
theorem Ow(n:Int)(w:World):Calls prog 219 #[.int .i64 n] w λe w' => e=.returned (.int .i64 (min n 2001))/\an w [] w' := by
 refine ak (nt:=5) [.tmp 2] func219 rfl rfl rfl ?_;refine vR Γ0 Kq ?_;refine vR Γ0 Kq ?_;refine wZ Kq ?_;exact λE=>by simp only[den];congr 1;split<;>omega
def AT:a8 prog 219 where
 pre:=λW bs=>λ| [.val (.int .i64 n)]=>True|_=>False
 res:=λW=>λ| [.val (.int .i64 n)]=>.int .i64 (min n 2001)|_=>undef
 enters:=call219
 ok:=by
  intro W w bs us as_ hk hu hp;split at hp
  ·rename_i n
   match us,hu with
   |[u0],hu=>
    obtain⟨rfl,_⟩:=hu;exact Ow n w
  ·exact hp.elim
theorem zR(W:World)(n:Int):AT.res W [.val (.int .i64 n)]=.int .i64 (min n 2001):=rfl
theorem zQ(W:World)(bs:List Nat)(n:Int):AT.pre W bs [.val (.int .i64 n)]=(True):=rfl
noncomputable def Γ40:Env prog:=⟨λ| 219=>some AT.spec|_=>none,λ| _=>none,λ_ _=>none⟩
theorem T6:Γ40.sp 219=some AT.spec:=rfl
theorem TT{a b:Nat}(ha:a<=2001)(hb:b<=2001):IntKind.i64.wrap (IntKind.i64.wrap (1+(a:Int))+(b:Int))=((1+a+b:Nat):Int):=by
 rw[ax (n:=1+(a:Int)) oM oM,ax oM oM];omega
theorem l7(n:Nat):min ((n:Nat):Int) 2001=((cE n:Nat):Int):=by unfold cE;omega
def Bv:=(fg Kq @zR @zQ @T6)
theorem Z2(g:Jn)(a b:RL)(fa fb:Value)(ha:a.1<=2001)(hb:b.1<=2001)(w:World)(S:Nat->Prop)(h1:bQ w S fa a.2)(h2:bQ w S fb b.2) :
  Calls prog 180 #[jM a fa,jM b fb,g.v] w λe w' => lI w S e w' (.fact Sh.two (eu (bg g.mk a b))):=by
 have ga:partsOf (.v (jM a fa))=[.v (.int .i64 (a.1:Nat)),.v fa]:=rfl;have gb:partsOf (.v (jM b fb))=[.v (.int .i64 (b.1:Nat)),.v fb]:=rfl;have gg:partsOf (.v g.v)=[.v g.v]:=rfl;have w1:=TT ha hb;refine eV (nt:=16) S [.cell 6 254] func180 rfl rfl rfl ?_;refine vR Γ40 (fg Bv ga gb gg) ?_
 refine vR Γ40 (oQ Bv ga gb gg w1 @l7) ?_;refine Wp.cX 0 (ev (fg Bv ga gb gg)) (λE=>by simp only[ai,den,ga,gb,gg];exact rfl) λW1 bs1 b3 hx1 hb3 hn3 hc3=>?_
 refine Wp.cX 8 (ev (fg Bv ga gb gg)) (λE=>by simp only[ai,den,ga,gb,gg];exact rfl) λW2 bs2 b4 hx2 hb4 hn4 hc4=>?_
 refine Wp.cX 16 (ev (fg Bv ga gb gg)) (λE=>by simp only[ai,den,ga,gb,gg];exact rfl) λW3 bs3 b5 hx3 hb5 hn5 hc5=>?_
 refine wZ (oQ Bv ga gb gg w1 @l7) ?_;have hx:=(hx1.trans hx2).trans hx3;have u0:=aG.up w S;have u1:=u0.ext hx1;have u2:=u1.ext hx2;have s0:aX w S W3 (bJ (aG w S) bs3):=(aG.e7 w S).trans (hx.dY) (Nat.le_refl _)
 refine⟨[_,_],λE=>rfl,_,rfl,.join g b5 b3 b4 fa fb a.2 b.2 ⟨⟨u2 b5 hn5,hb5⟩,cell_of hc5 0 sI⟩ ?_ ?_ (h1.mono s0) (h2.mono s0)⟩
 ·exact XC.mono (XC.mono ⟨⟨u0 b3 hn3,hb3⟩,cell_of hc3 1 sI⟩ hx2.dY) hx3.dY
 ·exact XC.mono ⟨⟨u1 b4 hn4,hb4⟩,cell_of hc4 1 sI⟩ hx3.dY
def jG(g:Jn)(a b:RL):me prog 180 where
 kinds:=[some (Sh.two,eu a),some (Sh.two,eu b),none]
 pre:=λas_ _ _=>(a.1<=2001/\b.1<=2001)/\∃ x y,as_=[x,y,.val g.v]
 premono:=λ_ _ _ _ _ _ h=>h
 out:=λ_=>.fact Sh.two (eu (bg g.mk a b))
 enters:=call180
 ok:=by
  intro w S us as_ hu hp;obtain⟨⟨ha,hb⟩,x,y,rfl⟩:=hp
  match us,hu with
  |[u1,u2,u3],hu=>
   obtain⟨h1,h2,rfl,_⟩:=hu;obtain⟨fa,rfl,h1'⟩:=mB h1;obtain⟨fb,rfl,h2'⟩:=mB h2;exact Z2 g a b fa fb ha hb w S h1' h2'
theorem acb(a:RL)(fa:Value)(ha:a.1<=2001)(w:World)(S:Nat->Prop)(h1:bQ w S fa a.2) :
  Calls prog 260 #[jM a fa] w λe w' => lI w S e w' (.fact Sh.two (eu (gI a))):=by
 have ga:partsOf (.v (jM a fa))=[.v (.int .i64 (a.1:Nat)),.v fa]:=rfl;have w1:IntKind.i64.wrap (1+(a.1:Int))=((1+a.1:Nat):Int):=wW;refine eV (nt:=9) S [.cell 2 254] func260 rfl rfl rfl ?_;refine vR Γ40 (aa Bv ga) ?_;refine vR Γ40 (fg Bv ga w1 @l7) ?_
 refine Wp.cX 0 (ev (aa Bv ga)) (λE=>by simp only[ai,den,ga];exact rfl) λW1 bs1 b3 hx1 hb3 hn3 hc3=>?_
 refine wZ (fg Bv ga w1 @l7) ?_;have s0:aX w S W1 (bJ (aG w S) bs1):=(aG.e7 w S).trans (hx1.dY) (Nat.le_refl _);exact⟨[_,_],λE=>rfl,_,rfl,.star b3 fa a.2 ⟨⟨aG.up w S b3 hn3,hb3⟩,cell_of hc3 1 sI⟩ (h1.mono s0)⟩
def Dd(a:RL):me prog 260 where
 kinds:=[some (Sh.two,eu a)]
 pre:=λas_ _ _=>a.1<=2001/\∃ x,as_=[x]
 premono:=λ_ _ _ _ _ _ h=>h
 out:=λ_=>.fact Sh.two (eu (gI a))
 enters:=call260
 ok:=by
  intro w S us as_ hu hp;obtain⟨hp,x,rfl⟩:=hp
  match us,hu with
  |[u1],hu=>
   obtain⟨h1,_⟩:=hu;obtain⟨fa,rfl,h1'⟩:=mB h1;exact acb a fa hp w S h1'
noncomputable def Γ41(G:Nat->Prop)(a:RL):Env prog:=⟨λ| 249=>some ((rl .eps).spec G)|180=>some ((jG .alt a (b9 .eps)).spec G)|_=>none,λ_=>none,λ_ _=>none⟩
theorem aio(G:Nat->Prop)(a:RL):(Γ41 G a).sp 249=some ((rl .eps).spec G):=rfl
theorem ain(G:Nat->Prop)(a:RL):(Γ41 G a).sp 180=some ((jG .alt a (b9 .eps)).spec G):=rfl
def aeN:=(EL Bv @cP @rl.eq_1 @jG.eq_1 @Dd.eq_1 @aio @ain)
theorem VT(a:RL)(fa:Value)(ha:a.1<=2001)(w:World)(S:Nat->Prop)(h1:bQ w S fa a.2) :
  Calls prog 261 #[jM a fa] w λe w' => lI w S e w' (.fact Sh.two (eu (bV a))):=by
 have ga:partsOf (.v (jM a fa))=[.v (.int .i64 (a.1:Nat)),.v fa]:=rfl;refine eV (nt:=8) S [.cell 2 254] func261 rfl rfl rfl ?_;refine vR Γ40 (aa aeN ga) ?_;refine kT (Γ41 (aG w S) a) (aa aeN ga) ?_ ?_
 ·have u0:=aG.up w S;exact⟨⟨rfl,u0⟩,⟨cm (h1.mono (aG.e7 w S)),⟨ha,dE⟩,_,_,rfl⟩,u0⟩
 refine Wp.cO 48 (ev (aa aeN ga)) (aX.refl _ _) λW1 bs1 cs hx1 hΦ=>?_
 obtain⟨fv,rfl,hg,hv1⟩:=cI hΦ;refine wZ (bp aeN ga hv1) ?_;exact pI hg
def yG(a:RL):me prog 261 where
 kinds:=[some (Sh.two,eu a)]
 pre:=λas_ _ _=>a.1<=2001/\∃ x,as_=[x]
 premono:=λ_ _ _ _ _ _ h=>h
 out:=λ_=>.fact Sh.two (eu (bV a))
 enters:=call261
 ok:=by
  intro w S us as_ hu hp;obtain⟨hp,x,rfl⟩:=hp
  match us,hu with
  |[u1],hu=>
   obtain⟨h1,_⟩:=hu;obtain⟨fa,rfl,h1'⟩:=mB h1;exact VT a fa hp w S h1'
theorem uR(f:RL->RL):∀ (n:Nat) (x:RL),bL f (n+1) x=f (bL f n x)
 |0,x=>rfl
 |n+1,x=>by rw[bL,uR f n,<- bL]
theorem gB(mk:Rx->Rx->Rx)(a b:RL):(bg mk a b).1<=2001:=lS _
theorem rW(f:RL->RL)(hf:∀ x,(f x).1<=2001):∀ (n:Nat) (x:RL),x.1<=2001->(bL f n x).1<=2001
 |0,x,h=>h
 |n+1,x,h=>rW f hf n (f x) (hf x)
noncomputable def Γ42(G:Nat->Prop)(x y a:RL):Env prog:=⟨λ| 249=>some ((rl .eps).spec G)|180=>some ((jG .cat x y).spec G)|260=>some ((Dd a).spec G)|261=>some ((yG a).spec G)|_=>none,λ_=>none,λ_ _=>none⟩
theorem aiq(G:Nat->Prop)(x y a:RL):(Γ42 G x y a).sp 249=some ((rl .eps).spec G):=rfl
theorem aip(G:Nat->Prop)(x y a:RL):(Γ42 G x y a).sp 180=some ((jG .cat x y).spec G):=rfl
theorem air(G:Nat->Prop)(x y a:RL):(Γ42 G x y a).sp 260=some ((Dd a).spec G):=rfl
theorem ais(G:Nat->Prop)(x y a:RL):(Γ42 G x y a).sp 261=some ((yG a).spec G):=rfl
theorem sH(a:RL):(gI a).1<=2001:=lS _
theorem pn(a:RL):(bV a).1<=2001:=lS _
structure TI where
 W:World
 bs:List Nat
 fo:Value
 j:Nat
def cC:=(ae @List.replicate_succ.{0} @List.replicate_zero.{0} @au @ab lx ly lA (ae di dj dk dm dB dD dF (ae dG iH iI iJ iK xD xE (ae xF xG xH xI Ei Ej Ek (ae El Em Eo Ep GU GV GW (ae @aV @aw @aD @aF @cP @rl.eq_1 @jG.eq_1 (oQ @Dd.eq_1 @yG.eq_1 @aiq @aip @air @ais)))))))
theorem XF(a:RL)(m n:Int)(fa:Value)(ha:a.1<=2001)(hm0:0<=m)(hm1:m<=255)(hn0:-1<=n)(hn1:n<=255)(w:World)(S:Nat->Prop)(h1:bQ w S fa a.2) :
  Calls prog 266 #[jM a fa,.int .i64 m,.int .i64 n] w λe w' => lI w S e w' (.fact Sh.two (eu (dz a m n))):=by
 have ga:partsOf (.v (jM a fa))=[.v (.int .i64 (a.1:Nat)),.v fa]:=rfl;have u0:=aG.up w S;have g0:=h1.mono (aG.e7 w S);refine eV (nt:=55) S [.cell 6 254] func266 rfl rfl rfl ?_;refine vR Γ0 (aa cC ga) ?_;refine Wp.seq ?_;refine vR Γ0 cC ?_;refine wC cC (λhc=>?_) (λhc=>?_)
 ·have hc' : m=0/\n<0:=by simpa using hc
  have hR:dz a m n=gI a:=by rw[dz,if_pos hc']
  rw[hR];refine wR (Γ42 (aG w S) a a a) (aa cC ga) ?_ ?_
  ·exact⟨⟨cm g0,ha,_,rfl⟩,u0⟩
  refine Wp.cO 72 (ev (aa cC ga)) (aX.refl _ _) λW1 bs1 cs hx1 hΦ=>?_
  obtain⟨fv,rfl,hg,hv1⟩:=cI hΦ;refine wZ (bp cC ga hv1) ?_;exact pI hg
 ·have hc1:¬ (m=0/\n<0):=by simpa using hc
  refine wK ?_;refine Wp.seq ?_;refine vR Γ0 cC ?_;refine wC cC (λhc=>?_) (λhc=>?_)
  ·have hc' : m=0/\n=0:=by simpa using hc
   have hR:dz a m n=b9 .eps:=by rw[dz,if_neg hc1,if_pos hc']
   rw[hR];refine wR (Γ42 (aG w S) a a a) (aa cC ga) ?_ ?_
   ·exact⟨rfl,u0⟩
   refine Wp.cO 128 (ev (aa cC ga)) (aX.refl _ _) λW1 bs1 cs hx1 hΦ=>?_
   obtain⟨fv,rfl,hg,hv1⟩:=cI hΦ;refine wZ (bp cC ga hv1) ?_;exact pI hg
  ·have hc2:¬ (m=0/\n=0):=by simpa using hc
   refine wK ?_;refine wR Γ0 (aa cC ga) ?_ ?_
   ·exact h1.one
   refine vR Γ0 cC ?_;generalize hr0:(if m=0 then bV a else a)=r0;have hr0' : r0.1<=2001:=by rw[<- hr0];split;exact pn a;exact ha
   refine Be (λp:TI=>⟨20,eA [(1,.is (.v (.int .i64 m))),(2,.is (.v (.int .i64 n))),(3,.is (.own 0 0)),(6,.is (.own 8 0)),(7,.is (.own 120 0)),(8,.is (.v (.int .i64 1)))],dS [(0,.cells 254 [.v (.int .i64 (a.1:Nat)),.v fa]),(8,.cells 254 [.v (.int .i64 0),.v .nilFunc]),(120,.cells 254 [.v (.int .i64 (r0.1:Nat)),.v p.fo])]⟩) TI.W TI.bs
    (λp=>bQ p.W (bJ (aG w S) p.bs) p.fo r0.2) ?_ ?_
   ·skip;refine vR Γ0 cC ?_;refine wC cC (λhc=>?_) (λhc=>?_)
    ·have hm:m=0:=by simpa using hc
     rw[if_pos hm]at hr0;subst hr0;refine Wp.more ?_;refine wr (Γ42 (aG w S) a a a) (aa cC ga) ?_ ?_
     ·exact⟨⟨cm g0,ha,_,rfl⟩,u0⟩
     refine dn ?_;refine Pw.cO 168 (ev (aa cC ga)) (aX.refl _ _) λW1 bs1 cs hx1 hΦ=>?_
     obtain⟨fv,rfl,hg,hv1⟩:=cI hΦ;refine Pw.here ?_;refine qq ?_;refine⟨⟨W1,bs1,fv,0⟩,hg,rfl,rfl,?_⟩;exact wM (λk=>.key k) (bp cC ga hv1)
    ·have hm:¬ m=0:=by simpa using hc
     rw[if_neg hm]at hr0;subst hr0;refine wK ?_;refine⟨⟨w,[],fa,0⟩,g0,rfl,rfl,?_⟩;exact wM (λk=>.key k) (aa cC ga)
   rintro⟨W0,bs0,fo,j0⟩ hfo hx0;simp only at hfo hx0;dsimp only;have hR1:dz a m n=if n<0 then bg .cat (bL (λx=>bg .cat x a) (m-1).toNat r0) (gI a) else bL (λx=>bg .cat x (bV a)) (n-max m 1).toNat (bL (λx=>bg .cat x a) (m-1).toNat r0):=by
    rw[dz,if_neg hc1,if_neg hc2,hr0]
   have hi1:∀ k,(bL (λx=>bg .cat x a) k r0).1<=2001:=λk=>rW _ (λx=>gB _ _ _) k r0 hr0'
   refine Wp.seq (Wp.block ?_)
   refine Wp.rm (λp:TI=>⟨23,eA [(1,.is (.v (.int .i64 m))),(2,.is (.v (.int .i64 n))),(3,.is (.own 0 0)),(6,.is (.own 8 0)),(7,.is (.own 120 0)),(8,.is (.v (.int .i64 ((p.j:Nat)+1))))],dS [(0,.cells 254 [.v (.int .i64 (a.1:Nat)),.v fa]),(8,.cells 254 [.v (.int .i64 0),.v .nilFunc]),(120,.cells 254 [.v (.int .i64 ((bL (λx=>bg .cat x a) p.j r0).1:Nat)),.v p.fo])]⟩)
    TI.W TI.bs (λp=>p.j<=(m-1).toNat/\bQ p.W (bJ (aG w S) p.bs) p.fo (bL (λx=>bg .cat x a) p.j r0).2) (λp=>(m-1).toNat-p.j) ⟨W0,bs0,fo,0⟩ rfl rfl ?_ ⟨Nat.zero_le _,hfo⟩ ?_
   ·exact wM (λk=>.key k) (nu cC @bL.eq_1 @bL.eq_2 @Int.natCast_zero @Int.zero_add)
   rintro⟨W1,bs1,fo1,j⟩ ⟨hj,hfo1⟩ hx1;simp only at hj hfo1 hx1;dsimp only;have hx01:=hx0.trans hx1;have u1:=u0.ext hx01;have g1:=g0.mono hx01.dY;refine Wp.seq ?_;refine vR Γ0 cC ?_;refine wC cC (λhc=>?_) (λhc=>?_)
   ·have hjm:(j:Int)+1<m:=by simpa using hc
    refine wK ?_;refine Wp.seq (Wp.block ?_);refine Wp.more ?_;refine wr (Γ42 (aG w S) (bL (λx=>bg .cat x a) j r0) a a) (aa cC ga) ?_ ?_
    ·exact⟨⟨⟨cm hfo1,cm g1⟩,⟨hi1 j,ha⟩,_,_,rfl⟩,u1⟩
    refine dn ?_;refine Pw.cO 224 (ev (aa cC ga)) (aX.refl _ _) λW2 bs2 cs hx2 hΦ=>?_
    obtain⟨fv,rfl,hg,hv1⟩:=cI hΦ;refine Pw.here ?_;refine qq ?_;have wn:IntKind.i64.wrap ((j:Int)+1+1)=((j+1:Nat):Int)+1:=wW;have e:bL (λx=>bg .cat x a) (j+1) r0=bg Jn.cat.mk (bL (λx=>bg .cat x a) j r0) a:=uR _ _ _;refine vr Γ0 (aa cC wn) ?_
    refine⟨⟨W2,bs2,fv,j+1⟩,⟨by simp only;omega,by simp only;rw[e];exact hg⟩,by simp only;omega,rfl,rfl,?_⟩;exact wM (λk=>.key k) (fg cC ga hv1 e)
   ·have hjm:¬ (j:Int)+1<m:=by simpa using hc
    have hj' : j=(m-1).toNat:=oM;generalize hr1:bL (λx=>bg .cat x a) (m-1).toNat r0=r1 at hR1;have hr1' : r1.1<=2001:=by rw[<- hr1];exact hi1 _
    rw[hj',hr1]at hfo1;rw[hj',hr1];refine wE ?_;refine Wp.seq ?_;refine vR Γ0 cC ?_;refine wC cC (λhc=>?_) (λhc=>?_)
    ·have hn:n<0:=by simpa using hc
     rw[hR1,if_pos hn];refine kT (Γ42 (aG w S) r1 (gI a) a) (aa cC ga) ?_ ?_
     ·exact⟨⟨⟨cm g1,ha,_,rfl⟩,u1⟩,⟨cm hfo1,⟨hr1',sH a⟩,_,_,rfl⟩,u1⟩
     refine Wp.cO 248 (ev (aa cC ga)) (aX.refl _ _) λW2 bs2 cs hx2 hΦ=>?_
     obtain⟨fv,rfl,hg,hv1⟩:=cI hΦ;refine wZ (bp cC ga hv1) ?_;exact pI hg
    ·have hn:¬ n<0:=by simpa using hc
     rw[hR1,if_neg hn];have hk0:((j:Nat):Int)+1=max m 1:=oM;have hi2:∀ k,(bL (λx=>bg .cat x (bV a)) k r1).1<=2001:=λk=>rW _ (λx=>gB _ _ _) k r1 hr1'
     refine wK ?_;rw[<- hj']at *;refine Wp.seq (Wp.block ?_)
     refine Wp.rm (λp:TI=>⟨28,eA [(2,.is (.v (.int .i64 n))),(3,.is (.own 0 0)),(6,.is (.own 8 0)),(7,.is (.own 120 0)),(8,.is (.v (.int .i64 (((j:Nat):Int)+1+(p.j:Nat)))))],dS [(0,.cells 254 [.v (.int .i64 (a.1:Nat)),.v fa]),(8,.cells 254 [.v (.int .i64 0),.v .nilFunc]),(120,.cells 254 [.v (.int .i64 ((bL (λx=>bg .cat x (bV a)) p.j r1).1:Nat)),.v p.fo])]⟩)
      TI.W TI.bs (λp=>p.j<=(n-max m 1).toNat/\bQ p.W (bJ (aG w S) p.bs) p.fo (bL (λx=>bg .cat x (bV a)) p.j r1).2) (λp=>(n-max m 1).toNat-p.j) ⟨W1,bs1,fo1,0⟩ rfl rfl ?_ ⟨Nat.zero_le _,hfo1⟩ ?_
     ·exact wM (λk=>.key k) (nu cC @bL.eq_1 @bL.eq_2 @Int.natCast_zero @Int.add_zero)
     rintro⟨W3,bs3,fo3,i⟩ ⟨hi,hfo3⟩ hx3;simp only at hi hfo3 hx3;dsimp only;have u3:=u1.ext hx3;have g3:=g1.mono hx3.dY;refine Wp.seq ?_;refine vR Γ0 cC ?_;refine wC cC (λhc=>?_) (λhc=>?_)
     ·have hin:(j:Int)+1+i<n:=by simpa using hc
      refine wK ?_;refine Wp.seq (Wp.block ?_);refine Wp.more ?_;refine J3 (Γ42 (aG w S) (bL (λx=>bg .cat x (bV a)) i r1) (bV a) a) (aa cC ga) ?_ ?_
      ·exact⟨⟨⟨cm g3,ha,_,rfl⟩,u3⟩,⟨cm hfo3,⟨hi2 i,pn a⟩,_,_,rfl⟩,u3⟩
      refine dn ?_;refine Pw.cO 272 (ev (aa cC ga)) (aX.refl _ _) λW4 bs4 cs hx4 hΦ=>?_
      obtain⟨fv,rfl,hg,hv1⟩:=cI hΦ;refine Pw.here ?_;refine qq ?_;have wn:IntKind.i64.wrap ((j:Int)+1+i+1)=(j:Int)+1+((i+1:Nat):Int):=wW;have e:bL (λx=>bg .cat x (bV a)) (i+1) r1=bg Jn.cat.mk (bL (λx=>bg .cat x (bV a)) i r1) (bV a):=uR _ _ _;refine vr Γ0 (aa cC wn) ?_
      refine⟨⟨W4,bs4,fv,i+1⟩,⟨by simp only;omega,by simp only;rw[e];exact hg⟩,by simp only;omega,rfl,rfl,?_⟩;exact wM (λk=>.key k) (fg cC ga hv1 e)
     ·have hin:¬ (j:Int)+1+i<n:=by simpa using hc
      have hi' : i=(n-max m 1).toNat:=oM;refine wE ?_;refine wR Γ0 cC ?_ ?_
      ·exact hfo3.one
      refine wZ cC ?_;rw[<- hi'];exact pI hfo3
def Dj(a:RL):me prog 266 where
 kinds:=[some (Sh.two,eu a),none,none]
 pre:=λas_ _ _=>a.1<=2001/\∃ x m n,as_=[x,.val (.int .i64 m),.val (.int .i64 n)]/\0<=m/\m<=255/\-1<=n/\n<=255
 premono:=λ_ _ _ _ _ _ h=>h
 out:=fun
  |[_,.val (.int .i64 m),.val (.int .i64 n)]=>.fact Sh.two (eu (dz a m n))
  |_=>.val undef
 enters:=call266
 ok:=by
  intro w S us as_ hu hp;obtain⟨ha,x,m,n,rfl,hp⟩:=hp
  match us,hu with
  |[u1,u2,u3],hu=>
   obtain⟨h1,rfl,rfl,_⟩:=hu;obtain⟨fa,rfl,h1'⟩:=mB h1;exact XF a m n fa ha hp.1 hp.2.1 hp.2.2.1 hp.2.2.2 w S h1'
def two(g:Jn)(x y:Value):Value:=.iface g.T (.agg #[x,y])
theorem acB(g:Jn)(a b:Rx):two g (ay a) (ay b)=ay (g.mk a b):=by cases g<;>rfl
def oU:=(ae @List.replicate_succ.{0} @List.replicate_zero.{0} @au @ab lx ly iH (ae iI iJ iK Tt Tu Tv xD (ae xE xF xG xH xI M5 M6 (ae M7 M8 M9 Na Nb Nc D9 (ae Ea Eb Ec Ed Ee Ef Eg (ae Eh GK GL GM GN GO GP (ae GQ GR GS Nf Ng Nh Ni (ae Nj Nk Nl Nn No Np Nq (ae Nr Ns Nt Nu Nv Nw Nx (ae GU GV GW @aV @aw @aD @aF (bp @cf (λt=>fQ (aM t)) @aM)))))))))))
theorem ak7(a b:Rx)(w:World):Calls prog 252 #[ay a,ay b] w λe w' => e=.returned (two .cat (ay a) (ay b))/\an w [] w' := by
 refine ak (nt:=9) [.tmp 4] func252 rfl rfl rfl ?_;refine vR Γ0 oU ?_;refine vR Γ0 oU ?_;refine wZ oU ?_;exact λE=>rfl
theorem ak4(a b:Rx)(w:World):Calls prog 181 #[ay a,ay b] w λe w' => e=.returned (two .alt (ay a) (ay b))/\an w [] w' := by
 refine ak (nt:=9) [.tmp 4] func181 rfl rfl rfl ?_;refine vR Γ0 oU ?_;refine vR Γ0 oU ?_;refine wZ oU ?_;exact λE=>rfl
theorem ak5(a b:Rx)(w:World):Calls prog 217 #[ay a,ay b] w λe w' => e=.returned (two .and (ay a) (ay b))/\an w [] w' := by
 refine ak (nt:=9) [.tmp 4] func217 rfl rfl rfl ?_;refine vR Γ0 oU ?_;refine vR Γ0 oU ?_;refine wZ oU ?_;exact λE=>rfl
theorem aaE(a b:Rx)(w:World):Calls prog 218 #[ay a,ay b] w λe w' => e=.returned (two .minus (ay a) (ay b))/\an w [] w' := by
 refine ak (nt:=9) [.tmp 4] func218 rfl rfl rfl ?_;refine vR Γ0 oU ?_;refine vR Γ0 oU ?_;refine wZ oU ?_;exact λE=>rfl
theorem ak6:∀ (g:Jn) (a b:Rx) (w:World),Calls prog g.f #[ay a,ay b] w λe w' => e=.returned (two g (ay a) (ay b))/\an w [] w'
 |.cat,a,b,w=>ak7 a b w
 |.alt,a,b,w=>ak4 a b w
 |.and,a,b,w=>ak5 a b w
 |.minus,a,b,w=>aaE a b w
theorem V2:∀ (g:Jn) args w,(callFunc g.f args).run prog w=.ok (.enter g.f args) w
 |.cat=>call252
 |.alt=>call181
 |.and=>call217
 |.minus=>call218
def mkC(g:Jn):a8 prog g.f where
 pre:=λW bs as_=>∃ a b,as_=[.val (ay a),.val (ay b)]
 res:=λW=>λ| [.val x,.val y]=>two g x y|_=>undef
 enters:=V2 g
 ok:=by
  rintro W w bs us _ hk hu ⟨a,b,rfl⟩
  match us,hu with
  |[u,v],hu=>
   obtain⟨rfl,rfl,_⟩:=hu;exact ak6 g a b w
theorem afS(g:Jn)(W:World)(x y:Value):(mkC g).res W [.val x,.val y]=two g x y:=rfl
theorem afR(g:Jn)(W:World)(bs:List Nat)(as_:List AV):(mkC g).pre W bs as_=∃ a b,as_=[.val (ay a),.val (ay b)]:=rfl
def dp:Rx->Nat
 |.eps=>0
 |.cls _=>0
 |.cat a b=>dp a+dp b+1
 |.alt a b=>dp a+dp b+1
 |.star a=>dp a+1
 |.and a b=>dp a+dp b+1
 |.minus a b=>dp a+dp b+1
theorem amA(g:Jn)(a b:Rx):dp (g.mk a b)=dp a+dp b+1:=by cases g<;>rfl
def kV(f:FuncId):Prop:=f=259\/f=220\/f=264
theorem bQ.shape{W:World}{S:Nat->Prop}{v:Value}{t:Rx}(h:bQ W S v t):∃ f cap,v=.func (.func f) #[] cap/\kV f:=by
 cases h with
 |leaf=>exact⟨_,_,rfl,.inl rfl⟩
 |join=>exact⟨_,_,rfl,.inr (.inl rfl)⟩
 |star=>exact⟨_,_,rfl,.inr (.inr rfl)⟩
theorem K2{f:FuncId}(h:kV f):∀ args w,(callFunc f args).run prog w=.ok (.enter f args) w:=by
 rcases h with rfl|rfl|rfl
 ·exact call259
 ·exact call220
 ·exact call264
def jx(n:Nat):Prop:=∀ f cap w S t,bQ w S (.func (.func f) #[] cap) t->dp t<n->Calls prog f cap w λe w' => e=.returned (ay t)/\an w [] w'
open Classical in
noncomputable def AX(W:World)(f:FuncId)(as_:List AV):Value:=
 if h:∃ (cap:List Value) (t:Rx),as_=cap.map .val/\bQ W (λ_=>True) (.func (.func f) #[] cap.toArray) t then ay h.choose_spec.choose else undef
theorem Lt{l m:List Value}(h:l.map AV.val=m.map .val):l=m:=by
 have:=congrArg (List.map λ| AV.val v=>v|_=>undef) h;simpa [Function.comp_def] using this
theorem ml{W:World}{S:Nat->Prop}{f:FuncId}{cap:List Value}{t:Rx}(h:bQ W S (.func (.func f) #[] cap.toArray) t):AX W f (cap.map .val)=ay t:=by
 have h1:=h.mono (S' := λ_=>True) (W' := W) λb _ _=>⟨rfl,trivial⟩
 have hex:∃ (c:List Value) (t:Rx),cap.map AV.val=c.map .val/\bQ W (λ_=>True) (.func (.func f) #[] c.toArray) t:=⟨cap,t,rfl,h1⟩;rw[AX,dif_pos hex];obtain⟨g1,g2⟩:=hex.choose_spec.choose_spec;have key:∀ (c:List Value) (t' : Rx),cap=c->bQ W (λ_=>True) (.func (.func f) #[] c.toArray) t' -> t' = t:=by
  rintro _ t' rfl hg;exact (h1.fn hg).symm
 rw[key _ _ (Lt g1) g2]
theorem zI{w:World}:∀ {us cap:List Value},fm w us (cap.map .val)->us=cap
 |[],[],_=>rfl
 |u::us,c::cap,h=>by rw[h.1,zI h.2]
 |[],_::_,h=>h.elim
 |_::_,[],h=>h.elim
noncomputable def K1(n:Nat)(ih:jx n)(f:FuncId)(hf:kV f):a8 prog f where
 pre:=λW bs as_=>∃ (cap:List Value) (t:Rx),as_=cap.map .val/\bQ W (Out bs) (.func (.func f) #[] cap.toArray) t/\dp t<n
 res:=λW as_=>AX W f as_
 enters:=K2 hf
 ok:=by
  rintro W w bs us _ hk hu ⟨cap,t,rfl,hg,hd⟩;rw[ml hg,zI hu];exact ih f _ w (Out bs) t (hg.mono hk.e7) hd
open Classical in
noncomputable def O7(n:Nat)(ih:jx n)(f:FuncId):Option (Go.LE.Spec prog f):=if hf:kV f then some (K1 n ih f hf).spec else none
theorem Va(n:Nat)(ih:jx n)(f:FuncId)(hf:kV f):O7 n ih f=some (K1 n ih f hf).spec:=dif_pos hf
noncomputable def Γ43(n:Nat)(ih:jx n):Env prog:=⟨λ| 252=>some (mkC .cat).spec|181=>some (mkC .alt).spec|217=>some (mkC .and).spec|218=>some (mkC .minus).spec|f=>O7 n ih f,λ_=>none,λ_ _=>none⟩
theorem al5(n:Nat)(ih:jx n)(g:Jn):(Γ43 n ih).sp g.f=some (mkC g).spec:=by cases g<;>rfl
theorem xW(n:Nat)(ih:jx n)(f:FuncId)(hf:kV f):(Γ43 n ih).sp f=some (K1 n ih f hf).spec:=by
 rw[<- Va];rcases hf with rfl|rfl|rfl<;>rfl
theorem F3(n:Nat)(ih:jx n)(f:FuncId)(hf:kV f)(W:World)(as_:List AV):(K1 n ih f hf).res W as_=AX W f as_:=rfl
theorem F0(n:Nat)(ih:jx n)(f:FuncId)(hf:kV f)(W:World)(bs:List Nat)(as_:List AV):(K1 n ih f hf).pre W bs as_=∃ (cap:List Value) (t:Rx),as_=cap.map .val/\bQ W (Out bs) (.func (.func f) #[] cap.toArray) t/\dp t<n:=rfl
theorem q9(h:Hp):∀ l:List Value,aB h (l.map .v)=some (l.map .val,[])
 |[]=>rfl
 |x::r=>by rw[List.map_cons,Ew,q9 h r];rfl
theorem H4{W:World}{S:Nat->Prop}{v:Value}{t:Rx}(h:bQ W S v t):bQ W (Out []) v t:=h.mono λb _ _=>⟨rfl,by simp[Out]⟩
def vP:=(oQ oU @afS @afR @F3 @F0 @al5)
theorem Vc(b:Nat)(t:Rx)(w:World)(S:Nat->Prop)(h:XC w S b 0 (ay t)):Calls prog 259 #[qe b] w λe w' => e=.returned (ay t)/\an w [] w' := by
 have h1:w.cell? ⟨b,0,none⟩=some (ay t):=h.2;refine ak (nt:=3) [.tmp 1] func259 rfl rfl rfl ?_;refine vR Γ0 (aa vP @qe.eq_1) ?_;refine vR Γ0 (bp vP @qe.eq_1 h1) ?_;refine wZ vP ?_;exact λE=>rfl
theorem Vd(n:Nat)(ih:jx n)(b:Nat)(fa:Value)(ta:Rx)(w:World)(S:Nat->Prop)(h:XC w S b 1 fa)(hg:bQ w S fa ta)(hd:dp ta<n) :
  Calls prog 264 #[qe b] w λe w' => e=.returned (ay (.star ta))/\an w [] w' := by
 have h1:w.cell? ⟨b,0+1,none⟩=some fa:=by rw[Nat.zero_add];exact h.2
 obtain⟨f,cap,rfl,hf⟩:=hg.shape;obtain⟨cap,rfl⟩:∃ l:List Value,cap=l.toArray:=⟨cap.toList,sI⟩;have hr:=ml hg;have hs:=xW n ih f hf;refine ak (nt:=7) [.tmp 1] func264 rfl rfl rfl ?_;refine vR Γ0 (aa vP @qe.eq_1) ?_;refine wR (Γ43 n ih) (oQ vP @qe.eq_1 h1 hs hr @q9) ?_ ?_
 ·exact⟨cap,ta,rfl,H4 hg,hd⟩
 refine wZ vP ?_;exact λE=>rfl
theorem Vb(n:Nat)(ih:jx n)(g:Jn)(b5 b3 b4:Nat)(fa fb:Value)(ta tb:Rx)(w:World)(S:Nat->Prop)(h5:XC w S b5 0 g.v)(h3:XC w S b3 1 fa)(h4:XC w S b4 1 fb)
  (hga:bQ w S fa ta) (hgb:bQ w S fb tb) (hda:dp ta<n) (hdb:dp tb<n) :
  Calls prog 220 #[qe b5,qe b3,qe b4] w λe w' => e=.returned (ay (g.mk ta tb))/\an w [] w' := by
 have g5:w.cell? ⟨b5,0,none⟩=some (.func (.func g.f) #[] #[]):=h5.2;have g3:w.cell? ⟨b3,0+1,none⟩=some fa:=by rw[Nat.zero_add];exact h3.2
 have g4:w.cell? ⟨b4,0+1,none⟩=some fb:=by rw[Nat.zero_add];exact h4.2
 obtain⟨f,cap,rfl,hf⟩:=hga.shape;obtain⟨cap,rfl⟩:∃ l:List Value,cap=l.toArray:=⟨cap.toList,sI⟩;obtain⟨f',cap',rfl,hf'⟩:=hgb.shape;obtain⟨cap',rfl⟩:∃ l:List Value,cap' = l.toArray:=⟨cap'.toList,sI⟩;have hr:=ml hga;have hs:=xW n ih f hf;have hr' := ml hgb;have hs' := xW n ih f' hf'
 refine ak (nt:=12) [.tmp 3] func220 rfl rfl rfl ?_;refine vR Γ0 (aa vP @qe.eq_1) ?_;refine kT (Γ43 n ih) (ae vP @qe.eq_1 g5 g3 g4 hs hs' (bp hr hr' @q9)) ?_ ?_
 ·exact⟨⟨cap,ta,rfl,H4 hga,hda⟩,⟨cap',tb,rfl,H4 hgb,hdb⟩,ta,tb,rfl⟩
 refine wZ vP ?_;exact λE=>acB g ta tb
theorem AY:∀ n,jx n
 |0=>λ_ _ _ _ _ _ h=>by omega
 | n+1=>by
  have ih:=AY n;intro f cap w S t h hd;cases h with
  |leaf b t h=>exact Vc b t w S h
  |join g b5 b3 b4 fa fb ta tb h5 h3 h4 ha hb=>
   rw[amA]at hd;exact Vb n ih g b5 b3 b4 fa fb ta tb w S h5 h3 h4 ha hb oM oM
  |star b fa ta h ha=>
   have:dp ta+1<n+1:=hd;exact Vd n ih b fa ta w S h ha oM
end
section
open Go.RowKit Go.LE Go.Proofs.Tryz
set_option maxRecDepth 10000
def AA(s:ByteArray)(i:Int)(d:Nat)(op:List Value):List AV:=[.val (.string s),.val (.int .i64 i),.row 3 1 d op]
def bf(c i:Int):List PanicEntry:=[{ v:=.iface 39 (pR c i ⟨#[]⟩),recovered:=false }]
theorem akq{s:ByteArray}{i:Int}(h0:0<=i)(h:¬ i<s.size):bt s i=0:=by
 unfold bt;rw[Array.getElem?_eq_none (by have:s.data.size=s.size:=rfl;omega)];rfl
theorem FZ{w:World}{u:Value}{fp:List Nat}{s:ByteArray}{i:Int}{d:Nat}{op:List Value}(h:aY w u fp 251 (AA s i d op)) :
  ∃ b,u=.pointer (some ⟨b,0,none⟩)/\w.cell? ⟨b,0,none⟩=some (.string s)/\w.cell? ⟨b,0+1,none⟩=some (.int .i64 i):=by
 obtain⟨b,us,h1,h2,h3⟩:=yJ h
 match us,h2 with
 |[x,y,z],h2=>
  obtain⟨rfl,rfl,_,_⟩:=h2;exact⟨b,h1,h3 0 sI,h3 1 sI⟩
def aeO:=(ae @List.replicate_succ.{0} @List.replicate_zero.{0} @au @ab lx ly lA (ae di dj dk dm dB dD dF (ae dG mZ nc nf ng nh eK (ae eL eM eN eO eP JU JV (ae JW JX oH oI oJ oK vn (ae vt vu vv vz vA vB vC (ae vD vE DW DX DY DZ D0 (ae D1 D3 D4 D5 D6 D7 D8 (bp @AA.eq_1 @pR.eq_1 @bf.eq_1)))))))))
theorem UR(s:ByteArray)(i:Int)(b:Nat)(w:World)(g1:w.cell? ⟨b,0,none⟩=some (.string s))(g2:w.cell? ⟨b,0+1,none⟩=some (.int .i64 i)) :
  Calls prog 127 #[.pointer (some ⟨b,0,none⟩)] w λe w' => e=.returned (.bool (decide ((s.size:Int)<=i)))/\an w [] w' := by
 refine ak (nt:=13) [.tmp 2] func127 rfl rfl rfl ?_;refine vR Γ0 aeO ?_;refine zv Γ0 (bp aeO g1 g2) ?_;refine wZ aeO ?_;exact λE=>rfl
def eW:zD prog 127 where
 T:=251
 pre:=λW bs fs as_=>match fs,as_ with|[.val (.string s),.val (.int .i64 i),.row 3 1 d op],[]=>True|_,_=>False
 res:=λW fs as_=>match fs,as_ with|[.val (.string s),.val (.int .i64 i),.row 3 1 d op],[]=>.bool (decide ((s.size:Int)<=i))|_,_=>undef
 enters:=call127
 ok:=by
  intro W w bs u fp us fs as_ hk ho hu hp;split at hp
  ·rename_i s i d op
   match us,hu with
   |[],_=>
    obtain⟨b,rfl,g1,g2⟩:=FZ ho;exact UR s i b w g1 g2
  ·exact hp.elim
theorem iU(W:World)(s:ByteArray)(i:Int)(d:Nat)(op:List Value):eW.res W [.val (.string s),.val (.int .i64 i),.row 3 1 d op] []=.bool (decide ((s.size:Int)<=i)):=rfl
theorem iT(W:World)(bs:List Nat)(s:ByteArray)(i:Int)(d:Nat)(op:List Value):eW.pre W bs [.val (.string s),.val (.int .i64 i),.row 3 1 d op] []=(True):=rfl
theorem mh:eW.T=251:=rfl
def Kr:=(fg aeO @iU @iT @mh)
theorem aaN(s:ByteArray)(i:Int)(b:Nat)(w:World)(h0:0<=i)(g1:w.cell? ⟨b,0,none⟩=some (.string s))(g2:w.cell? ⟨b,0+1,none⟩=some (.int .i64 i)) :
  Calls prog 179 #[.pointer (some ⟨b,0,none⟩)] w λe w' => e=.returned (.int .u8 (bt s i))/\an w [] w' := by
 refine ak (nt:=22) [.tmp 2] func179 rfl rfl rfl ?_;refine vR Γ0 Kr ?_;refine Wp.seq ?_;refine zv Γ0 (bp Kr g1 g2) ?_;refine wC Kr (λhc=>?_) (λhc=>?_)
 ·have hi:i<s.size:=by simpa using hc
  refine zv Γ0 (bp Kr g1 g2) ?_;refine wZ Kr ?_;exact λE=>rfl
 ·have hi:¬ i<s.size:=by simpa using hc
  rw[akq h0 hi];refine wK ?_;refine vR Γ0 Kr ?_;refine wZ Kr ?_;exact λE=>rfl
def jI:zD prog 179 where
 T:=251
 pre:=λW bs fs as_=>match fs,as_ with|[.val (.string s),.val (.int .i64 i),.row 3 1 d op],[]=>0<=i|_,_=>False
 res:=λW fs as_=>match fs,as_ with|[.val (.string s),.val (.int .i64 i),.row 3 1 d op],[]=>.int .u8 (bt s i)|_,_=>undef
 enters:=call179
 ok:=by
  intro W w bs u fp us fs as_ hk ho hu hp;split at hp
  ·rename_i s i d op
   match us,hu with
   |[],_=>
    obtain⟨b,rfl,g1,g2⟩:=FZ ho;exact aaN s i b w hp g1 g2
  ·exact hp.elim
theorem ma(W:World)(s:ByteArray)(i:Int)(d:Nat)(op:List Value):jI.res W [.val (.string s),.val (.int .i64 i),.row 3 1 d op] []=.int .u8 (bt s i):=rfl
theorem l9(W:World)(bs:List Nat)(s:ByteArray)(i:Int)(d:Nat)(op:List Value):jI.pre W bs [.val (.string s),.val (.int .i64 i),.row 3 1 d op] []=(0<=i):=rfl
theorem tL:jI.T=251:=rfl
def amr:=(fg Kr @ma @l9 @tL)
theorem P5(s:ByteArray)(i:Int)(d:Nat)(op:List Value)(c j:Int)(u:Value)(fp:List Nat)(w:World)(ho:aY w u fp 251 (AA s i d op))(hlt:∀ b∈fp,b<w.heap.size) :
  Calls prog 128 (#[u]++#[.int .i64 c,.int .i64 j]) w λe w' => dN w u fp 251 e w' (.pan (bf c j) (.tuple #[])):=by
 refine aO (nt:=10) #[.int .i64 c,.int .i64 j] [] (by show 3<=7;omega) ho hlt func128 rfl rfl rfl ?_;refine Wp.dJ Γ0 aN (ev amr) ?_ ?_
 ·exact oo
 refine qq ?_;exact⟨_,rfl⟩
def gZ:bP prog 128 where
 T:=251
 pre:=λW bs fs as_=>match fs,as_ with|[.val (.string s),.val (.int .i64 i),.row 3 1 d op],[.val (.int .i64 c),.val (.int .i64 j)]=>True|_,_=>False
 out:=λW fs as_=>match fs,as_ with|[.val (.string s),.val (.int .i64 i),.row 3 1 d op],[.val (.int .i64 c),.val (.int .i64 j)]=>.pan (bf c j) (.tuple #[])|_,_=>.pan [] undef
 enters:=call128
 ok:=by
  intro W w bs u fp us fs as_ hk ho hlt hmine hu hp;split at hp
  ·rename_i s i d op c j
   match us,hu with
   |[u0,u1],hu=>
    obtain⟨rfl,rfl,_⟩:=hu;exact P5 s i d op c j u fp w ho hlt
  ·exact hp.elim
theorem lp(W:World)(s:ByteArray)(i:Int)(d:Nat)(op:List Value)(c:Int)(j:Int):gZ.out W [.val (.string s),.val (.int .i64 i),.row 3 1 d op] [.val (.int .i64 c),.val (.int .i64 j)]=.pan (bf c j) (.tuple #[]):=rfl
theorem lq(W:World)(bs:List Nat)(s:ByteArray)(i:Int)(d:Nat)(op:List Value)(c:Int)(j:Int):gZ.pre W bs [.val (.string s),.val (.int .i64 i),.row 3 1 d op] [.val (.int .i64 c),.val (.int .i64 j)]=(True):=rfl
theorem pF:gZ.T=251:=rfl
noncomputable def Γ44:Env prog:=⟨λ| 127=>some eW.spec|179=>some jI.spec|128=>some gZ.spec|_=>none,λ| _=>none,λ_ _=>none⟩
theorem ait:Γ44.sp 127=some eW.spec:=rfl
theorem aiv:Γ44.sp 179=some jI.spec:=rfl
theorem aiu:Γ44.sp 128=some gZ.spec:=rfl
def aa9(s:ByteArray)(d:Nat)(op:List Value):Except (Int×Int) (Int×Int)->BOut
 |.ok (n,j)=>.ret (.int .i64 n) (AA s j d op)
 |.error (c,j)=>.pan (bf c j) (.int .i64 0)
theorem SZ(s:ByteArray)(d:Nat)(op:List Value)(n j:Int):aa9 s d op (.ok (n,j))=.ret (.int .i64 n) (AA s j d op):=rfl
theorem Cy(s:ByteArray)(d:Nat)(op:List Value)(c j:Int):aa9 s d op (.error (c,j))=.pan (bf c j) (.int .i64 0):=rfl
theorem V5(c:Int->Int)(N:Int)(k:Nat)(n i:Int)(h:¬ (i<N/\48<=c i/\c i<=57)):sf c N k n i=(n,i):=by
 cases k with
 |zero=>rfl
 |succ k=>rw[sf,if_neg h]
def bd:Nat->Int
 |0=>999
 |1=>99
 |2=>9
 |_=>0
theorem ajs(k:Nat):bd k<=999:=by
 match k with
 |0=>simp[bd]
 |1=>simp[bd]
 |2=>simp[bd]
 |n+3=>simp[bd]
theorem Sf{k:Nat}(hk:k+1<=3):10*bd (k+1)+9<=bd k:=by
 match k,hk with
 |0,_=>simp[bd]
 |1,_=>simp[bd]
 |2,_=>simp[bd]
def vQ:=(EL amr @lp @lq @pF ait aiv aiu)
theorem PE(s:ByteArray)(i:Int)(d:Nat)(op:List Value)(u:Value)(fp:List Nat)(w:World)(h0:0<=i)(hi1:i<=s.size)(hs:s.size<=140737488351232)(ho:aY w u fp 251 (AA s i d op))(hlt:∀ b∈fp,b<w.heap.size) :
  Calls prog 265 (#[u]++#[]) w λe w' => dN w u fp 251 e w' (aa9 s d op (py (bt s) s.size i)):=by
 refine aO (nt:=58) #[] [.tmp 2] (by show 3<=7;omega) ho hlt func265 rfl rfl rfl ?_;refine vR Γ44 vQ ?_;refine zv Γ44 vQ ?_;generalize hR:sf (bt s) s.size 3 0 i=R;have w3:IntKind.i64.wrap (i+3)=i+3:=ax oM oM;refine Wp.seq (Wp.block ?_)
 refine Wp.loop (λp:Nat×Int=>⟨20,eA [(0,.is (.own 0 0)),(3,.is (.v (.int .i64 p.2))),(4,.is (.v (.int .i64 i)))],dS [(0,.cells 251 [.v (.string s),.v (.int .i64 (i+(3-(p.1:Nat)))),.hd 3]),(3,.row 3 1 d (op.map .v))]⟩)
  (λp=>p.1<=3/\(0<=p.2/\p.2<=bd p.1)/\i+(3-(p.1:Nat))<=s.size/\sf (bt s) s.size p.1 p.2 (i+(3-(p.1:Nat)))=R) (λp=>p.1) (3,0) ?_ ⟨sI,by simp[bd],by simpa using hi1,by simpa using hR⟩ ?_
 ·exact wM (λk=>.key k) (fg vQ @Int.sub_self @Int.add_zero (show (3:Int)-((3:Nat):Int)=0 from rfl))
 rintro⟨k,n⟩ ⟨hk,⟨hn0,hn1⟩,hi,hR'⟩;simp only at hk hn0 hn1 hi hR';have hbd:=ajs k;refine Wp.seq ?_;refine wR Γ44 (aa vQ w3) ?_ ?_
 ·exact⟨dE,λ_=>⟨dE,oM⟩,λ_=>⟨dE,oM⟩⟩
 refine wC vQ (λhc=>?_) (λhc=>?_)
 ·simp only[Bool.and_eq_true,Bool.not_eq_true',decide_eq_true_eq,decide_eq_false_iff_not]at hc;obtain⟨⟨⟨h1,h2⟩,h3⟩,h4⟩:=hc;obtain⟨k,rfl⟩:∃ j,k=j+1:=⟨k-1,oM⟩;rw[sf,if_pos ⟨oM,h3,h4⟩]at hR';have hst:=Sf hk;generalize hat:i+(3-((k+1:Nat):Int))=at_ at *;have wa:IntKind.i64.wrap (10*n)=10*n:=ax oM oM
  have wb:IntKind.u8.wrap (bt s at_-48)=bt s at_-48:=vF oM oM;have wc:IntKind.i64.wrap (bt s at_-48)=bt s at_-48:=ax oM oM;have wd:IntKind.i64.wrap (10*n+(bt s at_-48))=10*n+(bt s at_-48):=ax oM oM;have we:IntKind.i64.wrap (at_+1)=i+(3-((k:Nat):Int)):=wW;refine wK ?_;refine Wp.block ?_
  refine wR Γ44 (nu vQ wa wb wc wd) ?_ ?_
  ·exact⟨dE,oM⟩
  refine vr Γ44 (aa vQ we) ?_;refine⟨(k,10*n+(bt s at_-48)),⟨by simp only;omega,⟨by simp only;omega,by simp only;omega⟩,by simp only;omega,by simp only;rw[show i+(3-(k:Int))=at_+1 by omega];exact hR'⟩,by simp only;omega,?_⟩;exact wM (λk=>.key k) vQ
 ·have hst:¬ ((i+(3-(k:Int))<s.size/\i+(3-(k:Int))<i+3/\48<=bt s (i+(3-(k:Int))))/\bt s (i+(3-(k:Int)))<=57):=λh=>by
   apply Bool.eq_false_iff.1 hc;simp;omega
  have hRe:R=(n,i+(3-(k:Int))):=by
   rw[<- hR'];cases k with
   |zero=>rfl
   |succ k=>exact V5 _ _ _ _ _ (λh=>hst ⟨⟨h.1,oM,h.2.1⟩,h.2.2⟩)
  have he:py (bt s) s.size i=if R.2=i then .error (20,i) else .ok R:=by rw[py,hR]
  rw[he,hRe];refine wE ?_;refine Wp.seq ?_;refine vR Γ44 vQ ?_;refine wC vQ (λhc=>?_) (λhc=>?_)
  ·have h1:i+(3-(k:Int))=i:=by simpa using hc
   rw[if_pos h1,Cy];refine Wp.dJ Γ44 aN (ev (aa vQ h1)) ?_ ?_
   ·exact⟨dE,sI⟩
   refine qq ?_;exact⟨_,rfl⟩
  ·have h1:¬ i+(3-(k:Int))=i:=by simpa using hc
   rw[if_neg h1,SZ];refine wK ?_;refine vR Γ44 vQ ?_;refine wZ vQ ?_;exact⟨_,_,rfl,λE=>rfl,_,_,rfl,(ev (aa vQ @aq)),dE⟩
def w4:bP prog 265 where
 T:=251
 pre:=λW bs fs as_=>match fs,as_ with|[.val (.string s),.val (.int .i64 i),.row 3 1 d op],[]=>0<=i/\i<=s.size/\s.size<=140737488351232|_,_=>False
 out:=λW fs as_=>match fs,as_ with|[.val (.string s),.val (.int .i64 i),.row 3 1 d op],[]=>aa9 s d op (py (bt s) s.size i)|_,_=>.pan [] undef
 enters:=call265
 ok:=by
  intro W w bs u fp us fs as_ hk ho hlt hmine hu hp;split at hp
  ·rename_i s i d op
   match us,hu with
   |[],_=>
    exact PE s i d op u fp w hp.1 hp.2.1 hp.2.2 ho hlt
  ·exact hp.elim
theorem LD(W:World)(s:ByteArray)(i:Int)(d:Nat)(op:List Value):w4.out W [.val (.string s),.val (.int .i64 i),.row 3 1 d op] []=aa9 s d op (py (bt s) s.size i):=rfl
theorem LF(W:World)(bs:List Nat)(s:ByteArray)(i:Int)(d:Nat)(op:List Value):w4.pre W bs [.val (.string s),.val (.int .i64 i),.row 3 1 d op] []=(0<=i/\i<=s.size/\s.size<=140737488351232):=rfl
theorem V6:w4.T=251:=rfl
theorem fX{r:RL}{W1:World}{bs1 fp:List Nat}{w:World}{S:Nat->Prop}{fv:Value}{T:TypeId}{h:Hp}{vs:List SV}{fs' : List AV}{ks:List Nat}(hg:bQ W1 (bJ (af w S fp) bs1) fv r.2)
  (h0:h 0=some (.cells T vs)) (hv:aB h vs=some (fs',ks)) (hn:(0::ks).Nodup):N2 w S fp T W1 bs1 (.agg [.v (.int .i64 (r.1:Nat)),.v fv]) h (.fact Sh.two (eu r) fs'):=
 ⟨⟨[.int .i64 (r.1:Nat),fv],λE=>(xy r fv hg.one).symm,fv,rfl,hg⟩,vs,ks,h0,hv,hn⟩
theorem Rb(a:RL)(x:AV)(m n:Int):(Dj a).out [x,.val (.int .i64 m),.val (.int .i64 n)]=.fact Sh.two (eu (dz a m n)):=rfl
theorem Ra(a:RL)(as_:List AV)(W:World)(S:Nat->Prop):(Dj a).pre as_ W S=(a.1<=2001/\∃ x m n,as_=[x,.val (.int .i64 m),.val (.int .i64 n)]/\0<=m/\m<=255/\-1<=n/\n<=255):=rfl
theorem IY(a:RL):(Dj a).kinds=[some (Sh.two,eu a),none,none]:=rfl
noncomputable def NX(G:Nat->Prop)(a:RL):Env prog:=⟨λ| 127=>some eW.spec|179=>some jI.spec|128=>some gZ.spec|265=>some w4.spec|266=>some ((Dj a).spec G)|_=>none,λ_=>none,λ_ _=>none⟩
theorem aiw(G:Nat->Prop)(a:RL):(NX G a).sp 127=some eW.spec:=rfl
theorem aiy(G:Nat->Prop)(a:RL):(NX G a).sp 179=some jI.spec:=rfl
theorem aix(G:Nat->Prop)(a:RL):(NX G a).sp 128=some gZ.spec:=rfl
theorem aiz(G:Nat->Prop)(a:RL):(NX G a).sp 265=some w4.spec:=rfl
theorem aiA(G:Nat->Prop)(a:RL):(NX G a).sp 266=some ((Dj a).spec G):=rfl
def CV:Value:=.agg #[.int .i64 0,.nilFunc]
def aa1(a:RL)(s:ByteArray)(d:Nat)(op:List Value):Except (Int×Int) (Int×Int×Int)->GOut
 |.ok (m,n,j)=>.fact Sh.two (eu (dz a m n)) (AA s j d op)
 |.error (c,j)=>.pan (bf c j) CV
theorem SR{c:Int->Int}{N i n j:Int}(h:py c N i=.ok (n,j)):0<=n/\n<=999:=by
 have key:∀ (k:Nat) (n i:Int),k<=3->0<=n->n<=bd k->0<=(sf c N k n i).1/\(sf c N k n i).1<=999:=by
  intro k
  induction k with
  |zero=>intro n i _ h0 h1;exact⟨h0,h1⟩
  | succ k ih=>
   intro n i hk h0 h1;rw[sf];split
   ·rename_i h;have:=Sf hk;exact ih _ _ oM oM oM
   ·have:=ajs (k+1);exact⟨h0,by simp only;omega⟩
 unfold py at h;split at h
 ·cases h
 ·simp only[Except.ok.injEq]at h;have:=key 3 0 i (Nat.le_refl _) oM (by simp[bd]);rw[h]at this;exact this
def dr:=(ae @List.replicate_succ.{0} @List.replicate_zero.{0} @au @ab lx ly lA (ae di dj dk dm dB dD dF (ae dG mZ nc nf ng nh oH (ae oI oJ oK DW DX DY DZ (ae D0 D1 D3 D4 D5 D6 D7 (ae D8 xD xE xF xG xH xI (ae @AA.eq_1 @pR.eq_1 @bf.eq_1 @aV @aw @aD @aF (ae @cP @fy @iU @iT @mh @ma @l9 (ae @tL @lp @lq @pF @LD @LF @V6 (ae @SZ @Cy @aiw @aiy @aix @aiz @aiA (bp @Rb @Ra @IY)))))))))))
theorem Ol(s:ByteArray)(i:Int)(d:Nat)(op:List Value)(a:RL)(fa:Value)(ha:a.1<=2001)(u:Value)(fp:List Nat)(w:World)(S:Nat->Prop)(h0:0<=i)(hi1:i<s.size)(hs:s.size<=140737488351232)
  (ho:aY w u fp 251 (AA s i d op)) (hlt:∀ b∈fp,b<w.heap.size) (hS:∀ b∈fp,¬ S b) (h1:bQ w S fa a.2) :
  Calls prog 262 (#[u]++#[jM a fa]) w λe w' => wA w S u fp 251 e w' (aa1 a s d op (xY (bt s) s.size i)):=by
 have ga:partsOf (.v (jM a fa))=[.v (.int .i64 (a.1:Nat)),.v fa]:=rfl;have u0:=af.up w S fp;have g0:=h1.mono (af.e7 w S fp hS);have w1:IntKind.i64.wrap (i+1)=i+1:=ax oM oM;refine du (nt:=88) S #[jM a fa] [.cell 4 254] (by show 3<=7;omega) ho hlt func262 rfl rfl rfl ?_;refine vR Γ0 (aa dr ga) ?_
 refine vR Γ0 dr ?_;refine vR Γ0 (aa dr w1) ?_;cases hN:py (bt s) s.size (i+1) with
 |error e=>
  obtain⟨c,j⟩:=e;have he:xY (bt s) s.size i=.error (c,j):=by rw[xY,hN]
  rw[he];refine Wp.bo (NX (af w S fp) a) aN (ev (bp dr hN w1)) ?_ ?_
  ·first|trivial|omega|(simp[hs];done)|(simp[hs];omega)|(simp[hs]<;>omega)
  refine qq ?_;exact⟨_,rfl⟩
 | ok p=>
  obtain⟨m,j⟩:=p;have hj:=A2 hN;have hm:=SR hN;refine wR (NX (af w S fp) a) (bp dr hN w1) ?_ ?_
  ·first|trivial|omega|(simp[hs];done)|(simp[hs];omega)|(simp[hs]<;>omega)
  refine vR Γ0 dr ?_;have wj:IntKind.i64.wrap (j+1)=j+1:=ax oM oM;have hb:∀ n k,RV (bt s) s.size m j=.ok (n,k)->xY (bt s) s.size i=zL (bt s) s.size m n k i:=λn k h=>by rw[xY,hN];simp only[h]
  cases hU:RV (bt s) s.size m j with
  | error e=>
   obtain⟨c,k⟩:=e;have he:xY (bt s) s.size i=.error (c,k):=by rw[xY,hN];simp only[hU]
   rw[he];rw[RV]at hU;split at hU
   ·rename_i h44;split at hU
    ·rename_i h125;refine Wp.seq ?_;refine wR (NX (af w S fp) a) dr ?_ ?_
     ·first|trivial|omega|(simp[hs];done)|(simp[hs];omega)|(simp[hs]<;>omega)
     refine wC dr (λhc=>?_) (λhc=>?_)
     ·skip;refine vR Γ0 (aa dr wj) ?_;refine vR Γ0 dr ?_;refine wR (NX (af w S fp) a) dr ?_ ?_
      ·first|trivial|omega|(simp[hs];done)|(simp[hs];omega)|(simp[hs]<;>omega)
      refine wC dr (λhc=>?_) (λhc=>?_)
      ·skip;refine Wp.dJ (NX (af w S fp) a) aN (ev (aa dr hU)) ?_ ?_
       ·first|trivial|omega|(simp[hs];done)|(simp[hs];omega)|(simp[hs]<;>omega)
       refine qq ?_;exact⟨_,rfl⟩
      ·exfalso;apply Bool.eq_false_iff.1 hc;simp;omega
     ·exfalso;apply Bool.eq_false_iff.1 hc;simp;omega
    ·cases hU
   ·cases hU
  | ok q=>
   obtain⟨n,k⟩:=q;have hbe:=hb n k hU
   refine ig ⟨60,eA [(0,.is (.own 0 0)),(3,.is (.own 8 0)),(4,.is (.own 16 0)),(5,.is (.v (.int .i64 i))),(6,.is (.v (.int .i64 m))),(7,.is (.v (.int .i64 n)))],dS [(0,.cells 251 [.v (.string s),.v (.int .i64 k),.hd 3]),(3,.row 3 1 d (op.map .v)),(8,.cells 254 [.v (.int .i64 (a.1:Nat)),.v fa]),(16,.cells 254 [.v (.int .i64 0),.v .nilFunc])]⟩ ?_ ?_
   ·skip;refine wR (NX (af w S fp) a) dr ?_ ?_
    ·first|trivial|omega|(simp[hs];done)|(simp[hs];omega)|(simp[hs]<;>omega)
    refine wC dr (λhc=>?_) (λhc=>?_)
    ·have h44:j<s.size/\bt s j=44:=by
      simp at hc;omega
     rw[RV,if_pos h44]at hU;refine vR Γ0 (aa dr wj) ?_;refine vR Γ0 dr ?_;refine wR (NX (af w S fp) a) dr ?_ ?_
     ·first|trivial|omega|(simp[hs];done)|(simp[hs];omega)|(simp[hs]<;>omega)
     refine wC dr (λhc=>?_) (λhc=>?_)
     ·have h125:¬ j+1<s.size\/bt s (j+1)≠125:=by
       simp at hc;omega
      rw[if_pos h125]at hU;refine wr (NX (af w S fp) a) (aa dr hU) ?_ ?_
      ·first|trivial|omega|(simp[hs];done)|(simp[hs];omega)|(simp[hs]<;>omega)
      exact wM (λx=>if x=3 then .key 370 else .key x) dr
     ·have h125:¬ (¬ j+1<s.size\/bt s (j+1)≠125):=by
       simp at hc;omega
      rw[if_neg h125]at hU;simp only[Except.ok.injEq,Prod.mk.injEq]at hU;obtain⟨rfl,rfl⟩:=hU;refine wK ?_;exact wM (λx=>if x=3 then .key 138 else .key x) dr
    ·have h44:¬ (j<s.size/\bt s j=44):=λh=>by
      apply Bool.eq_false_iff.1 hc;simp;omega
     rw[RV,if_neg h44]at hU;simp only[Except.ok.injEq,Prod.mk.injEq]at hU;obtain⟨rfl,rfl⟩:=hU;refine wK ?_;exact wM (λx=>if x=3 then .key 138 else .key x) dr
   ·have hk:j<=k/\k<=s.size/\-1<=n/\n<=999:=by
     rw[RV]at hU;split at hU
     ·split at hU
      ·have:=A2 hU;have:=SR hU;omega
      ·simp only[Except.ok.injEq,Prod.mk.injEq]at hU;omega
     ·simp only[Except.ok.injEq,Prod.mk.injEq]at hU;omega
    have wk:IntKind.i64.wrap (k+1)=k+1:=ax oM oM;rw[hbe];refine Wp.seq ?_;refine wR (NX (af w S fp) a) dr ?_ ?_
    ·first|trivial|omega|(simp[hs];done)|(simp[hs];omega)|(simp[hs]<;>omega)
    refine wC dr (λhc=>?_) (λhc=>?_)
    ·have h2:¬ k<s.size\/bt s k≠125:=by
      simp at hc;omega
     rw[zL,if_pos h2];refine Wp.dJ (NX (af w S fp) a) aN (ev dr) ?_ ?_
     ·first|trivial|omega|(simp[hs];done)|(simp[hs];omega)|(simp[hs]<;>omega)
     refine qq ?_;exact⟨_,rfl⟩
    ·have h2:¬ (¬ k<s.size\/bt s k≠125):=λh=>by
      apply Bool.eq_false_iff.1 hc;simp;omega
     rw[zL,if_neg h2];refine wK ?_;refine vR Γ0 (aa dr wk) ?_;refine Wp.seq ?_;refine vR Γ0 dr ?_;refine wC dr (λhc=>?_) (λhc=>?_)
     ·have h3:255<m\/255<n\/0<=n/\n<m:=by
       simp at hc;omega
      rw[if_pos h3];refine Wp.dJ (NX (af w S fp) a) aN (ev dr) ?_ ?_
      ·first|trivial|omega|(simp[hs];done)|(simp[hs];omega)|(simp[hs]<;>omega)
      refine qq ?_;exact⟨_,rfl⟩
     ·have h3:¬ (255<m\/255<n\/0<=n/\n<m):=λh=>by
       apply Bool.eq_false_iff.1 hc;simp;omega
      rw[if_neg h3];refine wK ?_;refine wR (NX (af w S fp) a) dr ?_ ?_
      ·exact⟨⟨cm g0,ha,_,_,_,rfl,oM,oM,oM,oM⟩,u0⟩
      refine Wp.cO 744 (ev (aa dr ga)) (aX.refl _ _) λW1 bs1 cs hx1 hΦ=>?_
      obtain⟨fv,rfl,hg,hv1⟩:=cI hΦ;refine wZ (bp dr ga hv1) ?_;exact fX hg rfl ((ev (aa dr @aq))) dE
def tn(a:RL):vL prog 262 where
 T:=251
 kinds:=[some (Sh.two,eu a)]
 pre:=λfs as_ W S=>∃ s i d op x,fs=AA s i d op/\as_=[x]/\a.1<=2001/\0<=i/\i<s.size/\s.size<=140737488351232
 premono:=λ_ _ _ _ _ _ _ h=>h
 out:=λfs as_=>match fs with
  |[.val (.string s),.val (.int .i64 i),.row 3 1 d op]=>aa1 a s d op (xY (bt s) s.size i)
  |_=>.pan [] undef
 enters:=call262
 ok:=by
  intro w S u fp us fs as_ ho hlt hS hu hp;obtain⟨s,i,d,op,x,rfl,rfl,ha,h0,hi,hs⟩:=hp
  match us,hu with
  |[u1],hu=>
   obtain⟨h1,_⟩:=hu;obtain⟨fa,rfl,h1'⟩:=mB h1;exact Ol s i d op a fa ha u fp w S h0 hi hs ho hlt hS h1'
theorem Kx(a:RL)(s:ByteArray)(i:Int)(d:Nat)(op:List Value)(as_:List AV):(tn a).out [.val (.string s),.val (.int .i64 i),.row 3 1 d op] as_=aa1 a s d op (xY (bt s) s.size i):=rfl
theorem Ky(a:RL)(fs as_:List AV)(W:World)(S:Nat->Prop):(tn a).pre fs as_ W S=∃ s i d op x,fs=AA s i d op/\as_=[x]/\a.1<=2001/\0<=i/\i<s.size/\s.size<=140737488351232:=rfl
theorem EY(a:RL):(tn a).kinds=[some (Sh.two,eu a)]:=rfl
theorem Uw(a:RL):(tn a).T=251:=rfl
theorem af8(a:RL)(s:ByteArray)(d:Nat)(op:List Value)(m n j:Int):aa1 a s d op (.ok (m,n,j))=.fact Sh.two (eu (dz a m n)) (AA s j d op):=rfl
theorem PM(a:RL)(s:ByteArray)(d:Nat)(op:List Value)(c j:Int):aa1 a s d op (.error (c,j))=.pan (bf c j) CV:=rfl
noncomputable def Yc(G:Nat->Prop)(a:RL):Env prog:=⟨λ| 127=>some eW.spec|179=>some jI.spec|260=>some ((Dd a).spec G)|180=>some ((jG .cat a (gI a)).spec G)|261=>some ((yG a).spec G)|262=>some ((tn a).spec G)|_=>none,λ_=>none,λ_ _=>none⟩
theorem aiB(G:Nat->Prop)(a:RL):(Yc G a).sp 127=some eW.spec:=rfl
theorem aiC(G:Nat->Prop)(a:RL):(Yc G a).sp 179=some jI.spec:=rfl
theorem aiE(G:Nat->Prop)(a:RL):(Yc G a).sp 260=some ((Dd a).spec G):=rfl
theorem aiD(G:Nat->Prop)(a:RL):(Yc G a).sp 180=some ((jG .cat a (gI a)).spec G):=rfl
theorem aiF(G:Nat->Prop)(a:RL):(Yc G a).sp 261=some ((yG a).spec G):=rfl
theorem aiG(G:Nat->Prop)(a:RL):(Yc G a).sp 262=some ((tn a).spec G):=rfl
def LP(s:ByteArray)(d:Nat)(op:List Value):Except (Int×Int) (RL×Int)->GOut
 |.ok (r,j)=>.fact Sh.two (eu r) (AA s j d op)
 |.error (c,j)=>.pan (bf c j) CV
theorem tO(s:ByteArray)(d:Nat)(op:List Value)(r:RL)(j:Int):LP s d op (.ok (r,j))=.fact Sh.two (eu r) (AA s j d op):=rfl
theorem b7(s:ByteArray)(d:Nat)(op:List Value)(c j:Int):LP s d op (.error (c,j))=.pan (bf c j) CV:=rfl
theorem GG(a:RL)(m n:Int)(ha:a.1<=2001):(dz a m n).1<=2001:=by
 have h1:(if m=0 then bV a else a).1<=2001:=by split;exact pn a;exact ha
 unfold dz;split
 ·exact sH a
 ·split
  ·decide
  ·split
   ·exact gB _ _ _
   ·exact rW _ (λx=>gB _ _ _) _ _ (rW _ (λx=>gB _ _ _) _ _ h1)
structure RI where
 W:World
 bs:List Nat
 fo:Value
 r:RL
 i:Int
 n:Nat
def db:=(ae @List.replicate_succ.{0} @List.replicate_zero.{0} @au @ab lx ly lA (ae di dj dk dm dB dD dF (ae dG mZ nc nf ng nh DW (ae DX DY DZ D0 D1 D3 D4 (ae D5 D6 D7 D8 xD xE xF (ae xG xH xI GU GV GW @AA.eq_1 (ae @pR.eq_1 @bf.eq_1 @aV @aw @aD @aF @cP (ae @fy @iU @iT @mh @ma @l9 @tL (ae @Dd.eq_1 @jG.eq_1 @yG.eq_1 @aiB @aiC @aiE @aiD (ae @aiF @aiG @Kx @Ky @EY @Uw @af8 @PM))))))))))
theorem Mc(s:ByteArray)(i0:Int)(d:Nat)(op:List Value)(a:RL)(fa:Value)(ha:a.1<=2001)(u:Value)(fp:List Nat)(w:World)(S:Nat->Prop)(h0:0<=i0)(hi1:i0<=s.size)(hs:s.size<=140737488351232)
  (ho:aY w u fp 251 (AA s i0 d op)) (hlt:∀ b∈fp,b<w.heap.size) (hS:∀ b∈fp,¬ S b) (h1:bQ w S fa a.2) :
  Calls prog 250 (#[u]++#[jM a fa]) w λe w' => wA w S u fp 251 e w' (LP s d op (kz (bt s) s.size ((s.size:Int).toNat+1) a i0)):=by
 have ga:partsOf (.v (jM a fa))=[.v (.int .i64 (a.1:Nat)),.v fa]:=rfl;have u0:=af.up w S fp;have g0:=h1.mono (af.e7 w S fp hS);generalize hR:kz (bt s) s.size ((s.size:Int).toNat+1) a i0=R;refine du (nt:=38) S #[jM a fa] [.cell 4 254] (by show 3<=7;omega) ho hlt func250 rfl rfl rfl ?_
 refine vR Γ0 (aa db ga) ?_;refine Wp.seq (Wp.block ?_)
 refine Wp.rm (λp:RI=>⟨5,eA [(0,.is (.own 0 0)),(3,.is (.own 8 0)),(4,.is (.own 16 0))],dS [(0,.cells 251 [.v (.string s),.v (.int .i64 p.i),.hd 3]),(3,.row 3 1 d (op.map .v)),(8,.cells 254 [.v (.int .i64 (p.r.1:Nat)),.v p.fo]),(16,.cells 254 [.v (.int .i64 0),.v .nilFunc])]⟩)
  RI.W RI.bs (λp=>(0<=p.i/\p.i<=s.size)/\p.r.1<=2001/\((s.size:Int)-p.i<p.n/\1<=p.n)/\bQ p.W (bJ (af w S fp) p.bs) p.fo p.r.2/\kz (bt s) s.size p.n p.r p.i=R) (λp=>p.n) ⟨w,fp,fa,a,i0,(s.size:Int).toNat+1⟩ rfl rfl ?_ ⟨⟨h0,hi1⟩,ha,⟨by simp only;omega,by simp only;omega⟩,g0,hR⟩ ?_
 ·exact wM (λx=>.key x) (aa db ga)
 rintro⟨W1,bs1,fo,r,i,n⟩ ⟨⟨hi0,hiN⟩,hr,⟨hn,hn1⟩,hg,hR'⟩ hx1;simp only at hi0 hiN hr hn hn1 hg hR' hx1;dsimp only;obtain⟨n,rfl⟩:∃ m,n=m+1:=⟨n-1,oM⟩;have u1:=u0.ext hx1;refine Wp.seq ?_;refine wR (Yc (af w S fp) r) db ?_ ?_
 ·first|trivial|omega|(simp[hs];done)|(simp[hs];omega)|(simp[hs]<;>omega)
 refine wC db (λhc=>?_) (λhc=>?_)
 ·have hi:i<s.size:=by
   simp at hc;omega
  rw[kz,if_neg oM]at hR';have wi:IntKind.i64.wrap (i+1)=i+1:=ax oM oM;refine wK ?_;refine Wp.block ?_;refine Wp.seq ?_;refine wR (Yc (af w S fp) r) db ?_ ?_
  ·first|trivial|omega|(simp[hs];done)|(simp[hs];omega)|(simp[hs]<;>omega)
  refine Wp.block ?_;refine vR Γ0 db ?_;refine wC db (λhc=>?_) (λhc=>?_)
  ·have h42:bt s i=42:=by simpa using hc
   rw[if_pos h42]at hR';refine Wp.more ?_;refine wr (Yc (af w S fp) r) db ?_ ?_
   ·exact⟨⟨cm hg,hr,_,rfl⟩,u1⟩
   refine dn ?_;refine Pw.cO 104 (ev db) (aX.refl _ _) λW2 bs2 cs hx2 hΦ=>?_
   obtain⟨fv,rfl,hg2,hv2⟩:=cI hΦ;refine Pw.here ?_;refine qq ?_;refine vr Γ0 (aa db wi) ?_;refine⟨⟨W2,bs2,fv,gI r,i+1,n⟩,⟨by simp only;omega,sH r,by simp only;omega,hg2,hR'⟩,by simp only;omega,rfl,rfl,?_⟩;exact wM (λx=>.key x) (aa db hv2)
  ·have h42:¬ bt s i=42:=by simpa using hc
   rw[if_neg h42]at hR';refine vR Γ0 db ?_;refine wC db (λhc=>?_) (λhc=>?_)
   ·have h43:bt s i=43:=by simpa using hc
    rw[if_pos h43]at hR';refine Wp.more ?_;refine J3 (Yc (af w S fp) r) db ?_ ?_
    ·exact⟨⟨⟨cm hg,hr,_,rfl⟩,u1⟩,⟨cm hg,⟨hr,sH r⟩,_,_,rfl⟩,u1⟩
    refine dn ?_;refine Pw.cO 136 (ev db) (aX.refl _ _) λW2 bs2 cs hx2 hΦ=>?_
    obtain⟨fv,rfl,hg2,hv2⟩:=cI hΦ;refine Pw.here ?_;refine qq ?_;refine vr Γ0 (aa db wi) ?_;refine⟨⟨W2,bs2,fv,bg .cat r (gI r),i+1,n⟩,⟨by simp only;omega,gB _ _ _,by simp only;omega,hg2,hR'⟩,by simp only;omega,rfl,rfl,?_⟩;exact wM (λx=>.key x) (aa db hv2)
   ·have h43:¬ bt s i=43:=by simpa using hc
    rw[if_neg h43]at hR';refine vR Γ0 db ?_;refine wC db (λhc=>?_) (λhc=>?_)
    ·have h63:bt s i=63:=by simpa using hc
     rw[if_pos h63]at hR';refine Wp.more ?_;refine wr (Yc (af w S fp) r) db ?_ ?_
     ·exact⟨⟨cm hg,hr,_,rfl⟩,u1⟩
     refine dn ?_;refine Pw.cO 136 (ev db) (aX.refl _ _) λW2 bs2 cs hx2 hΦ=>?_
     obtain⟨fv,rfl,hg2,hv2⟩:=cI hΦ;refine Pw.here ?_;refine qq ?_;refine vr Γ0 (aa db wi) ?_;refine⟨⟨W2,bs2,fv,bV r,i+1,n⟩,⟨by simp only;omega,pn r,by simp only;omega,hg2,hR'⟩,by simp only;omega,rfl,rfl,?_⟩;exact wM (λx=>.key x) (aa db hv2)
    ·have h63:¬ bt s i=63:=by simpa using hc
     rw[if_neg h63]at hR';refine vR Γ0 db ?_;refine wC db (λhc=>?_) (λhc=>?_)
     ·have h123:bt s i=123:=by simpa using hc
      rw[if_pos h123]at hR';cases hB:xY (bt s) s.size i with
      |error e=>
       obtain⟨c,j⟩:=e;rw[hB]at hR';simp only at hR';rw[<- hR',b7];refine Wp.bo (Yc (af w S fp) r) aN (ev (aa db hB)) ?_ ?_
       ·exact⟨⟨cm hg,_,_,_,_,_,rfl,rfl,hr,hi0,hi,hs⟩,dE,sI⟩
       refine qq ?_;exact⟨_,rfl⟩
      |ok q=>
       obtain⟨m,k,j⟩:=q;rw[hB]at hR';simp only at hR';have hj:=Hj hB;refine wR (Yc (af w S fp) r) (aa db hB) ?_ ?_
       ·exact⟨⟨cm hg,_,_,_,_,_,rfl,rfl,hr,hi0,hi,hs⟩,dE,sI,u1⟩
       refine Wp.cO 167 (ev db) (aX.refl _ _) λW2 bs2 cs hx2 hΦ=>?_
       obtain⟨fv,rfl,hg2,hv2⟩:=cI hΦ;refine wE ?_;refine⟨⟨W2,bs2,fv,dz r m k,j,n⟩,⟨by simp only;omega,GG _ _ _ hr,by simp only;omega,hg2,hR'⟩,by simp only;omega,rfl,rfl,?_⟩;exact wM (λx=>if x=3 then .key 162 else .key x) (aa db hv2)
     ·have h123:¬ bt s i=123:=by simpa using hc
      rw[if_neg h123]at hR';refine wR Γ0 db ?_ ?_
      ·exact hg.one
      refine wZ db ?_;rw[<- hR'];exact fX hg rfl ((ev (aa db @aq))) dE
 ·have hi:¬ i<s.size:=by
   simp at hc;omega
  rw[kz,if_pos hi]at hR';refine wE ?_;refine wR Γ0 db ?_ ?_
  ·exact hg.one
  refine wZ db ?_;rw[<- hR'];exact fX hg rfl ((ev (aa db @aq))) dE
def pH(a:RL):vL prog 250 where
 T:=251
 kinds:=[some (Sh.two,eu a)]
 pre:=λfs as_ W S=>∃ s i d op x,fs=AA s i d op/\as_=[x]/\a.1<=2001/\0<=i/\i<=s.size/\s.size<=140737488351232
 premono:=λ_ _ _ _ _ _ _ h=>h
 out:=λfs as_=>match fs with
  |[.val (.string s),.val (.int .i64 i),.row 3 1 d op]=>LP s d op (kz (bt s) s.size ((s.size:Int).toNat+1) a i)
  |_=>.pan [] undef
 enters:=call250
 ok:=by
  intro w S u fp us fs as_ ho hlt hS hu hp;obtain⟨s,i,d,op,x,rfl,rfl,ha,h0,hi,hs⟩:=hp
  match us,hu with
  |[u1],hu=>
   obtain⟨h1,_⟩:=hu;obtain⟨fa,rfl,h1'⟩:=mB h1;exact Mc s i d op a fa ha u fp w S h0 hi hs ho hlt hS h1'
def og(s:ByteArray)(i:Int):Except (Int×Int) (BitVec 256×Int):=match jF s i with
 |.error j=>.error (10,j)
 |.ok (a,j)=>.ok (a,j)
def G5(f:FuncId)(E:ByteArray->Int->Except (Int×Int) (RL×Int))(need:ByteArray->Int->Prop)(n:Nat):Prop:=
 ∀ (s:ByteArray) (i:Int) (d:Nat) (op:List Value) (u:Value) (fp:List Nat) (w:World) (S:Nat->Prop),d+n=1000->op.length=d->0<=i->need s i->s.size<=140737488351232->bj w S ->
  aY w u fp 251 (AA s i d op)->(∀ b∈fp,b<w.heap.size)->(∀ b∈fp,¬ S b) ->
  Calls prog f (#[u]++#[]) w λe w' => wA w S u fp 251 e w' (LP s d op (E s i))
abbrev J5 (n:Nat):Prop:=G5 251 (λs i=>bD (bt s) s.size (og s) n i) (λs i=>i<s.size) n
abbrev T9 (n:Nat):Prop:=G5 216 (λs i=>fU (bt s) s.size (bD (bt s) s.size (og s) n) ((s.size:Int).toNat+1) none i) (λs i=>i<=s.size) n
abbrev J6 (n:Nat):Prop:=G5 178 (λs i=>mv (bt s) s.size (fU (bt s) s.size (bD (bt s) s.size (og s) n) ((s.size:Int).toNat+1) none) i) (λs i=>i<=s.size) n
abbrev Yo (n:Nat):Prop:=G5 126 (λs i=>Aw (bt s) s.size (bD (bt s) s.size (og s) n) i) (λs i=>i<=s.size) n
def pg(f:FuncId)(E:ByteArray->Int->Except (Int×Int) (RL×Int))(need:ByteArray->Int->Prop)(n:Nat)(hen:∀ args w,(callFunc f args).run prog w=.ok (.enter f args) w)(h:G5 f E need n):vL prog f where
 T:=251
 kinds:=[]
 pre:=λfs as_ W S=>(∃ s i d op,fs=AA s i d op/\d+n=1000/\op.length=d/\0<=i/\need s i/\s.size<=140737488351232)/\bj W S
 premono:=λ_ _ _ _ _ _ hs h=>⟨h.1,h.2.mono hs⟩
 out:=λfs as_=>match fs with
  |[.val (.string s),.val (.int .i64 i),.row 3 1 d op]=>LP s d op (E s i)
  |_=>.pan [] undef
 enters:=hen
 ok:=by
  intro w S u fp us fs as_ ho hlt hS hu hp;obtain⟨⟨s,i,d,op,rfl,h1,h2,h3,h4,h5⟩,h6⟩:=hp
  match us,as_,hu with
  |[],[],_=>exact h s i d op u fp w S h1 h2 h3 h4 h5 h6 ho hlt hS
theorem wO(f:FuncId)(E:ByteArray->Int->Except (Int×Int) (RL×Int))(need:ByteArray->Int->Prop)(n:Nat)(hen)(h:G5 f E need n)(s:ByteArray)(i:Int)(d:Nat)(op:List Value)(as_:List AV) :
  (pg f E need n hen h).out [.val (.string s),.val (.int .i64 i),.row 3 1 d op] as_=LP s d op (E s i):=rfl
theorem wP(f:FuncId)(E:ByteArray->Int->Except (Int×Int) (RL×Int))(need:ByteArray->Int->Prop)(n:Nat)(hen)(h:G5 f E need n)(fs as_:List AV)(W:World)(S:Nat->Prop) :
  (pg f E need n hen h).pre fs as_ W S=((∃ s i d op,fs=AA s i d op/\d+n=1000/\op.length=d/\0<=i/\need s i/\s.size<=140737488351232)/\bj W S):=rfl
theorem qc(f:FuncId)(E:ByteArray->Int->Except (Int×Int) (RL×Int))(need:ByteArray->Int->Prop)(n:Nat)(hen)(h:G5 f E need n):(pg f E need n hen h).kinds=[]:=rfl
theorem HL(f:FuncId)(E:ByteArray->Int->Except (Int×Int) (RL×Int))(need:ByteArray->Int->Prop)(n:Nat)(hen)(h:G5 f E need n):(pg f E need n hen h).T=251:=rfl
theorem Ii(a:RL)(s:ByteArray)(i:Int)(d:Nat)(op:List Value)(as_:List AV):(pH a).out [.val (.string s),.val (.int .i64 i),.row 3 1 d op] as_=LP s d op (kz (bt s) s.size ((s.size:Int).toNat+1) a i):=rfl
theorem Ij(a:RL)(fs as_:List AV)(W:World)(S:Nat->Prop):(pH a).pre fs as_ W S=∃ s i d op x,fs=AA s i d op/\as_=[x]/\a.1<=2001/\0<=i/\i<=s.size/\s.size<=140737488351232:=rfl
theorem CT(a:RL):(pH a).kinds=[some (Sh.two,eu a)]:=rfl
theorem P9(a:RL):(pH a).T=251:=rfl
noncomputable def R5(G:Nat->Prop)(n:Nat)(h:J5 n)(a x y:RL):Env prog:=⟨λ| 127=>some eW.spec|179=>some jI.spec|128=>some gZ.spec|249=>some ((rl .eps).spec G)|180=>some ((jG .cat x y).spec G)|250=>some ((pH a).spec G)|251=>some ((pg _ _ _ n call251 h).spec G)|_=>none,λ_=>none,λ_ _=>none⟩
section
variable (G:Nat->Prop)(n:Nat)(h:J5 n)(a x y:RL)
theorem aiH:(R5 G n h a x y).sp 127=some eW.spec:=rfl
theorem aiJ:(R5 G n h a x y).sp 179=some jI.spec:=rfl
theorem aiI:(R5 G n h a x y).sp 128=some gZ.spec:=rfl
theorem aiL:(R5 G n h a x y).sp 249=some ((rl .eps).spec G):=rfl
theorem aiK:(R5 G n h a x y).sp 180=some ((jG .cat x y).spec G):=rfl
theorem aiM:(R5 G n h a x y).sp 250=some ((pH a).spec G):=rfl
theorem aiN:(R5 G n h a x y).sp 251=some ((pg _ _ _ n call251 h).spec G):=rfl
end
theorem HU{s:ByteArray}:∀ {n:Nat} {i:Int} {a b:CS} {j:Int},HT s n i a=.ok (b,j)->0<=i->i<j/\j<=s.size
 |0,i,a,b,j,h,_=>by cases h
 | n+1,i,a,b,j,h,h0=>by
  rw[HT]at h;split at h
  ·simp only[Except.ok.injEq,Prod.mk.injEq]at h;omega
  ·cases h1:od s i zM with
   |error e=>rw[h1]at h;cases h
   | ok p=>
    obtain⟨lo,k⟩:=p;rw[h1]at h;simp only at h;have g1:=tM h1 h0;split at h
    ·cases h2:od s (k+1) zM with
     |error e=>rw[h2]at h;cases h
     |ok p=>
      obtain⟨hi,l⟩:=p;rw[h2]at h;simp only at h;have g2:=tM h2 oM;split at h
      ·cases h
      ·have:=HU h oM;omega
    ·have:=HU h oM;omega
theorem K9{s:ByteArray}{i:Int}{a:CS}{j:Int}(h:jF s i=.ok (a,j))(h0:0<=i)(h1:i<s.size):i<j/\j<=s.size:=by
 rw[jF]at h;split at h
 ·simp only[Except.ok.injEq,Prod.mk.injEq]at h;omega
 ·split at h
  ·rw[jH]at h;cases hm:HT s (s.size+1) (if vV s (i+1) then i+1+1 else i+1) 0 with
   |error e=>rw[hm]at h;cases h
   |ok p=>
    obtain⟨b,k⟩:=p;rw[hm]at h;simp only[LC,Except.ok.injEq,Prod.mk.injEq]at h;have:=HU hm (by split<;>omega);have hle:i+1<=(if vV s (i+1) then i+1+1 else i+1):=by split<;>omega
    omega
  ·cases h2:od s i spc with
   |error e=>rw[h2]at h;cases h
   |ok p=>
    obtain⟨b,k⟩:=p;rw[h2]at h;simp only[alg,Except.ok.injEq,Prod.mk.injEq]at h;have:=tM h2 h0;omega
theorem Aj(s:ByteArray):x8 s.size (og s):=λi S j h0 h1 h=>by
 rw[og]at h;cases h2:jF s i with
 |error e=>rw[h2]at h;cases h
 |ok p=>
  obtain⟨a,k⟩:=p;rw[h2]at h;simp only[Except.ok.injEq,Prod.mk.injEq]at h;have:=K9 h2 h0 h1;omega
theorem Od{s:ByteArray}{n:Nat}(hn:n<=1000){i j:Int}{r:RL}(h0:0<=i)(hi:i<s.size)(he:¬ ia (bt s i))(hp:¬ bN (bt s i))(h:bD (bt s) s.size (og s) n i=.ok (r,j)):i<j/\j<=s.size/\r.1<=2001:=by
 have:=vO (c:=bt s) (Aj s) n i (jh 0) (List.replicate (1000-n) (jh 0)) h0 hi he hp (by simp;omega);rw[h]at this;obtain⟨h1,h2,t,rfl,_⟩:=this;exact⟨h1,h2,Am t⟩
theorem pG{s:ByteArray}:∀ {n:Nat} {r r' : RL} {i j:Int},kz (bt s) s.size n r i=.ok (r',j)->i<=s.size->r.1<=2001->i<=j/\j<=s.size/\r'.1<=2001
 |0,r,r',i,j,h,hi,hr=>by
  simp only[kz,Except.ok.injEq,Prod.mk.injEq]at h;obtain⟨rfl,rfl⟩:=h;exact⟨Int.le_refl _,hi,hr⟩
 | n+1,r,r',i,j,h,hi,hr=>by
  rw[kz]at h;split at h
  ·simp only[Except.ok.injEq,Prod.mk.injEq]at h;obtain⟨rfl,rfl⟩:=h;exact⟨Int.le_refl _,hi,hr⟩
  ·split at h
   ·have:=pG h oM (sH _);exact⟨oM,this.2⟩
   ·split at h
    ·have:=pG h oM (gB _ _ _);exact⟨oM,this.2⟩
    ·split at h
     ·have:=pG h oM (pn _);exact⟨oM,this.2⟩
     ·split at h
      ·cases hB:xY (bt s) s.size i with
       |error e=>rw[hB]at h;cases h
       |ok q=>
        obtain⟨m,k,l⟩:=q;rw[hB]at h;have hl:=Hj hB;have:=pG h oM (GG _ _ _ hr);exact⟨oM,this.2⟩
      ·simp only[Except.ok.injEq,Prod.mk.injEq]at h;obtain⟨rfl,rfl⟩:=h;exact⟨Int.le_refl _,hi,hr⟩
theorem aeV(o:Option RL)(p:RL)(hp:p.1<=2001):(BD o p).1<=2001:=by
 cases o with
 |none=>exact hp
 |some x=>exact gB _ _ _
structure RO where
 W:World
 bs:List Nat
 fo:Value
 o:Option RL
 i:Int
 n:Nat
def bK:=(ae @List.replicate_succ.{0} @List.replicate_zero.{0} @au @ab lx ly lA (ae di dj dk dm dB dD dF (ae dG mZ nc nf ng nh oH (ae oI oJ oK iH iI iJ iK (ae DW DX DY DZ D0 D1 D3 (ae D4 D5 D6 D7 D8 xD xE (ae xF xG xH xI Ei Ej Ek (ae El Em Eo Ep GU GV GW (ae @AA.eq_1 @pR.eq_1 @bf.eq_1 @aV @aw @aD @aF (ae @cP @fy @iU @iT @mh @ma @l9 (ae @tL @lp @lq @pF @rl.eq_1 @jG.eq_1 @tO (ae @b7 @wO @wP @qc @HL @Ii @Ij (ae @CT @P9 @aiH @aiJ @aiI @aiL @aiK (aa @aiM @aiN))))))))))))))
theorem Ta(n:Nat)(hA:J5 n):T9 n:=by
 intro s i0 d op u fp w S hdn hop h0 hi1 hs hesc ho hlt hS;have u0:=af.up w S fp;have e0:=hesc.mono (af.e7 w S fp hS);dsimp only;generalize hR:fU (bt s) s.size (bD (bt s) s.size (og s) n) ((s.size:Int).toNat+1) none i0=R
 refine du (nt:=41) S #[] [.cell 2 254] (by show 3<=7;omega) ho hlt func216 rfl rfl rfl ?_;refine vR Γ0 bK ?_;refine wR (R5 (af w S fp) n hA (b9 .eps) (b9 .eps) (b9 .eps)) bK ?_ ?_
 ·exact⟨rfl,u0⟩
 refine Wp.cO 32 (ev bK) (aX.refl _ _) λW0 bs0 cs hx0 hΦ=>?_
 obtain⟨fv,rfl,hg,hv1⟩:=cI hΦ;have u00:=u0.ext hx0;refine Wp.seq (Wp.block ?_)
 refine Wp.rm (λp:RO=>⟨10,eA [(0,.is (.own 0 0)),(2,.is (.own 8 0)),(3,.is (.own 40 0)),(4,.is (.v (.bool p.o.isSome)))],dS [(0,.cells 251 [.v (.string s),.v (.int .i64 p.i),.hd 3]),(3,.row 3 1 d (op.map .v)),(8,.cells 254 [.v (.int .i64 0),.v .nilFunc]),(40,.cells 254 [.v (.int .i64 ((yL p.o).1:Nat)),.v p.fo])]⟩)
  RO.W RO.bs (λp=>(0<=p.i/\p.i<=s.size)/\(yL p.o).1<=2001/\((s.size:Int)-p.i<p.n/\1<=p.n)/\bQ p.W (bJ (af w S fp) p.bs) p.fo (yL p.o).2/\fU (bt s) s.size (bD (bt s) s.size (og s) n) p.n p.o p.i=R) (λp=>p.n) ⟨W0,bs0,fv,none,i0,(s.size:Int).toNat+1⟩ rfl rfl ?_ ⟨⟨h0,hi1⟩,by show 1<=2001;omega,⟨by simp only;omega,by simp only;omega⟩,hg,hR⟩ ?_
 ·exact wM (λx=>.key x) (nu bK hv1 @yL.eq_1 @b9.eq_1 @Option.getD_none.{0})
 rintro⟨W1,bs1,fo,o,i,k⟩ ⟨⟨hi0,hiN⟩,hr,⟨hn,hn1⟩,hg,hR'⟩ hx1;simp only at hi0 hiN hr hn hn1 hg hR' hx1;dsimp only;obtain⟨k,rfl⟩:∃ m,k=m+1:=⟨k-1,oM⟩;have hx01:=hx0.trans hx1;have u1:=u0.ext hx01;have e1:=e0.mono hx01.dY;refine Wp.seq ?_
 refine wR (R5 (af w S fp) n hA (b9 .eps) (b9 .eps) (b9 .eps)) bK ?_ ?_
 ·first|trivial|omega|(simp[hs];done)|(simp[hs];omega)|(simp[hs]<;>omega)
 refine wC bK (λhc=>?_) (λhc=>?_)
 ·have hi:i<s.size:=by
   simp at hc;omega
  rw[fU,if_neg oM]at hR';refine wK ?_;refine Wp.block ?_;refine Wp.seq ?_;refine wR (R5 (af w S fp) n hA (b9 .eps) (b9 .eps) (b9 .eps)) bK ?_ ?_
  ·first|trivial|omega|(simp[hs];done)|(simp[hs];omega)|(simp[hs]<;>omega)
  refine Wp.block ?_
  refine ig ⟨30,eA [(0,.is (.own 0 0)),(2,.is (.own 8 0)),(3,.is (.own 40 0)),(4,.is (.v (.bool o.isSome))),(13,.is (.v (.int .u8 (bt s i)))),(14,.is (.v (.bool (decide (ia (bt s i))))))],dS [(0,.cells 251 [.v (.string s),.v (.int .i64 i),.hd 3]),(3,.row 3 1 d (op.map .v)),(8,.cells 254 [.v (.int .i64 0),.v .nilFunc]),(40,.cells 254 [.v (.int .i64 ((yL o).1:Nat)),.v fo])]⟩ ?_ ?_
  ·skip;refine vR Γ0 bK ?_;refine wC bK (λhc=>?_) (λhc=>?_)
   ·have e:decide (ia (bt s i))=true:=decide_eq_true (show ia (bt s i) from .inl (by simpa using hc));refine wK ?_;exact wM (λx=>.key x) (bp bK hc e)
   ·have hc1:=hc;refine vR Γ0 bK ?_;refine wC bK (λhc=>?_) (λhc=>?_)
    ·have e:decide (ia (bt s i))=true:=decide_eq_true (show ia (bt s i) from .inr (.inl (by simpa using hc)));refine wK ?_;exact wM (λx=>.key x) (bp bK hc e)
    ·have hc2:=hc;refine vR Γ0 bK ?_;refine wC bK (λhc=>?_) (λhc=>?_)
     ·have e:decide (ia (bt s i))=true:=decide_eq_true (show ia (bt s i) from .inr (.inr (.inl (by simpa using hc))));refine wK ?_;exact wM (λx=>.key x) (bp bK hc e)
     ·have e:decide (ia (bt s i))=decide (bt s i=41):=by
       have g1:¬ bt s i=124:=by simpa using hc1
       have g2:¬ bt s i=38:=by simpa using hc2
       have g3:¬ bt s i=45:=by simpa using hc
       rw[decide_eq_decide];unfold ia;omega
      refine vr Γ0 bK ?_;exact wM (λx=>.key x) (aa bK e)
  refine wC bK (λhc=>?_) (λhc=>?_)
  ·have he:ia (bt s i):=by simpa using hc
   rw[if_pos he]at hR';refine wR Γ0 bK ?_ ?_
   ·exact hg.one
   refine wZ bK ?_;rw[<- hR'];exact fX hg rfl ((ev (aa bK @aq))) dE
  ·have he:¬ ia (bt s i):=by simpa using hc
   rw[if_neg he]at hR'
   refine ig ⟨50,eA [(0,.is (.own 0 0)),(2,.is (.own 8 0)),(3,.is (.own 40 0)),(4,.is (.v (.bool o.isSome))),(20,.is (.v (.bool (decide (bN (bt s i))))))],dS [(0,.cells 251 [.v (.string s),.v (.int .i64 i),.hd 3]),(3,.row 3 1 d (op.map .v)),(8,.cells 254 [.v (.int .i64 0),.v .nilFunc]),(40,.cells 254 [.v (.int .i64 ((yL o).1:Nat)),.v fo])]⟩ ?_ ?_
   ·skip;refine vR Γ0 bK ?_;refine wC bK (λhc=>?_) (λhc=>?_)
    ·have e:decide (bN (bt s i))=true:=decide_eq_true (show bN (bt s i) from .inl (by simpa using hc));refine wK ?_;exact wM (λx=>.key x) (bp bK hc e)
    ·have hc1:=hc;refine vR Γ0 bK ?_;refine wC bK (λhc=>?_) (λhc=>?_)
     ·have e:decide (bN (bt s i))=true:=decide_eq_true (show bN (bt s i) from .inr (.inl (by simpa using hc)));refine wK ?_;exact wM (λx=>.key x) (bp bK hc e)
     ·have hc2:=hc;refine vR Γ0 bK ?_;refine wC bK (λhc=>?_) (λhc=>?_)
      ·have e:decide (bN (bt s i))=true:=decide_eq_true (show bN (bt s i) from .inr (.inr (.inl (by simpa using hc))));refine wK ?_;exact wM (λx=>.key x) (bp bK hc e)
      ·have e:decide (bN (bt s i))=decide (bt s i=123):=by
        have g1:¬ bt s i=42:=by simpa using hc1
        have g2:¬ bt s i=43:=by simpa using hc2
        have g3:¬ bt s i=63:=by simpa using hc
        rw[decide_eq_decide];unfold bN;omega
       refine vr Γ0 bK ?_;exact wM (λx=>.key x) (aa bK e)
   refine wC bK (λhc=>?_) (λhc=>?_)
   ·have hp:bN (bt s i):=by simpa using hc
    rw[if_pos hp]at hR';rw[<- hR',b7];refine Wp.dJ (R5 (af w S fp) n hA (b9 .eps) (b9 .eps) (b9 .eps)) aN (ev bK) ?_ ?_
    ·first|trivial|omega|(simp[hs];done)|(simp[hs];omega)|(simp[hs]<;>omega)
    refine qq ?_;exact⟨_,rfl⟩
   ·have hp:¬ bN (bt s i):=by simpa using hc
    rw[if_neg hp]at hR';refine wK ?_;cases hAt:bD (bt s) s.size (og s) n i with
    |error e=>
     obtain⟨c,j⟩:=e;rw[hAt]at hR';simp only at hR';rw[<- hR',b7];refine Wp.bo (R5 (af w S fp) n hA (b9 .eps) (b9 .eps) (b9 .eps)) aN (ev (aa bK hAt)) ?_ ?_
     ·exact⟨⟨⟨_,_,_,_,rfl,hdn,hop,hi0,hi,hs⟩,e1⟩,dE,sI⟩
     refine qq ?_;exact⟨_,rfl⟩
    | ok q=>
     obtain⟨a,j⟩:=q;have ha:=Od oM hi0 hi he hp hAt;rw[hAt]at hR';simp only at hR';cases hRp:kz (bt s) s.size ((s.size:Int).toNat+1) a j with
     |error e=>
      obtain⟨c,l⟩:=e;rw[hRp]at hR';simp only at hR';rw[<- hR',b7];have hRp' := hRp;rw[Int.toNat_natCast]at hRp';refine Wp.bo (R5 (af w S fp) n hA a (b9 .eps) (b9 .eps)) aN (ev (bp bK hAt hRp')) ?_ ?_
      ·exact⟨⟨⟨⟨_,_,_,_,rfl,hdn,hop,hi0,hi,hs⟩,e1⟩,dE,sI,u1⟩,⟨_,_,_,_,_,rfl,rfl,ha.2.2,oM,ha.2.1,hs⟩,dE,sI⟩
      refine qq ?_;exact⟨_,rfl⟩
     | ok q=>
      obtain⟨p,l⟩:=q;have hp1:=pG hRp ha.2.1 ha.2.2;rw[hRp]at hR';simp only at hR';have hRp' := hRp;rw[Int.toNat_natCast]at hRp';refine wR (R5 (af w S fp) n hA a (b9 .eps) (b9 .eps)) (bp bK hAt hRp') ?_ ?_
      ·exact⟨⟨⟨⟨_,_,_,_,rfl,hdn,hop,hi0,hi,hs⟩,e1⟩,dE,sI,u1⟩,⟨_,_,_,_,_,rfl,rfl,ha.2.2,oM,ha.2.1,hs⟩,dE,sI,u1⟩
      refine Wp.cO 431 (ev bK) (aX.refl _ _) λW2 bs2 cs hx2 hΦ=>?_
      obtain⟨fp2,rfl,hg2,hv2⟩:=cI hΦ;have hgo:=hg.mono hx2.dY;have u2:=u1.ext hx2
      refine Be (λp2:TI=>⟨70,eA [(0,.is (.own 0 0)),(2,.is (.own 8 0)),(3,.is (.own 40 0)),(5,.is (.own 432 0))],dS [(0,.cells 251 [.v (.string s),.v (.int .i64 l),.hd 3]),(3,.row 3 1 d (op.map .v)),(8,.cells 254 [.v (.int .i64 0),.v .nilFunc]),(40,.cells 254 [.v (.int .i64 ((yL o).1:Nat)),.v fo]),(432,.cells 254 [.v (.int .i64 ((BD o p).1:Nat)),.v p2.fo])]⟩) TI.W TI.bs
       (λp2=>bQ p2.W (bJ (af w S fp) p2.bs) p2.fo (BD o p).2) ?_ ?_
      ·skip;refine vR Γ0 bK ?_;refine wC bK (λhc=>?_) (λhc=>?_)
       ·obtain⟨x,rfl⟩:=Option.isSome_iff_exists.1 hc;refine Wp.more ?_;refine wr (R5 (af w S fp) n hA a x p) (bp bK hv2 @yL.eq_1) ?_ ?_
        ·exact⟨⟨⟨cm hgo,cm hg2⟩,⟨hr,hp1.2.2⟩,_,_,rfl⟩,u2⟩
        refine dn ?_;refine Pw.cO 472 (ev (aa bK hv2)) (aX.refl _ _) λW3 bs3 cs hx3 hΦ3=>?_
        obtain⟨fp3,rfl,hg3,hv3⟩:=cI hΦ3;refine Pw.here ?_;refine qq ?_;refine⟨⟨W3,bs3,fp3,0⟩,hg3,rfl,rfl,?_⟩;exact wM (λx=>if x=3 then .key 426 else .key x) (nu bK hv2 hv3 @BD.eq_1 @BD.eq_2)
       ·have ho2:o=none:=by cases o with|none=>rfl|some x=>cases hc
        subst ho2;refine wK ?_;refine⟨⟨W2,bs2,fp2,0⟩,hg2,rfl,rfl,?_⟩;exact wM (λx=>if x=3 then .key 426 else .key x) (fg bK hv2 @BD.eq_1 @BD.eq_2)
      rintro⟨W3,bs3,fo3,j3⟩ hg3 hx3;simp only at hg3 hx3;dsimp only;refine wr Γ0 bK ?_ ?_
      ·exact hg3.one
      refine⟨⟨W3,bs3,fo3,some (BD o p),l,k⟩,⟨by simp only;omega,aeV o p hp1.2.2,by simp only;omega,hg3,hR'⟩,by simp only;omega,rfl,rfl,?_⟩;exact wM (λx=>.key x) (aa bK @yL.eq_1)
 ·have hi:¬ i<s.size:=by
   simp at hc;omega
  rw[fU,if_pos hi]at hR';refine wE ?_;refine wR Γ0 bK ?_ ?_
  ·exact hg.one
  refine wZ bK ?_;rw[<- hR'];exact fX hg rfl ((ev (aa bK @aq))) dE
noncomputable def Γ48(G:Nat->Prop)(n:Nat)(h:T9 n)(x y:RL):Env prog:=⟨λ| 127=>some eW.spec|179=>some jI.spec|180=>some ((jG .and x y).spec G)|216=>some ((pg _ _ _ n call216 h).spec G)|_=>none,λ_=>none,λ_ _=>none⟩
noncomputable def Γ49(G:Nat->Prop)(n:Nat)(h:T9 n)(x y:RL):Env prog:=⟨λ| 127=>some eW.spec|179=>some jI.spec|180=>some ((jG .minus x y).spec G)|216=>some ((pg _ _ _ n call216 h).spec G)|_=>none,λ_=>none,λ_ _=>none⟩
noncomputable def Γ50(G:Nat->Prop)(n:Nat)(h:J6 n)(x y:RL):Env prog:=⟨λ| 127=>some eW.spec|179=>some jI.spec|180=>some ((jG .alt x y).spec G)|178=>some ((pg _ _ _ n call178 h).spec G)|_=>none,λ_=>none,λ_ _=>none⟩
def amp:FK:=⟨λ_ _ _=>True,λ_ _=>trivial⟩
def Bw:=(ae @List.replicate_succ.{0} @List.replicate_zero.{0} @au @ab lx ly lA (ae di dj dk dm dB dD dF (ae dG mZ nc nf ng nh DW (ae DX DY DZ D0 D1 D3 D4 (ae D5 D6 D7 D8 Tt Tu Tv (ae xD xE xF xG xH xI GU (ae GV GW @AA.eq_1 @pR.eq_1 @bf.eq_1 @aV @aw (ae @aD @aF @cP @fy @iU @iT @mh (ae @ma @l9 @tL @jG.eq_1 @tO @b7 @wO (oQ @wP @qc @HL @T6 @zR @zQ))))))))))
theorem Vw(na nb:Nat)(fa fb g:Value)(ha:na<=2001)(hb:nb<=2001)(h1:fa.oneCell' = true)(h2:fb.oneCell' = true)(h3:g.oneCell' = true)(hg:partsOf (.v g)=[.v g])(w:World)(S:Nat->Prop) :
  Calls prog 180 #[.agg #[.int .i64 (na:Nat),fa],.agg #[.int .i64 (nb:Nat),fb],g] w λe w' => lI w S e w' (.fact Sh.two amp):=by
 have ga:partsOf (.v (.agg #[.int .i64 (na:Nat),fa]))=[.v (.int .i64 (na:Nat)),.v fa]:=rfl;have gb:partsOf (.v (.agg #[.int .i64 (nb:Nat),fb]))=[.v (.int .i64 (nb:Nat)),.v fb]:=rfl;have w1:=TT ha hb;refine eV (nt:=16) S [.cell 6 254] func180 rfl rfl rfl ?_;refine vR Γ40 (fg Bw ga gb hg) ?_
 refine vR Γ40 (oQ Bw ga gb hg w1 @l7) ?_;refine Wp.cX 0 (ev (fg Bw ga gb hg)) (λE=>by simp only[ai,den,ga,gb,hg];exact rfl) λW1 bs1 b3 hx1 hb3 hn3 hc3=>?_
 refine Wp.cX 8 (ev (fg Bw ga gb hg)) (λE=>by simp only[ai,den,ga,gb,hg];exact rfl) λW2 bs2 b4 hx2 hb4 hn4 hc4=>?_
 refine Wp.cX 16 (ev (fg Bw ga gb hg)) (λE=>by simp only[ai,den,ga,gb,hg];exact rfl) λW3 bs3 b5 hx3 hb5 hn5 hc5=>?_
 refine wZ (oQ Bw ga gb hg w1 @l7) ?_;exact⟨[.int .i64 ((cE (1+na+nb):Nat):Int),.func (.func 220) #[] #[qe b5,qe b3,qe b4]],λE=>rfl,trivial⟩
def La:me prog 180 where
 kinds:=[none,none,none]
 pre:=λas_ _ _=>∃ (na nb:Nat) (fa fb:Value) (g:Jn),as_=[.val (.agg #[.int .i64 (na:Nat),fa]),.val (.agg #[.int .i64 (nb:Nat),fb]),.val g.v]/\na<=2001/\nb<=2001/\fa.oneCell' = true/\fb.oneCell' = true
 premono:=λ_ _ _ _ _ _ h=>h
 out:=λ_=>.fact Sh.two amp
 enters:=call180
 ok:=by
  intro w S us as_ hu hp;obtain⟨na,nb,fa,fb,g,rfl,ha,hb,h1,h2⟩:=hp
  match us,hu with
  |[u1,u2,u3],hu=>
   obtain⟨rfl,rfl,rfl,_⟩:=hu;exact Vw na nb fa fb g.v ha hb h1 h2 rfl rfl w S
noncomputable def Γ51(G:Nat->Prop)(n:Nat)(h:T9 n):Env prog:=⟨λ| 180=>some (La.spec G)|216=>some ((pg _ _ _ n call216 h).spec G)|_=>none,λ_=>none,λ_ _=>none⟩
noncomputable def Γ52(G:Nat->Prop)(n:Nat)(h:J6 n):Env prog:=⟨λ| 180=>some (La.spec G)|178=>some ((pg _ _ _ n call178 h).spec G)|_=>none,λ_=>none,λ_ _=>none⟩
section
variable (G:Nat->Prop)(n:Nat)(h:T9 n)(h' : J6 n)(x y:RL)
theorem ai1:(Γ51 G n h).sp 180=some (La.spec G):=rfl
theorem ai2:(Γ51 G n h).sp 216=some ((pg _ _ _ n call216 h).spec G):=rfl
theorem ai4:(Γ52 G n h').sp 180=some (La.spec G):=rfl
theorem ai3:(Γ52 G n h').sp 178=some ((pg _ _ _ n call178 h').spec G):=rfl
theorem aiP:(Γ48 G n h x y).sp 127=some eW.spec:=rfl
theorem aiQ:(Γ48 G n h x y).sp 179=some jI.spec:=rfl
theorem aiR:(Γ48 G n h x y).sp 180=some ((jG .and x y).spec G):=rfl
theorem aiS:(Γ48 G n h x y).sp 216=some ((pg _ _ _ n call216 h).spec G):=rfl
theorem aiT:(Γ49 G n h x y).sp 127=some eW.spec:=rfl
theorem aiU:(Γ49 G n h x y).sp 179=some jI.spec:=rfl
theorem aiV:(Γ49 G n h x y).sp 180=some ((jG .minus x y).spec G):=rfl
theorem aiW:(Γ49 G n h x y).sp 216=some ((pg _ _ _ n call216 h).spec G):=rfl
theorem aiX:(Γ50 G n h' x y).sp 127=some eW.spec:=rfl
theorem aiZ:(Γ50 G n h' x y).sp 179=some jI.spec:=rfl
theorem ai0:(Γ50 G n h' x y).sp 180=some ((jG .alt x y).spec G):=rfl
theorem aiY:(Γ50 G n h' x y).sp 178=some ((pg _ _ _ n call178 h').spec G):=rfl
end
theorem yU{s:ByteArray}{m:Nat}(hm:m<=1000){i j:Int}{r:RL}(h0:0<=i)(hi:i<=s.size)(h:fU (bt s) s.size (bD (bt s) s.size (og s) m) ((s.size:Int).toNat+1) none i=.ok (r,j)):i<=j/\j<=s.size/\r.1<=2001:=by
 have:=Il (Aj s) (vO (c:=bt s) (Aj s) m) ((s.size:Int).toNat+1) i (jh 0) (List.replicate (1000-m) (jh 0)) h0 hi oM (λh=>absurd rfl h) (by simp;omega);have e0:(rowOf (jh 0).row (jh 0).fac).map RT.val=none:=rfl;rw[e0,h]at this;obtain⟨h1,h2,_,row,fac,rfl,_⟩:=this;exact⟨h1,h2,Am _⟩
theorem Cm{s:ByteArray}{m:Nat}(hm:m<=1000){i j:Int}{r:RL}(h0:0<=i)(hi:i<=s.size)(h:mv (bt s) s.size (fU (bt s) s.size (bD (bt s) s.size (og s) m) ((s.size:Int).toNat+1) none) i=.ok (r,j)):i<=j/\j<=s.size/\r.1<=2001:=by
 have:=Co (Aj s) (vO (c:=bt s) (Aj s) m) i (jh 0) (List.replicate (1000-m) (jh 0)) h0 hi (by simp;omega) rfl rfl rfl;rw[h]at this;obtain⟨h1,h2,_,g,_,_,rfl,_⟩:=this;exact⟨h1,h2,Am _⟩
theorem FA{s:ByteArray}{m:Nat}(hm:m<=1000){i j:Int}{r:RL}(h0:0<=i)(hi:i<=s.size)(h:Aw (bt s) s.size (bD (bt s) s.size (og s) m) i=.ok (r,j)):i<=j/\j<=s.size/\r.1<=2001/\(j<s.size->bt s j=41):=by
 have:=Hb (Aj s) (vO (c:=bt s) (Aj s) m) i 0 (List.replicate (1000-m) (jh 0)) h0 hi (by simp;omega);rw[h]at this;obtain⟨h1,h2,h3,g,_,rfl,_⟩:=this;exact⟨h1,h2,Am _,h3⟩
def cp:=(ae Bw @ai1 @ai2 @ai4 @ai3 @La.eq_1 @CV.eq_1 (ae @aiP @aiQ @aiR @aiS @aiT @aiU @aiV (nu @aiW @aiX @aiZ @ai0 @aiY)))
theorem Gb(n:Nat)(hA:T9 n):J6 n:=by
 intro s i0 d op u fp w S hdn hop h0 hi1 hs hesc ho hlt hS;have u0:=af.up w S fp;have e0:=hesc.mono (af.e7 w S fp hS);dsimp only;unfold mv;refine du (nt:=39) S #[] [.cell 2 254] (by show 3<=7;omega) ho hlt func178 rfl rfl rfl ?_;refine vR Γ0 cp ?_
 cases hF:fU (bt s) s.size (bD (bt s) s.size (og s) n) ((s.size:Int).toNat+1) none i0 with
 |error e=>
  obtain⟨c,j⟩:=e;simp only;rw[b7];have hF' := hF;rw[Int.toNat_natCast]at hF';refine Wp.bo (Γ48 (af w S fp) n hA (b9 .eps) (b9 .eps)) aN (ev (aa cp hF')) ?_ ?_
  ·exact⟨⟨⟨_,_,_,_,rfl,hdn,hop,h0,hi1,hs⟩,e0⟩,dE,sI⟩
  refine qq ?_;exact⟨_,rfl⟩
 | ok q=>
  obtain⟨r0,j0⟩:=q;simp only;have hr0:=yU oM h0 hi1 hF;have hF' := hF;rw[Int.toNat_natCast]at hF';generalize hR:mw (bt s) s.size (fU (bt s) s.size (bD (bt s) s.size (og s) n) ((s.size:Int).toNat+1) none) ((s.size:Int).toNat+1) r0 j0=R
  refine wR (Γ48 (af w S fp) n hA (b9 .eps) (b9 .eps)) (aa cp hF') ?_ ?_
  ·exact⟨⟨⟨_,_,_,_,rfl,hdn,hop,h0,hi1,hs⟩,e0⟩,dE,sI,u0⟩
  refine Wp.cO 31 (ev cp) (aX.refl _ _) λW0 bs0 cs hx0 hΦ=>?_
  obtain⟨fv,rfl,hg,hv1⟩:=cI hΦ;have u00:=u0.ext hx0;refine Wp.seq (Wp.block ?_)
  refine Wp.rm (λp:RI=>⟨10,eA [(0,.is (.own 0 0)),(2,.is (.own 8 0)),(3,.is (.own 32 0))],dS [(0,.cells 251 [.v (.string s),.v (.int .i64 p.i),.hd 3]),(3,.row 3 1 d (op.map .v)),(8,.cells 254 [.v (.int .i64 0),.v .nilFunc]),(32,.cells 254 [.v (.int .i64 (p.r.1:Nat)),.v p.fo])]⟩)
   RI.W RI.bs (λp=>(0<=p.i/\p.i<=s.size)/\p.r.1<=2001/\((s.size:Int)-p.i<p.n/\1<=p.n)/\bQ p.W (bJ (af w S fp) p.bs) p.fo p.r.2/\mw (bt s) s.size (fU (bt s) s.size (bD (bt s) s.size (og s) n) ((s.size:Int).toNat+1) none) p.n p.r p.i=R) (λp=>p.n) ⟨W0,bs0,fv,r0,j0,(s.size:Int).toNat+1⟩ rfl rfl ?_ ⟨⟨by simp only;omega,hr0.2.1⟩,hr0.2.2,⟨by simp only;omega,by simp only;omega⟩,hg,hR⟩ ?_
  ·exact wM (λx=>if x=3 then .key 26 else .key x) (aa cp hv1)
  rintro⟨W1,bs1,fo,r,i,k⟩ ⟨⟨hi0,hiN⟩,hr,⟨hn,hn1⟩,hg,hR'⟩ hx1;simp only at hi0 hiN hr hn hn1 hg hR' hx1;dsimp only;obtain⟨k,rfl⟩:∃ m,k=m+1:=⟨k-1,oM⟩;have hx01:=hx0.trans hx1;have u1:=u0.ext hx01;have e1:=e0.mono hx01.dY;refine Wp.seq ?_;refine wR (Γ48 (af w S fp) n hA (b9 .eps) (b9 .eps)) cp ?_ ?_
  ·first|trivial|omega|(simp[hs];done)|(simp[hs];omega)|(simp[hs]<;>omega)
  refine wC cp (λhc=>?_) (λhc=>?_)
  ·have hi:i<s.size:=by
    simp at hc;omega
   rw[mw,if_neg oM]at hR';refine wK ?_;refine Wp.block ?_;refine wR (Γ48 (af w S fp) n hA (b9 .eps) (b9 .eps)) cp ?_ ?_
   ·first|trivial|omega|(simp[hs];done)|(simp[hs];omega)|(simp[hs]<;>omega)
   refine Wp.block ?_;refine vR Γ0 cp ?_;refine wC cp (λhc=>?_) (λhc=>?_)
   ·have h38:bt s i=38:=by simpa using hc
    rw[if_pos h38]at hR';have wi:IntKind.i64.wrap (i+1)=i+1:=ax oM oM;refine vR Γ0 (aa cp wi) ?_;cases hF2:fU (bt s) s.size (bD (bt s) s.size (og s) n) ((s.size:Int).toNat+1) none (i+1) with
    |error e=>
     obtain⟨c,j⟩:=e;rw[hF2]at hR';simp only at hR';rw[<- hR',b7];have hF2' := hF2;rw[Int.toNat_natCast]at hF2';refine Wp.rp (Γ51 (af w S fp) n hA) aN (ev (bp cp hF2' wi)) rfl (by kernel_rfl) ?_ ?_
     ·exact⟨⟨⟨⟨_,_,_,_,rfl,hdn,hop,oM,oM,hs⟩,e1⟩,dE,sI⟩,⟨r.1,0,fo,.nilFunc,.and,rfl,hr,oM,hg.one,rfl⟩,u1⟩
     refine qq ?_;exact⟨_,rfl⟩
    |ok q=>
     obtain⟨r2,j2⟩:=q;rw[hF2]at hR';simp only at hR';have hr2:=yU oM oM oM hF2;have hF2' := hF2;rw[Int.toNat_natCast]at hF2';refine Wp.more ?_;refine J3 (Γ48 (af w S fp) n hA r r2) (bp cp hF2' wi) ?_ ?_
     ·exact⟨⟨⟨⟨_,_,_,_,rfl,hdn,hop,oM,oM,hs⟩,e1⟩,dE,sI,u1⟩,⟨cm hg,⟨hr,hr2.2.2⟩,_,_,rfl⟩,u1⟩
     refine dn ?_;refine Pw.cO 224 (ev cp) (aX.refl _ _) λW2 bs2 cs hx2 hΦ2=>?_
     obtain⟨fv2,rfl,hg2,hv2⟩:=cI hΦ2;refine Pw.here ?_;refine qq ?_;refine⟨⟨W2,bs2,fv2,bg .and r r2,j2,k⟩,⟨by simp only;omega,gB _ _ _,by simp only;omega,hg2,hR'⟩,by simp only;omega,rfl,rfl,?_⟩;exact wM (λx=>if x=3 then .key 218 else .key x) (aa cp hv2)
   ·have h38:¬ bt s i=38:=by simpa using hc
    rw[if_neg h38]at hR';refine vR Γ0 cp ?_;refine wC cp (λhc=>?_) (λhc=>?_)
    ·have h45:bt s i=45:=by simpa using hc
     rw[if_pos h45]at hR';have wi:IntKind.i64.wrap (i+1)=i+1:=ax oM oM;refine vR Γ0 (aa cp wi) ?_;cases hF2:fU (bt s) s.size (bD (bt s) s.size (og s) n) ((s.size:Int).toNat+1) none (i+1) with
     |error e=>
      obtain⟨c,j⟩:=e;rw[hF2]at hR';simp only at hR';rw[<- hR',b7];have hF2' := hF2;rw[Int.toNat_natCast]at hF2';refine Wp.rp (Γ51 (af w S fp) n hA) aN (ev (bp cp hF2' wi)) rfl (by kernel_rfl) ?_ ?_
      ·exact⟨⟨⟨⟨_,_,_,_,rfl,hdn,hop,oM,oM,hs⟩,e1⟩,dE,sI⟩,⟨r.1,0,fo,.nilFunc,.minus,rfl,hr,oM,hg.one,rfl⟩,u1⟩
      refine qq ?_;exact⟨_,rfl⟩
     |ok q=>
      obtain⟨r2,j2⟩:=q;rw[hF2]at hR';simp only at hR';have hr2:=yU oM oM oM hF2;have hF2' := hF2;rw[Int.toNat_natCast]at hF2';refine Wp.more ?_;refine J3 (Γ49 (af w S fp) n hA r r2) (bp cp hF2' wi) ?_ ?_
      ·exact⟨⟨⟨⟨_,_,_,_,rfl,hdn,hop,oM,oM,hs⟩,e1⟩,dE,sI,u1⟩,⟨cm hg,⟨hr,hr2.2.2⟩,_,_,rfl⟩,u1⟩
      refine dn ?_;refine Pw.cO 240 (ev cp) (aX.refl _ _) λW2 bs2 cs hx2 hΦ2=>?_
      obtain⟨fv2,rfl,hg2,hv2⟩:=cI hΦ2;refine Pw.here ?_;refine qq ?_;refine⟨⟨W2,bs2,fv2,bg .minus r r2,j2,k⟩,⟨by simp only;omega,gB _ _ _,by simp only;omega,hg2,hR'⟩,by simp only;omega,rfl,rfl,?_⟩;exact wM (λx=>if x=3 then .key 234 else .key x) (aa cp hv2)
    ·have h45:¬ bt s i=45:=by simpa using hc
     rw[if_neg h45]at hR';refine wR Γ0 cp ?_ ?_
     ·exact hg.one
     refine wZ cp ?_;rw[<- hR'];exact fX hg rfl ((ev (aa cp @aq))) dE
  ·have hi:¬ i<s.size:=by
    simp at hc;omega
   rw[mw,if_pos hi]at hR';refine wE ?_;refine wR Γ0 cp ?_ ?_
   ·exact hg.one
   refine wZ cp ?_;rw[<- hR'];exact fX hg rfl ((ev (aa cp @aq))) dE
theorem Kf(n:Nat)(hA:J6 n):Yo n:=by
 intro s i0 d op u fp w S hdn hop h0 hi1 hs hesc ho hlt hS;have u0:=af.up w S fp;have e0:=hesc.mono (af.e7 w S fp hS);dsimp only;unfold Aw akf;refine du (nt:=26) S #[] [.cell 2 254] (by show 3<=7;omega) ho hlt func126 rfl rfl rfl ?_;refine vR Γ0 cp ?_
 cases hF:mv (bt s) s.size (fU (bt s) s.size (bD (bt s) s.size (og s) n) ((s.size:Int).toNat+1) none) i0 with
 |error e=>
  obtain⟨c,j⟩:=e;simp only;rw[b7];have hF' := hF;rw[Int.toNat_natCast]at hF';refine Wp.bo (Γ50 (af w S fp) n hA (b9 .eps) (b9 .eps)) aN (ev (aa cp hF')) ?_ ?_
  ·exact⟨⟨⟨_,_,_,_,rfl,hdn,hop,h0,hi1,hs⟩,e0⟩,dE,sI⟩
  refine qq ?_;exact⟨_,rfl⟩
 | ok q=>
  obtain⟨r0,j0⟩:=q;simp only;have hr0:=Cm oM h0 hi1 hF;have hF' := hF;rw[Int.toNat_natCast]at hF';generalize hR:Bp (bt s) s.size (mv (bt s) s.size (fU (bt s) s.size (bD (bt s) s.size (og s) n) ((s.size:Int).toNat+1) none)) ((s.size:Int).toNat+1) r0 j0=R
  refine wR (Γ50 (af w S fp) n hA (b9 .eps) (b9 .eps)) (aa cp hF') ?_ ?_
  ·exact⟨⟨⟨_,_,_,_,rfl,hdn,hop,h0,hi1,hs⟩,e0⟩,dE,sI,u0⟩
  refine Wp.cO 31 (ev cp) (aX.refl _ _) λW0 bs0 cs hx0 hΦ=>?_
  obtain⟨fv,rfl,hg,hv1⟩:=cI hΦ;have u00:=u0.ext hx0;refine Wp.seq (Wp.block ?_)
  refine Wp.rm (λp:RI=>⟨10,eA [(0,.is (.own 0 0)),(2,.is (.own 8 0)),(3,.is (.own 32 0))],dS [(0,.cells 251 [.v (.string s),.v (.int .i64 p.i),.hd 3]),(3,.row 3 1 d (op.map .v)),(8,.cells 254 [.v (.int .i64 0),.v .nilFunc]),(32,.cells 254 [.v (.int .i64 (p.r.1:Nat)),.v p.fo])]⟩)
   RI.W RI.bs (λp=>(0<=p.i/\p.i<=s.size)/\p.r.1<=2001/\((s.size:Int)-p.i<p.n/\1<=p.n)/\bQ p.W (bJ (af w S fp) p.bs) p.fo p.r.2/\Bp (bt s) s.size (mv (bt s) s.size (fU (bt s) s.size (bD (bt s) s.size (og s) n) ((s.size:Int).toNat+1) none)) p.n p.r p.i=R) (λp=>p.n) ⟨W0,bs0,fv,r0,j0,(s.size:Int).toNat+1⟩ rfl rfl ?_ ⟨⟨by simp only;omega,hr0.2.1⟩,hr0.2.2,⟨by simp only;omega,by simp only;omega⟩,hg,hR⟩ ?_
  ·exact wM (λx=>if x=3 then .key 26 else .key x) (aa cp hv1)
  rintro⟨W1,bs1,fo,r,i,k⟩ ⟨⟨hi0,hiN⟩,hr,⟨hn,hn1⟩,hg,hR'⟩ hx1;simp only at hi0 hiN hr hn hn1 hg hR' hx1;dsimp only;obtain⟨k,rfl⟩:∃ m,k=m+1:=⟨k-1,oM⟩;have hx01:=hx0.trans hx1;have u1:=u0.ext hx01;have e1:=e0.mono hx01.dY;refine Wp.seq ?_;refine wR (Γ50 (af w S fp) n hA (b9 .eps) (b9 .eps)) cp ?_ ?_
  ·first|trivial|omega|(simp[hs];done)|(simp[hs];omega)|(simp[hs]<;>omega)
  refine wC cp (λhc=>?_) (λhc=>?_)
  ·have hi:i<s.size/\bt s i=124:=by
    simp at hc;omega
   rw[Bp,if_pos hi]at hR';refine wK ?_;refine Wp.block ?_;have wi:IntKind.i64.wrap (i+1)=i+1:=ax oM oM;refine vR Γ0 (aa cp wi) ?_;cases hF2:mv (bt s) s.size (fU (bt s) s.size (bD (bt s) s.size (og s) n) ((s.size:Int).toNat+1) none) (i+1) with
   |error e=>
    obtain⟨c,j⟩:=e;rw[hF2]at hR';simp only at hR';rw[<- hR',b7];have hF2' := hF2;rw[Int.toNat_natCast]at hF2';refine Wp.rp (Γ52 (af w S fp) n hA) aN (ev (bp cp hF2' wi)) rfl (by kernel_rfl) ?_ ?_
    ·exact⟨⟨⟨⟨_,_,_,_,rfl,hdn,hop,oM,oM,hs⟩,e1⟩,dE,sI⟩,⟨r.1,0,fo,.nilFunc,.alt,rfl,hr,oM,hg.one,rfl⟩,u1⟩
    refine qq ?_;exact⟨_,rfl⟩
   |ok q=>
    obtain⟨r2,j2⟩:=q;rw[hF2]at hR';simp only at hR';have hr2:=Cm oM oM oM hF2;have hF2' := hF2;rw[Int.toNat_natCast]at hF2';refine Wp.more ?_;refine J3 (Γ50 (af w S fp) n hA r r2) (bp cp hF2' wi) ?_ ?_
    ·exact⟨⟨⟨⟨_,_,_,_,rfl,hdn,hop,oM,oM,hs⟩,e1⟩,dE,sI,u1⟩,⟨cm hg,⟨hr,hr2.2.2⟩,_,_,rfl⟩,u1⟩
    refine dn ?_;refine Pw.cO 232 (ev cp) (aX.refl _ _) λW2 bs2 cs hx2 hΦ2=>?_
    obtain⟨fv2,rfl,hg2,hv2⟩:=cI hΦ2;refine Pw.here ?_;refine qq ?_;refine⟨⟨W2,bs2,fv2,bg .alt r r2,j2,k⟩,⟨by simp only;omega,gB _ _ _,by simp only;omega,hg2,hR'⟩,by simp only;omega,rfl,rfl,?_⟩;exact wM (λx=>if x=3 then .key 226 else .key x) (aa cp hv2)
  ·have hi:¬ (i<s.size/\bt s i=124):=λh=>by
    apply Bool.eq_false_iff.1 hc;simp;omega
   rw[Bp,if_neg hi]at hR';refine wE ?_;refine wR Γ0 cp ?_ ?_
   ·exact hg.one
   refine wZ cp ?_;rw[<- hR'];exact fX hg rfl ((ev (aa cp @aq))) dE
def uf:EqSpec prog 39 where
 f:=λxs ys=>match xs,ys with
  |[.int .i64 a,.int .i64 b,.string s],[.int .i64 a',.int .i64 b',.string s']=>some (decide (a=a')&&decide (b=b')&&decide (s=s'))
  |_,_=>none
 ok:=by
  intro xs ys b w h;split at h
  ·rename_i a b s a' b' s';cases h;refine⟨?_,?_⟩
   ·simp[eqGuard,go_sem,Tryz.eqGuardType39]
   ·simp only[Op.equal,Op.maxDepth,run_equalIn_agg w 9999 39 _ _ Tryz.underlying39 Tryz.stoodInHeld39];have e:s.toList=s'.toList ↔ s=s' := by
     have:=KB s s';rw[Bool.eq_iff_iff]at this;simpa using this
    simp[go_sem,e];by_cases h1:a=a' <;> by_cases h2:b=b' <;> by_cases h3:s=s' <;> simp[h1,h2,h3]
  ·cases h
theorem uL(a b a' b' : Int)(s s' : ByteArray):uf.f [.int .i64 a,.int .i64 b,.string s] [.int .i64 a',.int .i64 b',.string s']=some (decide (a=a')&&decide (b=b')&&decide (s=s')):=rfl
def S6:a8 prog 263 where
 pre:=λW bs=>λ| [.val (.string s),.val (.int .i64 i)]=>s.size<=140737488351232/\bj W (Out bs)|_=>False
 res:=λW=>λ| [.val (.string s),.val (.int .i64 i)]=>w8 s i|_=>undef
 enters:=call263
 ok:=by
  intro W w bs us as_ hk hu hp;split at hp
  ·rename_i s i
   match us,hu with
   |[u0,u1],hu=>
    obtain⟨rfl,rfl,_⟩:=hu;exact abz s i w hp.1 (hp.2.gh hk sI)
  ·exact hp.elim
theorem WE(W:World)(s:ByteArray)(i:Int):S6.res W [.val (.string s),.val (.int .i64 i)]=w8 s i:=rfl
theorem WD(W:World)(bs:List Nat)(s:ByteArray)(i:Int):S6.pre W bs [.val (.string s),.val (.int .i64 i)]=(s.size<=140737488351232/\bj W (Out bs)):=rfl
noncomputable def N1(G:Nat->Prop)(t:Rx):Env prog:=⟨λ| 127=>some eW.spec|179=>some jI.spec|128=>some gZ.spec|263=>some S6.spec|249=>some ((rl t).spec G)|_=>none,λ| 39=>some uf|_=>none,λ_ _=>none⟩
noncomputable def Γ54(G:Nat->Prop)(n:Nat)(h:Yo n):Env prog:=⟨λ| 126=>some ((pg _ _ _ n call126 h).spec G)|_=>none,λ_=>none,λ_ _=>none⟩
section
variable (G:Nat->Prop)(t:Rx)(n:Nat)(h:Yo n)
theorem ai5:(N1 G t).sp 127=some eW.spec:=rfl
theorem ai7:(N1 G t).sp 179=some jI.spec:=rfl
theorem ai6:(N1 G t).sp 128=some gZ.spec:=rfl
theorem ai9:(N1 G t).sp 263=some S6.spec:=rfl
theorem ai8:(N1 G t).sp 249=some ((rl t).spec G):=rfl
theorem aee:(N1 G t).eqs 39=some uf:=rfl
theorem aja:(Γ54 G n h).sp 126=some ((pg _ _ _ n call126 h).spec G):=rfl
end
def dW:=(ae @List.replicate_succ.{0} @List.replicate_zero.{0} @au @ab lx ly Tr (ae Tw TS lA di dj dk dm (ae dB dD dF dG mZ nc nf (ae ng nh eK eL eM eN eO (ae eP JU JV JW JX oH oI (ae oJ oK vn vt vu vv vz (ae vA vB vC vD vE anc ane (ae anf ang iH iI iJ iK xz (ae xA xB xC DW DX DY DZ (ae D0 D1 D3 D4 D5 D6 D7 (ae D8 xD xE xF xG xH xI (ae xJ xK xL xM Tx Ty Tz (ae TA TB TC TD TF anh ani (ae @AA.eq_1 @pR.eq_1 @bf.eq_1 @aV @aw @aD @aF (ae @cP @fy @iU @iT @mh @ma @l9 (ae @tL @lp @lq @pF @rl.eq_1 @tO @b7 (ae @wO @wP @qc @HL @cT @nq @nr (ae @np @kK @re @dw @JZ @iZ @List.drop_nil.{0} (ae WE WD @ai5 @ai7 @ai6 @ai9 @ai8 (bp @aee @aja @uL))))))))))))))))))))
theorem Km(n:Nat)(hA:∀ m,n=m+1->Yo m):J5 n:=by
 intro s i d op u fp w S hdn hop h0 hi hs hesc ho hlt hS;have u0:=af.up w S fp;have e0:=hesc.mono (af.e7 w S fp hS);have e0' : bj w (Out fp):=e0.mono λb _ hb=>⟨rfl,hb.2⟩
 dsimp only;have wi:IntKind.i64.wrap (i+1)=i+1:=ax oM oM;refine du (nt:=108) S #[] [.cell 2 254] (by show 3<=7;omega) ho hlt func251 rfl rfl rfl ?_;refine vR Γ0 dW ?_;refine Wp.seq ?_;refine wR (N1 (af w S fp) .eps) dW ?_ ?_
 ·first|trivial|omega|(simp[hs];done)|(simp[hs];omega)|(simp[hs]<;>omega)
 refine wC dW (λhc=>?_) (λhc=>?_)
 ·have h40:¬ bt s i=40:=by simpa using hc
  have hL:bD (bt s) s.size (og s) n i=wI (og s) i:=by
   cases n with
   |zero=>rw[bD,if_neg h40]
   |succ n=>rw[bD,if_neg h40]
  rw[hL];have hre:w8 s i=match jF s i with
    |.error j=>uC 10 0 0 j
    |.ok (a,j)=>uC 0 a j 0:=by
   rw[w8,if_neg oM];cases jF s i<;>rfl
  cases hI:jF s i with
  | error j=>
   rw[hI]at hre;simp only[uC]at hre;have hE:wI (og s) i=.error (10,j):=by rw[wI,og,hI]
   rw[hE,b7];refine kT (N1 (af w S fp) .eps) (aa dW hre) ?_ ?_
   ·exact⟨hs,e0'⟩
   refine Wp.seq ?_;refine wR (N1 (af w S fp) .eps) (aa dW hre) ?_ ?_
   ·first|trivial|omega|(simp[hs];done)|(simp[hs];omega)|(simp[hs]<;>omega)
   refine wC dW (λhc=>?_) (λhc=>?_)
   ·skip;refine Wp.dJ (N1 (af w S fp) .eps) aN (ev (aa dW hre)) ?_ ?_
    ·first|trivial|omega|(simp[hs];done)|(simp[hs];omega)|(simp[hs]<;>omega)
    refine qq ?_;exact⟨_,rfl⟩
   ·exfalso;simp at hc
  | ok q=>
   obtain⟨a,j⟩:=q;have hj:=K9 hI h0 hi;rw[hI]at hre;simp only[uC]at hre;have hE:wI (og s) i=.ok (b9 (.cls a),j):=by rw[wI,og,hI]
   rw[hE,tO];refine kT (N1 (af w S fp) .eps) (aa dW hre) ?_ ?_
   ·exact⟨hs,e0'⟩
   refine Wp.seq ?_;refine wR (N1 (af w S fp) .eps) (aa dW hre) ?_ ?_
   ·first|trivial|omega|(simp[hs];done)|(simp[hs];omega)|(simp[hs]<;>omega)
   refine wC dW (λhc=>?_) (λhc=>?_)
   ·exfalso;simp at hc
   ·refine wK ?_;refine vR Γ0 dW ?_;refine wR (N1 (af w S fp) (.cls a)) dW ?_ ?_
    ·exact⟨rfl,u0⟩
    refine Wp.cO 272 (ev dW) (aX.refl _ _) λW1 bs1 cs hx1 hΦ=>?_
    obtain⟨fv,rfl,hg,hv1⟩:=cI hΦ;refine wZ (aa dW hv1) ?_;exact fX hg rfl ((ev (aa dW @aq))) dE
 ·have h40:bt s i=40:=by simpa using hc
  refine wK ?_;refine Wp.seq ?_;refine vR Γ0 dW ?_;refine wC dW (λhc=>?_) (λhc=>?_)
  ·have hd:1000<=d:=by
    simp at hc;omega
   obtain rfl:n=0:=oM;rw[bD,if_pos h40,b7];refine Wp.dJ (N1 (af w S fp) .eps) aN (ev dW) ?_ ?_
   ·first|trivial|omega|(simp[hs];done)|(simp[hs];omega)|(simp[hs]<;>omega)
   refine qq ?_;exact⟨_,rfl⟩
  ·have hd:¬ 1000<=d:=by
    simp at hc;omega
   obtain⟨n,rfl⟩:∃ m,n=m+1:=⟨n-1,oM⟩;have hA' := hA n rfl;rw[bD,if_pos h40];refine wK ?_;have hap:List.map SV.v op++[SV.v (.int .i64 i)]=List.map SV.v (op++[.int .i64 i]):=by simp
   refine kT Γ0 dW ?_ ?_
   ·unfold maxLen;omega
   refine vR Γ0 (aa dW wi) ?_;have hlen:(op++[Value.int .i64 i]).length=d+1:=by simp[hop]
   cases hF:Aw (bt s) s.size (bD (bt s) s.size (og s) n) (i+1) with
   |error e=>
    obtain⟨c,j⟩:=e;rw[yj,b7];refine Wp.bo (Γ54 (af w S fp) n hA') aN (ev (fg dW hF wi hap)) ?_ ?_
    ·exact⟨⟨⟨_,_,_,_,rfl,oM,hlen,oM,oM,hs⟩,e0⟩,dE,sI⟩
    refine qq ?_;exact⟨_,rfl⟩
   | ok q=>
    obtain⟨r,j⟩:=q;have hr:=FA oM oM oM hF;have wd:IntKind.i64.wrap (((d+1:Nat):Int)-1)=((d:Nat):Int):=wW;have htk:List.take d (List.map SV.v (op++[Value.int .i64 i]))=List.map SV.v op:=by
     rw[<- List.map_take,<- hop,List.take_left]
    have hix:(List.map SV.v (op++[Value.int .i64 i])).getD d (.v undef)=.v (.int .i64 i):=by
     rw[<- hop];simp
    refine wR (Γ54 (af w S fp) n hA') (fg dW hF wi hap) ?_ ?_
    ·exact⟨⟨⟨_,_,_,_,rfl,oM,hlen,oM,oM,hs⟩,e0⟩,dE,sI,u0⟩
    refine Wp.cO 279 (ev dW) (aX.refl _ _) λW1 bs1 cs hx1 hΦ=>?_
    obtain⟨fv,rfl,hg,hv1⟩:=cI hΦ;refine Wp.seq ?_;refine wR (N1 (af w S fp) .eps) (aa dW hap) ?_ ?_
    ·first|trivial|omega|(simp[hs];done)|(simp[hs];omega)|(simp[hs]<;>omega)
    refine wC dW (λhc=>?_) (λhc=>?_)
    ·have hj:¬ j<s.size:=by
      simp at hc;omega
     rw[yj,if_pos hj,b7];refine Wp.rp (N1 (af w S fp) .eps) aN (ev (fg dW hap wd hix)) rfl (by kernel_rfl) ?_ ?_
     ·exact⟨⟨_,rfl⟩,⟨oM,oM⟩,by simp[hop],dE,sI⟩
     refine qq ?_;exact⟨_,rfl⟩
    ·have hj:j<s.size:=by
      simp at hc;omega
     have wj:IntKind.i64.wrap (j+1)=j+1:=ax oM oM;rw[yj,if_neg oM,tO];refine wK ?_;refine vR Γ0 (aa dW wj) ?_;refine kT Γ0 (bp dW wd htk) ?_ ?_
     ·exact⟨⟨_,rfl⟩,oM,oM⟩
     refine wR Γ0 (aa dW hv1) ?_ ?_
     ·exact hg.one
     refine wZ (aa dW hv1) ?_;exact fX hg rfl ((ev (aa dW @aq))) dE
theorem levels:∀ n,J5 n
 |0=>Km 0 λm h=>by omega
 |n+1=>Km (n+1) λm h=>by
  obtain rfl:n=m:=oM;exact Kf n (Gb n (Ta n (levels n)))
theorem Ke(n:Nat):Yo n:=Kf n (Gb n (Ta n (levels n)))
noncomputable def Γ55(G:Nat->Prop):Env prog:=⟨λ| 127=>some eW.spec|128=>some gZ.spec|126=>some ((pg _ _ _ 1000 call126 (Ke 1000)).spec G)|f=>O7 0 (AY 0) f,λ_=>none,λ_ _=>none⟩
theorem ajc(G:Nat->Prop):(Γ55 G).sp 127=some eW.spec:=rfl
theorem ajd(G:Nat->Prop):(Γ55 G).sp 128=some gZ.spec:=rfl
theorem ajb(G:Nat->Prop):(Γ55 G).sp 126=some ((pg _ _ _ 1000 call126 (Ke 1000)).spec G):=rfl
def iS:=(ae @List.replicate_succ.{0} @List.replicate_zero.{0} @au @ab lx ly Tr (ae Tw TS lA di dj dk dm (ae dB dD dF dG eK eL eM (ae eN eO eP JU JV JW JX (ae oH oI oJ oK vn vt vu (ae vv vz vA vB vC vD vE (ae iH iI iJ iK DW DX DY (ae DZ D0 D1 D3 D4 D5 D6 (ae D7 D8 Tt Tu Tv xD xE (ae xF xG xH xI @AA.eq_1 @pR.eq_1 @bf.eq_1 (ae @aV @aw @aD @aF @cP @fy @iU (ae @iT @mh @lp @lq @pF @tO @b7 (ae @wO @wP @qc @HL @σR.eq_1 @σL.eq_1 @mq.eq_1 (ae @mq.eq_2 @r8.eq_1 @r8.eq_2 @ajc @ajd @ajb @F3 @F0))))))))))))))
noncomputable def YZ:CatchC prog 125 where
 Ts:=[151,39]
 enters:=call125
 pre:=λvss pv=>(∃ a f g h,vss=[[a],[f,g,h]])/\∃ c i t,pv=.iface 39 (pR c i t)
 out:=λvss pv=>[[.nilIface],match pv with|.iface _ (.agg x)=>x.toList|_=>[]]
 pO:=λvss pv=>[.nilIface,match pv with|.iface _ x=>x|_=>undef]
 vals_ok:=by
  rintro vss pv ⟨_,c,i,t,rfl⟩
  refine⟨.inr ⟨by simp only[iV,Op.operands,Value.cells,σ0,σB,Nat.reduceEqDiff,Nat.reduceAdd,Nat.reduceMul,Nat.reduceLT,Nat.reduceLeDiff,Nat.reduceBEq,av,Int.reduceToNat,Int.reduceLT,Int.reduceLE,Nat.reduceDiv,Nat.reduceMod,Nat.reduceSub,Int.reducePow,Nat.reducePow,σP,σB3,iS],rfl⟩,.inl ⟨by simp only[iV,Op.operands,Value.cells,σ0,σB,Nat.reduceEqDiff,Nat.reduceAdd,Nat.reduceMul,Nat.reduceLT,Nat.reduceLeDiff,Nat.reduceBEq,av,Int.reduceToNat,Int.reduceLT,Int.reduceLE,Nat.reduceDiv,Nat.reduceMod,Nat.reduceSub,Int.reducePow,Nat.reducePow,σP,σB3,iS]<;>rfl,by simp only[iV,Op.operands,Value.cells,σ0,σB,Nat.reduceEqDiff,Nat.reduceAdd,Nat.reduceMul,Nat.reduceLT,Nat.reduceLeDiff,Nat.reduceBEq,av,Int.reduceToNat,Int.reduceLT,Int.reduceLE,Nat.reduceDiv,Nat.reduceMod,Nat.reduceSub,Int.reducePow,Nat.reducePow,σP,σB3,iS],rfl⟩,trivial⟩
 quiet:=λw us hl=>by
  match us,hl with
  | [u0,u1],_=>
   refine lR (nt:=8) w _ func125 rfl rfl oM oM rfl ?_;refine vR Γ0 iS ?_;refine wC iS (λhc=>?_) (λhc=>?_)
   ·simp at hc
   ·refine wK ?_;simp only[iV,Op.operands,Value.cells,σ0,σB,Nat.reduceEqDiff,Nat.reduceAdd,Nat.reduceMul,Nat.reduceLT,Nat.reduceLeDiff,Nat.reduceBEq,av,Int.reduceToNat,Int.reduceLT,Int.reduceLE,Nat.reduceDiv,Nat.reduceMod,Nat.reduceSub,Int.reducePow,Nat.reducePow,σP,σB3,nE,gr,kU,iQ,iS]
    done
 caught:=λw us bl vss pv hl hn hlt hp=>by
  obtain⟨⟨a,f,g,h,rfl⟩,k,i,t,rfl⟩:=hp;have h3:=hl.len.1;refine kL (nt:=8) func125 rfl rfl oM oM ?_ hl hn hlt ?_ ?_
  ·rw[h3];rfl
  ·rw[h3];decide
  intro us _;refine vR Γ0 iS ?_;refine wC iS (λhc=>?_) (λhc=>?_)
  ·skip;refine vrD Γ0 (aa iS @pR.eq_1) ?_;refine wS iS ?_;exact⟨rfl,rfl,trivial⟩
  ·cases hc
def pA(s:ByteArray):Except (Int×Int) Rx:=CF (bt s) s.size (og s)
def uW:Except (Int×Int) Rx->Value
 |.ok t=>.tuple #[ay t,pR 0 0 ⟨#[]⟩]
 |.error (c,j)=>.tuple #[.nilIface,pR c j ⟨#[]⟩]
theorem Wf(s:ByteArray)(w:World)(hs:s.size<=140737488351232)(hg:bj w (Out [])) :
  Calls prog 71 #[.string s] w λe w' => e=.returned (uW (pA s))/\an w [] w' := by
 have u0:Up (λ_=>True) w []:=Up.true _ _;have e0:bj w (bJ (λ_=>True) []):=hg.mono λb _ hb=>⟨rfl,trivial,hb⟩
 refine zP (nt:=33) func71 rfl rfl ?_;refine iR.seq' (rs:=[.cell 2 151,.cell 3 39]) rfl ?_;refine vr Γ0 iS ?_;refine iR.seq' (rs:=[.cell 2 151,.cell 3 39]) rfl ?_;refine vR Γ0 iS ?_;refine wC iS (λhc=>?_) (λhc=>?_)
 ·have hb:1048576<(s.size:Int):=by simpa using hc
  have he:pA s=.error (1,0):=by rw[pA,CF,if_pos hb]
  rw[he];refine vR Γ0 iS ?_;refine wZ iS ?_;exact λE=>rfl
 ·have hb:¬ 1048576<(s.size:Int):=by simpa using hc
  have he:pA s=UQ s.size (alts (bt s) s.size (og s) 1000 0):=by rw[pA,CF,if_neg hb]
  refine wK ?_;refine iR.Hr (rs:=[.cell 2 151,.cell 3 39]) rfl YZ [2,3] [0,8] rfl dE rfl dE rfl rfl ?_ ?_ λus hus=>?_
  ·rintro p hp;simp only[List.zip_cons_cons,List.zip_nil_right,List.mem_cons,List.not_mem_nil,or_false]at hp;rcases hp with rfl|rfl<;>rfl
  ·rintro k hk;simp only[List.mem_cons,List.not_mem_nil,or_false]at hk;rcases hk with rfl|rfl<;>exact⟨_,_,rfl⟩
  refine vR Γ0 iS ?_
  match us,hus with
  |[u0',u1'],_=>
  refine Wp.AN (σ' := ⟨20,eA [(2,.is (.own 0 0)),(3,.is (.own 8 0)),(4,.is (.own 72 0))],dS [(0,.cells 151 [.v .nilIface]),(8,.cells 39 [.v (.int .i64 0),.v (.int .i64 0),.v (.string ⟨#[]⟩)]),(72,.cells 251 [.v (.string s),.v (.int .i64 0),.hd 88]),(88,.row 3 1 0 [])]⟩) ?_ ?_
  ·exact wM (λx=>if x=88 then .nil else .key x) iS
  have hal:alts (bt s) s.size (og s) 1000 0=Aw (bt s) s.size (bD (bt s) s.size (og s) 1000) 0:=rfl;rw[hal]at he;cases hF:Aw (bt s) s.size (bD (bt s) s.size (og s) 1000) 0 with
  |error e=>
   obtain⟨c,j⟩:=e;rw[hF]at he;simp only[UQ]at he;rw[he];refine Wp.bo (Γ55 (λ_=>True)) aN (ev (aa iS hF)) ?_ ?_
   ·exact⟨⟨⟨_,_,_,_,rfl,rfl,rfl,oM,sI,hs⟩,e0⟩,dE,sI⟩
   refine qq ?_;refine wS iS ?_;refine⟨.iface 39 (pR c j ⟨#[]⟩),[[.nilIface],[.int .i64 0,.int .i64 0,.string ⟨#[]⟩]],rfl,⟨?_,?_,?_,?_,trivial⟩,⟨⟨_,_,_,_,rfl⟩,c,j,⟨#[]⟩,rfl⟩,λE=>rfl⟩
   all_goals rfl
  | ok q=>
   obtain⟨r,j⟩:=q;have hr:=FA (s:=s) (m:=1000) oM oM sI hF;rw[hF]at he;simp only[UQ]at he;refine wR (Γ55 (λ_=>True)) (aa iS hF) ?_ ?_
   ·exact⟨⟨⟨_,_,_,_,rfl,rfl,rfl,oM,sI,hs⟩,e0⟩,dE,sI,u0⟩
   refine Wp.cO 175 (ev iS) (aX.refl _ _) λW1 bs1 cs hx1 hΦ=>?_
   obtain⟨fv,rfl,hg1,hv1⟩:=cI hΦ;refine Wp.seq ?_;refine wR (Γ55 (λ_=>True)) iS ?_ ?_
   ·first|trivial|omega|(simp[hs];done)|(simp[hs];omega)|(simp[hs]<;>omega)
   refine wC iS (λhc=>?_) (λhc=>?_)
   ·have hj:j<s.size:=by
     simp at hc;omega
    rw[if_pos hj]at he;rw[he];refine Wp.dJ (Γ55 (λ_=>True)) aN (ev iS) ?_ ?_
    ·first|trivial|omega|(simp[hs];done)|(simp[hs];omega)|(simp[hs]<;>omega)
    refine qq ?_;refine wS iS ?_;refine⟨.iface 39 (pR 20 j ⟨#[]⟩),[[.nilIface],[.int .i64 0,.int .i64 0,.string ⟨#[]⟩]],rfl,⟨?_,?_,?_,?_,trivial⟩,⟨⟨_,_,_,_,rfl⟩,20,j,⟨#[]⟩,rfl⟩,λE=>rfl⟩
    all_goals rfl
   ·have hj:¬ j<s.size:=by
     simp at hc;omega
    rw[if_neg hj]at he;refine wK ?_;refine Wp.seq ?_;refine vR Γ0 (aa iS hv1) ?_;refine wC iS (λhc=>?_) (λhc=>?_)
    ·have hz:2000<r.1:=by
      simp at hc;omega
     rw[if_pos hz]at he;rw[he];refine vR Γ0 iS ?_;refine wZ iS ?_;exact λE=>rfl
    ·have hz:¬ 2000<r.1:=by
      simp at hc;omega
     rw[if_neg hz]at he;rw[he];obtain⟨f,cap,rfl,hf⟩:=hg1.shape;obtain⟨cap,rfl⟩:∃ l:List Value,cap=l.toArray:=⟨cap.toList,sI⟩;have hgr:=ml hg1;have hsp:=xW (dp r.2+1) (AY _) f hf;refine wK ?_;refine wR (Γ43 (dp r.2+1) (AY _)) (EL iS hsp hgr @q9 hv1 @cf @aM) ?_ ?_
     ·exact⟨⟨cap,r.2,rfl,hg1.mono λb _ h=>⟨rfl,h.2⟩,oM⟩,aM _⟩
     refine wT ?_
     simp only[iV,Op.operands,Value.cells,σ0,σB,Nat.reduceEqDiff,Nat.reduceAdd,Nat.reduceMul,Nat.reduceLT,Nat.reduceLeDiff,Nat.reduceBEq,av,Int.reduceToNat,Int.reduceLT,Int.reduceLE,Nat.reduceDiv,Nat.reduceMod,Nat.reduceSub,Int.reducePow,Nat.reducePow,σP,σB3,nE,gr,kU,iQ,iS,kU,cf,aM,fQ (aM _)]
     exact λE=>rfl
def H6:a8 prog 71 where
 pre:=λW bs=>λ| [.val (.string s)]=>s.size<=140737488351232/\bj W (Out bs)|_=>False
 res:=λW=>λ| [.val (.string s)]=>uW (pA s)|_=>undef
 enters:=call71
 ok:=by
  intro W w bs us as_ hk hu hp;split at hp
  ·rename_i s
   match us,hu with
   |[u0],hu=>
    obtain⟨rfl,_⟩:=hu;exact Wf s w hp.1 (hp.2.gh hk sI)
  ·exact hp.elim
theorem CE(W:World)(s:ByteArray):H6.res W [.val (.string s)]=uW (pA s):=rfl
theorem CD(W:World)(bs:List Nat)(s:ByteArray):H6.pre W bs [.val (.string s)]=(s.size<=140737488351232/\bj W (Out bs)):=rfl
def uP(q:ByteArray)(b:Int):Bool:=decide (0<=B5 q b)
theorem alw:(⟨#[40,41,91,93,123,125,124,38,45,42,43,63,46,92,47,94]⟩:ByteArray)=spc:=rfl
theorem akp:(⟨#[92,93,91,45,94,47]⟩:ByteArray)=zM:=rfl
def blF(f:Nat->Bool):List Value:=(List.range 256).map λi=>.bool (f i)
theorem Hg(f:Nat->Bool):(blF f).length=256:=by simp[blF]
structure MI where
 n:Nat
 i:Int
 a:CS
structure Fm where
 place:Int
 alt:Int
 meet:Int
 sgn:Int
 row:Int
 fac:Int
def Fm.pO(f:Fm):List Value:=[.int .i64 f.place,.int .i64 f.alt,.int .i64 f.meet,.int .u8 f.sgn,.int .i64 f.row,.int .i64 f.fac]
def LL(i:Int):Fm:=⟨i,-1,-1,0,-1,-1⟩
structure Nd where
 op:Int
 set:CS
 a:Int
 b:Int
 m:Int
 n:Int
def Nd.pO(d:Nd):List Value:=.int .i64 d.op::(blF d.set.getLsbD++[.int .i64 d.a,.int .i64 d.b,.int .i64 d.m,.int .i64 d.n])
def Uk(l:List Nd):List Value:=l.flatMap Nd.pO
theorem Nd.xO(d:Nd):d.pO.length=261:=by simp[Nd.pO,Hg]
theorem aey(l:List Nd):(Uk l).length=l.length*261:=by
 induction l with
 |nil=>rfl
 |cons d r ih=>
  have:Uk (d::r)=d.pO++Uk r:=rfl;rw[this,List.length_append,ih,Nd.xO,List.length_cons];omega
def rn(op a b:Int):Nd:=⟨op,0,a,b,0,0⟩
end
section
def iP(ar:List Nd)(f:Fm):List Nd×Fm:=
 if f.fac<0 then (ar,f)
 else if f.row<0 then (ar,{ f with row:=f.fac,fac:=-1 })
 else (ar++[rn 2 f.row f.fac],{ f with row:=ar.length,fac:=-1 })
def abH(ar:List Nd)(f:Fm):List Nd×Fm:=
 if f.row<0 then (ar++[rn 0 0 0],{ f with row:=ar.length }) else (ar,f)
def SM(ar:List Nd)(f:Fm):List Nd×Fm:=
 if f.meet<0 then (ar,{ f with meet:=f.row,row:=-1 })
 else if f.sgn=38 then (ar++[rn 5 f.meet f.row],{ f with meet:=ar.length,row:=-1 })
 else (ar++[rn 6 f.meet f.row],{ f with meet:=ar.length,row:=-1 })
def z6(ar:List Nd)(f:Fm):List Nd×Fm:=
 SM (abH (iP ar f).1 (iP ar f).2).1 (abH (iP ar f).1 (iP ar f).2).2
def ajq(ar:List Nd)(f:Fm):List Nd×Fm:=
 if f.alt<0 then (ar,{ f with alt:=f.meet,meet:=-1 })
 else (ar++[rn 3 f.alt f.meet],{ f with alt:=ar.length,meet:=-1 })
def kn(ar:List Nd)(f:Fm):List Nd×Fm:=ajq (z6 ar f).1 (z6 ar f).2
def PF(m n:Int):Prop:=(m=-2/\n=-1)\/(0<=m/\m<=255/\n<=255/\(n=-1\/(0<=n/\m<=n)))
inductive NM (ts:List RT):Nd->RT->Prop where
 |eps (d:Nd):d.op=0->d.set=0->NM ts d .eps
 |cls (d:Nd):d.op=1->NM ts d (.cls d.set)
 |cat (d:Nd) (a b:RT):d.op=2->0<=d.a->ts[d.a.toNat]?=some a->0<=d.b->ts[d.b.toNat]?=some b->NM ts d (.cat a b)
 |alt (d:Nd) (a b:RT):d.op=3->0<=d.a->ts[d.a.toNat]?=some a->0<=d.b->ts[d.b.toNat]?=some b->NM ts d (.alt a b)
 |and (d:Nd) (a b:RT):d.op=5->0<=d.a->ts[d.a.toNat]?=some a->0<=d.b->ts[d.b.toNat]?=some b->NM ts d (.and a b)
 |minus (d:Nd) (a b:RT):d.op=6->0<=d.a->ts[d.a.toNat]?=some a->0<=d.b->ts[d.b.toNat]?=some b->NM ts d (.minus a b)
 |rep (d:Nd) (a:RT):d.op=7->0<=d.a->ts[d.a.toNat]?=some a->PF d.m d.n->NM ts d (.rep a d.m d.n)
inductive AR:List Nd->List RT->Prop where
 |nil:AR [] []
 |snoc {ar ts d t}:AR ar ts->NM ts d t->AR (ar++[d]) (ts++[t])
theorem AR.len{ar:List Nd}{ts:List RT}(h:AR ar ts):ts.length=ar.length:=by
 induction h with
 |nil=>rfl
 |snoc _ _ ih=>simp[ih]
def OD(ts:List RT)(x:Int):Option RT->Prop
 |none=>x<0
 |some t=>0<=x/\ts[x.toNat]?=some t
theorem OD.app{ts:List RT}{x:Int}{o:Option RT}(h:OD ts x o)(l:List RT):OD (ts++l) x o:=by
 cases o with
 |none=>exact h
 |some t=>
  refine⟨h.1,?_⟩;rw[List.getElem?_append_left (List.getElem?_eq_some_iff.1 h.2).1];exact h.2
theorem OD.last{ar:List Nd}{ts:List RT}(h:AR ar ts)(t:RT):OD (ts++[t]) ar.length (some t):=by
 refine⟨by omega,?_⟩;rw[Int.toNat_natCast,<- h.len];simp
structure FR (ts:List RT)(f:Fm)(L:Lv):Prop where
 place:f.place=L.place
 alt:OD ts f.alt L.alt
 meet:OD ts f.meet L.meet
 sgn:f.sgn=L.sgn
 row:OD ts f.row L.row
 fac:OD ts f.fac L.fac
theorem FR.app{ts:List RT}{f:Fm}{L:Lv}(h:FR ts f L)(l:List RT):FR (ts++l) f L:=
 ⟨h.place,h.alt.app l,h.meet.app l,h.sgn,h.row.app l,h.fac.app l⟩
def Yd(ts:List RT):List Fm->List Lv->Prop
 |[],[]=>True
 |f::r,L::s=>FR ts f L/\Yd ts r s
 |_,_=>False
theorem Yd.app{ts:List RT}:∀ {r:List Fm} {s:List Lv},Yd ts r s->∀ l,Yd (ts++l) r s
 |[],[],_,_=>trivial
 |[],_::_,h,_=>h.elim
 |_::_,[],h,_=>h.elim
 |f::r,L::s,h,l=>⟨h.1.app l,Yd.app h.2 l⟩
theorem Yd.len{ts:List RT}:∀ {r:List Fm} {s:List Lv},Yd ts r s->r.length=s.length
 |[],[],_=>rfl
 |[],_::_,h=>h.elim
 |_::_,[],h=>h.elim
 |f::r,L::s,h=>by rw[List.length_cons,List.length_cons,Yd.len h.2]
theorem uZ{ar:List Nd}{ts:List RT}{f:Fm}{L:Lv}(ha:AR ar ts)(h:FR ts f L):∃ l,AR (iP ar f).1 (ts++l)/\FR (ts++l) (iP ar f).2 (fK L):=by
 unfold iP;cases hf:L.fac with
 | none=>
  have h1:=h.fac;rw[hf]at h1;have h2:f.fac<0:=h1;rw[if_pos h2];refine⟨[],by simpa using ha,?_⟩;rw[List.append_nil];refine⟨h.place,h.alt,h.meet,h.sgn,?_,?_⟩
  ·show OD ts f.row (rowOf L.row L.fac);rw[hf];exact h.row
  ·exact h2
 | some p=>
  have h1:=h.fac;rw[hf]at h1;have hf0:¬ f.fac<0:=by have:=h1.1;omega
  rw[if_neg hf0];cases hr:L.row with
  | none=>
   have h3:=h.row;rw[hr]at h3;have h4:f.row<0:=h3;rw[if_pos h4];refine⟨[],by simpa using ha,?_⟩;rw[List.append_nil];refine⟨h.place,h.alt,h.meet,h.sgn,?_,?_⟩
   ·show OD ts f.fac (rowOf L.row L.fac);rw[hf,hr];exact h1
   ·show (-1:Int)<0;omega
  | some r=>
   have h3:=h.row;rw[hr]at h3;have h4:¬ f.row<0:=by have:=h3.1;omega
   rw[if_neg h4];refine⟨[.cat r p],.snoc ha (.cat _ r p rfl h3.1 h3.2 h1.1 h1.2),?_⟩;refine⟨h.place,h.alt.app _,h.meet.app _,h.sgn,?_,?_⟩
   ·show OD _ (ar.length:Int) (rowOf L.row L.fac);rw[hf,hr];exact OD.last ha _
   ·show (-1:Int)<0;omega
theorem agp{ar:List Nd}{ts:List RT}{f:Fm}{L:Lv}(ha:AR ar ts)(h:FR ts f L):∃ l,AR (abH ar f).1 (ts++l)/\FR (ts++l) (abH ar f).2 { L with row:=some (L.row.getD .eps) }:=by
 unfold abH;cases hr:L.row with
 |none=>
  have h3:=h.row;rw[hr]at h3;have h4:f.row<0:=h3;rw[if_pos h4];exact⟨[.eps],.snoc ha (.eps _ rfl rfl),h.place,h.alt.app _,h.meet.app _,h.sgn,OD.last ha _,h.fac.app _⟩
 |some r=>
  have h3:=h.row;rw[hr]at h3;have h4:¬ f.row<0:=by have:=h3.1;omega
  rw[if_neg h4];refine⟨[],by simpa using ha,?_⟩;rw[List.append_nil];exact⟨h.place,h.alt,h.meet,h.sgn,h3,h.fac⟩
theorem aau{ar:List Nd}{ts:List RT}{f:Fm}{L:Lv}{r:RT}(ha:AR ar ts)(h:FR ts f L)(hr:L.row=some r):∃ l,AR (SM ar f).1 (ts++l)/\FR (ts++l) (SM ar f).2 { L with meet:=some (my L.meet L.sgn r),row:=none }:=by
 have h3:=h.row;rw[hr]at h3;unfold SM;cases hm:L.meet with
 |none=>
  have h1:=h.meet;rw[hm]at h1;have h2:f.meet<0:=h1;rw[if_pos h2];refine⟨[],by simpa using ha,?_⟩;rw[List.append_nil];exact⟨h.place,h.alt,h3,h.sgn,(by show (-1:Int)<0;omega),h.fac⟩
 | some m=>
  have h1:=h.meet;rw[hm]at h1;have h2:¬ f.meet<0:=by have:=h1.1;omega
  rw[if_neg h2];by_cases hs:f.sgn=38
  ·rw[if_pos hs];refine⟨[.and m r],.snoc ha (.and _ m r rfl h1.1 h1.2 h3.1 h3.2),h.place,h.alt.app _,?_,h.sgn,(by show (-1:Int)<0;omega),h.fac.app _⟩;show OD _ (ar.length:Int) (some (my (some m) L.sgn r));rw[show my (some m) L.sgn r=.and m r by simp[my,<- h.sgn,hs]];exact OD.last ha _
  ·rw[if_neg hs];refine⟨[.minus m r],.snoc ha (.minus _ m r rfl h1.1 h1.2 h3.1 h3.2),h.place,h.alt.app _,?_,h.sgn,(by show (-1:Int)<0;omega),h.fac.app _⟩;show OD _ (ar.length:Int) (some (my (some m) L.sgn r));rw[show my (some m) L.sgn r=.minus m r by simp[my,<- h.sgn,hs]];exact OD.last ha _
theorem KX{ar:List Nd}{ts:List RT}{f:Fm}{L:Lv}(ha:AR ar ts)(h:FR ts f L):∃ l,AR (z6 ar f).1 (ts++l)/\FR (ts++l) (z6 ar f).2 (nL L):=by
 obtain⟨l1,a1,f1⟩:=uZ ha h;obtain⟨l2,a2,f2⟩:=agp a1 f1;obtain⟨l3,a3,f3⟩:=aau a2 f2 rfl;refine⟨l1++l2++l3,?_,?_⟩
 ·rw[<- List.append_assoc,<- List.append_assoc];exact a3
 ·rw[<- List.append_assoc,<- List.append_assoc];exact f3
theorem yl{ar:List Nd}{ts:List RT}{f:Fm}{L:Lv}(ha:AR ar ts)(h:FR ts f L):∃ l,AR (kn ar f).1 (ts++l)/\FR (ts++l) (kn ar f).2 (yk L):=by
 obtain⟨l1,a1,f1⟩:=KX ha h;have hm:(nL L).meet=some (fF L):=rfl;have h1:=f1.meet;rw[hm]at h1;unfold kn ajq;cases hal:L.alt with
 |none=>
  have h2:=f1.alt;rw[show (nL L).alt=L.alt from rfl,hal]at h2;have h3:(z6 ar f).2.alt<0:=h2;rw[if_pos h3];refine⟨l1,a1,f1.place,?_,(by show (-1:Int)<0;omega),f1.sgn,f1.row,f1.fac⟩;show OD _ _ (some (jZ L));rw[show jZ L=fF L by unfold jZ;rw[hal];rfl];exact h1
 | some a=>
  have h2:=f1.alt;rw[show (nL L).alt=L.alt from rfl,hal]at h2;have h3:¬ (z6 ar f).2.alt<0:=by have:=h2.1;omega
  rw[if_neg h3];refine⟨l1++[.alt a (fF L)],?_,?_⟩
  ·rw[<- List.append_assoc];exact .snoc a1 (.alt _ _ _ rfl h2.1 h2.2 h1.1 h1.2)
  ·rw[<- List.append_assoc];refine⟨f1.place,?_,(by show (-1:Int)<0;omega),f1.sgn,f1.row.app _,f1.fac.app _⟩;show OD _ _ (some (jZ L));rw[show jZ L=.alt a (fF L) by unfold jZ;rw[hal];rfl];exact OD.last a1 _
end
section
section
variable (c:Int->Int)(N:Int)(rd:Int->Except (Int×Int) (BitVec 256×Int))
def mnA(i:Int):Except (Int×Int) (Int×Int×Int):=
 if c i=43 then .ok (-2,-1,i+1) else if c i=63 then .ok (0,1,i+1) else if c i=123 then xY c N i else .ok (0,-1,i+1)
def abo(i:Int)(ar:List Nd)(f:Fm)(rest:List Fm):Except (Int×Int) (Int×List Nd×Fm×List Fm):=
 match mnA c N i with
 |.error e=>.error e
 |.ok (m,n,j)=>.ok (j,ar++[⟨7,0,f.fac,0,m,n⟩],{ f with fac:=ar.length },rest)
def am3(i:Int)(ar:List Nd)(f:Fm):List Fm->Except (Int×Int) (Int×List Nd×Fm×List Fm)
 |[]=>.error (20,i)
 |g::r=>.ok (i+1,(kn ar f).1,{ g with fac:=(kn ar f).2.alt },r)
def aab(i:Int)(ar:List Nd)(f:Fm)(rest:List Fm):Except (Int×Int) (Int×List Nd×Fm×List Fm):=
 match rd i with
 |.error e=>.error e
 |.ok (S,j)=>.ok (j,(iP ar f).1++[⟨1,S,0,0,0,0⟩],{ (iP ar f).2 with fac:=(iP ar f).1.length },rest)
def Df(i:Int)(ar:List Nd)(f:Fm)(rest:List Fm):Except (Int×Int) (Int×List Nd×Fm×List Fm):=
 if bN (c i) then (if f.fac<0 then .error (20,i) else abo c N i ar f rest)
 else if c i=124 then .ok (i+1,(kn ar f).1,(kn ar f).2,rest)
 else if c i=38\/c i=45 then .ok (i+1,(z6 ar f).1,{ (z6 ar f).2 with sgn:=c i },rest)
 else if c i=41 then am3 i ar f rest
 else if c i=40 then
  if 1000<rest.length+1 then .error (23,i) else .ok (i+1,(iP ar f).1,LL i,(iP ar f).2::rest)
 else aab rd i ar f rest
def Mh:Nat->Int->List Nd->Fm->List Fm->Except (Int×Int) (List Nd×Fm×List Fm)
 |0,_,ar,f,rest=>.ok (ar,f,rest)
 | n+1,i,ar,f,rest=>
  if i<N then match Df c N rd i ar f rest with
   |.error e=>.error e
   |.ok (j,ar',g,r)=>Mh n j ar' g r
  else .ok (ar,f,rest)
end
def N0(z:List Int)(d:Nd):Int:=
 if d.op=0\/d.op=1 then 1
 else if d.op=7 then gM (z.getD d.a.toNat 0) d.m d.n
 else 1+z.getD d.a.toNat 0+z.getD d.b.toNat 0
def szN(z:List Int)(d:Nd):Int:=if 2001<N0 z d then 2001 else N0 z d
def szL(ar:List Nd):List Int:=ar.foldl (λz d=>z++[szN z d]) []
def akw:Except (Int×Int) (List Nd×Fm×List Fm)->Except (Int×Int) (List Nd×Int)
 |.error e=>.error e
 |.ok (ar,f,rest)=>if rest≠[] then .error (21,f.place)
  else if 2000<(szL (kn ar f).1).getD (kn ar f).2.alt.toNat 0 then .error (24,0) else .ok ((kn ar f).1,(kn ar f).2.alt)
def yM(c:Int->Int)(N:Int)(rd:Int->Except (Int×Int) (BitVec 256×Int)):Except (Int×Int) (List Nd×Int):=
 if 1048576<N then .error (1,0) else akw (Mh c N rd (N.toNat+1) 0 [] (LL (-1)) [])
theorem Uv{c:Int->Int}{N i m n j:Int}(h:xY c N i=.ok (m,n,j)):m<=255/\n<=255:=by
 unfold xY at h;cases h1:py c N (i+1) with
 |error e=>rw[h1]at h;cases h
 | ok p=>
  obtain⟨m',j'⟩:=p;rw[h1]at h;simp only at h;cases h2:RV c N m' j' with
  |error e=>rw[h2]at h;cases h
  | ok p=>
   obtain⟨n',j2⟩:=p;rw[h2]at h;simp only at h;unfold zL at h;split at h
   ·cases h
   ·split at h
    ·cases h
    ·rename_i hn;simp only[Except.ok.injEq,Prod.mk.injEq]at h;obtain⟨rfl,rfl,_⟩:=h;omega
theorem ala{c:Int->Int}{N i m n j:Int}(h:mnA c N i=.ok (m,n,j)):PF m n:=by
 unfold mnA at h;unfold PF;split at h
 ·simp only[Except.ok.injEq,Prod.mk.injEq]at h;omega
 ·split at h
  ·simp only[Except.ok.injEq,Prod.mk.injEq]at h;omega
  ·split at h
   ·have h1:=YU h;have h2:=Uv h;omega
   ·simp only[Except.ok.injEq,Prod.mk.injEq]at h;omega
section
variable {c:Int->Int}{N:Int}{rd:Int->Except (Int×Int) (BitVec 256×Int)}
def aml(ts:List RT):Except (Int×Int) (Int×Lv×List Lv)->Except (Int×Int) (Int×List Nd×Fm×List Fm)->Prop
 |.error e,.error e' => e=e'
 |.ok (j,L,Ls),.ok (j',ar,f,r)=>j=j' /\ ∃ l,AR ar (ts++l)/\FR (ts++l) f L/\Yd (ts++l) r Ls
 |_,_=>False
theorem agb{i:Int}{L:Lv}{p:RT}(hp:bN (c i)):sr c N i L p=match mnA c N i with
  |.error e=>.error e
  |.ok (m,n,j)=>.ok (j,{ L with fac:=some (.rep p m n) }):=by
 unfold sr mnA;unfold bN at hp;by_cases h42:c i=42
 ·rw[if_pos h42,if_neg (by omega),if_neg (by omega),if_neg (by omega)]
 ·rw[if_neg h42];by_cases h43:c i=43
  ·rw[if_pos h43,if_pos h43]
  ·rw[if_neg h43,if_neg h43];by_cases h63:c i=63
   ·rw[if_pos h63,if_pos h63]
   ·rw[if_neg h63,if_neg h63,if_pos (by omega)];cases xY c N i<;>rfl
theorem aci{i:Int}{ar:List Nd}{ts:List RT}{f:Fm}{L:Lv}{rest:List Fm}{Ls:List Lv}(ha:AR ar ts)(hf:FR ts f L)(hr:Yd ts rest Ls):aml ts (fG c N rd i L Ls) (Df c N rd i ar f rest):=by
 unfold fG Df;by_cases hp:bN (c i)
 ·rw[if_pos hp,if_pos hp];cases hL:L.fac with
  |none=>
   have h1:=hf.fac;rw[hL]at h1;have h2:f.fac<0:=h1;rw[if_pos h2];rfl
  | some p=>
   have h1:=hf.fac;rw[hL]at h1;have h2:¬ f.fac<0:=by have:=h1.1;omega
   rw[if_neg h2];simp only[agb hp,abo];cases hm:mnA c N i with
   |error e=>rfl
   |ok q=>
    obtain⟨m,n,j⟩:=q;refine⟨rfl,[.rep p m n],.snoc ha (.rep ⟨7,0,f.fac,0,m,n⟩ p rfl h1.1 h1.2 (ala hm)),⟨hf.place,hf.alt.app _,hf.meet.app _,hf.sgn,hf.row.app _,OD.last ha _⟩,hr.app _⟩
 ·rw [if_neg hp,if_neg hp];by_cases h124:c i=124
  ·rw[if_pos h124,if_pos h124];obtain⟨l,a1,f1⟩:=yl ha hf;exact⟨rfl,l,a1,f1,hr.app l⟩
  ·rw [if_neg h124,if_neg h124];by_cases h2:c i=38\/c i=45
   ·rw[if_pos h2,if_pos h2];obtain⟨l,a1,f1⟩:=KX ha hf;exact⟨rfl,l,a1,⟨f1.place,f1.alt,f1.meet,rfl,f1.row,f1.fac⟩,hr.app l⟩
   ·rw [if_neg h2,if_neg h2];by_cases h41:c i=41
    ·rw[if_pos h41,if_pos h41]
     match rest,Ls,hr with
     |[],[],_=>rfl
     |g::r,M::Ms,hr=>
      obtain⟨l,a1,f1⟩:=yl ha hf;have g1:=hr.1.app l;exact⟨rfl,l,a1,⟨g1.place,g1.alt,g1.meet,g1.sgn,g1.row,f1.alt⟩,hr.2.app l⟩
    ·rw[if_neg h41,if_neg h41];by_cases h40:c i=40
     ·rw[if_pos h40,if_pos h40,hr.len];by_cases hd:1000<Ls.length+1
      ·rw[if_pos hd,if_pos hd];rfl
      ·rw[if_neg hd,if_neg hd];obtain⟨l,a1,f1⟩:=uZ ha hf;have hm:∀ o:Int,o=-1->OD (ts++l) o none:=λo h=>by show o<0;omega
       exact⟨rfl,l,a1,⟨rfl,hm _ rfl,hm _ rfl,rfl,hm _ rfl,hm _ rfl⟩,f1,hr.app l⟩
     ·rw[if_neg h40,if_neg h40];unfold aab;cases hS:rd i with
      |error e=>rfl
      | ok q=>
       obtain⟨S,j⟩:=q;obtain⟨l,a1,f1⟩:=uZ ha hf;refine⟨rfl,l++[.cls S],?_,?_,?_⟩
       ·rw[<- List.append_assoc];exact .snoc a1 (.cls ⟨1,S,0,0,0,0⟩ rfl)
       ·rw[<- List.append_assoc];exact⟨f1.place,f1.alt.app _,f1.meet.app _,f1.sgn,f1.row.app _,OD.last a1 _⟩
       ·exact hr.app _
def amk:Except (Int×Int) (Lv×List Lv)->Except (Int×Int) (List Nd×Fm×List Fm)->Prop
 |.error e,.error e' => e=e'
 |.ok (L,Ls),.ok (ar,f,r)=>∃ ts,AR ar ts/\FR ts f L/\Yd ts r Ls
 |_,_=>False
theorem Te:∀ (n:Nat) (i:Int) (ar:List Nd) (ts:List RT) (f:Fm) (L:Lv) (rest:List Fm) (Ls:List Lv),AR ar ts->FR ts f L->Yd ts rest Ls->amk (runN c N rd n i L Ls) (Mh c N rd n i ar f rest)
 |0,i,ar,ts,f,L,rest,Ls,ha,hf,hr=>⟨ts,ha,hf,hr⟩
 | n+1,i,ar,ts,f,L,rest,Ls,ha,hf,hr=>by
  rw[runN,Mh];by_cases hi:i<N
  ·rw[if_pos hi,if_pos hi];have h1:=aci (c:=c) (N:=N) (rd:=rd) (i:=i) ha hf hr;revert h1;cases fG c N rd i L Ls with
   |error e=>
    cases Df c N rd i ar f rest with
    |error e' => exact λh=>h
    |ok q=>exact λh=>h.elim
   | ok p=>
    obtain⟨j,L',Ls'⟩:=p;cases Df c N rd i ar f rest with
    |error e' => exact λh=>h.elim
    |ok q=>
     obtain⟨j',ar',f',r'⟩:=q;rintro⟨rfl,l,a1,f1,r1⟩;exact Te n j ar' _ f' L' r' Ls' a1 f1 r1
  ·rw[if_neg hi,if_neg hi];exact⟨ts,ha,hf,hr⟩
end
theorem XE{a m n:Int}(ha:0<=a)(h:PF m n):0<=gM a m n:=by
 unfold PF at h;unfold gM;split
 ·omega
 ·split
  ·omega
  ·split
   ·have:0<=m*a:=Int.mul_nonneg (by omega) ha;omega
   ·split
    ·omega
    ·split
     ·have:0<=n*(a+2):=Int.mul_nonneg (by omega) (by omega);omega
     ·have h1:0<=m*a:=Int.mul_nonneg (by omega) ha;have h2:0<=(n-m)*(a+2+1):=Int.mul_nonneg (by omega) (by omega);omega
theorem alD{ts:List RT}{d:Nd}{t:RT}(h:NM ts d t):szN (ts.map λt=>(t.sz:Int)) d=(t.sz:Int):=by
 have at' : ∀ (x:Int) (a:RT),ts[x.toNat]?=some a->(ts.map λt=>(t.sz:Int)).getD x.toNat 0=(a.sz:Int):=λx a hx=>by
  rw[List.getD_eq_getElem?_getD,List.getElem?_map,hx];rfl
 have cap:∀ v:Nat,(if (2001:Int)<(v:Int) then (2001:Int) else (v:Int))=((cE v:Nat):Int):=λv=>by unfold cE;split<;>omega
 cases h with
 |eps h0 _=>
  have hv:N0 (ts.map λt=>(t.sz:Int)) d=((1:Nat):Int):=by rw[N0,if_pos (.inl h0)];rfl
  rw[szN,hv,cap];rfl
 |cls h0=>
  have hv:N0 (ts.map λt=>(t.sz:Int)) d=((1:Nat):Int):=by rw[N0,if_pos (.inr h0)];rfl
  rw[szN,hv,cap];rfl
 |cat a b h0 h1 h2 h3 h4=>
  have hv:N0 (ts.map λt=>(t.sz:Int)) d=((1+a.sz+b.sz:Nat):Int):=by rw[N0,if_neg (by omega),if_neg (by omega),at' _ _ h2,at' _ _ h4];omega
  rw[szN,hv,cap];rfl
 |alt a b h0 h1 h2 h3 h4=>
  have hv:N0 (ts.map λt=>(t.sz:Int)) d=((1+a.sz+b.sz:Nat):Int):=by rw[N0,if_neg (by omega),if_neg (by omega),at' _ _ h2,at' _ _ h4];omega
  rw[szN,hv,cap];rfl
 |and a b h0 h1 h2 h3 h4=>
  have hv:N0 (ts.map λt=>(t.sz:Int)) d=((1+a.sz+b.sz:Nat):Int):=by rw[N0,if_neg (by omega),if_neg (by omega),at' _ _ h2,at' _ _ h4];omega
  rw[szN,hv,cap];rfl
 |minus a b h0 h1 h2 h3 h4=>
  have hv:N0 (ts.map λt=>(t.sz:Int)) d=((1+a.sz+b.sz:Nat):Int):=by rw[N0,if_neg (by omega),if_neg (by omega),at' _ _ h2,at' _ _ h4];omega
  rw[szN,hv,cap];rfl
 |rep a h0 h1 h2 h3=>
  have hn:=XE (a:=(a.sz:Int)) (by omega) h3;obtain⟨v,hv⟩:=Int.eq_ofNat_of_zero_le hn;have hz:N0 (ts.map λt=>(t.sz:Int)) d=((v:Nat):Int):=by rw[N0,if_neg (by omega),if_pos h0,at' _ _ h2,hv]
  rw[szN,hz,cap];show _=((cE (gM a.sz d.m d.n).toNat:Nat):Int);rw[hv];rfl
theorem alC{ar:List Nd}{ts:List RT}(h:AR ar ts):szL ar=ts.map λt=>(t.sz:Int):=by
 induction h with
 |nil=>rfl
 |snoc ha hn ih=>
  unfold szL at ih ⊢;rw[List.foldl_append,ih];simp[alD hn]
theorem Gh{c:Int->Int}{N:Int}{rd:Int->Except (Int×Int) (BitVec 256×Int)}(hN:0<=N):match sk c N rd,yM c N rd with
  |.error e,.error e' => e=e'
  |.ok t,.ok (ar,x)=>∃ ts,AR ar ts/\0<=x/\ts[x.toNat]?=some t
  |_,_=>False:=by
 unfold sk yM;by_cases hb:1048576<N
 ·rw[if_pos hb,if_pos hb]
 ·rw [if_neg hb,if_neg hb];have hm:∀ o:Int,o=-1->OD [] o none:=λo h=>by show o<0;omega
  have h1:=Te (c:=c) (N:=N) (rd:=rd) (N.toNat+1) 0 [] [] (LL (-1)) (jh (-1)) [] [] .nil ⟨rfl,hm _ rfl,hm _ rfl,rfl,hm _ rfl,hm _ rfl⟩ trivial;have e:run c N rd 0 (jh (-1)) []=runN c N rd (N.toNat+1) 0 (jh (-1)) []:=by
   unfold run;rw[Int.sub_zero]
  rw[e];revert h1;cases runN c N rd (N.toNat+1) 0 (jh (-1)) [] with
  |error e=>
   cases Mh c N rd (N.toNat+1) 0 [] (LL (-1)) [] with
   |error e' => exact λh=>h
   |ok q=>exact λh=>h.elim
  | ok p=>
   obtain⟨L,Ls⟩:=p;cases Mh c N rd (N.toNat+1) 0 [] (LL (-1)) [] with
   |error e' => exact λh=>h.elim
   | ok q=>
    obtain⟨ar,f,r⟩:=q;rintro⟨ts,ha,hf,hr⟩;simp only[rO,akw]
    match r,Ls,hr with
    |g::r,M::Ms,hr=>
     rw[if_pos (by simp),if_pos (by simp)];rw[hf.place]
    | [],[],_=>
     rw[if_neg (show ¬ ([]:List Lv)≠[] by simp),if_neg (show ¬ ([]:List Fm)≠[] by simp)];obtain⟨l,a1,f1⟩:=yl ha hf;have h2:=f1.alt;rw[show (yk L).alt=some (jZ L) from rfl]at h2;have h3:(szL (kn ar f).1).getD (kn ar f).2.alt.toNat 0=((jZ L).sz:Int):=by
      rw[alC a1,List.getD_eq_getElem?_getD,List.getElem?_map,h2.2];rfl
     rw[h3];by_cases hz:2000<(jZ L).sz
     ·rw[if_pos hz,if_pos (by omega)]
     ·rw[if_neg hz,if_neg (by omega)];exact⟨_,a1,h2.1,h2.2⟩
end
section
open Go.RowKit Go.LE Go.Proofs.Tryz
set_option maxRecDepth 10000
section
variable (pre:List Fm)(B:List SV)(d:SV)(j:Nat)
end
def anP(ar:List Nd):Prop:=∀ k (h:k<ar.length),(0<=ar[k].op/\ar[k].op<=7)/\(2<=ar[k].op->0<=ar[k].a/\ar[k].a<k)/\(2<=ar[k].op->ar[k].op≠7->0<=ar[k].b/\ar[k].b<k)/\(ar[k].op=7->PF ar[k].m ar[k].n)
theorem NM.ok{ts:List RT}{d:Nd}{t:RT}(h:NM ts d t):(0<=d.op/\d.op<=7)/\(2<=d.op->0<=d.a/\d.a<ts.length)/\(2<=d.op->d.op≠7->0<=d.b/\d.b<ts.length)/\(d.op=7->PF d.m d.n):=by
 have lt:∀ {x:Int} {a:RT},0<=x->ts[x.toNat]?=some a->x<ts.length:=λ{x a} h0 h=>by
  have:=(List.getElem?_eq_some_iff.1 h).1;omega
 cases h with
 |eps h0 _=>exact⟨oM,λh=>by omega,λh=>by omega,λh=>by omega⟩
 |cls h0=>exact⟨oM,λh=>by omega,λh=>by omega,λh=>by omega⟩
 |cat a b h0 h1 h2 h3 h4=>exact⟨oM,λh=>⟨h1,lt h1 h2⟩,λh _=>⟨h3,lt h3 h4⟩,λh=>by omega⟩
 |alt a b h0 h1 h2 h3 h4=>exact⟨oM,λh=>⟨h1,lt h1 h2⟩,λh _=>⟨h3,lt h3 h4⟩,λh=>by omega⟩
 |and a b h0 h1 h2 h3 h4=>exact⟨oM,λh=>⟨h1,lt h1 h2⟩,λh _=>⟨h3,lt h3 h4⟩,λh=>by omega⟩
 |minus a b h0 h1 h2 h3 h4=>exact⟨oM,λh=>⟨h1,lt h1 h2⟩,λh _=>⟨h3,lt h3 h4⟩,λh=>by omega⟩
 |rep a h0 h1 h2 h3=>exact⟨oM,λh=>⟨h1,lt h1 h2⟩,λh h' => absurd h0 h',λ_=>h3⟩
theorem AR.ok{ar:List Nd}{ts:List RT}(h:AR ar ts):anP ar:=by
 induction h with
 |nil=>intro k hk;cases hk
 | @snoc ar ts d t ha hn ih=>
  intro k hk;by_cases hlt:k<ar.length
  ·rw[List.getElem_append_left hlt];exact ih k hlt
  ·have hk' : k=ar.length:=by simp at hk;omega
   subst hk';have:=hn.ok;rw[ha.len]at this;rw[List.getElem_append_right (Nat.le_refl _)];simpa using this
theorem YG:∀ (l:List Nd) (k j:Nat) (hk:k<l.length),j<261->(Uk l)[k*261+j]?=l[k].pO[j]?
 |d::r,0,j,_,hj=>by
  show (d.pO++Uk r)[0*261+j]?=_;rw[List.getElem?_append_left (by rw[Nd.xO];omega)];simp
 |d::r,k+1,j,hk,hj=>by
  show (d.pO++Uk r)[(k+1)*261+j]?=_;rw[List.getElem?_append_right (by rw[Nd.xO];omega),Nd.xO,show (k+1)*261+j-261=k*261+j by omega];have:=YG r k j (by simpa using hk) hj;simpa using this
theorem Nd.akG(d:Nd):d.pO[0]?=some (.int .i64 d.op):=rfl
theorem Nd.wB(d:Nd)(j:Nat):d.pO[257+j]?=[Value.int .i64 d.a,.int .i64 d.b,.int .i64 d.m,.int .i64 d.n][j]?:=by
 have e:d.pO=(Value.int .i64 d.op::blF d.set.getLsbD)++[.int .i64 d.a,.int .i64 d.b,.int .i64 d.m,.int .i64 d.n]:=rfl;rw[e,List.getElem?_append_right (by rw[List.length_cons,Hg];omega),List.length_cons,Hg,show 257+j-(256+1)=j by omega]
theorem G6.nd{w:World}{ao:Option Addr}{l:List Nd}(h:G6 w ao (Uk l)){k:Nat}(hk:k<l.length):∃ b o,ao=some ⟨b,o,none⟩ /\
  w.cell? ⟨b,o+k*261,none⟩=some (.int .i64 l[k].op)/\w.cell? ⟨b,o+k*261+257,none⟩=some (.int .i64 l[k].a)/\w.cell? ⟨b,o+k*261+258,none⟩=some (.int .i64 l[k].b) /\
  w.cell? ⟨b,o+k*261+259,none⟩=some (.int .i64 l[k].m)/\w.cell? ⟨b,o+k*261+260,none⟩=some (.int .i64 l[k].n):=by
 have hl:=aey l;rcases h with h|⟨b,o,rfl,hc⟩
 ·rw[h]at hl;simp at hl;omega
 ·have key:∀ j (hj:j<261) (v:Value),l[k].pO[j]?=some v->w.cell? ⟨b,o+k*261+j,none⟩=some v:=λj hj v hv=>by
   have hlt:k*261+j<(Uk l).length:=oM;have h1:=hc (k*261+j) hlt;have h2:=YG l k j hk hj;rw[List.getElem?_eq_getElem hlt,hv]at h2;rw[<- Nat.add_assoc]at h1;rw[h1,h2]
  exact⟨b,o,rfl,key 0 oM _ (Nd.akG _),key 257 oM _ (Nd.wB _ 0),key 258 oM _ (Nd.wB _ 1),key 259 oM _ (Nd.wB _ 2),key 260 oM _ (Nd.wB _ 3)⟩
def bO:Rx->Nat
 |.eps=>1
 |.cls _=>1
 |.cat a b=>bO a+bO b+1
 |.alt a b=>bO a+bO b+1
 |.star a=>bO a+1
 |.and a b=>bO a+bO b+1
 |.minus a b=>bO a+bO b+1
def SC(n:Nat):Rx->List Nd
 |.eps=>[rn 0 0 0]
 |.cls S=>[⟨1,S,0,0,0,0⟩]
 |.cat a b=>SC n a++(SC (n+bO a) b++[rn 2 ((n+bO a-1:Nat):Int) ((n+bO a+bO b-1:Nat):Int)])
 |.alt a b=>SC n a++(SC (n+bO a) b++[rn 3 ((n+bO a-1:Nat):Int) ((n+bO a+bO b-1:Nat):Int)])
 |.star a=>SC n a++[rn 4 ((n+bO a-1:Nat):Int) 0]
 |.and a b=>SC n a++(SC (n+bO a) b++[rn 5 ((n+bO a-1:Nat):Int) ((n+bO a+bO b-1:Nat):Int)])
 |.minus a b=>SC n a++(SC (n+bO a) b++[rn 6 ((n+bO a-1:Nat):Int) ((n+bO a+bO b-1:Nat):Int)])
theorem xi(t:Rx):1<=bO t:=by cases t<;>simp[bO]
abbrev anQ (ar:List Nd)(ao:Option Addr)(c:Nat)(f:FuncId)(v:Value)(t:Rx):Prop:=
 ∀ (l:List Nd) (r:Int) (u:Value) (fp:List Nat) (w:World),l.length+bO t<=4000000->aY w u fp 64 [.row 243 261 l.length (Uk l),.val (.int .i64 r)]->(∀ b∈fp,b<w.heap.size)->jY w (Out fp) ao (Uk ar) ->
  Calls prog f #[.slice ao ar.length c,v,u] w λe w' => dN w u fp 64 e w' (.ret (.int .i64 ((l.length+bO t-1:Nat):Int)) [.row 243 261 (l.length+bO t) (Uk l++Uk (SC l.length t)),.val (.int .i64 r)])
section
variable (ar:List Nd)(ao:Option Addr)(c:Nat)(f:FuncId)(hen:∀ args w,(callFunc f args).run prog w=.ok (.enter f args) w)(dom:Value->Prop)(tv:Value->Rx)(h:∀ v,dom v->anQ ar ao c f v (tv v))
end
def below(n:Nat)(v:Value):Prop:=∃ x:Int,v=.int .i64 x/\0<=x/\x<n
section
variable (ar:List Nd)(ts:List RT)(ao:Option Addr)(c n:Nat)
end
section
variable (ar:List Nd)(ts:List RT)(ao:Option Addr)(c n:Nat)
end
theorem NM.leaf{ts:List RT}{d:Nd}{t:RT}(h:NM ts d t)(h2:d.op<2):(∀ m,SC m t.expand=[⟨d.op,d.set,0,0,0,0⟩])/\bO t.expand=1:=by
 cases h with
 |eps h0 h1=>exact⟨λm=>by rw[h0,h1];rfl,rfl⟩
 |cls h0=>exact⟨λm=>by rw[h0];rfl,rfl⟩
 |cat a b h0|alt a b h0|and a b h0|minus a b h0|rep a h0=>omega
theorem NM.two{ts:List RT}{d:Nd}{t:RT}(h:NM ts d t)(h2:2<=d.op)(h7:d.op≠7):∃ a b,ts[d.a.toNat]?=some a/\ts[d.b.toNat]?=some b/\bO t.expand=bO a.expand+bO b.expand+1 /\
  ∀ m,SC m t.expand=SC m a.expand++(SC (m+bO a.expand) b.expand++[rn d.op ((m+bO a.expand-1:Nat):Int) ((m+bO a.expand+bO b.expand-1:Nat):Int)]):=by
 cases h with
 |eps h0|cls h0=>omega
 |cat a b h0 _ h1 _ h2=>exact⟨a,b,h1,h2,rfl,λm=>by rw[h0];rfl⟩
 |alt a b h0 _ h1 _ h2=>exact⟨a,b,h1,h2,rfl,λm=>by rw[h0];rfl⟩
 |and a b h0 _ h1 _ h2=>exact⟨a,b,h1,h2,rfl,λm=>by rw[h0];rfl⟩
 |minus a b h0 _ h1 _ h2=>exact⟨a,b,h1,h2,rfl,λm=>by rw[h0];rfl⟩
 |rep a h0=>exact absurd h0 h7
section
variable (ar:List Nd)(ts:List RT)(ao:Option Addr)(c n:Nat)(d:Nd)
end
end
section
def oP(r:RL):Prop:=r.1=cE (bO r.2)
theorem oP.leaf{t:Rx}(h:bO t=1):oP (b9 t):=by
 show 1=cE (bO t);rw[h];rfl
theorem oP.join{mk:Rx->Rx->Rx}(hm:∀ x y,bO (mk x y)=bO x+bO y+1){a b:RL}(ha:oP a)(hb:oP b):oP (bg mk a b):=by
 show cE (1+a.1+b.1)=cE (bO (mk a.2 b.2));rw[hm,ha,hb,Ov,Ou]
 congr 1
 omega
theorem oP.star{a:RL}(ha:oP a):oP (gI a):=by
 show cE (1+a.1)=cE (bO a.2+1);rw[ha];unfold cE;omega
theorem oP.maybe{a:RL}(ha:oP a):oP (bV a):=oP.join (λ_ _=>rfl) ha (oP.leaf rfl)
theorem oP.iter{f:RL->RL}(hf:∀ x,oP x->oP (f x)):∀ (k:Nat) {x:RL},oP x->oP (bL f k x)
 |0,_,h=>h
 |k+1,_,h=>oP.iter hf k (hf _ h)
theorem oP.times{a:RL}(ha:oP a)(m n:Int):oP (dz a m n):=by
 have h1:oP (if m=0 then bV a else a):=by split;exact ha.maybe;exact ha
 have h2:oP (bL (λx=>bg .cat x a) (m-1).toNat (if m=0 then bV a else a)):=oP.iter (λx hx=>oP.join (λ_ _=>rfl) hx ha) _ h1;unfold dz;split
 ·exact ha.star
 ·split
  ·exact oP.leaf rfl
  ·split
   ·exact oP.join (λ_ _=>rfl) h2 ha.star
   ·exact oP.iter (λx hx=>oP.join (λ_ _=>rfl) hx ha.maybe) _ h2
theorem RT.Am(t:RT):t.sz<=2001:=by
 cases t with
 |eps=>decide
 |cls S=>show 1<=2001;decide
 |cat a b=>exact lS _
 |alt a b=>exact lS _
 |and a b=>exact lS _
 |minus a b=>exact lS _
 |rep a m n=>exact lS _
theorem NM.size{ts:List RT}{d:Nd}{t:RT}(h:NM ts d t)(hts:∀ s∈ts,oP s.val):oP t.val:=by
 have at' : ∀ {x:Nat} {a:RT},ts[x]?=some a->oP a.val:=λh=>hts _ (List.mem_of_getElem? h)
 cases h with
 |eps h0 h1=>exact oP.leaf rfl
 |cls h0=>exact oP.leaf rfl
 |cat a b _ _ h1 _ h2=>exact oP.join (mk:=.cat) (λ_ _=>rfl) (at' h1) (at' h2)
 |alt a b _ _ h1 _ h2=>exact oP.join (mk:=.alt) (λ_ _=>rfl) (at' h1) (at' h2)
 |and a b _ _ h1 _ h2=>exact oP.join (mk:=.and) (λ_ _=>rfl) (at' h1) (at' h2)
 |minus a b _ _ h1 _ h2=>exact oP.join (mk:=.minus) (λ_ _=>rfl) (at' h1) (at' h2)
 | rep a _ _ h1 h2=>
  rcases h2 with ⟨e1,e2⟩|⟨g0,_,_,g1⟩
  ·rw[e1,e2,<- CN];exact oP.join (λ_ _=>rfl) (at' h1) (at' h1).star
  ·rw[<- zd a d.m d.n g0 g1 a.Am];exact (at' h1).times _ _
theorem AR.size{ar:List Nd}{ts:List RT}(h:AR ar ts):∀ t∈ts,oP t.val:=by
 induction h with
 |nil=>intro t ht;cases ht
 | snoc ha hn ih=>
  intro s hs;rcases List.mem_append.1 hs with hs|hs
  ·exact ih s hs
  ·rw[List.mem_singleton.1 hs];exact hn.size ih
theorem AR.small{ar:List Nd}{ts:List RT}(h:AR ar ts){t:RT}(ht:t∈ts)(hs:t.sz<=2000):bO t.expand<=2000:=by
 have:=h.size t ht;have e:t.sz=cE (bO t.expand):=this;unfold cE at e;omega
end
section
open Go.RowKit Go.LE Go.Proofs.Tryz
set_option maxRecDepth 10000
def hxD(n:Int):UInt8:=if n<10 then (48+n).toNat.toUInt8 else (87+n).toNat.toUInt8
def vJ(b:Int)(barred:Bool):ByteArray:=
 if b=10 then ⟨#[92,110]⟩ else if b=13 then ⟨#[92,114]⟩ else if b=9 then ⟨#[92,116]⟩
 else if b<32\/126<b then ⟨#[92,120,hxD (b / 16),hxD (b % 16)]⟩
 else if barred=true then ⟨#[92,b.toNat.toUInt8]⟩ else ⟨#[b.toNat.toUInt8]⟩
theorem s8(b:Int)(q:Bool):(vJ b q).size<=4:=by
 unfold vJ
 repeat' split
 all_goals (show Array.size _<=4;simp)
def vX(S:CS):Nat->Nat
 |0=>0
 |n+1=>vX S n+if S.getLsbD n=true then 1 else 0
def vW(S:CS):Nat:=vX S 256
theorem Si(S:CS)(n:Nat):vX S n<=n:=by
 induction n with
 |zero=>exact Nat.le_refl _
 |succ n ih=>
  unfold vX;split<;>omega
def HX(S:CS):Nat->Nat->Nat
 |0,b=>b
 |k+1,b=>if S.getLsbD b=true then b else HX S k (b+1)
def B6(S:CS):Nat:=HX S 256 0
theorem SS(S:CS):∀ k b,b<=HX S k b/\HX S k b<=b+k
 |0,b=>⟨Nat.le_refl _,Nat.le_refl _⟩
 | k+1,b=>by
  unfold HX;split
  ·omega
  ·have:=SS S k (b+1);omega
theorem afI(S:CS)(b:Nat)(hb:b<256)(h1:∀ j<b,S.getLsbD j=false)(h2:S.getLsbD b=true):B6 S=b:=by
 have key:∀ k j,j+k=256->j<=b->HX S k j=b:=by
  intro k
  induction k with
  |zero=>intro j hj hjb;omega
  | succ k ih=>
   intro j hj hjb;unfold HX;by_cases e:j=b
   ·subst e;rw[if_pos h2]
   ·rw[if_neg (by rw[h1 j oM];simp)];exact ih (j+1) oM oM
 exact key 256 0 rfl (Nat.zero_le _)
theorem UF(S:CS)(n:Nat)(h:∀ j<n,S.getLsbD j=false):vX S n=0:=by
 induction n with
 |zero=>rfl
 |succ n ih=>
  unfold vX;rw[ih λj hj=>h j oM,h n oM];rfl
def lK(T:CS):Nat->Nat->Nat
 |0,b=>b
 |k+1,b=>if T.getLsbD (b+1)=true then lK T k (b+1) else b
def pE(T:CS)(b:Nat):Nat:=lK T (255-b) b
theorem WB(T:CS)(b:Nat)(hb:b<255)(h:T.getLsbD (b+1)=true):pE T b=pE T (b+1):=by
 unfold pE;rw[show 255-b=(255-(b+1))+1 by omega,lK,if_pos h]
theorem WC(T:CS)(b:Nat)(h:b<255->T.getLsbD (b+1)=false):pE T b=b:=by
 unfold pE;by_cases hb:b<255
 ·rw[show 255-b=(255-(b+1))+1 by omega,lK,if_neg (by rw[h hb];simp)]
 ·rw[show 255-b=0 by omega,lK]
theorem agd(T:CS)(b:Nat)(hb:b<256):b<=pE T b/\pE T b<256:=by
 have key:∀ k j,b<=j->j+k<=255->b<=lK T k j/\lK T k j<256:=by
  intro k
  induction k with
  |zero=>intro j h1 h2;exact⟨h1,by rw[lK];omega⟩
  |succ k ih=>
   intro j h1 h2;unfold lK;split
   ·exact ih (j+1) oM oM
   ·omega
 exact key (255-b) b (Nat.le_refl _) oM
theorem age(T:CS)(b j:Nat)(hb:b<256)(h0:T.getLsbD b=true)(h1:b<=j)(h2:j<=pE T b):T.getLsbD j=true:=by
 have key:∀ k i,T.getLsbD i=true->i<=j->j<=lK T k i->T.getLsbD j=true:=by
  intro k
  induction k with
  |zero=>
   intro i hi h1 h2;rw[lK]at h2;have:i=j:=oM;rw[<- this];exact hi
  | succ k ih=>
   intro i hi h1 h2;unfold lK at h2;by_cases e:i=j
   ·rw[<- e];exact hi
   ·split at h2
    ·rename_i hn;exact ih (i+1) hn oM h2
    ·omega
 exact key _ b h0 h1 h2
theorem abx(T:CS)(b:Nat)(hb:b<256)(h:pE T b<255):T.getLsbD (pE T b+1)=false:=by
 have key:∀ k i,i+k=255->lK T k i<255->T.getLsbD (lK T k i+1)=false:=by
  intro k
  induction k with
  |zero=>intro i h1 h2;rw[lK]at h2;omega
  | succ k ih=>
   intro i h1 h2;unfold lK at h2 ⊢;split at h2
   ·rename_i hn;rw[if_pos hn];exact ih (i+1) oM h2
   ·rename_i hn;rw[if_neg hn];simpa using hn
 exact key (255-b) b oM h
def vZ:ByteArray:=⟨#[45]⟩
def Ua(out:ByteArray)(b e:Nat):ByteArray:=
 if b<e then (if b+1<e then out++vJ b (uP zM b)++vZ else out++vJ b (uP zM b))++vJ e (uP zM e) else out++vJ b (uP zM b)
theorem Ub(out:ByteArray)(b e:Nat):(Ua out b e).size<=out.size+9:=by
 have h1:=s8 b (uP zM b);have h2:=s8 e (uP zM e);have h3:vZ.size=1:=rfl;unfold Ua
 repeat' split
 all_goals simp only[ByteArray.size_append];omega
def stB(T:CS)(b:Nat):Bool:=T.getLsbD b&&(b == 0||!T.getLsbD (b-1))
def gm(T:CS)(pre:ByteArray):Nat->ByteArray
 |0=>pre
 |b+1=>if stB T b=true then Ua (gm T pre b) b (pE T b) else gm T pre b
theorem qg(T:CS)(pre:ByteArray)(b:Nat):(gm T pre b).size<=pre.size+9*b:=by
 induction b with
 |zero=>simp[gm]
 | succ b ih=>
  unfold gm;split
  ·have:=Ub (gm T pre b) b (pE T b);omega
  ·omega
theorem Qi(T:CS)(pre:ByteArray)(b:Nat)(hb:b<256)(h0:T.getLsbD b=true):∀ j,b<j->j<=pE T b+1->gm T pre j=gm T pre (b+1):=by
 intro j
 induction j with
 |zero=>intro h;omega
 | succ j ih=>
  intro h1 h2;by_cases e:j=b
  ·rw[e]
  ·have hs:stB T j=false:=by
    have g1:=age T b (j-1) hb h0 oM oM;unfold stB;rw[g1];have:(j == 0)=false:=by simp;omega
    rw[this];simp
   rw[gm,if_neg (by rw[hs];simp)];exact ih oM oM
def LK:ByteArray:=⟨#[91]⟩
def LM:ByteArray:=⟨#[91,94]⟩
def Y5:ByteArray:=⟨#[93]⟩
def ru(S:CS):ByteArray:=
 if vW S=1 then vJ (B6 S) (uP spc (B6 S))
 else (if 128<vW S then gm (~~~S) LM 256 else gm S LK 256)++Y5
theorem QT(S:CS):(ru S).size<=2400:=by
 have h0:LM.size=2:=rfl;have h1:LK.size=1:=rfl;have h2:Y5.size=1:=rfl;unfold ru;split
 ·have:=s8 (B6 S) (uP spc (B6 S));omega
 ·rw[ByteArray.size_append];split
  ·have:=qg (~~~S) LM 256;omega
  ·have:=qg S LK 256;omega
def A6:Rx->Int
 |.eps=>4
 |.cls _=>4
 |.cat _ _=>2
 |.alt _ _=>0
 |.star _=>3
 |.and _ _=>1
 |.minus _ _=>1
def lpB:ByteArray:=⟨#[40]⟩
def rpB:ByteArray:=⟨#[41]⟩
def anY:ByteArray:=⟨#[40,41]⟩
def ams:ByteArray:=⟨#[124]⟩
def amo:ByteArray:=⟨#[38]⟩
def ajS:ByteArray:=⟨#[42]⟩
def uV(r need:Int)(s:ByteArray):ByteArray:=if r<need then lpB++s++rpB else s
def dc:Rx->ByteArray
 |.eps=>anY
 |.cls S=>ru S
 |.cat a b=>uV (A6 a) 2 (dc a)++uV (A6 b) 3 (dc b)
 |.alt a b=>uV (A6 a) 0 (dc a)++ams++uV (A6 b) 1 (dc b)
 |.star a=>uV (A6 a) 3 (dc a)++ajS
 |.and a b=>uV (A6 a) 1 (dc a)++amo++uV (A6 b) 2 (dc b)
 |.minus a b=>uV (A6 a) 1 (dc a)++vZ++uV (A6 b) 2 (dc b)
def Ye(t:Rx)(need:Int):ByteArray:=uV (A6 t) need (dc t)
theorem fW(r need:Int)(s:ByteArray):(uV r need s).size<=s.size+2:=by
 have h1:lpB.size=1:=rfl;have h2:rpB.size=1:=rfl;unfold uV;split
 ·rw[ByteArray.size_append,ByteArray.size_append];omega
 ·omega
theorem cR:∀ t:Rx,(dc t).size<=2400*bO t
 |.eps=>by show 2<=2400*1;omega
 |.cls S=>by
  have:=QT S;show (ru S).size<=2400*1;omega
 |.cat a b=>by
  have h1:=cR a;have h2:=cR b;have h3:=fW (A6 a) 2 (dc a);have h4:=fW (A6 b) 3 (dc b);have h5:bO (.cat a b)=bO a+bO b+1:=rfl;unfold dc;rw[ByteArray.size_append];omega
 |.alt a b=>by
  have h1:=cR a;have h2:=cR b;have h3:=fW (A6 a) 0 (dc a);have h4:=fW (A6 b) 1 (dc b);have h5:bO (.alt a b)=bO a+bO b+1:=rfl;have h6:ams.size=1:=rfl;unfold dc;rw[ByteArray.size_append,ByteArray.size_append];omega
 |.star a=>by
  have h1:=cR a;have h3:=fW (A6 a) 3 (dc a);have h5:bO (.star a)=bO a+1:=rfl;have h6:ajS.size=1:=rfl;unfold dc;rw[ByteArray.size_append];omega
 |.and a b=>by
  have h1:=cR a;have h2:=cR b;have h3:=fW (A6 a) 1 (dc a);have h4:=fW (A6 b) 2 (dc b);have h5:bO (.and a b)=bO a+bO b+1:=rfl;have h6:amo.size=1:=rfl;unfold dc;rw[ByteArray.size_append,ByteArray.size_append];omega
 |.minus a b=>by
  have h1:=cR a;have h2:=cR b;have h3:=fW (A6 a) 1 (dc a);have h4:=fW (A6 b) 2 (dc b);have h5:bO (.minus a b)=bO a+bO b+1:=rfl;have h6:vZ.size=1:=rfl;unfold dc;rw[ByteArray.size_append,ByteArray.size_append];omega
theorem rX(k a b c d:Nat)(hc:c<2 ^ k)(hd:d<2 ^ k):(2 ^ k*a+c) &&& (2 ^ k*b+d)=2 ^ k*(a &&& b)+(c &&& d):=by
 have he:(c &&& d)<2 ^ k:=Nat.lt_of_le_of_lt Nat.and_le_left hc;apply Nat.eq_of_testBit_eq;intro j;rw[Nat.testBit_and,Nat.testBit_two_pow_mul_add a hc,Nat.testBit_two_pow_mul_add b hd,Nat.testBit_two_pow_mul_add _ he];by_cases h:j<k
 ·rw[if_pos h,if_pos h,if_pos h,Nat.testBit_and]
 ·rw[if_neg h,if_neg h,if_neg h,Nat.testBit_and]
def M0:Nat->Nat
 |0=>0
 |n+1=>4*M0 n+1
def f0(n x:Nat):Nat:=((x / 2) &&& M0 n)+(x &&& M0 n)
theorem afe(x:Nat):f0 0 x=0:=by simp[f0,M0]
theorem AW(n q d:Nat)(hd:d<4):f0 (n+1) (4*q+d)=4*f0 n q+(d / 2+d % 2):=by
 have h1:(4*q+d) / 2=2 ^ 2*(q / 2)+(2*(q % 2)+d / 2):=oM;have h2:=rX 2 (q / 2) (M0 n) (2*(q % 2)+d / 2) 1 oM oM;have h3:=rX 2 q (M0 n) d 1 oM oM;have h4:(2*(q % 2)+d / 2) &&& 1=d / 2:=by rw[Nat.and_one_is_mod];omega
 have h5:d &&& 1=d % 2:=Nat.and_one_is_mod d;rw[h4]at h2;rw[h5]at h3;unfold f0;rw[h1,M0];rw[show 4*M0 n+1=2 ^ 2*M0 n+1 by omega,show 4*q+d=2 ^ 2*q+d by omega,h2,h3];omega
theorem afd(n q b:Nat)(hb:b<256):f0 (n+4) (256*q+b)=256*f0 n q+f0 4 b:=by
 have key:∀ m r,f0 (m+4) (256*r+b)=256*f0 m r+(64*(b / 64 / 2+b / 64 % 2)+(16*(b / 16 % 4 / 2+b / 16 % 4 % 2)+(4*(b / 4 % 4 / 2+b / 4 % 4 % 2)+(b % 4 / 2+b % 4 % 2)))):=λm r=>by
  rw[show 256*r+b=4*(4*(4*(4*r+b / 64)+b / 16 % 4)+b / 4 % 4)+b % 4 by omega];rw[AW _ _ _ oM,AW _ _ _ oM,AW _ _ _ oM,AW _ _ _ oM];omega
 have h0:=key 0 0;rw[afe]at h0;rw[key,show f0 4 b=f0 (0+4) (256*0+b) by rw[Nat.mul_zero,Nat.zero_add,Nat.zero_add],h0];omega
def M1:Nat->Nat
 |0=>0
 |n+1=>16*M1 n+3
def f1(n x:Nat):Nat:=((x / 4) &&& M1 n)+(x &&& M1 n)
theorem Sp(x:Nat):f1 0 x=0:=by simp[f1,M1]
theorem amn(x:Nat):x &&& 3=x % 4:=Nat.and_two_pow_sub_one_eq_mod x 2
theorem amm(x:Nat):x &&& 15=x % 16:=Nat.and_two_pow_sub_one_eq_mod x 4
theorem So(n q d:Nat)(hd:d<16):f1 (n+1) (16*q+d)=16*f1 n q+(d / 4+d % 4):=by
 have h1:(16*q+d) / 4=2 ^ 4*(q / 4)+(4*(q % 4)+d / 4):=oM;have h2:=rX 4 (q / 4) (M1 n) (4*(q % 4)+d / 4) 3 oM oM;have h3:=rX 4 q (M1 n) d 3 oM oM;have h4:(4*(q % 4)+d / 4) &&& 3=d / 4:=by rw[amn];omega
 rw[h4]at h2;rw[amn]at h3;unfold f1;rw[h1,M1];rw[show 16*M1 n+3=2 ^ 4*M1 n+3 by omega,show 16*q+d=2 ^ 4*q+d by omega,h2,h3];omega
theorem aff(n q b:Nat)(hb:b<256):f1 (n+2) (256*q+b)=256*f1 n q+f1 2 b:=by
 have key:∀ m r,f1 (m+2) (256*r+b)=256*f1 m r+(16*(b / 16 / 4+b / 16 % 4)+(b % 16 / 4+b % 16 % 4)):=λm r=>by
  rw[show 256*r+b=16*(16*r+b / 16)+b % 16 by omega];rw[So _ _ _ oM,So _ _ _ oM];omega
 have h0:=key 0 0;rw[Sp]at h0;rw[key,show f1 2 b=f1 (0+2) (256*0+b) by rw[Nat.mul_zero,Nat.zero_add,Nat.zero_add],h0];omega
def M2:Nat->Nat
 |0=>0
 |n+1=>256*M2 n+15
def f2(n x:Nat):Nat:=(x / 16+x) &&& M2 n
theorem afh(x:Nat):f2 0 x=0:=by simp[f2,M2]
theorem afg(n q d:Nat)(hd:d % 16<=4/\d / 16<=4)(hq:q % 16<=4):f2 (n+1) (256*q+d)=256*f2 n q+(d / 16+d % 16):=by
 have h1:(256*q+d) / 16+(256*q+d)=2 ^ 8*(q / 16+q)+(16*(q % 16)+d / 16+d):=oM;have h2:=rX 8 (q / 16+q) (M2 n) (16*(q % 16)+d / 16+d) 15 oM oM;have h4:(16*(q % 16)+d / 16+d) &&& 15=d / 16+d % 16:=by rw[amm];omega
 rw[h4]at h2;unfold f2;rw[h1,M2];rw[show 256*M2 n+15=2 ^ 8*M2 n+15 by omega,h2]
def fS(x:Nat):Nat->Nat
 |0=>0
 |k+1=>fS x k+if x.testBit k=true then 1 else 0
theorem L1(q b:Nat)(hb:b<256):∀ k,k<=8->fS (256*q+b) k=fS b k
 |0,_=>rfl
 |k+1,h=>by
  have h8:=Nat.testBit_two_pow_mul_add (i:=8) q (b:=b) hb k;rw[if_pos (show k<8 by omega),show 2 ^ 8*q+b=256*q+b by omega]at h8;rw[fS,fS,L1 q b hb k oM,h8]
theorem Gk(q b:Nat)(hb:b<256):∀ k,fS (256*q+b) (8+k)=fS b 8+fS q k
 |0=>L1 q b hb 8 (Nat.le_refl _)
 |k+1=>by
  have h8:=Nat.testBit_two_pow_mul_add (i:=8) q (b:=b) hb (8+k);rw[if_neg (show ¬ 8+k<8 by omega),show 2 ^ 8*q+b=256*q+b by omega,show 8+k-8=k by omega]at h8;have ih:=Gk q b hb k;have e1:fS (256*q+b) (8+(k+1))=fS (256*q+b) (8+k)+if (256*q+b).testBit (8+k)=true then 1 else 0:=rfl
  have e2:fS q (k+1)=fS q k+if q.testBit k=true then 1 else 0:=rfl;rw[e1,e2,ih,h8];omega
theorem Bz:∀ b:Fin 256,f0 4 b.val<256/\f1 2 (f0 4 b.val)<256/\f1 2 (f0 4 b.val) % 16<=4/\f1 2 (f0 4 b.val) / 16<=4/\f1 2 (f0 4 b.val) / 16+f1 2 (f0 4 b.val) % 16=fS b.val 8/\fS b.val 8<=8:=by decide +kernel
theorem Q2(n q b:Nat)(hb:b<256)(hq:f1 (n*2) (f0 (n*4) q) % 16<=4) :
  f2 (n+1) (f1 ((n+1)*2) (f0 ((n+1)*4) (256*q+b)))=256*f2 n (f1 (n*2) (f0 (n*4) q))+fS b 8/\f1 ((n+1)*2) (f0 ((n+1)*4) (256*q+b)) % 16<=4:=by
 obtain⟨h1,h2,h3,h4,h5,h6⟩:=Bz ⟨b,hb⟩;simp only at h1 h2 h3 h4 h5 h6;rw[show (n+1)*4=n*4+4 by omega,show (n+1)*2=n*2+2 by omega,afd _ _ _ hb,aff _ _ _ h1];refine⟨?_,oM⟩;rw[afg _ _ _ ⟨h3,h4⟩ hq,h5]
def K4:Nat->Nat->Nat
 |0,_=>0
 |n+1,x=>256*K4 n (x / 256)+fS (x % 256) 8
theorem GA:∀ n x,f2 n (f1 (n*2) (f0 (n*4) x))=K4 n x/\f1 (n*2) (f0 (n*4) x) % 16<=4
 |0,x=>by
  show f2 0 (f1 0 (f0 0 x))=K4 0 x/\f1 0 (f0 0 x) % 16<=4;rw[afh,Sp];exact⟨rfl,oM⟩
 |n+1,x=>by
  have ih:=GA n (x / 256);have h:=Q2 n (x / 256) (x % 256) oM ih.2;rw[show 256*(x / 256)+x % 256=x by omega,ih.1]at h;exact h
theorem PZ(x:Nat):fS x 64=fS (x % 256) 8+(fS (x / 256 % 256) 8+(fS (x / 256 / 256 % 256) 8+(fS (x / 256 / 256 / 256 % 256) 8+(fS (x / 256 / 256 / 256 / 256 % 256) 8+(fS (x / 256 / 256 / 256 / 256 / 256 % 256) 8+(fS (x / 256 / 256 / 256 / 256 / 256 / 256 % 256) 8+fS (x / 256 / 256 / 256 / 256 / 256 / 256 / 256 % 256) 8)))))):=by
 have step:∀ k y,fS y (8+k)=fS (y % 256) 8+fS (y / 256) k:=λk y=>by
  have h:=Gk (y / 256) (y % 256) oM k;rw[show 256*(y / 256)+y % 256=y by omega]at h;exact h
 rw[show 64=8+(8+(8+(8+(8+(8+(8+(8+0))))))) from rfl];rw[step,step,step,step,step,step,step,step];rfl
theorem nS(x:Nat):fS (x % 256) 8<=8:=(Bz ⟨x % 256,oM⟩).2.2.2.2.2
theorem Pa(x:Nat):∃ c0 c1 c2 c3 c4 c5 c6 c7:Nat,(c0<=8/\c1<=8/\c2<=8/\c3<=8/\c4<=8/\c5<=8/\c6<=8/\c7<=8) /\
  K4 8 x=256*(256*(256*(256*(256*(256*(256*(256*0+c7)+c6)+c5)+c4)+c3)+c2)+c1)+c0/\fS x 64=c0+(c1+(c2+(c3+(c4+(c5+(c6+c7)))))):=
 ⟨_,_,_,_,_,_,_,_,⟨nS _,nS _,nS _,nS _,nS _,nS _,nS _,nS _⟩,rfl,PZ x⟩
theorem ZA(x:Nat):∃ y,y=K4 8 x/\y+y / 256<2 ^ 64/\(y+y / 256)+(y+y / 256) / 65536<2 ^ 64/\(y+y / 256)+(y+y / 256) / 65536+((y+y / 256)+(y+y / 256) / 65536) / 4294967296<2 ^ 63 /\
  ((y+y / 256)+(y+y / 256) / 65536+((y+y / 256)+(y+y / 256) / 65536) / 4294967296) % 128=fS x 64:=by
 obtain⟨c0,c1,c2,c3,c4,c5,c6,c7,hc,h1,h2⟩:=Pa x;refine⟨K4 8 x,rfl,?_⟩;rw[h2];have h3:K4 8 x=c0+256*c1+65536*c2+16777216*c3+4294967296*c4+1099511627776*c5+281474976710656*c6+72057594037927936*c7:=by rw[h1];omega
 generalize K4 8 x=y at *;have h4:y / 256=c1+256*c2+65536*c3+16777216*c4+4294967296*c5+1099511627776*c6+281474976710656*c7:=oM;obtain⟨d0,e0⟩:∃ d,d=c0+c1:=⟨_,rfl⟩;obtain⟨d1,e1⟩:∃ d,d=c1+c2:=⟨_,rfl⟩;obtain⟨d2,e2⟩:∃ d,d=c2+c3:=⟨_,rfl⟩;obtain⟨d3,e3⟩:∃ d,d=c3+c4:=⟨_,rfl⟩
 obtain⟨d4,e4⟩:∃ d,d=c4+c5:=⟨_,rfl⟩;obtain⟨d5,e5⟩:∃ d,d=c5+c6:=⟨_,rfl⟩;obtain⟨d6,e6⟩:∃ d,d=c6+c7:=⟨_,rfl⟩;have h5:y+y / 256=d0+256*d1+65536*d2+16777216*d3+4294967296*d4+1099511627776*d5+281474976710656*d6+72057594037927936*c7:=oM;have hs:c0+(c1+(c2+(c3+(c4+(c5+(c6+c7))))))=d0+d2+d4+d6:=oM
 have hd:d0<=16/\d1<=16/\d2<=16/\d3<=16/\d4<=16/\d5<=16/\d6<=16/\c7<=16:=oM;rw[hs];clear h1 h2 h3 h4 hs hc e0 e1 e2 e3 e4 e5 e6;generalize y+y / 256=z at *;have h6:z / 65536=d2+256*d3+65536*d4+16777216*d5+4294967296*d6+1099511627776*c7:=oM;obtain⟨g0,k0⟩:∃ d,d=d0+d2:=⟨_,rfl⟩
 obtain⟨g1,k1⟩:∃ d,d=d1+d3:=⟨_,rfl⟩;obtain⟨g2,k2⟩:∃ d,d=d2+d4:=⟨_,rfl⟩;obtain⟨g3,k3⟩:∃ d,d=d3+d5:=⟨_,rfl⟩;obtain⟨g4,k4⟩:∃ d,d=d4+d6:=⟨_,rfl⟩;obtain⟨g5,k5⟩:∃ d,d=d5+c7:=⟨_,rfl⟩
 have h7:z+z / 65536=g0+256*g1+65536*g2+16777216*g3+4294967296*g4+1099511627776*g5+281474976710656*d6+72057594037927936*c7:=oM;have hz:z<2 ^ 64:=oM;have hs2:d0+d2+d4+d6=g0+g4:=oM;have hg:g0<=32/\g1<=32/\g2<=32/\g3<=32/\g4<=32/\g5<=32/\d6<=16/\c7<=16:=oM;rw[hs2];clear h5 h6 hs2 hd k0 k1 k2 k3 k4 k5
 generalize z+z / 65536=u at *;have h8:u / 4294967296=g4+256*g5+65536*d6+16777216*c7:=oM;refine⟨hz,oM,oM,?_⟩;omega
theorem KF(S:CS)(j:Nat):∀ k,k<=64->vX S (64*j+k)=vX S (64*j)+fS (wd S j).toNat k
 |0,_=>rfl
 | k+1,h=>by
  have e:(wd S j).toNat.testBit k=S.getLsbD (64*j+k):=by
   rw[wd,Int.toNat_natCast];show (S.extractLsb' (64*j) 64).getLsbD k=_;rw[BitVec.getLsbD_extractLsb'];simp;omega
  rw[show 64*j+(k+1)=(64*j+k)+1 by omega,vX,fS,KF S j k oM,e];omega
theorem anm(S:CS)(j:Nat):(wd S j).toNat<2 ^ 64:=by
 rw[wd,Int.toNat_natCast];exact (S.extractLsb' (64*j) 64).isLt
theorem vU(s:ByteArray):mg ((byteCells s).map SV.v)=some (s.data.toList.map λc=>(c.toNat:Int)):=by
 have h:(byteCells s).map SV.v=(s.data.toList.map λc=>(c.toNat:Int)).map λn=>SV.v (.int .u8 n):=by simp[byteCells]
 rw[h,rL]
theorem Dg(s:ByteArray):fB (s.data.toList.map λc=>(c.toNat:Int))=s:=by
 rcases s with ⟨⟨l⟩⟩;unfold fB;rw[List.map_map];have h:(λn:Int=>UInt8.ofNat n.toNat) ∘ (λc:UInt8=>(c.toNat:Int))=id:=by
  funext c
  show UInt8.ofNat ((c.toNat:Int).toNat)=c;rw[Int.toNat_natCast,UInt8.ofNat_toNat]
 rw[h,List.map_id]
theorem FJ(s:ByteArray):((byteCells s).map SV.v).all dO=true:=by
 rw[List.all_eq_true];intro x hx;obtain⟨v,hv,rfl⟩:=List.mem_map.1 hx;obtain⟨c,_,rfl⟩:=List.mem_map.1 hv;rfl
theorem tu(s:ByteArray)(l:List Int)(h:∀ c∈l,0<=c/\c<256):(byteCells s).map SV.v++l.map (λc=>SV.v (.int .u8 c))=(byteCells (s++fB l)).map SV.v:=by
 unfold byteCells fB;rw[ByteArray.data_append,Array.toList_append,List.map_append,List.map_append]
 congr 1
 simp only[List.map_map];refine List.map_congr_left λc hc=>?_
 obtain⟨h0,h1⟩:=h c hc;simp only[Function.comp,UInt8.toNat_ofNat'];rw[Nat.mod_eq_of_lt oM]
 congr 2
 omega
theorem uI(s t:ByteArray):(byteCells s).map SV.v++(byteCells t).map SV.v=(byteCells (s++t)).map SV.v:=by
 unfold byteCells;rw[ByteArray.data_append,Array.toList_append,List.map_append,List.map_append]
theorem Wz:∀ b:Fin 256,(0<=((b.val:Nat):Int).fdiv 16/\((b.val:Nat):Int).fdiv 16<16)/\(0<=cu .and .u8 ((b.val:Nat):Int) 15/\cu .and .u8 ((b.val:Nat):Int) 15<16) /\
  ((b.val:Nat):Int).fdiv 16=((b.val:Nat):Int) / 16/\cu .and .u8 ((b.val:Nat):Int) 15=((b.val:Nat):Int) % 16:=by decide +kernel
theorem B7(s:ByteArray):(s.data.toList.map λc=>(c.toNat:Int)).length=s.size:=by rw[List.length_map];rfl
theorem dR(l:List Int):(fB l).size=l.length:=by simp[fB,ByteArray.size]
def HE:ByteArray:=⟨#[48,49,50,51,52,53,54,55,56,57,97,98,99,100,101,102]⟩
def ss(c:Int):List Int:=
 if c=34\/c=92 then [92,c] else if 32<=c/\c<=126 then [c] else if c=10 then [92,110] else if c=13 then [92,114] else if c=9 then [92,116] else [92,120,bt HE (c / 16),bt HE (c % 16)]
def jK(s:ByteArray):Nat->ByteArray
 |0=>fB [34]
 |k+1=>jK s k++fB (ss (bt s k))
def eY(s:ByteArray):ByteArray:=jK s s.size++fB [34]
theorem abw(c:Int):(ss c).length<=4:=by
 unfold ss
 repeat' split
 all_goals simp
theorem tR(s:ByteArray):∀ k,(jK s k).size<=1+4*k
 |0=>by show (fB [34]).size<=_;rw[dR];simp
 |k+1=>by
  show (jK s k++fB (ss (bt s k))).size<=_;rw[ByteArray.size_append,dR];have:=tR s k;have:=abw (bt s k);omega
theorem kx(s:ByteArray):(eY s).size<=2+4*s.size:=by
 show (jK s s.size++fB [34]).size<=_;rw[ByteArray.size_append,dR];have:=tR s s.size;simp only[List.length_cons,List.length_nil];omega
theorem uw(s:ByteArray)(i:Int):0<=bt s i/\bt s i<256:=by
 unfold bt;have:=(s.data[i.toNat]?.getD 0).toNat_lt;omega
def gS:=(ae @List.replicate_succ.{0} @List.replicate_zero.{0} @au @ab Tr Tw TS (ae ty5 ty6 ty7 ty8 lA di dj (ae dk dm dB dD dF dG mZ (ae nc nf ng nh eK eL eM (ae eN eO eP acF acG acH acI (EL @aV @aw @aD @aF @vU @Dg @FJ))))))
theorem WA(s:ByteArray)(hs:s.size<=16777216)(w:World):Calls prog 38 #[.string s] w λe w' => e=.returned (.string (eY s))/\an w [] w' := by
 refine ak (nt:=66) [.tmp 2] func38 rfl rfl rfl ?_;refine vR Γ0 gS ?_;refine vR Γ0 gS ?_;refine Wp.seq ?_;refine vR Γ0 gS ?_;refine Wp.block ?_
 refine Wp.loop (λk:Nat=>⟨20,eA [(0,.is (.v (.string s))),(3,.is (.hd 8)),(8,.is (.v (.int .i64 s.size))),(9,.is (.v (.int .i64 (k:Nat))))],dS [(8,.row 5 1 (jK s k).size ((byteCells (jK s k)).map .v))]⟩) (λk=>k<=s.size) (λk=>s.size-k) 0 ?_ (Nat.zero_le _) ?_
 ·exact wM (λk=>.key k) gS
 rintro k hk;refine vR Γ0 gS ?_;refine Wp.seq ?_;refine wC gS (λhc=>?_) (λhc=>?_)
 ·have hlt:k<s.size:=by
   simp at hc;omega
  obtain⟨c0,c1⟩:=uw s k;have hq:=tR s k;have ha:=λl hl=>tu (jK s k) l hl
  have hb:jK s (k+1)=jK s k++fB (ss (bt s k)):=rfl;have wk:IntKind.i64.wrap ((k:Int)+1)=((k+1:Nat):Int):=wW;refine wK ?_
  refine ig ⟨20,eA [(0,.is (.v (.string s))),(8,.is (.v (.int .i64 s.size))),(9,.is (.v (.int .i64 (k:Nat)))),(3,.is (.hd 8))],dS [(8,.row 5 1 (jK s (k+1)).size ((byteCells (jK s (k+1))).map .v))]⟩ ?_ ?_
  ·refine Wp.block ?_;refine vR Γ0 gS ?_;refine wR Γ0 gS ?_ ?_
   ·first|omega|exact⟨oM,oM⟩
   refine Wp.block ?_;refine vR Γ0 gS ?_;refine wC gS (λhc=>?_) (λhc=>?_)
   ·have hv:bt s k=34\/bt s k=92:=by simpa using hc
    have e0:ss (bt s k)=[92,bt s k]:=by rw[ss,if_pos hv]
    rw[e0]at hb;have e1:=ha _ (λc (hc:c∈[92,bt s k])=>by simp at hc;omega);rw[<- hb]at e1;simp only[List.map_cons,List.map_nil]at e1;have e2:(jK s (k+1)).size=(jK s k).size+2:=by rw[hb,ByteArray.size_append,dR];rfl
    refine wr Γ0 gS ?_ ?_
    ·exact by unfold maxLen;omega
    exact wM (λk=>if k=8 then .key 296 else .key k) (bp gS e1 e2)
   have n0:¬ (bt s k=34\/bt s k=92):=by simpa using hc
   refine vR Γ0 gS ?_;refine wC gS (λhc=>?_) (λhc=>?_)
   ·have hv:32<=bt s k/\bt s k<=126:=by simpa using hc
    have e0:ss (bt s k)=[bt s k]:=by rw[ss,if_neg n0,if_pos hv]
    rw[e0]at hb;have e1:=ha _ (λc (hc:c∈[bt s k])=>by simp at hc;omega);rw[<- hb]at e1;simp only[List.map_cons,List.map_nil]at e1;have e2:(jK s (k+1)).size=(jK s k).size+1:=by rw[hb,ByteArray.size_append,dR];rfl
    refine wr Γ0 gS ?_ ?_
    ·exact by unfold maxLen;omega
    exact wM (λk=>if k=8 then .key 352 else .key k) (bp gS e1 e2)
   have n1:¬ (32<=bt s k/\bt s k<=126):=by simpa using hc
   refine vR Γ0 gS ?_;refine wC gS (λhc=>?_) (λhc=>?_)
   ·have hv:bt s k=10:=by simpa using hc
    have e0:ss (bt s k)=[92,110]:=by rw[ss,if_neg n0,if_neg n1,if_pos hv]
    rw[e0]at hb;have e1:=uI (jK s k) (fB [92,110]);rw[<- hb]at e1;have e2:(jK s (k+1)).size=(jK s k).size+2:=by rw[hb,ByteArray.size_append,dR];rfl
    have e3:(⟨#[92,110]⟩:ByteArray)=fB [92,110]:=rfl;have e4:(fB [92,110]).size=2:=rfl;refine wr Γ0 (bp gS e3 e4) ?_ ?_
    ·unfold maxLen;omega
    exact wM (λk=>if k=8 then .key 360 else .key k) (bp gS e1 e2)
   have n2:¬ bt s k=10:=by simpa using hc
   refine vR Γ0 gS ?_;refine wC gS (λhc=>?_) (λhc=>?_)
   ·have hv:bt s k=13:=by simpa using hc
    have e0:ss (bt s k)=[92,114]:=by rw[ss,if_neg n0,if_neg n1,if_neg n2,if_pos hv]
    rw[e0]at hb;have e1:=uI (jK s k) (fB [92,114]);rw[<- hb]at e1;have e2:(jK s (k+1)).size=(jK s k).size+2:=by rw[hb,ByteArray.size_append,dR];rfl
    have e3:(⟨#[92,114]⟩:ByteArray)=fB [92,114]:=rfl;have e4:(fB [92,114]).size=2:=rfl;refine wr Γ0 (bp gS e3 e4) ?_ ?_
    ·unfold maxLen;omega
    exact wM (λk=>if k=8 then .key 384 else .key k) (bp gS e1 e2)
   have n3:¬ bt s k=13:=by simpa using hc
   refine vR Γ0 gS ?_;refine wC gS (λhc=>?_) (λhc=>?_)
   ·have hv:bt s k=9:=by simpa using hc
    have e0:ss (bt s k)=[92,116]:=by rw[ss,if_neg n0,if_neg n1,if_neg n2,if_neg n3,if_pos hv]
    rw[e0]at hb;have e1:=uI (jK s k) (fB [92,116]);rw[<- hb]at e1;have e2:(jK s (k+1)).size=(jK s k).size+2:=by rw[hb,ByteArray.size_append,dR];rfl
    have e3:(⟨#[92,116]⟩:ByteArray)=fB [92,116]:=rfl;have e4:(fB [92,116]).size=2:=rfl;refine wr Γ0 (bp gS e3 e4) ?_ ?_
    ·unfold maxLen;omega
    exact wM (λk=>if k=8 then .key 408 else .key k) (bp gS e1 e2)
   have n4:¬ bt s k=9:=by simpa using hc
   have e0:ss (bt s k)=[92,120,bt HE (bt s k / 16),bt HE (bt s k % 16)]:=by rw[ss,if_neg n0,if_neg n1,if_neg n2,if_neg n3,if_neg n4]
   obtain⟨x,hx⟩:=Int.eq_ofNat_of_zero_le c0;have x1:x<256:=oM;obtain⟨f1,f2,f3,f4⟩:=Wz ⟨x,x1⟩;simp only at f1 f2 f3 f4;rw[hx]at e0;rw[hx,e0]at hb;have b1:=uw HE ((x:Int) / 16);have b2:=uw HE ((x:Int) % 16)
   have e1:=ha _ (λc (hc:c∈[92,120,bt HE ((x:Int) / 16),bt HE ((x:Int) % 16)])=>by simp at hc;omega);rw[<- hb]at e1;simp only[List.map_cons,List.map_nil]at e1;have e2:(jK s (k+1)).size=(jK s k).size+4:=by rw[hb,ByteArray.size_append,dR];rfl
   have hxe:(⟨#[48,49,50,51,52,53,54,55,56,57,97,98,99,100,101,102]⟩:ByteArray)=HE:=rfl;refine J3 Γ0 (nu gS hx f3 f4 hxe) ?_ ?_
   ·rw[f3]at f1;rw[f4]at f2;exact⟨f1,f2,by unfold maxLen;omega,oM⟩
   exact wM (λk=>if k=8 then .key 464 else .key k) (EL gS hx f3 f4 hxe e1 e2)
  refine wr Γ0 (aa gS wk) ?_ ?_
  ·first|trivial|omega
  refine⟨k+1,hlt,oM,?_⟩;exact wM (λk=>.key k) gS
 ·have hk' : k=s.size:=by
   simp at hc;omega
  subst hk';have ha:=tu (jK s s.size) [34] (λc hc=>by simp at hc;omega);simp only[List.map_cons,List.map_nil]at ha;have hq:=tR s s.size;have e2:(eY s).size=(jK s s.size).size+1:=by rw[eY,ByteArray.size_append,dR];rfl
  refine wE ?_;refine wR Γ0 (aa gS ha) ?_ ?_
  ·exact⟨⟨by unfold maxLen;omega,oM⟩,by rw[B7,<- eY,e2]⟩
  refine wZ gS ?_;exact λE=>rfl
theorem aes(out:ByteArray)(b e:Nat):Ua out b e=if b<e then (if b+1<e then out++vJ b (uP zM b)++vZ else out++vJ b (uP zM b))++vJ e (uP zM e) else (if b+1<e then out++vJ b (uP zM b)++vZ else out++vJ b (uP zM b)):=by
 unfold Ua;split
 ·rfl
 ·rw[if_neg oM]
theorem YA(a b:Nat)(ha:a<2 ^ 64)(hb:b<2 ^ 64):cu .and .u64 (a:Int) (b:Int)=((a &&& b:Nat):Int):=by
 have h:=Yy (BitVec.ofNat 64 a) (BitVec.ofNat 64 b);rw[BitVec.toNat_and,BitVec.toNat_ofNat,BitVec.toNat_ofNat,Nat.mod_eq_of_lt ha,Nat.mod_eq_of_lt hb]at h;exact h
theorem J1(a:Nat)(ha:a<2 ^ 64):IntKind.u64.wrap (a:Int)=(a:Int):=by
 have h:=xQ (BitVec.ofNat 64 a);rw[BitVec.toNat_ofNat,Nat.mod_eq_of_lt ha]at h;exact h
theorem Ss(a n:Nat):(a:Int).fdiv (n:Int)=((a / n:Nat):Int):=by
 rw[Int.fdiv_eq_ediv_of_nonneg _ (Int.natCast_nonneg _)];rfl
theorem af4(x:Nat)(hx:x<2 ^ 64):IntKind.u64.wrap (cu .and .u64 ((x:Int).fdiv 2) 6148914691236517205+cu .and .u64 (x:Int) 6148914691236517205)=((f0 32 x:Nat):Int)/\f0 32 x<2 ^ 64:=by
 have hm:M0 32=6148914691236517205:=by decide
 have h1:=Nat.and_le_right (n:=x / 2) (m:=6148914691236517205);have h2:=Nat.and_le_right (n:=x) (m:=6148914691236517205);have hf:f0 32 x=(x / 2 &&& 6148914691236517205)+(x &&& 6148914691236517205):=by rw[f0,hm]
 have hl:f0 32 x<2 ^ 64:=oM;refine⟨?_,hl⟩;have e1:(x:Int).fdiv 2=((x / 2:Nat):Int):=Ss x 2;have e2:=YA (x / 2) 6148914691236517205 oM oM;have e3:=YA x 6148914691236517205 oM oM;rw[e1,show (6148914691236517205:Int)=((6148914691236517205:Nat):Int) from rfl,e2,e3,<- Int.natCast_add,<- hf,J1 _ hl]
theorem af5(x:Nat)(hx:x<2 ^ 64):IntKind.u64.wrap (cu .and .u64 ((x:Int).fdiv 4) 3689348814741910323+cu .and .u64 (x:Int) 3689348814741910323)=((f1 16 x:Nat):Int)/\f1 16 x<=7378697629483820646:=by
 have hm:M1 16=3689348814741910323:=by decide
 have h1:=Nat.and_le_right (n:=x / 4) (m:=3689348814741910323);have h2:=Nat.and_le_right (n:=x) (m:=3689348814741910323);have hf:f1 16 x=(x / 4 &&& 3689348814741910323)+(x &&& 3689348814741910323):=by rw[f1,hm]
 have hl:f1 16 x<=7378697629483820646:=oM;refine⟨?_,hl⟩;have e1:(x:Int).fdiv 4=((x / 4:Nat):Int):=Ss x 4;have e2:=YA (x / 4) 3689348814741910323 oM oM;have e3:=YA x 3689348814741910323 oM oM
 rw[e1,show (3689348814741910323:Int)=((3689348814741910323:Nat):Int) from rfl,e2,e3,<- Int.natCast_add,<- hf,J1 _ oM]
theorem af6(x:Nat)(hx:x<=7378697629483820646):cu .and .u64 (IntKind.u64.wrap ((x:Int).fdiv 16+(x:Int))) 1085102592571150095=((f2 8 x:Nat):Int):=by
 have hm:M2 8=1085102592571150095:=by decide
 have e1:(x:Int).fdiv 16=((x / 16:Nat):Int):=Ss x 16;rw[e1,<- Int.natCast_add,J1 _ oM,show (1085102592571150095:Int)=((1085102592571150095:Nat):Int) from rfl,YA _ _ oM oM,f2,hm]
theorem HZ(x n:Nat)(h:x+x / n<2 ^ 64):IntKind.u64.wrap ((x:Int)+(x:Int).fdiv (n:Int))=((x+x / n:Nat):Int):=by
 rw[Ss,<- Int.natCast_add,J1 _ h]
theorem af7(x:Nat)(hx:x<2 ^ 63):cu .and .i64 (IntKind.i64.wrap (x:Int)) 127=((x % 128:Nat):Int):=by
 rw[ax oM oM];show IntKind.i64.wrap (((BitVec.ofInt 64 (x:Int) &&& BitVec.ofInt 64 127:BitVec 64).toNat:Nat):Int)=_;have h1:(BitVec.ofInt 64 (x:Int)).toNat=x:=by
  rw[BitVec.toNat_ofInt];omega
 have h2:(BitVec.ofInt 64 127).toNat=127:=rfl;have h3:x &&& 127=x % 128:=Nat.and_two_pow_sub_one_eq_mod x 7;rw[BitVec.toNat_and,h1,h2,h3,ax oM oM]
def ET:=(ae @List.replicate_succ.{0} @List.replicate_zero.{0} @au @ab lx ly lA (ae di dj dk dm dB dD dF (ae dG mZ nc nf ng nh xz (ae xA xB xC xJ xK xL xM (fg @aV @aw @aD @aF)))))
theorem aaX(x:Nat)(hx:x<2 ^ 64)(w:World):Calls prog 253 #[.int .u64 (x:Nat)] w λe w' => e=.returned (.int .i64 (fS x 64:Nat))/\an w [] w' := by
 obtain⟨r1,l1⟩:=af4 x hx;obtain⟨r2,l2⟩:=af5 (f0 32 x) l1;have r3:=af6 _ l2;have hst:=(GA 8 x).1;obtain⟨y,hy,b1,b2,b3,hp⟩:=ZA x;have r4:=HZ y 256 b1;have r5:=HZ _ 65536 b2;have r6:=HZ (y+y / 256+(y+y / 256) / 65536) 4294967296 oM;have r7:=af7 _ b3
 have r3' : cu .and .u64 (IntKind.u64.wrap (((f1 16 (f0 32 x):Nat):Int).fdiv 16+((f1 16 (f0 32 x):Nat):Int))) 1085102592571150095=((y:Nat):Int):=by rw[r3,hy,<- hst]
 rw[<- hp];refine ak (nt:=35) [.tmp 2] func253 rfl rfl rfl ?_;refine vR Γ0 ET ?_;refine vR Γ0 (aa ET r1) ?_;refine vR Γ0 (aa ET r2) ?_;refine vR Γ0 (aa ET r3') ?_;refine vR Γ0 ET ?_;refine vR Γ0 ET ?_;refine vR Γ0 ET ?_;refine vR Γ0 ET ?_;refine wZ ET ?_;intro E;show Value.int IntKind.i64 _=_
 congr 1
 refine Eq.trans ?_ r7
 congr 2
 refine Eq.trans ?_ r6;have e5:IntKind.u64.wrap (((y+y / 256:Nat):Int)+((y+y / 256:Nat):Int).fdiv 65536)=((y+y / 256+(y+y / 256) / 65536:Nat):Int):=r5;have e4:IntKind.u64.wrap ((y:Int)+(y:Int).fdiv 256)=((y+y / 256:Nat):Int):=r4;rw[e4,e5];rfl
def SY:a8 prog 253 where
 pre:=λW bs=>λ| [.val (.int .u64 x)]=>0<=x/\x<18446744073709551616|_=>False
 res:=λW=>λ| [.val (.int .u64 x)]=>.int .i64 (fS x.toNat 64:Nat)|_=>undef
 enters:=call253
 ok:=by
  intro W w bs us as_ hk hu hp;split at hp
  ·rename_i x
   match us,hu with
   |[u0],hu=>
    obtain⟨rfl,_⟩:=hu;have:=aaX x.toNat oM w;rw[Int.toNat_of_nonneg hp.1]at this;exact this
  ·exact hp.elim
theorem Wc(W:World)(x:Int):SY.res W [.val (.int .u64 x)]=.int .i64 (fS x.toNat 64:Nat):=rfl
theorem Wb(W:World)(bs:List Nat)(x:Int):SY.pre W bs [.val (.int .u64 x)]=(0<=x/\x<18446744073709551616):=rfl
noncomputable def Γ77:Env prog:=⟨λ| 253=>some SY.spec|_=>none,λ| _=>none,λ_ _=>none⟩
theorem ajf:Γ77.sp 253=some SY.spec:=rfl
attribute [local simp] aR
def yf:=(ae ET Wc Wb ajf @iZ @nr @np (aa @kK @re))
theorem Ox(S:CS)(w:World):Calls prog 221 #[cB S] w λe w' => e=.returned (.int .i64 (vW S:Nat))/\an w [] w' := by
 refine ak (nt:=16) [.tmp 2] func221 rfl rfl rfl ?_;refine vR Γ77 (aa yf @dw) ?_;refine vR Γ77 yf ?_;refine Wp.seq ?_;refine vR Γ77 yf ?_;refine Wp.block ?_
 refine Wp.loop (λk:Nat=>⟨20,eA [(3,.is (.v (.int .i64 (vX S (64*k):Nat)))),(6,.is (.agg ((nw S).map .v))),(7,.is (.v (.int .i64 (k:Nat))))],dS []⟩) (λk=>k<=4) (λk=>4-k) 0 ?_ (Nat.zero_le _) ?_
 ·exact wM (λk=>.key k) yf
 rintro k hk;have hle:=Si S (64*k);have hle2:=Si S (64*(k+1));refine vR Γ77 yf ?_;refine Wp.seq ?_;refine wC yf (λhc=>?_) (λhc=>?_)
 ·have hlt:k<4:=by
   simp at hc;omega
  have hw:=KF S k 64 (Nat.le_refl _);have hx:=anm S k;have hx0:0<=wd S k:=by rw[wd];omega
  have wk:IntKind.i64.wrap ((k:Int)+1)=((k+1:Nat):Int):=wW;have e:vX S (64*(k+1))=vX S (64*k)+fS (wd S k).toNat 64:=hw;have wc:IntKind.i64.wrap ((vX S (64*k):Int)+((fS (wd S k).toNat 64:Nat):Int))=((vX S (64*(k+1)):Nat):Int):=by rw[ax oM oM,e];omega
  refine wK ?_;refine Wp.seq (Wp.block ?_);refine wR Γ77 (aa yf (jn S k hlt)) ?_ ?_
  ·omega
  refine wr Γ77 (aa yf wc) ?_ ?_
  ·omega
  refine vr Γ77 (aa yf wk) ?_;refine⟨k+1,oM,oM,?_⟩;exact wM (λk=>.key k) yf
 ·have hk' : k=4:=by
   simp at hc;omega
  subst hk';refine wE ?_;refine vR Γ77 yf ?_;refine wZ yf ?_;exact λE=>rfl
noncomputable def tp:a8 prog 221 where
 pre:=λW bs=>λ| [.val y0]=>(match dec cB y0 with|some S=>True|_=>False)|_=>False
 res:=λW=>λ| [.val y0]=>(match dec cB y0 with|some S=>.int .i64 (vW S:Nat)|_=>undef)|_=>undef
 enters:=call221
 ok:=by
  intro W w bs us as_ hk hu hp;split at hp
  ·rename_i y0;split at hp
   ·rename_i S h0
    match us,hu with
    |[u0],hu=>
     obtain⟨rfl,_⟩:=hu;obtain rfl:=gv h0
     try dsimp only
     try simp only[ca cJ]
     exact Ox S w
   ·exact hp.elim
  ·exact hp.elim
theorem zT(W:World)(S:CS):tp.res W [.val (cB S)]=.int .i64 (vW S:Nat):=by simp only[tp,ca cJ]
theorem zS(W:World)(bs:List Nat)(S:CS):tp.pre W bs [.val (cB S)]=(True):=by simp only[tp,ca cJ]
noncomputable def zU:a8 prog 225 where
 pre:=λW bs=>λ| [.val y0,.val (.int .u8 b)]=>(match dec cB y0 with|some S=>0<=b/\b<256|_=>False)|_=>False
 res:=λW=>λ| [.val y0,.val (.int .u8 b)]=>(match dec cB y0 with|some S=>.bool (S.getLsbD b.toNat)|_=>undef)|_=>undef
 enters:=call225
 ok:=by
  intro W w bs us as_ hk hu hp;split at hp
  ·rename_i y0 b;split at hp
   ·rename_i S h0
    match us,hu with
    |[u0,u1],hu=>
     obtain⟨rfl,rfl,_⟩:=hu;obtain rfl:=gv h0
     try dsimp only
     try simp only[ca cJ]
     have:=afr S b.toNat oM w;rw[Int.toNat_of_nonneg hp.1]at this;exact this
   ·exact hp.elim
  ·exact hp.elim
theorem FM(W:World)(S:CS)(b:Int):zU.res W [.val (cB S),.val (.int .u8 b)]=.bool (S.getLsbD b.toNat):=by simp only[zU,ca cJ]
theorem FL(W:World)(bs:List Nat)(S:CS)(b:Int):zU.pre W bs [.val (cB S),.val (.int .u8 b)]=(0<=b/\b<256):=by simp only[zU,ca cJ]
noncomputable def Γ78:Env prog:=⟨λ| 225=>some zU.spec|_=>none,λ| _=>none,λ_ _=>none⟩
theorem ajg:Γ78.sp 225=some zU.spec:=rfl
def Bx:=(oQ yf @zT @zS @FM @FL ajg)
theorem UE(S:CS)(hS:∃ b<256,S.getLsbD b=true)(w:World):Calls prog 222 #[cB S,.int .i64 0] w λe w' => e=.returned (.tuple #[.int .u8 (B6 S:Nat),.bool true])/\an w [] w' := by
 refine ak (nt:=19) [.tmp 4,.tmp 5] func222 rfl rfl rfl ?_;refine vR Γ78 (aa Bx @dw) ?_;refine Wp.seq ?_;refine vR Γ78 Bx ?_;refine Wp.block ?_
 refine Wp.loop (λj:Nat=>⟨20,eA [(2,.is (.own 0 0)),(6,.is (.v (.int .i64 (j:Nat))))],dS [(0,.cells 309 ((nw S).map .v))]⟩) (λj=>j<=256/\∀ k<j,S.getLsbD k=false) (λj=>256-j) 0 ?_ ⟨Nat.zero_le _,λk h=>by omega⟩ ?_
 ·exact wM (λk=>.key k) Bx
 rintro j ⟨hj,hn⟩;refine Wp.seq ?_;refine vR Γ78 Bx ?_;refine wC Bx (λhc=>?_) (λhc=>?_)
 ·have hlt:j<256:=by
   simp at hc;omega
  have wj:IntKind.i64.wrap ((j:Int)+1)=((j+1:Nat):Int):=wW;have wu:IntKind.u8.wrap (j:Int)=(j:Int):=vF oM oM;refine wK ?_;refine Wp.seq (Wp.block ?_);refine wR Γ78 (bp Bx wu @cT) ?_ ?_
  ·omega
  refine wC Bx (λhc=>?_) (λhc=>?_)
  ·rw[afI S j hlt hn hc];refine vR Γ78 (aa Bx wu) ?_;refine wZ Bx ?_;exact λE=>rfl
  ·refine wK ?_;refine vr Γ78 (aa Bx wj) ?_;refine⟨j+1,⟨oM,λk hk=>?_⟩,oM,?_⟩
   ·by_cases h:k=j
    ·rw[h];exact hc
    ·exact hn k oM
   ·exact wM (λk=>.key k) Bx
 ·exfalso;have hj' : j=256:=by
   simp at hc;omega
  subst hj';obtain⟨b,h1,h2⟩:=hS;rw[hn b h1]at h2;cases h2
theorem Y7(S:CS)(h:vW S=1):∃ b<256,S.getLsbD b=true:=by
 refine Classical.byContradiction λhn=>?_
 have:=UF S 256 λj hj=>by
  cases hb:S.getLsbD j with
  |false=>rfl
  |true=>exact absurd ⟨j,hj,hb⟩ hn
 rw[vW]at h;omega
noncomputable def ym:a8 prog 222 where
 pre:=λW bs=>λ| [.val y0,.val (.int .i64 x)]=>(match dec cB y0 with|some S=>x=0/\∃ b<256,S.getLsbD b=true|_=>False)|_=>False
 res:=λW=>λ| [.val y0,.val (.int .i64 x)]=>(match dec cB y0 with|some S=>.tuple #[.int .u8 (B6 S:Nat),.bool true]|_=>undef)|_=>undef
 enters:=call222
 ok:=by
  intro W w bs us as_ hk hu hp;split at hp
  ·rename_i y0 x;split at hp
   ·rename_i S h0
    match us,hu with
    |[u0,u1],hu=>
     obtain⟨rfl,rfl,_⟩:=hu;obtain rfl:=gv h0
     try dsimp only
     try simp only[ca cJ]
     obtain⟨rfl,hS⟩:=hp;exact UE S hS w
   ·exact hp.elim
  ·exact hp.elim
theorem OC(W:World)(S:CS)(x:Int):ym.res W [.val (cB S),.val (.int .i64 x)]=.tuple #[.int .u8 (B6 S:Nat),.bool true]:=by simp only[ym,ca cJ]
theorem OB(W:World)(bs:List Nat)(S:CS)(x:Int):ym.pre W bs [.val (cB S),.val (.int .i64 x)]=(x=0/\∃ b<256,S.getLsbD b=true):=by simp only[ym,ca cJ]
def PB(n:Int):ByteArray:=⟨(Lib.itoa n).toArray⟩
theorem aaR(n:Nat):PB n=⟨(Lib.decDigits n).toArray⟩:=by
 unfold PB Lib.itoa;rw[if_neg oM,Int.toNat_natCast]
theorem Cs:∀ (k u:Nat),u<10 ^ (k+1)->Lib.nDigits u<=k+1
 |0,u,h=>by rw[Lib.nDigits_small oM];omega
 | k+1,u,h=>by
  by_cases h1:u<10
  ·rw[Lib.nDigits_small h1];omega
  ·rw[Lib.nDigits_big h1];have:=Cs k (u / 10) (by rw[Nat.pow_succ]at h;omega);omega
theorem Ge{n:Int}(h0:0<=n)(h1:n<=9223372036854775807):(PB n).size<=19:=by
 obtain⟨m,rfl⟩:=Int.eq_ofNat_of_zero_le h0;rw[aaR];show (Lib.decDigits m).length<=19;rw[Lib.decDigits_length];exact Cs 18 m oM
def nF(W:World)(S:Nat->Prop):Prop:=S 3/\Lib.TabIs prog W "internal/strconv.uint64pow10" .u64 Lib.pow10Tab
theorem ZH:prog.globalNamed "internal/strconv.uint64pow10"=some 3:=kR
theorem nF.mono{W W' : World}{S S' : Nat->Prop}(h:nF W S)(hs:aX W S W' S'):nF W' S' := by
 obtain⟨h0,h1⟩:=h;unfold Lib.TabIs World.var? at h1;rw[ZH,Option.bind_some]at h1;have hlt:3<W.heap.size:=by
  refine Decidable.byContradiction λhn=>?_
  rw[Array.getElem?_eq_none oM]at h1;cases h1
 obtain⟨g1,g2⟩:=hs 3 hlt h0;refine⟨g2,?_⟩;unfold Lib.TabIs World.var?;rw[ZH,Option.bind_some,g1];exact h1
theorem nF.gh{W w:World}{bs fp:List Nat}(h:nF W (Out bs))(hk:an W bs w)(hm:∀ b∈fp,W.heap.size<=b\/b∈bs):nF w (Out fp):=
 h.mono λb hb hs=>⟨hk.block b hb hs,λhb' => (hm b hb').elim (λg=>absurd g (Nat.not_le.2 hb)) hs⟩
theorem ZX(n:Int)(h0:0<=n)(h1:n<=9223372036854775807)(w:World)(ht:nF w (Out [])):Calls prog 39 #[.int .i64 n] w λe w' => e=.returned (.string (PB n))/\LE.an w [] w' := by
 refine (Any.strconv_Itoa Tryz.afF n oM h1 w ht.2).mono ?_;rintro e w' ⟨rfl,k,os,rfl⟩;exact⟨rfl,LE.an.LH (Lib.below_grow _ w (Nat.le_refl _) k os)⟩
def Sz:a8 prog 39 where
 pre:=λW bs=>λ| [.val (.int .i64 n)]=>(0<=n/\n<=9223372036854775807)/\nF W (Out bs)|_=>False
 res:=λW=>λ| [.val (.int .i64 n)]=>.string (PB n)|_=>undef
 enters:=call39
 ok:=by
  intro W w bs us as_ hk hu hp;split at hp
  ·rename_i n
   match us,hu with
   |[u0],hu=>
    obtain⟨rfl,_⟩:=hu;exact ZX n hp.1.1 hp.1.2 w (hp.2.gh hk sI)
  ·exact hp.elim
theorem Vp(W:World)(n:Int):Sz.res W [.val (.int .i64 n)]=.string (PB n):=rfl
theorem Vo(W:World)(bs:List Nat)(n:Int):Sz.pre W bs [.val (.int .i64 n)]=((0<=n/\n<=9223372036854775807)/\nF W (Out bs)):=rfl
def opR:Rx->Int
 |.eps=>0
 |.cls _=>1
 |.cat _ _=>2
 |.alt _ _=>3
 |.star _=>4
 |.and _ _=>5
 |.minus _ _=>6
def Yq(l:List Nd):Nat->Rx->Prop
 |i,.eps=>∃ d,l[i]?=some d/\d.op=0
 |i,.cls S=>∃ d,l[i]?=some d/\d.op=1/\d.set=S
 |i,.cat a b=>∃ d,∃ x y:Nat,l[i]?=some d/\d.op=2/\d.a=x/\d.b=y/\x<y/\Yq l x a/\Yq l y b
 |i,.alt a b=>∃ d,∃ x y:Nat,l[i]?=some d/\d.op=3/\d.a=x/\d.b=y/\x<y/\Yq l x a/\Yq l y b
 |i,.star a=>∃ d,∃ x:Nat,l[i]?=some d/\d.op=4/\d.a=x/\Yq l x a
 |i,.and a b=>∃ d,∃ x y:Nat,l[i]?=some d/\d.op=5/\d.a=x/\d.b=y/\x<y/\Yq l x a/\Yq l y b
 |i,.minus a b=>∃ d,∃ x y:Nat,l[i]?=some d/\d.op=6/\d.a=x/\d.b=y/\x<y/\Yq l x a/\Yq l y b
theorem Yq.op{l:List Nd}{i:Nat}{t:Rx}(h:Yq l i t):∃ d,l[i]?=some d/\d.op=opR t:=by
 cases t with
 |eps=>obtain⟨d,h1,h2⟩:=h;exact⟨d,h1,h2⟩
 |cls S=>obtain⟨d,h1,h2,_⟩:=h;exact⟨d,h1,h2⟩
 |star a=>obtain⟨d,_,h1,h2,_⟩:=h;exact⟨d,h1,h2⟩
 |cat a b=>obtain⟨d,_,_,h1,h2,_⟩:=h;exact⟨d,h1,h2⟩
 |alt a b=>obtain⟨d,_,_,h1,h2,_⟩:=h;exact⟨d,h1,h2⟩
 |and a b=>obtain⟨d,_,_,h1,h2,_⟩:=h;exact⟨d,h1,h2⟩
 |minus a b=>obtain⟨d,_,_,h1,h2,_⟩:=h;exact⟨d,h1,h2⟩
abbrev reV (ao:Option Addr)(n c:Nat)(r:Int):Value:=.agg #[.slice ao n c,.int .i64 r]
abbrev AtT (l:List Nd)(ao:Option Addr)(c:Nat)(r:Int)(i:Nat)(t:Rx):Prop:=∀ (need:Int) (w:World),G6 w ao (Uk l)->Calls prog 157 #[reV ao l.length c r,.int .i64 (i:Nat),.int .i64 need] w λe w' => e=.returned (.string (Ye t need))/\an w [] w'
theorem za{W w:World}{bs:List Nat}{ao:Option Addr}{vs:List Value}(h:jY W (Out bs) ao vs)(hk:an W bs w):G6 w ao vs:=(h.mono hk.e7).is
section
variable (l:List Nd)(ao:Option Addr)(c:Nat)(r:Int)
section
variable (x y:Nat)(a b:Rx)(ha:AtT l ao c r x a)(hb:AtT l ao c r y b)
end
theorem jz(t:Rx)(need:Int):(Ye t need).size<=2400*bO t+2:=by
 have h1:=cR t;have h2:=fW (A6 t) need (dc t);unfold Ye;omega
end
noncomputable def Fx:Env prog:=⟨λ| 138=>some ixC.spec|_=>none,λ| _=>none,λ_ _=>none⟩
theorem ajh:Fx.sp 138=some ixC.spec:=rfl
theorem IP:∀ n:Fin 256,let b:=((n.val:Nat):Int);let h:ByteArray:=⟨#[48,49,50,51,52,53,54,55,56,57,97,98,99,100,101,102]⟩;
  let x:=h.extract (b.fdiv 16).toNat (IntKind.u8.wrap (b.fdiv 16+1)).toNat;let y:=h.extract (cu .and .u8 b 15).toNat (IntKind.u8.wrap (cu .and .u8 b 15+1)).toNat;
  (0<=b.fdiv 16/\b.fdiv 16<=IntKind.u8.wrap (b.fdiv 16+1)/\IntKind.u8.wrap (b.fdiv 16+1)<=16)/\(0<=cu .and .u8 b 15/\cu .and .u8 b 15<=IntKind.u8.wrap (cu .and .u8 b 15+1)/\IntKind.u8.wrap (cu .and .u8 b 15+1)<=16) /\
  (x.size=1/\y.size=1)/\(⟨#[92,120]⟩:ByteArray)++x++y=⟨#[92,120,hxD (b / 16),hxD (b % 16)]⟩:=by decide +kernel
def cV:=(ae @List.replicate_succ.{0} @List.replicate_zero.{0} @au @ab lx ly Tr (ae Tw TS lA di dj dk dm (ae dB dD dF dG mZ nc nf (ae ng nh eK eL eM eN eO (ae eP acF acG acH acI ajV ajW (ae ajX ajY ajZ aj0 aj1 aj2 aj3 (ae aj4 @aV @aw @aD @aF @HJ @HI ajh)))))))
theorem KM(b:Int)(q:ByteArray)(h0:0<=b)(h1:b<256)(w:World)(hg:bj w (Out [])):Calls prog 223 #[.int .u8 b,.string q] w λe w' => e=.returned (.string (vJ b (uP q b)))/\an w [] w' := by
 obtain⟨g0,g1,g2,g3,g4,g5,g6⟩:=hg;refine ak (nt:=54) [.tmp 4] func223 rfl rfl rfl ?_;refine vR Fx cV ?_;refine Wp.seq ?_;refine vR Fx (EL cV g1 g2 g3 g4 g5 g6) ?_;refine Wp.block ?_
 refine Wp.loop (λk:Nat=>⟨40,eA [(0,.is (.v (.int .u8 b))),(1,.is (.v (.string q))),(7,.is (.agg [.v (.int .u8 110),.v (.int .u8 10),.v (.int .u8 114),.v (.int .u8 13),.v (.int .u8 116),.v (.int .u8 9)])),(8,.is (.v (.int .i64 k)))],dS []⟩)
  (λk=>k<=3/\(0<k->b≠10)/\(1<k->b≠13)/\(2<k->b≠9)) (λk=>3-k) 0 ?_ ⟨oM,oM,oM,oM⟩ ?_
 ·exact wM (λk=>.key k) cV
 rintro k ⟨k0,k1,k2,k3⟩;refine vR Fx cV ?_;refine Wp.seq ?_;refine wC cV (λhc=>?_) (λhc=>?_)
 ·simp at hc;refine wK ?_;have hk3:k<3:=oM;have hcase:k=0\/k=1\/k=2:=oM;refine Wp.seq (Wp.block ?_);rcases hcase with rfl|rfl|rfl
  ·skip;refine vR Fx cV ?_;refine vR Fx cV ?_;refine wC cV (λhc=>?_) (λhc=>?_)
   ·have hb:b=10:=by simp at hc;omega
    have he:vJ b (uP q b)=⟨#[92,110]⟩:=by rw[vJ,if_pos hb]
    rw[he];refine wR Fx cV ?_ ?_
    ·show 1+1<=9223372036854775807;omega
    refine wZ cV ?_;exact λE=>rfl
   ·have hb:¬ b=10:=by simp at hc;omega
    refine wK ?_;refine vr Fx cV ?_;refine⟨1,⟨oM,λ_=>hb,oM,oM⟩,oM,?_⟩;exact wM (λk=>.key k) cV
  ·skip;refine vR Fx cV ?_;refine vR Fx cV ?_;refine wC cV (λhc=>?_) (λhc=>?_)
   ·have hb:b=13:=by simp at hc;omega
    have he:vJ b (uP q b)=⟨#[92,114]⟩:=by rw[vJ,if_neg (k1 oM),if_pos hb]
    rw[he];refine wR Fx cV ?_ ?_
    ·show 1+1<=9223372036854775807;omega
    refine wZ cV ?_;exact λE=>rfl
   ·have hb:¬ b=13:=by simp at hc;omega
    refine wK ?_;refine vr Fx cV ?_;refine⟨2,⟨oM,λ_=>k1 oM,λ_=>hb,oM⟩,oM,?_⟩;exact wM (λk=>.key k) cV
  ·skip;refine vR Fx cV ?_;refine vR Fx cV ?_;refine wC cV (λhc=>?_) (λhc=>?_)
   ·have hb:b=9:=by simp at hc;omega
    have he:vJ b (uP q b)=⟨#[92,116]⟩:=by rw[vJ,if_neg (k1 oM),if_neg (k2 oM),if_pos hb]
    rw[he];refine wR Fx cV ?_ ?_
    ·show 1+1<=9223372036854775807;omega
    refine wZ cV ?_;exact λE=>rfl
   ·have hb:¬ b=9:=by simp at hc;omega
    refine wK ?_;refine vr Fx cV ?_;refine⟨3,⟨oM,λ_=>k1 oM,λ_=>k2 oM,λ_=>hb⟩,oM,?_⟩;exact wM (λk=>.key k) cV
 ·have hk:k=3:=by
   simp at hc;omega
  have n10:=k1 oM;have n13:=k2 oM;have n9:=k3 oM;refine wE ?_;refine Wp.seq (Wp.block ?_);refine vR Fx cV ?_;refine wC cV (λhc=>?_) (λhc=>?_)
  ·have h:b<32\/126<b:=by simpa using hc
   have e:vJ b (uP q b)=⟨#[92,120,hxD (b / 16),hxD (b % 16)]⟩:=by rw[vJ,if_neg n10,if_neg n13,if_neg n9,if_pos h]
   rw[e];obtain⟨n,rfl⟩:=Int.eq_ofNat_of_zero_le h0;obtain⟨f1,f2,⟨f3,f4⟩,f5⟩:=IP ⟨n,oM⟩;simp only at f1 f2 f3 f4 f5;refine kT Fx cV ?_ ?_
   ·refine⟨f1,?_,f2,?_⟩
    ·rw[f3];show 2+1<=9223372036854775807;omega
    ·rw[f4,ByteArray.size_append,f3];show 2+1+1<=9223372036854775807;omega
   refine wZ cV ?_;exact λE=>congrArg Value.string f5
  have n32:¬ (b<32\/126<b):=by simpa using hc
  refine vR Fx cV ?_;refine wC cV (λhc=>?_) (λhc=>?_)
  ·have hi:uP q b=true:=by rw[uP];simpa using hc
   have e:vJ b (uP q b)=⟨#[92,b.toNat.toUInt8]⟩:=by rw[vJ,if_neg n10,if_neg n13,if_neg n9,if_neg n32,if_pos hi]
   rw[e];refine wR Fx cV ?_ ?_
   ·show 1+1<=9223372036854775807;omega
   refine wZ cV ?_;exact λE=>rfl
  ·have hi:¬ uP q b=true:=by rw[uP];simpa using hc
   have e:vJ b (uP q b)=⟨#[b.toNat.toUInt8]⟩:=by rw[vJ,if_neg n10,if_neg n13,if_neg n9,if_neg n32,if_neg hi]
   rw[e];refine wK ?_;refine vR Fx cV ?_;refine wZ cV ?_;exact λE=>rfl
def vY:a8 prog 223 where
 pre:=λW bs=>λ| [.val (.int .u8 b),.val (.string q)]=>(0<=b/\b<256)/\bj W (Out bs)|_=>False
 res:=λW=>λ| [.val (.int .u8 b),.val (.string q)]=>.string (vJ b (uP q b))|_=>undef
 enters:=call223
 ok:=by
  intro W w bs us as_ hk hu hp;split at hp
  ·rename_i b q
   match us,hu with
   |[u0,u1],hu=>
    obtain⟨rfl,rfl,_⟩:=hu;exact KM b q hp.1.1 hp.1.2 w (hp.2.gh hk sI)
  ·exact hp.elim
theorem Hq(W:World)(b:Int)(q:ByteArray):vY.res W [.val (.int .u8 b),.val (.string q)]=.string (vJ b (uP q b)):=rfl
theorem Ho(W:World)(bs:List Nat)(b:Int)(q:ByteArray):vY.pre W bs [.val (.int .u8 b),.val (.string q)]=((0<=b/\b<256)/\bj W (Out bs)):=rfl
noncomputable def vK:Env prog:=⟨λ| 221=>some tp.spec|222=>some ym.spec|223=>some vY.spec|224=>some Fc.spec|225=>some zU.spec|_=>none,λ| _=>none,λ_ _=>none⟩
theorem aji:vK.sp 221=some tp.spec:=rfl
theorem ajj:vK.sp 222=some ym.spec:=rfl
theorem ajk:vK.sp 223=some vY.spec:=rfl
theorem ajl:vK.sp 224=some Fc.spec:=rfl
theorem ajm:vK.sp 225=some zU.spec:=rfl
attribute [local simp] aR
theorem KL(S:CS)(h1:vW S≠1):∃ (T:CS) (pre:ByteArray),ru S=gm T pre 256++Y5/\pre.size<=2/\(T,pre)=(if 128<vW S then (~~~S,LM) else (S,LK)):=by
 by_cases h:128<vW S
 ·exact⟨~~~S,LM,by rw[ru,if_neg h1,if_pos h],dE,by rw[if_pos h]⟩
 ·exact⟨S,LK,by rw[ru,if_neg h1,if_neg h],dE,by rw[if_neg h]⟩
def bZ:=(ae @List.replicate_succ.{0} @List.replicate_zero.{0} @au @ab lx ly lA (ae di dj dk dm dB dD dF (ae dG mZ nc nf ng nh eK (ae eL eM eN eO eP xz xA (ae xB xC xJ xK xL xM Ny (ae Nz @aV @aw @aD @aF @zT @zS (ae @OC @OB @Hq @Ho @LB @LA @FM (ae @FL @iZ @nr @np @kK @re @akp (oQ @alw aji ajj ajk ajl ajm)))))))))
theorem UJ(S:CS)(w:World)(hg:bj w (Out [])):Calls prog 182 #[cB S] w λe w' => e=.returned (.string (ru S))/\an w [] w' := by
 refine ak (nt:=67) [.tmp 2] func182 rfl rfl rfl ?_;refine vR vK (aa bZ @dw) ?_;refine vR vK (aa bZ @cT) ?_;refine Wp.seq ?_;refine vR vK bZ ?_;refine wC bZ (λhc=>?_) (λhc=>?_)
 ·have h1:vW S=1:=by simp at hc;omega
  have hl:=SS S 256 0;obtain⟨b0,hb0,hb1⟩:=Y7 S h1;have hlt:B6 S<256:=by
   have hx:∀ k j,j+k=256->j<=b0->HX S k j<256:=by
    intro k
    induction k with
    |zero=>intro j h1 h2;omega
    | succ k ih=>
     intro j h1 h2;unfold HX;split
     ·omega
     ·rename_i hn;refine ih (j+1) oM ?_;by_cases he:j=b0
      ·rw[he]at hn;exact absurd hb1 hn
      ·omega
   exact hx 256 0 rfl (Nat.zero_le _)
  have e:ru S=vJ (B6 S) (uP spc (B6 S)):=by rw[ru,if_pos h1]
  rw[e];refine wR vK (aa bZ @cT) ?_ ?_
  ·exact⟨b0,hb0,hb1⟩
  refine wR vK bZ ?_ ?_
  ·exact⟨⟨oM,oM⟩,hg⟩
  refine wZ bZ ?_;exact λE=>rfl
 have h1:vW S≠1:=by simp at hc;omega
 obtain⟨T,pre,he,hpre,hp⟩:=KL S h1;rw[he];refine wK ?_;refine vR vK bZ ?_;refine ig ⟨60,eA [(1,.is (.own 0 0)),(6,.is (.v (.string pre)))],dS [(0,.cells 309 ((nw T).map .v))]⟩ ?_ ?_
 ·skip;refine vR vK bZ ?_;refine wC bZ (λhc=>?_) (λhc=>?_)
  ·have h:128<vW S:=by simp at hc;omega
   rw[if_pos h,Prod.mk.injEq]at hp;obtain⟨rfl,rfl⟩:=hp;refine vR vK bZ ?_;refine vr vK (bp bZ @cT @dw) ?_;exact wM (λk=>.key k) bZ
  ·have h:¬ 128<vW S:=by simp at hc;omega
   rw[if_neg h,Prod.mk.injEq]at hp;obtain⟨rfl,rfl⟩:=hp;refine wK ?_;exact wM (λk=>.key k) bZ
 clear hp;refine Wp.seq ?_;refine vR vK bZ ?_;refine Wp.block ?_
 refine Wp.loop (λb:Nat=>⟨70,eA [(1,.is (.own 0 0)),(6,.is (.v (.string (gm T pre b)))),(7,.is (.v (.int .i64 (b:Nat))))],dS [(0,.cells 309 ((nw T).map .v))]⟩) (λb=>b<=256/\(b=0\/T.getLsbD (b-1)=false\/T.getLsbD b=false)) (λb=>256-b) 0 ?_ ⟨Nat.zero_le _,.inl rfl⟩ ?_
 ·exact wM (λk=>.key k) bZ
 rintro b ⟨hb,hinv⟩;refine Wp.seq ?_;refine vR vK bZ ?_;refine wC bZ (λhc=>?_) (λhc=>?_)
 ·have hlt:b<256:=by
   simp at hc;omega
  have wj:IntKind.i64.wrap ((b:Int)+1)=((b+1:Nat):Int):=wW;have wu:IntKind.u8.wrap (b:Int)=(b:Int):=vF oM oM;have hsz:=qg T pre b;refine wK ?_;refine Wp.seq (Wp.block ?_);refine Wp.seq ?_;refine wR vK (bp bZ wu @cT) ?_ ?_
  ·omega
  refine wC bZ (λhc=>?_) (λhc=>?_)
  ·have hTb:T.getLsbD b=false:=by simpa using hc
   have hs:stB T b=false:=by rw[stB,hTb];rfl
   have e:gm T pre (b+1)=gm T pre b:=by rw[gm,if_neg (by rw[hs];simp)]
   refine wE ?_;refine vr vK (aa bZ wj) ?_;refine⟨b+1,⟨oM,.inr (.inl hTb)⟩,oM,?_⟩;rw[e];exact wM (λk=>.key k) bZ
  have hTb:T.getLsbD b=true:=by simpa using hc
  have hs:stB T b=true:=by
   rw[stB,hTb,Bool.true_and];rcases hinv with h|h|h
   ·subst h;rfl
   ·rw[h];simp
   ·rw[hTb]at h;cases h
  have hbd:=agd T b hlt;have e:gm T pre (b+1)=Ua (gm T pre b) b (pE T b):=by rw[gm,if_pos hs]
  have e2:gm T pre (pE T b+1)=gm T pre (b+1):=Qi T pre b hlt hTb _ oM (Nat.le_refl _);have hout:T.getLsbD (pE T b+1)=false:=by
   by_cases h:pE T b<255
   ·exact abx T b hlt h
   ·exact BitVec.getLsbD_of_ge _ _ oM
  obtain⟨m,hm⟩:∃ m,pE T b=m:=⟨_,rfl⟩;generalize hO:gm T pre b=O at *;rw[hm]at hbd e e2 hout;rw[e]at e2;refine wK ?_;refine vR vK bZ ?_
  refine ig ⟨120,eA [(1,.is (.own 0 0)),(6,.is (.v (.string O))),(7,.is (.v (.int .i64 (b:Nat)))),(8,.is (.v (.int .i64 (m:Nat))))],dS [(0,.cells 309 ((nw T).map .v))]⟩ ?_ ?_
  ·skip;refine Wp.block ?_;refine Wp.loop (λk:Nat=>⟨100,eA [(1,.is (.own 0 0)),(6,.is (.v (.string O))),(7,.is (.v (.int .i64 (b:Nat)))),(8,.is (.v (.int .i64 (k:Nat))))],dS [(0,.cells 309 ((nw T).map .v))]⟩) (λk=>(b<=k/\k<256)/\pE T b=pE T k) (λk=>256-k) b ?_ ⟨⟨Nat.le_refl _,hlt⟩,rfl⟩ ?_
   ·exact wM (λk=>.key k) bZ
   rintro k ⟨⟨hk1,hk⟩,hke⟩;have wk:IntKind.i64.wrap ((k:Int)+1)=((k+1:Nat):Int):=wW;have fin:(k<255->T.getLsbD (k+1)=false)->k=m:=λh=>by
    have:=WC T k h;omega
   by_cases hbk:k<255
   ·have hd:decide ((k:Int)<255)=true:=by simp;omega
    have wu:IntKind.u8.wrap ((k+1:Nat):Int)=((k+1:Nat):Int):=vF oM oM;refine Wp.seq ?_;refine wR vK (nu bZ wk hd wu @cT) ?_ ?_
    ·omega
    refine wC bZ (λhc=>?_) (λhc=>?_)
    ·refine wK ?_;refine Wp.block ?_;refine vr vK (aa bZ wk) ?_;refine⟨k+1,⟨⟨oM,oM⟩,by rw[hke];exact WB T k hbk hc⟩,oM,?_⟩;exact wM (λk=>.key k) bZ
    ·refine wE ?_;have hf:=fin λ_=>hc
     subst hf;exact wM (λk=>.key k) bZ
   ·have hd:decide ((k:Int)<255)=false:=by simp;omega
    refine Wp.seq ?_;refine wR vK (fg bZ wk hd @cT) ?_ ?_
    ·simp
    refine wC bZ (λhc=>?_) (λhc=>?_)
    ·exact absurd hc sI
    ·refine wE ?_;have hf:=fin λh=>absurd h hbk
     subst hf;exact wM (λk=>.key k) bZ
  have wm:IntKind.u8.wrap ((m:Nat):Int)=((m:Nat):Int):=vF oM oM;have wm1:IntKind.i64.wrap ((m:Int)+1)=((m+1:Nat):Int):=wW;have hb1:=s8 b (uP zM b);have hb2:=s8 ((m:Nat):Int) (uP zM ((m:Nat):Int));rw[aes]at e2;refine wR vK (aa bZ wu) ?_ ?_
  ·exact⟨⟨⟨oM,oM⟩,hg⟩,oM⟩
  have hO1:(O++vJ b (uP zM b)).size<=2400:=by rw[ByteArray.size_append];omega
  generalize O++vJ b (uP zM b)=O1 at *;refine ig ⟨150,eA [(1,.is (.own 0 0)),(6,.is (.v (.string (if b+1<m then O1++vZ else O1)))),(7,.is (.v (.int .i64 (b:Nat)))),(8,.is (.v (.int .i64 (m:Nat))))],dS [(0,.cells 309 ((nw T).map .v))]⟩ ?_ ?_
  ·skip;refine vR vK (aa bZ wj) ?_;refine wC bZ (λhc=>?_) (λhc=>?_)
   ·have h:b+1<m:=by simp at hc;omega
    rw[if_pos h];refine wr vK bZ ?_ ?_
    ·show O1.size+1<=_;omega
    exact wM (λk=>.key k) bZ
   ·have h:¬ b+1<m:=by simp at hc;omega
    rw[if_neg h];refine wK ?_;exact wM (λk=>.key k) bZ
  have hO2:(if b+1<m then O1++vZ else O1).size<=2401:=by
   split
   ·rw[ByteArray.size_append];show O1.size+1<=2401;omega
   ·omega
  generalize (if b+1<m then O1++vZ else O1)=O2 at *;refine ig ⟨170,eA [(1,.is (.own 0 0)),(6,.is (.v (.string (gm T pre (m+1))))),(8,.is (.v (.int .i64 (m:Nat))))],dS [(0,.cells 309 ((nw T).map .v))]⟩ ?_ ?_
  ·skip;refine vR vK bZ ?_;refine wC bZ (λhc=>?_) (λhc=>?_)
   ·have h:b<m:=by simp at hc;omega
    rw[if_pos h]at e2;rw[e2];refine wr vK (aa bZ wm) ?_ ?_
    ·exact⟨⟨⟨oM,oM⟩,hg⟩,oM⟩
    exact wM (λk=>.key k) bZ
   ·have h:¬ b<m:=by simp at hc;omega
    rw[if_neg h]at e2;rw[e2];refine wK ?_;exact wM (λk=>.key k) bZ
  refine vr vK bZ ?_;refine vr vK (aa bZ wm1) ?_;refine⟨m+1,⟨oM,.inr (.inr hout)⟩,oM,?_⟩;exact wM (λk=>.key k) bZ
 ·have hb' : b=256:=by
   simp at hc;omega
  subst hb';have hsz:=qg T pre 256;refine wE ?_;refine wR vK bZ ?_ ?_
  ·show (gm T pre 256).size+1<=_;omega
  refine wZ bZ ?_;exact λE=>rfl
noncomputable def yn:a8 prog 182 where
 pre:=λW bs=>λ| [.val y0]=>(match dec cB y0 with|some S=>bj W (Out bs)|_=>False)|_=>False
 res:=λW=>λ| [.val y0]=>(match dec cB y0 with|some S=>.string (ru S)|_=>undef)|_=>undef
 enters:=call182
 ok:=by
  intro W w bs us as_ hk hu hp;split at hp
  ·rename_i y0;split at hp
   ·rename_i S h0
    match us,hu with
    |[u0],hu=>
     obtain⟨rfl,_⟩:=hu;obtain rfl:=gv h0
     try dsimp only
     try simp only[ca cJ]
     exact UJ S w (hp.gh hk sI)
   ·exact hp.elim
  ·exact hp.elim
theorem ON(W:World)(S:CS):yn.res W [.val (cB S)]=.string (ru S):=by simp only[yn,ca cJ]
theorem OM(W:World)(bs:List Nat)(S:CS):yn.pre W bs [.val (cB S)]=(bj W (Out bs)):=by simp only[yn,ca cJ]
def OO(s:ByteArray):Except (Int×Int) RT:=sk (bt s) s.size (og s)
theorem YT{c:Int->Int}{N i:Int}{e:Int×Int}(h:xY c N i=.error e):e.1≠0:=by
 have hn:∀ i e,py c N i=.error e->e.1≠0:=λi e h=>by
  unfold py at h;split at h
  ·cases h;show (20:Int)≠0;omega
  ·cases h
 have hu:∀ m i e,RV c N m i=.error e->e.1≠0:=λm i e h=>by
  unfold RV at h;split at h
  ·split at h
   ·exact hn _ _ h
   ·cases h
  ·cases h
 unfold xY at h;cases h1:py c N (i+1) with
 |error e1=>rw[h1]at h;cases h;exact hn _ _ h1
 | ok p=>
  rw[h1]at h;simp only at h;cases h2:RV c N p.1 p.2 with
  |error e2=>rw[h2]at h;cases h;exact hu _ _ _ h2
  | ok q=>
   rw[h2]at h;simp only at h;unfold zL at h;split at h
   ·cases h;show (20:Int)≠0;omega
   ·split at h
    ·cases h;show (22:Int)≠0;omega
    ·cases h
theorem ak9{c:Int->Int}{N i:Int}(h:c i≠123):mnA c N i=.ok (if c i=43 then -2 else 0,if c i=63 then 1 else -1,i+1):=by
 unfold mnA;by_cases h1:c i=43
 ·rw[if_pos h1,if_pos h1,if_neg oM]
 ·rw[if_neg h1,if_neg h1];by_cases h2:c i=63
  ·rw[if_pos h2,if_pos h2]
  ·rw[if_neg h2,if_neg h2,if_neg h]
theorem ak8{c:Int->Int}{N i:Int}(h:c i=123):mnA c N i=xY c N i:=by
 unfold mnA;rw[if_neg oM,if_neg oM,if_pos h]
section
variable (ar:List Nd)(ts:List RT)(ao:Option Addr)(c n:Nat)
end
abbrev Bk (n:Nat):Prop:=∀ (t:Rx) (need:Int) (w:World),dp t<n->bO t<=4000000->bj w (Out [])->Calls prog 129 #[ay t,.int .i64 need] w λe w' => e=.returned (.string (Ye t need))/\an w [] w'
noncomputable def MJ(n:Nat)(h:Bk n):a8 prog 129 where
 pre:=λW bs as_=>∃ (t:Rx) (need:Int),as_=[.val (ay t),.val (.int .i64 need)]/\dp t<n/\bO t<=4000000/\bj W (Out bs)
 res:=λ_ as_=>match as_ with
  |[.val v,.val (.int _ need)]=>(match dec ay v with
   |some t=>.string (Ye t need)
   |_=>undef)
  |_=>undef
 enters:=call129
 ok:=by
  intro W w bs us as_ hk hu hp;obtain⟨t,need,rfl,h1,h2,h3⟩:=hp
  match us,hu with
  |[x,y],hu=>
   obtain⟨rfl,rfl,_⟩:=hu;simp only[ca bb];exact h t need w h1 h2 (h3.gh hk sI)
section
variable (n:Nat)(h:Bk n)
theorem Xi(W:World)(bs:List Nat)(t:Rx)(need:Int):(MJ n h).pre W bs [.val (ay t),.val (.int .i64 need)]=(dp t<n/\bO t<=4000000/\bj W (Out bs)):=by
 apply propext;constructor
 ·rintro⟨t',need',h1,h2⟩;simp only[List.cons.injEq,AV.val.injEq,Value.int.injEq,true_and,and_true]at h1;obtain⟨h1,rfl⟩:=h1;obtain rfl:=bb _ _ h1;exact h2
 ·exact λh=>⟨t,need,rfl,h⟩
theorem Xj(W:World)(t:Rx)(need:Int):(MJ n h).res W [.val (ay t),.val (.int .i64 need)]=.string (Ye t need):=by
 simp only[MJ,ca bb]
noncomputable def lB:Env prog:=⟨λ| 129=>some (MJ n h).spec|182=>some yn.spec|_=>none,λ_=>none,λ_ _=>none⟩
theorem ajn:(lB n h).sp 129=some (MJ n h).spec:=rfl
theorem ajo:(lB n h).sp 182=some yn.spec:=rfl
end
def bw:=(ae @List.replicate_succ.{0} @List.replicate_zero.{0} @au @ab lx ly lA (ae di dj dk dm dB dD dF (ae dG eK eL eM eN eO eP (ae iH iI iJ iK xz xA xB (ae xC M5 M6 M7 M8 M9 Na (ae Nb Nc D9 Ea Eb Ec Ed (ae Ee Ef Eg Eh Ei Ej Ek (ae El Em Eo Ep GK GL GM (ae GN GO GP GQ GR GS Nf (ae Ng Nh Ni Nj Nk Nl Nn (ae No Np Nq Nr Ns Nt Nu (ae Nv Nw Nx xJ xK xL xM (ae Tx Ty Tz TA TB TC TD (ae TF @aV @aw @aD @aF @ON @OM (ae @iZ @nr @np @kK @re @cf @aM (oQ @dw @cT @ajn @ajo @Xi @Xj))))))))))))))))
theorem Xk(n:Nat)(h:Bk n):Bk (n+1):=by
 intro t need w hdp hsz hg;have hbs:=cR t;refine ak (nt:=82) [.tmp 4] func129 rfl rfl rfl ?_;refine vR (lB n h) bw ?_;refine vR (lB n h) bw ?_;refine ig ⟨200,eA [(1,.is (.v (.int .i64 need))),(5,.is (.v (.string (dc t)))),(6,.is (.v (.int .i64 (A6 t))))],dS []⟩ ?_ ?_
 ·skip;refine vR (lB n h) bw ?_;refine Wp.block ?_;cases t with
  |eps=>
   have hv:ay (.eps)=_:=rfl;unfold ay;refine vR (lB n h) bw ?_;refine wC bw (λhc=>?_) (λhc=>?_)
   rotate_left
   ·exact absurd hc sI
   refine wR (lB n h) bw ?_ ?_
   ·first|trivial|simp
   refine vr (lB n h) bw ?_;exact wM (λk=>.key k) bw
  |cls S=>
   have hv:ay (.cls S)=_:=rfl;unfold ay;refine vR (lB n h) bw ?_;refine wC bw (λhc=>?_) (λhc=>?_)
   ·exact absurd hc sI
   refine vR (lB n h) bw ?_;refine wC bw (λhc=>?_) (λhc=>?_)
   rotate_left
   ·exact absurd hc sI
   refine wR (lB n h) bw ?_ ?_
   ·first|trivial|simp
   refine wr (lB n h) bw ?_ ?_
   ·exact hg
   exact wM (λk=>.key k) bw
  |alt a b=>
   have hd:dp a+dp b+1<n+1:=hdp;have hz:bO a+bO b+1<=4000000:=hsz;have s1:=jz a 0;have s2:=jz b 1;have hv:ay (.alt a b)=_:=rfl;unfold ay;refine vR (lB n h) bw ?_;refine wC bw (λhc=>?_) (λhc=>?_)
   ·exact absurd hc sI
   refine vR (lB n h) bw ?_;refine wC bw (λhc=>?_) (λhc=>?_)
   ·exact absurd hc sI
   refine vR (lB n h) bw ?_;refine wC bw (λhc=>?_) (λhc=>?_)
   rotate_left
   ·exact absurd hc sI
   refine wR (lB n h) bw ?_ ?_
   ·rw[Bool.and_eq_true];exact⟨aM a,aM b⟩
   refine J3 (lB n h) bw ?_ ?_
   ·exact⟨⟨oM,oM,hg⟩,by show _+1<=_;omega,⟨oM,oM,hg⟩,by rw[ByteArray.size_append];show _+1+_<=_;omega⟩
   exact wM (λk=>.key k) bw
  |and a b=>
   have hd:dp a+dp b+1<n+1:=hdp;have hz:bO a+bO b+1<=4000000:=hsz;have s1:=jz a 1;have s2:=jz b 2;have hv:ay (.and a b)=_:=rfl;unfold ay;refine vR (lB n h) bw ?_;refine wC bw (λhc=>?_) (λhc=>?_)
   ·exact absurd hc sI
   refine vR (lB n h) bw ?_;refine wC bw (λhc=>?_) (λhc=>?_)
   ·exact absurd hc sI
   refine vR (lB n h) bw ?_;refine wC bw (λhc=>?_) (λhc=>?_)
   ·exact absurd hc sI
   refine vR (lB n h) bw ?_;refine wC bw (λhc=>?_) (λhc=>?_)
   rotate_left
   ·exact absurd hc sI
   refine wR (lB n h) bw ?_ ?_
   ·rw[Bool.and_eq_true];exact⟨aM a,aM b⟩
   refine J3 (lB n h) bw ?_ ?_
   ·exact⟨⟨oM,oM,hg⟩,by show _+1<=_;omega,⟨oM,oM,hg⟩,by rw[ByteArray.size_append];show _+1+_<=_;omega⟩
   exact wM (λk=>.key k) bw
  |minus a b=>
   have hd:dp a+dp b+1<n+1:=hdp;have hz:bO a+bO b+1<=4000000:=hsz;have s1:=jz a 1;have s2:=jz b 2;have hv:ay (.minus a b)=_:=rfl;unfold ay;refine vR (lB n h) bw ?_;refine wC bw (λhc=>?_) (λhc=>?_)
   ·exact absurd hc sI
   refine vR (lB n h) bw ?_;refine wC bw (λhc=>?_) (λhc=>?_)
   ·exact absurd hc sI
   refine vR (lB n h) bw ?_;refine wC bw (λhc=>?_) (λhc=>?_)
   ·exact absurd hc sI
   refine vR (lB n h) bw ?_;refine wC bw (λhc=>?_) (λhc=>?_)
   ·exact absurd hc sI
   refine vR (lB n h) bw ?_;refine wC bw (λhc=>?_) (λhc=>?_)
   rotate_left
   ·exact absurd hc sI
   refine wR (lB n h) bw ?_ ?_
   ·rw[Bool.and_eq_true];exact⟨aM a,aM b⟩
   refine J3 (lB n h) bw ?_ ?_
   ·exact⟨⟨oM,oM,hg⟩,by show _+1<=_;omega,⟨oM,oM,hg⟩,by rw[ByteArray.size_append];show _+1+_<=_;omega⟩
   exact wM (λk=>.key k) bw
  |cat a b=>
   have hd:dp a+dp b+1<n+1:=hdp;have hz:bO a+bO b+1<=4000000:=hsz;have s1:=jz a 2;have s2:=jz b 3;have hv:ay (.cat a b)=_:=rfl;unfold ay;refine vR (lB n h) bw ?_;refine wC bw (λhc=>?_) (λhc=>?_)
   ·exact absurd hc sI
   refine vR (lB n h) bw ?_;refine wC bw (λhc=>?_) (λhc=>?_)
   ·exact absurd hc sI
   refine vR (lB n h) bw ?_;refine wC bw (λhc=>?_) (λhc=>?_)
   ·exact absurd hc sI
   refine vR (lB n h) bw ?_;refine wC bw (λhc=>?_) (λhc=>?_)
   ·exact absurd hc sI
   refine vR (lB n h) bw ?_;refine wC bw (λhc=>?_) (λhc=>?_)
   ·exact absurd hc sI
   refine vR (lB n h) bw ?_;refine wC bw (λhc=>?_) (λhc=>?_)
   rotate_left
   ·exact absurd hc sI
   refine wR (lB n h) bw ?_ ?_
   ·rw[Bool.and_eq_true];exact⟨aM a,aM b⟩
   refine J3 (lB n h) bw ?_ ?_
   ·exact⟨⟨oM,oM,hg⟩,⟨oM,oM,hg⟩,oM⟩
   exact wM (λk=>.key k) bw
  |star a=>
   have hd:dp a+1<n+1:=hdp;have hz:bO a+1<=4000000:=hsz;have s1:=jz a 3;have hv:ay (.star a)=_:=rfl;unfold ay;refine vR (lB n h) bw ?_;refine wC bw (λhc=>?_) (λhc=>?_)
   ·exact absurd hc sI
   refine vR (lB n h) bw ?_;refine wC bw (λhc=>?_) (λhc=>?_)
   ·exact absurd hc sI
   refine vR (lB n h) bw ?_;refine wC bw (λhc=>?_) (λhc=>?_)
   ·exact absurd hc sI
   refine vR (lB n h) bw ?_;refine wC bw (λhc=>?_) (λhc=>?_)
   ·exact absurd hc sI
   refine vR (lB n h) bw ?_;refine wC bw (λhc=>?_) (λhc=>?_)
   ·exact absurd hc sI
   refine vR (lB n h) bw ?_;refine wC bw (λhc=>?_) (λhc=>?_)
   ·exact absurd hc sI
   refine vR (lB n h) bw ?_;refine wC bw (λhc=>?_) (λhc=>?_)
   rotate_left
   ·exact absurd hc sI
   refine wR (lB n h) bw ?_ ?_
   ·exact aM a
   refine wr (lB n h) bw ?_ ?_
   ·exact⟨⟨oM,oM,hg⟩,by show _+1<=_;omega⟩
   exact wM (λk=>.key k) bw
 refine Wp.seq ?_;refine vR (lB n h) bw ?_;refine wC bw (λhc=>?_) (λhc=>?_)
 ·have hlt:A6 t<need:=by simpa using hc
  have e:Ye t need=lpB++dc t++rpB:=by rw[Ye,uV,if_pos hlt]
  rw[e];refine wR (lB n h) bw ?_ ?_
  ·refine⟨?_,?_⟩
   ·show 1+_<=_;omega
   ·rw[ByteArray.size_append];show 1+_+1<=_;omega
  refine wZ bw ?_;exact λE=>rfl
 ·have hlt:¬ A6 t<need:=by simpa using hc
  have e:Ye t need=dc t:=by rw[Ye,uV,if_neg hlt]
  rw[e];refine wK ?_;refine vR (lB n h) bw ?_;refine wZ bw ?_;exact λE=>rfl
theorem C7:∀ n,Bk n
 |0=>λt _ _ h=>absurd h (Nat.not_lt_zero _)
 |n+1=>Xk n (C7 n)
theorem YJ(t:Rx):Ye t 0=dc t:=by
 rw[Ye,uV,if_neg];cases t<;>simp[A6]
theorem P1(t:Rx)(w:World)(hsz:bO t<=4000000)(hg:bj w (Out [])):Calls prog 72 #[ay t] w λe w' => e=.returned (.string (dc t))/\an w [] w' := by
 refine ak (nt:=5) [.tmp 2] func72 rfl rfl rfl ?_;refine vR (lB (dp t+1) (C7 _)) bw ?_;refine wR (lB (dp t+1) (C7 _)) (aa bw @YJ) ?_ ?_
 ·exact⟨oM,hsz,hg⟩
 refine wZ bw ?_;exact λE=>rfl
noncomputable def tP:a8 prog 72 where
 pre:=λW bs=>λ| [.val y0]=>(match dec ay y0 with|some t=>bO t<=4000000/\bj W (Out bs)|_=>False)|_=>False
 res:=λW=>λ| [.val y0]=>(match dec ay y0 with|some t=>.string (dc t)|_=>undef)|_=>undef
 enters:=call72
 ok:=by
  intro W w bs us as_ hk hu hp;split at hp
  ·rename_i y0;split at hp
   ·rename_i t h0
    match us,hu with
    |[u0],hu=>
     obtain⟨rfl,_⟩:=hu;obtain rfl:=gv h0
     try dsimp only
     try simp only[ca bb]
     exact P1 t w hp.1 (hp.2.gh hk sI)
   ·exact hp.elim
  ·exact hp.elim
theorem L3(W:World)(t:Rx):tP.res W [.val (ay t)]=.string (dc t):=by simp only[tP,ca bb]
theorem L2(W:World)(bs:List Nat)(t:Rx):tP.pre W bs [.val (ay t)]=(bO t<=4000000/\bj W (Out bs)):=by simp only[tP,ca bb]
theorem OP{s:ByteArray}{t:RT}(h:OO s=.ok t):bO t.expand<=2000:=by
 have hd:sk (bt s) s.size (og s)=.ok t:=h;have h1:=Gh (c:=bt s) (N:=s.size) (rd:=og s) oM;have hz:t.sz<=2000:=by
  unfold sk at hd;split at hd
  ·cases hd
  ·unfold rO at hd;split at hd
   ·cases hd
   ·split at hd
    ·cases hd
    ·split at hd
     ·cases hd
     ·simp only[Except.ok.injEq]at hd;rename_i hn;rw[<- hd];omega
 rw[hd]at h1;cases h2:yM (bt s) s.size (og s) with
 |error e=>rw[h2]at h1;exact h1.elim
 |ok q=>
  rw[h2]at h1;obtain⟨ts,a1,a2,a3⟩:=h1;exact a1.small (List.mem_of_getElem? a3) hz
theorem pB(s:ByteArray):pA s=ak1 (OO s):=Wg (Aj s) oM
def tyE(s:ByteArray):Bool:=match OO s with
 |.ok t=>decide (dc t.expand=s)
 |.error _=>false
theorem yF{e:Except (Int×Int) RT}{c p:Int}(h:e=.error (c,p)):ak1 e=.error (c,p):=by subst h;rfl
def alW(n m:Int):Bool:=decide (0<=n)&&decide (n<m)
def amB(n1 n2 n3:Nat)(u n:Int):Bool:=if u=1 then alW n n3 else if u=2 then alW n n1 else if u=3 then alW n n2 else decide (n=0)
section
variable (W:World)(bs:List Nat)(a1 a2 a3:Option Addr)(n1 n2 n3 c1 c2 c3:Nat)(s v u n:Int)
end
def aol:List (ByteArray×Bool×Int×Int):=[(⟨#[104,97,108,116]⟩,false,0,0),(⟨#[99,97,108,108]⟩,false,1,0),(⟨#[114,101,116]⟩,false,0,0),(⟨#[106,117,109,112]⟩,false,1,0),(⟨#[101,109,105,116]⟩,true,0,0),(⟨#[100,114,111,112]⟩,true,0,0),(⟨#[116,101,120,116]⟩,false,3,0),(⟨#[112,117,115,104]⟩,true,3,0),(⟨#[100,117,112]⟩,true,0,0),(⟨#[102,108,105,112]⟩,true,0,0),(⟨#[109,111,118,101]⟩,true,0,0),(⟨#[111,112,101,110]⟩,false,0,0),(⟨#[116,97,107,101]⟩,true,0,0),(⟨#[108,111,119,101,114]⟩,true,0,0),(⟨#[99,117,116]⟩,true,2,2),(⟨#[105,110]⟩,true,2,1),(⟨#[99,104,117,110,107]⟩,true,2,0),(⟨#[109,111,114,101]⟩,false,1,0),(⟨#[122,105,112]⟩,false,0,0),(⟨#[97,108,105,103,110]⟩,false,1,1),(⟨#[112,108,97,110]⟩,false,1,1)]
def shp(n:Nat):ByteArray×Bool×Int×Int:=aol.getD n (⟨#[]⟩,false,0,0)
def Bm(W:World)(S:Nat->Prop):Prop:=S 0/\∀ n<21,W.cell? ⟨0,n*4,none⟩=some (.string (shp n).1)/\W.cell? ⟨0,n*4+1,none⟩=some (.bool (shp n).2.1)/\W.cell? ⟨0,n*4+2,none⟩=some (.int .i64 (shp n).2.2.1)/\W.cell? ⟨0,n*4+3,none⟩=some (.int .i64 (shp n).2.2.2)
theorem Bm.mono{W W' : World}{S S' : Nat->Prop}(h:Bm W S)(hs:aX W S W' S'):Bm W' S' := by
 obtain⟨h0,h1⟩:=h;have g:∀ o v,W.cell? ⟨0,o,none⟩=some v->W'.cell? ⟨0,o,none⟩=some v/\S' 0:=λo v hv=>by
  have:=XC.mono (b:=0) (o:=o) (v:=v) ⟨h0,hv⟩ hs;exact⟨this.2,this.1⟩
 refine⟨(g _ _ (h1 0 oM).1).2,λn hn=>?_⟩;obtain⟨a,b,c,d⟩:=h1 n hn;exact⟨(g _ _ a).1,(g _ _ b).1,(g _ _ c).1,(g _ _ d).1⟩
theorem Bm.gh{W w:World}{bs fp:List Nat}(h:Bm W (Out bs))(hk:an W bs w)(hm:∀ b∈fp,W.heap.size<=b\/b∈bs):Bm w (Out fp):=
 h.mono λb hb hs=>⟨hk.block b hb hs,λhb' => (hm b hb').elim (λg=>absurd g (Nat.not_le.2 hb)) hs⟩
def aon(n1 n2 n3:Nat)(op k a b:Int):Bool:=
 decide (0<=op/\op<21)&&(decide (k=0)||((shp op.toNat).2.1&&decide (k=1)))&&(amB n1 n2 n3 (shp op.toNat).2.2.1 a&&amB n1 n2 n3 (shp op.toNat).2.2.2 b)
section
variable (W:World)(bs:List Nat)(a1 a2 a3:Option Addr)(n1 n2 n3 c1 c2 c3:Nat)(s v op k a b:Int)
end
section
variable (n1 n2 n3:Nat)
end
section
variable (W:World)(bs:List Nat)(a1 a2 a3:Option Addr)(n1 n2 n3 c1 c2 c3:Nat)(s v op k a b:Int)
end
section
variable {c:Int->Int}{N:Int}{rd:Int->Except (Int×Int) (BitVec 256×Int)}(hrd:∀ i e,rd i=.error e->e.1≠0)
include hrd
theorem Q0{i:Int}{ar:List Nd}{f:Fm}{rest:List Fm}{e:Int×Int}(h:Df c N rd i ar f rest=.error e):e.1≠0:=by
 unfold Df at h;split at h
 ·split at h
  ·cases h;show (20:Int)≠0;omega
  ·unfold abo at h;split at h
   ·rename_i e1 hm;cases h;by_cases h1:c i=123
    ·rw[ak8 h1]at hm;exact YT hm
    ·rw[ak9 h1]at hm;cases hm
   ·cases h
 ·split at h
  ·cases h
  ·split at h
   ·cases h
   ·split at h
    ·unfold am3 at h;split at h
     ·cases h;show (20:Int)≠0;omega
     ·cases h
    ·split at h
     ·split at h
      ·cases h;show (23:Int)≠0;omega
      ·cases h
     ·unfold aab at h;split at h
      ·rename_i e1 hm;cases h;exact hrd _ _ hm
      ·cases h
theorem Gs:∀ (n:Nat) (i:Int) (ar:List Nd) (f:Fm) (rest:List Fm) (e:Int×Int),Mh c N rd n i ar f rest=.error e->e.1≠0
 |0,i,ar,f,rest,e,h=>by cases h
 | n+1,i,ar,f,rest,e,h=>by
  rw[Mh]at h;split at h
  ·split at h
   ·rename_i e1 hs;cases h;exact Q0 hrd hs
   ·exact Gs n _ _ _ _ e h
  ·cases h
theorem LS{e:Int×Int}(h:yM c N rd=.error e):e.1≠0:=by
 unfold yM at h;split at h
 ·cases h;show (1:Int)≠0;omega
 ·unfold akw at h;split at h
  ·rename_i e1 hr;cases h;exact Gs hrd _ _ _ _ _ _ hr
  ·split at h
   ·cases h;show (21:Int)≠0;omega
   ·split at h
    ·cases h;show (24:Int)≠0;omega
    ·cases h
end
theorem FN{s:ByteArray}{c p:Int}(h:OO s=.error (c,p)):c≠0:=by
 have hd:sk (bt s) s.size (og s)=.error (c,p):=h;have h1:=Gh (c:=bt s) (N:=s.size) (rd:=og s) oM;rw[hd]at h1;cases h2:yM (bt s) s.size (og s) with
 | error e=>
  rw[h2]at h1;have he:(c,p)=e:=h1;have:=LS (rd:=og s) (λi e hi=>by
   unfold og at hi
   split at hi
   ·cases hi;show (10:Int)≠0;omega
   ·cases hi) h2
  rw[<- he]at this;exact this
 |ok q=>rw[h2]at h1;exact h1.elim
structure Pg where
 ty:List ByteArray
 tx:List ByteArray
 co:List (Int×Int×Int×Int)
 src:Int
 vw:Int
def agW(l:List ByteArray):List Value:=l.map .string
def inL(x:Int×Int×Int×Int):List Value:=[.int .i64 x.1,.int .i64 x.2.1,.int .i64 x.2.2.1,.int .i64 x.2.2.2]
def amJ(l:List (Int×Int×Int×Int)):List Value:=l.flatMap inL
def rR(P:Nat->Bool):Nat->Nat->Option Nat
 |0,_=>none
 |k+1,j=>bif P j then some j else rR P k (j+1)
theorem U4(P:Nat->Bool)(n j:Nat)(hj:j<n)(h:∀ i<j,P i=false)(hp:P j=true):rR P n 0=some j:=by
 have key:∀ k i,i+k=n->i<=j->rR P k i=some j:=by
  intro k
  induction k with
  |zero=>intro i h1 h2;omega
  | succ k ih=>
   intro i h1 h2;unfold rR;by_cases e:i=j
   ·subst e;rw[hp];rfl
   ·rw[h i oM];exact ih (i+1) oM oM
 exact key n 0 oM (Nat.zero_le _)
theorem KW(P:Nat->Bool)(n:Nat)(h:∀ i<n,P i=false):rR P n 0=none:=by
 have key:∀ k i,i+k=n->rR P k i=none:=by
  intro k
  induction k with
  |zero=>intro i h1;rfl
  |succ k ih=>
   intro i h1;unfold rR;rw[h i oM];exact ih (i+1) oM
 exact key n 0 oM
section
variable (p:Pg)
structure PgB:Prop where
 l1:p.ty.length<=140737488351232
 l2:p.tx.length<=140737488351232
 l3:p.co.length<=140737488351232
 sz:∀ s∈p.ty,s.size<=140737488351232
structure aeq (w:World)(a1 a2 a3:Option Addr):Prop extends PgB p where
 ty:G6 w a1 (agW p.ty)
 tx:G6 w a2 (agW p.tx)
 co:G6 w a3 (amJ p.co)
def PgX(W:World)(S:Nat->Prop)(a1 a2 a3:Option Addr):Prop:=jY W S a1 (agW p.ty)/\jY W S a2 (agW p.tx)/\jY W S a3 (amJ p.co)
theorem PgX.ok{p:Pg}{W w:World}{bs:List Nat}{a1 a2 a3:Option Addr}(h:PgX p W (Out bs) a1 a2 a3)(hb:PgB p)(hk:an W bs w):aeq p w a1 a2 a3:=
 ⟨hb,za h.1 hk,za h.2.1 hk,za h.2.2 hk⟩
theorem aeq.x{p:Pg}{w:World}{a1 a2 a3:Option Addr}(h:aeq p w a1 a2 a3):PgX p w (Out []) a1 a2 a3:=
 ⟨(jY.aaS h.ty).out λ_ _=>by simp[Out],(jY.aaS h.tx).out λ_ _=>by simp[Out],(jY.aaS h.co).out λ_ _=>by simp[Out]⟩
end
section
variable (p:Pg)(a1 a2 a3:Option Addr)(c1 c2 c3:Nat)(hb:PgB p)
end
structure InsOk (op k a b:Int):Prop where
 op0:0<=op
 op1:op<21
 kk:k=0\/((shp op.toNat).2.1=true/\k=1)
 a0:0<=a
 a1:a<=9223372036854775807
 b0:0<=b
 b1:b<=9223372036854775807
end
section
open Go.RowKit
set_option maxRecDepth 10000
def aj9(d:List Value)(u:Value)(fp:List Nat)(w:World):Prop:=
 ∃ s b v p,d=[.string s]/\u=.pointer (some ⟨b,0,none⟩)/\fp=b::v.ownBlock.toList/\w.heap[b]?=some (.cells #[p,v] 91 (0,0))/\w.ownsRow 0 5 1 v s.size (Lib.strCells s)/\v.ownBlock≠some b /\
  (p=.pointer none\/p=.pointer (some ⟨b,0,none⟩))
theorem aj9.local{d:List Value}{u:Value}{fp:List Nat}{w w' : World}(h:aj9 d u fp w)(hl:∀ b∈fp,w'.heap[b]?=w.heap[b]?):aj9 d u fp w' := by
 obtain⟨s,b,v,p,h1,h2,h3,h4,h5,h6,h7⟩:=h;refine⟨s,b,v,p,h1,h2,h3,by rw[hl b (by simp[h3])];exact h4,⟨h5.1,?_⟩,h6,h7⟩;rcases h5.2 with h|⟨g,cap,cur,hv,hb,hg,r⟩
 ·exact .inl h
 ·exact .inr ⟨g,cap,cur,hv,hb,by rw[hl g (by rw[h3,hv];simp[Value.ownBlock])];exact hg,r⟩
end
section
open Go.RowKit
end
section
open Go.RowKit Go.LE Go.Proofs.Tryz
def SmL(l:List ByteArray):Prop:=∀ s∈l,s.size<=4194399
structure PgZ (p:Pg):Prop where
 l1:p.ty.length<=1048576
 l2:p.tx.length<=1048576
 l3:p.co.length<=1048576
 z1:∀ s∈p.ty,s.size<=1048576
 z2:∀ s∈p.tx,s.size<=1048576
theorem PgZ.b{p:Pg}(h:PgZ p):PgB p:=⟨by have:=h.l1;omega,by have:=h.l2;omega,by have:=h.l3;omega,λs hs=>by have:=h.z1 s hs;omega⟩
structure PgS (p:Pg):Prop where
 s0:0<=p.src
 s1:p.src<p.ty.length
 v0:0<=p.vw
 v1:p.vw<p.ty.length
 ty:∀ (i:Nat) (h:i<p.ty.length),tyE p.ty[i]=true
 co:∀ (i:Nat) (h:i<p.co.length),aon p.ty.length p.tx.length p.co.length p.co[i].1 p.co[i].2.1 p.co[i].2.2.1 p.co[i].2.2.2=true
theorem SmL.app{l m:List ByteArray}(h:SmL l)(h' : SmL m):SmL (l++m):=λs hs=>(List.mem_append.1 hs).elim (h s) (h' s)
end
section
open Go.ChangeShapes Go.WideShapes Go.ChangeAt Go.RowKit Go.LE
open Go.ChangeMaps (open_string shut_string)
set_option maxRecDepth 10000
theorem aoj:ownKnob Tryz.prog.godebug=none:=kR
theorem amL:laidOutB Tryz.prog=true:=kR
theorem amU:mapsRowed Tryz.prog=true:=kR
theorem amC:((List.range Tryz.prog.types.size).all λt=>match Tryz.prog.underlying t with|some (.slice e)=>decide (0<Tryz.prog.cellsOf e)|_=>true)=true:=kR
theorem akr:Tryz.prog.cellsOf 9=1:=kR
theorem Y4:Tryz.prog.cellsOf 5=1:=kR
theorem Y2:Tryz.prog.cellsOf 203=1:=kR
theorem Y3:Tryz.prog.cellsOf 334=20:=kR
theorem KD:Tryz.prog.cellsOf 355=2:=kR
section
variable {H:Type}{enc:TypeId×Value->H}
instance:Inhabited ByteArray:=⟨⟨#[]⟩⟩
end
end
section
open Go.ChangeShapes Go.WideShapes Go.ChangeAt Go.RowKit Go.LE
set_option maxRecDepth 10000
theorem ZI:Tryz.prog.globalNamed "loupe/class.escapes"=some 4:=kR
theorem akH:(Tryz.prog.globals[3]?).map (·.type)=some 334:=kR
theorem akI:(Tryz.prog.globals[4]?).map (·.type)=some 356:=kR
theorem zw{W:World}{n:String}{g:Nat}{cs:Array Value}(hg:Tryz.prog.globalNamed n=some g)(h:W.var? Tryz.prog n=some cs)(i:Nat)(v:Value)(hi:cs.toList[i]?=some v):W.cell? ⟨g,i,none⟩=some v:=by
 unfold World.var? at h;rw[hg,Option.bind_some]at h;split at h
 ·rename_i cs' T fr hh;cases h;simp only[World.cell?,hh];rw[Array.getElem?_toList]at hi;simpa using hi
 ·cases h
theorem Xy{W:World}(h:Lib.VarReads Tryz.prog W "internal/strconv.uint64pow10" Rows.laid_internal_strconv_uint64pow10):nF W (Out []):=by
 obtain⟨g,t,cs,fuel,p,h1,h2,h3,h4⟩:=h;obtain rfl:=Option.some.inj (ZH.symm.trans h1);obtain rfl:=Option.some.inj (akH.symm.trans h2);have e:(Rows.laid_internal_strconv_uint64pow10:DataW Unit)=Lib.tabData .u64 Lib.pow10Tab:=rfl;rw[e]at h4
 have h5:=Lib.cells_of_tab Tryz.underlying334 Tryz.underlying203 Y2 Y3 h4;refine⟨by simp[Out],?_⟩;show W.var? Tryz.prog _=_;rw[h3,<- h5]
theorem alH{l:List Value}{k:Nat}{x y:Value}(h:(l.drop k).take 2=[x,y]):l[k]?=some x/\l[k+1]?=some y:=by
 have h0:=congrArg (·[0]?) h;have h1:=congrArg (·[1]?) h;simp only[List.getElem?_take,List.getElem?_drop]at h0 h1;exact⟨by simpa using h0,by simpa using h1⟩
theorem PN{W:World}{sp:Nat->Bool}{fuel:Nat}{cs:List Value}{a b:Int}{q:List MemPlace}(h:DataW.trod (λ_=>()) Tryz.prog W 0 sp false fuel 355 cs=some (.agg [.lit (.int .u8 a),.lit (.int .u8 b)],q)):cs=[.int .u8 a,.int .u8 b]:=
 Lib.ints_of_struct (zs:=[a,b]) Tryz.underlying355 (λi f hf=>by
  match i,hf with
  |0,hf=>cases hf;exact⟨Tryz.underlying5,rfl,Y4⟩
  |1,hf=>cases hf;exact⟨Tryz.underlying5,rfl,Y4⟩
  |i+2,hf=>cases hf) KD h
theorem UX{W:World}(h:Lib.VarReads Tryz.prog W "loupe/class.escapes" Rows.laid_loupe_class_escapes):bj W (Out []):=by
 obtain⟨g,t,cs,fuel,p,h1,h2,h3,h4⟩:=h;obtain rfl:=Option.some.inj (ZI.symm.trans h1);obtain rfl:=Option.some.inj (akI.symm.trans h2)
 have key:∀ i (a b:Int),i<3->[(110,10),(114,13),(116,9)][i]?=some (a,b)->W.cell? ⟨4,i*2,none⟩=some (.int .u8 a)/\W.cell? ⟨4,i*2+1,none⟩=some (.int .u8 b):=λi a b hi hab=>by
  obtain⟨f',d,q,hd,ht⟩:=Lib.array_elem Tryz.underlying356 h4 i hi;rw[KD]at ht;have e:d=.agg [.lit (.int .u8 a),.lit (.int .u8 b)]:=by
   match i,hi with
   |0,_=>cases hab;cases hd;rfl
   |1,_=>cases hab;cases hd;rfl
   |2,_=>cases hab;cases hd;rfl
  subst e;obtain⟨g1,g2⟩:=alH (PN ht);exact⟨zw ZI h3 _ _ g1,zw ZI h3 _ _ g2⟩
 have k0:=key 0 _ _ oM rfl;have k1:=key 1 _ _ oM rfl;have k2:=key 2 _ _ oM rfl;exact⟨by simp[Out],k0.1,k0.2,k1.1,k1.2,k2.1,k2.2⟩
end
section
open Go.RowKit Go.LE Go.Proofs.Tryz
set_option maxRecDepth 10000
def uS(c:Int):Bool:=(decide (c=95)||(decide (97<=c)&&decide (c<=122)))||(decide (65<=c)&&decide (c<=90))
def UN(c:Int):Bool:=decide (48<=c)&&decide (c<=57)
def ry(c:Int):Bool:=decide (32<=c)&&decide (c<=126)
def iw(c:Int):Int:=if UN c=true then c-48 else if (decide (97<=c)&&decide (c<=102))=true then c-97+10 else -1
def aoh:ByteArray:=⟨#[61,59,40,41,123,125,44,124,38,45,46,126,42,43,63]⟩
def Cr(c:Int):Bool:=(List.range 15).any λi=>decide (bt aoh i=c)
def o8(c:Int)(b:Bool):Bool:=if c=10 then false else if c=35 then true else b
def Fs(c:Int)(b:Bool):Bool:=(((!b&&!decide (c=32))&&!decide (c=9))&&!decide (c=10))&&!decide (c=13)
def lh(s:ByteArray):Nat->Bool->Nat->Nat
 |0,_,i=>i
 |n+1,b,i=>if Fs (bt s i) (o8 (bt s i) b)=true then i else lh s n (o8 (bt s i) b) (i+1)
def js(s:ByteArray)(i:Nat):Nat:=lh s (s.size-i) false i
theorem Su(s:ByteArray):∀ n b i,i<=lh s n b i/\lh s n b i<=i+n
 |0,_,i=>⟨Nat.le_refl _,Nat.le_refl _⟩
 | n+1,b,i=>by
  unfold lh;split
  ·omega
  ·have:=Su s n (o8 (bt s i) b) (i+1);omega
theorem nM{s:ByteArray}{i:Nat}(hi:i<=s.size):i<=js s i/\js s i<=s.size:=by
 have:=Su s (s.size-i) false i;unfold js;omega
theorem sE(s:ByteArray)(i j:Nat)(hj:j<=s.size):(s.extract i j).size=j-i:=by
 rw[ByteArray.size_extract];omega
theorem rK(s:ByteArray)(i j k:Nat)(hj:j<=s.size)(hk:k<j-i):bt (s.extract i j) (k:Nat)=bt s ((i+k:Nat):Int):=by
 unfold bt;simp only[Int.toNat_natCast,ByteArray.data_extract,Array.getElem?_extract];rw[if_pos (by have:s.size=s.data.size:=rfl;omega)]
theorem jc(s t:ByteArray)(i:Nat):bt (s++t) (i:Nat)=if i<s.size then bt s (i:Nat) else bt t ((i-s.size:Nat):Int):=by
 unfold bt;simp only[Int.toNat_natCast,ByteArray.data_append];have hs:s.data.size=s.size:=rfl;split
 ·rename_i h;rw[Array.getElem?_append_left oM]
 ·rename_i h;rw[Array.getElem?_append_right oM,hs]
def amG(c:Int):Option Int:=if 48<=c/\c<=57 then some (c-48) else if 97<=c/\c<=102 then some (c-87) else if 65<=c/\c<=70 then some (c-55) else none
def akT(p:ByteArray):Option Int:=
 if p.size=0 then none
 else match amG (bt p (0:Nat)) with
  |none=>none
  |some a=>if p.size=1 then some a else match amG (bt p (1:Nat)) with
   |none=>none
   |some b=>some (16*a+b)
end
end Go.Proofs.YtnemkecffmdlnaaGreatDoor
