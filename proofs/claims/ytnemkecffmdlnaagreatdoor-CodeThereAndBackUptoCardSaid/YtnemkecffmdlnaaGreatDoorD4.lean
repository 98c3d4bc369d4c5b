/-
 Part 4 of the proof (packed).
-/
import Derived.Test.YtnemkecffmdlnaaGreatDoorD3
import Derived.Lib.AppendIntMem
import Derived.Handy
import Derived.Lib.AtoiAllCases
set_option linter.unusedSimpArgs false
set_option linter.unusedVariables false
set_option linter.defProp false
set_option maxHeartbeats 16000000
namespace Go.Proofs.YtnemkecffmdlnaaGreatDoor
section
open Go.RowKit Go.LE Go.Proofs.Tryz
set_option maxRecDepth 10000
noncomputable def T4(G:Nat->Prop)(x y a:RL):Env prog:=⟨λ| 249=>some ((lW .eps).spec G)|180=>some ((gn .cat x y).spec G)|260=>some ((xr a).spec G)|261=>some ((rK a).spec G)|_=>none,λ_=>none,λ_ _=>none⟩
theorem Uk(G:Nat->Prop)(x y a:RL):(T4 G x y a).sp 249=some ((lW .eps).spec G):=rfl
theorem Vk(G:Nat->Prop)(x y a:RL):(T4 G x y a).sp 180=some ((gn .cat x y).spec G):=rfl
theorem X4(G:Nat->Prop)(x y a:RL):(T4 G x y a).sp 260=some ((xr a).spec G):=rfl
theorem U1(G:Nat->Prop)(x y a:RL):(T4 G x y a).sp 261=some ((rK a).spec G):=rfl
theorem mr(a:RL):(eF a).1<=2001:=je _
theorem kS(a:RL):(bj a).1<=2001:=je _
structure TI where
 W:World
 bs:List Nat
 fo:Value
 j:Nat
def bP:=(ak @List.replicate_succ.{0} @List.replicate_zero.{0} @aq @ae lP lM lA (ak dI dK dJ dG dr dt du (ak dq sw sS sO sN pM qs (ak qm pR qv pZ Jj IW JT (ak J0 Jo IL JX yK yS yM (ak @a6 @aw @aD @aE @eA @lW.eq_1 @gn.eq_1 (oR @xr.eq_1 @rK.eq_1 @Uk @Vk @X4 @U1)))))))
theorem M7(a:RL)(m n:Int)(fa:Value)(ha:a.1<=2001)(hm0:0<=m)(hm1:m<=255)(hn0:-1<=n)(hn1:n<=255)(w:World)(S:Nat->Prop)(h1:bg w S fa a.2) :
  Calls prog 266 #[gx a fa,.int .i64 m,.int .i64 n] w λe w' => lT w S e w' (.fact Sh.two (cN (cq a m n))):=by
 have ga:partsOf (.v (gx a fa))=[.v (.int .i64 (a.1:Nat)),.v fa]:=rfl;have u0:=cl.up w S;have g0:=h1.mono (cl.fe w S);refine eI (nt:=55) S [.cell 6 254] func266 rfl rfl rfl ?_;refine vR Γ0 (aa bP ga) ?_;refine Wp.seq ?_;refine vR Γ0 bP ?_;refine wC bP (λhc=>?_) (λhc=>?_)
 ·have hc' : m=0/\n<0:=by simpa using hc
  have hR:cq a m n=eF a:=by rw[cq,if_pos hc']
  rw[hR];refine wR (T4 (cl w S) a a a) (aa bP ga) ?_ ?_
  ·exact⟨⟨bH g0,ha,_,rfl⟩,u0⟩
  refine Wp.gG 72 (ev (aa bP ga)) (bV.refl _ _) λW1 bs1 cs hx1 hΦ=>?_
  obtain⟨fv,rfl,hg,hv1⟩:=bT hΦ;refine wZ (dx bP ga hv1) ?_;exact kQ hg
 ·have hc1:¬ (m=0/\n<0):=by simpa using hc
  refine wK ?_;refine Wp.seq ?_;refine vR Γ0 bP ?_;refine wC bP (λhc=>?_) (λhc=>?_)
  ·have hc' : m=0/\n=0:=by simpa using hc
   have hR:cq a m n=bw .eps:=by rw[cq,if_neg hc1,if_pos hc']
   rw[hR];refine wR (T4 (cl w S) a a a) (aa bP ga) ?_ ?_
   ·exact⟨rfl,u0⟩
   refine Wp.gG 128 (ev (aa bP ga)) (bV.refl _ _) λW1 bs1 cs hx1 hΦ=>?_
   obtain⟨fv,rfl,hg,hv1⟩:=bT hΦ;refine wZ (dx bP ga hv1) ?_;exact kQ hg
  ·have hc2:¬ (m=0/\n=0):=by simpa using hc
   refine wK ?_;refine wR Γ0 (aa bP ga) ?_ ?_
   ·exact h1.one
   refine vR Γ0 bP ?_;generalize hr0:(if m=0 then bj a else a)=r0;have hr0' : r0.1<=2001:=by rw[<- hr0];split;exact kS a;exact ha
   refine Ks (λp:TI=>⟨20,cL [(1,.is (.v (.int .i64 m))),(2,.is (.v (.int .i64 n))),(3,.is (.own 0 0)),(6,.is (.own 8 0)),(7,.is (.own 120 0)),(8,.is (.v (.int .i64 1)))],cf [(0,.cells 254 [.v (.int .i64 (a.1:Nat)),.v fa]),(8,.cells 254 [.v (.int .i64 0),.v .nilFunc]),(120,.cells 254 [.v (.int .i64 (r0.1:Nat)),.v p.fo])]⟩) TI.W TI.bs
    (λp=>bg p.W (fi (cl w S) p.bs) p.fo r0.2) ?_ ?_
   ·skip;refine vR Γ0 bP ?_;refine wC bP (λhc=>?_) (λhc=>?_)
    ·have hm:m=0:=by simpa using hc
     rw[if_pos hm]at hr0;subst hr0;refine Wp.more ?_;refine wr (T4 (cl w S) a a a) (aa bP ga) ?_ ?_
     ·exact⟨⟨bH g0,ha,_,rfl⟩,u0⟩
     refine dV ?_;refine Pw.gG 168 (ev (aa bP ga)) (bV.refl _ _) λW1 bs1 cs hx1 hΦ=>?_
     obtain⟨fv,rfl,hg,hv1⟩:=bT hΦ;refine Pw.here ?_;refine qq ?_;refine⟨⟨W1,bs1,fv,0⟩,hg,rfl,rfl,?_⟩;exact wM (λk=>.key k) (dx bP ga hv1)
    ·have hm:¬ m=0:=by simpa using hc
     rw[if_neg hm]at hr0;subst hr0;refine wK ?_;refine⟨⟨w,[],fa,0⟩,g0,rfl,rfl,?_⟩;exact wM (λk=>.key k) (aa bP ga)
   rintro⟨W0,bs0,fo,j0⟩ hfo hx0;simp only at hfo hx0;dsimp only;have hR1:cq a m n=if n<0 then aM .cat (ba (λx=>aM .cat x a) (m-1).toNat r0) (eF a) else ba (λx=>aM .cat x (bj a)) (n-max m 1).toNat (ba (λx=>aM .cat x a) (m-1).toNat r0):=by
    rw[cq,if_neg hc1,if_neg hc2,hr0]
   have hi1:∀ k,(ba (λx=>aM .cat x a) k r0).1<=2001:=λk=>mz _ (λx=>eB _ _ _) k r0 hr0'
   refine Wp.seq (Wp.block ?_)
   refine Wp.zy (λp:TI=>⟨23,cL [(1,.is (.v (.int .i64 m))),(2,.is (.v (.int .i64 n))),(3,.is (.own 0 0)),(6,.is (.own 8 0)),(7,.is (.own 120 0)),(8,.is (.v (.int .i64 ((p.j:Nat)+1))))],cf [(0,.cells 254 [.v (.int .i64 (a.1:Nat)),.v fa]),(8,.cells 254 [.v (.int .i64 0),.v .nilFunc]),(120,.cells 254 [.v (.int .i64 ((ba (λx=>aM .cat x a) p.j r0).1:Nat)),.v p.fo])]⟩)
    TI.W TI.bs (λp=>p.j<=(m-1).toNat/\bg p.W (fi (cl w S) p.bs) p.fo (ba (λx=>aM .cat x a) p.j r0).2) (λp=>(m-1).toNat-p.j) ⟨W0,bs0,fo,0⟩ rfl rfl ?_ ⟨Nat.zero_le _,hfo⟩ ?_
   ·exact wM (λk=>.key k) (ym bP @ba.eq_1 @ba.eq_2 @Int.natCast_zero @Int.zero_add)
   rintro⟨W1,bs1,fo1,j⟩ ⟨hj,hfo1⟩ hx1;simp only at hj hfo1 hx1;dsimp only;have hx01:=hx0.trans hx1;have u1:=u0.ext hx01;have g1:=g0.mono hx01.Cm;refine Wp.seq ?_;refine vR Γ0 bP ?_;refine wC bP (λhc=>?_) (λhc=>?_)
   ·have hjm:(j:Int)+1<m:=by simpa using hc
    refine wK ?_;refine Wp.seq (Wp.block ?_);refine Wp.more ?_;refine wr (T4 (cl w S) (ba (λx=>aM .cat x a) j r0) a a) (aa bP ga) ?_ ?_
    ·exact⟨⟨⟨bH hfo1,bH g1⟩,⟨hi1 j,ha⟩,_,_,rfl⟩,u1⟩
    refine dV ?_;refine Pw.gG 224 (ev (aa bP ga)) (bV.refl _ _) λW2 bs2 cs hx2 hΦ=>?_
    obtain⟨fv,rfl,hg,hv1⟩:=bT hΦ;refine Pw.here ?_;refine qq ?_;have wn:IntKind.i64.wrap ((j:Int)+1+1)=((j+1:Nat):Int)+1:=wW;have e:ba (λx=>aM .cat x a) (j+1) r0=aM Jn.cat.mk (ba (λx=>aM .cat x a) j r0) a:=pf _ _ _;refine vr Γ0 (aa bP wn) ?_
    refine⟨⟨W2,bs2,fv,j+1⟩,⟨by simp only;omega,by simp only;rw[e];exact hg⟩,by simp only;omega,rfl,rfl,?_⟩;exact wM (λk=>.key k) (iS bP ga hv1 e)
   ·have hjm:¬ (j:Int)+1<m:=by simpa using hc
    have hj' : j=(m-1).toNat:=oM;generalize hr1:ba (λx=>aM .cat x a) (m-1).toNat r0=r1 at hR1;have hr1' : r1.1<=2001:=by rw[<- hr1];exact hi1 _
    rw[hj',hr1]at hfo1;rw[hj',hr1];refine wE ?_;refine Wp.seq ?_;refine vR Γ0 bP ?_;refine wC bP (λhc=>?_) (λhc=>?_)
    ·have hn:n<0:=by simpa using hc
     rw[hR1,if_pos hn];refine A0 (T4 (cl w S) r1 (eF a) a) (aa bP ga) ?_ ?_
     ·exact⟨⟨⟨bH g1,ha,_,rfl⟩,u1⟩,⟨bH hfo1,⟨hr1',mr a⟩,_,_,rfl⟩,u1⟩
     refine Wp.gG 248 (ev (aa bP ga)) (bV.refl _ _) λW2 bs2 cs hx2 hΦ=>?_
     obtain⟨fv,rfl,hg,hv1⟩:=bT hΦ;refine wZ (dx bP ga hv1) ?_;exact kQ hg
    ·have hn:¬ n<0:=by simpa using hc
     rw[hR1,if_neg hn];have hk0:((j:Nat):Int)+1=max m 1:=oM;have hi2:∀ k,(ba (λx=>aM .cat x (bj a)) k r1).1<=2001:=λk=>mz _ (λx=>eB _ _ _) k r1 hr1'
     refine wK ?_;rw[<- hj']at *;refine Wp.seq (Wp.block ?_)
     refine Wp.zy (λp:TI=>⟨28,cL [(2,.is (.v (.int .i64 n))),(3,.is (.own 0 0)),(6,.is (.own 8 0)),(7,.is (.own 120 0)),(8,.is (.v (.int .i64 (((j:Nat):Int)+1+(p.j:Nat)))))],cf [(0,.cells 254 [.v (.int .i64 (a.1:Nat)),.v fa]),(8,.cells 254 [.v (.int .i64 0),.v .nilFunc]),(120,.cells 254 [.v (.int .i64 ((ba (λx=>aM .cat x (bj a)) p.j r1).1:Nat)),.v p.fo])]⟩)
      TI.W TI.bs (λp=>p.j<=(n-max m 1).toNat/\bg p.W (fi (cl w S) p.bs) p.fo (ba (λx=>aM .cat x (bj a)) p.j r1).2) (λp=>(n-max m 1).toNat-p.j) ⟨W1,bs1,fo1,0⟩ rfl rfl ?_ ⟨Nat.zero_le _,hfo1⟩ ?_
     ·exact wM (λk=>.key k) (ym bP @ba.eq_1 @ba.eq_2 @Int.natCast_zero @Int.add_zero)
     rintro⟨W3,bs3,fo3,i⟩ ⟨hi,hfo3⟩ hx3;simp only at hi hfo3 hx3;dsimp only;have u3:=u1.ext hx3;have g3:=g1.mono hx3.Cm;refine Wp.seq ?_;refine vR Γ0 bP ?_;refine wC bP (λhc=>?_) (λhc=>?_)
     ·have hin:(j:Int)+1+i<n:=by simpa using hc
      refine wK ?_;refine Wp.seq (Wp.block ?_);refine Wp.more ?_;refine Ft (T4 (cl w S) (ba (λx=>aM .cat x (bj a)) i r1) (bj a) a) (aa bP ga) ?_ ?_
      ·exact⟨⟨⟨bH g3,ha,_,rfl⟩,u3⟩,⟨bH hfo3,⟨hi2 i,kS a⟩,_,_,rfl⟩,u3⟩
      refine dV ?_;refine Pw.gG 272 (ev (aa bP ga)) (bV.refl _ _) λW4 bs4 cs hx4 hΦ=>?_
      obtain⟨fv,rfl,hg,hv1⟩:=bT hΦ;refine Pw.here ?_;refine qq ?_;have wn:IntKind.i64.wrap ((j:Int)+1+i+1)=(j:Int)+1+((i+1:Nat):Int):=wW;have e:ba (λx=>aM .cat x (bj a)) (i+1) r1=aM Jn.cat.mk (ba (λx=>aM .cat x (bj a)) i r1) (bj a):=pf _ _ _;refine vr Γ0 (aa bP wn) ?_
      refine⟨⟨W4,bs4,fv,i+1⟩,⟨by simp only;omega,by simp only;rw[e];exact hg⟩,by simp only;omega,rfl,rfl,?_⟩;exact wM (λk=>.key k) (iS bP ga hv1 e)
     ·have hin:¬ (j:Int)+1+i<n:=by simpa using hc
      have hi' : i=(n-max m 1).toNat:=oM;refine wE ?_;refine wR Γ0 bP ?_ ?_
      ·exact hfo3.one
      refine wZ bP ?_;rw[<- hi'];exact kQ hfo3
def uV(a:RL):jw prog 266 where
 kinds:=[some (Sh.two,cN a),none,none]
 pre:=λas_ _ _=>a.1<=2001/\∃ x m n,as_=[x,.val (.int .i64 m),.val (.int .i64 n)]/\0<=m/\m<=255/\-1<=n/\n<=255
 premono:=λ_ _ _ _ _ _ h=>h
 out:=fun
  |[_,.val (.int .i64 m),.val (.int .i64 n)]=>.fact Sh.two (cN (cq a m n))
  |_=>.val undef
 enters:=call266
 ok:=by
  intro w S us as_ hu hp;obtain⟨ha,x,m,n,rfl,hp⟩:=hp
  match us,hu with
  |[u1,u2,u3],hu=>
   obtain⟨h1,rfl,rfl,_⟩:=hu;obtain⟨fa,rfl,h1'⟩:=jv h1;exact M7 a m n fa ha hp.1 hp.2.1 hp.2.2.1 hp.2.2.2 w S h1'
def two(g:Jn)(x y:Value):Value:=.iface g.T (.agg #[x,y])
theorem P3(g:Jn)(a b:Rx):two g (aB a) (aB b)=aB (g.mk a b):=by cases g<;>rfl
def kT:=(ak @List.replicate_succ.{0} @List.replicate_zero.{0} @aq @ae lP lM sw (ak sS sO sN JF IN Je pM (ak qs qm pR qv pZ SU Sy (ak QX RX R2 On TL QA P6 (ak Pm Tw Tx Tt N8 Sg Po (ak TB PM S9 P5 Sv S4 Rs (ak OL O3 Ra RE Og Tm TP (ak Qg Sj SZ PU Pf SN Q4 (ak Q5 Qi Om SJ Ot QD Tg (ak yK yS yM @a6 @aw @aD @aE (dx @hD (λt=>jz (bA t)) @bA)))))))))))
theorem aaV(a b:Rx)(w:World):Calls prog 252 #[aB a,aB b] w λe w' => e=.returned (two .cat (aB a) (aB b))/\af w [] w' := by
 refine av (nt:=9) [.tmp 4] func252 rfl rfl rfl ?_;refine vR Γ0 kT ?_;refine vR Γ0 kT ?_;refine wZ kT ?_;exact λE=>rfl
theorem aaX(a b:Rx)(w:World):Calls prog 181 #[aB a,aB b] w λe w' => e=.returned (two .alt (aB a) (aB b))/\af w [] w' := by
 refine av (nt:=9) [.tmp 4] func181 rfl rfl rfl ?_;refine vR Γ0 kT ?_;refine vR Γ0 kT ?_;refine wZ kT ?_;exact λE=>rfl
theorem abp(a b:Rx)(w:World):Calls prog 217 #[aB a,aB b] w λe w' => e=.returned (two .and (aB a) (aB b))/\af w [] w' := by
 refine av (nt:=9) [.tmp 4] func217 rfl rfl rfl ?_;refine vR Γ0 kT ?_;refine vR Γ0 kT ?_;refine wZ kT ?_;exact λE=>rfl
theorem N7(a b:Rx)(w:World):Calls prog 218 #[aB a,aB b] w λe w' => e=.returned (two .minus (aB a) (aB b))/\af w [] w' := by
 refine av (nt:=9) [.tmp 4] func218 rfl rfl rfl ?_;refine vR Γ0 kT ?_;refine vR Γ0 kT ?_;refine wZ kT ?_;exact λE=>rfl
theorem ab0:∀ (g:Jn) (a b:Rx) (w:World),Calls prog g.f #[aB a,aB b] w λe w' => e=.returned (two g (aB a) (aB b))/\af w [] w'
 |.cat,a,b,w=>aaV a b w
 |.alt,a,b,w=>aaX a b w
 |.and,a,b,w=>abp a b w
 |.minus,a,b,w=>N7 a b w
theorem KG:∀ (g:Jn) args w,(callFunc g.f args).run prog w=.ok (.enter g.f args) w
 |.cat=>call252
 |.alt=>call181
 |.and=>call217
 |.minus=>call218
def ZW(g:Jn):bu prog g.f where
 pre:=λW bs as_=>∃ a b,as_=[.val (aB a),.val (aB b)]
 res:=λW=>λ| [.val x,.val y]=>two g x y|_=>undef
 enters:=KG g
 ok:=by
  rintro W w bs us _ hk hu ⟨a,b,rfl⟩
  match us,hu with
  |[u,v],hu=>
   obtain⟨rfl,rfl,_⟩:=hu;exact ab0 g a b w
theorem Yv(g:Jn)(W:World)(x y:Value):(ZW g).res W [.val x,.val y]=two g x y:=rfl
theorem V8(g:Jn)(W:World)(bs:List Nat)(as_:List AV):(ZW g).pre W bs as_=∃ a b,as_=[.val (aB a),.val (aB b)]:=rfl
def dp:Rx->Nat
 |.eps=>0
 |.cls _=>0
 |.cat a b=>dp a+dp b+1
 |.alt a b=>dp a+dp b+1
 |.star a=>dp a+1
 |.and a b=>dp a+dp b+1
 |.minus a b=>dp a+dp b+1
theorem acx(g:Jn)(a b:Rx):dp (g.mk a b)=dp a+dp b+1:=by cases g<;>rfl
def iE(f:FuncId):Prop:=f=259\/f=220\/f=264
theorem bg.shape{W:World}{S:Nat->Prop}{v:Value}{t:Rx}(h:bg W S v t):∃ f cap,v=.func (.func f) #[] cap/\iE f:=by
 cases h with
 |leaf=>exact⟨_,_,rfl,.inl rfl⟩
 |join=>exact⟨_,_,rfl,.inr (.inl rfl)⟩
 |star=>exact⟨_,_,rfl,.inr (.inr rfl)⟩
theorem Ds{f:FuncId}(h:iE f):∀ args w,(callFunc f args).run prog w=.ok (.enter f args) w:=by
 rcases h with rfl|rfl|rfl
 ·exact call259
 ·exact call220
 ·exact call264
def gu(n:Nat):Prop:=∀ f cap w S t,bg w S (.func (.func f) #[] cap) t->dp t<n->Calls prog f cap w λe w' => e=.returned (aB t)/\af w [] w'
open Classical in
noncomputable def tQ(W:World)(f:FuncId)(as_:List AV):Value:=
 if h:∃ (cap:List Value) (t:Rx),as_=cap.map .val/\bg W (λ_=>True) (.func (.func f) #[] cap.toArray) t then aB h.choose_spec.choose else undef
theorem Fo{l m:List Value}(h:l.map AV.val=m.map .val):l=m:=by
 have:=congrArg (List.map λ| AV.val v=>v|_=>undef) h;simpa [Function.comp_def] using this
theorem ju{W:World}{S:Nat->Prop}{f:FuncId}{cap:List Value}{t:Rx}(h:bg W S (.func (.func f) #[] cap.toArray) t):tQ W f (cap.map .val)=aB t:=by
 have h1:=h.mono (S' := λ_=>True) (W' := W) λb _ _=>⟨rfl,trivial⟩
 have hex:∃ (c:List Value) (t:Rx),cap.map AV.val=c.map .val/\bg W (λ_=>True) (.func (.func f) #[] c.toArray) t:=⟨cap,t,rfl,h1⟩;rw[tQ,dif_pos hex];obtain⟨g1,g2⟩:=hex.choose_spec.choose_spec;have key:∀ (c:List Value) (t' : Rx),cap=c->bg W (λ_=>True) (.func (.func f) #[] c.toArray) t' -> t' = t:=by
  rintro _ t' rfl hg;exact (h1.fn hg).symm
 rw[key _ _ (Fo g1) g2]
theorem sP{w:World}:∀ {us cap:List Value},eJ w us (cap.map .val)->us=cap
 |[],[],_=>rfl
 |u::us,c::cap,h=>by rw[h.1,sP h.2]
 |[],_::_,h=>h.elim
 |_::_,[],h=>h.elim
noncomputable def C3(n:Nat)(ih:gu n)(f:FuncId)(hf:iE f):bu prog f where
 pre:=λW bs as_=>∃ (cap:List Value) (t:Rx),as_=cap.map .val/\bg W (Out bs) (.func (.func f) #[] cap.toArray) t/\dp t<n
 res:=λW as_=>tQ W f as_
 enters:=Ds hf
 ok:=by
  rintro W w bs us _ hk hu ⟨cap,t,rfl,hg,hd⟩;rw[ju hg,sP hu];exact ih f _ w (Out bs) t (hg.mono hk.fe) hd
open Classical in
noncomputable def F3(n:Nat)(ih:gu n)(f:FuncId):Option (Go.LE.Spec prog f):=if hf:iE f then some (C3 n ih f hf).spec else none
theorem K6(n:Nat)(ih:gu n)(f:FuncId)(hf:iE f):F3 n ih f=some (C3 n ih f hf).spec:=dif_pos hf
noncomputable def Γ43(n:Nat)(ih:gu n):Env prog:=⟨λ| 252=>some (ZW .cat).spec|181=>some (ZW .alt).spec|217=>some (ZW .and).spec|218=>some (ZW .minus).spec|f=>F3 n ih f,λ_=>none,λ_ _=>none⟩
theorem ZX(n:Nat)(ih:gu n)(g:Jn):(Γ43 n ih).sp g.f=some (ZW g).spec:=by cases g<;>rfl
theorem ql(n:Nat)(ih:gu n)(f:FuncId)(hf:iE f):(Γ43 n ih).sp f=some (C3 n ih f hf).spec:=by
 rw[<- K6];rcases hf with rfl|rfl|rfl<;>rfl
theorem zm(n:Nat)(ih:gu n)(f:FuncId)(hf:iE f)(W:World)(as_:List AV):(C3 n ih f hf).res W as_=tQ W f as_:=rfl
theorem zG(n:Nat)(ih:gu n)(f:FuncId)(hf:iE f)(W:World)(bs:List Nat)(as_:List AV):(C3 n ih f hf).pre W bs as_=∃ (cap:List Value) (t:Rx),as_=cap.map .val/\bg W (Out bs) (.func (.func f) #[] cap.toArray) t/\dp t<n:=rfl
theorem lE(h:Hp):∀ l:List Value,ay h (l.map .v)=some (l.map .val,[])
 |[]=>rfl
 |x::r=>by rw[List.map_cons,xF,lE h r];rfl
theorem Bh{W:World}{S:Nat->Prop}{v:Value}{t:Rx}(h:bg W S v t):bg W (Out []) v t:=h.mono λb _ _=>⟨rfl,by simp[Out]⟩
def qw:=(oR kT @Yv @V8 @zm @zG @ZX)
theorem LJ(b:Nat)(t:Rx)(w:World)(S:Nat->Prop)(h:XC w S b 0 (aB t)):Calls prog 259 #[ly b] w λe w' => e=.returned (aB t)/\af w [] w' := by
 have h1:w.cell? ⟨b,0,none⟩=some (aB t):=h.2;refine av (nt:=3) [.tmp 1] func259 rfl rfl rfl ?_;refine vR Γ0 (aa qw @ly.eq_1) ?_;refine vR Γ0 (dx qw @ly.eq_1 h1) ?_;refine wZ qw ?_;exact λE=>rfl
theorem Mz(n:Nat)(ih:gu n)(b:Nat)(fa:Value)(ta:Rx)(w:World)(S:Nat->Prop)(h:XC w S b 1 fa)(hg:bg w S fa ta)(hd:dp ta<n) :
  Calls prog 264 #[ly b] w λe w' => e=.returned (aB (.star ta))/\af w [] w' := by
 have h1:w.cell? ⟨b,0+1,none⟩=some fa:=by rw[Nat.zero_add];exact h.2
 obtain⟨f,cap,rfl,hf⟩:=hg.shape;obtain⟨cap,rfl⟩:∃ l:List Value,cap=l.toArray:=⟨cap.toList,sI⟩;have hr:=ju hg;have hs:=ql n ih f hf;refine av (nt:=7) [.tmp 1] func264 rfl rfl rfl ?_;refine vR Γ0 (aa qw @ly.eq_1) ?_;refine wR (Γ43 n ih) (oR qw @ly.eq_1 h1 hs hr @lE) ?_ ?_
 ·exact⟨cap,ta,rfl,Bh hg,hd⟩
 refine wZ qw ?_;exact λE=>rfl
theorem MP(n:Nat)(ih:gu n)(g:Jn)(b5 b3 b4:Nat)(fa fb:Value)(ta tb:Rx)(w:World)(S:Nat->Prop)(h5:XC w S b5 0 g.v)(h3:XC w S b3 1 fa)(h4:XC w S b4 1 fb)
  (hga:bg w S fa ta) (hgb:bg w S fb tb) (hda:dp ta<n) (hdb:dp tb<n) :
  Calls prog 220 #[ly b5,ly b3,ly b4] w λe w' => e=.returned (aB (g.mk ta tb))/\af w [] w' := by
 have g5:w.cell? ⟨b5,0,none⟩=some (.func (.func g.f) #[] #[]):=h5.2;have g3:w.cell? ⟨b3,0+1,none⟩=some fa:=by rw[Nat.zero_add];exact h3.2
 have g4:w.cell? ⟨b4,0+1,none⟩=some fb:=by rw[Nat.zero_add];exact h4.2
 obtain⟨f,cap,rfl,hf⟩:=hga.shape;obtain⟨cap,rfl⟩:∃ l:List Value,cap=l.toArray:=⟨cap.toList,sI⟩;obtain⟨f',cap',rfl,hf'⟩:=hgb.shape;obtain⟨cap',rfl⟩:∃ l:List Value,cap' = l.toArray:=⟨cap'.toList,sI⟩;have hr:=ju hga;have hs:=ql n ih f hf;have hr' := ju hgb;have hs' := ql n ih f' hf'
 refine av (nt:=12) [.tmp 3] func220 rfl rfl rfl ?_;refine vR Γ0 (aa qw @ly.eq_1) ?_;refine A0 (Γ43 n ih) (ak qw @ly.eq_1 g5 g3 g4 hs hs' (dx hr hr' @lE)) ?_ ?_
 ·exact⟨⟨cap,ta,rfl,Bh hga,hda⟩,⟨cap',tb,rfl,Bh hgb,hdb⟩,ta,tb,rfl⟩
 refine wZ qw ?_;exact λE=>P3 g ta tb
theorem tV:∀ n,gu n
 |0=>λ_ _ _ _ _ _ h=>by omega
 | n+1=>by
  have ih:=tV n;intro f cap w S t h hd;cases h with
  |leaf b t h=>exact LJ b t w S h
  |join g b5 b3 b4 fa fb ta tb h5 h3 h4 ha hb=>
   rw[acx]at hd;exact MP n ih g b5 b3 b4 fa fb ta tb w S h5 h3 h4 ha hb oM oM
  |star b fa ta h ha=>
   have:dp ta+1<n+1:=hd;exact Mz n ih b fa ta w S h ha oM
end
section
open Go.RowKit Go.LE Go.Proofs.Tryz
set_option maxRecDepth 10000
def tD(s:ByteArray)(i:Int)(d:Nat)(op:List Value):List AV:=[.val (.string s),.val (.int .i64 i),.row 3 1 d op]
def dd(c i:Int):List PanicEntry:=[{ v:=.iface 39 (tK c i ⟨#[]⟩),recovered:=false }]
theorem abb{s:ByteArray}{i:Int}(h0:0<=i)(h:¬ i<s.size):bt s i=0:=by
 unfold bt;rw[Array.getElem?_eq_none (by have:s.data.size=s.size:=rfl;omega)];rfl
theorem zn{w:World}{u:Value}{fp:List Nat}{s:ByteArray}{i:Int}{d:Nat}{op:List Value}(h:bJ w u fp 251 (tD s i d op)) :
  ∃ b,u=.pointer (some ⟨b,0,none⟩)/\w.cell? ⟨b,0,none⟩=some (.string s)/\w.cell? ⟨b,0+1,none⟩=some (.int .i64 i):=by
 obtain⟨b,us,h1,h2,h3⟩:=yH h
 match us,h2 with
 |[x,y,z],h2=>
  obtain⟨rfl,rfl,_,_⟩:=h2;exact⟨b,h1,h3 0 sI,h3 1 sI⟩
def Vq:=(ak @List.replicate_succ.{0} @List.replicate_zero.{0} @aq @ae lP lM lA (ak dI dK dJ dG dr dt du (ak dq mJ mh mG mT mf fq (ak fu ft fh ff fm TM PY (ak Qf Ti Sa Qq Sz S8 vC (ak vF vv uD uL uA xM xm (ak vS vU xQ uE w8 vf uX (ak x7 xp uP uM uT wU wo (dx @tD.eq_1 @tK.eq_1 @dd.eq_1)))))))))
theorem Mi(s:ByteArray)(i:Int)(b:Nat)(w:World)(g1:w.cell? ⟨b,0,none⟩=some (.string s))(g2:w.cell? ⟨b,0+1,none⟩=some (.int .i64 i)) :
  Calls prog 127 #[.pointer (some ⟨b,0,none⟩)] w λe w' => e=.returned (.bool (decide ((s.size:Int)<=i)))/\af w [] w' := by
 refine av (nt:=13) [.tmp 2] func127 rfl rfl rfl ?_;refine vR Γ0 Vq ?_;refine JM Γ0 (dx Vq g1 g2) ?_;refine wZ Vq ?_;exact λE=>rfl
def cT:zg prog 127 where
 T:=251
 pre:=λW bs fs as_=>match fs,as_ with|[.val (.string s),.val (.int .i64 i),.row 3 1 d op],[]=>True|_,_=>False
 res:=λW fs as_=>match fs,as_ with|[.val (.string s),.val (.int .i64 i),.row 3 1 d op],[]=>.bool (decide ((s.size:Int)<=i))|_,_=>undef
 enters:=call127
 ok:=by
  intro W w bs u fp us fs as_ hk ho hu hp;split at hp
  ·rename_i s i d op
   match us,hu with
   |[],_=>
    obtain⟨b,rfl,g1,g2⟩:=zn ho;exact Mi s i b w g1 g2
  ·exact hp.elim
theorem fQ(W:World)(s:ByteArray)(i:Int)(d:Nat)(op:List Value):cT.res W [.val (.string s),.val (.int .i64 i),.row 3 1 d op] []=.bool (decide ((s.size:Int)<=i)):=rfl
theorem fT(W:World)(bs:List Nat)(s:ByteArray)(i:Int)(d:Nat)(op:List Value):cT.pre W bs [.val (.string s),.val (.int .i64 i),.row 3 1 d op] []=(True):=rfl
theorem jA:cT.T=251:=rfl
def DR:=(iS Vq @fQ @fT @jA)
theorem Tu(s:ByteArray)(i:Int)(b:Nat)(w:World)(h0:0<=i)(g1:w.cell? ⟨b,0,none⟩=some (.string s))(g2:w.cell? ⟨b,0+1,none⟩=some (.int .i64 i)) :
  Calls prog 179 #[.pointer (some ⟨b,0,none⟩)] w λe w' => e=.returned (.int .u8 (bt s i))/\af w [] w' := by
 refine av (nt:=22) [.tmp 2] func179 rfl rfl rfl ?_;refine vR Γ0 DR ?_;refine Wp.seq ?_;refine JM Γ0 (dx DR g1 g2) ?_;refine wC DR (λhc=>?_) (λhc=>?_)
 ·have hi:i<s.size:=by simpa using hc
  refine JM Γ0 (dx DR g1 g2) ?_;refine wZ DR ?_;exact λE=>rfl
 ·have hi:¬ i<s.size:=by simpa using hc
  rw[abb h0 hi];refine wK ?_;refine vR Γ0 DR ?_;refine wZ DR ?_;exact λE=>rfl
def gA:zg prog 179 where
 T:=251
 pre:=λW bs fs as_=>match fs,as_ with|[.val (.string s),.val (.int .i64 i),.row 3 1 d op],[]=>0<=i|_,_=>False
 res:=λW fs as_=>match fs,as_ with|[.val (.string s),.val (.int .i64 i),.row 3 1 d op],[]=>.int .u8 (bt s i)|_,_=>undef
 enters:=call179
 ok:=by
  intro W w bs u fp us fs as_ hk ho hu hp;split at hp
  ·rename_i s i d op
   match us,hu with
   |[],_=>
    obtain⟨b,rfl,g1,g2⟩:=zn ho;exact Tu s i b w hp g1 g2
  ·exact hp.elim
theorem jl(W:World)(s:ByteArray)(i:Int)(d:Nat)(op:List Value):gA.res W [.val (.string s),.val (.int .i64 i),.row 3 1 d op] []=.int .u8 (bt s i):=rfl
theorem jq(W:World)(bs:List Nat)(s:ByteArray)(i:Int)(d:Nat)(op:List Value):gA.pre W bs [.val (.string s),.val (.int .i64 i),.row 3 1 d op] []=(0<=i):=rfl
theorem oa:gA.T=251:=rfl
def adJ:=(iS DR @jl @jq @oa)
theorem Gr(s:ByteArray)(i:Int)(d:Nat)(op:List Value)(c j:Int)(u:Value)(fp:List Nat)(w:World)(ho:bJ w u fp 251 (tD s i d op))(hlt:∀ b∈fp,b<w.heap.size) :
  Calls prog 128 (#[u]++#[.int .i64 c,.int .i64 j]) w λe w' => iQ w u fp 251 e w' (.pan (dd c j) (.tuple #[])):=by
 refine bx (nt:=10) #[.int .i64 c,.int .i64 j] [] (by show 3<=7;omega) ho hlt func128 rfl rfl rfl ?_;refine Wp.om Γ0 cr (ev adJ) ?_ ?_
 ·exact oo
 refine qq ?_;exact⟨_,rfl⟩
def eN:eW prog 128 where
 T:=251
 pre:=λW bs fs as_=>match fs,as_ with|[.val (.string s),.val (.int .i64 i),.row 3 1 d op],[.val (.int .i64 c),.val (.int .i64 j)]=>True|_,_=>False
 out:=λW fs as_=>match fs,as_ with|[.val (.string s),.val (.int .i64 i),.row 3 1 d op],[.val (.int .i64 c),.val (.int .i64 j)]=>.pan (dd c j) (.tuple #[])|_,_=>.pan [] undef
 enters:=call128
 ok:=by
  intro W w bs u fp us fs as_ hk ho hlt hmine hu hp;split at hp
  ·rename_i s i d op c j
   match us,hu with
   |[u0,u1],hu=>
    obtain⟨rfl,rfl,_⟩:=hu;exact Gr s i d op c j u fp w ho hlt
  ·exact hp.elim
theorem ir(W:World)(s:ByteArray)(i:Int)(d:Nat)(op:List Value)(c:Int)(j:Int):eN.out W [.val (.string s),.val (.int .i64 i),.row 3 1 d op] [.val (.int .i64 c),.val (.int .i64 j)]=.pan (dd c j) (.tuple #[]):=rfl
theorem iu(W:World)(bs:List Nat)(s:ByteArray)(i:Int)(d:Nat)(op:List Value)(c:Int)(j:Int):eN.pre W bs [.val (.string s),.val (.int .i64 i),.row 3 1 d op] [.val (.int .i64 c),.val (.int .i64 j)]=(True):=rfl
theorem kO:eN.T=251:=rfl
noncomputable def Rb:Env prog:=⟨λ| 127=>some cT.spec|179=>some gA.spec|128=>some eN.spec|_=>none,λ| _=>none,λ_ _=>none⟩
theorem U9:Rb.sp 127=some cT.spec:=rfl
theorem WK:Rb.sp 179=some gA.spec:=rfl
theorem WZ:Rb.sp 128=some eN.spec:=rfl
def Pz(s:ByteArray)(d:Nat)(op:List Value):Except (Int×Int) (Int×Int)->BOut
 |.ok (n,j)=>.ret (.int .i64 n) (tD s j d op)
 |.error (c,j)=>.pan (dd c j) (.int .i64 0)
theorem Ka(s:ByteArray)(d:Nat)(op:List Value)(n j:Int):Pz s d op (.ok (n,j))=.ret (.int .i64 n) (tD s j d op):=rfl
theorem vD(s:ByteArray)(d:Nat)(op:List Value)(c j:Int):Pz s d op (.error (c,j))=.pan (dd c j) (.int .i64 0):=rfl
theorem Mr(c:Int->Int)(N:Int)(k:Nat)(n i:Int)(h:¬ (i<N/\48<=c i/\c i<=57)):mm c N k n i=(n,i):=by
 cases k with
 |zero=>rfl
 |succ k=>rw[mm,if_neg h]
def bd:Nat->Int
 |0=>999
 |1=>99
 |2=>9
 |_=>0
theorem ZK(k:Nat):bd k<=999:=by
 match k with
 |0=>simp[bd]
 |1=>simp[bd]
 |2=>simp[bd]
 |n+3=>simp[bd]
theorem Kk{k:Nat}(hk:k+1<=3):10*bd (k+1)+9<=bd k:=by
 match k,hk with
 |0,_=>simp[bd]
 |1,_=>simp[bd]
 |2,_=>simp[bd]
def pG:=(NT adJ @ir @iu @kO U9 WK WZ)
theorem G6(s:ByteArray)(i:Int)(d:Nat)(op:List Value)(u:Value)(fp:List Nat)(w:World)(h0:0<=i)(hi1:i<=s.size)(hs:s.size<=140737488351232)(ho:bJ w u fp 251 (tD s i d op))(hlt:∀ b∈fp,b<w.heap.size) :
  Calls prog 265 (#[u]++#[]) w λe w' => iQ w u fp 251 e w' (Pz s d op (kC (bt s) s.size i)):=by
 refine bx (nt:=58) #[] [.tmp 2] (by show 3<=7;omega) ho hlt func265 rfl rfl rfl ?_;refine vR Rb pG ?_;refine JM Rb pG ?_;generalize hR:mm (bt s) s.size 3 0 i=R;have w3:IntKind.i64.wrap (i+3)=i+3:=aH oM oM;refine Wp.seq (Wp.block ?_)
 refine Wp.loop (λp:Nat×Int=>⟨20,cL [(0,.is (.own 0 0)),(3,.is (.v (.int .i64 p.2))),(4,.is (.v (.int .i64 i)))],cf [(0,.cells 251 [.v (.string s),.v (.int .i64 (i+(3-(p.1:Nat)))),.hd 3]),(3,.row 3 1 d (op.map .v))]⟩)
  (λp=>p.1<=3/\(0<=p.2/\p.2<=bd p.1)/\i+(3-(p.1:Nat))<=s.size/\mm (bt s) s.size p.1 p.2 (i+(3-(p.1:Nat)))=R) (λp=>p.1) (3,0) ?_ ⟨sI,by simp[bd],by simpa using hi1,by simpa using hR⟩ ?_
 ·exact wM (λk=>.key k) (iS pG @Int.sub_self @Int.add_zero (show (3:Int)-((3:Nat):Int)=0 from rfl))
 rintro⟨k,n⟩ ⟨hk,⟨hn0,hn1⟩,hi,hR'⟩;simp only at hk hn0 hn1 hi hR';have hbd:=ZK k;refine Wp.seq ?_;refine wR Rb (aa pG w3) ?_ ?_
 ·exact⟨dE,λ_=>⟨dE,oM⟩,λ_=>⟨dE,oM⟩⟩
 refine wC pG (λhc=>?_) (λhc=>?_)
 ·simp only[Bool.and_eq_true,Bool.not_eq_true',decide_eq_true_eq,decide_eq_false_iff_not]at hc;obtain⟨⟨⟨h1,h2⟩,h3⟩,h4⟩:=hc;obtain⟨k,rfl⟩:∃ j,k=j+1:=⟨k-1,oM⟩;rw[mm,if_pos ⟨oM,h3,h4⟩]at hR';have hst:=Kk hk;generalize hat:i+(3-((k+1:Nat):Int))=at_ at *;have wa:IntKind.i64.wrap (10*n)=10*n:=aH oM oM
  have wb:IntKind.u8.wrap (bt s at_-48)=bt s at_-48:=pq oM oM;have wc:IntKind.i64.wrap (bt s at_-48)=bt s at_-48:=aH oM oM;have wd:IntKind.i64.wrap (10*n+(bt s at_-48))=10*n+(bt s at_-48):=aH oM oM;have we:IntKind.i64.wrap (at_+1)=i+(3-((k:Nat):Int)):=wW;refine wK ?_;refine Wp.block ?_
  refine wR Rb (ym pG wa wb wc wd) ?_ ?_
  ·exact⟨dE,oM⟩
  refine vr Rb (aa pG we) ?_;refine⟨(k,10*n+(bt s at_-48)),⟨by simp only;omega,⟨by simp only;omega,by simp only;omega⟩,by simp only;omega,by simp only;rw[show i+(3-(k:Int))=at_+1 by omega];exact hR'⟩,by simp only;omega,?_⟩;exact wM (λk=>.key k) pG
 ·have hst:¬ ((i+(3-(k:Int))<s.size/\i+(3-(k:Int))<i+3/\48<=bt s (i+(3-(k:Int))))/\bt s (i+(3-(k:Int)))<=57):=λh=>by
   apply Bool.eq_false_iff.1 hc;simp;omega
  have hRe:R=(n,i+(3-(k:Int))):=by
   rw[<- hR'];cases k with
   |zero=>rfl
   |succ k=>exact Mr _ _ _ _ _ (λh=>hst ⟨⟨h.1,oM,h.2.1⟩,h.2.2⟩)
  have he:kC (bt s) s.size i=if R.2=i then .error (20,i) else .ok R:=by rw[kC,hR]
  rw[he,hRe];refine wE ?_;refine Wp.seq ?_;refine vR Rb pG ?_;refine wC pG (λhc=>?_) (λhc=>?_)
  ·have h1:i+(3-(k:Int))=i:=by simpa using hc
   rw[if_pos h1,vD];refine Wp.om Rb cr (ev (aa pG h1)) ?_ ?_
   ·exact⟨dE,sI⟩
   refine qq ?_;exact⟨_,rfl⟩
  ·have h1:¬ i+(3-(k:Int))=i:=by simpa using hc
   rw[if_neg h1,Ka];refine wK ?_;refine vR Rb pG ?_;refine wZ pG ?_;exact⟨_,_,rfl,λE=>rfl,_,_,rfl,(ev (aa pG @aX)),dE⟩
def pX:eW prog 265 where
 T:=251
 pre:=λW bs fs as_=>match fs,as_ with|[.val (.string s),.val (.int .i64 i),.row 3 1 d op],[]=>0<=i/\i<=s.size/\s.size<=140737488351232|_,_=>False
 out:=λW fs as_=>match fs,as_ with|[.val (.string s),.val (.int .i64 i),.row 3 1 d op],[]=>Pz s d op (kC (bt s) s.size i)|_,_=>.pan [] undef
 enters:=call265
 ok:=by
  intro W w bs u fp us fs as_ hk ho hlt hmine hu hp;split at hp
  ·rename_i s i d op
   match us,hu with
   |[],_=>
    exact G6 s i d op u fp w hp.1 hp.2.1 hp.2.2 ho hlt
  ·exact hp.elim
theorem Df(W:World)(s:ByteArray)(i:Int)(d:Nat)(op:List Value):pX.out W [.val (.string s),.val (.int .i64 i),.row 3 1 d op] []=Pz s d op (kC (bt s) s.size i):=rfl
theorem D9(W:World)(bs:List Nat)(s:ByteArray)(i:Int)(d:Nat)(op:List Value):pX.pre W bs [.val (.string s),.val (.int .i64 i),.row 3 1 d op] []=(0<=i/\i<=s.size/\s.size<=140737488351232):=rfl
theorem KV:pX.T=251:=rfl
theorem dX{r:RL}{W1:World}{bs1 fp:List Nat}{w:World}{S:Nat->Prop}{fv:Value}{T:TypeId}{h:Hp}{vs:List SV}{fs' : List AV}{ks:List Nat}(hg:bg W1 (fi (aG w S fp) bs1) fv r.2)
  (h0:h 0=some (.cells T vs)) (hv:ay h vs=some (fs',ks)) (hn:(0::ks).Nodup):Sw w S fp T W1 bs1 (.agg [.v (.int .i64 (r.1:Nat)),.v fv]) h (.fact Sh.two (cN r) fs'):=
 ⟨⟨[.int .i64 (r.1:Nat),fv],λE=>(qA r fv hg.one).symm,fv,rfl,hg⟩,vs,ks,h0,hv,hn⟩
theorem Gl(a:RL)(x:AV)(m n:Int):(uV a).out [x,.val (.int .i64 m),.val (.int .i64 n)]=.fact Sh.two (cN (cq a m n)):=rfl
theorem Gu(a:RL)(as_:List AV)(W:World)(S:Nat->Prop):(uV a).pre as_ W S=(a.1<=2001/\∃ x m n,as_=[x,.val (.int .i64 m),.val (.int .i64 n)]/\0<=m/\m<=255/\-1<=n/\n<=255):=rfl
theorem Am(a:RL):(uV a).kinds=[some (Sh.two,cN a),none,none]:=rfl
noncomputable def CU(G:Nat->Prop)(a:RL):Env prog:=⟨λ| 127=>some cT.spec|179=>some gA.spec|128=>some eN.spec|265=>some pX.spec|266=>some ((uV a).spec G)|_=>none,λ_=>none,λ_ _=>none⟩
theorem Vs(G:Nat->Prop)(a:RL):(CU G a).sp 127=some cT.spec:=rfl
theorem Xe(G:Nat->Prop)(a:RL):(CU G a).sp 179=some gA.spec:=rfl
theorem Xb(G:Nat->Prop)(a:RL):(CU G a).sp 128=some eN.spec:=rfl
theorem UB(G:Nat->Prop)(a:RL):(CU G a).sp 265=some pX.spec:=rfl
theorem Vi(G:Nat->Prop)(a:RL):(CU G a).sp 266=some ((uV a).spec G):=rfl
def xN:Value:=.agg #[.int .i64 0,.nilFunc]
def P0(a:RL)(s:ByteArray)(d:Nat)(op:List Value):Except (Int×Int) (Int×Int×Int)->GOut
 |.ok (m,n,j)=>.fact Sh.two (cN (cq a m n)) (tD s j d op)
 |.error (c,j)=>.pan (dd c j) xN
theorem Kt{c:Int->Int}{N i n j:Int}(h:kC c N i=.ok (n,j)):0<=n/\n<=999:=by
 have key:∀ (k:Nat) (n i:Int),k<=3->0<=n->n<=bd k->0<=(mm c N k n i).1/\(mm c N k n i).1<=999:=by
  intro k
  induction k with
  |zero=>intro n i _ h0 h1;exact⟨h0,h1⟩
  | succ k ih=>
   intro n i hk h0 h1;rw[mm];split
   ·rename_i h;have:=Kk hk;exact ih _ _ oM oM oM
   ·have:=ZK (k+1);exact⟨h0,by simp only;omega⟩
 unfold kC at h;split at h
 ·cases h
 ·simp only[Except.ok.injEq]at h;have:=key 3 0 i (Nat.le_refl _) oM (by simp[bd]);rw[h]at this;exact this
def cn:=(ak @List.replicate_succ.{0} @List.replicate_zero.{0} @aq @ae lP lM lA (ak dI dK dJ dG dr dt du (ak dq mJ mh mG mT mf Sa (ak Qq Sz S8 xQ uE w8 vf (ak uX x7 xp uP uM uT wU (ak wo pM qs qm pR qv pZ (ak @tD.eq_1 @tK.eq_1 @dd.eq_1 @a6 @aw @aD @aE (ak @eA @jP @fQ @fT @jA @jl @jq (ak @oa @ir @iu @kO @Df @D9 @KV (ak @Ka @vD @Vs @Xe @Xb @UB @Vi (dx @Gl @Gu @Am)))))))))))
theorem Gy(s:ByteArray)(i:Int)(d:Nat)(op:List Value)(a:RL)(fa:Value)(ha:a.1<=2001)(u:Value)(fp:List Nat)(w:World)(S:Nat->Prop)(h0:0<=i)(hi1:i<s.size)(hs:s.size<=140737488351232)
  (ho:bJ w u fp 251 (tD s i d op)) (hlt:∀ b∈fp,b<w.heap.size) (hS:∀ b∈fp,¬ S b) (h1:bg w S fa a.2) :
  Calls prog 262 (#[u]++#[gx a fa]) w λe w' => zh w S u fp 251 e w' (P0 a s d op (qL (bt s) s.size i)):=by
 have ga:partsOf (.v (gx a fa))=[.v (.int .i64 (a.1:Nat)),.v fa]:=rfl;have u0:=aG.up w S fp;have g0:=h1.mono (aG.fe w S fp hS);have w1:IntKind.i64.wrap (i+1)=i+1:=aH oM oM;refine gP (nt:=88) S #[gx a fa] [.cell 4 254] (by show 3<=7;omega) ho hlt func262 rfl rfl rfl ?_;refine vR Γ0 (aa cn ga) ?_
 refine vR Γ0 cn ?_;refine vR Γ0 (aa cn w1) ?_;cases hN:kC (bt s) s.size (i+1) with
 |error e=>
  obtain⟨c,j⟩:=e;have he:qL (bt s) s.size i=.error (c,j):=by rw[qL,hN]
  rw[he];refine Wp.iT (CU (aG w S fp) a) cr (ev (dx cn hN w1)) ?_ ?_
  ·first|trivial|omega|(simp[hs];done)|(simp[hs];omega)|(simp[hs]<;>omega)
  refine qq ?_;exact⟨_,rfl⟩
 | ok p=>
  obtain⟨m,j⟩:=p;have hj:=uo hN;have hm:=Kt hN;refine wR (CU (aG w S fp) a) (dx cn hN w1) ?_ ?_
  ·first|trivial|omega|(simp[hs];done)|(simp[hs];omega)|(simp[hs]<;>omega)
  refine vR Γ0 cn ?_;have wj:IntKind.i64.wrap (j+1)=j+1:=aH oM oM;have hb:∀ n k,Ho (bt s) s.size m j=.ok (n,k)->qL (bt s) s.size i=sx (bt s) s.size m n k i:=λn k h=>by rw[qL,hN];simp only[h]
  cases hU:Ho (bt s) s.size m j with
  | error e=>
   obtain⟨c,k⟩:=e;have he:qL (bt s) s.size i=.error (c,k):=by rw[qL,hN];simp only[hU]
   rw[he];rw[Ho]at hU;split at hU
   ·rename_i h44;split at hU
    ·rename_i h125;refine Wp.seq ?_;refine wR (CU (aG w S fp) a) cn ?_ ?_
     ·first|trivial|omega|(simp[hs];done)|(simp[hs];omega)|(simp[hs]<;>omega)
     refine wC cn (λhc=>?_) (λhc=>?_)
     ·skip;refine vR Γ0 (aa cn wj) ?_;refine vR Γ0 cn ?_;refine wR (CU (aG w S fp) a) cn ?_ ?_
      ·first|trivial|omega|(simp[hs];done)|(simp[hs];omega)|(simp[hs]<;>omega)
      refine wC cn (λhc=>?_) (λhc=>?_)
      ·skip;refine Wp.om (CU (aG w S fp) a) cr (ev (aa cn hU)) ?_ ?_
       ·first|trivial|omega|(simp[hs];done)|(simp[hs];omega)|(simp[hs]<;>omega)
       refine qq ?_;exact⟨_,rfl⟩
      ·exfalso;apply Bool.eq_false_iff.1 hc;simp;omega
     ·exfalso;apply Bool.eq_false_iff.1 hc;simp;omega
    ·cases hU
   ·cases hU
  | ok q=>
   obtain⟨n,k⟩:=q;have hbe:=hb n k hU
   refine dB ⟨60,cL [(0,.is (.own 0 0)),(3,.is (.own 8 0)),(4,.is (.own 16 0)),(5,.is (.v (.int .i64 i))),(6,.is (.v (.int .i64 m))),(7,.is (.v (.int .i64 n)))],cf [(0,.cells 251 [.v (.string s),.v (.int .i64 k),.hd 3]),(3,.row 3 1 d (op.map .v)),(8,.cells 254 [.v (.int .i64 (a.1:Nat)),.v fa]),(16,.cells 254 [.v (.int .i64 0),.v .nilFunc])]⟩ ?_ ?_
   ·skip;refine wR (CU (aG w S fp) a) cn ?_ ?_
    ·first|trivial|omega|(simp[hs];done)|(simp[hs];omega)|(simp[hs]<;>omega)
    refine wC cn (λhc=>?_) (λhc=>?_)
    ·have h44:j<s.size/\bt s j=44:=by
      simp at hc;omega
     rw[Ho,if_pos h44]at hU;refine vR Γ0 (aa cn wj) ?_;refine vR Γ0 cn ?_;refine wR (CU (aG w S fp) a) cn ?_ ?_
     ·first|trivial|omega|(simp[hs];done)|(simp[hs];omega)|(simp[hs]<;>omega)
     refine wC cn (λhc=>?_) (λhc=>?_)
     ·have h125:¬ j+1<s.size\/bt s (j+1)≠125:=by
       simp at hc;omega
      rw[if_pos h125]at hU;refine wr (CU (aG w S fp) a) (aa cn hU) ?_ ?_
      ·first|trivial|omega|(simp[hs];done)|(simp[hs];omega)|(simp[hs]<;>omega)
      exact wM (λx=>if x=3 then .key 370 else .key x) cn
     ·have h125:¬ (¬ j+1<s.size\/bt s (j+1)≠125):=by
       simp at hc;omega
      rw[if_neg h125]at hU;simp only[Except.ok.injEq,Prod.mk.injEq]at hU;obtain⟨rfl,rfl⟩:=hU;refine wK ?_;exact wM (λx=>if x=3 then .key 138 else .key x) cn
    ·have h44:¬ (j<s.size/\bt s j=44):=λh=>by
      apply Bool.eq_false_iff.1 hc;simp;omega
     rw[Ho,if_neg h44]at hU;simp only[Except.ok.injEq,Prod.mk.injEq]at hU;obtain⟨rfl,rfl⟩:=hU;refine wK ?_;exact wM (λx=>if x=3 then .key 138 else .key x) cn
   ·have hk:j<=k/\k<=s.size/\-1<=n/\n<=999:=by
     rw[Ho]at hU;split at hU
     ·split at hU
      ·have:=uo hU;have:=Kt hU;omega
      ·simp only[Except.ok.injEq,Prod.mk.injEq]at hU;omega
     ·simp only[Except.ok.injEq,Prod.mk.injEq]at hU;omega
    have wk:IntKind.i64.wrap (k+1)=k+1:=aH oM oM;rw[hbe];refine Wp.seq ?_;refine wR (CU (aG w S fp) a) cn ?_ ?_
    ·first|trivial|omega|(simp[hs];done)|(simp[hs];omega)|(simp[hs]<;>omega)
    refine wC cn (λhc=>?_) (λhc=>?_)
    ·have h2:¬ k<s.size\/bt s k≠125:=by
      simp at hc;omega
     rw[sx,if_pos h2];refine Wp.om (CU (aG w S fp) a) cr (ev cn) ?_ ?_
     ·first|trivial|omega|(simp[hs];done)|(simp[hs];omega)|(simp[hs]<;>omega)
     refine qq ?_;exact⟨_,rfl⟩
    ·have h2:¬ (¬ k<s.size\/bt s k≠125):=λh=>by
      apply Bool.eq_false_iff.1 hc;simp;omega
     rw[sx,if_neg h2];refine wK ?_;refine vR Γ0 (aa cn wk) ?_;refine Wp.seq ?_;refine vR Γ0 cn ?_;refine wC cn (λhc=>?_) (λhc=>?_)
     ·have h3:255<m\/255<n\/0<=n/\n<m:=by
       simp at hc;omega
      rw[if_pos h3];refine Wp.om (CU (aG w S fp) a) cr (ev cn) ?_ ?_
      ·first|trivial|omega|(simp[hs];done)|(simp[hs];omega)|(simp[hs]<;>omega)
      refine qq ?_;exact⟨_,rfl⟩
     ·have h3:¬ (255<m\/255<n\/0<=n/\n<m):=λh=>by
       apply Bool.eq_false_iff.1 hc;simp;omega
      rw[if_neg h3];refine wK ?_;refine wR (CU (aG w S fp) a) cn ?_ ?_
      ·exact⟨⟨bH g0,ha,_,_,_,rfl,oM,oM,oM,oM⟩,u0⟩
      refine Wp.gG 744 (ev (aa cn ga)) (bV.refl _ _) λW1 bs1 cs hx1 hΦ=>?_
      obtain⟨fv,rfl,hg,hv1⟩:=bT hΦ;refine wZ (dx cn ga hv1) ?_;exact dX hg rfl ((ev (aa cn @aX))) dE
def nX(a:RL):zl prog 262 where
 T:=251
 kinds:=[some (Sh.two,cN a)]
 pre:=λfs as_ W S=>∃ s i d op x,fs=tD s i d op/\as_=[x]/\a.1<=2001/\0<=i/\i<s.size/\s.size<=140737488351232
 premono:=λ_ _ _ _ _ _ _ h=>h
 out:=λfs as_=>match fs with
  |[.val (.string s),.val (.int .i64 i),.row 3 1 d op]=>P0 a s d op (qL (bt s) s.size i)
  |_=>.pan [] undef
 enters:=call262
 ok:=by
  intro w S u fp us fs as_ ho hlt hS hu hp;obtain⟨s,i,d,op,x,rfl,rfl,ha,h0,hi,hs⟩:=hp
  match us,hu with
  |[u1],hu=>
   obtain⟨h1,_⟩:=hu;obtain⟨fa,rfl,h1'⟩:=jv h1;exact Gy s i d op a fa ha u fp w S h0 hi hs ho hlt hS h1'
theorem DQ(a:RL)(s:ByteArray)(i:Int)(d:Nat)(op:List Value)(as_:List AV):(nX a).out [.val (.string s),.val (.int .i64 i),.row 3 1 d op] as_=P0 a s d op (qL (bt s) s.size i):=rfl
theorem Fj(a:RL)(fs as_:List AV)(W:World)(S:Nat->Prop):(nX a).pre fs as_ W S=∃ s i d op x,fs=tD s i d op/\as_=[x]/\a.1<=2001/\0<=i/\i<s.size/\s.size<=140737488351232:=rfl
theorem yl(a:RL):(nX a).kinds=[some (Sh.two,cN a)]:=rfl
theorem NK(a:RL):(nX a).T=251:=rfl
theorem Ve(a:RL)(s:ByteArray)(d:Nat)(op:List Value)(m n j:Int):P0 a s d op (.ok (m,n,j))=.fact Sh.two (cN (cq a m n)) (tD s j d op):=rfl
theorem FQ(a:RL)(s:ByteArray)(d:Nat)(op:List Value)(c j:Int):P0 a s d op (.error (c,j))=.pan (dd c j) xN:=rfl
noncomputable def Mu(G:Nat->Prop)(a:RL):Env prog:=⟨λ| 127=>some cT.spec|179=>some gA.spec|260=>some ((xr a).spec G)|180=>some ((gn .cat a (eF a)).spec G)|261=>some ((rK a).spec G)|262=>some ((nX a).spec G)|_=>none,λ_=>none,λ_ _=>none⟩
theorem Wv(G:Nat->Prop)(a:RL):(Mu G a).sp 127=some cT.spec:=rfl
theorem XQ(G:Nat->Prop)(a:RL):(Mu G a).sp 179=some gA.spec:=rfl
theorem Ys(G:Nat->Prop)(a:RL):(Mu G a).sp 260=some ((xr a).spec G):=rfl
theorem Xj(G:Nat->Prop)(a:RL):(Mu G a).sp 180=some ((gn .cat a (eF a)).spec G):=rfl
theorem WI(G:Nat->Prop)(a:RL):(Mu G a).sp 261=some ((rK a).spec G):=rfl
theorem Uh(G:Nat->Prop)(a:RL):(Mu G a).sp 262=some ((nX a).spec G):=rfl
def Ct(s:ByteArray)(d:Nat)(op:List Value):Except (Int×Int) (RL×Int)->GOut
 |.ok (r,j)=>.fact Sh.two (cN r) (tD s j d op)
 |.error (c,j)=>.pan (dd c j) xN
theorem nJ(s:ByteArray)(d:Nat)(op:List Value)(r:RL)(j:Int):Ct s d op (.ok (r,j))=.fact Sh.two (cN r) (tD s j d op):=rfl
theorem bq(s:ByteArray)(d:Nat)(op:List Value)(c j:Int):Ct s d op (.error (c,j))=.pan (dd c j) xN:=rfl
theorem zQ(a:RL)(m n:Int)(ha:a.1<=2001):(cq a m n).1<=2001:=by
 have h1:(if m=0 then bj a else a).1<=2001:=by split;exact kS a;exact ha
 unfold cq;split
 ·exact mr a
 ·split
  ·decide
  ·split
   ·exact eB _ _ _
   ·exact mz _ (λx=>eB _ _ _) _ _ (mz _ (λx=>eB _ _ _) _ _ h1)
structure RI where
 W:World
 bs:List Nat
 fo:Value
 r:RL
 i:Int
 n:Nat
def cj:=(ak @List.replicate_succ.{0} @List.replicate_zero.{0} @aq @ae lP lM lA (ak dI dK dJ dG dr dt du (ak dq mJ mh mG mT mf xQ (ak uE w8 vf uX x7 xp uP (ak uM uT wU wo pM qs qm (ak pR qv pZ yK yS yM @tD.eq_1 (ak @tK.eq_1 @dd.eq_1 @a6 @aw @aD @aE @eA (ak @jP @fQ @fT @jA @jl @jq @oa (ak @xr.eq_1 @gn.eq_1 @rK.eq_1 @Wv @XQ @Ys @Xj (ak @WI @Uh @DQ @Fj @yl @NK @Ve @FQ))))))))))
theorem Fp(s:ByteArray)(i0:Int)(d:Nat)(op:List Value)(a:RL)(fa:Value)(ha:a.1<=2001)(u:Value)(fp:List Nat)(w:World)(S:Nat->Prop)(h0:0<=i0)(hi1:i0<=s.size)(hs:s.size<=140737488351232)
  (ho:bJ w u fp 251 (tD s i0 d op)) (hlt:∀ b∈fp,b<w.heap.size) (hS:∀ b∈fp,¬ S b) (h1:bg w S fa a.2) :
  Calls prog 250 (#[u]++#[gx a fa]) w λe w' => zh w S u fp 251 e w' (Ct s d op (gR (bt s) s.size ((s.size:Int).toNat+1) a i0)):=by
 have ga:partsOf (.v (gx a fa))=[.v (.int .i64 (a.1:Nat)),.v fa]:=rfl;have u0:=aG.up w S fp;have g0:=h1.mono (aG.fe w S fp hS);generalize hR:gR (bt s) s.size ((s.size:Int).toNat+1) a i0=R;refine gP (nt:=38) S #[gx a fa] [.cell 4 254] (by show 3<=7;omega) ho hlt func250 rfl rfl rfl ?_
 refine vR Γ0 (aa cj ga) ?_;refine Wp.seq (Wp.block ?_)
 refine Wp.zy (λp:RI=>⟨5,cL [(0,.is (.own 0 0)),(3,.is (.own 8 0)),(4,.is (.own 16 0))],cf [(0,.cells 251 [.v (.string s),.v (.int .i64 p.i),.hd 3]),(3,.row 3 1 d (op.map .v)),(8,.cells 254 [.v (.int .i64 (p.r.1:Nat)),.v p.fo]),(16,.cells 254 [.v (.int .i64 0),.v .nilFunc])]⟩)
  RI.W RI.bs (λp=>(0<=p.i/\p.i<=s.size)/\p.r.1<=2001/\((s.size:Int)-p.i<p.n/\1<=p.n)/\bg p.W (fi (aG w S fp) p.bs) p.fo p.r.2/\gR (bt s) s.size p.n p.r p.i=R) (λp=>p.n) ⟨w,fp,fa,a,i0,(s.size:Int).toNat+1⟩ rfl rfl ?_ ⟨⟨h0,hi1⟩,ha,⟨by simp only;omega,by simp only;omega⟩,g0,hR⟩ ?_
 ·exact wM (λx=>.key x) (aa cj ga)
 rintro⟨W1,bs1,fo,r,i,n⟩ ⟨⟨hi0,hiN⟩,hr,⟨hn,hn1⟩,hg,hR'⟩ hx1;simp only at hi0 hiN hr hn hn1 hg hR' hx1;dsimp only;obtain⟨n,rfl⟩:∃ m,n=m+1:=⟨n-1,oM⟩;have u1:=u0.ext hx1;refine Wp.seq ?_;refine wR (Mu (aG w S fp) r) cj ?_ ?_
 ·first|trivial|omega|(simp[hs];done)|(simp[hs];omega)|(simp[hs]<;>omega)
 refine wC cj (λhc=>?_) (λhc=>?_)
 ·have hi:i<s.size:=by
   simp at hc;omega
  rw[gR,if_neg oM]at hR';have wi:IntKind.i64.wrap (i+1)=i+1:=aH oM oM;refine wK ?_;refine Wp.block ?_;refine Wp.seq ?_;refine wR (Mu (aG w S fp) r) cj ?_ ?_
  ·first|trivial|omega|(simp[hs];done)|(simp[hs];omega)|(simp[hs]<;>omega)
  refine Wp.block ?_;refine vR Γ0 cj ?_;refine wC cj (λhc=>?_) (λhc=>?_)
  ·have h42:bt s i=42:=by simpa using hc
   rw[if_pos h42]at hR';refine Wp.more ?_;refine wr (Mu (aG w S fp) r) cj ?_ ?_
   ·exact⟨⟨bH hg,hr,_,rfl⟩,u1⟩
   refine dV ?_;refine Pw.gG 104 (ev cj) (bV.refl _ _) λW2 bs2 cs hx2 hΦ=>?_
   obtain⟨fv,rfl,hg2,hv2⟩:=bT hΦ;refine Pw.here ?_;refine qq ?_;refine vr Γ0 (aa cj wi) ?_;refine⟨⟨W2,bs2,fv,eF r,i+1,n⟩,⟨by simp only;omega,mr r,by simp only;omega,hg2,hR'⟩,by simp only;omega,rfl,rfl,?_⟩;exact wM (λx=>.key x) (aa cj hv2)
  ·have h42:¬ bt s i=42:=by simpa using hc
   rw[if_neg h42]at hR';refine vR Γ0 cj ?_;refine wC cj (λhc=>?_) (λhc=>?_)
   ·have h43:bt s i=43:=by simpa using hc
    rw[if_pos h43]at hR';refine Wp.more ?_;refine Ft (Mu (aG w S fp) r) cj ?_ ?_
    ·exact⟨⟨⟨bH hg,hr,_,rfl⟩,u1⟩,⟨bH hg,⟨hr,mr r⟩,_,_,rfl⟩,u1⟩
    refine dV ?_;refine Pw.gG 136 (ev cj) (bV.refl _ _) λW2 bs2 cs hx2 hΦ=>?_
    obtain⟨fv,rfl,hg2,hv2⟩:=bT hΦ;refine Pw.here ?_;refine qq ?_;refine vr Γ0 (aa cj wi) ?_;refine⟨⟨W2,bs2,fv,aM .cat r (eF r),i+1,n⟩,⟨by simp only;omega,eB _ _ _,by simp only;omega,hg2,hR'⟩,by simp only;omega,rfl,rfl,?_⟩;exact wM (λx=>.key x) (aa cj hv2)
   ·have h43:¬ bt s i=43:=by simpa using hc
    rw[if_neg h43]at hR';refine vR Γ0 cj ?_;refine wC cj (λhc=>?_) (λhc=>?_)
    ·have h63:bt s i=63:=by simpa using hc
     rw[if_pos h63]at hR';refine Wp.more ?_;refine wr (Mu (aG w S fp) r) cj ?_ ?_
     ·exact⟨⟨bH hg,hr,_,rfl⟩,u1⟩
     refine dV ?_;refine Pw.gG 136 (ev cj) (bV.refl _ _) λW2 bs2 cs hx2 hΦ=>?_
     obtain⟨fv,rfl,hg2,hv2⟩:=bT hΦ;refine Pw.here ?_;refine qq ?_;refine vr Γ0 (aa cj wi) ?_;refine⟨⟨W2,bs2,fv,bj r,i+1,n⟩,⟨by simp only;omega,kS r,by simp only;omega,hg2,hR'⟩,by simp only;omega,rfl,rfl,?_⟩;exact wM (λx=>.key x) (aa cj hv2)
    ·have h63:¬ bt s i=63:=by simpa using hc
     rw[if_neg h63]at hR';refine vR Γ0 cj ?_;refine wC cj (λhc=>?_) (λhc=>?_)
     ·have h123:bt s i=123:=by simpa using hc
      rw[if_pos h123]at hR';cases hB:qL (bt s) s.size i with
      |error e=>
       obtain⟨c,j⟩:=e;rw[hB]at hR';simp only at hR';rw[<- hR',bq];refine Wp.iT (Mu (aG w S fp) r) cr (ev (aa cj hB)) ?_ ?_
       ·exact⟨⟨bH hg,_,_,_,_,_,rfl,rfl,hr,hi0,hi,hs⟩,dE,sI⟩
       refine qq ?_;exact⟨_,rfl⟩
      |ok q=>
       obtain⟨m,k,j⟩:=q;rw[hB]at hR';simp only at hR';have hj:=Ar hB;refine wR (Mu (aG w S fp) r) (aa cj hB) ?_ ?_
       ·exact⟨⟨bH hg,_,_,_,_,_,rfl,rfl,hr,hi0,hi,hs⟩,dE,sI,u1⟩
       refine Wp.gG 167 (ev cj) (bV.refl _ _) λW2 bs2 cs hx2 hΦ=>?_
       obtain⟨fv,rfl,hg2,hv2⟩:=bT hΦ;refine wE ?_;refine⟨⟨W2,bs2,fv,cq r m k,j,n⟩,⟨by simp only;omega,zQ _ _ _ hr,by simp only;omega,hg2,hR'⟩,by simp only;omega,rfl,rfl,?_⟩;exact wM (λx=>if x=3 then .key 162 else .key x) (aa cj hv2)
     ·have h123:¬ bt s i=123:=by simpa using hc
      rw[if_neg h123]at hR';refine wR Γ0 cj ?_ ?_
      ·exact hg.one
      refine wZ cj ?_;rw[<- hR'];exact dX hg rfl ((ev (aa cj @aX))) dE
 ·have hi:¬ i<s.size:=by
   simp at hc;omega
  rw[gR,if_pos hi]at hR';refine wE ?_;refine wR Γ0 cj ?_ ?_
  ·exact hg.one
  refine wZ cj ?_;rw[<- hR'];exact dX hg rfl ((ev (aa cj @aX))) dE
def kH(a:RL):zl prog 250 where
 T:=251
 kinds:=[some (Sh.two,cN a)]
 pre:=λfs as_ W S=>∃ s i d op x,fs=tD s i d op/\as_=[x]/\a.1<=2001/\0<=i/\i<=s.size/\s.size<=140737488351232
 premono:=λ_ _ _ _ _ _ _ h=>h
 out:=λfs as_=>match fs with
  |[.val (.string s),.val (.int .i64 i),.row 3 1 d op]=>Ct s d op (gR (bt s) s.size ((s.size:Int).toNat+1) a i)
  |_=>.pan [] undef
 enters:=call250
 ok:=by
  intro w S u fp us fs as_ ho hlt hS hu hp;obtain⟨s,i,d,op,x,rfl,rfl,ha,h0,hi,hs⟩:=hp
  match us,hu with
  |[u1],hu=>
   obtain⟨h1,_⟩:=hu;obtain⟨fa,rfl,h1'⟩:=jv h1;exact Fp s i d op a fa ha u fp w S h0 hi hs ho hlt hS h1'
def kp(s:ByteArray)(i:Int):Except (Int×Int) (BitVec 256×Int):=match gE s i with
 |.error j=>.error (10,j)
 |.ok (a,j)=>.ok (a,j)
def AK(f:FuncId)(E:ByteArray->Int->Except (Int×Int) (RL×Int))(need:ByteArray->Int->Prop)(n:Nat):Prop:=
 ∀ (s:ByteArray) (i:Int) (d:Nat) (op:List Value) (u:Value) (fp:List Nat) (w:World) (S:Nat->Prop),d+n=1000->op.length=d->0<=i->need s i->s.size<=140737488351232->aV w S ->
  bJ w u fp 251 (tD s i d op)->(∀ b∈fp,b<w.heap.size)->(∀ b∈fp,¬ S b) ->
  Calls prog f (#[u]++#[]) w λe w' => zh w S u fp 251 e w' (Ct s d op (E s i))
abbrev EK (n:Nat):Prop:=AK 251 (λs i=>aY (bt s) s.size (kp s) n i) (λs i=>i<s.size) n
abbrev KA (n:Nat):Prop:=AK 216 (λs i=>dS (bt s) s.size (aY (bt s) s.size (kp s) n) ((s.size:Int).toNat+1) none i) (λs i=>i<=s.size) n
abbrev C0 (n:Nat):Prop:=AK 178 (λs i=>jQ (bt s) s.size (dS (bt s) s.size (aY (bt s) s.size (kp s) n) ((s.size:Int).toNat+1) none) i) (λs i=>i<=s.size) n
abbrev Q8 (n:Nat):Prop:=AK 126 (λs i=>ti (bt s) s.size (aY (bt s) s.size (kp s) n) i) (λs i=>i<=s.size) n
def kx(f:FuncId)(E:ByteArray->Int->Except (Int×Int) (RL×Int))(need:ByteArray->Int->Prop)(n:Nat)(hen:∀ args w,(callFunc f args).run prog w=.ok (.enter f args) w)(h:AK f E need n):zl prog f where
 T:=251
 kinds:=[]
 pre:=λfs as_ W S=>(∃ s i d op,fs=tD s i d op/\d+n=1000/\op.length=d/\0<=i/\need s i/\s.size<=140737488351232)/\aV W S
 premono:=λ_ _ _ _ _ _ hs h=>⟨h.1,h.2.mono hs⟩
 out:=λfs as_=>match fs with
  |[.val (.string s),.val (.int .i64 i),.row 3 1 d op]=>Ct s d op (E s i)
  |_=>.pan [] undef
 enters:=hen
 ok:=by
  intro w S u fp us fs as_ ho hlt hS hu hp;obtain⟨⟨s,i,d,op,rfl,h1,h2,h3,h4,h5⟩,h6⟩:=hp
  match us,as_,hu with
  |[],[],_=>exact h s i d op u fp w S h1 h2 h3 h4 h5 h6 ho hlt hS
theorem qG(f:FuncId)(E:ByteArray->Int->Except (Int×Int) (RL×Int))(need:ByteArray->Int->Prop)(n:Nat)(hen)(h:AK f E need n)(s:ByteArray)(i:Int)(d:Nat)(op:List Value)(as_:List AV) :
  (kx f E need n hen h).out [.val (.string s),.val (.int .i64 i),.row 3 1 d op] as_=Ct s d op (E s i):=rfl
theorem qF(f:FuncId)(E:ByteArray->Int->Except (Int×Int) (RL×Int))(need:ByteArray->Int->Prop)(n:Nat)(hen)(h:AK f E need n)(fs as_:List AV)(W:World)(S:Nat->Prop) :
  (kx f E need n hen h).pre fs as_ W S=((∃ s i d op,fs=tD s i d op/\d+n=1000/\op.length=d/\0<=i/\need s i/\s.size<=140737488351232)/\aV W S):=rfl
theorem lG(f:FuncId)(E:ByteArray->Int->Except (Int×Int) (RL×Int))(need:ByteArray->Int->Prop)(n:Nat)(hen)(h:AK f E need n):(kx f E need n hen h).kinds=[]:=rfl
theorem BN(f:FuncId)(E:ByteArray->Int->Except (Int×Int) (RL×Int))(need:ByteArray->Int->Prop)(n:Nat)(hen)(h:AK f E need n):(kx f E need n hen h).T=251:=rfl
theorem Ax(a:RL)(s:ByteArray)(i:Int)(d:Nat)(op:List Value)(as_:List AV):(kH a).out [.val (.string s),.val (.int .i64 i),.row 3 1 d op] as_=Ct s d op (gR (bt s) s.size ((s.size:Int).toNat+1) a i):=rfl
theorem B6(a:RL)(fs as_:List AV)(W:World)(S:Nat->Prop):(kH a).pre fs as_ W S=∃ s i d op x,fs=tD s i d op/\as_=[x]/\a.1<=2001/\0<=i/\i<=s.size/\s.size<=140737488351232:=rfl
theorem xy(a:RL):(kH a).kinds=[some (Sh.two,cN a)]:=rfl
theorem IB(a:RL):(kH a).T=251:=rfl
noncomputable def HL(G:Nat->Prop)(n:Nat)(h:EK n)(a x y:RL):Env prog:=⟨λ| 127=>some cT.spec|179=>some gA.spec|128=>some eN.spec|249=>some ((lW .eps).spec G)|180=>some ((gn .cat x y).spec G)|250=>some ((kH a).spec G)|251=>some ((kx _ _ _ n call251 h).spec G)|_=>none,λ_=>none,λ_ _=>none⟩
section
variable (G:Nat->Prop)(n:Nat)(h:EK n)(a x y:RL)
theorem Wy:(HL G n h a x y).sp 127=some cT.spec:=rfl
theorem YJ:(HL G n h a x y).sp 179=some gA.spec:=rfl
theorem Wu:(HL G n h a x y).sp 128=some eN.spec:=rfl
theorem Wk:(HL G n h a x y).sp 249=some ((lW .eps).spec G):=rfl
theorem Xa:(HL G n h a x y).sp 180=some ((gn .cat x y).spec G):=rfl
theorem UL:(HL G n h a x y).sp 250=some ((kH a).spec G):=rfl
theorem XS:(HL G n h a x y).sp 251=some ((kx _ _ _ n call251 h).spec G):=rfl
end
theorem By{s:ByteArray}:∀ {n:Nat} {i:Int} {a b:CS} {j:Int},AN s n i a=.ok (b,j)->0<=i->i<j/\j<=s.size
 |0,i,a,b,j,h,_=>by cases h
 | n+1,i,a,b,j,h,h0=>by
  rw[AN]at h;split at h
  ·simp only[Except.ok.injEq,Prod.mk.injEq]at h;omega
  ·cases h1:kn s i sn with
   |error e=>rw[h1]at h;cases h
   | ok p=>
    obtain⟨lo,k⟩:=p;rw[h1]at h;simp only at h;have g1:=nW h1 h0;split at h
    ·cases h2:kn s (k+1) sn with
     |error e=>rw[h2]at h;cases h
     |ok p=>
      obtain⟨hi,l⟩:=p;rw[h2]at h;simp only at h;have g2:=nW h2 oM;split at h
      ·cases h
      ·have:=By h oM;omega
    ·have:=By h oM;omega
theorem D8{s:ByteArray}{i:Int}{a:CS}{j:Int}(h:gE s i=.ok (a,j))(h0:0<=i)(h1:i<s.size):i<j/\j<=s.size:=by
 rw[gE]at h;split at h
 ·simp only[Except.ok.injEq,Prod.mk.injEq]at h;omega
 ·split at h
  ·rw[gl]at h;cases hm:AN s (s.size+1) (if pY s (i+1) then i+1+1 else i+1) 0 with
   |error e=>rw[hm]at h;cases h
   |ok p=>
    obtain⟨b,k⟩:=p;rw[hm]at h;simp only[Eg,Except.ok.injEq,Prod.mk.injEq]at h;have:=By hm (by split<;>omega);have hle:i+1<=(if pY s (i+1) then i+1+1 else i+1):=by split<;>omega
    omega
  ·cases h2:kn s i T6 with
   |error e=>rw[h2]at h;cases h
   |ok p=>
    obtain⟨b,k⟩:=p;rw[h2]at h;simp only[acd,Except.ok.injEq,Prod.mk.injEq]at h;have:=nW h2 h0;omega
theorem sr(s:ByteArray):r8 s.size (kp s):=λi S j h0 h1 h=>by
 rw[kp]at h;cases h2:gE s i with
 |error e=>rw[h2]at h;cases h
 |ok p=>
  obtain⟨a,k⟩:=p;rw[h2]at h;simp only[Except.ok.injEq,Prod.mk.injEq]at h;have:=D8 h2 h0 h1;omega
theorem HB{s:ByteArray}{n:Nat}(hn:n<=1000){i j:Int}{r:RL}(h0:0<=i)(hi:i<s.size)(he:¬ e9 (bt s i))(hp:¬ bf (bt s i))(h:aY (bt s) s.size (kp s) n i=.ok (r,j)):i<j/\j<=s.size/\r.1<=2001:=by
 have:=qy (c:=bt s) (sr s) n i (gi 0) (List.replicate (1000-n) (gi 0)) h0 hi he hp (by simp;omega);rw[h]at this;obtain⟨h1,h2,t,rfl,_⟩:=this;exact⟨h1,h2,sQ t⟩
theorem kX{s:ByteArray}:∀ {n:Nat} {r r' : RL} {i j:Int},gR (bt s) s.size n r i=.ok (r',j)->i<=s.size->r.1<=2001->i<=j/\j<=s.size/\r'.1<=2001
 |0,r,r',i,j,h,hi,hr=>by
  simp only[gR,Except.ok.injEq,Prod.mk.injEq]at h;obtain⟨rfl,rfl⟩:=h;exact⟨Int.le_refl _,hi,hr⟩
 | n+1,r,r',i,j,h,hi,hr=>by
  rw[gR]at h;split at h
  ·simp only[Except.ok.injEq,Prod.mk.injEq]at h;obtain⟨rfl,rfl⟩:=h;exact⟨Int.le_refl _,hi,hr⟩
  ·split at h
   ·have:=kX h oM (mr _);exact⟨oM,this.2⟩
   ·split at h
    ·have:=kX h oM (eB _ _ _);exact⟨oM,this.2⟩
    ·split at h
     ·have:=kX h oM (kS _);exact⟨oM,this.2⟩
     ·split at h
      ·cases hB:qL (bt s) s.size i with
       |error e=>rw[hB]at h;cases h
       |ok q=>
        obtain⟨m,k,l⟩:=q;rw[hB]at h;have hl:=Ar hB;have:=kX h oM (zQ _ _ _ hr);exact⟨oM,this.2⟩
      ·simp only[Except.ok.injEq,Prod.mk.injEq]at h;obtain⟨rfl,rfl⟩:=h;exact⟨Int.le_refl _,hi,hr⟩
theorem X3(o:Option RL)(p:RL)(hp:p.1<=2001):(vp o p).1<=2001:=by
 cases o with
 |none=>exact hp
 |some x=>exact eB _ _ _
structure RO where
 W:World
 bs:List Nat
 fo:Value
 o:Option RL
 i:Int
 n:Nat
def bb:=(ak @List.replicate_succ.{0} @List.replicate_zero.{0} @aq @ae lP lM lA (ak dI dK dJ dG dr dt du (ak dq mJ mh mG mT mf Sa (ak Qq Sz S8 sw sS sO sN (ak xQ uE w8 vf uX x7 xp (ak uP uM uT wU wo pM qs (ak qm pR qv pZ Jj IW JT (ak J0 Jo IL JX yK yS yM (ak @tD.eq_1 @tK.eq_1 @dd.eq_1 @a6 @aw @aD @aE (ak @eA @jP @fQ @fT @jA @jl @jq (ak @oa @ir @iu @kO @lW.eq_1 @gn.eq_1 @nJ (ak @bq @qG @qF @lG @BN @Ax @B6 (ak @xy @IB @Wy @YJ @Wu @Wk @Xa (aa @UL @XS))))))))))))))
theorem JL(n:Nat)(hA:EK n):KA n:=by
 intro s i0 d op u fp w S hdn hop h0 hi1 hs hesc ho hlt hS;have u0:=aG.up w S fp;have e0:=hesc.mono (aG.fe w S fp hS);dsimp only;generalize hR:dS (bt s) s.size (aY (bt s) s.size (kp s) n) ((s.size:Int).toNat+1) none i0=R
 refine gP (nt:=41) S #[] [.cell 2 254] (by show 3<=7;omega) ho hlt func216 rfl rfl rfl ?_;refine vR Γ0 bb ?_;refine wR (HL (aG w S fp) n hA (bw .eps) (bw .eps) (bw .eps)) bb ?_ ?_
 ·exact⟨rfl,u0⟩
 refine Wp.gG 32 (ev bb) (bV.refl _ _) λW0 bs0 cs hx0 hΦ=>?_
 obtain⟨fv,rfl,hg,hv1⟩:=bT hΦ;have u00:=u0.ext hx0;refine Wp.seq (Wp.block ?_)
 refine Wp.zy (λp:RO=>⟨10,cL [(0,.is (.own 0 0)),(2,.is (.own 8 0)),(3,.is (.own 40 0)),(4,.is (.v (.bool p.o.isSome)))],cf [(0,.cells 251 [.v (.string s),.v (.int .i64 p.i),.hd 3]),(3,.row 3 1 d (op.map .v)),(8,.cells 254 [.v (.int .i64 0),.v .nilFunc]),(40,.cells 254 [.v (.int .i64 ((rA p.o).1:Nat)),.v p.fo])]⟩)
  RO.W RO.bs (λp=>(0<=p.i/\p.i<=s.size)/\(rA p.o).1<=2001/\((s.size:Int)-p.i<p.n/\1<=p.n)/\bg p.W (fi (aG w S fp) p.bs) p.fo (rA p.o).2/\dS (bt s) s.size (aY (bt s) s.size (kp s) n) p.n p.o p.i=R) (λp=>p.n) ⟨W0,bs0,fv,none,i0,(s.size:Int).toNat+1⟩ rfl rfl ?_ ⟨⟨h0,hi1⟩,by show 1<=2001;omega,⟨by simp only;omega,by simp only;omega⟩,hg,hR⟩ ?_
 ·exact wM (λx=>.key x) (ym bb hv1 @rA.eq_1 @bw.eq_1 @Option.getD_none.{0})
 rintro⟨W1,bs1,fo,o,i,k⟩ ⟨⟨hi0,hiN⟩,hr,⟨hn,hn1⟩,hg,hR'⟩ hx1;simp only at hi0 hiN hr hn hn1 hg hR' hx1;dsimp only;obtain⟨k,rfl⟩:∃ m,k=m+1:=⟨k-1,oM⟩;have hx01:=hx0.trans hx1;have u1:=u0.ext hx01;have e1:=e0.mono hx01.Cm;refine Wp.seq ?_
 refine wR (HL (aG w S fp) n hA (bw .eps) (bw .eps) (bw .eps)) bb ?_ ?_
 ·first|trivial|omega|(simp[hs];done)|(simp[hs];omega)|(simp[hs]<;>omega)
 refine wC bb (λhc=>?_) (λhc=>?_)
 ·have hi:i<s.size:=by
   simp at hc;omega
  rw[dS,if_neg oM]at hR';refine wK ?_;refine Wp.block ?_;refine Wp.seq ?_;refine wR (HL (aG w S fp) n hA (bw .eps) (bw .eps) (bw .eps)) bb ?_ ?_
  ·first|trivial|omega|(simp[hs];done)|(simp[hs];omega)|(simp[hs]<;>omega)
  refine Wp.block ?_
  refine dB ⟨30,cL [(0,.is (.own 0 0)),(2,.is (.own 8 0)),(3,.is (.own 40 0)),(4,.is (.v (.bool o.isSome))),(13,.is (.v (.int .u8 (bt s i)))),(14,.is (.v (.bool (decide (e9 (bt s i))))))],cf [(0,.cells 251 [.v (.string s),.v (.int .i64 i),.hd 3]),(3,.row 3 1 d (op.map .v)),(8,.cells 254 [.v (.int .i64 0),.v .nilFunc]),(40,.cells 254 [.v (.int .i64 ((rA o).1:Nat)),.v fo])]⟩ ?_ ?_
  ·skip;refine vR Γ0 bb ?_;refine wC bb (λhc=>?_) (λhc=>?_)
   ·have e:decide (e9 (bt s i))=true:=decide_eq_true (show e9 (bt s i) from .inl (by simpa using hc));refine wK ?_;exact wM (λx=>.key x) (dx bb hc e)
   ·have hc1:=hc;refine vR Γ0 bb ?_;refine wC bb (λhc=>?_) (λhc=>?_)
    ·have e:decide (e9 (bt s i))=true:=decide_eq_true (show e9 (bt s i) from .inr (.inl (by simpa using hc)));refine wK ?_;exact wM (λx=>.key x) (dx bb hc e)
    ·have hc2:=hc;refine vR Γ0 bb ?_;refine wC bb (λhc=>?_) (λhc=>?_)
     ·have e:decide (e9 (bt s i))=true:=decide_eq_true (show e9 (bt s i) from .inr (.inr (.inl (by simpa using hc))));refine wK ?_;exact wM (λx=>.key x) (dx bb hc e)
     ·have e:decide (e9 (bt s i))=decide (bt s i=41):=by
       have g1:¬ bt s i=124:=by simpa using hc1
       have g2:¬ bt s i=38:=by simpa using hc2
       have g3:¬ bt s i=45:=by simpa using hc
       rw[decide_eq_decide];unfold e9;omega
      refine vr Γ0 bb ?_;exact wM (λx=>.key x) (aa bb e)
  refine wC bb (λhc=>?_) (λhc=>?_)
  ·have he:e9 (bt s i):=by simpa using hc
   rw[if_pos he]at hR';refine wR Γ0 bb ?_ ?_
   ·exact hg.one
   refine wZ bb ?_;rw[<- hR'];exact dX hg rfl ((ev (aa bb @aX))) dE
  ·have he:¬ e9 (bt s i):=by simpa using hc
   rw[if_neg he]at hR'
   refine dB ⟨50,cL [(0,.is (.own 0 0)),(2,.is (.own 8 0)),(3,.is (.own 40 0)),(4,.is (.v (.bool o.isSome))),(20,.is (.v (.bool (decide (bf (bt s i))))))],cf [(0,.cells 251 [.v (.string s),.v (.int .i64 i),.hd 3]),(3,.row 3 1 d (op.map .v)),(8,.cells 254 [.v (.int .i64 0),.v .nilFunc]),(40,.cells 254 [.v (.int .i64 ((rA o).1:Nat)),.v fo])]⟩ ?_ ?_
   ·skip;refine vR Γ0 bb ?_;refine wC bb (λhc=>?_) (λhc=>?_)
    ·have e:decide (bf (bt s i))=true:=decide_eq_true (show bf (bt s i) from .inl (by simpa using hc));refine wK ?_;exact wM (λx=>.key x) (dx bb hc e)
    ·have hc1:=hc;refine vR Γ0 bb ?_;refine wC bb (λhc=>?_) (λhc=>?_)
     ·have e:decide (bf (bt s i))=true:=decide_eq_true (show bf (bt s i) from .inr (.inl (by simpa using hc)));refine wK ?_;exact wM (λx=>.key x) (dx bb hc e)
     ·have hc2:=hc;refine vR Γ0 bb ?_;refine wC bb (λhc=>?_) (λhc=>?_)
      ·have e:decide (bf (bt s i))=true:=decide_eq_true (show bf (bt s i) from .inr (.inr (.inl (by simpa using hc))));refine wK ?_;exact wM (λx=>.key x) (dx bb hc e)
      ·have e:decide (bf (bt s i))=decide (bt s i=123):=by
        have g1:¬ bt s i=42:=by simpa using hc1
        have g2:¬ bt s i=43:=by simpa using hc2
        have g3:¬ bt s i=63:=by simpa using hc
        rw[decide_eq_decide];unfold bf;omega
       refine vr Γ0 bb ?_;exact wM (λx=>.key x) (aa bb e)
   refine wC bb (λhc=>?_) (λhc=>?_)
   ·have hp:bf (bt s i):=by simpa using hc
    rw[if_pos hp]at hR';rw[<- hR',bq];refine Wp.om (HL (aG w S fp) n hA (bw .eps) (bw .eps) (bw .eps)) cr (ev bb) ?_ ?_
    ·first|trivial|omega|(simp[hs];done)|(simp[hs];omega)|(simp[hs]<;>omega)
    refine qq ?_;exact⟨_,rfl⟩
   ·have hp:¬ bf (bt s i):=by simpa using hc
    rw[if_neg hp]at hR';refine wK ?_;cases hAt:aY (bt s) s.size (kp s) n i with
    |error e=>
     obtain⟨c,j⟩:=e;rw[hAt]at hR';simp only at hR';rw[<- hR',bq];refine Wp.iT (HL (aG w S fp) n hA (bw .eps) (bw .eps) (bw .eps)) cr (ev (aa bb hAt)) ?_ ?_
     ·exact⟨⟨⟨_,_,_,_,rfl,hdn,hop,hi0,hi,hs⟩,e1⟩,dE,sI⟩
     refine qq ?_;exact⟨_,rfl⟩
    | ok q=>
     obtain⟨a,j⟩:=q;have ha:=HB oM hi0 hi he hp hAt;rw[hAt]at hR';simp only at hR';cases hRp:gR (bt s) s.size ((s.size:Int).toNat+1) a j with
     |error e=>
      obtain⟨c,l⟩:=e;rw[hRp]at hR';simp only at hR';rw[<- hR',bq];have hRp' := hRp;rw[Int.toNat_natCast]at hRp';refine Wp.iT (HL (aG w S fp) n hA a (bw .eps) (bw .eps)) cr (ev (dx bb hAt hRp')) ?_ ?_
      ·exact⟨⟨⟨⟨_,_,_,_,rfl,hdn,hop,hi0,hi,hs⟩,e1⟩,dE,sI,u1⟩,⟨_,_,_,_,_,rfl,rfl,ha.2.2,oM,ha.2.1,hs⟩,dE,sI⟩
      refine qq ?_;exact⟨_,rfl⟩
     | ok q=>
      obtain⟨p,l⟩:=q;have hp1:=kX hRp ha.2.1 ha.2.2;rw[hRp]at hR';simp only at hR';have hRp' := hRp;rw[Int.toNat_natCast]at hRp';refine wR (HL (aG w S fp) n hA a (bw .eps) (bw .eps)) (dx bb hAt hRp') ?_ ?_
      ·exact⟨⟨⟨⟨_,_,_,_,rfl,hdn,hop,hi0,hi,hs⟩,e1⟩,dE,sI,u1⟩,⟨_,_,_,_,_,rfl,rfl,ha.2.2,oM,ha.2.1,hs⟩,dE,sI,u1⟩
      refine Wp.gG 431 (ev bb) (bV.refl _ _) λW2 bs2 cs hx2 hΦ=>?_
      obtain⟨fp2,rfl,hg2,hv2⟩:=bT hΦ;have hgo:=hg.mono hx2.Cm;have u2:=u1.ext hx2
      refine Ks (λp2:TI=>⟨70,cL [(0,.is (.own 0 0)),(2,.is (.own 8 0)),(3,.is (.own 40 0)),(5,.is (.own 432 0))],cf [(0,.cells 251 [.v (.string s),.v (.int .i64 l),.hd 3]),(3,.row 3 1 d (op.map .v)),(8,.cells 254 [.v (.int .i64 0),.v .nilFunc]),(40,.cells 254 [.v (.int .i64 ((rA o).1:Nat)),.v fo]),(432,.cells 254 [.v (.int .i64 ((vp o p).1:Nat)),.v p2.fo])]⟩) TI.W TI.bs
       (λp2=>bg p2.W (fi (aG w S fp) p2.bs) p2.fo (vp o p).2) ?_ ?_
      ·skip;refine vR Γ0 bb ?_;refine wC bb (λhc=>?_) (λhc=>?_)
       ·obtain⟨x,rfl⟩:=Option.isSome_iff_exists.1 hc;refine Wp.more ?_;refine wr (HL (aG w S fp) n hA a x p) (dx bb hv2 @rA.eq_1) ?_ ?_
        ·exact⟨⟨⟨bH hgo,bH hg2⟩,⟨hr,hp1.2.2⟩,_,_,rfl⟩,u2⟩
        refine dV ?_;refine Pw.gG 472 (ev (aa bb hv2)) (bV.refl _ _) λW3 bs3 cs hx3 hΦ3=>?_
        obtain⟨fp3,rfl,hg3,hv3⟩:=bT hΦ3;refine Pw.here ?_;refine qq ?_;refine⟨⟨W3,bs3,fp3,0⟩,hg3,rfl,rfl,?_⟩;exact wM (λx=>if x=3 then .key 426 else .key x) (ym bb hv2 hv3 @vp.eq_1 @vp.eq_2)
       ·have ho2:o=none:=by cases o with|none=>rfl|some x=>cases hc
        subst ho2;refine wK ?_;refine⟨⟨W2,bs2,fp2,0⟩,hg2,rfl,rfl,?_⟩;exact wM (λx=>if x=3 then .key 426 else .key x) (iS bb hv2 @vp.eq_1 @vp.eq_2)
      rintro⟨W3,bs3,fo3,j3⟩ hg3 hx3;simp only at hg3 hx3;dsimp only;refine wr Γ0 bb ?_ ?_
      ·exact hg3.one
      refine⟨⟨W3,bs3,fo3,some (vp o p),l,k⟩,⟨by simp only;omega,X3 o p hp1.2.2,by simp only;omega,hg3,hR'⟩,by simp only;omega,rfl,rfl,?_⟩;exact wM (λx=>.key x) (aa bb @rA.eq_1)
 ·have hi:¬ i<s.size:=by
   simp at hc;omega
  rw[dS,if_pos hi]at hR';refine wE ?_;refine wR Γ0 bb ?_ ?_
  ·exact hg.one
  refine wZ bb ?_;rw[<- hR'];exact dX hg rfl ((ev (aa bb @aX))) dE
noncomputable def Ut(G:Nat->Prop)(n:Nat)(h:KA n)(x y:RL):Env prog:=⟨λ| 127=>some cT.spec|179=>some gA.spec|180=>some ((gn .and x y).spec G)|216=>some ((kx _ _ _ n call216 h).spec G)|_=>none,λ_=>none,λ_ _=>none⟩
noncomputable def Γ49(G:Nat->Prop)(n:Nat)(h:KA n)(x y:RL):Env prog:=⟨λ| 127=>some cT.spec|179=>some gA.spec|180=>some ((gn .minus x y).spec G)|216=>some ((kx _ _ _ n call216 h).spec G)|_=>none,λ_=>none,λ_ _=>none⟩
noncomputable def Zy(G:Nat->Prop)(n:Nat)(h:C0 n)(x y:RL):Env prog:=⟨λ| 127=>some cT.spec|179=>some gA.spec|180=>some ((gn .alt x y).spec G)|178=>some ((kx _ _ _ n call178 h).spec G)|_=>none,λ_=>none,λ_ _=>none⟩
def adx:FK:=⟨λ_ _ _=>True,λ_ _=>trivial⟩
def xj:=(ak @List.replicate_succ.{0} @List.replicate_zero.{0} @aq @ae lP lM lA (ak dI dK dJ dG dr dt du (ak dq mJ mh mG mT mf xQ (ak uE w8 vf uX x7 xp uP (ak uM uT wU wo JF IN Je (ak pM qs qm pR qv pZ yK (ak yS yM @tD.eq_1 @tK.eq_1 @dd.eq_1 @a6 @aw (ak @aD @aE @eA @jP @fQ @fT @jA (ak @jl @jq @oa @gn.eq_1 @nJ @bq @qG (oR @qF @lG @BN @Ja @sY @sy))))))))))
theorem LZ(na nb:Nat)(fa fb g:Value)(ha:na<=2001)(hb:nb<=2001)(h1:fa.oneCell' = true)(h2:fb.oneCell' = true)(h3:g.oneCell' = true)(hg:partsOf (.v g)=[.v g])(w:World)(S:Nat->Prop) :
  Calls prog 180 #[.agg #[.int .i64 (na:Nat),fa],.agg #[.int .i64 (nb:Nat),fb],g] w λe w' => lT w S e w' (.fact Sh.two adx):=by
 have ga:partsOf (.v (.agg #[.int .i64 (na:Nat),fa]))=[.v (.int .i64 (na:Nat)),.v fa]:=rfl;have gb:partsOf (.v (.agg #[.int .i64 (nb:Nat),fb]))=[.v (.int .i64 (nb:Nat)),.v fb]:=rfl;have w1:=J8 ha hb;refine eI (nt:=16) S [.cell 6 254] func180 rfl rfl rfl ?_;refine vR Zi (iS xj ga gb hg) ?_
 refine vR Zi (oR xj ga gb hg w1 @jm) ?_;refine Wp.lV 0 (ev (iS xj ga gb hg)) (λE=>by simp only[ah,den,ga,gb,hg];exact rfl) λW1 bs1 b3 hx1 hb3 hn3 hc3=>?_
 refine Wp.lV 8 (ev (iS xj ga gb hg)) (λE=>by simp only[ah,den,ga,gb,hg];exact rfl) λW2 bs2 b4 hx2 hb4 hn4 hc4=>?_
 refine Wp.lV 16 (ev (iS xj ga gb hg)) (λE=>by simp only[ah,den,ga,gb,hg];exact rfl) λW3 bs3 b5 hx3 hb5 hn5 hc5=>?_
 refine wZ (oR xj ga gb hg w1 @jm) ?_;exact⟨[.int .i64 ((bR (1+na+nb):Nat):Int),.func (.func 220) #[] #[ly b5,ly b3,ly b4]],λE=>rfl,trivial⟩
def Ef:jw prog 180 where
 kinds:=[none,none,none]
 pre:=λas_ _ _=>∃ (na nb:Nat) (fa fb:Value) (g:Jn),as_=[.val (.agg #[.int .i64 (na:Nat),fa]),.val (.agg #[.int .i64 (nb:Nat),fb]),.val g.v]/\na<=2001/\nb<=2001/\fa.oneCell' = true/\fb.oneCell' = true
 premono:=λ_ _ _ _ _ _ h=>h
 out:=λ_=>.fact Sh.two adx
 enters:=call180
 ok:=by
  intro w S us as_ hu hp;obtain⟨na,nb,fa,fb,g,rfl,ha,hb,h1,h2⟩:=hp
  match us,hu with
  |[u1,u2,u3],hu=>
   obtain⟨rfl,rfl,rfl,_⟩:=hu;exact LZ na nb fa fb g.v ha hb h1 h2 rfl rfl w S
noncomputable def Γ51(G:Nat->Prop)(n:Nat)(h:KA n):Env prog:=⟨λ| 180=>some (Ef.spec G)|216=>some ((kx _ _ _ n call216 h).spec G)|_=>none,λ_=>none,λ_ _=>none⟩
noncomputable def Γ52(G:Nat->Prop)(n:Nat)(h:C0 n):Env prog:=⟨λ| 180=>some (Ef.spec G)|178=>some ((kx _ _ _ n call178 h).spec G)|_=>none,λ_=>none,λ_ _=>none⟩
section
variable (G:Nat->Prop)(n:Nat)(h:KA n)(h' : C0 n)(x y:RL)
theorem WC:(Γ51 G n h).sp 180=some (Ef.spec G):=rfl
theorem YY:(Γ51 G n h).sp 216=some ((kx _ _ _ n call216 h).spec G):=rfl
theorem YV:(Γ52 G n h').sp 180=some (Ef.spec G):=rfl
theorem V1:(Γ52 G n h').sp 178=some ((kx _ _ _ n call178 h').spec G):=rfl
theorem Yx:(Ut G n h x y).sp 127=some cT.spec:=rfl
theorem XN:(Ut G n h x y).sp 179=some gA.spec:=rfl
theorem Uz:(Ut G n h x y).sp 180=some ((gn .and x y).spec G):=rfl
theorem Xp:(Ut G n h x y).sp 216=some ((kx _ _ _ n call216 h).spec G):=rfl
theorem VR:(Γ49 G n h x y).sp 127=some cT.spec:=rfl
theorem Wr:(Γ49 G n h x y).sp 179=some gA.spec:=rfl
theorem Yu:(Γ49 G n h x y).sp 180=some ((gn .minus x y).spec G):=rfl
theorem Yz:(Γ49 G n h x y).sp 216=some ((kx _ _ _ n call216 h).spec G):=rfl
theorem YX:(Zy G n h' x y).sp 127=some cT.spec:=rfl
theorem VD:(Zy G n h' x y).sp 179=some gA.spec:=rfl
theorem Ym:(Zy G n h' x y).sp 180=some ((gn .alt x y).spec G):=rfl
theorem Xt:(Zy G n h' x y).sp 178=some ((kx _ _ _ n call178 h').spec G):=rfl
end
theorem qZ{s:ByteArray}{m:Nat}(hm:m<=1000){i j:Int}{r:RL}(h0:0<=i)(hi:i<=s.size)(h:dS (bt s) s.size (aY (bt s) s.size (kp s) m) ((s.size:Int).toNat+1) none i=.ok (r,j)):i<=j/\j<=s.size/\r.1<=2001:=by
 have:=AH (sr s) (qy (c:=bt s) (sr s) m) ((s.size:Int).toNat+1) i (gi 0) (List.replicate (1000-m) (gi 0)) h0 hi oM (λh=>absurd rfl h) (by simp;omega);have e0:(rowOf (gi 0).row (gi 0).fac).map RT.val=none:=rfl;rw[e0,h]at this;obtain⟨h1,h2,_,row,fac,rfl,_⟩:=this;exact⟨h1,h2,sQ _⟩
theorem x9{s:ByteArray}{m:Nat}(hm:m<=1000){i j:Int}{r:RL}(h0:0<=i)(hi:i<=s.size)(h:jQ (bt s) s.size (dS (bt s) s.size (aY (bt s) s.size (kp s) m) ((s.size:Int).toNat+1) none) i=.ok (r,j)):i<=j/\j<=s.size/\r.1<=2001:=by
 have:=uO (sr s) (qy (c:=bt s) (sr s) m) i (gi 0) (List.replicate (1000-m) (gi 0)) h0 hi (by simp;omega) rfl rfl rfl;rw[h]at this;obtain⟨h1,h2,_,g,_,_,rfl,_⟩:=this;exact⟨h1,h2,sQ _⟩
theorem yQ{s:ByteArray}{m:Nat}(hm:m<=1000){i j:Int}{r:RL}(h0:0<=i)(hi:i<=s.size)(h:ti (bt s) s.size (aY (bt s) s.size (kp s) m) i=.ok (r,j)):i<=j/\j<=s.size/\r.1<=2001/\(j<s.size->bt s j=41):=by
 have:=Bu (sr s) (qy (c:=bt s) (sr s) m) i 0 (List.replicate (1000-m) (gi 0)) h0 hi (by simp;omega);rw[h]at this;obtain⟨h1,h2,h3,g,_,rfl,_⟩:=this;exact⟨h1,h2,sQ _,h3⟩
def bG:=(ak xj @WC @YY @YV @V1 @Ef.eq_1 @xN.eq_1 (ak @Yx @XN @Uz @Xp @VR @Wr @Yu (ym @Yz @YX @VD @Ym @Xt)))
theorem yJ(n:Nat)(hA:KA n):C0 n:=by
 intro s i0 d op u fp w S hdn hop h0 hi1 hs hesc ho hlt hS;have u0:=aG.up w S fp;have e0:=hesc.mono (aG.fe w S fp hS);dsimp only;unfold jQ;refine gP (nt:=39) S #[] [.cell 2 254] (by show 3<=7;omega) ho hlt func178 rfl rfl rfl ?_;refine vR Γ0 bG ?_
 cases hF:dS (bt s) s.size (aY (bt s) s.size (kp s) n) ((s.size:Int).toNat+1) none i0 with
 |error e=>
  obtain⟨c,j⟩:=e;simp only;rw[bq];have hF' := hF;rw[Int.toNat_natCast]at hF';refine Wp.iT (Ut (aG w S fp) n hA (bw .eps) (bw .eps)) cr (ev (aa bG hF')) ?_ ?_
  ·exact⟨⟨⟨_,_,_,_,rfl,hdn,hop,h0,hi1,hs⟩,e0⟩,dE,sI⟩
  refine qq ?_;exact⟨_,rfl⟩
 | ok q=>
  obtain⟨r0,j0⟩:=q;simp only;have hr0:=qZ oM h0 hi1 hF;have hF' := hF;rw[Int.toNat_natCast]at hF';generalize hR:jD (bt s) s.size (dS (bt s) s.size (aY (bt s) s.size (kp s) n) ((s.size:Int).toNat+1) none) ((s.size:Int).toNat+1) r0 j0=R
  refine wR (Ut (aG w S fp) n hA (bw .eps) (bw .eps)) (aa bG hF') ?_ ?_
  ·exact⟨⟨⟨_,_,_,_,rfl,hdn,hop,h0,hi1,hs⟩,e0⟩,dE,sI,u0⟩
  refine Wp.gG 31 (ev bG) (bV.refl _ _) λW0 bs0 cs hx0 hΦ=>?_
  obtain⟨fv,rfl,hg,hv1⟩:=bT hΦ;have u00:=u0.ext hx0;refine Wp.seq (Wp.block ?_)
  refine Wp.zy (λp:RI=>⟨10,cL [(0,.is (.own 0 0)),(2,.is (.own 8 0)),(3,.is (.own 32 0))],cf [(0,.cells 251 [.v (.string s),.v (.int .i64 p.i),.hd 3]),(3,.row 3 1 d (op.map .v)),(8,.cells 254 [.v (.int .i64 0),.v .nilFunc]),(32,.cells 254 [.v (.int .i64 (p.r.1:Nat)),.v p.fo])]⟩)
   RI.W RI.bs (λp=>(0<=p.i/\p.i<=s.size)/\p.r.1<=2001/\((s.size:Int)-p.i<p.n/\1<=p.n)/\bg p.W (fi (aG w S fp) p.bs) p.fo p.r.2/\jD (bt s) s.size (dS (bt s) s.size (aY (bt s) s.size (kp s) n) ((s.size:Int).toNat+1) none) p.n p.r p.i=R) (λp=>p.n) ⟨W0,bs0,fv,r0,j0,(s.size:Int).toNat+1⟩ rfl rfl ?_ ⟨⟨by simp only;omega,hr0.2.1⟩,hr0.2.2,⟨by simp only;omega,by simp only;omega⟩,hg,hR⟩ ?_
  ·exact wM (λx=>if x=3 then .key 26 else .key x) (aa bG hv1)
  rintro⟨W1,bs1,fo,r,i,k⟩ ⟨⟨hi0,hiN⟩,hr,⟨hn,hn1⟩,hg,hR'⟩ hx1;simp only at hi0 hiN hr hn hn1 hg hR' hx1;dsimp only;obtain⟨k,rfl⟩:∃ m,k=m+1:=⟨k-1,oM⟩;have hx01:=hx0.trans hx1;have u1:=u0.ext hx01;have e1:=e0.mono hx01.Cm;refine Wp.seq ?_;refine wR (Ut (aG w S fp) n hA (bw .eps) (bw .eps)) bG ?_ ?_
  ·first|trivial|omega|(simp[hs];done)|(simp[hs];omega)|(simp[hs]<;>omega)
  refine wC bG (λhc=>?_) (λhc=>?_)
  ·have hi:i<s.size:=by
    simp at hc;omega
   rw[jD,if_neg oM]at hR';refine wK ?_;refine Wp.block ?_;refine wR (Ut (aG w S fp) n hA (bw .eps) (bw .eps)) bG ?_ ?_
   ·first|trivial|omega|(simp[hs];done)|(simp[hs];omega)|(simp[hs]<;>omega)
   refine Wp.block ?_;refine vR Γ0 bG ?_;refine wC bG (λhc=>?_) (λhc=>?_)
   ·have h38:bt s i=38:=by simpa using hc
    rw[if_pos h38]at hR';have wi:IntKind.i64.wrap (i+1)=i+1:=aH oM oM;refine vR Γ0 (aa bG wi) ?_;cases hF2:dS (bt s) s.size (aY (bt s) s.size (kp s) n) ((s.size:Int).toNat+1) none (i+1) with
    |error e=>
     obtain⟨c,j⟩:=e;rw[hF2]at hR';simp only at hR';rw[<- hR',bq];have hF2' := hF2;rw[Int.toNat_natCast]at hF2';refine Wp.Kh (Γ51 (aG w S fp) n hA) cr (ev (dx bG hF2' wi)) rfl (by kernel_rfl) ?_ ?_
     ·exact⟨⟨⟨⟨_,_,_,_,rfl,hdn,hop,oM,oM,hs⟩,e1⟩,dE,sI⟩,⟨r.1,0,fo,.nilFunc,.and,rfl,hr,oM,hg.one,rfl⟩,u1⟩
     refine qq ?_;exact⟨_,rfl⟩
    |ok q=>
     obtain⟨r2,j2⟩:=q;rw[hF2]at hR';simp only at hR';have hr2:=qZ oM oM oM hF2;have hF2' := hF2;rw[Int.toNat_natCast]at hF2';refine Wp.more ?_;refine Ft (Ut (aG w S fp) n hA r r2) (dx bG hF2' wi) ?_ ?_
     ·exact⟨⟨⟨⟨_,_,_,_,rfl,hdn,hop,oM,oM,hs⟩,e1⟩,dE,sI,u1⟩,⟨bH hg,⟨hr,hr2.2.2⟩,_,_,rfl⟩,u1⟩
     refine dV ?_;refine Pw.gG 224 (ev bG) (bV.refl _ _) λW2 bs2 cs hx2 hΦ2=>?_
     obtain⟨fv2,rfl,hg2,hv2⟩:=bT hΦ2;refine Pw.here ?_;refine qq ?_;refine⟨⟨W2,bs2,fv2,aM .and r r2,j2,k⟩,⟨by simp only;omega,eB _ _ _,by simp only;omega,hg2,hR'⟩,by simp only;omega,rfl,rfl,?_⟩;exact wM (λx=>if x=3 then .key 218 else .key x) (aa bG hv2)
   ·have h38:¬ bt s i=38:=by simpa using hc
    rw[if_neg h38]at hR';refine vR Γ0 bG ?_;refine wC bG (λhc=>?_) (λhc=>?_)
    ·have h45:bt s i=45:=by simpa using hc
     rw[if_pos h45]at hR';have wi:IntKind.i64.wrap (i+1)=i+1:=aH oM oM;refine vR Γ0 (aa bG wi) ?_;cases hF2:dS (bt s) s.size (aY (bt s) s.size (kp s) n) ((s.size:Int).toNat+1) none (i+1) with
     |error e=>
      obtain⟨c,j⟩:=e;rw[hF2]at hR';simp only at hR';rw[<- hR',bq];have hF2' := hF2;rw[Int.toNat_natCast]at hF2';refine Wp.Kh (Γ51 (aG w S fp) n hA) cr (ev (dx bG hF2' wi)) rfl (by kernel_rfl) ?_ ?_
      ·exact⟨⟨⟨⟨_,_,_,_,rfl,hdn,hop,oM,oM,hs⟩,e1⟩,dE,sI⟩,⟨r.1,0,fo,.nilFunc,.minus,rfl,hr,oM,hg.one,rfl⟩,u1⟩
      refine qq ?_;exact⟨_,rfl⟩
     |ok q=>
      obtain⟨r2,j2⟩:=q;rw[hF2]at hR';simp only at hR';have hr2:=qZ oM oM oM hF2;have hF2' := hF2;rw[Int.toNat_natCast]at hF2';refine Wp.more ?_;refine Ft (Γ49 (aG w S fp) n hA r r2) (dx bG hF2' wi) ?_ ?_
      ·exact⟨⟨⟨⟨_,_,_,_,rfl,hdn,hop,oM,oM,hs⟩,e1⟩,dE,sI,u1⟩,⟨bH hg,⟨hr,hr2.2.2⟩,_,_,rfl⟩,u1⟩
      refine dV ?_;refine Pw.gG 240 (ev bG) (bV.refl _ _) λW2 bs2 cs hx2 hΦ2=>?_
      obtain⟨fv2,rfl,hg2,hv2⟩:=bT hΦ2;refine Pw.here ?_;refine qq ?_;refine⟨⟨W2,bs2,fv2,aM .minus r r2,j2,k⟩,⟨by simp only;omega,eB _ _ _,by simp only;omega,hg2,hR'⟩,by simp only;omega,rfl,rfl,?_⟩;exact wM (λx=>if x=3 then .key 234 else .key x) (aa bG hv2)
    ·have h45:¬ bt s i=45:=by simpa using hc
     rw[if_neg h45]at hR';refine wR Γ0 bG ?_ ?_
     ·exact hg.one
     refine wZ bG ?_;rw[<- hR'];exact dX hg rfl ((ev (aa bG @aX))) dE
  ·have hi:¬ i<s.size:=by
    simp at hc;omega
   rw[jD,if_pos hi]at hR';refine wE ?_;refine wR Γ0 bG ?_ ?_
   ·exact hg.one
   refine wZ bG ?_;rw[<- hR'];exact dX hg rfl ((ev (aa bG @aX))) dE
theorem DL(n:Nat)(hA:C0 n):Q8 n:=by
 intro s i0 d op u fp w S hdn hop h0 hi1 hs hesc ho hlt hS;have u0:=aG.up w S fp;have e0:=hesc.mono (aG.fe w S fp hS);dsimp only;unfold ti aat;refine gP (nt:=26) S #[] [.cell 2 254] (by show 3<=7;omega) ho hlt func126 rfl rfl rfl ?_;refine vR Γ0 bG ?_
 cases hF:jQ (bt s) s.size (dS (bt s) s.size (aY (bt s) s.size (kp s) n) ((s.size:Int).toNat+1) none) i0 with
 |error e=>
  obtain⟨c,j⟩:=e;simp only;rw[bq];have hF' := hF;rw[Int.toNat_natCast]at hF';refine Wp.iT (Zy (aG w S fp) n hA (bw .eps) (bw .eps)) cr (ev (aa bG hF')) ?_ ?_
  ·exact⟨⟨⟨_,_,_,_,rfl,hdn,hop,h0,hi1,hs⟩,e0⟩,dE,sI⟩
  refine qq ?_;exact⟨_,rfl⟩
 | ok q=>
  obtain⟨r0,j0⟩:=q;simp only;have hr0:=x9 oM h0 hi1 hF;have hF' := hF;rw[Int.toNat_natCast]at hF';generalize hR:x8 (bt s) s.size (jQ (bt s) s.size (dS (bt s) s.size (aY (bt s) s.size (kp s) n) ((s.size:Int).toNat+1) none)) ((s.size:Int).toNat+1) r0 j0=R
  refine wR (Zy (aG w S fp) n hA (bw .eps) (bw .eps)) (aa bG hF') ?_ ?_
  ·exact⟨⟨⟨_,_,_,_,rfl,hdn,hop,h0,hi1,hs⟩,e0⟩,dE,sI,u0⟩
  refine Wp.gG 31 (ev bG) (bV.refl _ _) λW0 bs0 cs hx0 hΦ=>?_
  obtain⟨fv,rfl,hg,hv1⟩:=bT hΦ;have u00:=u0.ext hx0;refine Wp.seq (Wp.block ?_)
  refine Wp.zy (λp:RI=>⟨10,cL [(0,.is (.own 0 0)),(2,.is (.own 8 0)),(3,.is (.own 32 0))],cf [(0,.cells 251 [.v (.string s),.v (.int .i64 p.i),.hd 3]),(3,.row 3 1 d (op.map .v)),(8,.cells 254 [.v (.int .i64 0),.v .nilFunc]),(32,.cells 254 [.v (.int .i64 (p.r.1:Nat)),.v p.fo])]⟩)
   RI.W RI.bs (λp=>(0<=p.i/\p.i<=s.size)/\p.r.1<=2001/\((s.size:Int)-p.i<p.n/\1<=p.n)/\bg p.W (fi (aG w S fp) p.bs) p.fo p.r.2/\x8 (bt s) s.size (jQ (bt s) s.size (dS (bt s) s.size (aY (bt s) s.size (kp s) n) ((s.size:Int).toNat+1) none)) p.n p.r p.i=R) (λp=>p.n) ⟨W0,bs0,fv,r0,j0,(s.size:Int).toNat+1⟩ rfl rfl ?_ ⟨⟨by simp only;omega,hr0.2.1⟩,hr0.2.2,⟨by simp only;omega,by simp only;omega⟩,hg,hR⟩ ?_
  ·exact wM (λx=>if x=3 then .key 26 else .key x) (aa bG hv1)
  rintro⟨W1,bs1,fo,r,i,k⟩ ⟨⟨hi0,hiN⟩,hr,⟨hn,hn1⟩,hg,hR'⟩ hx1;simp only at hi0 hiN hr hn hn1 hg hR' hx1;dsimp only;obtain⟨k,rfl⟩:∃ m,k=m+1:=⟨k-1,oM⟩;have hx01:=hx0.trans hx1;have u1:=u0.ext hx01;have e1:=e0.mono hx01.Cm;refine Wp.seq ?_;refine wR (Zy (aG w S fp) n hA (bw .eps) (bw .eps)) bG ?_ ?_
  ·first|trivial|omega|(simp[hs];done)|(simp[hs];omega)|(simp[hs]<;>omega)
  refine wC bG (λhc=>?_) (λhc=>?_)
  ·have hi:i<s.size/\bt s i=124:=by
    simp at hc;omega
   rw[x8,if_pos hi]at hR';refine wK ?_;refine Wp.block ?_;have wi:IntKind.i64.wrap (i+1)=i+1:=aH oM oM;refine vR Γ0 (aa bG wi) ?_;cases hF2:jQ (bt s) s.size (dS (bt s) s.size (aY (bt s) s.size (kp s) n) ((s.size:Int).toNat+1) none) (i+1) with
   |error e=>
    obtain⟨c,j⟩:=e;rw[hF2]at hR';simp only at hR';rw[<- hR',bq];have hF2' := hF2;rw[Int.toNat_natCast]at hF2';refine Wp.Kh (Γ52 (aG w S fp) n hA) cr (ev (dx bG hF2' wi)) rfl (by kernel_rfl) ?_ ?_
    ·exact⟨⟨⟨⟨_,_,_,_,rfl,hdn,hop,oM,oM,hs⟩,e1⟩,dE,sI⟩,⟨r.1,0,fo,.nilFunc,.alt,rfl,hr,oM,hg.one,rfl⟩,u1⟩
    refine qq ?_;exact⟨_,rfl⟩
   |ok q=>
    obtain⟨r2,j2⟩:=q;rw[hF2]at hR';simp only at hR';have hr2:=x9 oM oM oM hF2;have hF2' := hF2;rw[Int.toNat_natCast]at hF2';refine Wp.more ?_;refine Ft (Zy (aG w S fp) n hA r r2) (dx bG hF2' wi) ?_ ?_
    ·exact⟨⟨⟨⟨_,_,_,_,rfl,hdn,hop,oM,oM,hs⟩,e1⟩,dE,sI,u1⟩,⟨bH hg,⟨hr,hr2.2.2⟩,_,_,rfl⟩,u1⟩
    refine dV ?_;refine Pw.gG 232 (ev bG) (bV.refl _ _) λW2 bs2 cs hx2 hΦ2=>?_
    obtain⟨fv2,rfl,hg2,hv2⟩:=bT hΦ2;refine Pw.here ?_;refine qq ?_;refine⟨⟨W2,bs2,fv2,aM .alt r r2,j2,k⟩,⟨by simp only;omega,eB _ _ _,by simp only;omega,hg2,hR'⟩,by simp only;omega,rfl,rfl,?_⟩;exact wM (λx=>if x=3 then .key 226 else .key x) (aa bG hv2)
  ·have hi:¬ (i<s.size/\bt s i=124):=λh=>by
    apply Bool.eq_false_iff.1 hc;simp;omega
   rw[x8,if_neg hi]at hR';refine wE ?_;refine wR Γ0 bG ?_ ?_
   ·exact hg.one
   refine wZ bG ?_;rw[<- hR'];exact dX hg rfl ((ev (aa bG @aX))) dE
def o8:EqSpec prog 39 where
 f:=λxs ys=>match xs,ys with
  |[.int .i64 a,.int .i64 b,.string s],[.int .i64 a',.int .i64 b',.string s']=>some (decide (a=a')&&decide (b=b')&&decide (s=s'))
  |_,_=>none
 ok:=by
  intro xs ys b w h;split at h
  ·rename_i a b s a' b' s';cases h;refine⟨?_,?_⟩
   ·simp[eqGuard,go_sem,Tryz.eqGuardType39]
   ·simp only[Op.equal,Op.maxDepth,run_equalIn_agg w 9999 39 _ _ Tryz.underlying39 Tryz.stoodInHeld39];have e:s.toList=s'.toList ↔ s=s' := by
     have:=EB s s';rw[Bool.eq_iff_iff]at this;simpa using this
    simp[go_sem,e];by_cases h1:a=a' <;> by_cases h2:b=b' <;> by_cases h3:s=s' <;> simp[h1,h2,h3]
  ·cases h
theorem pn(a b a' b' : Int)(s s' : ByteArray):o8.f [.int .i64 a,.int .i64 b,.string s] [.int .i64 a',.int .i64 b',.string s']=some (decide (a=a')&&decide (b=b')&&decide (s=s')):=rfl
def Kc:bu prog 263 where
 pre:=λW bs=>λ| [.val (.string s),.val (.int .i64 i)]=>s.size<=140737488351232/\aV W (Out bs)|_=>False
 res:=λW=>λ| [.val (.string s),.val (.int .i64 i)]=>pJ s i|_=>undef
 enters:=call263
 ok:=by
  intro W w bs us as_ hk hu hp;split at hp
  ·rename_i s i
   match us,hu with
   |[u0,u1],hu=>
    obtain⟨rfl,rfl,_⟩:=hu;exact OT s i w hp.1 (hp.2.cP hk sI)
  ·exact hp.elim
theorem LQ(W:World)(s:ByteArray)(i:Int):Kc.res W [.val (.string s),.val (.int .i64 i)]=pJ s i:=rfl
theorem Lu(W:World)(bs:List Nat)(s:ByteArray)(i:Int):Kc.pre W bs [.val (.string s),.val (.int .i64 i)]=(s.size<=140737488351232/\aV W (Out bs)):=rfl
noncomputable def Fq(G:Nat->Prop)(t:Rx):Env prog:=⟨λ| 127=>some cT.spec|179=>some gA.spec|128=>some eN.spec|263=>some Kc.spec|249=>some ((lW t).spec G)|_=>none,λ| 39=>some o8|_=>none,λ_ _=>none⟩
noncomputable def Γ54(G:Nat->Prop)(n:Nat)(h:Q8 n):Env prog:=⟨λ| 126=>some ((kx _ _ _ n call126 h).spec G)|_=>none,λ_=>none,λ_ _=>none⟩
section
variable (G:Nat->Prop)(t:Rx)(n:Nat)(h:Q8 n)
theorem VY:(Fq G t).sp 127=some cT.spec:=rfl
theorem T9:(Fq G t).sp 179=some gA.spec:=rfl
theorem UM:(Fq G t).sp 128=some eN.spec:=rfl
theorem Ww:(Fq G t).sp 263=some Kc.spec:=rfl
theorem VN:(Fq G t).sp 249=some ((lW t).spec G):=rfl
theorem QF:(Fq G t).eqs 39=some o8:=rfl
theorem YA:(Γ54 G n h).sp 126=some ((kx _ _ _ n call126 h).spec G):=rfl
end
def cH:=(ak @List.replicate_succ.{0} @List.replicate_zero.{0} @aq @ae lP lM QW (ak Py OU lA dI dK dJ dG (ak dr dt du dq mJ mh mG (ak mT mf fq fu ft fh ff (ak fm TM PY Qf Ti Sa Qq (ak Sz S8 vC vF vv uD uL (ak uA xM xm vS vU adX acO (ak adF ad7 sw sS sO sN ov (ak oQ oN oP xQ uE w8 vf (ak uX x7 xp uP uM uT wU (ak wo pM qs qm pR qv pZ (ak sD sX sE sH Zn Zc ZO (ak ZF Zu Zp Zx Y8 ads adT (ak @tD.eq_1 @tK.eq_1 @dd.eq_1 @a6 @aw @aD @aE (ak @eA @jP @fQ @fT @jA @jl @jq (ak @oa @ir @iu @kO @lW.eq_1 @nJ @bq (ak @qG @qF @lG @BN @cQ @jt @kB (ak @kM @jh @nN @dD @A5 @ie @List.drop_nil.{0} (ak LQ Lu @VY @T9 @UM @Ww @VN (dx @QF @YA @pn))))))))))))))))))))
theorem Dg(n:Nat)(hA:∀ m,n=m+1->Q8 m):EK n:=by
 intro s i d op u fp w S hdn hop h0 hi hs hesc ho hlt hS;have u0:=aG.up w S fp;have e0:=hesc.mono (aG.fe w S fp hS);have e0' : aV w (Out fp):=e0.mono λb _ hb=>⟨rfl,hb.2⟩
 dsimp only;have wi:IntKind.i64.wrap (i+1)=i+1:=aH oM oM;refine gP (nt:=108) S #[] [.cell 2 254] (by show 3<=7;omega) ho hlt func251 rfl rfl rfl ?_;refine vR Γ0 cH ?_;refine Wp.seq ?_;refine wR (Fq (aG w S fp) .eps) cH ?_ ?_
 ·first|trivial|omega|(simp[hs];done)|(simp[hs];omega)|(simp[hs]<;>omega)
 refine wC cH (λhc=>?_) (λhc=>?_)
 ·have h40:¬ bt s i=40:=by simpa using hc
  have hL:aY (bt s) s.size (kp s) n i=qd (kp s) i:=by
   cases n with
   |zero=>rw[aY,if_neg h40]
   |succ n=>rw[aY,if_neg h40]
  rw[hL];have hre:pJ s i=match gE s i with
    |.error j=>oD 10 0 0 j
    |.ok (a,j)=>oD 0 a j 0:=by
   rw[pJ,if_neg oM];cases gE s i<;>rfl
  cases hI:gE s i with
  | error j=>
   rw[hI]at hre;simp only[oD]at hre;have hE:qd (kp s) i=.error (10,j):=by rw[qd,kp,hI]
   rw[hE,bq];refine A0 (Fq (aG w S fp) .eps) (aa cH hre) ?_ ?_
   ·exact⟨hs,e0'⟩
   refine Wp.seq ?_;refine wR (Fq (aG w S fp) .eps) (aa cH hre) ?_ ?_
   ·first|trivial|omega|(simp[hs];done)|(simp[hs];omega)|(simp[hs]<;>omega)
   refine wC cH (λhc=>?_) (λhc=>?_)
   ·skip;refine Wp.om (Fq (aG w S fp) .eps) cr (ev (aa cH hre)) ?_ ?_
    ·first|trivial|omega|(simp[hs];done)|(simp[hs];omega)|(simp[hs]<;>omega)
    refine qq ?_;exact⟨_,rfl⟩
   ·exfalso;simp at hc
  | ok q=>
   obtain⟨a,j⟩:=q;have hj:=D8 hI h0 hi;rw[hI]at hre;simp only[oD]at hre;have hE:qd (kp s) i=.ok (bw (.cls a),j):=by rw[qd,kp,hI]
   rw[hE,nJ];refine A0 (Fq (aG w S fp) .eps) (aa cH hre) ?_ ?_
   ·exact⟨hs,e0'⟩
   refine Wp.seq ?_;refine wR (Fq (aG w S fp) .eps) (aa cH hre) ?_ ?_
   ·first|trivial|omega|(simp[hs];done)|(simp[hs];omega)|(simp[hs]<;>omega)
   refine wC cH (λhc=>?_) (λhc=>?_)
   ·exfalso;simp at hc
   ·refine wK ?_;refine vR Γ0 cH ?_;refine wR (Fq (aG w S fp) (.cls a)) cH ?_ ?_
    ·exact⟨rfl,u0⟩
    refine Wp.gG 272 (ev cH) (bV.refl _ _) λW1 bs1 cs hx1 hΦ=>?_
    obtain⟨fv,rfl,hg,hv1⟩:=bT hΦ;refine wZ (aa cH hv1) ?_;exact dX hg rfl ((ev (aa cH @aX))) dE
 ·have h40:bt s i=40:=by simpa using hc
  refine wK ?_;refine Wp.seq ?_;refine vR Γ0 cH ?_;refine wC cH (λhc=>?_) (λhc=>?_)
  ·have hd:1000<=d:=by
    simp at hc;omega
   obtain rfl:n=0:=oM;rw[aY,if_pos h40,bq];refine Wp.om (Fq (aG w S fp) .eps) cr (ev cH) ?_ ?_
   ·first|trivial|omega|(simp[hs];done)|(simp[hs];omega)|(simp[hs]<;>omega)
   refine qq ?_;exact⟨_,rfl⟩
  ·have hd:¬ 1000<=d:=by
    simp at hc;omega
   obtain⟨n,rfl⟩:∃ m,n=m+1:=⟨n-1,oM⟩;have hA' := hA n rfl;rw[aY,if_pos h40];refine wK ?_;have hap:List.map SV.v op++[SV.v (.int .i64 i)]=List.map SV.v (op++[.int .i64 i]):=by simp
   refine A0 Γ0 cH ?_ ?_
   ·unfold maxLen;omega
   refine vR Γ0 (aa cH wi) ?_;have hlen:(op++[Value.int .i64 i]).length=d+1:=by simp[hop]
   cases hF:ti (bt s) s.size (aY (bt s) s.size (kp s) n) (i+1) with
   |error e=>
    obtain⟨c,j⟩:=e;rw[rQ,bq];refine Wp.iT (Γ54 (aG w S fp) n hA') cr (ev (iS cH hF wi hap)) ?_ ?_
    ·exact⟨⟨⟨_,_,_,_,rfl,oM,hlen,oM,oM,hs⟩,e0⟩,dE,sI⟩
    refine qq ?_;exact⟨_,rfl⟩
   | ok q=>
    obtain⟨r,j⟩:=q;have hr:=yQ oM oM oM hF;have wd:IntKind.i64.wrap (((d+1:Nat):Int)-1)=((d:Nat):Int):=wW;have htk:List.take d (List.map SV.v (op++[Value.int .i64 i]))=List.map SV.v op:=by
     rw[<- List.map_take,<- hop,List.take_left]
    have hix:(List.map SV.v (op++[Value.int .i64 i])).getD d (.v undef)=.v (.int .i64 i):=by
     rw[<- hop];simp
    refine wR (Γ54 (aG w S fp) n hA') (iS cH hF wi hap) ?_ ?_
    ·exact⟨⟨⟨_,_,_,_,rfl,oM,hlen,oM,oM,hs⟩,e0⟩,dE,sI,u0⟩
    refine Wp.gG 279 (ev cH) (bV.refl _ _) λW1 bs1 cs hx1 hΦ=>?_
    obtain⟨fv,rfl,hg,hv1⟩:=bT hΦ;refine Wp.seq ?_;refine wR (Fq (aG w S fp) .eps) (aa cH hap) ?_ ?_
    ·first|trivial|omega|(simp[hs];done)|(simp[hs];omega)|(simp[hs]<;>omega)
    refine wC cH (λhc=>?_) (λhc=>?_)
    ·have hj:¬ j<s.size:=by
      simp at hc;omega
     rw[rQ,if_pos hj,bq];refine Wp.Kh (Fq (aG w S fp) .eps) cr (ev (iS cH hap wd hix)) rfl (by kernel_rfl) ?_ ?_
     ·exact⟨⟨_,rfl⟩,⟨oM,oM⟩,by simp[hop],dE,sI⟩
     refine qq ?_;exact⟨_,rfl⟩
    ·have hj:j<s.size:=by
      simp at hc;omega
     have wj:IntKind.i64.wrap (j+1)=j+1:=aH oM oM;rw[rQ,if_neg oM,nJ];refine wK ?_;refine vR Γ0 (aa cH wj) ?_;refine A0 Γ0 (dx cH wd htk) ?_ ?_
     ·exact⟨⟨_,rfl⟩,oM,oM⟩
     refine wR Γ0 (aa cH hv1) ?_ ?_
     ·exact hg.one
     refine wZ (aa cH hv1) ?_;exact dX hg rfl ((ev (aa cH @aX))) dE
theorem levels:∀ n,EK n
 |0=>Dg 0 λm h=>by omega
 |n+1=>Dg (n+1) λm h=>by
  obtain rfl:n=m:=oM;exact DL n (yJ n (JL n (levels n)))
theorem Dn(n:Nat):Q8 n:=DL n (yJ n (JL n (levels n)))
noncomputable def Γ55(G:Nat->Prop):Env prog:=⟨λ| 127=>some cT.spec|128=>some eN.spec|126=>some ((kx _ _ _ 1000 call126 (Dn 1000)).spec G)|f=>F3 0 (tV 0) f,λ_=>none,λ_ _=>none⟩
theorem Yf(G:Nat->Prop):(Γ55 G).sp 127=some cT.spec:=rfl
theorem Uo(G:Nat->Prop):(Γ55 G).sp 128=some eN.spec:=rfl
theorem Xd(G:Nat->Prop):(Γ55 G).sp 126=some ((kx _ _ _ 1000 call126 (Dn 1000)).spec G):=rfl
def fR:=(ak @List.replicate_succ.{0} @List.replicate_zero.{0} @aq @ae lP lM QW (ak Py OU lA dI dK dJ dG (ak dr dt du dq fq fu ft (ak fh ff fm TM PY Qf Ti (ak Sa Qq Sz S8 vC vF vv (ak uD uL uA xM xm vS vU (ak sw sS sO sN xQ uE w8 (ak vf uX x7 xp uP uM uT (ak wU wo JF IN Je pM qs (ak qm pR qv pZ @tD.eq_1 @tK.eq_1 @dd.eq_1 (ak @a6 @aw @aD @aE @eA @jP @fQ (ak @fT @jA @ir @iu @kO @nJ @bq (ak @qG @qF @lG @BN @σR.eq_1 @σL.eq_1 @mO.eq_1 (ak @mO.eq_2 @xK.eq_1 @xK.eq_2 @Yf @Uo @Xd @zm @zG))))))))))))))
noncomputable def Sr:CatchC prog 125 where
 Ts:=[151,39]
 enters:=call125
 pre:=λvss pv=>(∃ a f g h,vss=[[a],[f,g,h]])/\∃ c i t,pv=.iface 39 (tK c i t)
 out:=λvss pv=>[[.nilIface],match pv with|.iface _ (.agg x)=>x.toList|_=>[]]
 lY:=λvss pv=>[.nilIface,match pv with|.iface _ x=>x|_=>undef]
 vals_ok:=by
  rintro vss pv ⟨_,c,i,t,rfl⟩
  refine⟨.inr ⟨by simp only[mM,Op.operands,Value.cells,σ0,σB,Nat.reduceEqDiff,Nat.reduceAdd,Nat.reduceMul,Nat.reduceLT,Nat.reduceLeDiff,Nat.reduceBEq,ax,Int.reduceToNat,Int.reduceLT,Int.reduceLE,Nat.reduceDiv,Nat.reduceMod,Nat.reduceSub,Int.reducePow,Nat.reducePow,σP,σB3,fR],rfl⟩,.inl ⟨by simp only[mM,Op.operands,Value.cells,σ0,σB,Nat.reduceEqDiff,Nat.reduceAdd,Nat.reduceMul,Nat.reduceLT,Nat.reduceLeDiff,Nat.reduceBEq,ax,Int.reduceToNat,Int.reduceLT,Int.reduceLE,Nat.reduceDiv,Nat.reduceMod,Nat.reduceSub,Int.reducePow,Nat.reducePow,σP,σB3,fR]<;>rfl,by simp only[mM,Op.operands,Value.cells,σ0,σB,Nat.reduceEqDiff,Nat.reduceAdd,Nat.reduceMul,Nat.reduceLT,Nat.reduceLeDiff,Nat.reduceBEq,ax,Int.reduceToNat,Int.reduceLT,Int.reduceLE,Nat.reduceDiv,Nat.reduceMod,Nat.reduceSub,Int.reducePow,Nat.reducePow,σP,σB3,fR],rfl⟩,trivial⟩
 quiet:=λw us hl=>by
  match us,hl with
  | [u0,u1],_=>
   refine qe (nt:=8) w _ func125 rfl rfl oM oM rfl ?_;refine vR Γ0 fR ?_;refine wC fR (λhc=>?_) (λhc=>?_)
   ·simp at hc
   ·refine wK ?_;simp only[mM,Op.operands,Value.cells,σ0,σB,Nat.reduceEqDiff,Nat.reduceAdd,Nat.reduceMul,Nat.reduceLT,Nat.reduceLeDiff,Nat.reduceBEq,ax,Int.reduceToNat,Int.reduceLT,Int.reduceLE,Nat.reduceDiv,Nat.reduceMod,Nat.reduceSub,Int.reducePow,Nat.reducePow,σP,σB3,nO,gW,kF,jr,fR]
    done
 caught:=λw us bl vss pv hl hn hlt hp=>by
  obtain⟨⟨a,f,g,h,rfl⟩,k,i,t,rfl⟩:=hp;have h3:=hl.len.1;refine oB (nt:=8) func125 rfl rfl oM oM ?_ hl hn hlt ?_ ?_
  ·rw[h3];rfl
  ·rw[h3];decide
  intro us _;refine vR Γ0 fR ?_;refine wC fR (λhc=>?_) (λhc=>?_)
  ·skip;refine vrD Γ0 (aa fR @tK.eq_1) ?_;refine wS fR ?_;exact⟨rfl,rfl,trivial⟩
  ·cases hc
def oC(s:ByteArray):Except (Int×Int) Rx:=xX (bt s) s.size (kp s)
def pC:Except (Int×Int) Rx->Value
 |.ok t=>.tuple #[aB t,tK 0 0 ⟨#[]⟩]
 |.error (c,j)=>.tuple #[.nilIface,tK c j ⟨#[]⟩]
theorem M3(s:ByteArray)(w:World)(hs:s.size<=140737488351232)(hg:aV w (Out [])) :
  Calls prog 71 #[.string s] w λe w' => e=.returned (pC (oC s))/\af w [] w' := by
 have u0:Up (λ_=>True) w []:=Up.true _ _;have e0:aV w (fi (λ_=>True) []):=hg.mono λb _ hb=>⟨rfl,trivial,hb⟩
 refine sC (nt:=33) func71 rfl rfl ?_;refine jY.seq' (rs:=[.cell 2 151,.cell 3 39]) rfl ?_;refine vr Γ0 fR ?_;refine jY.seq' (rs:=[.cell 2 151,.cell 3 39]) rfl ?_;refine vR Γ0 fR ?_;refine wC fR (λhc=>?_) (λhc=>?_)
 ·have hb:1048576<(s.size:Int):=by simpa using hc
  have he:oC s=.error (1,0):=by rw[oC,xX,if_pos hb]
  rw[he];refine vR Γ0 fR ?_;refine wZ fR ?_;exact λE=>rfl
 ·have hb:¬ 1048576<(s.size:Int):=by simpa using hc
  have he:oC s=MQ s.size (alts (bt s) s.size (kp s) 1000 0):=by rw[oC,xX,if_neg hb]
  refine wK ?_;refine jY.P9 (rs:=[.cell 2 151,.cell 3 39]) rfl Sr [2,3] [0,8] rfl dE rfl dE rfl rfl ?_ ?_ λus hus=>?_
  ·rintro p hp;simp only[List.zip_cons_cons,List.zip_nil_right,List.mem_cons,List.not_mem_nil,or_false]at hp;rcases hp with rfl|rfl<;>rfl
  ·rintro k hk;simp only[List.mem_cons,List.not_mem_nil,or_false]at hk;rcases hk with rfl|rfl<;>exact⟨_,_,rfl⟩
  refine vR Γ0 fR ?_
  match us,hus with
  |[u0',u1'],_=>
  refine Wp.Il (σ' := ⟨20,cL [(2,.is (.own 0 0)),(3,.is (.own 8 0)),(4,.is (.own 72 0))],cf [(0,.cells 151 [.v .nilIface]),(8,.cells 39 [.v (.int .i64 0),.v (.int .i64 0),.v (.string ⟨#[]⟩)]),(72,.cells 251 [.v (.string s),.v (.int .i64 0),.hd 88]),(88,.row 3 1 0 [])]⟩) ?_ ?_
  ·exact wM (λx=>if x=88 then .nil else .key x) fR
  have hal:alts (bt s) s.size (kp s) 1000 0=ti (bt s) s.size (aY (bt s) s.size (kp s) 1000) 0:=rfl;rw[hal]at he;cases hF:ti (bt s) s.size (aY (bt s) s.size (kp s) 1000) 0 with
  |error e=>
   obtain⟨c,j⟩:=e;rw[hF]at he;simp only[MQ]at he;rw[he];refine Wp.iT (Γ55 (λ_=>True)) cr (ev (aa fR hF)) ?_ ?_
   ·exact⟨⟨⟨_,_,_,_,rfl,rfl,rfl,oM,sI,hs⟩,e0⟩,dE,sI⟩
   refine qq ?_;refine wS fR ?_;refine⟨.iface 39 (tK c j ⟨#[]⟩),[[.nilIface],[.int .i64 0,.int .i64 0,.string ⟨#[]⟩]],rfl,⟨?_,?_,?_,?_,trivial⟩,⟨⟨_,_,_,_,rfl⟩,c,j,⟨#[]⟩,rfl⟩,λE=>rfl⟩
   all_goals rfl
  | ok q=>
   obtain⟨r,j⟩:=q;have hr:=yQ (s:=s) (m:=1000) oM oM sI hF;rw[hF]at he;simp only[MQ]at he;refine wR (Γ55 (λ_=>True)) (aa fR hF) ?_ ?_
   ·exact⟨⟨⟨_,_,_,_,rfl,rfl,rfl,oM,sI,hs⟩,e0⟩,dE,sI,u0⟩
   refine Wp.gG 175 (ev fR) (bV.refl _ _) λW1 bs1 cs hx1 hΦ=>?_
   obtain⟨fv,rfl,hg1,hv1⟩:=bT hΦ;refine Wp.seq ?_;refine wR (Γ55 (λ_=>True)) fR ?_ ?_
   ·first|trivial|omega|(simp[hs];done)|(simp[hs];omega)|(simp[hs]<;>omega)
   refine wC fR (λhc=>?_) (λhc=>?_)
   ·have hj:j<s.size:=by
     simp at hc;omega
    rw[if_pos hj]at he;rw[he];refine Wp.om (Γ55 (λ_=>True)) cr (ev fR) ?_ ?_
    ·first|trivial|omega|(simp[hs];done)|(simp[hs];omega)|(simp[hs]<;>omega)
    refine qq ?_;refine wS fR ?_;refine⟨.iface 39 (tK 20 j ⟨#[]⟩),[[.nilIface],[.int .i64 0,.int .i64 0,.string ⟨#[]⟩]],rfl,⟨?_,?_,?_,?_,trivial⟩,⟨⟨_,_,_,_,rfl⟩,20,j,⟨#[]⟩,rfl⟩,λE=>rfl⟩
    all_goals rfl
   ·have hj:¬ j<s.size:=by
     simp at hc;omega
    rw[if_neg hj]at he;refine wK ?_;refine Wp.seq ?_;refine vR Γ0 (aa fR hv1) ?_;refine wC fR (λhc=>?_) (λhc=>?_)
    ·have hz:2000<r.1:=by
      simp at hc;omega
     rw[if_pos hz]at he;rw[he];refine vR Γ0 fR ?_;refine wZ fR ?_;exact λE=>rfl
    ·have hz:¬ 2000<r.1:=by
      simp at hc;omega
     rw[if_neg hz]at he;rw[he];obtain⟨f,cap,rfl,hf⟩:=hg1.shape;obtain⟨cap,rfl⟩:∃ l:List Value,cap=l.toArray:=⟨cap.toList,sI⟩;have hgr:=ju hg1;have hsp:=ql (dp r.2+1) (tV _) f hf;refine wK ?_;refine wR (Γ43 (dp r.2+1) (tV _)) (NT fR hsp hgr @lE hv1 @hD @bA) ?_ ?_
     ·exact⟨⟨cap,r.2,rfl,hg1.mono λb _ h=>⟨rfl,h.2⟩,oM⟩,bA _⟩
     refine wT ?_
     simp only[mM,Op.operands,Value.cells,σ0,σB,Nat.reduceEqDiff,Nat.reduceAdd,Nat.reduceMul,Nat.reduceLT,Nat.reduceLeDiff,Nat.reduceBEq,ax,Int.reduceToNat,Int.reduceLT,Int.reduceLE,Nat.reduceDiv,Nat.reduceMod,Nat.reduceSub,Int.reducePow,Nat.reducePow,σP,σB3,nO,gW,kF,jr,fR,kF,hD,bA,jz (bA _)]
     exact λE=>rfl
def AM:bu prog 71 where
 pre:=λW bs=>λ| [.val (.string s)]=>s.size<=140737488351232/\aV W (Out bs)|_=>False
 res:=λW=>λ| [.val (.string s)]=>pC (oC s)|_=>undef
 enters:=call71
 ok:=by
  intro W w bs us as_ hk hu hp;split at hp
  ·rename_i s
   match us,hu with
   |[u0],hu=>
    obtain⟨rfl,_⟩:=hu;exact M3 s w hp.1 (hp.2.cP hk sI)
  ·exact hp.elim
theorem Ip(W:World)(s:ByteArray):AM.res W [.val (.string s)]=pC (oC s):=rfl
theorem F6(W:World)(bs:List Nat)(s:ByteArray):AM.pre W bs [.val (.string s)]=(s.size<=140737488351232/\aV W (Out bs)):=rfl
def oX(q:ByteArray)(b:Int):Bool:=decide (0<=vO q b)
theorem aaG:(⟨#[40,41,91,93,123,125,124,38,45,42,43,63,46,92,47,94]⟩:ByteArray)=T6:=rfl
theorem abv:(⟨#[92,93,91,45,94,47]⟩:ByteArray)=sn:=rfl
def blF(f:Nat->Bool):List Value:=(List.range 256).map λi=>.bool (f i)
theorem AL(f:Nat->Bool):(blF f).length=256:=by simp[blF]
structure MI where
 n:Nat
 i:Int
 a:CS
structure Fm where
 place:Int
 alt:Int
 meet:Int
 sgn:Int
 row:Int
 fac:Int
def Fm.lY(f:Fm):List Value:=[.int .i64 f.place,.int .i64 f.alt,.int .i64 f.meet,.int .u8 f.sgn,.int .i64 f.row,.int .i64 f.fac]
def Eu(i:Int):Fm:=⟨i,-1,-1,0,-1,-1⟩
structure Nd where
 op:Int
 set:CS
 a:Int
 b:Int
 m:Int
 n:Int
def Nd.lY(d:Nd):List Value:=.int .i64 d.op::(blF d.set.getLsbD++[.int .i64 d.a,.int .i64 d.b,.int .i64 d.m,.int .i64 d.n])
def LW(l:List Nd):List Value:=l.flatMap Nd.lY
theorem Nd.pW(d:Nd):d.lY.length=261:=by simp[Nd.lY,AL]
theorem Wb(l:List Nd):(LW l).length=l.length*261:=by
 induction l with
 |nil=>rfl
 |cons d r ih=>
  have:LW (d::r)=d.lY++LW r:=rfl;rw[this,List.length_append,ih,Nd.pW,List.length_cons];omega
def lQ(op a b:Int):Nd:=⟨op,0,a,b,0,0⟩
end
section
def fK(ar:List Nd)(f:Fm):List Nd×Fm:=
 if f.fac<0 then (ar,f)
 else if f.row<0 then (ar,{ f with row:=f.fac,fac:=-1 })
 else (ar++[lQ 2 f.row f.fac],{ f with row:=ar.length,fac:=-1 })
def QU(ar:List Nd)(f:Fm):List Nd×Fm:=
 if f.row<0 then (ar++[lQ 0 0 0],{ f with row:=ar.length }) else (ar,f)
def Jd(ar:List Nd)(f:Fm):List Nd×Fm:=
 if f.meet<0 then (ar,{ f with meet:=f.row,row:=-1 })
 else if f.sgn=38 then (ar++[lQ 5 f.meet f.row],{ f with meet:=ar.length,row:=-1 })
 else (ar++[lQ 6 f.meet f.row],{ f with meet:=ar.length,row:=-1 })
def sG(ar:List Nd)(f:Fm):List Nd×Fm:=
 Jd (QU (fK ar f).1 (fK ar f).2).1 (QU (fK ar f).1 (fK ar f).2).2
def ZJ(ar:List Nd)(f:Fm):List Nd×Fm:=
 if f.alt<0 then (ar,{ f with alt:=f.meet,meet:=-1 })
 else (ar++[lQ 3 f.alt f.meet],{ f with alt:=ar.length,meet:=-1 })
def gU(ar:List Nd)(f:Fm):List Nd×Fm:=ZJ (sG ar f).1 (sG ar f).2
def Hm(m n:Int):Prop:=(m=-2/\n=-1)\/(0<=m/\m<=255/\n<=255/\(n=-1\/(0<=n/\m<=n)))
inductive NM (ts:List RT):Nd->RT->Prop where
 |eps (d:Nd):d.op=0->d.set=0->NM ts d .eps
 |cls (d:Nd):d.op=1->NM ts d (.cls d.set)
 |cat (d:Nd) (a b:RT):d.op=2->0<=d.a->ts[d.a.toNat]?=some a->0<=d.b->ts[d.b.toNat]?=some b->NM ts d (.cat a b)
 |alt (d:Nd) (a b:RT):d.op=3->0<=d.a->ts[d.a.toNat]?=some a->0<=d.b->ts[d.b.toNat]?=some b->NM ts d (.alt a b)
 |and (d:Nd) (a b:RT):d.op=5->0<=d.a->ts[d.a.toNat]?=some a->0<=d.b->ts[d.b.toNat]?=some b->NM ts d (.and a b)
 |minus (d:Nd) (a b:RT):d.op=6->0<=d.a->ts[d.a.toNat]?=some a->0<=d.b->ts[d.b.toNat]?=some b->NM ts d (.minus a b)
 |rep (d:Nd) (a:RT):d.op=7->0<=d.a->ts[d.a.toNat]?=some a->Hm d.m d.n->NM ts d (.rep a d.m d.n)
inductive AR:List Nd->List RT->Prop where
 |nil:AR [] []
 |snoc {ar ts d t}:AR ar ts->NM ts d t->AR (ar++[d]) (ts++[t])
theorem AR.len{ar:List Nd}{ts:List RT}(h:AR ar ts):ts.length=ar.length:=by
 induction h with
 |nil=>rfl
 |snoc _ _ ih=>simp[ih]
def OD(ts:List RT)(x:Int):Option RT->Prop
 |none=>x<0
 |some t=>0<=x/\ts[x.toNat]?=some t
theorem OD.app{ts:List RT}{x:Int}{o:Option RT}(h:OD ts x o)(l:List RT):OD (ts++l) x o:=by
 cases o with
 |none=>exact h
 |some t=>
  refine⟨h.1,?_⟩;rw[List.getElem?_append_left (List.getElem?_eq_some_iff.1 h.2).1];exact h.2
theorem OD.last{ar:List Nd}{ts:List RT}(h:AR ar ts)(t:RT):OD (ts++[t]) ar.length (some t):=by
 refine⟨by omega,?_⟩;rw[Int.toNat_natCast,<- h.len];simp
structure FR (ts:List RT)(f:Fm)(L:Lv):Prop where
 place:f.place=L.place
 alt:OD ts f.alt L.alt
 meet:OD ts f.meet L.meet
 sgn:f.sgn=L.sgn
 row:OD ts f.row L.row
 fac:OD ts f.fac L.fac
theorem FR.app{ts:List RT}{f:Fm}{L:Lv}(h:FR ts f L)(l:List RT):FR (ts++l) f L:=
 ⟨h.place,h.alt.app l,h.meet.app l,h.sgn,h.row.app l,h.fac.app l⟩
def NV(ts:List RT):List Fm->List Lv->Prop
 |[],[]=>True
 |f::r,L::s=>FR ts f L/\NV ts r s
 |_,_=>False
theorem NV.app{ts:List RT}:∀ {r:List Fm} {s:List Lv},NV ts r s->∀ l,NV (ts++l) r s
 |[],[],_,_=>trivial
 |[],_::_,h,_=>h.elim
 |_::_,[],h,_=>h.elim
 |f::r,L::s,h,l=>⟨h.1.app l,NV.app h.2 l⟩
theorem NV.len{ts:List RT}:∀ {r:List Fm} {s:List Lv},NV ts r s->r.length=s.length
 |[],[],_=>rfl
 |[],_::_,h=>h.elim
 |_::_,[],h=>h.elim
 |f::r,L::s,h=>by rw[List.length_cons,List.length_cons,NV.len h.2]
theorem oV{ar:List Nd}{ts:List RT}{f:Fm}{L:Lv}(ha:AR ar ts)(h:FR ts f L):∃ l,AR (fK ar f).1 (ts++l)/\FR (ts++l) (fK ar f).2 (dF L):=by
 unfold fK;cases hf:L.fac with
 | none=>
  have h1:=h.fac;rw[hf]at h1;have h2:f.fac<0:=h1;rw[if_pos h2];refine⟨[],by simpa using ha,?_⟩;rw[List.append_nil];refine⟨h.place,h.alt,h.meet,h.sgn,?_,?_⟩
  ·show OD ts f.row (rowOf L.row L.fac);rw[hf];exact h.row
  ·exact h2
 | some p=>
  have h1:=h.fac;rw[hf]at h1;have hf0:¬ f.fac<0:=by have:=h1.1;omega
  rw[if_neg hf0];cases hr:L.row with
  | none=>
   have h3:=h.row;rw[hr]at h3;have h4:f.row<0:=h3;rw[if_pos h4];refine⟨[],by simpa using ha,?_⟩;rw[List.append_nil];refine⟨h.place,h.alt,h.meet,h.sgn,?_,?_⟩
   ·show OD ts f.fac (rowOf L.row L.fac);rw[hf,hr];exact h1
   ·show (-1:Int)<0;omega
  | some r=>
   have h3:=h.row;rw[hr]at h3;have h4:¬ f.row<0:=by have:=h3.1;omega
   rw[if_neg h4];refine⟨[.cat r p],.snoc ha (.cat _ r p rfl h3.1 h3.2 h1.1 h1.2),?_⟩;refine⟨h.place,h.alt.app _,h.meet.app _,h.sgn,?_,?_⟩
   ·show OD _ (ar.length:Int) (rowOf L.row L.fac);rw[hf,hr];exact OD.last ha _
   ·show (-1:Int)<0;omega
theorem Vy{ar:List Nd}{ts:List RT}{f:Fm}{L:Lv}(ha:AR ar ts)(h:FR ts f L):∃ l,AR (QU ar f).1 (ts++l)/\FR (ts++l) (QU ar f).2 { L with row:=some (L.row.getD .eps) }:=by
 unfold QU;cases hr:L.row with
 |none=>
  have h3:=h.row;rw[hr]at h3;have h4:f.row<0:=h3;rw[if_pos h4];exact⟨[.eps],.snoc ha (.eps _ rfl rfl),h.place,h.alt.app _,h.meet.app _,h.sgn,OD.last ha _,h.fac.app _⟩
 |some r=>
  have h3:=h.row;rw[hr]at h3;have h4:¬ f.row<0:=by have:=h3.1;omega
  rw[if_neg h4];refine⟨[],by simpa using ha,?_⟩;rw[List.append_nil];exact⟨h.place,h.alt,h.meet,h.sgn,h3,h.fac⟩
theorem Rk{ar:List Nd}{ts:List RT}{f:Fm}{L:Lv}{r:RT}(ha:AR ar ts)(h:FR ts f L)(hr:L.row=some r):∃ l,AR (Jd ar f).1 (ts++l)/\FR (ts++l) (Jd ar f).2 { L with meet:=some (jJ L.meet L.sgn r),row:=none }:=by
 have h3:=h.row;rw[hr]at h3;unfold Jd;cases hm:L.meet with
 |none=>
  have h1:=h.meet;rw[hm]at h1;have h2:f.meet<0:=h1;rw[if_pos h2];refine⟨[],by simpa using ha,?_⟩;rw[List.append_nil];exact⟨h.place,h.alt,h3,h.sgn,(by show (-1:Int)<0;omega),h.fac⟩
 | some m=>
  have h1:=h.meet;rw[hm]at h1;have h2:¬ f.meet<0:=by have:=h1.1;omega
  rw[if_neg h2];by_cases hs:f.sgn=38
  ·rw[if_pos hs];refine⟨[.and m r],.snoc ha (.and _ m r rfl h1.1 h1.2 h3.1 h3.2),h.place,h.alt.app _,?_,h.sgn,(by show (-1:Int)<0;omega),h.fac.app _⟩;show OD _ (ar.length:Int) (some (jJ (some m) L.sgn r));rw[show jJ (some m) L.sgn r=.and m r by simp[jJ,<- h.sgn,hs]];exact OD.last ha _
  ·rw[if_neg hs];refine⟨[.minus m r],.snoc ha (.minus _ m r rfl h1.1 h1.2 h3.1 h3.2),h.place,h.alt.app _,?_,h.sgn,(by show (-1:Int)<0;omega),h.fac.app _⟩;show OD _ (ar.length:Int) (some (jJ (some m) L.sgn r));rw[show jJ (some m) L.sgn r=.minus m r by simp[jJ,<- h.sgn,hs]];exact OD.last ha _
theorem DV{ar:List Nd}{ts:List RT}{f:Fm}{L:Lv}(ha:AR ar ts)(h:FR ts f L):∃ l,AR (sG ar f).1 (ts++l)/\FR (ts++l) (sG ar f).2 (j6 L):=by
 obtain⟨l1,a1,f1⟩:=oV ha h;obtain⟨l2,a2,f2⟩:=Vy a1 f1;obtain⟨l3,a3,f3⟩:=Rk a2 f2 rfl;refine⟨l1++l2++l3,?_,?_⟩
 ·rw[<- List.append_assoc,<- List.append_assoc];exact a3
 ·rw[<- List.append_assoc,<- List.append_assoc];exact f3
theorem rP{ar:List Nd}{ts:List RT}{f:Fm}{L:Lv}(ha:AR ar ts)(h:FR ts f L):∃ l,AR (gU ar f).1 (ts++l)/\FR (ts++l) (gU ar f).2 (rr L):=by
 obtain⟨l1,a1,f1⟩:=DV ha h;have hm:(j6 L).meet=some (dy L):=rfl;have h1:=f1.meet;rw[hm]at h1;unfold gU ZJ;cases hal:L.alt with
 |none=>
  have h2:=f1.alt;rw[show (j6 L).alt=L.alt from rfl,hal]at h2;have h3:(sG ar f).2.alt<0:=h2;rw[if_pos h3];refine⟨l1,a1,f1.place,?_,(by show (-1:Int)<0;omega),f1.sgn,f1.row,f1.fac⟩;show OD _ _ (some (gH L));rw[show gH L=dy L by unfold gH;rw[hal];rfl];exact h1
 | some a=>
  have h2:=f1.alt;rw[show (j6 L).alt=L.alt from rfl,hal]at h2;have h3:¬ (sG ar f).2.alt<0:=by have:=h2.1;omega
  rw[if_neg h3];refine⟨l1++[.alt a (dy L)],?_,?_⟩
  ·rw[<- List.append_assoc];exact .snoc a1 (.alt _ _ _ rfl h2.1 h2.2 h1.1 h1.2)
  ·rw[<- List.append_assoc];refine⟨f1.place,?_,(by show (-1:Int)<0;omega),f1.sgn,f1.row.app _,f1.fac.app _⟩;show OD _ _ (some (gH L));rw[show gH L=.alt a (dy L) by unfold gH;rw[hal];rfl];exact OD.last a1 _
end
section
section
variable (c:Int->Int)(N:Int)(rd:Int->Except (Int×Int) (BitVec 256×Int))
def TZ(i:Int):Except (Int×Int) (Int×Int×Int):=
 if c i=43 then .ok (-2,-1,i+1) else if c i=63 then .ok (0,1,i+1) else if c i=123 then qL c N i else .ok (0,-1,i+1)
def PV(i:Int)(ar:List Nd)(f:Fm)(rest:List Fm):Except (Int×Int) (Int×List Nd×Fm×List Fm):=
 match TZ c N i with
 |.error e=>.error e
 |.ok (m,n,j)=>.ok (j,ar++[⟨7,0,f.fac,0,m,n⟩],{ f with fac:=ar.length },rest)
def ad8(i:Int)(ar:List Nd)(f:Fm):List Fm->Except (Int×Int) (Int×List Nd×Fm×List Fm)
 |[]=>.error (20,i)
 |g::r=>.ok (i+1,(gU ar f).1,{ g with fac:=(gU ar f).2.alt },r)
def Pa(i:Int)(ar:List Nd)(f:Fm)(rest:List Fm):Except (Int×Int) (Int×List Nd×Fm×List Fm):=
 match rd i with
 |.error e=>.error e
 |.ok (S,j)=>.ok (j,(fK ar f).1++[⟨1,S,0,0,0,0⟩],{ (fK ar f).2 with fac:=(fK ar f).1.length },rest)
def wB(i:Int)(ar:List Nd)(f:Fm)(rest:List Fm):Except (Int×Int) (Int×List Nd×Fm×List Fm):=
 if bf (c i) then (if f.fac<0 then .error (20,i) else PV c N i ar f rest)
 else if c i=124 then .ok (i+1,(gU ar f).1,(gU ar f).2,rest)
 else if c i=38\/c i=45 then .ok (i+1,(sG ar f).1,{ (sG ar f).2 with sgn:=c i },rest)
 else if c i=41 then ad8 i ar f rest
 else if c i=40 then
  if 1000<rest.length+1 then .error (23,i) else .ok (i+1,(fK ar f).1,Eu i,(fK ar f).2::rest)
 else Pa rd i ar f rest
def Fc:Nat->Int->List Nd->Fm->List Fm->Except (Int×Int) (List Nd×Fm×List Fm)
 |0,_,ar,f,rest=>.ok (ar,f,rest)
 | n+1,i,ar,f,rest=>
  if i<N then match wB c N rd i ar f rest with
   |.error e=>.error e
   |.ok (j,ar',g,r)=>Fc n j ar' g r
  else .ok (ar,f,rest)
end
def Fs(z:List Int)(d:Nd):Int:=
 if d.op=0\/d.op=1 then 1
 else if d.op=7 then eG (z.getD d.a.toNat 0) d.m d.n
 else 1+z.getD d.a.toNat 0+z.getD d.b.toNat 0
def XU(z:List Int)(d:Nd):Int:=if 2001<Fs z d then 2001 else Fs z d
def szL(ar:List Nd):List Int:=ar.foldl (λz d=>z++[XU z d]) []
def aaa:Except (Int×Int) (List Nd×Fm×List Fm)->Except (Int×Int) (List Nd×Int)
 |.error e=>.error e
 |.ok (ar,f,rest)=>if rest≠[] then .error (21,f.place)
  else if 2000<(szL (gU ar f).1).getD (gU ar f).2.alt.toNat 0 then .error (24,0) else .ok ((gU ar f).1,(gU ar f).2.alt)
def rk(c:Int->Int)(N:Int)(rd:Int->Except (Int×Int) (BitVec 256×Int)):Except (Int×Int) (List Nd×Int):=
 if 1048576<N then .error (1,0) else aaa (Fc c N rd (N.toNat+1) 0 [] (Eu (-1)) [])
theorem Nf{c:Int->Int}{N i m n j:Int}(h:qL c N i=.ok (m,n,j)):m<=255/\n<=255:=by
 unfold qL at h;cases h1:kC c N (i+1) with
 |error e=>rw[h1]at h;cases h
 | ok p=>
  obtain⟨m',j'⟩:=p;rw[h1]at h;simp only at h;cases h2:Ho c N m' j' with
  |error e=>rw[h2]at h;cases h
  | ok p=>
   obtain⟨n',j2⟩:=p;rw[h2]at h;simp only at h;unfold sx at h;split at h
   ·cases h
   ·split at h
    ·cases h
    ·rename_i hn;simp only[Except.ok.injEq,Prod.mk.injEq]at h;obtain⟨rfl,rfl,_⟩:=h;omega
theorem acf{c:Int->Int}{N i m n j:Int}(h:TZ c N i=.ok (m,n,j)):Hm m n:=by
 unfold TZ at h;unfold Hm;split at h
 ·simp only[Except.ok.injEq,Prod.mk.injEq]at h;omega
 ·split at h
  ·simp only[Except.ok.injEq,Prod.mk.injEq]at h;omega
  ·split at h
   ·have h1:=P7 h;have h2:=Nf h;omega
   ·simp only[Except.ok.injEq,Prod.mk.injEq]at h;omega
section
variable {c:Int->Int}{N:Int}{rd:Int->Except (Int×Int) (BitVec 256×Int)}
def ac4(ts:List RT):Except (Int×Int) (Int×Lv×List Lv)->Except (Int×Int) (Int×List Nd×Fm×List Fm)->Prop
 |.error e,.error e' => e=e'
 |.ok (j,L,Ls),.ok (j',ar,f,r)=>j=j' /\ ∃ l,AR ar (ts++l)/\FR (ts++l) f L/\NV (ts++l) r Ls
 |_,_=>False
theorem Xu{i:Int}{L:Lv}{p:RT}(hp:bf (c i)):mR c N i L p=match TZ c N i with
  |.error e=>.error e
  |.ok (m,n,j)=>.ok (j,{ L with fac:=some (.rep p m n) }):=by
 unfold mR TZ;unfold bf at hp;by_cases h42:c i=42
 ·rw[if_pos h42,if_neg (by omega),if_neg (by omega),if_neg (by omega)]
 ·rw[if_neg h42];by_cases h43:c i=43
  ·rw[if_pos h43,if_pos h43]
  ·rw[if_neg h43,if_neg h43];by_cases h63:c i=63
   ·rw[if_pos h63,if_pos h63]
   ·rw[if_neg h63,if_neg h63,if_pos (by omega)];cases qL c N i<;>rfl
theorem Si{i:Int}{ar:List Nd}{ts:List RT}{f:Fm}{L:Lv}{rest:List Fm}{Ls:List Lv}(ha:AR ar ts)(hf:FR ts f L)(hr:NV ts rest Ls):ac4 ts (dv c N rd i L Ls) (wB c N rd i ar f rest):=by
 unfold dv wB;by_cases hp:bf (c i)
 ·rw[if_pos hp,if_pos hp];cases hL:L.fac with
  |none=>
   have h1:=hf.fac;rw[hL]at h1;have h2:f.fac<0:=h1;rw[if_pos h2];rfl
  | some p=>
   have h1:=hf.fac;rw[hL]at h1;have h2:¬ f.fac<0:=by have:=h1.1;omega
   rw[if_neg h2];simp only[Xu hp,PV];cases hm:TZ c N i with
   |error e=>rfl
   |ok q=>
    obtain⟨m,n,j⟩:=q;refine⟨rfl,[.rep p m n],.snoc ha (.rep ⟨7,0,f.fac,0,m,n⟩ p rfl h1.1 h1.2 (acf hm)),⟨hf.place,hf.alt.app _,hf.meet.app _,hf.sgn,hf.row.app _,OD.last ha _⟩,hr.app _⟩
 ·rw [if_neg hp,if_neg hp];by_cases h124:c i=124
  ·rw[if_pos h124,if_pos h124];obtain⟨l,a1,f1⟩:=rP ha hf;exact⟨rfl,l,a1,f1,hr.app l⟩
  ·rw [if_neg h124,if_neg h124];by_cases h2:c i=38\/c i=45
   ·rw[if_pos h2,if_pos h2];obtain⟨l,a1,f1⟩:=DV ha hf;exact⟨rfl,l,a1,⟨f1.place,f1.alt,f1.meet,rfl,f1.row,f1.fac⟩,hr.app l⟩
   ·rw [if_neg h2,if_neg h2];by_cases h41:c i=41
    ·rw[if_pos h41,if_pos h41]
     match rest,Ls,hr with
     |[],[],_=>rfl
     |g::r,M::Ms,hr=>
      obtain⟨l,a1,f1⟩:=rP ha hf;have g1:=hr.1.app l;exact⟨rfl,l,a1,⟨g1.place,g1.alt,g1.meet,g1.sgn,g1.row,f1.alt⟩,hr.2.app l⟩
    ·rw[if_neg h41,if_neg h41];by_cases h40:c i=40
     ·rw[if_pos h40,if_pos h40,hr.len];by_cases hd:1000<Ls.length+1
      ·rw[if_pos hd,if_pos hd];rfl
      ·rw[if_neg hd,if_neg hd];obtain⟨l,a1,f1⟩:=oV ha hf;have hm:∀ o:Int,o=-1->OD (ts++l) o none:=λo h=>by show o<0;omega
       exact⟨rfl,l,a1,⟨rfl,hm _ rfl,hm _ rfl,rfl,hm _ rfl,hm _ rfl⟩,f1,hr.app l⟩
     ·rw[if_neg h40,if_neg h40];unfold Pa;cases hS:rd i with
      |error e=>rfl
      | ok q=>
       obtain⟨S,j⟩:=q;obtain⟨l,a1,f1⟩:=oV ha hf;refine⟨rfl,l++[.cls S],?_,?_,?_⟩
       ·rw[<- List.append_assoc];exact .snoc a1 (.cls ⟨1,S,0,0,0,0⟩ rfl)
       ·rw[<- List.append_assoc];exact⟨f1.place,f1.alt.app _,f1.meet.app _,f1.sgn,f1.row.app _,OD.last a1 _⟩
       ·exact hr.app _
def ado:Except (Int×Int) (Lv×List Lv)->Except (Int×Int) (List Nd×Fm×List Fm)->Prop
 |.error e,.error e' => e=e'
 |.ok (L,Ls),.ok (ar,f,r)=>∃ ts,AR ar ts/\FR ts f L/\NV ts r Ls
 |_,_=>False
theorem IK:∀ (n:Nat) (i:Int) (ar:List Nd) (ts:List RT) (f:Fm) (L:Lv) (rest:List Fm) (Ls:List Lv),AR ar ts->FR ts f L->NV ts rest Ls->ado (runN c N rd n i L Ls) (Fc c N rd n i ar f rest)
 |0,i,ar,ts,f,L,rest,Ls,ha,hf,hr=>⟨ts,ha,hf,hr⟩
 | n+1,i,ar,ts,f,L,rest,Ls,ha,hf,hr=>by
  rw[runN,Fc];by_cases hi:i<N
  ·rw[if_pos hi,if_pos hi];have h1:=Si (c:=c) (N:=N) (rd:=rd) (i:=i) ha hf hr;revert h1;cases dv c N rd i L Ls with
   |error e=>
    cases wB c N rd i ar f rest with
    |error e' => exact λh=>h
    |ok q=>exact λh=>h.elim
   | ok p=>
    obtain⟨j,L',Ls'⟩:=p;cases wB c N rd i ar f rest with
    |error e' => exact λh=>h.elim
    |ok q=>
     obtain⟨j',ar',f',r'⟩:=q;rintro⟨rfl,l,a1,f1,r1⟩;exact IK n j ar' _ f' L' r' Ls' a1 f1 r1
  ·rw[if_neg hi,if_neg hi];exact⟨ts,ha,hf,hr⟩
end
theorem ME{a m n:Int}(ha:0<=a)(h:Hm m n):0<=eG a m n:=by
 unfold Hm at h;unfold eG;split
 ·omega
 ·split
  ·omega
  ·split
   ·have:0<=m*a:=Int.mul_nonneg (by omega) ha;omega
   ·split
    ·omega
    ·split
     ·have:0<=n*(a+2):=Int.mul_nonneg (by omega) (by omega);omega
     ·have h1:0<=m*a:=Int.mul_nonneg (by omega) ha;have h2:0<=(n-m)*(a+2+1):=Int.mul_nonneg (by omega) (by omega);omega
theorem aao{ts:List RT}{d:Nd}{t:RT}(h:NM ts d t):XU (ts.map λt=>(t.sz:Int)) d=(t.sz:Int):=by
 have at' : ∀ (x:Int) (a:RT),ts[x.toNat]?=some a->(ts.map λt=>(t.sz:Int)).getD x.toNat 0=(a.sz:Int):=λx a hx=>by
  rw[List.getD_eq_getElem?_getD,List.getElem?_map,hx];rfl
 have cap:∀ v:Nat,(if (2001:Int)<(v:Int) then (2001:Int) else (v:Int))=((bR v:Nat):Int):=λv=>by unfold bR;split<;>omega
 cases h with
 |eps h0 _=>
  have hv:Fs (ts.map λt=>(t.sz:Int)) d=((1:Nat):Int):=by rw[Fs,if_pos (.inl h0)];rfl
  rw[XU,hv,cap];rfl
 |cls h0=>
  have hv:Fs (ts.map λt=>(t.sz:Int)) d=((1:Nat):Int):=by rw[Fs,if_pos (.inr h0)];rfl
  rw[XU,hv,cap];rfl
 |cat a b h0 h1 h2 h3 h4=>
  have hv:Fs (ts.map λt=>(t.sz:Int)) d=((1+a.sz+b.sz:Nat):Int):=by rw[Fs,if_neg (by omega),if_neg (by omega),at' _ _ h2,at' _ _ h4];omega
  rw[XU,hv,cap];rfl
 |alt a b h0 h1 h2 h3 h4=>
  have hv:Fs (ts.map λt=>(t.sz:Int)) d=((1+a.sz+b.sz:Nat):Int):=by rw[Fs,if_neg (by omega),if_neg (by omega),at' _ _ h2,at' _ _ h4];omega
  rw[XU,hv,cap];rfl
 |and a b h0 h1 h2 h3 h4=>
  have hv:Fs (ts.map λt=>(t.sz:Int)) d=((1+a.sz+b.sz:Nat):Int):=by rw[Fs,if_neg (by omega),if_neg (by omega),at' _ _ h2,at' _ _ h4];omega
  rw[XU,hv,cap];rfl
 |minus a b h0 h1 h2 h3 h4=>
  have hv:Fs (ts.map λt=>(t.sz:Int)) d=((1+a.sz+b.sz:Nat):Int):=by rw[Fs,if_neg (by omega),if_neg (by omega),at' _ _ h2,at' _ _ h4];omega
  rw[XU,hv,cap];rfl
 |rep a h0 h1 h2 h3=>
  have hn:=ME (a:=(a.sz:Int)) (by omega) h3;obtain⟨v,hv⟩:=Int.eq_ofNat_of_zero_le hn;have hz:Fs (ts.map λt=>(t.sz:Int)) d=((v:Nat):Int):=by rw[Fs,if_neg (by omega),if_pos h0,at' _ _ h2,hv]
  rw[XU,hz,cap];show _=((bR (eG a.sz d.m d.n).toNat:Nat):Int);rw[hv];rfl
theorem abG{ar:List Nd}{ts:List RT}(h:AR ar ts):szL ar=ts.map λt=>(t.sz:Int):=by
 induction h with
 |nil=>rfl
 |snoc ha hn ih=>
  unfold szL at ih ⊢;rw[List.foldl_append,ih];simp[aao hn]
theorem zd{c:Int->Int}{N:Int}{rd:Int->Except (Int×Int) (BitVec 256×Int)}(hN:0<=N):match nD c N rd,rk c N rd with
  |.error e,.error e' => e=e'
  |.ok t,.ok (ar,x)=>∃ ts,AR ar ts/\0<=x/\ts[x.toNat]?=some t
  |_,_=>False:=by
 unfold nD rk;by_cases hb:1048576<N
 ·rw[if_pos hb,if_pos hb]
 ·rw [if_neg hb,if_neg hb];have hm:∀ o:Int,o=-1->OD [] o none:=λo h=>by show o<0;omega
  have h1:=IK (c:=c) (N:=N) (rd:=rd) (N.toNat+1) 0 [] [] (Eu (-1)) (gi (-1)) [] [] .nil ⟨rfl,hm _ rfl,hm _ rfl,rfl,hm _ rfl,hm _ rfl⟩ trivial;have e:run c N rd 0 (gi (-1)) []=runN c N rd (N.toNat+1) 0 (gi (-1)) []:=by
   unfold run;rw[Int.sub_zero]
  rw[e];revert h1;cases runN c N rd (N.toNat+1) 0 (gi (-1)) [] with
  |error e=>
   cases Fc c N rd (N.toNat+1) 0 [] (Eu (-1)) [] with
   |error e' => exact λh=>h
   |ok q=>exact λh=>h.elim
  | ok p=>
   obtain⟨L,Ls⟩:=p;cases Fc c N rd (N.toNat+1) 0 [] (Eu (-1)) [] with
   |error e' => exact λh=>h.elim
   | ok q=>
    obtain⟨ar,f,r⟩:=q;rintro⟨ts,ha,hf,hr⟩;simp only[mV,aaa]
    match r,Ls,hr with
    |g::r,M::Ms,hr=>
     rw[if_pos (by simp),if_pos (by simp)];rw[hf.place]
    | [],[],_=>
     rw[if_neg (show ¬ ([]:List Lv)≠[] by simp),if_neg (show ¬ ([]:List Fm)≠[] by simp)];obtain⟨l,a1,f1⟩:=rP ha hf;have h2:=f1.alt;rw[show (rr L).alt=some (gH L) from rfl]at h2;have h3:(szL (gU ar f).1).getD (gU ar f).2.alt.toNat 0=((gH L).sz:Int):=by
      rw[abG a1,List.getD_eq_getElem?_getD,List.getElem?_map,h2.2];rfl
     rw[h3];by_cases hz:2000<(gH L).sz
     ·rw[if_pos hz,if_pos (by omega)]
     ·rw[if_neg hz,if_neg (by omega)];exact⟨_,a1,h2.1,h2.2⟩
end
section
open Go.RowKit Go.LE Go.Proofs.Tryz
set_option maxRecDepth 10000
section
variable (pre:List Fm)(B:List SV)(d:SV)(j:Nat)
end
def aeW(ar:List Nd):Prop:=∀ k (h:k<ar.length),(0<=ar[k].op/\ar[k].op<=7)/\(2<=ar[k].op->0<=ar[k].a/\ar[k].a<k)/\(2<=ar[k].op->ar[k].op≠7->0<=ar[k].b/\ar[k].b<k)/\(ar[k].op=7->Hm ar[k].m ar[k].n)
theorem NM.ok{ts:List RT}{d:Nd}{t:RT}(h:NM ts d t):(0<=d.op/\d.op<=7)/\(2<=d.op->0<=d.a/\d.a<ts.length)/\(2<=d.op->d.op≠7->0<=d.b/\d.b<ts.length)/\(d.op=7->Hm d.m d.n):=by
 have lt:∀ {x:Int} {a:RT},0<=x->ts[x.toNat]?=some a->x<ts.length:=λ{x a} h0 h=>by
  have:=(List.getElem?_eq_some_iff.1 h).1;omega
 cases h with
 |eps h0 _=>exact⟨oM,λh=>by omega,λh=>by omega,λh=>by omega⟩
 |cls h0=>exact⟨oM,λh=>by omega,λh=>by omega,λh=>by omega⟩
 |cat a b h0 h1 h2 h3 h4=>exact⟨oM,λh=>⟨h1,lt h1 h2⟩,λh _=>⟨h3,lt h3 h4⟩,λh=>by omega⟩
 |alt a b h0 h1 h2 h3 h4=>exact⟨oM,λh=>⟨h1,lt h1 h2⟩,λh _=>⟨h3,lt h3 h4⟩,λh=>by omega⟩
 |and a b h0 h1 h2 h3 h4=>exact⟨oM,λh=>⟨h1,lt h1 h2⟩,λh _=>⟨h3,lt h3 h4⟩,λh=>by omega⟩
 |minus a b h0 h1 h2 h3 h4=>exact⟨oM,λh=>⟨h1,lt h1 h2⟩,λh _=>⟨h3,lt h3 h4⟩,λh=>by omega⟩
 |rep a h0 h1 h2 h3=>exact⟨oM,λh=>⟨h1,lt h1 h2⟩,λh h' => absurd h0 h',λ_=>h3⟩
theorem AR.ok{ar:List Nd}{ts:List RT}(h:AR ar ts):aeW ar:=by
 induction h with
 |nil=>intro k hk;cases hk
 | @snoc ar ts d t ha hn ih=>
  intro k hk;by_cases hlt:k<ar.length
  ·rw[List.getElem_append_left hlt];exact ih k hlt
  ·have hk' : k=ar.length:=by simp at hk;omega
   subst hk';have:=hn.ok;rw[ha.len]at this;rw[List.getElem_append_right (Nat.le_refl _)];simpa using this
theorem QR:∀ (l:List Nd) (k j:Nat) (hk:k<l.length),j<261->(LW l)[k*261+j]?=l[k].lY[j]?
 |d::r,0,j,_,hj=>by
  show (d.lY++LW r)[0*261+j]?=_;rw[List.getElem?_append_left (by rw[Nd.pW];omega)];simp
 |d::r,k+1,j,hk,hj=>by
  show (d.lY++LW r)[(k+1)*261+j]?=_;rw[List.getElem?_append_right (by rw[Nd.pW];omega),Nd.pW,show (k+1)*261+j-261=k*261+j by omega];have:=QR r k j (by simpa using hk) hj;simpa using this
theorem Nd.ab6(d:Nd):d.lY[0]?=some (.int .i64 d.op):=rfl
theorem Nd.qa(d:Nd)(j:Nat):d.lY[257+j]?=[Value.int .i64 d.a,.int .i64 d.b,.int .i64 d.m,.int .i64 d.n][j]?:=by
 have e:d.lY=(Value.int .i64 d.op::blF d.set.getLsbD)++[.int .i64 d.a,.int .i64 d.b,.int .i64 d.m,.int .i64 d.n]:=rfl;rw[e,List.getElem?_append_right (by rw[List.length_cons,AL];omega),List.length_cons,AL,show 257+j-(256+1)=j by omega]
theorem kt.nd{w:World}{ao:Option Addr}{l:List Nd}(h:kt w ao (LW l)){k:Nat}(hk:k<l.length):∃ b o,ao=some ⟨b,o,none⟩ /\
  w.cell? ⟨b,o+k*261,none⟩=some (.int .i64 l[k].op)/\w.cell? ⟨b,o+k*261+257,none⟩=some (.int .i64 l[k].a)/\w.cell? ⟨b,o+k*261+258,none⟩=some (.int .i64 l[k].b) /\
  w.cell? ⟨b,o+k*261+259,none⟩=some (.int .i64 l[k].m)/\w.cell? ⟨b,o+k*261+260,none⟩=some (.int .i64 l[k].n):=by
 have hl:=Wb l;rcases h with h|⟨b,o,rfl,hc⟩
 ·rw[h]at hl;simp at hl;omega
 ·have key:∀ j (hj:j<261) (v:Value),l[k].lY[j]?=some v->w.cell? ⟨b,o+k*261+j,none⟩=some v:=λj hj v hv=>by
   have hlt:k*261+j<(LW l).length:=oM;have h1:=hc (k*261+j) hlt;have h2:=QR l k j hk hj;rw[List.getElem?_eq_getElem hlt,hv]at h2;rw[<- Nat.add_assoc]at h1;rw[h1,h2]
  exact⟨b,o,rfl,key 0 oM _ (Nd.ab6 _),key 257 oM _ (Nd.qa _ 0),key 258 oM _ (Nd.qa _ 1),key 259 oM _ (Nd.qa _ 2),key 260 oM _ (Nd.qa _ 3)⟩
def dL:Rx->Nat
 |.eps=>1
 |.cls _=>1
 |.cat a b=>dL a+dL b+1
 |.alt a b=>dL a+dL b+1
 |.star a=>dL a+1
 |.and a b=>dL a+dL b+1
 |.minus a b=>dL a+dL b+1
def I7(n:Nat):Rx->List Nd
 |.eps=>[lQ 0 0 0]
 |.cls S=>[⟨1,S,0,0,0,0⟩]
 |.cat a b=>I7 n a++(I7 (n+dL a) b++[lQ 2 ((n+dL a-1:Nat):Int) ((n+dL a+dL b-1:Nat):Int)])
 |.alt a b=>I7 n a++(I7 (n+dL a) b++[lQ 3 ((n+dL a-1:Nat):Int) ((n+dL a+dL b-1:Nat):Int)])
 |.star a=>I7 n a++[lQ 4 ((n+dL a-1:Nat):Int) 0]
 |.and a b=>I7 n a++(I7 (n+dL a) b++[lQ 5 ((n+dL a-1:Nat):Int) ((n+dL a+dL b-1:Nat):Int)])
 |.minus a b=>I7 n a++(I7 (n+dL a) b++[lQ 6 ((n+dL a-1:Nat):Int) ((n+dL a+dL b-1:Nat):Int)])
abbrev aev (ar:List Nd)(ao:Option Addr)(c:Nat)(f:FuncId)(v:Value)(t:Rx):Prop:=
 ∀ (l:List Nd) (r:Int) (u:Value) (fp:List Nat) (w:World),l.length+dL t<=4000000->bJ w u fp 64 [.row 243 261 l.length (LW l),.val (.int .i64 r)]->(∀ b∈fp,b<w.heap.size)->iK w (Out fp) ao (LW ar) ->
  Calls prog f #[.slice ao ar.length c,v,u] w λe w' => iQ w u fp 64 e w' (.ret (.int .i64 ((l.length+dL t-1:Nat):Int)) [.row 243 261 (l.length+dL t) (LW l++LW (I7 l.length t)),.val (.int .i64 r)])
section
variable (ar:List Nd)(ao:Option Addr)(c:Nat)(f:FuncId)(hen:∀ args w,(callFunc f args).run prog w=.ok (.enter f args) w)(dom:Value->Prop)(tv:Value->Rx)(h:∀ v,dom v->aev ar ao c f v (tv v))
end
def below(n:Nat)(v:Value):Prop:=∃ x:Int,v=.int .i64 x/\0<=x/\x<n
section
variable (ar:List Nd)(ts:List RT)(ao:Option Addr)(c n:Nat)
end
section
variable (ar:List Nd)(ts:List RT)(ao:Option Addr)(c n:Nat)
end
theorem AR.nm{ar:List Nd}{ts:List RT}(h:AR ar ts):∀ k (hk:k<ar.length),∃ t,ts[k]?=some t/\NM (ts.take k) ar[k] t:=by
 induction h with
 |nil=>intro k hk;cases hk
 | @snoc ar ts d t ha hn ih=>
  intro k hk;by_cases hlt:k<ar.length
  ·obtain⟨t',h1,h2⟩:=ih k hlt;have hl:=ha.len;refine⟨t',by rw[List.getElem?_append_left oM];exact h1,?_⟩;rw[List.getElem_append_left hlt,List.take_append_of_le_length oM];exact h2
  ·have hk' : k=ar.length:=by simp at hk;omega
   subst hk';have hl:=ha.len;refine⟨t,by rw[<- hl];simp,?_⟩;have e:(ts++[t]).take ar.length=ts:=by rw[<- hl,List.take_left]
   rw[List.getElem_append_right (Nat.le_refl _),e];simpa using hn
theorem qP{w:World}{b:Nat}:∀ (vs:List Value) (o:Nat),(∀ j (h:j<vs.length),w.cell? ⟨b,o+j,none⟩=some vs[j])->bm w b o vs.length=List.map SV.v vs/\cA w b o vs.length
 |[],_,_=>⟨rfl,trivial⟩
 | v::r,o,h=>by
  have h0:=h 0 sI;have hr:=qP r (o+1) λj hj=>by
   have:=h (j+1) (by simpa using hj);rw[show o+(j+1)=o+1+j by omega]at this;simpa using this
  rw[Nat.add_zero]at h0;simp only[List.getElem_cons_zero]at h0;rw[List.length_cons];exact⟨by rw[bm,h0,hr.1];rfl,by rw[cA,h0];exact⟨rfl,hr.2⟩⟩
theorem NM.leaf{ts:List RT}{d:Nd}{t:RT}(h:NM ts d t)(h2:d.op<2):(∀ m,I7 m t.expand=[⟨d.op,d.set,0,0,0,0⟩])/\dL t.expand=1:=by
 cases h with
 |eps h0 h1=>exact⟨λm=>by rw[h0,h1];rfl,rfl⟩
 |cls h0=>exact⟨λm=>by rw[h0];rfl,rfl⟩
 |cat a b h0|alt a b h0|and a b h0|minus a b h0|rep a h0=>omega
theorem NM.two{ts:List RT}{d:Nd}{t:RT}(h:NM ts d t)(h2:2<=d.op)(h7:d.op≠7):∃ a b,ts[d.a.toNat]?=some a/\ts[d.b.toNat]?=some b/\dL t.expand=dL a.expand+dL b.expand+1 /\
  ∀ m,I7 m t.expand=I7 m a.expand++(I7 (m+dL a.expand) b.expand++[lQ d.op ((m+dL a.expand-1:Nat):Int) ((m+dL a.expand+dL b.expand-1:Nat):Int)]):=by
 cases h with
 |eps h0|cls h0=>omega
 |cat a b h0 _ h1 _ h2=>exact⟨a,b,h1,h2,rfl,λm=>by rw[h0];rfl⟩
 |alt a b h0 _ h1 _ h2=>exact⟨a,b,h1,h2,rfl,λm=>by rw[h0];rfl⟩
 |and a b h0 _ h1 _ h2=>exact⟨a,b,h1,h2,rfl,λm=>by rw[h0];rfl⟩
 |minus a b h0 _ h1 _ h2=>exact⟨a,b,h1,h2,rfl,λm=>by rw[h0];rfl⟩
 |rep a h0=>exact absurd h0 h7
section
variable (ar:List Nd)(ts:List RT)(ao:Option Addr)(c n:Nat)(d:Nd)
end
end
section
def kq(r:RL):Prop:=r.1=bR (dL r.2)
theorem kq.leaf{t:Rx}(h:dL t=1):kq (bw t):=by
 show 1=bR (dL t);rw[h];rfl
theorem kq.join{mk:Rx->Rx->Rx}(hm:∀ x y,dL (mk x y)=dL x+dL y+1){a b:RL}(ha:kq a)(hb:kq b):kq (aM mk a b):=by
 show bR (1+a.1+b.1)=bR (dL (mk a.2 b.2));rw[hm,ha,hb,G0,HW]
 congr 1
 omega
theorem kq.star{a:RL}(ha:kq a):kq (eF a):=by
 show bR (1+a.1)=bR (dL a.2+1);rw[ha];unfold bR;omega
theorem kq.maybe{a:RL}(ha:kq a):kq (bj a):=kq.join (λ_ _=>rfl) ha (kq.leaf rfl)
theorem kq.iter{f:RL->RL}(hf:∀ x,kq x->kq (f x)):∀ (k:Nat) {x:RL},kq x->kq (ba f k x)
 |0,_,h=>h
 |k+1,_,h=>kq.iter hf k (hf _ h)
theorem kq.times{a:RL}(ha:kq a)(m n:Int):kq (cq a m n):=by
 have h1:kq (if m=0 then bj a else a):=by split;exact ha.maybe;exact ha
 have h2:kq (ba (λx=>aM .cat x a) (m-1).toNat (if m=0 then bj a else a)):=kq.iter (λx hx=>kq.join (λ_ _=>rfl) hx ha) _ h1;unfold cq;split
 ·exact ha.star
 ·split
  ·exact kq.leaf rfl
  ·split
   ·exact kq.join (λ_ _=>rfl) h2 ha.star
   ·exact kq.iter (λx hx=>kq.join (λ_ _=>rfl) hx ha.maybe) _ h2
theorem RT.sQ(t:RT):t.sz<=2001:=by
 cases t with
 |eps=>decide
 |cls S=>show 1<=2001;decide
 |cat a b=>exact je _
 |alt a b=>exact je _
 |and a b=>exact je _
 |minus a b=>exact je _
 |rep a m n=>exact je _
theorem NM.size{ts:List RT}{d:Nd}{t:RT}(h:NM ts d t)(hts:∀ s∈ts,kq s.val):kq t.val:=by
 have at' : ∀ {x:Nat} {a:RT},ts[x]?=some a->kq a.val:=λh=>hts _ (List.mem_of_getElem? h)
 cases h with
 |eps h0 h1=>exact kq.leaf rfl
 |cls h0=>exact kq.leaf rfl
 |cat a b _ _ h1 _ h2=>exact kq.join (mk:=.cat) (λ_ _=>rfl) (at' h1) (at' h2)
 |alt a b _ _ h1 _ h2=>exact kq.join (mk:=.alt) (λ_ _=>rfl) (at' h1) (at' h2)
 |and a b _ _ h1 _ h2=>exact kq.join (mk:=.and) (λ_ _=>rfl) (at' h1) (at' h2)
 |minus a b _ _ h1 _ h2=>exact kq.join (mk:=.minus) (λ_ _=>rfl) (at' h1) (at' h2)
 | rep a _ _ h1 h2=>
  rcases h2 with ⟨e1,e2⟩|⟨g0,_,_,g1⟩
  ·rw[e1,e2,<- wI];exact kq.join (λ_ _=>rfl) (at' h1) (at' h1).star
  ·rw[<- rB a d.m d.n g0 g1 a.sQ];exact (at' h1).times _ _
theorem AR.size{ar:List Nd}{ts:List RT}(h:AR ar ts):∀ t∈ts,kq t.val:=by
 induction h with
 |nil=>intro t ht;cases ht
 | snoc ha hn ih=>
  intro s hs;rcases List.mem_append.1 hs with hs|hs
  ·exact ih s hs
  ·rw[List.mem_singleton.1 hs];exact hn.size ih
theorem AR.small{ar:List Nd}{ts:List RT}(h:AR ar ts){t:RT}(ht:t∈ts)(hs:t.sz<=2000):dL t.expand<=2000:=by
 have:=h.size t ht;have e:t.sz=bR (dL t.expand):=this;unfold bR at e;omega
end
section
open Go.RowKit Go.LE Go.Proofs.Tryz
set_option maxRecDepth 10000
def hxD(n:Int):UInt8:=if n<10 then (48+n).toNat.toUInt8 else (87+n).toNat.toUInt8
def ow(b:Int)(barred:Bool):ByteArray:=
 if b=10 then ⟨#[92,110]⟩ else if b=13 then ⟨#[92,114]⟩ else if b=9 then ⟨#[92,116]⟩
 else if b<32\/126<b then ⟨#[92,120,hxD (b / 16),hxD (b % 16)]⟩
 else if barred=true then ⟨#[92,b.toNat.toUInt8]⟩ else ⟨#[b.toNat.toUInt8]⟩
theorem nF(b:Int)(q:Bool):(ow b q).size<=4:=by
 unfold ow
 repeat' split
 all_goals (show Array.size _<=4;simp)
def pP(S:CS):Nat->Nat
 |0=>0
 |n+1=>pP S n+if S.getLsbD n=true then 1 else 0
def pV(S:CS):Nat:=pP S 256
theorem Kw(S:CS)(n:Nat):pP S n<=n:=by
 induction n with
 |zero=>exact Nat.le_refl _
 |succ n ih=>
  unfold pP;split<;>omega
def B9(S:CS):Nat->Nat->Nat
 |0,b=>b
 |k+1,b=>if S.getLsbD b=true then b else B9 S k (b+1)
def tt(S:CS):Nat:=B9 S 256 0
theorem BV(S:CS):∀ k b,b<=B9 S k b/\B9 S k b<=b+k
 |0,b=>⟨Nat.le_refl _,Nat.le_refl _⟩
 | k+1,b=>by
  unfold B9;split
  ·omega
  ·have:=BV S k (b+1);omega
theorem Xs(S:CS)(b:Nat)(hb:b<256)(h1:∀ j<b,S.getLsbD j=false)(h2:S.getLsbD b=true):tt S=b:=by
 have key:∀ k j,j+k=256->j<=b->B9 S k j=b:=by
  intro k
  induction k with
  |zero=>intro j hj hjb;omega
  | succ k ih=>
   intro j hj hjb;unfold B9;by_cases e:j=b
   ·subst e;rw[if_pos h2]
   ·rw[if_neg (by rw[h1 j oM];simp)];exact ih (j+1) oM oM
 exact key 256 0 rfl (Nat.zero_le _)
theorem Mb(S:CS)(n:Nat)(h:∀ j<n,S.getLsbD j=false):pP S n=0:=by
 induction n with
 |zero=>rfl
 |succ n ih=>
  unfold pP;rw[ih λj hj=>h j oM,h n oM];rfl
def iU(T:CS):Nat->Nat->Nat
 |0,b=>b
 |k+1,b=>if T.getLsbD (b+1)=true then iU T k (b+1) else b
def ku(T:CS)(b:Nat):Nat:=iU T (255-b) b
theorem MA(T:CS)(b:Nat)(hb:b<255)(h:T.getLsbD (b+1)=true):ku T b=ku T (b+1):=by
 unfold ku;rw[show 255-b=(255-(b+1))+1 by omega,iU,if_pos h]
theorem LV(T:CS)(b:Nat)(h:b<255->T.getLsbD (b+1)=false):ku T b=b:=by
 unfold ku;by_cases hb:b<255
 ·rw[show 255-b=(255-(b+1))+1 by omega,iU,if_neg (by rw[h hb];simp)]
 ·rw[show 255-b=0 by omega,iU]
theorem Kj(T:CS)(b:Nat)(hb:b<256):b<=ku T b/\ku T b<256:=by
 have key:∀ k j,b<=j->j+k<=255->b<=iU T k j/\iU T k j<256:=by
  intro k
  induction k with
  |zero=>intro j h1 h2;exact⟨h1,by rw[iU];omega⟩
  |succ k ih=>
   intro j h1 h2;unfold iU;split
   ·exact ih (j+1) oM oM
   ·omega
 exact key (255-b) b (Nat.le_refl _) oM
theorem YN(T:CS)(b j:Nat)(hb:b<256)(h0:T.getLsbD b=true)(h1:b<=j)(h2:j<=ku T b):T.getLsbD j=true:=by
 have key:∀ k i,T.getLsbD i=true->i<=j->j<=iU T k i->T.getLsbD j=true:=by
  intro k
  induction k with
  |zero=>
   intro i hi h1 h2;rw[iU]at h2;have:i=j:=oM;rw[<- this];exact hi
  | succ k ih=>
   intro i hi h1 h2;unfold iU at h2;by_cases e:i=j
   ·rw[<- e];exact hi
   ·split at h2
    ·rename_i hn;exact ih (i+1) hn oM h2
    ·omega
 exact key _ b h0 h1 h2
theorem Oh(T:CS)(b:Nat)(hb:b<256)(h:ku T b<255):T.getLsbD (ku T b+1)=false:=by
 have key:∀ k i,i+k=255->iU T k i<255->T.getLsbD (iU T k i+1)=false:=by
  intro k
  induction k with
  |zero=>intro i h1 h2;rw[iU]at h2;omega
  | succ k ih=>
   intro i h1 h2;unfold iU at h2 ⊢;split at h2
   ·rename_i hn;rw[if_pos hn];exact ih (i+1) oM h2
   ·rename_i hn;rw[if_neg hn];simpa using hn
 exact key (255-b) b oM h
def oE:ByteArray:=⟨#[45]⟩
def EG(out:ByteArray)(b e:Nat):ByteArray:=
 if b<e then (if b+1<e then out++ow b (oX sn b)++oE else out++ow b (oX sn b))++ow e (oX sn e) else out++ow b (oX sn b)
theorem KX(out:ByteArray)(b e:Nat):(EG out b e).size<=out.size+9:=by
 have h1:=nF b (oX sn b);have h2:=nF e (oX sn e);have h3:oE.size=1:=rfl;unfold EG
 repeat' split
 all_goals simp only[ByteArray.size_append];omega
def ZS(T:CS)(b:Nat):Bool:=T.getLsbD b&&(b == 0||!T.getLsbD (b-1))
def dw(T:CS)(pre:ByteArray):Nat->ByteArray
 |0=>pre
 |b+1=>if ZS T b=true then EG (dw T pre b) b (ku T b) else dw T pre b
theorem lu(T:CS)(pre:ByteArray)(b:Nat):(dw T pre b).size<=pre.size+9*b:=by
 induction b with
 |zero=>simp[dw]
 | succ b ih=>
  unfold dw;split
  ·have:=KX (dw T pre b) b (ku T b);omega
  ·omega
theorem F7(T:CS)(pre:ByteArray)(b:Nat)(hb:b<256)(h0:T.getLsbD b=true):∀ j,b<j->j<=ku T b+1->dw T pre j=dw T pre (b+1):=by
 intro j
 induction j with
 |zero=>intro h;omega
 | succ j ih=>
  intro h1 h2;by_cases e:j=b
  ·rw[e]
  ·have hs:ZS T j=false:=by
    have g1:=YN T b (j-1) hb h0 oM oM;unfold ZS;rw[g1];have:(j == 0)=false:=by simp;omega
    rw[this];simp
   rw[dw,if_neg (by rw[hs];simp)];exact ih oM oM
def C5:ByteArray:=⟨#[91]⟩
def D7:ByteArray:=⟨#[91,94]⟩
def P8:ByteArray:=⟨#[93]⟩
def kb(S:CS):ByteArray:=
 if pV S=1 then ow (tt S) (oX T6 (tt S))
 else (if 128<pV S then dw (~~~S) D7 256 else dw S C5 256)++P8
theorem Hl(S:CS):(kb S).size<=2400:=by
 have h0:D7.size=2:=rfl;have h1:C5.size=1:=rfl;have h2:P8.size=1:=rfl;unfold kb;split
 ·have:=nF (tt S) (oX T6 (tt S));omega
 ·rw[ByteArray.size_append];split
  ·have:=lu (~~~S) D7 256;omega
  ·have:=lu S C5 256;omega
def ui:Rx->Int
 |.eps=>4
 |.cls _=>4
 |.cat _ _=>2
 |.alt _ _=>0
 |.star _=>3
 |.and _ _=>1
 |.minus _ _=>1
def lpB:ByteArray:=⟨#[40]⟩
def rpB:ByteArray:=⟨#[41]⟩
def aeD:ByteArray:=⟨#[40,41]⟩
def acz:ByteArray:=⟨#[124]⟩
def aed:ByteArray:=⟨#[38]⟩
def Zt:ByteArray:=⟨#[42]⟩
def ni(r need:Int)(s:ByteArray):ByteArray:=if r<need then lpB++s++rpB else s
def cc:Rx->ByteArray
 |.eps=>aeD
 |.cls S=>kb S
 |.cat a b=>ni (ui a) 2 (cc a)++ni (ui b) 3 (cc b)
 |.alt a b=>ni (ui a) 0 (cc a)++acz++ni (ui b) 1 (cc b)
 |.star a=>ni (ui a) 3 (cc a)++Zt
 |.and a b=>ni (ui a) 1 (cc a)++aed++ni (ui b) 2 (cc b)
 |.minus a b=>ni (ui a) 1 (cc a)++oE++ni (ui b) 2 (cc b)
def NZ(t:Rx)(need:Int):ByteArray:=ni (ui t) need (cc t)
theorem dT(r need:Int)(s:ByteArray):(ni r need s).size<=s.size+2:=by
 have h1:lpB.size=1:=rfl;have h2:rpB.size=1:=rfl;unfold ni;split
 ·rw[ByteArray.size_append,ByteArray.size_append];omega
 ·omega
theorem cJ:∀ t:Rx,(cc t).size<=2400*dL t
 |.eps=>by show 2<=2400*1;omega
 |.cls S=>by
  have:=Hl S;show (kb S).size<=2400*1;omega
 |.cat a b=>by
  have h1:=cJ a;have h2:=cJ b;have h3:=dT (ui a) 2 (cc a);have h4:=dT (ui b) 3 (cc b);have h5:dL (.cat a b)=dL a+dL b+1:=rfl;unfold cc;rw[ByteArray.size_append];omega
 |.alt a b=>by
  have h1:=cJ a;have h2:=cJ b;have h3:=dT (ui a) 0 (cc a);have h4:=dT (ui b) 1 (cc b);have h5:dL (.alt a b)=dL a+dL b+1:=rfl;have h6:acz.size=1:=rfl;unfold cc;rw[ByteArray.size_append,ByteArray.size_append];omega
 |.star a=>by
  have h1:=cJ a;have h3:=dT (ui a) 3 (cc a);have h5:dL (.star a)=dL a+1:=rfl;have h6:Zt.size=1:=rfl;unfold cc;rw[ByteArray.size_append];omega
 |.and a b=>by
  have h1:=cJ a;have h2:=cJ b;have h3:=dT (ui a) 1 (cc a);have h4:=dT (ui b) 2 (cc b);have h5:dL (.and a b)=dL a+dL b+1:=rfl;have h6:aed.size=1:=rfl;unfold cc;rw[ByteArray.size_append,ByteArray.size_append];omega
 |.minus a b=>by
  have h1:=cJ a;have h2:=cJ b;have h3:=dT (ui a) 1 (cc a);have h4:=dT (ui b) 2 (cc b);have h5:dL (.minus a b)=dL a+dL b+1:=rfl;have h6:oE.size=1:=rfl;unfold cc;rw[ByteArray.size_append,ByteArray.size_append];omega
theorem nB(k a b c d:Nat)(hc:c<2 ^ k)(hd:d<2 ^ k):(2 ^ k*a+c) &&& (2 ^ k*b+d)=2 ^ k*(a &&& b)+(c &&& d):=by
 have he:(c &&& d)<2 ^ k:=Nat.lt_of_le_of_lt Nat.and_le_left hc;apply Nat.eq_of_testBit_eq;intro j;rw[Nat.testBit_and,Nat.testBit_two_pow_mul_add a hc,Nat.testBit_two_pow_mul_add b hd,Nat.testBit_two_pow_mul_add _ he];by_cases h:j<k
 ·rw[if_pos h,if_pos h,if_pos h,Nat.testBit_and]
 ·rw[if_neg h,if_neg h,if_neg h,Nat.testBit_and]
def M0:Nat->Nat
 |0=>0
 |n+1=>4*M0 n+1
def f0(n x:Nat):Nat:=((x / 2) &&& M0 n)+(x &&& M0 n)
theorem Yy(x:Nat):f0 0 x=0:=by simp[f0,M0]
theorem ud(n q d:Nat)(hd:d<4):f0 (n+1) (4*q+d)=4*f0 n q+(d / 2+d % 2):=by
 have h1:(4*q+d) / 2=2 ^ 2*(q / 2)+(2*(q % 2)+d / 2):=oM;have h2:=nB 2 (q / 2) (M0 n) (2*(q % 2)+d / 2) 1 oM oM;have h3:=nB 2 q (M0 n) d 1 oM oM;have h4:(2*(q % 2)+d / 2) &&& 1=d / 2:=by rw[Nat.and_one_is_mod];omega
 have h5:d &&& 1=d % 2:=Nat.and_one_is_mod d;rw[h4]at h2;rw[h5]at h3;unfold f0;rw[h1,M0];rw[show 4*M0 n+1=2 ^ 2*M0 n+1 by omega,show 4*q+d=2 ^ 2*q+d by omega,h2,h3];omega
theorem Xh(n q b:Nat)(hb:b<256):f0 (n+4) (256*q+b)=256*f0 n q+f0 4 b:=by
 have key:∀ m r,f0 (m+4) (256*r+b)=256*f0 m r+(64*(b / 64 / 2+b / 64 % 2)+(16*(b / 16 % 4 / 2+b / 16 % 4 % 2)+(4*(b / 4 % 4 / 2+b / 4 % 4 % 2)+(b % 4 / 2+b % 4 % 2)))):=λm r=>by
  rw[show 256*r+b=4*(4*(4*(4*r+b / 64)+b / 16 % 4)+b / 4 % 4)+b % 4 by omega];rw[ud _ _ _ oM,ud _ _ _ oM,ud _ _ _ oM,ud _ _ _ oM];omega
 have h0:=key 0 0;rw[Yy]at h0;rw[key,show f0 4 b=f0 (0+4) (256*0+b) by rw[Nat.mul_zero,Nat.zero_add,Nat.zero_add],h0];omega
def M1:Nat->Nat
 |0=>0
 |n+1=>16*M1 n+3
def f1(n x:Nat):Nat:=((x / 4) &&& M1 n)+(x &&& M1 n)
theorem IP(x:Nat):f1 0 x=0:=by simp[f1,M1]
theorem ac7(x:Nat):x &&& 3=x % 4:=Nat.and_two_pow_sub_one_eq_mod x 2
theorem adu(x:Nat):x &&& 15=x % 16:=Nat.and_two_pow_sub_one_eq_mod x 4
theorem Ji(n q d:Nat)(hd:d<16):f1 (n+1) (16*q+d)=16*f1 n q+(d / 4+d % 4):=by
 have h1:(16*q+d) / 4=2 ^ 4*(q / 4)+(4*(q % 4)+d / 4):=oM;have h2:=nB 4 (q / 4) (M1 n) (4*(q % 4)+d / 4) 3 oM oM;have h3:=nB 4 q (M1 n) d 3 oM oM;have h4:(4*(q % 4)+d / 4) &&& 3=d / 4:=by rw[ac7];omega
 rw[h4]at h2;rw[ac7]at h3;unfold f1;rw[h1,M1];rw[show 16*M1 n+3=2 ^ 4*M1 n+3 by omega,show 16*q+d=2 ^ 4*q+d by omega,h2,h3];omega
theorem Vp(n q b:Nat)(hb:b<256):f1 (n+2) (256*q+b)=256*f1 n q+f1 2 b:=by
 have key:∀ m r,f1 (m+2) (256*r+b)=256*f1 m r+(16*(b / 16 / 4+b / 16 % 4)+(b % 16 / 4+b % 16 % 4)):=λm r=>by
  rw[show 256*r+b=16*(16*r+b / 16)+b % 16 by omega];rw[Ji _ _ _ oM,Ji _ _ _ oM];omega
 have h0:=key 0 0;rw[IP]at h0;rw[key,show f1 2 b=f1 (0+2) (256*0+b) by rw[Nat.mul_zero,Nat.zero_add,Nat.zero_add],h0];omega
def M2:Nat->Nat
 |0=>0
 |n+1=>256*M2 n+15
def f2(n x:Nat):Nat:=(x / 16+x) &&& M2 n
theorem XK(x:Nat):f2 0 x=0:=by simp[f2,M2]
theorem XF(n q d:Nat)(hd:d % 16<=4/\d / 16<=4)(hq:q % 16<=4):f2 (n+1) (256*q+d)=256*f2 n q+(d / 16+d % 16):=by
 have h1:(256*q+d) / 16+(256*q+d)=2 ^ 8*(q / 16+q)+(16*(q % 16)+d / 16+d):=oM;have h2:=nB 8 (q / 16+q) (M2 n) (16*(q % 16)+d / 16+d) 15 oM oM;have h4:(16*(q % 16)+d / 16+d) &&& 15=d / 16+d % 16:=by rw[adu];omega
 rw[h4]at h2;unfold f2;rw[h1,M2];rw[show 256*M2 n+15=2 ^ 8*M2 n+15 by omega,h2]
def dQ(x:Nat):Nat->Nat
 |0=>0
 |k+1=>dQ x k+if x.testBit k=true then 1 else 0
theorem DU(q b:Nat)(hb:b<256):∀ k,k<=8->dQ (256*q+b) k=dQ b k
 |0,_=>rfl
 |k+1,h=>by
  have h8:=Nat.testBit_two_pow_mul_add (i:=8) q (b:=b) hb k;rw[if_pos (show k<8 by omega),show 2 ^ 8*q+b=256*q+b by omega]at h8;rw[dQ,dQ,DU q b hb k oM,h8]
theorem Af(q b:Nat)(hb:b<256):∀ k,dQ (256*q+b) (8+k)=dQ b 8+dQ q k
 |0=>DU q b hb 8 (Nat.le_refl _)
 |k+1=>by
  have h8:=Nat.testBit_two_pow_mul_add (i:=8) q (b:=b) hb (8+k);rw[if_neg (show ¬ 8+k<8 by omega),show 2 ^ 8*q+b=256*q+b by omega,show 8+k-8=k by omega]at h8;have ih:=Af q b hb k;have e1:dQ (256*q+b) (8+(k+1))=dQ (256*q+b) (8+k)+if (256*q+b).testBit (8+k)=true then 1 else 0:=rfl
  have e2:dQ q (k+1)=dQ q k+if q.testBit k=true then 1 else 0:=rfl;rw[e1,e2,ih,h8];omega
theorem vI:∀ b:Fin 256,f0 4 b.val<256/\f1 2 (f0 4 b.val)<256/\f1 2 (f0 4 b.val) % 16<=4/\f1 2 (f0 4 b.val) / 16<=4/\f1 2 (f0 4 b.val) / 16+f1 2 (f0 4 b.val) % 16=dQ b.val 8/\dQ b.val 8<=8:=by decide +kernel
theorem GI(n q b:Nat)(hb:b<256)(hq:f1 (n*2) (f0 (n*4) q) % 16<=4) :
  f2 (n+1) (f1 ((n+1)*2) (f0 ((n+1)*4) (256*q+b)))=256*f2 n (f1 (n*2) (f0 (n*4) q))+dQ b 8/\f1 ((n+1)*2) (f0 ((n+1)*4) (256*q+b)) % 16<=4:=by
 obtain⟨h1,h2,h3,h4,h5,h6⟩:=vI ⟨b,hb⟩;simp only at h1 h2 h3 h4 h5 h6;rw[show (n+1)*4=n*4+4 by omega,show (n+1)*2=n*2+2 by omega,Xh _ _ _ hb,Vp _ _ _ h1];refine⟨?_,oM⟩;rw[XF _ _ _ ⟨h3,h4⟩ hq,h5]
def En:Nat->Nat->Nat
 |0,_=>0
 |n+1,x=>256*En n (x / 256)+dQ (x % 256) 8
theorem zL:∀ n x,f2 n (f1 (n*2) (f0 (n*4) x))=En n x/\f1 (n*2) (f0 (n*4) x) % 16<=4
 |0,x=>by
  show f2 0 (f1 0 (f0 0 x))=En 0 x/\f1 0 (f0 0 x) % 16<=4;rw[XK,IP];exact⟨rfl,oM⟩
 |n+1,x=>by
  have ih:=zL n (x / 256);have h:=GI n (x / 256) (x % 256) oM ih.2;rw[show 256*(x / 256)+x % 256=x by omega,ih.1]at h;exact h
theorem Iq(x:Nat):dQ x 64=dQ (x % 256) 8+(dQ (x / 256 % 256) 8+(dQ (x / 256 / 256 % 256) 8+(dQ (x / 256 / 256 / 256 % 256) 8+(dQ (x / 256 / 256 / 256 / 256 % 256) 8+(dQ (x / 256 / 256 / 256 / 256 / 256 % 256) 8+(dQ (x / 256 / 256 / 256 / 256 / 256 / 256 % 256) 8+dQ (x / 256 / 256 / 256 / 256 / 256 / 256 / 256 % 256) 8)))))):=by
 have step:∀ k y,dQ y (8+k)=dQ (y % 256) 8+dQ (y / 256) k:=λk y=>by
  have h:=Af (y / 256) (y % 256) oM k;rw[show 256*(y / 256)+y % 256=y by omega]at h;exact h
 rw[show 64=8+(8+(8+(8+(8+(8+(8+(8+0))))))) from rfl];rw[step,step,step,step,step,step,step,step];rfl
theorem ka(x:Nat):dQ (x % 256) 8<=8:=(vI ⟨x % 256,oM⟩).2.2.2.2.2
theorem GJ(x:Nat):∃ c0 c1 c2 c3 c4 c5 c6 c7:Nat,(c0<=8/\c1<=8/\c2<=8/\c3<=8/\c4<=8/\c5<=8/\c6<=8/\c7<=8) /\
  En 8 x=256*(256*(256*(256*(256*(256*(256*(256*0+c7)+c6)+c5)+c4)+c3)+c2)+c1)+c0/\dQ x 64=c0+(c1+(c2+(c3+(c4+(c5+(c6+c7)))))):=
 ⟨_,_,_,_,_,_,_,_,⟨ka _,ka _,ka _,ka _,ka _,ka _,ka _,ka _⟩,rfl,Iq x⟩
theorem QQ(x:Nat):∃ y,y=En 8 x/\y+y / 256<2 ^ 64/\(y+y / 256)+(y+y / 256) / 65536<2 ^ 64/\(y+y / 256)+(y+y / 256) / 65536+((y+y / 256)+(y+y / 256) / 65536) / 4294967296<2 ^ 63 /\
  ((y+y / 256)+(y+y / 256) / 65536+((y+y / 256)+(y+y / 256) / 65536) / 4294967296) % 128=dQ x 64:=by
 obtain⟨c0,c1,c2,c3,c4,c5,c6,c7,hc,h1,h2⟩:=GJ x;refine⟨En 8 x,rfl,?_⟩;rw[h2];have h3:En 8 x=c0+256*c1+65536*c2+16777216*c3+4294967296*c4+1099511627776*c5+281474976710656*c6+72057594037927936*c7:=by rw[h1];omega
 generalize En 8 x=y at *;have h4:y / 256=c1+256*c2+65536*c3+16777216*c4+4294967296*c5+1099511627776*c6+281474976710656*c7:=oM;obtain⟨d0,e0⟩:∃ d,d=c0+c1:=⟨_,rfl⟩;obtain⟨d1,e1⟩:∃ d,d=c1+c2:=⟨_,rfl⟩;obtain⟨d2,e2⟩:∃ d,d=c2+c3:=⟨_,rfl⟩;obtain⟨d3,e3⟩:∃ d,d=c3+c4:=⟨_,rfl⟩
 obtain⟨d4,e4⟩:∃ d,d=c4+c5:=⟨_,rfl⟩;obtain⟨d5,e5⟩:∃ d,d=c5+c6:=⟨_,rfl⟩;obtain⟨d6,e6⟩:∃ d,d=c6+c7:=⟨_,rfl⟩;have h5:y+y / 256=d0+256*d1+65536*d2+16777216*d3+4294967296*d4+1099511627776*d5+281474976710656*d6+72057594037927936*c7:=oM;have hs:c0+(c1+(c2+(c3+(c4+(c5+(c6+c7))))))=d0+d2+d4+d6:=oM
 have hd:d0<=16/\d1<=16/\d2<=16/\d3<=16/\d4<=16/\d5<=16/\d6<=16/\c7<=16:=oM;rw[hs];clear h1 h2 h3 h4 hs hc e0 e1 e2 e3 e4 e5 e6;generalize y+y / 256=z at *;have h6:z / 65536=d2+256*d3+65536*d4+16777216*d5+4294967296*d6+1099511627776*c7:=oM;obtain⟨g0,k0⟩:∃ d,d=d0+d2:=⟨_,rfl⟩
 obtain⟨g1,k1⟩:∃ d,d=d1+d3:=⟨_,rfl⟩;obtain⟨g2,k2⟩:∃ d,d=d2+d4:=⟨_,rfl⟩;obtain⟨g3,k3⟩:∃ d,d=d3+d5:=⟨_,rfl⟩;obtain⟨g4,k4⟩:∃ d,d=d4+d6:=⟨_,rfl⟩;obtain⟨g5,k5⟩:∃ d,d=d5+c7:=⟨_,rfl⟩
 have h7:z+z / 65536=g0+256*g1+65536*g2+16777216*g3+4294967296*g4+1099511627776*g5+281474976710656*d6+72057594037927936*c7:=oM;have hz:z<2 ^ 64:=oM;have hs2:d0+d2+d4+d6=g0+g4:=oM;have hg:g0<=32/\g1<=32/\g2<=32/\g3<=32/\g4<=32/\g5<=32/\d6<=16/\c7<=16:=oM;rw[hs2];clear h5 h6 hs2 hd k0 k1 k2 k3 k4 k5
 generalize z+z / 65536=u at *;have h8:u / 4294967296=g4+256*g5+65536*d6+16777216*c7:=oM;refine⟨hz,oM,oM,?_⟩;omega
theorem EZ(S:CS)(j:Nat):∀ k,k<=64->pP S (64*j+k)=pP S (64*j)+dQ (wd S j).toNat k
 |0,_=>rfl
 | k+1,h=>by
  have e:(wd S j).toNat.testBit k=S.getLsbD (64*j+k):=by
   rw[wd,Int.toNat_natCast];show (S.extractLsb' (64*j) 64).getLsbD k=_;rw[BitVec.getLsbD_extractLsb'];simp;omega
  rw[show 64*j+(k+1)=(64*j+k)+1 by omega,pP,dQ,EZ S j k oM,e];omega
theorem adN(S:CS)(j:Nat):(wd S j).toNat<2 ^ 64:=by
 rw[wd,Int.toNat_natCast];exact (S.extractLsb' (64*j) 64).isLt
theorem pT(s:ByteArray):jO ((byteCells s).map SV.v)=some (s.data.toList.map λc=>(c.toNat:Int)):=by
 have h:(byteCells s).map SV.v=(s.data.toList.map λc=>(c.toNat:Int)).map λn=>SV.v (.int .u8 n):=by simp[byteCells]
 rw[h,mv]
theorem u7(s:ByteArray):b6 (s.data.toList.map λc=>(c.toNat:Int))=s:=by
 rcases s with ⟨⟨l⟩⟩;unfold b6;rw[List.map_map];have h:(λn:Int=>UInt8.ofNat n.toNat) ∘ (λc:UInt8=>(c.toNat:Int))=id:=by
  funext c
  show UInt8.ofNat ((c.toNat:Int).toNat)=c;rw[Int.toNat_natCast,UInt8.ofNat_toNat]
 rw[h,List.map_id]
theorem zu(s:ByteArray):((byteCells s).map SV.v).all cp=true:=by
 rw[List.all_eq_true];intro x hx;obtain⟨v,hv,rfl⟩:=List.mem_map.1 hx;obtain⟨c,_,rfl⟩:=List.mem_map.1 hv;rfl
theorem rf(s:ByteArray)(l:List Int)(h:∀ c∈l,0<=c/\c<256):(byteCells s).map SV.v++l.map (λc=>SV.v (.int .u8 c))=(byteCells (s++b6 l)).map SV.v:=by
 unfold byteCells b6;rw[ByteArray.data_append,Array.toList_append,List.map_append,List.map_append]
 congr 1
 simp only[List.map_map];refine List.map_congr_left λc hc=>?_
 obtain⟨h0,h1⟩:=h c hc;simp only[Function.comp,UInt8.toNat_ofNat'];rw[Nat.mod_eq_of_lt oM]
 congr 2
 omega
theorem pc(s t:ByteArray):(byteCells s).map SV.v++(byteCells t).map SV.v=(byteCells (s++t)).map SV.v:=by
 unfold byteCells;rw[ByteArray.data_append,Array.toList_append,List.map_append,List.map_append]
theorem LF:∀ b:Fin 256,(0<=((b.val:Nat):Int).fdiv 16/\((b.val:Nat):Int).fdiv 16<16)/\(0<=bI .and .u8 ((b.val:Nat):Int) 15/\bI .and .u8 ((b.val:Nat):Int) 15<16) /\
  ((b.val:Nat):Int).fdiv 16=((b.val:Nat):Int) / 16/\bI .and .u8 ((b.val:Nat):Int) 15=((b.val:Nat):Int) % 16:=by decide +kernel
theorem pt(s:ByteArray):(s.data.toList.map λc=>(c.toNat:Int)).length=s.size:=by rw[List.length_map];rfl
theorem b8(l:List Int):(b6 l).size=l.length:=by simp[b6,ByteArray.size]
def ot:ByteArray:=⟨#[48,49,50,51,52,53,54,55,56,57,97,98,99,100,101,102]⟩
def cF(c:Int):List Int:=
 if c=34\/c=92 then [92,c] else if 32<=c/\c<=126 then [c] else if c=10 then [92,110] else if c=13 then [92,114] else if c=9 then [92,116] else [92,120,bt ot (c / 16),bt ot (c % 16)]
def bB(s:ByteArray):Nat->ByteArray
 |0=>b6 [34]
 |k+1=>bB s k++b6 (cF (bt s k))
def cE(s:ByteArray):ByteArray:=bB s s.size++b6 [34]
theorem Qc(c:Int):(cF c).length<=4:=by
 unfold cF
 repeat' split
 all_goals simp
theorem nV(s:ByteArray):∀ k,(bB s k).size<=1+4*k
 |0=>by show (b6 [34]).size<=_;rw[b8];simp
 |k+1=>by
  show (bB s k++b6 (cF (bt s k))).size<=_;rw[ByteArray.size_append,b8];have:=nV s k;have:=Qc (bt s k);omega
theorem zW(s:ByteArray):(cE s).size<=2+4*s.size:=by
 show (bB s s.size++b6 [34]).size<=_;rw[ByteArray.size_append,b8];have:=nV s s.size;simp only[List.length_cons,List.length_nil];omega
theorem pQ(s:ByteArray)(i:Int):0<=bt s i/\bt s i<256:=by
 unfold bt;have:=(s.data[i.toNat]?.getD 0).toNat_lt;omega
def eT:=(ak @List.replicate_succ.{0} @List.replicate_zero.{0} @aq @ae QW Py OU (ak ty5 ty6 ty7 ty8 lA dI dK (ak dJ dG dr dt du dq mJ (ak mh mG mT mf fq fu ft (ak fh ff fm PC Ry Ty SD (NT @a6 @aw @aD @aE @pT @u7 @zu))))))
theorem zY(s:ByteArray)(hs:s.size<=16777216)(w:World):Calls prog 38 #[.string s] w λe w' => e=.returned (.string (cE s))/\af w [] w' := by
 refine av (nt:=66) [.tmp 2] func38 rfl rfl rfl ?_;refine vR Γ0 eT ?_;refine vR Γ0 eT ?_;refine Wp.seq ?_;refine vR Γ0 eT ?_;refine Wp.block ?_
 refine Wp.loop (λk:Nat=>⟨20,cL [(0,.is (.v (.string s))),(3,.is (.hd 8)),(8,.is (.v (.int .i64 s.size))),(9,.is (.v (.int .i64 (k:Nat))))],cf [(8,.row 5 1 (bB s k).size ((byteCells (bB s k)).map .v))]⟩) (λk=>k<=s.size) (λk=>s.size-k) 0 ?_ (Nat.zero_le _) ?_
 ·exact wM (λk=>.key k) eT
 rintro k hk;refine vR Γ0 eT ?_;refine Wp.seq ?_;refine wC eT (λhc=>?_) (λhc=>?_)
 ·have hlt:k<s.size:=by
   simp at hc;omega
  obtain⟨c0,c1⟩:=pQ s k;have hq:=nV s k;have ha:=λl hl=>rf (bB s k) l hl
  have hb:bB s (k+1)=bB s k++b6 (cF (bt s k)):=rfl;have wk:IntKind.i64.wrap ((k:Int)+1)=((k+1:Nat):Int):=wW;refine wK ?_
  refine dB ⟨20,cL [(0,.is (.v (.string s))),(8,.is (.v (.int .i64 s.size))),(9,.is (.v (.int .i64 (k:Nat)))),(3,.is (.hd 8))],cf [(8,.row 5 1 (bB s (k+1)).size ((byteCells (bB s (k+1))).map .v))]⟩ ?_ ?_
  ·refine Wp.block ?_;refine vR Γ0 eT ?_;refine wR Γ0 eT ?_ ?_
   ·first|omega|exact⟨oM,oM⟩
   refine Wp.block ?_;refine vR Γ0 eT ?_;refine wC eT (λhc=>?_) (λhc=>?_)
   ·have hv:bt s k=34\/bt s k=92:=by simpa using hc
    have e0:cF (bt s k)=[92,bt s k]:=by rw[cF,if_pos hv]
    rw[e0]at hb;have e1:=ha _ (λc (hc:c∈[92,bt s k])=>by simp at hc;omega);rw[<- hb]at e1;simp only[List.map_cons,List.map_nil]at e1;have e2:(bB s (k+1)).size=(bB s k).size+2:=by rw[hb,ByteArray.size_append,b8];rfl
    refine wr Γ0 eT ?_ ?_
    ·exact by unfold maxLen;omega
    exact wM (λk=>if k=8 then .key 296 else .key k) (dx eT e1 e2)
   have n0:¬ (bt s k=34\/bt s k=92):=by simpa using hc
   refine vR Γ0 eT ?_;refine wC eT (λhc=>?_) (λhc=>?_)
   ·have hv:32<=bt s k/\bt s k<=126:=by simpa using hc
    have e0:cF (bt s k)=[bt s k]:=by rw[cF,if_neg n0,if_pos hv]
    rw[e0]at hb;have e1:=ha _ (λc (hc:c∈[bt s k])=>by simp at hc;omega);rw[<- hb]at e1;simp only[List.map_cons,List.map_nil]at e1;have e2:(bB s (k+1)).size=(bB s k).size+1:=by rw[hb,ByteArray.size_append,b8];rfl
    refine wr Γ0 eT ?_ ?_
    ·exact by unfold maxLen;omega
    exact wM (λk=>if k=8 then .key 352 else .key k) (dx eT e1 e2)
   have n1:¬ (32<=bt s k/\bt s k<=126):=by simpa using hc
   refine vR Γ0 eT ?_;refine wC eT (λhc=>?_) (λhc=>?_)
   ·have hv:bt s k=10:=by simpa using hc
    have e0:cF (bt s k)=[92,110]:=by rw[cF,if_neg n0,if_neg n1,if_pos hv]
    rw[e0]at hb;have e1:=pc (bB s k) (b6 [92,110]);rw[<- hb]at e1;have e2:(bB s (k+1)).size=(bB s k).size+2:=by rw[hb,ByteArray.size_append,b8];rfl
    have e3:(⟨#[92,110]⟩:ByteArray)=b6 [92,110]:=rfl;have e4:(b6 [92,110]).size=2:=rfl;refine wr Γ0 (dx eT e3 e4) ?_ ?_
    ·unfold maxLen;omega
    exact wM (λk=>if k=8 then .key 360 else .key k) (dx eT e1 e2)
   have n2:¬ bt s k=10:=by simpa using hc
   refine vR Γ0 eT ?_;refine wC eT (λhc=>?_) (λhc=>?_)
   ·have hv:bt s k=13:=by simpa using hc
    have e0:cF (bt s k)=[92,114]:=by rw[cF,if_neg n0,if_neg n1,if_neg n2,if_pos hv]
    rw[e0]at hb;have e1:=pc (bB s k) (b6 [92,114]);rw[<- hb]at e1;have e2:(bB s (k+1)).size=(bB s k).size+2:=by rw[hb,ByteArray.size_append,b8];rfl
    have e3:(⟨#[92,114]⟩:ByteArray)=b6 [92,114]:=rfl;have e4:(b6 [92,114]).size=2:=rfl;refine wr Γ0 (dx eT e3 e4) ?_ ?_
    ·unfold maxLen;omega
    exact wM (λk=>if k=8 then .key 384 else .key k) (dx eT e1 e2)
   have n3:¬ bt s k=13:=by simpa using hc
   refine vR Γ0 eT ?_;refine wC eT (λhc=>?_) (λhc=>?_)
   ·have hv:bt s k=9:=by simpa using hc
    have e0:cF (bt s k)=[92,116]:=by rw[cF,if_neg n0,if_neg n1,if_neg n2,if_neg n3,if_pos hv]
    rw[e0]at hb;have e1:=pc (bB s k) (b6 [92,116]);rw[<- hb]at e1;have e2:(bB s (k+1)).size=(bB s k).size+2:=by rw[hb,ByteArray.size_append,b8];rfl
    have e3:(⟨#[92,116]⟩:ByteArray)=b6 [92,116]:=rfl;have e4:(b6 [92,116]).size=2:=rfl;refine wr Γ0 (dx eT e3 e4) ?_ ?_
    ·unfold maxLen;omega
    exact wM (λk=>if k=8 then .key 408 else .key k) (dx eT e1 e2)
   have n4:¬ bt s k=9:=by simpa using hc
   have e0:cF (bt s k)=[92,120,bt ot (bt s k / 16),bt ot (bt s k % 16)]:=by rw[cF,if_neg n0,if_neg n1,if_neg n2,if_neg n3,if_neg n4]
   obtain⟨x,hx⟩:=Int.eq_ofNat_of_zero_le c0;have x1:x<256:=oM;obtain⟨f1,f2,f3,f4⟩:=LF ⟨x,x1⟩;simp only at f1 f2 f3 f4;rw[hx]at e0;rw[hx,e0]at hb;have b1:=pQ ot ((x:Int) / 16);have b2:=pQ ot ((x:Int) % 16)
   have e1:=ha _ (λc (hc:c∈[92,120,bt ot ((x:Int) / 16),bt ot ((x:Int) % 16)])=>by simp at hc;omega);rw[<- hb]at e1;simp only[List.map_cons,List.map_nil]at e1;have e2:(bB s (k+1)).size=(bB s k).size+4:=by rw[hb,ByteArray.size_append,b8];rfl
   have hxe:(⟨#[48,49,50,51,52,53,54,55,56,57,97,98,99,100,101,102]⟩:ByteArray)=ot:=rfl;refine Ft Γ0 (ym eT hx f3 f4 hxe) ?_ ?_
   ·rw[f3]at f1;rw[f4]at f2;exact⟨f1,f2,by unfold maxLen;omega,oM⟩
   exact wM (λk=>if k=8 then .key 464 else .key k) (NT eT hx f3 f4 hxe e1 e2)
  refine wr Γ0 (aa eT wk) ?_ ?_
  ·first|trivial|omega
  refine⟨k+1,hlt,oM,?_⟩;exact wM (λk=>.key k) eT
 ·have hk' : k=s.size:=by
   simp at hc;omega
  subst hk';have ha:=rf (bB s s.size) [34] (λc hc=>by simp at hc;omega);simp only[List.map_cons,List.map_nil]at ha;have hq:=nV s s.size;have e2:(cE s).size=(bB s s.size).size+1:=by rw[cE,ByteArray.size_append,b8];rfl
  refine wE ?_;refine wR Γ0 (aa eT ha) ?_ ?_
  ·exact⟨⟨by unfold maxLen;omega,oM⟩,by rw[pt,<- cE,e2]⟩
  refine wZ eT ?_;exact λE=>rfl
theorem Nr(s:ByteArray)(hs:s.size<=1048576)(w:World):Calls prog 38 #[.string s] w λe w' => e=.returned (.string (cE s))/\af w [] w' := zY s oM w
theorem bad_eq:R.bad=⟨False,.v undef,[],none,[],[]⟩:=rfl
theorem Yj(out:ByteArray)(b e:Nat):EG out b e=if b<e then (if b+1<e then out++ow b (oX sn b)++oE else out++ow b (oX sn b))++ow e (oX sn e) else (if b+1<e then out++ow b (oX sn b)++oE else out++ow b (oX sn b)):=by
 unfold EG;split
 ·rfl
 ·rw[if_neg oM]
theorem OH(a b:Nat)(ha:a<2 ^ 64)(hb:b<2 ^ 64):bI .and .u64 (a:Int) (b:Int)=((a &&& b:Nat):Int):=by
 have h:=QV (BitVec.ofNat 64 a) (BitVec.ofNat 64 b);rw[BitVec.toNat_and,BitVec.toNat_ofNat,BitVec.toNat_ofNat,Nat.mod_eq_of_lt ha,Nat.mod_eq_of_lt hb]at h;exact h
theorem BC(a:Nat)(ha:a<2 ^ 64):IntKind.u64.wrap (a:Int)=(a:Int):=by
 have h:=qo (BitVec.ofNat 64 a);rw[BitVec.toNat_ofNat,Nat.mod_eq_of_lt ha]at h;exact h
theorem J1(a n:Nat):(a:Int).fdiv (n:Int)=((a / n:Nat):Int):=by
 rw[Int.fdiv_eq_ediv_of_nonneg _ (Int.natCast_nonneg _)];rfl
theorem Vz(x:Nat)(hx:x<2 ^ 64):IntKind.u64.wrap (bI .and .u64 ((x:Int).fdiv 2) 6148914691236517205+bI .and .u64 (x:Int) 6148914691236517205)=((f0 32 x:Nat):Int)/\f0 32 x<2 ^ 64:=by
 have hm:M0 32=6148914691236517205:=by decide
 have h1:=Nat.and_le_right (n:=x / 2) (m:=6148914691236517205);have h2:=Nat.and_le_right (n:=x) (m:=6148914691236517205);have hf:f0 32 x=(x / 2 &&& 6148914691236517205)+(x &&& 6148914691236517205):=by rw[f0,hm]
 have hl:f0 32 x<2 ^ 64:=oM;refine⟨?_,hl⟩;have e1:(x:Int).fdiv 2=((x / 2:Nat):Int):=J1 x 2;have e2:=OH (x / 2) 6148914691236517205 oM oM;have e3:=OH x 6148914691236517205 oM oM;rw[e1,show (6148914691236517205:Int)=((6148914691236517205:Nat):Int) from rfl,e2,e3,<- Int.natCast_add,<- hf,BC _ hl]
theorem VA(x:Nat)(hx:x<2 ^ 64):IntKind.u64.wrap (bI .and .u64 ((x:Int).fdiv 4) 3689348814741910323+bI .and .u64 (x:Int) 3689348814741910323)=((f1 16 x:Nat):Int)/\f1 16 x<=7378697629483820646:=by
 have hm:M1 16=3689348814741910323:=by decide
 have h1:=Nat.and_le_right (n:=x / 4) (m:=3689348814741910323);have h2:=Nat.and_le_right (n:=x) (m:=3689348814741910323);have hf:f1 16 x=(x / 4 &&& 3689348814741910323)+(x &&& 3689348814741910323):=by rw[f1,hm]
 have hl:f1 16 x<=7378697629483820646:=oM;refine⟨?_,hl⟩;have e1:(x:Int).fdiv 4=((x / 4:Nat):Int):=J1 x 4;have e2:=OH (x / 4) 3689348814741910323 oM oM;have e3:=OH x 3689348814741910323 oM oM
 rw[e1,show (3689348814741910323:Int)=((3689348814741910323:Nat):Int) from rfl,e2,e3,<- Int.natCast_add,<- hf,BC _ oM]
theorem Um(x:Nat)(hx:x<=7378697629483820646):bI .and .u64 (IntKind.u64.wrap ((x:Int).fdiv 16+(x:Int))) 1085102592571150095=((f2 8 x:Nat):Int):=by
 have hm:M2 8=1085102592571150095:=by decide
 have e1:(x:Int).fdiv 16=((x / 16:Nat):Int):=J1 x 16;rw[e1,<- Int.natCast_add,BC _ oM,show (1085102592571150095:Int)=((1085102592571150095:Nat):Int) from rfl,OH _ _ oM oM,f2,hm]
theorem Bn(x n:Nat)(h:x+x / n<2 ^ 64):IntKind.u64.wrap ((x:Int)+(x:Int).fdiv (n:Int))=((x+x / n:Nat):Int):=by
 rw[J1,<- Int.natCast_add,BC _ h]
theorem YF(x:Nat)(hx:x<2 ^ 63):bI .and .i64 (IntKind.i64.wrap (x:Int)) 127=((x % 128:Nat):Int):=by
 rw[aH oM oM];show IntKind.i64.wrap (((BitVec.ofInt 64 (x:Int) &&& BitVec.ofInt 64 127:BitVec 64).toNat:Nat):Int)=_;have h1:(BitVec.ofInt 64 (x:Int)).toNat=x:=by
  rw[BitVec.toNat_ofInt];omega
 have h2:(BitVec.ofInt 64 127).toNat=127:=rfl;have h3:x &&& 127=x % 128:=Nat.and_two_pow_sub_one_eq_mod x 7;rw[BitVec.toNat_and,h1,h2,h3,aH oM oM]
def yw:=(ak @List.replicate_succ.{0} @List.replicate_zero.{0} @aq @ae lP lM lA (ak dI dK dJ dG dr dt du (ak dq mJ mh mG mT mf ov (ak oQ oN oP sD sX sE sH (iS @a6 @aw @aD @aE)))))
theorem O6(x:Nat)(hx:x<2 ^ 64)(w:World):Calls prog 253 #[.int .u64 (x:Nat)] w λe w' => e=.returned (.int .i64 (dQ x 64:Nat))/\af w [] w' := by
 obtain⟨r1,l1⟩:=Vz x hx;obtain⟨r2,l2⟩:=VA (f0 32 x) l1;have r3:=Um _ l2;have hst:=(zL 8 x).1;obtain⟨y,hy,b1,b2,b3,hp⟩:=QQ x;have r4:=Bn y 256 b1;have r5:=Bn _ 65536 b2;have r6:=Bn (y+y / 256+(y+y / 256) / 65536) 4294967296 oM;have r7:=YF _ b3
 have r3' : bI .and .u64 (IntKind.u64.wrap (((f1 16 (f0 32 x):Nat):Int).fdiv 16+((f1 16 (f0 32 x):Nat):Int))) 1085102592571150095=((y:Nat):Int):=by rw[r3,hy,<- hst]
 rw[<- hp];refine av (nt:=35) [.tmp 2] func253 rfl rfl rfl ?_;refine vR Γ0 yw ?_;refine vR Γ0 (aa yw r1) ?_;refine vR Γ0 (aa yw r2) ?_;refine vR Γ0 (aa yw r3') ?_;refine vR Γ0 yw ?_;refine vR Γ0 yw ?_;refine vR Γ0 yw ?_;refine vR Γ0 yw ?_;refine wZ yw ?_;intro E;show Value.int IntKind.i64 _=_
 congr 1
 refine Eq.trans ?_ r7
 congr 2
 refine Eq.trans ?_ r6;have e5:IntKind.u64.wrap (((y+y / 256:Nat):Int)+((y+y / 256:Nat):Int).fdiv 65536)=((y+y / 256+(y+y / 256) / 65536:Nat):Int):=r5;have e4:IntKind.u64.wrap ((y:Int)+(y:Int).fdiv 256)=((y+y / 256:Nat):Int):=r4;rw[e4,e5];rfl
def JU:bu prog 253 where
 pre:=λW bs=>λ| [.val (.int .u64 x)]=>0<=x/\x<18446744073709551616|_=>False
 res:=λW=>λ| [.val (.int .u64 x)]=>.int .i64 (dQ x.toNat 64:Nat)|_=>undef
 enters:=call253
 ok:=by
  intro W w bs us as_ hk hu hp;split at hp
  ·rename_i x
   match us,hu with
   |[u0],hu=>
    obtain⟨rfl,_⟩:=hu;have:=O6 x.toNat oM w;rw[Int.toNat_of_nonneg hp.1]at this;exact this
  ·exact hp.elim
theorem NF(W:World)(x:Int):JU.res W [.val (.int .u64 x)]=.int .i64 (dQ x.toNat 64:Nat):=rfl
theorem Lr(W:World)(bs:List Nat)(x:Int):JU.pre W bs [.val (.int .u64 x)]=(0<=x/\x<18446744073709551616):=rfl
noncomputable def Xq:Env prog:=⟨λ| 253=>some JU.spec|_=>none,λ| _=>none,λ_ _=>none⟩
theorem X5:Xq.sp 253=some JU.spec:=rfl
attribute [local simp] aA
def sa:=(ak yw NF Lr X5 @ie @kB @kM (aa @jh @nN))
theorem HQ(S:CS)(w:World):Calls prog 221 #[bO S] w λe w' => e=.returned (.int .i64 (pV S:Nat))/\af w [] w' := by
 refine av (nt:=16) [.tmp 2] func221 rfl rfl rfl ?_;refine vR Xq (aa sa @dD) ?_;refine vR Xq sa ?_;refine Wp.seq ?_;refine vR Xq sa ?_;refine Wp.block ?_
 refine Wp.loop (λk:Nat=>⟨20,cL [(3,.is (.v (.int .i64 (pP S (64*k):Nat)))),(6,.is (.agg ((jU S).map .v))),(7,.is (.v (.int .i64 (k:Nat))))],cf []⟩) (λk=>k<=4) (λk=>4-k) 0 ?_ (Nat.zero_le _) ?_
 ·exact wM (λk=>.key k) sa
 rintro k hk;have hle:=Kw S (64*k);have hle2:=Kw S (64*(k+1));refine vR Xq sa ?_;refine Wp.seq ?_;refine wC sa (λhc=>?_) (λhc=>?_)
 ·have hlt:k<4:=by
   simp at hc;omega
  have hw:=EZ S k 64 (Nat.le_refl _);have hx:=adN S k;have hx0:0<=wd S k:=by rw[wd];omega
  have wk:IntKind.i64.wrap ((k:Int)+1)=((k+1:Nat):Int):=wW;have e:pP S (64*(k+1))=pP S (64*k)+dQ (wd S k).toNat 64:=hw;have wc:IntKind.i64.wrap ((pP S (64*k):Int)+((dQ (wd S k).toNat 64:Nat):Int))=((pP S (64*(k+1)):Nat):Int):=by rw[aH oM oM,e];omega
  refine wK ?_;refine Wp.seq (Wp.block ?_);refine wR Xq (aa sa (fX S k hlt)) ?_ ?_
  ·omega
  refine wr Xq (aa sa wc) ?_ ?_
  ·omega
  refine vr Xq (aa sa wk) ?_;refine⟨k+1,oM,oM,?_⟩;exact wM (λk=>.key k) sa
 ·have hk' : k=4:=by
   simp at hc;omega
  subst hk';refine wE ?_;refine vR Xq sa ?_;refine wZ sa ?_;exact λE=>rfl
noncomputable def nL:bu prog 221 where
 pre:=λW bs=>λ| [.val y0]=>(match dec bO y0 with|some S=>True|_=>False)|_=>False
 res:=λW=>λ| [.val y0]=>(match dec bO y0 with|some S=>.int .i64 (pV S:Nat)|_=>undef)|_=>undef
 enters:=call221
 ok:=by
  intro W w bs us as_ hk hu hp;split at hp
  ·rename_i y0;split at hp
   ·rename_i S h0
    match us,hu with
    |[u0],hu=>
     obtain⟨rfl,_⟩:=hu;obtain rfl:=ix h0
     try dsimp only
     try simp only[cG bW]
     exact HQ S w
   ·exact hp.elim
  ·exact hp.elim
theorem sA(W:World)(S:CS):nL.res W [.val (bO S)]=.int .i64 (pV S:Nat):=by simp only[nL,cG bW]
theorem sW(W:World)(bs:List Nat)(S:CS):nL.pre W bs [.val (bO S)]=(True):=by simp only[nL,cG bW]
noncomputable def sV:bu prog 225 where
 pre:=λW bs=>λ| [.val y0,.val (.int .u8 b)]=>(match dec bO y0 with|some S=>0<=b/\b<256|_=>False)|_=>False
 res:=λW=>λ| [.val y0,.val (.int .u8 b)]=>(match dec bO y0 with|some S=>.bool (S.getLsbD b.toNat)|_=>undef)|_=>undef
 enters:=call225
 ok:=by
  intro W w bs us as_ hk hu hp;split at hp
  ·rename_i y0 b;split at hp
   ·rename_i S h0
    match us,hu with
    |[u0,u1],hu=>
     obtain⟨rfl,rfl,_⟩:=hu;obtain rfl:=ix h0
     try dsimp only
     try simp only[cG bW]
     have:=Xr S b.toNat oM w;rw[Int.toNat_of_nonneg hp.1]at this;exact this
   ·exact hp.elim
  ·exact hp.elim
theorem z8(W:World)(S:CS)(b:Int):sV.res W [.val (bO S),.val (.int .u8 b)]=.bool (S.getLsbD b.toNat):=by simp only[sV,cG bW]
theorem zP(W:World)(bs:List Nat)(S:CS)(b:Int):sV.pre W bs [.val (bO S),.val (.int .u8 b)]=(0<=b/\b<256):=by simp only[sV,cG bW]
noncomputable def Γ78:Env prog:=⟨λ| 225=>some sV.spec|_=>none,λ| _=>none,λ_ _=>none⟩
theorem W6:Γ78.sp 225=some sV.spec:=rfl
def xS:=(oR sa @sA @sW @z8 @zP W6)
theorem KN(S:CS)(hS:∃ b<256,S.getLsbD b=true)(w:World):Calls prog 222 #[bO S,.int .i64 0] w λe w' => e=.returned (.tuple #[.int .u8 (tt S:Nat),.bool true])/\af w [] w' := by
 refine av (nt:=19) [.tmp 4,.tmp 5] func222 rfl rfl rfl ?_;refine vR Γ78 (aa xS @dD) ?_;refine Wp.seq ?_;refine vR Γ78 xS ?_;refine Wp.block ?_
 refine Wp.loop (λj:Nat=>⟨20,cL [(2,.is (.own 0 0)),(6,.is (.v (.int .i64 (j:Nat))))],cf [(0,.cells 309 ((jU S).map .v))]⟩) (λj=>j<=256/\∀ k<j,S.getLsbD k=false) (λj=>256-j) 0 ?_ ⟨Nat.zero_le _,λk h=>by omega⟩ ?_
 ·exact wM (λk=>.key k) xS
 rintro j ⟨hj,hn⟩;refine Wp.seq ?_;refine vR Γ78 xS ?_;refine wC xS (λhc=>?_) (λhc=>?_)
 ·have hlt:j<256:=by
   simp at hc;omega
  have wj:IntKind.i64.wrap ((j:Int)+1)=((j+1:Nat):Int):=wW;have wu:IntKind.u8.wrap (j:Int)=(j:Int):=pq oM oM;refine wK ?_;refine Wp.seq (Wp.block ?_);refine wR Γ78 (dx xS wu @cQ) ?_ ?_
  ·omega
  refine wC xS (λhc=>?_) (λhc=>?_)
  ·rw[Xs S j hlt hn hc];refine vR Γ78 (aa xS wu) ?_;refine wZ xS ?_;exact λE=>rfl
  ·refine wK ?_;refine vr Γ78 (aa xS wj) ?_;refine⟨j+1,⟨oM,λk hk=>?_⟩,oM,?_⟩
   ·by_cases h:k=j
    ·rw[h];exact hc
    ·exact hn k oM
   ·exact wM (λk=>.key k) xS
 ·exfalso;have hj' : j=256:=by
   simp at hc;omega
  subst hj';obtain⟨b,h1,h2⟩:=hS;rw[hn b h1]at h2;cases h2
theorem R7(S:CS)(h:pV S=1):∃ b<256,S.getLsbD b=true:=by
 refine Classical.byContradiction λhn=>?_
 have:=Mb S 256 λj hj=>by
  cases hb:S.getLsbD j with
  |false=>rfl
  |true=>exact absurd ⟨j,hj,hb⟩ hn
 rw[pV]at h;omega
noncomputable def rR:bu prog 222 where
 pre:=λW bs=>λ| [.val y0,.val (.int .i64 x)]=>(match dec bO y0 with|some S=>x=0/\∃ b<256,S.getLsbD b=true|_=>False)|_=>False
 res:=λW=>λ| [.val y0,.val (.int .i64 x)]=>(match dec bO y0 with|some S=>.tuple #[.int .u8 (tt S:Nat),.bool true]|_=>undef)|_=>undef
 enters:=call222
 ok:=by
  intro W w bs us as_ hk hu hp;split at hp
  ·rename_i y0 x;split at hp
   ·rename_i S h0
    match us,hu with
    |[u0,u1],hu=>
     obtain⟨rfl,rfl,_⟩:=hu;obtain rfl:=ix h0
     try dsimp only
     try simp only[cG bW]
     obtain⟨rfl,hS⟩:=hp;exact KN S hS w
   ·exact hp.elim
  ·exact hp.elim
theorem HT(W:World)(S:CS)(x:Int):rR.res W [.val (bO S),.val (.int .i64 x)]=.tuple #[.int .u8 (tt S:Nat),.bool true]:=by simp only[rR,cG bW]
theorem GW(W:World)(bs:List Nat)(S:CS)(x:Int):rR.pre W bs [.val (bO S),.val (.int .i64 x)]=(x=0/\∃ b<256,S.getLsbD b=true):=by simp only[rR,cG bW]
def cx(n:Int):ByteArray:=⟨(Lib.itoa n).toArray⟩
theorem nf(n:Nat):cx n=⟨(Lib.decDigits n).toArray⟩:=by
 unfold cx Lib.itoa;rw[if_neg oM,Int.toNat_natCast]
theorem po:∀ (k u:Nat),u<10 ^ (k+1)->Lib.nDigits u<=k+1
 |0,u,h=>by rw[Lib.nDigits_small oM];omega
 | k+1,u,h=>by
  by_cases h1:u<10
  ·rw[Lib.nDigits_small h1];omega
  ·rw[Lib.nDigits_big h1];have:=po k (u / 10) (by rw[Nat.pow_succ]at h;omega);omega
theorem eP{n:Int}(h0:0<=n)(h1:n<=9223372036854775807):(cx n).size<=19:=by
 obtain⟨m,rfl⟩:=Int.eq_ofNat_of_zero_le h0;rw[nf];show (Lib.decDigits m).length<=19;rw[Lib.decDigits_length];exact po 18 m oM
def da(W:World)(S:Nat->Prop):Prop:=S 3/\Lib.TabIs prog W "internal/strconv.uint64pow10" .u64 Lib.pow10Tab
theorem RV:prog.globalNamed "internal/strconv.uint64pow10"=some 3:=kR
theorem da.mono{W W' : World}{S S' : Nat->Prop}(h:da W S)(hs:bV W S W' S'):da W' S' := by
 obtain⟨h0,h1⟩:=h;unfold Lib.TabIs World.var? at h1;rw[RV,Option.bind_some]at h1;have hlt:3<W.heap.size:=by
  refine Decidable.byContradiction λhn=>?_
  rw[Array.getElem?_eq_none oM]at h1;cases h1
 obtain⟨g1,g2⟩:=hs 3 hlt h0;refine⟨g2,?_⟩;unfold Lib.TabIs World.var?;rw[RV,Option.bind_some,g1];exact h1
theorem da.cP{W w:World}{bs fp:List Nat}(h:da W (Out bs))(hk:af W bs w)(hm:∀ b∈fp,W.heap.size<=b\/b∈bs):da w (Out fp):=
 h.mono λb hb hs=>⟨hk.block b hb hs,λhb' => (hm b hb').elim (λg=>absurd g (Nat.not_le.2 hb)) hs⟩
theorem YP{w:World}{S:Nat->Prop}(h:da w S):da w (Out []):=h.mono λb _ _=>⟨rfl,by simp[Out]⟩
theorem R5(n:Int)(h0:0<=n)(h1:n<=9223372036854775807)(w:World)(ht:da w (Out [])):Calls prog 39 #[.int .i64 n] w λe w' => e=.returned (.string (cx n))/\LE.af w [] w' := by
 refine (Any.strconv_Itoa Tryz.Jr n oM h1 w ht.2).mono ?_;rintro e w' ⟨rfl,k,os,rfl⟩;exact⟨rfl,LE.af.jE (Lib.below_grow _ w (Nat.le_refl _) k os)⟩
def so:bu prog 39 where
 pre:=λW bs=>λ| [.val (.int .i64 n)]=>(0<=n/\n<=9223372036854775807)/\da W (Out bs)|_=>False
 res:=λW=>λ| [.val (.int .i64 n)]=>.string (cx n)|_=>undef
 enters:=call39
 ok:=by
  intro W w bs us as_ hk hu hp;split at hp
  ·rename_i n
   match us,hu with
   |[u0],hu=>
    obtain⟨rfl,_⟩:=hu;exact R5 n hp.1.1 hp.1.2 w (hp.2.cP hk sI)
  ·exact hp.elim
theorem rD(W:World)(n:Int):so.res W [.val (.int .i64 n)]=.string (cx n):=rfl
theorem rL(W:World)(bs:List Nat)(n:Int):so.pre W bs [.val (.int .i64 n)]=((0<=n/\n<=9223372036854775807)/\da W (Out bs)):=rfl
theorem CF{u:Nat}(h:u<10):Lib.decDigits u=[UInt8.ofNat (48+u % 10)]:=by rw[Lib.decDigits_one h,Nat.mod_eq_of_lt h]
theorem Ej{u:Nat}(h:¬ u<10):Lib.decDigits u=Lib.decDigits (u / 10)++[UInt8.ofNat (48+u % 10)]:=by
 rw[Lib.decDigits,dif_neg h]
def cY(s p:ByteArray):ByteArray:=⟨(Lib.trimPrefix s.data.toList p.data.toList).toArray⟩
def l7(s p:ByteArray):Bool:=Lib.hasPrefix s.data.toList p.data.toList
def nA(s p:ByteArray):ByteArray:=⟨(Lib.trimSuffix s.data.toList p.data.toList).toArray⟩
def wL(s p:ByteArray):Bool:=Lib.hasSuffix s.data.toList p.data.toList
theorem OA(s p:ByteArray)(w:World):Calls prog 80 #[.string s,.string p] w λe w' => e=.returned (.tuple #[.string (cY s p),.bool (l7 s p)])/\LE.af w [] w' :=
 (Any.strings_CutPrefix Tryz.YR s p w).mono λe w' ⟨he,hw⟩=>⟨he,by rw[hw];exact LE.af.refl w []⟩
theorem O8(s p:ByteArray)(hs:s.size<=9223372036854775807)(w:World):Calls prog 81 #[.string s,.string p] w λe w' => e=.returned (.tuple #[.string (nA s p),.bool (wL s p)])/\LE.af w [] w' :=
 (Any.strings_CutSuffix Tryz.Yo s p w hs).mono λe w' ⟨he,hw⟩=>⟨he,by rw[hw];exact LE.af.refl w []⟩
def zK:bu prog 80 where
 pre:=λW bs=>λ| [.val (.string s),.val (.string p)]=>True|_=>False
 res:=λW=>λ| [.val (.string s),.val (.string p)]=>.tuple #[.string (cY s p),.bool (l7 s p)]|_=>undef
 enters:=call80
 ok:=by
  intro W w bs us as_ hk hu hp;split at hp
  ·rename_i s p
   match us,hu with
   |[u0,u1],hu=>
    obtain⟨rfl,rfl,_⟩:=hu;exact OA s p w
  ·exact hp.elim
theorem zC(W:World)(s p:ByteArray):zK.res W [.val (.string s),.val (.string p)]=.tuple #[.string (cY s p),.bool (l7 s p)]:=rfl
theorem zM(W:World)(bs:List Nat)(s p:ByteArray):zK.pre W bs [.val (.string s),.val (.string p)]=(True):=rfl
def IY:bu prog 81 where
 pre:=λW bs=>λ| [.val (.string s),.val (.string p)]=>s.size<=9223372036854775807|_=>False
 res:=λW=>λ| [.val (.string s),.val (.string p)]=>.tuple #[.string (nA s p),.bool (wL s p)]|_=>undef
 enters:=call81
 ok:=by
  intro W w bs us as_ hk hu hp;split at hp
  ·rename_i s p
   match us,hu with
   |[u0,u1],hu=>
    obtain⟨rfl,rfl,_⟩:=hu;exact O8 s p hp w
  ·exact hp.elim
theorem LR(W:World)(s p:ByteArray):IY.res W [.val (.string s),.val (.string p)]=.tuple #[.string (nA s p),.bool (wL s p)]:=rfl
theorem MS(W:World)(bs:List Nat)(s p:ByteArray):IY.pre W bs [.val (.string s),.val (.string p)]=(s.size<=9223372036854775807):=rfl
def eZ(W:World)(S:Nat->Prop):Prop:=(S 1/\∃ m:Int,W.cell? ⟨1,0,none⟩=some (.int .i64 m))/\(S 5/\∃ t v,W.cell? ⟨5,0,none⟩=some (.iface t v))/\S 6/\∃ t v,W.cell? ⟨6,0,none⟩=some (.iface t v)
theorem eZ.mono{W W' : World}{S S' : Nat->Prop}(h:eZ W S)(hs:bV W S W' S'):eZ W' S' := by
 obtain⟨⟨a,m,ha⟩,⟨b,t,v,hb⟩,c,t',v',hc⟩:=h;have g:∀ b o v,S b->W.cell? ⟨b,o,none⟩=some v->W'.cell? ⟨b,o,none⟩=some v/\S' b:=λb o v hS hv=>by
  have:=XC.mono (b:=b) (o:=o) (v:=v) ⟨hS,hv⟩ hs;exact⟨this.2,this.1⟩
 exact⟨⟨(g _ _ _ a ha).2,m,(g _ _ _ a ha).1⟩,⟨(g _ _ _ b hb).2,t,v,(g _ _ _ b hb).1⟩,(g _ _ _ c hc).2,t',v',(g _ _ _ c hc).1⟩
theorem eZ.cP{W w:World}{bs fp:List Nat}(h:eZ W (Out bs))(hk:LE.af W bs w)(hm:∀ b∈fp,W.heap.size<=b\/b∈bs):eZ w (Out fp):=
 h.mono λb hb hs=>⟨hk.block b hb hs,λhb' => (hm b hb').elim (λg=>absurd g (Nat.not_le.2 hb)) hs⟩
def fU(s:ByteArray):List ByteArray:=Lib.splitB ⟨#[32]⟩ 0 (Lib.countB s ⟨#[32]⟩) s
theorem mZ(s:ByteArray):(fU s).length=Lib.countB s ⟨#[32]⟩+1:=Lib.splitB_all ⟨#[32]⟩ dE 0 _ s rfl
theorem Nn(s:ByteArray)(hs:s.size<4294967281)(w:World)(hl:eZ w (Out [])):Calls prog 83 #[.string s,.string ⟨#[32]⟩] w λe w' =>
  ∃ u fp,e=.returned u/\(∀ E',aZ E' u fp w' (.row 9 1 (fU s).length ((((fU s).map Value.string)).map .v)))/\(∀ b∈fp,w.heap.size<=b/\b<w'.heap.size)/\LE.af w [] w' := by
 obtain⟨m,hm⟩:=hl.1.2;refine (Any.strings_Split Tryz.JH (by kernel_rfl) s ⟨#[32]⟩ m w hs hm dE).mono λe w' ⟨he,hw⟩=>?_
 subst hw;refine⟨_,[w.heap.size],he,λE' => ?_,λb hb=>?_,iB w _⟩
 ·have hc:=Lib.countB_le ⟨#[32]⟩ dE s.size s (Nat.le_refl _);have hn:(fU s).length<=maxLen:=by
   rw[mZ];unfold maxLen;omega
  have hd:ah E' (List.map SV.v ((fU s).map Value.string))=(fU s).map Value.string:=an _ _;refine⟨?_,rfl⟩;rw[hd,<- mZ];refine⟨sI,.inr ⟨w.heap.size,(fU s).length,((fU s).map Value.string).toArray,rfl,Nat.zero_le _,?_,Nat.le_refl _,hn,sI,by simp[List.take_of_length_le]⟩⟩;exact Array.getElem?_push_size
 ·rw[List.mem_singleton.1 hb];exact⟨Nat.le_refl _,sI⟩
def B1(s:ByteArray):Int:=match Lib.atoiAll s.data.toList with
 |.ok v=>v
 |.range=>Lib.atoiSat s.data.toList
 |_=>0
theorem LU(n:Int)(h0:-9223372036854775808<=n)(h1:n<=9223372036854775807)(w:World)(ht:da w (Out [])):Calls prog 39 #[.int .i64 n] w λe w' => e=.returned (.string (cx n))/\LE.af w [] w' := by
 refine (Any.strconv_Itoa Tryz.Jr n h0 h1 w ht.2).mono ?_;rintro e w' ⟨rfl,k,os,rfl⟩;exact⟨rfl,LE.af.jE (Lib.below_grow _ w (Nat.le_refl _) k os)⟩
theorem Wt(s:ByteArray)(hs:s.size<=9223372036854775806)(v:Int)(h:Lib.atoiAll s.data.toList=.ok v)(w:World):Calls prog 143 #[.string s] w λe w' => e=.returned (.tuple #[.int .i64 v,.nilIface])/\LE.af w [] w' := by
 refine (Any.strconv_Atoi_ok Tryz.xH s hs v h w).mono ?_;rintro e w' ⟨rfl,hw⟩;refine⟨rfl,?_⟩;rcases hw with rfl|⟨t,rfl⟩
 ·exact LE.af.refl _ _
 ·exact LE.af.jE (Lib.bytesWorld_below _ _ _)
theorem TT(s:ByteArray)(hs:s.size<=281474976710656)(h:∀ v,Lib.atoiAll s.data.toList≠.ok v)(w:World)(hl:eZ w (Out [])):Calls prog 143 #[.string s] w λe w' => (∃ N,e=.returned (.tuple #[.int .i64 (B1 s),.iface 341 (.pointer (some ⟨N,0,none⟩))]))/\LE.af w [] w' := by
 obtain⟨_,⟨_,t5,v5,h5⟩,_,t6,v6,h6⟩:=hl;cases ha:Lib.atoiAll s.data.toList with
 |ok v=>exact absurd ha (h v)
 |range=>
  refine (Any.strconv_Atoi_range Tryz.xH s hs ha _ w h6 (.inr ⟨_,_,rfl⟩)).mono ?_;rintro e w' ⟨N,rfl,_,_,hb⟩;exact⟨⟨N,by unfold B1;rw[ha];rfl⟩,LE.af.jE hb⟩
 |_=>
  refine (Any.strconv_Atoi_syntax Tryz.xH s hs ha _ w h5 (.inr ⟨_,_,rfl⟩)).mono ?_;rintro e w' ⟨N,rfl,_,_,hb⟩;exact⟨⟨N,by unfold B1;rw[ha];rfl⟩,LE.af.jE hb⟩
def fY(s:ByteArray):Bool:=decide (s.size<=9)&&match Lib.atoiAll s.data.toList with
 |.ok v=>decide (cx v=s)&&decide (0<=v)
 |_=>false
def o4(s:ByteArray):Int:=if s.size<=9 then B1 s else 0
def Bq:bu prog 39 where
 pre:=λW bs=>λ| [.val (.int .i64 n)]=>(-9223372036854775808<=n/\n<=9223372036854775807)/\da W (Out bs)|_=>False
 res:=λW=>λ| [.val (.int .i64 n)]=>.string (cx n)|_=>undef
 enters:=call39
 ok:=by
  intro W w bs us as_ hk hu hp;split at hp
  ·rename_i n
   match us,hu with
   |[u0],hu=>
    obtain⟨rfl,_⟩:=hu;exact LU n hp.1.1 hp.1.2 w (hp.2.cP hk sI)
  ·exact hp.elim
theorem HM(W:World)(n:Int):Bq.res W [.val (.int .i64 n)]=.string (cx n):=rfl
theorem H2(W:World)(bs:List Nat)(n:Int):Bq.pre W bs [.val (.int .i64 n)]=((-9223372036854775808<=n/\n<=9223372036854775807)/\da W (Out bs)):=rfl
def Bo(s:ByteArray)(v:Int)(h:Lib.atoiAll s.data.toList=.ok v)(hs:s.size<=9):bu prog 143 where
 pre:=λW bs as_=>as_=[.val (.string s)]
 res:=λ_ _=>.tuple #[.int .i64 v,.nilIface]
 enters:=call143
 ok:=by
  intro W w bs us as_ hk hu hp;subst hp
  match us,hu with
  |[x],hu=>
   obtain⟨rfl,_⟩:=hu;exact Wt s oM v h w
section
variable (s:ByteArray)(v:Int)(h:Lib.atoiAll s.data.toList=.ok v)(hs:s.size<=9)
noncomputable def M5:Env prog:=⟨λ| 39=>some Bq.spec|143=>some (Bo s v h hs).spec|_=>none,λ_=>none,λ_ _=>none⟩
theorem Un:(M5 s v h hs).sp 39=some Bq.spec:=rfl
theorem Tr:(M5 s v h hs).sp 143=some (Bo s v h hs).spec:=rfl
end
def wx:=(ak @List.replicate_succ.{0} @List.replicate_zero.{0} @aq @ae lA dI dK (ak dJ dG dr dt du dq fq (ak fu ft fh ff fm Oo PD (ak RH Q2 adE ac1 @a6 @aw @aD (oR @aE @HM @H2 @Un @Tr @Bo.eq_1)))))
theorem NQ(s:ByteArray)(v:Int)(h:Lib.atoiAll s.data.toList=.ok v)(hs:s.size<=9)(hv:-9223372036854775808<=v/\v<=9223372036854775807)(w:World)(ht:da w (Out [])):Calls prog 84 #[.string s] w λe w' => e=.returned (.tuple #[.int .i64 v,.bool (decide (cx v=s)&&decide (0<=v))])/\LE.af w [] w' := by
 refine av (nt:=27) [.tmp 2,.tmp 3] func84 rfl rfl rfl ?_;refine vR (M5 s v h hs) wx ?_;refine Wp.seq ?_;refine vR (M5 s v h hs) wx ?_;refine wC wx (λhc=>?_) (λhc=>?_)
 ·exact absurd hc (by simp;omega)
 refine wK ?_;refine vR (M5 s v h hs) wx ?_;refine vR (M5 s v h hs) wx ?_;refine wZ wx ?_;exact λE=>rfl
theorem IC(s:ByteArray)(hs:s.size<=9)(h:∀ v,Lib.atoiAll s.data.toList≠.ok v)(w:World)(hl:eZ w (Out [])):Calls prog 84 #[.string s] w λe w' => e=.returned (.tuple #[.int .i64 (B1 s),.bool false])/\LE.af w [] w' := by
 have hw:=TT s oM h w hl;have hlt:¬ (9:Int)<(s.size:Int):=oM
 go_enter func84,Tryz.ntmps84
 go_wp2_with (refine hw.mono ?_)
 rintro e w1 N rfl hk
 go_wp2
 all_goals go_returns
 all_goals trivial
theorem C6(s:ByteArray)(hs:9<s.size)(hm:s.size<=9223372036854775807)(w:World):Calls prog 84 #[.string s] w λe w' => e=.returned (.tuple #[.int .i64 0,.bool false])/\LE.af w [] w' := by
 refine av (nt:=27) [.tmp 2,.tmp 3] func84 rfl rfl rfl ?_;refine vR Γ0 wx ?_;refine Wp.seq ?_;refine vR Γ0 wx ?_;refine wC wx (λhc=>?_) (λhc=>?_)
 ·skip;refine vR Γ0 wx ?_;refine wZ wx ?_;exact λE=>rfl
 ·exact absurd hc (by simp;omega)
theorem PZ(s:ByteArray)(hm:s.size<=9223372036854775807)(w:World)(ht:da w (Out []))(hl:eZ w (Out [])):Calls prog 84 #[.string s] w λe w' => e=.returned (.tuple #[.int .i64 (o4 s),.bool (fY s)])/\LE.af w [] w' := by
 by_cases hs:s.size<=9
 ·have e1:o4 s=B1 s:=by rw[o4,if_pos hs]
  rw[e1];cases ha:Lib.atoiAll s.data.toList with
  |ok v=>
   have e2:B1 s=v:=by rw[B1,ha]
   have e3:fY s=(decide (cx v=s)&&decide (0<=v)):=by rw[fY,ha,decide_eq_true hs,Bool.true_and]
   rw[e2,e3];exact NQ s v ha hs (Lib.atoiAll_bounds ha) w ht
  |_=>
   have e3:fY s=false:=by rw[fY,ha,Bool.and_false]
   rw[e3];exact IC s hs (λv hv=>by rw[ha]at hv;cases hv) w hl
 ·have e1:o4 s=0:=by rw[o4,if_neg hs]
  have e2:fY s=false:=by rw[fY,decide_eq_false hs,Bool.false_and]
  rw[e1,e2];exact C6 s oM hm w
def zT:bu prog 84 where
 pre:=λW bs=>λ| [.val (.string s)]=>s.size<=9223372036854775807/\da W (Out bs)/\eZ W (Out bs)|_=>False
 res:=λW=>λ| [.val (.string s)]=>.tuple #[.int .i64 (o4 s),.bool (fY s)]|_=>undef
 enters:=call84
 ok:=by
  intro W w bs us as_ hk hu hp;split at hp
  ·rename_i s
   match us,hu with
   |[u0],hu=>
    obtain⟨rfl,_⟩:=hu;exact PZ s hp.1 w (hp.2.1.cP hk sI) (hp.2.2.cP hk sI)
  ·exact hp.elim
theorem zt(W:World)(s:ByteArray):zT.res W [.val (.string s)]=.tuple #[.int .i64 (o4 s),.bool (fY s)]:=rfl
theorem zV(W:World)(bs:List Nat)(s:ByteArray):zT.pre W bs [.val (.string s)]=(s.size<=9223372036854775807/\da W (Out bs)/\eZ W (Out bs)):=rfl
def gh(s h:ByteArray):Bool:=decide (h.size<=s.size)&&decide (s.extract 0 h.size=h)
def yu(s:ByteArray):ByteArray:=if s.size<5 then ⟨#[]⟩ else s.extract 5 s.size
def Wf(s:ByteArray):Nat->Int
 |0=>0
 |k+1=>10*Wf s k+(bt s k-48)
def adz(s:ByteArray)(k:Nat):Bool:=decide (48<=bt s k)&&decide (bt s k<=57)
def b9(s:ByteArray):Bool:=(decide (1<=s.size)&&decide (s.size<=9)&&!(decide (bt s 0=48)&&decide (1<s.size)))&&(List.range s.size).all (adz s)
def km(s:ByteArray):Int:=if b9 s=true then Wf s s.size else 0
def opR:Rx->Int
 |.eps=>0
 |.cls _=>1
 |.cat _ _=>2
 |.alt _ _=>3
 |.star _=>4
 |.and _ _=>5
 |.minus _ _=>6
def QC(l:List Nd):Nat->Rx->Prop
 |i,.eps=>∃ d,l[i]?=some d/\d.op=0
 |i,.cls S=>∃ d,l[i]?=some d/\d.op=1/\d.set=S
 |i,.cat a b=>∃ d,∃ x y:Nat,l[i]?=some d/\d.op=2/\d.a=x/\d.b=y/\x<y/\QC l x a/\QC l y b
 |i,.alt a b=>∃ d,∃ x y:Nat,l[i]?=some d/\d.op=3/\d.a=x/\d.b=y/\x<y/\QC l x a/\QC l y b
 |i,.star a=>∃ d,∃ x:Nat,l[i]?=some d/\d.op=4/\d.a=x/\QC l x a
 |i,.and a b=>∃ d,∃ x y:Nat,l[i]?=some d/\d.op=5/\d.a=x/\d.b=y/\x<y/\QC l x a/\QC l y b
 |i,.minus a b=>∃ d,∃ x y:Nat,l[i]?=some d/\d.op=6/\d.a=x/\d.b=y/\x<y/\QC l x a/\QC l y b
theorem QC.op{l:List Nd}{i:Nat}{t:Rx}(h:QC l i t):∃ d,l[i]?=some d/\d.op=opR t:=by
 cases t with
 |eps=>obtain⟨d,h1,h2⟩:=h;exact⟨d,h1,h2⟩
 |cls S=>obtain⟨d,h1,h2,_⟩:=h;exact⟨d,h1,h2⟩
 |star a=>obtain⟨d,_,h1,h2,_⟩:=h;exact⟨d,h1,h2⟩
 |cat a b=>obtain⟨d,_,_,h1,h2,_⟩:=h;exact⟨d,h1,h2⟩
 |alt a b=>obtain⟨d,_,_,h1,h2,_⟩:=h;exact⟨d,h1,h2⟩
 |and a b=>obtain⟨d,_,_,h1,h2,_⟩:=h;exact⟨d,h1,h2⟩
 |minus a b=>obtain⟨d,_,_,h1,h2,_⟩:=h;exact⟨d,h1,h2⟩
abbrev reV (ao:Option Addr)(n c:Nat)(r:Int):Value:=.agg #[.slice ao n c,.int .i64 r]
abbrev AtT (l:List Nd)(ao:Option Addr)(c:Nat)(r:Int)(i:Nat)(t:Rx):Prop:=∀ (need:Int) (w:World),kt w ao (LW l)->Calls prog 157 #[reV ao l.length c r,.int .i64 (i:Nat),.int .i64 need] w λe w' => e=.returned (.string (NZ t need))/\af w [] w'
theorem kI{W w:World}{bs:List Nat}{ao:Option Addr}{vs:List Value}(h:iK W (Out bs) ao vs)(hk:af W bs w):kt w ao vs:=(h.mono hk.fe).is
section
variable (l:List Nd)(ao:Option Addr)(c:Nat)(r:Int)
section
variable (x y:Nat)(a b:Rx)(ha:AtT l ao c r x a)(hb:AtT l ao c r y b)
end
theorem gB(t:Rx)(need:Int):(NZ t need).size<=2400*dL t+2:=by
 have h1:=cJ t;have h2:=dT (ui t) need (cc t);unfold NZ;omega
end
noncomputable def yn:Env prog:=⟨λ| 138=>some T8.spec|_=>none,λ| _=>none,λ_ _=>none⟩
theorem WX:yn.sp 138=some T8.spec:=rfl
theorem AD:∀ n:Fin 256,let b:=((n.val:Nat):Int);let h:ByteArray:=⟨#[48,49,50,51,52,53,54,55,56,57,97,98,99,100,101,102]⟩;
  let x:=h.extract (b.fdiv 16).toNat (IntKind.u8.wrap (b.fdiv 16+1)).toNat;let y:=h.extract (bI .and .u8 b 15).toNat (IntKind.u8.wrap (bI .and .u8 b 15+1)).toNat;
  (0<=b.fdiv 16/\b.fdiv 16<=IntKind.u8.wrap (b.fdiv 16+1)/\IntKind.u8.wrap (b.fdiv 16+1)<=16)/\(0<=bI .and .u8 b 15/\bI .and .u8 b 15<=IntKind.u8.wrap (bI .and .u8 b 15+1)/\IntKind.u8.wrap (bI .and .u8 b 15+1)<=16) /\
  (x.size=1/\y.size=1)/\(⟨#[92,120]⟩:ByteArray)++x++y=⟨#[92,120,hxD (b / 16),hxD (b % 16)]⟩:=by decide +kernel
def ca:=(ak @List.replicate_succ.{0} @List.replicate_zero.{0} @aq @ae lP lM QW (ak Py OU lA dI dK dJ dG (ak dr dt du dq mJ mh mG (ak mT mf fq fu ft fh ff (ak fm PC Ry Ty SD ZQ Zq (ak Y4 Zg ZC Zv Y9 ZN Ze (ak ZD @a6 @aw @aD @aE @BU @AF WX)))))))
theorem Ek(b:Int)(q:ByteArray)(h0:0<=b)(h1:b<256)(w:World)(hg:aV w (Out [])):Calls prog 223 #[.int .u8 b,.string q] w λe w' => e=.returned (.string (ow b (oX q b)))/\af w [] w' := by
 obtain⟨g0,g1,g2,g3,g4,g5,g6⟩:=hg;refine av (nt:=54) [.tmp 4] func223 rfl rfl rfl ?_;refine vR yn ca ?_;refine Wp.seq ?_;refine vR yn (NT ca g1 g2 g3 g4 g5 g6) ?_;refine Wp.block ?_
 refine Wp.loop (λk:Nat=>⟨40,cL [(0,.is (.v (.int .u8 b))),(1,.is (.v (.string q))),(7,.is (.agg [.v (.int .u8 110),.v (.int .u8 10),.v (.int .u8 114),.v (.int .u8 13),.v (.int .u8 116),.v (.int .u8 9)])),(8,.is (.v (.int .i64 k)))],cf []⟩)
  (λk=>k<=3/\(0<k->b≠10)/\(1<k->b≠13)/\(2<k->b≠9)) (λk=>3-k) 0 ?_ ⟨oM,oM,oM,oM⟩ ?_
 ·exact wM (λk=>.key k) ca
 rintro k ⟨k0,k1,k2,k3⟩;refine vR yn ca ?_;refine Wp.seq ?_;refine wC ca (λhc=>?_) (λhc=>?_)
 ·simp at hc;refine wK ?_;have hk3:k<3:=oM;have hcase:k=0\/k=1\/k=2:=oM;refine Wp.seq (Wp.block ?_);rcases hcase with rfl|rfl|rfl
  ·skip;refine vR yn ca ?_;refine vR yn ca ?_;refine wC ca (λhc=>?_) (λhc=>?_)
   ·have hb:b=10:=by simp at hc;omega
    have he:ow b (oX q b)=⟨#[92,110]⟩:=by rw[ow,if_pos hb]
    rw[he];refine wR yn ca ?_ ?_
    ·show 1+1<=9223372036854775807;omega
    refine wZ ca ?_;exact λE=>rfl
   ·have hb:¬ b=10:=by simp at hc;omega
    refine wK ?_;refine vr yn ca ?_;refine⟨1,⟨oM,λ_=>hb,oM,oM⟩,oM,?_⟩;exact wM (λk=>.key k) ca
  ·skip;refine vR yn ca ?_;refine vR yn ca ?_;refine wC ca (λhc=>?_) (λhc=>?_)
   ·have hb:b=13:=by simp at hc;omega
    have he:ow b (oX q b)=⟨#[92,114]⟩:=by rw[ow,if_neg (k1 oM),if_pos hb]
    rw[he];refine wR yn ca ?_ ?_
    ·show 1+1<=9223372036854775807;omega
    refine wZ ca ?_;exact λE=>rfl
   ·have hb:¬ b=13:=by simp at hc;omega
    refine wK ?_;refine vr yn ca ?_;refine⟨2,⟨oM,λ_=>k1 oM,λ_=>hb,oM⟩,oM,?_⟩;exact wM (λk=>.key k) ca
  ·skip;refine vR yn ca ?_;refine vR yn ca ?_;refine wC ca (λhc=>?_) (λhc=>?_)
   ·have hb:b=9:=by simp at hc;omega
    have he:ow b (oX q b)=⟨#[92,116]⟩:=by rw[ow,if_neg (k1 oM),if_neg (k2 oM),if_pos hb]
    rw[he];refine wR yn ca ?_ ?_
    ·show 1+1<=9223372036854775807;omega
    refine wZ ca ?_;exact λE=>rfl
   ·have hb:¬ b=9:=by simp at hc;omega
    refine wK ?_;refine vr yn ca ?_;refine⟨3,⟨oM,λ_=>k1 oM,λ_=>k2 oM,λ_=>hb⟩,oM,?_⟩;exact wM (λk=>.key k) ca
 ·have hk:k=3:=by
   simp at hc;omega
  have n10:=k1 oM;have n13:=k2 oM;have n9:=k3 oM;refine wE ?_;refine Wp.seq (Wp.block ?_);refine vR yn ca ?_;refine wC ca (λhc=>?_) (λhc=>?_)
  ·have h:b<32\/126<b:=by simpa using hc
   have e:ow b (oX q b)=⟨#[92,120,hxD (b / 16),hxD (b % 16)]⟩:=by rw[ow,if_neg n10,if_neg n13,if_neg n9,if_pos h]
   rw[e];obtain⟨n,rfl⟩:=Int.eq_ofNat_of_zero_le h0;obtain⟨f1,f2,⟨f3,f4⟩,f5⟩:=AD ⟨n,oM⟩;simp only at f1 f2 f3 f4 f5;refine A0 yn ca ?_ ?_
   ·refine⟨f1,?_,f2,?_⟩
    ·rw[f3];show 2+1<=9223372036854775807;omega
    ·rw[f4,ByteArray.size_append,f3];show 2+1+1<=9223372036854775807;omega
   refine wZ ca ?_;exact λE=>congrArg Value.string f5
  have n32:¬ (b<32\/126<b):=by simpa using hc
  refine vR yn ca ?_;refine wC ca (λhc=>?_) (λhc=>?_)
  ·have hi:oX q b=true:=by rw[oX];simpa using hc
   have e:ow b (oX q b)=⟨#[92,b.toNat.toUInt8]⟩:=by rw[ow,if_neg n10,if_neg n13,if_neg n9,if_neg n32,if_pos hi]
   rw[e];refine wR yn ca ?_ ?_
   ·show 1+1<=9223372036854775807;omega
   refine wZ ca ?_;exact λE=>rfl
  ·have hi:¬ oX q b=true:=by rw[oX];simpa using hc
   have e:ow b (oX q b)=⟨#[b.toNat.toUInt8]⟩:=by rw[ow,if_neg n10,if_neg n13,if_neg n9,if_neg n32,if_neg hi]
   rw[e];refine wK ?_;refine vR yn ca ?_;refine wZ ca ?_;exact λE=>rfl
def qt:bu prog 223 where
 pre:=λW bs=>λ| [.val (.int .u8 b),.val (.string q)]=>(0<=b/\b<256)/\aV W (Out bs)|_=>False
 res:=λW=>λ| [.val (.int .u8 b),.val (.string q)]=>.string (ow b (oX q b))|_=>undef
 enters:=call223
 ok:=by
  intro W w bs us as_ hk hu hp;split at hp
  ·rename_i b q
   match us,hu with
   |[u0,u1],hu=>
    obtain⟨rfl,rfl,_⟩:=hu;exact Ek b q hp.1.1 hp.1.2 w (hp.2.cP hk sI)
  ·exact hp.elim
theorem AU(W:World)(b:Int)(q:ByteArray):qt.res W [.val (.int .u8 b),.val (.string q)]=.string (ow b (oX q b)):=rfl
theorem B0(W:World)(bs:List Nat)(b:Int)(q:ByteArray):qt.pre W bs [.val (.int .u8 b),.val (.string q)]=((0<=b/\b<256)/\aV W (Out bs)):=rfl
noncomputable def pD:Env prog:=⟨λ| 221=>some nL.spec|222=>some rR.spec|223=>some qt.spec|224=>some ye.spec|225=>some sV.spec|_=>none,λ| _=>none,λ_ _=>none⟩
theorem YZ:pD.sp 221=some nL.spec:=rfl
theorem XV:pD.sp 222=some rR.spec:=rfl
theorem Xw:pD.sp 223=some qt.spec:=rfl
theorem UJ:pD.sp 224=some ye.spec:=rfl
theorem XY:pD.sp 225=some sV.spec:=rfl
attribute [local simp] aA
theorem DH(S:CS)(h1:pV S≠1):∃ (T:CS) (pre:ByteArray),kb S=dw T pre 256++P8/\pre.size<=2/\(T,pre)=(if 128<pV S then (~~~S,D7) else (S,C5)):=by
 by_cases h:128<pV S
 ·exact⟨~~~S,D7,by rw[kb,if_neg h1,if_pos h],dE,by rw[if_pos h]⟩
 ·exact⟨S,C5,by rw[kb,if_neg h1,if_neg h],dE,by rw[if_neg h]⟩
def bo:=(ak @List.replicate_succ.{0} @List.replicate_zero.{0} @aq @ae lP lM lA (ak dI dK dJ dG dr dt du (ak dq mJ mh mG mT mf fq (ak fu ft fh ff fm ov oQ (ak oN oP sD sX sE sH JY (ak Ky @a6 @aw @aD @aE @sA @sW (ak @HT @GW @AU @B0 @CI @Fb @z8 (ak @zP @ie @kB @kM @jh @nN @abv (oR @aaG YZ XV Xw UJ XY)))))))))
theorem Lh(S:CS)(w:World)(hg:aV w (Out [])):Calls prog 182 #[bO S] w λe w' => e=.returned (.string (kb S))/\af w [] w' := by
 refine av (nt:=67) [.tmp 2] func182 rfl rfl rfl ?_;refine vR pD (aa bo @dD) ?_;refine vR pD (aa bo @cQ) ?_;refine Wp.seq ?_;refine vR pD bo ?_;refine wC bo (λhc=>?_) (λhc=>?_)
 ·have h1:pV S=1:=by simp at hc;omega
  have hl:=BV S 256 0;obtain⟨b0,hb0,hb1⟩:=R7 S h1;have hlt:tt S<256:=by
   have hx:∀ k j,j+k=256->j<=b0->B9 S k j<256:=by
    intro k
    induction k with
    |zero=>intro j h1 h2;omega
    | succ k ih=>
     intro j h1 h2;unfold B9;split
     ·omega
     ·rename_i hn;refine ih (j+1) oM ?_;by_cases he:j=b0
      ·rw[he]at hn;exact absurd hb1 hn
      ·omega
   exact hx 256 0 rfl (Nat.zero_le _)
  have e:kb S=ow (tt S) (oX T6 (tt S)):=by rw[kb,if_pos h1]
  rw[e];refine wR pD (aa bo @cQ) ?_ ?_
  ·exact⟨b0,hb0,hb1⟩
  refine wR pD bo ?_ ?_
  ·exact⟨⟨oM,oM⟩,hg⟩
  refine wZ bo ?_;exact λE=>rfl
 have h1:pV S≠1:=by simp at hc;omega
 obtain⟨T,pre,he,hpre,hp⟩:=DH S h1;rw[he];refine wK ?_;refine vR pD bo ?_;refine dB ⟨60,cL [(1,.is (.own 0 0)),(6,.is (.v (.string pre)))],cf [(0,.cells 309 ((jU T).map .v))]⟩ ?_ ?_
 ·skip;refine vR pD bo ?_;refine wC bo (λhc=>?_) (λhc=>?_)
  ·have h:128<pV S:=by simp at hc;omega
   rw[if_pos h,Prod.mk.injEq]at hp;obtain⟨rfl,rfl⟩:=hp;refine vR pD bo ?_;refine vr pD (dx bo @cQ @dD) ?_;exact wM (λk=>.key k) bo
  ·have h:¬ 128<pV S:=by simp at hc;omega
   rw[if_neg h,Prod.mk.injEq]at hp;obtain⟨rfl,rfl⟩:=hp;refine wK ?_;exact wM (λk=>.key k) bo
 clear hp;refine Wp.seq ?_;refine vR pD bo ?_;refine Wp.block ?_
 refine Wp.loop (λb:Nat=>⟨70,cL [(1,.is (.own 0 0)),(6,.is (.v (.string (dw T pre b)))),(7,.is (.v (.int .i64 (b:Nat))))],cf [(0,.cells 309 ((jU T).map .v))]⟩) (λb=>b<=256/\(b=0\/T.getLsbD (b-1)=false\/T.getLsbD b=false)) (λb=>256-b) 0 ?_ ⟨Nat.zero_le _,.inl rfl⟩ ?_
 ·exact wM (λk=>.key k) bo
 rintro b ⟨hb,hinv⟩;refine Wp.seq ?_;refine vR pD bo ?_;refine wC bo (λhc=>?_) (λhc=>?_)
 ·have hlt:b<256:=by
   simp at hc;omega
  have wj:IntKind.i64.wrap ((b:Int)+1)=((b+1:Nat):Int):=wW;have wu:IntKind.u8.wrap (b:Int)=(b:Int):=pq oM oM;have hsz:=lu T pre b;refine wK ?_;refine Wp.seq (Wp.block ?_);refine Wp.seq ?_;refine wR pD (dx bo wu @cQ) ?_ ?_
  ·omega
  refine wC bo (λhc=>?_) (λhc=>?_)
  ·have hTb:T.getLsbD b=false:=by simpa using hc
   have hs:ZS T b=false:=by rw[ZS,hTb];rfl
   have e:dw T pre (b+1)=dw T pre b:=by rw[dw,if_neg (by rw[hs];simp)]
   refine wE ?_;refine vr pD (aa bo wj) ?_;refine⟨b+1,⟨oM,.inr (.inl hTb)⟩,oM,?_⟩;rw[e];exact wM (λk=>.key k) bo
  have hTb:T.getLsbD b=true:=by simpa using hc
  have hs:ZS T b=true:=by
   rw[ZS,hTb,Bool.true_and];rcases hinv with h|h|h
   ·subst h;rfl
   ·rw[h];simp
   ·rw[hTb]at h;cases h
  have hbd:=Kj T b hlt;have e:dw T pre (b+1)=EG (dw T pre b) b (ku T b):=by rw[dw,if_pos hs]
  have e2:dw T pre (ku T b+1)=dw T pre (b+1):=F7 T pre b hlt hTb _ oM (Nat.le_refl _);have hout:T.getLsbD (ku T b+1)=false:=by
   by_cases h:ku T b<255
   ·exact Oh T b hlt h
   ·exact BitVec.getLsbD_of_ge _ _ oM
  obtain⟨m,hm⟩:∃ m,ku T b=m:=⟨_,rfl⟩;generalize hO:dw T pre b=O at *;rw[hm]at hbd e e2 hout;rw[e]at e2;refine wK ?_;refine vR pD bo ?_
  refine dB ⟨120,cL [(1,.is (.own 0 0)),(6,.is (.v (.string O))),(7,.is (.v (.int .i64 (b:Nat)))),(8,.is (.v (.int .i64 (m:Nat))))],cf [(0,.cells 309 ((jU T).map .v))]⟩ ?_ ?_
  ·skip;refine Wp.block ?_;refine Wp.loop (λk:Nat=>⟨100,cL [(1,.is (.own 0 0)),(6,.is (.v (.string O))),(7,.is (.v (.int .i64 (b:Nat)))),(8,.is (.v (.int .i64 (k:Nat))))],cf [(0,.cells 309 ((jU T).map .v))]⟩) (λk=>(b<=k/\k<256)/\ku T b=ku T k) (λk=>256-k) b ?_ ⟨⟨Nat.le_refl _,hlt⟩,rfl⟩ ?_
   ·exact wM (λk=>.key k) bo
   rintro k ⟨⟨hk1,hk⟩,hke⟩;have wk:IntKind.i64.wrap ((k:Int)+1)=((k+1:Nat):Int):=wW;have fin:(k<255->T.getLsbD (k+1)=false)->k=m:=λh=>by
    have:=LV T k h;omega
   by_cases hbk:k<255
   ·have hd:decide ((k:Int)<255)=true:=by simp;omega
    have wu:IntKind.u8.wrap ((k+1:Nat):Int)=((k+1:Nat):Int):=pq oM oM;refine Wp.seq ?_;refine wR pD (ym bo wk hd wu @cQ) ?_ ?_
    ·omega
    refine wC bo (λhc=>?_) (λhc=>?_)
    ·refine wK ?_;refine Wp.block ?_;refine vr pD (aa bo wk) ?_;refine⟨k+1,⟨⟨oM,oM⟩,by rw[hke];exact MA T k hbk hc⟩,oM,?_⟩;exact wM (λk=>.key k) bo
    ·refine wE ?_;have hf:=fin λ_=>hc
     subst hf;exact wM (λk=>.key k) bo
   ·have hd:decide ((k:Int)<255)=false:=by simp;omega
    refine Wp.seq ?_;refine wR pD (iS bo wk hd @cQ) ?_ ?_
    ·simp
    refine wC bo (λhc=>?_) (λhc=>?_)
    ·exact absurd hc sI
    ·refine wE ?_;have hf:=fin λh=>absurd h hbk
     subst hf;exact wM (λk=>.key k) bo
  have wm:IntKind.u8.wrap ((m:Nat):Int)=((m:Nat):Int):=pq oM oM;have wm1:IntKind.i64.wrap ((m:Int)+1)=((m+1:Nat):Int):=wW;have hb1:=nF b (oX sn b);have hb2:=nF ((m:Nat):Int) (oX sn ((m:Nat):Int));rw[Yj]at e2;refine wR pD (aa bo wu) ?_ ?_
  ·exact⟨⟨⟨oM,oM⟩,hg⟩,oM⟩
  have hO1:(O++ow b (oX sn b)).size<=2400:=by rw[ByteArray.size_append];omega
  generalize O++ow b (oX sn b)=O1 at *;refine dB ⟨150,cL [(1,.is (.own 0 0)),(6,.is (.v (.string (if b+1<m then O1++oE else O1)))),(7,.is (.v (.int .i64 (b:Nat)))),(8,.is (.v (.int .i64 (m:Nat))))],cf [(0,.cells 309 ((jU T).map .v))]⟩ ?_ ?_
  ·skip;refine vR pD (aa bo wj) ?_;refine wC bo (λhc=>?_) (λhc=>?_)
   ·have h:b+1<m:=by simp at hc;omega
    rw[if_pos h];refine wr pD bo ?_ ?_
    ·show O1.size+1<=_;omega
    exact wM (λk=>.key k) bo
   ·have h:¬ b+1<m:=by simp at hc;omega
    rw[if_neg h];refine wK ?_;exact wM (λk=>.key k) bo
  have hO2:(if b+1<m then O1++oE else O1).size<=2401:=by
   split
   ·rw[ByteArray.size_append];show O1.size+1<=2401;omega
   ·omega
  generalize (if b+1<m then O1++oE else O1)=O2 at *;refine dB ⟨170,cL [(1,.is (.own 0 0)),(6,.is (.v (.string (dw T pre (m+1))))),(8,.is (.v (.int .i64 (m:Nat))))],cf [(0,.cells 309 ((jU T).map .v))]⟩ ?_ ?_
  ·skip;refine vR pD bo ?_;refine wC bo (λhc=>?_) (λhc=>?_)
   ·have h:b<m:=by simp at hc;omega
    rw[if_pos h]at e2;rw[e2];refine wr pD (aa bo wm) ?_ ?_
    ·exact⟨⟨⟨oM,oM⟩,hg⟩,oM⟩
    exact wM (λk=>.key k) bo
   ·have h:¬ b<m:=by simp at hc;omega
    rw[if_neg h]at e2;rw[e2];refine wK ?_;exact wM (λk=>.key k) bo
  refine vr pD bo ?_;refine vr pD (aa bo wm1) ?_;refine⟨m+1,⟨oM,.inr (.inr hout)⟩,oM,?_⟩;exact wM (λk=>.key k) bo
 ·have hb' : b=256:=by
   simp at hc;omega
  subst hb';have hsz:=lu T pre 256;refine wE ?_;refine wR pD bo ?_ ?_
  ·show (dw T pre 256).size+1<=_;omega
  refine wZ bo ?_;exact λE=>rfl
noncomputable def qW:bu prog 182 where
 pre:=λW bs=>λ| [.val y0]=>(match dec bO y0 with|some S=>aV W (Out bs)|_=>False)|_=>False
 res:=λW=>λ| [.val y0]=>(match dec bO y0 with|some S=>.string (kb S)|_=>undef)|_=>undef
 enters:=call182
 ok:=by
  intro W w bs us as_ hk hu hp;split at hp
  ·rename_i y0;split at hp
   ·rename_i S h0
    match us,hu with
    |[u0],hu=>
     obtain⟨rfl,_⟩:=hu;obtain rfl:=ix h0
     try dsimp only
     try simp only[cG bW]
     exact Lh S w (hp.cP hk sI)
   ·exact hp.elim
  ·exact hp.elim
theorem Gf(W:World)(S:CS):qW.res W [.val (bO S)]=.string (kb S):=by simp only[qW,cG bW]
theorem It(W:World)(bs:List Nat)(S:CS):qW.pre W bs [.val (bO S)]=(aV W (Out bs)):=by simp only[qW,cG bW]
def Qx(s:ByteArray):Except (Int×Int) RT:=nD (bt s) s.size (kp s)
theorem Qs{c:Int->Int}{N i:Int}{e:Int×Int}(h:qL c N i=.error e):e.1≠0:=by
 have hn:∀ i e,kC c N i=.error e->e.1≠0:=λi e h=>by
  unfold kC at h;split at h
  ·cases h;show (20:Int)≠0;omega
  ·cases h
 have hu:∀ m i e,Ho c N m i=.error e->e.1≠0:=λm i e h=>by
  unfold Ho at h;split at h
  ·split at h
   ·exact hn _ _ h
   ·cases h
  ·cases h
 unfold qL at h;cases h1:kC c N (i+1) with
 |error e1=>rw[h1]at h;cases h;exact hn _ _ h1
 | ok p=>
  rw[h1]at h;simp only at h;cases h2:Ho c N p.1 p.2 with
  |error e2=>rw[h2]at h;cases h;exact hu _ _ _ h2
  | ok q=>
   rw[h2]at h;simp only at h;unfold sx at h;split at h
   ·cases h;show (20:Int)≠0;omega
   ·split at h
    ·cases h;show (22:Int)≠0;omega
    ·cases h
theorem aaM{c:Int->Int}{N i:Int}(h:c i≠123):TZ c N i=.ok (if c i=43 then -2 else 0,if c i=63 then 1 else -1,i+1):=by
 unfold TZ;by_cases h1:c i=43
 ·rw[if_pos h1,if_pos h1,if_neg oM]
 ·rw[if_neg h1,if_neg h1];by_cases h2:c i=63
  ·rw[if_pos h2,if_pos h2]
  ·rw[if_neg h2,if_neg h2,if_neg h]
theorem abc{c:Int->Int}{N i:Int}(h:c i=123):TZ c N i=qL c N i:=by
 unfold TZ;rw[if_neg oM,if_neg oM,if_pos h]
section
variable (ar:List Nd)(ts:List RT)(ao:Option Addr)(c n:Nat)
end
abbrev xl (n:Nat):Prop:=∀ (t:Rx) (need:Int) (w:World),dp t<n->dL t<=4000000->aV w (Out [])->Calls prog 129 #[aB t,.int .i64 need] w λe w' => e=.returned (.string (NZ t need))/\af w [] w'
noncomputable def D0(n:Nat)(h:xl n):bu prog 129 where
 pre:=λW bs as_=>∃ (t:Rx) (need:Int),as_=[.val (aB t),.val (.int .i64 need)]/\dp t<n/\dL t<=4000000/\aV W (Out bs)
 res:=λ_ as_=>match as_ with
  |[.val v,.val (.int _ need)]=>(match dec aB v with
   |some t=>.string (NZ t need)
   |_=>undef)
  |_=>undef
 enters:=call129
 ok:=by
  intro W w bs us as_ hk hu hp;obtain⟨t,need,rfl,h1,h2,h3⟩:=hp
  match us,hu with
  |[x,y],hu=>
   obtain⟨rfl,rfl,_⟩:=hu;simp only[cG bX];exact h t need w h1 h2 (h3.cP hk sI)
section
variable (n:Nat)(h:xl n)
theorem M8(W:World)(bs:List Nat)(t:Rx)(need:Int):(D0 n h).pre W bs [.val (aB t),.val (.int .i64 need)]=(dp t<n/\dL t<=4000000/\aV W (Out bs)):=by
 apply propext;constructor
 ·rintro⟨t',need',h1,h2⟩;simp only[List.cons.injEq,AV.val.injEq,Value.int.injEq,true_and,and_true]at h1;obtain⟨h1,rfl⟩:=h1;obtain rfl:=bX _ _ h1;exact h2
 ·exact λh=>⟨t,need,rfl,h⟩
theorem Ll(W:World)(t:Rx)(need:Int):(D0 n h).res W [.val (aB t),.val (.int .i64 need)]=.string (NZ t need):=by
 simp only[D0,cG bX]
noncomputable def iL:Env prog:=⟨λ| 129=>some (D0 n h).spec|182=>some qW.spec|_=>none,λ_=>none,λ_ _=>none⟩
theorem UO:(iL n h).sp 129=some (D0 n h).spec:=rfl
theorem UU:(iL n h).sp 182=some qW.spec:=rfl
end
def aR:=(ak @List.replicate_succ.{0} @List.replicate_zero.{0} @aq @ae lP lM lA (ak dI dK dJ dG dr dt du (ak dq fq fu ft fh ff fm (ak sw sS sO sN ov oQ oN (ak oP SU Sy QX RX R2 On (ak TL QA P6 Pm Tw Tx Tt (ak N8 Sg Po TB Jj IW JT (ak J0 Jo IL JX PM S9 P5 (ak Sv S4 Rs OL O3 Ra RE (ak Og Tm TP Qg Sj SZ PU (ak Pf SN Q4 Q5 Qi Om SJ (ak Ot QD Tg sD sX sE sH (ak Zn Zc ZO ZF Zu Zp Zx (ak Y8 @a6 @aw @aD @aE @Gf @It (ak @ie @kB @kM @jh @nN @hD @bA (oR @dD @cQ @UO @UU @M8 @Ll))))))))))))))))
theorem MY(n:Nat)(h:xl n):xl (n+1):=by
 intro t need w hdp hsz hg;have hbs:=cJ t;refine av (nt:=82) [.tmp 4] func129 rfl rfl rfl ?_;refine vR (iL n h) aR ?_;refine vR (iL n h) aR ?_;refine dB ⟨200,cL [(1,.is (.v (.int .i64 need))),(5,.is (.v (.string (cc t)))),(6,.is (.v (.int .i64 (ui t))))],cf []⟩ ?_ ?_
 ·skip;refine vR (iL n h) aR ?_;refine Wp.block ?_;cases t with
  |eps=>
   have hv:aB (.eps)=_:=rfl;unfold aB;refine vR (iL n h) aR ?_;refine wC aR (λhc=>?_) (λhc=>?_)
   rotate_left
   ·exact absurd hc sI
   refine wR (iL n h) aR ?_ ?_
   ·first|trivial|simp
   refine vr (iL n h) aR ?_;exact wM (λk=>.key k) aR
  |cls S=>
   have hv:aB (.cls S)=_:=rfl;unfold aB;refine vR (iL n h) aR ?_;refine wC aR (λhc=>?_) (λhc=>?_)
   ·exact absurd hc sI
   refine vR (iL n h) aR ?_;refine wC aR (λhc=>?_) (λhc=>?_)
   rotate_left
   ·exact absurd hc sI
   refine wR (iL n h) aR ?_ ?_
   ·first|trivial|simp
   refine wr (iL n h) aR ?_ ?_
   ·exact hg
   exact wM (λk=>.key k) aR
  |alt a b=>
   have hd:dp a+dp b+1<n+1:=hdp;have hz:dL a+dL b+1<=4000000:=hsz;have s1:=gB a 0;have s2:=gB b 1;have hv:aB (.alt a b)=_:=rfl;unfold aB;refine vR (iL n h) aR ?_;refine wC aR (λhc=>?_) (λhc=>?_)
   ·exact absurd hc sI
   refine vR (iL n h) aR ?_;refine wC aR (λhc=>?_) (λhc=>?_)
   ·exact absurd hc sI
   refine vR (iL n h) aR ?_;refine wC aR (λhc=>?_) (λhc=>?_)
   rotate_left
   ·exact absurd hc sI
   refine wR (iL n h) aR ?_ ?_
   ·rw[Bool.and_eq_true];exact⟨bA a,bA b⟩
   refine Ft (iL n h) aR ?_ ?_
   ·exact⟨⟨oM,oM,hg⟩,by show _+1<=_;omega,⟨oM,oM,hg⟩,by rw[ByteArray.size_append];show _+1+_<=_;omega⟩
   exact wM (λk=>.key k) aR
  |and a b=>
   have hd:dp a+dp b+1<n+1:=hdp;have hz:dL a+dL b+1<=4000000:=hsz;have s1:=gB a 1;have s2:=gB b 2;have hv:aB (.and a b)=_:=rfl;unfold aB;refine vR (iL n h) aR ?_;refine wC aR (λhc=>?_) (λhc=>?_)
   ·exact absurd hc sI
   refine vR (iL n h) aR ?_;refine wC aR (λhc=>?_) (λhc=>?_)
   ·exact absurd hc sI
   refine vR (iL n h) aR ?_;refine wC aR (λhc=>?_) (λhc=>?_)
   ·exact absurd hc sI
   refine vR (iL n h) aR ?_;refine wC aR (λhc=>?_) (λhc=>?_)
   rotate_left
   ·exact absurd hc sI
   refine wR (iL n h) aR ?_ ?_
   ·rw[Bool.and_eq_true];exact⟨bA a,bA b⟩
   refine Ft (iL n h) aR ?_ ?_
   ·exact⟨⟨oM,oM,hg⟩,by show _+1<=_;omega,⟨oM,oM,hg⟩,by rw[ByteArray.size_append];show _+1+_<=_;omega⟩
   exact wM (λk=>.key k) aR
  |minus a b=>
   have hd:dp a+dp b+1<n+1:=hdp;have hz:dL a+dL b+1<=4000000:=hsz;have s1:=gB a 1;have s2:=gB b 2;have hv:aB (.minus a b)=_:=rfl;unfold aB;refine vR (iL n h) aR ?_;refine wC aR (λhc=>?_) (λhc=>?_)
   ·exact absurd hc sI
   refine vR (iL n h) aR ?_;refine wC aR (λhc=>?_) (λhc=>?_)
   ·exact absurd hc sI
   refine vR (iL n h) aR ?_;refine wC aR (λhc=>?_) (λhc=>?_)
   ·exact absurd hc sI
   refine vR (iL n h) aR ?_;refine wC aR (λhc=>?_) (λhc=>?_)
   ·exact absurd hc sI
   refine vR (iL n h) aR ?_;refine wC aR (λhc=>?_) (λhc=>?_)
   rotate_left
   ·exact absurd hc sI
   refine wR (iL n h) aR ?_ ?_
   ·rw[Bool.and_eq_true];exact⟨bA a,bA b⟩
   refine Ft (iL n h) aR ?_ ?_
   ·exact⟨⟨oM,oM,hg⟩,by show _+1<=_;omega,⟨oM,oM,hg⟩,by rw[ByteArray.size_append];show _+1+_<=_;omega⟩
   exact wM (λk=>.key k) aR
  |cat a b=>
   have hd:dp a+dp b+1<n+1:=hdp;have hz:dL a+dL b+1<=4000000:=hsz;have s1:=gB a 2;have s2:=gB b 3;have hv:aB (.cat a b)=_:=rfl;unfold aB;refine vR (iL n h) aR ?_;refine wC aR (λhc=>?_) (λhc=>?_)
   ·exact absurd hc sI
   refine vR (iL n h) aR ?_;refine wC aR (λhc=>?_) (λhc=>?_)
   ·exact absurd hc sI
   refine vR (iL n h) aR ?_;refine wC aR (λhc=>?_) (λhc=>?_)
   ·exact absurd hc sI
   refine vR (iL n h) aR ?_;refine wC aR (λhc=>?_) (λhc=>?_)
   ·exact absurd hc sI
   refine vR (iL n h) aR ?_;refine wC aR (λhc=>?_) (λhc=>?_)
   ·exact absurd hc sI
   refine vR (iL n h) aR ?_;refine wC aR (λhc=>?_) (λhc=>?_)
   rotate_left
   ·exact absurd hc sI
   refine wR (iL n h) aR ?_ ?_
   ·rw[Bool.and_eq_true];exact⟨bA a,bA b⟩
   refine Ft (iL n h) aR ?_ ?_
   ·exact⟨⟨oM,oM,hg⟩,⟨oM,oM,hg⟩,oM⟩
   exact wM (λk=>.key k) aR
  |star a=>
   have hd:dp a+1<n+1:=hdp;have hz:dL a+1<=4000000:=hsz;have s1:=gB a 3;have hv:aB (.star a)=_:=rfl;unfold aB;refine vR (iL n h) aR ?_;refine wC aR (λhc=>?_) (λhc=>?_)
   ·exact absurd hc sI
   refine vR (iL n h) aR ?_;refine wC aR (λhc=>?_) (λhc=>?_)
   ·exact absurd hc sI
   refine vR (iL n h) aR ?_;refine wC aR (λhc=>?_) (λhc=>?_)
   ·exact absurd hc sI
   refine vR (iL n h) aR ?_;refine wC aR (λhc=>?_) (λhc=>?_)
   ·exact absurd hc sI
   refine vR (iL n h) aR ?_;refine wC aR (λhc=>?_) (λhc=>?_)
   ·exact absurd hc sI
   refine vR (iL n h) aR ?_;refine wC aR (λhc=>?_) (λhc=>?_)
   ·exact absurd hc sI
   refine vR (iL n h) aR ?_;refine wC aR (λhc=>?_) (λhc=>?_)
   rotate_left
   ·exact absurd hc sI
   refine wR (iL n h) aR ?_ ?_
   ·exact bA a
   refine wr (iL n h) aR ?_ ?_
   ·exact⟨⟨oM,oM,hg⟩,by show _+1<=_;omega⟩
   exact wM (λk=>.key k) aR
 refine Wp.seq ?_;refine vR (iL n h) aR ?_;refine wC aR (λhc=>?_) (λhc=>?_)
 ·have hlt:ui t<need:=by simpa using hc
  have e:NZ t need=lpB++cc t++rpB:=by rw[NZ,ni,if_pos hlt]
  rw[e];refine wR (iL n h) aR ?_ ?_
  ·refine⟨?_,?_⟩
   ·show 1+_<=_;omega
   ·rw[ByteArray.size_append];show 1+_+1<=_;omega
  refine wZ aR ?_;exact λE=>rfl
 ·have hlt:¬ ui t<need:=by simpa using hc
  have e:NZ t need=cc t:=by rw[NZ,ni,if_neg hlt]
  rw[e];refine wK ?_;refine vR (iL n h) aR ?_;refine wZ aR ?_;exact λE=>rfl
theorem xn:∀ n,xl n
 |0=>λt _ _ h=>absurd h (Nat.not_lt_zero _)
 |n+1=>MY n (xn n)
theorem OW(t:Rx):NZ t 0=cc t:=by
 rw[NZ,ni,if_neg];cases t<;>simp[ui]
theorem GH(t:Rx)(w:World)(hsz:dL t<=4000000)(hg:aV w (Out [])):Calls prog 72 #[aB t] w λe w' => e=.returned (.string (cc t))/\af w [] w' := by
 refine av (nt:=5) [.tmp 2] func72 rfl rfl rfl ?_;refine vR (iL (dp t+1) (xn _)) aR ?_;refine wR (iL (dp t+1) (xn _)) (aa aR @OW) ?_ ?_
 ·exact⟨oM,hsz,hg⟩
 refine wZ aR ?_;exact λE=>rfl
noncomputable def j7:bu prog 72 where
 pre:=λW bs=>λ| [.val y0]=>(match dec aB y0 with|some t=>dL t<=4000000/\aV W (Out bs)|_=>False)|_=>False
 res:=λW=>λ| [.val y0]=>(match dec aB y0 with|some t=>.string (cc t)|_=>undef)|_=>undef
 enters:=call72
 ok:=by
  intro W w bs us as_ hk hu hp;split at hp
  ·rename_i y0;split at hp
   ·rename_i t h0
    match us,hu with
    |[u0],hu=>
     obtain⟨rfl,_⟩:=hu;obtain rfl:=ix h0
     try dsimp only
     try simp only[cG bX]
     exact GH t w hp.1 (hp.2.cP hk sI)
   ·exact hp.elim
  ·exact hp.elim
theorem CL(W:World)(t:Rx):j7.res W [.val (aB t)]=.string (cc t):=by simp only[j7,cG bX]
theorem CA(W:World)(bs:List Nat)(t:Rx):j7.pre W bs [.val (aB t)]=(dL t<=4000000/\aV W (Out bs)):=by simp only[j7,cG bX]
theorem GQ{s:ByteArray}{t:RT}(h:Qx s=.ok t):dL t.expand<=2000:=by
 have hd:nD (bt s) s.size (kp s)=.ok t:=h;have h1:=zd (c:=bt s) (N:=s.size) (rd:=kp s) oM;have hz:t.sz<=2000:=by
  unfold nD at hd;split at hd
  ·cases hd
  ·unfold mV at hd;split at hd
   ·cases hd
   ·split at hd
    ·cases hd
    ·split at hd
     ·cases hd
     ·simp only[Except.ok.injEq]at hd;rename_i hn;rw[<- hd];omega
 rw[hd]at h1;cases h2:rk (bt s) s.size (kp s) with
 |error e=>rw[h2]at h1;exact h1.elim
 |ok q=>
  rw[h2]at h1;obtain⟨ts,a1,a2,a3⟩:=h1;exact a1.small (List.mem_of_getElem? a3) hz
theorem zr(s:ByteArray):oC s=acH (Qx s):=Lf (sr s) oM
def sq(s:ByteArray):Bool:=match Qx s with
 |.ok t=>decide (cc t.expand=s)
 |.error _=>false
def rh(n m:Int):Bool:=decide (0<=n)&&decide (n<m)
def Vr:=(ak @List.replicate_succ.{0} @List.replicate_zero.{0} @aq @ae lP lM lA (ak dI dK dJ dG dr dt du (ak dq fq fu ft fh ff fm (ak wA xW vm vT Cb Bw Az (ak B7 s6 tN sZ tu tp tO (ak tj tM s3 vb vP uN yb (ak vV u5 xo xZ mU Ex EF (oR Dl Dq @a6 @aw @aD @aE))))))))
theorem HP(n m:Int)(w:World):Calls prog 31 #[.int .i64 n,.int .i64 m] w λe w' => e=.returned (.bool (rh n m))/\af w [] w' := by
 refine av (nt:=12) [.tmp 4] func31 rfl rfl rfl ?_;refine vR Γ0 Vr ?_;refine vR Γ0 Vr ?_;refine wZ Vr ?_;exact λE=>rfl
def Kq:bu prog 31 where
 pre:=λW bs=>λ| [.val (.int .i64 n),.val (.int .i64 m)]=>True|_=>False
 res:=λW=>λ| [.val (.int .i64 n),.val (.int .i64 m)]=>.bool (rh n m)|_=>undef
 enters:=call31
 ok:=by
  intro W w bs us as_ hk hu hp;split at hp
  ·rename_i n m
   match us,hu with
   |[u0,u1],hu=>
    obtain⟨rfl,rfl,_⟩:=hu;exact HP n m w
  ·exact hp.elim
theorem Em(W:World)(n:Int)(m:Int):Kq.res W [.val (.int .i64 n),.val (.int .i64 m)]=.bool (rh n m):=rfl
theorem DI(W:World)(bs:List Nat)(n:Int)(m:Int):Kq.pre W bs [.val (.int .i64 n),.val (.int .i64 m)]=(True):=rfl
def dR(op:Int):ByteArray×ByteArray:=
 if op=0 then (⟨#[104,97,108,116]⟩,⟨#[]⟩)
 else if op=1 then (⟨#[99,97,108,108]⟩,⟨#[97]⟩)
 else if op=2 then (⟨#[114,101,116]⟩,⟨#[]⟩)
 else if op=3 then (⟨#[106,117,109,112]⟩,⟨#[97]⟩)
 else if op=4 then (⟨#[101,109,105,116]⟩,⟨#[107]⟩)
 else if op=5 then (⟨#[100,114,111,112]⟩,⟨#[107]⟩)
 else if op=6 then (⟨#[116,101,120,116]⟩,⟨#[120]⟩)
 else if op=7 then (⟨#[112,117,115,104]⟩,⟨#[107,120]⟩)
 else if op=8 then (⟨#[100,117,112]⟩,⟨#[107]⟩)
 else if op=9 then (⟨#[102,108,105,112]⟩,⟨#[107]⟩)
 else if op=10 then (⟨#[109,111,118,101]⟩,⟨#[107]⟩)
 else if op=11 then (⟨#[111,112,101,110]⟩,⟨#[]⟩)
 else if op=12 then (⟨#[116,97,107,101]⟩,⟨#[107]⟩)
 else if op=13 then (⟨#[108,111,119,101,114]⟩,⟨#[107]⟩)
 else if op=14 then (⟨#[99,117,116]⟩,⟨#[107,116,116]⟩)
 else if op=15 then (⟨#[105,110]⟩,⟨#[107,116,97]⟩)
 else if op=16 then (⟨#[99,104,117,110,107]⟩,⟨#[107,116]⟩)
 else if op=17 then (⟨#[109,111,114,101]⟩,⟨#[97]⟩)
 else if op=18 then (⟨#[122,105,112]⟩,⟨#[]⟩)
 else if op=19 then (⟨#[97,108,105,103,110]⟩,⟨#[97,97]⟩)
 else if op=20 then (⟨#[112,108,97,110]⟩,⟨#[97,97]⟩)
 else (⟨#[]⟩,⟨#[]⟩)
def aP:=(dx Vr @Em @DI)
theorem Qw(op:Int)(w:World):Calls prog 70 #[.int .i64 op] w λe w' => e=.returned (.tuple #[.string (dR op).1,.string (dR op).2])/\af w [] w' := by
 refine av (nt:=47) [.tmp 2,.tmp 3] func70 rfl rfl rfl ?_;refine vR Γ0 aP ?_;refine Wp.seq ?_;refine vR Γ0 aP ?_;refine Wp.block ?_;unfold dR;refine vR Γ0 aP ?_;refine wC aP (λhc=>?_) (λhc=>?_)
 ·have h:op=0:=by simpa using hc
  rw[if_pos h];refine vR Γ0 aP ?_;refine wZ aP ?_;exact λE=>rfl
 rw[if_neg (show ¬ op=0 by simpa using hc)];clear hc;refine vR Γ0 aP ?_;refine wC aP (λhc=>?_) (λhc=>?_)
 ·have h:op=1:=by simpa using hc
  rw[if_pos h];refine vR Γ0 aP ?_;refine wZ aP ?_;exact λE=>rfl
 rw[if_neg (show ¬ op=1 by simpa using hc)];clear hc;refine vR Γ0 aP ?_;refine wC aP (λhc=>?_) (λhc=>?_)
 ·have h:op=2:=by simpa using hc
  rw[if_pos h];refine vR Γ0 aP ?_;refine wZ aP ?_;exact λE=>rfl
 rw[if_neg (show ¬ op=2 by simpa using hc)];clear hc;refine vR Γ0 aP ?_;refine wC aP (λhc=>?_) (λhc=>?_)
 ·have h:op=3:=by simpa using hc
  rw[if_pos h];refine vR Γ0 aP ?_;refine wZ aP ?_;exact λE=>rfl
 rw[if_neg (show ¬ op=3 by simpa using hc)];clear hc;refine vR Γ0 aP ?_;refine wC aP (λhc=>?_) (λhc=>?_)
 ·have h:op=4:=by simpa using hc
  rw[if_pos h];refine vR Γ0 aP ?_;refine wZ aP ?_;exact λE=>rfl
 rw[if_neg (show ¬ op=4 by simpa using hc)];clear hc;refine vR Γ0 aP ?_;refine wC aP (λhc=>?_) (λhc=>?_)
 ·have h:op=5:=by simpa using hc
  rw[if_pos h];refine vR Γ0 aP ?_;refine wZ aP ?_;exact λE=>rfl
 rw[if_neg (show ¬ op=5 by simpa using hc)];clear hc;refine vR Γ0 aP ?_;refine wC aP (λhc=>?_) (λhc=>?_)
 ·have h:op=6:=by simpa using hc
  rw[if_pos h];refine vR Γ0 aP ?_;refine wZ aP ?_;exact λE=>rfl
 rw[if_neg (show ¬ op=6 by simpa using hc)];clear hc;refine vR Γ0 aP ?_;refine wC aP (λhc=>?_) (λhc=>?_)
 ·have h:op=7:=by simpa using hc
  rw[if_pos h];refine vR Γ0 aP ?_;refine wZ aP ?_;exact λE=>rfl
 rw[if_neg (show ¬ op=7 by simpa using hc)];clear hc;refine vR Γ0 aP ?_;refine wC aP (λhc=>?_) (λhc=>?_)
 ·have h:op=8:=by simpa using hc
  rw[if_pos h];refine vR Γ0 aP ?_;refine wZ aP ?_;exact λE=>rfl
 rw[if_neg (show ¬ op=8 by simpa using hc)];clear hc;refine vR Γ0 aP ?_;refine wC aP (λhc=>?_) (λhc=>?_)
 ·have h:op=9:=by simpa using hc
  rw[if_pos h];refine vR Γ0 aP ?_;refine wZ aP ?_;exact λE=>rfl
 rw[if_neg (show ¬ op=9 by simpa using hc)];clear hc;refine vR Γ0 aP ?_;refine wC aP (λhc=>?_) (λhc=>?_)
 ·have h:op=10:=by simpa using hc
  rw[if_pos h];refine vR Γ0 aP ?_;refine wZ aP ?_;exact λE=>rfl
 rw[if_neg (show ¬ op=10 by simpa using hc)];clear hc;refine vR Γ0 aP ?_;refine wC aP (λhc=>?_) (λhc=>?_)
 ·have h:op=11:=by simpa using hc
  rw[if_pos h];refine vR Γ0 aP ?_;refine wZ aP ?_;exact λE=>rfl
 rw[if_neg (show ¬ op=11 by simpa using hc)];clear hc;refine vR Γ0 aP ?_;refine wC aP (λhc=>?_) (λhc=>?_)
 ·have h:op=12:=by simpa using hc
  rw[if_pos h];refine vR Γ0 aP ?_;refine wZ aP ?_;exact λE=>rfl
 rw[if_neg (show ¬ op=12 by simpa using hc)];clear hc;refine vR Γ0 aP ?_;refine wC aP (λhc=>?_) (λhc=>?_)
 ·have h:op=13:=by simpa using hc
  rw[if_pos h];refine vR Γ0 aP ?_;refine wZ aP ?_;exact λE=>rfl
 rw[if_neg (show ¬ op=13 by simpa using hc)];clear hc;refine vR Γ0 aP ?_;refine wC aP (λhc=>?_) (λhc=>?_)
 ·have h:op=14:=by simpa using hc
  rw[if_pos h];refine vR Γ0 aP ?_;refine wZ aP ?_;exact λE=>rfl
 rw[if_neg (show ¬ op=14 by simpa using hc)];clear hc;refine vR Γ0 aP ?_;refine wC aP (λhc=>?_) (λhc=>?_)
 ·have h:op=15:=by simpa using hc
  rw[if_pos h];refine vR Γ0 aP ?_;refine wZ aP ?_;exact λE=>rfl
 rw[if_neg (show ¬ op=15 by simpa using hc)];clear hc;refine vR Γ0 aP ?_;refine wC aP (λhc=>?_) (λhc=>?_)
 ·have h:op=16:=by simpa using hc
  rw[if_pos h];refine vR Γ0 aP ?_;refine wZ aP ?_;exact λE=>rfl
 rw[if_neg (show ¬ op=16 by simpa using hc)];clear hc;refine vR Γ0 aP ?_;refine wC aP (λhc=>?_) (λhc=>?_)
 ·have h:op=17:=by simpa using hc
  rw[if_pos h];refine vR Γ0 aP ?_;refine wZ aP ?_;exact λE=>rfl
 rw[if_neg (show ¬ op=17 by simpa using hc)];clear hc;refine vR Γ0 aP ?_;refine wC aP (λhc=>?_) (λhc=>?_)
 ·have h:op=18:=by simpa using hc
  rw[if_pos h];refine vR Γ0 aP ?_;refine wZ aP ?_;exact λE=>rfl
 rw[if_neg (show ¬ op=18 by simpa using hc)];clear hc;refine vR Γ0 aP ?_;refine wC aP (λhc=>?_) (λhc=>?_)
 ·have h:op=19:=by simpa using hc
  rw[if_pos h];refine vR Γ0 aP ?_;refine wZ aP ?_;exact λE=>rfl
 rw[if_neg (show ¬ op=19 by simpa using hc)];clear hc;refine vR Γ0 aP ?_;refine wC aP (λhc=>?_) (λhc=>?_)
 ·have h:op=20:=by simpa using hc
  rw[if_pos h];refine vR Γ0 aP ?_;refine wZ aP ?_;exact λE=>rfl
 rw[if_neg (show ¬ op=20 by simpa using hc)];clear hc;refine wK ?_;refine vR Γ0 aP ?_;refine wZ aP ?_;exact λE=>rfl
def ZG:bu prog 70 where
 pre:=λW bs=>λ| [.val (.int .i64 op)]=>True|_=>False
 res:=λW=>λ| [.val (.int .i64 op)]=>.tuple #[.string (dR op).1,.string (dR op).2]|_=>undef
 enters:=call70
 ok:=by
  intro W w bs us as_ hk hu hp;split at hp
  ·rename_i op
   match us,hu with
   |[u0],hu=>
    obtain⟨rfl,_⟩:=hu;exact Qw op w
  ·exact hp.elim
theorem MZ(W:World)(op:Int):ZG.res W [.val (.int .i64 op)]=.tuple #[.string (dR op).1,.string (dR op).2]:=rfl
theorem K2(W:World)(bs:List Nat)(op:Int):ZG.pre W bs [.val (.int .i64 op)]=(True):=rfl
abbrev pgV (a1 a2 a3:Option Addr)(n1 n2 n3 c1 c2 c3:Nat)(s v:Int):Value:=.agg #[.slice a1 n1 c1,.slice a2 n2 c2,.slice a3 n3 c3,.int .i64 s,.int .i64 v]
def od(n1 n2 n3:Nat)(u n:Int):Bool:=if u=1 then rh n n3 else if u=2 then rh n n1 else if u=3 then rh n n2 else decide (n=0)
def iA:=(dx aP @MZ @K2)
theorem O5(a1 a2 a3:Option Addr)(n1 n2 n3 c1 c2 c3:Nat)(s v u n:Int)(w:World):Calls prog 73 #[pgV a1 a2 a3 n1 n2 n3 c1 c2 c3 s v,.int .i64 u,.int .i64 n] w λe w' => e=.returned (.bool (od n1 n2 n3 u n))/\af w [] w' := by
 refine av (nt:=33) [.tmp 6] func73 rfl rfl rfl ?_;refine vR Γ0 iA ?_;refine vR Γ0 iA ?_;by_cases hu:u=1\/u=2\/u=3
 ·obtain⟨m,hm⟩:∃ m:Nat,m=if u=1 then n3 else if u=2 then n1 else n2:=⟨_,rfl⟩;have e:od n1 n2 n3 u n=rh n m:=by
   rw[od];rcases hu with h|h|h
   ·rw[hm,if_pos h,if_pos h]
   ·rw[hm,if_neg oM,if_pos h,if_neg oM,if_pos h]
   ·rw[hm,if_neg oM,if_neg oM,if_pos h,if_neg oM,if_neg oM]
  rw[e];refine dB ⟨60,cL [(2,.is (.v (.int .i64 n))),(7,.is (.v (.int .i64 (m:Nat))))],cf []⟩ ?_ ?_
  ·skip;refine vR Γ0 iA ?_;refine Wp.block ?_;refine vR Γ0 iA ?_;refine wC iA (λhc=>?_) (λhc=>?_)
   ·have h:u=1:=by simpa using hc
    rw[if_pos h]at hm;subst hm;refine vr Γ0 iA ?_;exact wM (λk=>.key k) iA
   have n1' : ¬ u=1:=by simpa using hc
   rw[if_neg n1']at hm;refine vR Γ0 iA ?_;refine wC iA (λhc=>?_) (λhc=>?_)
   ·have h:u=2:=by simpa using hc
    rw[if_pos h]at hm;subst hm;refine vr Γ0 iA ?_;exact wM (λk=>.key k) iA
   have n2' : ¬ u=2:=by simpa using hc
   rw[if_neg n2']at hm;refine vR Γ0 iA ?_;refine wC iA (λhc=>?_) (λhc=>?_)
   ·subst hm;refine vr Γ0 iA ?_;exact wM (λk=>.key k) iA
   ·exact absurd (by omega:u=3) (by simpa using hc)
  refine vR Γ0 iA ?_;refine wZ iA ?_;exact λE=>rfl
 ·have e:od n1 n2 n3 u n=decide (n=0):=by rw[od,if_neg oM,if_neg oM,if_neg oM]
  rw[e];refine Wp.seq ?_;refine vR Γ0 iA ?_;refine Wp.block ?_;refine vR Γ0 iA ?_;refine wC iA (λhc=>?_) (λhc=>?_)
  ·exact absurd (.inl (by simpa using hc)) hu
  refine vR Γ0 iA ?_;refine wC iA (λhc=>?_) (λhc=>?_)
  ·exact absurd (.inr (.inl (by simpa using hc))) hu
  refine vR Γ0 iA ?_;refine wC iA (λhc=>?_) (λhc=>?_)
  ·exact absurd (.inr (.inr (by simpa using hc))) hu
  refine vR Γ0 iA ?_;refine wZ iA ?_;exact λE=>rfl
def zU:bu prog 73 where
 pre:=λW bs as_=>∃ (a1 a2 a3:Option Addr) (n1 n2 n3 c1 c2 c3:Nat) (s v u n:Int),as_=[.val (pgV a1 a2 a3 n1 n2 n3 c1 c2 c3 s v),.val (.int .i64 u),.val (.int .i64 n)]
 res:=λ_ as_=>match as_ with
  |[.val (.agg arr),.val (.int _ u),.val (.int _ n)]=>(match arr.toList with
   |[.slice _ n1 _,.slice _ n2 _,.slice _ n3 _,_,_]=>.bool (od n1 n2 n3 u n)
   |_=>undef)
  |_=>undef
 enters:=call73
 ok:=by
  intro W w bs us as_ hk hu hp;obtain⟨a1,a2,a3,n1,n2,n3,c1,c2,c3,s,v,u,n,rfl⟩:=hp
  match us,hu with
  |[x,y,z],hu=>
   obtain⟨rfl,rfl,rfl,_⟩:=hu;exact O5 a1 a2 a3 n1 n2 n3 c1 c2 c3 s v u n w
section
variable (W:World)(bs:List Nat)(a1 a2 a3:Option Addr)(n1 n2 n3 c1 c2 c3:Nat)(s v u n:Int)
theorem yT:zU.pre W bs [.val (.agg #[.slice a1 n1 c1,.slice a2 n2 c2,.slice a3 n3 c3,.int .i64 s,.int .i64 v]),.val (.int .i64 u),.val (.int .i64 n)]=True:=eq_true ⟨a1,a2,a3,n1,n2,n3,c1,c2,c3,s,v,u,n,rfl⟩
theorem zk:zU.res W [.val (.agg #[.slice a1 n1 c1,.slice a2 n2 c2,.slice a3 n3 c3,.int .i64 s,.int .i64 v]),.val (.int .i64 u),.val (.int .i64 n)]=.bool (od n1 n2 n3 u n):=rfl
end
def Yg:List (ByteArray×Bool×Int×Int):=[(⟨#[104,97,108,116]⟩,false,0,0),(⟨#[99,97,108,108]⟩,false,1,0),(⟨#[114,101,116]⟩,false,0,0),(⟨#[106,117,109,112]⟩,false,1,0),(⟨#[101,109,105,116]⟩,true,0,0),(⟨#[100,114,111,112]⟩,true,0,0),(⟨#[116,101,120,116]⟩,false,3,0),(⟨#[112,117,115,104]⟩,true,3,0),(⟨#[100,117,112]⟩,true,0,0),(⟨#[102,108,105,112]⟩,true,0,0),(⟨#[109,111,118,101]⟩,true,0,0),(⟨#[111,112,101,110]⟩,false,0,0),(⟨#[116,97,107,101]⟩,true,0,0),(⟨#[108,111,119,101,114]⟩,true,0,0),(⟨#[99,117,116]⟩,true,2,2),(⟨#[105,110]⟩,true,2,1),(⟨#[99,104,117,110,107]⟩,true,2,0),(⟨#[109,111,114,101]⟩,false,1,0),(⟨#[122,105,112]⟩,false,0,0),(⟨#[97,108,105,103,110]⟩,false,1,1),(⟨#[112,108,97,110]⟩,false,1,1)]
def dn(n:Nat):ByteArray×Bool×Int×Int:=Yg.getD n (⟨#[]⟩,false,0,0)
def c8(W:World)(S:Nat->Prop):Prop:=S 0/\∀ n<21,W.cell? ⟨0,n*4,none⟩=some (.string (dn n).1)/\W.cell? ⟨0,n*4+1,none⟩=some (.bool (dn n).2.1)/\W.cell? ⟨0,n*4+2,none⟩=some (.int .i64 (dn n).2.2.1)/\W.cell? ⟨0,n*4+3,none⟩=some (.int .i64 (dn n).2.2.2)
theorem c8.mono{W W' : World}{S S' : Nat->Prop}(h:c8 W S)(hs:bV W S W' S'):c8 W' S' := by
 obtain⟨h0,h1⟩:=h;have g:∀ o v,W.cell? ⟨0,o,none⟩=some v->W'.cell? ⟨0,o,none⟩=some v/\S' 0:=λo v hv=>by
  have:=XC.mono (b:=0) (o:=o) (v:=v) ⟨h0,hv⟩ hs;exact⟨this.2,this.1⟩
 refine⟨(g _ _ (h1 0 oM).1).2,λn hn=>?_⟩;obtain⟨a,b,c,d⟩:=h1 n hn;exact⟨(g _ _ a).1,(g _ _ b).1,(g _ _ c).1,(g _ _ d).1⟩
theorem c8.cP{W w:World}{bs fp:List Nat}(h:c8 W (Out bs))(hk:af W bs w)(hm:∀ b∈fp,W.heap.size<=b\/b∈bs):c8 w (Out fp):=
 h.mono λb hb hs=>⟨hk.block b hb hs,λhb' => (hm b hb').elim (λg=>absurd g (Nat.not_le.2 hb)) hs⟩
def qf(n1 n2 n3:Nat)(op k a b:Int):Bool:=
 decide (0<=op/\op<21)&&(decide (k=0)||((dn op.toNat).2.1&&decide (k=1)))&&(od n1 n2 n3 (dn op.toNat).2.2.1 a&&od n1 n2 n3 (dn op.toNat).2.2.2 b)
abbrev inV (op k a b:Int):Value:=.agg #[.int .i64 op,.int .i64 k,.int .i64 a,.int .i64 b]
noncomputable def Zb:Env prog:=⟨λ| 73=>some zU.spec|_=>none,λ| _=>none,λ_ _=>none⟩
theorem abS:Zb.sp 73=some zU.spec:=rfl
def tc:=(ak @List.replicate_succ.{0} @List.replicate_zero.{0} @aq @ae lP lM lA (ak dI dK dJ dG dr dt du (ak dq s6 tN sZ tu tp tO (ak tj tM s3 vb vP uN yb (ak vV u5 xo xZ mU Ex EF (ak Dl Dq RZ Tl PR Ql Q6 (ak Tn Oj Pd Sc TJ Sx @a6 (oR @aw @aD @aE @zk @yT abS))))))))
theorem NN(a1 a2 a3:Option Addr)(n1 n2 n3 c1 c2 c3:Nat)(s v op k a b:Int)(w:World)(hg:c8 w (Out [])):Calls prog 74 #[pgV a1 a2 a3 n1 n2 n3 c1 c2 c3 s v,inV op k a b] w λe w' => e=.returned (.bool (qf n1 n2 n3 op k a b))/\af w [] w' := by
 refine av (nt:=45) [.tmp 4] func74 rfl rfl rfl ?_;refine vR Zb tc ?_;refine Wp.seq ?_;refine vR Zb tc ?_;refine wC tc (λhc=>?_) (λhc=>?_)
 ·have h:¬ (0<=op/\op<21):=by simp at hc;omega
  have e:qf n1 n2 n3 op k a b=false:=by rw[qf,decide_eq_false h];rfl
  rw[e];refine vR Zb tc ?_;refine wZ tc ?_;exact λE=>rfl
 have h:0<=op/\op<21:=by simp at hc;omega
 obtain⟨n,rfl⟩:=Int.eq_ofNat_of_zero_le h.1;obtain⟨g1,g2,g3,g4⟩:=hg.2 n oM;refine wK ?_;refine wR Zb (ym tc g1 g2 g3 g4) ?_ ?_
 ·omega
 have hs:qf n1 n2 n3 n k a b=((decide (k=0)||((dn n).2.1&&decide (k=1)))&&(od n1 n2 n3 (dn n).2.2.1 a&&od n1 n2 n3 (dn n).2.2.2 b)):=by
  rw[qf,decide_eq_true h,Bool.true_and,Int.toNat_natCast]
 rw[hs];generalize (dn n).2.1=st at *;generalize (dn n).2.2.1=u1 at *;generalize (dn n).2.2.2=u2 at *;have hk:(decide (k=0)||(st&&decide (k=1)))=!(!decide (k=0)&&(!st||!decide (k=1))):=by
  cases st<;>cases decide (k=0)<;>cases decide (k=1)<;>rfl
 rw[hk];refine Wp.seq ?_;refine vR Zb tc ?_;refine wC tc (λhc=>?_) (λhc=>?_)
 ·rw[hc];refine vR Zb tc ?_;refine wZ tc ?_;exact λE=>rfl
 ·rw[hc];refine wK ?_;refine vR Zb tc ?_;refine wZ tc ?_;exact λE=>rfl
def A1:bu prog 74 where
 pre:=λW bs as_=>(∃ (a1 a2 a3:Option Addr) (n1 n2 n3 c1 c2 c3:Nat) (s v op k a b:Int),as_=[.val (pgV a1 a2 a3 n1 n2 n3 c1 c2 c3 s v),.val (inV op k a b)])/\c8 W (Out bs)
 res:=λ_ as_=>match as_ with
  |[.val (.agg arr),.val (.agg ins)]=>(match arr.toList,ins.toList with
   |[.slice _ n1 _,.slice _ n2 _,.slice _ n3 _,_,_],[.int _ op,.int _ k,.int _ a,.int _ b]=>.bool (qf n1 n2 n3 op k a b)
   |_,_=>undef)
  |_=>undef
 enters:=call74
 ok:=by
  intro W w bs us as_ hk hu hp;obtain⟨⟨a1,a2,a3,n1,n2,n3,c1,c2,c3,s,v,op,k,a,b,rfl⟩,hg⟩:=hp
  match us,hu with
  |[x,y],hu=>
   obtain⟨rfl,rfl,_⟩:=hu;exact NN a1 a2 a3 n1 n2 n3 c1 c2 c3 s v op k a b w (hg.cP hk sI)
section
variable (W:World)(bs:List Nat)(a1 a2 a3:Option Addr)(n1 n2 n3 c1 c2 c3:Nat)(s v op k a b:Int)
theorem FH:A1.pre W bs [.val (.agg #[.slice a1 n1 c1,.slice a2 n2 c2,.slice a3 n3 c3,.int .i64 s,.int .i64 v]),.val (.agg #[.int .i64 op,.int .i64 k,.int .i64 a,.int .i64 b])]=c8 W (Out bs):=
 propext ⟨λh=>h.2,λh=>⟨⟨a1,a2,a3,n1,n2,n3,c1,c2,c3,s,v,op,k,a,b,rfl⟩,h⟩⟩
theorem Hc:A1.res W [.val (.agg #[.slice a1 n1 c1,.slice a2 n2 c2,.slice a3 n3 c3,.int .i64 s,.int .i64 v]),.val (.agg #[.int .i64 op,.int .i64 k,.int .i64 a,.int .i64 b])]=.bool (qf n1 n2 n3 op k a b):=rfl
end
section
variable (n1 n2 n3:Nat)
end
section
variable (W:World)(bs:List Nat)(a1 a2 a3:Option Addr)(n1 n2 n3 c1 c2 c3:Nat)(s v op k a b:Int)
end
end
end Go.Proofs.YtnemkecffmdlnaaGreatDoor
