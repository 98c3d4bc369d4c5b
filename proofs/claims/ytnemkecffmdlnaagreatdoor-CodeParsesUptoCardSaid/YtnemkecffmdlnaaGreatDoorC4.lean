/-
 Part 4 of the proof (packed).
-/
import Derived.Test.YtnemkecffmdlnaaGreatDoorC3
set_option linter.unusedSimpArgs false
set_option linter.unusedVariables false
set_option linter.defProp false
set_option maxHeartbeats 16000000
namespace Go.Proofs.YtnemkecffmdlnaaGreatDoor
section
open Go.RowKit Go.LE Go.Proofs.Tryz
set_option maxRecDepth 10000
noncomputable def Γ42(G:Nat->Prop)(x y a:RL):Env prog:=⟨λ| 249=>some ((oB .eps).spec G)|180=>some ((iW .cat x y).spec G)|260=>some ((zM a).spec G)|261=>some ((uD a).spec G)|_=>none,λ_=>none,λ_ _=>none⟩
theorem ag6(G:Nat->Prop)(x y a:RL):(Γ42 G x y a).sp 249=some ((oB .eps).spec G):=rfl
theorem ahc(G:Nat->Prop)(x y a:RL):(Γ42 G x y a).sp 180=some ((iW .cat x y).spec G):=rfl
theorem acd(G:Nat->Prop)(x y a:RL):(Γ42 G x y a).sp 260=some ((zM a).spec G):=rfl
theorem adS(G:Nat->Prop)(x y a:RL):(Γ42 G x y a).sp 261=some ((uD a).spec G):=rfl
theorem ph(a:RL):(gf a).1<=2001:=kX _
theorem mR(a:RL):(bM a).1<=2001:=kX _
structure TI where
 W:World
 bs:List Nat
 fo:Value
 j:Nat
def cD:=(aj @List.replicate_succ.{0} @List.replicate_zero.{0} @an @ab jo jl gS (aj ca cc b9 cg cf cj cd (aj ck vY vX vN wU sZ sK (aj sE sU tI sX P2 Qt Pa (aj OY Pm Ov PY Dt DE Da (aj @aG @al @ay @ax @ig @oB.eq_1 @iW.eq_1 (mh @zM.eq_1 @uD.eq_1 @ag6 @ahc @acd @adS)))))))
theorem TB(a:RL)(m n:Int)(fa:Value)(ha:a.1<=2001)(hm0:0<=m)(hm1:m<=255)(hn0:-1<=n)(hn1:n<=255)(w:World)(S:Nat->Prop)(h1:bJ w S fa a.2) :
  Calls prog 266 #[je a fa,.int .i64 m,.int .i64 n] w λe w' => rA w S e w' (.fact Sh.two (dU (dy a m n))):=by
 have ga:partsOf (.v (je a fa))=[.v (.int .i64 (a.1:Nat)),.v fa]:=rfl;have u0:=eP.up w S;have g0:=h1.mono (eP.lA w S);refine jz (nt:=55) S [.cell 6 254] func266 rfl rfl rfl ?_;refine vR Γ0 (aa cD ga) ?_;refine Wp.seq ?_;refine vR Γ0 cD ?_;refine wC cD (λhc=>?_) (λhc=>?_)
 ·have hc' : m=0/\n<0:=by simpa using hc
  have hR:dy a m n=gf a:=by rw[dy,if_pos hc']
  rw[hR];refine wR (Γ42 (eP w S) a a a) (aa cD ga) ?_ ?_
  ·exact⟨⟨cr g0,ha,_,rfl⟩,u0⟩
  refine Wp.ji 72 (ev (aa cD ga)) (cT.refl _ _) λW1 bs1 cs hx1 hΦ=>?_
  obtain⟨fv,rfl,hg,hv1⟩:=cI hΦ;refine wZ (bQ cD ga hv1) ?_;exact nH hg
 ·have hc1:¬ (m=0/\n<0):=by simpa using hc
  refine wK ?_;refine Wp.seq ?_;refine vR Γ0 cD ?_;refine wC cD (λhc=>?_) (λhc=>?_)
  ·have hc' : m=0/\n=0:=by simpa using hc
   have hR:dy a m n=bY .eps:=by rw[dy,if_neg hc1,if_pos hc']
   rw[hR];refine wR (Γ42 (eP w S) a a a) (aa cD ga) ?_ ?_
   ·exact⟨rfl,u0⟩
   refine Wp.ji 128 (ev (aa cD ga)) (cT.refl _ _) λW1 bs1 cs hx1 hΦ=>?_
   obtain⟨fv,rfl,hg,hv1⟩:=cI hΦ;refine wZ (bQ cD ga hv1) ?_;exact nH hg
  ·have hc2:¬ (m=0/\n=0):=by simpa using hc
   refine wK ?_;refine wR Γ0 (aa cD ga) ?_ ?_
   ·exact h1.one
   refine vR Γ0 cD ?_;generalize hr0:(if m=0 then bM a else a)=r0;have hr0' : r0.1<=2001:=by rw[<- hr0];split;exact mR a;exact ha
   refine kK (λp:TI=>⟨20,bm [(1,.is (.v (.int .i64 m))),(2,.is (.v (.int .i64 n))),(3,.is (.own 0 0)),(6,.is (.own 8 0)),(7,.is (.own 120 0)),(8,.is (.v (.int .i64 1)))],aY [(0,.cells 254 [.v (.int .i64 (a.1:Nat)),.v fa]),(8,.cells 254 [.v (.int .i64 0),.v .nilFunc]),(120,.cells 254 [.v (.int .i64 (r0.1:Nat)),.v p.fo])]⟩) TI.W TI.bs
    (λp=>bJ p.W (jk (eP w S) p.bs) p.fo r0.2) ?_ ?_
   ·skip;refine vR Γ0 cD ?_;refine wC cD (λhc=>?_) (λhc=>?_)
    ·have hm:m=0:=by simpa using hc
     rw[if_pos hm]at hr0;subst hr0;refine Wp.more ?_;refine wr (Γ42 (eP w S) a a a) (aa cD ga) ?_ ?_
     ·exact⟨⟨cr g0,ha,_,rfl⟩,u0⟩
     refine fH ?_;refine Pw.ji 168 (ev (aa cD ga)) (cT.refl _ _) λW1 bs1 cs hx1 hΦ=>?_
     obtain⟨fv,rfl,hg,hv1⟩:=cI hΦ;refine Pw.here ?_;refine qq ?_;refine⟨⟨W1,bs1,fv,0⟩,hg,rfl,rfl,?_⟩;exact wM (λk=>.key k) (bQ cD ga hv1)
    ·have hm:¬ m=0:=by simpa using hc
     rw[if_neg hm]at hr0;subst hr0;refine wK ?_;refine⟨⟨w,[],fa,0⟩,g0,rfl,rfl,?_⟩;exact wM (λk=>.key k) (aa cD ga)
   rintro⟨W0,bs0,fo,j0⟩ hfo hx0;simp only at hfo hx0;dsimp only;have hR1:dy a m n=if n<0 then aX .cat (bH (λx=>aX .cat x a) (m-1).toNat r0) (gf a) else bH (λx=>aX .cat x (bM a)) (n-max m 1).toNat (bH (λx=>aX .cat x a) (m-1).toNat r0):=by
    rw[dy,if_neg hc1,if_neg hc2,hr0]
   have hi1:∀ k,(bH (λx=>aX .cat x a) k r0).1<=2001:=λk=>pt _ (λx=>gj _ _ _) k r0 hr0'
   refine Wp.seq (Wp.block ?_)
   refine Wp.De (λp:TI=>⟨23,bm [(1,.is (.v (.int .i64 m))),(2,.is (.v (.int .i64 n))),(3,.is (.own 0 0)),(6,.is (.own 8 0)),(7,.is (.own 120 0)),(8,.is (.v (.int .i64 ((p.j:Nat)+1))))],aY [(0,.cells 254 [.v (.int .i64 (a.1:Nat)),.v fa]),(8,.cells 254 [.v (.int .i64 0),.v .nilFunc]),(120,.cells 254 [.v (.int .i64 ((bH (λx=>aX .cat x a) p.j r0).1:Nat)),.v p.fo])]⟩)
    TI.W TI.bs (λp=>p.j<=(m-1).toNat/\bJ p.W (jk (eP w S) p.bs) p.fo (bH (λx=>aX .cat x a) p.j r0).2) (λp=>(m-1).toNat-p.j) ⟨W0,bs0,fo,0⟩ rfl rfl ?_ ⟨Nat.zero_le _,hfo⟩ ?_
   ·exact wM (λk=>.key k) (oy cD @bH.eq_1 @bH.eq_2 @Int.natCast_zero @Int.zero_add)
   rintro⟨W1,bs1,fo1,j⟩ ⟨hj,hfo1⟩ hx1;simp only at hj hfo1 hx1;dsimp only;have hx01:=hx0.trans hx1;have u1:=u0.ext hx01;have g1:=g0.mono hx01.Gw;refine Wp.seq ?_;refine vR Γ0 cD ?_;refine wC cD (λhc=>?_) (λhc=>?_)
   ·have hjm:(j:Int)+1<m:=by simpa using hc
    refine wK ?_;refine Wp.seq (Wp.block ?_);refine Wp.more ?_;refine wr (Γ42 (eP w S) (bH (λx=>aX .cat x a) j r0) a a) (aa cD ga) ?_ ?_
    ·exact⟨⟨⟨cr hfo1,cr g1⟩,⟨hi1 j,ha⟩,_,_,rfl⟩,u1⟩
    refine fH ?_;refine Pw.ji 224 (ev (aa cD ga)) (cT.refl _ _) λW2 bs2 cs hx2 hΦ=>?_
    obtain⟨fv,rfl,hg,hv1⟩:=cI hΦ;refine Pw.here ?_;refine qq ?_;have wn:IntKind.i64.wrap ((j:Int)+1+1)=((j+1:Nat):Int)+1:=wW;have e:bH (λx=>aX .cat x a) (j+1) r0=aX Jn.cat.mk (bH (λx=>aX .cat x a) j r0) a:=rT _ _ _;refine vr Γ0 (aa cD wn) ?_
    refine⟨⟨W2,bs2,fv,j+1⟩,⟨by simp only;omega,by simp only;rw[e];exact hg⟩,by simp only;omega,rfl,rfl,?_⟩;exact wM (λk=>.key k) (eT cD ga hv1 e)
   ·have hjm:¬ (j:Int)+1<m:=by simpa using hc
    have hj' : j=(m-1).toNat:=oM;generalize hr1:bH (λx=>aX .cat x a) (m-1).toNat r0=r1 at hR1;have hr1' : r1.1<=2001:=by rw[<- hr1];exact hi1 _
    rw[hj',hr1]at hfo1;rw[hj',hr1];refine wE ?_;refine Wp.seq ?_;refine vR Γ0 cD ?_;refine wC cD (λhc=>?_) (λhc=>?_)
    ·have hn:n<0:=by simpa using hc
     rw[hR1,if_pos hn];refine kO (Γ42 (eP w S) r1 (gf a) a) (aa cD ga) ?_ ?_
     ·exact⟨⟨⟨cr g1,ha,_,rfl⟩,u1⟩,⟨cr hfo1,⟨hr1',ph a⟩,_,_,rfl⟩,u1⟩
     refine Wp.ji 248 (ev (aa cD ga)) (cT.refl _ _) λW2 bs2 cs hx2 hΦ=>?_
     obtain⟨fv,rfl,hg,hv1⟩:=cI hΦ;refine wZ (bQ cD ga hv1) ?_;exact nH hg
    ·have hn:¬ n<0:=by simpa using hc
     rw[hR1,if_neg hn];have hk0:((j:Nat):Int)+1=max m 1:=oM;have hi2:∀ k,(bH (λx=>aX .cat x (bM a)) k r1).1<=2001:=λk=>pt _ (λx=>gj _ _ _) k r1 hr1'
     refine wK ?_;rw[<- hj']at *;refine Wp.seq (Wp.block ?_)
     refine Wp.De (λp:TI=>⟨28,bm [(2,.is (.v (.int .i64 n))),(3,.is (.own 0 0)),(6,.is (.own 8 0)),(7,.is (.own 120 0)),(8,.is (.v (.int .i64 (((j:Nat):Int)+1+(p.j:Nat)))))],aY [(0,.cells 254 [.v (.int .i64 (a.1:Nat)),.v fa]),(8,.cells 254 [.v (.int .i64 0),.v .nilFunc]),(120,.cells 254 [.v (.int .i64 ((bH (λx=>aX .cat x (bM a)) p.j r1).1:Nat)),.v p.fo])]⟩)
      TI.W TI.bs (λp=>p.j<=(n-max m 1).toNat/\bJ p.W (jk (eP w S) p.bs) p.fo (bH (λx=>aX .cat x (bM a)) p.j r1).2) (λp=>(n-max m 1).toNat-p.j) ⟨W1,bs1,fo1,0⟩ rfl rfl ?_ ⟨Nat.zero_le _,hfo1⟩ ?_
     ·exact wM (λk=>.key k) (oy cD @bH.eq_1 @bH.eq_2 @Int.natCast_zero @Int.add_zero)
     rintro⟨W3,bs3,fo3,i⟩ ⟨hi,hfo3⟩ hx3;simp only at hi hfo3 hx3;dsimp only;have u3:=u1.ext hx3;have g3:=g1.mono hx3.Gw;refine Wp.seq ?_;refine vR Γ0 cD ?_;refine wC cD (λhc=>?_) (λhc=>?_)
     ·have hin:(j:Int)+1+i<n:=by simpa using hc
      refine wK ?_;refine Wp.seq (Wp.block ?_);refine Wp.more ?_;refine xv (Γ42 (eP w S) (bH (λx=>aX .cat x (bM a)) i r1) (bM a) a) (aa cD ga) ?_ ?_
      ·exact⟨⟨⟨cr g3,ha,_,rfl⟩,u3⟩,⟨cr hfo3,⟨hi2 i,mR a⟩,_,_,rfl⟩,u3⟩
      refine fH ?_;refine Pw.ji 272 (ev (aa cD ga)) (cT.refl _ _) λW4 bs4 cs hx4 hΦ=>?_
      obtain⟨fv,rfl,hg,hv1⟩:=cI hΦ;refine Pw.here ?_;refine qq ?_;have wn:IntKind.i64.wrap ((j:Int)+1+i+1)=(j:Int)+1+((i+1:Nat):Int):=wW;have e:bH (λx=>aX .cat x (bM a)) (i+1) r1=aX Jn.cat.mk (bH (λx=>aX .cat x (bM a)) i r1) (bM a):=rT _ _ _;refine vr Γ0 (aa cD wn) ?_
      refine⟨⟨W4,bs4,fv,i+1⟩,⟨by simp only;omega,by simp only;rw[e];exact hg⟩,by simp only;omega,rfl,rfl,?_⟩;exact wM (λk=>.key k) (eT cD ga hv1 e)
     ·have hin:¬ (j:Int)+1+i<n:=by simpa using hc
      have hi' : i=(n-max m 1).toNat:=oM;refine wE ?_;refine wR Γ0 cD ?_ ?_
      ·exact hfo3.one
      refine wZ cD ?_;rw[<- hi'];exact nH hfo3
def BF(a:RL):rr prog 266 where
 kinds:=[some (Sh.two,dU a),none,none]
 pre:=λas_ _ _=>a.1<=2001/\∃ x m n,as_=[x,.val (.int .i64 m),.val (.int .i64 n)]/\0<=m/\m<=255/\-1<=n/\n<=255
 premono:=λ_ _ _ _ _ _ h=>h
 out:=fun
  |[_,.val (.int .i64 m),.val (.int .i64 n)]=>.fact Sh.two (dU (dy a m n))
  |_=>.val undef
 enters:=call266
 ok:=by
  intro w S us as_ hu hp;obtain⟨ha,x,m,n,rfl,hp⟩:=hp
  match us,hu with
  |[u1,u2,u3],hu=>
   obtain⟨h1,rfl,rfl,_⟩:=hu;obtain⟨fa,rfl,h1'⟩:=l6 h1;exact TB a m n fa ha hp.1 hp.2.1 hp.2.2.1 hp.2.2.2 w S h1'
def two(g:Jn)(x y:Value):Value:=.iface g.T (.agg #[x,y])
theorem Yx(g:Jn)(a b:Rx):two g (aH a) (aH b)=aH (g.mk a b):=by cases g<;>rfl
def nJ:=(aj @List.replicate_succ.{0} @List.replicate_zero.{0} @an @ab jo jl vY (aj vX vN wU OM QO PC sZ (aj sK sE sU tI sX Wf ZW (aj Xu Zi YD UZ YK Zz aa0 (aj Vr ZB Zc YN Xr Y1 aaX (aj aaU Zu Wm Xv Zf aat Yi (aj ZS ZX Xt Y3 Vj U1 YT (aj WN V6 aaZ aae aaH aap VA (aj Xp XJ Yg X7 Wu Y5 VF (aj Dt DE Da @aG @al @ay @ax (bQ @jy (λt=>kG (bZ t)) @bZ)))))))))))
theorem aki(a b:Rx)(w:World):Calls prog 252 #[aH a,aH b] w λe w' => e=.returned (two .cat (aH a) (aH b))/\ah w [] w' := by
 refine af (nt:=9) [.tmp 4] func252 rfl rfl rfl ?_;refine vR Γ0 nJ ?_;refine vR Γ0 nJ ?_;refine wZ nJ ?_;exact λE=>rfl
theorem aj5(a b:Rx)(w:World):Calls prog 181 #[aH a,aH b] w λe w' => e=.returned (two .alt (aH a) (aH b))/\ah w [] w' := by
 refine af (nt:=9) [.tmp 4] func181 rfl rfl rfl ?_;refine vR Γ0 nJ ?_;refine vR Γ0 nJ ?_;refine wZ nJ ?_;exact λE=>rfl
theorem ajg(a b:Rx)(w:World):Calls prog 217 #[aH a,aH b] w λe w' => e=.returned (two .and (aH a) (aH b))/\ah w [] w' := by
 refine af (nt:=9) [.tmp 4] func217 rfl rfl rfl ?_;refine vR Γ0 nJ ?_;refine vR Γ0 nJ ?_;refine wZ nJ ?_;exact λE=>rfl
theorem U8(a b:Rx)(w:World):Calls prog 218 #[aH a,aH b] w λe w' => e=.returned (two .minus (aH a) (aH b))/\ah w [] w' := by
 refine af (nt:=9) [.tmp 4] func218 rfl rfl rfl ?_;refine vR Γ0 nJ ?_;refine vR Γ0 nJ ?_;refine wZ nJ ?_;exact λE=>rfl
theorem aiM:∀ (g:Jn) (a b:Rx) (w:World),Calls prog g.f #[aH a,aH b] w λe w' => e=.returned (two g (aH a) (aH b))/\ah w [] w'
 |.cat,a,b,w=>aki a b w
 |.alt,a,b,w=>aj5 a b w
 |.and,a,b,w=>ajg a b w
 |.minus,a,b,w=>U8 a b w
theorem Tr:∀ (g:Jn) args w,(callFunc g.f args).run prog w=.ok (.enter g.f args) w
 |.cat=>call252
 |.alt=>call181
 |.and=>call217
 |.minus=>call218
def mkC(g:Jn):aM prog g.f where
 pre:=λW bs as_=>∃ a b,as_=[.val (aH a),.val (aH b)]
 res:=λW=>λ| [.val x,.val y]=>two g x y|_=>undef
 enters:=Tr g
 ok:=by
  rintro W w bs us _ hk hu ⟨a,b,rfl⟩
  match us,hu with
  |[u,v],hu=>
   obtain⟨rfl,rfl,_⟩:=hu;exact aiM g a b w
theorem adT(g:Jn)(W:World)(x y:Value):(mkC g).res W [.val x,.val y]=two g x y:=rfl
theorem agX(g:Jn)(W:World)(bs:List Nat)(as_:List AV):(mkC g).pre W bs as_=∃ a b,as_=[.val (aH a),.val (aH b)]:=rfl
def dp:Rx->Nat
 |.eps=>0
 |.cls _=>0
 |.cat a b=>dp a+dp b+1
 |.alt a b=>dp a+dp b+1
 |.star a=>dp a+1
 |.and a b=>dp a+dp b+1
 |.minus a b=>dp a+dp b+1
theorem al7(g:Jn)(a b:Rx):dp (g.mk a b)=dp a+dp b+1:=by cases g<;>rfl
def kj(f:FuncId):Prop:=f=259\/f=220\/f=264
theorem bJ.shape{W:World}{S:Nat->Prop}{v:Value}{t:Rx}(h:bJ W S v t):∃ f cap,v=.func (.func f) #[] cap/\kj f:=by
 cases h with
 |leaf=>exact⟨_,_,rfl,.inl rfl⟩
 |join=>exact⟨_,_,rfl,.inr (.inl rfl)⟩
 |star=>exact⟨_,_,rfl,.inr (.inr rfl)⟩
theorem Hq{f:FuncId}(h:kj f):∀ args w,(callFunc f args).run prog w=.ok (.enter f args) w:=by
 rcases h with rfl|rfl|rfl
 ·exact call259
 ·exact call220
 ·exact call264
def jg(n:Nat):Prop:=∀ f cap w S t,bJ w S (.func (.func f) #[] cap) t->dp t<n->Calls prog f cap w λe w' => e=.returned (aH t)/\ah w [] w'
open Classical in
noncomputable def yv(W:World)(f:FuncId)(as_:List AV):Value:=
 if h:∃ (cap:List Value) (t:Rx),as_=cap.map .val/\bJ W (λ_=>True) (.func (.func f) #[] cap.toArray) t then aH h.choose_spec.choose else undef
theorem JO{l m:List Value}(h:l.map AV.val=m.map .val):l=m:=by
 have:=congrArg (List.map λ| AV.val v=>v|_=>undef) h;simpa [Function.comp_def] using this
theorem lC{W:World}{S:Nat->Prop}{f:FuncId}{cap:List Value}{t:Rx}(h:bJ W S (.func (.func f) #[] cap.toArray) t):yv W f (cap.map .val)=aH t:=by
 have h1:=h.mono (S' := λ_=>True) (W' := W) λb _ _=>⟨rfl,trivial⟩
 have hex:∃ (c:List Value) (t:Rx),cap.map AV.val=c.map .val/\bJ W (λ_=>True) (.func (.func f) #[] c.toArray) t:=⟨cap,t,rfl,h1⟩;rw[yv,dif_pos hex];obtain⟨g1,g2⟩:=hex.choose_spec.choose_spec;have key:∀ (c:List Value) (t' : Rx),cap=c->bJ W (λ_=>True) (.func (.func f) #[] c.toArray) t' -> t' = t:=by
  rintro _ t' rfl hg;exact (h1.fn hg).symm
 rw[key _ _ (JO g1) g2]
theorem xn{w:World}:∀ {us cap:List Value},fX w us (cap.map .val)->us=cap
 |[],[],_=>rfl
 |u::us,c::cap,h=>by rw[h.1,xn h.2]
 |[],_::_,h=>h.elim
 |_::_,[],h=>h.elim
noncomputable def Je(n:Nat)(ih:jg n)(f:FuncId)(hf:kj f):aM prog f where
 pre:=λW bs as_=>∃ (cap:List Value) (t:Rx),as_=cap.map .val/\bJ W (Out bs) (.func (.func f) #[] cap.toArray) t/\dp t<n
 res:=λW as_=>yv W f as_
 enters:=Hq hf
 ok:=by
  rintro W w bs us _ hk hu ⟨cap,t,rfl,hg,hd⟩;rw[lC hg,xn hu];exact ih f _ w (Out bs) t (hg.mono hk.lA) hd
open Classical in
noncomputable def N8(n:Nat)(ih:jg n)(f:FuncId):Option (Go.LE.Spec prog f):=if hf:kj f then some (Je n ih f hf).spec else none
theorem Sk(n:Nat)(ih:jg n)(f:FuncId)(hf:kj f):N8 n ih f=some (Je n ih f hf).spec:=dif_pos hf
noncomputable def Γ43(n:Nat)(ih:jg n):Env prog:=⟨λ| 252=>some (mkC .cat).spec|181=>some (mkC .alt).spec|217=>some (mkC .and).spec|218=>some (mkC .minus).spec|f=>N8 n ih f,λ_=>none,λ_ _=>none⟩
theorem aiK(n:Nat)(ih:jg n)(g:Jn):(Γ43 n ih).sp g.f=some (mkC g).spec:=by cases g<;>rfl
theorem tP(n:Nat)(ih:jg n)(f:FuncId)(hf:kj f):(Γ43 n ih).sp f=some (Je n ih f hf).spec:=by
 rw[<- Sk];rcases hf with rfl|rfl|rfl<;>rfl
theorem CF(n:Nat)(ih:jg n)(f:FuncId)(hf:kj f)(W:World)(as_:List AV):(Je n ih f hf).res W as_=yv W f as_:=rfl
theorem Cy(n:Nat)(ih:jg n)(f:FuncId)(hf:kj f)(W:World)(bs:List Nat)(as_:List AV):(Je n ih f hf).pre W bs as_=∃ (cap:List Value) (t:Rx),as_=cap.map .val/\bJ W (Out bs) (.func (.func f) #[] cap.toArray) t/\dp t<n:=rfl
theorem n8(h:Hp):∀ l:List Value,aC h (l.map .v)=some (l.map .val,[])
 |[]=>rfl
 |x::r=>by rw[List.map_cons,yC,n8 h r];rfl
theorem FC{W:World}{S:Nat->Prop}{v:Value}{t:Rx}(h:bJ W S v t):bJ W (Out []) v t:=h.mono λb _ _=>⟨rfl,by simp[Out]⟩
def tY:=(mh nJ @adT @agX @CF @Cy @aiK)
theorem RX(b:Nat)(t:Rx)(w:World)(S:Nat->Prop)(h:XC w S b 0 (aH t)):Calls prog 259 #[nO b] w λe w' => e=.returned (aH t)/\ah w [] w' := by
 have h1:w.cell? ⟨b,0,none⟩=some (aH t):=h.2;refine af (nt:=3) [.tmp 1] func259 rfl rfl rfl ?_;refine vR Γ0 (aa tY @nO.eq_1) ?_;refine vR Γ0 (bQ tY @nO.eq_1 h1) ?_;refine wZ tY ?_;exact λE=>rfl
theorem Sr(n:Nat)(ih:jg n)(b:Nat)(fa:Value)(ta:Rx)(w:World)(S:Nat->Prop)(h:XC w S b 1 fa)(hg:bJ w S fa ta)(hd:dp ta<n) :
  Calls prog 264 #[nO b] w λe w' => e=.returned (aH (.star ta))/\ah w [] w' := by
 have h1:w.cell? ⟨b,0+1,none⟩=some fa:=by rw[Nat.zero_add];exact h.2
 obtain⟨f,cap,rfl,hf⟩:=hg.shape;obtain⟨cap,rfl⟩:∃ l:List Value,cap=l.toArray:=⟨cap.toList,sI⟩;have hr:=lC hg;have hs:=tP n ih f hf;refine af (nt:=7) [.tmp 1] func264 rfl rfl rfl ?_;refine vR Γ0 (aa tY @nO.eq_1) ?_;refine wR (Γ43 n ih) (mh tY @nO.eq_1 h1 hs hr @n8) ?_ ?_
 ·exact⟨cap,ta,rfl,FC hg,hd⟩
 refine wZ tY ?_;exact λE=>rfl
theorem QT(n:Nat)(ih:jg n)(g:Jn)(b5 b3 b4:Nat)(fa fb:Value)(ta tb:Rx)(w:World)(S:Nat->Prop)(h5:XC w S b5 0 g.v)(h3:XC w S b3 1 fa)(h4:XC w S b4 1 fb)
  (hga:bJ w S fa ta) (hgb:bJ w S fb tb) (hda:dp ta<n) (hdb:dp tb<n) :
  Calls prog 220 #[nO b5,nO b3,nO b4] w λe w' => e=.returned (aH (g.mk ta tb))/\ah w [] w' := by
 have g5:w.cell? ⟨b5,0,none⟩=some (.func (.func g.f) #[] #[]):=h5.2;have g3:w.cell? ⟨b3,0+1,none⟩=some fa:=by rw[Nat.zero_add];exact h3.2
 have g4:w.cell? ⟨b4,0+1,none⟩=some fb:=by rw[Nat.zero_add];exact h4.2
 obtain⟨f,cap,rfl,hf⟩:=hga.shape;obtain⟨cap,rfl⟩:∃ l:List Value,cap=l.toArray:=⟨cap.toList,sI⟩;obtain⟨f',cap',rfl,hf'⟩:=hgb.shape;obtain⟨cap',rfl⟩:∃ l:List Value,cap' = l.toArray:=⟨cap'.toList,sI⟩;have hr:=lC hga;have hs:=tP n ih f hf;have hr' := lC hgb;have hs' := tP n ih f' hf'
 refine af (nt:=12) [.tmp 3] func220 rfl rfl rfl ?_;refine vR Γ0 (aa tY @nO.eq_1) ?_;refine kO (Γ43 n ih) (aj tY @nO.eq_1 g5 g3 g4 hs hs' (bQ hr hr' @n8)) ?_ ?_
 ·exact⟨⟨cap,ta,rfl,FC hga,hda⟩,⟨cap',tb,rfl,FC hgb,hdb⟩,ta,tb,rfl⟩
 refine wZ tY ?_;exact λE=>Yx g ta tb
theorem yq:∀ n,jg n
 |0=>λ_ _ _ _ _ _ h=>by omega
 | n+1=>by
  have ih:=yq n;intro f cap w S t h hd;cases h with
  |leaf b t h=>exact RX b t w S h
  |join g b5 b3 b4 fa fb ta tb h5 h3 h4 ha hb=>
   rw[al7]at hd;exact QT n ih g b5 b3 b4 fa fb ta tb w S h5 h3 h4 ha hb oM oM
  |star b fa ta h ha=>
   have:dp ta+1<n+1:=hd;exact Sr n ih b fa ta w S h ha oM
end
section
open Go.RowKit Go.LE Go.Proofs.Tryz
set_option maxRecDepth 10000
def xH(s:ByteArray)(i:Int)(d:Nat)(op:List Value):List AV:=[.val (.string s),.val (.int .i64 i),.row 3 1 d op]
def eJ(c i:Int):List PanicEntry:=[{ v:=.iface 39 (xZ c i ⟨#[]⟩),recovered:=false }]
theorem ajz{s:ByteArray}{i:Int}(h0:0<=i)(h:¬ i<s.size):bt s i=0:=by
 unfold bt;rw[Array.getElem?_eq_none (by have:s.data.size=s.size:=rfl;omega)];rfl
theorem Ds{w:World}{u:Value}{fp:List Nat}{s:ByteArray}{i:Int}{d:Nat}{op:List Value}(h:bC w u fp 251 (xH s i d op)) :
  ∃ b,u=.pointer (some ⟨b,0,none⟩)/\w.cell? ⟨b,0,none⟩=some (.string s)/\w.cell? ⟨b,0+1,none⟩=some (.int .i64 i):=by
 obtain⟨b,us,h1,h2,h3⟩:=DH h
 match us,h2 with
 |[x,y,z],h2=>
  obtain⟨rfl,rfl,_,_⟩:=h2;exact⟨b,h1,h3 0 sI,h3 1 sI⟩
def aej:=(aj @List.replicate_succ.{0} @List.replicate_zero.{0} @an @ab jo jl gS (aj ca cc b9 cg cf cj cd (aj ck fu fE fj fz fw dc (aj dh cZ db c8 dd aaY WK (aj Vg Xy aal VZ Vq U6 zQ (aj AI zz zD zd A6 yU AD (aj Am AM AA AZ Aj Ba Ah (aj AS yM zk yQ zE Ak y7 (bQ @xH.eq_1 @xZ.eq_1 @eJ.eq_1)))))))))
theorem R6(s:ByteArray)(i:Int)(b:Nat)(w:World)(g1:w.cell? ⟨b,0,none⟩=some (.string s))(g2:w.cell? ⟨b,0+1,none⟩=some (.int .i64 i)) :
  Calls prog 127 #[.pointer (some ⟨b,0,none⟩)] w λe w' => e=.returned (.bool (decide ((s.size:Int)<=i)))/\ah w [] w' := by
 refine af (nt:=13) [.tmp 2] func127 rfl rfl rfl ?_;refine vR Γ0 aej ?_;refine Qr Γ0 (bQ aej g1 g2) ?_;refine wZ aej ?_;exact λE=>rfl
def ez:Cw prog 127 where
 T:=251
 pre:=λW bs fs as_=>match fs,as_ with|[.val (.string s),.val (.int .i64 i),.row 3 1 d op],[]=>True|_,_=>False
 res:=λW fs as_=>match fs,as_ with|[.val (.string s),.val (.int .i64 i),.row 3 1 d op],[]=>.bool (decide ((s.size:Int)<=i))|_,_=>undef
 enters:=call127
 ok:=by
  intro W w bs u fp us fs as_ hk ho hu hp;split at hp
  ·rename_i s i d op
   match us,hu with
   |[],_=>
    obtain⟨b,rfl,g1,g2⟩:=Ds ho;exact R6 s i b w g1 g2
  ·exact hp.elim
theorem iz(W:World)(s:ByteArray)(i:Int)(d:Nat)(op:List Value):ez.res W [.val (.string s),.val (.int .i64 i),.row 3 1 d op] []=.bool (decide ((s.size:Int)<=i)):=rfl
theorem ir(W:World)(bs:List Nat)(s:ByteArray)(i:Int)(d:Nat)(op:List Value):ez.pre W bs [.val (.string s),.val (.int .i64 i),.row 3 1 d op] []=(True):=rfl
theorem lK:ez.T=251:=rfl
def Jy:=(eT aej @iz @ir @lK)
theorem YJ(s:ByteArray)(i:Int)(b:Nat)(w:World)(h0:0<=i)(g1:w.cell? ⟨b,0,none⟩=some (.string s))(g2:w.cell? ⟨b,0+1,none⟩=some (.int .i64 i)) :
  Calls prog 179 #[.pointer (some ⟨b,0,none⟩)] w λe w' => e=.returned (.int .u8 (bt s i))/\ah w [] w' := by
 refine af (nt:=22) [.tmp 2] func179 rfl rfl rfl ?_;refine vR Γ0 Jy ?_;refine Wp.seq ?_;refine Qr Γ0 (bQ Jy g1 g2) ?_;refine wC Jy (λhc=>?_) (λhc=>?_)
 ·have hi:i<s.size:=by simpa using hc
  refine Qr Γ0 (bQ Jy g1 g2) ?_;refine wZ Jy ?_;exact λE=>rfl
 ·have hi:¬ i<s.size:=by simpa using hc
  rw[ajz h0 hi];refine wK ?_;refine vR Γ0 Jy ?_;refine wZ Jy ?_;exact λE=>rfl
def jd:Cw prog 179 where
 T:=251
 pre:=λW bs fs as_=>match fs,as_ with|[.val (.string s),.val (.int .i64 i),.row 3 1 d op],[]=>0<=i|_,_=>False
 res:=λW fs as_=>match fs,as_ with|[.val (.string s),.val (.int .i64 i),.row 3 1 d op],[]=>.int .u8 (bt s i)|_,_=>undef
 enters:=call179
 ok:=by
  intro W w bs u fp us fs as_ hk ho hu hp;split at hp
  ·rename_i s i d op
   match us,hu with
   |[],_=>
    obtain⟨b,rfl,g1,g2⟩:=Ds ho;exact YJ s i b w hp g1 g2
  ·exact hp.elim
theorem lp(W:World)(s:ByteArray)(i:Int)(d:Nat)(op:List Value):jd.res W [.val (.string s),.val (.int .i64 i),.row 3 1 d op] []=.int .u8 (bt s i):=rfl
theorem lg(W:World)(bs:List Nat)(s:ByteArray)(i:Int)(d:Nat)(op:List Value):jd.pre W bs [.val (.string s),.val (.int .i64 i),.row 3 1 d op] []=(0<=i):=rfl
theorem qA:jd.T=251:=rfl
def akZ:=(eT Jy @lp @lg @qA)
theorem Nx(s:ByteArray)(i:Int)(d:Nat)(op:List Value)(c j:Int)(u:Value)(fp:List Nat)(w:World)(ho:bC w u fp 251 (xH s i d op))(hlt:∀ b∈fp,b<w.heap.size) :
  Calls prog 128 (#[u]++#[.int .i64 c,.int .i64 j]) w λe w' => gN w u fp 251 e w' (.pan (eJ c j) (.tuple #[])):=by
 refine bh (nt:=10) #[.int .i64 c,.int .i64 j] [] (by show 3<=7;omega) ho hlt func128 rfl rfl rfl ?_;refine Wp.q8 Γ0 b8 (ev akZ) ?_ ?_
 ·exact oo
 refine qq ?_;exact⟨_,rfl⟩
def gH:ed prog 128 where
 T:=251
 pre:=λW bs fs as_=>match fs,as_ with|[.val (.string s),.val (.int .i64 i),.row 3 1 d op],[.val (.int .i64 c),.val (.int .i64 j)]=>True|_,_=>False
 out:=λW fs as_=>match fs,as_ with|[.val (.string s),.val (.int .i64 i),.row 3 1 d op],[.val (.int .i64 c),.val (.int .i64 j)]=>.pan (eJ c j) (.tuple #[])|_,_=>.pan [] undef
 enters:=call128
 ok:=by
  intro W w bs u fp us fs as_ hk ho hlt hmine hu hp;split at hp
  ·rename_i s i d op c j
   match us,hu with
   |[u0,u1],hu=>
    obtain⟨rfl,rfl,_⟩:=hu;exact Nx s i d op c j u fp w ho hlt
  ·exact hp.elim
theorem kf(W:World)(s:ByteArray)(i:Int)(d:Nat)(op:List Value)(c:Int)(j:Int):gH.out W [.val (.string s),.val (.int .i64 i),.row 3 1 d op] [.val (.int .i64 c),.val (.int .i64 j)]=.pan (eJ c j) (.tuple #[]):=rfl
theorem j8(W:World)(bs:List Nat)(s:ByteArray)(i:Int)(d:Nat)(op:List Value)(c:Int)(j:Int):gH.pre W bs [.val (.string s),.val (.int .i64 i),.row 3 1 d op] [.val (.int .i64 c),.val (.int .i64 j)]=(True):=rfl
theorem nF:gH.T=251:=rfl
noncomputable def Vl:Env prog:=⟨λ| 127=>some ez.spec|179=>some jd.spec|128=>some gH.spec|_=>none,λ| _=>none,λ_ _=>none⟩
theorem ac4:Vl.sp 127=some ez.spec:=rfl
theorem abr:Vl.sp 179=some jd.spec:=rfl
theorem afT:Vl.sp 128=some gH.spec:=rfl
def Vz(s:ByteArray)(d:Nat)(op:List Value):Except (Int×Int) (Int×Int)->BOut
 |.ok (n,j)=>.ret (.int .i64 n) (xH s j d op)
 |.error (c,j)=>.pan (eJ c j) (.int .i64 0)
theorem P7(s:ByteArray)(d:Nat)(op:List Value)(n j:Int):Vz s d op (.ok (n,j))=.ret (.int .i64 n) (xH s j d op):=rfl
theorem Af(s:ByteArray)(d:Nat)(op:List Value)(c j:Int):Vz s d op (.error (c,j))=.pan (eJ c j) (.int .i64 0):=rfl
theorem uO(c:Int->Int)(N:Int)(k:Nat)(n i:Int)(h:¬ (i<N/\48<=c i/\c i<=57)):jW c N k n i=(n,i):=by
 cases k with
 |zero=>rfl
 |succ k=>rw[jW,if_neg h]
def bd:Nat->Int
 |0=>999
 |1=>99
 |2=>9
 |_=>0
theorem Px(k:Nat):bd k<=999:=by
 match k with
 |0=>simp[bd]
 |1=>simp[bd]
 |2=>simp[bd]
 |n+3=>simp[bd]
theorem yc{k:Nat}(hk:k+1<=3):10*bd (k+1)+9<=bd k:=by
 match k,hk with
 |0,_=>simp[bd]
 |1,_=>simp[bd]
 |2,_=>simp[bd]
def uf:=(uv akZ @kf @j8 @nF ac4 abr afT)
theorem MN(s:ByteArray)(i:Int)(d:Nat)(op:List Value)(u:Value)(fp:List Nat)(w:World)(h0:0<=i)(hi1:i<=s.size)(hs:s.size<=140737488351232)(ho:bC w u fp 251 (xH s i d op))(hlt:∀ b∈fp,b<w.heap.size) :
  Calls prog 265 (#[u]++#[]) w λe w' => gN w u fp 251 e w' (Vz s d op (iK (bt s) s.size i)):=by
 refine bh (nt:=58) #[] [.tmp 2] (by show 3<=7;omega) ho hlt func265 rfl rfl rfl ?_;refine vR Vl uf ?_;refine Qr Vl uf ?_;generalize hR:jW (bt s) s.size 3 0 i=R;have w3:IntKind.i64.wrap (i+3)=i+3:=ae oM oM;refine Wp.seq (Wp.block ?_)
 refine Wp.loop (λp:Nat×Int=>⟨20,bm [(0,.is (.own 0 0)),(3,.is (.v (.int .i64 p.2))),(4,.is (.v (.int .i64 i)))],aY [(0,.cells 251 [.v (.string s),.v (.int .i64 (i+(3-(p.1:Nat)))),.hd 3]),(3,.row 3 1 d (op.map .v))]⟩)
  (λp=>p.1<=3/\(0<=p.2/\p.2<=bd p.1)/\i+(3-(p.1:Nat))<=s.size/\jW (bt s) s.size p.1 p.2 (i+(3-(p.1:Nat)))=R) (λp=>p.1) (3,0) ?_ ⟨sI,by simp[bd],by simpa using hi1,by simpa using hR⟩ ?_
 ·exact wM (λk=>.key k) (eT uf @Int.sub_self @Int.add_zero (show (3:Int)-((3:Nat):Int)=0 from rfl))
 rintro⟨k,n⟩ ⟨hk,⟨hn0,hn1⟩,hi,hR'⟩;simp only at hk hn0 hn1 hi hR';have hbd:=Px k;refine Wp.seq ?_;refine wR Vl (aa uf w3) ?_ ?_
 ·exact⟨dE,λ_=>⟨dE,oM⟩,λ_=>⟨dE,oM⟩⟩
 refine wC uf (λhc=>?_) (λhc=>?_)
 ·simp only[Bool.and_eq_true,Bool.not_eq_true',decide_eq_true_eq,decide_eq_false_iff_not]at hc;obtain⟨⟨⟨h1,h2⟩,h3⟩,h4⟩:=hc;obtain⟨k,rfl⟩:∃ j,k=j+1:=⟨k-1,oM⟩;rw[jW,if_pos ⟨oM,h3,h4⟩]at hR';have hst:=yc hk;generalize hat:i+(3-((k+1:Nat):Int))=at_ at *;have wa:IntKind.i64.wrap (10*n)=10*n:=ae oM oM
  have wb:IntKind.u8.wrap (bt s at_-48)=bt s at_-48:=eS oM oM;have wc:IntKind.i64.wrap (bt s at_-48)=bt s at_-48:=ae oM oM;have wd:IntKind.i64.wrap (10*n+(bt s at_-48))=10*n+(bt s at_-48):=ae oM oM;have we:IntKind.i64.wrap (at_+1)=i+(3-((k:Nat):Int)):=wW;refine wK ?_;refine Wp.block ?_
  refine wR Vl (oy uf wa wb wc wd) ?_ ?_
  ·exact⟨dE,oM⟩
  refine vr Vl (aa uf we) ?_;refine⟨(k,10*n+(bt s at_-48)),⟨by simp only;omega,⟨by simp only;omega,by simp only;omega⟩,by simp only;omega,by simp only;rw[show i+(3-(k:Int))=at_+1 by omega];exact hR'⟩,by simp only;omega,?_⟩;exact wM (λk=>.key k) uf
 ·have hst:¬ ((i+(3-(k:Int))<s.size/\i+(3-(k:Int))<i+3/\48<=bt s (i+(3-(k:Int))))/\bt s (i+(3-(k:Int)))<=57):=λh=>by
   apply Bool.eq_false_iff.1 hc;simp;omega
  have hRe:R=(n,i+(3-(k:Int))):=by
   rw[<- hR'];cases k with
   |zero=>rfl
   |succ k=>exact uO _ _ _ _ _ (λh=>hst ⟨⟨h.1,oM,h.2.1⟩,h.2.2⟩)
  have he:iK (bt s) s.size i=if R.2=i then .error (20,i) else .ok R:=by rw[iK,hR]
  rw[he,hRe];refine wE ?_;refine Wp.seq ?_;refine vR Vl uf ?_;refine wC uf (λhc=>?_) (λhc=>?_)
  ·have h1:i+(3-(k:Int))=i:=by simpa using hc
   rw[if_pos h1,Af];refine Wp.q8 Vl b8 (ev (aa uf h1)) ?_ ?_
   ·exact⟨dE,sI⟩
   refine qq ?_;exact⟨_,rfl⟩
  ·have h1:¬ i+(3-(k:Int))=i:=by simpa using hc
   rw[if_neg h1,P7];refine wK ?_;refine vR Vl uf ?_;refine wZ uf ?_;exact⟨_,_,rfl,λE=>rfl,_,_,rfl,(ev (aa uf @aB)),dE⟩
def tH:ed prog 265 where
 T:=251
 pre:=λW bs fs as_=>match fs,as_ with|[.val (.string s),.val (.int .i64 i),.row 3 1 d op],[]=>0<=i/\i<=s.size/\s.size<=140737488351232|_,_=>False
 out:=λW fs as_=>match fs,as_ with|[.val (.string s),.val (.int .i64 i),.row 3 1 d op],[]=>Vz s d op (iK (bt s) s.size i)|_,_=>.pan [] undef
 enters:=call265
 ok:=by
  intro W w bs u fp us fs as_ hk ho hlt hmine hu hp;split at hp
  ·rename_i s i d op
   match us,hu with
   |[],_=>
    exact MN s i d op u fp w hp.1 hp.2.1 hp.2.2 ho hlt
  ·exact hp.elim
theorem Jo(W:World)(s:ByteArray)(i:Int)(d:Nat)(op:List Value):tH.out W [.val (.string s),.val (.int .i64 i),.row 3 1 d op] []=Vz s d op (iK (bt s) s.size i):=rfl
theorem Hg(W:World)(bs:List Nat)(s:ByteArray)(i:Int)(d:Nat)(op:List Value):tH.pre W bs [.val (.string s),.val (.int .i64 i),.row 3 1 d op] []=(0<=i/\i<=s.size/\s.size<=140737488351232):=rfl
theorem Tl:tH.T=251:=rfl
theorem fJ{r:RL}{W1:World}{bs1 fp:List Nat}{w:World}{S:Nat->Prop}{fv:Value}{T:TypeId}{h:Hp}{vs:List SV}{fs' : List AV}{ks:List Nat}(hg:bJ W1 (jk (aR w S fp) bs1) fv r.2)
  (h0:h 0=some (.cells T vs)) (hv:aC h vs=some (fs',ks)) (hn:(0::ks).Nodup):W9 w S fp T W1 bs1 (.agg [.v (.int .i64 (r.1:Nat)),.v fv]) h (.fact Sh.two (dU r) fs'):=
 ⟨⟨[.int .i64 (r.1:Nat),fv],λE=>(sC r fv hg.one).symm,fv,rfl,hg⟩,vs,ks,h0,hv,hn⟩
theorem MH(a:RL)(x:AV)(m n:Int):(BF a).out [x,.val (.int .i64 m),.val (.int .i64 n)]=.fact Sh.two (dU (dy a m n)):=rfl
theorem KT(a:RL)(as_:List AV)(W:World)(S:Nat->Prop):(BF a).pre as_ W S=(a.1<=2001/\∃ x m n,as_=[x,.val (.int .i64 m),.val (.int .i64 n)]/\0<=m/\m<=255/\-1<=n/\n<=255):=rfl
theorem D2(a:RL):(BF a).kinds=[some (Sh.two,dU a),none,none]:=rfl
noncomputable def IT(G:Nat->Prop)(a:RL):Env prog:=⟨λ| 127=>some ez.spec|179=>some jd.spec|128=>some gH.spec|265=>some tH.spec|266=>some ((BF a).spec G)|_=>none,λ_=>none,λ_ _=>none⟩
theorem adz(G:Nat->Prop)(a:RL):(IT G a).sp 127=some ez.spec:=rfl
theorem acT(G:Nat->Prop)(a:RL):(IT G a).sp 179=some jd.spec:=rfl
theorem abq(G:Nat->Prop)(a:RL):(IT G a).sp 128=some gH.spec:=rfl
theorem afa(G:Nat->Prop)(a:RL):(IT G a).sp 265=some tH.spec:=rfl
theorem ahb(G:Nat->Prop)(a:RL):(IT G a).sp 266=some ((BF a).spec G):=rfl
def yY:Value:=.agg #[.int .i64 0,.nilFunc]
def VL(a:RL)(s:ByteArray)(d:Nat)(op:List Value):Except (Int×Int) (Int×Int×Int)->GOut
 |.ok (m,n,j)=>.fact Sh.two (dU (dy a m n)) (xH s j d op)
 |.error (c,j)=>.pan (eJ c j) yY
theorem OF{c:Int->Int}{N i n j:Int}(h:iK c N i=.ok (n,j)):0<=n/\n<=999:=by
 have key:∀ (k:Nat) (n i:Int),k<=3->0<=n->n<=bd k->0<=(jW c N k n i).1/\(jW c N k n i).1<=999:=by
  intro k
  induction k with
  |zero=>intro n i _ h0 h1;exact⟨h0,h1⟩
  | succ k ih=>
   intro n i hk h0 h1;rw[jW];split
   ·rename_i h;have:=yc hk;exact ih _ _ oM oM oM
   ·have:=Px (k+1);exact⟨h0,by simp only;omega⟩
 unfold iK at h;split at h
 ·cases h
 ·simp only[Except.ok.injEq]at h;have:=key 3 0 i (Nat.le_refl _) oM (by simp[bd]);rw[h]at this;exact this
def dx:=(aj @List.replicate_succ.{0} @List.replicate_zero.{0} @an @ab jo jl gS (aj ca cc b9 cg cf cj cd (aj ck fu fE fj fz fw aal (aj VZ Vq U6 AA AZ Aj Ba (aj Ah AS yM zk yQ zE Ak (aj y7 sZ sK sE sU tI sX (aj @xH.eq_1 @xZ.eq_1 @eJ.eq_1 @aG @al @ay @ax (aj @ig @lG @iz @ir @lK @lp @lg (aj @qA @kf @j8 @nF @Jo @Hg @Tl (aj @P7 @Af @adz @acT @abq @afa @ahb (bQ @MH @KT @D2)))))))))))
theorem KM(s:ByteArray)(i:Int)(d:Nat)(op:List Value)(a:RL)(fa:Value)(ha:a.1<=2001)(u:Value)(fp:List Nat)(w:World)(S:Nat->Prop)(h0:0<=i)(hi1:i<s.size)(hs:s.size<=140737488351232)
  (ho:bC w u fp 251 (xH s i d op)) (hlt:∀ b∈fp,b<w.heap.size) (hS:∀ b∈fp,¬ S b) (h1:bJ w S fa a.2) :
  Calls prog 262 (#[u]++#[je a fa]) w λe w' => DI w S u fp 251 e w' (VL a s d op (oq (bt s) s.size i)):=by
 have ga:partsOf (.v (je a fa))=[.v (.int .i64 (a.1:Nat)),.v fa]:=rfl;have u0:=aR.up w S fp;have g0:=h1.mono (aR.lA w S fp hS);have w1:IntKind.i64.wrap (i+1)=i+1:=ae oM oM;refine jH (nt:=88) S #[je a fa] [.cell 4 254] (by show 3<=7;omega) ho hlt func262 rfl rfl rfl ?_;refine vR Γ0 (aa dx ga) ?_
 refine vR Γ0 dx ?_;refine vR Γ0 (aa dx w1) ?_;cases hN:iK (bt s) s.size (i+1) with
 |error e=>
  obtain⟨c,j⟩:=e;have he:oq (bt s) s.size i=.error (c,j):=by rw[oq,hN]
  rw[he];refine Wp.kH (IT (aR w S fp) a) b8 (ev (bQ dx hN w1)) ?_ ?_
  ·first|trivial|omega|(simp[hs];done)|(simp[hs];omega)|(simp[hs]<;>omega)
  refine qq ?_;exact⟨_,rfl⟩
 | ok p=>
  obtain⟨m,j⟩:=p;have hj:=yj hN;have hm:=OF hN;refine wR (IT (aR w S fp) a) (bQ dx hN w1) ?_ ?_
  ·first|trivial|omega|(simp[hs];done)|(simp[hs];omega)|(simp[hs]<;>omega)
  refine vR Γ0 dx ?_;have wj:IntKind.i64.wrap (j+1)=j+1:=ae oM oM;have hb:∀ n k,Br (bt s) s.size m j=.ok (n,k)->oq (bt s) s.size i=mU (bt s) s.size m n k i:=λn k h=>by rw[oq,hN];simp only[h]
  cases hU:Br (bt s) s.size m j with
  | error e=>
   obtain⟨c,k⟩:=e;have he:oq (bt s) s.size i=.error (c,k):=by rw[oq,hN];simp only[hU]
   rw[he];rw[Br]at hU;split at hU
   ·rename_i h44;split at hU
    ·rename_i h125;refine Wp.seq ?_;refine wR (IT (aR w S fp) a) dx ?_ ?_
     ·first|trivial|omega|(simp[hs];done)|(simp[hs];omega)|(simp[hs]<;>omega)
     refine wC dx (λhc=>?_) (λhc=>?_)
     ·skip;refine vR Γ0 (aa dx wj) ?_;refine vR Γ0 dx ?_;refine wR (IT (aR w S fp) a) dx ?_ ?_
      ·first|trivial|omega|(simp[hs];done)|(simp[hs];omega)|(simp[hs]<;>omega)
      refine wC dx (λhc=>?_) (λhc=>?_)
      ·skip;refine Wp.q8 (IT (aR w S fp) a) b8 (ev (aa dx hU)) ?_ ?_
       ·first|trivial|omega|(simp[hs];done)|(simp[hs];omega)|(simp[hs]<;>omega)
       refine qq ?_;exact⟨_,rfl⟩
      ·exfalso;apply Bool.eq_false_iff.1 hc;simp;omega
     ·exfalso;apply Bool.eq_false_iff.1 hc;simp;omega
    ·cases hU
   ·cases hU
  | ok q=>
   obtain⟨n,k⟩:=q;have hbe:=hb n k hU
   refine aW ⟨60,bm [(0,.is (.own 0 0)),(3,.is (.own 8 0)),(4,.is (.own 16 0)),(5,.is (.v (.int .i64 i))),(6,.is (.v (.int .i64 m))),(7,.is (.v (.int .i64 n)))],aY [(0,.cells 251 [.v (.string s),.v (.int .i64 k),.hd 3]),(3,.row 3 1 d (op.map .v)),(8,.cells 254 [.v (.int .i64 (a.1:Nat)),.v fa]),(16,.cells 254 [.v (.int .i64 0),.v .nilFunc])]⟩ ?_ ?_
   ·skip;refine wR (IT (aR w S fp) a) dx ?_ ?_
    ·first|trivial|omega|(simp[hs];done)|(simp[hs];omega)|(simp[hs]<;>omega)
    refine wC dx (λhc=>?_) (λhc=>?_)
    ·have h44:j<s.size/\bt s j=44:=by
      simp at hc;omega
     rw[Br,if_pos h44]at hU;refine vR Γ0 (aa dx wj) ?_;refine vR Γ0 dx ?_;refine wR (IT (aR w S fp) a) dx ?_ ?_
     ·first|trivial|omega|(simp[hs];done)|(simp[hs];omega)|(simp[hs]<;>omega)
     refine wC dx (λhc=>?_) (λhc=>?_)
     ·have h125:¬ j+1<s.size\/bt s (j+1)≠125:=by
       simp at hc;omega
      rw[if_pos h125]at hU;refine wr (IT (aR w S fp) a) (aa dx hU) ?_ ?_
      ·first|trivial|omega|(simp[hs];done)|(simp[hs];omega)|(simp[hs]<;>omega)
      exact wM (λx=>if x=3 then .key 370 else .key x) dx
     ·have h125:¬ (¬ j+1<s.size\/bt s (j+1)≠125):=by
       simp at hc;omega
      rw[if_neg h125]at hU;simp only[Except.ok.injEq,Prod.mk.injEq]at hU;obtain⟨rfl,rfl⟩:=hU;refine wK ?_;exact wM (λx=>if x=3 then .key 138 else .key x) dx
    ·have h44:¬ (j<s.size/\bt s j=44):=λh=>by
      apply Bool.eq_false_iff.1 hc;simp;omega
     rw[Br,if_neg h44]at hU;simp only[Except.ok.injEq,Prod.mk.injEq]at hU;obtain⟨rfl,rfl⟩:=hU;refine wK ?_;exact wM (λx=>if x=3 then .key 138 else .key x) dx
   ·have hk:j<=k/\k<=s.size/\-1<=n/\n<=999:=by
     rw[Br]at hU;split at hU
     ·split at hU
      ·have:=yj hU;have:=OF hU;omega
      ·simp only[Except.ok.injEq,Prod.mk.injEq]at hU;omega
     ·simp only[Except.ok.injEq,Prod.mk.injEq]at hU;omega
    have wk:IntKind.i64.wrap (k+1)=k+1:=ae oM oM;rw[hbe];refine Wp.seq ?_;refine wR (IT (aR w S fp) a) dx ?_ ?_
    ·first|trivial|omega|(simp[hs];done)|(simp[hs];omega)|(simp[hs]<;>omega)
    refine wC dx (λhc=>?_) (λhc=>?_)
    ·have h2:¬ k<s.size\/bt s k≠125:=by
      simp at hc;omega
     rw[mU,if_pos h2];refine Wp.q8 (IT (aR w S fp) a) b8 (ev dx) ?_ ?_
     ·first|trivial|omega|(simp[hs];done)|(simp[hs];omega)|(simp[hs]<;>omega)
     refine qq ?_;exact⟨_,rfl⟩
    ·have h2:¬ (¬ k<s.size\/bt s k≠125):=λh=>by
      apply Bool.eq_false_iff.1 hc;simp;omega
     rw[mU,if_neg h2];refine wK ?_;refine vR Γ0 (aa dx wk) ?_;refine Wp.seq ?_;refine vR Γ0 dx ?_;refine wC dx (λhc=>?_) (λhc=>?_)
     ·have h3:255<m\/255<n\/0<=n/\n<m:=by
       simp at hc;omega
      rw[if_pos h3];refine Wp.q8 (IT (aR w S fp) a) b8 (ev dx) ?_ ?_
      ·first|trivial|omega|(simp[hs];done)|(simp[hs];omega)|(simp[hs]<;>omega)
      refine qq ?_;exact⟨_,rfl⟩
     ·have h3:¬ (255<m\/255<n\/0<=n/\n<m):=λh=>by
       apply Bool.eq_false_iff.1 hc;simp;omega
      rw[if_neg h3];refine wK ?_;refine wR (IT (aR w S fp) a) dx ?_ ?_
      ·exact⟨⟨cr g0,ha,_,_,_,rfl,oM,oM,oM,oM⟩,u0⟩
      refine Wp.ji 744 (ev (aa dx ga)) (cT.refl _ _) λW1 bs1 cs hx1 hΦ=>?_
      obtain⟨fv,rfl,hg,hv1⟩:=cI hΦ;refine wZ (bQ dx ga hv1) ?_;exact fJ hg rfl ((ev (aa dx @aB))) dE
def qN(a:RL):Dh prog 262 where
 T:=251
 kinds:=[some (Sh.two,dU a)]
 pre:=λfs as_ W S=>∃ s i d op x,fs=xH s i d op/\as_=[x]/\a.1<=2001/\0<=i/\i<s.size/\s.size<=140737488351232
 premono:=λ_ _ _ _ _ _ _ h=>h
 out:=λfs as_=>match fs with
  |[.val (.string s),.val (.int .i64 i),.row 3 1 d op]=>VL a s d op (oq (bt s) s.size i)
  |_=>.pan [] undef
 enters:=call262
 ok:=by
  intro w S u fp us fs as_ ho hlt hS hu hp;obtain⟨s,i,d,op,x,rfl,rfl,ha,h0,hi,hs⟩:=hp
  match us,hu with
  |[u1],hu=>
   obtain⟨h1,_⟩:=hu;obtain⟨fa,rfl,h1'⟩:=l6 h1;exact KM s i d op a fa ha u fp w S h0 hi hs ho hlt hS h1'
theorem I8(a:RL)(s:ByteArray)(i:Int)(d:Nat)(op:List Value)(as_:List AV):(qN a).out [.val (.string s),.val (.int .i64 i),.row 3 1 d op] as_=VL a s d op (oq (bt s) s.size i):=rfl
theorem IX(a:RL)(fs as_:List AV)(W:World)(S:Nat->Prop):(qN a).pre fs as_ W S=∃ s i d op x,fs=xH s i d op/\as_=[x]/\a.1<=2001/\0<=i/\i<s.size/\s.size<=140737488351232:=rfl
theorem B0(a:RL):(qN a).kinds=[some (Sh.two,dU a)]:=rfl
theorem Sa(a:RL):(qN a).T=251:=rfl
theorem afP(a:RL)(s:ByteArray)(d:Nat)(op:List Value)(m n j:Int):VL a s d op (.ok (m,n,j))=.fact Sh.two (dU (dy a m n)) (xH s j d op):=rfl
theorem Lh(a:RL)(s:ByteArray)(d:Nat)(op:List Value)(c j:Int):VL a s d op (.error (c,j))=.pan (eJ c j) yY:=rfl
noncomputable def Re(G:Nat->Prop)(a:RL):Env prog:=⟨λ| 127=>some ez.spec|179=>some jd.spec|260=>some ((zM a).spec G)|180=>some ((iW .cat a (gf a)).spec G)|261=>some ((uD a).spec G)|262=>some ((qN a).spec G)|_=>none,λ_=>none,λ_ _=>none⟩
theorem abW(G:Nat->Prop)(a:RL):(Re G a).sp 127=some ez.spec:=rfl
theorem afc(G:Nat->Prop)(a:RL):(Re G a).sp 179=some jd.spec:=rfl
theorem acV(G:Nat->Prop)(a:RL):(Re G a).sp 260=some ((zM a).spec G):=rfl
theorem afq(G:Nat->Prop)(a:RL):(Re G a).sp 180=some ((iW .cat a (gf a)).spec G):=rfl
theorem ab6(G:Nat->Prop)(a:RL):(Re G a).sp 261=some ((uD a).spec G):=rfl
theorem adq(G:Nat->Prop)(a:RL):(Re G a).sp 262=some ((qN a).spec G):=rfl
def GZ(s:ByteArray)(d:Nat)(op:List Value):Except (Int×Int) (RL×Int)->GOut
 |.ok (r,j)=>.fact Sh.two (dU r) (xH s j d op)
 |.error (c,j)=>.pan (eJ c j) yY
theorem qQ(s:ByteArray)(d:Nat)(op:List Value)(r:RL)(j:Int):GZ s d op (.ok (r,j))=.fact Sh.two (dU r) (xH s j d op):=rfl
theorem bV(s:ByteArray)(d:Nat)(op:List Value)(c j:Int):GZ s d op (.error (c,j))=.pan (eJ c j) yY:=rfl
theorem DP(a:RL)(m n:Int)(ha:a.1<=2001):(dy a m n).1<=2001:=by
 have h1:(if m=0 then bM a else a).1<=2001:=by split;exact mR a;exact ha
 unfold dy;split
 ·exact ph a
 ·split
  ·decide
  ·split
   ·exact gj _ _ _
   ·exact pt _ (λx=>gj _ _ _) _ _ (pt _ (λx=>gj _ _ _) _ _ h1)
structure RI where
 W:World
 bs:List Nat
 fo:Value
 r:RL
 i:Int
 n:Nat
def dj:=(aj @List.replicate_succ.{0} @List.replicate_zero.{0} @an @ab jo jl gS (aj ca cc b9 cg cf cj cd (aj ck fu fE fj fz fw AA (aj AZ Aj Ba Ah AS yM zk (aj yQ zE Ak y7 sZ sK sE (aj sU tI sX Dt DE Da @xH.eq_1 (aj @xZ.eq_1 @eJ.eq_1 @aG @al @ay @ax @ig (aj @lG @iz @ir @lK @lp @lg @qA (aj @zM.eq_1 @iW.eq_1 @uD.eq_1 @abW @afc @acV @afq (aj @ab6 @adq @I8 @IX @B0 @Sa @afP @Lh))))))))))
theorem G2(s:ByteArray)(i0:Int)(d:Nat)(op:List Value)(a:RL)(fa:Value)(ha:a.1<=2001)(u:Value)(fp:List Nat)(w:World)(S:Nat->Prop)(h0:0<=i0)(hi1:i0<=s.size)(hs:s.size<=140737488351232)
  (ho:bC w u fp 251 (xH s i0 d op)) (hlt:∀ b∈fp,b<w.heap.size) (hS:∀ b∈fp,¬ S b) (h1:bJ w S fa a.2) :
  Calls prog 250 (#[u]++#[je a fa]) w λe w' => DI w S u fp 251 e w' (GZ s d op (jt (bt s) s.size ((s.size:Int).toNat+1) a i0)):=by
 have ga:partsOf (.v (je a fa))=[.v (.int .i64 (a.1:Nat)),.v fa]:=rfl;have u0:=aR.up w S fp;have g0:=h1.mono (aR.lA w S fp hS);generalize hR:jt (bt s) s.size ((s.size:Int).toNat+1) a i0=R;refine jH (nt:=38) S #[je a fa] [.cell 4 254] (by show 3<=7;omega) ho hlt func250 rfl rfl rfl ?_
 refine vR Γ0 (aa dj ga) ?_;refine Wp.seq (Wp.block ?_)
 refine Wp.De (λp:RI=>⟨5,bm [(0,.is (.own 0 0)),(3,.is (.own 8 0)),(4,.is (.own 16 0))],aY [(0,.cells 251 [.v (.string s),.v (.int .i64 p.i),.hd 3]),(3,.row 3 1 d (op.map .v)),(8,.cells 254 [.v (.int .i64 (p.r.1:Nat)),.v p.fo]),(16,.cells 254 [.v (.int .i64 0),.v .nilFunc])]⟩)
  RI.W RI.bs (λp=>(0<=p.i/\p.i<=s.size)/\p.r.1<=2001/\((s.size:Int)-p.i<p.n/\1<=p.n)/\bJ p.W (jk (aR w S fp) p.bs) p.fo p.r.2/\jt (bt s) s.size p.n p.r p.i=R) (λp=>p.n) ⟨w,fp,fa,a,i0,(s.size:Int).toNat+1⟩ rfl rfl ?_ ⟨⟨h0,hi1⟩,ha,⟨by simp only;omega,by simp only;omega⟩,g0,hR⟩ ?_
 ·exact wM (λx=>.key x) (aa dj ga)
 rintro⟨W1,bs1,fo,r,i,n⟩ ⟨⟨hi0,hiN⟩,hr,⟨hn,hn1⟩,hg,hR'⟩ hx1;simp only at hi0 hiN hr hn hn1 hg hR' hx1;dsimp only;obtain⟨n,rfl⟩:∃ m,n=m+1:=⟨n-1,oM⟩;have u1:=u0.ext hx1;refine Wp.seq ?_;refine wR (Re (aR w S fp) r) dj ?_ ?_
 ·first|trivial|omega|(simp[hs];done)|(simp[hs];omega)|(simp[hs]<;>omega)
 refine wC dj (λhc=>?_) (λhc=>?_)
 ·have hi:i<s.size:=by
   simp at hc;omega
  rw[jt,if_neg oM]at hR';have wi:IntKind.i64.wrap (i+1)=i+1:=ae oM oM;refine wK ?_;refine Wp.block ?_;refine Wp.seq ?_;refine wR (Re (aR w S fp) r) dj ?_ ?_
  ·first|trivial|omega|(simp[hs];done)|(simp[hs];omega)|(simp[hs]<;>omega)
  refine Wp.block ?_;refine vR Γ0 dj ?_;refine wC dj (λhc=>?_) (λhc=>?_)
  ·have h42:bt s i=42:=by simpa using hc
   rw[if_pos h42]at hR';refine Wp.more ?_;refine wr (Re (aR w S fp) r) dj ?_ ?_
   ·exact⟨⟨cr hg,hr,_,rfl⟩,u1⟩
   refine fH ?_;refine Pw.ji 104 (ev dj) (cT.refl _ _) λW2 bs2 cs hx2 hΦ=>?_
   obtain⟨fv,rfl,hg2,hv2⟩:=cI hΦ;refine Pw.here ?_;refine qq ?_;refine vr Γ0 (aa dj wi) ?_;refine⟨⟨W2,bs2,fv,gf r,i+1,n⟩,⟨by simp only;omega,ph r,by simp only;omega,hg2,hR'⟩,by simp only;omega,rfl,rfl,?_⟩;exact wM (λx=>.key x) (aa dj hv2)
  ·have h42:¬ bt s i=42:=by simpa using hc
   rw[if_neg h42]at hR';refine vR Γ0 dj ?_;refine wC dj (λhc=>?_) (λhc=>?_)
   ·have h43:bt s i=43:=by simpa using hc
    rw[if_pos h43]at hR';refine Wp.more ?_;refine xv (Re (aR w S fp) r) dj ?_ ?_
    ·exact⟨⟨⟨cr hg,hr,_,rfl⟩,u1⟩,⟨cr hg,⟨hr,ph r⟩,_,_,rfl⟩,u1⟩
    refine fH ?_;refine Pw.ji 136 (ev dj) (cT.refl _ _) λW2 bs2 cs hx2 hΦ=>?_
    obtain⟨fv,rfl,hg2,hv2⟩:=cI hΦ;refine Pw.here ?_;refine qq ?_;refine vr Γ0 (aa dj wi) ?_;refine⟨⟨W2,bs2,fv,aX .cat r (gf r),i+1,n⟩,⟨by simp only;omega,gj _ _ _,by simp only;omega,hg2,hR'⟩,by simp only;omega,rfl,rfl,?_⟩;exact wM (λx=>.key x) (aa dj hv2)
   ·have h43:¬ bt s i=43:=by simpa using hc
    rw[if_neg h43]at hR';refine vR Γ0 dj ?_;refine wC dj (λhc=>?_) (λhc=>?_)
    ·have h63:bt s i=63:=by simpa using hc
     rw[if_pos h63]at hR';refine Wp.more ?_;refine wr (Re (aR w S fp) r) dj ?_ ?_
     ·exact⟨⟨cr hg,hr,_,rfl⟩,u1⟩
     refine fH ?_;refine Pw.ji 136 (ev dj) (cT.refl _ _) λW2 bs2 cs hx2 hΦ=>?_
     obtain⟨fv,rfl,hg2,hv2⟩:=cI hΦ;refine Pw.here ?_;refine qq ?_;refine vr Γ0 (aa dj wi) ?_;refine⟨⟨W2,bs2,fv,bM r,i+1,n⟩,⟨by simp only;omega,mR r,by simp only;omega,hg2,hR'⟩,by simp only;omega,rfl,rfl,?_⟩;exact wM (λx=>.key x) (aa dj hv2)
    ·have h63:¬ bt s i=63:=by simpa using hc
     rw[if_neg h63]at hR';refine vR Γ0 dj ?_;refine wC dj (λhc=>?_) (λhc=>?_)
     ·have h123:bt s i=123:=by simpa using hc
      rw[if_pos h123]at hR';cases hB:oq (bt s) s.size i with
      |error e=>
       obtain⟨c,j⟩:=e;rw[hB]at hR';simp only at hR';rw[<- hR',bV];refine Wp.kH (Re (aR w S fp) r) b8 (ev (aa dj hB)) ?_ ?_
       ·exact⟨⟨cr hg,_,_,_,_,_,rfl,rfl,hr,hi0,hi,hs⟩,dE,sI⟩
       refine qq ?_;exact⟨_,rfl⟩
      |ok q=>
       obtain⟨m,k,j⟩:=q;rw[hB]at hR';simp only at hR';have hj:=Bo hB;refine wR (Re (aR w S fp) r) (aa dj hB) ?_ ?_
       ·exact⟨⟨cr hg,_,_,_,_,_,rfl,rfl,hr,hi0,hi,hs⟩,dE,sI,u1⟩
       refine Wp.ji 167 (ev dj) (cT.refl _ _) λW2 bs2 cs hx2 hΦ=>?_
       obtain⟨fv,rfl,hg2,hv2⟩:=cI hΦ;refine wE ?_;refine⟨⟨W2,bs2,fv,dy r m k,j,n⟩,⟨by simp only;omega,DP _ _ _ hr,by simp only;omega,hg2,hR'⟩,by simp only;omega,rfl,rfl,?_⟩;exact wM (λx=>if x=3 then .key 162 else .key x) (aa dj hv2)
     ·have h123:¬ bt s i=123:=by simpa using hc
      rw[if_neg h123]at hR';refine wR Γ0 dj ?_ ?_
      ·exact hg.one
      refine wZ dj ?_;rw[<- hR'];exact fJ hg rfl ((ev (aa dj @aB))) dE
 ·have hi:¬ i<s.size:=by
   simp at hc;omega
  rw[jt,if_pos hi]at hR';refine wE ?_;refine wR Γ0 dj ?_ ?_
  ·exact hg.one
  refine wZ dj ?_;rw[<- hR'];exact fJ hg rfl ((ev (aa dj @aB))) dE
def mJ(a:RL):Dh prog 250 where
 T:=251
 kinds:=[some (Sh.two,dU a)]
 pre:=λfs as_ W S=>∃ s i d op x,fs=xH s i d op/\as_=[x]/\a.1<=2001/\0<=i/\i<=s.size/\s.size<=140737488351232
 premono:=λ_ _ _ _ _ _ _ h=>h
 out:=λfs as_=>match fs with
  |[.val (.string s),.val (.int .i64 i),.row 3 1 d op]=>GZ s d op (jt (bt s) s.size ((s.size:Int).toNat+1) a i)
  |_=>.pan [] undef
 enters:=call250
 ok:=by
  intro w S u fp us fs as_ ho hlt hS hu hp;obtain⟨s,i,d,op,x,rfl,rfl,ha,h0,hi,hs⟩:=hp
  match us,hu with
  |[u1],hu=>
   obtain⟨h1,_⟩:=hu;obtain⟨fa,rfl,h1'⟩:=l6 h1;exact G2 s i d op a fa ha u fp w S h0 hi hs ho hlt hS h1'
def gU(s:ByteArray)(i:Int):Except (Int×Int) (BitVec 256×Int):=match ei s i with
 |.error j=>.error (10,j)
 |.ok (a,j)=>.ok (a,j)
def Eo(f:FuncId)(E:ByteArray->Int->Except (Int×Int) (RL×Int))(need:ByteArray->Int->Prop)(n:Nat):Prop:=
 ∀ (s:ByteArray) (i:Int) (d:Nat) (op:List Value) (u:Value) (fp:List Nat) (w:World) (S:Nat->Prop),d+n=1000->op.length=d->0<=i->need s i->s.size<=140737488351232->bB w S ->
  bC w u fp 251 (xH s i d op)->(∀ b∈fp,b<w.heap.size)->(∀ b∈fp,¬ S b) ->
  Calls prog f (#[u]++#[]) w λe w' => DI w S u fp 251 e w' (GZ s d op (E s i))
abbrev Hm (n:Nat):Prop:=Eo 251 (λs i=>bx (bt s) s.size (gU s) n i) (λs i=>i<s.size) n
abbrev TD (n:Nat):Prop:=Eo 216 (λs i=>ft (bt s) s.size (bx (bt s) s.size (gU s) n) ((s.size:Int).toNat+1) none i) (λs i=>i<=s.size) n
abbrev IL (n:Nat):Prop:=Eo 178 (λs i=>lV (bt s) s.size (ft (bt s) s.size (bx (bt s) s.size (gU s) n) ((s.size:Int).toNat+1) none) i) (λs i=>i<=s.size) n
abbrev Xi (n:Nat):Prop:=Eo 126 (λs i=>xJ (bt s) s.size (bx (bt s) s.size (gU s) n) i) (λs i=>i<=s.size) n
def mL(f:FuncId)(E:ByteArray->Int->Except (Int×Int) (RL×Int))(need:ByteArray->Int->Prop)(n:Nat)(hen:∀ args w,(callFunc f args).run prog w=.ok (.enter f args) w)(h:Eo f E need n):Dh prog f where
 T:=251
 kinds:=[]
 pre:=λfs as_ W S=>(∃ s i d op,fs=xH s i d op/\d+n=1000/\op.length=d/\0<=i/\need s i/\s.size<=140737488351232)/\bB W S
 premono:=λ_ _ _ _ _ _ hs h=>⟨h.1,h.2.mono hs⟩
 out:=λfs as_=>match fs with
  |[.val (.string s),.val (.int .i64 i),.row 3 1 d op]=>GZ s d op (E s i)
  |_=>.pan [] undef
 enters:=hen
 ok:=by
  intro w S u fp us fs as_ ho hlt hS hu hp;obtain⟨⟨s,i,d,op,rfl,h1,h2,h3,h4,h5⟩,h6⟩:=hp
  match us,as_,hu with
  |[],[],_=>exact h s i d op u fp w S h1 h2 h3 h4 h5 h6 ho hlt hS
theorem tZ(f:FuncId)(E:ByteArray->Int->Except (Int×Int) (RL×Int))(need:ByteArray->Int->Prop)(n:Nat)(hen)(h:Eo f E need n)(s:ByteArray)(i:Int)(d:Nat)(op:List Value)(as_:List AV) :
  (mL f E need n hen h).out [.val (.string s),.val (.int .i64 i),.row 3 1 d op] as_=GZ s d op (E s i):=rfl
theorem tG(f:FuncId)(E:ByteArray->Int->Except (Int×Int) (RL×Int))(need:ByteArray->Int->Prop)(n:Nat)(hen)(h:Eo f E need n)(fs as_:List AV)(W:World)(S:Nat->Prop) :
  (mL f E need n hen h).pre fs as_ W S=((∃ s i d op,fs=xH s i d op/\d+n=1000/\op.length=d/\0<=i/\need s i/\s.size<=140737488351232)/\bB W S):=rfl
theorem oc(f:FuncId)(E:ByteArray->Int->Except (Int×Int) (RL×Int))(need:ByteArray->Int->Prop)(n:Nat)(hen)(h:Eo f E need n):(mL f E need n hen h).kinds=[]:=rfl
theorem Gj(f:FuncId)(E:ByteArray->Int->Except (Int×Int) (RL×Int))(need:ByteArray->Int->Prop)(n:Nat)(hen)(h:Eo f E need n):(mL f E need n hen h).T=251:=rfl
theorem Eh(a:RL)(s:ByteArray)(i:Int)(d:Nat)(op:List Value)(as_:List AV):(mJ a).out [.val (.string s),.val (.int .i64 i),.row 3 1 d op] as_=GZ s d op (jt (bt s) s.size ((s.size:Int).toNat+1) a i):=rfl
theorem FP(a:RL)(fs as_:List AV)(W:World)(S:Nat->Prop):(mJ a).pre fs as_ W S=∃ s i d op x,fs=xH s i d op/\as_=[x]/\a.1<=2001/\0<=i/\i<=s.size/\s.size<=140737488351232:=rfl
theorem BC(a:RL):(mJ a).kinds=[some (Sh.two,dU a)]:=rfl
theorem MS(a:RL):(mJ a).T=251:=rfl
noncomputable def KO(G:Nat->Prop)(n:Nat)(h:Hm n)(a x y:RL):Env prog:=⟨λ| 127=>some ez.spec|179=>some jd.spec|128=>some gH.spec|249=>some ((oB .eps).spec G)|180=>some ((iW .cat x y).spec G)|250=>some ((mJ a).spec G)|251=>some ((mL _ _ _ n call251 h).spec G)|_=>none,λ_=>none,λ_ _=>none⟩
section
variable (G:Nat->Prop)(n:Nat)(h:Hm n)(a x y:RL)
theorem ahd:(KO G n h a x y).sp 127=some ez.spec:=rfl
theorem afC:(KO G n h a x y).sp 179=some jd.spec:=rfl
theorem ad2:(KO G n h a x y).sp 128=some gH.spec:=rfl
theorem abo:(KO G n h a x y).sp 249=some ((oB .eps).spec G):=rfl
theorem acu:(KO G n h a x y).sp 180=some ((iW .cat x y).spec G):=rfl
theorem ac7:(KO G n h a x y).sp 250=some ((mJ a).spec G):=rfl
theorem aeD:(KO G n h a x y).sp 251=some ((mL _ _ _ n call251 h).spec G):=rfl
end
theorem EC{s:ByteArray}:∀ {n:Nat} {i:Int} {a b:CS} {j:Int},va s n i a=.ok (b,j)->0<=i->i<j/\j<=s.size
 |0,i,a,b,j,h,_=>by cases h
 | n+1,i,a,b,j,h,h0=>by
  rw[va]at h;split at h
  ·simp only[Except.ok.injEq,Prod.mk.injEq]at h;omega
  ·cases h1:eG s i mH with
   |error e=>rw[h1]at h;cases h
   | ok p=>
    obtain⟨lo,k⟩:=p;rw[h1]at h;simp only at h;have g1:=kY h1 h0;split at h
    ·cases h2:eG s (k+1) mH with
     |error e=>rw[h2]at h;cases h
     |ok p=>
      obtain⟨hi,l⟩:=p;rw[h2]at h;simp only at h;have g2:=kY h2 oM;split at h
      ·cases h
      ·have:=EC h oM;omega
    ·have:=EC h oM;omega
theorem Bn{s:ByteArray}{i:Int}{a:CS}{j:Int}(h:ei s i=.ok (a,j))(h0:0<=i)(h1:i<s.size):i<j/\j<=s.size:=by
 rw[ei]at h;split at h
 ·simp only[Except.ok.injEq,Prod.mk.injEq]at h;omega
 ·split at h
  ·rw[fy]at h;cases hm:va s (s.size+1) (if jh s (i+1) then i+1+1 else i+1) 0 with
   |error e=>rw[hm]at h;cases h
   |ok p=>
    obtain⟨b,k⟩:=p;rw[hm]at h;simp only[uR,Except.ok.injEq,Prod.mk.injEq]at h;have:=EC hm (by split<;>omega);have hle:i+1<=(if jh s (i+1) then i+1+1 else i+1):=by split<;>omega
    omega
  ·cases h2:eG s i BK with
   |error e=>rw[h2]at h;cases h
   |ok p=>
    obtain⟨b,k⟩:=p;rw[h2]at h;simp only[afO,Except.ok.injEq,Prod.mk.injEq]at h;have:=kY h2 h0;omega
theorem wV(s:ByteArray):vL s.size (gU s):=λi S j h0 h1 h=>by
 rw[gU]at h;cases h2:ei s i with
 |error e=>rw[h2]at h;cases h
 |ok p=>
  obtain⟨a,k⟩:=p;rw[h2]at h;simp only[Except.ok.injEq,Prod.mk.injEq]at h;have:=Bn h2 h0 h1;omega
theorem LX{s:ByteArray}{n:Nat}(hn:n<=1000){i j:Int}{r:RL}(h0:0<=i)(hi:i<s.size)(he:¬ gP (bt s i))(hp:¬ br (bt s i))(h:bx (bt s) s.size (gU s) n i=.ok (r,j)):i<j/\j<=s.size/\r.1<=2001:=by
 have:=tL (c:=bt s) (wV s) n i (gK 0) (List.replicate (1000-n) (gK 0)) h0 hi he hp (by simp;omega);rw[h]at this;obtain⟨h1,h2,t,rfl,_⟩:=this;exact⟨h1,h2,wG t⟩
theorem nj{s:ByteArray}:∀ {n:Nat} {r r' : RL} {i j:Int},jt (bt s) s.size n r i=.ok (r',j)->i<=s.size->r.1<=2001->i<=j/\j<=s.size/\r'.1<=2001
 |0,r,r',i,j,h,hi,hr=>by
  simp only[jt,Except.ok.injEq,Prod.mk.injEq]at h;obtain⟨rfl,rfl⟩:=h;exact⟨Int.le_refl _,hi,hr⟩
 | n+1,r,r',i,j,h,hi,hr=>by
  rw[jt]at h;split at h
  ·simp only[Except.ok.injEq,Prod.mk.injEq]at h;obtain⟨rfl,rfl⟩:=h;exact⟨Int.le_refl _,hi,hr⟩
  ·split at h
   ·have:=nj h oM (ph _);exact⟨oM,this.2⟩
   ·split at h
    ·have:=nj h oM (gj _ _ _);exact⟨oM,this.2⟩
    ·split at h
     ·have:=nj h oM (mR _);exact⟨oM,this.2⟩
     ·split at h
      ·cases hB:oq (bt s) s.size i with
       |error e=>rw[hB]at h;cases h
       |ok q=>
        obtain⟨m,k,l⟩:=q;rw[hB]at h;have hl:=Bo hB;have:=nj h oM (DP _ _ _ hr);exact⟨oM,this.2⟩
      ·simp only[Except.ok.injEq,Prod.mk.injEq]at h;obtain⟨rfl,rfl⟩:=h;exact⟨Int.le_refl _,hi,hr⟩
theorem ade(o:Option RL)(p:RL)(hp:p.1<=2001):(zJ o p).1<=2001:=by
 cases o with
 |none=>exact hp
 |some x=>exact gj _ _ _
structure RO where
 W:World
 bs:List Nat
 fo:Value
 o:Option RL
 i:Int
 n:Nat
def bG:=(aj @List.replicate_succ.{0} @List.replicate_zero.{0} @an @ab jo jl gS (aj ca cc b9 cg cf cj cd (aj ck fu fE fj fz fw aal (aj VZ Vq U6 vY vX vN wU (aj AA AZ Aj Ba Ah AS yM (aj zk yQ zE Ak y7 sZ sK (aj sE sU tI sX P2 Qt Pa (aj OY Pm Ov PY Dt DE Da (aj @xH.eq_1 @xZ.eq_1 @eJ.eq_1 @aG @al @ay @ax (aj @ig @lG @iz @ir @lK @lp @lg (aj @qA @kf @j8 @nF @oB.eq_1 @iW.eq_1 @qQ (aj @bV @tZ @tG @oc @Gj @Eh @FP (aj @BC @MS @ahd @afC @ad2 @abo @acu (aa @ac7 @aeD))))))))))))))
theorem OQ(n:Nat)(hA:Hm n):TD n:=by
 intro s i0 d op u fp w S hdn hop h0 hi1 hs hesc ho hlt hS;have u0:=aR.up w S fp;have e0:=hesc.mono (aR.lA w S fp hS);dsimp only;generalize hR:ft (bt s) s.size (bx (bt s) s.size (gU s) n) ((s.size:Int).toNat+1) none i0=R
 refine jH (nt:=41) S #[] [.cell 2 254] (by show 3<=7;omega) ho hlt func216 rfl rfl rfl ?_;refine vR Γ0 bG ?_;refine wR (KO (aR w S fp) n hA (bY .eps) (bY .eps) (bY .eps)) bG ?_ ?_
 ·exact⟨rfl,u0⟩
 refine Wp.ji 32 (ev bG) (cT.refl _ _) λW0 bs0 cs hx0 hΦ=>?_
 obtain⟨fv,rfl,hg,hv1⟩:=cI hΦ;have u00:=u0.ext hx0;refine Wp.seq (Wp.block ?_)
 refine Wp.De (λp:RO=>⟨10,bm [(0,.is (.own 0 0)),(2,.is (.own 8 0)),(3,.is (.own 40 0)),(4,.is (.v (.bool p.o.isSome)))],aY [(0,.cells 251 [.v (.string s),.v (.int .i64 p.i),.hd 3]),(3,.row 3 1 d (op.map .v)),(8,.cells 254 [.v (.int .i64 0),.v .nilFunc]),(40,.cells 254 [.v (.int .i64 ((vx p.o).1:Nat)),.v p.fo])]⟩)
  RO.W RO.bs (λp=>(0<=p.i/\p.i<=s.size)/\(vx p.o).1<=2001/\((s.size:Int)-p.i<p.n/\1<=p.n)/\bJ p.W (jk (aR w S fp) p.bs) p.fo (vx p.o).2/\ft (bt s) s.size (bx (bt s) s.size (gU s) n) p.n p.o p.i=R) (λp=>p.n) ⟨W0,bs0,fv,none,i0,(s.size:Int).toNat+1⟩ rfl rfl ?_ ⟨⟨h0,hi1⟩,by show 1<=2001;omega,⟨by simp only;omega,by simp only;omega⟩,hg,hR⟩ ?_
 ·exact wM (λx=>.key x) (oy bG hv1 @vx.eq_1 @bY.eq_1 @Option.getD_none.{0})
 rintro⟨W1,bs1,fo,o,i,k⟩ ⟨⟨hi0,hiN⟩,hr,⟨hn,hn1⟩,hg,hR'⟩ hx1;simp only at hi0 hiN hr hn hn1 hg hR' hx1;dsimp only;obtain⟨k,rfl⟩:∃ m,k=m+1:=⟨k-1,oM⟩;have hx01:=hx0.trans hx1;have u1:=u0.ext hx01;have e1:=e0.mono hx01.Gw;refine Wp.seq ?_
 refine wR (KO (aR w S fp) n hA (bY .eps) (bY .eps) (bY .eps)) bG ?_ ?_
 ·first|trivial|omega|(simp[hs];done)|(simp[hs];omega)|(simp[hs]<;>omega)
 refine wC bG (λhc=>?_) (λhc=>?_)
 ·have hi:i<s.size:=by
   simp at hc;omega
  rw[ft,if_neg oM]at hR';refine wK ?_;refine Wp.block ?_;refine Wp.seq ?_;refine wR (KO (aR w S fp) n hA (bY .eps) (bY .eps) (bY .eps)) bG ?_ ?_
  ·first|trivial|omega|(simp[hs];done)|(simp[hs];omega)|(simp[hs]<;>omega)
  refine Wp.block ?_
  refine aW ⟨30,bm [(0,.is (.own 0 0)),(2,.is (.own 8 0)),(3,.is (.own 40 0)),(4,.is (.v (.bool o.isSome))),(13,.is (.v (.int .u8 (bt s i)))),(14,.is (.v (.bool (decide (gP (bt s i))))))],aY [(0,.cells 251 [.v (.string s),.v (.int .i64 i),.hd 3]),(3,.row 3 1 d (op.map .v)),(8,.cells 254 [.v (.int .i64 0),.v .nilFunc]),(40,.cells 254 [.v (.int .i64 ((vx o).1:Nat)),.v fo])]⟩ ?_ ?_
  ·skip;refine vR Γ0 bG ?_;refine wC bG (λhc=>?_) (λhc=>?_)
   ·have e:decide (gP (bt s i))=true:=decide_eq_true (show gP (bt s i) from .inl (by simpa using hc));refine wK ?_;exact wM (λx=>.key x) (bQ bG hc e)
   ·have hc1:=hc;refine vR Γ0 bG ?_;refine wC bG (λhc=>?_) (λhc=>?_)
    ·have e:decide (gP (bt s i))=true:=decide_eq_true (show gP (bt s i) from .inr (.inl (by simpa using hc)));refine wK ?_;exact wM (λx=>.key x) (bQ bG hc e)
    ·have hc2:=hc;refine vR Γ0 bG ?_;refine wC bG (λhc=>?_) (λhc=>?_)
     ·have e:decide (gP (bt s i))=true:=decide_eq_true (show gP (bt s i) from .inr (.inr (.inl (by simpa using hc))));refine wK ?_;exact wM (λx=>.key x) (bQ bG hc e)
     ·have e:decide (gP (bt s i))=decide (bt s i=41):=by
       have g1:¬ bt s i=124:=by simpa using hc1
       have g2:¬ bt s i=38:=by simpa using hc2
       have g3:¬ bt s i=45:=by simpa using hc
       rw[decide_eq_decide];unfold gP;omega
      refine vr Γ0 bG ?_;exact wM (λx=>.key x) (aa bG e)
  refine wC bG (λhc=>?_) (λhc=>?_)
  ·have he:gP (bt s i):=by simpa using hc
   rw[if_pos he]at hR';refine wR Γ0 bG ?_ ?_
   ·exact hg.one
   refine wZ bG ?_;rw[<- hR'];exact fJ hg rfl ((ev (aa bG @aB))) dE
  ·have he:¬ gP (bt s i):=by simpa using hc
   rw[if_neg he]at hR'
   refine aW ⟨50,bm [(0,.is (.own 0 0)),(2,.is (.own 8 0)),(3,.is (.own 40 0)),(4,.is (.v (.bool o.isSome))),(20,.is (.v (.bool (decide (br (bt s i))))))],aY [(0,.cells 251 [.v (.string s),.v (.int .i64 i),.hd 3]),(3,.row 3 1 d (op.map .v)),(8,.cells 254 [.v (.int .i64 0),.v .nilFunc]),(40,.cells 254 [.v (.int .i64 ((vx o).1:Nat)),.v fo])]⟩ ?_ ?_
   ·skip;refine vR Γ0 bG ?_;refine wC bG (λhc=>?_) (λhc=>?_)
    ·have e:decide (br (bt s i))=true:=decide_eq_true (show br (bt s i) from .inl (by simpa using hc));refine wK ?_;exact wM (λx=>.key x) (bQ bG hc e)
    ·have hc1:=hc;refine vR Γ0 bG ?_;refine wC bG (λhc=>?_) (λhc=>?_)
     ·have e:decide (br (bt s i))=true:=decide_eq_true (show br (bt s i) from .inr (.inl (by simpa using hc)));refine wK ?_;exact wM (λx=>.key x) (bQ bG hc e)
     ·have hc2:=hc;refine vR Γ0 bG ?_;refine wC bG (λhc=>?_) (λhc=>?_)
      ·have e:decide (br (bt s i))=true:=decide_eq_true (show br (bt s i) from .inr (.inr (.inl (by simpa using hc))));refine wK ?_;exact wM (λx=>.key x) (bQ bG hc e)
      ·have e:decide (br (bt s i))=decide (bt s i=123):=by
        have g1:¬ bt s i=42:=by simpa using hc1
        have g2:¬ bt s i=43:=by simpa using hc2
        have g3:¬ bt s i=63:=by simpa using hc
        rw[decide_eq_decide];unfold br;omega
       refine vr Γ0 bG ?_;exact wM (λx=>.key x) (aa bG e)
   refine wC bG (λhc=>?_) (λhc=>?_)
   ·have hp:br (bt s i):=by simpa using hc
    rw[if_pos hp]at hR';rw[<- hR',bV];refine Wp.q8 (KO (aR w S fp) n hA (bY .eps) (bY .eps) (bY .eps)) b8 (ev bG) ?_ ?_
    ·first|trivial|omega|(simp[hs];done)|(simp[hs];omega)|(simp[hs]<;>omega)
    refine qq ?_;exact⟨_,rfl⟩
   ·have hp:¬ br (bt s i):=by simpa using hc
    rw[if_neg hp]at hR';refine wK ?_;cases hAt:bx (bt s) s.size (gU s) n i with
    |error e=>
     obtain⟨c,j⟩:=e;rw[hAt]at hR';simp only at hR';rw[<- hR',bV];refine Wp.kH (KO (aR w S fp) n hA (bY .eps) (bY .eps) (bY .eps)) b8 (ev (aa bG hAt)) ?_ ?_
     ·exact⟨⟨⟨_,_,_,_,rfl,hdn,hop,hi0,hi,hs⟩,e1⟩,dE,sI⟩
     refine qq ?_;exact⟨_,rfl⟩
    | ok q=>
     obtain⟨a,j⟩:=q;have ha:=LX oM hi0 hi he hp hAt;rw[hAt]at hR';simp only at hR';cases hRp:jt (bt s) s.size ((s.size:Int).toNat+1) a j with
     |error e=>
      obtain⟨c,l⟩:=e;rw[hRp]at hR';simp only at hR';rw[<- hR',bV];have hRp' := hRp;rw[Int.toNat_natCast]at hRp';refine Wp.kH (KO (aR w S fp) n hA a (bY .eps) (bY .eps)) b8 (ev (bQ bG hAt hRp')) ?_ ?_
      ·exact⟨⟨⟨⟨_,_,_,_,rfl,hdn,hop,hi0,hi,hs⟩,e1⟩,dE,sI,u1⟩,⟨_,_,_,_,_,rfl,rfl,ha.2.2,oM,ha.2.1,hs⟩,dE,sI⟩
      refine qq ?_;exact⟨_,rfl⟩
     | ok q=>
      obtain⟨p,l⟩:=q;have hp1:=nj hRp ha.2.1 ha.2.2;rw[hRp]at hR';simp only at hR';have hRp' := hRp;rw[Int.toNat_natCast]at hRp';refine wR (KO (aR w S fp) n hA a (bY .eps) (bY .eps)) (bQ bG hAt hRp') ?_ ?_
      ·exact⟨⟨⟨⟨_,_,_,_,rfl,hdn,hop,hi0,hi,hs⟩,e1⟩,dE,sI,u1⟩,⟨_,_,_,_,_,rfl,rfl,ha.2.2,oM,ha.2.1,hs⟩,dE,sI,u1⟩
      refine Wp.ji 431 (ev bG) (cT.refl _ _) λW2 bs2 cs hx2 hΦ=>?_
      obtain⟨fp2,rfl,hg2,hv2⟩:=cI hΦ;have hgo:=hg.mono hx2.Gw;have u2:=u1.ext hx2
      refine kK (λp2:TI=>⟨70,bm [(0,.is (.own 0 0)),(2,.is (.own 8 0)),(3,.is (.own 40 0)),(5,.is (.own 432 0))],aY [(0,.cells 251 [.v (.string s),.v (.int .i64 l),.hd 3]),(3,.row 3 1 d (op.map .v)),(8,.cells 254 [.v (.int .i64 0),.v .nilFunc]),(40,.cells 254 [.v (.int .i64 ((vx o).1:Nat)),.v fo]),(432,.cells 254 [.v (.int .i64 ((zJ o p).1:Nat)),.v p2.fo])]⟩) TI.W TI.bs
       (λp2=>bJ p2.W (jk (aR w S fp) p2.bs) p2.fo (zJ o p).2) ?_ ?_
      ·skip;refine vR Γ0 bG ?_;refine wC bG (λhc=>?_) (λhc=>?_)
       ·obtain⟨x,rfl⟩:=Option.isSome_iff_exists.1 hc;refine Wp.more ?_;refine wr (KO (aR w S fp) n hA a x p) (bQ bG hv2 @vx.eq_1) ?_ ?_
        ·exact⟨⟨⟨cr hgo,cr hg2⟩,⟨hr,hp1.2.2⟩,_,_,rfl⟩,u2⟩
        refine fH ?_;refine Pw.ji 472 (ev (aa bG hv2)) (cT.refl _ _) λW3 bs3 cs hx3 hΦ3=>?_
        obtain⟨fp3,rfl,hg3,hv3⟩:=cI hΦ3;refine Pw.here ?_;refine qq ?_;refine⟨⟨W3,bs3,fp3,0⟩,hg3,rfl,rfl,?_⟩;exact wM (λx=>if x=3 then .key 426 else .key x) (oy bG hv2 hv3 @zJ.eq_1 @zJ.eq_2)
       ·have ho2:o=none:=by cases o with|none=>rfl|some x=>cases hc
        subst ho2;refine wK ?_;refine⟨⟨W2,bs2,fp2,0⟩,hg2,rfl,rfl,?_⟩;exact wM (λx=>if x=3 then .key 426 else .key x) (eT bG hv2 @zJ.eq_1 @zJ.eq_2)
      rintro⟨W3,bs3,fo3,j3⟩ hg3 hx3;simp only at hg3 hx3;dsimp only;refine wr Γ0 bG ?_ ?_
      ·exact hg3.one
      refine⟨⟨W3,bs3,fo3,some (zJ o p),l,k⟩,⟨by simp only;omega,ade o p hp1.2.2,by simp only;omega,hg3,hR'⟩,by simp only;omega,rfl,rfl,?_⟩;exact wM (λx=>.key x) (aa bG @vx.eq_1)
 ·have hi:¬ i<s.size:=by
   simp at hc;omega
  rw[ft,if_pos hi]at hR';refine wE ?_;refine wR Γ0 bG ?_ ?_
  ·exact hg.one
  refine wZ bG ?_;rw[<- hR'];exact fJ hg rfl ((ev (aa bG @aB))) dE
noncomputable def Γ48(G:Nat->Prop)(n:Nat)(h:TD n)(x y:RL):Env prog:=⟨λ| 127=>some ez.spec|179=>some jd.spec|180=>some ((iW .and x y).spec G)|216=>some ((mL _ _ _ n call216 h).spec G)|_=>none,λ_=>none,λ_ _=>none⟩
noncomputable def Γ49(G:Nat->Prop)(n:Nat)(h:TD n)(x y:RL):Env prog:=⟨λ| 127=>some ez.spec|179=>some jd.spec|180=>some ((iW .minus x y).spec G)|216=>some ((mL _ _ _ n call216 h).spec G)|_=>none,λ_=>none,λ_ _=>none⟩
noncomputable def Γ50(G:Nat->Prop)(n:Nat)(h:IL n)(x y:RL):Env prog:=⟨λ| 127=>some ez.spec|179=>some jd.spec|180=>some ((iW .alt x y).spec G)|178=>some ((mL _ _ _ n call178 h).spec G)|_=>none,λ_=>none,λ_ _=>none⟩
def al1:FK:=⟨λ_ _ _=>True,λ_ _=>trivial⟩
def yX:=(aj @List.replicate_succ.{0} @List.replicate_zero.{0} @an @ab jo jl gS (aj ca cc b9 cg cf cj cd (aj ck fu fE fj fz fw AA (aj AZ Aj Ba Ah AS yM zk (aj yQ zE Ak y7 OM QO PC (aj sZ sK sE sU tI sX Dt (aj DE Da @xH.eq_1 @xZ.eq_1 @eJ.eq_1 @aG @al (aj @ay @ax @ig @lG @iz @ir @lK (aj @lp @lg @qA @iW.eq_1 @qQ @bV @tZ (mh @tG @oc @Gj @Pe @w7 @w6))))))))))
theorem SG(na nb:Nat)(fa fb g:Value)(ha:na<=2001)(hb:nb<=2001)(h1:fa.oneCell' = true)(h2:fb.oneCell' = true)(h3:g.oneCell' = true)(hg:partsOf (.v g)=[.v g])(w:World)(S:Nat->Prop) :
  Calls prog 180 #[.agg #[.int .i64 (na:Nat),fa],.agg #[.int .i64 (nb:Nat),fb],g] w λe w' => rA w S e w' (.fact Sh.two al1):=by
 have ga:partsOf (.v (.agg #[.int .i64 (na:Nat),fa]))=[.v (.int .i64 (na:Nat)),.v fa]:=rfl;have gb:partsOf (.v (.agg #[.int .i64 (nb:Nat),fb]))=[.v (.int .i64 (nb:Nat)),.v fb]:=rfl;have w1:=Qe ha hb;refine jz (nt:=16) S [.cell 6 254] func180 rfl rfl rfl ?_;refine vR Γ40 (eT yX ga gb hg) ?_
 refine vR Γ40 (mh yX ga gb hg w1 @lu) ?_;refine Wp.oC 0 (ev (eT yX ga gb hg)) (λE=>by simp only[au,den,ga,gb,hg];exact rfl) λW1 bs1 b3 hx1 hb3 hn3 hc3=>?_
 refine Wp.oC 8 (ev (eT yX ga gb hg)) (λE=>by simp only[au,den,ga,gb,hg];exact rfl) λW2 bs2 b4 hx2 hb4 hn4 hc4=>?_
 refine Wp.oC 16 (ev (eT yX ga gb hg)) (λE=>by simp only[au,den,ga,gb,hg];exact rfl) λW3 bs3 b5 hx3 hb5 hn5 hc5=>?_
 refine wZ (mh yX ga gb hg w1 @lu) ?_;exact⟨[.int .i64 ((cF (1+na+nb):Nat):Int),.func (.func 220) #[] #[nO b5,nO b3,nO b4]],λE=>rfl,trivial⟩
def Iq:rr prog 180 where
 kinds:=[none,none,none]
 pre:=λas_ _ _=>∃ (na nb:Nat) (fa fb:Value) (g:Jn),as_=[.val (.agg #[.int .i64 (na:Nat),fa]),.val (.agg #[.int .i64 (nb:Nat),fb]),.val g.v]/\na<=2001/\nb<=2001/\fa.oneCell' = true/\fb.oneCell' = true
 premono:=λ_ _ _ _ _ _ h=>h
 out:=λ_=>.fact Sh.two al1
 enters:=call180
 ok:=by
  intro w S us as_ hu hp;obtain⟨na,nb,fa,fb,g,rfl,ha,hb,h1,h2⟩:=hp
  match us,hu with
  |[u1,u2,u3],hu=>
   obtain⟨rfl,rfl,rfl,_⟩:=hu;exact SG na nb fa fb g.v ha hb h1 h2 rfl rfl w S
noncomputable def Γ51(G:Nat->Prop)(n:Nat)(h:TD n):Env prog:=⟨λ| 180=>some (Iq.spec G)|216=>some ((mL _ _ _ n call216 h).spec G)|_=>none,λ_=>none,λ_ _=>none⟩
noncomputable def Γ52(G:Nat->Prop)(n:Nat)(h:IL n):Env prog:=⟨λ| 180=>some (Iq.spec G)|178=>some ((mL _ _ _ n call178 h).spec G)|_=>none,λ_=>none,λ_ _=>none⟩
section
variable (G:Nat->Prop)(n:Nat)(h:TD n)(h' : IL n)(x y:RL)
theorem ag7:(Γ51 G n h).sp 180=some (Iq.spec G):=rfl
theorem abY:(Γ51 G n h).sp 216=some ((mL _ _ _ n call216 h).spec G):=rfl
theorem abD:(Γ52 G n h').sp 180=some (Iq.spec G):=rfl
theorem abN:(Γ52 G n h').sp 178=some ((mL _ _ _ n call178 h').spec G):=rfl
theorem acH:(Γ48 G n h x y).sp 127=some ez.spec:=rfl
theorem afI:(Γ48 G n h x y).sp 179=some jd.spec:=rfl
theorem age:(Γ48 G n h x y).sp 180=some ((iW .and x y).spec G):=rfl
theorem afY:(Γ48 G n h x y).sp 216=some ((mL _ _ _ n call216 h).spec G):=rfl
theorem adO:(Γ49 G n h x y).sp 127=some ez.spec:=rfl
theorem acK:(Γ49 G n h x y).sp 179=some jd.spec:=rfl
theorem adj:(Γ49 G n h x y).sp 180=some ((iW .minus x y).spec G):=rfl
theorem agi:(Γ49 G n h x y).sp 216=some ((mL _ _ _ n call216 h).spec G):=rfl
theorem abI:(Γ50 G n h' x y).sp 127=some ez.spec:=rfl
theorem agn:(Γ50 G n h' x y).sp 179=some jd.spec:=rfl
theorem adJ:(Γ50 G n h' x y).sp 180=some ((iW .alt x y).spec G):=rfl
theorem acO:(Γ50 G n h' x y).sp 178=some ((mL _ _ _ n call178 h').spec G):=rfl
end
theorem vj{s:ByteArray}{m:Nat}(hm:m<=1000){i j:Int}{r:RL}(h0:0<=i)(hi:i<=s.size)(h:ft (bt s) s.size (bx (bt s) s.size (gU s) m) ((s.size:Int).toNat+1) none i=.ok (r,j)):i<=j/\j<=s.size/\r.1<=2001:=by
 have:=Fp (wV s) (tL (c:=bt s) (wV s) m) ((s.size:Int).toNat+1) i (gK 0) (List.replicate (1000-m) (gK 0)) h0 hi oM (λh=>absurd rfl h) (by simp;omega);have e0:(rowOf (gK 0).row (gK 0).fac).map RT.val=none:=rfl;rw[e0,h]at this;obtain⟨h1,h2,_,row,fac,rfl,_⟩:=this;exact⟨h1,h2,wG _⟩
theorem yN{s:ByteArray}{m:Nat}(hm:m<=1000){i j:Int}{r:RL}(h0:0<=i)(hi:i<=s.size)(h:lV (bt s) s.size (ft (bt s) s.size (bx (bt s) s.size (gU s) m) ((s.size:Int).toNat+1) none) i=.ok (r,j)):i<=j/\j<=s.size/\r.1<=2001:=by
 have:=yA (wV s) (tL (c:=bt s) (wV s) m) i (gK 0) (List.replicate (1000-m) (gK 0)) h0 hi (by simp;omega) rfl rfl rfl;rw[h]at this;obtain⟨h1,h2,_,g,_,_,rfl,_⟩:=this;exact⟨h1,h2,wG _⟩
theorem DM{s:ByteArray}{m:Nat}(hm:m<=1000){i j:Int}{r:RL}(h0:0<=i)(hi:i<=s.size)(h:xJ (bt s) s.size (bx (bt s) s.size (gU s) m) i=.ok (r,j)):i<=j/\j<=s.size/\r.1<=2001/\(j<s.size->bt s j=41):=by
 have:=D7 (wV s) (tL (c:=bt s) (wV s) m) i 0 (List.replicate (1000-m) (gK 0)) h0 hi (by simp;omega);rw[h]at this;obtain⟨h1,h2,h3,g,_,rfl,_⟩:=this;exact⟨h1,h2,wG _,h3⟩
def ct:=(aj yX @ag7 @abY @abD @abN @Iq.eq_1 @yY.eq_1 (aj @acH @afI @age @afY @adO @acK @adj (oy @agi @abI @agn @adJ @acO)))
theorem Dv(n:Nat)(hA:TD n):IL n:=by
 intro s i0 d op u fp w S hdn hop h0 hi1 hs hesc ho hlt hS;have u0:=aR.up w S fp;have e0:=hesc.mono (aR.lA w S fp hS);dsimp only;unfold lV;refine jH (nt:=39) S #[] [.cell 2 254] (by show 3<=7;omega) ho hlt func178 rfl rfl rfl ?_;refine vR Γ0 ct ?_
 cases hF:ft (bt s) s.size (bx (bt s) s.size (gU s) n) ((s.size:Int).toNat+1) none i0 with
 |error e=>
  obtain⟨c,j⟩:=e;simp only;rw[bV];have hF' := hF;rw[Int.toNat_natCast]at hF';refine Wp.kH (Γ48 (aR w S fp) n hA (bY .eps) (bY .eps)) b8 (ev (aa ct hF')) ?_ ?_
  ·exact⟨⟨⟨_,_,_,_,rfl,hdn,hop,h0,hi1,hs⟩,e0⟩,dE,sI⟩
  refine qq ?_;exact⟨_,rfl⟩
 | ok q=>
  obtain⟨r0,j0⟩:=q;simp only;have hr0:=vj oM h0 hi1 hF;have hF' := hF;rw[Int.toNat_natCast]at hF';generalize hR:lT (bt s) s.size (ft (bt s) s.size (bx (bt s) s.size (gU s) n) ((s.size:Int).toNat+1) none) ((s.size:Int).toNat+1) r0 j0=R
  refine wR (Γ48 (aR w S fp) n hA (bY .eps) (bY .eps)) (aa ct hF') ?_ ?_
  ·exact⟨⟨⟨_,_,_,_,rfl,hdn,hop,h0,hi1,hs⟩,e0⟩,dE,sI,u0⟩
  refine Wp.ji 31 (ev ct) (cT.refl _ _) λW0 bs0 cs hx0 hΦ=>?_
  obtain⟨fv,rfl,hg,hv1⟩:=cI hΦ;have u00:=u0.ext hx0;refine Wp.seq (Wp.block ?_)
  refine Wp.De (λp:RI=>⟨10,bm [(0,.is (.own 0 0)),(2,.is (.own 8 0)),(3,.is (.own 32 0))],aY [(0,.cells 251 [.v (.string s),.v (.int .i64 p.i),.hd 3]),(3,.row 3 1 d (op.map .v)),(8,.cells 254 [.v (.int .i64 0),.v .nilFunc]),(32,.cells 254 [.v (.int .i64 (p.r.1:Nat)),.v p.fo])]⟩)
   RI.W RI.bs (λp=>(0<=p.i/\p.i<=s.size)/\p.r.1<=2001/\((s.size:Int)-p.i<p.n/\1<=p.n)/\bJ p.W (jk (aR w S fp) p.bs) p.fo p.r.2/\lT (bt s) s.size (ft (bt s) s.size (bx (bt s) s.size (gU s) n) ((s.size:Int).toNat+1) none) p.n p.r p.i=R) (λp=>p.n) ⟨W0,bs0,fv,r0,j0,(s.size:Int).toNat+1⟩ rfl rfl ?_ ⟨⟨by simp only;omega,hr0.2.1⟩,hr0.2.2,⟨by simp only;omega,by simp only;omega⟩,hg,hR⟩ ?_
  ·exact wM (λx=>if x=3 then .key 26 else .key x) (aa ct hv1)
  rintro⟨W1,bs1,fo,r,i,k⟩ ⟨⟨hi0,hiN⟩,hr,⟨hn,hn1⟩,hg,hR'⟩ hx1;simp only at hi0 hiN hr hn hn1 hg hR' hx1;dsimp only;obtain⟨k,rfl⟩:∃ m,k=m+1:=⟨k-1,oM⟩;have hx01:=hx0.trans hx1;have u1:=u0.ext hx01;have e1:=e0.mono hx01.Gw;refine Wp.seq ?_;refine wR (Γ48 (aR w S fp) n hA (bY .eps) (bY .eps)) ct ?_ ?_
  ·first|trivial|omega|(simp[hs];done)|(simp[hs];omega)|(simp[hs]<;>omega)
  refine wC ct (λhc=>?_) (λhc=>?_)
  ·have hi:i<s.size:=by
    simp at hc;omega
   rw[lT,if_neg oM]at hR';refine wK ?_;refine Wp.block ?_;refine wR (Γ48 (aR w S fp) n hA (bY .eps) (bY .eps)) ct ?_ ?_
   ·first|trivial|omega|(simp[hs];done)|(simp[hs];omega)|(simp[hs]<;>omega)
   refine Wp.block ?_;refine vR Γ0 ct ?_;refine wC ct (λhc=>?_) (λhc=>?_)
   ·have h38:bt s i=38:=by simpa using hc
    rw[if_pos h38]at hR';have wi:IntKind.i64.wrap (i+1)=i+1:=ae oM oM;refine vR Γ0 (aa ct wi) ?_;cases hF2:ft (bt s) s.size (bx (bt s) s.size (gU s) n) ((s.size:Int).toNat+1) none (i+1) with
    |error e=>
     obtain⟨c,j⟩:=e;rw[hF2]at hR';simp only at hR';rw[<- hR',bV];have hF2' := hF2;rw[Int.toNat_natCast]at hF2';refine Wp.OZ (Γ51 (aR w S fp) n hA) b8 (ev (bQ ct hF2' wi)) rfl (by kernel_rfl) ?_ ?_
     ·exact⟨⟨⟨⟨_,_,_,_,rfl,hdn,hop,oM,oM,hs⟩,e1⟩,dE,sI⟩,⟨r.1,0,fo,.nilFunc,.and,rfl,hr,oM,hg.one,rfl⟩,u1⟩
     refine qq ?_;exact⟨_,rfl⟩
    |ok q=>
     obtain⟨r2,j2⟩:=q;rw[hF2]at hR';simp only at hR';have hr2:=vj oM oM oM hF2;have hF2' := hF2;rw[Int.toNat_natCast]at hF2';refine Wp.more ?_;refine xv (Γ48 (aR w S fp) n hA r r2) (bQ ct hF2' wi) ?_ ?_
     ·exact⟨⟨⟨⟨_,_,_,_,rfl,hdn,hop,oM,oM,hs⟩,e1⟩,dE,sI,u1⟩,⟨cr hg,⟨hr,hr2.2.2⟩,_,_,rfl⟩,u1⟩
     refine fH ?_;refine Pw.ji 224 (ev ct) (cT.refl _ _) λW2 bs2 cs hx2 hΦ2=>?_
     obtain⟨fv2,rfl,hg2,hv2⟩:=cI hΦ2;refine Pw.here ?_;refine qq ?_;refine⟨⟨W2,bs2,fv2,aX .and r r2,j2,k⟩,⟨by simp only;omega,gj _ _ _,by simp only;omega,hg2,hR'⟩,by simp only;omega,rfl,rfl,?_⟩;exact wM (λx=>if x=3 then .key 218 else .key x) (aa ct hv2)
   ·have h38:¬ bt s i=38:=by simpa using hc
    rw[if_neg h38]at hR';refine vR Γ0 ct ?_;refine wC ct (λhc=>?_) (λhc=>?_)
    ·have h45:bt s i=45:=by simpa using hc
     rw[if_pos h45]at hR';have wi:IntKind.i64.wrap (i+1)=i+1:=ae oM oM;refine vR Γ0 (aa ct wi) ?_;cases hF2:ft (bt s) s.size (bx (bt s) s.size (gU s) n) ((s.size:Int).toNat+1) none (i+1) with
     |error e=>
      obtain⟨c,j⟩:=e;rw[hF2]at hR';simp only at hR';rw[<- hR',bV];have hF2' := hF2;rw[Int.toNat_natCast]at hF2';refine Wp.OZ (Γ51 (aR w S fp) n hA) b8 (ev (bQ ct hF2' wi)) rfl (by kernel_rfl) ?_ ?_
      ·exact⟨⟨⟨⟨_,_,_,_,rfl,hdn,hop,oM,oM,hs⟩,e1⟩,dE,sI⟩,⟨r.1,0,fo,.nilFunc,.minus,rfl,hr,oM,hg.one,rfl⟩,u1⟩
      refine qq ?_;exact⟨_,rfl⟩
     |ok q=>
      obtain⟨r2,j2⟩:=q;rw[hF2]at hR';simp only at hR';have hr2:=vj oM oM oM hF2;have hF2' := hF2;rw[Int.toNat_natCast]at hF2';refine Wp.more ?_;refine xv (Γ49 (aR w S fp) n hA r r2) (bQ ct hF2' wi) ?_ ?_
      ·exact⟨⟨⟨⟨_,_,_,_,rfl,hdn,hop,oM,oM,hs⟩,e1⟩,dE,sI,u1⟩,⟨cr hg,⟨hr,hr2.2.2⟩,_,_,rfl⟩,u1⟩
      refine fH ?_;refine Pw.ji 240 (ev ct) (cT.refl _ _) λW2 bs2 cs hx2 hΦ2=>?_
      obtain⟨fv2,rfl,hg2,hv2⟩:=cI hΦ2;refine Pw.here ?_;refine qq ?_;refine⟨⟨W2,bs2,fv2,aX .minus r r2,j2,k⟩,⟨by simp only;omega,gj _ _ _,by simp only;omega,hg2,hR'⟩,by simp only;omega,rfl,rfl,?_⟩;exact wM (λx=>if x=3 then .key 234 else .key x) (aa ct hv2)
    ·have h45:¬ bt s i=45:=by simpa using hc
     rw[if_neg h45]at hR';refine wR Γ0 ct ?_ ?_
     ·exact hg.one
     refine wZ ct ?_;rw[<- hR'];exact fJ hg rfl ((ev (aa ct @aB))) dE
  ·have hi:¬ i<s.size:=by
    simp at hc;omega
   rw[lT,if_pos hi]at hR';refine wE ?_;refine wR Γ0 ct ?_ ?_
   ·exact hg.one
   refine wZ ct ?_;rw[<- hR'];exact fJ hg rfl ((ev (aa ct @aB))) dE
theorem Hu(n:Nat)(hA:IL n):Xi n:=by
 intro s i0 d op u fp w S hdn hop h0 hi1 hs hesc ho hlt hS;have u0:=aR.up w S fp;have e0:=hesc.mono (aR.lA w S fp hS);dsimp only;unfold xJ ajO;refine jH (nt:=26) S #[] [.cell 2 254] (by show 3<=7;omega) ho hlt func126 rfl rfl rfl ?_;refine vR Γ0 ct ?_
 cases hF:lV (bt s) s.size (ft (bt s) s.size (bx (bt s) s.size (gU s) n) ((s.size:Int).toNat+1) none) i0 with
 |error e=>
  obtain⟨c,j⟩:=e;simp only;rw[bV];have hF' := hF;rw[Int.toNat_natCast]at hF';refine Wp.kH (Γ50 (aR w S fp) n hA (bY .eps) (bY .eps)) b8 (ev (aa ct hF')) ?_ ?_
  ·exact⟨⟨⟨_,_,_,_,rfl,hdn,hop,h0,hi1,hs⟩,e0⟩,dE,sI⟩
  refine qq ?_;exact⟨_,rfl⟩
 | ok q=>
  obtain⟨r0,j0⟩:=q;simp only;have hr0:=yN oM h0 hi1 hF;have hF' := hF;rw[Int.toNat_natCast]at hF';generalize hR:zu (bt s) s.size (lV (bt s) s.size (ft (bt s) s.size (bx (bt s) s.size (gU s) n) ((s.size:Int).toNat+1) none)) ((s.size:Int).toNat+1) r0 j0=R
  refine wR (Γ50 (aR w S fp) n hA (bY .eps) (bY .eps)) (aa ct hF') ?_ ?_
  ·exact⟨⟨⟨_,_,_,_,rfl,hdn,hop,h0,hi1,hs⟩,e0⟩,dE,sI,u0⟩
  refine Wp.ji 31 (ev ct) (cT.refl _ _) λW0 bs0 cs hx0 hΦ=>?_
  obtain⟨fv,rfl,hg,hv1⟩:=cI hΦ;have u00:=u0.ext hx0;refine Wp.seq (Wp.block ?_)
  refine Wp.De (λp:RI=>⟨10,bm [(0,.is (.own 0 0)),(2,.is (.own 8 0)),(3,.is (.own 32 0))],aY [(0,.cells 251 [.v (.string s),.v (.int .i64 p.i),.hd 3]),(3,.row 3 1 d (op.map .v)),(8,.cells 254 [.v (.int .i64 0),.v .nilFunc]),(32,.cells 254 [.v (.int .i64 (p.r.1:Nat)),.v p.fo])]⟩)
   RI.W RI.bs (λp=>(0<=p.i/\p.i<=s.size)/\p.r.1<=2001/\((s.size:Int)-p.i<p.n/\1<=p.n)/\bJ p.W (jk (aR w S fp) p.bs) p.fo p.r.2/\zu (bt s) s.size (lV (bt s) s.size (ft (bt s) s.size (bx (bt s) s.size (gU s) n) ((s.size:Int).toNat+1) none)) p.n p.r p.i=R) (λp=>p.n) ⟨W0,bs0,fv,r0,j0,(s.size:Int).toNat+1⟩ rfl rfl ?_ ⟨⟨by simp only;omega,hr0.2.1⟩,hr0.2.2,⟨by simp only;omega,by simp only;omega⟩,hg,hR⟩ ?_
  ·exact wM (λx=>if x=3 then .key 26 else .key x) (aa ct hv1)
  rintro⟨W1,bs1,fo,r,i,k⟩ ⟨⟨hi0,hiN⟩,hr,⟨hn,hn1⟩,hg,hR'⟩ hx1;simp only at hi0 hiN hr hn hn1 hg hR' hx1;dsimp only;obtain⟨k,rfl⟩:∃ m,k=m+1:=⟨k-1,oM⟩;have hx01:=hx0.trans hx1;have u1:=u0.ext hx01;have e1:=e0.mono hx01.Gw;refine Wp.seq ?_;refine wR (Γ50 (aR w S fp) n hA (bY .eps) (bY .eps)) ct ?_ ?_
  ·first|trivial|omega|(simp[hs];done)|(simp[hs];omega)|(simp[hs]<;>omega)
  refine wC ct (λhc=>?_) (λhc=>?_)
  ·have hi:i<s.size/\bt s i=124:=by
    simp at hc;omega
   rw[zu,if_pos hi]at hR';refine wK ?_;refine Wp.block ?_;have wi:IntKind.i64.wrap (i+1)=i+1:=ae oM oM;refine vR Γ0 (aa ct wi) ?_;cases hF2:lV (bt s) s.size (ft (bt s) s.size (bx (bt s) s.size (gU s) n) ((s.size:Int).toNat+1) none) (i+1) with
   |error e=>
    obtain⟨c,j⟩:=e;rw[hF2]at hR';simp only at hR';rw[<- hR',bV];have hF2' := hF2;rw[Int.toNat_natCast]at hF2';refine Wp.OZ (Γ52 (aR w S fp) n hA) b8 (ev (bQ ct hF2' wi)) rfl (by kernel_rfl) ?_ ?_
    ·exact⟨⟨⟨⟨_,_,_,_,rfl,hdn,hop,oM,oM,hs⟩,e1⟩,dE,sI⟩,⟨r.1,0,fo,.nilFunc,.alt,rfl,hr,oM,hg.one,rfl⟩,u1⟩
    refine qq ?_;exact⟨_,rfl⟩
   |ok q=>
    obtain⟨r2,j2⟩:=q;rw[hF2]at hR';simp only at hR';have hr2:=yN oM oM oM hF2;have hF2' := hF2;rw[Int.toNat_natCast]at hF2';refine Wp.more ?_;refine xv (Γ50 (aR w S fp) n hA r r2) (bQ ct hF2' wi) ?_ ?_
    ·exact⟨⟨⟨⟨_,_,_,_,rfl,hdn,hop,oM,oM,hs⟩,e1⟩,dE,sI,u1⟩,⟨cr hg,⟨hr,hr2.2.2⟩,_,_,rfl⟩,u1⟩
    refine fH ?_;refine Pw.ji 232 (ev ct) (cT.refl _ _) λW2 bs2 cs hx2 hΦ2=>?_
    obtain⟨fv2,rfl,hg2,hv2⟩:=cI hΦ2;refine Pw.here ?_;refine qq ?_;refine⟨⟨W2,bs2,fv2,aX .alt r r2,j2,k⟩,⟨by simp only;omega,gj _ _ _,by simp only;omega,hg2,hR'⟩,by simp only;omega,rfl,rfl,?_⟩;exact wM (λx=>if x=3 then .key 226 else .key x) (aa ct hv2)
  ·have hi:¬ (i<s.size/\bt s i=124):=λh=>by
    apply Bool.eq_false_iff.1 hc;simp;omega
   rw[zu,if_neg hi]at hR';refine wE ?_;refine wR Γ0 ct ?_ ?_
   ·exact hg.one
   refine wZ ct ?_;rw[<- hR'];exact fJ hg rfl ((ev (aa ct @aB))) dE
def ux:EqSpec prog 39 where
 f:=λxs ys=>match xs,ys with
  |[.int .i64 a,.int .i64 b,.string s],[.int .i64 a',.int .i64 b',.string s']=>some (decide (a=a')&&decide (b=b')&&decide (s=s'))
  |_,_=>none
 ok:=by
  intro xs ys b w h;split at h
  ·rename_i a b s a' b' s';cases h;refine⟨?_,?_⟩
   ·simp[eqGuard,go_sem,Tryz.eqGuardType39]
   ·simp only[Op.equal,Op.maxDepth,run_equalIn_agg w 9999 39 _ _ Tryz.underlying39 Tryz.stoodInHeld39];have e:s.toList=s'.toList ↔ s=s' := by
     have:=Jg s s';rw[Bool.eq_iff_iff]at this;simpa using this
    simp[go_sem,e];by_cases h1:a=a' <;> by_cases h2:b=b' <;> by_cases h3:s=s' <;> simp[h1,h2,h3]
  ·cases h
theorem su(a b a' b' : Int)(s s' : ByteArray):ux.f [.int .i64 a,.int .i64 b,.string s] [.int .i64 a',.int .i64 b',.string s']=some (decide (a=a')&&decide (b=b')&&decide (s=s')):=rfl
def Ph:aM prog 263 where
 pre:=λW bs=>λ| [.val (.string s),.val (.int .i64 i)]=>s.size<=140737488351232/\bB W (Out bs)|_=>False
 res:=λW=>λ| [.val (.string s),.val (.int .i64 i)]=>um s i|_=>undef
 enters:=call263
 ok:=by
  intro W w bs us as_ hk hu hp;split at hp
  ·rename_i s i
   match us,hu with
   |[u0,u1],hu=>
    obtain⟨rfl,rfl,_⟩:=hu;exact WE s i w hp.1 (hp.2.dW hk sI)
  ·exact hp.elim
theorem Sp(W:World)(s:ByteArray)(i:Int):Ph.res W [.val (.string s),.val (.int .i64 i)]=um s i:=rfl
theorem RD(W:World)(bs:List Nat)(s:ByteArray)(i:Int):Ph.pre W bs [.val (.string s),.val (.int .i64 i)]=(s.size<=140737488351232/\bB W (Out bs)):=rfl
noncomputable def Kn(G:Nat->Prop)(t:Rx):Env prog:=⟨λ| 127=>some ez.spec|179=>some jd.spec|128=>some gH.spec|263=>some Ph.spec|249=>some ((oB t).spec G)|_=>none,λ| 39=>some ux|_=>none,λ_ _=>none⟩
noncomputable def Γ54(G:Nat->Prop)(n:Nat)(h:Xi n):Env prog:=⟨λ| 126=>some ((mL _ _ _ n call126 h).spec G)|_=>none,λ_=>none,λ_ _=>none⟩
section
variable (G:Nat->Prop)(t:Rx)(n:Nat)(h:Xi n)
theorem adW:(Kn G t).sp 127=some ez.spec:=rfl
theorem aeT:(Kn G t).sp 179=some jd.spec:=rfl
theorem ahi:(Kn G t).sp 128=some gH.spec:=rfl
theorem adr:(Kn G t).sp 263=some Ph.spec:=rfl
theorem adk:(Kn G t).sp 249=some ((oB t).spec G):=rfl
theorem X9:(Kn G t).eqs 39=some ux:=rfl
theorem aeS:(Γ54 G n h).sp 126=some ((mL _ _ _ n call126 h).spec G):=rfl
end
def dM:=(aj @List.replicate_succ.{0} @List.replicate_zero.{0} @an @ab jo jl BH (aj BJ BG gS ca cc b9 cg (aj cf cj cd ck fu fE fj (aj fz fw dc dh cZ db c8 (aj dd aaY WK Vg Xy aal VZ (aj Vq U6 zQ AI zz zD zd (aj A6 yU AD Am AM OU OW (aj Ql OI vY vX vN wU pF (aj o6 px oZ AA AZ Aj Ba (aj Ah AS yM zk yQ zE Ak (aj y7 sZ sK sE sU tI sX (aj w9 xp xm vS ahY ahW aht (aj ahE ahB ahC ahx ahR alo alH (aj @xH.eq_1 @xZ.eq_1 @eJ.eq_1 @aG @al @ay @ax (aj @ig @lG @iz @ir @lK @lp @lg (aj @qA @kf @j8 @nF @oB.eq_1 @qQ @bV (aj @tZ @tG @oc @Gj @dX @lI @np (aj @nG @ll @qX @e8 @E3 @jC @List.drop_nil.{0} (aj Sp RD @adW @aeT @ahi @adr @adk (bQ @X9 @aeS @su))))))))))))))))))))
theorem Hr(n:Nat)(hA:∀ m,n=m+1->Xi m):Hm n:=by
 intro s i d op u fp w S hdn hop h0 hi hs hesc ho hlt hS;have u0:=aR.up w S fp;have e0:=hesc.mono (aR.lA w S fp hS);have e0' : bB w (Out fp):=e0.mono λb _ hb=>⟨rfl,hb.2⟩
 dsimp only;have wi:IntKind.i64.wrap (i+1)=i+1:=ae oM oM;refine jH (nt:=108) S #[] [.cell 2 254] (by show 3<=7;omega) ho hlt func251 rfl rfl rfl ?_;refine vR Γ0 dM ?_;refine Wp.seq ?_;refine wR (Kn (aR w S fp) .eps) dM ?_ ?_
 ·first|trivial|omega|(simp[hs];done)|(simp[hs];omega)|(simp[hs]<;>omega)
 refine wC dM (λhc=>?_) (λhc=>?_)
 ·have h40:¬ bt s i=40:=by simpa using hc
  have hL:bx (bt s) s.size (gU s) n i=sO (gU s) i:=by
   cases n with
   |zero=>rw[bx,if_neg h40]
   |succ n=>rw[bx,if_neg h40]
  rw[hL];have hre:um s i=match ei s i with
    |.error j=>rl 10 0 0 j
    |.ok (a,j)=>rl 0 a j 0:=by
   rw[um,if_neg oM];cases ei s i<;>rfl
  cases hI:ei s i with
  | error j=>
   rw[hI]at hre;simp only[rl]at hre;have hE:sO (gU s) i=.error (10,j):=by rw[sO,gU,hI]
   rw[hE,bV];refine kO (Kn (aR w S fp) .eps) (aa dM hre) ?_ ?_
   ·exact⟨hs,e0'⟩
   refine Wp.seq ?_;refine wR (Kn (aR w S fp) .eps) (aa dM hre) ?_ ?_
   ·first|trivial|omega|(simp[hs];done)|(simp[hs];omega)|(simp[hs]<;>omega)
   refine wC dM (λhc=>?_) (λhc=>?_)
   ·skip;refine Wp.q8 (Kn (aR w S fp) .eps) b8 (ev (aa dM hre)) ?_ ?_
    ·first|trivial|omega|(simp[hs];done)|(simp[hs];omega)|(simp[hs]<;>omega)
    refine qq ?_;exact⟨_,rfl⟩
   ·exfalso;simp at hc
  | ok q=>
   obtain⟨a,j⟩:=q;have hj:=Bn hI h0 hi;rw[hI]at hre;simp only[rl]at hre;have hE:sO (gU s) i=.ok (bY (.cls a),j):=by rw[sO,gU,hI]
   rw[hE,qQ];refine kO (Kn (aR w S fp) .eps) (aa dM hre) ?_ ?_
   ·exact⟨hs,e0'⟩
   refine Wp.seq ?_;refine wR (Kn (aR w S fp) .eps) (aa dM hre) ?_ ?_
   ·first|trivial|omega|(simp[hs];done)|(simp[hs];omega)|(simp[hs]<;>omega)
   refine wC dM (λhc=>?_) (λhc=>?_)
   ·exfalso;simp at hc
   ·refine wK ?_;refine vR Γ0 dM ?_;refine wR (Kn (aR w S fp) (.cls a)) dM ?_ ?_
    ·exact⟨rfl,u0⟩
    refine Wp.ji 272 (ev dM) (cT.refl _ _) λW1 bs1 cs hx1 hΦ=>?_
    obtain⟨fv,rfl,hg,hv1⟩:=cI hΦ;refine wZ (aa dM hv1) ?_;exact fJ hg rfl ((ev (aa dM @aB))) dE
 ·have h40:bt s i=40:=by simpa using hc
  refine wK ?_;refine Wp.seq ?_;refine vR Γ0 dM ?_;refine wC dM (λhc=>?_) (λhc=>?_)
  ·have hd:1000<=d:=by
    simp at hc;omega
   obtain rfl:n=0:=oM;rw[bx,if_pos h40,bV];refine Wp.q8 (Kn (aR w S fp) .eps) b8 (ev dM) ?_ ?_
   ·first|trivial|omega|(simp[hs];done)|(simp[hs];omega)|(simp[hs]<;>omega)
   refine qq ?_;exact⟨_,rfl⟩
  ·have hd:¬ 1000<=d:=by
    simp at hc;omega
   obtain⟨n,rfl⟩:∃ m,n=m+1:=⟨n-1,oM⟩;have hA' := hA n rfl;rw[bx,if_pos h40];refine wK ?_;have hap:List.map SV.v op++[SV.v (.int .i64 i)]=List.map SV.v (op++[.int .i64 i]):=by simp
   refine kO Γ0 dM ?_ ?_
   ·unfold maxLen;omega
   refine vR Γ0 (aa dM wi) ?_;have hlen:(op++[Value.int .i64 i]).length=d+1:=by simp[hop]
   cases hF:xJ (bt s) s.size (bx (bt s) s.size (gU s) n) (i+1) with
   |error e=>
    obtain⟨c,j⟩:=e;rw[vd,bV];refine Wp.kH (Γ54 (aR w S fp) n hA') b8 (ev (eT dM hF wi hap)) ?_ ?_
    ·exact⟨⟨⟨_,_,_,_,rfl,oM,hlen,oM,oM,hs⟩,e0⟩,dE,sI⟩
    refine qq ?_;exact⟨_,rfl⟩
   | ok q=>
    obtain⟨r,j⟩:=q;have hr:=DM oM oM oM hF;have wd:IntKind.i64.wrap (((d+1:Nat):Int)-1)=((d:Nat):Int):=wW;have htk:List.take d (List.map SV.v (op++[Value.int .i64 i]))=List.map SV.v op:=by
     rw[<- List.map_take,<- hop,List.take_left]
    have hix:(List.map SV.v (op++[Value.int .i64 i])).getD d (.v undef)=.v (.int .i64 i):=by
     rw[<- hop];simp
    refine wR (Γ54 (aR w S fp) n hA') (eT dM hF wi hap) ?_ ?_
    ·exact⟨⟨⟨_,_,_,_,rfl,oM,hlen,oM,oM,hs⟩,e0⟩,dE,sI,u0⟩
    refine Wp.ji 279 (ev dM) (cT.refl _ _) λW1 bs1 cs hx1 hΦ=>?_
    obtain⟨fv,rfl,hg,hv1⟩:=cI hΦ;refine Wp.seq ?_;refine wR (Kn (aR w S fp) .eps) (aa dM hap) ?_ ?_
    ·first|trivial|omega|(simp[hs];done)|(simp[hs];omega)|(simp[hs]<;>omega)
    refine wC dM (λhc=>?_) (λhc=>?_)
    ·have hj:¬ j<s.size:=by
      simp at hc;omega
     rw[vd,if_pos hj,bV];refine Wp.OZ (Kn (aR w S fp) .eps) b8 (ev (eT dM hap wd hix)) rfl (by kernel_rfl) ?_ ?_
     ·exact⟨⟨_,rfl⟩,⟨oM,oM⟩,by simp[hop],dE,sI⟩
     refine qq ?_;exact⟨_,rfl⟩
    ·have hj:j<s.size:=by
      simp at hc;omega
     have wj:IntKind.i64.wrap (j+1)=j+1:=ae oM oM;rw[vd,if_neg oM,qQ];refine wK ?_;refine vR Γ0 (aa dM wj) ?_;refine kO Γ0 (bQ dM wd htk) ?_ ?_
     ·exact⟨⟨_,rfl⟩,oM,oM⟩
     refine wR Γ0 (aa dM hv1) ?_ ?_
     ·exact hg.one
     refine wZ (aa dM hv1) ?_;exact fJ hg rfl ((ev (aa dM @aB))) dE
theorem levels:∀ n,Hm n
 |0=>Hr 0 λm h=>by omega
 |n+1=>Hr (n+1) λm h=>by
  obtain rfl:n=m:=oM;exact Hu n (Dv n (OQ n (levels n)))
theorem HD(n:Nat):Xi n:=Hu n (Dv n (OQ n (levels n)))
noncomputable def Γ55(G:Nat->Prop):Env prog:=⟨λ| 127=>some ez.spec|128=>some gH.spec|126=>some ((mL _ _ _ 1000 call126 (HD 1000)).spec G)|f=>N8 0 (yq 0) f,λ_=>none,λ_ _=>none⟩
theorem aha(G:Nat->Prop):(Γ55 G).sp 127=some ez.spec:=rfl
theorem aeY(G:Nat->Prop):(Γ55 G).sp 128=some gH.spec:=rfl
theorem agN(G:Nat->Prop):(Γ55 G).sp 126=some ((mL _ _ _ 1000 call126 (HD 1000)).spec G):=rfl
def iv:=(aj @List.replicate_succ.{0} @List.replicate_zero.{0} @an @ab jo jl BH (aj BJ BG gS ca cc b9 cg (aj cf cj cd ck dc dh cZ (aj db c8 dd aaY WK Vg Xy (aj aal VZ Vq U6 zQ AI zz (aj zD zd A6 yU AD Am AM (aj vY vX vN wU AA AZ Aj (aj Ba Ah AS yM zk yQ zE (aj Ak y7 OM QO PC sZ sK (aj sE sU tI sX @xH.eq_1 @xZ.eq_1 @eJ.eq_1 (aj @aG @al @ay @ax @ig @lG @iz (aj @ir @lK @kf @j8 @nF @qQ @bV (aj @tZ @tG @oc @Gj @σR.eq_1 @σL.eq_1 @qp.eq_1 (aj @qp.eq_2 @BE.eq_1 @BE.eq_2 @aha @aeY @agN @CF @Cy))))))))))))))
noncomputable def Z3:CatchC prog 125 where
 Ts:=[151,39]
 enters:=call125
 pre:=λvss pv=>(∃ a f g h,vss=[[a],[f,g,h]])/\∃ c i t,pv=.iface 39 (xZ c i t)
 out:=λvss pv=>[[.nilIface],match pv with|.iface _ (.agg x)=>x.toList|_=>[]]
 bw:=λvss pv=>[.nilIface,match pv with|.iface _ x=>x|_=>undef]
 vals_ok:=by
  rintro vss pv ⟨_,c,i,t,rfl⟩
  refine⟨.inr ⟨by simp only[jD,Op.operands,Value.cells,σ0,σB,Nat.reduceEqDiff,Nat.reduceAdd,Nat.reduceMul,Nat.reduceLT,Nat.reduceLeDiff,Nat.reduceBEq,av,Int.reduceToNat,Int.reduceLT,Int.reduceLE,Nat.reduceDiv,Nat.reduceMod,Nat.reduceSub,Int.reducePow,Nat.reducePow,σP,σB3,iv],rfl⟩,.inl ⟨by simp only[jD,Op.operands,Value.cells,σ0,σB,Nat.reduceEqDiff,Nat.reduceAdd,Nat.reduceMul,Nat.reduceLT,Nat.reduceLeDiff,Nat.reduceBEq,av,Int.reduceToNat,Int.reduceLT,Int.reduceLE,Nat.reduceDiv,Nat.reduceMod,Nat.reduceSub,Int.reducePow,Nat.reducePow,σP,σB3,iv]<;>rfl,by simp only[jD,Op.operands,Value.cells,σ0,σB,Nat.reduceEqDiff,Nat.reduceAdd,Nat.reduceMul,Nat.reduceLT,Nat.reduceLeDiff,Nat.reduceBEq,av,Int.reduceToNat,Int.reduceLT,Int.reduceLE,Nat.reduceDiv,Nat.reduceMod,Nat.reduceSub,Int.reducePow,Nat.reducePow,σP,σB3,iv],rfl⟩,trivial⟩
 quiet:=λw us hl=>by
  match us,hl with
  | [u0,u1],_=>
   refine s8 (nt:=8) w _ func125 rfl rfl oM oM rfl ?_;refine vR Γ0 iv ?_;refine wC iv (λhc=>?_) (λhc=>?_)
   ·simp at hc
   ·refine wK ?_;simp only[jD,Op.operands,Value.cells,σ0,σB,Nat.reduceEqDiff,Nat.reduceAdd,Nat.reduceMul,Nat.reduceLT,Nat.reduceLeDiff,Nat.reduceBEq,av,Int.reduceToNat,Int.reduceLT,Int.reduceLE,Nat.reduceDiv,Nat.reduceMod,Nat.reduceSub,Int.reducePow,Nat.reducePow,σP,σB3,qW,jv,nD,lO,iv]
    done
 caught:=λw us bl vss pv hl hn hlt hp=>by
  obtain⟨⟨a,f,g,h,rfl⟩,k,i,t,rfl⟩:=hp;have h3:=hl.len.1;refine rp (nt:=8) func125 rfl rfl oM oM ?_ hl hn hlt ?_ ?_
  ·rw[h3];rfl
  ·rw[h3];decide
  intro us _;refine vR Γ0 iv ?_;refine wC iv (λhc=>?_) (λhc=>?_)
  ·skip;refine vrD Γ0 (aa iv @xZ.eq_1) ?_;refine wS iv ?_;exact⟨rfl,rfl,trivial⟩
  ·cases hc
def rm(s:ByteArray):Except (Int×Int) Rx:=Bg (bt s) s.size (gU s)
def rH:Except (Int×Int) Rx->Value
 |.ok t=>.tuple #[aH t,xZ 0 0 ⟨#[]⟩]
 |.error (c,j)=>.tuple #[.nilIface,xZ c j ⟨#[]⟩]
theorem Q6(s:ByteArray)(w:World)(hs:s.size<=140737488351232)(hg:bB w (Out [])) :
  Calls prog 71 #[.string s] w λe w' => e=.returned (rH (rm s))/\ah w [] w' := by
 have u0:Up (λ_=>True) w []:=Up.true _ _;have e0:bB w (jk (λ_=>True) []):=hg.mono λb _ hb=>⟨rfl,trivial,hb⟩
 refine xx (nt:=33) func71 rfl rfl ?_;refine l9.seq' (rs:=[.cell 2 151,.cell 3 39]) rfl ?_;refine vr Γ0 iv ?_;refine l9.seq' (rs:=[.cell 2 151,.cell 3 39]) rfl ?_;refine vR Γ0 iv ?_;refine wC iv (λhc=>?_) (λhc=>?_)
 ·have hb:1048576<(s.size:Int):=by simpa using hc
  have he:rm s=.error (1,0):=by rw[rm,Bg,if_pos hb]
  rw[he];refine vR Γ0 iv ?_;refine wZ iv ?_;exact λE=>rfl
 ·have hb:¬ 1048576<(s.size:Int):=by simpa using hc
  have he:rm s=Ti s.size (alts (bt s) s.size (gU s) 1000 0):=by rw[rm,Bg,if_neg hb]
  refine wK ?_;refine l9.Vi (rs:=[.cell 2 151,.cell 3 39]) rfl Z3 [2,3] [0,8] rfl dE rfl dE rfl rfl ?_ ?_ λus hus=>?_
  ·rintro p hp;simp only[List.zip_cons_cons,List.zip_nil_right,List.mem_cons,List.not_mem_nil,or_false]at hp;rcases hp with rfl|rfl<;>rfl
  ·rintro k hk;simp only[List.mem_cons,List.not_mem_nil,or_false]at hk;rcases hk with rfl|rfl<;>exact⟨_,_,rfl⟩
  refine vR Γ0 iv ?_
  match us,hus with
  |[u0',u1'],_=>
  refine Wp.Ix (σ' := ⟨20,bm [(2,.is (.own 0 0)),(3,.is (.own 8 0)),(4,.is (.own 72 0))],aY [(0,.cells 151 [.v .nilIface]),(8,.cells 39 [.v (.int .i64 0),.v (.int .i64 0),.v (.string ⟨#[]⟩)]),(72,.cells 251 [.v (.string s),.v (.int .i64 0),.hd 88]),(88,.row 3 1 0 [])]⟩) ?_ ?_
  ·exact wM (λx=>if x=88 then .nil else .key x) iv
  have hal:alts (bt s) s.size (gU s) 1000 0=xJ (bt s) s.size (bx (bt s) s.size (gU s) 1000) 0:=rfl;rw[hal]at he;cases hF:xJ (bt s) s.size (bx (bt s) s.size (gU s) 1000) 0 with
  |error e=>
   obtain⟨c,j⟩:=e;rw[hF]at he;simp only[Ti]at he;rw[he];refine Wp.kH (Γ55 (λ_=>True)) b8 (ev (aa iv hF)) ?_ ?_
   ·exact⟨⟨⟨_,_,_,_,rfl,rfl,rfl,oM,sI,hs⟩,e0⟩,dE,sI⟩
   refine qq ?_;refine wS iv ?_;refine⟨.iface 39 (xZ c j ⟨#[]⟩),[[.nilIface],[.int .i64 0,.int .i64 0,.string ⟨#[]⟩]],rfl,⟨?_,?_,?_,?_,trivial⟩,⟨⟨_,_,_,_,rfl⟩,c,j,⟨#[]⟩,rfl⟩,λE=>rfl⟩
   all_goals rfl
  | ok q=>
   obtain⟨r,j⟩:=q;have hr:=DM (s:=s) (m:=1000) oM oM sI hF;rw[hF]at he;simp only[Ti]at he;refine wR (Γ55 (λ_=>True)) (aa iv hF) ?_ ?_
   ·exact⟨⟨⟨_,_,_,_,rfl,rfl,rfl,oM,sI,hs⟩,e0⟩,dE,sI,u0⟩
   refine Wp.ji 175 (ev iv) (cT.refl _ _) λW1 bs1 cs hx1 hΦ=>?_
   obtain⟨fv,rfl,hg1,hv1⟩:=cI hΦ;refine Wp.seq ?_;refine wR (Γ55 (λ_=>True)) iv ?_ ?_
   ·first|trivial|omega|(simp[hs];done)|(simp[hs];omega)|(simp[hs]<;>omega)
   refine wC iv (λhc=>?_) (λhc=>?_)
   ·have hj:j<s.size:=by
     simp at hc;omega
    rw[if_pos hj]at he;rw[he];refine Wp.q8 (Γ55 (λ_=>True)) b8 (ev iv) ?_ ?_
    ·first|trivial|omega|(simp[hs];done)|(simp[hs];omega)|(simp[hs]<;>omega)
    refine qq ?_;refine wS iv ?_;refine⟨.iface 39 (xZ 20 j ⟨#[]⟩),[[.nilIface],[.int .i64 0,.int .i64 0,.string ⟨#[]⟩]],rfl,⟨?_,?_,?_,?_,trivial⟩,⟨⟨_,_,_,_,rfl⟩,20,j,⟨#[]⟩,rfl⟩,λE=>rfl⟩
    all_goals rfl
   ·have hj:¬ j<s.size:=by
     simp at hc;omega
    rw[if_neg hj]at he;refine wK ?_;refine Wp.seq ?_;refine vR Γ0 (aa iv hv1) ?_;refine wC iv (λhc=>?_) (λhc=>?_)
    ·have hz:2000<r.1:=by
      simp at hc;omega
     rw[if_pos hz]at he;rw[he];refine vR Γ0 iv ?_;refine wZ iv ?_;exact λE=>rfl
    ·have hz:¬ 2000<r.1:=by
      simp at hc;omega
     rw[if_neg hz]at he;rw[he];obtain⟨f,cap,rfl,hf⟩:=hg1.shape;obtain⟨cap,rfl⟩:∃ l:List Value,cap=l.toArray:=⟨cap.toList,sI⟩;have hgr:=lC hg1;have hsp:=tP (dp r.2+1) (yq _) f hf;refine wK ?_;refine wR (Γ43 (dp r.2+1) (yq _)) (uv iv hsp hgr @n8 hv1 @jy @bZ) ?_ ?_
     ·exact⟨⟨cap,r.2,rfl,hg1.mono λb _ h=>⟨rfl,h.2⟩,oM⟩,bZ _⟩
     refine wT ?_
     simp only[jD,Op.operands,Value.cells,σ0,σB,Nat.reduceEqDiff,Nat.reduceAdd,Nat.reduceMul,Nat.reduceLT,Nat.reduceLeDiff,Nat.reduceBEq,av,Int.reduceToNat,Int.reduceLT,Int.reduceLE,Nat.reduceDiv,Nat.reduceMod,Nat.reduceSub,Int.reducePow,Nat.reducePow,σP,σB3,qW,jv,nD,lO,iv,nD,jy,bZ,kG (bZ _)]
     exact λE=>rfl
def Gb:aM prog 71 where
 pre:=λW bs=>λ| [.val (.string s)]=>s.size<=140737488351232/\bB W (Out bs)|_=>False
 res:=λW=>λ| [.val (.string s)]=>rH (rm s)|_=>undef
 enters:=call71
 ok:=by
  intro W w bs us as_ hk hu hp;split at hp
  ·rename_i s
   match us,hu with
   |[u0],hu=>
    obtain⟨rfl,_⟩:=hu;exact Q6 s w hp.1 (hp.2.dW hk sI)
  ·exact hp.elim
theorem MT(W:World)(s:ByteArray):Gb.res W [.val (.string s)]=rH (rm s):=rfl
theorem Mf(W:World)(bs:List Nat)(s:ByteArray):Gb.pre W bs [.val (.string s)]=(s.size<=140737488351232/\bB W (Out bs)):=rfl
def kW(q:ByteArray)(b:Int):Bool:=decide (0<=ko q b)
def EV(q:ByteArray)(b:Int):Bool:=(List.range q.size).any λj=>decide (bt q (j:Int)=b)
theorem RQ{q:ByteArray}{b:Int}{j:Nat}(hj:j<q.size)(h:bt q j=b):EV q b=true:=
 List.any_eq_true.2 ⟨j,List.mem_range.2 hj,decide_eq_true h⟩
theorem M3{q:ByteArray}{b:Int}(h:∀ j:Nat,j<q.size->bt q j≠b):EV q b=false:=
 List.any_eq_false.2 λj hj=>by simpa using h j (List.mem_range.1 hj)
def ue:=(aj @List.replicate_succ.{0} @List.replicate_zero.{0} @an @ab gS ca cc (aj b9 cg cf cj cd ck fu (aj fE fj fz fw dc dh cZ (uv db c8 dd @aG @al @ay @ax))))
theorem ai8(q:ByteArray)(b:Int)(w:World)(hs:q.size<=140737488351232):Calls prog 244 #[.string q,.int .u8 b] w λe w' => e=.returned (.bool (EV q b))/\ah w [] w' := by
 refine af (nt:=17) [.tmp 4] func244 rfl rfl rfl ?_;refine vR Γ0 ue ?_;refine Wp.seq ?_;refine vR Γ0 ue ?_;refine Wp.block ?_
 refine Wp.loop (λj:Nat=>⟨2,bm [(0,.is (.v (.string q))),(1,.is (.v (.int .u8 b))),(5,.is (.v (.int .i64 (j:Nat))))],aY []⟩) (λj=>j<=q.size/\∀ i:Nat,i<j->bt q i≠b) (λj=>q.size-j) 0 ?_ ⟨Nat.zero_le _,λi h=>by omega⟩ ?_
 ·exact wM (λk=>.key k) ue
 rintro j ⟨hj,hn⟩;refine Wp.seq ?_;refine vR Γ0 ue ?_;refine wC ue (λhc=>?_) (λhc=>?_)
 ·have hlt:j<q.size:=by
   simp at hc;omega
  refine wK ?_;refine Wp.seq (Wp.block ?_);refine vR Γ0 ue ?_;refine wC ue (λhc=>?_) (λhc=>?_)
  ·have hb:bt q j=b:=by simpa using hc
   rw[RQ hlt hb];refine vR Γ0 ue ?_;refine wZ ue ?_;exact λE=>rfl
  ·have hb:¬ bt q j=b:=by simpa using hc
   have wj:IntKind.i64.wrap ((j:Int)+1)=((j+1:Nat):Int):=wW;refine wK ?_;refine vr Γ0 (aa ue wj) ?_;refine⟨j+1,⟨oM,λi hi=>?_⟩,oM,?_⟩
   ·by_cases h:i=j
    ·rw[h];exact hb
    ·exact hn i oM
   ·exact wM (λk=>.key k) ue
 ·have hlt:¬ j<q.size:=by
   simp at hc;omega
  rw[M3 λi hi=>hn i oM];refine wE ?_;refine vR Γ0 ue ?_;refine wZ ue ?_;exact λE=>rfl
def inC:aM prog 244 where
 pre:=λW bs=>λ| [.val (.string q),.val (.int .u8 b)]=>q.size<=140737488351232|_=>False
 res:=λW=>λ| [.val (.string q),.val (.int .u8 b)]=>.bool (EV q b)|_=>undef
 enters:=call244
 ok:=by
  intro W w bs us as_ hk hu hp;split at hp
  ·rename_i q b
   match us,hu with
   |[u0,u1],hu=>
    obtain⟨rfl,rfl,_⟩:=hu;exact ai8 q b w hp
  ·exact hp.elim
theorem afG(W:World)(q:ByteArray)(b:Int):inC.res W [.val (.string q),.val (.int .u8 b)]=.bool (EV q b):=rfl
theorem aer(W:World)(bs:List Nat)(q:ByteArray)(b:Int):inC.pre W bs [.val (.string q),.val (.int .u8 b)]=(q.size<=140737488351232):=rfl
noncomputable def Γ60:Env prog:=⟨λ| 244=>some inC.spec|_=>none,λ| _=>none,λ_ _=>none⟩
theorem abv:Γ60.sp 244=some inC.spec:=rfl
theorem aeF{b:Int}(h0:0<=b)(h1:b<256):EV BK b=kW BK b:=by
 obtain⟨n,rfl⟩:=Int.eq_ofNat_of_zero_le h0;have:∀ b:Fin 256,EV BK ((b.val:Nat):Int)=kW BK ((b.val:Nat):Int):=by decide +kernel
 exact this ⟨n,oM⟩
theorem ads{b:Int}(h0:0<=b)(h1:b<256):EV mH b=kW mH b:=by
 obtain⟨n,rfl⟩:=Int.eq_ofNat_of_zero_le h0;have:∀ b:Fin 256,EV mH ((b.val:Nat):Int)=kW mH ((b.val:Nat):Int):=by decide +kernel
 exact this ⟨n,oM⟩
theorem aiu:(⟨#[40,41,91,93,123,125,124,38,45,42,43,63,46,92,47,94]⟩:ByteArray)=BK:=rfl
theorem ais:(⟨#[92,93,91,45,94,47]⟩:ByteArray)=mH:=rfl
def Mm:=(eT ue afG aer abv)
theorem JE(b:Int)(h0:0<=b)(h1:b<256)(w:World):Calls prog 205 #[.int .u8 b] w λe w' => e=.returned (.bool (kW BK b))/\ah w [] w' := by
 rw[<- aeF h0 h1];refine af (nt:=5) [.tmp 2] func205 rfl rfl rfl ?_;refine vR Γ60 Mm ?_;refine wR Γ60 Mm ?_ ?_
 ·decide
 refine wZ Mm ?_;exact λE=>rfl
theorem SP(b:Int)(h0:0<=b)(h1:b<256)(w:World):Calls prog 206 #[.int .u8 b] w λe w' => e=.returned (.bool (kW mH b))/\ah w [] w' := by
 rw[<- ads h0 h1];refine af (nt:=5) [.tmp 2] func206 rfl rfl rfl ?_;refine vR Γ60 Mm ?_;refine wR Γ60 Mm ?_ ?_
 ·decide
 refine wZ Mm ?_;exact λE=>rfl
def nq:aM prog 205 where
 pre:=λW bs=>λ| [.val (.int .u8 b)]=>0<=b/\b<256|_=>False
 res:=λW=>λ| [.val (.int .u8 b)]=>.bool (kW BK b)|_=>undef
 enters:=call205
 ok:=by
  intro W w bs us as_ hk hu hp;split at hp
  ·rename_i b
   match us,hu with
   |[u0],hu=>
    obtain⟨rfl,_⟩:=hu;exact JE b hp.1 hp.2 w
  ·exact hp.elim
theorem tO(W:World)(b:Int):nq.res W [.val (.int .u8 b)]=.bool (kW BK b):=rfl
theorem s3(W:World)(bs:List Nat)(b:Int):nq.pre W bs [.val (.int .u8 b)]=(0<=b/\b<256):=rfl
def u6:aM prog 206 where
 pre:=λW bs=>λ| [.val (.int .u8 b)]=>0<=b/\b<256|_=>False
 res:=λW=>λ| [.val (.int .u8 b)]=>.bool (kW mH b)|_=>undef
 enters:=call206
 ok:=by
  intro W w bs us as_ hk hu hp;split at hp
  ·rename_i b
   match us,hu with
   |[u0],hu=>
    obtain⟨rfl,_⟩:=hu;exact SP b hp.1 hp.2 w
  ·exact hp.elim
theorem zl(W:World)(b:Int):u6.res W [.val (.int .u8 b)]=.bool (kW mH b):=rfl
theorem AY(W:World)(bs:List Nat)(b:Int):u6.pre W bs [.val (.int .u8 b)]=(0<=b/\b<256):=rfl
theorem Tw{c:Int}(h0:0<=c)(h1:c<256):ko fB c=if 48<=c/\c<=57 then c-48 else if 97<=c/\c<=102 then c-97+10 else -1:=by
 obtain⟨n,rfl⟩:=Int.eq_ofNat_of_zero_le h0;have:∀ c:Fin 256,ko fB ((c.val:Nat):Int)=if 48<=((c.val:Nat):Int)/\((c.val:Nat):Int)<=57 then ((c.val:Nat):Int)-48 else if 97<=((c.val:Nat):Int)/\((c.val:Nat):Int)<=102 then ((c.val:Nat):Int)-97+10 else -1:=by decide +kernel
 exact this ⟨n,oM⟩
def xF:=(oy Mm @tO @s3 @zl @AY)
theorem Wy(c:Int)(h0:0<=c)(h1:c<256)(w:World):Calls prog 214 #[.int .u8 c] w λe w' => e=.returned (.int .i64 (ko fB c))/\ah w [] w' := by
 rw[Tw h0 h1];refine af (nt:=22) [.tmp 2] func214 rfl rfl rfl ?_;refine vR Γ0 xF ?_;refine Wp.seq ?_;refine vR Γ0 xF ?_;refine wC xF (λhc=>?_) (λhc=>?_)
 ·have hd:48<=c/\c<=57:=by simpa using hc
  have w1:IntKind.u8.wrap (c-48)=c-48:=eS oM oM;have w2:IntKind.i64.wrap (c-48)=c-48:=ae oM oM;rw[if_pos hd];refine vR Γ0 (bQ xF w1 w2) ?_;refine wZ xF ?_;exact λE=>rfl
 ·have hd:¬ (48<=c/\c<=57):=by simpa using hc
  rw[if_neg hd];refine wK ?_;refine Wp.seq ?_;refine vR Γ0 xF ?_;refine wC xF (λhc=>?_) (λhc=>?_)
  ·have hd2:97<=c/\c<=102:=by simpa using hc
   have w1:IntKind.u8.wrap (c-97)=c-97:=eS oM oM;have w2:IntKind.i64.wrap (c-97)=c-97:=ae oM oM;have w3:IntKind.i64.wrap (c-97+10)=c-97+10:=ae oM oM;rw[if_pos hd2];refine vR Γ0 (eT xF w1 w2 w3) ?_;refine wZ xF ?_;exact λE=>rfl
  ·have hd2:¬ (97<=c/\c<=102):=by simpa using hc
   rw[if_neg hd2];refine wK ?_;refine vR Γ0 xF ?_;refine wZ xF ?_;exact λE=>rfl
def Ow:aM prog 214 where
 pre:=λW bs=>λ| [.val (.int .u8 c)]=>0<=c/\c<256|_=>False
 res:=λW=>λ| [.val (.int .u8 c)]=>.int .i64 (ko fB c)|_=>undef
 enters:=call214
 ok:=by
  intro W w bs us as_ hk hu hp;split at hp
  ·rename_i c
   match us,hu with
   |[u0],hu=>
    obtain⟨rfl,_⟩:=hu;exact Wy c hp.1 hp.2 w
  ·exact hp.elim
theorem Sw(W:World)(c:Int):Ow.res W [.val (.int .u8 c)]=.int .i64 (ko fB c):=rfl
theorem Sd(W:World)(bs:List Nat)(c:Int):Ow.pre W bs [.val (.int .u8 c)]=(0<=c/\c<256):=rfl
noncomputable def pB:Env prog:=⟨λ| 205=>some nq.spec|206=>some u6.spec|214=>some Ow.spec|_=>none,λ| _=>none,λ_ _=>none⟩
theorem aes:pB.sp 205=some nq.spec:=rfl
theorem acm:pB.sp 206=some u6.spec:=rfl
theorem abB:pB.sp 214=some Ow.spec:=rfl
def WR:Except Int (Int×Int)->Value
 |.ok (b,j)=>.tuple #[.int .u8 b,.int .i64 j,.int .i64 (-1)]
 |.error j=>.tuple #[.int .u8 0,.int .i64 0,.int .i64 j]
theorem od(b j:Int):WR (.ok (b,j))=.tuple #[.int .u8 b,.int .i64 j,.int .i64 (-1)]:=rfl
theorem jM(j:Int):WR (.error j)=.tuple #[.int .u8 0,.int .i64 0,.int .i64 j]:=rfl
def kD(inner:Bool):ByteArray:=bif inner then mH else BK
def cK:=(mh xF Sw Sd aes acm abB)
theorem K7(s:ByteArray)(i:Int)(inner:Bool)(h0:0<=i)(hi:i<=s.size)(hs:s.size<=140737488351232)(w:World) :
  Calls prog 174 #[.string s,.int .i64 i,.bool inner] w λe w' => e=.returned (WR (eG s i (kD inner)))/\ah w [] w' := by
 obtain⟨b0,b1⟩:=fA s i;refine af (nt:=144) [.tmp 6,.tmp 7,.tmp 8] func174 rfl rfl rfl ?_;refine vR pB cK ?_;refine Wp.seq ?_;refine vR pB cK ?_;refine wC cK (λhc=>?_) (λhc=>?_)
 ·have hN:¬ i<s.size:=by
   simp at hc;omega
  obtain rfl:i=s.size:=oM;have he:eG s s.size (kD inner)=.error s.size:=by rw[eG,if_neg oM,if_pos oM]
  rw[he,jM];refine vR pB cK ?_;refine wZ cK ?_;exact λE=>rfl
 ·have hN:i<s.size:=by
   simp at hc;omega
  have w1:IntKind.i64.wrap (i+1)=i+1:=ae oM oM;have w2:IntKind.i64.wrap (i+2)=i+2:=ae oM oM;refine wK ?_;refine vR pB cK ?_;refine Wp.seq ?_;refine vR pB cK ?_;refine wC cK (λhc=>?_) (λhc=>?_)
  ·have h92:¬ bt s i=92:=by simpa using hc
   have hE:eG s i (kD inner)=if (bt s i<32\/126<bt s i)\/0<=ko (kD inner) (bt s i) then .error i else .ok (bt s i,i+1):=by
    rw[eG,if_neg oM];by_cases h:(bt s i<32\/126<bt s i)\/0<=ko (kD inner) (bt s i)
    ·rw[if_pos h,if_pos oM]
    ·rw[if_neg h,if_neg oM]
   refine vR pB cK ?_;refine aW ⟨60,bm [(0,.is (.v (.string s))),(1,.is (.v (.int .i64 i))),(9,.is (.v (.int .u8 (bt s i)))),(10,.is (.v (.bool (decide (bt s i<32)||decide (126<bt s i)||kW (kD inner) (bt s i)))))],aY []⟩ ?_ ?_
   ·skip;refine vR pB cK ?_;refine wC cK (λhc=>?_) (λhc=>?_)
    ·subst hc;refine wr pB cK ?_ ?_
     ·exact λ_=>⟨b0,b1⟩
     exact wM (λk=>.key k) (aa cK @kD.eq_1)
    ·subst hc;refine wr pB cK ?_ ?_
     ·exact λ_=>⟨b0,b1⟩
     exact wM (λk=>.key k) (aa cK @kD.eq_1)
   refine Wp.seq ?_;refine vR pB cK ?_;refine wC cK (λhc=>?_) (λhc=>?_)
   ·have hb:(bt s i<32\/126<bt s i)\/0<=ko (kD inner) (bt s i):=by simpa [kW] using hc
    rw[hE,if_pos hb,jM];refine vR pB cK ?_;refine wZ cK ?_;exact λE=>rfl
   ·have hb:¬ ((bt s i<32\/126<bt s i)\/0<=ko (kD inner) (bt s i)):=λh=>by
     apply Bool.eq_false_iff.1 hc;simpa [kW] using h
    rw[hE,if_neg hb,od];refine wK ?_;refine vR pB (aa cK w1) ?_;refine wZ cK ?_;exact λE=>rfl
  ·have h92:bt s i=92:=by simpa using hc
   have hE:eG s i (kD inner)=eL s (i+1):=by rw[eG,if_pos ⟨hN,h92⟩]
   rw[hE];obtain⟨c0,c1⟩:=fA s (i+1);refine wK ?_;refine Wp.seq ?_;refine vR pB (aa cK w1) ?_;refine wC cK (λhc=>?_) (λhc=>?_)
   ·have hN2:¬ i+1<s.size:=by
     simp at hc;omega
    have he:eL s (i+1)=.error s.size:=by rw[eL,if_pos hN2,show i+1=(s.size:Int) by omega]
    rw[he,jM];refine vR pB cK ?_;refine wZ cK ?_;exact λE=>rfl
   ·have hN2:i+1<s.size:=by
     simp at hc;omega
    refine wK ?_;refine wR pB (aa cK w1) ?_ ?_
    ·omega
    refine Wp.seq ?_;refine vR pB cK ?_;refine wC cK (λhc=>?_) (λhc=>?_)
    ·have h110:bt s (i+1)=110:=by simpa using hc
     have w12:i+1+1=i+2:=oM;have he:eL s (i+1)=.ok (10,i+2):=by rw[eL,if_neg oM,if_pos h110,w12]
     rw[he,od];refine vR pB (aa cK w2) ?_;refine wZ cK ?_;exact λE=>rfl
    ·have h110:¬ bt s (i+1)=110:=by simpa using hc
     refine wK ?_;refine Wp.seq ?_;refine vR pB cK ?_;refine wC cK (λhc=>?_) (λhc=>?_)
     ·have h114:bt s (i+1)=114:=by simpa using hc
      have w12:i+1+1=i+2:=oM;have he:eL s (i+1)=.ok (13,i+2):=by rw[eL,if_neg oM,if_neg h110,if_pos h114,w12]
      rw[he,od];refine vR pB (aa cK w2) ?_;refine wZ cK ?_;exact λE=>rfl
     ·have h114:¬ bt s (i+1)=114:=by simpa using hc
      refine wK ?_;refine Wp.seq ?_;refine vR pB cK ?_;refine wC cK (λhc=>?_) (λhc=>?_)
      ·have h116:bt s (i+1)=116:=by simpa using hc
       have w12:i+1+1=i+2:=oM;have he:eL s (i+1)=.ok (9,i+2):=by rw[eL,if_neg oM,if_neg h110,if_neg h114,if_pos h116,w12]
       rw[he,od];refine vR pB (aa cK w2) ?_;refine wZ cK ?_;exact λE=>rfl
      ·have h116:¬ bt s (i+1)=116:=by simpa using hc
       refine wK ?_;refine Wp.seq ?_;refine vR pB cK ?_;refine wC cK (λhc=>?_) (λhc=>?_)
       ·have h120:bt s (i+1)=120:=by simpa using hc
        have hX:eL s (i+1)=match iL s (i+1+1) with
          |.error j=>.error j
          |.ok (h,j)=>match iL s j with
           |.error k=>.error k
           |.ok (l,k)=>.ok (16*h+l,k):=by
         rw[eL,if_neg oM,if_neg h110,if_neg h114,if_neg h116,if_pos h120];cases iL s (i+1+1) with
         |error j=>rfl
         |ok p=>
          obtain⟨h,j⟩:=p;simp only;cases iL s j<;>rfl
        have gd:∀ p:Int,iL s p=if p<s.size/\0<=ko fB (bt s p) then .ok (ko fB (bt s p),p+1) else .error p:=λp=>rfl
        have rng:∀ p:Int,0<=bt s p/\bt s p<256:=λp=>fA s p
        refine Wp.seq ?_;refine vR pB cK ?_;refine Wp.block ?_
        refine Wp.loop (λk:Nat=>⟨90,bm [(0,.is (.v (.string s))),(1,.is (.v (.int .i64 i))),(11,.is (.v (.int .i64 (k:Nat))))],aY []⟩) (λk=>(2<=k/\k<=4)/\∀ m:Nat,2<=m->m<k->i+m<s.size/\0<=ko fB (bt s (i+m))) (λk=>4-k) 2 ?_ ⟨⟨oM,oM⟩,λm h1 h2=>by omega⟩ ?_
        ·exact wM (λk=>.key k) cK
        rintro k ⟨⟨hk2,hk4⟩,hk⟩;have wk:IntKind.i64.wrap (i+(k:Int))=i+k:=ae oM oM;refine Wp.seq ?_;refine vR pB cK ?_;refine wC cK (λhc=>?_) (λhc=>?_)
        ·have hk3:k<4:=by
          simp at hc;omega
         obtain⟨d0,d1⟩:=rng (i+k);refine wK ?_;refine Wp.seq (Wp.block ?_);refine wR pB (aa cK wk) ?_ ?_
         ·simp;omega
         refine wC cK (λhc=>?_) (λhc=>?_)
         ·have hb:¬ (i+k<s.size/\0<=ko fB (bt s (i+k))):=by
           simp at hc;omega
          have hx:iL s (i+k)=.error (i+k):=by rw[gd,if_neg hb]
          have he:eL s (i+1)=.error (i+k):=by
           have hk23:k=2\/k=3:=oM;rcases hk23 with rfl|rfl
           ·rw[hX,show i+1+1=i+((2:Nat):Int) by omega,hx]
           ·have h2:=hk 2 oM oM;have hx2:iL s (i+((2:Nat):Int))=.ok (ko fB (bt s (i+((2:Nat):Int))),i+((3:Nat):Int)):=by rw[gd,if_pos h2,show i+((2:Nat):Int)+1=i+((3:Nat):Int) by omega]
            rw[hX,show i+1+1=i+((2:Nat):Int) by omega,hx2];simp only[hx]
          rw[he,jM];refine vR pB (aa cK wk) ?_;refine wZ cK ?_;exact λE=>rfl
         ·have hb:i+k<s.size/\0<=ko fB (bt s (i+k)):=by
           simp at hc;omega
          have wk1:IntKind.i64.wrap ((k:Int)+1)=((k+1:Nat):Int):=wW;refine wK ?_;refine vr pB (aa cK wk1) ?_;refine⟨k+1,⟨⟨oM,oM⟩,λm h1 h2=>?_⟩,oM,?_⟩
          ·by_cases h:m=k
           ·rw[h];exact hb
           ·exact hk m h1 oM
          ·exact wM (λk=>.key k) cK
        ·have hk3:k=4:=by
          simp at hc;omega
         subst hk3;have g2:=hk 2 oM oM;have g3:=hk 3 oM oM;have l2:=yk _ (rng (i+((2:Nat):Int))).1 (rng (i+((2:Nat):Int))).2;have l3:=yk _ (rng (i+((3:Nat):Int))).1 (rng (i+((3:Nat):Int))).2;have r2:=rng (i+2);have r3:=rng (i+3);have w3:IntKind.i64.wrap (i+3)=i+3:=ae oM oM
         have w4:IntKind.i64.wrap (i+4)=i+4:=ae oM oM;rw[show ((2:Nat):Int)=2 from rfl]at g2 l2;rw[show ((3:Nat):Int)=3 from rfl]at g3 l3;have hx2:iL s (i+2)=.ok (ko fB (bt s (i+2)),i+3):=by rw[gd,if_pos g2,show i+2+1=i+3 by omega]
         have hx3:iL s (i+3)=.ok (ko fB (bt s (i+3)),i+4):=by rw[gd,if_pos g3,show i+3+1=i+4 by omega]
         have he:eL s (i+1)=.ok (16*ko fB (bt s (i+2))+ko fB (bt s (i+3)),i+4):=by
          rw[hX,show i+1+1=i+2 by omega,hx2];simp only[hx3]
         have wa:IntKind.i64.wrap (16*ko fB (bt s (i+2)))=16*ko fB (bt s (i+2)):=ae oM oM;have wb:IntKind.i64.wrap (16*ko fB (bt s (i+2))+ko fB (bt s (i+3)))=16*ko fB (bt s (i+2))+ko fB (bt s (i+3)):=ae oM oM
         have wc:IntKind.u8.wrap (16*ko fB (bt s (i+2))+ko fB (bt s (i+3)))=16*ko fB (bt s (i+2))+ko fB (bt s (i+3)):=eS oM oM;rw[he,od];refine wE ?_;refine kO pB (uv cK w2 w3 w4 wa wb wc) ?_ ?_
         ·omega
         refine wZ cK ?_;exact λE=>rfl
       ·have h120:¬ bt s (i+1)=120:=by simpa using hc
        refine wK ?_;refine vR pB cK ?_;refine Wp.seq ?_;refine vR pB cK ?_;refine wC cK (λhc=>?_) (λhc=>?_)
        ·have hb:(((bt s (i+1)<32\/126<bt s (i+1))\/48<=bt s (i+1)/\bt s (i+1)<=57)\/97<=bt s (i+1)/\bt s (i+1)<=122)\/65<=bt s (i+1)/\bt s (i+1)<=90:=by
          simp at hc;omega
         have he:eL s (i+1)=.error (i+1):=by rw[eL,if_neg oM,if_neg h110,if_neg h114,if_neg h116,if_neg h120,if_pos hb]
         rw[he,jM];refine vR pB (aa cK w1) ?_;refine wZ cK ?_;exact λE=>rfl
        ·have hb:¬ ((((bt s (i+1)<32\/126<bt s (i+1))\/48<=bt s (i+1)/\bt s (i+1)<=57)\/97<=bt s (i+1)/\bt s (i+1)<=122)\/65<=bt s (i+1)/\bt s (i+1)<=90):=λh=>by
          apply Bool.eq_false_iff.1 hc;simp;omega
         have w12:i+1+1=i+2:=oM;have he:eL s (i+1)=.ok (bt s (i+1),i+2):=by rw[eL,if_neg oM,if_neg h110,if_neg h114,if_neg h116,if_neg h120,if_neg hb,w12]
         rw[he,od];refine wK ?_;refine vR pB (aa cK w2) ?_;refine wZ cK ?_;exact λE=>rfl
def gA(f:Nat->Bool):List Value:=(List.range 256).map λi=>.bool (f i)
theorem qO(f:Nat->Bool):(gA f).length=256:=by simp[gA]
theorem dL(f:Nat->Bool):(List.map SV.v (gA f)).length=256:=by simp[gA]
theorem uH{f g:Nat->Bool}(h:∀ i,i<256->f i=g i):gA f=gA g:=List.map_congr_left λi hi=>by rw[h i (List.mem_range.1 hi)]
theorem mK:List.replicate 256 (Value.bool false)=gA λ_=>false:=by
 simp[gA,List.map_const']
theorem mw(f:Nat->Bool)(i:Nat)(hi:i<256):(List.map SV.v (gA f)).getD i (.v undef)=.v (.bool (f i)):=by
 simp[gA,List.getD_eq_getElem?_getD,hi]
theorem yn(f:Nat->Bool)(i:Nat)(b:Bool)(hi:i<256):List.take i (List.map SV.v (gA f))++[SV.v (.bool b)]++List.drop (i+1) (List.map SV.v (gA f))=List.map SV.v (gA λk=>if k=i then b else f k):=by
 apply List.ext_getElem
 ·simp[gA];omega
 ·intro n h1 h2;simp only[List.length_map,gA,List.length_range]at h2;by_cases hn:n<i
  ·rw[List.getElem_append_left (by simp[gA];omega),List.getElem_append_left (by simp[gA];omega)];simp[gA,show ¬ n=i by omega]
  ·by_cases hn2:n=i
   ·subst hn2;rw[List.getElem_append_left (by simp[gA];omega),List.getElem_append_right (by simp[gA];omega)];simp[gA]
   ·rw[List.getElem_append_right (by simp[gA];omega)];simp[gA,hn2]
    congr 3
    omega
theorem lS(f:Nat->Bool):List.take 256 (List.map SV.v (gA f))=List.map SV.v (gA f):=List.take_of_length_le (by rw[dL];omega)
theorem ni(f:Nat->Bool):List.drop 256 (List.map SV.v (gA f))=[]:=List.drop_of_length_le (by rw[dL];omega)
theorem mv(f:Nat->Bool):(List.map SV.v (gA f)).all dm=true:=by
 rw[List.all_eq_true];intro x hx;obtain⟨v,hv,rfl⟩:=List.mem_map.1 hx;obtain⟨i,_,rfl⟩:=List.mem_map.1 hv;rfl
def mX(S:CS):Value:=.agg (gA S.getLsbD).toArray
def blV(f:Nat->Bool):Value:=.agg (gA f).toArray
theorem iP(E:Nat->Value)(f:Nat->Bool):den E (.agg ((gA f).map SV.v))=blV f:=by
 simp only[den,aJ,blV]
theorem Ek{f:Nat->Bool}{S:CS}(h:∀ i,i<256->f i=S.getLsbD i):blV f=mX S:=by rw[blV,uH h];rfl
def yr:aM prog 174 where
 pre:=λW bs=>λ| [.val (.string s),.val (.int .i64 i),.val (.bool inner)]=>0<=i/\i<=s.size/\s.size<=140737488351232|_=>False
 res:=λW=>λ| [.val (.string s),.val (.int .i64 i),.val (.bool inner)]=>WR (eG s i (kD inner))|_=>undef
 enters:=call174
 ok:=by
  intro W w bs us as_ hk hu hp;split at hp
  ·rename_i s i inner
   match us,hu with
   |[u0,u1,u2],hu=>
    obtain⟨rfl,rfl,rfl,_⟩:=hu;exact K7 s i inner hp.1 hp.2.1 hp.2.2 w
  ·exact hp.elim
theorem Hk(W:World)(s:ByteArray)(i:Int)(inner:Bool):yr.res W [.val (.string s),.val (.int .i64 i),.val (.bool inner)]=WR (eG s i (kD inner)):=rfl
theorem I1(W:World)(bs:List Nat)(s:ByteArray)(i:Int)(inner:Bool):yr.pre W bs [.val (.string s),.val (.int .i64 i),.val (.bool inner)]=(0<=i/\i<=s.size/\s.size<=140737488351232):=rfl
noncomputable def Γ62:Env prog:=⟨λ| 174=>some yr.spec|_=>none,λ| _=>none,λ_ _=>none⟩
theorem afv:Γ62.sp 174=some yr.spec:=rfl
def rdV:Except Int (CS×Int)->Value
 |.ok (a,j)=>.tuple #[mX a,.int .i64 j,.int .i64 0,.int .i64 0]
 |.error j=>.tuple #[mX 0,.int .i64 0,.int .i64 10,.int .i64 j]
theorem aid(i:Nat)(hi:i<256):(~~~(Km ⟨#[10]⟩ 1)).getLsbD i=decide (i≠10):=by
 have h:Km ⟨#[10]⟩ 1=vA 0 10:=by decide
 rw[BitVec.getLsbD_not,h,sP _ _ _ oM];simp[hi]
theorem Kc{s:ByteArray}{i j:Int}(h:iL s i=.error j):j=i:=by
 rw[iL]at h;split at h
 ·cases h
 ·exact (Except.error.inj h).symm
theorem YV{s:ByteArray}{i j:Int}(h:eL s i=.error j)(h0:0<=i):0<=j:=by
 rw[eL]at h;split at h
 ·obtain rfl:=Except.error.inj h;exact h0
 ·split at h
  ·cases h
  ·split at h
   ·cases h
   ·split at h
    ·cases h
    ·split at h
     ·cases h2:iL s (i+1) with
      |error k=>
       rw[h2]at h;obtain rfl:=Except.error.inj h;have:=Kc h2;omega
      | ok p=>
       obtain⟨a,k⟩:=p;have g:=sG h2 oM;rw[h2]at h;simp only at h;cases h3:iL s k with
       |error l=>
        rw[h3]at h;obtain rfl:=Except.error.inj h;have:=Kc h3;omega
       |ok p=>rw[h3]at h;cases h
     ·split at h
      ·obtain rfl:=Except.error.inj h;exact h0
      ·cases h
theorem zt{s q:ByteArray}{i j:Int}(h:eG s i q=.error j)(h0:0<=i):0<=j:=by
 rw[eG]at h;split at h
 ·exact YV h oM
 ·split at h
  ·obtain rfl:=Except.error.inj h;exact h0
  ·cases h
structure MI where
 n:Nat
 i:Int
 a:CS
theorem adv(a:CS)(lo hi:Int)(h0:0<=lo)(h2:0<=hi)(h1:hi<256)(k:Nat)(hk:k<256):(a ||| mu lo hi).getLsbD k=(a.getLsbD k||(decide (lo<=k)&&decide ((k:Int)<=hi))):=by
 rw[BitVec.getLsbD_or,mu,Hx _ _ _ oM,<- Bool.decide_and]
 congr 1
 rw[decide_eq_decide];omega
def bj:=(aj @an @ab jo jl gS ca cc (aj b9 cg cf cj cd ck fu (aj fE fj fz fw dc dh cZ (aj db c8 dd Dn Ct Dl DL (aj alr aln @aG @al @ay @ax @mK (aj @dL @lS @ni @mv @aB @iP Hk (eT I1 afv @od @jM)))))))
theorem RF(s:ByteArray)(i:Int)(h0:0<=i)(hi:i<s.size)(hs:s.size<=140737488351232)(w:World) :
  Calls prog 122 #[.string s,.int .i64 i] w λe w' => e=.returned (rdV (ei s i))/\ah w [] w' := by
 have hz:∀ E,den E (.agg ((gA λ_=>false).map SV.v))=mX 0:=λE=>by rw[iP];exact Ek λi _=>by simp
 have w1:IntKind.i64.wrap (i+1)=i+1:=ae oM oM;refine af (nt:=157) [.cell 4 241,.tmp 5,.tmp 6,.tmp 7] func122 rfl rfl rfl ?_;refine vR Γ0 bj ?_;refine vR Γ0 bj ?_;refine Wp.seq ?_;refine vR Γ0 bj ?_;refine wC bj (λhc=>?_) (λhc=>?_)
 ·exfalso;simp at hc;omega
 ·refine wK ?_;refine Wp.seq ?_;refine vR Γ0 bj ?_;refine wC bj (λhc=>?_) (λhc=>?_)
  ·have h46:bt s i=46:=by simpa using hc
   have hI:ei s i=.ok (~~~(Km ⟨#[10]⟩ 1),i+1):=by rw[ei,if_pos h46]
   rw[hI];refine Wp.seq ?_;refine vR Γ0 bj ?_;refine Wp.block ?_
   refine Wp.loop (λj:Nat=>⟨20,bm [(0,.is (.v (.string s))),(1,.is (.v (.int .i64 i))),(4,.is (.own 0 0)),(8,.is (.own 32 0)),(9,.is (.v (.int .i64 (j:Nat))))],aY [(0,.cells 241 ((gA λ_=>false).map .v)),(32,.cells 241 ((gA λk=>decide (k<j)&&decide (k≠10)).map .v))]⟩) (λj=>j<=256) (λj=>256-j) 0 ?_ (Nat.zero_le _) ?_
   ·exact wM (λx=>.key x) (bQ bj @Nat.not_lt_zero @Bool.false_and)
   rintro j hj;refine Wp.seq ?_;refine vR Γ0 bj ?_;refine wC bj (λhc=>?_) (λhc=>?_)
   ·have hlt:j<256:=by
     simp at hc;omega
    have wj:IntKind.i64.wrap ((j:Int)+1)=((j+1:Nat):Int):=wW;refine wK ?_;refine Wp.seq (Wp.block ?_)
    refine Wp.Gw Γ0 b8 (by simp only[jD,Op.operands,Value.cells,σ0,σB,Nat.reduceEqDiff,Nat.reduceAdd,Nat.reduceMul,Nat.reduceLT,Nat.reduceLeDiff,Nat.reduceBEq,av,Int.reduceToNat,Int.reduceLT,Int.reduceLE,Nat.reduceDiv,Nat.reduceMod,Nat.reduceSub,Int.reducePow,Nat.reducePow,σP,σB3,bj,yn _ j _ hlt];exact rfl) rfl ?_ ?_
    ·omega
    refine qq ?_;refine vr Γ0 (aa bj wj) ?_;have e:(λk=>if k=j then !decide ((j:Int)=10) else decide (k<j)&&decide (¬k=10))=λk=>decide (k<j+1)&&decide (¬k=10):=by
     funext k
     by_cases hk:k=j
     ·subst hk;rw[if_pos rfl,decide_eq_true (show k<k+1 by omega),Bool.true_and,<- decide_not,decide_eq_decide];omega
     ·rw[if_neg hk]
      congr 1
      rw[decide_eq_decide];omega
    refine⟨j+1,oM,oM,?_⟩;exact wM (λx=>.key x) (aa bj e)
   ·have hlt:j=256:=by
     simp at hc;omega
    subst hlt;refine wE ?_;refine vR Γ0 (aa bj w1) ?_;refine wZ bj ?_;intro E;show Value.tuple #[den E (.agg _),.int .i64 (i+1),.int .i64 0,.int .i64 0]=_;rw[iP,Ek (S := ~~~(Km ⟨#[10]⟩ 1)) λk hk=>by rw[aid k hk,decide_eq_true hk,Bool.true_and]];rfl
  ·have h46:¬ bt s i=46:=by simpa using hc
   refine wK ?_;refine Wp.seq ?_;refine vR Γ0 bj ?_;refine wC bj (λhc=>?_) (λhc=>?_)
   ·have h91:¬ bt s i=91:=by simpa using hc
    have hI:ei s i=afO (eG s i BK):=by rw[ei,if_neg h46,if_neg h91]
    rw[hI];have hb:eG s i (kD false)=eG s i BK:=rfl;cases hO:eG s i BK with
    | error j=>
     have hj:(0:Int)<=j:=zt hO h0;refine wR Γ62 (bQ bj hb hO) ?_ ?_
     ·exact⟨oM,oM,hs⟩
     refine Wp.seq ?_;refine vR Γ0 bj ?_;refine wC bj (λhc=>?_) (λhc=>?_)
     ·skip;refine vR Γ0 bj ?_;refine wZ bj ?_;intro E;show Value.tuple #[den E (.agg _),.int .i64 0,.int .i64 10,.int .i64 j]=_;rw[hz];rfl
     ·exfalso;simp at hc;omega
    | ok q=>
     obtain⟨b,j⟩:=q;have hb1:=kY hO h0;refine wR Γ62 (bQ bj hb hO) ?_ ?_
     ·exact⟨oM,oM,hs⟩
     refine Wp.seq ?_;refine vR Γ0 bj ?_;refine wC bj (λhc=>?_) (λhc=>?_)
     ·exfalso;simp at hc
     ·obtain⟨c,rfl⟩:=Int.eq_ofNat_of_zero_le hb1.1;have wc:IntKind.i64.wrap ((c:Nat):Int)=((c:Nat):Int):=ae oM oM;refine wK ?_
      refine Wp.o9 Γ0 b8 (by simp only[jD,Op.operands,Value.cells,σ0,σB,Nat.reduceEqDiff,Nat.reduceAdd,Nat.reduceMul,Nat.reduceLT,Nat.reduceLeDiff,Nat.reduceBEq,av,Int.reduceToNat,Int.reduceLT,Int.reduceLE,Nat.reduceDiv,Nat.reduceMod,Nat.reduceSub,Int.reducePow,Nat.reducePow,σP,σB3,bj,wc,yn _ c _ (show c<256 by omega)];exact rfl) rfl ?_ ?_
      ·omega
      refine vR Γ0 bj ?_;refine wZ bj ?_;intro E;show Value.tuple #[den E (.agg _),.int .i64 j,.int .i64 0,.int .i64 0]=_;rw[iP,Ek (S:=mu (c:Int) (c:Int)) λk hk=>by
       rw[mu,Hx _ _ _ oM]
       by_cases h:k=c
       ·rw[if_pos h,h];simp
       ·rw[if_neg h,eq_comm,decide_eq_false_iff_not];omega]
      rfl
   ·have h91:bt s i=91:=by simpa using hc
    have hI:ei s i=fy s (i+1):=by rw[ei,if_neg h46,if_pos h91]
    rw[hI];refine wK ?_;refine vR Γ0 (aa bj w1) ?_;refine wR Γ0 bj ?_ ?_
    ·simp;omega
    generalize hi0:(if jh s (i+1) then i+1+1 else i+1)=i0;have hj0:0<=i0/\i0<=s.size:=by
     rw[<- hi0];split
     ·rename_i h;simp[jh]at h;omega
     ·omega
    generalize hR:va s (s.size+1) i0 0=R;have hm:fy s (i+1)=uR (jh s (i+1)) R:=by rw[fy,hi0,hR]
    rw[hm];refine aW ⟨40,bm [(0,.is (.v (.string s))),(4,.is (.own 0 0)),(8,.is (.own 32 0)),(13,.is (.v (.int .i64 i0))),(14,.is (.v (.bool (jh s (i+1)))))],aY [(0,.cells 241 ((gA λ_=>false).map .v)),(32,.cells 241 ((gA λ_=>false).map .v))]⟩ ?_ ?_
    ·skip;refine vR Γ0 bj ?_;refine wC bj (λhc=>?_) (λhc=>?_)
     ·have hcar:jh s (i+1)=true:=hc;rw[hcar]at hi0;simp only[if_true]at hi0;subst hi0;have w2:IntKind.i64.wrap (i+1+1)=i+1+1:=ae oM oM;refine vr Γ0 (aa bj w2) ?_;exact wM (λx=>.key x) (aa bj @jh.eq_1)
     ·have hcar:jh s (i+1)=false:=hc;rw[hcar]at hi0;simp only[Bool.false_eq_true,if_false]at hi0;subst hi0;refine wK ?_;exact wM (λx=>.key x) (aa bj @jh.eq_1)
    have e0:(0:CS).getLsbD=λ_=>false:=by funext k;simp
    refine Wp.seq (Wp.block ?_);refine Wp.loop (λp:MI=>⟨50,bm [(0,.is (.v (.string s))),(4,.is (.own 0 0)),(8,.is (.own 32 0)),(13,.is (.v (.int .i64 p.i))),(14,.is (.v (.bool (jh s (i+1)))))],aY [(0,.cells 241 ((gA λ_=>false).map .v)),(32,.cells 241 ((gA p.a.getLsbD).map .v))]⟩)
     (λp=>(0<=p.i/\p.i<=s.size)/\(s.size-p.i<p.n/\1<=p.n)/\va s p.n p.i p.a=R) (λp=>p.n) ⟨s.size+1,i0,0⟩ ?_ ⟨hj0,⟨by simp only;omega,by simp only;omega⟩,hR⟩ ?_
    ·exact wM (λx=>.key x) (aa bj e0)
    rintro⟨n,i',a⟩ ⟨⟨k0,k4⟩,⟨k1,k3⟩,k2⟩;simp only at k0 k1 k2 k3 k4;dsimp only;obtain⟨n,rfl⟩:∃ m,n=m+1:=⟨n-1,oM⟩;rw[va]at k2;refine Wp.seq ?_;refine wR Γ0 bj ?_ ?_
    ·simp;omega
    refine wC bj (λhc=>?_) (λhc=>?_)
    ·have hn:¬ (i' < s.size/\bt s i' = 93):=by
      simp at hc;omega
     rw[if_neg hn]at k2;refine wK ?_;refine Wp.block ?_;have hb:eG s i' (kD true)=eG s i' mH:=rfl;cases h1:eG s i' mH with
     | error j=>
      have hj:=zt h1 k0;rw[h1]at k2;simp only at k2;rw[<- k2,uR];refine wR Γ62 (bQ bj hb h1) ?_ ?_
      ·exact⟨k0,k4,hs⟩
      refine Wp.seq ?_;refine vR Γ0 bj ?_;refine wC bj (λhc=>?_) (λhc=>?_)
      ·skip;refine vR Γ0 bj ?_;refine wZ bj ?_;intro E;show Value.tuple #[den E (.agg _),.int .i64 0,.int .i64 10,.int .i64 j]=_;rw[hz];rfl
      ·exfalso;simp at hc;omega
     | ok p=>
      obtain⟨lo,j⟩:=p;obtain⟨o0,o1,o2,o3⟩:=kY h1 k0;rw[h1]at k2;simp only at k2;refine wR Γ62 (bQ bj hb h1) ?_ ?_
      ·exact⟨k0,k4,hs⟩
      refine Wp.seq ?_;refine vR Γ0 bj ?_;refine wC bj (λhc=>?_) (λhc=>?_)
      ·exfalso;simp at hc
      ·refine wK ?_;refine vR Γ0 bj ?_;refine vR Γ0 bj ?_
       refine kK (λp:Int×Int=>⟨110,bm [(0,.is (.v (.string s))),(4,.is (.own 0 0)),(8,.is (.own 32 0)),(13,.is (.v (.int .i64 p.2))),(14,.is (.v (.bool (jh s (i+1))))),(15,.is (.v (.int .u8 lo))),(18,.is (.v (.int .u8 p.1)))],aY [(0,.cells 241 ((gA λ_=>false).map .v)),(32,.cells 241 ((gA a.getLsbD).map .v))]⟩) (λ_=>w) (λ_=>[])
        (λp=>(0<=p.1/\p.1<256)/\(i' < p.2/\p.2<=s.size)/\va s n p.2 (a ||| mu lo p.1)=R) ?_ ?_
       ·skip;refine wR Γ0 bj ?_ ?_
        ·simp;omega
        refine wC bj (λhc=>?_) (λhc=>?_)
        ·have h45:j<s.size/\bt s j=45:=by
          simp at hc;omega
         rw[if_pos h45]at k2;have wj:IntKind.i64.wrap (j+1)=j+1:=ae oM oM;have hb2:eG s (j+1) (kD true)=eG s (j+1) mH:=rfl;refine vR Γ0 (aa bj wj) ?_;cases h2:eG s (j+1) mH with
         | error l=>
          have hl:=zt h2 oM;rw[h2]at k2;simp only at k2;rw[<- k2,uR];refine wR Γ62 (bQ bj hb2 h2) ?_ ?_
          ·exact⟨oM,oM,hs⟩
          refine Wp.seq ?_;refine vR Γ0 bj ?_;refine wC bj (λhc=>?_) (λhc=>?_)
          ·skip;refine vR Γ0 bj ?_;refine wZ bj ?_;intro E;show Value.tuple #[den E (.agg _),.int .i64 0,.int .i64 10,.int .i64 l]=_;rw[hz];rfl
          ·exfalso;simp at hc;omega
         | ok q=>
          obtain⟨hi',l⟩:=q;obtain⟨q0,q1,q2,q3⟩:=kY h2 oM;rw[h2]at k2;simp only at k2;refine wR Γ62 (bQ bj hb2 h2) ?_ ?_
          ·exact⟨oM,oM,hs⟩
          refine Wp.seq ?_;refine vR Γ0 bj ?_;refine wC bj (λhc=>?_) (λhc=>?_)
          ·exfalso;simp at hc
          ·refine wK ?_;refine Wp.seq ?_;refine vR Γ0 bj ?_;refine wC bj (λhc=>?_) (λhc=>?_)
           ·have hlt:hi' < lo:=by simpa using hc
            rw[if_pos hlt]at k2;rw[<- k2,uR];refine vR Γ0 bj ?_;refine wZ bj ?_;intro E;show Value.tuple #[den E (.agg _),.int .i64 0,.int .i64 10,.int .i64 (j+1)]=_;rw[hz];rfl
           ·have hlt:¬ hi' < lo:=by simpa using hc
            rw[if_neg hlt]at k2;refine wK ?_;refine vr Γ0 bj ?_;refine⟨(hi',l),⟨⟨q0,q1⟩,⟨by simp only;omega,q3⟩,k2⟩,rfl,rfl,?_⟩;exact wM (λx=>.key x) bj
        ·have h45:¬ (j<s.size/\bt s j=45):=λh=>by
          apply Bool.eq_false_iff.1 hc;simp;exact h
         rw[if_neg h45]at k2;refine wK ?_;refine⟨(lo,j),⟨⟨o0,o1⟩,⟨by simp only;omega,o3⟩,k2⟩,rfl,rfl,?_⟩;exact wM (λx=>.key x) bj
       rintro⟨hi',j'⟩ ⟨⟨q0,q1⟩,⟨q2,q3⟩,q4⟩ _;simp only at q0 q1 q2 q3 q4;dsimp only;obtain⟨lo,rfl⟩:=Int.eq_ofNat_of_zero_le o0;obtain⟨hi',rfl⟩:=Int.eq_ofNat_of_zero_le q0;have wl:IntKind.i64.wrap ((lo:Nat):Int)=((lo:Nat):Int):=ae oM oM
       have wh:IntKind.i64.wrap ((hi' : Nat):Int)=((hi' : Nat):Int):=ae oM oM;refine vR Γ0 (aa bj wl) ?_;refine Wp.block ?_
       refine Wp.loop (λm:Nat=>⟨120,bm [(0,.is (.v (.string s))),(4,.is (.own 0 0)),(8,.is (.own 32 0)),(13,.is (.v (.int .i64 j'))),(14,.is (.v (.bool (jh s (i+1))))),(18,.is (.v (.int .u8 (hi' : Nat)))),(20,.is (.v (.int .i64 ((lo+m:Nat):Int))))],aY [(0,.cells 241 ((gA λ_=>false).map .v)),(32,.cells 241 ((gA λk=>a.getLsbD k||(decide (lo<=k)&&decide (k<lo+m))).map .v))]⟩)
        (λm=>m<=hi' + 1-lo) (λm=>hi' + 1-lo-m) 0 ?_ (Nat.zero_le _) ?_
       ·have e:(λk=>a.getLsbD k||(decide (lo<=k)&&decide (k<lo+0)))=a.getLsbD:=by
         funext k
         have:(decide (lo<=k)&&decide (k<lo+0))=false:=by
          rw[<- Bool.decide_and,decide_eq_false_iff_not];omega
         rw[this,Bool.or_false]
        rw[e];exact wM (λx=>.key x) bj
       rintro m hm';refine Wp.seq ?_;refine vR Γ0 (aa bj wh) ?_;refine wC bj (λhc=>?_) (λhc=>?_)
       ·have hlt:lo+m<=hi' := by
         simp at hc;omega
        have wm:IntKind.i64.wrap (((lo+m:Nat):Int)+1)=((lo+(m+1):Nat):Int):=wW;refine wK ?_;refine Wp.seq (Wp.block ?_)
        refine Wp.Gw Γ0 b8 (by simp only[jD,Op.operands,Value.cells,σ0,σB,Nat.reduceEqDiff,Nat.reduceAdd,Nat.reduceMul,Nat.reduceLT,Nat.reduceLeDiff,Nat.reduceBEq,av,Int.reduceToNat,Int.reduceLT,Int.reduceLE,Nat.reduceDiv,Nat.reduceMod,Nat.reduceSub,Int.reducePow,Nat.reducePow,σP,σB3,bj,yn _ (lo+m) _ (show lo+m<256 by omega)];exact rfl) rfl ?_ ?_
        ·omega
        refine qq ?_;refine vr Γ0 (aa bj wm) ?_;have e:(λk=>if k=lo+m then true else a.getLsbD k||(decide (lo<=k)&&decide (k<lo+m)))=λk=>a.getLsbD k||(decide (lo<=k)&&decide (k<lo+(m+1))):=by
         funext k
         by_cases hk:k=lo+m
         ·rw[if_pos hk,decide_eq_true (show lo<=k by omega),decide_eq_true (show k<lo+(m+1) by omega)];simp
         ·rw[if_neg hk]
          congr 2
          rw[decide_eq_decide];omega
        refine⟨m+1,oM,oM,?_⟩;exact wM (λx=>.key x) (aa bj e)
       ·have hlt:¬ lo+m<=hi' := by
         simp at hc;omega
        have e:gA (λk=>a.getLsbD k||(decide (lo<=k)&&decide (k<lo+m)))=gA (a ||| mu (lo:Int) (hi' : Int)).getLsbD:=uH λk hk=>by
         rw[adv a _ _ oM oM oM k hk]
         congr 1
         rw[<- Bool.decide_and,<- Bool.decide_and,decide_eq_decide];omega
        refine wE ?_;refine⟨⟨n,j',a ||| mu (lo:Int) (hi' : Int)⟩,⟨⟨by simp only;omega,q3⟩,⟨by simp only;omega,by simp only;omega⟩,q4⟩,by simp only;omega,?_⟩;exact wM (λx=>.key x) (aa bj e)
    ·have hn:i' < s.size/\bt s i' = 93:=by
      simp at hc;omega
     rw[if_pos hn]at k2;have wi:IntKind.i64.wrap (i' + 1)=i' + 1:=ae oM oM;refine wE ?_;refine aW ⟨90,bm [(4,.is (.own 0 0)),(8,.is (.own 32 0)),(13,.is (.v (.int .i64 i')))],aY [(0,.cells 241 ((gA λ_=>false).map .v)),(32,.cells 241 ((gA (QC (jh s (i+1)) a).getLsbD).map .v))]⟩ ?_ ?_
     ·skip;refine vR Γ0 bj ?_;refine wC bj (λhc=>?_) (λhc=>?_)
      ·have hcar:jh s (i+1)=true:=hc;rw[hcar];refine vR Γ0 bj ?_;refine Wp.block ?_
       refine Wp.loop (λm:Nat=>⟨80,bm [(4,.is (.own 0 0)),(8,.is (.own 32 0)),(13,.is (.v (.int .i64 i'))),(21,.is (.v (.int .i64 (m:Nat))))],aY [(0,.cells 241 ((gA λ_=>false).map .v)),(32,.cells 241 ((gA λk=>if k<m then !a.getLsbD k else a.getLsbD k).map .v))]⟩)
        (λm=>m<=256) (λm=>256-m) 0 ?_ (Nat.zero_le _) ?_
       ·have e:(λk=>if k<0 then !a.getLsbD k else a.getLsbD k)=a.getLsbD:=by
         funext k
         rw[if_neg oM]
        rw[e];exact wM (λx=>.key x) bj
       rintro m hm';refine Wp.seq ?_;refine vR Γ0 bj ?_;refine wC bj (λhc=>?_) (λhc=>?_)
       ·have hlt:m<256:=by
         simp at hc;omega
        have wm:IntKind.i64.wrap ((m:Int)+1)=((m+1:Nat):Int):=wW;refine wK ?_;refine Wp.seq (Wp.block ?_)
        refine Wp.Gw Γ0 b8 (by simp only[jD,Op.operands,Value.cells,σ0,σB,Nat.reduceEqDiff,Nat.reduceAdd,Nat.reduceMul,Nat.reduceLT,Nat.reduceLeDiff,Nat.reduceBEq,av,Int.reduceToNat,Int.reduceLT,Int.reduceLE,Nat.reduceDiv,Nat.reduceMod,Nat.reduceSub,Int.reducePow,Nat.reducePow,σP,σB3,bj,yn _ m _ hlt,mw _ m hlt];exact rfl) rfl ?_ ?_
        ·omega
        refine qq ?_;refine vr Γ0 (aa bj wm) ?_;have e:(λk=>if k=m then !(if m<m then !a.getLsbD m else a.getLsbD m) else if k<m then !a.getLsbD k else a.getLsbD k)=λk=>if k<m+1 then !a.getLsbD k else a.getLsbD k:=by
         funext k
         by_cases hk:k=m
         ·subst hk;rw[if_pos rfl,if_neg oM,if_pos oM]
         ·rw[if_neg hk];by_cases h:k<m
          ·rw[if_pos h,if_pos oM]
          ·rw[if_neg h,if_neg oM]
        refine⟨m+1,oM,oM,?_⟩;exact wM (λx=>.key x) (aa bj e)
       ·have hlt:m=256:=by
         simp at hc;omega
        subst hlt;have e:gA (λk=>if k<256 then !a.getLsbD k else a.getLsbD k)=gA (QC true a).getLsbD:=uH λk hk=>by
         rw[if_pos hk];show _=(~~~a).getLsbD k;rw[BitVec.getLsbD_not];simp[hk]
        refine wE ?_;exact wM (λx=>.key x) (aa bj e)
      ·have hcar:jh s (i+1)=false:=hc;rw[hcar];refine wK ?_;exact wM (λx=>.key x) (bQ bj @QC.eq_1 @Bool.false_eq_true)
     rw[<- k2,uR];refine vR Γ0 (aa bj wi) ?_;refine wZ bj ?_;intro E;show Value.tuple #[den E (.agg _),.int .i64 (i' + 1),.int .i64 0,.int .i64 0]=_;rw[iP];rfl
def Fi:aM prog 122 where
 pre:=λW bs=>λ| [.val (.string s),.val (.int .i64 i)]=>0<=i/\i<s.size/\s.size<=140737488351232|_=>False
 res:=λW=>λ| [.val (.string s),.val (.int .i64 i)]=>rdV (ei s i)|_=>undef
 enters:=call122
 ok:=by
  intro W w bs us as_ hk hu hp;split at hp
  ·rename_i s i
   match us,hu with
   |[u0,u1],hu=>
    obtain⟨rfl,rfl,_⟩:=hu;exact RF s i hp.1 hp.2.1 hp.2.2 w
  ·exact hp.elim
theorem Ln(W:World)(s:ByteArray)(i:Int):Fi.res W [.val (.string s),.val (.int .i64 i)]=rdV (ei s i):=rfl
theorem Nq(W:World)(bs:List Nat)(s:ByteArray)(i:Int):Fi.pre W bs [.val (.string s),.val (.int .i64 i)]=(0<=i/\i<s.size/\s.size<=140737488351232):=rfl
def xI(s:ByteArray)(i:Int):Bool:=(decide (i<s.size)&&decide (48<=bt s i))&&decide (bt s i<=57)
def af1:=(aj jo jl BH BJ BG gS ca (aj cc b9 cg cf cj cd ck (aj fu fE fj fz fw dc dh (aj cZ db c8 dd wA vP wX (aj tg Pv Qh Qo Oj Ok P4 (aj QL Oq PI Of Pl O5 PS (aj Qq OX OJ Pt OT Pj Qz (aj Pd OR tR wx wF tn xq (aj xt xw wJ vW xi wO @aG (bQ @al @ay @ax))))))))))
theorem SW(s:ByteArray)(i:Int)(h0:0<=i)(w:World):Calls prog 172 #[.string s,.int .i64 i] w λe w' => e=.returned (.bool (xI s i))/\ah w [] w' := by
 refine af (nt:=21) [.tmp 4] func172 rfl rfl rfl ?_;refine vR Γ0 af1 ?_;refine wR Γ0 af1 ?_ ?_
 ·simp[h0];omega
 refine wZ af1 ?_;exact λE=>rfl
def El:aM prog 172 where
 pre:=λW bs=>λ| [.val (.string s),.val (.int .i64 i)]=>0<=i|_=>False
 res:=λW=>λ| [.val (.string s),.val (.int .i64 i)]=>.bool (xI s i)|_=>undef
 enters:=call172
 ok:=by
  intro W w bs us as_ hk hu hp;split at hp
  ·rename_i s i
   match us,hu with
   |[u0,u1],hu=>
    obtain⟨rfl,rfl,_⟩:=hu;exact SW s i hp w
  ·exact hp.elim
theorem yJ(W:World)(s:ByteArray)(i:Int):El.res W [.val (.string s),.val (.int .i64 i)]=.bool (xI s i):=rfl
theorem zC(W:World)(bs:List Nat)(s:ByteArray)(i:Int):El.pre W bs [.val (.string s),.val (.int .i64 i)]=(0<=i):=rfl
def zN(c:Int):Bool:=decide (br c)
def aft:=(bQ af1 @yJ @zC)
theorem IB(c:Int)(w:World):Calls prog 117 #[.int .u8 c] w λe w' => e=.returned (.bool (zN c))/\ah w [] w' := by
 have e:zN c=(((decide (c=42)||decide (c=43))||decide (c=63))||decide (c=123)):=by
  rw[zN,<- Bool.decide_or,<- Bool.decide_or,<- Bool.decide_or,decide_eq_decide];unfold br;omega
 rw[e];refine af (nt:=17) [.tmp 2] func117 rfl rfl rfl ?_;refine vR Γ0 aft ?_;refine vR Γ0 aft ?_;refine wZ aft ?_;exact λE=>rfl
def ud:aM prog 117 where
 pre:=λW bs=>λ| [.val (.int .u8 c)]=>True|_=>False
 res:=λW=>λ| [.val (.int .u8 c)]=>.bool (zN c)|_=>undef
 enters:=call117
 ok:=by
  intro W w bs us as_ hk hu hp;split at hp
  ·rename_i c
   match us,hu with
   |[u0],hu=>
    obtain⟨rfl,_⟩:=hu;exact IB c w
  ·exact hp.elim
theorem tu(W:World)(c:Int):ud.res W [.val (.int .u8 c)]=.bool (zN c):=rfl
theorem tV(W:World)(bs:List Nat)(c:Int):ud.pre W bs [.val (.int .u8 c)]=(True):=rfl
structure Fm where
 place:Int
 alt:Int
 meet:Int
 sgn:Int
 row:Int
 fac:Int
def Fm.bw(f:Fm):List Value:=[.int .i64 f.place,.int .i64 f.alt,.int .i64 f.meet,.int .u8 f.sgn,.int .i64 f.row,.int .i64 f.fac]
def kC(i:Int):Fm:=⟨i,-1,-1,0,-1,-1⟩
def acD:=(bQ aft @tu @tV)
theorem Y4(i:Int)(w:World):Calls prog 116 #[.int .i64 i] w λe w' => e=.returned (.agg (kC i).bw.toArray)/\ah w [] w' := by
 refine af (nt:=5) [.cell 2 234] func116 rfl rfl rfl ?_;refine vR Γ0 acD ?_;refine vR Γ0 (aa acD @an) ?_;refine wZ acD ?_;exact λE=>rfl
def C5:aM prog 116 where
 pre:=λW bs=>λ| [.val (.int .i64 i)]=>True|_=>False
 res:=λW=>λ| [.val (.int .i64 i)]=>.agg (kC i).bw.toArray|_=>undef
 enters:=call116
 ok:=by
  intro W w bs us as_ hk hu hp;split at hp
  ·rename_i i
   match us,hu with
   |[u0],hu=>
    obtain⟨rfl,_⟩:=hu;exact Y4 i w
  ·exact hp.elim
theorem CG(W:World)(i:Int):C5.res W [.val (.int .i64 i)]=.agg (kC i).bw.toArray:=rfl
theorem Dc(W:World)(bs:List Nat)(i:Int):C5.pre W bs [.val (.int .i64 i)]=(True):=rfl
structure Nd where
 op:Int
 set:CS
 a:Int
 b:Int
 m:Int
 n:Int
def Nd.bw(d:Nd):List Value:=.int .i64 d.op::(gA d.set.getLsbD++[.int .i64 d.a,.int .i64 d.b,.int .i64 d.m,.int .i64 d.n])
def dC(l:List Nd):List Value:=l.flatMap Nd.bw
theorem Nd.iS(d:Nd):d.bw.length=261:=by simp[Nd.bw,qO]
theorem P1(l:List Nd):(dC l).length=l.length*261:=by
 induction l with
 |nil=>rfl
 |cons d r ih=>
  have:dC (d::r)=d.bw++dC r:=rfl;rw[this,List.length_append,ih,Nd.iS,List.length_cons];omega
def cm(op a b:Int):Nd:=⟨op,0,a,b,0,0⟩
theorem sW(op a b:Int):dN prog 243 [0,2,3] [.v (.int .i64 op),.v (.int .i64 a),.v (.int .i64 b)]=⟨True,.agg ((cm op a b).bw.map .v),[],none,[],[]⟩:=by
 kernel_rfl
theorem R2{P:Program}{T e:TypeId}{sz:Nat}{zs:List Value}(κ:Nat)(l:List SV)(h1:P.underlying T=some (.slice e))(h2:ts P e=some sz)(h3:tz P e=some zs)(h4:zs.length=sz)(h5:sz<=16777216)(h6:0<sz)(h7:l.length=sz) :
  bz P κ T 1 [0] [.agg l]=⟨True,.hd (8*κ),[(8*κ,some (.row e sz 1 l))],none,[],[]⟩:=by
 have hp:partsOf (.agg l)=l:=rfl;have hf:dG (λi=>some (i*sz,sz)) ((List.replicate 1 zs).flatten.map .v) ([0].zip [.agg l])=some l:=by
  simp only[List.zip_cons_cons,List.zip_nil_right,dG,hp,Nat.zero_mul,Nat.zero_add];rw[if_pos ⟨h7,by simp[h4]⟩];simp[av,h7,<- h4]
 unfold bz;simp only[h1,h2,h3,hf]
 congr 1
 exact eq_true ⟨oM,h4,h6⟩
theorem tQ(κ:Nat)(d:Nd):bz prog κ 62 1 [0] [.agg (d.bw.map .v)]=⟨True,.hd (8*κ),[(8*κ,some (.row 243 261 1 (d.bw.map .v)))],none,[],[]⟩:=
 R2 κ _ tg tR tn sI oM oM (by rw[List.length_map,Nd.iS])
theorem sS(l:List Nd)(d:Nd):List.map SV.v (dC l)++List.map SV.v d.bw=List.map SV.v (dC (l++[d])):=by simp[dC]
theorem Hh(l:List Nd)(d:Nd):l.length+1=(l++[d]).length:=by simp
theorem Nd.ej(d:Nd):(List.map SV.v d.bw).all dm=true:=by
 show (List.map SV.v (Value.int .i64 d.op::(gA d.set.getLsbD++[.int .i64 d.a,.int .i64 d.b,.int .i64 d.m,.int .i64 d.n]))).all dm=true;rw[List.map_cons,List.all_cons,List.map_append,List.all_append,mv];rfl
def Ym:=(aj acD @CG @Dc @mK @dL @lS @ni (mh @mv @aB @iP @sW @tQ @sS))
theorem acJ(l:List Nd)(op a b:Int)(xs:List Value)(u:Value)(fp:List Nat)(w:World)(hl:l.length<=4000000)(ho:nQ w u fp 232 [.row 243 261 l.length (dC l)] xs)(hlt:∀ b∈fp,b<w.heap.size) :
  Calls prog 173 (#[u]++#[.int .i64 op,.int .i64 a,.int .i64 b]) w λe w' => PO w u fp 232 xs e w' (.ret (.int .i64 (l.length:Nat)) [.row 243 261 (l++[cm op a b]).length (dC (l++[cm op a b]))]):=by
 rw[<- Hh];refine Kx (nt:=28) #[.int .i64 op,.int .i64 a,.int .i64 b] [.tmp 8] (by show 1<=7;omega) ho hlt func173 rfl rfl rfl ?_;refine vR Γ0 Ym ?_;refine wR Γ0 Ym ?_ ?_
 ·exact⟨oM,oM,oM,⟨by simp[qO],by unfold maxLen;omega,oM,Nd.ej _⟩,oM⟩
 have w1:IntKind.i64.wrap (((l.length+1:Nat):Int)-1)=((l.length:Nat):Int):=wW;refine wR Γ0 (aa Ym w1) ?_ ?_
 ·exact⟨oM,oM,oM,_,rfl⟩
 refine wZ Ym ?_;exact⟨_,_,rfl,λE=>rfl,[_],_,rfl,(ev (aa Ym @aB)),dE⟩
def Iw:QN prog 173 where
 T:=232
 m:=1
 pre:=λW bs fs as_=>match fs,as_ with|[.row 243 261 n vs],[.val (.int .i64 op),.val (.int .i64 a),.val (.int .i64 b)]=>∃ l:List Nd,vs=dC l/\n=l.length/\l.length<=4000000|_,_=>False
 out:=λW fs as_=>match fs,as_ with|[.row 243 261 n vs],[.val (.int .i64 op),.val (.int .i64 a),.val (.int .i64 b)]=>.ret (.int .i64 (n:Nat)) [.row 243 261 (n+1) (vs++(cm op a b).bw)]|_,_=>.pan [] undef
 enters:=call173
 ok:=by
  intro W w bs u fp us fs as_ xs hk ho hlt hmine hu hp;split at hp
  ·rename_i n vs op a b
   match us,hu with
   |[u0,u1,u2],hu=>
    obtain⟨rfl,rfl,rfl,_⟩:=hu;obtain⟨l,rfl,rfl,hl⟩:=hp;have:=acJ l op a b xs u fp w hl ho hlt;rw[<- Hh]at this;rw[show dC l++(cm op a b).bw=dC (l++[cm op a b]) by simp[dC]];exact this
  ·exact hp.elim
theorem H7(W:World)(n:Nat)(vs:List Value)(op:Int)(a:Int)(b:Int):Iw.out W [.row 243 261 n vs] [.val (.int .i64 op),.val (.int .i64 a),.val (.int .i64 b)]=.ret (.int .i64 (n:Nat)) [.row 243 261 (n+1) (vs++(cm op a b).bw)]:=rfl
theorem Ji(W:World)(bs:List Nat)(n:Nat)(vs:List Value)(op:Int)(a:Int)(b:Int):Iw.pre W bs [.row 243 261 n vs] [.val (.int .i64 op),.val (.int .i64 a),.val (.int .i64 b)]=(∃ l:List Nd,vs=dC l/\n=l.length/\l.length<=4000000):=rfl
theorem Wj:Iw.T=232:=rfl
theorem XQ:Iw.m=1:=rfl
end
section
def aF(ar:List Nd)(f:Fm):List Nd×Fm:=
 if f.fac<0 then (ar,f)
 else if f.row<0 then (ar,{ f with row:=f.fac,fac:=-1 })
 else (ar++[cm 2 f.row f.fac],{ f with row:=ar.length,fac:=-1 })
def kr(ar:List Nd)(f:Fm):List Nd×Fm:=
 if f.row<0 then (ar++[cm 0 0 0],{ f with row:=ar.length }) else (ar,f)
def ng(ar:List Nd)(f:Fm):List Nd×Fm:=
 if f.meet<0 then (ar,{ f with meet:=f.row,row:=-1 })
 else if f.sgn=38 then (ar++[cm 5 f.meet f.row],{ f with meet:=ar.length,row:=-1 })
 else (ar++[cm 6 f.meet f.row],{ f with meet:=ar.length,row:=-1 })
def gk(ar:List Nd)(f:Fm):List Nd×Fm:=
 ng (kr (aF ar f).1 (aF ar f).2).1 (kr (aF ar f).1 (aF ar f).2).2
def vZ(ar:List Nd)(f:Fm):List Nd×Fm:=
 if f.alt<0 then (ar,{ f with alt:=f.meet,meet:=-1 })
 else (ar++[cm 3 f.alt f.meet],{ f with alt:=ar.length,meet:=-1 })
def aP(ar:List Nd)(f:Fm):List Nd×Fm:=vZ (gk ar f).1 (gk ar f).2
def uz(m n:Int):Prop:=(m=-2/\n=-1)\/(0<=m/\m<=255/\n<=255/\(n=-1\/(0<=n/\m<=n)))
inductive NM (ts:List RT):Nd->RT->Prop where
 |eps (d:Nd):d.op=0->d.set=0->NM ts d .eps
 |cls (d:Nd):d.op=1->NM ts d (.cls d.set)
 |cat (d:Nd) (a b:RT):d.op=2->0<=d.a->ts[d.a.toNat]?=some a->0<=d.b->ts[d.b.toNat]?=some b->NM ts d (.cat a b)
 |alt (d:Nd) (a b:RT):d.op=3->0<=d.a->ts[d.a.toNat]?=some a->0<=d.b->ts[d.b.toNat]?=some b->NM ts d (.alt a b)
 |and (d:Nd) (a b:RT):d.op=5->0<=d.a->ts[d.a.toNat]?=some a->0<=d.b->ts[d.b.toNat]?=some b->NM ts d (.and a b)
 |minus (d:Nd) (a b:RT):d.op=6->0<=d.a->ts[d.a.toNat]?=some a->0<=d.b->ts[d.b.toNat]?=some b->NM ts d (.minus a b)
 |rep (d:Nd) (a:RT):d.op=7->0<=d.a->ts[d.a.toNat]?=some a->uz d.m d.n->NM ts d (.rep a d.m d.n)
inductive AR:List Nd->List RT->Prop where
 |nil:AR [] []
 |snoc {ar ts d t}:AR ar ts->NM ts d t->AR (ar++[d]) (ts++[t])
theorem AR.len{ar:List Nd}{ts:List RT}(h:AR ar ts):ts.length=ar.length:=by
 induction h with
 |nil=>rfl
 |snoc _ _ ih=>simp[ih]
def OD(ts:List RT)(x:Int):Option RT->Prop
 |none=>x<0
 |some t=>0<=x/\ts[x.toNat]?=some t
theorem OD.app{ts:List RT}{x:Int}{o:Option RT}(h:OD ts x o)(l:List RT):OD (ts++l) x o:=by
 cases o with
 |none=>exact h
 |some t=>
  refine⟨h.1,?_⟩;rw[List.getElem?_append_left (List.getElem?_eq_some_iff.1 h.2).1];exact h.2
theorem OD.last{ar:List Nd}{ts:List RT}(h:AR ar ts)(t:RT):OD (ts++[t]) ar.length (some t):=by
 refine⟨by omega,?_⟩;rw[Int.toNat_natCast,<- h.len];simp
structure FR (ts:List RT)(f:Fm)(L:Lv):Prop where
 place:f.place=L.place
 alt:OD ts f.alt L.alt
 meet:OD ts f.meet L.meet
 sgn:f.sgn=L.sgn
 row:OD ts f.row L.row
 fac:OD ts f.fac L.fac
theorem FR.app{ts:List RT}{f:Fm}{L:Lv}(h:FR ts f L)(l:List RT):FR (ts++l) f L:=
 ⟨h.place,h.alt.app l,h.meet.app l,h.sgn,h.row.app l,h.fac.app l⟩
def UT(ts:List RT):List Fm->List Lv->Prop
 |[],[]=>True
 |f::r,L::s=>FR ts f L/\UT ts r s
 |_,_=>False
theorem UT.app{ts:List RT}:∀ {r:List Fm} {s:List Lv},UT ts r s->∀ l,UT (ts++l) r s
 |[],[],_,_=>trivial
 |[],_::_,h,_=>h.elim
 |_::_,[],h,_=>h.elim
 |f::r,L::s,h,l=>⟨h.1.app l,UT.app h.2 l⟩
theorem UT.len{ts:List RT}:∀ {r:List Fm} {s:List Lv},UT ts r s->r.length=s.length
 |[],[],_=>rfl
 |[],_::_,h=>h.elim
 |_::_,[],h=>h.elim
 |f::r,L::s,h=>by rw[List.length_cons,List.length_cons,UT.len h.2]
theorem rL{ar:List Nd}{ts:List RT}{f:Fm}{L:Lv}(ha:AR ar ts)(h:FR ts f L):∃ l,AR (aF ar f).1 (ts++l)/\FR (ts++l) (aF ar f).2 (fg L):=by
 unfold aF;cases hf:L.fac with
 | none=>
  have h1:=h.fac;rw[hf]at h1;have h2:f.fac<0:=h1;rw[if_pos h2];refine⟨[],by simpa using ha,?_⟩;rw[List.append_nil];refine⟨h.place,h.alt,h.meet,h.sgn,?_,?_⟩
  ·show OD ts f.row (rowOf L.row L.fac);rw[hf];exact h.row
  ·exact h2
 | some p=>
  have h1:=h.fac;rw[hf]at h1;have hf0:¬ f.fac<0:=by have:=h1.1;omega
  rw[if_neg hf0];cases hr:L.row with
  | none=>
   have h3:=h.row;rw[hr]at h3;have h4:f.row<0:=h3;rw[if_pos h4];refine⟨[],by simpa using ha,?_⟩;rw[List.append_nil];refine⟨h.place,h.alt,h.meet,h.sgn,?_,?_⟩
   ·show OD ts f.fac (rowOf L.row L.fac);rw[hf,hr];exact h1
   ·show (-1:Int)<0;omega
  | some r=>
   have h3:=h.row;rw[hr]at h3;have h4:¬ f.row<0:=by have:=h3.1;omega
   rw[if_neg h4];refine⟨[.cat r p],.snoc ha (.cat _ r p rfl h3.1 h3.2 h1.1 h1.2),?_⟩;refine⟨h.place,h.alt.app _,h.meet.app _,h.sgn,?_,?_⟩
   ·show OD _ (ar.length:Int) (rowOf L.row L.fac);rw[hf,hr];exact OD.last ha _
   ·show (-1:Int)<0;omega
theorem agl{ar:List Nd}{ts:List RT}{f:Fm}{L:Lv}(ha:AR ar ts)(h:FR ts f L):∃ l,AR (kr ar f).1 (ts++l)/\FR (ts++l) (kr ar f).2 { L with row:=some (L.row.getD .eps) }:=by
 unfold kr;cases hr:L.row with
 |none=>
  have h3:=h.row;rw[hr]at h3;have h4:f.row<0:=h3;rw[if_pos h4];exact⟨[.eps],.snoc ha (.eps _ rfl rfl),h.place,h.alt.app _,h.meet.app _,h.sgn,OD.last ha _,h.fac.app _⟩
 |some r=>
  have h3:=h.row;rw[hr]at h3;have h4:¬ f.row<0:=by have:=h3.1;omega
  rw[if_neg h4];refine⟨[],by simpa using ha,?_⟩;rw[List.append_nil];exact⟨h.place,h.alt,h.meet,h.sgn,h3,h.fac⟩
theorem YG{ar:List Nd}{ts:List RT}{f:Fm}{L:Lv}{r:RT}(ha:AR ar ts)(h:FR ts f L)(hr:L.row=some r):∃ l,AR (ng ar f).1 (ts++l)/\FR (ts++l) (ng ar f).2 { L with meet:=some (lD L.meet L.sgn r),row:=none }:=by
 have h3:=h.row;rw[hr]at h3;unfold ng;cases hm:L.meet with
 |none=>
  have h1:=h.meet;rw[hm]at h1;have h2:f.meet<0:=h1;rw[if_pos h2];refine⟨[],by simpa using ha,?_⟩;rw[List.append_nil];exact⟨h.place,h.alt,h3,h.sgn,(by show (-1:Int)<0;omega),h.fac⟩
 | some m=>
  have h1:=h.meet;rw[hm]at h1;have h2:¬ f.meet<0:=by have:=h1.1;omega
  rw[if_neg h2];by_cases hs:f.sgn=38
  ·rw[if_pos hs];refine⟨[.and m r],.snoc ha (.and _ m r rfl h1.1 h1.2 h3.1 h3.2),h.place,h.alt.app _,?_,h.sgn,(by show (-1:Int)<0;omega),h.fac.app _⟩;show OD _ (ar.length:Int) (some (lD (some m) L.sgn r));rw[show lD (some m) L.sgn r=.and m r by simp[lD,<- h.sgn,hs]];exact OD.last ha _
  ·rw[if_neg hs];refine⟨[.minus m r],.snoc ha (.minus _ m r rfl h1.1 h1.2 h3.1 h3.2),h.place,h.alt.app _,?_,h.sgn,(by show (-1:Int)<0;omega),h.fac.app _⟩;show OD _ (ar.length:Int) (some (lD (some m) L.sgn r));rw[show lD (some m) L.sgn r=.minus m r by simp[lD,<- h.sgn,hs]];exact OD.last ha _
theorem IQ{ar:List Nd}{ts:List RT}{f:Fm}{L:Lv}(ha:AR ar ts)(h:FR ts f L):∃ l,AR (gk ar f).1 (ts++l)/\FR (ts++l) (gk ar f).2 (mi L):=by
 obtain⟨l1,a1,f1⟩:=rL ha h;obtain⟨l2,a2,f2⟩:=agl a1 f1;obtain⟨l3,a3,f3⟩:=YG a2 f2 rfl;refine⟨l1++l2++l3,?_,?_⟩
 ·rw[<- List.append_assoc,<- List.append_assoc];exact a3
 ·rw[<- List.append_assoc,<- List.append_assoc];exact f3
theorem qR{ar:List Nd}{ts:List RT}{f:Fm}{L:Lv}(ha:AR ar ts)(h:FR ts f L):∃ l,AR (aP ar f).1 (ts++l)/\FR (ts++l) (aP ar f).2 (rY L):=by
 obtain⟨l1,a1,f1⟩:=IQ ha h;have hm:(mi L).meet=some (eX L):=rfl;have h1:=f1.meet;rw[hm]at h1;unfold aP vZ;cases hal:L.alt with
 |none=>
  have h2:=f1.alt;rw[show (mi L).alt=L.alt from rfl,hal]at h2;have h3:(gk ar f).2.alt<0:=h2;rw[if_pos h3];refine⟨l1,a1,f1.place,?_,(by show (-1:Int)<0;omega),f1.sgn,f1.row,f1.fac⟩;show OD _ _ (some (iT L));rw[show iT L=eX L by unfold iT;rw[hal];rfl];exact h1
 | some a=>
  have h2:=f1.alt;rw[show (mi L).alt=L.alt from rfl,hal]at h2;have h3:¬ (gk ar f).2.alt<0:=by have:=h2.1;omega
  rw[if_neg h3];refine⟨l1++[.alt a (eX L)],?_,?_⟩
  ·rw[<- List.append_assoc];exact .snoc a1 (.alt _ _ _ rfl h2.1 h2.2 h1.1 h1.2)
  ·rw[<- List.append_assoc];refine⟨f1.place,?_,(by show (-1:Int)<0;omega),f1.sgn,f1.row.app _,f1.fac.app _⟩;show OD _ _ (some (iT L));rw[show iT L=.alt a (eX L) by unfold iT;rw[hal];rfl];exact OD.last a1 _
end
section
section
variable (c:Int->Int)(N:Int)(rd:Int->Except (Int×Int) (BitVec 256×Int))
def UR(i:Int):Except (Int×Int) (Int×Int×Int):=
 if c i=43 then .ok (-2,-1,i+1) else if c i=63 then .ok (0,1,i+1) else if c i=123 then oq c N i else .ok (0,-1,i+1)
def II(i:Int)(ar:List Nd)(f:Fm)(rest:List Fm):Except (Int×Int) (Int×List Nd×Fm×List Fm):=
 match UR c N i with
 |.error e=>.error e
 |.ok (m,n,j)=>.ok (j,ar++[⟨7,0,f.fac,0,m,n⟩],{ f with fac:=ar.length },rest)
def aiH(i:Int)(ar:List Nd)(f:Fm):List Fm->Except (Int×Int) (Int×List Nd×Fm×List Fm)
 |[]=>.error (20,i)
 |g::r=>.ok (i+1,(aP ar f).1,{ g with fac:=(aP ar f).2.alt },r)
def QA(i:Int)(ar:List Nd)(f:Fm)(rest:List Fm):Except (Int×Int) (Int×List Nd×Fm×List Fm):=
 match rd i with
 |.error e=>.error e
 |.ok (S,j)=>.ok (j,(aF ar f).1++[⟨1,S,0,0,0,0⟩],{ (aF ar f).2 with fac:=(aF ar f).1.length },rest)
def oL(i:Int)(ar:List Nd)(f:Fm)(rest:List Fm):Except (Int×Int) (Int×List Nd×Fm×List Fm):=
 if br (c i) then (if f.fac<0 then .error (20,i) else II c N i ar f rest)
 else if c i=124 then .ok (i+1,(aP ar f).1,(aP ar f).2,rest)
 else if c i=38\/c i=45 then .ok (i+1,(gk ar f).1,{ (gk ar f).2 with sgn:=c i },rest)
 else if c i=41 then aiH i ar f rest
 else if c i=40 then
  if 1000<rest.length+1 then .error (23,i) else .ok (i+1,(aF ar f).1,kC i,(aF ar f).2::rest)
 else QA rd i ar f rest
def rI:Nat->Int->List Nd->Fm->List Fm->Except (Int×Int) (List Nd×Fm×List Fm)
 |0,_,ar,f,rest=>.ok (ar,f,rest)
 | n+1,i,ar,f,rest=>
  if i<N then match oL c N rd i ar f rest with
   |.error e=>.error e
   |.ok (j,ar',g,r)=>rI n j ar' g r
  else .ok (ar,f,rest)
end
def oW(z:List Int)(d:Nd):Int:=
 if d.op=0\/d.op=1 then 1
 else if d.op=7 then dH (z.getD d.a.toNat 0) d.m d.n
 else 1+z.getD d.a.toNat 0+z.getD d.b.toNat 0
def Kp(z:List Int)(d:Nd):Int:=if 2001<oW z d then 2001 else oW z d
def oG(ar:List Nd):List Int:=ar.foldl (λz d=>z++[Kp z d]) []
def D5:Except (Int×Int) (List Nd×Fm×List Fm)->Except (Int×Int) (List Nd×Int)
 |.error e=>.error e
 |.ok (ar,f,rest)=>if rest≠[] then .error (21,f.place)
  else if 2000<(oG (aP ar f).1).getD (aP ar f).2.alt.toNat 0 then .error (24,0) else .ok ((aP ar f).1,(aP ar f).2.alt)
def ku(c:Int->Int)(N:Int)(rd:Int->Except (Int×Int) (BitVec 256×Int)):Except (Int×Int) (List Nd×Int):=
 if 1048576<N then .error (1,0) else D5 (rI c N rd (N.toNat+1) 0 [] (kC (-1)) [])
theorem RH{c:Int->Int}{N i m n j:Int}(h:oq c N i=.ok (m,n,j)):m<=255/\n<=255:=by
 unfold oq at h;cases h1:iK c N (i+1) with
 |error e=>rw[h1]at h;cases h
 | ok p=>
  obtain⟨m',j'⟩:=p;rw[h1]at h;simp only at h;cases h2:Br c N m' j' with
  |error e=>rw[h2]at h;cases h
  | ok p=>
   obtain⟨n',j2⟩:=p;rw[h2]at h;simp only at h;unfold mU at h;split at h
   ·cases h
   ·split at h
    ·cases h
    ·rename_i hn;simp only[Except.ok.injEq,Prod.mk.injEq]at h;obtain⟨rfl,rfl,_⟩:=h;omega
theorem akd{c:Int->Int}{N i m n j:Int}(h:UR c N i=.ok (m,n,j)):uz m n:=by
 unfold UR at h;unfold uz;split at h
 ·simp only[Except.ok.injEq,Prod.mk.injEq]at h;omega
 ·split at h
  ·simp only[Except.ok.injEq,Prod.mk.injEq]at h;omega
  ·split at h
   ·have h1:=ZA h;have h2:=RH h;omega
   ·simp only[Except.ok.injEq,Prod.mk.injEq]at h;omega
section
variable {c:Int->Int}{N:Int}{rd:Int->Except (Int×Int) (BitVec 256×Int)}
def als(ts:List RT):Except (Int×Int) (Int×Lv×List Lv)->Except (Int×Int) (Int×List Nd×Fm×List Fm)->Prop
 |.error e,.error e' => e=e'
 |.ok (j,L,Ls),.ok (j',ar,f,r)=>j=j' /\ ∃ l,AR ar (ts++l)/\FR (ts++l) f L/\UT (ts++l) r Ls
 |_,_=>False
theorem agC{i:Int}{L:Lv}{p:RT}(hp:br (c i)):p5 c N i L p=match UR c N i with
  |.error e=>.error e
  |.ok (m,n,j)=>.ok (j,{ L with fac:=some (.rep p m n) }):=by
 unfold p5 UR;unfold br at hp;by_cases h42:c i=42
 ·rw[if_pos h42,if_neg (by omega),if_neg (by omega),if_neg (by omega)]
 ·rw[if_neg h42];by_cases h43:c i=43
  ·rw[if_pos h43,if_pos h43]
  ·rw[if_neg h43,if_neg h43];by_cases h63:c i=63
   ·rw[if_pos h63,if_pos h63]
   ·rw[if_neg h63,if_neg h63,if_pos (by omega)];cases oq c N i<;>rfl
theorem WA{i:Int}{ar:List Nd}{ts:List RT}{f:Fm}{L:Lv}{rest:List Fm}{Ls:List Lv}(ha:AR ar ts)(hf:FR ts f L)(hr:UT ts rest Ls):als ts (eY c N rd i L Ls) (oL c N rd i ar f rest):=by
 unfold eY oL;by_cases hp:br (c i)
 ·rw[if_pos hp,if_pos hp];cases hL:L.fac with
  |none=>
   have h1:=hf.fac;rw[hL]at h1;have h2:f.fac<0:=h1;rw[if_pos h2];rfl
  | some p=>
   have h1:=hf.fac;rw[hL]at h1;have h2:¬ f.fac<0:=by have:=h1.1;omega
   rw[if_neg h2];simp only[agC hp,II];cases hm:UR c N i with
   |error e=>rfl
   |ok q=>
    obtain⟨m,n,j⟩:=q;refine⟨rfl,[.rep p m n],.snoc ha (.rep ⟨7,0,f.fac,0,m,n⟩ p rfl h1.1 h1.2 (akd hm)),⟨hf.place,hf.alt.app _,hf.meet.app _,hf.sgn,hf.row.app _,OD.last ha _⟩,hr.app _⟩
 ·rw [if_neg hp,if_neg hp];by_cases h124:c i=124
  ·rw[if_pos h124,if_pos h124];obtain⟨l,a1,f1⟩:=qR ha hf;exact⟨rfl,l,a1,f1,hr.app l⟩
  ·rw [if_neg h124,if_neg h124];by_cases h2:c i=38\/c i=45
   ·rw[if_pos h2,if_pos h2];obtain⟨l,a1,f1⟩:=IQ ha hf;exact⟨rfl,l,a1,⟨f1.place,f1.alt,f1.meet,rfl,f1.row,f1.fac⟩,hr.app l⟩
   ·rw [if_neg h2,if_neg h2];by_cases h41:c i=41
    ·rw[if_pos h41,if_pos h41]
     match rest,Ls,hr with
     |[],[],_=>rfl
     |g::r,M::Ms,hr=>
      obtain⟨l,a1,f1⟩:=qR ha hf;have g1:=hr.1.app l;exact⟨rfl,l,a1,⟨g1.place,g1.alt,g1.meet,g1.sgn,g1.row,f1.alt⟩,hr.2.app l⟩
    ·rw[if_neg h41,if_neg h41];by_cases h40:c i=40
     ·rw[if_pos h40,if_pos h40,hr.len];by_cases hd:1000<Ls.length+1
      ·rw[if_pos hd,if_pos hd];rfl
      ·rw[if_neg hd,if_neg hd];obtain⟨l,a1,f1⟩:=rL ha hf;have hm:∀ o:Int,o=-1->OD (ts++l) o none:=λo h=>by show o<0;omega
       exact⟨rfl,l,a1,⟨rfl,hm _ rfl,hm _ rfl,rfl,hm _ rfl,hm _ rfl⟩,f1,hr.app l⟩
     ·rw[if_neg h40,if_neg h40];unfold QA;cases hS:rd i with
      |error e=>rfl
      | ok q=>
       obtain⟨S,j⟩:=q;obtain⟨l,a1,f1⟩:=rL ha hf;refine⟨rfl,l++[.cls S],?_,?_,?_⟩
       ·rw[<- List.append_assoc];exact .snoc a1 (.cls ⟨1,S,0,0,0,0⟩ rfl)
       ·rw[<- List.append_assoc];exact⟨f1.place,f1.alt.app _,f1.meet.app _,f1.sgn,f1.row.app _,OD.last a1 _⟩
       ·exact hr.app _
def ak2:Except (Int×Int) (Lv×List Lv)->Except (Int×Int) (List Nd×Fm×List Fm)->Prop
 |.error e,.error e' => e=e'
 |.ok (L,Ls),.ok (ar,f,r)=>∃ ts,AR ar ts/\FR ts f L/\UT ts r Ls
 |_,_=>False
theorem Gd:∀ (n:Nat) (i:Int) (ar:List Nd) (ts:List RT) (f:Fm) (L:Lv) (rest:List Fm) (Ls:List Lv),AR ar ts->FR ts f L->UT ts rest Ls->ak2 (runN c N rd n i L Ls) (rI c N rd n i ar f rest)
 |0,i,ar,ts,f,L,rest,Ls,ha,hf,hr=>⟨ts,ha,hf,hr⟩
 | n+1,i,ar,ts,f,L,rest,Ls,ha,hf,hr=>by
  rw[runN,rI];by_cases hi:i<N
  ·rw[if_pos hi,if_pos hi];have h1:=WA (c:=c) (N:=N) (rd:=rd) (i:=i) ha hf hr;revert h1;cases eY c N rd i L Ls with
   |error e=>
    cases oL c N rd i ar f rest with
    |error e' => exact λh=>h
    |ok q=>exact λh=>h.elim
   | ok p=>
    obtain⟨j,L',Ls'⟩:=p;cases oL c N rd i ar f rest with
    |error e' => exact λh=>h.elim
    |ok q=>
     obtain⟨j',ar',f',r'⟩:=q;rintro⟨rfl,l,a1,f1,r1⟩;exact Gd n j ar' _ f' L' r' Ls' a1 f1 r1
  ·rw[if_neg hi,if_neg hi];exact⟨ts,ha,hf,hr⟩
end
theorem CN{a m n:Int}(ha:0<=a)(h:uz m n):0<=dH a m n:=by
 unfold uz at h;unfold dH;split
 ·omega
 ·split
  ·omega
  ·split
   ·have:0<=m*a:=Int.mul_nonneg (by omega) ha;omega
   ·split
    ·omega
    ·split
     ·have:0<=n*(a+2):=Int.mul_nonneg (by omega) (by omega);omega
     ·have h1:0<=m*a:=Int.mul_nonneg (by omega) ha;have h2:0<=(n-m)*(a+2+1):=Int.mul_nonneg (by omega) (by omega);omega
theorem akn{ts:List RT}{d:Nd}{t:RT}(h:NM ts d t):Kp (ts.map λt=>(t.sz:Int)) d=(t.sz:Int):=by
 have at' : ∀ (x:Int) (a:RT),ts[x.toNat]?=some a->(ts.map λt=>(t.sz:Int)).getD x.toNat 0=(a.sz:Int):=λx a hx=>by
  rw[List.getD_eq_getElem?_getD,List.getElem?_map,hx];rfl
 have cap:∀ v:Nat,(if (2001:Int)<(v:Int) then (2001:Int) else (v:Int))=((cF v:Nat):Int):=λv=>by unfold cF;split<;>omega
 cases h with
 |eps h0 _=>
  have hv:oW (ts.map λt=>(t.sz:Int)) d=((1:Nat):Int):=by rw[oW,if_pos (.inl h0)];rfl
  rw[Kp,hv,cap];rfl
 |cls h0=>
  have hv:oW (ts.map λt=>(t.sz:Int)) d=((1:Nat):Int):=by rw[oW,if_pos (.inr h0)];rfl
  rw[Kp,hv,cap];rfl
 |cat a b h0 h1 h2 h3 h4=>
  have hv:oW (ts.map λt=>(t.sz:Int)) d=((1+a.sz+b.sz:Nat):Int):=by rw[oW,if_neg (by omega),if_neg (by omega),at' _ _ h2,at' _ _ h4];omega
  rw[Kp,hv,cap];rfl
 |alt a b h0 h1 h2 h3 h4=>
  have hv:oW (ts.map λt=>(t.sz:Int)) d=((1+a.sz+b.sz:Nat):Int):=by rw[oW,if_neg (by omega),if_neg (by omega),at' _ _ h2,at' _ _ h4];omega
  rw[Kp,hv,cap];rfl
 |and a b h0 h1 h2 h3 h4=>
  have hv:oW (ts.map λt=>(t.sz:Int)) d=((1+a.sz+b.sz:Nat):Int):=by rw[oW,if_neg (by omega),if_neg (by omega),at' _ _ h2,at' _ _ h4];omega
  rw[Kp,hv,cap];rfl
 |minus a b h0 h1 h2 h3 h4=>
  have hv:oW (ts.map λt=>(t.sz:Int)) d=((1+a.sz+b.sz:Nat):Int):=by rw[oW,if_neg (by omega),if_neg (by omega),at' _ _ h2,at' _ _ h4];omega
  rw[Kp,hv,cap];rfl
 |rep a h0 h1 h2 h3=>
  have hn:=CN (a:=(a.sz:Int)) (by omega) h3;obtain⟨v,hv⟩:=Int.eq_ofNat_of_zero_le hn;have hz:oW (ts.map λt=>(t.sz:Int)) d=((v:Nat):Int):=by rw[oW,if_neg (by omega),if_pos h0,at' _ _ h2,hv]
  rw[Kp,hz,cap];show _=((cF (dH a.sz d.m d.n).toNat:Nat):Int);rw[hv];rfl
theorem YL{ar:List Nd}{ts:List RT}(h:AR ar ts):oG ar=ts.map λt=>(t.sz:Int):=by
 induction h with
 |nil=>rfl
 |snoc ha hn ih=>
  unfold oG at ih ⊢;rw[List.foldl_append,ih];simp[akn hn]
theorem nr{c:Int->Int}{N:Int}{rd:Int->Except (Int×Int) (BitVec 256×Int)}(hN:0<=N):match iM c N rd,ku c N rd with
  |.error e,.error e' => e=e'
  |.ok t,.ok (ar,x)=>∃ ts,AR ar ts/\0<=x/\ts[x.toNat]?=some t
  |_,_=>False:=by
 unfold iM ku;by_cases hb:1048576<N
 ·rw[if_pos hb,if_pos hb]
 ·rw [if_neg hb,if_neg hb];have hm:∀ o:Int,o=-1->OD [] o none:=λo h=>by show o<0;omega
  have h1:=Gd (c:=c) (N:=N) (rd:=rd) (N.toNat+1) 0 [] [] (kC (-1)) (gK (-1)) [] [] .nil ⟨rfl,hm _ rfl,hm _ rfl,rfl,hm _ rfl,hm _ rfl⟩ trivial;have e:run c N rd 0 (gK (-1)) []=runN c N rd (N.toNat+1) 0 (gK (-1)) []:=by
   unfold run;rw[Int.sub_zero]
  rw[e];revert h1;cases runN c N rd (N.toNat+1) 0 (gK (-1)) [] with
  |error e=>
   cases rI c N rd (N.toNat+1) 0 [] (kC (-1)) [] with
   |error e' => exact λh=>h
   |ok q=>exact λh=>h.elim
  | ok p=>
   obtain⟨L,Ls⟩:=p;cases rI c N rd (N.toNat+1) 0 [] (kC (-1)) [] with
   |error e' => exact λh=>h.elim
   | ok q=>
    obtain⟨ar,f,r⟩:=q;rintro⟨ts,ha,hf,hr⟩;simp only[py,D5]
    match r,Ls,hr with
    |g::r,M::Ms,hr=>
     rw[if_pos (by simp),if_pos (by simp)];rw[hf.place]
    | [],[],_=>
     rw[if_neg (show ¬ ([]:List Lv)≠[] by simp),if_neg (show ¬ ([]:List Fm)≠[] by simp)];obtain⟨l,a1,f1⟩:=qR ha hf;have h2:=f1.alt;rw[show (rY L).alt=some (iT L) from rfl]at h2;have h3:(oG (aP ar f).1).getD (aP ar f).2.alt.toNat 0=((iT L).sz:Int):=by
      rw[YL a1,List.getD_eq_getElem?_getD,List.getElem?_map,h2.2];rfl
     rw[h3];by_cases hz:2000<(iT L).sz
     ·rw[if_pos hz,if_pos (by omega)]
     ·rw[if_neg hz,if_neg (by omega)];exact⟨_,a1,h2.1,h2.2⟩
end
section
open Go.RowKit Go.LE Go.Proofs.Tryz
set_option maxRecDepth 10000
def s5(l:List Fm):List Value:=l.flatMap Fm.bw
theorem acs(l:List Fm):(s5 l).length=l.length*6:=by
 induction l with
 |nil=>rfl
 |cons d r ih=>
  have:s5 (d::r)=d.bw++s5 r:=rfl;rw[this,List.length_append,ih,List.length_cons];show 6+_=_;omega
def FQ(ar:List Nd)(pre:List Fm)(f:Fm):List AV:=[.row 243 261 ar.length (dC ar),.row 234 6 (pre.length+1) (s5 pre++f.bw)]
theorem s6(ar:List Nd)(d:Nd)(pre:List Fm)(f:Fm):FQ (ar++[d]) pre f=[.row 243 261 (ar.length+1) (dC ar++d.bw),.row 234 6 (pre.length+1) (s5 pre++f.bw)]:=by
 simp[FQ,dC]
theorem eM(pre:List Fm)(f:Fm):List.map SV.v (s5 pre++f.bw)=List.map SV.v (s5 pre)++[.v (.int .i64 f.place),.v (.int .i64 f.alt),.v (.int .i64 f.meet),.v (.int .u8 f.sgn),.v (.int .i64 f.row),.v (.int .i64 f.fac)]:=by
 rw[List.map_append];rfl
section
variable (pre:List Fm)(B:List SV)(d:SV)(j:Nat)
theorem x9:(List.map SV.v (s5 pre)).length=pre.length*6:=by rw[List.length_map,acs]
theorem MA:(List.map SV.v (s5 pre)++B).length=pre.length*6+B.length:=by rw[List.length_append,x9]
theorem FY:(List.map SV.v (s5 pre)++B).getD (pre.length*6+j) d=B.getD j d:=by
 rw[List.getD_eq_getElem?_getD,List.getD_eq_getElem?_getD,<- x9,List.getElem?_append_right oM,Nat.add_sub_cancel_left]
theorem Fq:(List.map SV.v (s5 pre)++B).getD (pre.length*6) d=B.getD 0 d:=FY pre B d 0
theorem yf:List.take (pre.length*6+j) (List.map SV.v (s5 pre)++B)=List.map SV.v (s5 pre)++List.take j B:=by
 rw[<- x9,List.take_length_add_append]
theorem zW:List.take (pre.length*6) (List.map SV.v (s5 pre)++B)=List.map SV.v (s5 pre):=by
 have:=yf pre B 0;simpa using this
theorem tA:List.drop (pre.length*6+j) (List.map SV.v (s5 pre)++B)=List.drop j B:=by
 rw[<- x9,List.drop_length_add_append]
theorem Ay:List.drop (pre.length*6+j+1) (List.map SV.v (s5 pre)++B)=List.drop (j+1) B:=tA pre B (j+1)
theorem uC:List.drop (pre.length*6+1) (List.map SV.v (s5 pre)++B)=List.drop 1 B:=tA pre B 1
end
theorem eN(A:List Value)(B:List SV):dv (List.map SV.v A++B)=(dv B).map (A++·):=by
 induction A with
 |nil=>simp
 |cons x r ih=>simp[dv,ih,Option.map_map,Function.comp_def]
theorem yw(pre:List Fm)(h:pre.length<=2000):IntKind.i64.wrap (((pre.length+1:Nat):Int)-1)=((pre.length:Nat):Int):=by
 rw[ae oM oM];omega
noncomputable def Γ63:Env prog:=⟨λ| 173=>some Iw.spec|_=>none,λ| _=>none,λ_ _=>none⟩
theorem QF:Γ63.sp 173=some Iw.spec:=rfl
def sv:=(aj jo jl gS ca cc b9 cg (aj cf cj cd ck Pv Qh Qo (aj Oj Ok WY Xa Y6 VU P4 (aj QL Oq PI Of Pl O5 PS (aj Qq OX OJ Pt OT Pj Qz (aj Pd OR Yk We Z7 aaz Vv (aj @aG @al @ay @ax @eM @MA @FY (aj @Fq @yf @zW @tA @Ay @uC @List.append_assoc.{0} (mh @eN @H7 @Ji @Wj @XQ @QF)))))))))
theorem nT(ar:List Nd)(pre:List Fm)(f:Fm)(u:Value)(fp:List Nat)(w:World)(hl:ar.length<=4000000)(hp:pre.length<=2000)(ho:bC w u fp 232 (FQ ar pre f))(hlt:∀ b∈fp,b<w.heap.size) :
  Calls prog 121 (#[u]++#[]) w λe w' => gN w u fp 232 e w' (.ret (.tuple #[]) (FQ (aF ar f).1 pre (aF ar f).2)):=by
 have wp:=yw pre hp;refine bh (nt:=47) #[] [] (by show 2<=7;omega) ho hlt func121 rfl rfl rfl ?_;refine kO Γ0 (bQ sv @FQ.eq_1 wp) ?_ ?_
 ·exact⟨⟨_,rfl⟩,oM,oM⟩
 refine Wp.seq ?_;refine wR Γ0 sv ?_ ?_
 ·omega
 refine wC sv (λhc=>?_) (λhc=>?_)
 ·have hf:f.fac<0:=by simpa using hc
  have he:aF ar f=(ar,f):=by rw[aF,if_pos hf]
  rw[he];refine wZ sv ?_;exact⟨_,_,rfl,λE=>rfl,_,_,rfl,(ev (bQ sv @aB @eN)),dE⟩
 ·have hf:¬ f.fac<0:=by simpa using hc
  refine wK ?_;refine Wp.seq ?_;refine vR Γ0 sv ?_;refine wC sv (λhc=>?_) (λhc=>?_)
  ·have hr:f.row<0:=by simpa using hc
   have he:aF ar f=(ar,{ f with row:=f.fac,fac:=-1 }):=by rw[aF,if_neg hf,if_pos hr]
   rw[he];refine wr Γ0 sv ?_ ?_
   ·omega
   refine wr Γ0 sv ?_ ?_
   ·omega
   refine wS sv ?_;exact⟨_,_,rfl,λE=>rfl,_,_,rfl,(ev (bQ sv @aB @eN)),dE⟩
  ·have hr:¬ f.row<0:=by simpa using hc
   have he:aF ar f=(ar++[cm 2 f.row f.fac],{ f with row:=ar.length,fac:=-1 }):=by rw[aF,if_neg hf,if_neg hr]
   rw[he,s6];refine xv Γ63 sv ?_ ?_
   ·refine⟨oM,oM,oM,oM,oM,oM,⟨⟨ar,rfl,rfl,hl⟩,dE,sI⟩,oM,oM,oM⟩
   refine wr Γ0 sv ?_ ?_
   ·omega
   refine wS sv ?_;exact⟨_,_,rfl,λE=>rfl,_,_,rfl,(ev (bQ sv @aB @eN)),dE⟩
def stC(f:FuncId)(g:List Nd->Fm->List Nd×Fm)(hen:∀ args w,(callFunc f args).run prog w=.ok (.enter f args) w)
  (h:∀ (ar:List Nd) (pre:List Fm) (fm:Fm) (u:Value) (fp:List Nat) (w:World),ar.length<=4000000->pre.length<=2000->bC w u fp 232 (FQ ar pre fm)->(∀ b∈fp,b<w.heap.size) ->
   Calls prog f (#[u]++#[]) w λe w' => gN w u fp 232 e w' (.ret (.tuple #[]) (FQ (g ar fm).1 pre (g ar fm).2))) (ar:List Nd) (pre:List Fm) (fm:Fm):ed prog f where
 T:=232
 pre:=λ_ _ fs as_=>(fs=FQ ar pre fm/\as_=[])/\ar.length<=4000000/\pre.length<=2000
 out:=λ_ _ _=>.ret (.tuple #[]) (FQ (g ar fm).1 pre (g ar fm).2)
 enters:=hen
 ok:=by
  intro W w bs u fp us fs as_ hk ho hlt hmine hu hp;obtain⟨⟨rfl,rfl⟩,h1,h2⟩:=hp
  match us,hu with
  |[],_=>exact h ar pre fm u fp w h1 h2 ho hlt
noncomputable def Γ64(ar:List Nd)(pre:List Fm)(f:Fm):Env prog:=⟨λ| 121=>some (stC 121 aF call121 nT ar pre f).spec|173=>some Iw.spec|_=>none,λ_=>none,λ_ _=>none⟩
theorem afz(ar:List Nd)(pre:List Fm)(f:Fm):(Γ64 ar pre f).sp 121=some (stC 121 aF call121 nT ar pre f).spec:=rfl
theorem pO(ar:List Nd)(f:Fm):(aF ar f).1.length<=ar.length+1:=by
 unfold aF;split
 ·simp
 ·split
  ·simp
  ·simp
theorem sR(ar:List Nd)(f:Fm):(kr ar f).1.length<=ar.length+1:=by
 unfold kr;split<;>simp
theorem DB(ar:List Nd)(f:Fm):(ng ar f).1.length<=ar.length+1:=by
 unfold ng;split
 ·simp
 ·split<;>simp
theorem Rs(ar:List Nd)(f:Fm):(gk ar f).1.length<=ar.length+3:=by
 have h1:=pO ar f;have h2:=sR (aF ar f).1 (aF ar f).2;have h3:=DB (kr (aF ar f).1 (aF ar f).2).1 (kr (aF ar f).1 (aF ar f).2).2;unfold gk;omega
theorem vD(l:List Nd)(d:Nd):(l++[d]).length=l.length+1:=by simp
theorem Rg(l:List Nd)(d:Nd):dC (l++[d])=dC l++d.bw:=by simp[dC]
def kT:=(aj jo jl gS ca cc b9 cg (aj cf cj cd ck fu fE fj (aj fz fw Pv Qh Qo Oj Ok (aj WY Xa Y6 VU P4 QL Oq (aj PI Of Pl O5 PS Qq OX (aj OJ Pt OT Pj Qz Pd OR (aj Yk We Z7 aaz Vv @aG @al (aj @ay @ax @eM @MA @FY @Fq @yf (aj @zW @tA @Ay @uC @List.append_assoc.{0} @eN @H7 (uv @Ji @Wj @XQ @QF @stC.eq_1 @FQ.eq_1 @afz))))))))))
theorem XF(ar:List Nd)(pre:List Fm)(f:Fm)(u:Value)(fp:List Nat)(w:World)(hl:ar.length<=3999990)(hp:pre.length<=2000)(ho:bC w u fp 232 (FQ ar pre f))(hlt:∀ b∈fp,b<w.heap.size) :
  Calls prog 120 (#[u]++#[]) w λe w' => gN w u fp 232 e w' (.ret (.tuple #[]) (FQ (gk ar f).1 pre (gk ar f).2)):=by
 have wp:=yw pre hp;have l1:=pO ar f;have l2:=sR (aF ar f).1 (aF ar f).2;refine bh (nt:=72) #[] [] (by show 2<=7;omega) ho hlt func120 rfl rfl rfl ?_;refine wR (Γ64 ar pre f) kT ?_ ?_
 ·exact⟨⟨rfl,oM,hp⟩,dE,sI⟩
 have hfo:gk ar f=ng (kr (aF ar f).1 (aF ar f).2).1 (kr (aF ar f).1 (aF ar f).2).2:=rfl;rw[hfo];generalize (aF ar f).2=f1 at *;generalize (aF ar f).1=ar1 at *;refine kO Γ0 (aa kT wp) ?_ ?_
 ·exact⟨⟨_,rfl⟩,oM,oM⟩
 refine aW ⟨40,bm [(0,.is (.own 0 0)),(2,.is (.own 17 (pre.length*6)))],aY [(0,.cells 232 [.hd 3,.hd 17]),(3,.row 243 261 (kr ar1 f1).1.length ((dC (kr ar1 f1).1).map .v)),(17,.row 234 6 (pre.length+1) ((s5 pre++(kr ar1 f1).2.bw).map .v))]⟩ ?_ ?_
 ·skip;refine wR Γ0 kT ?_ ?_
  ·omega
  refine wC kT (λhc=>?_) (λhc=>?_)
  ·have hr:f1.row<0:=by simpa using hc
   have he:kr ar1 f1=(ar1++[cm 0 0 0],{ f1 with row:=ar1.length }):=by rw[kr,if_pos hr]
   rw[he];refine wr Γ63 kT ?_ ?_
   ·exact⟨⟨⟨ar1,rfl,rfl,oM⟩,dE,sI⟩,oM,oM,oM⟩
   exact wM (λx=>if x=3 then .key 176 else .key x) (mh kT @Fm.bw.eq_1 @vD @Rg @List.map_append.{0,0} @cl)
  ·have hr:¬ f1.row<0:=by simpa using hc
   have he:kr ar1 f1=(ar1,f1):=by rw[kr,if_neg hr]
   rw[he];refine wK ?_;exact wM (λx=>if x=3 then .key 16 else .key x) (aa kT @cl)
 generalize (kr ar1 f1).2=f2 at *;generalize (kr ar1 f1).1=ar2 at *;refine Wp.seq ?_;refine wR Γ0 kT ?_ ?_
 ·omega
 refine wC kT (λhc=>?_) (λhc=>?_)
 ·have hm:f2.meet<0:=by simpa using hc
  have he:ng ar2 f2=(ar2,{ f2 with meet:=f2.row,row:=-1 }):=by rw[ng,if_pos hm]
  rw[he];refine wr Γ0 kT ?_ ?_
  ·omega
  refine wr Γ0 kT ?_ ?_
  ·omega
  refine wS kT ?_;exact⟨_,_,rfl,λE=>rfl,_,_,rfl,(ev (bQ kT @aB @eN)),dE⟩
 ·have hm:¬ f2.meet<0:=by simpa using hc
  refine wR Γ0 kT ?_ ?_
  ·omega
  refine wC kT (λhc=>?_) (λhc=>?_)
  ·have hs:f2.sgn=38:=by simpa using hc
   have he:ng ar2 f2=(ar2++[cm 5 f2.meet f2.row],{ f2 with meet:=ar2.length,row:=-1 }):=by rw[ng,if_neg hm,if_pos hs]
   rw[he,s6];refine xv Γ63 kT ?_ ?_
   ·exact⟨oM,oM,oM,oM,oM,oM,⟨⟨ar2,rfl,rfl,oM⟩,dE,sI⟩,oM,oM,oM⟩
   refine wr Γ0 kT ?_ ?_
   ·omega
   refine wS kT ?_;exact⟨_,_,rfl,λE=>rfl,_,_,rfl,(ev (bQ kT @aB @eN)),dE⟩
  ·have hs:¬ f2.sgn=38:=by simpa using hc
   have he:ng ar2 f2=(ar2++[cm 6 f2.meet f2.row],{ f2 with meet:=ar2.length,row:=-1 }):=by rw[ng,if_neg hm,if_neg hs]
   rw[he,s6];refine xv Γ63 kT ?_ ?_
   ·exact⟨oM,oM,oM,oM,oM,oM,⟨⟨ar2,rfl,rfl,oM⟩,dE,sI⟩,oM,oM,oM⟩
   refine wr Γ0 kT ?_ ?_
   ·omega
   refine wS kT ?_;exact⟨_,_,rfl,λE=>rfl,_,_,rfl,(ev (bQ kT @aB @eN)),dE⟩
def DV(ar:List Nd)(pre:List Fm)(fm:Fm):ed prog 120 where
 T:=232
 pre:=λ_ _ fs as_=>(fs=FQ ar pre fm/\as_=[])/\ar.length<=3999990/\pre.length<=2000
 out:=λ_ _ _=>.ret (.tuple #[]) (FQ (gk ar fm).1 pre (gk ar fm).2)
 enters:=call120
 ok:=by
  intro W w bs u fp us fs as_ hk ho hlt hmine hu hp;obtain⟨⟨rfl,rfl⟩,h1,h2⟩:=hp
  match us,hu with
  |[],_=>exact XF ar pre fm u fp w h1 h2 ho hlt
noncomputable def Γ65(ar:List Nd)(pre:List Fm)(f:Fm):Env prog:=⟨λ| 120=>some (DV ar pre f).spec|173=>some Iw.spec|_=>none,λ_=>none,λ_ _=>none⟩
theorem afU(ar:List Nd)(pre:List Fm)(f:Fm):(Γ65 ar pre f).sp 120=some (DV ar pre f).spec:=rfl
def xy:=(bQ kT @afU @DV.eq_1)
theorem Ui(ar:List Nd)(pre:List Fm)(f:Fm)(u:Value)(fp:List Nat)(w:World)(hl:ar.length<=3999980)(hp:pre.length<=2000)(ho:bC w u fp 232 (FQ ar pre f))(hlt:∀ b∈fp,b<w.heap.size) :
  Calls prog 119 (#[u]++#[]) w λe w' => gN w u fp 232 e w' (.ret (.tuple #[]) (FQ (aP ar f).1 pre (aP ar f).2)):=by
 have wp:=yw pre hp;have l1:=Rs ar f;refine bh (nt:=44) #[] [] (by show 2<=7;omega) ho hlt func119 rfl rfl rfl ?_;refine wR (Γ65 ar pre f) xy ?_ ?_
 ·exact⟨⟨rfl,oM,hp⟩,dE,sI⟩
 have hfo:aP ar f=vZ (gk ar f).1 (gk ar f).2:=rfl;rw[hfo];generalize (gk ar f).2=f1 at *;generalize (gk ar f).1=ar1 at *;refine kO Γ0 (aa xy wp) ?_ ?_
 ·exact⟨⟨_,rfl⟩,oM,oM⟩
 refine Wp.seq ?_;refine wR Γ0 xy ?_ ?_
 ·omega
 refine wC xy (λhc=>?_) (λhc=>?_)
 ·have hm:f1.alt<0:=by simpa using hc
  have he:vZ ar1 f1=(ar1,{ f1 with alt:=f1.meet,meet:=-1 }):=by rw[vZ,if_pos hm]
  rw[he];refine wr Γ0 xy ?_ ?_
  ·omega
  refine wr Γ0 xy ?_ ?_
  ·omega
  refine wS xy ?_;exact⟨_,_,rfl,λE=>rfl,_,_,rfl,(ev (bQ xy @aB @eN)),dE⟩
 ·have hm:¬ f1.alt<0:=by simpa using hc
  have he:vZ ar1 f1=(ar1++[cm 3 f1.alt f1.meet],{ f1 with alt:=ar1.length,meet:=-1 }):=by rw[vZ,if_neg hm]
  rw[he,s6];refine xv Γ63 xy ?_ ?_
  ·exact⟨oM,oM,oM,oM,oM,oM,⟨⟨ar1,rfl,rfl,oM⟩,dE,sI⟩,oM,oM,oM⟩
  refine wr Γ0 xy ?_ ?_
  ·omega
  refine wS xy ?_;exact⟨_,_,rfl,λE=>rfl,_,_,rfl,(ev (bQ xy @aB @eN)),dE⟩
def L5(ar:List Nd)(pre:List Fm)(fm:Fm):ed prog 119 where
 T:=232
 pre:=λ_ _ fs as_=>(fs=FQ ar pre fm/\as_=[])/\ar.length<=3999980/\pre.length<=2000
 out:=λ_ _ _=>.ret (.tuple #[]) (FQ (aP ar fm).1 pre (aP ar fm).2)
 enters:=call119
 ok:=by
  intro W w bs u fp us fs as_ hk ho hlt hmine hu hp;obtain⟨⟨rfl,rfl⟩,h1,h2⟩:=hp
  match us,hu with
  |[],_=>exact Ui ar pre fm u fp w h1 h2 ho hlt
noncomputable def Γ66:Env prog:=⟨λ| 172=>some El.spec|_=>none,λ| _=>none,λ_ _=>none⟩
theorem acM:Γ66.sp 172=some El.spec:=rfl
def YC:Except (Int×Int) (Int×Int×Int)->Value
 |.error (c,j)=>.tuple #[.int .i64 0,.int .i64 0,.int .i64 0,.int .i64 c,.int .i64 j]
 |.ok (m,n,j)=>.tuple #[.int .i64 m,.int .i64 n,.int .i64 j,.int .i64 0,.int .i64 0]
theorem mO(s:ByteArray)(i:Int):xI s i=true ↔ (i<s.size/\48<=bt s i/\bt s i<=57):=by simp[xI,and_assoc]
theorem PQ(s:ByteArray)(i:Int)(h:xI s i=false):iK (bt s) s.size i=.error (20,i):=by
 have h' : ¬ xI s i=true:=by simp[h]
 rw[mO]at h';rw[iK,jW,if_neg h',if_pos rfl]
theorem JZ(s:ByteArray)(i:Int)(h:xI s i=true):iK (bt s) s.size i=.ok (jW (bt s) s.size 3 0 i):=by
 rw[mO]at h;have h2:=(Qc (c:=bt s) (N:=s.size) 2 (10*0+(bt s i-48)) (i+1)).1;rw[iK,if_neg];rw[jW,if_pos h];omega
def okB(s:ByteArray)(i:Int)(p:Int×Int×Int×Int):Prop:=
 (p.1=0/\p.2.1=0/\p.2.2.1=0/\p.2.2.2=i+1) \/
 (p.1=1/\p.2.2.1=0/\(0<=p.2.1/\p.2.1<=999)/\(i<p.2.2.2/\p.2.2.2<=s.size)/\iK (bt s) s.size (i+1)=.ok (p.2.1,p.2.2.2-1)/\Br (bt s) s.size p.2.1 (p.2.2.2-1)=iK (bt s) s.size p.2.2.2) \/
 (p.1=2/\(0<=p.2.1/\p.2.1<=999)/\(-1<=p.2.2.1/\p.2.2.1<=999)/\(i<p.2.2.2/\p.2.2.2<=s.size)/\∃ l,iK (bt s) s.size (i+1)=.ok (p.2.1,l)/\Br (bt s) s.size p.2.1 l=.ok (p.2.2.1,p.2.2.2))
def leB(s:ByteArray)(i:Int)(p:Int×Int×Int×Int):Prop:=
 (p.1=1/\p.2.2.1=0/\(0<=p.2.1/\p.2.1<=999)/\(i<p.2.2.2/\p.2.2.2<=s.size)/\iK (bt s) s.size (i+1)=.ok (p.2.1,p.2.2.2)/\Br (bt s) s.size p.2.1 p.2.2.2=.ok (p.2.1,p.2.2.2)) \/
 (p.1=2/\(0<=p.2.1/\p.2.1<=999)/\(-1<=p.2.2.1/\p.2.2.1<=999)/\(i<p.2.2.2/\p.2.2.2<=s.size)/\∃ l,iK (bt s) s.size (i+1)=.ok (p.2.1,l)/\Br (bt s) s.size p.2.1 l=.ok (p.2.2.1,p.2.2.2))
def bX:=(aj jo jl gS ca cc b9 cg (aj cf cj cd ck fu fE fj (aj fz fw dc dh cZ db c8 (aj dd alC alA alY alq @aG @al (oy @ay @ax @yJ @zC acM)))))
theorem HY(s:ByteArray)(i:Int)(h0:0<=i)(hi:i<s.size)(hs:s.size<=140737488351232)(w:World):Calls prog 118 #[.string s,.int .i64 i] w λe w' => e=.returned (YC (oq (bt s) s.size i))/\ah w [] w' := by
 refine af (nt:=117) [.tmp 4,.tmp 5,.tmp 6,.tmp 7,.tmp 8] func118 rfl rfl rfl ?_;have w1:IntKind.i64.wrap (i+1)=i+1:=ae oM oM;have wl1:IntKind.i64.wrap (0+1)=1:=rfl;have wl2:IntKind.i64.wrap (1+1)=2:=rfl;refine vR Γ0 bX ?_;refine vR Γ0 (aa bX w1) ?_;refine vR Γ0 bX ?_;refine vR Γ0 bX ?_
 refine kK (λp:Int×Int×Int×Int=>⟨200,bm [(0,.is (.v (.string s))),(1,.is (.v (.int .i64 i))),(9,.is (.v (.int .i64 p.2.2.2))),(10,.is (.own 64 0)),(11,.is (.v (.int .i64 p.1)))],aY [(64,.cells 298 [.v (.int .i64 p.2.1),.v (.int .i64 p.2.2.1)])]⟩) (λ_=>w) (λ_=>[]) (leB s i) ?_ ?_
 ·refine Wp.block ?_;refine Wp.loop (λp:Int×Int×Int×Int=>⟨30,bm [(0,.is (.v (.string s))),(1,.is (.v (.int .i64 i))),(9,.is (.v (.int .i64 p.2.2.2))),(10,.is (.own 64 0)),(11,.is (.v (.int .i64 p.1)))],aY [(64,.cells 298 [.v (.int .i64 p.2.1),.v (.int .i64 p.2.2.1)])]⟩)
   (okB s i) (λp=>(2-p.1).toNat) (0,0,0,i+1) ?_ (.inl ⟨rfl,rfl,rfl,rfl⟩) ?_
  ·exact wM (λk=>.key k) bX
  rintro⟨p,m,n,j⟩ (⟨hp,hm,hn,hj⟩|⟨hp,hn,hm,hj,hN,hU⟩|⟨hp,hm,hn,hj,l,hN,hU⟩)
  ·simp only at hp hm hn hj;subst hp hn hm hj;have hjj:i<i+1/\i+1<=s.size:=oM;generalize hj:i+1=j at *;refine Wp.seq ?_;refine vR Γ0 bX ?_;refine wC bX (λhc=>?_) (λhc=>?_)
   rotate_left
   ·exfalso;simp at hc
   refine wK ?_;refine Wp.block ?_;refine Wp.seq ?_;refine wR Γ66 bX ?_ ?_
   ·omega
   refine wC bX (λhc=>?_) (λhc=>?_)
   ·have hd:xI s j=false:=by simpa using hc
    have he:oq (bt s) s.size i=.error (20,j):=by
     rw[oq,hj,PQ s j hd]
    rw[he];refine vR Γ0 bX ?_;refine wZ bX ?_;exact λE=>rfl
   have hd:xI s j=true:=by simpa using hc
   have hE:=JZ s j hd;refine wK ?_;generalize hR:jW (bt s) s.size 3 0 j=R at *
   refine kK (λq:Int×Int=>⟨200,bm [(0,.is (.v (.string s))),(1,.is (.v (.int .i64 i))),(9,.is (.v (.int .i64 q.2))),(10,.is (.own 64 0)),(11,.is (.v (.int .i64 0)))],aY [(64,.cells 298 [.v (.int .i64 q.1),.v (.int .i64 0)])]⟩) (λ_=>w) (λ_=>[]) (λq=>R=q/\(0<=q.1/\q.1<=999)/\(j<=q.2/\q.2<=s.size)) ?_ ?_
   ·skip;refine vR Γ0 bX ?_;refine Wp.block ?_
    refine Wp.loop (λq:Nat×Int=>⟨70,bm [(0,.is (.v (.string s))),(1,.is (.v (.int .i64 i))),(9,.is (.v (.int .i64 (j+(3-(q.1:Nat)))))),(10,.is (.own 64 0)),(11,.is (.v (.int .i64 0))),(12,.is (.v (.int .i64 (3-(q.1:Nat)))))],aY [(64,.cells 298 [.v (.int .i64 q.2),.v (.int .i64 0)])]⟩)
     (λq=>q.1<=3/\(0<=q.2/\q.2<=bd q.1)/\j+(3-(q.1:Nat))<=s.size/\jW (bt s) s.size q.1 q.2 (j+(3-(q.1:Nat)))=R) (λq=>q.1) (3,0) ?_ ⟨sI,by simp[bd],by simp only;omega,by simpa using hR⟩ ?_
    ·exact wM (λk=>.key k) (eT bX @Int.sub_self @Int.add_zero (show (3:Int)-((3:Nat):Int)=0 from rfl))
    rintro⟨k,x⟩ ⟨hk,⟨hx0,hx1⟩,hi',hR'⟩;simp only at hk hx0 hx1 hi' hR';have hbd:=Px k;refine Wp.seq ?_;refine wR Γ66 bX ?_ ?_
    ·exact λ_=>by omega
    refine wC bX (λhc=>?_) (λhc=>?_)
    ·simp only[Bool.and_eq_true,decide_eq_true_eq,mO]at hc;obtain⟨h1,h2⟩:=hc;obtain⟨k,rfl⟩:∃ j,k=j+1:=⟨k-1,oM⟩;rw[jW,if_pos h2]at hR';obtain⟨h2,h3,h4⟩:=h2;have hst:=yc hk;generalize hat:j+(3-((k+1:Nat):Int))=at_ at *;have wa:IntKind.i64.wrap (10*x)=10*x:=ae oM oM
     have wb:IntKind.u8.wrap (bt s at_-48)=bt s at_-48:=eS oM oM;have wc:IntKind.i64.wrap (bt s at_-48)=bt s at_-48:=ae oM oM;have wd:IntKind.i64.wrap (10*x+(bt s at_-48))=10*x+(bt s at_-48):=ae oM oM;have we:IntKind.i64.wrap (at_+1)=j+(3-((k:Nat):Int)):=wW
     have wf:IntKind.i64.wrap (3-((k+1:Nat):Int)+1)=3-((k:Nat):Int):=wW;refine wK ?_;refine Wp.seq (Wp.block ?_);refine kO Γ0 (oy bX wa wb wc wd) ?_ ?_
     ·exact⟨oM,oM⟩
     refine vr Γ0 (aa bX we) ?_;refine vr Γ0 (aa bX wf) ?_;refine⟨(k,10*x+(bt s at_-48)),⟨by simp only;omega,⟨by simp only;omega,by simp only;omega⟩,by simp only;omega,by simp only;rw[show j+(3-(k:Int))=at_+1 by omega];exact hR'⟩,by simp only;omega,?_⟩;exact wM (λk=>.key k) bX
    ·have hst:¬ (3-(k:Int)<3/\(j+(3-(k:Int))<s.size/\48<=bt s (j+(3-(k:Int)))/\bt s (j+(3-(k:Int)))<=57)):=λh=>by
      apply Bool.eq_false_iff.1 hc;simp only[Bool.and_eq_true,decide_eq_true_eq,mO];exact h
     have hRe:R=(x,j+(3-(k:Int))):=by
      rw[<- hR'];cases k with
      |zero=>rfl
      |succ k=>exact uO _ _ _ _ _ (λh=>hst ⟨oM,h⟩)
     refine wE ?_;refine⟨(x,j+(3-(k:Int))),⟨hRe,⟨hx0,by simp only;omega⟩,by simp only;omega,hi'⟩,rfl,rfl,?_⟩;exact wM (λk=>.key k) bX
   rintro⟨x,l⟩ ⟨hRe,hx,hl⟩ -;simp only at hRe hx hl;rw[hRe]at hE;subst hRe;clear hR;dsimp only;refine vR Γ0 (bQ bX wl1 wl2) ?_;refine Wp.seq ?_;refine wR Γ0 bX ?_ ?_
   ·exact λh=>by simp only[Bool.not_eq_true',Bool.or_eq_false_iff,decide_eq_false_iff_not]at h;omega
   refine wC bX (λhc=>?_) (λhc=>?_)
   ·have h44:¬ (l<s.size/\bt s l=44):=by
     simp only[Bool.or_eq_true,decide_eq_true_eq,Bool.not_eq_true',decide_eq_false_iff_not]at hc;omega
    refine wE ?_;refine⟨(1,x,0,l),.inl ⟨rfl,rfl,hx,⟨by simp only;omega,by simp only;omega⟩,by rw[hj];exact hE,by rw[Br,if_neg h44]⟩,rfl,rfl,?_⟩;exact wM (λk=>.key k) bX
   have h44:l<s.size/\bt s l=44:=by
    simp only[Bool.or_eq_false_iff,decide_eq_false_iff_not,Bool.not_eq_false',decide_eq_true_eq]at hc;omega
   have wl:IntKind.i64.wrap (l+1)=l+1:=ae oM oM;refine wK ?_;refine vR Γ0 (aa bX wl) ?_;refine wR Γ0 bX ?_ ?_
   ·first|exact λh=>by omega|exact λh=>by (simp at h;omega)
   refine wC bX (λhc=>?_) (λhc=>?_)
   ·have h125:¬ (¬ l+1<s.size\/bt s (l+1)≠125):=by
     simp only[Bool.and_eq_true,decide_eq_true_eq]at hc;omega
    refine vR Γ0 bX ?_;refine vr Γ0 bX ?_;refine⟨(2,x,-1,l+1),.inr (.inr ⟨rfl,hx,by simp only;omega,⟨by simp only;omega,by simp only;omega⟩,l,by rw[hj];exact hE,by rw[Br,if_pos h44,if_neg h125]⟩),sI,?_⟩;exact wM (λk=>.key k) bX
   ·have h125:¬ l+1<s.size\/bt s (l+1)≠125:=by
     simp only[Bool.and_eq_false_iff,decide_eq_false_iff_not]at hc;omega
    refine wK ?_;refine⟨(1,x,0,l+1),.inr (.inl ⟨rfl,rfl,hx,⟨by simp only;omega,by simp only;omega⟩,by rw[hj];show iK _ _ _=.ok (x,l+1-1);rw[Int.add_sub_cancel];exact hE,by show Br _ _ x (l+1-1)=_;rw[Int.add_sub_cancel,Br,if_pos h44,if_pos h125]⟩),sI,?_⟩;exact wM (λk=>.key k) bX
  ·simp only at hp hm hn hj hN hU;subst hp hn;have hjj:=hj;refine Wp.seq ?_;refine vR Γ0 bX ?_;refine wC bX (λhc=>?_) (λhc=>?_)
   rotate_left
   ·exfalso;simp at hc
   refine wK ?_;refine Wp.block ?_;refine Wp.seq ?_;refine wR Γ66 bX ?_ ?_
   ·omega
   refine wC bX (λhc=>?_) (λhc=>?_)
   ·have hd:xI s j=false:=by simpa using hc
    have he:oq (bt s) s.size i=.error (20,j):=by
     rw[oq,hN];simp only[hU,PQ s j hd]
    rw[he];refine vR Γ0 bX ?_;refine wZ bX ?_;exact λE=>rfl
   have hd:xI s j=true:=by simpa using hc
   have hE:=JZ s j hd;refine wK ?_;generalize hR:jW (bt s) s.size 3 0 j=R at *
   refine kK (λq:Int×Int=>⟨200,bm [(0,.is (.v (.string s))),(1,.is (.v (.int .i64 i))),(9,.is (.v (.int .i64 q.2))),(10,.is (.own 64 0)),(11,.is (.v (.int .i64 1)))],aY [(64,.cells 298 [.v (.int .i64 m),.v (.int .i64 q.1)])]⟩) (λ_=>w) (λ_=>[]) (λq=>R=q/\(0<=q.1/\q.1<=999)/\(j<=q.2/\q.2<=s.size)) ?_ ?_
   ·skip;refine vR Γ0 bX ?_;refine Wp.block ?_
    refine Wp.loop (λq:Nat×Int=>⟨70,bm [(0,.is (.v (.string s))),(1,.is (.v (.int .i64 i))),(9,.is (.v (.int .i64 (j+(3-(q.1:Nat)))))),(10,.is (.own 64 0)),(11,.is (.v (.int .i64 1))),(12,.is (.v (.int .i64 (3-(q.1:Nat)))))],aY [(64,.cells 298 [.v (.int .i64 m),.v (.int .i64 q.2)])]⟩)
     (λq=>q.1<=3/\(0<=q.2/\q.2<=bd q.1)/\j+(3-(q.1:Nat))<=s.size/\jW (bt s) s.size q.1 q.2 (j+(3-(q.1:Nat)))=R) (λq=>q.1) (3,0) ?_ ⟨sI,by simp[bd],by simp only;omega,by simpa using hR⟩ ?_
    ·exact wM (λk=>.key k) (eT bX @Int.sub_self @Int.add_zero (show (3:Int)-((3:Nat):Int)=0 from rfl))
    rintro⟨k,x⟩ ⟨hk,⟨hx0,hx1⟩,hi',hR'⟩;simp only at hk hx0 hx1 hi' hR';have hbd:=Px k;refine Wp.seq ?_;refine wR Γ66 bX ?_ ?_
    ·exact λ_=>by omega
    refine wC bX (λhc=>?_) (λhc=>?_)
    ·simp only[Bool.and_eq_true,decide_eq_true_eq,mO]at hc;obtain⟨h1,h2⟩:=hc;obtain⟨k,rfl⟩:∃ j,k=j+1:=⟨k-1,oM⟩;rw[jW,if_pos h2]at hR';obtain⟨h2,h3,h4⟩:=h2;have hst:=yc hk;generalize hat:j+(3-((k+1:Nat):Int))=at_ at *;have wa:IntKind.i64.wrap (10*x)=10*x:=ae oM oM
     have wb:IntKind.u8.wrap (bt s at_-48)=bt s at_-48:=eS oM oM;have wc:IntKind.i64.wrap (bt s at_-48)=bt s at_-48:=ae oM oM;have wd:IntKind.i64.wrap (10*x+(bt s at_-48))=10*x+(bt s at_-48):=ae oM oM;have we:IntKind.i64.wrap (at_+1)=j+(3-((k:Nat):Int)):=wW
     have wf:IntKind.i64.wrap (3-((k+1:Nat):Int)+1)=3-((k:Nat):Int):=wW;refine wK ?_;refine Wp.seq (Wp.block ?_);refine kO Γ0 (oy bX wa wb wc wd) ?_ ?_
     ·exact⟨oM,oM⟩
     refine vr Γ0 (aa bX we) ?_;refine vr Γ0 (aa bX wf) ?_;refine⟨(k,10*x+(bt s at_-48)),⟨by simp only;omega,⟨by simp only;omega,by simp only;omega⟩,by simp only;omega,by simp only;rw[show j+(3-(k:Int))=at_+1 by omega];exact hR'⟩,by simp only;omega,?_⟩;exact wM (λk=>.key k) bX
    ·have hst:¬ (3-(k:Int)<3/\(j+(3-(k:Int))<s.size/\48<=bt s (j+(3-(k:Int)))/\bt s (j+(3-(k:Int)))<=57)):=λh=>by
      apply Bool.eq_false_iff.1 hc;simp only[Bool.and_eq_true,decide_eq_true_eq,mO];exact h
     have hRe:R=(x,j+(3-(k:Int))):=by
      rw[<- hR'];cases k with
      |zero=>rfl
      |succ k=>exact uO _ _ _ _ _ (λh=>hst ⟨oM,h⟩)
     refine wE ?_;refine⟨(x,j+(3-(k:Int))),⟨hRe,⟨hx0,by simp only;omega⟩,by simp only;omega,hi'⟩,rfl,rfl,?_⟩;exact wM (λk=>.key k) bX
   rintro⟨x,l⟩ ⟨hRe,hx,hl⟩ -;simp only at hRe hx hl;rw[hRe]at hE;subst hRe;clear hR;dsimp only;refine vR Γ0 (bQ bX wl1 wl2) ?_;refine Wp.seq ?_;refine wR Γ0 bX ?_ ?_
   ·first|trivial|exact λh=>by simp at h|(trace_state;omega)
   refine wC bX (λhc=>?_) (λhc=>?_)
   rotate_left
   ·exfalso;simp at hc
   refine wE ?_;refine⟨(2,m,x,l),.inr ⟨rfl,hm,by simp only;omega,⟨by simp only;omega,by simp only;omega⟩,j-1,hN,by rw[hU,hE]⟩,rfl,rfl,?_⟩;exact wM (λk=>.key k) bX
  ·simp only at hp hm hn hj hN hU;subst hp;refine Wp.seq ?_;refine vR Γ0 bX ?_;refine wC bX (λhc=>?_) (λhc=>?_)
   ·exfalso;simp at hc
   refine wE ?_;refine⟨(2,m,n,j),.inr ⟨rfl,hm,hn,hj,l,hN,hU⟩,rfl,rfl,?_⟩;exact wM (λk=>.key k) bX
 have fin:∀ m n j:Int,(0<=m/\m<=999)->(-1<=n/\n<=999)->(i<j/\j<=s.size)->oq (bt s) s.size i=mU (bt s) s.size m n j i ->
   ∃ m' n' : Int,True:=λm n j _ _ _ _=>⟨m,n,trivial⟩
 refine λp hp _=>kK (λp:Int×Int×Int=>⟨300,bm [(0,.is (.v (.string s))),(1,.is (.v (.int .i64 i))),(9,.is (.v (.int .i64 p.2.2))),(10,.is (.own 64 0))],aY [(64,.cells 298 [.v (.int .i64 p.1),.v (.int .i64 p.2.1)])]⟩) (λ_=>w) (λ_=>[])
  (λp=>(0<=p.1/\p.1<=999)/\(-1<=p.2.1/\p.2.1<=999)/\(i<p.2.2/\p.2.2<=s.size)/\oq (bt s) s.size i=mU (bt s) s.size p.1 p.2.1 p.2.2 i) ?_ ?_
 ·obtain⟨p,m,n,j⟩:=p;rcases hp with ⟨hp,hn,hm,hj,hN,hU⟩|⟨hp,hm,hn,hj,l,hN,hU⟩
  ·simp only at hp hn hm hj hN hU;subst hp hn;dsimp only;refine vR Γ0 bX ?_;refine wC bX (λhc=>?_) (λhc=>?_)
   rotate_left
   ·exfalso;simp at hc
   refine vr Γ0 bX ?_;refine⟨(m,m,j),⟨hm,by simp only;omega,hj,by rw[oq,hN];simp only[hU]⟩,rfl,rfl,?_⟩;exact wM (λk=>.key k) bX
  ·simp only at hp hn hm hj hN hU;subst hp;dsimp only;refine vR Γ0 bX ?_;refine wC bX (λhc=>?_) (λhc=>?_)
   ·exfalso;simp at hc
   refine wK ?_;refine⟨(m,n,j),⟨hm,hn,hj,by rw[oq,hN];simp only[hU]⟩,rfl,rfl,?_⟩;exact wM (λk=>.key k) bX
 rintro⟨m,n,j⟩ ⟨hm,hn,hj,he⟩ -;simp only at hm hn hj he;rw[he];dsimp only;refine Wp.seq ?_;refine wR Γ0 bX ?_ ?_
 ·exact λh=>by simp only[Bool.not_eq_true',Bool.or_eq_false_iff,decide_eq_false_iff_not]at h;omega
 refine wC bX (λhc=>?_) (λhc=>?_)
 ·have h125:¬ j<s.size\/bt s j≠125:=by
   simp only[Bool.or_eq_true,decide_eq_true_eq,Bool.not_eq_true',decide_eq_false_iff_not]at hc;omega
  rw[mU,if_pos h125];refine vR Γ0 bX ?_;refine wZ bX ?_;exact λE=>rfl
 have h125:¬ (¬ j<s.size\/bt s j≠125):=by
  simp only[Bool.or_eq_false_iff,decide_eq_false_iff_not,Bool.not_eq_false',decide_eq_true_eq]at hc;omega
 refine wK ?_;refine Wp.seq ?_;refine vR Γ0 bX ?_;refine wC bX (λhc=>?_) (λhc=>?_)
 ·have hb:255<m\/255<n\/(0<=n/\n<m):=by
   simp only[Bool.or_eq_true,Bool.and_eq_true,decide_eq_true_eq]at hc;omega
  rw[mU,if_neg h125,if_pos hb];refine vR Γ0 bX ?_;refine wZ bX ?_;exact λE=>rfl
 have hb:¬ (255<m\/255<n\/(0<=n/\n<m)):=by
  intro hb;apply Bool.eq_false_iff.1 hc;simp only[Bool.or_eq_true,Bool.and_eq_true,decide_eq_true_eq];omega
 rw[mU,if_neg h125,if_neg hb];refine wK ?_;have wj:IntKind.i64.wrap (j+1)=j+1:=ae oM oM;refine Qr Γ0 (aa bX wj) ?_;refine wZ bX ?_;exact λE=>rfl
def sL:aM prog 118 where
 pre:=λW bs=>λ| [.val (.string s),.val (.int .i64 i)]=>0<=i/\i<s.size/\s.size<=140737488351232|_=>False
 res:=λW=>λ| [.val (.string s),.val (.int .i64 i)]=>YC (oq (bt s) s.size i)|_=>undef
 enters:=call118
 ok:=by
  intro W w bs us as_ hk hu hp;split at hp
  ·rename_i s i
   match us,hu with
   |[u0,u1],hu=>
    obtain⟨rfl,rfl,_⟩:=hu;exact HY s i hp.1 hp.2.1 hp.2.2 w
  ·exact hp.elim
theorem FI(W:World)(s:ByteArray)(i:Int):sL.res W [.val (.string s),.val (.int .i64 i)]=YC (oq (bt s) s.size i):=rfl
theorem Gi(W:World)(bs:List Nat)(s:ByteArray)(i:Int):sL.pre W bs [.val (.string s),.val (.int .i64 i)]=(0<=i/\i<s.size/\s.size<=140737488351232):=rfl
theorem L9{x y p q:Int}(h0:0<=x)(h1:x<=p)(h2:0<=y)(h3:y<=q):0<=x*y/\x*y<=p*q:=
 ⟨Int.mul_nonneg h0 h2,Int.mul_le_mul h1 h3 h2 oM⟩
def l4:=(aj gS ca cc b9 cg cf cj (mh cd ck @aG @al @ay @ax))
theorem LP(a m n:Int)(h0:0<=a)(h1:a<=2001)(hmn:uz m n)(w:World):Calls prog 175 #[.int .i64 a,.int .i64 m,.int .i64 n] w λe w' => e=.returned (.int .i64 (dH a m n))/\ah w [] w' := by
 refine af (nt:=59) [.tmp 6] func175 rfl rfl rfl ?_;unfold uz at hmn;refine vR Γ0 l4 ?_;refine Wp.seq ?_;refine vR Γ0 l4 ?_;refine wC l4 (λhc=>?_) (λhc=>?_)
 ·have hm:m=-2:=by simpa using hc
  have e1:IntKind.i64.wrap (a+1)=a+1:=ae oM oM;have e2:IntKind.i64.wrap (a+1+a)=a+1+a:=ae oM oM;have e3:IntKind.i64.wrap (a+1+a+1)=a+1+a+1:=ae oM oM;rw[dH,if_pos hm];refine vR Γ0 (eT l4 e1 e2 e3) ?_;refine wZ l4 ?_;exact λE=>rfl
 have hm:¬ m=-2:=by simpa using hc
 have hm0:0<=m/\m<=255/\n<=255:=oM;have hma:=L9 hm0.1 hm0.2.1 h0 h1;rw[dH,if_neg hm];refine wK ?_;refine Wp.seq ?_;refine vR Γ0 l4 ?_;refine wC l4 (λhc=>?_) (λhc=>?_)
 ·have h2:n<0/\m=0:=by simpa using hc
  have e1:IntKind.i64.wrap (a+1)=a+1:=ae oM oM;rw[if_pos h2];refine vR Γ0 (aa l4 e1) ?_;refine wZ l4 ?_;exact λE=>rfl
 have h2:¬ (n<0/\m=0):=by
  intro h;apply Bool.eq_false_iff.1 hc;simp[h.1,h.2]
 rw[if_neg h2];refine wK ?_;refine Wp.seq ?_;refine vR Γ0 l4 ?_;refine wC l4 (λhc=>?_) (λhc=>?_)
 ·have h3:n<0:=by simpa using hc
  have e0:IntKind.i64.wrap (m*a)=m*a:=ae oM oM;have e1:IntKind.i64.wrap (m*a+m)=m*a+m:=ae oM oM;have e2:IntKind.i64.wrap (m*a+m-1)=m*a+m-1:=ae oM oM;have e3:IntKind.i64.wrap (m*a+m-1+1)=m*a+m-1+1:=ae oM oM;have e4:IntKind.i64.wrap (m*a+m-1+1+a)=m*a+m-1+1+a:=ae oM oM
  have e5:IntKind.i64.wrap (m*a+m-1+1+a+1)=m*a+m-1+1+a+1:=ae oM oM;rw[if_pos h3];refine vR Γ0 (uv l4 e0 e1 e2 e3 e4 e5) ?_;refine wZ l4 ?_;exact λE=>rfl
 have h3:¬ n<0:=by simpa using hc
 rw[if_neg h3];refine wK ?_;refine Wp.seq ?_;refine vR Γ0 l4 ?_;refine wC l4 (λhc=>?_) (λhc=>?_)
 ·have h4:n=0:=by simpa using hc
  rw[if_pos h4];refine vR Γ0 l4 ?_;refine wZ l4 ?_;exact λE=>rfl
 have h4:¬ n=0:=by simpa using hc
 rw[if_neg h4];refine wK ?_;refine Wp.seq ?_;refine vR Γ0 l4 ?_;refine wC l4 (λhc=>?_) (λhc=>?_)
 ·have h5:m=0:=by simpa using hc
  have hna:=L9 (x:=n) (y:=a+2) (p:=255) (q:=2003) oM oM oM oM;have e0:IntKind.i64.wrap (a+2)=a+2:=ae oM oM;have e1:IntKind.i64.wrap (n*(a+2))=n*(a+2):=ae oM oM;have e2:IntKind.i64.wrap (n*(a+2)+n)=n*(a+2)+n:=ae oM oM;have e3:IntKind.i64.wrap (n*(a+2)+n-1)=n*(a+2)+n-1:=ae oM oM;rw[if_pos h5]
  refine vR Γ0 (oy l4 e0 e1 e2 e3) ?_;refine wZ l4 ?_;exact λE=>rfl
 have h5:¬ m=0:=by simpa using hc
 have hnm:=L9 (x:=n-m) (y:=a+2+1) (p:=255) (q:=2004) oM oM oM oM;have e0:IntKind.i64.wrap (m*a)=m*a:=ae oM oM;have e1:IntKind.i64.wrap (m*a+m)=m*a+m:=ae oM oM;have e2:IntKind.i64.wrap (m*a+m-1)=m*a+m-1:=ae oM oM;have e3:IntKind.i64.wrap (n-m)=n-m:=ae oM oM
 have e4:IntKind.i64.wrap (a+2)=a+2:=ae oM oM;have e5:IntKind.i64.wrap (a+2+1)=a+2+1:=ae oM oM;have e6:IntKind.i64.wrap ((n-m)*(a+2+1))=(n-m)*(a+2+1):=ae oM oM;have e7:IntKind.i64.wrap (m*a+m-1+(n-m)*(a+2+1))=m*a+m-1+(n-m)*(a+2+1):=ae oM oM;rw[if_neg h5];refine wK ?_
 refine vR Γ0 (aj l4 e0 e1 e2 e3 e4 e5 (aa e6 e7)) ?_;refine wZ l4 ?_;exact λE=>rfl
def ym:aM prog 175 where
 pre:=λW bs=>λ| [.val (.int .i64 a),.val (.int .i64 m),.val (.int .i64 n)]=>(0<=a/\a<=2001)/\uz m n|_=>False
 res:=λW=>λ| [.val (.int .i64 a),.val (.int .i64 m),.val (.int .i64 n)]=>.int .i64 (dH a m n)|_=>undef
 enters:=call175
 ok:=by
  intro W w bs us as_ hk hu hp;split at hp
  ·rename_i a m n
   match us,hu with
   |[u0,u1,u2],hu=>
    obtain⟨rfl,rfl,rfl,_⟩:=hu;exact LP a m n hp.1.1 hp.1.2 hp.2 w
  ·exact hp.elim
theorem HW(W:World)(a:Int)(m:Int)(n:Int):ym.res W [.val (.int .i64 a),.val (.int .i64 m),.val (.int .i64 n)]=.int .i64 (dH a m n):=rfl
theorem JC(W:World)(bs:List Nat)(a:Int)(m:Int)(n:Int):ym.pre W bs [.val (.int .i64 a),.val (.int .i64 m),.val (.int .i64 n)]=((0<=a/\a<=2001)/\uz m n):=rfl
noncomputable def Γ67:Env prog:=⟨λ| 175=>some ym.spec|_=>none,λ| _=>none,λ_ _=>none⟩
theorem aei:Γ67.sp 175=some ym.spec:=rfl
def K5(ar:List Nd):Prop:=∀ k (h:k<ar.length),(0<=ar[k].op/\ar[k].op<=7)/\(2<=ar[k].op->0<=ar[k].a/\ar[k].a<k)/\(2<=ar[k].op->ar[k].op≠7->0<=ar[k].b/\ar[k].b<k)/\(ar[k].op=7->uz ar[k].m ar[k].n)
theorem NM.ok{ts:List RT}{d:Nd}{t:RT}(h:NM ts d t):(0<=d.op/\d.op<=7)/\(2<=d.op->0<=d.a/\d.a<ts.length)/\(2<=d.op->d.op≠7->0<=d.b/\d.b<ts.length)/\(d.op=7->uz d.m d.n):=by
 have lt:∀ {x:Int} {a:RT},0<=x->ts[x.toNat]?=some a->x<ts.length:=λ{x a} h0 h=>by
  have:=(List.getElem?_eq_some_iff.1 h).1;omega
 cases h with
 |eps h0 _=>exact⟨oM,λh=>by omega,λh=>by omega,λh=>by omega⟩
 |cls h0=>exact⟨oM,λh=>by omega,λh=>by omega,λh=>by omega⟩
 |cat a b h0 h1 h2 h3 h4=>exact⟨oM,λh=>⟨h1,lt h1 h2⟩,λh _=>⟨h3,lt h3 h4⟩,λh=>by omega⟩
 |alt a b h0 h1 h2 h3 h4=>exact⟨oM,λh=>⟨h1,lt h1 h2⟩,λh _=>⟨h3,lt h3 h4⟩,λh=>by omega⟩
 |and a b h0 h1 h2 h3 h4=>exact⟨oM,λh=>⟨h1,lt h1 h2⟩,λh _=>⟨h3,lt h3 h4⟩,λh=>by omega⟩
 |minus a b h0 h1 h2 h3 h4=>exact⟨oM,λh=>⟨h1,lt h1 h2⟩,λh _=>⟨h3,lt h3 h4⟩,λh=>by omega⟩
 |rep a h0 h1 h2 h3=>exact⟨oM,λh=>⟨h1,lt h1 h2⟩,λh h' => absurd h0 h',λ_=>h3⟩
theorem AR.ok{ar:List Nd}{ts:List RT}(h:AR ar ts):K5 ar:=by
 induction h with
 |nil=>intro k hk;cases hk
 | @snoc ar ts d t ha hn ih=>
  intro k hk;by_cases hlt:k<ar.length
  ·rw[List.getElem_append_left hlt];exact ih k hlt
  ·have hk' : k=ar.length:=by simp at hk;omega
   subst hk';have:=hn.ok;rw[ha.len]at this;rw[List.getElem_append_right (Nat.le_refl _)];simpa using this
theorem Mh:∀ (l:List Nd) (k j:Nat) (hk:k<l.length),j<261->(dC l)[k*261+j]?=l[k].bw[j]?
 |d::r,0,j,_,hj=>by
  show (d.bw++dC r)[0*261+j]?=_;rw[List.getElem?_append_left (by rw[Nd.iS];omega)];simp
 |d::r,k+1,j,hk,hj=>by
  show (d.bw++dC r)[(k+1)*261+j]?=_;rw[List.getElem?_append_right (by rw[Nd.iS];omega),Nd.iS,show (k+1)*261+j-261=k*261+j by omega];have:=Mh r k j (by simpa using hk) hj;simpa using this
theorem Nd.aja(d:Nd):d.bw[0]?=some (.int .i64 d.op):=rfl
theorem Nd.pC(d:Nd)(j:Nat):d.bw[257+j]?=[Value.int .i64 d.a,.int .i64 d.b,.int .i64 d.m,.int .i64 d.n][j]?:=by
 have e:d.bw=(Value.int .i64 d.op::gA d.set.getLsbD)++[.int .i64 d.a,.int .i64 d.b,.int .i64 d.m,.int .i64 d.n]:=rfl;rw[e,List.getElem?_append_right (by rw[List.length_cons,qO];omega),List.length_cons,qO,show 257+j-(256+1)=j by omega]
theorem kZ.nd{w:World}{ao:Option Addr}{l:List Nd}(h:kZ w ao (dC l)){k:Nat}(hk:k<l.length):∃ b o,ao=some ⟨b,o,none⟩ /\
  w.cell? ⟨b,o+k*261,none⟩=some (.int .i64 l[k].op)/\w.cell? ⟨b,o+k*261+257,none⟩=some (.int .i64 l[k].a)/\w.cell? ⟨b,o+k*261+258,none⟩=some (.int .i64 l[k].b) /\
  w.cell? ⟨b,o+k*261+259,none⟩=some (.int .i64 l[k].m)/\w.cell? ⟨b,o+k*261+260,none⟩=some (.int .i64 l[k].n):=by
 have hl:=P1 l;rcases h with h|⟨b,o,rfl,hc⟩
 ·rw[h]at hl;simp at hl;omega
 ·have key:∀ j (hj:j<261) (v:Value),l[k].bw[j]?=some v->w.cell? ⟨b,o+k*261+j,none⟩=some v:=λj hj v hv=>by
   have hlt:k*261+j<(dC l).length:=oM;have h1:=hc (k*261+j) hlt;have h2:=Mh l k j hk hj;rw[List.getElem?_eq_getElem hlt,hv]at h2;rw[<- Nat.add_assoc]at h1;rw[h1,h2]
  exact⟨b,o,rfl,key 0 oM _ (Nd.aja _),key 257 oM _ (Nd.pC _ 0),key 258 oM _ (Nd.pC _ 1),key 259 oM _ (Nd.pC _ 2),key 260 oM _ (Nd.pC _ 3)⟩
def iV(Z:List Int):List Value:=Z.map (.int .i64)
theorem Pr(Z:List Int):(List.map SV.v (iV Z)).length=Z.length:=by simp[iV]
theorem EO(Z:List Int)(k:Nat)(hk:k<Z.length):(List.map SV.v (iV Z)).getD k (.v undef)=.v (.int .i64 (Z.getD k 0)):=by
 simp[iV,List.getD_eq_getElem?_getD,hk]
theorem zw(Z:List Int)(k:Nat)(x:Int)(hk:k<Z.length):List.take k (List.map SV.v (iV Z))++[SV.v (.int .i64 x)]++List.drop (k+1) (List.map SV.v (iV Z))=List.map SV.v (iV (Z.set k x)):=by
 rw[List.set_eq_take_append_cons_drop,if_pos hk];simp[iV]
def zZ(ar:List Nd)(k:Nat):List Int:=oG (ar.take k)++List.replicate (ar.length-k) 0
theorem z8(ar:List Nd)(d:Nd):oG (ar++[d])=oG ar++[Kp (oG ar) d]:=by
 unfold oG;rw[List.foldl_append];rfl
theorem PA{α:Type}{P:List α->Prop}(h0:P [])(h1:∀ l d,P l->P (l++[d]))(l:List α):P l:=by
 have key:∀ m:List α,P m.reverse:=λm=>by
  induction m with
  |nil=>exact h0
  |cons d r ih=>rw[List.reverse_cons];exact h1 _ _ ih
 have:=key l.reverse
 rwa [List.reverse_reverse]at this
theorem my(ar:List Nd):(oG ar).length=ar.length:=by
 refine PA (P:=λar=>(oG ar).length=ar.length) rfl (λar d ih=>?_) ar
 ·rw[z8,List.length_append,List.length_append,ih];rfl
theorem aj1(ar:List Nd)(k:Nat)(hk:k<=ar.length):(zZ ar k).length=ar.length:=by
 rw[zZ,List.length_append,my,List.length_take,List.length_replicate];omega
theorem ajo(ar:List Nd)(k j:Nat)(hj:j<k)(hk:k<=ar.length):(zZ ar k).getD j 0=(oG (ar.take k)).getD j 0:=by
 rw[List.getD_eq_getElem?_getD,List.getD_eq_getElem?_getD,zZ,List.getElem?_append_left (by rw[my,List.length_take];omega)]
theorem ajK(ar:List Nd)(k:Nat)(hk:k<ar.length):(zZ ar k).set k (Kp (oG (ar.take k)) ar[k])=zZ ar (k+1):=by
 have hl:(oG (ar.take k)).length=k:=by rw[my,List.length_take];omega
 have ht:ar.take (k+1)=ar.take k++[ar[k]]:=by rw[List.take_succ_eq_append_getElem hk]
 rw[zZ,zZ,ht,z8,List.set_append_right _ _ oM,hl,Nat.sub_self,show ar.length-k=(ar.length-(k+1))+1 by omega,List.replicate_succ,List.set_cons_zero,List.append_assoc];rfl
theorem adU(ar:List Nd):List.map SV.v (List.replicate ar.length [Value.int .i64 0]).flatten=List.map SV.v (iV (zZ ar 0)):=by
 have:∀ n:Nat,(List.replicate n [Value.int .i64 0]).flatten=iV (List.replicate n 0):=λn=>by
  induction n with
  |zero=>rfl
  |succ n ih=>rw[List.replicate_succ,List.flatten_cons,ih];rfl
 rw[this];simp[zZ,oG]
theorem ah3(ar:List Nd)(hok:K5 ar):∀ j,j<ar.length->0<=(oG ar).getD j 0/\(oG ar).getD j 0<=2001:=by
 revert hok;refine PA (P:=λar=>K5 ar->∀ j,j<ar.length->0<=(oG ar).getD j 0/\(oG ar).getD j 0<=2001) (λ_ j hj=>by cases hj) (λar d ih hok=>?_) ar
 ·skip;have hok' : K5 ar:=λk hk=>by
   have:=hok k (by simp;omega);rw[List.getElem_append_left hk]at this;exact this
  intro j hj;rw[z8,List.getD_eq_getElem?_getD];by_cases hlt:j<ar.length
  ·rw[List.getElem?_append_left (by rw[my];exact hlt),<- List.getD_eq_getElem?_getD];exact ih hok' j hlt
  ·have hj' : j=ar.length:=by simp at hj;omega
   subst hj';have hd:=hok ar.length sI;rw[List.getElem_append_right (Nat.le_refl _)]at hd;simp only[Nat.sub_self,List.getElem_cons_zero]at hd;rw[List.getElem?_append_right (by rw[my];exact Nat.le_refl _),my,Nat.sub_self];show 0<=Kp (oG ar) d/\Kp (oG ar) d<=2001;have hv:0<=oW (oG ar) d:=by
    unfold oW;split
    ·omega
    ·rename_i h1;have ha:=hd.2.1 oM;have hA:=ih hok' d.a.toNat oM;split
     ·rename_i h7;exact CN hA.1 (hd.2.2.2 h7)
     ·rename_i h7;have hb:=hd.2.2.1 oM h7;have hB:=ih hok' d.b.toNat oM;omega
   unfold Kp;split<;>omega
def fO:=(aj jo jl gS ca cc b9 cg (aj cf cj cd ck wA vP wX (aj tg OU OW Ql OI tR wx (aj wF tn xq xt xw wJ vW (aj xi wO @aG @al @ay @ax @HW (bQ @JC aei @Pr))))))
theorem QY(ar:List Nd)(hok:K5 ar)(hln:ar.length<=4000000)(ao:Option Addr)(c:Nat)(w:World)(hl:kZ w ao (dC ar)) :
  Calls prog 123 #[.slice ao ar.length c] w λe w' =>
   ∃ u fp,e=.returned u/\(∀ E',a6 E' u fp w' (.row 3 1 ar.length ((iV (oG ar)).map .v)))/\(∀ b∈fp,w.heap.size<=b/\b<w'.heap.size)/\ah w [] w' := by
 refine mm (nt:=80) id [.tmp 2] func123 rfl rfl rfl ?_;refine vR Γ0 fO ?_;refine vR Γ0 (aa fO @adU) ?_;refine Wp.seq ?_;refine vR Γ0 fO ?_;refine Wp.block ?_
 refine Wp.loop (λk:Nat=>⟨20,bm [(0,.is (.v (.slice ao ar.length c))),(3,.is (.hd 24)),(4,.is (.v (.int .i64 (k:Nat))))],aY [(24,.row 3 1 ar.length (List.map SV.v (iV (zZ ar k))))]⟩) (λk=>k<=ar.length) (λk=>ar.length-k) 0 ?_ (Nat.zero_le _) ?_
 ·exact wM (λk=>.key k) fO
 rintro k h1;refine Wp.seq ?_;refine vR Γ0 fO ?_;refine wC fO (λhc=>?_) (λhc=>?_)
 ·have hk:k<ar.length:=by
   simp at hc;omega
  obtain⟨b,o,rfl,c0,c1,c2,c3,c4⟩:=kZ.nd hl hk;have hd:=hok k hk;have hS:=ajK ar k hk;have hZl:=aj1 ar k h1;have hZb:∀ x:Int,0<=x->x<k->(zZ ar k).getD x.toNat 0=(oG (ar.take k)).getD x.toNat 0:=λx h0 hx=>ajo ar k x.toNat oM h1
  have hok' : K5 (ar.take k):=λj hj=>by
   rw[List.length_take]at hj;rw[List.getElem_take];exact hok j oM
  have hB:=ah3 (ar.take k) hok';have hB' : ∀ x:Int,0<=x->x<k->0<=(oG (ar.take k)).getD x.toNat 0/\(oG (ar.take k)).getD x.toNat 0<=2001:=λx h0 hx=>hB x.toNat (by rw[List.length_take];omega)
  have hsz:Kp (oG (ar.take k)) ar[k]=if 2001<oW (oG (ar.take k)) ar[k] then 2001 else oW (oG (ar.take k)) ar[k]:=rfl;have wk:IntKind.i64.wrap ((k:Int)+1)=((k+1:Nat):Int):=wW;rw[hsz]at hS;generalize ar[k]=d at *;generalize hsL:oG (ar.take k)=sz at *;generalize hZZ:zZ ar k=Z at *
  generalize hZ1:zZ ar (k+1)=Z1 at *;refine wK ?_;refine Wp.seq (Wp.block ?_);refine vR Γ0 fO ?_
  refine aW ⟨40,bm [(0,.is (.v (.slice (some ⟨b,o,none⟩) ar.length c))),(3,.is (.hd 24)),(4,.is (.v (.int .i64 (k:Nat)))),(5,.is (.v (.int .i64 (if 2<=d.op then sz.getD d.a.toNat 0 else 0))))],aY [(24,.row 3 1 ar.length (List.map SV.v (iV Z)))]⟩ ?_ ?_
  ·skip;refine wR Γ0 (aa fO c0) ?_ ?_
   ·omega
   refine wC fO (λhc=>?_) (λhc=>?_)
   ·have h2:2<=d.op:=by simpa using hc
    have ha:=hd.2.1 h2;rw[if_pos h2];refine wr Γ0 (eT fO c1 (EO Z d.a.toNat oM) (hZb d.a ha.1 ha.2)) ?_ ?_
    ·omega
    exact wM (λk=>.key k) fO
   ·have h2:¬ 2<=d.op:=by simpa using hc
    rw[if_neg h2];refine wK ?_;exact wM (λk=>.key k) fO
  generalize h5:(if 2<=d.op then sz.getD d.a.toNat 0 else 0)=t5;refine aW ⟨70,bm [(0,.is (.v (.slice (some ⟨b,o,none⟩) ar.length c))),(3,.is (.hd 24)),(4,.is (.v (.int .i64 (k:Nat))))],aY [(24,.row 3 1 ar.length (List.map SV.v (iV (Z.set k (oW sz d)))))]⟩ ?_ ?_
  ·skip;refine wR Γ0 (aa fO c0) ?_ ?_
   ·omega
   refine Wp.block ?_;refine Wp.seq ?_;refine vR Γ0 fO ?_;refine wC fO (λhc=>?_) (λhc=>?_)
   ·have h0:d.op=0:=by simpa using hc
    have hv:oW sz d=1:=by rw[oW,if_pos (.inl h0)]
    rw[hv];refine wK ?_;refine wC fO (λhc=>?_) (λhc=>?_)
    rotate_left
    ·exfalso;simp[h0]at hc
    refine wr Γ0 (aa fO (zw Z k 1 oM)) ?_ ?_
    ·omega
    exact wM (λk=>.key k) fO
   have h0:¬ d.op=0:=by simpa using hc
   refine vr Γ0 fO ?_;refine wC fO (λhc=>?_) (λhc=>?_)
   ·have h1' : d.op=1:=by simpa using hc
    have hv:oW sz d=1:=by rw[oW,if_pos (.inr h1')]
    rw[hv];refine wr Γ0 (aa fO (zw Z k 1 oM)) ?_ ?_
    ·omega
    exact wM (λk=>.key k) fO
   have h1' : ¬ d.op=1:=by simpa using hc
   have h2:2<=d.op:=oM;have ha:=hd.2.1 h2;have hA:=hB' d.a ha.1 ha.2;rw[if_pos h2]at h5;rw[h5]at hA;refine vR Γ0 fO ?_;refine wC fO (λhc=>?_) (λhc=>?_)
   ·have h7:d.op=7:=by simpa using hc
    have hv:oW sz d=dH t5 d.m d.n:=by rw[oW,if_neg oM,if_pos h7,h5]
    have hmn:=hd.2.2.2 h7;rw[hv];refine xv Γ67 (eT fO c3 c4 (zw Z k (dH t5 d.m d.n) oM)) ?_ ?_
    ·exact⟨oM,oM,⟨hA,hmn⟩,oM,oM⟩
    exact wM (λk=>.key k) fO
   ·have h7:¬ d.op=7:=by simpa using hc
    have hb:=hd.2.2.1 h2 h7;have hBb:=hB' d.b hb.1 hb.2;have hv:oW sz d=1+t5+sz.getD d.b.toNat 0:=by rw[oW,if_neg oM,if_neg h7,h5]
    have e1:IntKind.i64.wrap (1+t5)=1+t5:=ae oM oM;have e2:IntKind.i64.wrap (1+t5+sz.getD d.b.toNat 0)=1+t5+sz.getD d.b.toNat 0:=ae oM oM;rw[hv];refine wr Γ0 (uv fO c2 (EO Z d.b.toNat oM) (hZb d.b hb.1 hb.2) e1 e2 (zw Z k (1+t5+sz.getD d.b.toNat 0) oM)) ?_ ?_
    ·omega
    exact wM (λk=>.key k) fO
  have hgs:(Z.set k (oW sz d)).getD k 0=oW sz d:=by
   rw[List.getD_eq_getElem?_getD,List.getElem?_set_self oM];rfl
  have hls:(Z.set k (oW sz d)).length=ar.length:=by rw[List.length_set,hZl]
  refine wR Γ0 (bQ fO (EO (Z.set k (oW sz d)) k oM) hgs) ?_ ?_
  ·omega
  refine wC fO (λhc=>?_) (λhc=>?_)
  ·have hc' : 2001<oW sz d:=by simpa using hc
   rw[if_pos hc']at hS;refine wr Γ0 (eT fO (zw (Z.set k (oW sz d)) k 2001 oM) @List.set_set.{0} hS) ?_ ?_
   ·omega
   refine vr Γ0 (aa fO wk) ?_;refine⟨k+1,oM,oM,?_⟩;rw[hZ1];exact wM (λk=>.key k) fO
  ·have hc' : ¬ 2001<oW sz d:=by simpa using hc
   rw[if_neg hc']at hS;refine wK ?_;refine vr Γ0 (aa fO wk) ?_;refine⟨k+1,oM,oM,?_⟩;rw[hZ1];exact wM (λk=>.key k) (aa fO hS)
 ·have hk:k=ar.length:=by
   simp at hc;omega
  have hz:zZ ar k=oG ar:=by
   rw[hk,zZ,List.take_length,Nat.sub_self];simp
  refine wE ?_;refine vR Γ0 fO ?_;refine wZ fO ?_;refine⟨_,⟨dE,.inl ⟨_,rfl,?_⟩⟩,λE=>rfl⟩;rw[<- hz];rfl
def Ly(ar:List Nd):vO prog 123 where
 pre:=λW bs as_=>(∃ a,as_=[a]/\akR W bs 261 ar.length (dC ar) a)/\K5 ar/\ar.length<=4000000
 T:=3
 s:=1
 n:=λ_ _=>ar.length
 vs:=λ_ _=>iV (oG ar)
 tm:=λ_ _ x=>x
 g:=λ_ _ v=>v
 tmg:=λ_ _ _ _=>rfl
 tmk:=λ_ _ _ _ h=>h
 enters:=call123
 ok:=by
  intro W w bs us as_ hk hu hp;obtain⟨⟨a,rfl,h1⟩,h2,h3⟩:=hp
  match us,hu with
  |[u],hu=>
   obtain⟨ao,c,rfl,hsl⟩:=ag3 hk hu.1 h1;exact QY ar h2 h3 ao c w hsl
def aI:Rx->Nat
 |.eps=>1
 |.cls _=>1
 |.cat a b=>aI a+aI b+1
 |.alt a b=>aI a+aI b+1
 |.star a=>aI a+1
 |.and a b=>aI a+aI b+1
 |.minus a b=>aI a+aI b+1
def eD(n:Nat):Rx->List Nd
 |.eps=>[cm 0 0 0]
 |.cls S=>[⟨1,S,0,0,0,0⟩]
 |.cat a b=>eD n a++(eD (n+aI a) b++[cm 2 ((n+aI a-1:Nat):Int) ((n+aI a+aI b-1:Nat):Int)])
 |.alt a b=>eD n a++(eD (n+aI a) b++[cm 3 ((n+aI a-1:Nat):Int) ((n+aI a+aI b-1:Nat):Int)])
 |.star a=>eD n a++[cm 4 ((n+aI a-1:Nat):Int) 0]
 |.and a b=>eD n a++(eD (n+aI a) b++[cm 5 ((n+aI a-1:Nat):Int) ((n+aI a+aI b-1:Nat):Int)])
 |.minus a b=>eD n a++(eD (n+aI a) b++[cm 6 ((n+aI a-1:Nat):Int) ((n+aI a+aI b-1:Nat):Int)])
theorem jQ(t:Rx):1<=aI t:=by cases t<;>simp[aI]
theorem gC(t:Rx):∀ n,(eD n t).length=aI t:=by
 induction t with
 |eps=>intro n;rfl
 |cls S=>intro n;rfl
 |star a ih=>intro n;simp[eD,aI,ih]
 |cat a b iha ihb=>intro n;simp only[eD,aI,List.length_append,iha,ihb,List.length_cons,List.length_nil];omega
 |alt a b iha ihb=>intro n;simp only[eD,aI,List.length_append,iha,ihb,List.length_cons,List.length_nil];omega
 |and a b iha ihb=>intro n;simp only[eD,aI,List.length_append,iha,ihb,List.length_cons,List.length_nil];omega
 |minus a b iha ihb=>intro n;simp only[eD,aI,List.length_append,iha,ihb,List.length_cons,List.length_nil];omega
theorem bR(l m:List Nd):dC (l++m)=dC l++dC m:=by simp[dC]
theorem mq(d:Nd):dC [d]=d.bw:=by simp[dC]
def V7:=(aj jo jl BH BJ BG gS ca (aj cc b9 cg wA vP wX tg (aj Aw y5 zr yL Bz yZ tR (aj wx wF tn xq xt xw wJ (aj vW xi wO Ie Hj ID G6 (aj Ht @aG @al @ay @ax @sW @tQ @sS))))))
theorem acz(l:List Nd)(r:Int)(op a b:Int)(u:Value)(fp:List Nat)(w:World)(hl:l.length<=4000000)(ho:bC w u fp 64 [.row 243 261 l.length (dC l),.val (.int .i64 r)])(hlt:∀ b∈fp,b<w.heap.size) :
  Calls prog 177 (#[u]++#[.int .i64 op,.int .i64 a,.int .i64 b]) w λe w' => gN w u fp 64 e w' (.ret (.int .i64 (l.length:Nat)) [.row 243 261 (l.length+1) (dC l++(cm op a b).bw),.val (.int .i64 r)]):=by
 rw[show dC l++(cm op a b).bw=dC (l++[cm op a b]) by simp[dC]];refine bh (nt:=28) #[.int .i64 op,.int .i64 a,.int .i64 b] [.tmp 8] (by show 2<=7;omega) ho hlt func177 rfl rfl rfl ?_;refine vR Γ0 V7 ?_;refine wR Γ0 V7 ?_ ?_
 ·exact⟨sI,by unfold maxLen;omega,oM,Nd.ej _⟩
 have w1:IntKind.i64.wrap (((l.length+1:Nat):Int)-1)=((l.length:Nat):Int):=wW;refine vR Γ0 (aa V7 w1) ?_;refine wZ V7 ?_;exact⟨_,_,rfl,λE=>rfl,_,_,rfl,(ev (bQ V7 @aB @List.map_append.{0,0})),dE⟩
def E7:ed prog 177 where
 T:=64
 pre:=λW bs fs as_=>match fs,as_ with|[.row 243 261 n vs,.val (.int .i64 r)],[.val (.int .i64 op),.val (.int .i64 a),.val (.int .i64 b)]=>∃ l:List Nd,vs=dC l/\n=l.length/\l.length<=4000000|_,_=>False
 out:=λW fs as_=>match fs,as_ with|[.row 243 261 n vs,.val (.int .i64 r)],[.val (.int .i64 op),.val (.int .i64 a),.val (.int .i64 b)]=>.ret (.int .i64 (n:Nat)) [.row 243 261 (n+1) (vs++(cm op a b).bw),.val (.int .i64 r)]|_,_=>.pan [] undef
 enters:=call177
 ok:=by
  intro W w bs u fp us fs as_ hk ho hlt hmine hu hp;split at hp
  ·rename_i n vs r op a b
   match us,hu with
   |[u0,u1,u2],hu=>
    obtain⟨rfl,rfl,rfl,_⟩:=hu;obtain⟨l,rfl,rfl,hl⟩:=hp;exact acz l r op a b u fp w hl ho hlt
  ·exact hp.elim
theorem Ai(W:World)(n:Nat)(vs:List Value)(r:Int)(op:Int)(a:Int)(b:Int):E7.out W [.row 243 261 n vs,.val (.int .i64 r)] [.val (.int .i64 op),.val (.int .i64 a),.val (.int .i64 b)]=.ret (.int .i64 (n:Nat)) [.row 243 261 (n+1) (vs++(cm op a b).bw),.val (.int .i64 r)]:=rfl
theorem y8(W:World)(bs:List Nat)(n:Nat)(vs:List Value)(r:Int)(op:Int)(a:Int)(b:Int):E7.pre W bs [.row 243 261 n vs,.val (.int .i64 r)] [.val (.int .i64 op),.val (.int .i64 a),.val (.int .i64 b)]=(∃ l:List Nd,vs=dC l/\n=l.length/\l.length<=4000000):=rfl
theorem Nk:E7.T=64:=rfl
theorem UI{W w:World}{bs fp:List Nat}(hk:ah W bs w)(h:∀ b∈fp,W.heap.size<=b\/b∈bs):cT W (Out bs) w (Out fp):=λb hb hs=>
 ⟨hk.block b hb hs,λhf=>(h b hf).elim (λg=>by omega) hs⟩
theorem ab1(a b:Nd):dC [a,b]=a.bw++b.bw:=by simp[dC]
abbrev L7 (ar:List Nd)(ao:Option Addr)(c:Nat)(f:FuncId)(v:Value)(t:Rx):Prop:=
 ∀ (l:List Nd) (r:Int) (u:Value) (fp:List Nat) (w:World),l.length+aI t<=4000000->bC w u fp 64 [.row 243 261 l.length (dC l),.val (.int .i64 r)]->(∀ b∈fp,b<w.heap.size)->gJ w (Out fp) ao (dC ar) ->
  Calls prog f #[.slice ao ar.length c,v,u] w λe w' => gN w u fp 64 e w' (.ret (.int .i64 ((l.length+aI t-1:Nat):Int)) [.row 243 261 (l.length+aI t) (dC l++dC (eD l.length t)),.val (.int .i64 r)])
def layOut(tv:Value->Rx)(fs as_:List AV):BOut:=match fs,as_ with
 |[.row _ _ n vs,.val r],[_,.val v]=>.ret (.int .i64 ((n+aI (tv v)-1:Nat):Int)) [.row 243 261 (n+aI (tv v)) (vs++dC (eD n (tv v))),.val r]
 |_,_=>.ret undef []
theorem qy(tv:Value->Rx)(T s n:Nat)(vs:List Value)(r v:Value)(x:AV):layOut tv [.row T s n vs,.val r] [x,.val v]=.ret (.int .i64 ((n+aI (tv v)-1:Nat):Int)) [.row 243 261 (n+aI (tv v)) (vs++dC (eD n (tv v))),.val r]:=rfl
def rM(ar:List Nd)(ao:Option Addr)(c:Nat)(f:FuncId)(hen:∀ args w,(callFunc f args).run prog w=.ok (.enter f args) w)(dom:Value->Prop)(tv:Value->Rx)(h:∀ v,dom v->L7 ar ao c f v (tv v)):x7 prog f where
 T:=64
 pre:=λW bs fs as_=>∃ (l:List Nd) (r:Int) (v:Value),fs=[.row 243 261 l.length (dC l),.val (.int .i64 r)]/\as_=[.val (.slice ao ar.length c),.val v]/\dom v/\l.length+aI (tv v)<=4000000/\gJ W (Out bs) ao (dC ar)
 out:=λ_=>layOut tv
 enters:=hen
 ok:=by
  intro W w bs u fp us fs as_ hk ho hlt hmine hu hp;obtain⟨l,r,v,rfl,rfl,hd,hl,hs⟩:=hp
  match us,hu with
  |[x,y],hu=>
   obtain⟨rfl,rfl,_⟩:=hu;exact h _ hd l r u fp w hl ho hlt (hs.mono (UI hk hmine))
section
variable (ar:List Nd)(ao:Option Addr)(c:Nat)(f:FuncId)(hen:∀ args w,(callFunc f args).run prog w=.ok (.enter f args) w)(dom:Value->Prop)(tv:Value->Rx)(h:∀ v,dom v->L7 ar ao c f v (tv v))
theorem EX:(rM ar ao c f hen dom tv h).T=64:=rfl
theorem s4(W:World):(rM ar ao c f hen dom tv h).out W=layOut tv:=rfl
theorem sH(W:World)(bs:List Nat)(T s n:Nat)(vs:List Value)(r:Int)(v:Value):(rM ar ao c f hen dom tv h).pre W bs [.row T s n vs,.val (.int .i64 r)] [.val (.slice ao ar.length c),.val v] =
  (T=243/\s=261/\(∃ l:List Nd,vs=dC l/\n=l.length)/\dom v/\n+aI (tv v)<=4000000/\gJ W (Out bs) ao (dC ar)):=by
 apply propext;constructor
 ·rintro⟨l,r',v',h1,h2,h3,h4,h5⟩;simp only[List.cons.injEq,AV.row.injEq,AV.val.injEq,and_true]at h1 h2;obtain⟨⟨rfl,rfl,rfl,rfl⟩,_⟩:=h1;obtain⟨_,rfl⟩:=h2;exact⟨rfl,rfl,⟨l,rfl,rfl⟩,h3,h4,h5⟩
 ·rintro⟨rfl,rfl,⟨l,rfl,rfl⟩,h3,h4,h5⟩;exact⟨l,r,v,rfl,rfl,h3,h4,h5⟩
end
def US(ts:List RT)(v:Value):Rx:=match v with
 |.int _ x=>(ts.getD x.toNat .eps).expand
 |_=>.eps
theorem yp(ts:List RT)(k:IntKind)(x:Int):US ts (.int k x)=(ts.getD x.toNat .eps).expand:=rfl
def Tb(ts:List RT)(v:Value):Rx:=.alt (US ts v) .eps
def below(n:Nat)(v:Value):Prop:=∃ x:Int,v=.int .i64 x/\0<=x/\x<n
theorem qU(n:Nat)(x:Int):below n (.int .i64 x)=(0<=x/\x<n):=by
 apply propext;constructor
 ·rintro⟨y,h,h1,h2⟩;simp only[Value.int.injEq,true_and]at h;subst h;exact⟨h1,h2⟩
 ·exact λh=>⟨x,rfl,h⟩
abbrev kn (ar:List Nd)(ts:List RT)(ao:Option Addr)(c n:Nat):Prop:=∀ v,below n v->L7 ar ao c 124 v (US ts v)
abbrev Uf (ar:List Nd)(ts:List RT)(ao:Option Addr)(c n:Nat):Prop:=∀ v,below n v->L7 ar ao c 215 v (Tb ts v)
section
variable (ar:List Nd)(ts:List RT)(ao:Option Addr)(c n:Nat)
noncomputable def Γ68(h:kn ar ts ao c n):Env prog:=⟨λ| 124=>some (rM ar ao c 124 call124 (below n) (US ts) h).spec|177=>some E7.spec|_=>none,λ_=>none,λ_ _=>none⟩
theorem adR(h:kn ar ts ao c n):(Γ68 ar ts ao c n h).sp 124=some (rM ar ao c 124 call124 (below n) (US ts) h).spec:=rfl
theorem ad7(h:kn ar ts ao c n):(Γ68 ar ts ao c n h).sp 177=some E7.spec:=rfl
def SX:=(aj gS ca cc b9 cg wA vP (aj wX tg Aw y5 zr yL Bz (aj yZ tR wx wF tn xq xt (aj xw wJ vW xi wO Ie Hj (aj ID G6 Ht @aG @al @ay @ax (aj @Ai @y8 @Nk @EX @s4 @sH @qy (eT @qU @yp @adR @ad7)))))))
theorem Ou(hg:kn ar ts ao c n):Uf ar ts ao c n:=by
 rintro _ ⟨x,rfl,hx⟩ l r u fp w hl ho hlt hs;have hrs:aI (Tb ts (.int .i64 x))=aI (ts.getD x.toNat .eps).expand+1+1:=rfl
 have hla:∀ m,eD m (Tb ts (.int .i64 x))=eD m (ts.getD x.toNat .eps).expand++([cm 0 0 0]++[cm 3 ((m+aI (ts.getD x.toNat .eps).expand-1:Nat):Int) ((m+aI (ts.getD x.toNat .eps).expand+1-1:Nat):Int)]):=λm=>rfl
 rw[hla,hrs];rw[hrs]at hl;have hT:=gC (ts.getD x.toNat .eps).expand l.length;refine mE (nt:=19) _ _ [.tmp 6] (by show 2<=7;omega) ho hlt func215 rfl rfl rfl ?_;refine vR Γ0 SX ?_;refine wR (Γ68 ar ts ao c n hg) SX ?_ ?_
 ·exact⟨⟨⟨l,rfl,rfl⟩,hx,oM,hs⟩,dE,sI⟩
 generalize (ts.getD x.toNat .eps).expand=T at *;refine wR (Γ68 ar ts ao c n hg) SX ?_ ?_
 ·exact⟨⟨l++eD l.length T,by rw[bR],by rw[List.length_append,hT],by rw[List.length_append,hT];omega⟩,dE,sI⟩
 refine wR (Γ68 ar ts ao c n hg) SX ?_ ?_
 ·exact⟨⟨l++eD l.length T++[cm 0 0 0],by rw[bR,bR,mq],by rw[List.length_append,List.length_append,hT];rfl,by rw[List.length_append,List.length_append,hT,List.length_singleton];omega⟩,dE,sI⟩
 refine wZ SX ?_;have e:(l.length+(aI T+1+1)-1:Nat)=l.length+aI T+1:=oM;have e2:(l.length+aI T+1-1:Nat)=l.length+aI T:=oM;have e3:l.length+(aI T+1+1)=l.length+aI T+1+1:=oM;rw[e,e2,e3,bR,ab1,<- List.append_assoc,<- List.append_assoc];exact⟨_,_,rfl,λE=>rfl,_,_,rfl,(ev (aa SX @aB)),dE⟩
end
end
end Go.Proofs.YtnemkecffmdlnaaGreatDoor
