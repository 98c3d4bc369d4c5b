/-
 Part 4 of the proof (packed).
-/
import Derived.Test.YtnemkecffmdlnaaGreatDoorC3
set_option linter.unusedSimpArgs false
set_option linter.unusedVariables false
set_option linter.defProp false
set_option maxHeartbeats 16000000
namespace Go.Proofs.YtnemkecffmdlnaaGreatDoor
section
open Go.RowKit Go.LE Go.Proofs.Tryz
set_option maxRecDepth 10000
noncomputable def Γ42(G:Nat->Prop)(x y a:RL):Env prog:=⟨λ| 249=>some ((oC .eps).spec G)|180=>some ((je .cat x y).spec G)|260=>some ((zX a).spec G)|261=>some ((vy a).spec G)|_=>none,λ_=>none,λ_ _=>none⟩
theorem afi(G:Nat->Prop)(x y a:RL):(Γ42 G x y a).sp 249=some ((oC .eps).spec G):=rfl
theorem adu(G:Nat->Prop)(x y a:RL):(Γ42 G x y a).sp 180=some ((je .cat x y).spec G):=rfl
theorem abv(G:Nat->Prop)(x y a:RL):(Γ42 G x y a).sp 260=some ((zX a).spec G):=rfl
theorem adI(G:Nat->Prop)(x y a:RL):(Γ42 G x y a).sp 261=some ((vy a).spec G):=rfl
theorem pr(a:RL):(gm a).1<=2001:=kW _
theorem ny(a:RL):(bL a).1<=2001:=kW _
structure TI where
 W:World
 bs:List Nat
 fo:Value
 j:Nat
def cD:=(aj @List.replicate_succ.{0} @List.replicate_zero.{0} @an @ab jk jn gR (aj ck cf b9 b8 ca cc cg (aj cd vN wx wL w7 tg s4 (aj sR sM tn ui Oj Qt Qi (aj OC Pr Ox OZ Ct C4 C7 (aj @aG @al @ax @aw @ig @oC.eq_1 @je.eq_1 (ml @zX.eq_1 @vy.eq_1 @afi @adu @abv @adI)))))))
theorem Tg(a:RL)(m n:Int)(fa:Value)(ha:a.1<=2001)(hm0:0<=m)(hm1:m<=255)(hn0:-1<=n)(hn1:n<=255)(w:World)(S:Nat->Prop)(h1:bI w S fa a.2) :
  Calls prog 266 #[jg a fa,.int .i64 m,.int .i64 n] w λe w' => rh w S e w' (.fact Sh.two (dT (dA a m n))):=by
 have ga:partsOf (.v (jg a fa))=[.v (.int .i64 (a.1:Nat)),.v fa]:=rfl;have u0:=eJ.up w S;have g0:=h1.mono (eJ.lZ w S);refine jx (nt:=55) S [.cell 6 254] func266 rfl rfl rfl ?_;refine vR Γ0 (aa cD ga) ?_;refine Wp.seq ?_;refine vR Γ0 cD ?_;refine wC cD (λhc=>?_) (λhc=>?_)
 ·have hc' : m=0/\n<0:=by simpa using hc
  have hR:dA a m n=gm a:=by rw[dA,if_pos hc']
  rw[hR];refine wR (Γ42 (eJ w S) a a a) (aa cD ga) ?_ ?_
  ·exact⟨⟨cq g0,ha,_,rfl⟩,u0⟩
  refine Wp.jh 72 (ev (aa cD ga)) (cT.refl _ _) λW1 bs1 cs hx1 hΦ=>?_
  obtain⟨fv,rfl,hg,hv1⟩:=cK hΦ;refine wZ (bP cD ga hv1) ?_;exact ni hg
 ·have hc1:¬ (m=0/\n<0):=by simpa using hc
  refine wK ?_;refine Wp.seq ?_;refine vR Γ0 cD ?_;refine wC cD (λhc=>?_) (λhc=>?_)
  ·have hc' : m=0/\n=0:=by simpa using hc
   have hR:dA a m n=bY .eps:=by rw[dA,if_neg hc1,if_pos hc']
   rw[hR];refine wR (Γ42 (eJ w S) a a a) (aa cD ga) ?_ ?_
   ·exact⟨rfl,u0⟩
   refine Wp.jh 128 (ev (aa cD ga)) (cT.refl _ _) λW1 bs1 cs hx1 hΦ=>?_
   obtain⟨fv,rfl,hg,hv1⟩:=cK hΦ;refine wZ (bP cD ga hv1) ?_;exact ni hg
  ·have hc2:¬ (m=0/\n=0):=by simpa using hc
   refine wK ?_;refine wR Γ0 (aa cD ga) ?_ ?_
   ·exact h1.one
   refine vR Γ0 cD ?_;generalize hr0:(if m=0 then bL a else a)=r0;have hr0' : r0.1<=2001:=by rw[<- hr0];split;exact ny a;exact ha
   refine kP (λp:TI=>⟨20,bm [(1,.is (.v (.int .i64 m))),(2,.is (.v (.int .i64 n))),(3,.is (.own 0 0)),(6,.is (.own 8 0)),(7,.is (.own 120 0)),(8,.is (.v (.int .i64 1)))],aY [(0,.cells 254 [.v (.int .i64 (a.1:Nat)),.v fa]),(8,.cells 254 [.v (.int .i64 0),.v .nilFunc]),(120,.cells 254 [.v (.int .i64 (r0.1:Nat)),.v p.fo])]⟩) TI.W TI.bs
    (λp=>bI p.W (jl (eJ w S) p.bs) p.fo r0.2) ?_ ?_
   ·skip;refine vR Γ0 cD ?_;refine wC cD (λhc=>?_) (λhc=>?_)
    ·have hm:m=0:=by simpa using hc
     rw[if_pos hm]at hr0;subst hr0;refine Wp.more ?_;refine wr (Γ42 (eJ w S) a a a) (aa cD ga) ?_ ?_
     ·exact⟨⟨cq g0,ha,_,rfl⟩,u0⟩
     refine fD ?_;refine Pw.jh 168 (ev (aa cD ga)) (cT.refl _ _) λW1 bs1 cs hx1 hΦ=>?_
     obtain⟨fv,rfl,hg,hv1⟩:=cK hΦ;refine Pw.here ?_;refine qq ?_;refine⟨⟨W1,bs1,fv,0⟩,hg,rfl,rfl,?_⟩;exact wM (λk=>.key k) (bP cD ga hv1)
    ·have hm:¬ m=0:=by simpa using hc
     rw[if_neg hm]at hr0;subst hr0;refine wK ?_;refine⟨⟨w,[],fa,0⟩,g0,rfl,rfl,?_⟩;exact wM (λk=>.key k) (aa cD ga)
   rintro⟨W0,bs0,fo,j0⟩ hfo hx0;simp only at hfo hx0;dsimp only;have hR1:dA a m n=if n<0 then aX .cat (bH (λx=>aX .cat x a) (m-1).toNat r0) (gm a) else bH (λx=>aX .cat x (bL a)) (n-max m 1).toNat (bH (λx=>aX .cat x a) (m-1).toNat r0):=by
    rw[dA,if_neg hc1,if_neg hc2,hr0]
   have hi1:∀ k,(bH (λx=>aX .cat x a) k r0).1<=2001:=λk=>pW _ (λx=>gh _ _ _) k r0 hr0'
   refine Wp.seq (Wp.block ?_)
   refine Wp.C0 (λp:TI=>⟨23,bm [(1,.is (.v (.int .i64 m))),(2,.is (.v (.int .i64 n))),(3,.is (.own 0 0)),(6,.is (.own 8 0)),(7,.is (.own 120 0)),(8,.is (.v (.int .i64 ((p.j:Nat)+1))))],aY [(0,.cells 254 [.v (.int .i64 (a.1:Nat)),.v fa]),(8,.cells 254 [.v (.int .i64 0),.v .nilFunc]),(120,.cells 254 [.v (.int .i64 ((bH (λx=>aX .cat x a) p.j r0).1:Nat)),.v p.fo])]⟩)
    TI.W TI.bs (λp=>p.j<=(m-1).toNat/\bI p.W (jl (eJ w S) p.bs) p.fo (bH (λx=>aX .cat x a) p.j r0).2) (λp=>(m-1).toNat-p.j) ⟨W0,bs0,fo,0⟩ rfl rfl ?_ ⟨Nat.zero_le _,hfo⟩ ?_
   ·exact wM (λk=>.key k) (oA cD @bH.eq_1 @bH.eq_2 @Int.natCast_zero @Int.zero_add)
   rintro⟨W1,bs1,fo1,j⟩ ⟨hj,hfo1⟩ hx1;simp only at hj hfo1 hx1;dsimp only;have hx01:=hx0.trans hx1;have u1:=u0.ext hx01;have g1:=g0.mono hx01.Gu;refine Wp.seq ?_;refine vR Γ0 cD ?_;refine wC cD (λhc=>?_) (λhc=>?_)
   ·have hjm:(j:Int)+1<m:=by simpa using hc
    refine wK ?_;refine Wp.seq (Wp.block ?_);refine Wp.more ?_;refine wr (Γ42 (eJ w S) (bH (λx=>aX .cat x a) j r0) a a) (aa cD ga) ?_ ?_
    ·exact⟨⟨⟨cq hfo1,cq g1⟩,⟨hi1 j,ha⟩,_,_,rfl⟩,u1⟩
    refine fD ?_;refine Pw.jh 224 (ev (aa cD ga)) (cT.refl _ _) λW2 bs2 cs hx2 hΦ=>?_
    obtain⟨fv,rfl,hg,hv1⟩:=cK hΦ;refine Pw.here ?_;refine qq ?_;have wn:IntKind.i64.wrap ((j:Int)+1+1)=((j+1:Nat):Int)+1:=wW;have e:bH (λx=>aX .cat x a) (j+1) r0=aX Jn.cat.mk (bH (λx=>aX .cat x a) j r0) a:=rX _ _ _;refine vr Γ0 (aa cD wn) ?_
    refine⟨⟨W2,bs2,fv,j+1⟩,⟨by simp only;omega,by simp only;rw[e];exact hg⟩,by simp only;omega,rfl,rfl,?_⟩;exact wM (λk=>.key k) (eS cD ga hv1 e)
   ·have hjm:¬ (j:Int)+1<m:=by simpa using hc
    have hj' : j=(m-1).toNat:=oM;generalize hr1:bH (λx=>aX .cat x a) (m-1).toNat r0=r1 at hR1;have hr1' : r1.1<=2001:=by rw[<- hr1];exact hi1 _
    rw[hj',hr1]at hfo1;rw[hj',hr1];refine wE ?_;refine Wp.seq ?_;refine vR Γ0 cD ?_;refine wC cD (λhc=>?_) (λhc=>?_)
    ·have hn:n<0:=by simpa using hc
     rw[hR1,if_pos hn];refine lf (Γ42 (eJ w S) r1 (gm a) a) (aa cD ga) ?_ ?_
     ·exact⟨⟨⟨cq g1,ha,_,rfl⟩,u1⟩,⟨cq hfo1,⟨hr1',pr a⟩,_,_,rfl⟩,u1⟩
     refine Wp.jh 248 (ev (aa cD ga)) (cT.refl _ _) λW2 bs2 cs hx2 hΦ=>?_
     obtain⟨fv,rfl,hg,hv1⟩:=cK hΦ;refine wZ (bP cD ga hv1) ?_;exact ni hg
    ·have hn:¬ n<0:=by simpa using hc
     rw[hR1,if_neg hn];have hk0:((j:Nat):Int)+1=max m 1:=oM;have hi2:∀ k,(bH (λx=>aX .cat x (bL a)) k r1).1<=2001:=λk=>pW _ (λx=>gh _ _ _) k r1 hr1'
     refine wK ?_;rw[<- hj']at *;refine Wp.seq (Wp.block ?_)
     refine Wp.C0 (λp:TI=>⟨28,bm [(2,.is (.v (.int .i64 n))),(3,.is (.own 0 0)),(6,.is (.own 8 0)),(7,.is (.own 120 0)),(8,.is (.v (.int .i64 (((j:Nat):Int)+1+(p.j:Nat)))))],aY [(0,.cells 254 [.v (.int .i64 (a.1:Nat)),.v fa]),(8,.cells 254 [.v (.int .i64 0),.v .nilFunc]),(120,.cells 254 [.v (.int .i64 ((bH (λx=>aX .cat x (bL a)) p.j r1).1:Nat)),.v p.fo])]⟩)
      TI.W TI.bs (λp=>p.j<=(n-max m 1).toNat/\bI p.W (jl (eJ w S) p.bs) p.fo (bH (λx=>aX .cat x (bL a)) p.j r1).2) (λp=>(n-max m 1).toNat-p.j) ⟨W1,bs1,fo1,0⟩ rfl rfl ?_ ⟨Nat.zero_le _,hfo1⟩ ?_
     ·exact wM (λk=>.key k) (oA cD @bH.eq_1 @bH.eq_2 @Int.natCast_zero @Int.add_zero)
     rintro⟨W3,bs3,fo3,i⟩ ⟨hi,hfo3⟩ hx3;simp only at hi hfo3 hx3;dsimp only;have u3:=u1.ext hx3;have g3:=g1.mono hx3.Gu;refine Wp.seq ?_;refine vR Γ0 cD ?_;refine wC cD (λhc=>?_) (λhc=>?_)
     ·have hin:(j:Int)+1+i<n:=by simpa using hc
      refine wK ?_;refine Wp.seq (Wp.block ?_);refine Wp.more ?_;refine vZ (Γ42 (eJ w S) (bH (λx=>aX .cat x (bL a)) i r1) (bL a) a) (aa cD ga) ?_ ?_
      ·exact⟨⟨⟨cq g3,ha,_,rfl⟩,u3⟩,⟨cq hfo3,⟨hi2 i,ny a⟩,_,_,rfl⟩,u3⟩
      refine fD ?_;refine Pw.jh 272 (ev (aa cD ga)) (cT.refl _ _) λW4 bs4 cs hx4 hΦ=>?_
      obtain⟨fv,rfl,hg,hv1⟩:=cK hΦ;refine Pw.here ?_;refine qq ?_;have wn:IntKind.i64.wrap ((j:Int)+1+i+1)=(j:Int)+1+((i+1:Nat):Int):=wW;have e:bH (λx=>aX .cat x (bL a)) (i+1) r1=aX Jn.cat.mk (bH (λx=>aX .cat x (bL a)) i r1) (bL a):=rX _ _ _;refine vr Γ0 (aa cD wn) ?_
      refine⟨⟨W4,bs4,fv,i+1⟩,⟨by simp only;omega,by simp only;rw[e];exact hg⟩,by simp only;omega,rfl,rfl,?_⟩;exact wM (λk=>.key k) (eS cD ga hv1 e)
     ·have hin:¬ (j:Int)+1+i<n:=by simpa using hc
      have hi' : i=(n-max m 1).toNat:=oM;refine wE ?_;refine wR Γ0 cD ?_ ?_
      ·exact hfo3.one
      refine wZ cD ?_;rw[<- hi'];exact ni hfo3
def yO(a:RL):rz prog 266 where
 kinds:=[some (Sh.two,dT a),none,none]
 pre:=λas_ _ _=>a.1<=2001/\∃ x m n,as_=[x,.val (.int .i64 m),.val (.int .i64 n)]/\0<=m/\m<=255/\-1<=n/\n<=255
 premono:=λ_ _ _ _ _ _ h=>h
 out:=fun
  |[_,.val (.int .i64 m),.val (.int .i64 n)]=>.fact Sh.two (dT (dA a m n))
  |_=>.val undef
 enters:=call266
 ok:=by
  intro w S us as_ hu hp;obtain⟨ha,x,m,n,rfl,hp⟩:=hp
  match us,hu with
  |[u1,u2,u3],hu=>
   obtain⟨h1,rfl,rfl,_⟩:=hu;obtain⟨fa,rfl,h1'⟩:=lE h1;exact Tg a m n fa ha hp.1 hp.2.1 hp.2.2.1 hp.2.2.2 w S h1'
def two(g:Jn)(x y:Value):Value:=.iface g.T (.agg #[x,y])
theorem YA(g:Jn)(a b:Rx):two g (aH a) (aH b)=aH (g.mk a b):=by cases g<;>rfl
def mU:=(aj @List.replicate_succ.{0} @List.replicate_zero.{0} @an @ab jk jn vN (aj wx wL w7 Qg Qn PH tg (aj s4 sR sM tn ui Yz aa0 (aj Xm YX Xk VU Xq ZE U1 (aj Ya Vh aaf ZH V2 X9 VY (aj ZD VV Ww ZL YW X7 Zz (aj ZU aaA Xo XG Xw VD Xx (aj Z8 Vy VE Xc VJ Y9 Ve (aj Xy aax WI WA Wa Vx UZ (aj Ct C4 C7 @aG @al @ax @aw (bP @jG (λt=>kD (bZ t)) @bZ)))))))))))
theorem aiA(a b:Rx)(w:World):Calls prog 252 #[aH a,aH b] w λe w' => e=.returned (two .cat (aH a) (aH b))/\ah w [] w' := by
 refine af (nt:=9) [.tmp 4] func252 rfl rfl rfl ?_;refine vR Γ0 mU ?_;refine vR Γ0 mU ?_;refine wZ mU ?_;exact λE=>rfl
theorem aiE(a b:Rx)(w:World):Calls prog 181 #[aH a,aH b] w λe w' => e=.returned (two .alt (aH a) (aH b))/\ah w [] w' := by
 refine af (nt:=9) [.tmp 4] func181 rfl rfl rfl ?_;refine vR Γ0 mU ?_;refine vR Γ0 mU ?_;refine wZ mU ?_;exact λE=>rfl
theorem ah9(a b:Rx)(w:World):Calls prog 217 #[aH a,aH b] w λe w' => e=.returned (two .and (aH a) (aH b))/\ah w [] w' := by
 refine af (nt:=9) [.tmp 4] func217 rfl rfl rfl ?_;refine vR Γ0 mU ?_;refine vR Γ0 mU ?_;refine wZ mU ?_;exact λE=>rfl
theorem aaZ(a b:Rx)(w:World):Calls prog 218 #[aH a,aH b] w λe w' => e=.returned (two .minus (aH a) (aH b))/\ah w [] w' := by
 refine af (nt:=9) [.tmp 4] func218 rfl rfl rfl ?_;refine vR Γ0 mU ?_;refine vR Γ0 mU ?_;refine wZ mU ?_;exact λE=>rfl
theorem ajH:∀ (g:Jn) (a b:Rx) (w:World),Calls prog g.f #[aH a,aH b] w λe w' => e=.returned (two g (aH a) (aH b))/\ah w [] w'
 |.cat,a,b,w=>aiA a b w
 |.alt,a,b,w=>aiE a b w
 |.and,a,b,w=>ah9 a b w
 |.minus,a,b,w=>aaZ a b w
theorem T5:∀ (g:Jn) args w,(callFunc g.f args).run prog w=.ok (.enter g.f args) w
 |.cat=>call252
 |.alt=>call181
 |.and=>call217
 |.minus=>call218
def mkC(g:Jn):aM prog g.f where
 pre:=λW bs as_=>∃ a b,as_=[.val (aH a),.val (aH b)]
 res:=λW=>λ| [.val x,.val y]=>two g x y|_=>undef
 enters:=T5 g
 ok:=by
  rintro W w bs us _ hk hu ⟨a,b,rfl⟩
  match us,hu with
  |[u,v],hu=>
   obtain⟨rfl,rfl,_⟩:=hu;exact ajH g a b w
theorem aeS(g:Jn)(W:World)(x y:Value):(mkC g).res W [.val x,.val y]=two g x y:=rfl
theorem adF(g:Jn)(W:World)(bs:List Nat)(as_:List AV):(mkC g).pre W bs as_=∃ a b,as_=[.val (aH a),.val (aH b)]:=rfl
def dp:Rx->Nat
 |.eps=>0
 |.cls _=>0
 |.cat a b=>dp a+dp b+1
 |.alt a b=>dp a+dp b+1
 |.star a=>dp a+1
 |.and a b=>dp a+dp b+1
 |.minus a b=>dp a+dp b+1
theorem ak5(g:Jn)(a b:Rx):dp (g.mk a b)=dp a+dp b+1:=by cases g<;>rfl
def ke(f:FuncId):Prop:=f=259\/f=220\/f=264
theorem bI.shape{W:World}{S:Nat->Prop}{v:Value}{t:Rx}(h:bI W S v t):∃ f cap,v=.func (.func f) #[] cap/\ke f:=by
 cases h with
 |leaf=>exact⟨_,_,rfl,.inl rfl⟩
 |join=>exact⟨_,_,rfl,.inr (.inl rfl)⟩
 |star=>exact⟨_,_,rfl,.inr (.inr rfl)⟩
theorem H8{f:FuncId}(h:ke f):∀ args w,(callFunc f args).run prog w=.ok (.enter f args) w:=by
 rcases h with rfl|rfl|rfl
 ·exact call259
 ·exact call220
 ·exact call264
def iO(n:Nat):Prop:=∀ f cap w S t,bI w S (.func (.func f) #[] cap) t->dp t<n->Calls prog f cap w λe w' => e=.returned (aH t)/\ah w [] w'
open Classical in
noncomputable def yy(W:World)(f:FuncId)(as_:List AV):Value:=
 if h:∃ (cap:List Value) (t:Rx),as_=cap.map .val/\bI W (λ_=>True) (.func (.func f) #[] cap.toArray) t then aH h.choose_spec.choose else undef
theorem G3{l m:List Value}(h:l.map AV.val=m.map .val):l=m:=by
 have:=congrArg (List.map λ| AV.val v=>v|_=>undef) h;simpa [Function.comp_def] using this
theorem lW{W:World}{S:Nat->Prop}{f:FuncId}{cap:List Value}{t:Rx}(h:bI W S (.func (.func f) #[] cap.toArray) t):yy W f (cap.map .val)=aH t:=by
 have h1:=h.mono (S' := λ_=>True) (W' := W) λb _ _=>⟨rfl,trivial⟩
 have hex:∃ (c:List Value) (t:Rx),cap.map AV.val=c.map .val/\bI W (λ_=>True) (.func (.func f) #[] c.toArray) t:=⟨cap,t,rfl,h1⟩;rw[yy,dif_pos hex];obtain⟨g1,g2⟩:=hex.choose_spec.choose_spec;have key:∀ (c:List Value) (t' : Rx),cap=c->bI W (λ_=>True) (.func (.func f) #[] c.toArray) t' -> t' = t:=by
  rintro _ t' rfl hg;exact (h1.fn hg).symm
 rw[key _ _ (G3 g1) g2]
theorem w9{w:World}:∀ {us cap:List Value},gj w us (cap.map .val)->us=cap
 |[],[],_=>rfl
 |u::us,c::cap,h=>by rw[h.1,w9 h.2]
 |[],_::_,h=>h.elim
 |_::_,[],h=>h.elim
noncomputable def JN(n:Nat)(ih:iO n)(f:FuncId)(hf:ke f):aM prog f where
 pre:=λW bs as_=>∃ (cap:List Value) (t:Rx),as_=cap.map .val/\bI W (Out bs) (.func (.func f) #[] cap.toArray) t/\dp t<n
 res:=λW as_=>yy W f as_
 enters:=H8 hf
 ok:=by
  rintro W w bs us _ hk hu ⟨cap,t,rfl,hg,hd⟩;rw[lW hg,w9 hu];exact ih f _ w (Out bs) t (hg.mono hk.lZ) hd
open Classical in
noncomputable def KA(n:Nat)(ih:iO n)(f:FuncId):Option (Go.LE.Spec prog f):=if hf:ke f then some (JN n ih f hf).spec else none
theorem Ua(n:Nat)(ih:iO n)(f:FuncId)(hf:ke f):KA n ih f=some (JN n ih f hf).spec:=dif_pos hf
noncomputable def Γ43(n:Nat)(ih:iO n):Env prog:=⟨λ| 252=>some (mkC .cat).spec|181=>some (mkC .alt).spec|217=>some (mkC .and).spec|218=>some (mkC .minus).spec|f=>KA n ih f,λ_=>none,λ_ _=>none⟩
theorem ajN(n:Nat)(ih:iO n)(g:Jn):(Γ43 n ih).sp g.f=some (mkC g).spec:=by cases g<;>rfl
theorem tR(n:Nat)(ih:iO n)(f:FuncId)(hf:ke f):(Γ43 n ih).sp f=some (JN n ih f hf).spec:=by
 rw[<- Ua];rcases hf with rfl|rfl|rfl<;>rfl
theorem CO(n:Nat)(ih:iO n)(f:FuncId)(hf:ke f)(W:World)(as_:List AV):(JN n ih f hf).res W as_=yy W f as_:=rfl
theorem DM(n:Nat)(ih:iO n)(f:FuncId)(hf:ke f)(W:World)(bs:List Nat)(as_:List AV):(JN n ih f hf).pre W bs as_=∃ (cap:List Value) (t:Rx),as_=cap.map .val/\bI W (Out bs) (.func (.func f) #[] cap.toArray) t/\dp t<n:=rfl
theorem nM(h:Hp):∀ l:List Value,aC h (l.map .v)=some (l.map .val,[])
 |[]=>rfl
 |x::r=>by rw[List.map_cons,zP,nM h r];rfl
theorem Eh{W:World}{S:Nat->Prop}{v:Value}{t:Rx}(h:bI W S v t):bI W (Out []) v t:=h.mono λb _ _=>⟨rfl,by simp[Out]⟩
def ue:=(ml mU @aeS @adF @CO @DM @ajN)
theorem Sy(b:Nat)(t:Rx)(w:World)(S:Nat->Prop)(h:XC w S b 0 (aH t)):Calls prog 259 #[oq b] w λe w' => e=.returned (aH t)/\ah w [] w' := by
 have h1:w.cell? ⟨b,0,none⟩=some (aH t):=h.2;refine af (nt:=3) [.tmp 1] func259 rfl rfl rfl ?_;refine vR Γ0 (aa ue @oq.eq_1) ?_;refine vR Γ0 (bP ue @oq.eq_1 h1) ?_;refine wZ ue ?_;exact λE=>rfl
theorem UE(n:Nat)(ih:iO n)(b:Nat)(fa:Value)(ta:Rx)(w:World)(S:Nat->Prop)(h:XC w S b 1 fa)(hg:bI w S fa ta)(hd:dp ta<n) :
  Calls prog 264 #[oq b] w λe w' => e=.returned (aH (.star ta))/\ah w [] w' := by
 have h1:w.cell? ⟨b,0+1,none⟩=some fa:=by rw[Nat.zero_add];exact h.2
 obtain⟨f,cap,rfl,hf⟩:=hg.shape;obtain⟨cap,rfl⟩:∃ l:List Value,cap=l.toArray:=⟨cap.toList,sI⟩;have hr:=lW hg;have hs:=tR n ih f hf;refine af (nt:=7) [.tmp 1] func264 rfl rfl rfl ?_;refine vR Γ0 (aa ue @oq.eq_1) ?_;refine wR (Γ43 n ih) (ml ue @oq.eq_1 h1 hs hr @nM) ?_ ?_
 ·exact⟨cap,ta,rfl,Eh hg,hd⟩
 refine wZ ue ?_;exact λE=>rfl
theorem RE(n:Nat)(ih:iO n)(g:Jn)(b5 b3 b4:Nat)(fa fb:Value)(ta tb:Rx)(w:World)(S:Nat->Prop)(h5:XC w S b5 0 g.v)(h3:XC w S b3 1 fa)(h4:XC w S b4 1 fb)
  (hga:bI w S fa ta) (hgb:bI w S fb tb) (hda:dp ta<n) (hdb:dp tb<n) :
  Calls prog 220 #[oq b5,oq b3,oq b4] w λe w' => e=.returned (aH (g.mk ta tb))/\ah w [] w' := by
 have g5:w.cell? ⟨b5,0,none⟩=some (.func (.func g.f) #[] #[]):=h5.2;have g3:w.cell? ⟨b3,0+1,none⟩=some fa:=by rw[Nat.zero_add];exact h3.2
 have g4:w.cell? ⟨b4,0+1,none⟩=some fb:=by rw[Nat.zero_add];exact h4.2
 obtain⟨f,cap,rfl,hf⟩:=hga.shape;obtain⟨cap,rfl⟩:∃ l:List Value,cap=l.toArray:=⟨cap.toList,sI⟩;obtain⟨f',cap',rfl,hf'⟩:=hgb.shape;obtain⟨cap',rfl⟩:∃ l:List Value,cap' = l.toArray:=⟨cap'.toList,sI⟩;have hr:=lW hga;have hs:=tR n ih f hf;have hr' := lW hgb;have hs' := tR n ih f' hf'
 refine af (nt:=12) [.tmp 3] func220 rfl rfl rfl ?_;refine vR Γ0 (aa ue @oq.eq_1) ?_;refine lf (Γ43 n ih) (aj ue @oq.eq_1 g5 g3 g4 hs hs' (bP hr hr' @nM)) ?_ ?_
 ·exact⟨⟨cap,ta,rfl,Eh hga,hda⟩,⟨cap',tb,rfl,Eh hgb,hdb⟩,ta,tb,rfl⟩
 refine wZ ue ?_;exact λE=>YA g ta tb
theorem yu:∀ n,iO n
 |0=>λ_ _ _ _ _ _ h=>by omega
 | n+1=>by
  have ih:=yu n;intro f cap w S t h hd;cases h with
  |leaf b t h=>exact Sy b t w S h
  |join g b5 b3 b4 fa fb ta tb h5 h3 h4 ha hb=>
   rw[ak5]at hd;exact RE n ih g b5 b3 b4 fa fb ta tb w S h5 h3 h4 ha hb oM oM
  |star b fa ta h ha=>
   have:dp ta+1<n+1:=hd;exact UE n ih b fa ta w S h ha oM
end
section
open Go.RowKit Go.LE Go.Proofs.Tryz
set_option maxRecDepth 10000
def xy(s:ByteArray)(i:Int)(d:Nat)(op:List Value):List AV:=[.val (.string s),.val (.int .i64 i),.row 3 1 d op]
def eH(c i:Int):List PanicEntry:=[{ v:=.iface 39 (yh c i ⟨#[]⟩),recovered:=false }]
theorem aj9{s:ByteArray}{i:Int}(h0:0<=i)(h:¬ i<s.size):bt s i=0:=by
 unfold bt;rw[Array.getElem?_eq_none (by have:s.data.size=s.size:=rfl;omega)];rfl
theorem DE{w:World}{u:Value}{fp:List Nat}{s:ByteArray}{i:Int}{d:Nat}{op:List Value}(h:bC w u fp 251 (xy s i d op)) :
  ∃ b,u=.pointer (some ⟨b,0,none⟩)/\w.cell? ⟨b,0,none⟩=some (.string s)/\w.cell? ⟨b,0+1,none⟩=some (.int .i64 i):=by
 obtain⟨b,us,h1,h2,h3⟩:=DN h
 match us,h2 with
 |[x,y,z],h2=>
  obtain⟨rfl,rfl,_,_⟩:=h2;exact⟨b,h1,h3 0 sI,h3 1 sI⟩
def aeB:=(aj @List.replicate_succ.{0} @List.replicate_zero.{0} @an @ab jk jn gR (aj ck cf b9 b8 ca cc cg (aj cd fu fh fy ft fB dc (aj df dh db cY c8 WC aab (aj V9 aaC aaO aaJ Ys ZM zl (aj yK yS y5 Bb AY AI AO (aj Ar yQ Ac Am Ag yE AM (aj zG A0 Bo AS zD A2 AH (bP @xy.eq_1 @yh.eq_1 @eH.eq_1)))))))))
theorem Q8(s:ByteArray)(i:Int)(b:Nat)(w:World)(g1:w.cell? ⟨b,0,none⟩=some (.string s))(g2:w.cell? ⟨b,0+1,none⟩=some (.int .i64 i)) :
  Calls prog 127 #[.pointer (some ⟨b,0,none⟩)] w λe w' => e=.returned (.bool (decide ((s.size:Int)<=i)))/\ah w [] w' := by
 refine af (nt:=13) [.tmp 2] func127 rfl rfl rfl ?_;refine vR Γ0 aeB ?_;refine Qw Γ0 (bP aeB g1 g2) ?_;refine wZ aeB ?_;exact λE=>rfl
def ey:Dx prog 127 where
 T:=251
 pre:=λW bs fs as_=>match fs,as_ with|[.val (.string s),.val (.int .i64 i),.row 3 1 d op],[]=>True|_,_=>False
 res:=λW fs as_=>match fs,as_ with|[.val (.string s),.val (.int .i64 i),.row 3 1 d op],[]=>.bool (decide ((s.size:Int)<=i))|_,_=>undef
 enters:=call127
 ok:=by
  intro W w bs u fp us fs as_ hk ho hu hp;split at hp
  ·rename_i s i d op
   match us,hu with
   |[],_=>
    obtain⟨b,rfl,g1,g2⟩:=DE ho;exact Q8 s i b w g1 g2
  ·exact hp.elim
theorem ix(W:World)(s:ByteArray)(i:Int)(d:Nat)(op:List Value):ey.res W [.val (.string s),.val (.int .i64 i),.row 3 1 d op] []=.bool (decide ((s.size:Int)<=i)):=rfl
theorem iy(W:World)(bs:List Nat)(s:ByteArray)(i:Int)(d:Nat)(op:List Value):ey.pre W bs [.val (.string s),.val (.int .i64 i),.row 3 1 d op] []=(True):=rfl
theorem lV:ey.T=251:=rfl
def Hi:=(eS aeB @ix @iy @lV)
theorem ZF(s:ByteArray)(i:Int)(b:Nat)(w:World)(h0:0<=i)(g1:w.cell? ⟨b,0,none⟩=some (.string s))(g2:w.cell? ⟨b,0+1,none⟩=some (.int .i64 i)) :
  Calls prog 179 #[.pointer (some ⟨b,0,none⟩)] w λe w' => e=.returned (.int .u8 (bt s i))/\ah w [] w' := by
 refine af (nt:=22) [.tmp 2] func179 rfl rfl rfl ?_;refine vR Γ0 Hi ?_;refine Wp.seq ?_;refine Qw Γ0 (bP Hi g1 g2) ?_;refine wC Hi (λhc=>?_) (λhc=>?_)
 ·have hi:i<s.size:=by simpa using hc
  refine Qw Γ0 (bP Hi g1 g2) ?_;refine wZ Hi ?_;exact λE=>rfl
 ·have hi:¬ i<s.size:=by simpa using hc
  rw[aj9 h0 hi];refine wK ?_;refine vR Γ0 Hi ?_;refine wZ Hi ?_;exact λE=>rfl
def iY:Dx prog 179 where
 T:=251
 pre:=λW bs fs as_=>match fs,as_ with|[.val (.string s),.val (.int .i64 i),.row 3 1 d op],[]=>0<=i|_,_=>False
 res:=λW fs as_=>match fs,as_ with|[.val (.string s),.val (.int .i64 i),.row 3 1 d op],[]=>.int .u8 (bt s i)|_,_=>undef
 enters:=call179
 ok:=by
  intro W w bs u fp us fs as_ hk ho hu hp;split at hp
  ·rename_i s i d op
   match us,hu with
   |[],_=>
    obtain⟨b,rfl,g1,g2⟩:=DE ho;exact ZF s i b w hp g1 g2
  ·exact hp.elim
theorem lr(W:World)(s:ByteArray)(i:Int)(d:Nat)(op:List Value):iY.res W [.val (.string s),.val (.int .i64 i),.row 3 1 d op] []=.int .u8 (bt s i):=rfl
theorem lq(W:World)(bs:List Nat)(s:ByteArray)(i:Int)(d:Nat)(op:List Value):iY.pre W bs [.val (.string s),.val (.int .i64 i),.row 3 1 d op] []=(0<=i):=rfl
theorem qX:iY.T=251:=rfl
def ak7:=(eS Hi @lr @lq @qX)
theorem MR(s:ByteArray)(i:Int)(d:Nat)(op:List Value)(c j:Int)(u:Value)(fp:List Nat)(w:World)(ho:bC w u fp 251 (xy s i d op))(hlt:∀ b∈fp,b<w.heap.size) :
  Calls prog 128 (#[u]++#[.int .i64 c,.int .i64 j]) w λe w' => gM w u fp 251 e w' (.pan (eH c j) (.tuple #[])):=by
 refine bg (nt:=10) #[.int .i64 c,.int .i64 j] [] (by show 3<=7;omega) ho hlt func128 rfl rfl rfl ?_;refine Wp.q7 Γ0 cj (ev ak7) ?_ ?_
 ·exact oo
 refine qq ?_;exact⟨_,rfl⟩
def gv:ed prog 128 where
 T:=251
 pre:=λW bs fs as_=>match fs,as_ with|[.val (.string s),.val (.int .i64 i),.row 3 1 d op],[.val (.int .i64 c),.val (.int .i64 j)]=>True|_,_=>False
 out:=λW fs as_=>match fs,as_ with|[.val (.string s),.val (.int .i64 i),.row 3 1 d op],[.val (.int .i64 c),.val (.int .i64 j)]=>.pan (eH c j) (.tuple #[])|_,_=>.pan [] undef
 enters:=call128
 ok:=by
  intro W w bs u fp us fs as_ hk ho hlt hmine hu hp;split at hp
  ·rename_i s i d op c j
   match us,hu with
   |[u0,u1],hu=>
    obtain⟨rfl,rfl,_⟩:=hu;exact MR s i d op c j u fp w ho hlt
  ·exact hp.elim
theorem j5(W:World)(s:ByteArray)(i:Int)(d:Nat)(op:List Value)(c:Int)(j:Int):gv.out W [.val (.string s),.val (.int .i64 i),.row 3 1 d op] [.val (.int .i64 c),.val (.int .i64 j)]=.pan (eH c j) (.tuple #[]):=rfl
theorem ki(W:World)(bs:List Nat)(s:ByteArray)(i:Int)(d:Nat)(op:List Value)(c:Int)(j:Int):gv.pre W bs [.val (.string s),.val (.int .i64 i),.row 3 1 d op] [.val (.int .i64 c),.val (.int .i64 j)]=(True):=rfl
theorem mM:gv.T=251:=rfl
noncomputable def Zh:Env prog:=⟨λ| 127=>some ey.spec|179=>some iY.spec|128=>some gv.spec|_=>none,λ| _=>none,λ_ _=>none⟩
theorem agD:Zh.sp 127=some ey.spec:=rfl
theorem afN:Zh.sp 179=some iY.spec:=rfl
theorem abZ:Zh.sp 128=some gv.spec:=rfl
def YC(s:ByteArray)(d:Nat)(op:List Value):Except (Int×Int) (Int×Int)->BOut
 |.ok (n,j)=>.ret (.int .i64 n) (xy s j d op)
 |.error (c,j)=>.pan (eH c j) (.int .i64 0)
theorem Py(s:ByteArray)(d:Nat)(op:List Value)(n j:Int):YC s d op (.ok (n,j))=.ret (.int .i64 n) (xy s j d op):=rfl
theorem zm(s:ByteArray)(d:Nat)(op:List Value)(c j:Int):YC s d op (.error (c,j))=.pan (eH c j) (.int .i64 0):=rfl
theorem vK(c:Int->Int)(N:Int)(k:Nat)(n i:Int)(h:¬ (i<N/\48<=c i/\c i<=57)):jT c N k n i=(n,i):=by
 cases k with
 |zero=>rfl
 |succ k=>rw[jT,if_neg h]
def bd:Nat->Int
 |0=>999
 |1=>99
 |2=>9
 |_=>0
theorem Qy(k:Nat):bd k<=999:=by
 match k with
 |0=>simp[bd]
 |1=>simp[bd]
 |2=>simp[bd]
 |n+3=>simp[bd]
theorem yx{k:Nat}(hk:k+1<=3):10*bd (k+1)+9<=bd k:=by
 match k,hk with
 |0,_=>simp[bd]
 |1,_=>simp[bd]
 |2,_=>simp[bd]
def tA:=(ur ak7 @j5 @ki @mM agD afN abZ)
theorem Nn(s:ByteArray)(i:Int)(d:Nat)(op:List Value)(u:Value)(fp:List Nat)(w:World)(h0:0<=i)(hi1:i<=s.size)(hs:s.size<=140737488351232)(ho:bC w u fp 251 (xy s i d op))(hlt:∀ b∈fp,b<w.heap.size) :
  Calls prog 265 (#[u]++#[]) w λe w' => gM w u fp 251 e w' (YC s d op (iL (bt s) s.size i)):=by
 refine bg (nt:=58) #[] [.tmp 2] (by show 3<=7;omega) ho hlt func265 rfl rfl rfl ?_;refine vR Zh tA ?_;refine Qw Zh tA ?_;generalize hR:jT (bt s) s.size 3 0 i=R;have w3:IntKind.i64.wrap (i+3)=i+3:=ae oM oM;refine Wp.seq (Wp.block ?_)
 refine Wp.loop (λp:Nat×Int=>⟨20,bm [(0,.is (.own 0 0)),(3,.is (.v (.int .i64 p.2))),(4,.is (.v (.int .i64 i)))],aY [(0,.cells 251 [.v (.string s),.v (.int .i64 (i+(3-(p.1:Nat)))),.hd 3]),(3,.row 3 1 d (op.map .v))]⟩)
  (λp=>p.1<=3/\(0<=p.2/\p.2<=bd p.1)/\i+(3-(p.1:Nat))<=s.size/\jT (bt s) s.size p.1 p.2 (i+(3-(p.1:Nat)))=R) (λp=>p.1) (3,0) ?_ ⟨sI,by simp[bd],by simpa using hi1,by simpa using hR⟩ ?_
 ·exact wM (λk=>.key k) (eS tA @Int.sub_self @Int.add_zero (show (3:Int)-((3:Nat):Int)=0 from rfl))
 rintro⟨k,n⟩ ⟨hk,⟨hn0,hn1⟩,hi,hR'⟩;simp only at hk hn0 hn1 hi hR';have hbd:=Qy k;refine Wp.seq ?_;refine wR Zh (aa tA w3) ?_ ?_
 ·exact⟨dE,λ_=>⟨dE,oM⟩,λ_=>⟨dE,oM⟩⟩
 refine wC tA (λhc=>?_) (λhc=>?_)
 ·simp only[Bool.and_eq_true,Bool.not_eq_true',decide_eq_true_eq,decide_eq_false_iff_not]at hc;obtain⟨⟨⟨h1,h2⟩,h3⟩,h4⟩:=hc;obtain⟨k,rfl⟩:∃ j,k=j+1:=⟨k-1,oM⟩;rw[jT,if_pos ⟨oM,h3,h4⟩]at hR';have hst:=yx hk;generalize hat:i+(3-((k+1:Nat):Int))=at_ at *;have wa:IntKind.i64.wrap (10*n)=10*n:=ae oM oM
  have wb:IntKind.u8.wrap (bt s at_-48)=bt s at_-48:=eQ oM oM;have wc:IntKind.i64.wrap (bt s at_-48)=bt s at_-48:=ae oM oM;have wd:IntKind.i64.wrap (10*n+(bt s at_-48))=10*n+(bt s at_-48):=ae oM oM;have we:IntKind.i64.wrap (at_+1)=i+(3-((k:Nat):Int)):=wW;refine wK ?_;refine Wp.block ?_
  refine wR Zh (oA tA wa wb wc wd) ?_ ?_
  ·exact⟨dE,oM⟩
  refine vr Zh (aa tA we) ?_;refine⟨(k,10*n+(bt s at_-48)),⟨by simp only;omega,⟨by simp only;omega,by simp only;omega⟩,by simp only;omega,by simp only;rw[show i+(3-(k:Int))=at_+1 by omega];exact hR'⟩,by simp only;omega,?_⟩;exact wM (λk=>.key k) tA
 ·have hst:¬ ((i+(3-(k:Int))<s.size/\i+(3-(k:Int))<i+3/\48<=bt s (i+(3-(k:Int))))/\bt s (i+(3-(k:Int)))<=57):=λh=>by
   apply Bool.eq_false_iff.1 hc;simp;omega
  have hRe:R=(n,i+(3-(k:Int))):=by
   rw[<- hR'];cases k with
   |zero=>rfl
   |succ k=>exact vK _ _ _ _ _ (λh=>hst ⟨⟨h.1,oM,h.2.1⟩,h.2.2⟩)
  have he:iL (bt s) s.size i=if R.2=i then .error (20,i) else .ok R:=by rw[iL,hR]
  rw[he,hRe];refine wE ?_;refine Wp.seq ?_;refine vR Zh tA ?_;refine wC tA (λhc=>?_) (λhc=>?_)
  ·have h1:i+(3-(k:Int))=i:=by simpa using hc
   rw[if_pos h1,zm];refine Wp.q7 Zh cj (ev (aa tA h1)) ?_ ?_
   ·exact⟨dE,sI⟩
   refine qq ?_;exact⟨_,rfl⟩
  ·have h1:¬ i+(3-(k:Int))=i:=by simpa using hc
   rw[if_neg h1,Py];refine wK ?_;refine vR Zh tA ?_;refine wZ tA ?_;exact⟨_,_,rfl,λE=>rfl,_,_,rfl,(ev (aa tA @aA)),dE⟩
def tu:ed prog 265 where
 T:=251
 pre:=λW bs fs as_=>match fs,as_ with|[.val (.string s),.val (.int .i64 i),.row 3 1 d op],[]=>0<=i/\i<=s.size/\s.size<=140737488351232|_,_=>False
 out:=λW fs as_=>match fs,as_ with|[.val (.string s),.val (.int .i64 i),.row 3 1 d op],[]=>YC s d op (iL (bt s) s.size i)|_,_=>.pan [] undef
 enters:=call265
 ok:=by
  intro W w bs u fp us fs as_ hk ho hlt hmine hu hp;split at hp
  ·rename_i s i d op
   match us,hu with
   |[],_=>
    exact Nn s i d op u fp w hp.1 hp.2.1 hp.2.2 ho hlt
  ·exact hp.elim
theorem Kg(W:World)(s:ByteArray)(i:Int)(d:Nat)(op:List Value):tu.out W [.val (.string s),.val (.int .i64 i),.row 3 1 d op] []=YC s d op (iL (bt s) s.size i):=rfl
theorem Jx(W:World)(bs:List Nat)(s:ByteArray)(i:Int)(d:Nat)(op:List Value):tu.pre W bs [.val (.string s),.val (.int .i64 i),.row 3 1 d op] []=(0<=i/\i<=s.size/\s.size<=140737488351232):=rfl
theorem UI:tu.T=251:=rfl
theorem fE{r:RL}{W1:World}{bs1 fp:List Nat}{w:World}{S:Nat->Prop}{fv:Value}{T:TypeId}{h:Hp}{vs:List SV}{fs' : List AV}{ks:List Nat}(hg:bI W1 (jl (aQ w S fp) bs1) fv r.2)
  (h0:h 0=some (.cells T vs)) (hv:aC h vs=some (fs',ks)) (hn:(0::ks).Nodup):XW w S fp T W1 bs1 (.agg [.v (.int .i64 (r.1:Nat)),.v fv]) h (.fact Sh.two (dT r) fs'):=
 ⟨⟨[.int .i64 (r.1:Nat),fv],λE=>(sE r fv hg.one).symm,fv,rfl,hg⟩,vs,ks,h0,hv,hn⟩
theorem M9(a:RL)(x:AV)(m n:Int):(yO a).out [x,.val (.int .i64 m),.val (.int .i64 n)]=.fact Sh.two (dT (dA a m n)):=rfl
theorem KN(a:RL)(as_:List AV)(W:World)(S:Nat->Prop):(yO a).pre as_ W S=(a.1<=2001/\∃ x m n,as_=[x,.val (.int .i64 m),.val (.int .i64 n)]/\0<=m/\m<=255/\-1<=n/\n<=255):=rfl
theorem EA(a:RL):(yO a).kinds=[some (Sh.two,dT a),none,none]:=rfl
noncomputable def J9(G:Nat->Prop)(a:RL):Env prog:=⟨λ| 127=>some ey.spec|179=>some iY.spec|128=>some gv.spec|265=>some tu.spec|266=>some ((yO a).spec G)|_=>none,λ_=>none,λ_ _=>none⟩
theorem adJ(G:Nat->Prop)(a:RL):(J9 G a).sp 127=some ey.spec:=rfl
theorem af1(G:Nat->Prop)(a:RL):(J9 G a).sp 179=some iY.spec:=rfl
theorem abX(G:Nat->Prop)(a:RL):(J9 G a).sp 128=some gv.spec:=rfl
theorem ags(G:Nat->Prop)(a:RL):(J9 G a).sp 265=some tu.spec:=rfl
theorem af9(G:Nat->Prop)(a:RL):(J9 G a).sp 266=some ((yO a).spec G):=rfl
def yT:Value:=.agg #[.int .i64 0,.nilFunc]
def U2(a:RL)(s:ByteArray)(d:Nat)(op:List Value):Except (Int×Int) (Int×Int×Int)->GOut
 |.ok (m,n,j)=>.fact Sh.two (dT (dA a m n)) (xy s j d op)
 |.error (c,j)=>.pan (eH c j) yT
theorem P1{c:Int->Int}{N i n j:Int}(h:iL c N i=.ok (n,j)):0<=n/\n<=999:=by
 have key:∀ (k:Nat) (n i:Int),k<=3->0<=n->n<=bd k->0<=(jT c N k n i).1/\(jT c N k n i).1<=999:=by
  intro k
  induction k with
  |zero=>intro n i _ h0 h1;exact⟨h0,h1⟩
  | succ k ih=>
   intro n i hk h0 h1;rw[jT];split
   ·rename_i h;have:=yx hk;exact ih _ _ oM oM oM
   ·have:=Qy (k+1);exact⟨h0,by simp only;omega⟩
 unfold iL at h;split at h
 ·cases h
 ·simp only[Except.ok.injEq]at h;have:=key 3 0 i (Nat.le_refl _) oM (by simp[bd]);rw[h]at this;exact this
def dx:=(aj @List.replicate_succ.{0} @List.replicate_zero.{0} @an @ab jk jn gR (aj ck cf b9 b8 ca cc cg (aj cd fu fh fy ft fB aaO (aj aaJ Ys ZM Ac Am Ag yE (aj AM zG A0 Bo AS zD A2 (aj AH tg s4 sR sM tn ui (aj @xy.eq_1 @yh.eq_1 @eH.eq_1 @aG @al @ax @aw (aj @ig @lN @ix @iy @lV @lr @lq (aj @qX @j5 @ki @mM @Kg @Jx @UI (aj @Py @zm @adJ @af1 @abX @ags @af9 (bP @M9 @KN @EA)))))))))))
theorem NH(s:ByteArray)(i:Int)(d:Nat)(op:List Value)(a:RL)(fa:Value)(ha:a.1<=2001)(u:Value)(fp:List Nat)(w:World)(S:Nat->Prop)(h0:0<=i)(hi1:i<s.size)(hs:s.size<=140737488351232)
  (ho:bC w u fp 251 (xy s i d op)) (hlt:∀ b∈fp,b<w.heap.size) (hS:∀ b∈fp,¬ S b) (h1:bI w S fa a.2) :
  Calls prog 262 (#[u]++#[jg a fa]) w λe w' => CJ w S u fp 251 e w' (U2 a s d op (ot (bt s) s.size i)):=by
 have ga:partsOf (.v (jg a fa))=[.v (.int .i64 (a.1:Nat)),.v fa]:=rfl;have u0:=aQ.up w S fp;have g0:=h1.mono (aQ.lZ w S fp hS);have w1:IntKind.i64.wrap (i+1)=i+1:=ae oM oM;refine jK (nt:=88) S #[jg a fa] [.cell 4 254] (by show 3<=7;omega) ho hlt func262 rfl rfl rfl ?_;refine vR Γ0 (aa dx ga) ?_
 refine vR Γ0 dx ?_;refine vR Γ0 (aa dx w1) ?_;cases hN:iL (bt s) s.size (i+1) with
 |error e=>
  obtain⟨c,j⟩:=e;have he:ot (bt s) s.size i=.error (c,j):=by rw[ot,hN]
  rw[he];refine Wp.kF (J9 (aQ w S fp) a) cj (ev (bP dx hN w1)) ?_ ?_
  ·first|trivial|omega|(simp[hs];done)|(simp[hs];omega)|(simp[hs]<;>omega)
  refine qq ?_;exact⟨_,rfl⟩
 | ok p=>
  obtain⟨m,j⟩:=p;have hj:=yt hN;have hm:=P1 hN;refine wR (J9 (aQ w S fp) a) (bP dx hN w1) ?_ ?_
  ·first|trivial|omega|(simp[hs];done)|(simp[hs];omega)|(simp[hs]<;>omega)
  refine vR Γ0 dx ?_;have wj:IntKind.i64.wrap (j+1)=j+1:=ae oM oM;have hb:∀ n k,A7 (bt s) s.size m j=.ok (n,k)->ot (bt s) s.size i=nG (bt s) s.size m n k i:=λn k h=>by rw[ot,hN];simp only[h]
  cases hU:A7 (bt s) s.size m j with
  | error e=>
   obtain⟨c,k⟩:=e;have he:ot (bt s) s.size i=.error (c,k):=by rw[ot,hN];simp only[hU]
   rw[he];rw[A7]at hU;split at hU
   ·rename_i h44;split at hU
    ·rename_i h125;refine Wp.seq ?_;refine wR (J9 (aQ w S fp) a) dx ?_ ?_
     ·first|trivial|omega|(simp[hs];done)|(simp[hs];omega)|(simp[hs]<;>omega)
     refine wC dx (λhc=>?_) (λhc=>?_)
     ·skip;refine vR Γ0 (aa dx wj) ?_;refine vR Γ0 dx ?_;refine wR (J9 (aQ w S fp) a) dx ?_ ?_
      ·first|trivial|omega|(simp[hs];done)|(simp[hs];omega)|(simp[hs]<;>omega)
      refine wC dx (λhc=>?_) (λhc=>?_)
      ·skip;refine Wp.q7 (J9 (aQ w S fp) a) cj (ev (aa dx hU)) ?_ ?_
       ·first|trivial|omega|(simp[hs];done)|(simp[hs];omega)|(simp[hs]<;>omega)
       refine qq ?_;exact⟨_,rfl⟩
      ·exfalso;apply Bool.eq_false_iff.1 hc;simp;omega
     ·exfalso;apply Bool.eq_false_iff.1 hc;simp;omega
    ·cases hU
   ·cases hU
  | ok q=>
   obtain⟨n,k⟩:=q;have hbe:=hb n k hU
   refine aV ⟨60,bm [(0,.is (.own 0 0)),(3,.is (.own 8 0)),(4,.is (.own 16 0)),(5,.is (.v (.int .i64 i))),(6,.is (.v (.int .i64 m))),(7,.is (.v (.int .i64 n)))],aY [(0,.cells 251 [.v (.string s),.v (.int .i64 k),.hd 3]),(3,.row 3 1 d (op.map .v)),(8,.cells 254 [.v (.int .i64 (a.1:Nat)),.v fa]),(16,.cells 254 [.v (.int .i64 0),.v .nilFunc])]⟩ ?_ ?_
   ·skip;refine wR (J9 (aQ w S fp) a) dx ?_ ?_
    ·first|trivial|omega|(simp[hs];done)|(simp[hs];omega)|(simp[hs]<;>omega)
    refine wC dx (λhc=>?_) (λhc=>?_)
    ·have h44:j<s.size/\bt s j=44:=by
      simp at hc;omega
     rw[A7,if_pos h44]at hU;refine vR Γ0 (aa dx wj) ?_;refine vR Γ0 dx ?_;refine wR (J9 (aQ w S fp) a) dx ?_ ?_
     ·first|trivial|omega|(simp[hs];done)|(simp[hs];omega)|(simp[hs]<;>omega)
     refine wC dx (λhc=>?_) (λhc=>?_)
     ·have h125:¬ j+1<s.size\/bt s (j+1)≠125:=by
       simp at hc;omega
      rw[if_pos h125]at hU;refine wr (J9 (aQ w S fp) a) (aa dx hU) ?_ ?_
      ·first|trivial|omega|(simp[hs];done)|(simp[hs];omega)|(simp[hs]<;>omega)
      exact wM (λx=>if x=3 then .key 370 else .key x) dx
     ·have h125:¬ (¬ j+1<s.size\/bt s (j+1)≠125):=by
       simp at hc;omega
      rw[if_neg h125]at hU;simp only[Except.ok.injEq,Prod.mk.injEq]at hU;obtain⟨rfl,rfl⟩:=hU;refine wK ?_;exact wM (λx=>if x=3 then .key 138 else .key x) dx
    ·have h44:¬ (j<s.size/\bt s j=44):=λh=>by
      apply Bool.eq_false_iff.1 hc;simp;omega
     rw[A7,if_neg h44]at hU;simp only[Except.ok.injEq,Prod.mk.injEq]at hU;obtain⟨rfl,rfl⟩:=hU;refine wK ?_;exact wM (λx=>if x=3 then .key 138 else .key x) dx
   ·have hk:j<=k/\k<=s.size/\-1<=n/\n<=999:=by
     rw[A7]at hU;split at hU
     ·split at hU
      ·have:=yt hU;have:=P1 hU;omega
      ·simp only[Except.ok.injEq,Prod.mk.injEq]at hU;omega
     ·simp only[Except.ok.injEq,Prod.mk.injEq]at hU;omega
    have wk:IntKind.i64.wrap (k+1)=k+1:=ae oM oM;rw[hbe];refine Wp.seq ?_;refine wR (J9 (aQ w S fp) a) dx ?_ ?_
    ·first|trivial|omega|(simp[hs];done)|(simp[hs];omega)|(simp[hs]<;>omega)
    refine wC dx (λhc=>?_) (λhc=>?_)
    ·have h2:¬ k<s.size\/bt s k≠125:=by
      simp at hc;omega
     rw[nG,if_pos h2];refine Wp.q7 (J9 (aQ w S fp) a) cj (ev dx) ?_ ?_
     ·first|trivial|omega|(simp[hs];done)|(simp[hs];omega)|(simp[hs]<;>omega)
     refine qq ?_;exact⟨_,rfl⟩
    ·have h2:¬ (¬ k<s.size\/bt s k≠125):=λh=>by
      apply Bool.eq_false_iff.1 hc;simp;omega
     rw[nG,if_neg h2];refine wK ?_;refine vR Γ0 (aa dx wk) ?_;refine Wp.seq ?_;refine vR Γ0 dx ?_;refine wC dx (λhc=>?_) (λhc=>?_)
     ·have h3:255<m\/255<n\/0<=n/\n<m:=by
       simp at hc;omega
      rw[if_pos h3];refine Wp.q7 (J9 (aQ w S fp) a) cj (ev dx) ?_ ?_
      ·first|trivial|omega|(simp[hs];done)|(simp[hs];omega)|(simp[hs]<;>omega)
      refine qq ?_;exact⟨_,rfl⟩
     ·have h3:¬ (255<m\/255<n\/0<=n/\n<m):=λh=>by
       apply Bool.eq_false_iff.1 hc;simp;omega
      rw[if_neg h3];refine wK ?_;refine wR (J9 (aQ w S fp) a) dx ?_ ?_
      ·exact⟨⟨cq g0,ha,_,_,_,rfl,oM,oM,oM,oM⟩,u0⟩
      refine Wp.jh 744 (ev (aa dx ga)) (cT.refl _ _) λW1 bs1 cs hx1 hΦ=>?_
      obtain⟨fv,rfl,hg,hv1⟩:=cK hΦ;refine wZ (bP dx ga hv1) ?_;exact fE hg rfl ((ev (aa dx @aA))) dE
def qV(a:RL):CI prog 262 where
 T:=251
 kinds:=[some (Sh.two,dT a)]
 pre:=λfs as_ W S=>∃ s i d op x,fs=xy s i d op/\as_=[x]/\a.1<=2001/\0<=i/\i<s.size/\s.size<=140737488351232
 premono:=λ_ _ _ _ _ _ _ h=>h
 out:=λfs as_=>match fs with
  |[.val (.string s),.val (.int .i64 i),.row 3 1 d op]=>U2 a s d op (ot (bt s) s.size i)
  |_=>.pan [] undef
 enters:=call262
 ok:=by
  intro w S u fp us fs as_ ho hlt hS hu hp;obtain⟨s,i,d,op,x,rfl,rfl,ha,h0,hi,hs⟩:=hp
  match us,hu with
  |[u1],hu=>
   obtain⟨h1,_⟩:=hu;obtain⟨fa,rfl,h1'⟩:=lE h1;exact NH s i d op a fa ha u fp w S h0 hi hs ho hlt hS h1'
theorem IZ(a:RL)(s:ByteArray)(i:Int)(d:Nat)(op:List Value)(as_:List AV):(qV a).out [.val (.string s),.val (.int .i64 i),.row 3 1 d op] as_=U2 a s d op (ot (bt s) s.size i):=rfl
theorem Ho(a:RL)(fs as_:List AV)(W:World)(S:Nat->Prop):(qV a).pre fs as_ W S=∃ s i d op x,fs=xy s i d op/\as_=[x]/\a.1<=2001/\0<=i/\i<s.size/\s.size<=140737488351232:=rfl
theorem BV(a:RL):(qV a).kinds=[some (Sh.two,dT a)]:=rfl
theorem SO(a:RL):(qV a).T=251:=rfl
theorem abQ(a:RL)(s:ByteArray)(d:Nat)(op:List Value)(m n j:Int):U2 a s d op (.ok (m,n,j))=.fact Sh.two (dT (dA a m n)) (xy s j d op):=rfl
theorem L9(a:RL)(s:ByteArray)(d:Nat)(op:List Value)(c j:Int):U2 a s d op (.error (c,j))=.pan (eH c j) yT:=rfl
noncomputable def UA(G:Nat->Prop)(a:RL):Env prog:=⟨λ| 127=>some ey.spec|179=>some iY.spec|260=>some ((zX a).spec G)|180=>some ((je .cat a (gm a)).spec G)|261=>some ((vy a).spec G)|262=>some ((qV a).spec G)|_=>none,λ_=>none,λ_ _=>none⟩
theorem aer(G:Nat->Prop)(a:RL):(UA G a).sp 127=some ey.spec:=rfl
theorem adr(G:Nat->Prop)(a:RL):(UA G a).sp 179=some iY.spec:=rfl
theorem agE(G:Nat->Prop)(a:RL):(UA G a).sp 260=some ((zX a).spec G):=rfl
theorem ahj(G:Nat->Prop)(a:RL):(UA G a).sp 180=some ((je .cat a (gm a)).spec G):=rfl
theorem aed(G:Nat->Prop)(a:RL):(UA G a).sp 261=some ((vy a).spec G):=rfl
theorem aeh(G:Nat->Prop)(a:RL):(UA G a).sp 262=some ((qV a).spec G):=rfl
def JH(s:ByteArray)(d:Nat)(op:List Value):Except (Int×Int) (RL×Int)->GOut
 |.ok (r,j)=>.fact Sh.two (dT r) (xy s j d op)
 |.error (c,j)=>.pan (eH c j) yT
theorem qQ(s:ByteArray)(d:Nat)(op:List Value)(r:RL)(j:Int):JH s d op (.ok (r,j))=.fact Sh.two (dT r) (xy s j d op):=rfl
theorem bT(s:ByteArray)(d:Nat)(op:List Value)(c j:Int):JH s d op (.error (c,j))=.pan (eH c j) yT:=rfl
theorem Dh(a:RL)(m n:Int)(ha:a.1<=2001):(dA a m n).1<=2001:=by
 have h1:(if m=0 then bL a else a).1<=2001:=by split;exact ny a;exact ha
 unfold dA;split
 ·exact pr a
 ·split
  ·decide
  ·split
   ·exact gh _ _ _
   ·exact pW _ (λx=>gh _ _ _) _ _ (pW _ (λx=>gh _ _ _) _ _ h1)
structure RI where
 W:World
 bs:List Nat
 fo:Value
 r:RL
 i:Int
 n:Nat
def dn:=(aj @List.replicate_succ.{0} @List.replicate_zero.{0} @an @ab jk jn gR (aj ck cf b9 b8 ca cc cg (aj cd fu fh fy ft fB Ac (aj Am Ag yE AM zG A0 Bo (aj AS zD A2 AH tg s4 sR (aj sM tn ui Ct C4 C7 @xy.eq_1 (aj @yh.eq_1 @eH.eq_1 @aG @al @ax @aw @ig (aj @lN @ix @iy @lV @lr @lq @qX (aj @zX.eq_1 @je.eq_1 @vy.eq_1 @aer @adr @agE @ahj (aj @aed @aeh @IZ @Ho @BV @SO @abQ @L9))))))))))
theorem GI(s:ByteArray)(i0:Int)(d:Nat)(op:List Value)(a:RL)(fa:Value)(ha:a.1<=2001)(u:Value)(fp:List Nat)(w:World)(S:Nat->Prop)(h0:0<=i0)(hi1:i0<=s.size)(hs:s.size<=140737488351232)
  (ho:bC w u fp 251 (xy s i0 d op)) (hlt:∀ b∈fp,b<w.heap.size) (hS:∀ b∈fp,¬ S b) (h1:bI w S fa a.2) :
  Calls prog 250 (#[u]++#[jg a fa]) w λe w' => CJ w S u fp 251 e w' (JH s d op (ju (bt s) s.size ((s.size:Int).toNat+1) a i0)):=by
 have ga:partsOf (.v (jg a fa))=[.v (.int .i64 (a.1:Nat)),.v fa]:=rfl;have u0:=aQ.up w S fp;have g0:=h1.mono (aQ.lZ w S fp hS);generalize hR:ju (bt s) s.size ((s.size:Int).toNat+1) a i0=R;refine jK (nt:=38) S #[jg a fa] [.cell 4 254] (by show 3<=7;omega) ho hlt func250 rfl rfl rfl ?_
 refine vR Γ0 (aa dn ga) ?_;refine Wp.seq (Wp.block ?_)
 refine Wp.C0 (λp:RI=>⟨5,bm [(0,.is (.own 0 0)),(3,.is (.own 8 0)),(4,.is (.own 16 0))],aY [(0,.cells 251 [.v (.string s),.v (.int .i64 p.i),.hd 3]),(3,.row 3 1 d (op.map .v)),(8,.cells 254 [.v (.int .i64 (p.r.1:Nat)),.v p.fo]),(16,.cells 254 [.v (.int .i64 0),.v .nilFunc])]⟩)
  RI.W RI.bs (λp=>(0<=p.i/\p.i<=s.size)/\p.r.1<=2001/\((s.size:Int)-p.i<p.n/\1<=p.n)/\bI p.W (jl (aQ w S fp) p.bs) p.fo p.r.2/\ju (bt s) s.size p.n p.r p.i=R) (λp=>p.n) ⟨w,fp,fa,a,i0,(s.size:Int).toNat+1⟩ rfl rfl ?_ ⟨⟨h0,hi1⟩,ha,⟨by simp only;omega,by simp only;omega⟩,g0,hR⟩ ?_
 ·exact wM (λx=>.key x) (aa dn ga)
 rintro⟨W1,bs1,fo,r,i,n⟩ ⟨⟨hi0,hiN⟩,hr,⟨hn,hn1⟩,hg,hR'⟩ hx1;simp only at hi0 hiN hr hn hn1 hg hR' hx1;dsimp only;obtain⟨n,rfl⟩:∃ m,n=m+1:=⟨n-1,oM⟩;have u1:=u0.ext hx1;refine Wp.seq ?_;refine wR (UA (aQ w S fp) r) dn ?_ ?_
 ·first|trivial|omega|(simp[hs];done)|(simp[hs];omega)|(simp[hs]<;>omega)
 refine wC dn (λhc=>?_) (λhc=>?_)
 ·have hi:i<s.size:=by
   simp at hc;omega
  rw[ju,if_neg oM]at hR';have wi:IntKind.i64.wrap (i+1)=i+1:=ae oM oM;refine wK ?_;refine Wp.block ?_;refine Wp.seq ?_;refine wR (UA (aQ w S fp) r) dn ?_ ?_
  ·first|trivial|omega|(simp[hs];done)|(simp[hs];omega)|(simp[hs]<;>omega)
  refine Wp.block ?_;refine vR Γ0 dn ?_;refine wC dn (λhc=>?_) (λhc=>?_)
  ·have h42:bt s i=42:=by simpa using hc
   rw[if_pos h42]at hR';refine Wp.more ?_;refine wr (UA (aQ w S fp) r) dn ?_ ?_
   ·exact⟨⟨cq hg,hr,_,rfl⟩,u1⟩
   refine fD ?_;refine Pw.jh 104 (ev dn) (cT.refl _ _) λW2 bs2 cs hx2 hΦ=>?_
   obtain⟨fv,rfl,hg2,hv2⟩:=cK hΦ;refine Pw.here ?_;refine qq ?_;refine vr Γ0 (aa dn wi) ?_;refine⟨⟨W2,bs2,fv,gm r,i+1,n⟩,⟨by simp only;omega,pr r,by simp only;omega,hg2,hR'⟩,by simp only;omega,rfl,rfl,?_⟩;exact wM (λx=>.key x) (aa dn hv2)
  ·have h42:¬ bt s i=42:=by simpa using hc
   rw[if_neg h42]at hR';refine vR Γ0 dn ?_;refine wC dn (λhc=>?_) (λhc=>?_)
   ·have h43:bt s i=43:=by simpa using hc
    rw[if_pos h43]at hR';refine Wp.more ?_;refine vZ (UA (aQ w S fp) r) dn ?_ ?_
    ·exact⟨⟨⟨cq hg,hr,_,rfl⟩,u1⟩,⟨cq hg,⟨hr,pr r⟩,_,_,rfl⟩,u1⟩
    refine fD ?_;refine Pw.jh 136 (ev dn) (cT.refl _ _) λW2 bs2 cs hx2 hΦ=>?_
    obtain⟨fv,rfl,hg2,hv2⟩:=cK hΦ;refine Pw.here ?_;refine qq ?_;refine vr Γ0 (aa dn wi) ?_;refine⟨⟨W2,bs2,fv,aX .cat r (gm r),i+1,n⟩,⟨by simp only;omega,gh _ _ _,by simp only;omega,hg2,hR'⟩,by simp only;omega,rfl,rfl,?_⟩;exact wM (λx=>.key x) (aa dn hv2)
   ·have h43:¬ bt s i=43:=by simpa using hc
    rw[if_neg h43]at hR';refine vR Γ0 dn ?_;refine wC dn (λhc=>?_) (λhc=>?_)
    ·have h63:bt s i=63:=by simpa using hc
     rw[if_pos h63]at hR';refine Wp.more ?_;refine wr (UA (aQ w S fp) r) dn ?_ ?_
     ·exact⟨⟨cq hg,hr,_,rfl⟩,u1⟩
     refine fD ?_;refine Pw.jh 136 (ev dn) (cT.refl _ _) λW2 bs2 cs hx2 hΦ=>?_
     obtain⟨fv,rfl,hg2,hv2⟩:=cK hΦ;refine Pw.here ?_;refine qq ?_;refine vr Γ0 (aa dn wi) ?_;refine⟨⟨W2,bs2,fv,bL r,i+1,n⟩,⟨by simp only;omega,ny r,by simp only;omega,hg2,hR'⟩,by simp only;omega,rfl,rfl,?_⟩;exact wM (λx=>.key x) (aa dn hv2)
    ·have h63:¬ bt s i=63:=by simpa using hc
     rw[if_neg h63]at hR';refine vR Γ0 dn ?_;refine wC dn (λhc=>?_) (λhc=>?_)
     ·have h123:bt s i=123:=by simpa using hc
      rw[if_pos h123]at hR';cases hB:ot (bt s) s.size i with
      |error e=>
       obtain⟨c,j⟩:=e;rw[hB]at hR';simp only at hR';rw[<- hR',bT];refine Wp.kF (UA (aQ w S fp) r) cj (ev (aa dn hB)) ?_ ?_
       ·exact⟨⟨cq hg,_,_,_,_,_,rfl,rfl,hr,hi0,hi,hs⟩,dE,sI⟩
       refine qq ?_;exact⟨_,rfl⟩
      |ok q=>
       obtain⟨m,k,j⟩:=q;rw[hB]at hR';simp only at hR';have hj:=zL hB;refine wR (UA (aQ w S fp) r) (aa dn hB) ?_ ?_
       ·exact⟨⟨cq hg,_,_,_,_,_,rfl,rfl,hr,hi0,hi,hs⟩,dE,sI,u1⟩
       refine Wp.jh 167 (ev dn) (cT.refl _ _) λW2 bs2 cs hx2 hΦ=>?_
       obtain⟨fv,rfl,hg2,hv2⟩:=cK hΦ;refine wE ?_;refine⟨⟨W2,bs2,fv,dA r m k,j,n⟩,⟨by simp only;omega,Dh _ _ _ hr,by simp only;omega,hg2,hR'⟩,by simp only;omega,rfl,rfl,?_⟩;exact wM (λx=>if x=3 then .key 162 else .key x) (aa dn hv2)
     ·have h123:¬ bt s i=123:=by simpa using hc
      rw[if_neg h123]at hR';refine wR Γ0 dn ?_ ?_
      ·exact hg.one
      refine wZ dn ?_;rw[<- hR'];exact fE hg rfl ((ev (aa dn @aA))) dE
 ·have hi:¬ i<s.size:=by
   simp at hc;omega
  rw[ju,if_pos hi]at hR';refine wE ?_;refine wR Γ0 dn ?_ ?_
  ·exact hg.one
  refine wZ dn ?_;rw[<- hR'];exact fE hg rfl ((ev (aa dn @aA))) dE
def mZ(a:RL):CI prog 250 where
 T:=251
 kinds:=[some (Sh.two,dT a)]
 pre:=λfs as_ W S=>∃ s i d op x,fs=xy s i d op/\as_=[x]/\a.1<=2001/\0<=i/\i<=s.size/\s.size<=140737488351232
 premono:=λ_ _ _ _ _ _ _ h=>h
 out:=λfs as_=>match fs with
  |[.val (.string s),.val (.int .i64 i),.row 3 1 d op]=>JH s d op (ju (bt s) s.size ((s.size:Int).toNat+1) a i)
  |_=>.pan [] undef
 enters:=call250
 ok:=by
  intro w S u fp us fs as_ ho hlt hS hu hp;obtain⟨s,i,d,op,x,rfl,rfl,ha,h0,hi,hs⟩:=hp
  match us,hu with
  |[u1],hu=>
   obtain⟨h1,_⟩:=hu;obtain⟨fa,rfl,h1'⟩:=lE h1;exact GI s i d op a fa ha u fp w S h0 hi hs ho hlt hS h1'
def gU(s:ByteArray)(i:Int):Except (Int×Int) (BitVec 256×Int):=match dZ s i with
 |.error j=>.error (10,j)
 |.ok (a,j)=>.ok (a,j)
def FI(f:FuncId)(E:ByteArray->Int->Except (Int×Int) (RL×Int))(need:ByteArray->Int->Prop)(n:Nat):Prop:=
 ∀ (s:ByteArray) (i:Int) (d:Nat) (op:List Value) (u:Value) (fp:List Nat) (w:World) (S:Nat->Prop),d+n=1000->op.length=d->0<=i->need s i->s.size<=140737488351232->bB w S ->
  bC w u fp 251 (xy s i d op)->(∀ b∈fp,b<w.heap.size)->(∀ b∈fp,¬ S b) ->
  Calls prog f (#[u]++#[]) w λe w' => CJ w S u fp 251 e w' (JH s d op (E s i))
abbrev HV (n:Nat):Prop:=FI 251 (λs i=>bx (bt s) s.size (gU s) n i) (λs i=>i<s.size) n
abbrev RW (n:Nat):Prop:=FI 216 (λs i=>fj (bt s) s.size (bx (bt s) s.size (gU s) n) ((s.size:Int).toNat+1) none i) (λs i=>i<=s.size) n
abbrev Ke (n:Nat):Prop:=FI 178 (λs i=>lG (bt s) s.size (fj (bt s) s.size (bx (bt s) s.size (gU s) n) ((s.size:Int).toNat+1) none) i) (λs i=>i<=s.size) n
abbrev V8 (n:Nat):Prop:=FI 126 (λs i=>xO (bt s) s.size (bx (bt s) s.size (gU s) n) i) (λs i=>i<=s.size) n
def nB(f:FuncId)(E:ByteArray->Int->Except (Int×Int) (RL×Int))(need:ByteArray->Int->Prop)(n:Nat)(hen:∀ args w,(callFunc f args).run prog w=.ok (.enter f args) w)(h:FI f E need n):CI prog f where
 T:=251
 kinds:=[]
 pre:=λfs as_ W S=>(∃ s i d op,fs=xy s i d op/\d+n=1000/\op.length=d/\0<=i/\need s i/\s.size<=140737488351232)/\bB W S
 premono:=λ_ _ _ _ _ _ hs h=>⟨h.1,h.2.mono hs⟩
 out:=λfs as_=>match fs with
  |[.val (.string s),.val (.int .i64 i),.row 3 1 d op]=>JH s d op (E s i)
  |_=>.pan [] undef
 enters:=hen
 ok:=by
  intro w S u fp us fs as_ ho hlt hS hu hp;obtain⟨⟨s,i,d,op,rfl,h1,h2,h3,h4,h5⟩,h6⟩:=hp
  match us,as_,hu with
  |[],[],_=>exact h s i d op u fp w S h1 h2 h3 h4 h5 h6 ho hlt hS
theorem tq(f:FuncId)(E:ByteArray->Int->Except (Int×Int) (RL×Int))(need:ByteArray->Int->Prop)(n:Nat)(hen)(h:FI f E need n)(s:ByteArray)(i:Int)(d:Nat)(op:List Value)(as_:List AV) :
  (nB f E need n hen h).out [.val (.string s),.val (.int .i64 i),.row 3 1 d op] as_=JH s d op (E s i):=rfl
theorem s8(f:FuncId)(E:ByteArray->Int->Except (Int×Int) (RL×Int))(need:ByteArray->Int->Prop)(n:Nat)(hen)(h:FI f E need n)(fs as_:List AV)(W:World)(S:Nat->Prop) :
  (nB f E need n hen h).pre fs as_ W S=((∃ s i d op,fs=xy s i d op/\d+n=1000/\op.length=d/\0<=i/\need s i/\s.size<=140737488351232)/\bB W S):=rfl
theorem oc(f:FuncId)(E:ByteArray->Int->Except (Int×Int) (RL×Int))(need:ByteArray->Int->Prop)(n:Nat)(hen)(h:FI f E need n):(nB f E need n hen h).kinds=[]:=rfl
theorem EX(f:FuncId)(E:ByteArray->Int->Except (Int×Int) (RL×Int))(need:ByteArray->Int->Prop)(n:Nat)(hen)(h:FI f E need n):(nB f E need n hen h).T=251:=rfl
theorem Ei(a:RL)(s:ByteArray)(i:Int)(d:Nat)(op:List Value)(as_:List AV):(mZ a).out [.val (.string s),.val (.int .i64 i),.row 3 1 d op] as_=JH s d op (ju (bt s) s.size ((s.size:Int).toNat+1) a i):=rfl
theorem FZ(a:RL)(fs as_:List AV)(W:World)(S:Nat->Prop):(mZ a).pre fs as_ W S=∃ s i d op x,fs=xy s i d op/\as_=[x]/\a.1<=2001/\0<=i/\i<=s.size/\s.size<=140737488351232:=rfl
theorem BA(a:RL):(mZ a).kinds=[some (Sh.two,dT a)]:=rfl
theorem Nz(a:RL):(mZ a).T=251:=rfl
noncomputable def Mw(G:Nat->Prop)(n:Nat)(h:HV n)(a x y:RL):Env prog:=⟨λ| 127=>some ey.spec|179=>some iY.spec|128=>some gv.spec|249=>some ((oC .eps).spec G)|180=>some ((je .cat x y).spec G)|250=>some ((mZ a).spec G)|251=>some ((nB _ _ _ n call251 h).spec G)|_=>none,λ_=>none,λ_ _=>none⟩
section
variable (G:Nat->Prop)(n:Nat)(h:HV n)(a x y:RL)
theorem abY:(Mw G n h a x y).sp 127=some ey.spec:=rfl
theorem af5:(Mw G n h a x y).sp 179=some iY.spec:=rfl
theorem afD:(Mw G n h a x y).sp 128=some gv.spec:=rfl
theorem adq:(Mw G n h a x y).sp 249=some ((oC .eps).spec G):=rfl
theorem afd:(Mw G n h a x y).sp 180=some ((je .cat x y).spec G):=rfl
theorem afA:(Mw G n h a x y).sp 250=some ((mZ a).spec G):=rfl
theorem adj:(Mw G n h a x y).sp 251=some ((nB _ _ _ n call251 h).spec G):=rfl
end
theorem F8{s:ByteArray}:∀ {n:Nat} {i:Int} {a b:CS} {j:Int},vf s n i a=.ok (b,j)->0<=i->i<j/\j<=s.size
 |0,i,a,b,j,h,_=>by cases h
 | n+1,i,a,b,j,h,h0=>by
  rw[vf]at h;split at h
  ·simp only[Except.ok.injEq,Prod.mk.injEq]at h;omega
  ·cases h1:eD s i mH with
   |error e=>rw[h1]at h;cases h
   | ok p=>
    obtain⟨lo,k⟩:=p;rw[h1]at h;simp only at h;have g1:=kO h1 h0;split at h
    ·cases h2:eD s (k+1) mH with
     |error e=>rw[h2]at h;cases h
     |ok p=>
      obtain⟨hi,l⟩:=p;rw[h2]at h;simp only at h;have g2:=kO h2 oM;split at h
      ·cases h
      ·have:=F8 h oM;omega
    ·have:=F8 h oM;omega
theorem BC{s:ByteArray}{i:Int}{a:CS}{j:Int}(h:dZ s i=.ok (a,j))(h0:0<=i)(h1:i<s.size):i<j/\j<=s.size:=by
 rw[dZ]at h;split at h
 ·simp only[Except.ok.injEq,Prod.mk.injEq]at h;omega
 ·split at h
  ·rw[fi]at h;cases hm:vf s (s.size+1) (if ji s (i+1) then i+1+1 else i+1) 0 with
   |error e=>rw[hm]at h;cases h
   |ok p=>
    obtain⟨b,k⟩:=p;rw[hm]at h;simp only[vv,Except.ok.injEq,Prod.mk.injEq]at h;have:=F8 hm (by split<;>omega);have hle:i+1<=(if ji s (i+1) then i+1+1 else i+1):=by split<;>omega
    omega
  ·cases h2:eD s i BI with
   |error e=>rw[h2]at h;cases h
   |ok p=>
    obtain⟨b,k⟩:=p;rw[h2]at h;simp only[ad1,Except.ok.injEq,Prod.mk.injEq]at h;have:=kO h2 h0;omega
theorem w8(s:ByteArray):vA s.size (gU s):=λi S j h0 h1 h=>by
 rw[gU]at h;cases h2:dZ s i with
 |error e=>rw[h2]at h;cases h
 |ok p=>
  obtain⟨a,k⟩:=p;rw[h2]at h;simp only[Except.ok.injEq,Prod.mk.injEq]at h;have:=BC h2 h0 h1;omega
theorem M6{s:ByteArray}{n:Nat}(hn:n<=1000){i j:Int}{r:RL}(h0:0<=i)(hi:i<s.size)(he:¬ gN (bt s i))(hp:¬ br (bt s i))(h:bx (bt s) s.size (gU s) n i=.ok (r,j)):i<j/\j<=s.size/\r.1<=2001:=by
 have:=s7 (c:=bt s) (w8 s) n i (gP 0) (List.replicate (1000-n) (gP 0)) h0 hi he hp (by simp;omega);rw[h]at this;obtain⟨h1,h2,t,rfl,_⟩:=this;exact⟨h1,h2,xl t⟩
theorem mK{s:ByteArray}:∀ {n:Nat} {r r' : RL} {i j:Int},ju (bt s) s.size n r i=.ok (r',j)->i<=s.size->r.1<=2001->i<=j/\j<=s.size/\r'.1<=2001
 |0,r,r',i,j,h,hi,hr=>by
  simp only[ju,Except.ok.injEq,Prod.mk.injEq]at h;obtain⟨rfl,rfl⟩:=h;exact⟨Int.le_refl _,hi,hr⟩
 | n+1,r,r',i,j,h,hi,hr=>by
  rw[ju]at h;split at h
  ·simp only[Except.ok.injEq,Prod.mk.injEq]at h;obtain⟨rfl,rfl⟩:=h;exact⟨Int.le_refl _,hi,hr⟩
  ·split at h
   ·have:=mK h oM (pr _);exact⟨oM,this.2⟩
   ·split at h
    ·have:=mK h oM (gh _ _ _);exact⟨oM,this.2⟩
    ·split at h
     ·have:=mK h oM (ny _);exact⟨oM,this.2⟩
     ·split at h
      ·cases hB:ot (bt s) s.size i with
       |error e=>rw[hB]at h;cases h
       |ok q=>
        obtain⟨m,k,l⟩:=q;rw[hB]at h;have hl:=zL hB;have:=mK h oM (Dh _ _ _ hr);exact⟨oM,this.2⟩
      ·simp only[Except.ok.injEq,Prod.mk.injEq]at h;obtain⟨rfl,rfl⟩:=h;exact⟨Int.le_refl _,hi,hr⟩
theorem ag4(o:Option RL)(p:RL)(hp:p.1<=2001):(yF o p).1<=2001:=by
 cases o with
 |none=>exact hp
 |some x=>exact gh _ _ _
structure RO where
 W:World
 bs:List Nat
 fo:Value
 o:Option RL
 i:Int
 n:Nat
def bG:=(aj @List.replicate_succ.{0} @List.replicate_zero.{0} @an @ab jk jn gR (aj ck cf b9 b8 ca cc cg (aj cd fu fh fy ft fB aaO (aj aaJ Ys ZM vN wx wL w7 (aj Ac Am Ag yE AM zG A0 (aj Bo AS zD A2 AH tg s4 (aj sR sM tn ui Oj Qt Qi (aj OC Pr Ox OZ Ct C4 C7 (aj @xy.eq_1 @yh.eq_1 @eH.eq_1 @aG @al @ax @aw (aj @ig @lN @ix @iy @lV @lr @lq (aj @qX @j5 @ki @mM @oC.eq_1 @je.eq_1 @qQ (aj @bT @tq @s8 @oc @EX @Ei @FZ (aj @BA @Nz @abY @af5 @afD @adq @afd (aa @afA @adj))))))))))))))
theorem O8(n:Nat)(hA:HV n):RW n:=by
 intro s i0 d op u fp w S hdn hop h0 hi1 hs hesc ho hlt hS;have u0:=aQ.up w S fp;have e0:=hesc.mono (aQ.lZ w S fp hS);dsimp only;generalize hR:fj (bt s) s.size (bx (bt s) s.size (gU s) n) ((s.size:Int).toNat+1) none i0=R
 refine jK (nt:=41) S #[] [.cell 2 254] (by show 3<=7;omega) ho hlt func216 rfl rfl rfl ?_;refine vR Γ0 bG ?_;refine wR (Mw (aQ w S fp) n hA (bY .eps) (bY .eps) (bY .eps)) bG ?_ ?_
 ·exact⟨rfl,u0⟩
 refine Wp.jh 32 (ev bG) (cT.refl _ _) λW0 bs0 cs hx0 hΦ=>?_
 obtain⟨fv,rfl,hg,hv1⟩:=cK hΦ;have u00:=u0.ext hx0;refine Wp.seq (Wp.block ?_)
 refine Wp.C0 (λp:RO=>⟨10,bm [(0,.is (.own 0 0)),(2,.is (.own 8 0)),(3,.is (.own 40 0)),(4,.is (.v (.bool p.o.isSome)))],aY [(0,.cells 251 [.v (.string s),.v (.int .i64 p.i),.hd 3]),(3,.row 3 1 d (op.map .v)),(8,.cells 254 [.v (.int .i64 0),.v .nilFunc]),(40,.cells 254 [.v (.int .i64 ((vm p.o).1:Nat)),.v p.fo])]⟩)
  RO.W RO.bs (λp=>(0<=p.i/\p.i<=s.size)/\(vm p.o).1<=2001/\((s.size:Int)-p.i<p.n/\1<=p.n)/\bI p.W (jl (aQ w S fp) p.bs) p.fo (vm p.o).2/\fj (bt s) s.size (bx (bt s) s.size (gU s) n) p.n p.o p.i=R) (λp=>p.n) ⟨W0,bs0,fv,none,i0,(s.size:Int).toNat+1⟩ rfl rfl ?_ ⟨⟨h0,hi1⟩,by show 1<=2001;omega,⟨by simp only;omega,by simp only;omega⟩,hg,hR⟩ ?_
 ·exact wM (λx=>.key x) (oA bG hv1 @vm.eq_1 @bY.eq_1 @Option.getD_none.{0})
 rintro⟨W1,bs1,fo,o,i,k⟩ ⟨⟨hi0,hiN⟩,hr,⟨hn,hn1⟩,hg,hR'⟩ hx1;simp only at hi0 hiN hr hn hn1 hg hR' hx1;dsimp only;obtain⟨k,rfl⟩:∃ m,k=m+1:=⟨k-1,oM⟩;have hx01:=hx0.trans hx1;have u1:=u0.ext hx01;have e1:=e0.mono hx01.Gu;refine Wp.seq ?_
 refine wR (Mw (aQ w S fp) n hA (bY .eps) (bY .eps) (bY .eps)) bG ?_ ?_
 ·first|trivial|omega|(simp[hs];done)|(simp[hs];omega)|(simp[hs]<;>omega)
 refine wC bG (λhc=>?_) (λhc=>?_)
 ·have hi:i<s.size:=by
   simp at hc;omega
  rw[fj,if_neg oM]at hR';refine wK ?_;refine Wp.block ?_;refine Wp.seq ?_;refine wR (Mw (aQ w S fp) n hA (bY .eps) (bY .eps) (bY .eps)) bG ?_ ?_
  ·first|trivial|omega|(simp[hs];done)|(simp[hs];omega)|(simp[hs]<;>omega)
  refine Wp.block ?_
  refine aV ⟨30,bm [(0,.is (.own 0 0)),(2,.is (.own 8 0)),(3,.is (.own 40 0)),(4,.is (.v (.bool o.isSome))),(13,.is (.v (.int .u8 (bt s i)))),(14,.is (.v (.bool (decide (gN (bt s i))))))],aY [(0,.cells 251 [.v (.string s),.v (.int .i64 i),.hd 3]),(3,.row 3 1 d (op.map .v)),(8,.cells 254 [.v (.int .i64 0),.v .nilFunc]),(40,.cells 254 [.v (.int .i64 ((vm o).1:Nat)),.v fo])]⟩ ?_ ?_
  ·skip;refine vR Γ0 bG ?_;refine wC bG (λhc=>?_) (λhc=>?_)
   ·have e:decide (gN (bt s i))=true:=decide_eq_true (show gN (bt s i) from .inl (by simpa using hc));refine wK ?_;exact wM (λx=>.key x) (bP bG hc e)
   ·have hc1:=hc;refine vR Γ0 bG ?_;refine wC bG (λhc=>?_) (λhc=>?_)
    ·have e:decide (gN (bt s i))=true:=decide_eq_true (show gN (bt s i) from .inr (.inl (by simpa using hc)));refine wK ?_;exact wM (λx=>.key x) (bP bG hc e)
    ·have hc2:=hc;refine vR Γ0 bG ?_;refine wC bG (λhc=>?_) (λhc=>?_)
     ·have e:decide (gN (bt s i))=true:=decide_eq_true (show gN (bt s i) from .inr (.inr (.inl (by simpa using hc))));refine wK ?_;exact wM (λx=>.key x) (bP bG hc e)
     ·have e:decide (gN (bt s i))=decide (bt s i=41):=by
       have g1:¬ bt s i=124:=by simpa using hc1
       have g2:¬ bt s i=38:=by simpa using hc2
       have g3:¬ bt s i=45:=by simpa using hc
       rw[decide_eq_decide];unfold gN;omega
      refine vr Γ0 bG ?_;exact wM (λx=>.key x) (aa bG e)
  refine wC bG (λhc=>?_) (λhc=>?_)
  ·have he:gN (bt s i):=by simpa using hc
   rw[if_pos he]at hR';refine wR Γ0 bG ?_ ?_
   ·exact hg.one
   refine wZ bG ?_;rw[<- hR'];exact fE hg rfl ((ev (aa bG @aA))) dE
  ·have he:¬ gN (bt s i):=by simpa using hc
   rw[if_neg he]at hR'
   refine aV ⟨50,bm [(0,.is (.own 0 0)),(2,.is (.own 8 0)),(3,.is (.own 40 0)),(4,.is (.v (.bool o.isSome))),(20,.is (.v (.bool (decide (br (bt s i))))))],aY [(0,.cells 251 [.v (.string s),.v (.int .i64 i),.hd 3]),(3,.row 3 1 d (op.map .v)),(8,.cells 254 [.v (.int .i64 0),.v .nilFunc]),(40,.cells 254 [.v (.int .i64 ((vm o).1:Nat)),.v fo])]⟩ ?_ ?_
   ·skip;refine vR Γ0 bG ?_;refine wC bG (λhc=>?_) (λhc=>?_)
    ·have e:decide (br (bt s i))=true:=decide_eq_true (show br (bt s i) from .inl (by simpa using hc));refine wK ?_;exact wM (λx=>.key x) (bP bG hc e)
    ·have hc1:=hc;refine vR Γ0 bG ?_;refine wC bG (λhc=>?_) (λhc=>?_)
     ·have e:decide (br (bt s i))=true:=decide_eq_true (show br (bt s i) from .inr (.inl (by simpa using hc)));refine wK ?_;exact wM (λx=>.key x) (bP bG hc e)
     ·have hc2:=hc;refine vR Γ0 bG ?_;refine wC bG (λhc=>?_) (λhc=>?_)
      ·have e:decide (br (bt s i))=true:=decide_eq_true (show br (bt s i) from .inr (.inr (.inl (by simpa using hc))));refine wK ?_;exact wM (λx=>.key x) (bP bG hc e)
      ·have e:decide (br (bt s i))=decide (bt s i=123):=by
        have g1:¬ bt s i=42:=by simpa using hc1
        have g2:¬ bt s i=43:=by simpa using hc2
        have g3:¬ bt s i=63:=by simpa using hc
        rw[decide_eq_decide];unfold br;omega
       refine vr Γ0 bG ?_;exact wM (λx=>.key x) (aa bG e)
   refine wC bG (λhc=>?_) (λhc=>?_)
   ·have hp:br (bt s i):=by simpa using hc
    rw[if_pos hp]at hR';rw[<- hR',bT];refine Wp.q7 (Mw (aQ w S fp) n hA (bY .eps) (bY .eps) (bY .eps)) cj (ev bG) ?_ ?_
    ·first|trivial|omega|(simp[hs];done)|(simp[hs];omega)|(simp[hs]<;>omega)
    refine qq ?_;exact⟨_,rfl⟩
   ·have hp:¬ br (bt s i):=by simpa using hc
    rw[if_neg hp]at hR';refine wK ?_;cases hAt:bx (bt s) s.size (gU s) n i with
    |error e=>
     obtain⟨c,j⟩:=e;rw[hAt]at hR';simp only at hR';rw[<- hR',bT];refine Wp.kF (Mw (aQ w S fp) n hA (bY .eps) (bY .eps) (bY .eps)) cj (ev (aa bG hAt)) ?_ ?_
     ·exact⟨⟨⟨_,_,_,_,rfl,hdn,hop,hi0,hi,hs⟩,e1⟩,dE,sI⟩
     refine qq ?_;exact⟨_,rfl⟩
    | ok q=>
     obtain⟨a,j⟩:=q;have ha:=M6 oM hi0 hi he hp hAt;rw[hAt]at hR';simp only at hR';cases hRp:ju (bt s) s.size ((s.size:Int).toNat+1) a j with
     |error e=>
      obtain⟨c,l⟩:=e;rw[hRp]at hR';simp only at hR';rw[<- hR',bT];have hRp' := hRp;rw[Int.toNat_natCast]at hRp';refine Wp.kF (Mw (aQ w S fp) n hA a (bY .eps) (bY .eps)) cj (ev (bP bG hAt hRp')) ?_ ?_
      ·exact⟨⟨⟨⟨_,_,_,_,rfl,hdn,hop,hi0,hi,hs⟩,e1⟩,dE,sI,u1⟩,⟨_,_,_,_,_,rfl,rfl,ha.2.2,oM,ha.2.1,hs⟩,dE,sI⟩
      refine qq ?_;exact⟨_,rfl⟩
     | ok q=>
      obtain⟨p,l⟩:=q;have hp1:=mK hRp ha.2.1 ha.2.2;rw[hRp]at hR';simp only at hR';have hRp' := hRp;rw[Int.toNat_natCast]at hRp';refine wR (Mw (aQ w S fp) n hA a (bY .eps) (bY .eps)) (bP bG hAt hRp') ?_ ?_
      ·exact⟨⟨⟨⟨_,_,_,_,rfl,hdn,hop,hi0,hi,hs⟩,e1⟩,dE,sI,u1⟩,⟨_,_,_,_,_,rfl,rfl,ha.2.2,oM,ha.2.1,hs⟩,dE,sI,u1⟩
      refine Wp.jh 431 (ev bG) (cT.refl _ _) λW2 bs2 cs hx2 hΦ=>?_
      obtain⟨fp2,rfl,hg2,hv2⟩:=cK hΦ;have hgo:=hg.mono hx2.Gu;have u2:=u1.ext hx2
      refine kP (λp2:TI=>⟨70,bm [(0,.is (.own 0 0)),(2,.is (.own 8 0)),(3,.is (.own 40 0)),(5,.is (.own 432 0))],aY [(0,.cells 251 [.v (.string s),.v (.int .i64 l),.hd 3]),(3,.row 3 1 d (op.map .v)),(8,.cells 254 [.v (.int .i64 0),.v .nilFunc]),(40,.cells 254 [.v (.int .i64 ((vm o).1:Nat)),.v fo]),(432,.cells 254 [.v (.int .i64 ((yF o p).1:Nat)),.v p2.fo])]⟩) TI.W TI.bs
       (λp2=>bI p2.W (jl (aQ w S fp) p2.bs) p2.fo (yF o p).2) ?_ ?_
      ·skip;refine vR Γ0 bG ?_;refine wC bG (λhc=>?_) (λhc=>?_)
       ·obtain⟨x,rfl⟩:=Option.isSome_iff_exists.1 hc;refine Wp.more ?_;refine wr (Mw (aQ w S fp) n hA a x p) (bP bG hv2 @vm.eq_1) ?_ ?_
        ·exact⟨⟨⟨cq hgo,cq hg2⟩,⟨hr,hp1.2.2⟩,_,_,rfl⟩,u2⟩
        refine fD ?_;refine Pw.jh 472 (ev (aa bG hv2)) (cT.refl _ _) λW3 bs3 cs hx3 hΦ3=>?_
        obtain⟨fp3,rfl,hg3,hv3⟩:=cK hΦ3;refine Pw.here ?_;refine qq ?_;refine⟨⟨W3,bs3,fp3,0⟩,hg3,rfl,rfl,?_⟩;exact wM (λx=>if x=3 then .key 426 else .key x) (oA bG hv2 hv3 @yF.eq_1 @yF.eq_2)
       ·have ho2:o=none:=by cases o with|none=>rfl|some x=>cases hc
        subst ho2;refine wK ?_;refine⟨⟨W2,bs2,fp2,0⟩,hg2,rfl,rfl,?_⟩;exact wM (λx=>if x=3 then .key 426 else .key x) (eS bG hv2 @yF.eq_1 @yF.eq_2)
      rintro⟨W3,bs3,fo3,j3⟩ hg3 hx3;simp only at hg3 hx3;dsimp only;refine wr Γ0 bG ?_ ?_
      ·exact hg3.one
      refine⟨⟨W3,bs3,fo3,some (yF o p),l,k⟩,⟨by simp only;omega,ag4 o p hp1.2.2,by simp only;omega,hg3,hR'⟩,by simp only;omega,rfl,rfl,?_⟩;exact wM (λx=>.key x) (aa bG @vm.eq_1)
 ·have hi:¬ i<s.size:=by
   simp at hc;omega
  rw[fj,if_pos hi]at hR';refine wE ?_;refine wR Γ0 bG ?_ ?_
  ·exact hg.one
  refine wZ bG ?_;rw[<- hR'];exact fE hg rfl ((ev (aa bG @aA))) dE
noncomputable def Γ48(G:Nat->Prop)(n:Nat)(h:RW n)(x y:RL):Env prog:=⟨λ| 127=>some ey.spec|179=>some iY.spec|180=>some ((je .and x y).spec G)|216=>some ((nB _ _ _ n call216 h).spec G)|_=>none,λ_=>none,λ_ _=>none⟩
noncomputable def Γ49(G:Nat->Prop)(n:Nat)(h:RW n)(x y:RL):Env prog:=⟨λ| 127=>some ey.spec|179=>some iY.spec|180=>some ((je .minus x y).spec G)|216=>some ((nB _ _ _ n call216 h).spec G)|_=>none,λ_=>none,λ_ _=>none⟩
noncomputable def Γ50(G:Nat->Prop)(n:Nat)(h:Ke n)(x y:RL):Env prog:=⟨λ| 127=>some ey.spec|179=>some iY.spec|180=>some ((je .alt x y).spec G)|178=>some ((nB _ _ _ n call178 h).spec G)|_=>none,λ_=>none,λ_ _=>none⟩
def alv:FK:=⟨λ_ _ _=>True,λ_ _=>trivial⟩
def Ae:=(aj @List.replicate_succ.{0} @List.replicate_zero.{0} @an @ab jk jn gR (aj ck cf b9 b8 ca cc cg (aj cd fu fh fy ft fB Ac (aj Am Ag yE AM zG A0 Bo (aj AS zD A2 AH Qg Qn PH (aj tg s4 sR sM tn ui Ct (aj C4 C7 @xy.eq_1 @yh.eq_1 @eH.eq_1 @aG @al (aj @ax @aw @ig @lN @ix @iy @lV (aj @lr @lq @qX @je.eq_1 @qQ @bT @tq (ml @s8 @oc @EX @OB @wF @vV))))))))))
theorem SX(na nb:Nat)(fa fb g:Value)(ha:na<=2001)(hb:nb<=2001)(h1:fa.oneCell' = true)(h2:fb.oneCell' = true)(h3:g.oneCell' = true)(hg:partsOf (.v g)=[.v g])(w:World)(S:Nat->Prop) :
  Calls prog 180 #[.agg #[.int .i64 (na:Nat),fa],.agg #[.int .i64 (nb:Nat),fb],g] w λe w' => rh w S e w' (.fact Sh.two alv):=by
 have ga:partsOf (.v (.agg #[.int .i64 (na:Nat),fa]))=[.v (.int .i64 (na:Nat)),.v fa]:=rfl;have gb:partsOf (.v (.agg #[.int .i64 (nb:Nat),fb]))=[.v (.int .i64 (nb:Nat)),.v fb]:=rfl;have w1:=Qk ha hb;refine jx (nt:=16) S [.cell 6 254] func180 rfl rfl rfl ?_;refine vR Γ40 (eS Ae ga gb hg) ?_
 refine vR Γ40 (ml Ae ga gb hg w1 @ly) ?_;refine Wp.oz 0 (ev (eS Ae ga gb hg)) (λE=>by simp only[au,den,ga,gb,hg];exact rfl) λW1 bs1 b3 hx1 hb3 hn3 hc3=>?_
 refine Wp.oz 8 (ev (eS Ae ga gb hg)) (λE=>by simp only[au,den,ga,gb,hg];exact rfl) λW2 bs2 b4 hx2 hb4 hn4 hc4=>?_
 refine Wp.oz 16 (ev (eS Ae ga gb hg)) (λE=>by simp only[au,den,ga,gb,hg];exact rfl) λW3 bs3 b5 hx3 hb5 hn5 hc5=>?_
 refine wZ (ml Ae ga gb hg w1 @ly) ?_;exact⟨[.int .i64 ((cG (1+na+nb):Nat):Int),.func (.func 220) #[] #[oq b5,oq b3,oq b4]],λE=>rfl,trivial⟩
def Jm:rz prog 180 where
 kinds:=[none,none,none]
 pre:=λas_ _ _=>∃ (na nb:Nat) (fa fb:Value) (g:Jn),as_=[.val (.agg #[.int .i64 (na:Nat),fa]),.val (.agg #[.int .i64 (nb:Nat),fb]),.val g.v]/\na<=2001/\nb<=2001/\fa.oneCell' = true/\fb.oneCell' = true
 premono:=λ_ _ _ _ _ _ h=>h
 out:=λ_=>.fact Sh.two alv
 enters:=call180
 ok:=by
  intro w S us as_ hu hp;obtain⟨na,nb,fa,fb,g,rfl,ha,hb,h1,h2⟩:=hp
  match us,hu with
  |[u1,u2,u3],hu=>
   obtain⟨rfl,rfl,rfl,_⟩:=hu;exact SX na nb fa fb g.v ha hb h1 h2 rfl rfl w S
noncomputable def Γ51(G:Nat->Prop)(n:Nat)(h:RW n):Env prog:=⟨λ| 180=>some (Jm.spec G)|216=>some ((nB _ _ _ n call216 h).spec G)|_=>none,λ_=>none,λ_ _=>none⟩
noncomputable def Γ52(G:Nat->Prop)(n:Nat)(h:Ke n):Env prog:=⟨λ| 180=>some (Jm.spec G)|178=>some ((nB _ _ _ n call178 h).spec G)|_=>none,λ_=>none,λ_ _=>none⟩
section
variable (G:Nat->Prop)(n:Nat)(h:RW n)(h' : Ke n)(x y:RL)
theorem af3:(Γ51 G n h).sp 180=some (Jm.spec G):=rfl
theorem agm:(Γ51 G n h).sp 216=some ((nB _ _ _ n call216 h).spec G):=rfl
theorem abp:(Γ52 G n h').sp 180=some (Jm.spec G):=rfl
theorem acd:(Γ52 G n h').sp 178=some ((nB _ _ _ n call178 h').spec G):=rfl
theorem ag7:(Γ48 G n h x y).sp 127=some ey.spec:=rfl
theorem ach:(Γ48 G n h x y).sp 179=some iY.spec:=rfl
theorem afq:(Γ48 G n h x y).sp 180=some ((je .and x y).spec G):=rfl
theorem ag5:(Γ48 G n h x y).sp 216=some ((nB _ _ _ n call216 h).spec G):=rfl
theorem acK:(Γ49 G n h x y).sp 127=some ey.spec:=rfl
theorem acA:(Γ49 G n h x y).sp 179=some iY.spec:=rfl
theorem agI:(Γ49 G n h x y).sp 180=some ((je .minus x y).spec G):=rfl
theorem aeR:(Γ49 G n h x y).sp 216=some ((nB _ _ _ n call216 h).spec G):=rfl
theorem aeG:(Γ50 G n h' x y).sp 127=some ey.spec:=rfl
theorem acC:(Γ50 G n h' x y).sp 179=some iY.spec:=rfl
theorem acv:(Γ50 G n h' x y).sp 180=some ((je .alt x y).spec G):=rfl
theorem aec:(Γ50 G n h' x y).sp 178=some ((nB _ _ _ n call178 h').spec G):=rfl
end
theorem uv{s:ByteArray}{m:Nat}(hm:m<=1000){i j:Int}{r:RL}(h0:0<=i)(hi:i<=s.size)(h:fj (bt s) s.size (bx (bt s) s.size (gU s) m) ((s.size:Int).toNat+1) none i=.ok (r,j)):i<=j/\j<=s.size/\r.1<=2001:=by
 have:=Gb (w8 s) (s7 (c:=bt s) (w8 s) m) ((s.size:Int).toNat+1) i (gP 0) (List.replicate (1000-m) (gP 0)) h0 hi oM (λh=>absurd rfl h) (by simp;omega);have e0:(rowOf (gP 0).row (gP 0).fac).map RT.val=none:=rfl;rw[e0,h]at this;obtain⟨h1,h2,_,row,fac,rfl,_⟩:=this;exact⟨h1,h2,xl _⟩
theorem zW{s:ByteArray}{m:Nat}(hm:m<=1000){i j:Int}{r:RL}(h0:0<=i)(hi:i<=s.size)(h:lG (bt s) s.size (fj (bt s) s.size (bx (bt s) s.size (gU s) m) ((s.size:Int).toNat+1) none) i=.ok (r,j)):i<=j/\j<=s.size/\r.1<=2001:=by
 have:=AZ (w8 s) (s7 (c:=bt s) (w8 s) m) i (gP 0) (List.replicate (1000-m) (gP 0)) h0 hi (by simp;omega) rfl rfl rfl;rw[h]at this;obtain⟨h1,h2,_,g,_,_,rfl,_⟩:=this;exact⟨h1,h2,xl _⟩
theorem DU{s:ByteArray}{m:Nat}(hm:m<=1000){i j:Int}{r:RL}(h0:0<=i)(hi:i<=s.size)(h:xO (bt s) s.size (bx (bt s) s.size (gU s) m) i=.ok (r,j)):i<=j/\j<=s.size/\r.1<=2001/\(j<s.size->bt s j=41):=by
 have:=EB (w8 s) (s7 (c:=bt s) (w8 s) m) i 0 (List.replicate (1000-m) (gP 0)) h0 hi (by simp;omega);rw[h]at this;obtain⟨h1,h2,h3,g,_,rfl,_⟩:=this;exact⟨h1,h2,xl _,h3⟩
def ct:=(aj Ae @af3 @agm @abp @acd @Jm.eq_1 @yT.eq_1 (aj @ag7 @ach @afq @ag5 @acK @acA @agI (oA @aeR @aeG @acC @acv @aec)))
theorem Dg(n:Nat)(hA:RW n):Ke n:=by
 intro s i0 d op u fp w S hdn hop h0 hi1 hs hesc ho hlt hS;have u0:=aQ.up w S fp;have e0:=hesc.mono (aQ.lZ w S fp hS);dsimp only;unfold lG;refine jK (nt:=39) S #[] [.cell 2 254] (by show 3<=7;omega) ho hlt func178 rfl rfl rfl ?_;refine vR Γ0 ct ?_
 cases hF:fj (bt s) s.size (bx (bt s) s.size (gU s) n) ((s.size:Int).toNat+1) none i0 with
 |error e=>
  obtain⟨c,j⟩:=e;simp only;rw[bT];have hF' := hF;rw[Int.toNat_natCast]at hF';refine Wp.kF (Γ48 (aQ w S fp) n hA (bY .eps) (bY .eps)) cj (ev (aa ct hF')) ?_ ?_
  ·exact⟨⟨⟨_,_,_,_,rfl,hdn,hop,h0,hi1,hs⟩,e0⟩,dE,sI⟩
  refine qq ?_;exact⟨_,rfl⟩
 | ok q=>
  obtain⟨r0,j0⟩:=q;simp only;have hr0:=uv oM h0 hi1 hF;have hF' := hF;rw[Int.toNat_natCast]at hF';generalize hR:lS (bt s) s.size (fj (bt s) s.size (bx (bt s) s.size (gU s) n) ((s.size:Int).toNat+1) none) ((s.size:Int).toNat+1) r0 j0=R
  refine wR (Γ48 (aQ w S fp) n hA (bY .eps) (bY .eps)) (aa ct hF') ?_ ?_
  ·exact⟨⟨⟨_,_,_,_,rfl,hdn,hop,h0,hi1,hs⟩,e0⟩,dE,sI,u0⟩
  refine Wp.jh 31 (ev ct) (cT.refl _ _) λW0 bs0 cs hx0 hΦ=>?_
  obtain⟨fv,rfl,hg,hv1⟩:=cK hΦ;have u00:=u0.ext hx0;refine Wp.seq (Wp.block ?_)
  refine Wp.C0 (λp:RI=>⟨10,bm [(0,.is (.own 0 0)),(2,.is (.own 8 0)),(3,.is (.own 32 0))],aY [(0,.cells 251 [.v (.string s),.v (.int .i64 p.i),.hd 3]),(3,.row 3 1 d (op.map .v)),(8,.cells 254 [.v (.int .i64 0),.v .nilFunc]),(32,.cells 254 [.v (.int .i64 (p.r.1:Nat)),.v p.fo])]⟩)
   RI.W RI.bs (λp=>(0<=p.i/\p.i<=s.size)/\p.r.1<=2001/\((s.size:Int)-p.i<p.n/\1<=p.n)/\bI p.W (jl (aQ w S fp) p.bs) p.fo p.r.2/\lS (bt s) s.size (fj (bt s) s.size (bx (bt s) s.size (gU s) n) ((s.size:Int).toNat+1) none) p.n p.r p.i=R) (λp=>p.n) ⟨W0,bs0,fv,r0,j0,(s.size:Int).toNat+1⟩ rfl rfl ?_ ⟨⟨by simp only;omega,hr0.2.1⟩,hr0.2.2,⟨by simp only;omega,by simp only;omega⟩,hg,hR⟩ ?_
  ·exact wM (λx=>if x=3 then .key 26 else .key x) (aa ct hv1)
  rintro⟨W1,bs1,fo,r,i,k⟩ ⟨⟨hi0,hiN⟩,hr,⟨hn,hn1⟩,hg,hR'⟩ hx1;simp only at hi0 hiN hr hn hn1 hg hR' hx1;dsimp only;obtain⟨k,rfl⟩:∃ m,k=m+1:=⟨k-1,oM⟩;have hx01:=hx0.trans hx1;have u1:=u0.ext hx01;have e1:=e0.mono hx01.Gu;refine Wp.seq ?_;refine wR (Γ48 (aQ w S fp) n hA (bY .eps) (bY .eps)) ct ?_ ?_
  ·first|trivial|omega|(simp[hs];done)|(simp[hs];omega)|(simp[hs]<;>omega)
  refine wC ct (λhc=>?_) (λhc=>?_)
  ·have hi:i<s.size:=by
    simp at hc;omega
   rw[lS,if_neg oM]at hR';refine wK ?_;refine Wp.block ?_;refine wR (Γ48 (aQ w S fp) n hA (bY .eps) (bY .eps)) ct ?_ ?_
   ·first|trivial|omega|(simp[hs];done)|(simp[hs];omega)|(simp[hs]<;>omega)
   refine Wp.block ?_;refine vR Γ0 ct ?_;refine wC ct (λhc=>?_) (λhc=>?_)
   ·have h38:bt s i=38:=by simpa using hc
    rw[if_pos h38]at hR';have wi:IntKind.i64.wrap (i+1)=i+1:=ae oM oM;refine vR Γ0 (aa ct wi) ?_;cases hF2:fj (bt s) s.size (bx (bt s) s.size (gU s) n) ((s.size:Int).toNat+1) none (i+1) with
    |error e=>
     obtain⟨c,j⟩:=e;rw[hF2]at hR';simp only at hR';rw[<- hR',bT];have hF2' := hF2;rw[Int.toNat_natCast]at hF2';refine Wp.Px (Γ51 (aQ w S fp) n hA) cj (ev (bP ct hF2' wi)) rfl (by kernel_rfl) ?_ ?_
     ·exact⟨⟨⟨⟨_,_,_,_,rfl,hdn,hop,oM,oM,hs⟩,e1⟩,dE,sI⟩,⟨r.1,0,fo,.nilFunc,.and,rfl,hr,oM,hg.one,rfl⟩,u1⟩
     refine qq ?_;exact⟨_,rfl⟩
    |ok q=>
     obtain⟨r2,j2⟩:=q;rw[hF2]at hR';simp only at hR';have hr2:=uv oM oM oM hF2;have hF2' := hF2;rw[Int.toNat_natCast]at hF2';refine Wp.more ?_;refine vZ (Γ48 (aQ w S fp) n hA r r2) (bP ct hF2' wi) ?_ ?_
     ·exact⟨⟨⟨⟨_,_,_,_,rfl,hdn,hop,oM,oM,hs⟩,e1⟩,dE,sI,u1⟩,⟨cq hg,⟨hr,hr2.2.2⟩,_,_,rfl⟩,u1⟩
     refine fD ?_;refine Pw.jh 224 (ev ct) (cT.refl _ _) λW2 bs2 cs hx2 hΦ2=>?_
     obtain⟨fv2,rfl,hg2,hv2⟩:=cK hΦ2;refine Pw.here ?_;refine qq ?_;refine⟨⟨W2,bs2,fv2,aX .and r r2,j2,k⟩,⟨by simp only;omega,gh _ _ _,by simp only;omega,hg2,hR'⟩,by simp only;omega,rfl,rfl,?_⟩;exact wM (λx=>if x=3 then .key 218 else .key x) (aa ct hv2)
   ·have h38:¬ bt s i=38:=by simpa using hc
    rw[if_neg h38]at hR';refine vR Γ0 ct ?_;refine wC ct (λhc=>?_) (λhc=>?_)
    ·have h45:bt s i=45:=by simpa using hc
     rw[if_pos h45]at hR';have wi:IntKind.i64.wrap (i+1)=i+1:=ae oM oM;refine vR Γ0 (aa ct wi) ?_;cases hF2:fj (bt s) s.size (bx (bt s) s.size (gU s) n) ((s.size:Int).toNat+1) none (i+1) with
     |error e=>
      obtain⟨c,j⟩:=e;rw[hF2]at hR';simp only at hR';rw[<- hR',bT];have hF2' := hF2;rw[Int.toNat_natCast]at hF2';refine Wp.Px (Γ51 (aQ w S fp) n hA) cj (ev (bP ct hF2' wi)) rfl (by kernel_rfl) ?_ ?_
      ·exact⟨⟨⟨⟨_,_,_,_,rfl,hdn,hop,oM,oM,hs⟩,e1⟩,dE,sI⟩,⟨r.1,0,fo,.nilFunc,.minus,rfl,hr,oM,hg.one,rfl⟩,u1⟩
      refine qq ?_;exact⟨_,rfl⟩
     |ok q=>
      obtain⟨r2,j2⟩:=q;rw[hF2]at hR';simp only at hR';have hr2:=uv oM oM oM hF2;have hF2' := hF2;rw[Int.toNat_natCast]at hF2';refine Wp.more ?_;refine vZ (Γ49 (aQ w S fp) n hA r r2) (bP ct hF2' wi) ?_ ?_
      ·exact⟨⟨⟨⟨_,_,_,_,rfl,hdn,hop,oM,oM,hs⟩,e1⟩,dE,sI,u1⟩,⟨cq hg,⟨hr,hr2.2.2⟩,_,_,rfl⟩,u1⟩
      refine fD ?_;refine Pw.jh 240 (ev ct) (cT.refl _ _) λW2 bs2 cs hx2 hΦ2=>?_
      obtain⟨fv2,rfl,hg2,hv2⟩:=cK hΦ2;refine Pw.here ?_;refine qq ?_;refine⟨⟨W2,bs2,fv2,aX .minus r r2,j2,k⟩,⟨by simp only;omega,gh _ _ _,by simp only;omega,hg2,hR'⟩,by simp only;omega,rfl,rfl,?_⟩;exact wM (λx=>if x=3 then .key 234 else .key x) (aa ct hv2)
    ·have h45:¬ bt s i=45:=by simpa using hc
     rw[if_neg h45]at hR';refine wR Γ0 ct ?_ ?_
     ·exact hg.one
     refine wZ ct ?_;rw[<- hR'];exact fE hg rfl ((ev (aa ct @aA))) dE
  ·have hi:¬ i<s.size:=by
    simp at hc;omega
   rw[lS,if_pos hi]at hR';refine wE ?_;refine wR Γ0 ct ?_ ?_
   ·exact hg.one
   refine wZ ct ?_;rw[<- hR'];exact fE hg rfl ((ev (aa ct @aA))) dE
theorem HE(n:Nat)(hA:Ke n):V8 n:=by
 intro s i0 d op u fp w S hdn hop h0 hi1 hs hesc ho hlt hS;have u0:=aQ.up w S fp;have e0:=hesc.mono (aQ.lZ w S fp hS);dsimp only;unfold xO akq;refine jK (nt:=26) S #[] [.cell 2 254] (by show 3<=7;omega) ho hlt func126 rfl rfl rfl ?_;refine vR Γ0 ct ?_
 cases hF:lG (bt s) s.size (fj (bt s) s.size (bx (bt s) s.size (gU s) n) ((s.size:Int).toNat+1) none) i0 with
 |error e=>
  obtain⟨c,j⟩:=e;simp only;rw[bT];have hF' := hF;rw[Int.toNat_natCast]at hF';refine Wp.kF (Γ50 (aQ w S fp) n hA (bY .eps) (bY .eps)) cj (ev (aa ct hF')) ?_ ?_
  ·exact⟨⟨⟨_,_,_,_,rfl,hdn,hop,h0,hi1,hs⟩,e0⟩,dE,sI⟩
  refine qq ?_;exact⟨_,rfl⟩
 | ok q=>
  obtain⟨r0,j0⟩:=q;simp only;have hr0:=zW oM h0 hi1 hF;have hF' := hF;rw[Int.toNat_natCast]at hF';generalize hR:Bi (bt s) s.size (lG (bt s) s.size (fj (bt s) s.size (bx (bt s) s.size (gU s) n) ((s.size:Int).toNat+1) none)) ((s.size:Int).toNat+1) r0 j0=R
  refine wR (Γ50 (aQ w S fp) n hA (bY .eps) (bY .eps)) (aa ct hF') ?_ ?_
  ·exact⟨⟨⟨_,_,_,_,rfl,hdn,hop,h0,hi1,hs⟩,e0⟩,dE,sI,u0⟩
  refine Wp.jh 31 (ev ct) (cT.refl _ _) λW0 bs0 cs hx0 hΦ=>?_
  obtain⟨fv,rfl,hg,hv1⟩:=cK hΦ;have u00:=u0.ext hx0;refine Wp.seq (Wp.block ?_)
  refine Wp.C0 (λp:RI=>⟨10,bm [(0,.is (.own 0 0)),(2,.is (.own 8 0)),(3,.is (.own 32 0))],aY [(0,.cells 251 [.v (.string s),.v (.int .i64 p.i),.hd 3]),(3,.row 3 1 d (op.map .v)),(8,.cells 254 [.v (.int .i64 0),.v .nilFunc]),(32,.cells 254 [.v (.int .i64 (p.r.1:Nat)),.v p.fo])]⟩)
   RI.W RI.bs (λp=>(0<=p.i/\p.i<=s.size)/\p.r.1<=2001/\((s.size:Int)-p.i<p.n/\1<=p.n)/\bI p.W (jl (aQ w S fp) p.bs) p.fo p.r.2/\Bi (bt s) s.size (lG (bt s) s.size (fj (bt s) s.size (bx (bt s) s.size (gU s) n) ((s.size:Int).toNat+1) none)) p.n p.r p.i=R) (λp=>p.n) ⟨W0,bs0,fv,r0,j0,(s.size:Int).toNat+1⟩ rfl rfl ?_ ⟨⟨by simp only;omega,hr0.2.1⟩,hr0.2.2,⟨by simp only;omega,by simp only;omega⟩,hg,hR⟩ ?_
  ·exact wM (λx=>if x=3 then .key 26 else .key x) (aa ct hv1)
  rintro⟨W1,bs1,fo,r,i,k⟩ ⟨⟨hi0,hiN⟩,hr,⟨hn,hn1⟩,hg,hR'⟩ hx1;simp only at hi0 hiN hr hn hn1 hg hR' hx1;dsimp only;obtain⟨k,rfl⟩:∃ m,k=m+1:=⟨k-1,oM⟩;have hx01:=hx0.trans hx1;have u1:=u0.ext hx01;have e1:=e0.mono hx01.Gu;refine Wp.seq ?_;refine wR (Γ50 (aQ w S fp) n hA (bY .eps) (bY .eps)) ct ?_ ?_
  ·first|trivial|omega|(simp[hs];done)|(simp[hs];omega)|(simp[hs]<;>omega)
  refine wC ct (λhc=>?_) (λhc=>?_)
  ·have hi:i<s.size/\bt s i=124:=by
    simp at hc;omega
   rw[Bi,if_pos hi]at hR';refine wK ?_;refine Wp.block ?_;have wi:IntKind.i64.wrap (i+1)=i+1:=ae oM oM;refine vR Γ0 (aa ct wi) ?_;cases hF2:lG (bt s) s.size (fj (bt s) s.size (bx (bt s) s.size (gU s) n) ((s.size:Int).toNat+1) none) (i+1) with
   |error e=>
    obtain⟨c,j⟩:=e;rw[hF2]at hR';simp only at hR';rw[<- hR',bT];have hF2' := hF2;rw[Int.toNat_natCast]at hF2';refine Wp.Px (Γ52 (aQ w S fp) n hA) cj (ev (bP ct hF2' wi)) rfl (by kernel_rfl) ?_ ?_
    ·exact⟨⟨⟨⟨_,_,_,_,rfl,hdn,hop,oM,oM,hs⟩,e1⟩,dE,sI⟩,⟨r.1,0,fo,.nilFunc,.alt,rfl,hr,oM,hg.one,rfl⟩,u1⟩
    refine qq ?_;exact⟨_,rfl⟩
   |ok q=>
    obtain⟨r2,j2⟩:=q;rw[hF2]at hR';simp only at hR';have hr2:=zW oM oM oM hF2;have hF2' := hF2;rw[Int.toNat_natCast]at hF2';refine Wp.more ?_;refine vZ (Γ50 (aQ w S fp) n hA r r2) (bP ct hF2' wi) ?_ ?_
    ·exact⟨⟨⟨⟨_,_,_,_,rfl,hdn,hop,oM,oM,hs⟩,e1⟩,dE,sI,u1⟩,⟨cq hg,⟨hr,hr2.2.2⟩,_,_,rfl⟩,u1⟩
    refine fD ?_;refine Pw.jh 232 (ev ct) (cT.refl _ _) λW2 bs2 cs hx2 hΦ2=>?_
    obtain⟨fv2,rfl,hg2,hv2⟩:=cK hΦ2;refine Pw.here ?_;refine qq ?_;refine⟨⟨W2,bs2,fv2,aX .alt r r2,j2,k⟩,⟨by simp only;omega,gh _ _ _,by simp only;omega,hg2,hR'⟩,by simp only;omega,rfl,rfl,?_⟩;exact wM (λx=>if x=3 then .key 226 else .key x) (aa ct hv2)
  ·have hi:¬ (i<s.size/\bt s i=124):=λh=>by
    apply Bool.eq_false_iff.1 hc;simp;omega
   rw[Bi,if_neg hi]at hR';refine wE ?_;refine wR Γ0 ct ?_ ?_
   ·exact hg.one
   refine wZ ct ?_;rw[<- hR'];exact fE hg rfl ((ev (aa ct @aA))) dE
def vJ:EqSpec prog 39 where
 f:=λxs ys=>match xs,ys with
  |[.int .i64 a,.int .i64 b,.string s],[.int .i64 a',.int .i64 b',.string s']=>some (decide (a=a')&&decide (b=b')&&decide (s=s'))
  |_,_=>none
 ok:=by
  intro xs ys b w h;split at h
  ·rename_i a b s a' b' s';cases h;refine⟨?_,?_⟩
   ·simp[eqGuard,go_sem,Tryz.eqGuardType39]
   ·simp only[Op.equal,Op.maxDepth,run_equalIn_agg w 9999 39 _ _ Tryz.underlying39 Tryz.stoodInHeld39];have e:s.toList=s'.toList ↔ s=s' := by
     have:=GK s s';rw[Bool.eq_iff_iff]at this;simpa using this
    simp[go_sem,e];by_cases h1:a=a' <;> by_cases h2:b=b' <;> by_cases h3:s=s' <;> simp[h1,h2,h3]
  ·cases h
theorem se(a b a' b' : Int)(s s' : ByteArray):vJ.f [.int .i64 a,.int .i64 b,.string s] [.int .i64 a',.int .i64 b',.string s']=some (decide (a=a')&&decide (b=b')&&decide (s=s')):=rfl
def PJ:aM prog 263 where
 pre:=λW bs=>λ| [.val (.string s),.val (.int .i64 i)]=>s.size<=140737488351232/\bB W (Out bs)|_=>False
 res:=λW=>λ| [.val (.string s),.val (.int .i64 i)]=>tN s i|_=>undef
 enters:=call263
 ok:=by
  intro W w bs us as_ hk hu hp;split at hp
  ·rename_i s i
   match us,hu with
   |[u0,u1],hu=>
    obtain⟨rfl,rfl,_⟩:=hu;exact Vt s i w hp.1 (hp.2.dU hk sI)
  ·exact hp.elim
theorem T6(W:World)(s:ByteArray)(i:Int):PJ.res W [.val (.string s),.val (.int .i64 i)]=tN s i:=rfl
theorem SK(W:World)(bs:List Nat)(s:ByteArray)(i:Int):PJ.pre W bs [.val (.string s),.val (.int .i64 i)]=(s.size<=140737488351232/\bB W (Out bs)):=rfl
noncomputable def Kj(G:Nat->Prop)(t:Rx):Env prog:=⟨λ| 127=>some ey.spec|179=>some iY.spec|128=>some gv.spec|263=>some PJ.spec|249=>some ((oC t).spec G)|_=>none,λ| 39=>some vJ|_=>none,λ_ _=>none⟩
noncomputable def Γ54(G:Nat->Prop)(n:Nat)(h:V8 n):Env prog:=⟨λ| 126=>some ((nB _ _ _ n call126 h).spec G)|_=>none,λ_=>none,λ_ _=>none⟩
section
variable (G:Nat->Prop)(t:Rx)(n:Nat)(h:V8 n)
theorem aeK:(Kj G t).sp 127=some ey.spec:=rfl
theorem agK:(Kj G t).sp 179=some iY.spec:=rfl
theorem aes:(Kj G t).sp 128=some gv.spec:=rfl
theorem abI:(Kj G t).sp 263=some PJ.spec:=rfl
theorem aey:(Kj G t).sp 249=some ((oC t).spec G):=rfl
theorem XQ:(Kj G t).eqs 39=some vJ:=rfl
theorem aca:(Γ54 G n h).sp 126=some ((nB _ _ _ n call126 h).spec G):=rfl
end
def dK:=(aj @List.replicate_succ.{0} @List.replicate_zero.{0} @an @ab jk jn BG (aj BH BJ gR ck cf b9 b8 (aj ca cc cg cd fu fh fy (aj ft fB dc df dh db cY (aj c8 WC aab V9 aaC aaO aaJ (aj Ys ZM zl yK yS y5 Bb (aj AY AI AO Ar yQ Po QH (aj P0 OL vN wx wL w7 pJ (aj qg pB pA Ac Am Ag yE (aj AM zG A0 Bo AS zD A2 (aj AH tg s4 sR sM tn ui (aj vS vX xv vM ahH ahl aht (aj ahY ahQ ahx ahV ahI alc ale (aj @xy.eq_1 @yh.eq_1 @eH.eq_1 @aG @al @ax @aw (aj @ig @lN @ix @iy @lV @lr @lq (aj @qX @j5 @ki @mM @oC.eq_1 @qQ @bT (aj @tq @s8 @oc @EX @dW @l4 @mO (aj @nH @ll @qx @e8 @Fl @jt @List.drop_nil.{0} (aj T6 SK @aeK @agK @aes @abI @aey (bP @XQ @aca @se))))))))))))))))))))
theorem Iy(n:Nat)(hA:∀ m,n=m+1->V8 m):HV n:=by
 intro s i d op u fp w S hdn hop h0 hi hs hesc ho hlt hS;have u0:=aQ.up w S fp;have e0:=hesc.mono (aQ.lZ w S fp hS);have e0' : bB w (Out fp):=e0.mono λb _ hb=>⟨rfl,hb.2⟩
 dsimp only;have wi:IntKind.i64.wrap (i+1)=i+1:=ae oM oM;refine jK (nt:=108) S #[] [.cell 2 254] (by show 3<=7;omega) ho hlt func251 rfl rfl rfl ?_;refine vR Γ0 dK ?_;refine Wp.seq ?_;refine wR (Kj (aQ w S fp) .eps) dK ?_ ?_
 ·first|trivial|omega|(simp[hs];done)|(simp[hs];omega)|(simp[hs]<;>omega)
 refine wC dK (λhc=>?_) (λhc=>?_)
 ·have h40:¬ bt s i=40:=by simpa using hc
  have hL:bx (bt s) s.size (gU s) n i=sC (gU s) i:=by
   cases n with
   |zero=>rw[bx,if_neg h40]
   |succ n=>rw[bx,if_neg h40]
  rw[hL];have hre:tN s i=match dZ s i with
    |.error j=>ri 10 0 0 j
    |.ok (a,j)=>ri 0 a j 0:=by
   rw[tN,if_neg oM];cases dZ s i<;>rfl
  cases hI:dZ s i with
  | error j=>
   rw[hI]at hre;simp only[ri]at hre;have hE:sC (gU s) i=.error (10,j):=by rw[sC,gU,hI]
   rw[hE,bT];refine lf (Kj (aQ w S fp) .eps) (aa dK hre) ?_ ?_
   ·exact⟨hs,e0'⟩
   refine Wp.seq ?_;refine wR (Kj (aQ w S fp) .eps) (aa dK hre) ?_ ?_
   ·first|trivial|omega|(simp[hs];done)|(simp[hs];omega)|(simp[hs]<;>omega)
   refine wC dK (λhc=>?_) (λhc=>?_)
   ·skip;refine Wp.q7 (Kj (aQ w S fp) .eps) cj (ev (aa dK hre)) ?_ ?_
    ·first|trivial|omega|(simp[hs];done)|(simp[hs];omega)|(simp[hs]<;>omega)
    refine qq ?_;exact⟨_,rfl⟩
   ·exfalso;simp at hc
  | ok q=>
   obtain⟨a,j⟩:=q;have hj:=BC hI h0 hi;rw[hI]at hre;simp only[ri]at hre;have hE:sC (gU s) i=.ok (bY (.cls a),j):=by rw[sC,gU,hI]
   rw[hE,qQ];refine lf (Kj (aQ w S fp) .eps) (aa dK hre) ?_ ?_
   ·exact⟨hs,e0'⟩
   refine Wp.seq ?_;refine wR (Kj (aQ w S fp) .eps) (aa dK hre) ?_ ?_
   ·first|trivial|omega|(simp[hs];done)|(simp[hs];omega)|(simp[hs]<;>omega)
   refine wC dK (λhc=>?_) (λhc=>?_)
   ·exfalso;simp at hc
   ·refine wK ?_;refine vR Γ0 dK ?_;refine wR (Kj (aQ w S fp) (.cls a)) dK ?_ ?_
    ·exact⟨rfl,u0⟩
    refine Wp.jh 272 (ev dK) (cT.refl _ _) λW1 bs1 cs hx1 hΦ=>?_
    obtain⟨fv,rfl,hg,hv1⟩:=cK hΦ;refine wZ (aa dK hv1) ?_;exact fE hg rfl ((ev (aa dK @aA))) dE
 ·have h40:bt s i=40:=by simpa using hc
  refine wK ?_;refine Wp.seq ?_;refine vR Γ0 dK ?_;refine wC dK (λhc=>?_) (λhc=>?_)
  ·have hd:1000<=d:=by
    simp at hc;omega
   obtain rfl:n=0:=oM;rw[bx,if_pos h40,bT];refine Wp.q7 (Kj (aQ w S fp) .eps) cj (ev dK) ?_ ?_
   ·first|trivial|omega|(simp[hs];done)|(simp[hs];omega)|(simp[hs]<;>omega)
   refine qq ?_;exact⟨_,rfl⟩
  ·have hd:¬ 1000<=d:=by
    simp at hc;omega
   obtain⟨n,rfl⟩:∃ m,n=m+1:=⟨n-1,oM⟩;have hA' := hA n rfl;rw[bx,if_pos h40];refine wK ?_;have hap:List.map SV.v op++[SV.v (.int .i64 i)]=List.map SV.v (op++[.int .i64 i]):=by simp
   refine lf Γ0 dK ?_ ?_
   ·unfold maxLen;omega
   refine vR Γ0 (aa dK wi) ?_;have hlen:(op++[Value.int .i64 i]).length=d+1:=by simp[hop]
   cases hF:xO (bt s) s.size (bx (bt s) s.size (gU s) n) (i+1) with
   |error e=>
    obtain⟨c,j⟩:=e;rw[vE,bT];refine Wp.kF (Γ54 (aQ w S fp) n hA') cj (ev (eS dK hF wi hap)) ?_ ?_
    ·exact⟨⟨⟨_,_,_,_,rfl,oM,hlen,oM,oM,hs⟩,e0⟩,dE,sI⟩
    refine qq ?_;exact⟨_,rfl⟩
   | ok q=>
    obtain⟨r,j⟩:=q;have hr:=DU oM oM oM hF;have wd:IntKind.i64.wrap (((d+1:Nat):Int)-1)=((d:Nat):Int):=wW;have htk:List.take d (List.map SV.v (op++[Value.int .i64 i]))=List.map SV.v op:=by
     rw[<- List.map_take,<- hop,List.take_left]
    have hix:(List.map SV.v (op++[Value.int .i64 i])).getD d (.v undef)=.v (.int .i64 i):=by
     rw[<- hop];simp
    refine wR (Γ54 (aQ w S fp) n hA') (eS dK hF wi hap) ?_ ?_
    ·exact⟨⟨⟨_,_,_,_,rfl,oM,hlen,oM,oM,hs⟩,e0⟩,dE,sI,u0⟩
    refine Wp.jh 279 (ev dK) (cT.refl _ _) λW1 bs1 cs hx1 hΦ=>?_
    obtain⟨fv,rfl,hg,hv1⟩:=cK hΦ;refine Wp.seq ?_;refine wR (Kj (aQ w S fp) .eps) (aa dK hap) ?_ ?_
    ·first|trivial|omega|(simp[hs];done)|(simp[hs];omega)|(simp[hs]<;>omega)
    refine wC dK (λhc=>?_) (λhc=>?_)
    ·have hj:¬ j<s.size:=by
      simp at hc;omega
     rw[vE,if_pos hj,bT];refine Wp.Px (Kj (aQ w S fp) .eps) cj (ev (eS dK hap wd hix)) rfl (by kernel_rfl) ?_ ?_
     ·exact⟨⟨_,rfl⟩,⟨oM,oM⟩,by simp[hop],dE,sI⟩
     refine qq ?_;exact⟨_,rfl⟩
    ·have hj:j<s.size:=by
      simp at hc;omega
     have wj:IntKind.i64.wrap (j+1)=j+1:=ae oM oM;rw[vE,if_neg oM,qQ];refine wK ?_;refine vR Γ0 (aa dK wj) ?_;refine lf Γ0 (bP dK wd htk) ?_ ?_
     ·exact⟨⟨_,rfl⟩,oM,oM⟩
     refine wR Γ0 (aa dK hv1) ?_ ?_
     ·exact hg.one
     refine wZ (aa dK hv1) ?_;exact fE hg rfl ((ev (aa dK @aA))) dE
theorem levels:∀ n,HV n
 |0=>Iy 0 λm h=>by omega
 |n+1=>Iy (n+1) λm h=>by
  obtain rfl:n=m:=oM;exact HE n (Dg n (O8 n (levels n)))
theorem HQ(n:Nat):V8 n:=HE n (Dg n (O8 n (levels n)))
noncomputable def Γ55(G:Nat->Prop):Env prog:=⟨λ| 127=>some ey.spec|128=>some gv.spec|126=>some ((nB _ _ _ 1000 call126 (HQ 1000)).spec G)|f=>KA 0 (yu 0) f,λ_=>none,λ_ _=>none⟩
theorem afx(G:Nat->Prop):(Γ55 G).sp 127=some ey.spec:=rfl
theorem abG(G:Nat->Prop):(Γ55 G).sp 128=some gv.spec:=rfl
theorem agb(G:Nat->Prop):(Γ55 G).sp 126=some ((nB _ _ _ 1000 call126 (HQ 1000)).spec G):=rfl
def iv:=(aj @List.replicate_succ.{0} @List.replicate_zero.{0} @an @ab jk jn BG (aj BH BJ gR ck cf b9 b8 (aj ca cc cg cd dc df dh (aj db cY c8 WC aab V9 aaC (aj aaO aaJ Ys ZM zl yK yS (aj y5 Bb AY AI AO Ar yQ (aj vN wx wL w7 Ac Am Ag (aj yE AM zG A0 Bo AS zD (aj A2 AH Qg Qn PH tg s4 (aj sR sM tn ui @xy.eq_1 @yh.eq_1 @eH.eq_1 (aj @aG @al @ax @aw @ig @lN @ix (aj @iy @lV @j5 @ki @mM @qQ @bT (aj @tq @s8 @oc @EX @σR.eq_1 @σL.eq_1 @pF.eq_1 (aj @pF.eq_2 @zB.eq_1 @zB.eq_2 @afx @abG @agb @CO @DM))))))))))))))
noncomputable def XZ:CatchC prog 125 where
 Ts:=[151,39]
 enters:=call125
 pre:=λvss pv=>(∃ a f g h,vss=[[a],[f,g,h]])/\∃ c i t,pv=.iface 39 (yh c i t)
 out:=λvss pv=>[[.nilIface],match pv with|.iface _ (.agg x)=>x.toList|_=>[]]
 bw:=λvss pv=>[.nilIface,match pv with|.iface _ x=>x|_=>undef]
 vals_ok:=by
  rintro vss pv ⟨_,c,i,t,rfl⟩
  refine⟨.inr ⟨by simp only[kp,Op.operands,Value.cells,σ0,σB,Nat.reduceEqDiff,Nat.reduceAdd,Nat.reduceMul,Nat.reduceLT,Nat.reduceLeDiff,Nat.reduceBEq,av,Int.reduceToNat,Int.reduceLT,Int.reduceLE,Nat.reduceDiv,Nat.reduceMod,Nat.reduceSub,Int.reducePow,Nat.reducePow,σP,σB3,iv],rfl⟩,.inl ⟨by simp only[kp,Op.operands,Value.cells,σ0,σB,Nat.reduceEqDiff,Nat.reduceAdd,Nat.reduceMul,Nat.reduceLT,Nat.reduceLeDiff,Nat.reduceBEq,av,Int.reduceToNat,Int.reduceLT,Int.reduceLE,Nat.reduceDiv,Nat.reduceMod,Nat.reduceSub,Int.reducePow,Nat.reducePow,σP,σB3,iv]<;>rfl,by simp only[kp,Op.operands,Value.cells,σ0,σB,Nat.reduceEqDiff,Nat.reduceAdd,Nat.reduceMul,Nat.reduceLT,Nat.reduceLeDiff,Nat.reduceBEq,av,Int.reduceToNat,Int.reduceLT,Int.reduceLE,Nat.reduceDiv,Nat.reduceMod,Nat.reduceSub,Int.reducePow,Nat.reducePow,σP,σB3,iv],rfl⟩,trivial⟩
 quiet:=λw us hl=>by
  match us,hl with
  | [u0,u1],_=>
   refine sD (nt:=8) w _ func125 rfl rfl oM oM rfl ?_;refine vR Γ0 iv ?_;refine wC iv (λhc=>?_) (λhc=>?_)
   ·simp at hc
   ·refine wK ?_;simp only[kp,Op.operands,Value.cells,σ0,σB,Nat.reduceEqDiff,Nat.reduceAdd,Nat.reduceMul,Nat.reduceLT,Nat.reduceLeDiff,Nat.reduceBEq,av,Int.reduceToNat,Int.reduceLT,Int.reduceLE,Nat.reduceDiv,Nat.reduceMod,Nat.reduceSub,Int.reducePow,Nat.reducePow,σP,σB3,qE,jC,np,lz,iv]
    done
 caught:=λw us bl vss pv hl hn hlt hp=>by
  obtain⟨⟨a,f,g,h,rfl⟩,k,i,t,rfl⟩:=hp;have h3:=hl.len.1;refine ry (nt:=8) func125 rfl rfl oM oM ?_ hl hn hlt ?_ ?_
  ·rw[h3];rfl
  ·rw[h3];decide
  intro us _;refine vR Γ0 iv ?_;refine wC iv (λhc=>?_) (λhc=>?_)
  ·skip;refine vrD Γ0 (aa iv @yh.eq_1) ?_;refine wS iv ?_;exact⟨rfl,rfl,trivial⟩
  ·cases hc
def rB(s:ByteArray):Except (Int×Int) Rx:=AA (bt s) s.size (gU s)
def rZ:Except (Int×Int) Rx->Value
 |.ok t=>.tuple #[aH t,yh 0 0 ⟨#[]⟩]
 |.error (c,j)=>.tuple #[.nilIface,yh c j ⟨#[]⟩]
theorem SQ(s:ByteArray)(w:World)(hs:s.size<=140737488351232)(hg:bB w (Out [])) :
  Calls prog 71 #[.string s] w λe w' => e=.returned (rZ (rB s))/\ah w [] w' := by
 have u0:Up (λ_=>True) w []:=Up.true _ _;have e0:bB w (jl (λ_=>True) []):=hg.mono λb _ hb=>⟨rfl,trivial,hb⟩
 refine xp (nt:=33) func71 rfl rfl ?_;refine ma.seq' (rs:=[.cell 2 151,.cell 3 39]) rfl ?_;refine vr Γ0 iv ?_;refine ma.seq' (rs:=[.cell 2 151,.cell 3 39]) rfl ?_;refine vR Γ0 iv ?_;refine wC iv (λhc=>?_) (λhc=>?_)
 ·have hb:1048576<(s.size:Int):=by simpa using hc
  have he:rB s=.error (1,0):=by rw[rB,AA,if_pos hb]
  rw[he];refine vR Γ0 iv ?_;refine wZ iv ?_;exact λE=>rfl
 ·have hb:¬ 1048576<(s.size:Int):=by simpa using hc
  have he:rB s=Ul s.size (alts (bt s) s.size (gU s) 1000 0):=by rw[rB,AA,if_neg hb]
  refine wK ?_;refine ma.X8 (rs:=[.cell 2 151,.cell 3 39]) rfl XZ [2,3] [0,8] rfl dE rfl dE rfl rfl ?_ ?_ λus hus=>?_
  ·rintro p hp;simp only[List.zip_cons_cons,List.zip_nil_right,List.mem_cons,List.not_mem_nil,or_false]at hp;rcases hp with rfl|rfl<;>rfl
  ·rintro k hk;simp only[List.mem_cons,List.not_mem_nil,or_false]at hk;rcases hk with rfl|rfl<;>exact⟨_,_,rfl⟩
  refine vR Γ0 iv ?_
  match us,hus with
  |[u0',u1'],_=>
  refine Wp.IX (σ' := ⟨20,bm [(2,.is (.own 0 0)),(3,.is (.own 8 0)),(4,.is (.own 72 0))],aY [(0,.cells 151 [.v .nilIface]),(8,.cells 39 [.v (.int .i64 0),.v (.int .i64 0),.v (.string ⟨#[]⟩)]),(72,.cells 251 [.v (.string s),.v (.int .i64 0),.hd 88]),(88,.row 3 1 0 [])]⟩) ?_ ?_
  ·exact wM (λx=>if x=88 then .nil else .key x) iv
  have hal:alts (bt s) s.size (gU s) 1000 0=xO (bt s) s.size (bx (bt s) s.size (gU s) 1000) 0:=rfl;rw[hal]at he;cases hF:xO (bt s) s.size (bx (bt s) s.size (gU s) 1000) 0 with
  |error e=>
   obtain⟨c,j⟩:=e;rw[hF]at he;simp only[Ul]at he;rw[he];refine Wp.kF (Γ55 (λ_=>True)) cj (ev (aa iv hF)) ?_ ?_
   ·exact⟨⟨⟨_,_,_,_,rfl,rfl,rfl,oM,sI,hs⟩,e0⟩,dE,sI⟩
   refine qq ?_;refine wS iv ?_;refine⟨.iface 39 (yh c j ⟨#[]⟩),[[.nilIface],[.int .i64 0,.int .i64 0,.string ⟨#[]⟩]],rfl,⟨?_,?_,?_,?_,trivial⟩,⟨⟨_,_,_,_,rfl⟩,c,j,⟨#[]⟩,rfl⟩,λE=>rfl⟩
   all_goals rfl
  | ok q=>
   obtain⟨r,j⟩:=q;have hr:=DU (s:=s) (m:=1000) oM oM sI hF;rw[hF]at he;simp only[Ul]at he;refine wR (Γ55 (λ_=>True)) (aa iv hF) ?_ ?_
   ·exact⟨⟨⟨_,_,_,_,rfl,rfl,rfl,oM,sI,hs⟩,e0⟩,dE,sI,u0⟩
   refine Wp.jh 175 (ev iv) (cT.refl _ _) λW1 bs1 cs hx1 hΦ=>?_
   obtain⟨fv,rfl,hg1,hv1⟩:=cK hΦ;refine Wp.seq ?_;refine wR (Γ55 (λ_=>True)) iv ?_ ?_
   ·first|trivial|omega|(simp[hs];done)|(simp[hs];omega)|(simp[hs]<;>omega)
   refine wC iv (λhc=>?_) (λhc=>?_)
   ·have hj:j<s.size:=by
     simp at hc;omega
    rw[if_pos hj]at he;rw[he];refine Wp.q7 (Γ55 (λ_=>True)) cj (ev iv) ?_ ?_
    ·first|trivial|omega|(simp[hs];done)|(simp[hs];omega)|(simp[hs]<;>omega)
    refine qq ?_;refine wS iv ?_;refine⟨.iface 39 (yh 20 j ⟨#[]⟩),[[.nilIface],[.int .i64 0,.int .i64 0,.string ⟨#[]⟩]],rfl,⟨?_,?_,?_,?_,trivial⟩,⟨⟨_,_,_,_,rfl⟩,20,j,⟨#[]⟩,rfl⟩,λE=>rfl⟩
    all_goals rfl
   ·have hj:¬ j<s.size:=by
     simp at hc;omega
    rw[if_neg hj]at he;refine wK ?_;refine Wp.seq ?_;refine vR Γ0 (aa iv hv1) ?_;refine wC iv (λhc=>?_) (λhc=>?_)
    ·have hz:2000<r.1:=by
      simp at hc;omega
     rw[if_pos hz]at he;rw[he];refine vR Γ0 iv ?_;refine wZ iv ?_;exact λE=>rfl
    ·have hz:¬ 2000<r.1:=by
      simp at hc;omega
     rw[if_neg hz]at he;rw[he];obtain⟨f,cap,rfl,hf⟩:=hg1.shape;obtain⟨cap,rfl⟩:∃ l:List Value,cap=l.toArray:=⟨cap.toList,sI⟩;have hgr:=lW hg1;have hsp:=tR (dp r.2+1) (yu _) f hf;refine wK ?_;refine wR (Γ43 (dp r.2+1) (yu _)) (ur iv hsp hgr @nM hv1 @jG @bZ) ?_ ?_
     ·exact⟨⟨cap,r.2,rfl,hg1.mono λb _ h=>⟨rfl,h.2⟩,oM⟩,bZ _⟩
     refine wT ?_
     simp only[kp,Op.operands,Value.cells,σ0,σB,Nat.reduceEqDiff,Nat.reduceAdd,Nat.reduceMul,Nat.reduceLT,Nat.reduceLeDiff,Nat.reduceBEq,av,Int.reduceToNat,Int.reduceLT,Int.reduceLE,Nat.reduceDiv,Nat.reduceMod,Nat.reduceSub,Int.reducePow,Nat.reducePow,σP,σB3,qE,jC,np,lz,iv,np,jG,bZ,kD (bZ _)]
     exact λE=>rfl
def D8:aM prog 71 where
 pre:=λW bs=>λ| [.val (.string s)]=>s.size<=140737488351232/\bB W (Out bs)|_=>False
 res:=λW=>λ| [.val (.string s)]=>rZ (rB s)|_=>undef
 enters:=call71
 ok:=by
  intro W w bs us as_ hk hu hp;split at hp
  ·rename_i s
   match us,hu with
   |[u0],hu=>
    obtain⟨rfl,_⟩:=hu;exact SQ s w hp.1 (hp.2.dU hk sI)
  ·exact hp.elim
theorem Ln(W:World)(s:ByteArray):D8.res W [.val (.string s)]=rZ (rB s):=rfl
theorem MV(W:World)(bs:List Nat)(s:ByteArray):D8.pre W bs [.val (.string s)]=(s.size<=140737488351232/\bB W (Out bs)):=rfl
def kQ(q:ByteArray)(b:Int):Bool:=decide (0<=kn q b)
def Gi(q:ByteArray)(b:Int):Bool:=(List.range q.size).any λj=>decide (bt q (j:Int)=b)
theorem Ur{q:ByteArray}{b:Int}{j:Nat}(hj:j<q.size)(h:bt q j=b):Gi q b=true:=
 List.any_eq_true.2 ⟨j,List.mem_range.2 hj,decide_eq_true h⟩
theorem N1{q:ByteArray}{b:Int}(h:∀ j:Nat,j<q.size->bt q j≠b):Gi q b=false:=
 List.any_eq_false.2 λj hj=>by simpa using h j (List.mem_range.1 hj)
def tL:=(aj @List.replicate_succ.{0} @List.replicate_zero.{0} @an @ab gR ck cf (aj b9 b8 ca cc cg cd fu (aj fh fy ft fB dc df dh (ur db cY c8 @aG @al @ax @aw))))
theorem ajn(q:ByteArray)(b:Int)(w:World)(hs:q.size<=140737488351232):Calls prog 244 #[.string q,.int .u8 b] w λe w' => e=.returned (.bool (Gi q b))/\ah w [] w' := by
 refine af (nt:=17) [.tmp 4] func244 rfl rfl rfl ?_;refine vR Γ0 tL ?_;refine Wp.seq ?_;refine vR Γ0 tL ?_;refine Wp.block ?_
 refine Wp.loop (λj:Nat=>⟨2,bm [(0,.is (.v (.string q))),(1,.is (.v (.int .u8 b))),(5,.is (.v (.int .i64 (j:Nat))))],aY []⟩) (λj=>j<=q.size/\∀ i:Nat,i<j->bt q i≠b) (λj=>q.size-j) 0 ?_ ⟨Nat.zero_le _,λi h=>by omega⟩ ?_
 ·exact wM (λk=>.key k) tL
 rintro j ⟨hj,hn⟩;refine Wp.seq ?_;refine vR Γ0 tL ?_;refine wC tL (λhc=>?_) (λhc=>?_)
 ·have hlt:j<q.size:=by
   simp at hc;omega
  refine wK ?_;refine Wp.seq (Wp.block ?_);refine vR Γ0 tL ?_;refine wC tL (λhc=>?_) (λhc=>?_)
  ·have hb:bt q j=b:=by simpa using hc
   rw[Ur hlt hb];refine vR Γ0 tL ?_;refine wZ tL ?_;exact λE=>rfl
  ·have hb:¬ bt q j=b:=by simpa using hc
   have wj:IntKind.i64.wrap ((j:Int)+1)=((j+1:Nat):Int):=wW;refine wK ?_;refine vr Γ0 (aa tL wj) ?_;refine⟨j+1,⟨oM,λi hi=>?_⟩,oM,?_⟩
   ·by_cases h:i=j
    ·rw[h];exact hb
    ·exact hn i oM
   ·exact wM (λk=>.key k) tL
 ·have hlt:¬ j<q.size:=by
   simp at hc;omega
  rw[N1 λi hi=>hn i oM];refine wE ?_;refine vR Γ0 tL ?_;refine wZ tL ?_;exact λE=>rfl
def inC:aM prog 244 where
 pre:=λW bs=>λ| [.val (.string q),.val (.int .u8 b)]=>q.size<=140737488351232|_=>False
 res:=λW=>λ| [.val (.string q),.val (.int .u8 b)]=>.bool (Gi q b)|_=>undef
 enters:=call244
 ok:=by
  intro W w bs us as_ hk hu hp;split at hp
  ·rename_i q b
   match us,hu with
   |[u0,u1],hu=>
    obtain⟨rfl,rfl,_⟩:=hu;exact ajn q b w hp
  ·exact hp.elim
theorem aeX(W:World)(q:ByteArray)(b:Int):inC.res W [.val (.string q),.val (.int .u8 b)]=.bool (Gi q b):=rfl
theorem ad6(W:World)(bs:List Nat)(q:ByteArray)(b:Int):inC.pre W bs [.val (.string q),.val (.int .u8 b)]=(q.size<=140737488351232):=rfl
noncomputable def Γ60:Env prog:=⟨λ| 244=>some inC.spec|_=>none,λ| _=>none,λ_ _=>none⟩
theorem afJ:Γ60.sp 244=some inC.spec:=rfl
theorem ag1{b:Int}(h0:0<=b)(h1:b<256):Gi BI b=kQ BI b:=by
 obtain⟨n,rfl⟩:=Int.eq_ofNat_of_zero_le h0;have:∀ b:Fin 256,Gi BI ((b.val:Nat):Int)=kQ BI ((b.val:Nat):Int):=by decide +kernel
 exact this ⟨n,oM⟩
theorem ac2{b:Int}(h0:0<=b)(h1:b<256):Gi mH b=kQ mH b:=by
 obtain⟨n,rfl⟩:=Int.eq_ofNat_of_zero_le h0;have:∀ b:Fin 256,Gi mH ((b.val:Nat):Int)=kQ mH ((b.val:Nat):Int):=by decide +kernel
 exact this ⟨n,oM⟩
theorem ajc:(⟨#[40,41,91,93,123,125,124,38,45,42,43,63,46,92,47,94]⟩:ByteArray)=BI:=rfl
theorem akh:(⟨#[92,93,91,45,94,47]⟩:ByteArray)=mH:=rfl
def No:=(eS tL aeX ad6 afJ)
theorem J8(b:Int)(h0:0<=b)(h1:b<256)(w:World):Calls prog 205 #[.int .u8 b] w λe w' => e=.returned (.bool (kQ BI b))/\ah w [] w' := by
 rw[<- ag1 h0 h1];refine af (nt:=5) [.tmp 2] func205 rfl rfl rfl ?_;refine vR Γ60 No ?_;refine wR Γ60 No ?_ ?_
 ·decide
 refine wZ No ?_;exact λE=>rfl
theorem TP(b:Int)(h0:0<=b)(h1:b<256)(w:World):Calls prog 206 #[.int .u8 b] w λe w' => e=.returned (.bool (kQ mH b))/\ah w [] w' := by
 rw[<- ac2 h0 h1];refine af (nt:=5) [.tmp 2] func206 rfl rfl rfl ?_;refine vR Γ60 No ?_;refine wR Γ60 No ?_ ?_
 ·decide
 refine wZ No ?_;exact λE=>rfl
def nE:aM prog 205 where
 pre:=λW bs=>λ| [.val (.int .u8 b)]=>0<=b/\b<256|_=>False
 res:=λW=>λ| [.val (.int .u8 b)]=>.bool (kQ BI b)|_=>undef
 enters:=call205
 ok:=by
  intro W w bs us as_ hk hu hp;split at hp
  ·rename_i b
   match us,hu with
   |[u0],hu=>
    obtain⟨rfl,_⟩:=hu;exact J8 b hp.1 hp.2 w
  ·exact hp.elim
theorem s6(W:World)(b:Int):nE.res W [.val (.int .u8 b)]=.bool (kQ BI b):=rfl
theorem uh(W:World)(bs:List Nat)(b:Int):nE.pre W bs [.val (.int .u8 b)]=(0<=b/\b<256):=rfl
def vo:aM prog 206 where
 pre:=λW bs=>λ| [.val (.int .u8 b)]=>0<=b/\b<256|_=>False
 res:=λW=>λ| [.val (.int .u8 b)]=>.bool (kQ mH b)|_=>undef
 enters:=call206
 ok:=by
  intro W w bs us as_ hk hu hp;split at hp
  ·rename_i b
   match us,hu with
   |[u0],hu=>
    obtain⟨rfl,_⟩:=hu;exact TP b hp.1 hp.2 w
  ·exact hp.elim
theorem Bd(W:World)(b:Int):vo.res W [.val (.int .u8 b)]=.bool (kQ mH b):=rfl
theorem A8(W:World)(bs:List Nat)(b:Int):vo.pre W bs [.val (.int .u8 b)]=(0<=b/\b<256):=rfl
theorem TR{c:Int}(h0:0<=c)(h1:c<256):kn fw c=if 48<=c/\c<=57 then c-48 else if 97<=c/\c<=102 then c-97+10 else -1:=by
 obtain⟨n,rfl⟩:=Int.eq_ofNat_of_zero_le h0;have:∀ c:Fin 256,kn fw ((c.val:Nat):Int)=if 48<=((c.val:Nat):Int)/\((c.val:Nat):Int)<=57 then ((c.val:Nat):Int)-48 else if 97<=((c.val:Nat):Int)/\((c.val:Nat):Int)<=102 then ((c.val:Nat):Int)-97+10 else -1:=by decide +kernel
 exact this ⟨n,oM⟩
def xB:=(oA No @s6 @uh @Bd @A8)
theorem aaj(c:Int)(h0:0<=c)(h1:c<256)(w:World):Calls prog 214 #[.int .u8 c] w λe w' => e=.returned (.int .i64 (kn fw c))/\ah w [] w' := by
 rw[TR h0 h1];refine af (nt:=22) [.tmp 2] func214 rfl rfl rfl ?_;refine vR Γ0 xB ?_;refine Wp.seq ?_;refine vR Γ0 xB ?_;refine wC xB (λhc=>?_) (λhc=>?_)
 ·have hd:48<=c/\c<=57:=by simpa using hc
  have w1:IntKind.u8.wrap (c-48)=c-48:=eQ oM oM;have w2:IntKind.i64.wrap (c-48)=c-48:=ae oM oM;rw[if_pos hd];refine vR Γ0 (bP xB w1 w2) ?_;refine wZ xB ?_;exact λE=>rfl
 ·have hd:¬ (48<=c/\c<=57):=by simpa using hc
  rw[if_neg hd];refine wK ?_;refine Wp.seq ?_;refine vR Γ0 xB ?_;refine wC xB (λhc=>?_) (λhc=>?_)
  ·have hd2:97<=c/\c<=102:=by simpa using hc
   have w1:IntKind.u8.wrap (c-97)=c-97:=eQ oM oM;have w2:IntKind.i64.wrap (c-97)=c-97:=ae oM oM;have w3:IntKind.i64.wrap (c-97+10)=c-97+10:=ae oM oM;rw[if_pos hd2];refine vR Γ0 (eS xB w1 w2 w3) ?_;refine wZ xB ?_;exact λE=>rfl
  ·have hd2:¬ (97<=c/\c<=102):=by simpa using hc
   rw[if_neg hd2];refine wK ?_;refine vR Γ0 xB ?_;refine wZ xB ?_;exact λE=>rfl
def Oy:aM prog 214 where
 pre:=λW bs=>λ| [.val (.int .u8 c)]=>0<=c/\c<256|_=>False
 res:=λW=>λ| [.val (.int .u8 c)]=>.int .i64 (kn fw c)|_=>undef
 enters:=call214
 ok:=by
  intro W w bs us as_ hk hu hp;split at hp
  ·rename_i c
   match us,hu with
   |[u0],hu=>
    obtain⟨rfl,_⟩:=hu;exact aaj c hp.1 hp.2 w
  ·exact hp.elim
theorem SN(W:World)(c:Int):Oy.res W [.val (.int .u8 c)]=.int .i64 (kn fw c):=rfl
theorem S3(W:World)(bs:List Nat)(c:Int):Oy.pre W bs [.val (.int .u8 c)]=(0<=c/\c<256):=rfl
noncomputable def qk:Env prog:=⟨λ| 205=>some nE.spec|206=>some vo.spec|214=>some Oy.spec|_=>none,λ| _=>none,λ_ _=>none⟩
theorem agJ:qk.sp 205=some nE.spec:=rfl
theorem ad9:qk.sp 206=some vo.spec:=rfl
theorem abM:qk.sp 214=some Oy.spec:=rfl
def Ze:Except Int (Int×Int)->Value
 |.ok (b,j)=>.tuple #[.int .u8 b,.int .i64 j,.int .i64 (-1)]
 |.error j=>.tuple #[.int .u8 0,.int .i64 0,.int .i64 j]
theorem nR(b j:Int):Ze (.ok (b,j))=.tuple #[.int .u8 b,.int .i64 j,.int .i64 (-1)]:=rfl
theorem js(j:Int):Ze (.error j)=.tuple #[.int .u8 0,.int .i64 0,.int .i64 j]:=rfl
def kG(inner:Bool):ByteArray:=bif inner then mH else BI
def cM:=(ml xB SN S3 agJ ad9 abM)
theorem ML(s:ByteArray)(i:Int)(inner:Bool)(h0:0<=i)(hi:i<=s.size)(hs:s.size<=140737488351232)(w:World) :
  Calls prog 174 #[.string s,.int .i64 i,.bool inner] w λe w' => e=.returned (Ze (eD s i (kG inner)))/\ah w [] w' := by
 obtain⟨b0,b1⟩:=fA s i;refine af (nt:=144) [.tmp 6,.tmp 7,.tmp 8] func174 rfl rfl rfl ?_;refine vR qk cM ?_;refine Wp.seq ?_;refine vR qk cM ?_;refine wC cM (λhc=>?_) (λhc=>?_)
 ·have hN:¬ i<s.size:=by
   simp at hc;omega
  obtain rfl:i=s.size:=oM;have he:eD s s.size (kG inner)=.error s.size:=by rw[eD,if_neg oM,if_pos oM]
  rw[he,js];refine vR qk cM ?_;refine wZ cM ?_;exact λE=>rfl
 ·have hN:i<s.size:=by
   simp at hc;omega
  have w1:IntKind.i64.wrap (i+1)=i+1:=ae oM oM;have w2:IntKind.i64.wrap (i+2)=i+2:=ae oM oM;refine wK ?_;refine vR qk cM ?_;refine Wp.seq ?_;refine vR qk cM ?_;refine wC cM (λhc=>?_) (λhc=>?_)
  ·have h92:¬ bt s i=92:=by simpa using hc
   have hE:eD s i (kG inner)=if (bt s i<32\/126<bt s i)\/0<=kn (kG inner) (bt s i) then .error i else .ok (bt s i,i+1):=by
    rw[eD,if_neg oM];by_cases h:(bt s i<32\/126<bt s i)\/0<=kn (kG inner) (bt s i)
    ·rw[if_pos h,if_pos oM]
    ·rw[if_neg h,if_neg oM]
   refine vR qk cM ?_;refine aV ⟨60,bm [(0,.is (.v (.string s))),(1,.is (.v (.int .i64 i))),(9,.is (.v (.int .u8 (bt s i)))),(10,.is (.v (.bool (decide (bt s i<32)||decide (126<bt s i)||kQ (kG inner) (bt s i)))))],aY []⟩ ?_ ?_
   ·skip;refine vR qk cM ?_;refine wC cM (λhc=>?_) (λhc=>?_)
    ·subst hc;refine wr qk cM ?_ ?_
     ·exact λ_=>⟨b0,b1⟩
     exact wM (λk=>.key k) (aa cM @kG.eq_1)
    ·subst hc;refine wr qk cM ?_ ?_
     ·exact λ_=>⟨b0,b1⟩
     exact wM (λk=>.key k) (aa cM @kG.eq_1)
   refine Wp.seq ?_;refine vR qk cM ?_;refine wC cM (λhc=>?_) (λhc=>?_)
   ·have hb:(bt s i<32\/126<bt s i)\/0<=kn (kG inner) (bt s i):=by simpa [kQ] using hc
    rw[hE,if_pos hb,js];refine vR qk cM ?_;refine wZ cM ?_;exact λE=>rfl
   ·have hb:¬ ((bt s i<32\/126<bt s i)\/0<=kn (kG inner) (bt s i)):=λh=>by
     apply Bool.eq_false_iff.1 hc;simpa [kQ] using h
    rw[hE,if_neg hb,nR];refine wK ?_;refine vR qk (aa cM w1) ?_;refine wZ cM ?_;exact λE=>rfl
  ·have h92:bt s i=92:=by simpa using hc
   have hE:eD s i (kG inner)=eK s (i+1):=by rw[eD,if_pos ⟨hN,h92⟩]
   rw[hE];obtain⟨c0,c1⟩:=fA s (i+1);refine wK ?_;refine Wp.seq ?_;refine vR qk (aa cM w1) ?_;refine wC cM (λhc=>?_) (λhc=>?_)
   ·have hN2:¬ i+1<s.size:=by
     simp at hc;omega
    have he:eK s (i+1)=.error s.size:=by rw[eK,if_pos hN2,show i+1=(s.size:Int) by omega]
    rw[he,js];refine vR qk cM ?_;refine wZ cM ?_;exact λE=>rfl
   ·have hN2:i+1<s.size:=by
     simp at hc;omega
    refine wK ?_;refine wR qk (aa cM w1) ?_ ?_
    ·omega
    refine Wp.seq ?_;refine vR qk cM ?_;refine wC cM (λhc=>?_) (λhc=>?_)
    ·have h110:bt s (i+1)=110:=by simpa using hc
     have w12:i+1+1=i+2:=oM;have he:eK s (i+1)=.ok (10,i+2):=by rw[eK,if_neg oM,if_pos h110,w12]
     rw[he,nR];refine vR qk (aa cM w2) ?_;refine wZ cM ?_;exact λE=>rfl
    ·have h110:¬ bt s (i+1)=110:=by simpa using hc
     refine wK ?_;refine Wp.seq ?_;refine vR qk cM ?_;refine wC cM (λhc=>?_) (λhc=>?_)
     ·have h114:bt s (i+1)=114:=by simpa using hc
      have w12:i+1+1=i+2:=oM;have he:eK s (i+1)=.ok (13,i+2):=by rw[eK,if_neg oM,if_neg h110,if_pos h114,w12]
      rw[he,nR];refine vR qk (aa cM w2) ?_;refine wZ cM ?_;exact λE=>rfl
     ·have h114:¬ bt s (i+1)=114:=by simpa using hc
      refine wK ?_;refine Wp.seq ?_;refine vR qk cM ?_;refine wC cM (λhc=>?_) (λhc=>?_)
      ·have h116:bt s (i+1)=116:=by simpa using hc
       have w12:i+1+1=i+2:=oM;have he:eK s (i+1)=.ok (9,i+2):=by rw[eK,if_neg oM,if_neg h110,if_neg h114,if_pos h116,w12]
       rw[he,nR];refine vR qk (aa cM w2) ?_;refine wZ cM ?_;exact λE=>rfl
      ·have h116:¬ bt s (i+1)=116:=by simpa using hc
       refine wK ?_;refine Wp.seq ?_;refine vR qk cM ?_;refine wC cM (λhc=>?_) (λhc=>?_)
       ·have h120:bt s (i+1)=120:=by simpa using hc
        have hX:eK s (i+1)=match iI s (i+1+1) with
          |.error j=>.error j
          |.ok (h,j)=>match iI s j with
           |.error k=>.error k
           |.ok (l,k)=>.ok (16*h+l,k):=by
         rw[eK,if_neg oM,if_neg h110,if_neg h114,if_neg h116,if_pos h120];cases iI s (i+1+1) with
         |error j=>rfl
         |ok p=>
          obtain⟨h,j⟩:=p;simp only;cases iI s j<;>rfl
        have gd:∀ p:Int,iI s p=if p<s.size/\0<=kn fw (bt s p) then .ok (kn fw (bt s p),p+1) else .error p:=λp=>rfl
        have rng:∀ p:Int,0<=bt s p/\bt s p<256:=λp=>fA s p
        refine Wp.seq ?_;refine vR qk cM ?_;refine Wp.block ?_
        refine Wp.loop (λk:Nat=>⟨90,bm [(0,.is (.v (.string s))),(1,.is (.v (.int .i64 i))),(11,.is (.v (.int .i64 (k:Nat))))],aY []⟩) (λk=>(2<=k/\k<=4)/\∀ m:Nat,2<=m->m<k->i+m<s.size/\0<=kn fw (bt s (i+m))) (λk=>4-k) 2 ?_ ⟨⟨oM,oM⟩,λm h1 h2=>by omega⟩ ?_
        ·exact wM (λk=>.key k) cM
        rintro k ⟨⟨hk2,hk4⟩,hk⟩;have wk:IntKind.i64.wrap (i+(k:Int))=i+k:=ae oM oM;refine Wp.seq ?_;refine vR qk cM ?_;refine wC cM (λhc=>?_) (λhc=>?_)
        ·have hk3:k<4:=by
          simp at hc;omega
         obtain⟨d0,d1⟩:=rng (i+k);refine wK ?_;refine Wp.seq (Wp.block ?_);refine wR qk (aa cM wk) ?_ ?_
         ·simp;omega
         refine wC cM (λhc=>?_) (λhc=>?_)
         ·have hb:¬ (i+k<s.size/\0<=kn fw (bt s (i+k))):=by
           simp at hc;omega
          have hx:iI s (i+k)=.error (i+k):=by rw[gd,if_neg hb]
          have he:eK s (i+1)=.error (i+k):=by
           have hk23:k=2\/k=3:=oM;rcases hk23 with rfl|rfl
           ·rw[hX,show i+1+1=i+((2:Nat):Int) by omega,hx]
           ·have h2:=hk 2 oM oM;have hx2:iI s (i+((2:Nat):Int))=.ok (kn fw (bt s (i+((2:Nat):Int))),i+((3:Nat):Int)):=by rw[gd,if_pos h2,show i+((2:Nat):Int)+1=i+((3:Nat):Int) by omega]
            rw[hX,show i+1+1=i+((2:Nat):Int) by omega,hx2];simp only[hx]
          rw[he,js];refine vR qk (aa cM wk) ?_;refine wZ cM ?_;exact λE=>rfl
         ·have hb:i+k<s.size/\0<=kn fw (bt s (i+k)):=by
           simp at hc;omega
          have wk1:IntKind.i64.wrap ((k:Int)+1)=((k+1:Nat):Int):=wW;refine wK ?_;refine vr qk (aa cM wk1) ?_;refine⟨k+1,⟨⟨oM,oM⟩,λm h1 h2=>?_⟩,oM,?_⟩
          ·by_cases h:m=k
           ·rw[h];exact hb
           ·exact hk m h1 oM
          ·exact wM (λk=>.key k) cM
        ·have hk3:k=4:=by
          simp at hc;omega
         subst hk3;have g2:=hk 2 oM oM;have g3:=hk 3 oM oM;have l2:=xZ _ (rng (i+((2:Nat):Int))).1 (rng (i+((2:Nat):Int))).2;have l3:=xZ _ (rng (i+((3:Nat):Int))).1 (rng (i+((3:Nat):Int))).2;have r2:=rng (i+2);have r3:=rng (i+3);have w3:IntKind.i64.wrap (i+3)=i+3:=ae oM oM
         have w4:IntKind.i64.wrap (i+4)=i+4:=ae oM oM;rw[show ((2:Nat):Int)=2 from rfl]at g2 l2;rw[show ((3:Nat):Int)=3 from rfl]at g3 l3;have hx2:iI s (i+2)=.ok (kn fw (bt s (i+2)),i+3):=by rw[gd,if_pos g2,show i+2+1=i+3 by omega]
         have hx3:iI s (i+3)=.ok (kn fw (bt s (i+3)),i+4):=by rw[gd,if_pos g3,show i+3+1=i+4 by omega]
         have he:eK s (i+1)=.ok (16*kn fw (bt s (i+2))+kn fw (bt s (i+3)),i+4):=by
          rw[hX,show i+1+1=i+2 by omega,hx2];simp only[hx3]
         have wa:IntKind.i64.wrap (16*kn fw (bt s (i+2)))=16*kn fw (bt s (i+2)):=ae oM oM;have wb:IntKind.i64.wrap (16*kn fw (bt s (i+2))+kn fw (bt s (i+3)))=16*kn fw (bt s (i+2))+kn fw (bt s (i+3)):=ae oM oM
         have wc:IntKind.u8.wrap (16*kn fw (bt s (i+2))+kn fw (bt s (i+3)))=16*kn fw (bt s (i+2))+kn fw (bt s (i+3)):=eQ oM oM;rw[he,nR];refine wE ?_;refine lf qk (ur cM w2 w3 w4 wa wb wc) ?_ ?_
         ·omega
         refine wZ cM ?_;exact λE=>rfl
       ·have h120:¬ bt s (i+1)=120:=by simpa using hc
        refine wK ?_;refine vR qk cM ?_;refine Wp.seq ?_;refine vR qk cM ?_;refine wC cM (λhc=>?_) (λhc=>?_)
        ·have hb:(((bt s (i+1)<32\/126<bt s (i+1))\/48<=bt s (i+1)/\bt s (i+1)<=57)\/97<=bt s (i+1)/\bt s (i+1)<=122)\/65<=bt s (i+1)/\bt s (i+1)<=90:=by
          simp at hc;omega
         have he:eK s (i+1)=.error (i+1):=by rw[eK,if_neg oM,if_neg h110,if_neg h114,if_neg h116,if_neg h120,if_pos hb]
         rw[he,js];refine vR qk (aa cM w1) ?_;refine wZ cM ?_;exact λE=>rfl
        ·have hb:¬ ((((bt s (i+1)<32\/126<bt s (i+1))\/48<=bt s (i+1)/\bt s (i+1)<=57)\/97<=bt s (i+1)/\bt s (i+1)<=122)\/65<=bt s (i+1)/\bt s (i+1)<=90):=λh=>by
          apply Bool.eq_false_iff.1 hc;simp;omega
         have w12:i+1+1=i+2:=oM;have he:eK s (i+1)=.ok (bt s (i+1),i+2):=by rw[eK,if_neg oM,if_neg h110,if_neg h114,if_neg h116,if_neg h120,if_neg hb,w12]
         rw[he,nR];refine wK ?_;refine vR qk (aa cM w2) ?_;refine wZ cM ?_;exact λE=>rfl
def gI(f:Nat->Bool):List Value:=(List.range 256).map λi=>.bool (f i)
theorem qK(f:Nat->Bool):(gI f).length=256:=by simp[gI]
theorem dN(f:Nat->Bool):(List.map SV.v (gI f)).length=256:=by simp[gI]
theorem vL{f g:Nat->Bool}(h:∀ i,i<256->f i=g i):gI f=gI g:=List.map_congr_left λi hi=>by rw[h i (List.mem_range.1 hi)]
theorem mP:List.replicate 256 (Value.bool false)=gI λ_=>false:=by
 simp[gI,List.map_const']
theorem mf(f:Nat->Bool)(i:Nat)(hi:i<256):(List.map SV.v (gI f)).getD i (.v undef)=.v (.bool (f i)):=by
 simp[gI,List.getD_eq_getElem?_getD,hi]
theorem yg(f:Nat->Bool)(i:Nat)(b:Bool)(hi:i<256):List.take i (List.map SV.v (gI f))++[SV.v (.bool b)]++List.drop (i+1) (List.map SV.v (gI f))=List.map SV.v (gI λk=>if k=i then b else f k):=by
 apply List.ext_getElem
 ·simp[gI];omega
 ·intro n h1 h2;simp only[List.length_map,gI,List.length_range]at h2;by_cases hn:n<i
  ·rw[List.getElem_append_left (by simp[gI];omega),List.getElem_append_left (by simp[gI];omega)];simp[gI,show ¬ n=i by omega]
  ·by_cases hn2:n=i
   ·subst hn2;rw[List.getElem_append_left (by simp[gI];omega),List.getElem_append_right (by simp[gI];omega)];simp[gI]
   ·rw[List.getElem_append_right (by simp[gI];omega)];simp[gI,hn2]
    congr 3
    omega
theorem lO(f:Nat->Bool):List.take 256 (List.map SV.v (gI f))=List.map SV.v (gI f):=List.take_of_length_le (by rw[dN];omega)
theorem nv(f:Nat->Bool):List.drop 256 (List.map SV.v (gI f))=[]:=List.drop_of_length_le (by rw[dN];omega)
theorem mm(f:Nat->Bool):(List.map SV.v (gI f)).all di=true:=by
 rw[List.all_eq_true];intro x hx;obtain⟨v,hv,rfl⟩:=List.mem_map.1 hx;obtain⟨i,_,rfl⟩:=List.mem_map.1 hv;rfl
def nj(S:CS):Value:=.agg (gI S.getLsbD).toArray
def blV(f:Nat->Bool):Value:=.agg (gI f).toArray
theorem iX(E:Nat->Value)(f:Nat->Bool):den E (.agg ((gI f).map SV.v))=blV f:=by
 simp only[den,aJ,blV]
theorem FG{f:Nat->Bool}{S:CS}(h:∀ i,i<256->f i=S.getLsbD i):blV f=nj S:=by rw[blV,vL h];rfl
def xY:aM prog 174 where
 pre:=λW bs=>λ| [.val (.string s),.val (.int .i64 i),.val (.bool inner)]=>0<=i/\i<=s.size/\s.size<=140737488351232|_=>False
 res:=λW=>λ| [.val (.string s),.val (.int .i64 i),.val (.bool inner)]=>Ze (eD s i (kG inner))|_=>undef
 enters:=call174
 ok:=by
  intro W w bs us as_ hk hu hp;split at hp
  ·rename_i s i inner
   match us,hu with
   |[u0,u1,u2],hu=>
    obtain⟨rfl,rfl,rfl,_⟩:=hu;exact ML s i inner hp.1 hp.2.1 hp.2.2 w
  ·exact hp.elim
theorem G9(W:World)(s:ByteArray)(i:Int)(inner:Bool):xY.res W [.val (.string s),.val (.int .i64 i),.val (.bool inner)]=Ze (eD s i (kG inner)):=rfl
theorem HF(W:World)(bs:List Nat)(s:ByteArray)(i:Int)(inner:Bool):xY.pre W bs [.val (.string s),.val (.int .i64 i),.val (.bool inner)]=(0<=i/\i<=s.size/\s.size<=140737488351232):=rfl
noncomputable def Γ62:Env prog:=⟨λ| 174=>some xY.spec|_=>none,λ| _=>none,λ_ _=>none⟩
theorem abS:Γ62.sp 174=some xY.spec:=rfl
def rdV:Except Int (CS×Int)->Value
 |.ok (a,j)=>.tuple #[nj a,.int .i64 j,.int .i64 0,.int .i64 0]
 |.error j=>.tuple #[nj 0,.int .i64 0,.int .i64 10,.int .i64 j]
theorem akk(i:Nat)(hi:i<256):(~~~(Ki ⟨#[10]⟩ 1)).getLsbD i=decide (i≠10):=by
 have h:Ki ⟨#[10]⟩ 1=uW 0 10:=by decide
 rw[BitVec.getLsbD_not,h,tF _ _ _ oM];simp[hi]
theorem JP{s:ByteArray}{i j:Int}(h:iI s i=.error j):j=i:=by
 rw[iI]at h;split at h
 ·cases h
 ·exact (Except.error.inj h).symm
theorem Zb{s:ByteArray}{i j:Int}(h:eK s i=.error j)(h0:0<=i):0<=j:=by
 rw[eK]at h;split at h
 ·obtain rfl:=Except.error.inj h;exact h0
 ·split at h
  ·cases h
  ·split at h
   ·cases h
   ·split at h
    ·cases h
    ·split at h
     ·cases h2:iI s (i+1) with
      |error k=>
       rw[h2]at h;obtain rfl:=Except.error.inj h;have:=JP h2;omega
      | ok p=>
       obtain⟨a,k⟩:=p;have g:=tW h2 oM;rw[h2]at h;simp only at h;cases h3:iI s k with
       |error l=>
        rw[h3]at h;obtain rfl:=Except.error.inj h;have:=JP h3;omega
       |ok p=>rw[h3]at h;cases h
     ·split at h
      ·obtain rfl:=Except.error.inj h;exact h0
      ·cases h
theorem zQ{s q:ByteArray}{i j:Int}(h:eD s i q=.error j)(h0:0<=i):0<=j:=by
 rw[eD]at h;split at h
 ·exact Zb h oM
 ·split at h
  ·obtain rfl:=Except.error.inj h;exact h0
  ·cases h
structure MI where
 n:Nat
 i:Int
 a:CS
theorem agn(a:CS)(lo hi:Int)(h0:0<=lo)(h2:0<=hi)(h1:hi<256)(k:Nat)(hk:k<256):(a ||| mg lo hi).getLsbD k=(a.getLsbD k||(decide (lo<=k)&&decide ((k:Int)<=hi))):=by
 rw[BitVec.getLsbD_or,mg,Hh _ _ _ oM,<- Bool.decide_and]
 congr 1
 rw[decide_eq_decide];omega
def bj:=(aj @an @ab jk jn gR ck cf (aj b9 b8 ca cc cg cd fu (aj fh fy ft fB dc df dh (aj db cY c8 DT Dq DD Cq (aj akT alo @aG @al @ax @aw @mP (aj @dN @lO @nv @mm @aA @iX G9 (eS HF abS @nR @js)))))))
theorem QZ(s:ByteArray)(i:Int)(h0:0<=i)(hi:i<s.size)(hs:s.size<=140737488351232)(w:World) :
  Calls prog 122 #[.string s,.int .i64 i] w λe w' => e=.returned (rdV (dZ s i))/\ah w [] w' := by
 have hz:∀ E,den E (.agg ((gI λ_=>false).map SV.v))=nj 0:=λE=>by rw[iX];exact FG λi _=>by simp
 have w1:IntKind.i64.wrap (i+1)=i+1:=ae oM oM;refine af (nt:=157) [.cell 4 241,.tmp 5,.tmp 6,.tmp 7] func122 rfl rfl rfl ?_;refine vR Γ0 bj ?_;refine vR Γ0 bj ?_;refine Wp.seq ?_;refine vR Γ0 bj ?_;refine wC bj (λhc=>?_) (λhc=>?_)
 ·exfalso;simp at hc;omega
 ·refine wK ?_;refine Wp.seq ?_;refine vR Γ0 bj ?_;refine wC bj (λhc=>?_) (λhc=>?_)
  ·have h46:bt s i=46:=by simpa using hc
   have hI:dZ s i=.ok (~~~(Ki ⟨#[10]⟩ 1),i+1):=by rw[dZ,if_pos h46]
   rw[hI];refine Wp.seq ?_;refine vR Γ0 bj ?_;refine Wp.block ?_
   refine Wp.loop (λj:Nat=>⟨20,bm [(0,.is (.v (.string s))),(1,.is (.v (.int .i64 i))),(4,.is (.own 0 0)),(8,.is (.own 32 0)),(9,.is (.v (.int .i64 (j:Nat))))],aY [(0,.cells 241 ((gI λ_=>false).map .v)),(32,.cells 241 ((gI λk=>decide (k<j)&&decide (k≠10)).map .v))]⟩) (λj=>j<=256) (λj=>256-j) 0 ?_ (Nat.zero_le _) ?_
   ·exact wM (λx=>.key x) (bP bj @Nat.not_lt_zero @Bool.false_and)
   rintro j hj;refine Wp.seq ?_;refine vR Γ0 bj ?_;refine wC bj (λhc=>?_) (λhc=>?_)
   ·have hlt:j<256:=by
     simp at hc;omega
    have wj:IntKind.i64.wrap ((j:Int)+1)=((j+1:Nat):Int):=wW;refine wK ?_;refine Wp.seq (Wp.block ?_)
    refine Wp.Gu Γ0 cj (by simp only[kp,Op.operands,Value.cells,σ0,σB,Nat.reduceEqDiff,Nat.reduceAdd,Nat.reduceMul,Nat.reduceLT,Nat.reduceLeDiff,Nat.reduceBEq,av,Int.reduceToNat,Int.reduceLT,Int.reduceLE,Nat.reduceDiv,Nat.reduceMod,Nat.reduceSub,Int.reducePow,Nat.reducePow,σP,σB3,bj,yg _ j _ hlt];exact rfl) rfl ?_ ?_
    ·omega
    refine qq ?_;refine vr Γ0 (aa bj wj) ?_;have e:(λk=>if k=j then !decide ((j:Int)=10) else decide (k<j)&&decide (¬k=10))=λk=>decide (k<j+1)&&decide (¬k=10):=by
     funext k
     by_cases hk:k=j
     ·subst hk;rw[if_pos rfl,decide_eq_true (show k<k+1 by omega),Bool.true_and,<- decide_not,decide_eq_decide];omega
     ·rw[if_neg hk]
      congr 1
      rw[decide_eq_decide];omega
    refine⟨j+1,oM,oM,?_⟩;exact wM (λx=>.key x) (aa bj e)
   ·have hlt:j=256:=by
     simp at hc;omega
    subst hlt;refine wE ?_;refine vR Γ0 (aa bj w1) ?_;refine wZ bj ?_;intro E;show Value.tuple #[den E (.agg _),.int .i64 (i+1),.int .i64 0,.int .i64 0]=_;rw[iX,FG (S := ~~~(Ki ⟨#[10]⟩ 1)) λk hk=>by rw[akk k hk,decide_eq_true hk,Bool.true_and]];rfl
  ·have h46:¬ bt s i=46:=by simpa using hc
   refine wK ?_;refine Wp.seq ?_;refine vR Γ0 bj ?_;refine wC bj (λhc=>?_) (λhc=>?_)
   ·have h91:¬ bt s i=91:=by simpa using hc
    have hI:dZ s i=ad1 (eD s i BI):=by rw[dZ,if_neg h46,if_neg h91]
    rw[hI];have hb:eD s i (kG false)=eD s i BI:=rfl;cases hO:eD s i BI with
    | error j=>
     have hj:(0:Int)<=j:=zQ hO h0;refine wR Γ62 (bP bj hb hO) ?_ ?_
     ·exact⟨oM,oM,hs⟩
     refine Wp.seq ?_;refine vR Γ0 bj ?_;refine wC bj (λhc=>?_) (λhc=>?_)
     ·skip;refine vR Γ0 bj ?_;refine wZ bj ?_;intro E;show Value.tuple #[den E (.agg _),.int .i64 0,.int .i64 10,.int .i64 j]=_;rw[hz];rfl
     ·exfalso;simp at hc;omega
    | ok q=>
     obtain⟨b,j⟩:=q;have hb1:=kO hO h0;refine wR Γ62 (bP bj hb hO) ?_ ?_
     ·exact⟨oM,oM,hs⟩
     refine Wp.seq ?_;refine vR Γ0 bj ?_;refine wC bj (λhc=>?_) (λhc=>?_)
     ·exfalso;simp at hc
     ·obtain⟨c,rfl⟩:=Int.eq_ofNat_of_zero_le hb1.1;have wc:IntKind.i64.wrap ((c:Nat):Int)=((c:Nat):Int):=ae oM oM;refine wK ?_
      refine Wp.pn Γ0 cj (by simp only[kp,Op.operands,Value.cells,σ0,σB,Nat.reduceEqDiff,Nat.reduceAdd,Nat.reduceMul,Nat.reduceLT,Nat.reduceLeDiff,Nat.reduceBEq,av,Int.reduceToNat,Int.reduceLT,Int.reduceLE,Nat.reduceDiv,Nat.reduceMod,Nat.reduceSub,Int.reducePow,Nat.reducePow,σP,σB3,bj,wc,yg _ c _ (show c<256 by omega)];exact rfl) rfl ?_ ?_
      ·omega
      refine vR Γ0 bj ?_;refine wZ bj ?_;intro E;show Value.tuple #[den E (.agg _),.int .i64 j,.int .i64 0,.int .i64 0]=_;rw[iX,FG (S:=mg (c:Int) (c:Int)) λk hk=>by
       rw[mg,Hh _ _ _ oM]
       by_cases h:k=c
       ·rw[if_pos h,h];simp
       ·rw[if_neg h,eq_comm,decide_eq_false_iff_not];omega]
      rfl
   ·have h91:bt s i=91:=by simpa using hc
    have hI:dZ s i=fi s (i+1):=by rw[dZ,if_neg h46,if_pos h91]
    rw[hI];refine wK ?_;refine vR Γ0 (aa bj w1) ?_;refine wR Γ0 bj ?_ ?_
    ·simp;omega
    generalize hi0:(if ji s (i+1) then i+1+1 else i+1)=i0;have hj0:0<=i0/\i0<=s.size:=by
     rw[<- hi0];split
     ·rename_i h;simp[ji]at h;omega
     ·omega
    generalize hR:vf s (s.size+1) i0 0=R;have hm:fi s (i+1)=vv (ji s (i+1)) R:=by rw[fi,hi0,hR]
    rw[hm];refine aV ⟨40,bm [(0,.is (.v (.string s))),(4,.is (.own 0 0)),(8,.is (.own 32 0)),(13,.is (.v (.int .i64 i0))),(14,.is (.v (.bool (ji s (i+1)))))],aY [(0,.cells 241 ((gI λ_=>false).map .v)),(32,.cells 241 ((gI λ_=>false).map .v))]⟩ ?_ ?_
    ·skip;refine vR Γ0 bj ?_;refine wC bj (λhc=>?_) (λhc=>?_)
     ·have hcar:ji s (i+1)=true:=hc;rw[hcar]at hi0;simp only[if_true]at hi0;subst hi0;have w2:IntKind.i64.wrap (i+1+1)=i+1+1:=ae oM oM;refine vr Γ0 (aa bj w2) ?_;exact wM (λx=>.key x) (aa bj @ji.eq_1)
     ·have hcar:ji s (i+1)=false:=hc;rw[hcar]at hi0;simp only[Bool.false_eq_true,if_false]at hi0;subst hi0;refine wK ?_;exact wM (λx=>.key x) (aa bj @ji.eq_1)
    have e0:(0:CS).getLsbD=λ_=>false:=by funext k;simp
    refine Wp.seq (Wp.block ?_);refine Wp.loop (λp:MI=>⟨50,bm [(0,.is (.v (.string s))),(4,.is (.own 0 0)),(8,.is (.own 32 0)),(13,.is (.v (.int .i64 p.i))),(14,.is (.v (.bool (ji s (i+1)))))],aY [(0,.cells 241 ((gI λ_=>false).map .v)),(32,.cells 241 ((gI p.a.getLsbD).map .v))]⟩)
     (λp=>(0<=p.i/\p.i<=s.size)/\(s.size-p.i<p.n/\1<=p.n)/\vf s p.n p.i p.a=R) (λp=>p.n) ⟨s.size+1,i0,0⟩ ?_ ⟨hj0,⟨by simp only;omega,by simp only;omega⟩,hR⟩ ?_
    ·exact wM (λx=>.key x) (aa bj e0)
    rintro⟨n,i',a⟩ ⟨⟨k0,k4⟩,⟨k1,k3⟩,k2⟩;simp only at k0 k1 k2 k3 k4;dsimp only;obtain⟨n,rfl⟩:∃ m,n=m+1:=⟨n-1,oM⟩;rw[vf]at k2;refine Wp.seq ?_;refine wR Γ0 bj ?_ ?_
    ·simp;omega
    refine wC bj (λhc=>?_) (λhc=>?_)
    ·have hn:¬ (i' < s.size/\bt s i' = 93):=by
      simp at hc;omega
     rw[if_neg hn]at k2;refine wK ?_;refine Wp.block ?_;have hb:eD s i' (kG true)=eD s i' mH:=rfl;cases h1:eD s i' mH with
     | error j=>
      have hj:=zQ h1 k0;rw[h1]at k2;simp only at k2;rw[<- k2,vv];refine wR Γ62 (bP bj hb h1) ?_ ?_
      ·exact⟨k0,k4,hs⟩
      refine Wp.seq ?_;refine vR Γ0 bj ?_;refine wC bj (λhc=>?_) (λhc=>?_)
      ·skip;refine vR Γ0 bj ?_;refine wZ bj ?_;intro E;show Value.tuple #[den E (.agg _),.int .i64 0,.int .i64 10,.int .i64 j]=_;rw[hz];rfl
      ·exfalso;simp at hc;omega
     | ok p=>
      obtain⟨lo,j⟩:=p;obtain⟨o0,o1,o2,o3⟩:=kO h1 k0;rw[h1]at k2;simp only at k2;refine wR Γ62 (bP bj hb h1) ?_ ?_
      ·exact⟨k0,k4,hs⟩
      refine Wp.seq ?_;refine vR Γ0 bj ?_;refine wC bj (λhc=>?_) (λhc=>?_)
      ·exfalso;simp at hc
      ·refine wK ?_;refine vR Γ0 bj ?_;refine vR Γ0 bj ?_
       refine kP (λp:Int×Int=>⟨110,bm [(0,.is (.v (.string s))),(4,.is (.own 0 0)),(8,.is (.own 32 0)),(13,.is (.v (.int .i64 p.2))),(14,.is (.v (.bool (ji s (i+1))))),(15,.is (.v (.int .u8 lo))),(18,.is (.v (.int .u8 p.1)))],aY [(0,.cells 241 ((gI λ_=>false).map .v)),(32,.cells 241 ((gI a.getLsbD).map .v))]⟩) (λ_=>w) (λ_=>[])
        (λp=>(0<=p.1/\p.1<256)/\(i' < p.2/\p.2<=s.size)/\vf s n p.2 (a ||| mg lo p.1)=R) ?_ ?_
       ·skip;refine wR Γ0 bj ?_ ?_
        ·simp;omega
        refine wC bj (λhc=>?_) (λhc=>?_)
        ·have h45:j<s.size/\bt s j=45:=by
          simp at hc;omega
         rw[if_pos h45]at k2;have wj:IntKind.i64.wrap (j+1)=j+1:=ae oM oM;have hb2:eD s (j+1) (kG true)=eD s (j+1) mH:=rfl;refine vR Γ0 (aa bj wj) ?_;cases h2:eD s (j+1) mH with
         | error l=>
          have hl:=zQ h2 oM;rw[h2]at k2;simp only at k2;rw[<- k2,vv];refine wR Γ62 (bP bj hb2 h2) ?_ ?_
          ·exact⟨oM,oM,hs⟩
          refine Wp.seq ?_;refine vR Γ0 bj ?_;refine wC bj (λhc=>?_) (λhc=>?_)
          ·skip;refine vR Γ0 bj ?_;refine wZ bj ?_;intro E;show Value.tuple #[den E (.agg _),.int .i64 0,.int .i64 10,.int .i64 l]=_;rw[hz];rfl
          ·exfalso;simp at hc;omega
         | ok q=>
          obtain⟨hi',l⟩:=q;obtain⟨q0,q1,q2,q3⟩:=kO h2 oM;rw[h2]at k2;simp only at k2;refine wR Γ62 (bP bj hb2 h2) ?_ ?_
          ·exact⟨oM,oM,hs⟩
          refine Wp.seq ?_;refine vR Γ0 bj ?_;refine wC bj (λhc=>?_) (λhc=>?_)
          ·exfalso;simp at hc
          ·refine wK ?_;refine Wp.seq ?_;refine vR Γ0 bj ?_;refine wC bj (λhc=>?_) (λhc=>?_)
           ·have hlt:hi' < lo:=by simpa using hc
            rw[if_pos hlt]at k2;rw[<- k2,vv];refine vR Γ0 bj ?_;refine wZ bj ?_;intro E;show Value.tuple #[den E (.agg _),.int .i64 0,.int .i64 10,.int .i64 (j+1)]=_;rw[hz];rfl
           ·have hlt:¬ hi' < lo:=by simpa using hc
            rw[if_neg hlt]at k2;refine wK ?_;refine vr Γ0 bj ?_;refine⟨(hi',l),⟨⟨q0,q1⟩,⟨by simp only;omega,q3⟩,k2⟩,rfl,rfl,?_⟩;exact wM (λx=>.key x) bj
        ·have h45:¬ (j<s.size/\bt s j=45):=λh=>by
          apply Bool.eq_false_iff.1 hc;simp;exact h
         rw[if_neg h45]at k2;refine wK ?_;refine⟨(lo,j),⟨⟨o0,o1⟩,⟨by simp only;omega,o3⟩,k2⟩,rfl,rfl,?_⟩;exact wM (λx=>.key x) bj
       rintro⟨hi',j'⟩ ⟨⟨q0,q1⟩,⟨q2,q3⟩,q4⟩ _;simp only at q0 q1 q2 q3 q4;dsimp only;obtain⟨lo,rfl⟩:=Int.eq_ofNat_of_zero_le o0;obtain⟨hi',rfl⟩:=Int.eq_ofNat_of_zero_le q0;have wl:IntKind.i64.wrap ((lo:Nat):Int)=((lo:Nat):Int):=ae oM oM
       have wh:IntKind.i64.wrap ((hi' : Nat):Int)=((hi' : Nat):Int):=ae oM oM;refine vR Γ0 (aa bj wl) ?_;refine Wp.block ?_
       refine Wp.loop (λm:Nat=>⟨120,bm [(0,.is (.v (.string s))),(4,.is (.own 0 0)),(8,.is (.own 32 0)),(13,.is (.v (.int .i64 j'))),(14,.is (.v (.bool (ji s (i+1))))),(18,.is (.v (.int .u8 (hi' : Nat)))),(20,.is (.v (.int .i64 ((lo+m:Nat):Int))))],aY [(0,.cells 241 ((gI λ_=>false).map .v)),(32,.cells 241 ((gI λk=>a.getLsbD k||(decide (lo<=k)&&decide (k<lo+m))).map .v))]⟩)
        (λm=>m<=hi' + 1-lo) (λm=>hi' + 1-lo-m) 0 ?_ (Nat.zero_le _) ?_
       ·have e:(λk=>a.getLsbD k||(decide (lo<=k)&&decide (k<lo+0)))=a.getLsbD:=by
         funext k
         have:(decide (lo<=k)&&decide (k<lo+0))=false:=by
          rw[<- Bool.decide_and,decide_eq_false_iff_not];omega
         rw[this,Bool.or_false]
        rw[e];exact wM (λx=>.key x) bj
       rintro m hm';refine Wp.seq ?_;refine vR Γ0 (aa bj wh) ?_;refine wC bj (λhc=>?_) (λhc=>?_)
       ·have hlt:lo+m<=hi' := by
         simp at hc;omega
        have wm:IntKind.i64.wrap (((lo+m:Nat):Int)+1)=((lo+(m+1):Nat):Int):=wW;refine wK ?_;refine Wp.seq (Wp.block ?_)
        refine Wp.Gu Γ0 cj (by simp only[kp,Op.operands,Value.cells,σ0,σB,Nat.reduceEqDiff,Nat.reduceAdd,Nat.reduceMul,Nat.reduceLT,Nat.reduceLeDiff,Nat.reduceBEq,av,Int.reduceToNat,Int.reduceLT,Int.reduceLE,Nat.reduceDiv,Nat.reduceMod,Nat.reduceSub,Int.reducePow,Nat.reducePow,σP,σB3,bj,yg _ (lo+m) _ (show lo+m<256 by omega)];exact rfl) rfl ?_ ?_
        ·omega
        refine qq ?_;refine vr Γ0 (aa bj wm) ?_;have e:(λk=>if k=lo+m then true else a.getLsbD k||(decide (lo<=k)&&decide (k<lo+m)))=λk=>a.getLsbD k||(decide (lo<=k)&&decide (k<lo+(m+1))):=by
         funext k
         by_cases hk:k=lo+m
         ·rw[if_pos hk,decide_eq_true (show lo<=k by omega),decide_eq_true (show k<lo+(m+1) by omega)];simp
         ·rw[if_neg hk]
          congr 2
          rw[decide_eq_decide];omega
        refine⟨m+1,oM,oM,?_⟩;exact wM (λx=>.key x) (aa bj e)
       ·have hlt:¬ lo+m<=hi' := by
         simp at hc;omega
        have e:gI (λk=>a.getLsbD k||(decide (lo<=k)&&decide (k<lo+m)))=gI (a ||| mg (lo:Int) (hi' : Int)).getLsbD:=vL λk hk=>by
         rw[agn a _ _ oM oM oM k hk]
         congr 1
         rw[<- Bool.decide_and,<- Bool.decide_and,decide_eq_decide];omega
        refine wE ?_;refine⟨⟨n,j',a ||| mg (lo:Int) (hi' : Int)⟩,⟨⟨by simp only;omega,q3⟩,⟨by simp only;omega,by simp only;omega⟩,q4⟩,by simp only;omega,?_⟩;exact wM (λx=>.key x) (aa bj e)
    ·have hn:i' < s.size/\bt s i' = 93:=by
      simp at hc;omega
     rw[if_pos hn]at k2;have wi:IntKind.i64.wrap (i' + 1)=i' + 1:=ae oM oM;refine wE ?_;refine aV ⟨90,bm [(4,.is (.own 0 0)),(8,.is (.own 32 0)),(13,.is (.v (.int .i64 i')))],aY [(0,.cells 241 ((gI λ_=>false).map .v)),(32,.cells 241 ((gI (QA (ji s (i+1)) a).getLsbD).map .v))]⟩ ?_ ?_
     ·skip;refine vR Γ0 bj ?_;refine wC bj (λhc=>?_) (λhc=>?_)
      ·have hcar:ji s (i+1)=true:=hc;rw[hcar];refine vR Γ0 bj ?_;refine Wp.block ?_
       refine Wp.loop (λm:Nat=>⟨80,bm [(4,.is (.own 0 0)),(8,.is (.own 32 0)),(13,.is (.v (.int .i64 i'))),(21,.is (.v (.int .i64 (m:Nat))))],aY [(0,.cells 241 ((gI λ_=>false).map .v)),(32,.cells 241 ((gI λk=>if k<m then !a.getLsbD k else a.getLsbD k).map .v))]⟩)
        (λm=>m<=256) (λm=>256-m) 0 ?_ (Nat.zero_le _) ?_
       ·have e:(λk=>if k<0 then !a.getLsbD k else a.getLsbD k)=a.getLsbD:=by
         funext k
         rw[if_neg oM]
        rw[e];exact wM (λx=>.key x) bj
       rintro m hm';refine Wp.seq ?_;refine vR Γ0 bj ?_;refine wC bj (λhc=>?_) (λhc=>?_)
       ·have hlt:m<256:=by
         simp at hc;omega
        have wm:IntKind.i64.wrap ((m:Int)+1)=((m+1:Nat):Int):=wW;refine wK ?_;refine Wp.seq (Wp.block ?_)
        refine Wp.Gu Γ0 cj (by simp only[kp,Op.operands,Value.cells,σ0,σB,Nat.reduceEqDiff,Nat.reduceAdd,Nat.reduceMul,Nat.reduceLT,Nat.reduceLeDiff,Nat.reduceBEq,av,Int.reduceToNat,Int.reduceLT,Int.reduceLE,Nat.reduceDiv,Nat.reduceMod,Nat.reduceSub,Int.reducePow,Nat.reducePow,σP,σB3,bj,yg _ m _ hlt,mf _ m hlt];exact rfl) rfl ?_ ?_
        ·omega
        refine qq ?_;refine vr Γ0 (aa bj wm) ?_;have e:(λk=>if k=m then !(if m<m then !a.getLsbD m else a.getLsbD m) else if k<m then !a.getLsbD k else a.getLsbD k)=λk=>if k<m+1 then !a.getLsbD k else a.getLsbD k:=by
         funext k
         by_cases hk:k=m
         ·subst hk;rw[if_pos rfl,if_neg oM,if_pos oM]
         ·rw[if_neg hk];by_cases h:k<m
          ·rw[if_pos h,if_pos oM]
          ·rw[if_neg h,if_neg oM]
        refine⟨m+1,oM,oM,?_⟩;exact wM (λx=>.key x) (aa bj e)
       ·have hlt:m=256:=by
         simp at hc;omega
        subst hlt;have e:gI (λk=>if k<256 then !a.getLsbD k else a.getLsbD k)=gI (QA true a).getLsbD:=vL λk hk=>by
         rw[if_pos hk];show _=(~~~a).getLsbD k;rw[BitVec.getLsbD_not];simp[hk]
        refine wE ?_;exact wM (λx=>.key x) (aa bj e)
      ·have hcar:ji s (i+1)=false:=hc;rw[hcar];refine wK ?_;exact wM (λx=>.key x) (bP bj @QA.eq_1 @Bool.false_eq_true)
     rw[<- k2,vv];refine vR Γ0 (aa bj wi) ?_;refine wZ bj ?_;intro E;show Value.tuple #[den E (.agg _),.int .i64 (i' + 1),.int .i64 0,.int .i64 0]=_;rw[iX];rfl
def DX:aM prog 122 where
 pre:=λW bs=>λ| [.val (.string s),.val (.int .i64 i)]=>0<=i/\i<s.size/\s.size<=140737488351232|_=>False
 res:=λW=>λ| [.val (.string s),.val (.int .i64 i)]=>rdV (dZ s i)|_=>undef
 enters:=call122
 ok:=by
  intro W w bs us as_ hk hu hp;split at hp
  ·rename_i s i
   match us,hu with
   |[u0,u1],hu=>
    obtain⟨rfl,rfl,_⟩:=hu;exact QZ s i hp.1 hp.2.1 hp.2.2 w
  ·exact hp.elim
theorem MX(W:World)(s:ByteArray)(i:Int):DX.res W [.val (.string s),.val (.int .i64 i)]=rdV (dZ s i):=rfl
theorem N4(W:World)(bs:List Nat)(s:ByteArray)(i:Int):DX.pre W bs [.val (.string s),.val (.int .i64 i)]=(0<=i/\i<s.size/\s.size<=140737488351232):=rfl
def xL(s:ByteArray)(i:Int):Bool:=(decide (i<s.size)&&decide (48<=bt s i))&&decide (bt s i<=57)
def abE:=(aj jk jn BG BH BJ gR ck (aj cf b9 b8 ca cc cg cd (aj fu fh fy ft fB dc df (aj dh db cY c8 xi vU xj (aj tK Pq PQ OR Ot OS Pz (aj Pm QP QI PZ Oc QG O6 (aj Qj PN Qu Oi PM P7 P5 (aj PX PK sK wP wU sF vY (aj wV xn vW wA wO w6 @aG (bP @al @ax @aw))))))))))
theorem Tj(s:ByteArray)(i:Int)(h0:0<=i)(w:World):Calls prog 172 #[.string s,.int .i64 i] w λe w' => e=.returned (.bool (xL s i))/\ah w [] w' := by
 refine af (nt:=21) [.tmp 4] func172 rfl rfl rfl ?_;refine vR Γ0 abE ?_;refine wR Γ0 abE ?_ ?_
 ·simp[h0];omega
 refine wZ abE ?_;exact λE=>rfl
def EH:aM prog 172 where
 pre:=λW bs=>λ| [.val (.string s),.val (.int .i64 i)]=>0<=i|_=>False
 res:=λW=>λ| [.val (.string s),.val (.int .i64 i)]=>.bool (xL s i)|_=>undef
 enters:=call172
 ok:=by
  intro W w bs us as_ hk hu hp;split at hp
  ·rename_i s i
   match us,hu with
   |[u0,u1],hu=>
    obtain⟨rfl,rfl,_⟩:=hu;exact Tj s i hp w
  ·exact hp.elim
theorem AU(W:World)(s:ByteArray)(i:Int):EH.res W [.val (.string s),.val (.int .i64 i)]=.bool (xL s i):=rfl
theorem AP(W:World)(bs:List Nat)(s:ByteArray)(i:Int):EH.pre W bs [.val (.string s),.val (.int .i64 i)]=(0<=i):=rfl
def Ay(c:Int):Bool:=decide (br c)
def ace:=(bP abE @AU @AP)
theorem HJ(c:Int)(w:World):Calls prog 117 #[.int .u8 c] w λe w' => e=.returned (.bool (Ay c))/\ah w [] w' := by
 have e:Ay c=(((decide (c=42)||decide (c=43))||decide (c=63))||decide (c=123)):=by
  rw[Ay,<- Bool.decide_or,<- Bool.decide_or,<- Bool.decide_or,decide_eq_decide];unfold br;omega
 rw[e];refine af (nt:=17) [.tmp 2] func117 rfl rfl rfl ?_;refine vR Γ0 ace ?_;refine vR Γ0 ace ?_;refine wZ ace ?_;exact λE=>rfl
def sG:aM prog 117 where
 pre:=λW bs=>λ| [.val (.int .u8 c)]=>True|_=>False
 res:=λW=>λ| [.val (.int .u8 c)]=>.bool (Ay c)|_=>undef
 enters:=call117
 ok:=by
  intro W w bs us as_ hk hu hp;split at hp
  ·rename_i c
   match us,hu with
   |[u0],hu=>
    obtain⟨rfl,_⟩:=hu;exact HJ c w
  ·exact hp.elim
theorem tc(W:World)(c:Int):sG.res W [.val (.int .u8 c)]=.bool (Ay c):=rfl
theorem tC(W:World)(bs:List Nat)(c:Int):sG.pre W bs [.val (.int .u8 c)]=(True):=rfl
structure Fm where
 place:Int
 alt:Int
 meet:Int
 sgn:Int
 row:Int
 fac:Int
def Fm.bw(f:Fm):List Value:=[.int .i64 f.place,.int .i64 f.alt,.int .i64 f.meet,.int .u8 f.sgn,.int .i64 f.row,.int .i64 f.fac]
def kH(i:Int):Fm:=⟨i,-1,-1,0,-1,-1⟩
def afF:=(bP ace @tc @tC)
theorem YQ(i:Int)(w:World):Calls prog 116 #[.int .i64 i] w λe w' => e=.returned (.agg (kH i).bw.toArray)/\ah w [] w' := by
 refine af (nt:=5) [.cell 2 234] func116 rfl rfl rfl ?_;refine vR Γ0 afF ?_;refine vR Γ0 (aa afF @an) ?_;refine wZ afF ?_;exact λE=>rfl
def DL:aM prog 116 where
 pre:=λW bs=>λ| [.val (.int .i64 i)]=>True|_=>False
 res:=λW=>λ| [.val (.int .i64 i)]=>.agg (kH i).bw.toArray|_=>undef
 enters:=call116
 ok:=by
  intro W w bs us as_ hk hu hp;split at hp
  ·rename_i i
   match us,hu with
   |[u0],hu=>
    obtain⟨rfl,_⟩:=hu;exact YQ i w
  ·exact hp.elim
theorem CE(W:World)(i:Int):DL.res W [.val (.int .i64 i)]=.agg (kH i).bw.toArray:=rfl
theorem CG(W:World)(bs:List Nat)(i:Int):DL.pre W bs [.val (.int .i64 i)]=(True):=rfl
structure Nd where
 op:Int
 set:CS
 a:Int
 b:Int
 m:Int
 n:Int
def Nd.bw(d:Nd):List Value:=.int .i64 d.op::(gI d.set.getLsbD++[.int .i64 d.a,.int .i64 d.b,.int .i64 d.m,.int .i64 d.n])
def dD(l:List Nd):List Value:=l.flatMap Nd.bw
theorem Nd.iM(d:Nd):d.bw.length=261:=by simp[Nd.bw,qK]
theorem OJ(l:List Nd):(dD l).length=l.length*261:=by
 induction l with
 |nil=>rfl
 |cons d r ih=>
  have:dD (d::r)=d.bw++dD r:=rfl;rw[this,List.length_append,ih,Nd.iM,List.length_cons];omega
def cl(op a b:Int):Nd:=⟨op,0,a,b,0,0⟩
theorem sY(op a b:Int):dO prog 243 [0,2,3] [.v (.int .i64 op),.v (.int .i64 a),.v (.int .i64 b)]=⟨True,.agg ((cl op a b).bw.map .v),[],none,[],[]⟩:=by
 kernel_rfl
theorem Tc{P:Program}{T e:TypeId}{sz:Nat}{zs:List Value}(κ:Nat)(l:List SV)(h1:P.underlying T=some (.slice e))(h2:ts P e=some sz)(h3:tz P e=some zs)(h4:zs.length=sz)(h5:sz<=16777216)(h6:0<sz)(h7:l.length=sz) :
  bz P κ T 1 [0] [.agg l]=⟨True,.hd (8*κ),[(8*κ,some (.row e sz 1 l))],none,[],[]⟩:=by
 have hp:partsOf (.agg l)=l:=rfl;have hf:dH (λi=>some (i*sz,sz)) ((List.replicate 1 zs).flatten.map .v) ([0].zip [.agg l])=some l:=by
  simp only[List.zip_cons_cons,List.zip_nil_right,dH,hp,Nat.zero_mul,Nat.zero_add];rw[if_pos ⟨h7,by simp[h4]⟩];simp[av,h7,<- h4]
 unfold bz;simp only[h1,h2,h3,hf]
 congr 1
 exact eq_true ⟨oM,h4,h6⟩
theorem ti(κ:Nat)(d:Nd):bz prog κ 62 1 [0] [.agg (d.bw.map .v)]=⟨True,.hd (8*κ),[(8*κ,some (.row 243 261 1 (d.bw.map .v)))],none,[],[]⟩:=
 Tc κ _ tK sK sF sI oM oM (by rw[List.length_map,Nd.iM])
theorem sH(l:List Nd)(d:Nd):List.map SV.v (dD l)++List.map SV.v d.bw=List.map SV.v (dD (l++[d])):=by simp[dD]
theorem JX(l:List Nd)(d:Nd):l.length+1=(l++[d]).length:=by simp
theorem Nd.ej(d:Nd):(List.map SV.v d.bw).all di=true:=by
 show (List.map SV.v (Value.int .i64 d.op::(gI d.set.getLsbD++[.int .i64 d.a,.int .i64 d.b,.int .i64 d.m,.int .i64 d.n]))).all di=true;rw[List.map_cons,List.all_cons,List.map_append,List.all_append,mm];rfl
def Zf:=(aj afF @CE @CG @mP @dN @lO @nv (ml @mm @aA @iX @sY @ti @sH))
theorem agj(l:List Nd)(op a b:Int)(xs:List Value)(u:Value)(fp:List Nat)(w:World)(hl:l.length<=4000000)(ho:od w u fp 232 [.row 243 261 l.length (dD l)] xs)(hlt:∀ b∈fp,b<w.heap.size) :
  Calls prog 173 (#[u]++#[.int .i64 op,.int .i64 a,.int .i64 b]) w λe w' => QC w u fp 232 xs e w' (.ret (.int .i64 (l.length:Nat)) [.row 243 261 (l++[cl op a b]).length (dD (l++[cl op a b]))]):=by
 rw[<- JX];refine MA (nt:=28) #[.int .i64 op,.int .i64 a,.int .i64 b] [.tmp 8] (by show 1<=7;omega) ho hlt func173 rfl rfl rfl ?_;refine vR Γ0 Zf ?_;refine wR Γ0 Zf ?_ ?_
 ·exact⟨oM,oM,oM,⟨by simp[qK],by unfold maxLen;omega,oM,Nd.ej _⟩,oM⟩
 have w1:IntKind.i64.wrap (((l.length+1:Nat):Int)-1)=((l.length:Nat):Int):=wW;refine wR Γ0 (aa Zf w1) ?_ ?_
 ·exact⟨oM,oM,oM,_,rfl⟩
 refine wZ Zf ?_;exact⟨_,_,rfl,λE=>rfl,[_],_,rfl,(ev (aa Zf @aA)),dE⟩
def IY:P8 prog 173 where
 T:=232
 m:=1
 pre:=λW bs fs as_=>match fs,as_ with|[.row 243 261 n vs],[.val (.int .i64 op),.val (.int .i64 a),.val (.int .i64 b)]=>∃ l:List Nd,vs=dD l/\n=l.length/\l.length<=4000000|_,_=>False
 out:=λW fs as_=>match fs,as_ with|[.row 243 261 n vs],[.val (.int .i64 op),.val (.int .i64 a),.val (.int .i64 b)]=>.ret (.int .i64 (n:Nat)) [.row 243 261 (n+1) (vs++(cl op a b).bw)]|_,_=>.pan [] undef
 enters:=call173
 ok:=by
  intro W w bs u fp us fs as_ xs hk ho hlt hmine hu hp;split at hp
  ·rename_i n vs op a b
   match us,hu with
   |[u0,u1,u2],hu=>
    obtain⟨rfl,rfl,rfl,_⟩:=hu;obtain⟨l,rfl,rfl,hl⟩:=hp;have:=agj l op a b xs u fp w hl ho hlt;rw[<- JX]at this;rw[show dD l++(cl op a b).bw=dD (l++[cl op a b]) by simp[dD]];exact this
  ·exact hp.elim
theorem HU(W:World)(n:Nat)(vs:List Value)(op:Int)(a:Int)(b:Int):IY.out W [.row 243 261 n vs] [.val (.int .i64 op),.val (.int .i64 a),.val (.int .i64 b)]=.ret (.int .i64 (n:Nat)) [.row 243 261 (n+1) (vs++(cl op a b).bw)]:=rfl
theorem GQ(W:World)(bs:List Nat)(n:Nat)(vs:List Value)(op:Int)(a:Int)(b:Int):IY.pre W bs [.row 243 261 n vs] [.val (.int .i64 op),.val (.int .i64 a),.val (.int .i64 b)]=(∃ l:List Nd,vs=dD l/\n=l.length/\l.length<=4000000):=rfl
theorem WD:IY.T=232:=rfl
theorem YM:IY.m=1:=rfl
end
section
def aF(ar:List Nd)(f:Fm):List Nd×Fm:=
 if f.fac<0 then (ar,f)
 else if f.row<0 then (ar,{ f with row:=f.fac,fac:=-1 })
 else (ar++[cl 2 f.row f.fac],{ f with row:=ar.length,fac:=-1 })
def kr(ar:List Nd)(f:Fm):List Nd×Fm:=
 if f.row<0 then (ar++[cl 0 0 0],{ f with row:=ar.length }) else (ar,f)
def ng(ar:List Nd)(f:Fm):List Nd×Fm:=
 if f.meet<0 then (ar,{ f with meet:=f.row,row:=-1 })
 else if f.sgn=38 then (ar++[cl 5 f.meet f.row],{ f with meet:=ar.length,row:=-1 })
 else (ar++[cl 6 f.meet f.row],{ f with meet:=ar.length,row:=-1 })
def fW(ar:List Nd)(f:Fm):List Nd×Fm:=
 ng (kr (aF ar f).1 (aF ar f).2).1 (kr (aF ar f).1 (aF ar f).2).2
def vO(ar:List Nd)(f:Fm):List Nd×Fm:=
 if f.alt<0 then (ar,{ f with alt:=f.meet,meet:=-1 })
 else (ar++[cl 3 f.alt f.meet],{ f with alt:=ar.length,meet:=-1 })
def aP(ar:List Nd)(f:Fm):List Nd×Fm:=vO (fW ar f).1 (fW ar f).2
def uE(m n:Int):Prop:=(m=-2/\n=-1)\/(0<=m/\m<=255/\n<=255/\(n=-1\/(0<=n/\m<=n)))
inductive NM (ts:List RT):Nd->RT->Prop where
 |eps (d:Nd):d.op=0->d.set=0->NM ts d .eps
 |cls (d:Nd):d.op=1->NM ts d (.cls d.set)
 |cat (d:Nd) (a b:RT):d.op=2->0<=d.a->ts[d.a.toNat]?=some a->0<=d.b->ts[d.b.toNat]?=some b->NM ts d (.cat a b)
 |alt (d:Nd) (a b:RT):d.op=3->0<=d.a->ts[d.a.toNat]?=some a->0<=d.b->ts[d.b.toNat]?=some b->NM ts d (.alt a b)
 |and (d:Nd) (a b:RT):d.op=5->0<=d.a->ts[d.a.toNat]?=some a->0<=d.b->ts[d.b.toNat]?=some b->NM ts d (.and a b)
 |minus (d:Nd) (a b:RT):d.op=6->0<=d.a->ts[d.a.toNat]?=some a->0<=d.b->ts[d.b.toNat]?=some b->NM ts d (.minus a b)
 |rep (d:Nd) (a:RT):d.op=7->0<=d.a->ts[d.a.toNat]?=some a->uE d.m d.n->NM ts d (.rep a d.m d.n)
inductive AR:List Nd->List RT->Prop where
 |nil:AR [] []
 |snoc {ar ts d t}:AR ar ts->NM ts d t->AR (ar++[d]) (ts++[t])
theorem AR.len{ar:List Nd}{ts:List RT}(h:AR ar ts):ts.length=ar.length:=by
 induction h with
 |nil=>rfl
 |snoc _ _ ih=>simp[ih]
def OD(ts:List RT)(x:Int):Option RT->Prop
 |none=>x<0
 |some t=>0<=x/\ts[x.toNat]?=some t
theorem OD.app{ts:List RT}{x:Int}{o:Option RT}(h:OD ts x o)(l:List RT):OD (ts++l) x o:=by
 cases o with
 |none=>exact h
 |some t=>
  refine⟨h.1,?_⟩;rw[List.getElem?_append_left (List.getElem?_eq_some_iff.1 h.2).1];exact h.2
theorem OD.last{ar:List Nd}{ts:List RT}(h:AR ar ts)(t:RT):OD (ts++[t]) ar.length (some t):=by
 refine⟨by omega,?_⟩;rw[Int.toNat_natCast,<- h.len];simp
structure FR (ts:List RT)(f:Fm)(L:Lv):Prop where
 place:f.place=L.place
 alt:OD ts f.alt L.alt
 meet:OD ts f.meet L.meet
 sgn:f.sgn=L.sgn
 row:OD ts f.row L.row
 fac:OD ts f.fac L.fac
theorem FR.app{ts:List RT}{f:Fm}{L:Lv}(h:FR ts f L)(l:List RT):FR (ts++l) f L:=
 ⟨h.place,h.alt.app l,h.meet.app l,h.sgn,h.row.app l,h.fac.app l⟩
def UQ(ts:List RT):List Fm->List Lv->Prop
 |[],[]=>True
 |f::r,L::s=>FR ts f L/\UQ ts r s
 |_,_=>False
theorem UQ.app{ts:List RT}:∀ {r:List Fm} {s:List Lv},UQ ts r s->∀ l,UQ (ts++l) r s
 |[],[],_,_=>trivial
 |[],_::_,h,_=>h.elim
 |_::_,[],h,_=>h.elim
 |f::r,L::s,h,l=>⟨h.1.app l,UQ.app h.2 l⟩
theorem UQ.len{ts:List RT}:∀ {r:List Fm} {s:List Lv},UQ ts r s->r.length=s.length
 |[],[],_=>rfl
 |[],_::_,h=>h.elim
 |_::_,[],h=>h.elim
 |f::r,L::s,h=>by rw[List.length_cons,List.length_cons,UQ.len h.2]
theorem sk{ar:List Nd}{ts:List RT}{f:Fm}{L:Lv}(ha:AR ar ts)(h:FR ts f L):∃ l,AR (aF ar f).1 (ts++l)/\FR (ts++l) (aF ar f).2 (eZ L):=by
 unfold aF;cases hf:L.fac with
 | none=>
  have h1:=h.fac;rw[hf]at h1;have h2:f.fac<0:=h1;rw[if_pos h2];refine⟨[],by simpa using ha,?_⟩;rw[List.append_nil];refine⟨h.place,h.alt,h.meet,h.sgn,?_,?_⟩
  ·show OD ts f.row (rowOf L.row L.fac);rw[hf];exact h.row
  ·exact h2
 | some p=>
  have h1:=h.fac;rw[hf]at h1;have hf0:¬ f.fac<0:=by have:=h1.1;omega
  rw[if_neg hf0];cases hr:L.row with
  | none=>
   have h3:=h.row;rw[hr]at h3;have h4:f.row<0:=h3;rw[if_pos h4];refine⟨[],by simpa using ha,?_⟩;rw[List.append_nil];refine⟨h.place,h.alt,h.meet,h.sgn,?_,?_⟩
   ·show OD ts f.fac (rowOf L.row L.fac);rw[hf,hr];exact h1
   ·show (-1:Int)<0;omega
  | some r=>
   have h3:=h.row;rw[hr]at h3;have h4:¬ f.row<0:=by have:=h3.1;omega
   rw[if_neg h4];refine⟨[.cat r p],.snoc ha (.cat _ r p rfl h3.1 h3.2 h1.1 h1.2),?_⟩;refine⟨h.place,h.alt.app _,h.meet.app _,h.sgn,?_,?_⟩
   ·show OD _ (ar.length:Int) (rowOf L.row L.fac);rw[hf,hr];exact OD.last ha _
   ·show (-1:Int)<0;omega
theorem acJ{ar:List Nd}{ts:List RT}{f:Fm}{L:Lv}(ha:AR ar ts)(h:FR ts f L):∃ l,AR (kr ar f).1 (ts++l)/\FR (ts++l) (kr ar f).2 { L with row:=some (L.row.getD .eps) }:=by
 unfold kr;cases hr:L.row with
 |none=>
  have h3:=h.row;rw[hr]at h3;have h4:f.row<0:=h3;rw[if_pos h4];exact⟨[.eps],.snoc ha (.eps _ rfl rfl),h.place,h.alt.app _,h.meet.app _,h.sgn,OD.last ha _,h.fac.app _⟩
 |some r=>
  have h3:=h.row;rw[hr]at h3;have h4:¬ f.row<0:=by have:=h3.1;omega
  rw[if_neg h4];refine⟨[],by simpa using ha,?_⟩;rw[List.append_nil];exact⟨h.place,h.alt,h.meet,h.sgn,h3,h.fac⟩
theorem Wr{ar:List Nd}{ts:List RT}{f:Fm}{L:Lv}{r:RT}(ha:AR ar ts)(h:FR ts f L)(hr:L.row=some r):∃ l,AR (ng ar f).1 (ts++l)/\FR (ts++l) (ng ar f).2 { L with meet:=some (lD L.meet L.sgn r),row:=none }:=by
 have h3:=h.row;rw[hr]at h3;unfold ng;cases hm:L.meet with
 |none=>
  have h1:=h.meet;rw[hm]at h1;have h2:f.meet<0:=h1;rw[if_pos h2];refine⟨[],by simpa using ha,?_⟩;rw[List.append_nil];exact⟨h.place,h.alt,h3,h.sgn,(by show (-1:Int)<0;omega),h.fac⟩
 | some m=>
  have h1:=h.meet;rw[hm]at h1;have h2:¬ f.meet<0:=by have:=h1.1;omega
  rw[if_neg h2];by_cases hs:f.sgn=38
  ·rw[if_pos hs];refine⟨[.and m r],.snoc ha (.and _ m r rfl h1.1 h1.2 h3.1 h3.2),h.place,h.alt.app _,?_,h.sgn,(by show (-1:Int)<0;omega),h.fac.app _⟩;show OD _ (ar.length:Int) (some (lD (some m) L.sgn r));rw[show lD (some m) L.sgn r=.and m r by simp[lD,<- h.sgn,hs]];exact OD.last ha _
  ·rw[if_neg hs];refine⟨[.minus m r],.snoc ha (.minus _ m r rfl h1.1 h1.2 h3.1 h3.2),h.place,h.alt.app _,?_,h.sgn,(by show (-1:Int)<0;omega),h.fac.app _⟩;show OD _ (ar.length:Int) (some (lD (some m) L.sgn r));rw[show lD (some m) L.sgn r=.minus m r by simp[lD,<- h.sgn,hs]];exact OD.last ha _
theorem Gz{ar:List Nd}{ts:List RT}{f:Fm}{L:Lv}(ha:AR ar ts)(h:FR ts f L):∃ l,AR (fW ar f).1 (ts++l)/\FR (ts++l) (fW ar f).2 (mv L):=by
 obtain⟨l1,a1,f1⟩:=sk ha h;obtain⟨l2,a2,f2⟩:=acJ a1 f1;obtain⟨l3,a3,f3⟩:=Wr a2 f2 rfl;refine⟨l1++l2++l3,?_,?_⟩
 ·rw[<- List.append_assoc,<- List.append_assoc];exact a3
 ·rw[<- List.append_assoc,<- List.append_assoc];exact f3
theorem qz{ar:List Nd}{ts:List RT}{f:Fm}{L:Lv}(ha:AR ar ts)(h:FR ts f L):∃ l,AR (aP ar f).1 (ts++l)/\FR (ts++l) (aP ar f).2 (rE L):=by
 obtain⟨l1,a1,f1⟩:=Gz ha h;have hm:(mv L).meet=some (eU L):=rfl;have h1:=f1.meet;rw[hm]at h1;unfold aP vO;cases hal:L.alt with
 |none=>
  have h2:=f1.alt;rw[show (mv L).alt=L.alt from rfl,hal]at h2;have h3:(fW ar f).2.alt<0:=h2;rw[if_pos h3];refine⟨l1,a1,f1.place,?_,(by show (-1:Int)<0;omega),f1.sgn,f1.row,f1.fac⟩;show OD _ _ (some (jc L));rw[show jc L=eU L by unfold jc;rw[hal];rfl];exact h1
 | some a=>
  have h2:=f1.alt;rw[show (mv L).alt=L.alt from rfl,hal]at h2;have h3:¬ (fW ar f).2.alt<0:=by have:=h2.1;omega
  rw[if_neg h3];refine⟨l1++[.alt a (eU L)],?_,?_⟩
  ·rw[<- List.append_assoc];exact .snoc a1 (.alt _ _ _ rfl h2.1 h2.2 h1.1 h1.2)
  ·rw[<- List.append_assoc];refine⟨f1.place,?_,(by show (-1:Int)<0;omega),f1.sgn,f1.row.app _,f1.fac.app _⟩;show OD _ _ (some (jc L));rw[show jc L=.alt a (eU L) by unfold jc;rw[hal];rfl];exact OD.last a1 _
end
section
section
variable (c:Int->Int)(N:Int)(rd:Int->Except (Int×Int) (BitVec 256×Int))
def UR(i:Int):Except (Int×Int) (Int×Int×Int):=
 if c i=43 then .ok (-2,-1,i+1) else if c i=63 then .ok (0,1,i+1) else if c i=123 then ot c N i else .ok (0,-1,i+1)
def J6(i:Int)(ar:List Nd)(f:Fm)(rest:List Fm):Except (Int×Int) (Int×List Nd×Fm×List Fm):=
 match UR c N i with
 |.error e=>.error e
 |.ok (m,n,j)=>.ok (j,ar++[⟨7,0,f.fac,0,m,n⟩],{ f with fac:=ar.length },rest)
def aix(i:Int)(ar:List Nd)(f:Fm):List Fm->Except (Int×Int) (Int×List Nd×Fm×List Fm)
 |[]=>.error (20,i)
 |g::r=>.ok (i+1,(aP ar f).1,{ g with fac:=(aP ar f).2.alt },r)
def OU(i:Int)(ar:List Nd)(f:Fm)(rest:List Fm):Except (Int×Int) (Int×List Nd×Fm×List Fm):=
 match rd i with
 |.error e=>.error e
 |.ok (S,j)=>.ok (j,(aF ar f).1++[⟨1,S,0,0,0,0⟩],{ (aF ar f).2 with fac:=(aF ar f).1.length },rest)
def oy(i:Int)(ar:List Nd)(f:Fm)(rest:List Fm):Except (Int×Int) (Int×List Nd×Fm×List Fm):=
 if br (c i) then (if f.fac<0 then .error (20,i) else J6 c N i ar f rest)
 else if c i=124 then .ok (i+1,(aP ar f).1,(aP ar f).2,rest)
 else if c i=38\/c i=45 then .ok (i+1,(fW ar f).1,{ (fW ar f).2 with sgn:=c i },rest)
 else if c i=41 then aix i ar f rest
 else if c i=40 then
  if 1000<rest.length+1 then .error (23,i) else .ok (i+1,(aF ar f).1,kH i,(aF ar f).2::rest)
 else OU rd i ar f rest
def rY:Nat->Int->List Nd->Fm->List Fm->Except (Int×Int) (List Nd×Fm×List Fm)
 |0,_,ar,f,rest=>.ok (ar,f,rest)
 | n+1,i,ar,f,rest=>
  if i<N then match oy c N rd i ar f rest with
   |.error e=>.error e
   |.ok (j,ar',g,r)=>rY n j ar' g r
  else .ok (ar,f,rest)
end
def oV(z:List Int)(d:Nd):Int:=
 if d.op=0\/d.op=1 then 1
 else if d.op=7 then dG (z.getD d.a.toNat 0) d.m d.n
 else 1+z.getD d.a.toNat 0+z.getD d.b.toNat 0
def Lx(z:List Int)(d:Nd):Int:=if 2001<oV z d then 2001 else oV z d
def oE(ar:List Nd):List Int:=ar.foldl (λz d=>z++[Lx z d]) []
def Gr:Except (Int×Int) (List Nd×Fm×List Fm)->Except (Int×Int) (List Nd×Int)
 |.error e=>.error e
 |.ok (ar,f,rest)=>if rest≠[] then .error (21,f.place)
  else if 2000<(oE (aP ar f).1).getD (aP ar f).2.alt.toNat 0 then .error (24,0) else .ok ((aP ar f).1,(aP ar f).2.alt)
def ky(c:Int->Int)(N:Int)(rd:Int->Except (Int×Int) (BitVec 256×Int)):Except (Int×Int) (List Nd×Int):=
 if 1048576<N then .error (1,0) else Gr (rY c N rd (N.toNat+1) 0 [] (kH (-1)) [])
theorem SE{c:Int->Int}{N i m n j:Int}(h:ot c N i=.ok (m,n,j)):m<=255/\n<=255:=by
 unfold ot at h;cases h1:iL c N (i+1) with
 |error e=>rw[h1]at h;cases h
 | ok p=>
  obtain⟨m',j'⟩:=p;rw[h1]at h;simp only at h;cases h2:A7 c N m' j' with
  |error e=>rw[h2]at h;cases h
  | ok p=>
   obtain⟨n',j2⟩:=p;rw[h2]at h;simp only at h;unfold nG at h;split at h
   ·cases h
   ·split at h
    ·cases h
    ·rename_i hn;simp only[Except.ok.injEq,Prod.mk.injEq]at h;obtain⟨rfl,rfl,_⟩:=h;omega
theorem akj{c:Int->Int}{N i m n j:Int}(h:UR c N i=.ok (m,n,j)):uE m n:=by
 unfold UR at h;unfold uE;split at h
 ·simp only[Except.ok.injEq,Prod.mk.injEq]at h;omega
 ·split at h
  ·simp only[Except.ok.injEq,Prod.mk.injEq]at h;omega
  ·split at h
   ·have h1:=YL h;have h2:=SE h;omega
   ·simp only[Except.ok.injEq,Prod.mk.injEq]at h;omega
section
variable {c:Int->Int}{N:Int}{rd:Int->Except (Int×Int) (BitVec 256×Int)}
def alB(ts:List RT):Except (Int×Int) (Int×Lv×List Lv)->Except (Int×Int) (Int×List Nd×Fm×List Fm)->Prop
 |.error e,.error e' => e=e'
 |.ok (j,L,Ls),.ok (j',ar,f,r)=>j=j' /\ ∃ l,AR ar (ts++l)/\FR (ts++l) f L/\UQ (ts++l) r Ls
 |_,_=>False
theorem agU{i:Int}{L:Lv}{p:RT}(hp:br (c i)):py c N i L p=match UR c N i with
  |.error e=>.error e
  |.ok (m,n,j)=>.ok (j,{ L with fac:=some (.rep p m n) }):=by
 unfold py UR;unfold br at hp;by_cases h42:c i=42
 ·rw[if_pos h42,if_neg (by omega),if_neg (by omega),if_neg (by omega)]
 ·rw[if_neg h42];by_cases h43:c i=43
  ·rw[if_pos h43,if_pos h43]
  ·rw[if_neg h43,if_neg h43];by_cases h63:c i=63
   ·rw[if_pos h63,if_pos h63]
   ·rw[if_neg h63,if_neg h63,if_pos (by omega)];cases ot c N i<;>rfl
theorem Wv{i:Int}{ar:List Nd}{ts:List RT}{f:Fm}{L:Lv}{rest:List Fm}{Ls:List Lv}(ha:AR ar ts)(hf:FR ts f L)(hr:UQ ts rest Ls):alB ts (eW c N rd i L Ls) (oy c N rd i ar f rest):=by
 unfold eW oy;by_cases hp:br (c i)
 ·rw[if_pos hp,if_pos hp];cases hL:L.fac with
  |none=>
   have h1:=hf.fac;rw[hL]at h1;have h2:f.fac<0:=h1;rw[if_pos h2];rfl
  | some p=>
   have h1:=hf.fac;rw[hL]at h1;have h2:¬ f.fac<0:=by have:=h1.1;omega
   rw[if_neg h2];simp only[agU hp,J6];cases hm:UR c N i with
   |error e=>rfl
   |ok q=>
    obtain⟨m,n,j⟩:=q;refine⟨rfl,[.rep p m n],.snoc ha (.rep ⟨7,0,f.fac,0,m,n⟩ p rfl h1.1 h1.2 (akj hm)),⟨hf.place,hf.alt.app _,hf.meet.app _,hf.sgn,hf.row.app _,OD.last ha _⟩,hr.app _⟩
 ·rw [if_neg hp,if_neg hp];by_cases h124:c i=124
  ·rw[if_pos h124,if_pos h124];obtain⟨l,a1,f1⟩:=qz ha hf;exact⟨rfl,l,a1,f1,hr.app l⟩
  ·rw [if_neg h124,if_neg h124];by_cases h2:c i=38\/c i=45
   ·rw[if_pos h2,if_pos h2];obtain⟨l,a1,f1⟩:=Gz ha hf;exact⟨rfl,l,a1,⟨f1.place,f1.alt,f1.meet,rfl,f1.row,f1.fac⟩,hr.app l⟩
   ·rw [if_neg h2,if_neg h2];by_cases h41:c i=41
    ·rw[if_pos h41,if_pos h41]
     match rest,Ls,hr with
     |[],[],_=>rfl
     |g::r,M::Ms,hr=>
      obtain⟨l,a1,f1⟩:=qz ha hf;have g1:=hr.1.app l;exact⟨rfl,l,a1,⟨g1.place,g1.alt,g1.meet,g1.sgn,g1.row,f1.alt⟩,hr.2.app l⟩
    ·rw[if_neg h41,if_neg h41];by_cases h40:c i=40
     ·rw[if_pos h40,if_pos h40,hr.len];by_cases hd:1000<Ls.length+1
      ·rw[if_pos hd,if_pos hd];rfl
      ·rw[if_neg hd,if_neg hd];obtain⟨l,a1,f1⟩:=sk ha hf;have hm:∀ o:Int,o=-1->OD (ts++l) o none:=λo h=>by show o<0;omega
       exact⟨rfl,l,a1,⟨rfl,hm _ rfl,hm _ rfl,rfl,hm _ rfl,hm _ rfl⟩,f1,hr.app l⟩
     ·rw[if_neg h40,if_neg h40];unfold OU;cases hS:rd i with
      |error e=>rfl
      | ok q=>
       obtain⟨S,j⟩:=q;obtain⟨l,a1,f1⟩:=sk ha hf;refine⟨rfl,l++[.cls S],?_,?_,?_⟩
       ·rw[<- List.append_assoc];exact .snoc a1 (.cls ⟨1,S,0,0,0,0⟩ rfl)
       ·rw[<- List.append_assoc];exact⟨f1.place,f1.alt.app _,f1.meet.app _,f1.sgn,f1.row.app _,OD.last a1 _⟩
       ·exact hr.app _
def alb:Except (Int×Int) (Lv×List Lv)->Except (Int×Int) (List Nd×Fm×List Fm)->Prop
 |.error e,.error e' => e=e'
 |.ok (L,Ls),.ok (ar,f,r)=>∃ ts,AR ar ts/\FR ts f L/\UQ ts r Ls
 |_,_=>False
theorem Gm:∀ (n:Nat) (i:Int) (ar:List Nd) (ts:List RT) (f:Fm) (L:Lv) (rest:List Fm) (Ls:List Lv),AR ar ts->FR ts f L->UQ ts rest Ls->alb (runN c N rd n i L Ls) (rY c N rd n i ar f rest)
 |0,i,ar,ts,f,L,rest,Ls,ha,hf,hr=>⟨ts,ha,hf,hr⟩
 | n+1,i,ar,ts,f,L,rest,Ls,ha,hf,hr=>by
  rw[runN,rY];by_cases hi:i<N
  ·rw[if_pos hi,if_pos hi];have h1:=Wv (c:=c) (N:=N) (rd:=rd) (i:=i) ha hf hr;revert h1;cases eW c N rd i L Ls with
   |error e=>
    cases oy c N rd i ar f rest with
    |error e' => exact λh=>h
    |ok q=>exact λh=>h.elim
   | ok p=>
    obtain⟨j,L',Ls'⟩:=p;cases oy c N rd i ar f rest with
    |error e' => exact λh=>h.elim
    |ok q=>
     obtain⟨j',ar',f',r'⟩:=q;rintro⟨rfl,l,a1,f1,r1⟩;exact Gm n j ar' _ f' L' r' Ls' a1 f1 r1
  ·rw[if_neg hi,if_neg hi];exact⟨ts,ha,hf,hr⟩
end
theorem C9{a m n:Int}(ha:0<=a)(h:uE m n):0<=dG a m n:=by
 unfold uE at h;unfold dG;split
 ·omega
 ·split
  ·omega
  ·split
   ·have:0<=m*a:=Int.mul_nonneg (by omega) ha;omega
   ·split
    ·omega
    ·split
     ·have:0<=n*(a+2):=Int.mul_nonneg (by omega) (by omega);omega
     ·have h1:0<=m*a:=Int.mul_nonneg (by omega) ha;have h2:0<=(n-m)*(a+2+1):=Int.mul_nonneg (by omega) (by omega);omega
theorem aiK{ts:List RT}{d:Nd}{t:RT}(h:NM ts d t):Lx (ts.map λt=>(t.sz:Int)) d=(t.sz:Int):=by
 have at' : ∀ (x:Int) (a:RT),ts[x.toNat]?=some a->(ts.map λt=>(t.sz:Int)).getD x.toNat 0=(a.sz:Int):=λx a hx=>by
  rw[List.getD_eq_getElem?_getD,List.getElem?_map,hx];rfl
 have cap:∀ v:Nat,(if (2001:Int)<(v:Int) then (2001:Int) else (v:Int))=((cG v:Nat):Int):=λv=>by unfold cG;split<;>omega
 cases h with
 |eps h0 _=>
  have hv:oV (ts.map λt=>(t.sz:Int)) d=((1:Nat):Int):=by rw[oV,if_pos (.inl h0)];rfl
  rw[Lx,hv,cap];rfl
 |cls h0=>
  have hv:oV (ts.map λt=>(t.sz:Int)) d=((1:Nat):Int):=by rw[oV,if_pos (.inr h0)];rfl
  rw[Lx,hv,cap];rfl
 |cat a b h0 h1 h2 h3 h4=>
  have hv:oV (ts.map λt=>(t.sz:Int)) d=((1+a.sz+b.sz:Nat):Int):=by rw[oV,if_neg (by omega),if_neg (by omega),at' _ _ h2,at' _ _ h4];omega
  rw[Lx,hv,cap];rfl
 |alt a b h0 h1 h2 h3 h4=>
  have hv:oV (ts.map λt=>(t.sz:Int)) d=((1+a.sz+b.sz:Nat):Int):=by rw[oV,if_neg (by omega),if_neg (by omega),at' _ _ h2,at' _ _ h4];omega
  rw[Lx,hv,cap];rfl
 |and a b h0 h1 h2 h3 h4=>
  have hv:oV (ts.map λt=>(t.sz:Int)) d=((1+a.sz+b.sz:Nat):Int):=by rw[oV,if_neg (by omega),if_neg (by omega),at' _ _ h2,at' _ _ h4];omega
  rw[Lx,hv,cap];rfl
 |minus a b h0 h1 h2 h3 h4=>
  have hv:oV (ts.map λt=>(t.sz:Int)) d=((1+a.sz+b.sz:Nat):Int):=by rw[oV,if_neg (by omega),if_neg (by omega),at' _ _ h2,at' _ _ h4];omega
  rw[Lx,hv,cap];rfl
 |rep a h0 h1 h2 h3=>
  have hn:=C9 (a:=(a.sz:Int)) (by omega) h3;obtain⟨v,hv⟩:=Int.eq_ofNat_of_zero_le hn;have hz:oV (ts.map λt=>(t.sz:Int)) d=((v:Nat):Int):=by rw[oV,if_neg (by omega),if_pos h0,at' _ _ h2,hv]
  rw[Lx,hz,cap];show _=((cG (dG a.sz d.m d.n).toNat:Nat):Int);rw[hv];rfl
theorem W9{ar:List Nd}{ts:List RT}(h:AR ar ts):oE ar=ts.map λt=>(t.sz:Int):=by
 induction h with
 |nil=>rfl
 |snoc ha hn ih=>
  unfold oE at ih ⊢;rw[List.foldl_append,ih];simp[aiK hn]
theorem nF{c:Int->Int}{N:Int}{rd:Int->Except (Int×Int) (BitVec 256×Int)}(hN:0<=N):match iN c N rd,ky c N rd with
  |.error e,.error e' => e=e'
  |.ok t,.ok (ar,x)=>∃ ts,AR ar ts/\0<=x/\ts[x.toNat]?=some t
  |_,_=>False:=by
 unfold iN ky;by_cases hb:1048576<N
 ·rw[if_pos hb,if_pos hb]
 ·rw [if_neg hb,if_neg hb];have hm:∀ o:Int,o=-1->OD [] o none:=λo h=>by show o<0;omega
  have h1:=Gm (c:=c) (N:=N) (rd:=rd) (N.toNat+1) 0 [] [] (kH (-1)) (gP (-1)) [] [] .nil ⟨rfl,hm _ rfl,hm _ rfl,rfl,hm _ rfl,hm _ rfl⟩ trivial;have e:run c N rd 0 (gP (-1)) []=runN c N rd (N.toNat+1) 0 (gP (-1)) []:=by
   unfold run;rw[Int.sub_zero]
  rw[e];revert h1;cases runN c N rd (N.toNat+1) 0 (gP (-1)) [] with
  |error e=>
   cases rY c N rd (N.toNat+1) 0 [] (kH (-1)) [] with
   |error e' => exact λh=>h
   |ok q=>exact λh=>h.elim
  | ok p=>
   obtain⟨L,Ls⟩:=p;cases rY c N rd (N.toNat+1) 0 [] (kH (-1)) [] with
   |error e' => exact λh=>h.elim
   | ok q=>
    obtain⟨ar,f,r⟩:=q;rintro⟨ts,ha,hf,hr⟩;simp only[qm,Gr]
    match r,Ls,hr with
    |g::r,M::Ms,hr=>
     rw[if_pos (by simp),if_pos (by simp)];rw[hf.place]
    | [],[],_=>
     rw[if_neg (show ¬ ([]:List Lv)≠[] by simp),if_neg (show ¬ ([]:List Fm)≠[] by simp)];obtain⟨l,a1,f1⟩:=qz ha hf;have h2:=f1.alt;rw[show (rE L).alt=some (jc L) from rfl]at h2;have h3:(oE (aP ar f).1).getD (aP ar f).2.alt.toNat 0=((jc L).sz:Int):=by
      rw[W9 a1,List.getD_eq_getElem?_getD,List.getElem?_map,h2.2];rfl
     rw[h3];by_cases hz:2000<(jc L).sz
     ·rw[if_pos hz,if_pos (by omega)]
     ·rw[if_neg hz,if_neg (by omega)];exact⟨_,a1,h2.1,h2.2⟩
def tE(l:List Fm):List Value:=l.flatMap Fm.bw
theorem afQ(l:List Fm):(tE l).length=l.length*6:=by
 induction l with
 |nil=>rfl
 |cons d r ih=>
  have:tE (d::r)=d.bw++tE r:=rfl;rw[this,List.length_append,ih,List.length_cons];show 6+_=_;omega
def EE(ar:List Nd)(pre:List Fm)(f:Fm):List AV:=[.row 243 261 ar.length (dD ar),.row 234 6 (pre.length+1) (tE pre++f.bw)]
theorem tX(ar:List Nd)(d:Nd)(pre:List Fm)(f:Fm):EE (ar++[d]) pre f=[.row 243 261 (ar.length+1) (dD ar++d.bw),.row 234 6 (pre.length+1) (tE pre++f.bw)]:=by
 simp[EE,dD]
theorem eL(pre:List Fm)(f:Fm):List.map SV.v (tE pre++f.bw)=List.map SV.v (tE pre)++[.v (.int .i64 f.place),.v (.int .i64 f.alt),.v (.int .i64 f.meet),.v (.int .u8 f.sgn),.v (.int .i64 f.row),.v (.int .i64 f.fac)]:=by
 rw[List.map_append];rfl
section
variable (pre:List Fm)(B:List SV)(d:SV)(j:Nat)
theorem yj:(List.map SV.v (tE pre)).length=pre.length*6:=by rw[List.length_map,afQ]
theorem LY:(List.map SV.v (tE pre)++B).length=pre.length*6+B.length:=by rw[List.length_append,yj]
theorem EL:(List.map SV.v (tE pre)++B).getD (pre.length*6+j) d=B.getD j d:=by
 rw[List.getD_eq_getElem?_getD,List.getD_eq_getElem?_getD,<- yj,List.getElem?_append_right oM,Nat.add_sub_cancel_left]
theorem E7:(List.map SV.v (tE pre)++B).getD (pre.length*6) d=B.getD 0 d:=EL pre B d 0
theorem yv:List.take (pre.length*6+j) (List.map SV.v (tE pre)++B)=List.map SV.v (tE pre)++List.take j B:=by
 rw[<- yj,List.take_length_add_append]
theorem z8:List.take (pre.length*6) (List.map SV.v (tE pre)++B)=List.map SV.v (tE pre):=by
 have:=yv pre B 0;simpa using this
theorem tj:List.drop (pre.length*6+j) (List.map SV.v (tE pre)++B)=List.drop j B:=by
 rw[<- yj,List.drop_length_add_append]
theorem Bp:List.drop (pre.length*6+j+1) (List.map SV.v (tE pre)++B)=List.drop (j+1) B:=tj pre B (j+1)
theorem uJ:List.drop (pre.length*6+1) (List.map SV.v (tE pre)++B)=List.drop 1 B:=tj pre B 1
end
theorem eN(A:List Value)(B:List SV):dv (List.map SV.v A++B)=(dv B).map (A++·):=by
 induction A with
 |nil=>simp
 |cons x r ih=>simp[dv,ih,Option.map_map,Function.comp_def]
theorem ya(pre:List Fm)(h:pre.length<=2000):IntKind.i64.wrap (((pre.length+1:Nat):Int)-1)=((pre.length:Nat):Int):=by
 rw[ae oM oM];omega
noncomputable def Γ63:Env prog:=⟨λ| 173=>some IY.spec|_=>none,λ| _=>none,λ_ _=>none⟩
theorem QK:Γ63.sp 173=some IY.spec:=rfl
def sf:=(aj jk jn gR ck cf b9 b8 (aj ca cc cg cd Pq PQ OR (aj Ot OS Zx ZA Yp aae Pz (aj Pm QP QI PZ Oc QG O6 (aj Qj PN Qu Oi PM P7 P5 (aj PX PK U4 WN Wk WJ Wu (aj @aG @al @ax @aw @eL @LY @EL (aj @E7 @yv @z8 @tj @Bp @uJ @List.append_assoc.{0} (ml @eN @HU @GQ @WD @YM @QK)))))))))
theorem nN(ar:List Nd)(pre:List Fm)(f:Fm)(u:Value)(fp:List Nat)(w:World)(hl:ar.length<=4000000)(hp:pre.length<=2000)(ho:bC w u fp 232 (EE ar pre f))(hlt:∀ b∈fp,b<w.heap.size) :
  Calls prog 121 (#[u]++#[]) w λe w' => gM w u fp 232 e w' (.ret (.tuple #[]) (EE (aF ar f).1 pre (aF ar f).2)):=by
 have wp:=ya pre hp;refine bg (nt:=47) #[] [] (by show 2<=7;omega) ho hlt func121 rfl rfl rfl ?_;refine lf Γ0 (bP sf @EE.eq_1 wp) ?_ ?_
 ·exact⟨⟨_,rfl⟩,oM,oM⟩
 refine Wp.seq ?_;refine wR Γ0 sf ?_ ?_
 ·omega
 refine wC sf (λhc=>?_) (λhc=>?_)
 ·have hf:f.fac<0:=by simpa using hc
  have he:aF ar f=(ar,f):=by rw[aF,if_pos hf]
  rw[he];refine wZ sf ?_;exact⟨_,_,rfl,λE=>rfl,_,_,rfl,(ev (bP sf @aA @eN)),dE⟩
 ·have hf:¬ f.fac<0:=by simpa using hc
  refine wK ?_;refine Wp.seq ?_;refine vR Γ0 sf ?_;refine wC sf (λhc=>?_) (λhc=>?_)
  ·have hr:f.row<0:=by simpa using hc
   have he:aF ar f=(ar,{ f with row:=f.fac,fac:=-1 }):=by rw[aF,if_neg hf,if_pos hr]
   rw[he];refine wr Γ0 sf ?_ ?_
   ·omega
   refine wr Γ0 sf ?_ ?_
   ·omega
   refine wS sf ?_;exact⟨_,_,rfl,λE=>rfl,_,_,rfl,(ev (bP sf @aA @eN)),dE⟩
  ·have hr:¬ f.row<0:=by simpa using hc
   have he:aF ar f=(ar++[cl 2 f.row f.fac],{ f with row:=ar.length,fac:=-1 }):=by rw[aF,if_neg hf,if_neg hr]
   rw[he,tX];refine vZ Γ63 sf ?_ ?_
   ·refine⟨oM,oM,oM,oM,oM,oM,⟨⟨ar,rfl,rfl,hl⟩,dE,sI⟩,oM,oM,oM⟩
   refine wr Γ0 sf ?_ ?_
   ·omega
   refine wS sf ?_;exact⟨_,_,rfl,λE=>rfl,_,_,rfl,(ev (bP sf @aA @eN)),dE⟩
def stC(f:FuncId)(g:List Nd->Fm->List Nd×Fm)(hen:∀ args w,(callFunc f args).run prog w=.ok (.enter f args) w)
  (h:∀ (ar:List Nd) (pre:List Fm) (fm:Fm) (u:Value) (fp:List Nat) (w:World),ar.length<=4000000->pre.length<=2000->bC w u fp 232 (EE ar pre fm)->(∀ b∈fp,b<w.heap.size) ->
   Calls prog f (#[u]++#[]) w λe w' => gM w u fp 232 e w' (.ret (.tuple #[]) (EE (g ar fm).1 pre (g ar fm).2))) (ar:List Nd) (pre:List Fm) (fm:Fm):ed prog f where
 T:=232
 pre:=λ_ _ fs as_=>(fs=EE ar pre fm/\as_=[])/\ar.length<=4000000/\pre.length<=2000
 out:=λ_ _ _=>.ret (.tuple #[]) (EE (g ar fm).1 pre (g ar fm).2)
 enters:=hen
 ok:=by
  intro W w bs u fp us fs as_ hk ho hlt hmine hu hp;obtain⟨⟨rfl,rfl⟩,h1,h2⟩:=hp
  match us,hu with
  |[],_=>exact h ar pre fm u fp w h1 h2 ho hlt
noncomputable def Γ64(ar:List Nd)(pre:List Fm)(f:Fm):Env prog:=⟨λ| 121=>some (stC 121 aF call121 nN ar pre f).spec|173=>some IY.spec|_=>none,λ_=>none,λ_ _=>none⟩
theorem aej(ar:List Nd)(pre:List Fm)(f:Fm):(Γ64 ar pre f).sp 121=some (stC 121 aF call121 nN ar pre f).spec:=rfl
theorem pS(ar:List Nd)(f:Fm):(aF ar f).1.length<=ar.length+1:=by
 unfold aF;split
 ·simp
 ·split
  ·simp
  ·simp
theorem sO(ar:List Nd)(f:Fm):(kr ar f).1.length<=ar.length+1:=by
 unfold kr;split<;>simp
theorem CA(ar:List Nd)(f:Fm):(ng ar f).1.length<=ar.length+1:=by
 unfold ng;split
 ·simp
 ·split<;>simp
theorem UO(ar:List Nd)(f:Fm):(fW ar f).1.length<=ar.length+3:=by
 have h1:=pS ar f;have h2:=sO (aF ar f).1 (aF ar f).2;have h3:=CA (kr (aF ar f).1 (aF ar f).2).1 (kr (aF ar f).1 (aF ar f).2).2;unfold fW;omega
theorem vC(l:List Nd)(d:Nd):(l++[d]).length=l.length+1:=by simp
theorem SG(l:List Nd)(d:Nd):dD (l++[d])=dD l++d.bw:=by simp[dD]
def kX:=(aj jk jn gR ck cf b9 b8 (aj ca cc cg cd fu fh fy (aj ft fB Pq PQ OR Ot OS (aj Zx ZA Yp aae Pz Pm QP (aj QI PZ Oc QG O6 Qj PN (aj Qu Oi PM P7 P5 PX PK (aj U4 WN Wk WJ Wu @aG @al (aj @ax @aw @eL @LY @EL @E7 @yv (aj @z8 @tj @Bp @uJ @List.append_assoc.{0} @eN @HU (ur @GQ @WD @YM @QK @stC.eq_1 @EE.eq_1 @aej))))))))))
theorem ZI(ar:List Nd)(pre:List Fm)(f:Fm)(u:Value)(fp:List Nat)(w:World)(hl:ar.length<=3999990)(hp:pre.length<=2000)(ho:bC w u fp 232 (EE ar pre f))(hlt:∀ b∈fp,b<w.heap.size) :
  Calls prog 120 (#[u]++#[]) w λe w' => gM w u fp 232 e w' (.ret (.tuple #[]) (EE (fW ar f).1 pre (fW ar f).2)):=by
 have wp:=ya pre hp;have l1:=pS ar f;have l2:=sO (aF ar f).1 (aF ar f).2;refine bg (nt:=72) #[] [] (by show 2<=7;omega) ho hlt func120 rfl rfl rfl ?_;refine wR (Γ64 ar pre f) kX ?_ ?_
 ·exact⟨⟨rfl,oM,hp⟩,dE,sI⟩
 have hfo:fW ar f=ng (kr (aF ar f).1 (aF ar f).2).1 (kr (aF ar f).1 (aF ar f).2).2:=rfl;rw[hfo];generalize (aF ar f).2=f1 at *;generalize (aF ar f).1=ar1 at *;refine lf Γ0 (aa kX wp) ?_ ?_
 ·exact⟨⟨_,rfl⟩,oM,oM⟩
 refine aV ⟨40,bm [(0,.is (.own 0 0)),(2,.is (.own 17 (pre.length*6)))],aY [(0,.cells 232 [.hd 3,.hd 17]),(3,.row 243 261 (kr ar1 f1).1.length ((dD (kr ar1 f1).1).map .v)),(17,.row 234 6 (pre.length+1) ((tE pre++(kr ar1 f1).2.bw).map .v))]⟩ ?_ ?_
 ·skip;refine wR Γ0 kX ?_ ?_
  ·omega
  refine wC kX (λhc=>?_) (λhc=>?_)
  ·have hr:f1.row<0:=by simpa using hc
   have he:kr ar1 f1=(ar1++[cl 0 0 0],{ f1 with row:=ar1.length }):=by rw[kr,if_pos hr]
   rw[he];refine wr Γ63 kX ?_ ?_
   ·exact⟨⟨⟨ar1,rfl,rfl,oM⟩,dE,sI⟩,oM,oM,oM⟩
   exact wM (λx=>if x=3 then .key 176 else .key x) (ml kX @Fm.bw.eq_1 @vC @SG @List.map_append.{0,0} @cm)
  ·have hr:¬ f1.row<0:=by simpa using hc
   have he:kr ar1 f1=(ar1,f1):=by rw[kr,if_neg hr]
   rw[he];refine wK ?_;exact wM (λx=>if x=3 then .key 16 else .key x) (aa kX @cm)
 generalize (kr ar1 f1).2=f2 at *;generalize (kr ar1 f1).1=ar2 at *;refine Wp.seq ?_;refine wR Γ0 kX ?_ ?_
 ·omega
 refine wC kX (λhc=>?_) (λhc=>?_)
 ·have hm:f2.meet<0:=by simpa using hc
  have he:ng ar2 f2=(ar2,{ f2 with meet:=f2.row,row:=-1 }):=by rw[ng,if_pos hm]
  rw[he];refine wr Γ0 kX ?_ ?_
  ·omega
  refine wr Γ0 kX ?_ ?_
  ·omega
  refine wS kX ?_;exact⟨_,_,rfl,λE=>rfl,_,_,rfl,(ev (bP kX @aA @eN)),dE⟩
 ·have hm:¬ f2.meet<0:=by simpa using hc
  refine wR Γ0 kX ?_ ?_
  ·omega
  refine wC kX (λhc=>?_) (λhc=>?_)
  ·have hs:f2.sgn=38:=by simpa using hc
   have he:ng ar2 f2=(ar2++[cl 5 f2.meet f2.row],{ f2 with meet:=ar2.length,row:=-1 }):=by rw[ng,if_neg hm,if_pos hs]
   rw[he,tX];refine vZ Γ63 kX ?_ ?_
   ·exact⟨oM,oM,oM,oM,oM,oM,⟨⟨ar2,rfl,rfl,oM⟩,dE,sI⟩,oM,oM,oM⟩
   refine wr Γ0 kX ?_ ?_
   ·omega
   refine wS kX ?_;exact⟨_,_,rfl,λE=>rfl,_,_,rfl,(ev (bP kX @aA @eN)),dE⟩
  ·have hs:¬ f2.sgn=38:=by simpa using hc
   have he:ng ar2 f2=(ar2++[cl 6 f2.meet f2.row],{ f2 with meet:=ar2.length,row:=-1 }):=by rw[ng,if_neg hm,if_neg hs]
   rw[he,tX];refine vZ Γ63 kX ?_ ?_
   ·exact⟨oM,oM,oM,oM,oM,oM,⟨⟨ar2,rfl,rfl,oM⟩,dE,sI⟩,oM,oM,oM⟩
   refine wr Γ0 kX ?_ ?_
   ·omega
   refine wS kX ?_;exact⟨_,_,rfl,λE=>rfl,_,_,rfl,(ev (bP kX @aA @eN)),dE⟩
def Cx(ar:List Nd)(pre:List Fm)(fm:Fm):ed prog 120 where
 T:=232
 pre:=λ_ _ fs as_=>(fs=EE ar pre fm/\as_=[])/\ar.length<=3999990/\pre.length<=2000
 out:=λ_ _ _=>.ret (.tuple #[]) (EE (fW ar fm).1 pre (fW ar fm).2)
 enters:=call120
 ok:=by
  intro W w bs u fp us fs as_ hk ho hlt hmine hu hp;obtain⟨⟨rfl,rfl⟩,h1,h2⟩:=hp
  match us,hu with
  |[],_=>exact ZI ar pre fm u fp w h1 h2 ho hlt
noncomputable def Γ65(ar:List Nd)(pre:List Fm)(f:Fm):Env prog:=⟨λ| 120=>some (Cx ar pre f).spec|173=>some IY.spec|_=>none,λ_=>none,λ_ _=>none⟩
theorem adx(ar:List Nd)(pre:List Fm)(f:Fm):(Γ65 ar pre f).sp 120=some (Cx ar pre f).spec:=rfl
def xW:=(bP kX @adx @Cx.eq_1)
theorem QX(ar:List Nd)(pre:List Fm)(f:Fm)(u:Value)(fp:List Nat)(w:World)(hl:ar.length<=3999980)(hp:pre.length<=2000)(ho:bC w u fp 232 (EE ar pre f))(hlt:∀ b∈fp,b<w.heap.size) :
  Calls prog 119 (#[u]++#[]) w λe w' => gM w u fp 232 e w' (.ret (.tuple #[]) (EE (aP ar f).1 pre (aP ar f).2)):=by
 have wp:=ya pre hp;have l1:=UO ar f;refine bg (nt:=44) #[] [] (by show 2<=7;omega) ho hlt func119 rfl rfl rfl ?_;refine wR (Γ65 ar pre f) xW ?_ ?_
 ·exact⟨⟨rfl,oM,hp⟩,dE,sI⟩
 have hfo:aP ar f=vO (fW ar f).1 (fW ar f).2:=rfl;rw[hfo];generalize (fW ar f).2=f1 at *;generalize (fW ar f).1=ar1 at *;refine lf Γ0 (aa xW wp) ?_ ?_
 ·exact⟨⟨_,rfl⟩,oM,oM⟩
 refine Wp.seq ?_;refine wR Γ0 xW ?_ ?_
 ·omega
 refine wC xW (λhc=>?_) (λhc=>?_)
 ·have hm:f1.alt<0:=by simpa using hc
  have he:vO ar1 f1=(ar1,{ f1 with alt:=f1.meet,meet:=-1 }):=by rw[vO,if_pos hm]
  rw[he];refine wr Γ0 xW ?_ ?_
  ·omega
  refine wr Γ0 xW ?_ ?_
  ·omega
  refine wS xW ?_;exact⟨_,_,rfl,λE=>rfl,_,_,rfl,(ev (bP xW @aA @eN)),dE⟩
 ·have hm:¬ f1.alt<0:=by simpa using hc
  have he:vO ar1 f1=(ar1++[cl 3 f1.alt f1.meet],{ f1 with alt:=ar1.length,meet:=-1 }):=by rw[vO,if_neg hm]
  rw[he,tX];refine vZ Γ63 xW ?_ ?_
  ·exact⟨oM,oM,oM,oM,oM,oM,⟨⟨ar1,rfl,rfl,oM⟩,dE,sI⟩,oM,oM,oM⟩
  refine wr Γ0 xW ?_ ?_
  ·omega
  refine wS xW ?_;exact⟨_,_,rfl,λE=>rfl,_,_,rfl,(ev (bP xW @aA @eN)),dE⟩
def MF(ar:List Nd)(pre:List Fm)(fm:Fm):ed prog 119 where
 T:=232
 pre:=λ_ _ fs as_=>(fs=EE ar pre fm/\as_=[])/\ar.length<=3999980/\pre.length<=2000
 out:=λ_ _ _=>.ret (.tuple #[]) (EE (aP ar fm).1 pre (aP ar fm).2)
 enters:=call119
 ok:=by
  intro W w bs u fp us fs as_ hk ho hlt hmine hu hp;obtain⟨⟨rfl,rfl⟩,h1,h2⟩:=hp
  match us,hu with
  |[],_=>exact QX ar pre fm u fp w h1 h2 ho hlt
noncomputable def Γ66:Env prog:=⟨λ| 172=>some EH.spec|_=>none,λ| _=>none,λ_ _=>none⟩
theorem adO:Γ66.sp 172=some EH.spec:=rfl
def ZC:Except (Int×Int) (Int×Int×Int)->Value
 |.error (c,j)=>.tuple #[.int .i64 0,.int .i64 0,.int .i64 0,.int .i64 c,.int .i64 j]
 |.ok (m,n,j)=>.tuple #[.int .i64 m,.int .i64 n,.int .i64 j,.int .i64 0,.int .i64 0]
theorem nu(s:ByteArray)(i:Int):xL s i=true ↔ (i<s.size/\48<=bt s i/\bt s i<=57):=by simp[xL,and_assoc]
theorem QD(s:ByteArray)(i:Int)(h:xL s i=false):iL (bt s) s.size i=.error (20,i):=by
 have h' : ¬ xL s i=true:=by simp[h]
 rw[nu]at h';rw[iL,jT,if_neg h',if_pos rfl]
theorem Hk(s:ByteArray)(i:Int)(h:xL s i=true):iL (bt s) s.size i=.ok (jT (bt s) s.size 3 0 i):=by
 rw[nu]at h;have h2:=(Oz (c:=bt s) (N:=s.size) 2 (10*0+(bt s i-48)) (i+1)).1;rw[iL,if_neg];rw[jT,if_pos h];omega
def okB(s:ByteArray)(i:Int)(p:Int×Int×Int×Int):Prop:=
 (p.1=0/\p.2.1=0/\p.2.2.1=0/\p.2.2.2=i+1) \/
 (p.1=1/\p.2.2.1=0/\(0<=p.2.1/\p.2.1<=999)/\(i<p.2.2.2/\p.2.2.2<=s.size)/\iL (bt s) s.size (i+1)=.ok (p.2.1,p.2.2.2-1)/\A7 (bt s) s.size p.2.1 (p.2.2.2-1)=iL (bt s) s.size p.2.2.2) \/
 (p.1=2/\(0<=p.2.1/\p.2.1<=999)/\(-1<=p.2.2.1/\p.2.2.1<=999)/\(i<p.2.2.2/\p.2.2.2<=s.size)/\∃ l,iL (bt s) s.size (i+1)=.ok (p.2.1,l)/\A7 (bt s) s.size p.2.1 l=.ok (p.2.2.1,p.2.2.2))
def leB(s:ByteArray)(i:Int)(p:Int×Int×Int×Int):Prop:=
 (p.1=1/\p.2.2.1=0/\(0<=p.2.1/\p.2.1<=999)/\(i<p.2.2.2/\p.2.2.2<=s.size)/\iL (bt s) s.size (i+1)=.ok (p.2.1,p.2.2.2)/\A7 (bt s) s.size p.2.1 p.2.2.2=.ok (p.2.1,p.2.2.2)) \/
 (p.1=2/\(0<=p.2.1/\p.2.1<=999)/\(-1<=p.2.2.1/\p.2.2.1<=999)/\(i<p.2.2.2/\p.2.2.2<=s.size)/\∃ l,iL (bt s) s.size (i+1)=.ok (p.2.1,l)/\A7 (bt s) s.size p.2.1 l=.ok (p.2.2.1,p.2.2.2))
def bX:=(aj jk jn gR ck cf b9 b8 (aj ca cc cg cd fu fh fy (aj ft fB dc df dh db cY (aj c8 akV al2 alO ak1 @aG @al (oA @ax @aw @AU @AP adO)))))
theorem Io(s:ByteArray)(i:Int)(h0:0<=i)(hi:i<s.size)(hs:s.size<=140737488351232)(w:World):Calls prog 118 #[.string s,.int .i64 i] w λe w' => e=.returned (ZC (ot (bt s) s.size i))/\ah w [] w' := by
 refine af (nt:=117) [.tmp 4,.tmp 5,.tmp 6,.tmp 7,.tmp 8] func118 rfl rfl rfl ?_;have w1:IntKind.i64.wrap (i+1)=i+1:=ae oM oM;have wl1:IntKind.i64.wrap (0+1)=1:=rfl;have wl2:IntKind.i64.wrap (1+1)=2:=rfl;refine vR Γ0 bX ?_;refine vR Γ0 (aa bX w1) ?_;refine vR Γ0 bX ?_;refine vR Γ0 bX ?_
 refine kP (λp:Int×Int×Int×Int=>⟨200,bm [(0,.is (.v (.string s))),(1,.is (.v (.int .i64 i))),(9,.is (.v (.int .i64 p.2.2.2))),(10,.is (.own 64 0)),(11,.is (.v (.int .i64 p.1)))],aY [(64,.cells 298 [.v (.int .i64 p.2.1),.v (.int .i64 p.2.2.1)])]⟩) (λ_=>w) (λ_=>[]) (leB s i) ?_ ?_
 ·refine Wp.block ?_;refine Wp.loop (λp:Int×Int×Int×Int=>⟨30,bm [(0,.is (.v (.string s))),(1,.is (.v (.int .i64 i))),(9,.is (.v (.int .i64 p.2.2.2))),(10,.is (.own 64 0)),(11,.is (.v (.int .i64 p.1)))],aY [(64,.cells 298 [.v (.int .i64 p.2.1),.v (.int .i64 p.2.2.1)])]⟩)
   (okB s i) (λp=>(2-p.1).toNat) (0,0,0,i+1) ?_ (.inl ⟨rfl,rfl,rfl,rfl⟩) ?_
  ·exact wM (λk=>.key k) bX
  rintro⟨p,m,n,j⟩ (⟨hp,hm,hn,hj⟩|⟨hp,hn,hm,hj,hN,hU⟩|⟨hp,hm,hn,hj,l,hN,hU⟩)
  ·simp only at hp hm hn hj;subst hp hn hm hj;have hjj:i<i+1/\i+1<=s.size:=oM;generalize hj:i+1=j at *;refine Wp.seq ?_;refine vR Γ0 bX ?_;refine wC bX (λhc=>?_) (λhc=>?_)
   rotate_left
   ·exfalso;simp at hc
   refine wK ?_;refine Wp.block ?_;refine Wp.seq ?_;refine wR Γ66 bX ?_ ?_
   ·omega
   refine wC bX (λhc=>?_) (λhc=>?_)
   ·have hd:xL s j=false:=by simpa using hc
    have he:ot (bt s) s.size i=.error (20,j):=by
     rw[ot,hj,QD s j hd]
    rw[he];refine vR Γ0 bX ?_;refine wZ bX ?_;exact λE=>rfl
   have hd:xL s j=true:=by simpa using hc
   have hE:=Hk s j hd;refine wK ?_;generalize hR:jT (bt s) s.size 3 0 j=R at *
   refine kP (λq:Int×Int=>⟨200,bm [(0,.is (.v (.string s))),(1,.is (.v (.int .i64 i))),(9,.is (.v (.int .i64 q.2))),(10,.is (.own 64 0)),(11,.is (.v (.int .i64 0)))],aY [(64,.cells 298 [.v (.int .i64 q.1),.v (.int .i64 0)])]⟩) (λ_=>w) (λ_=>[]) (λq=>R=q/\(0<=q.1/\q.1<=999)/\(j<=q.2/\q.2<=s.size)) ?_ ?_
   ·skip;refine vR Γ0 bX ?_;refine Wp.block ?_
    refine Wp.loop (λq:Nat×Int=>⟨70,bm [(0,.is (.v (.string s))),(1,.is (.v (.int .i64 i))),(9,.is (.v (.int .i64 (j+(3-(q.1:Nat)))))),(10,.is (.own 64 0)),(11,.is (.v (.int .i64 0))),(12,.is (.v (.int .i64 (3-(q.1:Nat)))))],aY [(64,.cells 298 [.v (.int .i64 q.2),.v (.int .i64 0)])]⟩)
     (λq=>q.1<=3/\(0<=q.2/\q.2<=bd q.1)/\j+(3-(q.1:Nat))<=s.size/\jT (bt s) s.size q.1 q.2 (j+(3-(q.1:Nat)))=R) (λq=>q.1) (3,0) ?_ ⟨sI,by simp[bd],by simp only;omega,by simpa using hR⟩ ?_
    ·exact wM (λk=>.key k) (eS bX @Int.sub_self @Int.add_zero (show (3:Int)-((3:Nat):Int)=0 from rfl))
    rintro⟨k,x⟩ ⟨hk,⟨hx0,hx1⟩,hi',hR'⟩;simp only at hk hx0 hx1 hi' hR';have hbd:=Qy k;refine Wp.seq ?_;refine wR Γ66 bX ?_ ?_
    ·exact λ_=>by omega
    refine wC bX (λhc=>?_) (λhc=>?_)
    ·simp only[Bool.and_eq_true,decide_eq_true_eq,nu]at hc;obtain⟨h1,h2⟩:=hc;obtain⟨k,rfl⟩:∃ j,k=j+1:=⟨k-1,oM⟩;rw[jT,if_pos h2]at hR';obtain⟨h2,h3,h4⟩:=h2;have hst:=yx hk;generalize hat:j+(3-((k+1:Nat):Int))=at_ at *;have wa:IntKind.i64.wrap (10*x)=10*x:=ae oM oM
     have wb:IntKind.u8.wrap (bt s at_-48)=bt s at_-48:=eQ oM oM;have wc:IntKind.i64.wrap (bt s at_-48)=bt s at_-48:=ae oM oM;have wd:IntKind.i64.wrap (10*x+(bt s at_-48))=10*x+(bt s at_-48):=ae oM oM;have we:IntKind.i64.wrap (at_+1)=j+(3-((k:Nat):Int)):=wW
     have wf:IntKind.i64.wrap (3-((k+1:Nat):Int)+1)=3-((k:Nat):Int):=wW;refine wK ?_;refine Wp.seq (Wp.block ?_);refine lf Γ0 (oA bX wa wb wc wd) ?_ ?_
     ·exact⟨oM,oM⟩
     refine vr Γ0 (aa bX we) ?_;refine vr Γ0 (aa bX wf) ?_;refine⟨(k,10*x+(bt s at_-48)),⟨by simp only;omega,⟨by simp only;omega,by simp only;omega⟩,by simp only;omega,by simp only;rw[show j+(3-(k:Int))=at_+1 by omega];exact hR'⟩,by simp only;omega,?_⟩;exact wM (λk=>.key k) bX
    ·have hst:¬ (3-(k:Int)<3/\(j+(3-(k:Int))<s.size/\48<=bt s (j+(3-(k:Int)))/\bt s (j+(3-(k:Int)))<=57)):=λh=>by
      apply Bool.eq_false_iff.1 hc;simp only[Bool.and_eq_true,decide_eq_true_eq,nu];exact h
     have hRe:R=(x,j+(3-(k:Int))):=by
      rw[<- hR'];cases k with
      |zero=>rfl
      |succ k=>exact vK _ _ _ _ _ (λh=>hst ⟨oM,h⟩)
     refine wE ?_;refine⟨(x,j+(3-(k:Int))),⟨hRe,⟨hx0,by simp only;omega⟩,by simp only;omega,hi'⟩,rfl,rfl,?_⟩;exact wM (λk=>.key k) bX
   rintro⟨x,l⟩ ⟨hRe,hx,hl⟩ -;simp only at hRe hx hl;rw[hRe]at hE;subst hRe;clear hR;dsimp only;refine vR Γ0 (bP bX wl1 wl2) ?_;refine Wp.seq ?_;refine wR Γ0 bX ?_ ?_
   ·exact λh=>by simp only[Bool.not_eq_true',Bool.or_eq_false_iff,decide_eq_false_iff_not]at h;omega
   refine wC bX (λhc=>?_) (λhc=>?_)
   ·have h44:¬ (l<s.size/\bt s l=44):=by
     simp only[Bool.or_eq_true,decide_eq_true_eq,Bool.not_eq_true',decide_eq_false_iff_not]at hc;omega
    refine wE ?_;refine⟨(1,x,0,l),.inl ⟨rfl,rfl,hx,⟨by simp only;omega,by simp only;omega⟩,by rw[hj];exact hE,by rw[A7,if_neg h44]⟩,rfl,rfl,?_⟩;exact wM (λk=>.key k) bX
   have h44:l<s.size/\bt s l=44:=by
    simp only[Bool.or_eq_false_iff,decide_eq_false_iff_not,Bool.not_eq_false',decide_eq_true_eq]at hc;omega
   have wl:IntKind.i64.wrap (l+1)=l+1:=ae oM oM;refine wK ?_;refine vR Γ0 (aa bX wl) ?_;refine wR Γ0 bX ?_ ?_
   ·first|exact λh=>by omega|exact λh=>by (simp at h;omega)
   refine wC bX (λhc=>?_) (λhc=>?_)
   ·have h125:¬ (¬ l+1<s.size\/bt s (l+1)≠125):=by
     simp only[Bool.and_eq_true,decide_eq_true_eq]at hc;omega
    refine vR Γ0 bX ?_;refine vr Γ0 bX ?_;refine⟨(2,x,-1,l+1),.inr (.inr ⟨rfl,hx,by simp only;omega,⟨by simp only;omega,by simp only;omega⟩,l,by rw[hj];exact hE,by rw[A7,if_pos h44,if_neg h125]⟩),sI,?_⟩;exact wM (λk=>.key k) bX
   ·have h125:¬ l+1<s.size\/bt s (l+1)≠125:=by
     simp only[Bool.and_eq_false_iff,decide_eq_false_iff_not]at hc;omega
    refine wK ?_;refine⟨(1,x,0,l+1),.inr (.inl ⟨rfl,rfl,hx,⟨by simp only;omega,by simp only;omega⟩,by rw[hj];show iL _ _ _=.ok (x,l+1-1);rw[Int.add_sub_cancel];exact hE,by show A7 _ _ x (l+1-1)=_;rw[Int.add_sub_cancel,A7,if_pos h44,if_pos h125]⟩),sI,?_⟩;exact wM (λk=>.key k) bX
  ·simp only at hp hm hn hj hN hU;subst hp hn;have hjj:=hj;refine Wp.seq ?_;refine vR Γ0 bX ?_;refine wC bX (λhc=>?_) (λhc=>?_)
   rotate_left
   ·exfalso;simp at hc
   refine wK ?_;refine Wp.block ?_;refine Wp.seq ?_;refine wR Γ66 bX ?_ ?_
   ·omega
   refine wC bX (λhc=>?_) (λhc=>?_)
   ·have hd:xL s j=false:=by simpa using hc
    have he:ot (bt s) s.size i=.error (20,j):=by
     rw[ot,hN];simp only[hU,QD s j hd]
    rw[he];refine vR Γ0 bX ?_;refine wZ bX ?_;exact λE=>rfl
   have hd:xL s j=true:=by simpa using hc
   have hE:=Hk s j hd;refine wK ?_;generalize hR:jT (bt s) s.size 3 0 j=R at *
   refine kP (λq:Int×Int=>⟨200,bm [(0,.is (.v (.string s))),(1,.is (.v (.int .i64 i))),(9,.is (.v (.int .i64 q.2))),(10,.is (.own 64 0)),(11,.is (.v (.int .i64 1)))],aY [(64,.cells 298 [.v (.int .i64 m),.v (.int .i64 q.1)])]⟩) (λ_=>w) (λ_=>[]) (λq=>R=q/\(0<=q.1/\q.1<=999)/\(j<=q.2/\q.2<=s.size)) ?_ ?_
   ·skip;refine vR Γ0 bX ?_;refine Wp.block ?_
    refine Wp.loop (λq:Nat×Int=>⟨70,bm [(0,.is (.v (.string s))),(1,.is (.v (.int .i64 i))),(9,.is (.v (.int .i64 (j+(3-(q.1:Nat)))))),(10,.is (.own 64 0)),(11,.is (.v (.int .i64 1))),(12,.is (.v (.int .i64 (3-(q.1:Nat)))))],aY [(64,.cells 298 [.v (.int .i64 m),.v (.int .i64 q.2)])]⟩)
     (λq=>q.1<=3/\(0<=q.2/\q.2<=bd q.1)/\j+(3-(q.1:Nat))<=s.size/\jT (bt s) s.size q.1 q.2 (j+(3-(q.1:Nat)))=R) (λq=>q.1) (3,0) ?_ ⟨sI,by simp[bd],by simp only;omega,by simpa using hR⟩ ?_
    ·exact wM (λk=>.key k) (eS bX @Int.sub_self @Int.add_zero (show (3:Int)-((3:Nat):Int)=0 from rfl))
    rintro⟨k,x⟩ ⟨hk,⟨hx0,hx1⟩,hi',hR'⟩;simp only at hk hx0 hx1 hi' hR';have hbd:=Qy k;refine Wp.seq ?_;refine wR Γ66 bX ?_ ?_
    ·exact λ_=>by omega
    refine wC bX (λhc=>?_) (λhc=>?_)
    ·simp only[Bool.and_eq_true,decide_eq_true_eq,nu]at hc;obtain⟨h1,h2⟩:=hc;obtain⟨k,rfl⟩:∃ j,k=j+1:=⟨k-1,oM⟩;rw[jT,if_pos h2]at hR';obtain⟨h2,h3,h4⟩:=h2;have hst:=yx hk;generalize hat:j+(3-((k+1:Nat):Int))=at_ at *;have wa:IntKind.i64.wrap (10*x)=10*x:=ae oM oM
     have wb:IntKind.u8.wrap (bt s at_-48)=bt s at_-48:=eQ oM oM;have wc:IntKind.i64.wrap (bt s at_-48)=bt s at_-48:=ae oM oM;have wd:IntKind.i64.wrap (10*x+(bt s at_-48))=10*x+(bt s at_-48):=ae oM oM;have we:IntKind.i64.wrap (at_+1)=j+(3-((k:Nat):Int)):=wW
     have wf:IntKind.i64.wrap (3-((k+1:Nat):Int)+1)=3-((k:Nat):Int):=wW;refine wK ?_;refine Wp.seq (Wp.block ?_);refine lf Γ0 (oA bX wa wb wc wd) ?_ ?_
     ·exact⟨oM,oM⟩
     refine vr Γ0 (aa bX we) ?_;refine vr Γ0 (aa bX wf) ?_;refine⟨(k,10*x+(bt s at_-48)),⟨by simp only;omega,⟨by simp only;omega,by simp only;omega⟩,by simp only;omega,by simp only;rw[show j+(3-(k:Int))=at_+1 by omega];exact hR'⟩,by simp only;omega,?_⟩;exact wM (λk=>.key k) bX
    ·have hst:¬ (3-(k:Int)<3/\(j+(3-(k:Int))<s.size/\48<=bt s (j+(3-(k:Int)))/\bt s (j+(3-(k:Int)))<=57)):=λh=>by
      apply Bool.eq_false_iff.1 hc;simp only[Bool.and_eq_true,decide_eq_true_eq,nu];exact h
     have hRe:R=(x,j+(3-(k:Int))):=by
      rw[<- hR'];cases k with
      |zero=>rfl
      |succ k=>exact vK _ _ _ _ _ (λh=>hst ⟨oM,h⟩)
     refine wE ?_;refine⟨(x,j+(3-(k:Int))),⟨hRe,⟨hx0,by simp only;omega⟩,by simp only;omega,hi'⟩,rfl,rfl,?_⟩;exact wM (λk=>.key k) bX
   rintro⟨x,l⟩ ⟨hRe,hx,hl⟩ -;simp only at hRe hx hl;rw[hRe]at hE;subst hRe;clear hR;dsimp only;refine vR Γ0 (bP bX wl1 wl2) ?_;refine Wp.seq ?_;refine wR Γ0 bX ?_ ?_
   ·first|trivial|exact λh=>by simp at h|(trace_state;omega)
   refine wC bX (λhc=>?_) (λhc=>?_)
   rotate_left
   ·exfalso;simp at hc
   refine wE ?_;refine⟨(2,m,x,l),.inr ⟨rfl,hm,by simp only;omega,⟨by simp only;omega,by simp only;omega⟩,j-1,hN,by rw[hU,hE]⟩,rfl,rfl,?_⟩;exact wM (λk=>.key k) bX
  ·simp only at hp hm hn hj hN hU;subst hp;refine Wp.seq ?_;refine vR Γ0 bX ?_;refine wC bX (λhc=>?_) (λhc=>?_)
   ·exfalso;simp at hc
   refine wE ?_;refine⟨(2,m,n,j),.inr ⟨rfl,hm,hn,hj,l,hN,hU⟩,rfl,rfl,?_⟩;exact wM (λk=>.key k) bX
 have fin:∀ m n j:Int,(0<=m/\m<=999)->(-1<=n/\n<=999)->(i<j/\j<=s.size)->ot (bt s) s.size i=nG (bt s) s.size m n j i ->
   ∃ m' n' : Int,True:=λm n j _ _ _ _=>⟨m,n,trivial⟩
 refine λp hp _=>kP (λp:Int×Int×Int=>⟨300,bm [(0,.is (.v (.string s))),(1,.is (.v (.int .i64 i))),(9,.is (.v (.int .i64 p.2.2))),(10,.is (.own 64 0))],aY [(64,.cells 298 [.v (.int .i64 p.1),.v (.int .i64 p.2.1)])]⟩) (λ_=>w) (λ_=>[])
  (λp=>(0<=p.1/\p.1<=999)/\(-1<=p.2.1/\p.2.1<=999)/\(i<p.2.2/\p.2.2<=s.size)/\ot (bt s) s.size i=nG (bt s) s.size p.1 p.2.1 p.2.2 i) ?_ ?_
 ·obtain⟨p,m,n,j⟩:=p;rcases hp with ⟨hp,hn,hm,hj,hN,hU⟩|⟨hp,hm,hn,hj,l,hN,hU⟩
  ·simp only at hp hn hm hj hN hU;subst hp hn;dsimp only;refine vR Γ0 bX ?_;refine wC bX (λhc=>?_) (λhc=>?_)
   rotate_left
   ·exfalso;simp at hc
   refine vr Γ0 bX ?_;refine⟨(m,m,j),⟨hm,by simp only;omega,hj,by rw[ot,hN];simp only[hU]⟩,rfl,rfl,?_⟩;exact wM (λk=>.key k) bX
  ·simp only at hp hn hm hj hN hU;subst hp;dsimp only;refine vR Γ0 bX ?_;refine wC bX (λhc=>?_) (λhc=>?_)
   ·exfalso;simp at hc
   refine wK ?_;refine⟨(m,n,j),⟨hm,hn,hj,by rw[ot,hN];simp only[hU]⟩,rfl,rfl,?_⟩;exact wM (λk=>.key k) bX
 rintro⟨m,n,j⟩ ⟨hm,hn,hj,he⟩ -;simp only at hm hn hj he;rw[he];dsimp only;refine Wp.seq ?_;refine wR Γ0 bX ?_ ?_
 ·exact λh=>by simp only[Bool.not_eq_true',Bool.or_eq_false_iff,decide_eq_false_iff_not]at h;omega
 refine wC bX (λhc=>?_) (λhc=>?_)
 ·have h125:¬ j<s.size\/bt s j≠125:=by
   simp only[Bool.or_eq_true,decide_eq_true_eq,Bool.not_eq_true',decide_eq_false_iff_not]at hc;omega
  rw[nG,if_pos h125];refine vR Γ0 bX ?_;refine wZ bX ?_;exact λE=>rfl
 have h125:¬ (¬ j<s.size\/bt s j≠125):=by
  simp only[Bool.or_eq_false_iff,decide_eq_false_iff_not,Bool.not_eq_false',decide_eq_true_eq]at hc;omega
 refine wK ?_;refine Wp.seq ?_;refine vR Γ0 bX ?_;refine wC bX (λhc=>?_) (λhc=>?_)
 ·have hb:255<m\/255<n\/(0<=n/\n<m):=by
   simp only[Bool.or_eq_true,Bool.and_eq_true,decide_eq_true_eq]at hc;omega
  rw[nG,if_neg h125,if_pos hb];refine vR Γ0 bX ?_;refine wZ bX ?_;exact λE=>rfl
 have hb:¬ (255<m\/255<n\/(0<=n/\n<m)):=by
  intro hb;apply Bool.eq_false_iff.1 hc;simp only[Bool.or_eq_true,Bool.and_eq_true,decide_eq_true_eq];omega
 rw[nG,if_neg h125,if_neg hb];refine wK ?_;have wj:IntKind.i64.wrap (j+1)=j+1:=ae oM oM;refine Qw Γ0 (aa bX wj) ?_;refine wZ bX ?_;exact λE=>rfl
def sS:aM prog 118 where
 pre:=λW bs=>λ| [.val (.string s),.val (.int .i64 i)]=>0<=i/\i<s.size/\s.size<=140737488351232|_=>False
 res:=λW=>λ| [.val (.string s),.val (.int .i64 i)]=>ZC (ot (bt s) s.size i)|_=>undef
 enters:=call118
 ok:=by
  intro W w bs us as_ hk hu hp;split at hp
  ·rename_i s i
   match us,hu with
   |[u0,u1],hu=>
    obtain⟨rfl,rfl,_⟩:=hu;exact Io s i hp.1 hp.2.1 hp.2.2 w
  ·exact hp.elim
theorem FD(W:World)(s:ByteArray)(i:Int):sS.res W [.val (.string s),.val (.int .i64 i)]=ZC (ot (bt s) s.size i):=rfl
theorem EN(W:World)(bs:List Nat)(s:ByteArray)(i:Int):sS.pre W bs [.val (.string s),.val (.int .i64 i)]=(0<=i/\i<s.size/\s.size<=140737488351232):=rfl
theorem KV{x y p q:Int}(h0:0<=x)(h1:x<=p)(h2:0<=y)(h3:y<=q):0<=x*y/\x*y<=p*q:=
 ⟨Int.mul_nonneg h0 h2,Int.mul_le_mul h1 h3 h2 oM⟩
def lY:=(aj gR ck cf b9 b8 ca cc (ml cg cd @aG @al @ax @aw))
theorem NB(a m n:Int)(h0:0<=a)(h1:a<=2001)(hmn:uE m n)(w:World):Calls prog 175 #[.int .i64 a,.int .i64 m,.int .i64 n] w λe w' => e=.returned (.int .i64 (dG a m n))/\ah w [] w' := by
 refine af (nt:=59) [.tmp 6] func175 rfl rfl rfl ?_;unfold uE at hmn;refine vR Γ0 lY ?_;refine Wp.seq ?_;refine vR Γ0 lY ?_;refine wC lY (λhc=>?_) (λhc=>?_)
 ·have hm:m=-2:=by simpa using hc
  have e1:IntKind.i64.wrap (a+1)=a+1:=ae oM oM;have e2:IntKind.i64.wrap (a+1+a)=a+1+a:=ae oM oM;have e3:IntKind.i64.wrap (a+1+a+1)=a+1+a+1:=ae oM oM;rw[dG,if_pos hm];refine vR Γ0 (eS lY e1 e2 e3) ?_;refine wZ lY ?_;exact λE=>rfl
 have hm:¬ m=-2:=by simpa using hc
 have hm0:0<=m/\m<=255/\n<=255:=oM;have hma:=KV hm0.1 hm0.2.1 h0 h1;rw[dG,if_neg hm];refine wK ?_;refine Wp.seq ?_;refine vR Γ0 lY ?_;refine wC lY (λhc=>?_) (λhc=>?_)
 ·have h2:n<0/\m=0:=by simpa using hc
  have e1:IntKind.i64.wrap (a+1)=a+1:=ae oM oM;rw[if_pos h2];refine vR Γ0 (aa lY e1) ?_;refine wZ lY ?_;exact λE=>rfl
 have h2:¬ (n<0/\m=0):=by
  intro h;apply Bool.eq_false_iff.1 hc;simp[h.1,h.2]
 rw[if_neg h2];refine wK ?_;refine Wp.seq ?_;refine vR Γ0 lY ?_;refine wC lY (λhc=>?_) (λhc=>?_)
 ·have h3:n<0:=by simpa using hc
  have e0:IntKind.i64.wrap (m*a)=m*a:=ae oM oM;have e1:IntKind.i64.wrap (m*a+m)=m*a+m:=ae oM oM;have e2:IntKind.i64.wrap (m*a+m-1)=m*a+m-1:=ae oM oM;have e3:IntKind.i64.wrap (m*a+m-1+1)=m*a+m-1+1:=ae oM oM;have e4:IntKind.i64.wrap (m*a+m-1+1+a)=m*a+m-1+1+a:=ae oM oM
  have e5:IntKind.i64.wrap (m*a+m-1+1+a+1)=m*a+m-1+1+a+1:=ae oM oM;rw[if_pos h3];refine vR Γ0 (ur lY e0 e1 e2 e3 e4 e5) ?_;refine wZ lY ?_;exact λE=>rfl
 have h3:¬ n<0:=by simpa using hc
 rw[if_neg h3];refine wK ?_;refine Wp.seq ?_;refine vR Γ0 lY ?_;refine wC lY (λhc=>?_) (λhc=>?_)
 ·have h4:n=0:=by simpa using hc
  rw[if_pos h4];refine vR Γ0 lY ?_;refine wZ lY ?_;exact λE=>rfl
 have h4:¬ n=0:=by simpa using hc
 rw[if_neg h4];refine wK ?_;refine Wp.seq ?_;refine vR Γ0 lY ?_;refine wC lY (λhc=>?_) (λhc=>?_)
 ·have h5:m=0:=by simpa using hc
  have hna:=KV (x:=n) (y:=a+2) (p:=255) (q:=2003) oM oM oM oM;have e0:IntKind.i64.wrap (a+2)=a+2:=ae oM oM;have e1:IntKind.i64.wrap (n*(a+2))=n*(a+2):=ae oM oM;have e2:IntKind.i64.wrap (n*(a+2)+n)=n*(a+2)+n:=ae oM oM;have e3:IntKind.i64.wrap (n*(a+2)+n-1)=n*(a+2)+n-1:=ae oM oM;rw[if_pos h5]
  refine vR Γ0 (oA lY e0 e1 e2 e3) ?_;refine wZ lY ?_;exact λE=>rfl
 have h5:¬ m=0:=by simpa using hc
 have hnm:=KV (x:=n-m) (y:=a+2+1) (p:=255) (q:=2004) oM oM oM oM;have e0:IntKind.i64.wrap (m*a)=m*a:=ae oM oM;have e1:IntKind.i64.wrap (m*a+m)=m*a+m:=ae oM oM;have e2:IntKind.i64.wrap (m*a+m-1)=m*a+m-1:=ae oM oM;have e3:IntKind.i64.wrap (n-m)=n-m:=ae oM oM
 have e4:IntKind.i64.wrap (a+2)=a+2:=ae oM oM;have e5:IntKind.i64.wrap (a+2+1)=a+2+1:=ae oM oM;have e6:IntKind.i64.wrap ((n-m)*(a+2+1))=(n-m)*(a+2+1):=ae oM oM;have e7:IntKind.i64.wrap (m*a+m-1+(n-m)*(a+2+1))=m*a+m-1+(n-m)*(a+2+1):=ae oM oM;rw[if_neg h5];refine wK ?_
 refine vR Γ0 (aj lY e0 e1 e2 e3 e4 e5 (aa e6 e7)) ?_;refine wZ lY ?_;exact λE=>rfl
def yz:aM prog 175 where
 pre:=λW bs=>λ| [.val (.int .i64 a),.val (.int .i64 m),.val (.int .i64 n)]=>(0<=a/\a<=2001)/\uE m n|_=>False
 res:=λW=>λ| [.val (.int .i64 a),.val (.int .i64 m),.val (.int .i64 n)]=>.int .i64 (dG a m n)|_=>undef
 enters:=call175
 ok:=by
  intro W w bs us as_ hk hu hp;split at hp
  ·rename_i a m n
   match us,hu with
   |[u0,u1,u2],hu=>
    obtain⟨rfl,rfl,rfl,_⟩:=hu;exact NB a m n hp.1.1 hp.1.2 hp.2 w
  ·exact hp.elim
theorem H2(W:World)(a:Int)(m:Int)(n:Int):yz.res W [.val (.int .i64 a),.val (.int .i64 m),.val (.int .i64 n)]=.int .i64 (dG a m n):=rfl
theorem IS(W:World)(bs:List Nat)(a:Int)(m:Int)(n:Int):yz.pre W bs [.val (.int .i64 a),.val (.int .i64 m),.val (.int .i64 n)]=((0<=a/\a<=2001)/\uE m n):=rfl
noncomputable def Γ67:Env prog:=⟨λ| 175=>some yz.spec|_=>none,λ| _=>none,λ_ _=>none⟩
theorem adL:Γ67.sp 175=some yz.spec:=rfl
def Kp(ar:List Nd):Prop:=∀ k (h:k<ar.length),(0<=ar[k].op/\ar[k].op<=7)/\(2<=ar[k].op->0<=ar[k].a/\ar[k].a<k)/\(2<=ar[k].op->ar[k].op≠7->0<=ar[k].b/\ar[k].b<k)/\(ar[k].op=7->uE ar[k].m ar[k].n)
theorem NM.ok{ts:List RT}{d:Nd}{t:RT}(h:NM ts d t):(0<=d.op/\d.op<=7)/\(2<=d.op->0<=d.a/\d.a<ts.length)/\(2<=d.op->d.op≠7->0<=d.b/\d.b<ts.length)/\(d.op=7->uE d.m d.n):=by
 have lt:∀ {x:Int} {a:RT},0<=x->ts[x.toNat]?=some a->x<ts.length:=λ{x a} h0 h=>by
  have:=(List.getElem?_eq_some_iff.1 h).1;omega
 cases h with
 |eps h0 _=>exact⟨oM,λh=>by omega,λh=>by omega,λh=>by omega⟩
 |cls h0=>exact⟨oM,λh=>by omega,λh=>by omega,λh=>by omega⟩
 |cat a b h0 h1 h2 h3 h4=>exact⟨oM,λh=>⟨h1,lt h1 h2⟩,λh _=>⟨h3,lt h3 h4⟩,λh=>by omega⟩
 |alt a b h0 h1 h2 h3 h4=>exact⟨oM,λh=>⟨h1,lt h1 h2⟩,λh _=>⟨h3,lt h3 h4⟩,λh=>by omega⟩
 |and a b h0 h1 h2 h3 h4=>exact⟨oM,λh=>⟨h1,lt h1 h2⟩,λh _=>⟨h3,lt h3 h4⟩,λh=>by omega⟩
 |minus a b h0 h1 h2 h3 h4=>exact⟨oM,λh=>⟨h1,lt h1 h2⟩,λh _=>⟨h3,lt h3 h4⟩,λh=>by omega⟩
 |rep a h0 h1 h2 h3=>exact⟨oM,λh=>⟨h1,lt h1 h2⟩,λh h' => absurd h0 h',λ_=>h3⟩
theorem AR.ok{ar:List Nd}{ts:List RT}(h:AR ar ts):Kp ar:=by
 induction h with
 |nil=>intro k hk;cases hk
 | @snoc ar ts d t ha hn ih=>
  intro k hk;by_cases hlt:k<ar.length
  ·rw[List.getElem_append_left hlt];exact ih k hlt
  ·have hk' : k=ar.length:=by simp at hk;omega
   subst hk';have:=hn.ok;rw[ha.len]at this;rw[List.getElem_append_right (Nat.le_refl _)];simpa using this
theorem N5:∀ (l:List Nd) (k j:Nat) (hk:k<l.length),j<261->(dD l)[k*261+j]?=l[k].bw[j]?
 |d::r,0,j,_,hj=>by
  show (d.bw++dD r)[0*261+j]?=_;rw[List.getElem?_append_left (by rw[Nd.iM];omega)];simp
 |d::r,k+1,j,hk,hj=>by
  show (d.bw++dD r)[(k+1)*261+j]?=_;rw[List.getElem?_append_right (by rw[Nd.iM];omega),Nd.iM,show (k+1)*261+j-261=k*261+j by omega];have:=N5 r k j (by simpa using hk) hj;simpa using this
theorem Nd.aiI(d:Nd):d.bw[0]?=some (.int .i64 d.op):=rfl
theorem Nd.p5(d:Nd)(j:Nat):d.bw[257+j]?=[Value.int .i64 d.a,.int .i64 d.b,.int .i64 d.m,.int .i64 d.n][j]?:=by
 have e:d.bw=(Value.int .i64 d.op::gI d.set.getLsbD)++[.int .i64 d.a,.int .i64 d.b,.int .i64 d.m,.int .i64 d.n]:=rfl;rw[e,List.getElem?_append_right (by rw[List.length_cons,qK];omega),List.length_cons,qK,show 257+j-(256+1)=j by omega]
theorem kJ.nd{w:World}{ao:Option Addr}{l:List Nd}(h:kJ w ao (dD l)){k:Nat}(hk:k<l.length):∃ b o,ao=some ⟨b,o,none⟩ /\
  w.cell? ⟨b,o+k*261,none⟩=some (.int .i64 l[k].op)/\w.cell? ⟨b,o+k*261+257,none⟩=some (.int .i64 l[k].a)/\w.cell? ⟨b,o+k*261+258,none⟩=some (.int .i64 l[k].b) /\
  w.cell? ⟨b,o+k*261+259,none⟩=some (.int .i64 l[k].m)/\w.cell? ⟨b,o+k*261+260,none⟩=some (.int .i64 l[k].n):=by
 have hl:=OJ l;rcases h with h|⟨b,o,rfl,hc⟩
 ·rw[h]at hl;simp at hl;omega
 ·have key:∀ j (hj:j<261) (v:Value),l[k].bw[j]?=some v->w.cell? ⟨b,o+k*261+j,none⟩=some v:=λj hj v hv=>by
   have hlt:k*261+j<(dD l).length:=oM;have h1:=hc (k*261+j) hlt;have h2:=N5 l k j hk hj;rw[List.getElem?_eq_getElem hlt,hv]at h2;rw[<- Nat.add_assoc]at h1;rw[h1,h2]
  exact⟨b,o,rfl,key 0 oM _ (Nd.aiI _),key 257 oM _ (Nd.p5 _ 0),key 258 oM _ (Nd.p5 _ 1),key 259 oM _ (Nd.p5 _ 2),key 260 oM _ (Nd.p5 _ 3)⟩
def iV(Z:List Int):List Value:=Z.map (.int .i64)
theorem OQ(Z:List Int):(List.map SV.v (iV Z)).length=Z.length:=by simp[iV]
theorem Fg(Z:List Int)(k:Nat)(hk:k<Z.length):(List.map SV.v (iV Z)).getD k (.v undef)=.v (.int .i64 (Z.getD k 0)):=by
 simp[iV,List.getD_eq_getElem?_getD,hk]
theorem zk(Z:List Int)(k:Nat)(x:Int)(hk:k<Z.length):List.take k (List.map SV.v (iV Z))++[SV.v (.int .i64 x)]++List.drop (k+1) (List.map SV.v (iV Z))=List.map SV.v (iV (Z.set k x)):=by
 rw[List.set_eq_take_append_cons_drop,if_pos hk];simp[iV]
def zZ(ar:List Nd)(k:Nat):List Int:=oE (ar.take k)++List.replicate (ar.length-k) 0
theorem Ao(ar:List Nd)(d:Nd):oE (ar++[d])=oE ar++[Lx (oE ar) d]:=by
 unfold oE;rw[List.foldl_append];rfl
theorem Om{α:Type}{P:List α->Prop}(h0:P [])(h1:∀ l d,P l->P (l++[d]))(l:List α):P l:=by
 have key:∀ m:List α,P m.reverse:=λm=>by
  induction m with
  |nil=>exact h0
  |cons d r ih=>rw[List.reverse_cons];exact h1 _ _ ih
 have:=key l.reverse
 rwa [List.reverse_reverse]at this
theorem mu(ar:List Nd):(oE ar).length=ar.length:=by
 refine Om (P:=λar=>(oE ar).length=ar.length) rfl (λar d ih=>?_) ar
 ·rw[Ao,List.length_append,List.length_append,ih];rfl
theorem ajP(ar:List Nd)(k:Nat)(hk:k<=ar.length):(zZ ar k).length=ar.length:=by
 rw[zZ,List.length_append,mu,List.length_take,List.length_replicate];omega
theorem ako(ar:List Nd)(k j:Nat)(hj:j<k)(hk:k<=ar.length):(zZ ar k).getD j 0=(oE (ar.take k)).getD j 0:=by
 rw[List.getD_eq_getElem?_getD,List.getD_eq_getElem?_getD,zZ,List.getElem?_append_left (by rw[mu,List.length_take];omega)]
theorem ais(ar:List Nd)(k:Nat)(hk:k<ar.length):(zZ ar k).set k (Lx (oE (ar.take k)) ar[k])=zZ ar (k+1):=by
 have hl:(oE (ar.take k)).length=k:=by rw[mu,List.length_take];omega
 have ht:ar.take (k+1)=ar.take k++[ar[k]]:=by rw[List.take_succ_eq_append_getElem hk]
 rw[zZ,zZ,ht,Ao,List.set_append_right _ _ oM,hl,Nat.sub_self,show ar.length-k=(ar.length-(k+1))+1 by omega,List.replicate_succ,List.set_cons_zero,List.append_assoc];rfl
theorem adC(ar:List Nd):List.map SV.v (List.replicate ar.length [Value.int .i64 0]).flatten=List.map SV.v (iV (zZ ar 0)):=by
 have:∀ n:Nat,(List.replicate n [Value.int .i64 0]).flatten=iV (List.replicate n 0):=λn=>by
  induction n with
  |zero=>rfl
  |succ n ih=>rw[List.replicate_succ,List.flatten_cons,ih];rfl
 rw[this];simp[zZ,oE]
theorem aiv(ar:List Nd)(hok:Kp ar):∀ j,j<ar.length->0<=(oE ar).getD j 0/\(oE ar).getD j 0<=2001:=by
 revert hok;refine Om (P:=λar=>Kp ar->∀ j,j<ar.length->0<=(oE ar).getD j 0/\(oE ar).getD j 0<=2001) (λ_ j hj=>by cases hj) (λar d ih hok=>?_) ar
 ·skip;have hok' : Kp ar:=λk hk=>by
   have:=hok k (by simp;omega);rw[List.getElem_append_left hk]at this;exact this
  intro j hj;rw[Ao,List.getD_eq_getElem?_getD];by_cases hlt:j<ar.length
  ·rw[List.getElem?_append_left (by rw[mu];exact hlt),<- List.getD_eq_getElem?_getD];exact ih hok' j hlt
  ·have hj' : j=ar.length:=by simp at hj;omega
   subst hj';have hd:=hok ar.length sI;rw[List.getElem_append_right (Nat.le_refl _)]at hd;simp only[Nat.sub_self,List.getElem_cons_zero]at hd;rw[List.getElem?_append_right (by rw[mu];exact Nat.le_refl _),mu,Nat.sub_self];show 0<=Lx (oE ar) d/\Lx (oE ar) d<=2001;have hv:0<=oV (oE ar) d:=by
    unfold oV;split
    ·omega
    ·rename_i h1;have ha:=hd.2.1 oM;have hA:=ih hok' d.a.toNat oM;split
     ·rename_i h7;exact C9 hA.1 (hd.2.2.2 h7)
     ·rename_i h7;have hb:=hd.2.2.1 oM h7;have hB:=ih hok' d.b.toNat oM;omega
   unfold Lx;split<;>omega
def fK:=(aj jk jn gR ck cf b9 b8 (aj ca cc cg cd xi vU xj (aj tK Po QH P0 OL sK wP (aj wU sF vY wV xn vW wA (aj wO w6 @aG @al @ax @aw @H2 (bP @IS adL @OQ))))))
theorem Sa(ar:List Nd)(hok:Kp ar)(hln:ar.length<=4000000)(ao:Option Addr)(c:Nat)(w:World)(hl:kJ w ao (dD ar)) :
  Calls prog 123 #[.slice ao ar.length c] w λe w' =>
   ∃ u fp,e=.returned u/\(∀ E',a6 E' u fp w' (.row 3 1 ar.length ((iV (oE ar)).map .v)))/\(∀ b∈fp,w.heap.size<=b/\b<w'.heap.size)/\ah w [] w' := by
 refine mq (nt:=80) id [.tmp 2] func123 rfl rfl rfl ?_;refine vR Γ0 fK ?_;refine vR Γ0 (aa fK @adC) ?_;refine Wp.seq ?_;refine vR Γ0 fK ?_;refine Wp.block ?_
 refine Wp.loop (λk:Nat=>⟨20,bm [(0,.is (.v (.slice ao ar.length c))),(3,.is (.hd 24)),(4,.is (.v (.int .i64 (k:Nat))))],aY [(24,.row 3 1 ar.length (List.map SV.v (iV (zZ ar k))))]⟩) (λk=>k<=ar.length) (λk=>ar.length-k) 0 ?_ (Nat.zero_le _) ?_
 ·exact wM (λk=>.key k) fK
 rintro k h1;refine Wp.seq ?_;refine vR Γ0 fK ?_;refine wC fK (λhc=>?_) (λhc=>?_)
 ·have hk:k<ar.length:=by
   simp at hc;omega
  obtain⟨b,o,rfl,c0,c1,c2,c3,c4⟩:=kJ.nd hl hk;have hd:=hok k hk;have hS:=ais ar k hk;have hZl:=ajP ar k h1;have hZb:∀ x:Int,0<=x->x<k->(zZ ar k).getD x.toNat 0=(oE (ar.take k)).getD x.toNat 0:=λx h0 hx=>ako ar k x.toNat oM h1
  have hok' : Kp (ar.take k):=λj hj=>by
   rw[List.length_take]at hj;rw[List.getElem_take];exact hok j oM
  have hB:=aiv (ar.take k) hok';have hB' : ∀ x:Int,0<=x->x<k->0<=(oE (ar.take k)).getD x.toNat 0/\(oE (ar.take k)).getD x.toNat 0<=2001:=λx h0 hx=>hB x.toNat (by rw[List.length_take];omega)
  have hsz:Lx (oE (ar.take k)) ar[k]=if 2001<oV (oE (ar.take k)) ar[k] then 2001 else oV (oE (ar.take k)) ar[k]:=rfl;have wk:IntKind.i64.wrap ((k:Int)+1)=((k+1:Nat):Int):=wW;rw[hsz]at hS;generalize ar[k]=d at *;generalize hsL:oE (ar.take k)=sz at *;generalize hZZ:zZ ar k=Z at *
  generalize hZ1:zZ ar (k+1)=Z1 at *;refine wK ?_;refine Wp.seq (Wp.block ?_);refine vR Γ0 fK ?_
  refine aV ⟨40,bm [(0,.is (.v (.slice (some ⟨b,o,none⟩) ar.length c))),(3,.is (.hd 24)),(4,.is (.v (.int .i64 (k:Nat)))),(5,.is (.v (.int .i64 (if 2<=d.op then sz.getD d.a.toNat 0 else 0))))],aY [(24,.row 3 1 ar.length (List.map SV.v (iV Z)))]⟩ ?_ ?_
  ·skip;refine wR Γ0 (aa fK c0) ?_ ?_
   ·omega
   refine wC fK (λhc=>?_) (λhc=>?_)
   ·have h2:2<=d.op:=by simpa using hc
    have ha:=hd.2.1 h2;rw[if_pos h2];refine wr Γ0 (eS fK c1 (Fg Z d.a.toNat oM) (hZb d.a ha.1 ha.2)) ?_ ?_
    ·omega
    exact wM (λk=>.key k) fK
   ·have h2:¬ 2<=d.op:=by simpa using hc
    rw[if_neg h2];refine wK ?_;exact wM (λk=>.key k) fK
  generalize h5:(if 2<=d.op then sz.getD d.a.toNat 0 else 0)=t5;refine aV ⟨70,bm [(0,.is (.v (.slice (some ⟨b,o,none⟩) ar.length c))),(3,.is (.hd 24)),(4,.is (.v (.int .i64 (k:Nat))))],aY [(24,.row 3 1 ar.length (List.map SV.v (iV (Z.set k (oV sz d)))))]⟩ ?_ ?_
  ·skip;refine wR Γ0 (aa fK c0) ?_ ?_
   ·omega
   refine Wp.block ?_;refine Wp.seq ?_;refine vR Γ0 fK ?_;refine wC fK (λhc=>?_) (λhc=>?_)
   ·have h0:d.op=0:=by simpa using hc
    have hv:oV sz d=1:=by rw[oV,if_pos (.inl h0)]
    rw[hv];refine wK ?_;refine wC fK (λhc=>?_) (λhc=>?_)
    rotate_left
    ·exfalso;simp[h0]at hc
    refine wr Γ0 (aa fK (zk Z k 1 oM)) ?_ ?_
    ·omega
    exact wM (λk=>.key k) fK
   have h0:¬ d.op=0:=by simpa using hc
   refine vr Γ0 fK ?_;refine wC fK (λhc=>?_) (λhc=>?_)
   ·have h1' : d.op=1:=by simpa using hc
    have hv:oV sz d=1:=by rw[oV,if_pos (.inr h1')]
    rw[hv];refine wr Γ0 (aa fK (zk Z k 1 oM)) ?_ ?_
    ·omega
    exact wM (λk=>.key k) fK
   have h1' : ¬ d.op=1:=by simpa using hc
   have h2:2<=d.op:=oM;have ha:=hd.2.1 h2;have hA:=hB' d.a ha.1 ha.2;rw[if_pos h2]at h5;rw[h5]at hA;refine vR Γ0 fK ?_;refine wC fK (λhc=>?_) (λhc=>?_)
   ·have h7:d.op=7:=by simpa using hc
    have hv:oV sz d=dG t5 d.m d.n:=by rw[oV,if_neg oM,if_pos h7,h5]
    have hmn:=hd.2.2.2 h7;rw[hv];refine vZ Γ67 (eS fK c3 c4 (zk Z k (dG t5 d.m d.n) oM)) ?_ ?_
    ·exact⟨oM,oM,⟨hA,hmn⟩,oM,oM⟩
    exact wM (λk=>.key k) fK
   ·have h7:¬ d.op=7:=by simpa using hc
    have hb:=hd.2.2.1 h2 h7;have hBb:=hB' d.b hb.1 hb.2;have hv:oV sz d=1+t5+sz.getD d.b.toNat 0:=by rw[oV,if_neg oM,if_neg h7,h5]
    have e1:IntKind.i64.wrap (1+t5)=1+t5:=ae oM oM;have e2:IntKind.i64.wrap (1+t5+sz.getD d.b.toNat 0)=1+t5+sz.getD d.b.toNat 0:=ae oM oM;rw[hv];refine wr Γ0 (ur fK c2 (Fg Z d.b.toNat oM) (hZb d.b hb.1 hb.2) e1 e2 (zk Z k (1+t5+sz.getD d.b.toNat 0) oM)) ?_ ?_
    ·omega
    exact wM (λk=>.key k) fK
  have hgs:(Z.set k (oV sz d)).getD k 0=oV sz d:=by
   rw[List.getD_eq_getElem?_getD,List.getElem?_set_self oM];rfl
  have hls:(Z.set k (oV sz d)).length=ar.length:=by rw[List.length_set,hZl]
  refine wR Γ0 (bP fK (Fg (Z.set k (oV sz d)) k oM) hgs) ?_ ?_
  ·omega
  refine wC fK (λhc=>?_) (λhc=>?_)
  ·have hc' : 2001<oV sz d:=by simpa using hc
   rw[if_pos hc']at hS;refine wr Γ0 (eS fK (zk (Z.set k (oV sz d)) k 2001 oM) @List.set_set.{0} hS) ?_ ?_
   ·omega
   refine vr Γ0 (aa fK wk) ?_;refine⟨k+1,oM,oM,?_⟩;rw[hZ1];exact wM (λk=>.key k) fK
  ·have hc' : ¬ 2001<oV sz d:=by simpa using hc
   rw[if_neg hc']at hS;refine wK ?_;refine vr Γ0 (aa fK wk) ?_;refine⟨k+1,oM,oM,?_⟩;rw[hZ1];exact wM (λk=>.key k) (aa fK hS)
 ·have hk:k=ar.length:=by
   simp at hc;omega
  have hz:zZ ar k=oE ar:=by
   rw[hk,zZ,List.take_length,Nat.sub_self];simp
  refine wE ?_;refine vR Γ0 fK ?_;refine wZ fK ?_;refine⟨_,⟨dE,.inl ⟨_,rfl,?_⟩⟩,λE=>rfl⟩;rw[<- hz];rfl
def KX(ar:List Nd):xu prog 123 where
 pre:=λW bs as_=>(∃ a,as_=[a]/\aln W bs 261 ar.length (dD ar) a)/\Kp ar/\ar.length<=4000000
 T:=3
 s:=1
 n:=λ_ _=>ar.length
 vs:=λ_ _=>iV (oE ar)
 tm:=λ_ _ x=>x
 g:=λ_ _ v=>v
 tmg:=λ_ _ _ _=>rfl
 tmk:=λ_ _ _ _ h=>h
 enters:=call123
 ok:=by
  intro W w bs us as_ hk hu hp;obtain⟨⟨a,rfl,h1⟩,h2,h3⟩:=hp
  match us,hu with
  |[u],hu=>
   obtain⟨ao,c,rfl,hsl⟩:=aef hk hu.1 h1;exact Sa ar h2 h3 ao c w hsl
def aI:Rx->Nat
 |.eps=>1
 |.cls _=>1
 |.cat a b=>aI a+aI b+1
 |.alt a b=>aI a+aI b+1
 |.star a=>aI a+1
 |.and a b=>aI a+aI b+1
 |.minus a b=>aI a+aI b+1
def eA(n:Nat):Rx->List Nd
 |.eps=>[cl 0 0 0]
 |.cls S=>[⟨1,S,0,0,0,0⟩]
 |.cat a b=>eA n a++(eA (n+aI a) b++[cl 2 ((n+aI a-1:Nat):Int) ((n+aI a+aI b-1:Nat):Int)])
 |.alt a b=>eA n a++(eA (n+aI a) b++[cl 3 ((n+aI a-1:Nat):Int) ((n+aI a+aI b-1:Nat):Int)])
 |.star a=>eA n a++[cl 4 ((n+aI a-1:Nat):Int) 0]
 |.and a b=>eA n a++(eA (n+aI a) b++[cl 5 ((n+aI a-1:Nat):Int) ((n+aI a+aI b-1:Nat):Int)])
 |.minus a b=>eA n a++(eA (n+aI a) b++[cl 6 ((n+aI a-1:Nat):Int) ((n+aI a+aI b-1:Nat):Int)])
theorem jN(t:Rx):1<=aI t:=by cases t<;>simp[aI]
theorem gp(t:Rx):∀ n,(eA n t).length=aI t:=by
 induction t with
 |eps=>intro n;rfl
 |cls S=>intro n;rfl
 |star a ih=>intro n;simp[eA,aI,ih]
 |cat a b iha ihb=>intro n;simp only[eA,aI,List.length_append,iha,ihb,List.length_cons,List.length_nil];omega
 |alt a b iha ihb=>intro n;simp only[eA,aI,List.length_append,iha,ihb,List.length_cons,List.length_nil];omega
 |and a b iha ihb=>intro n;simp only[eA,aI,List.length_append,iha,ihb,List.length_cons,List.length_nil];omega
 |minus a b iha ihb=>intro n;simp only[eA,aI,List.length_append,iha,ihb,List.length_cons,List.length_nil];omega
theorem bQ(l m:List Nd):dD (l++m)=dD l++dD m:=by simp[dD]
theorem mn(d:Nd):dD [d]=d.bw:=by simp[dD]
def Zm:=(aj jk jn BG BH BJ gR ck (aj cf b9 b8 xi vU xj tK (aj yX AW Aa Al A5 AB sK (aj wP wU sF vY wV xn vW (aj wA wO w6 I6 HK GF Kc (aj Ji @aG @al @ax @aw @sY @ti @sH))))))
theorem ahc(l:List Nd)(r:Int)(op a b:Int)(u:Value)(fp:List Nat)(w:World)(hl:l.length<=4000000)(ho:bC w u fp 64 [.row 243 261 l.length (dD l),.val (.int .i64 r)])(hlt:∀ b∈fp,b<w.heap.size) :
  Calls prog 177 (#[u]++#[.int .i64 op,.int .i64 a,.int .i64 b]) w λe w' => gM w u fp 64 e w' (.ret (.int .i64 (l.length:Nat)) [.row 243 261 (l.length+1) (dD l++(cl op a b).bw),.val (.int .i64 r)]):=by
 rw[show dD l++(cl op a b).bw=dD (l++[cl op a b]) by simp[dD]];refine bg (nt:=28) #[.int .i64 op,.int .i64 a,.int .i64 b] [.tmp 8] (by show 2<=7;omega) ho hlt func177 rfl rfl rfl ?_;refine vR Γ0 Zm ?_;refine wR Γ0 Zm ?_ ?_
 ·exact⟨sI,by unfold maxLen;omega,oM,Nd.ej _⟩
 have w1:IntKind.i64.wrap (((l.length+1:Nat):Int)-1)=((l.length:Nat):Int):=wW;refine vR Γ0 (aa Zm w1) ?_;refine wZ Zm ?_;exact⟨_,_,rfl,λE=>rfl,_,_,rfl,(ev (bP Zm @aA @List.map_append.{0,0})),dE⟩
def Ec:ed prog 177 where
 T:=64
 pre:=λW bs fs as_=>match fs,as_ with|[.row 243 261 n vs,.val (.int .i64 r)],[.val (.int .i64 op),.val (.int .i64 a),.val (.int .i64 b)]=>∃ l:List Nd,vs=dD l/\n=l.length/\l.length<=4000000|_,_=>False
 out:=λW fs as_=>match fs,as_ with|[.row 243 261 n vs,.val (.int .i64 r)],[.val (.int .i64 op),.val (.int .i64 a),.val (.int .i64 b)]=>.ret (.int .i64 (n:Nat)) [.row 243 261 (n+1) (vs++(cl op a b).bw),.val (.int .i64 r)]|_,_=>.pan [] undef
 enters:=call177
 ok:=by
  intro W w bs u fp us fs as_ hk ho hlt hmine hu hp;split at hp
  ·rename_i n vs r op a b
   match us,hu with
   |[u0,u1,u2],hu=>
    obtain⟨rfl,rfl,rfl,_⟩:=hu;obtain⟨l,rfl,rfl,hl⟩:=hp;exact ahc l r op a b u fp w hl ho hlt
  ·exact hp.elim
theorem zj(W:World)(n:Nat)(vs:List Value)(r:Int)(op:Int)(a:Int)(b:Int):Ec.out W [.row 243 261 n vs,.val (.int .i64 r)] [.val (.int .i64 op),.val (.int .i64 a),.val (.int .i64 b)]=.ret (.int .i64 (n:Nat)) [.row 243 261 (n+1) (vs++(cl op a b).bw),.val (.int .i64 r)]:=rfl
theorem zy(W:World)(bs:List Nat)(n:Nat)(vs:List Value)(r:Int)(op:Int)(a:Int)(b:Int):Ec.pre W bs [.row 243 261 n vs,.val (.int .i64 r)] [.val (.int .i64 op),.val (.int .i64 a),.val (.int .i64 b)]=(∃ l:List Nd,vs=dD l/\n=l.length/\l.length<=4000000):=rfl
theorem LL:Ec.T=64:=rfl
theorem TB{W w:World}{bs fp:List Nat}(hk:ah W bs w)(h:∀ b∈fp,W.heap.size<=b\/b∈bs):cT W (Out bs) w (Out fp):=λb hb hs=>
 ⟨hk.block b hb hs,λhf=>(h b hf).elim (λg=>by omega) hs⟩
theorem ae3(a b:Nd):dD [a,b]=a.bw++b.bw:=by simp[dD]
abbrev N2 (ar:List Nd)(ao:Option Addr)(c:Nat)(f:FuncId)(v:Value)(t:Rx):Prop:=
 ∀ (l:List Nd) (r:Int) (u:Value) (fp:List Nat) (w:World),l.length+aI t<=4000000->bC w u fp 64 [.row 243 261 l.length (dD l),.val (.int .i64 r)]->(∀ b∈fp,b<w.heap.size)->gO w (Out fp) ao (dD ar) ->
  Calls prog f #[.slice ao ar.length c,v,u] w λe w' => gM w u fp 64 e w' (.ret (.int .i64 ((l.length+aI t-1:Nat):Int)) [.row 243 261 (l.length+aI t) (dD l++dD (eA l.length t)),.val (.int .i64 r)])
def layOut(tv:Value->Rx)(fs as_:List AV):BOut:=match fs,as_ with
 |[.row _ _ n vs,.val r],[_,.val v]=>.ret (.int .i64 ((n+aI (tv v)-1:Nat):Int)) [.row 243 261 (n+aI (tv v)) (vs++dD (eA n (tv v))),.val r]
 |_,_=>.ret undef []
theorem qH(tv:Value->Rx)(T s n:Nat)(vs:List Value)(r v:Value)(x:AV):layOut tv [.row T s n vs,.val r] [x,.val v]=.ret (.int .i64 ((n+aI (tv v)-1:Nat):Int)) [.row 243 261 (n+aI (tv v)) (vs++dD (eA n (tv v))),.val r]:=rfl
def su(ar:List Nd)(ao:Option Addr)(c:Nat)(f:FuncId)(hen:∀ args w,(callFunc f args).run prog w=.ok (.enter f args) w)(dom:Value->Prop)(tv:Value->Rx)(h:∀ v,dom v->N2 ar ao c f v (tv v)):yn prog f where
 T:=64
 pre:=λW bs fs as_=>∃ (l:List Nd) (r:Int) (v:Value),fs=[.row 243 261 l.length (dD l),.val (.int .i64 r)]/\as_=[.val (.slice ao ar.length c),.val v]/\dom v/\l.length+aI (tv v)<=4000000/\gO W (Out bs) ao (dD ar)
 out:=λ_=>layOut tv
 enters:=hen
 ok:=by
  intro W w bs u fp us fs as_ hk ho hlt hmine hu hp;obtain⟨l,r,v,rfl,rfl,hd,hl,hs⟩:=hp
  match us,hu with
  |[x,y],hu=>
   obtain⟨rfl,rfl,_⟩:=hu;exact h _ hd l r u fp w hl ho hlt (hs.mono (TB hk hmine))
section
variable (ar:List Nd)(ao:Option Addr)(c:Nat)(f:FuncId)(hen:∀ args w,(callFunc f args).run prog w=.ok (.enter f args) w)(dom:Value->Prop)(tv:Value->Rx)(h:∀ v,dom v->N2 ar ao c f v (tv v))
theorem E6:(su ar ao c f hen dom tv h).T=64:=rfl
theorem tZ(W:World):(su ar ao c f hen dom tv h).out W=layOut tv:=rfl
theorem tH(W:World)(bs:List Nat)(T s n:Nat)(vs:List Value)(r:Int)(v:Value):(su ar ao c f hen dom tv h).pre W bs [.row T s n vs,.val (.int .i64 r)] [.val (.slice ao ar.length c),.val v] =
  (T=243/\s=261/\(∃ l:List Nd,vs=dD l/\n=l.length)/\dom v/\n+aI (tv v)<=4000000/\gO W (Out bs) ao (dD ar)):=by
 apply propext;constructor
 ·rintro⟨l,r',v',h1,h2,h3,h4,h5⟩;simp only[List.cons.injEq,AV.row.injEq,AV.val.injEq,and_true]at h1 h2;obtain⟨⟨rfl,rfl,rfl,rfl⟩,_⟩:=h1;obtain⟨_,rfl⟩:=h2;exact⟨rfl,rfl,⟨l,rfl,rfl⟩,h3,h4,h5⟩
 ·rintro⟨rfl,rfl,⟨l,rfl,rfl⟩,h3,h4,h5⟩;exact⟨l,r,v,rfl,rfl,h3,h4,h5⟩
end
def UX(ts:List RT)(v:Value):Rx:=match v with
 |.int _ x=>(ts.getD x.toNat .eps).expand
 |_=>.eps
theorem yl(ts:List RT)(k:IntKind)(x:Int):UX ts (.int k x)=(ts.getD x.toNat .eps).expand:=rfl
def Uj(ts:List RT)(v:Value):Rx:=.alt (UX ts v) .eps
def below(n:Nat)(v:Value):Prop:=∃ x:Int,v=.int .i64 x/\0<=x/\x<n
theorem qN(n:Nat)(x:Int):below n (.int .i64 x)=(0<=x/\x<n):=by
 apply propext;constructor
 ·rintro⟨y,h,h1,h2⟩;simp only[Value.int.injEq,true_and]at h;subst h;exact⟨h1,h2⟩
 ·exact λh=>⟨x,rfl,h⟩
abbrev jZ (ar:List Nd)(ts:List RT)(ao:Option Addr)(c n:Nat):Prop:=∀ v,below n v->N2 ar ao c 124 v (UX ts v)
abbrev Se (ar:List Nd)(ts:List RT)(ao:Option Addr)(c n:Nat):Prop:=∀ v,below n v->N2 ar ao c 215 v (Uj ts v)
section
variable (ar:List Nd)(ts:List RT)(ao:Option Addr)(c n:Nat)
noncomputable def Γ68(h:jZ ar ts ao c n):Env prog:=⟨λ| 124=>some (su ar ao c 124 call124 (below n) (UX ts) h).spec|177=>some Ec.spec|_=>none,λ_=>none,λ_ _=>none⟩
theorem adf(h:jZ ar ts ao c n):(Γ68 ar ts ao c n h).sp 124=some (su ar ao c 124 call124 (below n) (UX ts) h).spec:=rfl
theorem afn(h:jZ ar ts ao c n):(Γ68 ar ts ao c n h).sp 177=some Ec.spec:=rfl
def S4:=(aj gR ck cf b9 b8 xi vU (aj xj tK yX AW Aa Al A5 (aj AB sK wP wU sF vY wV (aj xn vW wA wO w6 I6 HK (aj GF Kc Ji @aG @al @ax @aw (aj @zj @zy @LL @E6 @tZ @tH @qH (eS @qN @yl @adf @afn)))))))
theorem Oo(hg:jZ ar ts ao c n):Se ar ts ao c n:=by
 rintro _ ⟨x,rfl,hx⟩ l r u fp w hl ho hlt hs;have hrs:aI (Uj ts (.int .i64 x))=aI (ts.getD x.toNat .eps).expand+1+1:=rfl
 have hla:∀ m,eA m (Uj ts (.int .i64 x))=eA m (ts.getD x.toNat .eps).expand++([cl 0 0 0]++[cl 3 ((m+aI (ts.getD x.toNat .eps).expand-1:Nat):Int) ((m+aI (ts.getD x.toNat .eps).expand+1-1:Nat):Int)]):=λm=>rfl
 rw[hla,hrs];rw[hrs]at hl;have hT:=gp (ts.getD x.toNat .eps).expand l.length;refine mF (nt:=19) _ _ [.tmp 6] (by show 2<=7;omega) ho hlt func215 rfl rfl rfl ?_;refine vR Γ0 S4 ?_;refine wR (Γ68 ar ts ao c n hg) S4 ?_ ?_
 ·exact⟨⟨⟨l,rfl,rfl⟩,hx,oM,hs⟩,dE,sI⟩
 generalize (ts.getD x.toNat .eps).expand=T at *;refine wR (Γ68 ar ts ao c n hg) S4 ?_ ?_
 ·exact⟨⟨l++eA l.length T,by rw[bQ],by rw[List.length_append,hT],by rw[List.length_append,hT];omega⟩,dE,sI⟩
 refine wR (Γ68 ar ts ao c n hg) S4 ?_ ?_
 ·exact⟨⟨l++eA l.length T++[cl 0 0 0],by rw[bQ,bQ,mn],by rw[List.length_append,List.length_append,hT];rfl,by rw[List.length_append,List.length_append,hT,List.length_singleton];omega⟩,dE,sI⟩
 refine wZ S4 ?_;have e:(l.length+(aI T+1+1)-1:Nat)=l.length+aI T+1:=oM;have e2:(l.length+aI T+1-1:Nat)=l.length+aI T:=oM;have e3:l.length+(aI T+1+1)=l.length+aI T+1+1:=oM;rw[e,e2,e3,bQ,ae3,<- List.append_assoc,<- List.append_assoc];exact⟨_,_,rfl,λE=>rfl,_,_,rfl,(ev (aa S4 @aA)),dE⟩
end
end
end Go.Proofs.YtnemkecffmdlnaaGreatDoor
