/-
 TermReadsCardSaid: TermReads returns true for every text, and leaves it as it was; the listed tables are tied to the program's text.
-/
import Derived.Test.YtnemkecffmdlnaaGreatDoorZ7
import Derived.Test.YtnemkecffmdlnaaGreatDoorRows
import Derived.JoinedCond
import Derived.Shelf.Vars
import Derived.Test.YtnemkecffmdlnaaGreatDoorCards
import Derived.Test.YtnemkecffmdlnaaGreatDoorZT
set_option linter.unusedSimpArgs false
set_option linter.unusedVariables false
set_option linter.defProp false
set_option maxHeartbeats 16000000
noncomputable section
namespace Go.Proofs.YtnemkecffmdlnaaGreatDoor
section
open Go Go.RowKit Go.LE
set_option maxRecDepth 10000
variable{p:Int}{σ:bc}{W:ar}{ai:List cF}{cs:aX}{i:Nat}
def xj(k:Nat)(op:ao)(p a b:Int):cF:={ hU k op p with a:=a,b:=b }
section
variable (d:cF)(n r:aM)(σ:bc)(cs:aX)(rt:Int)
abbrev SZ:Env Tryz.prog:=a7 KI.spec (a7 ((OG d n r σ cs rt).spec) aa)
end
def xk:Value:=.slice none 0 0
def oN:Value:=.int .i64 0
def Ad(k:Nat)(op:ao)(p a b:Int)(σ:bc):List Value:=fb { xj k op p a b with aw:=qn (xj k op p a b) σ.ai } xk oN
def Dn{S:aY}{k:Nat}{op:ao}{p a b:Int}(h:fq W S cs σ.ai):fq W S (cs++Ad k op p a b σ) (pe k op p a b σ).2.ai:=.snoc _ _ _ _ _ h ⟨rfl,rfl⟩
def xl:=(hV ez @b5.cO.eq_1 @KI.eq_1 @OG.eq_1 @kP.eq_1 @fb.eq_1 @HZ.eq_1)
def Y3(k:Nat)(op:ao)(p a b:Int)(σ:bc)(cs:aX)(rt:Int)(u:aM)(fp:aD)(w:ar)(bW:tK (xj k op p a b) σ.ai)(jn:fq w (Out fp) cs σ.ai)(H:eH w u fp 59 (kP σ cs rt))(ax:∀b∈fp,b<w.heap.size) :
  Calls Tryz.prog 93 (#[u]++#[.int .i64 (k:Nat),.string op,.int .i64 p,.int .i64 a,.int .i64 b]) w λx M=>h0 w u fp 59 x M (.ret (.int .i64 (σ.ai.length:Nat)) (kP (pe k op p a b σ).2 (cs++Ad k op p a b σ) rt)):=by
 refine jP (nt:=25) [.tmp 12] H ax Tryz.func93 ?_;refine aA aa xl ?_;refine aL (SZ (xj k op p a b) xk oN σ cs rt) xl ?_ ?_
 ·exact⟨_,_,_,rfl⟩
 refine aA aa xl ?_;refine aL (SZ (xj k op p a b) xk oN σ cs rt) xl ?_ ?_
 ·exact⟨⟨rfl,bW,⟨rfl,rfl⟩,jn⟩,aq,λ_ h=>h.elim⟩
 refine bf xl ?_;exact eC (aT xl @oz @bQ)
abbrev Y4 (k:Nat)(op:ao)(p a b:Int)(σ:bc)(cs:aX)(rt:Int):iO Tryz.prog 93:=AP 59 (λW bs=>tK (xj k op p a b) σ.ai/\fq W (Out bs) cs σ.ai) Tryz.call93 λW w bs u fp ad hp H ax fi=>Y3 k op p a b σ cs rt u fp w hp.1 (hp.2.mono (JI ad fi)) H ax
def pg{G:aY}{bs:aD}:bT W (bw G bs) W (Out bs):=λb _ h=>⟨rfl,h.2⟩
def tL(ai:List cF):Fp ai (-1):=⟨Lg _,U,by show 0<=100000;omega⟩
def H2(p:Int)(t:bm):cF:={ hU 2 ⟨#[]⟩ p with cO:=some t }
def aBz(p:Int){t:bm}(h:ai.length<1000000)(aV:aG t<=100000):tK (H2 p t) ai:=⟨h,ef _,aV,⟨uU rfl,uU rfl⟩,(λ_ h=>by cases h),tL ai,tL ai,tL ai⟩
def aBA(p:Int)(t:bm)(n r:aM)(σ:bc)(cs:aX)(rt:Int)(u:aM)(fp:aD)(w:ar)(S:aY)(aN:σ.ai.length<1000000)(aV:aG t<=100000)(hj:qV w S n r (some t))(jn:fq w S cs σ.ai)(H:eH w u fp 59 (kP σ cs rt))(ax:∀b∈fp,b<w.heap.size)(bp:∀b∈fp,¬S b) :
  Calls Tryz.prog 92 (#[u]++#[.int .i64 p,.agg #[n,r]]) w λx M=>sx w S u fp 59 x M (.fact (b5.sv (.int .i64 (σ.ai.length:Nat))) (YF (xh p t σ).2.ai) (Fg (xh p t σ).2 rt)):=by
 have Y5:=hj.mono (aP.ep w S fp bp);have nH:=jn.mono (aP.ep w S fp bp);have ft:fq w (bw (aP w S fp) fp) (cs++fb { H2 p t with aw:=qn (H2 p t) σ.ai } n r) (xh p t σ).2.ai:=.snoc _ _ _ _ _ nH Y5;refine nm (nt:=15) S [.tmp 6] H ax Tryz.func92 ?_;refine aA aa xl ?_
 refine aL (SZ (H2 p t) n r σ cs rt) xl ?_ ?_
 ·exact⟨_,_,_,rfl⟩
 refine aL aa xl ?_ ?_
 ·exact Y5.zg
 refine aL (SZ (H2 p t) n r σ cs rt) xl ?_ ?_
 ·exact⟨⟨rfl,aBz p aN aV,Y5.mono pg,nH.mono pg⟩,aq,λ_ h=>h.elim⟩
 refine bf (de xl @bZ.eq_1 @bZ.eq_2 @bZ.eq_3 @lH) ?_;exact⟨cs++fb { H2 p t with aw:=qn (H2 p t) σ.ai } n r,⟨λE=>rfl,lI ft,ft⟩,_,_,rfl,(aJ (aT xl @oz @bQ)),aq⟩
abbrev ai8 (p:Int)(t:bm)(σ:bc)(cs:aX)(rt:Int):vl Tryz.prog 92 where
 T:=59
 kinds:=[none,some (b5.cO,xi (some t))]
 pre:=λfs aj W S=>(fs=kP σ cs rt/\aj=[.val (.int .i64 p),.val undef])/\fq W S cs σ.ai/\σ.ai.length<1000000/\aG t<=100000
 gA:=λ_ _ _ _ _ _ V h=>⟨h.1,h.2.1.mono V,h.2.2⟩
 dC:=λ_ _ _=>True
 rT:=λ_ _ _ _ _ _ _=>trivial
 out:=λfs aj=>.fact (b5.sv (.int .i64 (σ.ai.length:Nat))) (YF (xh p t σ).2.ai) (Fg (xh p t σ).2 rt)
 enters:=Tryz.call92
 ok:=by
  intro w S u fp us fs aj H ax bp aK hp _ _;obtain⟨⟨rfl,rfl⟩,D,O,B⟩:=hp
  match us,aK with
  |[x,y],aK=>
   obtain⟨rfl,⟨q7,rfl,n,r,rfl,au⟩,_⟩:=aK;have he:b5.cO.val [n,r]=.agg #[n,r]:=by show Value.agg #[LE.au n,LE.au r]=_;rw[au.one.1,au.one.2]
   rw[he];exact aBA p t n r σ cs rt u fp w S O B au D H ax bp
def Fq(ai:List cF)(a:Nat):Option bm:=if(b9 ai a).k=1 then some (r7 (b9 ai a).t) else(b9 ai a).cO
def H3(ai:List cF)(a:Nat):Bool:=decide ((b9 ai a).k=1\/(b9 ai a).k=2)
def b5.Y6(b:Bool):b5:=⟨λk=>.iK [.agg [.part k 0,.part k 1],.v (.bool b)],λ_ _=>rfl,λk j Y=>by simpa [ag.keys,cP] using Y⟩
def KO(σ:bc)(cs:aX)(rt:Int):List hZ:=[.eg (.row 66 11 σ.ai.length cs),.eg (.val (.int .i64 rt)),.eg (.val (.int .i64 σ.a8)),.eg (.val (.int .i64 σ.at_))]
theorem ai9(σ:bc)(cs q7:List Value)(rt:Int):px q7 (KO σ cs rt)=kP σ cs rt:=rfl
def aja{cs q7:List Value}{rt:Int}(h:∀c∈q7,LE.au c=c):IU q7 (KO σ cs rt):=by refine .inr ⟨λx aB=>?_,h⟩;simp only[KO,gG,tS,uX]at aB;rcases aB with rfl|rfl|rfl|rfl<;>trivial
section
variable (G:aY)(s:ao)
abbrev aBB:Env Tryz.prog:=a7 ((HZ s).spec G) aa
end
def aBC{x y:aM}(h:cs[i]?=some x)(g:cs[i+1]?=some y):List.take 2 (List.drop i (List.map ag.v cs))=[.v x,.v y]:=by obtain⟨D,O⟩:=kC.1 h;obtain⟨g1,g2⟩:=kC.1 g;rw[Dw (aC D),Dw (aC g1)];simp[O,g2]
def BG:=xl
def aBD(a:Nat)(σ:bc)(cs:aX)(rt:Int)(u:aM)(fp:aD)(w:ar)(S:aY)(aQ:a<σ.ai.length)(Dp:(b9 σ.ai a).k=1->(b9 σ.ai a).t.size<=4096)(jn:fq w S cs σ.ai)(H:eH w u fp 59 (kP σ cs rt))(ax:∀b∈fp,b<w.heap.size)(bp:∀b∈fp,¬S b) :
  Calls Tryz.prog 151 (#[u]++#[.int .i64 (a:Nat)]) w λx M=>sx w S u fp 59 x M (.fact (b5.Y6 (H3 σ.ai a)) (xi (Fq σ.ai a)) (KO σ cs rt)):=by
 have cf:=aP.up w S fp;have nH:=jn.mono (aP.ep w S fp bp);have hlen:=nH.len;obtain⟨n,r,hj,q⟩:=nH.get a aQ;have eN:=uP (q 0 U);have ji:=uP (q 3 U);have tq:=uP (q 4 U);have uB:=uP (q 5 U);rw[tT]at eN;have aBE:=aBC (q 3 U) (q 4 U)
 refine nm (nt:=41) S [.cell 4 64,.tmp 5] H ax Tryz.func151 ?_;refine bk aa BG ?_;refine aL aa (I BG eN) ?_ ?_
 ·exact⟨⟨U,U⟩,by rw[lL];omega⟩
 refine bC BG ?_ ?_<;>intro J
 ·have D:(b9 σ.ai a).k=1:=bt J
  have bg:Fq σ.ai a=some (r7 (b9 σ.ai a).t):=al D;have bN:H3 σ.ai a=true:=nJ (.inl D);rw[bg,bN];refine aL (aBB (aP w S fp) (b9 σ.ai a).t) (I BG uB) ?_ ?_
  ·exact⟨⟨U,U⟩,by rw[lL];omega,by rw[lL];omega,Dp D,cf⟩
  refine ae.dt 160 (aJ BG) (bT.refl _ _) λcy ck hn bD la=>?_
  obtain⟨dE,cR,rfl,dP⟩:=la;obtain⟨g1,g2⟩:=dP.one;refine bf (hV BG @bZ.eq_1 @bZ.eq_2 @bZ.eq_3 @ai9 g1 g2) ?_
  exact⟨[dE,cR],⟨λE=>by show Value.tuple #[.agg #[dE,cR],.bool true]=Value.tuple #[.agg #[LE.au dE,LE.au cR],.bool true];rw[g1,g2],aja (by intro c J;simp at J;rcases J with rfl|rfl;exact g1;exact g2),dE,cR,rfl,dP⟩,_,_,rfl,(aJ (I BG @bQ)),aq⟩
 ·have D:¬(b9 σ.ai a).k=1:=bt J
  have bg:Fq σ.ai a=(b9 σ.ai a).cO:=ab D;have bN:H3 σ.ai a=decide ((((b9 σ.ai a).k:Nat):Int)=2):=by unfold H3;rw[uV];omega
  rw[bg,bN];refine a1 ?_;refine dh aa (aT BG eN aBE) ?_ ?_
  ·have L:a*11<(List.map ag.v cs).length:=by rw[lL];omega
   exact⟨⟨U,U⟩,L,by rw[lL];omega,⟨U,U⟩,L,L,hj.zg⟩
  refine AN ?_;obtain⟨g1,g2⟩:=hj.one;refine jQ (hV BG @bZ.eq_1 @bZ.eq_2 @bZ.eq_3 @ai9 g1 g2) ?_
  exact⟨[n,r],⟨λE=>by show Value.tuple #[.agg #[n,r],_]=Value.tuple #[.agg #[LE.au n,LE.au r],_];rw[g1,g2];rfl,aja (by intro c J;simp at J;rcases J with rfl|rfl;exact g1;exact g2),n,r,rfl,hj⟩,_,_,rfl,(aJ (I BG @bQ)),aq⟩
abbrev ajb (a:Nat)(σ:bc)(cs:aX)(rt:Int):vl Tryz.prog 151 where
 T:=59
 kinds:=[none]
 pre:=λfs aj W S=>(fs=kP σ cs rt/\aj=[.val (.int .i64 (a:Nat))])/\fq W S cs σ.ai/\a<σ.ai.length/\((b9 σ.ai a).k=1->(b9 σ.ai a).t.size<=4096)
 gA:=λ_ _ _ _ _ _ V h=>⟨h.1,h.2.1.mono V,h.2.2⟩
 dC:=λ_ _ _=>True
 rT:=λ_ _ _ _ _ _ _=>trivial
 out:=λfs aj=>.fact (b5.Y6 (H3 σ.ai a)) (xi (Fq σ.ai a)) (KO σ cs rt)
 enters:=Tryz.call151
 ok:=by
  intro w S u fp us fs aj H ax bp aK hp _ _;obtain⟨⟨rfl,rfl⟩,D,O,B⟩:=hp
  match us,aK with
  |[x],aK=>obtain⟨rfl,_⟩:=aK;exact aBD a σ cs rt u fp w S O B D H ax bp
def v7{K:Nat}{S:aY}(h:fq W S cs ai):nk K (nj cs) (AJ K (ai.length*11))=cs.map .v:=by rw[<- h.len];exact afF h.au
def iA(q:Nat×bc)(rt:Int):j7:=.fact (b5.sv (.int .i64 (q.1:Nat))) (YF q.2.ai) (Fg q.2 rt)
def en.cO{t:cl}(g:en ai t i)(V:l3 t):i<ai.length/\((b9 ai i).k=1->(b9 ai i).t.size<=4096)/\H3 ai i=(fa t).isSome/\(∀n,fa t=some n->Fq ai i=some n/\aG n<=8192):=by
 obtain⟨D,O,B,_⟩:=g.aH;refine⟨D,λad=>?_,?_,λn aE=>?_⟩
 ·cases t with
  |text p s=>rw[g.cx];exact V.1.2
  |rx=>rw[B]at ad;cases ad
  |canon=>rw[B]at ad;cases ad
  |lens=>rw[B]at ad;cases ad
 ·unfold H3;rw[B];cases t<;>rfl
 ·cases t with
  |text p s=>
   cases aE;refine⟨?_,?_⟩
   ·unfold Fq;rw[B,g.cx];rfl
   ·have:fJ s<=8192:=V.2;rw[YY];exact this
  |rx p r=>cases aE;refine⟨?_,V.2⟩;obtain⟨d,e8,dz,kn,om,_⟩:=g;unfold Fq;rw[B,Ab e8,om];rfl
  |canon=>cases aE
  |lens=>cases aE
section
variable (G:aY)(σ:bc)(cs:aX)(rt:Int)
abbrev yE(a:Nat):Env Tryz.prog:=a7 ((ajb a σ cs rt).spec G) (a7 ((SF σ cs rt).spec) aa)
abbrev ajc(x:bm):Env Tryz.prog:=a7 ((ai3 x).spec G) (a7 ((HZ ⟨#[]⟩).spec G) aa)
abbrev Fs(op:Int)(x y:bm)(p:Int)(t:bm):Env Tryz.prog:=a7 ((ai4 op x y).spec G) (a7 ((HZ ⟨#[]⟩).spec G) (a7 ((ai8 p t σ cs rt).spec G) aa))
abbrev ajd(d:cF)(n r:aM)(k:Nat)(op:ao)(p a b:Int)(cd:bc)(q7:List Value):Env Tryz.prog:=a7 KI.spec (a7 ((OG d n r σ cs rt).spec) (a7 ((Y4 k op p a b cd q7 rt).spec) aa))
abbrev aje (p a:Int):iO Tryz.prog 93 where
 T:=59
 pre:=λW bs fs aj=>((fs=kP σ cs rt/\aj=[.val (.int .i64 4),.val (.string eD),.val (.int .i64 p),.val (.int .i64 a),.val (.int .i64 (-1))])/\tK (xj 4 eD p a (-1)) σ.ai/\fq W (Out bs) cs σ.ai) \/
  ((fs=kP (pe 4 eD p a (-1) σ).2 (cs++Ad 4 eD p a (-1) σ) rt/\aj=[.val (.int .i64 4),.val (.string l1),.val (.int .i64 p),.val (.int .i64 a),.val (.int .i64 (σ.ai.length:Nat))])/\tK (xj 4 l1 p a (σ.ai.length:Nat)) (pe 4 eD p a (-1) σ).2.ai/\fq W (Out bs) (cs++Ad 4 eD p a (-1) σ) (pe 4 eD p a (-1) σ).2.ai)
 out:=λ_ _ aj=>match aj with
  |[_,.val (.string op),_,_,_]=>if op=eD then .ret (.int .i64 (σ.ai.length:Nat)) (kP (pe 4 eD p a (-1) σ).2 (cs++Ad 4 eD p a (-1) σ) rt)
   else .ret (.int .i64 ((pe 4 eD p a (-1) σ).2.ai.length:Nat)) (kP (pe 4 l1 p a (σ.ai.length:Nat) (pe 4 eD p a (-1) σ).2).2 (cs++Ad 4 eD p a (-1) σ++Ad 4 l1 p a (σ.ai.length:Nat) (pe 4 eD p a (-1) σ).2) rt)
  |_=>.b7 [] undef
 enters:=Tryz.call93
 ok:=by
  intro W w bs u fp us fs aj ad H ax fi hu hp;rcases hp with⟨⟨rfl,rfl⟩,D,O⟩|⟨⟨rfl,rfl⟩,D,O⟩
  ·match us,hu with
   |[ee,fh,gO,Hp,Kz],hu=>obtain⟨rfl,rfl,rfl,rfl,rfl,_⟩:=hu;exact Y3 4 eD p a (-1) σ cs rt u fp w D (O.mono (JI ad fi)) H ax
  ·match us,hu with
   |[ee,fh,gO,Hp,Kz],hu=>obtain⟨rfl,rfl,rfl,rfl,rfl,_⟩:=hu;exact Y3 4 l1 p a (σ.ai.length:Nat) _ _ rt u fp w D (O.mono (JI ad fi)) H ax
abbrev aBF(p a:Int):Env Tryz.prog:=a7 ((aje σ cs rt p a).spec) aa
abbrev KP(k:Nat)(op:ao)(p a b:Int):Env Tryz.prog:=a7 ((Y4 k op p a b σ cs rt).spec) aa
end
def Ft(p:Int):cF:={ hU 4 iX p with cO:=some .bV }
theorem v8(e p:Int)(σ:bc):(cY e p σ).ai=σ.ai:=by unfold cY;split<;>rfl
def en.iz{t:cl}(g:en ai t i)(h:dK t<=100000):Fp ai (i:Nat):=by obtain⟨D,_,_,_,bn,_⟩:=g.aH;exact⟨U,U,by rw[kA,al U,kR,bn];exact h⟩
def KQ{k:Nat}{op:ao}{p a b:Int}(h:ai.length<1000000)(ad:k=3\/k=4)(aQ:Fp ai a)(Z:Fp ai b):tK (xj k op p a b) ai:=⟨h,ef _,ef _,⟨by show 1<=k;omega,by show k<=4;omega⟩,(λh=>by have h:k=2:=h;omega),aQ,Z,tL _⟩
def OH:=(aT (ch ez @w2 @yj @b5.cO.eq_1 @b5.Y6.eq_1 @KI.eq_1 @OG.eq_1 @Y4.eq_1) (ch @ai8.eq_1 @ajb.eq_1 @ai3.eq_1 @ai4.eq_1 @HZ.eq_1 @SF.eq_1 @kP.eq_1 @Fg.eq_1) (aT @KO.eq_1 @fb.eq_1 @b5.sv.eq_1))
def ho:=(I OH @aje.eq_1)
def aBG(p:Nat)(op:ao)(dC:dj)(sV im:Nat)(t:cl)(a:Nat)(σ:bc)(cs:aX)(rt:Int)(u:aM)(fp:aD)(w:ar)(S:aY)(tM:σ.a8=0)(bJ:en σ.ai t a)(V:l3 t)(aN:σ.ai.length<900000)(jn:fq w S cs σ.ai)(H:eH w u fp 59 (kP σ cs rt))(ax:∀b∈fp,b<w.heap.size)(bp:∀b∈fp,¬S b) :
  Calls Tryz.prog 94 (#[u]++#[.agg #[.int .i64 6,.int .i64 (p:Nat),.string op,.slice dC sV im],.int .i64 (a:Nat)]) w λx M=>sx w S u fp 59 x M (iA (BE (p:Nat) op a σ) rt):=by
 have cf:=aP.up w S fp;have nH:=jn.mono (aP.ep w S fp bp);obtain⟨aQ,Dp,gj,ta⟩:=bJ.cO V;have bg:(⟨#[42]⟩:ao)=ny:=rfl;have bN:(⟨#[43]⟩:ao)=pK:=rfl;unfold BE;rw[bJ.as];refine nm (nt:=96) S [.tmp 6] H ax Tryz.func94 ?_;refine aA aa ho ?_
 refine aL (yE (aP w S fp) σ cs rt a) (I ho gj) ?_ ?_
 ·exact⟨⟨nH,aQ,Dp⟩,aq,(λ_ h=>h.elim),cf⟩
 refine ae.dt 47 (aJ ho) (bT.refl _ _) λcy ck hn bD la=>?_
 obtain⟨dE,cR,rfl,dP⟩:=la;obtain⟨g1,g2⟩:=dP.one;have kQ:=nH.mono bD.cc;have cT:=cf.ext bD;cases aE:fa t with
 |some n=>
  obtain⟨Y7,bx⟩:=ta n aE;rw[Y7]at dP;refine bk aa ho ?_;refine bC ho ?_ ?_<;>intro J
  rotate_left
  ·exact absurd J aq
  clear J;refine aL (ajc (aP w S fp) n) (aT ho g1 g2) ?_ ?_
  ·exact⟨⟨tJ dP,U⟩,cT⟩
  refine ae.dt 120 (aJ ho) (bT.refl _ _) λcL c7 h9 cq hg=>?_
  obtain⟨eY,cE,rfl,gY⟩:=hg;obtain⟨g3,g4⟩:=gY.one;have ha:=kQ.mono cq.cc;have eO:=cT.ext cq;have ajf:=dP.mono cq.cc;have J0:aG (.star n)<=100000:=by show aG n+1<=100000;omega
  refine bk aa (b3 ho bg g3 g4) ?_;refine bC ho ?_ ?_<;>intro J
  ·have D:op=ny:=aC J
   have dY:KL op n=.star n:=al D;dsimp only;rw[dY];refine aL (Fs (aP w S fp) σ cs rt 2 n n p (.star n)) (aT ho g3 g4) ?_ ?_
   ·exact⟨⟨tJ gY,ha,U,J0⟩,aq,(λ_ h=>h.elim),eO⟩
   refine ae.dt 207 (aJ ho) (bT.refl _ _) λe0 eu n7 du e1=>?_
   have eQ:=v7 (K:=207) e1;refine bf (hV ho @bZ.eq_1 @bZ.eq_2 @bZ.eq_3 @iA.eq_1 @lH eQ) ?_;exact⟨n7,⟨λE=>rfl,lI (by exact e1),by exact e1⟩,_,_,rfl,(aJ (aT ho @bQ eQ)),aq⟩
  have D:¬op=ny:=aC J
  clear J;refine dL aa (I ho bN) ?_;refine bC ho ?_ ?_<;>intro J
  ·have O:op=pK:=aC J
   have dY:KL op n=.cat n (.star n):=by unfold KL;rw[ab D,al O]
   have uQ:aG (.cat n (.star n))<=100000:=by show aG n+(aG n+1)+1<=100000;omega
   dsimp only;rw[dY];refine dh (Fs (aP w S fp) σ cs rt 2 n (.star n) p (.cat n (.star n))) (de ho g1 g2 g3 g4) ?_ ?_
   ·exact⟨⟨⟨⟨tJ ajf,tJ gY⟩,U,J0⟩,eO⟩,⟨rfl,ha,U,uQ⟩,aq,aq,eO⟩
   refine ae.dt 247 (aJ ho) (bT.refl _ _) λe0 eu n7 du e1=>?_
   have eQ:=v7 (K:=247) e1;refine bf (hV ho @bZ.eq_1 @bZ.eq_2 @bZ.eq_3 @iA.eq_1 @lH eQ) ?_;exact⟨n7,⟨λE=>rfl,lI (by exact e1),by exact e1⟩,_,_,rfl,(aJ (aT ho @bQ eQ)),aq⟩
  have O:¬op=pK:=aC J
  clear J;have dY:KL op n=.alt n .bV:=by unfold KL;rw[ab D,ab O]
  have uQ:aG (.alt n .bV)<=100000:=by show aG n+1+1<=100000;omega
  dsimp only;rw[dY];refine a1 ?_;refine dh (Fs (aP w S fp) σ cs rt 3 n .bV p (.alt n .bV)) (aT ho g1 g2) ?_ ?_
  ·exact⟨⟨aq,eO⟩,⟨⟨⟨tJ ajf,rfl⟩,.inr trivial,U,aq⟩,eO⟩,⟨rfl,ha,U,uQ⟩,aq,aq,eO⟩
  refine ae.dt 247 (aJ ho) (bT.refl _ _) λe0 eu n7 du e1=>?_
  have eQ:=v7 (K:=247) e1;refine bf (hV ho @bZ.eq_1 @bZ.eq_2 @bZ.eq_3 @iA.eq_1 @lH eQ) ?_;exact⟨n7,⟨λE=>rfl,lI (by exact e1),by exact e1⟩,_,_,rfl,(aJ (aT ho @bQ eQ)),aq⟩
 |none=>
  have ad:(b9 σ.ai a).k=k7 t:=bJ.aH.2.2.1;obtain⟨ek,eW,_,q⟩:=kQ.get a aQ;have eN:=uP (q 0 U);rw[tT]at eN;have hlen:=kQ.len;have L:a*11<(List.map ag.v cs).length:=by rw[lL];omega
  have bP:=bJ.aH.2.2.2.2.1;have ajg:Fp σ.ai (a:Nat):=bJ.iz (by have:=V.2;omega);have ajh:3<=(b9 σ.ai a).k/\(b9 σ.ai a).k<=4:=by
   rw[ad];cases t with
   |text=>cases aE
   |rx=>cases aE
   |canon=>exact⟨uU rfl,uU rfl⟩
   |lens=>exact⟨uU rfl,uU rfl⟩
  dsimp only;refine bk aa ho ?_;refine bC ho ?_ ?_<;>intro J
  ·exact absurd J aq
  clear J;refine a1 ?_;refine aL aa (I ho eN) ?_ ?_
  ·exact⟨⟨U,U⟩,L⟩
  refine bk aa (I ho bg) ?_;refine bC ho ?_ ?_<;>intro J
  ·have D:op=ny:=aC J
   have bW:tK (xj (b9 σ.ai a).k eD p (a:Nat) (-1)) σ.ai:=KQ U U ajg (tL _);rw[al D];refine aL (KP σ cs rt (b9 σ.ai a).k eD p (a:Nat) (-1)) ho ?_ ?_
   ·exact⟨⟨rfl,bW,kQ.mono pg⟩,aq,λ_ h=>h.elim⟩
   refine bf (eI ho @bZ.eq_1 @bZ.eq_2 @bZ.eq_3 @iA.eq_1 @lH) ?_;have ft:=Dn (k:=(b9 σ.ai a).k) (op:=eD) (p:=p) (a:=(a:Nat)) (b:=-1) kQ;exact⟨cs++Ad (b9 σ.ai a).k eD p (a:Nat) (-1) σ,⟨λE=>rfl,lI (by exact ft),by exact ft⟩,_,_,rfl,(aJ (aT ho @oz @bQ)),aq⟩
  have D:¬op=ny:=aC J
  clear J;rw[ab D];refine a1 ?_;refine ae.seq ?_;refine aR aa ho ?_ ?_<;>intro J
  ·have aU:¬(b9 σ.ai a).k=4:=bt J
   rw[ab aU];refine aL (yE (aP w S fp) σ cs rt a) ho ?_ ?_
   ·exact⟨⟨_,_,rfl⟩,aq,λ_ h=>h.elim⟩
   refine AN ?_;have ft:fq cy (bw (aP w S fp) ck) cs (cY 72 (p:Nat) σ).ai:=by rw[v8];exact kQ
   refine jQ (eI ho @bZ.eq_1 @bZ.eq_2 @bZ.eq_3 @iA.eq_1 @lH) ?_;exact⟨cs,⟨λE=>rfl,lI (by exact ft),by exact ft⟩,_,_,rfl,(aJ (I ho @bQ)),aq⟩
  have aU:(b9 σ.ai a).k=4:=bt J
  clear J;rw[al aU];obtain⟨l,rfl⟩:∃l,t=.lens l:=by
   cases t with
   |text=>cases aE
   |rx=>cases aE
   |canon c=>rw[ad]at aU;cases aU
   |lens l=>exact⟨l,rfl⟩
  have aEI:hz l<=8192:=V.2;refine dL aa (I ho bN) ?_;refine bC ho ?_ ?_<;>intro J
  ·have O:op=pK:=aC J
   rw[al O];have CI:=uL (p:=p) (op:=eD) (n:=none) (cx:=⟨#[]⟩) (d:={ hU 4 eD (p:Nat) with a:=(a:Nat),b:=-1 }) (y:=.nil) (q:=.nil) tM ⟨rfl,rfl,rfl,rfl,rfl⟩ rfl bJ.2 rfl aq;obtain⟨_,mr,mR⟩:=CI;have eL:(l1=eD)=False:=DE aq
   have bW:=KQ (k:=4) (op:=eD) (p:=(p:Nat)) (show σ.ai.length<1000000 by omega) (.inr rfl) ajg (tL σ.ai)
   have KR:tK (xj 4 l1 (p:Nat) (a:Nat) (σ.ai.length:Nat)) (pe 4 eD (p:Nat) (a:Nat) (-1) σ).2.ai:=KQ (by show(kB _ σ).2.ai.length<1000000;rw[H0];omega) (.inr rfl) ((bJ.pre mr).iz (by have:=V.2;omega)) (mR.iz (by
    show 1+eA none+fO .nil+hz l+hz .nil+(if eD=fX then fJ ⟨#[]⟩ else 0)<=100000
    rw[ab aq]
    show 1+0+0+hz l+0+0<=100000
    omega))
   have ha:=Dn (k:=4) (op:=eD) (p:=(p:Nat)) (a:=(a:Nat)) (b:=-1) kQ;have dQ:(⟨#[115,116,97,114]⟩:ao)=eD:=rfl;have h1:(⟨#[99,97,116]⟩:ao)=l1:=rfl;refine dh (aBF σ cs rt (p:Nat) (a:Nat)) (b3 ho dQ h1 eL) ?_ ?_
   ·refine⟨⟨.inl ⟨bW,kQ.mono pg⟩,aq,λ_ h=>h.elim⟩,.inr ?_,aq,λ_ h=>h.elim⟩
    first|exact⟨⟨rfl,rfl⟩,KR,ha.mono pg⟩|exact⟨rfl,KR,ha.mono pg⟩|exact⟨KR,ha.mono pg⟩
   have ft:=Dn (k:=4) (op:=l1) (p:=(p:Nat)) (a:=(a:Nat)) (b:=(σ.ai.length:Nat)) ha;refine bf (eI ho @bZ.eq_1 @bZ.eq_2 @bZ.eq_3 @iA.eq_1 @lH) ?_
   exact⟨cs++Ad 4 eD (p:Nat) (a:Nat) (-1) σ++Ad 4 l1 (p:Nat) (a:Nat) (σ.ai.length:Nat) (pe 4 eD (p:Nat) (a:Nat) (-1) σ).2,⟨λE=>rfl,lI (by exact ft),by exact ft⟩,_,_,rfl,(aJ (aT ho @oz @bQ)),aq⟩
  have O:¬op=pK:=aC J
  clear J;rw[ab O];refine a1 ?_;refine aL (ajd σ cs rt OA xk oN 4 o6 p (a:Nat) (a:Nat) σ cs) ho ?_ ?_
  ·exact⟨_,_,_,rfl⟩
  refine aL (ajc (aP w S fp) .bV) ho ?_ ?_
  ·exact⟨aq,cT⟩
  refine ae.dt 280 (aJ ho) (bT.refl _ _) λcL c7 h9 cq hg=>?_
  obtain⟨eY,cE,rfl,gY⟩:=hg;obtain⟨g3,g4⟩:=gY.one;have ha:=kQ.mono cq.cc;have gY:qV cL (bw (aP w S fp) c7) eY cE (Ft (p:Nat)).cO:=gY;have CI:=uL (p:=p) (op:=iX) (n:=some .bV) (cx:=⟨#[]⟩) (d:=Ft (p:Nat)) (x:=.nil) (y:=.nil) (q:=.nil) tM ⟨rfl,rfl,rfl,rfl,rfl⟩ rfl rfl rfl aq
  obtain⟨_,mr,mR⟩:=CI;have bW:tK (Ft (p:Nat)) σ.ai:=⟨U,ef _,by show 1<=100000;omega,⟨uU rfl,uU rfl⟩,(λh=>by have h:(4:Nat)=2:=h;omega),tL _,tL _,tL _⟩
  have KR:tK (xj 4 o6 (p:Nat) (a:Nat) (σ.ai.length:Nat)) (HV (p:Nat) σ).2.ai:=KQ (by show(kB _ σ).2.ai.length<1000000;rw[H0];omega) (.inr rfl) ((bJ.pre mr).iz (by have:=V.2;omega)) (mR.iz (by
    show 1+eA (some .bV)+fO .nil+hz .nil+hz .nil+(if iX=fX then fJ ⟨#[]⟩ else 0)<=100000
    rw[ab aq]
    show 1+1+0+0+0+0<=100000
    omega))
  have Dq:fq cL (bw (aP w S fp) c7) (cs++fb { Ft (p:Nat) with aw:=qn (Ft (p:Nat)) σ.ai } eY cE) (HV (p:Nat) σ).2.ai:=.snoc _ _ _ _ _ ha gY;have ft:=Dn (k:=4) (op:=o6) (p:=(p:Nat)) (a:=(a:Nat)) (b:=(σ.ai.length:Nat)) Dq
  refine dh (ajd σ cs rt (Ft (p:Nat)) eY cE 4 o6 p (a:Nat) (σ.ai.length:Nat) (HV (p:Nat) σ).2 (cs++fb { Ft (p:Nat) with aw:=qn (Ft (p:Nat)) σ.ai } eY cE)) (aT ho g3 g4) ?_ ?_
  ·refine⟨⟨⟨rfl,bW,gY.mono pg,ha.mono pg⟩,aq,λ_ h=>h.elim⟩,?_,aq,λ_ h=>h.elim⟩
   first|exact⟨⟨rfl,rfl⟩,KR,Dq.mono pg⟩|exact⟨rfl,KR,Dq.mono pg⟩
  refine bf (eI ho @bZ.eq_1 @bZ.eq_2 @bZ.eq_3 @iA.eq_1 @lH) ?_;exact⟨_,⟨λE=>rfl,lI (by exact ft),by exact ft⟩,_,_,rfl,(aJ (aT ho @oz @bQ)),aq⟩
abbrev aji (p:Nat)(op:ao)(dC:dj)(sV im:Nat)(t:cl)(a:Nat)(σ:bc)(cs:aX)(rt:Int):vl Tryz.prog 94 where
 T:=59
 kinds:=[none,none]
 pre:=λfs aj W S=>(fs=kP σ cs rt/\aj=[.val (.agg #[.int .i64 6,.int .i64 (p:Nat),.string op,.slice dC sV im]),.val (.int .i64 (a:Nat))])/\fq W S cs σ.ai/\σ.a8=0/\en σ.ai t a/\l3 t/\σ.ai.length<900000
 gA:=λ_ _ _ _ _ _ V h=>⟨h.1,h.2.1.mono V,h.2.2⟩
 dC:=λ_ _ _=>True
 rT:=λ_ _ _ _ _ _ _=>trivial
 out:=λfs aj=>iA (BE (p:Nat) op a σ) rt
 enters:=Tryz.call94
 ok:=by
  intro w S u fp us fs aj H ax bp aK hp _ _;obtain⟨⟨rfl,rfl⟩,D,O,B,aU,bn⟩:=hp
  match us,aK with
  |[x,y],aK=>obtain⟨rfl,rfl,_⟩:=aK;exact aBG p op dC sV im t a σ cs rt u fp w S O B aU bn D H ax bp
def S0{op:ao}{x y:bm}{j:Int}(h:op=vH/\j=3\/op=vI/\j=2\/op=yl/\j=5\/op=ym/\j=6):rz op x y=some (vZ j x y):=by rcases h with⟨rfl,rfl⟩|⟨rfl,rfl⟩|⟨rfl,rfl⟩|⟨rfl,rfl⟩<;>rfl
def Y8{op:ao}{x y:bm}(D:¬op=vH)(O:¬op=vI)(B:¬op=yl)(aU:¬op=ym):rz op x y=none:=by unfold rz;rw[ab D,ab O,ab B,ab aU]
def aBH{op:ao}{a b:Nat}{x y:bm}(D:yC σ.ai a=some x)(O:yC σ.ai b=some y):nF p op a b σ=match rz op x y with
  |some r=>xh p r σ
  |none=>(0,cY 72 p σ):=by
 unfold nF;rw[D,O];rfl
def aBI{op:ao}{a b:Nat}(h:¬((yC σ.ai a).isSome=true/\(yC σ.ai b).isSome=true)):nF p op a b σ=Aa p op a b σ:=by
 unfold nF;cases D:yC σ.ai a with
 |none=>rfl
 |some x=>
  cases O:yC σ.ai b with
  |none=>rfl
  |some y=>rw[D,O]at h;exact absurd ⟨rfl,rfl⟩ h
def H4{op:ao}{a b:Nat}(h:¬((b9 σ.ai a).k=(b9 σ.ai b).k/\(gm op=1\/gm op=2\/((b9 σ.ai a).k=4/\0<gm op)))):Aa p op a b σ=(0,cY 72 p σ):=by unfold Aa;rw[ab h]
def S1{op:ao}{a b:Nat}(h:(b9 σ.ai a).k=(b9 σ.ai b).k/\(gm op=1\/gm op=2\/((b9 σ.ai a).k=4/\0<gm op))):Aa p op a b σ=pe (b9 σ.ai a).k (oG (gm op)) p a b σ:=by unfold Aa;rw[al h]
def cU:=OH
def aBJ(p:Nat)(op:ao)(dC:dj)(sV im:Nat)(t eU:cl)(a b:Nat)(σ:bc)(cs:aX)(rt:Int)(u:aM)(fp:aD)(w:ar)(S:aY)(bJ:en σ.ai t a)(V:l3 t)(Dr:en σ.ai eU b)(ds:l3 eU)(aN:σ.ai.length<900000)(jn:fq w S cs σ.ai)(H:eH w u fp 59 (kP σ cs rt))(ax:∀b∈fp,b<w.heap.size)(bp:∀b∈fp,¬S b) :
  Calls Tryz.prog 95 (#[u]++#[.agg #[.int .i64 7,.int .i64 (p:Nat),.string op,.slice dC sV im],.int .i64 (a:Nat),.int .i64 (b:Nat)]) w λx M=>sx w S u fp 59 x M (iA (nF (p:Nat) op a b σ) rt):=by
 have cf:=aP.up w S fp;have nH:=jn.mono (aP.ep w S fp bp);obtain⟨aQ,Dp,gj,ta⟩:=bJ.cO V;obtain⟨PE,aBK,Q3,aBL⟩:=Dr.cO ds;have bg:(⟨#[124]⟩:ao)=vH:=rfl;have bN:(⟨#[46]⟩:ao)=vI:=rfl;have dQ:(⟨#[38]⟩:ao)=yl:=rfl;have h1:(⟨#[45]⟩:ao)=ym:=rfl
 have rU:(⟨#[126]⟩:ao)=Hz:=rfl;have Ei:(⟨#[62,62]⟩:ao)=HA:=rfl;refine nm (nt:=159) S [.tmp 8] H ax Tryz.func95 ?_;refine aA aa cU ?_;refine aL (yE (aP w S fp) σ cs rt a) (I cU gj) ?_ ?_
 ·exact⟨⟨nH,aQ,Dp⟩,aq,(λ_ h=>h.elim),cf⟩
 refine ae.dt 47 (aJ cU) (bT.refl _ _) λcy ck hn bD la=>?_
 obtain⟨dE,cR,rfl,dP⟩:=la;obtain⟨g1,g2⟩:=dP.one;have kQ:=nH.mono bD.cc;have cT:=cf.ext bD;refine aL (yE (aP w S fp) σ cs rt b) (b3 cU Q3 g1 g2) ?_ ?_
 ·exact⟨⟨kQ,PE,aBK⟩,aq,(λ_ h=>h.elim),cT⟩
 refine ae.dt 119 (aJ cU) (bT.refl _ _) λcL c7 h9 cq hg=>?_
 obtain⟨eY,cE,rfl,gY⟩:=hg;obtain⟨g3,g4⟩:=gY.one;have ha:=kQ.mono cq.cc;have eO:=cT.ext cq;have dP:=dP.mono cq.cc;obtain⟨vr,yX,_,xa⟩:=ha.get a aQ;obtain⟨zo,AA,_,ahR⟩:=ha.get b PE;have eN:=uP (xa 0 U);have Y9 := uP (ahR 0 U);rw[tT]at eN Y9;have hlen:=ha.len
 have L:a*11<(List.map ag.v cs).length:=by rw[lL];omega
 have jw:b*11<(List.map ag.v cs).length:=by rw[lL];omega
 by_cases KS:(fa t).isSome=true/\(fa eU).isSome=true
 ·obtain⟨x,aB⟩:=Dx.1 KS.1;obtain⟨y,cG⟩:=Dx.1 KS.2;obtain⟨Y7,aEJ⟩:=ta x aB;obtain⟨aBM,J0⟩:=aBL y cG;rw[Y7]at dP;rw[aBM]at gY;have kj:=λop=>aBH (p:=(p:Nat)) (op:=op) (bJ.as.trans aB) (Dr.as.trans cG)
  refine aA aa (hV cU aB cG g1 g2 g3 g4) ?_;refine dh aa (de cU eN Y9 aB cG) ?_ ?_
  ·exact⟨⟨U,U⟩,L,L,⟨U,U⟩,jw⟩
  refine aL aa (b3 cU eN aB cG) ?_ ?_
  ·exact⟨(λh=>by cases h),(λh=>by cases h)⟩
  refine rb (λ_:Unit=>⟨400,bK [(0,.is (.own 0 0)),(5,.is (.own 8 0))],bA [(0,.cells 59 [.ak 1,.v (.int .i64 rt),.v (.int .i64 σ.a8),.v (.int .i64 σ.at_)]),(1,.row 66 11 σ.ai.length (cs.map .v)),(8,.cells 181 [.v (.int .i64 7),.v (.int .i64 (p:Nat)),.v (.string op),.v (.slice dC sV im)])]⟩) (λ_=>cL) (λ_=>c7) (λ_=>nF (p:Nat) op a b σ=(0,cY 72 (p:Nat) σ)) ?_ ?_
  ·skip;refine bk aa cU ?_;refine aA aa (I cU bg) ?_;refine bC cU ?_ ?_<;>intro J
   ·have A:op=vH:=aC J
    clear J;have aI:=S0 (x:=x) (y:=y) (op:=op) (j:=3) (.inl ⟨A,rfl⟩);rw[kj op,aI];have uQ:aG (vZ 3 x y)<=100000:=by rw[OD];omega
    refine bk aa cU ?_;refine bC cU ?_ ?_<;>intro J
    rotate_left
    ·exact absurd J aq
    clear J;refine dh (Fs (aP w S fp) σ cs rt 3 x y p (vZ 3 x y)) (de cU g1 g2 g3 g4) ?_ ?_
    ·refine⟨⟨⟨⟨tJ dP,tJ gY⟩,?_⟩,eO⟩,?_,aq,aq,eO⟩
     ·first|exact⟨U,U⟩|exact⟨.inr trivial,U,U⟩|exact⟨.inr (.inr trivial),U,U⟩|exact⟨.inr (.inr (.inr trivial)),U,U⟩|exact⟨aq,U,U⟩
     ·first|exact⟨rfl,ha,U,uQ⟩|exact⟨ha,U,uQ⟩
    refine ae.dt 583 (aJ cU) (bT.refl _ _) λe0 eu n7 du e1=>?_
    have eQ:=v7 (K:=583) e1;refine bf (hV cU @bZ.eq_1 @bZ.eq_2 @bZ.eq_3 @iA.eq_1 @lH eQ) ?_;exact⟨n7,⟨λE=>rfl,lI (by exact e1),by exact e1⟩,_,_,rfl,(aJ (aT cU @bQ eQ)),aq⟩
   have A:¬op=vH:=aC J
   clear J;refine aA aa (I cU bN) ?_;refine bC cU ?_ ?_<;>intro J
   ·have D:op=vI:=aC J
    clear J;have aI:=S0 (x:=x) (y:=y) (op:=op) (j:=2) (.inr (.inl ⟨D,rfl⟩));rw[kj op,aI];have uQ:aG (vZ 2 x y)<=100000:=by rw[OD];omega
    refine bk aa cU ?_;refine bC cU ?_ ?_<;>intro J
    rotate_left
    ·exact absurd J aq
    clear J;refine dh (Fs (aP w S fp) σ cs rt 2 x y p (vZ 2 x y)) (de cU g1 g2 g3 g4) ?_ ?_
    ·refine⟨⟨⟨⟨tJ dP,tJ gY⟩,?_⟩,eO⟩,?_,aq,aq,eO⟩
     ·first|exact⟨U,U⟩|exact⟨.inr trivial,U,U⟩|exact⟨.inr (.inr trivial),U,U⟩|exact⟨.inr (.inr (.inr trivial)),U,U⟩|exact⟨aq,U,U⟩
     ·first|exact⟨rfl,ha,U,uQ⟩|exact⟨ha,U,uQ⟩
    refine ae.dt 599 (aJ cU) (bT.refl _ _) λe0 eu n7 du e1=>?_
    have eQ:=v7 (K:=599) e1;refine bf (hV cU @bZ.eq_1 @bZ.eq_2 @bZ.eq_3 @iA.eq_1 @lH eQ) ?_;exact⟨n7,⟨λE=>rfl,lI (by exact e1),by exact e1⟩,_,_,rfl,(aJ (aT cU @bQ eQ)),aq⟩
   have D:¬op=vI:=aC J
   clear J;refine aA aa (I cU dQ) ?_;refine bC cU ?_ ?_<;>intro J
   ·have O:op=yl:=aC J
    clear J;have aI:=S0 (x:=x) (y:=y) (op:=op) (j:=5) (.inr (.inr (.inl ⟨O,rfl⟩)));rw[kj op,aI];have uQ:aG (vZ 5 x y)<=100000:=by rw[OD];omega
    refine aR aa cU ?_ ?_<;>intro J
    rotate_left
    ·exact absurd J aq
    clear J;refine dh (Fs (aP w S fp) σ cs rt 5 x y p (vZ 5 x y)) (de cU g1 g2 g3 g4) ?_ ?_
    ·refine⟨⟨⟨⟨tJ dP,tJ gY⟩,?_⟩,eO⟩,?_,aq,aq,eO⟩
     ·first|exact⟨U,U⟩|exact⟨.inr trivial,U,U⟩|exact⟨.inr (.inr trivial),U,U⟩|exact⟨.inr (.inr (.inr trivial)),U,U⟩|exact⟨aq,U,U⟩
     ·first|exact⟨rfl,ha,U,uQ⟩|exact⟨ha,U,uQ⟩
    refine ae.dt 615 (aJ cU) (bT.refl _ _) λe0 eu n7 du e1=>?_
    have eQ:=v7 (K:=615) e1;refine bf (hV cU @bZ.eq_1 @bZ.eq_2 @bZ.eq_3 @iA.eq_1 @lH eQ) ?_;exact⟨n7,⟨λE=>rfl,lI (by exact e1),by exact e1⟩,_,_,rfl,(aJ (aT cU @bQ eQ)),aq⟩
   have O:¬op=yl:=aC J
   clear J;refine aA aa (I cU h1) ?_;refine bC cU ?_ ?_<;>intro J
   ·have B:op=ym:=aC J
    clear J;have aI:=S0 (x:=x) (y:=y) (op:=op) (j:=6) (.inr (.inr (.inr ⟨B,rfl⟩)));rw[kj op,aI];have uQ:aG (vZ 6 x y)<=100000:=by rw[OD];omega
    refine aR aa cU ?_ ?_<;>intro J
    rotate_left
    ·exact absurd J aq
    clear J;refine dh (Fs (aP w S fp) σ cs rt 6 x y p (vZ 6 x y)) (de cU g1 g2 g3 g4) ?_ ?_
    ·refine⟨⟨⟨⟨tJ dP,tJ gY⟩,?_⟩,eO⟩,?_,aq,aq,eO⟩
     ·first|exact⟨U,U⟩|exact⟨.inr trivial,U,U⟩|exact⟨.inr (.inr trivial),U,U⟩|exact⟨.inr (.inr (.inr trivial)),U,U⟩|exact⟨aq,U,U⟩
     ·first|exact⟨rfl,ha,U,uQ⟩|exact⟨ha,U,uQ⟩
    refine ae.dt 631 (aJ cU) (bT.refl _ _) λe0 eu n7 du e1=>?_
    have eQ:=v7 (K:=631) e1;refine bf (hV cU @bZ.eq_1 @bZ.eq_2 @bZ.eq_3 @iA.eq_1 @lH eQ) ?_;exact⟨n7,⟨λE=>rfl,lI (by exact e1),by exact e1⟩,_,_,rfl,(aJ (aT cU @bQ eQ)),aq⟩
   have B:¬op=ym:=aC J
   clear J;refine aA aa (I cU rU) ?_;refine bC cU ?_ ?_<;>intro J
   ·have aU:op=Hz:=aC J
    clear J;have jI:nF (p:Nat) op a b σ=(0,cY 72 (p:Nat) σ):=by rw[kj op,Y8 A D O B]
    refine dL aa cU ?_;refine⟨(),jI,rfl,rfl,?_⟩;exact b8 (λk=>if k=1 then .key 112 else .key k) cU
   have aU:¬op=Hz:=aC J
   clear J;refine aA aa (I cU Ei) ?_;refine bC cU ?_ ?_<;>intro J
   ·have bn:op=HA:=aC J
    clear J;have jI:nF (p:Nat) op a b σ=(0,cY 72 (p:Nat) σ):=by rw[kj op,Y8 A D O B]
    refine dL aa cU ?_;refine⟨(),jI,rfl,rfl,?_⟩;exact b8 (λk=>if k=1 then .key 112 else .key k) cU
   have bn:¬op=HA:=aC J
   clear J;have jI:nF (p:Nat) op a b σ=(0,cY 72 (p:Nat) σ):=by rw[kj op,Y8 A D O B]
   refine a1 ?_;refine⟨(),jI,rfl,rfl,?_⟩;exact b8 (λk=>if k=1 then .key 112 else .key k) cU
  rintro-aZ du;rw[aZ];refine aL (yE (aP w S fp) σ cs rt a) cU ?_ ?_
  ·exact⟨⟨_,_,rfl⟩,aq,λ_ h=>h.elim⟩
  refine AN ?_;have ft:fq cL (bw (aP w S fp) c7) cs (cY 72 (p:Nat) σ).ai:=by rw[v8];exact ha
  refine jQ (eI cU @bZ.eq_1 @bZ.eq_2 @bZ.eq_3 @iA.eq_1 @lH) ?_;exact⟨cs,⟨λE=>rfl,lI (by exact ft),by exact ft⟩,_,_,rfl,(aJ (I cU @bQ)),aq⟩
 have kj:nF (p:Nat) op a b σ=Aa (p:Nat) op a b σ:=aBI (by rw[bJ.as,Dr.as];exact KS)
 refine fR ⟨26,bK [(0,.is (.own 0 0)),(2,.is (.v (.int .i64 (a:Nat)))),(3,.is (.v (.int .i64 (b:Nat)))),(5,.is (.own 8 0)),(13,.is (.v (.bool false)))],bA [(0,.cells 59 [.ak 1,.v (.int .i64 rt),.v (.int .i64 σ.a8),.v (.int .i64 σ.at_)]),(1,.row 66 11 σ.ai.length (cs.map .v)),(8,.cells 181 [.v (.int .i64 7),.v (.int .i64 (p:Nat)),.v (.string op),.v (.slice dC sV im)])]⟩ ?_ ?_
 ·skip;cases aB:(fa t).isSome with
  |false=>refine bY aa (eI cU aB g1 g2 g3 g4) ?_;exact b8 (λk=>if k=1 then .key 112 else .key k) (I cU aB)
  |true=>
   have cG:(fa eU).isSome=false:=by
    cases h:(fa eU).isSome with
    |false=>rfl
    |true=>exact absurd ⟨aB,h⟩ KS
   refine bY aa (hV cU aB cG g1 g2 g3 g4) ?_;exact b8 (λk=>if k=1 then .key 112 else .key k) (aT cU aB cG)
 have aBN:∃sm le:Bool,(sm=true ↔ (b9 σ.ai a).k=(b9 σ.ai b).k)/\(le=true ↔ (b9 σ.ai a).k=(b9 σ.ai b).k/\(b9 σ.ai a).k=4)/\sm=decide ((((b9 σ.ai a).k:Nat):Int)=((b9 σ.ai b).k:Nat))/\le=(sm&&decide ((((b9 σ.ai a).k:Nat):Int)=4)):=by
  refine⟨_,_,?_,?_,rfl,rfl⟩
  ·rw[Tt];omega
  ·rw[ob,Tt,Tt];omega
 obtain⟨sm,le,D,O,B,aU⟩:=aBN;have ajh:sm=true->3<=(b9 σ.ai a).k/\(b9 σ.ai a).k<=4:=λh=>by
  have ad:=D.1 h;rw[bJ.aH.2.2.1]at ad ⊢;rw[Dr.aH.2.2.1]at ad;cases t with
  |text=>cases eU with
   |text=>exact absurd ⟨rfl,rfl⟩ KS
   |rx=>cases ad
   |canon=>cases ad
   |lens=>cases ad
  |rx=>cases eU with
   |text=>cases ad
   |rx=>exact absurd ⟨rfl,rfl⟩ KS
   |canon=>cases ad
   |lens=>cases ad
  |canon=>exact⟨uU rfl,uU rfl⟩
  |lens=>exact⟨uU rfl,uU rfl⟩
 refine dh aa (b3 cU eN Y9 (Eq.symm B)) ?_ ?_
 ·exact⟨⟨U,U⟩,L,L,⟨U,U⟩,jw⟩
 refine fR ⟨61,bK [(0,.is (.own 0 0)),(2,.is (.v (.int .i64 (a:Nat)))),(3,.is (.v (.int .i64 (b:Nat)))),(5,.is (.own 8 0)),(13,.is (.v (.bool false))),(14,.is (.v (.bool sm))),(15,.is (.v (.bool le)))],bA [(0,.cells 59 [.ak 1,.v (.int .i64 rt),.v (.int .i64 σ.a8),.v (.int .i64 σ.at_)]),(1,.row 66 11 σ.ai.length (cs.map .v)),(8,.cells 181 [.v (.int .i64 7),.v (.int .i64 (p:Nat)),.v (.string op),.v (.slice dC sV im)])]⟩ ?_ ?_
 ·skip;refine wr aa (I cU eN) ?_ ?_
  ·exact⟨λ_=>⟨U,U⟩,λ_=>L⟩
  rw[aU];exact bh cU
 have bW:sm=true->∀op,tK (xj (b9 σ.ai a).k op (p:Nat) (a:Nat) (b:Nat)) σ.ai:=λh op=>KQ U (by have:=ajh h;omega) (bJ.iz (by have:=V.2;omega)) (Dr.iz (by have:=ds.2;omega))
 refine rb (λ_:Unit=>⟨400,bK [(0,.is (.own 0 0)),(5,.is (.own 8 0))],bA [(0,.cells 59 [.ak 1,.v (.int .i64 rt),.v (.int .i64 σ.a8),.v (.int .i64 σ.at_)]),(1,.row 66 11 σ.ai.length (cs.map .v)),(8,.cells 181 [.v (.int .i64 7),.v (.int .i64 (p:Nat)),.v (.string op),.v (.slice dC sV im)])]⟩) (λ_=>cL) (λ_=>c7) (λ_=>nF (p:Nat) op a b σ=(0,cY 72 (p:Nat) σ)) ?_ ?_
 ·skip;refine bk aa cU ?_;refine aA aa (I cU bg) ?_;refine bC cU ?_ ?_<;>intro J
  ·have g0:op=vH:=aC J
   clear J;refine bk aa cU ?_;refine bC cU ?_ ?_<;>intro J
   ·exact absurd J aq
   clear J;refine a1 ?_;refine aR aa cU ?_ ?_<;>intro J
   ·have sg:=S1 (p:=(p:Nat)) (op:=op) (σ:=σ) (a:=a) (b:=b);have cm:gm op=1:=by rw[g0];decide
    have zw:(⟨#[97,108,116]⟩:ao)=o6:=rfl;have qc:sm=true:=J;have sg:=sg ⟨D.1 qc,U⟩;rw[kj,sg,cm];refine dh (KP σ cs rt (b9 σ.ai a).k o6 p (a:Nat) (b:Nat)) (aT cU eN zw) ?_ ?_
    ·refine⟨⟨U,U⟩,L,L,?_,aq,λ_ h=>h.elim⟩
     first|exact⟨rfl,bW qc _,ha.mono pg⟩|exact⟨bW qc _,ha.mono pg⟩
    have ft:=Dn (k:=(b9 σ.ai a).k) (op:=o6) (p:=(p:Nat)) (a:=(a:Nat)) (b:=(b:Nat)) ha;refine bf (eI cU @bZ.eq_1 @bZ.eq_2 @bZ.eq_3 @iA.eq_1 @lH) ?_;exact⟨_,⟨λE=>rfl,lI (by exact ft),by exact ft⟩,_,_,rfl,(aJ (aT cU @oz @bQ)),aq⟩
   have jI:nF (p:Nat) op a b σ=(0,cY 72 (p:Nat) σ):=by rw[kj];exact H4 (λg=>by rw[D.2 g.1]at J;cases J)
   refine a1 ?_;refine⟨(),jI,rfl,rfl,?_⟩;exact bh cU
  have g0:¬op=vH:=aC J
  clear J;refine aA aa (I cU bN) ?_;refine bC cU ?_ ?_<;>intro J
  ·have g1:op=vI:=aC J
   clear J;refine bk aa cU ?_;refine bC cU ?_ ?_<;>intro J
   ·exact absurd J aq
   clear J;refine a1 ?_;refine aR aa cU ?_ ?_<;>intro J
   ·have sg:=S1 (p:=(p:Nat)) (op:=op) (σ:=σ) (a:=a) (b:=b);have cm:gm op=2:=by rw[g1];decide
    have zw:(⟨#[99,97,116]⟩:ao)=l1:=rfl;have qc:sm=true:=J;have sg:=sg ⟨D.1 qc,U⟩;rw[kj,sg,cm];refine dh (KP σ cs rt (b9 σ.ai a).k l1 p (a:Nat) (b:Nat)) (aT cU eN zw) ?_ ?_
    ·refine⟨⟨U,U⟩,L,L,?_,aq,λ_ h=>h.elim⟩
     first|exact⟨rfl,bW qc _,ha.mono pg⟩|exact⟨bW qc _,ha.mono pg⟩
    have ft:=Dn (k:=(b9 σ.ai a).k) (op:=l1) (p:=(p:Nat)) (a:=(a:Nat)) (b:=(b:Nat)) ha;refine bf (eI cU @bZ.eq_1 @bZ.eq_2 @bZ.eq_3 @iA.eq_1 @lH) ?_;exact⟨_,⟨λE=>rfl,lI (by exact ft),by exact ft⟩,_,_,rfl,(aJ (aT cU @oz @bQ)),aq⟩
   have jI:nF (p:Nat) op a b σ=(0,cY 72 (p:Nat) σ):=by rw[kj];exact H4 (λg=>by rw[D.2 g.1]at J;cases J)
   refine a1 ?_;refine⟨(),jI,rfl,rfl,?_⟩;exact bh cU
  have g1:¬op=vI:=aC J
  clear J;refine aA aa (I cU dQ) ?_;refine bC cU ?_ ?_<;>intro J
  ·have g2:op=yl:=aC J
   clear J;refine aR aa cU ?_ ?_<;>intro J
   ·exact absurd J aq
   clear J;have jI:nF (p:Nat) op a b σ=(0,cY 72 (p:Nat) σ):=by rw[kj];exact H4 (by rw[show gm op=0 by rw[g2];decide];omega)
   refine a1 ?_;refine⟨(),jI,rfl,rfl,?_⟩;exact bh cU
  have g2:¬op=yl:=aC J
  clear J;refine aA aa (I cU h1) ?_;refine bC cU ?_ ?_<;>intro J
  ·have g3:op=ym:=aC J
   clear J;refine aR aa cU ?_ ?_<;>intro J
   ·exact absurd J aq
   clear J;have jI:nF (p:Nat) op a b σ=(0,cY 72 (p:Nat) σ):=by rw[kj];exact H4 (by rw[show gm op=0 by rw[g3];decide];omega)
   refine a1 ?_;refine⟨(),jI,rfl,rfl,?_⟩;exact bh cU
  have g3:¬op=ym:=aC J
  clear J;refine aA aa (I cU rU) ?_;refine bC cU ?_ ?_<;>intro J
  ·have g4:op=Hz:=aC J
   clear J;refine aR aa cU ?_ ?_<;>intro J
   ·have sg:=S1 (p:=(p:Nat)) (op:=op) (σ:=σ) (a:=a) (b:=b);have cm:gm op=3:=by rw[g4];decide
    have zw:(⟨#[115,119,97,112]⟩:ao)=CY:=rfl;have hle:le=true:=J;have wR:=(O.1 hle).2;have qc:=D.2 (O.1 hle).1;have sg:=sg ⟨D.1 qc,.inr (.inr ⟨wR,U⟩)⟩;have H5:=bW qc CY;rw[wR]at H5;rw[kj,sg,cm,wR];refine aL (KP σ cs rt 4 CY p (a:Nat) (b:Nat)) (I cU zw) ?_ ?_
    ·refine⟨?_,aq,λ_ h=>h.elim⟩
     first|exact⟨rfl,H5,ha.mono pg⟩|exact⟨H5,ha.mono pg⟩
    have ft:=Dn (k:=4) (op:=CY) (p:=(p:Nat)) (a:=(a:Nat)) (b:=(b:Nat)) ha;refine bf (eI cU @bZ.eq_1 @bZ.eq_2 @bZ.eq_3 @iA.eq_1 @lH) ?_;exact⟨_,⟨λE=>rfl,lI (by exact ft),by exact ft⟩,_,_,rfl,(aJ (aT cU @oz @bQ)),aq⟩
   have jI:nF (p:Nat) op a b σ=(0,cY 72 (p:Nat) σ):=by
    rw[kj];exact H4 (λg=>by
     have cm:gm op=3:=by rw[g4];decide
     have:=O.2 ⟨g.1,U⟩
     rw[this]at J
     cases J)
   refine a1 ?_;refine⟨(),jI,rfl,rfl,?_⟩;exact bh cU
  have g4:¬op=Hz:=aC J
  clear J;refine aA aa (I cU Ei) ?_;refine bC cU ?_ ?_<;>intro J
  ·have g5:op=HA:=aC J
   clear J;refine aR aa cU ?_ ?_<;>intro J
   ·have sg:=S1 (p:=(p:Nat)) (op:=op) (σ:=σ) (a:=a) (b:=b);have cm:gm op=4:=by rw[g5];decide
    have zw:(⟨#[99,104,97,105,110]⟩:ao)=CZ:=rfl;have hle:le=true:=J;have wR:=(O.1 hle).2;have qc:=D.2 (O.1 hle).1;have sg:=sg ⟨D.1 qc,.inr (.inr ⟨wR,U⟩)⟩;have H5:=bW qc CZ;rw[wR]at H5;rw[kj,sg,cm,wR];refine aL (KP σ cs rt 4 CZ p (a:Nat) (b:Nat)) (I cU zw) ?_ ?_
    ·refine⟨?_,aq,λ_ h=>h.elim⟩
     first|exact⟨rfl,H5,ha.mono pg⟩|exact⟨H5,ha.mono pg⟩
    have ft:=Dn (k:=4) (op:=CZ) (p:=(p:Nat)) (a:=(a:Nat)) (b:=(b:Nat)) ha;refine bf (eI cU @bZ.eq_1 @bZ.eq_2 @bZ.eq_3 @iA.eq_1 @lH) ?_;exact⟨_,⟨λE=>rfl,lI (by exact ft),by exact ft⟩,_,_,rfl,(aJ (aT cU @oz @bQ)),aq⟩
   have jI:nF (p:Nat) op a b σ=(0,cY 72 (p:Nat) σ):=by
    rw[kj];exact H4 (λg=>by
     have cm:gm op=4:=by rw[g5];decide
     have:=O.2 ⟨g.1,U⟩
     rw[this]at J
     cases J)
   refine a1 ?_;refine⟨(),jI,rfl,rfl,?_⟩;exact bh cU
  have g5:¬op=HA:=aC J
  clear J;have jI:nF (p:Nat) op a b σ=(0,cY 72 (p:Nat) σ):=by
   rw[kj];exact H4 (by
   have cm:gm op=0:=by
    unfold gm
    rw[ab g0,ab g1,ab g4,ab g5]
   omega)
  refine a1 ?_;refine⟨(),jI,rfl,rfl,?_⟩;exact bh cU
 rintro-aZ du;rw[aZ];refine aL (yE (aP w S fp) σ cs rt a) cU ?_ ?_
 ·exact⟨⟨_,_,rfl⟩,aq,λ_ h=>h.elim⟩
 refine AN ?_;have ft:fq cL (bw (aP w S fp) c7) cs (cY 72 (p:Nat) σ).ai:=by rw[v8];exact ha
 refine jQ (eI cU @bZ.eq_1 @bZ.eq_2 @bZ.eq_3 @iA.eq_1 @lH) ?_;exact⟨cs,⟨λE=>rfl,lI (by exact ft),by exact ft⟩,_,_,rfl,(aJ (I cU @bQ)),aq⟩
abbrev ajj (p:Nat)(op:ao)(dC:dj)(sV im:Nat)(t eU:cl)(a b:Nat)(σ:bc)(cs:aX)(rt:Int):vl Tryz.prog 95 where
 T:=59
 kinds:=[none,none,none]
 pre:=λfs aj W S=>(fs=kP σ cs rt/\aj=[.val (.agg #[.int .i64 7,.int .i64 (p:Nat),.string op,.slice dC sV im]),.val (.int .i64 (a:Nat)),.val (.int .i64 (b:Nat))])/\fq W S cs σ.ai/\(en σ.ai t a/\l3 t)/\(en σ.ai eU b/\l3 eU)/\σ.ai.length<900000
 gA:=λ_ _ _ _ _ _ V h=>⟨h.1,h.2.1.mono V,h.2.2⟩
 dC:=λ_ _ _=>True
 rT:=λ_ _ _ _ _ _ _=>trivial
 out:=λfs aj=>iA (nF (p:Nat) op a b σ) rt
 enters:=Tryz.call95
 ok:=by
  intro w S u fp us fs aj H ax bp aK hp _ _;obtain⟨⟨rfl,rfl⟩,D,⟨O,B⟩,⟨aU,bn⟩,cA⟩:=hp
  match us,aK with
  |[x,y,aE7],aK=>obtain⟨rfl,rfl,rfl,_⟩:=aK;exact aBJ p op dC sV im t eU a b σ cs rt u fp w S O B aU bn cA D H ax bp
section
variable (d:cF)(n r:aM)(σ:bc)(cs:aX)(rt:Int)
abbrev OI:Env Tryz.prog:=a7 KI.spec (a7 YE.spec (a7 ((OG d n r σ cs rt).spec) aa))
end
def aBO(w:ao):∀k:Nat,k<(gE w).size->af (gE w) (k:Nat)=114\/af (gE w) (k:Nat)=116\/af (gE w) (k:Nat)=113\/af (gE w) (k:Nat)=108:=by
 have key:∀s:ByteArray,s.size<=3->(af s ((0:Nat):Int)=114\/af s ((0:Nat):Int)=116\/af s ((0:Nat):Int)=113\/af s ((0:Nat):Int)=108)->(1<s.size->af s ((1:Nat):Int)=114\/af s ((1:Nat):Int)=116\/af s ((1:Nat):Int)=113\/af s ((1:Nat):Int)=108)->(2<s.size->af s ((2:Nat):Int)=114\/af s ((2:Nat):Int)=116\/af s ((2:Nat):Int)=113\/af s ((2:Nat):Int)=108)->∀k:Nat,k<s.size->af s (k:Nat)=114\/af s (k:Nat)=116\/af s (k:Nat)=113\/af s (k:Nat)=108:=λs B A D O k ad=>by
  rcases(show k=0\/k=1\/k=2 by omega) with rfl|rfl|rfl
  ·exact A
  ·exact D ad
  ·exact O ad
 unfold gE
 repeat' split
 all_goals exact key _ aq aq aq aq
def Za{S:aY}{ay:dj}{vs:aX}(h:b0 W S ay vs){j:Nat}(Y:j<vs.length):∃b o,ay=some ⟨b,o,none⟩/\S b/\W.cell? ⟨b,o+j,none⟩=some vs[j]:=by
 rcases h with h|⟨b,o,D,O⟩
 ·subst h;exact absurd Y (wb _)
 ·exact⟨b,o,D,(O j Y).1,(O j Y).2⟩
def gR.aH{W:ar}{S:aY}:∀{cs:aX} {pd:List fY} {i:Nat} {d:fY},gR W S cs pd->pd[i]?=some d->∃pv,cs[i*4]?=some (.int .i64 (d.k:Nat))/\cs[i*4+1]?=some (.int .i64 (d.at_:Nat))/\cs[i*4+2]?=some (.string d.t)/\cs[i*4+3]?=some pv/\xb W S pv d.ps
 |[],[],_,_,_,ak=>by cases ak
 |k::a::t::p::r,aH::pd,0,d,h,ak=>by cases ak;obtain⟨rfl,rfl,rfl,aU,_⟩:=h;exact⟨p,rfl,rfl,rfl,rfl,aU⟩
 |k::a::t::p::r,aH::pd,i+1,d,h,ak=>by obtain⟨pv,D,O,B,aU,bn⟩:=gR.aH (i:=i) h.2.2.2.2 (aC ak);have e:(i+1)*4=i*4+4:=U;rw[e];exact⟨pv,by simpa using D,by simpa using O,by simpa using B,by simpa using aU,bn⟩
 |[],_::_,_,_,h,_=>h.elim
 |[_],_,_,_,h,_=>by cases ‹List fY›<;>exact h.elim
 |[_,_],_,_,_,h,_=>by cases ‹List fY›<;>exact h.elim
 |[_,_,_],_,_,_,h,_=>by cases ‹List fY›<;>exact h.elim
 |_::_::_::_::_,[],_,_,h,_=>h.elim
def aBP(w:ao):(gE w).size<=3:=by
 unfold gE
 repeat' split
 all_goals decide
structure Zb where
 W:World
 bs:List Nat
 k:Nat
 mH:cF
 n:Value
 r:Value
structure aBQ where
 ok:Bool
 mH:cF
 n:Value
 r:Value
def KT(p:Int)(fy:aD)(σ:bc):Except Nat cF->Nat×bc
 |.ok t=>kB t σ
 |.error k=>(0,cY 72 (fy.getD k 0:Nat) σ)
def aBR(p:Int)(w:ao)(fy ps:aD)(σ:bc):nG p w fy ps σ=KT p fy σ (uJ (gE w) σ.ai ps 0 (hU (if w=jE\/w=ke\/w=fB then 3 else 4) w p)):=by unfold nG KT;rfl
def hL:=(I OH @YE.eq_1)
def aBS(p:Nat)(wd:ao)(aH:List fY)(dy:aX)(no lJ dC:dj)(nP lj dl lk im:Nat)(b2:Int)(fQ fy ps:aD)(ay:dj)(c:Nat)(σ:bc)(cs:aX)(rt:Int)(u:aM)(fp:aD)(w:ar)(S:aY)
  (qS:nP=aH.length) (db:b0 w S no dy) (uR:gR w S dy aH) (hQ:b0 w S dC (fQ.map λi=>.int .i64 (i:Nat))) (lQ:b0 w S ay (ps.map λi=>.int .i64 (i:Nat))) (hlen:fQ.length=ps.length) (KU:ps.length<=(gE wd).size) (um:∀k (h:k<fQ.length),∃d:fY,aH[fQ[k]]?=some d/\d.at_=fy.getD k 0)
  (bJ:∀k (h:k<ps.length),∃t,en σ.ai t ps[k]/\l3 t) (aEK:wd.size<=4096) (aN:σ.ai.length<900000) (jn:fq w S cs σ.ai) (H:eH w u fp 59 (kP σ cs rt)) (ax:∀b∈fp,b<w.heap.size) (bp:∀b∈fp,¬S b) :
  Calls Tryz.prog 96 (#[u]++#[.agg #[.slice no nP lj,.slice lJ dl lk,.int .i64 b2],.agg #[.int .i64 4,.int .i64 (p:Nat),.string wd,.slice dC fQ.length im],.slice ay ps.length c]) w λx M=>sx w S u fp 59 x M (iA (nG (p:Nat) wd fy ps σ) rt):=by
 have cf:=aP.up w S fp;have pW:=aP.ep w S fp bp;have nH:=jn.mono pW;have bg:(⟨#[105,100]⟩:ao)=jE:=rfl;have bN:(⟨#[102,111,108,100]⟩:ao)=ke:=rfl;have dQ:(⟨#[110,111,114,109]⟩:ao)=fB:=rfl;rw[aBR];generalize cj:(if wd=jE\/wd=ke\/wd=fB then 3 else 4)=K
 have aEL:K=3\/K=4:=by rw[<- cj];split<;>simp
 generalize dW:uJ (gE wd) σ.ai ps 0 (hU K wd p)=R;refine nm (nt:=134) S [.tmp 8] H ax Tryz.func96 ?_;refine aA aa hL ?_;refine aA (OI OA xk oN σ cs rt) hL ?_;refine aL (OI OA xk oN σ cs rt) hL ?_ ?_
 ·exact⟨_,_,_,rfl⟩
 refine fR ⟨40,bK [(0,.is (.own 0 0)),(3,.is (.v (.slice ay ps.length c))),(5,.is (.own 8 0)),(6,.is (.own 16 0)),(9,.is (.v (.string (gE wd)))),(10,.is (.own 104 0))],bA [(0,.cells 59 [.ak 1,.v (.int .i64 rt),.v (.int .i64 σ.a8),.v (.int .i64 σ.at_)]),(1,.row 66 11 σ.ai.length (cs.map .v)),(8,.cells 117 [.v (.slice no nP lj),.v (.slice lJ dl lk),.v (.int .i64 b2)]),(16,.cells 181 [.v (.int .i64 4),.v (.int .i64 (p:Nat)),.v (.string wd),.v (.slice dC fQ.length im)]),(104,.cells 66 ((fb (hU K wd p) xk oN).map .v))]⟩ ?_ ?_
 ·skip;refine aA aa (b3 hL bg bN dQ) ?_;refine bC hL ?_ ?_<;>intro J
  ·have h:wd=jE\/wd=ke\/wd=fB:=by
    simp at J;rcases J with(h|h)|h
    ·exact .inl h
    ·exact .inr (.inl h)
    ·exact .inr (.inr h)
   rw[al h]at cj;subst cj;refine bY aa hL ?_;exact bh (de hL @fb.eq_1 @hU.eq_1 @xk.eq_1 @oN.eq_1)
  ·have h:¬(wd=jE\/wd=ke\/wd=fB):=by
    intro h;rcases h with h|h|h<;>simp[h]at J
   rw[ab h]at cj;subst cj;refine a1 ?_;exact bh (de hL @fb.eq_1 @hU.eq_1 @xk.eq_1 @oN.eq_1)
 refine dL aa hL ?_
 refine ae.q4 (λq:Zb=>⟨80,bK [(0,.is (.own 0 0)),(3,.is (.v (.slice ay ps.length c))),(5,.is (.own 8 0)),(6,.is (.own 16 0)),(9,.is (.v (.string (gE wd)))),(10,.is (.own 104 0)),(11,.is (.v (.int .i64 (q.k:Nat))))],bA [(0,.cells 59 [.ak 1,.v (.int .i64 rt),.v (.int .i64 σ.a8),.v (.int .i64 σ.at_)]),(1,.row 66 11 σ.ai.length (cs.map .v)),(8,.cells 117 [.v (.slice no nP lj),.v (.slice lJ dl lk),.v (.int .i64 b2)]),(16,.cells 181 [.v (.int .i64 4),.v (.int .i64 (p:Nat)),.v (.string wd),.v (.slice dC fQ.length im)]),(104,.cells 66 ((fb q.mH q.n q.r).map .v))]⟩)
  Zb.W Zb.bs (λq=>q.k<=ps.length/\qV q.W (bw (aP w S fp) q.bs) q.n q.r q.mH.cO/\tK q.mH σ.ai/\uJ (gE wd) σ.ai (ps.drop q.k) q.k q.mH=R) (λq=>ps.length-q.k) ⟨w,fp,0,hU K wd p,xk,oN⟩ rfl rfl ?_ ⟨ef _,⟨rfl,rfl⟩,⟨by show σ.ai.length<1000000;omega,ef _,ef _,⟨by show 1<=K;omega,by show K<=4;omega⟩,(λh=>by have h:K=2:=h;omega),tL _,tL _,tL _⟩,dW⟩ ?_
 ·exact bh (b3 hL @fb.eq_1 @hU.eq_1 @gq)
 rintro⟨cy,ck,k,mH,n,r⟩ ⟨ad,hj,bW,cu⟩ bD;simp only at ad hj bW cu bD;dsimp only;have cT:=cf.ext bD;have kQ:=nH.mono bD.cc;refine ae.seq ?_;refine aR aa hL ?_ ?_<;>intro J
 ·have sd:k<ps.length:=bt J
  clear J;obtain⟨b,o,JM,Z,ajk⟩:=Za ((lQ.mono pW).mono bD.cc) (j:=k) (by rw[lL];exact sd);rw[OV]at ajk;obtain⟨t,KV,V⟩:=bJ k sd;obtain⟨aQ,Dp,gj,ta⟩:=KV.cO V;have KW:ps.drop k=ps[k]::ps.drop (k+1):=Dw sd;rw[KW,uJ]at cu
  have aEM:=aBO wd k U;obtain⟨lx,eh⟩:=vo (gE wd) k;generalize DU:ps[k]=a at *;have bP:=V.2;have GU:=KV.iz U;refine a1 ?_;refine ae.seq (ae.block ?_);refine aL aa (aT hL JM ajk) ?_ ?_
  ·exact⟨U,Z.2⟩
  subst JM;refine aL (yE (aP w S fp) σ cs rt a) (I hL gj) ?_ ?_
  ·exact⟨⟨kQ,aQ,Dp⟩,aq,(λ_ h=>h.elim),cT⟩
  refine ae.dt 735 (aJ hL) (bT.refl _ _) λe0 eu n7 du e1=>?_
  obtain⟨n3,sr,rfl,mS⟩:=e1;obtain⟨g3,g4⟩:=mS.one;have Dq:=kQ.mono du.cc;have tk:=cT.ext du;have hj:=hj.mono du.cc;obtain⟨g1,g2⟩:=hj.one;obtain⟨vr,yX,_,xa⟩:=Dq.get a aQ;have eN:=uP (xa 0 U);rw[tT]at eN;have uB:=uP (xa 5 U);have ajl:=Dq.len
  have L:a*11<(List.map ag.v cs).length:=by rw[lL];omega
  have ajm:a*11+5<(List.map ag.v cs).length:=by rw[lL];omega
  have aEN:=KV.as;have WR:=KV.aH.2.2.1
  refine rb (λq:aBQ=>⟨200,bK [(0,.is (.own 0 0)),(3,.is (.v (.slice (some ⟨b,o,none⟩) ps.length c))),(5,.is (.own 8 0)),(6,.is (.own 16 0)),(9,.is (.v (.string (gE wd)))),(10,.is (.own 104 0)),(11,.is (.v (.int .i64 (k:Nat)))),(14,.is (.v (.bool q.ok)))],bA [(0,.cells 59 [.ak 1,.v (.int .i64 rt),.v (.int .i64 σ.a8),.v (.int .i64 σ.at_)]),(1,.row 66 11 σ.ai.length (cs.map .v)),(8,.cells 117 [.v (.slice no nP lj),.v (.slice lJ dl lk),.v (.int .i64 b2)]),(16,.cells 181 [.v (.int .i64 4),.v (.int .i64 (p:Nat)),.v (.string wd),.v (.slice dC fQ.length im)]),(104,.cells 66 ((fb q.mH q.n q.r).map .v))]⟩) (λ_=>e0) (λ_=>eu) (λq=>(q.ok=true->sS (af (gE wd) (k:Nat)) k a σ.ai mH=some q.mH/\qV e0 (bw (aP w S fp) eu) q.n q.r q.mH.cO/\tK q.mH σ.ai)/\(q.ok=false->sS (af (gE wd) (k:Nat)) k a σ.ai mH=none)) ?_ ?_
  ·skip;refine aL aa (aT hL g3 g4) ?_ ?_
   ·exact⟨U,U⟩
   refine ae.block ?_;refine aR aa hL ?_ ?_<;>intro J
   ·have D:af (gE wd) (k:Nat)=114:=aC J
    rw[D];refine wr aa (aT hL g3 g4) ?_ ?_
    ·exact mS.zg
    refine⟨⟨(fa t).isSome,{ mH with cO:=Fq σ.ai a },n3,sr⟩,⟨λh=>?_,λh=>?_⟩,rfl,rfl,?_⟩
    ·obtain⟨x,aB⟩:=Dx.1 h;obtain⟨bD,cq⟩:=ta x aB;refine⟨?_,mS,?_⟩
     ·rw[KN KV,aB];dsimp only;rw[bD]
     ·dsimp only;rw[bD];exact⟨bW.len,bW.cx,by show aG x<=100000;omega,bW.e8,(λ_ h=>by cases h),bW.a,bW.b,bW.q⟩
    ·rw[KN KV];cases aB:fa t with
     |none=>rfl
     |some x=>rw[aB]at h;cases h
    ·exact b8 (λk=>if k=1 then .key 728 else .key k) (hV hL @fb.eq_1 g1 g2 g3 g4 gj)
   have D:¬af (gE wd) (k:Nat)=114:=aC J
   clear J;refine aR aa hL ?_ ?_<;>intro J
   ·have O:af (gE wd) (k:Nat)=116:=aC J
    have cb:sS (af (gE wd) (k:Nat)) k a σ.ai mH=if(b9 σ.ai a).k=1 then some (if k=2 then{ mH with dA:=(b9 σ.ai a).t } else{ mH with t:=(b9 σ.ai a).t }) else none:=by rw[O,sS,ab aq,al rfl]
    rw[cb];clear J;refine aL aa (I hL eN) ?_ ?_
    ·exact⟨⟨U,U⟩,L⟩
    refine aR aa hL ?_ ?_<;>intro J
    ·have sE:k=2:=bt J
     refine wr aa (I hL uB) ?_ ?_
     ·exact⟨⟨U,U⟩,L,ajm⟩
     refine⟨⟨decide ((((b9 σ.ai a).k:Nat):Int)=1),{ mH with dA:=(b9 σ.ai a).t },n,r⟩,⟨λh=>?_,λh=>?_⟩,rfl,rfl,?_⟩
     ·have gN:(b9 σ.ai a).k=1:=bt h
      rw[al gN,al sE];exact⟨rfl,hj,⟨bW.len,bW.cx,bW.cO,bW.e8,bW.dz,bW.a,bW.b,bW.q⟩⟩
     ·have gN:¬(b9 σ.ai a).k=1:=bt h
      rw[ab gN]
     ·exact b8 (λk=>if k=1 then .key 728 else .key k) (eI hL @fb.eq_1 g1 g2 g3 g4)
    ·have sE:¬k=2:=bt J
     refine wr aa (I hL uB) ?_ ?_
     ·exact⟨⟨U,U⟩,L,ajm⟩
     refine⟨⟨decide ((((b9 σ.ai a).k:Nat):Int)=1),{ mH with t:=(b9 σ.ai a).t },n,r⟩,⟨λh=>?_,λh=>?_⟩,rfl,rfl,?_⟩
     ·have gN:(b9 σ.ai a).k=1:=bt h
      rw[al gN,ab sE];exact⟨rfl,hj,⟨bW.len,Dp gN,bW.cO,bW.e8,bW.dz,bW.a,bW.b,bW.q⟩⟩
     ·have gN:¬(b9 σ.ai a).k=1:=bt h
      rw[ab gN]
     ·exact b8 (λk=>if k=1 then .key 728 else .key k) (eI hL @fb.eq_1 g1 g2 g3 g4)
   have O:¬af (gE wd) (k:Nat)=116:=aC J
   clear J;refine aR aa hL ?_ ?_<;>intro J
   ·have B:af (gE wd) (k:Nat)=113:=aC J
    have cb:sS (af (gE wd) (k:Nat)) k a σ.ai mH=if(b9 σ.ai a).k=3 then some { mH with q:=a } else none:=by rw[B,sS,ab aq,ab aq,al rfl]
    rw[cb];clear J;refine aL aa (I hL eN) ?_ ?_
    ·exact⟨⟨U,U⟩,L⟩
    refine bY aa hL ?_;refine⟨⟨decide ((((b9 σ.ai a).k:Nat):Int)=3),{ mH with q:=a },n,r⟩,⟨λh=>?_,λh=>?_⟩,rfl,rfl,?_⟩
    ·have gN:(b9 σ.ai a).k=3:=bt h
     rw[al gN];exact⟨rfl,hj,⟨bW.len,bW.cx,bW.cO,bW.e8,bW.dz,bW.a,bW.b,GU⟩⟩
    ·have gN:¬(b9 σ.ai a).k=3:=bt h
     rw[ab gN]
    ·exact b8 (λk=>if k=1 then .key 728 else .key k) (eI hL @fb.eq_1 g1 g2 g3 g4)
   have B:¬af (gE wd) (k:Nat)=113:=aC J
   clear J;have aU:af (gE wd) (k:Nat)=108:=U;have cb:sS (af (gE wd) (k:Nat)) k a σ.ai mH=if(b9 σ.ai a).k=4 then some { mH with a:=a } else none:=by rw[aU,sS,ab aq,ab aq,ab aq]
   rw[cb];refine aA aa (I hL aU) ?_;refine bC hL ?_ ?_<;>intro J
   rotate_left
   ·exact absurd J aq
   clear J;refine aL aa (I hL eN) ?_ ?_
   ·exact⟨⟨U,U⟩,L⟩
   refine bY aa hL ?_;refine⟨⟨decide ((((b9 σ.ai a).k:Nat):Int)=4),{ mH with a:=a },n,r⟩,⟨λh=>?_,λh=>?_⟩,rfl,rfl,?_⟩
   ·have gN:(b9 σ.ai a).k=4:=bt h
    rw[al gN];exact⟨rfl,hj,⟨bW.len,bW.cx,bW.cO,bW.e8,bW.dz,GU,bW.b,bW.q⟩⟩
   ·have gN:¬(b9 σ.ai a).k=4:=bt h
    rw[ab gN]
   ·exact b8 (λk=>if k=1 then .key 728 else .key k) (eI hL @fb.eq_1 g1 g2 g3 g4)
  rintro⟨ok,aBT,jh,bG⟩ ⟨sg,jI⟩ xX;dsimp only at sg jI ⊢;have B:=aBP wd;have dM:=fK k;cases ok with
  |true=>obtain⟨vp,Oq,y3⟩:=sg rfl;rw[vp]at cu;refine dL aa hL ?_;refine bY aa (I hL dM) ?_;refine⟨⟨e0,eu,k+1,aBT,jh,bG⟩,⟨by dsimp only;omega,Oq,y3,cu⟩,by dsimp only;omega,rfl,rfl,?_⟩;exact bh hL
  |false=>
   have vp:=jI rfl;rw[vp]at cu;obtain⟨d,d1,d2⟩:=um k U;have aBU:=((hQ.mono pW).mono bD.cc).mono du.cc;have aBV:=((db.mono pW).mono bD.cc).mono du.cc;have aBW:=((uR.mono pW).mono bD.cc).mono du.cc;obtain⟨lU,j3,aBX,uo,rk⟩:=Za aBU (j:=k) (by rw[lL];omega)
   rw[OV]at rk;obtain⟨pv,_,hx,_⟩:=aBW.aH d1;obtain⟨nR,Dd,aBY,GK,zj⟩:=b0.cell aBV hx;rw[<- Le]at zj;have aEO:=(kC.1 d1).1;rw[<- cu];subst aBX aBY;refine aR aa hL ?_ ?_<;>intro J
   rotate_left
   ·exact absurd J aq
   clear J;refine dh (yE (aP w S fp) σ cs rt a) (b3 hL rk zj d2) ?_ ?_
   ·exact⟨⟨U,U⟩,uo.2,⟨U,U⟩,GK.2,⟨_,_,rfl⟩,aq,λ_ h=>h.elim⟩
   refine AN ?_;have ft:fq e0 (bw (aP w S fp) eu) cs (cY 72 (fy.getD k 0:Nat) σ).ai:=by rw[v8];exact Dq
   refine jQ (ch hL @bZ.eq_1 @bZ.eq_2 @bZ.eq_3 @iA.eq_1 @KT.eq_1 @KT.eq_2 @lH) ?_;exact⟨cs,⟨λE=>rfl,lI (by exact ft),by exact ft⟩,_,_,rfl,(aJ (I hL @bQ)),aq⟩
 ·have e4:k=ps.length:=bt J
  subst e4;rw[OZ,uJ]at cu;rw[<- cu];obtain⟨g1,g2⟩:=hj.one;have ft:fq cy (bw (aP w S fp) ck) (cs++fb { mH with aw:=qn mH σ.ai } n r) (kB mH σ).2.ai:=.snoc _ _ _ _ _ kQ hj;refine c6 ?_;refine aL (OI mH n r σ cs rt) hL ?_ ?_
  ·exact⟨⟨bW,hj.mono pg,kQ.mono pg⟩,aq,λ_ h=>h.elim⟩
  refine bf (ch hL @bZ.eq_1 @bZ.eq_2 @bZ.eq_3 @iA.eq_1 @KT.eq_1 @KT.eq_2 @lH) ?_;exact⟨_,⟨λE=>rfl,lI (by exact ft),by exact ft⟩,_,_,rfl,(aJ (aT hL @oz @bQ)),aq⟩
abbrev ajn (p:Nat)(wd:ao)(aH:List fY)(dy:aX)(no lJ dC:dj)(nP lj dl lk im:Nat)(b2:Int)(fQ fy ps:aD)(σ:bc)(cs:aX)(rt:Int):vl Tryz.prog 96 where
 T:=59
 kinds:=[none,none,some (b5.one,Yi ps)]
 pre:=λfs aj W S=>(fs=kP σ cs rt/\aj=[.val (.agg #[.slice no nP lj,.slice lJ dl lk,.int .i64 b2]),.val (.agg #[.int .i64 4,.int .i64 (p:Nat),.string wd,.slice dC fQ.length im]),.val undef])/\((nP=aH.length/\b0 W S no dy/\gR W S dy aH)/\b0 W S dC (fQ.map λi=>.int .i64 (i:Nat)))/\((fQ.length=ps.length/\ps.length<=(gE wd).size/\∀k (h:k<fQ.length),∃d:fY,aH[fQ[k]]?=some d/\d.at_=fy.getD k 0)/\(∀k (h:k<ps.length),∃t,en σ.ai t ps[k]/\l3 t)/\wd.size<=4096/\σ.ai.length<900000)/\fq W S cs σ.ai
 gA:=λ_ _ _ _ _ _ V h=>⟨h.1,⟨⟨h.2.1.1.1,h.2.1.1.2.1.mono V,h.2.1.1.2.2.mono V⟩,h.2.1.2.mono V⟩,h.2.2.1,h.2.2.2.mono V⟩
 dC:=λ_ _ _=>True
 rT:=λ_ _ _ _ _ _ _=>trivial
 out:=λfs aj=>iA (nG (p:Nat) wd fy ps σ) rt
 enters:=Tryz.call96
 ok:=by
  intro w S u fp us fs aj H ax bp aK hp _ _;obtain⟨⟨rfl,rfl⟩,⟨⟨D,O,B⟩,aU⟩,⟨⟨bn,cA,c1⟩,oq,uy,S2⟩,aBZ⟩:=hp
  match us,aK with
  |[x,y,aE7],aK=>obtain⟨rfl,rfl,⟨q7,rfl,eT,rfl,ay,c,rfl,dP,gY⟩,_⟩:=aK;exact aBS p wd aH dy no lJ dC nP lj dl lk im b2 fQ fy ps ay c σ cs rt u fp w S D O B aU dP bn cA c1 oq uy S2 aBZ H ax bp
def tN(bd:kh):List Value:=bd.flatMap λe=>[.string e.1,.int .i64 (e.2:Nat)]
theorem aB0(l:kh):(tN l).length=l.length*2:=by induction l<;>grind [tN]
theorem Zc:∀(l:kh) (k:Nat) (h:k<l.length),(tN l)[k*2]?=some (.string l[k].1)/\(tN l)[k*2+1]?=some (.int .i64 (l[k].2:Nat))
 |d::l,0,_=>⟨rfl,rfl⟩
 |d::l,k+1,h=>by
  have:=Zc l k (aC h)
  grind [tN]
theorem S3{S:aY}{no:dj}{dy:aX}{aH:List fY}{d:fY}(db:b0 W S no dy)(uR:gR W S dy aH)(ak:aH[i]?=some d):∃(b o:Nat) (dC:dj) (im:Nat),no=some ⟨b,o,none⟩/\S b/\W.cell? ⟨b,o+i*4,none⟩=some (.int .i64 (d.k:Nat))/\W.cell? ⟨b,o+i*4+1,none⟩=some (.int .i64 (d.at_:Nat))/\W.cell? ⟨b,o+i*4+2,none⟩=some (.string d.t)/\W.cell? ⟨b,o+i*4+3,none⟩=some (.slice dC d.ps.length im)/\b0 W S dC (d.ps.map λi=>.int .i64 (i:Nat))/\d.ps.length<=im:=by
 obtain⟨pv,c0,hx,c2,c3,dC,im,rfl,z,S4⟩:=uR.aH ak;obtain⟨b,o,jI,Z,dw⟩:=b0.cell db c0;subst jI;have nI:∀{j:Nat} {v:aM},dy[i*4+j]?=some v->W.cell? ⟨b,o+i*4+j,none⟩=some v:=λh=>by
  obtain⟨p6,u7,D,_,O⟩:=b0.cell db h
  grind
 grind
def OJ(p:Int)(s:ao):cF:={ hU 1 ⟨#[]⟩ p with t:=s }
structure j1 where
 aH:List fY
 dy:List Value
 no:Option Addr
 nP:Nat
 lj:Nat
 lJ:Option Addr
 dl:Nat
 lk:Nat
 b2:Int
 bd:kh
 ay:Option Addr
 nf:Nat
abbrev j1.pv (aE3:j1):Value:=.agg #[.slice aE3.no aE3.nP aE3.lj,.slice aE3.lJ aE3.dl aE3.lk,.int .i64 aE3.b2]
abbrev j1.bv (aE3:j1):Value:=.slice aE3.ay aE3.bd.length aE3.nf
def j1.ok(aE3:j1)(W:ar)(S:aY):Prop:=aE3.nP=aE3.aH.length/\b0 W S aE3.no aE3.dy/\gR W S aE3.dy aE3.aH
theorem j1.ok.mono{aE3:j1}{W aO:World}{S bz:Nat->Prop}(h:aE3.ok W S)(V:bT W S aO bz):aE3.ok aO bz := ⟨h.1,h.2.1.mono V,h.2.2.mono V⟩
def tO(aE3:j1)(i:Nat)(σ:bc)(q:Nat×bc):Prop:=∀(cs:aX) (rt:Int) (u:aM) (fp:aD) (w:ar) (S:aY),aE3.ok w S->b0 w (Out fp) aE3.ay (tN aE3.bd)->fq w S cs σ.ai->eH w u fp 59 (kP σ cs rt)->(∀b∈fp,b<w.heap.size)->(∀b∈fp,¬S b) ->
 Calls Tryz.prog 57 (#[u]++#[aE3.pv,.int .i64 (i:Nat),aE3.bv]) w λx M=>sx w S u fp 59 x M (iA q rt)
def j2:=OH
theorem aB1(aE3:j1)(i:Nat)(σ:bc)(tM:¬σ.a8=0):tO aE3 i σ (0,σ):=by
 intro cs rt u fp w S cb gj jn H ax bp;have cf:=aP.up w S fp;have pW:=aP.ep w S fp bp;have nH:=jn.mono pW;have BH:=cb.mono pW;obtain⟨aH,dy,no,nP,lj,lJ,dl,lk,b2,bd,ay,nf⟩:=aE3;simp only[j1.pv,j1.bv]at *;refine nm (nt:=185) S [.tmp 8] H ax Tryz.func57 ?_;refine bk aa j2 ?_;refine aR aa j2 ?_ ?_<;>intro J
 ·skip;refine aA aa j2 ?_;refine bf (eI j2 @bZ.eq_1 @bZ.eq_2 @bZ.eq_3 @iA.eq_1 @lH) ?_;exact⟨cs,⟨λE=>rfl,lI (by exact nH),by exact nH⟩,_,_,rfl,(aJ (I j2 @bQ)),aq⟩
 ·exact absurd (aC J) tM
theorem aB2(aE3:j1)(i a:Nat)(s:ao)(σ:bc)(tM:σ.a8=0)(ak:aE3.aH[i]?=some ⟨2,a,s,[]⟩)(V:s.size<=4096)(aN:σ.ai.length<900000):tO aE3 i σ (kB { hU 1 ⟨#[]⟩ (a:Nat) with t:=s } σ):=by
 intro cs rt u fp w S cb gj jn H ax bp;have cf:=aP.up w S fp;have pW:=aP.ep w S fp bp;have nH:=jn.mono pW;have BH:=cb.mono pW;obtain⟨aH,dy,no,nP,lj,lJ,dl,lk,b2,bd,ay,nf⟩:=aE3;simp only[j1.pv,j1.bv]at *;obtain⟨qS,db,uR⟩:=BH;simp only at qS db uR ak gj
 have hi:=(kC.1 ak).1;obtain⟨b,o,dC,im,rfl,Z,dw,ee,fh,gO,z,S4⟩:=S3 db uR ak;simp only at dw ee fh gO;refine nm (nt:=185) S [.tmp 8] H ax Tryz.func57 ?_;refine bk aa j2 ?_;refine aR aa j2 ?_ ?_<;>intro J
 ·exact absurd tM (aC J)
 clear J;refine a1 ?_;refine aL aa (de j2 dw ee fh gO) ?_ ?_
 ·exact⟨⟨U,U⟩,Z.2⟩
 refine gJ aa j2 ?_;refine bC j2 ?_ ?_<;>intro J
 ·exact absurd J aq
 clear J;refine aR aa j2 ?_ ?_<;>intro J
 rotate_left
 ·exact absurd J aq
 clear J;refine aL (OI OA xk oN σ cs rt) j2 ?_ ?_
 ·exact⟨_,_,_,rfl⟩
 refine aA aa j2 ?_;have bW:tK (OJ (a:Nat) s) σ.ai:=⟨U,V,ef _,⟨uU rfl,uU rfl⟩,(λh=>by have h:(1:Nat)=2:=h;omega),tL _,tL _,tL _⟩
 have ft:fq w (bw (aP w S fp) fp) (cs++fb { OJ (a:Nat) s with aw:=qn (OJ (a:Nat) s) σ.ai } xk oN) (kB (OJ (a:Nat) s) σ).2.ai:=.snoc _ _ _ _ _ nH ⟨rfl,rfl⟩;refine aL (OI (OJ (a:Nat) s) xk oN σ cs rt) j2 ?_ ?_
 ·exact⟨⟨rfl,bW,⟨rfl,rfl⟩,nH.mono pg⟩,aq,λ_ h=>h.elim⟩
 refine bf (eI j2 @bZ.eq_1 @bZ.eq_2 @bZ.eq_3 @iA.eq_1 @lH) ?_;exact⟨_,⟨λE=>rfl,lI (by exact ft),by exact ft⟩,_,_,rfl,(aJ (aT j2 @oz @bQ)),aq⟩
theorem aB3(aE3:j1)(i a:Nat)(s:ao)(σ:bc)(tM:σ.a8=0)(ak:aE3.aH[i]?=some ⟨1,a,s,[]⟩)(Cp:aE3.bd.length<=100000):tO aE3 i σ (Fl aE3.bd a s σ):=by
 intro cs rt u fp w S cb gj jn H ax bp;have cf:=aP.up w S fp;have pW:=aP.ep w S fp bp;have nH:=jn.mono pW;have BH:=cb.mono pW;obtain⟨aH,dy,no,nP,lj,lJ,dl,lk,b2,bd,ay,nf⟩:=aE3;simp only[j1.pv,j1.bv]at *;obtain⟨qS,db,uR⟩:=BH;simp only at qS db uR ak gj
 have hi:=(kC.1 ak).1;obtain⟨b,o,dC,im,rfl,Z,dw,ee,fh,gO,z,S4⟩:=S3 db uR ak;simp only at dw ee fh gO;refine nm (nt:=185) S [.tmp 8] H ax Tryz.func57 ?_;refine bk aa j2 ?_;refine aR aa j2 ?_ ?_<;>intro J
 ·exact absurd tM (aC J)
 clear J;refine a1 ?_;refine aL aa (de j2 dw ee fh gO) ?_ ?_
 ·exact⟨⟨U,U⟩,Z.2⟩
 refine gJ aa j2 ?_;refine bC j2 ?_ ?_<;>intro J
 rotate_left
 ·exact absurd J aq
 clear J;refine bk aa j2 ?_;have Cp:bd.length<=100000:=Cp;refine ae.block ?_
 refine ae.loop (λk:Nat=>⟨40,bK [(0,.is (.own 0 0)),(3,.is (.v (.slice ay bd.length nf))),(9,.is (.own 104 0)),(10,.is (.v (.int .i64 (k:Nat))))],bA [(0,.cells 59 [.ak 1,.v (.int .i64 rt),.v (.int .i64 σ.a8),.v (.int .i64 σ.at_)]),(1,.row 66 11 σ.ai.length (cs.map .v)),(104,.cells 181 [.v (.int .i64 1),.v (.int .i64 (a:Nat)),.v (.string s),.v (.slice dC 0 im)])]⟩) (λk=>k<=bd.length/\vW (bd.drop k) s=vW bd s) (λk=>bd.length-k) 0 ?_ ⟨ef _,rfl⟩ ?_
 ·exact bh (aT j2 @gq (show((1:Nat):Int)=1 from rfl))
 rintro k ⟨ad,H6⟩;refine ae.seq ?_;refine aR aa j2 ?_ ?_<;>intro J
 ·have sd:k<bd.length:=by
   simp_all
  clear J;obtain⟨mo,vp⟩:=Zc bd k sd;obtain⟨lU,j3,JM,uo,z0⟩:=b0.cell gj mo;subst JM;have JW:w.cell? ⟨lU,j3+k*2+1,none⟩=some (.int .i64 (bd[k].2:Nat)):=by
   obtain⟨p6,u7,D,_,O⟩:=b0.cell gj vp
   grind
  have KW:bd.drop k=bd[k]::bd.drop (k+1):=Dw sd;rw[KW]at H6;generalize qs:bd[k]=e at *;obtain⟨iC,aB4⟩:=e;rw[vW]at H6;have dM:IntKind.i64.wrap ((k:Int)+1)=((k+1:Nat):Int):=by grind [gb]
  refine a1 ?_;refine ae.seq (ae.block ?_);refine dh aa (I j2 z0) ?_ ?_
  ·exact⟨⟨U,U⟩,uo⟩
  refine bC j2 ?_ ?_<;>intro J
  ·have e7:iC=s:=aC J
   rw[al e7]at H6;refine aL aa (I j2 JW) ?_ ?_
   ·grind [Out]
   refine AN ?_;have bo:Fl bd a s σ=(aB4,σ):=by grind [Fl]
   rw[bo];refine jQ (eI j2 @bZ.eq_1 @bZ.eq_2 @bZ.eq_3 @iA.eq_1 @lH) ?_;exact⟨cs,⟨λE=>rfl,lI (by exact nH),by exact nH⟩,_,_,rfl,(aJ (I j2 @bQ)),aq⟩
  ·have e7:¬iC=s:=aC J
   rw[ab e7]at H6;refine a1 ?_;refine bY aa (I j2 dM) ?_;refine⟨k+1,⟨U,H6⟩,U,?_⟩;exact bh j2
 ·have e4:k=bd.length:=by
   grind
  subst e4;rw[OZ]at H6;have bo:Fl bd a s σ=(0,cY 70 (a:Nat) σ):=by unfold Fl;rw[<- H6];rfl
  rw[bo];refine c6 ?_;refine aL (yE (aP w S fp) σ cs rt 0) j2 ?_ ?_
  ·exact⟨⟨_,_,rfl⟩,aq,λ_ h=>h.elim⟩
  refine AN ?_;have ft:fq w (bw (aP w S fp) fp) cs (cY 70 (a:Nat) σ).ai:=by grind [v8]
  refine jQ (eI j2 @bZ.eq_1 @bZ.eq_2 @bZ.eq_3 @iA.eq_1 @lH) ?_;exact⟨cs,⟨λE=>rfl,lI (by exact ft),by exact ft⟩,_,_,rfl,(aJ (I j2 @bQ)),aq⟩
abbrev ajo(s:ao):Env Tryz.prog:=a7 ((aeI s).spec) aa
def qX:=(I j2 @aeI.eq_1)
theorem aB5(aE3:j1)(i a:Nat)(s:ao)(σ:bc)(tM:σ.a8=0)(ak:aE3.aH[i]?=some ⟨3,a,s,[]⟩)(aQ:a<=4096)(V:s.size<=4096)(aN:σ.ai.length<900000):tO aE3 i σ (Fm a s σ):=by
 intro cs rt u fp w S cb gj jn H ax bp;have cf:=aP.up w S fp;have pW:=aP.ep w S fp bp;have nH:=jn.mono pW;have BH:=cb.mono pW;obtain⟨aH,dy,no,nP,lj,lJ,dl,lk,b2,bd,ay,nf⟩:=aE3;simp only[j1.pv,j1.bv]at *;obtain⟨qS,db,uR⟩:=BH;simp only at qS db uR ak gj
 have hi:=(kC.1 ak).1;obtain⟨b,o,dC,im,rfl,Z,dw,ee,fh,gO,z,S4⟩:=S3 db uR ak;simp only at dw ee fh gO;refine nm (nt:=185) S [.tmp 8] H ax Tryz.func57 ?_;refine bk aa qX ?_;refine aR aa qX ?_ ?_<;>intro J
 ·exact absurd tM (aC J)
 clear J;refine a1 ?_;refine aL aa (de qX dw ee fh gO) ?_ ?_
 ·exact⟨⟨U,U⟩,Z.2⟩
 refine gJ aa qX ?_;refine bC qX ?_ ?_<;>intro J
 ·exact absurd J aq
 clear J;refine aR aa qX ?_ ?_<;>intro J
 ·exact absurd J aq
 clear J;refine aR aa qX ?_ ?_<;>intro J
 rotate_left
 ·exact absurd J aq
 clear J;cases Ds:lX s with
 |error e=>
  obtain⟨c,j⟩:=e;have aB6:vt s=.error (c,j):=by rw[Hg,Ds];rfl
  have eL:=WI Ds
  have bo:Fm a s σ=(0,cY c (IntKind.i64.wrap ((a:Nat)+1+j)) σ):=by simp_all [Fm]
  rw[bo];have CD:IntKind.i64.wrap ((a:Nat)+1:Int)=(a:Nat)+1:=gb U U;refine aL (ajo s) (ch qX Ds @JS.eq_1 @JS.eq_2 @JT.eq_1 @JT.eq_2 @Hi.eq_1 @Hi.eq_2) ?_ ?_
  ·omega
  refine ae.seq ?_;refine aR aa qX ?_ ?_<;>intro J
  rotate_left
  ·exact absurd (aC J) eL
  clear J;refine aL (yE (aP w S fp) σ cs rt 0) (I qX CD) ?_ ?_
  ·exact⟨⟨_,_,rfl⟩,aq,λ_ h=>h.elim⟩
  refine AN ?_;have ft:fq w (bw (aP w S fp) fp) cs (cY c (IntKind.i64.wrap ((a:Nat)+1+j)) σ).ai:=by grind [v8]
  refine jQ (eI qX @bZ.eq_1 @bZ.eq_2 @bZ.eq_3 @iA.eq_1 @lH) ?_;exact⟨cs,⟨λE=>rfl,lI (by exact ft),by exact ft⟩,_,_,rfl,(aJ (I qX @bQ)),aq⟩
 |ok t=>
  have aB6:vt s=.ok t.expand:=by rw[Hg,Ds];rfl
  have bP:=aeE Ds
  have bo:Fm a s σ=xh (a:Nat) t.expand σ:=by simp_all [Fm]
  rw[bo];have hit:fl (dq 0 t.expand) (aG t.expand-1) t.expand:=by have:=aew t.expand [] [];simpa using this
  have Iu:=uv t.expand 0;refine aL (ajo s) (ch qX Ds @JS.eq_1 @JS.eq_2 @JT.eq_1 @JT.eq_2 @Hi.eq_1 @Hi.eq_2) ?_ ?_
  ·omega
  refine ae.rQ 200 (aJ (I qX @gr)) (λE=>by simp only[ba,den,gr];exact rfl) λcy ck ajp hx bD e7 jr=>?_
  have cT:=cf.ext bD;have kQ:=nH.mono bD.cc;have dP:qV cy (bw (aP w S fp) ck) (.slice ajp (aG t.expand) hx) (.int .i64 ((aG t.expand-1:Nat):Int)) (some t.expand):=⟨dq 0 t.expand,ajp,hx,aG t.expand-1,by rw[Iu],rfl,NJ cf e7,hit,U,Iu⟩;refine bk aa qX ?_;refine bC qX ?_ ?_<;>intro J
  ·exact absurd J aq
  clear J;refine a1 ?_;refine aL (Fs (aP w S fp) σ cs rt 2 .bV .bV (a:Nat) t.expand) qX ?_ ?_
  ·exact⟨⟨tJ dP,kQ,U,U⟩,aq,(λ_ h=>h.elim),cT⟩
  refine ae.dt 327 (aJ qX) (bT.refl _ _) λcL c7 h9 cq hg=>?_
  have eQ:=v7 (K:=327) hg;refine bf (hV qX @bZ.eq_1 @bZ.eq_2 @bZ.eq_3 @iA.eq_1 @lH eQ) ?_;exact⟨h9,⟨λE=>rfl,lI (by exact hg),by exact hg⟩,_,_,rfl,(aJ (aT qX @bQ eQ)),aq⟩
end
section
open Go Go.RowKit Go.LE
variable(k:Nat)
def Fu(k:Nat)(p:Int)(s:ao)(fy ps:aD)(σ:bc):Nat×bc:=
 if k=5 then Fk p (ps.getD 0 0) σ
 else if k=6 then BE p s (ps.getD 0 0) σ
 else if k=7 then nF p s (ps.getD 0 0) (ps.getD 1 0) σ
 else nG p s fy ps σ
def Dt(k:Nat)(p:Int)(s:ao)(fy:aD)(q:List Nat×bc):Nat×bc:=if q.2.a8=0 then sT p (Fu k p s fy q.1 q.2) else(0,q.2)
theorem ajq(bd:kh)(a:Nat)(x:bO)(σ:bc)(h:σ.a8=0):eR bd (.keyed a x) σ=Dt 5 (a:Nat) ⟨#[]⟩ (eb (.cons x .nil)) (jb bd (.cons x .nil) σ):=by simp only[eR,jb];rw[al h];rfl
theorem ajr(bd:kh)(a:Nat)(op:ao)(x:bO)(σ:bc)(h:σ.a8=0):eR bd (.unary a op x) σ=Dt 6 (a:Nat) op (eb (.cons x .nil)) (jb bd (.cons x .nil) σ):=by simp only[eR,jb];rw[al h];rfl
def ajs(bd:kh)(a:Nat)(op:ao)(x y:bO)(σ:bc)(h:σ.a8=0):eR bd (.binary a op x y) σ=Dt 7 (a:Nat) op (eb (.cons x (.cons y .nil))) (jb bd (.cons x (.cons y .nil)) σ):=by simp only[eR,jb];rw[al h];rfl
theorem ajt(bd:kh)(a:Nat)(w:ao)(l:bO)(σ:bc)(h:σ.a8=0):eR bd (.call a w l) σ=Dt 4 (a:Nat) w (eb l) (jb bd l σ):=by simp only[eR];rw[al h];rfl
theorem aB7(p:Int)(q:Nat×bc)(h:¬q.2.a8=0):sT p q=q:=by grind [sT]
theorem aB8(d:cF)(σ:bc):(kB d σ).1<(kB d σ).2.ai.length:=by grind [kB]
theorem aB9(p:Int)(s:ao)(fy ps:aD){σ:bc}(h:0<σ.ai.length):(Fu k p s fy ps σ).1<(Fu k p s fy ps σ).2.ai.length:=by
 have no:∀e p:Int,((0,cY e p σ):Nat×bc).1<((0,cY e p σ):Nat×bc).2.ai.length:=λe p=>by grind [v8]
 unfold Fu Fk BE nF Aa nG
 grind [aB8,pe,xh]
theorem aCa(p:Int)(s:ao)(fy ps:aD)(σ:bc):(Fu k p s fy ps σ).2.ai.length<=σ.ai.length+2:=by
 have no:∀e p:Int,((0,cY e p σ):Nat×bc).2.ai.length<=σ.ai.length+2:=λe p=>by rw[v8];omega
 have PO:∀(d:cF) (cd:bc),cd.ai.length<=σ.ai.length+1->(kB d cd).2.ai.length<=σ.ai.length+2:=λd cd h=>by rw[H0];omega
 unfold Fu Fk BE nF Aa nG
 repeat' split
 all_goals first
  |exact no _ _
  |exact PO _ _ (Nat.le_succ _)
  |exact PO _ _ (by show(kB _ σ).2.ai.length<=_;rw[H0];exact eo _)
theorem aCb(p:Int)(q:Nat×bc):(sT p q).2.ai=q.2.ai:=by grind [v8,sT]
theorem S5(p:Int)(s:ao)(fy:aD)(q:List Nat×bc):(Dt k p s fy q).2.ai.length<=q.2.ai.length+2:=by
 unfold Dt;split
 ·grind [aCb,aCa]
 simp
theorem aju(bd:kh)(x:bO):(∀σ:bc,(eR bd x σ).2.ai.length<=σ.ai.length+2*fU x)/\(∀σ:bc,(jb bd x σ).2.ai.length<=σ.ai.length+2*fU x):=by
 have a8:∀(x:bO) (n:Nat) (σ:bc),¬σ.a8=0->(eR bd x σ).2.ai.length<=σ.ai.length+n:=λx n σ h=>by grind [Fo]
 induction x with
 |name a s=>
  refine⟨λσ=>?_,λσ=>by simp_all [jb]⟩;by_cases h:σ.a8=0
  all_goals grind [v8,eR,Fl]
 |text a s=>
  refine⟨λσ=>?_,λσ=>by simp_all [jb]⟩;by_cases h:σ.a8=0
  all_goals grind [H0,eR,fU]
 |rx a s=>
  refine⟨λσ=>?_,λσ=>by simp_all [jb]⟩;by_cases h:σ.a8=0
  all_goals grind [H0,v8,eR,Fm,xh,fU]
 |keyed a x bb=>
  refine⟨λσ=>?_,λσ=>by simp_all [jb]⟩;by_cases h:σ.a8=0
  all_goals grind [ajq,S5,jb,fU,eR]
 |unary a op x bb=>
  refine⟨λσ=>?_,λσ=>by simp_all [jb]⟩;by_cases h:σ.a8=0
  all_goals grind [ajr,S5,jb,fU,eR]
 |binary a op x y iz zS=>
  refine⟨λσ=>?_,λσ=>by simp_all [jb]⟩;by_cases h:σ.a8=0
  ·rw[ajs bd a op x y σ h];refine xp (S5 _ _ _ _ _) ?_
   grind [jb,fU]
  simp_all
 |call a w l bb=>
  refine⟨λσ=>?_,λσ=>by simp_all [jb]⟩;by_cases h:σ.a8=0
  all_goals grind [ajt,S5,fU,eR]
 |nil=>grind [eR,jb]
 |cons x l iz R1=>grind [eR,fU,jb]
end
section
open Go Go.RowKit Go.LE
set_option maxRecDepth 10000
variable{n i:Nat}{W:ar}{ai:List cF}{bs:aD}
abbrev ajv (aE3:j1)(i:Nat)(σ:bc)(q:Nat×bc)(h:tO aE3 i σ q)(cs:aX)(rt:Int):vl Tryz.prog 57 where
 T:=59
 kinds:=[none,none,none]
 pre:=λfs aj W S=>(fs=kP σ cs rt/\aj=[.val aE3.pv,.val (.int .i64 (i:Nat)),.val aE3.bv])/\aE3.ok W S/\fq W S cs σ.ai
 gA:=λ_ _ _ _ _ _ V h=>⟨h.1,h.2.1.mono V,h.2.2.mono V⟩
 dC:=λ_ W S=>b0 W S aE3.ay (tN aE3.bd)
 rT:=λ_ _ _ _ _ V h=>h.mono V
 out:=λfs aj=>iA q rt
 enters:=Tryz.call57
 ok:=by
  intro w S u fp us fs aj H ax bp aK hp vk _;obtain⟨⟨rfl,rfl⟩,D,O⟩:=hp
  match us,aK with
  |[x,y,aE7],aK=>obtain⟨rfl,rfl,rfl,_⟩:=aK;exact h cs rt u fp w S D vk O H ax bp
def KX(aE3:j1)(v:dN):bO->Prop
 |.cons x l=>(∀(j:Nat) (σ:bc),e2 aE3.aH x j->(σ.a8=0->n8 σ.ai aE3.bd v)->σ.ai.length+2*fU x+2<=900000->tO aE3 j σ (eR aE3.bd x σ))/\KX aE3 v l
 |_=>True
structure Zd where
 W:World
 bs:List Nat
 cs:List Value
 ps:List Nat
 σ:bc
 l:bO
 j:Nat
structure KY where
 W:World
 bs:List Nat
 cs:List Value
section
variable (G:aY)(aE3:j1)(i:Nat)(σ:bc)(q:Nat×bc)(h:tO aE3 i σ q)(cs:aX)(rt:Int)
abbrev aCc:Env Tryz.prog:=a7 ((ajv aE3 i σ q h cs rt).spec G) aa
end
def e2.at{aH:List fY}{x:bO}{i:Nat}(h:e2 aH x i):∃d,aH[i]?=some d/\d.at_=HB x:=by
 cases x with
 |name a s=>simp only[e2]at h;exact⟨_,h,rfl⟩
 |text a s=>simp only[e2]at h;exact⟨_,h,rfl⟩
 |rx a s=>simp only[e2]at h;exact⟨_,h,rfl⟩
 |call a w l=>simp only[e2]at h;obtain⟨q,h,_⟩:=h;exact⟨_,h,rfl⟩
 |keyed a x=>simp only[e2]at h;obtain⟨q,h,_⟩:=h;exact⟨_,h,rfl⟩
 |unary a op x=>simp only[e2]at h;obtain⟨q,h,_⟩:=h;exact⟨_,h,rfl⟩
 |binary a op x y=>simp only[e2]at h;obtain⟨q,Vv,h,_⟩:=h;exact⟨_,h,rfl⟩
 |nil=>simp only[e2]at h
 |cons x l=>simp only[e2]at h
def aCd{aH:List fY}:∀{l:bO} {fQ:aD},hT aH l fQ->∀k (h:k<fQ.length),∃d,aH[fQ[k]]?=some d/\d.at_=(eb l).getD k 0:=by
 intro l
 induction l with
 |cons x l _ bb=>
  intro fQ h k ad;simp only[hT]at h;obtain⟨p,r,rfl,D,O⟩:=h;cases k with
  |zero=>exact D.at
  |succ k=>exact bb O k (aC ad)
 |nil=>intro fQ h k ad;simp only[hT]at h;subst h;exact absurd ad (wb _)
 |_=>exact λ{fQ} h=>by simp only[hT]at h
section
variable (G:aY)(σ:bc)(cs:aX)(rt:Int)(p:Nat)(s:ao)
abbrev aCe(dC:dj)(sV im:Nat)(t:cl)(a:Nat):Env Tryz.prog:=a7 ((aji p s dC sV im t a σ cs rt).spec G) aa
abbrev aCf(dC:dj)(sV im:Nat)(t eU:cl)(a cn:Nat):Env Tryz.prog:=a7 ((ajj p s dC sV im t eU a cn σ cs rt).spec G) aa
abbrev aCg(aH:List fY)(dy:aX)(no lJ dC:dj)(nP lj dl lk im:Nat)(b2:Int)(fQ fy ps:aD):Env Tryz.prog:=a7 ((ajn p s aH dy no lJ dC nP lj dl lk im b2 fQ fy ps σ cs rt).spec G) aa
end
theorem hT.len{aH:List fY}:∀{l:bO} {ps:aD},hT aH l ps->ps.length=sa l:=by
 intro l
 induction l with
 |cons x l _ bb=>intro ps h;simp only[hT]at h;obtain⟨p,r,rfl,_,B⟩:=h;simp only[l9,sa,bb B]
 |nil=>intro ps h;simp only[hT]at h;subst h;rfl
 |_=>exact λ{ps} h=>by simp only[hT]at h
def hb:=(ch OH @aji.eq_1 @ajj.eq_1 @ajn.eq_1 @ajv.eq_1 @j1.pv.eq_1 @j1.bv.eq_1 @iA.eq_1)
theorem S6(aE3:j1)(i k p:Nat)(s:ao)(fQ:aD)(L:bO)(v:dN)(σ:bc)(tM:σ.a8=0)(ak:aE3.aH[i]?=some ⟨k,p,s,fQ⟩)(ad:k=4\/k=5\/k=6\/k=7)(gi:hT aE3.aH L fQ)(S7:dZ L)(au:n8 σ.ai aE3.bd v)(k9:qm v)
  (aEP:0<fQ.length) (aCh:k=5->fQ.length=1/\s=⟨#[]⟩) (aCi:k=6->fQ.length=1) (aCj:k=7->fQ.length=2) (aCk:k=4->fQ.length<=(gE s).size) (V:s.size<=4096) (aCl:fQ.length<=3) (hlen:σ.ai.length+2*fU L+2<=900000) (ux:KX aE3 v L):tO aE3 i σ (Dt k (p:Nat) s (eb L) (jb aE3.bd L σ)):=by
 intro cs rt u fp w S cb gj jn H ax bp;have cf:=aP.up w S fp;have pW:=aP.ep w S fp bp;have nH:=jn.mono pW;have BH:=cb.mono pW;obtain⟨aH,dy,no,nP,lj,lJ,dl,lk,b2,bd,ay,nf⟩:=aE3;simp only[j1.pv,j1.bv]at *;obtain⟨qS,db,uR⟩:=BH;simp only at qS db uR ak gj
 have hi:=(kC.1 ak).1;obtain⟨b,o,dC,im,rfl,Z,dw,ee,fh,gO,z,S4⟩:=S3 db uR ak;simp only at dw ee fh gO;refine nm (nt:=185) S [.tmp 8] H ax Tryz.func57 ?_;refine bk aa hb ?_;refine aR aa hb ?_ ?_<;>intro J
 ·exact absurd tM (aC J)
 clear J;refine a1 ?_;refine aL aa (de hb dw ee fh gO) ?_ ?_
 ·exact⟨⟨U,U⟩,Z.2⟩
 refine dL aa hb ?_;refine aR aa hb ?_ ?_<;>intro J
 ·exact absurd (aC J) (show¬((k:Nat):Int)=1 by omega)
 clear J;refine aR aa hb ?_ ?_<;>intro J
 ·exact absurd (aC J) (show¬((k:Nat):Int)=2 by omega)
 clear J;refine aR aa hb ?_ ?_<;>intro J
 ·exact absurd (aC J) (show¬((k:Nat):Int)=3 by omega)
 clear J;refine ti aa hb ?_;have aEQ:fQ.length<=3:=aCl;generalize dW:jb bd L σ=R
 refine ae.q4 (λq:Zd=>⟨40,bK [(0,.is (.own 0 0)),(3,.is (.v (.slice ay bd.length nf))),(5,.is (.own 8 0)),(9,.is (.own 104 0)),(15,.is (.ak 2)),(16,.is (.v (.int .i64 (q.j:Nat))))],bA [(0,.cells 59 [.ak 1,.v (.int .i64 rt),.v (.int .i64 q.σ.a8),.v (.int .i64 q.σ.at_)]),(1,.row 66 11 q.σ.ai.length (q.cs.map .v)),(8,.cells 117 [.v (.slice (some ⟨b,o,none⟩) nP lj),.v (.slice lJ dl lk),.v (.int .i64 b2)]),(104,.cells 181 [.v (.int .i64 (k:Nat)),.v (.int .i64 (p:Nat)),.v (.string s),.v (.slice dC fQ.length im)]),(2,.row 3 1 q.ps.length ((uI q.ps).map .v))]⟩)
  Zd.W Zd.bs (λq=>fq q.W (bw (aP w S fp) q.bs) q.cs q.σ.ai/\(q.j=q.ps.length/\q.j<=fQ.length/\hT aH q.l (fQ.drop q.j)/\KX ⟨aH,dy,some ⟨b,o,none⟩,nP,lj,lJ,dl,lk,b2,bd,ay,nf⟩ v q.l/\dZ q.l)/\(q.ps++(jb bd q.l q.σ).1,(jb bd q.l q.σ).2)=R/\(q.σ.a8=0->n8 q.σ.ai bd v/\∀m (h:m<q.ps.length),∃t,en q.σ.ai t q.ps[m]/\l3 t)/\q.σ.ai.length+2*fU q.l+2<=900000) (λq=>fQ.length-q.j) ⟨w,fp,cs,[],σ,L,0⟩ rfl rfl ?_ ⟨nH,⟨rfl,ef _,gi,ux,S7⟩,dW,λ_=>⟨au,λm h=>absurd h (wb _)⟩,hlen⟩ ?_
 ·exact b8 (λk=>if k=2 then .nil else .key k) (aT hb @uI.eq_1 @gq)
 rintro⟨cy,ck,hn,ps,bB,l,j⟩ ⟨kQ,⟨Y,AK,vR,ve,OK⟩,cu,dP,Ze⟩ bD;simp only at kQ Y AK vR ve OK cu dP Ze bD;dsimp only;have cT:=cf.ext bD;refine ae.seq ?_;refine aR aa hb ?_ ?_<;>intro J
 ·have sd:j<fQ.length:=bt J
  clear J;have KW:fQ.drop j=fQ[j]::fQ.drop (j+1):=Dw sd;obtain⟨x,kU,rfl⟩:∃x kU,l=.cons x kU:=by
   rw[KW]at vR;cases l with
   |cons x kU=>exact⟨x,kU,rfl⟩
   |nil=>simp only[hT]at vR;cases vR
   |_=>simp only[hT]at vR
  simp only[hT]at vR;obtain⟨Un,aER,B3,fv,X3⟩:=vR;rw[KW]at B3;obtain⟨Jx,Eg⟩:=TF B3;subst Jx Eg;simp only[dZ]at OK;simp only[fU]at Ze;obtain⟨aCm,aCn⟩:=ve;have yB:=aCm _ bB fv (λh=>(dP h).1) U
  have mc:(eR bd x bB).2.a8=0->∃t,bB.a8=0/\bB.ai <+: (eR bd x bB).2.ai/\en (eR bd x bB).2.ai t (eR bd x bB).1/\l3 t:=λh=>by
   by_cases D:bB.a8=0
   ·have aQ:=(SS aH v bd x OK.1).1 _ fv bB D (dP D).1;cases hm:dk v x with
    |error e=>rw[hm]at aQ;exact absurd (aQ.2.1.symm.trans h) aQ.1
    |ok t=>rw[hm]at aQ;exact⟨t,D,aQ.2.1,aQ.2.2,C4 k9 OK.1 hm⟩
   ·rw[Fo bd x bB D]at h;exact absurd h D
  have JH:=(aju bd x).1 bB;simp only[jb]at cu;obtain⟨lU,j3,vk,uo,rk⟩:=Za (z.mono bD.cc) (j:=j) (by rw[lL];exact sd);rw[OV]at rk;have Zf:=(cb.mono pW).mono bD.cc;have aCo:=gj.mono bD.ep;have dM:=fK j;subst vk
  obtain⟨iz,Ck,hQ⟩:∃a b,eR bd x bB=(a,b):=⟨_,_,rfl⟩;have aCp:tO ⟨aH,dy,some ⟨b,o,none⟩,nP,lj,lJ,dl,lk,b2,bd,ay,nf⟩ fQ[j] bB (iz,Ck):=by rw[<- hQ];exact yB
  rw[hQ]at mc JH cu;simp only at mc JH cu;refine a1 ?_;refine ae.seq (ae.block ?_);refine ae.more ?_;refine iP (aCc (aP w S fp) ⟨aH,dy,some ⟨b,o,none⟩,nP,lj,lJ,dl,lk,b2,bd,ay,nf⟩ fQ[j] bB (iz,Ck) aCp hn rt) (I hb rk) ?_ ?_
  ·exact⟨⟨U,U⟩,uo.2,⟨⟨⟨Zf,kQ⟩,aCo⟩,aq,(λ_ h=>h.elim),cT⟩,by unfold maxLen;omega,U⟩
  refine pw ?_;refine eZ.dt 439 (aJ hb) (bT.refl _ _) λcL c7 h9 cq hg=>?_
  have eQ:=v7 (K:=439) hg;refine eZ.here ?_;refine kG ?_;refine bY aa (aT hb dM eQ) ?_;have em:List.map ag.v (uI ps)++[.v (.int .i64 (iz:Nat))]=List.map ag.v (uI (ps++[iz])):=by simp[uI]
  have el:(ps++[iz]).length=ps.length+1:=by simp
  refine⟨⟨cL,c7,h9,ps++[iz],Ck,kU,j+1⟩,⟨hg,⟨by rw[el];dsimp only;omega,by dsimp only;omega,X3,aCn,OK.2⟩,?_,λh=>?_,by dsimp only;omega⟩,by dsimp only;omega,rfl,rfl,?_⟩
  ·dsimp only;rw[<- cu];simp
  ·obtain⟨t,D,O,B,aU⟩:=mc h;obtain⟨v1,v2⟩:=dP D;refine⟨v1.pre O,λm hm=>?_⟩;dsimp only at hm ⊢;rw[el]at hm;by_cases Mr:m<ps.length
   ·obtain⟨eU,e8,dz⟩:=v2 m Mr;exact⟨eU,by rw[Fx Mr];exact e8.pre O,dz⟩
   ·obtain rfl:m=ps.length:=U;exact⟨t,by simpa using B,aU⟩
  ·exact b8 (λk=>if k=1 then .key 432 else if k=2 then .key 448 else .key k) (b3 hb eQ em el)
 ·have aCq:j=fQ.length:=bt J
  clear J;have Z8:l=.nil:=by
   rw[aCq,OZ]at vR;cases l with
   |nil=>rfl
   |cons x kU=>simp only[hT]at vR;obtain⟨p,r,h,_⟩:=vR;cases h
   |_=>simp only[hT]at vR
  subst Z8;simp only[jb,yI]at cu;subst cu;simp only[fU]at Ze;have Zf:=(cb.mono pW).mono bD.cc;refine c6 ?_;refine ae.seq ?_;refine aR aa hb ?_ ?_<;>intro J
  ·have Fc:¬bB.a8=0:=aC J
   have bo:Dt k (p:Nat) s (eb L) (ps,bB)=(0,bB):=ab Fc;rw[bo];refine aA aa hb ?_;refine bf (eI hb @bZ.eq_1 @bZ.eq_2 @bZ.eq_3 @iA.eq_1 @lH) ?_;exact⟨hn,⟨λE=>rfl,lI (by exact kQ),by exact kQ⟩,_,_,rfl,(aJ (I hb @bQ)),aq⟩
  have Fc:bB.a8=0:=aC J
  clear J;obtain⟨aES,r6⟩:=dP Fc;have bo:Dt k (p:Nat) s (eb L) (ps,bB)=sT (p:Nat) (Fu k (p:Nat) s (eb L) ps bB):=al Fc;rw[bo];refine bk aa hb ?_;have GU:=aB9 k (p:Nat) s (eb L) ps (σ:=bB) (by
   obtain⟨t,bJ,_⟩:=r6 0 U
   have:=bJ.aH.1
   omega)
  generalize oh:Fu k (p:Nat) s (eb L) ps bB=ea
  refine rb (λq:KY=>⟨200,bK [(0,.is (.own 0 0)),(9,.is (.own 104 0)),(17,.is (.v (.int .i64 (ea.1:Nat))))],bA [(0,.cells 59 [.ak 1,.v (.int .i64 rt),.v (.int .i64 ea.2.a8),.v (.int .i64 ea.2.at_)]),(1,.row 66 11 ea.2.ai.length (q.cs.map .v)),(104,.cells 181 [.v (.int .i64 (k:Nat)),.v (.int .i64 (p:Nat)),.v (.string s),.v (.slice dC fQ.length im)])]⟩) KY.W KY.bs (λq=>fq q.W (bw (aP w S fp) q.bs) q.cs ea.2.ai) ?_ ?_
  ·skip;refine bk aa hb ?_;refine aR aa hb ?_ ?_<;>intro J
   ·have bn:k=5:=bt J
    subst bn;clear J;obtain⟨a,rfl⟩:∃a,ps=[a]:=by
     have:=(aCh rfl).1
     match ps,(show ps.length=1 by omega) with
     |[a],_=>exact⟨a,rfl⟩
    obtain⟨t,bJ,kD⟩:=r6 0 bq;have bJ:en bB.ai t a:=bJ;obtain⟨aQ,Dp,_,_⟩:=bJ.cO kD;obtain⟨vr,yX,_,xa⟩:=kQ.get a aQ;have eN:=uP (xa 0 U);rw[tT]at eN;have ajl:=kQ.len;have L:a*11<(List.map ag.v hn).length:=by rw[lL];omega
    have oh:Fk (p:Nat) a bB=ea:=oh;unfold Fk at oh;refine ae.seq ?_;refine dh aa (aT hb eN @uI.eq_1) ?_ ?_
    ·exact⟨aq,⟨U,U⟩,L⟩
    refine bC hb ?_ ?_<;>intro J
    ·have aU:¬(b9 bB.ai a).k=4:=bt J
     rw[ab aU]at oh;have gf:sT (p:Nat) ea=(0,cY 72 (p:Nat) bB):=by rw[<- oh];exact aB7 _ _ (by rw[(aiR Fc 72 (p:Nat)).1];decide)
     rw[gf];refine aL (yE (aP w S fp) bB hn rt 0) hb ?_ ?_
     ·exact⟨⟨_,_,rfl⟩,aq,λ_ h=>h.elim⟩
     refine AN ?_;have ft:fq cy (bw (aP w S fp) ck) hn (cY 72 (p:Nat) bB).ai:=by rw[v8];exact kQ
     refine jQ (eI hb @bZ.eq_1 @bZ.eq_2 @bZ.eq_3 @iA.eq_1 @lH) ?_;exact⟨hn,⟨λE=>rfl,lI (by exact ft),by exact ft⟩,_,_,rfl,(aJ (I hb @bQ)),aq⟩
    ·have aU:(b9 bB.ai a).k=4:=bt J
     rw[al aU]at oh;subst oh;have ft:=Dn (k:=4) (op:=nA) (p:=(p:Nat)) (a:=(a:Nat)) (b:=-1) kQ;have zw:(⟨#[107,101,121,101,100]⟩:ao)=nA:=rfl;refine a1 ?_;refine iP (KP bB hn rt 4 nA (p:Nat) (a:Nat) (-1)) (aT hb @uI.eq_1 zw) ?_ ?_
     ·exact⟨aq,⟨rfl,KQ U (.inr rfl) (bJ.iz (by have:=kD.2;omega)) (tL _),kQ.mono pg⟩,aq,λ_ h=>h.elim⟩
     refine⟨⟨cy,ck,hn++Ad 4 nA (p:Nat) (a:Nat) (-1) bB⟩,ft,rfl,rfl,?_⟩;exact b8 (λk=>if k=1 then .key 576 else .key k) hb
   have bn:¬k=5:=bt J
   clear J;refine aR aa hb ?_ ?_<;>intro J
   ·have cA:k=6:=bt J
    subst cA;clear J;obtain⟨a,rfl⟩:∃a,ps=[a]:=by
     have:=aCi rfl
     match ps,(show ps.length=1 by omega) with
     |[a],_=>exact⟨a,rfl⟩
    obtain⟨t,bJ,kD⟩:=r6 0 bq;have bJ:en bB.ai t a:=bJ;have oh:BE (p:Nat) s a bB=ea:=oh;subst oh;refine ae.more ?_;refine iP (aCe (aP w S fp) bB hn rt p s dC fQ.length im t a) (aT hb @uI.eq_1 (show((6:Nat):Int)=6 from rfl)) ?_ ?_
    ·exact⟨aq,⟨kQ,Fc,bJ,kD,U⟩,aq,(λ_ h=>h.elim),cT⟩
    refine pw ?_;refine eZ.dt 503 (aJ hb) (bT.refl _ _) λcL c7 h9 cq hg=>?_
    have eQ:=v7 (K:=503) hg;refine eZ.here ?_;refine kG ?_;refine⟨⟨cL,c7,h9⟩,hg,rfl,rfl,?_⟩;exact b8 (λk=>if k=1 then .key 496 else .key k) (I hb eQ)
   have cA:¬k=6:=bt J
   clear J;refine aR aa hb ?_ ?_<;>intro J
   ·have c1:k=7:=bt J
    subst c1;clear J;obtain⟨a,cn,rfl⟩:∃a cn,ps=[a,cn]:=by
     have:=aCj rfl
     match ps,(show ps.length=2 by omega) with
     |[a,cn],_=>exact⟨a,cn,rfl⟩
    obtain⟨t,bJ,kD⟩:=r6 0 bq;obtain⟨eU,Dr,aCr⟩:=r6 1 bq;have bJ:en bB.ai t a:=bJ;have Dr:en bB.ai eU cn := Dr;have oh:nF (p:Nat) s a cn bB=ea:=oh;subst oh;refine ae.more ?_
    refine iP (aCf (aP w S fp) bB hn rt p s dC fQ.length im t eU a cn) (aT hb @uI.eq_1 (show((7:Nat):Int)=7 from rfl)) ?_ ?_
    ·exact⟨aq,aq,⟨kQ,⟨bJ,kD⟩,⟨Dr,aCr⟩,U⟩,aq,(λ_ h=>h.elim),cT⟩
    refine pw ?_;refine eZ.dt 543 (aJ hb) (bT.refl _ _) λcL c7 h9 cq hg=>?_
    have eQ:=v7 (K:=543) hg;refine eZ.here ?_;refine kG ?_;refine⟨⟨cL,c7,h9⟩,hg,rfl,rfl,?_⟩;exact b8 (λk=>if k=1 then .key 536 else .key k) (I hb eQ)
   have c1:¬k=7:=bt J
   clear J;obtain rfl:k=4:=U;have oh:nG (p:Nat) s (eb L) ps bB=ea:=oh;subst oh;refine ae.more ?_;refine wr (aCg (aP w S fp) bB hn rt p s aH dy (some ⟨b,o,none⟩) lJ dC nP lj dl lk im b2 fQ (eb L) ps) (I hb (show((4:Nat):Int)=4 from rfl)) ?_ ?_
   ·exact⟨⟨Of ps,⟨Zf,z.mono bD.cc⟩,⟨⟨U,by have:=aCk rfl;omega,aCd gi⟩,r6,V,U⟩,kQ⟩,aq,aq,cT⟩
   refine pw ?_;refine eZ.dt 511 (aJ hb) (bT.refl _ _) λcL c7 h9 cq hg=>?_
   have eQ:=v7 (K:=511) hg;refine eZ.here ?_;refine kG ?_;refine⟨⟨cL,c7,h9⟩,hg,rfl,rfl,?_⟩;exact b8 (λk=>if k=1 then .key 504 else .key k) (I hb eQ)
  rintro⟨cL,c7,h9⟩ ha cq;simp only at ha cq;dsimp only;have ajl:=ha.len;have KG:=GU;rw[oh]at KG;obtain⟨vr,yX,_,xa⟩:=ha.get ea.1 KG;have aCs:=uP (xa 10 U);have L:ea.1*11<(List.map ag.v h9).length:=by rw[lL];omega
  have aCt:ea.1*11+10<(List.map ag.v h9).length:=by rw[lL];omega
  refine ae.seq ?_;refine aL aa (I hb aCs) ?_ ?_
  ·exact⟨λ_=>⟨U,U⟩,λ_=>L,λ_=>aCt⟩
  refine bC hb ?_ ?_<;>intro J
  ·have Zg:ea.2.a8=0/\2000<(b9 ea.2.ai ea.1).aw:=bt J
   have gf:sT (p:Nat) ea=(0,cY 24 (p:Nat) ea.2):=al Zg;rw[gf];refine aL (yE (aP w S fp) ea.2 h9 rt 0) hb ?_ ?_
   ·exact⟨⟨_,_,rfl⟩,aq,λ_ h=>h.elim⟩
   refine AN ?_;have ft:fq cL (bw (aP w S fp) c7) h9 (cY 24 (p:Nat) ea.2).ai:=by rw[v8];exact ha
   refine jQ (eI hb @bZ.eq_1 @bZ.eq_2 @bZ.eq_3 @iA.eq_1 @lH) ?_;exact⟨h9,⟨λE=>rfl,lI (by exact ft),by exact ft⟩,_,_,rfl,(aJ (I hb @bQ)),aq⟩
  ·have Zg:¬(ea.2.a8=0/\2000<(b9 ea.2.ai ea.1).aw):=by
    rintro⟨g1,g2⟩;simp[g1]at J;omega
   have gf:sT (p:Nat) ea=ea:=ab Zg;rw[gf];refine bk aa hb ?_;refine bf (eI hb @bZ.eq_1 @bZ.eq_2 @bZ.eq_3 @iA.eq_1 @lH) ?_;exact⟨h9,⟨λE=>rfl,lI (by exact ha),by exact ha⟩,_,_,rfl,(aJ (I hb @bQ)),aq⟩
def aCu{w:ao}(h:0<ed w):(ed w).toNat<=3/\(ed w).toNat<=(gE w).size:=by
 rcases aiW h with⟨h,e⟩|⟨h,e⟩|⟨h,e⟩
 ·rw[e];rcases h with((rfl|rfl)|(rfl|rfl))|rfl<;>decide
 ·rw[e];rcases h with rfl|rfl|rfl|rfl<;>decide
 ·rw[e];subst h;decide
theorem aCv(aE3:j1)(v:dN)(k9:qm v)(Cp:aE3.bd.length<=100000)(x:bO):dZ x->(∀(j:Nat) (σ:bc),e2 aE3.aH x j->(σ.a8=0->n8 σ.ai aE3.bd v)->σ.ai.length+2*fU x+2<=900000->tO aE3 j σ (eR aE3.bd x σ))/\KX aE3 v x:=by
 have a8:∀(x:bO) (j:Nat) (σ:bc),¬σ.a8=0->tO aE3 j σ (eR aE3.bd x σ):=λx j σ h=>by grind [Fo,aB1]
 induction x with
 |name a s=>
  refine λaB=>⟨λj σ fv aZ aN=>?_,trivial⟩
  by_cases h:σ.a8=0
  all_goals grind [aB3,e2,eR]
 |text a s=>
  refine λaB=>⟨λj σ fv aZ aN=>?_,trivial⟩
  by_cases h:σ.a8=0
  all_goals grind [aB2,e2,dZ,eR]
 |rx a s=>
  refine λaB=>⟨λj σ fv aZ aN=>?_,trivial⟩
  by_cases h:σ.a8=0
  all_goals grind [aB5,e2,dZ,eR]
 |keyed a x bb=>
  refine λaB=>⟨λj σ fv aZ aN=>?_,trivial⟩
  by_cases h:σ.a8=0
  ·simp only[e2]at fv;simp only[dZ]at aB;simp only[fU]at aN;obtain⟨p,ak,fv⟩:=fv;rw[ajq aE3.bd a x σ h]
   exact S6 aE3 j 5 a ⟨#[]⟩ [p] (.cons x .nil) v σ h ak aq (by simp_all [hT]) (by simp_all [dZ]) (aZ h) k9 bq (λ_=>⟨rfl,rfl⟩) (λh=>absurd h aq) (λh=>absurd h aq) (λh=>absurd h aq) (ef _) bq (by grind [fU]) ⟨(bb aB.2).1,trivial⟩
  simp_all
 |unary a op x bb=>
  refine λaB=>⟨λj σ fv aZ aN=>?_,trivial⟩
  by_cases h:σ.a8=0
  ·simp only[e2]at fv;simp only[dZ]at aB;simp only[fU]at aN;obtain⟨p,ak,fv⟩:=fv;rw[ajr aE3.bd a op x σ h]
   exact S6 aE3 j 6 a op [p] (.cons x .nil) v σ h ak aq (by simp_all [hT]) (by simp_all [dZ]) (aZ h) k9 bq (λh=>absurd h aq) (λ_=>rfl) (λh=>absurd h aq) (λh=>absurd h aq) aB.2.1 bq (by grind [fU]) ⟨(bb aB.2.2).1,trivial⟩
  simp_all
 |binary a op x y iz zS=>
  refine λaB=>⟨λj σ fv aZ aN=>?_,trivial⟩
  by_cases h:σ.a8=0
  ·simp only[e2]at fv;simp only[dZ]at aB;simp only[fU]at aN;obtain⟨p,q,ak,fv,aET⟩:=fv;rw[ajs aE3.bd a op x y σ h]
   exact S6 aE3 j 7 a op [p,q] (.cons x (.cons y .nil)) v σ h ak aq (by grind [hT]) (by simp_all [dZ]) (aZ h) k9 bq (λh=>absurd h aq) (λh=>absurd h aq) (λ_=>rfl) (λh=>absurd h aq) aB.2.1 bq (by grind [fU]) ⟨(iz aB.2.2.1).1,(zS aB.2.2.2).1,trivial⟩
  simp_all
 |call a w l bb=>
  refine λaB=>⟨λj σ fv aZ aN=>?_,trivial⟩
  by_cases h:σ.a8=0
  ·simp only[e2]at fv;simp only[dZ]at aB;simp only[fU]at aN;obtain⟨fQ,ak,fv⟩:=fv;obtain⟨s1,s2⟩:=aCu aB.2.2.1;have z:=fv.len
   grind [ajt,S6]
  simp_all
 |nil=>grind [e2,KX]
 |cons x l iz R1=>grind [dZ,e2,KX]
def ajw(aE3:j1)(v:dN)(x:bO)(j:Nat)(σ:bc)(k9:qm v)(aB:dZ x)(Cp:aE3.bd.length<=100000)(fv:e2 aE3.aH x j)(aZ:σ.a8=0->n8 σ.ai aE3.bd v)(aN:σ.ai.length+2*fU x+2<=900000):tO aE3 j σ (eR aE3.bd x σ):=(aCv aE3 v k9 Cp x aB).1 j σ fv aZ aN
theorem aCw{w:ar}{S:aY}{T:a6}{s n:Nat}{aE7:aM}{vs:aX}(h:w.ownsRow 0 T s aE7 n vs)(J:∀b∈aE7.ownBlock.toList,S b):∃ay c,aE7=.slice ay n c/\b0 w S ay vs:=by
 obtain⟨aN,h⟩:=h;rcases h with⟨D,rfl⟩|⟨g,cap,cur,D,_,hh,tW,_,bP,As⟩
 ·grind [b0]
 ·have aK:S g:=J g (by rw[D];simp[Value.ownBlock]);refine⟨some ⟨g,0,none⟩,cap,D,.inr ⟨g,0,rfl,λj Y=>⟨aK,?_⟩⟩⟩;rw[lM];have hW:j<n*s:=U;have:vs[j]?=cur[j]?:=by grind
  simp only[World.cell?,hh]
  simp_all
abbrev ajx (aE3:j1)(i:Nat)(σ:bc)(q:Nat×bc)(h:∀ay nf,tO { aE3 with ay:=ay,nf:=nf } i σ q)(cs:aX)(rt:Int):vl Tryz.prog 57 where
 T:=59
 kinds:=[none,none,none]
 pre:=λfs aj W S=>(fs=kP σ cs rt/\aj=[.val aE3.pv,.val (.int .i64 (i:Nat)),.row 125 2 aE3.bd.length (tN aE3.bd)])/\aE3.ok W S/\fq W S cs σ.ai
 gA:=λ_ _ _ _ _ _ V h=>⟨h.1,h.2.1.mono V,h.2.2.mono V⟩
 dC:=λ_ _ _=>True
 rT:=λ_ _ _ _ _ _ _=>trivial
 out:=λfs aj=>iA q rt
 enters:=Tryz.call57
 ok:=by
  intro w S u fp us fs aj H ax bp aK hp _ aW;obtain⟨⟨rfl,rfl⟩,D,O⟩:=hp
  match us,aK,aW with
  |[x,y,aE7],aK,aW=>
   obtain⟨rfl,rfl,bx,_⟩:=aK;obtain⟨ay,nf,rfl,gj⟩:=aCw (S:=Out fp) bx λb Z=>aW b (by simp only[rS,DY,O0,yI];exact Z)
   exact h ay nf cs rt u fp w S D gj O H ax bp
section
variable (G:aY)(s:ao)(aE3:j1)(i:Nat)(σ:bc)(q:Nat×bc)(h:∀ay nf,tO { aE3 with ay:=ay,nf:=nf } i σ q)(cs:aX)(rt:Int)
abbrev ajy:Env Tryz.prog:=a7 ((aix s).spec G) aa
abbrev aCx:Env Tryz.prog:=a7 ((SF σ cs rt).spec) aa
abbrev ajz:Env Tryz.prog:=a7 ((ajx aE3 i σ q h cs rt).spec G) aa
end
def Fv(s:ao):Except (Int×Int) (Nat×bc):=match rv s with
 |.error (c,a)=>.error (c,(a:Nat))
 |.ok p=>if(uM p).2.a8=0 then .ok (uM p) else .error ((uM p).2.a8,(uM p).2.at_)
theorem aCy(s:ao):match vK s with
  |.error (c,a)=>c≠0/\Fv s=.error (c,a)
  |.ok t=>∃q,Fv s=.ok q/\en q.2.ai t q.1:=by
 have h:=aBc s
 grind [Fv,SU]
def S8(e a:Int):Value:=.tuple #[.agg #[.slice none 0 0,.int .i64 0,.int .i64 0,.int .i64 0],.int .i64 e,.int .i64 a]
def aCz(ai:List cF):lr where
 Φ:=λcs W S=>∃dy ay c,cs=[.slice ay ai.length c]/\b0 W S ay dy/\fq W S dy ai
 mono:=λV ⟨dy,ay,c,D,O,B⟩=>⟨dy,ay,c,D,O.mono V,B.mono V⟩
def b5.ajA(rt a:Int):b5:=⟨λk=>.iK [.agg [.part k 0,.v (.int .i64 rt),.v (.int .i64 0),.v (.int .i64 a)],.v (.int .i64 0),.v (.int .i64 0)],λ_ _=>rfl,λk j Y=>by simpa [ag.keys,cP] using Y⟩
def Du:Except (Int×Int) (Nat×bc)->ud
 |.error (e,a)=>.val (S8 e a)
 |.ok q=>.fact (b5.ajA (q.1:Nat) q.2.at_) (aCz q.2.ai)
def xm(bd:kh)(a:Nat)(s:ao)(σ:bc)(k:Nat):bc:=Ac (bd.take k) a s σ
theorem aCA(bd:kh)(a:Nat)(s:ao)(σ:bc):(Ac bd a s σ).ai=σ.ai:=by grind [v8,Ac]
def aCB(bd:kh)(a:Nat)(s:ao)(σ:bc)(k:Nat):(xm bd a s σ k).ai=σ.ai:=aCA _ _ _ _
theorem aCC(bd:kh)(a:Nat)(s:ao)(σ:bc):xm bd a s σ 0=σ:=rfl
def aCD(bd:kh)(a:Nat)(s:ao)(σ:bc):xm bd a s σ bd.length=Ac bd a s σ:=by rw[xm,Tz]
theorem ajB(s n:ao)(i:Nat):∀bd:kh,vW (bd++[(n,i)]) s=match vW bd s with
  |some j=>some j
  |none=>if n=s then some i else none
 |[]=>rfl
 |(k,j)::r=>by
  rw[OX,vW,vW,ajB s n i r]
  grind
theorem aCE(bd:kh)(a:Nat)(s:ao){σ:bc}(h:σ.a8=0)(k:Nat)(ad:k<bd.length):xm bd a s σ (k+1)=if bd[k].1=s then cY 71 (a:Nat) (xm bd a s σ k) else xm bd a s σ k:=by
 unfold xm Ac;rw[Te ad];obtain⟨n,i⟩:=bd[k];rw[ajB]
 grind [cY]
theorem aCF{bd:kh}{a:Nat}{s:ao}{σ:bc}(h:σ.a8=0)(O:(Ac bd a s σ).a8=0):Ac bd a s σ=σ:=by
 unfold Ac at O ⊢
 grind [cY]
theorem ajC:∀(l:List nE) (k:Nat) (h:k<l.length),(oK l)[k*3]?=some (.int .i64 (l[k].at_:Nat))/\(oK l)[k*3+1]?=some (.string l[k].xA)/\(oK l)[k*3+2]?=some (.int .i64 (l[k].b:Nat))
 |d::l,0,_=>⟨rfl,rfl,rfl⟩
 |d::l,k+1,h=>by
  have:=ajC l k (aC h)
  grind [oK]
theorem aCG{S:aY}{lJ:dj}{l:List nE}(kx:b0 W S lJ (oK l))(hi:i<l.length):∃b o,lJ=some ⟨b,o,none⟩/\S b/\W.cell? ⟨b,o+i*3,none⟩=some (.int .i64 (l[i].at_:Nat))/\W.cell? ⟨b,o+i*3+1,none⟩=some (.string l[i].xA)/\W.cell? ⟨b,o+i*3+2,none⟩=some (.int .i64 (l[i].b:Nat)):=by
 obtain⟨c0,hx,c2⟩:=ajC l i hi;obtain⟨b,o,jI,Z,dw⟩:=b0.cell kx c0;subst jI;have nI:∀{j:Nat} {v:aM},(oK l)[i*3+j]?=some v->W.cell? ⟨b,o+i*3+j,none⟩=some v:=λh=>by
  obtain⟨p6,u7,D,_,O⟩:=b0.cell kx h
  grind
 grind
theorem sf.len{aH:List fY}:∀{l:List nE} {r:List (Nat×ByteArray×bO)},sf aH l r->l.length=r.length
 |[],[],_=>rfl
 |d::l,e::r,g=>by rw[l9,l9,sf.len g.2]
 |[],_::_,g=>g.elim
 |_::_,[],g=>g.elim
structure KZ where
 W:World
 bs:List Nat
 cs:List Value
 bd:kh
 σ:bc
 v:dN
 i:Nat
def iJ:=(I (ch ez @w2 @yj @SF.eq_1 @kP.eq_1 @Fg.eq_1 @b5.sv.eq_1 @aix.eq_1) (eI @z7.eq_1 @z7.eq_2 @b5.prog.eq_1 @ajx.eq_1 @j1.pv.eq_1 @iA.eq_1))
theorem aCH(s:ao)(V:s.size<=9223372036854775807)(w:ar)(S:aY):Calls Tryz.prog 23 #[.string s] w λe M=>oO w S e M (Du (Fv s)):=by
 have cf:=b1.up w S;have S9:=aiQ s;refine ue (nt:=101) S [.cell 2 59,.tmp 3,.tmp 4] Tryz.func23 ?_;refine aA aa iJ ?_;cases bo:rv s with
 |error e=>
  obtain⟨c,a⟩:=e;rw[bo]at S9;obtain⟨gX,hp⟩:=S9;have Kv:decide (c=0)=false:=yJ gX;have aZ:Fv s=.error (c,(a:Nat)):=by simp_all [Fv]
  rw[aZ];refine aL (ajy (b1 w S) s) (I iJ hp) ?_ ?_
  ·exact V
  refine bk aa (I iJ Kv) ?_;refine bC iJ ?_ ?_<;>intro J
  rotate_left
  ·exact absurd J bq
  clear J;refine aA aa iJ ?_;exact bE (b3 iJ @Du.eq_1 @Du.eq_2 @S8.eq_1)
 |ok p=>
  obtain⟨az,x⟩:=p;rw[bo]at S9;obtain⟨aH,l,b2,hp,kx,fv,db⟩:=S9;have aft:az.length<=4097:=XX bo;obtain⟨Ds,S7⟩:=NV bo;simp only at Ds S7;have Iu:=kx.len;have aZ:Fv s=if(uM (az,x)).2.a8=0 then .ok (uM (az,x)) else .error ((uM (az,x)).2.a8,(uM (az,x)).2.at_):=by simp_all [Fv]
  rw[aZ];clear aZ;refine aA (ajy (b1 w S) s) (I iJ hp) ?_;refine ae.dt 32 (aJ iJ) (bT.refl _ _) λcy ck Sy bD la=>?_
  obtain⟨dy,no,lj,lJ,lk,rfl,fP,aCI,tW,aCJ,aEU⟩:=la;have cT:=cf.ext bD;refine bk aa iJ ?_;refine bC iJ ?_ ?_<;>intro J
  ·exact absurd J bq
  clear J;refine dL aa iJ ?_;have aCK:uM (az,x)=eR (sU az [] ye).1 x (sU az [] ye).2:=rfl;rw[aCK];generalize dW:sU az [] ye=R
  refine rb (λp:KZ=>⟨300,bK [(2,.is (.own 0 0)),(5,.is (.own 3 0)),(8,.is (.own 4 0)),(9,.is (.ak 2))],bA [(0,.cells 59 [.v (.slice none 0 0),.v (.int .i64 0),.v (.int .i64 0),.v (.int .i64 0)]),(3,.cells 117 [.v (.slice no aH.length lj),.v (.slice lJ l.length lk),.v (.int .i64 (b2:Nat))]),(4,.cells 59 [.ak 1,.v (.int .i64 0),.v (.int .i64 p.σ.a8),.v (.int .i64 p.σ.at_)]),(1,.row 66 11 p.σ.ai.length (p.cs.map .v)),(2,.row 125 2 p.bd.length ((tN p.bd).map .v))]⟩) KZ.W KZ.bs (λp=>fq p.W (bw (b1 w S) p.bs) p.cs p.σ.ai/\R=(p.bd,p.σ)/\p.bd.length<=4097/\(qm p.v/\(p.σ.a8=0->n8 p.σ.ai p.bd p.v))/\p.σ.ai.length+2*fU x+2<=900000) ?_ ?_
  ·skip;refine bk aa iJ ?_
   refine ae.q4 (λp:KZ=>⟨40,bK [(2,.is (.own 0 0)),(5,.is (.own 3 0)),(8,.is (.own 4 0)),(9,.is (.ak 2)),(10,.is (.v (.int .i64 (p.i:Nat))))],bA [(0,.cells 59 [.v (.slice none 0 0),.v (.int .i64 0),.v (.int .i64 0),.v (.int .i64 0)]),(3,.cells 117 [.v (.slice no aH.length lj),.v (.slice lJ l.length lk),.v (.int .i64 (b2:Nat))]),(4,.cells 59 [.ak 1,.v (.int .i64 0),.v (.int .i64 p.σ.a8),.v (.int .i64 p.σ.at_)]),(1,.row 66 11 p.σ.ai.length (p.cs.map .v)),(2,.row 125 2 p.bd.length ((tN p.bd).map .v))]⟩)
    KZ.W KZ.bs (λp=>fq p.W (bw (b1 w S) p.bs) p.cs p.σ.ai/\(p.bd.length=p.i/\p.i<=az.length)/\sU (az.drop p.i) p.bd p.σ=R/\(qm p.v/\(p.σ.a8=0->n8 p.σ.ai p.bd p.v))/\p.σ.ai.length+2*(BD (az.drop p.i)+fU x)+2<=900000/\sf aH (l.drop p.i) (az.drop p.i)) (λp=>az.length-p.i) ⟨cy,ck,[],[],ye,[],0⟩ rfl rfl ?_ ⟨.nil,⟨rfl,ef _⟩,dW,⟨(λe he=>by cases he),λ_=>trivial⟩,by grind [ye],kx⟩ ?_
   ·exact b8 (λk=>if k=1 then .nil else if k=2 then .nil else if k=3 then .key 72 else if k=4 then .key 128 else .key k) (de iJ @ye.eq_1 @tN.eq_1 @Lc @gq)
   rintro⟨cL,c7,h9,bd,σ,v,i⟩ ⟨ha,⟨kj,Up⟩,cu,⟨k9,au⟩,bP,Zh⟩ cq;simp only at ha kj Up cu k9 au bP Zh cq;dsimp only;have eO:=cT.ext cq;refine ae.seq ?_;refine aR aa iJ ?_ ?_<;>intro J
   ·have hm:i<l.length/\σ.a8=0:=by
     simp_all
    obtain⟨Zi,tM⟩:=hm;clear J;have aCL:=aCJ.mono cq.cc;have wQ:=fP.mono cq.cc;have aCM:=aCI.mono cq.cc;obtain⟨b,o,rfl,Z,dw,ee,fh⟩:=aCG aCL Zi;refine a1 ?_;have aCN:IntKind.i64.wrap ((i:Int)+1)=((i+1:Nat):Int):=by grind [gb]
    have ajD:i<az.length:=U;have bg:l.drop i=l[i]::l.drop (i+1):=Dw Zi;have bN:az.drop i=az[i]::az.drop (i+1):=Dw ajD;rw[bg,bN]at Zh;rw[bN]at cu bP;have H:=Ds _ (List.getElem_mem ajD);clear bg bN;generalize l[i]=aCO at *
    generalize az[i]=aCP at *;obtain⟨a,xA,ex⟩:=aCP;obtain⟨bS,iC,nM⟩:=aCO;obtain⟨⟨rfl,rfl,Zj⟩,aCQ⟩:=Zh;simp only at Zj H dw ee fh;rw[sU,al tM]at cu;simp only[BD]at bP;refine ae.seq (ae.block ?_);refine aL aa (b3 iJ dw ee fh) ?_ ?_
    ·exact⟨⟨U,U⟩,Z.2⟩
    refine dL aa iJ ?_
    refine ae.loop (λk:Nat=>⟨100,bK [(2,.is (.own 0 0)),(5,.is (.own 3 0)),(8,.is (.own 4 0)),(9,.is (.ak 2)),(10,.is (.v (.int .i64 (i:Nat)))),(11,.is (.own 5 0)),(12,.is (.v (.int .i64 (k:Nat))))],bA [(0,.cells 59 [.v (.slice none 0 0),.v (.int .i64 0),.v (.int .i64 0),.v (.int .i64 0)]),(3,.cells 117 [.v (.slice no aH.length lj),.v (.slice (some ⟨b,o,none⟩) l.length lk),.v (.int .i64 (b2:Nat))]),(4,.cells 59 [.ak 1,.v (.int .i64 0),.v (.int .i64 (xm bd bS iC σ k).a8),.v (.int .i64 (xm bd bS iC σ k).at_)]),(1,.row 66 11 (xm bd bS iC σ k).ai.length (h9.map .v)),(2,.row 125 2 bd.length ((tN bd).map .v)),(5,.cells 123 [.v (.int .i64 (bS:Nat)),.v (.string iC),.v (.int .i64 (nM:Nat))])]⟩) (λk=>k<=bd.length) (λk=>bd.length-k) 0 ?_ (ef _) ?_
    ·exact b8 (λk=>if k=5 then .key 456 else .key k) (aT iJ @aCC @gq)
    rintro k ad;refine ae.seq ?_;refine aR aa iJ ?_ ?_<;>intro J
    ·have sd:k<bd.length:=by
      simp_all
     clear J;have z0:=uP (Zc bd k sd).1;have aEV:k*2<(List.map ag.v (tN bd)).length:=by grind [aB0]
     have dM:IntKind.i64.wrap ((k:Int)+1)=((k+1:Nat):Int):=by grind [gb]
     have hX:=aCE bd bS iC tM k sd;refine a1 ?_;refine ae.seq (ae.block ?_);refine dh aa (I iJ z0) ?_ ?_
     ·omega
     refine bC iJ ?_ ?_<;>intro J
     ·have he:bd[k].1=iC:=aC J
      rw[al he]at hX;refine wr (aCx (xm bd bS iC σ k) h9 0) iJ ?_ ?_
      ·exact⟨⟨_,_,rfl⟩,aq,λ_ h=>h.elim⟩
      refine bY aa (I iJ dM) ?_;refine⟨k+1,U,U,?_⟩;exact b8 (λk=>if k=1 then .key 920 else .key k) (I iJ hX)
     ·have he:¬bd[k].1=iC:=aC J
      rw[ab he]at hX;refine a1 ?_;refine bY aa (I iJ dM) ?_;refine⟨k+1,U,U,?_⟩;exact bh (I iJ hX)
    ·have e4:k=bd.length:=by
      grind
     subst e4;clear J;have e7:=aCD bd bS iC σ;have rP:=aCB bd bS iC σ bd.length;generalize RT:xm bd bS iC σ bd.length=cd at *;have Dq:fq cL (bw (b1 w S) c7) h9 cd.ai:=by simp_all
     rw[<- e7]at cu;have heq:cd.a8=0->cd=σ:=λh=>by grind [aCF]
     have gY:cd.a8=0->n8 cd.ai bd v:=λh=>by grind
     have ajE:=(aju bd ex).1 cd;rw[rP]at ajE;have yB:∀ay nf,tO ⟨aH,dy,no,aH.length,lj,some ⟨b,o,none⟩,l.length,lk,(b2:Nat),bd,ay,nf⟩ nM cd (eR bd ex cd):=λay nf=>ajw ⟨aH,dy,no,aH.length,lj,some ⟨b,o,none⟩,l.length,lk,(b2:Nat),bd,ay,nf⟩ v ex nM cd k9 H.2.2 (by grind) Zj gY (by rw[rP];omega)
     have mc:=(SS aH v bd ex H.2.2).1 _ Zj cd;have aCR:=Fo bd ex cd;generalize eR bd ex cd=aCS at *;obtain⟨iz,qU⟩:=aCS;simp only at ajE cu;obtain⟨eT,aCT,E0⟩:∃eT,qm eT/\(qU.a8=0->n8 qU.ai (bd++[(iC,iz)]) eT):=by
      by_cases B:qU.a8=0
      ·have D:cd.a8=0:=by
        grind
       have aQ:=mc D (gY D);cases hm:dk v ex with
       |error p=>rw[hm]at aQ;exact absurd (aQ.2.1.symm.trans B) aQ.1
       |ok t=>
        rw[hm]at aQ;refine⟨v++[(iC,t)],λe he=>?_,λ_=>n8.Bp aQ.2.2 ((gY D).pre aQ.2.1)⟩;rcases hq.1 he with he|he
        ·exact k9 e he
        grind [C4,HI]
      grind
     clear mc aCR;refine c6 ?_;refine ae.more ?_;refine iP (ajz (b1 w S) ⟨aH,dy,no,aH.length,lj,some ⟨b,o,none⟩,l.length,lk,(b2:Nat),bd,none,0⟩ nM cd (iz,qU) yB h9 0) iJ ?_ ?_
     ·exact⟨⟨⟨⟨rfl,wQ,aCM⟩,Dq⟩,aq,aq,eO⟩,by unfold maxLen;omega,U⟩
     refine pw ?_;refine eZ.dt 903 (aJ iJ) (bT.refl _ _) λe0 eu n7 du e1=>?_
     have eQ:=v7 (K:=903) e1;refine eZ.here ?_;refine kG ?_;refine bY aa (aT iJ aCN eQ) ?_;have em:List.map ag.v (tN bd)++[.v (.string iC),.v (.int .i64 (iz:Nat))]=List.map ag.v (tN (bd++[(iC,iz)])):=by simp[tN]
     have el:(bd++[(iC,iz)]).length=bd.length+1:=by simp
     refine⟨⟨e0,eu,n7,bd++[(iC,iz)],qU,eT,i+1⟩,⟨e1,⟨by simp_all,by dsimp only;omega⟩,cu,⟨aCT,E0⟩,by dsimp only;omega,aCQ⟩,by dsimp only;omega,rfl,rfl,?_⟩;exact b8 (λk=>if k=1 then .key 896 else if k=2 then .key 920 else .key k) (b3 iJ eQ em el)
   ·have kd:R=(bd,σ):=by
     by_cases Zi:i<l.length
     ·have tM:¬σ.a8=0:=λg=>by grind
      grind [YT]
     ·rw[<- cu,K5 U];rfl
    refine c6 ?_;refine⟨⟨cL,c7,h9,bd,σ,v,i⟩,⟨ha,kd,by dsimp only;omega,⟨k9,au⟩,by dsimp only;omega⟩,rfl,rfl,?_⟩;exact bh iJ
  rintro⟨GN,GO,Yu,bd,σ,v,i⟩ ⟨aCU,rfl,Cp,⟨k9,au⟩,bP⟩ xX;simp only at aCU Cp k9 au bP xX;dsimp only;have Ky:=cT.ext xX
  have yB:∀ay nf,tO ⟨aH,dy,no,aH.length,lj,lJ,l.length,lk,(b2:Nat),bd,ay,nf⟩ b2 σ (eR bd x σ):=λay nf=>ajw ⟨aH,dy,no,aH.length,lj,lJ,l.length,lk,(b2:Nat),bd,ay,nf⟩ v x b2 σ k9 S7 (by grind) fv au U
  generalize eR bd x σ=aCV at *;obtain⟨rt,lg⟩:=aCV
  refine rb (λq:KY=>⟨400,bK [(2,.is (.own 0 0)),(8,.is (.own 4 0))],bA [(0,.cells 59 [.v (.slice none 0 0),.v (.int .i64 0),.v (.int .i64 0),.v (.int .i64 0)]),(4,.cells 59 [.ak 1,.v (.int .i64 (rt:Nat)),.v (.int .i64 lg.a8),.v (.int .i64 lg.at_)]),(1,.row 66 11 lg.ai.length (q.cs.map .v))]⟩) KY.W KY.bs (λq=>fq q.W (bw (b1 w S) q.bs) q.cs lg.ai) ?_ ?_
  ·refine ae.more ?_;refine wr (ajz (b1 w S) ⟨aH,dy,no,aH.length,lj,lJ,l.length,lk,(b2:Nat),bd,none,0⟩ b2 σ (rt,lg) yB Yu 0) iJ ?_ ?_
   ·grind [b0.mono,Ext.cc,gR.mono,j1.ok]
   refine pw ?_;refine eZ.dt 2455 (aJ iJ) (bT.refl _ _) λOu Ov Bz C7 Ow=>?_
   have eQ:=v7 (K:=2455) Ow;refine eZ.here ?_;refine kG ?_;refine⟨⟨Ou,Ov,Bz⟩,Ow,rfl,rfl,?_⟩;exact b8 (λk=>if k=1 then .key 2448 else .key k) (I iJ eQ)
  rintro⟨Ou,Ov,Bz⟩ ajF C7;simp only at ajF C7;dsimp only;have SC:=Ky.ext C7;refine ae.seq ?_;refine aR aa iJ ?_ ?_<;>intro J
  ·have he:¬lg.a8=0:=aC J
   rw[ab he];refine hs aa iJ ?_;exact bE (b3 iJ @Du.eq_1 @Du.eq_2 @S8.eq_1)
  have he:lg.a8=0:=aC J
  rw[al he];refine a1 ?_;refine ae.rQ 1 (aJ (I iJ @gr)) (λE=>by simp only[ba,den,gr];exact rfl) λYy Yz HU uw SD YA aiv=>?_
  have g6:b0 Yy (bw (b1 w S) Yz) HU Bz:=YA.out λb Z=>⟨SC b Z.2,Z.1⟩
  refine aA aa iJ ?_;refine bf (b3 iJ @Du.eq_1 @Du.eq_2 he) ?_;exact⟨[.slice HU lg.ai.length uw],λE=>rfl,Bz,HU,uw,rfl,g6,ajF.mono SD.cc⟩
def Fw(ai:List cF)(n:Nat)(j:Int):Prop:=∃(t:cl) (m:Nat),j=(m:Nat)/\en ai t m/\l3 t/\jm t<n
theorem Zk{c:jW}{j:Int}(h:qW ai c j)(A:c≠.nil)(bW:o9 c)(V:fO c<=8192)(ak:zO c<n):Fw ai n j:=by
 cases c with
 |nil=>trivial
 |mk p op aH to dA x y=>obtain⟨d,i,⟨rfl,O⟩,B⟩:=h;exact⟨.canon (.mk p op aH to dA x y),i,rfl,⟨A,d,i,⟨rfl,O⟩,B⟩,⟨⟨bW,A⟩,V⟩,ak⟩
theorem Zl{c:k6}{j:Int}(h:tH ai c j)(A:c≠.nil)(bW:pb c)(V:hz c<=8192)(ak:Bt c<n):Fw ai n j:=by
 cases c with
 |nil=>trivial
 |mk p op aH cx q x y=>obtain⟨d,i,⟨rfl,O⟩,B⟩:=h;exact⟨.lens (.mk p op aH cx q x y),i,rfl,⟨A,d,i,⟨rfl,O⟩,B⟩,⟨⟨bW,A⟩,V⟩,ak⟩
structure Kids (ai:List cF)(n:Nat)(d:cF):Prop where
 at_:0<=d.at_/\d.at_<=4096
 cO:∀r,d.cO=some r->aG r<=8192
 t:¬d.k=2->d.t.size<=4096
 dA:¬d.k=1->¬d.k=2->d.op=fB->d.dA.size<=4096
 q:¬d.k=1->¬d.k=2->d.op=mZ\/d.op=na->Fw ai n d.q/\Fw ai n d.a
 a:¬d.k=1->¬d.k=2->¬(d.op=iX\/d.op=nZ\/d.op=jE\/d.op=ke)->¬d.op=nz->¬d.op=fB->¬d.op=fX->Fw ai n d.a
 b:¬d.k=1->¬d.k=2->¬(d.op=iX\/d.op=nZ\/d.op=jE\/d.op=ke)->¬d.op=nz->¬d.op=fB->¬d.op=fX->¬d.op=mZ->¬d.op=na->¬d.op=nB->¬d.b<0->Fw ai n d.b
theorem kids{t:cl}(g:en ai t i)(V:l3 t)(aE:jm t<n+1):Kids ai n (b9 ai i):=by
 obtain⟨bW,bx⟩:=V;have no:∀{a b:Nat} {P:Prop},a=b->¬a=b->P:=λh bu=>absurd h bu
 cases t with
 |text p s=>obtain⟨d,ak,D,O,B,aU,bn⟩:=g;rw[Ab ak];exact⟨by grind [gC],(λr h=>by simp_all),λ_=>by grind [dK,fJ],λg=>no D g,λg=>no D g,λg=>no D g,λg=>no D g⟩
 |rx p r=>obtain⟨d,ak,D,O,B,aU⟩:=g;have bW:p<=4096:=bW;rw[Ab ak];exact⟨by rw[O];omega,(λbG h=>by grind [dK]),λg=>no D g,λ_ g=>no D g,λ_ g=>no D g,λ_ g=>no D g,λ_ g=>no D g⟩
 |canon c=>
  obtain⟨A,g⟩:=g;cases c with
  |nil=>trivial
  |mk p op aH to dA x y=>
   obtain⟨d,kp,⟨D,O⟩,⟨B,rfl,bn,rfl,rfl,rfl⟩,⟨aB,cG⟩,c1,oq,uy⟩:=g;obtain rfl:i=kp := U;rw[Ab O];obtain⟨hY,j3,ns,Dd,YV,OC,hw⟩:=bW.1;have bx:fO (.mk p d.op d.cO d.t d.dA x y)<=8192:=bx;have aE:zO (.mk p d.op d.cO d.t d.dA x y)<n+1:=aE;simp only[zO]at aE
   have Ta:fO x<=8192/\fO y<=8192/\eA d.cO<=8192:=by grind [fO]
   have cm:¬((((((d.op=iX\/d.op=nZ)\/d.op=nz)\/d.op=fX)\/d.op=mZ)\/d.op=na)\/d.op=nB):=qY oq;refine⟨by rw[bn];omega,(λr h=>by grind [eA]),λ_=>ns,λ_ _ _=>Dd,λ_ _ h=>?_,λ_ _ g1 g2 g3 g4=>?_,λ_ _ g1 g2 g3 g4 g5 g6 g7 g8=>?_⟩
   ·simp_all
   ·rw[zR,ab (λh=>h.elim (λh=>g1 (.inr (.inr h))) g3)]at hw
    grind [Zk]
   ·refine Zk cG (λh=>?_) OC Ta.2.1 U
    grind [qW]
 |lens l=>
  obtain⟨A,g⟩:=g;cases l with
  |nil=>trivial
  |mk p op aH cx q x y=>
   obtain⟨d,kp,⟨D,O⟩,⟨B,rfl,bn,rfl,rfl⟩,⟨z,aB,cG⟩,c1,oq,uy⟩:=g;obtain rfl:i=kp := U;rw[Ab O];obtain⟨hY,j3,ns,aBe,YV,OC,hw⟩:=bW.1;have bx:hz (.mk p d.op d.cO d.t q x y)<=8192:=bx;have aE:Bt (.mk p d.op d.cO d.t q x y)<n+1:=aE;simp only[Bt]at aE
   have Ta:fO q<=8192/\hz x<=8192/\hz y<=8192/\eA d.cO<=8192:=by grind [hz]
   have cm:¬((d.op=jE\/d.op=ke)\/d.op=fB):=qY oq;refine⟨by rw[bn];omega,(λr h=>by have:=Ta.2.2.2;rw[h]at this;exact this),λ_=>ns,λ_ _ h=>absurd (.inr h) cm,λ_ _ h=>?_,λ_ _ g1 g2 g3 g4=>?_,λ_ _ g1 g2 g3 g4 g5 g6 g7 g8=>?_⟩
   ·grind [NY,Zk,Zl]
   ·rw[qN,ab (λh=>h.elim (λh=>g1 (h.elim .inl λh=>.inr (.inl h))) g2),ab g4]at hw
    grind [Zl]
   ·refine Zl cG (λh=>?_) OC Ta.2.2.1 U
    grind [tH]
theorem ajG{S:aY}{ay:dj}{dy:aX}(db:b0 W S ay dy)(bJ:fq W S dy ai)(hi:i<ai.length):∃b o BI BJ,ay=some ⟨b,o,none⟩/\S b/\qV W S BI BJ (b9 ai i).cO/\∀j v,(fb (b9 ai i) BI BJ)[j]?=some v->W.cell? ⟨b,o+i*11+j,none⟩=some v:=by
 obtain⟨BI,BJ,hj,xa⟩:=bJ.get i hi;have eN:dy[i*11+0]?=some (.int .i64 ((b9 ai i).k:Nat)):=xa 0 U;obtain⟨b,o,rfl,Z,_⟩:=b0.cell db eN;refine⟨b,o,BI,BJ,rfl,Z,hj,λj v h=>?_⟩;have Y:j<11:=(kC.1 h).1;obtain⟨p6,u7,D,_,O⟩:=b0.cell db ((xa j Y).trans h)
 grind
abbrev H7 (ai:List cF)(n:Nat):Prop:=∀(t:cl) (i:Nat) (dy:aX) (ay:dj) (c:Nat) (rt e a:Int) (w:ar),b0 w (Out []) ay dy->fq w (Out []) dy ai->en ai t i->l3 t->jm t<n->cQ 26 #[.agg #[.slice ay ai.length c,.int .i64 rt,.int .i64 e,.int .i64 a],.int .i64 (i:Nat)] w (.string (j0 ai n (i:Nat)))
def Zm(ai:List cF)(n:Nat):List br->Value
 |[_,.val (.int _ i)]=>.string (j0 ai n i)
 |_=>undef
theorem ajH(ai:List cF)(n:Nat)(x:br)(k:IntKind)(i:Int):Zm ai n [x,.val (.int k i)]=.string (j0 ai n i):=rfl
def K0(ai:List cF)(n:Nat)(h:H7 ai n)(dy:aX)(ay:dj)(c:Nat)(rt e a:Int):cV Tryz.prog 26 where
 pre:=λW bs aj=>(b0 W (Out bs) ay dy/\fq W (Out bs) dy ai)/\∃j,aj=[.val (.agg #[.slice ay ai.length c,.int .i64 rt,.int .i64 e,.int .i64 a]),.val (.int .i64 j)]/\Fw ai n j
 res:=λW=>Zm ai n
 enters:=Tryz.call26
 ok:=by
  intro W w bs us aj ad hu hp;obtain⟨⟨D,O⟩,j,rfl,t,m,rfl,g1,g2,g3⟩:=hp
  match us,hu with
  |[x,y],hu=>
   obtain⟨rfl,rfl,_⟩:=hu;have ep:bT W (Out bs) w (Out []):=λb Z aE=>⟨ad.block b Z aE,by simp[Out]⟩
   exact h t m dy ay c rt e a w (D.mono ep) (O.mono ep) g1 g2 g3
theorem ajI(ai:List cF)(n:Nat)(h:H7 ai n)(dy:aX)(ay:dj)(c:Nat)(rt e a:Int)(W:ar)(bs:aD)(j:Int):(K0 ai n h dy ay c rt e a).pre W bs [.val (.agg #[.slice ay ai.length c,.int .i64 rt,.int .i64 e,.int .i64 a]),.val (.int .i64 j)]=((b0 W (Out bs) ay dy/\fq W (Out bs) dy ai)/\Fw ai n j):=by grind [K0]
theorem ajJ(ai:List cF)(n:Nat)(h:H7 ai n)(dy:aX)(ay:dj)(c:Nat)(rt e a:Int)(W:ar):(K0 ai n h dy ay c rt e a).res W=Zm ai n:=rfl
section
variable (ai:List cF)(n:Nat)(h:H7 ai n)(dy:aX)(ay:dj)(c:Nat)(rt e a:Int)
abbrev BK:Env Tryz.prog:=a7 ((K0 ai n h dy ay c rt e a).spec) (a7 avI.spec (a7 at0.spec aa))
end
def gp:=(I (ch ez va vb vc @w2 @yj @ajI @ajJ) (aT @ajH @aez.eq_1 @Bd.eq_1))
theorem aCW(ai:List cF)(n:Nat)(h:H7 ai n):H7 ai (n+1):=by
 intro t i dy ay c rt e a w db bJ fv bp ak;obtain⟨hi,_⟩:=fv.aH;have KU:=aiZ fv bp.1 ak;have bP:=ax1 t bp.1;have aEW:=bp.2;have cj:=kids fv bp ak;have OE:(j0 ai (n+1) (i:Nat)).size<=400000000:=by rw[KU];omega
 have Hl:j0 ai (n+1) (i:Nat)=yD (b9 ai i)++Hw++wW (b9 ai i).at_++Hx++l6 (j0 ai n) (b9 ai i)++Hy:=by rfl
 rw[Hl]at OE ⊢;clear KU bP Hl;obtain⟨b,o,BI,BJ,rfl,Z,hj,nI⟩:=ajG db bJ hi;generalize b9 ai i=d at *;have dw:w.cell? ⟨b,o+i*11,none⟩=some (.int .i64 (d.k:Nat)):=nI 0 _ rfl;have ee:w.cell? ⟨b,o+i*11+1,none⟩=some (.string d.op):=nI 1 _ rfl
 have fh:w.cell? ⟨b,o+i*11+2,none⟩=some (.int .i64 d.at_):=nI 2 _ rfl;have gO:w.cell? ⟨b,o+i*11+3,none⟩=some BI:=nI 3 _ rfl;have Hp:w.cell? ⟨b,o+i*11+4,none⟩=some BJ:=nI 4 _ rfl;have Kz:w.cell? ⟨b,o+i*11+5,none⟩=some (.string d.t):=nI 5 _ rfl
 have Sn:w.cell? ⟨b,o+i*11+6,none⟩=some (.string d.dA):=nI 6 _ rfl;have So:w.cell? ⟨b,o+i*11+7,none⟩=some (.int .i64 d.a):=nI 7 _ rfl;have Zn:w.cell? ⟨b,o+i*11+8,none⟩=some (.int .i64 d.b):=nI 8 _ rfl;have Zo:w.cell? ⟨b,o+i*11+9,none⟩=some (.int .i64 d.q):=nI 9 _ rfl
 have Zp:w.cell? ⟨b,o+i*11+10,none⟩=some (.int .i64 (d.aw:Nat)):=nI 10 _ rfl;clear nI;have aCX:(⟨#[47]⟩:ao)=zK:=rfl;have H8:(⟨#[44]⟩:ao)=n0:=rfl;have aCY:(⟨#[64]⟩:ao)=Hw:=rfl;have aCZ:(⟨#[40]⟩:ao)=Hx:=rfl;have aC0:(⟨#[41]⟩:ao)=Hy:=rfl;have aEX:zK.size=1:=rfl
 have aEY:n0.size=1:=rfl;have aEZ:Hw.size=1:=rfl;have z40:Hx.size=1:=rfl;have aE0:Hy.size=1:=rfl;have yF:(l6 (j0 ai n) d).size<=400000000:=by grind
 refine cB (nt:=159) [.tmp 4] Tryz.func26 ?_;refine aA aa gp ?_;refine aL aa (ch gp dw ee fh gO Hp Kz (de Sn So Zn Zo Zp)) ?_ ?_
 ·grind [qV.zg]
 refine dL aa gp ?_
 refine fR ⟨60,bK [(2,.is (.own 0 0)),(5,.is (.own 1 0)),(6,.is (.v (.string d.op))),(8,.is (.v (.string (tI d.cO))))],bA [(0,.cells 59 [.v (.slice (some ⟨b,o,none⟩) ai.length c),.v (.int .i64 rt),.v (.int .i64 e),.v (.int .i64 a)]),(1,.cells 66 [.v (.int .i64 (d.k:Nat)),.v (.string d.op),.v (.int .i64 d.at_),.v BI,.v BJ,.v (.string d.t),.v (.string d.dA),.v (.int .i64 d.a),.v (.int .i64 d.b),.v (.int .i64 d.q),.v (.int .i64 (d.aw:Nat))])]⟩ ?_ ?_
 ·cases aI:d.cO with
  |none=>rw[aI]at hj;obtain⟨rfl,rfl⟩:=hj;refine dL aa gp ?_;exact b8 (λk=>if k=1 then .key 56 else .key k) (b3 gp aI @tI.eq_1 @tI.eq_2)
  |some r=>
   rw[aI]at hj;obtain⟨l,xg,fE,aC1,rfl,rfl,CM,hit,TW,Iu⟩:=hj;have ahQ:=cj.cO r aI;have kS:=qF r;have Tb:=yq (some r);have Tb:(zK++iG r++zK).size<=2400*aG r+4:=Tb;simp only[dU]at Tb;refine aR aa gp ?_ ?_<;>intro J
   ·skip;refine wr (auX l xg fE aC1 r U hit) (I gp aCX) ?_ ?_
    ·exact⟨CM,U,by simp only[dU];omega⟩
    exact b8 (λk=>if k=1 then .key 56 else .key k) (b3 gp aI @tI.eq_1 @tI.eq_2)
   ·exact absurd (qY J) U
 have aE1:(tI d.cO).size<=400000000:=by
  cases aI:d.cO with
  |none=>trivial
  |some r=>have ahQ:=cj.cO r aI;have Tb:(tI (some r)).size<=2400*aG r+4:=yq (some r);omega
 refine fR ⟨200,bK [(5,.is (.own 1 0)),(6,.is (.v (.string (yD d)))),(7,.is (.v (.string (l6 (j0 ai n) d))))],bA [(1,.cells 66 [.v (.int .i64 (d.k:Nat)),.v (.string d.op),.v (.int .i64 d.at_),.v BI,.v BJ,.v (.string d.t),.v (.string d.dA),.v (.int .i64 d.a),.v (.int .i64 d.b),.v (.int .i64 d.q),.v (.int .i64 (d.aw:Nat))])]⟩ ?_ ?_
 ·refine ae.block ?_;refine aR aa gp ?_ ?_<;>intro J
  ·have D:d.k=1:=by
    grind
   have hw:yD d=C0:=al D;have hO:l6 (j0 ai n) d=e9 d.t:=al D;have aV:=cj.t U;refine aA aa gp ?_;refine wr (BK ai n h dy (some ⟨b,o,none⟩) c rt e a) gp ?_ ?_
   ·omega
   exact bh (b3 gp hw hO @C0.eq_1)
  have D:¬d.k=1:=by grind
  clear J;refine aR aa gp ?_ ?_<;>intro J
  ·have O:d.k=2:=by
    grind
   have hw:yD d=C1:=by simp_all [yD]
   have hO:l6 (j0 ai n) d=tI d.cO:=by simp_all [l6]
   refine aA aa gp ?_;refine bY aa gp ?_;exact bh (b3 gp hw hO @C1.eq_1)
  have O:¬d.k=2:=by grind
  clear J;have hw:yD d=d.op:=by simp_all [yD]
  have aV:=cj.t O;have aC2:(⟨#[99,111,112,121]⟩:ao)=iX:=rfl;have aC3:(⟨#[107,101,121]⟩:ao)=nZ:=rfl;have aC4:(⟨#[105,100]⟩:ao)=jE:=rfl;have aC5:(⟨#[102,111,108,100]⟩:ao)=ke:=rfl;refine aA aa (de gp aC2 aC3 aC4 aC5) ?_;refine bC gp ?_ ?_<;>intro J
  ·have B:d.op=iX\/d.op=nZ\/d.op=jE\/d.op=ke:=by grind
   have hO:l6 (j0 ai n) d=tI d.cO:=by simp_all [l6]
   refine bY aa gp ?_;exact bh (aT gp hw hO)
  have B:¬(d.op=iX\/d.op=nZ\/d.op=jE\/d.op=ke):=by simp_all
  clear J;have sW:(⟨#[100,101,108]⟩:ao)=nz:=rfl;refine aA aa (I gp sW) ?_;refine bC gp ?_ ?_<;>intro J
  ·have aU:d.op=nz:=aC J
   have hO:l6 (j0 ai n) d=tI d.cO++n0++e9 d.t:=by simp_all [l6]
   rw[hO]at yF;simp only[dU]at yF;refine wr (BK ai n h dy (some ⟨b,o,none⟩) c rt e a) (I gp H8) ?_ ?_
   ·exact⟨U,U,by simp only[dU];omega⟩
   exact bh (aT gp hw hO)
  have aU:¬d.op=nz:=aC J
  clear J sW;have sW:(⟨#[110,111,114,109]⟩:ao)=fB:=rfl;refine aA aa (I gp sW) ?_;refine bC gp ?_ ?_<;>intro J
  ·have bn:d.op=fB:=aC J
   have hO:l6 (j0 ai n) d=tI d.cO++n0++e9 d.t++n0++e9 d.dA:=by simp_all [l6]
   rw[hO]at yF;simp only[dU]at yF;have qs:=cj.dA D O bn;refine iP (BK ai n h dy (some ⟨b,o,none⟩) c rt e a) (I gp H8) ?_ ?_
   ·exact⟨U,U,by simp only[dU];omega,by simp only[dU];omega,U,by simp only[dU];omega⟩
   exact bh (aT gp hw hO)
  have bn:¬d.op=fB:=aC J
  clear J sW;have sW:(⟨#[105,110,115]⟩:ao)=fX:=rfl;refine aA aa (I gp sW) ?_;refine bC gp ?_ ?_<;>intro J
  ·have cA:d.op=fX:=aC J
   have hO:l6 (j0 ai n) d=e9 d.t:=by simp_all [l6]
   refine wr (BK ai n h dy (some ⟨b,o,none⟩) c rt e a) (I gp H8) ?_ ?_
   ·omega
   exact bh (aT gp hw hO)
  have cA:¬d.op=fX:=aC J
  clear J sW;have sW:(⟨#[108,101,102,116]⟩:ao)=mZ:=rfl;refine aA aa (I gp sW) ?_;refine bC gp ?_ ?_<;>intro J
  ·have c1:d.op=mZ:=aC J
   have hO:l6 (j0 ai n) d=j0 ai n d.q++n0++j0 ai n d.a:=by grind [l6]
   rw[hO]at yF;simp only[dU]at yF;obtain⟨Zq,H9⟩:=cj.q D O (.inl c1);refine iP (BK ai n h dy (some ⟨b,o,none⟩) c rt e a) (I gp H8) ?_ ?_
   ·exact⟨⟨⟨db,bJ⟩,Zq⟩,U,⟨⟨db,bJ⟩,H9⟩,by simp only[dU];omega⟩
   exact bh (aT gp hw hO)
  have c1:¬d.op=mZ:=aC J
  clear J sW;have sW:(⟨#[114,105,103,104,116]⟩:ao)=na:=rfl;refine aA aa (I gp sW) ?_;refine bC gp ?_ ?_<;>intro J
  ·have oq:d.op=na:=aC J
   have hO:l6 (j0 ai n) d=j0 ai n d.a++n0++j0 ai n d.q:=by grind [l6]
   rw[hO]at yF;simp only[dU]at yF;obtain⟨Zq,H9⟩:=cj.q D O (.inr oq);refine iP (BK ai n h dy (some ⟨b,o,none⟩) c rt e a) (I gp H8) ?_ ?_
   ·exact⟨⟨⟨db,bJ⟩,H9⟩,U,⟨⟨db,bJ⟩,Zq⟩,by simp only[dU];omega⟩
   exact bh (aT gp hw hO)
  have oq:¬d.op=na:=aC J
  clear J sW;have sW:(⟨#[100,101,102,97,117,108,116]⟩:ao)=nB:=rfl;refine aA aa (I gp sW) ?_;refine bC gp ?_ ?_<;>intro J
  ·have uy:d.op=nB:=aC J
   have hO:l6 (j0 ai n) d=j0 ai n d.a++n0++e9 d.t:=by grind [l6]
   rw[hO]at yF;simp only[dU]at yF;have H9:=cj.a D O B aU bn cA;refine iP (BK ai n h dy (some ⟨b,o,none⟩) c rt e a) (I gp H8) ?_ ?_
   ·exact⟨⟨⟨db,bJ⟩,H9⟩,U,U,by simp only[dU];omega⟩
   exact bh (aT gp hw hO)
  have uy:¬d.op=nB:=aC J
  clear J sW;have H9:=cj.a D O B aU bn cA;refine aR aa gp ?_ ?_<;>intro J
  ·have S2:d.b<0:=aC J
   have hO:l6 (j0 ai n) d=j0 ai n d.a:=by simp_all [l6]
   refine wr (BK ai n h dy (some ⟨b,o,none⟩) c rt e a) gp ?_ ?_
   ·simp_all
   exact bh (aT gp hw hO)
  have S2:¬d.b<0:=aC J
  have aC6:=cj.b D O B aU bn cA c1 oq uy S2;have hO:l6 (j0 ai n) d=j0 ai n d.a++n0++j0 ai n d.b:=by grind [l6]
  rw[hO]at yF;simp only[dU]at yF;refine iP (BK ai n h dy (some ⟨b,o,none⟩) c rt e a) (I gp H8) ?_ ?_
  ·exact⟨⟨⟨db,bJ⟩,H9⟩,U,⟨⟨db,bJ⟩,aC6⟩,by simp only[dU];omega⟩
  exact bh (aT gp hw hO)
 have um:=cj.at_;simp only[dU]at OE;refine aL (BK ai n h dy (some ⟨b,o,none⟩) c rt e a) (b3 gp aCY aCZ aC0) ?_ ?_
 ·exact⟨U,⟨um.1,U⟩,by simp only[dU];omega,by simp only[dU];omega,by simp only[dU];omega,by simp only[dU];omega⟩
 refine bf gp ?_
 grind [den]
def Zr(ai:List cF):∀n,H7 ai n
 |0=>λt i dy ay c rt e a w D O B aU ak=>absurd ak (wb _)
 |n+1=>aCW ai n (Zr ai n)
abbrev Zs (s:ao):py Tryz.prog 23:=Jg (λW S=>s.size<=9223372036854775807) (λ_ _ _ _ _ h=>h) Tryz.call23 λw S hp=>aCH s hp w S
section
variable (G:aY)(s:ao)
def tP:Env Tryz.prog:=⟨λ| 21=>some Yd.spec|22=>some ((Kw s).spec G)|23=>some ((Zs s).spec G)|_=>none,λ| 39=>some tm|_=>none,λ_ _=>none⟩
theorem aC7:(tP G s).sp 21=some Yd.spec:=rfl
theorem aC8:(tP G s).sp 22=some ((Kw s).spec G):=rfl
theorem aC9:(tP G s).sp 23=some ((Zs s).spec G):=rfl
theorem aDa:(tP G s).eqs 39=some tm:=rfl
end
section
variable (ai:List cF)(n:Nat)(dy:aX)(ay:dj)(c:Nat)(rt e a:Int)
def K1:Env Tryz.prog:=⟨λ| 26=>some (K0 ai n (Zr ai n) dy ay c rt e a).spec|25=>some Kx.spec|24=>some C9.spec|f=>Bx f,λ_=>none,w9⟩
theorem aDb:(K1 ai n dy ay c rt e a).sp 26=some (K0 ai n (Zr ai n) dy ay c rt e a).spec:=rfl
theorem aDc:(K1 ai n dy ay c rt e a).sp 25=some Kx.spec:=rfl
theorem aDd:(K1 ai n dy ay c rt e a).sp 24=some C9.spec:=rfl
def aDe{κ:Nat}{hh:ca}{v:aM}{t:cl}(h:dB W (Out bs) v t)(aV:gC t):hN (K1 ai n dy ay c rt e a) W bs κ hh "Kind" [.v v]=⟨True,.v (.int .i64 (k7 t:Nat)),[],none,[],[]⟩:=
 ahJ rfl (λf s aW=>by
  unfold Bx at aW
  split at aW<;>cases aW<;>rfl) h aV
def aDf{κ:Nat}{hh:ca}{v:aM}{t:cl}(h:dB W (Out bs) v t)(aV:gC t):hN (K1 ai n dy ay c rt e a) W bs κ hh "Place" [.v v]=⟨True,.v (.int .i64 (sJ t:Nat)),[],none,[],[]⟩:=
 X2 rfl (λf s aW=>by
  unfold Bx at aW
  split at aW<;>cases aW<;>rfl) h aV
end
def pX:=(b3 (ch ez @w2 @yj @dH.eq_29 @aC7 @aC8 @aC9 @aDa) (ch @aDb @aDc @aDd @M5 @Yd.eq_1 @Kw.eq_1 @Zs.eq_1 @Du.eq_1) (ch @Du.eq_2 @S8.eq_1 @b5.ajA.eq_1 @Sb @HM @b5.Hv.eq_1 @ix.eq_1 @Bi.eq_1) (hV @ah0 @ah1 @R7 @R8 @ajI @ajJ @ajH))
def aDg(s:ao)(w:ar)(V:s.size<=9223372036854775807)(aK:Df w (Out [])):cQ 7 #[.string s] w (.bool true):=by
 have cc:bT w (Out []) w (bw (λ_=>True) []):=λb _ h=>⟨rfl,trivial,h⟩
 have aI:=aK.mono cc;have cf:oi (λ_=>True) w []:=oi.true _ _;have EG:=aCy s;refine cB (nt:=69) [.tmp 2] Tryz.func7 ?_;refine bk (tP (λ_=>True) s) pX ?_;refine aL (tP (λ_=>True) s) pX ?_ ?_
 ·exact aK
 refine bC pX ?_ ?_<;>intro J
 ·exact absurd J bq
 clear J;refine a1 ?_;cases bo:vK s with
 |error e=>
  obtain⟨c,a⟩:=e;rw[bo]at EG;obtain⟨gX,hp⟩:=EG;have Kv:decide (c=0)=false:=yJ gX;refine aL (tP (λ_=>True) s) (I pX bo) ?_ ?_
  ·exact⟨V,aI.1,aI.2.1⟩
  refine aL (tP (λ_=>True) s) (I pX hp) ?_ ?_
  ·exact V
  refine bk (tP (λ_=>True) s) (I pX Kv) ?_;refine bC pX ?_ ?_<;>intro J
  ·exact absurd J bq
  clear J;refine dL (tP (λ_=>True) s) (I pX Kv) ?_;refine fu (Γ:=aa) trivial pX ?_;skip;refine aA (tP (λ_=>True) s) pX ?_;refine bf pX ?_;exact λE=>by simp[den]
 |ok t=>
  rw[bo]at EG;obtain⟨⟨i,σ⟩,hp,fv⟩:=EG;have bp:=ahW bo;have KU:=aiZ fv bp.1 (Dz (jm t));obtain⟨hi,_,ad,um,bx,_⟩:=fv.aH;simp only at hi ad um bx KU fv;refine aL (tP (λ_=>True) s) (I pX bo) ?_ ?_
  ·exact⟨⟨V,aI.1,aI.2.1⟩,cf⟩
  refine ae.dt 32 (aJ pX) (bT.refl _ _) λcy ck hn bD la=>?_
  obtain⟨v1,rfl,dP⟩:=la;have Tc:LE.au v1=v1:=dP.au;have MO:=aI.mono bD.cc;have aDh:oi (λ_=>True) cy ck:=oi.true _ _;refine aL (tP (λ_=>True) s) (aT pX hp Tc) ?_ ?_
  ·exact⟨V,aDh⟩
  refine ae.dt 96 (aJ pX) (bT.refl _ _) λcL c7 h9 cq hg=>?_
  obtain⟨dy,ay,c,rfl,db,bJ⟩:=hg;refine bk (tP (λ_=>True) s) (I pX Tc) ?_;refine bC pX ?_ ?_<;>intro J
  ·exact absurd J bq
  clear J;refine dL (tP (λ_=>True) s) (I pX Tc) ?_;refine bC pX ?_ ?_<;>intro J
  ·exact absurd J bq
  clear J;refine a1 ?_;obtain⟨b,o,BI,BJ,rfl,Z,hj,nI⟩:=ajG db bJ hi;have cg:dB cL (Out c7) v1 t:=(dP.mono cq.cc).out;have kx:jl cL v1=t:=lG cg;have mr:Df cL (Out c7):=(MO.mono cq.cc).mono λb _ Z=>⟨rfl,Z.2⟩
  have oj:=λκ hh=>aDe σ.ai (jm t+1) dy (some ⟨b,o,none⟩) c (i:Nat) 0 σ.at_ (κ:=κ) (hh:=hh) cg bp.1
  have pl:=λκ hh=>aDf σ.ai (jm t+1) dy (some ⟨b,o,none⟩) c (i:Nat) 0 σ.at_ (κ:=κ) (hh:=hh) cg bp.1
  have gj:dK t<=l2:=by have:=bp.2;unfold l2;omega
  generalize ak:b9 σ.ai i=d at *;have dw:cL.cell? ⟨b,o+i*11,none⟩=some (.int .i64 (d.k:Nat)):=nI 0 _ rfl;have ee:cL.cell? ⟨b,o+i*11+1,none⟩=some (.string d.op):=nI 1 _ rfl;have fh:cL.cell? ⟨b,o+i*11+2,none⟩=some (.int .i64 d.at_):=nI 2 _ rfl;have gO:cL.cell? ⟨b,o+i*11+3,none⟩=some BI:=nI 3 _ rfl
  have Hp:cL.cell? ⟨b,o+i*11+4,none⟩=some BJ:=nI 4 _ rfl;have Kz:cL.cell? ⟨b,o+i*11+5,none⟩=some (.string d.t):=nI 5 _ rfl;have Sn:cL.cell? ⟨b,o+i*11+6,none⟩=some (.string d.dA):=nI 6 _ rfl;have So:cL.cell? ⟨b,o+i*11+7,none⟩=some (.int .i64 d.a):=nI 7 _ rfl
  have Zn:cL.cell? ⟨b,o+i*11+8,none⟩=some (.int .i64 d.b):=nI 8 _ rfl;have Zo:cL.cell? ⟨b,o+i*11+9,none⟩=some (.int .i64 d.q):=nI 9 _ rfl;have Zp:cL.cell? ⟨b,o+i*11+10,none⟩=some (.int .i64 (d.aw:Nat)):=nI 10 _ rfl;refine aL (tP (λ_=>True) s) (ch pX dw ee fh gO Hp Kz (de Sn So Zn Zo Zp)) ?_ ?_
  ·exact⟨⟨U,U⟩,Z.2,hj.zg⟩
  obtain⟨k,u,rfl⟩:=cg.iface;refine dh (K1 σ.ai (jm t+1) dy (some ⟨b,o,none⟩) c (i:Nat) 0 σ.at_) (ch pX oj pl kx Tc ad um (I bx KU)) ?_ ?_
  ·exact⟨⟨t,cg,gj⟩,⟨t,cg,bp,mr.2⟩,⟨db.mono λb _ Z=>⟨rfl,Z.2⟩,bJ.mono λb _ Z=>⟨rfl,Z.2⟩⟩,t,i,rfl,fv,bp,Dz _⟩
  refine bf pX ?_;exact λE=>by simp[den]
end
end Go.Proofs.YtnemkecffmdlnaaGreatDoor
namespace Go.Proofs.YtnemkecffmdlnaaGreatDoor.termReads
section
set_option maxRecDepth 100000
theorem pA:Rows.termReadsRow.wf (OpenSpec.ofChange (OpenSpec.ofChange Rows.termReadsSpec).bare)=true:=by kernel_rfl
theorem e8:laidOutB Tryz.prog=true:=by kernel_rfl
theorem dz:mapsRowed Tryz.prog=true:=by kernel_rfl
theorem kn:Tryz.f7.params.all (Tryz.prog.readableRec ·)=true:=by kernel_rfl
theorem om:namedTie Tryz.prog Rows.termReadsRow.named (OpenSpec.ofChange Rows.termReadsSpec).bare.vars=true:=by kernel_rfl
theorem te:(Rows.termReadsRow.stops==[])=true:=by kernel_rfl
theorem aDi:(Tryz.prog.stops==[])=true:=by kernel_rfl
theorem aDj:(Rows.termReadsRow.knobs==[])=true:=by kernel_rfl
theorem aDk:(Tryz.prog.stopKnobs==[])=true:=by kernel_rfl
theorem aDl:(Rows.termReadsRow.inPlace==Tryz.prog.inPlace 7)=true:=by kernel_rfl
theorem aDm:(Rows.termReadsRow.unfollowed==Tryz.prog.unfollowed 7)=true:=by kernel_rfl
theorem aDn:(Rows.termReadsRow.recurses==Tryz.prog.recurses 7)=true:=by kernel_rfl
theorem aDo:(Rows.termReadsRow.named==Tryz.prog.varsNamed 7)=true:=by kernel_rfl
theorem aDp:(Rows.termReadsRow.maps==(Tryz.f7.params.toList++(OpenSpec.ofChange Rows.termReadsSpec).bare.plain.varTypes Tryz.prog).any (Tryz.prog.mapsRec ·))=true:=by kernel_rfl
theorem aDq:(Rows.termReadsRow.ifaces==(Tryz.f7.params.toList++(OpenSpec.ofChange Rows.termReadsSpec).bare.plain.varTypes Tryz.prog).any (Tryz.prog.ifacesRec ·))=true:=by kernel_rfl
theorem aDr:(Rows.termReadsRow.mapsOut==Tryz.prog.mapsAmong Tryz.f7.resultTypes.toList)=true:=by kernel_rfl
theorem aDs:(Rows.termReadsRow.loops==(Tryz.f7.params.toList++(OpenSpec.ofChange Rows.termReadsSpec).bare.plain.varTypes Tryz.prog).any (Tryz.prog.loopsFrom ·))=true:=by kernel_rfl
theorem aDt:(Rows.termReadsRow.wideKeys==(Tryz.f7.params.toList++(OpenSpec.ofChange Rows.termReadsSpec).bare.plain.varTypes Tryz.prog++Tryz.f7.resultTypes.toList).any (Tryz.prog.wideKeysFrom ·))=true:=by kernel_rfl
theorem aDu:(OpenSpec.ofChange Rows.termReadsSpec).bare.vars.all (Tryz.prog.varReadable ·)=true:=by kernel_rfl
theorem aDv:Tryz.f7.resultTypes.all (λt=>Tryz.prog.readableRec t&&decide (t<Tryz.prog.types.size))=true:=by kernel_rfl
theorem aDw:(Rows.termReadsRow.ifacesOut==Tryz.f7.resultTypes.toList.any (Tryz.prog.ifacesRec ·))=true:=by kernel_rfl
theorem aDx:(Rows.termReadsRow.loopsOut==Tryz.f7.resultTypes.toList.any (Tryz.prog.loopsFrom ·))=true:=by kernel_rfl
theorem aDy:(Rows.termReadsRow.plainKeys==Tryz.prog.plainKeys)=true:=by kernel_rfl
theorem aDz:Rows.termReadsRow.shortTexts.isNone=true:=by kernel_rfl
theorem aDA:Tryz.prog.stopsHeard=true:=by kernel_rfl
theorem aDB:Tryz.prog.mayEnter=true:=by kernel_rfl
theorem aDC:(Rows.termReadsRow.lifted==Tryz.prog.liftsFinal)=true:=by kernel_rfl
theorem aDD:(Tryz.prog.make==some Rows.termReadsRow.make)=true:=by kernel_rfl
theorem aDE:(Rows.termReadsRow.kinds==(if Rows.termReadsRow.domain.isEmpty then [] else Tryz.f7.params.toList.map λt=>match Tryz.prog.underlying t with|some (.int k)=>some k|_=>none))=true:=by kernel_rfl
theorem aDF:(Rows.termReadsRow.pinned==Rows.termReadsRow.pinnedBy)=true:=by kernel_rfl
theorem aDG:(Rows.termReadsRow.veiled==(Tryz.f7.params.toList++(OpenSpec.ofChange Rows.termReadsSpec).bare.plain.varTypes Tryz.prog++Tryz.f7.resultTypes.toList).any (Tryz.prog.veiledRec ·))=true:=by kernel_rfl
theorem aDH:Rows.termReadsRow.veiledFits Tryz.prog Tryz.f7.params.toList (Tryz.f7.params.toList++(OpenSpec.ofChange Rows.termReadsSpec).bare.plain.varTypes Tryz.prog++Tryz.f7.resultTypes.toList)=true:=by kernel_rfl
theorem facts:joinedFacts Tryz.prog 7 Tryz.f7 (OpenSpec.ofChange Rows.termReadsSpec).bare Rows.termReadsRow=true:=by unfold joinedFacts;simp only[ob];exact⟨⟨⟨⟨⟨⟨⟨⟨⟨⟨⟨⟨⟨⟨⟨⟨⟨⟨⟨⟨⟨⟨⟨⟨⟨⟨⟨⟨⟨⟨⟨pA,e8⟩,dz⟩,kn⟩,om⟩,te⟩,aDi⟩,aDj⟩,aDk⟩,aDl⟩,aDm⟩,aDn⟩,aDo⟩,aDp⟩,aDq⟩,aDr⟩,aDs⟩,aDt⟩,aDu⟩,aDv⟩,aDw⟩,aDx⟩,aDy⟩,aDz⟩,aDA⟩,aDB⟩,aDC⟩,aDD⟩,aDE⟩,aDF⟩,aDG⟩,aDH⟩
end
section
open Go Go.ChangeShapes Go.WideShapes Go.ChangeAt Go.RowKit Go.LE
open Go.ChangeMaps (open_string shut_string)
set_option maxRecDepth 10000
variable(os:Os)
theorem aDI(aE9:Type)(enc:TypeId×Value->aE9)(W:ar)(base:Nat)(args:hE)(az gs:List (DataW aE9))(before:List MemPlace)
  (LF:∀(j:Nat) t v,Tryz.f7.params[j]?=some t->args[j]?=some v->Value.okWide Tryz.prog W .any base t v)
  (ve:DataW.Whole enc Tryz.prog Tryz.f7.params.toList Rows.termReadsSpec.vars false W args.toList az gs before) (gi:laidMetH Tryz.prog Rows.termReadsRow.laid W) (bp:W.ShapedOpen Tryz.prog) :
  Calls Tryz.prog 7 args W λe aO=>∃v,e=.returned v/\Rows.termReadsSpec.post enc Tryz.prog Tryz.f7 false true false false W args v aO:=by
 have P2 := ve;obtain⟨p,q,BH,AD,rfl,UT,su⟩:=ve;have cb:DataW.TrodAll enc Tryz.prog W 0 (λ_=>true) true Tryz.f7.params.toList args.toList az p:=BH;rw[Tryz.params7]at cb LF;obtain⟨v0,Qj,d0,zZ,j5,eN,Gf,rfl,rfl,A,eW⟩:=trodAll_cons cb;obtain⟨rfl,rfl,rfl⟩:=trodAll_nil eW
 obtain rfl:args=#[v0]:=by cases args;simp_all
 obtain⟨rfl,rfl⟩:=trodVars_none AD;obtain⟨s,rfl,rfl,rfl,aQ⟩:=open_string Tryz.underlying9 (LF 0 9 v0 rfl rfl) A;unfold maxLen at aQ;have Zt:laidMet Tryz.prog Rows.termReadsRow.laid W:=gi;have g1:=avb (Lib.laidMet.reads Zt (.tail _ (.tail _ (.head _))))
 have g2:=ave (Lib.laidMet.reads Zt (.tail _ (.tail _ (.tail _ (.head _)))));have g3:=azL (Lib.laidMet.reads Zt (.tail _ (.tail _ (.tail _ (.tail _ (.head _))))));have bJ:Df W (Out []):=⟨⟨azM bp,g3⟩,g2,g1⟩;refine(aDg s W (by omega) bJ).mono λe aO ⟨he,xP⟩=>?_
 subst he;exact⟨_,rfl,anH au3 au4 au5 (by kernel_rfl) (tb:=4) rfl Tryz.underlying4 rfl P2 rfl rfl rfl xP⟩
def Zu(os:Os):World:=World.laidAll Tryz.prog os Rows.termReadsRow.laid
def Td:Array Value:=#[.string .empty]
theorem aDJ:laidMet Tryz.prog Rows.termReadsRow.laid ((Zu os).forCall (λ_ _=>0) ⟨#[],Td,[]⟩).memory:=laidMet_laidAll _ (by kernel_rfl) (by kernel_rfl)
theorem reads{aE9:Type}(enc:TypeId×Value->aE9):∃places,DataW.whole enc Tryz.prog ((Zu os).forCall (λ_ _=>0) ⟨#[],Td,[]⟩).memory Tryz.f7.params.toList Rows.termReadsSpec.vars false Td.toList 8=some ([.lit (.string [])],[],places):=⟨[],by kernel_rfl⟩
set_option maxRecDepth 100000 in
theorem lifted(started:os.Started)(aE9:Type)(enc:TypeId×Value->aE9)(F:Stop.Interp):
  ReturnsInHanded {} Tryz.checked os 7 .any ((OpenSpec.ofChange Rows.termReadsSpec).preRow enc Tryz.prog Tryz.f7 Rows.termReadsRow.domain false Rows.termReadsRow.laid) (((OpenSpec.ofChange Rows.termReadsSpec).at F).post enc Tryz.prog Tryz.f7 false true false false):=by
 obtain⟨places,aB⟩:=reads os enc;refine returnsInHanded_of_row (C:=Tryz.checked) (s:=OpenSpec.ofChange Rows.termReadsSpec) au2 started (by kernel_rfl) Tryz.func7
  (witness_row_at (enc:=enc) (C:=Tryz.checked) false (Zu os) Td (World.laidAll_os _ _ _) (by kernel_rfl) (by kernel_rfl) (by kernel_rfl)
   (OpenSpec.preRow_of_cond 8 aB (by kernel_rfl) (λk ad=>by cases ad) (by kernel_rfl) (aDJ os))) ?_
 intro W base args az gs before LF ve _ aE2 _ gi bp _;exact aDI aE9 enc W base args az gs before LF ve gi bp
theorem said:Rows.TermReadsSaid:=
 OpenClaim.holds_of_cond 7 Tryz.f7 rfl rfl rfl rfl rfl rfl rfl ⟨rfl,rfl,rfl,rfl,rfl⟩ rfl rfl rfl rfl rfl (by kernel_rfl) Tryz.func7 facts
  (tR (by kernel_rfl)) (by unfold Func.isWrapper;first|(rw[al (by decide +kernel)];kernel_rfl)|(rw[ab (by decide +kernel)];exact⟨rfl,rfl⟩))
  (λos started aE9 enc _ F=>by rw[OpenClaim.pre_eq_preRow];exact lifted os started aE9 enc F)
theorem plain(f:dr)(fn:Func)(aW:Tryz.pinned.checked.prog.funcNamed "loupe/loupelaw14.TermReads"=some f)(U7:Tryz.pinned.checked.prog.funcs[f]?=some fn) :
  true=Tryz.pinned.checked.prog.looks []/\∀(j:Nat) t,fn.params[j]?=some t->Tryz.pinned.checked.prog.wantsStandIn t=false:=by
 obtain rfl:f=7:=qZ ((show Tryz.prog.funcNamed "loupe/loupelaw14.TermReads"=some 7 by kernel_rfl).symm.trans aW) |>.symm;obtain rfl:fn=Tryz.f7:=(qZ (Tryz.func7.symm.trans U7)).symm;refine⟨by kernel_rfl,λj t aV=>?_⟩;rw[Tryz.params7]at aV;obtain rfl:t=9:=by simpa using ZK aV
 exact(show Tryz.prog.wantsStandIn 9=false by kernel_rfl)
theorem proved:Rows.TermReadsCardSaid:=Claim7.holds_tied_plain_at .later [] _ _ _ _ said (λ_ h=>by cases h) (by kernel_rfl) (λ_ h=>by cases h) rowTie rfl ⟨rfl,rfl⟩ (by kernel_rfl) rfl plain (by kernel_rfl)
end
end Go.Proofs.YtnemkecffmdlnaaGreatDoor.termReads
