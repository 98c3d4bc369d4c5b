/-
 Part 2 of the proof (packed).
-/
import Derived.Test.YtnemkecffmdlnaaGreatDoorD1
import Derived.Deep.LoopGhost
import Derived.Test.YtnemkecffmdlnaaGreatDoorProg
import Derived.WalkKit
import Derived.ProofKit
import Derived.OpenShut
import Derived.JoinedCond
import Derived.Lib.SmallJoins
import Derived.ReadAgain
import Derived.Deep.Slices
import Derived.Deep.Strs
import Derived.Defers
import Derived.Recover
set_option linter.unusedSimpArgs false
set_option linter.unusedVariables false
set_option linter.defProp false
set_option maxHeartbeats 16000000
namespace Go.LE
section
open Go.RowKit
structure Ext (W:World)(bs:List Nat)(W' : World)(bs' : List Nat):Prop where
 keeps:af W bs W'
 sub:∀ b∈bs',W.heap.size<=b\/b∈bs
theorem Ext.refl(W:World)(bs:List Nat):Ext W bs W bs:=⟨af.refl W bs,λ_ h=>.inr h⟩
theorem Ext.trans{W W' W'' : World}{bs bs' bs'' : List Nat}(h:Ext W bs W' bs')(h' : Ext W' bs' W'' bs''):Ext W bs W'' bs'' :=
 ⟨h.keeps.trans h'.keeps λb hb hlt=>(h.sub b hb).resolve_left oM,λb hb=>(h'.sub b hb).elim (λh1=>.inl (Nat.le_trans h.keeps.size h1)) λh1=>h.sub b h1⟩
theorem Ext.dC{W W' w:World}{bs bs' : List Nat}(h:Ext W bs W' bs')(h' : af W' bs' w):af W bs w:=
 h.keeps.trans h' λb hb hlt=>(h.sub b hb).resolve_left oM
theorem ab.back{W W' w:World}{bs bs' : List Nat}{E:Nat->Value}{F:Nat->List Nat}{h:Hp}(he:Ext W bs W' bs')(hs:ab W' bs' E F h w):ab W bs E F h w:=
 ⟨hs.ent,hs.lt,λk e hk b hb=>(hs.mine k e hk b hb).elim (λh1=>.inl (Nat.le_trans he.keeps.size h1)) λh1=>he.sub b h1,hs.apart,he.dC hs.keeps⟩
theorem Sat.back{W W' : World}{bs bs' : List Nat}{nt:Nat}{ds:Aux}{σ:St}{a:Act}{w:World}(he:Ext W bs W' bs')(h:Sat W' bs' nt ds σ a w):Sat W bs nt ds σ a w:=by
 obtain⟨⟨E,F,hf,hs,hp⟩,h1,h2,h3,h4,h5⟩:=h;exact⟨⟨E,F,hf,hs.back he,hp⟩,h1,h2,h3,h4,h5⟩
abbrev jZ:=Exit->World->List Nat->St->Prop
def Wp(P:Program)(W:World)(bs:List Nat)(nt:Nat)(ds:Aux)(c:Code)(Q:jZ)(σ:St):Prop:=
 ∀ a w,Sat W bs nt ds σ a w->c.wp P (λe a' w' => ∃ W' bs' σ',Ext W bs W' bs' /\ Q e W' bs' σ' /\ Sat W' bs' nt ds σ' a' w') a w
def Le(W:World)(bs:List Nat)(nt:Nat)(ds:Aux)(σ σ' : St):Prop:=∀ a w,Sat W bs nt ds σ a w->Sat W bs nt ds σ' a w
def Th(next:World->List Nat->St->Prop)(Q:jZ):jZ
 |.normal,W,bs,σ=>next W bs σ
 |e,W,bs,σ=>Q e W bs σ
def Bl(id:Nat)(Q:jZ):jZ
 |.exit id',W,bs,σ=>if id' = id then Q .normal W bs σ else Q (.exit id') W bs σ
 |e,W,bs,σ=>Q e W bs σ
section
variable {next:World->List Nat->St->Prop}{Q:jZ}{W:World}{bs:List Nat}{σ:St}
theorem eV(h:next W bs σ):Th next Q .normal W bs σ:=h
theorem lx(h:Q .ret W bs σ):Th next Q .ret W bs σ:=h
theorem iX{i:Nat}(h:Q (.exit i) W bs σ):Th next Q (.exit i) W bs σ:=h
theorem gC{c:List PanicEntry}(h:Q (.panic c) W bs σ):Th next Q (.panic c) W bs σ:=h
theorem eU{id:Nat}(h:Q .normal W bs σ):Bl id Q .normal W bs σ:=h
theorem lj{id:Nat}(h:Q .ret W bs σ):Bl id Q .ret W bs σ:=h
theorem gk{id:Nat}{c:List PanicEntry}(h:Q (.panic c) W bs σ):Bl id Q (.panic c) W bs σ:=h
theorem jb{id:Nat}(h:Q .normal W bs σ):Bl id Q (.exit id) W bs σ:=by simpa [Bl] using h
theorem dA{id i:Nat}(hn:i≠id)(h:Q (.exit i) W bs σ):Bl id Q (.exit i) W bs σ:=by simpa [Bl,hn] using h
end
section
variable {P:Program}{W:World}{bs:List Nat}{nt:Nat}{ds:Aux}{Q:jZ}{σ:St}
theorem nI{W W' : World}{bs bs' : List Nat}{e:Exit}{a:Act}{w:World}{Q:jZ}(he:Ext W bs W' bs')(h:∃ W'' bs'' σ',Ext W' bs' W'' bs'' /\ Q e W'' bs'' σ' /\ Sat W'' bs'' nt ds σ' a w) :
  ∃ W'' bs'' σ',Ext W bs W'' bs'' /\ Q e W'' bs'' σ' /\ Sat W'' bs'' nt ds σ' a w:=by
 obtain⟨W'',bs'',σ',h1,h2,h3⟩:=h;exact⟨W'',bs'',σ',he.trans h1,h2,h3⟩
theorem Wp.mono{c:Code}{Q' : jZ}(h:Wp P W bs nt ds c Q σ)(hq:∀ e W bs σ,Q e W bs σ->Q' e W bs σ):Wp P W bs nt ds c Q' σ:=
 λa w hs=>wp_mono (h a w hs) λe _ _ ⟨W',bs',σ',he,hq',hs'⟩=>⟨W',bs',σ',he,hq _ _ _ _ hq',hs'⟩
theorem Wp.Il{c:Code}{σ' : St}(hle:Le W bs nt ds σ σ')(h:Wp P W bs nt ds c Q σ'):Wp P W bs nt ds c Q σ:=
 λa w hs=>h a w (hle a w hs)
theorem Wp.skip(h:Q .normal W bs σ):Wp P W bs nt ds .skip Q σ:=λa w hs=>wp_skip ⟨W,bs,σ,Ext.refl W bs,h,hs⟩
theorem Wp.exit{id:Nat}(h:Q (.exit id) W bs σ):Wp P W bs nt ds (.exit id) Q σ:=λa w hs=>wp_exit ⟨W,bs,σ,Ext.refl W bs,h,hs⟩
theorem Wp.goto{l:Nat}(h:Q (.goto l) W bs σ):Wp P W bs nt ds (.goto l) Q σ:=λa w hs=>wp_goto ⟨W,bs,σ,Ext.refl W bs,h,hs⟩
theorem Wp.ret(h:Q .ret W bs σ):Wp P W bs nt ds .ret Q σ:=λa w hs=>wp_ret ⟨W,bs,σ,Ext.refl W bs,h,hs⟩
theorem Wp.seq{x y:Code}(h:Wp P W bs nt ds x (Th (λW bs σ=>Wp P W bs nt ds y Q σ) Q) σ):Wp P W bs nt ds (.seq x y) Q σ:=λa w hs=>
 wp_seq (wp_mono (h a w hs) λe a' w' ⟨W',bs',σ',he,hq,hs'⟩=>by
  cases e with
  |normal=>exact wp_mono (hq a' w' hs') λe'' a'' w'' hh=>nI he hh
  |_=>exact⟨W',bs',σ',he,hq,hs'⟩)
theorem Wp.block{id:Nat}{c:Code}(h:Wp P W bs nt ds c (Bl id Q) σ):Wp P W bs nt ds (.block id c) Q σ:=λa w hs=>
 wp_block (wp_mono (h a w hs) λe a' w' ⟨W',bs',σ',he,hq,hs'⟩=>by
  cases e with
  |exit i=>
   simp only[Bl]at hq
   simp only[Exit.inBlock]
   split
   ·rename_i hi;rw[if_pos hi]at hq;exact⟨W',bs',σ',he,hq,hs'⟩
   ·rename_i hi;rw[if_neg hi]at hq;exact⟨W',bs',σ',he,hq,hs'⟩
  |_=>exact⟨W',bs',σ',he,hq,hs'⟩)
theorem Wp.cond{c:Operand}{x y:Code}{b:Bool}{p:Prop}(hc:lb σ.φ true c=(p,.v (.bool b)))(hp:p)
  (ht:b=true->Wp P W bs nt ds x Q σ) (hf:b=false->Wp P W bs nt ds y Q σ):Wp P W bs nt ds (.cond c x y) Q σ:=λa w hs=>by
 obtain⟨E,F,hφ,hh,_⟩:=hs.ex;have:a.eval c=.bool b:=by
  rw[p7 hφ rfl (by rw[hc];exact hp),hc];rfl
 exact wp_cond_split this (λhb=>ht hb a w hs) (λhb=>hf hb a w hs)
theorem Wp.JN(Γ:Env P){id:Nat}{d:Bool}{ops:Array Oper}{g:RG}(hm:P.follows .mixedOrders=true)
  (hg:l8 Γ W bs nt ops ops.toList σ.n σ.φ σ.h=g) (hside:g.side) (hd:d=true->lO ops=true/\lU ops g.fx=true)
  (hQ:(∀ x∈g.pans,x=none)->Q .normal W bs ⟨g.n,g.φ,g.h⟩) (hP:∀ c,some c∈g.pans->Q (.panic c) W bs ⟨σ.n,qQ ops σ.φ,dropKeys σ.h g.lost⟩) :
  Wp P W bs nt ds (.region id ops d) Q σ:=λa w hs=>
 NH Γ hm hs hg hside hd (λhn a' w' hs' => ⟨W,bs,_,Ext.refl W bs,hQ hn,hs'⟩) (λc hc a' w' hs' => ⟨W,bs,_,Ext.refl W bs,hP c hc,hs'⟩)
theorem Wp.region(Γ:Env P){id:Nat}{d:Bool}{ops:Array Oper}{g:RG}(hm:P.follows .mixedOrders=true)
  (hg:l8 Γ W bs nt ops ops.toList σ.n σ.φ σ.h=g) (hside:g.side) (hd:d=true->lO ops=true/\lU ops g.fx=true)
  (hQ:Q .normal W bs ⟨g.n,g.φ,g.h⟩) (hP:∀ c,some c∈g.pans->Q (.panic c) W bs ⟨σ.n,qQ ops σ.φ,dropKeys σ.h g.lost⟩) :
  Wp P W bs nt ds (.region id ops d) Q σ:=Wp.JN Γ hm hg hside hd (λ_=>hQ) hP
theorem Jb{α:Type}{l:List (Option α)}{c:α}(h:l.filter Option.isSome=[some c]):some c∈l/\∀ x,some x∈l->x=c:=by
 have h1:some c∈l.filter Option.isSome:=by rw[h];simp
 refine⟨(List.mem_filter.1 h1).1,λx hx=>?_⟩;have:some x∈l.filter Option.isSome:=List.mem_filter.2 ⟨hx,rfl⟩;rw[h]at this;simpa using this
theorem Wp.om(Γ:Env P){id:Nat}{ops:Array Oper}{side:Prop}{lost:List Nat}{c:List PanicEntry}(hm:P.follows .mixedOrders=true)
  (hg:vq Γ W bs nt ops ops.toList σ.n σ.φ σ.h=⟨side,some c,lost⟩) (hside:side)
  (hQ:Q (.panic c) W bs ⟨σ.n,qQ ops σ.φ,dropKeys σ.h lost⟩):Wp P W bs nt ds (.region id ops false) Q σ:=λa w hs=>
 Ik Γ hs hg hside λa' w' hs' => ⟨W,bs,_,Ext.refl W bs,hQ,hs'⟩
theorem Wp.Kh(Γ:Env P){id:Nat}{ops:Array Oper}{side:Prop}{n:Nat}{φ:Fr}{h:Hp}{pans:List (Option (List PanicEntry))}{lost:List Nat}{fx:List (List Nat×List Nat)}{c:List PanicEntry}(hm:P.follows .mixedOrders=true)
  (hg:l8 Γ W bs nt ops ops.toList σ.n σ.φ σ.h=⟨side,n,φ,h,pans,lost,fx⟩) (hp:pans.filter Option.isSome=[some c]) (hd:(lO ops&&lU ops fx)=true) (hside:side)
  (hQ:Q (.panic c) W bs ⟨σ.n,qQ ops σ.φ,dropKeys σ.h lost⟩):Wp P W bs nt ds (.region id ops true) Q σ:=
 Wp.JN Γ hm hg hside (λ_=>by rw[Bool.and_eq_true]at hd;exact hd) (λhn=>by cases hn _ (Jb hp).1) λc' hc' => by rw[(Jb hp).2 c' hc'];exact hQ
theorem Wp.iT(Γ:Env P){id:Nat}{ops:Array Oper}{y:Code}{side:Prop}{lost:List Nat}{c:List PanicEntry}(hm:P.follows .mixedOrders=true)
  (hg:vq Γ W bs nt ops ops.toList σ.n σ.φ σ.h=⟨side,some c,lost⟩) (hside:side)
  (hQ:Q (.panic c) W bs ⟨σ.n,qQ ops σ.φ,dropKeys σ.h lost⟩):Wp P W bs nt ds (.seq (.region id ops false) y) Q σ:=
 Wp.seq (Wp.om Γ hm hg hside hQ)
theorem Wp.Uf(Γ:Env P){id:Nat}{ops:Array Oper}{y:Code}{side:Prop}{n:Nat}{φ:Fr}{h:Hp}{pans:List (Option (List PanicEntry))}{lost:List Nat}{fx:List (List Nat×List Nat)}(hm:P.follows .mixedOrders=true)
  (hg:l8 Γ W bs nt ops ops.toList σ.n σ.φ σ.h=⟨side,n,φ,h,pans,lost,fx⟩) (hp:pans.all Option.isNone=true) (hside:side)
  (hQ:Wp P W bs nt ds y Q ⟨n,φ,h⟩):Wp P W bs nt ds (.seq (.region id ops false) y) Q σ:=
 Wp.seq (Wp.region Γ hm hg hside (λhd=>by cases hd) hQ λc hc=>by rw[List.all_eq_true]at hp;have:=hp _ hc;cases this)
theorem Wp.ZL(Γ:Env P){id:Nat}{ops:Array Oper}{y:Code}{side:Prop}{n:Nat}{φ:Fr}{h:Hp}{pans:List (Option (List PanicEntry))}{lost:List Nat}{fx:List (List Nat×List Nat)}(hm:P.follows .mixedOrders=true)
  (hg:l8 Γ W bs nt ops ops.toList σ.n σ.φ σ.h=⟨side,n,φ,h,pans,lost,fx⟩) (hp:pans.all Option.isNone=true) (hd:(lO ops&&lU ops fx)=true) (hside:side)
  (hQ:Wp P W bs nt ds y Q ⟨n,φ,h⟩):Wp P W bs nt ds (.seq (.region id ops true) y) Q σ:=
 Wp.seq (Wp.region Γ hm hg hside (λ_=>by rw[Bool.and_eq_true]at hd;exact hd) hQ λc hc=>by rw[List.all_eq_true]at hp;have:=hp _ hc;cases this)
theorem Wp.Cm(Γ:Env P){id:Nat}{ops:Array Oper}{side:Prop}{n:Nat}{φ:Fr}{h:Hp}{pans:List (Option (List PanicEntry))}{lost:List Nat}{fx:List (List Nat×List Nat)}(hm:P.follows .mixedOrders=true)
  (hg:l8 Γ W bs nt ops ops.toList σ.n σ.φ σ.h=⟨side,n,φ,h,pans,lost,fx⟩) (hp:pans.all Option.isNone=true) (hside:side)
  (hQ:Q .normal W bs ⟨n,φ,h⟩):Wp P W bs nt ds (.region id ops false) Q σ:=
 Wp.region Γ hm hg hside (λhd=>by cases hd) hQ λc hc=>by rw[List.all_eq_true]at hp;have:=hp _ hc;cases this
theorem Wp.UX(Γ:Env P){id:Nat}{ops:Array Oper}{side:Prop}{n:Nat}{φ:Fr}{h:Hp}{pans:List (Option (List PanicEntry))}{lost:List Nat}{fx:List (List Nat×List Nat)}(hm:P.follows .mixedOrders=true)
  (hg:l8 Γ W bs nt ops ops.toList σ.n σ.φ σ.h=⟨side,n,φ,h,pans,lost,fx⟩) (hp:pans.all Option.isNone=true) (hd:(lO ops&&lU ops fx)=true) (hside:side)
  (hQ:Q .normal W bs ⟨n,φ,h⟩):Wp P W bs nt ds (.region id ops true) Q σ:=
 Wp.region Γ hm hg hside (λ_=>by rw[Bool.and_eq_true]at hd;exact hd) hQ λc hc=>by rw[List.all_eq_true]at hp;have:=hp _ hc;cases this
theorem Wp.loop{c:Code}{ι:Type}(I:ι->St)(ok:ι->Prop)(μ:ι->Nat)(p0:ι)(hle:Le W bs nt ds σ (I p0))(h0:ok p0)
  (round:∀ p,ok p->Wp P W bs nt ds c (Th (λW' bs' σ' => ∃ p',ok p' /\ μ p' < μ p/\Le W' bs' nt ds σ' (I p')) Q) (I p)):Wp P W bs nt ds (.loop c) Q σ:=λa w hs=>
 wp_loop_ghost (λn a w=>∃ p,ok p/\μ p=n/\Sat W bs nt ds (I p) a w) (μ p0) ⟨p0,h0,rfl,hle a w hs⟩ λn a w ⟨p,hp,hn,hsat⟩=>
  wp_mono (round p hp a w hsat) λe a' w' ⟨W',bs',σ',he,hq,hs'⟩=>by
   cases e with
   |normal=>
    obtain⟨p',hp',hlt,hle'⟩:=hq;exact⟨μ p',hn ▸ hlt,p',hp',rfl,Sat.back he (hle' a' w' hs')⟩
   |_=>exact⟨W',bs',σ',he,hq,hs'⟩
theorem Wp.zy{c:Code}{ι:Type}(I:ι->St)(V:ι->World)(B:ι->List Nat)(ok:ι->Prop)(μ:ι->Nat)(p0:ι)(hV:V p0=W)(hB:B p0=bs)(hle:Le W bs nt ds σ (I p0))(h0:ok p0)
  (round:∀ p,ok p->Ext W bs (V p) (B p)->Wp P (V p) (B p) nt ds c (Th (λW' bs' σ' => ∃ p',ok p' /\ μ p' < μ p/\V p' = W' /\ B p' = bs' /\ Le W' bs' nt ds σ' (I p')) Q) (I p)):Wp P W bs nt ds (.loop c) Q σ:=λa w hs=>
 wp_loop_ghost (λn a w=>∃ p,ok p/\μ p=n/\Ext W bs (V p) (B p)/\Sat (V p) (B p) nt ds (I p) a w) (μ p0) ⟨p0,h0,rfl,by rw[hV,hB];exact Ext.refl W bs,by rw[hV,hB];exact hle a w hs⟩ λn a w ⟨p,hp,hn,hx,hsat⟩=>
  wp_mono (round p hp hx a w hsat) λe a' w' ⟨W',bs',σ',he,hq,hs'⟩=>by
   cases e with
   |normal=>
    obtain⟨p',hp',hlt,rfl,rfl,hle'⟩:=hq;exact⟨μ p',hn ▸ hlt,p',hp',rfl,hx.trans he,hle' a' w' hs'⟩
   |_=>exact⟨W',bs',σ',hx.trans he,hq,hs'⟩
inductive Src where
 |key (k:Nat)
 |nil
def fc:Value:=.slice none 0 0
mutual
def fg(m:Nat->Src):SV->SV
 |.v x=>.v x
 |.own k o=>match m k with|.key j=>.own j o|.nil=>.v .nilIface
 |.hd k=>match m k with|.key j=>.hd j|.nil=>.v fc
 |.agg l=>.agg (fz m l)
 |.tup l=>.tup (fz m l)
 |.ifc t x=>.ifc t (fg m x)
 |.part k i=>match m k with|.key j=>.part j i|.nil=>.v .nilIface
 |.fn f a c=>.fn f (fz m a) (fz m c)
def fz(m:Nat->Src):List SV->List SV
 |[]=>[]
 |x::r=>fg m x::fz m r
end
def lf(E:Nat->Value)(m:Nat->Src)(k:Nat):Value:=match m k with|.key j=>E j|.nil=>fc
def j1(F:Nat->List Nat)(m:Nat->Src)(k:Nat):List Nat:=match m k with|.key j=>F j|.nil=>[]
mutual
theorem ke(E:Nat->Value)(m:Nat->Src):∀ x:SV,den E (fg m x)=den (lf E m) x
 |.v x=>rfl
 |.own k o=>by
  simp only[fg,den,lf];cases m k<;>rfl
 |.hd k=>by
  simp only[fg,den,lf];cases m k<;>rfl
 |.agg l=>by simp only[fg,den,fy E m l]
 |.tup l=>by simp only[fg,den,fy E m l]
 |.ifc t x=>by simp only[fg,den,ke E m x]
 |.part k i=>by
  simp only[fg,den,lf];cases m k<;>rfl
 |.fn f a c=>by simp only[fg,den,fy E m a,fy E m c]
theorem fy(E:Nat->Value)(m:Nat->Src):∀ l:List SV,ah E (fz m l)=ah (lf E m) l
 |[]=>rfl
 |x::r=>by simp only[fz,ah,ke E m x,fy E m r]
end
def fP(m:Nat->Src):aI->aI
 |.cells T vs=>.cells T (fz m vs)
 |.row T s n vs=>.row T s n (fz m vs)
 |.obj d R=>.obj d R
theorem wH{E:Nat->Value}{m:Nat->Src}{u:Value}{fp:List Nat}{w:World}{e:aI}(h:aZ E u fp w (fP m e)):aZ (lf E m) u fp w e:=by
 cases e with
 |cells T vs=>simpa [aZ,fP,fy] using h
 |row T s n vs=>simpa [aZ,fP,fy] using h
 |obj d R=>exact h
def cL:List (Nat×FV)->Fr
 |[]=>λ_=>.any
 |(t,x)::r=>a7 (cL r) t x
def cf:List (Nat×aI)->Hp
 |[]=>λ_=>none
 |(k,e)::r=>a7 (cf r) k (some e)
def G1(m:Nat->Src):FV->FV->Prop
 |.is x,.is y=>x=fg m y
 |.cnd b x,.cnd c y=>b=c/\(b=true->x=fg m y)
 |.is x,.cnd c y=>c=true/\x=fg m y
 |.cnd b x,.is y=>b=true/\x=fg m y
 |_,.any=>True
 |.any,_=>False
theorem Lk{E:Nat->Value}{m:Nat->Src}{x y:FV}{u:Value}(hle:G1 m x y)(hf:fits E x u):fits (lf E m) y u:=by
 cases x with
 |is x=>
  cases y with
  |is y=>simp only[G1]at hle;simp only[fits]at hf ⊢;rw[hf,hle,ke]
  |cnd c y=>obtain⟨rfl,hle⟩:=hle;simp only[fits,cond_true]at hf ⊢;rw[hf,hle,ke]
  |any=>trivial
 | cnd b x=>
  cases y with
  |is y=>obtain⟨rfl,hle⟩:=hle;simp only[fits,cond_true]at hf ⊢;rw[hf,hle,ke]
  |cnd c y=>
   obtain⟨rfl,hle⟩:=hle;cases b with
   |false=>exact hf
   |true=>simp only[fits,cond_true]at hf ⊢;rw[hf,hle rfl,ke]
  |any=>trivial
 |any=>cases y<;>first|trivial|exact hle.elim
def Hv(m:Nat->Src)(φ:Fr):List (Nat×FV)->Prop
 |[]=>True
 |(t,x)::r=>G1 m (φ t) x/\Hv m φ r
def lN(m:Nat->Src)(h:Hp)(k:Nat)(e:aI):Prop:=match m k with
 |.key j=>h j=some (fP m e)
 |.nil=>match e with
  |.row _ sz n vs=>0<sz/\n=0/\vs=[]
  |_=>False
def td(m:Nat->Src)(h:Hp):List (Nat×aI)->Prop
 |[]=>True
 |(k,e)::r=>lN m h k e/\td m h r
def dc(m:Nat->Src):List (Nat×aI)->List Nat
 |[]=>[]
 |(k,_)::r=>(match m k with|.key j=>[j]|.nil=>[])++dc m r
def oz(n:Nat)(L:List (Nat×FV))(H:List (Nat×aI)):Prop:=
 (∀ p∈L,∀ k∈p.2.keys,k / 8<n)/\(∀ p∈H,p.1 / 8<n/\∀ k∈p.2.keys,k / 8<n)
theorem gN{L:List (Nat×FV)}(t:Nat):cL L t=.any\/∃ p∈L,p.1=t/\cL L t=p.2:=by
 induction L with
 |nil=>exact .inl rfl
 | cons p r ih=>
  by_cases ht:t=p.1
  ·exact .inr ⟨p,sI,ht.symm,by simp[cL,a7,ht]⟩
  ·rcases ih with ih|⟨q,hq,h1,h2⟩
   ·exact .inl (by simp[cL,a7,ht,ih])
   ·exact .inr ⟨q,by simp[hq],h1,by simp[cL,a7,ht,h2]⟩
theorem bK{H:List (Nat×aI)}{k:Nat}{e:aI}(h:cf H k=some e):(k,e)∈H:=by
 induction H with
 |nil=>cases h
 |cons p r ih=>
  by_cases ht:k=p.1
  ·simp[cf,a7,ht]at h;subst h;simp[ht]
  ·simp[cf,a7,ht]at h;simp[ih h]
theorem DB{m:Nat->Src}{φ:Fr}:∀ {L:List (Nat×FV)},Hv m φ L->∀ p∈L,G1 m (φ p.1) p.2
 |_::_,h,p,hp=>by
  rcases List.mem_cons.1 hp with rfl|hp
  ·exact h.1
  ·exact DB h.2 p hp
theorem ve{m:Nat->Src}{h:Hp}:∀ {H:List (Nat×aI)},td m h H->∀ p∈H,lN m h p.1 p.2
 |_::_,h,p,hp=>by
  rcases List.mem_cons.1 hp with rfl|hp
  ·exact h.1
  ·exact ve h.2 p hp
theorem np{m:Nat->Src}{k:Nat}:∀ {H:List (Nat×aI)},∀ y∈H,m y.1=.key k->k∈dc m H
 |z::t,y,hy,hk=>by
  simp only[dc,List.mem_append];rcases List.mem_cons.1 hy with rfl|hy
  ·left;rw[hk];simp
  ·right;exact np y hy hk
theorem pd{m:Nat->Src}:∀ {H:List (Nat×aI)},(dc m H).Nodup->∀ p∈H,∀ q∈H,p.1≠q.1->∀ i j,m p.1=.key i->m q.1=.key j->i≠j
 |[],_,p,hp,_,_,_,_,_,_,_=>by cases hp
 | x::r,hn,p,hp,q,hq,hpq,i,j,hi,hj=>by
  simp only[dc]at hn;rcases List.mem_cons.1 hp with rfl|hp'
  ·rcases List.mem_cons.1 hq with rfl|hq'
   ·exact absurd rfl hpq
   ·rw[hi]at hn;intro hij;subst hij;exact (List.nodup_append.1 hn).2.2 i sI i (np q hq' hj) rfl
  ·rcases List.mem_cons.1 hq with rfl|hq'
   ·rw[hj]at hn;intro hij;subst hij;exact (List.nodup_append.1 hn).2.2 i sI i (np p hp' hi) rfl
   ·exact pd (List.nodup_append.1 hn).2.1 p hp' q hq' hpq i j hi hj
theorem Le.mk(m:Nat->Src){n' : Nat}{L:List (Nat×FV)}{H:List (Nat×aI)}(hk:oz n' L H)(hf:Hv m σ.φ L)(hh:td m σ.h H)(hn:(dc m H).Nodup)(hpn:∀ p∈ds.pins,m p.1=.key p.1/\p.1 / 8<n') :
  Le W bs nt ds σ ⟨n',cL L,cf H⟩:=by
 rintro a w ⟨⟨E,F,hφ,hs,hp⟩,hsz,hdf,_,_,_⟩;have at' : ∀ k e,cf H k=some e->lN m σ.h k e:=λk e he=>ve hh _ (bK he)
 have key:∀ k e j,cf H k=some e->m k=.key j->σ.h j=some (fP m e):=λk e j he hj=>by
  have:=at' k e he;simpa only[lN,hj] using this
 refine⟨⟨lf E m,j1 F m,λt=>?_,⟨λk e he=>?_,λk e he b hb=>?_,λk e he b hb=>?_,λk k' e e' hne he he' b hb=>?_,hs.keeps⟩,λp hpp=>?_⟩,hsz,hdf,λp hpp=>(hpn p hpp).2,λt k hk' => ?_,λk e he=>?_⟩
 ·rcases gN (L:=L) t with h|⟨p,hp,rfl,h⟩
  ·simp only[h];trivial
  ·simp only[h];exact Lk (DB hf p hp) (hφ p.1)
 ·cases hm:m k with
  |key j=>
   simp only[lf,j1,hm];exact wH (hs.ent j _ (key k e j he hm))
  | nil=>
   have:=at' k e he;simp only[lN,hm]at this;cases e with
   |row T s n vs=>
    obtain⟨h0,rfl,rfl⟩:=this;simp only[lf,j1,hm];exact⟨⟨by simp[ah],.inl ⟨rfl,rfl⟩⟩,rfl⟩
   |cells T vs=>exact this.elim
   |obj d R=>exact this.elim
 ·cases hm:m k with
  |key j=>simp only[j1,hm]at hb;exact hs.lt j _ (key k e j he hm) b hb
  |nil=>simp only[j1,hm]at hb;cases hb
 ·cases hm:m k with
  |key j=>simp only[j1,hm]at hb;exact hs.mine j _ (key k e j he hm) b hb
  |nil=>simp only[j1,hm]at hb;cases hb
 ·cases hm:m k with
  |nil=>simp only[j1,hm]at hb;cases hb
  | key i=>
   cases hm' : m k' with
   |nil=>simp only[j1,hm'];simp
   |key j=>
    simp only[j1,hm,hm']at hb ⊢;exact hs.apart i j _ _ (pd hn _ (bK he) _ (bK he') hne i j hm hm') (key k e i he hm) (key k' e' j he' hm') b hb
 ·simp only[lf,(hpn p hpp).1];exact hp p hpp
 ·rcases gN (L:=L) t with h|⟨p,hp,_,h⟩
  ·simp only[h]at hk';cases hk'
  ·simp only[h]at hk';exact hk.1 p hp k hk'
 ·exact hk.2 _ (bK he)
end
end
section
open Go.RowKit
section
variable {P:Program}{W:World}{bs:List Nat}{nt:Nat}{ds:Aux}{σ:St}
theorem OK{E:Nat->Value}{F:Nat->List Nat}{h:Nat->Option aI}{w:World}{T:TypeId}{k o:Nat}(hs:ab W bs E F h w)(hside:(cK P W bs h T [.own k o]).side) :
  ∃ a,den E (.own k o)=.pointer (some a)/\(loadVar T a).run P w=.ok (den E (cK P W bs h T [.own k o]).val) w:=by
 revert hside;simp only[cK];split
 ·rename_i sz vs hsz hag hvs;rintro⟨hlen,hpos⟩;obtain⟨b,hb,hcells⟩:=eM hs hvs oM;have hrun:(loadVar T ⟨b,0+o,none⟩).run P w=.ok (.agg (((ah E vs).drop o).take sz).toArray) w:=by
   refine fM hsz hag _ _ (by simp[az];omega) λj v hj=>?_
   have hjl:j<sz:=by
    have:=(List.getElem?_eq_some_iff.1 hj).1;simp at this;omega
   rw[Addr.add_lit,Nat.zero_add,hcells (o+j) oM];rw[List.getElem?_take,if_pos hjl,List.getElem?_drop]at hj;rw[hj];rfl
  refine⟨⟨b,0+o,none⟩,by simp[den,hb,cy],?_⟩;rw[hrun];simp[den,aW,List.map_take,List.map_drop]
 ·rename_i sz vs hsz hag hvs;intro hlen;obtain⟨b,hb,hcells⟩:=eM hs hvs (Nat.zero_lt_of_lt hlen);have hrun:=fN (w:=w) hag ⟨b,0+o,none⟩ ((ah E vs)[o]?.getD undef) (by rw[Nat.zero_add];exact hcells o hlen);refine⟨⟨b,0+o,none⟩,by simp[den,hb,cy],?_⟩;rw[hrun,nY]
 ·exact λhf=>hf.elim
def jF(P:Program)(W:World)(bs:List Nat)(σ:St):ResultVar->Prop×SV
 |.tmp t=>match σ.φ t with
  |.is x=>(True,x)
  |.cnd b x=>(b=true,x)
  |.any=>(False,.v undef)
 |.cell t T=>match σ.φ t with
  |.is (.own k o)=>((cK P W bs σ.h T [.own k o]).side,(cK P W bs σ.h T [.own k o]).val)
  |_=>(False,.v undef)
def ia(P:Program)(W:World)(bs:List Nat)(σ:St):List ResultVar->Prop×List SV
 |[]=>(True,[])
 |r::l=>((jF P W bs σ r).1/\(ia P W bs σ l).1,(jF P W bs σ r).2::(ia P W bs σ l).2)
def jK:List SV->SV
 |[x]=>x
 |l=>.tup l
def Fin(P:Program)(rs:List ResultVar)(R:World->List Nat->SV->Hp->Prop)(RP:List PanicEntry->Hp->Prop):jZ
 |.normal,W,bs,σ|.ret,W,bs,σ=>(ia P W bs σ rs).1/\R W bs (jK (ia P W bs σ rs).2) σ.h
 |.panic c,_,_,σ=>RP c σ.h
 |_,_,_,_=>False
def Ends(W:World)(bs:List Nat)(pins:List (Nat×Value))(R:World->List Nat->SV->Hp->Prop)(RP:List PanicEntry->Hp->Prop):Ending->World->Prop
 |.returned v,w' => ∃ W' bs' E F x h,Ext W bs W' bs' /\ R W' bs' x h/\v=den E x/\ab W' bs' E F h w' /\ ∀ p∈pins,E p.1=p.2
 |.panicked c,w' => ∃ W' bs' E F h,Ext W bs W' bs' /\ RP c h/\ab W' bs' E F h w' /\ ∀ p∈pins,E p.1=p.2
 |.outgrown,_=>False
def ko(a:Act):ResultVar->Sem Value
 |.tmp t=>pure (a.tmps.getD t undef)
 |.cell x t=>do loadVar t (<- asAddr (a.tmps.getD x undef))
theorem GO{E:Nat->Value}{F:Nat->List Nat}{a:Act}{w:World}(hφ:gD E σ.φ a)(hs:ab W bs E F σ.h w)(r:ResultVar)(hr:(jF P W bs σ r).1) :
  (ko a r).run P w=.ok (den E (jF P W bs σ r).2) w:=by
 cases r with
 | tmp t=>
  have:=hφ t;simp only[jF,ko]at hr ⊢;revert hr this;cases σ.φ t with
  |is x=>intro _ h;simp only[fits]at h;rw[h];rfl
  |cnd b x=>
   intro hb h;simp only at hb;subst hb;simp only[fits,cond_true]at h;rw[h];rfl
  |any=>exact λhf _=>hf.elim
 | cell t T=>
  have:=hφ t;simp only[jF,ko]at hr ⊢;revert hr this;split
  ·rename_i k o hk;intro hr h;rw[hk]at h;simp only[fits]at h;obtain⟨ad,h1,h2⟩:=OK hs hr;rw[h,h1];simpa [asAddr] using h2
  ·exact λhf _=>hf.elim
theorem DZ{E:Nat->Value}{F:Nat->List Nat}{a:Act}{w:World}(hφ:gD E σ.φ a)(hs:ab W bs E F σ.h w):∀ (l:List ResultVar),(ia P W bs σ l).1 ->
  (l.mapM (ko a)).run P w=.ok (ah E (ia P W bs σ l).2) w
 |[],_=>rfl
 |r::l,h=>by
  have h1:=GO hφ hs r h.1;have h2:=DZ hφ hs l h.2;rw[List.mapM_cons];simp[h1,h2,ia,ah]
theorem iz{E:Nat->Value}{F:Nat->List Nat}{a:Act}{w:World}{fn:Func}(hφ:gD E σ.φ a)(hs:ab W bs E F σ.h w)(h:(ia P W bs σ fn.results.toList).1) :
  (results fn a.tmps).run P w=.ok (den E (jK (ia P W bs σ fn.results.toList).2)) w:=by
 have h1:=DZ hφ hs fn.results.toList h;have h2:results fn a.tmps=((Functor.map List.toArray (fn.results.toList.mapM (ko a))) >>= λ(vs:Array Value)=>(pure (if h:vs.size=1 then vs[0] else .tuple vs):Sem Value)):=by
  rw[<- Array.mapM_eq_mapM_toList];unfold results
  congr 1
 rw[h2];have:((Functor.map List.toArray (fn.results.toList.mapM (ko a))) >>= λ(vs:Array Value)=>(pure (if h:vs.size=1 then vs[0] else .tuple vs):Sem Value)).run P w =
   .ok (den E (jK (ia P W bs σ fn.results.toList).2)) w:=by
  simp only[map_eq_pure_bind,bind_assoc,pure_bind];simp[h1];generalize (ia P W bs σ fn.results.toList).2=l
  match l with
  |[]=>simp[ah,jK,den]
  |[x]=>simp[ah,jK]
  |x::y::r=>simp[ah,jK,den]
 exact this
theorem mn{f:FuncId}{fn:Func}{c:Code}{args:Array Value}{w:World}{pins:List (Nat×Value)}{R:World->List Nat->SV->Hp->Prop}{RP:List PanicEntry->Hp->Prop}
  (hf:P.funcs[f]?=some fn) (hb:fn.body=some c)
  (hsat:Sat W bs nt ⟨[],pins⟩ σ { tmps:=args++Array.replicate (fn.ntmps-args.size) undef,defers:=[] } w)
  (h:Wp P W bs nt ⟨[],pins⟩ c (Fin P fn.results.toList R RP) σ) :
  Calls P f args w (Ends W bs pins R RP):=by
 refine calls_of_wp hf hb (wp_mono (h _ w hsat) λe a' w' ⟨W',bs',σ',hx,hq,hs'⟩=>?_);obtain⟨⟨E,F,hφ,hh,hp⟩,hsz,hdf,_⟩:=hs'
 have ret:(ia P W' bs' σ' fn.results.toList).1/\R W' bs' (jK (ia P W' bs' σ' fn.results.toList).2) σ'.h->a'.defers=[]/\∃ v,(results fn a'.tmps).run P w' = .ok v w' /\ Ends W bs pins R RP (.returned v) w' :=
  λhq=>⟨hdf,_,iz hφ hh hq.1,W',bs',E,F,_,_,hx,hq.2,rfl,hh,hp⟩
 cases e with
 |normal=>exact ret hq
 |ret=>exact ret hq
 |panic ch=>exact⟨hdf,W',bs',E,F,_,hx,hq,hh,hp⟩
 |exit i=>exact hq.elim
 |goto l=>exact hq.elim
 |outgrown=>exact hq.elim
theorem q8{κ:Nat}{E:Nat->Value}{F:Nat->List Nat}{h:Hp}{w:World}{f:FuncId}{args:Array Value}{r:R}{v:Value}(hs:ab W bs E F h w)
  (hc:Calls P f args w λe w' => e=.returned v/\af w [] w') (hv:v=den E r.val) (hu:r.a7=[]) (hp:r.pan=none) :
  Good P W bs κ E h r (.ok (.enter f args) w):=by
 refine hc.mono λe w' he=>?_
 obtain⟨rfl,hk⟩:=he;exact⟨hp,E,F,λ_ _=>rfl,hv,by rw[hu];exact hs.grow hk⟩
theorem vL{κ:Nat}{E:Nat->Value}{F:Nat->List Nat}{h:Hp}{w:World}{K:Nat->Prop}{f:FuncId}{args:Array Value}{r:R}{e:aI}(hs:ab W bs E F h w)
  (hK:bp K h) (hk:∀ k,k / 8=κ->¬ K k)
  (hc:Calls P f args w λen w' => ∃ v u fp,en=.returned v/\(∀ E',aZ E' u fp w' e)/\(∀ b∈fp,w.heap.size<=b/\b<w'.heap.size)/\af w [] w' /\ v=den (a7 E (nk κ) u) r.val)
  (hu:r.a7=[(nk κ,some e)]) (hp:r.pan=none) :
  Good P W bs κ E h r (.ok (.enter f args) w):=by
 refine hc.mono λen w' he=>?_
 obtain⟨v,u,fp,rfl,hent,hfp,hkeep,hv⟩:=he;refine⟨hp,a7 E (nk κ) u,a7 F (nk κ) fp,λk hk' => aj _ _ λe=>hk' (by subst e;exact aQ κ),hv,?_⟩;rw[hu];exact hs.new hK (hk _ (aQ κ)) (hent _) hfp hkeep
theorem Cw{κ k:Nat}{E:Nat->Value}{F:Nat->List Nat}{h:Hp}{w:World}{f:FuncId}{args:Array Value}{r:R}{e e' : aI}(hs:ab W bs E F h w)
  (hk:h k=some e)
  (hc:Calls P f args w λen w' => ∃ v fp,en=.returned v/\aZ E (E k) fp w' e' /\ (∀ b∈fp,b∈F k\/w.heap.size<=b)/\(∀ b∈fp,b<w'.heap.size)/\af w (F k) w' /\ v=den E r.val)
  (hu:r.a7=[(k,some e')]) (hp:r.pan=none) :
  Good P W bs κ E h r (.ok (.enter f args) w):=by
 refine hc.mono λen w' he=>?_
 obtain⟨v,fp,rfl,hent,hfp,hlt,hkeep,hv⟩:=he;refine⟨hp,E,a7 F k fp,λ_ _=>rfl,hv,?_⟩;rw[hu];exact hs.acE hk hent hfp hlt hkeep
end
section
variable {P:Program}{W:World}{bs:List Nat}{nt:Nat}{ds:Aux}{σ:St}{ops:Array Oper}(Γ:Env P)
def adr(dst:Option Nat)(r:List Oper)(κ:Nat)(φ:Fr)(h:Hp)(s:S):RG:=
 Dj s (l8 Γ W bs nt ops r (κ+1) (ou φ dst s.fv) (aO h s.a7))
theorem XX(κ:Nat)(φ:Fr)(h:Hp):l8 Γ W bs nt ops [] κ φ h=⟨True,κ,φ,h,[],[],[]⟩:=rfl
theorem OX(o:Oper)(r:List Oper)(κ:Nat)(φ:Fr)(h:Hp):l8 Γ W bs nt ops (o::r) κ φ h=adr (W:=W) (bs:=bs) (nt:=nt) (ops:=ops) Γ o.dst r κ φ h (step Γ W bs nt ops κ φ h o):=rfl
theorem Xf(dst:Option Nat)(r:List Oper)(κ:Nat)(φ:Fr)(h:Hp)(side:Prop)(fv:FV)(u:List (Nat×Option aI))(pan:Option (List PanicEntry))(pupd reads uk:List Nat) :
  adr (W:=W) (bs:=bs) (nt:=nt) (ops:=ops) Γ dst r κ φ h ⟨side,fv,u,pan,pupd,reads,uk⟩=Dj ⟨side,fv,u,pan,pupd,reads,uk⟩ (l8 Γ W bs nt ops r (κ+1) (ou φ dst fv) (aO h u)):=rfl
theorem Pq(side side' : Prop)(n:Nat)(fv:FV)(u:List (Nat×Option aI))(pan:Option (List PanicEntry))(pupd reads uk lost:List Nat)(φ:Fr)(h:Hp)(pans:List (Option (List PanicEntry)))(fx:List (List Nat×List Nat)) :
  Dj ⟨side,fv,u,pan,pupd,reads,uk⟩ ⟨side',n,φ,h,pans,lost,fx⟩=⟨side/\side',n,φ,h,pan::pans,uk++pupd++lost,(uk,reads)::fx⟩:=rfl
def OE(Γ:Env P)(dst:Option Nat)(r:List Oper)(κ:Nat)(φ:Fr)(h:Hp)(s:S):RP:=match s.pan with
 |some c=>⟨s.side,some c,s.uk++s.pupd⟩
 |none=>CR s (vq Γ W bs nt ops r (κ+1) (ou φ dst s.fv) (aO h s.a7))
theorem Mh(o:Oper)(r:List Oper)(κ:Nat)(φ:Fr)(h:Hp):vq Γ W bs nt ops (o::r) κ φ h=OE (W:=W) (bs:=bs) (nt:=nt) (ops:=ops) Γ o.dst r κ φ h (step Γ W bs nt ops κ φ h o):=rfl
theorem GL(dst:Option Nat)(r:List Oper)(κ:Nat)(φ:Fr)(h:Hp)(side:Prop)(fv:FV)(u:List (Nat×Option aI))(c:List PanicEntry)(pupd reads uk:List Nat) :
  OE (W:=W) (bs:=bs) (nt:=nt) (ops:=ops) Γ dst r κ φ h ⟨side,fv,u,some c,pupd,reads,uk⟩=⟨side,some c,uk++pupd⟩:=rfl
theorem GG(dst:Option Nat)(r:List Oper)(κ:Nat)(φ:Fr)(h:Hp)(side:Prop)(fv:FV)(u:List (Nat×Option aI))(pupd reads uk:List Nat) :
  OE (W:=W) (bs:=bs) (nt:=nt) (ops:=ops) Γ dst r κ φ h ⟨side,fv,u,none,pupd,reads,uk⟩=CR ⟨side,fv,u,none,pupd,reads,uk⟩ (vq Γ W bs nt ops r (κ+1) (ou φ dst fv) (aO h u)):=rfl
theorem PB(side side' : Prop)(fv:FV)(u:List (Nat×Option aI))(pan:Option (List PanicEntry))(pupd reads uk lost:List Nat)(c:Option (List PanicEntry)) :
  CR ⟨side,fv,u,pan,pupd,reads,uk⟩ ⟨side',c,lost⟩=⟨side/\side',c,uk++pupd++lost⟩:=rfl
def cu:Op->Bool
 |.pick _ _ _=>true
 |_=>false
theorem NS :
  (∀ (x:Operand),cu (.move x)=false) /\
  (∀ (x:Operand),cu (.assign x)=false) /\
  (∀ (elem:TypeId),cu (.alloc elem)=false) /\
  (∀ (elem:TypeId) (v:Operand),cu (.box elem v)=false) /\
  (∀ (t:TypeId) (parts:Array (Nat×Operand)),cu (.build t parts)=false) /\
  (∀ (t:TypeId) (len:Nat) (parts:Array (Nat×Operand)),cu (.buildSlice t len parts)=false) /\
  (∀ (t:TypeId) (addr:Operand),cu (.load t addr)=false) /\
  (∀ (t:TypeId) (addr val:Operand),cu (.store t addr val)=false) /\
  (∀ (x:Operand),cu (.nilCheck x)=false) /\
  (∀ (op:BinOp) (xType:TypeId) (x y:Operand) (yType:TypeId),cu (.binOp op xType x y yType)=false) /\
  (∀ (op:UnOp) (xType:TypeId) (x:Operand),cu (.unOp op xType x)=false) /\
  (∀ (src dst:TypeId) (x:Operand),cu (.convert src dst x)=false) /\
  (∀ (xType:TypeId) (x:Operand),cu (.makeInterface xType x)=false) /\
  (∀ (fn:Fn) (first captured:Array Operand),cu (.makeFunc fn first captured)=false) /\
  (∀ (t:TypeId) (len cap:Operand),cu (.makeSlice t len cap)=false) /\
  (∀ (xType:TypeId) (x:Operand) (low high max:Option Operand),cu (.slice xType x low high max)=false) /\
  (∀ (xType:TypeId) (x:Operand) (field:Nat),cu (.fieldAddr xType x field)=false) /\
  (∀ (xType:TypeId) (x:Operand) (field:Nat),cu (.field xType x field)=false) /\
  (∀ (xType:TypeId) (x index:Operand),cu (.indexAddr xType x index)=false) /\
  (∀ (xType:TypeId) (x index:Operand),cu (.index xType x index)=false) /\
  (∀ (x:Operand) (xType asserted:TypeId) (commaOk:Bool),cu (.typeAssert x xType asserted commaOk)=false) /\
  (∀ (tuple:Operand) (index:Nat),cu (.extract tuple index)=false) /\
  (∀ (c:Call),cu (.call c)=false) /\
  (∀ (x:Operand),cu (.panic x)=false):=by
 refine⟨?_,?_,?_,?_,?_,?_,?_,?_,?_,?_,?_,?_,?_,?_,?_,?_,?_,?_,?_,?_,?_,?_,?_,?_⟩<;>(intros;rfl)
def sF(nt:Nat):Option Nat->Prop
 |some d=>d<nt
 |none=>True
theorem Dm(d:Option Nat):(∀ i,d=some i->i<nt)=sF nt d:=by
 cases d<;>simp[sF]
def Kg(nt:Nat)(dst:Option Nat)(un:Bool)(p:Prop)(b:Bool)(q:Prop)(r:R):S:=
 ⟨p/\q/\(b=true->r.side)/\sF nt dst,qj un b r.val,bif b then r.a7 else [],bif b then r.pan else none,r.pupd,r.reads,bQ r.a7⟩
def JD(W:World)(bs:List Nat)(nt:Nat)(κ:Nat)(h:Hp)(dst:Option Nat)(un:Bool)(op:Op)(p:Prop)(b:Bool)(e:Prop×List SV):S:=
 Kg nt dst un p b e.1 (dk Γ W bs κ h op e.2)
def stepG(W:World)(bs:List Nat)(nt:Nat)(κ:Nat)(φ:Fr)(h:Hp)(dst:Option Nat)(un:Bool)(op:Op)(g:Prop×Bool):S:=
 JD Γ W bs nt κ h dst un op g.1 g.2 (l4 φ g.2 op.operands.toList)
theorem YM(κ:Nat)(φ:Fr)(h:Hp)(dst:Option Nat)(op:Op)(ty:TypeId)(pos:String)(after:Array Edge)(guard:Option (Nat×Bool))(hop:cu op=false) :
  step Γ W bs nt ops κ φ h ⟨dst,op,ty,pos,after,guard⟩=stepG Γ W bs nt κ φ h dst guard.isNone op (h9 φ ops guard):=by
 rw[dO Γ (by rintro c x y rfl;cases hop)];simp only[stepG,JD,Kg,Dm]
theorem TD(κ:Nat)(φ:Fr)(h:Hp)(dst:Option Nat)(un:Bool)(op:Op)(p:Prop)(b:Bool) :
  stepG Γ W bs nt κ φ h dst un op (p,b)=JD Γ W bs nt κ h dst un op p b (l4 φ b op.operands.toList):=rfl
theorem P1(κ:Nat)(h:Hp)(dst:Option Nat)(un:Bool)(op:Op)(p:Prop)(b:Bool)(q:Prop)(l:List SV) :
  JD Γ W bs nt κ h dst un op p b (q,l)=Kg nt dst un p b q (dk Γ W bs κ h op l):=rfl
theorem O0(dst:Option Nat)(un:Bool)(p:Prop)(b:Bool)(q side:Prop)(val:SV)(u:List (Nat×Option aI))(pan:Option (List PanicEntry))(pupd reads:List Nat) :
  Kg nt dst un p b q ⟨side,val,u,pan,pupd,reads⟩=⟨p/\q/\(b=true->side)/\sF nt dst,qj un b val,bif b then u else [],bif b then pan else none,pupd,reads,bQ u⟩:=rfl
def B3(nt:Nat)(φ:Fr)(dst:Option Nat)(un:Bool)(x y:Operand)(p:Prop)(g:Bool):Prop×SV->S
 |(q,.v (.bool cb))=>⟨p/\q/\(cb=true->(lb φ (g&&cb) x).1)/\(cb=false->(lb φ (g&&!cb) y).1)/\sF nt dst,qj un g (sK cb (lb φ (g&&cb) x).2 (lb φ (g&&!cb) y).2),[],none,[],[],[]⟩
 |_=>⟨False,.any,[],none,[],[],[]⟩
def QY(nt:Nat)(φ:Fr)(dst:Option Nat)(un:Bool)(c x y:Operand)(g:Prop×Bool):S:=B3 nt φ dst un x y g.1 g.2 (lb φ g.2 c)
theorem Md(κ:Nat)(φ:Fr)(h:Hp)(dst:Option Nat)(c x y:Operand)(ty:TypeId)(pos:String)(after:Array Edge)(guard:Option (Nat×Bool)) :
  step Γ W bs nt ops κ φ h ⟨dst,.pick c x y,ty,pos,after,guard⟩=QY nt φ dst guard.isNone c x y (h9 φ ops guard):=by
 simp only[step,QY,Dm];split
 ·rename_i cb hcb;rw[show lb φ (h9 φ ops guard).2 c=((lb φ (h9 φ ops guard).2 c).1,.v (.bool cb)) from by rw[<- hcb]];rfl
 ·rename_i hn;unfold B3;split
  ·rename_i q cb he;exact absurd (by rw[he]) (hn cb)
  ·rfl
theorem RJ(φ:Fr)(dst:Option Nat)(un:Bool)(c x y:Operand)(p:Prop)(g:Bool):QY nt φ dst un c x y (p,g)=B3 nt φ dst un x y p g (lb φ g c):=rfl
theorem Na(φ:Fr)(dst:Option Nat)(un:Bool)(x y:Operand)(p q:Prop)(g cb:Bool):B3 nt φ dst un x y p g (q,.v (.bool cb)) =
  ⟨p/\q/\(cb=true->(lb φ (g&&cb) x).1)/\(cb=false->(lb φ (g&&!cb) y).1)/\sF nt dst,qj un g (sK cb (lb φ (g&&cb) x).2 (lb φ (g&&!cb) y).2),[],none,[],[],[]⟩:=rfl
def evS(w:Bool):FV->Prop×SV
 |.is x=>(True,x)
 |.cnd b x=>(w=true->b=true,x)
 |.any=>(w=false,.v undef)
theorem Vt(φ:Fr)(w:Bool)(t:Nat):lb φ w (.tmp t)=evS w (φ t):=by
 simp only[lb,evS];cases φ t<;>rfl
theorem aaK(w:Bool)(x:SV):evS w (.is x)=(True,x):=rfl
theorem WY(w b:Bool)(x:SV):evS w (.cnd b x)=(w=true->b=true,x):=rfl
theorem Mc(φ:Fr)(w:Bool)(v:Value):lb φ w (.const v)=(True,.v v):=rfl
theorem GP(φ:Fr)(w:Bool)(g:Nat):lb φ w (.global g)=(True,.v (.pointer (some ⟨g,0,none⟩))):=rfl
theorem N6(φ:Fr)(w:Bool)(f:Nat):lb φ w (.func f)=(True,.v (.func (.func f) #[] #[])):=rfl
def evC:Prop×SV->Prop×List SV->Prop×List SV:=λa b=>(a.1/\b.1,a.2::b.2)
theorem YS(φ:Fr)(w:Bool):l4 φ w []=(True,[]):=rfl
theorem OO(φ:Fr)(w:Bool)(o:Operand)(r:List Operand):l4 φ w (o::r)=evC (lb φ w o) (l4 φ w r):=rfl
theorem abW(p q:Prop)(x:SV)(l:List SV):evC (p,x) (q,l)=(p/\q,x::l):=rfl
def QP(want:Bool):FV->Prop×Bool
 |.is (.v (.bool b))=>(True,b == want)
 |.cnd c (.v (.bool b))=>(True,c&&(b == want))
 |_=>(False,false)
def abo(φ:Fr)(want:Bool):Option Nat->Prop×Bool
 |some d=>QP want (φ d)
 |none=>(False,false)
theorem Qe(φ:Fr):h9 φ ops none=(True,true):=rfl
theorem P2(φ:Fr)(j:Nat)(want:Bool):h9 φ ops (some (j,want))=abo φ want ((ops[j]?).bind (·.dst)):=by
 simp only[h9,abo];cases (ops[j]?).bind (·.dst) with
 |none=>rfl
 |some d=>simp only[QP];split<;>simp_all
theorem KB(φ:Fr)(want:Bool)(d:Nat):abo φ want (some d)=QP want (φ d):=rfl
theorem W8(want b:Bool):QP want (.is (.v (.bool b)))=(True,b == want):=rfl
theorem SO(want b c:Bool):QP want (.cnd c (.v (.bool b)))=(True,c&&(b == want)):=rfl
theorem Ui(w:Bool)(x:SV):qj true w x=.is x:=rfl
theorem abV(w:Bool)(x:SV):qj false w x=.cnd w x:=rfl
theorem Hg(c a b:Bool):sK c (.v (.bool a)) (.v (.bool b))=.v (.bool (bif c then a else b)):=rfl
theorem SB{α:Type}(f:Nat->α)(k:Nat)(x:α)(j:Nat):a7 f k x j=if j=k then x else f j:=rfl
theorem Ng(φ:Fr)(d:Nat)(x:FV):ou φ (some d) x=a7 φ d x:=rfl
theorem LN(φ:Fr)(x:FV):ou φ none x=φ:=rfl
theorem OZ{α:Type}(f:Nat->α):aO f []=f:=rfl
theorem KF{α:Type}(f:Nat->α)(k:Nat)(x:α)(r:List (Nat×α)):aO f ((k,x)::r)=aO (a7 f k x) r:=rfl
theorem Wl(t:Nat):cL [] t=.any:=rfl
theorem Q9(t k:Nat)(x:FV)(r:List (Nat×FV)):cL ((k,x)::r) t=if t=k then x else cL r t:=rfl
theorem U2(t:Nat):cf [] t=none:=rfl
theorem Rl(t k:Nat)(x:aI)(r:List (Nat×aI)):cf ((k,x)::r) t=if t=k then some x else cf r t:=rfl
theorem FZ(n d:Nat):sF n (some d)=(d<n):=rfl
theorem F4(n:Nat):sF n none=True:=rfl
section
variable {κ:Nat}{h:Hp}
theorem Su(o:Operand)(x:SV):dk Γ W bs κ h (.move o) [x]=.ok x:=rfl
theorem Gx(o:Operand)(x:SV):dk Γ W bs κ h (.assign o) [x]=.ok x:=rfl
theorem MO(T:TypeId):dk Γ W bs κ h (.alloc T) []=gv P κ T:=rfl
theorem WU(T:TypeId)(o:Operand)(l:List SV):dk Γ W bs κ h (.box T o) l=sk κ T l:=rfl
theorem LM(T:TypeId)(ps:Array (Nat×Operand))(l:List SV):dk Γ W bs κ h (.build T ps) l=fI P T (ps.toList.map (·.1)) l:=rfl
theorem vx(T:TypeId)(n:Nat)(ps:Array (Nat×Operand))(l:List SV):dk Γ W bs κ h (.buildSlice T n ps) l=cD P κ T n (ps.toList.map (·.1)) l:=rfl
theorem TO(T:TypeId)(o:Operand)(l:List SV):dk Γ W bs κ h (.load T o) l=cK P W bs h T l:=rfl
theorem LC(T:TypeId)(o o' : Operand)(l:List SV):dk Γ W bs κ h (.store T o o') l=gq P h T l:=rfl
theorem An(o:Operand)(l:List SV):dk Γ W bs κ h (.nilCheck o) l=cC h l:=rfl
theorem Lx(op:BinOp)(T:TypeId)(x y:Operand)(r:TypeId)(l:List SV):dk Γ W bs κ h (.binOp op T x y r) l=bz P Γ.eqs h op T x y l:=rfl
theorem R3(op:UnOp)(T:TypeId)(x:Operand)(l:List SV):dk Γ W bs κ h (.unOp op T x) l=p9 op l:=rfl
theorem Fa(a b:TypeId)(x:Operand)(l:List SV):dk Γ W bs κ h (.convert a b x) l=fB P h a b l:=rfl
theorem yq(T:TypeId)(x y:Operand)(l:List SV):dk Γ W bs κ h (.makeSlice T x y) l=j8 P κ T l:=rfl
theorem Nw(x:Operand)(l:List SV):dk Γ W bs κ h (.panic x) l=jB l:=rfl
theorem qp(T:TypeId)(o:Operand)(l:List SV):dk Γ W bs κ h (.makeInterface T o) l=lH P T l:=rfl
theorem M6(T:TypeId)(o:Operand)(lo hi mx:Option Operand)(l:List SV):dk Γ W bs κ h (.slice T o lo hi mx) l=dW P κ h T lo.isSome hi.isSome mx.isSome l:=rfl
theorem Ib(T:TypeId)(lo hi mx:Bool)(x:Value)(r:List SV):dW P κ h T lo hi mx (.v x::r)=cz P T lo hi mx (.v x::r):=rfl
theorem yB(T:TypeId)(o:Operand)(f:Nat)(l:List SV):dk Γ W bs κ h (.fieldAddr T o f) l=bU P h T f l:=rfl
theorem MH(T:TypeId)(o:Operand)(f:Nat)(l:List SV):dk Γ W bs κ h (.field T o f) l=fG P T f l:=rfl
theorem yE(T:TypeId)(o i:Operand)(l:List SV):dk Γ W bs κ h (.indexAddr T o i) l=a8 P h T l:=rfl
theorem Mt(T:TypeId)(o i:Operand)(l:List SV):dk Γ W bs κ h (.index T o i) l=eD P T l:=rfl
theorem EJ(o:Operand)(i:Nat)(l:List SV):dk Γ W bs κ h (.extract o i) l=dM i l:=rfl
theorem UH(as_:Array Operand)(T:TypeId)(l:List SV):dk Γ W bs κ h (.call { callee:=.builtin .len,args:=as_,argTypes:=#[T] }) l=gQ P h T l:=rfl
theorem Hw(as_:Array Operand)(tys:Array TypeId)(l:List SV):dk Γ W bs κ h (.call { callee:=.builtin .append,args:=as_,argTypes:=tys }) l=ek P W bs κ h tys.toList l:=rfl
theorem Sp(f:Operand)(as_:Array Operand)(tys:Array TypeId)(l:List SV):dk Γ W bs κ h (.call { callee:=.value f,args:=as_,argTypes:=tys }) l=jc Γ W bs κ h l:=rfl
theorem G3(f:Operand)(n:String)(as_:Array Operand)(tys:Array TypeId)(l:List SV):dk Γ W bs κ h (.call { callee:=.invoke f n,args:=as_,argTypes:=tys }) l=hJ Γ W bs κ h n l:=rfl
theorem Nz(f:FuncId)(first cap:Array Value)(rest:List SV):jc Γ W bs κ h (.v (.func (.func f) first cap)::rest)=lB Γ W bs κ h f (first.toList.map .v++rest++cap.toList.map .v):=rfl
end
theorem ad1(k:Nat)(e:aI)(x:SV):R.new k e x=⟨True,x,[(k,some e)],none,[],[]⟩:=rfl
theorem afb(x:SV):R.ok x=⟨True,x,[],none,[],[]⟩:=rfl
theorem aee(p:Prop)(x:SV):R.fO p x=⟨p,x,[],none,[],[]⟩:=rfl
theorem aea(n:Nat):nk n=8*n:=rfl
theorem MT{α:Type}:bQ ([]:List (Nat×α))=[]:=rfl
theorem Gp{α:Type}(k:Nat)(x:α)(r:List (Nat×α)):bQ ((k,x)::r)=k::bQ r:=rfl
theorem Fg(l:List SV):partsOf (.agg l)=l:=rfl
theorem AJ(cs:Array Value):partsOf (.v (.agg cs))=cs.toList.map .v:=rfl
theorem CK(k:IntKind)(n:Int):partsOf (.v (.int k n))=[.v (.int k n)]:=rfl
theorem vt(b:ByteArray):partsOf (.v (.string b))=[.v (.string b)]:=rfl
theorem Cg(b:Bool):partsOf (.v (.bool b))=[.v (.bool b)]:=rfl
theorem yF(a:Option Addr)(n c:Nat):partsOf (.v (.slice a n c))=[.v (.slice a n c)]:=rfl
theorem tH(a:Option Addr):partsOf (.v (.pointer a))=[.v (.pointer a)]:=rfl
theorem yh(t:TypeId)(x:Value):partsOf (.v (.iface t x))=[.v (.iface t x)]:=rfl
theorem rV:partsOf (.v .nilIface)=[.v .nilIface]:=rfl
theorem Dw(k o:Nat):partsOf (.own k o)=[.own k o]:=rfl
theorem H9(k:Nat):partsOf (.hd k)=[.hd k]:=rfl
theorem Ao(k i:Nat):partsOf (.part k i)=[.part k i]:=rfl
theorem CQ(t:TypeId)(x:SV):partsOf (.ifc t x)=[.ifc t x]:=rfl
theorem Li(k:IntKind)(n:Int):cp (.v (.int k n))=true:=rfl
theorem Aw(b:ByteArray):cp (.v (.string b))=true:=rfl
theorem Ih(b:Bool):cp (.v (.bool b))=true:=rfl
theorem Dz(a:Option Addr)(n c:Nat):cp (.v (.slice a n c))=true:=rfl
theorem yx(a:Option Addr):cp (.v (.pointer a))=true:=rfl
theorem C9(t:TypeId)(x:Value):cp (.v (.iface t x))=true:=rfl
theorem xC:cp (.v .nilIface)=true:=rfl
theorem ND(k o:Nat):cp (.own k o)=true:=rfl
theorem Oy(k:Nat):cp (.hd k)=true:=rfl
theorem H0(k i:Nat):cp (.part k i)=true:=rfl
theorem LA(t:TypeId)(x:SV):cp (.ifc t x)=true:=rfl
theorem Ep(T:TypeId)(vs:List SV):bN (some (.cells T vs))=some vs:=rfl
theorem MM(T:TypeId)(s n:Nat)(vs:List SV):bN (some (.row T s n vs))=some vs:=rfl
theorem As(T:TypeId)(vs:List SV)(o:Nat)(ps:List SV):mP (some (.cells T vs)) o ps=some (.cells T (ax vs o ps)):=rfl
theorem GC(T:TypeId)(s n:Nat)(vs:List SV)(o:Nat)(ps:List SV):mP (some (.row T s n vs)) o ps=some (.row T s n (ax vs o ps)):=rfl
section
variable {κ:Nat}{h:Hp}
def Gk(κ:Nat)(T:TypeId):Option (List Value)->R
 |some zs=>⟨True,.own (8*κ) 0,[(8*κ,some (.cells T (zs.map .v)))],none,[],[]⟩
 |none=>.bad
theorem CE(T:TypeId):gv P κ T=Gk κ T (tz P T):=by simp only[gv];unfold Gk;cases tz P T<;>rfl
theorem C4(T:TypeId)(zs:List Value):Gk κ T (some zs)=⟨True,.own (8*κ) 0,[(8*κ,some (.cells T (zs.map .v)))],none,[],[]⟩:=rfl
theorem Me(T:TypeId)(x:SV):sk κ T [x]=⟨True,.own (8*κ) 0,[(8*κ,some (.cells T (partsOf x)))],none,[],[]⟩:=rfl
def Kn(o k:Nat):Option Nat->Option Bool->Option (List SV)->R
 |some sz,some true,some vs=>⟨o+sz<=vs.length/\0<sz,.agg ((vs.drop o).take sz),[],none,[],[k]⟩
 |some _,some false,some vs=>⟨o<vs.length,vs.getD o (.v undef),[],none,[],[k]⟩
 |_,_,_=>.bad
theorem Fe(T:TypeId)(k o:Nat):cK P W bs h T [.own k o]=Kn o k (ts P T) (ta P T) (bN (h k)):=by
 simp only[cK];unfold Kn;rcases ts P T with _|sz<;>rcases ta P T with _|_|_<;>rcases bN (h k) with _|vs<;>rfl
theorem K5(o k sz:Nat)(vs:List SV):Kn o k (some sz) (some true) (some vs)=⟨o+sz<=vs.length/\0<sz,.agg ((vs.drop o).take sz),[],none,[],[k]⟩:=rfl
theorem L3(o k sz:Nat)(vs:List SV):Kn o k (some sz) (some false) (some vs)=⟨o<vs.length,vs.getD o (.v undef),[],none,[],[k]⟩:=rfl
def I6(W:World)(bs:List Nat)(b o:Nat):Option Nat->Option Bool->R
 |some sz,some true=>⟨b∉bs/\cA W b o sz,.agg (bm W b o sz),[],none,[],[]⟩
 |some _,some false=>⟨b∉bs/\(W.cell? ⟨b,o,none⟩).isSome=true,.v ((W.cell? ⟨b,o,none⟩).getD undef),[],none,[],[]⟩
 |_,_=>.bad
theorem El(T:TypeId)(b o:Nat):cK P W bs h T [.v (.pointer (some ⟨b,o,none⟩))]=I6 W bs b o (ts P T) (ta P T):=by
 simp only[cK];unfold I6;rcases ts P T with _|sz<;>rcases ta P T with _|_|_<;>rfl
theorem K9(b o sz:Nat):I6 W bs b o (some sz) (some true)=⟨b∉bs/\cA W b o sz,.agg (bm W b o sz),[],none,[],[]⟩:=rfl
theorem ML(b o sz:Nat):I6 W bs b o (some sz) (some false)=⟨b∉bs/\(W.cell? ⟨b,o,none⟩).isSome=true,.v ((W.cell? ⟨b,o,none⟩).getD undef),[],none,[],[]⟩:=rfl
theorem Cu(b o:Nat):bm W b o 0=[]:=rfl
theorem Ey(b o n:Nat):bm W b o (n+1)=.v ((W.cell? ⟨b,o,none⟩).getD undef)::bm W b (o+1) n:=rfl
theorem Cr(b o:Nat):cA W b o 0=True:=rfl
theorem Dc(b o n:Nat):cA W b o (n+1)=((W.cell? ⟨b,o,none⟩).isSome=true/\cA W b (o+1) n):=rfl
def IH(e:Option aI)(k o:Nat)(x:SV):Option Nat->Option (List SV)->R
 |some sz,some vs=>⟨(partsOf x).length=sz/\o+sz<=vs.length/\(0<sz\/isC e=true)/\(partsOf x).all cp=true,.v undef,[(k,mP e o (partsOf x))],none,[],[k]⟩
 |_,_=>.bad
theorem Bp(T:TypeId)(k o:Nat)(x:SV):gq P h T [.own k o,x]=IH (h k) k o x (ts P T) (bN (h k)):=by
 simp only[gq];unfold IH;rcases ts P T with _|sz<;>rcases bN (h k) with _|vs<;>rfl
theorem EO(e:Option aI)(k o sz:Nat)(x:SV)(vs:List SV):IH e k o x (some sz) (some vs)=⟨(partsOf x).length=sz/\o+sz<=vs.length/\(0<sz\/isC e=true)/\(partsOf x).all cp=true,.v undef,[(k,mP e o (partsOf x))],none,[],[k]⟩:=rfl
theorem NA(T:TypeId)(vs:List SV):isC (some (.cells T vs))=true:=rfl
def faK(k o:Nat):Option (Nat×Nat×Bool)->Option (List SV)->R
 |some (off,sz,_),some vs=>⟨0<sz/\o<vs.length,.own k (o+off),[],none,[],[k]⟩
 |_,_=>.bad
theorem q9(T:TypeId)(f k o:Nat):bU P h T f [.own k o]=faK k o (tf P T f) (bN (h k)):=by
 simp only[bU];unfold faK;rcases tf P T f with _|⟨a,b,c⟩<;>rcases bN (h k) with _|vs<;>rfl
theorem P4(k o off sz:Nat)(ag:Bool)(vs:List SV):faK k o (some (off,sz,ag)) (some vs)=⟨0<sz/\o<vs.length,.own k (o+off),[],none,[],[k]⟩:=rfl
def faX(b o:Nat):Option (Nat×Nat×Bool)->R
 |some (off,sz,_)=>⟨0<sz,.v (.pointer (some ⟨b,o+off,none⟩)),[],none,[],[]⟩
 |_=>.bad
theorem rZ(T:TypeId)(f b o:Nat):bU P h T f [.v (.pointer (some ⟨b,o,none⟩))]=faX b o (tf P T f):=by
 simp only[bU];unfold faX;rcases tf P T f with _|⟨a,b,c⟩<;>rfl
theorem PL(b o off sz:Nat)(ag:Bool):faX b o (some (off,sz,ag))=⟨0<sz,.v (.pointer (some ⟨b,o+off,none⟩)),[],none,[],[]⟩:=rfl
def rz(l:List SV):Option (Nat×Nat×Bool)->R
 |some (off,sz,ag)=>ej ag off sz l
 |none=>.bad
theorem BO(T:TypeId)(f:Nat)(l:List SV):fG P T f [.agg l]=rz l (tf P T f):=by
 simp only[fG];unfold rz;rcases tf P T f with _|⟨a,b,c⟩<;>rfl
theorem yz(T:TypeId)(f:Nat)(cs:Array Value):fG P T f [.v (.agg cs)]=rz (cs.toList.map .v) (tf P T f):=by
 simp only[fG];unfold rz;rcases tf P T f with _|⟨a,b,c⟩<;>rfl
theorem HR(l:List SV)(off sz:Nat):rz l (some (off,sz,true))=⟨off+sz<=l.length,.agg ((l.drop off).take sz),[],none,[],[]⟩:=rfl
theorem FY(l:List SV)(off sz:Nat):rz l (some (off,sz,false))=⟨off<l.length,l.getD off (.v undef),[],none,[],[]⟩:=rfl
theorem xB(i:Nat)(l:List SV):dM i [.tup l]=⟨i<l.length,l.getD i (.v undef),[],none,[],[]⟩:=rfl
theorem tC(i:Nat)(vs:Array Value):dM i [.v (.tuple vs)]=⟨i<vs.size,.v (vs.getD i undef),[],none,[],[]⟩:=rfl
theorem Is(eqs:(T:TypeId)->Option (EqSpec P T))(T:TypeId)(k k' : IntKind)(a b:Int):aL P eqs .shl T [.v (.int k a),.v (.int k' b)]=⟨0<=b,.v (.int k (k.wrap (a*2 ^ (min b.toNat k.bits)))),[],none,[],[]⟩:=rfl
theorem FA(eqs:(T:TypeId)->Option (EqSpec P T))(T:TypeId)(k k' : IntKind)(a b:Int):aL P eqs .shr T [.v (.int k a),.v (.int k' b)]=⟨0<=b,.v (.int k (a.fdiv (2 ^ (min b.toNat k.bits)))),[],none,[],[]⟩:=rfl
theorem Hd(eqs:(T:TypeId)->Option (EqSpec P T))(T:TypeId)(k:IntKind)(a b:Int) :
  aL P eqs .add T [.v (.int k a),.v (.int k b)]=⟨True,.v (.int k (k.wrap (a+b))),[],none,[],[]⟩ /\
  aL P eqs .sub T [.v (.int k a),.v (.int k b)]=⟨True,.v (.int k (k.wrap (a-b))),[],none,[],[]⟩ /\
  aL P eqs .mul T [.v (.int k a),.v (.int k b)]=⟨True,.v (.int k (k.wrap (a*b))),[],none,[],[]⟩ /\
  aL P eqs .quo T [.v (.int k a),.v (.int k b)]=⟨b≠0,.v (.int k (k.wrap (a.tdiv b))),[],none,[],[]⟩ /\
  aL P eqs .rem T [.v (.int k a),.v (.int k b)]=⟨b≠0,.v (.int k (a.tmod b)),[],none,[],[]⟩ /\
  aL P eqs .and T [.v (.int k a),.v (.int k b)]=⟨True,.v (.int k (bI .and k a b)),[],none,[],[]⟩ /\
  aL P eqs .or T [.v (.int k a),.v (.int k b)]=⟨True,.v (.int k (bI .or k a b)),[],none,[],[]⟩ /\
  aL P eqs .xor T [.v (.int k a),.v (.int k b)]=⟨True,.v (.int k (bI .xor k a b)),[],none,[],[]⟩ /\
  aL P eqs .eql T [.v (.int k a),.v (.int k b)]=⟨True,.v (.bool (decide (a=b))),[],none,[],[]⟩ /\
  aL P eqs .neq T [.v (.int k a),.v (.int k b)]=⟨True,.v (.bool (!decide (a=b))),[],none,[],[]⟩ /\
  aL P eqs .lss T [.v (.int k a),.v (.int k b)]=⟨True,.v (.bool (decide (a<b))),[],none,[],[]⟩ /\
  aL P eqs .leq T [.v (.int k a),.v (.int k b)]=⟨True,.v (.bool (decide (a<=b))),[],none,[],[]⟩ /\
  aL P eqs .gtr T [.v (.int k a),.v (.int k b)]=⟨True,.v (.bool (decide (b<a))),[],none,[],[]⟩ /\
  aL P eqs .geq T [.v (.int k a),.v (.int k b)]=⟨True,.v (.bool (decide (b<=a))),[],none,[],[]⟩:=by
 simp[aL,yf,R.fO]
theorem IE(eqs:(T:TypeId)->Option (EqSpec P T))(T:TypeId)(a b:ByteArray) :
  aL P eqs .add T [.v (.string a),.v (.string b)]=⟨a.size+b.size<=9223372036854775807,.v (.string (a++b)),[],none,[],[]⟩ /\
  aL P eqs .eql T [.v (.string a),.v (.string b)]=⟨True,.v (.bool (decide (a=b))),[],none,[],[]⟩ /\
  aL P eqs .neq T [.v (.string a),.v (.string b)]=⟨True,.v (.bool (!decide (a=b))),[],none,[],[]⟩ /\
  aL P eqs .lss T [.v (.string a),.v (.string b)]=⟨True,.v (.bool (Op.bytesLess a.toList b.toList)),[],none,[],[]⟩ /\
  aL P eqs .gtr T [.v (.string a),.v (.string b)]=⟨True,.v (.bool (!(Op.bytesLess a.toList b.toList||decide (a=b)))),[],none,[],[]⟩:=by
 simp[aL,KR,R.fO]
theorem Dk(eqs:(T:TypeId)->Option (EqSpec P T))(T:TypeId)(a b:Bool) :
  aL P eqs .eql T [.v (.bool a),.v (.bool b)]=⟨P.underlying T=some .bool,.v (.bool (a == b)),[],none,[],[]⟩ /\
  aL P eqs .neq T [.v (.bool a),.v (.bool b)]=⟨P.underlying T=some .bool,.v (.bool (!(a == b))),[],none,[],[]⟩:=⟨rfl,rfl⟩
def cI:List SV->Option (List Value)
 |[]=>some []
 |.v x::r=>(cI r).map (x::·)
 |_=>none
theorem jR:∀ l:List SV,mY (.agg l)=cI l
 |[]=>rfl
 |x::r=>by
  have ih:=jR r;simp only[mY]at ih ⊢;rw[List.mapM_cons,ih];cases x<;>simp[cI]<;>cases cI r<;>rfl
theorem vM(cs:Array Value):mY (.v (.agg cs))=some cs.toList:=rfl
theorem L2:cI []=some []:=rfl
theorem Gt(x:Value)(r:List SV):cI (.v x::r)=(cI r).map (x::·):=rfl
def N0{T:TypeId}(neg:Bool):Option (List Value)->Option (List Value)->Option (EqSpec P T)->R
 |some xs,some ys,some e=>⟨(e.f xs ys).isSome=true,.v (.bool (neg ^^ (e.f xs ys).getD false)),[],none,[],[]⟩
 |_,_,_=>.bad
theorem Gn(eqs:(T:TypeId)->Option (EqSpec P T))(T:TypeId)(l l' : List SV) :
  aL P eqs .eql T [.agg l,.agg l']=N0 false (cI l) (cI l') (eqs T)/\aL P eqs .neq T [.agg l,.agg l']=N0 true (cI l) (cI l') (eqs T):=by
 simp only[aL,jR,vM];constructor<;>(unfold N0;rcases cI l with _|xs<;>rcases cI l' with _|ys<;>rcases eqs T with _|e<;>simp[R.fO])
theorem ES(eqs:(T:TypeId)->Option (EqSpec P T))(T:TypeId)(cs cs' : Array Value) :
  aL P eqs .eql T [.v (.agg cs),.v (.agg cs')]=N0 false (some cs.toList) (some cs'.toList) (eqs T)/\aL P eqs .neq T [.v (.agg cs),.v (.agg cs')]=N0 true (some cs.toList) (some cs'.toList) (eqs T):=by
 simp only[aL,jR,vM];refine⟨?_,?_⟩<;>(unfold N0;rcases eqs T with _|e<;>simp[R.fO])
theorem DE(eqs:(T:TypeId)->Option (EqSpec P T))(T:TypeId)(cs:Array Value)(l:List SV) :
  aL P eqs .eql T [.v (.agg cs),.agg l]=N0 false (some cs.toList) (cI l) (eqs T)/\aL P eqs .neq T [.v (.agg cs),.agg l]=N0 true (some cs.toList) (cI l) (eqs T) /\
  aL P eqs .eql T [.agg l,.v (.agg cs)]=N0 false (cI l) (some cs.toList) (eqs T)/\aL P eqs .neq T [.agg l,.v (.agg cs)]=N0 true (cI l) (some cs.toList) (eqs T):=by
 simp only[aL,jR,vM];refine⟨?_,?_,?_,?_⟩<;>(unfold N0;rcases cI l with _|xs<;>rcases eqs T with _|e<;>simp[R.fO])
theorem QI{T:TypeId}(neg:Bool)(xs ys:List Value)(e:EqSpec P T):N0 neg (some xs) (some ys) (some e)=⟨(e.f xs ys).isSome=true,.v (.bool (neg ^^ (e.f xs ys).getD false)),[],none,[],[]⟩:=rfl
theorem KQ(b:Bool):p9 .not [.v (.bool b)]=⟨True,.v (.bool (!b)),[],none,[],[]⟩:=rfl
theorem NL(k:IntKind)(n:Int):p9 .neg [.v (.int k n)]=⟨True,.v (.int k (k.wrap (0-n))),[],none,[],[]⟩:=rfl
theorem Ia(T:TypeId)(s:ByteArray):gQ P h T [.v (.string s)]=⟨P.underlying T=some .string,.v (.int .i64 s.size),[],none,[],[]⟩:=rfl
theorem BK(T:TypeId)(a:Option Addr)(n c:Nat):gQ P h T [.v (.slice a n c)]=⟨∃ e,P.underlying T=some (.slice e),.v (.int .i64 n),[],none,[],[]⟩:=rfl
def abg(P:Program)(T:TypeId)(k:Nat):Option aI->R
 |some (.row _ _ n _)=>⟨∃ e,P.underlying T=some (.slice e),.v (.int .i64 n),[],none,[],[k]⟩
 |_=>.bad
theorem LX(T:TypeId)(k:Nat):gQ P h T [.hd k]=abg P T k (h k):=by
 simp only[gQ];unfold abg;rcases h k with _|e
 ·rfl
 ·cases e<;>rfl
theorem Qj(T T' : TypeId)(k s n:Nat)(vs:List SV):abg P T k (some (.row T' s n vs))=⟨∃ e,P.underlying T=some (.slice e),.v (.int .i64 n),[],none,[],[k]⟩:=rfl
def ixK(P:Program)(k:Nat)(i:Int):Option TypeDesc->Option aI->R
 |some (.slice e),some (.row _ size n _)=>⟨ts P e=some size/\0<=i/\i<n/\0<size,.own k (i.toNat*size),[],none,[],[k]⟩
 |_,_=>.bad
theorem tg(T:TypeId)(k:Nat)(ik:IntKind)(i:Int):a8 P h T [.hd k,.v (.int ik i)]=ixK P k i (P.underlying T) (h k):=by
 simp only[a8];unfold ixK;rcases P.underlying T with _|d<;>rcases h k with _|e
 ·rfl
 ·cases e<;>rfl
 ·cases d<;>rfl
 ·cases d<;>cases e<;>rfl
theorem OS(e e' : TypeId)(k size n:Nat)(i:Int)(vs:List SV):ixK P k i (some (.slice e)) (some (.row e' size n vs))=⟨ts P e=some size/\0<=i/\i<n/\0<size,.own k (i.toNat*size),[],none,[],[k]⟩:=rfl
def ixY(b o n:Nat)(i:Int):Option Nat->R
 |some sz=>⟨0<=i/\i<n,.v (.pointer (some ⟨b,o+i.toNat*sz,none⟩)),[],none,[],[]⟩
 |none=>.bad
def Y6(P:Program)(b o n:Nat)(i:Int):Option TypeDesc->R
 |some (.slice e)=>ixY b o n i (ts P e)
 |_=>.bad
theorem rJ(T:TypeId)(b o n c:Nat)(ik:IntKind)(i:Int):a8 P h T [.v (.slice (some ⟨b,o,none⟩) n c),.v (.int ik i)]=Y6 P b o n i (P.underlying T):=by
 simp only[a8];unfold Y6;rcases P.underlying T with _|d
 ·rfl
 ·cases d<;>rfl
theorem NO(e:TypeId)(b o n:Nat)(i:Int):Y6 P b o n i (some (.slice e))=ixY b o n i (ts P e):=rfl
def ixH(b o:Nat)(i:Int)(n:Nat):Option Nat->R
 |some sz=>⟨0<=i/\i<n/\1<n,.v (.pointer (some ⟨b,o+i.toNat*sz,none⟩)),[],none,[],[]⟩
 |none=>.bad
def ixG(P:Program)(b o:Nat)(i:Int):Option TypeDesc->R
 |some (.array n e)=>ixH b o i n (ts P e)
 |_=>.bad
theorem rj(T:TypeId)(b o:Nat)(ik:IntKind)(i:Int):a8 P h T [.v (.pointer (some ⟨b,o,none⟩)),.v (.int ik i)]=ixG P b o i (P.underlying T):=by
 simp only[a8];unfold ixG;rcases P.underlying T with _|d
 ·rfl
 ·cases d
  case array n e=>unfold ixH;cases ts P e<;>rfl
  all_goals rfl
theorem Lb(b o n:Nat)(i:Int)(e:TypeId):ixG P b o i (some (.array n e))=ixH b o i n (ts P e):=rfl
theorem Ph(b o n sz:Nat)(i:Int):ixH b o i n (some sz)=⟨0<=i/\i<n/\1<n,.v (.pointer (some ⟨b,o+i.toNat*sz,none⟩)),[],none,[],[]⟩:=rfl
theorem OC(b o n:Nat)(i:Int)(sz:Nat):ixY b o n i (some sz)=⟨0<=i/\i<n,.v (.pointer (some ⟨b,o+i.toNat*sz,none⟩)),[],none,[],[]⟩:=rfl
theorem BM(T:TypeId)(s:ByteArray)(ik:IntKind)(i:Int):eD P T [.v (.string s),.v (.int ik i)]=⟨P.underlying T=some .string/\0<=i/\i<s.size,.v (.int .u8 (bt s i)),[],none,[],[]⟩:=rfl
theorem Bm(T:TypeId)(s:ByteArray)(k k' : IntKind)(a b:Int):cz P T true true false [.v (.string s),.v (.int k a),.v (.int k' b)]=⟨P.underlying T=some .string/\0<=a/\a<=b/\b<=s.size,.v (.string (s.extract a.toNat b.toNat)),[],none,[],[]⟩:=by
 simp[cz,gT,kN,R.fO]
theorem BZ(T:TypeId)(s:ByteArray)(k:IntKind)(a:Int):cz P T true false false [.v (.string s),.v (.int k a)]=⟨P.underlying T=some .string/\0<=a/\a<=s.size,.v (.string (s.extract a.toNat s.size)),[],none,[],[]⟩:=by
 simp[cz,gT,kN,R.fO]
theorem Ci(T:TypeId)(s:ByteArray)(k' : IntKind)(b:Int):cz P T false true false [.v (.string s),.v (.int k' b)]=⟨P.underlying T=some .string/\0<=b/\b<=s.size,.v (.string (s.extract 0 b.toNat)),[],none,[],[]⟩:=by
 simp[cz,gT,kN,R.fO]
theorem tL(a:Addr):cC h [.v (.pointer (some a))]=⟨True,.v (.pointer (some a)),[],none,[],[]⟩:=rfl
theorem R8(T:TypeId)(x:Value):lH P T [.v x]=⟨P.concrete T=true,.v (.iface T x),[],none,[],[]⟩:=rfl
end
end
end
section
def ev1:=(aa @XX (aa @OX (aa @Xf (aa @Pq (aa @NS (aa @YM (aa @TD (aa @P1 (aa @O0 (aa @Md (aa @RJ (aa @Na (aa @Vt (aa @aaK (aa @WY (aa @Mc (aa @GP (aa @N6 (aa @YS (aa @OO (aa @abW (aa @Qe (aa @P2 (aa @KB (aa @W8 (aa @SO (aa @Ui (aa @abV (aa @Hg (aa @SB (aa @Ng (aa @LN (aa @OZ (aa @KF (aa @Wl (aa @Q9 (aa @U2 (aa @Rl (aa @FZ (aa @F4 (aa @Su (aa @Gx (aa @MO (aa @WU (aa @LM (aa @vx (aa @TO (aa @LC (aa @An (aa @Lx @R3))))))))))))))))))))))))))))))))))))))))))))))))))
def ev2:=(aa @Fa (aa @yq (aa @Nw (aa @qp (aa @M6 <| aa @Ib (aa @yB (aa @MH (aa @yE (aa @Mt (aa @EJ (aa @UH (aa @Hw (aa @Sp (aa @G3 (aa @Nz (aa @ad1 (aa @afb (aa @aee (aa @aea (aa @MT (aa @Gp (aa @Fg (aa @AJ (aa @CK (aa @vt (aa @Cg (aa @yF (aa @tH (aa @yh (aa @rV (aa @Dw (aa @H9 (aa @Ao (aa @CQ (aa @Li (aa @Aw (aa @Ih (aa @Dz (aa @yx (aa @C9 (aa @xC (aa @ND (aa @Oy (aa @H0 (aa @LA (aa @Ep (aa @MM (aa @As (aa @GC (aa @CE @C4))))))))))))))))))))))))))))))))))))))))))))))))))
def ev3:=(aa @rj (aa @Lb (aa @Ph (aa @NA (aa @true_or (aa @Me (aa @Fe (aa @K5 (aa @L3 (aa @El (aa @K9 (aa @ML (aa @Cu (aa @Ey (aa @Cr (aa @Dc (aa @Bp (aa @EO (aa @q9 (aa @P4 (aa @rZ (aa @PL (aa @BO (aa @yz (aa @HR (aa @FY (aa @xB (aa @tC (aa @Is (aa @FA (aa @Hd (aa @IE (aa @Dk (aa @L2 (aa @Gt (aa @Gn (aa @ES (aa @DE (aa @QI (aa @KQ (aa @NL (aa @Ia (aa @BK (aa @LX (aa @Qj (aa @tg (aa @OS (aa @rJ (aa @NO (aa @OC (aa @BM (aa @Bm (aa @BZ (aa @Ci (aa @tL @R8)))))))))))))))))))))))))))))))))))))))))))))))))))))))
end
section
open Go.RowKit
def sc:List Value->Nat->List (Nat×FV)
 |[],_=>[]
 |x::r,i=>(i,.is (.v x))::sc r (i+1)
theorem Oq(i:Nat):sc [] i=[]:=rfl
theorem Ly(x:Value)(r:List Value)(i:Nat):sc (x::r) i=(i,.is (.v x))::sc r (i+1):=rfl
def σ0(args:List Value):St:=⟨0,cL (sc args 0),cf []⟩
theorem rW:∀ (l:List Value) (i t:Nat),(cL (sc l i) t).keys=[]
 |[],_,_=>rfl
 |x::r,i,t=>by
  simp only[sc,cL,a7];split
  ·rfl
  ·exact rW r (i+1) t
theorem rn(E:Nat->Value):∀ (l:List Value) (i t:Nat) (tm:Nat->Value),(∀ j (h:j<l.length),tm (i+j)=l[j])->fits E (cL (sc l i) t) (tm t)
 |[],_,_,_,_=>trivial
 | x::r,i,t,tm,h=>by
  simp only[sc,cL,a7];split
  ·rename_i ht;subst ht;have:=h 0 sI;simpa [fits,den] using this
  ·exact rn E r (i+1) t tm λj hj=>by
    have:=h (j+1) (by simpa using hj);rw[show i+1+j=i+(j+1) by omega];simpa using this
theorem rC{w:World}{nt m:Nat}(args:Array Value)(hnt:args.size+m=nt) :
  Sat w [] nt ⟨[],[]⟩ (σ0 args.toList) { tmps:=args++Array.replicate m undef,defers:=[] } w:=by
 refine⟨⟨λ_=>undef,λ_=>[],λt=>?_,⟨λk e h=>(by cases h),λk e h=>(by cases h),λk e h=>(by cases h),λk k' e e' _ h=>(by cases h),af.refl w []⟩,λp hp=>(by cases hp)⟩,by simpa using hnt,rfl,λp hp=>(by cases hp),λt k hk=>?_,λk e h=>(by cases h)⟩
 ·refine rn _ args.toList 0 t (λt=>(args++Array.replicate m undef).getD t undef) λj hj=>?_
  have hj' : j<args.size:=by simpa using hj
  rw[Nat.zero_add,Array.getD_eq_getD_getElem?,Array.getElem?_append_left hj',Array.getElem?_eq_getElem hj'];rfl
 ·simp only[σ0,rW]at hk;cases hk
section
variable {P:Program}{f:FuncId}{fn:Func}{c:Code}{args:Array Value}{w:World}{nt:Nat}
theorem av{v:Value}(rs:List ResultVar)(hf:P.funcs[f]?=some fn)(hb:fn.body=some c)(hrs:fn.results.toList=rs)(hnt:args.size+(fn.ntmps-args.size)=nt)
  (h:Wp P w [] nt ⟨[],[]⟩ c (Fin P rs (λ_ _ x _=>∀ E,den E x=v) (λ_ _=>False)) (σ0 args.toList)) :
  Calls P f args w λe w' => e=.returned v/\af w [] w' := by
 subst hrs;refine (mn hf hb (rC args hnt) h).mono λe w' he=>?_
 cases e with
 |returned u=>
  obtain⟨W',bs',E,F,x,h,hx,hR,rfl,hs,_⟩:=he;exact⟨by rw[hR E],hx.dC hs.keeps⟩
 |panicked c=>obtain⟨_,_,_,_,_,_,hf,_⟩:=he;exact hf.elim
 |outgrown=>exact he.elim
end
inductive AV where
 |val (v:Value)
 |row (T:TypeId) (s n:Nat) (vs:List Value)
def iR(k:Nat):Option aI->Option (AV×List Nat)
 |some (.row T s n us)=>(cI us).map λvs=>(.row T s n vs,[k])
 |_=>none
def bS(h:Hp):SV->Option (AV×List Nat)
 |.v x=>some (.val x,[])
 |.agg l=>(cI l).map λvs=>(.val (.agg vs.toArray),[])
 |.hd k=>iR k (h k)
 |_=>none
def jS:Option (AV×List Nat)->Option (List AV×List Nat)->Option (List AV×List Nat)
 |some (a,r),some (as_,rs)=>some (a::as_,r++rs)
 |_,_=>none
def ay(h:Hp):List SV->Option (List AV×List Nat)
 |[]=>some ([],[])
 |x::r=>jS (bS h x) (ay h r)
def Ab(w:World)(u:Value):AV->Prop
 |.val v=>u=v
 |.row T s n vs=>w.ownsRow 0 T s u n vs
def eJ(w:World):List Value->List AV->Prop
 |[],[]=>True
 |u::r,a::s=>Ab w u a/\eJ w r s
 |_,_=>False
theorem qT{E:Nat->Value}:∀ {l:List SV} {vs:List Value},cI l=some vs->ah E l=vs
 |[],vs,h=>by simp[cI]at h;subst h;rfl
 | x::r,vs,h=>by
  cases x with
  |v x=>
   simp only[cI,Option.map_eq_some_iff]at h;obtain⟨ws,h1,rfl⟩:=h;simp[ah,den,qT h1]
  |_=>simp[cI]at h
section
variable {P:Program}{W:World}{bs:List Nat}{E:Nat->Value}{F:Nat->List Nat}{h:Hp}{w:World}
theorem Ah(hs:ab W bs E F h w){x:SV}{a:AV}{r:List Nat}(hv:bS h x=some (a,r)):Ab w (den E x) a:=by
 cases x with
 |v x=>simp[bS]at hv;obtain⟨rfl,rfl⟩:=hv;rfl
 |agg l=>
  simp only[bS,Option.map_eq_some_iff,Prod.mk.injEq]at hv;obtain⟨vs,h1,rfl,rfl⟩:=hv;simp[Ab,den,qT h1]
 | hd k=>
  simp only[bS]at hv;cases hk:h k with
  |none=>rw[hk]at hv;simp[iR]at hv
  | some e=>
   cases e with
   |row T s n us=>
    rw[hk]at hv;simp only[iR,Option.map_eq_some_iff,Prod.mk.injEq]at hv;obtain⟨vs,h1,rfl,rfl⟩:=hv;have:=hs.ent k _ hk;simp only[Ab,den];rw[jz (cZ this),<- qT (E:=E) h1];exact this.1
   |cells T vs=>rw[hk]at hv;simp[iR]at hv
   |obj d R=>rw[hk]at hv;simp[iR]at hv
 |own k o=>simp[bS]at hv
 |tup l=>simp[bS]at hv
 |ifc t x=>simp[bS]at hv
 |part k i=>simp[bS]at hv
 |fn f a c=>simp[bS]at hv
theorem di(hs:ab W bs E F h w):∀ {l:List SV} {as_:List AV} {r:List Nat},ay h l=some (as_,r)->eJ w (ah E l) as_
 |[],as_,r,hv=>by simp[ay]at hv;obtain⟨rfl,rfl⟩:=hv;trivial
 | x::l,as_,r,hv=>by
  simp only[ay]at hv;cases h1:bS h x with
  |none=>rw[h1]at hv;simp[jS]at hv
  | some p=>
   cases h2:ay h l with
   |none=>rw[h1,h2]at hv;simp[jS]at hv
   |some q=>
    obtain⟨a,ra⟩:=p;obtain⟨as',rs⟩:=q;rw[h1,h2]at hv;simp only[jS,Option.some.injEq,Prod.mk.injEq]at hv;obtain⟨rfl,rfl⟩:=hv;exact⟨Ah hs h1,di hs h2⟩
theorem yN{h' : Hp}{x:SV}{a:AV}{r:List Nat}(hv:bS h x=some (a,r))(hr:∀ k∈r,h' k=h k):bS h' x=some (a,r):=by
 cases x with
 | hd k=>
  simp only[bS]at hv ⊢;have:k∈r:=by
   cases hk:h k with
   |none=>rw[hk]at hv;simp[iR]at hv
   |some e=>
    cases e<;>rw[hk]at hv<;>simp[iR]at hv;obtain⟨vs,h1,rfl,rfl⟩:=hv;simp
  rw[hr k this];exact hv
 |_=>exact hv
theorem cm{h' : Hp}:∀ {l:List SV} {as_:List AV} {r:List Nat},ay h l=some (as_,r)->(∀ k∈r,h' k=h k)->ay h' l=some (as_,r)
 |[],_,_,hv,_=>hv
 | x::l,as_,r,hv,hr=>by
  simp only[ay]at hv ⊢;cases h1:bS h x with
  |none=>rw[h1]at hv;simp[jS]at hv
  | some p=>
   cases h2:ay h l with
   |none=>rw[h1,h2]at hv;simp[jS]at hv
   |some q=>
    obtain⟨a,ra⟩:=p;obtain⟨as',rs⟩:=q;rw[h1,h2]at hv;simp only[jS,Option.some.injEq,Prod.mk.injEq]at hv;obtain⟨rfl,rfl⟩:=hv;rw[yN h1 λk hk=>hr k (by simp[hk]),cm h2 λk hk=>hr k (by simp[hk])];rfl
end
structure bu (P:Program)(f:FuncId) where
 pre:World->List Nat->List AV->Prop
 res:World->List AV->Value
 enters:∀ args w,(callFunc f args).run P w=.ok (.enter f args) w
 ok:∀ (W w:World) (bs:List Nat) (us:List Value) (as_:List AV),af W bs w->eJ w us as_->pre W bs as_->Calls P f us.toArray w λe w' => e=.returned (res W as_)/\af w [] w'
def DS(pre:World->List Nat->List AV->Prop)(res:World->List AV->Value)(W:World)(bs:List Nat):Option (List AV×List Nat)->R
 |some (as_,rs)=>⟨pre W bs as_,.v (res W as_),[],none,[],rs⟩
 |none=>.bad
def bu.spec{P:Program}{f:FuncId}(p:bu P f):Spec P f where
 ev:=λW bs _ h args=>DS p.pre p.res W bs (ay h args)
 good:=λW bs κ E F h w K args hs hK hk hx hside=>by
  rw[p.enters];cases hv:ay h args with
  |none=>rw[hv]at hside;exact hside.elim
  |some q=>
   obtain⟨as_,rs⟩:=q;rw[hv]at hside;exact q8 hs (p.ok W w bs _ as_ hs.keeps (di hs hv) hside) rfl rfl rfl
 keys:=λW bs κ h K args hK hx hside=>by
  cases hv:ay h args with
  |none=>rw[hv]at hside;exact hside.elim
  |some q=>exact aC.plain (λk hk=>by cases hk) rfl
 loc:=λW bs κ h h' args hside hr=>by
  cases hv:ay h args with
  |none=>rw[hv]at hside;exact hside.elim
  |some q=>
   obtain⟨as_,rs⟩:=q;rw[hv]at hr;rw[cm hv hr]
structure Jl (P:Program)(f:FuncId) where
 pre:World->List Nat->List AV->Prop
 T:TypeId
 s:Nat
 n:World->List AV->Nat
 vs:World->List AV->List Value
 tm:World->List AV->SV->SV
 g:World->List AV->Value->Value
 tmg:∀ W as_ E x,den E (tm W as_ x)=g W as_ (den E x)
 tmk:∀ W as_ x,∀ k∈(tm W as_ x).keys,k∈x.keys
 enters:∀ args w,(callFunc f args).run P w=.ok (.enter f args) w
 ok:∀ (W w:World) (bs:List Nat) (us:List Value) (as_:List AV),af W bs w->eJ w us as_->pre W bs as_->Calls P f us.toArray w λe w' =>
  ∃ u fp,e=.returned (g W as_ u)/\(∀ E',aZ E' u fp w' (.row T s (n W as_) ((vs W as_).map .v)))/\(∀ b∈fp,w.heap.size<=b/\b<w'.heap.size)/\af w [] w'
def E9(κ:Nat)(T:TypeId)(s:Nat)(pre:World->List Nat->List AV->Prop)(n:World->List AV->Nat)(vs:World->List AV->List Value)(tm:World->List AV->SV->SV)(W:World)(bs:List Nat):Option (List AV×List Nat)->R
 |some (as_,rs)=>⟨pre W bs as_,tm W as_ (.hd (8*κ)),[(8*κ,some (.row T s (n W as_) ((vs W as_).map .v)))],none,[],rs⟩
 |none=>.bad
def Jl.spec{P:Program}{f:FuncId}(p:Jl P f):Spec P f where
 ev:=λW bs κ h args=>E9 κ p.T p.s p.pre p.n p.vs p.tm W bs (ay h args)
 good:=λW bs κ E F h w K args hs hK hk hx hside=>by
  rw[p.enters];cases hv:ay h args with
  |none=>rw[hv]at hside;exact hside.elim
  |some q=>
   obtain⟨as_,rs⟩:=q;rw[hv]at hside;refine vL hs hK hk ((p.ok W w bs _ as_ hs.keeps (di hs hv) hside).mono λe w' he=>?_) rfl rfl;obtain⟨u,fp,rfl,hent,hfp,hkeep⟩:=he;refine⟨_,u,fp,rfl,hent,hfp,hkeep,?_⟩;simp only[E9,p.tmg,den,nk,ai];rw[jz (cZ (hent E))]
 keys:=λW bs κ h K args hK hx hside=>by
  cases hv:ay h args with
  |none=>rw[hv]at hside;exact hside.elim
  | some q=>
   obtain⟨as_,rs⟩:=q;refine⟨λk hk=>.inr ?_,λq hq=>?_⟩
   ·have:=p.tmk _ _ _ k hk;simp[SV.keys]at this;subst this;exact aQ κ
   ·simp only[E9,List.mem_singleton]at hq;subst hq;refine⟨.inr (aQ κ),λe he k hk=>?_⟩;simp only[Option.some.injEq]at he;subst he;simp only[aI.keys,aA]at hk;cases hk
 loc:=λW bs κ h h' args hside hr=>by
  cases hv:ay h args with
  |none=>rw[hv]at hside;exact hside.elim
  |some q=>
   obtain⟨as_,rs⟩:=q;rw[hv]at hr;rw[cm hv hr]
theorem LO(h:Hp):ay h []=some ([],[]):=rfl
theorem xF(h:Hp)(x:SV)(r:List SV):ay h (x::r)=jS (bS h x) (ay h r):=rfl
theorem Yb(h:Hp)(x:Value):bS h (.v x)=some (.val x,[]):=rfl
theorem MK(h:Hp)(l:List SV):bS h (.agg l)=(cI l).map λvs=>(.val (.agg vs.toArray),[]):=rfl
theorem Td(h:Hp)(k:Nat):bS h (.hd k)=iR k (h k):=rfl
theorem KM(k:Nat)(T:TypeId)(s n:Nat)(us:List SV):iR k (some (.row T s n us))=(cI us).map λvs=>(.row T s n vs,[k]):=rfl
theorem FT(a:AV)(r:List Nat)(as_:List AV)(rs:List Nat):jS (some (a,r)) (some (as_,rs))=some (a::as_,r++rs):=rfl
theorem aX(l:List Value):cI (l.map .v)=some l:=by
 induction l with
 |nil=>rfl
 |cons x r ih=>simp[cI,ih]
theorem Io(pre:World->List Nat->List AV->Prop)(res:World->List AV->Value)(W:World)(bs:List Nat)(as_:List AV)(rs:List Nat):DS pre res W bs (some (as_,rs))=⟨pre W bs as_,.v (res W as_),[],none,[],rs⟩:=rfl
theorem Ix(κ:Nat)(T:TypeId)(s:Nat)(pre:World->List Nat->List AV->Prop)(n:World->List AV->Nat)(vs:World->List AV->List Value)(tm:World->List AV->SV->SV)(W:World)(bs:List Nat)(as_:List AV)(rs:List Nat) :
  E9 κ T s pre n vs tm W bs (some (as_,rs))=⟨pre W bs as_,tm W as_ (.hd (8*κ)),[(8*κ,some (.row T s (n W as_) ((vs W as_).map .v)))],none,[],rs⟩:=rfl
section
variable {P:Program}{W:World}{bs:List Nat}{κ:Nat}{h:Hp}
def ss(fl:List (Nat×Nat))(cells:List SV)(l:List (Nat×SV)):Option (List SV):=dj (λi=>fl[i]?) cells l
def Te(fl:List (Nat×Nat))(cells:List SV)(r:List (Nat×SV))(x:SV):Option (Nat×Nat)->Option (List SV)
 |some (off,size)=>if (partsOf x).length=size/\off+size<=cells.length then ss fl (ax cells off (partsOf x)) r else none
 |none=>none
theorem yO(fl:List (Nat×Nat))(cells:List SV):ss fl cells []=some cells:=rfl
theorem G8(fl:List (Nat×Nat))(cells:List SV)(i:Nat)(x:SV)(r:List (Nat×SV)):ss fl cells ((i,x)::r)=Te fl cells r x (fl[i]?):=by
 simp only[ss,dj,Te];cases fl[i]?<;>rfl
theorem IG(fl:List (Nat×Nat))(cells:List SV)(r:List (Nat×SV))(x:SV)(off size:Nat) :
  Te fl cells r x (some (off,size))=if (partsOf x).length=size/\off+size<=cells.length then ss fl (ax cells off (partsOf x)) r else none:=rfl
def HI:Option (List SV)->R
 |some cells=>⟨True,.agg cells,[],none,[],[]⟩
 |none=>.bad
theorem MU(l:List SV):HI (some l)=⟨True,.agg l,[],none,[],[]⟩:=rfl
def HC(idx:List Nat)(args:List SV):Option (List Value)->Option (List (Nat×Nat))->R
 |some zs,some fl=>HI (ss fl (zs.map .v) (idx.zip args))
 |_,_=>.bad
theorem D5(idx:List Nat)(args:List SV)(zs:List Value)(fl:List (Nat×Nat)):HC idx args (some zs) (some fl)=HI (ss fl (zs.map .v) (idx.zip args)):=rfl
theorem aq(T:TypeId)(idx:List Nat)(args:List SV)(hs:(pI P T).isSome=true):fI P T idx args=HC idx args (tz P T) (pI P T):=by
 have hu:∃ fs,P.underlying T=some (.struct fs):=by
  unfold pI at hs;split at hs
  ·rename_i fs hfs;exact⟨fs,hfs⟩
  ·cases hs
 obtain⟨fs,hu⟩:=hu;obtain⟨fl,hfl⟩:=Option.isSome_iff_exists.1 hs;unfold fI HC;rw[hu,hfl];cases tz P T with
 |none=>rfl
 |some zs=>
  simp only[ss,HI];cases dj (λi=>fl[i]?) (zs.map .v) (idx.zip args)<;>rfl
def pU(sz:Nat)(cells:List SV)(l:List (Nat×SV)):Option (List SV):=dj (λi=>some (i*sz,sz)) cells l
theorem KO(sz:Nat)(cells:List SV):pU sz cells []=some cells:=rfl
theorem HJ(sz:Nat)(cells:List SV)(i:Nat)(x:SV)(r:List (Nat×SV)) :
  pU sz cells ((i,x)::r)=if (partsOf x).length=sz/\i*sz+sz<=cells.length then pU sz (ax cells (i*sz) (partsOf x)) r else none:=rfl
def Ya(κ:Nat)(e:TypeId)(sz len:Nat)(p:Prop):Option (List SV)->R
 |some cells=>⟨p,.hd (8*κ),[(8*κ,some (.row e sz len cells))],none,[],[]⟩
 |none=>.bad
theorem KD(e:TypeId)(sz len:Nat)(p:Prop)(l:List SV):Ya κ e sz len p (some l)=⟨p,.hd (8*κ),[(8*κ,some (.row e sz len l))],none,[],[]⟩:=rfl
def bsK(κ:Nat)(e:TypeId)(len:Nat)(idx:List Nat)(args:List SV):Option Nat->Option (List Value)->R
 |some sz,some zs=>Ya κ e sz len (len*sz<=16777216/\zs.length=sz/\0<sz) (pU sz ((List.replicate len zs).flatten.map .v) (idx.zip args))
 |_,_=>.bad
theorem PN(e:TypeId)(len:Nat)(idx:List Nat)(args:List SV)(sz:Nat)(zs:List Value) :
  bsK κ e len idx args (some sz) (some zs)=Ya κ e sz len (len*sz<=16777216/\zs.length=sz/\0<sz) (pU sz ((List.replicate len zs).flatten.map .v) (idx.zip args)):=rfl
def bsU(P:Program)(κ:Nat)(len:Nat)(idx:List Nat)(args:List SV):Option TypeDesc->R
 |some (.slice e)=>bsK κ e len idx args (ts P e) (tz P e)
 |_=>.bad
theorem MX(len:Nat)(idx:List Nat)(args:List SV)(e:TypeId):bsU P κ len idx args (some (.slice e))=bsK κ e len idx args (ts P e) (tz P e):=rfl
theorem ae(T:TypeId)(len:Nat)(idx:List Nat)(args:List SV):cD P κ T len idx args=bsU P κ len idx args (P.underlying T):=by
 unfold cD bsU;rcases P.underlying T with _|d
 ·rfl
 ·cases d with
  | slice e=>
   simp only[bsK];rcases ts P e with _|sz<;>rcases tz P e with _|zs
   ·rfl
   ·rfl
   ·rfl
   ·simp only[Ya,pU];cases dj (λi=>some (i*sz,sz)) ((List.replicate len zs).flatten.map .v) (idx.zip args)<;>rfl
  |_=>rfl
def Va(P:Program)(κ k j:Nat)(tys:List TypeId):Option aI->Option aI->R
 |some (.row e sz n vs),some (.row _ sz' m us)=>match tys,qI P e,tz P e with
  |[T,T'],some by_,some zs=>⟨T' = T/\P.underlying T=some (.slice e)/\ts P e=some sz/\zs.length=sz/\0<sz/\sz' = sz/\k≠j/\0<m/\n+m<=maxLen/\(n+m)*by_<=140737488355328/\us.all cp=true,.hd (8*κ),[(k,none),(8*κ,some (.row e sz (n+m) (vs++us)))],none,[],[k,j]⟩
  |_,_,_=>.bad
 |_,_=>.bad
theorem Ig(tys:List TypeId)(k j:Nat):ek P W bs κ h tys [.hd k,.hd j]=Va P κ k j tys (h k) (h j):=by
 simp only[ek];unfold Va;rcases h k with _|e<;>rcases h j with _|e'
 ·rcases tys with _|⟨a,_|⟨b,_|_⟩⟩<;>rfl
 ·rcases tys with _|⟨a,_|⟨b,_|_⟩⟩<;>rfl
 ·rcases tys with _|⟨a,_|⟨b,_|_⟩⟩<;>cases e<;>rfl
 ·rcases tys with _|⟨a,_|⟨b,_|_⟩⟩<;>cases e<;>cases e' <;> try rfl
  rename_i T s n vs T' s' n' vs';simp only[];rcases qI P T with _|x<;>rcases tz P T with _|y<;>rfl
def aaQ(P:Program)(κ k j:Nat)(T T' e sz n sz' m:Nat)(vs us:List SV):Option Nat->Option (List Value)->R
 |some by_,some zs=>⟨T' = T/\P.underlying T=some (.slice e)/\ts P e=some sz/\zs.length=sz/\0<sz/\sz' = sz/\k≠j/\0<m/\n+m<=maxLen/\(n+m)*by_<=140737488355328/\us.all cp=true,.hd (8*κ),[(k,none),(8*κ,some (.row e sz (n+m) (vs++us)))],none,[],[k,j]⟩
 |_,_=>.bad
theorem Qh(k j:Nat)(T T' e e' : TypeId)(sz n sz' m:Nat)(vs us:List SV) :
  Va P κ k j [T,T'] (some (.row e sz n vs)) (some (.row e' sz' m us))=aaQ P κ k j T T' e sz n sz' m vs us (qI P e) (tz P e):=by
 simp only[Va,aaQ];rcases qI P e with _|x<;>rcases tz P e with _|y<;>rfl
theorem L7(k j:Nat)(T T' e sz n sz' m:Nat)(vs us:List SV)(by_:Nat)(zs:List Value) :
  aaQ P κ k j T T' e sz n sz' m vs us (some by_) (some zs)=⟨T' = T/\P.underlying T=some (.slice e)/\ts P e=some sz/\zs.length=sz/\0<sz/\sz' = sz/\k≠j/\0<m/\n+m<=maxLen/\(n+m)*by_<=140737488355328/\us.all cp=true,.hd (8*κ),[(k,none),(8*κ,some (.row e sz (n+m) (vs++us)))],none,[],[k,j]⟩:=rfl
def Yt(P:Program)(κ j:Nat)(T T' : TypeId):Option TypeDesc->Option aI->R
 |some (.slice e),some (.row _ sz m us)=>match qI P e,tz P e with
  |some by_,some zs=>⟨T' = T/\ts P e=some sz/\zs.length=sz/\0<sz/\0<m/\m<=maxLen/\m*by_<=140737488355328/\us.all cp=true,.hd (8*κ),[(8*κ,some (.row e sz m us))],none,[],[j]⟩
  |_,_=>.bad
 |_,_=>.bad
def Uq(κ k:Nat)(T T' e:TypeId)(sz n m:Nat)(vs us:List SV)(P:Program)(q:Prop):Option Nat->Option (List Value)->R
 |some by_,some zs=>⟨T' = T/\P.underlying T=some (.slice e)/\ts P e=some sz/\zs.length=sz/\q/\n+m<=maxLen/\(n+m)*by_<=140737488355328/\us.all cp=true,.hd (8*κ),[(k,none),(8*κ,some (.row e sz (n+m) (vs++us)))],none,[],[k]⟩
 |_,_=>.bad
def UP(P:Program)(W:World)(bs:List Nat)(κ k:Nat)(ao:Option Addr)(m:Nat)(T T' : TypeId):Bool->Option aI->R
 |true,some (.row e sz n vs)=>⟨T' = T/\P.underlying T=some (.slice e)/\ts P e=some sz/\m=0,.hd k,[],none,[],[k]⟩
 |false,some (.row e sz n vs)=>(match ao with
  |some ⟨b,o,none⟩=>Uq κ k T T' e sz n m vs (bm W b o (m*sz)) P (b∉bs/\cA W b o (m*sz)) (qI P e) (tz P e)
  |_=>.bad)
 |_,_=>.bad
theorem GV(T T' : TypeId)(k m c:Nat)(ao:Option Addr):ek P W bs κ h [T,T'] [.hd k,.v (.slice ao m c)]=UP P W bs κ k ao m T T' (m == 0) (h k):=by
 simp only[ek];unfold UP;rcases h k with _|e
 ·cases (m == 0)<;>rfl
 ·cases e with
  | row e sz n vs=>
   cases (m == 0) with
   |true=>rfl
   | false=>
    simp only[cond_false];rcases ao with _|⟨b,o,_|s⟩
    ·rfl
    ·simp only[Uq];rcases qI P e with _|x<;>rcases tz P e with _|y<;>rfl
    ·rfl
  |_=>cases (m == 0)<;>rfl
theorem MR(k m:Nat)(ao:Option Addr)(T T' e:TypeId)(sz n:Nat)(vs:List SV):UP P W bs κ k ao m T T' true (some (.row e sz n vs))=⟨T' = T/\P.underlying T=some (.slice e)/\ts P e=some sz/\m=0,.hd k,[],none,[],[k]⟩:=rfl
theorem TV(k m b o:Nat)(T T' e:TypeId)(sz n:Nat)(vs:List SV):UP P W bs κ k (some ⟨b,o,none⟩) m T T' false (some (.row e sz n vs))=Uq κ k T T' e sz n m vs (bm W b o (m*sz)) P (b∉bs/\cA W b o (m*sz)) (qI P e) (tz P e):=rfl
theorem KE(k:Nat)(T T' e:TypeId)(sz n m:Nat)(vs us:List SV)(q:Prop)(by_:Nat)(zs:List Value):Uq κ k T T' e sz n m vs us P q (some by_) (some zs)=⟨T' = T/\P.underlying T=some (.slice e)/\ts P e=some sz/\zs.length=sz/\q/\n+m<=maxLen/\(n+m)*by_<=140737488355328/\us.all cp=true,.hd (8*κ),[(k,none),(8*κ,some (.row e sz (n+m) (vs++us)))],none,[],[k]⟩:=rfl
def Yr(P:Program)(κ k:Nat)(s:ByteArray)(T T' : TypeId):Option aI->R
 |some (.row e sz n vs)=>(match qI P e,tz P e with
  |some by_,some zs=>⟨P.underlying T' = some .string/\P.underlying T=some (.slice e)/\ts P e=some sz/\zs.length=sz/\sz=1/\n+s.size<=maxLen/\(n+s.size)*by_<=140737488355328,.hd (8*κ),[(k,none),(8*κ,some (.row e sz (n+s.size) (vs++(byteCells s).map .v)))],none,[],[k]⟩
  |_,_=>.bad)
 |_=>.bad
theorem DC(T T' : TypeId)(k:Nat)(s:ByteArray):ek P W bs κ h [T,T'] [.hd k,.v (.string s)]=Yr P κ k s T T' (h k):=by
 simp only[ek];unfold Yr;rcases h k with _|e
 ·rfl
 ·cases e with
  |_=>rfl
def abM(κ k:Nat)(s:ByteArray)(P:Program)(T T' e:TypeId)(sz n:Nat)(vs:List SV):Option Nat->Option (List Value)->R
 |some by_,some zs=>⟨P.underlying T' = some .string/\P.underlying T=some (.slice e)/\ts P e=some sz/\zs.length=sz/\sz=1/\n+s.size<=maxLen/\(n+s.size)*by_<=140737488355328,.hd (8*κ),[(k,none),(8*κ,some (.row e sz (n+s.size) (vs++(byteCells s).map .v)))],none,[],[k]⟩
 |_,_=>.bad
theorem O7(k:Nat)(s:ByteArray)(T T' e:TypeId)(sz n:Nat)(vs:List SV):Yr P κ k s T T' (some (.row e sz n vs))=abM κ k s P T T' e sz n vs (qI P e) (tz P e):=by
 simp only[Yr,abM]
theorem LD(k:Nat)(s:ByteArray)(T T' e:TypeId)(sz n:Nat)(vs:List SV)(by_:Nat)(zs:List Value):abM κ k s P T T' e sz n vs (some by_) (some zs)=⟨P.underlying T' = some .string/\P.underlying T=some (.slice e)/\ts P e=some sz/\zs.length=sz/\sz=1/\n+s.size<=maxLen/\(n+s.size)*by_<=140737488355328,.hd (8*κ),[(k,none),(8*κ,some (.row e sz (n+s.size) (vs++(byteCells s).map .v)))],none,[],[k]⟩:=rfl
theorem IF(T T' : TypeId)(j:Nat):ek P W bs κ h [T,T'] [.v (.slice none 0 0),.hd j]=Yt P κ j T T' (P.underlying T) (h j):=by
 simp only[ek];unfold Yt;rcases h j with _|e'
 ·rcases P.underlying T with _|d
  ·rfl
  ·cases d<;>rfl
 ·cases e' with
  | row e sz m us=>
   simp only[];rcases P.underlying T with _|d
   ·rfl
   ·cases d with
    |slice a=>
     simp only[];rcases qI P a with _|x<;>rcases tz P a with _|y<;>rfl
    |_=>rfl
  |cells T2 vs=>
   rcases P.underlying T with _|d
   ·rfl
   ·cases d<;>rfl
  |obj d R=>
   rcases P.underlying T with _|d
   ·rfl
   ·cases d<;>rfl
def abL(P:Program)(κ j:Nat)(T T' e sz m:Nat)(us:List SV):Option Nat->Option (List Value)->R
 |some by_,some zs=>⟨T' = T/\ts P e=some sz/\zs.length=sz/\0<sz/\0<m/\m<=maxLen/\m*by_<=140737488355328/\us.all cp=true,.hd (8*κ),[(8*κ,some (.row e sz m us))],none,[],[j]⟩
 |_,_=>.bad
theorem Sk(j:Nat)(T T' e e' : TypeId)(sz m:Nat)(us:List SV) :
  Yt P κ j T T' (some (.slice e)) (some (.row e' sz m us))=abL P κ j T T' e sz m us (qI P e) (tz P e):=by
 simp only[Yt,abL]
theorem KW(j:Nat)(T T' e sz m:Nat)(us:List SV)(by_:Nat)(zs:List Value) :
  abL P κ j T T' e sz m us (some by_) (some zs)=⟨T' = T/\ts P e=some sz/\zs.length=sz/\0<sz/\0<m/\m<=maxLen/\m*by_<=140737488355328/\us.all cp=true,.hd (8*κ),[(8*κ,some (.row e sz m us))],none,[],[j]⟩:=rfl
end
theorem aH{n:Int}(h1:-9223372036854775808<=n)(h2:n<=9223372036854775807):IntKind.i64.wrap n=n:=by
 simp only[IntKind.wrap,IntKind.bits,IntKind.signed,Bool.true_and,decide_eq_true_eq,show (2:Int) ^ (64-1)=9223372036854775808 from rfl,show (2:Int) ^ 64=18446744073709551616 from rfl];split<;>omega
theorem XJ(W:World)(b o:Nat):bm W b o 1=[.v ((W.cell? ⟨b,o,none⟩).getD undef)]:=rfl
theorem Xz(W:World)(b o:Nat):bm W b o 2=[.v ((W.cell? ⟨b,o,none⟩).getD undef),.v ((W.cell? ⟨b,o+1,none⟩).getD undef)]:=rfl
theorem XZ(W:World)(b o:Nat):bm W b o 3=[.v ((W.cell? ⟨b,o,none⟩).getD undef),.v ((W.cell? ⟨b,o+1,none⟩).getD undef),.v ((W.cell? ⟨b,o+2,none⟩).getD undef)]:=rfl
theorem XD(W:World)(b o:Nat):bm W b o 4=[.v ((W.cell? ⟨b,o,none⟩).getD undef),.v ((W.cell? ⟨b,o+1,none⟩).getD undef),.v ((W.cell? ⟨b,o+2,none⟩).getD undef),.v ((W.cell? ⟨b,o+3,none⟩).getD undef)]:=rfl
theorem Vc(W:World)(b o:Nat):cA W b o 1=((W.cell? ⟨b,o,none⟩).isSome=true):=by simp[cA]
theorem Ug(W:World)(b o:Nat):cA W b o 2=((W.cell? ⟨b,o,none⟩).isSome=true/\(W.cell? ⟨b,o+1,none⟩).isSome=true):=by simp[cA]
theorem Wc(W:World)(b o:Nat):cA W b o 3=((W.cell? ⟨b,o,none⟩).isSome=true/\(W.cell? ⟨b,o+1,none⟩).isSome=true/\(W.cell? ⟨b,o+2,none⟩).isSome=true):=by simp[cA]
theorem VW(W:World)(b o:Nat):cA W b o 4=((W.cell? ⟨b,o,none⟩).isSome=true/\(W.cell? ⟨b,o+1,none⟩).isSome=true/\(W.cell? ⟨b,o+2,none⟩).isSome=true/\(W.cell? ⟨b,o+3,none⟩).isSome=true):=by simp[cA]
theorem V6(e e' : TypeId):((some (TypeDesc.slice e):Option TypeDesc)=some (.slice e'))=(e=e'):=by simp
theorem Wj(e:TypeId):(∃ e',(some (TypeDesc.slice e):Option TypeDesc)=some (.slice e'))=True:=by simp
theorem uR(i:Nat)(vs:Array Value):dM i [.v (.tuple vs)]=⟨i<vs.size,.v (vs.getD i undef),[],none,[],[]⟩:=rfl
theorem MC(b:Builtin)(as_:Array Operand)(tys:Array TypeId):Call.operands { callee:=.builtin b,args:=as_,argTypes:=tys }=as_:=by simp[Call.operands]
theorem Nu(f:Operand)(as_:Array Operand)(tys:Array TypeId):(Call.operands { callee:=.value f,args:=as_,argTypes:=tys }).toList=f::as_.toList:=by simp[Call.operands]
theorem Ml(f:Operand)(n:String)(as_:Array Operand)(tys:Array TypeId):(Call.operands { callee:=.invoke f n,args:=as_,argTypes:=tys }).toList=f::as_.toList:=by simp[Call.operands]
def Ps{P:Program}{f:FuncId}(W:World)(bs:List Nat)(κ:Nat)(h:Hp)(l:List SV):Option (Spec P f)->R
 |some s=>s.ev W bs κ h l
 |none=>.bad
theorem a6{P:Program}{W:World}{bs:List Nat}{κ:Nat}{h:Hp}(Γ:Env P)(f:FuncId)(l:List SV):lB Γ W bs κ h f l=Ps W bs κ h l (Γ.sp f):=by
 simp only[lB,Ps];cases Γ.sp f<;>rfl
theorem aw{P:Program}{f:FuncId}(W:World)(bs:List Nat)(κ:Nat)(h:Hp)(l:List SV)(s:Spec P f):Ps W bs κ h l (some s)=s.ev W bs κ h l:=rfl
theorem aD{P:Program}{f:FuncId}(p:bu P f)(W:World)(bs:List Nat)(κ:Nat)(h:Hp)(l:List SV):p.spec.ev W bs κ h l=DS p.pre p.res W bs (ay h l):=rfl
theorem TG{P:Program}{f:FuncId}(p:Jl P f)(W:World)(bs:List Nat)(κ:Nat)(h:Hp)(l:List SV):p.spec.ev W bs κ h l=E9 κ p.T p.s p.pre p.n p.vs p.tm W bs (ay h l):=rfl
theorem SA{P:Program}{W:World}{bs:List Nat}{σ:St}:ia P W bs σ []=(True,[]):=rfl
theorem Mm{P:Program}{W:World}{bs:List Nat}{σ:St}(r:ResultVar)(l:List ResultVar):ia P W bs σ (r::l)=evC (jF P W bs σ r) (ia P W bs σ l):=rfl
def abN:FV->Prop×SV
 |.is x=>(True,x)
 |.cnd b x=>(b=true,x)
 |.any=>(False,.v undef)
theorem Hj{P:Program}{W:World}{bs:List Nat}{σ:St}(t:Nat):jF P W bs σ (.tmp t)=abN (σ.φ t):=by
 simp only[jF,abN]
 all_goals cases σ.φ t<;>rfl
theorem Ub(x:SV):abN (.is x)=(True,x):=rfl
def Qb(P:Program)(W:World)(bs:List Nat)(h:Hp)(T:TypeId):FV->Prop×SV
 |.is (.own k o)=>resR (cK P W bs h T [.own k o])
 |_=>(False,.v undef)
where resR (r:R):Prop×SV:=(r.side,r.val)
theorem EL{P:Program}{W:World}{bs:List Nat}{σ:St}(t:Nat)(T:TypeId):jF P W bs σ (.cell t T)=Qb P W bs σ.h T (σ.φ t):=by
 simp only[jF,Qb];rcases σ.φ t with x|⟨b,x⟩|_
 ·cases x<;>rfl
 ·rfl
 ·rfl
theorem SP{P:Program}{W:World}{bs:List Nat}{h:Hp}(T:TypeId)(k o:Nat):Qb P W bs h T (.is (.own k o))=Qb.resR (cK P W bs h T [.own k o]):=rfl
theorem Ue(side:Prop)(val:SV)(u:List (Nat×Option aI))(pan:Option (List PanicEntry))(pupd reads:List Nat):Qb.resR ⟨side,val,u,pan,pupd,reads⟩=(side,val):=rfl
theorem LS(x:SV):jK [x]=x:=rfl
theorem Mn(x y:SV)(l:List SV):jK (x::y::l)=.tup (x::y::l):=rfl
def abE(R:World->List Nat->SV->Hp->Prop)(W:World)(bs:List Nat)(h:Hp)(x:Prop×List SV):Prop:=x.1/\R W bs (jK x.2) h
theorem nO{P:Program}{W:World}{bs:List Nat}{rs:List ResultVar}{R:World->List Nat->SV->Hp->Prop}{RP:List PanicEntry->Hp->Prop}{σ:St}:Fin P rs R RP .ret W bs σ=abE R W bs σ.h (ia P W bs σ rs):=rfl
theorem gW{P:Program}{W:World}{bs:List Nat}{rs:List ResultVar}{R:World->List Nat->SV->Hp->Prop}{RP:List PanicEntry->Hp->Prop}{σ:St}:Fin P rs R RP .normal W bs σ=abE R W bs σ.h (ia P W bs σ rs):=rfl
theorem YU(R:World->List Nat->SV->Hp->Prop)(W:World)(bs:List Nat)(h:Hp)(p:Prop)(l:List SV):abE R W bs h (p,l)=(p/\R W bs (jK l) h):=rfl
end
section
def ev4:=(aa @LO (aa @xF (aa @Yb (aa @MK (aa @Td (aa @KM (aa @FT (aa @aX (aa @Io (aa @Ix (aa @Oq @Ly)))))))))))
def ev5:=(aa @GV (aa @MR (aa @TV (aa @KE (aa @DC (aa @O7 (aa @LD (aa @yO (aa @G8 (aa @IG (aa @MU (aa @D5 (aa @KO (aa @HJ (aa @KD (aa @PN (aa @MX (aa @yO (aa @Ig (aa @Qh (aa @L7 (aa @IF (aa @Sk (aa @KW (aa @XJ (aa @Xz (aa @XZ (aa @XD (aa @Vc (aa @Ug (aa @Wc (aa @VW (aa @V6 (aa @Wj (aa @uR (aa @MC (aa @Nu (aa @Ml (aa @a6 (aa @aw (aa @aD (aa @TG (aa @SA (aa @Mm (aa @Hj (aa @Ub (aa @EL (aa @SP (aa @Ue (aa @LS (aa @Mn (aa @nO (aa @gW @YU)))))))))))))))))))))))))))))))))))))))))))))))))))))
end
end Go.LE
namespace Go.Proofs.YtnemkecffmdlnaaGreatDoor
section
theorem kR{p:Prop}(h:p:=by kernel_rfl):p:=h
open Go.RowKit Go.LE Go.Proofs.Tryz
theorem cr:prog.follows .mixedOrders=true:=kR
theorem lP:ts prog 0=some 1:=kR
theorem lM:ta prog 0=some false:=kR
theorem QW:ts prog 1=some 1:=kR
theorem Py:ta prog 1=some false:=kR
theorem OU:tz prog 1=some [Value.nilFunc]:=kR
theorem ty5:ts prog 2=some 1:=kR
theorem ty6:ta prog 2=some false:=kR
theorem ty7:tz prog 2=some [Value.int IntKind.i64 0]:=kR
theorem ty8:Program.underlying prog 2=some (.int IntKind.i64):=kR
theorem lA:ts prog 3=some 1:=kR
theorem dI:ta prog 3=some false:=kR
theorem dK:qI prog 3=some 8:=kR
theorem dJ:tz prog 3=some [Value.int IntKind.i64 0]:=kR
theorem dG:Program.underlying prog 3=some (.int IntKind.i64):=kR
theorem dr:ts prog 4=some 1:=kR
theorem dt:ta prog 4=some false:=kR
theorem du:tz prog 4=some [Value.bool false]:=kR
theorem dq:Program.underlying prog 4=some .bool:=kR
theorem mJ:ts prog 5=some 1:=kR
theorem mh:ta prog 5=some false:=kR
theorem mG:qI prog 5=some 1:=kR
theorem mT:tz prog 5=some [Value.int IntKind.u8 0]:=kR
theorem mf:Program.underlying prog 5=some (.int IntKind.u8):=kR
theorem fq:ts prog 9=some 1:=kR
theorem fu:ta prog 9=some false:=kR
theorem ft:qI prog 9=some 16:=kR
theorem fh:tz prog 9=some [Value.string { data:=#[] }]:=kR
theorem ff:Program.underlying prog 9=some .string:=kR
theorem fm:Program.concrete prog 9=true:=kR
theorem TM:ts prog 20=some 1:=kR
theorem PY:ta prog 20=some false:=kR
theorem Qf:tz prog 20=some [Value.nilIface]:=kR
theorem Ti:isIface prog 20=some true:=kR
theorem wA:ts prog 22=some 1:=kR
theorem xW:ta prog 22=some false:=kR
theorem vm:tz prog 22=some [Value.slice none 0 0]:=kR
theorem vT:Program.underlying prog 22=some (.slice 9):=kR
theorem aeX:ts prog 23=some 1:=kR
theorem ae2:ta prog 23=some false:=kR
theorem aeI:tz prog 23=some [Value.slice none 0 0]:=kR
theorem afa:Program.underlying prog 23=some (.slice 82):=kR
theorem acv:ts prog 25=some 5:=kR
theorem acF:ta prog 25=some true:=kR
theorem acT:tz prog 25=some [Value.slice none 0 0,Value.slice none 0 0,Value.slice none 0 0,Value.int IntKind.i64 0,Value.int IntKind.i64 0]:=kR
theorem ad2:pI prog 25=some [(0,1),(1,1),(2,1),(3,1),(4,1)]:=kR
theorem acu:tf prog 25 0=some (0,1,false):=kR
theorem acJ:tf prog 25 1=some (1,1,false):=kR
theorem adg:tf prog 25 2=some (2,1,false):=kR
theorem adp:tf prog 25 3=some (3,1,false):=kR
theorem adt:tf prog 25 4=some (4,1,false):=kR
theorem Cb:ts prog 27=some 1:=kR
theorem Bw:ta prog 27=some false:=kR
theorem Az:tz prog 27=some [Value.slice none 0 0]:=kR
theorem B7:Program.underlying prog 27=some (.slice 50):=kR
theorem s6:ts prog 29=some 5:=kR
theorem tN:ta prog 29=some true:=kR
theorem sZ:tz prog 29=some [Value.slice none 0 0,Value.slice none 0 0,Value.slice none 0 0,Value.int IntKind.i64 0,Value.int IntKind.i64 0]:=kR
theorem tu:pI prog 29=some [(0,1),(1,1),(2,1),(3,1),(4,1)]:=kR
theorem tp:tf prog 29 0=some (0,1,false):=kR
theorem tO:tf prog 29 1=some (1,1,false):=kR
theorem tj:tf prog 29 2=some (2,1,false):=kR
theorem tM:tf prog 29 3=some (3,1,false):=kR
theorem s3:tf prog 29 4=some (4,1,false):=kR
theorem acA:ts prog 33=some 1:=kR
theorem acS:ta prog 33=some false:=kR
theorem adB:tz prog 33=some [Value.slice none 0 0]:=kR
theorem acW:Program.underlying prog 33=some (.slice 85):=kR
theorem aag:ts prog 35=some 5:=kR
theorem aaz:ta prog 35=some true:=kR
theorem aa0:tz prog 35=some [Value.slice none 0 0,Value.slice none 0 0,Value.slice none 0 0,Value.int IntKind.i64 0,Value.int IntKind.i64 0]:=kR
theorem ZV:pI prog 35=some [(0,1),(1,1),(2,1),(3,1),(4,1)]:=kR
theorem aaT:tf prog 35 0=some (0,1,false):=kR
theorem Z9:tf prog 35 1=some (1,1,false):=kR
theorem ZY:tf prog 35 2=some (2,1,false):=kR
theorem abz:tf prog 35 3=some (3,1,false):=kR
theorem ab9:tf prog 35 4=some (4,1,false):=kR
theorem Sa:ts prog 37=some 1:=kR
theorem Qq:ta prog 37=some false:=kR
theorem Sz:tz prog 37=some [Value.int IntKind.i64 0]:=kR
theorem S8:Program.underlying prog 37=some (.int IntKind.i64):=kR
theorem vC:ts prog 39=some 3:=kR
theorem vF:ta prog 39=some true:=kR
theorem vv:AG prog 39=some (.agg #[Value.int IntKind.i64 0,Value.int IntKind.i64 0,Value.string { data:=#[] }]):=kR
theorem uD:tz prog 39=some [Value.int IntKind.i64 0,Value.int IntKind.i64 0,Value.string { data:=#[] }]:=kR
theorem uL:pI prog 39=some [(0,1),(1,1),(2,1)]:=kR
theorem uA:isIface prog 39=some false:=kR
theorem xM:Program.concrete prog 39=true:=kR
theorem xm:tf prog 39 0=some (0,1,false):=kR
theorem vS:tf prog 39 1=some (1,1,false):=kR
theorem vU:tf prog 39 2=some (2,1,false):=kR
theorem vb:ts prog 50=some 4:=kR
theorem vP:ta prog 50=some true:=kR
theorem uN:qI prog 50=some 32:=kR
theorem yb:tz prog 50=some [Value.int IntKind.i64 0,Value.int IntKind.i64 0,Value.int IntKind.i64 0,Value.int IntKind.i64 0]:=kR
theorem vV:pI prog 50=some [(0,1),(1,1),(2,1),(3,1)]:=kR
theorem u5:tf prog 50 0=some (0,1,false):=kR
theorem xo:tf prog 50 1=some (1,1,false):=kR
theorem xZ:tf prog 50 2=some (2,1,false):=kR
theorem mU:tf prog 50 3=some (3,1,false):=kR
theorem ac2:ts prog 64=some 2:=kR
theorem adP:ta prog 64=some true:=kR
theorem adU:tz prog 64=some [Value.slice none 0 0,Value.int IntKind.i64 0]:=kR
theorem acY:pI prog 64=some [(0,1),(1,1)]:=kR
theorem adI:tf prog 64 0=some (0,1,false):=kR
theorem acR:tf prog 64 1=some (1,1,false):=kR
theorem adj:ts prog 82=some 4:=kR
theorem ac0:ta prog 82=some true:=kR
theorem ac6:qI prog 82=some 32:=kR
theorem ada:tz prog 82=some [Value.int IntKind.i64 0,Value.int IntKind.i64 0,Value.int IntKind.i64 0,Value.int IntKind.i64 0]:=kR
theorem aec:pI prog 82=some [(0,1),(1,1),(2,1),(3,1)]:=kR
theorem adl:tf prog 82 0=some (0,1,false):=kR
theorem acs:tf prog 82 1=some (1,1,false):=kR
theorem adn:tf prog 82 2=some (2,1,false):=kR
theorem adK:tf prog 82 3=some (3,1,false):=kR
theorem Zr:ts prog 85=some 4:=kR
theorem Zm:ta prog 85=some true:=kR
theorem ZR:qI prog 85=some 32:=kR
theorem Y7:tz prog 85=some [Value.int IntKind.i64 0,Value.int IntKind.i64 0,Value.int IntKind.i64 0,Value.int IntKind.i64 0]:=kR
theorem Y1:pI prog 85=some [(0,1),(1,1),(2,1),(3,1)]:=kR
theorem ZI:tf prog 85 0=some (0,1,false):=kR
theorem Zf:tf prog 85 1=some (1,1,false):=kR
theorem Zs:tf prog 85 2=some (2,1,false):=kR
theorem Za:tf prog 85 3=some (3,1,false):=kR
theorem PC:ts prog 89=some 1:=kR
theorem Ry:ta prog 89=some false:=kR
theorem Ty:tz prog 89=some [Value.slice none 0 0]:=kR
theorem SD:Program.underlying prog 89=some (.slice 5):=kR
theorem ad4:ts prog 91=some 2:=kR
theorem acr:ta prog 91=some true:=kR
theorem adh:tz prog 91=some [Value.pointer none,Value.slice none 0 0]:=kR
theorem acw:pI prog 91=some [(0,1),(1,1)]:=kR
theorem ady:tf prog 91 0=some (0,1,false):=kR
theorem adR:tf prog 91 1=some (1,1,false):=kR
theorem Oo:ts prog 93=some 1:=kR
theorem PD:ta prog 93=some false:=kR
theorem RH:tz prog 93=some [Value.nilIface]:=kR
theorem Q2:isIface prog 93=some true:=kR
theorem adE:ts prog 94=some 1:=kR
theorem ac1:ta prog 94=some false:=kR
theorem ad3:ts prog 96=some 1:=kR
theorem aeb:ta prog 96=some false:=kR
theorem adV:tz prog 96=some [Value.nilFunc]:=kR
theorem adG:ts prog 145=some 1:=kR
theorem acX:ta prog 145=some false:=kR
theorem adX:ts prog 149=some 1:=kR
theorem acO:ta prog 149=some false:=kR
theorem adF:tz prog 149=some [Value.slice none 0 0]:=kR
theorem ad7:Program.underlying prog 149=some (.slice 3):=kR
theorem sw:ts prog 151=some 1:=kR
theorem sS:ta prog 151=some false:=kR
theorem sO:tz prog 151=some [Value.nilIface]:=kR
theorem sN:isIface prog 151=some true:=kR
theorem ad9:ts prog 152=some 1:=kR
theorem adi:ta prog 152=some false:=kR
theorem Ex:ts prog 156=some 1:=kR
theorem EF:ta prog 156=some false:=kR
theorem Dl:tz prog 156=some [Value.int IntKind.i64 0]:=kR
theorem Dq:Program.underlying prog 156=some (.int IntKind.i64):=kR
theorem RZ:ts prog 160=some 4:=kR
theorem Tl:ta prog 160=some true:=kR
theorem PR:tz prog 160=some [Value.string { data:=#[] },Value.bool false,Value.int IntKind.i64 0,Value.int IntKind.i64 0]:=kR
theorem Ql:pI prog 160=some [(0,1),(1,1),(2,1),(3,1)]:=kR
theorem Q6:tf prog 160 0=some (0,1,false):=kR
theorem Tn:tf prog 160 1=some (1,1,false):=kR
theorem Oj:tf prog 160 2=some (2,1,false):=kR
theorem Pd:tf prog 160 3=some (3,1,false):=kR
theorem Sc:ts prog 161=some 84:=kR
theorem TJ:ta prog 161=some true:=kR
theorem Sx:Program.underlying prog 161=some (.array 21 160):=kR
theorem ov:ts prog 203=some 1:=kR
theorem oQ:ta prog 203=some false:=kR
theorem oN:tz prog 203=some [Value.int IntKind.u64 0]:=kR
theorem oP:Program.underlying prog 203=some (.int IntKind.u64):=kR
theorem xQ:ts prog 249=some 1:=kR
theorem uE:ta prog 249=some false:=kR
theorem w8:tz prog 249=some [Value.pointer none]:=kR
theorem vf:jH prog 249=some true:=kR
theorem uX:Program.underlying prog 249=some (.pointer 251):=kR
theorem x7:ts prog 251=some 3:=kR
theorem xp:ta prog 251=some true:=kR
theorem uP:tz prog 251=some [Value.string { data:=#[] },Value.int IntKind.i64 0,Value.slice none 0 0]:=kR
theorem uM:pI prog 251=some [(0,1),(1,1),(2,1)]:=kR
theorem uT:tf prog 251 0=some (0,1,false):=kR
theorem wU:tf prog 251 1=some (1,1,false):=kR
theorem wo:tf prog 251 2=some (2,1,false):=kR
theorem JF:ts prog 252=some 1:=kR
theorem IN:ta prog 252=some false:=kR
theorem Je:tz prog 252=some [Value.nilFunc]:=kR
theorem pM:ts prog 254=some 2:=kR
theorem qs:ta prog 254=some true:=kR
theorem qm:tz prog 254=some [Value.int IntKind.i64 0,Value.nilFunc]:=kR
theorem pR:pI prog 254=some [(0,1),(1,1)]:=kR
theorem qv:tf prog 254 0=some (0,1,false):=kR
theorem pZ:tf prog 254 1=some (1,1,false):=kR
theorem SU:ts prog 279=some 1:=kR
theorem Sy:ta prog 279=some true:=kR
theorem QX:AG prog 279=some (.agg #[Value.nilIface]):=kR
theorem RX:tz prog 279=some [Value.nilIface]:=kR
theorem R2:pI prog 279=some [(0,1)]:=kR
theorem On:isIface prog 279=some false:=kR
theorem TL:Program.concrete prog 279=true:=kR
theorem QA:tf prog 279 0=some (0,1,false):=kR
theorem P6:ts prog 281=some 2:=kR
theorem Pm:ta prog 281=some true:=kR
theorem Tw:AG prog 281=some (.agg #[Value.nilIface,Value.nilIface]):=kR
theorem Tx:tz prog 281=some [Value.nilIface,Value.nilIface]:=kR
theorem Tt:pI prog 281=some [(0,1),(1,1)]:=kR
theorem N8:isIface prog 281=some false:=kR
theorem Sg:Program.concrete prog 281=true:=kR
theorem Po:tf prog 281 0=some (0,1,false):=kR
theorem TB:tf prog 281 1=some (1,1,false):=kR
theorem Jj:ts prog 283=some 0:=kR
theorem IW:ta prog 283=some true:=kR
theorem JT:AG prog 283=some (.agg #[]):=kR
theorem J0:tz prog 283=some []:=kR
theorem Jo:pI prog 283=some []:=kR
theorem IL:isIface prog 283=some false:=kR
theorem JX:Program.concrete prog 283=true:=kR
theorem PM:ts prog 284=some 2:=kR
theorem S9:ta prog 284=some true:=kR
theorem P5:AG prog 284=some (.agg #[Value.nilIface,Value.nilIface]):=kR
theorem Sv:tz prog 284=some [Value.nilIface,Value.nilIface]:=kR
theorem S4:pI prog 284=some [(0,1),(1,1)]:=kR
theorem Rs:isIface prog 284=some false:=kR
theorem OL:Program.concrete prog 284=true:=kR
theorem O3:tf prog 284 0=some (0,1,false):=kR
theorem Ra:tf prog 284 1=some (1,1,false):=kR
theorem RE:ts prog 285=some 2:=kR
theorem Og:ta prog 285=some true:=kR
theorem Tm:AG prog 285=some (.agg #[Value.nilIface,Value.nilIface]):=kR
theorem TP:tz prog 285=some [Value.nilIface,Value.nilIface]:=kR
theorem Qg:pI prog 285=some [(0,1),(1,1)]:=kR
theorem Sj:isIface prog 285=some false:=kR
theorem SZ:Program.concrete prog 285=true:=kR
theorem PU:tf prog 285 0=some (0,1,false):=kR
theorem Pf:tf prog 285 1=some (1,1,false):=kR
theorem SN:ts prog 286=some 2:=kR
theorem Q4:ta prog 286=some true:=kR
theorem Q5:AG prog 286=some (.agg #[Value.nilIface,Value.nilIface]):=kR
theorem Qi:tz prog 286=some [Value.nilIface,Value.nilIface]:=kR
theorem Om:pI prog 286=some [(0,1),(1,1)]:=kR
theorem SJ:isIface prog 286=some false:=kR
theorem Ot:Program.concrete prog 286=true:=kR
theorem QD:tf prog 286 0=some (0,1,false):=kR
theorem Tg:tf prog 286 1=some (1,1,false):=kR
theorem yK:ts prog 307=some 1:=kR
theorem yS:ta prog 307=some false:=kR
theorem yM:tz prog 307=some [Value.nilFunc]:=kR
theorem sD:ts prog 309=some 4:=kR
theorem sX:ta prog 309=some true:=kR
theorem sE:tz prog 309=some [Value.int IntKind.u64 0,Value.int IntKind.u64 0,Value.int IntKind.u64 0,Value.int IntKind.u64 0]:=kR
theorem sH:Program.underlying prog 309=some (.array 4 203):=kR
theorem Zn:ts prog 311=some 4:=kR
theorem Zc:ta prog 311=some true:=kR
theorem ZO:AG prog 311=some (.agg #[Value.int IntKind.u64 0,Value.int IntKind.u64 0,Value.int IntKind.u64 0,Value.int IntKind.u64 0]):=kR
theorem ZF:tz prog 311=some [Value.int IntKind.u64 0,Value.int IntKind.u64 0,Value.int IntKind.u64 0,Value.int IntKind.u64 0]:=kR
theorem Zu:pI prog 311=some [(0,4)]:=kR
theorem Zp:isIface prog 311=some false:=kR
theorem Zx:Program.concrete prog 311=true:=kR
theorem Y8:tf prog 311 0=some (0,4,true):=kR
theorem JY:ts prog 326=some 1:=kR
theorem Ky:ta prog 326=some false:=kR
theorem ZQ:ts prog 355=some 2:=kR
theorem Zq:ta prog 355=some true:=kR
theorem Y4:tz prog 355=some [Value.int IntKind.u8 0,Value.int IntKind.u8 0]:=kR
theorem Zg:pI prog 355=some [(0,1),(1,1)]:=kR
theorem ZC:tf prog 355 0=some (0,1,false):=kR
theorem Zv:tf prog 355 1=some (1,1,false):=kR
theorem Y9:ts prog 356=some 6:=kR
theorem ZN:ta prog 356=some true:=kR
theorem Ze:tz prog 356=some [Value.int IntKind.u8 0,Value.int IntKind.u8 0,Value.int IntKind.u8 0,Value.int IntKind.u8 0,Value.int IntKind.u8 0,Value.int IntKind.u8 0]:=kR
theorem ZD:Program.underlying prog 356=some (.array 3 355):=kR
theorem ads:ts prog 361=some 1:=kR
theorem adT:ta prog 361=some false:=kR
theorem Kb:ts prog 373=some 1:=kR
theorem JV:ta prog 373=some false:=kR
theorem Jh:tz prog 373=some [Value.pointer none]:=kR
theorem J4:jH prog 373=some true:=kR
theorem JE:Program.underlying prog 373=some (.pointer 375):=kR
theorem Ju:ts prog 375=some 2:=kR
theorem Jx:ta prog 375=some true:=kR
theorem I0:tz prog 375=some [Value.string { data:=#[] },Value.int IntKind.i64 0]:=kR
theorem Jk:pI prog 375=some [(0,1),(1,1)]:=kR
theorem Kv:tf prog 375 0=some (0,1,false):=kR
theorem Jz:tf prog 375 1=some (1,1,false):=kR
end
end Go.Proofs.YtnemkecffmdlnaaGreatDoor
namespace Go.LE
section
open Go.RowKit
def kt(w:World)(ao:Option Addr)(vs:List Value):Prop:=
 vs=[]\/∃ b o,ao=some ⟨b,o,none⟩/\∀ j (h:j<vs.length),w.cell? ⟨b,o+j,none⟩=some vs[j]
theorem ab.aeM{W:World}{bs:List Nat}{E:Nat->Value}{F:Nat->List Nat}{h:Nat->Option aI}{w w' : World}{k:Nat}{e:aI}(hs:ab W bs E F h w)(hk:h k=some e)(hkeep:af w (F k) w') :
  ab W bs E F (a7 h k none) w' := by
 have old:∀ j x,a7 h k none j=some x->h j=some x/\j≠k:=λj x hj=>by
  by_cases hjk:j=k
  ·subst hjk;rw[ai]at hj;cases hj
  ·rw[aj _ _ hjk]at hj;exact⟨hj,hjk⟩
 refine⟨λj x hj=>?_,λj x hj b hb=>Nat.lt_of_lt_of_le (hs.lt j x (old j x hj).1 b hb) hkeep.size,λj x hj=>hs.mine j x (old j x hj).1,λi j x y hij hi hj=>hs.apart i j x y hij (old i x hi).1 (old j y hj).1,?_⟩
 ·obtain⟨hj,hne⟩:=old j x hj;exact gw (hs.ent j x hj) λb hb=>hkeep.block b (hs.lt j x hj b hb) λhb' => hs.apart j k x e hne hj hk b hb hb'
 ·exact hs.keeps.trans hkeep λb hb hlt=>(hs.mine k e hk b hb).resolve_left oM
theorem Le.conv{W:World}{bs:List Nat}{nt:Nat}{ds:Aux}{σ:St}{k:Nat}{e e' : aI}(hk:σ.h k=some e)(he:∀ E u fp w,aZ E u fp w e->aZ E u fp w e')(hkeys:∀ j∈e'.keys,j∈e.keys) :
  Le W bs nt ds σ ⟨σ.n,σ.φ,a7 σ.h k (some e')⟩:=by
 rintro a w ⟨⟨E,F,hφ,hs,hp⟩,h1,h2,h3,h4,h5⟩;have old:∀ j x,a7 σ.h k (some e') j=some x->∃ y,σ.h j=some y/\((j=k/\x=e')\/x=y):=λj x hj=>by
  by_cases hjk:j=k
  ·subst hjk;rw[ai]at hj;cases hj;exact⟨e,hk,.inl ⟨rfl,rfl⟩⟩
  ·rw[aj _ _ hjk]at hj;exact⟨x,hj,.inr rfl⟩
 refine⟨⟨E,F,hφ,⟨λj x hj=>?_,λj x hj=>?_,λj x hj=>?_,λi j x y hij hi hj=>?_,hs.keeps⟩,hp⟩,h1,h2,h3,h4,λj x hj=>?_⟩
 ·obtain⟨y,hy,h⟩:=old j x hj;rcases h with ⟨rfl,rfl⟩|rfl
  ·rw[hk]at hy;cases hy;exact he _ _ _ _ (hs.ent j e hk)
  ·exact hs.ent j x hy
 ·obtain⟨y,hy,_⟩:=old j x hj;exact hs.lt j y hy
 ·obtain⟨y,hy,_⟩:=old j x hj;exact hs.mine j y hy
 ·obtain⟨x',hx',_⟩:=old i x hi;obtain⟨y',hy',_⟩:=old j y hj;exact hs.apart i j x' y' hij hx' hy'
 ·obtain⟨y,hy,h⟩:=old j x hj;rcases h with ⟨rfl,rfl⟩|rfl
  ·rw[hk]at hy;cases hy;exact⟨(h5 j e hk).1,λi hi=>(h5 j e hk).2 i (hkeys i hi)⟩
  ·exact h5 j x hy
def bV(W:World)(S:Nat->Prop)(W' : World)(S' : Nat->Prop):Prop:=∀ b,b<W.heap.size->S b->W'.heap[b]?=W.heap[b]?/\S' b
theorem bV.refl(W:World)(S:Nat->Prop):bV W S W S:=λ_ _ h=>⟨rfl,h⟩
theorem bV.trans{W W' W'' : World}{S S' S'' : Nat->Prop}(h:bV W S W' S')(h' : bV W' S' W'' S'')(hsz:W.heap.size<=W'.heap.size):bV W S W'' S'' := λb hb hs=>by
 obtain⟨h1,h2⟩:=h b hb hs;obtain⟨h3,h4⟩:=h' b oM h2;exact⟨h3.trans h1,h4⟩
def Out(bs:List Nat):Nat->Prop:=λb=>b∉bs
theorem Ext.fe{W W' : World}{bs bs' : List Nat}(h:Ext W bs W' bs'):bV W (Out bs) W' (Out bs'):=λb hb hs=>
 ⟨h.keeps.block b hb hs,λhb' => (h.sub b hb').elim (λh1=>by omega) hs⟩
theorem af.fe{W w:World}{bs:List Nat}(h:af W bs w):bV W (Out bs) w (Out bs):=λb hb hs=>⟨h.block b hb hs,hs⟩
def XC(W:World)(S:Nat->Prop)(b o:Nat)(v:Value):Prop:=S b/\W.cell? ⟨b,o,none⟩=some v
theorem XC.mono{W W' : World}{S S' : Nat->Prop}{b o:Nat}{v:Value}(h:XC W S b o v)(hs:bV W S W' S'):XC W' S' b o v:=by
 have hlt:=World.block_lt_of_cell? W _ h.2;obtain⟨h1,h2⟩:=hs b hlt h.1;exact⟨h2,by rw[<- h.2];exact World.cell?_of_block h1⟩
def iK(W:World)(S:Nat->Prop)(ao:Option Addr)(vs:List Value):Prop:=vs=[]\/∃ b o,ao=some ⟨b,o,none⟩/\∀ j (h:j<vs.length),XC W S b (o+j) vs[j]
theorem iK.mono{W W' : World}{S S' : Nat->Prop}{ao:Option Addr}{vs:List Value}(h:iK W S ao vs)(hs:bV W S W' S'):iK W' S' ao vs:=by
 rcases h with h|⟨b,o,h1,h2⟩
 ·exact .inl h
 ·exact .inr ⟨b,o,h1,λj hj=>(h2 j hj).mono hs⟩
theorem iK.is{W:World}{S:Nat->Prop}{ao:Option Addr}{vs:List Value}(h:iK W S ao vs):kt W ao vs:=by
 rcases h with h|⟨b,o,h1,h2⟩
 ·exact .inl h
 ·exact .inr ⟨b,o,h1,λj hj=>(h2 j hj).2⟩
theorem iK.RD{W:World}{ao:Option Addr}{vs:List Value}(h:kt W ao vs):iK W (λ_=>True) ao vs:=by
 rcases h with h|⟨b,o,h1,h2⟩
 ·exact .inl h
 ·exact .inr ⟨b,o,h1,λj hj=>⟨trivial,h2 j hj⟩⟩
theorem iK.out{W:World}{ao:Option Addr}{vs:List Value}{S S' : Nat->Prop}(h:iK W S ao vs)(hs:∀ b,S b->S' b):iK W S' ao vs:=h.mono λb _ hb=>⟨rfl,hs b hb⟩
theorem iK.take{W:World}{S:Nat->Prop}{ao:Option Addr}{vs ws:List Value}(h:iK W S ao (vs++ws)):iK W S ao vs:=by
 rcases h with h|⟨b,o,h1,h2⟩
 ·exact .inl (by simp at h;exact h.1)
 ·refine .inr ⟨b,o,h1,λj hj=>?_⟩;have:=h2 j (by simp;omega)
  rwa [List.getElem_append_left hj]at this
def YC(E:Nat->Value):FV->FV->Prop
 |.is x,.is y=>den E x=den E y
 |.cnd b x,.cnd c y=>b=c/\(b=true->den E x=den E y)
 |.cnd b x,.is y=>b=true/\den E x=den E y
 |_,.any=>True
 |_,_=>False
def abe(E:Nat->Value)(φ:Fr):List (Nat×FV)->Prop
 |[]=>True
 |(t,x)::r=>YC E (φ t) x/\abe E φ r
theorem KJ{E:Nat->Value}{x y:FV}{u:Value}(h:YC E x y)(hf:fits E x u):fits E y u:=by
 cases x<;>cases y<;>simp only[YC]at h<;>first|exact h.elim|trivial|skip
 ·simp only[fits]at hf ⊢;rw[hf,h]
 ·obtain⟨rfl,h⟩:=h;simp only[fits,cond_true]at hf ⊢;rw[hf,h]
 ·rename_i b x c y;obtain⟨rfl,h⟩:=h;cases b with
  |false=>exact hf
  |true=>simp only[fits,cond_true]at hf ⊢;rw[hf,h rfl]
theorem CX{E:Nat->Value}{φ:Fr}:∀ {L:List (Nat×FV)},abe E φ L->∀ p∈L,YC E (φ p.1) p.2
 |_::_,h,p,hp=>by
  rcases List.mem_cons.1 hp with rfl|hp
  ·exact h.1
  ·exact CX h.2 p hp
def JJ(E:Nat->Value):Option aI->aI->Prop
 |some (.cells T vs),.cells T' vs' => T=T' /\ ah E vs=ah E vs'
 |some (.row T s n vs),.row T' s' n' vs' => T=T' /\ s=s' /\ n=n' /\ ah E vs=ah E vs'
 |some (.obj d R),.obj d' R' => d=d' /\ R=R'
 |_,_=>False
def aba(E:Nat->Value)(h:Hp):List (Nat×aI)->Prop
 |[]=>True
 |(k,e)::r=>JJ E (h k) e/\aba E h r
theorem w9{E:Nat->Value}{h:Hp}:∀ {H:List (Nat×aI)},aba E h H->∀ p∈H,JJ E (h p.1) p.2
 |_::_,h,p,hp=>by
  rcases List.mem_cons.1 hp with rfl|hp
  ·exact h.1
  ·exact w9 h.2 p hp
theorem zD{E:Nat->Value}{u:Value}{fp:List Nat}{w:World}{h:Hp}{k:Nat}{e:aI}(he:JJ E (h k) e):∃ e0,h k=some e0/\(aZ E u fp w e0->aZ E u fp w e):=by
 cases hk:h k with
 |none=>rw[hk]at he;cases e<;>exact he.elim
 |some e0=>
  rw[hk]at he;refine⟨e0,rfl,λhs=>?_⟩;cases e0<;>cases e<;>simp only[JJ]at he<;>first|exact he.elim|skip
  ·obtain⟨rfl,h2⟩:=he;simp only[aZ,<- h2];exact hs
  ·obtain⟨rfl,rfl,rfl,h2⟩:=he;simp only[aZ,<- h2];exact hs
  ·obtain⟨rfl,rfl⟩:=he;exact hs
theorem Wp.freeze{P:Program}{W:World}{bs:List Nat}{nt:Nat}{ds:Aux}{c:Code}{Q:jZ}{σ:St}(n' : Nat)(ks:List Nat)(L:(Nat->Value)->List (Nat×FV))(H:(Nat->Value)->List (Nat×aI))
  (hks:∀ E,(H E).map (·.1)=ks) (hkb:∀ E,oz n' (L E) (H E)) (hf:∀ E,abe E σ.φ (L E)) (hh:∀ E,aba E σ.h (H E)) (hpn:∀ p∈ds.pins,p.1 / 8<n')
  (h:∀ W' bs' E F,Ext W bs W' bs' -> ab W bs E F σ.h W' -> (∀ k∈ks,∀ b∈F k,b∈bs')->(∀ k e,σ.h k=some e->k∉ks->∀ b∈F k,b∉bs')->Wp P W' bs' nt ds c Q ⟨n',cL (L E),cf (H E)⟩):Wp P W bs nt ds c Q σ:=by
 rintro a w ⟨⟨E,F,hφ,hs,hp⟩,hsz,hdf,_,_,_⟩;have own:∀ k∈ks,∃ e,σ.h k=some e:=λk hk=>by
  rw[<- hks E]at hk;obtain⟨p,hp,rfl⟩:=List.mem_map.1 hk;obtain⟨e0,h1,_⟩:=zD (u:=undef) (fp:=[]) (w:=w) (w9 (hh E) p hp);exact⟨e0,h1⟩
 have hx:Ext W bs w (ks.flatMap F):=⟨hs.keeps,λb hb=>by
  obtain⟨k,hk,hbk⟩:=List.mem_flatMap.1 hb
  obtain⟨e,he⟩:=own k hk
  exact hs.mine k e he b hbk⟩
 refine wp_mono (h w (ks.flatMap F) E F hx hs (λk hk b hb=>List.mem_flatMap.2 ⟨k,hk,hb⟩) (λk e hke hk b hb hb' => ?_) a w ?_) λe' a' w' hh' => nI hx hh'
 ·obtain⟨j,hj,hbj⟩:=List.mem_flatMap.1 hb';obtain⟨e2,he2⟩:=own j hj;exact hs.apart k j e e2 (λhkj=>hk (hkj ▸ hj)) hke he2 b hb hbj
 ·have at' : ∀ k e,cf (H E) k=some e->k∈ks/\∃ e0,σ.h k=some e0/\aZ E (E k) (F k) w e:=λk e he=>by
   have hm:=bK he;obtain⟨e0,h1,h2⟩:=zD (u:=E k) (fp:=F k) (w:=w) (w9 (hh E) _ hm);exact⟨by rw[<- hks E];exact List.mem_map.2 ⟨_,hm,rfl⟩,e0,h1,h2 (hs.ent k e0 h1)⟩
  refine⟨⟨E,F,λt=>?_,⟨λk e he=>(at' k e he).2.choose_spec.2,λk e he b hb=>?_,λk e he b hb=>.inr (List.mem_flatMap.2 ⟨k,(at' k e he).1,hb⟩),λk k' e e' hne he he' b hb=>?_,af.refl w _⟩,hp⟩,hsz,hdf,hpn,λt k hk' => ?_,λk e he=>?_⟩
  ·rcases gN (L:=L E) t with h|⟨p,hp,rfl,h⟩
   ·simp only[h];trivial
   ·simp only[h];exact KJ (CX (hf E) p hp) (hφ p.1)
  ·obtain⟨_,e0,h1,_⟩:=at' k e he;exact hs.lt k e0 h1 b hb
  ·obtain⟨_,e0,h1,_⟩:=at' k e he;obtain⟨_,e1,h2,_⟩:=at' k' e' he';exact hs.apart k k' e0 e1 hne h1 h2 b hb
  ·rcases gN (L:=L E) t with h|⟨p,hp,_,h⟩
   ·simp only[h]at hk';cases hk'
   ·simp only[h]at hk';exact (hkb E).1 p hp k hk'
  ·exact (hkb E).2 _ (bK he)
theorem dB{P:Program}{W:World}{bs:List Nat}{nt:Nat}{ds:Aux}{Q:jZ}{σ:St}{x y:Code}(σ' : St)(h1:Wp P W bs nt ds x (Th (λW' bs' σ1=>Le W' bs' nt ds σ1 σ') Q) σ)(h2:Wp P W bs nt ds y Q σ') :
  Wp P W bs nt ds (.seq x y) Q σ:=λa w hs=>
 wp_seq (wp_mono (h1 a w hs) λe a' w' ⟨W',bs',σ1,he,hq,hs'⟩=>by
  cases e with
  |normal=>exact h2 a' w' (Sat.back he (hq a' w' hs'))
  |_=>exact⟨W',bs',σ1,he,hq,hs'⟩)
def ZA(W:World)(bs bs' : List Nat):Nat->Prop:=λb=>b∉bs' /\ (W.heap.size<=b\/b∈bs)
theorem ZA.out{W:World}{bs bs' : List Nat}{b:Nat}(h:ZA W bs bs' b):Out bs' b:=h.1
theorem JR{W W' : World}{bs bs' : List Nat}{E:Nat->Value}{F:Nat->List Nat}{h:Hp}{k:Nat}{T:TypeId}{s n:Nat}{vs:List SV}(hs:ab W bs E F h W')(hk:h k=some (.row T s n vs))(hb:∀ b∈F k,b∉bs') :
  ∃ ao c,E k=.slice ao n c/\iK W' (ZA W bs bs') ao (ah E vs)/\n<=c:=by
 obtain⟨⟨hl,h⟩,hF⟩:=hs.ent k _ hk;rcases h with ⟨h1,rfl⟩|⟨g,cap,cur,h1,_,hh,hnc,_,hsz,htk⟩
 ·exact⟨none,0,h1,.inl (by simpa using hl),Nat.le_refl _⟩
 ·have hg:g∈F k:=by rw[hF,h1];simp[Value.ownBlock]
  refine⟨some ⟨g,0,none⟩,cap,h1,.inr ⟨g,0,rfl,λj hj=>⟨⟨hb g hg,hs.mine k _ hk g hg⟩,?_⟩⟩,hnc⟩;rw[Nat.zero_add];have hj' : j<n*s:=oM;have:(ah E vs)[j]?=cur[j]?:=by rw[<- htk,List.getElem?_take,if_pos hj'];simp
  simp only[World.cell?,hh];rw[<- this,List.getElem?_eq_getElem hj];rfl
theorem iK.grow{W W' : World}{bs' : List Nat}{ao:Option Addr}{vs:List Value}{S:Nat->Prop}(h:iK W' (ZA W [] bs') ao vs):iK W' (λb=>(b<W.heap.size->S b)/\b∉bs') ao vs:=
 h.out λb hb=>⟨λhlt=>absurd (hb.2.resolve_right sI) (Nat.not_le.2 hlt),hb.1⟩
def cW(cs:List Value):Value:=.iface 0 (.agg cs.toArray)
theorem BL(cs:List Value)(i:Nat):D1 (cW cs) i=cs.getD i .nilIface:=by simp[D1,cW,Array.getD_eq_getD_getElem?,List.getD_eq_getElem?_getD]
def Grow(w:World)(S:Nat->Prop):Nat->Prop:=λb=>b<w.heap.size->S b
def J9(W:World)(bs:List Nat)(Φ:List Value->World->(Nat->Prop)->Prop):List Value->Value->List Nat->World->Prop:=λ_ u fp w=>
 ∃ cs,u=cW cs/\∀ W₂ S₂,(∀ b,b<W.heap.size->b∉bs->W₂.heap[b]?=W.heap[b]?/\S₂ b)->(∀ b∈fp,W₂.heap[b]?=w.heap[b]?/\S₂ b)->Φ cs W₂ S₂
structure Ta (P:Program)(f:FuncId) where
 pre:List AV->World->(Nat->Prop)->Prop
 tm:Nat->SV
 Φ:List AV->List Value->World->(Nat->Prop)->Prop
 premono:∀ as_ W S W' S',bV W S W' S' -> pre as_ W S->pre as_ W' S'
 mono:∀ as_ cs W S W' S',bV W S W' S' -> Φ as_ cs W S->Φ as_ cs W' S'
 tmg:∀ E k,den E (tm k)=den (λ_=>E k) (tm 0)
 tmk:∀ k,∀ j∈(tm k).keys,j=k
 enters:∀ args w,(callFunc f args).run P w=.ok (.enter f args) w
 ok:∀ (w:World) (S:Nat->Prop) (us:List Value) (as_:List AV),eJ w us as_->pre as_ w S->Calls P f us.toArray w λe w' => ∃ cs,e=.returned (den (λ_=>cW cs) (tm 0))/\Φ as_ cs w' (Grow w S)/\af w [] w'
def Old(W:World)(bs:List Nat):Nat->Prop:=λb=>b<W.heap.size/\b∉bs
def DP(κ:Nat)(pre:List AV->World->(Nat->Prop)->Prop)(tm:Nat->SV)(Φ:List AV->List Value->World->(Nat->Prop)->Prop)(W:World)(bs:List Nat):Option (List AV×List Nat)->R
 |some (as_,rs)=>⟨pre as_ W (Out bs),tm (8*κ),[(8*κ,some (.obj [] (J9 W bs (Φ as_))))],none,[],rs⟩
 |none=>.bad
def Ta.spec{P:Program}{f:FuncId}(p:Ta P f):Spec P f where
 ev:=λW bs κ h args=>DP κ p.pre p.tm p.Φ W bs (ay h args)
 good:=λW bs κ E F h w K args hs hK hk hx hside=>by
  rw[p.enters];cases hv:ay h args with
  |none=>rw[hv]at hside;exact hside.elim
  | some q=>
   obtain⟨as_,rs⟩:=q;rw[hv]at hside;have h0:bV W (Out bs) w (Old W bs):=λb hb hs' => ⟨hs.keeps.block b hb hs',hb,hs'⟩
   refine vL hs hK hk (e:=.obj [] (J9 W bs (p.Φ as_))) ((p.ok w (Old W bs) _ as_ (di hs hv) (p.premono as_ _ _ _ _ h0 hside)).mono λe w' he=>?_) rfl rfl;obtain⟨cs,rfl,hΦ,hkeep⟩:=he;have hmem:∀ b,b∈List.range' w.heap.size (w'.heap.size-w.heap.size) ↔ w.heap.size<=b/\b<w'.heap.size:=λb=>by
    rw[List.mem_range'_1];have:=hkeep.size;omega
   have hR:∀ w3:World,(∀ b∈List.range' w.heap.size (w'.heap.size-w.heap.size),w3.heap[b]?=w'.heap[b]?)->J9 W bs (p.Φ as_) [] (cW cs) (List.range' w.heap.size (w'.heap.size-w.heap.size)) w3:=by
    intro w3 h3;refine⟨cs,rfl,λW₂ S₂ hold hnew=>p.mono as_ cs w' (Grow w (Old W bs)) W₂ S₂ (λb hb hg=>?_) hΦ⟩;by_cases hbw:b<w.heap.size
    ·obtain⟨g1,g2⟩:=hg hbw;obtain⟨g3,g4⟩:=hold b g1 g2;exact⟨by rw[g3,hkeep.block b hbw sI,hs.keeps.block b g1 g2],g4⟩
    ·have hb' := (hmem b).2 ⟨oM,hb⟩;obtain⟨g3,g4⟩:=hnew b hb';exact⟨by rw[g3,h3 b hb'],g4⟩
   refine⟨_,cW cs,List.range' w.heap.size (w'.heap.size-w.heap.size),rfl,λE' => ⟨⟨hR w' λ_ _=>rfl,rfl⟩,hR⟩,λb hb=>(hmem b).1 hb,hkeep,?_⟩;simp only[DP];rw[p.tmg (a7 E (nk κ) (cW cs)),nk,ai]
 keys:=λW bs κ h K args hK hx hside=>by
  cases hv:ay h args with
  |none=>rw[hv]at hside;exact hside.elim
  | some q=>
   obtain⟨as_,rs⟩:=q;refine⟨λk hk=>.inr ?_,λq hq=>?_⟩
   ·rw[p.tmk _ k hk];exact aQ κ
   ·simp only[DP,List.mem_singleton]at hq;subst hq;refine⟨.inr (aQ κ),λe he k hk=>?_⟩;simp only[Option.some.injEq]at he;subst he;cases hk
 loc:=λW bs κ h h' args hside hr=>by
  cases hv:ay h args with
  |none=>rw[hv]at hside;exact hside.elim
  |some q=>
   obtain⟨as_,rs⟩:=q;rw[hv]at hr;rw[cm hv hr]
theorem S3{P:Program}{f:FuncId}(p:Ta P f)(W:World)(bs:List Nat)(κ:Nat)(h:Hp)(l:List SV):p.spec.ev W bs κ h l=DP κ p.pre p.tm p.Φ W bs (ay h l):=rfl
theorem Ij(κ:Nat)(pre:List AV->World->(Nat->Prop)->Prop)(tm:Nat->SV)(Φ:List AV->List Value->World->(Nat->Prop)->Prop)(W:World)(bs:List Nat)(as_:List AV)(rs:List Nat) :
  DP κ pre tm Φ W bs (some (as_,rs))=⟨pre as_ W (Out bs),tm (8*κ),[(8*κ,some (.obj [] (J9 W bs (Φ as_))))],none,[],rs⟩:=rfl
theorem fV(m:Nat->Src)(l:List Value):fz m (l.map .v)=l.map .v:=by
 induction l with
 |nil=>rfl
 |cons x r ih=>simp[fz,fg,ih]
theorem j9(m:Nat->Src)(a b:List SV):fz m (a++b)=fz m a++fz m b:=by
 induction a with
 |nil=>rfl
 |cons x r ih=>simp[fz,ih]
section
variable {P:Program}{κ:Nat}{h:Hp}
def mkV(κ:Nat)(e:TypeId)(l c:Int):Option Nat->Option (List Value)->Option Nat->R
 |some sz,some zs,some by_=>⟨0<=l/\l<=c/\(by_:Int)*c<=281474976710656/\c<=9223372036854775807/\zs.length=sz/\0<sz,.hd (8*κ),[(8*κ,some (.row e sz l.toNat ((List.replicate l.toNat zs).flatten.map .v)))],none,[],[]⟩
 |_,_,_=>.bad
def mkU(P:Program)(κ:Nat)(l c:Int):Option TypeDesc->R
 |some (.slice e)=>mkV κ e l c (ts P e) (tz P e) (qI P e)
 |_=>.bad
theorem C1(T:TypeId)(k k' : IntKind)(l c:Int):j8 P κ T [.v (.int k l),.v (.int k' c)]=mkU P κ l c (P.underlying T):=by
 simp only[j8];unfold mkU;rcases P.underlying T with _|d
 ·rfl
 ·cases d<;>first|rfl|(rename_i e;simp only[mkV,nk];rcases ts P e with _|a<;>rcases tz P e with _|b<;>rcases qI P e with _|c<;>rfl)
theorem LB(l c:Int)(e:TypeId):mkU P κ l c (some (.slice e))=mkV κ e l c (ts P e) (tz P e) (qI P e):=rfl
theorem S2(e:TypeId)(l c:Int)(sz:Nat)(zs:List Value)(by_:Nat):mkV κ e l c (some sz) (some zs) (some by_)=⟨0<=l/\l<=c/\(by_:Int)*c<=281474976710656/\c<=9223372036854775807/\zs.length=sz/\0<sz,.hd (8*κ),[(8*κ,some (.row e sz l.toNat ((List.replicate l.toNat zs).flatten.map .v)))],none,[],[]⟩:=rfl
def mK(ao:Option Addr)(a sz c:Nat):Option Addr:=if c=a then ao else ao.map (·.add (a*sz))
theorem ze(ao:Option Addr)(sz c:Nat):mK ao 0 sz c=ao:=by
 unfold mK;split
 ·rfl
 ·cases ao<;>simp[Addr.add]
theorem iK.at{W:World}{S:Nat->Prop}{ao:Option Addr}{vs:List Value}{a sz c n:Nat}(h:iK W S ao vs)(hl:vs.length=n*sz)(hn:n<=c)(ha:a<=n):iK W S (mK ao a sz c) (vs.drop (a*sz)):=by
 unfold mK;split
 ·left;have:vs.length<=a*sz:=by rw[hl];exact Nat.mul_le_mul_right _ oM
  simp[this]
 ·rcases h with h|⟨b,o,rfl,h2⟩
  ·exact .inl (by simp[h])
  ·refine .inr ⟨b,o+a*sz,?_,λj hj=>?_⟩
   ·simp only[Option.map_some,Addr.add,Option.some.injEq];split
    ·rename_i h0;simp[h0]
    ·rfl
   ·simp only[List.length_drop]at hj;have:=h2 (a*sz+j) oM;rw[List.getElem_drop]
    rwa [Nat.add_assoc]
def slV(ao:Option Addr)(c:Nat)(a b:Int):Option Nat->R
 |some sz=>⟨0<=a/\a<=b/\b<=c,.v (.slice (mK ao a.toNat sz c) (b.toNat-a.toNat) (c-a.toNat)),[],none,[],[]⟩
 |none=>.bad
def slU(P:Program)(ao:Option Addr)(c:Nat)(a b:Int):Option TypeDesc->R
 |some (.slice e)=>slV ao c a b (ts P e)
 |_=>.bad
theorem ld(T:TypeId)(ao:Option Addr)(n c:Nat)(a b:Int):ky P T ao n c a b=slU P ao c a b (P.underlying T):=by
 simp only[ky];unfold slU;rcases P.underlying T with _|d
 ·rfl
 ·cases d<;>first|rfl|(rename_i e;simp only[slV,R.fO,mK];rcases ts P e with _|a<;>rfl)
theorem L9(ao:Option Addr)(c:Nat)(a b:Int)(e:TypeId):slU P ao c a b (some (.slice e))=slV ao c a b (ts P e):=rfl
theorem Ss(ao:Option Addr)(c:Nat)(a b:Int)(sz:Nat):slV ao c a b (some sz)=⟨0<=a/\a<=b/\b<=c,.v (.slice (mK ao a.toNat sz c) (b.toNat-a.toNat) (c-a.toNat)),[],none,[],[]⟩:=rfl
theorem BQ(T:TypeId)(ao:Option Addr)(n c:Nat)(k k' : IntKind)(a b:Int):cz P T true true false [.v (.slice ao n c),.v (.int k a),.v (.int k' b)]=slU P ao c a b (P.underlying T):=by
 rw[<- ld T ao n];rfl
theorem Ak(T:TypeId)(ao:Option Addr)(n c:Nat)(k:IntKind)(a:Int):cz P T true false false [.v (.slice ao n c),.v (.int k a)]=slU P ao c a n (P.underlying T):=by
 rw[<- ld T ao n];rfl
theorem A7(T:TypeId)(ao:Option Addr)(n c:Nat)(k:IntKind)(b:Int):cz P T false true false [.v (.slice ao n c),.v (.int k b)]=slU P ao c 0 b (P.underlying T):=by
 rw[<- ld T ao n];rfl
end
end
section
def ev6:=(aa @C1 (aa @LB (aa @S2 (aa @ze (aa @L9 (aa @Ss (aa @BQ (aa @Ak (aa @A7 (aa @S3 @Ij))))))))))
end
section
open Go.ChangeShapes Go.WideShapes Go.ChangeAt Go.RowKit
section
variable {H:Type}{enc:TypeId×Value->H}{P:Program}
theorem Ol{f:Func}{s:ChangeSpec}{apart fresh handsOn again:Bool}{W W' : World}{args:Array Value}{v:Value}{ds gs:List (DataW H)}{before pa pv:List MemPlace}
  (hW:DataW.Whole enc P f.params.toList s.vars apart W args.toList ds gs before)
  (hres:∀ (b:Nat) (sp:Nat->Bool) (hd:Bool),DataW.TrodAll enc P W' b sp hd f.resultTypes.toList (v.resultList f.resultTypes.size) (s.fn H (ds++gs)).results [])
  (hargs:∀ sp:Nat->Bool,(∀ p∈before,sp p.block=true)->DataW.TrodAll enc P W' 0 sp true f.params.toList args.toList (s.fn H (ds++gs)).args pa)
  (hvars:∀ sp:Nat->Bool,(∀ p∈before,sp p.block=true)->DataW.TrodVars enc P W' sp s.vars (s.fn H (ds++gs)).vars pv)
  (hps:before=pa++pv) (hk:W.keptBut W' (·∈before)) (hfz:∀ a,a.block<W.heap.size->W'.frozen? a=W.frozen? a)
  (hok:∀ (j:Nat) (t:TypeId) (r:Value),f.resultTypes[j]?=some t->(v.resultList f.resultTypes.size)[j]?=some r->Value.okWide P W' .any 0 t r) :
  s.post enc P f apart fresh handsOn again W args v W' := by
 have hlt:=hW.lt;have hold:∀ p∈before,(λb=>decide (b<W.heap.size)) p.block=true:=λp hp=>by simpa using hlt p hp
 refine⟨ds,gs,before,[],pa,pv,hW,hres _ _ _,hargs _ hold,hvars _ hold,World.keptBut_mono (λp hp=>⟨hp,?_⟩) hk,λ_=>?_⟩
 ·rw[hps,List.mem_append]at hp;exact Or.inr hp
 ·obtain⟨_,_,_,_,_,hz,hn⟩:=hW;refine⟨hok,_,_,([]++pa)++pv,⟨[]++pa,pv,trodAll_append (hargs _ (λ_ _=>rfl)) (hres _ _ _),hvars _ (λ_ _=>rfl),rfl,?_,?_⟩,?_⟩
  ·intro b off hp;have hp' : MemPlace.cell b off∈before:=by rw[hps];simpa using hp
   rw[hfz _ (hlt _ hp')];exact hz b off hp'
  ·intro ha;have:=hn ha;rw[hps]at this;simpa using this
  ·intro p hp _;rw[hps];simpa using hp
theorem oA{W W' : World}:∀ {ts:List TypeId} {vs:List Value} {ds:List (DataW H)} {ps:List MemPlace},DataW.TrodAll enc P W 0 (λ_=>true) true ts vs ds ps->(∀ p∈ps,W.sameAt W' p)->DataW.TrodAll enc P W' 0 (λ_=>true) true ts vs ds ps
 |[],[],[],_,h,_=>h
 |t::ts,v::vs,d::ds,ps,⟨p,q,h1,h2,e⟩,hs=>by
  subst e;obtain⟨n,hn⟩:=h1;exact⟨p,q,⟨n,DataW.trod_carry n _ _ _ hn (λx hx=>hs x (List.mem_append_left _ hx))⟩,oA h2 (λx hx=>hs x (List.mem_append_right _ hx)),rfl⟩
theorem SS{f:Func}{s:ChangeSpec}{tb:TypeId}(hl:laidOutB P=true)(hm:mapsRowed P=true)
  (hf:((List.range P.types.size).all λt=>match P.underlying t with|some (.slice e)=>decide (0<P.cellsOf e)|_=>true)=true)
  (hT:f.params.all (λt=>decide (t<P.types.size))=true) (hrt:f.resultTypes=#[tb]) (hb:P.underlying tb=some .bool) (hvs:s.vars=[]) {W W' : World} {args:Array Value} {ds gs:List (DataW H)} {before:List MemPlace}
  (hW:DataW.Whole enc P f.params.toList s.vars false W args.toList ds gs before) (hres:(s.fn H (ds++gs)).results=[.lit (.bool true)]) (hargs:(s.fn H (ds++gs)).args=ds) (hv:(s.fn H (ds++gs)).vars=[])
  (hk:af W [] W'):s.post enc P f false true false false W args (.bool true) W' := by
 have hb' := hk.below;have hW' := hW;obtain⟨p,q,hA,hV,rfl,hfz,hnd⟩:=hW;have hlt:=hW'.lt;have hq:q=[]:=by rw[hvs]at hV;exact (trodVars_none hV).2
 subst hq;refine Ol (pa:=p) (pv:=[]) hW' (λ_ _ _=>?_) (λsp hsp=>?_) (λsp hsp=>?_) rfl (hb'.frame _) (λad hlt=>hb'.frozen hlt) ?_
 ·rw[hrt,hres];exact trodAll_cons_mk (shut_bool hb _) trodAll_mk0
 ·rw[hargs];refine DataW.TrodAll.respare (kids_rows hl hm) (slices_full_of P hf) (λt ht=>?_) (oA hA λx hx=>hb'.same (hlt x (by simpa using hx))) (λx hx=>hsp x (by simpa using hx));rw[Array.all_eq_true]at hT;obtain⟨i,hi,he⟩:=Array.mem_iff_getElem.1 (Array.mem_toList_iff.1 ht);have:=hT i hi
  rw[he]at this;simpa using this
 ·rw[hvs,hv];rfl
 ·exact ok_one hrt rfl (okWide_bool_mk hb _)
theorem yU{W:World}{t e:TypeId}{c:Nat}{v:Value}{d:DataW H}{p:List MemPlace}(ht:P.underlying t=some (.slice e))(hc:P.cellsOf e=c)(hok:∃ a len cap,v=.slice a len cap)(h:DataW.Trod enc P W 0 (λ_=>true) true t v d p) :
  ∃ ao n cap m,∃ (C:Nat->List Value) (D:Nat->DataW H) (rest:List (DataW H)),v=.slice ao n cap/\((n=0/\d=.nil)\/d=.slice ((List.range n).map D) rest) /\
   (∀ i,i<n->(C i).length=c/\∃ pl,DataW.trod enc P W 0 (λ_=>true) true m e (C i)=some (D i,pl))/\kt W ao ((List.range n).flatMap C):=by
 obtain⟨a,len,cap,rfl⟩:=hok;obtain⟨fuel,h⟩:=h;rcases Go.Deep.open_slice ht h with ⟨h1,h2⟩|⟨a',len',cap',m,n,D,Pl,h1,hb,hl,hm,hmm,hx,hi⟩
 ·simp only[Value.cells,List.cons.injEq,and_true]at h1;simp only[Prod.mk.injEq]at h2;cases h1;exact⟨none,0,0,0,λ_=>[],λ_=>.nil,[],rfl,.inl ⟨rfl,h2.1⟩,λi hi=>by omega,.inl rfl⟩
 ·simp only[Value.cells,List.cons.injEq,and_true]at h1;cases h1;simp only[Prod.mk.injEq]at hx;have hm' : m=cap:=by simpa using hmm
  subst hm';have hC:∀ i,i<len->∃ cs:List Value,cs.length=c/\(∀ j,j<c->W.cell? (a'.add (i*c+j))=cs[j]?)/\DataW.trod enc P W 0 (λ_=>true) true n e cs=some (D i,Pl i):=λi hil=>by
   obtain⟨cs,h1,h2⟩:=hi i oM;obtain⟨_,h3,h4⟩:=World.cells?_some h1;rw[hc]at h3 h4;refine⟨cs,h3,λj hj=>?_,h2⟩;have:=h4 j hj
   rwa [Go.Deep.add_add]at this
  obtain⟨C,hC⟩:=Go.Deep.choose_lt hC;refine⟨some a',len,m,n,C,D,_,rfl,.inr hx.1,λi hil=>⟨(hC i hil).1,Pl i,(hC i hil).2.2⟩,?_⟩;have hlen:∀ k,k<=len->((List.range k).flatMap C).length=k*c:=λk=>by
   induction k with
   |zero=>intro _;simp
   |succ k ih=>
    intro hk;rw[List.range_succ,List.flatMap_append,List.length_append,ih oM];simp[(hC k oM).1,Nat.succ_mul]
  have hget:∀ k,k<=len->∀ j (hj:j<((List.range k).flatMap C).length),W.cell? (a'.add j)=some ((List.range k).flatMap C)[j]:=λk=>by
   induction k with
   |zero=>intro _ j hj;simp at hj
   | succ k ih=>
    intro hk j hj;have hf:(List.range (k+1)).flatMap C=(List.range k).flatMap C++C k:=by rw[List.range_succ,List.flatMap_append];simp
    have hl:=hlen k oM;simp only[hf]at hj ⊢;by_cases hjk:j<k*c
    ·rw[List.getElem_append_left oM];exact ih oM j oM
    ·rw[List.getElem_append_right oM];have h1:=(hC k oM).1;simp only[List.length_append,hl,h1]at hj;have:=(hC k oM).2.1 (j-k*c) oM;rw[show k*c+(j-k*c)=j by omega]at this;rw[this];simp only[hl];rw[List.getElem?_eq_getElem]
  by_cases hz:(List.range len).flatMap C=[]
  ·exact .inl hz
  ·have h0:=hget len (Nat.le_refl _) 0 (List.length_pos_iff.2 hz);have hsp:=World.cell?_spot h0;obtain⟨b,o,sp⟩:=a';have hsp' : sp=none:=by simpa [Addr.add] using hsp
   subst hsp';refine .inr ⟨b,o,rfl,λj hj=>?_⟩;have:=hget len (Nat.le_refl _) j hj
   rwa [Addr.add_lit]at this
end
end
section
open Go.RowKit
section
variable {P:Program}{W:World}{bs:List Nat}{κ:Nat}{E:Nat->Value}{F:Nat->List Nat}{h:Nat->Option aI}{w:World}{K:Nat->Prop}
def Qy(u:Value):AV->List Nat
 |.val _=>[]
 |.row _ _ _ _=>u.ownBlock.toList
def yc:List Value->List AV->List Nat
 |u::us,a::as_=>Qy u a++yc us as_
 |_,_=>[]
def bJ(w:World)(u:Value)(fp:List Nat)(T:TypeId)(fs:List AV):Prop:=
 ∃ b us,u=.pointer (some ⟨b,0,none⟩)/\w.heap[b]?=some (.cells us.toArray T (0,0))/\eJ w us fs/\fp=b::yc us fs/\fp.Nodup
theorem Sl(hs:ab W bs E F h w){x:SV}{a:AV}{r:List Nat}(hv:bS h x=some (a,r)):Qy (den E x) a=r.flatMap F/\∀ k∈r,(∃ e,h k=some e)/\∀ k' ∈ r,k' = k:=by
 cases x with
 |v x=>simp[bS]at hv;obtain⟨rfl,rfl⟩:=hv;exact⟨rfl,sI⟩
 |agg l=>
  simp only[bS,Option.map_eq_some_iff,Prod.mk.injEq]at hv;obtain⟨vs,h1,rfl,rfl⟩:=hv;exact⟨rfl,sI⟩
 | hd k=>
  simp only[bS]at hv;cases hk:h k with
  |none=>rw[hk]at hv;simp[iR]at hv
  | some e=>
   cases e with
   | row T s n us=>
    rw[hk]at hv;simp only[iR,Option.map_eq_some_iff,Prod.mk.injEq]at hv;obtain⟨vs,h1,rfl,rfl⟩:=hv;have:=hs.ent k _ hk;refine⟨?_,λk' hk' => ?_⟩
    ·simp only[Qy,den,jz (cZ this)];simp[this.2]
    ·simp only[List.mem_singleton]at hk';subst hk';exact⟨⟨_,hk⟩,sI⟩
   |cells T vs=>rw[hk]at hv;simp[iR]at hv
   |obj d R=>rw[hk]at hv;simp[iR]at hv
 |own k o=>simp[bS]at hv
 |tup l=>simp[bS]at hv
 |ifc t x=>simp[bS]at hv
 |part k i=>simp[bS]at hv
 |fn f a c=>simp[bS]at hv
theorem b7(hs:ab W bs E F h w):∀ {l:List SV} {as_:List AV} {r:List Nat},ay h l=some (as_,r)->yc (ah E l) as_=r.flatMap F/\∀ k∈r,∃ e,h k=some e
 |[],as_,r,hv=>by simp[ay]at hv;obtain⟨rfl,rfl⟩:=hv;exact⟨rfl,sI⟩
 | x::l,as_,r,hv=>by
  simp only[ay]at hv;cases h1:bS h x with
  |none=>rw[h1]at hv;simp[jS]at hv
  | some p=>
   cases h2:ay h l with
   |none=>rw[h1,h2]at hv;simp[jS]at hv
   |some q=>
    obtain⟨a,ra⟩:=p;obtain⟨as',rs⟩:=q;rw[h1,h2]at hv;simp only[jS,Option.some.injEq,Prod.mk.injEq]at hv;obtain⟨rfl,rfl⟩:=hv;obtain⟨g1,g2⟩:=Sl hs h1;obtain⟨g3,g4⟩:=b7 hs h2;refine⟨by simp only[ah,yc,g1,g3,List.flatMap_append],λk hk=>?_⟩;rcases List.mem_append.1 hk with hk|hk
    ·exact (g2 k hk).1
    ·exact g4 k hk
theorem xA(u:Value):u.ownBlock.toList.Nodup:=by cases u.ownBlock<;>simp
theorem La{u:Value}{fp:List Nat}{e:aI}(hE:∀ d R,e≠.obj d R)(h:aZ E u fp w e):fp.Nodup:=by
 cases e with
 |cells T vs=>obtain⟨b,_,h2,_⟩:=h;rw[h2];simp
 |row T s n vs=>rw[h.2];exact xA u
 |obj d R=>exact absurd rfl (hE d R)
theorem jM{h:Hp}:∀ {l:List SV} {as_:List AV} {r:List Nat},ay h l=some (as_,r)->∀ k∈r,∃ T s n vs,h k=some (.row T s n vs)
 |[],as_,r,hv=>by simp[ay]at hv;obtain⟨rfl,rfl⟩:=hv;simp
 | x::l,as_,r,hv=>by
  simp only[ay]at hv;cases h1:bS h x with
  |none=>rw[h1]at hv;simp[jS]at hv
  | some p=>
   cases h2:ay h l with
   |none=>rw[h1,h2]at hv;simp[jS]at hv
   | some q=>
    obtain⟨a,ra⟩:=p;obtain⟨as',rs⟩:=q;rw[h1,h2]at hv;simp only[jS,Option.some.injEq,Prod.mk.injEq]at hv;obtain⟨rfl,rfl⟩:=hv;intro k hk;rcases List.mem_append.1 hk with hk|hk
    ·cases x with
     | hd j=>
      simp only[bS]at h1;cases hj:h j with
      |none=>rw[hj]at h1;simp[iR]at h1
      | some e=>
       cases e with
       |row T s n us=>
        rw[hj]at h1;simp only[iR,Option.map_eq_some_iff,Prod.mk.injEq]at h1;obtain⟨vs,_,_,rfl⟩:=h1;simp only[List.mem_singleton]at hk;subst hk;exact⟨_,_,_,_,hj⟩
       |_=>rw[hj]at h1;simp[iR]at h1
     |v x=>simp[bS]at h1;obtain⟨_,rfl⟩:=h1;cases hk
     |agg l=>
      simp only[bS,Option.map_eq_some_iff,Prod.mk.injEq]at h1;obtain⟨_,_,_,rfl⟩:=h1;cases hk
     |_=>simp[bS]at h1
    ·exact jM h2 k hk
theorem oS(hs:ab W bs E F h w):∀ {ks:List Nat},ks.Nodup->(∀ k∈ks,∃ e,h k=some e/\∀ d R,e≠.obj d R)->(ks.flatMap F).Nodup
 |[],_,_=>by simp
 |k::r,hn,he=>by
  rw[List.flatMap_cons,List.nodup_append];obtain⟨e,h1,h2⟩:=he k sI;refine⟨La h2 (hs.ent k e h1),oS hs (List.nodup_cons.1 hn).2 (λj hj=>he j (by simp[hj])),λb hb c hc hbc=>?_⟩;subst hbc;obtain⟨j,hj,hbj⟩:=List.mem_flatMap.1 hc;obtain⟨e2,h3,_⟩:=he j (by simp[hj])
  exact hs.apart k j e e2 (λe' => (List.nodup_cons.1 hn).1 (e' ▸ hj)) h1 h3 b hb hbj
theorem fW(hs:ab W bs E F h w){k:Nat}{T:TypeId}{vs:List SV}{fs:List AV}{rs:List Nat}(hk:h k=some (.cells T vs))(hv:ay h vs=some (fs,rs))(hn:(k::rs).Nodup) :
  bJ w (E k) ((k::rs).flatMap F) T fs:=by
 obtain⟨b,h1,h2,h3⟩:=hs.ent k _ hk;obtain⟨g1,_⟩:=b7 hs hv;refine⟨b,ah E vs,h1,h3,di hs hv,by rw[List.flatMap_cons,h2,g1];rfl,oS hs hn λj hj=>?_⟩;rcases List.mem_cons.1 hj with rfl|hj
 ·exact⟨_,hk,λd R e=>by cases e⟩
 ·obtain⟨T',s,n,us,hj'⟩:=jM hv j hj;exact⟨_,hj',λd R e=>by cases e⟩
def aF:Nat->List AV->List SV
 |_,[]=>[]
 |k,.val v::r=>.v v::aF (k+1) r
 |k,.row _ _ _ _::r=>.hd k::aF (k+1) r
def aT:Nat->List AV->List (Nat×aI)
 |_,[]=>[]
 |k,.val _::r=>aT (k+1) r
 |k,.row T s n vs::r=>(k,.row T s n (vs.map .v))::aT (k+1) r
def bZ:List (Nat×aI)->List (Nat×Option aI)
 |[]=>[]
 |(k,e)::r=>(k,some e)::bZ r
theorem eL:∀ {k:Nat} {fs:List AV},∀ p∈aT k fs,k<=p.1/\p.1<k+fs.length/\p.2.keys=[]
 |_,[],p,hp=>by cases hp
 |k,.val v::r,p,hp=>by
  have:=eL (k:=k+1) (fs:=r) p hp;simp only[List.length_cons];exact⟨oM,oM,this.2.2⟩
 | k,.row T s n vs::r,p,hp=>by
  rcases List.mem_cons.1 hp with rfl|hp
  ·simp[aI.keys,aA]
  ·have:=eL (k:=k+1) (fs:=r) p hp;simp only[List.length_cons];exact⟨oM,oM,this.2.2⟩
theorem cB:∀ {k:Nat} {fs:List AV},∀ j∈al (aF k fs),k<=j/\j<k+fs.length
 |_,[],j,hj=>by cases hj
 |k,.val v::r,j,hj=>by
  simp only[aF,al,SV.keys,List.nil_append]at hj;have:=cB j hj;simp only[List.length_cons];omega
 | k,.row T s n vs::r,j,hj=>by
  simp only[aF,al,SV.keys,List.singleton_append,List.mem_cons]at hj;simp only[List.length_cons];rcases hj with rfl|hj
  ·omega
  ·have:=cB j hj;omega
def iD:Nat->List Value->(Nat->Value)->Nat->Value
 |_,[],E=>E
 |k,u::us,E=>a7 (iD (k+1) us E) k u
def gI:Nat->List Value->List AV->(Nat->List Nat)->Nat->List Nat
 |k,u::us,a::as_,F=>a7 (gI (k+1) us as_ F) k (Qy u a)
 |_,_,_,F=>F
theorem kz:∀ {k:Nat} {us:List Value} {E:Nat->Value} {j:Nat},(j<k\/k+us.length<=j)->iD k us E j=E j
 |_,[],_,_,_=>rfl
 |k,u::us,E,j,h=>by
  simp only[List.length_cons]at h;simp only[iD];rw[aj _ _ oM];exact kz oM
theorem ic:∀ {k:Nat} {us:List Value} {as_:List AV} {F:Nat->List Nat} {j:Nat},(j<k\/k+as_.length<=j)->gI k us as_ F j=F j
 |k,u::us,a::as_,F,j,h=>by
  simp only[List.length_cons]at h;simp only[gI];rw[aj _ _ oM];exact ic oM
 |_,[],[],_,_,_=>rfl
 |_,[],_::_,_,_,_=>rfl
 |_,_::_,[],_,_,_=>rfl
theorem jx:∀ {us:List Value} {as_:List AV},eJ w us as_->us.length=as_.length
 |[],[],_=>rfl
 |_::_,_::_,h=>by simp[jx h.2]
 |[],_::_,h=>h.elim
 |_::_,[],h=>h.elim
theorem hH:∀ {k:Nat} {us:List Value} {fs:List AV} {E:Nat->Value},eJ w us fs->ah (iD k us E) (aF k fs)=us
 |_,[],[],_,_=>rfl
 |k,u::us,.val v::fs,E,h=>by
  obtain⟨rfl,h2⟩:=h;simp only[aF,ah,den,iD]
  congr 1
  have:ah (a7 (iD (k+1) us E) k u) (aF (k+1) fs)=ah (iD (k+1) us E) (aF (k+1) fs):=br _ λj hj=>aj _ _ (by have:=cB j hj;omega)
  rw[this];exact hH h2
 |k,u::us,.row T s n vs::fs,E,h=>by
  obtain⟨h1,h2⟩:=h;simp only[aF,ah,den,iD,ai];have hone:u.oneCell' = true:=cZ (E:=E) (fp:=u.ownBlock.toList) (w:=w) (e:=.row T s n (vs.map .v)) ⟨by rw[an];exact h1,rfl⟩;rw[jz hone]
  congr 1
  have:ah (a7 (iD (k+1) us E) k u) (aF (k+1) fs)=ah (iD (k+1) us E) (aF (k+1) fs):=br _ λj hj=>aj _ _ (by have:=cB j hj;omega)
  rw[this];exact hH h2
 |_,[],_::_,_,h=>h.elim
 |_,_::_,[],_,h=>h.elim
theorem ji:∀ {k:Nat} {us:List Value} {fs:List AV} {E:Nat->Value} {F:Nat->List Nat} {p:Nat×aI},eJ w us fs->p∈aT k fs ->
  ∀ E0:Nat->Value,aZ E0 (iD k us E p.1) (gI k us fs F p.1) w p.2/\∀ b∈gI k us fs F p.1,b∈yc us fs
 |_,[],[],_,_,p,_,hp=>by cases hp
 |k,u::us,.val v::fs,E,F,p,h,hp=>λE0=>by
  have hk:=eL (k:=k+1) (fs:=fs) p hp;simp only[iD,gI];rw[aj _ _ oM,aj _ _ oM];obtain⟨h1,h2⟩:=ji (k:=k+1) (E:=E) (F:=F) h.2 hp E0;exact⟨h1,λb hb=>List.mem_append_right _ (h2 b hb)⟩
 | k,u::us,.row T s n vs::fs,E,F,p,h,hp=>λE0=>by
  rcases List.mem_cons.1 hp with rfl|hp
  ·simp only[iD,gI,ai];exact⟨⟨by rw[an];exact h.1,rfl⟩,λb hb=>List.mem_append_left _ hb⟩
  ·have hk:=eL (k:=k+1) (fs:=fs) p hp;simp only[iD,gI];rw[aj _ _ oM,aj _ _ oM];obtain⟨h1,h2⟩:=ji (k:=k+1) (E:=E) (F:=F) h.2 hp E0;exact⟨h1,λb hb=>List.mem_append_right _ (h2 b hb)⟩
 |_,[],_::_,_,_,p,h,_=>h.elim
 |_,_::_,[],_,_,p,h,_=>h.elim
theorem me{k:Nat}{a:AV}{fs:List AV}{r:Nat×aI}(hr:r∈aT k (a::fs))(hrk:r.1≠k):r∈aT (k+1) fs:=by
 cases a with
 |val v=>exact hr
 |row T s n vs=>
  rcases List.mem_cons.1 hr with rfl|hr
  ·exact absurd rfl hrk
  ·exact hr
theorem cR:∀ {k:Nat} {us:List Value} {fs:List AV} {F:Nat->List Nat} {r:Nat×aI},us.length=fs.length->r∈aT k fs->∀ b∈gI k us fs F r.1,b∈yc us fs
 |_,[],[],_,r,_,hr,_,_=>by cases hr
 |_,[],_::_,_,_,hl,_,_,_=>by simp at hl
 |_,_::_,[],_,_,hl,_,_,_=>by simp at hl
 | k,u::us,a::fs,F,r,hl,hr,b,hb=>by
  simp only[yc,List.mem_append];simp only[gI]at hb;by_cases hrk:r.1=k
  ·rw[hrk,ai]at hb;exact .inl hb
  ·rw[aj _ _ hrk]at hb;exact .inr (cR (by simpa using hl) (me hr hrk) b hb)
theorem iy:∀ {k:Nat} {us:List Value} {fs:List AV} {F:Nat->List Nat} {p q:Nat×aI},(yc us fs).Nodup->p∈aT k fs->q∈aT k fs->us.length=fs.length->p.1≠q.1->∀ b∈gI k us fs F p.1,b∉gI k us fs F q.1
 |_,[],[],_,p,_,_,hp,_,_,_,_,_=>by cases hp
 |_,[],_::_,_,_,_,_,_,_,hl,_,_,_=>by simp at hl
 |_,_::_,[],_,_,_,_,_,_,hl,_,_,_=>by simp at hl
 | k,u::us,a::fs,F,p,q,hn,hp,hq,hl,hpq,b,hb=>by
  have hl' : us.length=fs.length:=by simpa using hl
  rw[show yc (u::us) (a::fs)=Qy u a++yc us fs from rfl,List.nodup_append]at hn;obtain⟨_,n2,n3⟩:=hn;simp only[gI]at hb ⊢;by_cases hpk:p.1=k
  ·rw[hpk,ai]at hb;have hqk:q.1≠k:=λe=>hpq (by rw[hpk,e])
   rw[aj _ _ hqk];intro hb';exact n3 b hb b (cR hl' (me hq hqk) b hb') rfl
  ·rw[aj _ _ hpk]at hb;by_cases hqk:q.1=k
   ·rw[hqk,ai];intro hb';exact n3 b hb' b (cR hl' (me hp hpk) b hb) rfl
   ·rw[aj _ _ hqk];exact iy n2 (me hp hpk) (me hq hqk) hl' hpq b hb
end
inductive BOut where
 |ret (v:Value) (fs:List AV)
 |pan (c:List PanicEntry) (v:Value)
def iQ(w:World)(u:Value)(fp:List Nat)(T:TypeId)(e:Ending)(w' : World):BOut->Prop
 |.ret v fs=>e=.returned v/\(∃ fp',bJ w' u fp' T fs/\(∀ b∈fp',b∈fp\/w.heap.size<=b)/\∀ b∈fp',b<w'.heap.size)/\af w fp w'
 |.pan c _=>e=.panicked c/\af w fp w'
structure eW (P:Program)(f:FuncId) where
 T:TypeId
 pre:World->List Nat->List AV->List AV->Prop
 out:World->List AV->List AV->BOut
 enters:∀ args w,(callFunc f args).run P w=.ok (.enter f args) w
 ok:∀ (W w:World) (bs:List Nat) (u:Value) (fp:List Nat) (us:List Value) (fs as_:List AV),af W bs w->bJ w u fp T fs->(∀ b∈fp,b<w.heap.size)->(∀ b∈fp,W.heap.size<=b\/b∈bs)->eJ w us as_->pre W bs fs as_ ->
  Calls P f (u::us).toArray w λe w' => iQ w u fp T e w' (out W fs as_)
def db(rs:List Nat):List (Nat×Option aI):=rs.map λj=>(j,none)
def fL(κ k:Nat)(T:TypeId)(pre:Prop)(rs rs' : List Nat):BOut->R
 |.ret v fs=>⟨pre/\(k::rs).Nodup/\(∀ j∈rs',j∉k::rs)/\fs.length<=8,.v v,db rs++(bZ (aT (8*κ) fs)++[(k,some (.cells T (aF (8*κ) fs)))]),none,[],k::(rs++rs')⟩
 |.pan c v=>⟨pre/\(k::rs).Nodup/\(∀ j∈rs',j∉k::rs),.v v,[],some c,k::rs,k::(rs++rs')⟩
def gF(κ k:Nat)(T T' : TypeId)(pre:List AV->List AV->Prop)(out:List AV->List AV->BOut)(as_:List AV)(rs' : List Nat):Option (List AV×List Nat)->R
 |some (fs,rs)=>fL κ k T (T' = T/\pre fs as_) rs rs' (out fs as_)
 |none=>.bad
def eX(h:Hp)(κ k:Nat)(T:TypeId)(pre:List AV->List AV->Prop)(out:List AV->List AV->BOut):Option aI->Option (List AV×List Nat)->R
 |some (.cells T' vs),some (as_,rs')=>gF κ k T T' pre out as_ rs' (ay h vs)
 |_,_=>.bad
def nR(h:Hp)(κ:Nat)(T:TypeId)(pre:List AV->List AV->Prop)(out:List AV->List AV->BOut):List SV->R
 |.own k 0::rest=>eX h κ k T pre out (h k) (ay h rest)
 |_=>.bad
section
variable {P:Program}{W:World}{bs:List Nat}{κ:Nat}{E:Nat->Value}{F:Nat->List Nat}{h:Nat->Option aI}{w:World}{K:Nat->Prop}
theorem bM{α:Type}(f:Nat->α):∀ (a b:List (Nat×α)),aO f (a++b)=aO (aO f a) b
 |[],_=>rfl
 |(k,x)::r,b=>by simp only[List.cons_append,aO];exact bM _ r b
theorem jg(h:Hp):∀ (rs:List Nat) (j:Nat),aO h (db rs) j=if j∈rs then none else h j
 |[],j=>by simp[db,aO]
 | k::r,j=>by
  have:aO h (db (k::r)) j=aO (a7 h k none) (db r) j:=rfl;rw[this,jg];by_cases hj:j∈r
  ·simp[hj]
  ·by_cases hjk:j=k
   ·subst hjk;simp[hj,ai]
   ·simp[hj,hjk,aj _ _ hjk]
theorem gM:∀ (L:List (Nat×Option aI)) (f:Hp) (j:Nat),(∀ p∈L,∃ e,p.2=some e)->aO f L j=match aO (λ_=>none) L j with|some e=>some e|none=>f j
 |[],f,j,_=>rfl
 | (i,x)::r,f,j,hL=>by
  obtain⟨e,he⟩:=hL (i,x) sI;simp only at he;subst he;have hr:∀ p∈r,∃ e,p.2=some e:=λp hp=>hL p (by simp[hp])
  simp only[aO];rw[gM r (a7 f i (some e)) j hr,gM r (a7 (λ_=>none) i (some e)) j hr];cases aO (λ_=>none) r j with
  |some y=>rfl
  |none=>
   simp only;by_cases hj:j=i
   ·subst hj;simp[ai]
   ·simp[aj _ _ hj]
theorem dZ{L:List (Nat×aI)}{p:Nat×Option aI}:p∈bZ L ↔ ∃ e,p=(p.1,some e)/\(p.1,e)∈L:=by
 induction L with
 |nil=>simp[bZ]
 | cons q r ih=>
  obtain⟨k,e⟩:=q;simp only[bZ,List.mem_cons,ih];constructor
  ·rintro (rfl|⟨e',h1,h2⟩)
   ·exact⟨e,rfl,.inl rfl⟩
   ·exact⟨e',h1,.inr h2⟩
  ·rintro⟨e',h1,h2|h2⟩
   ·left;rw[h1];simp only[Prod.mk.injEq]at h2;rw[h2.1,h2.2]
   ·exact .inr ⟨e',h1,h2⟩
theorem mA{w' : World}{k:Nat}{T:TypeId}{vs:List SV}{fs fs' : List AV}{rs fp' : List Nat}(hs:ab W bs E F h w)(hK:bp K h)(hk:∀ k,k / 8=κ->¬ K k)
  (hkk:h k=some (.cells T vs)) (hv:ay h vs=some (fs,rs)) (hlen:fs'.length<=8) (hn:(k::rs).Nodup)
  (ho:bJ w' (E k) fp' T fs') (h1:∀ b∈fp',b∈(k::rs).flatMap F\/w.heap.size<=b) (h2:∀ b∈fp',b<w'.heap.size) (hkeep:af w ((k::rs).flatMap F) w') :
  ∃ E' F',(∀ j,j / 8≠κ->E' j=E j)/\ab W bs E' F' (aO h (db rs++(bZ (aT (8*κ) fs')++[(k,some (.cells T (aF (8*κ) fs')))]))) w' := by
 obtain⟨b,us,hu,hb,hus,rfl,hnd⟩:=ho;have hl:=jx hus;have hKk:K k:=(hK k _ hkk).1;have hfr:∀ j,8*κ<=j->j<8*κ+8->¬ K j:=λj g1 g2=>hk j oM
 have hkf:k<8*κ\/8*κ+8<=k:=by
  by_cases g1:k<8*κ
  ·exact .inl g1
  ·by_cases g2:8*κ+8<=k
   ·exact .inr g2
   ·exact absurd hKk (hfr k oM oM)
 have hE:∀ j,j / 8≠κ->iD (8*κ) us E j=E j:=λj hj=>kz oM
 have hsome:∀ p∈bZ (aT (8*κ) fs')++[(k,some (.cells T (aF (8*κ) fs')))],∃ e,p.2=some e:=λp hp=>by
  rcases List.mem_append.1 hp with hp|hp
  ·obtain⟨e,he,_⟩:=dZ.1 hp;exact⟨e,by rw[he]⟩
  ·simp at hp;exact⟨_,by rw[hp]⟩
 have hNm:∀ j e,aO (λ_=>none) (bZ (aT (8*κ) fs')++[(k,some (.cells T (aF (8*κ) fs')))]) j=some e->(j=k/\e=.cells T (aF (8*κ) fs'))\/(j≠k/\(j,e)∈aT (8*κ) fs'):=λj e he=>by
  rw[bM]at he;simp only[aO]at he;by_cases hj:j=k
  ·subst hj;rw[ai]at he;cases he;exact .inl ⟨rfl,rfl⟩
  ·rw[aj _ _ hj]at he;rcases iw (λ_=>(none:Option aI)) (k:=j) (u:=bZ (aT (8*κ) fs')) with ⟨x,hx,hx'⟩|⟨_,hx'⟩
   ·rw[hx']at he;subst he;obtain⟨e',h3,h4⟩:=dZ.1 hx;simp only[Prod.mk.injEq,true_and,Option.some.injEq]at h3;subst h3;exact .inr ⟨hj,h4⟩
   ·rw[hx']at he;cases he
 have hNk:aO (λ_=>none) (bZ (aT (8*κ) fs')++[(k,some (.cells T (aF (8*κ) fs')))]) k=some (.cells T (aF (8*κ) fs')):=by
  rw[bM];simp[aO,ai]
 have hb' : b∉yc us fs' := (List.nodup_cons.1 hnd).1;have hnd' : (yc us fs').Nodup:=(List.nodup_cons.1 hnd).2;refine⟨iD (8*κ) us E,a7 (gI (8*κ) us fs' F) k [b],hE,?_⟩
 refine hs.lI hK (k::rs) (aO (λ_=>none) (bZ (aT (8*κ) fs')++[(k,some (.cells T (aF (8*κ) fs')))])) (λj hj=>?_) (λj hj=>hE j λe=>hk j e hj) (λj e he=>?_) (λi j e e' hij hi hj c hc=>?_) (λj x hx hj=>?_) (λj=>?_) hkeep
 ·rcases List.mem_cons.1 hj with rfl|hj
  ·exact⟨_,hkk⟩
  ·exact (b7 hs hv).2 j hj
 ·rcases hNm j e he with ⟨rfl,rfl⟩|⟨hjk,hm⟩
  ·rw[ai,hE j λe=>hk j e hKk];refine⟨⟨b,hu,rfl,by rw[hH hus];exact hb⟩,λc hc=>?_,λc hc=>h2 c (by simp at hc;simp[hc])⟩;simp only[List.mem_singleton]at hc;subst hc;rcases h1 c sI with g|g
   ·obtain⟨i,hi,hci⟩:=List.mem_flatMap.1 g;exact .inl ⟨i,hi,hci⟩
   ·exact .inr g
  ·rw[aj _ _ hjk];obtain⟨g1,g2⟩:=ji (E:=E) (F:=F) hus hm (iD (8*κ) us E);refine⟨g1,λc hc=>?_,λc hc=>h2 c (List.mem_cons_of_mem _ (g2 c hc))⟩;rcases h1 c (List.mem_cons_of_mem _ (g2 c hc)) with g|g
   ·obtain⟨i,hi,hci⟩:=List.mem_flatMap.1 g;exact .inl ⟨i,hi,hci⟩
   ·exact .inr g
 ·rcases hNm i e hi with ⟨rfl,rfl⟩|⟨hik,hmi⟩
  ·rcases hNm j e' hj with ⟨rfl,rfl⟩|⟨hjk,hmj⟩
   ·exact absurd rfl hij
   ·rw[ai]at hc;rw[aj _ _ hjk];simp only[List.mem_singleton]at hc;subst hc;exact λhc' => hb' (cR hl hmj c hc')
  ·rw[aj _ _ hik]at hc;rcases hNm j e' hj with ⟨rfl,rfl⟩|⟨hjk,hmj⟩
   ·rw[ai];intro hc';simp only[List.mem_singleton]at hc';subst hc';exact hb' (cR hl hmi c hc)
   ·rw[aj _ _ hjk];exact iy hnd' hmi hmj hl hij c hc
 ·have hjk:j≠k:=λe=>by rw[e,hNk]at hj;cases hj
  rw[aj _ _ hjk];have hKj:=(hK j x hx).1;by_cases g1:j<8*κ
  ·exact ic (.inl g1)
  ·by_cases g2:8*κ+8<=j
   ·exact ic (.inr oM)
   ·exact absurd hKj (hfr j oM oM)
 ·rw[bM,gM _ _ _ hsome,jg];cases hN:aO (λ_=>none) (bZ (aT (8*κ) fs')++[(k,some (.cells T (aF (8*κ) fs')))]) j with
  |some e=>rfl
  |none=>
   have hjk:j≠k:=λe=>by rw[e,hNk]at hN;cases hN
   simp[hjk]
theorem uc{fs:List AV}(hlen:fs.length<=8){j:Nat}{e:aI}(hm:(j,e)∈aT (8*κ) fs):j / 8=κ/\e.keys=[]:=by
 have:=eL _ hm;exact⟨by simp only at this;omega,this.2.2⟩
theorem qi(hK:bp K h){l:List SV}{as_:List AV}{r:List Nat}(hv:ay h l=some (as_,r)):∀ k∈r,K k:=λk hk=>by
 obtain⟨T,s,n,vs,h1⟩:=jM hv k hk;exact (hK k _ h1).1
end
def eW.spec{P:Program}{f:FuncId}(p:eW P f):Spec P f where
 ev:=λW bs κ h args=>nR h κ p.T (p.pre W bs) (p.out W) args
 good:=λW bs κ E F h w K args hs hK hk hx hside=>by
  rw[p.enters];revert hside;unfold nR;split
  ·rename_i k rest;cases hkk:h k with
   |none=>exact λhf=>hf.elim
   | some e=>
    cases e with
    |row T s n vs=>exact λhf=>hf.elim
    |obj d R=>exact λhf=>hf.elim
    | cells T' vs=>
     cases hr:ay h rest with
     |none=>exact λhf=>hf.elim
     | some q=>
      obtain⟨as_,rs'⟩:=q;simp only[eX];cases hv:ay h vs with
      |none=>exact λhf=>hf.elim
      | some q=>
       obtain⟨fs,rs⟩:=q;simp only[gF];have hent:=hs.ent k _ hkk;obtain⟨b,hu,_,_⟩:=hent;have hden:den E (.own k 0)=E k:=by simp[den,hu,base,cy]
       have call:∀ hn:(k::rs).Nodup,T' = p.T->p.pre W bs fs as_->Calls P f (ah E (.own k 0::rest)).toArray w λe w' => iQ w (E k) ((k::rs).flatMap F) p.T e w' (p.out W fs as_):=λhn hT hp=>by
        subst hT;have ho:=fW hs hkk hv hn;have:=p.ok W w bs (E k) _ (ah E rest) fs as_ hs.keeps ho (λc hc=>?_) (λc hc=>?_) (di hs hr) hp
        ·simpa only[ah,hden] using this
        ·obtain⟨j,hj,hcj⟩:=List.mem_flatMap.1 hc;rcases List.mem_cons.1 hj with rfl|hj
         ·exact hs.lt _ _ hkk c hcj
         ·obtain⟨e,he⟩:=(b7 hs hv).2 j hj;exact hs.lt j e he c hcj
        ·obtain⟨j,hj,hcj⟩:=List.mem_flatMap.1 hc;rcases List.mem_cons.1 hj with rfl|hj
         ·exact hs.mine _ _ hkk c hcj
         ·obtain⟨e,he⟩:=(b7 hs hv).2 j hj;exact hs.mine j e he c hcj
       cases hout:p.out W fs as_ with
       |ret v fs' =>
        simp only[fL];rintro⟨⟨hT,hp⟩,hn,hd,hlen⟩;have hc:=call hn hT hp;rw[hout]at hc;subst hT;refine hc.mono λe w' he=>?_
        obtain⟨rfl,⟨fp',ho,h1,h2⟩,hkeep⟩:=he;obtain⟨E',F',hE',hs'⟩:=mA hs hK hk hkk hv hlen hn ho h1 h2 hkeep;exact⟨rfl,E',F',hE',rfl,hs'⟩
       | pan c _=>
        simp only[fL];rintro⟨⟨hT,hp⟩,hn,hd⟩;have hc:=call hn hT hp;rw[hout]at hc;refine hc.mono λe w' he=>?_
        obtain⟨rfl,hkeep⟩:=he;refine⟨rfl,F,?_⟩;refine hs.lI hK (k::rs) (λ_=>none) (λj hj=>?_) (λ_ _=>rfl) (λj e he=>by cases he) (λi j e e' _ he=>by cases he) (λ_ _ _ _=>rfl) (λj=>?_) hkeep
        ·rcases List.mem_cons.1 hj with rfl|hj
         ·exact⟨_,hkk⟩
         ·exact (b7 hs hv).2 j hj
        ·simp only[dropKeys]
  ·exact λhf=>hf.elim
 keys:=λW bs κ h K args hK hx hside=>by
  revert hside;unfold nR;split
  ·rename_i k rest;cases hkk:h k with
   |none=>exact λhf=>hf.elim
   | some e=>
    cases e with
    |row T s n vs=>exact λhf=>hf.elim
    |obj d R=>exact λhf=>hf.elim
    | cells T' vs=>
     cases hr:ay h rest with
     |none=>exact λhf=>hf.elim
     | some q=>
      obtain⟨as_,rs'⟩:=q;simp only[eX];cases hv:ay h vs with
      |none=>exact λhf=>hf.elim
      | some q=>
       obtain⟨fs,rs⟩:=q;simp only[gF];cases hout:p.out W fs as_ with
       | ret v fs' =>
        simp only[fL];rintro⟨_,hn,hd,hlen⟩;refine⟨λj hj=>(by cases hj),λq hq=>?_⟩;simp only[List.mem_append,List.mem_singleton]at hq;rcases hq with hq|hq|rfl
        ·simp only[db,List.mem_map]at hq;obtain⟨j,hj,rfl⟩:=hq;exact⟨.inl (qi hK hv j hj),λe he=>by cases he⟩
        ·obtain⟨e,h1,h2⟩:=dZ.1 hq;obtain⟨h3,h4⟩:=uc hlen h2;refine⟨.inr h3,λe' he' j hj=>?_⟩;rw[h1]at he';simp only[Option.some.injEq]at he';subst he';rw[h4]at hj;cases hj
        ·refine⟨.inl (hK k _ hkk).1,λe' he' j hj=>.inr ?_⟩;simp only[Option.some.injEq]at he';subst he';have:=cB j hj;omega
       |pan c _=>
        simp only[fL];rintro _;exact⟨λj hj=>(by cases hj),λq hq=>by cases hq⟩
  ·exact λhf=>hf.elim
 loc:=λW bs κ h h' args hside hr=>by
  revert hside hr;unfold nR;split
  ·rename_i k rest;cases hkk:h k with
   |none=>exact λhf=>hf.elim
   | some e=>
    cases e with
    |row T s n vs=>exact λhf=>hf.elim
    |obj d R=>exact λhf=>hf.elim
    | cells T' vs=>
     cases hrr:ay h rest with
     |none=>exact λhf=>hf.elim
     | some q=>
      obtain⟨as_,rs'⟩:=q;simp only[eX];cases hv:ay h vs with
      |none=>exact λhf=>hf.elim
      | some q=>
       obtain⟨fs,rs⟩:=q;simp only[gF];have key:∀ r:R,(∀ j∈r.reads,h' j=h j)->r.reads=k::(rs++rs')->h' k=some (.cells T' vs)/\ay h' rest=some (as_,rs')/\ay h' vs=some (fs,rs):=λr hr he=>by
        rw[he]at hr;exact⟨by rw[hr k sI,hkk],cm hrr λj hj=>hr j (by simp[hj]),cm hv λj hj=>hr j (by simp[hj])⟩
       intro _ hr;obtain⟨g1,g2,g3⟩:=key _ hr (by cases p.out W fs as_<;>rfl);rw[g1,g2];simp only[eX,g3,gF]
  ·exact λhf=>hf.elim
theorem Ga{P:Program}{f:FuncId}(p:eW P f)(W:World)(bs:List Nat)(κ:Nat)(h:Hp)(l:List SV):p.spec.ev W bs κ h l=nR h κ p.T (p.pre W bs) (p.out W) l:=rfl
theorem CO(h:Hp)(κ k:Nat)(T:TypeId)(pre:List AV->List AV->Prop)(out:List AV->List AV->BOut)(rest:List SV):nR h κ T pre out (.own k 0::rest)=eX h κ k T pre out (h k) (ay h rest):=rfl
theorem yj(h:Hp)(κ k:Nat)(T T' : TypeId)(pre:List AV->List AV->Prop)(out:List AV->List AV->BOut)(vs:List SV)(as_:List AV)(rs' : List Nat):eX h κ k T pre out (some (.cells T' vs)) (some (as_,rs'))=gF κ k T T' pre out as_ rs' (ay h vs):=rfl
theorem B2(κ k:Nat)(T T' : TypeId)(pre:List AV->List AV->Prop)(out:List AV->List AV->BOut)(as_:List AV)(rs' : List Nat)(fs:List AV)(rs:List Nat):gF κ k T T' pre out as_ rs' (some (fs,rs))=fL κ k T (T' = T/\pre fs as_) rs rs' (out fs as_):=rfl
theorem De(κ k:Nat)(T:TypeId)(pre:Prop)(rs rs' : List Nat)(v:Value)(fs:List AV):fL κ k T pre rs rs' (.ret v fs)=⟨pre/\(k::rs).Nodup/\(∀ j∈rs',j∉k::rs)/\fs.length<=8,.v v,db rs++(bZ (aT (8*κ) fs)++[(k,some (.cells T (aF (8*κ) fs)))]),none,[],k::(rs++rs')⟩:=rfl
theorem Eo(κ k:Nat)(T:TypeId)(pre:Prop)(rs rs' : List Nat)(c:List PanicEntry)(v:Value):fL κ k T pre rs rs' (.pan c v)=⟨pre/\(k::rs).Nodup/\(∀ j∈rs',j∉k::rs),.v v,[],some c,k::rs,k::(rs++rs')⟩:=rfl
theorem LK(k:IntKind)(n:Int):p9 .xor [.v (.int k n)]=⟨True,.v (.int k (bI .xor k (if k.signed then -1 else k.max) n)),[],none,[],[]⟩:=rfl
theorem gf:db []=[]:=rfl
theorem fS(k:Nat)(r:List Nat):db (k::r)=(k,none)::db r:=rfl
theorem KY(k:Nat):aT k []=[]:=rfl
theorem My(k:Nat)(v:Value)(r:List AV):aT k (.val v::r)=aT (k+1) r:=rfl
theorem MJ(k:Nat)(T s n:Nat)(vs:List Value)(r:List AV):aT k (.row T s n vs::r)=(k,.row T s n (vs.map .v))::aT (k+1) r:=rfl
theorem IA(k:Nat):aF k []=[]:=rfl
theorem GS(k:Nat)(v:Value)(r:List AV):aF k (.val v::r)=.v v::aF (k+1) r:=rfl
theorem Gg(k:Nat)(T s n:Nat)(vs:List Value)(r:List AV):aF k (.row T s n vs::r)=.hd k::aF (k+1) r:=rfl
theorem Lz:bZ []=[]:=rfl
theorem GX(k:Nat)(e:aI)(r:List (Nat×aI)):bZ ((k,e)::r)=(k,some e)::bZ r:=rfl
def σB(T:TypeId)(fs:List AV)(args:List Value):St:=⟨1,cL ((0,.is (.own 0 0))::sc args 1),cf ((0,.cells T (aF 1 fs))::aT 1 fs)⟩
theorem Ow{k:Nat}{fs:List AV}{j:Nat}{e:aI}(h:cf (aT k fs) j=some e):(j,e)∈aT k fs:=bK h
theorem vG{w:World}{nt m:Nat}{T:TypeId}{fs:List AV}{u:Value}{fp:List Nat}(us:Array Value)(hlen:fs.length<=7)(ho:bJ w u fp T fs)(hlt:∀ b∈fp,b<w.heap.size)(hnt:us.size+1+m=nt) :
  Sat w fp nt ⟨[],[(0,u)]⟩ (σB T fs us.toList) { tmps:=(#[u]++us)++Array.replicate m undef,defers:=[] } w:=by
 obtain⟨b,vs,rfl,hb,hvs,rfl,hnd⟩:=ho;have hl:=jx hvs;have hb' : b∉yc vs fs:=(List.nodup_cons.1 hnd).1;have hnd' : (yc vs fs).Nodup:=(List.nodup_cons.1 hnd).2;have at' : ∀ j e,cf ((0,.cells T (aF 1 fs))::aT 1 fs) j=some e->(j=0/\e=.cells T (aF 1 fs))\/(j≠0/\(j,e)∈aT 1 fs):=λj e he=>by
  simp only[cf]at he;by_cases hj:j=0
  ·subst hj;rw[ai]at he;cases he;exact .inl ⟨rfl,rfl⟩
  ·rw[aj _ _ hj]at he;exact .inr ⟨hj,Ow he⟩
 have e0:iD 1 vs (λ_=>.pointer (some ⟨b,0,none⟩)) 0=.pointer (some ⟨b,0,none⟩):=kz (.inl oM)
 refine⟨⟨iD 1 vs (λ_=>.pointer (some ⟨b,0,none⟩)),a7 (gI 1 vs fs (λ_=>[])) 0 [b],λt=>?_,⟨λj e he=>?_,λj e he c hc=>?_,λj e he c hc=>?_,λi j e e' hij hi hj c hc=>?_,af.refl w _⟩,λp hp=>?_⟩,?_,rfl,λp hp=>?_,λt k hk=>?_,λj e he=>?_⟩
 ·show fits _ (cL ((0,.is (.own 0 0))::sc us.toList 1) t) _;simp only[cL,a7];split
  ·rename_i ht;subst ht;simp only[fits,den,e0,base,cy];rw[Array.getD_eq_getD_getElem?,Array.getElem?_append_left (by simp;omega),Array.getElem?_append_left sI];rfl
  ·refine rn _ us.toList 1 t (λt=>((#[Value.pointer (some ⟨b,0,none⟩)]++us)++Array.replicate m undef).getD t undef) λj hj=>?_
   have hj' : j<us.size:=by simpa using hj
   rw[Array.getD_eq_getD_getElem?,Array.getElem?_append_left (by simp;omega),Array.getElem?_append_right sI];simp[Array.getElem?_eq_getElem hj']
 ·rcases at' j e he with ⟨rfl,rfl⟩|⟨hj,hm⟩
  ·exact⟨b,e0,by rw[ai],by rw[hH hvs];exact hb⟩
  ·rw[aj _ _ hj];exact (ji hvs hm _).1
 ·rcases at' j e he with ⟨rfl,rfl⟩|⟨hj,hm⟩
  ·rw[ai]at hc;exact hlt c (by simp at hc;simp[hc])
  ·rw[aj _ _ hj]at hc;exact hlt c (List.mem_cons_of_mem _ (cR hl hm c hc))
 ·right;rcases at' j e he with ⟨rfl,rfl⟩|⟨hj,hm⟩
  ·rw[ai]at hc;simp at hc;simp[hc]
  ·rw[aj _ _ hj]at hc;exact List.mem_cons_of_mem _ (cR hl hm c hc)
 ·rcases at' i e hi with ⟨rfl,rfl⟩|⟨hi0,hmi⟩
  ·rcases at' j e' hj with ⟨rfl,rfl⟩|⟨hj0,hmj⟩
   ·exact absurd rfl hij
   ·rw[ai]at hc;rw[aj _ _ hj0];simp only[List.mem_singleton]at hc;subst hc;exact λhc' => hb' (cR hl hmj c hc')
  ·rw[aj _ _ hi0]at hc;rcases at' j e' hj with ⟨rfl,rfl⟩|⟨hj0,hmj⟩
   ·rw[ai];intro hc';simp only[List.mem_singleton]at hc';subst hc';exact hb' (cR hl hmi c hc)
   ·rw[aj _ _ hj0];exact iy hnd' hmi hmj hl hij c hc
 ·simp only[List.mem_singleton]at hp;subst hp;exact e0
 ·simp;omega
 ·simp only[List.mem_singleton]at hp;subst hp;show 0 / 8<1;omega
 ·simp only[σB,cL,a7]at hk;split at hk
  ·simp[FV.keys,SV.keys]at hk;subst hk;show 0 / 8<1;omega
  ·rw[rW]at hk;cases hk
 ·rcases at' j e he with ⟨rfl,rfl⟩|⟨hj,hm⟩
  ·refine⟨by show 0 / 8<1;omega,λi hi=>?_⟩;have:=cB i hi;show i / 8<1;omega
  ·have:=eL _ hm;refine⟨by show j / 8<1;simp only at this;omega,λi hi=>?_⟩;rw[this.2.2]at hi;cases hi
theorem bx{P:Program}{f:FuncId}{fn:Func}{c:Code}{w:World}{nt:Nat}{T:TypeId}{u:Value}{fp:List Nat}{fs:List AV}{out:BOut}(us:Array Value)(rs:List ResultVar)
  (hlen:fs.length<=7) (ho:bJ w u fp T fs) (hlt:∀ b∈fp,b<w.heap.size)
  (hf:P.funcs[f]?=some fn) (hb:fn.body=some c) (hrs:fn.results.toList=rs) (hnt:us.size+1+(fn.ntmps-(us.size+1))=nt)
  (h:Wp P w fp nt ⟨[],[(0,u)]⟩ c (Fin P rs (λ_ _ x h=>∃ v fs',out=.ret v fs' /\ (∀ E,den E x=v)/\∃ vs ks,h 0=some (.cells T vs)/\ay h vs=some (fs',ks)/\(0::ks).Nodup) (λc _=>∃ v,out=.pan c v)) (σB T fs us.toList)) :
  Calls P f (#[u]++us) w λe w' => iQ w u fp T e w' out:=by
 subst hrs;have hsat:=vG (nt:=nt) (m:=fn.ntmps-(us.size+1)) us hlen ho hlt hnt;have hsz:(#[u]++us).size=us.size+1:=by simp;omega
 refine (mn hf hb (by rw[hsz];exact hsat) h).mono λe w' he=>?_
 cases e with
 | returned v' =>
  obtain⟨W',bs',E,F,x,h',hx,⟨v,fs',rfl,hd,vs,ks,h0,hv,hn⟩,rfl,hs,hp⟩:=he;have hs' := hs.back hx;have hE:E 0=u:=hp (0,u) sI;have ho' := fW hs' h0 hv hn;rw[hE]at ho';refine⟨by rw[hd E],⟨_,ho',λb hb=>?_,λb hb=>?_⟩,hs'.keeps⟩
  ·obtain⟨j,hj,hbj⟩:=List.mem_flatMap.1 hb;have:∃ e,h' j=some e:=by
    rcases List.mem_cons.1 hj with rfl|hj
    ·exact⟨_,h0⟩
    ·exact (b7 hs' hv).2 j hj
   obtain⟨e,he⟩:=this;exact (hs'.mine j e he b hbj).symm
  ·obtain⟨j,hj,hbj⟩:=List.mem_flatMap.1 hb;have:∃ e,h' j=some e:=by
    rcases List.mem_cons.1 hj with rfl|hj
    ·exact⟨_,h0⟩
    ·exact (b7 hs' hv).2 j hj
   obtain⟨e,he⟩:=this;exact hs'.lt j e he b hbj
 |panicked c=>
  obtain⟨W',bs',E,F,h',hx,⟨_,rfl⟩,hs,hp⟩:=he;exact⟨rfl,(hs.back hx).keeps⟩
 |outgrown=>exact he.elim
end
section
def ev7:=(aa @LK (aa @Ga (aa @CO (aa @yj (aa @B2 (aa @De (aa @Eo (aa @gf (aa @fS (aa @KY (aa @My (aa @MJ (aa @IA (aa @GS (aa @Gg (aa @Lz @GX))))))))))))))))
end
section
open Go.RowKit
theorem acG:IntKind.i64.bits=64/\IntKind.u64.bits=64/\IntKind.u8.bits=8/\IntKind.i32.bits=32/\IntKind.u32.bits=32/\IntKind.u16.bits=16:=⟨rfl,rfl,rfl,rfl,rfl,rfl⟩
structure Kp (P:Program)(f:FuncId) where
 pre:World->List Nat->List AV->Prop
 res:World->List AV->Value
 ok:∀ (W w:World) (bs:List Nat) (us:List Value) (as_:List AV),af W bs w->eJ w us as_->pre W bs as_->(callFunc f us.toArray).run P w=.ok (.value (res W as_)) w
def Kp.spec{P:Program}{f:FuncId}(p:Kp P f):Spec P f where
 ev:=λW bs _ h args=>DS p.pre p.res W bs (ay h args)
 good:=λW bs κ E F h w K args hs hK hk hx hside=>by
  cases hv:ay h args with
  |none=>rw[hv]at hside;exact hside.elim
  |some q=>
   obtain⟨as_,rs⟩:=q;rw[hv]at hside;rw[p.ok W w bs _ as_ hs.keeps (di hs hv) hside];exact Good.pure hs rfl rfl rfl
 keys:=λW bs κ h K args hK hx hside=>by
  cases hv:ay h args with
  |none=>rw[hv]at hside;exact hside.elim
  |some q=>exact aC.plain (λk hk=>by cases hk) rfl
 loc:=λW bs κ h h' args hside hr=>by
  cases hv:ay h args with
  |none=>rw[hv]at hside;exact hside.elim
  |some q=>
   obtain⟨as_,rs⟩:=q;rw[hv]at hr;rw[cm hv hr]
theorem aE{P:Program}{f:FuncId}(p:Kp P f)(W:World)(bs:List Nat)(κ:Nat)(h:Hp)(l:List SV):p.spec.ev W bs κ h l=DS p.pre p.res W bs (ay h l):=rfl
theorem aeC:min 6 8=6/\min 6 64=6/\min 4 8=4/\min 1 64=1/\min 2 64=2/\min 4 64=4/\min 8 64=8/\min 16 64=16/\min 32 64=32:=by decide
section
variable {P:Program}{W:World}{bs:List Nat}{κ:Nat}{h:Hp}{Γ:Env P}
theorem Bs(fn:Fn)(first cap:Array Operand)(l:List SV):dk Γ W bs κ h (.makeFunc fn first cap) l=⟨True,.fn fn (l.take first.size) (l.drop first.size),[],none,[],[]⟩:=rfl
theorem xR(x:Operand)(xT T:TypeId)(ok:Bool)(l:List SV):dk Γ W bs κ h (.typeAssert x xT T ok) l=dY P T ok l:=rfl
theorem WD(as_:Array Operand)(tys:Array TypeId)(l:List SV):dk Γ W bs κ h (.call { callee:=.builtin .min,args:=as_,argTypes:=tys }) l=oT l:=rfl
theorem VP(as_:Array Operand)(tys:Array TypeId)(l:List SV):dk Γ W bs κ h (.call { callee:=.builtin .max,args:=as_,argTypes:=tys }) l=nj l:=rfl
theorem H7(f:FuncId)(first cap rest:List SV):jc Γ W bs κ h (.fn (.func f) first cap::rest)=lB Γ W bs κ h f (first++rest++cap):=rfl
theorem SF(f:Fn)(a c:List SV):cp (.fn f a c)=true:=rfl
theorem F0(f:Fn)(a c:List SV):partsOf (.fn f a c)=[.fn f a c]:=rfl
theorem H3(f:Fn)(a c:Array Value):cp (.v (.func f a c))=true:=rfl
theorem Bf(f:Fn)(a c:Array Value):partsOf (.v (.func f a c))=[.v (.func f a c)]:=rfl
theorem yv:cp (.v .nilFunc)=true:=rfl
theorem tn:partsOf (.v .nilFunc)=[.v .nilFunc]:=rfl
def ncK(k o:Nat):Option (List SV)->R
 |some vs=>⟨o<vs.length,.own k o,[],none,[],[k]⟩
 |none=>.bad
theorem qO(k o:Nat):cC h [.own k o]=ncK k o (bN (h k)):=by
 simp only[cC];unfold ncK;rcases bN (h k) with _|vs<;>rfl
theorem Sm(k o:Nat)(vs:List SV):ncK k o (some vs)=⟨o<vs.length,.own k o,[],none,[],[k]⟩:=rfl
def WH(k o n:Nat)(i:Int)(vs:List SV):Option Nat->R
 |some sz=>⟨0<=i/\i<n/\1<n/\o<vs.length,.own k (o+i.toNat*sz),[],none,[],[k]⟩
 |none=>.bad
def ixO(P:Program)(k o:Nat)(i:Int):Option TypeDesc->Option (List SV)->R
 |some (.array n e),some vs=>WH k o n i vs (ts P e)
 |_,_=>.bad
theorem r9(T:TypeId)(k o:Nat)(ik:IntKind)(i:Int):a8 P h T [.own k o,.v (.int ik i)]=ixO P k o i (P.underlying T) (bN (h k)):=by
 simp only[a8];unfold ixO;rcases P.underlying T with _|d
 ·rfl
 ·rcases bN (h k) with _|vs
  ·cases d<;>rfl
  ·cases d<;>first|rfl|(rename_i n e;simp only[WH];rcases ts P e with _|sz<;>rfl)
theorem WS(k o:Nat)(i:Int)(n:Nat)(e:TypeId)(vs:List SV):ixO P k o i (some (.array n e)) (some vs)=WH k o n i vs (ts P e):=rfl
theorem Lq(k o n:Nat)(i:Int)(vs:List SV)(sz:Nat):WH k o n i vs (some sz)=⟨0<=i/\i<n/\1<n/\o<vs.length,.own k (o+i.toNat*sz),[],none,[],[k]⟩:=rfl
def inB(n:Nat)(i:Int)(l:List SV):Option Nat->Option Bool->R
 |some sz,some true=>⟨0<=i/\i<n/\i.toNat*sz+sz<=l.length,.agg ((l.drop (i.toNat*sz)).take sz),[],none,[],[]⟩
 |some sz,some false=>⟨0<=i/\i<n/\i.toNat*sz<l.length,l.getD (i.toNat*sz) (.v undef),[],none,[],[]⟩
 |_,_=>.bad
def inA(P:Program)(i:Int)(l:List SV):Option TypeDesc->R
 |some (.array n e)=>inB n i l (ts P e) (ta P e)
 |_=>.bad
theorem AW(T:TypeId)(l:List SV)(ik:IntKind)(i:Int):eD P T [.agg l,.v (.int ik i)]=inA P i l (P.underlying T):=by
 simp only[eD];unfold inA;rcases P.underlying T with _|d
 ·rfl
 ·cases d<;>first|rfl|(rename_i n e;simp only[inB];rcases ts P e with _|sz<;>rcases ta P e with _|b<;>first|rfl|(cases b<;>simp[ej,R.fO]))
theorem yG(T:TypeId)(cs:Array Value)(ik:IntKind)(i:Int):eD P T [.v (.agg cs),.v (.int ik i)]=inA P i (cs.toList.map .v) (P.underlying T):=by
 simp only[eD];unfold inA;rcases P.underlying T with _|d
 ·rfl
 ·cases d<;>first|rfl|(rename_i n e;simp only[inB];rcases ts P e with _|sz<;>rcases ta P e with _|b<;>first|rfl|(cases b<;>simp[ej,R.fO]))
theorem UA(i:Int)(l:List SV)(n:Nat)(e:TypeId):inA P i l (some (.array n e))=inB n i l (ts P e) (ta P e):=rfl
theorem Yl(n:Nat)(i:Int)(l:List SV)(sz:Nat):inB n i l (some sz) (some true)=⟨0<=i/\i<n/\i.toNat*sz+sz<=l.length,.agg ((l.drop (i.toNat*sz)).take sz),[],none,[],[]⟩:=rfl
theorem VG(n:Nat)(i:Int)(l:List SV)(sz:Nat):inB n i l (some sz) (some false)=⟨0<=i/\i<n/\i.toNat*sz<l.length,l.getD (i.toNat*sz) (.v undef),[],none,[],[]⟩:=rfl
def cvI(n:Int):Option TypeDesc->Option TypeDesc->R
 |some _,some (.int k)=>⟨True,.v (.int k (k.wrap n)),[],none,[],[]⟩
 |_,_=>.bad
theorem uZ(src dst:TypeId)(k:IntKind)(n:Int):dN P src dst [.v (.int k n)]=cvI n (P.underlying src) (P.underlying dst):=by
 simp only[dN];unfold cvI;rcases P.underlying src with _|d<;>rcases P.underlying dst with _|d' <;> first|rfl|(cases d' <;> rfl)
theorem Vm(n:Int)(d:TypeDesc)(k:IntKind):cvI n (some d) (some (.int k))=⟨True,.v (.int k (k.wrap n)),[],none,[],[]⟩:=rfl
theorem G4(t:TypeId)(x:Value):jB [.v (.iface t x)]=⟨True,.v undef,[],some [{ v:=.iface t x,recovered:=false }],[],[]⟩:=rfl
def miK(P:Program)(T:TypeId)(l:List SV):Option (List Value)->R
 |some vs=>⟨P.concrete T=true,.v (.iface T (.agg vs.toArray)),[],none,[],[]⟩
 |none=>⟨P.concrete T=true,.ifc T (.agg l),[],none,[],[]⟩
theorem HH(T:TypeId)(l:List SV):lH P T [.agg l]=miK P T l (cI l):=by
 simp only[lH,jR];unfold miK;rcases cI l with _|vs<;>rfl
theorem PF(T:TypeId)(l:List SV)(vs:List Value):miK P T l (some vs)=⟨P.concrete T=true,.v (.iface T (.agg vs.toArray)),[],none,[],[]⟩:=rfl
def aK(T t:TypeId)(x:SV)(ok:Bool):Option Bool->Option Value->R
 |some false,some z=>match ok with
  |true=>⟨True,if t=T then .tup [x,.v (.bool true)] else .tup [.v z,.v (.bool false)],[],none,[],[]⟩
  |false=>⟨t=T,x,[],none,[],[]⟩
 |_,_=>.bad
theorem EX(T t:TypeId)(x:Value)(ok:Bool):dY P T ok [.v (.iface t x)]=aK T t (.v x) ok (isIface P T) (AG P T):=by
 simp only[dY];unfold aK;rcases isIface P T with _|b
 ·rfl
 ·cases b<;>rcases AG P T with _|z<;>first|rfl|(cases ok<;>rfl)
theorem Ro(T t:TypeId)(x:SV)(z:Value):aK T t x false (some false) (some z)=⟨t=T,x,[],none,[],[]⟩:=rfl
theorem U0(T t:TypeId)(x:SV)(z:Value):aK T t x true (some false) (some z)=⟨True,if t=T then .tup [x,.v (.bool true)] else .tup [.v z,.v (.bool false)],[],none,[],[]⟩:=rfl
def nK(ok:Bool):Option Bool->Option Value->R
 |some false,some z=>match ok with
  |true=>⟨True,.tup [.v z,.v (.bool false)],[],none,[],[]⟩
  |false=>.bad
 |_,_=>.bad
theorem yr(T:TypeId)(ok:Bool):dY P T ok [.v .nilIface]=nK ok (isIface P T) (AG P T):=by
 simp only[dY];unfold nK;rcases isIface P T with _|b
 ·rfl
 ·cases b<;>rcases AG P T with _|z<;>first|rfl|(cases ok<;>rfl)
theorem W9(z:Value):nK true (some false) (some z)=⟨True,.tup [.v z,.v (.bool false)],[],none,[],[]⟩:=rfl
def Gw:Option TypeDesc->Bool
 |some (.array _ _)=>true
 |_=>false
theorem FX(n:Nat)(e:TypeId):Gw (some (.array n e))=true:=rfl
def Bv(idx:List Nat)(args:List SV)(zs:List Value):Option Nat->R
 |some sz=>HI (pU sz (zs.map .v) (idx.zip args))
 |none=>.bad
def FF(P:Program)(idx:List Nat)(args:List SV):Option (List Value)->Option TypeDesc->R
 |some zs,some (.array _ e)=>Bv idx args zs (ts P e)
 |_,_=>.bad
theorem Cl(T:TypeId)(idx:List Nat)(args:List SV)(ha:Gw (P.underlying T)=true):fI P T idx args=FF P idx args (tz P T) (P.underlying T):=by
 unfold Gw at ha;split at ha
 ·rename_i n e hu;unfold fI FF;rw[hu];cases tz P T with
  |none=>rfl
  |some zs=>
   simp only[Bv,pU,HI];cases pI P T<;>cases ts P e with
   |none=>rfl
   |some sz=>cases dj (λi=>some (i*sz,sz)) (zs.map .v) (idx.zip args)<;>rfl
 ·cases ha
theorem F9(idx:List Nat)(args:List SV)(zs:List Value)(n:Nat)(e:TypeId):FF P idx args (some zs) (some (.array n e))=Bv idx args zs (ts P e):=rfl
theorem Ez(idx:List Nat)(args:List SV)(zs:List Value)(sz:Nat):Bv idx args zs (some sz)=HI (pU sz (zs.map .v) (idx.zip args)):=rfl
theorem Fy(a b:Int):oT [.v (.int .i64 a),.v (.int .i64 b)]=⟨True,.v (.int .i64 (if b<a then b else a)),[],none,[],[]⟩:=rfl
theorem HS(a b:Int):nj [.v (.int .i64 a),.v (.int .i64 b)]=⟨True,.v (.int .i64 (if a<b then b else a)),[],none,[],[]⟩:=rfl
theorem Ce(a b c:Int):nj [.v (.int .i64 a),.v (.int .i64 b),.v (.int .i64 c)]=⟨True,.v (.int .i64 (if (if a<b then b else a)<c then c else (if a<b then b else a))),[],none,[],[]⟩:=rfl
end
open Classical in
noncomputable def dec{α:Type}(f:α->Value)(v:Value):Option α:=if h:∃ a,v=f a then some h.choose else none
theorem ix{α:Type}{f:α->Value}{v:Value}{a:α}(h:dec f v=some a):v=f a:=by
 unfold dec at h;split at h
 ·rename_i h1;simp only[Option.some.injEq]at h;rw[<- h];exact h1.choose_spec
 ·cases h
theorem cG{α:Type}{f:α->Value}(hf:∀ a b,f a=f b->a=b)(a:α):dec f (f a)=some a:=by
 unfold dec;have h1:∃ b,f a=f b:=⟨a,rfl⟩;rw[dif_pos h1];exact congrArg some (hf _ _ h1.choose_spec).symm
section
variable {P:Program}(eqs:(T:TypeId)->Option (EqSpec P T))(h:Hp)(op:BinOp)(T:TypeId)(X Y:Operand)
theorem M9(p:Prop)(b:Bool)(rd:List Nat):cO .eql p b rd=⟨p,.v (.bool b),[],none,[],rd⟩:=rfl
theorem Nt(p:Prop)(b:Bool)(rd:List Nat):cO .neq p b rd=⟨p,.v (.bool (!b)),[],none,[],rd⟩:=rfl
theorem EI(k k' : IntKind)(a b:Int):bz P eqs h op T X Y [.v (.int k a),.v (.int k' b)]=aL P eqs op T [.v (.int k a),.v (.int k' b)]:=rfl
theorem Du(a b:ByteArray):bz P eqs h op T X Y [.v (.string a),.v (.string b)]=aL P eqs op T [.v (.string a),.v (.string b)]:=rfl
theorem Bc(a b:Bool):bz P eqs h op T X Y [.v (.bool a),.v (.bool b)]=aL P eqs op T [.v (.bool a),.v (.bool b)]:=rfl
theorem Hh(a b:List SV):bz P eqs h op T X Y [.agg a,.agg b]=aL P eqs op T [.agg a,.agg b]:=rfl
theorem HG(a:List SV)(b:Array Value):bz P eqs h op T X Y [.agg a,.v (.agg b)]=aL P eqs op T [.agg a,.v (.agg b)]:=rfl
theorem Hz(a:Array Value)(b:List SV):bz P eqs h op T X Y [.v (.agg a),.agg b]=aL P eqs op T [.v (.agg a),.agg b]:=rfl
theorem G2(a b:Array Value):bz P eqs h op T X Y [.v (.agg a),.v (.agg b)]=aL P eqs op T [.v (.agg a),.v (.agg b)]:=rfl
theorem FD:bz P eqs h op T X Y [.v .nilIface,.v .nilIface]=cO op (isIface P T=some true/\(iH X||iH Y)=true) true []:=rfl
theorem Hb(t:TypeId)(x:Value):bz P eqs h op T X Y [.v .nilIface,.v (.iface t x)]=cO op (isIface P T=some true) false []:=rfl
theorem HK(t:TypeId)(x:Value):bz P eqs h op T X Y [.v (.iface t x),.v .nilIface]=cO op (isIface P T=some true) false []:=rfl
theorem Fv(t:TypeId)(x:SV):bz P eqs h op T X Y [.v .nilIface,.ifc t x]=cO op (isIface P T=some true) false []:=rfl
theorem Gc(t:TypeId)(x:SV):bz P eqs h op T X Y [.ifc t x,.v .nilIface]=cO op (isIface P T=some true) false []:=rfl
theorem Fz:bz P eqs h op T X Y [.v (.pointer none),.v (.pointer none)]=cO op (jH P T=some true) true []:=rfl
theorem Ht(a:Addr):bz P eqs h op T X Y [.v (.pointer none),.v (.pointer (some a))]=cO op (jH P T=some true) false []:=rfl
theorem Gv(a:Addr):bz P eqs h op T X Y [.v (.pointer (some a)),.v (.pointer none)]=cO op (jH P T=some true) false []:=rfl
def Ee(P:Program)(op:BinOp)(T:TypeId)(k o:Nat):Option (List SV)->R
 |some vs=>cO op (jH P T=some true/\o<vs.length) false [k]
 |none=>.bad
theorem FO(k o:Nat)(vs:List SV):Ee P op T k o (some vs)=cO op (jH P T=some true/\o<vs.length) false [k]:=rfl
theorem GU(k o:Nat):bz P eqs h op T X Y [.own k o,.v (.pointer none)]=Ee P op T k o (bN (h k)):=by
 simp only[bz];unfold Ee;cases bN (h k)<;>rfl
theorem Hq(k o:Nat):bz P eqs h op T X Y [.v (.pointer none),.own k o]=Ee P op T k o (bN (h k)):=by
 simp only[bz];unfold Ee;cases bN (h k)<;>rfl
theorem xv(v:Value):iH (.const v)=true:=rfl
theorem Bb(t:Nat):iH (.tmp t)=false:=rfl
end
section
variable {P:Program}(h:Hp)(src dst:TypeId)
theorem AZ(k:IntKind)(n:Int):fB P h src dst [.v (.int k n)]=dN P src dst [.v (.int k n)]:=rfl
theorem A8(s:ByteArray):fB P h src dst [.v (.string s)]=dN P src dst [.v (.string s)]:=rfl
theorem DX(k:Nat):fB P h src dst [.hd k]=cvH P src dst k (h k):=rfl
theorem Xn(k T n:Nat)(vs:List SV):cvH P src dst k (some (.row T 1 n vs))=cvB P k n (P.underlying src) (P.underlying dst) (jO vs):=rfl
theorem SR(k n e:Nat)(ns:List Int):cvB P k n (some (.slice e)) (some .string) (some ns)=⟨P.underlying e=some (.int .u8)/\ns.length=n,.v (.string (b6 ns)),[],none,[],[k]⟩:=rfl
theorem FG:jO []=some []:=rfl
theorem sU(n:Int)(r:List SV):jO (.v (.int .u8 n)::r)=(jO r).map (n::·):=rfl
theorem mv:∀ ns:List Int,jO (ns.map λn=>SV.v (.int .u8 n))=some ns
 |[]=>rfl
 |n::r=>by rw[List.map_cons,sU,mv r];rfl
end
end
section
def ev8:=(aa @aE (aa @Bs (aa @xR (aa @WD (aa @VP (aa @H7 (aa @SF (aa @F0 (aa @H3 (aa @Bf (aa @yv (aa @tn (aa @qO (aa @Sm (aa @r9 (aa @WS (aa @Lq (aa @AW (aa @yG (aa @UA (aa @Yl (aa @VG (aa @uZ (aa @Vm (aa @G4 (aa @HH (aa @PF (aa @EX (aa @Ro (aa @U0 (aa @yr (aa @W9 (aa @FX (aa @Cl (aa @F9 (aa @Ez (aa @Fy (aa @HS @Ce))))))))))))))))))))))))))))))))))))))
def ev9:=aa @Mh <| aa @GL <| aa @GG <| aa @PB <| (aa @M9 (aa @Nt (aa @EI (aa @Du (aa @Bc (aa @Hh (aa @HG (aa @Hz (aa @G2 (aa @FD (aa @Hb (aa @HK (aa @Fv (aa @Gc (aa @Fz (aa @Ht (aa @Gv (aa @FO (aa @GU (aa @Hq (aa @xv (aa @Bb (aa @AZ (aa @A8 (aa @DX (aa @Xn (aa @SR (aa @FG (aa @sU @mv)))))))))))))))))))))))))))))
end
section
open Go.RowKit
section
variable {P:Program}{fn:Func}
theorem Leaves.mono{tmps:Array Value}{R R' : Ending->World->Prop}(hr:∀ e w,R e w->R' e w):∀ (ds:List Deferred) (u:FrameMode) (w:World),Leaves P fn tmps R ds u w->Leaves P fn tmps R' ds u w
 |[],.run,_,h=>h.elim
 |[],.returning,_,h=>by obtain⟨v,h1,h2⟩:=h;exact⟨v,h1,hr _ _ h2⟩
 |[],.panicking c,_,h=>hr _ _ h
 |d::ds,u,w,h=>by
  obtain⟨h0,fv,cap,f,args,h1,h2,h3⟩:=h;refine⟨h0,fv,cap,f,args,h1,h2,h3.mono λe u' w' he=>?_⟩;cases e with
  |returned v=>exact Leaves.mono hr ds _ _ he
  |panicked c=>exact Leaves.mono hr ds _ _ he
  |outgrown=>exact hr _ _ he
theorem wy{R R' : Ending->World->Prop}(hr:∀ e w,R e w->R' e w)(e:Exit)(a:Act)(w:World)(h:bodyPostD P fn R e a w):bodyPostD P fn R' e a w:=by
 cases e with
 |normal=>exact Leaves.mono hr _ _ _ h
 |ret=>exact Leaves.mono hr _ _ _ h
 |panic c=>exact Leaves.mono hr _ _ _ h
 |outgrown=>exact hr _ _ h
 |exit i=>exact h.elim
 |goto l=>exact h.elim
theorem Ends.back{W W' : World}{bs bs' : List Nat}{pins:List (Nat×Value)}{Rr:World->List Nat->SV->Hp->Prop}{Rp:List PanicEntry->Hp->Prop}{e:Ending}{w:World}(he:Ext W bs W' bs')(h:Ends W' bs' pins Rr Rp e w):Ends W bs pins Rr Rp e w:=by
 cases e with
 |returned v=>obtain⟨W'',bs'',E,F,x,h',hx,r⟩:=h;exact⟨W'',bs'',E,F,x,h',he.trans hx,r⟩
 |panicked c=>obtain⟨W'',bs'',E,F,h',hx,r⟩:=h;exact⟨W'',bs'',E,F,h',he.trans hx,r⟩
 |outgrown=>exact h.elim
def jY(P:Program)(fn:Func)(nt:Nat)(pins:List (Nat×Value))(Rr:World->List Nat->SV->Hp->Prop)(Rp:List PanicEntry->Hp->Prop)(W:World)(bs:List Nat)(c:Code)(σ:St):Prop:=
 ∀ a w,Sat W bs nt ⟨[],pins⟩ σ a w->c.wp P (bodyPostD P fn (Ends W bs pins Rr Rp)) a w
variable {nt:Nat}{pins:List (Nat×Value)}{Rr:World->List Nat->SV->Hp->Prop}{Rp:List PanicEntry->Hp->Prop}{W:World}{bs:List Nat}{σ:St}
theorem Lo{f:FuncId}{c:Code}{args:Array Value}{w:World}(hf:P.funcs[f]?=some fn)(hb:fn.body=some c)
  (hsat:Sat W bs nt ⟨[],pins⟩ σ { tmps:=args++Array.replicate (fn.ntmps-args.size) undef,defers:=[] } w)
  (h:jY P fn nt pins Rr Rp W bs c σ):Calls P f args w (Ends W bs pins Rr Rp):=calls_of_wp_defers hf hb (h _ w hsat)
theorem mI{W' : World}{bs' : List Nat}{σ' : St}{a:Act}{w:World}{ds:List Deferred}(hs:Sat W' bs' nt ⟨ds,pins⟩ σ' a w)(hx:Ext W bs W' bs')(hq:(ia P W' bs' σ' fn.results.toList).1/\Rr W' bs' (jK (ia P W' bs' σ' fn.results.toList).2) σ'.h) :
  ∃ v,(results fn a.tmps).run P w=.ok v w/\Ends W bs pins Rr Rp (.returned v) w:=by
 obtain⟨E,F,hφ,hh,hp⟩:=hs.ex;exact⟨_,iz hφ hh hq.1,W',bs',E,F,_,_,hx,hq.2,rfl,hh,hp⟩
theorem jY.seq{x y:Code}(h:Wp P W bs nt ⟨[],pins⟩ x (Th (λW' bs' σ' => jY P fn nt pins Rr Rp W' bs' y σ') (Fin P fn.results.toList Rr Rp)) σ):jY P fn nt pins Rr Rp W bs (.seq x y) σ:=λa w hs=>
 wp_seq (wp_mono (h a w hs) λe a' w' ⟨W',bs',σ',he,hq,hs'⟩=>by
  cases e with
  |normal=>exact wp_mono (hq a' w' hs') λe a w h=>wy (λe w=>Ends.back he) e a w h
  |ret=>
   have hd:=hs'.defers
   show Leaves P fn a'.tmps _ a'.defers .returning w'
   rw[hd]
   exact mI hs' he hq
  |panic c=>
   have hd:=hs'.defers
   show Leaves P fn a'.tmps _ a'.defers (.panicking c) w'
   rw[hd]
   obtain⟨E,F,hφ,hh,hp⟩:=hs'.ex
   exact⟨W',bs',E,F,_,he,hq,hh,hp⟩
  |exit i=>exact hq.elim
  |goto l=>exact hq.elim
  |outgrown=>exact hq.elim)
theorem jY.wp{c:Code}(h:Wp P W bs nt ⟨[],pins⟩ c (Fin P fn.results.toList Rr Rp) σ):jY P fn nt pins Rr Rp W bs c σ:=λa w hs=>
 wp_mono (h a w hs) λe a' w' ⟨W',bs',σ',he,hq,hs'⟩=>by
  have hd:=hs'.defers;cases e with
  |normal=>show Leaves P fn a'.tmps _ a'.defers .returning w';rw[hd];exact mI hs' he hq
  |ret=>show Leaves P fn a'.tmps _ a'.defers .returning w';rw[hd];exact mI hs' he hq
  |panic c=>
   show Leaves P fn a'.tmps _ a'.defers (.panicking c) w';rw[hd];obtain⟨E,F,hφ,hh,hp⟩:=hs'.ex;exact⟨W',bs',E,F,_,he,hq,hh,hp⟩
  |exit i=>exact hq.elim
  |goto l=>exact hq.elim
  |outgrown=>exact hq.elim
def jf(w:World):List Value->List Nat->List TypeId->List (List Value)->Prop
 |[],[],[],[]=>True
 |u::us,b::bl,T::Ts,vs::vss=>u=.pointer (some ⟨b,0,none⟩)/\w.heap[b]?=some (.cells vs.toArray T (0,0))/\jf w us bl Ts vss
 |_,_,_,_=>False
def Br(P:Program):List TypeId->List (List Value)->List Value->Prop
 |[],[],[]=>True
 |T::Ts,cs::css,v::vs=>((ts P T=some cs.length/\ta P T=some true/\v=.agg cs.toArray)\/(ta P T=some false/\cs=[v]))/\Br P Ts css vs
 |_,_,_=>False
def Lg:List Value->Value
 |[v]=>v
 |l=>.tuple l.toArray
structure CatchC (P:Program)(f:FuncId) where
 Ts:List TypeId
 enters:∀ args w,(callFunc f args).run P w=.ok (.enter f args) w
 pre:List (List Value)->Value->Prop
 out:List (List Value)->Value->List (List Value)
 lY:List (List Value)->Value->List Value
 vals_ok:∀ vss pv,pre vss pv->Br P Ts (out vss pv) (lY vss pv)
 quiet:∀ (w:World) (us:List Value),us.length=Ts.length->CallsD P f us.toArray .returning w λe u' w' => (∃ v,e=.returned v)/\u' = .returning/\af w [] w'
 caught:∀ (w:World) (us:List Value) (bl:List Nat) (vss:List (List Value)) (pv:Value),jf w us bl Ts vss->bl.Nodup->(∀ b∈bl,b<w.heap.size)->pre vss pv ->
  CallsD P f us.toArray (.panicking [{ v:=pv,recovered:=false }]) w λe u' w' => (∃ v,e=.returned v)/\u' = .panicking [{ v:=pv,recovered:=true }]/\af w bl w' /\ jf w' us bl Ts (out vss pv)
def rG:List Nat->List TypeId->List ResultVar
 |t::tl,T::Ts=>.cell t T::rG tl Ts
 |_,_=>[]
theorem jf.run{tmps:Array Value}{w:World}:∀ {tl:List Nat} {us:List Value} {bl:List Nat} {Ts:List TypeId} {css:List (List Value)} {vs:List Value},jf w us bl Ts css->Br P Ts css vs->tl.map (λt=>tmps.getD t undef)=us ->
  ((rG tl Ts).mapM (ko { tmps:=tmps,defers:=[] })).run P w=.ok vs w
 |[],us,bl,Ts,css,vs,h1,h2,h3=>by
  subst h3
  match bl,Ts,css,vs,h1,h2 with
  |[],[],[],[],_,_=>rfl
 | t::tl,us,bl,Ts,css,vs,h1,h2,h3=>by
  subst h3
  match bl,Ts,css,vs,h1,h2 with
  | b::bl,T::Ts,cs::css,v::vs,h1,h2=>
   obtain⟨e1,e2,e3⟩:=h1;obtain⟨f1,f2⟩:=h2
   replace e1:tmps.getD t undef=_:=e1
   have ih:=jf.run (tmps:=tmps) (tl:=tl) e3 f2 rfl;have one:(ko { tmps:=tmps,defers:=[] } (.cell t T)).run P w=.ok v w:=by
    simp only[ko];rw[e1];have hc:∀ j x,cs[j]?=some x->w.cell? ⟨b,0+j,none⟩=some x:=λj x hx=>by
     simp[World.cell?,e2,hx]
    rcases f1 with ⟨g1,g2,rfl⟩|⟨g2,rfl⟩
    ·have:=fM (P:=P) (w:=w) g1 g2 ⟨b,0,none⟩ cs rfl (λj x hx=>by rw[Addr.add_lit];exact hc j x hx);simpa [asAddr] using this
    ·have:=fN (P:=P) (w:=w) g2 ⟨b,0,none⟩ v (by simpa using hc 0 v rfl);simpa [asAddr] using this
   simp only[rG,List.mapM_cons];simp[one,ih]
theorem Be{tmps:Array Value}{w:World}{tl:List Nat}{us:List Value}{bl:List Nat}{Ts:List TypeId}{css:List (List Value)}{vs:List Value}(h1:jf w us bl Ts css)(h2:Br P Ts css vs)(h3:tl.map (λt=>tmps.getD t undef)=us)
  (hr:fn.results.toList=rG tl Ts):(results fn tmps).run P w=.ok (Lg vs) w:=by
 have h4:=jf.run (P:=P) (tmps:=tmps) h1 h2 h3;have h2:results fn tmps=((Functor.map List.toArray (fn.results.toList.mapM (ko { tmps:=tmps,defers:=[] }))) >>= λ(vs:Array Value)=>(pure (if h:vs.size=1 then vs[0] else .tuple vs):Sem Value)):=by
  rw[<- Array.mapM_eq_mapM_toList];unfold results
  congr 1
 rw[h2,hr];simp only[map_eq_pure_bind,bind_assoc,pure_bind];simp[h4]
 match vs with
 |[]=>simp[Lg]
 |[x]=>simp[Lg]
 |x::y::r=>simp[Lg]
def IU(σ:St):List Nat->List Nat->List TypeId->List (List Value)->Prop
 |[],[],[],[]=>True
 |t::tl,k::ks,T::Ts,vs::vss=>σ.φ t=.is (.own k 0)/\σ.h k=some (.cells T (vs.map .v))/\IU σ tl ks Ts vss
 |_,_,_,_=>False
def WR{f:FuncId}(C:CatchC P f)(rs:List ResultVar)(tl ks:List Nat)(Rr:World->List Nat->SV->Hp->Prop)(Rp:List PanicEntry->Hp->Prop):jZ
 |.normal,W,bs,σ|.ret,W,bs,σ=>(ia P W bs σ rs).1/\Rr W bs (jK (ia P W bs σ rs).2) σ.h
 |.panic c,W,bs,σ=>∃ pv vss,c=[{ v:=pv,recovered:=false }]/\IU σ tl ks C.Ts vss/\C.pre vss pv/\Rr W bs (.v (Lg (C.lY vss pv))) (dropKeys σ.h ks)
 |_,_,_,_=>False
def Jw(f:FuncId)(us:List Value):Deferred:=⟨.fn (.func f) us.toArray,#[]⟩
theorem gD.tmp{E:Nat->Value}{φ:Fr}{a:Act}{t:Nat}{x:SV}(h:gD E φ a)(ht:φ t=.is x):a.tmps.getD t undef=den E x:=by
 have:=h t;rw[ht]at this;exact this
theorem uz{σ:St}{E:Nat->Value}{F:Nat->List Nat}{a:Act}{w:World}(hφ:gD E σ.φ a)(hh:ab W bs E F σ.h w):∀ {tl ks:List Nat} {Ts:List TypeId} {vss:List (List Value)},IU σ tl ks Ts vss->ks.Nodup ->
  jf w (ks.map E) (ks.flatMap F) Ts vss/\tl.map (λt=>a.tmps.getD t undef)=ks.map E/\(ks.flatMap F).Nodup/\(∀ b∈ks.flatMap F,b<w.heap.size)/\(∀ k∈ks,∃ e,σ.h k=some e)
 |[],[],[],[],_,_=>⟨trivial,rfl,List.nodup_nil,sI,sI⟩
 | t::tl,k::ks,T::Ts,vs::vss,h,hn=>by
  obtain⟨h1,h2,h3⟩:=h;obtain⟨hk,hn⟩:=List.nodup_cons.1 hn;obtain⟨i1,i2,i3,i4,i5⟩:=uz hφ hh h3 hn;obtain⟨b,hu,hF,hb⟩:=hh.ent k _ h2;have hd:ah E (vs.map .v)=vs:=by
   rw[aW,List.map_map];exact (List.map_congr_left (λ_ _=>rfl)).trans (List.map_id vs)
  rw[hd]at hb;have e1:a.tmps.getD t undef=E k:=by
   rw[hφ.tmp h1,den,hu];rfl
  refine⟨?_,?_,?_,?_,?_⟩
  ·rw[List.map_cons,List.flatMap_cons,hF];exact⟨hu,hb,i1⟩
  ·rw[List.map_cons,List.map_cons,e1,i2]
  ·rw[List.flatMap_cons,hF];refine List.nodup_cons.2 ⟨λhm=>?_,i3⟩;obtain⟨j,hj,hbj⟩:=List.mem_flatMap.1 hm;obtain⟨e,he⟩:=i5 j hj;exact hh.apart k j _ e (λe' => hk (e' ▸ hj)) h2 he b (by rw[hF];simp) hbj
  ·intro c hc;rw[List.flatMap_cons]at hc;rcases List.mem_append.1 hc with hc|hc
   ·exact hh.lt k _ h2 c hc
   ·exact i4 c hc
  ·intro j hj;rcases List.mem_cons.1 hj with rfl|hj
   ·exact⟨_,h2⟩
   ·exact i5 j hj
theorem af.nil{W w w' : World}{bs:List Nat}(h:af W bs w)(h' : af w [] w'):af W bs w' := h.trans h' λb hb=>by cases hb
theorem jf.keeps{w w' : World}(h:af w [] w'):∀ {us:List Value} {bl:List Nat} {Ts:List TypeId} {vss:List (List Value)},jf w us bl Ts vss->(∀ b∈bl,b<w.heap.size)->jf w' us bl Ts vss
 |[],[],[],[],_,_=>trivial
 |u::us,b::bl,T::Ts,vs::vss,hl,hlt=>⟨hl.1,by rw[h.block b (hlt b sI) sI];exact hl.2.1,jf.keeps h hl.2.2 λc hc=>hlt c (by simp[hc])⟩
theorem jY.defer{f:FuncId}(C:CatchC P f)(tl ks:List Nat){id d:Nat}{y:Code}{T1 T2:TypeId}{p1 p2:String}{a1 a2:Array Edge}
  (hks:ks.Nodup) (hrs:fn.results.toList=rG tl C.Ts) (hd:d<nt) (hlen:tl.length=C.Ts.length) (hlen2:ks.length=C.Ts.length)
  (hcap:∀ p∈tl.zip ks,σ.φ p.1=.is (.own p.2 0)) (hcel:∀ k∈ks,∃ T vs,σ.h k=some (.cells T vs))
  (h:∀ us:List Value,us.length=C.Ts.length->Wp P W bs nt ⟨[Jw f us],ks.zip us++pins⟩ y (WR C fn.results.toList tl ks Rr Rp) ⟨σ.n+2,a7 σ.φ d .any,σ.h⟩) :
  jY P fn nt pins Rr Rp W bs (.seq (.region id #[{ dst:=some d,op:=.makeFunc (.func f) #[] (tl.map Operand.tmp).toArray,type:=T1,pos:=p1,after:=a1,guard:=none },{ dst:=none,op:=.defer { callee:=.value (.tmp d),args:=#[],argTypes:=#[] },type:=T2,pos:=p2,after:=a2,guard:=none }] false) y) σ:=λa w hs=>by
 obtain⟨E,F,hφ,hh,hp⟩:=hs.ex;have hbl:∀ k∈ks,∃ b,E k=.pointer (some ⟨b,0,none⟩):=λk hk=>by
  obtain⟨T,vs,he⟩:=hcel k hk;obtain⟨b,hu,_⟩:=hh.ent k _ he;exact⟨b,hu⟩
 have htv:∀ (tl ks:List Nat),tl.length=ks.length->(∀ p∈tl.zip ks,σ.φ p.1=.is (.own p.2 0))->(∀ k∈ks,∃ b,E k=.pointer (some ⟨b,0,none⟩))->tl.map (λt=>a.tmps.getD t undef)=ks.map E:=by
  intro tl
  induction tl with
  |nil=>intro ks hl _ _;cases ks with
   |nil=>rfl
   |cons _ _=>cases hl
  | cons t tl ih=>
   intro ks hl hc hb;cases ks with
   |nil=>cases hl
   |cons k ks=>
    have e1:=hφ.tmp (hc (t,k) sI);obtain⟨b,he⟩:=hb k sI;rw[List.map_cons,List.map_cons,e1,den,he,ih ks (by simpa using hl) (λp hp=>hc p (by simp[hp])) λj hj=>hb j (by simp[hj])];rfl
 have hmem:∀ (tl ks:List Nat),tl.length=ks.length->∀ k∈ks,∃ t∈tl,(t,k)∈tl.zip ks:=by
  intro tl
  induction tl with
  |nil=>intro ks hl k hk;cases ks with
   |nil=>cases hk
   |cons _ _=>cases hl
  | cons t tl ih=>
   intro ks hl k hk;cases ks with
   |nil=>cases hk
   | cons j ks=>
    rcases List.mem_cons.1 hk with rfl|hk
    ·exact⟨t,sI,sI⟩
    ·obtain⟨t',h1,h2⟩:=ih ks (by simpa using hl) k hk;exact⟨t',by simp[h1],by simp[h2]⟩
 have htu:tl.map (λt=>a.tmps.getD t undef)=ks.map E:=htv tl ks oM hcap hbl;have hs2:Sat W bs nt ⟨[Jw f (ks.map E)],ks.zip (ks.map E)++pins⟩ ⟨σ.n+2,a7 σ.φ d .any,σ.h⟩ { tmps:=a.tmps.setIfInBounds d (.func (.func f) #[] (ks.map E).toArray),defers:=[Jw f (ks.map E)] } w:=by
  refine⟨⟨E,F,λt=>?_,hh,λp hp' => ?_⟩,by simp[hs.size],rfl,λp hp' => ?_,λt k hk=>?_,λj e he=>?_⟩
  ·show fits E (a7 σ.φ d .any t) ((a.tmps.setIfInBounds d (.func (.func f) #[] (ks.map E).toArray)).getD t undef);by_cases ht:t=d
   ·subst ht;rw[ai];trivial
   ·rw[aj _ _ ht];have:=hφ t
    rwa [show (a.tmps.setIfInBounds d (.func (.func f) #[] (ks.map E).toArray)).getD t undef=a.tmps.getD t undef from by
     rw[Array.getD_eq_getD_getElem?,Array.getD_eq_getD_getElem?,Array.getElem?_setIfInBounds_ne (λe=>ht e.symm)]]
  ·rcases List.mem_append.1 hp' with hp'|hp'
   ·have:∀ (l:List Nat) (p:Nat×Value),p∈l.zip (l.map E)->E p.1=p.2:=by
     intro l
     induction l with
     |nil=>intro p hp;cases hp
     |cons x l ih=>
      intro p hp;rcases List.mem_cons.1 hp with rfl|hp
      ·rfl
      ·exact ih p hp
    exact this ks p hp'
   ·exact hp p hp'
  ·rcases List.mem_append.1 hp' with hp'|hp'
   ·have hk:p.1∈ks:=(List.of_mem_zip hp').1;obtain⟨t,_,ht⟩:=hmem tl ks oM p.1 hk;have:=hs.fk t p.1 (by rw[hcap _ ht];simp[FV.keys,SV.keys]);show p.1 / 8<σ.n+2;omega
   ·have:=hs.pk p hp';show p.1 / 8<σ.n+2;omega
  ·have hk:k∈(a7 σ.φ d .any t).keys:=hk;by_cases ht:t=d
   ·subst ht;rw[ai]at hk;simp[FV.keys]at hk
   ·rw[aj _ _ ht]at hk;have:=hs.fk t k hk;show k / 8<σ.n+2;omega
  ·obtain⟨h1,h2⟩:=hs.hk j e he;exact⟨by show j / 8<σ.n+2;omega,λi hi=>by have:=h2 i hi;show i / 8<σ.n+2;omega⟩
 have h2:=h (ks.map E) (by simp[hlen2]) _ w hs2;have hda:d<a.tmps.size:=by rw[hs.size];exact hd
 have hev:(List.map (a.eval ∘ Operand.tmp) tl)=ks.map E:=by rw[<- htu];rfl
 refine wp_seq (wp_region ?_);simp[wpOps,go_sem,Exit.then];left;left;rw[if_pos hda,hev,hs.defers];refine wp_mono h2 λe a' w' ⟨W',bs',σ',he,hq,hs'⟩=>?_
 have hds:=hs'.defers;have hlu:(ks.map E).length=C.Ts.length:=by simp[hlen2]
 have still:∀ {E' : Nat->Value} {F' : Nat->List Nat} {h' : Hp} {w'' : World},ab W' bs' E' F' h' w' -> bp (λ_=>True) h' -> af w' [] w'' -> ab W' bs' E' F' h' w'' := λ{E' F' h' w''} hh' hK hk=>
  hh'.lI hK [] (λ_=>none) (λk hk=>by cases hk) (λ_ _=>rfl) (λj e he=>by cases he) (λi j e e' _ he=>by cases he) (λ_ _ _ _=>rfl) (λj=>by simp) (by simpa using hk)
 have all:∀ {h' : Hp},bp (· / 8<σ'.n) h' -> bp (λ_=>True) h' := λhK j x hx=>⟨trivial,λ_ _=>trivial⟩
 have plain:∀ hq' : (ia P W' bs' σ' fn.results.toList).1/\Rr W' bs' (jK (ia P W' bs' σ' fn.results.toList).2) σ'.h,Leaves P fn a'.tmps (Ends W bs pins Rr Rp) a'.defers .returning w' := λhq' => by
  rw[hds];refine leaves_cons (f:=f) (args:=(ks.map E).toArray) sI (by simp[go_sem,C.enters]) ?_;refine (C.quiet w' _ hlu).mono λe u' w'' ⟨⟨v,hv⟩,hu,hk⟩=>?_
  subst hv;subst hu;obtain⟨E',F',hφ',hh',hp'⟩:=hs'.ex;have hh'' := still hh' (all hs'.hk) hk;exact⟨_,iz hφ' hh'' hq'.1,W',bs',E',F',_,_,he,hq'.2,rfl,hh'',λp hp=>hp' p (List.mem_append_right _ hp)⟩
 cases e with
 |normal=>exact plain hq
 |ret=>exact plain hq
 |exit i=>exact hq.elim
 |goto l=>exact hq.elim
 |outgrown=>exact hq.elim
 | panic c=>
  obtain⟨pv,vss,rfl,hcap',hpre,hR⟩:=hq;show Leaves P fn a'.tmps (Ends W bs pins Rr Rp) a'.defers (.panicking _) w';rw[hds];refine leaves_cons (f:=f) (args:=(ks.map E).toArray) sI (by simp[go_sem,C.enters]) ?_;obtain⟨E',F',hφ',hh',hp'⟩:=hs'.ex;obtain⟨g1,g2,g3,g4,g5⟩:=uz hφ' hh' hcap' hks
  have hEE:ks.map E' = ks.map E:=by
   refine List.map_congr_left λk hk=>?_
   have:∀ (l:List Nat),k∈l->(k,E k)∈l.zip (l.map E):=by
    intro l
    induction l with
    |nil=>intro h;cases h
    |cons x l ih=>
     intro h;rcases List.mem_cons.1 h with rfl|h
     ·simp
     ·simp[ih h]
   exact hp' (k,E k) (List.mem_append_left _ (this ks hk))
  rw[hEE]at g1 g2;refine (C.caught w' _ _ vss pv g1 g3 g4 hpre).mono λe u' w'' ⟨⟨v,hv⟩,hu,hk,hl⟩=>?_
  subst hv;subst hu;have hrun:=Be (P:=P) (fn:=fn) hl (C.vals_ok vss pv hpre) g2 hrs;have hh'' : ab W' bs' E' F' (dropKeys σ'.h ks) w'' :=
   hh'.lI (all hs'.hk) ks (λ_=>none) g5 (λ_ _=>rfl) (λj e he=>by cases he) (λi j e e' _ he=>by cases he) (λ_ _ _ _=>rfl) (λj=>by simp[dropKeys]) hk
  exact⟨_,hrun,W',bs',E',F',_,_,he,hR,rfl,hh'',λp hp=>hp' p (List.mem_append_right _ hp)⟩
end
def mO(j:Nat):List TypeId->List (Nat×FV)
 |[]=>[]
 |_::r=>(j,.is (.own j 0))::mO (j+1) r
def xK(j:Nat):List TypeId->List (List Value)->List (Nat×aI)
 |T::Ts,vs::vss=>(j,.cells T (vs.map .v))::xK (j+1) Ts vss
 |_,_=>[]
def UI(h:Hp):Nat->List TypeId->List (List Value)->Prop
 |_,[],[]=>True
 |j,T::Ts,vs::vss=>h j=some (.cells T (vs.map .v))/\UI h (j+1) Ts vss
 |_,_,_=>False
def Hk(j:Nat):List Value->List (Nat×Value)
 |[]=>[]
 |u::r=>(j,u)::Hk (j+1) r
theorem qR{p:Nat×FV}:∀ {j:Nat} {Ts:List TypeId},p∈mO j Ts->∃ i,i<Ts.length/\p=(j+i,.is (.own (j+i) 0))
 |j,[],h=>by cases h
 | j,T::r,h=>by
  rcases List.mem_cons.1 h with rfl|h
  ·exact⟨0,sI,rfl⟩
  ·obtain⟨i,h1,rfl⟩:=qR h;exact⟨i+1,by simpa using h1,by rw[show j+1+i=j+(i+1) by omega]⟩
theorem sf{p:Nat×aI}:∀ {j:Nat} {Ts:List TypeId} {vss:List (List Value)},p∈xK j Ts vss->∃ i T vs,Ts[i]?=some T/\vss[i]?=some vs/\p=(j+i,.cells T (vs.map .v))
 |j,[],vss,h=>by cases vss<;>cases h
 |j,T::r,[],h=>by cases h
 | j,T::r,vs::vss,h=>by
  rcases List.mem_cons.1 h with rfl|h
  ·exact⟨0,T,vs,rfl,rfl,rfl⟩
  ·obtain⟨i,T',vs',h1,h2,rfl⟩:=sf h;exact⟨i+1,T',vs',by simpa using h1,by simpa using h2,by rw[show j+1+i=j+(i+1) by omega]⟩
theorem uH{p:Nat×Value}:∀ {j:Nat} {us:List Value},p∈Hk j us->∃ i,us[i]?=some p.2/\p.1=j+i
 |j,[],h=>by cases h
 | j,u::r,h=>by
  rcases List.mem_cons.1 h with rfl|h
  ·exact⟨0,rfl,rfl⟩
  ·obtain⟨i,h1,h2⟩:=uH h;exact⟨i+1,by simpa using h1,oM⟩
section
variable {P:Program}
theorem jf.at{w:World}:∀ {us:List Value} {bl:List Nat} {Ts:List TypeId} {vss:List (List Value)},jf w us bl Ts vss->∀ {i:Nat} {T:TypeId} {vs:List Value},Ts[i]?=some T->vss[i]?=some vs ->
  ∃ b,bl[i]?=some b/\us[i]?=some (.pointer (some ⟨b,0,none⟩))/\w.heap[b]?=some (.cells vs.toArray T (0,0))
 |u::us,b::bl,T::Ts,vs::vss,h,0,T',vs',h1,h2=>by
  simp at h1 h2;subst h1;subst h2;exact⟨b,rfl,by rw[h.1];rfl,h.2.1⟩
 |u::us,b::bl,T::Ts,vs::vss,h,i+1,T',vs',h1,h2=>by
  simpa using h.2.2.at (i:=i) (T:=T') (vs:=vs') (by simpa using h1) (by simpa using h2)
 |[],[],[],[],_,i,T,vs,h1,_=>by simp at h1
theorem jf.len{w:World}:∀ {us:List Value} {bl:List Nat} {Ts:List TypeId} {vss:List (List Value)},jf w us bl Ts vss->us.length=Ts.length/\bl.length=Ts.length/\vss.length=Ts.length
 |[],[],[],[],_=>⟨rfl,rfl,rfl⟩
 |u::us,b::bl,T::Ts,vs::vss,h=>by
  obtain⟨h1,h2,h3⟩:=jf.len h.2.2;simp[h1,h2,h3]
theorem Dx(E:Nat->Value)(vs:List Value):ah E (vs.map .v)=vs:=by
 rw[aW,List.map_map];exact (List.map_congr_left (λ_ _=>rfl)).trans (List.map_id vs)
def σL(Ts:List TypeId)(vss:List (List Value)):St:=⟨1,cL (mO 0 Ts),cf (xK 0 Ts vss)⟩
theorem Qn{w:World}{nt m:Nat}{us:List Value}{bl:List Nat}{Ts:List TypeId}{vss:List (List Value)}(h:jf w us bl Ts vss)(hn:bl.Nodup)(hlt:∀ b∈bl,b<w.heap.size)(h8:us.length<=7)(hnt:us.length+m=nt) :
  Sat w bl nt ⟨[],Hk 0 us⟩ (σL Ts vss) { tmps:=us.toArray++Array.replicate m undef,defers:=[] } w:=by
 obtain⟨l1,l2,l3⟩:=h.len;have hF:∀ {i:Nat} {b:Nat},bl[i]?=some b->((bl[i]?).toList:List Nat)=[b]:=λh=>by rw[h];rfl
 refine⟨⟨λj=>us.getD j undef,λj=>(bl[j]?).toList,λt=>?_,⟨λj e he=>?_,λj e he c hc=>?_,λj e he c hc=>?_,λi j e e' hij hi hj c hc=>?_,af.refl w _⟩,λp hp=>?_⟩,by simp;omega,rfl,λp hp=>?_,λt k hk=>?_,λj e he=>?_⟩
 ·show fits _ (cL (mO 0 Ts) t) _;rcases gN (L:=mO 0 Ts) t with h0|⟨p,hp,h1,h2⟩
  ·rw[h0];trivial
  ·rw[h2];obtain⟨i,hi,rfl⟩:=qR hp;simp only[Nat.zero_add]at h1;subst h1;have hti:i<Ts.length:=hi;obtain⟨b,hb,hu,_⟩:=h.at (i:=i) (List.getElem?_eq_getElem hti) (List.getElem?_eq_getElem (by omega:i<vss.length));simp only[Nat.zero_add,fits,den]
   rw[Array.getD_eq_getD_getElem?,Array.getElem?_append_left (by simp;omega)];simp[hu,base,cy]
 ·obtain⟨i,T,vs,h1,h2,h3⟩:=sf (bK he);simp only[Nat.zero_add,Prod.mk.injEq]at h3;obtain⟨rfl,rfl⟩:=h3;obtain⟨b,hb,hu,hh⟩:=h.at h1 h2;exact⟨b,by simp[hu],hF hb,by rw[Dx];exact hh⟩
 ·simp only[Option.mem_toList]at hc;exact hlt c (List.mem_of_getElem? hc)
 ·simp only[Option.mem_toList]at hc;exact .inr (List.mem_of_getElem? hc)
 ·simp only[Option.mem_toList]at hc ⊢;intro hc';have h1:=List.getElem?_eq_some_iff.1 hc;have h2:=List.getElem?_eq_some_iff.1 hc';obtain⟨a1,a2⟩:=h1;obtain⟨b1,b2⟩:=h2;have hpw:=List.pairwise_iff_getElem.1 hn;rcases Nat.lt_or_gt_of_ne hij with hlt'|hlt'
  ·exact hpw i j a1 b1 hlt' (a2.trans b2.symm)
  ·exact hpw j i b1 a1 hlt' (b2.trans a2.symm)
 ·obtain⟨i,h1,h2⟩:=uH hp;simp only[Nat.zero_add]at h2;rw[h2];simp[h1]
 ·obtain⟨i,h1,h2⟩:=uH hp;have:=(List.getElem?_eq_some_iff.1 h1).1;show p.1 / 8<1;omega
 ·have hk:k∈(cL (mO 0 Ts) t).keys:=hk;rcases gN (L:=mO 0 Ts) t with h0|⟨p,hp,h1,h2⟩
  ·rw[h0]at hk;simp[FV.keys]at hk
  ·rw[h2]at hk;obtain⟨i,hi,rfl⟩:=qR hp;simp[FV.keys,SV.keys]at hk;show k / 8<1;omega
 ·obtain⟨i,T,vs,h1,h2,h3⟩:=sf (bK he);simp only[Nat.zero_add,Prod.mk.injEq]at h3;obtain⟨rfl,rfl⟩:=h3;have:=(List.getElem?_eq_some_iff.1 h1).1;refine⟨by show j / 8<1;omega,λi hi=>?_⟩;simp only[aI.keys,aA]at hi;cases hi
theorem Sat.put{W:World}{bs:List Nat}{nt:Nat}{ds:Aux}{σ:St}{a:Act}{w:World}(h:Sat W bs nt ds σ a w)(t:Nat)(v:Value)(ht:t<nt):Sat W bs nt ds ⟨σ.n,a7 σ.φ t (.is (.v v)),σ.h⟩ (a.put (some t) v) w:=by
 obtain⟨⟨E,F,hf,hs,hp⟩,h1,h2,h3,h4,h5⟩:=h;refine⟨⟨E,F,λs=>?_,hs,hp⟩,by simp[Act.put,h1],h2,h3,λs k hk=>?_,h5⟩
 ·show fits E (a7 σ.φ t (.is (.v v)) s) ((a.tmps.setIfInBounds t v).getD s undef);by_cases hst:s=t
  ·subst hst;rw[ai,Array.getD_eq_getD_getElem?,Array.getElem?_setIfInBounds_self_of_lt oM];rfl
  ·rw[aj _ _ hst,Array.getD_eq_getD_getElem?,Array.getElem?_setIfInBounds_ne (λe=>hst e.symm),<- Array.getD_eq_getD_getElem?];exact hf s
 ·have hk:k∈(a7 σ.φ t (.is (.v v)) s).keys:=hk;by_cases hst:s=t
  ·subst hst;rw[ai]at hk;simp[FV.keys,SV.keys]at hk
  ·rw[aj _ _ hst]at hk;exact h4 s k hk
def σR(σ:St)(e x:Nat)(v:Value):St:=⟨σ.n,a7 (a7 σ.φ e (.is (.v v))) x (.is (.v v)),σ.h⟩
theorem Sat.ZM{W:World}{bs:List Nat}{nt:Nat}{ds:Aux}{σ:St}{a:Act}{w:World}(h:Sat W bs nt ds σ a w)(e x:Nat)(v:Value)(he:e<nt)(hx:x<nt):Sat W bs nt ds (σR σ e x v) ((a.put (some e) v).put (some x) v) w:=
 (h.put e v he).put x v hx
theorem Oz{w:World}{nt:Nat}{tmps:Array Value}(h:tmps.size=nt):Sat w [] nt ⟨[],[]⟩ ⟨1,cL [],cf []⟩ { tmps:=tmps,defers:=[] } w:=by
 refine⟨⟨λ_=>undef,λ_=>[],λ_=>trivial,⟨λj e he=>?_,λj e he=>?_,λj e he=>?_,λi j e e' _ he=>?_,af.refl w _⟩,λp hp=>?_⟩,h,rfl,λp hp=>?_,λt k hk=>?_,λj e he=>?_⟩
 ·cases he
 ·cases he
 ·cases he
 ·cases he
 ·cases hp
 ·cases hp
 ·simp[cL,FV.keys]at hk
 ·cases he
theorem qe{f:FuncId}{fn:Func}{id e x:Nat}{T1 T2:TypeId}{p1 p2:String}{a1 a2:Array Edge}{rest:Code}{nt:Nat}(w:World)(us:List Value)
  (hf:P.funcs[f]?=some fn) (hb:fn.body=some (.seq (.region id #[{ dst:=some e,op:=.call { callee:=.builtin .recover,args:=#[],argTypes:=#[] },type:=T1,pos:=p1,after:=a1,guard:=none },{ dst:=some x,op:=.assign (.tmp e),type:=T2,pos:=p2,after:=a2,guard:=none }] false) rest))
  (hr:fn.results.toList=[]) (he:e<nt) (hx:x<nt) (hnt:us.length+(fn.ntmps-us.length)=nt)
  (h:Wp P w [] nt ⟨[],[]⟩ rest (Fin P [] (λ_ _ _ _=>True) (λ_ _=>False)) (σR ⟨1,cL [],cf []⟩ e x .nilIface)) :
  CallsD P f us.toArray .returning w λe u' w' => (∃ v,e=.returned v)/\u' = .returning/\af w [] w' := by
 refine callsD_of_wpS hf hb λc₀ cs hu=>wpS_seq (wpS_region ?_)
 have hs0:Sat w [] nt ⟨[],[]⟩ ⟨1,cL [],cf []⟩ { tmps:=us.toArray++Array.replicate (fn.ntmps-us.length) undef,defers:=[] } w:=
  Oz (by simp;omega)
 have hs1:=hs0.ZM e x .nilIface he hx;have h1:=h _ w hs1;simp[wpOpsS,go_sem,recoverD,hu,Exit.thenS];rw[if_pos oM];have hc:∀ u,c₀.mode=u->c₀::cs={ c₀ with mode:=u }::cs:=λu hu=>by subst hu;rfl
 refine wpS_of_wp (wp_mono h1 λe' a' w' ⟨W',bs',σ',hx',hq,hs'⟩=>?_);obtain⟨⟨E,F,hφ,hh,_⟩,_,hd,_⟩:=hs';have fin:a'.defers=[]/\∃ u',c₀::cs={ c₀ with mode:=u' }::cs/\∃ v,(results fn a'.tmps).run P w' = .ok v w' /\ (∃ v',Ending.returned v=.returned v')/\u' = .returning/\af w [] w' :=
  ⟨hd,_,hc _ hu,_,iz hφ hh (by rw[hr];trivial),⟨_,rfl⟩,rfl,(hh.back hx').keeps⟩
 cases e' with
 |normal=>exact fin
 |ret=>exact fin
 |panic c=>exact hq.elim
 |exit i=>exact hq.elim
 |goto l=>exact hq.elim
 |outgrown=>exact hq.elim
theorem zp{W:World}{bs:List Nat}{E:Nat->Value}{F:Nat->List Nat}{h:Hp}{w:World}(hh:ab W bs E F h w):∀ {j:Nat} {us:List Value} {bl:List Nat} {Ts:List TypeId} {vss:List (List Value)} {w0:World} {vs0:List (List Value)},jf w0 us bl Ts vs0->UI h j Ts vss->(∀ p∈Hk j us,E p.1=p.2)->jf w us bl Ts vss
 |j,[],[],[],[],w0,[],_,_,_=>trivial
 |j,u::us,b::bl,T::Ts,vs::vss,w0,v0::vs0,hl,hc,hp=>by
  obtain⟨h1,h2⟩:=hc;obtain⟨b',hu,hF,hb⟩:=hh.ent j _ h1;have e1:=hp (j,u) (by simp[Hk]);simp only at e1;rw[e1,hl.1]at hu;simp only[Value.pointer.injEq,Option.some.injEq,Addr.mk.injEq,and_true]at hu;subst hu;rw[Dx]at hb;exact⟨hl.1,hb,zp hh hl.2.2 h2 λp hp' => hp p (by simp[Hk,hp'])⟩
 |j,[],[],[],_::_,w0,[],_,hc,_=>hc.elim
 |j,u::us,b::bl,T::Ts,[],w0,v0::vs0,_,hc,_=>hc.elim
theorem oB{f:FuncId}{fn:Func}{id e x:Nat}{T1 T2:TypeId}{p1 p2:String}{a1 a2:Array Edge}{rest:Code}{nt:Nat}{w:World}{us:List Value}{bl:List Nat}{Ts:List TypeId}{vss:List (List Value)}{pv:Value}{out:List (List Value)}
  (hf:P.funcs[f]?=some fn) (hb:fn.body=some (.seq (.region id #[{ dst:=some e,op:=.call { callee:=.builtin .recover,args:=#[],argTypes:=#[] },type:=T1,pos:=p1,after:=a1,guard:=none },{ dst:=some x,op:=.assign (.tmp e),type:=T2,pos:=p2,after:=a2,guard:=none }] false) rest))
  (hr:fn.results.toList=[]) (he:e<nt) (hx:x<nt) (hnt:us.length+(fn.ntmps-us.length)=nt) (hl:jf w us bl Ts vss) (hn:bl.Nodup) (hlt:∀ b∈bl,b<w.heap.size) (h8:us.length<=7)
  (h:∀ us:List Value,us.length=Ts.length->Wp P w bl nt ⟨[],Hk 0 us⟩ rest (Fin P [] (λ_ _ _ h=>UI h 0 Ts out) (λ_ _=>False)) (σR (σL Ts vss) e x pv)) :
  CallsD P f us.toArray (.panicking [{ v:=pv,recovered:=false }]) w λe u' w' => (∃ v,e=.returned v)/\u' = .panicking [{ v:=pv,recovered:=true }]/\af w bl w' /\ jf w' us bl Ts out:=by
 refine callsD_of_wpS hf hb λc₀ cs hu=>wpS_seq (wpS_region ?_)
 have hs1:=(Qn hl hn hlt h8 hnt).ZM e x pv he hx;have h1:=h us hl.len.1 _ w hs1;simp[wpOpsS,go_sem,recoverD,hu,Exit.thenS];rw[if_pos oM];refine wpS_of_wp (wp_mono h1 λe' a' w' ⟨W',bs',σ',hx',hq,hs'⟩=>?_);obtain⟨⟨E,F,hφ,hh,hp⟩,_,hd,_⟩:=hs'
 have fin:((ia P W' bs' σ' []).1/\UI σ'.h 0 Ts out)->a'.defers=[]/\∃ u',{ c₀ with mode:=.panicking [{ v:=pv,recovered:=true }] }::cs={ c₀ with mode:=u' }::cs/\∃ v,(results fn a'.tmps).run P w' = .ok v w' /\ (∃ v',Ending.returned v=.returned v')/\u' = .panicking [{ v:=pv,recovered:=true }]/\af w bl w' /\ jf w' us bl Ts out:=λhq=>
  ⟨hd,_,rfl,_,iz hφ hh (by rw[hr];trivial),⟨_,rfl⟩,rfl,(hh.back hx').keeps,zp hh hl hq.2 hp⟩
 cases e' with
 |normal=>exact fin hq
 |ret=>exact fin hq
 |panic c=>exact hq.elim
 |exit i=>exact hq.elim
 |goto l=>exact hq.elim
 |outgrown=>exact hq.elim
end
section
variable {P:Program}{fn:Func}{nt:Nat}{pins:List (Nat×Value)}{Rr:World->List Nat->SV->Hp->Prop}{Rp:List PanicEntry->Hp->Prop}{W:World}{bs:List Nat}{σ:St}
theorem sC{f:FuncId}{c:Code}{args:Array Value}{w:World}{v:Value}(hf:P.funcs[f]?=some fn)(hb:fn.body=some c)(hnt:args.size+(fn.ntmps-args.size)=nt)
  (h:jY P fn nt [] (λ_ _ x _=>∀ E,den E x=v) (λ_ _=>False) w [] c (σ0 args.toList)):Calls P f args w λe w' => e=.returned v/\af w [] w' := by
 refine (Lo hf hb (rC args hnt) h).mono λe w' he=>?_
 cases e with
 |returned u=>
  obtain⟨W',bs',E,F,x,h,hx,hR,rfl,hs,_⟩:=he;exact⟨by rw[hR E],hx.dC hs.keeps⟩
 |panicked c=>obtain⟨_,_,_,_,_,_,hf,_⟩:=he;exact hf.elim
 |outgrown=>exact he.elim
theorem jY.seq'{rs:List ResultVar}(hrs:fn.results.toList=rs){x y:Code}(h:Wp P W bs nt ⟨[],pins⟩ x (Th (λW' bs' σ' => jY P fn nt pins Rr Rp W' bs' y σ') (Fin P rs Rr Rp)) σ):jY P fn nt pins Rr Rp W bs (.seq x y) σ:=by
 subst hrs;exact jY.seq h
theorem jY.P9{rs:List ResultVar}(hr:fn.results.toList=rs){f:FuncId}(C:CatchC P f)(tl ks:List Nat){id d:Nat}{y:Code}{T1 T2:TypeId}{p1 p2:String}{a1 a2:Array Edge}{caps:Array Operand}
  (hcaps:caps=(tl.map Operand.tmp).toArray) (hks:ks.Nodup) (hrs:rs=rG tl C.Ts) (hd:d<nt) (hlen:tl.length=C.Ts.length) (hlen2:ks.length=C.Ts.length)
  (hcap:∀ p∈tl.zip ks,σ.φ p.1=.is (.own p.2 0)) (hcel:∀ k∈ks,∃ T vs,σ.h k=some (.cells T vs))
  (h:∀ us:List Value,us.length=C.Ts.length->Wp P W bs nt ⟨[Jw f us],ks.zip us++pins⟩ y (WR C rs tl ks Rr Rp) ⟨σ.n+2,a7 σ.φ d .any,σ.h⟩) :
  jY P fn nt pins Rr Rp W bs (.seq (.region id #[{ dst:=some d,op:=.makeFunc (.func f) #[] caps,type:=T1,pos:=p1,after:=a1,guard:=none },{ dst:=none,op:=.defer { callee:=.value (.tmp d),args:=#[],argTypes:=#[] },type:=T2,pos:=p2,after:=a2,guard:=none }] false) y) σ:=by
 subst hcaps;subst hr;exact jY.defer C tl ks hks hrs hd hlen hlen2 hcap hcel h
variable {f:FuncId}(C:CatchC P f)(rs:List ResultVar)(tl ks:List Nat)
theorem kF:WR C rs tl ks Rr Rp .ret W bs σ=((ia P W bs σ rs).1/\Rr W bs (jK (ia P W bs σ rs).2) σ.h):=rfl
theorem jr(c:List PanicEntry):WR C rs tl ks Rr Rp (.panic c) W bs σ=∃ pv vss,c=[{ v:=pv,recovered:=false }]/\IU σ tl ks C.Ts vss/\C.pre vss pv/\Rr W bs (.v (Lg (C.lY vss pv))) (dropKeys σ.h ks):=rfl
end
mutual
def nZ(k:Nat)(u:Value):SV->SV
 |.v x=>.v x
 |.own j o=>bif j == k then .v (cy (base u) o) else .own j o
 |.hd j=>bif j == k then .v (hv u) else .hd j
 |.agg l=>.agg (rq k u l)
 |.tup l=>.tup (rq k u l)
 |.ifc t x=>.ifc t (nZ k u x)
 |.part j i=>bif j == k then .v (hv (D1 u i)) else .part j i
 |.fn f a c=>.fn f (rq k u a) (rq k u c)
def rq(k:Nat)(u:Value):List SV->List SV
 |[]=>[]
 |x::r=>nZ k u x::rq k u r
end
mutual
theorem uv{E:Nat->Value}{k:Nat}:∀ x:SV,den E (nZ k (E k) x)=den E x
 |.v x=>rfl
 | .own j o=>by
  simp only[nZ];by_cases hj:j=k
  ·subst hj;simp[den]
  ·have:(j == k)=false:=by simp[hj]
   simp[this]
 | .hd j=>by
  simp only[nZ];by_cases hj:j=k
  ·subst hj;simp[den]
  ·have:(j == k)=false:=by simp[hj]
   simp[this]
 |.agg l=>by simp only[nZ,den];rw[jN l]
 |.tup l=>by simp only[nZ,den];rw[jN l]
 |.ifc t x=>by simp only[nZ,den];rw[uv x]
 | .part j i=>by
  simp only[nZ];by_cases hj:j=k
  ·subst hj;simp[den]
  ·have:(j == k)=false:=by simp[hj]
   simp[this]
 |.fn f a c=>by simp only[nZ,den];rw[jN a,jN c]
theorem jN{E:Nat->Value}{k:Nat}:∀ l:List SV,ah E (rq k (E k) l)=ah E l
 |[]=>rfl
 |x::r=>by simp only[rq,ah];rw[uv x,jN r]
end
mutual
theorem mN{k:Nat}{u:Value}{j:Nat}:∀ x:SV,j∈(nZ k u x).keys->j∈x.keys/\j≠k
 |.v x,h=>by simp[nZ,SV.keys]at h
 | .own i o,h=>by
  simp only[nZ]at h;by_cases hi:i=k
  ·subst hi;simp[SV.keys]at h
  ·have:(i == k)=false:=by simp[hi]
   simp only[this,cond_false,SV.keys,List.mem_singleton]at h ⊢;exact⟨h,h ▸ hi⟩
 | .hd i,h=>by
  simp only[nZ]at h;by_cases hi:i=k
  ·subst hi;simp[SV.keys]at h
  ·have:(i == k)=false:=by simp[hi]
   simp only[this,cond_false,SV.keys,List.mem_singleton]at h ⊢;exact⟨h,h ▸ hi⟩
 |.agg l,h=>by simp only[nZ,SV.keys]at h ⊢;exact fD l h
 |.tup l,h=>by simp only[nZ,SV.keys]at h ⊢;exact fD l h
 |.ifc t x,h=>by simp only[nZ,SV.keys]at h ⊢;exact mN x h
 | .part i o,h=>by
  simp only[nZ]at h;by_cases hi:i=k
  ·subst hi;simp[SV.keys]at h
  ·have:(i == k)=false:=by simp[hi]
   simp only[this,cond_false,SV.keys,List.mem_singleton]at h ⊢;exact⟨h,h ▸ hi⟩
 |.fn f a c,h=>by
  simp only[nZ,SV.keys,List.mem_append]at h ⊢;rcases h with h|h
  ·exact⟨.inl (fD a h).1,(fD a h).2⟩
  ·exact⟨.inr (fD c h).1,(fD c h).2⟩
theorem fD{k:Nat}{u:Value}{j:Nat}:∀ l:List SV,j∈al (rq k u l)->j∈al l/\j≠k
 |[],h=>by simp[rq,al]at h
 |x::r,h=>by
  simp only[rq,al,List.mem_append]at h ⊢;rcases h with h|h
  ·exact⟨.inl (mN x h).1,(mN x h).2⟩
  ·exact⟨.inr (fD r h).1,(fD r h).2⟩
end
def UK(k:Nat)(u:Value):FV->FV
 |.is x=>.is (nZ k u x)
 |.cnd b x=>.cnd b (nZ k u x)
 |.any=>.any
def T5(k:Nat)(u:Value):aI->aI
 |.cells T vs=>.cells T (rq k u vs)
 |.row T s n vs=>.row T s n (rq k u vs)
 |.obj d R=>.obj d R
def NW(k:Nat)(u:Value)(φ:Fr):Fr:=λt=>UK k u (φ t)
def JQ(k:Nat)(u:Value)(h:Hp):Hp:=λj=>bif j == k then none else (h j).map (T5 k u)
theorem PQ{E:Nat->Value}{k:Nat}{f:FV}{u:Value}(h:fits E f u):fits E (UK k (E k) f) u:=by
 cases f with
 |is x=>simpa [UK,fits,uv] using h
 |cnd b x=>simpa [UK,fits,uv] using h
 |any=>trivial
theorem Rn{k:Nat}{u:Value}{f:FV}{j:Nat}(h:j∈(UK k u f).keys):j∈f.keys/\j≠k:=by
 cases f with
 |is x=>exact mN x h
 |cnd b x=>
  cases b with
  |false=>cases h
  |true=>exact mN x h
 |any=>cases h
theorem UD{E:Nat->Value}{k:Nat}{e:aI}{u:Value}{fp:List Nat}{w:World}(h:aZ E u fp w e):aZ E u fp w (T5 k (E k) e):=by
 cases e with
 |cells T vs=>simpa [T5,aZ,jN] using h
 |row T s n vs=>simpa [T5,aZ,jN] using h
 |obj d R=>exact h
theorem S5{k:Nat}{u:Value}{e:aI}{j:Nat}(h:j∈(T5 k u e).keys):j∈e.keys/\j≠k:=by
 cases e with
 |cells T vs=>exact fD vs h
 |row T s n vs=>exact fD vs h
 |obj d R=>cases h
theorem kP{k:Nat}{u:Value}{h:Hp}{j:Nat}{e:aI}(hh:JQ k u h j=some e):j≠k/\∃ e0,h j=some e0/\e=T5 k u e0:=by
 unfold JQ at hh;by_cases hj:j=k
 ·subst hj;simp at hh
 ·have:(j == k)=false:=by simp[hj]
  rw[this,cond_false,Option.map_eq_some_iff]at hh;obtain⟨e0,h1,h2⟩:=hh;exact⟨hj,e0,h1,h2.symm⟩
theorem Sat.DK{W:World}{bs:List Nat}{nt:Nat}{ds:Aux}{σ:St}{a:Act}{w:World}(k:Nat)(hsat:Sat W bs nt ds σ a w) :
  ∃ E F bs',Ext W bs w bs' /\ ab W bs E F σ.h w/\(∀ e,σ.h k=some e->∀ b∈F k,b∉bs')/\Sat w bs' nt ds ⟨σ.n,NW k (E k) σ.φ,JQ k (E k) σ.h⟩ a w:=by
 classical
 obtain⟨⟨E,F,hφ,hs,hp⟩,hsz,hdf,hpk,hfk,hhk⟩:=hsat;have hmem:∃ bs' : List Nat,∀ b,b∈bs' ↔ ∃ j e,j≠k/\σ.h j=some e/\b∈F j:=by
  refine⟨(List.range (8*σ.n)).flatMap λj=>if j=k\/σ.h j=none then [] else F j,λb=>?_⟩;rw[List.mem_flatMap];constructor
  ·rintro⟨j,_,hb⟩;split at hb
   ·cases hb
   ·rename_i hn;have h1:j≠k:=λe=>hn (.inl e)
    have h2:σ.h j≠none:=λe=>hn (.inr e)
    obtain⟨e,he⟩:=Option.ne_none_iff_exists'.1 h2;exact⟨j,e,h1,he,hb⟩
  ·rintro⟨j,e,hj,he,hb⟩;have:=(hhk j e he).1;refine⟨j,List.mem_range.2 oM,?_⟩;rw[if_neg (by rw[he];simp[hj])];exact hb
 obtain⟨bs',hmem⟩:=hmem;have hx:Ext W bs w bs' := ⟨hs.keeps,λb hb=>by
  obtain⟨j,e,_,he,hbj⟩:=(hmem b).1 hb
  exact hs.mine j e he b hbj⟩
 refine⟨E,F,bs',hx,hs,λe he b hb hb' => ?_,?_⟩
 ·obtain⟨j,e2,hj,he2,hbj⟩:=(hmem b).1 hb';exact hs.apart k j e e2 (Ne.symm hj) he he2 b hb hbj
 ·refine⟨⟨E,F,λt=>PQ (hφ t),⟨λj e he=>?_,λj e he b hb=>?_,λj e he b hb=>?_,λi j e e' hij hi hj b hb=>?_,af.refl w _⟩,hp⟩,hsz,hdf,hpk,λt j hj=>hfk t j (Rn hj).1,λj e he=>?_⟩
  ·obtain⟨hj,e0,h1,rfl⟩:=kP he;exact UD (hs.ent j e0 h1)
  ·obtain⟨hj,e0,h1,rfl⟩:=kP he;exact hs.lt j e0 h1 b hb
  ·obtain⟨hj,e0,h1,rfl⟩:=kP he;exact .inr ((hmem b).2 ⟨j,e0,hj,h1,hb⟩)
  ·obtain⟨_,e0,h1,rfl⟩:=kP hi;obtain⟨_,e1,h2,rfl⟩:=kP hj;exact hs.apart i j e0 e1 hij h1 h2 b hb
  ·obtain⟨hj,e0,h1,rfl⟩:=kP he;exact⟨(hhk j e0 h1).1,λi hi=>(hhk j e0 h1).2 i (S5 hi).1⟩
def Fu(nt:Nat)(ds:Aux)(X:World->List Nat->St->Prop):Prop:=∀ W bs σ,(∀ a w,Sat W bs nt ds σ a w->∃ W' bs' σ',Ext W bs W' bs' /\ X W' bs' σ' /\ Sat W' bs' nt ds σ' a w)->X W bs σ
theorem Wp.clo{P:Program}{nt:Nat}{ds:Aux}{c:Code}{Q:jZ}:Fu nt ds (λW bs σ=>Wp P W bs nt ds c Q σ):=λW bs σ h a w hs=>by
 obtain⟨W',bs',σ',hx,hX,hs'⟩:=h a w hs;exact wp_mono (hX a w hs') λe' a' w' hh' => nI hx hh'
def Pw(nt:Nat)(ds:Aux)(W:World)(bs:List Nat)(σ:St)(Q:World->List Nat->St->Prop):Prop:=
 ∀ a w,Sat W bs nt ds σ a w->∃ W' bs' σ',Ext W bs W' bs' /\ Q W' bs' σ' /\ Sat W' bs' nt ds σ' a w
theorem Pw.clo{nt:Nat}{ds:Aux}{Q:World->List Nat->St->Prop}:Fu nt ds (λW bs σ=>Pw nt ds W bs σ Q):=λW bs σ h a w hs=>by
 obtain⟨W',bs',σ',hx,hX,hs'⟩:=h a w hs;obtain⟨W2,bs2,σ2,hx2,hq,hs2⟩:=hX a w hs';exact⟨W2,bs2,σ2,hx.trans hx2,hq,hs2⟩
theorem Pw.here{nt:Nat}{ds:Aux}{Q:World->List Nat->St->Prop}{W:World}{bs:List Nat}{σ:St}(h:Q W bs σ):Pw nt ds W bs σ Q:=λa w hs=>⟨W,bs,σ,Ext.refl W bs,h,hs⟩
def Mo(nt:Nat)(ds:Aux)(Q:jZ):jZ
 |.normal,W,bs,σ=>Pw nt ds W bs σ (Q .normal)
 |e,W,bs,σ=>Q e W bs σ
theorem dV{nt:Nat}{ds:Aux}{Q:jZ}{W:World}{bs:List Nat}{σ:St}(h:Pw nt ds W bs σ (Q .normal)):Mo nt ds Q .normal W bs σ:=h
theorem Wp.more{P:Program}{W:World}{bs:List Nat}{nt:Nat}{ds:Aux}{c:Code}{Q:jZ}{σ:St}(h:Wp P W bs nt ds c (Mo nt ds Q) σ):Wp P W bs nt ds c Q σ:=λa w hs=>
 wp_mono (h a w hs) λe a' w' ⟨W',bs',σ',he,hq,hs'⟩=>by
  cases e with
  |normal=>
   obtain⟨W2,bs2,σ2,hx2,hq2,hs2⟩:=hq a' w' hs';exact⟨W2,bs2,σ2,he.trans hx2,hq2,hs2⟩
  |_=>exact⟨W',bs',σ',he,hq,hs'⟩
section
variable {nt:Nat}{ds:Aux}{X:World->List Nat->St->Prop}{W:World}{bs:List Nat}{σ:St}
theorem Fu.DK(hX:Fu nt ds X)(k:Nat)
  (h:∀ W' bs' E F,Ext W bs W' bs' -> ab W bs E F σ.h W' -> (∀ e,σ.h k=some e->∀ b∈F k,b∉bs')->X W' bs' ⟨σ.n,NW k (E k) σ.φ,JQ k (E k) σ.h⟩):X W bs σ:=
 hX W bs σ λa w hs=>by
  obtain⟨E,F,bs',hx,hh,hb,hs'⟩:=hs.DK k;exact⟨w,bs',_,hx,h w bs' E F hx hh hb,hs'⟩
end
structure FK where
 Φ:List Value->World->(Nat->Prop)->Prop
 mono:∀ {cs:List Value} {W:World} {S:Nat->Prop} {W' : World} {S' : Nat->Prop},bV W S W' S' -> Φ cs W S->Φ cs W' S'
def fi(G:Nat->Prop)(bs:List Nat):Nat->Prop:=λb=>G b/\b∉bs
theorem fi.out{G:Nat->Prop}{bs:List Nat}{b:Nat}(h:fi G bs b):Out bs b:=h.2
def Up(G:Nat->Prop)(W:World)(bs:List Nat):Prop:=∀ b,W.heap.size<=b\/b∈bs->G b
theorem Up.ext{G:Nat->Prop}{W W' : World}{bs bs' : List Nat}(h:Up G W bs)(hx:Ext W bs W' bs'):Up G W' bs' := λb hb=>
 hb.elim (λh1=>h b (.inl (Nat.le_trans hx.keeps.size h1))) λh1=>h b (hx.sub b h1)
theorem Up.true(W:World)(bs:List Nat):Up (λ_=>True) W bs:=λ_ _=>trivial
theorem Ext.Cm{G:Nat->Prop}{W W' : World}{bs bs' : List Nat}(h:Ext W bs W' bs'):bV W (fi G bs) W' (fi G bs'):=λb hb hs=>
 ⟨h.keeps.block b hb hs.2,hs.1,λhb' => (h.sub b hb').elim (λh1=>absurd h1 (Nat.not_le.2 hb)) hs.2⟩
def iV(G:Nat->Prop)(W:World)(bs:List Nat)(Φ:FK):List Value->Value->List Nat->World->Prop:=λ_ u fp w=>
 (∀ b∈fp,G b)/\∃ cs,u=cW cs/\∀ W₂ S₂,(∀ b,b<W.heap.size->fi G bs b->W₂.heap[b]?=W.heap[b]?/\S₂ b)->(∀ b∈fp,W₂.heap[b]?=w.heap[b]?/\S₂ b)->Φ.Φ cs W₂ S₂
section
variable {nt:Nat}{ds:Aux}{X:World->List Nat->St->Prop}{W:World}{bs:List Nat}{σ:St}
theorem Fu.gG(hX:Fu nt ds X)(k:Nat){G:Nat->Prop}{W0:World}{bs0:List Nat}{Φ:FK}(hk:σ.h k=some (.obj [] (iV G W0 bs0 Φ)))(h0:bV W0 (fi G bs0) W (fi G bs))
  (h:∀ W' bs' cs,Ext W bs W' bs' -> Φ.Φ cs W' (fi G bs')->X W' bs' ⟨σ.n,NW k (cW cs) σ.φ,JQ k (cW cs) σ.h⟩):X W bs σ:=by
 refine hX.DK k λW' bs' E F hx hs hb=>?_
 obtain⟨⟨⟨hG,cs,h1,h2⟩,_⟩,_⟩:=hs.ent k _ hk;rw[h1];refine h W' bs' cs hx (h2 W' (fi G bs') (λb hlt hr=>?_) λb hbk=>⟨rfl,hG b hbk,hb _ hk b hbk⟩);obtain⟨g1,g2⟩:=h0 b hlt hr;have hlt' : b<W.heap.size:=by
  by_cases hW:b<W.heap.size
  ·exact hW
  ·have:W.heap[b]?=none:=by simp;omega
   rw[this]at g1;have h3:W0.heap[b]?=some W0.heap[b]:=Array.getElem?_eq_getElem hlt;rw[h3]at g1;cases g1
 obtain⟨g3,g4⟩:=hx.Cm b hlt' g2;exact⟨g3.trans g1,g4⟩
theorem Fu.lV(hX:Fu nt ds X)(k:Nat){T:TypeId}{vs:List SV}{us:List Value}(hk:σ.h k=some (.cells T vs))(hv:∀ E,ah E vs=us)
  (h:∀ W' bs' b,Ext W bs W' bs' -> b∉bs' -> (W.heap.size<=b\/b∈bs)->W'.heap[b]?=some (.cells us.toArray T (0,0))->X W' bs' ⟨σ.n,NW k (.pointer (some ⟨b,0,none⟩)) σ.φ,JQ k (.pointer (some ⟨b,0,none⟩)) σ.h⟩):X W bs σ:=by
 refine hX.DK k λW' bs' E F hx hs hb=>?_
 obtain⟨b,h1,h2,h3⟩:=hs.ent k _ hk;rw[h1];have hbF:b∈F k:=by rw[h2];simp
 exact h W' bs' b hx (hb _ hk b hbF) (hs.mine k _ hk b hbF) (by rw[h3,hv E])
theorem Fu.gz(hX:Fu nt ds X)(k:Nat){T:TypeId}{s n:Nat}{vs:List SV}{us:List Value}(hk:σ.h k=some (.row T s n vs))(hv:∀ E,ah E vs=us)
  (h:∀ W' bs' ao c',Ext W bs W' bs' -> iK W' (ZA W bs bs') ao us->n<=c' -> X W' bs' ⟨σ.n,NW k (.slice ao n c') σ.φ,JQ k (.slice ao n c') σ.h⟩):X W bs σ:=by
 refine hX.DK k λW' bs' E F hx hs hb=>?_
 obtain⟨ao,c',h1,h2,h3⟩:=JR hs hk λb hbk=>hb _ hk b hbk
 rw[h1];rw[hv E]at h2;exact h W' bs' ao c' hx h2 h3
end
section
variable {P:Program}{W:World}{bs:List Nat}{nt:Nat}{ds:Aux}{c:Code}{Q:jZ}{σ:St}
theorem Wp.gG(k:Nat){G:Nat->Prop}{W0:World}{bs0:List Nat}{Φ:FK}(hk:σ.h k=some (.obj [] (iV G W0 bs0 Φ)))(h0:bV W0 (fi G bs0) W (fi G bs))
  (h:∀ W' bs' cs,Ext W bs W' bs' -> Φ.Φ cs W' (fi G bs')->Wp P W' bs' nt ds c Q ⟨σ.n,NW k (cW cs) σ.φ,JQ k (cW cs) σ.h⟩):Wp P W bs nt ds c Q σ:=
 Fu.gG Wp.clo k hk h0 h
theorem Wp.lV(k:Nat){T:TypeId}{vs:List SV}{us:List Value}(hk:σ.h k=some (.cells T vs))(hv:∀ E,ah E vs=us)
  (h:∀ W' bs' b,Ext W bs W' bs' -> b∉bs' -> (W.heap.size<=b\/b∈bs)->W'.heap[b]?=some (.cells us.toArray T (0,0))->Wp P W' bs' nt ds c Q ⟨σ.n,NW k (.pointer (some ⟨b,0,none⟩)) σ.φ,JQ k (.pointer (some ⟨b,0,none⟩)) σ.h⟩):Wp P W bs nt ds c Q σ:=
 Fu.lV Wp.clo k hk hv h
theorem Wp.gz(k:Nat){T:TypeId}{s n:Nat}{vs:List SV}{us:List Value}(hk:σ.h k=some (.row T s n vs))(hv:∀ E,ah E vs=us)
  (h:∀ W' bs' ao c',Ext W bs W' bs' -> iK W' (ZA W bs bs') ao us->n<=c' -> Wp P W' bs' nt ds c Q ⟨σ.n,NW k (.slice ao n c') σ.φ,JQ k (.slice ao n c') σ.h⟩):Wp P W bs nt ds c Q σ:=
 Fu.gz Wp.clo k hk hv h
variable {R:World->List Nat->St->Prop}
theorem Pw.gG(k:Nat){G:Nat->Prop}{W0:World}{bs0:List Nat}{Φ:FK}(hk:σ.h k=some (.obj [] (iV G W0 bs0 Φ)))(h0:bV W0 (fi G bs0) W (fi G bs))
  (h:∀ W' bs' cs,Ext W bs W' bs' -> Φ.Φ cs W' (fi G bs')->Pw nt ds W' bs' ⟨σ.n,NW k (cW cs) σ.φ,JQ k (cW cs) σ.h⟩ R):Pw nt ds W bs σ R:=
 Fu.gG Pw.clo k hk h0 h
theorem Pw.lV(k:Nat){T:TypeId}{vs:List SV}{us:List Value}(hk:σ.h k=some (.cells T vs))(hv:∀ E,ah E vs=us)
  (h:∀ W' bs' b,Ext W bs W' bs' -> b∉bs' -> (W.heap.size<=b\/b∈bs)->W'.heap[b]?=some (.cells us.toArray T (0,0))->Pw nt ds W' bs' ⟨σ.n,NW k (.pointer (some ⟨b,0,none⟩)) σ.φ,JQ k (.pointer (some ⟨b,0,none⟩)) σ.h⟩ R):Pw nt ds W bs σ R:=
 Fu.lV Pw.clo k hk hv h
theorem Pw.gz(k:Nat){T:TypeId}{s n:Nat}{vs:List SV}{us:List Value}(hk:σ.h k=some (.row T s n vs))(hv:∀ E,ah E vs=us)
  (h:∀ W' bs' ao c',Ext W bs W' bs' -> iK W' (ZA W bs bs') ao us->n<=c' -> Pw nt ds W' bs' ⟨σ.n,NW k (.slice ao n c') σ.φ,JQ k (.slice ao n c') σ.h⟩ R):Pw nt ds W bs σ R:=
 Fu.gz Pw.clo k hk hv h
end
theorem cell_of{W:World}{b:Nat}{us:List Value}{T:TypeId}(h:W.heap[b]?=some (.cells us.toArray T (0,0)))(j:Nat)(hj:j<us.length):W.cell? ⟨b,j,none⟩=some us[j]:=by
 simp only[World.cell?,h];simp[List.getElem?_eq_getElem hj]
theorem VX(k:Nat)(u:Value)(φ:Fr)(t:Nat):NW k u φ t=UK k u (φ t):=rfl
theorem UC(k:Nat)(u:Value)(h:Hp)(j:Nat):JQ k u h j=bif j == k then none else (h j).map (T5 k u):=rfl
theorem abm(k:Nat)(u:Value)(x:SV):UK k u (.is x)=.is (nZ k u x):=rfl
theorem UZ(k:Nat)(u:Value)(b:Bool)(x:SV):UK k u (.cnd b x)=.cnd b (nZ k u x):=rfl
theorem X7(k:Nat)(u:Value):UK k u .any=.any:=rfl
theorem LL(k:Nat)(u:Value)(T:TypeId)(vs:List SV):T5 k u (.cells T vs)=.cells T (rq k u vs):=rfl
theorem Uc(k:Nat)(u:Value)(T:TypeId)(s n:Nat)(vs:List SV):T5 k u (.row T s n vs)=.row T s n (rq k u vs):=rfl
theorem WJ(k:Nat)(u:Value)(d:List Value)(R:List Value->Value->List Nat->World->Prop):T5 k u (.obj d R)=.obj d R:=rfl
theorem acN(k:Nat)(u x:Value):nZ k u (.v x)=.v x:=rfl
theorem WB(k:Nat)(u:Value)(j o:Nat):nZ k u (.own j o)=bif j == k then .v (cy (base u) o) else .own j o:=rfl
theorem aaL(k:Nat)(u:Value)(j:Nat):nZ k u (.hd j)=bif j == k then .v (hv u) else .hd j:=rfl
theorem Qo(k:Nat)(u:Value)(j i:Nat):nZ k u (.part j i)=bif j == k then .v (hv (D1 u i)) else .part j i:=rfl
theorem YQ(k:Nat)(u:Value)(l:List SV):nZ k u (.agg l)=.agg (rq k u l):=rfl
theorem X1(k:Nat)(u:Value)(l:List SV):nZ k u (.tup l)=.tup (rq k u l):=rfl
theorem Uv(k:Nat)(u:Value)(t:TypeId)(x:SV):nZ k u (.ifc t x)=.ifc t (nZ k u x):=rfl
theorem abf(k:Nat)(u:Value)(f:Fn)(a c:List SV):nZ k u (.fn f a c)=.fn f (rq k u a) (rq k u c):=rfl
theorem Vj(k:Nat)(u:Value):rq k u []=[]:=rfl
theorem TU(k:Nat)(u:Value)(x:SV)(r:List SV):rq k u (x::r)=nZ k u x::rq k u r:=rfl
theorem SQ(k:Nat)(u:Value)(l:List Value):rq k u (l.map .v)=l.map .v:=by
 induction l with
 |nil=>rfl
 |cons x r ih=>simp[rq,nZ,ih]
theorem Hu(k:Nat)(u:Value)(a b:List SV):rq k u (a++b)=rq k u a++rq k u b:=by
 induction a with
 |nil=>rfl
 |cons x r ih=>simp[rq,ih]
theorem aau(k:IntKind)(n:Int):hv (.int k n)=.int k n:=rfl
theorem WO(b:Bool):hv (.bool b)=.bool b:=rfl
theorem Z3(s:ByteArray):hv (.string s)=.string s:=rfl
theorem Yd(f:Fn)(a c:Array Value):hv (.func f a c)=.func f a c:=rfl
theorem RC(ao:Option Addr)(n c:Nat):hv (.slice ao n c)=.slice ao n c:=rfl
theorem aaF(a:Option Addr):hv (.pointer a)=.pointer a:=rfl
theorem So(t:TypeId)(x:Value):hv (.iface t x)=.iface t x:=rfl
theorem PA(a:Addr):base (.pointer (some a))=some a:=rfl
theorem Iy(a:Addr)(n c:Nat):base (.slice (some a) n c)=some a:=rfl
theorem Ie(a:Addr)(o:Nat):cy (some a) o=.pointer (some ⟨a.block,a.off+o,none⟩):=rfl
def aeY:=aa @VX <| aa @UC <| aa @abm <| aa @UZ <| aa @X7 <| aa @LL <| aa @Uc <| aa @WJ <| aa @acN <| aa @WB <| aa @aaL <| aa @Qo <| aa @YQ <| aa @X1 <| aa @Uv <| aa @abf <| aa @Vj <| aa @TU <| aa @SQ <| aa @Hu <| aa @aau <| aa @WO <| aa @Z3 <| aa @Yd <| aa @RC <| aa @aaF <| aa @So <| aa @PA <| aa @Iy <| aa @Ie @BL
end
end Go.LE
