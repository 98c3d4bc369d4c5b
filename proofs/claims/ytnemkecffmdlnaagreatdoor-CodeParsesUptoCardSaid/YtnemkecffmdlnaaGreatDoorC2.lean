/-
 Part 2 of the proof (packed).
-/
import Derived.Test.YtnemkecffmdlnaaGreatDoorC1
import Derived.Deep.LoopGhost
import Derived.Test.YtnemkecffmdlnaaGreatDoorProg
import Derived.WalkKit
import Derived.ProofKit
import Derived.OpenShut
import Derived.JoinedCond
import Derived.Lib.SmallJoins
import Derived.ReadAgain
import Derived.Deep.Slices
import Derived.Deep.Strs
import Derived.Defers
import Derived.Recover
set_option linter.unusedSimpArgs false
set_option linter.unusedVariables false
set_option linter.defProp false
set_option maxHeartbeats 16000000
namespace Go.LE
section
open Go.RowKit
structure Ext (W:World)(bs:List Nat)(W' : World)(bs' : List Nat):Prop where
 keeps:ah W bs W'
 sub:∀ b∈bs',W.heap.size<=b\/b∈bs
theorem Ext.refl(W:World)(bs:List Nat):Ext W bs W bs:=⟨ah.refl W bs,λ_ h=>.inr h⟩
theorem Ext.trans{W W' W'' : World}{bs bs' bs'' : List Nat}(h:Ext W bs W' bs')(h' : Ext W' bs' W'' bs''):Ext W bs W'' bs'' :=
 ⟨h.keeps.trans h'.keeps λb hb hlt=>(h.sub b hb).resolve_left oM,λb hb=>(h'.sub b hb).elim (λh1=>.inl (Nat.le_trans h.keeps.size h1)) λh1=>h.sub b h1⟩
theorem Ext.eg{W W' w:World}{bs bs' : List Nat}(h:Ext W bs W' bs')(h' : ah W' bs' w):ah W bs w:=
 h.keeps.trans h' λb hb hlt=>(h.sub b hb).resolve_left oM
theorem ai.back{W W' w:World}{bs bs' : List Nat}{E:Nat->Value}{F:Nat->List Nat}{h:Hp}(he:Ext W bs W' bs')(hs:ai W' bs' E F h w):ai W bs E F h w:=
 ⟨hs.ent,hs.lt,λk e hk b hb=>(hs.mine k e hk b hb).elim (λh1=>.inl (Nat.le_trans he.keeps.size h1)) λh1=>he.sub b h1,hs.apart,he.eg hs.keeps⟩
theorem Sat.back{W W' : World}{bs bs' : List Nat}{nt:Nat}{ds:Aux}{σ:St}{a:Act}{w:World}(he:Ext W bs W' bs')(h:Sat W' bs' nt ds σ a w):Sat W bs nt ds σ a w:=by
 obtain⟨⟨E,F,hf,hs,hp⟩,h1,h2,h3,h4,h5⟩:=h;exact⟨⟨E,F,hf,hs.back he,hp⟩,h1,h2,h3,h4,h5⟩
abbrev me:=Exit->World->List Nat->St->Prop
def Wp(P:Program)(W:World)(bs:List Nat)(nt:Nat)(ds:Aux)(c:Code)(Q:me)(σ:St):Prop:=
 ∀ a w,Sat W bs nt ds σ a w->c.wp P (λe a' w' => ∃ W' bs' σ',Ext W bs W' bs' /\ Q e W' bs' σ' /\ Sat W' bs' nt ds σ' a' w') a w
def Le(W:World)(bs:List Nat)(nt:Nat)(ds:Aux)(σ σ' : St):Prop:=∀ a w,Sat W bs nt ds σ a w->Sat W bs nt ds σ' a w
def Th(next:World->List Nat->St->Prop)(Q:me):me
 |.normal,W,bs,σ=>next W bs σ
 |e,W,bs,σ=>Q e W bs σ
def Bl(id:Nat)(Q:me):me
 |.exit id',W,bs,σ=>if id' = id then Q .normal W bs σ else Q (.exit id') W bs σ
 |e,W,bs,σ=>Q e W bs σ
section
variable {next:World->List Nat->St->Prop}{Q:me}{W:World}{bs:List Nat}{σ:St}
theorem gq(h:next W bs σ):Th next Q .normal W bs σ:=h
theorem n7(h:Q .ret W bs σ):Th next Q .ret W bs σ:=h
theorem kU{i:Nat}(h:Q (.exit i) W bs σ):Th next Q (.exit i) W bs σ:=h
theorem iZ{c:List PanicEntry}(h:Q (.panic c) W bs σ):Th next Q (.panic c) W bs σ:=h
theorem gC{id:Nat}(h:Q .normal W bs σ):Bl id Q .normal W bs σ:=h
theorem nO{id:Nat}(h:Q .ret W bs σ):Bl id Q .ret W bs σ:=h
theorem jd{id:Nat}{c:List PanicEntry}(h:Q (.panic c) W bs σ):Bl id Q (.panic c) W bs σ:=h
theorem kM{id:Nat}(h:Q .normal W bs σ):Bl id Q (.exit id) W bs σ:=by simpa [Bl] using h
theorem fc{id i:Nat}(hn:i≠id)(h:Q (.exit i) W bs σ):Bl id Q (.exit i) W bs σ:=by simpa [Bl,hn] using h
end
section
variable {P:Program}{W:World}{bs:List Nat}{nt:Nat}{ds:Aux}{Q:me}{σ:St}
theorem qO{W W' : World}{bs bs' : List Nat}{e:Exit}{a:Act}{w:World}{Q:me}(he:Ext W bs W' bs')(h:∃ W'' bs'' σ',Ext W' bs' W'' bs'' /\ Q e W'' bs'' σ' /\ Sat W'' bs'' nt ds σ' a w) :
  ∃ W'' bs'' σ',Ext W bs W'' bs'' /\ Q e W'' bs'' σ' /\ Sat W'' bs'' nt ds σ' a w:=by
 obtain⟨W'',bs'',σ',h1,h2,h3⟩:=h;exact⟨W'',bs'',σ',he.trans h1,h2,h3⟩
theorem Wp.mono{c:Code}{Q' : me}(h:Wp P W bs nt ds c Q σ)(hq:∀ e W bs σ,Q e W bs σ->Q' e W bs σ):Wp P W bs nt ds c Q' σ:=
 λa w hs=>wp_mono (h a w hs) λe _ _ ⟨W',bs',σ',he,hq',hs'⟩=>⟨W',bs',σ',he,hq _ _ _ _ hq',hs'⟩
theorem Wp.IX{c:Code}{σ' : St}(hle:Le W bs nt ds σ σ')(h:Wp P W bs nt ds c Q σ'):Wp P W bs nt ds c Q σ:=
 λa w hs=>h a w (hle a w hs)
theorem Wp.skip(h:Q .normal W bs σ):Wp P W bs nt ds .skip Q σ:=λa w hs=>wp_skip ⟨W,bs,σ,Ext.refl W bs,h,hs⟩
theorem Wp.exit{id:Nat}(h:Q (.exit id) W bs σ):Wp P W bs nt ds (.exit id) Q σ:=λa w hs=>wp_exit ⟨W,bs,σ,Ext.refl W bs,h,hs⟩
theorem Wp.goto{l:Nat}(h:Q (.goto l) W bs σ):Wp P W bs nt ds (.goto l) Q σ:=λa w hs=>wp_goto ⟨W,bs,σ,Ext.refl W bs,h,hs⟩
theorem Wp.ret(h:Q .ret W bs σ):Wp P W bs nt ds .ret Q σ:=λa w hs=>wp_ret ⟨W,bs,σ,Ext.refl W bs,h,hs⟩
theorem Wp.seq{x y:Code}(h:Wp P W bs nt ds x (Th (λW bs σ=>Wp P W bs nt ds y Q σ) Q) σ):Wp P W bs nt ds (.seq x y) Q σ:=λa w hs=>
 wp_seq (wp_mono (h a w hs) λe a' w' ⟨W',bs',σ',he,hq,hs'⟩=>by
  cases e with
  |normal=>exact wp_mono (hq a' w' hs') λe'' a'' w'' hh=>qO he hh
  |_=>exact⟨W',bs',σ',he,hq,hs'⟩)
theorem Wp.block{id:Nat}{c:Code}(h:Wp P W bs nt ds c (Bl id Q) σ):Wp P W bs nt ds (.block id c) Q σ:=λa w hs=>
 wp_block (wp_mono (h a w hs) λe a' w' ⟨W',bs',σ',he,hq,hs'⟩=>by
  cases e with
  |exit i=>
   simp only[Bl]at hq
   simp only[Exit.inBlock]
   split
   ·rename_i hi;rw[if_pos hi]at hq;exact⟨W',bs',σ',he,hq,hs'⟩
   ·rename_i hi;rw[if_neg hi]at hq;exact⟨W',bs',σ',he,hq,hs'⟩
  |_=>exact⟨W',bs',σ',he,hq,hs'⟩)
theorem Wp.cond{c:Operand}{x y:Code}{b:Bool}{p:Prop}(hc:nL σ.φ true c=(p,.v (.bool b)))(hp:p)
  (ht:b=true->Wp P W bs nt ds x Q σ) (hf:b=false->Wp P W bs nt ds y Q σ):Wp P W bs nt ds (.cond c x y) Q σ:=λa w hs=>by
 obtain⟨E,F,hφ,hh,_⟩:=hs.ex;have:a.eval c=.bool b:=by
  rw[sP hφ rfl (by rw[hc];exact hp),hc];rfl
 exact wp_cond_split this (λhb=>ht hb a w hs) (λhb=>hf hb a w hs)
theorem Wp.Ph(Γ:Env P){id:Nat}{d:Bool}{ops:Array Oper}{g:RG}(hm:P.follows .mixedOrders=true)
  (hg:oU Γ W bs nt ops ops.toList σ.n σ.φ σ.h=g) (hside:g.side) (hd:d=true->oG ops=true/\oK ops g.fx=true)
  (hQ:(∀ x∈g.pans,x=none)->Q .normal W bs ⟨g.n,g.φ,g.h⟩) (hP:∀ c,some c∈g.pans->Q (.panic c) W bs ⟨σ.n,uG ops σ.φ,dropKeys σ.h g.lost⟩) :
  Wp P W bs nt ds (.region id ops d) Q σ:=λa w hs=>
 QS Γ hm hs hg hside hd (λhn a' w' hs' => ⟨W,bs,_,Ext.refl W bs,hQ hn,hs'⟩) (λc hc a' w' hs' => ⟨W,bs,_,Ext.refl W bs,hP c hc,hs'⟩)
theorem Wp.region(Γ:Env P){id:Nat}{d:Bool}{ops:Array Oper}{g:RG}(hm:P.follows .mixedOrders=true)
  (hg:oU Γ W bs nt ops ops.toList σ.n σ.φ σ.h=g) (hside:g.side) (hd:d=true->oG ops=true/\oK ops g.fx=true)
  (hQ:Q .normal W bs ⟨g.n,g.φ,g.h⟩) (hP:∀ c,some c∈g.pans->Q (.panic c) W bs ⟨σ.n,uG ops σ.φ,dropKeys σ.h g.lost⟩) :
  Wp P W bs nt ds (.region id ops d) Q σ:=Wp.Ph Γ hm hg hside hd (λ_=>hQ) hP
theorem PR{α:Type}{l:List (Option α)}{c:α}(h:l.filter Option.isSome=[some c]):some c∈l/\∀ x,some x∈l->x=c:=by
 have h1:some c∈l.filter Option.isSome:=by rw[h];simp
 refine⟨(List.mem_filter.1 h1).1,λx hx=>?_⟩;have:some x∈l.filter Option.isSome:=List.mem_filter.2 ⟨hx,rfl⟩;rw[h]at this;simpa using this
theorem Wp.q7(Γ:Env P){id:Nat}{ops:Array Oper}{side:Prop}{lost:List Nat}{c:List PanicEntry}(hm:P.follows .mixedOrders=true)
  (hg:AF Γ W bs nt ops ops.toList σ.n σ.φ σ.h=⟨side,some c,lost⟩) (hside:side)
  (hQ:Q (.panic c) W bs ⟨σ.n,uG ops σ.φ,dropKeys σ.h lost⟩):Wp P W bs nt ds (.region id ops false) Q σ:=λa w hs=>
 Kt Γ hs hg hside λa' w' hs' => ⟨W,bs,_,Ext.refl W bs,hQ,hs'⟩
theorem Wp.Px(Γ:Env P){id:Nat}{ops:Array Oper}{side:Prop}{n:Nat}{φ:Fr}{h:Hp}{pans:List (Option (List PanicEntry))}{lost:List Nat}{fx:List (List Nat×List Nat)}{c:List PanicEntry}(hm:P.follows .mixedOrders=true)
  (hg:oU Γ W bs nt ops ops.toList σ.n σ.φ σ.h=⟨side,n,φ,h,pans,lost,fx⟩) (hp:pans.filter Option.isSome=[some c]) (hd:(oG ops&&oK ops fx)=true) (hside:side)
  (hQ:Q (.panic c) W bs ⟨σ.n,uG ops σ.φ,dropKeys σ.h lost⟩):Wp P W bs nt ds (.region id ops true) Q σ:=
 Wp.Ph Γ hm hg hside (λ_=>by rw[Bool.and_eq_true]at hd;exact hd) (λhn=>by cases hn _ (PR hp).1) λc' hc' => by rw[(PR hp).2 c' hc'];exact hQ
theorem Wp.kF(Γ:Env P){id:Nat}{ops:Array Oper}{y:Code}{side:Prop}{lost:List Nat}{c:List PanicEntry}(hm:P.follows .mixedOrders=true)
  (hg:AF Γ W bs nt ops ops.toList σ.n σ.φ σ.h=⟨side,some c,lost⟩) (hside:side)
  (hQ:Q (.panic c) W bs ⟨σ.n,uG ops σ.φ,dropKeys σ.h lost⟩):Wp P W bs nt ds (.seq (.region id ops false) y) Q σ:=
 Wp.seq (Wp.q7 Γ hm hg hside hQ)
theorem Wp.pn(Γ:Env P){id:Nat}{ops:Array Oper}{y:Code}{side:Prop}{n:Nat}{φ:Fr}{h:Hp}{pans:List (Option (List PanicEntry))}{lost:List Nat}{fx:List (List Nat×List Nat)}(hm:P.follows .mixedOrders=true)
  (hg:oU Γ W bs nt ops ops.toList σ.n σ.φ σ.h=⟨side,n,φ,h,pans,lost,fx⟩) (hp:pans.all Option.isNone=true) (hside:side)
  (hQ:Wp P W bs nt ds y Q ⟨n,φ,h⟩):Wp P W bs nt ds (.seq (.region id ops false) y) Q σ:=
 Wp.seq (Wp.region Γ hm hg hside (λhd=>by cases hd) hQ λc hc=>by rw[List.all_eq_true]at hp;have:=hp _ hc;cases this)
theorem Wp.ahX(Γ:Env P){id:Nat}{ops:Array Oper}{y:Code}{side:Prop}{n:Nat}{φ:Fr}{h:Hp}{pans:List (Option (List PanicEntry))}{lost:List Nat}{fx:List (List Nat×List Nat)}(hm:P.follows .mixedOrders=true)
  (hg:oU Γ W bs nt ops ops.toList σ.n σ.φ σ.h=⟨side,n,φ,h,pans,lost,fx⟩) (hp:pans.all Option.isNone=true) (hd:(oG ops&&oK ops fx)=true) (hside:side)
  (hQ:Wp P W bs nt ds y Q ⟨n,φ,h⟩):Wp P W bs nt ds (.seq (.region id ops true) y) Q σ:=
 Wp.seq (Wp.region Γ hm hg hside (λ_=>by rw[Bool.and_eq_true]at hd;exact hd) hQ λc hc=>by rw[List.all_eq_true]at hp;have:=hp _ hc;cases this)
theorem Wp.Gu(Γ:Env P){id:Nat}{ops:Array Oper}{side:Prop}{n:Nat}{φ:Fr}{h:Hp}{pans:List (Option (List PanicEntry))}{lost:List Nat}{fx:List (List Nat×List Nat)}(hm:P.follows .mixedOrders=true)
  (hg:oU Γ W bs nt ops ops.toList σ.n σ.φ σ.h=⟨side,n,φ,h,pans,lost,fx⟩) (hp:pans.all Option.isNone=true) (hside:side)
  (hQ:Q .normal W bs ⟨n,φ,h⟩):Wp P W bs nt ds (.region id ops false) Q σ:=
 Wp.region Γ hm hg hside (λhd=>by cases hd) hQ λc hc=>by rw[List.all_eq_true]at hp;have:=hp _ hc;cases this
theorem Wp.abW(Γ:Env P){id:Nat}{ops:Array Oper}{side:Prop}{n:Nat}{φ:Fr}{h:Hp}{pans:List (Option (List PanicEntry))}{lost:List Nat}{fx:List (List Nat×List Nat)}(hm:P.follows .mixedOrders=true)
  (hg:oU Γ W bs nt ops ops.toList σ.n σ.φ σ.h=⟨side,n,φ,h,pans,lost,fx⟩) (hp:pans.all Option.isNone=true) (hd:(oG ops&&oK ops fx)=true) (hside:side)
  (hQ:Q .normal W bs ⟨n,φ,h⟩):Wp P W bs nt ds (.region id ops true) Q σ:=
 Wp.region Γ hm hg hside (λ_=>by rw[Bool.and_eq_true]at hd;exact hd) hQ λc hc=>by rw[List.all_eq_true]at hp;have:=hp _ hc;cases this
theorem Wp.loop{c:Code}{ι:Type}(I:ι->St)(ok:ι->Prop)(μ:ι->Nat)(p0:ι)(hle:Le W bs nt ds σ (I p0))(h0:ok p0)
  (round:∀ p,ok p->Wp P W bs nt ds c (Th (λW' bs' σ' => ∃ p',ok p' /\ μ p' < μ p/\Le W' bs' nt ds σ' (I p')) Q) (I p)):Wp P W bs nt ds (.loop c) Q σ:=λa w hs=>
 wp_loop_ghost (λn a w=>∃ p,ok p/\μ p=n/\Sat W bs nt ds (I p) a w) (μ p0) ⟨p0,h0,rfl,hle a w hs⟩ λn a w ⟨p,hp,hn,hsat⟩=>
  wp_mono (round p hp a w hsat) λe a' w' ⟨W',bs',σ',he,hq,hs'⟩=>by
   cases e with
   |normal=>
    obtain⟨p',hp',hlt,hle'⟩:=hq;exact⟨μ p',hn ▸ hlt,p',hp',rfl,Sat.back he (hle' a' w' hs')⟩
   |_=>exact⟨W',bs',σ',he,hq,hs'⟩
theorem Wp.C0{c:Code}{ι:Type}(I:ι->St)(V:ι->World)(B:ι->List Nat)(ok:ι->Prop)(μ:ι->Nat)(p0:ι)(hV:V p0=W)(hB:B p0=bs)(hle:Le W bs nt ds σ (I p0))(h0:ok p0)
  (round:∀ p,ok p->Ext W bs (V p) (B p)->Wp P (V p) (B p) nt ds c (Th (λW' bs' σ' => ∃ p',ok p' /\ μ p' < μ p/\V p' = W' /\ B p' = bs' /\ Le W' bs' nt ds σ' (I p')) Q) (I p)):Wp P W bs nt ds (.loop c) Q σ:=λa w hs=>
 wp_loop_ghost (λn a w=>∃ p,ok p/\μ p=n/\Ext W bs (V p) (B p)/\Sat (V p) (B p) nt ds (I p) a w) (μ p0) ⟨p0,h0,rfl,by rw[hV,hB];exact Ext.refl W bs,by rw[hV,hB];exact hle a w hs⟩ λn a w ⟨p,hp,hn,hx,hsat⟩=>
  wp_mono (round p hp hx a w hsat) λe a' w' ⟨W',bs',σ',he,hq,hs'⟩=>by
   cases e with
   |normal=>
    obtain⟨p',hp',hlt,rfl,rfl,hle'⟩:=hq;exact⟨μ p',hn ▸ hlt,p',hp',rfl,hx.trans he,hle' a' w' hs'⟩
   |_=>exact⟨W',bs',σ',hx.trans he,hq,hs'⟩
inductive Src where
 |key (k:Nat)
 |nil
def bS:Value:=.slice none 0 0
mutual
def fL(m:Nat->Src):SV->SV
 |.v x=>.v x
 |.own k o=>match m k with|.key j=>.own j o|.nil=>.v .nilIface
 |.hd k=>match m k with|.key j=>.hd j|.nil=>.v bS
 |.agg l=>.agg (gz m l)
 |.tup l=>.tup (gz m l)
 |.ifc t x=>.ifc t (fL m x)
 |.part k i=>match m k with|.key j=>.part j i|.nil=>.v .nilIface
 |.fn f a c=>.fn f (gz m a) (gz m c)
def gz(m:Nat->Src):List SV->List SV
 |[]=>[]
 |x::r=>fL m x::gz m r
end
def oa(E:Nat->Value)(m:Nat->Src)(k:Nat):Value:=match m k with|.key j=>E j|.nil=>bS
def l9(F:Nat->List Nat)(m:Nat->Src)(k:Nat):List Nat:=match m k with|.key j=>F j|.nil=>[]
mutual
theorem mj(E:Nat->Value)(m:Nat->Src):∀ x:SV,den E (fL m x)=den (oa E m) x
 |.v x=>rfl
 |.own k o=>by
  simp only[fL,den,oa];cases m k<;>rfl
 |.hd k=>by
  simp only[fL,den,oa];cases m k<;>rfl
 |.agg l=>by simp only[fL,den,gX E m l]
 |.tup l=>by simp only[fL,den,gX E m l]
 |.ifc t x=>by simp only[fL,den,mj E m x]
 |.part k i=>by
  simp only[fL,den,oa];cases m k<;>rfl
 |.fn f a c=>by simp only[fL,den,gX E m a,gX E m c]
theorem gX(E:Nat->Value)(m:Nat->Src):∀ l:List SV,au E (gz m l)=au (oa E m) l
 |[]=>rfl
 |x::r=>by simp only[gz,au,mj E m x,gX E m r]
end
def gA(m:Nat->Src):aS->aS
 |.cells T vs=>.cells T (gz m vs)
 |.row T s n vs=>.row T s n (gz m vs)
 |.obj d R=>.obj d R
theorem yC{E:Nat->Value}{m:Nat->Src}{u:Value}{fp:List Nat}{w:World}{e:aS}(h:a6 E u fp w (gA m e)):a6 (oa E m) u fp w e:=by
 cases e with
 |cells T vs=>simpa [a6,gA,gX] using h
 |row T s n vs=>simpa [a6,gA,gX] using h
 |obj d R=>exact h
def bm:List (Nat×FV)->Fr
 |[]=>λ_=>.any
 |(t,x)::r=>bu (bm r) t x
def aY:List (Nat×aS)->Hp
 |[]=>λ_=>none
 |(k,e)::r=>bu (aY r) k (some e)
def LC(m:Nat->Src):FV->FV->Prop
 |.is x,.is y=>x=fL m y
 |.cnd b x,.cnd c y=>b=c/\(b=true->x=fL m y)
 |.is x,.cnd c y=>c=true/\x=fL m y
 |.cnd b x,.is y=>b=true/\x=fL m y
 |_,.any=>True
 |.any,_=>False
theorem Ss{E:Nat->Value}{m:Nat->Src}{x y:FV}{u:Value}(hle:LC m x y)(hf:fits E x u):fits (oa E m) y u:=by
 cases x with
 |is x=>
  cases y with
  |is y=>simp only[LC]at hle;simp only[fits]at hf ⊢;rw[hf,hle,mj]
  |cnd c y=>obtain⟨rfl,hle⟩:=hle;simp only[fits,cond_true]at hf ⊢;rw[hf,hle,mj]
  |any=>trivial
 | cnd b x=>
  cases y with
  |is y=>obtain⟨rfl,hle⟩:=hle;simp only[fits,cond_true]at hf ⊢;rw[hf,hle,mj]
  |cnd c y=>
   obtain⟨rfl,hle⟩:=hle;cases b with
   |false=>exact hf
   |true=>simp only[fits,cond_true]at hf ⊢;rw[hf,hle rfl,mj]
  |any=>trivial
 |any=>cases y<;>first|trivial|exact hle.elim
def LD(m:Nat->Src)(φ:Fr):List (Nat×FV)->Prop
 |[]=>True
 |(t,x)::r=>LC m (φ t) x/\LD m φ r
def oF(m:Nat->Src)(h:Hp)(k:Nat)(e:aS):Prop:=match m k with
 |.key j=>h j=some (gA m e)
 |.nil=>match e with
  |.row _ sz n vs=>0<sz/\n=0/\vs=[]
  |_=>False
def xD(m:Nat->Src)(h:Hp):List (Nat×aS)->Prop
 |[]=>True
 |(k,e)::r=>oF m h k e/\xD m h r
def eI(m:Nat->Src):List (Nat×aS)->List Nat
 |[]=>[]
 |(k,_)::r=>(match m k with|.key j=>[j]|.nil=>[])++eI m r
def pU(n:Nat)(L:List (Nat×FV))(H:List (Nat×aS)):Prop:=
 (∀ p∈L,∀ k∈p.2.keys,k / 8<n)/\(∀ p∈H,p.1 / 8<n/\∀ k∈p.2.keys,k / 8<n)
theorem jL{L:List (Nat×FV)}(t:Nat):bm L t=.any\/∃ p∈L,p.1=t/\bm L t=p.2:=by
 induction L with
 |nil=>exact .inl rfl
 | cons p r ih=>
  by_cases ht:t=p.1
  ·exact .inr ⟨p,sI,ht.symm,by simp[bm,bu,ht]⟩
  ·rcases ih with ih|⟨q,hq,h1,h2⟩
   ·exact .inl (by simp[bm,bu,ht,ih])
   ·exact .inr ⟨q,by simp[hq],h1,by simp[bm,bu,ht,h2]⟩
theorem cB{H:List (Nat×aS)}{k:Nat}{e:aS}(h:aY H k=some e):(k,e)∈H:=by
 induction H with
 |nil=>cases h
 |cons p r ih=>
  by_cases ht:k=p.1
  ·simp[aY,bu,ht]at h;subst h;simp[ht]
  ·simp[aY,bu,ht]at h;simp[ih h]
theorem GC{m:Nat->Src}{φ:Fr}:∀ {L:List (Nat×FV)},LD m φ L->∀ p∈L,LC m (φ p.1) p.2
 |_::_,h,p,hp=>by
  rcases List.mem_cons.1 hp with rfl|hp
  ·exact h.1
  ·exact GC h.2 p hp
theorem zM{m:Nat->Src}{h:Hp}:∀ {H:List (Nat×aS)},xD m h H->∀ p∈H,oF m h p.1 p.2
 |_::_,h,p,hp=>by
  rcases List.mem_cons.1 hp with rfl|hp
  ·exact h.1
  ·exact zM h.2 p hp
theorem oY{m:Nat->Src}{k:Nat}:∀ {H:List (Nat×aS)},∀ y∈H,m y.1=.key k->k∈eI m H
 |z::t,y,hy,hk=>by
  simp only[eI,List.mem_append];rcases List.mem_cons.1 hy with rfl|hy
  ·left;rw[hk];simp
  ·right;exact oY y hy hk
theorem r9{m:Nat->Src}:∀ {H:List (Nat×aS)},(eI m H).Nodup->∀ p∈H,∀ q∈H,p.1≠q.1->∀ i j,m p.1=.key i->m q.1=.key j->i≠j
 |[],_,p,hp,_,_,_,_,_,_,_=>by cases hp
 | x::r,hn,p,hp,q,hq,hpq,i,j,hi,hj=>by
  simp only[eI]at hn;rcases List.mem_cons.1 hp with rfl|hp'
  ·rcases List.mem_cons.1 hq with rfl|hq'
   ·exact absurd rfl hpq
   ·rw[hi]at hn;intro hij;subst hij;exact (List.nodup_append.1 hn).2.2 i sI i (oY q hq' hj) rfl
  ·rcases List.mem_cons.1 hq with rfl|hq'
   ·rw[hj]at hn;intro hij;subst hij;exact (List.nodup_append.1 hn).2.2 i sI i (oY p hp' hi) rfl
   ·exact r9 (List.nodup_append.1 hn).2.1 p hp' q hq' hpq i j hi hj
theorem Le.mk(m:Nat->Src){n' : Nat}{L:List (Nat×FV)}{H:List (Nat×aS)}(hk:pU n' L H)(hf:LD m σ.φ L)(hh:xD m σ.h H)(hn:(eI m H).Nodup)(hpn:∀ p∈ds.pins,m p.1=.key p.1/\p.1 / 8<n') :
  Le W bs nt ds σ ⟨n',bm L,aY H⟩:=by
 rintro a w ⟨⟨E,F,hφ,hs,hp⟩,hsz,hdf,_,_,_⟩;have at' : ∀ k e,aY H k=some e->oF m σ.h k e:=λk e he=>zM hh _ (cB he)
 have key:∀ k e j,aY H k=some e->m k=.key j->σ.h j=some (gA m e):=λk e j he hj=>by
  have:=at' k e he;simpa only[oF,hj] using this
 refine⟨⟨oa E m,l9 F m,λt=>?_,⟨λk e he=>?_,λk e he b hb=>?_,λk e he b hb=>?_,λk k' e e' hne he he' b hb=>?_,hs.keeps⟩,λp hpp=>?_⟩,hsz,hdf,λp hpp=>(hpn p hpp).2,λt k hk' => ?_,λk e he=>?_⟩
 ·rcases jL (L:=L) t with h|⟨p,hp,rfl,h⟩
  ·simp only[h];trivial
  ·simp only[h];exact Ss (GC hf p hp) (hφ p.1)
 ·cases hm:m k with
  |key j=>
   simp only[oa,l9,hm];exact yC (hs.ent j _ (key k e j he hm))
  | nil=>
   have:=at' k e he;simp only[oF,hm]at this;cases e with
   |row T s n vs=>
    obtain⟨h0,rfl,rfl⟩:=this;simp only[oa,l9,hm];exact⟨⟨by simp[au],.inl ⟨rfl,rfl⟩⟩,rfl⟩
   |cells T vs=>exact this.elim
   |obj d R=>exact this.elim
 ·cases hm:m k with
  |key j=>simp only[l9,hm]at hb;exact hs.lt j _ (key k e j he hm) b hb
  |nil=>simp only[l9,hm]at hb;cases hb
 ·cases hm:m k with
  |key j=>simp only[l9,hm]at hb;exact hs.mine j _ (key k e j he hm) b hb
  |nil=>simp only[l9,hm]at hb;cases hb
 ·cases hm:m k with
  |nil=>simp only[l9,hm]at hb;cases hb
  | key i=>
   cases hm' : m k' with
   |nil=>simp only[l9,hm'];simp
   |key j=>
    simp only[l9,hm,hm']at hb ⊢;exact hs.apart i j _ _ (r9 hn _ (cB he) _ (cB he') hne i j hm hm') (key k e i he hm) (key k' e' j he' hm') b hb
 ·simp only[oa,(hpn p hpp).1];exact hp p hpp
 ·rcases jL (L:=L) t with h|⟨p,hp,_,h⟩
  ·simp only[h]at hk';cases hk'
  ·simp only[h]at hk';exact hk.1 p hp k hk'
 ·exact hk.2 _ (cB he)
end
end
section
open Go.RowKit
section
variable {P:Program}{W:World}{bs:List Nat}{nt:Nat}{ds:Aux}{σ:St}
theorem aac{E:Nat->Value}{F:Nat->List Nat}{h:Nat->Option aS}{w:World}{T:TypeId}{k o:Nat}(hs:ai W bs E F h w)(hside:(dQ P W bs h T [.own k o]).side) :
  ∃ a,den E (.own k o)=.pointer (some a)/\(loadVar T a).run P w=.ok (den E (dQ P W bs h T [.own k o]).val) w:=by
 revert hside;simp only[dQ];split
 ·rename_i sz vs hsz hag hvs;rintro⟨hlen,hpos⟩;obtain⟨b,hb,hcells⟩:=gx hs hvs oM;have hrun:(loadVar T ⟨b,0+o,none⟩).run P w=.ok (.agg (((au E vs).drop o).take sz).toArray) w:=by
   refine ij hsz hag _ _ (by simp[aD];omega) λj v hj=>?_
   have hjl:j<sz:=by
    have:=(List.getElem?_eq_some_iff.1 hj).1;simp at this;omega
   rw[Addr.add_lit,Nat.zero_add,hcells (o+j) oM];rw[List.getElem?_take,if_pos hjl,List.getElem?_drop]at hj;rw[hj];rfl
  refine⟨⟨b,0+o,none⟩,by simp[den,hb,dq],?_⟩;rw[hrun];simp[den,bn,List.map_take,List.map_drop]
 ·rename_i sz vs hsz hag hvs;intro hlen;obtain⟨b,hb,hcells⟩:=gx hs hvs (Nat.zero_lt_of_lt hlen);have hrun:=im (w:=w) hag ⟨b,0+o,none⟩ ((au E vs)[o]?.getD undef) (by rw[Nat.zero_add];exact hcells o hlen);refine⟨⟨b,0+o,none⟩,by simp[den,hb,dq],?_⟩;rw[hrun,qw]
 ·exact λhf=>hf.elim
def l6(P:Program)(W:World)(bs:List Nat)(σ:St):ResultVar->Prop×SV
 |.tmp t=>match σ.φ t with
  |.is x=>(True,x)
  |.cnd b x=>(b=true,x)
  |.any=>(False,.v undef)
 |.cell t T=>match σ.φ t with
  |.is (.own k o)=>((dQ P W bs σ.h T [.own k o]).side,(dQ P W bs σ.h T [.own k o]).val)
  |_=>(False,.v undef)
def jA(P:Program)(W:World)(bs:List Nat)(σ:St):List ResultVar->Prop×List SV
 |[]=>(True,[])
 |r::l=>((l6 P W bs σ r).1/\(jA P W bs σ l).1,(l6 P W bs σ r).2::(jA P W bs σ l).2)
def lH:List SV->SV
 |[x]=>x
 |l=>.tup l
def Fin(P:Program)(rs:List ResultVar)(R:World->List Nat->SV->Hp->Prop)(RP:List PanicEntry->Hp->Prop):me
 |.normal,W,bs,σ|.ret,W,bs,σ=>(jA P W bs σ rs).1/\R W bs (lH (jA P W bs σ rs).2) σ.h
 |.panic c,_,_,σ=>RP c σ.h
 |_,_,_,_=>False
def Ends(W:World)(bs:List Nat)(pins:List (Nat×Value))(R:World->List Nat->SV->Hp->Prop)(RP:List PanicEntry->Hp->Prop):Ending->World->Prop
 |.returned v,w' => ∃ W' bs' E F x h,Ext W bs W' bs' /\ R W' bs' x h/\v=den E x/\ai W' bs' E F h w' /\ ∀ p∈pins,E p.1=p.2
 |.panicked c,w' => ∃ W' bs' E F h,Ext W bs W' bs' /\ RP c h/\ai W' bs' E F h w' /\ ∀ p∈pins,E p.1=p.2
 |.outgrown,_=>False
def mA(a:Act):ResultVar->Sem Value
 |.tmp t=>pure (a.tmps.getD t undef)
 |.cell x t=>do loadVar t (<- asAddr (a.tmps.getD x undef))
theorem KO{E:Nat->Value}{F:Nat->List Nat}{a:Act}{w:World}(hφ:iT E σ.φ a)(hs:ai W bs E F σ.h w)(r:ResultVar)(hr:(l6 P W bs σ r).1) :
  (mA a r).run P w=.ok (den E (l6 P W bs σ r).2) w:=by
 cases r with
 | tmp t=>
  have:=hφ t;simp only[l6,mA]at hr ⊢;revert hr this;cases σ.φ t with
  |is x=>intro _ h;simp only[fits]at h;rw[h];rfl
  |cnd b x=>
   intro hb h;simp only at hb;subst hb;simp only[fits,cond_true]at h;rw[h];rfl
  |any=>exact λhf _=>hf.elim
 | cell t T=>
  have:=hφ t;simp only[l6,mA]at hr ⊢;revert hr this;split
  ·rename_i k o hk;intro hr h;rw[hk]at h;simp only[fits]at h;obtain⟨ad,h1,h2⟩:=aac hs hr;rw[h,h1];simpa [asAddr] using h2
  ·exact λhf _=>hf.elim
theorem H0{E:Nat->Value}{F:Nat->List Nat}{a:Act}{w:World}(hφ:iT E σ.φ a)(hs:ai W bs E F σ.h w):∀ (l:List ResultVar),(jA P W bs σ l).1 ->
  (l.mapM (mA a)).run P w=.ok (au E (jA P W bs σ l).2) w
 |[],_=>rfl
 |r::l,h=>by
  have h1:=KO hφ hs r h.1;have h2:=H0 hφ hs l h.2;rw[List.mapM_cons];simp[h1,h2,jA,au]
theorem jW{E:Nat->Value}{F:Nat->List Nat}{a:Act}{w:World}{fn:Func}(hφ:iT E σ.φ a)(hs:ai W bs E F σ.h w)(h:(jA P W bs σ fn.results.toList).1) :
  (results fn a.tmps).run P w=.ok (den E (lH (jA P W bs σ fn.results.toList).2)) w:=by
 have h1:=H0 hφ hs fn.results.toList h;have h2:results fn a.tmps=((Functor.map List.toArray (fn.results.toList.mapM (mA a))) >>= λ(vs:Array Value)=>(pure (if h:vs.size=1 then vs[0] else .tuple vs):Sem Value)):=by
  rw[<- Array.mapM_eq_mapM_toList];unfold results
  congr 1
 rw[h2];have:((Functor.map List.toArray (fn.results.toList.mapM (mA a))) >>= λ(vs:Array Value)=>(pure (if h:vs.size=1 then vs[0] else .tuple vs):Sem Value)).run P w =
   .ok (den E (lH (jA P W bs σ fn.results.toList).2)) w:=by
  simp only[map_eq_pure_bind,bind_assoc,pure_bind];simp[h1];generalize (jA P W bs σ fn.results.toList).2=l
  match l with
  |[]=>simp[au,lH,den]
  |[x]=>simp[au,lH]
  |x::y::r=>simp[au,lH,den]
 exact this
theorem jX{f:FuncId}{fn:Func}{c:Code}{args:Array Value}{w:World}{pins:List (Nat×Value)}{R:World->List Nat->SV->Hp->Prop}{RP:List PanicEntry->Hp->Prop}
  (hf:P.funcs[f]?=some fn) (hb:fn.body=some c)
  (hsat:Sat W bs nt ⟨[],pins⟩ σ { tmps:=args++Array.replicate (fn.ntmps-args.size) undef,defers:=[] } w)
  (h:Wp P W bs nt ⟨[],pins⟩ c (Fin P fn.results.toList R RP) σ) :
  Calls P f args w (Ends W bs pins R RP):=by
 refine calls_of_wp hf hb (wp_mono (h _ w hsat) λe a' w' ⟨W',bs',σ',hx,hq,hs'⟩=>?_);obtain⟨⟨E,F,hφ,hh,hp⟩,hsz,hdf,_⟩:=hs'
 have ret:(jA P W' bs' σ' fn.results.toList).1/\R W' bs' (lH (jA P W' bs' σ' fn.results.toList).2) σ'.h->a'.defers=[]/\∃ v,(results fn a'.tmps).run P w' = .ok v w' /\ Ends W bs pins R RP (.returned v) w' :=
  λhq=>⟨hdf,_,jW hφ hh hq.1,W',bs',E,F,_,_,hx,hq.2,rfl,hh,hp⟩
 cases e with
 |normal=>exact ret hq
 |ret=>exact ret hq
 |panic ch=>exact⟨hdf,W',bs',E,F,_,hx,hq,hh,hp⟩
 |exit i=>exact hq.elim
 |goto l=>exact hq.elim
 |outgrown=>exact hq.elim
theorem vl{κ:Nat}{E:Nat->Value}{F:Nat->List Nat}{h:Hp}{w:World}{f:FuncId}{args:Array Value}{r:R}{v:Value}(hs:ai W bs E F h w)
  (hc:Calls P f args w λe w' => e=.returned v/\ah w [] w') (hv:v=den E r.val) (hu:r.bu=[]) (hp:r.pan=none) :
  Good P W bs κ E h r (.ok (.enter f args) w):=by
 refine hc.mono λe w' he=>?_
 obtain⟨rfl,hk⟩:=he;exact⟨hp,E,F,λ_ _=>rfl,hv,by rw[hu];exact hs.grow hk⟩
theorem zw{κ:Nat}{E:Nat->Value}{F:Nat->List Nat}{h:Hp}{w:World}{K:Nat->Prop}{f:FuncId}{args:Array Value}{r:R}{e:aS}(hs:ai W bs E F h w)
  (hK:bW K h) (hk:∀ k,k / 8=κ->¬ K k)
  (hc:Calls P f args w λen w' => ∃ v u fp,en=.returned v/\(∀ E',a6 E' u fp w' e)/\(∀ b∈fp,w.heap.size<=b/\b<w'.heap.size)/\ah w [] w' /\ v=den (bu E (nk κ) u) r.val)
  (hu:r.bu=[(nk κ,some e)]) (hp:r.pan=none) :
  Good P W bs κ E h r (.ok (.enter f args) w):=by
 refine hc.mono λen w' he=>?_
 obtain⟨v,u,fp,rfl,hent,hfp,hkeep,hv⟩:=he;refine⟨hp,bu E (nk κ) u,bu F (nk κ) fp,λk hk' => aq _ _ λe=>hk' (by subst e;exact bc κ),hv,?_⟩;rw[hu];exact hs.new hK (hk _ (bc κ)) (hent _) hfp hkeep
theorem Jh{κ k:Nat}{E:Nat->Value}{F:Nat->List Nat}{h:Hp}{w:World}{f:FuncId}{args:Array Value}{r:R}{e e' : aS}(hs:ai W bs E F h w)
  (hk:h k=some e)
  (hc:Calls P f args w λen w' => ∃ v fp,en=.returned v/\a6 E (E k) fp w' e' /\ (∀ b∈fp,b∈F k\/w.heap.size<=b)/\(∀ b∈fp,b<w'.heap.size)/\ah w (F k) w' /\ v=den E r.val)
  (hu:r.bu=[(k,some e')]) (hp:r.pan=none) :
  Good P W bs κ E h r (.ok (.enter f args) w):=by
 refine hc.mono λen w' he=>?_
 obtain⟨v,fp,rfl,hent,hfp,hlt,hkeep,hv⟩:=he;refine⟨hp,E,bu F k fp,λ_ _=>rfl,hv,?_⟩;rw[hu];exact hs.al6 hk hent hfp hlt hkeep
end
section
variable {P:Program}{W:World}{bs:List Nat}{nt:Nat}{ds:Aux}{σ:St}{ops:Array Oper}(Γ:Env P)
def ala(dst:Option Nat)(r:List Oper)(κ:Nat)(φ:Fr)(h:Hp)(s:S):RG:=
 GD s (oU Γ W bs nt ops r (κ+1) (q6 φ dst s.fv) (ba h s.bu))
theorem ae5(κ:Nat)(φ:Fr)(h:Hp):oU Γ W bs nt ops [] κ φ h=⟨True,κ,φ,h,[],[],[]⟩:=rfl
theorem VK(o:Oper)(r:List Oper)(κ:Nat)(φ:Fr)(h:Hp):oU Γ W bs nt ops (o::r) κ φ h=ala (W:=W) (bs:=bs) (nt:=nt) (ops:=ops) Γ o.dst r κ φ h (step Γ W bs nt ops κ φ h o):=rfl
theorem aeo(dst:Option Nat)(r:List Oper)(κ:Nat)(φ:Fr)(h:Hp)(side:Prop)(fv:FV)(u:List (Nat×Option aS))(pan:Option (List PanicEntry))(pupd reads uk:List Nat) :
  ala (W:=W) (bs:=bs) (nt:=nt) (ops:=ops) Γ dst r κ φ h ⟨side,fv,u,pan,pupd,reads,uk⟩=GD ⟨side,fv,u,pan,pupd,reads,uk⟩ (oU Γ W bs nt ops r (κ+1) (q6 φ dst fv) (ba h u)):=rfl
theorem Zt(side side' : Prop)(n:Nat)(fv:FV)(u:List (Nat×Option aS))(pan:Option (List PanicEntry))(pupd reads uk lost:List Nat)(φ:Fr)(h:Hp)(pans:List (Option (List PanicEntry)))(fx:List (List Nat×List Nat)) :
  GD ⟨side,fv,u,pan,pupd,reads,uk⟩ ⟨side',n,φ,h,pans,lost,fx⟩=⟨side/\side',n,φ,h,pan::pans,uk++pupd++lost,(uk,reads)::fx⟩:=rfl
def Wy(Γ:Env P)(dst:Option Nat)(r:List Oper)(κ:Nat)(φ:Fr)(h:Hp)(s:S):RP:=match s.pan with
 |some c=>⟨s.side,some c,s.uk++s.pupd⟩
 |none=>Il s (AF Γ W bs nt ops r (κ+1) (q6 φ dst s.fv) (ba h s.bu))
theorem UN(o:Oper)(r:List Oper)(κ:Nat)(φ:Fr)(h:Hp):AF Γ W bs nt ops (o::r) κ φ h=Wy (W:=W) (bs:=bs) (nt:=nt) (ops:=ops) Γ o.dst r κ φ h (step Γ W bs nt ops κ φ h o):=rfl
theorem Na(dst:Option Nat)(r:List Oper)(κ:Nat)(φ:Fr)(h:Hp)(side:Prop)(fv:FV)(u:List (Nat×Option aS))(c:List PanicEntry)(pupd reads uk:List Nat) :
  Wy (W:=W) (bs:=bs) (nt:=nt) (ops:=ops) Γ dst r κ φ h ⟨side,fv,u,some c,pupd,reads,uk⟩=⟨side,some c,uk++pupd⟩:=rfl
theorem K2(dst:Option Nat)(r:List Oper)(κ:Nat)(φ:Fr)(h:Hp)(side:Prop)(fv:FV)(u:List (Nat×Option aS))(pupd reads uk:List Nat) :
  Wy (W:=W) (bs:=bs) (nt:=nt) (ops:=ops) Γ dst r κ φ h ⟨side,fv,u,none,pupd,reads,uk⟩=Il ⟨side,fv,u,none,pupd,reads,uk⟩ (AF Γ W bs nt ops r (κ+1) (q6 φ dst fv) (ba h u)):=rfl
theorem aa9(side side' : Prop)(fv:FV)(u:List (Nat×Option aS))(pan:Option (List PanicEntry))(pupd reads uk lost:List Nat)(c:Option (List PanicEntry)) :
  Il ⟨side,fv,u,pan,pupd,reads,uk⟩ ⟨side',c,lost⟩=⟨side/\side',c,uk++pupd++lost⟩:=rfl
def dy:Op->Bool
 |.pick _ _ _=>true
 |_=>false
theorem Rq :
  (∀ (x:Operand),dy (.move x)=false) /\
  (∀ (x:Operand),dy (.assign x)=false) /\
  (∀ (elem:TypeId),dy (.alloc elem)=false) /\
  (∀ (elem:TypeId) (v:Operand),dy (.box elem v)=false) /\
  (∀ (t:TypeId) (parts:Array (Nat×Operand)),dy (.build t parts)=false) /\
  (∀ (t:TypeId) (len:Nat) (parts:Array (Nat×Operand)),dy (.buildSlice t len parts)=false) /\
  (∀ (t:TypeId) (addr:Operand),dy (.load t addr)=false) /\
  (∀ (t:TypeId) (addr val:Operand),dy (.store t addr val)=false) /\
  (∀ (x:Operand),dy (.nilCheck x)=false) /\
  (∀ (op:BinOp) (xType:TypeId) (x y:Operand) (yType:TypeId),dy (.binOp op xType x y yType)=false) /\
  (∀ (op:UnOp) (xType:TypeId) (x:Operand),dy (.unOp op xType x)=false) /\
  (∀ (src dst:TypeId) (x:Operand),dy (.convert src dst x)=false) /\
  (∀ (xType:TypeId) (x:Operand),dy (.makeInterface xType x)=false) /\
  (∀ (fn:Fn) (first captured:Array Operand),dy (.makeFunc fn first captured)=false) /\
  (∀ (t:TypeId) (len cap:Operand),dy (.makeSlice t len cap)=false) /\
  (∀ (xType:TypeId) (x:Operand) (low high max:Option Operand),dy (.slice xType x low high max)=false) /\
  (∀ (xType:TypeId) (x:Operand) (field:Nat),dy (.fieldAddr xType x field)=false) /\
  (∀ (xType:TypeId) (x:Operand) (field:Nat),dy (.field xType x field)=false) /\
  (∀ (xType:TypeId) (x index:Operand),dy (.indexAddr xType x index)=false) /\
  (∀ (xType:TypeId) (x index:Operand),dy (.index xType x index)=false) /\
  (∀ (x:Operand) (xType asserted:TypeId) (commaOk:Bool),dy (.typeAssert x xType asserted commaOk)=false) /\
  (∀ (tuple:Operand) (index:Nat),dy (.extract tuple index)=false) /\
  (∀ (c:Call),dy (.call c)=false) /\
  (∀ (x:Operand),dy (.panic x)=false):=by
 refine⟨?_,?_,?_,?_,?_,?_,?_,?_,?_,?_,?_,?_,?_,?_,?_,?_,?_,?_,?_,?_,?_,?_,?_,?_⟩<;>(intros;rfl)
def vQ(nt:Nat):Option Nat->Prop
 |some d=>d<nt
 |none=>True
theorem HC(d:Option Nat):(∀ i,d=some i->i<nt)=vQ nt d:=by
 cases d<;>simp[vQ]
def Oq(nt:Nat)(dst:Option Nat)(un:Bool)(p:Prop)(b:Bool)(q:Prop)(r:R):S:=
 ⟨p/\q/\(b=true->r.side)/\vQ nt dst,tY un b r.val,bif b then r.bu else [],bif b then r.pan else none,r.pupd,r.reads,cE r.bu⟩
def QL(W:World)(bs:List Nat)(nt:Nat)(κ:Nat)(h:Hp)(dst:Option Nat)(un:Bool)(op:Op)(p:Prop)(b:Bool)(e:Prop×List SV):S:=
 Oq nt dst un p b e.1 (eO Γ W bs κ h op e.2)
def stepG(W:World)(bs:List Nat)(nt:Nat)(κ:Nat)(φ:Fr)(h:Hp)(dst:Option Nat)(un:Bool)(op:Op)(g:Prop×Bool):S:=
 QL Γ W bs nt κ h dst un op g.1 g.2 (oP φ g.2 op.operands.toList)
theorem agR(κ:Nat)(φ:Fr)(h:Hp)(dst:Option Nat)(op:Op)(ty:TypeId)(pos:String)(after:Array Edge)(guard:Option (Nat×Bool))(hop:dy op=false) :
  step Γ W bs nt ops κ φ h ⟨dst,op,ty,pos,after,guard⟩=stepG Γ W bs nt κ φ h dst guard.isNone op (jF φ ops guard):=by
 rw[fg Γ (by rintro c x y rfl;cases hop)];simp only[stepG,QL,Oq,HC]
theorem Xv(κ:Nat)(φ:Fr)(h:Hp)(dst:Option Nat)(un:Bool)(op:Op)(p:Prop)(b:Bool) :
  stepG Γ W bs nt κ φ h dst un op (p,b)=QL Γ W bs nt κ h dst un op p b (oP φ b op.operands.toList):=rfl
theorem Wh(κ:Nat)(h:Hp)(dst:Option Nat)(un:Bool)(op:Op)(p:Prop)(b:Bool)(q:Prop)(l:List SV) :
  QL Γ W bs nt κ h dst un op p b (q,l)=Oq nt dst un p b q (eO Γ W bs κ h op l):=rfl
theorem aaV(dst:Option Nat)(un:Bool)(p:Prop)(b:Bool)(q side:Prop)(val:SV)(u:List (Nat×Option aS))(pan:Option (List PanicEntry))(pupd reads:List Nat) :
  Oq nt dst un p b q ⟨side,val,u,pan,pupd,reads⟩=⟨p/\q/\(b=true->side)/\vQ nt dst,tY un b val,bif b then u else [],bif b then pan else none,pupd,reads,cE u⟩:=rfl
def Gj(nt:Nat)(φ:Fr)(dst:Option Nat)(un:Bool)(x y:Operand)(p:Prop)(g:Bool):Prop×SV->S
 |(q,.v (.bool cb))=>⟨p/\q/\(cb=true->(nL φ (g&&cb) x).1)/\(cb=false->(nL φ (g&&!cb) y).1)/\vQ nt dst,tY un g (uc cb (nL φ (g&&cb) x).2 (nL φ (g&&!cb) y).2),[],none,[],[],[]⟩
 |_=>⟨False,.any,[],none,[],[],[]⟩
def VO(nt:Nat)(φ:Fr)(dst:Option Nat)(un:Bool)(c x y:Operand)(g:Prop×Bool):S:=Gj nt φ dst un x y g.1 g.2 (nL φ g.2 c)
theorem QV(κ:Nat)(φ:Fr)(h:Hp)(dst:Option Nat)(c x y:Operand)(ty:TypeId)(pos:String)(after:Array Edge)(guard:Option (Nat×Bool)) :
  step Γ W bs nt ops κ φ h ⟨dst,.pick c x y,ty,pos,after,guard⟩=VO nt φ dst guard.isNone c x y (jF φ ops guard):=by
 simp only[step,VO,HC];split
 ·rename_i cb hcb;rw[show nL φ (jF φ ops guard).2 c=((nL φ (jF φ ops guard).2 c).1,.v (.bool cb)) from by rw[<- hcb]];rfl
 ·rename_i hn;unfold Gj;split
  ·rename_i q cb he;exact absurd (by rw[he]) (hn cb)
  ·rfl
theorem Vp(φ:Fr)(dst:Option Nat)(un:Bool)(c x y:Operand)(p:Prop)(g:Bool):VO nt φ dst un c x y (p,g)=Gj nt φ dst un x y p g (nL φ g c):=rfl
theorem S1(φ:Fr)(dst:Option Nat)(un:Bool)(x y:Operand)(p q:Prop)(g cb:Bool):Gj nt φ dst un x y p g (q,.v (.bool cb)) =
  ⟨p/\q/\(cb=true->(nL φ (g&&cb) x).1)/\(cb=false->(nL φ (g&&!cb) y).1)/\vQ nt dst,tY un g (uc cb (nL φ (g&&cb) x).2 (nL φ (g&&!cb) y).2),[],none,[],[],[]⟩:=rfl
def evS(w:Bool):FV->Prop×SV
 |.is x=>(True,x)
 |.cnd b x=>(w=true->b=true,x)
 |.any=>(w=false,.v undef)
theorem afL(φ:Fr)(w:Bool)(t:Nat):nL φ w (.tmp t)=evS w (φ t):=by
 simp only[nL,evS];cases φ t<;>rfl
theorem akp(w:Bool)(x:SV):evS w (.is x)=(True,x):=rfl
theorem acb(w b:Bool)(x:SV):evS w (.cnd b x)=(w=true->b=true,x):=rfl
theorem Rw(φ:Fr)(w:Bool)(v:Value):nL φ w (.const v)=(True,.v v):=rfl
theorem LW(φ:Fr)(w:Bool)(g:Nat):nL φ w (.global g)=(True,.v (.pointer (some ⟨g,0,none⟩))):=rfl
theorem Wm(φ:Fr)(w:Bool)(f:Nat):nL φ w (.func f)=(True,.v (.func (.func f) #[] #[])):=rfl
def evC:Prop×SV->Prop×List SV->Prop×List SV:=λa b=>(a.1/\b.1,a.2::b.2)
theorem agO(φ:Fr)(w:Bool):oP φ w []=(True,[]):=rfl
theorem We(φ:Fr)(w:Bool)(o:Operand)(r:List Operand):oP φ w (o::r)=evC (nL φ w o) (oP φ w r):=rfl
theorem aiX(p q:Prop)(x:SV)(l:List SV):evC (p,x) (q,l)=(p/\q,x::l):=rfl
def YK(want:Bool):FV->Prop×Bool
 |.is (.v (.bool b))=>(True,b == want)
 |.cnd c (.v (.bool b))=>(True,c&&(b == want))
 |_=>(False,false)
def aiJ(φ:Fr)(want:Bool):Option Nat->Prop×Bool
 |some d=>YK want (φ d)
 |none=>(False,false)
theorem Z4(φ:Fr):jF φ ops none=(True,true):=rfl
theorem Wx(φ:Fr)(j:Nat)(want:Bool):jF φ ops (some (j,want))=aiJ φ want ((ops[j]?).bind (·.dst)):=by
 simp only[jF,aiJ];cases (ops[j]?).bind (·.dst) with
 |none=>rfl
 |some d=>simp only[YK];split<;>simp_all
theorem Rh(φ:Fr)(want:Bool)(d:Nat):aiJ φ want (some d)=YK want (φ d):=rfl
theorem agT(want b:Bool):YK want (.is (.v (.bool b)))=(True,b == want):=rfl
theorem X5(want b c:Bool):YK want (.cnd c (.v (.bool b)))=(True,c&&(b == want)):=rfl
theorem aez(w:Bool)(x:SV):tY true w x=.is x:=rfl
theorem ai7(w:Bool)(x:SV):tY false w x=.cnd w x:=rfl
theorem NR(c a b:Bool):uc c (.v (.bool a)) (.v (.bool b))=.v (.bool (bif c then a else b)):=rfl
theorem WH{α:Type}(f:Nat->α)(k:Nat)(x:α)(j:Nat):bu f k x j=if j=k then x else f j:=rfl
theorem R0(φ:Fr)(d:Nat)(x:FV):q6 φ (some d) x=bu φ d x:=rfl
theorem Q9(φ:Fr)(x:FV):q6 φ none x=φ:=rfl
theorem U0{α:Type}(f:Nat->α):ba f []=f:=rfl
theorem SW{α:Type}(f:Nat->α)(k:Nat)(x:α)(r:List (Nat×α)):ba f ((k,x)::r)=ba (bu f k x) r:=rfl
theorem adg(t:Nat):bm [] t=.any:=rfl
theorem V5(t k:Nat)(x:FV)(r:List (Nat×FV)):bm ((k,x)::r) t=if t=k then x else bm r t:=rfl
theorem afT(t:Nat):aY [] t=none:=rfl
theorem YJ(t k:Nat)(x:aS)(r:List (Nat×aS)):aY ((k,x)::r) t=if t=k then some x else aY r t:=rfl
theorem NK(n d:Nat):vQ n (some d)=(d<n):=rfl
theorem L6(n:Nat):vQ n none=True:=rfl
section
variable {κ:Nat}{h:Hp}
theorem VB(o:Operand)(x:SV):eO Γ W bs κ h (.move o) [x]=.ok x:=rfl
theorem Nv(o:Operand)(x:SV):eO Γ W bs κ h (.assign o) [x]=.ok x:=rfl
theorem Sm(T:TypeId):eO Γ W bs κ h (.alloc T) []=iP P κ T:=rfl
theorem adZ(T:TypeId)(o:Operand)(l:List SV):eO Γ W bs κ h (.box T o) l=uD κ T l:=rfl
theorem UJ(T:TypeId)(ps:Array (Nat×Operand))(l:List SV):eO Γ W bs κ h (.build T ps) l=dO P T (ps.toList.map (·.1)) l:=rfl
theorem zO(T:TypeId)(n:Nat)(ps:Array (Nat×Operand))(l:List SV):eO Γ W bs κ h (.buildSlice T n ps) l=bz P κ T n (ps.toList.map (·.1)) l:=rfl
theorem YB(T:TypeId)(o:Operand)(l:List SV):eO Γ W bs κ h (.load T o) l=dQ P W bs h T l:=rfl
theorem S7(T:TypeId)(o o' : Operand)(l:List SV):eO Γ W bs κ h (.store T o o') l=iR P h T l:=rfl
theorem FY(o:Operand)(l:List SV):eO Γ W bs κ h (.nilCheck o) l=dI h l:=rfl
theorem UM(op:BinOp)(T:TypeId)(x y:Operand)(r:TypeId)(l:List SV):eO Γ W bs κ h (.binOp op T x y r) l=bE P Γ.eqs h op T x y l:=rfl
theorem Yh(op:UnOp)(T:TypeId)(x:Operand)(l:List SV):eO Γ W bs κ h (.unOp op T x) l=sV op l:=rfl
theorem Jw(a b:TypeId)(x:Operand)(l:List SV):eO Γ W bs κ h (.convert a b x) l=hH P h a b l:=rfl
theorem BN(T:TypeId)(x y:Operand)(l:List SV):eO Γ W bs κ h (.makeSlice T x y) l=mi P κ T l:=rfl
theorem Sx(x:Operand)(l:List SV):eO Γ W bs κ h (.panic x) l=lI l:=rfl
theorem sU(T:TypeId)(o:Operand)(l:List SV):eO Γ W bs κ h (.makeInterface T o) l=nU P T l:=rfl
theorem UP(T:TypeId)(o:Operand)(lo hi mx:Option Operand)(l:List SV):eO Γ W bs κ h (.slice T o lo hi mx) l=fI P κ h T lo.isSome hi.isSome mx.isSome l:=rfl
theorem KB(T:TypeId)(lo hi mx:Bool)(x:Value)(r:List SV):fI P κ h T lo hi mx (.v x::r)=dC P T lo hi mx (.v x::r):=rfl
theorem BQ(T:TypeId)(o:Operand)(f:Nat)(l:List SV):eO Γ W bs κ h (.fieldAddr T o f) l=cI P h T f l:=rfl
theorem UC(T:TypeId)(o:Operand)(f:Nat)(l:List SV):eO Γ W bs κ h (.field T o f) l=hJ P T f l:=rfl
theorem BW(T:TypeId)(o i:Operand)(l:List SV):eO Γ W bs κ h (.indexAddr T o i) l=bA P h T l:=rfl
theorem R3(T:TypeId)(o i:Operand)(l:List SV):eO Γ W bs κ h (.index T o i) l=gk P T l:=rfl
theorem HO(o:Operand)(i:Nat)(l:List SV):eO Γ W bs κ h (.extract o i) l=fe i l:=rfl
theorem adw(as_:Array Operand)(T:TypeId)(l:List SV):eO Γ W bs κ h (.call { callee:=.builtin .len,args:=as_,argTypes:=#[T] }) l=jb P h T l:=rfl
theorem MK(as_:Array Operand)(tys:Array TypeId)(l:List SV):eO Γ W bs κ h (.call { callee:=.builtin .append,args:=as_,argTypes:=tys }) l=fO P W bs κ h tys.toList l:=rfl
theorem Yt(f:Operand)(as_:Array Operand)(tys:Array TypeId)(l:List SV):eO Γ W bs κ h (.call { callee:=.value f,args:=as_,argTypes:=tys }) l=kN Γ W bs κ h l:=rfl
theorem NF(f:Operand)(n:String)(as_:Array Operand)(tys:Array TypeId)(l:List SV):eO Γ W bs κ h (.call { callee:=.invoke f n,args:=as_,argTypes:=tys }) l=jI Γ W bs κ h n l:=rfl
theorem SY(f:FuncId)(first cap:Array Value)(rest:List SV):kN Γ W bs κ h (.v (.func (.func f) first cap)::rest)=nZ Γ W bs κ h f (first.toList.map .v++rest++cap.toList.map .v):=rfl
end
theorem alr(k:Nat)(e:aS)(x:SV):R.new k e x=⟨True,x,[(k,some e)],none,[],[]⟩:=rfl
theorem amv(x:SV):R.ok x=⟨True,x,[],none,[],[]⟩:=rfl
theorem alp(p:Prop)(x:SV):R.iw p x=⟨p,x,[],none,[],[]⟩:=rfl
theorem akZ(n:Nat):nk n=8*n:=rfl
theorem Uh{α:Type}:cE ([]:List (Nat×α))=[]:=rfl
theorem ME{α:Type}(k:Nat)(x:α)(r:List (Nat×α)):cE ((k,x)::r)=k::cE r:=rfl
theorem HS(l:List SV):partsOf (.agg l)=l:=rfl
theorem Ff(cs:Array Value):partsOf (.v (.agg cs))=cs.toList.map .v:=rfl
theorem Ix(k:IntKind)(n:Int):partsOf (.v (.int k n))=[.v (.int k n)]:=rfl
theorem zh(b:ByteArray):partsOf (.v (.string b))=[.v (.string b)]:=rfl
theorem EK(b:Bool):partsOf (.v (.bool b))=[.v (.bool b)]:=rfl
theorem B7(a:Option Addr)(n c:Nat):partsOf (.v (.slice a n c))=[.v (.slice a n c)]:=rfl
theorem xI(a:Option Addr):partsOf (.v (.pointer a))=[.v (.pointer a)]:=rfl
theorem BP(t:TypeId)(x:Value):partsOf (.v (.iface t x))=[.v (.iface t x)]:=rfl
theorem vg:partsOf (.v .nilIface)=[.v .nilIface]:=rfl
theorem IL(k o:Nat):partsOf (.own k o)=[.own k o]:=rfl
theorem Ni(k:Nat):partsOf (.hd k)=[.hd k]:=rfl
theorem F3(k i:Nat):partsOf (.part k i)=[.part k i]:=rfl
theorem Iz(t:TypeId)(x:SV):partsOf (.ifc t x)=[.ifc t x]:=rfl
theorem Tf(k:IntKind)(n:Int):di (.v (.int k n))=true:=rfl
theorem EG(b:ByteArray):di (.v (.string b))=true:=rfl
theorem Lw(b:Bool):di (.v (.bool b))=true:=rfl
theorem Jz(a:Option Addr)(n c:Nat):di (.v (.slice a n c))=true:=rfl
theorem BU(a:Option Addr):di (.v (.pointer a))=true:=rfl
theorem GM(t:TypeId)(x:Value):di (.v (.iface t x))=true:=rfl
theorem A9:di (.v .nilIface)=true:=rfl
theorem Ub(k o:Nat):di (.own k o)=true:=rfl
theorem Wq(k:Nat):di (.hd k)=true:=rfl
theorem K4(k i:Nat):di (.part k i)=true:=rfl
theorem Tl(t:TypeId)(x:SV):di (.ifc t x)=true:=rfl
theorem IF(T:TypeId)(vs:List SV):cx (some (.cells T vs))=some vs:=rfl
theorem RX(T:TypeId)(s n:Nat)(vs:List SV):cx (some (.row T s n vs))=some vs:=rfl
theorem Fs(T:TypeId)(vs:List SV)(o:Nat)(ps:List SV):p9 (some (.cells T vs)) o ps=some (.cells T (av vs o ps)):=rfl
theorem Mx(T:TypeId)(s n:Nat)(vs:List SV)(o:Nat)(ps:List SV):p9 (some (.row T s n vs)) o ps=some (.row T s n (av vs o ps)):=rfl
section
variable {κ:Nat}{h:Hp}
def K0(κ:Nat)(T:TypeId):Option (List Value)->R
 |some zs=>⟨True,.own (8*κ) 0,[(8*κ,some (.cells T (zs.map .v)))],none,[],[]⟩
 |none=>.bad
theorem Jy(T:TypeId):iP P κ T=K0 κ T (tz P T):=by simp only[iP];unfold K0;cases tz P T<;>rfl
theorem G1(T:TypeId)(zs:List Value):K0 κ T (some zs)=⟨True,.own (8*κ) 0,[(8*κ,some (.cells T (zs.map .v)))],none,[],[]⟩:=rfl
theorem SC(T:TypeId)(x:SV):uD κ T [x]=⟨True,.own (8*κ) 0,[(8*κ,some (.cells T (partsOf x)))],none,[],[]⟩:=rfl
def Pl(o k:Nat):Option Nat->Option Bool->Option (List SV)->R
 |some sz,some true,some vs=>⟨o+sz<=vs.length/\0<sz,.agg ((vs.drop o).take sz),[],none,[],[k]⟩
 |some _,some false,some vs=>⟨o<vs.length,vs.getD o (.v undef),[],none,[],[k]⟩
 |_,_,_=>.bad
theorem Is(T:TypeId)(k o:Nat):dQ P W bs h T [.own k o]=Pl o k (ts P T) (ta P T) (cx (h k)):=by
 simp only[dQ];unfold Pl;rcases ts P T with _|sz<;>rcases ta P T with _|_|_<;>rcases cx (h k) with _|vs<;>rfl
theorem RD(o k sz:Nat)(vs:List SV):Pl o k (some sz) (some true) (some vs)=⟨o+sz<=vs.length/\0<sz,.agg ((vs.drop o).take sz),[],none,[],[k]⟩:=rfl
theorem Tw(o k sz:Nat)(vs:List SV):Pl o k (some sz) (some false) (some vs)=⟨o<vs.length,vs.getD o (.v undef),[],none,[],[k]⟩:=rfl
def QJ(W:World)(bs:List Nat)(b o:Nat):Option Nat->Option Bool->R
 |some sz,some true=>⟨b∉bs/\dL W b o sz,.agg (bU W b o sz),[],none,[],[]⟩
 |some _,some false=>⟨b∉bs/\(W.cell? ⟨b,o,none⟩).isSome=true,.v ((W.cell? ⟨b,o,none⟩).getD undef),[],none,[],[]⟩
 |_,_=>.bad
theorem J1(T:TypeId)(b o:Nat):dQ P W bs h T [.v (.pointer (some ⟨b,o,none⟩))]=QJ W bs b o (ts P T) (ta P T):=by
 simp only[dQ];unfold QJ;rcases ts P T with _|sz<;>rcases ta P T with _|_|_<;>rfl
theorem S9(b o sz:Nat):QJ W bs b o (some sz) (some true)=⟨b∉bs/\dL W b o sz,.agg (bU W b o sz),[],none,[],[]⟩:=rfl
theorem Ty(b o sz:Nat):QJ W bs b o (some sz) (some false)=⟨b∉bs/\(W.cell? ⟨b,o,none⟩).isSome=true,.v ((W.cell? ⟨b,o,none⟩).getD undef),[],none,[],[]⟩:=rfl
theorem Ig(b o:Nat):bU W b o 0=[]:=rfl
theorem Jv(b o n:Nat):bU W b o (n+1)=.v ((W.cell? ⟨b,o,none⟩).getD undef)::bU W b (o+1) n:=rfl
theorem GN(b o:Nat):dL W b o 0=True:=rfl
theorem HH(b o n:Nat):dL W b o (n+1)=((W.cell? ⟨b,o,none⟩).isSome=true/\dL W b (o+1) n):=rfl
def KL(e:Option aS)(k o:Nat)(x:SV):Option Nat->Option (List SV)->R
 |some sz,some vs=>⟨(partsOf x).length=sz/\o+sz<=vs.length/\(0<sz\/isC e=true)/\(partsOf x).all di=true,.v undef,[(k,p9 e o (partsOf x))],none,[],[k]⟩
 |_,_=>.bad
theorem F6(T:TypeId)(k o:Nat)(x:SV):iR P h T [.own k o,x]=KL (h k) k o x (ts P T) (cx (h k)):=by
 simp only[iR];unfold KL;rcases ts P T with _|sz<;>rcases cx (h k) with _|vs<;>rfl
theorem GA(e:Option aS)(k o sz:Nat)(x:SV)(vs:List SV):KL e k o x (some sz) (some vs)=⟨(partsOf x).length=sz/\o+sz<=vs.length/\(0<sz\/isC e=true)/\(partsOf x).all di=true,.v undef,[(k,p9 e o (partsOf x))],none,[],[k]⟩:=rfl
theorem Rz(T:TypeId)(vs:List SV):isC (some (.cells T vs))=true:=rfl
def faK(k o:Nat):Option (Nat×Nat×Bool)->Option (List SV)->R
 |some (off,sz,_),some vs=>⟨0<sz/\o<vs.length,.own k (o+off),[],none,[],[k]⟩
 |_,_=>.bad
theorem uZ(T:TypeId)(f k o:Nat):cI P h T f [.own k o]=faK k o (tf P T f) (cx (h k)):=by
 simp only[cI];unfold faK;rcases tf P T f with _|⟨a,b,c⟩<;>rcases cx (h k) with _|vs<;>rfl
theorem VH(k o off sz:Nat)(ag:Bool)(vs:List SV):faK k o (some (off,sz,ag)) (some vs)=⟨0<sz/\o<vs.length,.own k (o+off),[],none,[],[k]⟩:=rfl
def faX(b o:Nat):Option (Nat×Nat×Bool)->R
 |some (off,sz,_)=>⟨0<sz,.v (.pointer (some ⟨b,o+off,none⟩)),[],none,[],[]⟩
 |_=>.bad
theorem uQ(T:TypeId)(f b o:Nat):cI P h T f [.v (.pointer (some ⟨b,o,none⟩))]=faX b o (tf P T f):=by
 simp only[cI];unfold faX;rcases tf P T f with _|⟨a,b,c⟩<;>rfl
theorem Y6(b o off sz:Nat)(ag:Bool):faX b o (some (off,sz,ag))=⟨0<sz,.v (.pointer (some ⟨b,o+off,none⟩)),[],none,[],[]⟩:=rfl
def uM(l:List SV):Option (Nat×Nat×Bool)->R
 |some (off,sz,ag)=>fN ag off sz l
 |none=>.bad
theorem FF(T:TypeId)(f:Nat)(l:List SV):hJ P T f [.agg l]=uM l (tf P T f):=by
 simp only[hJ];unfold uM;rcases tf P T f with _|⟨a,b,c⟩<;>rfl
theorem Cm(T:TypeId)(f:Nat)(cs:Array Value):hJ P T f [.v (.agg cs)]=uM (cs.toList.map .v) (tf P T f):=by
 simp only[hJ];unfold uM;rcases tf P T f with _|⟨a,b,c⟩<;>rfl
theorem LA(l:List SV)(off sz:Nat):uM l (some (off,sz,true))=⟨off+sz<=l.length,.agg ((l.drop off).take sz),[],none,[],[]⟩:=rfl
theorem KR(l:List SV)(off sz:Nat):uM l (some (off,sz,false))=⟨off<l.length,l.getD off (.v undef),[],none,[],[]⟩:=rfl
theorem AE(i:Nat)(l:List SV):fe i [.tup l]=⟨i<l.length,l.getD i (.v undef),[],none,[],[]⟩:=rfl
theorem xA(i:Nat)(vs:Array Value):fe i [.v (.tuple vs)]=⟨i<vs.size,.v (vs.getD i undef),[],none,[],[]⟩:=rfl
theorem MT(eqs:(T:TypeId)->Option (EqSpec P T))(T:TypeId)(k k' : IntKind)(a b:Int):aW P eqs .shl T [.v (.int k a),.v (.int k' b)]=⟨0<=b,.v (.int k (k.wrap (a*2 ^ (min b.toNat k.bits)))),[],none,[],[]⟩:=rfl
theorem Mj(eqs:(T:TypeId)->Option (EqSpec P T))(T:TypeId)(k k' : IntKind)(a b:Int):aW P eqs .shr T [.v (.int k a),.v (.int k' b)]=⟨0<=b,.v (.int k (a.fdiv (2 ^ (min b.toNat k.bits)))),[],none,[],[]⟩:=rfl
theorem LH(eqs:(T:TypeId)->Option (EqSpec P T))(T:TypeId)(k:IntKind)(a b:Int) :
  aW P eqs .add T [.v (.int k a),.v (.int k b)]=⟨True,.v (.int k (k.wrap (a+b))),[],none,[],[]⟩ /\
  aW P eqs .sub T [.v (.int k a),.v (.int k b)]=⟨True,.v (.int k (k.wrap (a-b))),[],none,[],[]⟩ /\
  aW P eqs .mul T [.v (.int k a),.v (.int k b)]=⟨True,.v (.int k (k.wrap (a*b))),[],none,[],[]⟩ /\
  aW P eqs .quo T [.v (.int k a),.v (.int k b)]=⟨b≠0,.v (.int k (k.wrap (a.tdiv b))),[],none,[],[]⟩ /\
  aW P eqs .rem T [.v (.int k a),.v (.int k b)]=⟨b≠0,.v (.int k (a.tmod b)),[],none,[],[]⟩ /\
  aW P eqs .and T [.v (.int k a),.v (.int k b)]=⟨True,.v (.int k (cw .and k a b)),[],none,[],[]⟩ /\
  aW P eqs .or T [.v (.int k a),.v (.int k b)]=⟨True,.v (.int k (cw .or k a b)),[],none,[],[]⟩ /\
  aW P eqs .xor T [.v (.int k a),.v (.int k b)]=⟨True,.v (.int k (cw .xor k a b)),[],none,[],[]⟩ /\
  aW P eqs .eql T [.v (.int k a),.v (.int k b)]=⟨True,.v (.bool (decide (a=b))),[],none,[],[]⟩ /\
  aW P eqs .neq T [.v (.int k a),.v (.int k b)]=⟨True,.v (.bool (!decide (a=b))),[],none,[],[]⟩ /\
  aW P eqs .lss T [.v (.int k a),.v (.int k b)]=⟨True,.v (.bool (decide (a<b))),[],none,[],[]⟩ /\
  aW P eqs .leq T [.v (.int k a),.v (.int k b)]=⟨True,.v (.bool (decide (a<=b))),[],none,[],[]⟩ /\
  aW P eqs .gtr T [.v (.int k a),.v (.int k b)]=⟨True,.v (.bool (decide (b<a))),[],none,[],[]⟩ /\
  aW P eqs .geq T [.v (.int k a),.v (.int k b)]=⟨True,.v (.bool (decide (b<=a))),[],none,[],[]⟩:=by
 simp[aW,B0,R.iw]
theorem MQ(eqs:(T:TypeId)->Option (EqSpec P T))(T:TypeId)(a b:ByteArray) :
  aW P eqs .add T [.v (.string a),.v (.string b)]=⟨a.size+b.size<=9223372036854775807,.v (.string (a++b)),[],none,[],[]⟩ /\
  aW P eqs .eql T [.v (.string a),.v (.string b)]=⟨True,.v (.bool (decide (a=b))),[],none,[],[]⟩ /\
  aW P eqs .neq T [.v (.string a),.v (.string b)]=⟨True,.v (.bool (!decide (a=b))),[],none,[],[]⟩ /\
  aW P eqs .lss T [.v (.string a),.v (.string b)]=⟨True,.v (.bool (Op.bytesLess a.toList b.toList)),[],none,[],[]⟩ /\
  aW P eqs .gtr T [.v (.string a),.v (.string b)]=⟨True,.v (.bool (!(Op.bytesLess a.toList b.toList||decide (a=b)))),[],none,[],[]⟩:=by
 simp[aW,R5,R.iw]
theorem J3(eqs:(T:TypeId)->Option (EqSpec P T))(T:TypeId)(a b:Bool) :
  aW P eqs .eql T [.v (.bool a),.v (.bool b)]=⟨P.underlying T=some .bool,.v (.bool (a == b)),[],none,[],[]⟩ /\
  aW P eqs .neq T [.v (.bool a),.v (.bool b)]=⟨P.underlying T=some .bool,.v (.bool (!(a == b))),[],none,[],[]⟩:=⟨rfl,rfl⟩
def dv:List SV->Option (List Value)
 |[]=>some []
 |.v x::r=>(dv r).map (x::·)
 |_=>none
theorem lR:∀ l:List SV,pb (.agg l)=dv l
 |[]=>rfl
 |x::r=>by
  have ih:=lR r;simp only[pb]at ih ⊢;rw[List.mapM_cons,ih];cases x<;>simp[dv]<;>cases dv r<;>rfl
theorem By(cs:Array Value):pb (.v (.agg cs))=some cs.toList:=rfl
theorem Sl:dv []=some []:=rfl
theorem L5(x:Value)(r:List SV):dv (.v x::r)=(dv r).map (x::·):=rfl
def UW{T:TypeId}(neg:Bool):Option (List Value)->Option (List Value)->Option (EqSpec P T)->R
 |some xs,some ys,some e=>⟨(e.f xs ys).isSome=true,.v (.bool (neg ^^ (e.f xs ys).getD false)),[],none,[],[]⟩
 |_,_,_=>.bad
theorem LR(eqs:(T:TypeId)->Option (EqSpec P T))(T:TypeId)(l l' : List SV) :
  aW P eqs .eql T [.agg l,.agg l']=UW false (dv l) (dv l') (eqs T)/\aW P eqs .neq T [.agg l,.agg l']=UW true (dv l) (dv l') (eqs T):=by
 simp only[aW,lR,By];constructor<;>(unfold UW;rcases dv l with _|xs<;>rcases dv l' with _|ys<;>rcases eqs T with _|e<;>simp[R.iw])
theorem Gy(eqs:(T:TypeId)->Option (EqSpec P T))(T:TypeId)(cs cs' : Array Value) :
  aW P eqs .eql T [.v (.agg cs),.v (.agg cs')]=UW false (some cs.toList) (some cs'.toList) (eqs T)/\aW P eqs .neq T [.v (.agg cs),.v (.agg cs')]=UW true (some cs.toList) (some cs'.toList) (eqs T):=by
 simp only[aW,lR,By];refine⟨?_,?_⟩<;>(unfold UW;rcases eqs T with _|e<;>simp[R.iw])
theorem IM(eqs:(T:TypeId)->Option (EqSpec P T))(T:TypeId)(cs:Array Value)(l:List SV) :
  aW P eqs .eql T [.v (.agg cs),.agg l]=UW false (some cs.toList) (dv l) (eqs T)/\aW P eqs .neq T [.v (.agg cs),.agg l]=UW true (some cs.toList) (dv l) (eqs T) /\
  aW P eqs .eql T [.agg l,.v (.agg cs)]=UW false (dv l) (some cs.toList) (eqs T)/\aW P eqs .neq T [.agg l,.v (.agg cs)]=UW true (dv l) (some cs.toList) (eqs T):=by
 simp only[aW,lR,By];refine⟨?_,?_,?_,?_⟩<;>(unfold UW;rcases dv l with _|xs<;>rcases eqs T with _|e<;>simp[R.iw])
theorem U9{T:TypeId}(neg:Bool)(xs ys:List Value)(e:EqSpec P T):UW neg (some xs) (some ys) (some e)=⟨(e.f xs ys).isSome=true,.v (.bool (neg ^^ (e.f xs ys).getD false)),[],none,[],[]⟩:=rfl
theorem RU(b:Bool):sV .not [.v (.bool b)]=⟨True,.v (.bool (!b)),[],none,[],[]⟩:=rfl
theorem RA(k:IntKind)(n:Int):sV .neg [.v (.int k n)]=⟨True,.v (.int k (k.wrap (0-n))),[],none,[],[]⟩:=rfl
theorem MZ(T:TypeId)(s:ByteArray):jb P h T [.v (.string s)]=⟨P.underlying T=some .string,.v (.int .i64 s.size),[],none,[],[]⟩:=rfl
theorem D5(T:TypeId)(a:Option Addr)(n c:Nat):jb P h T [.v (.slice a n c)]=⟨∃ e,P.underlying T=some (.slice e),.v (.int .i64 n),[],none,[],[]⟩:=rfl
def ajh(P:Program)(T:TypeId)(k:Nat):Option aS->R
 |some (.row _ _ n _)=>⟨∃ e,P.underlying T=some (.slice e),.v (.int .i64 n),[],none,[],[k]⟩
 |_=>.bad
theorem Ri(T:TypeId)(k:Nat):jb P h T [.hd k]=ajh P T k (h k):=by
 simp only[jb];unfold ajh;rcases h k with _|e
 ·rfl
 ·cases e<;>rfl
theorem Z9(T T' : TypeId)(k s n:Nat)(vs:List SV):ajh P T k (some (.row T' s n vs))=⟨∃ e,P.underlying T=some (.slice e),.v (.int .i64 n),[],none,[],[k]⟩:=rfl
def ixK(P:Program)(k:Nat)(i:Int):Option TypeDesc->Option aS->R
 |some (.slice e),some (.row _ size n _)=>⟨ts P e=some size/\0<=i/\i<n/\0<size,.own k (i.toNat*size),[],none,[],[k]⟩
 |_,_=>.bad
theorem xz(T:TypeId)(k:Nat)(ik:IntKind)(i:Int):bA P h T [.hd k,.v (.int ik i)]=ixK P k i (P.underlying T) (h k):=by
 simp only[bA];unfold ixK;rcases P.underlying T with _|d<;>rcases h k with _|e
 ·rfl
 ·cases e<;>rfl
 ·cases d<;>rfl
 ·cases d<;>cases e<;>rfl
theorem Wc(e e' : TypeId)(k size n:Nat)(i:Int)(vs:List SV):ixK P k i (some (.slice e)) (some (.row e' size n vs))=⟨ts P e=some size/\0<=i/\i<n/\0<size,.own k (i.toNat*size),[],none,[],[k]⟩:=rfl
def ixY(b o n:Nat)(i:Int):Option Nat->R
 |some sz=>⟨0<=i/\i<n,.v (.pointer (some ⟨b,o+i.toNat*sz,none⟩)),[],none,[],[]⟩
 |none=>.bad
def ixX(P:Program)(b o n:Nat)(i:Int):Option TypeDesc->R
 |some (.slice e)=>ixY b o n i (ts P e)
 |_=>.bad
theorem uX(T:TypeId)(b o n c:Nat)(ik:IntKind)(i:Int):bA P h T [.v (.slice (some ⟨b,o,none⟩) n c),.v (.int ik i)]=ixX P b o n i (P.underlying T):=by
 simp only[bA];unfold ixX;rcases P.underlying T with _|d
 ·rfl
 ·cases d<;>rfl
theorem SP(e:TypeId)(b o n:Nat)(i:Int):ixX P b o n i (some (.slice e))=ixY b o n i (ts P e):=rfl
def ixH(b o:Nat)(i:Int)(n:Nat):Option Nat->R
 |some sz=>⟨0<=i/\i<n/\1<n,.v (.pointer (some ⟨b,o+i.toNat*sz,none⟩)),[],none,[],[]⟩
 |none=>.bad
def ixG(P:Program)(b o:Nat)(i:Int):Option TypeDesc->R
 |some (.array n e)=>ixH b o i n (ts P e)
 |_=>.bad
theorem vI(T:TypeId)(b o:Nat)(ik:IntKind)(i:Int):bA P h T [.v (.pointer (some ⟨b,o,none⟩)),.v (.int ik i)]=ixG P b o i (P.underlying T):=by
 simp only[bA];unfold ixG;rcases P.underlying T with _|d
 ·rfl
 ·cases d
  case array n e=>unfold ixH;cases ts P e<;>rfl
  all_goals rfl
theorem Us(b o n:Nat)(i:Int)(e:TypeId):ixG P b o i (some (.array n e))=ixH b o i n (ts P e):=rfl
theorem WT(b o n sz:Nat)(i:Int):ixH b o i n (some sz)=⟨0<=i/\i<n/\1<n,.v (.pointer (some ⟨b,o+i.toNat*sz,none⟩)),[],none,[],[]⟩:=rfl
theorem YO(b o n:Nat)(i:Int)(sz:Nat):ixY b o n i (some sz)=⟨0<=i/\i<n,.v (.pointer (some ⟨b,o+i.toNat*sz,none⟩)),[],none,[],[]⟩:=rfl
theorem Ej(T:TypeId)(s:ByteArray)(ik:IntKind)(i:Int):gk P T [.v (.string s),.v (.int ik i)]=⟨P.underlying T=some .string/\0<=i/\i<s.size,.v (.int .u8 (bt s i)),[],none,[],[]⟩:=rfl
theorem Ga(T:TypeId)(s:ByteArray)(k k' : IntKind)(a b:Int):dC P T true true false [.v (.string s),.v (.int k a),.v (.int k' b)]=⟨P.underlying T=some .string/\0<=a/\a<=b/\b<=s.size,.v (.string (s.extract a.toNat b.toNat)),[],none,[],[]⟩:=by
 simp[dC,jw,mY,R.iw]
theorem Gl(T:TypeId)(s:ByteArray)(k:IntKind)(a:Int):dC P T true false false [.v (.string s),.v (.int k a)]=⟨P.underlying T=some .string/\0<=a/\a<=s.size,.v (.string (s.extract a.toNat s.size)),[],none,[],[]⟩:=by
 simp[dC,jw,mY,R.iw]
theorem Ez(T:TypeId)(s:ByteArray)(k' : IntKind)(b:Int):dC P T false true false [.v (.string s),.v (.int k' b)]=⟨P.underlying T=some .string/\0<=b/\b<=s.size,.v (.string (s.extract 0 b.toNat)),[],none,[],[]⟩:=by
 simp[dC,jw,mY,R.iw]
theorem xx(a:Addr):dI h [.v (.pointer (some a))]=⟨True,.v (.pointer (some a)),[],none,[],[]⟩:=rfl
theorem Zc(T:TypeId)(x:Value):nU P T [.v x]=⟨P.concrete T=true,.v (.iface T x),[],none,[],[]⟩:=rfl
end
end
end
section
def ev1:=(aa @ae5 (aa @VK (aa @aeo (aa @Zt (aa @Rq (aa @agR (aa @Xv (aa @Wh (aa @aaV (aa @QV (aa @Vp (aa @S1 (aa @afL (aa @akp (aa @acb (aa @Rw (aa @LW (aa @Wm (aa @agO (aa @We (aa @aiX (aa @Z4 (aa @Wx (aa @Rh (aa @agT (aa @X5 (aa @aez (aa @ai7 (aa @NR (aa @WH (aa @R0 (aa @Q9 (aa @U0 (aa @SW (aa @adg (aa @V5 (aa @afT (aa @YJ (aa @NK (aa @L6 (aa @VB (aa @Nv (aa @Sm (aa @adZ (aa @UJ (aa @zO (aa @YB (aa @S7 (aa @FY (aa @UM @Yh))))))))))))))))))))))))))))))))))))))))))))))))))
def ev2:=(aa @Jw (aa @BN (aa @Sx (aa @sU (aa @UP <| aa @KB (aa @BQ (aa @UC (aa @BW (aa @R3 (aa @HO (aa @adw (aa @MK (aa @Yt (aa @NF (aa @SY (aa @alr (aa @amv (aa @alp (aa @akZ (aa @Uh (aa @ME (aa @HS (aa @Ff (aa @Ix (aa @zh (aa @EK (aa @B7 (aa @xI (aa @BP (aa @vg (aa @IL (aa @Ni (aa @F3 (aa @Iz (aa @Tf (aa @EG (aa @Lw (aa @Jz (aa @BU (aa @GM (aa @A9 (aa @Ub (aa @Wq (aa @K4 (aa @Tl (aa @IF (aa @RX (aa @Fs (aa @Mx (aa @Jy @G1))))))))))))))))))))))))))))))))))))))))))))))))))
def ev3:=(aa @vI (aa @Us (aa @WT (aa @Rz (aa @true_or (aa @SC (aa @Is (aa @RD (aa @Tw (aa @J1 (aa @S9 (aa @Ty (aa @Ig (aa @Jv (aa @GN (aa @HH (aa @F6 (aa @GA (aa @uZ (aa @VH (aa @uQ (aa @Y6 (aa @FF (aa @Cm (aa @LA (aa @KR (aa @AE (aa @xA (aa @MT (aa @Mj (aa @LH (aa @MQ (aa @J3 (aa @Sl (aa @L5 (aa @LR (aa @Gy (aa @IM (aa @U9 (aa @RU (aa @RA (aa @MZ (aa @D5 (aa @Ri (aa @Z9 (aa @xz (aa @Wc (aa @uX (aa @SP (aa @YO (aa @Ej (aa @Ga (aa @Gl (aa @Ez (aa @xx @Zc)))))))))))))))))))))))))))))))))))))))))))))))))))))))
def sa:List Value->Nat->List (Nat×FV)
 |[],_=>[]
 |x::r,i=>(i,.is (.v x))::sa r (i+1)
theorem VL(i:Nat):sa [] i=[]:=rfl
theorem RJ(x:Value)(r:List Value)(i:Nat):sa (x::r) i=(i,.is (.v x))::sa r (i+1):=rfl
def σ0(args:List Value):St:=⟨0,bm (sa args 0),aY []⟩
theorem mI:∀ (l:List Value) (i t:Nat),(bm (sa l i) t).keys=[]
 |[],_,_=>rfl
 |x::r,i,t=>by
  simp only[sa,bm,bu];split
  ·rfl
  ·exact mI r (i+1) t
theorem mT(E:Nat->Value):∀ (l:List Value) (i t:Nat) (tm:Nat->Value),(∀ j (h:j<l.length),tm (i+j)=l[j])->fits E (bm (sa l i) t) (tm t)
 |[],_,_,_,_=>trivial
 | x::r,i,t,tm,h=>by
  simp only[sa,bm,bu];split
  ·rename_i ht;subst ht;have:=h 0 sI;simpa [fits,den] using this
  ·exact mT E r (i+1) t tm λj hj=>by
    have:=h (j+1) (by simpa using hj);rw[show i+1+j=i+(j+1) by omega];simpa using this
theorem qG{w:World}{nt m:Nat}(args:Array Value)(hnt:args.size+m=nt) :
  Sat w [] nt ⟨[],[]⟩ (σ0 args.toList) { tmps:=args++Array.replicate m undef,defers:=[] } w:=by
 refine⟨⟨λ_=>undef,λ_=>[],λt=>?_,⟨λk e h=>(by cases h),λk e h=>(by cases h),λk e h=>(by cases h),λk k' e e' _ h=>(by cases h),ah.refl w []⟩,λp hp=>(by cases hp)⟩,by simpa using hnt,rfl,λp hp=>(by cases hp),λt k hk=>?_,λk e h=>(by cases h)⟩
 ·refine mT _ args.toList 0 t (λt=>(args++Array.replicate m undef).getD t undef) λj hj=>?_
  have hj' : j<args.size:=by simpa using hj
  rw[Nat.zero_add,Array.getD_eq_getD_getElem?,Array.getElem?_append_left hj',Array.getElem?_eq_getElem hj'];rfl
 ·simp only[σ0,mI]at hk;cases hk
section
variable {P:Program}{f:FuncId}{fn:Func}{c:Code}{args:Array Value}{w:World}{nt:Nat}
theorem af{v:Value}(rs:List ResultVar)(hf:P.funcs[f]?=some fn)(hb:fn.body=some c)(hrs:fn.results.toList=rs)(hnt:args.size+(fn.ntmps-args.size)=nt)
  (h:Wp P w [] nt ⟨[],[]⟩ c (Fin P rs (λ_ _ x _=>∀ E,den E x=v) (λ_ _=>False)) (σ0 args.toList)) :
  Calls P f args w λe w' => e=.returned v/\ah w [] w' := by
 subst hrs;refine (jX hf hb (qG args hnt) h).mono λe w' he=>?_
 cases e with
 |returned u=>
  obtain⟨W',bs',E,F,x,h,hx,hR,rfl,hs,_⟩:=he;exact⟨by rw[hR E],hx.eg hs.keeps⟩
 |panicked c=>obtain⟨_,_,_,_,_,_,hf,_⟩:=he;exact hf.elim
 |outgrown=>exact he.elim
def amK(T:TypeId)(s n:Nat)(vs:List Value)(x:SV)(h:Hp):Prop:=0<s/\((∃ k,x=.hd k/\h k=some (.row T s n (vs.map .v)))\/(x=.v bS/\n=0/\vs=[]))
theorem mq{T:TypeId}{s n:Nat}{vs:List Value}(g:Value->Value)(rs:List ResultVar)(hf:P.funcs[f]?=some fn)(hb:fn.body=some c)(hrs:fn.results.toList=rs)(hnt:args.size+(fn.ntmps-args.size)=nt)
  (h:Wp P w [] nt ⟨[],[]⟩ c (Fin P rs (λ_ _ x h=>∃ y,amK T s n vs y h/\∀ E,den E x=g (den E y)) (λ_ _=>False)) (σ0 args.toList)) :
  Calls P f args w λe w' => ∃ u fp,e=.returned (g u)/\(∀ E',a6 E' u fp w' (.row T s n (vs.map .v)))/\(∀ b∈fp,w.heap.size<=b/\b<w'.heap.size)/\ah w [] w' := by
 subst hrs;refine (jX hf hb (qG args hnt) h).mono λe w' he=>?_
 cases e with
 | returned u=>
  obtain⟨W',bs',E,F,x,h,hx,⟨y,⟨hs0,hR⟩,hg⟩,rfl,hs,_⟩:=he;rcases hR with ⟨k,rfl,hk⟩|⟨rfl,rfl,rfl⟩
  ·have hent:=hs.ent k _ hk;refine⟨E k,F k,by rw[hg E];simp only[den];rw[kD (dM hent)],λE' => ?_,λb hb=>⟨?_,hs.lt k _ hk b hb⟩,hx.eg hs.keeps⟩
   ·simpa [a6,aJ] using hent
   ·exact ((hs.back hx).mine k _ hk b hb).resolve_right sI
  ·exact⟨bS,[],by rw[hg E];rfl,λE' => ⟨⟨by simp[au],.inl ⟨rfl,rfl⟩⟩,rfl⟩,λb hb=>(by cases hb),hx.eg hs.keeps⟩
 |panicked c=>obtain⟨_,_,_,_,_,_,hf,_⟩:=he;exact hf.elim
 |outgrown=>exact he.elim
end
inductive AV where
 |val (v:Value)
 |row (T:TypeId) (s n:Nat) (vs:List Value)
def kB(k:Nat):Option aS->Option (AV×List Nat)
 |some (.row T s n us)=>(dv us).map λvs=>(.row T s n vs,[k])
 |_=>none
def cL(h:Hp):SV->Option (AV×List Nat)
 |.v x=>some (.val x,[])
 |.agg l=>(dv l).map λvs=>(.val (.agg vs.toArray),[])
 |.hd k=>kB k (h k)
 |_=>none
def lK:Option (AV×List Nat)->Option (List AV×List Nat)->Option (List AV×List Nat)
 |some (a,r),some (as_,rs)=>some (a::as_,r++rs)
 |_,_=>none
def aC(h:Hp):List SV->Option (List AV×List Nat)
 |[]=>some ([],[])
 |x::r=>lK (cL h x) (aC h r)
def Ai(w:World)(u:Value):AV->Prop
 |.val v=>u=v
 |.row T s n vs=>w.ownsRow 0 T s u n vs
def gj(w:World):List Value->List AV->Prop
 |[],[]=>True
 |u::r,a::s=>Ai w u a/\gj w r s
 |_,_=>False
theorem uz{E:Nat->Value}:∀ {l:List SV} {vs:List Value},dv l=some vs->au E l=vs
 |[],vs,h=>by simp[dv]at h;subst h;rfl
 | x::r,vs,h=>by
  cases x with
  |v x=>
   simp only[dv,Option.map_eq_some_iff]at h;obtain⟨ws,h1,rfl⟩:=h;simp[au,den,uz h1]
  |_=>simp[dv]at h
section
variable {P:Program}{W:World}{bs:List Nat}{E:Nat->Value}{F:Nat->List Nat}{h:Hp}{w:World}
theorem DP(hs:ai W bs E F h w){x:SV}{a:AV}{r:List Nat}(hv:cL h x=some (a,r)):Ai w (den E x) a:=by
 cases x with
 |v x=>simp[cL]at hv;obtain⟨rfl,rfl⟩:=hv;rfl
 |agg l=>
  simp only[cL,Option.map_eq_some_iff,Prod.mk.injEq]at hv;obtain⟨vs,h1,rfl,rfl⟩:=hv;simp[Ai,den,uz h1]
 | hd k=>
  simp only[cL]at hv;cases hk:h k with
  |none=>rw[hk]at hv;simp[kB]at hv
  | some e=>
   cases e with
   |row T s n us=>
    rw[hk]at hv;simp only[kB,Option.map_eq_some_iff,Prod.mk.injEq]at hv;obtain⟨vs,h1,rfl,rfl⟩:=hv;have:=hs.ent k _ hk;simp only[Ai,den];rw[kD (dM this),<- uz (E:=E) h1];exact this.1
   |cells T vs=>rw[hk]at hv;simp[kB]at hv
   |obj d R=>rw[hk]at hv;simp[kB]at hv
 |own k o=>simp[cL]at hv
 |tup l=>simp[cL]at hv
 |ifc t x=>simp[cL]at hv
 |part k i=>simp[cL]at hv
 |fn f a c=>simp[cL]at hv
theorem eR(hs:ai W bs E F h w):∀ {l:List SV} {as_:List AV} {r:List Nat},aC h l=some (as_,r)->gj w (au E l) as_
 |[],as_,r,hv=>by simp[aC]at hv;obtain⟨rfl,rfl⟩:=hv;trivial
 | x::l,as_,r,hv=>by
  simp only[aC]at hv;cases h1:cL h x with
  |none=>rw[h1]at hv;simp[lK]at hv
  | some p=>
   cases h2:aC h l with
   |none=>rw[h1,h2]at hv;simp[lK]at hv
   |some q=>
    obtain⟨a,ra⟩:=p;obtain⟨as',rs⟩:=q;rw[h1,h2]at hv;simp only[lK,Option.some.injEq,Prod.mk.injEq]at hv;obtain⟨rfl,rfl⟩:=hv;exact⟨DP hs h1,eR hs h2⟩
theorem CL{h' : Hp}{x:SV}{a:AV}{r:List Nat}(hv:cL h x=some (a,r))(hr:∀ k∈r,h' k=h k):cL h' x=some (a,r):=by
 cases x with
 | hd k=>
  simp only[cL]at hv ⊢;have:k∈r:=by
   cases hk:h k with
   |none=>rw[hk]at hv;simp[kB]at hv
   |some e=>
    cases e<;>rw[hk]at hv<;>simp[kB]at hv;obtain⟨vs,h1,rfl,rfl⟩:=hv;simp
  rw[hr k this];exact hv
 |_=>exact hv
theorem dw{h' : Hp}:∀ {l:List SV} {as_:List AV} {r:List Nat},aC h l=some (as_,r)->(∀ k∈r,h' k=h k)->aC h' l=some (as_,r)
 |[],_,_,hv,_=>hv
 | x::l,as_,r,hv,hr=>by
  simp only[aC]at hv ⊢;cases h1:cL h x with
  |none=>rw[h1]at hv;simp[lK]at hv
  | some p=>
   cases h2:aC h l with
   |none=>rw[h1,h2]at hv;simp[lK]at hv
   |some q=>
    obtain⟨a,ra⟩:=p;obtain⟨as',rs⟩:=q;rw[h1,h2]at hv;simp only[lK,Option.some.injEq,Prod.mk.injEq]at hv;obtain⟨rfl,rfl⟩:=hv;rw[CL h1 λk hk=>hr k (by simp[hk]),dw h2 λk hk=>hr k (by simp[hk])];rfl
end
structure aM (P:Program)(f:FuncId) where
 pre:World->List Nat->List AV->Prop
 res:World->List AV->Value
 enters:∀ args w,(callFunc f args).run P w=.ok (.enter f args) w
 ok:∀ (W w:World) (bs:List Nat) (us:List Value) (as_:List AV),ah W bs w->gj w us as_->pre W bs as_->Calls P f us.toArray w λe w' => e=.returned (res W as_)/\ah w [] w'
def Hg(pre:World->List Nat->List AV->Prop)(res:World->List AV->Value)(W:World)(bs:List Nat):Option (List AV×List Nat)->R
 |some (as_,rs)=>⟨pre W bs as_,.v (res W as_),[],none,[],rs⟩
 |none=>.bad
def aM.spec{P:Program}{f:FuncId}(p:aM P f):Spec P f where
 ev:=λW bs _ h args=>Hg p.pre p.res W bs (aC h args)
 good:=λW bs κ E F h w K args hs hK hk hx hside=>by
  rw[p.enters];cases hv:aC h args with
  |none=>rw[hv]at hside;exact hside.elim
  |some q=>
   obtain⟨as_,rs⟩:=q;rw[hv]at hside;exact vl hs (p.ok W w bs _ as_ hs.keeps (eR hs hv) hside) rfl rfl rfl
 keys:=λW bs κ h K args hK hx hside=>by
  cases hv:aC h args with
  |none=>rw[hv]at hside;exact hside.elim
  |some q=>exact aL.plain (λk hk=>by cases hk) rfl
 loc:=λW bs κ h h' args hside hr=>by
  cases hv:aC h args with
  |none=>rw[hv]at hside;exact hside.elim
  |some q=>
   obtain⟨as_,rs⟩:=q;rw[hv]at hr;rw[dw hv hr]
structure xu (P:Program)(f:FuncId) where
 pre:World->List Nat->List AV->Prop
 T:TypeId
 s:Nat
 n:World->List AV->Nat
 vs:World->List AV->List Value
 tm:World->List AV->SV->SV
 g:World->List AV->Value->Value
 tmg:∀ W as_ E x,den E (tm W as_ x)=g W as_ (den E x)
 tmk:∀ W as_ x,∀ k∈(tm W as_ x).keys,k∈x.keys
 enters:∀ args w,(callFunc f args).run P w=.ok (.enter f args) w
 ok:∀ (W w:World) (bs:List Nat) (us:List Value) (as_:List AV),ah W bs w->gj w us as_->pre W bs as_->Calls P f us.toArray w λe w' =>
  ∃ u fp,e=.returned (g W as_ u)/\(∀ E',a6 E' u fp w' (.row T s (n W as_) ((vs W as_).map .v)))/\(∀ b∈fp,w.heap.size<=b/\b<w'.heap.size)/\ah w [] w'
def Jg(κ:Nat)(T:TypeId)(s:Nat)(pre:World->List Nat->List AV->Prop)(n:World->List AV->Nat)(vs:World->List AV->List Value)(tm:World->List AV->SV->SV)(W:World)(bs:List Nat):Option (List AV×List Nat)->R
 |some (as_,rs)=>⟨pre W bs as_,tm W as_ (.hd (8*κ)),[(8*κ,some (.row T s (n W as_) ((vs W as_).map .v)))],none,[],rs⟩
 |none=>.bad
def xu.spec{P:Program}{f:FuncId}(p:xu P f):Spec P f where
 ev:=λW bs κ h args=>Jg κ p.T p.s p.pre p.n p.vs p.tm W bs (aC h args)
 good:=λW bs κ E F h w K args hs hK hk hx hside=>by
  rw[p.enters];cases hv:aC h args with
  |none=>rw[hv]at hside;exact hside.elim
  |some q=>
   obtain⟨as_,rs⟩:=q;rw[hv]at hside;refine zw hs hK hk ((p.ok W w bs _ as_ hs.keeps (eR hs hv) hside).mono λe w' he=>?_) rfl rfl;obtain⟨u,fp,rfl,hent,hfp,hkeep⟩:=he;refine⟨_,u,fp,rfl,hent,hfp,hkeep,?_⟩;simp only[Jg,p.tmg,den,nk,ak];rw[kD (dM (hent E))]
 keys:=λW bs κ h K args hK hx hside=>by
  cases hv:aC h args with
  |none=>rw[hv]at hside;exact hside.elim
  | some q=>
   obtain⟨as_,rs⟩:=q;refine⟨λk hk=>.inr ?_,λq hq=>?_⟩
   ·have:=p.tmk _ _ _ k hk;simp[SV.keys]at this;subst this;exact bc κ
   ·simp only[Jg,List.mem_singleton]at hq;subst hq;refine⟨.inr (bc κ),λe he k hk=>?_⟩;simp only[Option.some.injEq]at he;subst he;simp only[aS.keys,aB]at hk;cases hk
 loc:=λW bs κ h h' args hside hr=>by
  cases hv:aC h args with
  |none=>rw[hv]at hside;exact hside.elim
  |some q=>
   obtain⟨as_,rs⟩:=q;rw[hv]at hr;rw[dw hv hr]
theorem Rb(h:Hp):aC h []=some ([],[]):=rfl
theorem zP(h:Hp)(x:SV)(r:List SV):aC h (x::r)=lK (cL h x) (aC h r):=rfl
theorem ad4(h:Hp)(x:Value):cL h (.v x)=some (.val x,[]):=rfl
theorem Re(h:Hp)(l:List SV):cL h (.agg l)=(dv l).map λvs=>(.val (.agg vs.toArray),[]):=rfl
theorem WQ(h:Hp)(k:Nat):cL h (.hd k)=kB k (h k):=rfl
theorem Sg(k:Nat)(T:TypeId)(s n:Nat)(us:List SV):kB k (some (.row T s n us))=(dv us).map λvs=>(.row T s n vs,[k]):=rfl
theorem MD(a:AV)(r:List Nat)(as_:List AV)(rs:List Nat):lK (some (a,r)) (some (as_,rs))=some (a::as_,r++rs):=rfl
theorem aA(l:List Value):dv (l.map .v)=some l:=by
 induction l with
 |nil=>rfl
 |cons x r ih=>simp[dv,ih]
theorem KJ(pre:World->List Nat->List AV->Prop)(res:World->List AV->Value)(W:World)(bs:List Nat)(as_:List AV)(rs:List Nat):Hg pre res W bs (some (as_,rs))=⟨pre W bs as_,.v (res W as_),[],none,[],rs⟩:=rfl
theorem Me(κ:Nat)(T:TypeId)(s:Nat)(pre:World->List Nat->List AV->Prop)(n:World->List AV->Nat)(vs:World->List AV->List Value)(tm:World->List AV->SV->SV)(W:World)(bs:List Nat)(as_:List AV)(rs:List Nat) :
  Jg κ T s pre n vs tm W bs (some (as_,rs))=⟨pre W bs as_,tm W as_ (.hd (8*κ)),[(8*κ,some (.row T s (n W as_) ((vs W as_).map .v)))],none,[],rs⟩:=rfl
section
variable {P:Program}{W:World}{bs:List Nat}{κ:Nat}{h:Hp}
def wH(fl:List (Nat×Nat))(cells:List SV)(l:List (Nat×SV)):Option (List SV):=dH (λi=>fl[i]?) cells l
def ZW(fl:List (Nat×Nat))(cells:List SV)(r:List (Nat×SV))(x:SV):Option (Nat×Nat)->Option (List SV)
 |some (off,size)=>if (partsOf x).length=size/\off+size<=cells.length then wH fl (av cells off (partsOf x)) r else none
 |none=>none
theorem CV(fl:List (Nat×Nat))(cells:List SV):wH fl cells []=some cells:=rfl
theorem Lc(fl:List (Nat×Nat))(cells:List SV)(i:Nat)(x:SV)(r:List (Nat×SV)):wH fl cells ((i,x)::r)=ZW fl cells r x (fl[i]?):=by
 simp only[wH,dH,ZW];cases fl[i]?<;>rfl
theorem Ly(fl:List (Nat×Nat))(cells:List SV)(r:List (Nat×SV))(x:SV)(off size:Nat) :
  ZW fl cells r x (some (off,size))=if (partsOf x).length=size/\off+size<=cells.length then wH fl (av cells off (partsOf x)) r else none:=rfl
def MN:Option (List SV)->R
 |some cells=>⟨True,.agg cells,[],none,[],[]⟩
 |none=>.bad
theorem TF(l:List SV):MN (some l)=⟨True,.agg l,[],none,[],[]⟩:=rfl
def Mg(idx:List Nat)(args:List SV):Option (List Value)->Option (List (Nat×Nat))->R
 |some zs,some fl=>MN (wH fl (zs.map .v) (idx.zip args))
 |_,_=>.bad
theorem Hv(idx:List Nat)(args:List SV)(zs:List Value)(fl:List (Nat×Nat)):Mg idx args (some zs) (some fl)=MN (wH fl (zs.map .v) (idx.zip args)):=rfl
theorem an(T:TypeId)(idx:List Nat)(args:List SV)(hs:(rL P T).isSome=true):dO P T idx args=Mg idx args (tz P T) (rL P T):=by
 have hu:∃ fs,P.underlying T=some (.struct fs):=by
  unfold rL at hs;split at hs
  ·rename_i fs hfs;exact⟨fs,hfs⟩
  ·cases hs
 obtain⟨fs,hu⟩:=hu;obtain⟨fl,hfl⟩:=Option.isSome_iff_exists.1 hs;unfold dO Mg;rw[hu,hfl];cases tz P T with
 |none=>rfl
 |some zs=>
  simp only[wH,MN];cases dH (λi=>fl[i]?) (zs.map .v) (idx.zip args)<;>rfl
def tJ(sz:Nat)(cells:List SV)(l:List (Nat×SV)):Option (List SV):=dH (λi=>some (i*sz,sz)) cells l
theorem Tz(sz:Nat)(cells:List SV):tJ sz cells []=some cells:=rfl
theorem K7(sz:Nat)(cells:List SV)(i:Nat)(x:SV)(r:List (Nat×SV)) :
  tJ sz cells ((i,x)::r)=if (partsOf x).length=sz/\i*sz+sz<=cells.length then tJ sz (av cells (i*sz) (partsOf x)) r else none:=rfl
def ad2(κ:Nat)(e:TypeId)(sz len:Nat)(p:Prop):Option (List SV)->R
 |some cells=>⟨p,.hd (8*κ),[(8*κ,some (.row e sz len cells))],none,[],[]⟩
 |none=>.bad
theorem RZ(e:TypeId)(sz len:Nat)(p:Prop)(l:List SV):ad2 κ e sz len p (some l)=⟨p,.hd (8*κ),[(8*κ,some (.row e sz len l))],none,[],[]⟩:=rfl
def bsK(κ:Nat)(e:TypeId)(len:Nat)(idx:List Nat)(args:List SV):Option Nat->Option (List Value)->R
 |some sz,some zs=>ad2 κ e sz len (len*sz<=16777216/\zs.length=sz/\0<sz) (tJ sz ((List.replicate len zs).flatten.map .v) (idx.zip args))
 |_,_=>.bad
theorem VW(e:TypeId)(len:Nat)(idx:List Nat)(args:List SV)(sz:Nat)(zs:List Value) :
  bsK κ e len idx args (some sz) (some zs)=ad2 κ e sz len (len*sz<=16777216/\zs.length=sz/\0<sz) (tJ sz ((List.replicate len zs).flatten.map .v) (idx.zip args)):=rfl
def bsU(P:Program)(κ:Nat)(len:Nat)(idx:List Nat)(args:List SV):Option TypeDesc->R
 |some (.slice e)=>bsK κ e len idx args (ts P e) (tz P e)
 |_=>.bad
theorem Uv(len:Nat)(idx:List Nat)(args:List SV)(e:TypeId):bsU P κ len idx args (some (.slice e))=bsK κ e len idx args (ts P e) (tz P e):=rfl
theorem ab(T:TypeId)(len:Nat)(idx:List Nat)(args:List SV):bz P κ T len idx args=bsU P κ len idx args (P.underlying T):=by
 unfold bz bsU;rcases P.underlying T with _|d
 ·rfl
 ·cases d with
  | slice e=>
   simp only[bsK];rcases ts P e with _|sz<;>rcases tz P e with _|zs
   ·rfl
   ·rfl
   ·rfl
   ·simp only[ad2,tJ];cases dH (λi=>some (i*sz,sz)) ((List.replicate len zs).flatten.map .v) (idx.zip args)<;>rfl
  |_=>rfl
def aeA(P:Program)(κ k j:Nat)(tys:List TypeId):Option aS->Option aS->R
 |some (.row e sz n vs),some (.row _ sz' m us)=>match tys,sn P e,tz P e with
  |[T,T'],some by_,some zs=>⟨T' = T/\P.underlying T=some (.slice e)/\ts P e=some sz/\zs.length=sz/\0<sz/\sz' = sz/\k≠j/\0<m/\n+m<=maxLen/\(n+m)*by_<=140737488355328/\us.all di=true,.hd (8*κ),[(k,none),(8*κ,some (.row e sz (n+m) (vs++us)))],none,[],[k,j]⟩
  |_,_,_=>.bad
 |_,_=>.bad
theorem Nh(tys:List TypeId)(k j:Nat):fO P W bs κ h tys [.hd k,.hd j]=aeA P κ k j tys (h k) (h j):=by
 simp only[fO];unfold aeA;rcases h k with _|e<;>rcases h j with _|e'
 ·rcases tys with _|⟨a,_|⟨b,_|_⟩⟩<;>rfl
 ·rcases tys with _|⟨a,_|⟨b,_|_⟩⟩<;>rfl
 ·rcases tys with _|⟨a,_|⟨b,_|_⟩⟩<;>cases e<;>rfl
 ·rcases tys with _|⟨a,_|⟨b,_|_⟩⟩<;>cases e<;>cases e' <;> try rfl
  rename_i T s n vs T' s' n' vs';simp only[];rcases sn P T with _|x<;>rcases tz P T with _|y<;>rfl
def ajx(P:Program)(κ k j:Nat)(T T' e sz n sz' m:Nat)(vs us:List SV):Option Nat->Option (List Value)->R
 |some by_,some zs=>⟨T' = T/\P.underlying T=some (.slice e)/\ts P e=some sz/\zs.length=sz/\0<sz/\sz' = sz/\k≠j/\0<m/\n+m<=maxLen/\(n+m)*by_<=140737488355328/\us.all di=true,.hd (8*κ),[(k,none),(8*κ,some (.row e sz (n+m) (vs++us)))],none,[],[k,j]⟩
 |_,_=>.bad
theorem Yy(k j:Nat)(T T' e e' : TypeId)(sz n sz' m:Nat)(vs us:List SV) :
  aeA P κ k j [T,T'] (some (.row e sz n vs)) (some (.row e' sz' m us))=ajx P κ k j T T' e sz n sz' m vs us (sn P e) (tz P e):=by
 simp only[aeA,ajx];rcases sn P e with _|x<;>rcases tz P e with _|y<;>rfl
theorem TA(k j:Nat)(T T' e sz n sz' m:Nat)(vs us:List SV)(by_:Nat)(zs:List Value) :
  ajx P κ k j T T' e sz n sz' m vs us (some by_) (some zs)=⟨T' = T/\P.underlying T=some (.slice e)/\ts P e=some sz/\zs.length=sz/\0<sz/\sz' = sz/\k≠j/\0<m/\n+m<=maxLen/\(n+m)*by_<=140737488355328/\us.all di=true,.hd (8*κ),[(k,none),(8*κ,some (.row e sz (n+m) (vs++us)))],none,[],[k,j]⟩:=rfl
def ab0(P:Program)(κ j:Nat)(T T' : TypeId):Option TypeDesc->Option aS->R
 |some (.slice e),some (.row _ sz m us)=>match sn P e,tz P e with
  |some by_,some zs=>⟨T' = T/\ts P e=some sz/\zs.length=sz/\0<sz/\0<m/\m<=maxLen/\m*by_<=140737488355328/\us.all di=true,.hd (8*κ),[(8*κ,some (.row e sz m us))],none,[],[j]⟩
  |_,_=>.bad
 |_,_=>.bad
def agV(κ k:Nat)(T T' e:TypeId)(sz n m:Nat)(vs us:List SV)(P:Program)(q:Prop):Option Nat->Option (List Value)->R
 |some by_,some zs=>⟨T' = T/\P.underlying T=some (.slice e)/\ts P e=some sz/\zs.length=sz/\q/\n+m<=maxLen/\(n+m)*by_<=140737488355328/\us.all di=true,.hd (8*κ),[(k,none),(8*κ,some (.row e sz (n+m) (vs++us)))],none,[],[k]⟩
 |_,_=>.bad
def ad8(P:Program)(W:World)(bs:List Nat)(κ k:Nat)(ao:Option Addr)(m:Nat)(T T' : TypeId):Bool->Option aS->R
 |true,some (.row e sz n vs)=>⟨T' = T/\P.underlying T=some (.slice e)/\ts P e=some sz/\m=0,.hd k,[],none,[],[k]⟩
 |false,some (.row e sz n vs)=>(match ao with
  |some ⟨b,o,none⟩=>agV κ k T T' e sz n m vs (bU W b o (m*sz)) P (b∉bs/\dL W b o (m*sz)) (sn P e) (tz P e)
  |_=>.bad)
 |_,_=>.bad
theorem NO(T T' : TypeId)(k m c:Nat)(ao:Option Addr):fO P W bs κ h [T,T'] [.hd k,.v (.slice ao m c)]=ad8 P W bs κ k ao m T T' (m == 0) (h k):=by
 simp only[fO];unfold ad8;rcases h k with _|e
 ·cases (m == 0)<;>rfl
 ·cases e with
  | row e sz n vs=>
   cases (m == 0) with
   |true=>rfl
   | false=>
    simp only[cond_false];rcases ao with _|⟨b,o,_|s⟩
    ·rfl
    ·simp only[agV];rcases sn P e with _|x<;>rcases tz P e with _|y<;>rfl
    ·rfl
  |_=>cases (m == 0)<;>rfl
theorem R7(k m:Nat)(ao:Option Addr)(T T' e:TypeId)(sz n:Nat)(vs:List SV):ad8 P W bs κ k ao m T T' true (some (.row e sz n vs))=⟨T' = T/\P.underlying T=some (.slice e)/\ts P e=some sz/\m=0,.hd k,[],none,[],[k]⟩:=rfl
theorem XP(k m b o:Nat)(T T' e:TypeId)(sz n:Nat)(vs:List SV):ad8 P W bs κ k (some ⟨b,o,none⟩) m T T' false (some (.row e sz n vs))=agV κ k T T' e sz n m vs (bU W b o (m*sz)) P (b∉bs/\dL W b o (m*sz)) (sn P e) (tz P e):=rfl
theorem TK(k:Nat)(T T' e:TypeId)(sz n m:Nat)(vs us:List SV)(q:Prop)(by_:Nat)(zs:List Value):agV κ k T T' e sz n m vs us P q (some by_) (some zs)=⟨T' = T/\P.underlying T=some (.slice e)/\ts P e=some sz/\zs.length=sz/\q/\n+m<=maxLen/\(n+m)*by_<=140737488355328/\us.all di=true,.hd (8*κ),[(k,none),(8*κ,some (.row e sz (n+m) (vs++us)))],none,[],[k]⟩:=rfl
def ac1(P:Program)(κ k:Nat)(s:ByteArray)(T T' : TypeId):Option aS->R
 |some (.row e sz n vs)=>(match sn P e,tz P e with
  |some by_,some zs=>⟨P.underlying T' = some .string/\P.underlying T=some (.slice e)/\ts P e=some sz/\zs.length=sz/\sz=1/\n+s.size<=maxLen/\(n+s.size)*by_<=140737488355328,.hd (8*κ),[(k,none),(8*κ,some (.row e sz (n+s.size) (vs++(byteCells s).map .v)))],none,[],[k]⟩
  |_,_=>.bad)
 |_=>.bad
theorem IE(T T' : TypeId)(k:Nat)(s:ByteArray):fO P W bs κ h [T,T'] [.hd k,.v (.string s)]=ac1 P κ k s T T' (h k):=by
 simp only[fO];unfold ac1;rcases h k with _|e
 ·rfl
 ·cases e with
  |_=>rfl
def aja(κ k:Nat)(s:ByteArray)(P:Program)(T T' e:TypeId)(sz n:Nat)(vs:List SV):Option Nat->Option (List Value)->R
 |some by_,some zs=>⟨P.underlying T' = some .string/\P.underlying T=some (.slice e)/\ts P e=some sz/\zs.length=sz/\sz=1/\n+s.size<=maxLen/\(n+s.size)*by_<=140737488355328,.hd (8*κ),[(k,none),(8*κ,some (.row e sz (n+s.size) (vs++(byteCells s).map .v)))],none,[],[k]⟩
 |_,_=>.bad
theorem Ym(k:Nat)(s:ByteArray)(T T' e:TypeId)(sz n:Nat)(vs:List SV):ac1 P κ k s T T' (some (.row e sz n vs))=aja κ k s P T T' e sz n vs (sn P e) (tz P e):=by
 simp only[ac1,aja]
theorem Tn(k:Nat)(s:ByteArray)(T T' e:TypeId)(sz n:Nat)(vs:List SV)(by_:Nat)(zs:List Value):aja κ k s P T T' e sz n vs (some by_) (some zs)=⟨P.underlying T' = some .string/\P.underlying T=some (.slice e)/\ts P e=some sz/\zs.length=sz/\sz=1/\n+s.size<=maxLen/\(n+s.size)*by_<=140737488355328,.hd (8*κ),[(k,none),(8*κ,some (.row e sz (n+s.size) (vs++(byteCells s).map .v)))],none,[],[k]⟩:=rfl
theorem NU(T T' : TypeId)(j:Nat):fO P W bs κ h [T,T'] [.v (.slice none 0 0),.hd j]=ab0 P κ j T T' (P.underlying T) (h j):=by
 simp only[fO];unfold ab0;rcases h j with _|e'
 ·rcases P.underlying T with _|d
  ·rfl
  ·cases d<;>rfl
 ·cases e' with
  | row e sz m us=>
   simp only[];rcases P.underlying T with _|d
   ·rfl
   ·cases d with
    |slice a=>
     simp only[];rcases sn P a with _|x<;>rcases tz P a with _|y<;>rfl
    |_=>rfl
  |cells T2 vs=>
   rcases P.underlying T with _|d
   ·rfl
   ·cases d<;>rfl
  |obj d R=>
   rcases P.underlying T with _|d
   ·rfl
   ·cases d<;>rfl
def ai2(P:Program)(κ j:Nat)(T T' e sz m:Nat)(us:List SV):Option Nat->Option (List Value)->R
 |some by_,some zs=>⟨T' = T/\ts P e=some sz/\zs.length=sz/\0<sz/\0<m/\m<=maxLen/\m*by_<=140737488355328/\us.all di=true,.hd (8*κ),[(8*κ,some (.row e sz m us))],none,[],[j]⟩
 |_,_=>.bad
theorem YF(j:Nat)(T T' e e' : TypeId)(sz m:Nat)(us:List SV) :
  ab0 P κ j T T' (some (.slice e)) (some (.row e' sz m us))=ai2 P κ j T T' e sz m us (sn P e) (tz P e):=by
 simp only[ab0,ai2]
theorem R4(j:Nat)(T T' e sz m:Nat)(us:List SV)(by_:Nat)(zs:List Value) :
  ai2 P κ j T T' e sz m us (some by_) (some zs)=⟨T' = T/\ts P e=some sz/\zs.length=sz/\0<sz/\0<m/\m<=maxLen/\m*by_<=140737488355328/\us.all di=true,.hd (8*κ),[(8*κ,some (.row e sz m us))],none,[],[j]⟩:=rfl
end
theorem ae{n:Int}(h1:-9223372036854775808<=n)(h2:n<=9223372036854775807):IntKind.i64.wrap n=n:=by
 simp only[IntKind.wrap,IntKind.bits,IntKind.signed,Bool.true_and,decide_eq_true_eq,show (2:Int) ^ (64-1)=9223372036854775808 from rfl,show (2:Int) ^ 64=18446744073709551616 from rfl];split<;>omega
theorem acY(W:World)(b o:Nat):bU W b o 1=[.v ((W.cell? ⟨b,o,none⟩).getD undef)]:=rfl
theorem abJ(W:World)(b o:Nat):bU W b o 2=[.v ((W.cell? ⟨b,o,none⟩).getD undef),.v ((W.cell? ⟨b,o+1,none⟩).getD undef)]:=rfl
theorem adv(W:World)(b o:Nat):bU W b o 3=[.v ((W.cell? ⟨b,o,none⟩).getD undef),.v ((W.cell? ⟨b,o+1,none⟩).getD undef),.v ((W.cell? ⟨b,o+2,none⟩).getD undef)]:=rfl
theorem afU(W:World)(b o:Nat):bU W b o 4=[.v ((W.cell? ⟨b,o,none⟩).getD undef),.v ((W.cell? ⟨b,o+1,none⟩).getD undef),.v ((W.cell? ⟨b,o+2,none⟩).getD undef),.v ((W.cell? ⟨b,o+3,none⟩).getD undef)]:=rfl
theorem afK(W:World)(b o:Nat):dL W b o 1=((W.cell? ⟨b,o,none⟩).isSome=true):=by simp[dL]
theorem agp(W:World)(b o:Nat):dL W b o 2=((W.cell? ⟨b,o,none⟩).isSome=true/\(W.cell? ⟨b,o+1,none⟩).isSome=true):=by simp[dL]
theorem afk(W:World)(b o:Nat):dL W b o 3=((W.cell? ⟨b,o,none⟩).isSome=true/\(W.cell? ⟨b,o+1,none⟩).isSome=true/\(W.cell? ⟨b,o+2,none⟩).isSome=true):=by simp[dL]
theorem aeY(W:World)(b o:Nat):dL W b o 4=((W.cell? ⟨b,o,none⟩).isSome=true/\(W.cell? ⟨b,o+1,none⟩).isSome=true/\(W.cell? ⟨b,o+2,none⟩).isSome=true/\(W.cell? ⟨b,o+3,none⟩).isSome=true):=by simp[dL]
theorem adY(e e' : TypeId):((some (TypeDesc.slice e):Option TypeDesc)=some (.slice e'))=(e=e'):=by simp
theorem aeN(e:TypeId):(∃ e',(some (TypeDesc.slice e):Option TypeDesc)=some (.slice e'))=True:=by simp
theorem Bg(i:Nat)(vs:Array Value):fe i [.v (.tuple vs)]=⟨i<vs.size,.v (vs.getD i undef),[],none,[],[]⟩:=rfl
theorem Um(b:Builtin)(as_:Array Operand)(tys:Array TypeId):Call.operands { callee:=.builtin b,args:=as_,argTypes:=tys }=as_:=by simp[Call.operands]
theorem T8(f:Operand)(as_:Array Operand)(tys:Array TypeId):(Call.operands { callee:=.value f,args:=as_,argTypes:=tys }).toList=f::as_.toList:=by simp[Call.operands]
theorem Rj(f:Operand)(n:String)(as_:Array Operand)(tys:Array TypeId):(Call.operands { callee:=.invoke f n,args:=as_,argTypes:=tys }).toList=f::as_.toList:=by simp[Call.operands]
def VC{P:Program}{f:FuncId}(W:World)(bs:List Nat)(κ:Nat)(h:Hp)(l:List SV):Option (Spec P f)->R
 |some s=>s.ev W bs κ h l
 |none=>.bad
theorem aG{P:Program}{W:World}{bs:List Nat}{κ:Nat}{h:Hp}(Γ:Env P)(f:FuncId)(l:List SV):nZ Γ W bs κ h f l=VC W bs κ h l (Γ.sp f):=by
 simp only[nZ,VC];cases Γ.sp f<;>rfl
theorem al{P:Program}{f:FuncId}(W:World)(bs:List Nat)(κ:Nat)(h:Hp)(l:List SV)(s:Spec P f):VC W bs κ h l (some s)=s.ev W bs κ h l:=rfl
theorem ax{P:Program}{f:FuncId}(p:aM P f)(W:World)(bs:List Nat)(κ:Nat)(h:Hp)(l:List SV):p.spec.ev W bs κ h l=Hg p.pre p.res W bs (aC h l):=rfl
theorem aaG{P:Program}{f:FuncId}(p:xu P f)(W:World)(bs:List Nat)(κ:Nat)(h:Hp)(l:List SV):p.spec.ev W bs κ h l=Jg κ p.T p.s p.pre p.n p.vs p.tm W bs (aC h l):=rfl
theorem Yi{P:Program}{W:World}{bs:List Nat}{σ:St}:jA P W bs σ []=(True,[]):=rfl
theorem Rg{P:Program}{W:World}{bs:List Nat}{σ:St}(r:ResultVar)(l:List ResultVar):jA P W bs σ (r::l)=evC (l6 P W bs σ r) (jA P W bs σ l):=rfl
def aiS:FV->Prop×SV
 |.is x=>(True,x)
 |.cnd b x=>(b=true,x)
 |.any=>(False,.v undef)
theorem Nj{P:Program}{W:World}{bs:List Nat}{σ:St}(t:Nat):l6 P W bs σ (.tmp t)=aiS (σ.φ t):=by
 simp only[l6,aiS]
 all_goals cases σ.φ t<;>rfl
theorem afv(x:SV):aiS (.is x)=(True,x):=rfl
def YR(P:Program)(W:World)(bs:List Nat)(h:Hp)(T:TypeId):FV->Prop×SV
 |.is (.own k o)=>resR (dQ P W bs h T [.own k o])
 |_=>(False,.v undef)
where resR (r:R):Prop×SV:=(r.side,r.val)
theorem Hf{P:Program}{W:World}{bs:List Nat}{σ:St}(t:Nat)(T:TypeId):l6 P W bs σ (.cell t T)=YR P W bs σ.h T (σ.φ t):=by
 simp only[l6,YR];rcases σ.φ t with x|⟨b,x⟩|_
 ·cases x<;>rfl
 ·rfl
 ·rfl
theorem ZS{P:Program}{W:World}{bs:List Nat}{h:Hp}(T:TypeId)(k o:Nat):YR P W bs h T (.is (.own k o))=YR.resR (dQ P W bs h T [.own k o]):=rfl
theorem agH(side:Prop)(val:SV)(u:List (Nat×Option aS))(pan:Option (List PanicEntry))(pupd reads:List Nat):YR.resR ⟨side,val,u,pan,pupd,reads⟩=(side,val):=rfl
theorem Ro(x:SV):lH [x]=x:=rfl
theorem Uq(x y:SV)(l:List SV):lH (x::y::l)=.tup (x::y::l):=rfl
def aiV(R:World->List Nat->SV->Hp->Prop)(W:World)(bs:List Nat)(h:Hp)(x:Prop×List SV):Prop:=x.1/\R W bs (lH x.2) h
theorem qE{P:Program}{W:World}{bs:List Nat}{rs:List ResultVar}{R:World->List Nat->SV->Hp->Prop}{RP:List PanicEntry->Hp->Prop}{σ:St}:Fin P rs R RP .ret W bs σ=aiV R W bs σ.h (jA P W bs σ rs):=rfl
theorem jC{P:Program}{W:World}{bs:List Nat}{rs:List ResultVar}{R:World->List Nat->SV->Hp->Prop}{RP:List PanicEntry->Hp->Prop}{σ:St}:Fin P rs R RP .normal W bs σ=aiV R W bs σ.h (jA P W bs σ rs):=rfl
theorem acN(R:World->List Nat->SV->Hp->Prop)(W:World)(bs:List Nat)(h:Hp)(p:Prop)(l:List SV):aiV R W bs h (p,l)=(p/\R W bs (lH l) h):=rfl
end
section
def ev4:=(aa @Rb (aa @zP (aa @ad4 (aa @Re (aa @WQ (aa @Sg (aa @MD (aa @aA (aa @KJ (aa @Me (aa @VL @RJ)))))))))))
def ev5:=(aa @NO (aa @R7 (aa @XP (aa @TK (aa @IE (aa @Ym (aa @Tn (aa @CV (aa @Lc (aa @Ly (aa @TF (aa @Hv (aa @Tz (aa @K7 (aa @RZ (aa @VW (aa @Uv (aa @CV (aa @Nh (aa @Yy (aa @TA (aa @NU (aa @YF (aa @R4 (aa @acY (aa @abJ (aa @adv (aa @afU (aa @afK (aa @agp (aa @afk (aa @aeY (aa @adY (aa @aeN (aa @Bg (aa @Um (aa @T8 (aa @Rj (aa @aG (aa @al (aa @ax (aa @aaG (aa @Yi (aa @Rg (aa @Nj (aa @afv (aa @Hf (aa @ZS (aa @agH (aa @Ro (aa @Uq (aa @qE (aa @jC @acN)))))))))))))))))))))))))))))))))))))))))))))))))))))
end
end Go.LE
namespace Go.Proofs.YtnemkecffmdlnaaGreatDoor
section
theorem kR{p:Prop}(h:p:=by kernel_rfl):p:=h
open Go.RowKit Go.LE Go.Proofs.Tryz
theorem cj:prog.follows .mixedOrders=true:=kR
theorem jk:ts prog 0=some 1:=kR
theorem jn:ta prog 0=some false:=kR
theorem BG:ts prog 1=some 1:=kR
theorem BH:ta prog 1=some false:=kR
theorem BJ:tz prog 1=some [Value.nilFunc]:=kR
theorem ty5:ts prog 2=some 1:=kR
theorem ty6:ta prog 2=some false:=kR
theorem ty7:tz prog 2=some [Value.int IntKind.i64 0]:=kR
theorem ty8:Program.underlying prog 2=some (.int IntKind.i64):=kR
theorem gR:ts prog 3=some 1:=kR
theorem ck:ta prog 3=some false:=kR
theorem cf:sn prog 3=some 8:=kR
theorem b9:tz prog 3=some [Value.int IntKind.i64 0]:=kR
theorem b8:Program.underlying prog 3=some (.int IntKind.i64):=kR
theorem ca:ts prog 4=some 1:=kR
theorem cc:ta prog 4=some false:=kR
theorem cg:tz prog 4=some [Value.bool false]:=kR
theorem cd:Program.underlying prog 4=some .bool:=kR
theorem fu:ts prog 5=some 1:=kR
theorem fh:ta prog 5=some false:=kR
theorem fy:sn prog 5=some 1:=kR
theorem ft:tz prog 5=some [Value.int IntKind.u8 0]:=kR
theorem fB:Program.underlying prog 5=some (.int IntKind.u8):=kR
theorem dc:ts prog 9=some 1:=kR
theorem df:ta prog 9=some false:=kR
theorem dh:sn prog 9=some 16:=kR
theorem db:tz prog 9=some [Value.string { data:=#[] }]:=kR
theorem cY:Program.underlying prog 9=some .string:=kR
theorem c8:Program.concrete prog 9=true:=kR
theorem WC:ts prog 20=some 1:=kR
theorem aab:ta prog 20=some false:=kR
theorem V9:tz prog 20=some [Value.nilIface]:=kR
theorem aaC:isIface prog 20=some true:=kR
theorem rD:ts prog 22=some 1:=kR
theorem sq:ta prog 22=some false:=kR
theorem rV:tz prog 22=some [Value.slice none 0 0]:=kR
theorem rQ:Program.underlying prog 22=some (.slice 9):=kR
theorem GS:ts prog 27=some 1:=kR
theorem HG:ta prog 27=some false:=kR
theorem Hl:tz prog 27=some [Value.slice none 0 0]:=kR
theorem HX:Program.underlying prog 27=some (.slice 50):=kR
theorem yW:ts prog 29=some 5:=kR
theorem yM:ta prog 29=some true:=kR
theorem zA:tz prog 29=some [Value.slice none 0 0,Value.slice none 0 0,Value.slice none 0 0,Value.int IntKind.i64 0,Value.int IntKind.i64 0]:=kR
theorem yI:rL prog 29=some [(0,1),(1,1),(2,1),(3,1),(4,1)]:=kR
theorem Bv:tf prog 29 0=some (0,1,false):=kR
theorem Ad:tf prog 29 1=some (1,1,false):=kR
theorem yG:tf prog 29 2=some (2,1,false):=kR
theorem Bj:tf prog 29 3=some (3,1,false):=kR
theorem zK:tf prog 29 4=some (4,1,false):=kR
theorem amF:ts prog 31=some 1:=kR
theorem amr:ta prog 31=some false:=kR
theorem ac0:ts prog 33=some 1:=kR
theorem aev:ta prog 33=some false:=kR
theorem adb:tz prog 33=some [Value.slice none 0 0]:=kR
theorem aex:Program.underlying prog 33=some (.slice 85):=kR
theorem Xt:ts prog 35=some 5:=kR
theorem Ws:ta prog 35=some true:=kR
theorem Wd:tz prog 35=some [Value.slice none 0 0,Value.slice none 0 0,Value.slice none 0 0,Value.int IntKind.i64 0,Value.int IntKind.i64 0]:=kR
theorem aaH:rL prog 35=some [(0,1),(1,1),(2,1),(3,1),(4,1)]:=kR
theorem ZB:tf prog 35 0=some (0,1,false):=kR
theorem Zi:tf prog 35 1=some (1,1,false):=kR
theorem Yc:tf prog 35 2=some (2,1,false):=kR
theorem aai:tf prog 35 3=some (3,1,false):=kR
theorem Vj:tf prog 35 4=some (4,1,false):=kR
theorem aaO:ts prog 37=some 1:=kR
theorem aaJ:ta prog 37=some false:=kR
theorem Ys:tz prog 37=some [Value.int IntKind.i64 0]:=kR
theorem ZM:Program.underlying prog 37=some (.int IntKind.i64):=kR
theorem zl:ts prog 39=some 3:=kR
theorem yK:ta prog 39=some true:=kR
theorem yS:Eb prog 39=some (.agg #[Value.int IntKind.i64 0,Value.int IntKind.i64 0,Value.string { data:=#[] }]):=kR
theorem y5:tz prog 39=some [Value.int IntKind.i64 0,Value.int IntKind.i64 0,Value.string { data:=#[] }]:=kR
theorem Bb:rL prog 39=some [(0,1),(1,1),(2,1)]:=kR
theorem AY:isIface prog 39=some false:=kR
theorem AI:Program.concrete prog 39=true:=kR
theorem AO:tf prog 39 0=some (0,1,false):=kR
theorem Ar:tf prog 39 1=some (1,1,false):=kR
theorem yQ:tf prog 39 2=some (2,1,false):=kR
theorem BZ:ts prog 50=some 4:=kR
theorem Cf:ta prog 50=some true:=kR
theorem Ce:sn prog 50=some 32:=kR
theorem Cb:tz prog 50=some [Value.int IntKind.i64 0,Value.int IntKind.i64 0,Value.int IntKind.i64 0,Value.int IntKind.i64 0]:=kR
theorem Cg:rL prog 50=some [(0,1),(1,1),(2,1),(3,1)]:=kR
theorem Ck:tf prog 50 0=some (0,1,false):=kR
theorem B9:tf prog 50 1=some (1,1,false):=kR
theorem Cj:tf prog 50 2=some (2,1,false):=kR
theorem rn:tf prog 50 3=some (3,1,false):=kR
theorem xi:ts prog 62=some 1:=kR
theorem vU:ta prog 62=some false:=kR
theorem xj:tz prog 62=some [Value.slice none 0 0]:=kR
theorem tK:Program.underlying prog 62=some (.slice 243):=kR
theorem yX:ts prog 64=some 2:=kR
theorem AW:ta prog 64=some true:=kR
theorem Aa:tz prog 64=some [Value.slice none 0 0,Value.int IntKind.i64 0]:=kR
theorem Al:rL prog 64=some [(0,1),(1,1)]:=kR
theorem A5:tf prog 64 0=some (0,1,false):=kR
theorem AB:tf prog 64 1=some (1,1,false):=kR
theorem JT:ts prog 85=some 4:=kR
theorem HR:ta prog 85=some true:=kR
theorem Jf:sn prog 85=some 32:=kR
theorem H4:tz prog 85=some [Value.int IntKind.i64 0,Value.int IntKind.i64 0,Value.int IntKind.i64 0,Value.int IntKind.i64 0]:=kR
theorem JB:rL prog 85=some [(0,1),(1,1),(2,1),(3,1)]:=kR
theorem JL:tf prog 85 0=some (0,1,false):=kR
theorem GL:tf prog 85 1=some (1,1,false):=kR
theorem ID:tf prog 85 2=some (2,1,false):=kR
theorem I2:tf prog 85 3=some (3,1,false):=kR
theorem xw:ts prog 89=some 1:=kR
theorem wG:ta prog 89=some false:=kR
theorem wD:tz prog 89=some [Value.slice none 0 0]:=kR
theorem vP:Program.underlying prog 89=some (.slice 5):=kR
theorem alZ:ts prog 91=some 2:=kR
theorem akN:ta prog 91=some true:=kR
theorem akJ:tz prog 91=some [Value.pointer none,Value.slice none 0 0]:=kR
theorem alR:rL prog 91=some [(0,1),(1,1)]:=kR
theorem alP:tf prog 91 0=some (0,1,false):=kR
theorem alH:tf prog 91 1=some (1,1,false):=kR
theorem Wn:ts prog 93=some 1:=kR
theorem Vd:ta prog 93=some false:=kR
theorem XK:tz prog 93=some [Value.nilIface]:=kR
theorem aap:isIface prog 93=some true:=kR
theorem alY:ts prog 94=some 1:=kR
theorem ak3:ta prog 94=some false:=kR
theorem al4:ts prog 96=some 1:=kR
theorem ak6:ta prog 96=some false:=kR
theorem alx:tz prog 96=some [Value.nilFunc]:=kR
theorem alJ:ts prog 145=some 1:=kR
theorem al5:ta prog 145=some false:=kR
theorem ahO:ts prog 147=some 1:=kR
theorem ahq:ta prog 147=some false:=kR
theorem Po:ts prog 149=some 1:=kR
theorem QH:ta prog 149=some false:=kR
theorem P0:tz prog 149=some [Value.slice none 0 0]:=kR
theorem OL:Program.underlying prog 149=some (.slice 3):=kR
theorem vN:ts prog 151=some 1:=kR
theorem wx:ta prog 151=some false:=kR
theorem wL:tz prog 151=some [Value.nilIface]:=kR
theorem w7:isIface prog 151=some true:=kR
theorem akR:ts prog 152=some 1:=kR
theorem ak8:ta prog 152=some false:=kR
theorem G4:ts prog 156=some 1:=kR
theorem Ib:ta prog 156=some false:=kR
theorem H9:tz prog 156=some [Value.int IntKind.i64 0]:=kR
theorem GW:Program.underlying prog 156=some (.int IntKind.i64):=kR
theorem Yj:ts prog 160=some 4:=kR
theorem aak:ta prog 160=some true:=kR
theorem Vu:tz prog 160=some [Value.string { data:=#[] },Value.bool false,Value.int IntKind.i64 0,Value.int IntKind.i64 0]:=kR
theorem W5:rL prog 160=some [(0,1),(1,1),(2,1),(3,1)]:=kR
theorem aaN:tf prog 160 0=some (0,1,false):=kR
theorem ZP:tf prog 160 1=some (1,1,false):=kR
theorem Xz:tf prog 160 2=some (2,1,false):=kR
theorem Xh:tf prog 160 3=some (3,1,false):=kR
theorem aaQ:ts prog 161=some 84:=kR
theorem aaU:ta prog 161=some true:=kR
theorem Wj:Program.underlying prog 161=some (.array 21 160):=kR
theorem pJ:ts prog 203=some 1:=kR
theorem qg:ta prog 203=some false:=kR
theorem pB:tz prog 203=some [Value.int IntKind.u64 0]:=kR
theorem pA:Program.underlying prog 203=some (.int IntKind.u64):=kR
theorem Pq:ts prog 229=some 1:=kR
theorem PQ:ta prog 229=some false:=kR
theorem OR:tz prog 229=some [Value.pointer none]:=kR
theorem Ot:jq prog 229=some true:=kR
theorem OS:Program.underlying prog 229=some (.pointer 232):=kR
theorem Zx:ts prog 230=some 1:=kR
theorem ZA:ta prog 230=some false:=kR
theorem Yp:tz prog 230=some [Value.slice none 0 0]:=kR
theorem aae:Program.underlying prog 230=some (.slice 234):=kR
theorem Pz:ts prog 232=some 2:=kR
theorem Pm:ta prog 232=some true:=kR
theorem QP:tz prog 232=some [Value.slice none 0 0,Value.slice none 0 0]:=kR
theorem QI:rL prog 232=some [(0,1),(1,1)]:=kR
theorem PZ:tf prog 232 0=some (0,1,false):=kR
theorem Oc:tf prog 232 1=some (1,1,false):=kR
theorem QG:ts prog 234=some 6:=kR
theorem O6:ta prog 234=some true:=kR
theorem Qj:sn prog 234=some 48:=kR
theorem PN:tz prog 234=some [Value.int IntKind.i64 0,Value.int IntKind.i64 0,Value.int IntKind.i64 0,Value.int IntKind.u8 0,Value.int IntKind.i64 0,Value.int IntKind.i64 0]:=kR
theorem Qu:rL prog 234=some [(0,1),(1,1),(2,1),(3,1),(4,1),(5,1)]:=kR
theorem Oi:tf prog 234 0=some (0,1,false):=kR
theorem PM:tf prog 234 1=some (1,1,false):=kR
theorem P7:tf prog 234 2=some (2,1,false):=kR
theorem P5:tf prog 234 3=some (3,1,false):=kR
theorem PX:tf prog 234 4=some (4,1,false):=kR
theorem PK:tf prog 234 5=some (5,1,false):=kR
theorem U4:ts prog 236=some 1:=kR
theorem WN:ta prog 236=some false:=kR
theorem Wk:tz prog 236=some [Value.pointer none]:=kR
theorem WJ:jq prog 236=some true:=kR
theorem Wu:Program.underlying prog 236=some (.pointer 234):=kR
theorem alS:ts prog 238=some 1:=kR
theorem alM:ta prog 238=some false:=kR
theorem DT:ts prog 241=some 256:=kR
theorem Dq:ta prog 241=some true:=kR
theorem DD:tz prog 241=some (List.replicate 256 (Value.bool false)):=kR
theorem Cq:Program.underlying prog 241=some (.array 256 4):=kR
theorem sK:ts prog 243=some 261:=kR
theorem wP:ta prog 243=some true:=kR
theorem wU:sn prog 243=some 296:=kR
theorem sF:tz prog 243=some ([Value.int IntKind.i64 0]++(List.replicate 256 (Value.bool false))++[Value.int IntKind.i64 0]++[Value.int IntKind.i64 0]++[Value.int IntKind.i64 0]++[Value.int IntKind.i64 0]):=kR
theorem vY:rL prog 243=some [(0,1),(1,256),(257,1),(258,1),(259,1),(260,1)]:=kR
theorem wV:tf prog 243 0=some (0,1,false):=kR
theorem xn:tf prog 243 1=some (1,256,true):=kR
theorem vW:tf prog 243 2=some (257,1,false):=kR
theorem wA:tf prog 243 3=some (258,1,false):=kR
theorem wO:tf prog 243 4=some (259,1,false):=kR
theorem w6:tf prog 243 5=some (260,1,false):=kR
theorem alT:ts prog 244=some 1:=kR
theorem alW:ta prog 244=some false:=kR
theorem I6:ts prog 248=some 1:=kR
theorem HK:ta prog 248=some false:=kR
theorem GF:tz prog 248=some [Value.pointer none]:=kR
theorem Kc:jq prog 248=some true:=kR
theorem Ji:Program.underlying prog 248=some (.pointer 64):=kR
theorem Ac:ts prog 249=some 1:=kR
theorem Am:ta prog 249=some false:=kR
theorem Ag:tz prog 249=some [Value.pointer none]:=kR
theorem yE:jq prog 249=some true:=kR
theorem AM:Program.underlying prog 249=some (.pointer 251):=kR
theorem zG:ts prog 251=some 3:=kR
theorem A0:ta prog 251=some true:=kR
theorem Bo:tz prog 251=some [Value.string { data:=#[] },Value.int IntKind.i64 0,Value.slice none 0 0]:=kR
theorem AS:rL prog 251=some [(0,1),(1,1),(2,1)]:=kR
theorem zD:tf prog 251 0=some (0,1,false):=kR
theorem A2:tf prog 251 1=some (1,1,false):=kR
theorem AH:tf prog 251 2=some (2,1,false):=kR
theorem Qg:ts prog 252=some 1:=kR
theorem Qn:ta prog 252=some false:=kR
theorem PH:tz prog 252=some [Value.nilFunc]:=kR
theorem tg:ts prog 254=some 2:=kR
theorem s4:ta prog 254=some true:=kR
theorem sR:tz prog 254=some [Value.int IntKind.i64 0,Value.nilFunc]:=kR
theorem sM:rL prog 254=some [(0,1),(1,1)]:=kR
theorem tn:tf prog 254 0=some (0,1,false):=kR
theorem ui:tf prog 254 1=some (1,1,false):=kR
theorem Yz:ts prog 279=some 1:=kR
theorem aa0:ta prog 279=some true:=kR
theorem Xm:Eb prog 279=some (.agg #[Value.nilIface]):=kR
theorem YX:tz prog 279=some [Value.nilIface]:=kR
theorem Xk:rL prog 279=some [(0,1)]:=kR
theorem VU:isIface prog 279=some false:=kR
theorem Xq:Program.concrete prog 279=true:=kR
theorem ZE:tf prog 279 0=some (0,1,false):=kR
theorem U1:ts prog 281=some 2:=kR
theorem Ya:ta prog 281=some true:=kR
theorem Vh:Eb prog 281=some (.agg #[Value.nilIface,Value.nilIface]):=kR
theorem aaf:tz prog 281=some [Value.nilIface,Value.nilIface]:=kR
theorem ZH:rL prog 281=some [(0,1),(1,1)]:=kR
theorem V2:isIface prog 281=some false:=kR
theorem X9:Program.concrete prog 281=true:=kR
theorem VY:tf prog 281 0=some (0,1,false):=kR
theorem ZD:tf prog 281 1=some (1,1,false):=kR
theorem Oj:ts prog 283=some 0:=kR
theorem Qt:ta prog 283=some true:=kR
theorem Qi:Eb prog 283=some (.agg #[]):=kR
theorem OC:tz prog 283=some []:=kR
theorem Pr:rL prog 283=some []:=kR
theorem Ox:isIface prog 283=some false:=kR
theorem OZ:Program.concrete prog 283=true:=kR
theorem VV:ts prog 284=some 2:=kR
theorem Ww:ta prog 284=some true:=kR
theorem ZL:Eb prog 284=some (.agg #[Value.nilIface,Value.nilIface]):=kR
theorem YW:tz prog 284=some [Value.nilIface,Value.nilIface]:=kR
theorem X7:rL prog 284=some [(0,1),(1,1)]:=kR
theorem Zz:isIface prog 284=some false:=kR
theorem ZU:Program.concrete prog 284=true:=kR
theorem aaA:tf prog 284 0=some (0,1,false):=kR
theorem Xo:tf prog 284 1=some (1,1,false):=kR
theorem XG:ts prog 285=some 2:=kR
theorem Xw:ta prog 285=some true:=kR
theorem VD:Eb prog 285=some (.agg #[Value.nilIface,Value.nilIface]):=kR
theorem Xx:tz prog 285=some [Value.nilIface,Value.nilIface]:=kR
theorem Z8:rL prog 285=some [(0,1),(1,1)]:=kR
theorem Vy:isIface prog 285=some false:=kR
theorem VE:Program.concrete prog 285=true:=kR
theorem Xc:tf prog 285 0=some (0,1,false):=kR
theorem VJ:tf prog 285 1=some (1,1,false):=kR
theorem Y9:ts prog 286=some 2:=kR
theorem Ve:ta prog 286=some true:=kR
theorem Xy:Eb prog 286=some (.agg #[Value.nilIface,Value.nilIface]):=kR
theorem aax:tz prog 286=some [Value.nilIface,Value.nilIface]:=kR
theorem WI:rL prog 286=some [(0,1),(1,1)]:=kR
theorem WA:isIface prog 286=some false:=kR
theorem Wa:Program.concrete prog 286=true:=kR
theorem Vx:tf prog 286 0=some (0,1,false):=kR
theorem UZ:tf prog 286 1=some (1,1,false):=kR
theorem akV:ts prog 298=some 2:=kR
theorem al2:ta prog 298=some true:=kR
theorem alO:tz prog 298=some [Value.int IntKind.i64 0,Value.int IntKind.i64 0]:=kR
theorem ak1:Program.underlying prog 298=some (.array 2 3):=kR
theorem akT:ts prog 301=some 1:=kR
theorem alo:ta prog 301=some false:=kR
theorem Ct:ts prog 307=some 1:=kR
theorem C4:ta prog 307=some false:=kR
theorem C7:tz prog 307=some [Value.nilFunc]:=kR
theorem vS:ts prog 309=some 4:=kR
theorem vX:ta prog 309=some true:=kR
theorem xv:tz prog 309=some [Value.int IntKind.u64 0,Value.int IntKind.u64 0,Value.int IntKind.u64 0,Value.int IntKind.u64 0]:=kR
theorem vM:Program.underlying prog 309=some (.array 4 203):=kR
theorem ahH:ts prog 311=some 4:=kR
theorem ahl:ta prog 311=some true:=kR
theorem aht:Eb prog 311=some (.agg #[Value.int IntKind.u64 0,Value.int IntKind.u64 0,Value.int IntKind.u64 0,Value.int IntKind.u64 0]):=kR
theorem ahY:tz prog 311=some [Value.int IntKind.u64 0,Value.int IntKind.u64 0,Value.int IntKind.u64 0,Value.int IntKind.u64 0]:=kR
theorem ahQ:rL prog 311=some [(0,4)]:=kR
theorem ahx:isIface prog 311=some false:=kR
theorem ahV:Program.concrete prog 311=true:=kR
theorem ahI:tf prog 311 0=some (0,4,true):=kR
theorem PY:ts prog 326=some 1:=kR
theorem OM:ta prog 326=some false:=kR
theorem ahn:ts prog 355=some 2:=kR
theorem ahS:ta prog 355=some true:=kR
theorem ahM:tz prog 355=some [Value.int IntKind.u8 0,Value.int IntKind.u8 0]:=kR
theorem ahT:rL prog 355=some [(0,1),(1,1)]:=kR
theorem ahK:tf prog 355 0=some (0,1,false):=kR
theorem ahR:tf prog 355 1=some (1,1,false):=kR
theorem ahm:ts prog 356=some 6:=kR
theorem ahP:ta prog 356=some true:=kR
theorem ahF:tz prog 356=some [Value.int IntKind.u8 0,Value.int IntKind.u8 0,Value.int IntKind.u8 0,Value.int IntKind.u8 0,Value.int IntKind.u8 0,Value.int IntKind.u8 0]:=kR
theorem ahy:Program.underlying prog 356=some (.array 3 355):=kR
theorem alc:ts prog 361=some 1:=kR
theorem ale:ta prog 361=some false:=kR
theorem Qm:ts prog 373=some 1:=kR
theorem OK:ta prog 373=some false:=kR
theorem QE:tz prog 373=some [Value.pointer none]:=kR
theorem PS:jq prog 373=some true:=kR
theorem PF:Program.underlying prog 373=some (.pointer 375):=kR
theorem Qh:ts prog 375=some 2:=kR
theorem Pt:ta prog 375=some true:=kR
theorem Qb:tz prog 375=some [Value.string { data:=#[] },Value.int IntKind.i64 0]:=kR
theorem Ow:rL prog 375=some [(0,1),(1,1)]:=kR
theorem Oe:tf prog 375 0=some (0,1,false):=kR
theorem OP:tf prog 375 1=some (1,1,false):=kR
end
end Go.Proofs.YtnemkecffmdlnaaGreatDoor
namespace Go.LE
section
open Go.RowKit
def kJ(w:World)(ao:Option Addr)(vs:List Value):Prop:=
 vs=[]\/∃ b o,ao=some ⟨b,o,none⟩/\∀ j (h:j<vs.length),w.cell? ⟨b,o+j,none⟩=some vs[j]
def aln(W:World)(bs:List Nat)(sz n:Nat)(vs:List Value):AV->Prop
 |.row _ s m us=>s=sz/\m=n/\us=vs
 |.val (.slice ao m _)=>m=n/\vs.length=n*sz/\(vs=[]\/∃ b o,ao=some ⟨b,o,none⟩/\b∉bs/\∀ j (h:j<vs.length),W.cell? ⟨b,o+j,none⟩=some vs[j])
 |_=>False
theorem aef{W w:World}{bs:List Nat}{sz n:Nat}{vs:List Value}{a:AV}{u:Value}(hk:ah W bs w)(hu:Ai w u a)(h:aln W bs sz n vs a):∃ ao c,u=.slice ao n c/\kJ w ao vs:=by
 cases a with
 | row T s m us=>
  obtain⟨rfl,rfl,rfl⟩:=h;obtain⟨hl,h⟩:=hu;rcases h with ⟨rfl,rfl⟩|⟨g,cap,cur,rfl,_,hh,_,_,hsz,htk⟩
  ·exact⟨none,0,rfl,.inl (by simpa using hl)⟩
  ·refine⟨some ⟨g,0,none⟩,cap,rfl,.inr ⟨g,0,rfl,λj hj=>?_⟩⟩;rw[Nat.zero_add];have hj' : j<m*s:=oM;have:us[j]?=cur[j]?:=by rw[<- htk,List.getElem?_take,if_pos hj'];simp
   simp only[World.cell?,hh];rw[<- this,List.getElem?_eq_getElem hj];rfl
 | val v=>
  cases v with
  | slice ao m c=>
   obtain⟨rfl,hl,h⟩:=h;cases hu;refine⟨ao,c,rfl,?_⟩;rcases h with h|⟨b,o,rfl,hb,hc⟩
   ·exact .inl h
   ·refine .inr ⟨b,o,rfl,λj hj=>?_⟩;have:=hc j hj;rw[hk.cell hb (by rw[this];rfl),this];rfl
  |_=>exact h.elim
theorem ai.amP{W:World}{bs:List Nat}{E:Nat->Value}{F:Nat->List Nat}{h:Nat->Option aS}{w w' : World}{k:Nat}{e:aS}(hs:ai W bs E F h w)(hk:h k=some e)(hkeep:ah w (F k) w') :
  ai W bs E F (bu h k none) w' := by
 have old:∀ j x,bu h k none j=some x->h j=some x/\j≠k:=λj x hj=>by
  by_cases hjk:j=k
  ·subst hjk;rw[ak]at hj;cases hj
  ·rw[aq _ _ hjk]at hj;exact⟨hj,hjk⟩
 refine⟨λj x hj=>?_,λj x hj b hb=>Nat.lt_of_lt_of_le (hs.lt j x (old j x hj).1 b hb) hkeep.size,λj x hj=>hs.mine j x (old j x hj).1,λi j x y hij hi hj=>hs.apart i j x y hij (old i x hi).1 (old j y hj).1,?_⟩
 ·obtain⟨hj,hne⟩:=old j x hj;exact iU (hs.ent j x hj) λb hb=>hkeep.block b (hs.lt j x hj b hb) λhb' => hs.apart j k x e hne hj hk b hb hb'
 ·exact hs.keeps.trans hkeep λb hb hlt=>(hs.mine k e hk b hb).resolve_left oM
theorem Le.conv{W:World}{bs:List Nat}{nt:Nat}{ds:Aux}{σ:St}{k:Nat}{e e' : aS}(hk:σ.h k=some e)(he:∀ E u fp w,a6 E u fp w e->a6 E u fp w e')(hkeys:∀ j∈e'.keys,j∈e.keys) :
  Le W bs nt ds σ ⟨σ.n,σ.φ,bu σ.h k (some e')⟩:=by
 rintro a w ⟨⟨E,F,hφ,hs,hp⟩,h1,h2,h3,h4,h5⟩;have old:∀ j x,bu σ.h k (some e') j=some x->∃ y,σ.h j=some y/\((j=k/\x=e')\/x=y):=λj x hj=>by
  by_cases hjk:j=k
  ·subst hjk;rw[ak]at hj;cases hj;exact⟨e,hk,.inl ⟨rfl,rfl⟩⟩
  ·rw[aq _ _ hjk]at hj;exact⟨x,hj,.inr rfl⟩
 refine⟨⟨E,F,hφ,⟨λj x hj=>?_,λj x hj=>?_,λj x hj=>?_,λi j x y hij hi hj=>?_,hs.keeps⟩,hp⟩,h1,h2,h3,h4,λj x hj=>?_⟩
 ·obtain⟨y,hy,h⟩:=old j x hj;rcases h with ⟨rfl,rfl⟩|rfl
  ·rw[hk]at hy;cases hy;exact he _ _ _ _ (hs.ent j e hk)
  ·exact hs.ent j x hy
 ·obtain⟨y,hy,_⟩:=old j x hj;exact hs.lt j y hy
 ·obtain⟨y,hy,_⟩:=old j x hj;exact hs.mine j y hy
 ·obtain⟨x',hx',_⟩:=old i x hi;obtain⟨y',hy',_⟩:=old j y hj;exact hs.apart i j x' y' hij hx' hy'
 ·obtain⟨y,hy,h⟩:=old j x hj;rcases h with ⟨rfl,rfl⟩|rfl
  ·rw[hk]at hy;cases hy;exact⟨(h5 j e hk).1,λi hi=>(h5 j e hk).2 i (hkeys i hi)⟩
  ·exact h5 j x hy
def cT(W:World)(S:Nat->Prop)(W' : World)(S' : Nat->Prop):Prop:=∀ b,b<W.heap.size->S b->W'.heap[b]?=W.heap[b]?/\S' b
theorem cT.refl(W:World)(S:Nat->Prop):cT W S W S:=λ_ _ h=>⟨rfl,h⟩
theorem cT.trans{W W' W'' : World}{S S' S'' : Nat->Prop}(h:cT W S W' S')(h' : cT W' S' W'' S'')(hsz:W.heap.size<=W'.heap.size):cT W S W'' S'' := λb hb hs=>by
 obtain⟨h1,h2⟩:=h b hb hs;obtain⟨h3,h4⟩:=h' b oM h2;exact⟨h3.trans h1,h4⟩
def Out(bs:List Nat):Nat->Prop:=λb=>b∉bs
theorem Ext.lZ{W W' : World}{bs bs' : List Nat}(h:Ext W bs W' bs'):cT W (Out bs) W' (Out bs'):=λb hb hs=>
 ⟨h.keeps.block b hb hs,λhb' => (h.sub b hb').elim (λh1=>by omega) hs⟩
theorem ah.lZ{W w:World}{bs:List Nat}(h:ah W bs w):cT W (Out bs) w (Out bs):=λb hb hs=>⟨h.block b hb hs,hs⟩
def XC(W:World)(S:Nat->Prop)(b o:Nat)(v:Value):Prop:=S b/\W.cell? ⟨b,o,none⟩=some v
theorem XC.mono{W W' : World}{S S' : Nat->Prop}{b o:Nat}{v:Value}(h:XC W S b o v)(hs:cT W S W' S'):XC W' S' b o v:=by
 have hlt:=World.block_lt_of_cell? W _ h.2;obtain⟨h1,h2⟩:=hs b hlt h.1;exact⟨h2,by rw[<- h.2];exact World.cell?_of_block h1⟩
def gO(W:World)(S:Nat->Prop)(ao:Option Addr)(vs:List Value):Prop:=vs=[]\/∃ b o,ao=some ⟨b,o,none⟩/\∀ j (h:j<vs.length),XC W S b (o+j) vs[j]
theorem gO.mono{W W' : World}{S S' : Nat->Prop}{ao:Option Addr}{vs:List Value}(h:gO W S ao vs)(hs:cT W S W' S'):gO W' S' ao vs:=by
 rcases h with h|⟨b,o,h1,h2⟩
 ·exact .inl h
 ·exact .inr ⟨b,o,h1,λj hj=>(h2 j hj).mono hs⟩
theorem gO.is{W:World}{S:Nat->Prop}{ao:Option Addr}{vs:List Value}(h:gO W S ao vs):kJ W ao vs:=by
 rcases h with h|⟨b,o,h1,h2⟩
 ·exact .inl h
 ·exact .inr ⟨b,o,h1,λj hj=>(h2 j hj).2⟩
theorem gO.oJ{W:World}{ao:Option Addr}{vs:List Value}(h:kJ W ao vs):gO W (λ_=>True) ao vs:=by
 rcases h with h|⟨b,o,h1,h2⟩
 ·exact .inl h
 ·exact .inr ⟨b,o,h1,λj hj=>⟨trivial,h2 j hj⟩⟩
theorem gO.out{W:World}{ao:Option Addr}{vs:List Value}{S S' : Nat->Prop}(h:gO W S ao vs)(hs:∀ b,S b->S' b):gO W S' ao vs:=h.mono λb _ hb=>⟨rfl,hs b hb⟩
theorem gO.take{W:World}{S:Nat->Prop}{ao:Option Addr}{vs ws:List Value}(h:gO W S ao (vs++ws)):gO W S ao vs:=by
 rcases h with h|⟨b,o,h1,h2⟩
 ·exact .inl (by simp at h;exact h.1)
 ·refine .inr ⟨b,o,h1,λj hj=>?_⟩;have:=h2 j (by simp;omega)
  rwa [List.getElem_append_left hj]at this
def ads(E:Nat->Value):FV->FV->Prop
 |.is x,.is y=>den E x=den E y
 |.cnd b x,.cnd c y=>b=c/\(b=true->den E x=den E y)
 |.cnd b x,.is y=>b=true/\den E x=den E y
 |_,.any=>True
 |_,_=>False
def aj7(E:Nat->Value)(φ:Fr):List (Nat×FV)->Prop
 |[]=>True
 |(t,x)::r=>ads E (φ t) x/\aj7 E φ r
theorem Sk{E:Nat->Value}{x y:FV}{u:Value}(h:ads E x y)(hf:fits E x u):fits E y u:=by
 cases x<;>cases y<;>simp only[ads]at h<;>first|exact h.elim|trivial|skip
 ·simp only[fits]at hf ⊢;rw[hf,h]
 ·obtain⟨rfl,h⟩:=h;simp only[fits,cond_true]at hf ⊢;rw[hf,h]
 ·rename_i b x c y;obtain⟨rfl,h⟩:=h;cases b with
  |false=>exact hf
  |true=>simp only[fits,cond_true]at hf ⊢;rw[hf,h rfl]
theorem IT{E:Nat->Value}{φ:Fr}:∀ {L:List (Nat×FV)},aj7 E φ L->∀ p∈L,ads E (φ p.1) p.2
 |_::_,h,p,hp=>by
  rcases List.mem_cons.1 hp with rfl|hp
  ·exact h.1
  ·exact IT h.2 p hp
def PD(E:Nat->Value):Option aS->aS->Prop
 |some (.cells T vs),.cells T' vs' => T=T' /\ au E vs=au E vs'
 |some (.row T s n vs),.row T' s' n' vs' => T=T' /\ s=s' /\ n=n' /\ au E vs=au E vs'
 |some (.obj d R),.obj d' R' => d=d' /\ R=R'
 |_,_=>False
def ajp(E:Nat->Value)(h:Hp):List (Nat×aS)->Prop
 |[]=>True
 |(k,e)::r=>PD E (h k) e/\ajp E h r
theorem y7{E:Nat->Value}{h:Hp}:∀ {H:List (Nat×aS)},ajp E h H->∀ p∈H,PD E (h p.1) p.2
 |_::_,h,p,hp=>by
  rcases List.mem_cons.1 hp with rfl|hp
  ·exact h.1
  ·exact y7 h.2 p hp
theorem CR{E:Nat->Value}{u:Value}{fp:List Nat}{w:World}{h:Hp}{k:Nat}{e:aS}(he:PD E (h k) e):∃ e0,h k=some e0/\(a6 E u fp w e0->a6 E u fp w e):=by
 cases hk:h k with
 |none=>rw[hk]at he;cases e<;>exact he.elim
 |some e0=>
  rw[hk]at he;refine⟨e0,rfl,λhs=>?_⟩;cases e0<;>cases e<;>simp only[PD]at he<;>first|exact he.elim|skip
  ·obtain⟨rfl,h2⟩:=he;simp only[a6,<- h2];exact hs
  ·obtain⟨rfl,rfl,rfl,h2⟩:=he;simp only[a6,<- h2];exact hs
  ·obtain⟨rfl,rfl⟩:=he;exact hs
theorem Wp.freeze{P:Program}{W:World}{bs:List Nat}{nt:Nat}{ds:Aux}{c:Code}{Q:me}{σ:St}(n' : Nat)(ks:List Nat)(L:(Nat->Value)->List (Nat×FV))(H:(Nat->Value)->List (Nat×aS))
  (hks:∀ E,(H E).map (·.1)=ks) (hkb:∀ E,pU n' (L E) (H E)) (hf:∀ E,aj7 E σ.φ (L E)) (hh:∀ E,ajp E σ.h (H E)) (hpn:∀ p∈ds.pins,p.1 / 8<n')
  (h:∀ W' bs' E F,Ext W bs W' bs' -> ai W bs E F σ.h W' -> (∀ k∈ks,∀ b∈F k,b∈bs')->(∀ k e,σ.h k=some e->k∉ks->∀ b∈F k,b∉bs')->Wp P W' bs' nt ds c Q ⟨n',bm (L E),aY (H E)⟩):Wp P W bs nt ds c Q σ:=by
 rintro a w ⟨⟨E,F,hφ,hs,hp⟩,hsz,hdf,_,_,_⟩;have own:∀ k∈ks,∃ e,σ.h k=some e:=λk hk=>by
  rw[<- hks E]at hk;obtain⟨p,hp,rfl⟩:=List.mem_map.1 hk;obtain⟨e0,h1,_⟩:=CR (u:=undef) (fp:=[]) (w:=w) (y7 (hh E) p hp);exact⟨e0,h1⟩
 have hx:Ext W bs w (ks.flatMap F):=⟨hs.keeps,λb hb=>by
  obtain⟨k,hk,hbk⟩:=List.mem_flatMap.1 hb
  obtain⟨e,he⟩:=own k hk
  exact hs.mine k e he b hbk⟩
 refine wp_mono (h w (ks.flatMap F) E F hx hs (λk hk b hb=>List.mem_flatMap.2 ⟨k,hk,hb⟩) (λk e hke hk b hb hb' => ?_) a w ?_) λe' a' w' hh' => qO hx hh'
 ·obtain⟨j,hj,hbj⟩:=List.mem_flatMap.1 hb';obtain⟨e2,he2⟩:=own j hj;exact hs.apart k j e e2 (λhkj=>hk (hkj ▸ hj)) hke he2 b hb hbj
 ·have at' : ∀ k e,aY (H E) k=some e->k∈ks/\∃ e0,σ.h k=some e0/\a6 E (E k) (F k) w e:=λk e he=>by
   have hm:=cB he;obtain⟨e0,h1,h2⟩:=CR (u:=E k) (fp:=F k) (w:=w) (y7 (hh E) _ hm);exact⟨by rw[<- hks E];exact List.mem_map.2 ⟨_,hm,rfl⟩,e0,h1,h2 (hs.ent k e0 h1)⟩
  refine⟨⟨E,F,λt=>?_,⟨λk e he=>(at' k e he).2.choose_spec.2,λk e he b hb=>?_,λk e he b hb=>.inr (List.mem_flatMap.2 ⟨k,(at' k e he).1,hb⟩),λk k' e e' hne he he' b hb=>?_,ah.refl w _⟩,hp⟩,hsz,hdf,hpn,λt k hk' => ?_,λk e he=>?_⟩
  ·rcases jL (L:=L E) t with h|⟨p,hp,rfl,h⟩
   ·simp only[h];trivial
   ·simp only[h];exact Sk (IT (hf E) p hp) (hφ p.1)
  ·obtain⟨_,e0,h1,_⟩:=at' k e he;exact hs.lt k e0 h1 b hb
  ·obtain⟨_,e0,h1,_⟩:=at' k e he;obtain⟨_,e1,h2,_⟩:=at' k' e' he';exact hs.apart k k' e0 e1 hne h1 h2 b hb
  ·rcases jL (L:=L E) t with h|⟨p,hp,_,h⟩
   ·simp only[h]at hk';cases hk'
   ·simp only[h]at hk';exact (hkb E).1 p hp k hk'
  ·exact (hkb E).2 _ (cB he)
theorem aV{P:Program}{W:World}{bs:List Nat}{nt:Nat}{ds:Aux}{Q:me}{σ:St}{x y:Code}(σ' : St)(h1:Wp P W bs nt ds x (Th (λW' bs' σ1=>Le W' bs' nt ds σ1 σ') Q) σ)(h2:Wp P W bs nt ds y Q σ') :
  Wp P W bs nt ds (.seq x y) Q σ:=λa w hs=>
 wp_seq (wp_mono (h1 a w hs) λe a' w' ⟨W',bs',σ1,he,hq,hs'⟩=>by
  cases e with
  |normal=>exact h2 a' w' (Sat.back he (hq a' w' hs'))
  |_=>exact⟨W',bs',σ1,he,hq,hs'⟩)
def New(W:World)(bs bs' : List Nat):Nat->Prop:=λb=>b∉bs' /\ (W.heap.size<=b\/b∈bs)
theorem New.out{W:World}{bs bs' : List Nat}{b:Nat}(h:New W bs bs' b):Out bs' b:=h.1
theorem Qo{W W' : World}{bs bs' : List Nat}{E:Nat->Value}{F:Nat->List Nat}{h:Hp}{k:Nat}{T:TypeId}{s n:Nat}{vs:List SV}(hs:ai W bs E F h W')(hk:h k=some (.row T s n vs))(hb:∀ b∈F k,b∉bs') :
  ∃ ao c,E k=.slice ao n c/\gO W' (New W bs bs') ao (au E vs)/\n<=c:=by
 obtain⟨⟨hl,h⟩,hF⟩:=hs.ent k _ hk;rcases h with ⟨h1,rfl⟩|⟨g,cap,cur,h1,_,hh,hnc,_,hsz,htk⟩
 ·exact⟨none,0,h1,.inl (by simpa using hl),Nat.le_refl _⟩
 ·have hg:g∈F k:=by rw[hF,h1];simp[Value.ownBlock]
  refine⟨some ⟨g,0,none⟩,cap,h1,.inr ⟨g,0,rfl,λj hj=>⟨⟨hb g hg,hs.mine k _ hk g hg⟩,?_⟩⟩,hnc⟩;rw[Nat.zero_add];have hj' : j<n*s:=oM;have:(au E vs)[j]?=cur[j]?:=by rw[<- htk,List.getElem?_take,if_pos hj'];simp
  simp only[World.cell?,hh];rw[<- this,List.getElem?_eq_getElem hj];rfl
theorem gO.grow{W W' : World}{bs' : List Nat}{ao:Option Addr}{vs:List Value}{S:Nat->Prop}(h:gO W' (New W [] bs') ao vs):gO W' (λb=>(b<W.heap.size->S b)/\b∉bs') ao vs:=
 h.out λb hb=>⟨λhlt=>absurd (hb.2.resolve_right sI) (Nat.not_le.2 hlt),hb.1⟩
def eu(cs:List Value):Value:=.iface 0 (.agg cs.toArray)
theorem FJ(cs:List Value)(i:Nat):H5 (eu cs) i=cs.getD i .nilIface:=by simp[H5,eu,Array.getD_eq_getD_getElem?,List.getD_eq_getElem?_getD]
def Grow(w:World)(S:Nat->Prop):Nat->Prop:=λb=>b<w.heap.size->S b
def O0(W:World)(bs:List Nat)(Φ:List Value->World->(Nat->Prop)->Prop):List Value->Value->List Nat->World->Prop:=λ_ u fp w=>
 ∃ cs,u=eu cs/\∀ W₂ S₂,(∀ b,b<W.heap.size->b∉bs->W₂.heap[b]?=W.heap[b]?/\S₂ b)->(∀ b∈fp,W₂.heap[b]?=w.heap[b]?/\S₂ b)->Φ cs W₂ S₂
structure X4 (P:Program)(f:FuncId) where
 pre:List AV->World->(Nat->Prop)->Prop
 tm:Nat->SV
 Φ:List AV->List Value->World->(Nat->Prop)->Prop
 premono:∀ as_ W S W' S',cT W S W' S' -> pre as_ W S->pre as_ W' S'
 mono:∀ as_ cs W S W' S',cT W S W' S' -> Φ as_ cs W S->Φ as_ cs W' S'
 tmg:∀ E k,den E (tm k)=den (λ_=>E k) (tm 0)
 tmk:∀ k,∀ j∈(tm k).keys,j=k
 enters:∀ args w,(callFunc f args).run P w=.ok (.enter f args) w
 ok:∀ (w:World) (S:Nat->Prop) (us:List Value) (as_:List AV),gj w us as_->pre as_ w S->Calls P f us.toArray w λe w' => ∃ cs,e=.returned (den (λ_=>eu cs) (tm 0))/\Φ as_ cs w' (Grow w S)/\ah w [] w'
def Old(W:World)(bs:List Nat):Nat->Prop:=λb=>b<W.heap.size/\b∉bs
def Ja(κ:Nat)(pre:List AV->World->(Nat->Prop)->Prop)(tm:Nat->SV)(Φ:List AV->List Value->World->(Nat->Prop)->Prop)(W:World)(bs:List Nat):Option (List AV×List Nat)->R
 |some (as_,rs)=>⟨pre as_ W (Out bs),tm (8*κ),[(8*κ,some (.obj [] (O0 W bs (Φ as_))))],none,[],rs⟩
 |none=>.bad
def X4.spec{P:Program}{f:FuncId}(p:X4 P f):Spec P f where
 ev:=λW bs κ h args=>Ja κ p.pre p.tm p.Φ W bs (aC h args)
 good:=λW bs κ E F h w K args hs hK hk hx hside=>by
  rw[p.enters];cases hv:aC h args with
  |none=>rw[hv]at hside;exact hside.elim
  | some q=>
   obtain⟨as_,rs⟩:=q;rw[hv]at hside;have h0:cT W (Out bs) w (Old W bs):=λb hb hs' => ⟨hs.keeps.block b hb hs',hb,hs'⟩
   refine zw hs hK hk (e:=.obj [] (O0 W bs (p.Φ as_))) ((p.ok w (Old W bs) _ as_ (eR hs hv) (p.premono as_ _ _ _ _ h0 hside)).mono λe w' he=>?_) rfl rfl;obtain⟨cs,rfl,hΦ,hkeep⟩:=he;have hmem:∀ b,b∈List.range' w.heap.size (w'.heap.size-w.heap.size) ↔ w.heap.size<=b/\b<w'.heap.size:=λb=>by
    rw[List.mem_range'_1];have:=hkeep.size;omega
   have hR:∀ w3:World,(∀ b∈List.range' w.heap.size (w'.heap.size-w.heap.size),w3.heap[b]?=w'.heap[b]?)->O0 W bs (p.Φ as_) [] (eu cs) (List.range' w.heap.size (w'.heap.size-w.heap.size)) w3:=by
    intro w3 h3;refine⟨cs,rfl,λW₂ S₂ hold hnew=>p.mono as_ cs w' (Grow w (Old W bs)) W₂ S₂ (λb hb hg=>?_) hΦ⟩;by_cases hbw:b<w.heap.size
    ·obtain⟨g1,g2⟩:=hg hbw;obtain⟨g3,g4⟩:=hold b g1 g2;exact⟨by rw[g3,hkeep.block b hbw sI,hs.keeps.block b g1 g2],g4⟩
    ·have hb' := (hmem b).2 ⟨oM,hb⟩;obtain⟨g3,g4⟩:=hnew b hb';exact⟨by rw[g3,h3 b hb'],g4⟩
   refine⟨_,eu cs,List.range' w.heap.size (w'.heap.size-w.heap.size),rfl,λE' => ⟨⟨hR w' λ_ _=>rfl,rfl⟩,hR⟩,λb hb=>(hmem b).1 hb,hkeep,?_⟩;simp only[Ja];rw[p.tmg (bu E (nk κ) (eu cs)),nk,ak]
 keys:=λW bs κ h K args hK hx hside=>by
  cases hv:aC h args with
  |none=>rw[hv]at hside;exact hside.elim
  | some q=>
   obtain⟨as_,rs⟩:=q;refine⟨λk hk=>.inr ?_,λq hq=>?_⟩
   ·rw[p.tmk _ k hk];exact bc κ
   ·simp only[Ja,List.mem_singleton]at hq;subst hq;refine⟨.inr (bc κ),λe he k hk=>?_⟩;simp only[Option.some.injEq]at he;subst he;cases hk
 loc:=λW bs κ h h' args hside hr=>by
  cases hv:aC h args with
  |none=>rw[hv]at hside;exact hside.elim
  |some q=>
   obtain⟨as_,rs⟩:=q;rw[hv]at hr;rw[dw hv hr]
theorem Y7{P:Program}{f:FuncId}(p:X4 P f)(W:World)(bs:List Nat)(κ:Nat)(h:Hp)(l:List SV):p.spec.ev W bs κ h l=Ja κ p.pre p.tm p.Φ W bs (aC h l):=rfl
theorem MY(κ:Nat)(pre:List AV->World->(Nat->Prop)->Prop)(tm:Nat->SV)(Φ:List AV->List Value->World->(Nat->Prop)->Prop)(W:World)(bs:List Nat)(as_:List AV)(rs:List Nat) :
  Ja κ pre tm Φ W bs (some (as_,rs))=⟨pre as_ W (Out bs),tm (8*κ),[(8*κ,some (.obj [] (O0 W bs (Φ as_))))],none,[],rs⟩:=rfl
theorem fV(m:Nat->Src)(l:List Value):gz m (l.map .v)=l.map .v:=by
 induction l with
 |nil=>rfl
 |cons x r ih=>simp[gz,fL,ih]
theorem cm(m:Nat->Src)(a b:List SV):gz m (a++b)=gz m a++gz m b:=by
 induction a with
 |nil=>rfl
 |cons x r ih=>simp[gz,ih]
section
variable {P:Program}{κ:Nat}{h:Hp}
def mkV(κ:Nat)(e:TypeId)(l c:Int):Option Nat->Option (List Value)->Option Nat->R
 |some sz,some zs,some by_=>⟨0<=l/\l<=c/\(by_:Int)*c<=281474976710656/\c<=9223372036854775807/\zs.length=sz/\0<sz,.hd (8*κ),[(8*κ,some (.row e sz l.toNat ((List.replicate l.toNat zs).flatten.map .v)))],none,[],[]⟩
 |_,_,_=>.bad
def mkU(P:Program)(κ:Nat)(l c:Int):Option TypeDesc->R
 |some (.slice e)=>mkV κ e l c (ts P e) (tz P e) (sn P e)
 |_=>.bad
theorem Iw(T:TypeId)(k k' : IntKind)(l c:Int):mi P κ T [.v (.int k l),.v (.int k' c)]=mkU P κ l c (P.underlying T):=by
 simp only[mi];unfold mkU;rcases P.underlying T with _|d
 ·rfl
 ·cases d<;>first|rfl|(rename_i e;simp only[mkV,nk];rcases ts P e with _|a<;>rcases tz P e with _|b<;>rcases sn P e with _|c<;>rfl)
theorem TV(l c:Int)(e:TypeId):mkU P κ l c (some (.slice e))=mkV κ e l c (ts P e) (tz P e) (sn P e):=rfl
theorem Wg(e:TypeId)(l c:Int)(sz:Nat)(zs:List Value)(by_:Nat):mkV κ e l c (some sz) (some zs) (some by_)=⟨0<=l/\l<=c/\(by_:Int)*c<=281474976710656/\c<=9223372036854775807/\zs.length=sz/\0<sz,.hd (8*κ),[(8*κ,some (.row e sz l.toNat ((List.replicate l.toNat zs).flatten.map .v)))],none,[],[]⟩:=rfl
def p7(ao:Option Addr)(a sz c:Nat):Option Addr:=if c=a then ao else ao.map (·.add (a*sz))
theorem CF(ao:Option Addr)(sz c:Nat):p7 ao 0 sz c=ao:=by
 unfold p7;split
 ·rfl
 ·cases ao<;>simp[Addr.add]
theorem gO.at{W:World}{S:Nat->Prop}{ao:Option Addr}{vs:List Value}{a sz c n:Nat}(h:gO W S ao vs)(hl:vs.length=n*sz)(hn:n<=c)(ha:a<=n):gO W S (p7 ao a sz c) (vs.drop (a*sz)):=by
 unfold p7;split
 ·left;have:vs.length<=a*sz:=by rw[hl];exact Nat.mul_le_mul_right _ oM
  simp[this]
 ·rcases h with h|⟨b,o,rfl,h2⟩
  ·exact .inl (by simp[h])
  ·refine .inr ⟨b,o+a*sz,?_,λj hj=>?_⟩
   ·simp only[Option.map_some,Addr.add,Option.some.injEq];split
    ·rename_i h0;simp[h0]
    ·rfl
   ·simp only[List.length_drop]at hj;have:=h2 (a*sz+j) oM;rw[List.getElem_drop]
    rwa [Nat.add_assoc]
def slV(ao:Option Addr)(c:Nat)(a b:Int):Option Nat->R
 |some sz=>⟨0<=a/\a<=b/\b<=c,.v (.slice (p7 ao a.toNat sz c) (b.toNat-a.toNat) (c-a.toNat)),[],none,[],[]⟩
 |none=>.bad
def slU(P:Program)(ao:Option Addr)(c:Nat)(a b:Int):Option TypeDesc->R
 |some (.slice e)=>slV ao c a b (ts P e)
 |_=>.bad
theorem nV(T:TypeId)(ao:Option Addr)(n c:Nat)(a b:Int):mX P T ao n c a b=slU P ao c a b (P.underlying T):=by
 simp only[mX];unfold slU;rcases P.underlying T with _|d
 ·rfl
 ·cases d<;>first|rfl|(rename_i e;simp only[slV,R.iw,p7];rcases ts P e with _|a<;>rfl)
theorem Uc(ao:Option Addr)(c:Nat)(a b:Int)(e:TypeId):slU P ao c a b (some (.slice e))=slV ao c a b (ts P e):=rfl
theorem aag(ao:Option Addr)(c:Nat)(a b:Int)(sz:Nat):slV ao c a b (some sz)=⟨0<=a/\a<=b/\b<=c,.v (.slice (p7 ao a.toNat sz c) (b.toNat-a.toNat) (c-a.toNat)),[],none,[],[]⟩:=rfl
theorem D9(T:TypeId)(ao:Option Addr)(n c:Nat)(k k' : IntKind)(a b:Int):dC P T true true false [.v (.slice ao n c),.v (.int k a),.v (.int k' b)]=slU P ao c a b (P.underlying T):=by
 rw[<- nV T ao n];rfl
theorem Ex(T:TypeId)(ao:Option Addr)(n c:Nat)(k:IntKind)(a:Int):dC P T true false false [.v (.slice ao n c),.v (.int k a)]=slU P ao c a n (P.underlying T):=by
 rw[<- nV T ao n];rfl
theorem EM(T:TypeId)(ao:Option Addr)(n c:Nat)(k:IntKind)(b:Int):dC P T false true false [.v (.slice ao n c),.v (.int k b)]=slU P ao c 0 b (P.underlying T):=by
 rw[<- nV T ao n];rfl
end
end
section
def ev6:=(aa @Iw (aa @TV (aa @Wg (aa @CF (aa @Uc (aa @aag (aa @D9 (aa @Ex (aa @EM (aa @Y7 @MY))))))))))
end
section
open Go.ChangeShapes Go.WideShapes Go.ChangeAt Go.RowKit
section
variable {H:Type}{enc:TypeId×Value->H}{P:Program}
theorem VA{f:Func}{s:ChangeSpec}{apart fresh handsOn again:Bool}{W W' : World}{args:Array Value}{v:Value}{ds gs:List (DataW H)}{before pa pv:List MemPlace}
  (hW:DataW.Whole enc P f.params.toList s.vars apart W args.toList ds gs before)
  (hres:∀ (b:Nat) (sp:Nat->Bool) (hd:Bool),DataW.TrodAll enc P W' b sp hd f.resultTypes.toList (v.resultList f.resultTypes.size) (s.fn H (ds++gs)).results [])
  (hargs:∀ sp:Nat->Bool,(∀ p∈before,sp p.block=true)->DataW.TrodAll enc P W' 0 sp true f.params.toList args.toList (s.fn H (ds++gs)).args pa)
  (hvars:∀ sp:Nat->Bool,(∀ p∈before,sp p.block=true)->DataW.TrodVars enc P W' sp s.vars (s.fn H (ds++gs)).vars pv)
  (hps:before=pa++pv) (hk:W.keptBut W' (·∈before)) (hfz:∀ a,a.block<W.heap.size->W'.frozen? a=W.frozen? a)
  (hok:∀ (j:Nat) (t:TypeId) (r:Value),f.resultTypes[j]?=some t->(v.resultList f.resultTypes.size)[j]?=some r->Value.okWide P W' .any 0 t r) :
  s.post enc P f apart fresh handsOn again W args v W' := by
 have hlt:=hW.lt;have hold:∀ p∈before,(λb=>decide (b<W.heap.size)) p.block=true:=λp hp=>by simpa using hlt p hp
 refine⟨ds,gs,before,[],pa,pv,hW,hres _ _ _,hargs _ hold,hvars _ hold,World.keptBut_mono (λp hp=>⟨hp,?_⟩) hk,λ_=>?_⟩
 ·rw[hps,List.mem_append]at hp;exact Or.inr hp
 ·obtain⟨_,_,_,_,_,hz,hn⟩:=hW;refine⟨hok,_,_,([]++pa)++pv,⟨[]++pa,pv,trodAll_append (hargs _ (λ_ _=>rfl)) (hres _ _ _),hvars _ (λ_ _=>rfl),rfl,?_,?_⟩,?_⟩
  ·intro b off hp;have hp' : MemPlace.cell b off∈before:=by rw[hps];simpa using hp
   rw[hfz _ (hlt _ hp')];exact hz b off hp'
  ·intro ha;have:=hn ha;rw[hps]at this;simpa using this
  ·intro p hp _;rw[hps];simpa using hp
theorem rk{W W' : World}:∀ {ts:List TypeId} {vs:List Value} {ds:List (DataW H)} {ps:List MemPlace},DataW.TrodAll enc P W 0 (λ_=>true) true ts vs ds ps->(∀ p∈ps,W.sameAt W' p)->DataW.TrodAll enc P W' 0 (λ_=>true) true ts vs ds ps
 |[],[],[],_,h,_=>h
 |t::ts,v::vs,d::ds,ps,⟨p,q,h1,h2,e⟩,hs=>by
  subst e;obtain⟨n,hn⟩:=h1;exact⟨p,q,⟨n,DataW.trod_carry n _ _ _ hn (λx hx=>hs x (List.mem_append_left _ hx))⟩,rk h2 (λx hx=>hs x (List.mem_append_right _ hx)),rfl⟩
theorem YI{f:Func}{s:ChangeSpec}{tb:TypeId}(hl:laidOutB P=true)(hm:mapsRowed P=true)
  (hf:((List.range P.types.size).all λt=>match P.underlying t with|some (.slice e)=>decide (0<P.cellsOf e)|_=>true)=true)
  (hT:f.params.all (λt=>decide (t<P.types.size))=true) (hrt:f.resultTypes=#[tb]) (hb:P.underlying tb=some .bool) (hvs:s.vars=[]) {W W' : World} {args:Array Value} {ds gs:List (DataW H)} {before:List MemPlace}
  (hW:DataW.Whole enc P f.params.toList s.vars false W args.toList ds gs before) (hres:(s.fn H (ds++gs)).results=[.lit (.bool true)]) (hargs:(s.fn H (ds++gs)).args=ds) (hv:(s.fn H (ds++gs)).vars=[])
  (hk:ah W [] W'):s.post enc P f false true false false W args (.bool true) W' := by
 have hb' := hk.below;have hW' := hW;obtain⟨p,q,hA,hV,rfl,hfz,hnd⟩:=hW;have hlt:=hW'.lt;have hq:q=[]:=by rw[hvs]at hV;exact (trodVars_none hV).2
 subst hq;refine VA (pa:=p) (pv:=[]) hW' (λ_ _ _=>?_) (λsp hsp=>?_) (λsp hsp=>?_) rfl (hb'.frame _) (λad hlt=>hb'.frozen hlt) ?_
 ·rw[hrt,hres];exact trodAll_cons_mk (shut_bool hb _) trodAll_mk0
 ·rw[hargs];refine DataW.TrodAll.respare (kids_rows hl hm) (slices_full_of P hf) (λt ht=>?_) (rk hA λx hx=>hb'.same (hlt x (by simpa using hx))) (λx hx=>hsp x (by simpa using hx));rw[Array.all_eq_true]at hT;obtain⟨i,hi,he⟩:=Array.mem_iff_getElem.1 (Array.mem_toList_iff.1 ht);have:=hT i hi
  rw[he]at this;simpa using this
 ·rw[hvs,hv];rfl
 ·exact ok_one hrt rfl (okWide_bool_mk hb _)
end
end
section
open Go.RowKit
section
variable {P:Program}{W:World}{bs:List Nat}{κ:Nat}{E:Nat->Value}{F:Nat->List Nat}{h:Nat->Option aS}{w:World}{K:Nat->Prop}
def aaW(u:Value):AV->List Nat
 |.val _=>[]
 |.row _ _ _ _=>u.ownBlock.toList
def wy:List Value->List AV->List Nat
 |u::us,a::as_=>aaW u a++wy us as_
 |_,_=>[]
def bC(w:World)(u:Value)(fp:List Nat)(T:TypeId)(fs:List AV):Prop:=
 ∃ b us,u=.pointer (some ⟨b,0,none⟩)/\w.heap[b]?=some (.cells us.toArray T (0,0))/\gj w us fs/\fp=b::wy us fs/\fp.Nodup
theorem aaL(hs:ai W bs E F h w){x:SV}{a:AV}{r:List Nat}(hv:cL h x=some (a,r)):aaW (den E x) a=r.flatMap F/\∀ k∈r,(∃ e,h k=some e)/\∀ k' ∈ r,k' = k:=by
 cases x with
 |v x=>simp[cL]at hv;obtain⟨rfl,rfl⟩:=hv;exact⟨rfl,sI⟩
 |agg l=>
  simp only[cL,Option.map_eq_some_iff,Prod.mk.injEq]at hv;obtain⟨vs,h1,rfl,rfl⟩:=hv;exact⟨rfl,sI⟩
 | hd k=>
  simp only[cL]at hv;cases hk:h k with
  |none=>rw[hk]at hv;simp[kB]at hv
  | some e=>
   cases e with
   | row T s n us=>
    rw[hk]at hv;simp only[kB,Option.map_eq_some_iff,Prod.mk.injEq]at hv;obtain⟨vs,h1,rfl,rfl⟩:=hv;have:=hs.ent k _ hk;refine⟨?_,λk' hk' => ?_⟩
    ·simp only[aaW,den,kD (dM this)];simp[this.2]
    ·simp only[List.mem_singleton]at hk';subst hk';exact⟨⟨_,hk⟩,sI⟩
   |cells T vs=>rw[hk]at hv;simp[kB]at hv
   |obj d R=>rw[hk]at hv;simp[kB]at hv
 |own k o=>simp[cL]at hv
 |tup l=>simp[cL]at hv
 |ifc t x=>simp[cL]at hv
 |part k i=>simp[cL]at hv
 |fn f a c=>simp[cL]at hv
theorem b7(hs:ai W bs E F h w):∀ {l:List SV} {as_:List AV} {r:List Nat},aC h l=some (as_,r)->wy (au E l) as_=r.flatMap F/\∀ k∈r,∃ e,h k=some e
 |[],as_,r,hv=>by simp[aC]at hv;obtain⟨rfl,rfl⟩:=hv;exact⟨rfl,sI⟩
 | x::l,as_,r,hv=>by
  simp only[aC]at hv;cases h1:cL h x with
  |none=>rw[h1]at hv;simp[lK]at hv
  | some p=>
   cases h2:aC h l with
   |none=>rw[h1,h2]at hv;simp[lK]at hv
   |some q=>
    obtain⟨a,ra⟩:=p;obtain⟨as',rs⟩:=q;rw[h1,h2]at hv;simp only[lK,Option.some.injEq,Prod.mk.injEq]at hv;obtain⟨rfl,rfl⟩:=hv;obtain⟨g1,g2⟩:=aaL hs h1;obtain⟨g3,g4⟩:=b7 hs h2;refine⟨by simp only[au,wy,g1,g3,List.flatMap_append],λk hk=>?_⟩;rcases List.mem_append.1 hk with hk|hk
    ·exact (g2 k hk).1
    ·exact g4 k hk
theorem Bt(u:Value):u.ownBlock.toList.Nodup:=by cases u.ownBlock<;>simp
theorem Rc{u:Value}{fp:List Nat}{e:aS}(hE:∀ d R,e≠.obj d R)(h:a6 E u fp w e):fp.Nodup:=by
 cases e with
 |cells T vs=>obtain⟨b,_,h2,_⟩:=h;rw[h2];simp
 |row T s n vs=>rw[h.2];exact Bt u
 |obj d R=>exact absurd rfl (hE d R)
theorem lF{h:Hp}:∀ {l:List SV} {as_:List AV} {r:List Nat},aC h l=some (as_,r)->∀ k∈r,∃ T s n vs,h k=some (.row T s n vs)
 |[],as_,r,hv=>by simp[aC]at hv;obtain⟨rfl,rfl⟩:=hv;simp
 | x::l,as_,r,hv=>by
  simp only[aC]at hv;cases h1:cL h x with
  |none=>rw[h1]at hv;simp[lK]at hv
  | some p=>
   cases h2:aC h l with
   |none=>rw[h1,h2]at hv;simp[lK]at hv
   | some q=>
    obtain⟨a,ra⟩:=p;obtain⟨as',rs⟩:=q;rw[h1,h2]at hv;simp only[lK,Option.some.injEq,Prod.mk.injEq]at hv;obtain⟨rfl,rfl⟩:=hv;intro k hk;rcases List.mem_append.1 hk with hk|hk
    ·cases x with
     | hd j=>
      simp only[cL]at h1;cases hj:h j with
      |none=>rw[hj]at h1;simp[kB]at h1
      | some e=>
       cases e with
       |row T s n us=>
        rw[hj]at h1;simp only[kB,Option.map_eq_some_iff,Prod.mk.injEq]at h1;obtain⟨vs,_,_,rfl⟩:=h1;simp only[List.mem_singleton]at hk;subst hk;exact⟨_,_,_,_,hj⟩
       |_=>rw[hj]at h1;simp[kB]at h1
     |v x=>simp[cL]at h1;obtain⟨_,rfl⟩:=h1;cases hk
     |agg l=>
      simp only[cL,Option.map_eq_some_iff,Prod.mk.injEq]at h1;obtain⟨_,_,_,rfl⟩:=h1;cases hk
     |_=>simp[cL]at h1
    ·exact lF h2 k hk
theorem rU(hs:ai W bs E F h w):∀ {ks:List Nat},ks.Nodup->(∀ k∈ks,∃ e,h k=some e/\∀ d R,e≠.obj d R)->(ks.flatMap F).Nodup
 |[],_,_=>by simp
 |k::r,hn,he=>by
  rw[List.flatMap_cons,List.nodup_append];obtain⟨e,h1,h2⟩:=he k sI;refine⟨Rc h2 (hs.ent k e h1),rU hs (List.nodup_cons.1 hn).2 (λj hj=>he j (by simp[hj])),λb hb c hc hbc=>?_⟩;subst hbc;obtain⟨j,hj,hbj⟩:=List.mem_flatMap.1 hc;obtain⟨e2,h3,_⟩:=he j (by simp[hj])
  exact hs.apart k j e e2 (λe' => (List.nodup_cons.1 hn).1 (e' ▸ hj)) h1 h3 b hb hbj
theorem fZ(hs:ai W bs E F h w){k:Nat}{T:TypeId}{vs:List SV}{fs:List AV}{rs:List Nat}(hk:h k=some (.cells T vs))(hv:aC h vs=some (fs,rs))(hn:(k::rs).Nodup) :
  bC w (E k) ((k::rs).flatMap F) T fs:=by
 obtain⟨b,h1,h2,h3⟩:=hs.ent k _ hk;obtain⟨g1,_⟩:=b7 hs hv;refine⟨b,au E vs,h1,h3,eR hs hv,by rw[List.flatMap_cons,h2,g1];rfl,rU hs hn λj hj=>?_⟩;rcases List.mem_cons.1 hj with rfl|hj
 ·exact⟨_,hk,λd R e=>by cases e⟩
 ·obtain⟨T',s,n,us,hj'⟩:=lF hv j hj;exact⟨_,hj',λd R e=>by cases e⟩
def aN:Nat->List AV->List SV
 |_,[]=>[]
 |k,.val v::r=>.v v::aN (k+1) r
 |k,.row _ _ _ _::r=>.hd k::aN (k+1) r
def aZ:Nat->List AV->List (Nat×aS)
 |_,[]=>[]
 |k,.val _::r=>aZ (k+1) r
 |k,.row T s n vs::r=>(k,.row T s n (vs.map .v))::aZ (k+1) r
def cR:List (Nat×aS)->List (Nat×Option aS)
 |[]=>[]
 |(k,e)::r=>(k,some e)::cR r
theorem et:∀ {k:Nat} {fs:List AV},∀ p∈aZ k fs,k<=p.1/\p.1<k+fs.length/\p.2.keys=[]
 |_,[],p,hp=>by cases hp
 |k,.val v::r,p,hp=>by
  have:=et (k:=k+1) (fs:=r) p hp;simp only[List.length_cons];exact⟨oM,oM,this.2.2⟩
 | k,.row T s n vs::r,p,hp=>by
  rcases List.mem_cons.1 hp with rfl|hp
  ·simp[aS.keys,aB]
  ·have:=et (k:=k+1) (fs:=r) p hp;simp only[List.length_cons];exact⟨oM,oM,this.2.2⟩
theorem cP:∀ {k:Nat} {fs:List AV},∀ j∈ay (aN k fs),k<=j/\j<k+fs.length
 |_,[],j,hj=>by cases hj
 |k,.val v::r,j,hj=>by
  simp only[aN,ay,SV.keys,List.nil_append]at hj;have:=cP j hj;simp only[List.length_cons];omega
 | k,.row T s n vs::r,j,hj=>by
  simp only[aN,ay,SV.keys,List.singleton_append,List.mem_cons]at hj;simp only[List.length_cons];rcases hj with rfl|hj
  ·omega
  ·have:=cP j hj;omega
def iJ:Nat->List Value->(Nat->Value)->Nat->Value
 |_,[],E=>E
 |k,u::us,E=>bu (iJ (k+1) us E) k u
def iF:Nat->List Value->List AV->(Nat->List Nat)->Nat->List Nat
 |k,u::us,a::as_,F=>bu (iF (k+1) us as_ F) k (aaW u a)
 |_,_,_,F=>F
theorem jR:∀ {k:Nat} {us:List Value} {E:Nat->Value} {j:Nat},(j<k\/k+us.length<=j)->iJ k us E j=E j
 |_,[],_,_,_=>rfl
 |k,u::us,E,j,h=>by
  simp only[List.length_cons]at h;simp only[iJ];rw[aq _ _ oM];exact jR oM
theorem jy:∀ {k:Nat} {us:List Value} {as_:List AV} {F:Nat->List Nat} {j:Nat},(j<k\/k+as_.length<=j)->iF k us as_ F j=F j
 |k,u::us,a::as_,F,j,h=>by
  simp only[List.length_cons]at h;simp only[iF];rw[aq _ _ oM];exact jy oM
 |_,[],[],_,_,_=>rfl
 |_,[],_::_,_,_,_=>rfl
 |_,_::_,[],_,_,_=>rfl
theorem iq:∀ {us:List Value} {as_:List AV},gj w us as_->us.length=as_.length
 |[],[],_=>rfl
 |_::_,_::_,h=>by simp[iq h.2]
 |[],_::_,h=>h.elim
 |_::_,[],h=>h.elim
theorem gf:∀ {k:Nat} {us:List Value} {fs:List AV} {E:Nat->Value},gj w us fs->au (iJ k us E) (aN k fs)=us
 |_,[],[],_,_=>rfl
 |k,u::us,.val v::fs,E,h=>by
  obtain⟨rfl,h2⟩:=h;simp only[aN,au,den,iJ]
  congr 1
  have:au (bu (iJ (k+1) us E) k u) (aN (k+1) fs)=au (iJ (k+1) us E) (aN (k+1) fs):=bV _ λj hj=>aq _ _ (by have:=cP j hj;omega)
  rw[this];exact gf h2
 |k,u::us,.row T s n vs::fs,E,h=>by
  obtain⟨h1,h2⟩:=h;simp only[aN,au,den,iJ,ak];have hone:u.oneCell' = true:=dM (E:=E) (fp:=u.ownBlock.toList) (w:=w) (e:=.row T s n (vs.map .v)) ⟨by rw[aJ];exact h1,rfl⟩;rw[kD hone]
  congr 1
  have:au (bu (iJ (k+1) us E) k u) (aN (k+1) fs)=au (iJ (k+1) us E) (aN (k+1) fs):=bV _ λj hj=>aq _ _ (by have:=cP j hj;omega)
  rw[this];exact gf h2
 |_,[],_::_,_,h=>h.elim
 |_,_::_,[],_,h=>h.elim
theorem iB:∀ {k:Nat} {us:List Value} {fs:List AV} {E:Nat->Value} {F:Nat->List Nat} {p:Nat×aS},gj w us fs->p∈aZ k fs ->
  ∀ E0:Nat->Value,a6 E0 (iJ k us E p.1) (iF k us fs F p.1) w p.2/\∀ b∈iF k us fs F p.1,b∈wy us fs
 |_,[],[],_,_,p,_,hp=>by cases hp
 |k,u::us,.val v::fs,E,F,p,h,hp=>λE0=>by
  have hk:=et (k:=k+1) (fs:=fs) p hp;simp only[iJ,iF];rw[aq _ _ oM,aq _ _ oM];obtain⟨h1,h2⟩:=iB (k:=k+1) (E:=E) (F:=F) h.2 hp E0;exact⟨h1,λb hb=>List.mem_append_right _ (h2 b hb)⟩
 | k,u::us,.row T s n vs::fs,E,F,p,h,hp=>λE0=>by
  rcases List.mem_cons.1 hp with rfl|hp
  ·simp only[iJ,iF,ak];exact⟨⟨by rw[aJ];exact h.1,rfl⟩,λb hb=>List.mem_append_left _ hb⟩
  ·have hk:=et (k:=k+1) (fs:=fs) p hp;simp only[iJ,iF];rw[aq _ _ oM,aq _ _ oM];obtain⟨h1,h2⟩:=iB (k:=k+1) (E:=E) (F:=F) h.2 hp E0;exact⟨h1,λb hb=>List.mem_append_right _ (h2 b hb)⟩
 |_,[],_::_,_,_,p,h,_=>h.elim
 |_,_::_,[],_,_,p,h,_=>h.elim
theorem pD{k:Nat}{a:AV}{fs:List AV}{r:Nat×aS}(hr:r∈aZ k (a::fs))(hrk:r.1≠k):r∈aZ (k+1) fs:=by
 cases a with
 |val v=>exact hr
 |row T s n vs=>
  rcases List.mem_cons.1 hr with rfl|hr
  ·exact absurd rfl hrk
  ·exact hr
theorem bN:∀ {k:Nat} {us:List Value} {fs:List AV} {F:Nat->List Nat} {r:Nat×aS},us.length=fs.length->r∈aZ k fs->∀ b∈iF k us fs F r.1,b∈wy us fs
 |_,[],[],_,r,_,hr,_,_=>by cases hr
 |_,[],_::_,_,_,hl,_,_,_=>by simp at hl
 |_,_::_,[],_,_,hl,_,_,_=>by simp at hl
 | k,u::us,a::fs,F,r,hl,hr,b,hb=>by
  simp only[wy,List.mem_append];simp only[iF]at hb;by_cases hrk:r.1=k
  ·rw[hrk,ak]at hb;exact .inl hb
  ·rw[aq _ _ hrk]at hb;exact .inr (bN (by simpa using hl) (pD hr hrk) b hb)
theorem gi:∀ {k:Nat} {us:List Value} {fs:List AV} {F:Nat->List Nat} {p q:Nat×aS},(wy us fs).Nodup->p∈aZ k fs->q∈aZ k fs->us.length=fs.length->p.1≠q.1->∀ b∈iF k us fs F p.1,b∉iF k us fs F q.1
 |_,[],[],_,p,_,_,hp,_,_,_,_,_=>by cases hp
 |_,[],_::_,_,_,_,_,_,_,hl,_,_,_=>by simp at hl
 |_,_::_,[],_,_,_,_,_,_,hl,_,_,_=>by simp at hl
 | k,u::us,a::fs,F,p,q,hn,hp,hq,hl,hpq,b,hb=>by
  have hl' : us.length=fs.length:=by simpa using hl
  rw[show wy (u::us) (a::fs)=aaW u a++wy us fs from rfl,List.nodup_append]at hn;obtain⟨_,n2,n3⟩:=hn;simp only[iF]at hb ⊢;by_cases hpk:p.1=k
  ·rw[hpk,ak]at hb;have hqk:q.1≠k:=λe=>hpq (by rw[hpk,e])
   rw[aq _ _ hqk];intro hb';exact n3 b hb b (bN hl' (pD hq hqk) b hb') rfl
  ·rw[aq _ _ hpk]at hb;by_cases hqk:q.1=k
   ·rw[hqk,ak];intro hb';exact n3 b hb' b (bN hl' (pD hp hpk) b hb) rfl
   ·rw[aq _ _ hqk];exact gi n2 (pD hp hpk) (pD hq hqk) hl' hpq b hb
end
inductive BOut where
 |ret (v:Value) (fs:List AV)
 |pan (c:List PanicEntry) (v:Value)
def gM(w:World)(u:Value)(fp:List Nat)(T:TypeId)(e:Ending)(w' : World):BOut->Prop
 |.ret v fs=>e=.returned v/\(∃ fp',bC w' u fp' T fs/\(∀ b∈fp',b∈fp\/w.heap.size<=b)/\∀ b∈fp',b<w'.heap.size)/\ah w fp w'
 |.pan c _=>e=.panicked c/\ah w fp w'
structure ed (P:Program)(f:FuncId) where
 T:TypeId
 pre:World->List Nat->List AV->List AV->Prop
 out:World->List AV->List AV->BOut
 enters:∀ args w,(callFunc f args).run P w=.ok (.enter f args) w
 ok:∀ (W w:World) (bs:List Nat) (u:Value) (fp:List Nat) (us:List Value) (fs as_:List AV),ah W bs w->bC w u fp T fs->(∀ b∈fp,b<w.heap.size)->(∀ b∈fp,W.heap.size<=b\/b∈bs)->gj w us as_->pre W bs fs as_ ->
  Calls P f (u::us).toArray w λe w' => gM w u fp T e w' (out W fs as_)
def eB(rs:List Nat):List (Nat×Option aS):=rs.map λj=>(j,none)
def il(κ k:Nat)(T:TypeId)(pre:Prop)(rs rs' : List Nat):BOut->R
 |.ret v fs=>⟨pre/\(k::rs).Nodup/\(∀ j∈rs',j∉k::rs)/\fs.length<=8,.v v,eB rs++(cR (aZ (8*κ) fs)++[(k,some (.cells T (aN (8*κ) fs)))]),none,[],k::(rs++rs')⟩
 |.pan c v=>⟨pre/\(k::rs).Nodup/\(∀ j∈rs',j∉k::rs),.v v,[],some c,k::rs,k::(rs++rs')⟩
def iQ(κ k:Nat)(T T' : TypeId)(pre:List AV->List AV->Prop)(out:List AV->List AV->BOut)(as_:List AV)(rs' : List Nat):Option (List AV×List Nat)->R
 |some (fs,rs)=>il κ k T (T' = T/\pre fs as_) rs rs' (out fs as_)
 |none=>.bad
def gu(h:Hp)(κ k:Nat)(T:TypeId)(pre:List AV->List AV->Prop)(out:List AV->List AV->BOut):Option aS->Option (List AV×List Nat)->R
 |some (.cells T' vs),some (as_,rs')=>iQ κ k T T' pre out as_ rs' (aC h vs)
 |_,_=>.bad
def qB(h:Hp)(κ:Nat)(T:TypeId)(pre:List AV->List AV->Prop)(out:List AV->List AV->BOut):List SV->R
 |.own k 0::rest=>gu h κ k T pre out (h k) (aC h rest)
 |_=>.bad
section
variable {P:Program}{W:World}{bs:List Nat}{κ:Nat}{E:Nat->Value}{F:Nat->List Nat}{h:Nat->Option aS}{w:World}{K:Nat->Prop}
theorem cy{α:Type}(f:Nat->α):∀ (a b:List (Nat×α)),ba f (a++b)=ba (ba f a) b
 |[],_=>rfl
 |(k,x)::r,b=>by simp only[List.cons_append,ba];exact cy _ r b
theorem lp(h:Hp):∀ (rs:List Nat) (j:Nat),ba h (eB rs) j=if j∈rs then none else h j
 |[],j=>by simp[eB,ba]
 | k::r,j=>by
  have:ba h (eB (k::r)) j=ba (bu h k none) (eB r) j:=rfl;rw[this,lp];by_cases hj:j∈r
  ·simp[hj]
  ·by_cases hjk:j=k
   ·subst hjk;simp[hj,ak]
   ·simp[hj,hjk,aq _ _ hjk]
theorem jH:∀ (L:List (Nat×Option aS)) (f:Hp) (j:Nat),(∀ p∈L,∃ e,p.2=some e)->ba f L j=match ba (λ_=>none) L j with|some e=>some e|none=>f j
 |[],f,j,_=>rfl
 | (i,x)::r,f,j,hL=>by
  obtain⟨e,he⟩:=hL (i,x) sI;simp only at he;subst he;have hr:∀ p∈r,∃ e,p.2=some e:=λp hp=>hL p (by simp[hp])
  simp only[ba];rw[jH r (bu f i (some e)) j hr,jH r (bu (λ_=>none) i (some e)) j hr];cases ba (λ_=>none) r j with
  |some y=>rfl
  |none=>
   simp only;by_cases hj:j=i
   ·subst hj;simp[ak]
   ·simp[aq _ _ hj]
theorem fG{L:List (Nat×aS)}{p:Nat×Option aS}:p∈cR L ↔ ∃ e,p=(p.1,some e)/\(p.1,e)∈L:=by
 induction L with
 |nil=>simp[cR]
 | cons q r ih=>
  obtain⟨k,e⟩:=q;simp only[cR,List.mem_cons,ih];constructor
  ·rintro (rfl|⟨e',h1,h2⟩)
   ·exact⟨e,rfl,.inl rfl⟩
   ·exact⟨e',h1,.inr h2⟩
  ·rintro⟨e',h1,h2|h2⟩
   ·left;rw[h1];simp only[Prod.mk.injEq]at h2;rw[h2.1,h2.2]
   ·exact .inr ⟨e',h1,h2⟩
theorem pH{w' : World}{k:Nat}{T:TypeId}{vs:List SV}{fs fs' : List AV}{rs fp' : List Nat}(hs:ai W bs E F h w)(hK:bW K h)(hk:∀ k,k / 8=κ->¬ K k)
  (hkk:h k=some (.cells T vs)) (hv:aC h vs=some (fs,rs)) (hlen:fs'.length<=8) (hn:(k::rs).Nodup)
  (ho:bC w' (E k) fp' T fs') (h1:∀ b∈fp',b∈(k::rs).flatMap F\/w.heap.size<=b) (h2:∀ b∈fp',b<w'.heap.size) (hkeep:ah w ((k::rs).flatMap F) w') :
  ∃ E' F',(∀ j,j / 8≠κ->E' j=E j)/\ai W bs E' F' (ba h (eB rs++(cR (aZ (8*κ) fs')++[(k,some (.cells T (aN (8*κ) fs')))]))) w' := by
 obtain⟨b,us,hu,hb,hus,rfl,hnd⟩:=ho;have hl:=iq hus;have hKk:K k:=(hK k _ hkk).1;have hfr:∀ j,8*κ<=j->j<8*κ+8->¬ K j:=λj g1 g2=>hk j oM
 have hkf:k<8*κ\/8*κ+8<=k:=by
  by_cases g1:k<8*κ
  ·exact .inl g1
  ·by_cases g2:8*κ+8<=k
   ·exact .inr g2
   ·exact absurd hKk (hfr k oM oM)
 have hE:∀ j,j / 8≠κ->iJ (8*κ) us E j=E j:=λj hj=>jR oM
 have hsome:∀ p∈cR (aZ (8*κ) fs')++[(k,some (.cells T (aN (8*κ) fs')))],∃ e,p.2=some e:=λp hp=>by
  rcases List.mem_append.1 hp with hp|hp
  ·obtain⟨e,he,_⟩:=fG.1 hp;exact⟨e,by rw[he]⟩
  ·simp at hp;exact⟨_,by rw[hp]⟩
 have hNm:∀ j e,ba (λ_=>none) (cR (aZ (8*κ) fs')++[(k,some (.cells T (aN (8*κ) fs')))]) j=some e->(j=k/\e=.cells T (aN (8*κ) fs'))\/(j≠k/\(j,e)∈aZ (8*κ) fs'):=λj e he=>by
  rw[cy]at he;simp only[ba]at he;by_cases hj:j=k
  ·subst hj;rw[ak]at he;cases he;exact .inl ⟨rfl,rfl⟩
  ·rw[aq _ _ hj]at he;rcases j8 (λ_=>(none:Option aS)) (k:=j) (u:=cR (aZ (8*κ) fs')) with ⟨x,hx,hx'⟩|⟨_,hx'⟩
   ·rw[hx']at he;subst he;obtain⟨e',h3,h4⟩:=fG.1 hx;simp only[Prod.mk.injEq,true_and,Option.some.injEq]at h3;subst h3;exact .inr ⟨hj,h4⟩
   ·rw[hx']at he;cases he
 have hNk:ba (λ_=>none) (cR (aZ (8*κ) fs')++[(k,some (.cells T (aN (8*κ) fs')))]) k=some (.cells T (aN (8*κ) fs')):=by
  rw[cy];simp[ba,ak]
 have hb' : b∉wy us fs' := (List.nodup_cons.1 hnd).1;have hnd' : (wy us fs').Nodup:=(List.nodup_cons.1 hnd).2;refine⟨iJ (8*κ) us E,bu (iF (8*κ) us fs' F) k [b],hE,?_⟩
 refine hs.oH hK (k::rs) (ba (λ_=>none) (cR (aZ (8*κ) fs')++[(k,some (.cells T (aN (8*κ) fs')))])) (λj hj=>?_) (λj hj=>hE j λe=>hk j e hj) (λj e he=>?_) (λi j e e' hij hi hj c hc=>?_) (λj x hx hj=>?_) (λj=>?_) hkeep
 ·rcases List.mem_cons.1 hj with rfl|hj
  ·exact⟨_,hkk⟩
  ·exact (b7 hs hv).2 j hj
 ·rcases hNm j e he with ⟨rfl,rfl⟩|⟨hjk,hm⟩
  ·rw[ak,hE j λe=>hk j e hKk];refine⟨⟨b,hu,rfl,by rw[gf hus];exact hb⟩,λc hc=>?_,λc hc=>h2 c (by simp at hc;simp[hc])⟩;simp only[List.mem_singleton]at hc;subst hc;rcases h1 c sI with g|g
   ·obtain⟨i,hi,hci⟩:=List.mem_flatMap.1 g;exact .inl ⟨i,hi,hci⟩
   ·exact .inr g
  ·rw[aq _ _ hjk];obtain⟨g1,g2⟩:=iB (E:=E) (F:=F) hus hm (iJ (8*κ) us E);refine⟨g1,λc hc=>?_,λc hc=>h2 c (List.mem_cons_of_mem _ (g2 c hc))⟩;rcases h1 c (List.mem_cons_of_mem _ (g2 c hc)) with g|g
   ·obtain⟨i,hi,hci⟩:=List.mem_flatMap.1 g;exact .inl ⟨i,hi,hci⟩
   ·exact .inr g
 ·rcases hNm i e hi with ⟨rfl,rfl⟩|⟨hik,hmi⟩
  ·rcases hNm j e' hj with ⟨rfl,rfl⟩|⟨hjk,hmj⟩
   ·exact absurd rfl hij
   ·rw[ak]at hc;rw[aq _ _ hjk];simp only[List.mem_singleton]at hc;subst hc;exact λhc' => hb' (bN hl hmj c hc')
  ·rw[aq _ _ hik]at hc;rcases hNm j e' hj with ⟨rfl,rfl⟩|⟨hjk,hmj⟩
   ·rw[ak];intro hc';simp only[List.mem_singleton]at hc';subst hc';exact hb' (bN hl hmi c hc)
   ·rw[aq _ _ hjk];exact gi hnd' hmi hmj hl hij c hc
 ·have hjk:j≠k:=λe=>by rw[e,hNk]at hj;cases hj
  rw[aq _ _ hjk];have hKj:=(hK j x hx).1;by_cases g1:j<8*κ
  ·exact jy (.inl g1)
  ·by_cases g2:8*κ+8<=j
   ·exact jy (.inr oM)
   ·exact absurd hKj (hfr j oM oM)
 ·rw[cy,jH _ _ _ hsome,lp];cases hN:ba (λ_=>none) (cR (aZ (8*κ) fs')++[(k,some (.cells T (aN (8*κ) fs')))]) j with
  |some e=>rfl
  |none=>
   have hjk:j≠k:=λe=>by rw[e,hNk]at hN;cases hN
   simp[hjk]
theorem yq{fs:List AV}(hlen:fs.length<=8){j:Nat}{e:aS}(hm:(j,e)∈aZ (8*κ) fs):j / 8=κ/\e.keys=[]:=by
 have:=et _ hm;exact⟨by simp only at this;omega,this.2.2⟩
theorem s5(hK:bW K h){l:List SV}{as_:List AV}{r:List Nat}(hv:aC h l=some (as_,r)):∀ k∈r,K k:=λk hk=>by
 obtain⟨T,s,n,vs,h1⟩:=lF hv k hk;exact (hK k _ h1).1
end
def ed.spec{P:Program}{f:FuncId}(p:ed P f):Spec P f where
 ev:=λW bs κ h args=>qB h κ p.T (p.pre W bs) (p.out W) args
 good:=λW bs κ E F h w K args hs hK hk hx hside=>by
  rw[p.enters];revert hside;unfold qB;split
  ·rename_i k rest;cases hkk:h k with
   |none=>exact λhf=>hf.elim
   | some e=>
    cases e with
    |row T s n vs=>exact λhf=>hf.elim
    |obj d R=>exact λhf=>hf.elim
    | cells T' vs=>
     cases hr:aC h rest with
     |none=>exact λhf=>hf.elim
     | some q=>
      obtain⟨as_,rs'⟩:=q;simp only[gu];cases hv:aC h vs with
      |none=>exact λhf=>hf.elim
      | some q=>
       obtain⟨fs,rs⟩:=q;simp only[iQ];have hent:=hs.ent k _ hkk;obtain⟨b,hu,_,_⟩:=hent;have hden:den E (.own k 0)=E k:=by simp[den,hu,base,dq]
       have call:∀ hn:(k::rs).Nodup,T' = p.T->p.pre W bs fs as_->Calls P f (au E (.own k 0::rest)).toArray w λe w' => gM w (E k) ((k::rs).flatMap F) p.T e w' (p.out W fs as_):=λhn hT hp=>by
        subst hT;have ho:=fZ hs hkk hv hn;have:=p.ok W w bs (E k) _ (au E rest) fs as_ hs.keeps ho (λc hc=>?_) (λc hc=>?_) (eR hs hr) hp
        ·simpa only[au,hden] using this
        ·obtain⟨j,hj,hcj⟩:=List.mem_flatMap.1 hc;rcases List.mem_cons.1 hj with rfl|hj
         ·exact hs.lt _ _ hkk c hcj
         ·obtain⟨e,he⟩:=(b7 hs hv).2 j hj;exact hs.lt j e he c hcj
        ·obtain⟨j,hj,hcj⟩:=List.mem_flatMap.1 hc;rcases List.mem_cons.1 hj with rfl|hj
         ·exact hs.mine _ _ hkk c hcj
         ·obtain⟨e,he⟩:=(b7 hs hv).2 j hj;exact hs.mine j e he c hcj
       cases hout:p.out W fs as_ with
       |ret v fs' =>
        simp only[il];rintro⟨⟨hT,hp⟩,hn,hd,hlen⟩;have hc:=call hn hT hp;rw[hout]at hc;subst hT;refine hc.mono λe w' he=>?_
        obtain⟨rfl,⟨fp',ho,h1,h2⟩,hkeep⟩:=he;obtain⟨E',F',hE',hs'⟩:=pH hs hK hk hkk hv hlen hn ho h1 h2 hkeep;exact⟨rfl,E',F',hE',rfl,hs'⟩
       | pan c _=>
        simp only[il];rintro⟨⟨hT,hp⟩,hn,hd⟩;have hc:=call hn hT hp;rw[hout]at hc;refine hc.mono λe w' he=>?_
        obtain⟨rfl,hkeep⟩:=he;refine⟨rfl,F,?_⟩;refine hs.oH hK (k::rs) (λ_=>none) (λj hj=>?_) (λ_ _=>rfl) (λj e he=>by cases he) (λi j e e' _ he=>by cases he) (λ_ _ _ _=>rfl) (λj=>?_) hkeep
        ·rcases List.mem_cons.1 hj with rfl|hj
         ·exact⟨_,hkk⟩
         ·exact (b7 hs hv).2 j hj
        ·simp only[dropKeys]
  ·exact λhf=>hf.elim
 keys:=λW bs κ h K args hK hx hside=>by
  revert hside;unfold qB;split
  ·rename_i k rest;cases hkk:h k with
   |none=>exact λhf=>hf.elim
   | some e=>
    cases e with
    |row T s n vs=>exact λhf=>hf.elim
    |obj d R=>exact λhf=>hf.elim
    | cells T' vs=>
     cases hr:aC h rest with
     |none=>exact λhf=>hf.elim
     | some q=>
      obtain⟨as_,rs'⟩:=q;simp only[gu];cases hv:aC h vs with
      |none=>exact λhf=>hf.elim
      | some q=>
       obtain⟨fs,rs⟩:=q;simp only[iQ];cases hout:p.out W fs as_ with
       | ret v fs' =>
        simp only[il];rintro⟨_,hn,hd,hlen⟩;refine⟨λj hj=>(by cases hj),λq hq=>?_⟩;simp only[List.mem_append,List.mem_singleton]at hq;rcases hq with hq|hq|rfl
        ·simp only[eB,List.mem_map]at hq;obtain⟨j,hj,rfl⟩:=hq;exact⟨.inl (s5 hK hv j hj),λe he=>by cases he⟩
        ·obtain⟨e,h1,h2⟩:=fG.1 hq;obtain⟨h3,h4⟩:=yq hlen h2;refine⟨.inr h3,λe' he' j hj=>?_⟩;rw[h1]at he';simp only[Option.some.injEq]at he';subst he';rw[h4]at hj;cases hj
        ·refine⟨.inl (hK k _ hkk).1,λe' he' j hj=>.inr ?_⟩;simp only[Option.some.injEq]at he';subst he';have:=cP j hj;omega
       |pan c _=>
        simp only[il];rintro _;exact⟨λj hj=>(by cases hj),λq hq=>by cases hq⟩
  ·exact λhf=>hf.elim
 loc:=λW bs κ h h' args hside hr=>by
  revert hside hr;unfold qB;split
  ·rename_i k rest;cases hkk:h k with
   |none=>exact λhf=>hf.elim
   | some e=>
    cases e with
    |row T s n vs=>exact λhf=>hf.elim
    |obj d R=>exact λhf=>hf.elim
    | cells T' vs=>
     cases hrr:aC h rest with
     |none=>exact λhf=>hf.elim
     | some q=>
      obtain⟨as_,rs'⟩:=q;simp only[gu];cases hv:aC h vs with
      |none=>exact λhf=>hf.elim
      | some q=>
       obtain⟨fs,rs⟩:=q;simp only[iQ];have key:∀ r:R,(∀ j∈r.reads,h' j=h j)->r.reads=k::(rs++rs')->h' k=some (.cells T' vs)/\aC h' rest=some (as_,rs')/\aC h' vs=some (fs,rs):=λr hr he=>by
        rw[he]at hr;exact⟨by rw[hr k sI,hkk],dw hrr λj hj=>hr j (by simp[hj]),dw hv λj hj=>hr j (by simp[hj])⟩
       intro _ hr;obtain⟨g1,g2,g3⟩:=key _ hr (by cases p.out W fs as_<;>rfl);rw[g1,g2];simp only[gu,g3,iQ]
  ·exact λhf=>hf.elim
theorem LV{P:Program}{f:FuncId}(p:ed P f)(W:World)(bs:List Nat)(κ:Nat)(h:Hp)(l:List SV):p.spec.ev W bs κ h l=qB h κ p.T (p.pre W bs) (p.out W) l:=rfl
theorem HY(h:Hp)(κ k:Nat)(T:TypeId)(pre:List AV->List AV->Prop)(out:List AV->List AV->BOut)(rest:List SV):qB h κ T pre out (.own k 0::rest)=gu h κ k T pre out (h k) (aC h rest):=rfl
theorem BY(h:Hp)(κ k:Nat)(T T' : TypeId)(pre:List AV->List AV->Prop)(out:List AV->List AV->BOut)(vs:List SV)(as_:List AV)(rs' : List Nat):gu h κ k T pre out (some (.cells T' vs)) (some (as_,rs'))=iQ κ k T T' pre out as_ rs' (aC h vs):=rfl
theorem DY(κ k:Nat)(T T' : TypeId)(pre:List AV->List AV->Prop)(out:List AV->List AV->BOut)(as_:List AV)(rs' : List Nat)(fs:List AV)(rs:List Nat):iQ κ k T T' pre out as_ rs' (some (fs,rs))=il κ k T (T' = T/\pre fs as_) rs rs' (out fs as_):=rfl
theorem I7(κ k:Nat)(T:TypeId)(pre:Prop)(rs rs' : List Nat)(v:Value)(fs:List AV):il κ k T pre rs rs' (.ret v fs)=⟨pre/\(k::rs).Nodup/\(∀ j∈rs',j∉k::rs)/\fs.length<=8,.v v,eB rs++(cR (aZ (8*κ) fs)++[(k,some (.cells T (aN (8*κ) fs)))]),none,[],k::(rs++rs')⟩:=rfl
theorem HI(κ k:Nat)(T:TypeId)(pre:Prop)(rs rs' : List Nat)(c:List PanicEntry)(v:Value):il κ k T pre rs rs' (.pan c v)=⟨pre/\(k::rs).Nodup/\(∀ j∈rs',j∉k::rs),.v v,[],some c,k::rs,k::(rs++rs')⟩:=rfl
theorem Uo(k:IntKind)(n:Int):sV .xor [.v (.int k n)]=⟨True,.v (.int k (cw .xor k (if k.signed then -1 else k.max) n)),[],none,[],[]⟩:=rfl
theorem gE:eB []=[]:=rfl
theorem fY(k:Nat)(r:List Nat):eB (k::r)=(k,none)::eB r:=rfl
theorem TJ(k:Nat):aZ k []=[]:=rfl
theorem S8(k:Nat)(v:Value)(r:List AV):aZ k (.val v::r)=aZ (k+1) r:=rfl
theorem TG(k:Nat)(T s n:Nat)(vs:List Value)(r:List AV):aZ k (.row T s n vs::r)=(k,.row T s n (vs.map .v))::aZ (k+1) r:=rfl
theorem Mk(k:Nat):aN k []=[]:=rfl
theorem Mn(k:Nat)(v:Value)(r:List AV):aN k (.val v::r)=.v v::aN (k+1) r:=rfl
theorem Ma(k:Nat)(T s n:Nat)(vs:List Value)(r:List AV):aN k (.row T s n vs::r)=.hd k::aN (k+1) r:=rfl
theorem RM:cR []=[]:=rfl
theorem Ks(k:Nat)(e:aS)(r:List (Nat×aS)):cR ((k,e)::r)=(k,some e)::cR r:=rfl
def σB(T:TypeId)(fs:List AV)(args:List Value):St:=⟨1,bm ((0,.is (.own 0 0))::sa args 1),aY ((0,.cells T (aN 1 fs))::aZ 1 fs)⟩
theorem Bm{k:Nat}{fs:List AV}{j:Nat}{e:aS}(h:aY (aZ k fs) j=some e):(j,e)∈aZ k fs:=cB h
theorem Bs{w:World}{nt m:Nat}{T:TypeId}{fs:List AV}{u:Value}{fp:List Nat}(us:Array Value)(hlen:fs.length<=7)(ho:bC w u fp T fs)(hlt:∀ b∈fp,b<w.heap.size)(hnt:us.size+1+m=nt) :
  Sat w fp nt ⟨[],[(0,u)]⟩ (σB T fs us.toList) { tmps:=(#[u]++us)++Array.replicate m undef,defers:=[] } w:=by
 obtain⟨b,vs,rfl,hb,hvs,rfl,hnd⟩:=ho;have hl:=iq hvs;have hb' : b∉wy vs fs:=(List.nodup_cons.1 hnd).1;have hnd' : (wy vs fs).Nodup:=(List.nodup_cons.1 hnd).2;have at' : ∀ j e,aY ((0,.cells T (aN 1 fs))::aZ 1 fs) j=some e->(j=0/\e=.cells T (aN 1 fs))\/(j≠0/\(j,e)∈aZ 1 fs):=λj e he=>by
  simp only[aY]at he;by_cases hj:j=0
  ·subst hj;rw[ak]at he;cases he;exact .inl ⟨rfl,rfl⟩
  ·rw[aq _ _ hj]at he;exact .inr ⟨hj,Bm he⟩
 have e0:iJ 1 vs (λ_=>.pointer (some ⟨b,0,none⟩)) 0=.pointer (some ⟨b,0,none⟩):=jR (.inl oM)
 refine⟨⟨iJ 1 vs (λ_=>.pointer (some ⟨b,0,none⟩)),bu (iF 1 vs fs (λ_=>[])) 0 [b],λt=>?_,⟨λj e he=>?_,λj e he c hc=>?_,λj e he c hc=>?_,λi j e e' hij hi hj c hc=>?_,ah.refl w _⟩,λp hp=>?_⟩,?_,rfl,λp hp=>?_,λt k hk=>?_,λj e he=>?_⟩
 ·show fits _ (bm ((0,.is (.own 0 0))::sa us.toList 1) t) _;simp only[bm,bu];split
  ·rename_i ht;subst ht;simp only[fits,den,e0,base,dq];rw[Array.getD_eq_getD_getElem?,Array.getElem?_append_left (by simp;omega),Array.getElem?_append_left sI];rfl
  ·refine mT _ us.toList 1 t (λt=>((#[Value.pointer (some ⟨b,0,none⟩)]++us)++Array.replicate m undef).getD t undef) λj hj=>?_
   have hj' : j<us.size:=by simpa using hj
   rw[Array.getD_eq_getD_getElem?,Array.getElem?_append_left (by simp;omega),Array.getElem?_append_right sI];simp[Array.getElem?_eq_getElem hj']
 ·rcases at' j e he with ⟨rfl,rfl⟩|⟨hj,hm⟩
  ·exact⟨b,e0,by rw[ak],by rw[gf hvs];exact hb⟩
  ·rw[aq _ _ hj];exact (iB hvs hm _).1
 ·rcases at' j e he with ⟨rfl,rfl⟩|⟨hj,hm⟩
  ·rw[ak]at hc;exact hlt c (by simp at hc;simp[hc])
  ·rw[aq _ _ hj]at hc;exact hlt c (List.mem_cons_of_mem _ (bN hl hm c hc))
 ·right;rcases at' j e he with ⟨rfl,rfl⟩|⟨hj,hm⟩
  ·rw[ak]at hc;simp at hc;simp[hc]
  ·rw[aq _ _ hj]at hc;exact List.mem_cons_of_mem _ (bN hl hm c hc)
 ·rcases at' i e hi with ⟨rfl,rfl⟩|⟨hi0,hmi⟩
  ·rcases at' j e' hj with ⟨rfl,rfl⟩|⟨hj0,hmj⟩
   ·exact absurd rfl hij
   ·rw[ak]at hc;rw[aq _ _ hj0];simp only[List.mem_singleton]at hc;subst hc;exact λhc' => hb' (bN hl hmj c hc')
  ·rw[aq _ _ hi0]at hc;rcases at' j e' hj with ⟨rfl,rfl⟩|⟨hj0,hmj⟩
   ·rw[ak];intro hc';simp only[List.mem_singleton]at hc';subst hc';exact hb' (bN hl hmi c hc)
   ·rw[aq _ _ hj0];exact gi hnd' hmi hmj hl hij c hc
 ·simp only[List.mem_singleton]at hp;subst hp;exact e0
 ·simp;omega
 ·simp only[List.mem_singleton]at hp;subst hp;show 0 / 8<1;omega
 ·simp only[σB,bm,bu]at hk;split at hk
  ·simp[FV.keys,SV.keys]at hk;subst hk;show 0 / 8<1;omega
  ·rw[mI]at hk;cases hk
 ·rcases at' j e he with ⟨rfl,rfl⟩|⟨hj,hm⟩
  ·refine⟨by show 0 / 8<1;omega,λi hi=>?_⟩;have:=cP i hi;show i / 8<1;omega
  ·have:=et _ hm;refine⟨by show j / 8<1;simp only at this;omega,λi hi=>?_⟩;rw[this.2.2]at hi;cases hi
theorem bg{P:Program}{f:FuncId}{fn:Func}{c:Code}{w:World}{nt:Nat}{T:TypeId}{u:Value}{fp:List Nat}{fs:List AV}{out:BOut}(us:Array Value)(rs:List ResultVar)
  (hlen:fs.length<=7) (ho:bC w u fp T fs) (hlt:∀ b∈fp,b<w.heap.size)
  (hf:P.funcs[f]?=some fn) (hb:fn.body=some c) (hrs:fn.results.toList=rs) (hnt:us.size+1+(fn.ntmps-(us.size+1))=nt)
  (h:Wp P w fp nt ⟨[],[(0,u)]⟩ c (Fin P rs (λ_ _ x h=>∃ v fs',out=.ret v fs' /\ (∀ E,den E x=v)/\∃ vs ks,h 0=some (.cells T vs)/\aC h vs=some (fs',ks)/\(0::ks).Nodup) (λc _=>∃ v,out=.pan c v)) (σB T fs us.toList)) :
  Calls P f (#[u]++us) w λe w' => gM w u fp T e w' out:=by
 subst hrs;have hsat:=Bs (nt:=nt) (m:=fn.ntmps-(us.size+1)) us hlen ho hlt hnt;have hsz:(#[u]++us).size=us.size+1:=by simp;omega
 refine (jX hf hb (by rw[hsz];exact hsat) h).mono λe w' he=>?_
 cases e with
 | returned v' =>
  obtain⟨W',bs',E,F,x,h',hx,⟨v,fs',rfl,hd,vs,ks,h0,hv,hn⟩,rfl,hs,hp⟩:=he;have hs' := hs.back hx;have hE:E 0=u:=hp (0,u) sI;have ho' := fZ hs' h0 hv hn;rw[hE]at ho';refine⟨by rw[hd E],⟨_,ho',λb hb=>?_,λb hb=>?_⟩,hs'.keeps⟩
  ·obtain⟨j,hj,hbj⟩:=List.mem_flatMap.1 hb;have:∃ e,h' j=some e:=by
    rcases List.mem_cons.1 hj with rfl|hj
    ·exact⟨_,h0⟩
    ·exact (b7 hs' hv).2 j hj
   obtain⟨e,he⟩:=this;exact (hs'.mine j e he b hbj).symm
  ·obtain⟨j,hj,hbj⟩:=List.mem_flatMap.1 hb;have:∃ e,h' j=some e:=by
    rcases List.mem_cons.1 hj with rfl|hj
    ·exact⟨_,h0⟩
    ·exact (b7 hs' hv).2 j hj
   obtain⟨e,he⟩:=this;exact hs'.lt j e he b hbj
 |panicked c=>
  obtain⟨W',bs',E,F,h',hx,⟨_,rfl⟩,hs,hp⟩:=he;exact⟨rfl,(hs.back hx).keeps⟩
 |outgrown=>exact he.elim
end
section
def ev7:=(aa @Uo (aa @LV (aa @HY (aa @BY (aa @DY (aa @I7 (aa @HI (aa @gE (aa @fY (aa @TJ (aa @S8 (aa @TG (aa @Mk (aa @Mn (aa @Ma (aa @RM @Ks))))))))))))))))
theorem akL:IntKind.i64.bits=64/\IntKind.u64.bits=64/\IntKind.u8.bits=8/\IntKind.i32.bits=32/\IntKind.u32.bits=32/\IntKind.u16.bits=16:=⟨rfl,rfl,rfl,rfl,rfl,rfl⟩
structure PV (P:Program)(f:FuncId) where
 pre:World->List Nat->List AV->Prop
 res:World->List AV->Value
 ok:∀ (W w:World) (bs:List Nat) (us:List Value) (as_:List AV),ah W bs w->gj w us as_->pre W bs as_->(callFunc f us.toArray).run P w=.ok (.value (res W as_)) w
def PV.spec{P:Program}{f:FuncId}(p:PV P f):Spec P f where
 ev:=λW bs _ h args=>Hg p.pre p.res W bs (aC h args)
 good:=λW bs κ E F h w K args hs hK hk hx hside=>by
  cases hv:aC h args with
  |none=>rw[hv]at hside;exact hside.elim
  |some q=>
   obtain⟨as_,rs⟩:=q;rw[hv]at hside;rw[p.ok W w bs _ as_ hs.keeps (eR hs hv) hside];exact Good.pure hs rfl rfl rfl
 keys:=λW bs κ h K args hK hx hside=>by
  cases hv:aC h args with
  |none=>rw[hv]at hside;exact hside.elim
  |some q=>exact aL.plain (λk hk=>by cases hk) rfl
 loc:=λW bs κ h h' args hside hr=>by
  cases hv:aC h args with
  |none=>rw[hv]at hside;exact hside.elim
  |some q=>
   obtain⟨as_,rs⟩:=q;rw[hv]at hr;rw[dw hv hr]
theorem aw{P:Program}{f:FuncId}(p:PV P f)(W:World)(bs:List Nat)(κ:Nat)(h:Hp)(l:List SV):p.spec.ev W bs κ h l=Hg p.pre p.res W bs (aC h l):=rfl
theorem amo:min 6 8=6/\min 6 64=6/\min 4 8=4/\min 1 64=1/\min 2 64=2/\min 4 64=4/\min 8 64=8/\min 16 64=16/\min 32 64=32:=by decide
section
variable {P:Program}{W:World}{bs:List Nat}{κ:Nat}{h:Hp}{Γ:Env P}
theorem Et(fn:Fn)(first cap:Array Operand)(l:List SV):eO Γ W bs κ h (.makeFunc fn first cap) l=⟨True,.fn fn (l.take first.size) (l.drop first.size),[],none,[],[]⟩:=rfl
theorem BD(x:Operand)(xT T:TypeId)(ok:Bool)(l:List SV):eO Γ W bs κ h (.typeAssert x xT T ok) l=fJ P T ok l:=rfl
theorem agG(as_:Array Operand)(tys:Array TypeId)(l:List SV):eO Γ W bs κ h (.call { callee:=.builtin .min,args:=as_,argTypes:=tys }) l=ss l:=rfl
theorem agF(as_:Array Operand)(tys:Array TypeId)(l:List SV):eO Γ W bs κ h (.call { callee:=.builtin .max,args:=as_,argTypes:=tys }) l=p8 l:=rfl
theorem K5(f:FuncId)(first cap rest:List SV):kN Γ W bs κ h (.fn (.func f) first cap::rest)=nZ Γ W bs κ h f (first++rest++cap):=rfl
theorem XN(f:Fn)(a c:List SV):di (.fn f a c)=true:=rfl
theorem NY(f:Fn)(a c:List SV):partsOf (.fn f a c)=[.fn f a c]:=rfl
theorem L0(f:Fn)(a c:Array Value):di (.v (.func f a c))=true:=rfl
theorem FP(f:Fn)(a c:Array Value):partsOf (.v (.func f a c))=[.v (.func f a c)]:=rfl
theorem Ch:di (.v .nilFunc)=true:=rfl
theorem xX:partsOf (.v .nilFunc)=[.v .nilFunc]:=rfl
def ncK(k o:Nat):Option (List SV)->R
 |some vs=>⟨o<vs.length,.own k o,[],none,[],[k]⟩
 |none=>.bad
theorem uU(k o:Nat):dI h [.own k o]=ncK k o (cx (h k)):=by
 simp only[dI];unfold ncK;rcases cx (h k) with _|vs<;>rfl
theorem Y0(k o:Nat)(vs:List SV):ncK k o (some vs)=⟨o<vs.length,.own k o,[],none,[],[k]⟩:=rfl
def agY(k o n:Nat)(i:Int)(vs:List SV):Option Nat->R
 |some sz=>⟨0<=i/\i<n/\1<n/\o<vs.length,.own k (o+i.toNat*sz),[],none,[],[k]⟩
 |none=>.bad
def ixO(P:Program)(k o:Nat)(i:Int):Option TypeDesc->Option (List SV)->R
 |some (.array n e),some vs=>agY k o n i vs (ts P e)
 |_,_=>.bad
theorem uY(T:TypeId)(k o:Nat)(ik:IntKind)(i:Int):bA P h T [.own k o,.v (.int ik i)]=ixO P k o i (P.underlying T) (cx (h k)):=by
 simp only[bA];unfold ixO;rcases P.underlying T with _|d
 ·rfl
 ·rcases cx (h k) with _|vs
  ·cases d<;>rfl
  ·cases d<;>first|rfl|(rename_i n e;simp only[agY];rcases ts P e with _|sz<;>rfl)
theorem abB(k o:Nat)(i:Int)(n:Nat)(e:TypeId)(vs:List SV):ixO P k o i (some (.array n e)) (some vs)=agY k o n i vs (ts P e):=rfl
theorem Sw(k o n:Nat)(i:Int)(vs:List SV)(sz:Nat):agY k o n i vs (some sz)=⟨0<=i/\i<n/\1<n/\o<vs.length,.own k (o+i.toNat*sz),[],none,[],[k]⟩:=rfl
def inB(n:Nat)(i:Int)(l:List SV):Option Nat->Option Bool->R
 |some sz,some true=>⟨0<=i/\i<n/\i.toNat*sz+sz<=l.length,.agg ((l.drop (i.toNat*sz)).take sz),[],none,[],[]⟩
 |some sz,some false=>⟨0<=i/\i<n/\i.toNat*sz<l.length,l.getD (i.toNat*sz) (.v undef),[],none,[],[]⟩
 |_,_=>.bad
def inA(P:Program)(i:Int)(l:List SV):Option TypeDesc->R
 |some (.array n e)=>inB n i l (ts P e) (ta P e)
 |_=>.bad
theorem Ep(T:TypeId)(l:List SV)(ik:IntKind)(i:Int):gk P T [.agg l,.v (.int ik i)]=inA P i l (P.underlying T):=by
 simp only[gk];unfold inA;rcases P.underlying T with _|d
 ·rfl
 ·cases d<;>first|rfl|(rename_i n e;simp only[inB];rcases ts P e with _|sz<;>rcases ta P e with _|b<;>first|rfl|(cases b<;>simp[fN,R.iw]))
theorem Co(T:TypeId)(cs:Array Value)(ik:IntKind)(i:Int):gk P T [.v (.agg cs),.v (.int ik i)]=inA P i (cs.toList.map .v) (P.underlying T):=by
 simp only[gk];unfold inA;rcases P.underlying T with _|d
 ·rfl
 ·cases d<;>first|rfl|(rename_i n e;simp only[inB];rcases ts P e with _|sz<;>rcases ta P e with _|b<;>first|rfl|(cases b<;>simp[fN,R.iw]))
theorem abx(i:Int)(l:List SV)(n:Nat)(e:TypeId):inA P i l (some (.array n e))=inB n i l (ts P e) (ta P e):=rfl
theorem ac9(n:Nat)(i:Int)(l:List SV)(sz:Nat):inB n i l (some sz) (some true)=⟨0<=i/\i<n/\i.toNat*sz+sz<=l.length,.agg ((l.drop (i.toNat*sz)).take sz),[],none,[],[]⟩:=rfl
theorem adW(n:Nat)(i:Int)(l:List SV)(sz:Nat):inB n i l (some sz) (some false)=⟨0<=i/\i<n/\i.toNat*sz<l.length,l.getD (i.toNat*sz) (.v undef),[],none,[],[]⟩:=rfl
def cvI(n:Int):Option TypeDesc->Option TypeDesc->R
 |some _,some (.int k)=>⟨True,.v (.int k (k.wrap n)),[],none,[],[]⟩
 |_,_=>.bad
theorem zn(src dst:TypeId)(k:IntKind)(n:Int):e9 P src dst [.v (.int k n)]=cvI n (P.underlying src) (P.underlying dst):=by
 simp only[e9];unfold cvI;rcases P.underlying src with _|d<;>rcases P.underlying dst with _|d' <;> first|rfl|(cases d' <;> rfl)
theorem abq(n:Int)(d:TypeDesc)(k:IntKind):cvI n (some d) (some (.int k))=⟨True,.v (.int k (k.wrap n)),[],none,[],[]⟩:=rfl
theorem KU(t:TypeId)(x:Value):lI [.v (.iface t x)]=⟨True,.v undef,[],some [{ v:=.iface t x,recovered:=false }],[],[]⟩:=rfl
def miK(P:Program)(T:TypeId)(l:List SV):Option (List Value)->R
 |some vs=>⟨P.concrete T=true,.v (.iface T (.agg vs.toArray)),[],none,[],[]⟩
 |none=>⟨P.concrete T=true,.ifc T (.agg l),[],none,[],[]⟩
theorem ND(T:TypeId)(l:List SV):nU P T [.agg l]=miK P T l (dv l):=by
 simp only[nU,lR];unfold miK;rcases dv l with _|vs<;>rfl
theorem Yk(T:TypeId)(l:List SV)(vs:List Value):miK P T l (some vs)=⟨P.concrete T=true,.v (.iface T (.agg vs.toArray)),[],none,[],[]⟩:=rfl
def aK(T t:TypeId)(x:SV)(ok:Bool):Option Bool->Option Value->R
 |some false,some z=>match ok with
  |true=>⟨True,if t=T then .tup [x,.v (.bool true)] else .tup [.v z,.v (.bool false)],[],none,[],[]⟩
  |false=>⟨t=T,x,[],none,[],[]⟩
 |_,_=>.bad
theorem Ju(T t:TypeId)(x:Value)(ok:Bool):fJ P T ok [.v (.iface t x)]=aK T t (.v x) ok (isIface P T) (Eb P T):=by
 simp only[fJ];unfold aK;rcases isIface P T with _|b
 ·rfl
 ·cases b<;>rcases Eb P T with _|z<;>first|rfl|(cases ok<;>rfl)
theorem XM(T t:TypeId)(x:SV)(z:Value):aK T t x false (some false) (some z)=⟨t=T,x,[],none,[],[]⟩:=rfl
theorem ab4(T t:TypeId)(x:SV)(z:Value):aK T t x true (some false) (some z)=⟨True,if t=T then .tup [x,.v (.bool true)] else .tup [.v z,.v (.bool false)],[],none,[],[]⟩:=rfl
def nK(ok:Bool):Option Bool->Option Value->R
 |some false,some z=>match ok with
  |true=>⟨True,.tup [.v z,.v (.bool false)],[],none,[],[]⟩
  |false=>.bad
 |_,_=>.bad
theorem Cn(T:TypeId)(ok:Bool):fJ P T ok [.v .nilIface]=nK ok (isIface P T) (Eb P T):=by
 simp only[fJ];unfold nK;rcases isIface P T with _|b
 ·rfl
 ·cases b<;>rcases Eb P T with _|z<;>first|rfl|(cases ok<;>rfl)
theorem agx(z:Value):nK true (some false) (some z)=⟨True,.tup [.v z,.v (.bool false)],[],none,[],[]⟩:=rfl
def LM:Option TypeDesc->Bool
 |some (.array _ _)=>true
 |_=>false
theorem K1(n:Nat)(e:TypeId):LM (some (.array n e))=true:=rfl
def Ft(idx:List Nat)(args:List SV)(zs:List Value):Option Nat->R
 |some sz=>MN (tJ sz (zs.map .v) (idx.zip args))
 |none=>.bad
def L7(P:Program)(idx:List Nat)(args:List SV):Option (List Value)->Option TypeDesc->R
 |some zs,some (.array _ e)=>Ft idx args zs (ts P e)
 |_,_=>.bad
theorem Ge(T:TypeId)(idx:List Nat)(args:List SV)(ha:LM (P.underlying T)=true):dO P T idx args=L7 P idx args (tz P T) (P.underlying T):=by
 unfold LM at ha;split at ha
 ·rename_i n e hu;unfold dO L7;rw[hu];cases tz P T with
  |none=>rfl
  |some zs=>
   simp only[Ft,tJ,MN];cases rL P T<;>cases ts P e with
   |none=>rfl
   |some sz=>cases dH (λi=>some (i*sz,sz)) (zs.map .v) (idx.zip args)<;>rfl
 ·cases ha
theorem L8(idx:List Nat)(args:List SV)(zs:List Value)(n:Nat)(e:TypeId):L7 P idx args (some zs) (some (.array n e))=Ft idx args zs (ts P e):=rfl
theorem I0(idx:List Nat)(args:List SV)(zs:List Value)(sz:Nat):Ft idx args zs (some sz)=MN (tJ sz (zs.map .v) (idx.zip args)):=rfl
theorem NW(a b:Int):ss [.v (.int .i64 a),.v (.int .i64 b)]=⟨True,.v (.int .i64 (if b<a then b else a)),[],none,[],[]⟩:=rfl
theorem Mc(a b:Int):p8 [.v (.int .i64 a),.v (.int .i64 b)]=⟨True,.v (.int .i64 (if a<b then b else a)),[],none,[],[]⟩:=rfl
theorem Ev(a b c:Int):p8 [.v (.int .i64 a),.v (.int .i64 b),.v (.int .i64 c)]=⟨True,.v (.int .i64 (if (if a<b then b else a)<c then c else (if a<b then b else a))),[],none,[],[]⟩:=rfl
end
open Classical in
noncomputable def dec{α:Type}(f:α->Value)(v:Value):Option α:=if h:∃ a,v=f a then some h.choose else none
theorem gY{α:Type}{f:α->Value}{v:Value}{a:α}(h:dec f v=some a):v=f a:=by
 unfold dec at h;split at h
 ·rename_i h1;simp only[Option.some.injEq]at h;rw[<- h];exact h1.choose_spec
 ·cases h
theorem cN{α:Type}{f:α->Value}(hf:∀ a b,f a=f b->a=b)(a:α):dec f (f a)=some a:=by
 unfold dec;have h1:∃ b,f a=f b:=⟨a,rfl⟩;rw[dif_pos h1];exact congrArg some (hf _ _ h1.choose_spec).symm
section
variable {P:Program}(eqs:(T:TypeId)->Option (EqSpec P T))(h:Hp)(op:BinOp)(T:TypeId)(X Y:Operand)
theorem RV(p:Prop)(b:Bool)(rd:List Nat):dS .eql p b rd=⟨p,.v (.bool b),[],none,[],rd⟩:=rfl
theorem Q3(p:Prop)(b:Bool)(rd:List Nat):dS .neq p b rd=⟨p,.v (.bool (!b)),[],none,[],rd⟩:=rfl
theorem HZ(k k' : IntKind)(a b:Int):bE P eqs h op T X Y [.v (.int k a),.v (.int k' b)]=aW P eqs op T [.v (.int k a),.v (.int k' b)]:=rfl
theorem Kb(a b:ByteArray):bE P eqs h op T X Y [.v (.string a),.v (.string b)]=aW P eqs op T [.v (.string a),.v (.string b)]:=rfl
theorem E8(a b:Bool):bE P eqs h op T X Y [.v (.bool a),.v (.bool b)]=aW P eqs op T [.v (.bool a),.v (.bool b)]:=rfl
theorem KK(a b:List SV):bE P eqs h op T X Y [.agg a,.agg b]=aW P eqs op T [.agg a,.agg b]:=rfl
theorem Nr(a:List SV)(b:Array Value):bE P eqs h op T X Y [.agg a,.v (.agg b)]=aW P eqs op T [.agg a,.v (.agg b)]:=rfl
theorem NI(a:Array Value)(b:List SV):bE P eqs h op T X Y [.v (.agg a),.agg b]=aW P eqs op T [.v (.agg a),.agg b]:=rfl
theorem Kx(a b:Array Value):bE P eqs h op T X Y [.v (.agg a),.v (.agg b)]=aW P eqs op T [.v (.agg a),.v (.agg b)]:=rfl
theorem Kz:bE P eqs h op T X Y [.v .nilIface,.v .nilIface]=dS op (isIface P T=some true/\(kf X||kf Y)=true) true []:=rfl
theorem Lr(t:TypeId)(x:Value):bE P eqs h op T X Y [.v .nilIface,.v (.iface t x)]=dS op (isIface P T=some true) false []:=rfl
theorem KF(t:TypeId)(x:Value):bE P eqs h op T X Y [.v (.iface t x),.v .nilIface]=dS op (isIface P T=some true) false []:=rfl
theorem MW(t:TypeId)(x:SV):bE P eqs h op T X Y [.v .nilIface,.ifc t x]=dS op (isIface P T=some true) false []:=rfl
theorem L1(t:TypeId)(x:SV):bE P eqs h op T X Y [.ifc t x,.v .nilIface]=dS op (isIface P T=some true) false []:=rfl
theorem Md:bE P eqs h op T X Y [.v (.pointer none),.v (.pointer none)]=dS op (jq P T=some true) true []:=rfl
theorem LU(a:Addr):bE P eqs h op T X Y [.v (.pointer none),.v (.pointer (some a))]=dS op (jq P T=some true) false []:=rfl
theorem Mv(a:Addr):bE P eqs h op T X Y [.v (.pointer (some a)),.v (.pointer none)]=dS op (jq P T=some true) false []:=rfl
def IN(P:Program)(op:BinOp)(T:TypeId)(k o:Nat):Option (List SV)->R
 |some vs=>dS op (jq P T=some true/\o<vs.length) false [k]
 |none=>.bad
theorem Ko(k o:Nat)(vs:List SV):IN P op T k o (some vs)=dS op (jq P T=some true/\o<vs.length) false [k]:=rfl
theorem LQ(k o:Nat):bE P eqs h op T X Y [.own k o,.v (.pointer none)]=IN P op T k o (cx (h k)):=by
 simp only[bE];unfold IN;cases cx (h k)<;>rfl
theorem Nw(k o:Nat):bE P eqs h op T X Y [.v (.pointer none),.own k o]=IN P op T k o (cx (h k)):=by
 simp only[bE];unfold IN;cases cx (h k)<;>rfl
theorem Aq(v:Value):kf (.const v)=true:=rfl
theorem Fq(t:Nat):kf (.tmp t)=false:=rfl
end
section
variable {P:Program}(h:Hp)(src dst:TypeId)
theorem FC(k:IntKind)(n:Int):hH P h src dst [.v (.int k n)]=e9 P src dst [.v (.int k n)]:=rfl
theorem EW(s:ByteArray):hH P h src dst [.v (.string s)]=e9 P src dst [.v (.string s)]:=rfl
theorem GH(k:Nat):hH P h src dst [.hd k]=cvH P src dst k (h k):=rfl
theorem agL(k T n:Nat)(vs:List SV):cvH P src dst k (some (.row T 1 n vs))=cvB P k n (P.underlying src) (P.underlying dst) (lT vs):=rfl
theorem VF(k n e:Nat)(ns:List Int):cvB P k n (some (.slice e)) (some .string) (some ns)=⟨P.underlying e=some (.int .u8)/\ns.length=n,.v (.string (bJ ns)),[],none,[],[k]⟩:=rfl
theorem Mt:lT []=some []:=rfl
theorem vT(n:Int)(r:List SV):lT (.v (.int .u8 n)::r)=(lT r).map (n::·):=rfl
theorem pM:∀ ns:List Int,lT (ns.map λn=>SV.v (.int .u8 n))=some ns
 |[]=>rfl
 |n::r=>by rw[List.map_cons,vT,pM r];rfl
end
end
section
def ev8:=(aa @aw (aa @Et (aa @BD (aa @agG (aa @agF (aa @K5 (aa @XN (aa @NY (aa @L0 (aa @FP (aa @Ch (aa @xX (aa @uU (aa @Y0 (aa @uY (aa @abB (aa @Sw (aa @Ep (aa @Co (aa @abx (aa @ac9 (aa @adW (aa @zn (aa @abq (aa @KU (aa @ND (aa @Yk (aa @Ju (aa @XM (aa @ab4 (aa @Cn (aa @agx (aa @K1 (aa @Ge (aa @L8 (aa @I0 (aa @NW (aa @Mc @Ev))))))))))))))))))))))))))))))))))))))
def ev9:=aa @UN <| aa @Na <| aa @K2 <| aa @aa9 <| (aa @RV (aa @Q3 (aa @HZ (aa @Kb (aa @E8 (aa @KK (aa @Nr (aa @NI (aa @Kx (aa @Kz (aa @Lr (aa @KF (aa @MW (aa @L1 (aa @Md (aa @LU (aa @Mv (aa @Ko (aa @LQ (aa @Nw (aa @Aq (aa @Fq (aa @FC (aa @EW (aa @GH (aa @agL (aa @VF (aa @Mt (aa @vT @pM)))))))))))))))))))))))))))))
end
section
open Go.RowKit
section
variable {P:Program}{fn:Func}
theorem Leaves.mono{tmps:Array Value}{R R' : Ending->World->Prop}(hr:∀ e w,R e w->R' e w):∀ (ds:List Deferred) (u:FrameMode) (w:World),Leaves P fn tmps R ds u w->Leaves P fn tmps R' ds u w
 |[],.run,_,h=>h.elim
 |[],.returning,_,h=>by obtain⟨v,h1,h2⟩:=h;exact⟨v,h1,hr _ _ h2⟩
 |[],.panicking c,_,h=>hr _ _ h
 |d::ds,u,w,h=>by
  obtain⟨h0,fv,cap,f,args,h1,h2,h3⟩:=h;refine⟨h0,fv,cap,f,args,h1,h2,h3.mono λe u' w' he=>?_⟩;cases e with
  |returned v=>exact Leaves.mono hr ds _ _ he
  |panicked c=>exact Leaves.mono hr ds _ _ he
  |outgrown=>exact hr _ _ he
theorem zf{R R' : Ending->World->Prop}(hr:∀ e w,R e w->R' e w)(e:Exit)(a:Act)(w:World)(h:bodyPostD P fn R e a w):bodyPostD P fn R' e a w:=by
 cases e with
 |normal=>exact Leaves.mono hr _ _ _ h
 |ret=>exact Leaves.mono hr _ _ _ h
 |panic c=>exact Leaves.mono hr _ _ _ h
 |outgrown=>exact hr _ _ h
 |exit i=>exact h.elim
 |goto l=>exact h.elim
theorem Ends.back{W W' : World}{bs bs' : List Nat}{pins:List (Nat×Value)}{Rr:World->List Nat->SV->Hp->Prop}{Rp:List PanicEntry->Hp->Prop}{e:Ending}{w:World}(he:Ext W bs W' bs')(h:Ends W' bs' pins Rr Rp e w):Ends W bs pins Rr Rp e w:=by
 cases e with
 |returned v=>obtain⟨W'',bs'',E,F,x,h',hx,r⟩:=h;exact⟨W'',bs'',E,F,x,h',he.trans hx,r⟩
 |panicked c=>obtain⟨W'',bs'',E,F,h',hx,r⟩:=h;exact⟨W'',bs'',E,F,h',he.trans hx,r⟩
 |outgrown=>exact h.elim
def ma(P:Program)(fn:Func)(nt:Nat)(pins:List (Nat×Value))(Rr:World->List Nat->SV->Hp->Prop)(Rp:List PanicEntry->Hp->Prop)(W:World)(bs:List Nat)(c:Code)(σ:St):Prop:=
 ∀ a w,Sat W bs nt ⟨[],pins⟩ σ a w->c.wp P (bodyPostD P fn (Ends W bs pins Rr Rp)) a w
variable {nt:Nat}{pins:List (Nat×Value)}{Rr:World->List Nat->SV->Hp->Prop}{Rp:List PanicEntry->Hp->Prop}{W:World}{bs:List Nat}{σ:St}
theorem Ry{f:FuncId}{c:Code}{args:Array Value}{w:World}(hf:P.funcs[f]?=some fn)(hb:fn.body=some c)
  (hsat:Sat W bs nt ⟨[],pins⟩ σ { tmps:=args++Array.replicate (fn.ntmps-args.size) undef,defers:=[] } w)
  (h:ma P fn nt pins Rr Rp W bs c σ):Calls P f args w (Ends W bs pins Rr Rp):=calls_of_wp_defers hf hb (h _ w hsat)
theorem ph{W' : World}{bs' : List Nat}{σ' : St}{a:Act}{w:World}{ds:List Deferred}(hs:Sat W' bs' nt ⟨ds,pins⟩ σ' a w)(hx:Ext W bs W' bs')(hq:(jA P W' bs' σ' fn.results.toList).1/\Rr W' bs' (lH (jA P W' bs' σ' fn.results.toList).2) σ'.h) :
  ∃ v,(results fn a.tmps).run P w=.ok v w/\Ends W bs pins Rr Rp (.returned v) w:=by
 obtain⟨E,F,hφ,hh,hp⟩:=hs.ex;exact⟨_,jW hφ hh hq.1,W',bs',E,F,_,_,hx,hq.2,rfl,hh,hp⟩
theorem ma.seq{x y:Code}(h:Wp P W bs nt ⟨[],pins⟩ x (Th (λW' bs' σ' => ma P fn nt pins Rr Rp W' bs' y σ') (Fin P fn.results.toList Rr Rp)) σ):ma P fn nt pins Rr Rp W bs (.seq x y) σ:=λa w hs=>
 wp_seq (wp_mono (h a w hs) λe a' w' ⟨W',bs',σ',he,hq,hs'⟩=>by
  cases e with
  |normal=>exact wp_mono (hq a' w' hs') λe a w h=>zf (λe w=>Ends.back he) e a w h
  |ret=>
   have hd:=hs'.defers
   show Leaves P fn a'.tmps _ a'.defers .returning w'
   rw[hd]
   exact ph hs' he hq
  |panic c=>
   have hd:=hs'.defers
   show Leaves P fn a'.tmps _ a'.defers (.panicking c) w'
   rw[hd]
   obtain⟨E,F,hφ,hh,hp⟩:=hs'.ex
   exact⟨W',bs',E,F,_,he,hq,hh,hp⟩
  |exit i=>exact hq.elim
  |goto l=>exact hq.elim
  |outgrown=>exact hq.elim)
theorem ma.wp{c:Code}(h:Wp P W bs nt ⟨[],pins⟩ c (Fin P fn.results.toList Rr Rp) σ):ma P fn nt pins Rr Rp W bs c σ:=λa w hs=>
 wp_mono (h a w hs) λe a' w' ⟨W',bs',σ',he,hq,hs'⟩=>by
  have hd:=hs'.defers;cases e with
  |normal=>show Leaves P fn a'.tmps _ a'.defers .returning w';rw[hd];exact ph hs' he hq
  |ret=>show Leaves P fn a'.tmps _ a'.defers .returning w';rw[hd];exact ph hs' he hq
  |panic c=>
   show Leaves P fn a'.tmps _ a'.defers (.panicking c) w';rw[hd];obtain⟨E,F,hφ,hh,hp⟩:=hs'.ex;exact⟨W',bs',E,F,_,he,hq,hh,hp⟩
  |exit i=>exact hq.elim
  |goto l=>exact hq.elim
  |outgrown=>exact hq.elim
def kK(w:World):List Value->List Nat->List TypeId->List (List Value)->Prop
 |[],[],[],[]=>True
 |u::us,b::bl,T::Ts,vs::vss=>u=.pointer (some ⟨b,0,none⟩)/\w.heap[b]?=some (.cells vs.toArray T (0,0))/\kK w us bl Ts vss
 |_,_,_,_=>False
def EI(P:Program):List TypeId->List (List Value)->List Value->Prop
 |[],[],[]=>True
 |T::Ts,cs::css,v::vs=>((ts P T=some cs.length/\ta P T=some true/\v=.agg cs.toArray)\/(ta P T=some false/\cs=[v]))/\EI P Ts css vs
 |_,_,_=>False
def Rt:List Value->Value
 |[v]=>v
 |l=>.tuple l.toArray
structure CatchC (P:Program)(f:FuncId) where
 Ts:List TypeId
 enters:∀ args w,(callFunc f args).run P w=.ok (.enter f args) w
 pre:List (List Value)->Value->Prop
 out:List (List Value)->Value->List (List Value)
 bw:List (List Value)->Value->List Value
 vals_ok:∀ vss pv,pre vss pv->EI P Ts (out vss pv) (bw vss pv)
 quiet:∀ (w:World) (us:List Value),us.length=Ts.length->CallsD P f us.toArray .returning w λe u' w' => (∃ v,e=.returned v)/\u' = .returning/\ah w [] w'
 caught:∀ (w:World) (us:List Value) (bl:List Nat) (vss:List (List Value)) (pv:Value),kK w us bl Ts vss->bl.Nodup->(∀ b∈bl,b<w.heap.size)->pre vss pv ->
  CallsD P f us.toArray (.panicking [{ v:=pv,recovered:=false }]) w λe u' w' => (∃ v,e=.returned v)/\u' = .panicking [{ v:=pv,recovered:=true }]/\ah w bl w' /\ kK w' us bl Ts (out vss pv)
def uB:List Nat->List TypeId->List ResultVar
 |t::tl,T::Ts=>.cell t T::uB tl Ts
 |_,_=>[]
theorem kK.run{tmps:Array Value}{w:World}:∀ {tl:List Nat} {us:List Value} {bl:List Nat} {Ts:List TypeId} {css:List (List Value)} {vs:List Value},kK w us bl Ts css->EI P Ts css vs->tl.map (λt=>tmps.getD t undef)=us ->
  ((uB tl Ts).mapM (mA { tmps:=tmps,defers:=[] })).run P w=.ok vs w
 |[],us,bl,Ts,css,vs,h1,h2,h3=>by
  subst h3
  match bl,Ts,css,vs,h1,h2 with
  |[],[],[],[],_,_=>rfl
 | t::tl,us,bl,Ts,css,vs,h1,h2,h3=>by
  subst h3
  match bl,Ts,css,vs,h1,h2 with
  | b::bl,T::Ts,cs::css,v::vs,h1,h2=>
   obtain⟨e1,e2,e3⟩:=h1;obtain⟨f1,f2⟩:=h2
   replace e1:tmps.getD t undef=_:=e1
   have ih:=kK.run (tmps:=tmps) (tl:=tl) e3 f2 rfl;have one:(mA { tmps:=tmps,defers:=[] } (.cell t T)).run P w=.ok v w:=by
    simp only[mA];rw[e1];have hc:∀ j x,cs[j]?=some x->w.cell? ⟨b,0+j,none⟩=some x:=λj x hx=>by
     simp[World.cell?,e2,hx]
    rcases f1 with ⟨g1,g2,rfl⟩|⟨g2,rfl⟩
    ·have:=ij (P:=P) (w:=w) g1 g2 ⟨b,0,none⟩ cs rfl (λj x hx=>by rw[Addr.add_lit];exact hc j x hx);simpa [asAddr] using this
    ·have:=im (P:=P) (w:=w) g2 ⟨b,0,none⟩ v (by simpa using hc 0 v rfl);simpa [asAddr] using this
   simp only[uB,List.mapM_cons];simp[one,ih]
theorem Fe{tmps:Array Value}{w:World}{tl:List Nat}{us:List Value}{bl:List Nat}{Ts:List TypeId}{css:List (List Value)}{vs:List Value}(h1:kK w us bl Ts css)(h2:EI P Ts css vs)(h3:tl.map (λt=>tmps.getD t undef)=us)
  (hr:fn.results.toList=uB tl Ts):(results fn tmps).run P w=.ok (Rt vs) w:=by
 have h4:=kK.run (P:=P) (tmps:=tmps) h1 h2 h3;have h2:results fn tmps=((Functor.map List.toArray (fn.results.toList.mapM (mA { tmps:=tmps,defers:=[] }))) >>= λ(vs:Array Value)=>(pure (if h:vs.size=1 then vs[0] else .tuple vs):Sem Value)):=by
  rw[<- Array.mapM_eq_mapM_toList];unfold results
  congr 1
 rw[h2,hr];simp only[map_eq_pure_bind,bind_assoc,pure_bind];simp[h4]
 match vs with
 |[]=>simp[Rt]
 |[x]=>simp[Rt]
 |x::y::r=>simp[Rt]
def Qe(σ:St):List Nat->List Nat->List TypeId->List (List Value)->Prop
 |[],[],[],[]=>True
 |t::tl,k::ks,T::Ts,vs::vss=>σ.φ t=.is (.own k 0)/\σ.h k=some (.cells T (vs.map .v))/\Qe σ tl ks Ts vss
 |_,_,_,_=>False
def ael{f:FuncId}(C:CatchC P f)(rs:List ResultVar)(tl ks:List Nat)(Rr:World->List Nat->SV->Hp->Prop)(Rp:List PanicEntry->Hp->Prop):me
 |.normal,W,bs,σ|.ret,W,bs,σ=>(jA P W bs σ rs).1/\Rr W bs (lH (jA P W bs σ rs).2) σ.h
 |.panic c,W,bs,σ=>∃ pv vss,c=[{ v:=pv,recovered:=false }]/\Qe σ tl ks C.Ts vss/\C.pre vss pv/\Rr W bs (.v (Rt (C.bw vss pv))) (dropKeys σ.h ks)
 |_,_,_,_=>False
def Pp(f:FuncId)(us:List Value):Deferred:=⟨.fn (.func f) us.toArray,#[]⟩
theorem iT.tmp{E:Nat->Value}{φ:Fr}{a:Act}{t:Nat}{x:SV}(h:iT E φ a)(ht:φ t=.is x):a.tmps.getD t undef=den E x:=by
 have:=h t;rw[ht]at this;exact this
theorem yH{σ:St}{E:Nat->Value}{F:Nat->List Nat}{a:Act}{w:World}(hφ:iT E σ.φ a)(hh:ai W bs E F σ.h w):∀ {tl ks:List Nat} {Ts:List TypeId} {vss:List (List Value)},Qe σ tl ks Ts vss->ks.Nodup ->
  kK w (ks.map E) (ks.flatMap F) Ts vss/\tl.map (λt=>a.tmps.getD t undef)=ks.map E/\(ks.flatMap F).Nodup/\(∀ b∈ks.flatMap F,b<w.heap.size)/\(∀ k∈ks,∃ e,σ.h k=some e)
 |[],[],[],[],_,_=>⟨trivial,rfl,List.nodup_nil,sI,sI⟩
 | t::tl,k::ks,T::Ts,vs::vss,h,hn=>by
  obtain⟨h1,h2,h3⟩:=h;obtain⟨hk,hn⟩:=List.nodup_cons.1 hn;obtain⟨i1,i2,i3,i4,i5⟩:=yH hφ hh h3 hn;obtain⟨b,hu,hF,hb⟩:=hh.ent k _ h2;have hd:au E (vs.map .v)=vs:=by
   rw[bn,List.map_map];exact (List.map_congr_left (λ_ _=>rfl)).trans (List.map_id vs)
  rw[hd]at hb;have e1:a.tmps.getD t undef=E k:=by
   rw[hφ.tmp h1,den,hu];rfl
  refine⟨?_,?_,?_,?_,?_⟩
  ·rw[List.map_cons,List.flatMap_cons,hF];exact⟨hu,hb,i1⟩
  ·rw[List.map_cons,List.map_cons,e1,i2]
  ·rw[List.flatMap_cons,hF];refine List.nodup_cons.2 ⟨λhm=>?_,i3⟩;obtain⟨j,hj,hbj⟩:=List.mem_flatMap.1 hm;obtain⟨e,he⟩:=i5 j hj;exact hh.apart k j _ e (λe' => hk (e' ▸ hj)) h2 he b (by rw[hF];simp) hbj
  ·intro c hc;rw[List.flatMap_cons]at hc;rcases List.mem_append.1 hc with hc|hc
   ·exact hh.lt k _ h2 c hc
   ·exact i4 c hc
  ·intro j hj;rcases List.mem_cons.1 hj with rfl|hj
   ·exact⟨_,h2⟩
   ·exact i5 j hj
theorem ah.nil{W w w' : World}{bs:List Nat}(h:ah W bs w)(h' : ah w [] w'):ah W bs w' := h.trans h' λb hb=>by cases hb
theorem kK.keeps{w w' : World}(h:ah w [] w'):∀ {us:List Value} {bl:List Nat} {Ts:List TypeId} {vss:List (List Value)},kK w us bl Ts vss->(∀ b∈bl,b<w.heap.size)->kK w' us bl Ts vss
 |[],[],[],[],_,_=>trivial
 |u::us,b::bl,T::Ts,vs::vss,hl,hlt=>⟨hl.1,by rw[h.block b (hlt b sI) sI];exact hl.2.1,kK.keeps h hl.2.2 λc hc=>hlt c (by simp[hc])⟩
theorem ma.defer{f:FuncId}(C:CatchC P f)(tl ks:List Nat){id d:Nat}{y:Code}{T1 T2:TypeId}{p1 p2:String}{a1 a2:Array Edge}
  (hks:ks.Nodup) (hrs:fn.results.toList=uB tl C.Ts) (hd:d<nt) (hlen:tl.length=C.Ts.length) (hlen2:ks.length=C.Ts.length)
  (hcap:∀ p∈tl.zip ks,σ.φ p.1=.is (.own p.2 0)) (hcel:∀ k∈ks,∃ T vs,σ.h k=some (.cells T vs))
  (h:∀ us:List Value,us.length=C.Ts.length->Wp P W bs nt ⟨[Pp f us],ks.zip us++pins⟩ y (ael C fn.results.toList tl ks Rr Rp) ⟨σ.n+2,bu σ.φ d .any,σ.h⟩) :
  ma P fn nt pins Rr Rp W bs (.seq (.region id #[{ dst:=some d,op:=.makeFunc (.func f) #[] (tl.map Operand.tmp).toArray,type:=T1,pos:=p1,after:=a1,guard:=none },{ dst:=none,op:=.defer { callee:=.value (.tmp d),args:=#[],argTypes:=#[] },type:=T2,pos:=p2,after:=a2,guard:=none }] false) y) σ:=λa w hs=>by
 obtain⟨E,F,hφ,hh,hp⟩:=hs.ex;have hbl:∀ k∈ks,∃ b,E k=.pointer (some ⟨b,0,none⟩):=λk hk=>by
  obtain⟨T,vs,he⟩:=hcel k hk;obtain⟨b,hu,_⟩:=hh.ent k _ he;exact⟨b,hu⟩
 have htv:∀ (tl ks:List Nat),tl.length=ks.length->(∀ p∈tl.zip ks,σ.φ p.1=.is (.own p.2 0))->(∀ k∈ks,∃ b,E k=.pointer (some ⟨b,0,none⟩))->tl.map (λt=>a.tmps.getD t undef)=ks.map E:=by
  intro tl
  induction tl with
  |nil=>intro ks hl _ _;cases ks with
   |nil=>rfl
   |cons _ _=>cases hl
  | cons t tl ih=>
   intro ks hl hc hb;cases ks with
   |nil=>cases hl
   |cons k ks=>
    have e1:=hφ.tmp (hc (t,k) sI);obtain⟨b,he⟩:=hb k sI;rw[List.map_cons,List.map_cons,e1,den,he,ih ks (by simpa using hl) (λp hp=>hc p (by simp[hp])) λj hj=>hb j (by simp[hj])];rfl
 have hmem:∀ (tl ks:List Nat),tl.length=ks.length->∀ k∈ks,∃ t∈tl,(t,k)∈tl.zip ks:=by
  intro tl
  induction tl with
  |nil=>intro ks hl k hk;cases ks with
   |nil=>cases hk
   |cons _ _=>cases hl
  | cons t tl ih=>
   intro ks hl k hk;cases ks with
   |nil=>cases hk
   | cons j ks=>
    rcases List.mem_cons.1 hk with rfl|hk
    ·exact⟨t,sI,sI⟩
    ·obtain⟨t',h1,h2⟩:=ih ks (by simpa using hl) k hk;exact⟨t',by simp[h1],by simp[h2]⟩
 have htu:tl.map (λt=>a.tmps.getD t undef)=ks.map E:=htv tl ks oM hcap hbl;have hs2:Sat W bs nt ⟨[Pp f (ks.map E)],ks.zip (ks.map E)++pins⟩ ⟨σ.n+2,bu σ.φ d .any,σ.h⟩ { tmps:=a.tmps.setIfInBounds d (.func (.func f) #[] (ks.map E).toArray),defers:=[Pp f (ks.map E)] } w:=by
  refine⟨⟨E,F,λt=>?_,hh,λp hp' => ?_⟩,by simp[hs.size],rfl,λp hp' => ?_,λt k hk=>?_,λj e he=>?_⟩
  ·show fits E (bu σ.φ d .any t) ((a.tmps.setIfInBounds d (.func (.func f) #[] (ks.map E).toArray)).getD t undef);by_cases ht:t=d
   ·subst ht;rw[ak];trivial
   ·rw[aq _ _ ht];have:=hφ t
    rwa [show (a.tmps.setIfInBounds d (.func (.func f) #[] (ks.map E).toArray)).getD t undef=a.tmps.getD t undef from by
     rw[Array.getD_eq_getD_getElem?,Array.getD_eq_getD_getElem?,Array.getElem?_setIfInBounds_ne (λe=>ht e.symm)]]
  ·rcases List.mem_append.1 hp' with hp'|hp'
   ·have:∀ (l:List Nat) (p:Nat×Value),p∈l.zip (l.map E)->E p.1=p.2:=by
     intro l
     induction l with
     |nil=>intro p hp;cases hp
     |cons x l ih=>
      intro p hp;rcases List.mem_cons.1 hp with rfl|hp
      ·rfl
      ·exact ih p hp
    exact this ks p hp'
   ·exact hp p hp'
  ·rcases List.mem_append.1 hp' with hp'|hp'
   ·have hk:p.1∈ks:=(List.of_mem_zip hp').1;obtain⟨t,_,ht⟩:=hmem tl ks oM p.1 hk;have:=hs.fk t p.1 (by rw[hcap _ ht];simp[FV.keys,SV.keys]);show p.1 / 8<σ.n+2;omega
   ·have:=hs.pk p hp';show p.1 / 8<σ.n+2;omega
  ·have hk:k∈(bu σ.φ d .any t).keys:=hk;by_cases ht:t=d
   ·subst ht;rw[ak]at hk;simp[FV.keys]at hk
   ·rw[aq _ _ ht]at hk;have:=hs.fk t k hk;show k / 8<σ.n+2;omega
  ·obtain⟨h1,h2⟩:=hs.hk j e he;exact⟨by show j / 8<σ.n+2;omega,λi hi=>by have:=h2 i hi;show i / 8<σ.n+2;omega⟩
 have h2:=h (ks.map E) (by simp[hlen2]) _ w hs2;have hda:d<a.tmps.size:=by rw[hs.size];exact hd
 have hev:(List.map (a.eval ∘ Operand.tmp) tl)=ks.map E:=by rw[<- htu];rfl
 refine wp_seq (wp_region ?_);simp[wpOps,go_sem,Exit.then];left;left;rw[if_pos hda,hev,hs.defers];refine wp_mono h2 λe a' w' ⟨W',bs',σ',he,hq,hs'⟩=>?_
 have hds:=hs'.defers;have hlu:(ks.map E).length=C.Ts.length:=by simp[hlen2]
 have still:∀ {E' : Nat->Value} {F' : Nat->List Nat} {h' : Hp} {w'' : World},ai W' bs' E' F' h' w' -> bW (λ_=>True) h' -> ah w' [] w'' -> ai W' bs' E' F' h' w'' := λ{E' F' h' w''} hh' hK hk=>
  hh'.oH hK [] (λ_=>none) (λk hk=>by cases hk) (λ_ _=>rfl) (λj e he=>by cases he) (λi j e e' _ he=>by cases he) (λ_ _ _ _=>rfl) (λj=>by simp) (by simpa using hk)
 have all:∀ {h' : Hp},bW (· / 8<σ'.n) h' -> bW (λ_=>True) h' := λhK j x hx=>⟨trivial,λ_ _=>trivial⟩
 have plain:∀ hq' : (jA P W' bs' σ' fn.results.toList).1/\Rr W' bs' (lH (jA P W' bs' σ' fn.results.toList).2) σ'.h,Leaves P fn a'.tmps (Ends W bs pins Rr Rp) a'.defers .returning w' := λhq' => by
  rw[hds];refine leaves_cons (f:=f) (args:=(ks.map E).toArray) sI (by simp[go_sem,C.enters]) ?_;refine (C.quiet w' _ hlu).mono λe u' w'' ⟨⟨v,hv⟩,hu,hk⟩=>?_
  subst hv;subst hu;obtain⟨E',F',hφ',hh',hp'⟩:=hs'.ex;have hh'' := still hh' (all hs'.hk) hk;exact⟨_,jW hφ' hh'' hq'.1,W',bs',E',F',_,_,he,hq'.2,rfl,hh'',λp hp=>hp' p (List.mem_append_right _ hp)⟩
 cases e with
 |normal=>exact plain hq
 |ret=>exact plain hq
 |exit i=>exact hq.elim
 |goto l=>exact hq.elim
 |outgrown=>exact hq.elim
 | panic c=>
  obtain⟨pv,vss,rfl,hcap',hpre,hR⟩:=hq;show Leaves P fn a'.tmps (Ends W bs pins Rr Rp) a'.defers (.panicking _) w';rw[hds];refine leaves_cons (f:=f) (args:=(ks.map E).toArray) sI (by simp[go_sem,C.enters]) ?_;obtain⟨E',F',hφ',hh',hp'⟩:=hs'.ex;obtain⟨g1,g2,g3,g4,g5⟩:=yH hφ' hh' hcap' hks
  have hEE:ks.map E' = ks.map E:=by
   refine List.map_congr_left λk hk=>?_
   have:∀ (l:List Nat),k∈l->(k,E k)∈l.zip (l.map E):=by
    intro l
    induction l with
    |nil=>intro h;cases h
    |cons x l ih=>
     intro h;rcases List.mem_cons.1 h with rfl|h
     ·simp
     ·simp[ih h]
   exact hp' (k,E k) (List.mem_append_left _ (this ks hk))
  rw[hEE]at g1 g2;refine (C.caught w' _ _ vss pv g1 g3 g4 hpre).mono λe u' w'' ⟨⟨v,hv⟩,hu,hk,hl⟩=>?_
  subst hv;subst hu;have hrun:=Fe (P:=P) (fn:=fn) hl (C.vals_ok vss pv hpre) g2 hrs;have hh'' : ai W' bs' E' F' (dropKeys σ'.h ks) w'' :=
   hh'.oH (all hs'.hk) ks (λ_=>none) g5 (λ_ _=>rfl) (λj e he=>by cases he) (λi j e e' _ he=>by cases he) (λ_ _ _ _=>rfl) (λj=>by simp[dropKeys]) hk
  exact⟨_,hrun,W',bs',E',F',_,_,he,hR,rfl,hh'',λp hp=>hp' p (List.mem_append_right _ hp)⟩
end
def pF(j:Nat):List TypeId->List (Nat×FV)
 |[]=>[]
 |_::r=>(j,.is (.own j 0))::pF (j+1) r
def zB(j:Nat):List TypeId->List (List Value)->List (Nat×aS)
 |T::Ts,vs::vss=>(j,.cells T (vs.map .v))::zB (j+1) Ts vss
 |_,_=>[]
def ae0(h:Hp):Nat->List TypeId->List (List Value)->Prop
 |_,[],[]=>True
 |j,T::Ts,vs::vss=>h j=some (.cells T (vs.map .v))/\ae0 h (j+1) Ts vss
 |_,_,_=>False
def MU(j:Nat):List Value->List (Nat×Value)
 |[]=>[]
 |u::r=>(j,u)::MU (j+1) r
theorem uy{p:Nat×FV}:∀ {j:Nat} {Ts:List TypeId},p∈pF j Ts->∃ i,i<Ts.length/\p=(j+i,.is (.own (j+i) 0))
 |j,[],h=>by cases h
 | j,T::r,h=>by
  rcases List.mem_cons.1 h with rfl|h
  ·exact⟨0,sI,rfl⟩
  ·obtain⟨i,h1,rfl⟩:=uy h;exact⟨i+1,by simpa using h1,by rw[show j+1+i=j+(i+1) by omega]⟩
theorem vF{p:Nat×aS}:∀ {j:Nat} {Ts:List TypeId} {vss:List (List Value)},p∈zB j Ts vss->∃ i T vs,Ts[i]?=some T/\vss[i]?=some vs/\p=(j+i,.cells T (vs.map .v))
 |j,[],vss,h=>by cases vss<;>cases h
 |j,T::r,[],h=>by cases h
 | j,T::r,vs::vss,h=>by
  rcases List.mem_cons.1 h with rfl|h
  ·exact⟨0,T,vs,rfl,rfl,rfl⟩
  ·obtain⟨i,T',vs',h1,h2,rfl⟩:=vF h;exact⟨i+1,T',vs',by simpa using h1,by simpa using h2,by rw[show j+1+i=j+(i+1) by omega]⟩
theorem Au{p:Nat×Value}:∀ {j:Nat} {us:List Value},p∈MU j us->∃ i,us[i]?=some p.2/\p.1=j+i
 |j,[],h=>by cases h
 | j,u::r,h=>by
  rcases List.mem_cons.1 h with rfl|h
  ·exact⟨0,rfl,rfl⟩
  ·obtain⟨i,h1,h2⟩:=Au h;exact⟨i+1,by simpa using h1,oM⟩
section
variable {P:Program}
theorem kK.at{w:World}:∀ {us:List Value} {bl:List Nat} {Ts:List TypeId} {vss:List (List Value)},kK w us bl Ts vss->∀ {i:Nat} {T:TypeId} {vs:List Value},Ts[i]?=some T->vss[i]?=some vs ->
  ∃ b,bl[i]?=some b/\us[i]?=some (.pointer (some ⟨b,0,none⟩))/\w.heap[b]?=some (.cells vs.toArray T (0,0))
 |u::us,b::bl,T::Ts,vs::vss,h,0,T',vs',h1,h2=>by
  simp at h1 h2;subst h1;subst h2;exact⟨b,rfl,by rw[h.1];rfl,h.2.1⟩
 |u::us,b::bl,T::Ts,vs::vss,h,i+1,T',vs',h1,h2=>by
  simpa using h.2.2.at (i:=i) (T:=T') (vs:=vs') (by simpa using h1) (by simpa using h2)
 |[],[],[],[],_,i,T,vs,h1,_=>by simp at h1
theorem kK.len{w:World}:∀ {us:List Value} {bl:List Nat} {Ts:List TypeId} {vss:List (List Value)},kK w us bl Ts vss->us.length=Ts.length/\bl.length=Ts.length/\vss.length=Ts.length
 |[],[],[],[],_=>⟨rfl,rfl,rfl⟩
 |u::us,b::bl,T::Ts,vs::vss,h=>by
  obtain⟨h1,h2,h3⟩:=kK.len h.2.2;simp[h1,h2,h3]
theorem HB(E:Nat->Value)(vs:List Value):au E (vs.map .v)=vs:=by
 rw[bn,List.map_map];exact (List.map_congr_left (λ_ _=>rfl)).trans (List.map_id vs)
def σL(Ts:List TypeId)(vss:List (List Value)):St:=⟨1,bm (pF 0 Ts),aY (zB 0 Ts vss)⟩
theorem X2{w:World}{nt m:Nat}{us:List Value}{bl:List Nat}{Ts:List TypeId}{vss:List (List Value)}(h:kK w us bl Ts vss)(hn:bl.Nodup)(hlt:∀ b∈bl,b<w.heap.size)(h8:us.length<=7)(hnt:us.length+m=nt) :
  Sat w bl nt ⟨[],MU 0 us⟩ (σL Ts vss) { tmps:=us.toArray++Array.replicate m undef,defers:=[] } w:=by
 obtain⟨l1,l2,l3⟩:=h.len;have hF:∀ {i:Nat} {b:Nat},bl[i]?=some b->((bl[i]?).toList:List Nat)=[b]:=λh=>by rw[h];rfl
 refine⟨⟨λj=>us.getD j undef,λj=>(bl[j]?).toList,λt=>?_,⟨λj e he=>?_,λj e he c hc=>?_,λj e he c hc=>?_,λi j e e' hij hi hj c hc=>?_,ah.refl w _⟩,λp hp=>?_⟩,by simp;omega,rfl,λp hp=>?_,λt k hk=>?_,λj e he=>?_⟩
 ·show fits _ (bm (pF 0 Ts) t) _;rcases jL (L:=pF 0 Ts) t with h0|⟨p,hp,h1,h2⟩
  ·rw[h0];trivial
  ·rw[h2];obtain⟨i,hi,rfl⟩:=uy hp;simp only[Nat.zero_add]at h1;subst h1;have hti:i<Ts.length:=hi;obtain⟨b,hb,hu,_⟩:=h.at (i:=i) (List.getElem?_eq_getElem hti) (List.getElem?_eq_getElem (by omega:i<vss.length));simp only[Nat.zero_add,fits,den]
   rw[Array.getD_eq_getD_getElem?,Array.getElem?_append_left (by simp;omega)];simp[hu,base,dq]
 ·obtain⟨i,T,vs,h1,h2,h3⟩:=vF (cB he);simp only[Nat.zero_add,Prod.mk.injEq]at h3;obtain⟨rfl,rfl⟩:=h3;obtain⟨b,hb,hu,hh⟩:=h.at h1 h2;exact⟨b,by simp[hu],hF hb,by rw[HB];exact hh⟩
 ·simp only[Option.mem_toList]at hc;exact hlt c (List.mem_of_getElem? hc)
 ·simp only[Option.mem_toList]at hc;exact .inr (List.mem_of_getElem? hc)
 ·simp only[Option.mem_toList]at hc ⊢;intro hc';have h1:=List.getElem?_eq_some_iff.1 hc;have h2:=List.getElem?_eq_some_iff.1 hc';obtain⟨a1,a2⟩:=h1;obtain⟨b1,b2⟩:=h2;have hpw:=List.pairwise_iff_getElem.1 hn;rcases Nat.lt_or_gt_of_ne hij with hlt'|hlt'
  ·exact hpw i j a1 b1 hlt' (a2.trans b2.symm)
  ·exact hpw j i b1 a1 hlt' (b2.trans a2.symm)
 ·obtain⟨i,h1,h2⟩:=Au hp;simp only[Nat.zero_add]at h2;rw[h2];simp[h1]
 ·obtain⟨i,h1,h2⟩:=Au hp;have:=(List.getElem?_eq_some_iff.1 h1).1;show p.1 / 8<1;omega
 ·have hk:k∈(bm (pF 0 Ts) t).keys:=hk;rcases jL (L:=pF 0 Ts) t with h0|⟨p,hp,h1,h2⟩
  ·rw[h0]at hk;simp[FV.keys]at hk
  ·rw[h2]at hk;obtain⟨i,hi,rfl⟩:=uy hp;simp[FV.keys,SV.keys]at hk;show k / 8<1;omega
 ·obtain⟨i,T,vs,h1,h2,h3⟩:=vF (cB he);simp only[Nat.zero_add,Prod.mk.injEq]at h3;obtain⟨rfl,rfl⟩:=h3;have:=(List.getElem?_eq_some_iff.1 h1).1;refine⟨by show j / 8<1;omega,λi hi=>?_⟩;simp only[aS.keys,aB]at hi;cases hi
theorem Sat.put{W:World}{bs:List Nat}{nt:Nat}{ds:Aux}{σ:St}{a:Act}{w:World}(h:Sat W bs nt ds σ a w)(t:Nat)(v:Value)(ht:t<nt):Sat W bs nt ds ⟨σ.n,bu σ.φ t (.is (.v v)),σ.h⟩ (a.put (some t) v) w:=by
 obtain⟨⟨E,F,hf,hs,hp⟩,h1,h2,h3,h4,h5⟩:=h;refine⟨⟨E,F,λs=>?_,hs,hp⟩,by simp[Act.put,h1],h2,h3,λs k hk=>?_,h5⟩
 ·show fits E (bu σ.φ t (.is (.v v)) s) ((a.tmps.setIfInBounds t v).getD s undef);by_cases hst:s=t
  ·subst hst;rw[ak,Array.getD_eq_getD_getElem?,Array.getElem?_setIfInBounds_self_of_lt oM];rfl
  ·rw[aq _ _ hst,Array.getD_eq_getD_getElem?,Array.getElem?_setIfInBounds_ne (λe=>hst e.symm),<- Array.getD_eq_getD_getElem?];exact hf s
 ·have hk:k∈(bu σ.φ t (.is (.v v)) s).keys:=hk;by_cases hst:s=t
  ·subst hst;rw[ak]at hk;simp[FV.keys,SV.keys]at hk
  ·rw[aq _ _ hst]at hk;exact h4 s k hk
def σR(σ:St)(e x:Nat)(v:Value):St:=⟨σ.n,bu (bu σ.φ e (.is (.v v))) x (.is (.v v)),σ.h⟩
theorem Sat.ahZ{W:World}{bs:List Nat}{nt:Nat}{ds:Aux}{σ:St}{a:Act}{w:World}(h:Sat W bs nt ds σ a w)(e x:Nat)(v:Value)(he:e<nt)(hx:x<nt):Sat W bs nt ds (σR σ e x v) ((a.put (some e) v).put (some x) v) w:=
 (h.put e v he).put x v hx
theorem W6{w:World}{nt:Nat}{tmps:Array Value}(h:tmps.size=nt):Sat w [] nt ⟨[],[]⟩ ⟨1,bm [],aY []⟩ { tmps:=tmps,defers:=[] } w:=by
 refine⟨⟨λ_=>undef,λ_=>[],λ_=>trivial,⟨λj e he=>?_,λj e he=>?_,λj e he=>?_,λi j e e' _ he=>?_,ah.refl w _⟩,λp hp=>?_⟩,h,rfl,λp hp=>?_,λt k hk=>?_,λj e he=>?_⟩
 ·cases he
 ·cases he
 ·cases he
 ·cases he
 ·cases hp
 ·cases hp
 ·simp[bm,FV.keys]at hk
 ·cases he
theorem sD{f:FuncId}{fn:Func}{id e x:Nat}{T1 T2:TypeId}{p1 p2:String}{a1 a2:Array Edge}{rest:Code}{nt:Nat}(w:World)(us:List Value)
  (hf:P.funcs[f]?=some fn) (hb:fn.body=some (.seq (.region id #[{ dst:=some e,op:=.call { callee:=.builtin .recover,args:=#[],argTypes:=#[] },type:=T1,pos:=p1,after:=a1,guard:=none },{ dst:=some x,op:=.assign (.tmp e),type:=T2,pos:=p2,after:=a2,guard:=none }] false) rest))
  (hr:fn.results.toList=[]) (he:e<nt) (hx:x<nt) (hnt:us.length+(fn.ntmps-us.length)=nt)
  (h:Wp P w [] nt ⟨[],[]⟩ rest (Fin P [] (λ_ _ _ _=>True) (λ_ _=>False)) (σR ⟨1,bm [],aY []⟩ e x .nilIface)) :
  CallsD P f us.toArray .returning w λe u' w' => (∃ v,e=.returned v)/\u' = .returning/\ah w [] w' := by
 refine callsD_of_wpS hf hb λc₀ cs hu=>wpS_seq (wpS_region ?_)
 have hs0:Sat w [] nt ⟨[],[]⟩ ⟨1,bm [],aY []⟩ { tmps:=us.toArray++Array.replicate (fn.ntmps-us.length) undef,defers:=[] } w:=
  W6 (by simp;omega)
 have hs1:=hs0.ahZ e x .nilIface he hx;have h1:=h _ w hs1;simp[wpOpsS,go_sem,recoverD,hu,Exit.thenS];rw[if_pos oM];have hc:∀ u,c₀.mode=u->c₀::cs={ c₀ with mode:=u }::cs:=λu hu=>by subst hu;rfl
 refine wpS_of_wp (wp_mono h1 λe' a' w' ⟨W',bs',σ',hx',hq,hs'⟩=>?_);obtain⟨⟨E,F,hφ,hh,_⟩,_,hd,_⟩:=hs';have fin:a'.defers=[]/\∃ u',c₀::cs={ c₀ with mode:=u' }::cs/\∃ v,(results fn a'.tmps).run P w' = .ok v w' /\ (∃ v',Ending.returned v=.returned v')/\u' = .returning/\ah w [] w' :=
  ⟨hd,_,hc _ hu,_,jW hφ hh (by rw[hr];trivial),⟨_,rfl⟩,rfl,(hh.back hx').keeps⟩
 cases e' with
 |normal=>exact fin
 |ret=>exact fin
 |panic c=>exact hq.elim
 |exit i=>exact hq.elim
 |goto l=>exact hq.elim
 |outgrown=>exact hq.elim
theorem DJ{W:World}{bs:List Nat}{E:Nat->Value}{F:Nat->List Nat}{h:Hp}{w:World}(hh:ai W bs E F h w):∀ {j:Nat} {us:List Value} {bl:List Nat} {Ts:List TypeId} {vss:List (List Value)} {w0:World} {vs0:List (List Value)},kK w0 us bl Ts vs0->ae0 h j Ts vss->(∀ p∈MU j us,E p.1=p.2)->kK w us bl Ts vss
 |j,[],[],[],[],w0,[],_,_,_=>trivial
 |j,u::us,b::bl,T::Ts,vs::vss,w0,v0::vs0,hl,hc,hp=>by
  obtain⟨h1,h2⟩:=hc;obtain⟨b',hu,hF,hb⟩:=hh.ent j _ h1;have e1:=hp (j,u) (by simp[MU]);simp only at e1;rw[e1,hl.1]at hu;simp only[Value.pointer.injEq,Option.some.injEq,Addr.mk.injEq,and_true]at hu;subst hu;rw[HB]at hb;exact⟨hl.1,hb,DJ hh hl.2.2 h2 λp hp' => hp p (by simp[MU,hp'])⟩
 |j,[],[],[],_::_,w0,[],_,hc,_=>hc.elim
 |j,u::us,b::bl,T::Ts,[],w0,v0::vs0,_,hc,_=>hc.elim
theorem ry{f:FuncId}{fn:Func}{id e x:Nat}{T1 T2:TypeId}{p1 p2:String}{a1 a2:Array Edge}{rest:Code}{nt:Nat}{w:World}{us:List Value}{bl:List Nat}{Ts:List TypeId}{vss:List (List Value)}{pv:Value}{out:List (List Value)}
  (hf:P.funcs[f]?=some fn) (hb:fn.body=some (.seq (.region id #[{ dst:=some e,op:=.call { callee:=.builtin .recover,args:=#[],argTypes:=#[] },type:=T1,pos:=p1,after:=a1,guard:=none },{ dst:=some x,op:=.assign (.tmp e),type:=T2,pos:=p2,after:=a2,guard:=none }] false) rest))
  (hr:fn.results.toList=[]) (he:e<nt) (hx:x<nt) (hnt:us.length+(fn.ntmps-us.length)=nt) (hl:kK w us bl Ts vss) (hn:bl.Nodup) (hlt:∀ b∈bl,b<w.heap.size) (h8:us.length<=7)
  (h:∀ us:List Value,us.length=Ts.length->Wp P w bl nt ⟨[],MU 0 us⟩ rest (Fin P [] (λ_ _ _ h=>ae0 h 0 Ts out) (λ_ _=>False)) (σR (σL Ts vss) e x pv)) :
  CallsD P f us.toArray (.panicking [{ v:=pv,recovered:=false }]) w λe u' w' => (∃ v,e=.returned v)/\u' = .panicking [{ v:=pv,recovered:=true }]/\ah w bl w' /\ kK w' us bl Ts out:=by
 refine callsD_of_wpS hf hb λc₀ cs hu=>wpS_seq (wpS_region ?_)
 have hs1:=(X2 hl hn hlt h8 hnt).ahZ e x pv he hx;have h1:=h us hl.len.1 _ w hs1;simp[wpOpsS,go_sem,recoverD,hu,Exit.thenS];rw[if_pos oM];refine wpS_of_wp (wp_mono h1 λe' a' w' ⟨W',bs',σ',hx',hq,hs'⟩=>?_);obtain⟨⟨E,F,hφ,hh,hp⟩,_,hd,_⟩:=hs'
 have fin:((jA P W' bs' σ' []).1/\ae0 σ'.h 0 Ts out)->a'.defers=[]/\∃ u',{ c₀ with mode:=.panicking [{ v:=pv,recovered:=true }] }::cs={ c₀ with mode:=u' }::cs/\∃ v,(results fn a'.tmps).run P w' = .ok v w' /\ (∃ v',Ending.returned v=.returned v')/\u' = .panicking [{ v:=pv,recovered:=true }]/\ah w bl w' /\ kK w' us bl Ts out:=λhq=>
  ⟨hd,_,rfl,_,jW hφ hh (by rw[hr];trivial),⟨_,rfl⟩,rfl,(hh.back hx').keeps,DJ hh hl hq.2 hp⟩
 cases e' with
 |normal=>exact fin hq
 |ret=>exact fin hq
 |panic c=>exact hq.elim
 |exit i=>exact hq.elim
 |goto l=>exact hq.elim
 |outgrown=>exact hq.elim
end
section
variable {P:Program}{fn:Func}{nt:Nat}{pins:List (Nat×Value)}{Rr:World->List Nat->SV->Hp->Prop}{Rp:List PanicEntry->Hp->Prop}{W:World}{bs:List Nat}{σ:St}
theorem xp{f:FuncId}{c:Code}{args:Array Value}{w:World}{v:Value}(hf:P.funcs[f]?=some fn)(hb:fn.body=some c)(hnt:args.size+(fn.ntmps-args.size)=nt)
  (h:ma P fn nt [] (λ_ _ x _=>∀ E,den E x=v) (λ_ _=>False) w [] c (σ0 args.toList)):Calls P f args w λe w' => e=.returned v/\ah w [] w' := by
 refine (Ry hf hb (qG args hnt) h).mono λe w' he=>?_
 cases e with
 |returned u=>
  obtain⟨W',bs',E,F,x,h,hx,hR,rfl,hs,_⟩:=he;exact⟨by rw[hR E],hx.eg hs.keeps⟩
 |panicked c=>obtain⟨_,_,_,_,_,_,hf,_⟩:=he;exact hf.elim
 |outgrown=>exact he.elim
theorem ma.seq'{rs:List ResultVar}(hrs:fn.results.toList=rs){x y:Code}(h:Wp P W bs nt ⟨[],pins⟩ x (Th (λW' bs' σ' => ma P fn nt pins Rr Rp W' bs' y σ') (Fin P rs Rr Rp)) σ):ma P fn nt pins Rr Rp W bs (.seq x y) σ:=by
 subst hrs;exact ma.seq h
theorem ma.X8{rs:List ResultVar}(hr:fn.results.toList=rs){f:FuncId}(C:CatchC P f)(tl ks:List Nat){id d:Nat}{y:Code}{T1 T2:TypeId}{p1 p2:String}{a1 a2:Array Edge}{caps:Array Operand}
  (hcaps:caps=(tl.map Operand.tmp).toArray) (hks:ks.Nodup) (hrs:rs=uB tl C.Ts) (hd:d<nt) (hlen:tl.length=C.Ts.length) (hlen2:ks.length=C.Ts.length)
  (hcap:∀ p∈tl.zip ks,σ.φ p.1=.is (.own p.2 0)) (hcel:∀ k∈ks,∃ T vs,σ.h k=some (.cells T vs))
  (h:∀ us:List Value,us.length=C.Ts.length->Wp P W bs nt ⟨[Pp f us],ks.zip us++pins⟩ y (ael C rs tl ks Rr Rp) ⟨σ.n+2,bu σ.φ d .any,σ.h⟩) :
  ma P fn nt pins Rr Rp W bs (.seq (.region id #[{ dst:=some d,op:=.makeFunc (.func f) #[] caps,type:=T1,pos:=p1,after:=a1,guard:=none },{ dst:=none,op:=.defer { callee:=.value (.tmp d),args:=#[],argTypes:=#[] },type:=T2,pos:=p2,after:=a2,guard:=none }] false) y) σ:=by
 subst hcaps;subst hr;exact ma.defer C tl ks hks hrs hd hlen hlen2 hcap hcel h
variable {f:FuncId}(C:CatchC P f)(rs:List ResultVar)(tl ks:List Nat)
theorem np:ael C rs tl ks Rr Rp .ret W bs σ=((jA P W bs σ rs).1/\Rr W bs (lH (jA P W bs σ rs).2) σ.h):=rfl
theorem lz(c:List PanicEntry):ael C rs tl ks Rr Rp (.panic c) W bs σ=∃ pv vss,c=[{ v:=pv,recovered:=false }]/\Qe σ tl ks C.Ts vss/\C.pre vss pv/\Rr W bs (.v (Rt (C.bw vss pv))) (dropKeys σ.h ks):=rfl
end
mutual
def qF(k:Nat)(u:Value):SV->SV
 |.v x=>.v x
 |.own j o=>bif j == k then .v (dq (base u) o) else .own j o
 |.hd j=>bif j == k then .v (hv u) else .hd j
 |.agg l=>.agg (u9 k u l)
 |.tup l=>.tup (u9 k u l)
 |.ifc t x=>.ifc t (qF k u x)
 |.part j i=>bif j == k then .v (hv (H5 u i)) else .part j i
 |.fn f a c=>.fn f (u9 k u a) (u9 k u c)
def u9(k:Nat)(u:Value):List SV->List SV
 |[]=>[]
 |x::r=>qF k u x::u9 k u r
end
mutual
theorem x8{E:Nat->Value}{k:Nat}:∀ x:SV,den E (qF k (E k) x)=den E x
 |.v x=>rfl
 | .own j o=>by
  simp only[qF];by_cases hj:j=k
  ·subst hj;simp[den]
  ·have:(j == k)=false:=by simp[hj]
   simp[this]
 | .hd j=>by
  simp only[qF];by_cases hj:j=k
  ·subst hj;simp[den]
  ·have:(j == k)=false:=by simp[hj]
   simp[this]
 |.agg l=>by simp only[qF,den];rw[lM l]
 |.tup l=>by simp only[qF,den];rw[lM l]
 |.ifc t x=>by simp only[qF,den];rw[x8 x]
 | .part j i=>by
  simp only[qF];by_cases hj:j=k
  ·subst hj;simp[den]
  ·have:(j == k)=false:=by simp[hj]
   simp[this]
 |.fn f a c=>by simp only[qF,den];rw[lM a,lM c]
theorem lM{E:Nat->Value}{k:Nat}:∀ l:List SV,au E (u9 k (E k) l)=au E l
 |[]=>rfl
 |x::r=>by simp only[u9,au];rw[x8 x,lM r]
end
mutual
theorem qj{k:Nat}{u:Value}{j:Nat}:∀ x:SV,j∈(qF k u x).keys->j∈x.keys/\j≠k
 |.v x,h=>by simp[qF,SV.keys]at h
 | .own i o,h=>by
  simp only[qF]at h;by_cases hi:i=k
  ·subst hi;simp[SV.keys]at h
  ·have:(i == k)=false:=by simp[hi]
   simp only[this,cond_false,SV.keys,List.mem_singleton]at h ⊢;exact⟨h,h ▸ hi⟩
 | .hd i,h=>by
  simp only[qF]at h;by_cases hi:i=k
  ·subst hi;simp[SV.keys]at h
  ·have:(i == k)=false:=by simp[hi]
   simp only[this,cond_false,SV.keys,List.mem_singleton]at h ⊢;exact⟨h,h ▸ hi⟩
 |.agg l,h=>by simp only[qF,SV.keys]at h ⊢;exact ie l h
 |.tup l,h=>by simp only[qF,SV.keys]at h ⊢;exact ie l h
 |.ifc t x,h=>by simp only[qF,SV.keys]at h ⊢;exact qj x h
 | .part i o,h=>by
  simp only[qF]at h;by_cases hi:i=k
  ·subst hi;simp[SV.keys]at h
  ·have:(i == k)=false:=by simp[hi]
   simp only[this,cond_false,SV.keys,List.mem_singleton]at h ⊢;exact⟨h,h ▸ hi⟩
 |.fn f a c,h=>by
  simp only[qF,SV.keys,List.mem_append]at h ⊢;rcases h with h|h
  ·exact⟨.inl (ie a h).1,(ie a h).2⟩
  ·exact⟨.inr (ie c h).1,(ie c h).2⟩
theorem ie{k:Nat}{u:Value}{j:Nat}:∀ l:List SV,j∈ay (u9 k u l)->j∈ay l/\j≠k
 |[],h=>by simp[u9,ay]at h
 |x::r,h=>by
  simp only[u9,ay,List.mem_append]at h ⊢;rcases h with h|h
  ·exact⟨.inl (qj x h).1,(qj x h).2⟩
  ·exact⟨.inr (ie r h).1,(ie r h).2⟩
end
def sbV(k:Nat)(u:Value):FV->FV
 |.is x=>.is (qF k u x)
 |.cnd b x=>.cnd b (qF k u x)
 |.any=>.any
def sbE(k:Nat)(u:Value):aS->aS
 |.cells T vs=>.cells T (u9 k u vs)
 |.row T s n vs=>.row T s n (u9 k u vs)
 |.obj d R=>.obj d R
def US(k:Nat)(u:Value)(φ:Fr):Fr:=λt=>sbV k u (φ t)
def PW(k:Nat)(u:Value)(h:Hp):Hp:=λj=>bif j == k then none else (h j).map (sbE k u)
theorem Yd{E:Nat->Value}{k:Nat}{f:FV}{u:Value}(h:fits E f u):fits E (sbV k (E k) f) u:=by
 cases f with
 |is x=>simpa [sbV,fits,x8] using h
 |cnd b x=>simpa [sbV,fits,x8] using h
 |any=>trivial
theorem VS{k:Nat}{u:Value}{f:FV}{j:Nat}(h:j∈(sbV k u f).keys):j∈f.keys/\j≠k:=by
 cases f with
 |is x=>exact qj x h
 |cnd b x=>
  cases b with
  |false=>cases h
  |true=>exact qj x h
 |any=>cases h
theorem agZ{E:Nat->Value}{k:Nat}{e:aS}{u:Value}{fp:List Nat}{w:World}(h:a6 E u fp w e):a6 E u fp w (sbE k (E k) e):=by
 cases e with
 |cells T vs=>simpa [sbE,a6,lM] using h
 |row T s n vs=>simpa [sbE,a6,lM] using h
 |obj d R=>exact h
theorem Vz{k:Nat}{u:Value}{e:aS}{j:Nat}(h:j∈(sbE k u e).keys):j∈e.keys/\j≠k:=by
 cases e with
 |cells T vs=>exact ie vs h
 |row T s n vs=>exact ie vs h
 |obj d R=>cases h
theorem nq{k:Nat}{u:Value}{h:Hp}{j:Nat}{e:aS}(hh:PW k u h j=some e):j≠k/\∃ e0,h j=some e0/\e=sbE k u e0:=by
 unfold PW at hh;by_cases hj:j=k
 ·subst hj;simp at hh
 ·have:(j == k)=false:=by simp[hj]
  rw[this,cond_false,Option.map_eq_some_iff]at hh;obtain⟨e0,h1,h2⟩:=hh;exact⟨hj,e0,h1,h2.symm⟩
theorem Sat.Ij{W:World}{bs:List Nat}{nt:Nat}{ds:Aux}{σ:St}{a:Act}{w:World}(k:Nat)(hsat:Sat W bs nt ds σ a w) :
  ∃ E F bs',Ext W bs w bs' /\ ai W bs E F σ.h w/\(∀ e,σ.h k=some e->∀ b∈F k,b∉bs')/\Sat w bs' nt ds ⟨σ.n,US k (E k) σ.φ,PW k (E k) σ.h⟩ a w:=by
 classical
 obtain⟨⟨E,F,hφ,hs,hp⟩,hsz,hdf,hpk,hfk,hhk⟩:=hsat;have hmem:∃ bs' : List Nat,∀ b,b∈bs' ↔ ∃ j e,j≠k/\σ.h j=some e/\b∈F j:=by
  refine⟨(List.range (8*σ.n)).flatMap λj=>if j=k\/σ.h j=none then [] else F j,λb=>?_⟩;rw[List.mem_flatMap];constructor
  ·rintro⟨j,_,hb⟩;split at hb
   ·cases hb
   ·rename_i hn;have h1:j≠k:=λe=>hn (.inl e)
    have h2:σ.h j≠none:=λe=>hn (.inr e)
    obtain⟨e,he⟩:=Option.ne_none_iff_exists'.1 h2;exact⟨j,e,h1,he,hb⟩
  ·rintro⟨j,e,hj,he,hb⟩;have:=(hhk j e he).1;refine⟨j,List.mem_range.2 oM,?_⟩;rw[if_neg (by rw[he];simp[hj])];exact hb
 obtain⟨bs',hmem⟩:=hmem;have hx:Ext W bs w bs' := ⟨hs.keeps,λb hb=>by
  obtain⟨j,e,_,he,hbj⟩:=(hmem b).1 hb
  exact hs.mine j e he b hbj⟩
 refine⟨E,F,bs',hx,hs,λe he b hb hb' => ?_,?_⟩
 ·obtain⟨j,e2,hj,he2,hbj⟩:=(hmem b).1 hb';exact hs.apart k j e e2 (Ne.symm hj) he he2 b hb hbj
 ·refine⟨⟨E,F,λt=>Yd (hφ t),⟨λj e he=>?_,λj e he b hb=>?_,λj e he b hb=>?_,λi j e e' hij hi hj b hb=>?_,ah.refl w _⟩,hp⟩,hsz,hdf,hpk,λt j hj=>hfk t j (VS hj).1,λj e he=>?_⟩
  ·obtain⟨hj,e0,h1,rfl⟩:=nq he;exact agZ (hs.ent j e0 h1)
  ·obtain⟨hj,e0,h1,rfl⟩:=nq he;exact hs.lt j e0 h1 b hb
  ·obtain⟨hj,e0,h1,rfl⟩:=nq he;exact .inr ((hmem b).2 ⟨j,e0,hj,h1,hb⟩)
  ·obtain⟨_,e0,h1,rfl⟩:=nq hi;obtain⟨_,e1,h2,rfl⟩:=nq hj;exact hs.apart i j e0 e1 hij h1 h2 b hb
  ·obtain⟨hj,e0,h1,rfl⟩:=nq he;exact⟨(hhk j e0 h1).1,λi hi=>(hhk j e0 h1).2 i (Vz hi).1⟩
def Kh(nt:Nat)(ds:Aux)(X:World->List Nat->St->Prop):Prop:=∀ W bs σ,(∀ a w,Sat W bs nt ds σ a w->∃ W' bs' σ',Ext W bs W' bs' /\ X W' bs' σ' /\ Sat W' bs' nt ds σ' a w)->X W bs σ
theorem Wp.clo{P:Program}{nt:Nat}{ds:Aux}{c:Code}{Q:me}:Kh nt ds (λW bs σ=>Wp P W bs nt ds c Q σ):=λW bs σ h a w hs=>by
 obtain⟨W',bs',σ',hx,hX,hs'⟩:=h a w hs;exact wp_mono (hX a w hs') λe' a' w' hh' => qO hx hh'
def Pw(nt:Nat)(ds:Aux)(W:World)(bs:List Nat)(σ:St)(Q:World->List Nat->St->Prop):Prop:=
 ∀ a w,Sat W bs nt ds σ a w->∃ W' bs' σ',Ext W bs W' bs' /\ Q W' bs' σ' /\ Sat W' bs' nt ds σ' a w
theorem Pw.clo{nt:Nat}{ds:Aux}{Q:World->List Nat->St->Prop}:Kh nt ds (λW bs σ=>Pw nt ds W bs σ Q):=λW bs σ h a w hs=>by
 obtain⟨W',bs',σ',hx,hX,hs'⟩:=h a w hs;obtain⟨W2,bs2,σ2,hx2,hq,hs2⟩:=hX a w hs';exact⟨W2,bs2,σ2,hx.trans hx2,hq,hs2⟩
theorem Pw.here{nt:Nat}{ds:Aux}{Q:World->List Nat->St->Prop}{W:World}{bs:List Nat}{σ:St}(h:Q W bs σ):Pw nt ds W bs σ Q:=λa w hs=>⟨W,bs,σ,Ext.refl W bs,h,hs⟩
def Mo(nt:Nat)(ds:Aux)(Q:me):me
 |.normal,W,bs,σ=>Pw nt ds W bs σ (Q .normal)
 |e,W,bs,σ=>Q e W bs σ
theorem fD{nt:Nat}{ds:Aux}{Q:me}{W:World}{bs:List Nat}{σ:St}(h:Pw nt ds W bs σ (Q .normal)):Mo nt ds Q .normal W bs σ:=h
theorem Wp.more{P:Program}{W:World}{bs:List Nat}{nt:Nat}{ds:Aux}{c:Code}{Q:me}{σ:St}(h:Wp P W bs nt ds c (Mo nt ds Q) σ):Wp P W bs nt ds c Q σ:=λa w hs=>
 wp_mono (h a w hs) λe a' w' ⟨W',bs',σ',he,hq,hs'⟩=>by
  cases e with
  |normal=>
   obtain⟨W2,bs2,σ2,hx2,hq2,hs2⟩:=hq a' w' hs';exact⟨W2,bs2,σ2,he.trans hx2,hq2,hs2⟩
  |_=>exact⟨W',bs',σ',he,hq,hs'⟩
section
variable {nt:Nat}{ds:Aux}{X:World->List Nat->St->Prop}{W:World}{bs:List Nat}{σ:St}
theorem Kh.Ij(hX:Kh nt ds X)(k:Nat)
  (h:∀ W' bs' E F,Ext W bs W' bs' -> ai W bs E F σ.h W' -> (∀ e,σ.h k=some e->∀ b∈F k,b∉bs')->X W' bs' ⟨σ.n,US k (E k) σ.φ,PW k (E k) σ.h⟩):X W bs σ:=
 hX W bs σ λa w hs=>by
  obtain⟨E,F,bs',hx,hh,hb,hs'⟩:=hs.Ij k;exact⟨w,bs',_,hx,h w bs' E F hx hh hb,hs'⟩
end
structure FK where
 Φ:List Value->World->(Nat->Prop)->Prop
 mono:∀ {cs:List Value} {W:World} {S:Nat->Prop} {W' : World} {S' : Nat->Prop},cT W S W' S' -> Φ cs W S->Φ cs W' S'
def jl(G:Nat->Prop)(bs:List Nat):Nat->Prop:=λb=>G b/\b∉bs
theorem jl.out{G:Nat->Prop}{bs:List Nat}{b:Nat}(h:jl G bs b):Out bs b:=h.2
def Up(G:Nat->Prop)(W:World)(bs:List Nat):Prop:=∀ b,W.heap.size<=b\/b∈bs->G b
theorem Up.ext{G:Nat->Prop}{W W' : World}{bs bs' : List Nat}(h:Up G W bs)(hx:Ext W bs W' bs'):Up G W' bs' := λb hb=>
 hb.elim (λh1=>h b (.inl (Nat.le_trans hx.keeps.size h1))) λh1=>h b (hx.sub b h1)
theorem Up.true(W:World)(bs:List Nat):Up (λ_=>True) W bs:=λ_ _=>trivial
theorem Ext.Gu{G:Nat->Prop}{W W' : World}{bs bs' : List Nat}(h:Ext W bs W' bs'):cT W (jl G bs) W' (jl G bs'):=λb hb hs=>
 ⟨h.keeps.block b hb hs.2,hs.1,λhb' => (h.sub b hb').elim (λh1=>absurd h1 (Nat.not_le.2 hb)) hs.2⟩
def kC(G:Nat->Prop)(W:World)(bs:List Nat)(Φ:FK):List Value->Value->List Nat->World->Prop:=λ_ u fp w=>
 (∀ b∈fp,G b)/\∃ cs,u=eu cs/\∀ W₂ S₂,(∀ b,b<W.heap.size->jl G bs b->W₂.heap[b]?=W.heap[b]?/\S₂ b)->(∀ b∈fp,W₂.heap[b]?=w.heap[b]?/\S₂ b)->Φ.Φ cs W₂ S₂
section
variable {nt:Nat}{ds:Aux}{X:World->List Nat->St->Prop}{W:World}{bs:List Nat}{σ:St}
theorem Kh.jh(hX:Kh nt ds X)(k:Nat){G:Nat->Prop}{W0:World}{bs0:List Nat}{Φ:FK}(hk:σ.h k=some (.obj [] (kC G W0 bs0 Φ)))(h0:cT W0 (jl G bs0) W (jl G bs))
  (h:∀ W' bs' cs,Ext W bs W' bs' -> Φ.Φ cs W' (jl G bs')->X W' bs' ⟨σ.n,US k (eu cs) σ.φ,PW k (eu cs) σ.h⟩):X W bs σ:=by
 refine hX.Ij k λW' bs' E F hx hs hb=>?_
 obtain⟨⟨⟨hG,cs,h1,h2⟩,_⟩,_⟩:=hs.ent k _ hk;rw[h1];refine h W' bs' cs hx (h2 W' (jl G bs') (λb hlt hr=>?_) λb hbk=>⟨rfl,hG b hbk,hb _ hk b hbk⟩);obtain⟨g1,g2⟩:=h0 b hlt hr;have hlt' : b<W.heap.size:=by
  by_cases hW:b<W.heap.size
  ·exact hW
  ·have:W.heap[b]?=none:=by simp;omega
   rw[this]at g1;have h3:W0.heap[b]?=some W0.heap[b]:=Array.getElem?_eq_getElem hlt;rw[h3]at g1;cases g1
 obtain⟨g3,g4⟩:=hx.Gu b hlt' g2;exact⟨g3.trans g1,g4⟩
theorem Kh.oz(hX:Kh nt ds X)(k:Nat){T:TypeId}{vs:List SV}{us:List Value}(hk:σ.h k=some (.cells T vs))(hv:∀ E,au E vs=us)
  (h:∀ W' bs' b,Ext W bs W' bs' -> b∉bs' -> (W.heap.size<=b\/b∈bs)->W'.heap[b]?=some (.cells us.toArray T (0,0))->X W' bs' ⟨σ.n,US k (.pointer (some ⟨b,0,none⟩)) σ.φ,PW k (.pointer (some ⟨b,0,none⟩)) σ.h⟩):X W bs σ:=by
 refine hX.Ij k λW' bs' E F hx hs hb=>?_
 obtain⟨b,h1,h2,h3⟩:=hs.ent k _ hk;rw[h1];have hbF:b∈F k:=by rw[h2];simp
 exact h W' bs' b hx (hb _ hk b hbF) (hs.mine k _ hk b hbF) (by rw[h3,hv E])
theorem Kh.tI(hX:Kh nt ds X)(k:Nat){T:TypeId}{s n:Nat}{vs:List SV}{us:List Value}(hk:σ.h k=some (.row T s n vs))(hv:∀ E,au E vs=us)
  (h:∀ W' bs' ao c',Ext W bs W' bs' -> gO W' (New W bs bs') ao us->n<=c' -> X W' bs' ⟨σ.n,US k (.slice ao n c') σ.φ,PW k (.slice ao n c') σ.h⟩):X W bs σ:=by
 refine hX.Ij k λW' bs' E F hx hs hb=>?_
 obtain⟨ao,c',h1,h2,h3⟩:=Qo hs hk λb hbk=>hb _ hk b hbk
 rw[h1];rw[hv E]at h2;exact h W' bs' ao c' hx h2 h3
end
section
variable {P:Program}{W:World}{bs:List Nat}{nt:Nat}{ds:Aux}{c:Code}{Q:me}{σ:St}
theorem Wp.jh(k:Nat){G:Nat->Prop}{W0:World}{bs0:List Nat}{Φ:FK}(hk:σ.h k=some (.obj [] (kC G W0 bs0 Φ)))(h0:cT W0 (jl G bs0) W (jl G bs))
  (h:∀ W' bs' cs,Ext W bs W' bs' -> Φ.Φ cs W' (jl G bs')->Wp P W' bs' nt ds c Q ⟨σ.n,US k (eu cs) σ.φ,PW k (eu cs) σ.h⟩):Wp P W bs nt ds c Q σ:=
 Kh.jh Wp.clo k hk h0 h
theorem Wp.oz(k:Nat){T:TypeId}{vs:List SV}{us:List Value}(hk:σ.h k=some (.cells T vs))(hv:∀ E,au E vs=us)
  (h:∀ W' bs' b,Ext W bs W' bs' -> b∉bs' -> (W.heap.size<=b\/b∈bs)->W'.heap[b]?=some (.cells us.toArray T (0,0))->Wp P W' bs' nt ds c Q ⟨σ.n,US k (.pointer (some ⟨b,0,none⟩)) σ.φ,PW k (.pointer (some ⟨b,0,none⟩)) σ.h⟩):Wp P W bs nt ds c Q σ:=
 Kh.oz Wp.clo k hk hv h
theorem Wp.tI(k:Nat){T:TypeId}{s n:Nat}{vs:List SV}{us:List Value}(hk:σ.h k=some (.row T s n vs))(hv:∀ E,au E vs=us)
  (h:∀ W' bs' ao c',Ext W bs W' bs' -> gO W' (New W bs bs') ao us->n<=c' -> Wp P W' bs' nt ds c Q ⟨σ.n,US k (.slice ao n c') σ.φ,PW k (.slice ao n c') σ.h⟩):Wp P W bs nt ds c Q σ:=
 Kh.tI Wp.clo k hk hv h
variable {R:World->List Nat->St->Prop}
theorem Pw.jh(k:Nat){G:Nat->Prop}{W0:World}{bs0:List Nat}{Φ:FK}(hk:σ.h k=some (.obj [] (kC G W0 bs0 Φ)))(h0:cT W0 (jl G bs0) W (jl G bs))
  (h:∀ W' bs' cs,Ext W bs W' bs' -> Φ.Φ cs W' (jl G bs')->Pw nt ds W' bs' ⟨σ.n,US k (eu cs) σ.φ,PW k (eu cs) σ.h⟩ R):Pw nt ds W bs σ R:=
 Kh.jh Pw.clo k hk h0 h
theorem Pw.oz(k:Nat){T:TypeId}{vs:List SV}{us:List Value}(hk:σ.h k=some (.cells T vs))(hv:∀ E,au E vs=us)
  (h:∀ W' bs' b,Ext W bs W' bs' -> b∉bs' -> (W.heap.size<=b\/b∈bs)->W'.heap[b]?=some (.cells us.toArray T (0,0))->Pw nt ds W' bs' ⟨σ.n,US k (.pointer (some ⟨b,0,none⟩)) σ.φ,PW k (.pointer (some ⟨b,0,none⟩)) σ.h⟩ R):Pw nt ds W bs σ R:=
 Kh.oz Pw.clo k hk hv h
theorem Pw.tI(k:Nat){T:TypeId}{s n:Nat}{vs:List SV}{us:List Value}(hk:σ.h k=some (.row T s n vs))(hv:∀ E,au E vs=us)
  (h:∀ W' bs' ao c',Ext W bs W' bs' -> gO W' (New W bs bs') ao us->n<=c' -> Pw nt ds W' bs' ⟨σ.n,US k (.slice ao n c') σ.φ,PW k (.slice ao n c') σ.h⟩ R):Pw nt ds W bs σ R:=
 Kh.tI Pw.clo k hk hv h
end
theorem cell_of{W:World}{b:Nat}{us:List Value}{T:TypeId}(h:W.heap[b]?=some (.cells us.toArray T (0,0)))(j:Nat)(hj:j<us.length):W.cell? ⟨b,j,none⟩=some us[j]:=by
 simp only[World.cell?,h];simp[List.getElem?_eq_getElem hj]
theorem adz(k:Nat)(u:Value)(φ:Fr)(t:Nat):US k u φ t=sbV k u (φ t):=rfl
theorem abT(k:Nat)(u:Value)(h:Hp)(j:Nat):PW k u h j=bif j == k then none else (h j).map (sbE k u):=rfl
theorem ah7(k:Nat)(u:Value)(x:SV):sbV k u (.is x)=.is (qF k u x):=rfl
theorem aha(k:Nat)(u:Value)(b:Bool)(x:SV):sbV k u (.cnd b x)=.cnd b (qF k u x):=rfl
theorem adR(k:Nat)(u:Value):sbV k u .any=.any:=rfl
theorem Rn(k:Nat)(u:Value)(T:TypeId)(vs:List SV):sbE k u (.cells T vs)=.cells T (u9 k u vs):=rfl
theorem ahi(k:Nat)(u:Value)(T:TypeId)(s n:Nat)(vs:List SV):sbE k u (.row T s n vs)=.row T s n (u9 k u vs):=rfl
theorem adD(k:Nat)(u:Value)(d:List Value)(R:List Value->Value->List Nat->World->Prop):sbE k u (.obj d R)=.obj d R:=rfl
theorem ali(k:Nat)(u x:Value):qF k u (.v x)=.v x:=rfl
theorem acw(k:Nat)(u:Value)(j o:Nat):qF k u (.own j o)=bif j == k then .v (dq (base u) o) else .own j o:=rfl
theorem aka(k:Nat)(u:Value)(j:Nat):qF k u (.hd j)=bif j == k then .v (hv u) else .hd j:=rfl
theorem Wi(k:Nat)(u:Value)(j i:Nat):qF k u (.part j i)=bif j == k then .v (hv (H5 u i)) else .part j i:=rfl
theorem ada(k:Nat)(u:Value)(l:List SV):qF k u (.agg l)=.agg (u9 k u l):=rfl
theorem aby(k:Nat)(u:Value)(l:List SV):qF k u (.tup l)=.tup (u9 k u l):=rfl
theorem afz(k:Nat)(u:Value)(t:TypeId)(x:SV):qF k u (.ifc t x)=.ifc t (qF k u x):=rfl
theorem aiD(k:Nat)(u:Value)(f:Fn)(a c:List SV):qF k u (.fn f a c)=.fn f (u9 k u a) (u9 k u c):=rfl
theorem abF(k:Nat)(u:Value):u9 k u []=[]:=rfl
theorem Zq(k:Nat)(u:Value)(x:SV)(r:List SV):u9 k u (x::r)=qF k u x::u9 k u r:=rfl
theorem Wf(k:Nat)(u:Value)(l:List Value):u9 k u (l.map .v)=l.map .v:=by
 induction l with
 |nil=>rfl
 |cons x r ih=>simp[u9,qF,ih]
theorem MO(k:Nat)(u:Value)(a b:List SV):u9 k u (a++b)=u9 k u a++u9 k u b:=by
 induction a with
 |nil=>rfl
 |cons x r ih=>simp[u9,ih]
theorem ajv(k:IntKind)(n:Int):hv (.int k n)=.int k n:=rfl
theorem afP(b:Bool):hv (.bool b)=.bool b:=rfl
theorem ah0(s:ByteArray):hv (.string s)=.string s:=rfl
theorem abw(f:Fn)(a c:Array Value):hv (.func f a c)=.func f a c:=rfl
theorem Xi(ao:Option Addr)(n c:Nat):hv (.slice ao n c)=.slice ao n c:=rfl
theorem ajo(a:Option Addr):hv (.pointer a)=.pointer a:=rfl
theorem aao(t:TypeId)(x:Value):hv (.iface t x)=.iface t x:=rfl
theorem VQ(a:Addr):base (.pointer (some a))=some a:=rfl
theorem NA(a:Addr)(n c:Nat):base (.slice (some a) n c)=some a:=rfl
theorem K3(a:Addr)(o:Nat):dq (some a) o=.pointer (some ⟨a.block,a.off+o,none⟩):=rfl
def am2:=aa @adz <| aa @abT <| aa @ah7 <| aa @aha <| aa @adR <| aa @Rn <| aa @ahi <| aa @adD <| aa @ali <| aa @acw <| aa @aka <| aa @Wi <| aa @ada <| aa @aby <| aa @afz <| aa @aiD <| aa @abF <| aa @Zq <| aa @Wf <| aa @MO <| aa @ajv <| aa @afP <| aa @ah0 <| aa @abw <| aa @Xi <| aa @ajo <| aa @aao <| aa @VQ <| aa @NA <| aa @K3 @FJ
end
end Go.LE
