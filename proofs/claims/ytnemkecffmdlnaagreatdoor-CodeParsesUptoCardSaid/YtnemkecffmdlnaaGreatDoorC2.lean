/-
 Part 2 of the proof (packed).
-/
import Derived.Test.YtnemkecffmdlnaaGreatDoorC1
import Derived.Deep.LoopGhost
import Derived.Test.YtnemkecffmdlnaaGreatDoorProg
import Derived.WalkKit
import Derived.ProofKit
import Derived.OpenShut
import Derived.JoinedCond
import Derived.Lib.SmallJoins
import Derived.ReadAgain
import Derived.Deep.Slices
import Derived.Deep.Strs
import Derived.Defers
import Derived.Recover
set_option linter.unusedSimpArgs false
set_option linter.unusedVariables false
set_option linter.defProp false
set_option maxHeartbeats 16000000
namespace Go.LE
section
open Go.RowKit
structure Ext (W:World)(bs:List Nat)(W' : World)(bs' : List Nat):Prop where
 keeps:ah W bs W'
 sub:∀ b∈bs',W.heap.size<=b\/b∈bs
theorem Ext.refl(W:World)(bs:List Nat):Ext W bs W bs:=⟨ah.refl W bs,λ_ h=>.inr h⟩
theorem Ext.trans{W W' W'' : World}{bs bs' bs'' : List Nat}(h:Ext W bs W' bs')(h' : Ext W' bs' W'' bs''):Ext W bs W'' bs'' :=
 ⟨h.keeps.trans h'.keeps λb hb hlt=>(h.sub b hb).resolve_left oM,λb hb=>(h'.sub b hb).elim (λh1=>.inl (Nat.le_trans h.keeps.size h1)) λh1=>h.sub b h1⟩
theorem Ext.eo{W W' w:World}{bs bs' : List Nat}(h:Ext W bs W' bs')(h' : ah W' bs' w):ah W bs w:=
 h.keeps.trans h' λb hb hlt=>(h.sub b hb).resolve_left oM
theorem ai.back{W W' w:World}{bs bs' : List Nat}{E:Nat->Value}{F:Nat->List Nat}{h:Hp}(he:Ext W bs W' bs')(hs:ai W' bs' E F h w):ai W bs E F h w:=
 ⟨hs.ent,hs.lt,λk e hk b hb=>(hs.mine k e hk b hb).elim (λh1=>.inl (Nat.le_trans he.keeps.size h1)) λh1=>he.sub b h1,hs.apart,he.eo hs.keeps⟩
theorem Sat.back{W W' : World}{bs bs' : List Nat}{nt:Nat}{ds:Aux}{σ:St}{a:Act}{w:World}(he:Ext W bs W' bs')(h:Sat W' bs' nt ds σ a w):Sat W bs nt ds σ a w:=by
 obtain⟨⟨E,F,hf,hs,hp⟩,h1,h2,h3,h4,h5⟩:=h;exact⟨⟨E,F,hf,hs.back he,hp⟩,h1,h2,h3,h4,h5⟩
abbrev mb:=Exit->World->List Nat->St->Prop
def Wp(P:Program)(W:World)(bs:List Nat)(nt:Nat)(ds:Aux)(c:Code)(Q:mb)(σ:St):Prop:=
 ∀ a w,Sat W bs nt ds σ a w->c.wp P (λe a' w' => ∃ W' bs' σ',Ext W bs W' bs' /\ Q e W' bs' σ' /\ Sat W' bs' nt ds σ' a' w') a w
def Le(W:World)(bs:List Nat)(nt:Nat)(ds:Aux)(σ σ' : St):Prop:=∀ a w,Sat W bs nt ds σ a w->Sat W bs nt ds σ' a w
def Th(next:World->List Nat->St->Prop)(Q:mb):mb
 |.normal,W,bs,σ=>next W bs σ
 |e,W,bs,σ=>Q e W bs σ
def Bl(id:Nat)(Q:mb):mb
 |.exit id',W,bs,σ=>if id' = id then Q .normal W bs σ else Q (.exit id') W bs σ
 |e,W,bs,σ=>Q e W bs σ
section
variable {next:World->List Nat->St->Prop}{Q:mb}{W:World}{bs:List Nat}{σ:St}
theorem gr(h:next W bs σ):Th next Q .normal W bs σ:=h
theorem nN(h:Q .ret W bs σ):Th next Q .ret W bs σ:=h
theorem kU{i:Nat}(h:Q (.exit i) W bs σ):Th next Q (.exit i) W bs σ:=h
theorem ja{c:List PanicEntry}(h:Q (.panic c) W bs σ):Th next Q (.panic c) W bs σ:=h
theorem gD{id:Nat}(h:Q .normal W bs σ):Bl id Q .normal W bs σ:=h
theorem nW{id:Nat}(h:Q .ret W bs σ):Bl id Q .ret W bs σ:=h
theorem iZ{id:Nat}{c:List PanicEntry}(h:Q (.panic c) W bs σ):Bl id Q (.panic c) W bs σ:=h
theorem lf{id:Nat}(h:Q .normal W bs σ):Bl id Q (.exit id) W bs σ:=by simpa [Bl] using h
theorem e9{id i:Nat}(hn:i≠id)(h:Q (.exit i) W bs σ):Bl id Q (.exit i) W bs σ:=by simpa [Bl,hn] using h
end
section
variable {P:Program}{W:World}{bs:List Nat}{nt:Nat}{ds:Aux}{Q:mb}{σ:St}
theorem qH{W W' : World}{bs bs' : List Nat}{e:Exit}{a:Act}{w:World}{Q:mb}(he:Ext W bs W' bs')(h:∃ W'' bs'' σ',Ext W' bs' W'' bs'' /\ Q e W'' bs'' σ' /\ Sat W'' bs'' nt ds σ' a w) :
  ∃ W'' bs'' σ',Ext W bs W'' bs'' /\ Q e W'' bs'' σ' /\ Sat W'' bs'' nt ds σ' a w:=by
 obtain⟨W'',bs'',σ',h1,h2,h3⟩:=h;exact⟨W'',bs'',σ',he.trans h1,h2,h3⟩
theorem Wp.mono{c:Code}{Q' : mb}(h:Wp P W bs nt ds c Q σ)(hq:∀ e W bs σ,Q e W bs σ->Q' e W bs σ):Wp P W bs nt ds c Q' σ:=
 λa w hs=>wp_mono (h a w hs) λe _ _ ⟨W',bs',σ',he,hq',hs'⟩=>⟨W',bs',σ',he,hq _ _ _ _ hq',hs'⟩
theorem Wp.Ix{c:Code}{σ' : St}(hle:Le W bs nt ds σ σ')(h:Wp P W bs nt ds c Q σ'):Wp P W bs nt ds c Q σ:=
 λa w hs=>h a w (hle a w hs)
theorem Wp.skip(h:Q .normal W bs σ):Wp P W bs nt ds .skip Q σ:=λa w hs=>wp_skip ⟨W,bs,σ,Ext.refl W bs,h,hs⟩
theorem Wp.exit{id:Nat}(h:Q (.exit id) W bs σ):Wp P W bs nt ds (.exit id) Q σ:=λa w hs=>wp_exit ⟨W,bs,σ,Ext.refl W bs,h,hs⟩
theorem Wp.goto{l:Nat}(h:Q (.goto l) W bs σ):Wp P W bs nt ds (.goto l) Q σ:=λa w hs=>wp_goto ⟨W,bs,σ,Ext.refl W bs,h,hs⟩
theorem Wp.ret(h:Q .ret W bs σ):Wp P W bs nt ds .ret Q σ:=λa w hs=>wp_ret ⟨W,bs,σ,Ext.refl W bs,h,hs⟩
theorem Wp.seq{x y:Code}(h:Wp P W bs nt ds x (Th (λW bs σ=>Wp P W bs nt ds y Q σ) Q) σ):Wp P W bs nt ds (.seq x y) Q σ:=λa w hs=>
 wp_seq (wp_mono (h a w hs) λe a' w' ⟨W',bs',σ',he,hq,hs'⟩=>by
  cases e with
  |normal=>exact wp_mono (hq a' w' hs') λe'' a'' w'' hh=>qH he hh
  |_=>exact⟨W',bs',σ',he,hq,hs'⟩)
theorem Wp.block{id:Nat}{c:Code}(h:Wp P W bs nt ds c (Bl id Q) σ):Wp P W bs nt ds (.block id c) Q σ:=λa w hs=>
 wp_block (wp_mono (h a w hs) λe a' w' ⟨W',bs',σ',he,hq,hs'⟩=>by
  cases e with
  |exit i=>
   simp only[Bl]at hq
   simp only[Exit.inBlock]
   split
   ·rename_i hi;rw[if_pos hi]at hq;exact⟨W',bs',σ',he,hq,hs'⟩
   ·rename_i hi;rw[if_neg hi]at hq;exact⟨W',bs',σ',he,hq,hs'⟩
  |_=>exact⟨W',bs',σ',he,hq,hs'⟩)
theorem Wp.cond{c:Operand}{x y:Code}{b:Bool}{p:Prop}(hc:nL σ.φ true c=(p,.v (.bool b)))(hp:p)
  (ht:b=true->Wp P W bs nt ds x Q σ) (hf:b=false->Wp P W bs nt ds y Q σ):Wp P W bs nt ds (.cond c x y) Q σ:=λa w hs=>by
 obtain⟨E,F,hφ,hh,_⟩:=hs.ex;have:a.eval c=.bool b:=by
  rw[sD hφ rfl (by rw[hc];exact hp),hc];rfl
 exact wp_cond_split this (λhb=>ht hb a w hs) (λhb=>hf hb a w hs)
theorem Wp.PN(Γ:Env P){id:Nat}{d:Bool}{ops:Array Oper}{g:RG}(hm:P.follows .mixedOrders=true)
  (hg:oV Γ W bs nt ops ops.toList σ.n σ.φ σ.h=g) (hside:g.side) (hd:d=true->oD ops=true/\oN ops g.fx=true)
  (hQ:(∀ x∈g.pans,x=none)->Q .normal W bs ⟨g.n,g.φ,g.h⟩) (hP:∀ c,some c∈g.pans->Q (.panic c) W bs ⟨σ.n,vF ops σ.φ,dropKeys σ.h g.lost⟩) :
  Wp P W bs nt ds (.region id ops d) Q σ:=λa w hs=>
 TM Γ hm hs hg hside hd (λhn a' w' hs' => ⟨W,bs,_,Ext.refl W bs,hQ hn,hs'⟩) (λc hc a' w' hs' => ⟨W,bs,_,Ext.refl W bs,hP c hc,hs'⟩)
theorem Wp.region(Γ:Env P){id:Nat}{d:Bool}{ops:Array Oper}{g:RG}(hm:P.follows .mixedOrders=true)
  (hg:oV Γ W bs nt ops ops.toList σ.n σ.φ σ.h=g) (hside:g.side) (hd:d=true->oD ops=true/\oN ops g.fx=true)
  (hQ:Q .normal W bs ⟨g.n,g.φ,g.h⟩) (hP:∀ c,some c∈g.pans->Q (.panic c) W bs ⟨σ.n,vF ops σ.φ,dropKeys σ.h g.lost⟩) :
  Wp P W bs nt ds (.region id ops d) Q σ:=Wp.PN Γ hm hg hside hd (λ_=>hQ) hP
theorem QB{α:Type}{l:List (Option α)}{c:α}(h:l.filter Option.isSome=[some c]):some c∈l/\∀ x,some x∈l->x=c:=by
 have h1:some c∈l.filter Option.isSome:=by rw[h];simp
 refine⟨(List.mem_filter.1 h1).1,λx hx=>?_⟩;have:some x∈l.filter Option.isSome:=List.mem_filter.2 ⟨hx,rfl⟩;rw[h]at this;simpa using this
theorem Wp.q8(Γ:Env P){id:Nat}{ops:Array Oper}{side:Prop}{lost:List Nat}{c:List PanicEntry}(hm:P.follows .mixedOrders=true)
  (hg:Bi Γ W bs nt ops ops.toList σ.n σ.φ σ.h=⟨side,some c,lost⟩) (hside:side)
  (hQ:Q (.panic c) W bs ⟨σ.n,vF ops σ.φ,dropKeys σ.h lost⟩):Wp P W bs nt ds (.region id ops false) Q σ:=λa w hs=>
 M6 Γ hs hg hside λa' w' hs' => ⟨W,bs,_,Ext.refl W bs,hQ,hs'⟩
theorem Wp.OZ(Γ:Env P){id:Nat}{ops:Array Oper}{side:Prop}{n:Nat}{φ:Fr}{h:Hp}{pans:List (Option (List PanicEntry))}{lost:List Nat}{fx:List (List Nat×List Nat)}{c:List PanicEntry}(hm:P.follows .mixedOrders=true)
  (hg:oV Γ W bs nt ops ops.toList σ.n σ.φ σ.h=⟨side,n,φ,h,pans,lost,fx⟩) (hp:pans.filter Option.isSome=[some c]) (hd:(oD ops&&oN ops fx)=true) (hside:side)
  (hQ:Q (.panic c) W bs ⟨σ.n,vF ops σ.φ,dropKeys σ.h lost⟩):Wp P W bs nt ds (.region id ops true) Q σ:=
 Wp.PN Γ hm hg hside (λ_=>by rw[Bool.and_eq_true]at hd;exact hd) (λhn=>by cases hn _ (QB hp).1) λc' hc' => by rw[(QB hp).2 c' hc'];exact hQ
theorem Wp.kH(Γ:Env P){id:Nat}{ops:Array Oper}{y:Code}{side:Prop}{lost:List Nat}{c:List PanicEntry}(hm:P.follows .mixedOrders=true)
  (hg:Bi Γ W bs nt ops ops.toList σ.n σ.φ σ.h=⟨side,some c,lost⟩) (hside:side)
  (hQ:Q (.panic c) W bs ⟨σ.n,vF ops σ.φ,dropKeys σ.h lost⟩):Wp P W bs nt ds (.seq (.region id ops false) y) Q σ:=
 Wp.seq (Wp.q8 Γ hm hg hside hQ)
theorem Wp.o9(Γ:Env P){id:Nat}{ops:Array Oper}{y:Code}{side:Prop}{n:Nat}{φ:Fr}{h:Hp}{pans:List (Option (List PanicEntry))}{lost:List Nat}{fx:List (List Nat×List Nat)}(hm:P.follows .mixedOrders=true)
  (hg:oV Γ W bs nt ops ops.toList σ.n σ.φ σ.h=⟨side,n,φ,h,pans,lost,fx⟩) (hp:pans.all Option.isNone=true) (hside:side)
  (hQ:Wp P W bs nt ds y Q ⟨n,φ,h⟩):Wp P W bs nt ds (.seq (.region id ops false) y) Q σ:=
 Wp.seq (Wp.region Γ hm hg hside (λhd=>by cases hd) hQ λc hc=>by rw[List.all_eq_true]at hp;have:=hp _ hc;cases this)
theorem Wp.ahF(Γ:Env P){id:Nat}{ops:Array Oper}{y:Code}{side:Prop}{n:Nat}{φ:Fr}{h:Hp}{pans:List (Option (List PanicEntry))}{lost:List Nat}{fx:List (List Nat×List Nat)}(hm:P.follows .mixedOrders=true)
  (hg:oV Γ W bs nt ops ops.toList σ.n σ.φ σ.h=⟨side,n,φ,h,pans,lost,fx⟩) (hp:pans.all Option.isNone=true) (hd:(oD ops&&oN ops fx)=true) (hside:side)
  (hQ:Wp P W bs nt ds y Q ⟨n,φ,h⟩):Wp P W bs nt ds (.seq (.region id ops true) y) Q σ:=
 Wp.seq (Wp.region Γ hm hg hside (λ_=>by rw[Bool.and_eq_true]at hd;exact hd) hQ λc hc=>by rw[List.all_eq_true]at hp;have:=hp _ hc;cases this)
theorem Wp.Gw(Γ:Env P){id:Nat}{ops:Array Oper}{side:Prop}{n:Nat}{φ:Fr}{h:Hp}{pans:List (Option (List PanicEntry))}{lost:List Nat}{fx:List (List Nat×List Nat)}(hm:P.follows .mixedOrders=true)
  (hg:oV Γ W bs nt ops ops.toList σ.n σ.φ σ.h=⟨side,n,φ,h,pans,lost,fx⟩) (hp:pans.all Option.isNone=true) (hside:side)
  (hQ:Q .normal W bs ⟨n,φ,h⟩):Wp P W bs nt ds (.region id ops false) Q σ:=
 Wp.region Γ hm hg hside (λhd=>by cases hd) hQ λc hc=>by rw[List.all_eq_true]at hp;have:=hp _ hc;cases this
theorem Wp.ac2(Γ:Env P){id:Nat}{ops:Array Oper}{side:Prop}{n:Nat}{φ:Fr}{h:Hp}{pans:List (Option (List PanicEntry))}{lost:List Nat}{fx:List (List Nat×List Nat)}(hm:P.follows .mixedOrders=true)
  (hg:oV Γ W bs nt ops ops.toList σ.n σ.φ σ.h=⟨side,n,φ,h,pans,lost,fx⟩) (hp:pans.all Option.isNone=true) (hd:(oD ops&&oN ops fx)=true) (hside:side)
  (hQ:Q .normal W bs ⟨n,φ,h⟩):Wp P W bs nt ds (.region id ops true) Q σ:=
 Wp.region Γ hm hg hside (λ_=>by rw[Bool.and_eq_true]at hd;exact hd) hQ λc hc=>by rw[List.all_eq_true]at hp;have:=hp _ hc;cases this
theorem Wp.loop{c:Code}{ι:Type}(I:ι->St)(ok:ι->Prop)(μ:ι->Nat)(p0:ι)(hle:Le W bs nt ds σ (I p0))(h0:ok p0)
  (round:∀ p,ok p->Wp P W bs nt ds c (Th (λW' bs' σ' => ∃ p',ok p' /\ μ p' < μ p/\Le W' bs' nt ds σ' (I p')) Q) (I p)):Wp P W bs nt ds (.loop c) Q σ:=λa w hs=>
 wp_loop_ghost (λn a w=>∃ p,ok p/\μ p=n/\Sat W bs nt ds (I p) a w) (μ p0) ⟨p0,h0,rfl,hle a w hs⟩ λn a w ⟨p,hp,hn,hsat⟩=>
  wp_mono (round p hp a w hsat) λe a' w' ⟨W',bs',σ',he,hq,hs'⟩=>by
   cases e with
   |normal=>
    obtain⟨p',hp',hlt,hle'⟩:=hq;exact⟨μ p',hn ▸ hlt,p',hp',rfl,Sat.back he (hle' a' w' hs')⟩
   |_=>exact⟨W',bs',σ',he,hq,hs'⟩
theorem Wp.De{c:Code}{ι:Type}(I:ι->St)(V:ι->World)(B:ι->List Nat)(ok:ι->Prop)(μ:ι->Nat)(p0:ι)(hV:V p0=W)(hB:B p0=bs)(hle:Le W bs nt ds σ (I p0))(h0:ok p0)
  (round:∀ p,ok p->Ext W bs (V p) (B p)->Wp P (V p) (B p) nt ds c (Th (λW' bs' σ' => ∃ p',ok p' /\ μ p' < μ p/\V p' = W' /\ B p' = bs' /\ Le W' bs' nt ds σ' (I p')) Q) (I p)):Wp P W bs nt ds (.loop c) Q σ:=λa w hs=>
 wp_loop_ghost (λn a w=>∃ p,ok p/\μ p=n/\Ext W bs (V p) (B p)/\Sat (V p) (B p) nt ds (I p) a w) (μ p0) ⟨p0,h0,rfl,by rw[hV,hB];exact Ext.refl W bs,by rw[hV,hB];exact hle a w hs⟩ λn a w ⟨p,hp,hn,hx,hsat⟩=>
  wp_mono (round p hp hx a w hsat) λe a' w' ⟨W',bs',σ',he,hq,hs'⟩=>by
   cases e with
   |normal=>
    obtain⟨p',hp',hlt,rfl,rfl,hle'⟩:=hq;exact⟨μ p',hn ▸ hlt,p',hp',rfl,hx.trans he,hle' a' w' hs'⟩
   |_=>exact⟨W',bs',σ',hx.trans he,hq,hs'⟩
inductive Src where
 |key (k:Nat)
 |nil
def bI:Value:=.slice none 0 0
mutual
def eZ(m:Nat->Src):SV->SV
 |.v x=>.v x
 |.own k o=>match m k with|.key j=>.own j o|.nil=>.v .nilIface
 |.hd k=>match m k with|.key j=>.hd j|.nil=>.v bI
 |.agg l=>.agg (fV m l)
 |.tup l=>.tup (fV m l)
 |.ifc t x=>.ifc t (eZ m x)
 |.part k i=>match m k with|.key j=>.part j i|.nil=>.v .nilIface
 |.fn f a c=>.fn f (fV m a) (fV m c)
def fV(m:Nat->Src):List SV->List SV
 |[]=>[]
 |x::r=>eZ m x::fV m r
end
def nP(E:Nat->Value)(m:Nat->Src)(k:Nat):Value:=match m k with|.key j=>E j|.nil=>bI
def ma(F:Nat->List Nat)(m:Nat->Src)(k:Nat):List Nat:=match m k with|.key j=>F j|.nil=>[]
mutual
theorem mn(E:Nat->Value)(m:Nat->Src):∀ x:SV,den E (eZ m x)=den (nP E m) x
 |.v x=>rfl
 |.own k o=>by
  simp only[eZ,den,nP];cases m k<;>rfl
 |.hd k=>by
  simp only[eZ,den,nP];cases m k<;>rfl
 |.agg l=>by simp only[eZ,den,hH E m l]
 |.tup l=>by simp only[eZ,den,hH E m l]
 |.ifc t x=>by simp only[eZ,den,mn E m x]
 |.part k i=>by
  simp only[eZ,den,nP];cases m k<;>rfl
 |.fn f a c=>by simp only[eZ,den,hH E m a,hH E m c]
theorem hH(E:Nat->Value)(m:Nat->Src):∀ l:List SV,au E (fV m l)=au (nP E m) l
 |[]=>rfl
 |x::r=>by simp only[fV,au,mn E m x,hH E m r]
end
def fU(m:Nat->Src):aT->aT
 |.cells T vs=>.cells T (fV m vs)
 |.row T s n vs=>.row T s n (fV m vs)
 |.obj d R=>.obj d R
theorem yI{E:Nat->Value}{m:Nat->Src}{u:Value}{fp:List Nat}{w:World}{e:aT}(h:a6 E u fp w (fU m e)):a6 (nP E m) u fp w e:=by
 cases e with
 |cells T vs=>simpa [a6,fU,hH] using h
 |row T s n vs=>simpa [a6,fU,hH] using h
 |obj d R=>exact h
def bm:List (Nat×FV)->Fr
 |[]=>λ_=>.any
 |(t,x)::r=>bu (bm r) t x
def aY:List (Nat×aT)->Hp
 |[]=>λ_=>none
 |(k,e)::r=>bu (aY r) k (some e)
def ES(m:Nat->Src):FV->FV->Prop
 |.is x,.is y=>x=eZ m y
 |.cnd b x,.cnd c y=>b=c/\(b=true->x=eZ m y)
 |.is x,.cnd c y=>c=true/\x=eZ m y
 |.cnd b x,.is y=>b=true/\x=eZ m y
 |_,.any=>True
 |.any,_=>False
theorem UF{E:Nat->Value}{m:Nat->Src}{x y:FV}{u:Value}(hle:ES m x y)(hf:fits E x u):fits (nP E m) y u:=by
 cases x with
 |is x=>
  cases y with
  |is y=>simp only[ES]at hle;simp only[fits]at hf ⊢;rw[hf,hle,mn]
  |cnd c y=>obtain⟨rfl,hle⟩:=hle;simp only[fits,cond_true]at hf ⊢;rw[hf,hle,mn]
  |any=>trivial
 | cnd b x=>
  cases y with
  |is y=>obtain⟨rfl,hle⟩:=hle;simp only[fits,cond_true]at hf ⊢;rw[hf,hle,mn]
  |cnd c y=>
   obtain⟨rfl,hle⟩:=hle;cases b with
   |false=>exact hf
   |true=>simp only[fits,cond_true]at hf ⊢;rw[hf,hle rfl,mn]
  |any=>trivial
 |any=>cases y<;>first|trivial|exact hle.elim
def F6(m:Nat->Src)(φ:Fr):List (Nat×FV)->Prop
 |[]=>True
 |(t,x)::r=>ES m (φ t) x/\F6 m φ r
def mz(m:Nat->Src)(h:Hp)(k:Nat)(e:aT):Prop:=match m k with
 |.key j=>h j=some (fU m e)
 |.nil=>match e with
  |.row _ sz n vs=>0<sz/\n=0/\vs=[]
  |_=>False
def tN(m:Nat->Src)(h:Hp):List (Nat×aT)->Prop
 |[]=>True
 |(k,e)::r=>mz m h k e/\tN m h r
def dQ(m:Nat->Src):List (Nat×aT)->List Nat
 |[]=>[]
 |(k,_)::r=>(match m k with|.key j=>[j]|.nil=>[])++dQ m r
def pH(n:Nat)(L:List (Nat×FV))(H:List (Nat×aT)):Prop:=
 (∀ p∈L,∀ k∈p.2.keys,k / 8<n)/\(∀ p∈H,p.1 / 8<n/\∀ k∈p.2.keys,k / 8<n)
theorem jK{L:List (Nat×FV)}(t:Nat):bm L t=.any\/∃ p∈L,p.1=t/\bm L t=p.2:=by
 induction L with
 |nil=>exact .inl rfl
 | cons p r ih=>
  by_cases ht:t=p.1
  ·exact .inr ⟨p,sI,ht.symm,by simp[bm,bu,ht]⟩
  ·rcases ih with ih|⟨q,hq,h1,h2⟩
   ·exact .inl (by simp[bm,bu,ht,ih])
   ·exact .inr ⟨q,by simp[hq],h1,by simp[bm,bu,ht,h2]⟩
theorem cz{H:List (Nat×aT)}{k:Nat}{e:aT}(h:aY H k=some e):(k,e)∈H:=by
 induction H with
 |nil=>cases h
 |cons p r ih=>
  by_cases ht:k=p.1
  ·simp[aY,bu,ht]at h;subst h;simp[ht]
  ·simp[aY,bu,ht]at h;simp[ih h]
theorem HI{m:Nat->Src}{φ:Fr}:∀ {L:List (Nat×FV)},F6 m φ L->∀ p∈L,ES m (φ p.1) p.2
 |_::_,h,p,hp=>by
  rcases List.mem_cons.1 hp with rfl|hp
  ·exact h.1
  ·exact HI h.2 p hp
theorem zF{m:Nat->Src}{h:Hp}:∀ {H:List (Nat×aT)},tN m h H->∀ p∈H,mz m h p.1 p.2
 |_::_,h,p,hp=>by
  rcases List.mem_cons.1 hp with rfl|hp
  ·exact h.1
  ·exact zF h.2 p hp
theorem o5{m:Nat->Src}{k:Nat}:∀ {H:List (Nat×aT)},∀ y∈H,m y.1=.key k->k∈dQ m H
 |z::t,y,hy,hk=>by
  simp only[dQ,List.mem_append];rcases List.mem_cons.1 hy with rfl|hy
  ·left;rw[hk];simp
  ·right;exact o5 y hy hk
theorem sd{m:Nat->Src}:∀ {H:List (Nat×aT)},(dQ m H).Nodup->∀ p∈H,∀ q∈H,p.1≠q.1->∀ i j,m p.1=.key i->m q.1=.key j->i≠j
 |[],_,p,hp,_,_,_,_,_,_,_=>by cases hp
 | x::r,hn,p,hp,q,hq,hpq,i,j,hi,hj=>by
  simp only[dQ]at hn;rcases List.mem_cons.1 hp with rfl|hp'
  ·rcases List.mem_cons.1 hq with rfl|hq'
   ·exact absurd rfl hpq
   ·rw[hi]at hn;intro hij;subst hij;exact (List.nodup_append.1 hn).2.2 i sI i (o5 q hq' hj) rfl
  ·rcases List.mem_cons.1 hq with rfl|hq'
   ·rw[hj]at hn;intro hij;subst hij;exact (List.nodup_append.1 hn).2.2 i sI i (o5 p hp' hi) rfl
   ·exact sd (List.nodup_append.1 hn).2.1 p hp' q hq' hpq i j hi hj
theorem Le.mk(m:Nat->Src){n' : Nat}{L:List (Nat×FV)}{H:List (Nat×aT)}(hk:pH n' L H)(hf:F6 m σ.φ L)(hh:tN m σ.h H)(hn:(dQ m H).Nodup)(hpn:∀ p∈ds.pins,m p.1=.key p.1/\p.1 / 8<n') :
  Le W bs nt ds σ ⟨n',bm L,aY H⟩:=by
 rintro a w ⟨⟨E,F,hφ,hs,hp⟩,hsz,hdf,_,_,_⟩;have at' : ∀ k e,aY H k=some e->mz m σ.h k e:=λk e he=>zF hh _ (cz he)
 have key:∀ k e j,aY H k=some e->m k=.key j->σ.h j=some (fU m e):=λk e j he hj=>by
  have:=at' k e he;simpa only[mz,hj] using this
 refine⟨⟨nP E m,ma F m,λt=>?_,⟨λk e he=>?_,λk e he b hb=>?_,λk e he b hb=>?_,λk k' e e' hne he he' b hb=>?_,hs.keeps⟩,λp hpp=>?_⟩,hsz,hdf,λp hpp=>(hpn p hpp).2,λt k hk' => ?_,λk e he=>?_⟩
 ·rcases jK (L:=L) t with h|⟨p,hp,rfl,h⟩
  ·simp only[h];trivial
  ·simp only[h];exact UF (HI hf p hp) (hφ p.1)
 ·cases hm:m k with
  |key j=>
   simp only[nP,ma,hm];exact yI (hs.ent j _ (key k e j he hm))
  | nil=>
   have:=at' k e he;simp only[mz,hm]at this;cases e with
   |row T s n vs=>
    obtain⟨h0,rfl,rfl⟩:=this;simp only[nP,ma,hm];exact⟨⟨by simp[au],.inl ⟨rfl,rfl⟩⟩,rfl⟩
   |cells T vs=>exact this.elim
   |obj d R=>exact this.elim
 ·cases hm:m k with
  |key j=>simp only[ma,hm]at hb;exact hs.lt j _ (key k e j he hm) b hb
  |nil=>simp only[ma,hm]at hb;cases hb
 ·cases hm:m k with
  |key j=>simp only[ma,hm]at hb;exact hs.mine j _ (key k e j he hm) b hb
  |nil=>simp only[ma,hm]at hb;cases hb
 ·cases hm:m k with
  |nil=>simp only[ma,hm]at hb;cases hb
  | key i=>
   cases hm' : m k' with
   |nil=>simp only[ma,hm'];simp
   |key j=>
    simp only[ma,hm,hm']at hb ⊢;exact hs.apart i j _ _ (sd hn _ (cz he) _ (cz he') hne i j hm hm') (key k e i he hm) (key k' e' j he' hm') b hb
 ·simp only[nP,(hpn p hpp).1];exact hp p hpp
 ·rcases jK (L:=L) t with h|⟨p,hp,_,h⟩
  ·simp only[h]at hk';cases hk'
  ·simp only[h]at hk';exact hk.1 p hp k hk'
 ·exact hk.2 _ (cz he)
end
end
section
open Go.RowKit
section
variable {P:Program}{W:World}{bs:List Nat}{nt:Nat}{ds:Aux}{σ:St}
theorem ZD{E:Nat->Value}{F:Nat->List Nat}{h:Nat->Option aT}{w:World}{T:TypeId}{k o:Nat}(hs:ai W bs E F h w)(hside:(dR P W bs h T [.own k o]).side) :
  ∃ a,den E (.own k o)=.pointer (some a)/\(loadVar T a).run P w=.ok (den E (dR P W bs h T [.own k o]).val) w:=by
 revert hside;simp only[dR];split
 ·rename_i sz vs hsz hag hvs;rintro⟨hlen,hpos⟩;obtain⟨b,hb,hcells⟩:=gv hs hvs oM;have hrun:(loadVar T ⟨b,0+o,none⟩).run P w=.ok (.agg (((au E vs).drop o).take sz).toArray) w:=by
   refine il hsz hag _ _ (by simp[aD];omega) λj v hj=>?_
   have hjl:j<sz:=by
    have:=(List.getElem?_eq_some_iff.1 hj).1;simp at this;omega
   rw[Addr.add_lit,Nat.zero_add,hcells (o+j) oM];rw[List.getElem?_take,if_pos hjl,List.getElem?_drop]at hj;rw[hj];rfl
  refine⟨⟨b,0+o,none⟩,by simp[den,hb,di],?_⟩;rw[hrun];simp[den,bp,List.map_take,List.map_drop]
 ·rename_i sz vs hsz hag hvs;intro hlen;obtain⟨b,hb,hcells⟩:=gv hs hvs (Nat.zero_lt_of_lt hlen);have hrun:=ij (w:=w) hag ⟨b,0+o,none⟩ ((au E vs)[o]?.getD undef) (by rw[Nat.zero_add];exact hcells o hlen);refine⟨⟨b,0+o,none⟩,by simp[den,hb,di],?_⟩;rw[hrun,qC]
 ·exact λhf=>hf.elim
def lz(P:Program)(W:World)(bs:List Nat)(σ:St):ResultVar->Prop×SV
 |.tmp t=>match σ.φ t with
  |.is x=>(True,x)
  |.cnd b x=>(b=true,x)
  |.any=>(False,.v undef)
 |.cell t T=>match σ.φ t with
  |.is (.own k o)=>((dR P W bs σ.h T [.own k o]).side,(dR P W bs σ.h T [.own k o]).val)
  |_=>(False,.v undef)
def jG(P:Program)(W:World)(bs:List Nat)(σ:St):List ResultVar->Prop×List SV
 |[]=>(True,[])
 |r::l=>((lz P W bs σ r).1/\(jG P W bs σ l).1,(lz P W bs σ r).2::(jG P W bs σ l).2)
def lY:List SV->SV
 |[x]=>x
 |l=>.tup l
def Fin(P:Program)(rs:List ResultVar)(R:World->List Nat->SV->Hp->Prop)(RP:List PanicEntry->Hp->Prop):mb
 |.normal,W,bs,σ|.ret,W,bs,σ=>(jG P W bs σ rs).1/\R W bs (lY (jG P W bs σ rs).2) σ.h
 |.panic c,_,_,σ=>RP c σ.h
 |_,_,_,_=>False
def Ends(W:World)(bs:List Nat)(pins:List (Nat×Value))(R:World->List Nat->SV->Hp->Prop)(RP:List PanicEntry->Hp->Prop):Ending->World->Prop
 |.returned v,w' => ∃ W' bs' E F x h,Ext W bs W' bs' /\ R W' bs' x h/\v=den E x/\ai W' bs' E F h w' /\ ∀ p∈pins,E p.1=p.2
 |.panicked c,w' => ∃ W' bs' E F h,Ext W bs W' bs' /\ RP c h/\ai W' bs' E F h w' /\ ∀ p∈pins,E p.1=p.2
 |.outgrown,_=>False
def mG(a:Act):ResultVar->Sem Value
 |.tmp t=>pure (a.tmps.getD t undef)
 |.cell x t=>do loadVar t (<- asAddr (a.tmps.getD x undef))
theorem Ma{E:Nat->Value}{F:Nat->List Nat}{a:Act}{w:World}(hφ:iX E σ.φ a)(hs:ai W bs E F σ.h w)(r:ResultVar)(hr:(lz P W bs σ r).1) :
  (mG a r).run P w=.ok (den E (lz P W bs σ r).2) w:=by
 cases r with
 | tmp t=>
  have:=hφ t;simp only[lz,mG]at hr ⊢;revert hr this;cases σ.φ t with
  |is x=>intro _ h;simp only[fits]at h;rw[h];rfl
  |cnd b x=>
   intro hb h;simp only at hb;subst hb;simp only[fits,cond_true]at h;rw[h];rfl
  |any=>exact λhf _=>hf.elim
 | cell t T=>
  have:=hφ t;simp only[lz,mG]at hr ⊢;revert hr this;split
  ·rename_i k o hk;intro hr h;rw[hk]at h;simp only[fits]at h;obtain⟨ad,h1,h2⟩:=ZD hs hr;rw[h,h1];simpa [asAddr] using h2
  ·exact λhf _=>hf.elim
theorem HP{E:Nat->Value}{F:Nat->List Nat}{a:Act}{w:World}(hφ:iX E σ.φ a)(hs:ai W bs E F σ.h w):∀ (l:List ResultVar),(jG P W bs σ l).1 ->
  (l.mapM (mG a)).run P w=.ok (au E (jG P W bs σ l).2) w
 |[],_=>rfl
 |r::l,h=>by
  have h1:=Ma hφ hs r h.1;have h2:=HP hφ hs l h.2;rw[List.mapM_cons];simp[h1,h2,jG,au]
theorem jZ{E:Nat->Value}{F:Nat->List Nat}{a:Act}{w:World}{fn:Func}(hφ:iX E σ.φ a)(hs:ai W bs E F σ.h w)(h:(jG P W bs σ fn.results.toList).1) :
  (results fn a.tmps).run P w=.ok (den E (lY (jG P W bs σ fn.results.toList).2)) w:=by
 have h1:=HP hφ hs fn.results.toList h;have h2:results fn a.tmps=((Functor.map List.toArray (fn.results.toList.mapM (mG a))) >>= λ(vs:Array Value)=>(pure (if h:vs.size=1 then vs[0] else .tuple vs):Sem Value)):=by
  rw[<- Array.mapM_eq_mapM_toList];unfold results
  congr 1
 rw[h2];have:((Functor.map List.toArray (fn.results.toList.mapM (mG a))) >>= λ(vs:Array Value)=>(pure (if h:vs.size=1 then vs[0] else .tuple vs):Sem Value)).run P w =
   .ok (den E (lY (jG P W bs σ fn.results.toList).2)) w:=by
  simp only[map_eq_pure_bind,bind_assoc,pure_bind];simp[h1];generalize (jG P W bs σ fn.results.toList).2=l
  match l with
  |[]=>simp[au,lY,den]
  |[x]=>simp[au,lY]
  |x::y::r=>simp[au,lY,den]
 exact this
theorem ki{f:FuncId}{fn:Func}{c:Code}{args:Array Value}{w:World}{pins:List (Nat×Value)}{R:World->List Nat->SV->Hp->Prop}{RP:List PanicEntry->Hp->Prop}
  (hf:P.funcs[f]?=some fn) (hb:fn.body=some c)
  (hsat:Sat W bs nt ⟨[],pins⟩ σ { tmps:=args++Array.replicate (fn.ntmps-args.size) undef,defers:=[] } w)
  (h:Wp P W bs nt ⟨[],pins⟩ c (Fin P fn.results.toList R RP) σ) :
  Calls P f args w (Ends W bs pins R RP):=by
 refine calls_of_wp hf hb (wp_mono (h _ w hsat) λe a' w' ⟨W',bs',σ',hx,hq,hs'⟩=>?_);obtain⟨⟨E,F,hφ,hh,hp⟩,hsz,hdf,_⟩:=hs'
 have ret:(jG P W' bs' σ' fn.results.toList).1/\R W' bs' (lY (jG P W' bs' σ' fn.results.toList).2) σ'.h->a'.defers=[]/\∃ v,(results fn a'.tmps).run P w' = .ok v w' /\ Ends W bs pins R RP (.returned v) w' :=
  λhq=>⟨hdf,_,jZ hφ hh hq.1,W',bs',E,F,_,_,hx,hq.2,rfl,hh,hp⟩
 cases e with
 |normal=>exact ret hq
 |ret=>exact ret hq
 |panic ch=>exact⟨hdf,W',bs',E,F,_,hx,hq,hh,hp⟩
 |exit i=>exact hq.elim
 |goto l=>exact hq.elim
 |outgrown=>exact hq.elim
theorem uX{κ:Nat}{E:Nat->Value}{F:Nat->List Nat}{h:Hp}{w:World}{f:FuncId}{args:Array Value}{r:R}{v:Value}(hs:ai W bs E F h w)
  (hc:Calls P f args w λe w' => e=.returned v/\ah w [] w') (hv:v=den E r.val) (hu:r.bu=[]) (hp:r.pan=none) :
  Good P W bs κ E h r (.ok (.enter f args) w):=by
 refine hc.mono λe w' he=>?_
 obtain⟨rfl,hk⟩:=he;exact⟨hp,E,F,λ_ _=>rfl,hv,by rw[hu];exact hs.grow hk⟩
theorem zj{κ:Nat}{E:Nat->Value}{F:Nat->List Nat}{h:Hp}{w:World}{K:Nat->Prop}{f:FuncId}{args:Array Value}{r:R}{e:aT}(hs:ai W bs E F h w)
  (hK:bU K h) (hk:∀ k,k / 8=κ->¬ K k)
  (hc:Calls P f args w λen w' => ∃ v u fp,en=.returned v/\(∀ E',a6 E' u fp w' e)/\(∀ b∈fp,w.heap.size<=b/\b<w'.heap.size)/\ah w [] w' /\ v=den (bu E (nk κ) u) r.val)
  (hu:r.bu=[(nk κ,some e)]) (hp:r.pan=none) :
  Good P W bs κ E h r (.ok (.enter f args) w):=by
 refine hc.mono λen w' he=>?_
 obtain⟨v,u,fp,rfl,hent,hfp,hkeep,hv⟩:=he;refine⟨hp,bu E (nk κ) u,bu F (nk κ) fp,λk hk' => aq _ _ λe=>hk' (by subst e;exact bg κ),hv,?_⟩;rw[hu];exact hs.new hK (hk _ (bg κ)) (hent _) hfp hkeep
theorem GB{κ k:Nat}{E:Nat->Value}{F:Nat->List Nat}{h:Hp}{w:World}{f:FuncId}{args:Array Value}{r:R}{e e' : aT}(hs:ai W bs E F h w)
  (hk:h k=some e)
  (hc:Calls P f args w λen w' => ∃ v fp,en=.returned v/\a6 E (E k) fp w' e' /\ (∀ b∈fp,b∈F k\/w.heap.size<=b)/\(∀ b∈fp,b<w'.heap.size)/\ah w (F k) w' /\ v=den E r.val)
  (hu:r.bu=[(k,some e')]) (hp:r.pan=none) :
  Good P W bs κ E h r (.ok (.enter f args) w):=by
 refine hc.mono λen w' he=>?_
 obtain⟨v,fp,rfl,hent,hfp,hlt,hkeep,hv⟩:=he;refine⟨hp,E,bu F k fp,λ_ _=>rfl,hv,?_⟩;rw[hu];exact hs.ald hk hent hfp hlt hkeep
end
section
variable {P:Program}{W:World}{bs:List Nat}{nt:Nat}{ds:Aux}{σ:St}{ops:Array Oper}(Γ:Env P)
def akO(dst:Option Nat)(r:List Oper)(κ:Nat)(φ:Fr)(h:Hp)(s:S):RG:=
 Jt s (oV Γ W bs nt ops r (κ+1) (re φ dst s.fv) (ba h s.bu))
theorem afB(κ:Nat)(φ:Fr)(h:Hp):oV Γ W bs nt ops [] κ φ h=⟨True,κ,φ,h,[],[],[]⟩:=rfl
theorem aas(o:Oper)(r:List Oper)(κ:Nat)(φ:Fr)(h:Hp):oV Γ W bs nt ops (o::r) κ φ h=akO (W:=W) (bs:=bs) (nt:=nt) (ops:=ops) Γ o.dst r κ φ h (step Γ W bs nt ops κ φ h o):=rfl
theorem afN(dst:Option Nat)(r:List Oper)(κ:Nat)(φ:Fr)(h:Hp)(side:Prop)(fv:FV)(u:List (Nat×Option aT))(pan:Option (List PanicEntry))(pupd reads uk:List Nat) :
  akO (W:=W) (bs:=bs) (nt:=nt) (ops:=ops) Γ dst r κ φ h ⟨side,fv,u,pan,pupd,reads,uk⟩=Jt ⟨side,fv,u,pan,pupd,reads,uk⟩ (oV Γ W bs nt ops r (κ+1) (re φ dst fv) (ba h u)):=rfl
theorem VM(side side' : Prop)(n:Nat)(fv:FV)(u:List (Nat×Option aT))(pan:Option (List PanicEntry))(pupd reads uk lost:List Nat)(φ:Fr)(h:Hp)(pans:List (Option (List PanicEntry)))(fx:List (List Nat×List Nat)) :
  Jt ⟨side,fv,u,pan,pupd,reads,uk⟩ ⟨side',n,φ,h,pans,lost,fx⟩=⟨side/\side',n,φ,h,pan::pans,uk++pupd++lost,(uk,reads)::fx⟩:=rfl
def Vs(Γ:Env P)(dst:Option Nat)(r:List Oper)(κ:Nat)(φ:Fr)(h:Hp)(s:S):RP:=match s.pan with
 |some c=>⟨s.side,some c,s.uk++s.pupd⟩
 |none=>Il s (Bi Γ W bs nt ops r (κ+1) (re φ dst s.fv) (ba h s.bu))
theorem Tz(o:Oper)(r:List Oper)(κ:Nat)(φ:Fr)(h:Hp):Bi Γ W bs nt ops (o::r) κ φ h=Vs (W:=W) (bs:=bs) (nt:=nt) (ops:=ops) Γ o.dst r κ φ h (step Γ W bs nt ops κ φ h o):=rfl
theorem KU(dst:Option Nat)(r:List Oper)(κ:Nat)(φ:Fr)(h:Hp)(side:Prop)(fv:FV)(u:List (Nat×Option aT))(c:List PanicEntry)(pupd reads uk:List Nat) :
  Vs (W:=W) (bs:=bs) (nt:=nt) (ops:=ops) Γ dst r κ φ h ⟨side,fv,u,some c,pupd,reads,uk⟩=⟨side,some c,uk++pupd⟩:=rfl
theorem M7(dst:Option Nat)(r:List Oper)(κ:Nat)(φ:Fr)(h:Hp)(side:Prop)(fv:FV)(u:List (Nat×Option aT))(pupd reads uk:List Nat) :
  Vs (W:=W) (bs:=bs) (nt:=nt) (ops:=ops) Γ dst r κ φ h ⟨side,fv,u,none,pupd,reads,uk⟩=Il ⟨side,fv,u,none,pupd,reads,uk⟩ (Bi Γ W bs nt ops r (κ+1) (re φ dst fv) (ba h u)):=rfl
theorem Yy(side side' : Prop)(fv:FV)(u:List (Nat×Option aT))(pan:Option (List PanicEntry))(pupd reads uk lost:List Nat)(c:Option (List PanicEntry)) :
  Il ⟨side,fv,u,pan,pupd,reads,uk⟩ ⟨side',c,lost⟩=⟨side/\side',c,uk++pupd++lost⟩:=rfl
def dz:Op->Bool
 |.pick _ _ _=>true
 |_=>false
theorem Rt :
  (∀ (x:Operand),dz (.move x)=false) /\
  (∀ (x:Operand),dz (.assign x)=false) /\
  (∀ (elem:TypeId),dz (.alloc elem)=false) /\
  (∀ (elem:TypeId) (v:Operand),dz (.box elem v)=false) /\
  (∀ (t:TypeId) (parts:Array (Nat×Operand)),dz (.build t parts)=false) /\
  (∀ (t:TypeId) (len:Nat) (parts:Array (Nat×Operand)),dz (.buildSlice t len parts)=false) /\
  (∀ (t:TypeId) (addr:Operand),dz (.load t addr)=false) /\
  (∀ (t:TypeId) (addr val:Operand),dz (.store t addr val)=false) /\
  (∀ (x:Operand),dz (.nilCheck x)=false) /\
  (∀ (op:BinOp) (xType:TypeId) (x y:Operand) (yType:TypeId),dz (.binOp op xType x y yType)=false) /\
  (∀ (op:UnOp) (xType:TypeId) (x:Operand),dz (.unOp op xType x)=false) /\
  (∀ (src dst:TypeId) (x:Operand),dz (.convert src dst x)=false) /\
  (∀ (xType:TypeId) (x:Operand),dz (.makeInterface xType x)=false) /\
  (∀ (fn:Fn) (first captured:Array Operand),dz (.makeFunc fn first captured)=false) /\
  (∀ (t:TypeId) (len cap:Operand),dz (.makeSlice t len cap)=false) /\
  (∀ (xType:TypeId) (x:Operand) (low high max:Option Operand),dz (.slice xType x low high max)=false) /\
  (∀ (xType:TypeId) (x:Operand) (field:Nat),dz (.fieldAddr xType x field)=false) /\
  (∀ (xType:TypeId) (x:Operand) (field:Nat),dz (.field xType x field)=false) /\
  (∀ (xType:TypeId) (x index:Operand),dz (.indexAddr xType x index)=false) /\
  (∀ (xType:TypeId) (x index:Operand),dz (.index xType x index)=false) /\
  (∀ (x:Operand) (xType asserted:TypeId) (commaOk:Bool),dz (.typeAssert x xType asserted commaOk)=false) /\
  (∀ (tuple:Operand) (index:Nat),dz (.extract tuple index)=false) /\
  (∀ (c:Call),dz (.call c)=false) /\
  (∀ (x:Operand),dz (.panic x)=false):=by
 refine⟨?_,?_,?_,?_,?_,?_,?_,?_,?_,?_,?_,?_,?_,?_,?_,?_,?_,?_,?_,?_,?_,?_,?_,?_⟩<;>(intros;rfl)
def vT(nt:Nat):Option Nat->Prop
 |some d=>d<nt
 |none=>True
theorem JV(d:Option Nat):(∀ i,d=some i->i<nt)=vT nt d:=by
 cases d<;>simp[vT]
def OH(nt:Nat)(dst:Option Nat)(un:Bool)(p:Prop)(b:Bool)(q:Prop)(r:R):S:=
 ⟨p/\q/\(b=true->r.side)/\vT nt dst,sQ un b r.val,bif b then r.bu else [],bif b then r.pan else none,r.pupd,r.reads,cE r.bu⟩
def OP(W:World)(bs:List Nat)(nt:Nat)(κ:Nat)(h:Hp)(dst:Option Nat)(un:Bool)(op:Op)(p:Prop)(b:Bool)(e:Prop×List SV):S:=
 OH nt dst un p b e.1 (eO Γ W bs κ h op e.2)
def stepG(W:World)(bs:List Nat)(nt:Nat)(κ:Nat)(φ:Fr)(h:Hp)(dst:Option Nat)(un:Bool)(op:Op)(g:Prop×Bool):S:=
 OP Γ W bs nt κ h dst un op g.1 g.2 (oO φ g.2 op.operands.toList)
theorem ag8(κ:Nat)(φ:Fr)(h:Hp)(dst:Option Nat)(op:Op)(ty:TypeId)(pos:String)(after:Array Edge)(guard:Option (Nat×Bool))(hop:dz op=false) :
  step Γ W bs nt ops κ φ h ⟨dst,op,ty,pos,after,guard⟩=stepG Γ W bs nt κ φ h dst guard.isNone op (jJ φ ops guard):=by
 rw[fi Γ (by rintro c x y rfl;cases hop)];simp only[stepG,OP,OH,JV]
theorem YZ(κ:Nat)(φ:Fr)(h:Hp)(dst:Option Nat)(un:Bool)(op:Op)(p:Prop)(b:Bool) :
  stepG Γ W bs nt κ φ h dst un op (p,b)=OP Γ W bs nt κ h dst un op p b (oO φ b op.operands.toList):=rfl
theorem ZE(κ:Nat)(h:Hp)(dst:Option Nat)(un:Bool)(op:Op)(p:Prop)(b:Bool)(q:Prop)(l:List SV) :
  OP Γ W bs nt κ h dst un op p b (q,l)=OH nt dst un p b q (eO Γ W bs κ h op l):=rfl
theorem aao(dst:Option Nat)(un:Bool)(p:Prop)(b:Bool)(q side:Prop)(val:SV)(u:List (Nat×Option aT))(pan:Option (List PanicEntry))(pupd reads:List Nat) :
  OH nt dst un p b q ⟨side,val,u,pan,pupd,reads⟩=⟨p/\q/\(b=true->side)/\vT nt dst,sQ un b val,bif b then u else [],bif b then pan else none,pupd,reads,cE u⟩:=rfl
def EW(nt:Nat)(φ:Fr)(dst:Option Nat)(un:Bool)(x y:Operand)(p:Prop)(g:Bool):Prop×SV->S
 |(q,.v (.bool cb))=>⟨p/\q/\(cb=true->(nL φ (g&&cb) x).1)/\(cb=false->(nL φ (g&&!cb) y).1)/\vT nt dst,sQ un g (sN cb (nL φ (g&&cb) x).2 (nL φ (g&&!cb) y).2),[],none,[],[],[]⟩
 |_=>⟨False,.any,[],none,[],[],[]⟩
def XX(nt:Nat)(φ:Fr)(dst:Option Nat)(un:Bool)(c x y:Operand)(g:Prop×Bool):S:=EW nt φ dst un x y g.1 g.2 (nL φ g.2 c)
theorem Un(κ:Nat)(φ:Fr)(h:Hp)(dst:Option Nat)(c x y:Operand)(ty:TypeId)(pos:String)(after:Array Edge)(guard:Option (Nat×Bool)) :
  step Γ W bs nt ops κ φ h ⟨dst,.pick c x y,ty,pos,after,guard⟩=XX nt φ dst guard.isNone c x y (jJ φ ops guard):=by
 simp only[step,XX,JV];split
 ·rename_i cb hcb;rw[show nL φ (jJ φ ops guard).2 c=((nL φ (jJ φ ops guard).2 c).1,.v (.bool cb)) from by rw[<- hcb]];rfl
 ·rename_i hn;unfold EW;split
  ·rename_i q cb he;exact absurd (by rw[he]) (hn cb)
  ·rfl
theorem VH(φ:Fr)(dst:Option Nat)(un:Bool)(c x y:Operand)(p:Prop)(g:Bool):XX nt φ dst un c x y (p,g)=EW nt φ dst un x y p g (nL φ g c):=rfl
theorem UE(φ:Fr)(dst:Option Nat)(un:Bool)(x y:Operand)(p q:Prop)(g cb:Bool):EW nt φ dst un x y p g (q,.v (.bool cb)) =
  ⟨p/\q/\(cb=true->(nL φ (g&&cb) x).1)/\(cb=false->(nL φ (g&&!cb) y).1)/\vT nt dst,sQ un g (sN cb (nL φ (g&&cb) x).2 (nL φ (g&&!cb) y).2),[],none,[],[],[]⟩:=rfl
def evS(w:Bool):FV->Prop×SV
 |.is x=>(True,x)
 |.cnd b x=>(w=true->b=true,x)
 |.any=>(w=false,.v undef)
theorem ahg(φ:Fr)(w:Bool)(t:Nat):nL φ w (.tmp t)=evS w (φ t):=by
 simp only[nL,evS];cases φ t<;>rfl
theorem ajU(w:Bool)(x:SV):evS w (.is x)=(True,x):=rfl
theorem aeu(w b:Bool)(x:SV):evS w (.cnd b x)=(w=true->b=true,x):=rfl
theorem TG(φ:Fr)(w:Bool)(v:Value):nL φ w (.const v)=(True,.v v):=rfl
theorem LD(φ:Fr)(w:Bool)(g:Nat):nL φ w (.global g)=(True,.v (.pointer (some ⟨g,0,none⟩))):=rfl
theorem ZY(φ:Fr)(w:Bool)(f:Nat):nL φ w (.func f)=(True,.v (.func (.func f) #[] #[])):=rfl
def evC:Prop×SV->Prop×List SV->Prop×List SV:=λa b=>(a.1/\b.1,a.2::b.2)
theorem adl(φ:Fr)(w:Bool):oO φ w []=(True,[]):=rfl
theorem U5(φ:Fr)(w:Bool)(o:Operand)(r:List Operand):oO φ w (o::r)=evC (nL φ w o) (oO φ w r):=rfl
theorem ajF(p q:Prop)(x:SV)(l:List SV):evC (p,x) (q,l)=(p/\q,x::l):=rfl
def X0(want:Bool):FV->Prop×Bool
 |.is (.v (.bool b))=>(True,b == want)
 |.cnd c (.v (.bool b))=>(True,c&&(b == want))
 |_=>(False,false)
def ajS(φ:Fr)(want:Bool):Option Nat->Prop×Bool
 |some d=>X0 want (φ d)
 |none=>(False,false)
theorem Xz(φ:Fr):jJ φ ops none=(True,true):=rfl
theorem Wa(φ:Fr)(j:Nat)(want:Bool):jJ φ ops (some (j,want))=ajS φ want ((ops[j]?).bind (·.dst)):=by
 simp only[jJ,ajS];cases (ops[j]?).bind (·.dst) with
 |none=>rfl
 |some d=>simp only[X0];split<;>simp_all
theorem S2(φ:Fr)(want:Bool)(d:Nat):ajS φ want (some d)=X0 want (φ d):=rfl
theorem abM(want b:Bool):X0 want (.is (.v (.bool b)))=(True,b == want):=rfl
theorem ZQ(want b c:Bool):X0 want (.cnd c (.v (.bool b)))=(True,c&&(b == want)):=rfl
theorem adF(w:Bool)(x:SV):sQ true w x=.is x:=rfl
theorem ajj(w:Bool)(x:SV):sQ false w x=.cnd w x:=rfl
theorem LZ(c a b:Bool):sN c (.v (.bool a)) (.v (.bool b))=.v (.bool (bif c then a else b)):=rfl
theorem Wk{α:Type}(f:Nat->α)(k:Nat)(x:α)(j:Nat):bu f k x j=if j=k then x else f j:=rfl
theorem Rq(φ:Fr)(d:Nat)(x:FV):re φ (some d) x=bu φ d x:=rfl
theorem Rn(φ:Fr)(x:FV):re φ none x=φ:=rfl
theorem Yo{α:Type}(f:Nat->α):ba f []=f:=rfl
theorem UA{α:Type}(f:Nat->α)(k:Nat)(x:α)(r:List (Nat×α)):ba f ((k,x)::r)=ba (bu f k x) r:=rfl
theorem adg(t:Nat):bm [] t=.any:=rfl
theorem U7(t k:Nat)(x:FV)(r:List (Nat×FV)):bm ((k,x)::r) t=if t=k then x else bm r t:=rfl
theorem abT(t:Nat):aY [] t=none:=rfl
theorem XA(t k:Nat)(x:aT)(r:List (Nat×aT)):aY ((k,x)::r) t=if t=k then some x else aY r t:=rfl
theorem NI(n d:Nat):vT n (some d)=(d<n):=rfl
theorem Kt(n:Nat):vT n none=True:=rfl
section
variable {κ:Nat}{h:Hp}
theorem YQ(o:Operand)(x:SV):eO Γ W bs κ h (.move o) [x]=.ok x:=rfl
theorem KR(o:Operand)(x:SV):eO Γ W bs κ h (.assign o) [x]=.ok x:=rfl
theorem Sm(T:TypeId):eO Γ W bs κ h (.alloc T) []=jb P κ T:=rfl
theorem acF(T:TypeId)(o:Operand)(l:List SV):eO Γ W bs κ h (.box T o) l=uW κ T l:=rfl
theorem TQ(T:TypeId)(ps:Array (Nat×Operand))(l:List SV):eO Γ W bs κ h (.build T ps) l=dN P T (ps.toList.map (·.1)) l:=rfl
theorem yV(T:TypeId)(n:Nat)(ps:Array (Nat×Operand))(l:List SV):eO Γ W bs κ h (.buildSlice T n ps) l=bz P κ T n (ps.toList.map (·.1)) l:=rfl
theorem XI(T:TypeId)(o:Operand)(l:List SV):eO Γ W bs κ h (.load T o) l=dR P W bs h T l:=rfl
theorem T0(T:TypeId)(o o' : Operand)(l:List SV):eO Γ W bs κ h (.store T o o') l=iN P h T l:=rfl
theorem E8(o:Operand)(l:List SV):eO Γ W bs κ h (.nilCheck o) l=dI h l:=rfl
theorem TT(op:BinOp)(T:TypeId)(x y:Operand)(r:TypeId)(l:List SV):eO Γ W bs κ h (.binOp op T x y r) l=bE P Γ.eqs h op T x y l:=rfl
theorem aah(op:UnOp)(T:TypeId)(x:Operand)(l:List SV):eO Γ W bs κ h (.unOp op T x) l=tq op l:=rfl
theorem Ii(a b:TypeId)(x:Operand)(l:List SV):eO Γ W bs κ h (.convert a b x) l=ic P h a b l:=rfl
theorem B8(T:TypeId)(x y:Operand)(l:List SV):eO Γ W bs κ h (.makeSlice T x y) l=mg P κ T l:=rfl
theorem To(x:Operand)(l:List SV):eO Γ W bs κ h (.panic x) l=lQ l:=rfl
theorem tj(T:TypeId)(o:Operand)(l:List SV):eO Γ W bs κ h (.makeInterface T o) l=ov P T l:=rfl
theorem SU(T:TypeId)(o:Operand)(lo hi mx:Option Operand)(l:List SV):eO Γ W bs κ h (.slice T o lo hi mx) l=fL P κ h T lo.isSome hi.isSome mx.isSome l:=rfl
theorem NQ(T:TypeId)(lo hi mx:Bool)(x:Value)(r:List SV):fL P κ h T lo hi mx (.v x::r)=dF P T lo hi mx (.v x::r):=rfl
theorem BL(T:TypeId)(o:Operand)(f:Nat)(l:List SV):eO Γ W bs κ h (.fieldAddr T o f) l=cJ P h T f l:=rfl
theorem TH(T:TypeId)(o:Operand)(f:Nat)(l:List SV):eO Γ W bs κ h (.field T o f) l=ia P T f l:=rfl
theorem BW(T:TypeId)(o i:Operand)(l:List SV):eO Γ W bs κ h (.indexAddr T o i) l=bA P h T l:=rfl
theorem TN(T:TypeId)(o i:Operand)(l:List SV):eO Γ W bs κ h (.index T o i) l=gm P T l:=rfl
theorem Jv(o:Operand)(i:Nat)(l:List SV):eO Γ W bs κ h (.extract o i) l=fe i l:=rfl
theorem abw(as_:Array Operand)(T:TypeId)(l:List SV):eO Γ W bs κ h (.call { callee:=.builtin .len,args:=as_,argTypes:=#[T] }) l=iR P h T l:=rfl
theorem LL(as_:Array Operand)(tys:Array TypeId)(l:List SV):eO Γ W bs κ h (.call { callee:=.builtin .append,args:=as_,argTypes:=tys }) l=fN P W bs κ h tys.toList l:=rfl
theorem VD(f:Operand)(as_:Array Operand)(tys:Array TypeId)(l:List SV):eO Γ W bs κ h (.call { callee:=.value f,args:=as_,argTypes:=tys }) l=kQ Γ W bs κ h l:=rfl
theorem N0(f:Operand)(n:String)(as_:Array Operand)(tys:Array TypeId)(l:List SV):eO Γ W bs κ h (.call { callee:=.invoke f n,args:=as_,argTypes:=tys }) l=jN Γ W bs κ h n l:=rfl
theorem QU(f:FuncId)(first cap:Array Value)(rest:List SV):kQ Γ W bs κ h (.v (.func (.func f) first cap)::rest)=n7 Γ W bs κ h f (first.toList.map .v++rest++cap.toList.map .v):=rfl
end
theorem ale(k:Nat)(e:aT)(x:SV):R.new k e x=⟨True,x,[(k,some e)],none,[],[]⟩:=rfl
theorem am2(x:SV):R.ok x=⟨True,x,[],none,[],[]⟩:=rfl
theorem alp(p:Prop)(x:SV):R.iu p x=⟨p,x,[],none,[],[]⟩:=rfl
theorem akW(n:Nat):nk n=8*n:=rfl
theorem UB{α:Type}:cE ([]:List (Nat×α))=[]:=rfl
theorem NB{α:Type}(k:Nat)(x:α)(r:List (Nat×α)):cE ((k,x)::r)=k::cE r:=rfl
theorem IV(l:List SV):partsOf (.agg l)=l:=rfl
theorem Ei(cs:Array Value):partsOf (.v (.agg cs))=cs.toList.map .v:=rfl
theorem IW(k:IntKind)(n:Int):partsOf (.v (.int k n))=[.v (.int k n)]:=rfl
theorem Aq(b:ByteArray):partsOf (.v (.string b))=[.v (.string b)]:=rfl
theorem EP(b:Bool):partsOf (.v (.bool b))=[.v (.bool b)]:=rfl
theorem BR(a:Option Addr)(n c:Nat):partsOf (.v (.slice a n c))=[.v (.slice a n c)]:=rfl
theorem xC(a:Option Addr):partsOf (.v (.pointer a))=[.v (.pointer a)]:=rfl
theorem Cn(t:TypeId)(x:Value):partsOf (.v (.iface t x))=[.v (.iface t x)]:=rfl
theorem vy:partsOf (.v .nilIface)=[.v .nilIface]:=rfl
theorem GV(k o:Nat):partsOf (.own k o)=[.own k o]:=rfl
theorem Lb(k:Nat):partsOf (.hd k)=[.hd k]:=rfl
theorem Fy(k i:Nat):partsOf (.part k i)=[.part k i]:=rfl
theorem JQ(t:TypeId)(x:SV):partsOf (.ifc t x)=[.ifc t x]:=rfl
theorem SA(k:IntKind)(n:Int):dm (.v (.int k n))=true:=rfl
theorem Gf(b:ByteArray):dm (.v (.string b))=true:=rfl
theorem LS(b:Bool):dm (.v (.bool b))=true:=rfl
theorem IA(a:Option Addr)(n c:Nat):dm (.v (.slice a n c))=true:=rfl
theorem BY(a:Option Addr):dm (.v (.pointer a))=true:=rfl
theorem I0(t:TypeId)(x:Value):dm (.v (.iface t x))=true:=rfl
theorem yF:dm (.v .nilIface)=true:=rfl
theorem Um(k o:Nat):dm (.own k o)=true:=rfl
theorem Yz(k:Nat):dm (.hd k)=true:=rfl
theorem Kv(k i:Nat):dm (.part k i)=true:=rfl
theorem Sb(t:TypeId)(x:SV):dm (.ifc t x)=true:=rfl
theorem J4(T:TypeId)(vs:List SV):cy (some (.cells T vs))=some vs:=rfl
theorem Rf(T:TypeId)(s n:Nat)(vs:List SV):cy (some (.row T s n vs))=some vs:=rfl
theorem Fj(T:TypeId)(vs:List SV)(o:Nat)(ps:List SV):pP (some (.cells T vs)) o ps=some (.cells T (av vs o ps)):=rfl
theorem La(T:TypeId)(s n:Nat)(vs:List SV)(o:Nat)(ps:List SV):pP (some (.row T s n vs)) o ps=some (.row T s n (av vs o ps)):=rfl
section
variable {κ:Nat}{h:Hp}
def Mn(κ:Nat)(T:TypeId):Option (List Value)->R
 |some zs=>⟨True,.own (8*κ) 0,[(8*κ,some (.cells T (zs.map .v)))],none,[],[]⟩
 |none=>.bad
theorem Ha(T:TypeId):jb P κ T=Mn κ T (tz P T):=by simp only[jb];unfold Mn;cases tz P T<;>rfl
theorem GH(T:TypeId)(zs:List Value):Mn κ T (some zs)=⟨True,.own (8*κ) 0,[(8*κ,some (.cells T (zs.map .v)))],none,[],[]⟩:=rfl
theorem SB(T:TypeId)(x:SV):uW κ T [x]=⟨True,.own (8*κ) 0,[(8*κ,some (.cells T (partsOf x)))],none,[],[]⟩:=rfl
def ON(o k:Nat):Option Nat->Option Bool->Option (List SV)->R
 |some sz,some true,some vs=>⟨o+sz<=vs.length/\0<sz,.agg ((vs.drop o).take sz),[],none,[],[k]⟩
 |some _,some false,some vs=>⟨o<vs.length,vs.getD o (.v undef),[],none,[],[k]⟩
 |_,_,_=>.bad
theorem G1(T:TypeId)(k o:Nat):dR P W bs h T [.own k o]=ON o k (ts P T) (ta P T) (cy (h k)):=by
 simp only[dR];unfold ON;rcases ts P T with _|sz<;>rcases ta P T with _|_|_<;>rcases cy (h k) with _|vs<;>rfl
theorem T3(o k sz:Nat)(vs:List SV):ON o k (some sz) (some true) (some vs)=⟨o+sz<=vs.length/\0<sz,.agg ((vs.drop o).take sz),[],none,[],[k]⟩:=rfl
theorem TR(o k sz:Nat)(vs:List SV):ON o k (some sz) (some false) (some vs)=⟨o<vs.length,vs.getD o (.v undef),[],none,[],[k]⟩:=rfl
def PR(W:World)(bs:List Nat)(b o:Nat):Option Nat->Option Bool->R
 |some sz,some true=>⟨b∉bs/\dK W b o sz,.agg (bW W b o sz),[],none,[],[]⟩
 |some _,some false=>⟨b∉bs/\(W.cell? ⟨b,o,none⟩).isSome=true,.v ((W.cell? ⟨b,o,none⟩).getD undef),[],none,[],[]⟩
 |_,_=>.bad
theorem Jb(T:TypeId)(b o:Nat):dR P W bs h T [.v (.pointer (some ⟨b,o,none⟩))]=PR W bs b o (ts P T) (ta P T):=by
 simp only[dR];unfold PR;rcases ts P T with _|sz<;>rcases ta P T with _|_|_<;>rfl
theorem UN(b o sz:Nat):PR W bs b o (some sz) (some true)=⟨b∉bs/\dK W b o sz,.agg (bW W b o sz),[],none,[],[]⟩:=rfl
theorem Rh(b o sz:Nat):PR W bs b o (some sz) (some false)=⟨b∉bs/\(W.cell? ⟨b,o,none⟩).isSome=true,.v ((W.cell? ⟨b,o,none⟩).getD undef),[],none,[],[]⟩:=rfl
theorem Hz(b o:Nat):bW W b o 0=[]:=rfl
theorem H4(b o n:Nat):bW W b o (n+1)=.v ((W.cell? ⟨b,o,none⟩).getD undef)::bW W b (o+1) n:=rfl
theorem HA(b o:Nat):dK W b o 0=True:=rfl
theorem J8(b o n:Nat):dK W b o (n+1)=((W.cell? ⟨b,o,none⟩).isSome=true/\dK W b (o+1) n):=rfl
def N2(e:Option aT)(k o:Nat)(x:SV):Option Nat->Option (List SV)->R
 |some sz,some vs=>⟨(partsOf x).length=sz/\o+sz<=vs.length/\(0<sz\/isC e=true)/\(partsOf x).all dm=true,.v undef,[(k,pP e o (partsOf x))],none,[],[k]⟩
 |_,_=>.bad
theorem FZ(T:TypeId)(k o:Nat)(x:SV):iN P h T [.own k o,x]=N2 (h k) k o x (ts P T) (cy (h k)):=by
 simp only[iN];unfold N2;rcases ts P T with _|sz<;>rcases cy (h k) with _|vs<;>rfl
theorem I6(e:Option aT)(k o sz:Nat)(x:SV)(vs:List SV):N2 e k o x (some sz) (some vs)=⟨(partsOf x).length=sz/\o+sz<=vs.length/\(0<sz\/isC e=true)/\(partsOf x).all dm=true,.v undef,[(k,pP e o (partsOf x))],none,[],[k]⟩:=rfl
theorem Q1(T:TypeId)(vs:List SV):isC (some (.cells T vs))=true:=rfl
def faK(k o:Nat):Option (Nat×Nat×Bool)->Option (List SV)->R
 |some (off,sz,_),some vs=>⟨0<sz/\o<vs.length,.own k (o+off),[],none,[],[k]⟩
 |_,_=>.bad
theorem vJ(T:TypeId)(f k o:Nat):cJ P h T f [.own k o]=faK k o (tf P T f) (cy (h k)):=by
 simp only[cJ];unfold faK;rcases tf P T f with _|⟨a,b,c⟩<;>rcases cy (h k) with _|vs<;>rfl
theorem aaG(k o off sz:Nat)(ag:Bool)(vs:List SV):faK k o (some (off,sz,ag)) (some vs)=⟨0<sz/\o<vs.length,.own k (o+off),[],none,[],[k]⟩:=rfl
def faX(b o:Nat):Option (Nat×Nat×Bool)->R
 |some (off,sz,_)=>⟨0<sz,.v (.pointer (some ⟨b,o+off,none⟩)),[],none,[],[]⟩
 |_=>.bad
theorem uK(T:TypeId)(f b o:Nat):cJ P h T f [.v (.pointer (some ⟨b,o,none⟩))]=faX b o (tf P T f):=by
 simp only[cJ];unfold faX;rcases tf P T f with _|⟨a,b,c⟩<;>rfl
theorem Ya(b o off sz:Nat)(ag:Bool):faX b o (some (off,sz,ag))=⟨0<sz,.v (.pointer (some ⟨b,o+off,none⟩)),[],none,[],[]⟩:=rfl
def uA(l:List SV):Option (Nat×Nat×Bool)->R
 |some (off,sz,ag)=>fM ag off sz l
 |none=>.bad
theorem F5(T:TypeId)(f:Nat)(l:List SV):ia P T f [.agg l]=uA l (tf P T f):=by
 simp only[ia];unfold uA;rcases tf P T f with _|⟨a,b,c⟩<;>rfl
theorem Ck(T:TypeId)(f:Nat)(cs:Array Value):ia P T f [.v (.agg cs)]=uA (cs.toList.map .v) (tf P T f):=by
 simp only[ia];unfold uA;rcases tf P T f with _|⟨a,b,c⟩<;>rfl
theorem LQ(l:List SV)(off sz:Nat):uA l (some (off,sz,true))=⟨off+sz<=l.length,.agg ((l.drop off).take sz),[],none,[],[]⟩:=rfl
theorem LW(l:List SV)(off sz:Nat):uA l (some (off,sz,false))=⟨off<l.length,l.getD off (.v undef),[],none,[],[]⟩:=rfl
theorem zo(i:Nat)(l:List SV):fe i [.tup l]=⟨i<l.length,l.getD i (.v undef),[],none,[],[]⟩:=rfl
theorem xE(i:Nat)(vs:Array Value):fe i [.v (.tuple vs)]=⟨i<vs.size,.v (vs.getD i undef),[],none,[],[]⟩:=rfl
theorem Ng(eqs:(T:TypeId)->Option (EqSpec P T))(T:TypeId)(k k' : IntKind)(a b:Int):aV P eqs .shl T [.v (.int k a),.v (.int k' b)]=⟨0<=b,.v (.int k (k.wrap (a*2 ^ (min b.toNat k.bits)))),[],none,[],[]⟩:=rfl
theorem K1(eqs:(T:TypeId)->Option (EqSpec P T))(T:TypeId)(k k' : IntKind)(a b:Int):aV P eqs .shr T [.v (.int k a),.v (.int k' b)]=⟨0<=b,.v (.int k (a.fdiv (2 ^ (min b.toNat k.bits)))),[],none,[],[]⟩:=rfl
theorem NG(eqs:(T:TypeId)->Option (EqSpec P T))(T:TypeId)(k:IntKind)(a b:Int) :
  aV P eqs .add T [.v (.int k a),.v (.int k b)]=⟨True,.v (.int k (k.wrap (a+b))),[],none,[],[]⟩ /\
  aV P eqs .sub T [.v (.int k a),.v (.int k b)]=⟨True,.v (.int k (k.wrap (a-b))),[],none,[],[]⟩ /\
  aV P eqs .mul T [.v (.int k a),.v (.int k b)]=⟨True,.v (.int k (k.wrap (a*b))),[],none,[],[]⟩ /\
  aV P eqs .quo T [.v (.int k a),.v (.int k b)]=⟨b≠0,.v (.int k (k.wrap (a.tdiv b))),[],none,[],[]⟩ /\
  aV P eqs .rem T [.v (.int k a),.v (.int k b)]=⟨b≠0,.v (.int k (a.tmod b)),[],none,[],[]⟩ /\
  aV P eqs .and T [.v (.int k a),.v (.int k b)]=⟨True,.v (.int k (cw .and k a b)),[],none,[],[]⟩ /\
  aV P eqs .or T [.v (.int k a),.v (.int k b)]=⟨True,.v (.int k (cw .or k a b)),[],none,[],[]⟩ /\
  aV P eqs .xor T [.v (.int k a),.v (.int k b)]=⟨True,.v (.int k (cw .xor k a b)),[],none,[],[]⟩ /\
  aV P eqs .eql T [.v (.int k a),.v (.int k b)]=⟨True,.v (.bool (decide (a=b))),[],none,[],[]⟩ /\
  aV P eqs .neq T [.v (.int k a),.v (.int k b)]=⟨True,.v (.bool (!decide (a=b))),[],none,[],[]⟩ /\
  aV P eqs .lss T [.v (.int k a),.v (.int k b)]=⟨True,.v (.bool (decide (a<b))),[],none,[],[]⟩ /\
  aV P eqs .leq T [.v (.int k a),.v (.int k b)]=⟨True,.v (.bool (decide (a<=b))),[],none,[],[]⟩ /\
  aV P eqs .gtr T [.v (.int k a),.v (.int k b)]=⟨True,.v (.bool (decide (b<a))),[],none,[],[]⟩ /\
  aV P eqs .geq T [.v (.int k a),.v (.int k b)]=⟨True,.v (.bool (decide (b<=a))),[],none,[],[]⟩:=by
 simp[aV,Cm,R.iu]
theorem Lc(eqs:(T:TypeId)->Option (EqSpec P T))(T:TypeId)(a b:ByteArray) :
  aV P eqs .add T [.v (.string a),.v (.string b)]=⟨a.size+b.size<=9223372036854775807,.v (.string (a++b)),[],none,[],[]⟩ /\
  aV P eqs .eql T [.v (.string a),.v (.string b)]=⟨True,.v (.bool (decide (a=b))),[],none,[],[]⟩ /\
  aV P eqs .neq T [.v (.string a),.v (.string b)]=⟨True,.v (.bool (!decide (a=b))),[],none,[],[]⟩ /\
  aV P eqs .lss T [.v (.string a),.v (.string b)]=⟨True,.v (.bool (Op.bytesLess a.toList b.toList)),[],none,[],[]⟩ /\
  aV P eqs .gtr T [.v (.string a),.v (.string b)]=⟨True,.v (.bool (!(Op.bytesLess a.toList b.toList||decide (a=b)))),[],none,[],[]⟩:=by
 simp[aV,Uc,R.iu]
theorem GF(eqs:(T:TypeId)->Option (EqSpec P T))(T:TypeId)(a b:Bool) :
  aV P eqs .eql T [.v (.bool a),.v (.bool b)]=⟨P.underlying T=some .bool,.v (.bool (a == b)),[],none,[],[]⟩ /\
  aV P eqs .neq T [.v (.bool a),.v (.bool b)]=⟨P.underlying T=some .bool,.v (.bool (!(a == b))),[],none,[],[]⟩:=⟨rfl,rfl⟩
def dv:List SV->Option (List Value)
 |[]=>some []
 |.v x::r=>(dv r).map (x::·)
 |_=>none
theorem lX:∀ l:List SV,pX (.agg l)=dv l
 |[]=>rfl
 |x::r=>by
  have ih:=lX r;simp only[pX]at ih ⊢;rw[List.mapM_cons,ih];cases x<;>simp[dv]<;>cases dv r<;>rfl
theorem AX(cs:Array Value):pX (.v (.agg cs))=some cs.toList:=rfl
theorem SN:dv []=some []:=rfl
theorem K6(x:Value)(r:List SV):dv (.v x::r)=(dv r).map (x::·):=rfl
def UU{T:TypeId}(neg:Bool):Option (List Value)->Option (List Value)->Option (EqSpec P T)->R
 |some xs,some ys,some e=>⟨(e.f xs ys).isSome=true,.v (.bool (neg ^^ (e.f xs ys).getD false)),[],none,[],[]⟩
 |_,_,_=>.bad
theorem KW(eqs:(T:TypeId)->Option (EqSpec P T))(T:TypeId)(l l' : List SV) :
  aV P eqs .eql T [.agg l,.agg l']=UU false (dv l) (dv l') (eqs T)/\aV P eqs .neq T [.agg l,.agg l']=UU true (dv l) (dv l') (eqs T):=by
 simp only[aV,lX,AX];constructor<;>(unfold UU;rcases dv l with _|xs<;>rcases dv l' with _|ys<;>rcases eqs T with _|e<;>simp[R.iu])
theorem Im(eqs:(T:TypeId)->Option (EqSpec P T))(T:TypeId)(cs cs' : Array Value) :
  aV P eqs .eql T [.v (.agg cs),.v (.agg cs')]=UU false (some cs.toList) (some cs'.toList) (eqs T)/\aV P eqs .neq T [.v (.agg cs),.v (.agg cs')]=UU true (some cs.toList) (some cs'.toList) (eqs T):=by
 simp only[aV,lX,AX];refine⟨?_,?_⟩<;>(unfold UU;rcases eqs T with _|e<;>simp[R.iu])
theorem IN(eqs:(T:TypeId)->Option (EqSpec P T))(T:TypeId)(cs:Array Value)(l:List SV) :
  aV P eqs .eql T [.v (.agg cs),.agg l]=UU false (some cs.toList) (dv l) (eqs T)/\aV P eqs .neq T [.v (.agg cs),.agg l]=UU true (some cs.toList) (dv l) (eqs T) /\
  aV P eqs .eql T [.agg l,.v (.agg cs)]=UU false (dv l) (some cs.toList) (eqs T)/\aV P eqs .neq T [.agg l,.v (.agg cs)]=UU true (dv l) (some cs.toList) (eqs T):=by
 simp only[aV,lX,AX];refine⟨?_,?_,?_,?_⟩<;>(unfold UU;rcases dv l with _|xs<;>rcases eqs T with _|e<;>simp[R.iu])
theorem XL{T:TypeId}(neg:Bool)(xs ys:List Value)(e:EqSpec P T):UU neg (some xs) (some ys) (some e)=⟨(e.f xs ys).isSome=true,.v (.bool (neg ^^ (e.f xs ys).getD false)),[],none,[],[]⟩:=rfl
theorem T9(b:Bool):tq .not [.v (.bool b)]=⟨True,.v (.bool (!b)),[],none,[],[]⟩:=rfl
theorem Ug(k:IntKind)(n:Int):tq .neg [.v (.int k n)]=⟨True,.v (.int k (k.wrap (0-n))),[],none,[],[]⟩:=rfl
theorem MO(T:TypeId)(s:ByteArray):iR P h T [.v (.string s)]=⟨P.underlying T=some .string,.v (.int .i64 s.size),[],none,[],[]⟩:=rfl
theorem Ft(T:TypeId)(a:Option Addr)(n c:Nat):iR P h T [.v (.slice a n c)]=⟨∃ e,P.underlying T=some (.slice e),.v (.int .i64 n),[],none,[],[]⟩:=rfl
def ajP(P:Program)(T:TypeId)(k:Nat):Option aT->R
 |some (.row _ _ n _)=>⟨∃ e,P.underlying T=some (.slice e),.v (.int .i64 n),[],none,[],[k]⟩
 |_=>.bad
theorem Rj(T:TypeId)(k:Nat):iR P h T [.hd k]=ajP P T k (h k):=by
 simp only[iR];unfold ajP;rcases h k with _|e
 ·rfl
 ·cases e<;>rfl
theorem ZM(T T' : TypeId)(k s n:Nat)(vs:List SV):ajP P T k (some (.row T' s n vs))=⟨∃ e,P.underlying T=some (.slice e),.v (.int .i64 n),[],none,[],[k]⟩:=rfl
def ixK(P:Program)(k:Nat)(i:Int):Option TypeDesc->Option aT->R
 |some (.slice e),some (.row _ size n _)=>⟨ts P e=some size/\0<=i/\i<n/\0<size,.own k (i.toNat*size),[],none,[],[k]⟩
 |_,_=>.bad
theorem xP(T:TypeId)(k:Nat)(ik:IntKind)(i:Int):bA P h T [.hd k,.v (.int ik i)]=ixK P k i (P.underlying T) (h k):=by
 simp only[bA];unfold ixK;rcases P.underlying T with _|d<;>rcases h k with _|e
 ·rfl
 ·cases e<;>rfl
 ·cases d<;>rfl
 ·cases d<;>cases e<;>rfl
theorem Ve(e e' : TypeId)(k size n:Nat)(i:Int)(vs:List SV):ixK P k i (some (.slice e)) (some (.row e' size n vs))=⟨ts P e=some size/\0<=i/\i<n/\0<size,.own k (i.toNat*size),[],none,[],[k]⟩:=rfl
def ixY(b o n:Nat)(i:Int):Option Nat->R
 |some sz=>⟨0<=i/\i<n,.v (.pointer (some ⟨b,o+i.toNat*sz,none⟩)),[],none,[],[]⟩
 |none=>.bad
def ixX(P:Program)(b o n:Nat)(i:Int):Option TypeDesc->R
 |some (.slice e)=>ixY b o n i (ts P e)
 |_=>.bad
theorem ve(T:TypeId)(b o n c:Nat)(ik:IntKind)(i:Int):bA P h T [.v (.slice (some ⟨b,o,none⟩) n c),.v (.int ik i)]=ixX P b o n i (P.underlying T):=by
 simp only[bA];unfold ixX;rcases P.underlying T with _|d
 ·rfl
 ·cases d<;>rfl
theorem Uy(e:TypeId)(b o n:Nat)(i:Int):ixX P b o n i (some (.slice e))=ixY b o n i (ts P e):=rfl
def ixH(b o:Nat)(i:Int)(n:Nat):Option Nat->R
 |some sz=>⟨0<=i/\i<n/\1<n,.v (.pointer (some ⟨b,o+i.toNat*sz,none⟩)),[],none,[],[]⟩
 |none=>.bad
def ixG(P:Program)(b o:Nat)(i:Int):Option TypeDesc->R
 |some (.array n e)=>ixH b o i n (ts P e)
 |_=>.bad
theorem u7(T:TypeId)(b o:Nat)(ik:IntKind)(i:Int):bA P h T [.v (.pointer (some ⟨b,o,none⟩)),.v (.int ik i)]=ixG P b o i (P.underlying T):=by
 simp only[bA];unfold ixG;rcases P.underlying T with _|d
 ·rfl
 ·cases d
  case array n e=>unfold ixH;cases ts P e<;>rfl
  all_goals rfl
theorem TU(b o n:Nat)(i:Int)(e:TypeId):ixG P b o i (some (.array n e))=ixH b o i n (ts P e):=rfl
theorem aa1(b o n sz:Nat)(i:Int):ixH b o i n (some sz)=⟨0<=i/\i<n/\1<n,.v (.pointer (some ⟨b,o+i.toNat*sz,none⟩)),[],none,[],[]⟩:=rfl
theorem Z6(b o n:Nat)(i:Int)(sz:Nat):ixY b o n i (some sz)=⟨0<=i/\i<n,.v (.pointer (some ⟨b,o+i.toNat*sz,none⟩)),[],none,[],[]⟩:=rfl
theorem F0(T:TypeId)(s:ByteArray)(ik:IntKind)(i:Int):gm P T [.v (.string s),.v (.int ik i)]=⟨P.underlying T=some .string/\0<=i/\i<s.size,.v (.int .u8 (bt s i)),[],none,[],[]⟩:=rfl
theorem Gp(T:TypeId)(s:ByteArray)(k k' : IntKind)(a b:Int):dF P T true true false [.v (.string s),.v (.int k a),.v (.int k' b)]=⟨P.underlying T=some .string/\0<=a/\a<=b/\b<=s.size,.v (.string (s.extract a.toNat b.toNat)),[],none,[],[]⟩:=by
 simp[dF,jx,nI,R.iu]
theorem ED(T:TypeId)(s:ByteArray)(k:IntKind)(a:Int):dF P T true false false [.v (.string s),.v (.int k a)]=⟨P.underlying T=some .string/\0<=a/\a<=s.size,.v (.string (s.extract a.toNat s.size)),[],none,[],[]⟩:=by
 simp[dF,jx,nI,R.iu]
theorem Fa(T:TypeId)(s:ByteArray)(k' : IntKind)(b:Int):dF P T false true false [.v (.string s),.v (.int k' b)]=⟨P.underlying T=some .string/\0<=b/\b<=s.size,.v (.string (s.extract 0 b.toNat)),[],none,[],[]⟩:=by
 simp[dF,jx,nI,R.iu]
theorem xO(a:Addr):dI h [.v (.pointer (some a))]=⟨True,.v (.pointer (some a)),[],none,[],[]⟩:=rfl
theorem Y9(T:TypeId)(x:Value):ov P T [.v x]=⟨P.concrete T=true,.v (.iface T x),[],none,[],[]⟩:=rfl
end
end
end
section
def ev1:=(aa @afB (aa @aas (aa @afN (aa @VM (aa @Rt (aa @ag8 (aa @YZ (aa @ZE (aa @aao (aa @Un (aa @VH (aa @UE (aa @ahg (aa @ajU (aa @aeu (aa @TG (aa @LD (aa @ZY (aa @adl (aa @U5 (aa @ajF (aa @Xz (aa @Wa (aa @S2 (aa @abM (aa @ZQ (aa @adF (aa @ajj (aa @LZ (aa @Wk (aa @Rq (aa @Rn (aa @Yo (aa @UA (aa @adg (aa @U7 (aa @abT (aa @XA (aa @NI (aa @Kt (aa @YQ (aa @KR (aa @Sm (aa @acF (aa @TQ (aa @yV (aa @XI (aa @T0 (aa @E8 (aa @TT @aah))))))))))))))))))))))))))))))))))))))))))))))))))
def ev2:=(aa @Ii (aa @B8 (aa @To (aa @tj (aa @SU <| aa @NQ (aa @BL (aa @TH (aa @BW (aa @TN (aa @Jv (aa @abw (aa @LL (aa @VD (aa @N0 (aa @QU (aa @ale (aa @am2 (aa @alp (aa @akW (aa @UB (aa @NB (aa @IV (aa @Ei (aa @IW (aa @Aq (aa @EP (aa @BR (aa @xC (aa @Cn (aa @vy (aa @GV (aa @Lb (aa @Fy (aa @JQ (aa @SA (aa @Gf (aa @LS (aa @IA (aa @BY (aa @I0 (aa @yF (aa @Um (aa @Yz (aa @Kv (aa @Sb (aa @J4 (aa @Rf (aa @Fj (aa @La (aa @Ha @GH))))))))))))))))))))))))))))))))))))))))))))))))))
def ev3:=(aa @u7 (aa @TU (aa @aa1 (aa @Q1 (aa @true_or (aa @SB (aa @G1 (aa @T3 (aa @TR (aa @Jb (aa @UN (aa @Rh (aa @Hz (aa @H4 (aa @HA (aa @J8 (aa @FZ (aa @I6 (aa @vJ (aa @aaG (aa @uK (aa @Ya (aa @F5 (aa @Ck (aa @LQ (aa @LW (aa @zo (aa @xE (aa @Ng (aa @K1 (aa @NG (aa @Lc (aa @GF (aa @SN (aa @K6 (aa @KW (aa @Im (aa @IN (aa @XL (aa @T9 (aa @Ug (aa @MO (aa @Ft (aa @Rj (aa @ZM (aa @xP (aa @Ve (aa @ve (aa @Uy (aa @Z6 (aa @F0 (aa @Gp (aa @ED (aa @Fa (aa @xO @Y9)))))))))))))))))))))))))))))))))))))))))))))))))))))))
end
section
open Go.RowKit
def r8:List Value->Nat->List (Nat×FV)
 |[],_=>[]
 |x::r,i=>(i,.is (.v x))::r8 r (i+1)
theorem aaP(i:Nat):r8 [] i=[]:=rfl
theorem QV(x:Value)(r:List Value)(i:Nat):r8 (x::r) i=(i,.is (.v x))::r8 r (i+1):=rfl
def σ0(args:List Value):St:=⟨0,bm (r8 args 0),aY []⟩
theorem mZ:∀ (l:List Value) (i t:Nat),(bm (r8 l i) t).keys=[]
 |[],_,_=>rfl
 |x::r,i,t=>by
  simp only[r8,bm,bu];split
  ·rfl
  ·exact mZ r (i+1) t
theorem nE(E:Nat->Value):∀ (l:List Value) (i t:Nat) (tm:Nat->Value),(∀ j (h:j<l.length),tm (i+j)=l[j])->fits E (bm (r8 l i) t) (tm t)
 |[],_,_,_,_=>trivial
 | x::r,i,t,tm,h=>by
  simp only[r8,bm,bu];split
  ·rename_i ht;subst ht;have:=h 0 sI;simpa [fits,den] using this
  ·exact nE E r (i+1) t tm λj hj=>by
    have:=h (j+1) (by simpa using hj);rw[show i+1+j=i+(j+1) by omega];simpa using this
theorem qS{w:World}{nt m:Nat}(args:Array Value)(hnt:args.size+m=nt) :
  Sat w [] nt ⟨[],[]⟩ (σ0 args.toList) { tmps:=args++Array.replicate m undef,defers:=[] } w:=by
 refine⟨⟨λ_=>undef,λ_=>[],λt=>?_,⟨λk e h=>(by cases h),λk e h=>(by cases h),λk e h=>(by cases h),λk k' e e' _ h=>(by cases h),ah.refl w []⟩,λp hp=>(by cases hp)⟩,by simpa using hnt,rfl,λp hp=>(by cases hp),λt k hk=>?_,λk e h=>(by cases h)⟩
 ·refine nE _ args.toList 0 t (λt=>(args++Array.replicate m undef).getD t undef) λj hj=>?_
  have hj' : j<args.size:=by simpa using hj
  rw[Nat.zero_add,Array.getD_eq_getD_getElem?,Array.getElem?_append_left hj',Array.getElem?_eq_getElem hj'];rfl
 ·simp only[σ0,mZ]at hk;cases hk
section
variable {P:Program}{f:FuncId}{fn:Func}{c:Code}{args:Array Value}{w:World}{nt:Nat}
theorem af{v:Value}(rs:List ResultVar)(hf:P.funcs[f]?=some fn)(hb:fn.body=some c)(hrs:fn.results.toList=rs)(hnt:args.size+(fn.ntmps-args.size)=nt)
  (h:Wp P w [] nt ⟨[],[]⟩ c (Fin P rs (λ_ _ x _=>∀ E,den E x=v) (λ_ _=>False)) (σ0 args.toList)) :
  Calls P f args w λe w' => e=.returned v/\ah w [] w' := by
 subst hrs;refine (ki hf hb (qS args hnt) h).mono λe w' he=>?_
 cases e with
 |returned u=>
  obtain⟨W',bs',E,F,x,h,hx,hR,rfl,hs,_⟩:=he;exact⟨by rw[hR E],hx.eo hs.keeps⟩
 |panicked c=>obtain⟨_,_,_,_,_,_,hf,_⟩:=he;exact hf.elim
 |outgrown=>exact he.elim
def amU(T:TypeId)(s n:Nat)(vs:List Value)(x:SV)(h:Hp):Prop:=0<s/\((∃ k,x=.hd k/\h k=some (.row T s n (vs.map .v)))\/(x=.v bI/\n=0/\vs=[]))
theorem mm{T:TypeId}{s n:Nat}{vs:List Value}(g:Value->Value)(rs:List ResultVar)(hf:P.funcs[f]?=some fn)(hb:fn.body=some c)(hrs:fn.results.toList=rs)(hnt:args.size+(fn.ntmps-args.size)=nt)
  (h:Wp P w [] nt ⟨[],[]⟩ c (Fin P rs (λ_ _ x h=>∃ y,amU T s n vs y h/\∀ E,den E x=g (den E y)) (λ_ _=>False)) (σ0 args.toList)) :
  Calls P f args w λe w' => ∃ u fp,e=.returned (g u)/\(∀ E',a6 E' u fp w' (.row T s n (vs.map .v)))/\(∀ b∈fp,w.heap.size<=b/\b<w'.heap.size)/\ah w [] w' := by
 subst hrs;refine (ki hf hb (qS args hnt) h).mono λe w' he=>?_
 cases e with
 | returned u=>
  obtain⟨W',bs',E,F,x,h,hx,⟨y,⟨hs0,hR⟩,hg⟩,rfl,hs,_⟩:=he;rcases hR with ⟨k,rfl,hk⟩|⟨rfl,rfl,rfl⟩
  ·have hent:=hs.ent k _ hk;refine⟨E k,F k,by rw[hg E];simp only[den];rw[kG (dP hent)],λE' => ?_,λb hb=>⟨?_,hs.lt k _ hk b hb⟩,hx.eo hs.keeps⟩
   ·simpa [a6,aJ] using hent
   ·exact ((hs.back hx).mine k _ hk b hb).resolve_right sI
  ·exact⟨bI,[],by rw[hg E];rfl,λE' => ⟨⟨by simp[au],.inl ⟨rfl,rfl⟩⟩,rfl⟩,λb hb=>(by cases hb),hx.eo hs.keeps⟩
 |panicked c=>obtain⟨_,_,_,_,_,_,hf,_⟩:=he;exact hf.elim
 |outgrown=>exact he.elim
end
inductive AV where
 |val (v:Value)
 |row (T:TypeId) (s n:Nat) (vs:List Value)
def kJ(k:Nat):Option aT->Option (AV×List Nat)
 |some (.row T s n us)=>(dv us).map λvs=>(.row T s n vs,[k])
 |_=>none
def cM(h:Hp):SV->Option (AV×List Nat)
 |.v x=>some (.val x,[])
 |.agg l=>(dv l).map λvs=>(.val (.agg vs.toArray),[])
 |.hd k=>kJ k (h k)
 |_=>none
def lU:Option (AV×List Nat)->Option (List AV×List Nat)->Option (List AV×List Nat)
 |some (a,r),some (as_,rs)=>some (a::as_,r++rs)
 |_,_=>none
def aC(h:Hp):List SV->Option (List AV×List Nat)
 |[]=>some ([],[])
 |x::r=>lU (cM h x) (aC h r)
def Ao(w:World)(u:Value):AV->Prop
 |.val v=>u=v
 |.row T s n vs=>w.ownsRow 0 T s u n vs
def fX(w:World):List Value->List AV->Prop
 |[],[]=>True
 |u::r,a::s=>Ao w u a/\fX w r s
 |_,_=>False
theorem vt{E:Nat->Value}:∀ {l:List SV} {vs:List Value},dv l=some vs->au E l=vs
 |[],vs,h=>by simp[dv]at h;subst h;rfl
 | x::r,vs,h=>by
  cases x with
  |v x=>
   simp only[dv,Option.map_eq_some_iff]at h;obtain⟨ws,h1,rfl⟩:=h;simp[au,den,vt h1]
  |_=>simp[dv]at h
section
variable {P:Program}{W:World}{bs:List Nat}{E:Nat->Value}{F:Nat->List Nat}{h:Hp}{w:World}
theorem Cv(hs:ai W bs E F h w){x:SV}{a:AV}{r:List Nat}(hv:cM h x=some (a,r)):Ao w (den E x) a:=by
 cases x with
 |v x=>simp[cM]at hv;obtain⟨rfl,rfl⟩:=hv;rfl
 |agg l=>
  simp only[cM,Option.map_eq_some_iff,Prod.mk.injEq]at hv;obtain⟨vs,h1,rfl,rfl⟩:=hv;simp[Ao,den,vt h1]
 | hd k=>
  simp only[cM]at hv;cases hk:h k with
  |none=>rw[hk]at hv;simp[kJ]at hv
  | some e=>
   cases e with
   |row T s n us=>
    rw[hk]at hv;simp only[kJ,Option.map_eq_some_iff,Prod.mk.injEq]at hv;obtain⟨vs,h1,rfl,rfl⟩:=hv;have:=hs.ent k _ hk;simp only[Ao,den];rw[kG (dP this),<- vt (E:=E) h1];exact this.1
   |cells T vs=>rw[hk]at hv;simp[kJ]at hv
   |obj d R=>rw[hk]at hv;simp[kJ]at hv
 |own k o=>simp[cM]at hv
 |tup l=>simp[cM]at hv
 |ifc t x=>simp[cM]at hv
 |part k i=>simp[cM]at hv
 |fn f a c=>simp[cM]at hv
theorem eR(hs:ai W bs E F h w):∀ {l:List SV} {as_:List AV} {r:List Nat},aC h l=some (as_,r)->fX w (au E l) as_
 |[],as_,r,hv=>by simp[aC]at hv;obtain⟨rfl,rfl⟩:=hv;trivial
 | x::l,as_,r,hv=>by
  simp only[aC]at hv;cases h1:cM h x with
  |none=>rw[h1]at hv;simp[lU]at hv
  | some p=>
   cases h2:aC h l with
   |none=>rw[h1,h2]at hv;simp[lU]at hv
   |some q=>
    obtain⟨a,ra⟩:=p;obtain⟨as',rs⟩:=q;rw[h1,h2]at hv;simp only[lU,Option.some.injEq,Prod.mk.injEq]at hv;obtain⟨rfl,rfl⟩:=hv;exact⟨Cv hs h1,eR hs h2⟩
theorem DO{h' : Hp}{x:SV}{a:AV}{r:List Nat}(hv:cM h x=some (a,r))(hr:∀ k∈r,h' k=h k):cM h' x=some (a,r):=by
 cases x with
 | hd k=>
  simp only[cM]at hv ⊢;have:k∈r:=by
   cases hk:h k with
   |none=>rw[hk]at hv;simp[kJ]at hv
   |some e=>
    cases e<;>rw[hk]at hv<;>simp[kJ]at hv;obtain⟨vs,h1,rfl,rfl⟩:=hv;simp
  rw[hr k this];exact hv
 |_=>exact hv
theorem du{h' : Hp}:∀ {l:List SV} {as_:List AV} {r:List Nat},aC h l=some (as_,r)->(∀ k∈r,h' k=h k)->aC h' l=some (as_,r)
 |[],_,_,hv,_=>hv
 | x::l,as_,r,hv,hr=>by
  simp only[aC]at hv ⊢;cases h1:cM h x with
  |none=>rw[h1]at hv;simp[lU]at hv
  | some p=>
   cases h2:aC h l with
   |none=>rw[h1,h2]at hv;simp[lU]at hv
   |some q=>
    obtain⟨a,ra⟩:=p;obtain⟨as',rs⟩:=q;rw[h1,h2]at hv;simp only[lU,Option.some.injEq,Prod.mk.injEq]at hv;obtain⟨rfl,rfl⟩:=hv;rw[DO h1 λk hk=>hr k (by simp[hk]),du h2 λk hk=>hr k (by simp[hk])];rfl
end
structure aM (P:Program)(f:FuncId) where
 pre:World->List Nat->List AV->Prop
 res:World->List AV->Value
 enters:∀ args w,(callFunc f args).run P w=.ok (.enter f args) w
 ok:∀ (W w:World) (bs:List Nat) (us:List Value) (as_:List AV),ah W bs w->fX w us as_->pre W bs as_->Calls P f us.toArray w λe w' => e=.returned (res W as_)/\ah w [] w'
def HR(pre:World->List Nat->List AV->Prop)(res:World->List AV->Value)(W:World)(bs:List Nat):Option (List AV×List Nat)->R
 |some (as_,rs)=>⟨pre W bs as_,.v (res W as_),[],none,[],rs⟩
 |none=>.bad
def aM.spec{P:Program}{f:FuncId}(p:aM P f):Spec P f where
 ev:=λW bs _ h args=>HR p.pre p.res W bs (aC h args)
 good:=λW bs κ E F h w K args hs hK hk hx hside=>by
  rw[p.enters];cases hv:aC h args with
  |none=>rw[hv]at hside;exact hside.elim
  |some q=>
   obtain⟨as_,rs⟩:=q;rw[hv]at hside;exact uX hs (p.ok W w bs _ as_ hs.keeps (eR hs hv) hside) rfl rfl rfl
 keys:=λW bs κ h K args hK hx hside=>by
  cases hv:aC h args with
  |none=>rw[hv]at hside;exact hside.elim
  |some q=>exact aL.plain (λk hk=>by cases hk) rfl
 loc:=λW bs κ h h' args hside hr=>by
  cases hv:aC h args with
  |none=>rw[hv]at hside;exact hside.elim
  |some q=>
   obtain⟨as_,rs⟩:=q;rw[hv]at hr;rw[du hv hr]
structure vO (P:Program)(f:FuncId) where
 pre:World->List Nat->List AV->Prop
 T:TypeId
 s:Nat
 n:World->List AV->Nat
 vs:World->List AV->List Value
 tm:World->List AV->SV->SV
 g:World->List AV->Value->Value
 tmg:∀ W as_ E x,den E (tm W as_ x)=g W as_ (den E x)
 tmk:∀ W as_ x,∀ k∈(tm W as_ x).keys,k∈x.keys
 enters:∀ args w,(callFunc f args).run P w=.ok (.enter f args) w
 ok:∀ (W w:World) (bs:List Nat) (us:List Value) (as_:List AV),ah W bs w->fX w us as_->pre W bs as_->Calls P f us.toArray w λe w' =>
  ∃ u fp,e=.returned (g W as_ u)/\(∀ E',a6 E' u fp w' (.row T s (n W as_) ((vs W as_).map .v)))/\(∀ b∈fp,w.heap.size<=b/\b<w'.heap.size)/\ah w [] w'
def HQ(κ:Nat)(T:TypeId)(s:Nat)(pre:World->List Nat->List AV->Prop)(n:World->List AV->Nat)(vs:World->List AV->List Value)(tm:World->List AV->SV->SV)(W:World)(bs:List Nat):Option (List AV×List Nat)->R
 |some (as_,rs)=>⟨pre W bs as_,tm W as_ (.hd (8*κ)),[(8*κ,some (.row T s (n W as_) ((vs W as_).map .v)))],none,[],rs⟩
 |none=>.bad
def vO.spec{P:Program}{f:FuncId}(p:vO P f):Spec P f where
 ev:=λW bs κ h args=>HQ κ p.T p.s p.pre p.n p.vs p.tm W bs (aC h args)
 good:=λW bs κ E F h w K args hs hK hk hx hside=>by
  rw[p.enters];cases hv:aC h args with
  |none=>rw[hv]at hside;exact hside.elim
  |some q=>
   obtain⟨as_,rs⟩:=q;rw[hv]at hside;refine zj hs hK hk ((p.ok W w bs _ as_ hs.keeps (eR hs hv) hside).mono λe w' he=>?_) rfl rfl;obtain⟨u,fp,rfl,hent,hfp,hkeep⟩:=he;refine⟨_,u,fp,rfl,hent,hfp,hkeep,?_⟩;simp only[HQ,p.tmg,den,nk,ak];rw[kG (dP (hent E))]
 keys:=λW bs κ h K args hK hx hside=>by
  cases hv:aC h args with
  |none=>rw[hv]at hside;exact hside.elim
  | some q=>
   obtain⟨as_,rs⟩:=q;refine⟨λk hk=>.inr ?_,λq hq=>?_⟩
   ·have:=p.tmk _ _ _ k hk;simp[SV.keys]at this;subst this;exact bg κ
   ·simp only[HQ,List.mem_singleton]at hq;subst hq;refine⟨.inr (bg κ),λe he k hk=>?_⟩;simp only[Option.some.injEq]at he;subst he;simp only[aT.keys,aA]at hk;cases hk
 loc:=λW bs κ h h' args hside hr=>by
  cases hv:aC h args with
  |none=>rw[hv]at hside;exact hside.elim
  |some q=>
   obtain⟨as_,rs⟩:=q;rw[hv]at hr;rw[du hv hr]
theorem R7(h:Hp):aC h []=some ([],[]):=rfl
theorem yC(h:Hp)(x:SV)(r:List SV):aC h (x::r)=lU (cM h x) (aC h r):=rfl
theorem ab3(h:Hp)(x:Value):cM h (.v x)=some (.val x,[]):=rfl
theorem TS(h:Hp)(l:List SV):cM h (.agg l)=(dv l).map λvs=>(.val (.agg vs.toArray),[]):=rfl
theorem Xc(h:Hp)(k:Nat):cM h (.hd k)=kJ k (h k):=rfl
theorem Tq(k:Nat)(T:TypeId)(s n:Nat)(us:List SV):kJ k (some (.row T s n us))=(dv us).map λvs=>(.row T s n vs,[k]):=rfl
theorem Ny(a:AV)(r:List Nat)(as_:List AV)(rs:List Nat):lU (some (a,r)) (some (as_,rs))=some (a::as_,r++rs):=rfl
theorem aB(l:List Value):dv (l.map .v)=some l:=by
 induction l with
 |nil=>rfl
 |cons x r ih=>simp[dv,ih]
theorem Lx(pre:World->List Nat->List AV->Prop)(res:World->List AV->Value)(W:World)(bs:List Nat)(as_:List AV)(rs:List Nat):HR pre res W bs (some (as_,rs))=⟨pre W bs as_,.v (res W as_),[],none,[],rs⟩:=rfl
theorem LC(κ:Nat)(T:TypeId)(s:Nat)(pre:World->List Nat->List AV->Prop)(n:World->List AV->Nat)(vs:World->List AV->List Value)(tm:World->List AV->SV->SV)(W:World)(bs:List Nat)(as_:List AV)(rs:List Nat) :
  HQ κ T s pre n vs tm W bs (some (as_,rs))=⟨pre W bs as_,tm W as_ (.hd (8*κ)),[(8*κ,some (.row T s (n W as_) ((vs W as_).map .v)))],none,[],rs⟩:=rfl
section
variable {P:Program}{W:World}{bs:List Nat}{κ:Nat}{h:Hp}
def wI(fl:List (Nat×Nat))(cells:List SV)(l:List (Nat×SV)):Option (List SV):=dG (λi=>fl[i]?) cells l
def Zj(fl:List (Nat×Nat))(cells:List SV)(r:List (Nat×SV))(x:SV):Option (Nat×Nat)->Option (List SV)
 |some (off,size)=>if (partsOf x).length=size/\off+size<=cells.length then wI fl (av cells off (partsOf x)) r else none
 |none=>none
theorem CA(fl:List (Nat×Nat))(cells:List SV):wI fl cells []=some cells:=rfl
theorem KY(fl:List (Nat×Nat))(cells:List SV)(i:Nat)(x:SV)(r:List (Nat×SV)):wI fl cells ((i,x)::r)=Zj fl cells r x (fl[i]?):=by
 simp only[wI,dG,Zj];cases fl[i]?<;>rfl
theorem Lu(fl:List (Nat×Nat))(cells:List SV)(r:List (Nat×SV))(x:SV)(off size:Nat) :
  Zj fl cells r x (some (off,size))=if (partsOf x).length=size/\off+size<=cells.length then wI fl (av cells off (partsOf x)) r else none:=rfl
def KV:Option (List SV)->R
 |some cells=>⟨True,.agg cells,[],none,[],[]⟩
 |none=>.bad
theorem Ri(l:List SV):KV (some l)=⟨True,.agg l,[],none,[],[]⟩:=rfl
def KX(idx:List Nat)(args:List SV):Option (List Value)->Option (List (Nat×Nat))->R
 |some zs,some fl=>KV (wI fl (zs.map .v) (idx.zip args))
 |_,_=>.bad
theorem JU(idx:List Nat)(args:List SV)(zs:List Value)(fl:List (Nat×Nat)):KX idx args (some zs) (some fl)=KV (wI fl (zs.map .v) (idx.zip args)):=rfl
theorem an(T:TypeId)(idx:List Nat)(args:List SV)(hs:(sr P T).isSome=true):dN P T idx args=KX idx args (tz P T) (sr P T):=by
 have hu:∃ fs,P.underlying T=some (.struct fs):=by
  unfold sr at hs;split at hs
  ·rename_i fs hfs;exact⟨fs,hfs⟩
  ·cases hs
 obtain⟨fs,hu⟩:=hu;obtain⟨fl,hfl⟩:=Option.isSome_iff_exists.1 hs;unfold dN KX;rw[hu,hfl];cases tz P T with
 |none=>rfl
 |some zs=>
  simp only[wI,KV];cases dG (λi=>fl[i]?) (zs.map .v) (idx.zip args)<;>rfl
def ui(sz:Nat)(cells:List SV)(l:List (Nat×SV)):Option (List SV):=dG (λi=>some (i*sz,sz)) cells l
theorem TJ(sz:Nat)(cells:List SV):ui sz cells []=some cells:=rfl
theorem N6(sz:Nat)(cells:List SV)(i:Nat)(x:SV)(r:List (Nat×SV)) :
  ui sz cells ((i,x)::r)=if (partsOf x).length=sz/\i*sz+sz<=cells.length then ui sz (av cells (i*sz) (partsOf x)) r else none:=rfl
def afd(κ:Nat)(e:TypeId)(sz len:Nat)(p:Prop):Option (List SV)->R
 |some cells=>⟨p,.hd (8*κ),[(8*κ,some (.row e sz len cells))],none,[],[]⟩
 |none=>.bad
theorem Tu(e:TypeId)(sz len:Nat)(p:Prop)(l:List SV):afd κ e sz len p (some l)=⟨p,.hd (8*κ),[(8*κ,some (.row e sz len l))],none,[],[]⟩:=rfl
def bsK(κ:Nat)(e:TypeId)(len:Nat)(idx:List Nat)(args:List SV):Option Nat->Option (List Value)->R
 |some sz,some zs=>afd κ e sz len (len*sz<=16777216/\zs.length=sz/\0<sz) (ui sz ((List.replicate len zs).flatten.map .v) (idx.zip args))
 |_,_=>.bad
theorem VP(e:TypeId)(len:Nat)(idx:List Nat)(args:List SV)(sz:Nat)(zs:List Value) :
  bsK κ e len idx args (some sz) (some zs)=afd κ e sz len (len*sz<=16777216/\zs.length=sz/\0<sz) (ui sz ((List.replicate len zs).flatten.map .v) (idx.zip args)):=rfl
def bsU(P:Program)(κ:Nat)(len:Nat)(idx:List Nat)(args:List SV):Option TypeDesc->R
 |some (.slice e)=>bsK κ e len idx args (ts P e) (tz P e)
 |_=>.bad
theorem SC(len:Nat)(idx:List Nat)(args:List SV)(e:TypeId):bsU P κ len idx args (some (.slice e))=bsK κ e len idx args (ts P e) (tz P e):=rfl
theorem ab(T:TypeId)(len:Nat)(idx:List Nat)(args:List SV):bz P κ T len idx args=bsU P κ len idx args (P.underlying T):=by
 unfold bz bsU;rcases P.underlying T with _|d
 ·rfl
 ·cases d with
  | slice e=>
   simp only[bsK];rcases ts P e with _|sz<;>rcases tz P e with _|zs
   ·rfl
   ·rfl
   ·rfl
   ·simp only[afd,ui];cases dG (λi=>some (i*sz,sz)) ((List.replicate len zs).flatten.map .v) (idx.zip args)<;>rfl
  |_=>rfl
def afb(P:Program)(κ k j:Nat)(tys:List TypeId):Option aT->Option aT->R
 |some (.row e sz n vs),some (.row _ sz' m us)=>match tys,rR P e,tz P e with
  |[T,T'],some by_,some zs=>⟨T' = T/\P.underlying T=some (.slice e)/\ts P e=some sz/\zs.length=sz/\0<sz/\sz' = sz/\k≠j/\0<m/\n+m<=maxLen/\(n+m)*by_<=140737488355328/\us.all dm=true,.hd (8*κ),[(k,none),(8*κ,some (.row e sz (n+m) (vs++us)))],none,[],[k,j]⟩
  |_,_,_=>.bad
 |_,_=>.bad
theorem N7(tys:List TypeId)(k j:Nat):fN P W bs κ h tys [.hd k,.hd j]=afb P κ k j tys (h k) (h j):=by
 simp only[fN];unfold afb;rcases h k with _|e<;>rcases h j with _|e'
 ·rcases tys with _|⟨a,_|⟨b,_|_⟩⟩<;>rfl
 ·rcases tys with _|⟨a,_|⟨b,_|_⟩⟩<;>rfl
 ·rcases tys with _|⟨a,_|⟨b,_|_⟩⟩<;>cases e<;>rfl
 ·rcases tys with _|⟨a,_|⟨b,_|_⟩⟩<;>cases e<;>cases e' <;> try rfl
  rename_i T s n vs T' s' n' vs';simp only[];rcases rR P T with _|x<;>rcases tz P T with _|y<;>rfl
def aiP(P:Program)(κ k j:Nat)(T T' e sz n sz' m:Nat)(vs us:List SV):Option Nat->Option (List Value)->R
 |some by_,some zs=>⟨T' = T/\P.underlying T=some (.slice e)/\ts P e=some sz/\zs.length=sz/\0<sz/\sz' = sz/\k≠j/\0<m/\n+m<=maxLen/\(n+m)*by_<=140737488355328/\us.all dm=true,.hd (8*κ),[(k,none),(8*κ,some (.row e sz (n+m) (vs++us)))],none,[],[k,j]⟩
 |_,_=>.bad
theorem Z2(k j:Nat)(T T' e e' : TypeId)(sz n sz' m:Nat)(vs us:List SV) :
  afb P κ k j [T,T'] (some (.row e sz n vs)) (some (.row e' sz' m us))=aiP P κ k j T T' e sz n sz' m vs us (rR P e) (tz P e):=by
 simp only[afb,aiP];rcases rR P e with _|x<;>rcases tz P e with _|y<;>rfl
theorem RY(k j:Nat)(T T' e sz n sz' m:Nat)(vs us:List SV)(by_:Nat)(zs:List Value) :
  aiP P κ k j T T' e sz n sz' m vs us (some by_) (some zs)=⟨T' = T/\P.underlying T=some (.slice e)/\ts P e=some sz/\zs.length=sz/\0<sz/\sz' = sz/\k≠j/\0<m/\n+m<=maxLen/\(n+m)*by_<=140737488355328/\us.all dm=true,.hd (8*κ),[(k,none),(8*κ,some (.row e sz (n+m) (vs++us)))],none,[],[k,j]⟩:=rfl
def ahe(P:Program)(κ j:Nat)(T T' : TypeId):Option TypeDesc->Option aT->R
 |some (.slice e),some (.row _ sz m us)=>match rR P e,tz P e with
  |some by_,some zs=>⟨T' = T/\ts P e=some sz/\zs.length=sz/\0<sz/\0<m/\m<=maxLen/\m*by_<=140737488355328/\us.all dm=true,.hd (8*κ),[(8*κ,some (.row e sz m us))],none,[],[j]⟩
  |_,_=>.bad
 |_,_=>.bad
def aeJ(κ k:Nat)(T T' e:TypeId)(sz n m:Nat)(vs us:List SV)(P:Program)(q:Prop):Option Nat->Option (List Value)->R
 |some by_,some zs=>⟨T' = T/\P.underlying T=some (.slice e)/\ts P e=some sz/\zs.length=sz/\q/\n+m<=maxLen/\(n+m)*by_<=140737488355328/\us.all dm=true,.hd (8*κ),[(k,none),(8*κ,some (.row e sz (n+m) (vs++us)))],none,[],[k]⟩
 |_,_=>.bad
def adC(P:Program)(W:World)(bs:List Nat)(κ k:Nat)(ao:Option Addr)(m:Nat)(T T' : TypeId):Bool->Option aT->R
 |true,some (.row e sz n vs)=>⟨T' = T/\P.underlying T=some (.slice e)/\ts P e=some sz/\m=0,.hd k,[],none,[],[k]⟩
 |false,some (.row e sz n vs)=>(match ao with
  |some ⟨b,o,none⟩=>aeJ κ k T T' e sz n m vs (bW W b o (m*sz)) P (b∉bs/\dK W b o (m*sz)) (rR P e) (tz P e)
  |_=>.bad)
 |_,_=>.bad
theorem Ld(T T' : TypeId)(k m c:Nat)(ao:Option Addr):fN P W bs κ h [T,T'] [.hd k,.v (.slice ao m c)]=adC P W bs κ k ao m T T' (m == 0) (h k):=by
 simp only[fN];unfold adC;rcases h k with _|e
 ·cases (m == 0)<;>rfl
 ·cases e with
  | row e sz n vs=>
   cases (m == 0) with
   |true=>rfl
   | false=>
    simp only[cond_false];rcases ao with _|⟨b,o,_|s⟩
    ·rfl
    ·simp only[aeJ];rcases rR P e with _|x<;>rcases tz P e with _|y<;>rfl
    ·rfl
  |_=>cases (m == 0)<;>rfl
theorem T5(k m:Nat)(ao:Option Addr)(T T' e:TypeId)(sz n:Nat)(vs:List SV):adC P W bs κ k ao m T T' true (some (.row e sz n vs))=⟨T' = T/\P.underlying T=some (.slice e)/\ts P e=some sz/\m=0,.hd k,[],none,[],[k]⟩:=rfl
theorem X8(k m b o:Nat)(T T' e:TypeId)(sz n:Nat)(vs:List SV):adC P W bs κ k (some ⟨b,o,none⟩) m T T' false (some (.row e sz n vs))=aeJ κ k T T' e sz n m vs (bW W b o (m*sz)) P (b∉bs/\dK W b o (m*sz)) (rR P e) (tz P e):=rfl
theorem Ru(k:Nat)(T T' e:TypeId)(sz n m:Nat)(vs us:List SV)(q:Prop)(by_:Nat)(zs:List Value):aeJ κ k T T' e sz n m vs us P q (some by_) (some zs)=⟨T' = T/\P.underlying T=some (.slice e)/\ts P e=some sz/\zs.length=sz/\q/\n+m<=maxLen/\(n+m)*by_<=140737488355328/\us.all dm=true,.hd (8*κ),[(k,none),(8*κ,some (.row e sz (n+m) (vs++us)))],none,[],[k]⟩:=rfl
def agf(P:Program)(κ k:Nat)(s:ByteArray)(T T' : TypeId):Option aT->R
 |some (.row e sz n vs)=>(match rR P e,tz P e with
  |some by_,some zs=>⟨P.underlying T' = some .string/\P.underlying T=some (.slice e)/\ts P e=some sz/\zs.length=sz/\sz=1/\n+s.size<=maxLen/\(n+s.size)*by_<=140737488355328,.hd (8*κ),[(k,none),(8*κ,some (.row e sz (n+s.size) (vs++(byteCells s).map .v)))],none,[],[k]⟩
  |_,_=>.bad)
 |_=>.bad
theorem JT(T T' : TypeId)(k:Nat)(s:ByteArray):fN P W bs κ h [T,T'] [.hd k,.v (.string s)]=agf P κ k s T T' (h k):=by
 simp only[fN];unfold agf;rcases h k with _|e
 ·rfl
 ·cases e with
  |_=>rfl
def ajV(κ k:Nat)(s:ByteArray)(P:Program)(T T' e:TypeId)(sz n:Nat)(vs:List SV):Option Nat->Option (List Value)->R
 |some by_,some zs=>⟨P.underlying T' = some .string/\P.underlying T=some (.slice e)/\ts P e=some sz/\zs.length=sz/\sz=1/\n+s.size<=maxLen/\(n+s.size)*by_<=140737488355328,.hd (8*κ),[(k,none),(8*κ,some (.row e sz (n+s.size) (vs++(byteCells s).map .v)))],none,[],[k]⟩
 |_,_=>.bad
theorem aac(k:Nat)(s:ByteArray)(T T' e:TypeId)(sz n:Nat)(vs:List SV):agf P κ k s T T' (some (.row e sz n vs))=ajV κ k s P T T' e sz n vs (rR P e) (tz P e):=by
 simp only[agf,ajV]
theorem SI(k:Nat)(s:ByteArray)(T T' e:TypeId)(sz n:Nat)(vs:List SV)(by_:Nat)(zs:List Value):ajV κ k s P T T' e sz n vs (some by_) (some zs)=⟨P.underlying T' = some .string/\P.underlying T=some (.slice e)/\ts P e=some sz/\zs.length=sz/\sz=1/\n+s.size<=maxLen/\(n+s.size)*by_<=140737488355328,.hd (8*κ),[(k,none),(8*κ,some (.row e sz (n+s.size) (vs++(byteCells s).map .v)))],none,[],[k]⟩:=rfl
theorem LK(T T' : TypeId)(j:Nat):fN P W bs κ h [T,T'] [.v (.slice none 0 0),.hd j]=ahe P κ j T T' (P.underlying T) (h j):=by
 simp only[fN];unfold ahe;rcases h j with _|e'
 ·rcases P.underlying T with _|d
  ·rfl
  ·cases d<;>rfl
 ·cases e' with
  | row e sz m us=>
   simp only[];rcases P.underlying T with _|d
   ·rfl
   ·cases d with
    |slice a=>
     simp only[];rcases rR P a with _|x<;>rcases tz P a with _|y<;>rfl
    |_=>rfl
  |cells T2 vs=>
   rcases P.underlying T with _|d
   ·rfl
   ·cases d<;>rfl
  |obj d R=>
   rcases P.underlying T with _|d
   ·rfl
   ·cases d<;>rfl
def ah8(P:Program)(κ j:Nat)(T T' e sz m:Nat)(us:List SV):Option Nat->Option (List Value)->R
 |some by_,some zs=>⟨T' = T/\ts P e=some sz/\zs.length=sz/\0<sz/\0<m/\m<=maxLen/\m*by_<=140737488355328/\us.all dm=true,.hd (8*κ),[(8*κ,some (.row e sz m us))],none,[],[j]⟩
 |_,_=>.bad
theorem WV(j:Nat)(T T' e e' : TypeId)(sz m:Nat)(us:List SV) :
  ahe P κ j T T' (some (.slice e)) (some (.row e' sz m us))=ah8 P κ j T T' e sz m us (rR P e) (tz P e):=by
 simp only[ahe,ah8]
theorem Q4(j:Nat)(T T' e sz m:Nat)(us:List SV)(by_:Nat)(zs:List Value) :
  ah8 P κ j T T' e sz m us (some by_) (some zs)=⟨T' = T/\ts P e=some sz/\zs.length=sz/\0<sz/\0<m/\m<=maxLen/\m*by_<=140737488355328/\us.all dm=true,.hd (8*κ),[(8*κ,some (.row e sz m us))],none,[],[j]⟩:=rfl
end
theorem ae{n:Int}(h1:-9223372036854775808<=n)(h2:n<=9223372036854775807):IntKind.i64.wrap n=n:=by
 simp only[IntKind.wrap,IntKind.bits,IntKind.signed,Bool.true_and,decide_eq_true_eq,show (2:Int) ^ (64-1)=9223372036854775808 from rfl,show (2:Int) ^ 64=18446744073709551616 from rfl];split<;>omega
theorem acy(W:World)(b o:Nat):bW W b o 1=[.v ((W.cell? ⟨b,o,none⟩).getD undef)]:=rfl
theorem adE(W:World)(b o:Nat):bW W b o 2=[.v ((W.cell? ⟨b,o,none⟩).getD undef),.v ((W.cell? ⟨b,o+1,none⟩).getD undef)]:=rfl
theorem agP(W:World)(b o:Nat):bW W b o 3=[.v ((W.cell? ⟨b,o,none⟩).getD undef),.v ((W.cell? ⟨b,o+1,none⟩).getD undef),.v ((W.cell? ⟨b,o+2,none⟩).getD undef)]:=rfl
theorem ag4(W:World)(b o:Nat):bW W b o 4=[.v ((W.cell? ⟨b,o,none⟩).getD undef),.v ((W.cell? ⟨b,o+1,none⟩).getD undef),.v ((W.cell? ⟨b,o+2,none⟩).getD undef),.v ((W.cell? ⟨b,o+3,none⟩).getD undef)]:=rfl
theorem agV(W:World)(b o:Nat):dK W b o 1=((W.cell? ⟨b,o,none⟩).isSome=true):=by simp[dK]
theorem afu(W:World)(b o:Nat):dK W b o 2=((W.cell? ⟨b,o,none⟩).isSome=true/\(W.cell? ⟨b,o+1,none⟩).isSome=true):=by simp[dK]
theorem af8(W:World)(b o:Nat):dK W b o 3=((W.cell? ⟨b,o,none⟩).isSome=true/\(W.cell? ⟨b,o+1,none⟩).isSome=true/\(W.cell? ⟨b,o+2,none⟩).isSome=true):=by simp[dK]
theorem acR(W:World)(b o:Nat):dK W b o 4=((W.cell? ⟨b,o,none⟩).isSome=true/\(W.cell? ⟨b,o+1,none⟩).isSome=true/\(W.cell? ⟨b,o+2,none⟩).isSome=true/\(W.cell? ⟨b,o+3,none⟩).isSome=true):=by simp[dK]
theorem acB(e e' : TypeId):((some (TypeDesc.slice e):Option TypeDesc)=some (.slice e'))=(e=e'):=by simp
theorem acg(e:TypeId):(∃ e',(some (TypeDesc.slice e):Option TypeDesc)=some (.slice e'))=True:=by simp
theorem zp(i:Nat)(vs:Array Value):fe i [.v (.tuple vs)]=⟨i<vs.size,.v (vs.getD i undef),[],none,[],[]⟩:=rfl
theorem Tg(b:Builtin)(as_:Array Operand)(tys:Array TypeId):Call.operands { callee:=.builtin b,args:=as_,argTypes:=tys }=as_:=by simp[Call.operands]
theorem UD(f:Operand)(as_:Array Operand)(tys:Array TypeId):(Call.operands { callee:=.value f,args:=as_,argTypes:=tys }).toList=f::as_.toList:=by simp[Call.operands]
theorem S8(f:Operand)(n:String)(as_:Array Operand)(tys:Array TypeId):(Call.operands { callee:=.invoke f n,args:=as_,argTypes:=tys }).toList=f::as_.toList:=by simp[Call.operands]
def WG{P:Program}{f:FuncId}(W:World)(bs:List Nat)(κ:Nat)(h:Hp)(l:List SV):Option (Spec P f)->R
 |some s=>s.ev W bs κ h l
 |none=>.bad
theorem aG{P:Program}{W:World}{bs:List Nat}{κ:Nat}{h:Hp}(Γ:Env P)(f:FuncId)(l:List SV):n7 Γ W bs κ h f l=WG W bs κ h l (Γ.sp f):=by
 simp only[n7,WG];cases Γ.sp f<;>rfl
theorem al{P:Program}{f:FuncId}(W:World)(bs:List Nat)(κ:Nat)(h:Hp)(l:List SV)(s:Spec P f):WG W bs κ h l (some s)=s.ev W bs κ h l:=rfl
theorem ay{P:Program}{f:FuncId}(p:aM P f)(W:World)(bs:List Nat)(κ:Nat)(h:Hp)(l:List SV):p.spec.ev W bs κ h l=HR p.pre p.res W bs (aC h l):=rfl
theorem VT{P:Program}{f:FuncId}(p:vO P f)(W:World)(bs:List Nat)(κ:Nat)(h:Hp)(l:List SV):p.spec.ev W bs κ h l=HQ κ p.T p.s p.pre p.n p.vs p.tm W bs (aC h l):=rfl
theorem Zk{P:Program}{W:World}{bs:List Nat}{σ:St}:jG P W bs σ []=(True,[]):=rfl
theorem Rk{P:Program}{W:World}{bs:List Nat}{σ:St}(r:ResultVar)(l:List ResultVar):jG P W bs σ (r::l)=evC (lz P W bs σ r) (jG P W bs σ l):=rfl
def ajf:FV->Prop×SV
 |.is x=>(True,x)
 |.cnd b x=>(b=true,x)
 |.any=>(False,.v undef)
theorem KJ{P:Program}{W:World}{bs:List Nat}{σ:St}(t:Nat):lz P W bs σ (.tmp t)=ajf (σ.φ t):=by
 simp only[lz,ajf]
 all_goals cases σ.φ t<;>rfl
theorem ad9(x:SV):ajf (.is x)=(True,x):=rfl
def aaI(P:Program)(W:World)(bs:List Nat)(h:Hp)(T:TypeId):FV->Prop×SV
 |.is (.own k o)=>resR (dR P W bs h T [.own k o])
 |_=>(False,.v undef)
where resR (r:R):Prop×SV:=(r.side,r.val)
theorem Hs{P:Program}{W:World}{bs:List Nat}{σ:St}(t:Nat)(T:TypeId):lz P W bs σ (.cell t T)=aaI P W bs σ.h T (σ.φ t):=by
 simp only[lz,aaI];rcases σ.φ t with x|⟨b,x⟩|_
 ·cases x<;>rfl
 ·rfl
 ·rfl
theorem aaf{P:Program}{W:World}{bs:List Nat}{h:Hp}(T:TypeId)(k o:Nat):aaI P W bs h T (.is (.own k o))=aaI.resR (dR P W bs h T [.own k o]):=rfl
theorem acw(side:Prop)(val:SV)(u:List (Nat×Option aT))(pan:Option (List PanicEntry))(pupd reads:List Nat):aaI.resR ⟨side,val,u,pan,pupd,reads⟩=(side,val):=rfl
theorem T7(x:SV):lY [x]=x:=rfl
theorem Rz(x y:SV)(l:List SV):lY (x::y::l)=.tup (x::y::l):=rfl
def ajY(R:World->List Nat->SV->Hp->Prop)(W:World)(bs:List Nat)(h:Hp)(x:Prop×List SV):Prop:=x.1/\R W bs (lY x.2) h
theorem qW{P:Program}{W:World}{bs:List Nat}{rs:List ResultVar}{R:World->List Nat->SV->Hp->Prop}{RP:List PanicEntry->Hp->Prop}{σ:St}:Fin P rs R RP .ret W bs σ=ajY R W bs σ.h (jG P W bs σ rs):=rfl
theorem jv{P:Program}{W:World}{bs:List Nat}{rs:List ResultVar}{R:World->List Nat->SV->Hp->Prop}{RP:List PanicEntry->Hp->Prop}{σ:St}:Fin P rs R RP .normal W bs σ=ajY R W bs σ.h (jG P W bs σ rs):=rfl
theorem abZ(R:World->List Nat->SV->Hp->Prop)(W:World)(bs:List Nat)(h:Hp)(p:Prop)(l:List SV):ajY R W bs h (p,l)=(p/\R W bs (lY l) h):=rfl
end
section
def ev4:=(aa @R7 (aa @yC (aa @ab3 (aa @TS (aa @Xc (aa @Tq (aa @Ny (aa @aB (aa @Lx (aa @LC (aa @aaP @QV)))))))))))
def ev5:=(aa @Ld (aa @T5 (aa @X8 (aa @Ru (aa @JT (aa @aac (aa @SI (aa @CA (aa @KY (aa @Lu (aa @Ri (aa @JU (aa @TJ (aa @N6 (aa @Tu (aa @VP (aa @SC (aa @CA (aa @N7 (aa @Z2 (aa @RY (aa @LK (aa @WV (aa @Q4 (aa @acy (aa @adE (aa @agP (aa @ag4 (aa @agV (aa @afu (aa @af8 (aa @acR (aa @acB (aa @acg (aa @zp (aa @Tg (aa @UD (aa @S8 (aa @aG (aa @al (aa @ay (aa @VT (aa @Zk (aa @Rk (aa @KJ (aa @ad9 (aa @Hs (aa @aaf (aa @acw (aa @T7 (aa @Rz (aa @qW (aa @jv @abZ)))))))))))))))))))))))))))))))))))))))))))))))))))))
end
end Go.LE
namespace Go.Proofs.YtnemkecffmdlnaaGreatDoor
section
theorem kR{p:Prop}(h:p:=by kernel_rfl):p:=h
open Go.RowKit Go.LE Go.Proofs.Tryz
theorem b8:prog.follows .mixedOrders=true:=kR
theorem jo:ts prog 0=some 1:=kR
theorem jl:ta prog 0=some false:=kR
theorem BH:ts prog 1=some 1:=kR
theorem BJ:ta prog 1=some false:=kR
theorem BG:tz prog 1=some [Value.nilFunc]:=kR
theorem ty5:ts prog 2=some 1:=kR
theorem ty6:ta prog 2=some false:=kR
theorem ty7:tz prog 2=some [Value.int IntKind.i64 0]:=kR
theorem ty8:Program.underlying prog 2=some (.int IntKind.i64):=kR
theorem gS:ts prog 3=some 1:=kR
theorem ca:ta prog 3=some false:=kR
theorem cc:rR prog 3=some 8:=kR
theorem b9:tz prog 3=some [Value.int IntKind.i64 0]:=kR
theorem cg:Program.underlying prog 3=some (.int IntKind.i64):=kR
theorem cf:ts prog 4=some 1:=kR
theorem cj:ta prog 4=some false:=kR
theorem cd:tz prog 4=some [Value.bool false]:=kR
theorem ck:Program.underlying prog 4=some .bool:=kR
theorem fu:ts prog 5=some 1:=kR
theorem fE:ta prog 5=some false:=kR
theorem fj:rR prog 5=some 1:=kR
theorem fz:tz prog 5=some [Value.int IntKind.u8 0]:=kR
theorem fw:Program.underlying prog 5=some (.int IntKind.u8):=kR
theorem dc:ts prog 9=some 1:=kR
theorem dh:ta prog 9=some false:=kR
theorem cZ:rR prog 9=some 16:=kR
theorem db:tz prog 9=some [Value.string { data:=#[] }]:=kR
theorem c8:Program.underlying prog 9=some .string:=kR
theorem dd:Program.concrete prog 9=true:=kR
theorem aaY:ts prog 20=some 1:=kR
theorem WK:ta prog 20=some false:=kR
theorem Vg:tz prog 20=some [Value.nilIface]:=kR
theorem Xy:isIface prog 20=some true:=kR
theorem sk:ts prog 22=some 1:=kR
theorem ss:ta prog 22=some false:=kR
theorem se:tz prog 22=some [Value.slice none 0 0]:=kR
theorem rO:Program.underlying prog 22=some (.slice 9):=kR
theorem Jq:ts prog 27=some 1:=kR
theorem GS:ta prog 27=some false:=kR
theorem Hl:tz prog 27=some [Value.slice none 0 0]:=kR
theorem Hc:Program.underlying prog 27=some (.slice 50):=kR
theorem zy:ts prog 29=some 5:=kR
theorem zK:ta prog 29=some true:=kR
theorem zP:tz prog 29=some [Value.slice none 0 0,Value.slice none 0 0,Value.slice none 0 0,Value.int IntKind.i64 0,Value.int IntKind.i64 0]:=kR
theorem Bc:sr prog 29=some [(0,1),(1,1),(2,1),(3,1),(4,1)]:=kR
theorem A3:tf prog 29 0=some (0,1,false):=kR
theorem Bu:tf prog 29 1=some (1,1,false):=kR
theorem AF:tf prog 29 2=some (2,1,false):=kR
theorem Bs:tf prog 29 3=some (3,1,false):=kR
theorem An:tf prog 29 4=some (4,1,false):=kR
theorem amu:ts prog 31=some 1:=kR
theorem amE:ta prog 31=some false:=kR
theorem aex:ts prog 33=some 1:=kR
theorem agK:ta prog 33=some false:=kR
theorem af5:tz prog 33=some [Value.slice none 0 0]:=kR
theorem ae4:Program.underlying prog 33=some (.slice 85):=kR
theorem aaQ:ts prog 35=some 5:=kR
theorem aan:ta prog 35=some true:=kR
theorem Yl:tz prog 35=some [Value.slice none 0 0,Value.slice none 0 0,Value.slice none 0 0,Value.int IntKind.i64 0,Value.int IntKind.i64 0]:=kR
theorem U9:sr prog 35=some [(0,1),(1,1),(2,1),(3,1),(4,1)]:=kR
theorem Wt:tf prog 35 0=some (0,1,false):=kR
theorem Yh:tf prog 35 1=some (1,1,false):=kR
theorem VK:tf prog 35 2=some (2,1,false):=kR
theorem Zn:tf prog 35 3=some (3,1,false):=kR
theorem Xw:tf prog 35 4=some (4,1,false):=kR
theorem aal:ts prog 37=some 1:=kR
theorem VZ:ta prog 37=some false:=kR
theorem Vq:tz prog 37=some [Value.int IntKind.i64 0]:=kR
theorem U6:Program.underlying prog 37=some (.int IntKind.i64):=kR
theorem zQ:ts prog 39=some 3:=kR
theorem AI:ta prog 39=some true:=kR
theorem zz:Fo prog 39=some (.agg #[Value.int IntKind.i64 0,Value.int IntKind.i64 0,Value.string { data:=#[] }]):=kR
theorem zD:tz prog 39=some [Value.int IntKind.i64 0,Value.int IntKind.i64 0,Value.string { data:=#[] }]:=kR
theorem zd:sr prog 39=some [(0,1),(1,1),(2,1)]:=kR
theorem A6:isIface prog 39=some false:=kR
theorem yU:Program.concrete prog 39=true:=kR
theorem AD:tf prog 39 0=some (0,1,false):=kR
theorem Am:tf prog 39 1=some (1,1,false):=kR
theorem AM:tf prog 39 2=some (2,1,false):=kR
theorem B4:ts prog 50=some 4:=kR
theorem B9:ta prog 50=some true:=kR
theorem B3:rR prog 50=some 32:=kR
theorem BM:tz prog 50=some [Value.int IntKind.i64 0,Value.int IntKind.i64 0,Value.int IntKind.i64 0,Value.int IntKind.i64 0]:=kR
theorem B2:sr prog 50=some [(0,1),(1,1),(2,1),(3,1)]:=kR
theorem BN:tf prog 50 0=some (0,1,false):=kR
theorem Cl:tf prog 50 1=some (1,1,false):=kR
theorem Ce:tf prog 50 2=some (2,1,false):=kR
theorem ry:tf prog 50 3=some (3,1,false):=kR
theorem wA:ts prog 62=some 1:=kR
theorem vP:ta prog 62=some false:=kR
theorem wX:tz prog 62=some [Value.slice none 0 0]:=kR
theorem tg:Program.underlying prog 62=some (.slice 243):=kR
theorem Aw:ts prog 64=some 2:=kR
theorem y5:ta prog 64=some true:=kR
theorem zr:tz prog 64=some [Value.slice none 0 0,Value.int IntKind.i64 0]:=kR
theorem yL:sr prog 64=some [(0,1),(1,1)]:=kR
theorem Bz:tf prog 64 0=some (0,1,false):=kR
theorem yZ:tf prog 64 1=some (1,1,false):=kR
theorem HM:ts prog 85=some 4:=kR
theorem JG:ta prog 85=some true:=kR
theorem HK:rR prog 85=some 32:=kR
theorem Kf:tz prog 85=some [Value.int IntKind.i64 0,Value.int IntKind.i64 0,Value.int IntKind.i64 0,Value.int IntKind.i64 0]:=kR
theorem G7:sr prog 85=some [(0,1),(1,1),(2,1),(3,1)]:=kR
theorem IY:tf prog 85 0=some (0,1,false):=kR
theorem JH:tf prog 85 1=some (1,1,false):=kR
theorem Ja:tf prog 85 2=some (2,1,false):=kR
theorem GX:tf prog 85 3=some (3,1,false):=kR
theorem xj:ts prog 89=some 1:=kR
theorem wP:ta prog 89=some false:=kR
theorem wB:tz prog 89=some [Value.slice none 0 0]:=kR
theorem v8:Program.underlying prog 89=some (.slice 5):=kR
theorem alF:ts prog 91=some 2:=kR
theorem alw:ta prog 91=some true:=kR
theorem ala:tz prog 91=some [Value.pointer none,Value.slice none 0 0]:=kR
theorem akU:sr prog 91=some [(0,1),(1,1)]:=kR
theorem alE:tf prog 91 0=some (0,1,false):=kR
theorem alZ:tf prog 91 1=some (1,1,false):=kR
theorem V2:ts prog 93=some 1:=kR
theorem aaB:ta prog 93=some false:=kR
theorem aaj:tz prog 93=some [Value.nilIface]:=kR
theorem aaD:isIface prog 93=some true:=kR
theorem alT:ts prog 94=some 1:=kR
theorem alK:ta prog 94=some false:=kR
theorem alB:ts prog 96=some 1:=kR
theorem alD:ta prog 96=some false:=kR
theorem alS:tz prog 96=some [Value.nilFunc]:=kR
theorem akX:ts prog 145=some 1:=kR
theorem ak9:ta prog 145=some false:=kR
theorem ahG:ts prog 147=some 1:=kR
theorem aho:ta prog 147=some false:=kR
theorem OU:ts prog 149=some 1:=kR
theorem OW:ta prog 149=some false:=kR
theorem Ql:tz prog 149=some [Value.slice none 0 0]:=kR
theorem OI:Program.underlying prog 149=some (.slice 3):=kR
theorem vY:ts prog 151=some 1:=kR
theorem vX:ta prog 151=some false:=kR
theorem vN:tz prog 151=some [Value.nilIface]:=kR
theorem wU:isIface prog 151=some true:=kR
theorem ak5:ts prog 152=some 1:=kR
theorem ak0:ta prog 152=some false:=kR
theorem Kh:ts prog 156=some 1:=kR
theorem H9:ta prog 156=some false:=kR
theorem Ka:tz prog 156=some [Value.int IntKind.i64 0]:=kR
theorem Ic:Program.underlying prog 156=some (.int IntKind.i64):=kR
theorem VR:ts prog 160=some 4:=kR
theorem Yt:ta prog 160=some true:=kR
theorem ZI:tz prog 160=some [Value.string { data:=#[] },Value.bool false,Value.int IntKind.i64 0,Value.int IntKind.i64 0]:=kR
theorem W6:sr prog 160=some [(0,1),(1,1),(2,1),(3,1)]:=kR
theorem WC:tf prog 160 0=some (0,1,false):=kR
theorem aab:tf prog 160 1=some (1,1,false):=kR
theorem XW:tf prog 160 2=some (2,1,false):=kR
theorem XK:tf prog 160 3=some (3,1,false):=kR
theorem V4:ts prog 161=some 84:=kR
theorem X4:ta prog 161=some true:=kR
theorem Wd:Program.underlying prog 161=some (.array 21 160):=kR
theorem pF:ts prog 203=some 1:=kR
theorem o6:ta prog 203=some false:=kR
theorem px:tz prog 203=some [Value.int IntKind.u64 0]:=kR
theorem oZ:Program.underlying prog 203=some (.int IntKind.u64):=kR
theorem Pv:ts prog 229=some 1:=kR
theorem Qh:ta prog 229=some false:=kR
theorem Qo:tz prog 229=some [Value.pointer none]:=kR
theorem Oj:jm prog 229=some true:=kR
theorem Ok:Program.underlying prog 229=some (.pointer 232):=kR
theorem WY:ts prog 230=some 1:=kR
theorem Xa:ta prog 230=some false:=kR
theorem Y6:tz prog 230=some [Value.slice none 0 0]:=kR
theorem VU:Program.underlying prog 230=some (.slice 234):=kR
theorem P4:ts prog 232=some 2:=kR
theorem QL:ta prog 232=some true:=kR
theorem Oq:tz prog 232=some [Value.slice none 0 0,Value.slice none 0 0]:=kR
theorem PI:sr prog 232=some [(0,1),(1,1)]:=kR
theorem Of:tf prog 232 0=some (0,1,false):=kR
theorem Pl:tf prog 232 1=some (1,1,false):=kR
theorem O5:ts prog 234=some 6:=kR
theorem PS:ta prog 234=some true:=kR
theorem Qq:rR prog 234=some 48:=kR
theorem OX:tz prog 234=some [Value.int IntKind.i64 0,Value.int IntKind.i64 0,Value.int IntKind.i64 0,Value.int IntKind.u8 0,Value.int IntKind.i64 0,Value.int IntKind.i64 0]:=kR
theorem OJ:sr prog 234=some [(0,1),(1,1),(2,1),(3,1),(4,1),(5,1)]:=kR
theorem Pt:tf prog 234 0=some (0,1,false):=kR
theorem OT:tf prog 234 1=some (1,1,false):=kR
theorem Pj:tf prog 234 2=some (2,1,false):=kR
theorem Qz:tf prog 234 3=some (3,1,false):=kR
theorem Pd:tf prog 234 4=some (4,1,false):=kR
theorem OR:tf prog 234 5=some (5,1,false):=kR
theorem Yk:ts prog 236=some 1:=kR
theorem We:ta prog 236=some false:=kR
theorem Z7:tz prog 236=some [Value.pointer none]:=kR
theorem aaz:jm prog 236=some true:=kR
theorem Vv:Program.underlying prog 236=some (.pointer 234):=kR
theorem alj:ts prog 238=some 1:=kR
theorem akJ:ta prog 238=some false:=kR
theorem Dn:ts prog 241=some 256:=kR
theorem Ct:ta prog 241=some true:=kR
theorem Dl:tz prog 241=some (List.replicate 256 (Value.bool false)):=kR
theorem DL:Program.underlying prog 241=some (.array 256 4):=kR
theorem tR:ts prog 243=some 261:=kR
theorem wx:ta prog 243=some true:=kR
theorem wF:rR prog 243=some 296:=kR
theorem tn:tz prog 243=some ([Value.int IntKind.i64 0]++(List.replicate 256 (Value.bool false))++[Value.int IntKind.i64 0]++[Value.int IntKind.i64 0]++[Value.int IntKind.i64 0]++[Value.int IntKind.i64 0]):=kR
theorem xq:sr prog 243=some [(0,1),(1,256),(257,1),(258,1),(259,1),(260,1)]:=kR
theorem xt:tf prog 243 0=some (0,1,false):=kR
theorem xw:tf prog 243 1=some (1,256,true):=kR
theorem wJ:tf prog 243 2=some (257,1,false):=kR
theorem vW:tf prog 243 3=some (258,1,false):=kR
theorem xi:tf prog 243 4=some (259,1,false):=kR
theorem wO:tf prog 243 5=some (260,1,false):=kR
theorem alM:ts prog 244=some 1:=kR
theorem alQ:ta prog 244=some false:=kR
theorem Ie:ts prog 248=some 1:=kR
theorem Hj:ta prog 248=some false:=kR
theorem ID:tz prog 248=some [Value.pointer none]:=kR
theorem G6:jm prog 248=some true:=kR
theorem Ht:Program.underlying prog 248=some (.pointer 64):=kR
theorem AA:ts prog 249=some 1:=kR
theorem AZ:ta prog 249=some false:=kR
theorem Aj:tz prog 249=some [Value.pointer none]:=kR
theorem Ba:jm prog 249=some true:=kR
theorem Ah:Program.underlying prog 249=some (.pointer 251):=kR
theorem AS:ts prog 251=some 3:=kR
theorem yM:ta prog 251=some true:=kR
theorem zk:tz prog 251=some [Value.string { data:=#[] },Value.int IntKind.i64 0,Value.slice none 0 0]:=kR
theorem yQ:sr prog 251=some [(0,1),(1,1),(2,1)]:=kR
theorem zE:tf prog 251 0=some (0,1,false):=kR
theorem Ak:tf prog 251 1=some (1,1,false):=kR
theorem y7:tf prog 251 2=some (2,1,false):=kR
theorem OM:ts prog 252=some 1:=kR
theorem QO:ta prog 252=some false:=kR
theorem PC:tz prog 252=some [Value.nilFunc]:=kR
theorem sZ:ts prog 254=some 2:=kR
theorem sK:ta prog 254=some true:=kR
theorem sE:tz prog 254=some [Value.int IntKind.i64 0,Value.nilFunc]:=kR
theorem sU:sr prog 254=some [(0,1),(1,1)]:=kR
theorem tI:tf prog 254 0=some (0,1,false):=kR
theorem sX:tf prog 254 1=some (1,1,false):=kR
theorem Wf:ts prog 279=some 1:=kR
theorem ZW:ta prog 279=some true:=kR
theorem Xu:Fo prog 279=some (.agg #[Value.nilIface]):=kR
theorem Zi:tz prog 279=some [Value.nilIface]:=kR
theorem YD:sr prog 279=some [(0,1)]:=kR
theorem UZ:isIface prog 279=some false:=kR
theorem YK:Program.concrete prog 279=true:=kR
theorem Zz:tf prog 279 0=some (0,1,false):=kR
theorem aa0:ts prog 281=some 2:=kR
theorem Vr:ta prog 281=some true:=kR
theorem ZB:Fo prog 281=some (.agg #[Value.nilIface,Value.nilIface]):=kR
theorem Zc:tz prog 281=some [Value.nilIface,Value.nilIface]:=kR
theorem YN:sr prog 281=some [(0,1),(1,1)]:=kR
theorem Xr:isIface prog 281=some false:=kR
theorem Y1:Program.concrete prog 281=true:=kR
theorem aaX:tf prog 281 0=some (0,1,false):=kR
theorem aaU:tf prog 281 1=some (1,1,false):=kR
theorem P2:ts prog 283=some 0:=kR
theorem Qt:ta prog 283=some true:=kR
theorem Pa:Fo prog 283=some (.agg #[]):=kR
theorem OY:tz prog 283=some []:=kR
theorem Pm:sr prog 283=some []:=kR
theorem Ov:isIface prog 283=some false:=kR
theorem PY:Program.concrete prog 283=true:=kR
theorem Zu:ts prog 284=some 2:=kR
theorem Wm:ta prog 284=some true:=kR
theorem Xv:Fo prog 284=some (.agg #[Value.nilIface,Value.nilIface]):=kR
theorem Zf:tz prog 284=some [Value.nilIface,Value.nilIface]:=kR
theorem aat:sr prog 284=some [(0,1),(1,1)]:=kR
theorem Yi:isIface prog 284=some false:=kR
theorem ZS:Program.concrete prog 284=true:=kR
theorem ZX:tf prog 284 0=some (0,1,false):=kR
theorem Xt:tf prog 284 1=some (1,1,false):=kR
theorem Y3:ts prog 285=some 2:=kR
theorem Vj:ta prog 285=some true:=kR
theorem U1:Fo prog 285=some (.agg #[Value.nilIface,Value.nilIface]):=kR
theorem YT:tz prog 285=some [Value.nilIface,Value.nilIface]:=kR
theorem WN:sr prog 285=some [(0,1),(1,1)]:=kR
theorem V6:isIface prog 285=some false:=kR
theorem aaZ:Program.concrete prog 285=true:=kR
theorem aae:tf prog 285 0=some (0,1,false):=kR
theorem aaH:tf prog 285 1=some (1,1,false):=kR
theorem aap:ts prog 286=some 2:=kR
theorem VA:ta prog 286=some true:=kR
theorem Xp:Fo prog 286=some (.agg #[Value.nilIface,Value.nilIface]):=kR
theorem XJ:tz prog 286=some [Value.nilIface,Value.nilIface]:=kR
theorem Yg:sr prog 286=some [(0,1),(1,1)]:=kR
theorem X7:isIface prog 286=some false:=kR
theorem Wu:Program.concrete prog 286=true:=kR
theorem Y5:tf prog 286 0=some (0,1,false):=kR
theorem VF:tf prog 286 1=some (1,1,false):=kR
theorem alC:ts prog 298=some 2:=kR
theorem alA:ta prog 298=some true:=kR
theorem alY:tz prog 298=some [Value.int IntKind.i64 0,Value.int IntKind.i64 0]:=kR
theorem alq:Program.underlying prog 298=some (.array 2 3):=kR
theorem alr:ts prog 301=some 1:=kR
theorem aln:ta prog 301=some false:=kR
theorem Dt:ts prog 307=some 1:=kR
theorem DE:ta prog 307=some false:=kR
theorem Da:tz prog 307=some [Value.nilFunc]:=kR
theorem w9:ts prog 309=some 4:=kR
theorem xp:ta prog 309=some true:=kR
theorem xm:tz prog 309=some [Value.int IntKind.u64 0,Value.int IntKind.u64 0,Value.int IntKind.u64 0,Value.int IntKind.u64 0]:=kR
theorem vS:Program.underlying prog 309=some (.array 4 203):=kR
theorem ahY:ts prog 311=some 4:=kR
theorem ahW:ta prog 311=some true:=kR
theorem aht:Fo prog 311=some (.agg #[Value.int IntKind.u64 0,Value.int IntKind.u64 0,Value.int IntKind.u64 0,Value.int IntKind.u64 0]):=kR
theorem ahE:tz prog 311=some [Value.int IntKind.u64 0,Value.int IntKind.u64 0,Value.int IntKind.u64 0,Value.int IntKind.u64 0]:=kR
theorem ahB:sr prog 311=some [(0,4)]:=kR
theorem ahC:isIface prog 311=some false:=kR
theorem ahx:Program.concrete prog 311=true:=kR
theorem ahR:tf prog 311 0=some (0,4,true):=kR
theorem PL:ts prog 326=some 1:=kR
theorem OS:ta prog 326=some false:=kR
theorem ahA:ts prog 355=some 2:=kR
theorem ahq:ta prog 355=some true:=kR
theorem ahu:tz prog 355=some [Value.int IntKind.u8 0,Value.int IntKind.u8 0]:=kR
theorem ahp:sr prog 355=some [(0,1),(1,1)]:=kR
theorem ahX:tf prog 355 0=some (0,1,false):=kR
theorem ahs:tf prog 355 1=some (1,1,false):=kR
theorem ahN:ts prog 356=some 6:=kR
theorem ahz:ta prog 356=some true:=kR
theorem ahU:tz prog 356=some [Value.int IntKind.u8 0,Value.int IntKind.u8 0,Value.int IntKind.u8 0,Value.int IntKind.u8 0,Value.int IntKind.u8 0,Value.int IntKind.u8 0]:=kR
theorem ahJ:Program.underlying prog 356=some (.array 3 355):=kR
theorem alo:ts prog 361=some 1:=kR
theorem alH:ta prog 361=some false:=kR
theorem QJ:ts prog 373=some 1:=kR
theorem Oy:ta prog 373=some false:=kR
theorem PD:tz prog 373=some [Value.pointer none]:=kR
theorem Og:jm prog 373=some true:=kR
theorem Qa:Program.underlying prog 373=some (.pointer 375):=kR
theorem O8:ts prog 375=some 2:=kR
theorem Qu:ta prog 375=some true:=kR
theorem OA:tz prog 375=some [Value.string { data:=#[] },Value.int IntKind.i64 0]:=kR
theorem Qd:sr prog 375=some [(0,1),(1,1)]:=kR
theorem PG:tf prog 375 0=some (0,1,false):=kR
theorem Pb:tf prog 375 1=some (1,1,false):=kR
end
end Go.Proofs.YtnemkecffmdlnaaGreatDoor
namespace Go.LE
section
open Go.RowKit
def kZ(w:World)(ao:Option Addr)(vs:List Value):Prop:=
 vs=[]\/∃ b o,ao=some ⟨b,o,none⟩/\∀ j (h:j<vs.length),w.cell? ⟨b,o+j,none⟩=some vs[j]
def akR(W:World)(bs:List Nat)(sz n:Nat)(vs:List Value):AV->Prop
 |.row _ s m us=>s=sz/\m=n/\us=vs
 |.val (.slice ao m _)=>m=n/\vs.length=n*sz/\(vs=[]\/∃ b o,ao=some ⟨b,o,none⟩/\b∉bs/\∀ j (h:j<vs.length),W.cell? ⟨b,o+j,none⟩=some vs[j])
 |_=>False
theorem ag3{W w:World}{bs:List Nat}{sz n:Nat}{vs:List Value}{a:AV}{u:Value}(hk:ah W bs w)(hu:Ao w u a)(h:akR W bs sz n vs a):∃ ao c,u=.slice ao n c/\kZ w ao vs:=by
 cases a with
 | row T s m us=>
  obtain⟨rfl,rfl,rfl⟩:=h;obtain⟨hl,h⟩:=hu;rcases h with ⟨rfl,rfl⟩|⟨g,cap,cur,rfl,_,hh,_,_,hsz,htk⟩
  ·exact⟨none,0,rfl,.inl (by simpa using hl)⟩
  ·refine⟨some ⟨g,0,none⟩,cap,rfl,.inr ⟨g,0,rfl,λj hj=>?_⟩⟩;rw[Nat.zero_add];have hj' : j<m*s:=oM;have:us[j]?=cur[j]?:=by rw[<- htk,List.getElem?_take,if_pos hj'];simp
   simp only[World.cell?,hh];rw[<- this,List.getElem?_eq_getElem hj];rfl
 | val v=>
  cases v with
  | slice ao m c=>
   obtain⟨rfl,hl,h⟩:=h;cases hu;refine⟨ao,c,rfl,?_⟩;rcases h with h|⟨b,o,rfl,hb,hc⟩
   ·exact .inl h
   ·refine .inr ⟨b,o,rfl,λj hj=>?_⟩;have:=hc j hj;rw[hk.cell hb (by rw[this];rfl),this];rfl
  |_=>exact h.elim
theorem ai.amz{W:World}{bs:List Nat}{E:Nat->Value}{F:Nat->List Nat}{h:Nat->Option aT}{w w' : World}{k:Nat}{e:aT}(hs:ai W bs E F h w)(hk:h k=some e)(hkeep:ah w (F k) w') :
  ai W bs E F (bu h k none) w' := by
 have old:∀ j x,bu h k none j=some x->h j=some x/\j≠k:=λj x hj=>by
  by_cases hjk:j=k
  ·subst hjk;rw[ak]at hj;cases hj
  ·rw[aq _ _ hjk]at hj;exact⟨hj,hjk⟩
 refine⟨λj x hj=>?_,λj x hj b hb=>Nat.lt_of_lt_of_le (hs.lt j x (old j x hj).1 b hb) hkeep.size,λj x hj=>hs.mine j x (old j x hj).1,λi j x y hij hi hj=>hs.apart i j x y hij (old i x hi).1 (old j y hj).1,?_⟩
 ·obtain⟨hj,hne⟩:=old j x hj;exact iO (hs.ent j x hj) λb hb=>hkeep.block b (hs.lt j x hj b hb) λhb' => hs.apart j k x e hne hj hk b hb hb'
 ·exact hs.keeps.trans hkeep λb hb hlt=>(hs.mine k e hk b hb).resolve_left oM
theorem Le.conv{W:World}{bs:List Nat}{nt:Nat}{ds:Aux}{σ:St}{k:Nat}{e e' : aT}(hk:σ.h k=some e)(he:∀ E u fp w,a6 E u fp w e->a6 E u fp w e')(hkeys:∀ j∈e'.keys,j∈e.keys) :
  Le W bs nt ds σ ⟨σ.n,σ.φ,bu σ.h k (some e')⟩:=by
 rintro a w ⟨⟨E,F,hφ,hs,hp⟩,h1,h2,h3,h4,h5⟩;have old:∀ j x,bu σ.h k (some e') j=some x->∃ y,σ.h j=some y/\((j=k/\x=e')\/x=y):=λj x hj=>by
  by_cases hjk:j=k
  ·subst hjk;rw[ak]at hj;cases hj;exact⟨e,hk,.inl ⟨rfl,rfl⟩⟩
  ·rw[aq _ _ hjk]at hj;exact⟨x,hj,.inr rfl⟩
 refine⟨⟨E,F,hφ,⟨λj x hj=>?_,λj x hj=>?_,λj x hj=>?_,λi j x y hij hi hj=>?_,hs.keeps⟩,hp⟩,h1,h2,h3,h4,λj x hj=>?_⟩
 ·obtain⟨y,hy,h⟩:=old j x hj;rcases h with ⟨rfl,rfl⟩|rfl
  ·rw[hk]at hy;cases hy;exact he _ _ _ _ (hs.ent j e hk)
  ·exact hs.ent j x hy
 ·obtain⟨y,hy,_⟩:=old j x hj;exact hs.lt j y hy
 ·obtain⟨y,hy,_⟩:=old j x hj;exact hs.mine j y hy
 ·obtain⟨x',hx',_⟩:=old i x hi;obtain⟨y',hy',_⟩:=old j y hj;exact hs.apart i j x' y' hij hx' hy'
 ·obtain⟨y,hy,h⟩:=old j x hj;rcases h with ⟨rfl,rfl⟩|rfl
  ·rw[hk]at hy;cases hy;exact⟨(h5 j e hk).1,λi hi=>(h5 j e hk).2 i (hkeys i hi)⟩
  ·exact h5 j x hy
def cT(W:World)(S:Nat->Prop)(W' : World)(S' : Nat->Prop):Prop:=∀ b,b<W.heap.size->S b->W'.heap[b]?=W.heap[b]?/\S' b
theorem cT.refl(W:World)(S:Nat->Prop):cT W S W S:=λ_ _ h=>⟨rfl,h⟩
theorem cT.trans{W W' W'' : World}{S S' S'' : Nat->Prop}(h:cT W S W' S')(h' : cT W' S' W'' S'')(hsz:W.heap.size<=W'.heap.size):cT W S W'' S'' := λb hb hs=>by
 obtain⟨h1,h2⟩:=h b hb hs;obtain⟨h3,h4⟩:=h' b oM h2;exact⟨h3.trans h1,h4⟩
def Out(bs:List Nat):Nat->Prop:=λb=>b∉bs
theorem Ext.lA{W W' : World}{bs bs' : List Nat}(h:Ext W bs W' bs'):cT W (Out bs) W' (Out bs'):=λb hb hs=>
 ⟨h.keeps.block b hb hs,λhb' => (h.sub b hb').elim (λh1=>by omega) hs⟩
theorem ah.lA{W w:World}{bs:List Nat}(h:ah W bs w):cT W (Out bs) w (Out bs):=λb hb hs=>⟨h.block b hb hs,hs⟩
def XC(W:World)(S:Nat->Prop)(b o:Nat)(v:Value):Prop:=S b/\W.cell? ⟨b,o,none⟩=some v
theorem XC.mono{W W' : World}{S S' : Nat->Prop}{b o:Nat}{v:Value}(h:XC W S b o v)(hs:cT W S W' S'):XC W' S' b o v:=by
 have hlt:=World.block_lt_of_cell? W _ h.2;obtain⟨h1,h2⟩:=hs b hlt h.1;exact⟨h2,by rw[<- h.2];exact World.cell?_of_block h1⟩
def gJ(W:World)(S:Nat->Prop)(ao:Option Addr)(vs:List Value):Prop:=vs=[]\/∃ b o,ao=some ⟨b,o,none⟩/\∀ j (h:j<vs.length),XC W S b (o+j) vs[j]
theorem gJ.mono{W W' : World}{S S' : Nat->Prop}{ao:Option Addr}{vs:List Value}(h:gJ W S ao vs)(hs:cT W S W' S'):gJ W' S' ao vs:=by
 rcases h with h|⟨b,o,h1,h2⟩
 ·exact .inl h
 ·exact .inr ⟨b,o,h1,λj hj=>(h2 j hj).mono hs⟩
theorem gJ.is{W:World}{S:Nat->Prop}{ao:Option Addr}{vs:List Value}(h:gJ W S ao vs):kZ W ao vs:=by
 rcases h with h|⟨b,o,h1,h2⟩
 ·exact .inl h
 ·exact .inr ⟨b,o,h1,λj hj=>(h2 j hj).2⟩
theorem gJ.oH{W:World}{ao:Option Addr}{vs:List Value}(h:kZ W ao vs):gJ W (λ_=>True) ao vs:=by
 rcases h with h|⟨b,o,h1,h2⟩
 ·exact .inl h
 ·exact .inr ⟨b,o,h1,λj hj=>⟨trivial,h2 j hj⟩⟩
theorem gJ.out{W:World}{ao:Option Addr}{vs:List Value}{S S' : Nat->Prop}(h:gJ W S ao vs)(hs:∀ b,S b->S' b):gJ W S' ao vs:=h.mono λb _ hb=>⟨rfl,hs b hb⟩
theorem gJ.take{W:World}{S:Nat->Prop}{ao:Option Addr}{vs ws:List Value}(h:gJ W S ao (vs++ws)):gJ W S ao vs:=by
 rcases h with h|⟨b,o,h1,h2⟩
 ·exact .inl (by simp at h;exact h.1)
 ·refine .inr ⟨b,o,h1,λj hj=>?_⟩;have:=h2 j (by simp;omega)
  rwa [List.getElem_append_left hj]at this
def afk(E:Nat->Value):FV->FV->Prop
 |.is x,.is y=>den E x=den E y
 |.cnd b x,.cnd c y=>b=c/\(b=true->den E x=den E y)
 |.cnd b x,.is y=>b=true/\den E x=den E y
 |_,.any=>True
 |_,_=>False
def akh(E:Nat->Value)(φ:Fr):List (Nat×FV)->Prop
 |[]=>True
 |(t,x)::r=>afk E (φ t) x/\akh E φ r
theorem RA{E:Nat->Value}{x y:FV}{u:Value}(h:afk E x y)(hf:fits E x u):fits E y u:=by
 cases x<;>cases y<;>simp only[afk]at h<;>first|exact h.elim|trivial|skip
 ·simp only[fits]at hf ⊢;rw[hf,h]
 ·obtain⟨rfl,h⟩:=h;simp only[fits,cond_true]at hf ⊢;rw[hf,h]
 ·rename_i b x c y;obtain⟨rfl,h⟩:=h;cases b with
  |false=>exact hf
  |true=>simp only[fits,cond_true]at hf ⊢;rw[hf,h rfl]
theorem JK{E:Nat->Value}{φ:Fr}:∀ {L:List (Nat×FV)},akh E φ L->∀ p∈L,afk E (φ p.1) p.2
 |_::_,h,p,hp=>by
  rcases List.mem_cons.1 hp with rfl|hp
  ·exact h.1
  ·exact JK h.2 p hp
def QR(E:Nat->Value):Option aT->aT->Prop
 |some (.cells T vs),.cells T' vs' => T=T' /\ au E vs=au E vs'
 |some (.row T s n vs),.row T' s' n' vs' => T=T' /\ s=s' /\ n=n' /\ au E vs=au E vs'
 |some (.obj d R),.obj d' R' => d=d' /\ R=R'
 |_,_=>False
def aiw(E:Nat->Value)(h:Hp):List (Nat×aT)->Prop
 |[]=>True
 |(k,e)::r=>QR E (h k) e/\aiw E h r
theorem zx{E:Nat->Value}{h:Hp}:∀ {H:List (Nat×aT)},aiw E h H->∀ p∈H,QR E (h p.1) p.2
 |_::_,h,p,hp=>by
  rcases List.mem_cons.1 hp with rfl|hp
  ·exact h.1
  ·exact zx h.2 p hp
theorem CY{E:Nat->Value}{u:Value}{fp:List Nat}{w:World}{h:Hp}{k:Nat}{e:aT}(he:QR E (h k) e):∃ e0,h k=some e0/\(a6 E u fp w e0->a6 E u fp w e):=by
 cases hk:h k with
 |none=>rw[hk]at he;cases e<;>exact he.elim
 |some e0=>
  rw[hk]at he;refine⟨e0,rfl,λhs=>?_⟩;cases e0<;>cases e<;>simp only[QR]at he<;>first|exact he.elim|skip
  ·obtain⟨rfl,h2⟩:=he;simp only[a6,<- h2];exact hs
  ·obtain⟨rfl,rfl,rfl,h2⟩:=he;simp only[a6,<- h2];exact hs
  ·obtain⟨rfl,rfl⟩:=he;exact hs
theorem Wp.freeze{P:Program}{W:World}{bs:List Nat}{nt:Nat}{ds:Aux}{c:Code}{Q:mb}{σ:St}(n' : Nat)(ks:List Nat)(L:(Nat->Value)->List (Nat×FV))(H:(Nat->Value)->List (Nat×aT))
  (hks:∀ E,(H E).map (·.1)=ks) (hkb:∀ E,pH n' (L E) (H E)) (hf:∀ E,akh E σ.φ (L E)) (hh:∀ E,aiw E σ.h (H E)) (hpn:∀ p∈ds.pins,p.1 / 8<n')
  (h:∀ W' bs' E F,Ext W bs W' bs' -> ai W bs E F σ.h W' -> (∀ k∈ks,∀ b∈F k,b∈bs')->(∀ k e,σ.h k=some e->k∉ks->∀ b∈F k,b∉bs')->Wp P W' bs' nt ds c Q ⟨n',bm (L E),aY (H E)⟩):Wp P W bs nt ds c Q σ:=by
 rintro a w ⟨⟨E,F,hφ,hs,hp⟩,hsz,hdf,_,_,_⟩;have own:∀ k∈ks,∃ e,σ.h k=some e:=λk hk=>by
  rw[<- hks E]at hk;obtain⟨p,hp,rfl⟩:=List.mem_map.1 hk;obtain⟨e0,h1,_⟩:=CY (u:=undef) (fp:=[]) (w:=w) (zx (hh E) p hp);exact⟨e0,h1⟩
 have hx:Ext W bs w (ks.flatMap F):=⟨hs.keeps,λb hb=>by
  obtain⟨k,hk,hbk⟩:=List.mem_flatMap.1 hb
  obtain⟨e,he⟩:=own k hk
  exact hs.mine k e he b hbk⟩
 refine wp_mono (h w (ks.flatMap F) E F hx hs (λk hk b hb=>List.mem_flatMap.2 ⟨k,hk,hb⟩) (λk e hke hk b hb hb' => ?_) a w ?_) λe' a' w' hh' => qH hx hh'
 ·obtain⟨j,hj,hbj⟩:=List.mem_flatMap.1 hb';obtain⟨e2,he2⟩:=own j hj;exact hs.apart k j e e2 (λhkj=>hk (hkj ▸ hj)) hke he2 b hb hbj
 ·have at' : ∀ k e,aY (H E) k=some e->k∈ks/\∃ e0,σ.h k=some e0/\a6 E (E k) (F k) w e:=λk e he=>by
   have hm:=cz he;obtain⟨e0,h1,h2⟩:=CY (u:=E k) (fp:=F k) (w:=w) (zx (hh E) _ hm);exact⟨by rw[<- hks E];exact List.mem_map.2 ⟨_,hm,rfl⟩,e0,h1,h2 (hs.ent k e0 h1)⟩
  refine⟨⟨E,F,λt=>?_,⟨λk e he=>(at' k e he).2.choose_spec.2,λk e he b hb=>?_,λk e he b hb=>.inr (List.mem_flatMap.2 ⟨k,(at' k e he).1,hb⟩),λk k' e e' hne he he' b hb=>?_,ah.refl w _⟩,hp⟩,hsz,hdf,hpn,λt k hk' => ?_,λk e he=>?_⟩
  ·rcases jK (L:=L E) t with h|⟨p,hp,rfl,h⟩
   ·simp only[h];trivial
   ·simp only[h];exact RA (JK (hf E) p hp) (hφ p.1)
  ·obtain⟨_,e0,h1,_⟩:=at' k e he;exact hs.lt k e0 h1 b hb
  ·obtain⟨_,e0,h1,_⟩:=at' k e he;obtain⟨_,e1,h2,_⟩:=at' k' e' he';exact hs.apart k k' e0 e1 hne h1 h2 b hb
  ·rcases jK (L:=L E) t with h|⟨p,hp,_,h⟩
   ·simp only[h]at hk';cases hk'
   ·simp only[h]at hk';exact (hkb E).1 p hp k hk'
  ·exact (hkb E).2 _ (cz he)
theorem aW{P:Program}{W:World}{bs:List Nat}{nt:Nat}{ds:Aux}{Q:mb}{σ:St}{x y:Code}(σ' : St)(h1:Wp P W bs nt ds x (Th (λW' bs' σ1=>Le W' bs' nt ds σ1 σ') Q) σ)(h2:Wp P W bs nt ds y Q σ') :
  Wp P W bs nt ds (.seq x y) Q σ:=λa w hs=>
 wp_seq (wp_mono (h1 a w hs) λe a' w' ⟨W',bs',σ1,he,hq,hs'⟩=>by
  cases e with
  |normal=>exact h2 a' w' (Sat.back he (hq a' w' hs'))
  |_=>exact⟨W',bs',σ1,he,hq,hs'⟩)
def New(W:World)(bs bs' : List Nat):Nat->Prop:=λb=>b∉bs' /\ (W.heap.size<=b\/b∈bs)
theorem New.out{W:World}{bs bs' : List Nat}{b:Nat}(h:New W bs bs' b):Out bs' b:=h.1
theorem O4{W W' : World}{bs bs' : List Nat}{E:Nat->Value}{F:Nat->List Nat}{h:Hp}{k:Nat}{T:TypeId}{s n:Nat}{vs:List SV}(hs:ai W bs E F h W')(hk:h k=some (.row T s n vs))(hb:∀ b∈F k,b∉bs') :
  ∃ ao c,E k=.slice ao n c/\gJ W' (New W bs bs') ao (au E vs)/\n<=c:=by
 obtain⟨⟨hl,h⟩,hF⟩:=hs.ent k _ hk;rcases h with ⟨h1,rfl⟩|⟨g,cap,cur,h1,_,hh,hnc,_,hsz,htk⟩
 ·exact⟨none,0,h1,.inl (by simpa using hl),Nat.le_refl _⟩
 ·have hg:g∈F k:=by rw[hF,h1];simp[Value.ownBlock]
  refine⟨some ⟨g,0,none⟩,cap,h1,.inr ⟨g,0,rfl,λj hj=>⟨⟨hb g hg,hs.mine k _ hk g hg⟩,?_⟩⟩,hnc⟩;rw[Nat.zero_add];have hj' : j<n*s:=oM;have:(au E vs)[j]?=cur[j]?:=by rw[<- htk,List.getElem?_take,if_pos hj'];simp
  simp only[World.cell?,hh];rw[<- this,List.getElem?_eq_getElem hj];rfl
theorem gJ.grow{W W' : World}{bs' : List Nat}{ao:Option Addr}{vs:List Value}{S:Nat->Prop}(h:gJ W' (New W [] bs') ao vs):gJ W' (λb=>(b<W.heap.size->S b)/\b∉bs') ao vs:=
 h.out λb hb=>⟨λhlt=>absurd (hb.2.resolve_right sI) (Nat.not_le.2 hlt),hb.1⟩
def et(cs:List Value):Value:=.iface 0 (.agg cs.toArray)
theorem Fs(cs:List Value)(i:Nat):HJ (et cs) i=cs.getD i .nilIface:=by simp[HJ,et,Array.getD_eq_getD_getElem?,List.getD_eq_getElem?_getD]
def Grow(w:World)(S:Nat->Prop):Nat->Prop:=λb=>b<w.heap.size->S b
def O7(W:World)(bs:List Nat)(Φ:List Value->World->(Nat->Prop)->Prop):List Value->Value->List Nat->World->Prop:=λ_ u fp w=>
 ∃ cs,u=et cs/\∀ W₂ S₂,(∀ b,b<W.heap.size->b∉bs->W₂.heap[b]?=W.heap[b]?/\S₂ b)->(∀ b∈fp,W₂.heap[b]?=w.heap[b]?/\S₂ b)->Φ cs W₂ S₂
structure V0 (P:Program)(f:FuncId) where
 pre:List AV->World->(Nat->Prop)->Prop
 tm:Nat->SV
 Φ:List AV->List Value->World->(Nat->Prop)->Prop
 premono:∀ as_ W S W' S',cT W S W' S' -> pre as_ W S->pre as_ W' S'
 mono:∀ as_ cs W S W' S',cT W S W' S' -> Φ as_ cs W S->Φ as_ cs W' S'
 tmg:∀ E k,den E (tm k)=den (λ_=>E k) (tm 0)
 tmk:∀ k,∀ j∈(tm k).keys,j=k
 enters:∀ args w,(callFunc f args).run P w=.ok (.enter f args) w
 ok:∀ (w:World) (S:Nat->Prop) (us:List Value) (as_:List AV),fX w us as_->pre as_ w S->Calls P f us.toArray w λe w' => ∃ cs,e=.returned (den (λ_=>et cs) (tm 0))/\Φ as_ cs w' (Grow w S)/\ah w [] w'
def Old(W:World)(bs:List Nat):Nat->Prop:=λb=>b<W.heap.size/\b∉bs
def IS(κ:Nat)(pre:List AV->World->(Nat->Prop)->Prop)(tm:Nat->SV)(Φ:List AV->List Value->World->(Nat->Prop)->Prop)(W:World)(bs:List Nat):Option (List AV×List Nat)->R
 |some (as_,rs)=>⟨pre as_ W (Out bs),tm (8*κ),[(8*κ,some (.obj [] (O7 W bs (Φ as_))))],none,[],rs⟩
 |none=>.bad
def V0.spec{P:Program}{f:FuncId}(p:V0 P f):Spec P f where
 ev:=λW bs κ h args=>IS κ p.pre p.tm p.Φ W bs (aC h args)
 good:=λW bs κ E F h w K args hs hK hk hx hside=>by
  rw[p.enters];cases hv:aC h args with
  |none=>rw[hv]at hside;exact hside.elim
  | some q=>
   obtain⟨as_,rs⟩:=q;rw[hv]at hside;have h0:cT W (Out bs) w (Old W bs):=λb hb hs' => ⟨hs.keeps.block b hb hs',hb,hs'⟩
   refine zj hs hK hk (e:=.obj [] (O7 W bs (p.Φ as_))) ((p.ok w (Old W bs) _ as_ (eR hs hv) (p.premono as_ _ _ _ _ h0 hside)).mono λe w' he=>?_) rfl rfl;obtain⟨cs,rfl,hΦ,hkeep⟩:=he;have hmem:∀ b,b∈List.range' w.heap.size (w'.heap.size-w.heap.size) ↔ w.heap.size<=b/\b<w'.heap.size:=λb=>by
    rw[List.mem_range'_1];have:=hkeep.size;omega
   have hR:∀ w3:World,(∀ b∈List.range' w.heap.size (w'.heap.size-w.heap.size),w3.heap[b]?=w'.heap[b]?)->O7 W bs (p.Φ as_) [] (et cs) (List.range' w.heap.size (w'.heap.size-w.heap.size)) w3:=by
    intro w3 h3;refine⟨cs,rfl,λW₂ S₂ hold hnew=>p.mono as_ cs w' (Grow w (Old W bs)) W₂ S₂ (λb hb hg=>?_) hΦ⟩;by_cases hbw:b<w.heap.size
    ·obtain⟨g1,g2⟩:=hg hbw;obtain⟨g3,g4⟩:=hold b g1 g2;exact⟨by rw[g3,hkeep.block b hbw sI,hs.keeps.block b g1 g2],g4⟩
    ·have hb' := (hmem b).2 ⟨oM,hb⟩;obtain⟨g3,g4⟩:=hnew b hb';exact⟨by rw[g3,h3 b hb'],g4⟩
   refine⟨_,et cs,List.range' w.heap.size (w'.heap.size-w.heap.size),rfl,λE' => ⟨⟨hR w' λ_ _=>rfl,rfl⟩,hR⟩,λb hb=>(hmem b).1 hb,hkeep,?_⟩;simp only[IS];rw[p.tmg (bu E (nk κ) (et cs)),nk,ak]
 keys:=λW bs κ h K args hK hx hside=>by
  cases hv:aC h args with
  |none=>rw[hv]at hside;exact hside.elim
  | some q=>
   obtain⟨as_,rs⟩:=q;refine⟨λk hk=>.inr ?_,λq hq=>?_⟩
   ·rw[p.tmk _ k hk];exact bg κ
   ·simp only[IS,List.mem_singleton]at hq;subst hq;refine⟨.inr (bg κ),λe he k hk=>?_⟩;simp only[Option.some.injEq]at he;subst he;cases hk
 loc:=λW bs κ h h' args hside hr=>by
  cases hv:aC h args with
  |none=>rw[hv]at hside;exact hside.elim
  |some q=>
   obtain⟨as_,rs⟩:=q;rw[hv]at hr;rw[du hv hr]
theorem U4{P:Program}{f:FuncId}(p:V0 P f)(W:World)(bs:List Nat)(κ:Nat)(h:Hp)(l:List SV):p.spec.ev W bs κ h l=IS κ p.pre p.tm p.Φ W bs (aC h l):=rfl
theorem Lf(κ:Nat)(pre:List AV->World->(Nat->Prop)->Prop)(tm:Nat->SV)(Φ:List AV->List Value->World->(Nat->Prop)->Prop)(W:World)(bs:List Nat)(as_:List AV)(rs:List Nat) :
  IS κ pre tm Φ W bs (some (as_,rs))=⟨pre as_ W (Out bs),tm (8*κ),[(8*κ,some (.obj [] (O7 W bs (Φ as_))))],none,[],rs⟩:=rfl
theorem eB(m:Nat->Src)(l:List Value):fV m (l.map .v)=l.map .v:=by
 induction l with
 |nil=>rfl
 |cons x r ih=>simp[fV,eZ,ih]
theorem cl(m:Nat->Src)(a b:List SV):fV m (a++b)=fV m a++fV m b:=by
 induction a with
 |nil=>rfl
 |cons x r ih=>simp[fV,ih]
section
variable {P:Program}{κ:Nat}{h:Hp}
def mkV(κ:Nat)(e:TypeId)(l c:Int):Option Nat->Option (List Value)->Option Nat->R
 |some sz,some zs,some by_=>⟨0<=l/\l<=c/\(by_:Int)*c<=281474976710656/\c<=9223372036854775807/\zs.length=sz/\0<sz,.hd (8*κ),[(8*κ,some (.row e sz l.toNat ((List.replicate l.toNat zs).flatten.map .v)))],none,[],[]⟩
 |_,_,_=>.bad
def mkU(P:Program)(κ:Nat)(l c:Int):Option TypeDesc->R
 |some (.slice e)=>mkV κ e l c (ts P e) (tz P e) (rR P e)
 |_=>.bad
theorem Iv(T:TypeId)(k k' : IntKind)(l c:Int):mg P κ T [.v (.int k l),.v (.int k' c)]=mkU P κ l c (P.underlying T):=by
 simp only[mg];unfold mkU;rcases P.underlying T with _|d
 ·rfl
 ·cases d<;>first|rfl|(rename_i e;simp only[mkV,nk];rcases ts P e with _|a<;>rcases tz P e with _|b<;>rcases rR P e with _|c<;>rfl)
theorem Sv(l c:Int)(e:TypeId):mkU P κ l c (some (.slice e))=mkV κ e l c (ts P e) (tz P e) (rR P e):=rfl
theorem W5(e:TypeId)(l c:Int)(sz:Nat)(zs:List Value)(by_:Nat):mkV κ e l c (some sz) (some zs) (some by_)=⟨0<=l/\l<=c/\(by_:Int)*c<=281474976710656/\c<=9223372036854775807/\zs.length=sz/\0<sz,.hd (8*κ),[(8*κ,some (.row e sz l.toNat ((List.replicate l.toNat zs).flatten.map .v)))],none,[],[]⟩:=rfl
def qd(ao:Option Addr)(a sz c:Nat):Option Addr:=if c=a then ao else ao.map (·.add (a*sz))
theorem Dw(ao:Option Addr)(sz c:Nat):qd ao 0 sz c=ao:=by
 unfold qd;split
 ·rfl
 ·cases ao<;>simp[Addr.add]
theorem gJ.at{W:World}{S:Nat->Prop}{ao:Option Addr}{vs:List Value}{a sz c n:Nat}(h:gJ W S ao vs)(hl:vs.length=n*sz)(hn:n<=c)(ha:a<=n):gJ W S (qd ao a sz c) (vs.drop (a*sz)):=by
 unfold qd;split
 ·left;have:vs.length<=a*sz:=by rw[hl];exact Nat.mul_le_mul_right _ oM
  simp[this]
 ·rcases h with h|⟨b,o,rfl,h2⟩
  ·exact .inl (by simp[h])
  ·refine .inr ⟨b,o+a*sz,?_,λj hj=>?_⟩
   ·simp only[Option.map_some,Addr.add,Option.some.injEq];split
    ·rename_i h0;simp[h0]
    ·rfl
   ·simp only[List.length_drop]at hj;have:=h2 (a*sz+j) oM;rw[List.getElem_drop]
    rwa [Nat.add_assoc]
def slV(ao:Option Addr)(c:Nat)(a b:Int):Option Nat->R
 |some sz=>⟨0<=a/\a<=b/\b<=c,.v (.slice (qd ao a.toNat sz c) (b.toNat-a.toNat) (c-a.toNat)),[],none,[],[]⟩
 |none=>.bad
def slU(P:Program)(ao:Option Addr)(c:Nat)(a b:Int):Option TypeDesc->R
 |some (.slice e)=>slV ao c a b (ts P e)
 |_=>.bad
theorem nY(T:TypeId)(ao:Option Addr)(n c:Nat)(a b:Int):nw P T ao n c a b=slU P ao c a b (P.underlying T):=by
 simp only[nw];unfold slU;rcases P.underlying T with _|d
 ·rfl
 ·cases d<;>first|rfl|(rename_i e;simp only[slV,R.iu,qd];rcases ts P e with _|a<;>rfl)
theorem RJ(ao:Option Addr)(c:Nat)(a b:Int)(e:TypeId):slU P ao c a b (some (.slice e))=slV ao c a b (ts P e):=rfl
theorem Xf(ao:Option Addr)(c:Nat)(a b:Int)(sz:Nat):slV ao c a b (some sz)=⟨0<=a/\a<=b/\b<=c,.v (.slice (qd ao a.toNat sz c) (b.toNat-a.toNat) (c-a.toNat)),[],none,[],[]⟩:=rfl
theorem Ew(T:TypeId)(ao:Option Addr)(n c:Nat)(k k' : IntKind)(a b:Int):dF P T true true false [.v (.slice ao n c),.v (.int k a),.v (.int k' b)]=slU P ao c a b (P.underlying T):=by
 rw[<- nY T ao n];rfl
theorem Fw(T:TypeId)(ao:Option Addr)(n c:Nat)(k:IntKind)(a:Int):dF P T true false false [.v (.slice ao n c),.v (.int k a)]=slU P ao c a n (P.underlying T):=by
 rw[<- nY T ao n];rfl
theorem EU(T:TypeId)(ao:Option Addr)(n c:Nat)(k:IntKind)(b:Int):dF P T false true false [.v (.slice ao n c),.v (.int k b)]=slU P ao c 0 b (P.underlying T):=by
 rw[<- nY T ao n];rfl
end
end
section
def ev6:=(aa @Iv (aa @Sv (aa @W5 (aa @Dw (aa @RJ (aa @Xf (aa @Ew (aa @Fw (aa @EU (aa @U4 @Lf))))))))))
end
section
open Go.ChangeShapes Go.WideShapes Go.ChangeAt Go.RowKit
section
variable {H:Type}{enc:TypeId×Value->H}{P:Program}
theorem VV{f:Func}{s:ChangeSpec}{apart fresh handsOn again:Bool}{W W' : World}{args:Array Value}{v:Value}{ds gs:List (DataW H)}{before pa pv:List MemPlace}
  (hW:DataW.Whole enc P f.params.toList s.vars apart W args.toList ds gs before)
  (hres:∀ (b:Nat) (sp:Nat->Bool) (hd:Bool),DataW.TrodAll enc P W' b sp hd f.resultTypes.toList (v.resultList f.resultTypes.size) (s.fn H (ds++gs)).results [])
  (hargs:∀ sp:Nat->Bool,(∀ p∈before,sp p.block=true)->DataW.TrodAll enc P W' 0 sp true f.params.toList args.toList (s.fn H (ds++gs)).args pa)
  (hvars:∀ sp:Nat->Bool,(∀ p∈before,sp p.block=true)->DataW.TrodVars enc P W' sp s.vars (s.fn H (ds++gs)).vars pv)
  (hps:before=pa++pv) (hk:W.keptBut W' (·∈before)) (hfz:∀ a,a.block<W.heap.size->W'.frozen? a=W.frozen? a)
  (hok:∀ (j:Nat) (t:TypeId) (r:Value),f.resultTypes[j]?=some t->(v.resultList f.resultTypes.size)[j]?=some r->Value.okWide P W' .any 0 t r) :
  s.post enc P f apart fresh handsOn again W args v W' := by
 have hlt:=hW.lt;have hold:∀ p∈before,(λb=>decide (b<W.heap.size)) p.block=true:=λp hp=>by simpa using hlt p hp
 refine⟨ds,gs,before,[],pa,pv,hW,hres _ _ _,hargs _ hold,hvars _ hold,World.keptBut_mono (λp hp=>⟨hp,?_⟩) hk,λ_=>?_⟩
 ·rw[hps,List.mem_append]at hp;exact Or.inr hp
 ·obtain⟨_,_,_,_,_,hz,hn⟩:=hW;refine⟨hok,_,_,([]++pa)++pv,⟨[]++pa,pv,trodAll_append (hargs _ (λ_ _=>rfl)) (hres _ _ _),hvars _ (λ_ _=>rfl),rfl,?_,?_⟩,?_⟩
  ·intro b off hp;have hp' : MemPlace.cell b off∈before:=by rw[hps];simpa using hp
   rw[hfz _ (hlt _ hp')];exact hz b off hp'
  ·intro ha;have:=hn ha;rw[hps]at this;simpa using this
  ·intro p hp _;rw[hps];simpa using hp
theorem rk{W W' : World}:∀ {ts:List TypeId} {vs:List Value} {ds:List (DataW H)} {ps:List MemPlace},DataW.TrodAll enc P W 0 (λ_=>true) true ts vs ds ps->(∀ p∈ps,W.sameAt W' p)->DataW.TrodAll enc P W' 0 (λ_=>true) true ts vs ds ps
 |[],[],[],_,h,_=>h
 |t::ts,v::vs,d::ds,ps,⟨p,q,h1,h2,e⟩,hs=>by
  subst e;obtain⟨n,hn⟩:=h1;exact⟨p,q,⟨n,DataW.trod_carry n _ _ _ hn (λx hx=>hs x (List.mem_append_left _ hx))⟩,rk h2 (λx hx=>hs x (List.mem_append_right _ hx)),rfl⟩
theorem Za{f:Func}{s:ChangeSpec}{tb:TypeId}(hl:laidOutB P=true)(hm:mapsRowed P=true)
  (hf:((List.range P.types.size).all λt=>match P.underlying t with|some (.slice e)=>decide (0<P.cellsOf e)|_=>true)=true)
  (hT:f.params.all (λt=>decide (t<P.types.size))=true) (hrt:f.resultTypes=#[tb]) (hb:P.underlying tb=some .bool) (hvs:s.vars=[]) {W W' : World} {args:Array Value} {ds gs:List (DataW H)} {before:List MemPlace}
  (hW:DataW.Whole enc P f.params.toList s.vars false W args.toList ds gs before) (hres:(s.fn H (ds++gs)).results=[.lit (.bool true)]) (hargs:(s.fn H (ds++gs)).args=ds) (hv:(s.fn H (ds++gs)).vars=[])
  (hk:ah W [] W'):s.post enc P f false true false false W args (.bool true) W' := by
 have hb' := hk.below;have hW' := hW;obtain⟨p,q,hA,hV,rfl,hfz,hnd⟩:=hW;have hlt:=hW'.lt;have hq:q=[]:=by rw[hvs]at hV;exact (trodVars_none hV).2
 subst hq;refine VV (pa:=p) (pv:=[]) hW' (λ_ _ _=>?_) (λsp hsp=>?_) (λsp hsp=>?_) rfl (hb'.frame _) (λad hlt=>hb'.frozen hlt) ?_
 ·rw[hrt,hres];exact trodAll_cons_mk (shut_bool hb _) trodAll_mk0
 ·rw[hargs];refine DataW.TrodAll.respare (kids_rows hl hm) (slices_full_of P hf) (λt ht=>?_) (rk hA λx hx=>hb'.same (hlt x (by simpa using hx))) (λx hx=>hsp x (by simpa using hx));rw[Array.all_eq_true]at hT;obtain⟨i,hi,he⟩:=Array.mem_iff_getElem.1 (Array.mem_toList_iff.1 ht);have:=hT i hi
  rw[he]at this;simpa using this
 ·rw[hvs,hv];rfl
 ·exact ok_one hrt rfl (okWide_bool_mk hb _)
end
end
section
open Go.RowKit
section
variable {P:Program}{W:World}{bs:List Nat}{κ:Nat}{E:Nat->Value}{F:Nat->List Nat}{h:Nat->Option aT}{w:World}{K:Nat->Prop}
def ZK(u:Value):AV->List Nat
 |.val _=>[]
 |.row _ _ _ _=>u.ownBlock.toList
def v7:List Value->List AV->List Nat
 |u::us,a::as_=>ZK u a++v7 us as_
 |_,_=>[]
def bC(w:World)(u:Value)(fp:List Nat)(T:TypeId)(fs:List AV):Prop:=
 ∃ b us,u=.pointer (some ⟨b,0,none⟩)/\w.heap[b]?=some (.cells us.toArray T (0,0))/\fX w us fs/\fp=b::v7 us fs/\fp.Nodup
theorem VB(hs:ai W bs E F h w){x:SV}{a:AV}{r:List Nat}(hv:cM h x=some (a,r)):ZK (den E x) a=r.flatMap F/\∀ k∈r,(∃ e,h k=some e)/\∀ k' ∈ r,k' = k:=by
 cases x with
 |v x=>simp[cM]at hv;obtain⟨rfl,rfl⟩:=hv;exact⟨rfl,sI⟩
 |agg l=>
  simp only[cM,Option.map_eq_some_iff,Prod.mk.injEq]at hv;obtain⟨vs,h1,rfl,rfl⟩:=hv;exact⟨rfl,sI⟩
 | hd k=>
  simp only[cM]at hv;cases hk:h k with
  |none=>rw[hk]at hv;simp[kJ]at hv
  | some e=>
   cases e with
   | row T s n us=>
    rw[hk]at hv;simp only[kJ,Option.map_eq_some_iff,Prod.mk.injEq]at hv;obtain⟨vs,h1,rfl,rfl⟩:=hv;have:=hs.ent k _ hk;refine⟨?_,λk' hk' => ?_⟩
    ·simp only[ZK,den,kG (dP this)];simp[this.2]
    ·simp only[List.mem_singleton]at hk';subst hk';exact⟨⟨_,hk⟩,sI⟩
   |cells T vs=>rw[hk]at hv;simp[kJ]at hv
   |obj d R=>rw[hk]at hv;simp[kJ]at hv
 |own k o=>simp[cM]at hv
 |tup l=>simp[cM]at hv
 |ifc t x=>simp[cM]at hv
 |part k i=>simp[cM]at hv
 |fn f a c=>simp[cM]at hv
theorem b7(hs:ai W bs E F h w):∀ {l:List SV} {as_:List AV} {r:List Nat},aC h l=some (as_,r)->v7 (au E l) as_=r.flatMap F/\∀ k∈r,∃ e,h k=some e
 |[],as_,r,hv=>by simp[aC]at hv;obtain⟨rfl,rfl⟩:=hv;exact⟨rfl,sI⟩
 | x::l,as_,r,hv=>by
  simp only[aC]at hv;cases h1:cM h x with
  |none=>rw[h1]at hv;simp[lU]at hv
  | some p=>
   cases h2:aC h l with
   |none=>rw[h1,h2]at hv;simp[lU]at hv
   |some q=>
    obtain⟨a,ra⟩:=p;obtain⟨as',rs⟩:=q;rw[h1,h2]at hv;simp only[lU,Option.some.injEq,Prod.mk.injEq]at hv;obtain⟨rfl,rfl⟩:=hv;obtain⟨g1,g2⟩:=VB hs h1;obtain⟨g3,g4⟩:=b7 hs h2;refine⟨by simp only[au,v7,g1,g3,List.flatMap_append],λk hk=>?_⟩;rcases List.mem_append.1 hk with hk|hk
    ·exact (g2 k hk).1
    ·exact g4 k hk
theorem Ae(u:Value):u.ownBlock.toList.Nodup:=by cases u.ownBlock<;>simp
theorem RR{u:Value}{fp:List Nat}{e:aT}(hE:∀ d R,e≠.obj d R)(h:a6 E u fp w e):fp.Nodup:=by
 cases e with
 |cells T vs=>obtain⟨b,_,h2,_⟩:=h;rw[h2];simp
 |row T s n vs=>rw[h.2];exact Ae u
 |obj d R=>exact absurd rfl (hE d R)
theorem lM{h:Hp}:∀ {l:List SV} {as_:List AV} {r:List Nat},aC h l=some (as_,r)->∀ k∈r,∃ T s n vs,h k=some (.row T s n vs)
 |[],as_,r,hv=>by simp[aC]at hv;obtain⟨rfl,rfl⟩:=hv;simp
 | x::l,as_,r,hv=>by
  simp only[aC]at hv;cases h1:cM h x with
  |none=>rw[h1]at hv;simp[lU]at hv
  | some p=>
   cases h2:aC h l with
   |none=>rw[h1,h2]at hv;simp[lU]at hv
   | some q=>
    obtain⟨a,ra⟩:=p;obtain⟨as',rs⟩:=q;rw[h1,h2]at hv;simp only[lU,Option.some.injEq,Prod.mk.injEq]at hv;obtain⟨rfl,rfl⟩:=hv;intro k hk;rcases List.mem_append.1 hk with hk|hk
    ·cases x with
     | hd j=>
      simp only[cM]at h1;cases hj:h j with
      |none=>rw[hj]at h1;simp[kJ]at h1
      | some e=>
       cases e with
       |row T s n us=>
        rw[hj]at h1;simp only[kJ,Option.map_eq_some_iff,Prod.mk.injEq]at h1;obtain⟨vs,_,_,rfl⟩:=h1;simp only[List.mem_singleton]at hk;subst hk;exact⟨_,_,_,_,hj⟩
       |_=>rw[hj]at h1;simp[kJ]at h1
     |v x=>simp[cM]at h1;obtain⟨_,rfl⟩:=h1;cases hk
     |agg l=>
      simp only[cM,Option.map_eq_some_iff,Prod.mk.injEq]at h1;obtain⟨_,_,_,rfl⟩:=h1;cases hk
     |_=>simp[cM]at h1
    ·exact lM h2 k hk
theorem rQ(hs:ai W bs E F h w):∀ {ks:List Nat},ks.Nodup->(∀ k∈ks,∃ e,h k=some e/\∀ d R,e≠.obj d R)->(ks.flatMap F).Nodup
 |[],_,_=>by simp
 |k::r,hn,he=>by
  rw[List.flatMap_cons,List.nodup_append];obtain⟨e,h1,h2⟩:=he k sI;refine⟨RR h2 (hs.ent k e h1),rQ hs (List.nodup_cons.1 hn).2 (λj hj=>he j (by simp[hj])),λb hb c hc hbc=>?_⟩;subst hbc;obtain⟨j,hj,hbj⟩:=List.mem_flatMap.1 hc;obtain⟨e2,h3,_⟩:=he j (by simp[hj])
  exact hs.apart k j e e2 (λe' => (List.nodup_cons.1 hn).1 (e' ▸ hj)) h1 h3 b hb hbj
theorem gh(hs:ai W bs E F h w){k:Nat}{T:TypeId}{vs:List SV}{fs:List AV}{rs:List Nat}(hk:h k=some (.cells T vs))(hv:aC h vs=some (fs,rs))(hn:(k::rs).Nodup) :
  bC w (E k) ((k::rs).flatMap F) T fs:=by
 obtain⟨b,h1,h2,h3⟩:=hs.ent k _ hk;obtain⟨g1,_⟩:=b7 hs hv;refine⟨b,au E vs,h1,h3,eR hs hv,by rw[List.flatMap_cons,h2,g1];rfl,rQ hs hn λj hj=>?_⟩;rcases List.mem_cons.1 hj with rfl|hj
 ·exact⟨_,hk,λd R e=>by cases e⟩
 ·obtain⟨T',s,n,us,hj'⟩:=lM hv j hj;exact⟨_,hj',λd R e=>by cases e⟩
def aN:Nat->List AV->List SV
 |_,[]=>[]
 |k,.val v::r=>.v v::aN (k+1) r
 |k,.row _ _ _ _::r=>.hd k::aN (k+1) r
def aZ:Nat->List AV->List (Nat×aT)
 |_,[]=>[]
 |k,.val _::r=>aZ (k+1) r
 |k,.row T s n vs::r=>(k,.row T s n (vs.map .v))::aZ (k+1) r
def cQ:List (Nat×aT)->List (Nat×Option aT)
 |[]=>[]
 |(k,e)::r=>(k,some e)::cQ r
theorem ew:∀ {k:Nat} {fs:List AV},∀ p∈aZ k fs,k<=p.1/\p.1<k+fs.length/\p.2.keys=[]
 |_,[],p,hp=>by cases hp
 |k,.val v::r,p,hp=>by
  have:=ew (k:=k+1) (fs:=r) p hp;simp only[List.length_cons];exact⟨oM,oM,this.2.2⟩
 | k,.row T s n vs::r,p,hp=>by
  rcases List.mem_cons.1 hp with rfl|hp
  ·simp[aT.keys,aA]
  ·have:=ew (k:=k+1) (fs:=r) p hp;simp only[List.length_cons];exact⟨oM,oM,this.2.2⟩
theorem cR:∀ {k:Nat} {fs:List AV},∀ j∈aw (aN k fs),k<=j/\j<k+fs.length
 |_,[],j,hj=>by cases hj
 |k,.val v::r,j,hj=>by
  simp only[aN,aw,SV.keys,List.nil_append]at hj;have:=cR j hj;simp only[List.length_cons];omega
 | k,.row T s n vs::r,j,hj=>by
  simp only[aN,aw,SV.keys,List.singleton_append,List.mem_cons]at hj;simp only[List.length_cons];rcases hj with rfl|hj
  ·omega
  ·have:=cR j hj;omega
def iI:Nat->List Value->(Nat->Value)->Nat->Value
 |_,[],E=>E
 |k,u::us,E=>bu (iI (k+1) us E) k u
def iC:Nat->List Value->List AV->(Nat->List Nat)->Nat->List Nat
 |k,u::us,a::as_,F=>bu (iC (k+1) us as_ F) k (ZK u a)
 |_,_,_,F=>F
theorem jY:∀ {k:Nat} {us:List Value} {E:Nat->Value} {j:Nat},(j<k\/k+us.length<=j)->iI k us E j=E j
 |_,[],_,_,_=>rfl
 |k,u::us,E,j,h=>by
  simp only[List.length_cons]at h;simp only[iI];rw[aq _ _ oM];exact jY oM
theorem jr:∀ {k:Nat} {us:List Value} {as_:List AV} {F:Nat->List Nat} {j:Nat},(j<k\/k+as_.length<=j)->iC k us as_ F j=F j
 |k,u::us,a::as_,F,j,h=>by
  simp only[List.length_cons]at h;simp only[iC];rw[aq _ _ oM];exact jr oM
 |_,[],[],_,_,_=>rfl
 |_,[],_::_,_,_,_=>rfl
 |_,_::_,[],_,_,_=>rfl
theorem iy:∀ {us:List Value} {as_:List AV},fX w us as_->us.length=as_.length
 |[],[],_=>rfl
 |_::_,_::_,h=>by simp[iy h.2]
 |[],_::_,h=>h.elim
 |_::_,[],h=>h.elim
theorem gl:∀ {k:Nat} {us:List Value} {fs:List AV} {E:Nat->Value},fX w us fs->au (iI k us E) (aN k fs)=us
 |_,[],[],_,_=>rfl
 |k,u::us,.val v::fs,E,h=>by
  obtain⟨rfl,h2⟩:=h;simp only[aN,au,den,iI]
  congr 1
  have:au (bu (iI (k+1) us E) k u) (aN (k+1) fs)=au (iI (k+1) us E) (aN (k+1) fs):=bS _ λj hj=>aq _ _ (by have:=cR j hj;omega)
  rw[this];exact gl h2
 |k,u::us,.row T s n vs::fs,E,h=>by
  obtain⟨h1,h2⟩:=h;simp only[aN,au,den,iI,ak];have hone:u.oneCell' = true:=dP (E:=E) (fp:=u.ownBlock.toList) (w:=w) (e:=.row T s n (vs.map .v)) ⟨by rw[aJ];exact h1,rfl⟩;rw[kG hone]
  congr 1
  have:au (bu (iI (k+1) us E) k u) (aN (k+1) fs)=au (iI (k+1) us E) (aN (k+1) fs):=bS _ λj hj=>aq _ _ (by have:=cR j hj;omega)
  rw[this];exact gl h2
 |_,[],_::_,_,h=>h.elim
 |_,_::_,[],_,h=>h.elim
theorem iF:∀ {k:Nat} {us:List Value} {fs:List AV} {E:Nat->Value} {F:Nat->List Nat} {p:Nat×aT},fX w us fs->p∈aZ k fs ->
  ∀ E0:Nat->Value,a6 E0 (iI k us E p.1) (iC k us fs F p.1) w p.2/\∀ b∈iC k us fs F p.1,b∈v7 us fs
 |_,[],[],_,_,p,_,hp=>by cases hp
 |k,u::us,.val v::fs,E,F,p,h,hp=>λE0=>by
  have hk:=ew (k:=k+1) (fs:=fs) p hp;simp only[iI,iC];rw[aq _ _ oM,aq _ _ oM];obtain⟨h1,h2⟩:=iF (k:=k+1) (E:=E) (F:=F) h.2 hp E0;exact⟨h1,λb hb=>List.mem_append_right _ (h2 b hb)⟩
 | k,u::us,.row T s n vs::fs,E,F,p,h,hp=>λE0=>by
  rcases List.mem_cons.1 hp with rfl|hp
  ·simp only[iI,iC,ak];exact⟨⟨by rw[aJ];exact h.1,rfl⟩,λb hb=>List.mem_append_left _ hb⟩
  ·have hk:=ew (k:=k+1) (fs:=fs) p hp;simp only[iI,iC];rw[aq _ _ oM,aq _ _ oM];obtain⟨h1,h2⟩:=iF (k:=k+1) (E:=E) (F:=F) h.2 hp E0;exact⟨h1,λb hb=>List.mem_append_right _ (h2 b hb)⟩
 |_,[],_::_,_,_,p,h,_=>h.elim
 |_,_::_,[],_,_,p,h,_=>h.elim
theorem pI{k:Nat}{a:AV}{fs:List AV}{r:Nat×aT}(hr:r∈aZ k (a::fs))(hrk:r.1≠k):r∈aZ (k+1) fs:=by
 cases a with
 |val v=>exact hr
 |row T s n vs=>
  rcases List.mem_cons.1 hr with rfl|hr
  ·exact absurd rfl hrk
  ·exact hr
theorem bN:∀ {k:Nat} {us:List Value} {fs:List AV} {F:Nat->List Nat} {r:Nat×aT},us.length=fs.length->r∈aZ k fs->∀ b∈iC k us fs F r.1,b∈v7 us fs
 |_,[],[],_,r,_,hr,_,_=>by cases hr
 |_,[],_::_,_,_,hl,_,_,_=>by simp at hl
 |_,_::_,[],_,_,hl,_,_,_=>by simp at hl
 | k,u::us,a::fs,F,r,hl,hr,b,hb=>by
  simp only[v7,List.mem_append];simp only[iC]at hb;by_cases hrk:r.1=k
  ·rw[hrk,ak]at hb;exact .inl hb
  ·rw[aq _ _ hrk]at hb;exact .inr (bN (by simpa using hl) (pI hr hrk) b hb)
theorem gi:∀ {k:Nat} {us:List Value} {fs:List AV} {F:Nat->List Nat} {p q:Nat×aT},(v7 us fs).Nodup->p∈aZ k fs->q∈aZ k fs->us.length=fs.length->p.1≠q.1->∀ b∈iC k us fs F p.1,b∉iC k us fs F q.1
 |_,[],[],_,p,_,_,hp,_,_,_,_,_=>by cases hp
 |_,[],_::_,_,_,_,_,_,_,hl,_,_,_=>by simp at hl
 |_,_::_,[],_,_,_,_,_,_,hl,_,_,_=>by simp at hl
 | k,u::us,a::fs,F,p,q,hn,hp,hq,hl,hpq,b,hb=>by
  have hl' : us.length=fs.length:=by simpa using hl
  rw[show v7 (u::us) (a::fs)=ZK u a++v7 us fs from rfl,List.nodup_append]at hn;obtain⟨_,n2,n3⟩:=hn;simp only[iC]at hb ⊢;by_cases hpk:p.1=k
  ·rw[hpk,ak]at hb;have hqk:q.1≠k:=λe=>hpq (by rw[hpk,e])
   rw[aq _ _ hqk];intro hb';exact n3 b hb b (bN hl' (pI hq hqk) b hb') rfl
  ·rw[aq _ _ hpk]at hb;by_cases hqk:q.1=k
   ·rw[hqk,ak];intro hb';exact n3 b hb' b (bN hl' (pI hp hpk) b hb) rfl
   ·rw[aq _ _ hqk];exact gi n2 (pI hp hpk) (pI hq hqk) hl' hpq b hb
end
inductive BOut where
 |ret (v:Value) (fs:List AV)
 |pan (c:List PanicEntry) (v:Value)
def gN(w:World)(u:Value)(fp:List Nat)(T:TypeId)(e:Ending)(w' : World):BOut->Prop
 |.ret v fs=>e=.returned v/\(∃ fp',bC w' u fp' T fs/\(∀ b∈fp',b∈fp\/w.heap.size<=b)/\∀ b∈fp',b<w'.heap.size)/\ah w fp w'
 |.pan c _=>e=.panicked c/\ah w fp w'
structure ed (P:Program)(f:FuncId) where
 T:TypeId
 pre:World->List Nat->List AV->List AV->Prop
 out:World->List AV->List AV->BOut
 enters:∀ args w,(callFunc f args).run P w=.ok (.enter f args) w
 ok:∀ (W w:World) (bs:List Nat) (u:Value) (fp:List Nat) (us:List Value) (fs as_:List AV),ah W bs w->bC w u fp T fs->(∀ b∈fp,b<w.heap.size)->(∀ b∈fp,W.heap.size<=b\/b∈bs)->fX w us as_->pre W bs fs as_ ->
  Calls P f (u::us).toArray w λe w' => gN w u fp T e w' (out W fs as_)
def eC(rs:List Nat):List (Nat×Option aT):=rs.map λj=>(j,none)
def im(κ k:Nat)(T:TypeId)(pre:Prop)(rs rs' : List Nat):BOut->R
 |.ret v fs=>⟨pre/\(k::rs).Nodup/\(∀ j∈rs',j∉k::rs)/\fs.length<=8,.v v,eC rs++(cQ (aZ (8*κ) fs)++[(k,some (.cells T (aN (8*κ) fs)))]),none,[],k::(rs++rs')⟩
 |.pan c v=>⟨pre/\(k::rs).Nodup/\(∀ j∈rs',j∉k::rs),.v v,[],some c,k::rs,k::(rs++rs')⟩
def iU(κ k:Nat)(T T' : TypeId)(pre:List AV->List AV->Prop)(out:List AV->List AV->BOut)(as_:List AV)(rs' : List Nat):Option (List AV×List Nat)->R
 |some (fs,rs)=>im κ k T (T' = T/\pre fs as_) rs rs' (out fs as_)
 |none=>.bad
def gx(h:Hp)(κ k:Nat)(T:TypeId)(pre:List AV->List AV->Prop)(out:List AV->List AV->BOut):Option aT->Option (List AV×List Nat)->R
 |some (.cells T' vs),some (as_,rs')=>iU κ k T T' pre out as_ rs' (aC h vs)
 |_,_=>.bad
def qJ(h:Hp)(κ:Nat)(T:TypeId)(pre:List AV->List AV->Prop)(out:List AV->List AV->BOut):List SV->R
 |.own k 0::rest=>gx h κ k T pre out (h k) (aC h rest)
 |_=>.bad
section
variable {P:Program}{W:World}{bs:List Nat}{κ:Nat}{E:Nat->Value}{F:Nat->List Nat}{h:Nat->Option aT}{w:World}{K:Nat->Prop}
theorem cx{α:Type}(f:Nat->α):∀ (a b:List (Nat×α)),ba f (a++b)=ba (ba f a) b
 |[],_=>rfl
 |(k,x)::r,b=>by simp only[List.cons_append,ba];exact cx _ r b
theorem lq(h:Hp):∀ (rs:List Nat) (j:Nat),ba h (eC rs) j=if j∈rs then none else h j
 |[],j=>by simp[eC,ba]
 | k::r,j=>by
  have:ba h (eC (k::r)) j=ba (bu h k none) (eC r) j:=rfl;rw[this,lq];by_cases hj:j∈r
  ·simp[hj]
  ·by_cases hjk:j=k
   ·subst hjk;simp[hj,ak]
   ·simp[hj,hjk,aq _ _ hjk]
theorem jA:∀ (L:List (Nat×Option aT)) (f:Hp) (j:Nat),(∀ p∈L,∃ e,p.2=some e)->ba f L j=match ba (λ_=>none) L j with|some e=>some e|none=>f j
 |[],f,j,_=>rfl
 | (i,x)::r,f,j,hL=>by
  obtain⟨e,he⟩:=hL (i,x) sI;simp only at he;subst he;have hr:∀ p∈r,∃ e,p.2=some e:=λp hp=>hL p (by simp[hp])
  simp only[ba];rw[jA r (bu f i (some e)) j hr,jA r (bu (λ_=>none) i (some e)) j hr];cases ba (λ_=>none) r j with
  |some y=>rfl
  |none=>
   simp only;by_cases hj:j=i
   ·subst hj;simp[ak]
   ·simp[aq _ _ hj]
theorem fK{L:List (Nat×aT)}{p:Nat×Option aT}:p∈cQ L ↔ ∃ e,p=(p.1,some e)/\(p.1,e)∈L:=by
 induction L with
 |nil=>simp[cQ]
 | cons q r ih=>
  obtain⟨k,e⟩:=q;simp only[cQ,List.mem_cons,ih];constructor
  ·rintro (rfl|⟨e',h1,h2⟩)
   ·exact⟨e,rfl,.inl rfl⟩
   ·exact⟨e',h1,.inr h2⟩
  ·rintro⟨e',h1,h2|h2⟩
   ·left;rw[h1];simp only[Prod.mk.injEq]at h2;rw[h2.1,h2.2]
   ·exact .inr ⟨e',h1,h2⟩
theorem pJ{w' : World}{k:Nat}{T:TypeId}{vs:List SV}{fs fs' : List AV}{rs fp' : List Nat}(hs:ai W bs E F h w)(hK:bU K h)(hk:∀ k,k / 8=κ->¬ K k)
  (hkk:h k=some (.cells T vs)) (hv:aC h vs=some (fs,rs)) (hlen:fs'.length<=8) (hn:(k::rs).Nodup)
  (ho:bC w' (E k) fp' T fs') (h1:∀ b∈fp',b∈(k::rs).flatMap F\/w.heap.size<=b) (h2:∀ b∈fp',b<w'.heap.size) (hkeep:ah w ((k::rs).flatMap F) w') :
  ∃ E' F',(∀ j,j / 8≠κ->E' j=E j)/\ai W bs E' F' (ba h (eC rs++(cQ (aZ (8*κ) fs')++[(k,some (.cells T (aN (8*κ) fs')))]))) w' := by
 obtain⟨b,us,hu,hb,hus,rfl,hnd⟩:=ho;have hl:=iy hus;have hKk:K k:=(hK k _ hkk).1;have hfr:∀ j,8*κ<=j->j<8*κ+8->¬ K j:=λj g1 g2=>hk j oM
 have hkf:k<8*κ\/8*κ+8<=k:=by
  by_cases g1:k<8*κ
  ·exact .inl g1
  ·by_cases g2:8*κ+8<=k
   ·exact .inr g2
   ·exact absurd hKk (hfr k oM oM)
 have hE:∀ j,j / 8≠κ->iI (8*κ) us E j=E j:=λj hj=>jY oM
 have hsome:∀ p∈cQ (aZ (8*κ) fs')++[(k,some (.cells T (aN (8*κ) fs')))],∃ e,p.2=some e:=λp hp=>by
  rcases List.mem_append.1 hp with hp|hp
  ·obtain⟨e,he,_⟩:=fK.1 hp;exact⟨e,by rw[he]⟩
  ·simp at hp;exact⟨_,by rw[hp]⟩
 have hNm:∀ j e,ba (λ_=>none) (cQ (aZ (8*κ) fs')++[(k,some (.cells T (aN (8*κ) fs')))]) j=some e->(j=k/\e=.cells T (aN (8*κ) fs'))\/(j≠k/\(j,e)∈aZ (8*κ) fs'):=λj e he=>by
  rw[cx]at he;simp only[ba]at he;by_cases hj:j=k
  ·subst hj;rw[ak]at he;cases he;exact .inl ⟨rfl,rfl⟩
  ·rw[aq _ _ hj]at he;rcases ka (λ_=>(none:Option aT)) (k:=j) (u:=cQ (aZ (8*κ) fs')) with ⟨x,hx,hx'⟩|⟨_,hx'⟩
   ·rw[hx']at he;subst he;obtain⟨e',h3,h4⟩:=fK.1 hx;simp only[Prod.mk.injEq,true_and,Option.some.injEq]at h3;subst h3;exact .inr ⟨hj,h4⟩
   ·rw[hx']at he;cases he
 have hNk:ba (λ_=>none) (cQ (aZ (8*κ) fs')++[(k,some (.cells T (aN (8*κ) fs')))]) k=some (.cells T (aN (8*κ) fs')):=by
  rw[cx];simp[ba,ak]
 have hb' : b∉v7 us fs' := (List.nodup_cons.1 hnd).1;have hnd' : (v7 us fs').Nodup:=(List.nodup_cons.1 hnd).2;refine⟨iI (8*κ) us E,bu (iC (8*κ) us fs' F) k [b],hE,?_⟩
 refine hs.oE hK (k::rs) (ba (λ_=>none) (cQ (aZ (8*κ) fs')++[(k,some (.cells T (aN (8*κ) fs')))])) (λj hj=>?_) (λj hj=>hE j λe=>hk j e hj) (λj e he=>?_) (λi j e e' hij hi hj c hc=>?_) (λj x hx hj=>?_) (λj=>?_) hkeep
 ·rcases List.mem_cons.1 hj with rfl|hj
  ·exact⟨_,hkk⟩
  ·exact (b7 hs hv).2 j hj
 ·rcases hNm j e he with ⟨rfl,rfl⟩|⟨hjk,hm⟩
  ·rw[ak,hE j λe=>hk j e hKk];refine⟨⟨b,hu,rfl,by rw[gl hus];exact hb⟩,λc hc=>?_,λc hc=>h2 c (by simp at hc;simp[hc])⟩;simp only[List.mem_singleton]at hc;subst hc;rcases h1 c sI with g|g
   ·obtain⟨i,hi,hci⟩:=List.mem_flatMap.1 g;exact .inl ⟨i,hi,hci⟩
   ·exact .inr g
  ·rw[aq _ _ hjk];obtain⟨g1,g2⟩:=iF (E:=E) (F:=F) hus hm (iI (8*κ) us E);refine⟨g1,λc hc=>?_,λc hc=>h2 c (List.mem_cons_of_mem _ (g2 c hc))⟩;rcases h1 c (List.mem_cons_of_mem _ (g2 c hc)) with g|g
   ·obtain⟨i,hi,hci⟩:=List.mem_flatMap.1 g;exact .inl ⟨i,hi,hci⟩
   ·exact .inr g
 ·rcases hNm i e hi with ⟨rfl,rfl⟩|⟨hik,hmi⟩
  ·rcases hNm j e' hj with ⟨rfl,rfl⟩|⟨hjk,hmj⟩
   ·exact absurd rfl hij
   ·rw[ak]at hc;rw[aq _ _ hjk];simp only[List.mem_singleton]at hc;subst hc;exact λhc' => hb' (bN hl hmj c hc')
  ·rw[aq _ _ hik]at hc;rcases hNm j e' hj with ⟨rfl,rfl⟩|⟨hjk,hmj⟩
   ·rw[ak];intro hc';simp only[List.mem_singleton]at hc';subst hc';exact hb' (bN hl hmi c hc)
   ·rw[aq _ _ hjk];exact gi hnd' hmi hmj hl hij c hc
 ·have hjk:j≠k:=λe=>by rw[e,hNk]at hj;cases hj
  rw[aq _ _ hjk];have hKj:=(hK j x hx).1;by_cases g1:j<8*κ
  ·exact jr (.inl g1)
  ·by_cases g2:8*κ+8<=j
   ·exact jr (.inr oM)
   ·exact absurd hKj (hfr j oM oM)
 ·rw[cx,jA _ _ _ hsome,lq];cases hN:ba (λ_=>none) (cQ (aZ (8*κ) fs')++[(k,some (.cells T (aN (8*κ) fs')))]) j with
  |some e=>rfl
  |none=>
   have hjk:j≠k:=λe=>by rw[e,hNk]at hN;cases hN
   simp[hjk]
theorem yy{fs:List AV}(hlen:fs.length<=8){j:Nat}{e:aT}(hm:(j,e)∈aZ (8*κ) fs):j / 8=κ/\e.keys=[]:=by
 have:=ew _ hm;exact⟨by simp only at this;omega,this.2.2⟩
theorem tM(hK:bU K h){l:List SV}{as_:List AV}{r:List Nat}(hv:aC h l=some (as_,r)):∀ k∈r,K k:=λk hk=>by
 obtain⟨T,s,n,vs,h1⟩:=lM hv k hk;exact (hK k _ h1).1
end
def ed.spec{P:Program}{f:FuncId}(p:ed P f):Spec P f where
 ev:=λW bs κ h args=>qJ h κ p.T (p.pre W bs) (p.out W) args
 good:=λW bs κ E F h w K args hs hK hk hx hside=>by
  rw[p.enters];revert hside;unfold qJ;split
  ·rename_i k rest;cases hkk:h k with
   |none=>exact λhf=>hf.elim
   | some e=>
    cases e with
    |row T s n vs=>exact λhf=>hf.elim
    |obj d R=>exact λhf=>hf.elim
    | cells T' vs=>
     cases hr:aC h rest with
     |none=>exact λhf=>hf.elim
     | some q=>
      obtain⟨as_,rs'⟩:=q;simp only[gx];cases hv:aC h vs with
      |none=>exact λhf=>hf.elim
      | some q=>
       obtain⟨fs,rs⟩:=q;simp only[iU];have hent:=hs.ent k _ hkk;obtain⟨b,hu,_,_⟩:=hent;have hden:den E (.own k 0)=E k:=by simp[den,hu,base,di]
       have call:∀ hn:(k::rs).Nodup,T' = p.T->p.pre W bs fs as_->Calls P f (au E (.own k 0::rest)).toArray w λe w' => gN w (E k) ((k::rs).flatMap F) p.T e w' (p.out W fs as_):=λhn hT hp=>by
        subst hT;have ho:=gh hs hkk hv hn;have:=p.ok W w bs (E k) _ (au E rest) fs as_ hs.keeps ho (λc hc=>?_) (λc hc=>?_) (eR hs hr) hp
        ·simpa only[au,hden] using this
        ·obtain⟨j,hj,hcj⟩:=List.mem_flatMap.1 hc;rcases List.mem_cons.1 hj with rfl|hj
         ·exact hs.lt _ _ hkk c hcj
         ·obtain⟨e,he⟩:=(b7 hs hv).2 j hj;exact hs.lt j e he c hcj
        ·obtain⟨j,hj,hcj⟩:=List.mem_flatMap.1 hc;rcases List.mem_cons.1 hj with rfl|hj
         ·exact hs.mine _ _ hkk c hcj
         ·obtain⟨e,he⟩:=(b7 hs hv).2 j hj;exact hs.mine j e he c hcj
       cases hout:p.out W fs as_ with
       |ret v fs' =>
        simp only[im];rintro⟨⟨hT,hp⟩,hn,hd,hlen⟩;have hc:=call hn hT hp;rw[hout]at hc;subst hT;refine hc.mono λe w' he=>?_
        obtain⟨rfl,⟨fp',ho,h1,h2⟩,hkeep⟩:=he;obtain⟨E',F',hE',hs'⟩:=pJ hs hK hk hkk hv hlen hn ho h1 h2 hkeep;exact⟨rfl,E',F',hE',rfl,hs'⟩
       | pan c _=>
        simp only[im];rintro⟨⟨hT,hp⟩,hn,hd⟩;have hc:=call hn hT hp;rw[hout]at hc;refine hc.mono λe w' he=>?_
        obtain⟨rfl,hkeep⟩:=he;refine⟨rfl,F,?_⟩;refine hs.oE hK (k::rs) (λ_=>none) (λj hj=>?_) (λ_ _=>rfl) (λj e he=>by cases he) (λi j e e' _ he=>by cases he) (λ_ _ _ _=>rfl) (λj=>?_) hkeep
        ·rcases List.mem_cons.1 hj with rfl|hj
         ·exact⟨_,hkk⟩
         ·exact (b7 hs hv).2 j hj
        ·simp only[dropKeys]
  ·exact λhf=>hf.elim
 keys:=λW bs κ h K args hK hx hside=>by
  revert hside;unfold qJ;split
  ·rename_i k rest;cases hkk:h k with
   |none=>exact λhf=>hf.elim
   | some e=>
    cases e with
    |row T s n vs=>exact λhf=>hf.elim
    |obj d R=>exact λhf=>hf.elim
    | cells T' vs=>
     cases hr:aC h rest with
     |none=>exact λhf=>hf.elim
     | some q=>
      obtain⟨as_,rs'⟩:=q;simp only[gx];cases hv:aC h vs with
      |none=>exact λhf=>hf.elim
      | some q=>
       obtain⟨fs,rs⟩:=q;simp only[iU];cases hout:p.out W fs as_ with
       | ret v fs' =>
        simp only[im];rintro⟨_,hn,hd,hlen⟩;refine⟨λj hj=>(by cases hj),λq hq=>?_⟩;simp only[List.mem_append,List.mem_singleton]at hq;rcases hq with hq|hq|rfl
        ·simp only[eC,List.mem_map]at hq;obtain⟨j,hj,rfl⟩:=hq;exact⟨.inl (tM hK hv j hj),λe he=>by cases he⟩
        ·obtain⟨e,h1,h2⟩:=fK.1 hq;obtain⟨h3,h4⟩:=yy hlen h2;refine⟨.inr h3,λe' he' j hj=>?_⟩;rw[h1]at he';simp only[Option.some.injEq]at he';subst he';rw[h4]at hj;cases hj
        ·refine⟨.inl (hK k _ hkk).1,λe' he' j hj=>.inr ?_⟩;simp only[Option.some.injEq]at he';subst he';have:=cR j hj;omega
       |pan c _=>
        simp only[im];rintro _;exact⟨λj hj=>(by cases hj),λq hq=>by cases hq⟩
  ·exact λhf=>hf.elim
 loc:=λW bs κ h h' args hside hr=>by
  revert hside hr;unfold qJ;split
  ·rename_i k rest;cases hkk:h k with
   |none=>exact λhf=>hf.elim
   | some e=>
    cases e with
    |row T s n vs=>exact λhf=>hf.elim
    |obj d R=>exact λhf=>hf.elim
    | cells T' vs=>
     cases hrr:aC h rest with
     |none=>exact λhf=>hf.elim
     | some q=>
      obtain⟨as_,rs'⟩:=q;simp only[gx];cases hv:aC h vs with
      |none=>exact λhf=>hf.elim
      | some q=>
       obtain⟨fs,rs⟩:=q;simp only[iU];have key:∀ r:R,(∀ j∈r.reads,h' j=h j)->r.reads=k::(rs++rs')->h' k=some (.cells T' vs)/\aC h' rest=some (as_,rs')/\aC h' vs=some (fs,rs):=λr hr he=>by
        rw[he]at hr;exact⟨by rw[hr k sI,hkk],du hrr λj hj=>hr j (by simp[hj]),du hv λj hj=>hr j (by simp[hj])⟩
       intro _ hr;obtain⟨g1,g2,g3⟩:=key _ hr (by cases p.out W fs as_<;>rfl);rw[g1,g2];simp only[gx,g3,iU]
  ·exact λhf=>hf.elim
theorem MB{P:Program}{f:FuncId}(p:ed P f)(W:World)(bs:List Nat)(κ:Nat)(h:Hp)(l:List SV):p.spec.ev W bs κ h l=qJ h κ p.T (p.pre W bs) (p.out W) l:=rfl
theorem HE(h:Hp)(κ k:Nat)(T:TypeId)(pre:List AV->List AV->Prop)(out:List AV->List AV->BOut)(rest:List SV):qJ h κ T pre out (.own k 0::rest)=gx h κ k T pre out (h k) (aC h rest):=rfl
theorem BU(h:Hp)(κ k:Nat)(T T' : TypeId)(pre:List AV->List AV->Prop)(out:List AV->List AV->BOut)(vs:List SV)(as_:List AV)(rs' : List Nat):gx h κ k T pre out (some (.cells T' vs)) (some (as_,rs'))=iU κ k T T' pre out as_ rs' (aC h vs):=rfl
theorem Gm(κ k:Nat)(T T' : TypeId)(pre:List AV->List AV->Prop)(out:List AV->List AV->BOut)(as_:List AV)(rs' : List Nat)(fs:List AV)(rs:List Nat):iU κ k T T' pre out as_ rs' (some (fs,rs))=im κ k T (T' = T/\pre fs as_) rs rs' (out fs as_):=rfl
theorem Ip(κ k:Nat)(T:TypeId)(pre:Prop)(rs rs' : List Nat)(v:Value)(fs:List AV):im κ k T pre rs rs' (.ret v fs)=⟨pre/\(k::rs).Nodup/\(∀ j∈rs',j∉k::rs)/\fs.length<=8,.v v,eC rs++(cQ (aZ (8*κ) fs)++[(k,some (.cells T (aN (8*κ) fs)))]),none,[],k::(rs++rs')⟩:=rfl
theorem JR(κ k:Nat)(T:TypeId)(pre:Prop)(rs rs' : List Nat)(c:List PanicEntry)(v:Value):im κ k T pre rs rs' (.pan c v)=⟨pre/\(k::rs).Nodup/\(∀ j∈rs',j∉k::rs),.v v,[],some c,k::rs,k::(rs++rs')⟩:=rfl
theorem QS(k:IntKind)(n:Int):tq .xor [.v (.int k n)]=⟨True,.v (.int k (cw .xor k (if k.signed then -1 else k.max) n)),[],none,[],[]⟩:=rfl
theorem gF:eC []=[]:=rfl
theorem fY(k:Nat)(r:List Nat):eC (k::r)=(k,none)::eC r:=rfl
theorem UJ(k:Nat):aZ k []=[]:=rfl
theorem RS(k:Nat)(v:Value)(r:List AV):aZ k (.val v::r)=aZ (k+1) r:=rfl
theorem Rc(k:Nat)(T s n:Nat)(vs:List Value)(r:List AV):aZ k (.row T s n vs::r)=(k,.row T s n (vs.map .v))::aZ (k+1) r:=rfl
theorem Nh(k:Nat):aN k []=[]:=rfl
theorem Mu(k:Nat)(v:Value)(r:List AV):aN k (.val v::r)=.v v::aN (k+1) r:=rfl
theorem ME(k:Nat)(T s n:Nat)(vs:List Value)(r:List AV):aN k (.row T s n vs::r)=.hd k::aN (k+1) r:=rfl
theorem Sj:cQ []=[]:=rfl
theorem Np(k:Nat)(e:aT)(r:List (Nat×aT)):cQ ((k,e)::r)=(k,some e)::cQ r:=rfl
def σB(T:TypeId)(fs:List AV)(args:List Value):St:=⟨1,bm ((0,.is (.own 0 0))::r8 args 1),aY ((0,.cells T (aN 1 fs))::aZ 1 fs)⟩
theorem zB{k:Nat}{fs:List AV}{j:Nat}{e:aT}(h:aY (aZ k fs) j=some e):(j,e)∈aZ k fs:=cz h
theorem zS{w:World}{nt m:Nat}{T:TypeId}{fs:List AV}{u:Value}{fp:List Nat}(us:Array Value)(hlen:fs.length<=7)(ho:bC w u fp T fs)(hlt:∀ b∈fp,b<w.heap.size)(hnt:us.size+1+m=nt) :
  Sat w fp nt ⟨[],[(0,u)]⟩ (σB T fs us.toList) { tmps:=(#[u]++us)++Array.replicate m undef,defers:=[] } w:=by
 obtain⟨b,vs,rfl,hb,hvs,rfl,hnd⟩:=ho;have hl:=iy hvs;have hb' : b∉v7 vs fs:=(List.nodup_cons.1 hnd).1;have hnd' : (v7 vs fs).Nodup:=(List.nodup_cons.1 hnd).2;have at' : ∀ j e,aY ((0,.cells T (aN 1 fs))::aZ 1 fs) j=some e->(j=0/\e=.cells T (aN 1 fs))\/(j≠0/\(j,e)∈aZ 1 fs):=λj e he=>by
  simp only[aY]at he;by_cases hj:j=0
  ·subst hj;rw[ak]at he;cases he;exact .inl ⟨rfl,rfl⟩
  ·rw[aq _ _ hj]at he;exact .inr ⟨hj,zB he⟩
 have e0:iI 1 vs (λ_=>.pointer (some ⟨b,0,none⟩)) 0=.pointer (some ⟨b,0,none⟩):=jY (.inl oM)
 refine⟨⟨iI 1 vs (λ_=>.pointer (some ⟨b,0,none⟩)),bu (iC 1 vs fs (λ_=>[])) 0 [b],λt=>?_,⟨λj e he=>?_,λj e he c hc=>?_,λj e he c hc=>?_,λi j e e' hij hi hj c hc=>?_,ah.refl w _⟩,λp hp=>?_⟩,?_,rfl,λp hp=>?_,λt k hk=>?_,λj e he=>?_⟩
 ·show fits _ (bm ((0,.is (.own 0 0))::r8 us.toList 1) t) _;simp only[bm,bu];split
  ·rename_i ht;subst ht;simp only[fits,den,e0,base,di];rw[Array.getD_eq_getD_getElem?,Array.getElem?_append_left (by simp;omega),Array.getElem?_append_left sI];rfl
  ·refine nE _ us.toList 1 t (λt=>((#[Value.pointer (some ⟨b,0,none⟩)]++us)++Array.replicate m undef).getD t undef) λj hj=>?_
   have hj' : j<us.size:=by simpa using hj
   rw[Array.getD_eq_getD_getElem?,Array.getElem?_append_left (by simp;omega),Array.getElem?_append_right sI];simp[Array.getElem?_eq_getElem hj']
 ·rcases at' j e he with ⟨rfl,rfl⟩|⟨hj,hm⟩
  ·exact⟨b,e0,by rw[ak],by rw[gl hvs];exact hb⟩
  ·rw[aq _ _ hj];exact (iF hvs hm _).1
 ·rcases at' j e he with ⟨rfl,rfl⟩|⟨hj,hm⟩
  ·rw[ak]at hc;exact hlt c (by simp at hc;simp[hc])
  ·rw[aq _ _ hj]at hc;exact hlt c (List.mem_cons_of_mem _ (bN hl hm c hc))
 ·right;rcases at' j e he with ⟨rfl,rfl⟩|⟨hj,hm⟩
  ·rw[ak]at hc;simp at hc;simp[hc]
  ·rw[aq _ _ hj]at hc;exact List.mem_cons_of_mem _ (bN hl hm c hc)
 ·rcases at' i e hi with ⟨rfl,rfl⟩|⟨hi0,hmi⟩
  ·rcases at' j e' hj with ⟨rfl,rfl⟩|⟨hj0,hmj⟩
   ·exact absurd rfl hij
   ·rw[ak]at hc;rw[aq _ _ hj0];simp only[List.mem_singleton]at hc;subst hc;exact λhc' => hb' (bN hl hmj c hc')
  ·rw[aq _ _ hi0]at hc;rcases at' j e' hj with ⟨rfl,rfl⟩|⟨hj0,hmj⟩
   ·rw[ak];intro hc';simp only[List.mem_singleton]at hc';subst hc';exact hb' (bN hl hmi c hc)
   ·rw[aq _ _ hj0];exact gi hnd' hmi hmj hl hij c hc
 ·simp only[List.mem_singleton]at hp;subst hp;exact e0
 ·simp;omega
 ·simp only[List.mem_singleton]at hp;subst hp;show 0 / 8<1;omega
 ·simp only[σB,bm,bu]at hk;split at hk
  ·simp[FV.keys,SV.keys]at hk;subst hk;show 0 / 8<1;omega
  ·rw[mZ]at hk;cases hk
 ·rcases at' j e he with ⟨rfl,rfl⟩|⟨hj,hm⟩
  ·refine⟨by show 0 / 8<1;omega,λi hi=>?_⟩;have:=cR i hi;show i / 8<1;omega
  ·have:=ew _ hm;refine⟨by show j / 8<1;simp only at this;omega,λi hi=>?_⟩;rw[this.2.2]at hi;cases hi
theorem bh{P:Program}{f:FuncId}{fn:Func}{c:Code}{w:World}{nt:Nat}{T:TypeId}{u:Value}{fp:List Nat}{fs:List AV}{out:BOut}(us:Array Value)(rs:List ResultVar)
  (hlen:fs.length<=7) (ho:bC w u fp T fs) (hlt:∀ b∈fp,b<w.heap.size)
  (hf:P.funcs[f]?=some fn) (hb:fn.body=some c) (hrs:fn.results.toList=rs) (hnt:us.size+1+(fn.ntmps-(us.size+1))=nt)
  (h:Wp P w fp nt ⟨[],[(0,u)]⟩ c (Fin P rs (λ_ _ x h=>∃ v fs',out=.ret v fs' /\ (∀ E,den E x=v)/\∃ vs ks,h 0=some (.cells T vs)/\aC h vs=some (fs',ks)/\(0::ks).Nodup) (λc _=>∃ v,out=.pan c v)) (σB T fs us.toList)) :
  Calls P f (#[u]++us) w λe w' => gN w u fp T e w' out:=by
 subst hrs;have hsat:=zS (nt:=nt) (m:=fn.ntmps-(us.size+1)) us hlen ho hlt hnt;have hsz:(#[u]++us).size=us.size+1:=by simp;omega
 refine (ki hf hb (by rw[hsz];exact hsat) h).mono λe w' he=>?_
 cases e with
 | returned v' =>
  obtain⟨W',bs',E,F,x,h',hx,⟨v,fs',rfl,hd,vs,ks,h0,hv,hn⟩,rfl,hs,hp⟩:=he;have hs' := hs.back hx;have hE:E 0=u:=hp (0,u) sI;have ho' := gh hs' h0 hv hn;rw[hE]at ho';refine⟨by rw[hd E],⟨_,ho',λb hb=>?_,λb hb=>?_⟩,hs'.keeps⟩
  ·obtain⟨j,hj,hbj⟩:=List.mem_flatMap.1 hb;have:∃ e,h' j=some e:=by
    rcases List.mem_cons.1 hj with rfl|hj
    ·exact⟨_,h0⟩
    ·exact (b7 hs' hv).2 j hj
   obtain⟨e,he⟩:=this;exact (hs'.mine j e he b hbj).symm
  ·obtain⟨j,hj,hbj⟩:=List.mem_flatMap.1 hb;have:∃ e,h' j=some e:=by
    rcases List.mem_cons.1 hj with rfl|hj
    ·exact⟨_,h0⟩
    ·exact (b7 hs' hv).2 j hj
   obtain⟨e,he⟩:=this;exact hs'.lt j e he b hbj
 |panicked c=>
  obtain⟨W',bs',E,F,h',hx,⟨_,rfl⟩,hs,hp⟩:=he;exact⟨rfl,(hs.back hx).keeps⟩
 |outgrown=>exact he.elim
end
section
def ev7:=(aa @QS (aa @MB (aa @HE (aa @BU (aa @Gm (aa @Ip (aa @JR (aa @gF (aa @fY (aa @UJ (aa @RS (aa @Rc (aa @Nh (aa @Mu (aa @ME (aa @Sj @Np))))))))))))))))
end
section
open Go.RowKit
theorem akP:IntKind.i64.bits=64/\IntKind.u64.bits=64/\IntKind.u8.bits=8/\IntKind.i32.bits=32/\IntKind.u32.bits=32/\IntKind.u16.bits=16:=⟨rfl,rfl,rfl,rfl,rfl,rfl⟩
structure Qx (P:Program)(f:FuncId) where
 pre:World->List Nat->List AV->Prop
 res:World->List AV->Value
 ok:∀ (W w:World) (bs:List Nat) (us:List Value) (as_:List AV),ah W bs w->fX w us as_->pre W bs as_->(callFunc f us.toArray).run P w=.ok (.value (res W as_)) w
def Qx.spec{P:Program}{f:FuncId}(p:Qx P f):Spec P f where
 ev:=λW bs _ h args=>HR p.pre p.res W bs (aC h args)
 good:=λW bs κ E F h w K args hs hK hk hx hside=>by
  cases hv:aC h args with
  |none=>rw[hv]at hside;exact hside.elim
  |some q=>
   obtain⟨as_,rs⟩:=q;rw[hv]at hside;rw[p.ok W w bs _ as_ hs.keeps (eR hs hv) hside];exact Good.pure hs rfl rfl rfl
 keys:=λW bs κ h K args hK hx hside=>by
  cases hv:aC h args with
  |none=>rw[hv]at hside;exact hside.elim
  |some q=>exact aL.plain (λk hk=>by cases hk) rfl
 loc:=λW bs κ h h' args hside hr=>by
  cases hv:aC h args with
  |none=>rw[hv]at hside;exact hside.elim
  |some q=>
   obtain⟨as_,rs⟩:=q;rw[hv]at hr;rw[du hv hr]
theorem ax{P:Program}{f:FuncId}(p:Qx P f)(W:World)(bs:List Nat)(κ:Nat)(h:Hp)(l:List SV):p.spec.ev W bs κ h l=HR p.pre p.res W bs (aC h l):=rfl
theorem amS:min 6 8=6/\min 6 64=6/\min 4 8=4/\min 1 64=1/\min 2 64=2/\min 4 64=4/\min 8 64=8/\min 16 64=16/\min 32 64=32:=by decide
section
variable {P:Program}{W:World}{bs:List Nat}{κ:Nat}{h:Hp}{Γ:Env P}
theorem Fe(fn:Fn)(first cap:Array Operand)(l:List SV):eO Γ W bs κ h (.makeFunc fn first cap) l=⟨True,.fn fn (l.take first.size) (l.drop first.size),[],none,[],[]⟩:=rfl
theorem yG(x:Operand)(xT T:TypeId)(ok:Bool)(l:List SV):eO Γ W bs κ h (.typeAssert x xT T ok) l=fG P T ok l:=rfl
theorem aey(as_:Array Operand)(tys:Array TypeId)(l:List SV):eO Γ W bs κ h (.call { callee:=.builtin .min,args:=as_,argTypes:=tys }) l=rK l:=rfl
theorem ach(as_:Array Operand)(tys:Array TypeId)(l:List SV):eO Γ W bs κ h (.call { callee:=.builtin .max,args:=as_,argTypes:=tys }) l=qo l:=rfl
theorem Nv(f:FuncId)(first cap rest:List SV):kQ Γ W bs κ h (.fn (.func f) first cap::rest)=n7 Γ W bs κ h f (first++rest++cap):=rfl
theorem WL(f:Fn)(a c:List SV):dm (.fn f a c)=true:=rfl
theorem Lm(f:Fn)(a c:List SV):partsOf (.fn f a c)=[.fn f a c]:=rfl
theorem K8(f:Fn)(a c:Array Value):dm (.v (.func f a c))=true:=rfl
theorem Er(f:Fn)(a c:Array Value):partsOf (.v (.func f a c))=[.v (.func f a c)]:=rfl
theorem Cf:dm (.v .nilFunc)=true:=rfl
theorem xS:partsOf (.v .nilFunc)=[.v .nilFunc]:=rfl
def ncK(k o:Nat):Option (List SV)->R
 |some vs=>⟨o<vs.length,.own k o,[],none,[],[k]⟩
 |none=>.bad
theorem uS(k o:Nat):dI h [.own k o]=ncK k o (cy (h k)):=by
 simp only[dI];unfold ncK;rcases cy (h k) with _|vs<;>rfl
theorem VI(k o:Nat)(vs:List SV):ncK k o (some vs)=⟨o<vs.length,.own k o,[],none,[],[k]⟩:=rfl
def aeC(k o n:Nat)(i:Int)(vs:List SV):Option Nat->R
 |some sz=>⟨0<=i/\i<n/\1<n/\o<vs.length,.own k (o+i.toNat*sz),[],none,[],[k]⟩
 |none=>.bad
def ixO(P:Program)(k o:Nat)(i:Int):Option TypeDesc->Option (List SV)->R
 |some (.array n e),some vs=>aeC k o n i vs (ts P e)
 |_,_=>.bad
theorem uB(T:TypeId)(k o:Nat)(ik:IntKind)(i:Int):bA P h T [.own k o,.v (.int ik i)]=ixO P k o i (P.underlying T) (cy (h k)):=by
 simp only[bA];unfold ixO;rcases P.underlying T with _|d
 ·rfl
 ·rcases cy (h k) with _|vs
  ·cases d<;>rfl
  ·cases d<;>first|rfl|(rename_i n e;simp only[aeC];rcases ts P e with _|sz<;>rfl)
theorem agt(k o:Nat)(i:Int)(n:Nat)(e:TypeId)(vs:List SV):ixO P k o i (some (.array n e)) (some vs)=aeC k o n i vs (ts P e):=rfl
theorem Sc(k o n:Nat)(i:Int)(vs:List SV)(sz:Nat):aeC k o n i vs (some sz)=⟨0<=i/\i<n/\1<n/\o<vs.length,.own k (o+i.toNat*sz),[],none,[],[k]⟩:=rfl
def inB(n:Nat)(i:Int)(l:List SV):Option Nat->Option Bool->R
 |some sz,some true=>⟨0<=i/\i<n/\i.toNat*sz+sz<=l.length,.agg ((l.drop (i.toNat*sz)).take sz),[],none,[],[]⟩
 |some sz,some false=>⟨0<=i/\i<n/\i.toNat*sz<l.length,l.getD (i.toNat*sz) (.v undef),[],none,[],[]⟩
 |_,_=>.bad
def inA(P:Program)(i:Int)(l:List SV):Option TypeDesc->R
 |some (.array n e)=>inB n i l (ts P e) (ta P e)
 |_=>.bad
theorem E4(T:TypeId)(l:List SV)(ik:IntKind)(i:Int):gm P T [.agg l,.v (.int ik i)]=inA P i l (P.underlying T):=by
 simp only[gm];unfold inA;rcases P.underlying T with _|d
 ·rfl
 ·cases d<;>first|rfl|(rename_i n e;simp only[inB];rcases ts P e with _|sz<;>rcases ta P e with _|b<;>first|rfl|(cases b<;>simp[fM,R.iu]))
theorem B6(T:TypeId)(cs:Array Value)(ik:IntKind)(i:Int):gm P T [.v (.agg cs),.v (.int ik i)]=inA P i (cs.toList.map .v) (P.underlying T):=by
 simp only[gm];unfold inA;rcases P.underlying T with _|d
 ·rfl
 ·cases d<;>first|rfl|(rename_i n e;simp only[inB];rcases ts P e with _|sz<;>rcases ta P e with _|b<;>first|rfl|(cases b<;>simp[fM,R.iu]))
theorem aeQ(i:Int)(l:List SV)(n:Nat)(e:TypeId):inA P i l (some (.array n e))=inB n i l (ts P e) (ta P e):=rfl
theorem adt(n:Nat)(i:Int)(l:List SV)(sz:Nat):inB n i l (some sz) (some true)=⟨0<=i/\i<n/\i.toNat*sz+sz<=l.length,.agg ((l.drop (i.toNat*sz)).take sz),[],none,[],[]⟩:=rfl
theorem aeI(n:Nat)(i:Int)(l:List SV)(sz:Nat):inB n i l (some sz) (some false)=⟨0<=i/\i<n/\i.toNat*sz<l.length,l.getD (i.toNat*sz) (.v undef),[],none,[],[]⟩:=rfl
def cvI(n:Int):Option TypeDesc->Option TypeDesc->R
 |some _,some (.int k)=>⟨True,.v (.int k (k.wrap n)),[],none,[],[]⟩
 |_,_=>.bad
theorem zh(src dst:TypeId)(k:IntKind)(n:Int):ff P src dst [.v (.int k n)]=cvI n (P.underlying src) (P.underlying dst):=by
 simp only[ff];unfold cvI;rcases P.underlying src with _|d<;>rcases P.underlying dst with _|d' <;> first|rfl|(cases d' <;> rfl)
theorem adx(n:Int)(d:TypeDesc)(k:IntKind):cvI n (some d) (some (.int k))=⟨True,.v (.int k (k.wrap n)),[],none,[],[]⟩:=rfl
theorem Lw(t:TypeId)(x:Value):lQ [.v (.iface t x)]=⟨True,.v undef,[],some [{ v:=.iface t x,recovered:=false }],[],[]⟩:=rfl
def miK(P:Program)(T:TypeId)(l:List SV):Option (List Value)->R
 |some vs=>⟨P.concrete T=true,.v (.iface T (.agg vs.toArray)),[],none,[],[]⟩
 |none=>⟨P.concrete T=true,.ifc T (.agg l),[],none,[],[]⟩
theorem MP(T:TypeId)(l:List SV):ov P T [.agg l]=miK P T l (dv l):=by
 simp only[ov,lX];unfold miK;rcases dv l with _|vs<;>rfl
theorem WJ(T:TypeId)(l:List SV)(vs:List Value):miK P T l (some vs)=⟨P.concrete T=true,.v (.iface T (.agg vs.toArray)),[],none,[],[]⟩:=rfl
def aK(T t:TypeId)(x:SV)(ok:Bool):Option Bool->Option Value->R
 |some false,some z=>match ok with
  |true=>⟨True,if t=T then .tup [x,.v (.bool true)] else .tup [.v z,.v (.bool false)],[],none,[],[]⟩
  |false=>⟨t=T,x,[],none,[],[]⟩
 |_,_=>.bad
theorem Jm(T t:TypeId)(x:Value)(ok:Bool):fG P T ok [.v (.iface t x)]=aK T t (.v x) ok (isIface P T) (Fo P T):=by
 simp only[fG];unfold aK;rcases isIface P T with _|b
 ·rfl
 ·cases b<;>rcases Fo P T with _|z<;>first|rfl|(cases ok<;>rfl)
theorem Yv(T t:TypeId)(x:SV)(z:Value):aK T t x false (some false) (some z)=⟨t=T,x,[],none,[],[]⟩:=rfl
theorem afE(T t:TypeId)(x:SV)(z:Value):aK T t x true (some false) (some z)=⟨True,if t=T then .tup [x,.v (.bool true)] else .tup [.v z,.v (.bool false)],[],none,[],[]⟩:=rfl
def nK(ok:Bool):Option Bool->Option Value->R
 |some false,some z=>match ok with
  |true=>⟨True,.tup [.v z,.v (.bool false)],[],none,[],[]⟩
  |false=>.bad
 |_,_=>.bad
theorem BV(T:TypeId)(ok:Bool):fG P T ok [.v .nilIface]=nK ok (isIface P T) (Fo P T):=by
 simp only[fG];unfold nK;rcases isIface P T with _|b
 ·rfl
 ·cases b<;>rcases Fo P T with _|z<;>first|rfl|(cases ok<;>rfl)
theorem ab9(z:Value):nK true (some false) (some z)=⟨True,.tup [.v z,.v (.bool false)],[],none,[],[]⟩:=rfl
def KD:Option TypeDesc->Bool
 |some (.array _ _)=>true
 |_=>false
theorem L0(n:Nat)(e:TypeId):KD (some (.array n e))=true:=rfl
def EA(idx:List Nat)(args:List SV)(zs:List Value):Option Nat->R
 |some sz=>KV (ui sz (zs.map .v) (idx.zip args))
 |none=>.bad
def Ll(P:Program)(idx:List Nat)(args:List SV):Option (List Value)->Option TypeDesc->R
 |some zs,some (.array _ e)=>EA idx args zs (ts P e)
 |_,_=>.bad
theorem Gt(T:TypeId)(idx:List Nat)(args:List SV)(ha:KD (P.underlying T)=true):dN P T idx args=Ll P idx args (tz P T) (P.underlying T):=by
 unfold KD at ha;split at ha
 ·rename_i n e hu;unfold dN Ll;rw[hu];cases tz P T with
  |none=>rfl
  |some zs=>
   simp only[EA,ui,KV];cases sr P T<;>cases ts P e with
   |none=>rfl
   |some sz=>cases dG (λi=>some (i*sz,sz)) (zs.map .v) (idx.zip args)<;>rfl
 ·cases ha
theorem Kr(idx:List Nat)(args:List SV)(zs:List Value)(n:Nat)(e:TypeId):Ll P idx args (some zs) (some (.array n e))=EA idx args zs (ts P e):=rfl
theorem Ia(idx:List Nat)(args:List SV)(zs:List Value)(sz:Nat):EA idx args zs (some sz)=KV (ui sz (zs.map .v) (idx.zip args)):=rfl
theorem Mx(a b:Int):rK [.v (.int .i64 a),.v (.int .i64 b)]=⟨True,.v (.int .i64 (if b<a then b else a)),[],none,[],[]⟩:=rfl
theorem L8(a b:Int):qo [.v (.int .i64 a),.v (.int .i64 b)]=⟨True,.v (.int .i64 (if a<b then b else a)),[],none,[],[]⟩:=rfl
theorem Eb(a b c:Int):qo [.v (.int .i64 a),.v (.int .i64 b),.v (.int .i64 c)]=⟨True,.v (.int .i64 (if (if a<b then b else a)<c then c else (if a<b then b else a))),[],none,[],[]⟩:=rfl
end
open Classical in
noncomputable def dec{α:Type}(f:α->Value)(v:Value):Option α:=if h:∃ a,v=f a then some h.choose else none
theorem gX{α:Type}{f:α->Value}{v:Value}{a:α}(h:dec f v=some a):v=f a:=by
 unfold dec at h;split at h
 ·rename_i h1;simp only[Option.some.injEq]at h;rw[<- h];exact h1.choose_spec
 ·cases h
theorem cN{α:Type}{f:α->Value}(hf:∀ a b,f a=f b->a=b)(a:α):dec f (f a)=some a:=by
 unfold dec;have h1:∃ b,f a=f b:=⟨a,rfl⟩;rw[dif_pos h1];exact congrArg some (hf _ _ h1.choose_spec).symm
section
variable {P:Program}(eqs:(T:TypeId)->Option (EqSpec P T))(h:Hp)(op:BinOp)(T:TypeId)(X Y:Operand)
theorem Q9(p:Prop)(b:Bool)(rd:List Nat):dT .eql p b rd=⟨p,.v (.bool b),[],none,[],rd⟩:=rfl
theorem S1(p:Prop)(b:Bool)(rd:List Nat):dT .neq p b rd=⟨p,.v (.bool (!b)),[],none,[],rd⟩:=rfl
theorem HH(k k' : IntKind)(a b:Int):bE P eqs h op T X Y [.v (.int k a),.v (.int k' b)]=aV P eqs op T [.v (.int k a),.v (.int k' b)]:=rfl
theorem IC(a b:ByteArray):bE P eqs h op T X Y [.v (.string a),.v (.string b)]=aV P eqs op T [.v (.string a),.v (.string b)]:=rfl
theorem F8(a b:Bool):bE P eqs h op T X Y [.v (.bool a),.v (.bool b)]=aV P eqs op T [.v (.bool a),.v (.bool b)]:=rfl
theorem KN(a b:List SV):bE P eqs h op T X Y [.agg a,.agg b]=aV P eqs op T [.agg a,.agg b]:=rfl
theorem NP(a:List SV)(b:Array Value):bE P eqs h op T X Y [.agg a,.v (.agg b)]=aV P eqs op T [.agg a,.v (.agg b)]:=rfl
theorem N9(a:Array Value)(b:List SV):bE P eqs h op T X Y [.v (.agg a),.agg b]=aV P eqs op T [.v (.agg a),.agg b]:=rfl
theorem KE(a b:Array Value):bE P eqs h op T X Y [.v (.agg a),.v (.agg b)]=aV P eqs op T [.v (.agg a),.v (.agg b)]:=rfl
theorem NV:bE P eqs h op T X Y [.v .nilIface,.v .nilIface]=dT op (isIface P T=some true/\(j5 X||j5 Y)=true) true []:=rfl
theorem M8(t:TypeId)(x:Value):bE P eqs h op T X Y [.v .nilIface,.v (.iface t x)]=dT op (isIface P T=some true) false []:=rfl
theorem Kw(t:TypeId)(x:Value):bE P eqs h op T X Y [.v (.iface t x),.v .nilIface]=dT op (isIface P T=some true) false []:=rfl
theorem Mt(t:TypeId)(x:SV):bE P eqs h op T X Y [.v .nilIface,.ifc t x]=dT op (isIface P T=some true) false []:=rfl
theorem Lj(t:TypeId)(x:SV):bE P eqs h op T X Y [.ifc t x,.v .nilIface]=dT op (isIface P T=some true) false []:=rfl
theorem Nc:bE P eqs h op T X Y [.v (.pointer none),.v (.pointer none)]=dT op (jm P T=some true) true []:=rfl
theorem NJ(a:Addr):bE P eqs h op T X Y [.v (.pointer none),.v (.pointer (some a))]=dT op (jm P T=some true) false []:=rfl
theorem Mj(a:Addr):bE P eqs h op T X Y [.v (.pointer (some a)),.v (.pointer none)]=dT op (jm P T=some true) false []:=rfl
def Kb(P:Program)(op:BinOp)(T:TypeId)(k o:Nat):Option (List SV)->R
 |some vs=>dT op (jm P T=some true/\o<vs.length) false [k]
 |none=>.bad
theorem LH(k o:Nat)(vs:List SV):Kb P op T k o (some vs)=dT op (jm P T=some true/\o<vs.length) false [k]:=rfl
theorem NL(k o:Nat):bE P eqs h op T X Y [.own k o,.v (.pointer none)]=Kb P op T k o (cy (h k)):=by
 simp only[bE];unfold Kb;cases cy (h k)<;>rfl
theorem L2(k o:Nat):bE P eqs h op T X Y [.v (.pointer none),.own k o]=Kb P op T k o (cy (h k)):=by
 simp only[bE];unfold Kb;cases cy (h k)<;>rfl
theorem ze(v:Value):j5 (.const v)=true:=rfl
theorem Eu(t:Nat):j5 (.tmp t)=false:=rfl
end
section
variable {P:Program}(h:Hp)(src dst:TypeId)
theorem Gq(k:IntKind)(n:Int):ic P h src dst [.v (.int k n)]=ff P src dst [.v (.int k n)]:=rfl
theorem EH(s:ByteArray):ic P h src dst [.v (.string s)]=ff P src dst [.v (.string s)]:=rfl
theorem Is(k:Nat):ic P h src dst [.hd k]=cvH P src dst k (h k):=rfl
theorem ad1(k T n:Nat)(vs:List SV):cvH P src dst k (some (.row T 1 n vs))=cvB P k n (P.underlying src) (P.underlying dst) (lB vs):=rfl
theorem ZH(k n e:Nat)(ns:List Int):cvB P k n (some (.slice e)) (some .string) (some ns)=⟨P.underlying e=some (.int .u8)/\ns.length=n,.v (.string (bK ns)),[],none,[],[k]⟩:=rfl
theorem KQ:lB []=some []:=rfl
theorem xl(n:Int)(r:List SV):lB (.v (.int .u8 n)::r)=(lB r).map (n::·):=rfl
theorem pL:∀ ns:List Int,lB (ns.map λn=>SV.v (.int .u8 n))=some ns
 |[]=>rfl
 |n::r=>by rw[List.map_cons,xl,pL r];rfl
end
end
section
def ev8:=(aa @ax (aa @Fe (aa @yG (aa @aey (aa @ach (aa @Nv (aa @WL (aa @Lm (aa @K8 (aa @Er (aa @Cf (aa @xS (aa @uS (aa @VI (aa @uB (aa @agt (aa @Sc (aa @E4 (aa @B6 (aa @aeQ (aa @adt (aa @aeI (aa @zh (aa @adx (aa @Lw (aa @MP (aa @WJ (aa @Jm (aa @Yv (aa @afE (aa @BV (aa @ab9 (aa @L0 (aa @Gt (aa @Kr (aa @Ia (aa @Mx (aa @L8 @Eb))))))))))))))))))))))))))))))))))))))
def ev9:=aa @Tz <| aa @KU <| aa @M7 <| aa @Yy <| (aa @Q9 (aa @S1 (aa @HH (aa @IC (aa @F8 (aa @KN (aa @NP (aa @N9 (aa @KE (aa @NV (aa @M8 (aa @Kw (aa @Mt (aa @Lj (aa @Nc (aa @NJ (aa @Mj (aa @LH (aa @NL (aa @L2 (aa @ze (aa @Eu (aa @Gq (aa @EH (aa @Is (aa @ad1 (aa @ZH (aa @KQ (aa @xl @pL)))))))))))))))))))))))))))))
end
section
open Go.RowKit
section
variable {P:Program}{fn:Func}
theorem Leaves.mono{tmps:Array Value}{R R' : Ending->World->Prop}(hr:∀ e w,R e w->R' e w):∀ (ds:List Deferred) (u:FrameMode) (w:World),Leaves P fn tmps R ds u w->Leaves P fn tmps R' ds u w
 |[],.run,_,h=>h.elim
 |[],.returning,_,h=>by obtain⟨v,h1,h2⟩:=h;exact⟨v,h1,hr _ _ h2⟩
 |[],.panicking c,_,h=>hr _ _ h
 |d::ds,u,w,h=>by
  obtain⟨h0,fv,cap,f,args,h1,h2,h3⟩:=h;refine⟨h0,fv,cap,f,args,h1,h2,h3.mono λe u' w' he=>?_⟩;cases e with
  |returned v=>exact Leaves.mono hr ds _ _ he
  |panicked c=>exact Leaves.mono hr ds _ _ he
  |outgrown=>exact hr _ _ he
theorem zq{R R' : Ending->World->Prop}(hr:∀ e w,R e w->R' e w)(e:Exit)(a:Act)(w:World)(h:bodyPostD P fn R e a w):bodyPostD P fn R' e a w:=by
 cases e with
 |normal=>exact Leaves.mono hr _ _ _ h
 |ret=>exact Leaves.mono hr _ _ _ h
 |panic c=>exact Leaves.mono hr _ _ _ h
 |outgrown=>exact hr _ _ h
 |exit i=>exact h.elim
 |goto l=>exact h.elim
theorem Ends.back{W W' : World}{bs bs' : List Nat}{pins:List (Nat×Value)}{Rr:World->List Nat->SV->Hp->Prop}{Rp:List PanicEntry->Hp->Prop}{e:Ending}{w:World}(he:Ext W bs W' bs')(h:Ends W' bs' pins Rr Rp e w):Ends W bs pins Rr Rp e w:=by
 cases e with
 |returned v=>obtain⟨W'',bs'',E,F,x,h',hx,r⟩:=h;exact⟨W'',bs'',E,F,x,h',he.trans hx,r⟩
 |panicked c=>obtain⟨W'',bs'',E,F,h',hx,r⟩:=h;exact⟨W'',bs'',E,F,h',he.trans hx,r⟩
 |outgrown=>exact h.elim
def l9(P:Program)(fn:Func)(nt:Nat)(pins:List (Nat×Value))(Rr:World->List Nat->SV->Hp->Prop)(Rp:List PanicEntry->Hp->Prop)(W:World)(bs:List Nat)(c:Code)(σ:St):Prop:=
 ∀ a w,Sat W bs nt ⟨[],pins⟩ σ a w->c.wp P (bodyPostD P fn (Ends W bs pins Rr Rp)) a w
variable {nt:Nat}{pins:List (Nat×Value)}{Rr:World->List Nat->SV->Hp->Prop}{Rp:List PanicEntry->Hp->Prop}{W:World}{bs:List Nat}{σ:St}
theorem TA{f:FuncId}{c:Code}{args:Array Value}{w:World}(hf:P.funcs[f]?=some fn)(hb:fn.body=some c)
  (hsat:Sat W bs nt ⟨[],pins⟩ σ { tmps:=args++Array.replicate (fn.ntmps-args.size) undef,defers:=[] } w)
  (h:l9 P fn nt pins Rr Rp W bs c σ):Calls P f args w (Ends W bs pins Rr Rp):=calls_of_wp_defers hf hb (h _ w hsat)
theorem qi{W' : World}{bs' : List Nat}{σ' : St}{a:Act}{w:World}{ds:List Deferred}(hs:Sat W' bs' nt ⟨ds,pins⟩ σ' a w)(hx:Ext W bs W' bs')(hq:(jG P W' bs' σ' fn.results.toList).1/\Rr W' bs' (lY (jG P W' bs' σ' fn.results.toList).2) σ'.h) :
  ∃ v,(results fn a.tmps).run P w=.ok v w/\Ends W bs pins Rr Rp (.returned v) w:=by
 obtain⟨E,F,hφ,hh,hp⟩:=hs.ex;exact⟨_,jZ hφ hh hq.1,W',bs',E,F,_,_,hx,hq.2,rfl,hh,hp⟩
theorem l9.seq{x y:Code}(h:Wp P W bs nt ⟨[],pins⟩ x (Th (λW' bs' σ' => l9 P fn nt pins Rr Rp W' bs' y σ') (Fin P fn.results.toList Rr Rp)) σ):l9 P fn nt pins Rr Rp W bs (.seq x y) σ:=λa w hs=>
 wp_seq (wp_mono (h a w hs) λe a' w' ⟨W',bs',σ',he,hq,hs'⟩=>by
  cases e with
  |normal=>exact wp_mono (hq a' w' hs') λe a w h=>zq (λe w=>Ends.back he) e a w h
  |ret=>
   have hd:=hs'.defers
   show Leaves P fn a'.tmps _ a'.defers .returning w'
   rw[hd]
   exact qi hs' he hq
  |panic c=>
   have hd:=hs'.defers
   show Leaves P fn a'.tmps _ a'.defers (.panicking c) w'
   rw[hd]
   obtain⟨E,F,hφ,hh,hp⟩:=hs'.ex
   exact⟨W',bs',E,F,_,he,hq,hh,hp⟩
  |exit i=>exact hq.elim
  |goto l=>exact hq.elim
  |outgrown=>exact hq.elim)
theorem l9.wp{c:Code}(h:Wp P W bs nt ⟨[],pins⟩ c (Fin P fn.results.toList Rr Rp) σ):l9 P fn nt pins Rr Rp W bs c σ:=λa w hs=>
 wp_mono (h a w hs) λe a' w' ⟨W',bs',σ',he,hq,hs'⟩=>by
  have hd:=hs'.defers;cases e with
  |normal=>show Leaves P fn a'.tmps _ a'.defers .returning w';rw[hd];exact qi hs' he hq
  |ret=>show Leaves P fn a'.tmps _ a'.defers .returning w';rw[hd];exact qi hs' he hq
  |panic c=>
   show Leaves P fn a'.tmps _ a'.defers (.panicking c) w';rw[hd];obtain⟨E,F,hφ,hh,hp⟩:=hs'.ex;exact⟨W',bs',E,F,_,he,hq,hh,hp⟩
  |exit i=>exact hq.elim
  |goto l=>exact hq.elim
  |outgrown=>exact hq.elim
def kL(w:World):List Value->List Nat->List TypeId->List (List Value)->Prop
 |[],[],[],[]=>True
 |u::us,b::bl,T::Ts,vs::vss=>u=.pointer (some ⟨b,0,none⟩)/\w.heap[b]?=some (.cells vs.toArray T (0,0))/\kL w us bl Ts vss
 |_,_,_,_=>False
def EB(P:Program):List TypeId->List (List Value)->List Value->Prop
 |[],[],[]=>True
 |T::Ts,cs::css,v::vs=>((ts P T=some cs.length/\ta P T=some true/\v=.agg cs.toArray)\/(ta P T=some false/\cs=[v]))/\EB P Ts css vs
 |_,_,_=>False
def SH:List Value->Value
 |[v]=>v
 |l=>.tuple l.toArray
structure CatchC (P:Program)(f:FuncId) where
 Ts:List TypeId
 enters:∀ args w,(callFunc f args).run P w=.ok (.enter f args) w
 pre:List (List Value)->Value->Prop
 out:List (List Value)->Value->List (List Value)
 bw:List (List Value)->Value->List Value
 vals_ok:∀ vss pv,pre vss pv->EB P Ts (out vss pv) (bw vss pv)
 quiet:∀ (w:World) (us:List Value),us.length=Ts.length->CallsD P f us.toArray .returning w λe u' w' => (∃ v,e=.returned v)/\u' = .returning/\ah w [] w'
 caught:∀ (w:World) (us:List Value) (bl:List Nat) (vss:List (List Value)) (pv:Value),kL w us bl Ts vss->bl.Nodup->(∀ b∈bl,b<w.heap.size)->pre vss pv ->
  CallsD P f us.toArray (.panicking [{ v:=pv,recovered:=false }]) w λe u' w' => (∃ v,e=.returned v)/\u' = .panicking [{ v:=pv,recovered:=true }]/\ah w bl w' /\ kL w' us bl Ts (out vss pv)
def vv:List Nat->List TypeId->List ResultVar
 |t::tl,T::Ts=>.cell t T::vv tl Ts
 |_,_=>[]
theorem kL.run{tmps:Array Value}{w:World}:∀ {tl:List Nat} {us:List Value} {bl:List Nat} {Ts:List TypeId} {css:List (List Value)} {vs:List Value},kL w us bl Ts css->EB P Ts css vs->tl.map (λt=>tmps.getD t undef)=us ->
  ((vv tl Ts).mapM (mG { tmps:=tmps,defers:=[] })).run P w=.ok vs w
 |[],us,bl,Ts,css,vs,h1,h2,h3=>by
  subst h3
  match bl,Ts,css,vs,h1,h2 with
  |[],[],[],[],_,_=>rfl
 | t::tl,us,bl,Ts,css,vs,h1,h2,h3=>by
  subst h3
  match bl,Ts,css,vs,h1,h2 with
  | b::bl,T::Ts,cs::css,v::vs,h1,h2=>
   obtain⟨e1,e2,e3⟩:=h1;obtain⟨f1,f2⟩:=h2
   replace e1:tmps.getD t undef=_:=e1
   have ih:=kL.run (tmps:=tmps) (tl:=tl) e3 f2 rfl;have one:(mG { tmps:=tmps,defers:=[] } (.cell t T)).run P w=.ok v w:=by
    simp only[mG];rw[e1];have hc:∀ j x,cs[j]?=some x->w.cell? ⟨b,0+j,none⟩=some x:=λj x hx=>by
     simp[World.cell?,e2,hx]
    rcases f1 with ⟨g1,g2,rfl⟩|⟨g2,rfl⟩
    ·have:=il (P:=P) (w:=w) g1 g2 ⟨b,0,none⟩ cs rfl (λj x hx=>by rw[Addr.add_lit];exact hc j x hx);simpa [asAddr] using this
    ·have:=ij (P:=P) (w:=w) g2 ⟨b,0,none⟩ v (by simpa using hc 0 v rfl);simpa [asAddr] using this
   simp only[vv,List.mapM_cons];simp[one,ih]
theorem Ee{tmps:Array Value}{w:World}{tl:List Nat}{us:List Value}{bl:List Nat}{Ts:List TypeId}{css:List (List Value)}{vs:List Value}(h1:kL w us bl Ts css)(h2:EB P Ts css vs)(h3:tl.map (λt=>tmps.getD t undef)=us)
  (hr:fn.results.toList=vv tl Ts):(results fn tmps).run P w=.ok (SH vs) w:=by
 have h4:=kL.run (P:=P) (tmps:=tmps) h1 h2 h3;have h2:results fn tmps=((Functor.map List.toArray (fn.results.toList.mapM (mG { tmps:=tmps,defers:=[] }))) >>= λ(vs:Array Value)=>(pure (if h:vs.size=1 then vs[0] else .tuple vs):Sem Value)):=by
  rw[<- Array.mapM_eq_mapM_toList];unfold results
  congr 1
 rw[h2,hr];simp only[map_eq_pure_bind,bind_assoc,pure_bind];simp[h4]
 match vs with
 |[]=>simp[SH]
 |[x]=>simp[SH]
 |x::y::r=>simp[SH]
def Om(σ:St):List Nat->List Nat->List TypeId->List (List Value)->Prop
 |[],[],[],[]=>True
 |t::tl,k::ks,T::Ts,vs::vss=>σ.φ t=.is (.own k 0)/\σ.h k=some (.cells T (vs.map .v))/\Om σ tl ks Ts vss
 |_,_,_,_=>False
def acv{f:FuncId}(C:CatchC P f)(rs:List ResultVar)(tl ks:List Nat)(Rr:World->List Nat->SV->Hp->Prop)(Rp:List PanicEntry->Hp->Prop):mb
 |.normal,W,bs,σ|.ret,W,bs,σ=>(jG P W bs σ rs).1/\Rr W bs (lY (jG P W bs σ rs).2) σ.h
 |.panic c,W,bs,σ=>∃ pv vss,c=[{ v:=pv,recovered:=false }]/\Om σ tl ks C.Ts vss/\C.pre vss pv/\Rr W bs (.v (SH (C.bw vss pv))) (dropKeys σ.h ks)
 |_,_,_,_=>False
def Qn(f:FuncId)(us:List Value):Deferred:=⟨.fn (.func f) us.toArray,#[]⟩
theorem iX.tmp{E:Nat->Value}{φ:Fr}{a:Act}{t:Nat}{x:SV}(h:iX E φ a)(ht:φ t=.is x):a.tmps.getD t undef=den E x:=by
 have:=h t;rw[ht]at this;exact this
theorem A8{σ:St}{E:Nat->Value}{F:Nat->List Nat}{a:Act}{w:World}(hφ:iX E σ.φ a)(hh:ai W bs E F σ.h w):∀ {tl ks:List Nat} {Ts:List TypeId} {vss:List (List Value)},Om σ tl ks Ts vss->ks.Nodup ->
  kL w (ks.map E) (ks.flatMap F) Ts vss/\tl.map (λt=>a.tmps.getD t undef)=ks.map E/\(ks.flatMap F).Nodup/\(∀ b∈ks.flatMap F,b<w.heap.size)/\(∀ k∈ks,∃ e,σ.h k=some e)
 |[],[],[],[],_,_=>⟨trivial,rfl,List.nodup_nil,sI,sI⟩
 | t::tl,k::ks,T::Ts,vs::vss,h,hn=>by
  obtain⟨h1,h2,h3⟩:=h;obtain⟨hk,hn⟩:=List.nodup_cons.1 hn;obtain⟨i1,i2,i3,i4,i5⟩:=A8 hφ hh h3 hn;obtain⟨b,hu,hF,hb⟩:=hh.ent k _ h2;have hd:au E (vs.map .v)=vs:=by
   rw[bp,List.map_map];exact (List.map_congr_left (λ_ _=>rfl)).trans (List.map_id vs)
  rw[hd]at hb;have e1:a.tmps.getD t undef=E k:=by
   rw[hφ.tmp h1,den,hu];rfl
  refine⟨?_,?_,?_,?_,?_⟩
  ·rw[List.map_cons,List.flatMap_cons,hF];exact⟨hu,hb,i1⟩
  ·rw[List.map_cons,List.map_cons,e1,i2]
  ·rw[List.flatMap_cons,hF];refine List.nodup_cons.2 ⟨λhm=>?_,i3⟩;obtain⟨j,hj,hbj⟩:=List.mem_flatMap.1 hm;obtain⟨e,he⟩:=i5 j hj;exact hh.apart k j _ e (λe' => hk (e' ▸ hj)) h2 he b (by rw[hF];simp) hbj
  ·intro c hc;rw[List.flatMap_cons]at hc;rcases List.mem_append.1 hc with hc|hc
   ·exact hh.lt k _ h2 c hc
   ·exact i4 c hc
  ·intro j hj;rcases List.mem_cons.1 hj with rfl|hj
   ·exact⟨_,h2⟩
   ·exact i5 j hj
theorem ah.nil{W w w' : World}{bs:List Nat}(h:ah W bs w)(h' : ah w [] w'):ah W bs w' := h.trans h' λb hb=>by cases hb
theorem kL.keeps{w w' : World}(h:ah w [] w'):∀ {us:List Value} {bl:List Nat} {Ts:List TypeId} {vss:List (List Value)},kL w us bl Ts vss->(∀ b∈bl,b<w.heap.size)->kL w' us bl Ts vss
 |[],[],[],[],_,_=>trivial
 |u::us,b::bl,T::Ts,vs::vss,hl,hlt=>⟨hl.1,by rw[h.block b (hlt b sI) sI];exact hl.2.1,kL.keeps h hl.2.2 λc hc=>hlt c (by simp[hc])⟩
theorem l9.defer{f:FuncId}(C:CatchC P f)(tl ks:List Nat){id d:Nat}{y:Code}{T1 T2:TypeId}{p1 p2:String}{a1 a2:Array Edge}
  (hks:ks.Nodup) (hrs:fn.results.toList=vv tl C.Ts) (hd:d<nt) (hlen:tl.length=C.Ts.length) (hlen2:ks.length=C.Ts.length)
  (hcap:∀ p∈tl.zip ks,σ.φ p.1=.is (.own p.2 0)) (hcel:∀ k∈ks,∃ T vs,σ.h k=some (.cells T vs))
  (h:∀ us:List Value,us.length=C.Ts.length->Wp P W bs nt ⟨[Qn f us],ks.zip us++pins⟩ y (acv C fn.results.toList tl ks Rr Rp) ⟨σ.n+2,bu σ.φ d .any,σ.h⟩) :
  l9 P fn nt pins Rr Rp W bs (.seq (.region id #[{ dst:=some d,op:=.makeFunc (.func f) #[] (tl.map Operand.tmp).toArray,type:=T1,pos:=p1,after:=a1,guard:=none },{ dst:=none,op:=.defer { callee:=.value (.tmp d),args:=#[],argTypes:=#[] },type:=T2,pos:=p2,after:=a2,guard:=none }] false) y) σ:=λa w hs=>by
 obtain⟨E,F,hφ,hh,hp⟩:=hs.ex;have hbl:∀ k∈ks,∃ b,E k=.pointer (some ⟨b,0,none⟩):=λk hk=>by
  obtain⟨T,vs,he⟩:=hcel k hk;obtain⟨b,hu,_⟩:=hh.ent k _ he;exact⟨b,hu⟩
 have htv:∀ (tl ks:List Nat),tl.length=ks.length->(∀ p∈tl.zip ks,σ.φ p.1=.is (.own p.2 0))->(∀ k∈ks,∃ b,E k=.pointer (some ⟨b,0,none⟩))->tl.map (λt=>a.tmps.getD t undef)=ks.map E:=by
  intro tl
  induction tl with
  |nil=>intro ks hl _ _;cases ks with
   |nil=>rfl
   |cons _ _=>cases hl
  | cons t tl ih=>
   intro ks hl hc hb;cases ks with
   |nil=>cases hl
   |cons k ks=>
    have e1:=hφ.tmp (hc (t,k) sI);obtain⟨b,he⟩:=hb k sI;rw[List.map_cons,List.map_cons,e1,den,he,ih ks (by simpa using hl) (λp hp=>hc p (by simp[hp])) λj hj=>hb j (by simp[hj])];rfl
 have hmem:∀ (tl ks:List Nat),tl.length=ks.length->∀ k∈ks,∃ t∈tl,(t,k)∈tl.zip ks:=by
  intro tl
  induction tl with
  |nil=>intro ks hl k hk;cases ks with
   |nil=>cases hk
   |cons _ _=>cases hl
  | cons t tl ih=>
   intro ks hl k hk;cases ks with
   |nil=>cases hk
   | cons j ks=>
    rcases List.mem_cons.1 hk with rfl|hk
    ·exact⟨t,sI,sI⟩
    ·obtain⟨t',h1,h2⟩:=ih ks (by simpa using hl) k hk;exact⟨t',by simp[h1],by simp[h2]⟩
 have htu:tl.map (λt=>a.tmps.getD t undef)=ks.map E:=htv tl ks oM hcap hbl;have hs2:Sat W bs nt ⟨[Qn f (ks.map E)],ks.zip (ks.map E)++pins⟩ ⟨σ.n+2,bu σ.φ d .any,σ.h⟩ { tmps:=a.tmps.setIfInBounds d (.func (.func f) #[] (ks.map E).toArray),defers:=[Qn f (ks.map E)] } w:=by
  refine⟨⟨E,F,λt=>?_,hh,λp hp' => ?_⟩,by simp[hs.size],rfl,λp hp' => ?_,λt k hk=>?_,λj e he=>?_⟩
  ·show fits E (bu σ.φ d .any t) ((a.tmps.setIfInBounds d (.func (.func f) #[] (ks.map E).toArray)).getD t undef);by_cases ht:t=d
   ·subst ht;rw[ak];trivial
   ·rw[aq _ _ ht];have:=hφ t
    rwa [show (a.tmps.setIfInBounds d (.func (.func f) #[] (ks.map E).toArray)).getD t undef=a.tmps.getD t undef from by
     rw[Array.getD_eq_getD_getElem?,Array.getD_eq_getD_getElem?,Array.getElem?_setIfInBounds_ne (λe=>ht e.symm)]]
  ·rcases List.mem_append.1 hp' with hp'|hp'
   ·have:∀ (l:List Nat) (p:Nat×Value),p∈l.zip (l.map E)->E p.1=p.2:=by
     intro l
     induction l with
     |nil=>intro p hp;cases hp
     |cons x l ih=>
      intro p hp;rcases List.mem_cons.1 hp with rfl|hp
      ·rfl
      ·exact ih p hp
    exact this ks p hp'
   ·exact hp p hp'
  ·rcases List.mem_append.1 hp' with hp'|hp'
   ·have hk:p.1∈ks:=(List.of_mem_zip hp').1;obtain⟨t,_,ht⟩:=hmem tl ks oM p.1 hk;have:=hs.fk t p.1 (by rw[hcap _ ht];simp[FV.keys,SV.keys]);show p.1 / 8<σ.n+2;omega
   ·have:=hs.pk p hp';show p.1 / 8<σ.n+2;omega
  ·have hk:k∈(bu σ.φ d .any t).keys:=hk;by_cases ht:t=d
   ·subst ht;rw[ak]at hk;simp[FV.keys]at hk
   ·rw[aq _ _ ht]at hk;have:=hs.fk t k hk;show k / 8<σ.n+2;omega
  ·obtain⟨h1,h2⟩:=hs.hk j e he;exact⟨by show j / 8<σ.n+2;omega,λi hi=>by have:=h2 i hi;show i / 8<σ.n+2;omega⟩
 have h2:=h (ks.map E) (by simp[hlen2]) _ w hs2;have hda:d<a.tmps.size:=by rw[hs.size];exact hd
 have hev:(List.map (a.eval ∘ Operand.tmp) tl)=ks.map E:=by rw[<- htu];rfl
 refine wp_seq (wp_region ?_);simp[wpOps,go_sem,Exit.then];left;left;rw[if_pos hda,hev,hs.defers];refine wp_mono h2 λe a' w' ⟨W',bs',σ',he,hq,hs'⟩=>?_
 have hds:=hs'.defers;have hlu:(ks.map E).length=C.Ts.length:=by simp[hlen2]
 have still:∀ {E' : Nat->Value} {F' : Nat->List Nat} {h' : Hp} {w'' : World},ai W' bs' E' F' h' w' -> bU (λ_=>True) h' -> ah w' [] w'' -> ai W' bs' E' F' h' w'' := λ{E' F' h' w''} hh' hK hk=>
  hh'.oE hK [] (λ_=>none) (λk hk=>by cases hk) (λ_ _=>rfl) (λj e he=>by cases he) (λi j e e' _ he=>by cases he) (λ_ _ _ _=>rfl) (λj=>by simp) (by simpa using hk)
 have all:∀ {h' : Hp},bU (· / 8<σ'.n) h' -> bU (λ_=>True) h' := λhK j x hx=>⟨trivial,λ_ _=>trivial⟩
 have plain:∀ hq' : (jG P W' bs' σ' fn.results.toList).1/\Rr W' bs' (lY (jG P W' bs' σ' fn.results.toList).2) σ'.h,Leaves P fn a'.tmps (Ends W bs pins Rr Rp) a'.defers .returning w' := λhq' => by
  rw[hds];refine leaves_cons (f:=f) (args:=(ks.map E).toArray) sI (by simp[go_sem,C.enters]) ?_;refine (C.quiet w' _ hlu).mono λe u' w'' ⟨⟨v,hv⟩,hu,hk⟩=>?_
  subst hv;subst hu;obtain⟨E',F',hφ',hh',hp'⟩:=hs'.ex;have hh'' := still hh' (all hs'.hk) hk;exact⟨_,jZ hφ' hh'' hq'.1,W',bs',E',F',_,_,he,hq'.2,rfl,hh'',λp hp=>hp' p (List.mem_append_right _ hp)⟩
 cases e with
 |normal=>exact plain hq
 |ret=>exact plain hq
 |exit i=>exact hq.elim
 |goto l=>exact hq.elim
 |outgrown=>exact hq.elim
 | panic c=>
  obtain⟨pv,vss,rfl,hcap',hpre,hR⟩:=hq;show Leaves P fn a'.tmps (Ends W bs pins Rr Rp) a'.defers (.panicking _) w';rw[hds];refine leaves_cons (f:=f) (args:=(ks.map E).toArray) sI (by simp[go_sem,C.enters]) ?_;obtain⟨E',F',hφ',hh',hp'⟩:=hs'.ex;obtain⟨g1,g2,g3,g4,g5⟩:=A8 hφ' hh' hcap' hks
  have hEE:ks.map E' = ks.map E:=by
   refine List.map_congr_left λk hk=>?_
   have:∀ (l:List Nat),k∈l->(k,E k)∈l.zip (l.map E):=by
    intro l
    induction l with
    |nil=>intro h;cases h
    |cons x l ih=>
     intro h;rcases List.mem_cons.1 h with rfl|h
     ·simp
     ·simp[ih h]
   exact hp' (k,E k) (List.mem_append_left _ (this ks hk))
  rw[hEE]at g1 g2;refine (C.caught w' _ _ vss pv g1 g3 g4 hpre).mono λe u' w'' ⟨⟨v,hv⟩,hu,hk,hl⟩=>?_
  subst hv;subst hu;have hrun:=Ee (P:=P) (fn:=fn) hl (C.vals_ok vss pv hpre) g2 hrs;have hh'' : ai W' bs' E' F' (dropKeys σ'.h ks) w'' :=
   hh'.oE (all hs'.hk) ks (λ_=>none) g5 (λ_ _=>rfl) (λj e he=>by cases he) (λi j e e' _ he=>by cases he) (λ_ _ _ _=>rfl) (λj=>by simp[dropKeys]) hk
  exact⟨_,hrun,W',bs',E',F',_,_,he,hR,rfl,hh'',λp hp=>hp' p (List.mem_append_right _ hp)⟩
end
def qp(j:Nat):List TypeId->List (Nat×FV)
 |[]=>[]
 |_::r=>(j,.is (.own j 0))::qp (j+1) r
def BE(j:Nat):List TypeId->List (List Value)->List (Nat×aT)
 |T::Ts,vs::vss=>(j,.cells T (vs.map .v))::BE (j+1) Ts vss
 |_,_=>[]
def ae1(h:Hp):Nat->List TypeId->List (List Value)->Prop
 |_,[],[]=>True
 |j,T::Ts,vs::vss=>h j=some (.cells T (vs.map .v))/\ae1 h (j+1) Ts vss
 |_,_,_=>False
def Mk(j:Nat):List Value->List (Nat×Value)
 |[]=>[]
 |u::r=>(j,u)::Mk (j+1) r
theorem vf{p:Nat×FV}:∀ {j:Nat} {Ts:List TypeId},p∈qp j Ts->∃ i,i<Ts.length/\p=(j+i,.is (.own (j+i) 0))
 |j,[],h=>by cases h
 | j,T::r,h=>by
  rcases List.mem_cons.1 h with rfl|h
  ·exact⟨0,sI,rfl⟩
  ·obtain⟨i,h1,rfl⟩:=vf h;exact⟨i+1,by simpa using h1,by rw[show j+1+i=j+(i+1) by omega]⟩
theorem vG{p:Nat×aT}:∀ {j:Nat} {Ts:List TypeId} {vss:List (List Value)},p∈BE j Ts vss->∃ i T vs,Ts[i]?=some T/\vss[i]?=some vs/\p=(j+i,.cells T (vs.map .v))
 |j,[],vss,h=>by cases vss<;>cases h
 |j,T::r,[],h=>by cases h
 | j,T::r,vs::vss,h=>by
  rcases List.mem_cons.1 h with rfl|h
  ·exact⟨0,T,vs,rfl,rfl,rfl⟩
  ·obtain⟨i,T',vs',h1,h2,rfl⟩:=vG h;exact⟨i+1,T',vs',by simpa using h1,by simpa using h2,by rw[show j+1+i=j+(i+1) by omega]⟩
theorem A1{p:Nat×Value}:∀ {j:Nat} {us:List Value},p∈Mk j us->∃ i,us[i]?=some p.2/\p.1=j+i
 |j,[],h=>by cases h
 | j,u::r,h=>by
  rcases List.mem_cons.1 h with rfl|h
  ·exact⟨0,rfl,rfl⟩
  ·obtain⟨i,h1,h2⟩:=A1 h;exact⟨i+1,by simpa using h1,oM⟩
section
variable {P:Program}
theorem kL.at{w:World}:∀ {us:List Value} {bl:List Nat} {Ts:List TypeId} {vss:List (List Value)},kL w us bl Ts vss->∀ {i:Nat} {T:TypeId} {vs:List Value},Ts[i]?=some T->vss[i]?=some vs ->
  ∃ b,bl[i]?=some b/\us[i]?=some (.pointer (some ⟨b,0,none⟩))/\w.heap[b]?=some (.cells vs.toArray T (0,0))
 |u::us,b::bl,T::Ts,vs::vss,h,0,T',vs',h1,h2=>by
  simp at h1 h2;subst h1;subst h2;exact⟨b,rfl,by rw[h.1];rfl,h.2.1⟩
 |u::us,b::bl,T::Ts,vs::vss,h,i+1,T',vs',h1,h2=>by
  simpa using h.2.2.at (i:=i) (T:=T') (vs:=vs') (by simpa using h1) (by simpa using h2)
 |[],[],[],[],_,i,T,vs,h1,_=>by simp at h1
theorem kL.len{w:World}:∀ {us:List Value} {bl:List Nat} {Ts:List TypeId} {vss:List (List Value)},kL w us bl Ts vss->us.length=Ts.length/\bl.length=Ts.length/\vss.length=Ts.length
 |[],[],[],[],_=>⟨rfl,rfl,rfl⟩
 |u::us,b::bl,T::Ts,vs::vss,h=>by
  obtain⟨h1,h2,h3⟩:=kL.len h.2.2;simp[h1,h2,h3]
theorem HF(E:Nat->Value)(vs:List Value):au E (vs.map .v)=vs:=by
 rw[bp,List.map_map];exact (List.map_congr_left (λ_ _=>rfl)).trans (List.map_id vs)
def σL(Ts:List TypeId)(vss:List (List Value)):St:=⟨1,bm (qp 0 Ts),aY (BE 0 Ts vss)⟩
theorem Zb{w:World}{nt m:Nat}{us:List Value}{bl:List Nat}{Ts:List TypeId}{vss:List (List Value)}(h:kL w us bl Ts vss)(hn:bl.Nodup)(hlt:∀ b∈bl,b<w.heap.size)(h8:us.length<=7)(hnt:us.length+m=nt) :
  Sat w bl nt ⟨[],Mk 0 us⟩ (σL Ts vss) { tmps:=us.toArray++Array.replicate m undef,defers:=[] } w:=by
 obtain⟨l1,l2,l3⟩:=h.len;have hF:∀ {i:Nat} {b:Nat},bl[i]?=some b->((bl[i]?).toList:List Nat)=[b]:=λh=>by rw[h];rfl
 refine⟨⟨λj=>us.getD j undef,λj=>(bl[j]?).toList,λt=>?_,⟨λj e he=>?_,λj e he c hc=>?_,λj e he c hc=>?_,λi j e e' hij hi hj c hc=>?_,ah.refl w _⟩,λp hp=>?_⟩,by simp;omega,rfl,λp hp=>?_,λt k hk=>?_,λj e he=>?_⟩
 ·show fits _ (bm (qp 0 Ts) t) _;rcases jK (L:=qp 0 Ts) t with h0|⟨p,hp,h1,h2⟩
  ·rw[h0];trivial
  ·rw[h2];obtain⟨i,hi,rfl⟩:=vf hp;simp only[Nat.zero_add]at h1;subst h1;have hti:i<Ts.length:=hi;obtain⟨b,hb,hu,_⟩:=h.at (i:=i) (List.getElem?_eq_getElem hti) (List.getElem?_eq_getElem (by omega:i<vss.length));simp only[Nat.zero_add,fits,den]
   rw[Array.getD_eq_getD_getElem?,Array.getElem?_append_left (by simp;omega)];simp[hu,base,di]
 ·obtain⟨i,T,vs,h1,h2,h3⟩:=vG (cz he);simp only[Nat.zero_add,Prod.mk.injEq]at h3;obtain⟨rfl,rfl⟩:=h3;obtain⟨b,hb,hu,hh⟩:=h.at h1 h2;exact⟨b,by simp[hu],hF hb,by rw[HF];exact hh⟩
 ·simp only[Option.mem_toList]at hc;exact hlt c (List.mem_of_getElem? hc)
 ·simp only[Option.mem_toList]at hc;exact .inr (List.mem_of_getElem? hc)
 ·simp only[Option.mem_toList]at hc ⊢;intro hc';have h1:=List.getElem?_eq_some_iff.1 hc;have h2:=List.getElem?_eq_some_iff.1 hc';obtain⟨a1,a2⟩:=h1;obtain⟨b1,b2⟩:=h2;have hpw:=List.pairwise_iff_getElem.1 hn;rcases Nat.lt_or_gt_of_ne hij with hlt'|hlt'
  ·exact hpw i j a1 b1 hlt' (a2.trans b2.symm)
  ·exact hpw j i b1 a1 hlt' (b2.trans a2.symm)
 ·obtain⟨i,h1,h2⟩:=A1 hp;simp only[Nat.zero_add]at h2;rw[h2];simp[h1]
 ·obtain⟨i,h1,h2⟩:=A1 hp;have:=(List.getElem?_eq_some_iff.1 h1).1;show p.1 / 8<1;omega
 ·have hk:k∈(bm (qp 0 Ts) t).keys:=hk;rcases jK (L:=qp 0 Ts) t with h0|⟨p,hp,h1,h2⟩
  ·rw[h0]at hk;simp[FV.keys]at hk
  ·rw[h2]at hk;obtain⟨i,hi,rfl⟩:=vf hp;simp[FV.keys,SV.keys]at hk;show k / 8<1;omega
 ·obtain⟨i,T,vs,h1,h2,h3⟩:=vG (cz he);simp only[Nat.zero_add,Prod.mk.injEq]at h3;obtain⟨rfl,rfl⟩:=h3;have:=(List.getElem?_eq_some_iff.1 h1).1;refine⟨by show j / 8<1;omega,λi hi=>?_⟩;simp only[aT.keys,aA]at hi;cases hi
theorem Sat.put{W:World}{bs:List Nat}{nt:Nat}{ds:Aux}{σ:St}{a:Act}{w:World}(h:Sat W bs nt ds σ a w)(t:Nat)(v:Value)(ht:t<nt):Sat W bs nt ds ⟨σ.n,bu σ.φ t (.is (.v v)),σ.h⟩ (a.put (some t) v) w:=by
 obtain⟨⟨E,F,hf,hs,hp⟩,h1,h2,h3,h4,h5⟩:=h;refine⟨⟨E,F,λs=>?_,hs,hp⟩,by simp[Act.put,h1],h2,h3,λs k hk=>?_,h5⟩
 ·show fits E (bu σ.φ t (.is (.v v)) s) ((a.tmps.setIfInBounds t v).getD s undef);by_cases hst:s=t
  ·subst hst;rw[ak,Array.getD_eq_getD_getElem?,Array.getElem?_setIfInBounds_self_of_lt oM];rfl
  ·rw[aq _ _ hst,Array.getD_eq_getD_getElem?,Array.getElem?_setIfInBounds_ne (λe=>hst e.symm),<- Array.getD_eq_getD_getElem?];exact hf s
 ·have hk:k∈(bu σ.φ t (.is (.v v)) s).keys:=hk;by_cases hst:s=t
  ·subst hst;rw[ak]at hk;simp[FV.keys,SV.keys]at hk
  ·rw[aq _ _ hst]at hk;exact h4 s k hk
def σR(σ:St)(e x:Nat)(v:Value):St:=⟨σ.n,bu (bu σ.φ e (.is (.v v))) x (.is (.v v)),σ.h⟩
theorem Sat.ahT{W:World}{bs:List Nat}{nt:Nat}{ds:Aux}{σ:St}{a:Act}{w:World}(h:Sat W bs nt ds σ a w)(e x:Nat)(v:Value)(he:e<nt)(hx:x<nt):Sat W bs nt ds (σR σ e x v) ((a.put (some e) v).put (some x) v) w:=
 (h.put e v he).put x v hx
theorem aaa{w:World}{nt:Nat}{tmps:Array Value}(h:tmps.size=nt):Sat w [] nt ⟨[],[]⟩ ⟨1,bm [],aY []⟩ { tmps:=tmps,defers:=[] } w:=by
 refine⟨⟨λ_=>undef,λ_=>[],λ_=>trivial,⟨λj e he=>?_,λj e he=>?_,λj e he=>?_,λi j e e' _ he=>?_,ah.refl w _⟩,λp hp=>?_⟩,h,rfl,λp hp=>?_,λt k hk=>?_,λj e he=>?_⟩
 ·cases he
 ·cases he
 ·cases he
 ·cases he
 ·cases hp
 ·cases hp
 ·simp[bm,FV.keys]at hk
 ·cases he
theorem s8{f:FuncId}{fn:Func}{id e x:Nat}{T1 T2:TypeId}{p1 p2:String}{a1 a2:Array Edge}{rest:Code}{nt:Nat}(w:World)(us:List Value)
  (hf:P.funcs[f]?=some fn) (hb:fn.body=some (.seq (.region id #[{ dst:=some e,op:=.call { callee:=.builtin .recover,args:=#[],argTypes:=#[] },type:=T1,pos:=p1,after:=a1,guard:=none },{ dst:=some x,op:=.assign (.tmp e),type:=T2,pos:=p2,after:=a2,guard:=none }] false) rest))
  (hr:fn.results.toList=[]) (he:e<nt) (hx:x<nt) (hnt:us.length+(fn.ntmps-us.length)=nt)
  (h:Wp P w [] nt ⟨[],[]⟩ rest (Fin P [] (λ_ _ _ _=>True) (λ_ _=>False)) (σR ⟨1,bm [],aY []⟩ e x .nilIface)) :
  CallsD P f us.toArray .returning w λe u' w' => (∃ v,e=.returned v)/\u' = .returning/\ah w [] w' := by
 refine callsD_of_wpS hf hb λc₀ cs hu=>wpS_seq (wpS_region ?_)
 have hs0:Sat w [] nt ⟨[],[]⟩ ⟨1,bm [],aY []⟩ { tmps:=us.toArray++Array.replicate (fn.ntmps-us.length) undef,defers:=[] } w:=
  aaa (by simp;omega)
 have hs1:=hs0.ahT e x .nilIface he hx;have h1:=h _ w hs1;simp[wpOpsS,go_sem,recoverD,hu,Exit.thenS];rw[if_pos oM];have hc:∀ u,c₀.mode=u->c₀::cs={ c₀ with mode:=u }::cs:=λu hu=>by subst hu;rfl
 refine wpS_of_wp (wp_mono h1 λe' a' w' ⟨W',bs',σ',hx',hq,hs'⟩=>?_);obtain⟨⟨E,F,hφ,hh,_⟩,_,hd,_⟩:=hs';have fin:a'.defers=[]/\∃ u',c₀::cs={ c₀ with mode:=u' }::cs/\∃ v,(results fn a'.tmps).run P w' = .ok v w' /\ (∃ v',Ending.returned v=.returned v')/\u' = .returning/\ah w [] w' :=
  ⟨hd,_,hc _ hu,_,jZ hφ hh (by rw[hr];trivial),⟨_,rfl⟩,rfl,(hh.back hx').keeps⟩
 cases e' with
 |normal=>exact fin
 |ret=>exact fin
 |panic c=>exact hq.elim
 |exit i=>exact hq.elim
 |goto l=>exact hq.elim
 |outgrown=>exact hq.elim
theorem DN{W:World}{bs:List Nat}{E:Nat->Value}{F:Nat->List Nat}{h:Hp}{w:World}(hh:ai W bs E F h w):∀ {j:Nat} {us:List Value} {bl:List Nat} {Ts:List TypeId} {vss:List (List Value)} {w0:World} {vs0:List (List Value)},kL w0 us bl Ts vs0->ae1 h j Ts vss->(∀ p∈Mk j us,E p.1=p.2)->kL w us bl Ts vss
 |j,[],[],[],[],w0,[],_,_,_=>trivial
 |j,u::us,b::bl,T::Ts,vs::vss,w0,v0::vs0,hl,hc,hp=>by
  obtain⟨h1,h2⟩:=hc;obtain⟨b',hu,hF,hb⟩:=hh.ent j _ h1;have e1:=hp (j,u) (by simp[Mk]);simp only at e1;rw[e1,hl.1]at hu;simp only[Value.pointer.injEq,Option.some.injEq,Addr.mk.injEq,and_true]at hu;subst hu;rw[HF]at hb;exact⟨hl.1,hb,DN hh hl.2.2 h2 λp hp' => hp p (by simp[Mk,hp'])⟩
 |j,[],[],[],_::_,w0,[],_,hc,_=>hc.elim
 |j,u::us,b::bl,T::Ts,[],w0,v0::vs0,_,hc,_=>hc.elim
theorem rp{f:FuncId}{fn:Func}{id e x:Nat}{T1 T2:TypeId}{p1 p2:String}{a1 a2:Array Edge}{rest:Code}{nt:Nat}{w:World}{us:List Value}{bl:List Nat}{Ts:List TypeId}{vss:List (List Value)}{pv:Value}{out:List (List Value)}
  (hf:P.funcs[f]?=some fn) (hb:fn.body=some (.seq (.region id #[{ dst:=some e,op:=.call { callee:=.builtin .recover,args:=#[],argTypes:=#[] },type:=T1,pos:=p1,after:=a1,guard:=none },{ dst:=some x,op:=.assign (.tmp e),type:=T2,pos:=p2,after:=a2,guard:=none }] false) rest))
  (hr:fn.results.toList=[]) (he:e<nt) (hx:x<nt) (hnt:us.length+(fn.ntmps-us.length)=nt) (hl:kL w us bl Ts vss) (hn:bl.Nodup) (hlt:∀ b∈bl,b<w.heap.size) (h8:us.length<=7)
  (h:∀ us:List Value,us.length=Ts.length->Wp P w bl nt ⟨[],Mk 0 us⟩ rest (Fin P [] (λ_ _ _ h=>ae1 h 0 Ts out) (λ_ _=>False)) (σR (σL Ts vss) e x pv)) :
  CallsD P f us.toArray (.panicking [{ v:=pv,recovered:=false }]) w λe u' w' => (∃ v,e=.returned v)/\u' = .panicking [{ v:=pv,recovered:=true }]/\ah w bl w' /\ kL w' us bl Ts out:=by
 refine callsD_of_wpS hf hb λc₀ cs hu=>wpS_seq (wpS_region ?_)
 have hs1:=(Zb hl hn hlt h8 hnt).ahT e x pv he hx;have h1:=h us hl.len.1 _ w hs1;simp[wpOpsS,go_sem,recoverD,hu,Exit.thenS];rw[if_pos oM];refine wpS_of_wp (wp_mono h1 λe' a' w' ⟨W',bs',σ',hx',hq,hs'⟩=>?_);obtain⟨⟨E,F,hφ,hh,hp⟩,_,hd,_⟩:=hs'
 have fin:((jG P W' bs' σ' []).1/\ae1 σ'.h 0 Ts out)->a'.defers=[]/\∃ u',{ c₀ with mode:=.panicking [{ v:=pv,recovered:=true }] }::cs={ c₀ with mode:=u' }::cs/\∃ v,(results fn a'.tmps).run P w' = .ok v w' /\ (∃ v',Ending.returned v=.returned v')/\u' = .panicking [{ v:=pv,recovered:=true }]/\ah w bl w' /\ kL w' us bl Ts out:=λhq=>
  ⟨hd,_,rfl,_,jZ hφ hh (by rw[hr];trivial),⟨_,rfl⟩,rfl,(hh.back hx').keeps,DN hh hl hq.2 hp⟩
 cases e' with
 |normal=>exact fin hq
 |ret=>exact fin hq
 |panic c=>exact hq.elim
 |exit i=>exact hq.elim
 |goto l=>exact hq.elim
 |outgrown=>exact hq.elim
end
section
variable {P:Program}{fn:Func}{nt:Nat}{pins:List (Nat×Value)}{Rr:World->List Nat->SV->Hp->Prop}{Rp:List PanicEntry->Hp->Prop}{W:World}{bs:List Nat}{σ:St}
theorem xx{f:FuncId}{c:Code}{args:Array Value}{w:World}{v:Value}(hf:P.funcs[f]?=some fn)(hb:fn.body=some c)(hnt:args.size+(fn.ntmps-args.size)=nt)
  (h:l9 P fn nt [] (λ_ _ x _=>∀ E,den E x=v) (λ_ _=>False) w [] c (σ0 args.toList)):Calls P f args w λe w' => e=.returned v/\ah w [] w' := by
 refine (TA hf hb (qS args hnt) h).mono λe w' he=>?_
 cases e with
 |returned u=>
  obtain⟨W',bs',E,F,x,h,hx,hR,rfl,hs,_⟩:=he;exact⟨by rw[hR E],hx.eo hs.keeps⟩
 |panicked c=>obtain⟨_,_,_,_,_,_,hf,_⟩:=he;exact hf.elim
 |outgrown=>exact he.elim
theorem l9.seq'{rs:List ResultVar}(hrs:fn.results.toList=rs){x y:Code}(h:Wp P W bs nt ⟨[],pins⟩ x (Th (λW' bs' σ' => l9 P fn nt pins Rr Rp W' bs' y σ') (Fin P rs Rr Rp)) σ):l9 P fn nt pins Rr Rp W bs (.seq x y) σ:=by
 subst hrs;exact l9.seq h
theorem l9.Vi{rs:List ResultVar}(hr:fn.results.toList=rs){f:FuncId}(C:CatchC P f)(tl ks:List Nat){id d:Nat}{y:Code}{T1 T2:TypeId}{p1 p2:String}{a1 a2:Array Edge}{caps:Array Operand}
  (hcaps:caps=(tl.map Operand.tmp).toArray) (hks:ks.Nodup) (hrs:rs=vv tl C.Ts) (hd:d<nt) (hlen:tl.length=C.Ts.length) (hlen2:ks.length=C.Ts.length)
  (hcap:∀ p∈tl.zip ks,σ.φ p.1=.is (.own p.2 0)) (hcel:∀ k∈ks,∃ T vs,σ.h k=some (.cells T vs))
  (h:∀ us:List Value,us.length=C.Ts.length->Wp P W bs nt ⟨[Qn f us],ks.zip us++pins⟩ y (acv C rs tl ks Rr Rp) ⟨σ.n+2,bu σ.φ d .any,σ.h⟩) :
  l9 P fn nt pins Rr Rp W bs (.seq (.region id #[{ dst:=some d,op:=.makeFunc (.func f) #[] caps,type:=T1,pos:=p1,after:=a1,guard:=none },{ dst:=none,op:=.defer { callee:=.value (.tmp d),args:=#[],argTypes:=#[] },type:=T2,pos:=p2,after:=a2,guard:=none }] false) y) σ:=by
 subst hcaps;subst hr;exact l9.defer C tl ks hks hrs hd hlen hlen2 hcap hcel h
variable {f:FuncId}(C:CatchC P f)(rs:List ResultVar)(tl ks:List Nat)
theorem nD:acv C rs tl ks Rr Rp .ret W bs σ=((jG P W bs σ rs).1/\Rr W bs (lY (jG P W bs σ rs).2) σ.h):=rfl
theorem lO(c:List PanicEntry):acv C rs tl ks Rr Rp (.panic c) W bs σ=∃ pv vss,c=[{ v:=pv,recovered:=false }]/\Om σ tl ks C.Ts vss/\C.pre vss pv/\Rr W bs (.v (SH (C.bw vss pv))) (dropKeys σ.h ks):=rfl
end
mutual
def qI(k:Nat)(u:Value):SV->SV
 |.v x=>.v x
 |.own j o=>bif j == k then .v (di (base u) o) else .own j o
 |.hd j=>bif j == k then .v (hv u) else .hd j
 |.agg l=>.agg (vo k u l)
 |.tup l=>.tup (vo k u l)
 |.ifc t x=>.ifc t (qI k u x)
 |.part j i=>bif j == k then .v (hv (HJ u i)) else .part j i
 |.fn f a c=>.fn f (vo k u a) (vo k u c)
def vo(k:Nat)(u:Value):List SV->List SV
 |[]=>[]
 |x::r=>qI k u x::vo k u r
end
mutual
theorem ye{E:Nat->Value}{k:Nat}:∀ x:SV,den E (qI k (E k) x)=den E x
 |.v x=>rfl
 | .own j o=>by
  simp only[qI];by_cases hj:j=k
  ·subst hj;simp[den]
  ·have:(j == k)=false:=by simp[hj]
   simp[this]
 | .hd j=>by
  simp only[qI];by_cases hj:j=k
  ·subst hj;simp[den]
  ·have:(j == k)=false:=by simp[hj]
   simp[this]
 |.agg l=>by simp only[qI,den];rw[lE l]
 |.tup l=>by simp only[qI,den];rw[lE l]
 |.ifc t x=>by simp only[qI,den];rw[ye x]
 | .part j i=>by
  simp only[qI];by_cases hj:j=k
  ·subst hj;simp[den]
  ·have:(j == k)=false:=by simp[hj]
   simp[this]
 |.fn f a c=>by simp only[qI,den];rw[lE a,lE c]
theorem lE{E:Nat->Value}{k:Nat}:∀ l:List SV,au E (vo k (E k) l)=au E l
 |[]=>rfl
 |x::r=>by simp only[vo,au];rw[ye x,lE r]
end
mutual
theorem qa{k:Nat}{u:Value}{j:Nat}:∀ x:SV,j∈(qI k u x).keys->j∈x.keys/\j≠k
 |.v x,h=>by simp[qI,SV.keys]at h
 | .own i o,h=>by
  simp only[qI]at h;by_cases hi:i=k
  ·subst hi;simp[SV.keys]at h
  ·have:(i == k)=false:=by simp[hi]
   simp only[this,cond_false,SV.keys,List.mem_singleton]at h ⊢;exact⟨h,h ▸ hi⟩
 | .hd i,h=>by
  simp only[qI]at h;by_cases hi:i=k
  ·subst hi;simp[SV.keys]at h
  ·have:(i == k)=false:=by simp[hi]
   simp only[this,cond_false,SV.keys,List.mem_singleton]at h ⊢;exact⟨h,h ▸ hi⟩
 |.agg l,h=>by simp only[qI,SV.keys]at h ⊢;exact hJ l h
 |.tup l,h=>by simp only[qI,SV.keys]at h ⊢;exact hJ l h
 |.ifc t x,h=>by simp only[qI,SV.keys]at h ⊢;exact qa x h
 | .part i o,h=>by
  simp only[qI]at h;by_cases hi:i=k
  ·subst hi;simp[SV.keys]at h
  ·have:(i == k)=false:=by simp[hi]
   simp only[this,cond_false,SV.keys,List.mem_singleton]at h ⊢;exact⟨h,h ▸ hi⟩
 |.fn f a c,h=>by
  simp only[qI,SV.keys,List.mem_append]at h ⊢;rcases h with h|h
  ·exact⟨.inl (hJ a h).1,(hJ a h).2⟩
  ·exact⟨.inr (hJ c h).1,(hJ c h).2⟩
theorem hJ{k:Nat}{u:Value}{j:Nat}:∀ l:List SV,j∈aw (vo k u l)->j∈aw l/\j≠k
 |[],h=>by simp[vo,aw]at h
 |x::r,h=>by
  simp only[vo,aw,List.mem_append]at h ⊢;rcases h with h|h
  ·exact⟨.inl (qa x h).1,(qa x h).2⟩
  ·exact⟨.inr (hJ r h).1,(hJ r h).2⟩
end
def sbV(k:Nat)(u:Value):FV->FV
 |.is x=>.is (qI k u x)
 |.cnd b x=>.cnd b (qI k u x)
 |.any=>.any
def sbE(k:Nat)(u:Value):aT->aT
 |.cells T vs=>.cells T (vo k u vs)
 |.row T s n vs=>.row T s n (vo k u vs)
 |.obj d R=>.obj d R
def UX(k:Nat)(u:Value)(φ:Fr):Fr:=λt=>sbV k u (φ t)
def QG(k:Nat)(u:Value)(h:Hp):Hp:=λj=>bif j == k then none else (h j).map (sbE k u)
theorem Wx{E:Nat->Value}{k:Nat}{f:FV}{u:Value}(h:fits E f u):fits E (sbV k (E k) f) u:=by
 cases f with
 |is x=>simpa [sbV,fits,ye] using h
 |cnd b x=>simpa [sbV,fits,ye] using h
 |any=>trivial
theorem Zr{k:Nat}{u:Value}{f:FV}{j:Nat}(h:j∈(sbV k u f).keys):j∈f.keys/\j≠k:=by
 cases f with
 |is x=>exact qa x h
 |cnd b x=>
  cases b with
  |false=>cases h
  |true=>exact qa x h
 |any=>cases h
theorem aee{E:Nat->Value}{k:Nat}{e:aT}{u:Value}{fp:List Nat}{w:World}(h:a6 E u fp w e):a6 E u fp w (sbE k (E k) e):=by
 cases e with
 |cells T vs=>simpa [sbE,a6,lE] using h
 |row T s n vs=>simpa [sbE,a6,lE] using h
 |obj d R=>exact h
theorem X6{k:Nat}{u:Value}{e:aT}{j:Nat}(h:j∈(sbE k u e).keys):j∈e.keys/\j≠k:=by
 cases e with
 |cells T vs=>exact hJ vs h
 |row T s n vs=>exact hJ vs h
 |obj d R=>cases h
theorem mY{k:Nat}{u:Value}{h:Hp}{j:Nat}{e:aT}(hh:QG k u h j=some e):j≠k/\∃ e0,h j=some e0/\e=sbE k u e0:=by
 unfold QG at hh;by_cases hj:j=k
 ·subst hj;simp at hh
 ·have:(j == k)=false:=by simp[hj]
  rw[this,cond_false,Option.map_eq_some_iff]at hh;obtain⟨e0,h1,h2⟩:=hh;exact⟨hj,e0,h1,h2.symm⟩
theorem Sat.Ih{W:World}{bs:List Nat}{nt:Nat}{ds:Aux}{σ:St}{a:Act}{w:World}(k:Nat)(hsat:Sat W bs nt ds σ a w) :
  ∃ E F bs',Ext W bs w bs' /\ ai W bs E F σ.h w/\(∀ e,σ.h k=some e->∀ b∈F k,b∉bs')/\Sat w bs' nt ds ⟨σ.n,UX k (E k) σ.φ,QG k (E k) σ.h⟩ a w:=by
 classical
 obtain⟨⟨E,F,hφ,hs,hp⟩,hsz,hdf,hpk,hfk,hhk⟩:=hsat;have hmem:∃ bs' : List Nat,∀ b,b∈bs' ↔ ∃ j e,j≠k/\σ.h j=some e/\b∈F j:=by
  refine⟨(List.range (8*σ.n)).flatMap λj=>if j=k\/σ.h j=none then [] else F j,λb=>?_⟩;rw[List.mem_flatMap];constructor
  ·rintro⟨j,_,hb⟩;split at hb
   ·cases hb
   ·rename_i hn;have h1:j≠k:=λe=>hn (.inl e)
    have h2:σ.h j≠none:=λe=>hn (.inr e)
    obtain⟨e,he⟩:=Option.ne_none_iff_exists'.1 h2;exact⟨j,e,h1,he,hb⟩
  ·rintro⟨j,e,hj,he,hb⟩;have:=(hhk j e he).1;refine⟨j,List.mem_range.2 oM,?_⟩;rw[if_neg (by rw[he];simp[hj])];exact hb
 obtain⟨bs',hmem⟩:=hmem;have hx:Ext W bs w bs' := ⟨hs.keeps,λb hb=>by
  obtain⟨j,e,_,he,hbj⟩:=(hmem b).1 hb
  exact hs.mine j e he b hbj⟩
 refine⟨E,F,bs',hx,hs,λe he b hb hb' => ?_,?_⟩
 ·obtain⟨j,e2,hj,he2,hbj⟩:=(hmem b).1 hb';exact hs.apart k j e e2 (Ne.symm hj) he he2 b hb hbj
 ·refine⟨⟨E,F,λt=>Wx (hφ t),⟨λj e he=>?_,λj e he b hb=>?_,λj e he b hb=>?_,λi j e e' hij hi hj b hb=>?_,ah.refl w _⟩,hp⟩,hsz,hdf,hpk,λt j hj=>hfk t j (Zr hj).1,λj e he=>?_⟩
  ·obtain⟨hj,e0,h1,rfl⟩:=mY he;exact aee (hs.ent j e0 h1)
  ·obtain⟨hj,e0,h1,rfl⟩:=mY he;exact hs.lt j e0 h1 b hb
  ·obtain⟨hj,e0,h1,rfl⟩:=mY he;exact .inr ((hmem b).2 ⟨j,e0,hj,h1,hb⟩)
  ·obtain⟨_,e0,h1,rfl⟩:=mY hi;obtain⟨_,e1,h2,rfl⟩:=mY hj;exact hs.apart i j e0 e1 hij h1 h2 b hb
  ·obtain⟨hj,e0,h1,rfl⟩:=mY he;exact⟨(hhk j e0 h1).1,λi hi=>(hhk j e0 h1).2 i (X6 hi).1⟩
def Kl(nt:Nat)(ds:Aux)(X:World->List Nat->St->Prop):Prop:=∀ W bs σ,(∀ a w,Sat W bs nt ds σ a w->∃ W' bs' σ',Ext W bs W' bs' /\ X W' bs' σ' /\ Sat W' bs' nt ds σ' a w)->X W bs σ
theorem Wp.clo{P:Program}{nt:Nat}{ds:Aux}{c:Code}{Q:mb}:Kl nt ds (λW bs σ=>Wp P W bs nt ds c Q σ):=λW bs σ h a w hs=>by
 obtain⟨W',bs',σ',hx,hX,hs'⟩:=h a w hs;exact wp_mono (hX a w hs') λe' a' w' hh' => qH hx hh'
def Pw(nt:Nat)(ds:Aux)(W:World)(bs:List Nat)(σ:St)(Q:World->List Nat->St->Prop):Prop:=
 ∀ a w,Sat W bs nt ds σ a w->∃ W' bs' σ',Ext W bs W' bs' /\ Q W' bs' σ' /\ Sat W' bs' nt ds σ' a w
theorem Pw.clo{nt:Nat}{ds:Aux}{Q:World->List Nat->St->Prop}:Kl nt ds (λW bs σ=>Pw nt ds W bs σ Q):=λW bs σ h a w hs=>by
 obtain⟨W',bs',σ',hx,hX,hs'⟩:=h a w hs;obtain⟨W2,bs2,σ2,hx2,hq,hs2⟩:=hX a w hs';exact⟨W2,bs2,σ2,hx.trans hx2,hq,hs2⟩
theorem Pw.here{nt:Nat}{ds:Aux}{Q:World->List Nat->St->Prop}{W:World}{bs:List Nat}{σ:St}(h:Q W bs σ):Pw nt ds W bs σ Q:=λa w hs=>⟨W,bs,σ,Ext.refl W bs,h,hs⟩
def Mo(nt:Nat)(ds:Aux)(Q:mb):mb
 |.normal,W,bs,σ=>Pw nt ds W bs σ (Q .normal)
 |e,W,bs,σ=>Q e W bs σ
theorem fH{nt:Nat}{ds:Aux}{Q:mb}{W:World}{bs:List Nat}{σ:St}(h:Pw nt ds W bs σ (Q .normal)):Mo nt ds Q .normal W bs σ:=h
theorem Wp.more{P:Program}{W:World}{bs:List Nat}{nt:Nat}{ds:Aux}{c:Code}{Q:mb}{σ:St}(h:Wp P W bs nt ds c (Mo nt ds Q) σ):Wp P W bs nt ds c Q σ:=λa w hs=>
 wp_mono (h a w hs) λe a' w' ⟨W',bs',σ',he,hq,hs'⟩=>by
  cases e with
  |normal=>
   obtain⟨W2,bs2,σ2,hx2,hq2,hs2⟩:=hq a' w' hs';exact⟨W2,bs2,σ2,he.trans hx2,hq2,hs2⟩
  |_=>exact⟨W',bs',σ',he,hq,hs'⟩
section
variable {nt:Nat}{ds:Aux}{X:World->List Nat->St->Prop}{W:World}{bs:List Nat}{σ:St}
theorem Kl.Ih(hX:Kl nt ds X)(k:Nat)
  (h:∀ W' bs' E F,Ext W bs W' bs' -> ai W bs E F σ.h W' -> (∀ e,σ.h k=some e->∀ b∈F k,b∉bs')->X W' bs' ⟨σ.n,UX k (E k) σ.φ,QG k (E k) σ.h⟩):X W bs σ:=
 hX W bs σ λa w hs=>by
  obtain⟨E,F,bs',hx,hh,hb,hs'⟩:=hs.Ih k;exact⟨w,bs',_,hx,h w bs' E F hx hh hb,hs'⟩
end
structure FK where
 Φ:List Value->World->(Nat->Prop)->Prop
 mono:∀ {cs:List Value} {W:World} {S:Nat->Prop} {W' : World} {S' : Nat->Prop},cT W S W' S' -> Φ cs W S->Φ cs W' S'
def jk(G:Nat->Prop)(bs:List Nat):Nat->Prop:=λb=>G b/\b∉bs
theorem jk.out{G:Nat->Prop}{bs:List Nat}{b:Nat}(h:jk G bs b):Out bs b:=h.2
def Up(G:Nat->Prop)(W:World)(bs:List Nat):Prop:=∀ b,W.heap.size<=b\/b∈bs->G b
theorem Up.ext{G:Nat->Prop}{W W' : World}{bs bs' : List Nat}(h:Up G W bs)(hx:Ext W bs W' bs'):Up G W' bs' := λb hb=>
 hb.elim (λh1=>h b (.inl (Nat.le_trans hx.keeps.size h1))) λh1=>h b (hx.sub b h1)
theorem Up.true(W:World)(bs:List Nat):Up (λ_=>True) W bs:=λ_ _=>trivial
theorem Ext.Gw{G:Nat->Prop}{W W' : World}{bs bs' : List Nat}(h:Ext W bs W' bs'):cT W (jk G bs) W' (jk G bs'):=λb hb hs=>
 ⟨h.keeps.block b hb hs.2,hs.1,λhb' => (h.sub b hb').elim (λh1=>absurd h1 (Nat.not_le.2 hb)) hs.2⟩
def kB(G:Nat->Prop)(W:World)(bs:List Nat)(Φ:FK):List Value->Value->List Nat->World->Prop:=λ_ u fp w=>
 (∀ b∈fp,G b)/\∃ cs,u=et cs/\∀ W₂ S₂,(∀ b,b<W.heap.size->jk G bs b->W₂.heap[b]?=W.heap[b]?/\S₂ b)->(∀ b∈fp,W₂.heap[b]?=w.heap[b]?/\S₂ b)->Φ.Φ cs W₂ S₂
section
variable {nt:Nat}{ds:Aux}{X:World->List Nat->St->Prop}{W:World}{bs:List Nat}{σ:St}
theorem Kl.ji(hX:Kl nt ds X)(k:Nat){G:Nat->Prop}{W0:World}{bs0:List Nat}{Φ:FK}(hk:σ.h k=some (.obj [] (kB G W0 bs0 Φ)))(h0:cT W0 (jk G bs0) W (jk G bs))
  (h:∀ W' bs' cs,Ext W bs W' bs' -> Φ.Φ cs W' (jk G bs')->X W' bs' ⟨σ.n,UX k (et cs) σ.φ,QG k (et cs) σ.h⟩):X W bs σ:=by
 refine hX.Ih k λW' bs' E F hx hs hb=>?_
 obtain⟨⟨⟨hG,cs,h1,h2⟩,_⟩,_⟩:=hs.ent k _ hk;rw[h1];refine h W' bs' cs hx (h2 W' (jk G bs') (λb hlt hr=>?_) λb hbk=>⟨rfl,hG b hbk,hb _ hk b hbk⟩);obtain⟨g1,g2⟩:=h0 b hlt hr;have hlt' : b<W.heap.size:=by
  by_cases hW:b<W.heap.size
  ·exact hW
  ·have:W.heap[b]?=none:=by simp;omega
   rw[this]at g1;have h3:W0.heap[b]?=some W0.heap[b]:=Array.getElem?_eq_getElem hlt;rw[h3]at g1;cases g1
 obtain⟨g3,g4⟩:=hx.Gw b hlt' g2;exact⟨g3.trans g1,g4⟩
theorem Kl.oC(hX:Kl nt ds X)(k:Nat){T:TypeId}{vs:List SV}{us:List Value}(hk:σ.h k=some (.cells T vs))(hv:∀ E,au E vs=us)
  (h:∀ W' bs' b,Ext W bs W' bs' -> b∉bs' -> (W.heap.size<=b\/b∈bs)->W'.heap[b]?=some (.cells us.toArray T (0,0))->X W' bs' ⟨σ.n,UX k (.pointer (some ⟨b,0,none⟩)) σ.φ,QG k (.pointer (some ⟨b,0,none⟩)) σ.h⟩):X W bs σ:=by
 refine hX.Ih k λW' bs' E F hx hs hb=>?_
 obtain⟨b,h1,h2,h3⟩:=hs.ent k _ hk;rw[h1];have hbF:b∈F k:=by rw[h2];simp
 exact h W' bs' b hx (hb _ hk b hbF) (hs.mine k _ hk b hbF) (by rw[h3,hv E])
theorem Kl.sM(hX:Kl nt ds X)(k:Nat){T:TypeId}{s n:Nat}{vs:List SV}{us:List Value}(hk:σ.h k=some (.row T s n vs))(hv:∀ E,au E vs=us)
  (h:∀ W' bs' ao c',Ext W bs W' bs' -> gJ W' (New W bs bs') ao us->n<=c' -> X W' bs' ⟨σ.n,UX k (.slice ao n c') σ.φ,QG k (.slice ao n c') σ.h⟩):X W bs σ:=by
 refine hX.Ih k λW' bs' E F hx hs hb=>?_
 obtain⟨ao,c',h1,h2,h3⟩:=O4 hs hk λb hbk=>hb _ hk b hbk
 rw[h1];rw[hv E]at h2;exact h W' bs' ao c' hx h2 h3
end
section
variable {P:Program}{W:World}{bs:List Nat}{nt:Nat}{ds:Aux}{c:Code}{Q:mb}{σ:St}
theorem Wp.ji(k:Nat){G:Nat->Prop}{W0:World}{bs0:List Nat}{Φ:FK}(hk:σ.h k=some (.obj [] (kB G W0 bs0 Φ)))(h0:cT W0 (jk G bs0) W (jk G bs))
  (h:∀ W' bs' cs,Ext W bs W' bs' -> Φ.Φ cs W' (jk G bs')->Wp P W' bs' nt ds c Q ⟨σ.n,UX k (et cs) σ.φ,QG k (et cs) σ.h⟩):Wp P W bs nt ds c Q σ:=
 Kl.ji Wp.clo k hk h0 h
theorem Wp.oC(k:Nat){T:TypeId}{vs:List SV}{us:List Value}(hk:σ.h k=some (.cells T vs))(hv:∀ E,au E vs=us)
  (h:∀ W' bs' b,Ext W bs W' bs' -> b∉bs' -> (W.heap.size<=b\/b∈bs)->W'.heap[b]?=some (.cells us.toArray T (0,0))->Wp P W' bs' nt ds c Q ⟨σ.n,UX k (.pointer (some ⟨b,0,none⟩)) σ.φ,QG k (.pointer (some ⟨b,0,none⟩)) σ.h⟩):Wp P W bs nt ds c Q σ:=
 Kl.oC Wp.clo k hk hv h
theorem Wp.sM(k:Nat){T:TypeId}{s n:Nat}{vs:List SV}{us:List Value}(hk:σ.h k=some (.row T s n vs))(hv:∀ E,au E vs=us)
  (h:∀ W' bs' ao c',Ext W bs W' bs' -> gJ W' (New W bs bs') ao us->n<=c' -> Wp P W' bs' nt ds c Q ⟨σ.n,UX k (.slice ao n c') σ.φ,QG k (.slice ao n c') σ.h⟩):Wp P W bs nt ds c Q σ:=
 Kl.sM Wp.clo k hk hv h
variable {R:World->List Nat->St->Prop}
theorem Pw.ji(k:Nat){G:Nat->Prop}{W0:World}{bs0:List Nat}{Φ:FK}(hk:σ.h k=some (.obj [] (kB G W0 bs0 Φ)))(h0:cT W0 (jk G bs0) W (jk G bs))
  (h:∀ W' bs' cs,Ext W bs W' bs' -> Φ.Φ cs W' (jk G bs')->Pw nt ds W' bs' ⟨σ.n,UX k (et cs) σ.φ,QG k (et cs) σ.h⟩ R):Pw nt ds W bs σ R:=
 Kl.ji Pw.clo k hk h0 h
theorem Pw.oC(k:Nat){T:TypeId}{vs:List SV}{us:List Value}(hk:σ.h k=some (.cells T vs))(hv:∀ E,au E vs=us)
  (h:∀ W' bs' b,Ext W bs W' bs' -> b∉bs' -> (W.heap.size<=b\/b∈bs)->W'.heap[b]?=some (.cells us.toArray T (0,0))->Pw nt ds W' bs' ⟨σ.n,UX k (.pointer (some ⟨b,0,none⟩)) σ.φ,QG k (.pointer (some ⟨b,0,none⟩)) σ.h⟩ R):Pw nt ds W bs σ R:=
 Kl.oC Pw.clo k hk hv h
theorem Pw.sM(k:Nat){T:TypeId}{s n:Nat}{vs:List SV}{us:List Value}(hk:σ.h k=some (.row T s n vs))(hv:∀ E,au E vs=us)
  (h:∀ W' bs' ao c',Ext W bs W' bs' -> gJ W' (New W bs bs') ao us->n<=c' -> Pw nt ds W' bs' ⟨σ.n,UX k (.slice ao n c') σ.φ,QG k (.slice ao n c') σ.h⟩ R):Pw nt ds W bs σ R:=
 Kl.sM Pw.clo k hk hv h
end
theorem cell_of{W:World}{b:Nat}{us:List Value}{T:TypeId}(h:W.heap[b]?=some (.cells us.toArray T (0,0)))(j:Nat)(hj:j<us.length):W.cell? ⟨b,j,none⟩=some us[j]:=by
 simp only[World.cell?,h];simp[List.getElem?_eq_getElem hj]
theorem abx(k:Nat)(u:Value)(φ:Fr)(t:Nat):UX k u φ t=sbV k u (φ t):=rfl
theorem adG(k:Nat)(u:Value)(h:Hp)(j:Nat):QG k u h j=bif j == k then none else (h j).map (sbE k u):=rfl
theorem aic(k:Nat)(u:Value)(x:SV):sbV k u (.is x)=.is (qI k u x):=rfl
theorem adD(k:Nat)(u:Value)(b:Bool)(x:SV):sbV k u (.cnd b x)=.cnd b (qI k u x):=rfl
theorem aeL(k:Nat)(u:Value):sbV k u .any=.any:=rfl
theorem T8(k:Nat)(u:Value)(T:TypeId)(vs:List SV):sbE k u (.cells T vs)=.cells T (vo k u vs):=rfl
theorem ack(k:Nat)(u:Value)(T:TypeId)(s n:Nat)(vs:List SV):sbE k u (.row T s n vs)=.row T s n (vo k u vs):=rfl
theorem afJ(k:Nat)(u:Value)(d:List Value)(R:List Value->Value->List Nat->World->Prop):sbE k u (.obj d R)=.obj d R:=rfl
theorem alI(k:Nat)(u x:Value):qI k u (.v x)=.v x:=rfl
theorem ac0(k:Nat)(u:Value)(j o:Nat):qI k u (.own j o)=bif j == k then .v (di (base u) o) else .own j o:=rfl
theorem ah9(k:Nat)(u:Value)(j:Nat):qI k u (.hd j)=bif j == k then .v (hv u) else .hd j:=rfl
theorem aak(k:Nat)(u:Value)(j i:Nat):qI k u (.part j i)=bif j == k then .v (hv (HJ u i)) else .part j i:=rfl
theorem agd(k:Nat)(u:Value)(l:List SV):qI k u (.agg l)=.agg (vo k u l):=rfl
theorem ag9(k:Nat)(u:Value)(l:List SV):qI k u (.tup l)=.tup (vo k u l):=rfl
theorem ac6(k:Nat)(u:Value)(t:TypeId)(x:SV):qI k u (.ifc t x)=.ifc t (qI k u x):=rfl
theorem ajw(k:Nat)(u:Value)(f:Fn)(a c:List SV):qI k u (.fn f a c)=.fn f (vo k u a) (vo k u c):=rfl
theorem adh(k:Nat)(u:Value):vo k u []=[]:=rfl
theorem VW(k:Nat)(u:Value)(x:SV)(r:List SV):vo k u (x::r)=qI k u x::vo k u r:=rfl
theorem Yd(k:Nat)(u:Value)(l:List Value):vo k u (l.map .v)=l.map .v:=by
 induction l with
 |nil=>rfl
 |cons x r ih=>simp[vo,qI,ih]
theorem KC(k:Nat)(u:Value)(a b:List SV):vo k u (a++b)=vo k u a++vo k u b:=by
 induction a with
 |nil=>rfl
 |cons x r ih=>simp[vo,ih]
theorem aiv(k:IntKind)(n:Int):hv (.int k n)=.int k n:=rfl
theorem af0(b:Bool):hv (.bool b)=.bool b:=rfl
theorem ajI(s:ByteArray):hv (.string s)=.string s:=rfl
theorem agT(f:Fn)(a c:Array Value):hv (.func f a c)=.func f a c:=rfl
theorem VS(ao:Option Addr)(n c:Nat):hv (.slice ao n c)=.slice ao n c:=rfl
theorem ajb(a:Option Addr):hv (.pointer a)=.pointer a:=rfl
theorem Yr(t:TypeId)(x:Value):hv (.iface t x)=.iface t x:=rfl
theorem VG(a:Addr):base (.pointer (some a))=some a:=rfl
theorem Oa(a:Addr)(n c:Nat):base (.slice (some a) n c)=some a:=rfl
theorem MU(a:Addr)(o:Nat):di (some a) o=.pointer (some ⟨a.block,a.off+o,none⟩):=rfl
def amP:=aa @abx <| aa @adG <| aa @aic <| aa @adD <| aa @aeL <| aa @T8 <| aa @ack <| aa @afJ <| aa @alI <| aa @ac0 <| aa @ah9 <| aa @aak <| aa @agd <| aa @ag9 <| aa @ac6 <| aa @ajw <| aa @adh <| aa @VW <| aa @Yd <| aa @KC <| aa @aiv <| aa @af0 <| aa @ajI <| aa @agT <| aa @VS <| aa @ajb <| aa @Yr <| aa @VG <| aa @Oa <| aa @MU @Fs
end
end Go.LE
