/-
 Part 3 of the proof (packed).
-/
import Derived.Test.YtnemkecffmdlnaaGreatDoorV2
import Derived.Shelf.LaysM
import Derived.Shelf.Strconv.Itoa3
import Derived.Test.YtnemkecffmdlnaaGreatDoorProg
import Derived.Lib.Bytealg
set_option linter.unusedSimpArgs false
set_option linter.unusedVariables false
set_option linter.defProp false
set_option maxHeartbeats 16000000
namespace Go.LE
section
open Go.RowKit
mutual
def sS(k:Nat)(u:Value):SV->SV
 |.v x=>.v x
 |.own j o=>bif j == k then .v (df (base u) o) else .own j o
 |.hd j=>bif j == k then .v (hv u) else .hd j
 |.agg l=>.agg (vC k u l)
 |.tup l=>.tup (vC k u l)
 |.mU t x=>.mU t (sS k u x)
 |.part j i=>bif j == k then .v (hv (Kr u i)) else .part j i
 |.fn f a c=>.fn f (vC k u a) (vC k u c)
def vC(k:Nat)(u:Value):List SV->List SV
 |[]=>[]
 |x::r=>sS k u x::vC k u r
end
mutual
theorem zL{E:Nat->Value}{k:Nat}:∀ x:SV,den E (sS k (E k) x)=den E x
 |.v x=>rfl
 | .own j o=>by
  simp only[sS];by_cases hj:j=k
  ·subst hj;simp[den]
  ·have:(j == k)=false:=by simp[hj]
   simp[this]
 | .hd j=>by
  simp only[sS];by_cases hj:j=k
  ·subst hj;simp[den]
  ·have:(j == k)=false:=by simp[hj]
   simp[this]
 |.agg l=>by simp only[sS,den];rw[kv l]
 |.tup l=>by simp only[sS,den];rw[kv l]
 |.mU t x=>by simp only[sS,den];rw[zL x]
 | .part j i=>by
  simp only[sS];by_cases hj:j=k
  ·subst hj;simp[den]
  ·have:(j == k)=false:=by simp[hj]
   simp[this]
 |.fn f a c=>by simp only[sS,den];rw[kv a,kv c]
theorem kv{E:Nat->Value}{k:Nat}:∀ l:List SV,aj E (vC k (E k) l)=aj E l
 |[]=>rfl
 |x::r=>by simp only[vC,aj];rw[zL x,kv r]
end
mutual
theorem rE{k:Nat}{u:Value}{j:Nat}:∀ x:SV,j∈(sS k u x).keys->j∈x.keys/\j≠k
 |.v x,h=>by simp[sS,SV.keys]at h
 | .own i o,h=>by
  simp only[sS]at h;by_cases hi:i=k
  ·subst hi;simp[SV.keys]at h
  ·have:(i == k)=false:=by simp[hi]
   simp only[this,cond_false,SV.keys,List.mem_singleton]at h ⊢;exact⟨h,h ▸ hi⟩
 | .hd i,h=>by
  simp only[sS]at h;by_cases hi:i=k
  ·subst hi;simp[SV.keys]at h
  ·have:(i == k)=false:=by simp[hi]
   simp only[this,cond_false,SV.keys,List.mem_singleton]at h ⊢;exact⟨h,h ▸ hi⟩
 |.agg l,h=>by simp only[sS,SV.keys]at h ⊢;exact gj l h
 |.tup l,h=>by simp only[sS,SV.keys]at h ⊢;exact gj l h
 |.mU t x,h=>by simp only[sS,SV.keys]at h ⊢;exact rE x h
 | .part i o,h=>by
  simp only[sS]at h;by_cases hi:i=k
  ·subst hi;simp[SV.keys]at h
  ·have:(i == k)=false:=by simp[hi]
   simp only[this,cond_false,SV.keys,List.mem_singleton]at h ⊢;exact⟨h,h ▸ hi⟩
 |.fn f a c,h=>by
  simp only[sS,SV.keys,List.mem_append]at h ⊢;rcases h with h|h
  ·exact⟨.inl (gj a h).1,(gj a h).2⟩
  ·exact⟨.inr (gj c h).1,(gj c h).2⟩
theorem gj{k:Nat}{u:Value}{j:Nat}:∀ l:List SV,j∈ay (vC k u l)->j∈ay l/\j≠k
 |[],h=>by simp[vC,ay]at h
 |x::r,h=>by
  simp only[vC,ay,List.mem_append]at h ⊢;rcases h with h|h
  ·exact⟨.inl (rE x h).1,(rE x h).2⟩
  ·exact⟨.inr (gj r h).1,(gj r h).2⟩
end
def sbV(k:Nat)(u:Value):FV->FV
 |.is x=>.is (sS k u x)
 |.cnd b x=>.cnd b (sS k u x)
 |.any=>.any
def Wa(k:Nat)(u:Value):a6->a6
 |.cells T vs=>.cells T (vC k u vs)
 |.row T s n vs=>.row T s n (vC k u vs)
 |.mp ks vs=>.mp ks (vC k u vs)
 |.obj d R=>.obj d R
def Wb(k:Nat)(u:Value)(φ:Fr):Fr:=λt=>sbV k u (φ t)
def Rb(k:Nat)(u:Value)(h:Hp):Hp:=λj=>bif j == k then none else (h j).map (Wa k u)
theorem Zx{E:Nat->Value}{k:Nat}{f:FV}{u:Value}(h:fits E f u):fits E (sbV k (E k) f) u:=by
 cases f with
 |is x=>simpa [sbV,fits,zL] using h
 |cnd b x=>simpa [sbV,fits,zL] using h
 |any=>trivial
theorem Zy{k:Nat}{u:Value}{f:FV}{j:Nat}(h:j∈(sbV k u f).keys):j∈f.keys/\j≠k:=by
 cases f with
 |is x=>exact rE x h
 |cnd b x=>
  cases b with
  |false=>cases h
  |true=>exact rE x h
 |any=>cases h
theorem aeg{E:Nat->Value}{k:Nat}{e:a6}{u:Value}{fp:List Nat}{w:World}(h:bu E u fp w e):bu E u fp w (Wa k (E k) e):=by
 cases e with
 |cells T vs=>simpa [Wa,bu,kv] using h
 |row T s n vs=>simpa [Wa,bu,kv] using h
 |mp ks vs=>simpa [Wa,bu,kv] using h
 |obj d R=>exact h
theorem Zu{k:Nat}{u:Value}{e:a6}{j:Nat}(h:j∈(Wa k u e).keys):j∈e.keys/\j≠k:=by
 cases e with
 |cells T vs=>exact gj vs h
 |row T s n vs=>exact gj vs h
 |mp ks vs=>exact gj vs h
 |obj d R=>cases h
theorem oG{k:Nat}{u:Value}{h:Hp}{j:Nat}{e:a6}(hh:Rb k u h j=some e):j≠k/\∃ e0,h j=some e0/\e=Wa k u e0:=by
 unfold Rb at hh;by_cases hj:j=k
 ·subst hj;simp at hh
 ·have:(j == k)=false:=by simp[hj]
  rw[this,cond_false,Option.map_eq_some_iff]at hh;obtain⟨e0,h1,h2⟩:=hh;exact⟨hj,e0,h1,h2.symm⟩
theorem Sat.Lp{W:World}{bs:List Nat}{nt:Nat}{ds:Aux}{σ:St}{a:Act}{w:World}(k:Nat)(hsat:Sat W bs nt ds σ a w) :
  ∃ E F bs',Ext W bs w bs' /\ ak W bs E F σ.h w/\(∀ e,σ.h k=some e->∀ b∈F k,b∉bs')/\Sat w bs' nt ds ⟨σ.n,Wb k (E k) σ.φ,Rb k (E k) σ.h⟩ a w:=by
 classical
 obtain⟨⟨E,F,hφ,hs,hp⟩,hsz,hdf,hpk,hfk,hhk⟩:=hsat;have hmem:∃ bs' : List Nat,∀ b,b∈bs' ↔ ∃ j e,j≠k/\σ.h j=some e/\b∈F j:=by
  refine⟨(List.range (8*σ.n)).flatMap λj=>if j=k\/σ.h j=none then [] else F j,λb=>?_⟩;rw[List.mem_flatMap];constructor
  ·rintro⟨j,_,hb⟩;split at hb
   ·cases hb
   ·rename_i hn;have h1:j≠k:=λe=>hn (.inl e)
    have h2:σ.h j≠none:=λe=>hn (.inr e)
    obtain⟨e,he⟩:=Option.ne_none_iff_exists'.1 h2;exact⟨j,e,h1,he,hb⟩
  ·rintro⟨j,e,hj,he,hb⟩;have:=(hhk j e he).1;refine⟨j,List.mem_range.2 oM,?_⟩;rw[if_neg (by rw[he];simp[hj])];exact hb
 obtain⟨bs',hmem⟩:=hmem;have hx:Ext W bs w bs' := ⟨hs.keeps,λb hb=>by
  obtain⟨j,e,_,he,hbj⟩:=(hmem b).1 hb
  exact hs.mine j e he b hbj⟩
 refine⟨E,F,bs',hx,hs,λe he b hb hb' => ?_,?_⟩
 ·obtain⟨j,e2,hj,he2,hbj⟩:=(hmem b).1 hb';exact hs.apart k j e e2 (Ne.symm hj) he he2 b hb hbj
 ·refine⟨⟨E,F,λt=>Zx (hφ t),⟨λj e he=>?_,λj e he b hb=>?_,λj e he b hb=>?_,λi j e e' hij hi hj b hb=>?_,an.refl w _⟩,hp⟩,hsz,hdf,hpk,λt j hj=>hfk t j (Zy hj).1,λj e he=>?_⟩
  ·obtain⟨hj,e0,h1,rfl⟩:=oG he;exact aeg (hs.ent j e0 h1)
  ·obtain⟨hj,e0,h1,rfl⟩:=oG he;exact hs.lt j e0 h1 b hb
  ·obtain⟨hj,e0,h1,rfl⟩:=oG he;exact .inr ((hmem b).2 ⟨j,e0,hj,h1,hb⟩)
  ·obtain⟨_,e0,h1,rfl⟩:=oG hi;obtain⟨_,e1,h2,rfl⟩:=oG hj;exact hs.apart i j e0 e1 hij h1 h2 b hb
  ·obtain⟨hj,e0,h1,rfl⟩:=oG he;exact⟨(hhk j e0 h1).1,λi hi=>(hhk j e0 h1).2 i (Zu hi).1⟩
def Mq(nt:Nat)(ds:Aux)(X:World->List Nat->St->Prop):Prop:=∀ W bs σ,(∀ a w,Sat W bs nt ds σ a w->∃ W' bs' σ',Ext W bs W' bs' /\ X W' bs' σ' /\ Sat W' bs' nt ds σ' a w)->X W bs σ
theorem Wp.clo{P:Program}{nt:Nat}{ds:Aux}{c:Code}{Q:lE}:Mq nt ds (λW bs σ=>Wp P W bs nt ds c Q σ):=λW bs σ h a w hs=>by
 obtain⟨W',bs',σ',hx,hX,hs'⟩:=h a w hs;exact wp_mono (hX a w hs') λe' a' w' hh' => xQ hx hh'
def Pw(nt:Nat)(ds:Aux)(W:World)(bs:List Nat)(σ:St)(Q:World->List Nat->St->Prop):Prop:=
 ∀ a w,Sat W bs nt ds σ a w->∃ W' bs' σ',Ext W bs W' bs' /\ Q W' bs' σ' /\ Sat W' bs' nt ds σ' a w
theorem Pw.clo{nt:Nat}{ds:Aux}{Q:World->List Nat->St->Prop}:Mq nt ds (λW bs σ=>Pw nt ds W bs σ Q):=λW bs σ h a w hs=>by
 obtain⟨W',bs',σ',hx,hX,hs'⟩:=h a w hs;obtain⟨W2,bs2,σ2,hx2,hq,hs2⟩:=hX a w hs';exact⟨W2,bs2,σ2,hx.trans hx2,hq,hs2⟩
theorem Pw.here{nt:Nat}{ds:Aux}{Q:World->List Nat->St->Prop}{W:World}{bs:List Nat}{σ:St}(h:Q W bs σ):Pw nt ds W bs σ Q:=λa w hs=>⟨W,bs,σ,Ext.refl W bs,h,hs⟩
def Mo(nt:Nat)(ds:Aux)(Q:lE):lE
 |.normal,W,bs,σ=>Pw nt ds W bs σ (Q .normal)
 |e,W,bs,σ=>Q e W bs σ
theorem dd{nt:Nat}{ds:Aux}{Q:lE}{W:World}{bs:List Nat}{σ:St}(h:Pw nt ds W bs σ (Q .normal)):Mo nt ds Q .normal W bs σ:=h
theorem Wp.more{P:Program}{W:World}{bs:List Nat}{nt:Nat}{ds:Aux}{c:Code}{Q:lE}{σ:St}(h:Wp P W bs nt ds c (Mo nt ds Q) σ):Wp P W bs nt ds c Q σ:=λa w hs=>
 wp_mono (h a w hs) λe a' w' ⟨W',bs',σ',he,hq,hs'⟩=>by
  cases e with
  |normal=>
   obtain⟨W2,bs2,σ2,hx2,hq2,hs2⟩:=hq a' w' hs';exact⟨W2,bs2,σ2,he.trans hx2,hq2,hs2⟩
  |_=>exact⟨W',bs',σ',he,hq,hs'⟩
section
variable {nt:Nat}{ds:Aux}{X:World->List Nat->St->Prop}{W:World}{bs:List Nat}{σ:St}
theorem Mq.Lp(hX:Mq nt ds X)(k:Nat)
  (h:∀ W' bs' E F,Ext W bs W' bs' -> ak W bs E F σ.h W' -> (∀ e,σ.h k=some e->∀ b∈F k,b∉bs')->X W' bs' ⟨σ.n,Wb k (E k) σ.φ,Rb k (E k) σ.h⟩):X W bs σ:=
 hX W bs σ λa w hs=>by
  obtain⟨E,F,bs',hx,hh,hb,hs'⟩:=hs.Lp k;exact⟨w,bs',_,hx,h w bs' E F hx hh hb,hs'⟩
end
structure FK where
 Φ:List Value->World->(Nat->Prop)->Prop
 mono:∀ {cs:List Value} {W:World} {S:Nat->Prop} {W' : World} {S' : Nat->Prop},aX W S W' S' -> Φ cs W S->Φ cs W' S'
def bE(G:Nat->Prop)(bs:List Nat):Nat->Prop:=λb=>G b/\b∉bs
theorem bE.out{G:Nat->Prop}{bs:List Nat}{b:Nat}(h:bE G bs b):Out bs b:=h.2
def Up(G:Nat->Prop)(W:World)(bs:List Nat):Prop:=∀ b,W.heap.size<=b\/b∈bs->G b
theorem Up.ext{G:Nat->Prop}{W W' : World}{bs bs' : List Nat}(h:Up G W bs)(hx:Ext W bs W' bs'):Up G W' bs' := λb hb=>
 hb.elim (λh1=>h b (.inl (Nat.le_trans hx.keeps.size h1))) λh1=>h b (hx.sub b h1)
theorem Up.true(W:World)(bs:List Nat):Up (λ_=>True) W bs:=λ_ _=>trivial
theorem Ext.dN{G:Nat->Prop}{W W' : World}{bs bs' : List Nat}(h:Ext W bs W' bs'):aX W (bE G bs) W' (bE G bs'):=λb hb hs=>
 ⟨h.keeps.block b hb hs.2,hs.1,λhb' => (h.sub b hb').elim (λh1=>absurd h1 (Nat.not_le.2 hb)) hs.2⟩
def fX(G:Nat->Prop)(W:World)(bs:List Nat)(Φ:FK):List Value->Value->List Nat->World->Prop:=λ_ u fp w=>
 (∀ b∈fp,G b)/\∃ cs,u=dw cs/\∀ W₂ S₂,(∀ b,b<W.heap.size->bE G bs b->W₂.heap[b]?=W.heap[b]?/\S₂ b)->(∀ b∈fp,W₂.heap[b]?=w.heap[b]?/\S₂ b)->Φ.Φ cs W₂ S₂
section
variable {nt:Nat}{ds:Aux}{X:World->List Nat->St->Prop}{W:World}{bs:List Nat}{σ:St}
theorem Mq.cV(hX:Mq nt ds X)(k:Nat){G:Nat->Prop}{W0:World}{bs0:List Nat}{Φ:FK}(hk:σ.h k=some (.obj [] (fX G W0 bs0 Φ)))(h0:aX W0 (bE G bs0) W (bE G bs))
  (h:∀ W' bs' cs,Ext W bs W' bs' -> Φ.Φ cs W' (bE G bs')->X W' bs' ⟨σ.n,Wb k (dw cs) σ.φ,Rb k (dw cs) σ.h⟩):X W bs σ:=by
 refine hX.Lp k λW' bs' E F hx hs hb=>?_
 obtain⟨⟨⟨hG,cs,h1,h2⟩,_⟩,_⟩:=hs.ent k _ hk;rw[h1];refine h W' bs' cs hx (h2 W' (bE G bs') (λb hlt hr=>?_) λb hbk=>⟨rfl,hG b hbk,hb _ hk b hbk⟩);obtain⟨g1,g2⟩:=h0 b hlt hr;have hlt' : b<W.heap.size:=by
  by_cases hW:b<W.heap.size
  ·exact hW
  ·have:W.heap[b]?=none:=by simp;omega
   rw[this]at g1;have h3:W0.heap[b]?=some W0.heap[b]:=Array.getElem?_eq_getElem hlt;rw[h3]at g1;cases g1
 obtain⟨g3,g4⟩:=hx.dN b hlt' g2;exact⟨g3.trans g1,g4⟩
theorem Mq.cR(hX:Mq nt ds X)(k:Nat){T:TypeId}{vs:List SV}{us:List Value}(hk:σ.h k=some (.cells T vs))(hv:∀ E,aj E vs=us)
  (h:∀ W' bs' b,Ext W bs W' bs' -> b∉bs' -> (W.heap.size<=b\/b∈bs)->W'.heap[b]?=some (.cells us.toArray T (0,0))->X W' bs' ⟨σ.n,Wb k (.pointer (some ⟨b,0,none⟩)) σ.φ,Rb k (.pointer (some ⟨b,0,none⟩)) σ.h⟩):X W bs σ:=by
 refine hX.Lp k λW' bs' E F hx hs hb=>?_
 obtain⟨b,h1,h2,h3⟩:=hs.ent k _ hk;rw[h1];have hbF:b∈F k:=by rw[h2];simp
 exact h W' bs' b hx (hb _ hk b hbF) (hs.mine k _ hk b hbF) (by rw[h3,hv E])
theorem Mq.zk(hX:Mq nt ds X)(k:Nat){T:TypeId}{s n:Nat}{vs:List SV}{us:List Value}(hk:σ.h k=some (.row T s n vs))(hv:∀ E,aj E vs=us)
  (h:∀ W' bs' ao c',Ext W bs W' bs' -> jC W' (New W bs bs') ao us->n<=c' -> X W' bs' ⟨σ.n,Wb k (.slice ao n c') σ.φ,Rb k (.slice ao n c') σ.h⟩):X W bs σ:=by
 refine hX.Lp k λW' bs' E F hx hs hb=>?_
 obtain⟨ao,c',h1,h2,h3⟩:=aec hs hk λb hbk=>hb _ hk b hbk
 rw[h1];rw[hv E]at h2;exact h W' bs' ao c' hx h2 h3
end
section
variable {P:Program}{W:World}{bs:List Nat}{nt:Nat}{ds:Aux}{c:Code}{Q:lE}{σ:St}
theorem Wp.cV(k:Nat){G:Nat->Prop}{W0:World}{bs0:List Nat}{Φ:FK}(hk:σ.h k=some (.obj [] (fX G W0 bs0 Φ)))(h0:aX W0 (bE G bs0) W (bE G bs))
  (h:∀ W' bs' cs,Ext W bs W' bs' -> Φ.Φ cs W' (bE G bs')->Wp P W' bs' nt ds c Q ⟨σ.n,Wb k (dw cs) σ.φ,Rb k (dw cs) σ.h⟩):Wp P W bs nt ds c Q σ:=
 Mq.cV Wp.clo k hk h0 h
theorem Wp.cR(k:Nat){T:TypeId}{vs:List SV}{us:List Value}(hk:σ.h k=some (.cells T vs))(hv:∀ E,aj E vs=us)
  (h:∀ W' bs' b,Ext W bs W' bs' -> b∉bs' -> (W.heap.size<=b\/b∈bs)->W'.heap[b]?=some (.cells us.toArray T (0,0))->Wp P W' bs' nt ds c Q ⟨σ.n,Wb k (.pointer (some ⟨b,0,none⟩)) σ.φ,Rb k (.pointer (some ⟨b,0,none⟩)) σ.h⟩):Wp P W bs nt ds c Q σ:=
 Mq.cR Wp.clo k hk hv h
theorem Wp.zk(k:Nat){T:TypeId}{s n:Nat}{vs:List SV}{us:List Value}(hk:σ.h k=some (.row T s n vs))(hv:∀ E,aj E vs=us)
  (h:∀ W' bs' ao c',Ext W bs W' bs' -> jC W' (New W bs bs') ao us->n<=c' -> Wp P W' bs' nt ds c Q ⟨σ.n,Wb k (.slice ao n c') σ.φ,Rb k (.slice ao n c') σ.h⟩):Wp P W bs nt ds c Q σ:=
 Mq.zk Wp.clo k hk hv h
variable {R:World->List Nat->St->Prop}
theorem Pw.cV(k:Nat){G:Nat->Prop}{W0:World}{bs0:List Nat}{Φ:FK}(hk:σ.h k=some (.obj [] (fX G W0 bs0 Φ)))(h0:aX W0 (bE G bs0) W (bE G bs))
  (h:∀ W' bs' cs,Ext W bs W' bs' -> Φ.Φ cs W' (bE G bs')->Pw nt ds W' bs' ⟨σ.n,Wb k (dw cs) σ.φ,Rb k (dw cs) σ.h⟩ R):Pw nt ds W bs σ R:=
 Mq.cV Pw.clo k hk h0 h
theorem Pw.cR(k:Nat){T:TypeId}{vs:List SV}{us:List Value}(hk:σ.h k=some (.cells T vs))(hv:∀ E,aj E vs=us)
  (h:∀ W' bs' b,Ext W bs W' bs' -> b∉bs' -> (W.heap.size<=b\/b∈bs)->W'.heap[b]?=some (.cells us.toArray T (0,0))->Pw nt ds W' bs' ⟨σ.n,Wb k (.pointer (some ⟨b,0,none⟩)) σ.φ,Rb k (.pointer (some ⟨b,0,none⟩)) σ.h⟩ R):Pw nt ds W bs σ R:=
 Mq.cR Pw.clo k hk hv h
theorem Pw.zk(k:Nat){T:TypeId}{s n:Nat}{vs:List SV}{us:List Value}(hk:σ.h k=some (.row T s n vs))(hv:∀ E,aj E vs=us)
  (h:∀ W' bs' ao c',Ext W bs W' bs' -> jC W' (New W bs bs') ao us->n<=c' -> Pw nt ds W' bs' ⟨σ.n,Wb k (.slice ao n c') σ.φ,Rb k (.slice ao n c') σ.h⟩ R):Pw nt ds W bs σ R:=
 Mq.zk Pw.clo k hk hv h
end
theorem cell_of{W:World}{b:Nat}{us:List Value}{T:TypeId}(h:W.heap[b]?=some (.cells us.toArray T (0,0)))(j:Nat)(hj:j<us.length):W.cell? ⟨b,j,none⟩=some us[j]:=by
 simp only[World.cell?,h];simp[List.getElem?_eq_getElem hj]
theorem aeh(k:Nat)(u:Value)(φ:Fr)(t:Nat):Wb k u φ t=sbV k u (φ t):=rfl
theorem aei(k:Nat)(u:Value)(h:Hp)(j:Nat):Rb k u h j=bif j == k then none else (h j).map (Wa k u):=rfl
theorem ai6(k:Nat)(u:Value)(x:SV):sbV k u (.is x)=.is (sS k u x):=rfl
theorem aeq(k:Nat)(u:Value)(b:Bool)(x:SV):sbV k u (.cnd b x)=.cnd b (sS k u x):=rfl
theorem aep(k:Nat)(u:Value):sbV k u .any=.any:=rfl
theorem UU(k:Nat)(u:Value)(T:TypeId)(vs:List SV):Wa k u (.cells T vs)=.cells T (vC k u vs):=rfl
theorem aef(k:Nat)(u:Value)(T:TypeId)(s n:Nat)(vs:List SV):Wa k u (.row T s n vs)=.row T s n (vC k u vs):=rfl
theorem aee(k:Nat)(u:Value)(d:List Value)(R:List Value->Value->List Nat->World->Prop):Wa k u (.obj d R)=.obj d R:=rfl
theorem akI(k:Nat)(u x:Value):sS k u (.v x)=.v x:=rfl
theorem aem(k:Nat)(u:Value)(j o:Nat):sS k u (.own j o)=bif j == k then .v (df (base u) o) else .own j o:=rfl
theorem ai5(k:Nat)(u:Value)(j:Nat):sS k u (.hd j)=bif j == k then .v (hv u) else .hd j:=rfl
theorem Zw(k:Nat)(u:Value)(j i:Nat):sS k u (.part j i)=bif j == k then .v (hv (Kr u i)) else .part j i:=rfl
theorem aek(k:Nat)(u:Value)(l:List SV):sS k u (.agg l)=.agg (vC k u l):=rfl
theorem aen(k:Nat)(u:Value)(l:List SV):sS k u (.tup l)=.tup (vC k u l):=rfl
theorem ael(k:Nat)(u:Value)(t:TypeId)(x:SV):sS k u (.mU t x)=.mU t (sS k u x):=rfl
theorem ai4(k:Nat)(u:Value)(f:Fn)(a c:List SV):sS k u (.fn f a c)=.fn f (vC k u a) (vC k u c):=rfl
theorem aej(k:Nat)(u:Value):vC k u []=[]:=rfl
theorem Zv(k:Nat)(u:Value)(x:SV)(r:List SV):vC k u (x::r)=sS k u x::vC k u r:=rfl
theorem cI(k:Nat)(u:Value)(l:List Value):vC k u (l.map .v)=l.map .v:=by
 induction l with
 |nil=>rfl
 |cons x r ih=>simp[vC,sS,ih]
theorem OA(k:Nat)(u:Value)(a b:List SV):vC k u (a++b)=vC k u a++vC k u b:=by
 induction a with
 |nil=>rfl
 |cons x r ih=>simp[vC,ih]
theorem aiz(k:IntKind)(n:Int):hv (.int k n)=.int k n:=rfl
theorem adn(b:Bool):hv (.bool b)=.bool b:=rfl
theorem aiB(s:ByteArray):hv (.string s)=.string s:=rfl
theorem ado(f:Fn)(a c:Array Value):hv (.func f a c)=.func f a c:=rfl
theorem XP(ao:Option Addr)(n c:Nat):hv (.slice ao n c)=.slice ao n c:=rfl
theorem aiA(a:Option Addr):hv (.pointer a)=.pointer a:=rfl
theorem XO(t:TypeId)(x:Value):hv (.iface t x)=.iface t x:=rfl
theorem WD(a:Addr):base (.pointer (some a))=some a:=rfl
theorem MK(a:Addr)(n c:Nat):base (.slice (some a) n c)=some a:=rfl
theorem Og(a:Addr)(o:Nat):df (some a) o=.pointer (some ⟨a.block,a.off+o,none⟩):=rfl
def alw:=aa @aeh <| aa @aei <| aa @ai6 <| aa @aeq <| aa @aep <| aa @UU <| aa @aef <| aa @aee <| aa @akI <| aa @aem <| aa @ai5 <| aa @Zw <| aa @aek <| aa @aen <| aa @ael <| aa @ai4 <| aa @aej <| aa @Zv <| aa @cI <| aa @OA <| aa @aiz <| aa @adn <| aa @aiB <| aa @ado <| aa @XP <| aa @aiA <| aa @XO <| aa @WD <| aa @MK <| aa @Og @GL
end
section
open Go.RowKit
structure Sh where
 tm:Nat->SV
 g:∀ E k,den E (tm k)=den (λ_=>E k) (tm 0)
 k:∀ k,∀ j∈(tm k).keys,j=k
def Sh.val(s:Sh)(cs:List Value):Value:=den (λ_=>dw cs) (s.tm 0)
def Sh.one:Sh:=⟨λk=>.part k 0,λ_ _=>rfl,λk j hj=>by simpa [SV.keys] using hj⟩
def Sh.two:Sh:=⟨λk=>.agg [.part k 0,.part k 1],λ_ _=>rfl,λk j hj=>by simpa [SV.keys,ay] using hj⟩
abbrev Kd:=Option (Sh×FK)
def yQ:Option Value->Option (List Value)->Option (List Value)
 |some v,some vs=>some (v::vs)
 |_,_=>none
def func2(f:Fn):Option (List Value)->Option (List Value)->Option Value
 |some a,some c=>some (.func f a.toArray c.toArray)
 |_,_=>none
mutual
def cG:SV->Option Value
 |.v x=>some x
 |.agg l=>(gP l).map λvs=>.agg vs.toArray
 |.mU t x=>(cG x).map (.iface t)
 |.fn f a c=>func2 f (gP a) (gP c)
 |_=>none
def gP:List SV->Option (List Value)
 |[]=>some []
 |x::r=>yQ (cG x) (gP r)
end
mutual
theorem oY{E:Nat->Value}:∀ {x:SV} {v:Value},cG x=some v->den E x=v
 |.v x,v,h=>by simp only[cG,Option.some.injEq]at h;exact h
 |.own _ _,v,h=>by simp[cG]at h
 |.hd _,v,h=>by simp[cG]at h
 |.part _ _,v,h=>by simp[cG]at h
 |.tup _,v,h=>by simp[cG]at h
 |.agg l,v,h=>by
  simp only[cG,Option.map_eq_some_iff]at h;obtain⟨vs,h1,rfl⟩:=h;simp only[den,oX h1]
 |.mU t x,v,h=>by
  simp only[cG,Option.map_eq_some_iff]at h;obtain⟨y,h1,rfl⟩:=h;simp only[den,oY h1]
 | .fn f a c,v,h=>by
  simp only[cG]at h;cases h1:gP a with
  |none=>rw[h1]at h;simp[func2]at h
  | some a' =>
   cases h2:gP c with
   |none=>rw[h1,h2]at h;simp[func2]at h
   |some c' =>
    rw[h1,h2]at h;simp only[func2,Option.some.injEq]at h;subst h;simp only[den,oX h1,oX h2]
theorem oX{E:Nat->Value}:∀ {l:List SV} {vs:List Value},gP l=some vs->aj E l=vs
 |[],vs,h=>by simp only[gP,Option.some.injEq]at h;subst h;rfl
 | x::r,vs,h=>by
  simp only[gP]at h;cases h1:cG x with
  |none=>rw[h1]at h;simp[yQ]at h
  | some v' =>
   cases h2:gP r with
   |none=>rw[h1,h2]at h;simp[yQ]at h
   |some vs' =>
    rw[h1,h2]at h;simp only[yQ,Option.some.injEq]at h;subst h;simp only[aj,oY h1,oX h2]
end
def lI:SV->Option Nat
 |.part k _=>some k
 |.agg (.part k _::_)=>some k
 |_=>none
structure GV1 where
 p:Prop
 a:AV
 rs:List Nat
 cs:List Nat
structure GVL where
 p:Prop
 as_:List AV
 rs:List Nat
 cs:List Nat
def ait:Option (AV×List Nat)->GV1
 |some (a,r)=>⟨True,a,r,[]⟩
 |none=>⟨False,.val undef,[],[]⟩
def gvO(G:Nat->Prop)(W:World)(bs:List Nat)(sh:Sh)(Φ:FK)(x:SV)(k:Nat):Option a6->GV1
 |some (.obj d R)=>⟨x=sh.tm k/\d=[]/\R=fX G W bs Φ,.val undef,[k],[k]⟩
 |_=>⟨False,.val undef,[],[]⟩
def gvF(G:Nat->Prop)(W:World)(bs:List Nat)(h:Hp)(sh:Sh)(Φ:FK)(x:SV):Option Value->Option Nat->GV1
 |some v,_=>⟨∃ cs,v=sh.val cs/\Φ.Φ cs W (bE G bs),.val undef,[],[]⟩
 |none,some k=>gvO G W bs sh Φ x k (h k)
 |none,none=>⟨False,.val undef,[],[]⟩
def DB(G:Nat->Prop)(W:World)(bs:List Nat)(h:Hp):Kd->SV->GV1
 |none,x=>ait (bK h x)
 |some (sh,Φ),x=>gvF G W bs h sh Φ x (cG x) (lI x)
def gvC(a:GV1)(l:GVL):GVL:=⟨a.p/\l.p,a.a::l.as_,a.rs++l.rs,a.cs++l.cs⟩
def mD(G:Nat->Prop)(W:World)(bs:List Nat)(h:Hp):List Kd->List SV->GVL
 |[],[]=>⟨True,[],[],[]⟩
 |kd::ks,x::r=>gvC (DB G W bs h kd x) (mD G W bs h ks r)
 |_,_=>⟨False,[],[],[]⟩
def AP(w:World)(S:Nat->Prop):List Kd->List Value->List AV->Prop
 |[],[],[]=>True
 |none::ks,u::us,a::as_=>s8 w u a/\AP w S ks us as_
 |some (sh,Φ)::ks,u::us,_::as_=>(∃ cs,u=sh.val cs/\Φ.Φ cs w S)/\AP w S ks us as_
 |_,_,_=>False
section
variable {P:Program}{W:World}{bs:List Nat}{κ:Nat}{E:Nat->Value}{F:Nat->List Nat}{h:Nat->Option a6}{w:World}{K:Nat->Prop}{G:Nat->Prop}
def NA(w:World)(S:Nat->Prop)(u:Value)(a:AV):Kd->Prop
 |none=>s8 w u a
 |some (sh,Φ)=>∃ cs,u=sh.val cs/\Φ.Φ cs w S
theorem adh(hs:ak W bs E F h w){S:Nat->Prop}(hS:∀ b,b<W.heap.size->bE G bs b->S b){kd:Kd}{x:SV}(hp:(DB G W bs h kd x).p)(hc:∀ k∈(DB G W bs h kd x).cs,∀ b∈F k,S b) :
  NA w S (den E x) (DB G W bs h kd x).a kd:=by
 match kd with
 |none=>
  simp only[DB,NA]at hp ⊢;cases hv:bK h x with
  |none=>rw[hv]at hp;exact hp.elim
  |some q=>obtain⟨a,r⟩:=q;exact FB hs hv
 | some (sh,Φ)=>
  simp only[DB,NA]at hp hc ⊢;cases hv:cG x with
  |some v=>
   rw[hv]at hp;obtain⟨cs,h1,h2⟩:=hp;exact⟨cs,by rw[oY hv,h1],Φ.mono (λb hb hr=>⟨hs.keeps.block b hb hr.2,hS b hb hr⟩) h2⟩
  | none=>
   rw[hv]at hp hc;cases hk:lI x with
   |none=>rw[hk]at hp;exact hp.elim
   | some k=>
    rw[hk]at hp hc;simp only[gvF]at hp hc;cases hkk:h k with
    |none=>rw[hkk]at hp;exact hp.elim
    | some e=>
     rw[hkk]at hp hc;cases e with
     |cells T vs=>exact hp.elim
     |row T s n vs=>exact hp.elim
     |mp ks vs=>exact hp.elim
     |obj d R=>
      obtain⟨hx,rfl,rfl⟩:=hp;obtain⟨⟨⟨hG,cs,h1,h2⟩,_⟩,_⟩:=hs.ent k _ hkk;refine⟨cs,?_,h2 w S (λb hb hr=>⟨hs.keeps.block b hb hr.2,hS b hb hr⟩) λb hb=>⟨rfl,hc k (by simp[gvO]) b hb⟩⟩;rw[hx,sh.g E k,h1];rfl
theorem zR(hs:ak W bs E F h w){S:Nat->Prop}(hS:∀ b,b<W.heap.size->bE G bs b->S b):∀ {kds:List Kd} {l:List SV},(mD G W bs h kds l).p->(∀ k∈(mD G W bs h kds l).cs,∀ b∈F k,S b) ->
  AP w S kds (aj E l) (mD G W bs h kds l).as_
 |[],[],_,_=>trivial
 |[],_::_,hp,_=>hp.elim
 |_::_,[],hp,_=>hp.elim
 |kd::ks,x::r,hp,hc=>by
  have h1:=adh hs hS (kd:=kd) (x:=x) hp.1 (λk hk=>hc k (List.mem_append_left _ hk));have h2:=zR hs hS (kds:=ks) (l:=r) hp.2 (λk hk=>hc k (List.mem_append_right _ hk));revert h1;cases kd with
  |none=>exact λh1=>⟨h1,h2⟩
  |some q=>exact λh1=>⟨h1,h2⟩
theorem adf{h' : Hp}{kd:Kd}{x:SV}(hp:(DB G W bs h kd x).p)(hr:∀ k∈(DB G W bs h kd x).rs,h' k=h k):DB G W bs h' kd x=DB G W bs h kd x:=by
 match kd with
 | none=>
  simp only[DB]at hp hr ⊢;cases hv:bK h x with
  |none=>rw[hv]at hp;exact hp.elim
  |some q=>
   obtain⟨a,r⟩:=q;rw[hv]at hr;rw[FA hv hr]
 | some (sh,Φ)=>
  simp only[DB]at hp hr ⊢;cases hv:cG x with
  |some v=>rfl
  | none=>
   rw[hv]at hp hr;cases hk:lI x with
   |none=>rfl
   | some k=>
    rw[hk]at hp hr;simp only[gvF]at hp hr ⊢;cases hkk:h k with
    |none=>rw[hkk]at hp;exact hp.elim
    |some e=>
     rw[hkk]at hp hr;cases e with
     |cells T vs=>exact hp.elim
     |row T s n vs=>exact hp.elim
     |mp ks vs=>exact hp.elim
     |obj d R=>rw[hr k (by simp[gvO]),hkk]
theorem zQ{h' : Hp}:∀ {kds:List Kd} {l:List SV},(mD G W bs h kds l).p->(∀ k∈(mD G W bs h kds l).rs,h' k=h k)->mD G W bs h' kds l=mD G W bs h kds l
 |[],[],_,_=>rfl
 |[],_::_,hp,_=>hp.elim
 |_::_,[],hp,_=>hp.elim
 |kd::ks,x::r,hp,hr=>by
  have hp' : (DB G W bs h kd x).p/\(mD G W bs h ks r).p:=hp;show gvC (DB G W bs h' kd x) (mD G W bs h' ks r)=gvC (DB G W bs h kd x) (mD G W bs h ks r);rw[adf hp'.1 λk hk=>hr k (List.mem_append_left _ hk),zQ hp'.2 λk hk=>hr k (List.mem_append_right _ hk)]
theorem adg{kd:Kd}{x:SV}(hp:(DB G W bs h kd x).p):∀ k∈(DB G W bs h kd x).cs,∃ Φ,h k=some (.obj [] (fX G W bs Φ)):=by
 match kd with
 |none=>
  simp only[DB]at hp ⊢;cases hv:bK h x with
  |none=>rw[hv]at hp;exact hp.elim
  |some q=>intro k hk;cases hk
 | some (sh,Φ)=>
  simp only[DB]at hp ⊢;cases hv:cG x with
  |some v=>intro k hk;cases hk
  | none=>
   rw[hv]at hp;cases hk:lI x with
   |none=>rw[hk]at hp;exact hp.elim
   | some k=>
    rw[hk]at hp;simp only[gvF]at hp ⊢;cases hkk:h k with
    |none=>rw[hkk]at hp;exact hp.elim
    | some e=>
     rw[hkk]at hp;cases e with
     |cells T vs=>exact hp.elim
     |row T s n vs=>exact hp.elim
     |mp ks vs=>exact hp.elim
     |obj d R=>
      obtain⟨hx,rfl,rfl⟩:=hp;intro j hj;simp only[gvO,List.mem_singleton]at hj;subst hj;exact⟨Φ,hkk⟩
theorem o9:∀ {kds:List Kd} {l:List SV},(mD G W bs h kds l).p->∀ k∈(mD G W bs h kds l).cs,∃ Φ,h k=some (.obj [] (fX G W bs Φ))
 |[],[],_,k,hk=>by cases hk
 |[],_::_,hp,_,_=>hp.elim
 |_::_,[],hp,_,_=>hp.elim
 |kd::ks,x::r,hp,k,hk=>by
  rcases List.mem_append.1 hk with hk|hk
  ·exact adg hp.1 k hk
  ·exact o9 hp.2 k hk
end
inductive FOut where
 |val (v:Value)
 |fact (sh:Sh) (Φ:FK)
 |pan (c:List PanicEntry) (v:Value)
def kA(w:World)(S:Nat->Prop)(e:Ending)(w' : World):FOut->Prop
 |.val v=>e=.returned v/\an w [] w'
 |.fact sh Φ=>∃ cs,e=.returned (sh.val cs)/\Φ.Φ cs w' (λb=>b<w.heap.size->S b)/\an w [] w'
 |.pan c _=>e=.panicked c/\an w [] w'
structure kS (P:Program)(f:FuncId) where
 kinds:List Kd
 pre:List AV->World->(Nat->Prop)->Prop
 premono:∀ as_ W S W' S',aX W S W' S' -> pre as_ W S->pre as_ W' S'
 out:List AV->FOut
 enters:∀ args w,(callFunc f args).run P w=.ok (.enter f args) w
 ok:∀ (w:World) (S:Nat->Prop) (us:List Value) (as_:List AV),AP w S kinds us as_->pre as_ w S->Calls P f us.toArray w λe w' => kA w S e w' (out as_)
def uZ(G:Nat->Prop)(κ:Nat)(W:World)(bs:List Nat)(q:Prop)(rs cs:List Nat):FOut->R
 |.val v=>⟨q,.v v,[],none,[],rs⟩
 |.fact sh Φ=>⟨q/\Up G W bs,sh.tm (8*κ),dK cs++[(8*κ,some (.obj [] (fX G W bs Φ)))],none,[],rs⟩
 |.pan c v=>⟨q,.v v,[],some c,[],rs⟩
def AN(G:Nat->Prop)(κ:Nat)(W:World)(bs:List Nat)(pre:List AV->World->(Nat->Prop)->Prop)(out:List AV->FOut)(g:GVL):R:=
 uZ G κ W bs (g.p/\pre g.as_ W (bE G bs)) g.rs g.cs (out g.as_)
theorem NB{W w:World}{bs:List Nat}{G:Nat->Prop}{S:Nat->Prop}(hk:an W bs w)(hS:∀ b,b<W.heap.size->bE G bs b->S b):aX W (bE G bs) w S:=λb hb hr=>⟨hk.block b hb hr.2,hS b hb hr⟩
theorem xr{W w w' : World}{bs fp0 fp:List Nat}{G S Sn:Nat->Prop}{Φ:FK}{cs:List Value}(hk:an W bs w)(hkeep:an w fp0 w')
  (hΦ:Φ.Φ cs w' Sn) (hS:∀ b,S b->(b<W.heap.size/\bE G bs b)\/b∈fp) (hS0:∀ b,b<W.heap.size->bE G bs b->b∉fp0)
  (hn:∀ b,b<w'.heap.size->Sn b->(b<w.heap.size/\S b)\/b∈fp) (hG:∀ b∈fp,G b) :
  ∀ w3:World,(∀ b∈fp,w3.heap[b]?=w'.heap[b]?)->fX G W bs Φ [] (dw cs) fp w3:=by
 intro w3 h3;refine⟨hG,cs,rfl,λW₂ S₂ hold hnew=>Φ.mono (λb hb hg=>?_) hΦ⟩;have inFp:b∈fp->W₂.heap[b]?=w'.heap[b]?/\S₂ b:=λhb' => by
  obtain⟨g3,g4⟩:=hnew b hb';exact⟨by rw[g3,h3 b hb'],g4⟩
 rcases hn b hb hg with ⟨hb1,hb2⟩|hb'
 ·rcases hS b hb2 with ⟨g1,g2⟩|hb'
  ·obtain⟨g3,g4⟩:=hold b g1 g2;exact⟨by rw[g3,hkeep.block b hb1 (hS0 b g1 g2),hk.block b g1 g2.2],g4⟩
  ·exact inFp hb'
 ·exact inFp hb'
theorem ot{w w' : World}(hs:w.heap.size<=w'.heap.size)(b:Nat):b∈List.range' w.heap.size (w'.heap.size-w.heap.size) ↔ w.heap.size<=b/\b<w'.heap.size:=by
 rw[List.mem_range'_1];omega
def kS.spec{P:Program}{f:FuncId}(p:kS P f)(G:Nat->Prop):Spec P f where
 ev:=λW bs κ h args=>AN G κ W bs p.pre p.out (mD G W bs h p.kinds args)
 good:=λW bs κ E F h w K args hs hK hk hx hside=>by
  rw[p.enters];have hS:∀ b,b<W.heap.size->bE G bs b->(b<W.heap.size/\bE G bs b)\/∃ k∈(mD G W bs h p.kinds args).cs,b∈F k:=λb h1 h2=>.inl ⟨h1,h2⟩
  have call:(mD G W bs h p.kinds args).p->p.pre (mD G W bs h p.kinds args).as_ W (bE G bs)->Calls P f (aj E args).toArray w λe w' => kA w (λb=>(b<W.heap.size/\bE G bs b)\/∃ k∈(mD G W bs h p.kinds args).cs,b∈F k) e w' (p.out (mD G W bs h p.kinds args).as_):=λh1 h2=>
   p.ok w _ _ _ (zR hs hS h1 λk hk b hb=>.inr ⟨k,hk,hb⟩) (p.premono _ _ _ _ _ (NB hs.keeps hS) h2)
  revert hside;unfold AN;cases hout:p.out (mD G W bs h p.kinds args).as_ with
  |val v=>
   rintro⟨h1,h2⟩;have hc:=call h1 h2;rw[hout]at hc;exact xu hs hc rfl rfl rfl
  |pan c v=>
   rintro⟨h1,h2⟩;have hc:=call h1 h2;rw[hout]at hc;refine hc.mono λe w' he=>?_
   obtain⟨rfl,hkeep⟩:=he;exact⟨rfl,F,(hs.grow hkeep).drop λk e he=>by simpa [uZ,dropKeys] using he⟩
  | fact sh Φ=>
   rintro⟨⟨h1,h2⟩,hup⟩;have hc:=call h1 h2;rw[hout]at hc;refine hc.mono λe w' he=>?_
   obtain⟨cs,rfl,hΦ,hkeep⟩:=he;have hobj:=o9 h1;have hK8:¬ K (8*κ):=hk _ oM;have hR:=xr (G:=G) (S:=λb=>(b<W.heap.size/\bE G bs b)\/∃ k∈(mD G W bs h p.kinds args).cs,b∈F k) (fp:=List.range' w.heap.size (w'.heap.size-w.heap.size)++(mD G W bs h p.kinds args).cs.flatMap F) hs.keeps hkeep hΦ
    (λb hb=>hb.elim .inl λ⟨k,hk,hbk⟩=>.inr (List.mem_append_right _ (List.mem_flatMap.2 ⟨k,hk,hbk⟩))) (λ_ _ _=>by simp)
    (λb hb hn=>by
     by_cases hbw:b<w.heap.size
     ·exact .inl ⟨hbw,hn hbw⟩
     ·exact .inr (List.mem_append_left _ ((ot hkeep.size b).2 ⟨oM,hb⟩)))
    (λb hb=>by
     rcases List.mem_append.1 hb with hb|hb
     ·exact hup b (.inl (Nat.le_trans hs.keeps.size ((ot hkeep.size b).1 hb).1))
     ·obtain⟨k,hk,hbk⟩:=List.mem_flatMap.1 hb
      obtain⟨Φ',hk'⟩:=hobj k hk
      exact (hs.ent k _ hk').1.1.1 b hbk)
   refine⟨rfl,bn E (8*κ) (dw cs),bn F (8*κ) (List.range' w.heap.size (w'.heap.size-w.heap.size)++(mD G W bs h p.kinds args).cs.flatMap F),λk hk' => al _ _ λe=>hk' (by subst e;omega),?_,?_⟩
   ·simp only[uZ];rw[sh.g,ah];rfl
   ·simp only[uZ];have hne:∀ j x,h j=some x->j≠8*κ:=λj x hj e=>hK8 (e ▸ (hK j x hj).1)
    refine hs.lV hK (mD G W bs h p.kinds args).cs (bn (λ_=>none) (8*κ) (some (.obj [] (fX G W bs Φ)))) (λj hj=>?_) (λj hj=>al _ _ λe=>hK8 (e ▸ hj)) (λj e he=>?_) (λi j e e' hij hi hj b hb=>?_) (λj x hx hj=>al _ _ (hne j x hx)) (λj=>?_) (hkeep.mono λb hb=>by cases hb)
    ·obtain⟨Φ',hj'⟩:=hobj j hj;exact⟨_,hj'⟩
    ·by_cases hj:j=8*κ
     ·subst hj;simp only[ah,Option.some.injEq]at he;subst he;rw[ah,ah];refine⟨⟨⟨hR w' λ_ _=>rfl,rfl⟩,hR⟩,λb hb=>?_,λb hb=>?_⟩
      ·rcases List.mem_append.1 hb with hb|hb
       ·exact .inr ((ot hkeep.size b).1 hb).1
       ·obtain⟨k,hk,hbk⟩:=List.mem_flatMap.1 hb;exact .inl ⟨k,hk,hbk⟩
      ·rcases List.mem_append.1 hb with hb|hb
       ·exact ((ot hkeep.size b).1 hb).2
       ·obtain⟨k,hk,hbk⟩:=List.mem_flatMap.1 hb;obtain⟨Φ',hk'⟩:=hobj k hk;exact Nat.lt_of_lt_of_le (hs.lt k _ hk' b hbk) hkeep.size
     ·rw[al _ _ hj]at he;cases he
    ·by_cases hi' : i=8*κ
     ·by_cases hj' : j=8*κ
      ·exact absurd (hi'.trans hj'.symm) hij
      ·rw[al _ _ hj']at hj;cases hj
     ·rw[al _ _ hi']at hi;cases hi
    ·rw[b7];simp only[a7];by_cases hj:j=8*κ
     ·subst hj;simp[ah]
     ·rw[al _ _ hj,al _ _ hj,ka]
 keys:=λW bs κ h K args hK hx hside=>by
  revert hside;unfold AN;cases hout:p.out (mD G W bs h p.kinds args).as_ with
  |val v=>exact λ_=>aP.plain (λk hk=>by cases hk) rfl
  |pan c v=>exact λ_=>aP.plain (λk hk=>by cases hk) rfl
  | fact sh Φ=>
   rintro⟨⟨h1,h2⟩,hup⟩;refine⟨λk hk=>.inr (by rw[sh.k _ k hk];omega),λq hq=>?_⟩;simp only[uZ,List.mem_append,List.mem_singleton,dK,List.mem_map]at hq;rcases hq with ⟨j,hj,rfl⟩|rfl
   ·obtain⟨Φ',hj'⟩:=o9 h1 j hj;exact⟨.inl (hK j _ hj').1,λe he=>by cases he⟩
   ·refine⟨.inr (by simp only;omega),λe he k hk=>?_⟩;simp only[Option.some.injEq]at he;subst he;cases hk
 loc:=λW bs κ h h' args hside hr=>by
  have hp:(mD G W bs h p.kinds args).p:=by
   revert hside;unfold AN;cases p.out (mD G W bs h p.kinds args).as_ with
   |val v=>exact λh=>h.1
   |pan c v=>exact λh=>h.1
   |fact sh Φ=>exact λh=>h.1.1
  have hr' : ∀ k∈(mD G W bs h p.kinds args).rs,h' k=h k:=by
   revert hr;unfold AN;cases p.out (mD G W bs h p.kinds args).as_<;>exact λh=>h
  rw[zQ hp hr']
theorem cH{P:Program}{f:FuncId}(p:kS P f)(G:Nat->Prop)(W:World)(bs:List Nat)(κ:Nat)(h:Hp)(l:List SV):(p.spec G).ev W bs κ h l=AN G κ W bs p.pre p.out (mD G W bs h p.kinds l):=rfl
end
section
open Go.RowKit
inductive GOut where
 |ret (v:Value) (fs:List AV)
 |fact (sh:Sh) (Φ:FK) (fs:List AV)
 |pan (c:List PanicEntry) (v:Value)
def u4(w:World)(S:Nat->Prop)(u:Value)(fp:List Nat)(T:TypeId)(e:Ending)(w' : World):GOut->Prop
 |.ret v fs=>e=.returned v/\(∃ fp',aW w' u fp' T fs/\(∀ b∈fp',b∈fp\/w.heap.size<=b)/\∀ b∈fp',b<w'.heap.size)/\an w fp w'
 |.fact sh Φ fs=>∃ cs,e=.returned (sh.val cs)/\(∃ fp',aW w' u fp' T fs/\(∀ b∈fp',b∈fp\/w.heap.size<=b)/\(∀ b∈fp',b<w'.heap.size)/\Φ.Φ cs w' (λb=>(b<w.heap.size->S b\/b∈fp)/\b∉fp'))/\an w fp w'
 |.pan c _=>e=.panicked c/\an w fp w'
structure uG (P:Program)(f:FuncId) where
 T:TypeId
 kinds:List Kd
 pre:List AV->List AV->World->(Nat->Prop)->Prop
 premono:∀ fs as_ W S W' S',aX W S W' S' -> pre fs as_ W S->pre fs as_ W' S'
 out:List AV->List AV->GOut
 enters:∀ args w,(callFunc f args).run P w=.ok (.enter f args) w
 ok:∀ (w:World) (S:Nat->Prop) (u:Value) (fp:List Nat) (us:List Value) (fs as_:List AV),aW w u fp T fs->(∀ b∈fp,b<w.heap.size)->(∀ b∈fp,¬ S b)->AP w S kinds us as_->pre fs as_ w S ->
  Calls P f (u::us).toArray w λe w' => u4 w S u fp T e w' (out fs as_)
def ri(G:Nat->Prop)(κ k:Nat)(T:TypeId)(W:World)(bs:List Nat)(q:Prop)(rs rs' cs:List Nat):GOut->R
 |.ret v fs=>⟨q/\(k::rs).Nodup/\(∀ j∈rs',j∉k::rs)/\fs.length<=7,.v v,dK rs++(cF (bf (8*κ) fs)++[(k,some (.cells T (aO (8*κ) fs)))]),none,[],k::(rs++rs')⟩
 | .fact sh Φ fs=>⟨q/\(k::rs).Nodup/\(∀ j∈rs',j∉k::rs)/\fs.length<=7/\Up G W bs,sh.tm (8*κ+7),
   dK (rs++cs)++(cF (bf (8*κ) fs)++[(k,some (.cells T (aO (8*κ) fs))),(8*κ+7,some (.obj [] (fX G W bs Φ)))]),none,[],k::(rs++rs')⟩
 |.pan c v=>⟨q/\(k::rs).Nodup/\(∀ j∈rs',j∉k::rs),.v v,[],some c,k::rs,k::(rs++rs')⟩
def A8(G:Nat->Prop)(κ k:Nat)(T T' : TypeId)(W:World)(bs:List Nat)(pre:List AV->List AV->World->(Nat->Prop)->Prop)(out:List AV->List AV->GOut)(g:GVL):Option (List AV×List Nat)->R
 |some (fs,rs)=>ri G κ k T W bs (T' = T/\g.p/\pre fs g.as_ W (bE G bs)) rs g.rs g.cs (out fs g.as_)
 |none=>.bad
def A9(G:Nat->Prop)(h:Hp)(κ k:Nat)(T:TypeId)(W:World)(bs:List Nat)(pre:List AV->List AV->World->(Nat->Prop)->Prop)(out:List AV->List AV->GOut)(g:GVL):Option a6->R
 |some (.cells T' vs)=>A8 G κ k T T' W bs pre out g (aB h vs)
 |_=>.bad
def EE(G:Nat->Prop)(h:Hp)(κ:Nat)(T:TypeId)(W:World)(bs:List Nat)(kinds:List Kd)(pre:List AV->List AV->World->(Nat->Prop)->Prop)(out:List AV->List AV->GOut):List SV->R
 |.own k 0::rest=>A9 G h κ k T W bs pre out (mD G W bs h kinds rest) (h k)
 |_=>.bad
section
variable {P:Program}{W:World}{bs:List Nat}{κ:Nat}{E:Nat->Value}{F:Nat->List Nat}{h:Nat->Option a6}{w:World}{K:Nat->Prop}{G:Nat->Prop}
theorem TH{w' : World}{k:Nat}{T:TypeId}{vs:List SV}{fs fs' : List AV}{rs fp' ks' fpn:List Nat}{cs:List Value}{R:List Value->Value->List Nat->World->Prop}(hs:ak W bs E F h w)(hK:bL K h)(hk:∀ k,k / 8=κ->¬ K k)
  (hkk:h k=some (.cells T vs)) (hv:aB h vs=some (fs,rs)) (hlen:fs'.length<=7) (hn:(k::rs).Nodup) (hks:∀ j∈ks',∃ d R,h j=some (.obj d R))
  (ho:aW w' (E k) fp' T fs') (h1:∀ b∈fp',b∈(k::rs).flatMap F\/w.heap.size<=b) (h2:∀ b∈fp',b<w'.heap.size)
  (hfn:∀ b∈fpn,b∉fp' /\ b<w'.heap.size/\((∃ j∈k::(rs++ks'),b∈F j)\/w.heap.size<=b)) (hR:∀ w3:World,(∀ b∈fpn,w3.heap[b]?=w'.heap[b]?)->R [] (dw cs) fpn w3)
  (hkeep:an w ((k::rs).flatMap F) w') :
  ∃ E' F',(∀ j,j / 8≠κ->E' j=E j)/\E' (8*κ+7)=dw cs/\ak W bs E' F' (a7 h (dK (rs++ks')++(cF (bf (8*κ) fs')++[(k,some (.cells T (aO (8*κ) fs'))),(8*κ+7,some (.obj [] R))]))) w' := by
 obtain⟨b,us,hu,hb,hus,rfl,hnd⟩:=ho;have hl:=jM hus;have hKk:K k:=(hK k _ hkk).1;have hfr:∀ j,8*κ<=j->j<8*κ+8->¬ K j:=λj g1 g2=>hk j oM
 have hk7:k≠8*κ+7:=λe=>hfr k oM oM hKk
 have hkf:k<8*κ\/8*κ+8<=k:=by
  by_cases g1:k<8*κ
  ·exact .inl g1
  ·by_cases g2:8*κ+8<=k
   ·exact .inr g2
   ·exact absurd hKk (hfr k oM oM)
 have hE:∀ j,j / 8≠κ->bn (gv (8*κ) us E) (8*κ+7) (dw cs) j=E j:=λj hj=>by
  rw[al _ _ oM];exact mq oM
 have hsome:∀ p∈cF (bf (8*κ) fs')++[(k,some (.cells T (aO (8*κ) fs'))),(8*κ+7,some (.obj [] R))],∃ e,p.2=some e:=λp hp=>by
  rcases List.mem_append.1 hp with hp|hp
  ·obtain⟨e,he,_⟩:=fI.1 hp;exact⟨e,by rw[he]⟩
  ·simp at hp;rcases hp with rfl|rfl
   ·exact⟨_,rfl⟩
   ·exact⟨_,rfl⟩
 have hrow7:∀ j e,(j,e)∈bf (8*κ) fs' -> j≠8*κ+7:=λj e hm=>by
  have:=dO _ hm;simp only at this;omega
 have hNm:∀ j e,a7 (λ_=>none) (cF (bf (8*κ) fs')++[(k,some (.cells T (aO (8*κ) fs'))),(8*κ+7,some (.obj [] R))]) j=some e ->
   (j=k/\e=.cells T (aO (8*κ) fs'))\/(j=8*κ+7/\e=.obj [] R)\/(j≠k/\j≠8*κ+7/\(j,e)∈bf (8*κ) fs'):=λj e he=>by
  rw[b7]at he;simp only[a7]at he;by_cases hj7:j=8*κ+7
  ·subst hj7;rw[ah]at he;cases he;exact .inr (.inl ⟨rfl,rfl⟩)
  ·rw[al _ _ hj7]at he;by_cases hj:j=k
   ·subst hj;rw[ah]at he;cases he;exact .inl ⟨rfl,rfl⟩
   ·rw[al _ _ hj]at he;rcases kJ (λ_=>(none:Option a6)) (k:=j) (u:=cF (bf (8*κ) fs')) with ⟨x,hx,hx'⟩|⟨_,hx'⟩
    ·rw[hx']at he;subst he;obtain⟨e',h3,h4⟩:=fI.1 hx;simp only[Prod.mk.injEq,true_and,Option.some.injEq]at h3;subst h3;exact .inr (.inr ⟨hj,hj7,h4⟩)
    ·rw[hx']at he;cases he
 have hNk:a7 (λ_=>none) (cF (bf (8*κ) fs')++[(k,some (.cells T (aO (8*κ) fs'))),(8*κ+7,some (.obj [] R))]) k=some (.cells T (aO (8*κ) fs')):=by
  rw[b7];simp only[a7];rw[al _ _ hk7,ah]
 have hN7:a7 (λ_=>none) (cF (bf (8*κ) fs')++[(k,some (.cells T (aO (8*κ) fs'))),(8*κ+7,some (.obj [] R))]) (8*κ+7)=some (.obj [] R):=by
  rw[b7];simp[a7,ah]
 have hb' : b∉zr us fs' := (List.nodup_cons.1 hnd).1;have hnd' : (zr us fs').Nodup:=(List.nodup_cons.1 hnd).2;have own:∀ j∈k::(rs++ks'),∃ e,h j=some e:=λj hj=>by
  rcases List.mem_cons.1 hj with rfl|hj
  ·exact⟨_,hkk⟩
  ·rcases List.mem_append.1 hj with hj|hj
   ·exact (cp hs hv).2 j hj
   ·obtain⟨d,R',h'⟩:=hks j hj;exact⟨_,h'⟩
 refine⟨bn (gv (8*κ) us E) (8*κ+7) (dw cs),bn (bn (ij (8*κ) us fs' F) k [b]) (8*κ+7) fpn,hE,by rw[ah],?_⟩
 refine hs.lV hK (k::(rs++ks')) (a7 (λ_=>none) (cF (bf (8*κ) fs')++[(k,some (.cells T (aO (8*κ) fs'))),(8*κ+7,some (.obj [] R))])) own (λj hj=>hE j λe=>hk j e hj) (λj e he=>?_) (λi j e e' hij hi hj c hc=>?_) (λj x hx hj=>?_) (λj=>?_) ?_
 ·rcases hNm j e he with ⟨rfl,rfl⟩|⟨rfl,rfl⟩|⟨hjk,hj7,hm⟩
  ·rw[al _ _ hk7,al _ _ hk7,ah,mq oM];refine⟨⟨b,hu,rfl,?_⟩,λc hc=>?_,λc hc=>h2 c (by simp at hc;simp[hc])⟩
   ·rw[bB (E' := gv (8*κ) us E) _ λi hi=>al _ _ (by have:=cm i hi;omega),fW hus];exact hb
   ·simp only[List.mem_singleton]at hc;subst hc;rcases h1 c sI with g|g
    ·obtain⟨i,hi,hci⟩:=List.mem_flatMap.1 g
     exact .inl ⟨i, by rcases List.mem_cons.1 hi with hi|hi
                       ·exact List.mem_cons.2 (.inl hi)
                       ·exact List.mem_cons.2 (.inr (List.mem_append_left _ hi)),hci⟩
    ·exact .inr g
  ·rw[ah,ah];refine⟨⟨⟨hR w' λ_ _=>rfl,rfl⟩,hR⟩,λc hc=>(hfn c hc).2.2,λc hc=>(hfn c hc).2.1⟩
  ·rw[al _ _ hj7,al _ _ hj7,al _ _ hjk];obtain⟨g1,g2⟩:=iR (E:=E) (F:=F) hus hm (gv (8*κ) us E);refine⟨gE (λi hi=>?_) g1,λc hc=>?_,λc hc=>h2 c (List.mem_cons_of_mem _ (g2 c hc))⟩
   ·rw[(dO _ hm).2.2]at hi;cases hi
   ·rcases h1 c (List.mem_cons_of_mem _ (g2 c hc)) with g|g
    ·obtain⟨i,hi,hci⟩:=List.mem_flatMap.1 g
     exact .inl ⟨i, by rcases List.mem_cons.1 hi with hi|hi
                       ·exact List.mem_cons.2 (.inl hi)
                       ·exact List.mem_cons.2 (.inr (List.mem_append_left _ hi)),hci⟩
    ·exact .inr g
 ·have hrowfp:∀ i e,i≠k->i≠8*κ+7->(i,e)∈bf (8*κ) fs' -> ∀ c∈bn (bn (ij (8*κ) us fs' F) k [b]) (8*κ+7) fpn i,c∈zr us fs' := λi e g1 g2 hm c hc=>by
   rw[al _ _ g2,al _ _ g1]at hc;exact cD hl hm c hc
  rcases hNm i e hi with ⟨rfl,rfl⟩|⟨rfl,rfl⟩|⟨hik,hi7,hmi⟩
  ·rw[al _ _ hk7,ah]at hc;simp only[List.mem_singleton]at hc;subst hc;rcases hNm j e' hj with ⟨rfl,rfl⟩|⟨rfl,rfl⟩|⟨hjk,hj7,hmj⟩
   ·exact absurd rfl hij
   ·rw[ah];exact λhc' => (hfn c hc').1 sI
   ·exact λhc' => hb' (hrowfp j e' hjk hj7 hmj c hc')
  ·rw[ah]at hc;have hc1:=(hfn c hc).1;rcases hNm j e' hj with ⟨rfl,rfl⟩|⟨rfl,rfl⟩|⟨hjk,hj7,hmj⟩
   ·rw[al _ _ hk7,ah];exact λhc' => hc1 (by simp at hc';simp[hc'])
   ·exact absurd rfl hij
   ·exact λhc' => hc1 (List.mem_cons_of_mem _ (hrowfp j e' hjk hj7 hmj c hc'))
  ·rcases hNm j e' hj with ⟨rfl,rfl⟩|⟨rfl,rfl⟩|⟨hjk,hj7,hmj⟩
   ·have:=hrowfp i e hik hi7 hmi c hc;rw[al _ _ hk7,ah];intro hc';simp only[List.mem_singleton]at hc';subst hc';exact hb' this
   ·have:=hrowfp i e hik hi7 hmi c hc;rw[ah];exact λhc' => (hfn c hc').1 (List.mem_cons_of_mem _ this)
   ·rw[al _ _ hi7,al _ _ hik]at hc;rw[al _ _ hj7,al _ _ hjk];exact iQ hnd' hmi hmj hl hij c hc
 ·have hjk:j≠k:=λe=>by rw[e,hNk]at hj;cases hj
  have hj7:j≠8*κ+7:=λe=>by rw[e,hN7]at hj;cases hj
  rw[al _ _ hj7,al _ _ hjk];have hKj:=(hK j x hx).1;by_cases g1:j<8*κ
  ·exact j9 (.inl g1)
  ·by_cases g2:8*κ+8<=j
   ·exact j9 (.inr oM)
   ·exact absurd hKj (hfr j oM oM)
 ·rw[b7,kb _ _ _ hsome,ka];cases hN:a7 (λ_=>none) (cF (bf (8*κ) fs')++[(k,some (.cells T (aO (8*κ) fs'))),(8*κ+7,some (.obj [] R))]) j with
  |some e=>rfl
  |none=>
   have hjk:j≠k:=λe=>by rw[e,hNk]at hN;cases hN
   simp[hjk]
 ·refine hkeep.mono λc hc=>?_
  obtain⟨i,hi,hci⟩:=List.mem_flatMap.1 hc;refine List.mem_flatMap.2 ⟨i,?_,hci⟩;rcases List.mem_cons.1 hi with hi|hi
  ·exact List.mem_cons.2 (.inl hi)
  ·exact List.mem_cons.2 (.inr (List.mem_append_left _ hi))
end
def uG.spec{P:Program}{f:FuncId}(p:uG P f)(G:Nat->Prop):Spec P f where
 ev:=λW bs κ h args=>EE G h κ p.T W bs p.kinds p.pre p.out args
 good:=λW bs κ E F h w K args hs hK hk hx hside=>by
  rw[p.enters];revert hside;unfold EE;split
  ·rename_i k rest;generalize hg:mD G W bs h p.kinds rest=g;cases hkk:h k with
   |none=>exact λhf=>hf.elim
   | some e=>
    cases e with
    |row T s n vs=>exact λhf=>hf.elim
    |mp ks vs=>exact λhf=>hf.elim
    |obj d R=>exact λhf=>hf.elim
    | cells T' vs=>
     simp only[A9];cases hv:aB h vs with
     |none=>exact λhf=>hf.elim
     | some q=>
      obtain⟨fs,rs⟩:=q;simp only[A8];have hent:=hs.ent k _ hkk;obtain⟨b,hu,_,_⟩:=hent;have hden:den E (.own k 0)=E k:=by simp[den,hu,base,df]
      have hobj:g.p->∀ j∈g.cs,∃ Φ,h j=some (.obj [] (fX G W bs Φ)):=λhp=>by rw[<- hg]at hp ⊢;exact o9 hp
      have hown:∀ j∈k::rs,∃ e,h j=some e/\∀ d R,e≠.obj d R:=λj hj=>by
       rcases List.mem_cons.1 hj with rfl|hj
       ·exact⟨_,hkk,λ_ _ e=>by cases e⟩
       ·exact iG hv j hj
      have fK:∀ c∈(k::rs).flatMap F,(∃ j∈k::rs,c∈F j)/\c<w.heap.size/\(W.heap.size<=c\/c∈bs):=λc hc=>by
       obtain⟨j,hj,hcj⟩:=List.mem_flatMap.1 hc;obtain⟨e,he,_⟩:=hown j hj;exact⟨⟨j,hj,hcj⟩,hs.lt j e he c hcj,hs.mine j e he c hcj⟩
      have hS0:∀ b,b<W.heap.size->bE G bs b->b∉(k::rs).flatMap F:=λb h1 h2 hb=>(fK b hb).2.2.elim (λg=>absurd g (Nat.not_le.2 h1)) h2.2
      have hS:∀ b,b<W.heap.size->bE G bs b->(b<W.heap.size/\bE G bs b)\/∃ j∈g.cs,b∈F j:=λb h1 h2=>.inl ⟨h1,h2⟩
      have hSf:g.p->∀ b∈(k::rs).flatMap F,¬ ((b<W.heap.size/\bE G bs b)\/∃ j∈g.cs,b∈F j):=λhp b hb hS=>by
       rcases hS with ⟨h1,h2⟩|⟨j,hj,hbj⟩
       ·exact hS0 b h1 h2 hb
       ·obtain⟨Φ,hj'⟩:=hobj hp j hj;obtain⟨i,hi,hbi⟩:=(fK b hb).1;obtain⟨e,he,hne⟩:=hown i hi;refine hs.apart i j e _ (λhij=>?_) he hj' b hbi hbj;rw[hij,hj']at he;exact hne _ _ (Option.some.inj he).symm
      have call:∀ hn:(k::rs).Nodup,T' = p.T->g.p->p.pre fs g.as_ W (bE G bs)->Calls P f (aj E (.own k 0::rest)).toArray w λe w' => u4 w (λb=>(b<W.heap.size/\bE G bs b)\/∃ j∈g.cs,b∈F j) (E k) ((k::rs).flatMap F) p.T e w' (p.out fs g.as_):=λhn hT hp hpre=>by
       subst hT;have ho:=iN hs hkk hv hn;have hgs:=zR hs hS (kds:=p.kinds) (l:=rest) (by rw[hg];exact hp) (by rw[hg];exact λj hj b hb=>.inr ⟨j,hj,hb⟩);rw[hg]at hgs;have:=p.ok w _ (E k) _ (aj E rest) fs g.as_ ho (λc hc=>(fK c hc).2.1) (hSf hp) hgs (p.premono _ _ _ _ _ _ (NB hs.keeps hS) hpre)
       simpa only[aj,hden] using this
      cases hout:p.out fs g.as_ with
      |ret v fs' =>
       simp only[ri];rintro⟨⟨hT,hp,hpre⟩,hn,hd,hlen⟩;have hc:=call hn hT hp hpre;rw[hout]at hc;subst hT;refine hc.mono λe w' he=>?_
       obtain⟨rfl,⟨fp',ho,h1,h2⟩,hkeep⟩:=he;obtain⟨E',F',hE',hs'⟩:=qR hs hK hk hkk hv oM hn ho h1 h2 hkeep;exact⟨rfl,E',F',hE',rfl,hs'⟩
      | fact sh Φ fs' =>
       simp only[ri];rintro⟨⟨hT,hp,hpre⟩,hn,hd,hlen,hup⟩;have hc:=call hn hT hp hpre;rw[hout]at hc;subst hT;refine hc.mono λe w' he=>?_
       obtain⟨cs,rfl,⟨fp',ho,h1,h2,hΦ⟩,hkeep⟩:=he;have hfn:∀ b,b∈(List.range' w.heap.size (w'.heap.size-w.heap.size)++(k::(rs++g.cs)).flatMap F).filter (·∉fp') ↔ ((w.heap.size<=b/\b<w'.heap.size)\/∃ j∈k::(rs++g.cs),b∈F j)/\b∉fp' := λb=>by
        simp only[List.mem_filter,List.mem_append,ot hkeep.size b,List.mem_flatMap,decide_eq_true_eq]
       have hown' : ∀ j∈k::(rs++g.cs),∃ e,h j=some e:=λj hj=>by
        rcases List.mem_cons.1 hj with rfl|hj
        ·exact⟨_,hkk⟩
        ·rcases List.mem_append.1 hj with hj|hj
         ·obtain⟨e,he,_⟩:=hown j (List.mem_cons_of_mem _ hj);exact⟨e,he⟩
         ·obtain⟨Φ',h'⟩:=hobj hp j hj;exact⟨_,h'⟩
       have hsub:∀ j∈k::rs,j∈k::(rs++g.cs):=λj hj=>by
        rcases List.mem_cons.1 hj with hj|hj
        ·exact List.mem_cons.2 (.inl hj)
        ·exact List.mem_cons.2 (.inr (List.mem_append_left _ hj))
       have hR:=xr (G:=G) (fp:=(List.range' w.heap.size (w'.heap.size-w.heap.size)++(k::(rs++g.cs)).flatMap F).filter (·∉fp')) (S:=λb=>((b<W.heap.size/\bE G bs b)\/∃ j∈g.cs,b∈F j)/\b∉fp') hs.keeps hkeep hΦ
        (λb hb=>hb.1.elim .inl λ⟨j,hj,hbj⟩=>.inr ((hfn b).2 ⟨.inr ⟨j,List.mem_cons.2 (.inr (List.mem_append_right _ hj)),hbj⟩,hb.2⟩)) hS0
        (λb hb hn=>by
         by_cases hbw:b<w.heap.size
         ·rcases hn.1 hbw with h3|h3
          ·exact .inl ⟨hbw,h3,hn.2⟩
          ·obtain⟨j,hj,hbj⟩:=(fK b h3).1
           exact .inr ((hfn b).2 ⟨.inr ⟨j,hsub j hj,hbj⟩,hn.2⟩)
         ·exact .inr ((hfn b).2 ⟨.inl ⟨oM,hb⟩,hn.2⟩))
        (λb hb=>by
         rcases ((hfn b).1 hb).1 with h3|⟨j,hj,hbj⟩
         ·exact hup b (.inl (Nat.le_trans hs.keeps.size h3.1))
         ·obtain⟨e,he⟩:=hown' j hj
          exact hup b (hs.mine j e he b hbj))
       obtain⟨E',F',hE',hE7,hs'⟩:=TH (ks' := g.cs) (R:=fX G W bs Φ) (cs:=cs) hs hK hk hkk hv hlen hn (λj hj=>by obtain⟨Φ',h'⟩:=hobj hp j hj;exact⟨_,_,h'⟩) ho h1 h2
        (λb hb=>by
         obtain⟨h3,h4⟩:=(hfn b).1 hb
         refine⟨h4,?_,h3.elim (λh=>.inr h.1) .inl⟩
         rcases h3 with h3|⟨j,hj,hbj⟩
         ·exact h3.2
         ·obtain⟨e,he⟩:=hown' j hj
          exact Nat.lt_of_lt_of_le (hs.lt j e he b hbj) hkeep.size) hR hkeep
       refine⟨rfl,E',F',hE',?_,hs'⟩;rw[sh.g,hE7];rfl
      |pan c _=>
       simp only[ri];rintro⟨⟨hT,hp,hpre⟩,hn,hd⟩;have hc:=call hn hT hp hpre;rw[hout]at hc;refine hc.mono λe w' he=>?_
       obtain⟨rfl,hkeep⟩:=he;refine⟨rfl,F,?_⟩;refine hs.lV hK (k::rs) (λ_=>none) (λj hj=>?_) (λ_ _=>rfl) (λj e he=>by cases he) (λi j e e' _ he=>by cases he) (λ_ _ _ _=>rfl) (λj=>?_) hkeep
       ·obtain⟨e,he,_⟩:=hown j hj;exact⟨e,he⟩
       ·simp only[dropKeys]
  ·exact λhf=>hf.elim
 keys:=λW bs κ h K args hK hx hside=>by
  revert hside;unfold EE;split
  ·rename_i k rest;generalize hg:mD G W bs h p.kinds rest=g;cases hkk:h k with
   |none=>exact λhf=>hf.elim
   | some e=>
    cases e with
    |row T s n vs=>exact λhf=>hf.elim
    |mp ks vs=>exact λhf=>hf.elim
    |obj d R=>exact λhf=>hf.elim
    | cells T' vs=>
     simp only[A9];cases hv:aB h vs with
     |none=>exact λhf=>hf.elim
     | some q=>
      obtain⟨fs,rs⟩:=q;simp only[A8];have hobj:g.p->∀ j∈g.cs,∃ Φ,h j=some (.obj [] (fX G W bs Φ)):=λhp=>by rw[<- hg]at hp ⊢;exact o9 hp
      have row:∀ fs' : List AV,fs'.length<=7->∀ q∈cF (bf (8*κ) fs'),(K q.1\/q.1 / 8=κ)/\∀ e,q.2=some e->∀ j∈e.keys,K j\/j / 8=κ:=λfs' hlen q hq=>by
       obtain⟨e,h1,h2⟩:=fI.1 hq;obtain⟨h3,h4⟩:=zY oM h2;refine⟨.inr h3,λe' he' j hj=>?_⟩;rw[h1]at he';simp only[Option.some.injEq]at he';subst he';rw[h4]at hj;cases hj
      have cel:∀ fs' : List AV,fs'.length<=7->(K k\/k / 8=κ)/\∀ e,some (a6.cells p.T (aO (8*κ) fs'))=some e->∀ j∈e.keys,K j\/j / 8=κ:=λfs' hlen=>by
       refine⟨.inl (hK k _ hkk).1,λe' he' j hj=>.inr ?_⟩;simp only[Option.some.injEq]at he';subst he';have:=cm j hj;omega
      cases hout:p.out fs g.as_ with
      | ret v fs' =>
       simp only[ri];rintro⟨_,hn,hd,hlen⟩;refine⟨λj hj=>(by cases hj),λq hq=>?_⟩;simp only[List.mem_append,List.mem_singleton]at hq;rcases hq with hq|hq|rfl
       ·simp only[dK,List.mem_map]at hq;obtain⟨j,hj,rfl⟩:=hq;exact⟨.inl (wz hK hv j hj),λe he=>by cases he⟩
       ·exact row fs' hlen q hq
       ·exact cel fs' hlen
      | fact sh Φ fs' =>
       simp only[ri];rintro⟨⟨_,hp,_⟩,hn,hd,hlen,hup⟩;refine⟨λj hj=>.inr (by rw[sh.k _ j hj];omega),λq hq=>?_⟩;simp only[List.mem_append,List.mem_cons,List.not_mem_nil,or_false]at hq;rcases hq with hq|hq|rfl|rfl
       ·simp only[dK,List.mem_map,List.mem_append]at hq;obtain⟨j,hj,rfl⟩:=hq;rcases hj with hj|hj
        ·exact⟨.inl (wz hK hv j hj),λe he=>by cases he⟩
        ·obtain⟨Φ',h'⟩:=hobj hp j hj;exact⟨.inl (hK j _ h').1,λe he=>by cases he⟩
       ·exact row fs' hlen q hq
       ·exact cel fs' hlen
       ·refine⟨.inr (by simp only;omega),λe he k hk=>?_⟩;simp only[Option.some.injEq]at he;subst he;cases hk
      |pan c _=>
       simp only[ri];rintro _;exact⟨λj hj=>(by cases hj),λq hq=>by cases hq⟩
  ·exact λhf=>hf.elim
 loc:=λW bs κ h h' args hside hr=>by
  revert hside hr;unfold EE;split
  ·rename_i k rest;generalize hg:mD G W bs h p.kinds rest=g;cases hkk:h k with
   |none=>exact λhf=>hf.elim
   | some e=>
    cases e with
    |row T s n vs=>exact λhf=>hf.elim
    |mp ks vs=>exact λhf=>hf.elim
    |obj d R=>exact λhf=>hf.elim
    | cells T' vs=>
     simp only[A9];cases hv:aB h vs with
     |none=>exact λhf=>hf.elim
     | some q=>
      obtain⟨fs,rs⟩:=q;simp only[A8];intro hside hr;have hp:g.p:=by
       revert hside;cases p.out fs g.as_<;>exact λh=>h.1.2.1
      have hr' : ∀ j∈k::(rs++g.rs),h' j=h j:=by
       revert hr;cases p.out fs g.as_<;>exact λh=>h
      have e1:h' k=some (.cells T' vs):=by rw[hr' k sI,hkk]
      have e2:mD G W bs h' p.kinds rest=g:=by
       rw[<- hg];exact zQ (by rw[hg];exact hp) (by rw[hg];exact λj hj=>hr' j (by simp[hj]))
      have e3:aB h' vs=some (fs,rs):=cN hv λj hj=>hr' j (by simp[hj])
      rw[e1,e2];simp only[A9,e3,A8]
  ·exact λhf=>hf.elim
theorem eX{P:Program}{f:FuncId}(p:uG P f)(G:Nat->Prop)(W:World)(bs:List Nat)(κ:Nat)(h:Hp)(l:List SV):(p.spec G).ev W bs κ h l=EE G h κ p.T W bs p.kinds p.pre p.out l:=rfl
def aE(w:World)(S:Nat->Prop):Nat->Prop:=λb=>b<w.heap.size->S b
def af(w:World)(S:Nat->Prop)(fp:List Nat):Nat->Prop:=λb=>b<w.heap.size->S b\/b∈fp
theorem aE.up(w:World)(S:Nat->Prop):Up (aE w S) w []:=λb hb hlt=>by
 rcases hb with hb|hb
 ·omega
 ·cases hb
theorem af.up(w:World)(S:Nat->Prop)(fp:List Nat):Up (af w S fp) w fp:=λb hb hlt=>by
 rcases hb with hb|hb
 ·omega
 ·exact .inr hb
theorem aE.eO(w:World)(S:Nat->Prop):aX w S w (bE (aE w S) []):=λb hb hS=>⟨rfl,λ_=>hS,sI⟩
theorem af.eO(w:World)(S:Nat->Prop)(fp:List Nat)(h:∀ b∈fp,¬ S b):aX w S w (bE (af w S fp) fp):=λb hb hS=>⟨rfl,λ_=>.inl hS,λhf=>h b hf hS⟩
def FF(w:World)(S:Nat->Prop)(W' : World)(bs' : List Nat)(x:SV):FOut->Prop
 |.val v=>∀ E,den E x=v
 |.fact sh Φ=>∃ cs,(∀ E,den E x=sh.val cs)/\Φ.Φ cs W' (bE (aE w S) bs')
 |.pan _ _=>False
theorem eJ{P:Program}{f:FuncId}{fn:Func}{c:Code}{args:Array Value}{w:World}{nt:Nat}{out:FOut}(S:Nat->Prop)(rs:List ResultVar)
  (hf:P.funcs[f]?=some fn) (hb:fn.body=some c) (hrs:fn.results.toList=rs) (hnt:args.size+(fn.ntmps-args.size)=nt)
  (h:Wp P w [] nt ⟨[],[]⟩ c (Fin P rs (λW' bs' x _=>FF w S W' bs' x out) (λc _=>∃ v,out=.pan c v)) (σ0 args.toList)) :
  Calls P f args w λe w' => kA w S e w' out:=by
 subst hrs;refine (n8 hf hb (sR args hnt) h).mono λe w' he=>?_
 cases e with
 | returned u=>
  obtain⟨W',bs',E,F,x,h,hx,hok,rfl,hs,_⟩:=he;cases out with
  |val v=>exact⟨by rw[hok E],hx.fA hs.keeps⟩
  |fact sh Φ=>
   obtain⟨cs,hd,hΦ⟩:=hok;exact⟨cs,by rw[hd E],Φ.mono (λb hb hr=>⟨hs.keeps.block b hb hr.2,hr.1⟩) hΦ,hx.fA hs.keeps⟩
  |pan c v=>exact hok.elim
 |panicked c=>
  obtain⟨W',bs',E,F,h',hx,⟨v,rfl⟩,hs,_⟩:=he;exact⟨rfl,hx.fA hs.keeps⟩
 |outgrown=>exact he.elim
def Mx(w:World)(S:Nat->Prop)(fp:List Nat)(T:TypeId)(W' : World)(bs' : List Nat)(x:SV)(h:Hp):GOut->Prop
 |.ret v fs' => (∀ E,den E x=v)/\∃ vs ks,h 0=some (.cells T vs)/\aB h vs=some (fs',ks)/\(0::ks).Nodup
 |.fact sh Φ fs' => (∃ cs,(∀ E,den E x=sh.val cs)/\Φ.Φ cs W' (bE (af w S fp) bs'))/\∃ vs ks,h 0=some (.cells T vs)/\aB h vs=some (fs',ks)/\(0::ks).Nodup
 |.pan _ _=>False
theorem dh{P:Program}{f:FuncId}{fn:Func}{c:Code}{w:World}{nt:Nat}{T:TypeId}{u:Value}{fp:List Nat}{fs:List AV}{out:GOut}(S:Nat->Prop)(us:Array Value)(rs:List ResultVar)
  (hlen:fs.length<=7) (ho:aW w u fp T fs) (hlt:∀ b∈fp,b<w.heap.size)
  (hf:P.funcs[f]?=some fn) (hb:fn.body=some c) (hrs:fn.results.toList=rs) (hnt:us.size+1+(fn.ntmps-(us.size+1))=nt)
  (h:Wp P w fp nt ⟨[],[(0,u)]⟩ c (Fin P rs (λW' bs' x h=>Mx w S fp T W' bs' x h out) (λc _=>∃ v,out=.pan c v)) (σB T fs us.toList)) :
  Calls P f (#[u]++us) w λe w' => u4 w S u fp T e w' out:=by
 subst hrs;have hsat:=BU (nt:=nt) (m:=fn.ntmps-(us.size+1)) us hlen ho hlt hnt;have hsz:(#[u]++us).size=us.size+1:=by simp;omega
 refine (n8 hf hb (by rw[hsz];exact hsat) h).mono λe w' he=>?_
 cases e with
 | returned v' =>
  obtain⟨W',bs',E,F,x,h',hx,hok,rfl,hs,hp⟩:=he;have hs' := hs.back hx;have hE:E 0=u:=hp (0,u) sI
  have back:∀ {vs ks fs'},h' 0=some (.cells T vs)->aB h' vs=some (fs',ks)->(0::ks).Nodup->aW w' u ((0::ks).flatMap F) T fs' /\ (∀ b∈(0::ks).flatMap F,b∈fp\/w.heap.size<=b)/\(∀ b∈(0::ks).flatMap F,b<w'.heap.size)/\∀ b∈(0::ks).flatMap F,W'.heap.size<=b\/b∈bs' := λ{vs ks fs'} h0 hv hn=>by
   have ho' := iN hs' h0 hv hn;rw[hE]at ho';have own:∀ b∈(0::ks).flatMap F,∃ j e,h' j=some e/\b∈F j:=λb hb=>by
    obtain⟨j,hj,hbj⟩:=List.mem_flatMap.1 hb;rcases List.mem_cons.1 hj with rfl|hj
    ·exact⟨_,_,h0,hbj⟩
    ·obtain⟨e,he⟩:=(cp hs' hv).2 j hj;exact⟨_,e,he,hbj⟩
   refine⟨ho',λb hb=>?_,λb hb=>?_,λb hb=>?_⟩
   ·obtain⟨j,e,he,hbj⟩:=own b hb;exact (hs'.mine j e he b hbj).symm
   ·obtain⟨j,e,he,hbj⟩:=own b hb;exact hs'.lt j e he b hbj
   ·obtain⟨j,e,he,hbj⟩:=own b hb;exact hs.mine j e he b hbj
  cases out with
  |ret v fs' =>
   obtain⟨hd,vs,ks,h0,hv,hn⟩:=hok;obtain⟨g1,g2,g3,_⟩:=back h0 hv hn;exact⟨by rw[hd E],⟨_,g1,g2,g3⟩,hs'.keeps⟩
  |fact sh Φ fs' =>
   obtain⟨⟨cs,hd,hΦ⟩,vs,ks,h0,hv,hn⟩:=hok;obtain⟨g1,g2,g3,g4⟩:=back h0 hv hn;exact⟨cs,by rw[hd E],⟨_,g1,g2,g3,Φ.mono (λb hb hr=>⟨hs.keeps.block b hb hr.2,hr.1,λhf=>(g4 b hf).elim (λg=>absurd g (Nat.not_le.2 hb)) hr.2⟩) hΦ⟩,hs'.keeps⟩
  |pan c v=>exact hok.elim
 |panicked c=>
  obtain⟨W',bs',E,F,h',hx,⟨_,rfl⟩,hs,hp⟩:=he;exact⟨rfl,(hs.back hx).keeps⟩
 |outgrown=>exact he.elim
section
variable (G:Nat->Prop)(W:World)(bs:List Nat)(h:Hp)(κ k:Nat)(T T' : TypeId)
theorem W6(x:Value):cG (.v x)=some x:=rfl
theorem Nc(k o:Nat):cG (.own k o)=none:=rfl
theorem SB(k:Nat):cG (.hd k)=none:=rfl
theorem Js(k i:Nat):cG (.part k i)=none:=rfl
theorem Na(l:List SV):cG (.agg l)=(gP l).map λvs=>.agg vs.toArray:=rfl
theorem Nb(t:TypeId)(x:SV):cG (.mU t x)=(cG x).map (.iface t):=rfl
theorem SA(f:Fn)(a c:List SV):cG (.fn f a c)=func2 f (gP a) (gP c):=rfl
theorem M9:gP []=some []:=rfl
theorem Jr(x:SV)(r:List SV):gP (x::r)=yQ (cG x) (gP r):=rfl
theorem M7(v:Value)(vs:List Value):yQ (some v) (some vs)=some (v::vs):=rfl
theorem M6(o:Option (List Value)):yQ none o=none:=rfl
theorem Jq(v:Value):yQ (some v) none=none:=rfl
theorem Ny(f:Fn)(a c:List Value):func2 f (some a) (some c)=some (.func f a.toArray c.toArray):=rfl
theorem DN(k i:Nat):lI (.part k i)=some k:=rfl
theorem Gb(k i:Nat)(r:List SV):lI (.agg (.part k i::r))=some k:=rfl
theorem adi:mD G W bs h [] []=⟨True,[],[],[]⟩:=rfl
theorem XG(kd:Kd)(ks:List Kd)(x:SV)(r:List SV):mD G W bs h (kd::ks) (x::r)=gvC (DB G W bs h kd x) (mD G W bs h ks r):=rfl
theorem XE(x:SV):DB G W bs h none x=ait (bK h x):=rfl
theorem XF(sh:Sh)(Φ:FK)(x:SV):DB G W bs h (some (sh,Φ)) x=gvF G W bs h sh Φ x (cG x) (lI x):=rfl
theorem Ta(a:AV)(r:List Nat):ait (some (a,r))=⟨True,a,r,[]⟩:=rfl
theorem aki(sh:Sh)(Φ:FK)(x:SV)(v:Value)(o:Option Nat):gvF G W bs h sh Φ x (some v) o=⟨∃ cs,v=sh.val cs/\Φ.Φ cs W (bE G bs),.val undef,[],[]⟩:=rfl
theorem akh(sh:Sh)(Φ:FK)(x:SV)(k:Nat):gvF G W bs h sh Φ x none (some k)=gvO G W bs sh Φ x k (h k):=rfl
theorem adj(sh:Sh)(Φ:FK)(x:SV)(k:Nat)(d:List Value)(R:List Value->Value->List Nat->World->Prop):gvO G W bs sh Φ x k (some (.obj d R))=⟨x=sh.tm k/\d=[]/\R=fX G W bs Φ,.val undef,[k],[k]⟩:=rfl
theorem aiu(p q:Prop)(a:AV)(as_:List AV)(r rs c cs:List Nat):gvC ⟨p,a,r,c⟩ ⟨q,as_,rs,cs⟩=⟨p/\q,a::as_,r++rs,c++cs⟩:=rfl
theorem Xx(pre:List AV->World->(Nat->Prop)->Prop)(out:List AV->FOut)(p:Prop)(as_:List AV)(rs cs:List Nat):AN G κ W bs pre out ⟨p,as_,rs,cs⟩=uZ G κ W bs (p/\pre as_ W (bE G bs)) rs cs (out as_):=rfl
theorem S3(q:Prop)(rs cs:List Nat)(v:Value):uZ G κ W bs q rs cs (.val v)=⟨q,.v v,[],none,[],rs⟩:=rfl
theorem Nx(q:Prop)(rs cs:List Nat)(sh:Sh)(Φ:FK):uZ G κ W bs q rs cs (.fact sh Φ)=⟨q/\Up G W bs,sh.tm (8*κ),dK cs++[(8*κ,some (.obj [] (fX G W bs Φ)))],none,[],rs⟩:=rfl
theorem S2(q:Prop)(rs cs:List Nat)(c:List PanicEntry)(v:Value):uZ G κ W bs q rs cs (.pan c v)=⟨q,.v v,[],some c,[],rs⟩:=rfl
theorem TD(kinds:List Kd)(pre:List AV->List AV->World->(Nat->Prop)->Prop)(out:List AV->List AV->GOut)(rest:List SV):EE G h κ T W bs kinds pre out (.own k 0::rest)=A9 G h κ k T W bs pre out (mD G W bs h kinds rest) (h k):=rfl
theorem JT(pre:List AV->List AV->World->(Nat->Prop)->Prop)(out:List AV->List AV->GOut)(g:GVL)(vs:List SV):A9 G h κ k T W bs pre out g (some (.cells T' vs))=A8 G κ k T T' W bs pre out g (aB h vs):=rfl
theorem X9(pre:List AV->List AV->World->(Nat->Prop)->Prop)(out:List AV->List AV->GOut)(p:Prop)(as_ fs:List AV)(rs cs rs0:List Nat):A8 G κ k T T' W bs pre out ⟨p,as_,rs,cs⟩ (some (fs,rs0))=ri G κ k T W bs (T' = T/\p/\pre fs as_ W (bE G bs)) rs0 rs cs (out fs as_):=rfl
theorem TG(q:Prop)(rs rs' cs:List Nat)(v:Value)(fs:List AV):ri G κ k T W bs q rs rs' cs (.ret v fs)=⟨q/\(k::rs).Nodup/\(∀ j∈rs',j∉k::rs)/\fs.length<=7,.v v,dK rs++(cF (bf (8*κ) fs)++[(k,some (.cells T (aO (8*κ) fs)))]),none,[],k::(rs++rs')⟩:=rfl
theorem NK(q:Prop)(rs rs' cs:List Nat)(sh:Sh)(Φ:FK)(fs:List AV):ri G κ k T W bs q rs rs' cs (.fact sh Φ fs)=⟨q/\(k::rs).Nodup/\(∀ j∈rs',j∉k::rs)/\fs.length<=7/\Up G W bs,sh.tm (8*κ+7),dK (rs++cs)++(cF (bf (8*κ) fs)++[(k,some (.cells T (aO (8*κ) fs))),(8*κ+7,some (.obj [] (fX G W bs Φ)))]),none,[],k::(rs++rs')⟩:=rfl
theorem TF(q:Prop)(rs rs' cs:List Nat)(c:List PanicEntry)(v:Value):ri G κ k T W bs q rs rs' cs (.pan c v)=⟨q/\(k::rs).Nodup/\(∀ j∈rs',j∉k::rs),.v v,[],some c,k::rs,k::(rs++rs')⟩:=rfl
theorem ahU(k:Nat):Sh.one.tm k=.part k 0:=rfl
theorem ahV(k:Nat):Sh.two.tm k=.agg [.part k 0,.part k 1]:=rfl
end
def alx:=aa @W6 <| aa @Nc <| aa @SB <| aa @Js <| aa @Na <| aa @Nb <| aa @SA <| aa @M9 <| aa @Jr <| aa @M7 <| aa @M6 <| aa @Jq <| aa @Ny <| aa @DN <| aa @Gb <| aa @adi <| aa @XG <| aa @XE <| aa @XF <| aa @Ta <| aa @aki <| aa @akh <| aa @adj <| aa @aiu <| aa @Xx <| aa @S3 <| aa @Nx <| aa @S2 <| aa @TD <| aa @JT <| aa @X9 <| aa @TG <| aa @NK <| aa @TF <| aa @ahU <| aa @ahV <| aa @cH @eX
theorem Aa{P:Program}{W:World}{bs:List Nat}{nt:Nat}{ds:Aux}{Q:lE}{σ:St}{x y:Code}{ι:Type}(I:ι->St)(V:ι->World)(B:ι->List Nat)(ok:ι->Prop)
  (h1:Wp P W bs nt ds x (Th (λW' bs' σ1=>∃ p,ok p/\V p=W' /\ B p=bs' /\ Le W' bs' nt ds σ1 (I p)) Q) σ)
  (h2:∀ p,ok p->Ext W bs (V p) (B p)->Wp P (V p) (B p) nt ds y Q (I p)):Wp P W bs nt ds (.seq x y) Q σ:=λa w hs=>
 wp_seq (wp_mono (h1 a w hs) λe a' w' ⟨W',bs',σ1,he,hq,hs'⟩=>by
  cases e with
  |normal=>
   obtain⟨p,hp,rfl,rfl,hle⟩:=hq
   exact wp_mono (h2 p hp he a' w' (hle a' w' hs')) λe' a'' w'' hh=>xQ he hh
  |_=>exact⟨W',bs',σ1,he,hq,hs'⟩)
structure yz (P:Program)(f:FuncId) where
 T:TypeId
 pre:World->List Nat->List AV->List AV->Prop
 res:World->List AV->List AV->Value
 enters:∀ args w,(callFunc f args).run P w=.ok (.enter f args) w
 ok:∀ (W w:World) (bs:List Nat) (u:Value) (fp:List Nat) (us:List Value) (fs as_:List AV),an W bs w->aW w u fp T fs->eS w us as_->pre W bs fs as_ ->
  Calls P f (u::us).toArray w λe w' => e=.returned (res W fs as_)/\an w [] w'
def BF(k:Nat)(T T' : TypeId)(pre:List AV->List AV->Prop)(res:List AV->List AV->Value)(as_:List AV)(rs' : List Nat):Option (List AV×List Nat)->R
 |some (fs,rs)=>⟨(T' = T/\(k::rs).Nodup)/\pre fs as_,.v (res fs as_),[],none,[],k::(rs++rs')⟩
 |none=>.bad
def BG(h:Hp)(k:Nat)(T:TypeId)(pre:List AV->List AV->Prop)(res:List AV->List AV->Value):Option a6->Option (List AV×List Nat)->R
 |some (.cells T' vs),some (as_,rs')=>BF k T T' pre res as_ rs' (aB h vs)
 |_,_=>.bad
def ER(h:Hp)(T:TypeId)(pre:List AV->List AV->Prop)(res:List AV->List AV->Value):List SV->R
 |.own k 0::rest=>BG h k T pre res (h k) (aB h rest)
 |_=>.bad
def yz.spec{P:Program}{f:FuncId}(p:yz P f):Spec P f where
 ev:=λW bs κ h args=>ER h p.T (p.pre W bs) (p.res W) args
 good:=λW bs κ E F h w K args hs hK hk hx hside=>by
  rw[p.enters];revert hside;unfold ER;split
  ·rename_i k rest;cases hkk:h k with
   |none=>exact λhf=>hf.elim
   | some e=>
    cases e with
    |row T s n vs=>exact λhf=>hf.elim
    |mp ks vs=>exact λhf=>hf.elim
    |obj d R=>exact λhf=>hf.elim
    | cells T' vs=>
     cases hr:aB h rest with
     |none=>exact λhf=>hf.elim
     | some q=>
      obtain⟨as_,rs'⟩:=q;simp only[BG];cases hv:aB h vs with
      |none=>exact λhf=>hf.elim
      |some q=>
       obtain⟨fs,rs⟩:=q;simp only[BF];rintro⟨⟨rfl,hn⟩,hp⟩;have hent:=hs.ent k _ hkk;obtain⟨b,hu,_,_⟩:=hent;have hden:den E (.own k 0)=E k:=by simp[den,hu,base,df]
       have ho:=iN hs hkk hv hn;have:=p.ok W w bs (E k) _ (aj E rest) fs as_ hs.keeps ho (ei hs hr) hp;have e:aj E (.own k 0::rest)=E k::aj E rest:=by simp only[aj,hden]
       rw[e];exact xu hs this rfl rfl rfl
  ·exact λhf=>hf.elim
 keys:=λW bs κ h K args hK hx hside=>by
  revert hside;unfold ER;split
  ·rename_i k rest;cases hkk:h k with
   |none=>exact λhf=>hf.elim
   | some e=>
    cases e with
    |row T s n vs=>exact λhf=>hf.elim
    |mp ks vs=>exact λhf=>hf.elim
    |obj d R=>exact λhf=>hf.elim
    | cells T' vs=>
     cases hr:aB h rest with
     |none=>exact λhf=>hf.elim
     | some q=>
      obtain⟨as_,rs'⟩:=q;simp only[BG];cases hv:aB h vs with
      |none=>exact λhf=>hf.elim
      |some q=>
       obtain⟨fs,rs⟩:=q;simp only[BF];exact λ_=>aP.plain (λk hk=>by cases hk) rfl
  ·exact λhf=>hf.elim
 loc:=λW bs κ h h' args hside hr=>by
  revert hside hr;unfold ER;split
  ·rename_i k rest;cases hkk:h k with
   |none=>exact λhf=>hf.elim
   | some e=>
    cases e with
    |row T s n vs=>exact λhf=>hf.elim
    |mp ks vs=>exact λhf=>hf.elim
    |obj d R=>exact λhf=>hf.elim
    | cells T' vs=>
     cases hrr:aB h rest with
     |none=>exact λhf=>hf.elim
     | some q=>
      obtain⟨as_,rs'⟩:=q;simp only[BG];cases hv:aB h vs with
      |none=>exact λhf=>hf.elim
      |some q=>
       obtain⟨fs,rs⟩:=q;simp only[BF];intro _ hr;have e1:h' k=some (.cells T' vs):=by rw[hr k sI,hkk]
       have e2:aB h' rest=some (as_,rs'):=cN hrr λj hj=>hr j (by simp[hj])
       have e3:aB h' vs=some (fs,rs):=cN hv λj hj=>hr j (by simp[hj])
       rw[e1,e2];simp only[BG,e3,BF]
  ·exact λhf=>hf.elim
section
variable (h:Hp)(k:Nat)(T T' : TypeId)(pre:List AV->List AV->Prop)(res:List AV->List AV->Value)
theorem YX{P:Program}{f:FuncId}(p:yz P f)(W:World)(bs:List Nat)(κ:Nat)(h:Hp)(l:List SV):p.spec.ev W bs κ h l=ER h p.T (p.pre W bs) (p.res W) l:=rfl
theorem Um(rest:List SV):ER h T pre res (.own k 0::rest)=BG h k T pre res (h k) (aB h rest):=rfl
theorem Kw(vs:List SV)(as_:List AV)(rs' : List Nat):BG h k T pre res (some (.cells T' vs)) (some (as_,rs'))=BF k T T' pre res as_ rs' (aB h vs):=rfl
theorem N6(as_ fs:List AV)(rs' rs:List Nat):BF k T T' pre res as_ rs' (some (fs,rs))=⟨(T' = T/\(k::rs).Nodup)/\pre fs as_,.v (res fs as_),[],none,[],k::(rs++rs')⟩:=rfl
end
section
variable {P:Program}(κ:Nat)(h:Hp)(T:TypeId)
theorem Hd(k:Nat)(ik:IntKind)(b:Int):fH P κ h T false true false [.hd k,.v (.int ik b)]=E7 P κ k b (P.underlying T) (h k):=rfl
theorem Po(k:Nat)(b:Int)(e e' : TypeId)(s n:Nat)(vs:List SV):E7 P κ k b (some (.slice e)) (some (.row e' s n vs))=ya κ k b e' s n vs (ts P e):=rfl
theorem Lf(k:Nat)(b:Int)(e s n s' : Nat)(vs:List SV):ya κ k b e s n vs (some s')=⟨s' = s/\0<=b/\b.toNat<=n,.hd (8*κ),[(k,none),(8*κ,some (.row e s b.toNat (vs.take (b.toNat*s))))],none,[],[k]⟩:=rfl
end
def alz:=aa @Hd <| aa @Po @Lf
def aly:=aa @YX <| aa @Um <| aa @Kw @N6
theorem xJ{w:World}{u:Value}{fp:List Nat}{T:TypeId}{fs:List AV}(h:aW w u fp T fs):∃ b us,u=.pointer (some ⟨b,0,none⟩)/\eS w us fs/\∀ j (hj:j<us.length),w.cell? ⟨b,j,none⟩=some us[j]:=by
 obtain⟨b,us,h1,h2,h3,_⟩:=h;exact⟨b,us,h1,h3,λj hj=>cell_of h2 j hj⟩
def zU(w:World)(u:Value)(fp:List Nat)(T:TypeId)(fs:List AV)(xs:List Value):Prop:=
 ∃ b us,u=.pointer (some ⟨b,0,none⟩)/\w.heap[b]?=some (.cells (us++xs).toArray T (0,0))/\eS w us fs/\fp=b::zr us fs/\(b::zr us fs).Nodup
def ahv(w:World)(u:Value)(fp:List Nat)(T:TypeId)(xs:List Value)(e:Ending)(w' : World):BOut->Prop
 |.ret v fs=>e=.returned v/\(∃ fp',zU w' u fp' T fs xs/\(∀ b∈fp',b∈fp\/w.heap.size<=b)/\∀ b∈fp',b<w'.heap.size)/\an w fp w'
 |.pan c _=>e=.panicked c/\an w fp w'
structure Wk (P:Program)(f:FuncId) where
 T:TypeId
 m:Nat
 pre:World->List Nat->List AV->List AV->Prop
 out:World->List AV->List AV->BOut
 enters:∀ args w,(callFunc f args).run P w=.ok (.enter f args) w
 ok:∀ (W w:World) (bs:List Nat) (u:Value) (fp:List Nat) (us:List Value) (fs as_:List AV) (xs:List Value),an W bs w->zU w u fp T fs xs->(∀ b∈fp,b<w.heap.size)->(∀ b∈fp,W.heap.size<=b\/b∈bs)->eS w us as_->pre W bs fs as_ ->
  Calls P f (u::us).toArray w λe w' => ahv w u fp T xs e w' (out W fs as_)
def BD(κ k:Nat)(T:TypeId)(ys:List SV)(pre:Prop)(rs rs' : List Nat):BOut->R
 |.ret v fs=>⟨pre/\(k::rs).Nodup/\(∀ j∈rs',j∉k::rs)/\fs.length<=8,.v v,dK rs++(cF (bf (8*κ) fs)++[(k,some (.cells T (aO (8*κ) fs++ys)))]),none,[],k::(rs++rs')⟩
 |.pan c v=>⟨pre/\(k::rs).Nodup/\(∀ j∈rs',j∉k::rs),.v v,[],some c,k::rs,k::(rs++rs')⟩
def BB(κ k:Nat)(T T' : TypeId)(ys:List SV)(pre:List AV->List AV->Prop)(out:List AV->List AV->BOut)(as_:List AV)(rs' : List Nat):Option (List AV×List Nat)->R
 |some (fs,rs)=>BD κ k T ys (T' = T/\pre fs as_) rs rs' (out fs as_)
 |none=>.bad
def BC(h:Hp)(κ k:Nat)(T:TypeId)(m:Nat)(pre:List AV->List AV->Prop)(out:List AV->List AV->BOut):Option a6->Option (List AV×List Nat)->R
 |some (.cells T' vs),some (as_,rs')=>BB κ k T T' (vs.drop m) pre out as_ rs' (aB h (vs.take m))
 |_,_=>.bad
def EP(h:Hp)(κ:Nat)(T:TypeId)(m:Nat)(pre:List AV->List AV->Prop)(out:List AV->List AV->BOut):List SV->R
 |.own k 0::rest=>BC h κ k T m pre out (h k) (aB h rest)
 |_=>.bad
section
variable {P:Program}{W:World}{bs:List Nat}{κ:Nat}{E:Nat->Value}{F:Nat->List Nat}{h:Nat->Option a6}{w:World}{K:Nat->Prop}
theorem GM(hs:ak W bs E F h w){k:Nat}{T:TypeId}{vs ys:List SV}{fs:List AV}{rs:List Nat}(hk:h k=some (.cells T (vs++ys)))(hv:aB h vs=some (fs,rs))(hn:(k::rs).Nodup) :
  zU w (E k) ((k::rs).flatMap F) T fs (aj E ys):=by
 obtain⟨b,h1,h2,h3⟩:=hs.ent k _ hk;obtain⟨g1,g2⟩:=cp hs hv;have hnd:=o8 hs (ks:=k::rs) hn λj hj=>by
  rcases List.mem_cons.1 hj with rfl|hj
  ·exact⟨_,hk,λ_ _ e=>by cases e⟩
  ·exact iG hv j hj
 have hfp:(k::rs).flatMap F=b::zr (aj E vs) fs:=by
  rw[List.flatMap_cons,h2,g1];rfl
 refine⟨b,aj E vs,h1,by rw[h3,ek],ei hs hv,hfp,by rw[<- hfp];exact hnd⟩
theorem Ul{w' : World}{k:Nat}{T:TypeId}{vs ys:List SV}{fs fs' : List AV}{rs fp' : List Nat}(hs:ak W bs E F h w)(hK:bL K h)(hk:∀ k,k / 8=κ->¬ K k)
  (hkk:h k=some (.cells T (vs++ys))) (hv:aB h vs=some (fs,rs)) (hlen:fs'.length<=8) (hn:(k::rs).Nodup)
  (ho:zU w' (E k) fp' T fs' (aj E ys)) (h1:∀ b∈fp',b∈(k::rs).flatMap F\/w.heap.size<=b) (h2:∀ b∈fp',b<w'.heap.size) (hkeep:an w ((k::rs).flatMap F) w') :
  ∃ E' F',(∀ j,j / 8≠κ->E' j=E j)/\ak W bs E' F' (a7 h (dK rs++(cF (bf (8*κ) fs')++[(k,some (.cells T (aO (8*κ) fs' ++ ys)))]))) w' := by
 obtain⟨b,us,hu,hb,hus,rfl,hnd⟩:=ho;have hl:=jM hus;have hKk:K k:=(hK k _ hkk).1;have hfr:∀ j,8*κ<=j->j<8*κ+8->¬ K j:=λj g1 g2=>hk j oM
 have hkf:k<8*κ\/8*κ+8<=k:=by
  by_cases g1:k<8*κ
  ·exact .inl g1
  ·by_cases g2:8*κ+8<=k
   ·exact .inr g2
   ·exact absurd hKk (hfr k oM oM)
 have hE:∀ j,j / 8≠κ->gv (8*κ) us E j=E j:=λj hj=>mq oM
 have hsome:∀ p∈cF (bf (8*κ) fs')++[(k,some (.cells T (aO (8*κ) fs' ++ ys)))],∃ e,p.2=some e:=λp hp=>by
  rcases List.mem_append.1 hp with hp|hp
  ·obtain⟨e,he,_⟩:=fI.1 hp;exact⟨e,by rw[he]⟩
  ·simp at hp;exact⟨_,by rw[hp]⟩
 have hNm:∀ j e,a7 (λ_=>none) (cF (bf (8*κ) fs')++[(k,some (.cells T (aO (8*κ) fs' ++ ys)))]) j=some e->(j=k/\e=.cells T (aO (8*κ) fs' ++ ys))\/(j≠k/\(j,e)∈bf (8*κ) fs'):=λj e he=>by
  rw[b7]at he;simp only[a7]at he;by_cases hj:j=k
  ·subst hj;rw[ah]at he;cases he;exact .inl ⟨rfl,rfl⟩
  ·rw[al _ _ hj]at he;rcases kJ (λ_=>(none:Option a6)) (k:=j) (u:=cF (bf (8*κ) fs')) with ⟨x,hx,hx'⟩|⟨_,hx'⟩
   ·rw[hx']at he;subst he;obtain⟨e',h3,h4⟩:=fI.1 hx;simp only[Prod.mk.injEq,true_and,Option.some.injEq]at h3;subst h3;exact .inr ⟨hj,h4⟩
   ·rw[hx']at he;cases he
 have hNk:a7 (λ_=>none) (cF (bf (8*κ) fs')++[(k,some (.cells T (aO (8*κ) fs' ++ ys)))]) k=some (.cells T (aO (8*κ) fs' ++ ys)):=by
  rw[b7];simp[a7,ah]
 have hb' : b∉zr us fs' := (List.nodup_cons.1 hnd).1;have hnd' : (zr us fs').Nodup:=(List.nodup_cons.1 hnd).2;refine⟨gv (8*κ) us E,bn (ij (8*κ) us fs' F) k [b],hE,?_⟩
 refine hs.lV hK (k::rs) (a7 (λ_=>none) (cF (bf (8*κ) fs')++[(k,some (.cells T (aO (8*κ) fs' ++ ys)))])) (λj hj=>?_) (λj hj=>hE j λe=>hk j e hj) (λj e he=>?_) (λi j e e' hij hi hj c hc=>?_) (λj x hx hj=>?_) (λj=>?_) hkeep
 ·rcases List.mem_cons.1 hj with rfl|hj
  ·exact⟨_,hkk⟩
  ·exact (cp hs hv).2 j hj
 ·rcases hNm j e he with ⟨rfl,rfl⟩|⟨hjk,hm⟩
  ·rw[ah,hE j λe=>hk j e hKk];refine⟨⟨b,hu,rfl,by rw[ek,fW hus,bB (E' := E) ys λi hi=>hE i λe=>hk i e ((hK _ _ hkk).2 i (by simp only[a6.keys,aT];exact List.mem_append_right _ hi))];exact hb⟩,λc hc=>?_,λc hc=>h2 c (by simp at hc;simp[hc])⟩;simp only[List.mem_singleton]at hc;subst hc
   rcases h1 c sI with g|g
   ·obtain⟨i,hi,hci⟩:=List.mem_flatMap.1 g;exact .inl ⟨i,hi,hci⟩
   ·exact .inr g
  ·rw[al _ _ hjk];obtain⟨g1,g2⟩:=iR (E:=E) (F:=F) hus hm (gv (8*κ) us E);refine⟨g1,λc hc=>?_,λc hc=>h2 c (List.mem_cons_of_mem _ (g2 c hc))⟩;rcases h1 c (List.mem_cons_of_mem _ (g2 c hc)) with g|g
   ·obtain⟨i,hi,hci⟩:=List.mem_flatMap.1 g;exact .inl ⟨i,hi,hci⟩
   ·exact .inr g
 ·rcases hNm i e hi with ⟨rfl,rfl⟩|⟨hik,hmi⟩
  ·rcases hNm j e' hj with ⟨rfl,rfl⟩|⟨hjk,hmj⟩
   ·exact absurd rfl hij
   ·rw[ah]at hc;rw[al _ _ hjk];simp only[List.mem_singleton]at hc;subst hc;exact λhc' => hb' (cD hl hmj c hc')
  ·rw[al _ _ hik]at hc;rcases hNm j e' hj with ⟨rfl,rfl⟩|⟨hjk,hmj⟩
   ·rw[ah];intro hc';simp only[List.mem_singleton]at hc';subst hc';exact hb' (cD hl hmi c hc)
   ·rw[al _ _ hjk];exact iQ hnd' hmi hmj hl hij c hc
 ·have hjk:j≠k:=λe=>by rw[e,hNk]at hj;cases hj
  rw[al _ _ hjk];have hKj:=(hK j x hx).1;by_cases g1:j<8*κ
  ·exact j9 (.inl g1)
  ·by_cases g2:8*κ+8<=j
   ·exact j9 (.inr oM)
   ·exact absurd hKj (hfr j oM oM)
 ·rw[b7,kb _ _ _ hsome,ka];cases hN:a7 (λ_=>none) (cF (bf (8*κ) fs')++[(k,some (.cells T (aO (8*κ) fs' ++ ys)))]) j with
  |some e=>rfl
  |none=>
   have hjk:j≠k:=λe=>by rw[e,hNk]at hN;cases hN
   simp[hjk]
end
def Wk.spec{P:Program}{f:FuncId}(p:Wk P f):Spec P f where
 ev:=λW bs κ h args=>EP h κ p.T p.m (p.pre W bs) (p.out W) args
 good:=λW bs κ E F h w K args hs hK hk hx hside=>by
  rw[p.enters];revert hside;unfold EP;split
  ·rename_i k rest;cases hkk:h k with
   |none=>exact λhf=>hf.elim
   | some e=>
    cases e with
    |row T s n vs=>exact λhf=>hf.elim
    |mp ks vs=>exact λhf=>hf.elim
    |obj d R=>exact λhf=>hf.elim
    | cells T' vs=>
     cases hr:aB h rest with
     |none=>exact λhf=>hf.elim
     | some q=>
      obtain⟨as_,rs'⟩:=q;simp only[BC];have hsplit:vs=vs.take p.m++vs.drop p.m:=(List.take_append_drop _ _).symm;cases hv:aB h (vs.take p.m) with
      |none=>exact λhf=>hf.elim
      | some q=>
       obtain⟨fs,rs⟩:=q;simp only[BB];have hent:=hs.ent k _ hkk;obtain⟨b,hu,_,_⟩:=hent;have hden:den E (.own k 0)=E k:=by simp[den,hu,base,df]
       have call:∀ hn:(k::rs).Nodup,T' = p.T->p.pre W bs fs as_->Calls P f (aj E (.own k 0::rest)).toArray w λe w' => ahv w (E k) ((k::rs).flatMap F) p.T (aj E (vs.drop p.m)) e w' (p.out W fs as_):=λhn hT hp=>by
        subst hT;have ho:=GM hs (hsplit ▸ hkk) hv hn;have:=p.ok W w bs (E k) _ (aj E rest) fs as_ _ hs.keeps ho (λc hc=>?_) (λc hc=>?_) (ei hs hr) hp
        ·simpa only[aj,hden] using this
        ·obtain⟨j,hj,hcj⟩:=List.mem_flatMap.1 hc;rcases List.mem_cons.1 hj with rfl|hj
         ·exact hs.lt _ _ hkk c hcj
         ·obtain⟨e,he⟩:=(cp hs hv).2 j hj;exact hs.lt j e he c hcj
        ·obtain⟨j,hj,hcj⟩:=List.mem_flatMap.1 hc;rcases List.mem_cons.1 hj with rfl|hj
         ·exact hs.mine _ _ hkk c hcj
         ·obtain⟨e,he⟩:=(cp hs hv).2 j hj;exact hs.mine j e he c hcj
       cases hout:p.out W fs as_ with
       |ret v fs' =>
        simp only[BD];rintro⟨⟨hT,hp⟩,hn,hd,hlen⟩;have hc:=call hn hT hp;rw[hout]at hc;subst hT;refine hc.mono λe w' he=>?_
        obtain⟨rfl,⟨fp',ho,h1,h2⟩,hkeep⟩:=he;obtain⟨E',F',hE',hs'⟩:=Ul hs hK hk (hsplit ▸ hkk) hv hlen hn ho h1 h2 hkeep;exact⟨rfl,E',F',hE',rfl,hs'⟩
       | pan c _=>
        simp only[BD];rintro⟨⟨hT,hp⟩,hn,hd⟩;have hc:=call hn hT hp;rw[hout]at hc;refine hc.mono λe w' he=>?_
        obtain⟨rfl,hkeep⟩:=he;refine⟨rfl,F,?_⟩;refine hs.lV hK (k::rs) (λ_=>none) (λj hj=>?_) (λ_ _=>rfl) (λj e he=>by cases he) (λi j e e' _ he=>by cases he) (λ_ _ _ _=>rfl) (λj=>?_) hkeep
        ·rcases List.mem_cons.1 hj with rfl|hj
         ·exact⟨_,hkk⟩
         ·exact (cp hs hv).2 j hj
        ·simp only[dropKeys]
  ·exact λhf=>hf.elim
 keys:=λW bs κ h K args hK hx hside=>by
  revert hside;unfold EP;split
  ·rename_i k rest;cases hkk:h k with
   |none=>exact λhf=>hf.elim
   | some e=>
    cases e with
    |row T s n vs=>exact λhf=>hf.elim
    |mp ks vs=>exact λhf=>hf.elim
    |obj d R=>exact λhf=>hf.elim
    | cells T' vs=>
     cases hr:aB h rest with
     |none=>exact λhf=>hf.elim
     | some q=>
      obtain⟨as_,rs'⟩:=q;simp only[BC];have hsplit:vs=vs.take p.m++vs.drop p.m:=(List.take_append_drop _ _).symm;cases hv:aB h (vs.take p.m) with
      |none=>exact λhf=>hf.elim
      | some q=>
       obtain⟨fs,rs⟩:=q;simp only[BB];cases hout:p.out W fs as_ with
       | ret v fs' =>
        simp only[BD];rintro⟨_,hn,hd,hlen⟩;refine⟨λj hj=>(by cases hj),λq hq=>?_⟩;simp only[List.mem_append,List.mem_singleton]at hq;rcases hq with hq|hq|rfl
        ·simp only[dK,List.mem_map]at hq;obtain⟨j,hj,rfl⟩:=hq;exact⟨.inl (wz hK hv j hj),λe he=>by cases he⟩
        ·obtain⟨e,h1,h2⟩:=fI.1 hq;obtain⟨h3,h4⟩:=zY hlen h2;refine⟨.inr h3,λe' he' j hj=>?_⟩;rw[h1]at he';simp only[Option.some.injEq]at he';subst he';rw[h4]at hj;cases hj
        ·refine⟨.inl (hK k _ hkk).1,λe' he' j hj=>?_⟩;simp only[Option.some.injEq]at he';subst he';simp only[a6.keys,aT,List.mem_append]at hj;rcases hj with hj|hj
         ·have:=cm j hj;exact .inr oM
         ·refine .inl ((hK k _ hkk).2 j ?_);simp only[a6.keys];rw[hsplit,aT];exact List.mem_append_right _ hj
       |pan c _=>
        simp only[BD];rintro _;exact⟨λj hj=>(by cases hj),λq hq=>by cases hq⟩
  ·exact λhf=>hf.elim
 loc:=λW bs κ h h' args hside hr=>by
  revert hside hr;unfold EP;split
  ·rename_i k rest;cases hkk:h k with
   |none=>exact λhf=>hf.elim
   | some e=>
    cases e with
    |row T s n vs=>exact λhf=>hf.elim
    |mp ks vs=>exact λhf=>hf.elim
    |obj d R=>exact λhf=>hf.elim
    | cells T' vs=>
     cases hrr:aB h rest with
     |none=>exact λhf=>hf.elim
     | some q=>
      obtain⟨as_,rs'⟩:=q;simp only[BC];have hsplit:vs=vs.take p.m++vs.drop p.m:=(List.take_append_drop _ _).symm;cases hv:aB h (vs.take p.m) with
      |none=>exact λhf=>hf.elim
      | some q=>
       obtain⟨fs,rs⟩:=q;simp only[BB];have key:∀ r:R,(∀ j∈r.reads,h' j=h j)->r.reads=k::(rs++rs')->h' k=some (.cells T' vs)/\aB h' rest=some (as_,rs')/\aB h' (vs.take p.m)=some (fs,rs):=λr hr he=>by
        rw[he]at hr;exact⟨by rw[hr k sI,hkk],cN hrr λj hj=>hr j (by simp[hj]),cN hv λj hj=>hr j (by simp[hj])⟩
       intro _ hr;obtain⟨g1,g2,g3⟩:=key _ hr (by cases p.out W fs as_<;>rfl);rw[g1,g2];simp only[BC,g3,BB]
  ·exact λhf=>hf.elim
section
variable (h:Hp)(κ k:Nat)(T T' : TypeId)(m:Nat)(pre:List AV->List AV->Prop)(out:List AV->List AV->BOut)
theorem YV{P:Program}{f:FuncId}(p:Wk P f)(W:World)(bs:List Nat)(κ:Nat)(h:Hp)(l:List SV):p.spec.ev W bs κ h l=EP h κ p.T p.m (p.pre W bs) (p.out W) l:=rfl
theorem Uj(rest:List SV):EP h κ T m pre out (.own k 0::rest)=BC h κ k T m pre out (h k) (aB h rest):=rfl
theorem Kq(vs:List SV)(as_:List AV)(rs' : List Nat):BC h κ k T m pre out (some (.cells T' vs)) (some (as_,rs'))=BB κ k T T' (vs.drop m) pre out as_ rs' (aB h (vs.take m)):=rfl
theorem N3(ys:List SV)(as_:List AV)(rs' : List Nat)(fs:List AV)(rs:List Nat):BB κ k T T' ys pre out as_ rs' (some (fs,rs))=BD κ k T ys (T' = T/\pre fs as_) rs rs' (out fs as_):=rfl
theorem Uk(ys:List SV)(q:Prop)(rs rs' : List Nat)(v:Value)(fs:List AV):BD κ k T ys q rs rs' (.ret v fs)=⟨q/\(k::rs).Nodup/\(∀ j∈rs',j∉k::rs)/\fs.length<=8,.v v,dK rs++(cF (bf (8*κ) fs)++[(k,some (.cells T (aO (8*κ) fs++ys)))]),none,[],k::(rs++rs')⟩:=rfl
end
def alA:=aa @YV <| aa @Uj <| aa @Kq <| aa @N3 @Uk
def σP(T:TypeId)(fs:List AV)(xs args:List Value):St:=⟨1,dZ ((0,.is (.own 0 0))::uH args 1),dM ((0,.cells T (aO 1 fs++xs.map .v))::bf 1 fs)⟩
structure FE (P:Program)(f:FuncId) where
 T:TypeId
 pre:World->List Nat->List AV->List AV->Prop
 out:World->List AV->List AV->BOut
 enters:∀ args w,(callFunc f args).run P w=.ok (.enter f args) w
 ok:∀ (W w:World) (bs:List Nat) (u:Value) (fp:List Nat) (us:List Value) (fs as_:List AV),an W bs w->aW w u fp T fs->(∀ b∈fp,b<w.heap.size)->(∀ b∈fp,W.heap.size<=b\/b∈bs)->eS w us as_->pre W bs fs as_ ->
  Calls P f (us++[u]).toArray w λe w' => dA w u fp T e w' (out W fs as_)
def n7(h:Hp)(κ:Nat)(T:TypeId)(pre:List AV->List AV->Prop)(out:List AV->List AV->BOut):List SV->R
 |[x,y,.own k 0]=>gC h κ k T pre out (h k) (aB h [x,y])
 |_=>.bad
theorem FQ(h:Hp)(κ k:Nat)(T:TypeId)(pre:List AV->List AV->Prop)(out:List AV->List AV->BOut)(x y:SV):n7 h κ T pre out [x,y,.own k 0]=gC h κ k T pre out (h k) (aB h [x,y]):=by
 cases x<;>rfl
def FE.spec{P:Program}{f:FuncId}(p:FE P f):Spec P f where
 ev:=λW bs κ h args=>n7 h κ p.T (p.pre W bs) (p.out W) args
 good:=λW bs κ E F h w K args hs hK hk hx hside=>by
  rw[p.enters];revert hside;unfold n7;split
  ·rename_i x y k;cases hkk:h k with
   |none=>exact λhf=>hf.elim
   | some e=>
    cases e with
    |row T s n vs=>exact λhf=>hf.elim
    |mp ks vs=>exact λhf=>hf.elim
    |obj d R=>exact λhf=>hf.elim
    | cells T' vs=>
     cases hr:aB h [x,y] with
     |none=>exact λhf=>hf.elim
     | some q=>
      obtain⟨as_,rs'⟩:=q;simp only[gC];cases hv:aB h vs with
      |none=>exact λhf=>hf.elim
      | some q=>
       obtain⟨fs,rs⟩:=q;simp only[je];have hent:=hs.ent k _ hkk;obtain⟨b,hu,_,_⟩:=hent;have hden:den E (.own k 0)=E k:=by simp[den,hu,base,df]
       have call:∀ hn:(k::rs).Nodup,T' = p.T->p.pre W bs fs as_->Calls P f (aj E [x,y,.own k 0]).toArray w λe w' => dA w (E k) ((k::rs).flatMap F) p.T e w' (p.out W fs as_):=λhn hT hp=>by
        subst hT;have ho:=iN hs hkk hv hn;have:=p.ok W w bs (E k) _ [den E x,den E y] fs as_ hs.keeps ho (λc hc=>?_) (λc hc=>?_) (ei hs hr) hp
        ·simp only[aj,hden];exact this
        ·obtain⟨j,hj,hcj⟩:=List.mem_flatMap.1 hc;rcases List.mem_cons.1 hj with rfl|hj
         ·exact hs.lt _ _ hkk c hcj
         ·obtain⟨e,he⟩:=(cp hs hv).2 j hj;exact hs.lt j e he c hcj
        ·obtain⟨j,hj,hcj⟩:=List.mem_flatMap.1 hc;rcases List.mem_cons.1 hj with rfl|hj
         ·exact hs.mine _ _ hkk c hcj
         ·obtain⟨e,he⟩:=(cp hs hv).2 j hj;exact hs.mine j e he c hcj
       cases hout:p.out W fs as_ with
       |ret v fs' =>
        simp only[im];rintro⟨⟨hT,hp⟩,hn,hd,hlen⟩;have hc:=call hn hT hp;rw[hout]at hc;subst hT;refine hc.mono λe w' he=>?_
        obtain⟨rfl,⟨fp',ho,h1,h2⟩,hkeep⟩:=he;obtain⟨E',F',hE',hs'⟩:=qR hs hK hk hkk hv hlen hn ho h1 h2 hkeep;exact⟨rfl,E',F',hE',rfl,hs'⟩
       | pan c _=>
        simp only[im];rintro⟨⟨hT,hp⟩,hn,hd⟩;have hc:=call hn hT hp;rw[hout]at hc;refine hc.mono λe w' he=>?_
        obtain⟨rfl,hkeep⟩:=he;refine⟨rfl,F,?_⟩;refine hs.lV hK (k::rs) (λ_=>none) (λj hj=>?_) (λ_ _=>rfl) (λj e he=>by cases he) (λi j e e' _ he=>by cases he) (λ_ _ _ _=>rfl) (λj=>?_) hkeep
        ·rcases List.mem_cons.1 hj with rfl|hj
         ·exact⟨_,hkk⟩
         ·exact (cp hs hv).2 j hj
        ·simp only[dropKeys]
  ·exact λhf=>hf.elim
 keys:=λW bs κ h K args hK hx hside=>by
  revert hside;unfold n7;split
  ·rename_i x y k;cases hkk:h k with
   |none=>exact λhf=>hf.elim
   | some e=>
    cases e with
    |row T s n vs=>exact λhf=>hf.elim
    |mp ks vs=>exact λhf=>hf.elim
    |obj d R=>exact λhf=>hf.elim
    | cells T' vs=>
     cases hr:aB h [x,y] with
     |none=>exact λhf=>hf.elim
     | some q=>
      obtain⟨as_,rs'⟩:=q;simp only[gC];cases hv:aB h vs with
      |none=>exact λhf=>hf.elim
      | some q=>
       obtain⟨fs,rs⟩:=q;simp only[je];cases hout:p.out W fs as_ with
       | ret v fs' =>
        simp only[im];rintro⟨_,hn,hd,hlen⟩;refine⟨λj hj=>(by cases hj),λq hq=>?_⟩;simp only[List.mem_append,List.mem_singleton]at hq;rcases hq with hq|hq|rfl
        ·simp only[dK,List.mem_map]at hq;obtain⟨j,hj,rfl⟩:=hq;exact⟨.inl (wz hK hv j hj),λe he=>by cases he⟩
        ·obtain⟨e,h1,h2⟩:=fI.1 hq;obtain⟨h3,h4⟩:=zY hlen h2;refine⟨.inr h3,λe' he' j hj=>?_⟩;rw[h1]at he';simp only[Option.some.injEq]at he';subst he';rw[h4]at hj;cases hj
        ·refine⟨.inl (hK k _ hkk).1,λe' he' j hj=>.inr ?_⟩;simp only[Option.some.injEq]at he';subst he';have:=cm j hj;omega
       |pan c _=>
        simp only[im];rintro _;exact⟨λj hj=>(by cases hj),λq hq=>by cases hq⟩
  ·exact λhf=>hf.elim
 loc:=λW bs κ h h' args hside hr=>by
  revert hside hr;unfold n7;split
  ·rename_i x y k;cases hkk:h k with
   |none=>exact λhf=>hf.elim
   | some e=>
    cases e with
    |row T s n vs=>exact λhf=>hf.elim
    |mp ks vs=>exact λhf=>hf.elim
    |obj d R=>exact λhf=>hf.elim
    | cells T' vs=>
     cases hrr:aB h [x,y] with
     |none=>exact λhf=>hf.elim
     | some q=>
      obtain⟨as_,rs'⟩:=q;simp only[gC];cases hv:aB h vs with
      |none=>exact λhf=>hf.elim
      | some q=>
       obtain⟨fs,rs⟩:=q;simp only[je];have key:∀ r:R,(∀ j∈r.reads,h' j=h j)->r.reads=k::(rs++rs')->h' k=some (.cells T' vs)/\aB h' [x,y]=some (as_,rs')/\aB h' vs=some (fs,rs):=λr hr he=>by
        rw[he]at hr;exact⟨by rw[hr k sI,hkk],cN hrr λj hj=>hr j (by simp[hj]),cN hv λj hj=>hr j (by simp[hj])⟩
       intro _ hr;obtain⟨g1,g2,g3⟩:=key _ hr (by cases p.out W fs as_<;>rfl);rw[g1,g2];simp only[gC,g3,je]
  ·exact λhf=>hf.elim
theorem MN{P:Program}{f:FuncId}(p:FE P f)(W:World)(bs:List Nat)(κ:Nat)(h:Hp)(l:List SV):p.spec.ev W bs κ h l=n7 h κ p.T (p.pre W bs) (p.out W) l:=rfl
def alB:=aa @MN @FQ
def σB3(T:TypeId)(fs:List AV)(x y:Value):St:=⟨1,dZ ((2,.is (.own 0 0))::uH [x,y] 0),dM ((0,.cells T (aO 1 fs))::bf 1 fs)⟩
section
variable {P:Program}{W:World}{bs:List Nat}{E:Nat->Value}{F:Nat->List Nat}{h:Hp}{w:World}
theorem JG(m:Nat->Src){H:List (Nat×a6)}(hs:ak W bs E F h w)(hh:vc m h H)(hn:(dQ m H).Nodup):ak W bs (px E m) (mE F m) (dM H) w:=by
 have at' : ∀ k e,dM H k=some e->mQ m h k e:=λk e he=>AX hh _ (ed he)
 have key:∀ k e j,dM H k=some e->m k=.key j->h j=some (gY m e):=λk e j he hj=>by
  have:=at' k e he;simpa only[mQ,hj] using this
 refine⟨λk e he=>?_,λk e he b hb=>?_,λk e he b hb=>?_,λk k' e e' hne he he' b hb=>?_,hs.keeps⟩
 ·cases hm:m k with
  |key j=>
   simp only[px,mE,hm];exact AF (hs.ent j _ (key k e j he hm))
  | nil=>
   have:=at' k e he;simp only[mQ,hm]at this;cases e with
   |row T s n vs=>
    obtain⟨h0,rfl,rfl⟩:=this;simp only[px,mE,hm];exact⟨⟨by simp[aj],.inl ⟨rfl,rfl⟩⟩,rfl⟩
   |cells T vs=>exact this.elim
   |mp ks vs=>exact this.elim
   |obj d R=>exact this.elim
 ·cases hm:m k with
  |key j=>simp only[mE,hm]at hb;exact hs.lt j _ (key k e j he hm) b hb
  |nil=>simp only[mE,hm]at hb;cases hb
 ·cases hm:m k with
  |key j=>simp only[mE,hm]at hb;exact hs.mine j _ (key k e j he hm) b hb
  |nil=>simp only[mE,hm]at hb;cases hb
 ·cases hm:m k with
  |nil=>simp only[mE,hm]at hb;cases hb
  | key i=>
   cases hm' : m k' with
   |nil=>simp only[mE,hm'];simp
   |key j=>
    simp only[mE,hm,hm']at hb ⊢;exact hs.apart i j _ _ (tT hn _ (ed he) _ (ed he') hne i j hm hm') (key k e i he hm) (key k' e' j he' hm') b hb
mutual
theorem BM{m:Nat->Src}{j:Nat}:∀ x:SV,j∈(jW m x).keys->∃ k∈x.keys,m k=.key j
 |.v x,h=>by simp[jW,SV.keys]at h
 |.own k o,h=>by
  simp only[jW]at h;cases hm:m k with
  |key i=>rw[hm]at h;simp[SV.keys]at h;exact⟨k,by simp[SV.keys],by rw[hm,h]⟩
  |nil=>rw[hm]at h;simp[SV.keys]at h
 |.hd k,h=>by
  simp only[jW]at h;cases hm:m k with
  |key i=>rw[hm]at h;simp[SV.keys]at h;exact⟨k,by simp[SV.keys],by rw[hm,h]⟩
  |nil=>rw[hm]at h;simp[SV.keys]at h
 |.agg l,h=>by
  simp only[jW,SV.keys]at h ⊢;exact iP l h
 |.tup l,h=>by
  simp only[jW,SV.keys]at h ⊢;exact iP l h
 |.mU t x,h=>by
  simp only[jW,SV.keys]at h ⊢;exact BM x h
 |.part k i,h=>by
  simp only[jW]at h;cases hm:m k with
  |key i=>rw[hm]at h;simp[SV.keys]at h;exact⟨k,by simp[SV.keys],by rw[hm,h]⟩
  |nil=>rw[hm]at h;simp[SV.keys]at h
 | .fn f a c,h=>by
  simp only[jW,SV.keys,List.mem_append]at h ⊢;rcases h with h|h
  ·obtain⟨k,hk,hm⟩:=iP a h;exact⟨k,.inl hk,hm⟩
  ·obtain⟨k,hk,hm⟩:=iP c h;exact⟨k,.inr hk,hm⟩
theorem iP{m:Nat->Src}{j:Nat}:∀ l:List SV,j∈ay (jE m l)->∃ k∈ay l,m k=.key j
 |[],h=>by simp[jE,ay]at h
 | x::r,h=>by
  simp only[jE,ay,List.mem_append]at h ⊢;rcases h with h|h
  ·obtain⟨k,hk,hm⟩:=BM x h;exact⟨k,.inl hk,hm⟩
  ·obtain⟨k,hk,hm⟩:=iP r h;exact⟨k,.inr hk,hm⟩
end
theorem UG{m:Nat->Src}{j:Nat}(e:a6)(h:j∈(gY m e).keys):∃ k∈e.keys,m k=.key j:=by
 cases e with
 |cells T vs=>exact iP vs h
 |row T s n vs=>exact iP vs h
 |mp ks vs=>exact iP vs h
 |obj d R=>cases h
theorem F7{m:Nat->Src}{u:Value}{fp:List Nat}{e:a6}(h:bu (px E m) u fp w e):bu E u fp w (gY m e):=by
 cases e with
 |cells T vs=>simpa [bu,gY,fy] using h
 |row T s n vs=>simpa [bu,gY,fy] using h
 |mp ks vs=>simpa [bu,gY,fy] using h
 |obj d R=>exact h
def wL(κ:Nat)(m:List Nat)(k:Nat):Nat:=if k<8 then m.getD k 0 else 8*κ+(k-8)
def mp(κ:Nat)(m:List Nat)(k:Nat):Src:=.key (wL κ m k)
def fresh(k:Nat):Prop:=8<=k/\k<16
def rk(κ:Nat)(m:List Nat)(h:Hp):List (Nat×a6)->Prop
 |[]=>True
 |(k,e)::r=>h (wL κ m k)=some (gY (mp κ m) e)/\rk κ m h r
def iM(κ:Nat)(m:List Nat):List (Nat×a6)->List Nat
 |[]=>[]
 |(k,_)::r=>wL κ m k::iM κ m r
def kU(κ:Nat)(m:List Nat):List (Nat×a6)->List (Nat×Option a6)
 |[]=>[]
 |(k,e)::r=>(wL κ m k,some (gY (mp κ m) e))::kU κ m r
def y2(κ:Nat)(m:List Nat)(h:Hp)(args args' : List SV)(L L' : List (Nat×a6))(val:SV)(pre:Prop):R:=
 ⟨(args=jE (mp κ m) args' /\ rk κ m h L/\(iM κ m L).Nodup)/\pre,jW (mp κ m) val,dK (iM κ m L)++kU κ m L',none,[],iM κ m L⟩
theorem QH{κ:Nat}{m:List Nat}:∀ {L:List (Nat×a6)},rk κ m h L->vc (mp κ m) h L
 |[],_=>trivial
 |(k,e)::r,hl=>⟨hl.1,QH hl.2⟩
theorem JU{κ:Nat}{m:List Nat}:∀ {L:List (Nat×a6)},dQ (mp κ m) L=iM κ m L
 |[]=>rfl
 |(k,e)::r=>by
  simp only[dQ,iM,mp,List.singleton_append];rw[<- JU (κ:=κ) (m:=m) (L:=r)]
theorem og{κ:Nat}{m:List Nat}:∀ {L:List (Nat×a6)} {k:Nat} {e:a6},rk κ m h L->(k,e)∈L->h (wL κ m k)=some (gY (mp κ m) e)
 |(k0,e0)::r,k,e,hl,hm=>by
  rcases List.mem_cons.1 hm with hm|hm
  ·cases hm;exact hl.1
  ·exact og hl.2 hm
theorem jT{κ:Nat}{m:List Nat}{j:Nat}:∀ {L:List (Nat×a6)},j∈iM κ m L ↔ ∃ p∈L,wL κ m p.1=j
 |[]=>by simp[iM]
 | (k,e)::r=>by
  simp only[iM,List.mem_cons,jT (L:=r)];constructor
  ·rintro (rfl|⟨p,hp,rfl⟩)
   ·exact⟨(k,e),.inl rfl,rfl⟩
   ·exact⟨p,.inr hp,rfl⟩
  ·rintro⟨p,rfl|hp,rfl⟩
   ·exact .inl rfl
   ·exact .inr ⟨p,hp,rfl⟩
theorem EF{κ:Nat}{m:List Nat}:∀ {L:List (Nat×a6)},(iM κ m L).Nodup->∀ p∈L,∀ q∈L,wL κ m p.1=wL κ m q.1->p.1=q.1
 | (k,e)::r,hn,p,hp,q,hq,he=>by
  obtain⟨h1,h2⟩:=List.nodup_cons.1 hn;rcases List.mem_cons.1 hp with rfl|hp'
  ·rcases List.mem_cons.1 hq with rfl|hq'
   ·rfl
   ·exact absurd (jT.2 ⟨q,hq',he.symm⟩) h1
  ·rcases List.mem_cons.1 hq with rfl|hq'
   ·exact absurd (jT.2 ⟨p,hp',he⟩) h1
   ·exact EF h2 p hp' q hq' he
theorem lx{κ:Nat}{m:List Nat}{q:Nat×Option a6}:∀ {L:List (Nat×a6)},q∈kU κ m L ↔ ∃ p∈L,q=(wL κ m p.1,some (gY (mp κ m) p.2))
 |[]=>by simp[kU]
 | (k,e)::r=>by
  simp only[kU,List.mem_cons,lx (L:=r)];constructor
  ·rintro (rfl|⟨p,hp,rfl⟩)
   ·exact⟨(k,e),.inl rfl,rfl⟩
   ·exact⟨p,.inr hp,rfl⟩
  ·rintro⟨p,rfl|hp,rfl⟩
   ·exact .inl rfl
   ·exact .inr ⟨p,hp,rfl⟩
theorem Qz:∀ {L:List (Nat×a6)} {k:Nat} {e:a6},(L.map (·.1)).Nodup->(k,e)∈L->dM L k=some e
 | (k0,e0)::r,k,e,hn,hm=>by
  simp only[List.map_cons,List.nodup_cons]at hn;simp only[dM];rcases List.mem_cons.1 hm with hm|hm
  ·cases hm;rw[ah]
  ·have:k≠k0:=λe' => hn.1 (e' ▸ List.mem_map.2 ⟨_,hm,rfl⟩)
   rw[al _ _ this];exact Qz hn.2 hm
end
structure Ae (P:Program)(f:FuncId) where
 args:List SV
 L:List (Nat×a6)
 val:SV
 L' : List (Nat×a6)
 fA:List Nat
 pre:World->List Nat->Prop
 low:∀ p∈L,p.1<8
 kept:∀ k∈fA,∃ e,(k,e)∈L
 vk:∀ k∈val.keys,k∈fA\/fresh k
 lk:∀ p∈L',(p.1∈fA\/fresh p.1)/\∀ k∈p.2.keys,k∈fA\/fresh k
 nd:(L'.map (·.1)).Nodup
 enters:∀ args w,(callFunc f args).run P w=.ok (.enter f args) w
 ok:∀ (W w:World) (bs fp:List Nat) (E:Nat->Value) (F:Nat->List Nat),an W bs w->(∀ b∈fp,W.heap.size<=b\/b∈bs)->ak w fp E F (dM L) w->pre W bs ->
  Calls P f (aj E args).toArray w λe w' => ∃ E' F',e=.returned (den E' val)/\(∀ k∈fA,E' k=E k)/\ak w fp E' F' (dM L') w'
theorem sC{κ k:Nat}{m:List Nat}(h:fresh k):wL κ m k / 8=κ:=by
 obtain⟨h1,h2⟩:=h;unfold wL;rw[if_neg oM];omega
def Ae.spec{P:Program}{f:FuncId}(p:Ae P f)(m:List Nat):Spec P f where
 ev:=λW bs κ h args=>y2 κ m h args p.args p.L p.L' p.val (p.pre W bs)
 good:=λW bs κ E F h w K args hs hK hk hx hside=>by
  rw[p.enters];obtain⟨⟨rfl,hl,hn⟩,hp⟩:=hside;have hmK:∀ k∈p.fA,K (wL κ m k):=λk hk' => by
   obtain⟨e,he⟩:=p.kept k hk';exact (hK _ _ (og hl he)).1
  have h0:=JG (mp κ m) hs (QH hl) (by rw[JU];exact hn);have h1:ak w ((iM κ m p.L).flatMap F) (px E (mp κ m)) (mE F (mp κ m)) (dM p.L) w:=⟨h0.ent,h0.lt,λk e he b hb=>.inr (List.mem_flatMap.2 ⟨wL κ m k,jT.2 ⟨_,ed he,rfl⟩,hb⟩),h0.apart,an.refl w _⟩
  have mine:∀ b∈(iM κ m p.L).flatMap F,W.heap.size<=b\/b∈bs:=λb hb=>by
   obtain⟨j,hj,hbj⟩:=List.mem_flatMap.1 hb;obtain⟨q,hq,rfl⟩:=jT.1 hj;exact hs.mine _ _ (og hl hq) b hbj
  have S:∀ k,(k∈p.fA\/fresh k)->∀ k',(k' ∈ p.fA\/fresh k')->wL κ m k=wL κ m k' -> k=k' := λk h1 k' h2 he=>by
   rcases h1 with h1|h1
   ·rcases h2 with h2|h2
    ·obtain⟨e,hm⟩:=p.kept k h1;obtain⟨e',hm'⟩:=p.kept k' h2;exact EF hn _ hm _ hm' he
    ·exact absurd (hmK k h1) (hk _ (by rw[he];exact sC h2))
   ·rcases h2 with h2|h2
    ·exact absurd (hmK k' h2) (hk _ (by rw[<- he];exact sC h1))
    ·obtain⟨a1,a2⟩:=h1;obtain⟨b1,b2⟩:=h2;unfold wL at he;rw[if_neg oM,if_neg oM]at he;omega
  simp only[y2,Good,nU];rw[fy];refine (p.ok W w bs _ _ _ hs.keeps mine h1 hp).mono λe w' he=>?_
  obtain⟨E',F',rfl,hE',hs'⟩:=he
  classical
  let bk:Nat->Option Nat:=λj=>if hj:∃ k,(k∈p.fA\/fresh k)/\wL κ m k=j then some hj.choose else none
  have bk1:∀ k,(k∈p.fA\/fresh k)->bk (wL κ m k)=some k:=λk hk' => by
   have hex:∃ k',(k' ∈ p.fA\/fresh k')/\wL κ m k' = wL κ m k:=⟨k,hk',rfl⟩;have:=hex.choose_spec;simp only[bk,dif_pos hex,Option.some.injEq];exact S _ this.1 _ hk' this.2
  have bk2:∀ j k,bk j=some k->(k∈p.fA\/fresh k)/\wL κ m k=j:=λj k hj=>by
   simp only[bk]at hj;split at hj
   ·rename_i hex;cases hj;exact hex.choose_spec
   ·cases hj
  let E2:Nat->Value:=λj=>match bk j with|some k=>E' k|none=>E j
  let F2:Nat->List Nat:=λj=>match bk j with|some k=>if k∈p.L'.map (·.1) then F' k else F j|none=>F j
  have e2:∀ k,(k∈p.fA\/fresh k)->E2 (wL κ m k)=E' k:=λk hk' => by simp only[E2,bk1 k hk']
  have agree:∀ j,j / 8≠κ->E2 j=E j:=λj hj=>by
   simp only[E2];cases hb:bk j with
   |none=>rfl
   |some k=>
    obtain⟨h2,rfl⟩:=bk2 j k hb;rcases h2 with h2|h2
    ·simp only;rw[hE' k h2];rfl
    ·exact absurd (sC h2) hj
  have src2:∀ k,(k∈p.fA\/fresh k)->px E2 (mp κ m) k=E' k:=λk hk' => e2 k hk'
  refine⟨trivial,E2,F2,agree,?_,?_⟩
  ·rw[mP];exact ob _ λk hk' => (src2 k (p.vk k hk')).symm
  have hN:∀ j e,a7 (λ_=>none) (kU κ m p.L') j=some e->∃ q∈p.L',j=wL κ m q.1/\e=gY (mp κ m) q.2/\bk j=some q.1/\F2 j=F' q.1/\dM p.L' q.1=some q.2:=λj e he=>by
   rcases kJ (λ_=>(none:Option a6)) (k:=j) (u:=kU κ m p.L') with ⟨x,hx,hx'⟩|⟨_,hx'⟩
   ·rw[hx']at he;subst he;obtain⟨q,hq,hqe⟩:=lx.1 hx;simp only[Prod.mk.injEq,Option.some.injEq]at hqe;obtain⟨rfl,rfl⟩:=hqe;have hb:=bk1 q.1 (p.lk q hq).1;exact⟨q,hq,rfl,rfl,hb,by simp only[F2,hb];rw[if_pos (List.mem_map.2 ⟨q,hq,rfl⟩)],Qz p.nd hq⟩
   ·rw[hx']at he;cases he
  have hN0:∀ j,a7 (λ_=>none) (kU κ m p.L') j=none->F2 j=F j:=λj he=>by
   simp only[F2];cases hb:bk j with
   |none=>rfl
   | some k=>
    simp only;split
    ·rename_i hm;obtain⟨q,hq,rfl⟩:=List.mem_map.1 hm;obtain⟨_,rfl⟩:=bk2 j _ hb;rcases kJ (λ_=>(none:Option a6)) (k:=wL κ m q.1) (u:=kU κ m p.L') with ⟨x,hx,hx'⟩|⟨hx,_⟩
     ·rw[hx']at he;subst he;obtain⟨q',_,hqe⟩:=lx.1 hx;simp at hqe
     ·exact absurd (List.mem_map.2 ⟨_,lx.2 ⟨q,hq,rfl⟩,rfl⟩) hx
    ·rfl
  refine hs.lV hK (iM κ m p.L) (a7 (λ_=>none) (kU κ m p.L')) (λj hj=>?_) (λj hj=>agree j λe=>hk j e hj) (λj e he=>?_) (λi j e e' hij hi hj b hb=>?_) (λj x hx hj=>hN0 j hj) (λj=>?_) hs'.keeps
  ·obtain⟨q,hq,rfl⟩:=jT.1 hj;exact⟨_,og hl hq⟩
  ·obtain⟨q,hq,rfl,rfl,hb,hF,hq'⟩:=hN j e he;rw[hF,e2 q.1 (p.lk q hq).1];refine⟨?_,λb hb=>?_,λb hb=>hs'.lt q.1 _ hq' b hb⟩
   ·refine F7 ?_;exact gE (λk hk' => (src2 k ((p.lk q hq).2 k hk')).symm) (hs'.ent q.1 _ hq')
   ·rcases hs'.mine q.1 _ hq' b hb with g|g
    ·exact .inr g
    ·obtain⟨j,hj,hbj⟩:=List.mem_flatMap.1 g;exact .inl ⟨j,hj,hbj⟩
  ·obtain⟨q,hq,rfl,rfl,_,hF,hq'⟩:=hN i e hi;obtain⟨r,hr,rfl,rfl,_,hF',hr'⟩:=hN j e' hj;rw[hF]at hb;rw[hF'];exact hs'.apart q.1 r.1 _ _ (λe=>hij (by rw[e])) hq' hr' b hb
  ·have hsome:∀ q∈kU κ m p.L',∃ e,q.2=some e:=λq hq=>by
    obtain⟨r,_,rfl⟩:=lx.1 hq;exact⟨_,rfl⟩
   rw[b7,kb _ _ _ hsome,ka];cases a7 (λ_=>none) (kU κ m p.L') j with
   |some e=>rfl
   |none=>rfl
 keys:=λW bs κ h K args hK hx hside=>by
  obtain⟨⟨rfl,hl,hn⟩,hp⟩:=hside;have hmK:∀ k,(k∈p.fA\/fresh k)->K (wL κ m k)\/wL κ m k / 8=κ:=λk hk' => by
   rcases hk' with hk'|hk'
   ·obtain⟨e,he⟩:=p.kept k hk';exact .inl (hK _ _ (og hl he)).1
   ·exact .inr (sC hk')
  refine⟨λj hj=>?_,λq hq=>?_⟩
  ·obtain⟨k,hk,hm⟩:=BM _ hj;cases hm;exact hmK k (p.vk k hk)
  ·rcases List.mem_append.1 hq with hq|hq
   ·simp only[dK,List.mem_map]at hq;obtain⟨j,hj,rfl⟩:=hq;obtain⟨r,hr,rfl⟩:=jT.1 hj;exact⟨.inl (hK _ _ (og hl hr)).1,λe he=>by cases he⟩
   ·obtain⟨r,hr,rfl⟩:=lx.1 hq;refine⟨hmK _ (p.lk r hr).1,λe he j hj=>?_⟩;simp only[Option.some.injEq]at he;subst he;obtain⟨k,hk,hm⟩:=UG _ hj;cases hm;exact hmK k ((p.lk r hr).2 k hk)
 loc:=λW bs κ h h' args hside hr=>by
  have:∀ L:List (Nat×a6),(∀ k∈iM κ m L,h' k=h k)->rk κ m h' L=rk κ m h L:=λL=>by
   induction L with
   |nil=>exact λ_=>rfl
   |cons q r ih=>
    intro hq;simp only[rk];rw[hq _ (by simp[iM]),ih λk hk=>hq k (by simp[iM,hk])]
  simp only[y2];rw[this p.L hr]
theorem Yi{P:Program}{f:FuncId}(p:Ae P f)(m:List Nat)(W:World)(bs:List Nat)(κ:Nat)(h:Hp)(l:List SV):(p.spec m).ev W bs κ h l=y2 κ m h l p.args p.L p.L' p.val (p.pre W bs):=rfl
def wX:List SV->Nat->List (Nat×FV)
 |[],_=>[]
 |x::r,i=>(i,.is x)::wX r (i+1)
theorem Ed(E:Nat->Value):∀ (l:List SV) (i t:Nat) (tm:Nat->Value),(∀ j (h:j<(aj E l).length),tm (i+j)=(aj E l)[j])->fits E (dZ (wX l i) t) (tm t)
 |[],_,_,_,_=>trivial
 | x::r,i,t,tm,h=>by
  simp only[wX,dZ,bn];split
  ·rename_i ht;subst ht;have:=h 0 (by simp[aj]);simpa [fits,aj] using this
  ·exact Ed E r (i+1) t tm λj hj=>by
    have:=h (j+1) (by simp only[aj,List.length_cons];omega);rw[show i+1+j=i+(j+1) by omega];simpa [aj] using this
def Qh(fA:List Nat)(val:SV)(L' : List (Nat×a6))(x:SV)(h:Hp):Prop:=∃ m:Nat->Src,x=jW m val/\vc m h L' /\ (dQ m L').Nodup/\∀ k∈fA,m k=.key k
theorem Ax{P:Program}{f:FuncId}{fn:Func}{c:Code}{w:World}{fp:List Nat}{E:Nat->Value}{F:Nat->List Nat}{nt:Nat}{fA:List Nat}{args:List SV}{L L' : List (Nat×a6)}{val:SV}(rs:List ResultVar)
  (hs:ak w fp E F (dM L) w) (hkb:JO 1 (wX args 0) L) (hkp:∀ k∈fA,k<8)
  (hf:P.funcs[f]?=some fn) (hb:fn.body=some c) (hrs:fn.results.toList=rs) (hnt:args.length+(fn.ntmps-args.length)=nt)
  (h:Wp P w fp nt ⟨[],fA.map λk=>(k,E k)⟩ c (Fin P rs (λ_ _ x h' => Qh fA val L' x h') (λ_ _=>False)) ⟨1,dZ (wX args 0),dM L⟩) :
  Calls P f (aj E args).toArray w λe w' => ∃ E' F',e=.returned (den E' val)/\(∀ k∈fA,E' k=E k)/\ak w fp E' F' (dM L') w' := by
 subst hrs;have hsz:(aj E args).toArray.size=args.length:=by simp[aF]
 have hsat:Sat w fp nt ⟨[],fA.map λk=>(k,E k)⟩ ⟨1,dZ (wX args 0),dM L⟩ { tmps:=(aj E args).toArray++Array.replicate (fn.ntmps-(aj E args).toArray.size) undef,defers:=[] } w:=by
  refine⟨⟨E,F,λt=>?_,hs,λp hp=>?_⟩,by simp[aF];omega,rfl,λp hp=>?_,λt k hk=>?_,λk e he=>?_⟩
  ·refine Ed E args 0 t (λt=>((aj E args).toArray++Array.replicate (fn.ntmps-(aj E args).toArray.size) undef).getD t undef) λj hj=>?_
   rw[Nat.zero_add,Array.getD_eq_getD_getElem?,Array.getElem?_append_left (by simpa using hj)];simp[List.getElem?_eq_getElem hj]
  ·obtain⟨k,_,rfl⟩:=List.mem_map.1 hp;rfl
  ·obtain⟨k,hk,rfl⟩:=List.mem_map.1 hp;have:=hkp k hk;show k / 8<1;omega
  ·rcases oc (L:=wX args 0) t with g|⟨p,hp,_,g⟩
   ·simp only[g]at hk;cases hk
   ·simp only[g]at hk;exact hkb.1 p hp k hk
  ·exact hkb.2 _ (ed he)
 refine (n8 hf hb hsat h).mono λe w' he=>?_
 cases e with
 |returned v=>
  obtain⟨W',bs',E1,F1,x,h',hx,⟨m,rfl,hle,hn,hm⟩,rfl,hs1,hp⟩:=he;refine⟨px E1 m,mE F1 m,by rw[mP],λk hk=>?_,JG m (hs1.back hx) hle hn⟩;simp only[px,hm k hk];exact hp (k,E k) (List.mem_map.2 ⟨k,hk,rfl⟩)
 |panicked c=>obtain⟨_,_,_,_,_,_,hf,_⟩:=he;exact hf.elim
 |outgrown=>exact he.elim
end
end Go.LE
namespace Go.Proofs.YtnemkecffmdlnaaGreatDoor
section
open Go.RowKit Go.LE
def iC:=(ae (sn (aa @if_true.{1} @if_false.{1}) (aa @List.toList_toArray.{0} @Option.isNone_none.{0}) (aa @Option.isNone_some.{0} @Option.isSome_none.{0}) (aa @Option.isSome_some.{0} @and_true) (aa @true_and @and_self) (aa @true_imp_iff @forall_const.{1})) (sn (aa @forall_const.{0} @List.append_nil.{0}) (aa @List.nil_append.{0} @List.cons_append.{0}) (aa @cond_true.{1} @cond_false.{1}) (aa @List.map_cons.{0,0} @List.map_nil.{0,0}) (aa @Bool.true_and @Bool.and_true) (aa @beq_false @beq_true)) (sn (aa @imp_self @implies_true.{1}) (aa @implies_true.{0} @Bool.cond_self.{1}) (aa @Option.bind_some.{0,0} @List.getElem?_toArray.{0}) (aa @List.getElem?_cons_zero.{0} @List.getElem?_cons_succ.{0}) (aa @List.length_cons.{0} @List.length_nil.{0}) (aa @List.getD_cons_zero.{0} @List.getD_cons_succ.{0})) (sn (aa @List.take_succ_cons.{0} @List.take_zero.{0}) (aa @List.drop_succ_cons.{0} @List.drop_zero.{0}) (aa @List.zip_cons_cons.{0,0} @List.zip_nil_right.{0,0}) (aa @Option.getD_some.{0} @List.all_cons.{0}) (aa @List.all_nil.{0} @Bool.cond_true_left) (aa @Bool.cond_false_right @Bool.cond_true_right)) (sn (aa @Bool.cond_false_left ev1) (aa ev2 ev3) (aa ev4 ev5) (aa ev6 ev7) (aa ev8 ev9) (aa @Option.map_some.{0,0} @List.not_mem_nil.{0})) (sn (aa @Int.toNat_natCast @Option.toArray_none.{0}) (aa @Option.toArray_some.{0} @List.append_toArray.{0}) (aa @Nat.add_zero @Nat.zero_add) (aa @decide_true @decide_false) (aa @Bool.not_true @Bool.not_false) (aa @List.flatten_cons.{0} @List.flatten_nil.{0})) (sn (aa @List.isEmpty_nil.{0} @ne_eq.{1}) (aa @not_true_eq_false @not_false_eq_true) (aa @Nat.mul_one @Nat.one_mul) (aa @Nat.zero_mul @Nat.sub_zero) (aa @E6 @Array.getD_eq_getD_getElem?.{0}) (aa @List.size_toArray.{0} @aj8)) (ae @alM alw alx @Option.map_none.{0,0} aly alz alA alB))
theorem ev{e p:Prop}(he:e)(h:e->p:=by intro he;simp only[iC,Op.operands,Value.cells,σ0,σB,Nat.reduceEqDiff,Nat.reduceAdd,Nat.reduceMul,Nat.reduceLT,Nat.reduceLeDiff,Nat.reduceBEq,av,Int.reduceToNat,Int.reduceLT,Int.reduceLE,Nat.reduceDiv,Nat.reduceMod,Nat.reduceSub,Int.reducePow,Nat.reducePow,σP,σB3,he];exact rfl):p:=h he
section
variable {W:World}{bs:List Nat}{nt:Nat}{ds:Aux}{Q:lE}{σ:St}{e q:Prop}{id:Nat}{ops:Array Oper}{y:Code}{side:Prop}{n:Nat}{φ:Fr}{h:Hp}{pans:List (Option (List PanicEntry))}{lost:List Nat}{fx:List (List Nat×List Nat)}
theorem wR(Γ:Env Tryz.prog)(he:e)(hs:side)(hQ:Wp Tryz.prog W bs nt ds y Q ⟨n,φ,h⟩)(hg:e->qF Γ W bs nt ops ops.toList σ.n σ.φ σ.h=⟨side,n,φ,h,pans,lost,fx⟩:=by intro he;simp only[iC,Op.operands,Value.cells,σ0,σB,Nat.reduceEqDiff,Nat.reduceAdd,Nat.reduceMul,Nat.reduceLT,Nat.reduceLeDiff,Nat.reduceBEq,av,Int.reduceToNat,Int.reduceLT,Int.reduceLE,Nat.reduceDiv,Nat.reduceMod,Nat.reduceSub,Int.reducePow,Nat.reducePow,σP,σB3,he];exact rfl)(hp:pans.all Option.isNone=true:=by rfl):Wp Tryz.prog W bs nt ds (.seq (.region id ops false) y) Q σ:=Wp.ajb Γ aM (hg he) hp hs hQ
theorem vR(Γ:Env Tryz.prog)(he:e)(hQ:Wp Tryz.prog W bs nt ds y Q ⟨n,φ,h⟩)(hg:e->qF Γ W bs nt ops ops.toList σ.n σ.φ σ.h=⟨side,n,φ,h,pans,lost,fx⟩:=by intro he;simp only[iC,Op.operands,Value.cells,σ0,σB,Nat.reduceEqDiff,Nat.reduceAdd,Nat.reduceMul,Nat.reduceLT,Nat.reduceLeDiff,Nat.reduceBEq,av,Int.reduceToNat,Int.reduceLT,Int.reduceLE,Nat.reduceDiv,Nat.reduceMod,Nat.reduceSub,Int.reducePow,Nat.reducePow,σP,σB3,he];exact rfl)(hp:pans.all Option.isNone=true:=by rfl)(hs:side:=by first|trivial|omega|exact⟨_,rfl⟩|(simp;done)|(unfold maxLen;omega)|(simp<;>omega)|(simp<;>unfold maxLen<;>omega)):Wp Tryz.prog W bs nt ds (.seq (.region id ops false) y) Q σ:=Wp.ajb Γ aM (hg he) hp hs hQ
theorem wr(Γ:Env Tryz.prog)(he:e)(hs:side)(hQ:q)(hg:e->qF Γ W bs nt ops ops.toList σ.n σ.φ σ.h=⟨side,n,φ,h,pans,lost,fx⟩:=by intro he;simp only[iC,Op.operands,Value.cells,σ0,σB,Nat.reduceEqDiff,Nat.reduceAdd,Nat.reduceMul,Nat.reduceLT,Nat.reduceLeDiff,Nat.reduceBEq,av,Int.reduceToNat,Int.reduceLT,Int.reduceLE,Nat.reduceDiv,Nat.reduceMod,Nat.reduceSub,Int.reducePow,Nat.reducePow,σP,σB3,he];exact rfl)(hp:pans.all Option.isNone=true:=by rfl)(t:q->Q .normal W bs ⟨n,φ,h⟩:=by intro hq;(with_reducible repeat (first|refine gz ?_|refine gw ?_|refine lb ?_|refine kZ ?_|refine ff (by decide) ?_|refine oU ?_|refine oT ?_|refine jc ?_|refine iZ ?_));exact hq):Wp Tryz.prog W bs nt ds (.region id ops false) Q σ:=Wp.dN Γ aM (hg he) hp hs (t hQ)
theorem vr(Γ:Env Tryz.prog)(he:e)(hQ:q)(hg:e->qF Γ W bs nt ops ops.toList σ.n σ.φ σ.h=⟨side,n,φ,h,pans,lost,fx⟩:=by intro he;simp only[iC,Op.operands,Value.cells,σ0,σB,Nat.reduceEqDiff,Nat.reduceAdd,Nat.reduceMul,Nat.reduceLT,Nat.reduceLeDiff,Nat.reduceBEq,av,Int.reduceToNat,Int.reduceLT,Int.reduceLE,Nat.reduceDiv,Nat.reduceMod,Nat.reduceSub,Int.reducePow,Nat.reducePow,σP,σB3,he];exact rfl)(hp:pans.all Option.isNone=true:=by rfl)(hs:side:=by first|trivial|omega|exact⟨_,rfl⟩|(simp;done)|(unfold maxLen;omega)|(simp<;>omega)|(simp<;>unfold maxLen<;>omega))(t:q->Q .normal W bs ⟨n,φ,h⟩:=by intro hq;(with_reducible repeat (first|refine gz ?_|refine gw ?_|refine lb ?_|refine kZ ?_|refine ff (by decide) ?_|refine oU ?_|refine oT ?_|refine jc ?_|refine iZ ?_));exact hq):Wp Tryz.prog W bs nt ds (.region id ops false) Q σ:=Wp.dN Γ aM (hg he) hp hs (t hQ)
theorem ko(Γ:Env Tryz.prog)(he:e)(hs:side)(hQ:Wp Tryz.prog W bs nt ds y Q ⟨n,φ,h⟩)(hg:e->qF Γ W bs nt ops ops.toList σ.n σ.φ σ.h=⟨side,n,φ,h,pans,lost,fx⟩:=by intro he;simp only[iC,Op.operands,Value.cells,σ0,σB,Nat.reduceEqDiff,Nat.reduceAdd,Nat.reduceMul,Nat.reduceLT,Nat.reduceLeDiff,Nat.reduceBEq,av,Int.reduceToNat,Int.reduceLT,Int.reduceLE,Nat.reduceDiv,Nat.reduceMod,Nat.reduceSub,Int.reducePow,Nat.reducePow,σP,σB3,he];exact rfl)(hp:pans.all Option.isNone=true:=by rfl)(hd:(kG ops&&kV ops fx)=true:=by kernel_rfl):Wp Tryz.prog W bs nt ds (.seq (.region id ops true) y) Q σ:=Wp.ahz Γ aM (hg he) hp hd hs hQ
theorem yt(Γ:Env Tryz.prog)(he:e)(hQ:Wp Tryz.prog W bs nt ds y Q ⟨n,φ,h⟩)(hg:e->qF Γ W bs nt ops ops.toList σ.n σ.φ σ.h=⟨side,n,φ,h,pans,lost,fx⟩:=by intro he;simp only[iC,Op.operands,Value.cells,σ0,σB,Nat.reduceEqDiff,Nat.reduceAdd,Nat.reduceMul,Nat.reduceLT,Nat.reduceLeDiff,Nat.reduceBEq,av,Int.reduceToNat,Int.reduceLT,Int.reduceLE,Nat.reduceDiv,Nat.reduceMod,Nat.reduceSub,Int.reducePow,Nat.reducePow,σP,σB3,he];exact rfl)(hp:pans.all Option.isNone=true:=by rfl)(hd:(kG ops&&kV ops fx)=true:=by kernel_rfl)(hs:side:=by first|trivial|omega|exact⟨_,rfl⟩|(simp;done)|(unfold maxLen;omega)|(simp<;>omega)|(simp<;>unfold maxLen<;>omega)):Wp Tryz.prog W bs nt ds (.seq (.region id ops true) y) Q σ:=Wp.ahz Γ aM (hg he) hp hd hs hQ
theorem IN(Γ:Env Tryz.prog)(he:e)(hs:side)(hQ:q)(hg:e->qF Γ W bs nt ops ops.toList σ.n σ.φ σ.h=⟨side,n,φ,h,pans,lost,fx⟩:=by intro he;simp only[iC,Op.operands,Value.cells,σ0,σB,Nat.reduceEqDiff,Nat.reduceAdd,Nat.reduceMul,Nat.reduceLT,Nat.reduceLeDiff,Nat.reduceBEq,av,Int.reduceToNat,Int.reduceLT,Int.reduceLE,Nat.reduceDiv,Nat.reduceMod,Nat.reduceSub,Int.reducePow,Nat.reducePow,σP,σB3,he];exact rfl)(hp:pans.all Option.isNone=true:=by rfl)(hd:(kG ops&&kV ops fx)=true:=by kernel_rfl)(t:q->Q .normal W bs ⟨n,φ,h⟩:=by intro hq;(with_reducible repeat (first|refine gz ?_|refine gw ?_|refine lb ?_|refine kZ ?_|refine ff (by decide) ?_|refine oU ?_|refine oT ?_|refine jc ?_|refine iZ ?_));exact hq):Wp Tryz.prog W bs nt ds (.region id ops true) Q σ:=Wp.ad5 Γ aM (hg he) hp hd hs (t hQ)
theorem vrD(Γ:Env Tryz.prog)(he:e)(hQ:q)(hg:e->qF Γ W bs nt ops ops.toList σ.n σ.φ σ.h=⟨side,n,φ,h,pans,lost,fx⟩:=by intro he;simp only[iC,Op.operands,Value.cells,σ0,σB,Nat.reduceEqDiff,Nat.reduceAdd,Nat.reduceMul,Nat.reduceLT,Nat.reduceLeDiff,Nat.reduceBEq,av,Int.reduceToNat,Int.reduceLT,Int.reduceLE,Nat.reduceDiv,Nat.reduceMod,Nat.reduceSub,Int.reducePow,Nat.reducePow,σP,σB3,he];exact rfl)(hp:pans.all Option.isNone=true:=by rfl)(hd:(kG ops&&kV ops fx)=true:=by kernel_rfl)(hs:side:=by first|trivial|omega|exact⟨_,rfl⟩|(simp;done)|(unfold maxLen;omega)|(simp<;>omega)|(simp<;>unfold maxLen<;>omega))(t:q->Q .normal W bs ⟨n,φ,h⟩:=by intro hq;(with_reducible repeat (first|refine gz ?_|refine gw ?_|refine lb ?_|refine kZ ?_|refine ff (by decide) ?_|refine oU ?_|refine oT ?_|refine jc ?_|refine iZ ?_));exact hq):Wp Tryz.prog W bs nt ds (.region id ops true) Q σ:=Wp.ad5 Γ aM (hg he) hp hd hs (t hQ)
theorem wK(hQ:q)(t:q->Q .normal W bs σ:=by intro hq;(with_reducible repeat (first|refine gz ?_|refine gw ?_|refine lb ?_|refine kZ ?_|refine ff (by decide) ?_|refine oU ?_|refine oT ?_|refine jc ?_|refine iZ ?_));exact hq):Wp Tryz.prog W bs nt ds .skip Q σ:=Wp.skip (t hQ)
theorem wE{i:Nat}(hQ:q)(t:q->Q (.exit i) W bs σ:=by intro hq;(with_reducible repeat (first|refine gz ?_|refine gw ?_|refine lb ?_|refine kZ ?_|refine ff (by decide) ?_|refine oU ?_|refine oT ?_|refine jc ?_|refine iZ ?_));exact hq):Wp Tryz.prog W bs nt ds (.exit i) Q σ:=Wp.exit (t hQ)
theorem wT(hQ:q)(t:q->Q .ret W bs σ:=by intro hq;(with_reducible repeat (first|refine gz ?_|refine gw ?_|refine lb ?_|refine kZ ?_|refine ff (by decide) ?_|refine oU ?_|refine oT ?_|refine jc ?_|refine iZ ?_));exact hq):Wp Tryz.prog W bs nt ds .ret Q σ:=Wp.ret (t hQ)
theorem wZ(he:e)(hQ:q)(t:e->q->Q .ret W bs σ:=by intro he;intro hq;(with_reducible repeat (first|refine gz ?_|refine gw ?_|refine lb ?_|refine kZ ?_|refine ff (by decide) ?_|refine oU ?_|refine oT ?_|refine jc ?_|refine iZ ?_));simp only[iC,Op.operands,Value.cells,σ0,σB,Nat.reduceEqDiff,Nat.reduceAdd,Nat.reduceMul,Nat.reduceLT,Nat.reduceLeDiff,Nat.reduceBEq,av,Int.reduceToNat,Int.reduceLT,Int.reduceLE,Nat.reduceDiv,Nat.reduceMod,Nat.reduceSub,Int.reducePow,Nat.reducePow,σP,σB3,mM,fS,kp,iw,he];exact hq):Wp Tryz.prog W bs nt ds .ret Q σ:=Wp.ret (t he hQ)
end
theorem wC{W:World}{bs:List Nat}{nt:Nat}{ds:Aux}{Q:lE}{σ:St}{e:Prop}{c:Operand}{x y:Code}{b:Bool}{p:Prop}(he:e)(ht:b=true->Wp Tryz.prog W bs nt ds x Q σ)(hf:b=false->Wp Tryz.prog W bs nt ds y Q σ)(hc:e->oS σ.φ true c=(p,.v (.bool b)):=by intro he;simp only[iC,Op.operands,Value.cells,σ0,σB,Nat.reduceEqDiff,Nat.reduceAdd,Nat.reduceMul,Nat.reduceLT,Nat.reduceLeDiff,Nat.reduceBEq,av,Int.reduceToNat,Int.reduceLT,Int.reduceLE,Nat.reduceDiv,Nat.reduceMod,Nat.reduceSub,Int.reducePow,Nat.reducePow,σP,σB3,he];exact rfl)(hp:p:=by trivial):Wp Tryz.prog W bs nt ds (.cond c x y) Q σ:=Wp.cond (hc he) hp ht hf
theorem wM{W:World}{bs:List Nat}{nt:Nat}{ds:Aux}{σ:St}{e:Prop}(m:Nat->Go.LE.Src)(he:e){n' : Nat}{L:List (Nat×FV)}{H:List (Nat×a6)}(hk:JO n' L H:=by exact⟨by simp[FV.keys,SV.keys,ay],by simp[a6.keys,ay,SV.keys,aR,aT]⟩)(hf:e->Gc m σ.φ L:=by intro he;simp only[iC,Op.operands,Value.cells,σ0,σB,Nat.reduceEqDiff,Nat.reduceAdd,Nat.reduceMul,Nat.reduceLT,Nat.reduceLeDiff,Nat.reduceBEq,av,Int.reduceToNat,Int.reduceLT,Int.reduceLE,Nat.reduceDiv,Nat.reduceMod,Nat.reduceSub,Int.reducePow,Nat.reducePow,σP,σB3,Gc,Ge,jW,y7,he]<;>trivial)(hh:e->vc m σ.h H:=by intro he;simp only[iC,Op.operands,Value.cells,σ0,σB,Nat.reduceEqDiff,Nat.reduceAdd,Nat.reduceMul,Nat.reduceLT,Nat.reduceLeDiff,Nat.reduceBEq,av,Int.reduceToNat,Int.reduceLT,Int.reduceLE,Nat.reduceDiv,Nat.reduceMod,Nat.reduceSub,Int.reducePow,Nat.reducePow,σP,σB3,vc,mQ,gY,gi,jE,jW,he]<;>trivial)(hn:(dQ m H).Nodup:=by simp[dQ])(hpn:∀ p∈ds.pins,m p.1=.key p.1/\p.1 / 8<n' := by simp):Le W bs nt ds σ ⟨n',dZ L,dM H⟩:=Le.mk m hk (hf he) (hh he) hn hpn
theorem wN{e:Prop}{fA:List Nat}{val x:SV}{L' : List (Nat×a6)}{h:Hp}(m:Nat->Go.LE.Src)(he:e)(hv:e->x=jW m val:=by intro he;first|rfl|simp only[iC,Op.operands,Value.cells,σ0,σB,Nat.reduceEqDiff,Nat.reduceAdd,Nat.reduceMul,Nat.reduceLT,Nat.reduceLeDiff,Nat.reduceBEq,av,Int.reduceToNat,Int.reduceLT,Int.reduceLE,Nat.reduceDiv,Nat.reduceMod,Nat.reduceSub,Int.reducePow,Nat.reducePow,σP,σB3,jW,jE,he])(hh:e->vc m h L' := by intro he;simp only[iC,Op.operands,Value.cells,σ0,σB,Nat.reduceEqDiff,Nat.reduceAdd,Nat.reduceMul,Nat.reduceLT,Nat.reduceLeDiff,Nat.reduceBEq,av,Int.reduceToNat,Int.reduceLT,Int.reduceLE,Nat.reduceDiv,Nat.reduceMod,Nat.reduceSub,Int.reducePow,Nat.reducePow,σP,σB3,vc,mQ,gY,gi,jE,jW,he]<;>trivial)(hn:(dQ m L').Nodup:=by simp[dQ])(hk:∀ k∈fA,m k=.key k:=by simp):Qh fA val L' x h:=⟨m,hv he,hh he,hn,hk⟩
theorem wS{e p q:Prop}(he:e)(h:q)(t:e->q->p:=by intro he hq;simp only[iC,Op.operands,Value.cells,σ0,σB,Nat.reduceEqDiff,Nat.reduceAdd,Nat.reduceMul,Nat.reduceLT,Nat.reduceLeDiff,Nat.reduceBEq,av,Int.reduceToNat,Int.reduceLT,Int.reduceLE,Nat.reduceDiv,Nat.reduceMod,Nat.reduceSub,Int.reducePow,Nat.reducePow,σP,σB3,mM,fS,kp,iw,he];exact hq):p:=t he h
theorem qq{p q:Prop}(h:q)(t:q->p:=by intro hq;(with_reducible repeat (first|refine gz ?_|refine gw ?_|refine lb ?_|refine kZ ?_|refine ff (by decide) ?_|refine oU ?_|refine oT ?_|refine jc ?_|refine iZ ?_));exact hq):p:=t h
theorem oo{p:Prop}(h:p:=by first|trivial|omega|exact⟨_,rfl⟩|(simp;done)|(unfold maxLen;omega)|(simp<;>omega)|(simp<;>unfold maxLen<;>omega)):p:=h
theorem wW{x y:Int}(h0:-9223372036854775808<=x:=by omega)(h1:x<=9223372036854775807:=by omega)(h:x=y:=by omega):IntKind.i64.wrap x=y:=(aA h0 h1).trans h
end
end Go.Proofs.YtnemkecffmdlnaaGreatDoor
namespace Go.Proofs
section
open Go.Shelf
def Tryz.JP:Go.Shelf.Ren:=⟨λ| 171=>39|243=>76|246=>131|283=>183|284=>184|285=>185|286=>186|129=>227|317=>226|318=>228|319=>229|320=>230|337=>254|338=>255|n=>n,λ| 3=>3|9=>9|2=>2|4=>4|171=>313|0=>0|53=>203|37=>89|5=>5|173=>316|212=>334|51=>335|20=>20|213=>336|46=>158|232=>363|233=>364|n=>n,λ| 17=>3|18=>7|19=>8|n=>n⟩
theorem Tryz.ady:Go.Proofs.LaysM.n171 Tryz.prog Tryz.JP:={
 mixed:=by kernel_rfl
 f129:=Tryz.func227.trans (congrArg some (by kernel_rfl))
 f171:=Tryz.func39.trans (congrArg some (by kernel_rfl))
 f243:=Tryz.func76.trans (congrArg some (by kernel_rfl))
 f246:=Tryz.func131.trans (congrArg some (by kernel_rfl))
 f283:=Tryz.func183.trans (congrArg some (by kernel_rfl))
 f284:=Tryz.func184.trans (congrArg some (by kernel_rfl))
 f285:=Tryz.func185.trans (congrArg some (by kernel_rfl))
 f286:=Tryz.func186.trans (congrArg some (by kernel_rfl))
 f317:=Tryz.func226.trans (congrArg some (by kernel_rfl))
 f318:=Tryz.func228.trans (congrArg some (by kernel_rfl))
 f319:=Tryz.func229.trans (congrArg some (by kernel_rfl))
 f320:=Tryz.func230.trans (congrArg some (by kernel_rfl))
 f337:=Tryz.func254.trans (congrArg some (by kernel_rfl))
 f338:=Tryz.func255.trans (congrArg some (by kernel_rfl))
 t0:=Tryz.underlying0
 a0:=Tryz.isAgg0
 z0:=Tryz.sizeOf0
 v0:=Tryz.zeroValue0
 t2:=Tryz.underlying2
 a2:=Tryz.isAgg2
 z2:=Tryz.sizeOf2
 v2:=Tryz.zeroValue2
 t3:=Tryz.underlying3
 a3:=Tryz.isAgg3
 z3:=Tryz.sizeOf3
 v3:=Tryz.zeroValue3
 t4:=Tryz.underlying4
 a4:=Tryz.isAgg4
 z4:=Tryz.sizeOf4
 v4:=Tryz.zeroValue4
 t5:=Tryz.underlying5
 a5:=Tryz.isAgg5
 z5:=Tryz.sizeOf5
 v5:=Tryz.zeroValue5
 t9:=Tryz.underlying9
 a9:=Tryz.isAgg9
 z9:=Tryz.sizeOf9
 v9:=Tryz.zeroValue9
 t20:=Tryz.underlying20
 a20:=Tryz.isAgg20
 z20:=Tryz.sizeOf20
 v20:=Tryz.zeroValue20
 t37:=Tryz.underlying89
 a37:=Tryz.isAgg89
 z37:=Tryz.sizeOf89
 v37:=Tryz.zeroValue89
 t46:=Tryz.underlying158
 a46:=Tryz.isAgg158
 z46:=Tryz.sizeOf158
 v46:=Tryz.zeroValue158
 t51:=Tryz.underlying335
 a51:=Tryz.isAgg335
 z51:=Tryz.sizeOf335
 v51:=Tryz.zeroValue335
 t53:=Tryz.underlying203
 a53:=Tryz.isAgg203
 z53:=Tryz.sizeOf203
 v53:=Tryz.zeroValue203
 t171:=Tryz.underlying313
 a171:=Tryz.isAgg313
 z171:=Tryz.sizeOf313
 v171:=Tryz.zeroValue313
 t173:=Tryz.underlying316
 a173:=Tryz.isAgg316
 z173:=Tryz.sizeOf316
 v173:=Tryz.zeroValue316
 t212:=Tryz.underlying334
 a212:=Tryz.isAgg334
 z212:=Tryz.sizeOf334
 v212:=Tryz.zeroValue334
 t213:=Tryz.underlying336
 a213:=Tryz.isAgg336
 z213:=Tryz.sizeOf336
 t232:=Tryz.underlying363
 a232:=Tryz.isAgg363
 z232:=Tryz.sizeOf363
 v232:=Tryz.zeroValue363
 t233:=Tryz.underlying364
 a233:=Tryz.isAgg364
 z233:=Tryz.sizeOf364
 v233:=Tryz.zeroValue364
 g17:=by kernel_rfl
 g18:=by kernel_rfl
 g19:=by kernel_rfl
 i0:=by kernel_rfl
 i2:=by kernel_rfl
 i3:=by kernel_rfl
 i4:=by kernel_rfl
 i5:=by kernel_rfl
 i9:=by kernel_rfl
 i20:=by kernel_rfl
 i37:=by kernel_rfl
 i46:=by kernel_rfl
 i51:=by kernel_rfl
 i53:=by kernel_rfl
 i171:=by kernel_rfl
 i173:=by kernel_rfl
 i212:=by kernel_rfl
 i232:=by kernel_rfl
 i233:=by kernel_rfl
 m17:=by kernel_rfl
 m18:=by kernel_rfl
 m19:=by kernel_rfl }
end
end Go.Proofs
namespace Go.Proofs.YtnemkecffmdlnaaGreatDoor
section
inductive Rx where
 |eps
 |cls (S:BitVec 256)
 |cat (a b:Rx)
 |alt (a b:Rx)
 |star (a:Rx)
 |and (a b:Rx)
 |minus (a b:Rx)
abbrev RL:=Nat×Rx
def cw(n:Nat):Nat:=min n 2001
def bc(mk:Rx->Rx->Rx)(a b:RL):RL:=(cw (1+a.1+b.1),mk a.2 b.2)
def bT(t:Rx):RL:=(1,t)
def gm(a:RL):RL:=(cw (1+a.1),.star a.2)
def bM(a:RL):RL:=bc .alt a (bT .eps)
def bG(f:RL->RL):Nat->RL->RL
 |0,x=>x
 |n+1,x=>bG f n (f x)
def dk(a:RL)(m n:Int):RL:=
 if m=0/\n<0 then gm a
 else if m=0/\n=0 then bT .eps
 else if n<0 then bc .cat (bG (λx=>bc .cat x a) (m-1).toNat (if m=0 then bM a else a)) (gm a)
 else bG (λx=>bc .cat x (bM a)) (n-max m 1).toNat (bG (λx=>bc .cat x a) (m-1).toNat (if m=0 then bM a else a))
section
variable (c:Int->Int)(N:Int)(rd:Int->Except (Int×Int) (BitVec 256×Int))
def rq:Nat->Int->Int->Int×Int
 |0,n,i=>(n,i)
 |k+1,n,i=>if i<N/\48<=c i/\c i<=57 then rq k (10*n+(c i-48)) (i+1) else (n,i)
def oy(i:Int):Except (Int×Int) (Int×Int):=
 if (rq c N 3 0 i).2=i then .error (20,i) else .ok (rq c N 3 0 i)
def P4(m j:Int):Except (Int×Int) (Int×Int):=
 if j<N/\c j=44 then (if ¬ j+1<N\/c (j+1)≠125 then oy c N (j+1) else .ok (-1,j+1)) else .ok (m,j)
def yH(m n j i:Int):Except (Int×Int) (Int×Int×Int):=
 if ¬ j<N\/c j≠125 then .error (20,j)
 else if 255<m\/255<n\/(0<=n/\n<m) then .error (22,i)
 else .ok (m,n,j+1)
def wJ(i:Int):Except (Int×Int) (Int×Int×Int):=
 match oy c N (i+1) with
 |.error e=>.error e
 |.ok (m,j)=>match P4 c N m j with
  |.error e=>.error e
  |.ok (n,j)=>yH c N m n j i
def jX:Nat->RL->Int->Except (Int×Int) (RL×Int)
 |0,r,i=>.ok (r,i)
 | f+1,r,i=>
  if ¬ i<N then .ok (r,i)
  else if c i=42 then jX f (gm r) (i+1)
  else if c i=43 then jX f (bc .cat r (gm r)) (i+1)
  else if c i=63 then jX f (bM r) (i+1)
  else if c i=123 then
   match wJ c N i with
   |.error e=>.error e
   |.ok (m,n,j)=>jX f (dk r m n) j
  else .ok (r,i)
def xL(o:Option RL):RL:=o.getD (bT .eps)
def Az(o:Option RL)(p:RL):RL:=match o with
 |none=>p
 |some x=>bc .cat x p
def gL(x:Int):Prop:=x=124\/x=38\/x=45\/x=41
def bH(x:Int):Prop:=x=42\/x=43\/x=63\/x=123
instance (x:Int):Decidable (gL x):=by unfold gL;infer_instance
instance (x:Int):Decidable (bH x):=by unfold bH;infer_instance
def fD(atom:Int->Except (Int×Int) (RL×Int)):Nat->Option RL->Int->Except (Int×Int) (RL×Int)
 |0,o,i=>.ok (xL o,i)
 | f+1,o,i=>
  if ¬ i<N then .ok (xL o,i)
  else if gL (c i) then .ok (xL o,i)
  else if bH (c i) then .error (20,i)
  else match atom i with
   |.error e=>.error e
   |.ok (a,j)=>match jX c N (N.toNat+1) a j with
    |.error e=>.error e
    |.ok (p,k)=>fD atom f (some (Az o p)) k
def lO(row:Int->Except (Int×Int) (RL×Int)):Nat->RL->Int->Except (Int×Int) (RL×Int)
 |0,o,i=>.ok (o,i)
 | f+1,o,i=>
  if ¬ i<N then .ok (o,i)
  else if c i=38 then match row (i+1) with
   |.error e=>.error e
   |.ok (r,j)=>lO row f (bc .and o r) j
  else if c i=45 then match row (i+1) with
   |.error e=>.error e
   |.ok (r,j)=>lO row f (bc .minus o r) j
  else .ok (o,i)
def lN(row:Int->Except (Int×Int) (RL×Int))(i:Int):Except (Int×Int) (RL×Int):=
 match row i with
 |.error e=>.error e
 |.ok (r,j)=>lO c N row (N.toNat+1) r j
def Al(meet:Int->Except (Int×Int) (RL×Int)):Nat->RL->Int->Except (Int×Int) (RL×Int)
 |0,o,i=>.ok (o,i)
 | f+1,o,i=>
  if i<N/\c i=124 then match meet (i+1) with
   |.error e=>.error e
   |.ok (r,j)=>Al meet f (bc .alt o r) j
  else .ok (o,i)
def ahX(meet:Int->Except (Int×Int) (RL×Int))(i:Int):Except (Int×Int) (RL×Int):=
 match meet i with
 |.error e=>.error e
 |.ok (r,j)=>Al c N meet (N.toNat+1) r j
def zo(atom:Int->Except (Int×Int) (RL×Int)):Int->Except (Int×Int) (RL×Int):=
 ahX c N (lN c N (fD c N atom (N.toNat+1) none))
def ve(i:Int):Except (Int×Int) (RL×Int):=match rd i with
 |.error e=>.error e
 |.ok (S,j)=>.ok (bT (.cls S),j)
def xj(i:Int):Except (Int×Int) (RL×Int)->Except (Int×Int) (RL×Int)
 |.error e=>.error e
 |.ok (r,j)=>if ¬ j<N then .error (21,i) else .ok (r,j+1)
def bA:Nat->Int->Except (Int×Int) (RL×Int)
 |0,i=>if c i=40 then .error (23,i) else ve rd i
 |n+1,i=>if c i=40 then xj N i (zo c N (bA n) (i+1)) else ve rd i
def alts(n:Nat):Int->Except (Int×Int) (RL×Int):=zo c N (bA c N rd n)
def SK:Except (Int×Int) (RL×Int)->Except (Int×Int) Rx
 |.error e=>.error e
 |.ok (r,j)=>if j<N then .error (20,j) else if 2000<r.1 then .error (24,0) else .ok r.2
def BA:Except (Int×Int) Rx:=if 1048576<N then .error (1,0) else SK N (alts c N rd 1000 0)
end
end
section
inductive RT where
 |eps
 |cls (S:BitVec 256)
 |cat (a b:RT)
 |alt (a b:RT)
 |and (a b:RT)
 |minus (a b:RT)
 |rep (a:RT) (m n:Int)
def kC(x:Rx)(m:Int)(k:Int):Rx:=if k<m then x else .alt x .eps
def fJ(x:Rx)(m:Int):Nat->Int->Rx->Rx
 |0,_,w=>w
 |n+1,k,w=>fJ x m n (k+1) (.cat w (kC x m k))
def ry(m:Int):Int:=if m=-2 then 1 else m
def kn(x:Rx)(m n:Int):Rx:=
 if n<0/\ry m=0 then .star x
 else if n=0 then .eps
 else if n<0 then .cat (fJ x (ry m) (ry m-1).toNat 1 (kC x (ry m) 0)) (.star x)
 else fJ x (ry m) (n-1).toNat 1 (kC x (ry m) 0)
def gu(a m n:Int):Int:=
 if m=-2 then a+1+a+1
 else if n<0/\m=0 then a+1
 else if n<0 then m*a+m-1+1+a+1
 else if n=0 then 1
 else if m=0 then n*(a+2)+n-1
 else m*a+m-1+(n-m)*(a+2+1)
def RT.expand:RT->Rx
 |.eps=>.eps
 |.cls S=>.cls S
 |.cat a b=>.cat a.expand b.expand
 |.alt a b=>.alt a.expand b.expand
 |.and a b=>.and a.expand b.expand
 |.minus a b=>.minus a.expand b.expand
 |.rep a m n=>kn a.expand m n
def RT.sz:RT->Nat
 |.eps=>1
 |.cls S=>1
 |.cat a b=>cw (1+a.sz+b.sz)
 |.alt a b=>cw (1+a.sz+b.sz)
 |.and a b=>cw (1+a.sz+b.sz)
 |.minus a b=>cw (1+a.sz+b.sz)
 |.rep a m n=>cw (gu a.sz m n).toNat
def RT.val(t:RT):RL:=(t.sz,t.expand)
theorem lh(n:Nat):cw n<=2001:=by unfold cw;omega
theorem MU(a b:Nat):cw (1+cw a+b)=cw (1+a+b):=by unfold cw;omega
theorem MV(a b:Nat):cw (1+a+cw b)=cw (1+a+b):=by unfold cw;omega
theorem FY{n:Nat}(h:n<=2001):cw n=n:=by unfold cw;omega
theorem oe(y:RL):∀ (k:Nat) (s:Nat) (w:Rx),(bG (λx=>bc .cat x y) k (cw s,w)).1=cw (s+k*(1+y.1))
 |0,s,w=>by simp[bG]
 |k+1,s,w=>by
  show (bG (λx=>bc .cat x y) k (cw (1+cw s+y.1),.cat w y.2)).1=_;rw[MU,oe y k,Nat.succ_mul]
  congr 1
  omega
theorem A4(x:Rx)(y:RL)(m:Int)(hy:y.2=x):∀ (n:Nat) (k:Int) (s:Nat) (w:Rx),k+n<=m->(bG (λz=>bc .cat z y) n (s,w)).2=fJ x m n k w
 |0,k,s,w,_=>rfl
 |n+1,k,s,w,h=>by
  have hpx:kC x m k=y.2:=by rw[kC,if_pos (by omega),hy]
  show (bG (λz=>bc .cat z y) n (cw (1+s+y.1),.cat w y.2)).2=fJ x m n (k+1) (.cat w (kC x m k));rw[hpx];exact A4 x y m hy n (k+1) _ _ (by omega)
theorem A3(x:Rx)(y:RL)(m:Int)(hy:y.2=.alt x .eps):∀ (n:Nat) (k:Int) (s:Nat) (w:Rx),m<=k->(bG (λz=>bc .cat z y) n (s,w)).2=fJ x m n k w
 |0,k,s,w,_=>rfl
 |n+1,k,s,w,h=>by
  have hpx:kC x m k=y.2:=by rw[kC,if_neg (by omega),hy]
  show (bG (λz=>bc .cat z y) n (cw (1+s+y.1),.cat w y.2)).2=fJ x m n (k+1) (.cat w (kC x m k));rw[hpx];exact A3 x y m hy n (k+1) _ _ (by omega)
theorem AB(x:Rx)(m:Int):∀ (a b:Nat) (k:Int) (w:Rx),fJ x m (a+b) k w=fJ x m b (k+a) (fJ x m a k w)
 |0,b,k,w=>by simp[fJ]
 |a+1,b,k,w=>by
  rw[Nat.succ_add];simp only[fJ];rw[AB x m a b]
  congr 1
  omega
theorem B6(t:RT):gm t.val=(RT.rep t 0 (-1)).val:=by
 simp only[gm,RT.val,RT.sz,RT.expand,kn,ry,gu];simp
 congr 1
 omega
theorem BI(t:RT):bc .cat t.val (gm t.val)=(RT.rep t (-2) (-1)).val:=by
 simp only[gm,bc,RT.val,RT.sz,RT.expand,kn,ry,gu,fJ,kC];simp[fJ];rw[MV]
 congr 1
 omega
theorem EI(t:RT):bM t.val=(RT.rep t 0 1).val:=by
 simp only[bM,bT,gm,bc,RT.val,RT.sz,RT.expand,kn,ry,gu,fJ,kC];simp[fJ]
 congr 1
 omega
theorem Jk(p k s:Nat):cw (p+k*(1+cw s))=cw (p+k*(1+s)):=by
 by_cases h:s<=2001
 ·rw[FY h]
 ·have e:cw s=2001:=by unfold cw;omega
  rw[e];cases k with
  |zero=>simp
  |succ k=>
   have h1:=Nat.succ_mul k (1+2001);have h2:=Nat.succ_mul k (1+s);unfold cw;rw[h1,h2];omega
theorem GJ{α β:Type}{x:α×β}{a:α}{b:β}(h1:x.1=a)(h2:x.2=b):x=(a,b):=by rw[<- h1,<- h2]
theorem yd(t:RT)(m n:Int)(h0:0<=m)(h1:n=-1\/(0<=n/\m<=n))(ht:t.sz<=2001):dk t.val m n=(RT.rep t m n).val:=by
 have hp:ry m=m:=by unfold ry;rw[if_neg (by omega)]
 have hm2:¬ m=-2:=by omega
 rcases h1 with rfl|⟨hn,hmn⟩
 ·by_cases hm:m=0
  ·subst hm;rw[<- B6];rfl
  ·obtain⟨a,rfl⟩:∃ a:Nat,m=(a:Int)+1:=⟨(m-1).toNat,by omega⟩;have e1:((a:Int)+1-1).toNat=a:=by omega
   have e2:dk t.val ((a:Int)+1) (-1)=bc .cat (bG (λx=>bc .cat x t.val) a t.val) (gm t.val):=by
    unfold dk;rw[if_neg (by omega),if_neg (by omega),if_pos (by omega),e1,if_neg hm]
   rw[e2];apply GJ
   ·show cw (1+(bG (λx=>bc .cat x t.val) a t.val).1+cw (1+t.sz))=cw (gu t.sz ((a:Int)+1) (-1)).toNat;have e3:(bG (λx=>bc .cat x t.val) a t.val).1=cw (t.sz+a*(1+t.sz)):=by
     have:=oe t.val a t.sz t.expand;rw[FY ht]at this;exact this
    have e4:gu t.sz ((a:Int)+1) (-1)=((1+(t.sz+a*(1+t.sz))+(1+t.sz):Nat):Int):=by
     unfold gu;rw[if_neg hm2,if_neg (by omega),if_pos (by omega)];have g1:((a:Int)+1)*(t.sz:Int)=(a:Int)*t.sz+t.sz:=by rw[Int.add_mul];omega
     have g2:a*(1+t.sz)=a+a*t.sz:=by rw[Nat.mul_add];omega
     rw[g1,g2];have g3:((a*t.sz:Nat):Int)=(a:Int)*t.sz:=by simp
     omega
    rw[e3,e4,MU,MV,Int.toNat_natCast]
   ·show Rx.cat (bG (λx=>bc .cat x t.val) a t.val).2 (.star t.expand)=kn t.expand ((a:Int)+1) (-1);unfold kn;rw[hp,if_neg (by omega),if_neg (by omega),if_pos (by omega),e1];have:=A4 t.expand t.val ((a:Int)+1) rfl a 1 t.sz t.expand (by omega)
    rw[show kC t.expand ((a:Int)+1) 0=t.expand from by unfold kC;rw[if_pos (by omega)]];rw[<- this];rfl
 ·by_cases hm:m=0
  ·subst hm;by_cases hn0:n=0
   ·subst hn0;rfl
   ·obtain⟨b,rfl⟩:∃ b:Nat,n=(b:Int)+1:=⟨(n-1).toNat,by omega⟩;have e1:((b:Int)+1-max 0 1).toNat=b:=by omega
    have e2:dk t.val 0 ((b:Int)+1)=bG (λx=>bc .cat x (bM t.val)) b (bM t.val):=by
     unfold dk;rw[if_neg (by omega),if_neg (by omega),if_neg (by omega),e1,if_pos rfl];rfl
    rw[e2];apply GJ
    ·have e3:(bG (λx=>bc .cat x (bM t.val)) b (bM t.val)).1=cw ((t.sz+2)+b*(1+(t.sz+2))):=by
      have:=oe (bM t.val) b (1+t.sz+1) (.alt t.expand .eps);rw[show (bM t.val).1=cw (t.sz+2) from by show cw (1+t.sz+1)=_;congr 1;omega,Jk]at this;rw[show 1+t.sz+1=t.sz+2 by omega]at this;rw[<- this];show (bG _ b (cw (1+t.sz+1),_)).1=_;rw[show 1+t.sz+1=t.sz+2 by omega];rfl
     have e4:gu t.sz 0 ((b:Int)+1)=(((t.sz+2)+b*(1+(t.sz+2)):Nat):Int):=by
      unfold gu;rw[if_neg (by omega),if_neg (by omega),if_neg (by omega),if_neg (by omega),if_pos rfl];have g1:((b:Int)+1)*((t.sz:Int)+2)=(b:Int)*t.sz+2*b+t.sz+2:=by rw[Int.add_mul,Int.mul_add];omega
      have g2:b*(1+(t.sz+2))=b*t.sz+3*b:=by rw[show 1+(t.sz+2)=t.sz+3 by omega,Nat.mul_add];omega
      rw[g1,g2];have g3:((b*t.sz:Nat):Int)=(b:Int)*t.sz:=by simp
      omega
     rw[e3];show _=cw (gu t.sz 0 ((b:Int)+1)).toNat;rw[e4,Int.toNat_natCast]
    ·show _=kn t.expand 0 ((b:Int)+1);unfold kn;rw[hp,if_neg (by omega),if_neg (by omega),if_neg (by omega),show ((b:Int)+1-1).toNat=b by omega];have:=A3 t.expand (bM t.val) 0 rfl b 1 (bM t.val).1 (.alt t.expand .eps) (by omega)
     rw[show kC t.expand 0 0=.alt t.expand .eps from by unfold kC;rw[if_neg (by omega)]];rw[<- this];rfl
  ·obtain⟨a,rfl⟩:∃ a:Nat,m=(a:Int)+1:=⟨(m-1).toNat,by omega⟩;obtain⟨d,rfl⟩:∃ d:Nat,n=(a:Int)+1+d:=⟨(n-(a+1)).toNat,by omega⟩;have e1:((a:Int)+1-1).toNat=a:=by omega
   have e0:((a:Int)+1+d-max ((a:Int)+1) 1).toNat=d:=by omega
   have e2:dk t.val ((a:Int)+1) ((a:Int)+1+d)=bG (λx=>bc .cat x (bM t.val)) d (bG (λx=>bc .cat x t.val) a t.val):=by
    unfold dk;rw[if_neg (by omega),if_neg (by omega),if_neg (by omega),e0,e1,if_neg hm]
   have e3:(bG (λx=>bc .cat x t.val) a t.val).1=cw (t.sz+a*(1+t.sz)):=by
    have:=oe t.val a t.sz t.expand;rw[FY ht]at this;exact this
   have e5:(bG (λx=>bc .cat x t.val) a t.val).2=fJ t.expand ((a:Int)+1) a 1 t.expand:=A4 t.expand t.val ((a:Int)+1) rfl a 1 t.sz t.expand (by omega);have e6:bG (λx=>bc .cat x t.val) a t.val=(cw (t.sz+a*(1+t.sz)),fJ t.expand ((a:Int)+1) a 1 t.expand):=GJ e3 e5;rw[e2,e6];apply GJ
   ·have e4:gu t.sz ((a:Int)+1) ((a:Int)+1+d)=((t.sz+a*(1+t.sz)+d*(1+(t.sz+2)):Nat):Int):=by
     unfold gu;rw[if_neg hm2,if_neg (by omega),if_neg (by omega),if_neg (by omega),if_neg hm];have g1:((a:Int)+1)*(t.sz:Int)=(a:Int)*t.sz+t.sz:=by rw[Int.add_mul];omega
     have g2:a*(1+t.sz)=a+a*t.sz:=by rw[Nat.mul_add];omega
     have g4:((a:Int)+1+d-((a:Int)+1))*((t.sz:Int)+2+1)=(d:Int)*t.sz+3*d:=by
      rw[show (a:Int)+1+d-((a:Int)+1)=d by omega,show (t.sz:Int)+2+1=t.sz+3 by omega,Int.mul_add];omega
     have g5:d*(1+(t.sz+2))=d*t.sz+3*d:=by rw[show 1+(t.sz+2)=t.sz+3 by omega,Nat.mul_add];omega
     rw[g1,g2,g4,g5];have g3:((a*t.sz:Nat):Int)=(a:Int)*t.sz:=by simp
     have g6:((d*t.sz:Nat):Int)=(d:Int)*t.sz:=by simp
     omega
    show _=cw (gu t.sz ((a:Int)+1) ((a:Int)+1+d)).toNat;rw[e4,Int.toNat_natCast,oe];rw[show (bM t.val).1=cw (t.sz+2) from by show cw (1+t.sz+1)=_;congr 1;omega,Jk]
   ·show _=kn t.expand ((a:Int)+1) ((a:Int)+1+d);unfold kn;rw[hp,if_neg (by omega),if_neg (by omega),if_neg (by omega),show ((a:Int)+1+d-1).toNat=a+d by omega,AB];rw[show kC t.expand ((a:Int)+1) 0=t.expand from by unfold kC;rw[if_pos (by omega)]]
    exact A3 t.expand (bM t.val) ((a:Int)+1) rfl d (1+a) _ _ (by omega)
theorem zh(t:RT):t.sz<=2001:=by
 cases t<;>simp only[RT.sz]<;>first|exact lh _|omega
end
section
structure Lv where
 place:Int
 alt:Option RT
 meet:Option RT
 sgn:Int
 row:Option RT
 fac:Option RT
def iO(i:Int):Lv:=⟨i,none,none,0,none,none⟩
def aka:Option RT->RT->RT
 |none,p=>p
 |some r,p=>.cat r p
def rowOf(row fac:Option RT):Option RT:=match fac with
 |none=>row
 |some p=>some (aka row p)
def fq(f:Lv):Lv:={ f with row:=rowOf f.row f.fac,fac:=none }
def lP(meet:Option RT)(sgn:Int)(r:RT):RT:=match meet with
 |none=>r
 |some m=>if sgn=38 then .and m r else .minus m r
def mS(f:Lv):Lv:={ f with meet:=some (lP f.meet f.sgn ((rowOf f.row f.fac).getD .eps)),row:=none,fac:=none }
def Wn(alt:Option RT)(m:RT):RT:=match alt with
 |none=>m
 |some a=>.alt a m
def fc(f:Lv):RT:=lP f.meet f.sgn ((rowOf f.row f.fac).getD .eps)
def jD(f:Lv):RT:=Wn f.alt (fc f)
def xk(f:Lv):Lv:={ f with alt:=some (jD f),meet:=none,row:=none,fac:=none }
section
variable (c:Int->Int)(N:Int)(rd:Int->Except (Int×Int) (BitVec 256×Int))
def rA(i:Int)(f:Lv)(p:RT):Except (Int×Int) (Int×Lv):=
 if c i=42 then .ok (i+1,{ f with fac:=some (.rep p 0 (-1)) })
 else if c i=43 then .ok (i+1,{ f with fac:=some (.rep p (-2) (-1)) })
 else if c i=63 then .ok (i+1,{ f with fac:=some (.rep p 0 1) })
 else match wJ c N i with
  |.error e=>.error e
  |.ok (m,n,j)=>.ok (j,{ f with fac:=some (.rep p m n) })
def fe(i:Int)(f:Lv)(rest:List Lv):Except (Int×Int) (Int×Lv×List Lv):=
 if bH (c i) then
  match f.fac with
  |none=>.error (20,i)
  |some p=>match rA c N i f p with
   |.error e=>.error e
   |.ok (j,g)=>.ok (j,g,rest)
 else if c i=124 then .ok (i+1,xk f,rest)
 else if c i=38\/c i=45 then .ok (i+1,{ mS f with sgn:=c i },rest)
 else if c i=41 then
  match rest with
  |[]=>.error (20,i)
  |g::r=>.ok (i+1,{ g with fac:=some (jD f) },r)
 else if c i=40 then
  if 1000<rest.length+1 then .error (23,i) else .ok (i+1,iO i,fq f::rest)
 else match rd i with
  |.error e=>.error e
  |.ok (S,j)=>.ok (j,{ fq f with fac:=some (.cls S) },rest)
def runN:Nat->Int->Lv->List Lv->Except (Int×Int) (Lv×List Lv)
 |0,_,f,rest=>.ok (f,rest)
 | n+1,i,f,rest=>
  if i<N then match fe c N rd i f rest with
   |.error e=>.error e
   |.ok (j,g,r)=>runN n j g r
  else .ok (f,rest)
def run(i:Int)(f:Lv)(rest:List Lv):Except (Int×Int) (Lv×List Lv):=runN c N rd ((N-i).toNat+1) i f rest
def qX:Except (Int×Int) (Lv×List Lv)->Except (Int×Int) RT
 |.error e=>.error e
 |.ok (f,rest)=>if rest≠[] then .error (21,f.place) else if 2000<(jD f).sz then .error (24,0) else .ok (jD f)
def ru:Except (Int×Int) RT:=if 1048576<N then .error (1,0) else qX (run c N rd 0 (iO (-1)) [])
variable {c N rd}
def wU(N:Int)(rd:Int->Except (Int×Int) (BitVec 256×Int)):Prop:=∀ i S j,0<=i->i<N->rd i=.ok (S,j)->i<j/\j<=N
theorem adS:∀ (k:Nat) (n i:Int),i<=(rq c N k n i).2/\((rq c N k n i).2<=N\/(rq c N k n i).2=i):=by
 intro k
 induction k with
 |zero=>intro n i;exact⟨Int.le_refl _,.inr rfl⟩
 | succ k ih=>
  intro n i;simp only[rq];split
  ·have:=ih (10*n+(c i-48)) (i+1);omega
  ·exact⟨Int.le_refl _,.inr rfl⟩
theorem zT{i n j:Int}(h:oy c N i=.ok (n,j)):i<j/\j<=N:=by
 have:=adS (c:=c) (N:=N) 3 0 i;unfold oy at h;split at h
 ·cases h
 ·simp only[Except.ok.injEq]at h;rw[h]at this;rename_i hne;rw[h]at hne;simp only at this hne;omega
theorem FU{i m n j:Int}(h:wJ c N i=.ok (m,n,j)):i<j/\j<=N:=by
 unfold wJ at h;cases h1:oy c N (i+1) with
 |error e=>rw[h1]at h;cases h
 | ok p=>
  obtain⟨m',j'⟩:=p;rw[h1]at h;simp only at h;have g1:=zT h1;cases h2:P4 c N m' j' with
  |error e=>rw[h2]at h;cases h
  | ok p=>
   obtain⟨n',j2⟩:=p;rw[h2]at h;simp only at h;have g2:j' <= j2/\j2<=N:=by
    unfold P4 at h2;split at h2
    ·split at h2
     ·have:=zT h2;omega
     ·simp only[Except.ok.injEq,Prod.mk.injEq]at h2;omega
    ·simp only[Except.ok.injEq,Prod.mk.injEq]at h2;omega
   unfold yH at h;split at h
   ·cases h
   ·split at h
    ·cases h
    ·simp only[Except.ok.injEq,Prod.mk.injEq]at h;omega
theorem WL{i m n j:Int}(h:wJ c N i=.ok (m,n,j)):0<=m/\(n=-1\/(0<=n/\m<=n)):=by
 have nn:∀ (k:Nat) (n i:Int),0<=n->0<=(rq c N k n i).1:=by
  intro k
  induction k with
  |zero=>intro n i h;exact h
  |succ k ih=>
   intro n i h;simp only[rq];split
   ·exact ih _ _ (by omega)
   ·exact h
 have ne:∀ {i n j:Int},oy c N i=.ok (n,j)->0<=n:=λ{i n j} h=>by
  unfold oy at h;split at h
  ·cases h
  ·simp only[Except.ok.injEq]at h;have:=nn 3 0 i (by omega);rw[h]at this;exact this
 unfold wJ at h;cases h1:oy c N (i+1) with
 |error e=>rw[h1]at h;cases h
 | ok p=>
  obtain⟨m',j'⟩:=p;rw[h1]at h;simp only at h;have g1:=ne h1;cases h2:P4 c N m' j' with
  |error e=>rw[h2]at h;cases h
  | ok p=>
   obtain⟨n',j2⟩:=p;rw[h2]at h;simp only at h;have g2:n' = -1\/0<=n' := by
    unfold P4 at h2;split at h2
    ·split at h2
     ·exact .inr (ne h2)
     ·simp only[Except.ok.injEq,Prod.mk.injEq]at h2;omega
    ·simp only[Except.ok.injEq,Prod.mk.injEq]at h2;omega
   unfold yH at h;split at h
   ·cases h
   ·split at h
    ·cases h
    ·simp only[Except.ok.injEq,Prod.mk.injEq]at h;obtain⟨rfl,rfl,_⟩:=h;omega
theorem Lj(hrd:wU N rd){i j:Int}{f g:Lv}{rest r:List Lv}(h0:0<=i)(hi:i<N)(h:fe c N rd i f rest=.ok (j,g,r)):i<j/\j<=N:=by
 unfold fe at h;split at h
 ·cases hf:f.fac with
  |none=>rw[hf]at h;cases h
  | some p=>
   rw[hf]at h;simp only at h;cases hp:rA c N i f p with
   |error e=>rw[hp]at h;cases h
   | ok q=>
    obtain⟨j',g'⟩:=q;rw[hp]at h;simp only[Except.ok.injEq,Prod.mk.injEq]at h;obtain⟨rfl,rfl,rfl⟩:=h;unfold rA at hp;split at hp
    ·simp only[Except.ok.injEq,Prod.mk.injEq]at hp;omega
    ·split at hp
     ·simp only[Except.ok.injEq,Prod.mk.injEq]at hp;omega
     ·split at hp
      ·simp only[Except.ok.injEq,Prod.mk.injEq]at hp;omega
      ·cases hb:wJ c N i with
       |error e=>rw[hb]at hp;cases hp
       |ok q=>
        obtain⟨m,n,k⟩:=q;rw[hb]at hp;simp only[Except.ok.injEq,Prod.mk.injEq]at hp;have:=FU hb;omega
 ·split at h
  ·simp only[Except.ok.injEq,Prod.mk.injEq]at h;omega
  ·split at h
   ·simp only[Except.ok.injEq,Prod.mk.injEq]at h;omega
   ·split at h
    ·cases rest with
     |nil=>cases h
     |cons g r=>simp only[Except.ok.injEq,Prod.mk.injEq]at h;omega
    ·split at h
     ·split at h
      ·cases h
      ·simp only[Except.ok.injEq,Prod.mk.injEq]at h;omega
     ·cases hS:rd i with
      |error e=>rw[hS]at h;cases h
      |ok q=>
       obtain⟨S,k⟩:=q;rw[hS]at h;simp only[Except.ok.injEq,Prod.mk.injEq]at h;have:=hrd i S k h0 hi hS;omega
theorem UR(hrd:wU N rd):∀ (n m:Nat) (i:Int) (f:Lv) (rest:List Lv),0<=i->N-i<n->N-i<m->runN c N rd n i f rest=runN c N rd m i f rest:=by
 intro n
 induction n with
 |zero=>
  intro m i f rest h0 h1 h2;cases m with
  |zero=>rfl
  |succ m=>simp only[runN];rw[if_neg (by omega)]
 | succ n ih=>
  intro m i f rest h0 h1 h2;cases m with
  |zero=>simp only[runN];rw[if_neg (by omega)]
  | succ m=>
   simp only[runN];by_cases hi:i<N
   ·rw[if_pos hi,if_pos hi];cases hs:fe c N rd i f rest with
    |error e=>rfl
    |ok q=>
     obtain⟨j,g,r⟩:=q;have:=Lj hrd h0 hi hs;exact ih m j g r (by omega) (by omega) (by omega)
   ·rw[if_neg hi,if_neg hi]
theorem Q9{i:Int}{f:Lv}{rest:List Lv}(hi:¬ i<N):run c N rd i f rest=.ok (f,rest):=by
 unfold run;simp only[runN];rw[if_neg hi]
theorem hH(hrd:wU N rd){i:Int}{f:Lv}{rest:List Lv}(h0:0<=i)(hi:i<N):run c N rd i f rest=match fe c N rd i f rest with
  |.error e=>.error e
  |.ok (j,g,r)=>run c N rd j g r:=by
 unfold run;rw[runN,if_pos hi];cases hs:fe c N rd i f rest with
 |error e=>rfl
 |ok q=>
  obtain⟨j,g,r⟩:=q;have:=Lj hrd h0 hi hs;exact UR hrd _ _ j g r (by omega) (by omega) (by omega)
theorem ad6(hrd:wU N rd):∀ (n:Nat) (i:Int) (p:RT) (f:Lv) (rest:List Lv),0<=i->i<=N->N-i<n->f.fac=some p ->
  match jX c N n p.val i with
  |.error e=>qX (run c N rd i f rest)=.error e
  |.ok (r,j)=>i<=j/\j<=N/\(j<N->¬ bH (c j))/\∃ q,r=RT.val q/\run c N rd i f rest=run c N rd j { f with fac:=some q } rest:=by
 intro n
 induction n with
 |zero=>intro i p f rest _ _ h;omega
 | succ n ih=>
  intro i p f rest h0 hiN hn hf;have same:f={ f with fac:=some p }:=by cases f;simp only at hf;subst hf;rfl
  have go:∀ (q:RT) (j:Int),i<j->j<=N->fe c N rd i f rest=.ok (j,{ f with fac:=some q },rest)->∀ res,jX c N (n+1) p.val i=res->jX c N n q.val j=res ->
    match res with
    |.error e=>qX (run c N rd i f rest)=.error e
    |.ok (r,j)=>i<=j/\j<=N/\(j<N->¬ bH (c j))/\∃ q,r=RT.val q/\run c N rd i f rest=run c N rd j { f with fac:=some q } rest:=by
   intro q j hij hjN hs res _ hr;have:=ih j q { f with fac:=some q } rest (by omega) hjN (by omega) rfl;rw[hr]at this;have hi:i<N:=by omega
   rw[hH hrd h0 hi,hs];cases res with
   |error e=>exact this
   |ok x=>
    obtain⟨r,k⟩:=x;obtain⟨g1,g2,g3,q',g4,g5⟩:=this;exact⟨by omega,g2,g3,q',g4,g5⟩
  by_cases hi:i<N
  ·have hP:∀ x,bH (c i)->rA c N i f p=x->fe c N rd i f rest=match x with|.error e=>.error e|.ok (j,g)=>.ok (j,g,rest):=λx hp hx=>by
    unfold fe;rw[if_pos hp,hf];simp only[hx]
   have hE:jX c N (n+1) p.val i=if c i=42 then jX c N n (gm p.val) (i+1)
     else if c i=43 then jX c N n (bc .cat p.val (gm p.val)) (i+1)
     else if c i=63 then jX c N n (bM p.val) (i+1)
     else if c i=123 then
      match wJ c N i with
      |.error e=>.error e
      |.ok (m,n',j)=>jX c N n (dk p.val m n') j
     else .ok (p.val,i):=by
    rw[jX,if_neg (by omega)]
    all_goals rfl
   by_cases h42:c i=42
   ·rw[hE,if_pos h42,B6];exact go _ (i+1) (by omega) (by omega) (by rw[hP _ (by unfold bH;omega) rfl];unfold rA;rw[if_pos h42]) _ (by rw[hE,if_pos h42,B6]) rfl
   ·by_cases h43:c i=43
    ·rw[hE,if_neg h42,if_pos h43,BI];exact go _ (i+1) (by omega) (by omega) (by rw[hP _ (by unfold bH;omega) rfl];unfold rA;rw[if_neg h42,if_pos h43]) _ (by rw[hE,if_neg h42,if_pos h43,BI]) rfl
    ·by_cases h63:c i=63
     ·rw[hE,if_neg h42,if_neg h43,if_pos h63,EI];exact go _ (i+1) (by omega) (by omega) (by rw[hP _ (by unfold bH;omega) rfl];unfold rA;rw[if_neg h42,if_neg h43,if_pos h63]) _ (by rw[hE,if_neg h42,if_neg h43,if_pos h63,EI]) rfl
     ·by_cases h123:c i=123
      ·have hps:rA c N i f p=match wJ c N i with
         |.error e=>.error e
         |.ok (m,n,j)=>.ok (j,{ f with fac:=some (.rep p m n) }):=by
        unfold rA;rw[if_neg h42,if_neg h43,if_neg h63]
       rw[hE,if_neg h42,if_neg h43,if_neg h63,if_pos h123];cases hb:wJ c N i with
       |error e=>
        simp only;rw[hH hrd h0 hi,hP _ (by unfold bH;omega) hps,hb];rfl
       |ok x=>
        obtain⟨m,n',j⟩:=x;have g1:=FU hb;obtain⟨g2,g3⟩:=WL hb;simp only;rw[yd p m n' g2 g3 (zh p)];exact go _ j g1.1 g1.2 (by rw[hP _ (by unfold bH;omega) hps,hb]) _ (by rw[hE,if_neg h42,if_neg h43,if_neg h63,if_pos h123,hb];simp only;rw[yd p m n' g2 g3 (zh p)]) rfl
      ·rw[hE,if_neg h42,if_neg h43,if_neg h63,if_neg h123];exact⟨Int.le_refl _,by omega,λ_ hp=>by unfold bH at hp;omega,p,rfl,by rw[<- same]⟩
  ·rw[jX,if_pos hi];exact⟨Int.le_refl _,hiN,λh=>absurd h hi,p,rfl,by rw[<- same]⟩
def wP(c:Int->Int)(N:Int)(rd:Int->Except (Int×Int) (BitVec 256×Int))(n:Nat):Prop:=∀ (i:Int) (f:Lv) (rest:List Lv),0<=i->i<N->¬ gL (c i)->¬ bH (c i)->rest.length+n=1000 ->
  match bA c N rd n i with
  |.error e=>qX (run c N rd i f rest)=.error e
  |.ok (r,j)=>i<j/\j<=N/\∃ t,r=RT.val t/\run c N rd i f rest=run c N rd j { fq f with fac:=some t } rest
theorem Kl(o:Option RT):xL (o.map RT.val)=(o.getD .eps).val:=by cases o<;>rfl
theorem WO(o:Option RT)(p:RT):Az (o.map RT.val) p.val=(aka o p).val:=by cases o<;>rfl
theorem GY(hrd:wU N rd){n:Nat}(ha:wP c N rd n):∀ (k:Nat) (i:Int) (f:Lv) (rest:List Lv),0<=i->i<=N->N-i<k->(f.fac≠none->i<N->¬ bH (c i))->rest.length+n=1000 ->
  match fD c N (bA c N rd n) k ((rowOf f.row f.fac).map RT.val) i with
  |.error e=>qX (run c N rd i f rest)=.error e
  |.ok (r,j)=>i<=j/\j<=N/\(j<N->gL (c j))/\∃ row fac,r=((rowOf row fac).getD .eps).val/\run c N rd i f rest=run c N rd j { f with row:=row,fac:=fac } rest:=by
 intro k
 induction k with
 |zero=>intro i f rest _ _ h;omega
 | succ k ih=>
  intro i f rest h0 hiN hk hp hd;by_cases hi:i<N
  ·by_cases he:gL (c i)
   ·rw[fD,if_neg (by omega),if_pos he,Kl];exact⟨Int.le_refl _,hiN,λ_=>he,f.row,f.fac,rfl,rfl⟩
   ·by_cases hps:bH (c i)
    ·rw[fD,if_neg (by omega),if_neg he,if_pos hps];have hf:f.fac=none:=by
      cases hf:f.fac with
      |none=>rfl
      |some p=>exact absurd hps (hp (by rw[hf];simp) hi)
     simp only;rw[hH hrd h0 hi];unfold fe;rw[if_pos hps,hf];rfl
    ·rw[fD,if_neg (by omega),if_neg he,if_neg hps];have h1:=ha i f rest h0 hi he hps hd;cases hA:bA c N rd n i with
     |error e=>rw[hA]at h1;exact h1
     | ok x=>
      obtain⟨a,j⟩:=x;rw[hA]at h1;obtain⟨g1,g2,t,rfl,g3⟩:=h1;have h2:=ad6 (c:=c) hrd (N.toNat+1) j t { fq f with fac:=some t } rest (by omega) g2 (by omega) rfl;simp only;cases hR:jX c N (N.toNat+1) t.val j with
      |error e=>rw[hR]at h2;simp only at h2 ⊢;rw[g3,h2]
      | ok y=>
       obtain⟨p,l⟩:=y;rw[hR]at h2;obtain⟨g4,g5,g6,q,rfl,g7⟩:=h2;simp only;have h3:=ih l { fq f with fac:=some q } rest (by omega) g5 (by omega) (λ_=>g6) hd;have e1:some (Az ((rowOf f.row f.fac).map RT.val) q.val)=(rowOf (fq f).row (some q)).map RT.val:=by
        rw[WO];rfl
       rw[e1];simp only at h3;revert h3;cases fD c N (bA c N rd n) k ((rowOf (fq f).row (some q)).map RT.val) l with
       |error e=>intro h3;simp only at h3 ⊢;rw[g3,g7,h3]
       |ok z=>
        obtain⟨r,m⟩:=z;rintro⟨g8,g9,g10,row,fac,g11,g12⟩;exact⟨by omega,g9,g10,row,fac,g11,by rw[g3,g7,g12];rfl⟩
  ·rw[fD,if_pos hi,Kl];exact⟨Int.le_refl _,hiN,λh=>absurd h hi,f.row,f.fac,rfl,rfl⟩
theorem TV(hrd:wU N rd){n:Nat}(ha:wP c N rd n):∀ (k:Nat) (i:Int) (f:Lv) (rest:List Lv),0<=i->i<=N->N-i<k->(i<N->gL (c i))->rest.length+n=1000 ->
  match lO c N (fD c N (bA c N rd n) (N.toNat+1) none) k (fc f).val i with
  |.error e=>qX (run c N rd i f rest)=.error e
  |.ok (r,j)=>i<=j/\j<=N/\(j<N->c j=124\/c j=41)/\∃ g:Lv,g.place=f.place/\g.alt=f.alt/\r=(fc g).val/\run c N rd i f rest=run c N rd j g rest:=by
 intro k
 induction k with
 |zero=>intro i f rest _ _ h;omega
 | succ k ih=>
  intro i f rest h0 hiN hk he hd;by_cases hi:i<N
  ·have go:∀ (mk:RT->RT->RT) (mkx:Rx->Rx->Rx),(∀ a b:RT,bc mkx a.val b.val=(mk a b).val)->(c i=38\/c i=45)->(∀ (m:RT) (g:Lv),g.meet=some m->g.sgn=c i->fc g=mk m ((rowOf g.row g.fac).getD .eps)) ->
     match (match fD c N (bA c N rd n) (N.toNat+1) none (i+1) with
      |.error e=>(.error e:Except (Int×Int) (RL×Int))
      |.ok (r,j)=>lO c N (fD c N (bA c N rd n) (N.toNat+1) none) k (bc mkx (fc f).val r) j) with
     |.error e=>qX (run c N rd i f rest)=.error e
     |.ok (r,j)=>i<=j/\j<=N/\(j<N->c j=124\/c j=41)/\∃ g:Lv,g.place=f.place/\g.alt=f.alt/\r=(fc g).val/\run c N rd i f rest=run c N rd j g rest:=by
    intro mk mkx hmk hc hmt;have hs:fe c N rd i f rest=.ok (i+1,{ mS f with sgn:=c i },rest):=by
     unfold fe;rw[if_neg (by unfold bH;omega),if_neg (by omega),if_pos hc]
    have h1:=GY hrd ha (N.toNat+1) (i+1) { mS f with sgn:=c i } rest (by omega) (by omega) (by omega) (λh=>absurd rfl h) hd;have hr:run c N rd i f rest=run c N rd (i+1) { mS f with sgn:=c i } rest:=by rw[hH hrd h0 hi,hs]
    have e0:(rowOf ({ mS f with sgn:=c i }:Lv).row ({ mS f with sgn:=c i }:Lv).fac).map RT.val=none:=rfl;rw[e0]at h1;revert h1;cases fD c N (bA c N rd n) (N.toNat+1) none (i+1) with
    |error e=>intro h1;simp only at h1 ⊢;rw[hr];exact h1
    | ok z=>
     obtain⟨r,j⟩:=z;rintro⟨g1,g2,g3,row,fac,rfl,g4⟩;simp only;rw[hmk];have hg:mk (fc f) ((rowOf row fac).getD .eps)=fc { mS f with sgn:=c i,row:=row,fac:=fac }:=(hmt (fc f) { mS f with sgn:=c i,row:=row,fac:=fac } rfl rfl).symm;rw[hg]
     have h2:=ih j { mS f with sgn:=c i,row:=row,fac:=fac } rest (by omega) g2 (by omega) g3 hd;revert h2;cases lO c N (fD c N (bA c N rd n) (N.toNat+1) none) k (fc { mS f with sgn:=c i,row:=row,fac:=fac }).val j with
     |error e=>intro h2;simp only at h2 ⊢;rw[hr];exact (congrArg qX g4).trans h2
     |ok y=>
      obtain⟨r2,j2⟩:=y;rintro⟨g5,g6,g7,g,g8,g9,g10,g11⟩;exact⟨by omega,g6,g7,g,g8,g9,g10,by rw[hr];exact g4.trans g11⟩
   by_cases h38:c i=38
   ·rw[lO,if_neg (by omega),if_pos h38];exact go .and .and (λa b=>rfl) (.inl h38) λm g h1 h2=>by unfold fc;rw[h1,h2,h38];simp[lP]
   ·by_cases h45:c i=45
    ·rw[lO,if_neg (by omega),if_neg h38,if_pos h45];exact go .minus .minus (λa b=>rfl) (.inr h45) λm g h1 h2=>by unfold fc;rw[h1,h2,h45];simp[lP]
    ·rw[lO,if_neg (by omega),if_neg h38,if_neg h45];have:=he hi;exact⟨Int.le_refl _,hiN,λ_=>by unfold gL at this;omega,f,rfl,rfl,rfl,rfl⟩
  ·rw[lO,if_pos hi];exact⟨Int.le_refl _,hiN,λh=>absurd h hi,f,rfl,rfl,rfl,rfl⟩
theorem Bk(hrd:wU N rd){n:Nat}(ha:wP c N rd n)(i:Int)(f:Lv)(rest:List Lv)(h0:0<=i)(hiN:i<=N)(hd:rest.length+n=1000)(h1:f.meet=none)(h2:f.row=none)(h3:f.fac=none) :
  match lN c N (fD c N (bA c N rd n) (N.toNat+1) none) i with
  |.error e=>qX (run c N rd i f rest)=.error e
  |.ok (r,j)=>i<=j/\j<=N/\(j<N->c j=124\/c j=41)/\∃ g:Lv,g.place=f.place/\g.alt=f.alt/\r=(fc g).val/\run c N rd i f rest=run c N rd j g rest:=by
 have g:=GY hrd ha (N.toNat+1) i f rest h0 hiN (by omega) (λh=>absurd h3 h) hd;have e0:(rowOf f.row f.fac).map RT.val=none:=by rw[h2,h3];rfl
 rw[e0]at g;unfold lN;revert g;cases fD c N (bA c N rd n) (N.toNat+1) none i with
 |error e=>exact λg=>g
 | ok z=>
  obtain⟨r,j⟩:=z;rintro⟨g1,g2,g3,row,fac,rfl,g4⟩;simp only;have hm:(rowOf row fac).getD .eps=fc { f with row:=row,fac:=fac }:=by unfold fc;rw[h1];rfl
  rw[hm];have h5:=TV hrd ha (N.toNat+1) j { f with row:=row,fac:=fac } rest (by omega) g2 (by omega) g3 hd;revert h5;cases lO c N (fD c N (bA c N rd n) (N.toNat+1) none) (N.toNat+1) (fc { f with row:=row,fac:=fac }).val j with
  |error e=>intro h5;exact (congrArg qX g4).trans h5
  |ok y=>
   obtain⟨r2,j2⟩:=y;rintro⟨g5,g6,g7,g,g8,g9,g10,g11⟩;exact⟨by omega,g6,g7,g,g8,g9,g10,g4.trans g11⟩
theorem Wm(hrd:wU N rd){n:Nat}(ha:wP c N rd n):∀ (k:Nat) (i:Int) (f:Lv) (rest:List Lv),0<=i->i<=N->N-i<k->(i<N->c i=124\/c i=41)->rest.length+n=1000 ->
  match Al c N (lN c N (fD c N (bA c N rd n) (N.toNat+1) none)) k (jD f).val i with
  |.error e=>qX (run c N rd i f rest)=.error e
  |.ok (r,j)=>i<=j/\j<=N/\(j<N->c j=41)/\∃ g:Lv,g.place=f.place/\r=(jD g).val/\run c N rd i f rest=run c N rd j g rest:=by
 intro k
 induction k with
 |zero=>intro i f rest _ _ h;omega
 | succ k ih=>
  intro i f rest h0 hiN hk he hd;by_cases hi:i<N/\c i=124
  ·rw[Al,if_pos hi];have hs:fe c N rd i f rest=.ok (i+1,xk f,rest):=by
    unfold fe;rw[if_neg (by unfold bH;omega),if_pos hi.2]
   have hr:run c N rd i f rest=run c N rd (i+1) (xk f) rest:=by rw[hH hrd h0 hi.1,hs]
   have h1:=Bk hrd ha (i+1) (xk f) rest (by omega) (by omega) hd rfl rfl rfl;revert h1;cases lN c N (fD c N (bA c N rd n) (N.toNat+1) none) (i+1) with
   |error e=>intro h1;simp only at h1 ⊢;rw[hr];exact h1
   | ok z=>
    obtain⟨r,j⟩:=z;rintro⟨g1,g2,g3,g,g4,g5,rfl,g6⟩;simp only;have e1:bc .alt (jD f).val (fc g).val=(jD g).val:=by
     have:jD g=.alt (jD f) (fc g):=by
      show Wn g.alt (fc g)=_;rw[g5];rfl
     rw[this];rfl
    rw[e1];have h2:=ih j g rest (by omega) g2 (by omega) g3 hd;revert h2;cases Al c N (lN c N (fD c N (bA c N rd n) (N.toNat+1) none)) k (jD g).val j with
    |error e=>intro h2;simp only at h2 ⊢;rw[hr,g6,h2]
    |ok y=>
     obtain⟨r2,j2⟩:=y;rintro⟨g7,g8,g9,g',g10,g11,g12⟩;exact⟨by omega,g8,g9,g',by rw[g10,g4];rfl,g11,by rw[hr,g6,g12]⟩
  ·rw[Al,if_neg hi];exact⟨Int.le_refl _,hiN,λh=>by have:=he h;omega,f,rfl,rfl,rfl⟩
theorem FN(hrd:wU N rd){n:Nat}(ha:wP c N rd n)(i p:Int)(rest:List Lv)(h0:0<=i)(hiN:i<=N)(hd:rest.length+n=1000) :
  match zo c N (bA c N rd n) i with
  |.error e=>qX (run c N rd i (iO p) rest)=.error e
  |.ok (r,j)=>i<=j/\j<=N/\(j<N->c j=41)/\∃ g:Lv,g.place=p/\r=(jD g).val/\run c N rd i (iO p) rest=run c N rd j g rest:=by
 have h1:=Bk hrd ha i (iO p) rest h0 hiN hd rfl rfl rfl;unfold zo ahX;revert h1;cases lN c N (fD c N (bA c N rd n) (N.toNat+1) none) i with
 |error e=>exact λh=>h
 | ok z=>
  obtain⟨r,j⟩:=z;rintro⟨g1,g2,g3,g,g4,g5,rfl,g6⟩;simp only;have e1:(fc g).val=(jD g).val:=by
   have:jD g=fc g:=by
    show Wn g.alt (fc g)=_;rw[g5];rfl
   rw[this]
  rw[e1];have h2:=Wm hrd ha (N.toNat+1) j g rest (by omega) g2 (by omega) g3 hd;revert h2;cases Al c N (lN c N (fD c N (bA c N rd n) (N.toNat+1) none)) (N.toNat+1) (jD g).val j with
  |error e=>intro h2;simp only at h2 ⊢;rw[g6,h2]
  |ok y=>
   obtain⟨r2,j2⟩:=y;rintro⟨g7,g8,g9,g',g10,g11,g12⟩;exact⟨by omega,g8,g9,g',by rw[g10,g4];rfl,g11,by rw[g6,g12]⟩
theorem JS(hrd:wU N rd)(i:Int)(f:Lv)(rest:List Lv)(h0:0<=i)(hi:i<N)(he:¬ gL (c i))(hp:¬ bH (c i))(h40:c i≠40) :
  match ve rd i with
  |.error e=>qX (run c N rd i f rest)=.error e
  |.ok (r,j)=>i<j/\j<=N/\∃ t,r=RT.val t/\run c N rd i f rest=run c N rd j { fq f with fac:=some t } rest:=by
 have hs:fe c N rd i f rest=match rd i with
  |.error e=>.error e
  |.ok (S,j)=>.ok (j,{ fq f with fac:=some (.cls S) },rest):=by
  unfold gL at he;unfold fe;rw[if_neg hp,if_neg (by omega),if_neg (by omega),if_neg (by omega),if_neg h40]
 unfold ve;rw[hH hrd h0 hi,hs];cases hS:rd i with
 |error e=>rfl
 |ok q=>
  obtain⟨S,j⟩:=q;have:=hrd i S j h0 hi hS;exact⟨this.1,this.2,.cls S,rfl,rfl⟩
theorem uJ(hrd:wU N rd):∀ n,wP c N rd n:=by
 intro n
 induction n with
 | zero=>
  intro i f rest h0 hi he hp hd;by_cases h40:c i=40
  ·rw[bA,if_pos h40];simp only;rw[hH hrd h0 hi];unfold fe;rw[if_neg hp,if_neg (by omega),if_neg (by omega),if_neg (by omega),if_pos h40,if_pos (by omega)];rfl
  ·rw[bA,if_neg h40];exact JS hrd i f rest h0 hi he hp h40
 | succ n ih=>
  intro i f rest h0 hi he hp hd;by_cases h40:c i=40
  ·rw[bA,if_pos h40];have hs:fe c N rd i f rest=.ok (i+1,iO i,fq f::rest):=by
    unfold fe;rw[if_neg hp,if_neg (by omega),if_neg (by omega),if_neg (by omega),if_pos h40,if_neg (by omega)]
   have hr:run c N rd i f rest=run c N rd (i+1) (iO i) (fq f::rest):=by rw[hH hrd h0 hi,hs]
   have h1:=FN hrd ih (i+1) i (fq f::rest) (by omega) (by omega) (by simp only[List.length_cons];omega);revert h1;cases zo c N (bA c N rd n) (i+1) with
   |error e=>intro h1;simp only[xj]at h1 ⊢;rw[hr,h1]
   | ok z=>
    obtain⟨r,j⟩:=z;rintro⟨g1,g2,g3,g,g4,rfl,g5⟩;simp only[xj];by_cases hj:j<N
    ·rw[if_neg (by omega)];have h41:=g3 hj;have hs2:fe c N rd j g (fq f::rest)=.ok (j+1,{ fq f with fac:=some (jD g) },rest):=by
      unfold fe;rw[if_neg (by unfold bH;omega),if_neg (by omega),if_neg (by omega),if_pos h41]
     refine⟨by omega,by omega,jD g,rfl,?_⟩;rw[hr,g5,hH hrd (by omega) hj,hs2]
    ·rw[if_pos hj];simp only;rw[hr,g5,Q9 hj];simp[qX,g4]
  ·rw[bA,if_neg h40];exact JS hrd i f rest h0 hi he hp h40
def aiI:Except (Int×Int) RT->Except (Int×Int) Rx
 |.error e=>.error e
 |.ok t=>.ok t.expand
theorem Ui(hrd:wU N rd)(hN:0<=N):BA c N rd=aiI (ru c N rd):=by
 unfold BA ru;by_cases hb:1048576<N
 ·rw[if_pos hb,if_pos hb];rfl
 ·rw[if_neg hb,if_neg hb];have h1:=FN hrd (uJ (c:=c) hrd 1000) 0 (-1) [] (by omega) hN rfl;unfold alts;revert h1;cases zo c N (bA c N rd 1000) 0 with
  |error e=>intro h1;simp only at h1;rw[h1];rfl
  | ok z=>
   obtain⟨r,j⟩:=z;rintro⟨g1,g2,g3,g,g4,rfl,g5⟩;rw[g5];by_cases hj:j<N
   ·have h41:=g3 hj;have hs:fe c N rd j g []=.error (20,j):=by
     unfold fe;rw[if_neg (by unfold bH;omega),if_neg (by omega),if_neg (by omega),if_pos h41]
    rw[hH hrd (by omega) hj,hs];simp only[SK];rw[if_pos hj];rfl
   ·rw[Q9 hj];simp only[SK,qX];rw[if_neg hj,if_neg (show ¬ ([]:List Lv)≠[] by simp)];show (if 2000<(jD g).sz then _ else _)=_;by_cases hs:2000<(jD g).sz
    ·rw[if_pos hs,if_pos hs];rfl
    ·rw[if_neg hs,if_neg hs];rfl
end
end
section
open Go.RowKit Go.LE Go.Proofs.Tryz
abbrev CS:=BitVec 256
def wd(S:CS)(j:Nat):Int:=((S.extractLsb' (64*j) 64).toNat:Int)
def mA(S:CS):List Value:=[.int .u64 (wd S 0),.int .u64 (wd S 1),.int .u64 (wd S 2),.int .u64 (wd S 3)]
theorem wA(x:BitVec 64):IntKind.u64.wrap ((x.toNat:Nat):Int)=((x.toNat:Nat):Int):=by
 have:=x.isLt;simp only[IntKind.wrap,IntKind.bits,IntKind.signed,Bool.false_and,Bool.false_eq_true,if_false,decide_false,show (2:Int) ^ 64=18446744073709551616 from rfl];omega
theorem jU(x:BitVec 64):BitVec.ofInt 64 ((x.toNat:Nat):Int)=x:=by simp
theorem akE(x y:BitVec 64):ck .or .u64 (x.toNat:Nat) (y.toNat:Nat)=((x ||| y).toNat:Nat):=by
 show IntKind.u64.wrap (((BitVec.ofInt 64 ((x.toNat:Nat):Int) ||| BitVec.ofInt 64 ((y.toNat:Nat):Int):BitVec 64).toNat:Nat):Int)=_;rw[jU,jU,wA]
theorem Wq(x y:BitVec 64):ck .and .u64 (x.toNat:Nat) (y.toNat:Nat)=((x &&& y).toNat:Nat):=by
 show IntKind.u64.wrap (((BitVec.ofInt 64 ((x.toNat:Nat):Int) &&& BitVec.ofInt 64 ((y.toNat:Nat):Int):BitVec 64).toNat:Nat):Int)=_;rw[jU,jU,wA]
theorem akX(x y:BitVec 64):ck .xor .u64 (x.toNat:Nat) (y.toNat:Nat)=((x ^^^ y).toNat:Nat):=by
 show IntKind.u64.wrap (((BitVec.ofInt 64 ((x.toNat:Nat):Int) ^^^ BitVec.ofInt 64 ((y.toNat:Nat):Int):BitVec 64).toNat:Nat):Int)=_;rw[jU,jU,wA]
theorem akW(S T:CS)(j:Nat):ck .or .u64 (wd S j) (wd T j)=wd (S ||| T) j:=by
 rw[wd,wd,akE,wd,BitVec.extractLsb'_or]
theorem ajx(S T:CS)(j:Nat):ck .and .u64 (wd S j) (wd T j)=wd (S &&& T) j:=by
 rw[wd,wd,Wq,wd,BitVec.extractLsb'_and]
theorem IG(S:CS)(j:Nat)(hj:j<4):ck .xor .u64 (if IntKind.u64.signed=true then -1 else IntKind.u64.max) (wd S j)=wd (~~~S) j:=by
 have e:(if IntKind.u64.signed=true then -1 else IntKind.u64.max)=(((BitVec.allOnes 64).toNat:Nat):Int):=by decide
 rw[e,wd,akX,wd]
 congr 2
 apply BitVec.eq_of_getLsbD_eq;intro i hi;have h2:64*j+i<256:=oM;rw[BitVec.getLsbD_xor,BitVec.getLsbD_allOnes,BitVec.getLsbD_extractLsb',BitVec.getLsbD_extractLsb',BitVec.getLsbD_not];simp[hi,h2]
def zm(S:CS)(b:Nat):CS:=S ||| (1#256 <<< b)
theorem IW(S:CS)(b i:Nat)(hb:b<256):(zm S b).getLsbD i=(S.getLsbD i||decide (i=b)):=by
 simp only[zm,BitVec.getLsbD_or,BitVec.getLsbD_shiftLeft,BitVec.getLsbD_one];by_cases hi:i=b
 ·subst hi;simp[hb]
 ·have h:¬(i<256/\b<=i/\i-b=0):=oM;by_cases h1:i<256<;>by_cases h2:i<b<;>simp[h1,h2,hi]<;>omega
theorem akJ(b:Nat)(hb:b<64):IntKind.u64.wrap (1*2 ^ (min b 64))=(((1#64 <<< b).toNat:Nat):Int):=by
 rw[Nat.min_eq_left oM];have h:(1#64 <<< b).toNat=2 ^ b:=by
  rw[BitVec.toNat_shiftLeft,Nat.shiftLeft_eq];have:2 ^ b<2 ^ 64:=Nat.pow_lt_pow_right oM hb;simp;omega
 rw[<- wA,h];simp
theorem yw(S:CS)(b:Nat)(hb:b<256):ck .or .u64 (wd S (b / 64)) (IntKind.u64.wrap (1*2 ^ (min (b % 64) 64)))=wd (zm S b) (b / 64):=by
 rw[akJ _ (Nat.mod_lt _ oM),wd,akE,wd]
 congr 2
 apply BitVec.eq_of_getLsbD_eq;intro i hi;have hdm:=Nat.div_add_mod b 64;rw[BitVec.getLsbD_or,BitVec.getLsbD_extractLsb',BitVec.getLsbD_extractLsb',IW _ _ _ hb,BitVec.getLsbD_shiftLeft,BitVec.getLsbD_one];have e:decide (64*(b / 64)+i=b)=decide (i=b % 64):=by rw[decide_eq_decide];omega
 rw[e];by_cases h1:i=b % 64
 ·subst h1;simp[hi]
 ·by_cases h2:i<b % 64<;>simp[hi,h1,h2]<;>omega
theorem VT(S:CS)(b j:Nat)(hb:b<256)(hj:j≠b / 64):wd (zm S b) j=wd S j:=by
 rw[wd,wd]
 congr 2
 apply BitVec.eq_of_getLsbD_eq;intro i hi;rw[BitVec.getLsbD_extractLsb',BitVec.getLsbD_extractLsb',IW _ _ _ hb];have:decide (64*j+i=b)=false:=by rw[decide_eq_false_iff_not];omega
 rw[this,Bool.or_false]
theorem aeS(S:CS)(b:Nat)(hb:b<256):(mA S).take (b / 64)++.int .u64 (wd (zm S b) (b / 64))::(mA S).drop (b / 64+1)=mA (zm S b):=by
 have hq:b / 64<4:=oM;have ne:∀ j,j≠b / 64->wd S j=wd (zm S b) j:=λj hj=>(VT S b j hb hj).symm
 generalize hqe:b / 64=q at *
 match q,hq with
 |0,_=>simp[mA,ne 1,ne 2,ne 3]
 |1,_=>simp[mA,ne 0,ne 2,ne 3]
 |2,_=>simp[mA,ne 0,ne 1,ne 3]
 |3,_=>simp[mA,ne 0,ne 1,ne 2]
theorem ajy(S:CS)(b:Nat)(hb:b<256):decide (ck .and .u64 ((wd S (b / 64)).fdiv (2 ^ (min (b % 64) 64))) 1=1)=S.getLsbD b:=by
 have hm:b % 64<64:=Nat.mod_lt _ oM;rw[Nat.min_eq_left oM];have e1:(wd S (b / 64)).fdiv (2 ^ (b % 64))=(((S.extractLsb' (64*(b / 64)) 64) >>> (b % 64)).toNat:Nat):=by
  rw[wd,BitVec.toNat_ushiftRight,Nat.shiftRight_eq_div_pow];have:(2:Int) ^ (b % 64)=((2 ^ (b % 64):Nat):Int):=by simp
  rw[this,Int.fdiv_eq_ediv_of_nonneg _ (Int.natCast_nonneg _)];rfl
 rw[e1,show (1:Int)=(((1#64).toNat:Nat):Int) from rfl,Wq];rw[Bool.eq_iff_iff,decide_eq_true_eq];have hdm:=Nat.div_add_mod b 64;constructor
 ·intro h;have h' : (S.extractLsb' (64*(b / 64)) 64 >>> (b % 64)) &&& 1#64=1#64:=BitVec.eq_of_toNat_eq (by exact_mod_cast h);have:=congrArg (λx=>x.getLsbD 0) h';simp only[BitVec.getLsbD_and,BitVec.getLsbD_ushiftRight,BitVec.getLsbD_extractLsb',BitVec.getLsbD_one]at this;simpa [hm,hdm] using this
 ·intro h;have h' : (S.extractLsb' (64*(b / 64)) 64 >>> (b % 64)) &&& 1#64=1#64:=by
   apply BitVec.eq_of_getLsbD_eq;intro i hi;simp only[BitVec.getLsbD_and,BitVec.getLsbD_ushiftRight,BitVec.getLsbD_extractLsb',BitVec.getLsbD_one];by_cases h0:i=0
   ·subst h0;simp[hm,hdm,h]
   ·simp[h0]
  rw[h']
theorem tH(b:Nat):((b:Int)).fdiv 64=((b / 64:Nat):Int):=by
 rw[Int.fdiv_eq_ediv_of_nonneg _ oM];omega
theorem I1(b:Nat)(hb:b<256):ck .and .u8 (b:Int) 63=((b % 64:Nat):Int):=by
 have:∀ b:Fin 256,ck .and .u8 ((b.val:Nat):Int) 63=((b.val % 64:Nat):Int):=by decide +kernel
 exact this ⟨b,hb⟩
theorem R8(b:Nat)(hb:b<256):ck .and .i64 (b:Int) 63=((b % 64:Nat):Int):=by
 have:∀ b:Fin 256,ck .and .i64 ((b.val:Nat):Int) 63=((b.val % 64:Nat):Int):=by decide +kernel
 exact this ⟨b,hb⟩
theorem iT(S:CS)(j:Nat)(hj:j<4):(List.map SV.v (mA S)).getD j (.v undef)=.v (.int .u64 (wd S j)):=by
 match j,hj with
 |0,_=>rfl
 |1,_=>rfl
 |2,_=>rfl
 |3,_=>rfl
theorem lD(S:CS)(b:Nat)(hb:b<256):List.take (b / 64) (List.map SV.v (mA S))++[SV.v (.int .u64 (wd (zm S b) (b / 64)))]++List.drop (b / 64+1) (List.map SV.v (mA S))=List.map SV.v (mA (zm S b)):=by
 rw[<- aeS S b hb];simp
theorem II(S:CS):(List.map SV.v (mA S)).length=4:=rfl
end
section
open Go.RowKit Go.LE Go.Proofs.Tryz
set_option maxRecDepth 10000
def Γ0:Env prog:=⟨λ_=>none,λ_=>none,λ_ _=>none⟩
def ct(S:CS):Value:=.agg (mA S).toArray
theorem cM(S:CS):Value.agg (mA S).toArray=ct S:=rfl
theorem mw(S:CS):(mA S).length=4:=rfl
theorem my(S:CS):List.take 4 ((mA S).map SV.v)=(mA S).map SV.v:=rfl
theorem mv(S:CS):List.drop 4 ((mA S).map SV.v)=[]:=rfl
theorem ke(S:CS):cS ((mA S).map SV.v)=some (mA S):=rfl
theorem qk(S:CS):((mA S).map SV.v).all dB=true:=rfl
theorem IH(E:Nat->Value)(S:CS):den E (.agg ((mA S).map SV.v))=ct S:=rfl
theorem iH(S:CS):((mA S).map SV.v).length=4:=rfl
theorem dj(S:CS):partsOf (.v (ct S))=(mA S).map SV.v:=rfl
theorem aaZ(S:CS)(j i:Nat)(hi:i<64):(BitVec.ofInt 64 (wd S j)).getLsbD i=S.getLsbD (64*j+i):=by
 rw[wd,jU,BitVec.getLsbD_extractLsb'];simp[hi]
theorem cC(S T:CS)(h:ct S=ct T):S=T:=by
 have h:(mA S)=mA T:=congrArg (λv=>match v with|Value.agg a=>a.toList|_=>[]) h;simp only[mA,List.cons.injEq,Value.int.injEq,true_and,and_true]at h;have e0:=h.1;have e1:=h.2.1;have e2:=h.2.2.1;have e3:=h.2.2.2;apply BitVec.eq_of_getLsbD_eq;intro i hi
 have key:∀ j,wd S j=wd T j->i / 64=j->S.getLsbD i=T.getLsbD i:=λj e hj=>by
  have h1:=aaZ S j (i % 64) oM;have h2:=aaZ T j (i % 64) oM;rw[e]at h1;have:64*j+i % 64=i:=oM;rw[this]at h1 h2;rw[<- h1,<- h2]
 have:i / 64=0\/i / 64=1\/i / 64=2\/i / 64=3:=oM;rcases this with h|h|h|h
 ·exact key 0 e0 h
 ·exact key 1 e1 h
 ·exact key 2 e2 h
 ·exact key 3 e3 h
def FO:=(ae @List.replicate_succ.{0} @List.replicate_zero.{0} @au @ab kH kI kK (ae c8 da db dc dn dr dt (ae du mG mH mI mJ mK ew (ae ez eA eB eC eD vQ vS (ae vT vU v8 wg wh wq @ct.eq_1 (aa @akW @ajx))))))
theorem VO(S T:CS)(w:World):Calls prog 274 #[ct S,ct T] w λe w' => e=.returned (ct (S ||| T))/\an w [] w' := by
 refine ai (nt:=26) [.cell 4 309] func274 rfl rfl rfl ?_;refine vR Γ0 (aa FO @mA.eq_1) ?_;refine vR Γ0 (aa FO @mA.eq_1) ?_;refine wZ FO ?_;exact λE=>rfl
theorem adQ(S:CS)(w:World):Calls prog 224 #[ct S] w λe w' => e=.returned (ct (~~~S))/\an w [] w' := by
 have h0:=IG S 0 oM;have h1:=IG S 1 oM;have h2:=IG S 2 oM;have h3:=IG S 3 oM;refine ai (nt:=16) [.cell 2 309] func224 rfl rfl rfl ?_;refine vR Γ0 (aa FO @mA.eq_1) ?_;refine vR Γ0 (sn FO @mA.eq_1 h0 h1 h2 h3) ?_;refine wZ FO ?_;exact λE=>rfl
theorem adk(S:CS)(b:Nat)(hb:b<256)(w:World):Calls prog 225 #[ct S,.int .u8 b] w λe w' => e=.returned (.bool (S.getLsbD b))/\an w [] w' := by
 have hq:b / 64<4:=oM;refine ai (nt:=14) [.tmp 4] func225 rfl rfl rfl ?_;refine vR Γ0 FO ?_
 refine Wp.ajb Γ0 aM (by simp only[iC,Op.operands,Value.cells,σ0,σB,Nat.reduceEqDiff,Nat.reduceAdd,Nat.reduceMul,Nat.reduceLT,Nat.reduceLeDiff,Nat.reduceBEq,av,Int.reduceToNat,Int.reduceLT,Int.reduceLE,Nat.reduceDiv,Nat.reduceMod,Nat.reduceSub,Int.reducePow,Nat.reducePow,σP,σB3,FO,tH,I1 b hb,iT S _ hq,ajy S b hb,II];exact rfl) rfl ?_ ?_
 ·exact oo
 refine wZ FO ?_;exact λE=>rfl
def B4(lo:Nat):Nat->CS
 |0=>0
 |n+1=>zm (B4 lo n) (lo+n)
def span(lo hi:Nat):CS:=B4 lo (hi+1-lo)
theorem Dn:(mA 0).map SV.v=[SV.v (.int .u64 0),SV.v (.int .u64 0),SV.v (.int .u64 0),SV.v (.int .u64 0)]:=by
 simp[mA,wd]
def kM:=(ae @List.replicate_succ.{0} @List.replicate_zero.{0} @au @ab kH kI kK (ae c8 da db dc dn dr dt (ae du mG mH mI mJ mK ew (ae ez eA eB eC eD vQ vS (IL vT vU v8 wg wh wq @ct.eq_1)))))
theorem ZO(lo hi:Nat)(hl:lo<256)(hh:hi<256)(w:World):Calls prog 271 #[.int .u8 lo,.int .u8 hi] w λe w' => e=.returned (ct (span lo hi))/\an w [] w' := by
 have w0:IntKind.i64.wrap (lo:Int)=lo:=aA oM oM;have w1:IntKind.i64.wrap (hi:Int)=hi:=aA oM oM;refine ai (nt:=25) [.cell 4 309] func271 rfl rfl rfl ?_;refine vR Γ0 kM ?_;refine vR Γ0 kM ?_;refine Wp.seq (Wp.seq ?_);refine vr Γ0 (aa kM w0) ?_;refine Wp.block ?_
 refine Wp.loop (λj:Nat=>⟨2,dZ [(1,.is (.v (.int .u8 hi))),(4,.is (.own 0 0)),(5,.is (.own 8 0)),(6,.is (.v (.int .i64 ((lo+j:Nat):Int))))],dM [(0,.cells 309 [.v (.int .u64 0),.v (.int .u64 0),.v (.int .u64 0),.v (.int .u64 0)]),(8,.cells 309 ((mA (B4 lo j)).map .v))]⟩)
  (λj=>j<=hi+1-lo) (λj=>hi+1-lo-j) 0 ?_ (Nat.zero_le _) ?_
 ·exact wM (λk=>.key k) (fP kM @B4.eq_1 @B4.eq_2 @Dn)
 rintro j h1;have hr2:IntKind.i64.wrap ((lo+j:Nat):Int)=((lo+j:Nat):Int):=aA oM oM;refine Wp.seq ?_;refine vR Γ0 (aa kM w1) ?_;refine wC kM (λhc=>?_) (λhc=>?_)
 ·simp only[decide_eq_true_eq]at hc;have hb:lo+j<256:=oM;have hq:(lo+j) / 64<4:=oM;have wn:IntKind.i64.wrap (((lo+j:Nat):Int)+1)=((lo+(j+1):Nat):Int):=wW;refine wK ?_;refine Wp.seq (Wp.block ?_)
  refine Wp.ad5 Γ0 aM (by simp only[iC,Op.operands,Value.cells,σ0,σB,Nat.reduceEqDiff,Nat.reduceAdd,Nat.reduceMul,Nat.reduceLT,Nat.reduceLeDiff,Nat.reduceBEq,av,Int.reduceToNat,Int.reduceLT,Int.reduceLE,Nat.reduceDiv,Nat.reduceMod,Nat.reduceSub,Int.reducePow,Nat.reducePow,σP,σB3,kM,tH,R8 _ hb,iT _ _ hq,yw _ _ hb,lD _ _ hb,II];exact rfl) rfl (by kernel_rfl) ?_ ?_
  ·exact oo
  refine qq ?_;refine vr Γ0 (aa kM wn) ?_;refine⟨j+1,oM,oM,?_⟩
  exact Le.mk (λk=>.key k) ⟨by simp[FV.keys,SV.keys,ay],by simp[a6.keys,ay,SV.keys,aR,aT]⟩ (by simp only[iC,Op.operands,Value.cells,σ0,σB,Nat.reduceEqDiff,Nat.reduceAdd,Nat.reduceMul,Nat.reduceLT,Nat.reduceLeDiff,Nat.reduceBEq,av,Int.reduceToNat,Int.reduceLT,Int.reduceLE,Nat.reduceDiv,Nat.reduceMod,Nat.reduceSub,Int.reducePow,Nat.reducePow,σP,σB3,kM,B4,tH,iT _ _ hq,yw _ _ hb,lD _ _ hb,Gc,Ge,jW,y7]<;>trivial) (by simp only[iC,Op.operands,Value.cells,σ0,σB,Nat.reduceEqDiff,Nat.reduceAdd,Nat.reduceMul,Nat.reduceLT,Nat.reduceLeDiff,Nat.reduceBEq,av,Int.reduceToNat,Int.reduceLT,Int.reduceLE,Nat.reduceDiv,Nat.reduceMod,Nat.reduceSub,Int.reducePow,Nat.reducePow,σP,σB3,kM,B4,tH,iT _ _ hq,yw _ _ hb,lD _ _ hb,vc,mQ,gY,gi,jE,jW]<;>trivial) (by simp[dQ]) sI
 ·simp only[decide_eq_false_iff_not]at hc;have hj:j=hi+1-lo:=oM;refine wE ?_;refine vR Γ0 (aa kM @mA.eq_1) ?_;refine wZ kM ?_;subst hj;exact λE=>rfl
def T9(s:ByteArray):Nat->CS
 |0=>0
 |n+1=>zm (T9 s n) (bt s n).toNat
theorem jf(s:ByteArray)(i:Int):0<=bt s i/\bt s i<256:=by
 unfold bt;have:=(s.data[i.toNat]?.getD 0).toNat_lt;omega
theorem aiS(s:ByteArray)(hs:s.size<=140737488351232)(w:World):Calls prog 245 #[.string s] w λe w' => e=.returned (ct (T9 s s.size))/\an w [] w' := by
 refine ai (nt:=25) [.cell 2 309] func245 rfl rfl rfl ?_;refine vR Γ0 kM ?_;refine vR Γ0 kM ?_;refine Wp.seq ?_;refine vR Γ0 kM ?_;refine Wp.block ?_
 refine Wp.loop (λj:Nat=>⟨2,dZ [(0,.is (.v (.string s))),(2,.is (.own 0 0)),(3,.is (.own 8 0)),(6,.is (.v (.int .i64 s.size))),(7,.is (.v (.int .i64 j)))],dM [(0,.cells 309 [.v (.int .u64 0),.v (.int .u64 0),.v (.int .u64 0),.v (.int .u64 0)]),(8,.cells 309 ((mA (T9 s j)).map .v))]⟩)
  (λj=>j<=s.size) (λj=>s.size-j) 0 ?_ (Nat.zero_le _) ?_
 ·exact wM (λk=>.key k) (fP kM @T9.eq_1 @T9.eq_2 @Dn)
 rintro j h1;refine vR Γ0 kM ?_;refine Wp.seq ?_;refine wC kM (λhc=>?_) (λhc=>?_)
 ·simp only[decide_eq_true_eq]at hc;have hj:j<s.size:=oM;obtain⟨b0,b1⟩:=jf s j;obtain⟨b,hbe⟩:=Int.eq_ofNat_of_zero_le b0;have hb:b<256:=oM;have hq:b / 64<4:=oM;have hof:T9 s (j+1)=zm (T9 s j) b:=by rw[T9,hbe];rfl
  have wn:IntKind.i64.wrap ((j:Int)+1)=((j+1:Nat):Int):=wW;refine wK ?_;refine Wp.seq (Wp.block ?_);refine vR Γ0 kM ?_
  refine Wp.ad5 Γ0 aM (by simp only[iC,Op.operands,Value.cells,σ0,σB,Nat.reduceEqDiff,Nat.reduceAdd,Nat.reduceMul,Nat.reduceLT,Nat.reduceLeDiff,Nat.reduceBEq,av,Int.reduceToNat,Int.reduceLT,Int.reduceLE,Nat.reduceDiv,Nat.reduceMod,Nat.reduceSub,Int.reducePow,Nat.reducePow,σP,σB3,kM,hbe,tH,I1 _ hb,iT _ _ hq,yw _ _ hb,lD _ _ hb,II];exact rfl) rfl (by kernel_rfl) ?_ ?_
  ·exact oo
  refine qq ?_;refine vr Γ0 (aa kM wn) ?_;refine⟨j+1,oM,oM,?_⟩
  exact Le.mk (λk=>.key k) ⟨by simp[FV.keys,SV.keys,ay],by simp[a6.keys,ay,SV.keys,aR,aT]⟩ (by simp only[iC,Op.operands,Value.cells,σ0,σB,Nat.reduceEqDiff,Nat.reduceAdd,Nat.reduceMul,Nat.reduceLT,Nat.reduceLeDiff,Nat.reduceBEq,av,Int.reduceToNat,Int.reduceLT,Int.reduceLE,Nat.reduceDiv,Nat.reduceMod,Nat.reduceSub,Int.reducePow,Nat.reducePow,σP,σB3,kM,hof,hbe,tH,iT _ _ hq,yw _ _ hb,lD _ _ hb,Gc,Ge,jW,y7]<;>trivial) (by simp only[iC,Op.operands,Value.cells,σ0,σB,Nat.reduceEqDiff,Nat.reduceAdd,Nat.reduceMul,Nat.reduceLT,Nat.reduceLeDiff,Nat.reduceBEq,av,Int.reduceToNat,Int.reduceLT,Int.reduceLE,Nat.reduceDiv,Nat.reduceMod,Nat.reduceSub,Int.reducePow,Nat.reducePow,σP,σB3,kM,hof,hbe,tH,iT _ _ hq,yw _ _ hb,lD _ _ hb,vc,mQ,gY,gi,jE,jW]<;>trivial) (by simp[dQ]) sI
 ·simp only[decide_eq_false_iff_not]at hc;have hj:j=s.size:=oM;refine wE ?_;refine vR Γ0 (aa kM @mA.eq_1) ?_;refine wZ kM ?_;subst hj;exact λE=>rfl
def A5(s:ByteArray)(c:Int):Int:=Lib.indexByte s.data.toList c.toNat.toUInt8
def ixX:Qi prog 231 where
 pre:=λ_ _=>λ| [.val (.string _),.val (.int .u8 _)]=>True|_=>False
 res:=λ_=>λ| [.val (.string s),.val (.int .u8 c)]=>.int .i64 (A5 s c)|_=>undef
 ok:=by
  intro W w bs us as_ hk hu hp;split at hp
  ·rename_i s c
   match us,hu with
   |[u,v],hu=>
    obtain⟨rfl,rfl,_⟩:=hu;rw[run_callFunc_extern func231 (by kernel_rfl) (by kernel_rfl) (by kernel_rfl) (e:=Extern.BytealgIndexByte.indexByte) (by kernel_rfl),Lib.run_indexByteString];rfl
  ·exact hp.elim
theorem adx(W:World)(s:ByteArray)(c:Int):ixX.res W [.val (.string s),.val (.int .u8 c)]=.int .i64 (A5 s c):=rfl
theorem adw(W:World)(bs:List Nat)(s:ByteArray)(c:Int):ixX.pre W bs [.val (.string s),.val (.int .u8 c)]=True:=rfl
noncomputable def Γ10:Env prog:=⟨λ| 231=>some ixX.spec|_=>none,λ| _=>none,λ_ _=>none⟩
theorem ae2:Γ10.sp 231=some ixX.spec:=rfl
def acB:=(ae @List.replicate_succ.{0} @List.replicate_zero.{0} @au @ab kH kI kK (ae c8 da db dc dn dr dt (ae du mG mH mI mJ mK ew (ae ez eA eB eC eD IC ID (ae IE IF um uo uq ur uu (ae uv uw ux uy uz L2 L3 (ae Ry Rz RA RB RC RD RE (ae RF RH RJ RM @aV @aw @aD (fP @aG @adx @adw ae2)))))))))
theorem Tq(s:ByteArray)(c:Int)(w:World):Calls prog 189 #[.string s,.int .u8 c] w λe w' => e=.returned (.int .i64 (A5 s c))/\an w [] w' := by
 refine ai (nt:=8) [.tmp 4] func189 rfl rfl rfl ?_;refine vR Γ10 acB ?_;refine vR Γ10 acB ?_;refine wZ acB ?_;exact λE=>rfl
def QD:aY prog 189 where
 pre:=λW bs=>λ| [.val (.string s),.val (.int .u8 c)]=>True|_=>False
 res:=λW=>λ| [.val (.string s),.val (.int .u8 c)]=>.int .i64 (A5 s c)|_=>undef
 enters:=call189
 ok:=by
  intro W w bs us as_ hk hu hp;split at hp
  ·rename_i s c
   match us,hu with
   |[u0,u1],hu=>
    obtain⟨rfl,rfl,_⟩:=hu;exact Tq s c w
  ·exact hp.elim
theorem Tt(W:World)(s:ByteArray)(c:Int):QD.res W [.val (.string s),.val (.int .u8 c)]=.int .i64 (A5 s c):=rfl
theorem Tr(W:World)(bs:List Nat)(s:ByteArray)(c:Int):QD.pre W bs [.val (.string s),.val (.int .u8 c)]=(True):=rfl
noncomputable def Γ11:Env prog:=⟨λ| 189=>some QD.spec|_=>none,λ| _=>none,λ_ _=>none⟩
theorem ae3:Γ11.sp 189=some QD.spec:=rfl
def acC:=(fP acB Tt Tr ae3)
theorem aiD(s:ByteArray)(c:Int)(w:World):Calls prog 138 #[.string s,.int .u8 c] w λe w' => e=.returned (.int .i64 (A5 s c))/\an w [] w' := by
 refine ai (nt:=8) [.tmp 4] func138 rfl rfl rfl ?_;refine vR Γ11 acC ?_;refine vR Γ11 acC ?_;refine wZ acC ?_;exact λE=>rfl
def ixC:aY prog 138 where
 pre:=λW bs=>λ| [.val (.string s),.val (.int .u8 c)]=>True|_=>False
 res:=λW=>λ| [.val (.string s),.val (.int .u8 c)]=>.int .i64 (A5 s c)|_=>undef
 enters:=call138
 ok:=by
  intro W w bs us as_ hk hu hp;split at hp
  ·rename_i s c
   match us,hu with
   |[u0,u1],hu=>
    obtain⟨rfl,rfl,_⟩:=hu;exact aiD s c w
  ·exact hp.elim
theorem Gl(W:World)(s:ByteArray)(c:Int):ixC.res W [.val (.string s),.val (.int .u8 c)]=.int .i64 (A5 s c):=rfl
theorem Gk(W:World)(bs:List Nat)(s:ByteArray)(c:Int):ixC.pre W bs [.val (.string s),.val (.int .u8 c)]=(True):=rfl
def Gd(s:ByteArray)(i:Int):List AV:=[.val (.string s),.val (.int .i64 i)]
def kg(i:Int):List PanicEntry:=[{ v:=.iface 39 (.agg #[.int .i64 10,.int .i64 i,.string ⟨#[]⟩]),recovered:=false }]
def I7:=(br acC @Gl @Gk)
theorem YY(s:ByteArray)(i:Int)(u:Value)(fp:List Nat)(w:World)(h0:0<=i)(ho:aW w u fp 375 (Gd s i))(hlt:∀ b∈fp,b<w.heap.size) :
  Calls prog 272 (#[u]++#[]) w λe w' => dA w u fp 375 e w' (.ret (.tuple #[.int .u8 (bt s i),.bool (decide (i<s.size))]) (Gd s i)):=by
 refine aN (nt:=23) #[] [.tmp 2,.tmp 3] (by show 2<=7;omega) ho hlt func272 rfl rfl rfl ?_;refine vR Γ11 (aa I7 @Gd.eq_1) ?_;refine Wp.seq ?_;refine yt Γ11 I7 ?_;refine wC I7 (λhc=>?_) (λhc=>?_)
 ·simp only[decide_eq_true_eq]at hc;refine yt Γ11 I7 ?_;refine wZ I7 ?_;exact⟨_,_,rfl,λE=>by rw[decide_eq_true hc];rfl,_,_,rfl,rfl,dE⟩
 ·simp only[decide_eq_false_iff_not]at hc;have hb:bt s i=0:=by
   unfold bt;rw[Array.getElem?_eq_none (by have:s.data.size=s.size:=rfl;omega)];rfl
  refine wK ?_;refine vR Γ11 I7 ?_;refine wZ I7 ?_;exact⟨_,_,rfl,λE=>by rw[decide_eq_false hc,hb];rfl,_,_,rfl,rfl,dE⟩
def rv:bI prog 272 where
 T:=375
 pre:=λW bs fs as_=>match fs,as_ with|[.val (.string s),.val (.int .i64 i)],[]=>0<=i|_,_=>False
 out:=λW fs as_=>match fs,as_ with|[.val (.string s),.val (.int .i64 i)],[]=>.ret (.tuple #[.int .u8 (bt s i),.bool (decide (i<s.size))]) (Gd s i)|_,_=>.pan [] undef
 enters:=call272
 ok:=by
  intro W w bs u fp us fs as_ hk ho hlt hmine hu hp;split at hp
  ·rename_i s i
   match us,hu with
   |[],_=>
    exact YY s i u fp w hp ho hlt
  ·exact hp.elim
theorem xO(W:World)(s:ByteArray)(i:Int):rv.out W [.val (.string s),.val (.int .i64 i)] []=.ret (.tuple #[.int .u8 (bt s i),.bool (decide (i<s.size))]) (Gd s i):=rfl
theorem xP(W:World)(bs:List Nat)(s:ByteArray)(i:Int):rv.pre W bs [.val (.string s),.val (.int .i64 i)] []=(0<=i):=rfl
theorem GR:rv.T=375:=rfl
def alr:=(fP I7 @xO @xP @GR)
theorem Xt(s:ByteArray)(i j:Int)(u:Value)(fp:List Nat)(w:World)(ho:aW w u fp 375 (Gd s i))(hlt:∀ b∈fp,b<w.heap.size) :
  Calls prog 273 (#[u]++#[.int .i64 j]) w λe w' => dA w u fp 375 e w' (.pan (kg j) (.tuple #[])):=by
 refine aN (nt:=7) #[.int .i64 j] [] (by show 2<=7;omega) ho hlt func273 rfl rfl rfl ?_;refine Wp.dz Γ11 aM (ev (aa alr @Gd.eq_1)) ?_ ?_
 ·exact oo
 refine qq ?_;exact⟨_,rfl⟩
def qY:bI prog 273 where
 T:=375
 pre:=λW bs fs as_=>match fs,as_ with|[.val (.string s),.val (.int .i64 i)],[.val (.int .i64 j)]=>True|_,_=>False
 out:=λW fs as_=>match fs,as_ with|[.val (.string s),.val (.int .i64 i)],[.val (.int .i64 j)]=>.pan (kg j) (.tuple #[])|_,_=>.pan [] undef
 enters:=call273
 ok:=by
  intro W w bs u fp us fs as_ hk ho hlt hmine hu hp;split at hp
  ·rename_i s i j
   match us,hu with
   |[u0],hu=>
    obtain⟨rfl,_⟩:=hu;exact Xt s i j u fp w ho hlt
  ·exact hp.elim
theorem Et(W:World)(s:ByteArray)(i:Int)(j:Int):qY.out W [.val (.string s),.val (.int .i64 i)] [.val (.int .i64 j)]=.pan (kg j) (.tuple #[]):=rfl
theorem Eu(W:World)(bs:List Nat)(s:ByteArray)(i:Int)(j:Int):qY.pre W bs [.val (.string s),.val (.int .i64 i)] [.val (.int .i64 j)]=(True):=rfl
theorem Qv:qY.T=375:=rfl
noncomputable def Γ12:Env prog:=⟨λ| 138=>some ixC.spec|272=>some rv.spec|273=>some qY.spec|_=>none,λ| _=>none,λ_ _=>none⟩
theorem ae4:Γ12.sp 138=some ixC.spec:=rfl
theorem ae5:Γ12.sp 272=some rv.spec:=rfl
theorem ae6:Γ12.sp 273=some qY.spec:=rfl
def xv:ByteArray:=⟨#[48,49,50,51,52,53,54,55,56,57,97,98,99,100,101,102]⟩
def Bu(s:ByteArray):Except Int (Int×Int)->BOut
 |.ok (b,j)=>.ret (.int .u8 b) (Gd s j)
 |.error j=>.pan (kg j) (.int .u8 0)
def q9(s:ByteArray)(i:Int):Except Int (Int×Int):=if i<s.size/\0<=A5 xv (bt s i) then .ok (A5 xv (bt s i),i+1) else .error i
theorem QE(c:Int)(h0:0<=c)(h1:c<256):-1<=A5 xv c/\A5 xv c<16:=by
 obtain⟨n,rfl⟩:=Int.eq_ofNat_of_zero_le h0;have:∀ b:Fin 256,-1<=A5 xv ((b.val:Nat):Int)/\A5 xv ((b.val:Nat):Int)<16:=by decide +kernel
 exact this ⟨n,oM⟩
theorem uA{n:Int}(h0:0<=n)(h1:n<256):IntKind.u8.wrap n=n:=by
 simp only[IntKind.wrap,IntKind.bits,IntKind.signed,Bool.false_and,Bool.false_eq_true,if_false,decide_false,show (2:Int) ^ 8=256 from rfl];omega
theorem QX(s:ByteArray)(b j:Int):Bu s (.ok (b,j))=.ret (.int .u8 b) (Gd s j):=rfl
theorem Bv(s:ByteArray)(j:Int):Bu s (.error j)=.pan (kg j) (.int .u8 0):=rfl
def s9:=(ae @List.replicate_succ.{0} @List.replicate_zero.{0} @au @ab kH kI kK (ae c8 da db dc dn dr dt (ae du mG mH mI mJ mK ew (ae ez eA eB eC eD L2 L3 (ae ahD ahE ahF ahG ahH ahI ahJ (ae ahK ahL ahM Ry Rz RA RB (ae RC RD RE RF RH RJ RM (ae @aV @aw @aD @aG @Gl @Gk @xO (ae @xP @GR @Et @Eu @Qv @Gd.eq_1 @kg.eq_1 (br ae4 ae5 ae6))))))))))
theorem adl(s:ByteArray)(i:Int)(u:Value)(fp:List Nat)(w:World)(h0:0<=i)(hs:s.size<=140737488351232)(ho:aW w u fp 375 (Gd s i))(hlt:∀ b∈fp,b<w.heap.size) :
  Calls prog 276 (#[u]++#[]) w λe w' => dA w u fp 375 e w' (Bu s (q9 s i)):=by
 obtain⟨b0,b1⟩:=jf s i;obtain⟨x0,x1⟩:=QE _ b0 b1;refine aN (nt:=34) #[] [.tmp 2] (by show 2<=7;omega) ho hlt func276 rfl rfl rfl ?_;refine vR Γ12 s9 ?_;refine wR Γ12 s9 ?_ ?_
 ·simp[h0]
 refine vR Γ12 s9 ?_;refine Wp.seq ?_;refine vR Γ12 s9 ?_;refine wC s9 (λhc=>?_) (λhc=>?_)
 ·have he:q9 s i=.error i:=by
   rw[q9,if_neg];simp[xv]at hc ⊢;omega
  rw[he];refine Wp.dz Γ12 aM (ev s9) ?_ ?_
  ·simp
  refine qq ?_;exact⟨_,rfl⟩
 ·have hi:i<s.size/\0<=A5 xv (bt s i):=by
   simp[xv]at hc ⊢;omega
  have he:q9 s i=.ok (A5 xv (bt s i),i+1):=by rw[q9,if_pos hi]
  have w1:IntKind.i64.wrap (i+1)=i+1:=aA oM oM;have w2:IntKind.u8.wrap (A5 xv (bt s i))=A5 xv (bt s i):=uA hi.2 oM;rw[he];refine wK ?_;refine vR Γ12 (aa s9 w1) ?_;refine vR Γ12 (aa s9 w2) ?_;refine wZ s9 ?_
  exact⟨_,_,rfl,λE=>by simp only[den];rw[show A5 xv (bt s i)=A5 ⟨#[48,49,50,51,52,53,54,55,56,57,97,98,99,100,101,102]⟩ (bt s i) from rfl]at w2;exact congrArg _ w2,_,_,rfl,rfl,dE⟩
def XK:bI prog 276 where
 T:=375
 pre:=λW bs fs as_=>match fs,as_ with|[.val (.string s),.val (.int .i64 i)],[]=>0<=i/\s.size<=140737488351232|_,_=>False
 out:=λW fs as_=>match fs,as_ with|[.val (.string s),.val (.int .i64 i)],[]=>Bu s (q9 s i)|_,_=>.pan [] undef
 enters:=call276
 ok:=by
  intro W w bs u fp us fs as_ hk ho hlt hmine hu hp;split at hp
  ·rename_i s i
   match us,hu with
   |[],_=>
    exact adl s i u fp w hp.1 hp.2 ho hlt
  ·exact hp.elim
theorem XL(W:World)(s:ByteArray)(i:Int):XK.out W [.val (.string s),.val (.int .i64 i)] []=Bu s (q9 s i):=rfl
theorem XM(W:World)(bs:List Nat)(s:ByteArray)(i:Int):XK.pre W bs [.val (.string s),.val (.int .i64 i)] []=(0<=i/\s.size<=140737488351232):=rfl
theorem aiw:XK.T=375:=rfl
noncomputable def sk:Env prog:=⟨λ| 138=>some ixC.spec|272=>some rv.spec|273=>some qY.spec|276=>some XK.spec|_=>none,λ| _=>none,λ_ _=>none⟩
theorem ae7:sk.sp 138=some ixC.spec:=rfl
theorem ae8:sk.sp 272=some rv.spec:=rfl
theorem ae9:sk.sp 273=some qY.spec:=rfl
theorem afa:sk.sp 276=some XK.spec:=rfl
def bg(W:World)(S:Nat->Prop):Prop:=S 4/\W.cell? ⟨4,0,none⟩=some (.int .u8 110)/\W.cell? ⟨4,0+1,none⟩=some (.int .u8 10)/\W.cell? ⟨4,0+1+1,none⟩=some (.int .u8 114)/\W.cell? ⟨4,0+1+1+1,none⟩=some (.int .u8 13) /\
 W.cell? ⟨4,0+1+1+1+1,none⟩=some (.int .u8 116)/\W.cell? ⟨4,0+1+1+1+1+1,none⟩=some (.int .u8 9)
theorem bg.mono{W W' : World}{S S' : Nat->Prop}(h:bg W S)(hs:aX W S W' S'):bg W' S' := by
 obtain⟨h0,h1,h2,h3,h4,h5,h6⟩:=h;have g:∀ o v,W.cell? ⟨4,o,none⟩=some v->W'.cell? ⟨4,o,none⟩=some v/\S' 4:=λo v hv=>by
  have:=XC.mono (b:=4) (o:=o) (v:=v) ⟨h0,hv⟩ hs;exact⟨this.2,this.1⟩
 exact⟨(g _ _ h1).2,(g _ _ h1).1,(g _ _ h2).1,(g _ _ h3).1,(g _ _ h4).1,(g _ _ h5).1,(g _ _ h6).1⟩
theorem bg.fK{W w:World}{bs fp:List Nat}(h:bg W (Out bs))(hk:an W bs w)(hm:∀ b∈fp,W.heap.size<=b\/b∈bs):bg w (Out fp):=
 h.mono λb hb hs=>⟨hk.block b hb hs,λhb' => (hm b hb').elim (λg=>absurd g (Nat.not_le.2 hb)) hs⟩
def mC(s:ByteArray)(i:Int):Except Int (Int×Int):=
 if ¬ i<s.size then .error i
 else if bt s i=110 then .ok (10,i+1)
 else if bt s i=114 then .ok (13,i+1)
 else if bt s i=116 then .ok (9,i+1)
 else if bt s i=120 then
  match q9 s (i+1) with
  |.error j=>.error j
  |.ok (h,j)=>match q9 s j with
   |.error k=>.error k
   |.ok (l,k)=>.ok (16*h+l,k)
 else if (((bt s i<32\/126<bt s i)\/48<=bt s i/\bt s i<=57)\/97<=bt s i/\bt s i<=122)\/65<=bt s i/\bt s i<=90 then .error i
 else .ok (bt s i,i+1)
theorem zS{s:ByteArray}{i h j:Int}(he:q9 s i=.ok (h,j))(h0:0<=i):0<=h/\h<16/\j=i+1/\i<s.size:=by
 rw[q9]at he;split at he
 ·rename_i hc;simp only[Except.ok.injEq,Prod.mk.injEq]at he;obtain⟨rfl,rfl⟩:=he;obtain⟨b0,b1⟩:=jf s i;have:=QE _ b0 b1;exact⟨hc.2,this.2,rfl,hc.1⟩
 ·cases he
theorem aiZ(h l:Int)(h0:0<=h)(h1:h<16)(l0:0<=l)(l1:l<16):ck .or .u8 (IntKind.u8.wrap (h*16)) l=16*h+l:=by
 obtain⟨n,rfl⟩:=Int.eq_ofNat_of_zero_le h0;obtain⟨m,rfl⟩:=Int.eq_ofNat_of_zero_le l0;have:∀ a b:Fin 16,ck .or .u8 (IntKind.u8.wrap (((a.val:Nat):Int)*16)) ((b.val:Nat):Int)=16*((a.val:Nat):Int)+((b.val:Nat):Int):=by decide +kernel
 exact this ⟨n,oM⟩ ⟨m,oM⟩
def bN:=(ae s9 XL XM aiw @QX @Bv ae7 (br ae8 ae9 afa))
theorem ac0(s:ByteArray)(i:Int)(u:Value)(fp:List Nat)(w:World)(h0:0<=i)(hs:s.size<=140737488351232)(hg:bg w (Out fp))(ho:aW w u fp 375 (Gd s i))(hlt:∀ b∈fp,b<w.heap.size) :
  Calls prog 275 (#[u]++#[]) w λe w' => dA w u fp 375 e w' (Bu s (mC s i)):=by
 obtain⟨b0,b1⟩:=jf s i;obtain⟨g0,g1,g2,g3,g4,g5,g6⟩:=hg;have g0' : ¬ 4∈fp:=g0;refine aN (nt:=99) #[] [.tmp 2] (by show 2<=7;omega) ho hlt func275 rfl rfl rfl ?_;refine vR sk bN ?_;refine wR sk bN ?_ ?_
 ·simp[h0]
 refine Wp.seq ?_;refine vR sk bN ?_;refine wC bN (λhc=>?_) (λhc=>?_)
 ·simp at hc;have he:mC s i=.error i:=by rw[mC,if_pos oM]
  rw[he];refine Wp.dz sk aM (ev bN) ?_ ?_
  ·simp
  refine qq ?_;exact⟨_,rfl⟩
 ·simp at hc;have hi:i<s.size:=oM;have w1:IntKind.i64.wrap (i+1)=i+1:=aA oM oM;refine wK ?_;refine Wp.seq ?_;refine wR sk (IL bN g1 g2 g3 g4 g5 g6) ?_ ?_
  ·simp[Out,g0',ay,SV.keys]
  refine Wp.block ?_
  refine Wp.loop (λk:Nat=>⟨40,dZ [(0,.is (.own 0 0)),(3,.is (.v (.int .u8 (bt s i)))),(21,.is (.agg [.v (.int .u8 110),.v (.int .u8 10),.v (.int .u8 114),.v (.int .u8 13),.v (.int .u8 116),.v (.int .u8 9)])),(22,.is (.v (.int .i64 k)))],dM [(0,.cells 375 [.v (.string s),.v (.int .i64 i)])]⟩)
   (λk=>k<=3/\(0<k->bt s i≠110)/\(1<k->bt s i≠114)/\(2<k->bt s i≠116)) (λk=>3-k) 0 ?_ ⟨oM,oM,oM,oM⟩ ?_
  ·exact wM (λk=>.key k) bN
  rintro k ⟨k0,k1,k2,k3⟩;refine vR sk bN ?_;refine Wp.seq ?_;refine wC bN (λhc=>?_) (λhc=>?_)
  ·simp at hc;refine wK ?_;have hk3:k<3:=oM;have hcase:k=0\/k=1\/k=2:=oM;refine Wp.seq (Wp.block ?_);rcases hcase with rfl|rfl|rfl
   ·skip;refine vR sk bN ?_;refine vR sk bN ?_;refine wC bN (λhc=>?_) (λhc=>?_)
    ·simp at hc;have he:mC s i=.ok (10,i+1):=by rw[mC,if_neg oM,if_pos oM]
     rw[he];refine vR sk (aa bN w1) ?_;refine vR sk bN ?_;refine wZ bN ?_;exact⟨_,_,rfl,λE=>rfl,_,_,rfl,rfl,dE⟩
    ·simp at hc;refine wK ?_;refine vr sk bN ?_;refine⟨1,⟨oM,oM,oM,oM⟩,oM,?_⟩;exact wM (λk=>.key k) bN
   ·skip;refine vR sk bN ?_;refine vR sk bN ?_;refine wC bN (λhc=>?_) (λhc=>?_)
    ·simp at hc;have he:mC s i=.ok (13,i+1):=by rw[mC,if_neg oM,if_neg (k1 oM),if_pos oM]
     rw[he];refine vR sk (aa bN w1) ?_;refine vR sk bN ?_;refine wZ bN ?_;exact⟨_,_,rfl,λE=>rfl,_,_,rfl,rfl,dE⟩
    ·simp at hc;refine wK ?_;refine vr sk bN ?_;refine⟨2,⟨oM,oM,oM,oM⟩,oM,?_⟩;exact wM (λk=>.key k) bN
   ·skip;refine vR sk bN ?_;refine vR sk bN ?_;refine wC bN (λhc=>?_) (λhc=>?_)
    ·simp at hc;have he:mC s i=.ok (9,i+1):=by rw[mC,if_neg oM,if_neg (k1 oM),if_neg (k2 oM),if_pos oM]
     rw[he];refine vR sk (aa bN w1) ?_;refine vR sk bN ?_;refine wZ bN ?_;exact⟨_,_,rfl,λE=>rfl,_,_,rfl,rfl,dE⟩
    ·simp at hc;refine wK ?_;refine vr sk bN ?_;refine⟨3,⟨oM,oM,oM,oM⟩,oM,?_⟩;exact wM (λk=>.key k) bN
  ·simp at hc;have k33:k=3:=oM;subst k33;refine wE ?_;refine Wp.seq ?_;refine vR sk bN ?_;refine wC bN (λhc=>?_) (λhc=>?_)
   ·simp at hc;have he:mC s i=match q9 s (i+1) with
      |.error j=>.error j
      |.ok (h,j)=>match q9 s j with
       |.error k=>.error k
       |.ok (l,k)=>.ok (16*h+l,k):=by rw[mC,if_neg oM,if_neg oM,if_neg oM,if_neg oM,if_pos hc]
    refine vR sk (aa bN w1) ?_;cases h1:q9 s (i+1) with
    |error j=>
     rw[he,h1];refine Wp.bm sk aM (ev (aa bN h1)) ?_ ?_
     ·simp[w1];omega
     refine qq ?_;exact⟨_,rfl⟩
    | ok p=>
     obtain⟨h,j⟩:=p;obtain⟨q0,q1,rfl,q3⟩:=zS h1 oM;refine wR sk (aa bN h1) ?_ ?_
     ·simp[w1];omega
     cases h2:q9 s (i+1+1) with
     |error j=>
      rw[he,h1];simp only[h2];refine Wp.bm sk aM (ev (aa bN h2)) ?_ ?_
      ·simp[w1];omega
      refine qq ?_;exact⟨_,rfl⟩
     |ok p=>
      obtain⟨l,j⟩:=p;obtain⟨r0,r1,rfl,r3⟩:=zS h2 oM;rw[he,h1];simp only[h2];refine wR sk (aa bN h2) ?_ ?_
      ·simp[w1];omega
      refine wZ bN ?_;exact⟨_,_,rfl,λE=>by simp only[den];rw[aiZ h l q0 q1 r0 r1],_,_,rfl,rfl,dE⟩
   ·simp at hc;refine wK ?_;refine Wp.seq ?_;refine vR sk bN ?_;refine wC bN (λhc=>?_) (λhc=>?_)
    ·simp at hc;have he:mC s i=.error i:=by rw[mC,if_neg oM,if_neg oM,if_neg oM,if_neg oM,if_neg (by assumption),if_pos hc]
     rw[he];refine Wp.dz sk aM (ev bN) ?_ ?_
     ·exact oo
     refine qq ?_;exact⟨_,rfl⟩
    ·have hn:¬ ((((bt s i<32\/126<bt s i)\/48<=bt s i/\bt s i<=57)\/97<=bt s i/\bt s i<=122)\/65<=bt s i/\bt s i<=90):=by
      intro h;apply Bool.eq_false_iff.1 hc;simp;exact h
     have he:mC s i=.ok (bt s i,i+1):=by rw[mC,if_neg oM,if_neg oM,if_neg oM,if_neg oM,if_neg (by assumption),if_neg hn]
     rw[he];refine wK ?_;refine vR sk (aa bN w1) ?_;refine vR sk bN ?_;refine wZ bN ?_;exact⟨_,_,rfl,λE=>rfl,_,_,rfl,rfl,dE⟩
def Xg:bI prog 275 where
 T:=375
 pre:=λW bs fs as_=>match fs,as_ with|[.val (.string s),.val (.int .i64 i)],[]=>0<=i/\s.size<=140737488351232/\bg W (Out bs)|_,_=>False
 out:=λW fs as_=>match fs,as_ with|[.val (.string s),.val (.int .i64 i)],[]=>Bu s (mC s i)|_,_=>.pan [] undef
 enters:=call275
 ok:=by
  intro W w bs u fp us fs as_ hk ho hlt hmine hu hp;split at hp
  ·rename_i s i
   match us,hu with
   |[],_=>
    exact ac0 s i u fp w hp.1 hp.2.1 (hp.2.2.fK hk hmine) ho hlt
  ·exact hp.elim
theorem Xh(W:World)(s:ByteArray)(i:Int):Xg.out W [.val (.string s),.val (.int .i64 i)] []=Bu s (mC s i):=rfl
theorem Xi(W:World)(bs:List Nat)(s:ByteArray)(i:Int):Xg.pre W bs [.val (.string s),.val (.int .i64 i)] []=(0<=i/\s.size<=140737488351232/\bg W (Out bs)):=rfl
theorem aih:Xg.T=375:=rfl
noncomputable def RR:Env prog:=⟨λ| 138=>some ixC.spec|272=>some rv.spec|273=>some qY.spec|275=>some Xg.spec|_=>none,λ| _=>none,λ_ _=>none⟩
theorem afb:RR.sp 138=some ixC.spec:=rfl
theorem afc:RR.sp 272=some rv.spec:=rfl
theorem afd:RR.sp 273=some qY.spec:=rfl
theorem afe:RR.sp 275=some Xg.spec:=rfl
def nr(s:ByteArray)(i:Int)(q:ByteArray):Except Int (Int×Int):=
 if i<s.size/\bt s i=92 then mC s (i+1)
 else if ((¬ i<s.size\/bt s i<32)\/126<bt s i)\/0<=A5 q (bt s i) then .error i
 else .ok (bt s i,i+1)
def mO:=(ae bN Xh Xi aih afb afc afd afe)
theorem adT(s:ByteArray)(i:Int)(q:ByteArray)(u:Value)(fp:List Nat)(w:World)(h0:0<=i)(hs:s.size<=140737488351232)(hg:bg w (Out fp))(ho:aW w u fp 375 (Gd s i))(hlt:∀ b∈fp,b<w.heap.size) :
  Calls prog 270 (#[u]++#[.string q]) w λe w' => dA w u fp 375 e w' (Bu s (nr s i q)):=by
 obtain⟨b0,b1⟩:=jf s i;refine aN (nt:=56) #[.string q] [.tmp 4] (by show 2<=7;omega) ho hlt func270 rfl rfl rfl ?_;refine vR RR mO ?_;refine wR RR mO ?_ ?_
 ·simp[h0]
 refine Wp.seq ?_;refine vR RR mO ?_;refine wC mO (λhc=>?_) (λhc=>?_)
 ·simp at hc;have w1:IntKind.i64.wrap (i+1)=i+1:=aA oM oM;have he:nr s i q=mC s (i+1):=by rw[nr,if_pos hc]
  rw[he];refine vR RR (aa mO w1) ?_;cases h1:mC s (i+1) with
  |error j=>
   refine Wp.bm RR aM (ev (aa mO h1)) ?_ ?_
   ·simp[w1,hs];exact⟨oM,hg⟩
   refine qq ?_;exact⟨_,rfl⟩
  |ok p=>
   obtain⟨b,j⟩:=p;refine wR RR (aa mO h1) ?_ ?_
   ·simp[w1,hs];exact⟨oM,hg⟩
   refine wZ mO ?_;exact⟨_,_,rfl,λE=>rfl,_,_,rfl,rfl,dE⟩
 ·have hn:¬ (i<s.size/\bt s i=92):=λh=>by
   apply Bool.eq_false_iff.1 hc;simp;exact h
  refine wK ?_;refine Wp.seq ?_;refine vR RR mO ?_;refine wC mO (λhc=>?_) (λhc=>?_)
  ·simp at hc;have he:nr s i q=.error i:=by
    rw[nr,if_neg hn,if_pos];omega
   rw[he];refine Wp.dz RR aM (ev mO) ?_ ?_
   ·simp
   refine qq ?_;exact⟨_,rfl⟩
  ·have hn' : ¬ (((¬ i<s.size\/bt s i<32)\/126<bt s i)\/0<=A5 q (bt s i)):=λh=>by
    apply Bool.eq_false_iff.1 hc;simp;omega
   have he:nr s i q=.ok (bt s i,i+1):=by rw[nr,if_neg hn,if_neg hn']
   have w1:IntKind.i64.wrap (i+1)=i+1:=aA oM oM;rw[he];refine wK ?_;refine vR RR (aa mO w1) ?_;refine vR RR mO ?_;refine wZ mO ?_;exact⟨_,_,rfl,λE=>rfl,_,_,rfl,rfl,dE⟩
def NV:bI prog 270 where
 T:=375
 pre:=λW bs fs as_=>match fs,as_ with|[.val (.string s),.val (.int .i64 i)],[.val (.string q)]=>0<=i/\s.size<=140737488351232/\bg W (Out bs)|_,_=>False
 out:=λW fs as_=>match fs,as_ with|[.val (.string s),.val (.int .i64 i)],[.val (.string q)]=>Bu s (nr s i q)|_,_=>.pan [] undef
 enters:=call270
 ok:=by
  intro W w bs u fp us fs as_ hk ho hlt hmine hu hp;split at hp
  ·rename_i s i q
   match us,hu with
   |[u0],hu=>
    obtain⟨rfl,_⟩:=hu;exact adT s i q u fp w hp.1 hp.2.1 (hp.2.2.fK hk hmine) ho hlt
  ·exact hp.elim
theorem YL(W:World)(s:ByteArray)(i:Int)(q:ByteArray):NV.out W [.val (.string s),.val (.int .i64 i)] [.val (.string q)]=Bu s (nr s i q):=rfl
theorem YM(W:World)(bs:List Nat)(s:ByteArray)(i:Int)(q:ByteArray):NV.pre W bs [.val (.string s),.val (.int .i64 i)] [.val (.string q)]=(0<=i/\s.size<=140737488351232/\bg W (Out bs)):=rfl
theorem aiT:NV.T=375:=rfl
theorem acZ{s:ByteArray}{i b j:Int}(he:mC s i=.ok (b,j))(h0:0<=i):0<=b/\b<256/\i<j/\j<=s.size:=by
 obtain⟨b0,b1⟩:=jf s i;rw[mC]at he;split at he
 ·cases he
 ·rename_i h1;split at he
  ·simp only[Except.ok.injEq,Prod.mk.injEq]at he;omega
  ·split at he
   ·simp only[Except.ok.injEq,Prod.mk.injEq]at he;omega
   ·split at he
    ·simp only[Except.ok.injEq,Prod.mk.injEq]at he;omega
    ·split at he
     ·cases h2:q9 s (i+1) with
      |error k=>rw[h2]at he;cases he
      | ok p=>
       obtain⟨h,k⟩:=p;rw[h2]at he;obtain⟨q0,q1,q2,q3⟩:=zS h2 oM;simp only at he;cases h3:q9 s k with
       |error k' => rw[h3]at he;cases he
       |ok p=>
        obtain⟨l,k'⟩:=p;rw[h3]at he;obtain⟨r0,r1,r2,r3⟩:=zS h3 oM;simp only[Except.ok.injEq,Prod.mk.injEq]at he;omega
     ·split at he
      ·cases he
      ·simp only[Except.ok.injEq,Prod.mk.injEq]at he;omega
theorem sL{s:ByteArray}{i b j:Int}{q:ByteArray}(he:nr s i q=.ok (b,j))(h0:0<=i):0<=b/\b<256/\i<j/\j<=s.size:=by
 obtain⟨b0,b1⟩:=jf s i;rw[nr]at he;split at he
 ·have:=acZ he oM;omega
 ·split at he
  ·cases he
  ·simp only[Except.ok.injEq,Prod.mk.injEq]at he;omega
noncomputable def DQ:aY prog 224 where
 pre:=λW bs=>λ| [.val y0]=>(match dec ct y0 with|some S=>True|_=>False)|_=>False
 res:=λW=>λ| [.val y0]=>(match dec ct y0 with|some S=>ct (~~~S)|_=>undef)|_=>undef
 enters:=call224
 ok:=by
  intro W w bs us as_ hk hu hp;split at hp
  ·rename_i y0;split at hp
   ·rename_i S h0
    match us,hu with
    |[u0],hu=>
     obtain⟨rfl,_⟩:=hu;obtain rfl:=fV h0
     try dsimp only
     try simp only[bU cC]
     exact adQ S w
   ·exact hp.elim
  ·exact hp.elim
theorem J8(W:World)(S:CS):DQ.res W [.val (ct S)]=ct (~~~S):=by simp only[DQ,bU cC]
theorem J7(W:World)(bs:List Nat)(S:CS):DQ.pre W bs [.val (ct S)]=(True):=by simp only[DQ,bU cC]
noncomputable def yr:aY prog 274 where
 pre:=λW bs=>λ| [.val y0,.val y1]=>(match dec ct y0,dec ct y1 with|some S,some T=>True|_,_=>False)|_=>False
 res:=λW=>λ| [.val y0,.val y1]=>(match dec ct y0,dec ct y1 with|some S,some T=>ct (S ||| T)|_,_=>undef)|_=>undef
 enters:=call274
 ok:=by
  intro W w bs us as_ hk hu hp;split at hp
  ·rename_i y0 y1;split at hp
   ·rename_i S T h0 h1
    match us,hu with
    |[u0,u1],hu=>
     obtain⟨rfl,rfl,_⟩:=hu;obtain rfl:=fV h0;obtain rfl:=fV h1
     try dsimp only
     try simp only[bU cC]
     exact VO S T w
   ·exact hp.elim
  ·exact hp.elim
theorem P3(W:World)(S:CS)(T:CS):yr.res W [.val (ct S),.val (ct T)]=ct (S ||| T):=by simp only[yr,bU cC]
theorem P2(W:World)(bs:List Nat)(S:CS)(T:CS):yr.pre W bs [.val (ct S),.val (ct T)]=(True):=by simp only[yr,bU cC]
def B3(lo hi:Int):CS:=span lo.toNat hi.toNat
def E8:aY prog 271 where
 pre:=λW bs=>λ| [.val (.int .u8 lo),.val (.int .u8 hi)]=>0<=lo/\lo<256/\0<=hi/\hi<256|_=>False
 res:=λW=>λ| [.val (.int .u8 lo),.val (.int .u8 hi)]=>ct (B3 lo hi)|_=>undef
 enters:=call271
 ok:=by
  intro W w bs us as_ hk hu hp;split at hp
  ·rename_i lo hi
   match us,hu with
   |[u0,u1],hu=>
    obtain⟨rfl,rfl,_⟩:=hu;obtain⟨p0,p1,p2,p3⟩:=hp;have:=ZO lo.toNat hi.toNat oM oM w;rwa [Int.toNat_of_nonneg p0,Int.toNat_of_nonneg p2]at this
  ·exact hp.elim
theorem Vj(W:World)(lo:Int)(hi:Int):E8.res W [.val (.int .u8 lo),.val (.int .u8 hi)]=ct (B3 lo hi):=rfl
theorem Vi(W:World)(bs:List Nat)(lo:Int)(hi:Int):E8.pre W bs [.val (.int .u8 lo),.val (.int .u8 hi)]=(0<=lo/\lo<256/\0<=hi/\hi<256):=rfl
def ofC:aY prog 245 where
 pre:=λW bs=>λ| [.val (.string s)]=>s.size<=140737488351232|_=>False
 res:=λW=>λ| [.val (.string s)]=>ct (T9 s s.size)|_=>undef
 enters:=call245
 ok:=by
  intro W w bs us as_ hk hu hp;split at hp
  ·rename_i s
   match us,hu with
   |[u0],hu=>
    obtain⟨rfl,_⟩:=hu;exact aiS s hp w
  ·exact hp.elim
theorem QT(W:World)(s:ByteArray):ofC.res W [.val (.string s)]=ct (T9 s s.size):=rfl
theorem QS(W:World)(bs:List Nat)(s:ByteArray):ofC.pre W bs [.val (.string s)]=(s.size<=140737488351232):=rfl
noncomputable def tw:Env prog:=⟨λ| 272=>some rv.spec|273=>some qY.spec|270=>some NV.spec|224=>some DQ.spec|274=>some yr.spec|271=>some E8.spec|245=>some ofC.spec|_=>none,λ| _=>none,λ_ _=>none⟩
theorem afj:tw.sp 272=some rv.spec:=rfl
theorem afk:tw.sp 273=some qY.spec:=rfl
theorem afh:tw.sp 270=some NV.spec:=rfl
theorem aff:tw.sp 224=some DQ.spec:=rfl
theorem afl:tw.sp 274=some yr.spec:=rfl
theorem afi:tw.sp 271=some E8.spec:=rfl
theorem afg:tw.sp 245=some ofC.spec:=rfl
def yI:ByteArray:=⟨#[92,93,91,45,94,47]⟩
def Gw(s:ByteArray):Nat->Int->CS->Except Int (CS×Int)
 |0,i,_=>.error i
 | n+1,i,a=>
  if i<s.size/\bt s i=93 then .ok (a,i+1) else
  match nr s i yI with
  |.error j=>.error j
  | .ok (lo,j)=>
   if j<s.size/\bt s j=45 then
    match nr s (j+1) yI with
    |.error k=>.error k
    |.ok (hi,k)=>if hi<lo then .error (j+1) else Gw s n k (a ||| B3 lo hi)
   else Gw s n j (a ||| B3 lo lo)
def akC(b:Bool)(a:CS):CS:=if b then ~~~a else a
def uP(s:ByteArray)(i:Int):Bool:=decide (i<s.size)&&decide (bt s i=94)
def J9(b:Bool):Except Int (CS×Int)->Except Int (CS×Int)
 |.error j=>.error j
 |.ok (a,j)=>.ok (akC b a,j)
def jm(s:ByteArray)(i:Int):Except Int (CS×Int):=J9 (uP s i) (Gw s (s.size+1) (if uP s i then i+1 else i) 0)
def Kn(s:ByteArray):Except Int (CS×Int)->BOut
 |.ok (a,j)=>.ret (ct a) (Gd s j)
 |.error j=>.pan (kg j) (ct 0)
theorem vu(s:ByteArray)(a:CS)(j:Int):Kn s (.ok (a,j))=.ret (ct a) (Gd s j):=rfl
theorem lQ(s:ByteArray)(j:Int):Kn s (.error j)=.pan (kg j) (ct 0):=rfl
def cE:=(ae @List.replicate_succ.{0} @List.replicate_zero.{0} @au @ab kH kI kK (ae c8 da db dc dn dr dt (ae du mG mH mI mJ mK ew (ae ez eA eB eC eD vQ vS (ae vT vU v8 wg wh wq L2 (ae L3 Ry Rz RA RB RC RD (ae RE RF RH RJ RM @aV @aw (ae @aD @aG @xO @xP @GR @Et @Eu (ae @Qv @YL @YM @aiT @Gd.eq_1 @kg.eq_1 @QX (ae @Bv @cM @mw @my @mv @ke @qk (ae @dj @IH @iH @List.drop_nil.{0} @J8 @J7 P3 (ae P2 Vj Vi @QT @QS afj afk (qG afh aff afl afi afg)))))))))))))
theorem J3(s:ByteArray)(i:Int)(u:Value)(fp:List Nat)(w:World)(h0:0<=i)(hs:s.size<=140737488351232)(hg:bg w (Out fp))(ho:aW w u fp 375 (Gd s i))(hlt:∀ b∈fp,b<w.heap.size) :
  Calls prog 269 (#[u]++#[]) w λe w' => dA w u fp 375 e w' (Kn s (jm s i)):=by
 obtain⟨b0,b1⟩:=jf s i;refine aN (nt:=90) #[] [.cell 2 309] (by show 2<=7;omega) ho hlt func269 rfl rfl rfl ?_;refine vR tw cE ?_;refine vR tw cE ?_;refine wR tw cE ?_ ?_
 ·simp[h0]
 refine vR tw cE ?_;generalize hi0:(if uP s i then i+1 else i)=i0;have hj0:0<=i0/\i0<=i+1:=by rw[<- hi0];split<;>omega
 generalize hR:Gw s (s.size+1) i0 0=R;have hm:jm s i=J9 (uP s i) R:=by rw[jm,hi0,hR]
 refine gR ⟨40,dZ [(0,.is (.own 0 0)),(2,.is (.own 8 0)),(3,.is (.own 16 0)),(6,.is (.v (.bool (uP s i))))],dM [(0,.cells 375 [.v (.string s),.v (.int .i64 i0)]),(8,.cells 309 [.v (.int .u64 0),.v (.int .u64 0),.v (.int .u64 0),.v (.int .u64 0)]),(16,.cells 309 [.v (.int .u64 0),.v (.int .u64 0),.v (.int .u64 0),.v (.int .u64 0)])]⟩ ?_ ?_
 ·skip;refine vR tw cE ?_;refine wC cE (λhc=>?_) (λhc=>?_)
  ·have hcar:uP s i=true:=hc;rw[hcar]at hi0;simp only[if_true]at hi0;simp at hc;have w1:IntKind.i64.wrap (i+1)=i+1:=aA oM oM;refine vr tw (aa cE w1) ?_;subst hi0;exact wM (λk=>.key k) (aa cE @uP.eq_1)
  ·have hcar:uP s i=false:=hc;rw[hcar]at hi0;simp only[Bool.false_eq_true,if_false]at hi0;refine wK ?_;subst hi0;exact wM (λk=>.key k) (aa cE @uP.eq_1)
 refine Wp.seq ?_;refine Wp.block ?_
 refine Wp.loop (λp:Nat×Int×CS=>⟨40,dZ [(0,.is (.own 0 0)),(2,.is (.own 8 0)),(3,.is (.own 16 0)),(6,.is (.v (.bool (uP s i))))],dM [(0,.cells 375 [.v (.string s),.v (.int .i64 p.2.1)]),(8,.cells 309 [.v (.int .u64 0),.v (.int .u64 0),.v (.int .u64 0),.v (.int .u64 0)]),(16,.cells 309 ((mA p.2.2).map .v))]⟩)
  (λp=>0<=p.2.1/\(s.size-p.2.1<p.1/\1<=p.1)/\Gw s p.1 p.2.1 p.2.2=R) (λp=>p.1) (s.size+1,i0,0) ?_ ⟨hj0.1,by simp only;omega,hR⟩ ?_
 ·exact wM (λk=>.key k) (aa cE @Dn)
 rintro⟨n,i',a⟩ ⟨k0,⟨k1,k3⟩,k2⟩;simp only at k0 k1 k2;obtain⟨n,rfl⟩:∃ m,n=m+1:=⟨n-1,by simp only at k3;omega⟩;rw[Gw]at k2;refine Wp.block ?_;refine Wp.seq ?_;refine wR tw cE ?_ ?_
 ·simp[k0]
 refine vR tw cE ?_;refine wC cE (λhc=>?_) (λhc=>?_)
 ·simp at hc;have hR' : R=.ok (a,i' + 1):=by rw[<- k2,if_pos hc]
  have w1:IntKind.i64.wrap (i' + 1)=i' + 1:=aA oM oM;refine vR tw (aa cE w1) ?_;refine wE ?_;refine Wp.seq ?_;refine vR tw cE ?_;refine wC cE (λhc=>?_) (λhc=>?_)
  ·have hcar:uP s i=true:=hc;rw[hm,hR',hcar,J9,vu];refine wR tw cE ?_ ?_
   ·simp[mw]
   refine wZ cE ?_;exact⟨_,_,rfl,rfl,_,_,rfl,rfl,dE⟩
  ·have hcar:uP s i=false:=hc;rw[hm,hR',hcar,J9,vu];refine wK ?_;refine wR tw cE ?_ ?_
   ·simp[mw]
   refine wZ cE ?_;exact⟨_,_,rfl,rfl,_,_,rfl,rfl,dE⟩
 ·have hn:¬ (i' < s.size/\bt s i' = 93):=λh=>by
   apply Bool.eq_false_iff.1 hc;simp;exact h
  rw[if_neg hn]at k2;refine wK ?_;cases h1:nr s i' yI with
  |error j=>
   rw[h1]at k2;simp only at k2;rw[yI]at h1;rw[hm,<- k2,J9,lQ];refine Wp.bm tw aM (ev (aa cE h1)) ?_ ?_
   ·simp[hs,hg];omega
   refine qq ?_;exact⟨_,rfl⟩
  | ok p=>
   obtain⟨lo,j⟩:=p;obtain⟨o0,o1,o2,o3⟩:=sL h1 k0;rw[h1]at k2;simp only at k2;rw[yI]at h1;refine wR tw (aa cE h1) ?_ ?_
   ·simp[hs,hg];omega
   refine vR tw cE ?_;refine Wp.seq ?_;refine wR tw cE ?_ ?_
   ·simp;omega
   refine vR tw cE ?_;refine wC cE (λhc=>?_) (λhc=>?_)
   ·simp at hc;rw[if_pos hc]at k2;have w1:IntKind.i64.wrap (j+1)=j+1:=aA oM oM;refine vR tw (aa cE w1) ?_;refine vR tw cE ?_;cases h2:nr s (j+1) yI with
    |error l=>
     rw[h2]at k2;simp only at k2;rw[yI]at h2;rw[hm,<- k2,J9,lQ];refine Wp.bm tw aM (ev (aa cE h2)) ?_ ?_
     ·simp[hs,hg];omega
     refine qq ?_;exact⟨_,rfl⟩
    | ok p=>
     obtain⟨hi,l⟩:=p;obtain⟨r0,r1,r2,r3⟩:=sL h2 oM;rw[h2]at k2;simp only at k2;rw[yI]at h2;refine wR tw (aa cE h2) ?_ ?_
     ·simp[hs,hg];omega
     refine vR tw cE ?_;refine wC cE (λhc=>?_) (λhc=>?_)
     ·simp at hc;rw[if_pos hc]at k2;rw[hm,<- k2,J9,lQ];refine Wp.dz tw aM (ev cE) ?_ ?_
      ·exact oo
      refine qq ?_;exact⟨_,rfl⟩
     ·simp at hc;rw[if_neg oM]at k2;refine wK ?_;refine IN tw cE ?_ ?_
      ·omega
      refine⟨(n,l,a ||| B3 lo hi),⟨by simp only;omega,by simp only;omega,k2⟩,by simp only;omega,?_⟩;exact wM (λk=>.key k) cE
   ·have hn' : ¬ (j<s.size/\bt s j=45):=λh=>by
     apply Bool.eq_false_iff.1 hc;simp;exact h
    rw[if_neg hn']at k2;refine wK ?_;refine IN tw cE ?_ ?_
    ·omega
    refine⟨(n,j,a ||| B3 lo lo),⟨by simp only;omega,by simp only;omega,k2⟩,by simp only;omega,?_⟩;exact wM (λk=>.key k) cE
def rl:bI prog 269 where
 T:=375
 pre:=λW bs fs as_=>match fs,as_ with|[.val (.string s),.val (.int .i64 i)],[]=>0<=i/\s.size<=140737488351232/\bg W (Out bs)|_,_=>False
 out:=λW fs as_=>match fs,as_ with|[.val (.string s),.val (.int .i64 i)],[]=>Kn s (jm s i)|_,_=>.pan [] undef
 enters:=call269
 ok:=by
  intro W w bs u fp us fs as_ hk ho hlt hmine hu hp;split at hp
  ·rename_i s i
   match us,hu with
   |[],_=>
    exact J3 s i u fp w hp.1 hp.2.1 (hp.2.2.fK hk hmine) ho hlt
  ·exact hp.elim
theorem Gy(W:World)(s:ByteArray)(i:Int):rl.out W [.val (.string s),.val (.int .i64 i)] []=Kn s (jm s i):=rfl
theorem Gz(W:World)(bs:List Nat)(s:ByteArray)(i:Int):rl.pre W bs [.val (.string s),.val (.int .i64 i)] []=(0<=i/\s.size<=140737488351232/\bg W (Out bs)):=rfl
theorem NP:rl.T=375:=rfl
noncomputable def IP:Env prog:=⟨λ| 270=>some NV.spec|224=>some DQ.spec|271=>some E8.spec|245=>some ofC.spec|269=>some rl.spec|_=>none,λ| _=>none,λ_ _=>none⟩
theorem afp:IP.sp 270=some NV.spec:=rfl
theorem afm:IP.sp 224=some DQ.spec:=rfl
theorem afq:IP.sp 271=some E8.spec:=rfl
theorem afn:IP.sp 245=some ofC.spec:=rfl
theorem afo:IP.sp 269=some rl.spec:=rfl
def spc:ByteArray:=⟨#[40,41,91,93,123,125,124,38,45,42,43,63,46,92,47,94]⟩
def aiU:Except Int (Int×Int)->Except Int (CS×Int)
 |.error j=>.error j
 |.ok (b,j)=>.ok (B3 b b,j)
def jk(s:ByteArray)(i:Int):Except Int (CS×Int):=
 if bt s i=46 then .ok (~~~(T9 ⟨#[10]⟩ 1),i+1)
 else if bt s i=91 then jm s (i+1)
 else aiU (nr s i spc)
def jH:=(ae cE Gy Gz NP @vu @lQ afp (fP afm afq afn afo))
theorem XR(s:ByteArray)(i:Int)(u:Value)(fp:List Nat)(w:World)(h0:0<=i)(h1:i<s.size)(hs:s.size<=140737488351232)(hg:bg w (Out fp))(ho:aW w u fp 375 (Gd s i))(hlt:∀ b∈fp,b<w.heap.size) :
  Calls prog 268 (#[u]++#[]) w λe w' => dA w u fp 375 e w' (Kn s (jk s i)):=by
 obtain⟨b0,b1⟩:=jf s i;have w1:IntKind.i64.wrap (i+1)=i+1:=aA oM oM;refine aN (nt:=42) #[] [.cell 2 309] (by show 2<=7;omega) ho hlt func268 rfl rfl rfl ?_;refine vR IP jH ?_;refine Wp.seq ?_;refine yt IP jH ?_;refine vR IP jH ?_;refine Wp.block ?_;refine vR IP jH ?_;refine wC jH (λhc=>?_) (λhc=>?_)
 ·simp at hc;have he:jk s i=.ok (~~~(T9 ⟨#[10]⟩ 1),i+1):=by rw[jk,if_pos hc]
  rw[he,vu];refine vR IP (aa jH w1) ?_;refine wR IP jH ?_ ?_
  ·decide
  refine wZ jH ?_;exact⟨_,_,rfl,rfl,_,_,rfl,rfl,dE⟩
 ·simp at hc;have hc0:=hc;refine vR IP jH ?_;refine wC jH (λhc=>?_) (λhc=>?_)
  ·simp at hc;have he:jk s i=jm s (i+1):=by rw[jk,if_neg hc0,if_pos hc]
   rw[he];refine vR IP (aa jH w1) ?_;cases h2:jm s (i+1) with
   |error j=>
    refine Wp.bm IP aM (ev (aa jH h2)) ?_ ?_
    ·simp[hs,hg];omega
    refine qq ?_;exact⟨_,rfl⟩
   |ok p=>
    obtain⟨a,j⟩:=p;refine wR IP (aa jH h2) ?_ ?_
    ·simp[hs,hg];omega
    refine wZ jH ?_;exact⟨_,_,rfl,rfl,_,_,rfl,rfl,dE⟩
  ·simp at hc;have he:jk s i=aiU (nr s i spc):=by rw[jk,if_neg hc0,if_neg hc]
   rw[he];refine wK ?_;cases h2:nr s i spc with
   |error j=>
    rw[spc]at h2;refine Wp.bm IP aM (ev (aa jH h2)) ?_ ?_
    ·simp[hs,hg];omega
    refine qq ?_;exact⟨_,rfl⟩
   |ok p=>
    obtain⟨b,j⟩:=p;obtain⟨o0,o1,o2,o3⟩:=sL h2 h0;rw[spc]at h2;refine wR IP (aa jH h2) ?_ ?_
    ·simp[hs,hg];omega
    refine wR IP jH ?_ ?_
    ·omega
    refine wZ jH ?_;exact⟨_,_,rfl,rfl,_,_,rfl,rfl,dE⟩
def JL:bI prog 268 where
 T:=375
 pre:=λW bs fs as_=>match fs,as_ with|[.val (.string s),.val (.int .i64 i)],[]=>0<=i/\i<s.size/\s.size<=140737488351232/\bg W (Out bs)|_,_=>False
 out:=λW fs as_=>match fs,as_ with|[.val (.string s),.val (.int .i64 i)],[]=>Kn s (jk s i)|_,_=>.pan [] undef
 enters:=call268
 ok:=by
  intro W w bs u fp us fs as_ hk ho hlt hmine hu hp;split at hp
  ·rename_i s i
   match us,hu with
   |[],_=>
    exact XR s i u fp w hp.1 hp.2.1 hp.2.2.1 (hp.2.2.2.fK hk hmine) ho hlt
  ·exact hp.elim
theorem Tl(W:World)(s:ByteArray)(i:Int):JL.out W [.val (.string s),.val (.int .i64 i)] []=Kn s (jk s i):=rfl
theorem Tn(W:World)(bs:List Nat)(s:ByteArray)(i:Int):JL.pre W bs [.val (.string s),.val (.int .i64 i)] []=(0<=i/\i<s.size/\s.size<=140737488351232/\bg W (Out bs)):=rfl
theorem adt:JL.T=375:=rfl
noncomputable def Γ20:Env prog:=⟨λ| 268=>some JL.spec|_=>none,λ| _=>none,λ_ _=>none⟩
theorem afF:Γ20.sp 268=some JL.spec:=rfl
def nS(c i:Int)(t:ByteArray):Value:=.agg #[.int .i64 c,.int .i64 i,.string t]
def fU:=(ae @List.replicate_succ.{0} @List.replicate_zero.{0} @au @ab kH kI Ri (ae Rm RN kK c8 da db dc (ae dn dr dt du ew ez eA (ae eB eC eD IC ID IE IF (ae um uo uq ur uu uv uw (ae ux uy uz vQ vS vT vU (ae v8 wg wh wq Ry Rz RA (ae RB RC RD RE RF RH RJ (ae RM @aV @aw @aD @aG @σR.eq_1 @σL.eq_1 (ae @lM.eq_1 @lM.eq_2 @rj.eq_1 @rj.eq_2 @Gd.eq_1 @Tl @Tn (ae @adt @vu @lQ @kg.eq_1 @cM @mw @my (ae @mv @ke @qk @dj @IH @iH @List.drop_nil.{0} afF))))))))))))
noncomputable def WR:CatchC prog 267 where
 Ts:=[309,3,39]
 enters:=call267
 pre:=λvss pv=>(∃ a b c d e f g h,vss=[[a,b,c,d],[e],[f,g,h]])/\∃ c i t,pv=.iface 39 (nS c i t)
 out:=λvss pv=>[[.int .u64 0,.int .u64 0,.int .u64 0,.int .u64 0],[.int .i64 0],match pv with|.iface _ (.agg x)=>x.toList|_=>[]]
 oQ:=λvss pv=>[ct 0,.int .i64 0,match pv with|.iface _ x=>x|_=>undef]
 vals_ok:=by
  rintro vss pv ⟨_,c,i,t,rfl⟩
  refine⟨.inl ⟨by simp only[iC,Op.operands,Value.cells,σ0,σB,Nat.reduceEqDiff,Nat.reduceAdd,Nat.reduceMul,Nat.reduceLT,Nat.reduceLeDiff,Nat.reduceBEq,av,Int.reduceToNat,Int.reduceLT,Int.reduceLE,Nat.reduceDiv,Nat.reduceMod,Nat.reduceSub,Int.reducePow,Nat.reducePow,σP,σB3,fU]<;>rfl,by simp only[iC,Op.operands,Value.cells,σ0,σB,Nat.reduceEqDiff,Nat.reduceAdd,Nat.reduceMul,Nat.reduceLT,Nat.reduceLeDiff,Nat.reduceBEq,av,Int.reduceToNat,Int.reduceLT,Int.reduceLE,Nat.reduceDiv,Nat.reduceMod,Nat.reduceSub,Int.reducePow,Nat.reducePow,σP,σB3,fU],?_⟩,.inr ⟨by simp only[iC,Op.operands,Value.cells,σ0,σB,Nat.reduceEqDiff,Nat.reduceAdd,Nat.reduceMul,Nat.reduceLT,Nat.reduceLeDiff,Nat.reduceBEq,av,Int.reduceToNat,Int.reduceLT,Int.reduceLE,Nat.reduceDiv,Nat.reduceMod,Nat.reduceSub,Int.reducePow,Nat.reducePow,σP,σB3,fU],rfl⟩,.inl ⟨by simp only[iC,Op.operands,Value.cells,σ0,σB,Nat.reduceEqDiff,Nat.reduceAdd,Nat.reduceMul,Nat.reduceLT,Nat.reduceLeDiff,Nat.reduceBEq,av,Int.reduceToNat,Int.reduceLT,Int.reduceLE,Nat.reduceDiv,Nat.reduceMod,Nat.reduceSub,Int.reducePow,Nat.reducePow,σP,σB3,fU]<;>rfl,by simp only[iC,Op.operands,Value.cells,σ0,σB,Nat.reduceEqDiff,Nat.reduceAdd,Nat.reduceMul,Nat.reduceLT,Nat.reduceLeDiff,Nat.reduceBEq,av,Int.reduceToNat,Int.reduceLT,Int.reduceLE,Nat.reduceDiv,Nat.reduceMod,Nat.reduceSub,Int.reducePow,Nat.reducePow,σP,σB3,fU],rfl⟩,trivial⟩
  rfl
 quiet:=λw us hl=>by
  match us,hl with
  | [u0,u1,u2],_=>
   refine lg (nt:=10) w _ func267 rfl rfl oM oM rfl ?_;refine vR Γ20 fU ?_;refine wC fU (λhc=>?_) (λhc=>?_)
   ·simp at hc
   ·refine wK ?_;simp only[iC,Op.operands,Value.cells,σ0,σB,Nat.reduceEqDiff,Nat.reduceAdd,Nat.reduceMul,Nat.reduceLT,Nat.reduceLeDiff,Nat.reduceBEq,av,Int.reduceToNat,Int.reduceLT,Int.reduceLE,Nat.reduceDiv,Nat.reduceMod,Nat.reduceSub,Int.reducePow,Nat.reducePow,σP,σB3,mM,fS,kp,iw,fU]
    done
 caught:=λw us bl vss pv hl hn hlt hp=>by
  obtain⟨⟨a,b,c,d,e,f,g,h,rfl⟩,k,i,t,rfl⟩:=hp;have h3:=hl.len.1;refine kf (nt:=10) func267 rfl rfl oM oM ?_ hl hn hlt ?_ ?_
  ·rw[h3];rfl
  ·rw[h3];decide
  intro us _;refine vR Γ20 fU ?_;refine wC fU (λhc=>?_) (λhc=>?_)
  ·skip;refine vrD Γ20 (aa fU @nS.eq_1) ?_;refine wS fU ?_;exact⟨rfl,rfl,rfl,trivial⟩
  ·cases hc
def tp(c:Int)(a:CS)(j k:Int):Value:=.tuple #[ct a,.int .i64 j,nS c k ⟨#[]⟩]
def vz(s:ByteArray)(i:Int):Value:=
 if i<0\/s.size<=i then tp 2 0 0 0
 else match jk s i with
  |.error j=>tp 10 0 0 j
  |.ok (a,j)=>tp 0 a j 0
theorem Zf(s:ByteArray)(i:Int)(w:World)(hs:s.size<=140737488351232)(hg:bg w (Out [])) :
  Calls prog 263 #[.string s,.int .i64 i] w λe w' => e=.returned (vz s i)/\an w [] w' := by
 refine yK (nt:=31) func263 rfl rfl ?_;refine gN.seq' (rs:=[.cell 4 309,.cell 5 3,.cell 6 39]) rfl ?_;refine vr Γ20 fU ?_;refine gN.seq' (rs:=[.cell 4 309,.cell 5 3,.cell 6 39]) rfl ?_;refine vR Γ20 fU ?_;refine wC fU (λhc=>?_) (λhc=>?_)
 ·have hb:i<0\/s.size<=i:=by simpa using hc
  have he:vz s i=tp 2 0 0 0:=by rw[vz,if_pos hb]
  rw[he];refine vR Γ20 fU ?_;refine wZ fU ?_;exact λE=>rfl
 ·have hb:¬ (i<0\/s.size<=i):=λh=>by
   apply Bool.eq_false_iff.1 hc;simpa using h
  have he:vz s i=match jk s i with
    |.error j=>tp 10 0 0 j
    |.ok (a,j)=>tp 0 a j 0:=by rw[vz,if_neg hb]
  refine wK ?_;refine gN.F4 (rs:=[.cell 4 309,.cell 5 3,.cell 6 39]) rfl WR [4,5,6] [0,8,16] rfl dE rfl dE rfl rfl ?_ ?_ λus hus=>?_
  ·rintro p hp;simp only[List.zip_cons_cons,List.zip_nil_right,List.mem_cons,List.not_mem_nil,or_false]at hp;rcases hp with rfl|rfl|rfl<;>rfl
  ·rintro k hk;simp only[List.mem_cons,List.not_mem_nil,or_false]at hk;rcases hk with rfl|rfl|rfl<;>exact⟨_,_,rfl⟩
  have hi:0<=i/\i<s.size:=oM;refine vR Γ20 fU ?_;cases h2:jk s i with
  |error j=>
   rw[he,h2];refine Wp.bm Γ20 aM (ev (aa fU h2)) ?_ ?_
   ·simp[hs,hg];omega
   refine qq ?_;refine wS fU ?_;refine⟨.iface 39 (nS 10 j ⟨#[]⟩),[[.int .u64 0,.int .u64 0,.int .u64 0,.int .u64 0],[.int .i64 0],[.int .i64 0,.int .i64 0,.string ⟨#[]⟩]],rfl,⟨?_,?_,?_,?_,?_,?_,trivial⟩,⟨⟨_,_,_,_,_,_,_,_,rfl⟩,10,j,⟨#[]⟩,rfl⟩,λE=>rfl⟩
   all_goals rfl
  |ok p=>
   obtain⟨a,j⟩:=p;rw[he,h2];refine wR Γ20 (aa fU h2) ?_ ?_
   ·simp[hs,hg];omega
   refine yt Γ20 fU ?_;refine wZ fU ?_;exact λE=>rfl
end
end Go.Proofs.YtnemkecffmdlnaaGreatDoor
