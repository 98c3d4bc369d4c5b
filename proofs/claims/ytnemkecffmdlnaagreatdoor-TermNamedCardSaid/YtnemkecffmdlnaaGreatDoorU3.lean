/-
 Part 3 of the proof (packed).
-/
import Derived.Test.YtnemkecffmdlnaaGreatDoorU2
import Derived.Shelf.LaysM
import Derived.Shelf.Strconv.Itoa3
import Derived.Test.YtnemkecffmdlnaaGreatDoorProg
import Derived.Lib.Bytealg
set_option linter.unusedSimpArgs false
set_option linter.unusedVariables false
set_option linter.defProp false
set_option maxHeartbeats 16000000
namespace Go.LE
section
open Go.RowKit
mutual
def tn(k:Nat)(u:Value):SV->SV
 |.v x=>.v x
 |.own j o=>bif j == k then .v (dj (base u) o) else .own j o
 |.hd j=>bif j == k then .v (hv u) else .hd j
 |.agg l=>.agg (v7 k u l)
 |.tup l=>.tup (v7 k u l)
 |.nr t x=>.nr t (tn k u x)
 |.part j i=>bif j == k then .v (hv (Lb u i)) else .part j i
 |.fn f a c=>.fn f (v7 k u a) (v7 k u c)
def v7(k:Nat)(u:Value):List SV->List SV
 |[]=>[]
 |x::r=>tn k u x::v7 k u r
end
mutual
theorem Aq{E:Nat->Value}{k:Nat}:∀ x:SV,den E (tn k (E k) x)=den E x
 |.v x=>rfl
 | .own j o=>by
  simp only[tn];by_cases hj:j=k
  ·subst hj;simp[den]
  ·have:(j == k)=false:=by simp[hj]
   simp[this]
 | .hd j=>by
  simp only[tn];by_cases hj:j=k
  ·subst hj;simp[den]
  ·have:(j == k)=false:=by simp[hj]
   simp[this]
 |.agg l=>by simp only[tn,den];rw[kG l]
 |.tup l=>by simp only[tn,den];rw[kG l]
 |.nr t x=>by simp only[tn,den];rw[Aq x]
 | .part j i=>by
  simp only[tn];by_cases hj:j=k
  ·subst hj;simp[den]
  ·have:(j == k)=false:=by simp[hj]
   simp[this]
 |.fn f a c=>by simp only[tn,den];rw[kG a,kG c]
theorem kG{E:Nat->Value}{k:Nat}:∀ l:List SV,ai E (v7 k (E k) l)=ai E l
 |[]=>rfl
 |x::r=>by simp only[v7,ai];rw[Aq x,kG r]
end
mutual
theorem rT{k:Nat}{u:Value}{j:Nat}:∀ x:SV,j∈(tn k u x).keys->j∈x.keys/\j≠k
 |.v x,h=>by simp[tn,SV.keys]at h
 | .own i o,h=>by
  simp only[tn]at h;by_cases hi:i=k
  ·subst hi;simp[SV.keys]at h
  ·have:(i == k)=false:=by simp[hi]
   simp only[this,cond_false,SV.keys,List.mem_singleton]at h ⊢;exact⟨h,h ▸ hi⟩
 | .hd i,h=>by
  simp only[tn]at h;by_cases hi:i=k
  ·subst hi;simp[SV.keys]at h
  ·have:(i == k)=false:=by simp[hi]
   simp only[this,cond_false,SV.keys,List.mem_singleton]at h ⊢;exact⟨h,h ▸ hi⟩
 |.agg l,h=>by simp only[tn,SV.keys]at h ⊢;exact gv l h
 |.tup l,h=>by simp only[tn,SV.keys]at h ⊢;exact gv l h
 |.nr t x,h=>by simp only[tn,SV.keys]at h ⊢;exact rT x h
 | .part i o,h=>by
  simp only[tn]at h;by_cases hi:i=k
  ·subst hi;simp[SV.keys]at h
  ·have:(i == k)=false:=by simp[hi]
   simp only[this,cond_false,SV.keys,List.mem_singleton]at h ⊢;exact⟨h,h ▸ hi⟩
 |.fn f a c,h=>by
  simp only[tn,SV.keys,List.mem_append]at h ⊢;rcases h with h|h
  ·exact⟨.inl (gv a h).1,(gv a h).2⟩
  ·exact⟨.inr (gv c h).1,(gv c h).2⟩
theorem gv{k:Nat}{u:Value}{j:Nat}:∀ l:List SV,j∈ay (v7 k u l)->j∈ay l/\j≠k
 |[],h=>by simp[v7,ay]at h
 |x::r,h=>by
  simp only[v7,ay,List.mem_append]at h ⊢;rcases h with h|h
  ·exact⟨.inl (rT x h).1,(rT x h).2⟩
  ·exact⟨.inr (gv r h).1,(gv r h).2⟩
end
def sbV(k:Nat)(u:Value):FV->FV
 |.is x=>.is (tn k u x)
 |.cnd b x=>.cnd b (tn k u x)
 |.any=>.any
def Xs(k:Nat)(u:Value):aX->aX
 |.cells T vs=>.cells T (v7 k u vs)
 |.row T s n vs=>.row T s n (v7 k u vs)
 |.mp ks vs=>.mp ks (v7 k u vs)
 |.obj d R=>.obj d R
def Xt(k:Nat)(u:Value)(φ:Fr):Fr:=λt=>sbV k u (φ t)
def Sq(k:Nat)(u:Value)(h:Hp):Hp:=λj=>bif j == k then none else (h j).map (Xs k u)
theorem aaM{E:Nat->Value}{k:Nat}{f:FV}{u:Value}(h:fits E f u):fits E (sbV k (E k) f) u:=by
 cases f with
 |is x=>simpa [sbV,fits,Aq] using h
 |cnd b x=>simpa [sbV,fits,Aq] using h
 |any=>trivial
theorem aaN{k:Nat}{u:Value}{f:FV}{j:Nat}(h:j∈(sbV k u f).keys):j∈f.keys/\j≠k:=by
 cases f with
 |is x=>exact rT x h
 |cnd b x=>
  cases b with
  |false=>cases h
  |true=>exact rT x h
 |any=>cases h
theorem afo{E:Nat->Value}{k:Nat}{e:aX}{u:Value}{fp:List Nat}{w:World}(h:bu E u fp w e):bu E u fp w (Xs k (E k) e):=by
 cases e with
 |cells T vs=>simpa [Xs,bu,kG] using h
 |row T s n vs=>simpa [Xs,bu,kG] using h
 |mp ks vs=>simpa [Xs,bu,kG] using h
 |obj d R=>exact h
theorem aaJ{k:Nat}{u:Value}{e:aX}{j:Nat}(h:j∈(Xs k u e).keys):j∈e.keys/\j≠k:=by
 cases e with
 |cells T vs=>exact gv vs h
 |row T s n vs=>exact gv vs h
 |mp ks vs=>exact gv vs h
 |obj d R=>cases h
theorem oZ{k:Nat}{u:Value}{h:Hp}{j:Nat}{e:aX}(hh:Sq k u h j=some e):j≠k/\∃ e0,h j=some e0/\e=Xs k u e0:=by
 unfold Sq at hh;by_cases hj:j=k
 ·subst hj;simp at hh
 ·have:(j == k)=false:=by simp[hj]
  rw[this,cond_false,Option.map_eq_some_iff]at hh;obtain⟨e0,h1,h2⟩:=hh;exact⟨hj,e0,h1,h2.symm⟩
theorem Sat.L9{W:World}{bs:List Nat}{nt:Nat}{ds:Aux}{σ:St}{a:Act}{w:World}(k:Nat)(hsat:Sat W bs nt ds σ a w) :
  ∃ E F bs',Ext W bs w bs' /\ aj W bs E F σ.h w/\(∀ e,σ.h k=some e->∀ b∈F k,b∉bs')/\Sat w bs' nt ds ⟨σ.n,Xt k (E k) σ.φ,Sq k (E k) σ.h⟩ a w:=by
 classical
 obtain⟨⟨E,F,hφ,hs,hp⟩,hsz,hdf,hpk,hfk,hhk⟩:=hsat;have hmem:∃ bs' : List Nat,∀ b,b∈bs' ↔ ∃ j e,j≠k/\σ.h j=some e/\b∈F j:=by
  refine⟨(List.range (8*σ.n)).flatMap λj=>if j=k\/σ.h j=none then [] else F j,λb=>?_⟩;rw[List.mem_flatMap];constructor
  ·rintro⟨j,_,hb⟩;split at hb
   ·cases hb
   ·rename_i hn;have h1:j≠k:=λe=>hn (.inl e)
    have h2:σ.h j≠none:=λe=>hn (.inr e)
    obtain⟨e,he⟩:=Option.ne_none_iff_exists'.1 h2;exact⟨j,e,h1,he,hb⟩
  ·rintro⟨j,e,hj,he,hb⟩;have:=(hhk j e he).1;refine⟨j,List.mem_range.2 oM,?_⟩;rw[if_neg (by rw[he];simp[hj])];exact hb
 obtain⟨bs',hmem⟩:=hmem;have hx:Ext W bs w bs' := ⟨hs.keeps,λb hb=>by
  obtain⟨j,e,_,he,hbj⟩:=(hmem b).1 hb
  exact hs.mine j e he b hbj⟩
 refine⟨E,F,bs',hx,hs,λe he b hb hb' => ?_,?_⟩
 ·obtain⟨j,e2,hj,he2,hbj⟩:=(hmem b).1 hb';exact hs.apart k j e e2 (Ne.symm hj) he he2 b hb hbj
 ·refine⟨⟨E,F,λt=>aaM (hφ t),⟨λj e he=>?_,λj e he b hb=>?_,λj e he b hb=>?_,λi j e e' hij hi hj b hb=>?_,an.refl w _⟩,hp⟩,hsz,hdf,hpk,λt j hj=>hfk t j (aaN hj).1,λj e he=>?_⟩
  ·obtain⟨hj,e0,h1,rfl⟩:=oZ he;exact afo (hs.ent j e0 h1)
  ·obtain⟨hj,e0,h1,rfl⟩:=oZ he;exact hs.lt j e0 h1 b hb
  ·obtain⟨hj,e0,h1,rfl⟩:=oZ he;exact .inr ((hmem b).2 ⟨j,e0,hj,h1,hb⟩)
  ·obtain⟨_,e0,h1,rfl⟩:=oZ hi;obtain⟨_,e1,h2,rfl⟩:=oZ hj;exact hs.apart i j e0 e1 hij h1 h2 b hb
  ·obtain⟨hj,e0,h1,rfl⟩:=oZ he;exact⟨(hhk j e0 h1).1,λi hi=>(hhk j e0 h1).2 i (aaJ hi).1⟩
def Nb(nt:Nat)(ds:Aux)(X:World->List Nat->St->Prop):Prop:=∀ W bs σ,(∀ a w,Sat W bs nt ds σ a w->∃ W' bs' σ',Ext W bs W' bs' /\ X W' bs' σ' /\ Sat W' bs' nt ds σ' a w)->X W bs σ
theorem Wp.clo{P:Program}{nt:Nat}{ds:Aux}{c:Code}{Q:lR}:Nb nt ds (λW bs σ=>Wp P W bs nt ds c Q σ):=λW bs σ h a w hs=>by
 obtain⟨W',bs',σ',hx,hX,hs'⟩:=h a w hs;exact wp_mono (hX a w hs') λe' a' w' hh' => yn hx hh'
def Pw(nt:Nat)(ds:Aux)(W:World)(bs:List Nat)(σ:St)(Q:World->List Nat->St->Prop):Prop:=
 ∀ a w,Sat W bs nt ds σ a w->∃ W' bs' σ',Ext W bs W' bs' /\ Q W' bs' σ' /\ Sat W' bs' nt ds σ' a w
theorem Pw.clo{nt:Nat}{ds:Aux}{Q:World->List Nat->St->Prop}:Nb nt ds (λW bs σ=>Pw nt ds W bs σ Q):=λW bs σ h a w hs=>by
 obtain⟨W',bs',σ',hx,hX,hs'⟩:=h a w hs;obtain⟨W2,bs2,σ2,hx2,hq,hs2⟩:=hX a w hs';exact⟨W2,bs2,σ2,hx.trans hx2,hq,hs2⟩
theorem Pw.here{nt:Nat}{ds:Aux}{Q:World->List Nat->St->Prop}{W:World}{bs:List Nat}{σ:St}(h:Q W bs σ):Pw nt ds W bs σ Q:=λa w hs=>⟨W,bs,σ,Ext.refl W bs,h,hs⟩
def Mo(nt:Nat)(ds:Aux)(Q:lR):lR
 |.normal,W,bs,σ=>Pw nt ds W bs σ (Q .normal)
 |e,W,bs,σ=>Q e W bs σ
theorem dh{nt:Nat}{ds:Aux}{Q:lR}{W:World}{bs:List Nat}{σ:St}(h:Pw nt ds W bs σ (Q .normal)):Mo nt ds Q .normal W bs σ:=h
theorem Wp.more{P:Program}{W:World}{bs:List Nat}{nt:Nat}{ds:Aux}{c:Code}{Q:lR}{σ:St}(h:Wp P W bs nt ds c (Mo nt ds Q) σ):Wp P W bs nt ds c Q σ:=λa w hs=>
 wp_mono (h a w hs) λe a' w' ⟨W',bs',σ',he,hq,hs'⟩=>by
  cases e with
  |normal=>
   obtain⟨W2,bs2,σ2,hx2,hq2,hs2⟩:=hq a' w' hs';exact⟨W2,bs2,σ2,he.trans hx2,hq2,hs2⟩
  |_=>exact⟨W',bs',σ',he,hq,hs'⟩
section
variable {nt:Nat}{ds:Aux}{X:World->List Nat->St->Prop}{W:World}{bs:List Nat}{σ:St}
theorem Nb.L9(hX:Nb nt ds X)(k:Nat)
  (h:∀ W' bs' E F,Ext W bs W' bs' -> aj W bs E F σ.h W' -> (∀ e,σ.h k=some e->∀ b∈F k,b∉bs')->X W' bs' ⟨σ.n,Xt k (E k) σ.φ,Sq k (E k) σ.h⟩):X W bs σ:=
 hX W bs σ λa w hs=>by
  obtain⟨E,F,bs',hx,hh,hb,hs'⟩:=hs.L9 k;exact⟨w,bs',_,hx,h w bs' E F hx hh hb,hs'⟩
end
structure FK where
 Φ:List Value->World->(Nat->Prop)->Prop
 mono:∀ {cs:List Value} {W:World} {S:Nat->Prop} {W' : World} {S' : Nat->Prop},aY W S W' S' -> Φ cs W S->Φ cs W' S'
def bF(G:Nat->Prop)(bs:List Nat):Nat->Prop:=λb=>G b/\b∉bs
theorem bF.out{G:Nat->Prop}{bs:List Nat}{b:Nat}(h:bF G bs b):Out bs b:=h.2
def Up(G:Nat->Prop)(W:World)(bs:List Nat):Prop:=∀ b,W.heap.size<=b\/b∈bs->G b
theorem Up.ext{G:Nat->Prop}{W W' : World}{bs bs' : List Nat}(h:Up G W bs)(hx:Ext W bs W' bs'):Up G W' bs' := λb hb=>
 hb.elim (λh1=>h b (.inl (Nat.le_trans hx.keeps.size h1))) λh1=>h b (hx.sub b h1)
theorem Up.true(W:World)(bs:List Nat):Up (λ_=>True) W bs:=λ_ _=>trivial
theorem Ext.dW{G:Nat->Prop}{W W' : World}{bs bs' : List Nat}(h:Ext W bs W' bs'):aY W (bF G bs) W' (bF G bs'):=λb hb hs=>
 ⟨h.keeps.block b hb hs.2,hs.1,λhb' => (h.sub b hb').elim (λh1=>absurd h1 (Nat.not_le.2 hb)) hs.2⟩
def gk(G:Nat->Prop)(W:World)(bs:List Nat)(Φ:FK):List Value->Value->List Nat->World->Prop:=λ_ u fp w=>
 (∀ b∈fp,G b)/\∃ cs,u=dD cs/\∀ W₂ S₂,(∀ b,b<W.heap.size->bF G bs b->W₂.heap[b]?=W.heap[b]?/\S₂ b)->(∀ b∈fp,W₂.heap[b]?=w.heap[b]?/\S₂ b)->Φ.Φ cs W₂ S₂
section
variable {nt:Nat}{ds:Aux}{X:World->List Nat->St->Prop}{W:World}{bs:List Nat}{σ:St}
theorem Nb.da(hX:Nb nt ds X)(k:Nat){G:Nat->Prop}{W0:World}{bs0:List Nat}{Φ:FK}(hk:σ.h k=some (.obj [] (gk G W0 bs0 Φ)))(h0:aY W0 (bF G bs0) W (bF G bs))
  (h:∀ W' bs' cs,Ext W bs W' bs' -> Φ.Φ cs W' (bF G bs')->X W' bs' ⟨σ.n,Xt k (dD cs) σ.φ,Sq k (dD cs) σ.h⟩):X W bs σ:=by
 refine hX.L9 k λW' bs' E F hx hs hb=>?_
 obtain⟨⟨⟨hG,cs,h1,h2⟩,_⟩,_⟩:=hs.ent k _ hk;rw[h1];refine h W' bs' cs hx (h2 W' (bF G bs') (λb hlt hr=>?_) λb hbk=>⟨rfl,hG b hbk,hb _ hk b hbk⟩);obtain⟨g1,g2⟩:=h0 b hlt hr;have hlt' : b<W.heap.size:=by
  by_cases hW:b<W.heap.size
  ·exact hW
  ·have:W.heap[b]?=none:=by simp;omega
   rw[this]at g1;have h3:W0.heap[b]?=some W0.heap[b]:=Array.getElem?_eq_getElem hlt;rw[h3]at g1;cases g1
 obtain⟨g3,g4⟩:=hx.dW b hlt' g2;exact⟨g3.trans g1,g4⟩
theorem Nb.cS(hX:Nb nt ds X)(k:Nat){T:TypeId}{vs:List SV}{us:List Value}(hk:σ.h k=some (.cells T vs))(hv:∀ E,ai E vs=us)
  (h:∀ W' bs' b,Ext W bs W' bs' -> b∉bs' -> (W.heap.size<=b\/b∈bs)->W'.heap[b]?=some (.cells us.toArray T (0,0))->X W' bs' ⟨σ.n,Xt k (.pointer (some ⟨b,0,none⟩)) σ.φ,Sq k (.pointer (some ⟨b,0,none⟩)) σ.h⟩):X W bs σ:=by
 refine hX.L9 k λW' bs' E F hx hs hb=>?_
 obtain⟨b,h1,h2,h3⟩:=hs.ent k _ hk;rw[h1];have hbF:b∈F k:=by rw[h2];simp
 exact h W' bs' b hx (hb _ hk b hbF) (hs.mine k _ hk b hbF) (by rw[h3,hv E])
theorem Nb.zT(hX:Nb nt ds X)(k:Nat){T:TypeId}{s n:Nat}{vs:List SV}{us:List Value}(hk:σ.h k=some (.row T s n vs))(hv:∀ E,ai E vs=us)
  (h:∀ W' bs' ao c',Ext W bs W' bs' -> jN W' (New W bs bs') ao us->n<=c' -> X W' bs' ⟨σ.n,Xt k (.slice ao n c') σ.φ,Sq k (.slice ao n c') σ.h⟩):X W bs σ:=by
 refine hX.L9 k λW' bs' E F hx hs hb=>?_
 obtain⟨ao,c',h1,h2,h3⟩:=afk hs hk λb hbk=>hb _ hk b hbk
 rw[h1];rw[hv E]at h2;exact h W' bs' ao c' hx h2 h3
end
section
variable {P:Program}{W:World}{bs:List Nat}{nt:Nat}{ds:Aux}{c:Code}{Q:lR}{σ:St}
theorem Wp.da(k:Nat){G:Nat->Prop}{W0:World}{bs0:List Nat}{Φ:FK}(hk:σ.h k=some (.obj [] (gk G W0 bs0 Φ)))(h0:aY W0 (bF G bs0) W (bF G bs))
  (h:∀ W' bs' cs,Ext W bs W' bs' -> Φ.Φ cs W' (bF G bs')->Wp P W' bs' nt ds c Q ⟨σ.n,Xt k (dD cs) σ.φ,Sq k (dD cs) σ.h⟩):Wp P W bs nt ds c Q σ:=
 Nb.da Wp.clo k hk h0 h
theorem Wp.cS(k:Nat){T:TypeId}{vs:List SV}{us:List Value}(hk:σ.h k=some (.cells T vs))(hv:∀ E,ai E vs=us)
  (h:∀ W' bs' b,Ext W bs W' bs' -> b∉bs' -> (W.heap.size<=b\/b∈bs)->W'.heap[b]?=some (.cells us.toArray T (0,0))->Wp P W' bs' nt ds c Q ⟨σ.n,Xt k (.pointer (some ⟨b,0,none⟩)) σ.φ,Sq k (.pointer (some ⟨b,0,none⟩)) σ.h⟩):Wp P W bs nt ds c Q σ:=
 Nb.cS Wp.clo k hk hv h
theorem Wp.zT(k:Nat){T:TypeId}{s n:Nat}{vs:List SV}{us:List Value}(hk:σ.h k=some (.row T s n vs))(hv:∀ E,ai E vs=us)
  (h:∀ W' bs' ao c',Ext W bs W' bs' -> jN W' (New W bs bs') ao us->n<=c' -> Wp P W' bs' nt ds c Q ⟨σ.n,Xt k (.slice ao n c') σ.φ,Sq k (.slice ao n c') σ.h⟩):Wp P W bs nt ds c Q σ:=
 Nb.zT Wp.clo k hk hv h
variable {R:World->List Nat->St->Prop}
theorem Pw.da(k:Nat){G:Nat->Prop}{W0:World}{bs0:List Nat}{Φ:FK}(hk:σ.h k=some (.obj [] (gk G W0 bs0 Φ)))(h0:aY W0 (bF G bs0) W (bF G bs))
  (h:∀ W' bs' cs,Ext W bs W' bs' -> Φ.Φ cs W' (bF G bs')->Pw nt ds W' bs' ⟨σ.n,Xt k (dD cs) σ.φ,Sq k (dD cs) σ.h⟩ R):Pw nt ds W bs σ R:=
 Nb.da Pw.clo k hk h0 h
theorem Pw.cS(k:Nat){T:TypeId}{vs:List SV}{us:List Value}(hk:σ.h k=some (.cells T vs))(hv:∀ E,ai E vs=us)
  (h:∀ W' bs' b,Ext W bs W' bs' -> b∉bs' -> (W.heap.size<=b\/b∈bs)->W'.heap[b]?=some (.cells us.toArray T (0,0))->Pw nt ds W' bs' ⟨σ.n,Xt k (.pointer (some ⟨b,0,none⟩)) σ.φ,Sq k (.pointer (some ⟨b,0,none⟩)) σ.h⟩ R):Pw nt ds W bs σ R:=
 Nb.cS Pw.clo k hk hv h
theorem Pw.zT(k:Nat){T:TypeId}{s n:Nat}{vs:List SV}{us:List Value}(hk:σ.h k=some (.row T s n vs))(hv:∀ E,ai E vs=us)
  (h:∀ W' bs' ao c',Ext W bs W' bs' -> jN W' (New W bs bs') ao us->n<=c' -> Pw nt ds W' bs' ⟨σ.n,Xt k (.slice ao n c') σ.φ,Sq k (.slice ao n c') σ.h⟩ R):Pw nt ds W bs σ R:=
 Nb.zT Pw.clo k hk hv h
end
theorem cell_of{W:World}{b:Nat}{us:List Value}{T:TypeId}(h:W.heap[b]?=some (.cells us.toArray T (0,0)))(j:Nat)(hj:j<us.length):W.cell? ⟨b,j,none⟩=some us[j]:=by
 simp only[World.cell?,h];simp[List.getElem?_eq_getElem hj]
theorem afp(k:Nat)(u:Value)(φ:Fr)(t:Nat):Xt k u φ t=sbV k u (φ t):=rfl
theorem afq(k:Nat)(u:Value)(h:Hp)(j:Nat):Sq k u h j=bif j == k then none else (h j).map (Xs k u):=rfl
theorem akg(k:Nat)(u:Value)(x:SV):sbV k u (.is x)=.is (tn k u x):=rfl
theorem afy(k:Nat)(u:Value)(b:Bool)(x:SV):sbV k u (.cnd b x)=.cnd b (tn k u x):=rfl
theorem afx(k:Nat)(u:Value):sbV k u .any=.any:=rfl
theorem V4(k:Nat)(u:Value)(T:TypeId)(vs:List SV):Xs k u (.cells T vs)=.cells T (v7 k u vs):=rfl
theorem afn(k:Nat)(u:Value)(T:TypeId)(s n:Nat)(vs:List SV):Xs k u (.row T s n vs)=.row T s n (v7 k u vs):=rfl
theorem afm(k:Nat)(u:Value)(d:List Value)(R:List Value->Value->List Nat->World->Prop):Xs k u (.obj d R)=.obj d R:=rfl
theorem alZ(k:Nat)(u x:Value):tn k u (.v x)=.v x:=rfl
theorem afu(k:Nat)(u:Value)(j o:Nat):tn k u (.own j o)=bif j == k then .v (dj (base u) o) else .own j o:=rfl
theorem akf(k:Nat)(u:Value)(j:Nat):tn k u (.hd j)=bif j == k then .v (hv u) else .hd j:=rfl
theorem aaL(k:Nat)(u:Value)(j i:Nat):tn k u (.part j i)=bif j == k then .v (hv (Lb u i)) else .part j i:=rfl
theorem afs(k:Nat)(u:Value)(l:List SV):tn k u (.agg l)=.agg (v7 k u l):=rfl
theorem afv(k:Nat)(u:Value)(l:List SV):tn k u (.tup l)=.tup (v7 k u l):=rfl
theorem aft(k:Nat)(u:Value)(t:TypeId)(x:SV):tn k u (.nr t x)=.nr t (tn k u x):=rfl
theorem ake(k:Nat)(u:Value)(f:Fn)(a c:List SV):tn k u (.fn f a c)=.fn f (v7 k u a) (v7 k u c):=rfl
theorem afr(k:Nat)(u:Value):v7 k u []=[]:=rfl
theorem aaK(k:Nat)(u:Value)(x:SV)(r:List SV):v7 k u (x::r)=tn k u x::v7 k u r:=rfl
theorem cL(k:Nat)(u:Value)(l:List Value):v7 k u (l.map .v)=l.map .v:=by
 induction l with
 |nil=>rfl
 |cons x r ih=>simp[v7,tn,ih]
theorem Ps(k:Nat)(u:Value)(a b:List SV):v7 k u (a++b)=v7 k u a++v7 k u b:=by
 induction a with
 |nil=>rfl
 |cons x r ih=>simp[v7,ih]
theorem ajD(k:IntKind)(n:Int):hv (.int k n)=.int k n:=rfl
theorem aer(b:Bool):hv (.bool b)=.bool b:=rfl
theorem ajF(s:ByteArray):hv (.string s)=.string s:=rfl
theorem aes(f:Fn)(a c:Array Value):hv (.func f a c)=.func f a c:=rfl
theorem Y1(ao:Option Addr)(n c:Nat):hv (.slice ao n c)=.slice ao n c:=rfl
theorem ajE(a:Option Addr):hv (.pointer a)=.pointer a:=rfl
theorem Y0(t:TypeId)(x:Value):hv (.iface t x)=.iface t x:=rfl
theorem XZ(a:Addr):base (.pointer (some a))=some a:=rfl
theorem Nx(a:Addr)(n c:Nat):base (.slice (some a) n c)=some a:=rfl
theorem O6(a:Addr)(o:Nat):dj (some a) o=.pointer (some ⟨a.block,a.off+o,none⟩):=rfl
def amN:=aa @afp <| aa @afq <| aa @akg <| aa @afy <| aa @afx <| aa @V4 <| aa @afn <| aa @afm <| aa @alZ <| aa @afu <| aa @akf <| aa @aaL <| aa @afs <| aa @afv <| aa @aft <| aa @ake <| aa @afr <| aa @aaK <| aa @cL <| aa @Ps <| aa @ajD <| aa @aer <| aa @ajF <| aa @aes <| aa @Y1 <| aa @ajE <| aa @Y0 <| aa @XZ <| aa @Nx <| aa @O6 @Hr
end
section
open Go.RowKit
structure Sh where
 tm:Nat->SV
 g:∀ E k,den E (tm k)=den (λ_=>E k) (tm 0)
 k:∀ k,∀ j∈(tm k).keys,j=k
def Sh.val(s:Sh)(cs:List Value):Value:=den (λ_=>dD cs) (s.tm 0)
def Sh.one:Sh:=⟨λk=>.part k 0,λ_ _=>rfl,λk j hj=>by simpa [SV.keys] using hj⟩
def Sh.two:Sh:=⟨λk=>.agg [.part k 0,.part k 1],λ_ _=>rfl,λk j hj=>by simpa [SV.keys,ay] using hj⟩
abbrev Kd:=Option (Sh×FK)
def zu:Option Value->Option (List Value)->Option (List Value)
 |some v,some vs=>some (v::vs)
 |_,_=>none
def func2(f:Fn):Option (List Value)->Option (List Value)->Option Value
 |some a,some c=>some (.func f a.toArray c.toArray)
 |_,_=>none
mutual
def cJ:SV->Option Value
 |.v x=>some x
 |.agg l=>(gX l).map λvs=>.agg vs.toArray
 |.nr t x=>(cJ x).map (.iface t)
 |.fn f a c=>func2 f (gX a) (gX c)
 |_=>none
def gX:List SV->Option (List Value)
 |[]=>some []
 |x::r=>zu (cJ x) (gX r)
end
mutual
theorem pt{E:Nat->Value}:∀ {x:SV} {v:Value},cJ x=some v->den E x=v
 |.v x,v,h=>by simp only[cJ,Option.some.injEq]at h;exact h
 |.own _ _,v,h=>by simp[cJ]at h
 |.hd _,v,h=>by simp[cJ]at h
 |.part _ _,v,h=>by simp[cJ]at h
 |.tup _,v,h=>by simp[cJ]at h
 |.agg l,v,h=>by
  simp only[cJ,Option.map_eq_some_iff]at h;obtain⟨vs,h1,rfl⟩:=h;simp only[den,pr h1]
 |.nr t x,v,h=>by
  simp only[cJ,Option.map_eq_some_iff]at h;obtain⟨y,h1,rfl⟩:=h;simp only[den,pt h1]
 | .fn f a c,v,h=>by
  simp only[cJ]at h;cases h1:gX a with
  |none=>rw[h1]at h;simp[func2]at h
  | some a' =>
   cases h2:gX c with
   |none=>rw[h1,h2]at h;simp[func2]at h
   |some c' =>
    rw[h1,h2]at h;simp only[func2,Option.some.injEq]at h;subst h;simp only[den,pr h1,pr h2]
theorem pr{E:Nat->Value}:∀ {l:List SV} {vs:List Value},gX l=some vs->ai E l=vs
 |[],vs,h=>by simp only[gX,Option.some.injEq]at h;subst h;rfl
 | x::r,vs,h=>by
  simp only[gX]at h;cases h1:cJ x with
  |none=>rw[h1]at h;simp[zu]at h
  | some v' =>
   cases h2:gX r with
   |none=>rw[h1,h2]at h;simp[zu]at h
   |some vs' =>
    rw[h1,h2]at h;simp only[zu,Option.some.injEq]at h;subst h;simp only[ai,pt h1,pr h2]
end
def lW:SV->Option Nat
 |.part k _=>some k
 |.agg (.part k _::_)=>some k
 |_=>none
structure GV1 where
 p:Prop
 a:AV
 rs:List Nat
 cs:List Nat
structure GVL where
 p:Prop
 as_:List AV
 rs:List Nat
 cs:List Nat
def ajx:Option (AV×List Nat)->GV1
 |some (a,r)=>⟨True,a,r,[]⟩
 |none=>⟨False,.val undef,[],[]⟩
def gvO(G:Nat->Prop)(W:World)(bs:List Nat)(sh:Sh)(Φ:FK)(x:SV)(k:Nat):Option aX->GV1
 |some (.obj d R)=>⟨x=sh.tm k/\d=[]/\R=gk G W bs Φ,.val undef,[k],[k]⟩
 |_=>⟨False,.val undef,[],[]⟩
def gvF(G:Nat->Prop)(W:World)(bs:List Nat)(h:Hp)(sh:Sh)(Φ:FK)(x:SV):Option Value->Option Nat->GV1
 |some v,_=>⟨∃ cs,v=sh.val cs/\Φ.Φ cs W (bF G bs),.val undef,[],[]⟩
 |none,some k=>gvO G W bs sh Φ x k (h k)
 |none,none=>⟨False,.val undef,[],[]⟩
def Ec(G:Nat->Prop)(W:World)(bs:List Nat)(h:Hp):Kd->SV->GV1
 |none,x=>ajx (bM h x)
 |some (sh,Φ),x=>gvF G W bs h sh Φ x (cJ x) (lW x)
def gvC(a:GV1)(l:GVL):GVL:=⟨a.p/\l.p,a.a::l.as_,a.rs++l.rs,a.cs++l.cs⟩
def mR(G:Nat->Prop)(W:World)(bs:List Nat)(h:Hp):List Kd->List SV->GVL
 |[],[]=>⟨True,[],[],[]⟩
 |kd::ks,x::r=>gvC (Ec G W bs h kd x) (mR G W bs h ks r)
 |_,_=>⟨False,[],[],[]⟩
def Bm(w:World)(S:Nat->Prop):List Kd->List Value->List AV->Prop
 |[],[],[]=>True
 |none::ks,u::us,a::as_=>tJ w u a/\Bm w S ks us as_
 |some (sh,Φ)::ks,u::us,_::as_=>(∃ cs,u=sh.val cs/\Φ.Φ cs w S)/\Bm w S ks us as_
 |_,_,_=>False
section
variable {P:Program}{W:World}{bs:List Nat}{κ:Nat}{E:Nat->Value}{F:Nat->List Nat}{h:Nat->Option aX}{w:World}{K:Nat->Prop}{G:Nat->Prop}
def Ol(w:World)(S:Nat->Prop)(u:Value)(a:AV):Kd->Prop
 |none=>tJ w u a
 |some (sh,Φ)=>∃ cs,u=sh.val cs/\Φ.Φ cs w S
theorem ael(hs:aj W bs E F h w){S:Nat->Prop}(hS:∀ b,b<W.heap.size->bF G bs b->S b){kd:Kd}{x:SV}(hp:(Ec G W bs h kd x).p)(hc:∀ k∈(Ec G W bs h kd x).cs,∀ b∈F k,S b) :
  Ol w S (den E x) (Ec G W bs h kd x).a kd:=by
 match kd with
 |none=>
  simp only[Ec,Ol]at hp ⊢;cases hv:bM h x with
  |none=>rw[hv]at hp;exact hp.elim
  |some q=>obtain⟨a,r⟩:=q;exact Gl hs hv
 | some (sh,Φ)=>
  simp only[Ec,Ol]at hp hc ⊢;cases hv:cJ x with
  |some v=>
   rw[hv]at hp;obtain⟨cs,h1,h2⟩:=hp;exact⟨cs,by rw[pt hv,h1],Φ.mono (λb hb hr=>⟨hs.keeps.block b hb hr.2,hS b hb hr⟩) h2⟩
  | none=>
   rw[hv]at hp hc;cases hk:lW x with
   |none=>rw[hk]at hp;exact hp.elim
   | some k=>
    rw[hk]at hp hc;simp only[gvF]at hp hc;cases hkk:h k with
    |none=>rw[hkk]at hp;exact hp.elim
    | some e=>
     rw[hkk]at hp hc;cases e with
     |cells T vs=>exact hp.elim
     |row T s n vs=>exact hp.elim
     |mp ks vs=>exact hp.elim
     |obj d R=>
      obtain⟨hx,rfl,rfl⟩:=hp;obtain⟨⟨⟨hG,cs,h1,h2⟩,_⟩,_⟩:=hs.ent k _ hkk;refine⟨cs,?_,h2 w S (λb hb hr=>⟨hs.keeps.block b hb hr.2,hS b hb hr⟩) λb hb=>⟨rfl,hc k (by simp[gvO]) b hb⟩⟩;rw[hx,sh.g E k,h1];rfl
theorem Av(hs:aj W bs E F h w){S:Nat->Prop}(hS:∀ b,b<W.heap.size->bF G bs b->S b):∀ {kds:List Kd} {l:List SV},(mR G W bs h kds l).p->(∀ k∈(mR G W bs h kds l).cs,∀ b∈F k,S b) ->
  Bm w S kds (ai E l) (mR G W bs h kds l).as_
 |[],[],_,_=>trivial
 |[],_::_,hp,_=>hp.elim
 |_::_,[],hp,_=>hp.elim
 |kd::ks,x::r,hp,hc=>by
  have h1:=ael hs hS (kd:=kd) (x:=x) hp.1 (λk hk=>hc k (List.mem_append_left _ hk));have h2:=Av hs hS (kds:=ks) (l:=r) hp.2 (λk hk=>hc k (List.mem_append_right _ hk));revert h1;cases kd with
  |none=>exact λh1=>⟨h1,h2⟩
  |some q=>exact λh1=>⟨h1,h2⟩
theorem aej{h' : Hp}{kd:Kd}{x:SV}(hp:(Ec G W bs h kd x).p)(hr:∀ k∈(Ec G W bs h kd x).rs,h' k=h k):Ec G W bs h' kd x=Ec G W bs h kd x:=by
 match kd with
 | none=>
  simp only[Ec]at hp hr ⊢;cases hv:bM h x with
  |none=>rw[hv]at hp;exact hp.elim
  |some q=>
   obtain⟨a,r⟩:=q;rw[hv]at hr;rw[Gk hv hr]
 | some (sh,Φ)=>
  simp only[Ec]at hp hr ⊢;cases hv:cJ x with
  |some v=>rfl
  | none=>
   rw[hv]at hp hr;cases hk:lW x with
   |none=>rfl
   | some k=>
    rw[hk]at hp hr;simp only[gvF]at hp hr ⊢;cases hkk:h k with
    |none=>rw[hkk]at hp;exact hp.elim
    |some e=>
     rw[hkk]at hp hr;cases e with
     |cells T vs=>exact hp.elim
     |row T s n vs=>exact hp.elim
     |mp ks vs=>exact hp.elim
     |obj d R=>rw[hr k (by simp[gvO]),hkk]
theorem Au{h' : Hp}:∀ {kds:List Kd} {l:List SV},(mR G W bs h kds l).p->(∀ k∈(mR G W bs h kds l).rs,h' k=h k)->mR G W bs h' kds l=mR G W bs h kds l
 |[],[],_,_=>rfl
 |[],_::_,hp,_=>hp.elim
 |_::_,[],hp,_=>hp.elim
 |kd::ks,x::r,hp,hr=>by
  have hp' : (Ec G W bs h kd x).p/\(mR G W bs h ks r).p:=hp;show gvC (Ec G W bs h' kd x) (mR G W bs h' ks r)=gvC (Ec G W bs h kd x) (mR G W bs h ks r);rw[aej hp'.1 λk hk=>hr k (List.mem_append_left _ hk),Au hp'.2 λk hk=>hr k (List.mem_append_right _ hk)]
theorem aek{kd:Kd}{x:SV}(hp:(Ec G W bs h kd x).p):∀ k∈(Ec G W bs h kd x).cs,∃ Φ,h k=some (.obj [] (gk G W bs Φ)):=by
 match kd with
 |none=>
  simp only[Ec]at hp ⊢;cases hv:bM h x with
  |none=>rw[hv]at hp;exact hp.elim
  |some q=>intro k hk;cases hk
 | some (sh,Φ)=>
  simp only[Ec]at hp ⊢;cases hv:cJ x with
  |some v=>intro k hk;cases hk
  | none=>
   rw[hv]at hp;cases hk:lW x with
   |none=>rw[hk]at hp;exact hp.elim
   | some k=>
    rw[hk]at hp;simp only[gvF]at hp ⊢;cases hkk:h k with
    |none=>rw[hkk]at hp;exact hp.elim
    | some e=>
     rw[hkk]at hp;cases e with
     |cells T vs=>exact hp.elim
     |row T s n vs=>exact hp.elim
     |mp ks vs=>exact hp.elim
     |obj d R=>
      obtain⟨hx,rfl,rfl⟩:=hp;intro j hj;simp only[gvO,List.mem_singleton]at hj;subst hj;exact⟨Φ,hkk⟩
theorem py:∀ {kds:List Kd} {l:List SV},(mR G W bs h kds l).p->∀ k∈(mR G W bs h kds l).cs,∃ Φ,h k=some (.obj [] (gk G W bs Φ))
 |[],[],_,k,hk=>by cases hk
 |[],_::_,hp,_,_=>hp.elim
 |_::_,[],hp,_,_=>hp.elim
 |kd::ks,x::r,hp,k,hk=>by
  rcases List.mem_append.1 hk with hk|hk
  ·exact aek hp.1 k hk
  ·exact py hp.2 k hk
end
inductive FOut where
 |val (v:Value)
 |fact (sh:Sh) (Φ:FK)
 |pan (c:List PanicEntry) (v:Value)
def lh(w:World)(S:Nat->Prop)(e:Ending)(w' : World):FOut->Prop
 |.val v=>e=.returned v/\an w [] w'
 |.fact sh Φ=>∃ cs,e=.returned (sh.val cs)/\Φ.Φ cs w' (λb=>b<w.heap.size->S b)/\an w [] w'
 |.pan c _=>e=.panicked c/\an w [] w'
structure lQ (P:Program)(f:FuncId) where
 kinds:List Kd
 pre:List AV->World->(Nat->Prop)->Prop
 premono:∀ as_ W S W' S',aY W S W' S' -> pre as_ W S->pre as_ W' S'
 out:List AV->FOut
 enters:∀ args w,(callFunc f args).run P w=.ok (.enter f args) w
 ok:∀ (w:World) (S:Nat->Prop) (us:List Value) (as_:List AV),Bm w S kinds us as_->pre as_ w S->Calls P f us.toArray w λe w' => lh w S e w' (out as_)
def vB(G:Nat->Prop)(κ:Nat)(W:World)(bs:List Nat)(q:Prop)(rs cs:List Nat):FOut->R
 |.val v=>⟨q,.v v,[],none,[],rs⟩
 |.fact sh Φ=>⟨q/\Up G W bs,sh.tm (8*κ),dO cs++[(8*κ,some (.obj [] (gk G W bs Φ)))],none,[],rs⟩
 |.pan c v=>⟨q,.v v,[],some c,[],rs⟩
def Bj(G:Nat->Prop)(κ:Nat)(W:World)(bs:List Nat)(pre:List AV->World->(Nat->Prop)->Prop)(out:List AV->FOut)(g:GVL):R:=
 vB G κ W bs (g.p/\pre g.as_ W (bF G bs)) g.rs g.cs (out g.as_)
theorem Om{W w:World}{bs:List Nat}{G:Nat->Prop}{S:Nat->Prop}(hk:an W bs w)(hS:∀ b,b<W.heap.size->bF G bs b->S b):aY W (bF G bs) w S:=λb hb hr=>⟨hk.block b hb hr.2,hS b hb hr⟩
theorem xV{W w w' : World}{bs fp0 fp:List Nat}{G S Sn:Nat->Prop}{Φ:FK}{cs:List Value}(hk:an W bs w)(hkeep:an w fp0 w')
  (hΦ:Φ.Φ cs w' Sn) (hS:∀ b,S b->(b<W.heap.size/\bF G bs b)\/b∈fp) (hS0:∀ b,b<W.heap.size->bF G bs b->b∉fp0)
  (hn:∀ b,b<w'.heap.size->Sn b->(b<w.heap.size/\S b)\/b∈fp) (hG:∀ b∈fp,G b) :
  ∀ w3:World,(∀ b∈fp,w3.heap[b]?=w'.heap[b]?)->gk G W bs Φ [] (dD cs) fp w3:=by
 intro w3 h3;refine⟨hG,cs,rfl,λW₂ S₂ hold hnew=>Φ.mono (λb hb hg=>?_) hΦ⟩;have inFp:b∈fp->W₂.heap[b]?=w'.heap[b]?/\S₂ b:=λhb' => by
  obtain⟨g3,g4⟩:=hnew b hb';exact⟨by rw[g3,h3 b hb'],g4⟩
 rcases hn b hb hg with ⟨hb1,hb2⟩|hb'
 ·rcases hS b hb2 with ⟨g1,g2⟩|hb'
  ·obtain⟨g3,g4⟩:=hold b g1 g2;exact⟨by rw[g3,hkeep.block b hb1 (hS0 b g1 g2),hk.block b g1 g2.2],g4⟩
  ·exact inFp hb'
 ·exact inFp hb'
theorem oJ{w w' : World}(hs:w.heap.size<=w'.heap.size)(b:Nat):b∈List.range' w.heap.size (w'.heap.size-w.heap.size) ↔ w.heap.size<=b/\b<w'.heap.size:=by
 rw[List.mem_range'_1];omega
def lQ.spec{P:Program}{f:FuncId}(p:lQ P f)(G:Nat->Prop):Spec P f where
 ev:=λW bs κ h args=>Bj G κ W bs p.pre p.out (mR G W bs h p.kinds args)
 good:=λW bs κ E F h w K args hs hK hk hx hside=>by
  rw[p.enters];have hS:∀ b,b<W.heap.size->bF G bs b->(b<W.heap.size/\bF G bs b)\/∃ k∈(mR G W bs h p.kinds args).cs,b∈F k:=λb h1 h2=>.inl ⟨h1,h2⟩
  have call:(mR G W bs h p.kinds args).p->p.pre (mR G W bs h p.kinds args).as_ W (bF G bs)->Calls P f (ai E args).toArray w λe w' => lh w (λb=>(b<W.heap.size/\bF G bs b)\/∃ k∈(mR G W bs h p.kinds args).cs,b∈F k) e w' (p.out (mR G W bs h p.kinds args).as_):=λh1 h2=>
   p.ok w _ _ _ (Av hs hS h1 λk hk b hb=>.inr ⟨k,hk,hb⟩) (p.premono _ _ _ _ _ (Om hs.keeps hS) h2)
  revert hside;unfold Bj;cases hout:p.out (mR G W bs h p.kinds args).as_ with
  |val v=>
   rintro⟨h1,h2⟩;have hc:=call h1 h2;rw[hout]at hc;exact xX hs hc rfl rfl rfl
  |pan c v=>
   rintro⟨h1,h2⟩;have hc:=call h1 h2;rw[hout]at hc;refine hc.mono λe w' he=>?_
   obtain⟨rfl,hkeep⟩:=he;exact⟨rfl,F,(hs.grow hkeep).drop λk e he=>by simpa [vB,dropKeys] using he⟩
  | fact sh Φ=>
   rintro⟨⟨h1,h2⟩,hup⟩;have hc:=call h1 h2;rw[hout]at hc;refine hc.mono λe w' he=>?_
   obtain⟨cs,rfl,hΦ,hkeep⟩:=he;have hobj:=py h1;have hK8:¬ K (8*κ):=hk _ oM;have hR:=xV (G:=G) (S:=λb=>(b<W.heap.size/\bF G bs b)\/∃ k∈(mR G W bs h p.kinds args).cs,b∈F k) (fp:=List.range' w.heap.size (w'.heap.size-w.heap.size)++(mR G W bs h p.kinds args).cs.flatMap F) hs.keeps hkeep hΦ
    (λb hb=>hb.elim .inl λ⟨k,hk,hbk⟩=>.inr (List.mem_append_right _ (List.mem_flatMap.2 ⟨k,hk,hbk⟩))) (λ_ _ _=>by simp)
    (λb hb hn=>by
     by_cases hbw:b<w.heap.size
     ·exact .inl ⟨hbw,hn hbw⟩
     ·exact .inr (List.mem_append_left _ ((oJ hkeep.size b).2 ⟨oM,hb⟩)))
    (λb hb=>by
     rcases List.mem_append.1 hb with hb|hb
     ·exact hup b (.inl (Nat.le_trans hs.keeps.size ((oJ hkeep.size b).1 hb).1))
     ·obtain⟨k,hk,hbk⟩:=List.mem_flatMap.1 hb
      obtain⟨Φ',hk'⟩:=hobj k hk
      exact (hs.ent k _ hk').1.1.1 b hbk)
   refine⟨rfl,bo E (8*κ) (dD cs),bo F (8*κ) (List.range' w.heap.size (w'.heap.size-w.heap.size)++(mR G W bs h p.kinds args).cs.flatMap F),λk hk' => al _ _ λe=>hk' (by subst e;omega),?_,?_⟩
   ·simp only[vB];rw[sh.g,ah];rfl
   ·simp only[vB];have hne:∀ j x,h j=some x->j≠8*κ:=λj x hj e=>hK8 (e ▸ (hK j x hj).1)
    refine hs.mg hK (mR G W bs h p.kinds args).cs (bo (λ_=>none) (8*κ) (some (.obj [] (gk G W bs Φ)))) (λj hj=>?_) (λj hj=>al _ _ λe=>hK8 (e ▸ hj)) (λj e he=>?_) (λi j e e' hij hi hj b hb=>?_) (λj x hx hj=>al _ _ (hne j x hx)) (λj=>?_) (hkeep.mono λb hb=>by cases hb)
    ·obtain⟨Φ',hj'⟩:=hobj j hj;exact⟨_,hj'⟩
    ·by_cases hj:j=8*κ
     ·subst hj;simp only[ah,Option.some.injEq]at he;subst he;rw[ah,ah];refine⟨⟨⟨hR w' λ_ _=>rfl,rfl⟩,hR⟩,λb hb=>?_,λb hb=>?_⟩
      ·rcases List.mem_append.1 hb with hb|hb
       ·exact .inr ((oJ hkeep.size b).1 hb).1
       ·obtain⟨k,hk,hbk⟩:=List.mem_flatMap.1 hb;exact .inl ⟨k,hk,hbk⟩
      ·rcases List.mem_append.1 hb with hb|hb
       ·exact ((oJ hkeep.size b).1 hb).2
       ·obtain⟨k,hk,hbk⟩:=List.mem_flatMap.1 hb;obtain⟨Φ',hk'⟩:=hobj k hk;exact Nat.lt_of_lt_of_le (hs.lt k _ hk' b hbk) hkeep.size
     ·rw[al _ _ hj]at he;cases he
    ·by_cases hi' : i=8*κ
     ·by_cases hj' : j=8*κ
      ·exact absurd (hi'.trans hj'.symm) hij
      ·rw[al _ _ hj']at hj;cases hj
     ·rw[al _ _ hi']at hi;cases hi
    ·rw[b8];simp only[a8];by_cases hj:j=8*κ
     ·subst hj;simp[ah]
     ·rw[al _ _ hj,al _ _ hj,kn]
 keys:=λW bs κ h K args hK hx hside=>by
  revert hside;unfold Bj;cases hout:p.out (mR G W bs h p.kinds args).as_ with
  |val v=>exact λ_=>aQ.plain (λk hk=>by cases hk) rfl
  |pan c v=>exact λ_=>aQ.plain (λk hk=>by cases hk) rfl
  | fact sh Φ=>
   rintro⟨⟨h1,h2⟩,hup⟩;refine⟨λk hk=>.inr (by rw[sh.k _ k hk];omega),λq hq=>?_⟩;simp only[vB,List.mem_append,List.mem_singleton,dO,List.mem_map]at hq;rcases hq with ⟨j,hj,rfl⟩|rfl
   ·obtain⟨Φ',hj'⟩:=py h1 j hj;exact⟨.inl (hK j _ hj').1,λe he=>by cases he⟩
   ·refine⟨.inr (by simp only;omega),λe he k hk=>?_⟩;simp only[Option.some.injEq]at he;subst he;cases hk
 loc:=λW bs κ h h' args hside hr=>by
  have hp:(mR G W bs h p.kinds args).p:=by
   revert hside;unfold Bj;cases p.out (mR G W bs h p.kinds args).as_ with
   |val v=>exact λh=>h.1
   |pan c v=>exact λh=>h.1
   |fact sh Φ=>exact λh=>h.1.1
  have hr' : ∀ k∈(mR G W bs h p.kinds args).rs,h' k=h k:=by
   revert hr;unfold Bj;cases p.out (mR G W bs h p.kinds args).as_<;>exact λh=>h
  rw[Au hp hr']
theorem cK{P:Program}{f:FuncId}(p:lQ P f)(G:Nat->Prop)(W:World)(bs:List Nat)(κ:Nat)(h:Hp)(l:List SV):(p.spec G).ev W bs κ h l=Bj G κ W bs p.pre p.out (mR G W bs h p.kinds l):=rfl
end
section
open Go.RowKit
inductive GOut where
 |ret (v:Value) (fs:List AV)
 |fact (sh:Sh) (Φ:FK) (fs:List AV)
 |pan (c:List PanicEntry) (v:Value)
def vC(w:World)(S:Nat->Prop)(u:Value)(fp:List Nat)(T:TypeId)(e:Ending)(w' : World):GOut->Prop
 |.ret v fs=>e=.returned v/\(∃ fp',aW w' u fp' T fs/\(∀ b∈fp',b∈fp\/w.heap.size<=b)/\∀ b∈fp',b<w'.heap.size)/\an w fp w'
 |.fact sh Φ fs=>∃ cs,e=.returned (sh.val cs)/\(∃ fp',aW w' u fp' T fs/\(∀ b∈fp',b∈fp\/w.heap.size<=b)/\(∀ b∈fp',b<w'.heap.size)/\Φ.Φ cs w' (λb=>(b<w.heap.size->S b\/b∈fp)/\b∉fp'))/\an w fp w'
 |.pan c _=>e=.panicked c/\an w fp w'
structure u5 (P:Program)(f:FuncId) where
 T:TypeId
 kinds:List Kd
 pre:List AV->List AV->World->(Nat->Prop)->Prop
 premono:∀ fs as_ W S W' S',aY W S W' S' -> pre fs as_ W S->pre fs as_ W' S'
 out:List AV->List AV->GOut
 enters:∀ args w,(callFunc f args).run P w=.ok (.enter f args) w
 ok:∀ (w:World) (S:Nat->Prop) (u:Value) (fp:List Nat) (us:List Value) (fs as_:List AV),aW w u fp T fs->(∀ b∈fp,b<w.heap.size)->(∀ b∈fp,¬ S b)->Bm w S kinds us as_->pre fs as_ w S ->
  Calls P f (u::us).toArray w λe w' => vC w S u fp T e w' (out fs as_)
def rD(G:Nat->Prop)(κ k:Nat)(T:TypeId)(W:World)(bs:List Nat)(q:Prop)(rs rs' cs:List Nat):GOut->R
 |.ret v fs=>⟨q/\(k::rs).Nodup/\(∀ j∈rs',j∉k::rs)/\fs.length<=7,.v v,dO rs++(cI (bg (8*κ) fs)++[(k,some (.cells T (aO (8*κ) fs)))]),none,[],k::(rs++rs')⟩
 | .fact sh Φ fs=>⟨q/\(k::rs).Nodup/\(∀ j∈rs',j∉k::rs)/\fs.length<=7/\Up G W bs,sh.tm (8*κ+7),
   dO (rs++cs)++(cI (bg (8*κ) fs)++[(k,some (.cells T (aO (8*κ) fs))),(8*κ+7,some (.obj [] (gk G W bs Φ)))]),none,[],k::(rs++rs')⟩
 |.pan c v=>⟨q/\(k::rs).Nodup/\(∀ j∈rs',j∉k::rs),.v v,[],some c,k::rs,k::(rs++rs')⟩
def BD(G:Nat->Prop)(κ k:Nat)(T T' : TypeId)(W:World)(bs:List Nat)(pre:List AV->List AV->World->(Nat->Prop)->Prop)(out:List AV->List AV->GOut)(g:GVL):Option (List AV×List Nat)->R
 |some (fs,rs)=>rD G κ k T W bs (T' = T/\g.p/\pre fs g.as_ W (bF G bs)) rs g.rs g.cs (out fs g.as_)
 |none=>.bad
def BE(G:Nat->Prop)(h:Hp)(κ k:Nat)(T:TypeId)(W:World)(bs:List Nat)(pre:List AV->List AV->World->(Nat->Prop)->Prop)(out:List AV->List AV->GOut)(g:GVL):Option aX->R
 |some (.cells T' vs)=>BD G κ k T T' W bs pre out g (aB h vs)
 |_=>.bad
def Fk(G:Nat->Prop)(h:Hp)(κ:Nat)(T:TypeId)(W:World)(bs:List Nat)(kinds:List Kd)(pre:List AV->List AV->World->(Nat->Prop)->Prop)(out:List AV->List AV->GOut):List SV->R
 |.own k 0::rest=>BE G h κ k T W bs pre out (mR G W bs h kinds rest) (h k)
 |_=>.bad
section
variable {P:Program}{W:World}{bs:List Nat}{κ:Nat}{E:Nat->Value}{F:Nat->List Nat}{h:Nat->Option aX}{w:World}{K:Nat->Prop}{G:Nat->Prop}
theorem UT{w' : World}{k:Nat}{T:TypeId}{vs:List SV}{fs fs' : List AV}{rs fp' ks' fpn:List Nat}{cs:List Value}{R:List Value->Value->List Nat->World->Prop}(hs:aj W bs E F h w)(hK:bN K h)(hk:∀ k,k / 8=κ->¬ K k)
  (hkk:h k=some (.cells T vs)) (hv:aB h vs=some (fs,rs)) (hlen:fs'.length<=7) (hn:(k::rs).Nodup) (hks:∀ j∈ks',∃ d R,h j=some (.obj d R))
  (ho:aW w' (E k) fp' T fs') (h1:∀ b∈fp',b∈(k::rs).flatMap F\/w.heap.size<=b) (h2:∀ b∈fp',b<w'.heap.size)
  (hfn:∀ b∈fpn,b∉fp' /\ b<w'.heap.size/\((∃ j∈k::(rs++ks'),b∈F j)\/w.heap.size<=b)) (hR:∀ w3:World,(∀ b∈fpn,w3.heap[b]?=w'.heap[b]?)->R [] (dD cs) fpn w3)
  (hkeep:an w ((k::rs).flatMap F) w') :
  ∃ E' F',(∀ j,j / 8≠κ->E' j=E j)/\E' (8*κ+7)=dD cs/\aj W bs E' F' (a8 h (dO (rs++ks')++(cI (bg (8*κ) fs')++[(k,some (.cells T (aO (8*κ) fs'))),(8*κ+7,some (.obj [] R))]))) w' := by
 obtain⟨b,us,hu,hb,hus,rfl,hnd⟩:=ho;have hl:=jW hus;have hKk:K k:=(hK k _ hkk).1;have hfr:∀ j,8*κ<=j->j<8*κ+8->¬ K j:=λj g1 g2=>hk j oM
 have hk7:k≠8*κ+7:=λe=>hfr k oM oM hKk
 have hkf:k<8*κ\/8*κ+8<=k:=by
  by_cases g1:k<8*κ
  ·exact .inl g1
  ·by_cases g2:8*κ+8<=k
   ·exact .inr g2
   ·exact absurd hKk (hfr k oM oM)
 have hE:∀ j,j / 8≠κ->bo (gG (8*κ) us E) (8*κ+7) (dD cs) j=E j:=λj hj=>by
  rw[al _ _ oM];exact mH oM
 have hsome:∀ p∈cI (bg (8*κ) fs')++[(k,some (.cells T (aO (8*κ) fs'))),(8*κ+7,some (.obj [] R))],∃ e,p.2=some e:=λp hp=>by
  rcases List.mem_append.1 hp with hp|hp
  ·obtain⟨e,he,_⟩:=fP.1 hp;exact⟨e,by rw[he]⟩
  ·simp at hp;rcases hp with rfl|rfl
   ·exact⟨_,rfl⟩
   ·exact⟨_,rfl⟩
 have hrow7:∀ j e,(j,e)∈bg (8*κ) fs' -> j≠8*κ+7:=λj e hm=>by
  have:=dQ _ hm;simp only at this;omega
 have hNm:∀ j e,a8 (λ_=>none) (cI (bg (8*κ) fs')++[(k,some (.cells T (aO (8*κ) fs'))),(8*κ+7,some (.obj [] R))]) j=some e ->
   (j=k/\e=.cells T (aO (8*κ) fs'))\/(j=8*κ+7/\e=.obj [] R)\/(j≠k/\j≠8*κ+7/\(j,e)∈bg (8*κ) fs'):=λj e he=>by
  rw[b8]at he;simp only[a8]at he;by_cases hj7:j=8*κ+7
  ·subst hj7;rw[ah]at he;cases he;exact .inr (.inl ⟨rfl,rfl⟩)
  ·rw[al _ _ hj7]at he;by_cases hj:j=k
   ·subst hj;rw[ah]at he;cases he;exact .inl ⟨rfl,rfl⟩
   ·rw[al _ _ hj]at he;rcases kT (λ_=>(none:Option aX)) (k:=j) (u:=cI (bg (8*κ) fs')) with ⟨x,hx,hx'⟩|⟨_,hx'⟩
    ·rw[hx']at he;subst he;obtain⟨e',h3,h4⟩:=fP.1 hx;simp only[Prod.mk.injEq,true_and,Option.some.injEq]at h3;subst h3;exact .inr (.inr ⟨hj,hj7,h4⟩)
    ·rw[hx']at he;cases he
 have hNk:a8 (λ_=>none) (cI (bg (8*κ) fs')++[(k,some (.cells T (aO (8*κ) fs'))),(8*κ+7,some (.obj [] R))]) k=some (.cells T (aO (8*κ) fs')):=by
  rw[b8];simp only[a8];rw[al _ _ hk7,ah]
 have hN7:a8 (λ_=>none) (cI (bg (8*κ) fs')++[(k,some (.cells T (aO (8*κ) fs'))),(8*κ+7,some (.obj [] R))]) (8*κ+7)=some (.obj [] R):=by
  rw[b8];simp[a8,ah]
 have hb' : b∉z6 us fs' := (List.nodup_cons.1 hnd).1;have hnd' : (z6 us fs').Nodup:=(List.nodup_cons.1 hnd).2;have own:∀ j∈k::(rs++ks'),∃ e,h j=some e:=λj hj=>by
  rcases List.mem_cons.1 hj with rfl|hj
  ·exact⟨_,hkk⟩
  ·rcases List.mem_append.1 hj with hj|hj
   ·exact (cu hs hv).2 j hj
   ·obtain⟨d,R',h'⟩:=hks j hj;exact⟨_,h'⟩
 refine⟨bo (gG (8*κ) us E) (8*κ+7) (dD cs),bo (bo (iE (8*κ) us fs' F) k [b]) (8*κ+7) fpn,hE,by rw[ah],?_⟩
 refine hs.mg hK (k::(rs++ks')) (a8 (λ_=>none) (cI (bg (8*κ) fs')++[(k,some (.cells T (aO (8*κ) fs'))),(8*κ+7,some (.obj [] R))])) own (λj hj=>hE j λe=>hk j e hj) (λj e he=>?_) (λi j e e' hij hi hj c hc=>?_) (λj x hx hj=>?_) (λj=>?_) ?_
 ·rcases hNm j e he with ⟨rfl,rfl⟩|⟨rfl,rfl⟩|⟨hjk,hj7,hm⟩
  ·rw[al _ _ hk7,al _ _ hk7,ah,mH oM];refine⟨⟨b,hu,rfl,?_⟩,λc hc=>?_,λc hc=>h2 c (by simp at hc;simp[hc])⟩
   ·rw[bC (E' := gG (8*κ) us E) _ λi hi=>al _ _ (by have:=ct i hi;omega),gj hus];exact hb
   ·simp only[List.mem_singleton]at hc;subst hc;rcases h1 c sI with g|g
    ·obtain⟨i,hi,hci⟩:=List.mem_flatMap.1 g
     exact .inl ⟨i, by rcases List.mem_cons.1 hi with hi|hi
                       ·exact List.mem_cons.2 (.inl hi)
                       ·exact List.mem_cons.2 (.inr (List.mem_append_left _ hi)),hci⟩
    ·exact .inr g
  ·rw[ah,ah];refine⟨⟨⟨hR w' λ_ _=>rfl,rfl⟩,hR⟩,λc hc=>(hfn c hc).2.2,λc hc=>(hfn c hc).2.1⟩
  ·rw[al _ _ hj7,al _ _ hj7,al _ _ hjk];obtain⟨g1,g2⟩:=jc (E:=E) (F:=F) hus hm (gG (8*κ) us E);refine⟨gN (λi hi=>?_) g1,λc hc=>?_,λc hc=>h2 c (List.mem_cons_of_mem _ (g2 c hc))⟩
   ·rw[(dQ _ hm).2.2]at hi;cases hi
   ·rcases h1 c (List.mem_cons_of_mem _ (g2 c hc)) with g|g
    ·obtain⟨i,hi,hci⟩:=List.mem_flatMap.1 g
     exact .inl ⟨i, by rcases List.mem_cons.1 hi with hi|hi
                       ·exact List.mem_cons.2 (.inl hi)
                       ·exact List.mem_cons.2 (.inr (List.mem_append_left _ hi)),hci⟩
    ·exact .inr g
 ·have hrowfp:∀ i e,i≠k->i≠8*κ+7->(i,e)∈bg (8*κ) fs' -> ∀ c∈bo (bo (iE (8*κ) us fs' F) k [b]) (8*κ+7) fpn i,c∈z6 us fs' := λi e g1 g2 hm c hc=>by
   rw[al _ _ g2,al _ _ g1]at hc;exact cG hl hm c hc
  rcases hNm i e hi with ⟨rfl,rfl⟩|⟨rfl,rfl⟩|⟨hik,hi7,hmi⟩
  ·rw[al _ _ hk7,ah]at hc;simp only[List.mem_singleton]at hc;subst hc;rcases hNm j e' hj with ⟨rfl,rfl⟩|⟨rfl,rfl⟩|⟨hjk,hj7,hmj⟩
   ·exact absurd rfl hij
   ·rw[ah];exact λhc' => (hfn c hc').1 sI
   ·exact λhc' => hb' (hrowfp j e' hjk hj7 hmj c hc')
  ·rw[ah]at hc;have hc1:=(hfn c hc).1;rcases hNm j e' hj with ⟨rfl,rfl⟩|⟨rfl,rfl⟩|⟨hjk,hj7,hmj⟩
   ·rw[al _ _ hk7,ah];exact λhc' => hc1 (by simp at hc';simp[hc'])
   ·exact absurd rfl hij
   ·exact λhc' => hc1 (List.mem_cons_of_mem _ (hrowfp j e' hjk hj7 hmj c hc'))
  ·rcases hNm j e' hj with ⟨rfl,rfl⟩|⟨rfl,rfl⟩|⟨hjk,hj7,hmj⟩
   ·have:=hrowfp i e hik hi7 hmi c hc;rw[al _ _ hk7,ah];intro hc';simp only[List.mem_singleton]at hc';subst hc';exact hb' this
   ·have:=hrowfp i e hik hi7 hmi c hc;rw[ah];exact λhc' => (hfn c hc').1 (List.mem_cons_of_mem _ this)
   ·rw[al _ _ hi7,al _ _ hik]at hc;rw[al _ _ hj7,al _ _ hjk];exact jb hnd' hmi hmj hl hij c hc
 ·have hjk:j≠k:=λe=>by rw[e,hNk]at hj;cases hj
  have hj7:j≠8*κ+7:=λe=>by rw[e,hN7]at hj;cases hj
  rw[al _ _ hj7,al _ _ hjk];have hKj:=(hK j x hx).1;by_cases g1:j<8*κ
  ·exact km (.inl g1)
  ·by_cases g2:8*κ+8<=j
   ·exact km (.inr oM)
   ·exact absurd hKj (hfr j oM oM)
 ·rw[b8,ko _ _ _ hsome,kn];cases hN:a8 (λ_=>none) (cI (bg (8*κ) fs')++[(k,some (.cells T (aO (8*κ) fs'))),(8*κ+7,some (.obj [] R))]) j with
  |some e=>rfl
  |none=>
   have hjk:j≠k:=λe=>by rw[e,hNk]at hN;cases hN
   simp[hjk]
 ·refine hkeep.mono λc hc=>?_
  obtain⟨i,hi,hci⟩:=List.mem_flatMap.1 hc;refine List.mem_flatMap.2 ⟨i,?_,hci⟩;rcases List.mem_cons.1 hi with hi|hi
  ·exact List.mem_cons.2 (.inl hi)
  ·exact List.mem_cons.2 (.inr (List.mem_append_left _ hi))
end
def u5.spec{P:Program}{f:FuncId}(p:u5 P f)(G:Nat->Prop):Spec P f where
 ev:=λW bs κ h args=>Fk G h κ p.T W bs p.kinds p.pre p.out args
 good:=λW bs κ E F h w K args hs hK hk hx hside=>by
  rw[p.enters];revert hside;unfold Fk;split
  ·rename_i k rest;generalize hg:mR G W bs h p.kinds rest=g;cases hkk:h k with
   |none=>exact λhf=>hf.elim
   | some e=>
    cases e with
    |row T s n vs=>exact λhf=>hf.elim
    |mp ks vs=>exact λhf=>hf.elim
    |obj d R=>exact λhf=>hf.elim
    | cells T' vs=>
     simp only[BE];cases hv:aB h vs with
     |none=>exact λhf=>hf.elim
     | some q=>
      obtain⟨fs,rs⟩:=q;simp only[BD];have hent:=hs.ent k _ hkk;obtain⟨b,hu,_,_⟩:=hent;have hden:den E (.own k 0)=E k:=by simp[den,hu,base,dj]
      have hobj:g.p->∀ j∈g.cs,∃ Φ,h j=some (.obj [] (gk G W bs Φ)):=λhp=>by rw[<- hg]at hp ⊢;exact py hp
      have hown:∀ j∈k::rs,∃ e,h j=some e/\∀ d R,e≠.obj d R:=λj hj=>by
       rcases List.mem_cons.1 hj with rfl|hj
       ·exact⟨_,hkk,λ_ _ e=>by cases e⟩
       ·exact iR hv j hj
      have fR:∀ c∈(k::rs).flatMap F,(∃ j∈k::rs,c∈F j)/\c<w.heap.size/\(W.heap.size<=c\/c∈bs):=λc hc=>by
       obtain⟨j,hj,hcj⟩:=List.mem_flatMap.1 hc;obtain⟨e,he,_⟩:=hown j hj;exact⟨⟨j,hj,hcj⟩,hs.lt j e he c hcj,hs.mine j e he c hcj⟩
      have hS0:∀ b,b<W.heap.size->bF G bs b->b∉(k::rs).flatMap F:=λb h1 h2 hb=>(fR b hb).2.2.elim (λg=>absurd g (Nat.not_le.2 h1)) h2.2
      have hS:∀ b,b<W.heap.size->bF G bs b->(b<W.heap.size/\bF G bs b)\/∃ j∈g.cs,b∈F j:=λb h1 h2=>.inl ⟨h1,h2⟩
      have hSf:g.p->∀ b∈(k::rs).flatMap F,¬ ((b<W.heap.size/\bF G bs b)\/∃ j∈g.cs,b∈F j):=λhp b hb hS=>by
       rcases hS with ⟨h1,h2⟩|⟨j,hj,hbj⟩
       ·exact hS0 b h1 h2 hb
       ·obtain⟨Φ,hj'⟩:=hobj hp j hj;obtain⟨i,hi,hbi⟩:=(fR b hb).1;obtain⟨e,he,hne⟩:=hown i hi;refine hs.apart i j e _ (λhij=>?_) he hj' b hbi hbj;rw[hij,hj']at he;exact hne _ _ (Option.some.inj he).symm
      have call:∀ hn:(k::rs).Nodup,T' = p.T->g.p->p.pre fs g.as_ W (bF G bs)->Calls P f (ai E (.own k 0::rest)).toArray w λe w' => vC w (λb=>(b<W.heap.size/\bF G bs b)\/∃ j∈g.cs,b∈F j) (E k) ((k::rs).flatMap F) p.T e w' (p.out fs g.as_):=λhn hT hp hpre=>by
       subst hT;have ho:=iY hs hkk hv hn;have hgs:=Av hs hS (kds:=p.kinds) (l:=rest) (by rw[hg];exact hp) (by rw[hg];exact λj hj b hb=>.inr ⟨j,hj,hb⟩);rw[hg]at hgs;have:=p.ok w _ (E k) _ (ai E rest) fs g.as_ ho (λc hc=>(fR c hc).2.1) (hSf hp) hgs (p.premono _ _ _ _ _ _ (Om hs.keeps hS) hpre)
       simpa only[ai,hden] using this
      cases hout:p.out fs g.as_ with
      |ret v fs' =>
       simp only[rD];rintro⟨⟨hT,hp,hpre⟩,hn,hd,hlen⟩;have hc:=call hn hT hp hpre;rw[hout]at hc;subst hT;refine hc.mono λe w' he=>?_
       obtain⟨rfl,⟨fp',ho,h1,h2⟩,hkeep⟩:=he;obtain⟨E',F',hE',hs'⟩:=rf hs hK hk hkk hv oM hn ho h1 h2 hkeep;exact⟨rfl,E',F',hE',rfl,hs'⟩
      | fact sh Φ fs' =>
       simp only[rD];rintro⟨⟨hT,hp,hpre⟩,hn,hd,hlen,hup⟩;have hc:=call hn hT hp hpre;rw[hout]at hc;subst hT;refine hc.mono λe w' he=>?_
       obtain⟨cs,rfl,⟨fp',ho,h1,h2,hΦ⟩,hkeep⟩:=he;have hfn:∀ b,b∈(List.range' w.heap.size (w'.heap.size-w.heap.size)++(k::(rs++g.cs)).flatMap F).filter (·∉fp') ↔ ((w.heap.size<=b/\b<w'.heap.size)\/∃ j∈k::(rs++g.cs),b∈F j)/\b∉fp' := λb=>by
        simp only[List.mem_filter,List.mem_append,oJ hkeep.size b,List.mem_flatMap,decide_eq_true_eq]
       have hown' : ∀ j∈k::(rs++g.cs),∃ e,h j=some e:=λj hj=>by
        rcases List.mem_cons.1 hj with rfl|hj
        ·exact⟨_,hkk⟩
        ·rcases List.mem_append.1 hj with hj|hj
         ·obtain⟨e,he,_⟩:=hown j (List.mem_cons_of_mem _ hj);exact⟨e,he⟩
         ·obtain⟨Φ',h'⟩:=hobj hp j hj;exact⟨_,h'⟩
       have hsub:∀ j∈k::rs,j∈k::(rs++g.cs):=λj hj=>by
        rcases List.mem_cons.1 hj with hj|hj
        ·exact List.mem_cons.2 (.inl hj)
        ·exact List.mem_cons.2 (.inr (List.mem_append_left _ hj))
       have hR:=xV (G:=G) (fp:=(List.range' w.heap.size (w'.heap.size-w.heap.size)++(k::(rs++g.cs)).flatMap F).filter (·∉fp')) (S:=λb=>((b<W.heap.size/\bF G bs b)\/∃ j∈g.cs,b∈F j)/\b∉fp') hs.keeps hkeep hΦ
        (λb hb=>hb.1.elim .inl λ⟨j,hj,hbj⟩=>.inr ((hfn b).2 ⟨.inr ⟨j,List.mem_cons.2 (.inr (List.mem_append_right _ hj)),hbj⟩,hb.2⟩)) hS0
        (λb hb hn=>by
         by_cases hbw:b<w.heap.size
         ·rcases hn.1 hbw with h3|h3
          ·exact .inl ⟨hbw,h3,hn.2⟩
          ·obtain⟨j,hj,hbj⟩:=(fR b h3).1
           exact .inr ((hfn b).2 ⟨.inr ⟨j,hsub j hj,hbj⟩,hn.2⟩)
         ·exact .inr ((hfn b).2 ⟨.inl ⟨oM,hb⟩,hn.2⟩))
        (λb hb=>by
         rcases ((hfn b).1 hb).1 with h3|⟨j,hj,hbj⟩
         ·exact hup b (.inl (Nat.le_trans hs.keeps.size h3.1))
         ·obtain⟨e,he⟩:=hown' j hj
          exact hup b (hs.mine j e he b hbj))
       obtain⟨E',F',hE',hE7,hs'⟩:=UT (ks' := g.cs) (R:=gk G W bs Φ) (cs:=cs) hs hK hk hkk hv hlen hn (λj hj=>by obtain⟨Φ',h'⟩:=hobj hp j hj;exact⟨_,_,h'⟩) ho h1 h2
        (λb hb=>by
         obtain⟨h3,h4⟩:=(hfn b).1 hb
         refine⟨h4,?_,h3.elim (λh=>.inr h.1) .inl⟩
         rcases h3 with h3|⟨j,hj,hbj⟩
         ·exact h3.2
         ·obtain⟨e,he⟩:=hown' j hj
          exact Nat.lt_of_lt_of_le (hs.lt j e he b hbj) hkeep.size) hR hkeep
       refine⟨rfl,E',F',hE',?_,hs'⟩;rw[sh.g,hE7];rfl
      |pan c _=>
       simp only[rD];rintro⟨⟨hT,hp,hpre⟩,hn,hd⟩;have hc:=call hn hT hp hpre;rw[hout]at hc;refine hc.mono λe w' he=>?_
       obtain⟨rfl,hkeep⟩:=he;refine⟨rfl,F,?_⟩;refine hs.mg hK (k::rs) (λ_=>none) (λj hj=>?_) (λ_ _=>rfl) (λj e he=>by cases he) (λi j e e' _ he=>by cases he) (λ_ _ _ _=>rfl) (λj=>?_) hkeep
       ·obtain⟨e,he,_⟩:=hown j hj;exact⟨e,he⟩
       ·simp only[dropKeys]
  ·exact λhf=>hf.elim
 keys:=λW bs κ h K args hK hx hside=>by
  revert hside;unfold Fk;split
  ·rename_i k rest;generalize hg:mR G W bs h p.kinds rest=g;cases hkk:h k with
   |none=>exact λhf=>hf.elim
   | some e=>
    cases e with
    |row T s n vs=>exact λhf=>hf.elim
    |mp ks vs=>exact λhf=>hf.elim
    |obj d R=>exact λhf=>hf.elim
    | cells T' vs=>
     simp only[BE];cases hv:aB h vs with
     |none=>exact λhf=>hf.elim
     | some q=>
      obtain⟨fs,rs⟩:=q;simp only[BD];have hobj:g.p->∀ j∈g.cs,∃ Φ,h j=some (.obj [] (gk G W bs Φ)):=λhp=>by rw[<- hg]at hp ⊢;exact py hp
      have row:∀ fs' : List AV,fs'.length<=7->∀ q∈cI (bg (8*κ) fs'),(K q.1\/q.1 / 8=κ)/\∀ e,q.2=some e->∀ j∈e.keys,K j\/j / 8=κ:=λfs' hlen q hq=>by
       obtain⟨e,h1,h2⟩:=fP.1 hq;obtain⟨h3,h4⟩:=AD oM h2;refine⟨.inr h3,λe' he' j hj=>?_⟩;rw[h1]at he';simp only[Option.some.injEq]at he';subst he';rw[h4]at hj;cases hj
      have cel:∀ fs' : List AV,fs'.length<=7->(K k\/k / 8=κ)/\∀ e,some (aX.cells p.T (aO (8*κ) fs'))=some e->∀ j∈e.keys,K j\/j / 8=κ:=λfs' hlen=>by
       refine⟨.inl (hK k _ hkk).1,λe' he' j hj=>.inr ?_⟩;simp only[Option.some.injEq]at he';subst he';have:=ct j hj;omega
      cases hout:p.out fs g.as_ with
      | ret v fs' =>
       simp only[rD];rintro⟨_,hn,hd,hlen⟩;refine⟨λj hj=>(by cases hj),λq hq=>?_⟩;simp only[List.mem_append,List.mem_singleton]at hq;rcases hq with hq|hq|rfl
       ·simp only[dO,List.mem_map]at hq;obtain⟨j,hj,rfl⟩:=hq;exact⟨.inl (xk hK hv j hj),λe he=>by cases he⟩
       ·exact row fs' hlen q hq
       ·exact cel fs' hlen
      | fact sh Φ fs' =>
       simp only[rD];rintro⟨⟨_,hp,_⟩,hn,hd,hlen,hup⟩;refine⟨λj hj=>.inr (by rw[sh.k _ j hj];omega),λq hq=>?_⟩;simp only[List.mem_append,List.mem_cons,List.not_mem_nil,or_false]at hq;rcases hq with hq|hq|rfl|rfl
       ·simp only[dO,List.mem_map,List.mem_append]at hq;obtain⟨j,hj,rfl⟩:=hq;rcases hj with hj|hj
        ·exact⟨.inl (xk hK hv j hj),λe he=>by cases he⟩
        ·obtain⟨Φ',h'⟩:=hobj hp j hj;exact⟨.inl (hK j _ h').1,λe he=>by cases he⟩
       ·exact row fs' hlen q hq
       ·exact cel fs' hlen
       ·refine⟨.inr (by simp only;omega),λe he k hk=>?_⟩;simp only[Option.some.injEq]at he;subst he;cases hk
      |pan c _=>
       simp only[rD];rintro _;exact⟨λj hj=>(by cases hj),λq hq=>by cases hq⟩
  ·exact λhf=>hf.elim
 loc:=λW bs κ h h' args hside hr=>by
  revert hside hr;unfold Fk;split
  ·rename_i k rest;generalize hg:mR G W bs h p.kinds rest=g;cases hkk:h k with
   |none=>exact λhf=>hf.elim
   | some e=>
    cases e with
    |row T s n vs=>exact λhf=>hf.elim
    |mp ks vs=>exact λhf=>hf.elim
    |obj d R=>exact λhf=>hf.elim
    | cells T' vs=>
     simp only[BE];cases hv:aB h vs with
     |none=>exact λhf=>hf.elim
     | some q=>
      obtain⟨fs,rs⟩:=q;simp only[BD];intro hside hr;have hp:g.p:=by
       revert hside;cases p.out fs g.as_<;>exact λh=>h.1.2.1
      have hr' : ∀ j∈k::(rs++g.rs),h' j=h j:=by
       revert hr;cases p.out fs g.as_<;>exact λh=>h
      have e1:h' k=some (.cells T' vs):=by rw[hr' k sI,hkk]
      have e2:mR G W bs h' p.kinds rest=g:=by
       rw[<- hg];exact Au (by rw[hg];exact hp) (by rw[hg];exact λj hj=>hr' j (by simp[hj]))
      have e3:aB h' vs=some (fs,rs):=cP hv λj hj=>hr' j (by simp[hj])
      rw[e1,e2];simp only[BE,e3,BD]
  ·exact λhf=>hf.elim
theorem e8{P:Program}{f:FuncId}(p:u5 P f)(G:Nat->Prop)(W:World)(bs:List Nat)(κ:Nat)(h:Hp)(l:List SV):(p.spec G).ev W bs κ h l=Fk G h κ p.T W bs p.kinds p.pre p.out l:=rfl
def aE(w:World)(S:Nat->Prop):Nat->Prop:=λb=>b<w.heap.size->S b
def af(w:World)(S:Nat->Prop)(fp:List Nat):Nat->Prop:=λb=>b<w.heap.size->S b\/b∈fp
theorem aE.up(w:World)(S:Nat->Prop):Up (aE w S) w []:=λb hb hlt=>by
 rcases hb with hb|hb
 ·omega
 ·cases hb
theorem af.up(w:World)(S:Nat->Prop)(fp:List Nat):Up (af w S fp) w fp:=λb hb hlt=>by
 rcases hb with hb|hb
 ·omega
 ·exact .inr hb
theorem aE.eQ(w:World)(S:Nat->Prop):aY w S w (bF (aE w S) []):=λb hb hS=>⟨rfl,λ_=>hS,sI⟩
theorem af.eQ(w:World)(S:Nat->Prop)(fp:List Nat)(h:∀ b∈fp,¬ S b):aY w S w (bF (af w S fp) fp):=λb hb hS=>⟨rfl,λ_=>.inl hS,λhf=>h b hf hS⟩
def Gq(w:World)(S:Nat->Prop)(W' : World)(bs' : List Nat)(x:SV):FOut->Prop
 |.val v=>∀ E,den E x=v
 |.fact sh Φ=>∃ cs,(∀ E,den E x=sh.val cs)/\Φ.Φ cs W' (bF (aE w S) bs')
 |.pan _ _=>False
theorem eL{P:Program}{f:FuncId}{fn:Func}{c:Code}{args:Array Value}{w:World}{nt:Nat}{out:FOut}(S:Nat->Prop)(rs:List ResultVar)
  (hf:P.funcs[f]?=some fn) (hb:fn.body=some c) (hrs:fn.results.toList=rs) (hnt:args.size+(fn.ntmps-args.size)=nt)
  (h:Wp P w [] nt ⟨[],[]⟩ c (Fin P rs (λW' bs' x _=>Gq w S W' bs' x out) (λc _=>∃ v,out=.pan c v)) (σ0 args.toList)) :
  Calls P f args w λe w' => lh w S e w' out:=by
 subst hrs;refine (oz hf hb (tk args hnt) h).mono λe w' he=>?_
 cases e with
 | returned u=>
  obtain⟨W',bs',E,F,x,h,hx,hok,rfl,hs,_⟩:=he;cases out with
  |val v=>exact⟨by rw[hok E],hx.fF hs.keeps⟩
  |fact sh Φ=>
   obtain⟨cs,hd,hΦ⟩:=hok;exact⟨cs,by rw[hd E],Φ.mono (λb hb hr=>⟨hs.keeps.block b hb hr.2,hr.1⟩) hΦ,hx.fF hs.keeps⟩
  |pan c v=>exact hok.elim
 |panicked c=>
  obtain⟨W',bs',E,F,h',hx,⟨v,rfl⟩,hs,_⟩:=he;exact⟨rfl,hx.fF hs.keeps⟩
 |outgrown=>exact he.elim
def Ni(w:World)(S:Nat->Prop)(fp:List Nat)(T:TypeId)(W' : World)(bs' : List Nat)(x:SV)(h:Hp):GOut->Prop
 |.ret v fs' => (∀ E,den E x=v)/\∃ vs ks,h 0=some (.cells T vs)/\aB h vs=some (fs',ks)/\(0::ks).Nodup
 |.fact sh Φ fs' => (∃ cs,(∀ E,den E x=sh.val cs)/\Φ.Φ cs W' (bF (af w S fp) bs'))/\∃ vs ks,h 0=some (.cells T vs)/\aB h vs=some (fs',ks)/\(0::ks).Nodup
 |.pan _ _=>False
theorem dm{P:Program}{f:FuncId}{fn:Func}{c:Code}{w:World}{nt:Nat}{T:TypeId}{u:Value}{fp:List Nat}{fs:List AV}{out:GOut}(S:Nat->Prop)(us:Array Value)(rs:List ResultVar)
  (hlen:fs.length<=7) (ho:aW w u fp T fs) (hlt:∀ b∈fp,b<w.heap.size)
  (hf:P.funcs[f]?=some fn) (hb:fn.body=some c) (hrs:fn.results.toList=rs) (hnt:us.size+1+(fn.ntmps-(us.size+1))=nt)
  (h:Wp P w fp nt ⟨[],[(0,u)]⟩ c (Fin P rs (λW' bs' x h=>Ni w S fp T W' bs' x h out) (λc _=>∃ v,out=.pan c v)) (σB T fs us.toList)) :
  Calls P f (#[u]++us) w λe w' => vC w S u fp T e w' out:=by
 subst hrs;have hsat:=Cs (nt:=nt) (m:=fn.ntmps-(us.size+1)) us hlen ho hlt hnt;have hsz:(#[u]++us).size=us.size+1:=by simp;omega
 refine (oz hf hb (by rw[hsz];exact hsat) h).mono λe w' he=>?_
 cases e with
 | returned v' =>
  obtain⟨W',bs',E,F,x,h',hx,hok,rfl,hs,hp⟩:=he;have hs' := hs.back hx;have hE:E 0=u:=hp (0,u) sI
  have back:∀ {vs ks fs'},h' 0=some (.cells T vs)->aB h' vs=some (fs',ks)->(0::ks).Nodup->aW w' u ((0::ks).flatMap F) T fs' /\ (∀ b∈(0::ks).flatMap F,b∈fp\/w.heap.size<=b)/\(∀ b∈(0::ks).flatMap F,b<w'.heap.size)/\∀ b∈(0::ks).flatMap F,W'.heap.size<=b\/b∈bs' := λ{vs ks fs'} h0 hv hn=>by
   have ho' := iY hs' h0 hv hn;rw[hE]at ho';have own:∀ b∈(0::ks).flatMap F,∃ j e,h' j=some e/\b∈F j:=λb hb=>by
    obtain⟨j,hj,hbj⟩:=List.mem_flatMap.1 hb;rcases List.mem_cons.1 hj with rfl|hj
    ·exact⟨_,_,h0,hbj⟩
    ·obtain⟨e,he⟩:=(cu hs' hv).2 j hj;exact⟨_,e,he,hbj⟩
   refine⟨ho',λb hb=>?_,λb hb=>?_,λb hb=>?_⟩
   ·obtain⟨j,e,he,hbj⟩:=own b hb;exact (hs'.mine j e he b hbj).symm
   ·obtain⟨j,e,he,hbj⟩:=own b hb;exact hs'.lt j e he b hbj
   ·obtain⟨j,e,he,hbj⟩:=own b hb;exact hs.mine j e he b hbj
  cases out with
  |ret v fs' =>
   obtain⟨hd,vs,ks,h0,hv,hn⟩:=hok;obtain⟨g1,g2,g3,_⟩:=back h0 hv hn;exact⟨by rw[hd E],⟨_,g1,g2,g3⟩,hs'.keeps⟩
  |fact sh Φ fs' =>
   obtain⟨⟨cs,hd,hΦ⟩,vs,ks,h0,hv,hn⟩:=hok;obtain⟨g1,g2,g3,g4⟩:=back h0 hv hn;exact⟨cs,by rw[hd E],⟨_,g1,g2,g3,Φ.mono (λb hb hr=>⟨hs.keeps.block b hb hr.2,hr.1,λhf=>(g4 b hf).elim (λg=>absurd g (Nat.not_le.2 hb)) hr.2⟩) hΦ⟩,hs'.keeps⟩
  |pan c v=>exact hok.elim
 |panicked c=>
  obtain⟨W',bs',E,F,h',hx,⟨_,rfl⟩,hs,hp⟩:=he;exact⟨rfl,(hs.back hx).keeps⟩
 |outgrown=>exact he.elim
section
variable (G:Nat->Prop)(W:World)(bs:List Nat)(h:Hp)(κ k:Nat)(T T' : TypeId)
theorem Yl(x:Value):cJ (.v x)=some x:=rfl
theorem NY(k o:Nat):cJ (.own k o)=none:=rfl
theorem TO(k:Nat):cJ (.hd k)=none:=rfl
theorem J6(k i:Nat):cJ (.part k i)=none:=rfl
theorem NW(l:List SV):cJ (.agg l)=(gX l).map λvs=>.agg vs.toArray:=rfl
theorem NX(t:TypeId)(x:SV):cJ (.nr t x)=(cJ x).map (.iface t):=rfl
theorem TN(f:Fn)(a c:List SV):cJ (.fn f a c)=func2 f (gX a) (gX c):=rfl
theorem NV:gX []=some []:=rfl
theorem J5(x:SV)(r:List SV):gX (x::r)=zu (cJ x) (gX r):=rfl
theorem NT(v:Value)(vs:List Value):zu (some v) (some vs)=some (v::vs):=rfl
theorem NS(o:Option (List Value)):zu none o=none:=rfl
theorem J4(v:Value):zu (some v) none=none:=rfl
theorem Oj(f:Fn)(a c:List Value):func2 f (some a) (some c)=some (.func f a.toArray c.toArray):=rfl
theorem Eo(k i:Nat):lW (.part k i)=some k:=rfl
theorem GR(k i:Nat)(r:List SV):lW (.agg (.part k i::r))=some k:=rfl
theorem aem:mR G W bs h [] []=⟨True,[],[],[]⟩:=rfl
theorem YS(kd:Kd)(ks:List Kd)(x:SV)(r:List SV):mR G W bs h (kd::ks) (x::r)=gvC (Ec G W bs h kd x) (mR G W bs h ks r):=rfl
theorem YQ(x:SV):Ec G W bs h none x=ajx (bM h x):=rfl
theorem YR(sh:Sh)(Φ:FK)(x:SV):Ec G W bs h (some (sh,Φ)) x=gvF G W bs h sh Φ x (cJ x) (lW x):=rfl
theorem Uq(a:AV)(r:List Nat):ajx (some (a,r))=⟨True,a,r,[]⟩:=rfl
theorem alx(sh:Sh)(Φ:FK)(x:SV)(v:Value)(o:Option Nat):gvF G W bs h sh Φ x (some v) o=⟨∃ cs,v=sh.val cs/\Φ.Φ cs W (bF G bs),.val undef,[],[]⟩:=rfl
theorem alw(sh:Sh)(Φ:FK)(x:SV)(k:Nat):gvF G W bs h sh Φ x none (some k)=gvO G W bs sh Φ x k (h k):=rfl
theorem aen(sh:Sh)(Φ:FK)(x:SV)(k:Nat)(d:List Value)(R:List Value->Value->List Nat->World->Prop):gvO G W bs sh Φ x k (some (.obj d R))=⟨x=sh.tm k/\d=[]/\R=gk G W bs Φ,.val undef,[k],[k]⟩:=rfl
theorem ajy(p q:Prop)(a:AV)(as_:List AV)(r rs c cs:List Nat):gvC ⟨p,a,r,c⟩ ⟨q,as_,rs,cs⟩=⟨p/\q,a::as_,r++rs,c++cs⟩:=rfl
theorem YK(pre:List AV->World->(Nat->Prop)->Prop)(out:List AV->FOut)(p:Prop)(as_:List AV)(rs cs:List Nat):Bj G κ W bs pre out ⟨p,as_,rs,cs⟩=vB G κ W bs (p/\pre as_ W (bF G bs)) rs cs (out as_):=rfl
theorem Ui(q:Prop)(rs cs:List Nat)(v:Value):vB G κ W bs q rs cs (.val v)=⟨q,.v v,[],none,[],rs⟩:=rfl
theorem Oi(q:Prop)(rs cs:List Nat)(sh:Sh)(Φ:FK):vB G κ W bs q rs cs (.fact sh Φ)=⟨q/\Up G W bs,sh.tm (8*κ),dO cs++[(8*κ,some (.obj [] (gk G W bs Φ)))],none,[],rs⟩:=rfl
theorem Uh(q:Prop)(rs cs:List Nat)(c:List PanicEntry)(v:Value):vB G κ W bs q rs cs (.pan c v)=⟨q,.v v,[],some c,[],rs⟩:=rfl
theorem UQ(kinds:List Kd)(pre:List AV->List AV->World->(Nat->Prop)->Prop)(out:List AV->List AV->GOut)(rest:List SV):Fk G h κ T W bs kinds pre out (.own k 0::rest)=BE G h κ k T W bs pre out (mR G W bs h kinds rest) (h k):=rfl
theorem KC(pre:List AV->List AV->World->(Nat->Prop)->Prop)(out:List AV->List AV->GOut)(g:GVL)(vs:List SV):BE G h κ k T W bs pre out g (some (.cells T' vs))=BD G κ k T T' W bs pre out g (aB h vs):=rfl
theorem Zk(pre:List AV->List AV->World->(Nat->Prop)->Prop)(out:List AV->List AV->GOut)(p:Prop)(as_ fs:List AV)(rs cs rs0:List Nat):BD G κ k T T' W bs pre out ⟨p,as_,rs,cs⟩ (some (fs,rs0))=rD G κ k T W bs (T' = T/\p/\pre fs as_ W (bF G bs)) rs0 rs cs (out fs as_):=rfl
theorem US(q:Prop)(rs rs' cs:List Nat)(v:Value)(fs:List AV):rD G κ k T W bs q rs rs' cs (.ret v fs)=⟨q/\(k::rs).Nodup/\(∀ j∈rs',j∉k::rs)/\fs.length<=7,.v v,dO rs++(cI (bg (8*κ) fs)++[(k,some (.cells T (aO (8*κ) fs)))]),none,[],k::(rs++rs')⟩:=rfl
theorem Ox(q:Prop)(rs rs' cs:List Nat)(sh:Sh)(Φ:FK)(fs:List AV):rD G κ k T W bs q rs rs' cs (.fact sh Φ fs)=⟨q/\(k::rs).Nodup/\(∀ j∈rs',j∉k::rs)/\fs.length<=7/\Up G W bs,sh.tm (8*κ+7),dO (rs++cs)++(cI (bg (8*κ) fs)++[(k,some (.cells T (aO (8*κ) fs))),(8*κ+7,some (.obj [] (gk G W bs Φ)))]),none,[],k::(rs++rs')⟩:=rfl
theorem UR(q:Prop)(rs rs' cs:List Nat)(c:List PanicEntry)(v:Value):rD G κ k T W bs q rs rs' cs (.pan c v)=⟨q/\(k::rs).Nodup/\(∀ j∈rs',j∉k::rs),.v v,[],some c,k::rs,k::(rs++rs')⟩:=rfl
theorem ai1(k:Nat):Sh.one.tm k=.part k 0:=rfl
theorem ai2(k:Nat):Sh.two.tm k=.agg [.part k 0,.part k 1]:=rfl
end
def amO:=aa @Yl <| aa @NY <| aa @TO <| aa @J6 <| aa @NW <| aa @NX <| aa @TN <| aa @NV <| aa @J5 <| aa @NT <| aa @NS <| aa @J4 <| aa @Oj <| aa @Eo <| aa @GR <| aa @aem <| aa @YS <| aa @YQ <| aa @YR <| aa @Uq <| aa @alx <| aa @alw <| aa @aen <| aa @ajy <| aa @YK <| aa @Ui <| aa @Oi <| aa @Uh <| aa @UQ <| aa @KC <| aa @Zk <| aa @US <| aa @Ox <| aa @UR <| aa @ai1 <| aa @ai2 <| aa @cK @e8
theorem AH{P:Program}{W:World}{bs:List Nat}{nt:Nat}{ds:Aux}{Q:lR}{σ:St}{x y:Code}{ι:Type}(I:ι->St)(V:ι->World)(B:ι->List Nat)(ok:ι->Prop)
  (h1:Wp P W bs nt ds x (Th (λW' bs' σ1=>∃ p,ok p/\V p=W' /\ B p=bs' /\ Le W' bs' nt ds σ1 (I p)) Q) σ)
  (h2:∀ p,ok p->Ext W bs (V p) (B p)->Wp P (V p) (B p) nt ds y Q (I p)):Wp P W bs nt ds (.seq x y) Q σ:=λa w hs=>
 wp_seq (wp_mono (h1 a w hs) λe a' w' ⟨W',bs',σ1,he,hq,hs'⟩=>by
  cases e with
  |normal=>
   obtain⟨p,hp,rfl,rfl,hle⟩:=hq
   exact wp_mono (h2 p hp he a' w' (hle a' w' hs')) λe' a'' w'' hh=>yn he hh
  |_=>exact⟨W',bs',σ1,he,hq,hs'⟩)
structure y8 (P:Program)(f:FuncId) where
 T:TypeId
 pre:World->List Nat->List AV->List AV->Prop
 res:World->List AV->List AV->Value
 enters:∀ args w,(callFunc f args).run P w=.ok (.enter f args) w
 ok:∀ (W w:World) (bs:List Nat) (u:Value) (fp:List Nat) (us:List Value) (fs as_:List AV),an W bs w->aW w u fp T fs->eW w us as_->pre W bs fs as_ ->
  Calls P f (u::us).toArray w λe w' => e=.returned (res W fs as_)/\an w [] w'
def Cc(k:Nat)(T T' : TypeId)(pre:List AV->List AV->Prop)(res:List AV->List AV->Value)(as_:List AV)(rs' : List Nat):Option (List AV×List Nat)->R
 |some (fs,rs)=>⟨(T' = T/\(k::rs).Nodup)/\pre fs as_,.v (res fs as_),[],none,[],k::(rs++rs')⟩
 |none=>.bad
def Cd(h:Hp)(k:Nat)(T:TypeId)(pre:List AV->List AV->Prop)(res:List AV->List AV->Value):Option aX->Option (List AV×List Nat)->R
 |some (.cells T' vs),some (as_,rs')=>Cc k T T' pre res as_ rs' (aB h vs)
 |_,_=>.bad
def FB(h:Hp)(T:TypeId)(pre:List AV->List AV->Prop)(res:List AV->List AV->Value):List SV->R
 |.own k 0::rest=>Cd h k T pre res (h k) (aB h rest)
 |_=>.bad
def y8.spec{P:Program}{f:FuncId}(p:y8 P f):Spec P f where
 ev:=λW bs κ h args=>FB h p.T (p.pre W bs) (p.res W) args
 good:=λW bs κ E F h w K args hs hK hk hx hside=>by
  rw[p.enters];revert hside;unfold FB;split
  ·rename_i k rest;cases hkk:h k with
   |none=>exact λhf=>hf.elim
   | some e=>
    cases e with
    |row T s n vs=>exact λhf=>hf.elim
    |mp ks vs=>exact λhf=>hf.elim
    |obj d R=>exact λhf=>hf.elim
    | cells T' vs=>
     cases hr:aB h rest with
     |none=>exact λhf=>hf.elim
     | some q=>
      obtain⟨as_,rs'⟩:=q;simp only[Cd];cases hv:aB h vs with
      |none=>exact λhf=>hf.elim
      |some q=>
       obtain⟨fs,rs⟩:=q;simp only[Cc];rintro⟨⟨rfl,hn⟩,hp⟩;have hent:=hs.ent k _ hkk;obtain⟨b,hu,_,_⟩:=hent;have hden:den E (.own k 0)=E k:=by simp[den,hu,base,dj]
       have ho:=iY hs hkk hv hn;have:=p.ok W w bs (E k) _ (ai E rest) fs as_ hs.keeps ho (ep hs hr) hp;have e:ai E (.own k 0::rest)=E k::ai E rest:=by simp only[ai,hden]
       rw[e];exact xX hs this rfl rfl rfl
  ·exact λhf=>hf.elim
 keys:=λW bs κ h K args hK hx hside=>by
  revert hside;unfold FB;split
  ·rename_i k rest;cases hkk:h k with
   |none=>exact λhf=>hf.elim
   | some e=>
    cases e with
    |row T s n vs=>exact λhf=>hf.elim
    |mp ks vs=>exact λhf=>hf.elim
    |obj d R=>exact λhf=>hf.elim
    | cells T' vs=>
     cases hr:aB h rest with
     |none=>exact λhf=>hf.elim
     | some q=>
      obtain⟨as_,rs'⟩:=q;simp only[Cd];cases hv:aB h vs with
      |none=>exact λhf=>hf.elim
      |some q=>
       obtain⟨fs,rs⟩:=q;simp only[Cc];exact λ_=>aQ.plain (λk hk=>by cases hk) rfl
  ·exact λhf=>hf.elim
 loc:=λW bs κ h h' args hside hr=>by
  revert hside hr;unfold FB;split
  ·rename_i k rest;cases hkk:h k with
   |none=>exact λhf=>hf.elim
   | some e=>
    cases e with
    |row T s n vs=>exact λhf=>hf.elim
    |mp ks vs=>exact λhf=>hf.elim
    |obj d R=>exact λhf=>hf.elim
    | cells T' vs=>
     cases hrr:aB h rest with
     |none=>exact λhf=>hf.elim
     | some q=>
      obtain⟨as_,rs'⟩:=q;simp only[Cd];cases hv:aB h vs with
      |none=>exact λhf=>hf.elim
      |some q=>
       obtain⟨fs,rs⟩:=q;simp only[Cc];intro _ hr;have e1:h' k=some (.cells T' vs):=by rw[hr k sI,hkk]
       have e2:aB h' rest=some (as_,rs'):=cP hrr λj hj=>hr j (by simp[hj])
       have e3:aB h' vs=some (fs,rs):=cP hv λj hj=>hr j (by simp[hj])
       rw[e1,e2];simp only[Cd,e3,Cc]
  ·exact λhf=>hf.elim
section
variable (h:Hp)(k:Nat)(T T' : TypeId)(pre:List AV->List AV->Prop)(res:List AV->List AV->Value)
theorem Z9{P:Program}{f:FuncId}(p:y8 P f)(W:World)(bs:List Nat)(κ:Nat)(h:Hp)(l:List SV):p.spec.ev W bs κ h l=FB h p.T (p.pre W bs) (p.res W) l:=rfl
theorem Vw(rest:List SV):FB h T pre res (.own k 0::rest)=Cd h k T pre res (h k) (aB h rest):=rfl
theorem Lh(vs:List SV)(as_:List AV)(rs' : List Nat):Cd h k T pre res (some (.cells T' vs)) (some (as_,rs'))=Cc k T T' pre res as_ rs' (aB h vs):=rfl
theorem OU(as_ fs:List AV)(rs' rs:List Nat):Cc k T T' pre res as_ rs' (some (fs,rs))=⟨(T' = T/\(k::rs).Nodup)/\pre fs as_,.v (res fs as_),[],none,[],k::(rs++rs')⟩:=rfl
end
section
variable {P:Program}(κ:Nat)(h:Hp)(T:TypeId)
theorem HS(k:Nat)(ik:IntKind)(b:Int):fO P κ h T false true false [.hd k,.v (.int ik b)]=FP P κ k b (P.underlying T) (h k):=rfl
theorem Qe(k:Nat)(b:Int)(e e' : TypeId)(s n:Nat)(vs:List SV):FP P κ k b (some (.slice e)) (some (.row e' s n vs))=yE κ k b e' s n vs (ts P e):=rfl
theorem L1(k:Nat)(b:Int)(e s n s' : Nat)(vs:List SV):yE κ k b e s n vs (some s')=⟨s' = s/\0<=b/\b.toNat<=n,.hd (8*κ),[(k,none),(8*κ,some (.row e s b.toNat (vs.take (b.toNat*s))))],none,[],[k]⟩:=rfl
end
def amQ:=aa @HS <| aa @Qe @L1
def amP:=aa @Z9 <| aa @Vw <| aa @Lh @OU
theorem yg{w:World}{u:Value}{fp:List Nat}{T:TypeId}{fs:List AV}(h:aW w u fp T fs):∃ b us,u=.pointer (some ⟨b,0,none⟩)/\eW w us fs/\∀ j (hj:j<us.length),w.cell? ⟨b,j,none⟩=some us[j]:=by
 obtain⟨b,us,h1,h2,h3,_⟩:=h;exact⟨b,us,h1,h3,λj hj=>cell_of h2 j hj⟩
def Ay(w:World)(u:Value)(fp:List Nat)(T:TypeId)(fs:List AV)(xs:List Value):Prop:=
 ∃ b us,u=.pointer (some ⟨b,0,none⟩)/\w.heap[b]?=some (.cells (us++xs).toArray T (0,0))/\eW w us fs/\fp=b::z6 us fs/\(b::z6 us fs).Nodup
def aiB(w:World)(u:Value)(fp:List Nat)(T:TypeId)(xs:List Value)(e:Ending)(w' : World):BOut->Prop
 |.ret v fs=>e=.returned v/\(∃ fp',Ay w' u fp' T fs xs/\(∀ b∈fp',b∈fp\/w.heap.size<=b)/\∀ b∈fp',b<w'.heap.size)/\an w fp w'
 |.pan c _=>e=.panicked c/\an w fp w'
structure XE (P:Program)(f:FuncId) where
 T:TypeId
 m:Nat
 pre:World->List Nat->List AV->List AV->Prop
 out:World->List AV->List AV->BOut
 enters:∀ args w,(callFunc f args).run P w=.ok (.enter f args) w
 ok:∀ (W w:World) (bs:List Nat) (u:Value) (fp:List Nat) (us:List Value) (fs as_:List AV) (xs:List Value),an W bs w->Ay w u fp T fs xs->(∀ b∈fp,b<w.heap.size)->(∀ b∈fp,W.heap.size<=b\/b∈bs)->eW w us as_->pre W bs fs as_ ->
  Calls P f (u::us).toArray w λe w' => aiB w u fp T xs e w' (out W fs as_)
def Ca(κ k:Nat)(T:TypeId)(ys:List SV)(pre:Prop)(rs rs' : List Nat):BOut->R
 |.ret v fs=>⟨pre/\(k::rs).Nodup/\(∀ j∈rs',j∉k::rs)/\fs.length<=8,.v v,dO rs++(cI (bg (8*κ) fs)++[(k,some (.cells T (aO (8*κ) fs++ys)))]),none,[],k::(rs++rs')⟩
 |.pan c v=>⟨pre/\(k::rs).Nodup/\(∀ j∈rs',j∉k::rs),.v v,[],some c,k::rs,k::(rs++rs')⟩
def B8(κ k:Nat)(T T' : TypeId)(ys:List SV)(pre:List AV->List AV->Prop)(out:List AV->List AV->BOut)(as_:List AV)(rs' : List Nat):Option (List AV×List Nat)->R
 |some (fs,rs)=>Ca κ k T ys (T' = T/\pre fs as_) rs rs' (out fs as_)
 |none=>.bad
def B9(h:Hp)(κ k:Nat)(T:TypeId)(m:Nat)(pre:List AV->List AV->Prop)(out:List AV->List AV->BOut):Option aX->Option (List AV×List Nat)->R
 |some (.cells T' vs),some (as_,rs')=>B8 κ k T T' (vs.drop m) pre out as_ rs' (aB h (vs.take m))
 |_,_=>.bad
def FA(h:Hp)(κ:Nat)(T:TypeId)(m:Nat)(pre:List AV->List AV->Prop)(out:List AV->List AV->BOut):List SV->R
 |.own k 0::rest=>B9 h κ k T m pre out (h k) (aB h rest)
 |_=>.bad
section
variable {P:Program}{W:World}{bs:List Nat}{κ:Nat}{E:Nat->Value}{F:Nat->List Nat}{h:Nat->Option aX}{w:World}{K:Nat->Prop}
theorem Hs(hs:aj W bs E F h w){k:Nat}{T:TypeId}{vs ys:List SV}{fs:List AV}{rs:List Nat}(hk:h k=some (.cells T (vs++ys)))(hv:aB h vs=some (fs,rs))(hn:(k::rs).Nodup) :
  Ay w (E k) ((k::rs).flatMap F) T fs (ai E ys):=by
 obtain⟨b,h1,h2,h3⟩:=hs.ent k _ hk;obtain⟨g1,g2⟩:=cu hs hv;have hnd:=px hs (ks:=k::rs) hn λj hj=>by
  rcases List.mem_cons.1 hj with rfl|hj
  ·exact⟨_,hk,λ_ _ e=>by cases e⟩
  ·exact iR hv j hj
 have hfp:(k::rs).flatMap F=b::z6 (ai E vs) fs:=by
  rw[List.flatMap_cons,h2,g1];rfl
 refine⟨b,ai E vs,h1,by rw[h3,ew],ep hs hv,hfp,by rw[<- hfp];exact hnd⟩
theorem Vv{w' : World}{k:Nat}{T:TypeId}{vs ys:List SV}{fs fs' : List AV}{rs fp' : List Nat}(hs:aj W bs E F h w)(hK:bN K h)(hk:∀ k,k / 8=κ->¬ K k)
  (hkk:h k=some (.cells T (vs++ys))) (hv:aB h vs=some (fs,rs)) (hlen:fs'.length<=8) (hn:(k::rs).Nodup)
  (ho:Ay w' (E k) fp' T fs' (ai E ys)) (h1:∀ b∈fp',b∈(k::rs).flatMap F\/w.heap.size<=b) (h2:∀ b∈fp',b<w'.heap.size) (hkeep:an w ((k::rs).flatMap F) w') :
  ∃ E' F',(∀ j,j / 8≠κ->E' j=E j)/\aj W bs E' F' (a8 h (dO rs++(cI (bg (8*κ) fs')++[(k,some (.cells T (aO (8*κ) fs' ++ ys)))]))) w' := by
 obtain⟨b,us,hu,hb,hus,rfl,hnd⟩:=ho;have hl:=jW hus;have hKk:K k:=(hK k _ hkk).1;have hfr:∀ j,8*κ<=j->j<8*κ+8->¬ K j:=λj g1 g2=>hk j oM
 have hkf:k<8*κ\/8*κ+8<=k:=by
  by_cases g1:k<8*κ
  ·exact .inl g1
  ·by_cases g2:8*κ+8<=k
   ·exact .inr g2
   ·exact absurd hKk (hfr k oM oM)
 have hE:∀ j,j / 8≠κ->gG (8*κ) us E j=E j:=λj hj=>mH oM
 have hsome:∀ p∈cI (bg (8*κ) fs')++[(k,some (.cells T (aO (8*κ) fs' ++ ys)))],∃ e,p.2=some e:=λp hp=>by
  rcases List.mem_append.1 hp with hp|hp
  ·obtain⟨e,he,_⟩:=fP.1 hp;exact⟨e,by rw[he]⟩
  ·simp at hp;exact⟨_,by rw[hp]⟩
 have hNm:∀ j e,a8 (λ_=>none) (cI (bg (8*κ) fs')++[(k,some (.cells T (aO (8*κ) fs' ++ ys)))]) j=some e->(j=k/\e=.cells T (aO (8*κ) fs' ++ ys))\/(j≠k/\(j,e)∈bg (8*κ) fs'):=λj e he=>by
  rw[b8]at he;simp only[a8]at he;by_cases hj:j=k
  ·subst hj;rw[ah]at he;cases he;exact .inl ⟨rfl,rfl⟩
  ·rw[al _ _ hj]at he;rcases kT (λ_=>(none:Option aX)) (k:=j) (u:=cI (bg (8*κ) fs')) with ⟨x,hx,hx'⟩|⟨_,hx'⟩
   ·rw[hx']at he;subst he;obtain⟨e',h3,h4⟩:=fP.1 hx;simp only[Prod.mk.injEq,true_and,Option.some.injEq]at h3;subst h3;exact .inr ⟨hj,h4⟩
   ·rw[hx']at he;cases he
 have hNk:a8 (λ_=>none) (cI (bg (8*κ) fs')++[(k,some (.cells T (aO (8*κ) fs' ++ ys)))]) k=some (.cells T (aO (8*κ) fs' ++ ys)):=by
  rw[b8];simp[a8,ah]
 have hb' : b∉z6 us fs' := (List.nodup_cons.1 hnd).1;have hnd' : (z6 us fs').Nodup:=(List.nodup_cons.1 hnd).2;refine⟨gG (8*κ) us E,bo (iE (8*κ) us fs' F) k [b],hE,?_⟩
 refine hs.mg hK (k::rs) (a8 (λ_=>none) (cI (bg (8*κ) fs')++[(k,some (.cells T (aO (8*κ) fs' ++ ys)))])) (λj hj=>?_) (λj hj=>hE j λe=>hk j e hj) (λj e he=>?_) (λi j e e' hij hi hj c hc=>?_) (λj x hx hj=>?_) (λj=>?_) hkeep
 ·rcases List.mem_cons.1 hj with rfl|hj
  ·exact⟨_,hkk⟩
  ·exact (cu hs hv).2 j hj
 ·rcases hNm j e he with ⟨rfl,rfl⟩|⟨hjk,hm⟩
  ·rw[ah,hE j λe=>hk j e hKk];refine⟨⟨b,hu,rfl,by rw[ew,gj hus,bC (E' := E) ys λi hi=>hE i λe=>hk i e ((hK _ _ hkk).2 i (by simp only[aX.keys,aT];exact List.mem_append_right _ hi))];exact hb⟩,λc hc=>?_,λc hc=>h2 c (by simp at hc;simp[hc])⟩;simp only[List.mem_singleton]at hc;subst hc
   rcases h1 c sI with g|g
   ·obtain⟨i,hi,hci⟩:=List.mem_flatMap.1 g;exact .inl ⟨i,hi,hci⟩
   ·exact .inr g
  ·rw[al _ _ hjk];obtain⟨g1,g2⟩:=jc (E:=E) (F:=F) hus hm (gG (8*κ) us E);refine⟨g1,λc hc=>?_,λc hc=>h2 c (List.mem_cons_of_mem _ (g2 c hc))⟩;rcases h1 c (List.mem_cons_of_mem _ (g2 c hc)) with g|g
   ·obtain⟨i,hi,hci⟩:=List.mem_flatMap.1 g;exact .inl ⟨i,hi,hci⟩
   ·exact .inr g
 ·rcases hNm i e hi with ⟨rfl,rfl⟩|⟨hik,hmi⟩
  ·rcases hNm j e' hj with ⟨rfl,rfl⟩|⟨hjk,hmj⟩
   ·exact absurd rfl hij
   ·rw[ah]at hc;rw[al _ _ hjk];simp only[List.mem_singleton]at hc;subst hc;exact λhc' => hb' (cG hl hmj c hc')
  ·rw[al _ _ hik]at hc;rcases hNm j e' hj with ⟨rfl,rfl⟩|⟨hjk,hmj⟩
   ·rw[ah];intro hc';simp only[List.mem_singleton]at hc';subst hc';exact hb' (cG hl hmi c hc)
   ·rw[al _ _ hjk];exact jb hnd' hmi hmj hl hij c hc
 ·have hjk:j≠k:=λe=>by rw[e,hNk]at hj;cases hj
  rw[al _ _ hjk];have hKj:=(hK j x hx).1;by_cases g1:j<8*κ
  ·exact km (.inl g1)
  ·by_cases g2:8*κ+8<=j
   ·exact km (.inr oM)
   ·exact absurd hKj (hfr j oM oM)
 ·rw[b8,ko _ _ _ hsome,kn];cases hN:a8 (λ_=>none) (cI (bg (8*κ) fs')++[(k,some (.cells T (aO (8*κ) fs' ++ ys)))]) j with
  |some e=>rfl
  |none=>
   have hjk:j≠k:=λe=>by rw[e,hNk]at hN;cases hN
   simp[hjk]
end
def XE.spec{P:Program}{f:FuncId}(p:XE P f):Spec P f where
 ev:=λW bs κ h args=>FA h κ p.T p.m (p.pre W bs) (p.out W) args
 good:=λW bs κ E F h w K args hs hK hk hx hside=>by
  rw[p.enters];revert hside;unfold FA;split
  ·rename_i k rest;cases hkk:h k with
   |none=>exact λhf=>hf.elim
   | some e=>
    cases e with
    |row T s n vs=>exact λhf=>hf.elim
    |mp ks vs=>exact λhf=>hf.elim
    |obj d R=>exact λhf=>hf.elim
    | cells T' vs=>
     cases hr:aB h rest with
     |none=>exact λhf=>hf.elim
     | some q=>
      obtain⟨as_,rs'⟩:=q;simp only[B9];have hsplit:vs=vs.take p.m++vs.drop p.m:=(List.take_append_drop _ _).symm;cases hv:aB h (vs.take p.m) with
      |none=>exact λhf=>hf.elim
      | some q=>
       obtain⟨fs,rs⟩:=q;simp only[B8];have hent:=hs.ent k _ hkk;obtain⟨b,hu,_,_⟩:=hent;have hden:den E (.own k 0)=E k:=by simp[den,hu,base,dj]
       have call:∀ hn:(k::rs).Nodup,T' = p.T->p.pre W bs fs as_->Calls P f (ai E (.own k 0::rest)).toArray w λe w' => aiB w (E k) ((k::rs).flatMap F) p.T (ai E (vs.drop p.m)) e w' (p.out W fs as_):=λhn hT hp=>by
        subst hT;have ho:=Hs hs (hsplit ▸ hkk) hv hn;have:=p.ok W w bs (E k) _ (ai E rest) fs as_ _ hs.keeps ho (λc hc=>?_) (λc hc=>?_) (ep hs hr) hp
        ·simpa only[ai,hden] using this
        ·obtain⟨j,hj,hcj⟩:=List.mem_flatMap.1 hc;rcases List.mem_cons.1 hj with rfl|hj
         ·exact hs.lt _ _ hkk c hcj
         ·obtain⟨e,he⟩:=(cu hs hv).2 j hj;exact hs.lt j e he c hcj
        ·obtain⟨j,hj,hcj⟩:=List.mem_flatMap.1 hc;rcases List.mem_cons.1 hj with rfl|hj
         ·exact hs.mine _ _ hkk c hcj
         ·obtain⟨e,he⟩:=(cu hs hv).2 j hj;exact hs.mine j e he c hcj
       cases hout:p.out W fs as_ with
       |ret v fs' =>
        simp only[Ca];rintro⟨⟨hT,hp⟩,hn,hd,hlen⟩;have hc:=call hn hT hp;rw[hout]at hc;subst hT;refine hc.mono λe w' he=>?_
        obtain⟨rfl,⟨fp',ho,h1,h2⟩,hkeep⟩:=he;obtain⟨E',F',hE',hs'⟩:=Vv hs hK hk (hsplit ▸ hkk) hv hlen hn ho h1 h2 hkeep;exact⟨rfl,E',F',hE',rfl,hs'⟩
       | pan c _=>
        simp only[Ca];rintro⟨⟨hT,hp⟩,hn,hd⟩;have hc:=call hn hT hp;rw[hout]at hc;refine hc.mono λe w' he=>?_
        obtain⟨rfl,hkeep⟩:=he;refine⟨rfl,F,?_⟩;refine hs.mg hK (k::rs) (λ_=>none) (λj hj=>?_) (λ_ _=>rfl) (λj e he=>by cases he) (λi j e e' _ he=>by cases he) (λ_ _ _ _=>rfl) (λj=>?_) hkeep
        ·rcases List.mem_cons.1 hj with rfl|hj
         ·exact⟨_,hkk⟩
         ·exact (cu hs hv).2 j hj
        ·simp only[dropKeys]
  ·exact λhf=>hf.elim
 keys:=λW bs κ h K args hK hx hside=>by
  revert hside;unfold FA;split
  ·rename_i k rest;cases hkk:h k with
   |none=>exact λhf=>hf.elim
   | some e=>
    cases e with
    |row T s n vs=>exact λhf=>hf.elim
    |mp ks vs=>exact λhf=>hf.elim
    |obj d R=>exact λhf=>hf.elim
    | cells T' vs=>
     cases hr:aB h rest with
     |none=>exact λhf=>hf.elim
     | some q=>
      obtain⟨as_,rs'⟩:=q;simp only[B9];have hsplit:vs=vs.take p.m++vs.drop p.m:=(List.take_append_drop _ _).symm;cases hv:aB h (vs.take p.m) with
      |none=>exact λhf=>hf.elim
      | some q=>
       obtain⟨fs,rs⟩:=q;simp only[B8];cases hout:p.out W fs as_ with
       | ret v fs' =>
        simp only[Ca];rintro⟨_,hn,hd,hlen⟩;refine⟨λj hj=>(by cases hj),λq hq=>?_⟩;simp only[List.mem_append,List.mem_singleton]at hq;rcases hq with hq|hq|rfl
        ·simp only[dO,List.mem_map]at hq;obtain⟨j,hj,rfl⟩:=hq;exact⟨.inl (xk hK hv j hj),λe he=>by cases he⟩
        ·obtain⟨e,h1,h2⟩:=fP.1 hq;obtain⟨h3,h4⟩:=AD hlen h2;refine⟨.inr h3,λe' he' j hj=>?_⟩;rw[h1]at he';simp only[Option.some.injEq]at he';subst he';rw[h4]at hj;cases hj
        ·refine⟨.inl (hK k _ hkk).1,λe' he' j hj=>?_⟩;simp only[Option.some.injEq]at he';subst he';simp only[aX.keys,aT,List.mem_append]at hj;rcases hj with hj|hj
         ·have:=ct j hj;exact .inr oM
         ·refine .inl ((hK k _ hkk).2 j ?_);simp only[aX.keys];rw[hsplit,aT];exact List.mem_append_right _ hj
       |pan c _=>
        simp only[Ca];rintro _;exact⟨λj hj=>(by cases hj),λq hq=>by cases hq⟩
  ·exact λhf=>hf.elim
 loc:=λW bs κ h h' args hside hr=>by
  revert hside hr;unfold FA;split
  ·rename_i k rest;cases hkk:h k with
   |none=>exact λhf=>hf.elim
   | some e=>
    cases e with
    |row T s n vs=>exact λhf=>hf.elim
    |mp ks vs=>exact λhf=>hf.elim
    |obj d R=>exact λhf=>hf.elim
    | cells T' vs=>
     cases hrr:aB h rest with
     |none=>exact λhf=>hf.elim
     | some q=>
      obtain⟨as_,rs'⟩:=q;simp only[B9];have hsplit:vs=vs.take p.m++vs.drop p.m:=(List.take_append_drop _ _).symm;cases hv:aB h (vs.take p.m) with
      |none=>exact λhf=>hf.elim
      | some q=>
       obtain⟨fs,rs⟩:=q;simp only[B8];have key:∀ r:R,(∀ j∈r.reads,h' j=h j)->r.reads=k::(rs++rs')->h' k=some (.cells T' vs)/\aB h' rest=some (as_,rs')/\aB h' (vs.take p.m)=some (fs,rs):=λr hr he=>by
        rw[he]at hr;exact⟨by rw[hr k sI,hkk],cP hrr λj hj=>hr j (by simp[hj]),cP hv λj hj=>hr j (by simp[hj])⟩
       intro _ hr;obtain⟨g1,g2,g3⟩:=key _ hr (by cases p.out W fs as_<;>rfl);rw[g1,g2];simp only[B9,g3,B8]
  ·exact λhf=>hf.elim
section
variable (h:Hp)(κ k:Nat)(T T' : TypeId)(m:Nat)(pre:List AV->List AV->Prop)(out:List AV->List AV->BOut)
theorem Z7{P:Program}{f:FuncId}(p:XE P f)(W:World)(bs:List Nat)(κ:Nat)(h:Hp)(l:List SV):p.spec.ev W bs κ h l=FA h κ p.T p.m (p.pre W bs) (p.out W) l:=rfl
theorem Vt(rest:List SV):FA h κ T m pre out (.own k 0::rest)=B9 h κ k T m pre out (h k) (aB h rest):=rfl
theorem La(vs:List SV)(as_:List AV)(rs' : List Nat):B9 h κ k T m pre out (some (.cells T' vs)) (some (as_,rs'))=B8 κ k T T' (vs.drop m) pre out as_ rs' (aB h (vs.take m)):=rfl
theorem OR(ys:List SV)(as_:List AV)(rs' : List Nat)(fs:List AV)(rs:List Nat):B8 κ k T T' ys pre out as_ rs' (some (fs,rs))=Ca κ k T ys (T' = T/\pre fs as_) rs rs' (out fs as_):=rfl
theorem Vu(ys:List SV)(q:Prop)(rs rs' : List Nat)(v:Value)(fs:List AV):Ca κ k T ys q rs rs' (.ret v fs)=⟨q/\(k::rs).Nodup/\(∀ j∈rs',j∉k::rs)/\fs.length<=8,.v v,dO rs++(cI (bg (8*κ) fs)++[(k,some (.cells T (aO (8*κ) fs++ys)))]),none,[],k::(rs++rs')⟩:=rfl
end
def amR:=aa @Z7 <| aa @Vt <| aa @La <| aa @OR @Vu
def σP(T:TypeId)(fs:List AV)(xs args:List Value):St:=⟨1,ee ((0,.is (.own 0 0))::u6 args 1),dP ((0,.cells T (aO 1 fs++xs.map .v))::bg 1 fs)⟩
structure Gp (P:Program)(f:FuncId) where
 T:TypeId
 pre:World->List Nat->List AV->List AV->Prop
 out:World->List AV->List AV->BOut
 enters:∀ args w,(callFunc f args).run P w=.ok (.enter f args) w
 ok:∀ (W w:World) (bs:List Nat) (u:Value) (fp:List Nat) (us:List Value) (fs as_:List AV),an W bs w->aW w u fp T fs->(∀ b∈fp,b<w.heap.size)->(∀ b∈fp,W.heap.size<=b\/b∈bs)->eW w us as_->pre W bs fs as_ ->
  Calls P f (us++[u]).toArray w λe w' => dH w u fp T e w' (out W fs as_)
def oy(h:Hp)(κ:Nat)(T:TypeId)(pre:List AV->List AV->Prop)(out:List AV->List AV->BOut):List SV->R
 |[x,y,.own k 0]=>gM h κ k T pre out (h k) (aB h [x,y])
 |_=>.bad
theorem GA(h:Hp)(κ k:Nat)(T:TypeId)(pre:List AV->List AV->Prop)(out:List AV->List AV->BOut)(x y:SV):oy h κ T pre out [x,y,.own k 0]=gM h κ k T pre out (h k) (aB h [x,y]):=by
 cases x<;>rfl
def Gp.spec{P:Program}{f:FuncId}(p:Gp P f):Spec P f where
 ev:=λW bs κ h args=>oy h κ p.T (p.pre W bs) (p.out W) args
 good:=λW bs κ E F h w K args hs hK hk hx hside=>by
  rw[p.enters];revert hside;unfold oy;split
  ·rename_i x y k;cases hkk:h k with
   |none=>exact λhf=>hf.elim
   | some e=>
    cases e with
    |row T s n vs=>exact λhf=>hf.elim
    |mp ks vs=>exact λhf=>hf.elim
    |obj d R=>exact λhf=>hf.elim
    | cells T' vs=>
     cases hr:aB h [x,y] with
     |none=>exact λhf=>hf.elim
     | some q=>
      obtain⟨as_,rs'⟩:=q;simp only[gM];cases hv:aB h vs with
      |none=>exact λhf=>hf.elim
      | some q=>
       obtain⟨fs,rs⟩:=q;simp only[jq];have hent:=hs.ent k _ hkk;obtain⟨b,hu,_,_⟩:=hent;have hden:den E (.own k 0)=E k:=by simp[den,hu,base,dj]
       have call:∀ hn:(k::rs).Nodup,T' = p.T->p.pre W bs fs as_->Calls P f (ai E [x,y,.own k 0]).toArray w λe w' => dH w (E k) ((k::rs).flatMap F) p.T e w' (p.out W fs as_):=λhn hT hp=>by
        subst hT;have ho:=iY hs hkk hv hn;have:=p.ok W w bs (E k) _ [den E x,den E y] fs as_ hs.keeps ho (λc hc=>?_) (λc hc=>?_) (ep hs hr) hp
        ·simp only[ai,hden];exact this
        ·obtain⟨j,hj,hcj⟩:=List.mem_flatMap.1 hc;rcases List.mem_cons.1 hj with rfl|hj
         ·exact hs.lt _ _ hkk c hcj
         ·obtain⟨e,he⟩:=(cu hs hv).2 j hj;exact hs.lt j e he c hcj
        ·obtain⟨j,hj,hcj⟩:=List.mem_flatMap.1 hc;rcases List.mem_cons.1 hj with rfl|hj
         ·exact hs.mine _ _ hkk c hcj
         ·obtain⟨e,he⟩:=(cu hs hv).2 j hj;exact hs.mine j e he c hcj
       cases hout:p.out W fs as_ with
       |ret v fs' =>
        simp only[iF];rintro⟨⟨hT,hp⟩,hn,hd,hlen⟩;have hc:=call hn hT hp;rw[hout]at hc;subst hT;refine hc.mono λe w' he=>?_
        obtain⟨rfl,⟨fp',ho,h1,h2⟩,hkeep⟩:=he;obtain⟨E',F',hE',hs'⟩:=rf hs hK hk hkk hv hlen hn ho h1 h2 hkeep;exact⟨rfl,E',F',hE',rfl,hs'⟩
       | pan c _=>
        simp only[iF];rintro⟨⟨hT,hp⟩,hn,hd⟩;have hc:=call hn hT hp;rw[hout]at hc;refine hc.mono λe w' he=>?_
        obtain⟨rfl,hkeep⟩:=he;refine⟨rfl,F,?_⟩;refine hs.mg hK (k::rs) (λ_=>none) (λj hj=>?_) (λ_ _=>rfl) (λj e he=>by cases he) (λi j e e' _ he=>by cases he) (λ_ _ _ _=>rfl) (λj=>?_) hkeep
        ·rcases List.mem_cons.1 hj with rfl|hj
         ·exact⟨_,hkk⟩
         ·exact (cu hs hv).2 j hj
        ·simp only[dropKeys]
  ·exact λhf=>hf.elim
 keys:=λW bs κ h K args hK hx hside=>by
  revert hside;unfold oy;split
  ·rename_i x y k;cases hkk:h k with
   |none=>exact λhf=>hf.elim
   | some e=>
    cases e with
    |row T s n vs=>exact λhf=>hf.elim
    |mp ks vs=>exact λhf=>hf.elim
    |obj d R=>exact λhf=>hf.elim
    | cells T' vs=>
     cases hr:aB h [x,y] with
     |none=>exact λhf=>hf.elim
     | some q=>
      obtain⟨as_,rs'⟩:=q;simp only[gM];cases hv:aB h vs with
      |none=>exact λhf=>hf.elim
      | some q=>
       obtain⟨fs,rs⟩:=q;simp only[jq];cases hout:p.out W fs as_ with
       | ret v fs' =>
        simp only[iF];rintro⟨_,hn,hd,hlen⟩;refine⟨λj hj=>(by cases hj),λq hq=>?_⟩;simp only[List.mem_append,List.mem_singleton]at hq;rcases hq with hq|hq|rfl
        ·simp only[dO,List.mem_map]at hq;obtain⟨j,hj,rfl⟩:=hq;exact⟨.inl (xk hK hv j hj),λe he=>by cases he⟩
        ·obtain⟨e,h1,h2⟩:=fP.1 hq;obtain⟨h3,h4⟩:=AD hlen h2;refine⟨.inr h3,λe' he' j hj=>?_⟩;rw[h1]at he';simp only[Option.some.injEq]at he';subst he';rw[h4]at hj;cases hj
        ·refine⟨.inl (hK k _ hkk).1,λe' he' j hj=>.inr ?_⟩;simp only[Option.some.injEq]at he';subst he';have:=ct j hj;omega
       |pan c _=>
        simp only[iF];rintro _;exact⟨λj hj=>(by cases hj),λq hq=>by cases hq⟩
  ·exact λhf=>hf.elim
 loc:=λW bs κ h h' args hside hr=>by
  revert hside hr;unfold oy;split
  ·rename_i x y k;cases hkk:h k with
   |none=>exact λhf=>hf.elim
   | some e=>
    cases e with
    |row T s n vs=>exact λhf=>hf.elim
    |mp ks vs=>exact λhf=>hf.elim
    |obj d R=>exact λhf=>hf.elim
    | cells T' vs=>
     cases hrr:aB h [x,y] with
     |none=>exact λhf=>hf.elim
     | some q=>
      obtain⟨as_,rs'⟩:=q;simp only[gM];cases hv:aB h vs with
      |none=>exact λhf=>hf.elim
      | some q=>
       obtain⟨fs,rs⟩:=q;simp only[jq];have key:∀ r:R,(∀ j∈r.reads,h' j=h j)->r.reads=k::(rs++rs')->h' k=some (.cells T' vs)/\aB h' [x,y]=some (as_,rs')/\aB h' vs=some (fs,rs):=λr hr he=>by
        rw[he]at hr;exact⟨by rw[hr k sI,hkk],cP hrr λj hj=>hr j (by simp[hj]),cP hv λj hj=>hr j (by simp[hj])⟩
       intro _ hr;obtain⟨g1,g2,g3⟩:=key _ hr (by cases p.out W fs as_<;>rfl);rw[g1,g2];simp only[gM,g3,jq]
  ·exact λhf=>hf.elim
theorem NA{P:Program}{f:FuncId}(p:Gp P f)(W:World)(bs:List Nat)(κ:Nat)(h:Hp)(l:List SV):p.spec.ev W bs κ h l=oy h κ p.T (p.pre W bs) (p.out W) l:=rfl
def amS:=aa @NA @GA
def σB3(T:TypeId)(fs:List AV)(x y:Value):St:=⟨1,ee ((2,.is (.own 0 0))::u6 [x,y] 0),dP ((0,.cells T (aO 1 fs))::bg 1 fs)⟩
section
variable {P:Program}{W:World}{bs:List Nat}{E:Nat->Value}{F:Nat->List Nat}{h:Hp}{w:World}
theorem Kp(m:Nat->Src){H:List (Nat×aX)}(hs:aj W bs E F h w)(hh:vG m h H)(hn:(dR m H).Nodup):aj W bs (pL E m) (mT F m) (dP H) w:=by
 have at' : ∀ k e,dP H k=some e->nj m h k e:=λk e he=>Bs hh _ (eg he)
 have key:∀ k e j,dP H k=some e->m k=.key j->h j=some (ij m e):=λk e j he hj=>by
  have:=at' k e he;simpa only[nj,hj] using this
 refine⟨λk e he=>?_,λk e he b hb=>?_,λk e he b hb=>?_,λk k' e e' hne he he' b hb=>?_,hs.keeps⟩
 ·cases hm:m k with
  |key j=>
   simp only[pL,mT,hm];exact Bb (hs.ent j _ (key k e j he hm))
  | nil=>
   have:=at' k e he;simp only[nj,hm]at this;cases e with
   |row T s n vs=>
    obtain⟨h0,rfl,rfl⟩:=this;simp only[pL,mT,hm];exact⟨⟨by simp[ai],.inl ⟨rfl,rfl⟩⟩,rfl⟩
   |cells T vs=>exact this.elim
   |mp ks vs=>exact this.elim
   |obj d R=>exact this.elim
 ·cases hm:m k with
  |key j=>simp only[mT,hm]at hb;exact hs.lt j _ (key k e j he hm) b hb
  |nil=>simp only[mT,hm]at hb;cases hb
 ·cases hm:m k with
  |key j=>simp only[mT,hm]at hb;exact hs.mine j _ (key k e j he hm) b hb
  |nil=>simp only[mT,hm]at hb;cases hb
 ·cases hm:m k with
  |nil=>simp only[mT,hm]at hb;cases hb
  | key i=>
   cases hm' : m k' with
   |nil=>simp only[mT,hm'];simp
   |key j=>
    simp only[mT,hm,hm']at hb ⊢;exact hs.apart i j _ _ (uw hn _ (eg he) _ (eg he') hne i j hm hm') (key k e i he hm) (key k' e' j he' hm') b hb
mutual
theorem Ck{m:Nat->Src}{j:Nat}:∀ x:SV,j∈(kb m x).keys->∃ k∈x.keys,m k=.key j
 |.v x,h=>by simp[kb,SV.keys]at h
 |.own k o,h=>by
  simp only[kb]at h;cases hm:m k with
  |key i=>rw[hm]at h;simp[SV.keys]at h;exact⟨k,by simp[SV.keys],by rw[hm,h]⟩
  |nil=>rw[hm]at h;simp[SV.keys]at h
 |.hd k,h=>by
  simp only[kb]at h;cases hm:m k with
  |key i=>rw[hm]at h;simp[SV.keys]at h;exact⟨k,by simp[SV.keys],by rw[hm,h]⟩
  |nil=>rw[hm]at h;simp[SV.keys]at h
 |.agg l,h=>by
  simp only[kb,SV.keys]at h ⊢;exact ja l h
 |.tup l,h=>by
  simp only[kb,SV.keys]at h ⊢;exact ja l h
 |.nr t x,h=>by
  simp only[kb,SV.keys]at h ⊢;exact Ck x h
 |.part k i,h=>by
  simp only[kb]at h;cases hm:m k with
  |key i=>rw[hm]at h;simp[SV.keys]at h;exact⟨k,by simp[SV.keys],by rw[hm,h]⟩
  |nil=>rw[hm]at h;simp[SV.keys]at h
 | .fn f a c,h=>by
  simp only[kb,SV.keys,List.mem_append]at h ⊢;rcases h with h|h
  ·obtain⟨k,hk,hm⟩:=ja a h;exact⟨k,.inl hk,hm⟩
  ·obtain⟨k,hk,hm⟩:=ja c h;exact⟨k,.inr hk,hm⟩
theorem ja{m:Nat->Src}{j:Nat}:∀ l:List SV,j∈ay (jP m l)->∃ k∈ay l,m k=.key j
 |[],h=>by simp[jP,ay]at h
 | x::r,h=>by
  simp only[jP,ay,List.mem_append]at h ⊢;rcases h with h|h
  ·obtain⟨k,hk,hm⟩:=Ck x h;exact⟨k,.inl hk,hm⟩
  ·obtain⟨k,hk,hm⟩:=ja r h;exact⟨k,.inr hk,hm⟩
end
theorem VQ{m:Nat->Src}{j:Nat}(e:aX)(h:j∈(ij m e).keys):∃ k∈e.keys,m k=.key j:=by
 cases e with
 |cells T vs=>exact ja vs h
 |row T s n vs=>exact ja vs h
 |mp ks vs=>exact ja vs h
 |obj d R=>cases h
theorem GN{m:Nat->Src}{u:Value}{fp:List Nat}{e:aX}(h:bu (pL E m) u fp w e):bu E u fp w (ij m e):=by
 cases e with
 |cells T vs=>simpa [bu,ij,fD] using h
 |row T s n vs=>simpa [bu,ij,fD] using h
 |mp ks vs=>simpa [bu,ij,fD] using h
 |obj d R=>exact h
def xv(κ:Nat)(m:List Nat)(k:Nat):Nat:=if k<8 then m.getD k 0 else 8*κ+(k-8)
def mp(κ:Nat)(m:List Nat)(k:Nat):Src:=.key (xv κ m k)
def fresh(k:Nat):Prop:=8<=k/\k<16
def rF(κ:Nat)(m:List Nat)(h:Hp):List (Nat×aX)->Prop
 |[]=>True
 |(k,e)::r=>h (xv κ m k)=some (ij (mp κ m) e)/\rF κ m h r
def iX(κ:Nat)(m:List Nat):List (Nat×aX)->List Nat
 |[]=>[]
 |(k,_)::r=>xv κ m k::iX κ m r
def lg(κ:Nat)(m:List Nat):List (Nat×aX)->List (Nat×Option aX)
 |[]=>[]
 |(k,e)::r=>(xv κ m k,some (ij (mp κ m) e))::lg κ m r
def zD(κ:Nat)(m:List Nat)(h:Hp)(args args' : List SV)(L L' : List (Nat×aX))(val:SV)(pre:Prop):R:=
 ⟨(args=jP (mp κ m) args' /\ rF κ m h L/\(iX κ m L).Nodup)/\pre,kb (mp κ m) val,dO (iX κ m L)++lg κ m L',none,[],iX κ m L⟩
theorem RR{κ:Nat}{m:List Nat}:∀ {L:List (Nat×aX)},rF κ m h L->vG (mp κ m) h L
 |[],_=>trivial
 |(k,e)::r,hl=>⟨hl.1,RR hl.2⟩
theorem KD{κ:Nat}{m:List Nat}:∀ {L:List (Nat×aX)},dR (mp κ m) L=iX κ m L
 |[]=>rfl
 |(k,e)::r=>by
  simp only[dR,iX,mp,List.singleton_append];rw[<- KD (κ:=κ) (m:=m) (L:=r)]
theorem oF{κ:Nat}{m:List Nat}:∀ {L:List (Nat×aX)} {k:Nat} {e:aX},rF κ m h L->(k,e)∈L->h (xv κ m k)=some (ij (mp κ m) e)
 |(k0,e0)::r,k,e,hl,hm=>by
  rcases List.mem_cons.1 hm with hm|hm
  ·cases hm;exact hl.1
  ·exact oF hl.2 hm
theorem j8{κ:Nat}{m:List Nat}{j:Nat}:∀ {L:List (Nat×aX)},j∈iX κ m L ↔ ∃ p∈L,xv κ m p.1=j
 |[]=>by simp[iX]
 | (k,e)::r=>by
  simp only[iX,List.mem_cons,j8 (L:=r)];constructor
  ·rintro (rfl|⟨p,hp,rfl⟩)
   ·exact⟨(k,e),.inl rfl,rfl⟩
   ·exact⟨p,.inr hp,rfl⟩
  ·rintro⟨p,rfl|hp,rfl⟩
   ·exact .inl rfl
   ·exact .inr ⟨p,hp,rfl⟩
theorem Fl{κ:Nat}{m:List Nat}:∀ {L:List (Nat×aX)},(iX κ m L).Nodup->∀ p∈L,∀ q∈L,xv κ m p.1=xv κ m q.1->p.1=q.1
 | (k,e)::r,hn,p,hp,q,hq,he=>by
  obtain⟨h1,h2⟩:=List.nodup_cons.1 hn;rcases List.mem_cons.1 hp with rfl|hp'
  ·rcases List.mem_cons.1 hq with rfl|hq'
   ·rfl
   ·exact absurd (j8.2 ⟨q,hq',he.symm⟩) h1
  ·rcases List.mem_cons.1 hq with rfl|hq'
   ·exact absurd (j8.2 ⟨p,hp',he⟩) h1
   ·exact Fl h2 p hp' q hq' he
theorem lJ{κ:Nat}{m:List Nat}{q:Nat×Option aX}:∀ {L:List (Nat×aX)},q∈lg κ m L ↔ ∃ p∈L,q=(xv κ m p.1,some (ij (mp κ m) p.2))
 |[]=>by simp[lg]
 | (k,e)::r=>by
  simp only[lg,List.mem_cons,lJ (L:=r)];constructor
  ·rintro (rfl|⟨p,hp,rfl⟩)
   ·exact⟨(k,e),.inl rfl,rfl⟩
   ·exact⟨p,.inr hp,rfl⟩
  ·rintro⟨p,rfl|hp,rfl⟩
   ·exact .inl rfl
   ·exact .inr ⟨p,hp,rfl⟩
theorem RD:∀ {L:List (Nat×aX)} {k:Nat} {e:aX},(L.map (·.1)).Nodup->(k,e)∈L->dP L k=some e
 | (k0,e0)::r,k,e,hn,hm=>by
  simp only[List.map_cons,List.nodup_cons]at hn;simp only[dP];rcases List.mem_cons.1 hm with hm|hm
  ·cases hm;rw[ah]
  ·have:k≠k0:=λe' => hn.1 (e' ▸ List.mem_map.2 ⟨_,hm,rfl⟩)
   rw[al _ _ this];exact RD hn.2 hm
end
structure AL (P:Program)(f:FuncId) where
 args:List SV
 L:List (Nat×aX)
 val:SV
 L' : List (Nat×aX)
 fF:List Nat
 pre:World->List Nat->Prop
 low:∀ p∈L,p.1<8
 kept:∀ k∈fF,∃ e,(k,e)∈L
 vk:∀ k∈val.keys,k∈fF\/fresh k
 lk:∀ p∈L',(p.1∈fF\/fresh p.1)/\∀ k∈p.2.keys,k∈fF\/fresh k
 nd:(L'.map (·.1)).Nodup
 enters:∀ args w,(callFunc f args).run P w=.ok (.enter f args) w
 ok:∀ (W w:World) (bs fp:List Nat) (E:Nat->Value) (F:Nat->List Nat),an W bs w->(∀ b∈fp,W.heap.size<=b\/b∈bs)->aj w fp E F (dP L) w->pre W bs ->
  Calls P f (ai E args).toArray w λe w' => ∃ E' F',e=.returned (den E' val)/\(∀ k∈fF,E' k=E k)/\aj w fp E' F' (dP L') w'
theorem sU{κ k:Nat}{m:List Nat}(h:fresh k):xv κ m k / 8=κ:=by
 obtain⟨h1,h2⟩:=h;unfold xv;rw[if_neg oM];omega
def AL.spec{P:Program}{f:FuncId}(p:AL P f)(m:List Nat):Spec P f where
 ev:=λW bs κ h args=>zD κ m h args p.args p.L p.L' p.val (p.pre W bs)
 good:=λW bs κ E F h w K args hs hK hk hx hside=>by
  rw[p.enters];obtain⟨⟨rfl,hl,hn⟩,hp⟩:=hside;have hmK:∀ k∈p.fF,K (xv κ m k):=λk hk' => by
   obtain⟨e,he⟩:=p.kept k hk';exact (hK _ _ (oF hl he)).1
  have h0:=Kp (mp κ m) hs (RR hl) (by rw[KD];exact hn);have h1:aj w ((iX κ m p.L).flatMap F) (pL E (mp κ m)) (mT F (mp κ m)) (dP p.L) w:=⟨h0.ent,h0.lt,λk e he b hb=>.inr (List.mem_flatMap.2 ⟨xv κ m k,j8.2 ⟨_,eg he,rfl⟩,hb⟩),h0.apart,an.refl w _⟩
  have mine:∀ b∈(iX κ m p.L).flatMap F,W.heap.size<=b\/b∈bs:=λb hb=>by
   obtain⟨j,hj,hbj⟩:=List.mem_flatMap.1 hb;obtain⟨q,hq,rfl⟩:=j8.1 hj;exact hs.mine _ _ (oF hl hq) b hbj
  have S:∀ k,(k∈p.fF\/fresh k)->∀ k',(k' ∈ p.fF\/fresh k')->xv κ m k=xv κ m k' -> k=k' := λk h1 k' h2 he=>by
   rcases h1 with h1|h1
   ·rcases h2 with h2|h2
    ·obtain⟨e,hm⟩:=p.kept k h1;obtain⟨e',hm'⟩:=p.kept k' h2;exact Fl hn _ hm _ hm' he
    ·exact absurd (hmK k h1) (hk _ (by rw[he];exact sU h2))
   ·rcases h2 with h2|h2
    ·exact absurd (hmK k' h2) (hk _ (by rw[<- he];exact sU h1))
    ·obtain⟨a1,a2⟩:=h1;obtain⟨b1,b2⟩:=h2;unfold xv at he;rw[if_neg oM,if_neg oM]at he;omega
  simp only[zD,Good,ou];rw[fD];refine (p.ok W w bs _ _ _ hs.keeps mine h1 hp).mono λe w' he=>?_
  obtain⟨E',F',rfl,hE',hs'⟩:=he
  classical
  let bk:Nat->Option Nat:=λj=>if hj:∃ k,(k∈p.fF\/fresh k)/\xv κ m k=j then some hj.choose else none
  have bk1:∀ k,(k∈p.fF\/fresh k)->bk (xv κ m k)=some k:=λk hk' => by
   have hex:∃ k',(k' ∈ p.fF\/fresh k')/\xv κ m k' = xv κ m k:=⟨k,hk',rfl⟩;have:=hex.choose_spec;simp only[bk,dif_pos hex,Option.some.injEq];exact S _ this.1 _ hk' this.2
  have bk2:∀ j k,bk j=some k->(k∈p.fF\/fresh k)/\xv κ m k=j:=λj k hj=>by
   simp only[bk]at hj;split at hj
   ·rename_i hex;cases hj;exact hex.choose_spec
   ·cases hj
  let E2:Nat->Value:=λj=>match bk j with|some k=>E' k|none=>E j
  let F2:Nat->List Nat:=λj=>match bk j with|some k=>if k∈p.L'.map (·.1) then F' k else F j|none=>F j
  have e2:∀ k,(k∈p.fF\/fresh k)->E2 (xv κ m k)=E' k:=λk hk' => by simp only[E2,bk1 k hk']
  have agree:∀ j,j / 8≠κ->E2 j=E j:=λj hj=>by
   simp only[E2];cases hb:bk j with
   |none=>rfl
   |some k=>
    obtain⟨h2,rfl⟩:=bk2 j k hb;rcases h2 with h2|h2
    ·simp only;rw[hE' k h2];rfl
    ·exact absurd (sU h2) hj
  have src2:∀ k,(k∈p.fF\/fresh k)->pL E2 (mp κ m) k=E' k:=λk hk' => e2 k hk'
  refine⟨trivial,E2,F2,agree,?_,?_⟩
  ·rw[ni];exact oB _ λk hk' => (src2 k (p.vk k hk')).symm
  have hN:∀ j e,a8 (λ_=>none) (lg κ m p.L') j=some e->∃ q∈p.L',j=xv κ m q.1/\e=ij (mp κ m) q.2/\bk j=some q.1/\F2 j=F' q.1/\dP p.L' q.1=some q.2:=λj e he=>by
   rcases kT (λ_=>(none:Option aX)) (k:=j) (u:=lg κ m p.L') with ⟨x,hx,hx'⟩|⟨_,hx'⟩
   ·rw[hx']at he;subst he;obtain⟨q,hq,hqe⟩:=lJ.1 hx;simp only[Prod.mk.injEq,Option.some.injEq]at hqe;obtain⟨rfl,rfl⟩:=hqe;have hb:=bk1 q.1 (p.lk q hq).1;exact⟨q,hq,rfl,rfl,hb,by simp only[F2,hb];rw[if_pos (List.mem_map.2 ⟨q,hq,rfl⟩)],RD p.nd hq⟩
   ·rw[hx']at he;cases he
  have hN0:∀ j,a8 (λ_=>none) (lg κ m p.L') j=none->F2 j=F j:=λj he=>by
   simp only[F2];cases hb:bk j with
   |none=>rfl
   | some k=>
    simp only;split
    ·rename_i hm;obtain⟨q,hq,rfl⟩:=List.mem_map.1 hm;obtain⟨_,rfl⟩:=bk2 j _ hb;rcases kT (λ_=>(none:Option aX)) (k:=xv κ m q.1) (u:=lg κ m p.L') with ⟨x,hx,hx'⟩|⟨hx,_⟩
     ·rw[hx']at he;subst he;obtain⟨q',_,hqe⟩:=lJ.1 hx;simp at hqe
     ·exact absurd (List.mem_map.2 ⟨_,lJ.2 ⟨q,hq,rfl⟩,rfl⟩) hx
    ·rfl
  refine hs.mg hK (iX κ m p.L) (a8 (λ_=>none) (lg κ m p.L')) (λj hj=>?_) (λj hj=>agree j λe=>hk j e hj) (λj e he=>?_) (λi j e e' hij hi hj b hb=>?_) (λj x hx hj=>hN0 j hj) (λj=>?_) hs'.keeps
  ·obtain⟨q,hq,rfl⟩:=j8.1 hj;exact⟨_,oF hl hq⟩
  ·obtain⟨q,hq,rfl,rfl,hb,hF,hq'⟩:=hN j e he;rw[hF,e2 q.1 (p.lk q hq).1];refine⟨?_,λb hb=>?_,λb hb=>hs'.lt q.1 _ hq' b hb⟩
   ·refine GN ?_;exact gN (λk hk' => (src2 k ((p.lk q hq).2 k hk')).symm) (hs'.ent q.1 _ hq')
   ·rcases hs'.mine q.1 _ hq' b hb with g|g
    ·exact .inr g
    ·obtain⟨j,hj,hbj⟩:=List.mem_flatMap.1 g;exact .inl ⟨j,hj,hbj⟩
  ·obtain⟨q,hq,rfl,rfl,_,hF,hq'⟩:=hN i e hi;obtain⟨r,hr,rfl,rfl,_,hF',hr'⟩:=hN j e' hj;rw[hF]at hb;rw[hF'];exact hs'.apart q.1 r.1 _ _ (λe=>hij (by rw[e])) hq' hr' b hb
  ·have hsome:∀ q∈lg κ m p.L',∃ e,q.2=some e:=λq hq=>by
    obtain⟨r,_,rfl⟩:=lJ.1 hq;exact⟨_,rfl⟩
   rw[b8,ko _ _ _ hsome,kn];cases a8 (λ_=>none) (lg κ m p.L') j with
   |some e=>rfl
   |none=>rfl
 keys:=λW bs κ h K args hK hx hside=>by
  obtain⟨⟨rfl,hl,hn⟩,hp⟩:=hside;have hmK:∀ k,(k∈p.fF\/fresh k)->K (xv κ m k)\/xv κ m k / 8=κ:=λk hk' => by
   rcases hk' with hk'|hk'
   ·obtain⟨e,he⟩:=p.kept k hk';exact .inl (hK _ _ (oF hl he)).1
   ·exact .inr (sU hk')
  refine⟨λj hj=>?_,λq hq=>?_⟩
  ·obtain⟨k,hk,hm⟩:=Ck _ hj;cases hm;exact hmK k (p.vk k hk)
  ·rcases List.mem_append.1 hq with hq|hq
   ·simp only[dO,List.mem_map]at hq;obtain⟨j,hj,rfl⟩:=hq;obtain⟨r,hr,rfl⟩:=j8.1 hj;exact⟨.inl (hK _ _ (oF hl hr)).1,λe he=>by cases he⟩
   ·obtain⟨r,hr,rfl⟩:=lJ.1 hq;refine⟨hmK _ (p.lk r hr).1,λe he j hj=>?_⟩;simp only[Option.some.injEq]at he;subst he;obtain⟨k,hk,hm⟩:=VQ _ hj;cases hm;exact hmK k ((p.lk r hr).2 k hk)
 loc:=λW bs κ h h' args hside hr=>by
  have:∀ L:List (Nat×aX),(∀ k∈iX κ m L,h' k=h k)->rF κ m h' L=rF κ m h L:=λL=>by
   induction L with
   |nil=>exact λ_=>rfl
   |cons q r ih=>
    intro hq;simp only[rF];rw[hq _ (by simp[iX]),ih λk hk=>hq k (by simp[iX,hk])]
  simp only[zD];rw[this p.L hr]
theorem Zu{P:Program}{f:FuncId}(p:AL P f)(m:List Nat)(W:World)(bs:List Nat)(κ:Nat)(h:Hp)(l:List SV):(p.spec m).ev W bs κ h l=zD κ m h l p.args p.L p.L' p.val (p.pre W bs):=rfl
def xD:List SV->Nat->List (Nat×FV)
 |[],_=>[]
 |x::r,i=>(i,.is x)::xD r (i+1)
theorem ET(E:Nat->Value):∀ (l:List SV) (i t:Nat) (tm:Nat->Value),(∀ j (h:j<(ai E l).length),tm (i+j)=(ai E l)[j])->fits E (ee (xD l i) t) (tm t)
 |[],_,_,_,_=>trivial
 | x::r,i,t,tm,h=>by
  simp only[xD,ee,bo];split
  ·rename_i ht;subst ht;have:=h 0 (by simp[ai]);simpa [fits,ai] using this
  ·exact ET E r (i+1) t tm λj hj=>by
    have:=h (j+1) (by simp only[ai,List.length_cons];omega);rw[show i+1+j=i+(j+1) by omega];simpa [ai] using this
def Re(fF:List Nat)(val:SV)(L' : List (Nat×aX))(x:SV)(h:Hp):Prop:=∃ m:Nat->Src,x=kb m val/\vG m h L' /\ (dR m L').Nodup/\∀ k∈fF,m k=.key k
theorem A5{P:Program}{f:FuncId}{fn:Func}{c:Code}{w:World}{fp:List Nat}{E:Nat->Value}{F:Nat->List Nat}{nt:Nat}{fF:List Nat}{args:List SV}{L L' : List (Nat×aX)}{val:SV}(rs:List ResultVar)
  (hs:aj w fp E F (dP L) w) (hkb:Kx 1 (xD args 0) L) (hkp:∀ k∈fF,k<8)
  (hf:P.funcs[f]?=some fn) (hb:fn.body=some c) (hrs:fn.results.toList=rs) (hnt:args.length+(fn.ntmps-args.length)=nt)
  (h:Wp P w fp nt ⟨[],fF.map λk=>(k,E k)⟩ c (Fin P rs (λ_ _ x h' => Re fF val L' x h') (λ_ _=>False)) ⟨1,ee (xD args 0),dP L⟩) :
  Calls P f (ai E args).toArray w λe w' => ∃ E' F',e=.returned (den E' val)/\(∀ k∈fF,E' k=E k)/\aj w fp E' F' (dP L') w' := by
 subst hrs;have hsz:(ai E args).toArray.size=args.length:=by simp[aF]
 have hsat:Sat w fp nt ⟨[],fF.map λk=>(k,E k)⟩ ⟨1,ee (xD args 0),dP L⟩ { tmps:=(ai E args).toArray++Array.replicate (fn.ntmps-(ai E args).toArray.size) undef,defers:=[] } w:=by
  refine⟨⟨E,F,λt=>?_,hs,λp hp=>?_⟩,by simp[aF];omega,rfl,λp hp=>?_,λt k hk=>?_,λk e he=>?_⟩
  ·refine ET E args 0 t (λt=>((ai E args).toArray++Array.replicate (fn.ntmps-(ai E args).toArray.size) undef).getD t undef) λj hj=>?_
   rw[Nat.zero_add,Array.getD_eq_getD_getElem?,Array.getElem?_append_left (by simpa using hj)];simp[List.getElem?_eq_getElem hj]
  ·obtain⟨k,_,rfl⟩:=List.mem_map.1 hp;rfl
  ·obtain⟨k,hk,rfl⟩:=List.mem_map.1 hp;have:=hkp k hk;show k / 8<1;omega
  ·rcases oC (L:=xD args 0) t with g|⟨p,hp,_,g⟩
   ·simp only[g]at hk;cases hk
   ·simp only[g]at hk;exact hkb.1 p hp k hk
  ·exact hkb.2 _ (eg he)
 refine (oz hf hb hsat h).mono λe w' he=>?_
 cases e with
 |returned v=>
  obtain⟨W',bs',E1,F1,x,h',hx,⟨m,rfl,hle,hn,hm⟩,rfl,hs1,hp⟩:=he;refine⟨pL E1 m,mT F1 m,by rw[ni],λk hk=>?_,Kp m (hs1.back hx) hle hn⟩;simp only[pL,hm k hk];exact hp (k,E k) (List.mem_map.2 ⟨k,hk,rfl⟩)
 |panicked c=>obtain⟨_,_,_,_,_,_,hf,_⟩:=he;exact hf.elim
 |outgrown=>exact he.elim
end
end Go.LE
namespace Go.Proofs.YtnemkecffmdlnaaGreatDoor
section
open Go.RowKit Go.LE
def iO:=(ae (sK (aa @if_true.{1} @if_false.{1}) (aa @List.toList_toArray.{0} @Option.isNone_none.{0}) (aa @Option.isNone_some.{0} @Option.isSome_none.{0}) (aa @Option.isSome_some.{0} @and_true) (aa @true_and @and_self) (aa @true_imp_iff @forall_const.{1})) (sK (aa @forall_const.{0} @List.append_nil.{0}) (aa @List.nil_append.{0} @List.cons_append.{0}) (aa @cond_true.{1} @cond_false.{1}) (aa @List.map_cons.{0,0} @List.map_nil.{0,0}) (aa @Bool.true_and @Bool.and_true) (aa @beq_false @beq_true)) (sK (aa @imp_self @implies_true.{1}) (aa @implies_true.{0} @Bool.cond_self.{1}) (aa @Option.bind_some.{0,0} @List.getElem?_toArray.{0}) (aa @List.getElem?_cons_zero.{0} @List.getElem?_cons_succ.{0}) (aa @List.length_cons.{0} @List.length_nil.{0}) (aa @List.getD_cons_zero.{0} @List.getD_cons_succ.{0})) (sK (aa @List.take_succ_cons.{0} @List.take_zero.{0}) (aa @List.drop_succ_cons.{0} @List.drop_zero.{0}) (aa @List.zip_cons_cons.{0,0} @List.zip_nil_right.{0,0}) (aa @Option.getD_some.{0} @List.all_cons.{0}) (aa @List.all_nil.{0} @Bool.cond_true_left) (aa @Bool.cond_false_right @Bool.cond_true_right)) (sK (aa @Bool.cond_false_left ev1) (aa ev2 ev3) (aa ev4 ev5) (aa ev6 ev7) (aa ev8 ev9) (aa @Option.map_some.{0,0} @List.not_mem_nil.{0})) (sK (aa @Int.toNat_natCast @Option.toArray_none.{0}) (aa @Option.toArray_some.{0} @List.append_toArray.{0}) (aa @Nat.add_zero @Nat.zero_add) (aa @decide_true @decide_false) (aa @Bool.not_true @Bool.not_false) (aa @List.flatten_cons.{0} @List.flatten_nil.{0})) (sK (aa @List.isEmpty_nil.{0} @ne_eq.{1}) (aa @not_true_eq_false @not_false_eq_true) (aa @Nat.mul_one @Nat.one_mul) (aa @Nat.zero_mul @Nat.sub_zero) (aa @FO @Array.getD_eq_getD_getElem?.{0}) (aa @List.size_toArray.{0} @alk)) (ae @am4 amN amO @Option.map_none.{0,0} amP amQ amR amS))
theorem ev{e p:Prop}(he:e)(h:e->p:=by intro he;simp only[iO,Op.operands,Value.cells,σ0,σB,Nat.reduceEqDiff,Nat.reduceAdd,Nat.reduceMul,Nat.reduceLT,Nat.reduceLeDiff,Nat.reduceBEq,av,Int.reduceToNat,Int.reduceLT,Int.reduceLE,Nat.reduceDiv,Nat.reduceMod,Nat.reduceSub,Int.reducePow,Nat.reducePow,σP,σB3,he];exact rfl):p:=h he
section
variable {W:World}{bs:List Nat}{nt:Nat}{ds:Aux}{Q:lR}{σ:St}{e q:Prop}{id:Nat}{ops:Array Oper}{y:Code}{side:Prop}{n:Nat}{φ:Fr}{h:Hp}{pans:List (Option (List PanicEntry))}{lost:List Nat}{fx:List (List Nat×List Nat)}
theorem wR(Γ:Env Tryz.prog)(he:e)(hs:side)(hQ:Wp Tryz.prog W bs nt ds y Q ⟨n,φ,h⟩)(hg:e->qT Γ W bs nt ops ops.toList σ.n σ.φ σ.h=⟨side,n,φ,h,pans,lost,fx⟩:=by intro he;simp only[iO,Op.operands,Value.cells,σ0,σB,Nat.reduceEqDiff,Nat.reduceAdd,Nat.reduceMul,Nat.reduceLT,Nat.reduceLeDiff,Nat.reduceBEq,av,Int.reduceToNat,Int.reduceLT,Int.reduceLE,Nat.reduceDiv,Nat.reduceMod,Nat.reduceSub,Int.reducePow,Nat.reducePow,σP,σB3,he];exact rfl)(hp:pans.all Option.isNone=true:=by rfl):Wp Tryz.prog W bs nt ds (.seq (.region id ops false) y) Q σ:=Wp.akm Γ aM (hg he) hp hs hQ
theorem vR(Γ:Env Tryz.prog)(he:e)(hQ:Wp Tryz.prog W bs nt ds y Q ⟨n,φ,h⟩)(hg:e->qT Γ W bs nt ops ops.toList σ.n σ.φ σ.h=⟨side,n,φ,h,pans,lost,fx⟩:=by intro he;simp only[iO,Op.operands,Value.cells,σ0,σB,Nat.reduceEqDiff,Nat.reduceAdd,Nat.reduceMul,Nat.reduceLT,Nat.reduceLeDiff,Nat.reduceBEq,av,Int.reduceToNat,Int.reduceLT,Int.reduceLE,Nat.reduceDiv,Nat.reduceMod,Nat.reduceSub,Int.reducePow,Nat.reducePow,σP,σB3,he];exact rfl)(hp:pans.all Option.isNone=true:=by rfl)(hs:side:=by first|trivial|omega|exact⟨_,rfl⟩|(simp;done)|(unfold maxLen;omega)|(simp<;>omega)|(simp<;>unfold maxLen<;>omega)):Wp Tryz.prog W bs nt ds (.seq (.region id ops false) y) Q σ:=Wp.akm Γ aM (hg he) hp hs hQ
theorem wr(Γ:Env Tryz.prog)(he:e)(hs:side)(hQ:q)(hg:e->qT Γ W bs nt ops ops.toList σ.n σ.φ σ.h=⟨side,n,φ,h,pans,lost,fx⟩:=by intro he;simp only[iO,Op.operands,Value.cells,σ0,σB,Nat.reduceEqDiff,Nat.reduceAdd,Nat.reduceMul,Nat.reduceLT,Nat.reduceLeDiff,Nat.reduceBEq,av,Int.reduceToNat,Int.reduceLT,Int.reduceLE,Nat.reduceDiv,Nat.reduceMod,Nat.reduceSub,Int.reducePow,Nat.reducePow,σP,σB3,he];exact rfl)(hp:pans.all Option.isNone=true:=by rfl)(t:q->Q .normal W bs ⟨n,φ,h⟩:=by intro hq;(with_reducible repeat (first|refine gI ?_|refine gH ?_|refine lv ?_|refine lr ?_|refine ft (by decide) ?_|refine pn ?_|refine ph ?_|refine jn ?_|refine jk ?_));exact hq):Wp Tryz.prog W bs nt ds (.region id ops false) Q σ:=Wp.dW Γ aM (hg he) hp hs (t hQ)
theorem vr(Γ:Env Tryz.prog)(he:e)(hQ:q)(hg:e->qT Γ W bs nt ops ops.toList σ.n σ.φ σ.h=⟨side,n,φ,h,pans,lost,fx⟩:=by intro he;simp only[iO,Op.operands,Value.cells,σ0,σB,Nat.reduceEqDiff,Nat.reduceAdd,Nat.reduceMul,Nat.reduceLT,Nat.reduceLeDiff,Nat.reduceBEq,av,Int.reduceToNat,Int.reduceLT,Int.reduceLE,Nat.reduceDiv,Nat.reduceMod,Nat.reduceSub,Int.reducePow,Nat.reducePow,σP,σB3,he];exact rfl)(hp:pans.all Option.isNone=true:=by rfl)(hs:side:=by first|trivial|omega|exact⟨_,rfl⟩|(simp;done)|(unfold maxLen;omega)|(simp<;>omega)|(simp<;>unfold maxLen<;>omega))(t:q->Q .normal W bs ⟨n,φ,h⟩:=by intro hq;(with_reducible repeat (first|refine gI ?_|refine gH ?_|refine lv ?_|refine lr ?_|refine ft (by decide) ?_|refine pn ?_|refine ph ?_|refine jn ?_|refine jk ?_));exact hq):Wp Tryz.prog W bs nt ds (.region id ops false) Q σ:=Wp.dW Γ aM (hg he) hp hs (t hQ)
theorem kA(Γ:Env Tryz.prog)(he:e)(hs:side)(hQ:Wp Tryz.prog W bs nt ds y Q ⟨n,φ,h⟩)(hg:e->qT Γ W bs nt ops ops.toList σ.n σ.φ σ.h=⟨side,n,φ,h,pans,lost,fx⟩:=by intro he;simp only[iO,Op.operands,Value.cells,σ0,σB,Nat.reduceEqDiff,Nat.reduceAdd,Nat.reduceMul,Nat.reduceLT,Nat.reduceLeDiff,Nat.reduceBEq,av,Int.reduceToNat,Int.reduceLT,Int.reduceLE,Nat.reduceDiv,Nat.reduceMod,Nat.reduceSub,Int.reducePow,Nat.reducePow,σP,σB3,he];exact rfl)(hp:pans.all Option.isNone=true:=by rfl)(hd:(kP ops&&lj ops fx)=true:=by kernel_rfl):Wp Tryz.prog W bs nt ds (.seq (.region id ops true) y) Q σ:=Wp.aiG Γ aM (hg he) hp hd hs hQ
theorem yY(Γ:Env Tryz.prog)(he:e)(hQ:Wp Tryz.prog W bs nt ds y Q ⟨n,φ,h⟩)(hg:e->qT Γ W bs nt ops ops.toList σ.n σ.φ σ.h=⟨side,n,φ,h,pans,lost,fx⟩:=by intro he;simp only[iO,Op.operands,Value.cells,σ0,σB,Nat.reduceEqDiff,Nat.reduceAdd,Nat.reduceMul,Nat.reduceLT,Nat.reduceLeDiff,Nat.reduceBEq,av,Int.reduceToNat,Int.reduceLT,Int.reduceLE,Nat.reduceDiv,Nat.reduceMod,Nat.reduceSub,Int.reducePow,Nat.reducePow,σP,σB3,he];exact rfl)(hp:pans.all Option.isNone=true:=by rfl)(hd:(kP ops&&lj ops fx)=true:=by kernel_rfl)(hs:side:=by first|trivial|omega|exact⟨_,rfl⟩|(simp;done)|(unfold maxLen;omega)|(simp<;>omega)|(simp<;>unfold maxLen<;>omega)):Wp Tryz.prog W bs nt ds (.seq (.region id ops true) y) Q σ:=Wp.aiG Γ aM (hg he) hp hd hs hQ
theorem Jt(Γ:Env Tryz.prog)(he:e)(hs:side)(hQ:q)(hg:e->qT Γ W bs nt ops ops.toList σ.n σ.φ σ.h=⟨side,n,φ,h,pans,lost,fx⟩:=by intro he;simp only[iO,Op.operands,Value.cells,σ0,σB,Nat.reduceEqDiff,Nat.reduceAdd,Nat.reduceMul,Nat.reduceLT,Nat.reduceLeDiff,Nat.reduceBEq,av,Int.reduceToNat,Int.reduceLT,Int.reduceLE,Nat.reduceDiv,Nat.reduceMod,Nat.reduceSub,Int.reducePow,Nat.reducePow,σP,σB3,he];exact rfl)(hp:pans.all Option.isNone=true:=by rfl)(hd:(kP ops&&lj ops fx)=true:=by kernel_rfl)(t:q->Q .normal W bs ⟨n,φ,h⟩:=by intro hq;(with_reducible repeat (first|refine gI ?_|refine gH ?_|refine lv ?_|refine lr ?_|refine ft (by decide) ?_|refine pn ?_|refine ph ?_|refine jn ?_|refine jk ?_));exact hq):Wp Tryz.prog W bs nt ds (.region id ops true) Q σ:=Wp.afd Γ aM (hg he) hp hd hs (t hQ)
theorem vrD(Γ:Env Tryz.prog)(he:e)(hQ:q)(hg:e->qT Γ W bs nt ops ops.toList σ.n σ.φ σ.h=⟨side,n,φ,h,pans,lost,fx⟩:=by intro he;simp only[iO,Op.operands,Value.cells,σ0,σB,Nat.reduceEqDiff,Nat.reduceAdd,Nat.reduceMul,Nat.reduceLT,Nat.reduceLeDiff,Nat.reduceBEq,av,Int.reduceToNat,Int.reduceLT,Int.reduceLE,Nat.reduceDiv,Nat.reduceMod,Nat.reduceSub,Int.reducePow,Nat.reducePow,σP,σB3,he];exact rfl)(hp:pans.all Option.isNone=true:=by rfl)(hd:(kP ops&&lj ops fx)=true:=by kernel_rfl)(hs:side:=by first|trivial|omega|exact⟨_,rfl⟩|(simp;done)|(unfold maxLen;omega)|(simp<;>omega)|(simp<;>unfold maxLen<;>omega))(t:q->Q .normal W bs ⟨n,φ,h⟩:=by intro hq;(with_reducible repeat (first|refine gI ?_|refine gH ?_|refine lv ?_|refine lr ?_|refine ft (by decide) ?_|refine pn ?_|refine ph ?_|refine jn ?_|refine jk ?_));exact hq):Wp Tryz.prog W bs nt ds (.region id ops true) Q σ:=Wp.afd Γ aM (hg he) hp hd hs (t hQ)
theorem wK(hQ:q)(t:q->Q .normal W bs σ:=by intro hq;(with_reducible repeat (first|refine gI ?_|refine gH ?_|refine lv ?_|refine lr ?_|refine ft (by decide) ?_|refine pn ?_|refine ph ?_|refine jn ?_|refine jk ?_));exact hq):Wp Tryz.prog W bs nt ds .skip Q σ:=Wp.skip (t hQ)
theorem wE{i:Nat}(hQ:q)(t:q->Q (.exit i) W bs σ:=by intro hq;(with_reducible repeat (first|refine gI ?_|refine gH ?_|refine lv ?_|refine lr ?_|refine ft (by decide) ?_|refine pn ?_|refine ph ?_|refine jn ?_|refine jk ?_));exact hq):Wp Tryz.prog W bs nt ds (.exit i) Q σ:=Wp.exit (t hQ)
theorem wT(hQ:q)(t:q->Q .ret W bs σ:=by intro hq;(with_reducible repeat (first|refine gI ?_|refine gH ?_|refine lv ?_|refine lr ?_|refine ft (by decide) ?_|refine pn ?_|refine ph ?_|refine jn ?_|refine jk ?_));exact hq):Wp Tryz.prog W bs nt ds .ret Q σ:=Wp.ret (t hQ)
theorem wZ(he:e)(hQ:q)(t:e->q->Q .ret W bs σ:=by intro he;intro hq;(with_reducible repeat (first|refine gI ?_|refine gH ?_|refine lv ?_|refine lr ?_|refine ft (by decide) ?_|refine pn ?_|refine ph ?_|refine jn ?_|refine jk ?_));simp only[iO,Op.operands,Value.cells,σ0,σB,Nat.reduceEqDiff,Nat.reduceAdd,Nat.reduceMul,Nat.reduceLT,Nat.reduceLeDiff,Nat.reduceBEq,av,Int.reduceToNat,Int.reduceLT,Int.reduceLE,Nat.reduceDiv,Nat.reduceMod,Nat.reduceSub,Int.reducePow,Nat.reducePow,σP,σB3,nf,gf,kB,iJ,he];exact hq):Wp Tryz.prog W bs nt ds .ret Q σ:=Wp.ret (t he hQ)
end
theorem wC{W:World}{bs:List Nat}{nt:Nat}{ds:Aux}{Q:lR}{σ:St}{e:Prop}{c:Operand}{x y:Code}{b:Bool}{p:Prop}(he:e)(ht:b=true->Wp Tryz.prog W bs nt ds x Q σ)(hf:b=false->Wp Tryz.prog W bs nt ds y Q σ)(hc:e->pe σ.φ true c=(p,.v (.bool b)):=by intro he;simp only[iO,Op.operands,Value.cells,σ0,σB,Nat.reduceEqDiff,Nat.reduceAdd,Nat.reduceMul,Nat.reduceLT,Nat.reduceLeDiff,Nat.reduceBEq,av,Int.reduceToNat,Int.reduceLT,Int.reduceLE,Nat.reduceDiv,Nat.reduceMod,Nat.reduceSub,Int.reducePow,Nat.reducePow,σP,σB3,he];exact rfl)(hp:p:=by trivial):Wp Tryz.prog W bs nt ds (.cond c x y) Q σ:=Wp.cond (hc he) hp ht hf
theorem wM{W:World}{bs:List Nat}{nt:Nat}{ds:Aux}{σ:St}{e:Prop}(m:Nat->Go.LE.Src)(he:e){n' : Nat}{L:List (Nat×FV)}{H:List (Nat×aX)}(hk:Kx n' L H:=by exact⟨by simp[FV.keys,SV.keys,ay],by simp[aX.keys,ay,SV.keys,aR,aT]⟩)(hf:e->GS m σ.φ L:=by intro he;simp only[iO,Op.operands,Value.cells,σ0,σB,Nat.reduceEqDiff,Nat.reduceAdd,Nat.reduceMul,Nat.reduceLT,Nat.reduceLeDiff,Nat.reduceBEq,av,Int.reduceToNat,Int.reduceLT,Int.reduceLE,Nat.reduceDiv,Nat.reduceMod,Nat.reduceSub,Int.reducePow,Nat.reducePow,σP,σB3,GS,GV,kb,zF,he]<;>trivial)(hh:e->vG m σ.h H:=by intro he;simp only[iO,Op.operands,Value.cells,σ0,σB,Nat.reduceEqDiff,Nat.reduceAdd,Nat.reduceMul,Nat.reduceLT,Nat.reduceLeDiff,Nat.reduceBEq,av,Int.reduceToNat,Int.reduceLT,Int.reduceLE,Nat.reduceDiv,Nat.reduceMod,Nat.reduceSub,Int.reducePow,Nat.reducePow,σP,σB3,vG,nj,ij,gu,jP,kb,he]<;>trivial)(hn:(dR m H).Nodup:=by simp[dR])(hpn:∀ p∈ds.pins,m p.1=.key p.1/\p.1 / 8<n' := by simp):Le W bs nt ds σ ⟨n',ee L,dP H⟩:=Le.mk m hk (hf he) (hh he) hn hpn
theorem wN{e:Prop}{fF:List Nat}{val x:SV}{L' : List (Nat×aX)}{h:Hp}(m:Nat->Go.LE.Src)(he:e)(hv:e->x=kb m val:=by intro he;first|rfl|simp only[iO,Op.operands,Value.cells,σ0,σB,Nat.reduceEqDiff,Nat.reduceAdd,Nat.reduceMul,Nat.reduceLT,Nat.reduceLeDiff,Nat.reduceBEq,av,Int.reduceToNat,Int.reduceLT,Int.reduceLE,Nat.reduceDiv,Nat.reduceMod,Nat.reduceSub,Int.reducePow,Nat.reducePow,σP,σB3,kb,jP,he])(hh:e->vG m h L' := by intro he;simp only[iO,Op.operands,Value.cells,σ0,σB,Nat.reduceEqDiff,Nat.reduceAdd,Nat.reduceMul,Nat.reduceLT,Nat.reduceLeDiff,Nat.reduceBEq,av,Int.reduceToNat,Int.reduceLT,Int.reduceLE,Nat.reduceDiv,Nat.reduceMod,Nat.reduceSub,Int.reducePow,Nat.reducePow,σP,σB3,vG,nj,ij,gu,jP,kb,he]<;>trivial)(hn:(dR m L').Nodup:=by simp[dR])(hk:∀ k∈fF,m k=.key k:=by simp):Re fF val L' x h:=⟨m,hv he,hh he,hn,hk⟩
theorem wS{e p q:Prop}(he:e)(h:q)(t:e->q->p:=by intro he hq;simp only[iO,Op.operands,Value.cells,σ0,σB,Nat.reduceEqDiff,Nat.reduceAdd,Nat.reduceMul,Nat.reduceLT,Nat.reduceLeDiff,Nat.reduceBEq,av,Int.reduceToNat,Int.reduceLT,Int.reduceLE,Nat.reduceDiv,Nat.reduceMod,Nat.reduceSub,Int.reducePow,Nat.reducePow,σP,σB3,nf,gf,kB,iJ,he];exact hq):p:=t he h
theorem qq{p q:Prop}(h:q)(t:q->p:=by intro hq;(with_reducible repeat (first|refine gI ?_|refine gH ?_|refine lv ?_|refine lr ?_|refine ft (by decide) ?_|refine pn ?_|refine ph ?_|refine jn ?_|refine jk ?_));exact hq):p:=t h
theorem oo{p:Prop}(h:p:=by first|trivial|omega|exact⟨_,rfl⟩|(simp;done)|(unfold maxLen;omega)|(simp<;>omega)|(simp<;>unfold maxLen<;>omega)):p:=h
theorem wW{x y:Int}(h0:-9223372036854775808<=x:=by omega)(h1:x<=9223372036854775807:=by omega)(h:x=y:=by omega):IntKind.i64.wrap x=y:=(aA h0 h1).trans h
end
end Go.Proofs.YtnemkecffmdlnaaGreatDoor
namespace Go.Proofs
section
open Go.Shelf
def Tryz.Ky:Go.Shelf.Ren:=⟨λ| 171=>39|243=>76|246=>131|283=>183|284=>184|285=>185|286=>186|129=>227|317=>226|318=>228|319=>229|320=>230|337=>254|338=>255|n=>n,λ| 3=>3|9=>9|2=>2|4=>4|171=>313|0=>0|53=>203|37=>89|5=>5|173=>316|212=>334|51=>335|20=>20|213=>336|46=>158|232=>363|233=>364|n=>n,λ| 17=>3|18=>7|19=>8|n=>n⟩
theorem Tryz.aeC:Go.Proofs.LaysM.n171 Tryz.prog Tryz.Ky:={
 mixed:=by kernel_rfl
 f129:=Tryz.func227.trans (congrArg some (by kernel_rfl))
 f171:=Tryz.func39.trans (congrArg some (by kernel_rfl))
 f243:=Tryz.func76.trans (congrArg some (by kernel_rfl))
 f246:=Tryz.func131.trans (congrArg some (by kernel_rfl))
 f283:=Tryz.func183.trans (congrArg some (by kernel_rfl))
 f284:=Tryz.func184.trans (congrArg some (by kernel_rfl))
 f285:=Tryz.func185.trans (congrArg some (by kernel_rfl))
 f286:=Tryz.func186.trans (congrArg some (by kernel_rfl))
 f317:=Tryz.func226.trans (congrArg some (by kernel_rfl))
 f318:=Tryz.func228.trans (congrArg some (by kernel_rfl))
 f319:=Tryz.func229.trans (congrArg some (by kernel_rfl))
 f320:=Tryz.func230.trans (congrArg some (by kernel_rfl))
 f337:=Tryz.func254.trans (congrArg some (by kernel_rfl))
 f338:=Tryz.func255.trans (congrArg some (by kernel_rfl))
 t0:=Tryz.underlying0
 a0:=Tryz.isAgg0
 z0:=Tryz.sizeOf0
 v0:=Tryz.zeroValue0
 t2:=Tryz.underlying2
 a2:=Tryz.isAgg2
 z2:=Tryz.sizeOf2
 v2:=Tryz.zeroValue2
 t3:=Tryz.underlying3
 a3:=Tryz.isAgg3
 z3:=Tryz.sizeOf3
 v3:=Tryz.zeroValue3
 t4:=Tryz.underlying4
 a4:=Tryz.isAgg4
 z4:=Tryz.sizeOf4
 v4:=Tryz.zeroValue4
 t5:=Tryz.underlying5
 a5:=Tryz.isAgg5
 z5:=Tryz.sizeOf5
 v5:=Tryz.zeroValue5
 t9:=Tryz.underlying9
 a9:=Tryz.isAgg9
 z9:=Tryz.sizeOf9
 v9:=Tryz.zeroValue9
 t20:=Tryz.underlying20
 a20:=Tryz.isAgg20
 z20:=Tryz.sizeOf20
 v20:=Tryz.zeroValue20
 t37:=Tryz.underlying89
 a37:=Tryz.isAgg89
 z37:=Tryz.sizeOf89
 v37:=Tryz.zeroValue89
 t46:=Tryz.underlying158
 a46:=Tryz.isAgg158
 z46:=Tryz.sizeOf158
 v46:=Tryz.zeroValue158
 t51:=Tryz.underlying335
 a51:=Tryz.isAgg335
 z51:=Tryz.sizeOf335
 v51:=Tryz.zeroValue335
 t53:=Tryz.underlying203
 a53:=Tryz.isAgg203
 z53:=Tryz.sizeOf203
 v53:=Tryz.zeroValue203
 t171:=Tryz.underlying313
 a171:=Tryz.isAgg313
 z171:=Tryz.sizeOf313
 v171:=Tryz.zeroValue313
 t173:=Tryz.underlying316
 a173:=Tryz.isAgg316
 z173:=Tryz.sizeOf316
 v173:=Tryz.zeroValue316
 t212:=Tryz.underlying334
 a212:=Tryz.isAgg334
 z212:=Tryz.sizeOf334
 v212:=Tryz.zeroValue334
 t213:=Tryz.underlying336
 a213:=Tryz.isAgg336
 z213:=Tryz.sizeOf336
 t232:=Tryz.underlying363
 a232:=Tryz.isAgg363
 z232:=Tryz.sizeOf363
 v232:=Tryz.zeroValue363
 t233:=Tryz.underlying364
 a233:=Tryz.isAgg364
 z233:=Tryz.sizeOf364
 v233:=Tryz.zeroValue364
 g17:=by kernel_rfl
 g18:=by kernel_rfl
 g19:=by kernel_rfl
 i0:=by kernel_rfl
 i2:=by kernel_rfl
 i3:=by kernel_rfl
 i4:=by kernel_rfl
 i5:=by kernel_rfl
 i9:=by kernel_rfl
 i20:=by kernel_rfl
 i37:=by kernel_rfl
 i46:=by kernel_rfl
 i51:=by kernel_rfl
 i53:=by kernel_rfl
 i171:=by kernel_rfl
 i173:=by kernel_rfl
 i212:=by kernel_rfl
 i232:=by kernel_rfl
 i233:=by kernel_rfl
 m17:=by kernel_rfl
 m18:=by kernel_rfl
 m19:=by kernel_rfl }
end
end Go.Proofs
namespace Go.Proofs.YtnemkecffmdlnaaGreatDoor
section
inductive Rx where
 |eps
 |cls (S:BitVec 256)
 |cat (a b:Rx)
 |alt (a b:Rx)
 |star (a:Rx)
 |and (a b:Rx)
 |minus (a b:Rx)
abbrev RL:=Nat×Rx
def cA(n:Nat):Nat:=min n 2001
def bf(mk:Rx->Rx->Rx)(a b:RL):RL:=(cA (1+a.1+b.1),mk a.2 b.2)
def bV(t:Rx):RL:=(1,t)
def gz(a:RL):RL:=(cA (1+a.1),.star a.2)
def bO(a:RL):RL:=bf .alt a (bV .eps)
def bH(f:RL->RL):Nat->RL->RL
 |0,x=>x
 |n+1,x=>bH f n (f x)
def dt(a:RL)(m n:Int):RL:=
 if m=0/\n<0 then gz a
 else if m=0/\n=0 then bV .eps
 else if n<0 then bf .cat (bH (λx=>bf .cat x a) (m-1).toNat (if m=0 then bO a else a)) (gz a)
 else bH (λx=>bf .cat x (bO a)) (n-max m 1).toNat (bH (λx=>bf .cat x a) (m-1).toNat (if m=0 then bO a else a))
section
variable (c:Int->Int)(N:Int)(rd:Int->Except (Int×Int) (BitVec 256×Int))
def rK:Nat->Int->Int->Int×Int
 |0,n,i=>(n,i)
 |k+1,n,i=>if i<N/\48<=c i/\c i<=57 then rK k (10*n+(c i-48)) (i+1) else (n,i)
def oP(i:Int):Except (Int×Int) (Int×Int):=
 if (rK c N 3 0 i).2=i then .error (20,i) else .ok (rK c N 3 0 i)
def Q0(m j:Int):Except (Int×Int) (Int×Int):=
 if j<N/\c j=44 then (if ¬ j+1<N\/c (j+1)≠125 then oP c N (j+1) else .ok (-1,j+1)) else .ok (m,j)
def zh(m n j i:Int):Except (Int×Int) (Int×Int×Int):=
 if ¬ j<N\/c j≠125 then .error (20,j)
 else if 255<m\/255<n\/(0<=n/\n<m) then .error (22,i)
 else .ok (m,n,j+1)
def xu(i:Int):Except (Int×Int) (Int×Int×Int):=
 match oP c N (i+1) with
 |.error e=>.error e
 |.ok (m,j)=>match Q0 c N m j with
  |.error e=>.error e
  |.ok (n,j)=>zh c N m n j i
def ke:Nat->RL->Int->Except (Int×Int) (RL×Int)
 |0,r,i=>.ok (r,i)
 | f+1,r,i=>
  if ¬ i<N then .ok (r,i)
  else if c i=42 then ke f (gz r) (i+1)
  else if c i=43 then ke f (bf .cat r (gz r)) (i+1)
  else if c i=63 then ke f (bO r) (i+1)
  else if c i=123 then
   match xu c N i with
   |.error e=>.error e
   |.ok (m,n,j)=>ke f (dt r m n) j
  else .ok (r,i)
def yi(o:Option RL):RL:=o.getD (bV .eps)
def A7(o:Option RL)(p:RL):RL:=match o with
 |none=>p
 |some x=>bf .cat x p
def gV(x:Int):Prop:=x=124\/x=38\/x=45\/x=41
def bI(x:Int):Prop:=x=42\/x=43\/x=63\/x=123
instance (x:Int):Decidable (gV x):=by unfold gV;infer_instance
instance (x:Int):Decidable (bI x):=by unfold bI;infer_instance
def fI(atom:Int->Except (Int×Int) (RL×Int)):Nat->Option RL->Int->Except (Int×Int) (RL×Int)
 |0,o,i=>.ok (yi o,i)
 | f+1,o,i=>
  if ¬ i<N then .ok (yi o,i)
  else if gV (c i) then .ok (yi o,i)
  else if bI (c i) then .error (20,i)
  else match atom i with
   |.error e=>.error e
   |.ok (a,j)=>match ke c N (N.toNat+1) a j with
    |.error e=>.error e
    |.ok (p,k)=>fI atom f (some (A7 o p)) k
def l8(row:Int->Except (Int×Int) (RL×Int)):Nat->RL->Int->Except (Int×Int) (RL×Int)
 |0,o,i=>.ok (o,i)
 | f+1,o,i=>
  if ¬ i<N then .ok (o,i)
  else if c i=38 then match row (i+1) with
   |.error e=>.error e
   |.ok (r,j)=>l8 row f (bf .and o r) j
  else if c i=45 then match row (i+1) with
   |.error e=>.error e
   |.ok (r,j)=>l8 row f (bf .minus o r) j
  else .ok (o,i)
def l7(row:Int->Except (Int×Int) (RL×Int))(i:Int):Except (Int×Int) (RL×Int):=
 match row i with
 |.error e=>.error e
 |.ok (r,j)=>l8 c N row (N.toNat+1) r j
def AS(meet:Int->Except (Int×Int) (RL×Int)):Nat->RL->Int->Except (Int×Int) (RL×Int)
 |0,o,i=>.ok (o,i)
 | f+1,o,i=>
  if i<N/\c i=124 then match meet (i+1) with
   |.error e=>.error e
   |.ok (r,j)=>AS meet f (bf .alt o r) j
  else .ok (o,i)
def ai4(meet:Int->Except (Int×Int) (RL×Int))(i:Int):Except (Int×Int) (RL×Int):=
 match meet i with
 |.error e=>.error e
 |.ok (r,j)=>AS c N meet (N.toNat+1) r j
def zX(atom:Int->Except (Int×Int) (RL×Int)):Int->Except (Int×Int) (RL×Int):=
 ai4 c N (l7 c N (fI c N atom (N.toNat+1) none))
def vI(i:Int):Except (Int×Int) (RL×Int):=match rd i with
 |.error e=>.error e
 |.ok (S,j)=>.ok (bV (.cls S),j)
def xO(i:Int):Except (Int×Int) (RL×Int)->Except (Int×Int) (RL×Int)
 |.error e=>.error e
 |.ok (r,j)=>if ¬ j<N then .error (21,i) else .ok (r,j+1)
def bB:Nat->Int->Except (Int×Int) (RL×Int)
 |0,i=>if c i=40 then .error (23,i) else vI rd i
 |n+1,i=>if c i=40 then xO N i (zX c N (bB n) (i+1)) else vI rd i
def alts(n:Nat):Int->Except (Int×Int) (RL×Int):=zX c N (bB c N rd n)
def T0:Except (Int×Int) (RL×Int)->Except (Int×Int) Rx
 |.error e=>.error e
 |.ok (r,j)=>if j<N then .error (20,j) else if 2000<r.1 then .error (24,0) else .ok r.2
def B7:Except (Int×Int) Rx:=if 1048576<N then .error (1,0) else T0 N (alts c N rd 1000 0)
end
end
section
inductive RT where
 |eps
 |cls (S:BitVec 256)
 |cat (a b:RT)
 |alt (a b:RT)
 |and (a b:RT)
 |minus (a b:RT)
 |rep (a:RT) (m n:Int)
def kL(x:Rx)(m:Int)(k:Int):Rx:=if k<m then x else .alt x .eps
def fQ(x:Rx)(m:Int):Nat->Int->Rx->Rx
 |0,_,w=>w
 |n+1,k,w=>fQ x m n (k+1) (.cat w (kL x m k))
def rO(m:Int):Int:=if m=-2 then 1 else m
def kz(x:Rx)(m n:Int):Rx:=
 if n<0/\rO m=0 then .star x
 else if n=0 then .eps
 else if n<0 then .cat (fQ x (rO m) (rO m-1).toNat 1 (kL x (rO m) 0)) (.star x)
 else fQ x (rO m) (n-1).toNat 1 (kL x (rO m) 0)
def gE(a m n:Int):Int:=
 if m=-2 then a+1+a+1
 else if n<0/\m=0 then a+1
 else if n<0 then m*a+m-1+1+a+1
 else if n=0 then 1
 else if m=0 then n*(a+2)+n-1
 else m*a+m-1+(n-m)*(a+2+1)
def RT.expand:RT->Rx
 |.eps=>.eps
 |.cls S=>.cls S
 |.cat a b=>.cat a.expand b.expand
 |.alt a b=>.alt a.expand b.expand
 |.and a b=>.and a.expand b.expand
 |.minus a b=>.minus a.expand b.expand
 |.rep a m n=>kz a.expand m n
def RT.sz:RT->Nat
 |.eps=>1
 |.cls S=>1
 |.cat a b=>cA (1+a.sz+b.sz)
 |.alt a b=>cA (1+a.sz+b.sz)
 |.and a b=>cA (1+a.sz+b.sz)
 |.minus a b=>cA (1+a.sz+b.sz)
 |.rep a m n=>cA (gE a.sz m n).toNat
def RT.val(t:RT):RL:=(t.sz,t.expand)
theorem lA(n:Nat):cA n<=2001:=by unfold cA;omega
theorem NI(a b:Nat):cA (1+cA a+b)=cA (1+a+b):=by unfold cA;omega
theorem NJ(a b:Nat):cA (1+a+cA b)=cA (1+a+b):=by unfold cA;omega
theorem GF{n:Nat}(h:n<=2001):cA n=n:=by unfold cA;omega
theorem oE(y:RL):∀ (k:Nat) (s:Nat) (w:Rx),(bH (λx=>bf .cat x y) k (cA s,w)).1=cA (s+k*(1+y.1))
 |0,s,w=>by simp[bH]
 |k+1,s,w=>by
  show (bH (λx=>bf .cat x y) k (cA (1+cA s+y.1),.cat w y.2)).1=_;rw[NI,oE y k,Nat.succ_mul]
  congr 1
  omega
theorem Bz(x:Rx)(y:RL)(m:Int)(hy:y.2=x):∀ (n:Nat) (k:Int) (s:Nat) (w:Rx),k+n<=m->(bH (λz=>bf .cat z y) n (s,w)).2=fQ x m n k w
 |0,k,s,w,_=>rfl
 |n+1,k,s,w,h=>by
  have hpx:kL x m k=y.2:=by rw[kL,if_pos (by omega),hy]
  show (bH (λz=>bf .cat z y) n (cA (1+s+y.1),.cat w y.2)).2=fQ x m n (k+1) (.cat w (kL x m k));rw[hpx];exact Bz x y m hy n (k+1) _ _ (by omega)
theorem By(x:Rx)(y:RL)(m:Int)(hy:y.2=.alt x .eps):∀ (n:Nat) (k:Int) (s:Nat) (w:Rx),m<=k->(bH (λz=>bf .cat z y) n (s,w)).2=fQ x m n k w
 |0,k,s,w,_=>rfl
 |n+1,k,s,w,h=>by
  have hpx:kL x m k=y.2:=by rw[kL,if_neg (by omega),hy]
  show (bH (λz=>bf .cat z y) n (cA (1+s+y.1),.cat w y.2)).2=fQ x m n (k+1) (.cat w (kL x m k));rw[hpx];exact By x y m hy n (k+1) _ _ (by omega)
theorem A9(x:Rx)(m:Int):∀ (a b:Nat) (k:Int) (w:Rx),fQ x m (a+b) k w=fQ x m b (k+a) (fQ x m a k w)
 |0,b,k,w=>by simp[fQ]
 |a+1,b,k,w=>by
  rw[Nat.succ_add];simp only[fQ];rw[A9 x m a b]
  congr 1
  omega
theorem CG(t:RT):gz t.val=(RT.rep t 0 (-1)).val:=by
 simp only[gz,RT.val,RT.sz,RT.expand,kz,rO,gE];simp
 congr 1
 omega
theorem Cf(t:RT):bf .cat t.val (gz t.val)=(RT.rep t (-2) (-1)).val:=by
 simp only[gz,bf,RT.val,RT.sz,RT.expand,kz,rO,gE,fQ,kL];simp[fQ];rw[NJ]
 congr 1
 omega
theorem Fs(t:RT):bO t.val=(RT.rep t 0 1).val:=by
 simp only[bO,bV,gz,bf,RT.val,RT.sz,RT.expand,kz,rO,gE,fQ,kL];simp[fQ]
 congr 1
 omega
theorem JZ(p k s:Nat):cA (p+k*(1+cA s))=cA (p+k*(1+s)):=by
 by_cases h:s<=2001
 ·rw[GF h]
 ·have e:cA s=2001:=by unfold cA;omega
  rw[e];cases k with
  |zero=>simp
  |succ k=>
   have h1:=Nat.succ_mul k (1+2001);have h2:=Nat.succ_mul k (1+s);unfold cA;rw[h1,h2];omega
theorem Ho{α β:Type}{x:α×β}{a:α}{b:β}(h1:x.1=a)(h2:x.2=b):x=(a,b):=by rw[<- h1,<- h2]
theorem yI(t:RT)(m n:Int)(h0:0<=m)(h1:n=-1\/(0<=n/\m<=n))(ht:t.sz<=2001):dt t.val m n=(RT.rep t m n).val:=by
 have hp:rO m=m:=by unfold rO;rw[if_neg (by omega)]
 have hm2:¬ m=-2:=by omega
 rcases h1 with rfl|⟨hn,hmn⟩
 ·by_cases hm:m=0
  ·subst hm;rw[<- CG];rfl
  ·obtain⟨a,rfl⟩:∃ a:Nat,m=(a:Int)+1:=⟨(m-1).toNat,by omega⟩;have e1:((a:Int)+1-1).toNat=a:=by omega
   have e2:dt t.val ((a:Int)+1) (-1)=bf .cat (bH (λx=>bf .cat x t.val) a t.val) (gz t.val):=by
    unfold dt;rw[if_neg (by omega),if_neg (by omega),if_pos (by omega),e1,if_neg hm]
   rw[e2];apply Ho
   ·show cA (1+(bH (λx=>bf .cat x t.val) a t.val).1+cA (1+t.sz))=cA (gE t.sz ((a:Int)+1) (-1)).toNat;have e3:(bH (λx=>bf .cat x t.val) a t.val).1=cA (t.sz+a*(1+t.sz)):=by
     have:=oE t.val a t.sz t.expand;rw[GF ht]at this;exact this
    have e4:gE t.sz ((a:Int)+1) (-1)=((1+(t.sz+a*(1+t.sz))+(1+t.sz):Nat):Int):=by
     unfold gE;rw[if_neg hm2,if_neg (by omega),if_pos (by omega)];have g1:((a:Int)+1)*(t.sz:Int)=(a:Int)*t.sz+t.sz:=by rw[Int.add_mul];omega
     have g2:a*(1+t.sz)=a+a*t.sz:=by rw[Nat.mul_add];omega
     rw[g1,g2];have g3:((a*t.sz:Nat):Int)=(a:Int)*t.sz:=by simp
     omega
    rw[e3,e4,NI,NJ,Int.toNat_natCast]
   ·show Rx.cat (bH (λx=>bf .cat x t.val) a t.val).2 (.star t.expand)=kz t.expand ((a:Int)+1) (-1);unfold kz;rw[hp,if_neg (by omega),if_neg (by omega),if_pos (by omega),e1];have:=Bz t.expand t.val ((a:Int)+1) rfl a 1 t.sz t.expand (by omega)
    rw[show kL t.expand ((a:Int)+1) 0=t.expand from by unfold kL;rw[if_pos (by omega)]];rw[<- this];rfl
 ·by_cases hm:m=0
  ·subst hm;by_cases hn0:n=0
   ·subst hn0;rfl
   ·obtain⟨b,rfl⟩:∃ b:Nat,n=(b:Int)+1:=⟨(n-1).toNat,by omega⟩;have e1:((b:Int)+1-max 0 1).toNat=b:=by omega
    have e2:dt t.val 0 ((b:Int)+1)=bH (λx=>bf .cat x (bO t.val)) b (bO t.val):=by
     unfold dt;rw[if_neg (by omega),if_neg (by omega),if_neg (by omega),e1,if_pos rfl];rfl
    rw[e2];apply Ho
    ·have e3:(bH (λx=>bf .cat x (bO t.val)) b (bO t.val)).1=cA ((t.sz+2)+b*(1+(t.sz+2))):=by
      have:=oE (bO t.val) b (1+t.sz+1) (.alt t.expand .eps);rw[show (bO t.val).1=cA (t.sz+2) from by show cA (1+t.sz+1)=_;congr 1;omega,JZ]at this;rw[show 1+t.sz+1=t.sz+2 by omega]at this;rw[<- this];show (bH _ b (cA (1+t.sz+1),_)).1=_;rw[show 1+t.sz+1=t.sz+2 by omega];rfl
     have e4:gE t.sz 0 ((b:Int)+1)=(((t.sz+2)+b*(1+(t.sz+2)):Nat):Int):=by
      unfold gE;rw[if_neg (by omega),if_neg (by omega),if_neg (by omega),if_neg (by omega),if_pos rfl];have g1:((b:Int)+1)*((t.sz:Int)+2)=(b:Int)*t.sz+2*b+t.sz+2:=by rw[Int.add_mul,Int.mul_add];omega
      have g2:b*(1+(t.sz+2))=b*t.sz+3*b:=by rw[show 1+(t.sz+2)=t.sz+3 by omega,Nat.mul_add];omega
      rw[g1,g2];have g3:((b*t.sz:Nat):Int)=(b:Int)*t.sz:=by simp
      omega
     rw[e3];show _=cA (gE t.sz 0 ((b:Int)+1)).toNat;rw[e4,Int.toNat_natCast]
    ·show _=kz t.expand 0 ((b:Int)+1);unfold kz;rw[hp,if_neg (by omega),if_neg (by omega),if_neg (by omega),show ((b:Int)+1-1).toNat=b by omega];have:=By t.expand (bO t.val) 0 rfl b 1 (bO t.val).1 (.alt t.expand .eps) (by omega)
     rw[show kL t.expand 0 0=.alt t.expand .eps from by unfold kL;rw[if_neg (by omega)]];rw[<- this];rfl
  ·obtain⟨a,rfl⟩:∃ a:Nat,m=(a:Int)+1:=⟨(m-1).toNat,by omega⟩;obtain⟨d,rfl⟩:∃ d:Nat,n=(a:Int)+1+d:=⟨(n-(a+1)).toNat,by omega⟩;have e1:((a:Int)+1-1).toNat=a:=by omega
   have e0:((a:Int)+1+d-max ((a:Int)+1) 1).toNat=d:=by omega
   have e2:dt t.val ((a:Int)+1) ((a:Int)+1+d)=bH (λx=>bf .cat x (bO t.val)) d (bH (λx=>bf .cat x t.val) a t.val):=by
    unfold dt;rw[if_neg (by omega),if_neg (by omega),if_neg (by omega),e0,e1,if_neg hm]
   have e3:(bH (λx=>bf .cat x t.val) a t.val).1=cA (t.sz+a*(1+t.sz)):=by
    have:=oE t.val a t.sz t.expand;rw[GF ht]at this;exact this
   have e5:(bH (λx=>bf .cat x t.val) a t.val).2=fQ t.expand ((a:Int)+1) a 1 t.expand:=Bz t.expand t.val ((a:Int)+1) rfl a 1 t.sz t.expand (by omega);have e6:bH (λx=>bf .cat x t.val) a t.val=(cA (t.sz+a*(1+t.sz)),fQ t.expand ((a:Int)+1) a 1 t.expand):=Ho e3 e5;rw[e2,e6];apply Ho
   ·have e4:gE t.sz ((a:Int)+1) ((a:Int)+1+d)=((t.sz+a*(1+t.sz)+d*(1+(t.sz+2)):Nat):Int):=by
     unfold gE;rw[if_neg hm2,if_neg (by omega),if_neg (by omega),if_neg (by omega),if_neg hm];have g1:((a:Int)+1)*(t.sz:Int)=(a:Int)*t.sz+t.sz:=by rw[Int.add_mul];omega
     have g2:a*(1+t.sz)=a+a*t.sz:=by rw[Nat.mul_add];omega
     have g4:((a:Int)+1+d-((a:Int)+1))*((t.sz:Int)+2+1)=(d:Int)*t.sz+3*d:=by
      rw[show (a:Int)+1+d-((a:Int)+1)=d by omega,show (t.sz:Int)+2+1=t.sz+3 by omega,Int.mul_add];omega
     have g5:d*(1+(t.sz+2))=d*t.sz+3*d:=by rw[show 1+(t.sz+2)=t.sz+3 by omega,Nat.mul_add];omega
     rw[g1,g2,g4,g5];have g3:((a*t.sz:Nat):Int)=(a:Int)*t.sz:=by simp
     have g6:((d*t.sz:Nat):Int)=(d:Int)*t.sz:=by simp
     omega
    show _=cA (gE t.sz ((a:Int)+1) ((a:Int)+1+d)).toNat;rw[e4,Int.toNat_natCast,oE];rw[show (bO t.val).1=cA (t.sz+2) from by show cA (1+t.sz+1)=_;congr 1;omega,JZ]
   ·show _=kz t.expand ((a:Int)+1) ((a:Int)+1+d);unfold kz;rw[hp,if_neg (by omega),if_neg (by omega),if_neg (by omega),show ((a:Int)+1+d-1).toNat=a+d by omega,A9];rw[show kL t.expand ((a:Int)+1) 0=t.expand from by unfold kL;rw[if_pos (by omega)]]
    exact By t.expand (bO t.val) ((a:Int)+1) rfl d (1+a) _ _ (by omega)
theorem zQ(t:RT):t.sz<=2001:=by
 cases t<;>simp only[RT.sz]<;>first|exact lA _|omega
end
section
structure Lv where
 place:Int
 alt:Option RT
 meet:Option RT
 sgn:Int
 row:Option RT
 fac:Option RT
def iZ(i:Int):Lv:=⟨i,none,none,0,none,none⟩
def aln:Option RT->RT->RT
 |none,p=>p
 |some r,p=>.cat r p
def rowOf(row fac:Option RT):Option RT:=match fac with
 |none=>row
 |some p=>some (aln row p)
def fz(f:Lv):Lv:={ f with row:=rowOf f.row f.fac,fac:=none }
def l9(meet:Option RT)(sgn:Int)(r:RT):RT:=match meet with
 |none=>r
 |some m=>if sgn=38 then .and m r else .minus m r
def np(f:Lv):Lv:={ f with meet:=some (l9 f.meet f.sgn ((rowOf f.row f.fac).getD .eps)),row:=none,fac:=none }
def XH(alt:Option RT)(m:RT):RT:=match alt with
 |none=>m
 |some a=>.alt a m
def fm(f:Lv):RT:=l9 f.meet f.sgn ((rowOf f.row f.fac).getD .eps)
def jO(f:Lv):RT:=XH f.alt (fm f)
def xP(f:Lv):Lv:={ f with alt:=some (jO f),meet:=none,row:=none,fac:=none }
section
variable (c:Int->Int)(N:Int)(rd:Int->Except (Int×Int) (BitVec 256×Int))
def rP(i:Int)(f:Lv)(p:RT):Except (Int×Int) (Int×Lv):=
 if c i=42 then .ok (i+1,{ f with fac:=some (.rep p 0 (-1)) })
 else if c i=43 then .ok (i+1,{ f with fac:=some (.rep p (-2) (-1)) })
 else if c i=63 then .ok (i+1,{ f with fac:=some (.rep p 0 1) })
 else match xu c N i with
  |.error e=>.error e
  |.ok (m,n,j)=>.ok (j,{ f with fac:=some (.rep p m n) })
def fq(i:Int)(f:Lv)(rest:List Lv):Except (Int×Int) (Int×Lv×List Lv):=
 if bI (c i) then
  match f.fac with
  |none=>.error (20,i)
  |some p=>match rP c N i f p with
   |.error e=>.error e
   |.ok (j,g)=>.ok (j,g,rest)
 else if c i=124 then .ok (i+1,xP f,rest)
 else if c i=38\/c i=45 then .ok (i+1,{ np f with sgn:=c i },rest)
 else if c i=41 then
  match rest with
  |[]=>.error (20,i)
  |g::r=>.ok (i+1,{ g with fac:=some (jO f) },r)
 else if c i=40 then
  if 1000<rest.length+1 then .error (23,i) else .ok (i+1,iZ i,fz f::rest)
 else match rd i with
  |.error e=>.error e
  |.ok (S,j)=>.ok (j,{ fz f with fac:=some (.cls S) },rest)
def runN:Nat->Int->Lv->List Lv->Except (Int×Int) (Lv×List Lv)
 |0,_,f,rest=>.ok (f,rest)
 | n+1,i,f,rest=>
  if i<N then match fq c N rd i f rest with
   |.error e=>.error e
   |.ok (j,g,r)=>runN n j g r
  else .ok (f,rest)
def run(i:Int)(f:Lv)(rest:List Lv):Except (Int×Int) (Lv×List Lv):=runN c N rd ((N-i).toNat+1) i f rest
def rn:Except (Int×Int) (Lv×List Lv)->Except (Int×Int) RT
 |.error e=>.error e
 |.ok (f,rest)=>if rest≠[] then .error (21,f.place) else if 2000<(jO f).sz then .error (24,0) else .ok (jO f)
def rM:Except (Int×Int) RT:=if 1048576<N then .error (1,0) else rn (run c N rd 0 (iZ (-1)) [])
variable {c N rd}
def xA(N:Int)(rd:Int->Except (Int×Int) (BitVec 256×Int)):Prop:=∀ i S j,0<=i->i<N->rd i=.ok (S,j)->i<j/\j<=N
theorem aeY:∀ (k:Nat) (n i:Int),i<=(rK c N k n i).2/\((rK c N k n i).2<=N\/(rK c N k n i).2=i):=by
 intro k
 induction k with
 |zero=>intro n i;exact⟨Int.le_refl _,.inr rfl⟩
 | succ k ih=>
  intro n i;simp only[rK];split
  ·have:=ih (10*n+(c i-48)) (i+1);omega
  ·exact⟨Int.le_refl _,.inr rfl⟩
theorem Ax{i n j:Int}(h:oP c N i=.ok (n,j)):i<j/\j<=N:=by
 have:=aeY (c:=c) (N:=N) 3 0 i;unfold oP at h;split at h
 ·cases h
 ·simp only[Except.ok.injEq]at h;rw[h]at this;rename_i hne;rw[h]at hne;simp only at this hne;omega
theorem GC{i m n j:Int}(h:xu c N i=.ok (m,n,j)):i<j/\j<=N:=by
 unfold xu at h;cases h1:oP c N (i+1) with
 |error e=>rw[h1]at h;cases h
 | ok p=>
  obtain⟨m',j'⟩:=p;rw[h1]at h;simp only at h;have g1:=Ax h1;cases h2:Q0 c N m' j' with
  |error e=>rw[h2]at h;cases h
  | ok p=>
   obtain⟨n',j2⟩:=p;rw[h2]at h;simp only at h;have g2:j' <= j2/\j2<=N:=by
    unfold Q0 at h2;split at h2
    ·split at h2
     ·have:=Ax h2;omega
     ·simp only[Except.ok.injEq,Prod.mk.injEq]at h2;omega
    ·simp only[Except.ok.injEq,Prod.mk.injEq]at h2;omega
   unfold zh at h;split at h
   ·cases h
   ·split at h
    ·cases h
    ·simp only[Except.ok.injEq,Prod.mk.injEq]at h;omega
theorem X6{i m n j:Int}(h:xu c N i=.ok (m,n,j)):0<=m/\(n=-1\/(0<=n/\m<=n)):=by
 have nn:∀ (k:Nat) (n i:Int),0<=n->0<=(rK c N k n i).1:=by
  intro k
  induction k with
  |zero=>intro n i h;exact h
  |succ k ih=>
   intro n i h;simp only[rK];split
   ·exact ih _ _ (by omega)
   ·exact h
 have ne:∀ {i n j:Int},oP c N i=.ok (n,j)->0<=n:=λ{i n j} h=>by
  unfold oP at h;split at h
  ·cases h
  ·simp only[Except.ok.injEq]at h;have:=nn 3 0 i (by omega);rw[h]at this;exact this
 unfold xu at h;cases h1:oP c N (i+1) with
 |error e=>rw[h1]at h;cases h
 | ok p=>
  obtain⟨m',j'⟩:=p;rw[h1]at h;simp only at h;have g1:=ne h1;cases h2:Q0 c N m' j' with
  |error e=>rw[h2]at h;cases h
  | ok p=>
   obtain⟨n',j2⟩:=p;rw[h2]at h;simp only at h;have g2:n' = -1\/0<=n' := by
    unfold Q0 at h2;split at h2
    ·split at h2
     ·exact .inr (ne h2)
     ·simp only[Except.ok.injEq,Prod.mk.injEq]at h2;omega
    ·simp only[Except.ok.injEq,Prod.mk.injEq]at h2;omega
   unfold zh at h;split at h
   ·cases h
   ·split at h
    ·cases h
    ·simp only[Except.ok.injEq,Prod.mk.injEq]at h;obtain⟨rfl,rfl,_⟩:=h;omega
theorem L4(hrd:xA N rd){i j:Int}{f g:Lv}{rest r:List Lv}(h0:0<=i)(hi:i<N)(h:fq c N rd i f rest=.ok (j,g,r)):i<j/\j<=N:=by
 unfold fq at h;split at h
 ·cases hf:f.fac with
  |none=>rw[hf]at h;cases h
  | some p=>
   rw[hf]at h;simp only at h;cases hp:rP c N i f p with
   |error e=>rw[hp]at h;cases h
   | ok q=>
    obtain⟨j',g'⟩:=q;rw[hp]at h;simp only[Except.ok.injEq,Prod.mk.injEq]at h;obtain⟨rfl,rfl,rfl⟩:=h;unfold rP at hp;split at hp
    ·simp only[Except.ok.injEq,Prod.mk.injEq]at hp;omega
    ·split at hp
     ·simp only[Except.ok.injEq,Prod.mk.injEq]at hp;omega
     ·split at hp
      ·simp only[Except.ok.injEq,Prod.mk.injEq]at hp;omega
      ·cases hb:xu c N i with
       |error e=>rw[hb]at hp;cases hp
       |ok q=>
        obtain⟨m,n,k⟩:=q;rw[hb]at hp;simp only[Except.ok.injEq,Prod.mk.injEq]at hp;have:=GC hb;omega
 ·split at h
  ·simp only[Except.ok.injEq,Prod.mk.injEq]at h;omega
  ·split at h
   ·simp only[Except.ok.injEq,Prod.mk.injEq]at h;omega
   ·split at h
    ·cases rest with
     |nil=>cases h
     |cons g r=>simp only[Except.ok.injEq,Prod.mk.injEq]at h;omega
    ·split at h
     ·split at h
      ·cases h
      ·simp only[Except.ok.injEq,Prod.mk.injEq]at h;omega
     ·cases hS:rd i with
      |error e=>rw[hS]at h;cases h
      |ok q=>
       obtain⟨S,k⟩:=q;rw[hS]at h;simp only[Except.ok.injEq,Prod.mk.injEq]at h;have:=hrd i S k h0 hi hS;omega
theorem V1(hrd:xA N rd):∀ (n m:Nat) (i:Int) (f:Lv) (rest:List Lv),0<=i->N-i<n->N-i<m->runN c N rd n i f rest=runN c N rd m i f rest:=by
 intro n
 induction n with
 |zero=>
  intro m i f rest h0 h1 h2;cases m with
  |zero=>rfl
  |succ m=>simp only[runN];rw[if_neg (by omega)]
 | succ n ih=>
  intro m i f rest h0 h1 h2;cases m with
  |zero=>simp only[runN];rw[if_neg (by omega)]
  | succ m=>
   simp only[runN];by_cases hi:i<N
   ·rw[if_pos hi,if_pos hi];cases hs:fq c N rd i f rest with
    |error e=>rfl
    |ok q=>
     obtain⟨j,g,r⟩:=q;have:=L4 hrd h0 hi hs;exact ih m j g r (by omega) (by omega) (by omega)
   ·rw[if_neg hi,if_neg hi]
theorem So{i:Int}{f:Lv}{rest:List Lv}(hi:¬ i<N):run c N rd i f rest=.ok (f,rest):=by
 unfold run;simp only[runN];rw[if_neg hi]
theorem ir(hrd:xA N rd){i:Int}{f:Lv}{rest:List Lv}(h0:0<=i)(hi:i<N):run c N rd i f rest=match fq c N rd i f rest with
  |.error e=>.error e
  |.ok (j,g,r)=>run c N rd j g r:=by
 unfold run;rw[runN,if_pos hi];cases hs:fq c N rd i f rest with
 |error e=>rfl
 |ok q=>
  obtain⟨j,g,r⟩:=q;have:=L4 hrd h0 hi hs;exact V1 hrd _ _ j g r (by omega) (by omega) (by omega)
theorem afe(hrd:xA N rd):∀ (n:Nat) (i:Int) (p:RT) (f:Lv) (rest:List Lv),0<=i->i<=N->N-i<n->f.fac=some p ->
  match ke c N n p.val i with
  |.error e=>rn (run c N rd i f rest)=.error e
  |.ok (r,j)=>i<=j/\j<=N/\(j<N->¬ bI (c j))/\∃ q,r=RT.val q/\run c N rd i f rest=run c N rd j { f with fac:=some q } rest:=by
 intro n
 induction n with
 |zero=>intro i p f rest _ _ h;omega
 | succ n ih=>
  intro i p f rest h0 hiN hn hf;have same:f={ f with fac:=some p }:=by cases f;simp only at hf;subst hf;rfl
  have go:∀ (q:RT) (j:Int),i<j->j<=N->fq c N rd i f rest=.ok (j,{ f with fac:=some q },rest)->∀ res,ke c N (n+1) p.val i=res->ke c N n q.val j=res ->
    match res with
    |.error e=>rn (run c N rd i f rest)=.error e
    |.ok (r,j)=>i<=j/\j<=N/\(j<N->¬ bI (c j))/\∃ q,r=RT.val q/\run c N rd i f rest=run c N rd j { f with fac:=some q } rest:=by
   intro q j hij hjN hs res _ hr;have:=ih j q { f with fac:=some q } rest (by omega) hjN (by omega) rfl;rw[hr]at this;have hi:i<N:=by omega
   rw[ir hrd h0 hi,hs];cases res with
   |error e=>exact this
   |ok x=>
    obtain⟨r,k⟩:=x;obtain⟨g1,g2,g3,q',g4,g5⟩:=this;exact⟨by omega,g2,g3,q',g4,g5⟩
  by_cases hi:i<N
  ·have hP:∀ x,bI (c i)->rP c N i f p=x->fq c N rd i f rest=match x with|.error e=>.error e|.ok (j,g)=>.ok (j,g,rest):=λx hp hx=>by
    unfold fq;rw[if_pos hp,hf];simp only[hx]
   have hE:ke c N (n+1) p.val i=if c i=42 then ke c N n (gz p.val) (i+1)
     else if c i=43 then ke c N n (bf .cat p.val (gz p.val)) (i+1)
     else if c i=63 then ke c N n (bO p.val) (i+1)
     else if c i=123 then
      match xu c N i with
      |.error e=>.error e
      |.ok (m,n',j)=>ke c N n (dt p.val m n') j
     else .ok (p.val,i):=by
    rw[ke,if_neg (by omega)]
    all_goals rfl
   by_cases h42:c i=42
   ·rw[hE,if_pos h42,CG];exact go _ (i+1) (by omega) (by omega) (by rw[hP _ (by unfold bI;omega) rfl];unfold rP;rw[if_pos h42]) _ (by rw[hE,if_pos h42,CG]) rfl
   ·by_cases h43:c i=43
    ·rw[hE,if_neg h42,if_pos h43,Cf];exact go _ (i+1) (by omega) (by omega) (by rw[hP _ (by unfold bI;omega) rfl];unfold rP;rw[if_neg h42,if_pos h43]) _ (by rw[hE,if_neg h42,if_pos h43,Cf]) rfl
    ·by_cases h63:c i=63
     ·rw[hE,if_neg h42,if_neg h43,if_pos h63,Fs];exact go _ (i+1) (by omega) (by omega) (by rw[hP _ (by unfold bI;omega) rfl];unfold rP;rw[if_neg h42,if_neg h43,if_pos h63]) _ (by rw[hE,if_neg h42,if_neg h43,if_pos h63,Fs]) rfl
     ·by_cases h123:c i=123
      ·have hps:rP c N i f p=match xu c N i with
         |.error e=>.error e
         |.ok (m,n,j)=>.ok (j,{ f with fac:=some (.rep p m n) }):=by
        unfold rP;rw[if_neg h42,if_neg h43,if_neg h63]
       rw[hE,if_neg h42,if_neg h43,if_neg h63,if_pos h123];cases hb:xu c N i with
       |error e=>
        simp only;rw[ir hrd h0 hi,hP _ (by unfold bI;omega) hps,hb];rfl
       |ok x=>
        obtain⟨m,n',j⟩:=x;have g1:=GC hb;obtain⟨g2,g3⟩:=X6 hb;simp only;rw[yI p m n' g2 g3 (zQ p)];exact go _ j g1.1 g1.2 (by rw[hP _ (by unfold bI;omega) hps,hb]) _ (by rw[hE,if_neg h42,if_neg h43,if_neg h63,if_pos h123,hb];simp only;rw[yI p m n' g2 g3 (zQ p)]) rfl
      ·rw[hE,if_neg h42,if_neg h43,if_neg h63,if_neg h123];exact⟨Int.le_refl _,by omega,λ_ hp=>by unfold bI at hp;omega,p,rfl,by rw[<- same]⟩
  ·rw[ke,if_pos hi];exact⟨Int.le_refl _,hiN,λh=>absurd h hi,p,rfl,by rw[<- same]⟩
def xy(c:Int->Int)(N:Int)(rd:Int->Except (Int×Int) (BitVec 256×Int))(n:Nat):Prop:=∀ (i:Int) (f:Lv) (rest:List Lv),0<=i->i<N->¬ gV (c i)->¬ bI (c i)->rest.length+n=1000 ->
  match bB c N rd n i with
  |.error e=>rn (run c N rd i f rest)=.error e
  |.ok (r,j)=>i<j/\j<=N/\∃ t,r=RT.val t/\run c N rd i f rest=run c N rd j { fz f with fac:=some t } rest
theorem K5(o:Option RT):yi (o.map RT.val)=(o.getD .eps).val:=by cases o<;>rfl
theorem X9(o:Option RT)(p:RT):A7 (o.map RT.val) p.val=(aln o p).val:=by cases o<;>rfl
theorem HD(hrd:xA N rd){n:Nat}(ha:xy c N rd n):∀ (k:Nat) (i:Int) (f:Lv) (rest:List Lv),0<=i->i<=N->N-i<k->(f.fac≠none->i<N->¬ bI (c i))->rest.length+n=1000 ->
  match fI c N (bB c N rd n) k ((rowOf f.row f.fac).map RT.val) i with
  |.error e=>rn (run c N rd i f rest)=.error e
  |.ok (r,j)=>i<=j/\j<=N/\(j<N->gV (c j))/\∃ row fac,r=((rowOf row fac).getD .eps).val/\run c N rd i f rest=run c N rd j { f with row:=row,fac:=fac } rest:=by
 intro k
 induction k with
 |zero=>intro i f rest _ _ h;omega
 | succ k ih=>
  intro i f rest h0 hiN hk hp hd;by_cases hi:i<N
  ·by_cases he:gV (c i)
   ·rw[fI,if_neg (by omega),if_pos he,K5];exact⟨Int.le_refl _,hiN,λ_=>he,f.row,f.fac,rfl,rfl⟩
   ·by_cases hps:bI (c i)
    ·rw[fI,if_neg (by omega),if_neg he,if_pos hps];have hf:f.fac=none:=by
      cases hf:f.fac with
      |none=>rfl
      |some p=>exact absurd hps (hp (by rw[hf];simp) hi)
     simp only;rw[ir hrd h0 hi];unfold fq;rw[if_pos hps,hf];rfl
    ·rw[fI,if_neg (by omega),if_neg he,if_neg hps];have h1:=ha i f rest h0 hi he hps hd;cases hA:bB c N rd n i with
     |error e=>rw[hA]at h1;exact h1
     | ok x=>
      obtain⟨a,j⟩:=x;rw[hA]at h1;obtain⟨g1,g2,t,rfl,g3⟩:=h1;have h2:=afe (c:=c) hrd (N.toNat+1) j t { fz f with fac:=some t } rest (by omega) g2 (by omega) rfl;simp only;cases hR:ke c N (N.toNat+1) t.val j with
      |error e=>rw[hR]at h2;simp only at h2 ⊢;rw[g3,h2]
      | ok y=>
       obtain⟨p,l⟩:=y;rw[hR]at h2;obtain⟨g4,g5,g6,q,rfl,g7⟩:=h2;simp only;have h3:=ih l { fz f with fac:=some q } rest (by omega) g5 (by omega) (λ_=>g6) hd;have e1:some (A7 ((rowOf f.row f.fac).map RT.val) q.val)=(rowOf (fz f).row (some q)).map RT.val:=by
        rw[X9];rfl
       rw[e1];simp only at h3;revert h3;cases fI c N (bB c N rd n) k ((rowOf (fz f).row (some q)).map RT.val) l with
       |error e=>intro h3;simp only at h3 ⊢;rw[g3,g7,h3]
       |ok z=>
        obtain⟨r,m⟩:=z;rintro⟨g8,g9,g10,row,fac,g11,g12⟩;exact⟨by omega,g9,g10,row,fac,g11,by rw[g3,g7,g12];rfl⟩
  ·rw[fI,if_pos hi,K5];exact⟨Int.le_refl _,hiN,λh=>absurd h hi,f.row,f.fac,rfl,rfl⟩
theorem U7(hrd:xA N rd){n:Nat}(ha:xy c N rd n):∀ (k:Nat) (i:Int) (f:Lv) (rest:List Lv),0<=i->i<=N->N-i<k->(i<N->gV (c i))->rest.length+n=1000 ->
  match l8 c N (fI c N (bB c N rd n) (N.toNat+1) none) k (fm f).val i with
  |.error e=>rn (run c N rd i f rest)=.error e
  |.ok (r,j)=>i<=j/\j<=N/\(j<N->c j=124\/c j=41)/\∃ g:Lv,g.place=f.place/\g.alt=f.alt/\r=(fm g).val/\run c N rd i f rest=run c N rd j g rest:=by
 intro k
 induction k with
 |zero=>intro i f rest _ _ h;omega
 | succ k ih=>
  intro i f rest h0 hiN hk he hd;by_cases hi:i<N
  ·have go:∀ (mk:RT->RT->RT) (mkx:Rx->Rx->Rx),(∀ a b:RT,bf mkx a.val b.val=(mk a b).val)->(c i=38\/c i=45)->(∀ (m:RT) (g:Lv),g.meet=some m->g.sgn=c i->fm g=mk m ((rowOf g.row g.fac).getD .eps)) ->
     match (match fI c N (bB c N rd n) (N.toNat+1) none (i+1) with
      |.error e=>(.error e:Except (Int×Int) (RL×Int))
      |.ok (r,j)=>l8 c N (fI c N (bB c N rd n) (N.toNat+1) none) k (bf mkx (fm f).val r) j) with
     |.error e=>rn (run c N rd i f rest)=.error e
     |.ok (r,j)=>i<=j/\j<=N/\(j<N->c j=124\/c j=41)/\∃ g:Lv,g.place=f.place/\g.alt=f.alt/\r=(fm g).val/\run c N rd i f rest=run c N rd j g rest:=by
    intro mk mkx hmk hc hmt;have hs:fq c N rd i f rest=.ok (i+1,{ np f with sgn:=c i },rest):=by
     unfold fq;rw[if_neg (by unfold bI;omega),if_neg (by omega),if_pos hc]
    have h1:=HD hrd ha (N.toNat+1) (i+1) { np f with sgn:=c i } rest (by omega) (by omega) (by omega) (λh=>absurd rfl h) hd;have hr:run c N rd i f rest=run c N rd (i+1) { np f with sgn:=c i } rest:=by rw[ir hrd h0 hi,hs]
    have e0:(rowOf ({ np f with sgn:=c i }:Lv).row ({ np f with sgn:=c i }:Lv).fac).map RT.val=none:=rfl;rw[e0]at h1;revert h1;cases fI c N (bB c N rd n) (N.toNat+1) none (i+1) with
    |error e=>intro h1;simp only at h1 ⊢;rw[hr];exact h1
    | ok z=>
     obtain⟨r,j⟩:=z;rintro⟨g1,g2,g3,row,fac,rfl,g4⟩;simp only;rw[hmk];have hg:mk (fm f) ((rowOf row fac).getD .eps)=fm { np f with sgn:=c i,row:=row,fac:=fac }:=(hmt (fm f) { np f with sgn:=c i,row:=row,fac:=fac } rfl rfl).symm;rw[hg]
     have h2:=ih j { np f with sgn:=c i,row:=row,fac:=fac } rest (by omega) g2 (by omega) g3 hd;revert h2;cases l8 c N (fI c N (bB c N rd n) (N.toNat+1) none) k (fm { np f with sgn:=c i,row:=row,fac:=fac }).val j with
     |error e=>intro h2;simp only at h2 ⊢;rw[hr];exact (congrArg rn g4).trans h2
     |ok y=>
      obtain⟨r2,j2⟩:=y;rintro⟨g5,g6,g7,g,g8,g9,g10,g11⟩;exact⟨by omega,g6,g7,g,g8,g9,g10,by rw[hr];exact g4.trans g11⟩
   by_cases h38:c i=38
   ·rw[l8,if_neg (by omega),if_pos h38];exact go .and .and (λa b=>rfl) (.inl h38) λm g h1 h2=>by unfold fm;rw[h1,h2,h38];simp[l9]
   ·by_cases h45:c i=45
    ·rw[l8,if_neg (by omega),if_neg h38,if_pos h45];exact go .minus .minus (λa b=>rfl) (.inr h45) λm g h1 h2=>by unfold fm;rw[h1,h2,h45];simp[l9]
    ·rw[l8,if_neg (by omega),if_neg h38,if_neg h45];have:=he hi;exact⟨Int.le_refl _,hiN,λ_=>by unfold gV at this;omega,f,rfl,rfl,rfl,rfl⟩
  ·rw[l8,if_pos hi];exact⟨Int.le_refl _,hiN,λh=>absurd h hi,f,rfl,rfl,rfl,rfl⟩
theorem BQ(hrd:xA N rd){n:Nat}(ha:xy c N rd n)(i:Int)(f:Lv)(rest:List Lv)(h0:0<=i)(hiN:i<=N)(hd:rest.length+n=1000)(h1:f.meet=none)(h2:f.row=none)(h3:f.fac=none) :
  match l7 c N (fI c N (bB c N rd n) (N.toNat+1) none) i with
  |.error e=>rn (run c N rd i f rest)=.error e
  |.ok (r,j)=>i<=j/\j<=N/\(j<N->c j=124\/c j=41)/\∃ g:Lv,g.place=f.place/\g.alt=f.alt/\r=(fm g).val/\run c N rd i f rest=run c N rd j g rest:=by
 have g:=HD hrd ha (N.toNat+1) i f rest h0 hiN (by omega) (λh=>absurd h3 h) hd;have e0:(rowOf f.row f.fac).map RT.val=none:=by rw[h2,h3];rfl
 rw[e0]at g;unfold l7;revert g;cases fI c N (bB c N rd n) (N.toNat+1) none i with
 |error e=>exact λg=>g
 | ok z=>
  obtain⟨r,j⟩:=z;rintro⟨g1,g2,g3,row,fac,rfl,g4⟩;simp only;have hm:(rowOf row fac).getD .eps=fm { f with row:=row,fac:=fac }:=by unfold fm;rw[h1];rfl
  rw[hm];have h5:=U7 hrd ha (N.toNat+1) j { f with row:=row,fac:=fac } rest (by omega) g2 (by omega) g3 hd;revert h5;cases l8 c N (fI c N (bB c N rd n) (N.toNat+1) none) (N.toNat+1) (fm { f with row:=row,fac:=fac }).val j with
  |error e=>intro h5;exact (congrArg rn g4).trans h5
  |ok y=>
   obtain⟨r2,j2⟩:=y;rintro⟨g5,g6,g7,g,g8,g9,g10,g11⟩;exact⟨by omega,g6,g7,g,g8,g9,g10,g4.trans g11⟩
theorem XG(hrd:xA N rd){n:Nat}(ha:xy c N rd n):∀ (k:Nat) (i:Int) (f:Lv) (rest:List Lv),0<=i->i<=N->N-i<k->(i<N->c i=124\/c i=41)->rest.length+n=1000 ->
  match AS c N (l7 c N (fI c N (bB c N rd n) (N.toNat+1) none)) k (jO f).val i with
  |.error e=>rn (run c N rd i f rest)=.error e
  |.ok (r,j)=>i<=j/\j<=N/\(j<N->c j=41)/\∃ g:Lv,g.place=f.place/\r=(jO g).val/\run c N rd i f rest=run c N rd j g rest:=by
 intro k
 induction k with
 |zero=>intro i f rest _ _ h;omega
 | succ k ih=>
  intro i f rest h0 hiN hk he hd;by_cases hi:i<N/\c i=124
  ·rw[AS,if_pos hi];have hs:fq c N rd i f rest=.ok (i+1,xP f,rest):=by
    unfold fq;rw[if_neg (by unfold bI;omega),if_pos hi.2]
   have hr:run c N rd i f rest=run c N rd (i+1) (xP f) rest:=by rw[ir hrd h0 hi.1,hs]
   have h1:=BQ hrd ha (i+1) (xP f) rest (by omega) (by omega) hd rfl rfl rfl;revert h1;cases l7 c N (fI c N (bB c N rd n) (N.toNat+1) none) (i+1) with
   |error e=>intro h1;simp only at h1 ⊢;rw[hr];exact h1
   | ok z=>
    obtain⟨r,j⟩:=z;rintro⟨g1,g2,g3,g,g4,g5,rfl,g6⟩;simp only;have e1:bf .alt (jO f).val (fm g).val=(jO g).val:=by
     have:jO g=.alt (jO f) (fm g):=by
      show XH g.alt (fm g)=_;rw[g5];rfl
     rw[this];rfl
    rw[e1];have h2:=ih j g rest (by omega) g2 (by omega) g3 hd;revert h2;cases AS c N (l7 c N (fI c N (bB c N rd n) (N.toNat+1) none)) k (jO g).val j with
    |error e=>intro h2;simp only at h2 ⊢;rw[hr,g6,h2]
    |ok y=>
     obtain⟨r2,j2⟩:=y;rintro⟨g7,g8,g9,g',g10,g11,g12⟩;exact⟨by omega,g8,g9,g',by rw[g10,g4];rfl,g11,by rw[hr,g6,g12]⟩
  ·rw[AS,if_neg hi];exact⟨Int.le_refl _,hiN,λh=>by have:=he h;omega,f,rfl,rfl,rfl⟩
theorem Gx(hrd:xA N rd){n:Nat}(ha:xy c N rd n)(i p:Int)(rest:List Lv)(h0:0<=i)(hiN:i<=N)(hd:rest.length+n=1000) :
  match zX c N (bB c N rd n) i with
  |.error e=>rn (run c N rd i (iZ p) rest)=.error e
  |.ok (r,j)=>i<=j/\j<=N/\(j<N->c j=41)/\∃ g:Lv,g.place=p/\r=(jO g).val/\run c N rd i (iZ p) rest=run c N rd j g rest:=by
 have h1:=BQ hrd ha i (iZ p) rest h0 hiN hd rfl rfl rfl;unfold zX ai4;revert h1;cases l7 c N (fI c N (bB c N rd n) (N.toNat+1) none) i with
 |error e=>exact λh=>h
 | ok z=>
  obtain⟨r,j⟩:=z;rintro⟨g1,g2,g3,g,g4,g5,rfl,g6⟩;simp only;have e1:(fm g).val=(jO g).val:=by
   have:jO g=fm g:=by
    show XH g.alt (fm g)=_;rw[g5];rfl
   rw[this]
  rw[e1];have h2:=XG hrd ha (N.toNat+1) j g rest (by omega) g2 (by omega) g3 hd;revert h2;cases AS c N (l7 c N (fI c N (bB c N rd n) (N.toNat+1) none)) (N.toNat+1) (jO g).val j with
  |error e=>intro h2;simp only at h2 ⊢;rw[g6,h2]
  |ok y=>
   obtain⟨r2,j2⟩:=y;rintro⟨g7,g8,g9,g',g10,g11,g12⟩;exact⟨by omega,g8,g9,g',by rw[g10,g4];rfl,g11,by rw[g6,g12]⟩
theorem KB(hrd:xA N rd)(i:Int)(f:Lv)(rest:List Lv)(h0:0<=i)(hi:i<N)(he:¬ gV (c i))(hp:¬ bI (c i))(h40:c i≠40) :
  match vI rd i with
  |.error e=>rn (run c N rd i f rest)=.error e
  |.ok (r,j)=>i<j/\j<=N/\∃ t,r=RT.val t/\run c N rd i f rest=run c N rd j { fz f with fac:=some t } rest:=by
 have hs:fq c N rd i f rest=match rd i with
  |.error e=>.error e
  |.ok (S,j)=>.ok (j,{ fz f with fac:=some (.cls S) },rest):=by
  unfold gV at he;unfold fq;rw[if_neg hp,if_neg (by omega),if_neg (by omega),if_neg (by omega),if_neg h40]
 unfold vI;rw[ir hrd h0 hi,hs];cases hS:rd i with
 |error e=>rfl
 |ok q=>
  obtain⟨S,j⟩:=q;have:=hrd i S j h0 hi hS;exact⟨this.1,this.2,.cls S,rfl,rfl⟩
theorem u9(hrd:xA N rd):∀ n,xy c N rd n:=by
 intro n
 induction n with
 | zero=>
  intro i f rest h0 hi he hp hd;by_cases h40:c i=40
  ·rw[bB,if_pos h40];simp only;rw[ir hrd h0 hi];unfold fq;rw[if_neg hp,if_neg (by omega),if_neg (by omega),if_neg (by omega),if_pos h40,if_pos (by omega)];rfl
  ·rw[bB,if_neg h40];exact KB hrd i f rest h0 hi he hp h40
 | succ n ih=>
  intro i f rest h0 hi he hp hd;by_cases h40:c i=40
  ·rw[bB,if_pos h40];have hs:fq c N rd i f rest=.ok (i+1,iZ i,fz f::rest):=by
    unfold fq;rw[if_neg hp,if_neg (by omega),if_neg (by omega),if_neg (by omega),if_pos h40,if_neg (by omega)]
   have hr:run c N rd i f rest=run c N rd (i+1) (iZ i) (fz f::rest):=by rw[ir hrd h0 hi,hs]
   have h1:=Gx hrd ih (i+1) i (fz f::rest) (by omega) (by omega) (by simp only[List.length_cons];omega);revert h1;cases zX c N (bB c N rd n) (i+1) with
   |error e=>intro h1;simp only[xO]at h1 ⊢;rw[hr,h1]
   | ok z=>
    obtain⟨r,j⟩:=z;rintro⟨g1,g2,g3,g,g4,rfl,g5⟩;simp only[xO];by_cases hj:j<N
    ·rw[if_neg (by omega)];have h41:=g3 hj;have hs2:fq c N rd j g (fz f::rest)=.ok (j+1,{ fz f with fac:=some (jO g) },rest):=by
      unfold fq;rw[if_neg (by unfold bI;omega),if_neg (by omega),if_neg (by omega),if_pos h41]
     refine⟨by omega,by omega,jO g,rfl,?_⟩;rw[hr,g5,ir hrd (by omega) hj,hs2]
    ·rw[if_pos hj];simp only;rw[hr,g5,So hj];simp[rn,g4]
  ·rw[bB,if_neg h40];exact KB hrd i f rest h0 hi he hp h40
def ajN:Except (Int×Int) RT->Except (Int×Int) Rx
 |.error e=>.error e
 |.ok t=>.ok t.expand
theorem Vs(hrd:xA N rd)(hN:0<=N):B7 c N rd=ajN (rM c N rd):=by
 unfold B7 rM;by_cases hb:1048576<N
 ·rw[if_pos hb,if_pos hb];rfl
 ·rw[if_neg hb,if_neg hb];have h1:=Gx hrd (u9 (c:=c) hrd 1000) 0 (-1) [] (by omega) hN rfl;unfold alts;revert h1;cases zX c N (bB c N rd 1000) 0 with
  |error e=>intro h1;simp only at h1;rw[h1];rfl
  | ok z=>
   obtain⟨r,j⟩:=z;rintro⟨g1,g2,g3,g,g4,rfl,g5⟩;rw[g5];by_cases hj:j<N
   ·have h41:=g3 hj;have hs:fq c N rd j g []=.error (20,j):=by
     unfold fq;rw[if_neg (by unfold bI;omega),if_neg (by omega),if_neg (by omega),if_pos h41]
    rw[ir hrd (by omega) hj,hs];simp only[T0];rw[if_pos hj];rfl
   ·rw[So hj];simp only[T0,rn];rw[if_neg hj,if_neg (show ¬ ([]:List Lv)≠[] by simp)];show (if 2000<(jO g).sz then _ else _)=_;by_cases hs:2000<(jO g).sz
    ·rw[if_pos hs,if_pos hs];rfl
    ·rw[if_neg hs,if_neg hs];rfl
end
end
section
open Go.RowKit Go.LE Go.Proofs.Tryz
abbrev CS:=BitVec 256
def wd(S:CS)(j:Nat):Int:=((S.extractLsb' (64*j) 64).toNat:Int)
def mO(S:CS):List Value:=[.int .u64 (wd S 0),.int .u64 (wd S 1),.int .u64 (wd S 2),.int .u64 (wd S 3)]
theorem xl(x:BitVec 64):IntKind.u64.wrap ((x.toNat:Nat):Int)=((x.toNat:Nat):Int):=by
 have:=x.isLt;simp only[IntKind.wrap,IntKind.bits,IntKind.signed,Bool.false_and,Bool.false_eq_true,if_false,decide_false,show (2:Int) ^ 64=18446744073709551616 from rfl];omega
theorem j9(x:BitVec 64):BitVec.ofInt 64 ((x.toNat:Nat):Int)=x:=by simp
theorem alU(x y:BitVec 64):cp .or .u64 (x.toNat:Nat) (y.toNat:Nat)=((x ||| y).toNat:Nat):=by
 show IntKind.u64.wrap (((BitVec.ofInt 64 ((x.toNat:Nat):Int) ||| BitVec.ofInt 64 ((y.toNat:Nat):Int):BitVec 64).toNat:Nat):Int)=_;rw[j9,j9,xl]
theorem XJ(x y:BitVec 64):cp .and .u64 (x.toNat:Nat) (y.toNat:Nat)=((x &&& y).toNat:Nat):=by
 show IntKind.u64.wrap (((BitVec.ofInt 64 ((x.toNat:Nat):Int) &&& BitVec.ofInt 64 ((y.toNat:Nat):Int):BitVec 64).toNat:Nat):Int)=_;rw[j9,j9,xl]
theorem amh(x y:BitVec 64):cp .xor .u64 (x.toNat:Nat) (y.toNat:Nat)=((x ^^^ y).toNat:Nat):=by
 show IntKind.u64.wrap (((BitVec.ofInt 64 ((x.toNat:Nat):Int) ^^^ BitVec.ofInt 64 ((y.toNat:Nat):Int):BitVec 64).toNat:Nat):Int)=_;rw[j9,j9,xl]
theorem amg(S T:CS)(j:Nat):cp .or .u64 (wd S j) (wd T j)=wd (S ||| T) j:=by
 rw[wd,wd,alU,wd,BitVec.extractLsb'_or]
theorem akJ(S T:CS)(j:Nat):cp .and .u64 (wd S j) (wd T j)=wd (S &&& T) j:=by
 rw[wd,wd,XJ,wd,BitVec.extractLsb'_and]
theorem Jl(S:CS)(j:Nat)(hj:j<4):cp .xor .u64 (if IntKind.u64.signed=true then -1 else IntKind.u64.max) (wd S j)=wd (~~~S) j:=by
 have e:(if IntKind.u64.signed=true then -1 else IntKind.u64.max)=(((BitVec.allOnes 64).toNat:Nat):Int):=by decide
 rw[e,wd,amh,wd]
 congr 2
 apply BitVec.eq_of_getLsbD_eq;intro i hi;have h2:64*j+i<256:=oM;rw[BitVec.getLsbD_xor,BitVec.getLsbD_allOnes,BitVec.getLsbD_extractLsb',BitVec.getLsbD_extractLsb',BitVec.getLsbD_not];simp[hi,h2]
def zV(S:CS)(b:Nat):CS:=S ||| (1#256 <<< b)
theorem JB(S:CS)(b i:Nat)(hb:b<256):(zV S b).getLsbD i=(S.getLsbD i||decide (i=b)):=by
 simp only[zV,BitVec.getLsbD_or,BitVec.getLsbD_shiftLeft,BitVec.getLsbD_one];by_cases hi:i=b
 ·subst hi;simp[hb]
 ·have h:¬(i<256/\b<=i/\i-b=0):=oM;by_cases h1:i<256<;>by_cases h2:i<b<;>simp[h1,h2,hi]<;>omega
theorem al0(b:Nat)(hb:b<64):IntKind.u64.wrap (1*2 ^ (min b 64))=(((1#64 <<< b).toNat:Nat):Int):=by
 rw[Nat.min_eq_left oM];have h:(1#64 <<< b).toNat=2 ^ b:=by
  rw[BitVec.toNat_shiftLeft,Nat.shiftLeft_eq];have:2 ^ b<2 ^ 64:=Nat.pow_lt_pow_right oM hb;simp;omega
 rw[<- xl,h];simp
theorem y2(S:CS)(b:Nat)(hb:b<256):cp .or .u64 (wd S (b / 64)) (IntKind.u64.wrap (1*2 ^ (min (b % 64) 64)))=wd (zV S b) (b / 64):=by
 rw[al0 _ (Nat.mod_lt _ oM),wd,alU,wd]
 congr 2
 apply BitVec.eq_of_getLsbD_eq;intro i hi;have hdm:=Nat.div_add_mod b 64;rw[BitVec.getLsbD_or,BitVec.getLsbD_extractLsb',BitVec.getLsbD_extractLsb',JB _ _ _ hb,BitVec.getLsbD_shiftLeft,BitVec.getLsbD_one];have e:decide (64*(b / 64)+i=b)=decide (i=b % 64):=by rw[decide_eq_decide];omega
 rw[e];by_cases h1:i=b % 64
 ·subst h1;simp[hi]
 ·by_cases h2:i<b % 64<;>simp[hi,h1,h2]<;>omega
theorem Xa(S:CS)(b j:Nat)(hb:b<256)(hj:j≠b / 64):wd (zV S b) j=wd S j:=by
 rw[wd,wd]
 congr 2
 apply BitVec.eq_of_getLsbD_eq;intro i hi;rw[BitVec.getLsbD_extractLsb',BitVec.getLsbD_extractLsb',JB _ _ _ hb];have:decide (64*j+i=b)=false:=by rw[decide_eq_false_iff_not];omega
 rw[this,Bool.or_false]
theorem af2(S:CS)(b:Nat)(hb:b<256):(mO S).take (b / 64)++.int .u64 (wd (zV S b) (b / 64))::(mO S).drop (b / 64+1)=mO (zV S b):=by
 have hq:b / 64<4:=oM;have ne:∀ j,j≠b / 64->wd S j=wd (zV S b) j:=λj hj=>(Xa S b j hb hj).symm
 generalize hqe:b / 64=q at *
 match q,hq with
 |0,_=>simp[mO,ne 1,ne 2,ne 3]
 |1,_=>simp[mO,ne 0,ne 2,ne 3]
 |2,_=>simp[mO,ne 0,ne 1,ne 3]
 |3,_=>simp[mO,ne 0,ne 1,ne 2]
theorem akK(S:CS)(b:Nat)(hb:b<256):decide (cp .and .u64 ((wd S (b / 64)).fdiv (2 ^ (min (b % 64) 64))) 1=1)=S.getLsbD b:=by
 have hm:b % 64<64:=Nat.mod_lt _ oM;rw[Nat.min_eq_left oM];have e1:(wd S (b / 64)).fdiv (2 ^ (b % 64))=(((S.extractLsb' (64*(b / 64)) 64) >>> (b % 64)).toNat:Nat):=by
  rw[wd,BitVec.toNat_ushiftRight,Nat.shiftRight_eq_div_pow];have:(2:Int) ^ (b % 64)=((2 ^ (b % 64):Nat):Int):=by simp
  rw[this,Int.fdiv_eq_ediv_of_nonneg _ (Int.natCast_nonneg _)];rfl
 rw[e1,show (1:Int)=(((1#64).toNat:Nat):Int) from rfl,XJ];rw[Bool.eq_iff_iff,decide_eq_true_eq];have hdm:=Nat.div_add_mod b 64;constructor
 ·intro h;have h' : (S.extractLsb' (64*(b / 64)) 64 >>> (b % 64)) &&& 1#64=1#64:=BitVec.eq_of_toNat_eq (by exact_mod_cast h);have:=congrArg (λx=>x.getLsbD 0) h';simp only[BitVec.getLsbD_and,BitVec.getLsbD_ushiftRight,BitVec.getLsbD_extractLsb',BitVec.getLsbD_one]at this;simpa [hm,hdm] using this
 ·intro h;have h' : (S.extractLsb' (64*(b / 64)) 64 >>> (b % 64)) &&& 1#64=1#64:=by
   apply BitVec.eq_of_getLsbD_eq;intro i hi;simp only[BitVec.getLsbD_and,BitVec.getLsbD_ushiftRight,BitVec.getLsbD_extractLsb',BitVec.getLsbD_one];by_cases h0:i=0
   ·subst h0;simp[hm,hdm,h]
   ·simp[h0]
  rw[h']
theorem ub(b:Nat):((b:Int)).fdiv 64=((b / 64:Nat):Int):=by
 rw[Int.fdiv_eq_ediv_of_nonneg _ oM];omega
theorem JG(b:Nat)(hb:b<256):cp .and .u8 (b:Int) 63=((b % 64:Nat):Int):=by
 have:∀ b:Fin 256,cp .and .u8 ((b.val:Nat):Int) 63=((b.val % 64:Nat):Int):=by decide +kernel
 exact this ⟨b,hb⟩
theorem Tj(b:Nat)(hb:b<256):cp .and .i64 (b:Int) 63=((b % 64:Nat):Int):=by
 have:∀ b:Fin 256,cp .and .i64 ((b.val:Nat):Int) 63=((b.val % 64:Nat):Int):=by decide +kernel
 exact this ⟨b,hb⟩
theorem je(S:CS)(j:Nat)(hj:j<4):(List.map SV.v (mO S)).getD j (.v undef)=.v (.int .u64 (wd S j)):=by
 match j,hj with
 |0,_=>rfl
 |1,_=>rfl
 |2,_=>rfl
 |3,_=>rfl
theorem lP(S:CS)(b:Nat)(hb:b<256):List.take (b / 64) (List.map SV.v (mO S))++[SV.v (.int .u64 (wd (zV S b) (b / 64)))]++List.drop (b / 64+1) (List.map SV.v (mO S))=List.map SV.v (mO (zV S b)):=by
 rw[<- af2 S b hb];simp
theorem Jo(S:CS):(List.map SV.v (mO S)).length=4:=rfl
end
section
open Go.RowKit Go.LE Go.Proofs.Tryz
set_option maxRecDepth 10000
def Γ0:Env prog:=⟨λ_=>none,λ_=>none,λ_ _=>none⟩
def cx(S:CS):Value:=.agg (mO S).toArray
theorem cO(S:CS):Value.agg (mO S).toArray=cx S:=rfl
theorem mL(S:CS):(mO S).length=4:=rfl
theorem mM(S:CS):List.take 4 ((mO S).map SV.v)=(mO S).map SV.v:=rfl
theorem mK(S:CS):List.drop 4 ((mO S).map SV.v)=[]:=rfl
theorem kp(S:CS):cT ((mO S).map SV.v)=some (mO S):=rfl
theorem qB(S:CS):((mO S).map SV.v).all dI=true:=rfl
theorem Jm(E:Nat->Value)(S:CS):den E (.agg ((mO S).map SV.v))=cx S:=rfl
theorem iS(S:CS):((mO S).map SV.v).length=4:=rfl
theorem dr(S:CS):partsOf (.v (cx S))=(mO S).map SV.v:=rfl
theorem acb(S:CS)(j i:Nat)(hi:i<64):(BitVec.ofInt 64 (wd S j)).getLsbD i=S.getLsbD (64*j+i):=by
 rw[wd,j9,BitVec.getLsbD_extractLsb'];simp[hi]
theorem cF(S T:CS)(h:cx S=cx T):S=T:=by
 have h:(mO S)=mO T:=congrArg (λv=>match v with|Value.agg a=>a.toList|_=>[]) h;simp only[mO,List.cons.injEq,Value.int.injEq,true_and,and_true]at h;have e0:=h.1;have e1:=h.2.1;have e2:=h.2.2.1;have e3:=h.2.2.2;apply BitVec.eq_of_getLsbD_eq;intro i hi
 have key:∀ j,wd S j=wd T j->i / 64=j->S.getLsbD i=T.getLsbD i:=λj e hj=>by
  have h1:=acb S j (i % 64) oM;have h2:=acb T j (i % 64) oM;rw[e]at h1;have:64*j+i % 64=i:=oM;rw[this]at h1 h2;rw[<- h1,<- h2]
 have:i / 64=0\/i / 64=1\/i / 64=2\/i / 64=3:=oM;rcases this with h|h|h|h
 ·exact key 0 e0 h
 ·exact key 1 e1 h
 ·exact key 2 e2 h
 ·exact key 3 e3 h
def Gy:=(ae @List.replicate_succ.{0} @List.replicate_zero.{0} @au @ab kQ kS kU (ae dc dd de df dv dw dz (ae dA mV mW mX mY mZ eB (ae eC eD eE eF eG wL wO (ae wP wQ w6 w7 w8 w9 @cx.eq_1 (aa @amg @akJ))))))
theorem W5(S T:CS)(w:World):Calls prog 274 #[cx S,cx T] w λe w' => e=.returned (cx (S ||| T))/\an w [] w' := by
 refine ak (nt:=26) [.cell 4 309] func274 rfl rfl rfl ?_;refine vR Γ0 (aa Gy @mO.eq_1) ?_;refine vR Γ0 (aa Gy @mO.eq_1) ?_;refine wZ Gy ?_;exact λE=>rfl
theorem aeV(S:CS)(w:World):Calls prog 224 #[cx S] w λe w' => e=.returned (cx (~~~S))/\an w [] w' := by
 have h0:=Jl S 0 oM;have h1:=Jl S 1 oM;have h2:=Jl S 2 oM;have h3:=Jl S 3 oM;refine ak (nt:=16) [.cell 2 309] func224 rfl rfl rfl ?_;refine vR Γ0 (aa Gy @mO.eq_1) ?_;refine vR Γ0 (sK Gy @mO.eq_1 h0 h1 h2 h3) ?_;refine wZ Gy ?_;exact λE=>rfl
theorem aeo(S:CS)(b:Nat)(hb:b<256)(w:World):Calls prog 225 #[cx S,.int .u8 b] w λe w' => e=.returned (.bool (S.getLsbD b))/\an w [] w' := by
 have hq:b / 64<4:=oM;refine ak (nt:=14) [.tmp 4] func225 rfl rfl rfl ?_;refine vR Γ0 Gy ?_
 refine Wp.akm Γ0 aM (by simp only[iO,Op.operands,Value.cells,σ0,σB,Nat.reduceEqDiff,Nat.reduceAdd,Nat.reduceMul,Nat.reduceLT,Nat.reduceLeDiff,Nat.reduceBEq,av,Int.reduceToNat,Int.reduceLT,Int.reduceLE,Nat.reduceDiv,Nat.reduceMod,Nat.reduceSub,Int.reducePow,Nat.reducePow,σP,σB3,Gy,ub,JG b hb,je S _ hq,akK S b hb,Jo];exact rfl) rfl ?_ ?_
 ·exact oo
 refine wZ Gy ?_;exact λE=>rfl
def CE(lo:Nat):Nat->CS
 |0=>0
 |n+1=>zV (CE lo n) (lo+n)
def span(lo hi:Nat):CS:=CE lo (hi+1-lo)
theorem DY:(mO 0).map SV.v=[SV.v (.int .u64 0),SV.v (.int .u64 0),SV.v (.int .u64 0),SV.v (.int .u64 0)]:=by
 simp[mO,wd]
def kX:=(ae @List.replicate_succ.{0} @List.replicate_zero.{0} @au @ab kQ kS kU (ae dc dd de df dv dw dz (ae dA mV mW mX mY mZ eB (ae eC eD eE eF eG wL wO (EP wP wQ w6 w7 w8 w9 @cx.eq_1)))))
theorem abb(lo hi:Nat)(hl:lo<256)(hh:hi<256)(w:World):Calls prog 271 #[.int .u8 lo,.int .u8 hi] w λe w' => e=.returned (cx (span lo hi))/\an w [] w' := by
 have w0:IntKind.i64.wrap (lo:Int)=lo:=aA oM oM;have w1:IntKind.i64.wrap (hi:Int)=hi:=aA oM oM;refine ak (nt:=25) [.cell 4 309] func271 rfl rfl rfl ?_;refine vR Γ0 kX ?_;refine vR Γ0 kX ?_;refine Wp.seq (Wp.seq ?_);refine vr Γ0 (aa kX w0) ?_;refine Wp.block ?_
 refine Wp.loop (λj:Nat=>⟨2,ee [(1,.is (.v (.int .u8 hi))),(4,.is (.own 0 0)),(5,.is (.own 8 0)),(6,.is (.v (.int .i64 ((lo+j:Nat):Int))))],dP [(0,.cells 309 [.v (.int .u64 0),.v (.int .u64 0),.v (.int .u64 0),.v (.int .u64 0)]),(8,.cells 309 ((mO (CE lo j)).map .v))]⟩)
  (λj=>j<=hi+1-lo) (λj=>hi+1-lo-j) 0 ?_ (Nat.zero_le _) ?_
 ·exact wM (λk=>.key k) (fJ kX @CE.eq_1 @CE.eq_2 @DY)
 rintro j h1;have hr2:IntKind.i64.wrap ((lo+j:Nat):Int)=((lo+j:Nat):Int):=aA oM oM;refine Wp.seq ?_;refine vR Γ0 (aa kX w1) ?_;refine wC kX (λhc=>?_) (λhc=>?_)
 ·simp only[decide_eq_true_eq]at hc;have hb:lo+j<256:=oM;have hq:(lo+j) / 64<4:=oM;have wn:IntKind.i64.wrap (((lo+j:Nat):Int)+1)=((lo+(j+1):Nat):Int):=wW;refine wK ?_;refine Wp.seq (Wp.block ?_)
  refine Wp.afd Γ0 aM (by simp only[iO,Op.operands,Value.cells,σ0,σB,Nat.reduceEqDiff,Nat.reduceAdd,Nat.reduceMul,Nat.reduceLT,Nat.reduceLeDiff,Nat.reduceBEq,av,Int.reduceToNat,Int.reduceLT,Int.reduceLE,Nat.reduceDiv,Nat.reduceMod,Nat.reduceSub,Int.reducePow,Nat.reducePow,σP,σB3,kX,ub,Tj _ hb,je _ _ hq,y2 _ _ hb,lP _ _ hb,Jo];exact rfl) rfl (by kernel_rfl) ?_ ?_
  ·exact oo
  refine qq ?_;refine vr Γ0 (aa kX wn) ?_;refine⟨j+1,oM,oM,?_⟩
  exact Le.mk (λk=>.key k) ⟨by simp[FV.keys,SV.keys,ay],by simp[aX.keys,ay,SV.keys,aR,aT]⟩ (by simp only[iO,Op.operands,Value.cells,σ0,σB,Nat.reduceEqDiff,Nat.reduceAdd,Nat.reduceMul,Nat.reduceLT,Nat.reduceLeDiff,Nat.reduceBEq,av,Int.reduceToNat,Int.reduceLT,Int.reduceLE,Nat.reduceDiv,Nat.reduceMod,Nat.reduceSub,Int.reducePow,Nat.reducePow,σP,σB3,kX,CE,ub,je _ _ hq,y2 _ _ hb,lP _ _ hb,GS,GV,kb,zF]<;>trivial) (by simp only[iO,Op.operands,Value.cells,σ0,σB,Nat.reduceEqDiff,Nat.reduceAdd,Nat.reduceMul,Nat.reduceLT,Nat.reduceLeDiff,Nat.reduceBEq,av,Int.reduceToNat,Int.reduceLT,Int.reduceLE,Nat.reduceDiv,Nat.reduceMod,Nat.reduceSub,Int.reducePow,Nat.reducePow,σP,σB3,kX,CE,ub,je _ _ hq,y2 _ _ hb,lP _ _ hb,vG,nj,ij,gu,jP,kb]<;>trivial) (by simp[dR]) sI
 ·simp only[decide_eq_false_iff_not]at hc;have hj:j=hi+1-lo:=oM;refine wE ?_;refine vR Γ0 (aa kX @mO.eq_1) ?_;refine wZ kX ?_;subst hj;exact λE=>rfl
def Vj(s:ByteArray):Nat->CS
 |0=>0
 |n+1=>zV (Vj s n) (bt s n).toNat
theorem jr(s:ByteArray)(i:Int):0<=bt s i/\bt s i<256:=by
 unfold bt;have:=(s.data[i.toNat]?.getD 0).toNat_lt;omega
theorem aj2(s:ByteArray)(hs:s.size<=140737488351232)(w:World):Calls prog 245 #[.string s] w λe w' => e=.returned (cx (Vj s s.size))/\an w [] w' := by
 refine ak (nt:=25) [.cell 2 309] func245 rfl rfl rfl ?_;refine vR Γ0 kX ?_;refine vR Γ0 kX ?_;refine Wp.seq ?_;refine vR Γ0 kX ?_;refine Wp.block ?_
 refine Wp.loop (λj:Nat=>⟨2,ee [(0,.is (.v (.string s))),(2,.is (.own 0 0)),(3,.is (.own 8 0)),(6,.is (.v (.int .i64 s.size))),(7,.is (.v (.int .i64 j)))],dP [(0,.cells 309 [.v (.int .u64 0),.v (.int .u64 0),.v (.int .u64 0),.v (.int .u64 0)]),(8,.cells 309 ((mO (Vj s j)).map .v))]⟩)
  (λj=>j<=s.size) (λj=>s.size-j) 0 ?_ (Nat.zero_le _) ?_
 ·exact wM (λk=>.key k) (fJ kX @Vj.eq_1 @Vj.eq_2 @DY)
 rintro j h1;refine vR Γ0 kX ?_;refine Wp.seq ?_;refine wC kX (λhc=>?_) (λhc=>?_)
 ·simp only[decide_eq_true_eq]at hc;have hj:j<s.size:=oM;obtain⟨b0,b1⟩:=jr s j;obtain⟨b,hbe⟩:=Int.eq_ofNat_of_zero_le b0;have hb:b<256:=oM;have hq:b / 64<4:=oM;have hof:Vj s (j+1)=zV (Vj s j) b:=by rw[Vj,hbe];rfl
  have wn:IntKind.i64.wrap ((j:Int)+1)=((j+1:Nat):Int):=wW;refine wK ?_;refine Wp.seq (Wp.block ?_);refine vR Γ0 kX ?_
  refine Wp.afd Γ0 aM (by simp only[iO,Op.operands,Value.cells,σ0,σB,Nat.reduceEqDiff,Nat.reduceAdd,Nat.reduceMul,Nat.reduceLT,Nat.reduceLeDiff,Nat.reduceBEq,av,Int.reduceToNat,Int.reduceLT,Int.reduceLE,Nat.reduceDiv,Nat.reduceMod,Nat.reduceSub,Int.reducePow,Nat.reducePow,σP,σB3,kX,hbe,ub,JG _ hb,je _ _ hq,y2 _ _ hb,lP _ _ hb,Jo];exact rfl) rfl (by kernel_rfl) ?_ ?_
  ·exact oo
  refine qq ?_;refine vr Γ0 (aa kX wn) ?_;refine⟨j+1,oM,oM,?_⟩
  exact Le.mk (λk=>.key k) ⟨by simp[FV.keys,SV.keys,ay],by simp[aX.keys,ay,SV.keys,aR,aT]⟩ (by simp only[iO,Op.operands,Value.cells,σ0,σB,Nat.reduceEqDiff,Nat.reduceAdd,Nat.reduceMul,Nat.reduceLT,Nat.reduceLeDiff,Nat.reduceBEq,av,Int.reduceToNat,Int.reduceLT,Int.reduceLE,Nat.reduceDiv,Nat.reduceMod,Nat.reduceSub,Int.reducePow,Nat.reducePow,σP,σB3,kX,hof,hbe,ub,je _ _ hq,y2 _ _ hb,lP _ _ hb,GS,GV,kb,zF]<;>trivial) (by simp only[iO,Op.operands,Value.cells,σ0,σB,Nat.reduceEqDiff,Nat.reduceAdd,Nat.reduceMul,Nat.reduceLT,Nat.reduceLeDiff,Nat.reduceBEq,av,Int.reduceToNat,Int.reduceLT,Int.reduceLE,Nat.reduceDiv,Nat.reduceMod,Nat.reduceSub,Int.reducePow,Nat.reducePow,σP,σB3,kX,hof,hbe,ub,je _ _ hq,y2 _ _ hb,lP _ _ hb,vG,nj,ij,gu,jP,kb]<;>trivial) (by simp[dR]) sI
 ·simp only[decide_eq_false_iff_not]at hc;have hj:j=s.size:=oM;refine wE ?_;refine vR Γ0 (aa kX @mO.eq_1) ?_;refine wZ kX ?_;subst hj;exact λE=>rfl
def BA(s:ByteArray)(c:Int):Int:=Lib.indexByte s.data.toList c.toNat.toUInt8
def ixX:Rf prog 231 where
 pre:=λ_ _=>λ| [.val (.string _),.val (.int .u8 _)]=>True|_=>False
 res:=λ_=>λ| [.val (.string s),.val (.int .u8 c)]=>.int .i64 (BA s c)|_=>undef
 ok:=by
  intro W w bs us as_ hk hu hp;split at hp
  ·rename_i s c
   match us,hu with
   |[u,v],hu=>
    obtain⟨rfl,rfl,_⟩:=hu;rw[run_callFunc_extern func231 (by kernel_rfl) (by kernel_rfl) (by kernel_rfl) (e:=Extern.BytealgIndexByte.indexByte) (by kernel_rfl),Lib.run_indexByteString];rfl
  ·exact hp.elim
theorem aeB(W:World)(s:ByteArray)(c:Int):ixX.res W [.val (.string s),.val (.int .u8 c)]=.int .i64 (BA s c):=rfl
theorem aeA(W:World)(bs:List Nat)(s:ByteArray)(c:Int):ixX.pre W bs [.val (.string s),.val (.int .u8 c)]=True:=rfl
noncomputable def Γ10:Env prog:=⟨λ| 231=>some ixX.spec|_=>none,λ| _=>none,λ_ _=>none⟩
theorem agc:Γ10.sp 231=some ixX.spec:=rfl
def adE:=(ae @List.replicate_succ.{0} @List.replicate_zero.{0} @au @ab kQ kS kU (ae dc dd de df dv dw dz (ae dA mV mW mX mY mZ eB (ae eC eD eE eF eG Jh Ji (ae Jj Jk uK uL uM uN uO (ae uP uQ uR uS uT ML MM (ae SM SN SO SP SQ SR SS (ae SU SW SX SY @aV @aw @aD (fJ @aG @aeB @aeA agc)))))))))
theorem UD(s:ByteArray)(c:Int)(w:World):Calls prog 189 #[.string s,.int .u8 c] w λe w' => e=.returned (.int .i64 (BA s c))/\an w [] w' := by
 refine ak (nt:=8) [.tmp 4] func189 rfl rfl rfl ?_;refine vR Γ10 adE ?_;refine vR Γ10 adE ?_;refine wZ adE ?_;exact λE=>rfl
def RJ:a7 prog 189 where
 pre:=λW bs=>λ| [.val (.string s),.val (.int .u8 c)]=>True|_=>False
 res:=λW=>λ| [.val (.string s),.val (.int .u8 c)]=>.int .i64 (BA s c)|_=>undef
 enters:=call189
 ok:=by
  intro W w bs us as_ hk hu hp;split at hp
  ·rename_i s c
   match us,hu with
   |[u0,u1],hu=>
    obtain⟨rfl,rfl,_⟩:=hu;exact UD s c w
  ·exact hp.elim
theorem UF(W:World)(s:ByteArray)(c:Int):RJ.res W [.val (.string s),.val (.int .u8 c)]=.int .i64 (BA s c):=rfl
theorem UE(W:World)(bs:List Nat)(s:ByteArray)(c:Int):RJ.pre W bs [.val (.string s),.val (.int .u8 c)]=(True):=rfl
noncomputable def Γ11:Env prog:=⟨λ| 189=>some RJ.spec|_=>none,λ| _=>none,λ_ _=>none⟩
theorem agd:Γ11.sp 189=some RJ.spec:=rfl
def adF:=(fJ adE UF UE agd)
theorem ajH(s:ByteArray)(c:Int)(w:World):Calls prog 138 #[.string s,.int .u8 c] w λe w' => e=.returned (.int .i64 (BA s c))/\an w [] w' := by
 refine ak (nt:=8) [.tmp 4] func138 rfl rfl rfl ?_;refine vR Γ11 adF ?_;refine vR Γ11 adF ?_;refine wZ adF ?_;exact λE=>rfl
def ixC:a7 prog 138 where
 pre:=λW bs=>λ| [.val (.string s),.val (.int .u8 c)]=>True|_=>False
 res:=λW=>λ| [.val (.string s),.val (.int .u8 c)]=>.int .i64 (BA s c)|_=>undef
 enters:=call138
 ok:=by
  intro W w bs us as_ hk hu hp;split at hp
  ·rename_i s c
   match us,hu with
   |[u0,u1],hu=>
    obtain⟨rfl,rfl,_⟩:=hu;exact ajH s c w
  ·exact hp.elim
theorem G2(W:World)(s:ByteArray)(c:Int):ixC.res W [.val (.string s),.val (.int .u8 c)]=.int .i64 (BA s c):=rfl
theorem G1(W:World)(bs:List Nat)(s:ByteArray)(c:Int):ixC.pre W bs [.val (.string s),.val (.int .u8 c)]=(True):=rfl
def GU(s:ByteArray)(i:Int):List AV:=[.val (.string s),.val (.int .i64 i)]
def kr(i:Int):List PanicEntry:=[{ v:=.iface 39 (.agg #[.int .i64 10,.int .i64 i,.string ⟨#[]⟩]),recovered:=false }]
def JM:=(bw adF @G2 @G1)
theorem aaa(s:ByteArray)(i:Int)(u:Value)(fp:List Nat)(w:World)(h0:0<=i)(ho:aW w u fp 375 (GU s i))(hlt:∀ b∈fp,b<w.heap.size) :
  Calls prog 272 (#[u]++#[]) w λe w' => dH w u fp 375 e w' (.ret (.tuple #[.int .u8 (bt s i),.bool (decide (i<s.size))]) (GU s i)):=by
 refine aN (nt:=23) #[] [.tmp 2,.tmp 3] (by show 2<=7;omega) ho hlt func272 rfl rfl rfl ?_;refine vR Γ11 (aa JM @GU.eq_1) ?_;refine Wp.seq ?_;refine yY Γ11 JM ?_;refine wC JM (λhc=>?_) (λhc=>?_)
 ·simp only[decide_eq_true_eq]at hc;refine yY Γ11 JM ?_;refine wZ JM ?_;exact⟨_,_,rfl,λE=>by rw[decide_eq_true hc];rfl,_,_,rfl,rfl,dE⟩
 ·simp only[decide_eq_false_iff_not]at hc;have hb:bt s i=0:=by
   unfold bt;rw[Array.getElem?_eq_none (by have:s.data.size=s.size:=rfl;omega)];rfl
  refine wK ?_;refine vR Γ11 JM ?_;refine wZ JM ?_;exact⟨_,_,rfl,λE=>by rw[decide_eq_false hc,hb];rfl,_,_,rfl,rfl,dE⟩
def rN:bJ prog 272 where
 T:=375
 pre:=λW bs fs as_=>match fs,as_ with|[.val (.string s),.val (.int .i64 i)],[]=>0<=i|_,_=>False
 out:=λW fs as_=>match fs,as_ with|[.val (.string s),.val (.int .i64 i)],[]=>.ret (.tuple #[.int .u8 (bt s i),.bool (decide (i<s.size))]) (GU s i)|_,_=>.pan [] undef
 enters:=call272
 ok:=by
  intro W w bs u fp us fs as_ hk ho hlt hmine hu hp;split at hp
  ·rename_i s i
   match us,hu with
   |[],_=>
    exact aaa s i u fp w hp ho hlt
  ·exact hp.elim
theorem yl(W:World)(s:ByteArray)(i:Int):rN.out W [.val (.string s),.val (.int .i64 i)] []=.ret (.tuple #[.int .u8 (bt s i),.bool (decide (i<s.size))]) (GU s i):=rfl
theorem ym(W:World)(bs:List Nat)(s:ByteArray)(i:Int):rN.pre W bs [.val (.string s),.val (.int .i64 i)] []=(0<=i):=rfl
theorem Hx:rN.T=375:=rfl
def amJ:=(fJ JM @yl @ym @Hx)
theorem YG(s:ByteArray)(i j:Int)(u:Value)(fp:List Nat)(w:World)(ho:aW w u fp 375 (GU s i))(hlt:∀ b∈fp,b<w.heap.size) :
  Calls prog 273 (#[u]++#[.int .i64 j]) w λe w' => dH w u fp 375 e w' (.pan (kr j) (.tuple #[])):=by
 refine aN (nt:=7) #[.int .i64 j] [] (by show 2<=7;omega) ho hlt func273 rfl rfl rfl ?_;refine Wp.dF Γ11 aM (ev (aa amJ @GU.eq_1)) ?_ ?_
 ·exact oo
 refine qq ?_;exact⟨_,rfl⟩
def rp:bJ prog 273 where
 T:=375
 pre:=λW bs fs as_=>match fs,as_ with|[.val (.string s),.val (.int .i64 i)],[.val (.int .i64 j)]=>True|_,_=>False
 out:=λW fs as_=>match fs,as_ with|[.val (.string s),.val (.int .i64 i)],[.val (.int .i64 j)]=>.pan (kr j) (.tuple #[])|_,_=>.pan [] undef
 enters:=call273
 ok:=by
  intro W w bs u fp us fs as_ hk ho hlt hmine hu hp;split at hp
  ·rename_i s i j
   match us,hu with
   |[u0],hu=>
    obtain⟨rfl,_⟩:=hu;exact YG s i j u fp w ho hlt
  ·exact hp.elim
theorem E9(W:World)(s:ByteArray)(i:Int)(j:Int):rp.out W [.val (.string s),.val (.int .i64 i)] [.val (.int .i64 j)]=.pan (kr j) (.tuple #[]):=rfl
theorem Fa(W:World)(bs:List Nat)(s:ByteArray)(i:Int)(j:Int):rp.pre W bs [.val (.string s),.val (.int .i64 i)] [.val (.int .i64 j)]=(True):=rfl
theorem Rz:rp.T=375:=rfl
noncomputable def Γ12:Env prog:=⟨λ| 138=>some ixC.spec|272=>some rN.spec|273=>some rp.spec|_=>none,λ| _=>none,λ_ _=>none⟩
theorem age:Γ12.sp 138=some ixC.spec:=rfl
theorem agf:Γ12.sp 272=some rN.spec:=rfl
theorem agi:Γ12.sp 273=some rp.spec:=rfl
def xY:ByteArray:=⟨#[48,49,50,51,52,53,54,55,56,57,97,98,99,100,101,102]⟩
def B1(s:ByteArray):Except Int (Int×Int)->BOut
 |.ok (b,j)=>.ret (.int .u8 b) (GU s j)
 |.error j=>.pan (kr j) (.int .u8 0)
def rv(s:ByteArray)(i:Int):Except Int (Int×Int):=if i<s.size/\0<=BA xY (bt s i) then .ok (BA xY (bt s i),i+1) else .error i
theorem RM(c:Int)(h0:0<=c)(h1:c<256):-1<=BA xY c/\BA xY c<16:=by
 obtain⟨n,rfl⟩:=Int.eq_ofNat_of_zero_le h0;have:∀ b:Fin 256,-1<=BA xY ((b.val:Nat):Int)/\BA xY ((b.val:Nat):Int)<16:=by decide +kernel
 exact this ⟨n,oM⟩
theorem uU{n:Int}(h0:0<=n)(h1:n<256):IntKind.u8.wrap n=n:=by
 simp only[IntKind.wrap,IntKind.bits,IntKind.signed,Bool.false_and,Bool.false_eq_true,if_false,decide_false,show (2:Int) ^ 8=256 from rfl];omega
theorem Sa(s:ByteArray)(b j:Int):B1 s (.ok (b,j))=.ret (.int .u8 b) (GU s j):=rfl
theorem B2(s:ByteArray)(j:Int):B1 s (.error j)=.pan (kr j) (.int .u8 0):=rfl
def tK:=(ae @List.replicate_succ.{0} @List.replicate_zero.{0} @au @ab kQ kS kU (ae dc dd de df dv dw dz (ae dA mV mW mX mY mZ eB (ae eC eD eE eF eG ML MM (ae aiK aiL aiM aiN aiO aiP aiQ (ae aiR aiS aiT SM SN SO SP (ae SQ SR SS SU SW SX SY (ae @aV @aw @aD @aG @G2 @G1 @yl (ae @ym @Hx @E9 @Fa @Rz @GU.eq_1 @kr.eq_1 (bw age agf agi))))))))))
theorem aep(s:ByteArray)(i:Int)(u:Value)(fp:List Nat)(w:World)(h0:0<=i)(hs:s.size<=140737488351232)(ho:aW w u fp 375 (GU s i))(hlt:∀ b∈fp,b<w.heap.size) :
  Calls prog 276 (#[u]++#[]) w λe w' => dH w u fp 375 e w' (B1 s (rv s i)):=by
 obtain⟨b0,b1⟩:=jr s i;obtain⟨x0,x1⟩:=RM _ b0 b1;refine aN (nt:=34) #[] [.tmp 2] (by show 2<=7;omega) ho hlt func276 rfl rfl rfl ?_;refine vR Γ12 tK ?_;refine wR Γ12 tK ?_ ?_
 ·simp[h0]
 refine vR Γ12 tK ?_;refine Wp.seq ?_;refine vR Γ12 tK ?_;refine wC tK (λhc=>?_) (λhc=>?_)
 ·have he:rv s i=.error i:=by
   rw[rv,if_neg];simp[xY]at hc ⊢;omega
  rw[he];refine Wp.dF Γ12 aM (ev tK) ?_ ?_
  ·simp
  refine qq ?_;exact⟨_,rfl⟩
 ·have hi:i<s.size/\0<=BA xY (bt s i):=by
   simp[xY]at hc ⊢;omega
  have he:rv s i=.ok (BA xY (bt s i),i+1):=by rw[rv,if_pos hi]
  have w1:IntKind.i64.wrap (i+1)=i+1:=aA oM oM;have w2:IntKind.u8.wrap (BA xY (bt s i))=BA xY (bt s i):=uU hi.2 oM;rw[he];refine wK ?_;refine vR Γ12 (aa tK w1) ?_;refine vR Γ12 (aa tK w2) ?_;refine wZ tK ?_
  exact⟨_,_,rfl,λE=>by simp only[den];rw[show BA xY (bt s i)=BA ⟨#[48,49,50,51,52,53,54,55,56,57,97,98,99,100,101,102]⟩ (bt s i) from rfl]at w2;exact congrArg _ w2,_,_,rfl,rfl,dE⟩
def YW:bJ prog 276 where
 T:=375
 pre:=λW bs fs as_=>match fs,as_ with|[.val (.string s),.val (.int .i64 i)],[]=>0<=i/\s.size<=140737488351232|_,_=>False
 out:=λW fs as_=>match fs,as_ with|[.val (.string s),.val (.int .i64 i)],[]=>B1 s (rv s i)|_,_=>.pan [] undef
 enters:=call276
 ok:=by
  intro W w bs u fp us fs as_ hk ho hlt hmine hu hp;split at hp
  ·rename_i s i
   match us,hu with
   |[],_=>
    exact aep s i u fp w hp.1 hp.2 ho hlt
  ·exact hp.elim
theorem YX(W:World)(s:ByteArray)(i:Int):YW.out W [.val (.string s),.val (.int .i64 i)] []=B1 s (rv s i):=rfl
theorem YY(W:World)(bs:List Nat)(s:ByteArray)(i:Int):YW.pre W bs [.val (.string s),.val (.int .i64 i)] []=(0<=i/\s.size<=140737488351232):=rfl
theorem ajA:YW.T=375:=rfl
noncomputable def sH:Env prog:=⟨λ| 138=>some ixC.spec|272=>some rN.spec|273=>some rp.spec|276=>some YW.spec|_=>none,λ| _=>none,λ_ _=>none⟩
theorem agj:sH.sp 138=some ixC.spec:=rfl
theorem agk:sH.sp 272=some rN.spec:=rfl
theorem agl:sH.sp 273=some rp.spec:=rfl
theorem agm:sH.sp 276=some YW.spec:=rfl
def bh(W:World)(S:Nat->Prop):Prop:=S 4/\W.cell? ⟨4,0,none⟩=some (.int .u8 110)/\W.cell? ⟨4,0+1,none⟩=some (.int .u8 10)/\W.cell? ⟨4,0+1+1,none⟩=some (.int .u8 114)/\W.cell? ⟨4,0+1+1+1,none⟩=some (.int .u8 13) /\
 W.cell? ⟨4,0+1+1+1+1,none⟩=some (.int .u8 116)/\W.cell? ⟨4,0+1+1+1+1+1,none⟩=some (.int .u8 9)
theorem bh.mono{W W' : World}{S S' : Nat->Prop}(h:bh W S)(hs:aY W S W' S'):bh W' S' := by
 obtain⟨h0,h1,h2,h3,h4,h5,h6⟩:=h;have g:∀ o v,W.cell? ⟨4,o,none⟩=some v->W'.cell? ⟨4,o,none⟩=some v/\S' 4:=λo v hv=>by
  have:=XC.mono (b:=4) (o:=o) (v:=v) ⟨h0,hv⟩ hs;exact⟨this.2,this.1⟩
 exact⟨(g _ _ h1).2,(g _ _ h1).1,(g _ _ h2).1,(g _ _ h3).1,(g _ _ h4).1,(g _ _ h5).1,(g _ _ h6).1⟩
theorem bh.fR{W w:World}{bs fp:List Nat}(h:bh W (Out bs))(hk:an W bs w)(hm:∀ b∈fp,W.heap.size<=b\/b∈bs):bh w (Out fp):=
 h.mono λb hb hs=>⟨hk.block b hb hs,λhb' => (hm b hb').elim (λg=>absurd g (Nat.not_le.2 hb)) hs⟩
def mQ(s:ByteArray)(i:Int):Except Int (Int×Int):=
 if ¬ i<s.size then .error i
 else if bt s i=110 then .ok (10,i+1)
 else if bt s i=114 then .ok (13,i+1)
 else if bt s i=116 then .ok (9,i+1)
 else if bt s i=120 then
  match rv s (i+1) with
  |.error j=>.error j
  |.ok (h,j)=>match rv s j with
   |.error k=>.error k
   |.ok (l,k)=>.ok (16*h+l,k)
 else if (((bt s i<32\/126<bt s i)\/48<=bt s i/\bt s i<=57)\/97<=bt s i/\bt s i<=122)\/65<=bt s i/\bt s i<=90 then .error i
 else .ok (bt s i,i+1)
theorem Aw{s:ByteArray}{i h j:Int}(he:rv s i=.ok (h,j))(h0:0<=i):0<=h/\h<16/\j=i+1/\i<s.size:=by
 rw[rv]at he;split at he
 ·rename_i hc;simp only[Except.ok.injEq,Prod.mk.injEq]at he;obtain⟨rfl,rfl⟩:=he;obtain⟨b0,b1⟩:=jr s i;have:=RM _ b0 b1;exact⟨hc.2,this.2,rfl,hc.1⟩
 ·cases he
theorem aj9(h l:Int)(h0:0<=h)(h1:h<16)(l0:0<=l)(l1:l<16):cp .or .u8 (IntKind.u8.wrap (h*16)) l=16*h+l:=by
 obtain⟨n,rfl⟩:=Int.eq_ofNat_of_zero_le h0;obtain⟨m,rfl⟩:=Int.eq_ofNat_of_zero_le l0;have:∀ a b:Fin 16,cp .or .u8 (IntKind.u8.wrap (((a.val:Nat):Int)*16)) ((b.val:Nat):Int)=16*((a.val:Nat):Int)+((b.val:Nat):Int):=by decide +kernel
 exact this ⟨n,oM⟩ ⟨m,oM⟩
def bP:=(ae tK YX YY ajA @Sa @B2 agj (bw agk agl agm))
theorem ad5(s:ByteArray)(i:Int)(u:Value)(fp:List Nat)(w:World)(h0:0<=i)(hs:s.size<=140737488351232)(hg:bh w (Out fp))(ho:aW w u fp 375 (GU s i))(hlt:∀ b∈fp,b<w.heap.size) :
  Calls prog 275 (#[u]++#[]) w λe w' => dH w u fp 375 e w' (B1 s (mQ s i)):=by
 obtain⟨b0,b1⟩:=jr s i;obtain⟨g0,g1,g2,g3,g4,g5,g6⟩:=hg;have g0' : ¬ 4∈fp:=g0;refine aN (nt:=99) #[] [.tmp 2] (by show 2<=7;omega) ho hlt func275 rfl rfl rfl ?_;refine vR sH bP ?_;refine wR sH bP ?_ ?_
 ·simp[h0]
 refine Wp.seq ?_;refine vR sH bP ?_;refine wC bP (λhc=>?_) (λhc=>?_)
 ·simp at hc;have he:mQ s i=.error i:=by rw[mQ,if_pos oM]
  rw[he];refine Wp.dF sH aM (ev bP) ?_ ?_
  ·simp
  refine qq ?_;exact⟨_,rfl⟩
 ·simp at hc;have hi:i<s.size:=oM;have w1:IntKind.i64.wrap (i+1)=i+1:=aA oM oM;refine wK ?_;refine Wp.seq ?_;refine wR sH (EP bP g1 g2 g3 g4 g5 g6) ?_ ?_
  ·simp[Out,g0',ay,SV.keys]
  refine Wp.block ?_
  refine Wp.loop (λk:Nat=>⟨40,ee [(0,.is (.own 0 0)),(3,.is (.v (.int .u8 (bt s i)))),(21,.is (.agg [.v (.int .u8 110),.v (.int .u8 10),.v (.int .u8 114),.v (.int .u8 13),.v (.int .u8 116),.v (.int .u8 9)])),(22,.is (.v (.int .i64 k)))],dP [(0,.cells 375 [.v (.string s),.v (.int .i64 i)])]⟩)
   (λk=>k<=3/\(0<k->bt s i≠110)/\(1<k->bt s i≠114)/\(2<k->bt s i≠116)) (λk=>3-k) 0 ?_ ⟨oM,oM,oM,oM⟩ ?_
  ·exact wM (λk=>.key k) bP
  rintro k ⟨k0,k1,k2,k3⟩;refine vR sH bP ?_;refine Wp.seq ?_;refine wC bP (λhc=>?_) (λhc=>?_)
  ·simp at hc;refine wK ?_;have hk3:k<3:=oM;have hcase:k=0\/k=1\/k=2:=oM;refine Wp.seq (Wp.block ?_);rcases hcase with rfl|rfl|rfl
   ·skip;refine vR sH bP ?_;refine vR sH bP ?_;refine wC bP (λhc=>?_) (λhc=>?_)
    ·simp at hc;have he:mQ s i=.ok (10,i+1):=by rw[mQ,if_neg oM,if_pos oM]
     rw[he];refine vR sH (aa bP w1) ?_;refine vR sH bP ?_;refine wZ bP ?_;exact⟨_,_,rfl,λE=>rfl,_,_,rfl,rfl,dE⟩
    ·simp at hc;refine wK ?_;refine vr sH bP ?_;refine⟨1,⟨oM,oM,oM,oM⟩,oM,?_⟩;exact wM (λk=>.key k) bP
   ·skip;refine vR sH bP ?_;refine vR sH bP ?_;refine wC bP (λhc=>?_) (λhc=>?_)
    ·simp at hc;have he:mQ s i=.ok (13,i+1):=by rw[mQ,if_neg oM,if_neg (k1 oM),if_pos oM]
     rw[he];refine vR sH (aa bP w1) ?_;refine vR sH bP ?_;refine wZ bP ?_;exact⟨_,_,rfl,λE=>rfl,_,_,rfl,rfl,dE⟩
    ·simp at hc;refine wK ?_;refine vr sH bP ?_;refine⟨2,⟨oM,oM,oM,oM⟩,oM,?_⟩;exact wM (λk=>.key k) bP
   ·skip;refine vR sH bP ?_;refine vR sH bP ?_;refine wC bP (λhc=>?_) (λhc=>?_)
    ·simp at hc;have he:mQ s i=.ok (9,i+1):=by rw[mQ,if_neg oM,if_neg (k1 oM),if_neg (k2 oM),if_pos oM]
     rw[he];refine vR sH (aa bP w1) ?_;refine vR sH bP ?_;refine wZ bP ?_;exact⟨_,_,rfl,λE=>rfl,_,_,rfl,rfl,dE⟩
    ·simp at hc;refine wK ?_;refine vr sH bP ?_;refine⟨3,⟨oM,oM,oM,oM⟩,oM,?_⟩;exact wM (λk=>.key k) bP
  ·simp at hc;have k33:k=3:=oM;subst k33;refine wE ?_;refine Wp.seq ?_;refine vR sH bP ?_;refine wC bP (λhc=>?_) (λhc=>?_)
   ·simp at hc;have he:mQ s i=match rv s (i+1) with
      |.error j=>.error j
      |.ok (h,j)=>match rv s j with
       |.error k=>.error k
       |.ok (l,k)=>.ok (16*h+l,k):=by rw[mQ,if_neg oM,if_neg oM,if_neg oM,if_neg oM,if_pos hc]
    refine vR sH (aa bP w1) ?_;cases h1:rv s (i+1) with
    |error j=>
     rw[he,h1];refine Wp.bn sH aM (ev (aa bP h1)) ?_ ?_
     ·simp[w1];omega
     refine qq ?_;exact⟨_,rfl⟩
    | ok p=>
     obtain⟨h,j⟩:=p;obtain⟨q0,q1,rfl,q3⟩:=Aw h1 oM;refine wR sH (aa bP h1) ?_ ?_
     ·simp[w1];omega
     cases h2:rv s (i+1+1) with
     |error j=>
      rw[he,h1];simp only[h2];refine Wp.bn sH aM (ev (aa bP h2)) ?_ ?_
      ·simp[w1];omega
      refine qq ?_;exact⟨_,rfl⟩
     |ok p=>
      obtain⟨l,j⟩:=p;obtain⟨r0,r1,rfl,r3⟩:=Aw h2 oM;rw[he,h1];simp only[h2];refine wR sH (aa bP h2) ?_ ?_
      ·simp[w1];omega
      refine wZ bP ?_;exact⟨_,_,rfl,λE=>by simp only[den];rw[aj9 h l q0 q1 r0 r1],_,_,rfl,rfl,dE⟩
   ·simp at hc;refine wK ?_;refine Wp.seq ?_;refine vR sH bP ?_;refine wC bP (λhc=>?_) (λhc=>?_)
    ·simp at hc;have he:mQ s i=.error i:=by rw[mQ,if_neg oM,if_neg oM,if_neg oM,if_neg oM,if_neg (by assumption),if_pos hc]
     rw[he];refine Wp.dF sH aM (ev bP) ?_ ?_
     ·exact oo
     refine qq ?_;exact⟨_,rfl⟩
    ·have hn:¬ ((((bt s i<32\/126<bt s i)\/48<=bt s i/\bt s i<=57)\/97<=bt s i/\bt s i<=122)\/65<=bt s i/\bt s i<=90):=by
      intro h;apply Bool.eq_false_iff.1 hc;simp;exact h
     have he:mQ s i=.ok (bt s i,i+1):=by rw[mQ,if_neg oM,if_neg oM,if_neg oM,if_neg oM,if_neg (by assumption),if_neg hn]
     rw[he];refine wK ?_;refine vR sH (aa bP w1) ?_;refine vR sH bP ?_;refine wZ bP ?_;exact⟨_,_,rfl,λE=>rfl,_,_,rfl,rfl,dE⟩
def Yt:bJ prog 275 where
 T:=375
 pre:=λW bs fs as_=>match fs,as_ with|[.val (.string s),.val (.int .i64 i)],[]=>0<=i/\s.size<=140737488351232/\bh W (Out bs)|_,_=>False
 out:=λW fs as_=>match fs,as_ with|[.val (.string s),.val (.int .i64 i)],[]=>B1 s (mQ s i)|_,_=>.pan [] undef
 enters:=call275
 ok:=by
  intro W w bs u fp us fs as_ hk ho hlt hmine hu hp;split at hp
  ·rename_i s i
   match us,hu with
   |[],_=>
    exact ad5 s i u fp w hp.1 hp.2.1 (hp.2.2.fR hk hmine) ho hlt
  ·exact hp.elim
theorem Yu(W:World)(s:ByteArray)(i:Int):Yt.out W [.val (.string s),.val (.int .i64 i)] []=B1 s (mQ s i):=rfl
theorem Yv(W:World)(bs:List Nat)(s:ByteArray)(i:Int):Yt.pre W bs [.val (.string s),.val (.int .i64 i)] []=(0<=i/\s.size<=140737488351232/\bh W (Out bs)):=rfl
theorem ajl:Yt.T=375:=rfl
noncomputable def S2:Env prog:=⟨λ| 138=>some ixC.spec|272=>some rN.spec|273=>some rp.spec|275=>some Yt.spec|_=>none,λ| _=>none,λ_ _=>none⟩
theorem agn:S2.sp 138=some ixC.spec:=rfl
theorem ago:S2.sp 272=some rN.spec:=rfl
theorem agp:S2.sp 273=some rp.spec:=rfl
theorem agq:S2.sp 275=some Yt.spec:=rfl
def nH(s:ByteArray)(i:Int)(q:ByteArray):Except Int (Int×Int):=
 if i<s.size/\bt s i=92 then mQ s (i+1)
 else if ((¬ i<s.size\/bt s i<32)\/126<bt s i)\/0<=BA q (bt s i) then .error i
 else .ok (bt s i,i+1)
def nh:=(ae bP Yu Yv ajl agn ago agp agq)
theorem ae0(s:ByteArray)(i:Int)(q:ByteArray)(u:Value)(fp:List Nat)(w:World)(h0:0<=i)(hs:s.size<=140737488351232)(hg:bh w (Out fp))(ho:aW w u fp 375 (GU s i))(hlt:∀ b∈fp,b<w.heap.size) :
  Calls prog 270 (#[u]++#[.string q]) w λe w' => dH w u fp 375 e w' (B1 s (nH s i q)):=by
 obtain⟨b0,b1⟩:=jr s i;refine aN (nt:=56) #[.string q] [.tmp 4] (by show 2<=7;omega) ho hlt func270 rfl rfl rfl ?_;refine vR S2 nh ?_;refine wR S2 nh ?_ ?_
 ·simp[h0]
 refine Wp.seq ?_;refine vR S2 nh ?_;refine wC nh (λhc=>?_) (λhc=>?_)
 ·simp at hc;have w1:IntKind.i64.wrap (i+1)=i+1:=aA oM oM;have he:nH s i q=mQ s (i+1):=by rw[nH,if_pos hc]
  rw[he];refine vR S2 (aa nh w1) ?_;cases h1:mQ s (i+1) with
  |error j=>
   refine Wp.bn S2 aM (ev (aa nh h1)) ?_ ?_
   ·simp[w1,hs];exact⟨oM,hg⟩
   refine qq ?_;exact⟨_,rfl⟩
  |ok p=>
   obtain⟨b,j⟩:=p;refine wR S2 (aa nh h1) ?_ ?_
   ·simp[w1,hs];exact⟨oM,hg⟩
   refine wZ nh ?_;exact⟨_,_,rfl,λE=>rfl,_,_,rfl,rfl,dE⟩
 ·have hn:¬ (i<s.size/\bt s i=92):=λh=>by
   apply Bool.eq_false_iff.1 hc;simp;exact h
  refine wK ?_;refine Wp.seq ?_;refine vR S2 nh ?_;refine wC nh (λhc=>?_) (λhc=>?_)
  ·simp at hc;have he:nH s i q=.error i:=by
    rw[nH,if_neg hn,if_pos];omega
   rw[he];refine Wp.dF S2 aM (ev nh) ?_ ?_
   ·simp
   refine qq ?_;exact⟨_,rfl⟩
  ·have hn' : ¬ (((¬ i<s.size\/bt s i<32)\/126<bt s i)\/0<=BA q (bt s i)):=λh=>by
    apply Bool.eq_false_iff.1 hc;simp;omega
   have he:nH s i q=.ok (bt s i,i+1):=by rw[nH,if_neg hn,if_neg hn']
   have w1:IntKind.i64.wrap (i+1)=i+1:=aA oM oM;rw[he];refine wK ?_;refine vR S2 (aa nh w1) ?_;refine vR S2 nh ?_;refine wZ nh ?_;exact⟨_,_,rfl,λE=>rfl,_,_,rfl,rfl,dE⟩
def OK:bJ prog 270 where
 T:=375
 pre:=λW bs fs as_=>match fs,as_ with|[.val (.string s),.val (.int .i64 i)],[.val (.string q)]=>0<=i/\s.size<=140737488351232/\bh W (Out bs)|_,_=>False
 out:=λW fs as_=>match fs,as_ with|[.val (.string s),.val (.int .i64 i)],[.val (.string q)]=>B1 s (nH s i q)|_,_=>.pan [] undef
 enters:=call270
 ok:=by
  intro W w bs u fp us fs as_ hk ho hlt hmine hu hp;split at hp
  ·rename_i s i q
   match us,hu with
   |[u0],hu=>
    obtain⟨rfl,_⟩:=hu;exact ae0 s i q u fp w hp.1 hp.2.1 (hp.2.2.fR hk hmine) ho hlt
  ·exact hp.elim
theorem ZX(W:World)(s:ByteArray)(i:Int)(q:ByteArray):OK.out W [.val (.string s),.val (.int .i64 i)] [.val (.string q)]=B1 s (nH s i q):=rfl
theorem ZY(W:World)(bs:List Nat)(s:ByteArray)(i:Int)(q:ByteArray):OK.pre W bs [.val (.string s),.val (.int .i64 i)] [.val (.string q)]=(0<=i/\s.size<=140737488351232/\bh W (Out bs)):=rfl
theorem aj3:OK.T=375:=rfl
theorem ad4{s:ByteArray}{i b j:Int}(he:mQ s i=.ok (b,j))(h0:0<=i):0<=b/\b<256/\i<j/\j<=s.size:=by
 obtain⟨b0,b1⟩:=jr s i;rw[mQ]at he;split at he
 ·cases he
 ·rename_i h1;split at he
  ·simp only[Except.ok.injEq,Prod.mk.injEq]at he;omega
  ·split at he
   ·simp only[Except.ok.injEq,Prod.mk.injEq]at he;omega
   ·split at he
    ·simp only[Except.ok.injEq,Prod.mk.injEq]at he;omega
    ·split at he
     ·cases h2:rv s (i+1) with
      |error k=>rw[h2]at he;cases he
      | ok p=>
       obtain⟨h,k⟩:=p;rw[h2]at he;obtain⟨q0,q1,q2,q3⟩:=Aw h2 oM;simp only at he;cases h3:rv s k with
       |error k' => rw[h3]at he;cases he
       |ok p=>
        obtain⟨l,k'⟩:=p;rw[h3]at he;obtain⟨r0,r1,r2,r3⟩:=Aw h3 oM;simp only[Except.ok.injEq,Prod.mk.injEq]at he;omega
     ·split at he
      ·cases he
      ·simp only[Except.ok.injEq,Prod.mk.injEq]at he;omega
theorem s9{s:ByteArray}{i b j:Int}{q:ByteArray}(he:nH s i q=.ok (b,j))(h0:0<=i):0<=b/\b<256/\i<j/\j<=s.size:=by
 obtain⟨b0,b1⟩:=jr s i;rw[nH]at he;split at he
 ·have:=ad4 he oM;omega
 ·split at he
  ·cases he
  ·simp only[Except.ok.injEq,Prod.mk.injEq]at he;omega
noncomputable def Et:a7 prog 224 where
 pre:=λW bs=>λ| [.val y0]=>(match dec cx y0 with|some S=>True|_=>False)|_=>False
 res:=λW=>λ| [.val y0]=>(match dec cx y0 with|some S=>cx (~~~S)|_=>undef)|_=>undef
 enters:=call224
 ok:=by
  intro W w bs us as_ hk hu hp;split at hp
  ·rename_i y0;split at hp
   ·rename_i S h0
    match us,hu with
    |[u0],hu=>
     obtain⟨rfl,_⟩:=hu;obtain rfl:=gi h0
     try dsimp only
     try simp only[bW cF]
     exact aeV S w
   ·exact hp.elim
  ·exact hp.elim
theorem KU(W:World)(S:CS):Et.res W [.val (cx S)]=cx (~~~S):=by simp only[Et,bW cF]
theorem KT(W:World)(bs:List Nat)(S:CS):Et.pre W bs [.val (cx S)]=(True):=by simp only[Et,bW cF]
noncomputable def yX:a7 prog 274 where
 pre:=λW bs=>λ| [.val y0,.val y1]=>(match dec cx y0,dec cx y1 with|some S,some T=>True|_,_=>False)|_=>False
 res:=λW=>λ| [.val y0,.val y1]=>(match dec cx y0,dec cx y1 with|some S,some T=>cx (S ||| T)|_,_=>undef)|_=>undef
 enters:=call274
 ok:=by
  intro W w bs us as_ hk hu hp;split at hp
  ·rename_i y0 y1;split at hp
   ·rename_i S T h0 h1
    match us,hu with
    |[u0,u1],hu=>
     obtain⟨rfl,rfl,_⟩:=hu;obtain rfl:=gi h0;obtain rfl:=gi h1
     try dsimp only
     try simp only[bW cF]
     exact W5 S T w
   ·exact hp.elim
  ·exact hp.elim
theorem QZ(W:World)(S:CS)(T:CS):yX.res W [.val (cx S),.val (cx T)]=cx (S ||| T):=by simp only[yX,bW cF]
theorem QY(W:World)(bs:List Nat)(S:CS)(T:CS):yX.pre W bs [.val (cx S),.val (cx T)]=(True):=by simp only[yX,bW cF]
def CD(lo hi:Int):CS:=span lo.toNat hi.toNat
def FT:a7 prog 271 where
 pre:=λW bs=>λ| [.val (.int .u8 lo),.val (.int .u8 hi)]=>0<=lo/\lo<256/\0<=hi/\hi<256|_=>False
 res:=λW=>λ| [.val (.int .u8 lo),.val (.int .u8 hi)]=>cx (CD lo hi)|_=>undef
 enters:=call271
 ok:=by
  intro W w bs us as_ hk hu hp;split at hp
  ·rename_i lo hi
   match us,hu with
   |[u0,u1],hu=>
    obtain⟨rfl,rfl,_⟩:=hu;obtain⟨p0,p1,p2,p3⟩:=hp;have:=abb lo.toNat hi.toNat oM oM w;rwa [Int.toNat_of_nonneg p0,Int.toNat_of_nonneg p2]at this
  ·exact hp.elim
theorem Wt(W:World)(lo:Int)(hi:Int):FT.res W [.val (.int .u8 lo),.val (.int .u8 hi)]=cx (CD lo hi):=rfl
theorem Ws(W:World)(bs:List Nat)(lo:Int)(hi:Int):FT.pre W bs [.val (.int .u8 lo),.val (.int .u8 hi)]=(0<=lo/\lo<256/\0<=hi/\hi<256):=rfl
def ofC:a7 prog 245 where
 pre:=λW bs=>λ| [.val (.string s)]=>s.size<=140737488351232|_=>False
 res:=λW=>λ| [.val (.string s)]=>cx (Vj s s.size)|_=>undef
 enters:=call245
 ok:=by
  intro W w bs us as_ hk hu hp;split at hp
  ·rename_i s
   match us,hu with
   |[u0],hu=>
    obtain⟨rfl,_⟩:=hu;exact aj2 s hp w
  ·exact hp.elim
theorem R6(W:World)(s:ByteArray):ofC.res W [.val (.string s)]=cx (Vj s s.size):=rfl
theorem R5(W:World)(bs:List Nat)(s:ByteArray):ofC.pre W bs [.val (.string s)]=(s.size<=140737488351232):=rfl
noncomputable def tV:Env prog:=⟨λ| 272=>some rN.spec|273=>some rp.spec|270=>some OK.spec|224=>some Et.spec|274=>some yX.spec|271=>some FT.spec|245=>some ofC.spec|_=>none,λ| _=>none,λ_ _=>none⟩
theorem agw:tV.sp 272=some rN.spec:=rfl
theorem agx:tV.sp 273=some rp.spec:=rfl
theorem agu:tV.sp 270=some OK.spec:=rfl
theorem ags:tV.sp 224=some Et.spec:=rfl
theorem agy:tV.sp 274=some yX.spec:=rfl
theorem agv:tV.sp 271=some FT.spec:=rfl
theorem agt:tV.sp 245=some ofC.spec:=rfl
def zi:ByteArray:=⟨#[92,93,91,45,94,47]⟩
def Hc(s:ByteArray):Nat->Int->CS->Except Int (CS×Int)
 |0,i,_=>.error i
 | n+1,i,a=>
  if i<s.size/\bt s i=93 then .ok (a,i+1) else
  match nH s i zi with
  |.error j=>.error j
  | .ok (lo,j)=>
   if j<s.size/\bt s j=45 then
    match nH s (j+1) zi with
    |.error k=>.error k
    |.ok (hi,k)=>if hi<lo then .error (j+1) else Hc s n k (a ||| CD lo hi)
   else Hc s n j (a ||| CD lo lo)
def alS(b:Bool)(a:CS):CS:=if b then ~~~a else a
def vh(s:ByteArray)(i:Int):Bool:=decide (i<s.size)&&decide (bt s i=94)
def KV(b:Bool):Except Int (CS×Int)->Except Int (CS×Int)
 |.error j=>.error j
 |.ok (a,j)=>.ok (alS b a,j)
def jx(s:ByteArray)(i:Int):Except Int (CS×Int):=KV (vh s i) (Hc s (s.size+1) (if vh s i then i+1 else i) 0)
def K7(s:ByteArray):Except Int (CS×Int)->BOut
 |.ok (a,j)=>.ret (cx a) (GU s j)
 |.error j=>.pan (kr j) (cx 0)
theorem vU(s:ByteArray)(a:CS)(j:Int):K7 s (.ok (a,j))=.ret (cx a) (GU s j):=rfl
theorem ma(s:ByteArray)(j:Int):K7 s (.error j)=.pan (kr j) (cx 0):=rfl
def cH:=(ae @List.replicate_succ.{0} @List.replicate_zero.{0} @au @ab kQ kS kU (ae dc dd de df dv dw dz (ae dA mV mW mX mY mZ eB (ae eC eD eE eF eG wL wO (ae wP wQ w6 w7 w8 w9 ML (ae MM SM SN SO SP SQ SR (ae SS SU SW SX SY @aV @aw (ae @aD @aG @yl @ym @Hx @E9 @Fa (ae @Rz @ZX @ZY @aj3 @GU.eq_1 @kr.eq_1 @Sa (ae @B2 @cO @mL @mM @mK @kp @qB (ae @dr @Jm @iS @List.drop_nil.{0} @KU @KT QZ (ae QY Wt Ws @R6 @R5 agw agx (qE agu ags agy agv agt)))))))))))))
theorem KM(s:ByteArray)(i:Int)(u:Value)(fp:List Nat)(w:World)(h0:0<=i)(hs:s.size<=140737488351232)(hg:bh w (Out fp))(ho:aW w u fp 375 (GU s i))(hlt:∀ b∈fp,b<w.heap.size) :
  Calls prog 269 (#[u]++#[]) w λe w' => dH w u fp 375 e w' (K7 s (jx s i)):=by
 obtain⟨b0,b1⟩:=jr s i;refine aN (nt:=90) #[] [.cell 2 309] (by show 2<=7;omega) ho hlt func269 rfl rfl rfl ?_;refine vR tV cH ?_;refine vR tV cH ?_;refine wR tV cH ?_ ?_
 ·simp[h0]
 refine vR tV cH ?_;generalize hi0:(if vh s i then i+1 else i)=i0;have hj0:0<=i0/\i0<=i+1:=by rw[<- hi0];split<;>omega
 generalize hR:Hc s (s.size+1) i0 0=R;have hm:jx s i=KV (vh s i) R:=by rw[jx,hi0,hR]
 refine hH ⟨40,ee [(0,.is (.own 0 0)),(2,.is (.own 8 0)),(3,.is (.own 16 0)),(6,.is (.v (.bool (vh s i))))],dP [(0,.cells 375 [.v (.string s),.v (.int .i64 i0)]),(8,.cells 309 [.v (.int .u64 0),.v (.int .u64 0),.v (.int .u64 0),.v (.int .u64 0)]),(16,.cells 309 [.v (.int .u64 0),.v (.int .u64 0),.v (.int .u64 0),.v (.int .u64 0)])]⟩ ?_ ?_
 ·skip;refine vR tV cH ?_;refine wC cH (λhc=>?_) (λhc=>?_)
  ·have hcar:vh s i=true:=hc;rw[hcar]at hi0;simp only[if_true]at hi0;simp at hc;have w1:IntKind.i64.wrap (i+1)=i+1:=aA oM oM;refine vr tV (aa cH w1) ?_;subst hi0;exact wM (λk=>.key k) (aa cH @vh.eq_1)
  ·have hcar:vh s i=false:=hc;rw[hcar]at hi0;simp only[Bool.false_eq_true,if_false]at hi0;refine wK ?_;subst hi0;exact wM (λk=>.key k) (aa cH @vh.eq_1)
 refine Wp.seq ?_;refine Wp.block ?_
 refine Wp.loop (λp:Nat×Int×CS=>⟨40,ee [(0,.is (.own 0 0)),(2,.is (.own 8 0)),(3,.is (.own 16 0)),(6,.is (.v (.bool (vh s i))))],dP [(0,.cells 375 [.v (.string s),.v (.int .i64 p.2.1)]),(8,.cells 309 [.v (.int .u64 0),.v (.int .u64 0),.v (.int .u64 0),.v (.int .u64 0)]),(16,.cells 309 ((mO p.2.2).map .v))]⟩)
  (λp=>0<=p.2.1/\(s.size-p.2.1<p.1/\1<=p.1)/\Hc s p.1 p.2.1 p.2.2=R) (λp=>p.1) (s.size+1,i0,0) ?_ ⟨hj0.1,by simp only;omega,hR⟩ ?_
 ·exact wM (λk=>.key k) (aa cH @DY)
 rintro⟨n,i',a⟩ ⟨k0,⟨k1,k3⟩,k2⟩;simp only at k0 k1 k2;obtain⟨n,rfl⟩:∃ m,n=m+1:=⟨n-1,by simp only at k3;omega⟩;rw[Hc]at k2;refine Wp.block ?_;refine Wp.seq ?_;refine wR tV cH ?_ ?_
 ·simp[k0]
 refine vR tV cH ?_;refine wC cH (λhc=>?_) (λhc=>?_)
 ·simp at hc;have hR' : R=.ok (a,i' + 1):=by rw[<- k2,if_pos hc]
  have w1:IntKind.i64.wrap (i' + 1)=i' + 1:=aA oM oM;refine vR tV (aa cH w1) ?_;refine wE ?_;refine Wp.seq ?_;refine vR tV cH ?_;refine wC cH (λhc=>?_) (λhc=>?_)
  ·have hcar:vh s i=true:=hc;rw[hm,hR',hcar,KV,vU];refine wR tV cH ?_ ?_
   ·simp[mL]
   refine wZ cH ?_;exact⟨_,_,rfl,rfl,_,_,rfl,rfl,dE⟩
  ·have hcar:vh s i=false:=hc;rw[hm,hR',hcar,KV,vU];refine wK ?_;refine wR tV cH ?_ ?_
   ·simp[mL]
   refine wZ cH ?_;exact⟨_,_,rfl,rfl,_,_,rfl,rfl,dE⟩
 ·have hn:¬ (i' < s.size/\bt s i' = 93):=λh=>by
   apply Bool.eq_false_iff.1 hc;simp;exact h
  rw[if_neg hn]at k2;refine wK ?_;cases h1:nH s i' zi with
  |error j=>
   rw[h1]at k2;simp only at k2;rw[zi]at h1;rw[hm,<- k2,KV,ma];refine Wp.bn tV aM (ev (aa cH h1)) ?_ ?_
   ·simp[hs,hg];omega
   refine qq ?_;exact⟨_,rfl⟩
  | ok p=>
   obtain⟨lo,j⟩:=p;obtain⟨o0,o1,o2,o3⟩:=s9 h1 k0;rw[h1]at k2;simp only at k2;rw[zi]at h1;refine wR tV (aa cH h1) ?_ ?_
   ·simp[hs,hg];omega
   refine vR tV cH ?_;refine Wp.seq ?_;refine wR tV cH ?_ ?_
   ·simp;omega
   refine vR tV cH ?_;refine wC cH (λhc=>?_) (λhc=>?_)
   ·simp at hc;rw[if_pos hc]at k2;have w1:IntKind.i64.wrap (j+1)=j+1:=aA oM oM;refine vR tV (aa cH w1) ?_;refine vR tV cH ?_;cases h2:nH s (j+1) zi with
    |error l=>
     rw[h2]at k2;simp only at k2;rw[zi]at h2;rw[hm,<- k2,KV,ma];refine Wp.bn tV aM (ev (aa cH h2)) ?_ ?_
     ·simp[hs,hg];omega
     refine qq ?_;exact⟨_,rfl⟩
    | ok p=>
     obtain⟨hi,l⟩:=p;obtain⟨r0,r1,r2,r3⟩:=s9 h2 oM;rw[h2]at k2;simp only at k2;rw[zi]at h2;refine wR tV (aa cH h2) ?_ ?_
     ·simp[hs,hg];omega
     refine vR tV cH ?_;refine wC cH (λhc=>?_) (λhc=>?_)
     ·simp at hc;rw[if_pos hc]at k2;rw[hm,<- k2,KV,ma];refine Wp.dF tV aM (ev cH) ?_ ?_
      ·exact oo
      refine qq ?_;exact⟨_,rfl⟩
     ·simp at hc;rw[if_neg oM]at k2;refine wK ?_;refine Jt tV cH ?_ ?_
      ·omega
      refine⟨(n,l,a ||| CD lo hi),⟨by simp only;omega,by simp only;omega,k2⟩,by simp only;omega,?_⟩;exact wM (λk=>.key k) cH
   ·have hn' : ¬ (j<s.size/\bt s j=45):=λh=>by
     apply Bool.eq_false_iff.1 hc;simp;exact h
    rw[if_neg hn']at k2;refine wK ?_;refine Jt tV cH ?_ ?_
    ·omega
    refine⟨(n,j,a ||| CD lo lo),⟨by simp only;omega,by simp only;omega,k2⟩,by simp only;omega,?_⟩;exact wM (λk=>.key k) cH
def rG:bJ prog 269 where
 T:=375
 pre:=λW bs fs as_=>match fs,as_ with|[.val (.string s),.val (.int .i64 i)],[]=>0<=i/\s.size<=140737488351232/\bh W (Out bs)|_,_=>False
 out:=λW fs as_=>match fs,as_ with|[.val (.string s),.val (.int .i64 i)],[]=>K7 s (jx s i)|_,_=>.pan [] undef
 enters:=call269
 ok:=by
  intro W w bs u fp us fs as_ hk ho hlt hmine hu hp;split at hp
  ·rename_i s i
   match us,hu with
   |[],_=>
    exact KM s i u fp w hp.1 hp.2.1 (hp.2.2.fR hk hmine) ho hlt
  ·exact hp.elim
theorem He(W:World)(s:ByteArray)(i:Int):rG.out W [.val (.string s),.val (.int .i64 i)] []=K7 s (jx s i):=rfl
theorem Hf(W:World)(bs:List Nat)(s:ByteArray)(i:Int):rG.pre W bs [.val (.string s),.val (.int .i64 i)] []=(0<=i/\s.size<=140737488351232/\bh W (Out bs)):=rfl
theorem OB:rG.T=375:=rfl
noncomputable def Ju:Env prog:=⟨λ| 270=>some OK.spec|224=>some Et.spec|271=>some FT.spec|245=>some ofC.spec|269=>some rG.spec|_=>none,λ| _=>none,λ_ _=>none⟩
theorem agC:Ju.sp 270=some OK.spec:=rfl
theorem agz:Ju.sp 224=some Et.spec:=rfl
theorem agD:Ju.sp 271=some FT.spec:=rfl
theorem agA:Ju.sp 245=some ofC.spec:=rfl
theorem agB:Ju.sp 269=some rG.spec:=rfl
def spc:ByteArray:=⟨#[40,41,91,93,123,125,124,38,45,42,43,63,46,92,47,94]⟩
def aj4:Except Int (Int×Int)->Except Int (CS×Int)
 |.error j=>.error j
 |.ok (b,j)=>.ok (CD b b,j)
def jv(s:ByteArray)(i:Int):Except Int (CS×Int):=
 if bt s i=46 then .ok (~~~(Vj ⟨#[10]⟩ 1),i+1)
 else if bt s i=91 then jx s (i+1)
 else aj4 (nH s i spc)
def jS:=(ae cH He Hf OB @vU @ma agC (fJ agz agD agA agB))
theorem Y3(s:ByteArray)(i:Int)(u:Value)(fp:List Nat)(w:World)(h0:0<=i)(h1:i<s.size)(hs:s.size<=140737488351232)(hg:bh w (Out fp))(ho:aW w u fp 375 (GU s i))(hlt:∀ b∈fp,b<w.heap.size) :
  Calls prog 268 (#[u]++#[]) w λe w' => dH w u fp 375 e w' (K7 s (jv s i)):=by
 obtain⟨b0,b1⟩:=jr s i;have w1:IntKind.i64.wrap (i+1)=i+1:=aA oM oM;refine aN (nt:=42) #[] [.cell 2 309] (by show 2<=7;omega) ho hlt func268 rfl rfl rfl ?_;refine vR Ju jS ?_;refine Wp.seq ?_;refine yY Ju jS ?_;refine vR Ju jS ?_;refine Wp.block ?_;refine vR Ju jS ?_;refine wC jS (λhc=>?_) (λhc=>?_)
 ·simp at hc;have he:jv s i=.ok (~~~(Vj ⟨#[10]⟩ 1),i+1):=by rw[jv,if_pos hc]
  rw[he,vU];refine vR Ju (aa jS w1) ?_;refine wR Ju jS ?_ ?_
  ·decide
  refine wZ jS ?_;exact⟨_,_,rfl,rfl,_,_,rfl,rfl,dE⟩
 ·simp at hc;have hc0:=hc;refine vR Ju jS ?_;refine wC jS (λhc=>?_) (λhc=>?_)
  ·simp at hc;have he:jv s i=jx s (i+1):=by rw[jv,if_neg hc0,if_pos hc]
   rw[he];refine vR Ju (aa jS w1) ?_;cases h2:jx s (i+1) with
   |error j=>
    refine Wp.bn Ju aM (ev (aa jS h2)) ?_ ?_
    ·simp[hs,hg];omega
    refine qq ?_;exact⟨_,rfl⟩
   |ok p=>
    obtain⟨a,j⟩:=p;refine wR Ju (aa jS h2) ?_ ?_
    ·simp[hs,hg];omega
    refine wZ jS ?_;exact⟨_,_,rfl,rfl,_,_,rfl,rfl,dE⟩
  ·simp at hc;have he:jv s i=aj4 (nH s i spc):=by rw[jv,if_neg hc0,if_neg hc]
   rw[he];refine wK ?_;cases h2:nH s i spc with
   |error j=>
    rw[spc]at h2;refine Wp.bn Ju aM (ev (aa jS h2)) ?_ ?_
    ·simp[hs,hg];omega
    refine qq ?_;exact⟨_,rfl⟩
   |ok p=>
    obtain⟨b,j⟩:=p;obtain⟨o0,o1,o2,o3⟩:=s9 h2 h0;rw[spc]at h2;refine wR Ju (aa jS h2) ?_ ?_
    ·simp[hs,hg];omega
    refine wR Ju jS ?_ ?_
    ·omega
    refine wZ jS ?_;exact⟨_,_,rfl,rfl,_,_,rfl,rfl,dE⟩
def Ku:bJ prog 268 where
 T:=375
 pre:=λW bs fs as_=>match fs,as_ with|[.val (.string s),.val (.int .i64 i)],[]=>0<=i/\i<s.size/\s.size<=140737488351232/\bh W (Out bs)|_,_=>False
 out:=λW fs as_=>match fs,as_ with|[.val (.string s),.val (.int .i64 i)],[]=>K7 s (jv s i)|_,_=>.pan [] undef
 enters:=call268
 ok:=by
  intro W w bs u fp us fs as_ hk ho hlt hmine hu hp;split at hp
  ·rename_i s i
   match us,hu with
   |[],_=>
    exact Y3 s i u fp w hp.1 hp.2.1 hp.2.2.1 (hp.2.2.2.fR hk hmine) ho hlt
  ·exact hp.elim
theorem Uz(W:World)(s:ByteArray)(i:Int):Ku.out W [.val (.string s),.val (.int .i64 i)] []=K7 s (jv s i):=rfl
theorem UA(W:World)(bs:List Nat)(s:ByteArray)(i:Int):Ku.pre W bs [.val (.string s),.val (.int .i64 i)] []=(0<=i/\i<s.size/\s.size<=140737488351232/\bh W (Out bs)):=rfl
theorem aex:Ku.T=375:=rfl
noncomputable def Γ20:Env prog:=⟨λ| 268=>some Ku.spec|_=>none,λ| _=>none,λ_ _=>none⟩
theorem agV:Γ20.sp 268=some Ku.spec:=rfl
def pg(c i:Int)(t:ByteArray):Value:=.agg #[.int .i64 c,.int .i64 i,.string t]
def gh:=(ae @List.replicate_succ.{0} @List.replicate_zero.{0} @au @ab kQ kS Sz (ae SD SZ kU dc dd de df (ae dv dw dz dA eB eC eD (ae eE eF eG Jh Ji Jj Jk (ae uK uL uM uN uO uP uQ (ae uR uS uT wL wO wP wQ (ae w6 w7 w8 w9 SM SN SO (ae SP SQ SR SS SU SW SX (ae SY @aV @aw @aD @aG @σR.eq_1 @σL.eq_1 (ae @l6.eq_1 @l6.eq_2 @rE.eq_1 @rE.eq_2 @GU.eq_1 @Uz @UA (ae @aex @vU @ma @kr.eq_1 @cO @mL @mM (ae @mK @kp @qB @dr @Jm @iS @List.drop_nil.{0} agV))))))))))))
noncomputable def Yb:CatchC prog 267 where
 Ts:=[309,3,39]
 enters:=call267
 pre:=λvss pv=>(∃ a b c d e f g h,vss=[[a,b,c,d],[e],[f,g,h]])/\∃ c i t,pv=.iface 39 (pg c i t)
 out:=λvss pv=>[[.int .u64 0,.int .u64 0,.int .u64 0,.int .u64 0],[.int .i64 0],match pv with|.iface _ (.agg x)=>x.toList|_=>[]]
 pc:=λvss pv=>[cx 0,.int .i64 0,match pv with|.iface _ x=>x|_=>undef]
 vals_ok:=by
  rintro vss pv ⟨_,c,i,t,rfl⟩
  refine⟨.inl ⟨by simp only[iO,Op.operands,Value.cells,σ0,σB,Nat.reduceEqDiff,Nat.reduceAdd,Nat.reduceMul,Nat.reduceLT,Nat.reduceLeDiff,Nat.reduceBEq,av,Int.reduceToNat,Int.reduceLT,Int.reduceLE,Nat.reduceDiv,Nat.reduceMod,Nat.reduceSub,Int.reducePow,Nat.reducePow,σP,σB3,gh]<;>rfl,by simp only[iO,Op.operands,Value.cells,σ0,σB,Nat.reduceEqDiff,Nat.reduceAdd,Nat.reduceMul,Nat.reduceLT,Nat.reduceLeDiff,Nat.reduceBEq,av,Int.reduceToNat,Int.reduceLT,Int.reduceLE,Nat.reduceDiv,Nat.reduceMod,Nat.reduceSub,Int.reducePow,Nat.reducePow,σP,σB3,gh],?_⟩,.inr ⟨by simp only[iO,Op.operands,Value.cells,σ0,σB,Nat.reduceEqDiff,Nat.reduceAdd,Nat.reduceMul,Nat.reduceLT,Nat.reduceLeDiff,Nat.reduceBEq,av,Int.reduceToNat,Int.reduceLT,Int.reduceLE,Nat.reduceDiv,Nat.reduceMod,Nat.reduceSub,Int.reducePow,Nat.reducePow,σP,σB3,gh],rfl⟩,.inl ⟨by simp only[iO,Op.operands,Value.cells,σ0,σB,Nat.reduceEqDiff,Nat.reduceAdd,Nat.reduceMul,Nat.reduceLT,Nat.reduceLeDiff,Nat.reduceBEq,av,Int.reduceToNat,Int.reduceLT,Int.reduceLE,Nat.reduceDiv,Nat.reduceMod,Nat.reduceSub,Int.reducePow,Nat.reducePow,σP,σB3,gh]<;>rfl,by simp only[iO,Op.operands,Value.cells,σ0,σB,Nat.reduceEqDiff,Nat.reduceAdd,Nat.reduceMul,Nat.reduceLT,Nat.reduceLeDiff,Nat.reduceBEq,av,Int.reduceToNat,Int.reduceLT,Int.reduceLE,Nat.reduceDiv,Nat.reduceMod,Nat.reduceSub,Int.reducePow,Nat.reducePow,σP,σB3,gh],rfl⟩,trivial⟩
  rfl
 quiet:=λw us hl=>by
  match us,hl with
  | [u0,u1,u2],_=>
   refine lz (nt:=10) w _ func267 rfl rfl oM oM rfl ?_;refine vR Γ20 gh ?_;refine wC gh (λhc=>?_) (λhc=>?_)
   ·simp at hc
   ·refine wK ?_;simp only[iO,Op.operands,Value.cells,σ0,σB,Nat.reduceEqDiff,Nat.reduceAdd,Nat.reduceMul,Nat.reduceLT,Nat.reduceLeDiff,Nat.reduceBEq,av,Int.reduceToNat,Int.reduceLT,Int.reduceLE,Nat.reduceDiv,Nat.reduceMod,Nat.reduceSub,Int.reducePow,Nat.reducePow,σP,σB3,nf,gf,kB,iJ,gh]
    done
 caught:=λw us bl vss pv hl hn hlt hp=>by
  obtain⟨⟨a,b,c,d,e,f,g,h,rfl⟩,k,i,t,rfl⟩:=hp;have h3:=hl.len.1;refine kq (nt:=10) func267 rfl rfl oM oM ?_ hl hn hlt ?_ ?_
  ·rw[h3];rfl
  ·rw[h3];decide
  intro us _;refine vR Γ20 gh ?_;refine wC gh (λhc=>?_) (λhc=>?_)
  ·skip;refine vrD Γ20 (aa gh @pg.eq_1) ?_;refine wS gh ?_;exact⟨rfl,rfl,rfl,trivial⟩
  ·cases hc
def tS(c:Int)(a:CS)(j k:Int):Value:=.tuple #[cx a,.int .i64 j,pg c k ⟨#[]⟩]
def vX(s:ByteArray)(i:Int):Value:=
 if i<0\/s.size<=i then tS 2 0 0 0
 else match jv s i with
  |.error j=>tS 10 0 0 j
  |.ok (a,j)=>tS 0 a j 0
theorem aat(s:ByteArray)(i:Int)(w:World)(hs:s.size<=140737488351232)(hg:bh w (Out [])) :
  Calls prog 263 #[.string s,.int .i64 i] w λe w' => e=.returned (vX s i)/\an w [] w' := by
 refine zm (nt:=31) func263 rfl rfl ?_;refine iK.seq' (rs:=[.cell 4 309,.cell 5 3,.cell 6 39]) rfl ?_;refine vr Γ20 gh ?_;refine iK.seq' (rs:=[.cell 4 309,.cell 5 3,.cell 6 39]) rfl ?_;refine vR Γ20 gh ?_;refine wC gh (λhc=>?_) (λhc=>?_)
 ·have hb:i<0\/s.size<=i:=by simpa using hc
  have he:vX s i=tS 2 0 0 0:=by rw[vX,if_pos hb]
  rw[he];refine vR Γ20 gh ?_;refine wZ gh ?_;exact λE=>rfl
 ·have hb:¬ (i<0\/s.size<=i):=λh=>by
   apply Bool.eq_false_iff.1 hc;simpa using h
  have he:vX s i=match jv s i with
    |.error j=>tS 10 0 0 j
    |.ok (a,j)=>tS 0 a j 0:=by rw[vX,if_neg hb]
  refine wK ?_;refine iK.GJ (rs:=[.cell 4 309,.cell 5 3,.cell 6 39]) rfl Yb [4,5,6] [0,8,16] rfl dE rfl dE rfl rfl ?_ ?_ λus hus=>?_
  ·rintro p hp;simp only[List.zip_cons_cons,List.zip_nil_right,List.mem_cons,List.not_mem_nil,or_false]at hp;rcases hp with rfl|rfl|rfl<;>rfl
  ·rintro k hk;simp only[List.mem_cons,List.not_mem_nil,or_false]at hk;rcases hk with rfl|rfl|rfl<;>exact⟨_,_,rfl⟩
  have hi:0<=i/\i<s.size:=oM;refine vR Γ20 gh ?_;cases h2:jv s i with
  |error j=>
   rw[he,h2];refine Wp.bn Γ20 aM (ev (aa gh h2)) ?_ ?_
   ·simp[hs,hg];omega
   refine qq ?_;refine wS gh ?_;refine⟨.iface 39 (pg 10 j ⟨#[]⟩),[[.int .u64 0,.int .u64 0,.int .u64 0,.int .u64 0],[.int .i64 0],[.int .i64 0,.int .i64 0,.string ⟨#[]⟩]],rfl,⟨?_,?_,?_,?_,?_,?_,trivial⟩,⟨⟨_,_,_,_,_,_,_,_,rfl⟩,10,j,⟨#[]⟩,rfl⟩,λE=>rfl⟩
   all_goals rfl
  |ok p=>
   obtain⟨a,j⟩:=p;rw[he,h2];refine wR Γ20 (aa gh h2) ?_ ?_
   ·simp[hs,hg];omega
   refine yY Γ20 gh ?_;refine wZ gh ?_;exact λE=>rfl
end
end Go.Proofs.YtnemkecffmdlnaaGreatDoor
