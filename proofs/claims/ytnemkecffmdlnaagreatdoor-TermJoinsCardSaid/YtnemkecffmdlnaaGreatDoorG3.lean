/-
 Part 3 of the proof (packed).
-/
import Derived.Test.YtnemkecffmdlnaaGreatDoorG2
import Derived.Shelf.LaysM
import Derived.Shelf.Strconv.Itoa3
import Derived.Test.YtnemkecffmdlnaaGreatDoorProg
import Derived.Lib.Bytealg
set_option linter.unusedSimpArgs false
set_option linter.unusedVariables false
set_option linter.defProp false
set_option maxHeartbeats 16000000
namespace Go.LE
section
open Go.RowKit
mutual
def tU(k:Nat)(u:Value):SV->SV
 |.v x=>.v x
 |.own j o=>bif j == k then .v (dt (base u) o) else .own j o
 |.hd j=>bif j == k then .v (hv u) else .hd j
 |.agg l=>.agg (xj k u l)
 |.tup l=>.tup (xj k u l)
 |.nO t x=>.nO t (tU k u x)
 |.part j i=>bif j == k then .v (hv (LV u i)) else .part j i
 |.fn f a c=>.fn f (xj k u a) (xj k u c)
def xj(k:Nat)(u:Value):List SV->List SV
 |[]=>[]
 |x::r=>tU k u x::xj k u r
end
mutual
theorem AU{E:Nat->Value}{k:Nat}:∀ x:SV,den E (tU k (E k) x)=den E x
 |.v x=>rfl
 | .own j o=>by
  simp only[tU];by_cases hj:j=k
  ·subst hj;simp[den]
  ·have:(j == k)=false:=by simp[hj]
   simp[this]
 | .hd j=>by
  simp only[tU];by_cases hj:j=k
  ·subst hj;simp[den]
  ·have:(j == k)=false:=by simp[hj]
   simp[this]
 |.agg l=>by simp only[tU,den];rw[la l]
 |.tup l=>by simp only[tU,den];rw[la l]
 |.nO t x=>by simp only[tU,den];rw[AU x]
 | .part j i=>by
  simp only[tU];by_cases hj:j=k
  ·subst hj;simp[den]
  ·have:(j == k)=false:=by simp[hj]
   simp[this]
 |.fn f a c=>by simp only[tU,den];rw[la a,la c]
theorem la{E:Nat->Value}{k:Nat}:∀ l:List SV,ai E (xj k (E k) l)=ai E l
 |[]=>rfl
 |x::r=>by simp only[xj,ai];rw[AU x,la r]
end
mutual
theorem sw{k:Nat}{u:Value}{j:Nat}:∀ x:SV,j∈(tU k u x).keys->j∈x.keys/\j≠k
 |.v x,h=>by simp[tU,SV.keys]at h
 | .own i o,h=>by
  simp only[tU]at h;by_cases hi:i=k
  ·subst hi;simp[SV.keys]at h
  ·have:(i == k)=false:=by simp[hi]
   simp only[this,cond_false,SV.keys,List.mem_singleton]at h ⊢;exact⟨h,h ▸ hi⟩
 | .hd i,h=>by
  simp only[tU]at h;by_cases hi:i=k
  ·subst hi;simp[SV.keys]at h
  ·have:(i == k)=false:=by simp[hi]
   simp only[this,cond_false,SV.keys,List.mem_singleton]at h ⊢;exact⟨h,h ▸ hi⟩
 |.agg l,h=>by simp only[tU,SV.keys]at h ⊢;exact gG l h
 |.tup l,h=>by simp only[tU,SV.keys]at h ⊢;exact gG l h
 |.nO t x,h=>by simp only[tU,SV.keys]at h ⊢;exact sw x h
 | .part i o,h=>by
  simp only[tU]at h;by_cases hi:i=k
  ·subst hi;simp[SV.keys]at h
  ·have:(i == k)=false:=by simp[hi]
   simp only[this,cond_false,SV.keys,List.mem_singleton]at h ⊢;exact⟨h,h ▸ hi⟩
 |.fn f a c,h=>by
  simp only[tU,SV.keys,List.mem_append]at h ⊢;rcases h with h|h
  ·exact⟨.inl (gG a h).1,(gG a h).2⟩
  ·exact⟨.inr (gG c h).1,(gG c h).2⟩
theorem gG{k:Nat}{u:Value}{j:Nat}:∀ l:List SV,j∈az (xj k u l)->j∈az l/\j≠k
 |[],h=>by simp[xj,az]at h
 |x::r,h=>by
  simp only[xj,az,List.mem_append]at h ⊢;rcases h with h|h
  ·exact⟨.inl (sw x h).1,(sw x h).2⟩
  ·exact⟨.inr (gG r h).1,(gG r h).2⟩
end
def sbV(k:Nat)(u:Value):FV->FV
 |.is x=>.is (tU k u x)
 |.cnd b x=>.cnd b (tU k u x)
 |.any=>.any
def Yj(k:Nat)(u:Value):aZ->aZ
 |.cells T vs=>.cells T (xj k u vs)
 |.row T s n vs=>.row T s n (xj k u vs)
 |.mp ks vs=>.mp ks (xj k u vs)
 |.obj d R=>.obj d R
def Yk(k:Nat)(u:Value)(φ:Fr):Fr:=λt=>sbV k u (φ t)
def Tg(k:Nat)(u:Value)(h:Hp):Hp:=λj=>bif j == k then none else (h j).map (Yj k u)
theorem abS{E:Nat->Value}{k:Nat}{f:FV}{u:Value}(h:fits E f u):fits E (sbV k (E k) f) u:=by
 cases f with
 |is x=>simpa [sbV,fits,AU] using h
 |cnd b x=>simpa [sbV,fits,AU] using h
 |any=>trivial
theorem abT{k:Nat}{u:Value}{f:FV}{j:Nat}(h:j∈(sbV k u f).keys):j∈f.keys/\j≠k:=by
 cases f with
 |is x=>exact sw x h
 |cnd b x=>
  cases b with
  |false=>cases h
  |true=>exact sw x h
 |any=>cases h
theorem agt{E:Nat->Value}{k:Nat}{e:aZ}{u:Value}{fp:List Nat}{w:World}(h:bA E u fp w e):bA E u fp w (Yj k (E k) e):=by
 cases e with
 |cells T vs=>simpa [Yj,bA,la] using h
 |row T s n vs=>simpa [Yj,bA,la] using h
 |mp ks vs=>simpa [Yj,bA,la] using h
 |obj d R=>exact h
theorem abP{k:Nat}{u:Value}{e:aZ}{j:Nat}(h:j∈(Yj k u e).keys):j∈e.keys/\j≠k:=by
 cases e with
 |cells T vs=>exact gG vs h
 |row T s n vs=>exact gG vs h
 |mp ks vs=>exact gG vs h
 |obj d R=>cases h
theorem pK{k:Nat}{u:Value}{h:Hp}{j:Nat}{e:aZ}(hh:Tg k u h j=some e):j≠k/\∃ e0,h j=some e0/\e=Yj k u e0:=by
 unfold Tg at hh;by_cases hj:j=k
 ·subst hj;simp at hh
 ·have:(j == k)=false:=by simp[hj]
  rw[this,cond_false,Option.map_eq_some_iff]at hh;obtain⟨e0,h1,h2⟩:=hh;exact⟨hj,e0,h1,h2.symm⟩
theorem Sat.MR{W:World}{bs:List Nat}{nt:Nat}{ds:Aux}{σ:St}{a:Act}{w:World}(k:Nat)(hsat:Sat W bs nt ds σ a w) :
  ∃ E F bs',Ext W bs w bs' /\ aj W bs E F σ.h w/\(∀ e,σ.h k=some e->∀ b∈F k,b∉bs')/\Sat w bs' nt ds ⟨σ.n,Yk k (E k) σ.φ,Tg k (E k) σ.h⟩ a w:=by
 classical
 obtain⟨⟨E,F,hφ,hs,hp⟩,hsz,hdf,hpk,hfk,hhk⟩:=hsat;have hmem:∃ bs' : List Nat,∀ b,b∈bs' ↔ ∃ j e,j≠k/\σ.h j=some e/\b∈F j:=by
  refine⟨(List.range (8*σ.n)).flatMap λj=>if j=k\/σ.h j=none then [] else F j,λb=>?_⟩;rw[List.mem_flatMap];constructor
  ·rintro⟨j,_,hb⟩;split at hb
   ·cases hb
   ·rename_i hn;have h1:j≠k:=λe=>hn (.inl e)
    have h2:σ.h j≠none:=λe=>hn (.inr e)
    obtain⟨e,he⟩:=Option.ne_none_iff_exists'.1 h2;exact⟨j,e,h1,he,hb⟩
  ·rintro⟨j,e,hj,he,hb⟩;have:=(hhk j e he).1;refine⟨j,List.mem_range.2 oM,?_⟩;rw[if_neg (by rw[he];simp[hj])];exact hb
 obtain⟨bs',hmem⟩:=hmem;have hx:Ext W bs w bs' := ⟨hs.keeps,λb hb=>by
  obtain⟨j,e,_,he,hbj⟩:=(hmem b).1 hb
  exact hs.mine j e he b hbj⟩
 refine⟨E,F,bs',hx,hs,λe he b hb hb' => ?_,?_⟩
 ·obtain⟨j,e2,hj,he2,hbj⟩:=(hmem b).1 hb';exact hs.apart k j e e2 (Ne.symm hj) he he2 b hb hbj
 ·refine⟨⟨E,F,λt=>abS (hφ t),⟨λj e he=>?_,λj e he b hb=>?_,λj e he b hb=>?_,λi j e e' hij hi hj b hb=>?_,an.refl w _⟩,hp⟩,hsz,hdf,hpk,λt j hj=>hfk t j (abT hj).1,λj e he=>?_⟩
  ·obtain⟨hj,e0,h1,rfl⟩:=pK he;exact agt (hs.ent j e0 h1)
  ·obtain⟨hj,e0,h1,rfl⟩:=pK he;exact hs.lt j e0 h1 b hb
  ·obtain⟨hj,e0,h1,rfl⟩:=pK he;exact .inr ((hmem b).2 ⟨j,e0,hj,h1,hb⟩)
  ·obtain⟨_,e0,h1,rfl⟩:=pK hi;obtain⟨_,e1,h2,rfl⟩:=pK hj;exact hs.apart i j e0 e1 hij h1 h2 b hb
  ·obtain⟨hj,e0,h1,rfl⟩:=pK he;exact⟨(hhk j e0 h1).1,λi hi=>(hhk j e0 h1).2 i (abP hi).1⟩
def NY(nt:Nat)(ds:Aux)(X:World->List Nat->St->Prop):Prop:=∀ W bs σ,(∀ a w,Sat W bs nt ds σ a w->∃ W' bs' σ',Ext W bs W' bs' /\ X W' bs' σ' /\ Sat W' bs' nt ds σ' a w)->X W bs σ
theorem Wp.clo{P:Program}{nt:Nat}{ds:Aux}{c:Code}{Q:mf}:NY nt ds (λW bs σ=>Wp P W bs nt ds c Q σ):=λW bs σ h a w hs=>by
 obtain⟨W',bs',σ',hx,hX,hs'⟩:=h a w hs;exact wp_mono (hX a w hs') λe' a' w' hh' => yQ hx hh'
def Pw(nt:Nat)(ds:Aux)(W:World)(bs:List Nat)(σ:St)(Q:World->List Nat->St->Prop):Prop:=
 ∀ a w,Sat W bs nt ds σ a w->∃ W' bs' σ',Ext W bs W' bs' /\ Q W' bs' σ' /\ Sat W' bs' nt ds σ' a w
theorem Pw.clo{nt:Nat}{ds:Aux}{Q:World->List Nat->St->Prop}:NY nt ds (λW bs σ=>Pw nt ds W bs σ Q):=λW bs σ h a w hs=>by
 obtain⟨W',bs',σ',hx,hX,hs'⟩:=h a w hs;obtain⟨W2,bs2,σ2,hx2,hq,hs2⟩:=hX a w hs';exact⟨W2,bs2,σ2,hx.trans hx2,hq,hs2⟩
theorem Pw.here{nt:Nat}{ds:Aux}{Q:World->List Nat->St->Prop}{W:World}{bs:List Nat}{σ:St}(h:Q W bs σ):Pw nt ds W bs σ Q:=λa w hs=>⟨W,bs,σ,Ext.refl W bs,h,hs⟩
def Mo(nt:Nat)(ds:Aux)(Q:mf):mf
 |.normal,W,bs,σ=>Pw nt ds W bs σ (Q .normal)
 |e,W,bs,σ=>Q e W bs σ
theorem dn{nt:Nat}{ds:Aux}{Q:mf}{W:World}{bs:List Nat}{σ:St}(h:Pw nt ds W bs σ (Q .normal)):Mo nt ds Q .normal W bs σ:=h
theorem Wp.more{P:Program}{W:World}{bs:List Nat}{nt:Nat}{ds:Aux}{c:Code}{Q:mf}{σ:St}(h:Wp P W bs nt ds c (Mo nt ds Q) σ):Wp P W bs nt ds c Q σ:=λa w hs=>
 wp_mono (h a w hs) λe a' w' ⟨W',bs',σ',he,hq,hs'⟩=>by
  cases e with
  |normal=>
   obtain⟨W2,bs2,σ2,hx2,hq2,hs2⟩:=hq a' w' hs';exact⟨W2,bs2,σ2,he.trans hx2,hq2,hs2⟩
  |_=>exact⟨W',bs',σ',he,hq,hs'⟩
section
variable {nt:Nat}{ds:Aux}{X:World->List Nat->St->Prop}{W:World}{bs:List Nat}{σ:St}
theorem NY.MR(hX:NY nt ds X)(k:Nat)
  (h:∀ W' bs' E F,Ext W bs W' bs' -> aj W bs E F σ.h W' -> (∀ e,σ.h k=some e->∀ b∈F k,b∉bs')->X W' bs' ⟨σ.n,Yk k (E k) σ.φ,Tg k (E k) σ.h⟩):X W bs σ:=
 hX W bs σ λa w hs=>by
  obtain⟨E,F,bs',hx,hh,hb,hs'⟩:=hs.MR k;exact⟨w,bs',_,hx,h w bs' E F hx hh hb,hs'⟩
end
structure FK where
 Φ:List Value->World->(Nat->Prop)->Prop
 mono:∀ {cs:List Value} {W:World} {S:Nat->Prop} {W' : World} {S' : Nat->Prop},aX W S W' S' -> Φ cs W S->Φ cs W' S'
def bJ(G:Nat->Prop)(bs:List Nat):Nat->Prop:=λb=>G b/\b∉bs
theorem bJ.out{G:Nat->Prop}{bs:List Nat}{b:Nat}(h:bJ G bs b):Out bs b:=h.2
def Up(G:Nat->Prop)(W:World)(bs:List Nat):Prop:=∀ b,W.heap.size<=b\/b∈bs->G b
theorem Up.ext{G:Nat->Prop}{W W' : World}{bs bs' : List Nat}(h:Up G W bs)(hx:Ext W bs W' bs'):Up G W' bs' := λb hb=>
 hb.elim (λh1=>h b (.inl (Nat.le_trans hx.keeps.size h1))) λh1=>h b (hx.sub b h1)
theorem Up.true(W:World)(bs:List Nat):Up (λ_=>True) W bs:=λ_ _=>trivial
theorem Ext.dY{G:Nat->Prop}{W W' : World}{bs bs' : List Nat}(h:Ext W bs W' bs'):aX W (bJ G bs) W' (bJ G bs'):=λb hb hs=>
 ⟨h.keeps.block b hb hs.2,hs.1,λhb' => (h.sub b hb').elim (λh1=>absurd h1 (Nat.not_le.2 hb)) hs.2⟩
def gz(G:Nat->Prop)(W:World)(bs:List Nat)(Φ:FK):List Value->Value->List Nat->World->Prop:=λ_ u fp w=>
 (∀ b∈fp,G b)/\∃ cs,u=dI cs/\∀ W₂ S₂,(∀ b,b<W.heap.size->bJ G bs b->W₂.heap[b]?=W.heap[b]?/\S₂ b)->(∀ b∈fp,W₂.heap[b]?=w.heap[b]?/\S₂ b)->Φ.Φ cs W₂ S₂
section
variable {nt:Nat}{ds:Aux}{X:World->List Nat->St->Prop}{W:World}{bs:List Nat}{σ:St}
theorem NY.cO(hX:NY nt ds X)(k:Nat){G:Nat->Prop}{W0:World}{bs0:List Nat}{Φ:FK}(hk:σ.h k=some (.obj [] (gz G W0 bs0 Φ)))(h0:aX W0 (bJ G bs0) W (bJ G bs))
  (h:∀ W' bs' cs,Ext W bs W' bs' -> Φ.Φ cs W' (bJ G bs')->X W' bs' ⟨σ.n,Yk k (dI cs) σ.φ,Tg k (dI cs) σ.h⟩):X W bs σ:=by
 refine hX.MR k λW' bs' E F hx hs hb=>?_
 obtain⟨⟨⟨hG,cs,h1,h2⟩,_⟩,_⟩:=hs.ent k _ hk;rw[h1];refine h W' bs' cs hx (h2 W' (bJ G bs') (λb hlt hr=>?_) λb hbk=>⟨rfl,hG b hbk,hb _ hk b hbk⟩);obtain⟨g1,g2⟩:=h0 b hlt hr;have hlt' : b<W.heap.size:=by
  by_cases hW:b<W.heap.size
  ·exact hW
  ·have:W.heap[b]?=none:=by simp;omega
   rw[this]at g1;have h3:W0.heap[b]?=some W0.heap[b]:=Array.getElem?_eq_getElem hlt;rw[h3]at g1;cases g1
 obtain⟨g3,g4⟩:=hx.dY b hlt' g2;exact⟨g3.trans g1,g4⟩
theorem NY.cX(hX:NY nt ds X)(k:Nat){T:TypeId}{vs:List SV}{us:List Value}(hk:σ.h k=some (.cells T vs))(hv:∀ E,ai E vs=us)
  (h:∀ W' bs' b,Ext W bs W' bs' -> b∉bs' -> (W.heap.size<=b\/b∈bs)->W'.heap[b]?=some (.cells us.toArray T (0,0))->X W' bs' ⟨σ.n,Yk k (.pointer (some ⟨b,0,none⟩)) σ.φ,Tg k (.pointer (some ⟨b,0,none⟩)) σ.h⟩):X W bs σ:=by
 refine hX.MR k λW' bs' E F hx hs hb=>?_
 obtain⟨b,h1,h2,h3⟩:=hs.ent k _ hk;rw[h1];have hbF:b∈F k:=by rw[h2];simp
 exact h W' bs' b hx (hb _ hk b hbF) (hs.mine k _ hk b hbF) (by rw[h3,hv E])
theorem NY.Aq(hX:NY nt ds X)(k:Nat){T:TypeId}{s n:Nat}{vs:List SV}{us:List Value}(hk:σ.h k=some (.row T s n vs))(hv:∀ E,ai E vs=us)
  (h:∀ W' bs' ao c',Ext W bs W' bs' -> jY W' (New W bs bs') ao us->n<=c' -> X W' bs' ⟨σ.n,Yk k (.slice ao n c') σ.φ,Tg k (.slice ao n c') σ.h⟩):X W bs σ:=by
 refine hX.MR k λW' bs' E F hx hs hb=>?_
 obtain⟨ao,c',h1,h2,h3⟩:=ago hs hk λb hbk=>hb _ hk b hbk
 rw[h1];rw[hv E]at h2;exact h W' bs' ao c' hx h2 h3
end
section
variable {P:Program}{W:World}{bs:List Nat}{nt:Nat}{ds:Aux}{c:Code}{Q:mf}{σ:St}
theorem Wp.cO(k:Nat){G:Nat->Prop}{W0:World}{bs0:List Nat}{Φ:FK}(hk:σ.h k=some (.obj [] (gz G W0 bs0 Φ)))(h0:aX W0 (bJ G bs0) W (bJ G bs))
  (h:∀ W' bs' cs,Ext W bs W' bs' -> Φ.Φ cs W' (bJ G bs')->Wp P W' bs' nt ds c Q ⟨σ.n,Yk k (dI cs) σ.φ,Tg k (dI cs) σ.h⟩):Wp P W bs nt ds c Q σ:=
 NY.cO Wp.clo k hk h0 h
theorem Wp.cX(k:Nat){T:TypeId}{vs:List SV}{us:List Value}(hk:σ.h k=some (.cells T vs))(hv:∀ E,ai E vs=us)
  (h:∀ W' bs' b,Ext W bs W' bs' -> b∉bs' -> (W.heap.size<=b\/b∈bs)->W'.heap[b]?=some (.cells us.toArray T (0,0))->Wp P W' bs' nt ds c Q ⟨σ.n,Yk k (.pointer (some ⟨b,0,none⟩)) σ.φ,Tg k (.pointer (some ⟨b,0,none⟩)) σ.h⟩):Wp P W bs nt ds c Q σ:=
 NY.cX Wp.clo k hk hv h
theorem Wp.Aq(k:Nat){T:TypeId}{s n:Nat}{vs:List SV}{us:List Value}(hk:σ.h k=some (.row T s n vs))(hv:∀ E,ai E vs=us)
  (h:∀ W' bs' ao c',Ext W bs W' bs' -> jY W' (New W bs bs') ao us->n<=c' -> Wp P W' bs' nt ds c Q ⟨σ.n,Yk k (.slice ao n c') σ.φ,Tg k (.slice ao n c') σ.h⟩):Wp P W bs nt ds c Q σ:=
 NY.Aq Wp.clo k hk hv h
variable {R:World->List Nat->St->Prop}
theorem Pw.cO(k:Nat){G:Nat->Prop}{W0:World}{bs0:List Nat}{Φ:FK}(hk:σ.h k=some (.obj [] (gz G W0 bs0 Φ)))(h0:aX W0 (bJ G bs0) W (bJ G bs))
  (h:∀ W' bs' cs,Ext W bs W' bs' -> Φ.Φ cs W' (bJ G bs')->Pw nt ds W' bs' ⟨σ.n,Yk k (dI cs) σ.φ,Tg k (dI cs) σ.h⟩ R):Pw nt ds W bs σ R:=
 NY.cO Pw.clo k hk h0 h
theorem Pw.cX(k:Nat){T:TypeId}{vs:List SV}{us:List Value}(hk:σ.h k=some (.cells T vs))(hv:∀ E,ai E vs=us)
  (h:∀ W' bs' b,Ext W bs W' bs' -> b∉bs' -> (W.heap.size<=b\/b∈bs)->W'.heap[b]?=some (.cells us.toArray T (0,0))->Pw nt ds W' bs' ⟨σ.n,Yk k (.pointer (some ⟨b,0,none⟩)) σ.φ,Tg k (.pointer (some ⟨b,0,none⟩)) σ.h⟩ R):Pw nt ds W bs σ R:=
 NY.cX Pw.clo k hk hv h
theorem Pw.Aq(k:Nat){T:TypeId}{s n:Nat}{vs:List SV}{us:List Value}(hk:σ.h k=some (.row T s n vs))(hv:∀ E,ai E vs=us)
  (h:∀ W' bs' ao c',Ext W bs W' bs' -> jY W' (New W bs bs') ao us->n<=c' -> Pw nt ds W' bs' ⟨σ.n,Yk k (.slice ao n c') σ.φ,Tg k (.slice ao n c') σ.h⟩ R):Pw nt ds W bs σ R:=
 NY.Aq Pw.clo k hk hv h
end
theorem cell_of{W:World}{b:Nat}{us:List Value}{T:TypeId}(h:W.heap[b]?=some (.cells us.toArray T (0,0)))(j:Nat)(hj:j<us.length):W.cell? ⟨b,j,none⟩=some us[j]:=by
 simp only[World.cell?,h];simp[List.getElem?_eq_getElem hj]
theorem agu(k:Nat)(u:Value)(φ:Fr)(t:Nat):Yk k u φ t=sbV k u (φ t):=rfl
theorem agv(k:Nat)(u:Value)(h:Hp)(j:Nat):Tg k u h j=bif j == k then none else (h j).map (Yj k u):=rfl
theorem alu(k:Nat)(u:Value)(x:SV):sbV k u (.is x)=.is (tU k u x):=rfl
theorem agD(k:Nat)(u:Value)(b:Bool)(x:SV):sbV k u (.cnd b x)=.cnd b (tU k u x):=rfl
theorem agC(k:Nat)(u:Value):sbV k u .any=.any:=rfl
theorem WV(k:Nat)(u:Value)(T:TypeId)(vs:List SV):Yj k u (.cells T vs)=.cells T (xj k u vs):=rfl
theorem ags(k:Nat)(u:Value)(T:TypeId)(s n:Nat)(vs:List SV):Yj k u (.row T s n vs)=.row T s n (xj k u vs):=rfl
theorem agq(k:Nat)(u:Value)(d:List Value)(R:List Value->Value->List Nat->World->Prop):Yj k u (.obj d R)=.obj d R:=rfl
theorem am7(k:Nat)(u x:Value):tU k u (.v x)=.v x:=rfl
theorem agz(k:Nat)(u:Value)(j o:Nat):tU k u (.own j o)=bif j == k then .v (dt (base u) o) else .own j o:=rfl
theorem als(k:Nat)(u:Value)(j:Nat):tU k u (.hd j)=bif j == k then .v (hv u) else .hd j:=rfl
theorem abR(k:Nat)(u:Value)(j i:Nat):tU k u (.part j i)=bif j == k then .v (hv (LV u i)) else .part j i:=rfl
theorem agx(k:Nat)(u:Value)(l:List SV):tU k u (.agg l)=.agg (xj k u l):=rfl
theorem agA(k:Nat)(u:Value)(l:List SV):tU k u (.tup l)=.tup (xj k u l):=rfl
theorem agy(k:Nat)(u:Value)(t:TypeId)(x:SV):tU k u (.nO t x)=.nO t (tU k u x):=rfl
theorem alr(k:Nat)(u:Value)(f:Fn)(a c:List SV):tU k u (.fn f a c)=.fn f (xj k u a) (xj k u c):=rfl
theorem agw(k:Nat)(u:Value):xj k u []=[]:=rfl
theorem abQ(k:Nat)(u:Value)(x:SV)(r:List SV):xj k u (x::r)=tU k u x::xj k u r:=rfl
theorem cQ(k:Nat)(u:Value)(l:List Value):xj k u (l.map .v)=l.map .v:=by
 induction l with
 |nil=>rfl
 |cons x r ih=>simp[xj,tU,ih]
theorem Qk(k:Nat)(u:Value)(a b:List SV):xj k u (a++b)=xj k u a++xj k u b:=by
 induction a with
 |nil=>rfl
 |cons x r ih=>simp[xj,ih]
theorem akQ(k:IntKind)(n:Int):hv (.int k n)=.int k n:=rfl
theorem afu(b:Bool):hv (.bool b)=.bool b:=rfl
theorem akS(s:ByteArray):hv (.string s)=.string s:=rfl
theorem afv(f:Fn)(a c:Array Value):hv (.func f a c)=.func f a c:=rfl
theorem ZU(ao:Option Addr)(n c:Nat):hv (.slice ao n c)=.slice ao n c:=rfl
theorem akR(a:Option Addr):hv (.pointer a)=.pointer a:=rfl
theorem ZT(t:TypeId)(x:Value):hv (.iface t x)=.iface t x:=rfl
theorem YN(a:Addr):base (.pointer (some a))=some a:=rfl
theorem Og(a:Addr)(n c:Nat):base (.slice (some a) n c)=some a:=rfl
theorem P4(a:Addr)(o:Nat):dt (some a) o=.pointer (some ⟨a.block,a.off+o,none⟩):=rfl
def anZ:=aa @agu <| aa @agv <| aa @alu <| aa @agD <| aa @agC <| aa @WV <| aa @ags <| aa @agq <| aa @am7 <| aa @agz <| aa @als <| aa @abR <| aa @agx <| aa @agA <| aa @agy <| aa @alr <| aa @agw <| aa @abQ <| aa @cQ <| aa @Qk <| aa @akQ <| aa @afu <| aa @akS <| aa @afv <| aa @ZU <| aa @akR <| aa @ZT <| aa @YN <| aa @Og <| aa @P4 @H7
end
section
open Go.RowKit
structure Sh where
 tm:Nat->SV
 g:∀ E k,den E (tm k)=den (λ_=>E k) (tm 0)
 k:∀ k,∀ j∈(tm k).keys,j=k
def Sh.val(s:Sh)(cs:List Value):Value:=den (λ_=>dI cs) (s.tm 0)
def Sh.one:Sh:=⟨λk=>.part k 0,λ_ _=>rfl,λk j hj=>by simpa [SV.keys] using hj⟩
def Sh.two:Sh:=⟨λk=>.agg [.part k 0,.part k 1],λ_ _=>rfl,λk j hj=>by simpa [SV.keys,az] using hj⟩
abbrev Kd:=Option (Sh×FK)
def zV:Option Value->Option (List Value)->Option (List Value)
 |some v,some vs=>some (v::vs)
 |_,_=>none
def func2(f:Fn):Option (List Value)->Option (List Value)->Option Value
 |some a,some c=>some (.func f a.toArray c.toArray)
 |_,_=>none
mutual
def cN:SV->Option Value
 |.v x=>some x
 |.agg l=>(ib l).map λvs=>.agg vs.toArray
 |.nO t x=>(cN x).map (.iface t)
 |.fn f a c=>func2 f (ib a) (ib c)
 |_=>none
def ib:List SV->Option (List Value)
 |[]=>some []
 |x::r=>zV (cN x) (ib r)
end
mutual
theorem pX{E:Nat->Value}:∀ {x:SV} {v:Value},cN x=some v->den E x=v
 |.v x,v,h=>by simp only[cN,Option.some.injEq]at h;exact h
 |.own _ _,v,h=>by simp[cN]at h
 |.hd _,v,h=>by simp[cN]at h
 |.part _ _,v,h=>by simp[cN]at h
 |.tup _,v,h=>by simp[cN]at h
 |.agg l,v,h=>by
  simp only[cN,Option.map_eq_some_iff]at h;obtain⟨vs,h1,rfl⟩:=h;simp only[den,pW h1]
 |.nO t x,v,h=>by
  simp only[cN,Option.map_eq_some_iff]at h;obtain⟨y,h1,rfl⟩:=h;simp only[den,pX h1]
 | .fn f a c,v,h=>by
  simp only[cN]at h;cases h1:ib a with
  |none=>rw[h1]at h;simp[func2]at h
  | some a' =>
   cases h2:ib c with
   |none=>rw[h1,h2]at h;simp[func2]at h
   |some c' =>
    rw[h1,h2]at h;simp only[func2,Option.some.injEq]at h;subst h;simp only[den,pW h1,pW h2]
theorem pW{E:Nat->Value}:∀ {l:List SV} {vs:List Value},ib l=some vs->ai E l=vs
 |[],vs,h=>by simp only[ib,Option.some.injEq]at h;subst h;rfl
 | x::r,vs,h=>by
  simp only[ib]at h;cases h1:cN x with
  |none=>rw[h1]at h;simp[zV]at h
  | some v' =>
   cases h2:ib r with
   |none=>rw[h1,h2]at h;simp[zV]at h
   |some vs' =>
    rw[h1,h2]at h;simp only[zV,Option.some.injEq]at h;subst h;simp only[ai,pX h1,pW h2]
end
def mj:SV->Option Nat
 |.part k _=>some k
 |.agg (.part k _::_)=>some k
 |_=>none
structure GV1 where
 p:Prop
 a:AV
 rs:List Nat
 cs:List Nat
structure GVL where
 p:Prop
 as_:List AV
 rs:List Nat
 cs:List Nat
def akK:Option (AV×List Nat)->GV1
 |some (a,r)=>⟨True,a,r,[]⟩
 |none=>⟨False,.val undef,[],[]⟩
def gvO(G:Nat->Prop)(W:World)(bs:List Nat)(sh:Sh)(Φ:FK)(x:SV)(k:Nat):Option aZ->GV1
 |some (.obj d R)=>⟨x=sh.tm k/\d=[]/\R=gz G W bs Φ,.val undef,[k],[k]⟩
 |_=>⟨False,.val undef,[],[]⟩
def gvF(G:Nat->Prop)(W:World)(bs:List Nat)(h:Hp)(sh:Sh)(Φ:FK)(x:SV):Option Value->Option Nat->GV1
 |some v,_=>⟨∃ cs,v=sh.val cs/\Φ.Φ cs W (bJ G bs),.val undef,[],[]⟩
 |none,some k=>gvO G W bs sh Φ x k (h k)
 |none,none=>⟨False,.val undef,[],[]⟩
def EM(G:Nat->Prop)(W:World)(bs:List Nat)(h:Hp):Kd->SV->GV1
 |none,x=>akK (bT h x)
 |some (sh,Φ),x=>gvF G W bs h sh Φ x (cN x) (mj x)
def gvC(a:GV1)(l:GVL):GVL:=⟨a.p/\l.p,a.a::l.as_,a.rs++l.rs,a.cs++l.cs⟩
def nz(G:Nat->Prop)(W:World)(bs:List Nat)(h:Hp):List Kd->List SV->GVL
 |[],[]=>⟨True,[],[],[]⟩
 |kd::ks,x::r=>gvC (EM G W bs h kd x) (nz G W bs h ks r)
 |_,_=>⟨False,[],[],[]⟩
def BR(w:World)(S:Nat->Prop):List Kd->List Value->List AV->Prop
 |[],[],[]=>True
 |none::ks,u::us,a::as_=>ur w u a/\BR w S ks us as_
 |some (sh,Φ)::ks,u::us,_::as_=>(∃ cs,u=sh.val cs/\Φ.Φ cs w S)/\BR w S ks us as_
 |_,_,_=>False
section
variable {P:Program}{W:World}{bs:List Nat}{κ:Nat}{E:Nat->Value}{F:Nat->List Nat}{h:Nat->Option aZ}{w:World}{K:Nat->Prop}{G:Nat->Prop}
def O8(w:World)(S:Nat->Prop)(u:Value)(a:AV):Kd->Prop
 |none=>ur w u a
 |some (sh,Φ)=>∃ cs,u=sh.val cs/\Φ.Φ cs w S
theorem afo(hs:aj W bs E F h w){S:Nat->Prop}(hS:∀ b,b<W.heap.size->bJ G bs b->S b){kd:Kd}{x:SV}(hp:(EM G W bs h kd x).p)(hc:∀ k∈(EM G W bs h kd x).cs,∀ b∈F k,S b) :
  O8 w S (den E x) (EM G W bs h kd x).a kd:=by
 match kd with
 |none=>
  simp only[EM,O8]at hp ⊢;cases hv:bT h x with
  |none=>rw[hv]at hp;exact hp.elim
  |some q=>obtain⟨a,r⟩:=q;exact G0 hs hv
 | some (sh,Φ)=>
  simp only[EM,O8]at hp hc ⊢;cases hv:cN x with
  |some v=>
   rw[hv]at hp;obtain⟨cs,h1,h2⟩:=hp;exact⟨cs,by rw[pX hv,h1],Φ.mono (λb hb hr=>⟨hs.keeps.block b hb hr.2,hS b hb hr⟩) h2⟩
  | none=>
   rw[hv]at hp hc;cases hk:mj x with
   |none=>rw[hk]at hp;exact hp.elim
   | some k=>
    rw[hk]at hp hc;simp only[gvF]at hp hc;cases hkk:h k with
    |none=>rw[hkk]at hp;exact hp.elim
    | some e=>
     rw[hkk]at hp hc;cases e with
     |cells T vs=>exact hp.elim
     |row T s n vs=>exact hp.elim
     |mp ks vs=>exact hp.elim
     |obj d R=>
      obtain⟨hx,rfl,rfl⟩:=hp;obtain⟨⟨⟨hG,cs,h1,h2⟩,_⟩,_⟩:=hs.ent k _ hkk;refine⟨cs,?_,h2 w S (λb hb hr=>⟨hs.keeps.block b hb hr.2,hS b hb hr⟩) λb hb=>⟨rfl,hc k (by simp[gvO]) b hb⟩⟩;rw[hx,sh.g E k,h1];rfl
theorem A0(hs:aj W bs E F h w){S:Nat->Prop}(hS:∀ b,b<W.heap.size->bJ G bs b->S b):∀ {kds:List Kd} {l:List SV},(nz G W bs h kds l).p->(∀ k∈(nz G W bs h kds l).cs,∀ b∈F k,S b) ->
  BR w S kds (ai E l) (nz G W bs h kds l).as_
 |[],[],_,_=>trivial
 |[],_::_,hp,_=>hp.elim
 |_::_,[],hp,_=>hp.elim
 |kd::ks,x::r,hp,hc=>by
  have h1:=afo hs hS (kd:=kd) (x:=x) hp.1 (λk hk=>hc k (List.mem_append_left _ hk));have h2:=A0 hs hS (kds:=ks) (l:=r) hp.2 (λk hk=>hc k (List.mem_append_right _ hk));revert h1;cases kd with
  |none=>exact λh1=>⟨h1,h2⟩
  |some q=>exact λh1=>⟨h1,h2⟩
theorem afm{h' : Hp}{kd:Kd}{x:SV}(hp:(EM G W bs h kd x).p)(hr:∀ k∈(EM G W bs h kd x).rs,h' k=h k):EM G W bs h' kd x=EM G W bs h kd x:=by
 match kd with
 | none=>
  simp only[EM]at hp hr ⊢;cases hv:bT h x with
  |none=>rw[hv]at hp;exact hp.elim
  |some q=>
   obtain⟨a,r⟩:=q;rw[hv]at hr;rw[GZ hv hr]
 | some (sh,Φ)=>
  simp only[EM]at hp hr ⊢;cases hv:cN x with
  |some v=>rfl
  | none=>
   rw[hv]at hp hr;cases hk:mj x with
   |none=>rfl
   | some k=>
    rw[hk]at hp hr;simp only[gvF]at hp hr ⊢;cases hkk:h k with
    |none=>rw[hkk]at hp;exact hp.elim
    |some e=>
     rw[hkk]at hp hr;cases e with
     |cells T vs=>exact hp.elim
     |row T s n vs=>exact hp.elim
     |mp ks vs=>exact hp.elim
     |obj d R=>rw[hr k (by simp[gvO]),hkk]
theorem AZ{h' : Hp}:∀ {kds:List Kd} {l:List SV},(nz G W bs h kds l).p->(∀ k∈(nz G W bs h kds l).rs,h' k=h k)->nz G W bs h' kds l=nz G W bs h kds l
 |[],[],_,_=>rfl
 |[],_::_,hp,_=>hp.elim
 |_::_,[],hp,_=>hp.elim
 |kd::ks,x::r,hp,hr=>by
  have hp' : (EM G W bs h kd x).p/\(nz G W bs h ks r).p:=hp;show gvC (EM G W bs h' kd x) (nz G W bs h' ks r)=gvC (EM G W bs h kd x) (nz G W bs h ks r);rw[afm hp'.1 λk hk=>hr k (List.mem_append_left _ hk),AZ hp'.2 λk hk=>hr k (List.mem_append_right _ hk)]
theorem afn{kd:Kd}{x:SV}(hp:(EM G W bs h kd x).p):∀ k∈(EM G W bs h kd x).cs,∃ Φ,h k=some (.obj [] (gz G W bs Φ)):=by
 match kd with
 |none=>
  simp only[EM]at hp ⊢;cases hv:bT h x with
  |none=>rw[hv]at hp;exact hp.elim
  |some q=>intro k hk;cases hk
 | some (sh,Φ)=>
  simp only[EM]at hp ⊢;cases hv:cN x with
  |some v=>intro k hk;cases hk
  | none=>
   rw[hv]at hp;cases hk:mj x with
   |none=>rw[hk]at hp;exact hp.elim
   | some k=>
    rw[hk]at hp;simp only[gvF]at hp ⊢;cases hkk:h k with
    |none=>rw[hkk]at hp;exact hp.elim
    | some e=>
     rw[hkk]at hp;cases e with
     |cells T vs=>exact hp.elim
     |row T s n vs=>exact hp.elim
     |mp ks vs=>exact hp.elim
     |obj d R=>
      obtain⟨hx,rfl,rfl⟩:=hp;intro j hj;simp only[gvO,List.mem_singleton]at hj;subst hj;exact⟨Φ,hkk⟩
theorem p4:∀ {kds:List Kd} {l:List SV},(nz G W bs h kds l).p->∀ k∈(nz G W bs h kds l).cs,∃ Φ,h k=some (.obj [] (gz G W bs Φ))
 |[],[],_,k,hk=>by cases hk
 |[],_::_,hp,_,_=>hp.elim
 |_::_,[],hp,_,_=>hp.elim
 |kd::ks,x::r,hp,k,hk=>by
  rcases List.mem_append.1 hk with hk|hk
  ·exact afn hp.1 k hk
  ·exact p4 hp.2 k hk
end
inductive FOut where
 |val (v:Value)
 |fact (sh:Sh) (Φ:FK)
 |pan (c:List PanicEntry) (v:Value)
def lI(w:World)(S:Nat->Prop)(e:Ending)(w' : World):FOut->Prop
 |.val v=>e=.returned v/\an w [] w'
 |.fact sh Φ=>∃ cs,e=.returned (sh.val cs)/\Φ.Φ cs w' (λb=>b<w.heap.size->S b)/\an w [] w'
 |.pan c _=>e=.panicked c/\an w [] w'
structure me (P:Program)(f:FuncId) where
 kinds:List Kd
 pre:List AV->World->(Nat->Prop)->Prop
 premono:∀ as_ W S W' S',aX W S W' S' -> pre as_ W S->pre as_ W' S'
 out:List AV->FOut
 enters:∀ args w,(callFunc f args).run P w=.ok (.enter f args) w
 ok:∀ (w:World) (S:Nat->Prop) (us:List Value) (as_:List AV),BR w S kinds us as_->pre as_ w S->Calls P f us.toArray w λe w' => lI w S e w' (out as_)
def wy(G:Nat->Prop)(κ:Nat)(W:World)(bs:List Nat)(q:Prop)(rs cs:List Nat):FOut->R
 |.val v=>⟨q,.v v,[],none,[],rs⟩
 |.fact sh Φ=>⟨q/\Up G W bs,sh.tm (8*κ),dX cs++[(8*κ,some (.obj [] (gz G W bs Φ)))],none,[],rs⟩
 |.pan c v=>⟨q,.v v,[],some c,[],rs⟩
def BP(G:Nat->Prop)(κ:Nat)(W:World)(bs:List Nat)(pre:List AV->World->(Nat->Prop)->Prop)(out:List AV->FOut)(g:GVL):R:=
 wy G κ W bs (g.p/\pre g.as_ W (bJ G bs)) g.rs g.cs (out g.as_)
theorem O9{W w:World}{bs:List Nat}{G:Nat->Prop}{S:Nat->Prop}(hk:an W bs w)(hS:∀ b,b<W.heap.size->bJ G bs b->S b):aX W (bJ G bs) w S:=λb hb hr=>⟨hk.block b hb hr.2,hS b hb hr⟩
theorem yp{W w w' : World}{bs fp0 fp:List Nat}{G S Sn:Nat->Prop}{Φ:FK}{cs:List Value}(hk:an W bs w)(hkeep:an w fp0 w')
  (hΦ:Φ.Φ cs w' Sn) (hS:∀ b,S b->(b<W.heap.size/\bJ G bs b)\/b∈fp) (hS0:∀ b,b<W.heap.size->bJ G bs b->b∉fp0)
  (hn:∀ b,b<w'.heap.size->Sn b->(b<w.heap.size/\S b)\/b∈fp) (hG:∀ b∈fp,G b) :
  ∀ w3:World,(∀ b∈fp,w3.heap[b]?=w'.heap[b]?)->gz G W bs Φ [] (dI cs) fp w3:=by
 intro w3 h3;refine⟨hG,cs,rfl,λW₂ S₂ hold hnew=>Φ.mono (λb hb hg=>?_) hΦ⟩;have inFp:b∈fp->W₂.heap[b]?=w'.heap[b]?/\S₂ b:=λhb' => by
  obtain⟨g3,g4⟩:=hnew b hb';exact⟨by rw[g3,h3 b hb'],g4⟩
 rcases hn b hb hg with ⟨hb1,hb2⟩|hb'
 ·rcases hS b hb2 with ⟨g1,g2⟩|hb'
  ·obtain⟨g3,g4⟩:=hold b g1 g2;exact⟨by rw[g3,hkeep.block b hb1 (hS0 b g1 g2),hk.block b g1 g2.2],g4⟩
  ·exact inFp hb'
 ·exact inFp hb'
theorem po{w w' : World}(hs:w.heap.size<=w'.heap.size)(b:Nat):b∈List.range' w.heap.size (w'.heap.size-w.heap.size) ↔ w.heap.size<=b/\b<w'.heap.size:=by
 rw[List.mem_range'_1];omega
def me.spec{P:Program}{f:FuncId}(p:me P f)(G:Nat->Prop):Spec P f where
 ev:=λW bs κ h args=>BP G κ W bs p.pre p.out (nz G W bs h p.kinds args)
 good:=λW bs κ E F h w K args hs hK hk hx hside=>by
  rw[p.enters];have hS:∀ b,b<W.heap.size->bJ G bs b->(b<W.heap.size/\bJ G bs b)\/∃ k∈(nz G W bs h p.kinds args).cs,b∈F k:=λb h1 h2=>.inl ⟨h1,h2⟩
  have call:(nz G W bs h p.kinds args).p->p.pre (nz G W bs h p.kinds args).as_ W (bJ G bs)->Calls P f (ai E args).toArray w λe w' => lI w (λb=>(b<W.heap.size/\bJ G bs b)\/∃ k∈(nz G W bs h p.kinds args).cs,b∈F k) e w' (p.out (nz G W bs h p.kinds args).as_):=λh1 h2=>
   p.ok w _ _ _ (A0 hs hS h1 λk hk b hb=>.inr ⟨k,hk,hb⟩) (p.premono _ _ _ _ _ (O9 hs.keeps hS) h2)
  revert hside;unfold BP;cases hout:p.out (nz G W bs h p.kinds args).as_ with
  |val v=>
   rintro⟨h1,h2⟩;have hc:=call h1 h2;rw[hout]at hc;exact yr hs hc rfl rfl rfl
  |pan c v=>
   rintro⟨h1,h2⟩;have hc:=call h1 h2;rw[hout]at hc;refine hc.mono λe w' he=>?_
   obtain⟨rfl,hkeep⟩:=he;exact⟨rfl,F,(hs.grow hkeep).drop λk e he=>by simpa [wy,dropKeys] using he⟩
  | fact sh Φ=>
   rintro⟨⟨h1,h2⟩,hup⟩;have hc:=call h1 h2;rw[hout]at hc;refine hc.mono λe w' he=>?_
   obtain⟨cs,rfl,hΦ,hkeep⟩:=he;have hobj:=p4 h1;have hK8:¬ K (8*κ):=hk _ oM;have hR:=yp (G:=G) (S:=λb=>(b<W.heap.size/\bJ G bs b)\/∃ k∈(nz G W bs h p.kinds args).cs,b∈F k) (fp:=List.range' w.heap.size (w'.heap.size-w.heap.size)++(nz G W bs h p.kinds args).cs.flatMap F) hs.keeps hkeep hΦ
    (λb hb=>hb.elim .inl λ⟨k,hk,hbk⟩=>.inr (List.mem_append_right _ (List.mem_flatMap.2 ⟨k,hk,hbk⟩))) (λ_ _ _=>by simp)
    (λb hb hn=>by
     by_cases hbw:b<w.heap.size
     ·exact .inl ⟨hbw,hn hbw⟩
     ·exact .inr (List.mem_append_left _ ((po hkeep.size b).2 ⟨oM,hb⟩)))
    (λb hb=>by
     rcases List.mem_append.1 hb with hb|hb
     ·exact hup b (.inl (Nat.le_trans hs.keeps.size ((po hkeep.size b).1 hb).1))
     ·obtain⟨k,hk,hbk⟩:=List.mem_flatMap.1 hb
      obtain⟨Φ',hk'⟩:=hobj k hk
      exact (hs.ent k _ hk').1.1.1 b hbk)
   refine⟨rfl,bu E (8*κ) (dI cs),bu F (8*κ) (List.range' w.heap.size (w'.heap.size-w.heap.size)++(nz G W bs h p.kinds args).cs.flatMap F),λk hk' => al _ _ λe=>hk' (by subst e;omega),?_,?_⟩
   ·simp only[wy];rw[sh.g,ah];rfl
   ·simp only[wy];have hne:∀ j x,h j=some x->j≠8*κ:=λj x hj e=>hK8 (e ▸ (hK j x hj).1)
    refine hs.mD hK (nz G W bs h p.kinds args).cs (bu (λ_=>none) (8*κ) (some (.obj [] (gz G W bs Φ)))) (λj hj=>?_) (λj hj=>al _ _ λe=>hK8 (e ▸ hj)) (λj e he=>?_) (λi j e e' hij hi hj b hb=>?_) (λj x hx hj=>al _ _ (hne j x hx)) (λj=>?_) (hkeep.mono λb hb=>by cases hb)
    ·obtain⟨Φ',hj'⟩:=hobj j hj;exact⟨_,hj'⟩
    ·by_cases hj:j=8*κ
     ·subst hj;simp only[ah,Option.some.injEq]at he;subst he;rw[ah,ah];refine⟨⟨⟨hR w' λ_ _=>rfl,rfl⟩,hR⟩,λb hb=>?_,λb hb=>?_⟩
      ·rcases List.mem_append.1 hb with hb|hb
       ·exact .inr ((po hkeep.size b).1 hb).1
       ·obtain⟨k,hk,hbk⟩:=List.mem_flatMap.1 hb;exact .inl ⟨k,hk,hbk⟩
      ·rcases List.mem_append.1 hb with hb|hb
       ·exact ((po hkeep.size b).1 hb).2
       ·obtain⟨k,hk,hbk⟩:=List.mem_flatMap.1 hb;obtain⟨Φ',hk'⟩:=hobj k hk;exact Nat.lt_of_lt_of_le (hs.lt k _ hk' b hbk) hkeep.size
     ·rw[al _ _ hj]at he;cases he
    ·by_cases hi' : i=8*κ
     ·by_cases hj' : j=8*κ
      ·exact absurd (hi'.trans hj'.symm) hij
      ·rw[al _ _ hj']at hj;cases hj
     ·rw[al _ _ hi']at hi;cases hi
    ·rw[cj];simp only[ba];by_cases hj:j=8*κ
     ·subst hj;simp[ah]
     ·rw[al _ _ hj,al _ _ hj,kI]
 keys:=λW bs κ h K args hK hx hside=>by
  revert hside;unfold BP;cases hout:p.out (nz G W bs h p.kinds args).as_ with
  |val v=>exact λ_=>aQ.plain (λk hk=>by cases hk) rfl
  |pan c v=>exact λ_=>aQ.plain (λk hk=>by cases hk) rfl
  | fact sh Φ=>
   rintro⟨⟨h1,h2⟩,hup⟩;refine⟨λk hk=>.inr (by rw[sh.k _ k hk];omega),λq hq=>?_⟩;simp only[wy,List.mem_append,List.mem_singleton,dX,List.mem_map]at hq;rcases hq with ⟨j,hj,rfl⟩|rfl
   ·obtain⟨Φ',hj'⟩:=p4 h1 j hj;exact⟨.inl (hK j _ hj').1,λe he=>by cases he⟩
   ·refine⟨.inr (by simp only;omega),λe he k hk=>?_⟩;simp only[Option.some.injEq]at he;subst he;cases hk
 loc:=λW bs κ h h' args hside hr=>by
  have hp:(nz G W bs h p.kinds args).p:=by
   revert hside;unfold BP;cases p.out (nz G W bs h p.kinds args).as_ with
   |val v=>exact λh=>h.1
   |pan c v=>exact λh=>h.1
   |fact sh Φ=>exact λh=>h.1.1
  have hr' : ∀ k∈(nz G W bs h p.kinds args).rs,h' k=h k:=by
   revert hr;unfold BP;cases p.out (nz G W bs h p.kinds args).as_<;>exact λh=>h
  rw[AZ hp hr']
theorem cP{P:Program}{f:FuncId}(p:me P f)(G:Nat->Prop)(W:World)(bs:List Nat)(κ:Nat)(h:Hp)(l:List SV):(p.spec G).ev W bs κ h l=BP G κ W bs p.pre p.out (nz G W bs h p.kinds l):=rfl
end
section
open Go.RowKit
inductive GOut where
 |ret (v:Value) (fs:List AV)
 |fact (sh:Sh) (Φ:FK) (fs:List AV)
 |pan (c:List PanicEntry) (v:Value)
def wA(w:World)(S:Nat->Prop)(u:Value)(fp:List Nat)(T:TypeId)(e:Ending)(w' : World):GOut->Prop
 |.ret v fs=>e=.returned v/\(∃ fp',aY w' u fp' T fs/\(∀ b∈fp',b∈fp\/w.heap.size<=b)/\∀ b∈fp',b<w'.heap.size)/\an w fp w'
 |.fact sh Φ fs=>∃ cs,e=.returned (sh.val cs)/\(∃ fp',aY w' u fp' T fs/\(∀ b∈fp',b∈fp\/w.heap.size<=b)/\(∀ b∈fp',b<w'.heap.size)/\Φ.Φ cs w' (λb=>(b<w.heap.size->S b\/b∈fp)/\b∉fp'))/\an w fp w'
 |.pan c _=>e=.panicked c/\an w fp w'
structure vL (P:Program)(f:FuncId) where
 T:TypeId
 kinds:List Kd
 pre:List AV->List AV->World->(Nat->Prop)->Prop
 premono:∀ fs as_ W S W' S',aX W S W' S' -> pre fs as_ W S->pre fs as_ W' S'
 out:List AV->List AV->GOut
 enters:∀ args w,(callFunc f args).run P w=.ok (.enter f args) w
 ok:∀ (w:World) (S:Nat->Prop) (u:Value) (fp:List Nat) (us:List Value) (fs as_:List AV),aY w u fp T fs->(∀ b∈fp,b<w.heap.size)->(∀ b∈fp,¬ S b)->BR w S kinds us as_->pre fs as_ w S ->
  Calls P f (u::us).toArray w λe w' => wA w S u fp T e w' (out fs as_)
def rZ(G:Nat->Prop)(κ k:Nat)(T:TypeId)(W:World)(bs:List Nat)(q:Prop)(rs rs' cs:List Nat):GOut->R
 |.ret v fs=>⟨q/\(k::rs).Nodup/\(∀ j∈rs',j∉k::rs)/\fs.length<=7,.v v,dX rs++(cM (bh (8*κ) fs)++[(k,some (.cells T (aP (8*κ) fs)))]),none,[],k::(rs++rs')⟩
 | .fact sh Φ fs=>⟨q/\(k::rs).Nodup/\(∀ j∈rs',j∉k::rs)/\fs.length<=7/\Up G W bs,sh.tm (8*κ+7),
   dX (rs++cs)++(cM (bh (8*κ) fs)++[(k,some (.cells T (aP (8*κ) fs))),(8*κ+7,some (.obj [] (gz G W bs Φ)))]),none,[],k::(rs++rs')⟩
 |.pan c v=>⟨q/\(k::rs).Nodup/\(∀ j∈rs',j∉k::rs),.v v,[],some c,k::rs,k::(rs++rs')⟩
def B8(G:Nat->Prop)(κ k:Nat)(T T' : TypeId)(W:World)(bs:List Nat)(pre:List AV->List AV->World->(Nat->Prop)->Prop)(out:List AV->List AV->GOut)(g:GVL):Option (List AV×List Nat)->R
 |some (fs,rs)=>rZ G κ k T W bs (T' = T/\g.p/\pre fs g.as_ W (bJ G bs)) rs g.rs g.cs (out fs g.as_)
 |none=>.bad
def B9(G:Nat->Prop)(h:Hp)(κ k:Nat)(T:TypeId)(W:World)(bs:List Nat)(pre:List AV->List AV->World->(Nat->Prop)->Prop)(out:List AV->List AV->GOut)(g:GVL):Option aZ->R
 |some (.cells T' vs)=>B8 G κ k T T' W bs pre out g (aB h vs)
 |_=>.bad
def F6(G:Nat->Prop)(h:Hp)(κ:Nat)(T:TypeId)(W:World)(bs:List Nat)(kinds:List Kd)(pre:List AV->List AV->World->(Nat->Prop)->Prop)(out:List AV->List AV->GOut):List SV->R
 |.own k 0::rest=>B9 G h κ k T W bs pre out (nz G W bs h kinds rest) (h k)
 |_=>.bad
section
variable {P:Program}{W:World}{bs:List Nat}{κ:Nat}{E:Nat->Value}{F:Nat->List Nat}{h:Nat->Option aZ}{w:World}{K:Nat->Prop}{G:Nat->Prop}
theorem VI{w' : World}{k:Nat}{T:TypeId}{vs:List SV}{fs fs' : List AV}{rs fp' ks' fpn:List Nat}{cs:List Value}{R:List Value->Value->List Nat->World->Prop}(hs:aj W bs E F h w)(hK:bU K h)(hk:∀ k,k / 8=κ->¬ K k)
  (hkk:h k=some (.cells T vs)) (hv:aB h vs=some (fs,rs)) (hlen:fs'.length<=7) (hn:(k::rs).Nodup) (hks:∀ j∈ks',∃ d R,h j=some (.obj d R))
  (ho:aY w' (E k) fp' T fs') (h1:∀ b∈fp',b∈(k::rs).flatMap F\/w.heap.size<=b) (h2:∀ b∈fp',b<w'.heap.size)
  (hfn:∀ b∈fpn,b∉fp' /\ b<w'.heap.size/\((∃ j∈k::(rs++ks'),b∈F j)\/w.heap.size<=b)) (hR:∀ w3:World,(∀ b∈fpn,w3.heap[b]?=w'.heap[b]?)->R [] (dI cs) fpn w3)
  (hkeep:an w ((k::rs).flatMap F) w') :
  ∃ E' F',(∀ j,j / 8≠κ->E' j=E j)/\E' (8*κ+7)=dI cs/\aj W bs E' F' (ba h (dX (rs++ks')++(cM (bh (8*κ) fs')++[(k,some (.cells T (aP (8*κ) fs'))),(8*κ+7,some (.obj [] R))]))) w' := by
 obtain⟨b,us,hu,hb,hus,rfl,hnd⟩:=ho;have hl:=ki hus;have hKk:K k:=(hK k _ hkk).1;have hfr:∀ j,8*κ<=j->j<8*κ+8->¬ K j:=λj g1 g2=>hk j oM
 have hk7:k≠8*κ+7:=λe=>hfr k oM oM hKk
 have hkf:k<8*κ\/8*κ+8<=k:=by
  by_cases g1:k<8*κ
  ·exact .inl g1
  ·by_cases g2:8*κ+8<=k
   ·exact .inr g2
   ·exact absurd hKk (hfr k oM oM)
 have hE:∀ j,j / 8≠κ->bu (gN (8*κ) us E) (8*κ+7) (dI cs) j=E j:=λj hj=>by
  rw[al _ _ oM];exact ni oM
 have hsome:∀ p∈cM (bh (8*κ) fs')++[(k,some (.cells T (aP (8*κ) fs'))),(8*κ+7,some (.obj [] R))],∃ e,p.2=some e:=λp hp=>by
  rcases List.mem_append.1 hp with hp|hp
  ·obtain⟨e,he,_⟩:=fZ.1 hp;exact⟨e,by rw[he]⟩
  ·simp at hp;rcases hp with rfl|rfl
   ·exact⟨_,rfl⟩
   ·exact⟨_,rfl⟩
 have hrow7:∀ j e,(j,e)∈bh (8*κ) fs' -> j≠8*κ+7:=λj e hm=>by
  have:=dZ _ hm;simp only at this;omega
 have hNm:∀ j e,ba (λ_=>none) (cM (bh (8*κ) fs')++[(k,some (.cells T (aP (8*κ) fs'))),(8*κ+7,some (.obj [] R))]) j=some e ->
   (j=k/\e=.cells T (aP (8*κ) fs'))\/(j=8*κ+7/\e=.obj [] R)\/(j≠k/\j≠8*κ+7/\(j,e)∈bh (8*κ) fs'):=λj e he=>by
  rw[cj]at he;simp only[ba]at he;by_cases hj7:j=8*κ+7
  ·subst hj7;rw[ah]at he;cases he;exact .inr (.inl ⟨rfl,rfl⟩)
  ·rw[al _ _ hj7]at he;by_cases hj:j=k
   ·subst hj;rw[ah]at he;cases he;exact .inl ⟨rfl,rfl⟩
   ·rw[al _ _ hj]at he;rcases lz (λ_=>(none:Option aZ)) (k:=j) (u:=cM (bh (8*κ) fs')) with ⟨x,hx,hx'⟩|⟨_,hx'⟩
    ·rw[hx']at he;subst he;obtain⟨e',h3,h4⟩:=fZ.1 hx;simp only[Prod.mk.injEq,true_and,Option.some.injEq]at h3;subst h3;exact .inr (.inr ⟨hj,hj7,h4⟩)
    ·rw[hx']at he;cases he
 have hNk:ba (λ_=>none) (cM (bh (8*κ) fs')++[(k,some (.cells T (aP (8*κ) fs'))),(8*κ+7,some (.obj [] R))]) k=some (.cells T (aP (8*κ) fs')):=by
  rw[cj];simp only[ba];rw[al _ _ hk7,ah]
 have hN7:ba (λ_=>none) (cM (bh (8*κ) fs')++[(k,some (.cells T (aP (8*κ) fs'))),(8*κ+7,some (.obj [] R))]) (8*κ+7)=some (.obj [] R):=by
  rw[cj];simp[ba,ah]
 have hb' : b∉Az us fs' := (List.nodup_cons.1 hnd).1;have hnd' : (Az us fs').Nodup:=(List.nodup_cons.1 hnd).2;have own:∀ j∈k::(rs++ks'),∃ e,h j=some e:=λj hj=>by
  rcases List.mem_cons.1 hj with rfl|hj
  ·exact⟨_,hkk⟩
  ·rcases List.mem_append.1 hj with hj|hj
   ·exact (cy hs hv).2 j hj
   ·obtain⟨d,R',h'⟩:=hks j hj;exact⟨_,h'⟩
 refine⟨bu (gN (8*κ) us E) (8*κ+7) (dI cs),bu (bu (iL (8*κ) us fs' F) k [b]) (8*κ+7) fpn,hE,by rw[ah],?_⟩
 refine hs.mD hK (k::(rs++ks')) (ba (λ_=>none) (cM (bh (8*κ) fs')++[(k,some (.cells T (aP (8*κ) fs'))),(8*κ+7,some (.obj [] R))])) own (λj hj=>hE j λe=>hk j e hj) (λj e he=>?_) (λi j e e' hij hi hj c hc=>?_) (λj x hx hj=>?_) (λj=>?_) ?_
 ·rcases hNm j e he with ⟨rfl,rfl⟩|⟨rfl,rfl⟩|⟨hjk,hj7,hm⟩
  ·rw[al _ _ hk7,al _ _ hk7,ah,ni oM];refine⟨⟨b,hu,rfl,?_⟩,λc hc=>?_,λc hc=>h2 c (by simp at hc;simp[hc])⟩
   ·rw[bE (E' := gN (8*κ) us E) _ λi hi=>al _ _ (by have:=cw i hi;omega),gw hus];exact hb
   ·simp only[List.mem_singleton]at hc;subst hc;rcases h1 c sI with g|g
    ·obtain⟨i,hi,hci⟩:=List.mem_flatMap.1 g
     exact .inl ⟨i, by rcases List.mem_cons.1 hi with hi|hi
                       ·exact List.mem_cons.2 (.inl hi)
                       ·exact List.mem_cons.2 (.inr (List.mem_append_left _ hi)),hci⟩
    ·exact .inr g
  ·rw[ah,ah];refine⟨⟨⟨hR w' λ_ _=>rfl,rfl⟩,hR⟩,λc hc=>(hfn c hc).2.2,λc hc=>(hfn c hc).2.1⟩
  ·rw[al _ _ hj7,al _ _ hj7,al _ _ hjk];obtain⟨g1,g2⟩:=jl (E:=E) (F:=F) hus hm (gN (8*κ) us E);refine⟨gV (λi hi=>?_) g1,λc hc=>?_,λc hc=>h2 c (List.mem_cons_of_mem _ (g2 c hc))⟩
   ·rw[(dZ _ hm).2.2]at hi;cases hi
   ·rcases h1 c (List.mem_cons_of_mem _ (g2 c hc)) with g|g
    ·obtain⟨i,hi,hci⟩:=List.mem_flatMap.1 g
     exact .inl ⟨i, by rcases List.mem_cons.1 hi with hi|hi
                       ·exact List.mem_cons.2 (.inl hi)
                       ·exact List.mem_cons.2 (.inr (List.mem_append_left _ hi)),hci⟩
    ·exact .inr g
 ·have hrowfp:∀ i e,i≠k->i≠8*κ+7->(i,e)∈bh (8*κ) fs' -> ∀ c∈bu (bu (iL (8*κ) us fs' F) k [b]) (8*κ+7) fpn i,c∈Az us fs' := λi e g1 g2 hm c hc=>by
   rw[al _ _ g2,al _ _ g1]at hc;exact cK hl hm c hc
  rcases hNm i e hi with ⟨rfl,rfl⟩|⟨rfl,rfl⟩|⟨hik,hi7,hmi⟩
  ·rw[al _ _ hk7,ah]at hc;simp only[List.mem_singleton]at hc;subst hc;rcases hNm j e' hj with ⟨rfl,rfl⟩|⟨rfl,rfl⟩|⟨hjk,hj7,hmj⟩
   ·exact absurd rfl hij
   ·rw[ah];exact λhc' => (hfn c hc').1 sI
   ·exact λhc' => hb' (hrowfp j e' hjk hj7 hmj c hc')
  ·rw[ah]at hc;have hc1:=(hfn c hc).1;rcases hNm j e' hj with ⟨rfl,rfl⟩|⟨rfl,rfl⟩|⟨hjk,hj7,hmj⟩
   ·rw[al _ _ hk7,ah];exact λhc' => hc1 (by simp at hc';simp[hc'])
   ·exact absurd rfl hij
   ·exact λhc' => hc1 (List.mem_cons_of_mem _ (hrowfp j e' hjk hj7 hmj c hc'))
  ·rcases hNm j e' hj with ⟨rfl,rfl⟩|⟨rfl,rfl⟩|⟨hjk,hj7,hmj⟩
   ·have:=hrowfp i e hik hi7 hmi c hc;rw[al _ _ hk7,ah];intro hc';simp only[List.mem_singleton]at hc';subst hc';exact hb' this
   ·have:=hrowfp i e hik hi7 hmi c hc;rw[ah];exact λhc' => (hfn c hc').1 (List.mem_cons_of_mem _ this)
   ·rw[al _ _ hi7,al _ _ hik]at hc;rw[al _ _ hj7,al _ _ hjk];exact jk hnd' hmi hmj hl hij c hc
 ·have hjk:j≠k:=λe=>by rw[e,hNk]at hj;cases hj
  have hj7:j≠8*κ+7:=λe=>by rw[e,hN7]at hj;cases hj
  rw[al _ _ hj7,al _ _ hjk];have hKj:=(hK j x hx).1;by_cases g1:j<8*κ
  ·exact kH (.inl g1)
  ·by_cases g2:8*κ+8<=j
   ·exact kH (.inr oM)
   ·exact absurd hKj (hfr j oM oM)
 ·rw[cj,kJ _ _ _ hsome,kI];cases hN:ba (λ_=>none) (cM (bh (8*κ) fs')++[(k,some (.cells T (aP (8*κ) fs'))),(8*κ+7,some (.obj [] R))]) j with
  |some e=>rfl
  |none=>
   have hjk:j≠k:=λe=>by rw[e,hNk]at hN;cases hN
   simp[hjk]
 ·refine hkeep.mono λc hc=>?_
  obtain⟨i,hi,hci⟩:=List.mem_flatMap.1 hc;refine List.mem_flatMap.2 ⟨i,?_,hci⟩;rcases List.mem_cons.1 hi with hi|hi
  ·exact List.mem_cons.2 (.inl hi)
  ·exact List.mem_cons.2 (.inr (List.mem_append_left _ hi))
end
def vL.spec{P:Program}{f:FuncId}(p:vL P f)(G:Nat->Prop):Spec P f where
 ev:=λW bs κ h args=>F6 G h κ p.T W bs p.kinds p.pre p.out args
 good:=λW bs κ E F h w K args hs hK hk hx hside=>by
  rw[p.enters];revert hside;unfold F6;split
  ·rename_i k rest;generalize hg:nz G W bs h p.kinds rest=g;cases hkk:h k with
   |none=>exact λhf=>hf.elim
   | some e=>
    cases e with
    |row T s n vs=>exact λhf=>hf.elim
    |mp ks vs=>exact λhf=>hf.elim
    |obj d R=>exact λhf=>hf.elim
    | cells T' vs=>
     simp only[B9];cases hv:aB h vs with
     |none=>exact λhf=>hf.elim
     | some q=>
      obtain⟨fs,rs⟩:=q;simp only[B8];have hent:=hs.ent k _ hkk;obtain⟨b,hu,_,_⟩:=hent;have hden:den E (.own k 0)=E k:=by simp[den,hu,base,dt]
      have hobj:g.p->∀ j∈g.cs,∃ Φ,h j=some (.obj [] (gz G W bs Φ)):=λhp=>by rw[<- hg]at hp ⊢;exact p4 hp
      have hown:∀ j∈k::rs,∃ e,h j=some e/\∀ d R,e≠.obj d R:=λj hj=>by
       rcases List.mem_cons.1 hj with rfl|hj
       ·exact⟨_,hkk,λ_ _ e=>by cases e⟩
       ·exact iY hv j hj
      have gh:∀ c∈(k::rs).flatMap F,(∃ j∈k::rs,c∈F j)/\c<w.heap.size/\(W.heap.size<=c\/c∈bs):=λc hc=>by
       obtain⟨j,hj,hcj⟩:=List.mem_flatMap.1 hc;obtain⟨e,he,_⟩:=hown j hj;exact⟨⟨j,hj,hcj⟩,hs.lt j e he c hcj,hs.mine j e he c hcj⟩
      have hS0:∀ b,b<W.heap.size->bJ G bs b->b∉(k::rs).flatMap F:=λb h1 h2 hb=>(gh b hb).2.2.elim (λg=>absurd g (Nat.not_le.2 h1)) h2.2
      have hS:∀ b,b<W.heap.size->bJ G bs b->(b<W.heap.size/\bJ G bs b)\/∃ j∈g.cs,b∈F j:=λb h1 h2=>.inl ⟨h1,h2⟩
      have hSf:g.p->∀ b∈(k::rs).flatMap F,¬ ((b<W.heap.size/\bJ G bs b)\/∃ j∈g.cs,b∈F j):=λhp b hb hS=>by
       rcases hS with ⟨h1,h2⟩|⟨j,hj,hbj⟩
       ·exact hS0 b h1 h2 hb
       ·obtain⟨Φ,hj'⟩:=hobj hp j hj;obtain⟨i,hi,hbi⟩:=(gh b hb).1;obtain⟨e,he,hne⟩:=hown i hi;refine hs.apart i j e _ (λhij=>?_) he hj' b hbi hbj;rw[hij,hj']at he;exact hne _ _ (Option.some.inj he).symm
      have call:∀ hn:(k::rs).Nodup,T' = p.T->g.p->p.pre fs g.as_ W (bJ G bs)->Calls P f (ai E (.own k 0::rest)).toArray w λe w' => wA w (λb=>(b<W.heap.size/\bJ G bs b)\/∃ j∈g.cs,b∈F j) (E k) ((k::rs).flatMap F) p.T e w' (p.out fs g.as_):=λhn hT hp hpre=>by
       subst hT;have ho:=jg hs hkk hv hn;have hgs:=A0 hs hS (kds:=p.kinds) (l:=rest) (by rw[hg];exact hp) (by rw[hg];exact λj hj b hb=>.inr ⟨j,hj,hb⟩);rw[hg]at hgs;have:=p.ok w _ (E k) _ (ai E rest) fs g.as_ ho (λc hc=>(gh c hc).2.1) (hSf hp) hgs (p.premono _ _ _ _ _ _ (O9 hs.keeps hS) hpre)
       simpa only[ai,hden] using this
      cases hout:p.out fs g.as_ with
      |ret v fs' =>
       simp only[rZ];rintro⟨⟨hT,hp,hpre⟩,hn,hd,hlen⟩;have hc:=call hn hT hp hpre;rw[hout]at hc;subst hT;refine hc.mono λe w' he=>?_
       obtain⟨rfl,⟨fp',ho,h1,h2⟩,hkeep⟩:=he;obtain⟨E',F',hE',hs'⟩:=rJ hs hK hk hkk hv oM hn ho h1 h2 hkeep;exact⟨rfl,E',F',hE',rfl,hs'⟩
      | fact sh Φ fs' =>
       simp only[rZ];rintro⟨⟨hT,hp,hpre⟩,hn,hd,hlen,hup⟩;have hc:=call hn hT hp hpre;rw[hout]at hc;subst hT;refine hc.mono λe w' he=>?_
       obtain⟨cs,rfl,⟨fp',ho,h1,h2,hΦ⟩,hkeep⟩:=he;have hfn:∀ b,b∈(List.range' w.heap.size (w'.heap.size-w.heap.size)++(k::(rs++g.cs)).flatMap F).filter (·∉fp') ↔ ((w.heap.size<=b/\b<w'.heap.size)\/∃ j∈k::(rs++g.cs),b∈F j)/\b∉fp' := λb=>by
        simp only[List.mem_filter,List.mem_append,po hkeep.size b,List.mem_flatMap,decide_eq_true_eq]
       have hown' : ∀ j∈k::(rs++g.cs),∃ e,h j=some e:=λj hj=>by
        rcases List.mem_cons.1 hj with rfl|hj
        ·exact⟨_,hkk⟩
        ·rcases List.mem_append.1 hj with hj|hj
         ·obtain⟨e,he,_⟩:=hown j (List.mem_cons_of_mem _ hj);exact⟨e,he⟩
         ·obtain⟨Φ',h'⟩:=hobj hp j hj;exact⟨_,h'⟩
       have hsub:∀ j∈k::rs,j∈k::(rs++g.cs):=λj hj=>by
        rcases List.mem_cons.1 hj with hj|hj
        ·exact List.mem_cons.2 (.inl hj)
        ·exact List.mem_cons.2 (.inr (List.mem_append_left _ hj))
       have hR:=yp (G:=G) (fp:=(List.range' w.heap.size (w'.heap.size-w.heap.size)++(k::(rs++g.cs)).flatMap F).filter (·∉fp')) (S:=λb=>((b<W.heap.size/\bJ G bs b)\/∃ j∈g.cs,b∈F j)/\b∉fp') hs.keeps hkeep hΦ
        (λb hb=>hb.1.elim .inl λ⟨j,hj,hbj⟩=>.inr ((hfn b).2 ⟨.inr ⟨j,List.mem_cons.2 (.inr (List.mem_append_right _ hj)),hbj⟩,hb.2⟩)) hS0
        (λb hb hn=>by
         by_cases hbw:b<w.heap.size
         ·rcases hn.1 hbw with h3|h3
          ·exact .inl ⟨hbw,h3,hn.2⟩
          ·obtain⟨j,hj,hbj⟩:=(gh b h3).1
           exact .inr ((hfn b).2 ⟨.inr ⟨j,hsub j hj,hbj⟩,hn.2⟩)
         ·exact .inr ((hfn b).2 ⟨.inl ⟨oM,hb⟩,hn.2⟩))
        (λb hb=>by
         rcases ((hfn b).1 hb).1 with h3|⟨j,hj,hbj⟩
         ·exact hup b (.inl (Nat.le_trans hs.keeps.size h3.1))
         ·obtain⟨e,he⟩:=hown' j hj
          exact hup b (hs.mine j e he b hbj))
       obtain⟨E',F',hE',hE7,hs'⟩:=VI (ks' := g.cs) (R:=gz G W bs Φ) (cs:=cs) hs hK hk hkk hv hlen hn (λj hj=>by obtain⟨Φ',h'⟩:=hobj hp j hj;exact⟨_,_,h'⟩) ho h1 h2
        (λb hb=>by
         obtain⟨h3,h4⟩:=(hfn b).1 hb
         refine⟨h4,?_,h3.elim (λh=>.inr h.1) .inl⟩
         rcases h3 with h3|⟨j,hj,hbj⟩
         ·exact h3.2
         ·obtain⟨e,he⟩:=hown' j hj
          exact Nat.lt_of_lt_of_le (hs.lt j e he b hbj) hkeep.size) hR hkeep
       refine⟨rfl,E',F',hE',?_,hs'⟩;rw[sh.g,hE7];rfl
      |pan c _=>
       simp only[rZ];rintro⟨⟨hT,hp,hpre⟩,hn,hd⟩;have hc:=call hn hT hp hpre;rw[hout]at hc;refine hc.mono λe w' he=>?_
       obtain⟨rfl,hkeep⟩:=he;refine⟨rfl,F,?_⟩;refine hs.mD hK (k::rs) (λ_=>none) (λj hj=>?_) (λ_ _=>rfl) (λj e he=>by cases he) (λi j e e' _ he=>by cases he) (λ_ _ _ _=>rfl) (λj=>?_) hkeep
       ·obtain⟨e,he,_⟩:=hown j hj;exact⟨e,he⟩
       ·simp only[dropKeys]
  ·exact λhf=>hf.elim
 keys:=λW bs κ h K args hK hx hside=>by
  revert hside;unfold F6;split
  ·rename_i k rest;generalize hg:nz G W bs h p.kinds rest=g;cases hkk:h k with
   |none=>exact λhf=>hf.elim
   | some e=>
    cases e with
    |row T s n vs=>exact λhf=>hf.elim
    |mp ks vs=>exact λhf=>hf.elim
    |obj d R=>exact λhf=>hf.elim
    | cells T' vs=>
     simp only[B9];cases hv:aB h vs with
     |none=>exact λhf=>hf.elim
     | some q=>
      obtain⟨fs,rs⟩:=q;simp only[B8];have hobj:g.p->∀ j∈g.cs,∃ Φ,h j=some (.obj [] (gz G W bs Φ)):=λhp=>by rw[<- hg]at hp ⊢;exact p4 hp
      have row:∀ fs' : List AV,fs'.length<=7->∀ q∈cM (bh (8*κ) fs'),(K q.1\/q.1 / 8=κ)/\∀ e,q.2=some e->∀ j∈e.keys,K j\/j / 8=κ:=λfs' hlen q hq=>by
       obtain⟨e,h1,h2⟩:=fZ.1 hq;obtain⟨h3,h4⟩:=A7 oM h2;refine⟨.inr h3,λe' he' j hj=>?_⟩;rw[h1]at he';simp only[Option.some.injEq]at he';subst he';rw[h4]at hj;cases hj
      have cel:∀ fs' : List AV,fs'.length<=7->(K k\/k / 8=κ)/\∀ e,some (aZ.cells p.T (aP (8*κ) fs'))=some e->∀ j∈e.keys,K j\/j / 8=κ:=λfs' hlen=>by
       refine⟨.inl (hK k _ hkk).1,λe' he' j hj=>.inr ?_⟩;simp only[Option.some.injEq]at he';subst he';have:=cw j hj;omega
      cases hout:p.out fs g.as_ with
      | ret v fs' =>
       simp only[rZ];rintro⟨_,hn,hd,hlen⟩;refine⟨λj hj=>(by cases hj),λq hq=>?_⟩;simp only[List.mem_append,List.mem_singleton]at hq;rcases hq with hq|hq|rfl
       ·simp only[dX,List.mem_map]at hq;obtain⟨j,hj,rfl⟩:=hq;exact⟨.inl (xP hK hv j hj),λe he=>by cases he⟩
       ·exact row fs' hlen q hq
       ·exact cel fs' hlen
      | fact sh Φ fs' =>
       simp only[rZ];rintro⟨⟨_,hp,_⟩,hn,hd,hlen,hup⟩;refine⟨λj hj=>.inr (by rw[sh.k _ j hj];omega),λq hq=>?_⟩;simp only[List.mem_append,List.mem_cons,List.not_mem_nil,or_false]at hq;rcases hq with hq|hq|rfl|rfl
       ·simp only[dX,List.mem_map,List.mem_append]at hq;obtain⟨j,hj,rfl⟩:=hq;rcases hj with hj|hj
        ·exact⟨.inl (xP hK hv j hj),λe he=>by cases he⟩
        ·obtain⟨Φ',h'⟩:=hobj hp j hj;exact⟨.inl (hK j _ h').1,λe he=>by cases he⟩
       ·exact row fs' hlen q hq
       ·exact cel fs' hlen
       ·refine⟨.inr (by simp only;omega),λe he k hk=>?_⟩;simp only[Option.some.injEq]at he;subst he;cases hk
      |pan c _=>
       simp only[rZ];rintro _;exact⟨λj hj=>(by cases hj),λq hq=>by cases hq⟩
  ·exact λhf=>hf.elim
 loc:=λW bs κ h h' args hside hr=>by
  revert hside hr;unfold F6;split
  ·rename_i k rest;generalize hg:nz G W bs h p.kinds rest=g;cases hkk:h k with
   |none=>exact λhf=>hf.elim
   | some e=>
    cases e with
    |row T s n vs=>exact λhf=>hf.elim
    |mp ks vs=>exact λhf=>hf.elim
    |obj d R=>exact λhf=>hf.elim
    | cells T' vs=>
     simp only[B9];cases hv:aB h vs with
     |none=>exact λhf=>hf.elim
     | some q=>
      obtain⟨fs,rs⟩:=q;simp only[B8];intro hside hr;have hp:g.p:=by
       revert hside;cases p.out fs g.as_<;>exact λh=>h.1.2.1
      have hr' : ∀ j∈k::(rs++g.rs),h' j=h j:=by
       revert hr;cases p.out fs g.as_<;>exact λh=>h
      have e1:h' k=some (.cells T' vs):=by rw[hr' k sI,hkk]
      have e2:nz G W bs h' p.kinds rest=g:=by
       rw[<- hg];exact AZ (by rw[hg];exact hp) (by rw[hg];exact λj hj=>hr' j (by simp[hj]))
      have e3:aB h' vs=some (fs,rs):=cU hv λj hj=>hr' j (by simp[hj])
      rw[e1,e2];simp only[B9,e3,B8]
  ·exact λhf=>hf.elim
theorem fy{P:Program}{f:FuncId}(p:vL P f)(G:Nat->Prop)(W:World)(bs:List Nat)(κ:Nat)(h:Hp)(l:List SV):(p.spec G).ev W bs κ h l=F6 G h κ p.T W bs p.kinds p.pre p.out l:=rfl
def aG(w:World)(S:Nat->Prop):Nat->Prop:=λb=>b<w.heap.size->S b
def af(w:World)(S:Nat->Prop)(fp:List Nat):Nat->Prop:=λb=>b<w.heap.size->S b\/b∈fp
theorem aG.up(w:World)(S:Nat->Prop):Up (aG w S) w []:=λb hb hlt=>by
 rcases hb with hb|hb
 ·omega
 ·cases hb
theorem af.up(w:World)(S:Nat->Prop)(fp:List Nat):Up (af w S fp) w fp:=λb hb hlt=>by
 rcases hb with hb|hb
 ·omega
 ·exact .inr hb
theorem aG.e7(w:World)(S:Nat->Prop):aX w S w (bJ (aG w S) []):=λb hb hS=>⟨rfl,λ_=>hS,sI⟩
theorem af.e7(w:World)(S:Nat->Prop)(fp:List Nat)(h:∀ b∈fp,¬ S b):aX w S w (bJ (af w S fp) fp):=λb hb hS=>⟨rfl,λ_=>.inl hS,λhf=>h b hf hS⟩
def G4(w:World)(S:Nat->Prop)(W' : World)(bs' : List Nat)(x:SV):FOut->Prop
 |.val v=>∀ E,den E x=v
 |.fact sh Φ=>∃ cs,(∀ E,den E x=sh.val cs)/\Φ.Φ cs W' (bJ (aG w S) bs')
 |.pan _ _=>False
theorem eV{P:Program}{f:FuncId}{fn:Func}{c:Code}{args:Array Value}{w:World}{nt:Nat}{out:FOut}(S:Nat->Prop)(rs:List ResultVar)
  (hf:P.funcs[f]?=some fn) (hb:fn.body=some c) (hrs:fn.results.toList=rs) (hnt:args.size+(fn.ntmps-args.size)=nt)
  (h:Wp P w [] nt ⟨[],[]⟩ c (Fin P rs (λW' bs' x _=>G4 w S W' bs' x out) (λc _=>∃ v,out=.pan c v)) (σ0 args.toList)) :
  Calls P f args w λe w' => lI w S e w' out:=by
 subst hrs;refine (oY hf hb (tT args hnt) h).mono λe w' he=>?_
 cases e with
 | returned u=>
  obtain⟨W',bs',E,F,x,h,hx,hok,rfl,hs,_⟩:=he;cases out with
  |val v=>exact⟨by rw[hok E],hx.fR hs.keeps⟩
  |fact sh Φ=>
   obtain⟨cs,hd,hΦ⟩:=hok;exact⟨cs,by rw[hd E],Φ.mono (λb hb hr=>⟨hs.keeps.block b hb hr.2,hr.1⟩) hΦ,hx.fR hs.keeps⟩
  |pan c v=>exact hok.elim
 |panicked c=>
  obtain⟨W',bs',E,F,h',hx,⟨v,rfl⟩,hs,_⟩:=he;exact⟨rfl,hx.fR hs.keeps⟩
 |outgrown=>exact he.elim
def N2(w:World)(S:Nat->Prop)(fp:List Nat)(T:TypeId)(W' : World)(bs' : List Nat)(x:SV)(h:Hp):GOut->Prop
 |.ret v fs' => (∀ E,den E x=v)/\∃ vs ks,h 0=some (.cells T vs)/\aB h vs=some (fs',ks)/\(0::ks).Nodup
 |.fact sh Φ fs' => (∃ cs,(∀ E,den E x=sh.val cs)/\Φ.Φ cs W' (bJ (af w S fp) bs'))/\∃ vs ks,h 0=some (.cells T vs)/\aB h vs=some (fs',ks)/\(0::ks).Nodup
 |.pan _ _=>False
theorem du{P:Program}{f:FuncId}{fn:Func}{c:Code}{w:World}{nt:Nat}{T:TypeId}{u:Value}{fp:List Nat}{fs:List AV}{out:GOut}(S:Nat->Prop)(us:Array Value)(rs:List ResultVar)
  (hlen:fs.length<=7) (ho:aY w u fp T fs) (hlt:∀ b∈fp,b<w.heap.size)
  (hf:P.funcs[f]?=some fn) (hb:fn.body=some c) (hrs:fn.results.toList=rs) (hnt:us.size+1+(fn.ntmps-(us.size+1))=nt)
  (h:Wp P w fp nt ⟨[],[(0,u)]⟩ c (Fin P rs (λW' bs' x h=>N2 w S fp T W' bs' x h out) (λc _=>∃ v,out=.pan c v)) (σB T fs us.toList)) :
  Calls P f (#[u]++us) w λe w' => wA w S u fp T e w' out:=by
 subst hrs;have hsat:=CZ (nt:=nt) (m:=fn.ntmps-(us.size+1)) us hlen ho hlt hnt;have hsz:(#[u]++us).size=us.size+1:=by simp;omega
 refine (oY hf hb (by rw[hsz];exact hsat) h).mono λe w' he=>?_
 cases e with
 | returned v' =>
  obtain⟨W',bs',E,F,x,h',hx,hok,rfl,hs,hp⟩:=he;have hs' := hs.back hx;have hE:E 0=u:=hp (0,u) sI
  have back:∀ {vs ks fs'},h' 0=some (.cells T vs)->aB h' vs=some (fs',ks)->(0::ks).Nodup->aY w' u ((0::ks).flatMap F) T fs' /\ (∀ b∈(0::ks).flatMap F,b∈fp\/w.heap.size<=b)/\(∀ b∈(0::ks).flatMap F,b<w'.heap.size)/\∀ b∈(0::ks).flatMap F,W'.heap.size<=b\/b∈bs' := λ{vs ks fs'} h0 hv hn=>by
   have ho' := jg hs' h0 hv hn;rw[hE]at ho';have own:∀ b∈(0::ks).flatMap F,∃ j e,h' j=some e/\b∈F j:=λb hb=>by
    obtain⟨j,hj,hbj⟩:=List.mem_flatMap.1 hb;rcases List.mem_cons.1 hj with rfl|hj
    ·exact⟨_,_,h0,hbj⟩
    ·obtain⟨e,he⟩:=(cy hs' hv).2 j hj;exact⟨_,e,he,hbj⟩
   refine⟨ho',λb hb=>?_,λb hb=>?_,λb hb=>?_⟩
   ·obtain⟨j,e,he,hbj⟩:=own b hb;exact (hs'.mine j e he b hbj).symm
   ·obtain⟨j,e,he,hbj⟩:=own b hb;exact hs'.lt j e he b hbj
   ·obtain⟨j,e,he,hbj⟩:=own b hb;exact hs.mine j e he b hbj
  cases out with
  |ret v fs' =>
   obtain⟨hd,vs,ks,h0,hv,hn⟩:=hok;obtain⟨g1,g2,g3,_⟩:=back h0 hv hn;exact⟨by rw[hd E],⟨_,g1,g2,g3⟩,hs'.keeps⟩
  |fact sh Φ fs' =>
   obtain⟨⟨cs,hd,hΦ⟩,vs,ks,h0,hv,hn⟩:=hok;obtain⟨g1,g2,g3,g4⟩:=back h0 hv hn;exact⟨cs,by rw[hd E],⟨_,g1,g2,g3,Φ.mono (λb hb hr=>⟨hs.keeps.block b hb hr.2,hr.1,λhf=>(g4 b hf).elim (λg=>absurd g (Nat.not_le.2 hb)) hr.2⟩) hΦ⟩,hs'.keeps⟩
  |pan c v=>exact hok.elim
 |panicked c=>
  obtain⟨W',bs',E,F,h',hx,⟨_,rfl⟩,hs,hp⟩:=he;exact⟨rfl,(hs.back hx).keeps⟩
 |outgrown=>exact he.elim
section
variable (G:Nat->Prop)(W:World)(bs:List Nat)(h:Hp)(κ k:Nat)(T T' : TypeId)
theorem Za(x:Value):cN (.v x)=some x:=rfl
theorem OK(k o:Nat):cN (.own k o)=none:=rfl
theorem UH(k:Nat):cN (.hd k)=none:=rfl
theorem KJ(k i:Nat):cN (.part k i)=none:=rfl
theorem OI(l:List SV):cN (.agg l)=(ib l).map λvs=>.agg vs.toArray:=rfl
theorem OJ(t:TypeId)(x:SV):cN (.nO t x)=(cN x).map (.iface t):=rfl
theorem UG(f:Fn)(a c:List SV):cN (.fn f a c)=func2 f (ib a) (ib c):=rfl
theorem OH:ib []=some []:=rfl
theorem KI(x:SV)(r:List SV):ib (x::r)=zV (cN x) (ib r):=rfl
theorem OF(v:Value)(vs:List Value):zV (some v) (some vs)=some (v::vs):=rfl
theorem OE(o:Option (List Value)):zV none o=none:=rfl
theorem KH(v:Value):zV (some v) none=none:=rfl
theorem O6(f:Fn)(a c:List Value):func2 f (some a) (some c)=some (.func f a.toArray c.toArray):=rfl
theorem E9(k i:Nat):mj (.part k i)=some k:=rfl
theorem Hy(k i:Nat)(r:List SV):mj (.agg (.part k i::r))=some k:=rfl
theorem afp:nz G W bs h [] []=⟨True,[],[],[]⟩:=rfl
theorem ZL(kd:Kd)(ks:List Kd)(x:SV)(r:List SV):nz G W bs h (kd::ks) (x::r)=gvC (EM G W bs h kd x) (nz G W bs h ks r):=rfl
theorem ZJ(x:SV):EM G W bs h none x=akK (bT h x):=rfl
theorem ZK(sh:Sh)(Φ:FK)(x:SV):EM G W bs h (some (sh,Φ)) x=gvF G W bs h sh Φ x (cN x) (mj x):=rfl
theorem Ve(a:AV)(r:List Nat):akK (some (a,r))=⟨True,a,r,[]⟩:=rfl
theorem amF(sh:Sh)(Φ:FK)(x:SV)(v:Value)(o:Option Nat):gvF G W bs h sh Φ x (some v) o=⟨∃ cs,v=sh.val cs/\Φ.Φ cs W (bJ G bs),.val undef,[],[]⟩:=rfl
theorem amE(sh:Sh)(Φ:FK)(x:SV)(k:Nat):gvF G W bs h sh Φ x none (some k)=gvO G W bs sh Φ x k (h k):=rfl
theorem afq(sh:Sh)(Φ:FK)(x:SV)(k:Nat)(d:List Value)(R:List Value->Value->List Nat->World->Prop):gvO G W bs sh Φ x k (some (.obj d R))=⟨x=sh.tm k/\d=[]/\R=gz G W bs Φ,.val undef,[k],[k]⟩:=rfl
theorem akL(p q:Prop)(a:AV)(as_:List AV)(r rs c cs:List Nat):gvC ⟨p,a,r,c⟩ ⟨q,as_,rs,cs⟩=⟨p/\q,a::as_,r++rs,c++cs⟩:=rfl
theorem ZC(pre:List AV->World->(Nat->Prop)->Prop)(out:List AV->FOut)(p:Prop)(as_:List AV)(rs cs:List Nat):BP G κ W bs pre out ⟨p,as_,rs,cs⟩=wy G κ W bs (p/\pre as_ W (bJ G bs)) rs cs (out as_):=rfl
theorem U7(q:Prop)(rs cs:List Nat)(v:Value):wy G κ W bs q rs cs (.val v)=⟨q,.v v,[],none,[],rs⟩:=rfl
theorem O5(q:Prop)(rs cs:List Nat)(sh:Sh)(Φ:FK):wy G κ W bs q rs cs (.fact sh Φ)=⟨q/\Up G W bs,sh.tm (8*κ),dX cs++[(8*κ,some (.obj [] (gz G W bs Φ)))],none,[],rs⟩:=rfl
theorem U6(q:Prop)(rs cs:List Nat)(c:List PanicEntry)(v:Value):wy G κ W bs q rs cs (.pan c v)=⟨q,.v v,[],some c,[],rs⟩:=rfl
theorem VF(kinds:List Kd)(pre:List AV->List AV->World->(Nat->Prop)->Prop)(out:List AV->List AV->GOut)(rest:List SV):F6 G h κ T W bs kinds pre out (.own k 0::rest)=B9 G h κ k T W bs pre out (nz G W bs h kinds rest) (h k):=rfl
theorem Lh(pre:List AV->List AV->World->(Nat->Prop)->Prop)(out:List AV->List AV->GOut)(g:GVL)(vs:List SV):B9 G h κ k T W bs pre out g (some (.cells T' vs))=B8 G κ k T T' W bs pre out g (aB h vs):=rfl
theorem aaf(pre:List AV->List AV->World->(Nat->Prop)->Prop)(out:List AV->List AV->GOut)(p:Prop)(as_ fs:List AV)(rs cs rs0:List Nat):B8 G κ k T T' W bs pre out ⟨p,as_,rs,cs⟩ (some (fs,rs0))=rZ G κ k T W bs (T' = T/\p/\pre fs as_ W (bJ G bs)) rs0 rs cs (out fs as_):=rfl
theorem VH(q:Prop)(rs rs' cs:List Nat)(v:Value)(fs:List AV):rZ G κ k T W bs q rs rs' cs (.ret v fs)=⟨q/\(k::rs).Nodup/\(∀ j∈rs',j∉k::rs)/\fs.length<=7,.v v,dX rs++(cM (bh (8*κ) fs)++[(k,some (.cells T (aP (8*κ) fs)))]),none,[],k::(rs++rs')⟩:=rfl
theorem Pp(q:Prop)(rs rs' cs:List Nat)(sh:Sh)(Φ:FK)(fs:List AV):rZ G κ k T W bs q rs rs' cs (.fact sh Φ fs)=⟨q/\(k::rs).Nodup/\(∀ j∈rs',j∉k::rs)/\fs.length<=7/\Up G W bs,sh.tm (8*κ+7),dX (rs++cs)++(cM (bh (8*κ) fs)++[(k,some (.cells T (aP (8*κ) fs))),(8*κ+7,some (.obj [] (gz G W bs Φ)))]),none,[],k::(rs++rs')⟩:=rfl
theorem VG(q:Prop)(rs rs' cs:List Nat)(c:List PanicEntry)(v:Value):rZ G κ k T W bs q rs rs' cs (.pan c v)=⟨q/\(k::rs).Nodup/\(∀ j∈rs',j∉k::rs),.v v,[],some c,k::rs,k::(rs++rs')⟩:=rfl
theorem akc(k:Nat):Sh.one.tm k=.part k 0:=rfl
theorem akd(k:Nat):Sh.two.tm k=.agg [.part k 0,.part k 1]:=rfl
end
def an0:=aa @Za <| aa @OK <| aa @UH <| aa @KJ <| aa @OI <| aa @OJ <| aa @UG <| aa @OH <| aa @KI <| aa @OF <| aa @OE <| aa @KH <| aa @O6 <| aa @E9 <| aa @Hy <| aa @afp <| aa @ZL <| aa @ZJ <| aa @ZK <| aa @Ve <| aa @amF <| aa @amE <| aa @afq <| aa @akL <| aa @ZC <| aa @U7 <| aa @O5 <| aa @U6 <| aa @VF <| aa @Lh <| aa @aaf <| aa @VH <| aa @Pp <| aa @VG <| aa @akc <| aa @akd <| aa @cP @fy
theorem Be{P:Program}{W:World}{bs:List Nat}{nt:Nat}{ds:Aux}{Q:mf}{σ:St}{x y:Code}{ι:Type}(I:ι->St)(V:ι->World)(B:ι->List Nat)(ok:ι->Prop)
  (h1:Wp P W bs nt ds x (Th (λW' bs' σ1=>∃ p,ok p/\V p=W' /\ B p=bs' /\ Le W' bs' nt ds σ1 (I p)) Q) σ)
  (h2:∀ p,ok p->Ext W bs (V p) (B p)->Wp P (V p) (B p) nt ds y Q (I p)):Wp P W bs nt ds (.seq x y) Q σ:=λa w hs=>
 wp_seq (wp_mono (h1 a w hs) λe a' w' ⟨W',bs',σ1,he,hq,hs'⟩=>by
  cases e with
  |normal=>
   obtain⟨p,hp,rfl,rfl,hle⟩:=hq
   exact wp_mono (h2 p hp he a' w' (hle a' w' hs')) λe' a'' w'' hh=>yQ he hh
  |_=>exact⟨W',bs',σ1,he,hq,hs'⟩)
structure zD (P:Program)(f:FuncId) where
 T:TypeId
 pre:World->List Nat->List AV->List AV->Prop
 res:World->List AV->List AV->Value
 enters:∀ args w,(callFunc f args).run P w=.ok (.enter f args) w
 ok:∀ (W w:World) (bs:List Nat) (u:Value) (fp:List Nat) (us:List Value) (fs as_:List AV),an W bs w->aY w u fp T fs->fm w us as_->pre W bs fs as_ ->
  Calls P f (u::us).toArray w λe w' => e=.returned (res W fs as_)/\an w [] w'
def CK(k:Nat)(T T' : TypeId)(pre:List AV->List AV->Prop)(res:List AV->List AV->Value)(as_:List AV)(rs' : List Nat):Option (List AV×List Nat)->R
 |some (fs,rs)=>⟨(T' = T/\(k::rs).Nodup)/\pre fs as_,.v (res fs as_),[],none,[],k::(rs++rs')⟩
 |none=>.bad
def CL(h:Hp)(k:Nat)(T:TypeId)(pre:List AV->List AV->Prop)(res:List AV->List AV->Value):Option aZ->Option (List AV×List Nat)->R
 |some (.cells T' vs),some (as_,rs')=>CK k T T' pre res as_ rs' (aB h vs)
 |_,_=>.bad
def Gj(h:Hp)(T:TypeId)(pre:List AV->List AV->Prop)(res:List AV->List AV->Value):List SV->R
 |.own k 0::rest=>CL h k T pre res (h k) (aB h rest)
 |_=>.bad
def zD.spec{P:Program}{f:FuncId}(p:zD P f):Spec P f where
 ev:=λW bs κ h args=>Gj h p.T (p.pre W bs) (p.res W) args
 good:=λW bs κ E F h w K args hs hK hk hx hside=>by
  rw[p.enters];revert hside;unfold Gj;split
  ·rename_i k rest;cases hkk:h k with
   |none=>exact λhf=>hf.elim
   | some e=>
    cases e with
    |row T s n vs=>exact λhf=>hf.elim
    |mp ks vs=>exact λhf=>hf.elim
    |obj d R=>exact λhf=>hf.elim
    | cells T' vs=>
     cases hr:aB h rest with
     |none=>exact λhf=>hf.elim
     | some q=>
      obtain⟨as_,rs'⟩:=q;simp only[CL];cases hv:aB h vs with
      |none=>exact λhf=>hf.elim
      |some q=>
       obtain⟨fs,rs⟩:=q;simp only[CK];rintro⟨⟨rfl,hn⟩,hp⟩;have hent:=hs.ent k _ hkk;obtain⟨b,hu,_,_⟩:=hent;have hden:den E (.own k 0)=E k:=by simp[den,hu,base,dt]
       have ho:=jg hs hkk hv hn;have:=p.ok W w bs (E k) _ (ai E rest) fs as_ hs.keeps ho (eE hs hr) hp;have e:ai E (.own k 0::rest)=E k::ai E rest:=by simp only[ai,hden]
       rw[e];exact yr hs this rfl rfl rfl
  ·exact λhf=>hf.elim
 keys:=λW bs κ h K args hK hx hside=>by
  revert hside;unfold Gj;split
  ·rename_i k rest;cases hkk:h k with
   |none=>exact λhf=>hf.elim
   | some e=>
    cases e with
    |row T s n vs=>exact λhf=>hf.elim
    |mp ks vs=>exact λhf=>hf.elim
    |obj d R=>exact λhf=>hf.elim
    | cells T' vs=>
     cases hr:aB h rest with
     |none=>exact λhf=>hf.elim
     | some q=>
      obtain⟨as_,rs'⟩:=q;simp only[CL];cases hv:aB h vs with
      |none=>exact λhf=>hf.elim
      |some q=>
       obtain⟨fs,rs⟩:=q;simp only[CK];exact λ_=>aQ.plain (λk hk=>by cases hk) rfl
  ·exact λhf=>hf.elim
 loc:=λW bs κ h h' args hside hr=>by
  revert hside hr;unfold Gj;split
  ·rename_i k rest;cases hkk:h k with
   |none=>exact λhf=>hf.elim
   | some e=>
    cases e with
    |row T s n vs=>exact λhf=>hf.elim
    |mp ks vs=>exact λhf=>hf.elim
    |obj d R=>exact λhf=>hf.elim
    | cells T' vs=>
     cases hrr:aB h rest with
     |none=>exact λhf=>hf.elim
     | some q=>
      obtain⟨as_,rs'⟩:=q;simp only[CL];cases hv:aB h vs with
      |none=>exact λhf=>hf.elim
      |some q=>
       obtain⟨fs,rs⟩:=q;simp only[CK];intro _ hr;have e1:h' k=some (.cells T' vs):=by rw[hr k sI,hkk]
       have e2:aB h' rest=some (as_,rs'):=cU hrr λj hj=>hr j (by simp[hj])
       have e3:aB h' vs=some (fs,rs):=cU hv λj hj=>hr j (by simp[hj])
       rw[e1,e2];simp only[CL,e3,CK]
  ·exact λhf=>hf.elim
section
variable (h:Hp)(k:Nat)(T T' : TypeId)(pre:List AV->List AV->Prop)(res:List AV->List AV->Value)
theorem abc{P:Program}{f:FuncId}(p:zD P f)(W:World)(bs:List Nat)(κ:Nat)(h:Hp)(l:List SV):p.spec.ev W bs κ h l=Gj h p.T (p.pre W bs) (p.res W) l:=rfl
theorem Wk(rest:List SV):Gj h T pre res (.own k 0::rest)=CL h k T pre res (h k) (aB h rest):=rfl
theorem L0(vs:List SV)(as_:List AV)(rs' : List Nat):CL h k T pre res (some (.cells T' vs)) (some (as_,rs'))=CK k T T' pre res as_ rs' (aB h vs):=rfl
theorem PU(as_ fs:List AV)(rs' rs:List Nat):CK k T T' pre res as_ rs' (some (fs,rs))=⟨(T' = T/\(k::rs).Nodup)/\pre fs as_,.v (res fs as_),[],none,[],k::(rs++rs')⟩:=rfl
end
section
variable {P:Program}(κ:Nat)(h:Hp)(T:TypeId)
theorem IB(k:Nat)(ik:IntKind)(b:Int):fY P κ h T false true false [.hd k,.v (.int ik b)]=Gx P κ k b (P.underlying T) (h k):=rfl
theorem QX(k:Nat)(b:Int)(e e' : TypeId)(s n:Nat)(vs:List SV):Gx P κ k b (some (.slice e)) (some (.row e' s n vs))=y9 κ k b e' s n vs (ts P e):=rfl
theorem MK(k:Nat)(b:Int)(e s n s' : Nat)(vs:List SV):y9 κ k b e s n vs (some s')=⟨s' = s/\0<=b/\b.toNat<=n,.hd (8*κ),[(k,none),(8*κ,some (.row e s b.toNat (vs.take (b.toNat*s))))],none,[],[k]⟩:=rfl
end
def an2:=aa @IB <| aa @QX @MK
def an1:=aa @abc <| aa @Wk <| aa @L0 @PU
theorem yJ{w:World}{u:Value}{fp:List Nat}{T:TypeId}{fs:List AV}(h:aY w u fp T fs):∃ b us,u=.pointer (some ⟨b,0,none⟩)/\fm w us fs/\∀ j (hj:j<us.length),w.cell? ⟨b,j,none⟩=some us[j]:=by
 obtain⟨b,us,h1,h2,h3,_⟩:=h;exact⟨b,us,h1,h3,λj hj=>cell_of h2 j hj⟩
def A3(w:World)(u:Value)(fp:List Nat)(T:TypeId)(fs:List AV)(xs:List Value):Prop:=
 ∃ b us,u=.pointer (some ⟨b,0,none⟩)/\w.heap[b]?=some (.cells (us++xs).toArray T (0,0))/\fm w us fs/\fp=b::Az us fs/\(b::Az us fs).Nodup
def ajL(w:World)(u:Value)(fp:List Nat)(T:TypeId)(xs:List Value)(e:Ending)(w' : World):BOut->Prop
 |.ret v fs=>e=.returned v/\(∃ fp',A3 w' u fp' T fs xs/\(∀ b∈fp',b∈fp\/w.heap.size<=b)/\∀ b∈fp',b<w'.heap.size)/\an w fp w'
 |.pan c _=>e=.panicked c/\an w fp w'
structure Yt (P:Program)(f:FuncId) where
 T:TypeId
 m:Nat
 pre:World->List Nat->List AV->List AV->Prop
 out:World->List AV->List AV->BOut
 enters:∀ args w,(callFunc f args).run P w=.ok (.enter f args) w
 ok:∀ (W w:World) (bs:List Nat) (u:Value) (fp:List Nat) (us:List Value) (fs as_:List AV) (xs:List Value),an W bs w->A3 w u fp T fs xs->(∀ b∈fp,b<w.heap.size)->(∀ b∈fp,W.heap.size<=b\/b∈bs)->fm w us as_->pre W bs fs as_ ->
  Calls P f (u::us).toArray w λe w' => ajL w u fp T xs e w' (out W fs as_)
def CI(κ k:Nat)(T:TypeId)(ys:List SV)(pre:Prop)(rs rs' : List Nat):BOut->R
 |.ret v fs=>⟨pre/\(k::rs).Nodup/\(∀ j∈rs',j∉k::rs)/\fs.length<=8,.v v,dX rs++(cM (bh (8*κ) fs)++[(k,some (.cells T (aP (8*κ) fs++ys)))]),none,[],k::(rs++rs')⟩
 |.pan c v=>⟨pre/\(k::rs).Nodup/\(∀ j∈rs',j∉k::rs),.v v,[],some c,k::rs,k::(rs++rs')⟩
def CG(κ k:Nat)(T T' : TypeId)(ys:List SV)(pre:List AV->List AV->Prop)(out:List AV->List AV->BOut)(as_:List AV)(rs' : List Nat):Option (List AV×List Nat)->R
 |some (fs,rs)=>CI κ k T ys (T' = T/\pre fs as_) rs rs' (out fs as_)
 |none=>.bad
def CH(h:Hp)(κ k:Nat)(T:TypeId)(m:Nat)(pre:List AV->List AV->Prop)(out:List AV->List AV->BOut):Option aZ->Option (List AV×List Nat)->R
 |some (.cells T' vs),some (as_,rs')=>CG κ k T T' (vs.drop m) pre out as_ rs' (aB h (vs.take m))
 |_,_=>.bad
def Gi(h:Hp)(κ:Nat)(T:TypeId)(m:Nat)(pre:List AV->List AV->Prop)(out:List AV->List AV->BOut):List SV->R
 |.own k 0::rest=>CH h κ k T m pre out (h k) (aB h rest)
 |_=>.bad
section
variable {P:Program}{W:World}{bs:List Nat}{κ:Nat}{E:Nat->Value}{F:Nat->List Nat}{h:Nat->Option aZ}{w:World}{K:Nat->Prop}
theorem H8(hs:aj W bs E F h w){k:Nat}{T:TypeId}{vs ys:List SV}{fs:List AV}{rs:List Nat}(hk:h k=some (.cells T (vs++ys)))(hv:aB h vs=some (fs,rs))(hn:(k::rs).Nodup) :
  A3 w (E k) ((k::rs).flatMap F) T fs (ai E ys):=by
 obtain⟨b,h1,h2,h3⟩:=hs.ent k _ hk;obtain⟨g1,g2⟩:=cy hs hv;have hnd:=pZ hs (ks:=k::rs) hn λj hj=>by
  rcases List.mem_cons.1 hj with rfl|hj
  ·exact⟨_,hk,λ_ _ e=>by cases e⟩
  ·exact iY hv j hj
 have hfp:(k::rs).flatMap F=b::Az (ai E vs) fs:=by
  rw[List.flatMap_cons,h2,g1];rfl
 refine⟨b,ai E vs,h1,by rw[h3,eG],eE hs hv,hfp,by rw[<- hfp];exact hnd⟩
theorem Wj{w' : World}{k:Nat}{T:TypeId}{vs ys:List SV}{fs fs' : List AV}{rs fp' : List Nat}(hs:aj W bs E F h w)(hK:bU K h)(hk:∀ k,k / 8=κ->¬ K k)
  (hkk:h k=some (.cells T (vs++ys))) (hv:aB h vs=some (fs,rs)) (hlen:fs'.length<=8) (hn:(k::rs).Nodup)
  (ho:A3 w' (E k) fp' T fs' (ai E ys)) (h1:∀ b∈fp',b∈(k::rs).flatMap F\/w.heap.size<=b) (h2:∀ b∈fp',b<w'.heap.size) (hkeep:an w ((k::rs).flatMap F) w') :
  ∃ E' F',(∀ j,j / 8≠κ->E' j=E j)/\aj W bs E' F' (ba h (dX rs++(cM (bh (8*κ) fs')++[(k,some (.cells T (aP (8*κ) fs' ++ ys)))]))) w' := by
 obtain⟨b,us,hu,hb,hus,rfl,hnd⟩:=ho;have hl:=ki hus;have hKk:K k:=(hK k _ hkk).1;have hfr:∀ j,8*κ<=j->j<8*κ+8->¬ K j:=λj g1 g2=>hk j oM
 have hkf:k<8*κ\/8*κ+8<=k:=by
  by_cases g1:k<8*κ
  ·exact .inl g1
  ·by_cases g2:8*κ+8<=k
   ·exact .inr g2
   ·exact absurd hKk (hfr k oM oM)
 have hE:∀ j,j / 8≠κ->gN (8*κ) us E j=E j:=λj hj=>ni oM
 have hsome:∀ p∈cM (bh (8*κ) fs')++[(k,some (.cells T (aP (8*κ) fs' ++ ys)))],∃ e,p.2=some e:=λp hp=>by
  rcases List.mem_append.1 hp with hp|hp
  ·obtain⟨e,he,_⟩:=fZ.1 hp;exact⟨e,by rw[he]⟩
  ·simp at hp;exact⟨_,by rw[hp]⟩
 have hNm:∀ j e,ba (λ_=>none) (cM (bh (8*κ) fs')++[(k,some (.cells T (aP (8*κ) fs' ++ ys)))]) j=some e->(j=k/\e=.cells T (aP (8*κ) fs' ++ ys))\/(j≠k/\(j,e)∈bh (8*κ) fs'):=λj e he=>by
  rw[cj]at he;simp only[ba]at he;by_cases hj:j=k
  ·subst hj;rw[ah]at he;cases he;exact .inl ⟨rfl,rfl⟩
  ·rw[al _ _ hj]at he;rcases lz (λ_=>(none:Option aZ)) (k:=j) (u:=cM (bh (8*κ) fs')) with ⟨x,hx,hx'⟩|⟨_,hx'⟩
   ·rw[hx']at he;subst he;obtain⟨e',h3,h4⟩:=fZ.1 hx;simp only[Prod.mk.injEq,true_and,Option.some.injEq]at h3;subst h3;exact .inr ⟨hj,h4⟩
   ·rw[hx']at he;cases he
 have hNk:ba (λ_=>none) (cM (bh (8*κ) fs')++[(k,some (.cells T (aP (8*κ) fs' ++ ys)))]) k=some (.cells T (aP (8*κ) fs' ++ ys)):=by
  rw[cj];simp[ba,ah]
 have hb' : b∉Az us fs' := (List.nodup_cons.1 hnd).1;have hnd' : (Az us fs').Nodup:=(List.nodup_cons.1 hnd).2;refine⟨gN (8*κ) us E,bu (iL (8*κ) us fs' F) k [b],hE,?_⟩
 refine hs.mD hK (k::rs) (ba (λ_=>none) (cM (bh (8*κ) fs')++[(k,some (.cells T (aP (8*κ) fs' ++ ys)))])) (λj hj=>?_) (λj hj=>hE j λe=>hk j e hj) (λj e he=>?_) (λi j e e' hij hi hj c hc=>?_) (λj x hx hj=>?_) (λj=>?_) hkeep
 ·rcases List.mem_cons.1 hj with rfl|hj
  ·exact⟨_,hkk⟩
  ·exact (cy hs hv).2 j hj
 ·rcases hNm j e he with ⟨rfl,rfl⟩|⟨hjk,hm⟩
  ·rw[ah,hE j λe=>hk j e hKk];refine⟨⟨b,hu,rfl,by rw[eG,gw hus,bE (E' := E) ys λi hi=>hE i λe=>hk i e ((hK _ _ hkk).2 i (by simp only[aZ.keys,aU];exact List.mem_append_right _ hi))];exact hb⟩,λc hc=>?_,λc hc=>h2 c (by simp at hc;simp[hc])⟩;simp only[List.mem_singleton]at hc;subst hc
   rcases h1 c sI with g|g
   ·obtain⟨i,hi,hci⟩:=List.mem_flatMap.1 g;exact .inl ⟨i,hi,hci⟩
   ·exact .inr g
  ·rw[al _ _ hjk];obtain⟨g1,g2⟩:=jl (E:=E) (F:=F) hus hm (gN (8*κ) us E);refine⟨g1,λc hc=>?_,λc hc=>h2 c (List.mem_cons_of_mem _ (g2 c hc))⟩;rcases h1 c (List.mem_cons_of_mem _ (g2 c hc)) with g|g
   ·obtain⟨i,hi,hci⟩:=List.mem_flatMap.1 g;exact .inl ⟨i,hi,hci⟩
   ·exact .inr g
 ·rcases hNm i e hi with ⟨rfl,rfl⟩|⟨hik,hmi⟩
  ·rcases hNm j e' hj with ⟨rfl,rfl⟩|⟨hjk,hmj⟩
   ·exact absurd rfl hij
   ·rw[ah]at hc;rw[al _ _ hjk];simp only[List.mem_singleton]at hc;subst hc;exact λhc' => hb' (cK hl hmj c hc')
  ·rw[al _ _ hik]at hc;rcases hNm j e' hj with ⟨rfl,rfl⟩|⟨hjk,hmj⟩
   ·rw[ah];intro hc';simp only[List.mem_singleton]at hc';subst hc';exact hb' (cK hl hmi c hc)
   ·rw[al _ _ hjk];exact jk hnd' hmi hmj hl hij c hc
 ·have hjk:j≠k:=λe=>by rw[e,hNk]at hj;cases hj
  rw[al _ _ hjk];have hKj:=(hK j x hx).1;by_cases g1:j<8*κ
  ·exact kH (.inl g1)
  ·by_cases g2:8*κ+8<=j
   ·exact kH (.inr oM)
   ·exact absurd hKj (hfr j oM oM)
 ·rw[cj,kJ _ _ _ hsome,kI];cases hN:ba (λ_=>none) (cM (bh (8*κ) fs')++[(k,some (.cells T (aP (8*κ) fs' ++ ys)))]) j with
  |some e=>rfl
  |none=>
   have hjk:j≠k:=λe=>by rw[e,hNk]at hN;cases hN
   simp[hjk]
end
def Yt.spec{P:Program}{f:FuncId}(p:Yt P f):Spec P f where
 ev:=λW bs κ h args=>Gi h κ p.T p.m (p.pre W bs) (p.out W) args
 good:=λW bs κ E F h w K args hs hK hk hx hside=>by
  rw[p.enters];revert hside;unfold Gi;split
  ·rename_i k rest;cases hkk:h k with
   |none=>exact λhf=>hf.elim
   | some e=>
    cases e with
    |row T s n vs=>exact λhf=>hf.elim
    |mp ks vs=>exact λhf=>hf.elim
    |obj d R=>exact λhf=>hf.elim
    | cells T' vs=>
     cases hr:aB h rest with
     |none=>exact λhf=>hf.elim
     | some q=>
      obtain⟨as_,rs'⟩:=q;simp only[CH];have hsplit:vs=vs.take p.m++vs.drop p.m:=(List.take_append_drop _ _).symm;cases hv:aB h (vs.take p.m) with
      |none=>exact λhf=>hf.elim
      | some q=>
       obtain⟨fs,rs⟩:=q;simp only[CG];have hent:=hs.ent k _ hkk;obtain⟨b,hu,_,_⟩:=hent;have hden:den E (.own k 0)=E k:=by simp[den,hu,base,dt]
       have call:∀ hn:(k::rs).Nodup,T' = p.T->p.pre W bs fs as_->Calls P f (ai E (.own k 0::rest)).toArray w λe w' => ajL w (E k) ((k::rs).flatMap F) p.T (ai E (vs.drop p.m)) e w' (p.out W fs as_):=λhn hT hp=>by
        subst hT;have ho:=H8 hs (hsplit ▸ hkk) hv hn;have:=p.ok W w bs (E k) _ (ai E rest) fs as_ _ hs.keeps ho (λc hc=>?_) (λc hc=>?_) (eE hs hr) hp
        ·simpa only[ai,hden] using this
        ·obtain⟨j,hj,hcj⟩:=List.mem_flatMap.1 hc;rcases List.mem_cons.1 hj with rfl|hj
         ·exact hs.lt _ _ hkk c hcj
         ·obtain⟨e,he⟩:=(cy hs hv).2 j hj;exact hs.lt j e he c hcj
        ·obtain⟨j,hj,hcj⟩:=List.mem_flatMap.1 hc;rcases List.mem_cons.1 hj with rfl|hj
         ·exact hs.mine _ _ hkk c hcj
         ·obtain⟨e,he⟩:=(cy hs hv).2 j hj;exact hs.mine j e he c hcj
       cases hout:p.out W fs as_ with
       |ret v fs' =>
        simp only[CI];rintro⟨⟨hT,hp⟩,hn,hd,hlen⟩;have hc:=call hn hT hp;rw[hout]at hc;subst hT;refine hc.mono λe w' he=>?_
        obtain⟨rfl,⟨fp',ho,h1,h2⟩,hkeep⟩:=he;obtain⟨E',F',hE',hs'⟩:=Wj hs hK hk (hsplit ▸ hkk) hv hlen hn ho h1 h2 hkeep;exact⟨rfl,E',F',hE',rfl,hs'⟩
       | pan c _=>
        simp only[CI];rintro⟨⟨hT,hp⟩,hn,hd⟩;have hc:=call hn hT hp;rw[hout]at hc;refine hc.mono λe w' he=>?_
        obtain⟨rfl,hkeep⟩:=he;refine⟨rfl,F,?_⟩;refine hs.mD hK (k::rs) (λ_=>none) (λj hj=>?_) (λ_ _=>rfl) (λj e he=>by cases he) (λi j e e' _ he=>by cases he) (λ_ _ _ _=>rfl) (λj=>?_) hkeep
        ·rcases List.mem_cons.1 hj with rfl|hj
         ·exact⟨_,hkk⟩
         ·exact (cy hs hv).2 j hj
        ·simp only[dropKeys]
  ·exact λhf=>hf.elim
 keys:=λW bs κ h K args hK hx hside=>by
  revert hside;unfold Gi;split
  ·rename_i k rest;cases hkk:h k with
   |none=>exact λhf=>hf.elim
   | some e=>
    cases e with
    |row T s n vs=>exact λhf=>hf.elim
    |mp ks vs=>exact λhf=>hf.elim
    |obj d R=>exact λhf=>hf.elim
    | cells T' vs=>
     cases hr:aB h rest with
     |none=>exact λhf=>hf.elim
     | some q=>
      obtain⟨as_,rs'⟩:=q;simp only[CH];have hsplit:vs=vs.take p.m++vs.drop p.m:=(List.take_append_drop _ _).symm;cases hv:aB h (vs.take p.m) with
      |none=>exact λhf=>hf.elim
      | some q=>
       obtain⟨fs,rs⟩:=q;simp only[CG];cases hout:p.out W fs as_ with
       | ret v fs' =>
        simp only[CI];rintro⟨_,hn,hd,hlen⟩;refine⟨λj hj=>(by cases hj),λq hq=>?_⟩;simp only[List.mem_append,List.mem_singleton]at hq;rcases hq with hq|hq|rfl
        ·simp only[dX,List.mem_map]at hq;obtain⟨j,hj,rfl⟩:=hq;exact⟨.inl (xP hK hv j hj),λe he=>by cases he⟩
        ·obtain⟨e,h1,h2⟩:=fZ.1 hq;obtain⟨h3,h4⟩:=A7 hlen h2;refine⟨.inr h3,λe' he' j hj=>?_⟩;rw[h1]at he';simp only[Option.some.injEq]at he';subst he';rw[h4]at hj;cases hj
        ·refine⟨.inl (hK k _ hkk).1,λe' he' j hj=>?_⟩;simp only[Option.some.injEq]at he';subst he';simp only[aZ.keys,aU,List.mem_append]at hj;rcases hj with hj|hj
         ·have:=cw j hj;exact .inr oM
         ·refine .inl ((hK k _ hkk).2 j ?_);simp only[aZ.keys];rw[hsplit,aU];exact List.mem_append_right _ hj
       |pan c _=>
        simp only[CI];rintro _;exact⟨λj hj=>(by cases hj),λq hq=>by cases hq⟩
  ·exact λhf=>hf.elim
 loc:=λW bs κ h h' args hside hr=>by
  revert hside hr;unfold Gi;split
  ·rename_i k rest;cases hkk:h k with
   |none=>exact λhf=>hf.elim
   | some e=>
    cases e with
    |row T s n vs=>exact λhf=>hf.elim
    |mp ks vs=>exact λhf=>hf.elim
    |obj d R=>exact λhf=>hf.elim
    | cells T' vs=>
     cases hrr:aB h rest with
     |none=>exact λhf=>hf.elim
     | some q=>
      obtain⟨as_,rs'⟩:=q;simp only[CH];have hsplit:vs=vs.take p.m++vs.drop p.m:=(List.take_append_drop _ _).symm;cases hv:aB h (vs.take p.m) with
      |none=>exact λhf=>hf.elim
      | some q=>
       obtain⟨fs,rs⟩:=q;simp only[CG];have key:∀ r:R,(∀ j∈r.reads,h' j=h j)->r.reads=k::(rs++rs')->h' k=some (.cells T' vs)/\aB h' rest=some (as_,rs')/\aB h' (vs.take p.m)=some (fs,rs):=λr hr he=>by
        rw[he]at hr;exact⟨by rw[hr k sI,hkk],cU hrr λj hj=>hr j (by simp[hj]),cU hv λj hj=>hr j (by simp[hj])⟩
       intro _ hr;obtain⟨g1,g2,g3⟩:=key _ hr (by cases p.out W fs as_<;>rfl);rw[g1,g2];simp only[CH,g3,CG]
  ·exact λhf=>hf.elim
section
variable (h:Hp)(κ k:Nat)(T T' : TypeId)(m:Nat)(pre:List AV->List AV->Prop)(out:List AV->List AV->BOut)
theorem aba{P:Program}{f:FuncId}(p:Yt P f)(W:World)(bs:List Nat)(κ:Nat)(h:Hp)(l:List SV):p.spec.ev W bs κ h l=Gi h κ p.T p.m (p.pre W bs) (p.out W) l:=rfl
theorem Wh(rest:List SV):Gi h κ T m pre out (.own k 0::rest)=CH h κ k T m pre out (h k) (aB h rest):=rfl
theorem LU(vs:List SV)(as_:List AV)(rs' : List Nat):CH h κ k T m pre out (some (.cells T' vs)) (some (as_,rs'))=CG κ k T T' (vs.drop m) pre out as_ rs' (aB h (vs.take m)):=rfl
theorem PQ(ys:List SV)(as_:List AV)(rs' : List Nat)(fs:List AV)(rs:List Nat):CG κ k T T' ys pre out as_ rs' (some (fs,rs))=CI κ k T ys (T' = T/\pre fs as_) rs rs' (out fs as_):=rfl
theorem Wi(ys:List SV)(q:Prop)(rs rs' : List Nat)(v:Value)(fs:List AV):CI κ k T ys q rs rs' (.ret v fs)=⟨q/\(k::rs).Nodup/\(∀ j∈rs',j∉k::rs)/\fs.length<=8,.v v,dX rs++(cM (bh (8*κ) fs)++[(k,some (.cells T (aP (8*κ) fs++ys)))]),none,[],k::(rs++rs')⟩:=rfl
end
def an3:=aa @aba <| aa @Wh <| aa @LU <| aa @PQ @Wi
def σP(T:TypeId)(fs:List AV)(xs args:List Value):St:=⟨1,eA ((0,.is (.own 0 0))::vM args 1),dS ((0,.cells T (aP 1 fs++xs.map .v))::bh 1 fs)⟩
structure G3 (P:Program)(f:FuncId) where
 T:TypeId
 pre:World->List Nat->List AV->List AV->Prop
 out:World->List AV->List AV->BOut
 enters:∀ args w,(callFunc f args).run P w=.ok (.enter f args) w
 ok:∀ (W w:World) (bs:List Nat) (u:Value) (fp:List Nat) (us:List Value) (fs as_:List AV),an W bs w->aY w u fp T fs->(∀ b∈fp,b<w.heap.size)->(∀ b∈fp,W.heap.size<=b\/b∈bs)->fm w us as_->pre W bs fs as_ ->
  Calls P f (us++[u]).toArray w λe w' => dN w u fp T e w' (out W fs as_)
def oX(h:Hp)(κ:Nat)(T:TypeId)(pre:List AV->List AV->Prop)(out:List AV->List AV->BOut):List SV->R
 |[x,y,.own k 0]=>gU h κ k T pre out (h k) (aB h [x,y])
 |_=>.bad
theorem Hh(h:Hp)(κ k:Nat)(T:TypeId)(pre:List AV->List AV->Prop)(out:List AV->List AV->BOut)(x y:SV):oX h κ T pre out [x,y,.own k 0]=gU h κ k T pre out (h k) (aB h [x,y]):=by
 cases x<;>rfl
def G3.spec{P:Program}{f:FuncId}(p:G3 P f):Spec P f where
 ev:=λW bs κ h args=>oX h κ p.T (p.pre W bs) (p.out W) args
 good:=λW bs κ E F h w K args hs hK hk hx hside=>by
  rw[p.enters];revert hside;unfold oX;split
  ·rename_i x y k;cases hkk:h k with
   |none=>exact λhf=>hf.elim
   | some e=>
    cases e with
    |row T s n vs=>exact λhf=>hf.elim
    |mp ks vs=>exact λhf=>hf.elim
    |obj d R=>exact λhf=>hf.elim
    | cells T' vs=>
     cases hr:aB h [x,y] with
     |none=>exact λhf=>hf.elim
     | some q=>
      obtain⟨as_,rs'⟩:=q;simp only[gU];cases hv:aB h vs with
      |none=>exact λhf=>hf.elim
      | some q=>
       obtain⟨fs,rs⟩:=q;simp only[jA];have hent:=hs.ent k _ hkk;obtain⟨b,hu,_,_⟩:=hent;have hden:den E (.own k 0)=E k:=by simp[den,hu,base,dt]
       have call:∀ hn:(k::rs).Nodup,T' = p.T->p.pre W bs fs as_->Calls P f (ai E [x,y,.own k 0]).toArray w λe w' => dN w (E k) ((k::rs).flatMap F) p.T e w' (p.out W fs as_):=λhn hT hp=>by
        subst hT;have ho:=jg hs hkk hv hn;have:=p.ok W w bs (E k) _ [den E x,den E y] fs as_ hs.keeps ho (λc hc=>?_) (λc hc=>?_) (eE hs hr) hp
        ·simp only[ai,hden];exact this
        ·obtain⟨j,hj,hcj⟩:=List.mem_flatMap.1 hc;rcases List.mem_cons.1 hj with rfl|hj
         ·exact hs.lt _ _ hkk c hcj
         ·obtain⟨e,he⟩:=(cy hs hv).2 j hj;exact hs.lt j e he c hcj
        ·obtain⟨j,hj,hcj⟩:=List.mem_flatMap.1 hc;rcases List.mem_cons.1 hj with rfl|hj
         ·exact hs.mine _ _ hkk c hcj
         ·obtain⟨e,he⟩:=(cy hs hv).2 j hj;exact hs.mine j e he c hcj
       cases hout:p.out W fs as_ with
       |ret v fs' =>
        simp only[iM];rintro⟨⟨hT,hp⟩,hn,hd,hlen⟩;have hc:=call hn hT hp;rw[hout]at hc;subst hT;refine hc.mono λe w' he=>?_
        obtain⟨rfl,⟨fp',ho,h1,h2⟩,hkeep⟩:=he;obtain⟨E',F',hE',hs'⟩:=rJ hs hK hk hkk hv hlen hn ho h1 h2 hkeep;exact⟨rfl,E',F',hE',rfl,hs'⟩
       | pan c _=>
        simp only[iM];rintro⟨⟨hT,hp⟩,hn,hd⟩;have hc:=call hn hT hp;rw[hout]at hc;refine hc.mono λe w' he=>?_
        obtain⟨rfl,hkeep⟩:=he;refine⟨rfl,F,?_⟩;refine hs.mD hK (k::rs) (λ_=>none) (λj hj=>?_) (λ_ _=>rfl) (λj e he=>by cases he) (λi j e e' _ he=>by cases he) (λ_ _ _ _=>rfl) (λj=>?_) hkeep
        ·rcases List.mem_cons.1 hj with rfl|hj
         ·exact⟨_,hkk⟩
         ·exact (cy hs hv).2 j hj
        ·simp only[dropKeys]
  ·exact λhf=>hf.elim
 keys:=λW bs κ h K args hK hx hside=>by
  revert hside;unfold oX;split
  ·rename_i x y k;cases hkk:h k with
   |none=>exact λhf=>hf.elim
   | some e=>
    cases e with
    |row T s n vs=>exact λhf=>hf.elim
    |mp ks vs=>exact λhf=>hf.elim
    |obj d R=>exact λhf=>hf.elim
    | cells T' vs=>
     cases hr:aB h [x,y] with
     |none=>exact λhf=>hf.elim
     | some q=>
      obtain⟨as_,rs'⟩:=q;simp only[gU];cases hv:aB h vs with
      |none=>exact λhf=>hf.elim
      | some q=>
       obtain⟨fs,rs⟩:=q;simp only[jA];cases hout:p.out W fs as_ with
       | ret v fs' =>
        simp only[iM];rintro⟨_,hn,hd,hlen⟩;refine⟨λj hj=>(by cases hj),λq hq=>?_⟩;simp only[List.mem_append,List.mem_singleton]at hq;rcases hq with hq|hq|rfl
        ·simp only[dX,List.mem_map]at hq;obtain⟨j,hj,rfl⟩:=hq;exact⟨.inl (xP hK hv j hj),λe he=>by cases he⟩
        ·obtain⟨e,h1,h2⟩:=fZ.1 hq;obtain⟨h3,h4⟩:=A7 hlen h2;refine⟨.inr h3,λe' he' j hj=>?_⟩;rw[h1]at he';simp only[Option.some.injEq]at he';subst he';rw[h4]at hj;cases hj
        ·refine⟨.inl (hK k _ hkk).1,λe' he' j hj=>.inr ?_⟩;simp only[Option.some.injEq]at he';subst he';have:=cw j hj;omega
       |pan c _=>
        simp only[iM];rintro _;exact⟨λj hj=>(by cases hj),λq hq=>by cases hq⟩
  ·exact λhf=>hf.elim
 loc:=λW bs κ h h' args hside hr=>by
  revert hside hr;unfold oX;split
  ·rename_i x y k;cases hkk:h k with
   |none=>exact λhf=>hf.elim
   | some e=>
    cases e with
    |row T s n vs=>exact λhf=>hf.elim
    |mp ks vs=>exact λhf=>hf.elim
    |obj d R=>exact λhf=>hf.elim
    | cells T' vs=>
     cases hrr:aB h [x,y] with
     |none=>exact λhf=>hf.elim
     | some q=>
      obtain⟨as_,rs'⟩:=q;simp only[gU];cases hv:aB h vs with
      |none=>exact λhf=>hf.elim
      | some q=>
       obtain⟨fs,rs⟩:=q;simp only[jA];have key:∀ r:R,(∀ j∈r.reads,h' j=h j)->r.reads=k::(rs++rs')->h' k=some (.cells T' vs)/\aB h' [x,y]=some (as_,rs')/\aB h' vs=some (fs,rs):=λr hr he=>by
        rw[he]at hr;exact⟨by rw[hr k sI,hkk],cU hrr λj hj=>hr j (by simp[hj]),cU hv λj hj=>hr j (by simp[hj])⟩
       intro _ hr;obtain⟨g1,g2,g3⟩:=key _ hr (by cases p.out W fs as_<;>rfl);rw[g1,g2];simp only[gU,g3,jA]
  ·exact λhf=>hf.elim
theorem Ok{P:Program}{f:FuncId}(p:G3 P f)(W:World)(bs:List Nat)(κ:Nat)(h:Hp)(l:List SV):p.spec.ev W bs κ h l=oX h κ p.T (p.pre W bs) (p.out W) l:=rfl
def an4:=aa @Ok @Hh
def σB3(T:TypeId)(fs:List AV)(x y:Value):St:=⟨1,eA ((2,.is (.own 0 0))::vM [x,y] 0),dS ((0,.cells T (aP 1 fs))::bh 1 fs)⟩
section
variable {P:Program}{W:World}{bs:List Nat}{E:Nat->Value}{F:Nat->List Nat}{h:Hp}{w:World}
theorem K3(m:Nat->Src){H:List (Nat×aZ)}(hs:aj W bs E F h w)(hh:wG m h H)(hn:(ed m H).Nodup):aj W bs (qj E m) (nC F m) (dS H) w:=by
 have at' : ∀ k e,dS H k=some e->nI m h k e:=λk e he=>BY hh _ (eB he)
 have key:∀ k e j,dS H k=some e->m k=.key j->h j=some (iB m e):=λk e j he hj=>by
  have:=at' k e he;simpa only[nI,hj] using this
 refine⟨λk e he=>?_,λk e he b hb=>?_,λk e he b hb=>?_,λk k' e e' hne he he' b hb=>?_,hs.keeps⟩
 ·cases hm:m k with
  |key j=>
   simp only[qj,nC,hm];exact BH (hs.ent j _ (key k e j he hm))
  | nil=>
   have:=at' k e he;simp only[nI,hm]at this;cases e with
   |row T s n vs=>
    obtain⟨h0,rfl,rfl⟩:=this;simp only[qj,nC,hm];exact⟨⟨by simp[ai],.inl ⟨rfl,rfl⟩⟩,rfl⟩
   |cells T vs=>exact this.elim
   |mp ks vs=>exact this.elim
   |obj d R=>exact this.elim
 ·cases hm:m k with
  |key j=>simp only[nC,hm]at hb;exact hs.lt j _ (key k e j he hm) b hb
  |nil=>simp only[nC,hm]at hb;cases hb
 ·cases hm:m k with
  |key j=>simp only[nC,hm]at hb;exact hs.mine j _ (key k e j he hm) b hb
  |nil=>simp only[nC,hm]at hb;cases hb
 ·cases hm:m k with
  |nil=>simp only[nC,hm]at hb;cases hb
  | key i=>
   cases hm' : m k' with
   |nil=>simp only[nC,hm'];simp
   |key j=>
    simp only[nC,hm,hm']at hb ⊢;exact hs.apart i j _ _ (u5 hn _ (eB he) _ (eB he') hne i j hm hm') (key k e i he hm) (key k' e' j he' hm') b hb
mutual
theorem CR{m:Nat->Src}{j:Nat}:∀ x:SV,j∈(ky m x).keys->∃ k∈x.keys,m k=.key j
 |.v x,h=>by simp[ky,SV.keys]at h
 |.own k o,h=>by
  simp only[ky]at h;cases hm:m k with
  |key i=>rw[hm]at h;simp[SV.keys]at h;exact⟨k,by simp[SV.keys],by rw[hm,h]⟩
  |nil=>rw[hm]at h;simp[SV.keys]at h
 |.hd k,h=>by
  simp only[ky]at h;cases hm:m k with
  |key i=>rw[hm]at h;simp[SV.keys]at h;exact⟨k,by simp[SV.keys],by rw[hm,h]⟩
  |nil=>rw[hm]at h;simp[SV.keys]at h
 |.agg l,h=>by
  simp only[ky,SV.keys]at h ⊢;exact ji l h
 |.tup l,h=>by
  simp only[ky,SV.keys]at h ⊢;exact ji l h
 |.nO t x,h=>by
  simp only[ky,SV.keys]at h ⊢;exact CR x h
 |.part k i,h=>by
  simp only[ky]at h;cases hm:m k with
  |key i=>rw[hm]at h;simp[SV.keys]at h;exact⟨k,by simp[SV.keys],by rw[hm,h]⟩
  |nil=>rw[hm]at h;simp[SV.keys]at h
 | .fn f a c,h=>by
  simp only[ky,SV.keys,List.mem_append]at h ⊢;rcases h with h|h
  ·obtain⟨k,hk,hm⟩:=ji a h;exact⟨k,.inl hk,hm⟩
  ·obtain⟨k,hk,hm⟩:=ji c h;exact⟨k,.inr hk,hm⟩
theorem ji{m:Nat->Src}{j:Nat}:∀ l:List SV,j∈az (j5 m l)->∃ k∈az l,m k=.key j
 |[],h=>by simp[j5,az]at h
 | x::r,h=>by
  simp only[j5,az,List.mem_append]at h ⊢;rcases h with h|h
  ·obtain⟨k,hk,hm⟩:=CR x h;exact⟨k,.inl hk,hm⟩
  ·obtain⟨k,hk,hm⟩:=ji r h;exact⟨k,.inr hk,hm⟩
end
theorem WH{m:Nat->Src}{j:Nat}(e:aZ)(h:j∈(iB m e).keys):∃ k∈e.keys,m k=.key j:=by
 cases e with
 |cells T vs=>exact ji vs h
 |row T s n vs=>exact ji vs h
 |mp ks vs=>exact ji vs h
 |obj d R=>cases h
theorem Hu{m:Nat->Src}{u:Value}{fp:List Nat}{e:aZ}(h:bA (qj E m) u fp w e):bA E u fp w (iB m e):=by
 cases e with
 |cells T vs=>simpa [bA,iB,fP] using h
 |row T s n vs=>simpa [bA,iB,fP] using h
 |mp ks vs=>simpa [bA,iB,fP] using h
 |obj d R=>exact h
def xZ(κ:Nat)(m:List Nat)(k:Nat):Nat:=if k<8 then m.getD k 0 else 8*κ+(k-8)
def mp(κ:Nat)(m:List Nat)(k:Nat):Src:=.key (xZ κ m k)
def fresh(k:Nat):Prop:=8<=k/\k<16
def r9(κ:Nat)(m:List Nat)(h:Hp):List (Nat×aZ)->Prop
 |[]=>True
 |(k,e)::r=>h (xZ κ m k)=some (iB (mp κ m) e)/\r9 κ m h r
def jf(κ:Nat)(m:List Nat):List (Nat×aZ)->List Nat
 |[]=>[]
 |(k,_)::r=>xZ κ m k::jf κ m r
def lH(κ:Nat)(m:List Nat):List (Nat×aZ)->List (Nat×Option aZ)
 |[]=>[]
 |(k,e)::r=>(xZ κ m k,some (iB (mp κ m) e))::lH κ m r
def Aa(κ:Nat)(m:List Nat)(h:Hp)(args args' : List SV)(L L' : List (Nat×aZ))(val:SV)(pre:Prop):R:=
 ⟨(args=j5 (mp κ m) args' /\ r9 κ m h L/\(jf κ m L).Nodup)/\pre,ky (mp κ m) val,dX (jf κ m L)++lH κ m L',none,[],jf κ m L⟩
theorem SE{κ:Nat}{m:List Nat}:∀ {L:List (Nat×aZ)},r9 κ m h L->wG (mp κ m) h L
 |[],_=>trivial
 |(k,e)::r,hl=>⟨hl.1,SE hl.2⟩
theorem Li{κ:Nat}{m:List Nat}:∀ {L:List (Nat×aZ)},ed (mp κ m) L=jf κ m L
 |[]=>rfl
 |(k,e)::r=>by
  simp only[ed,jf,mp,List.singleton_append];rw[<- Li (κ:=κ) (m:=m) (L:=r)]
theorem pe{κ:Nat}{m:List Nat}:∀ {L:List (Nat×aZ)} {k:Nat} {e:aZ},r9 κ m h L->(k,e)∈L->h (xZ κ m k)=some (iB (mp κ m) e)
 |(k0,e0)::r,k,e,hl,hm=>by
  rcases List.mem_cons.1 hm with hm|hm
  ·cases hm;exact hl.1
  ·exact pe hl.2 hm
theorem ku{κ:Nat}{m:List Nat}{j:Nat}:∀ {L:List (Nat×aZ)},j∈jf κ m L ↔ ∃ p∈L,xZ κ m p.1=j
 |[]=>by simp[jf]
 | (k,e)::r=>by
  simp only[jf,List.mem_cons,ku (L:=r)];constructor
  ·rintro (rfl|⟨p,hp,rfl⟩)
   ·exact⟨(k,e),.inl rfl,rfl⟩
   ·exact⟨p,.inr hp,rfl⟩
  ·rintro⟨p,rfl|hp,rfl⟩
   ·exact .inl rfl
   ·exact .inr ⟨p,hp,rfl⟩
theorem F7{κ:Nat}{m:List Nat}:∀ {L:List (Nat×aZ)},(jf κ m L).Nodup->∀ p∈L,∀ q∈L,xZ κ m p.1=xZ κ m q.1->p.1=q.1
 | (k,e)::r,hn,p,hp,q,hq,he=>by
  obtain⟨h1,h2⟩:=List.nodup_cons.1 hn;rcases List.mem_cons.1 hp with rfl|hp'
  ·rcases List.mem_cons.1 hq with rfl|hq'
   ·rfl
   ·exact absurd (ku.2 ⟨q,hq',he.symm⟩) h1
  ·rcases List.mem_cons.1 hq with rfl|hq'
   ·exact absurd (ku.2 ⟨p,hp',he⟩) h1
   ·exact F7 h2 p hp' q hq' he
theorem l6{κ:Nat}{m:List Nat}{q:Nat×Option aZ}:∀ {L:List (Nat×aZ)},q∈lH κ m L ↔ ∃ p∈L,q=(xZ κ m p.1,some (iB (mp κ m) p.2))
 |[]=>by simp[lH]
 | (k,e)::r=>by
  simp only[lH,List.mem_cons,l6 (L:=r)];constructor
  ·rintro (rfl|⟨p,hp,rfl⟩)
   ·exact⟨(k,e),.inl rfl,rfl⟩
   ·exact⟨p,.inr hp,rfl⟩
  ·rintro⟨p,rfl|hp,rfl⟩
   ·exact .inl rfl
   ·exact .inr ⟨p,hp,rfl⟩
theorem Sw:∀ {L:List (Nat×aZ)} {k:Nat} {e:aZ},(L.map (·.1)).Nodup->(k,e)∈L->dS L k=some e
 | (k0,e0)::r,k,e,hn,hm=>by
  simp only[List.map_cons,List.nodup_cons]at hn;simp only[dS];rcases List.mem_cons.1 hm with hm|hm
  ·cases hm;rw[ah]
  ·have:k≠k0:=λe' => hn.1 (e' ▸ List.mem_map.2 ⟨_,hm,rfl⟩)
   rw[al _ _ this];exact Sw hn.2 hm
end
structure Bh (P:Program)(f:FuncId) where
 args:List SV
 L:List (Nat×aZ)
 val:SV
 L' : List (Nat×aZ)
 fR:List Nat
 pre:World->List Nat->Prop
 low:∀ p∈L,p.1<8
 kept:∀ k∈fR,∃ e,(k,e)∈L
 vk:∀ k∈val.keys,k∈fR\/fresh k
 lk:∀ p∈L',(p.1∈fR\/fresh p.1)/\∀ k∈p.2.keys,k∈fR\/fresh k
 nd:(L'.map (·.1)).Nodup
 enters:∀ args w,(callFunc f args).run P w=.ok (.enter f args) w
 ok:∀ (W w:World) (bs fp:List Nat) (E:Nat->Value) (F:Nat->List Nat),an W bs w->(∀ b∈fp,W.heap.size<=b\/b∈bs)->aj w fp E F (dS L) w->pre W bs ->
  Calls P f (ai E args).toArray w λe w' => ∃ E' F',e=.returned (den E' val)/\(∀ k∈fR,E' k=E k)/\aj w fp E' F' (dS L') w'
theorem tA{κ k:Nat}{m:List Nat}(h:fresh k):xZ κ m k / 8=κ:=by
 obtain⟨h1,h2⟩:=h;unfold xZ;rw[if_neg oM];omega
def Bh.spec{P:Program}{f:FuncId}(p:Bh P f)(m:List Nat):Spec P f where
 ev:=λW bs κ h args=>Aa κ m h args p.args p.L p.L' p.val (p.pre W bs)
 good:=λW bs κ E F h w K args hs hK hk hx hside=>by
  rw[p.enters];obtain⟨⟨rfl,hl,hn⟩,hp⟩:=hside;have hmK:∀ k∈p.fR,K (xZ κ m k):=λk hk' => by
   obtain⟨e,he⟩:=p.kept k hk';exact (hK _ _ (pe hl he)).1
  have h0:=K3 (mp κ m) hs (SE hl) (by rw[Li];exact hn);have h1:aj w ((jf κ m p.L).flatMap F) (qj E (mp κ m)) (nC F (mp κ m)) (dS p.L) w:=⟨h0.ent,h0.lt,λk e he b hb=>.inr (List.mem_flatMap.2 ⟨xZ κ m k,ku.2 ⟨_,eB he,rfl⟩,hb⟩),h0.apart,an.refl w _⟩
  have mine:∀ b∈(jf κ m p.L).flatMap F,W.heap.size<=b\/b∈bs:=λb hb=>by
   obtain⟨j,hj,hbj⟩:=List.mem_flatMap.1 hb;obtain⟨q,hq,rfl⟩:=ku.1 hj;exact hs.mine _ _ (pe hl hq) b hbj
  have S:∀ k,(k∈p.fR\/fresh k)->∀ k',(k' ∈ p.fR\/fresh k')->xZ κ m k=xZ κ m k' -> k=k' := λk h1 k' h2 he=>by
   rcases h1 with h1|h1
   ·rcases h2 with h2|h2
    ·obtain⟨e,hm⟩:=p.kept k h1;obtain⟨e',hm'⟩:=p.kept k' h2;exact F7 hn _ hm _ hm' he
    ·exact absurd (hmK k h1) (hk _ (by rw[he];exact tA h2))
   ·rcases h2 with h2|h2
    ·exact absurd (hmK k' h2) (hk _ (by rw[<- he];exact tA h1))
    ·obtain⟨a1,a2⟩:=h1;obtain⟨b1,b2⟩:=h2;unfold xZ at he;rw[if_neg oM,if_neg oM]at he;omega
  simp only[Aa,Good,oS];rw[fP];refine (p.ok W w bs _ _ _ hs.keeps mine h1 hp).mono λe w' he=>?_
  obtain⟨E',F',rfl,hE',hs'⟩:=he
  classical
  let bk:Nat->Option Nat:=λj=>if hj:∃ k,(k∈p.fR\/fresh k)/\xZ κ m k=j then some hj.choose else none
  have bk1:∀ k,(k∈p.fR\/fresh k)->bk (xZ κ m k)=some k:=λk hk' => by
   have hex:∃ k',(k' ∈ p.fR\/fresh k')/\xZ κ m k' = xZ κ m k:=⟨k,hk',rfl⟩;have:=hex.choose_spec;simp only[bk,dif_pos hex,Option.some.injEq];exact S _ this.1 _ hk' this.2
  have bk2:∀ j k,bk j=some k->(k∈p.fR\/fresh k)/\xZ κ m k=j:=λj k hj=>by
   simp only[bk]at hj;split at hj
   ·rename_i hex;cases hj;exact hex.choose_spec
   ·cases hj
  let E2:Nat->Value:=λj=>match bk j with|some k=>E' k|none=>E j
  let F2:Nat->List Nat:=λj=>match bk j with|some k=>if k∈p.L'.map (·.1) then F' k else F j|none=>F j
  have e2:∀ k,(k∈p.fR\/fresh k)->E2 (xZ κ m k)=E' k:=λk hk' => by simp only[E2,bk1 k hk']
  have agree:∀ j,j / 8≠κ->E2 j=E j:=λj hj=>by
   simp only[E2];cases hb:bk j with
   |none=>rfl
   |some k=>
    obtain⟨h2,rfl⟩:=bk2 j k hb;rcases h2 with h2|h2
    ·simp only;rw[hE' k h2];rfl
    ·exact absurd (tA h2) hj
  have src2:∀ k,(k∈p.fR\/fresh k)->qj E2 (mp κ m) k=E' k:=λk hk' => e2 k hk'
  refine⟨trivial,E2,F2,agree,?_,?_⟩
  ·rw[nH];exact o9 _ λk hk' => (src2 k (p.vk k hk')).symm
  have hN:∀ j e,ba (λ_=>none) (lH κ m p.L') j=some e->∃ q∈p.L',j=xZ κ m q.1/\e=iB (mp κ m) q.2/\bk j=some q.1/\F2 j=F' q.1/\dS p.L' q.1=some q.2:=λj e he=>by
   rcases lz (λ_=>(none:Option aZ)) (k:=j) (u:=lH κ m p.L') with ⟨x,hx,hx'⟩|⟨_,hx'⟩
   ·rw[hx']at he;subst he;obtain⟨q,hq,hqe⟩:=l6.1 hx;simp only[Prod.mk.injEq,Option.some.injEq]at hqe;obtain⟨rfl,rfl⟩:=hqe;have hb:=bk1 q.1 (p.lk q hq).1;exact⟨q,hq,rfl,rfl,hb,by simp only[F2,hb];rw[if_pos (List.mem_map.2 ⟨q,hq,rfl⟩)],Sw p.nd hq⟩
   ·rw[hx']at he;cases he
  have hN0:∀ j,ba (λ_=>none) (lH κ m p.L') j=none->F2 j=F j:=λj he=>by
   simp only[F2];cases hb:bk j with
   |none=>rfl
   | some k=>
    simp only;split
    ·rename_i hm;obtain⟨q,hq,rfl⟩:=List.mem_map.1 hm;obtain⟨_,rfl⟩:=bk2 j _ hb;rcases lz (λ_=>(none:Option aZ)) (k:=xZ κ m q.1) (u:=lH κ m p.L') with ⟨x,hx,hx'⟩|⟨hx,_⟩
     ·rw[hx']at he;subst he;obtain⟨q',_,hqe⟩:=l6.1 hx;simp at hqe
     ·exact absurd (List.mem_map.2 ⟨_,l6.2 ⟨q,hq,rfl⟩,rfl⟩) hx
    ·rfl
  refine hs.mD hK (jf κ m p.L) (ba (λ_=>none) (lH κ m p.L')) (λj hj=>?_) (λj hj=>agree j λe=>hk j e hj) (λj e he=>?_) (λi j e e' hij hi hj b hb=>?_) (λj x hx hj=>hN0 j hj) (λj=>?_) hs'.keeps
  ·obtain⟨q,hq,rfl⟩:=ku.1 hj;exact⟨_,pe hl hq⟩
  ·obtain⟨q,hq,rfl,rfl,hb,hF,hq'⟩:=hN j e he;rw[hF,e2 q.1 (p.lk q hq).1];refine⟨?_,λb hb=>?_,λb hb=>hs'.lt q.1 _ hq' b hb⟩
   ·refine Hu ?_;exact gV (λk hk' => (src2 k ((p.lk q hq).2 k hk')).symm) (hs'.ent q.1 _ hq')
   ·rcases hs'.mine q.1 _ hq' b hb with g|g
    ·exact .inr g
    ·obtain⟨j,hj,hbj⟩:=List.mem_flatMap.1 g;exact .inl ⟨j,hj,hbj⟩
  ·obtain⟨q,hq,rfl,rfl,_,hF,hq'⟩:=hN i e hi;obtain⟨r,hr,rfl,rfl,_,hF',hr'⟩:=hN j e' hj;rw[hF]at hb;rw[hF'];exact hs'.apart q.1 r.1 _ _ (λe=>hij (by rw[e])) hq' hr' b hb
  ·have hsome:∀ q∈lH κ m p.L',∃ e,q.2=some e:=λq hq=>by
    obtain⟨r,_,rfl⟩:=l6.1 hq;exact⟨_,rfl⟩
   rw[cj,kJ _ _ _ hsome,kI];cases ba (λ_=>none) (lH κ m p.L') j with
   |some e=>rfl
   |none=>rfl
 keys:=λW bs κ h K args hK hx hside=>by
  obtain⟨⟨rfl,hl,hn⟩,hp⟩:=hside;have hmK:∀ k,(k∈p.fR\/fresh k)->K (xZ κ m k)\/xZ κ m k / 8=κ:=λk hk' => by
   rcases hk' with hk'|hk'
   ·obtain⟨e,he⟩:=p.kept k hk';exact .inl (hK _ _ (pe hl he)).1
   ·exact .inr (tA hk')
  refine⟨λj hj=>?_,λq hq=>?_⟩
  ·obtain⟨k,hk,hm⟩:=CR _ hj;cases hm;exact hmK k (p.vk k hk)
  ·rcases List.mem_append.1 hq with hq|hq
   ·simp only[dX,List.mem_map]at hq;obtain⟨j,hj,rfl⟩:=hq;obtain⟨r,hr,rfl⟩:=ku.1 hj;exact⟨.inl (hK _ _ (pe hl hr)).1,λe he=>by cases he⟩
   ·obtain⟨r,hr,rfl⟩:=l6.1 hq;refine⟨hmK _ (p.lk r hr).1,λe he j hj=>?_⟩;simp only[Option.some.injEq]at he;subst he;obtain⟨k,hk,hm⟩:=WH _ hj;cases hm;exact hmK k ((p.lk r hr).2 k hk)
 loc:=λW bs κ h h' args hside hr=>by
  have:∀ L:List (Nat×aZ),(∀ k∈jf κ m L,h' k=h k)->r9 κ m h' L=r9 κ m h L:=λL=>by
   induction L with
   |nil=>exact λ_=>rfl
   |cons q r ih=>
    intro hq;simp only[r9];rw[hq _ (by simp[jf]),ih λk hk=>hq k (by simp[jf,hk])]
  simp only[Aa];rw[this p.L hr]
theorem aas{P:Program}{f:FuncId}(p:Bh P f)(m:List Nat)(W:World)(bs:List Nat)(κ:Nat)(h:Hp)(l:List SV):(p.spec m).ev W bs κ h l=Aa κ m h l p.args p.L p.L' p.val (p.pre W bs):=rfl
def yb:List SV->Nat->List (Nat×FV)
 |[],_=>[]
 |x::r,i=>(i,.is x)::yb r (i+1)
theorem FB(E:Nat->Value):∀ (l:List SV) (i t:Nat) (tm:Nat->Value),(∀ j (h:j<(ai E l).length),tm (i+j)=(ai E l)[j])->fits E (eA (yb l i) t) (tm t)
 |[],_,_,_,_=>trivial
 | x::r,i,t,tm,h=>by
  simp only[yb,eA,bu];split
  ·rename_i ht;subst ht;have:=h 0 (by simp[ai]);simpa [fits,ai] using this
  ·exact FB E r (i+1) t tm λj hj=>by
    have:=h (j+1) (by simp only[ai,List.length_cons];omega);rw[show i+1+j=i+(j+1) by omega];simpa [ai] using this
def R9(fR:List Nat)(val:SV)(L' : List (Nat×aZ))(x:SV)(h:Hp):Prop:=∃ m:Nat->Src,x=ky m val/\wG m h L' /\ (ed m L').Nodup/\∀ k∈fR,m k=.key k
theorem BB{P:Program}{f:FuncId}{fn:Func}{c:Code}{w:World}{fp:List Nat}{E:Nat->Value}{F:Nat->List Nat}{nt:Nat}{fR:List Nat}{args:List SV}{L L' : List (Nat×aZ)}{val:SV}(rs:List ResultVar)
  (hs:aj w fp E F (dS L) w) (hkb:Lb 1 (yb args 0) L) (hkp:∀ k∈fR,k<8)
  (hf:P.funcs[f]?=some fn) (hb:fn.body=some c) (hrs:fn.results.toList=rs) (hnt:args.length+(fn.ntmps-args.length)=nt)
  (h:Wp P w fp nt ⟨[],fR.map λk=>(k,E k)⟩ c (Fin P rs (λ_ _ x h' => R9 fR val L' x h') (λ_ _=>False)) ⟨1,eA (yb args 0),dS L⟩) :
  Calls P f (ai E args).toArray w λe w' => ∃ E' F',e=.returned (den E' val)/\(∀ k∈fR,E' k=E k)/\aj w fp E' F' (dS L') w' := by
 subst hrs;have hsz:(ai E args).toArray.size=args.length:=by simp[aH]
 have hsat:Sat w fp nt ⟨[],fR.map λk=>(k,E k)⟩ ⟨1,eA (yb args 0),dS L⟩ { tmps:=(ai E args).toArray++Array.replicate (fn.ntmps-(ai E args).toArray.size) undef,defers:=[] } w:=by
  refine⟨⟨E,F,λt=>?_,hs,λp hp=>?_⟩,by simp[aH];omega,rfl,λp hp=>?_,λt k hk=>?_,λk e he=>?_⟩
  ·refine FB E args 0 t (λt=>((ai E args).toArray++Array.replicate (fn.ntmps-(ai E args).toArray.size) undef).getD t undef) λj hj=>?_
   rw[Nat.zero_add,Array.getD_eq_getD_getElem?,Array.getElem?_append_left (by simpa using hj)];simp[List.getElem?_eq_getElem hj]
  ·obtain⟨k,_,rfl⟩:=List.mem_map.1 hp;rfl
  ·obtain⟨k,hk,rfl⟩:=List.mem_map.1 hp;have:=hkp k hk;show k / 8<1;omega
  ·rcases pb (L:=yb args 0) t with g|⟨p,hp,_,g⟩
   ·simp only[g]at hk;cases hk
   ·simp only[g]at hk;exact hkb.1 p hp k hk
  ·exact hkb.2 _ (eB he)
 refine (oY hf hb hsat h).mono λe w' he=>?_
 cases e with
 |returned v=>
  obtain⟨W',bs',E1,F1,x,h',hx,⟨m,rfl,hle,hn,hm⟩,rfl,hs1,hp⟩:=he;refine⟨qj E1 m,nC F1 m,by rw[nH],λk hk=>?_,K3 m (hs1.back hx) hle hn⟩;simp only[qj,hm k hk];exact hp (k,E k) (List.mem_map.2 ⟨k,hk,rfl⟩)
 |panicked c=>obtain⟨_,_,_,_,_,_,hf,_⟩:=he;exact hf.elim
 |outgrown=>exact he.elim
end
end Go.LE
namespace Go.Proofs.YtnemkecffmdlnaaGreatDoor
section
open Go.RowKit Go.LE
def iV:=(ae (oQ (aa @if_true.{1} @if_false.{1}) (aa @List.toList_toArray.{0} @Option.isNone_none.{0}) (aa @Option.isNone_some.{0} @Option.isSome_none.{0}) (aa @Option.isSome_some.{0} @and_true) (aa @true_and @and_self) (aa @true_imp_iff @forall_const.{1})) (oQ (aa @forall_const.{0} @List.append_nil.{0}) (aa @List.nil_append.{0} @List.cons_append.{0}) (aa @cond_true.{1} @cond_false.{1}) (aa @List.map_cons.{0,0} @List.map_nil.{0,0}) (aa @Bool.true_and @Bool.and_true) (aa @beq_false @beq_true)) (oQ (aa @imp_self @implies_true.{1}) (aa @implies_true.{0} @Bool.cond_self.{1}) (aa @Option.bind_some.{0,0} @List.getElem?_toArray.{0}) (aa @List.getElem?_cons_zero.{0} @List.getElem?_cons_succ.{0}) (aa @List.length_cons.{0} @List.length_nil.{0}) (aa @List.getD_cons_zero.{0} @List.getD_cons_succ.{0})) (oQ (aa @List.take_succ_cons.{0} @List.take_zero.{0}) (aa @List.drop_succ_cons.{0} @List.drop_zero.{0}) (aa @List.zip_cons_cons.{0,0} @List.zip_nil_right.{0,0}) (aa @Option.getD_some.{0} @List.all_cons.{0}) (aa @List.all_nil.{0} @Bool.cond_true_left) (aa @Bool.cond_false_right @Bool.cond_true_right)) (oQ (aa @Bool.cond_false_left ev1) (aa ev2 ev3) (aa ev4 ev5) (aa ev6 ev7) (aa ev8 ev9) (aa @Option.map_some.{0,0} @List.not_mem_nil.{0})) (oQ (aa @Int.toNat_natCast @Option.toArray_none.{0}) (aa @Option.toArray_some.{0} @List.append_toArray.{0}) (aa @Nat.add_zero @Nat.zero_add) (aa @decide_true @decide_false) (aa @Bool.not_true @Bool.not_false) (aa @List.flatten_cons.{0} @List.flatten_nil.{0})) (oQ (aa @List.isEmpty_nil.{0} @ne_eq.{1}) (aa @not_true_eq_false @not_false_eq_true) (aa @Nat.mul_one @Nat.one_mul) (aa @Nat.zero_mul @Nat.sub_zero) (aa @Gw @Array.getD_eq_getD_getElem?.{0}) (aa @List.size_toArray.{0} @amw)) (ae @aof anZ an0 @Option.map_none.{0,0} an1 an2 an3 an4))
theorem ev{e p:Prop}(he:e)(h:e->p:=by intro he;simp only[iV,Op.operands,Value.cells,σ0,σB,Nat.reduceEqDiff,Nat.reduceAdd,Nat.reduceMul,Nat.reduceLT,Nat.reduceLeDiff,Nat.reduceBEq,av,Int.reduceToNat,Int.reduceLT,Int.reduceLE,Nat.reduceDiv,Nat.reduceMod,Nat.reduceSub,Int.reducePow,Nat.reducePow,σP,σB3,he];exact rfl):p:=h he
section
variable {W:World}{bs:List Nat}{nt:Nat}{ds:Aux}{Q:mf}{σ:St}{e q:Prop}{id:Nat}{ops:Array Oper}{y:Code}{side:Prop}{n:Nat}{φ:Fr}{h:Hp}{pans:List (Option (List PanicEntry))}{lost:List Nat}{fx:List (List Nat×List Nat)}
theorem wR(Γ:Env Tryz.prog)(he:e)(hs:side)(hQ:Wp Tryz.prog W bs nt ds y Q ⟨n,φ,h⟩)(hg:e->rz Γ W bs nt ops ops.toList σ.n σ.φ σ.h=⟨side,n,φ,h,pans,lost,fx⟩:=by intro he;simp only[iV,Op.operands,Value.cells,σ0,σB,Nat.reduceEqDiff,Nat.reduceAdd,Nat.reduceMul,Nat.reduceLT,Nat.reduceLeDiff,Nat.reduceBEq,av,Int.reduceToNat,Int.reduceLT,Int.reduceLE,Nat.reduceDiv,Nat.reduceMod,Nat.reduceSub,Int.reducePow,Nat.reducePow,σP,σB3,he];exact rfl)(hp:pans.all Option.isNone=true:=by rfl):Wp Tryz.prog W bs nt ds (.seq (.region id ops false) y) Q σ:=Wp.aly Γ aN (hg he) hp hs hQ
theorem vR(Γ:Env Tryz.prog)(he:e)(hQ:Wp Tryz.prog W bs nt ds y Q ⟨n,φ,h⟩)(hg:e->rz Γ W bs nt ops ops.toList σ.n σ.φ σ.h=⟨side,n,φ,h,pans,lost,fx⟩:=by intro he;simp only[iV,Op.operands,Value.cells,σ0,σB,Nat.reduceEqDiff,Nat.reduceAdd,Nat.reduceMul,Nat.reduceLT,Nat.reduceLeDiff,Nat.reduceBEq,av,Int.reduceToNat,Int.reduceLT,Int.reduceLE,Nat.reduceDiv,Nat.reduceMod,Nat.reduceSub,Int.reducePow,Nat.reducePow,σP,σB3,he];exact rfl)(hp:pans.all Option.isNone=true:=by rfl)(hs:side:=by first|trivial|omega|exact⟨_,rfl⟩|(simp;done)|(unfold maxLen;omega)|(simp<;>omega)|(simp<;>unfold maxLen<;>omega)):Wp Tryz.prog W bs nt ds (.seq (.region id ops false) y) Q σ:=Wp.aly Γ aN (hg he) hp hs hQ
theorem wr(Γ:Env Tryz.prog)(he:e)(hs:side)(hQ:q)(hg:e->rz Γ W bs nt ops ops.toList σ.n σ.φ σ.h=⟨side,n,φ,h,pans,lost,fx⟩:=by intro he;simp only[iV,Op.operands,Value.cells,σ0,σB,Nat.reduceEqDiff,Nat.reduceAdd,Nat.reduceMul,Nat.reduceLT,Nat.reduceLeDiff,Nat.reduceBEq,av,Int.reduceToNat,Int.reduceLT,Int.reduceLE,Nat.reduceDiv,Nat.reduceMod,Nat.reduceSub,Int.reducePow,Nat.reducePow,σP,σB3,he];exact rfl)(hp:pans.all Option.isNone=true:=by rfl)(t:q->Q .normal W bs ⟨n,φ,h⟩:=by intro hq;(with_reducible repeat (first|refine gQ ?_|refine gP ?_|refine lO ?_|refine lM ?_|refine fH (by decide) ?_|refine pT ?_|refine pS ?_|refine jy ?_|refine jv ?_));exact hq):Wp Tryz.prog W bs nt ds (.region id ops false) Q σ:=Wp.dY Γ aN (hg he) hp hs (t hQ)
theorem vr(Γ:Env Tryz.prog)(he:e)(hQ:q)(hg:e->rz Γ W bs nt ops ops.toList σ.n σ.φ σ.h=⟨side,n,φ,h,pans,lost,fx⟩:=by intro he;simp only[iV,Op.operands,Value.cells,σ0,σB,Nat.reduceEqDiff,Nat.reduceAdd,Nat.reduceMul,Nat.reduceLT,Nat.reduceLeDiff,Nat.reduceBEq,av,Int.reduceToNat,Int.reduceLT,Int.reduceLE,Nat.reduceDiv,Nat.reduceMod,Nat.reduceSub,Int.reducePow,Nat.reducePow,σP,σB3,he];exact rfl)(hp:pans.all Option.isNone=true:=by rfl)(hs:side:=by first|trivial|omega|exact⟨_,rfl⟩|(simp;done)|(unfold maxLen;omega)|(simp<;>omega)|(simp<;>unfold maxLen<;>omega))(t:q->Q .normal W bs ⟨n,φ,h⟩:=by intro hq;(with_reducible repeat (first|refine gQ ?_|refine gP ?_|refine lO ?_|refine lM ?_|refine fH (by decide) ?_|refine pT ?_|refine pS ?_|refine jy ?_|refine jv ?_));exact hq):Wp Tryz.prog W bs nt ds (.region id ops false) Q σ:=Wp.dY Γ aN (hg he) hp hs (t hQ)
theorem kT(Γ:Env Tryz.prog)(he:e)(hs:side)(hQ:Wp Tryz.prog W bs nt ds y Q ⟨n,φ,h⟩)(hg:e->rz Γ W bs nt ops ops.toList σ.n σ.φ σ.h=⟨side,n,φ,h,pans,lost,fx⟩:=by intro he;simp only[iV,Op.operands,Value.cells,σ0,σB,Nat.reduceEqDiff,Nat.reduceAdd,Nat.reduceMul,Nat.reduceLT,Nat.reduceLeDiff,Nat.reduceBEq,av,Int.reduceToNat,Int.reduceLT,Int.reduceLE,Nat.reduceDiv,Nat.reduceMod,Nat.reduceSub,Int.reducePow,Nat.reducePow,σP,σB3,he];exact rfl)(hp:pans.all Option.isNone=true:=by rfl)(hd:(lu ops&&lJ ops fx)=true:=by kernel_rfl):Wp Tryz.prog W bs nt ds (.seq (.region id ops true) y) Q σ:=Wp.ajR Γ aN (hg he) hp hd hs hQ
theorem zv(Γ:Env Tryz.prog)(he:e)(hQ:Wp Tryz.prog W bs nt ds y Q ⟨n,φ,h⟩)(hg:e->rz Γ W bs nt ops ops.toList σ.n σ.φ σ.h=⟨side,n,φ,h,pans,lost,fx⟩:=by intro he;simp only[iV,Op.operands,Value.cells,σ0,σB,Nat.reduceEqDiff,Nat.reduceAdd,Nat.reduceMul,Nat.reduceLT,Nat.reduceLeDiff,Nat.reduceBEq,av,Int.reduceToNat,Int.reduceLT,Int.reduceLE,Nat.reduceDiv,Nat.reduceMod,Nat.reduceSub,Int.reducePow,Nat.reducePow,σP,σB3,he];exact rfl)(hp:pans.all Option.isNone=true:=by rfl)(hd:(lu ops&&lJ ops fx)=true:=by kernel_rfl)(hs:side:=by first|trivial|omega|exact⟨_,rfl⟩|(simp;done)|(unfold maxLen;omega)|(simp<;>omega)|(simp<;>unfold maxLen<;>omega)):Wp Tryz.prog W bs nt ds (.seq (.region id ops true) y) Q σ:=Wp.ajR Γ aN (hg he) hp hd hs hQ
theorem J3(Γ:Env Tryz.prog)(he:e)(hs:side)(hQ:q)(hg:e->rz Γ W bs nt ops ops.toList σ.n σ.φ σ.h=⟨side,n,φ,h,pans,lost,fx⟩:=by intro he;simp only[iV,Op.operands,Value.cells,σ0,σB,Nat.reduceEqDiff,Nat.reduceAdd,Nat.reduceMul,Nat.reduceLT,Nat.reduceLeDiff,Nat.reduceBEq,av,Int.reduceToNat,Int.reduceLT,Int.reduceLE,Nat.reduceDiv,Nat.reduceMod,Nat.reduceSub,Int.reducePow,Nat.reducePow,σP,σB3,he];exact rfl)(hp:pans.all Option.isNone=true:=by rfl)(hd:(lu ops&&lJ ops fx)=true:=by kernel_rfl)(t:q->Q .normal W bs ⟨n,φ,h⟩:=by intro hq;(with_reducible repeat (first|refine gQ ?_|refine gP ?_|refine lO ?_|refine lM ?_|refine fH (by decide) ?_|refine pT ?_|refine pS ?_|refine jy ?_|refine jv ?_));exact hq):Wp Tryz.prog W bs nt ds (.region id ops true) Q σ:=Wp.agf Γ aN (hg he) hp hd hs (t hQ)
theorem vrD(Γ:Env Tryz.prog)(he:e)(hQ:q)(hg:e->rz Γ W bs nt ops ops.toList σ.n σ.φ σ.h=⟨side,n,φ,h,pans,lost,fx⟩:=by intro he;simp only[iV,Op.operands,Value.cells,σ0,σB,Nat.reduceEqDiff,Nat.reduceAdd,Nat.reduceMul,Nat.reduceLT,Nat.reduceLeDiff,Nat.reduceBEq,av,Int.reduceToNat,Int.reduceLT,Int.reduceLE,Nat.reduceDiv,Nat.reduceMod,Nat.reduceSub,Int.reducePow,Nat.reducePow,σP,σB3,he];exact rfl)(hp:pans.all Option.isNone=true:=by rfl)(hd:(lu ops&&lJ ops fx)=true:=by kernel_rfl)(hs:side:=by first|trivial|omega|exact⟨_,rfl⟩|(simp;done)|(unfold maxLen;omega)|(simp<;>omega)|(simp<;>unfold maxLen<;>omega))(t:q->Q .normal W bs ⟨n,φ,h⟩:=by intro hq;(with_reducible repeat (first|refine gQ ?_|refine gP ?_|refine lO ?_|refine lM ?_|refine fH (by decide) ?_|refine pT ?_|refine pS ?_|refine jy ?_|refine jv ?_));exact hq):Wp Tryz.prog W bs nt ds (.region id ops true) Q σ:=Wp.agf Γ aN (hg he) hp hd hs (t hQ)
theorem wK(hQ:q)(t:q->Q .normal W bs σ:=by intro hq;(with_reducible repeat (first|refine gQ ?_|refine gP ?_|refine lO ?_|refine lM ?_|refine fH (by decide) ?_|refine pT ?_|refine pS ?_|refine jy ?_|refine jv ?_));exact hq):Wp Tryz.prog W bs nt ds .skip Q σ:=Wp.skip (t hQ)
theorem wE{i:Nat}(hQ:q)(t:q->Q (.exit i) W bs σ:=by intro hq;(with_reducible repeat (first|refine gQ ?_|refine gP ?_|refine lO ?_|refine lM ?_|refine fH (by decide) ?_|refine pT ?_|refine pS ?_|refine jy ?_|refine jv ?_));exact hq):Wp Tryz.prog W bs nt ds (.exit i) Q σ:=Wp.exit (t hQ)
theorem wT(hQ:q)(t:q->Q .ret W bs σ:=by intro hq;(with_reducible repeat (first|refine gQ ?_|refine gP ?_|refine lO ?_|refine lM ?_|refine fH (by decide) ?_|refine pT ?_|refine pS ?_|refine jy ?_|refine jv ?_));exact hq):Wp Tryz.prog W bs nt ds .ret Q σ:=Wp.ret (t hQ)
theorem wZ(he:e)(hQ:q)(t:e->q->Q .ret W bs σ:=by intro he;intro hq;(with_reducible repeat (first|refine gQ ?_|refine gP ?_|refine lO ?_|refine lM ?_|refine fH (by decide) ?_|refine pT ?_|refine pS ?_|refine jy ?_|refine jv ?_));simp only[iV,Op.operands,Value.cells,σ0,σB,Nat.reduceEqDiff,Nat.reduceAdd,Nat.reduceMul,Nat.reduceLT,Nat.reduceLeDiff,Nat.reduceBEq,av,Int.reduceToNat,Int.reduceLT,Int.reduceLE,Nat.reduceDiv,Nat.reduceMod,Nat.reduceSub,Int.reducePow,Nat.reducePow,σP,σB3,nE,gr,kU,iQ,he];exact hq):Wp Tryz.prog W bs nt ds .ret Q σ:=Wp.ret (t he hQ)
end
theorem wC{W:World}{bs:List Nat}{nt:Nat}{ds:Aux}{Q:mf}{σ:St}{e:Prop}{c:Operand}{x y:Code}{b:Bool}{p:Prop}(he:e)(ht:b=true->Wp Tryz.prog W bs nt ds x Q σ)(hf:b=false->Wp Tryz.prog W bs nt ds y Q σ)(hc:e->pQ σ.φ true c=(p,.v (.bool b)):=by intro he;simp only[iV,Op.operands,Value.cells,σ0,σB,Nat.reduceEqDiff,Nat.reduceAdd,Nat.reduceMul,Nat.reduceLT,Nat.reduceLeDiff,Nat.reduceBEq,av,Int.reduceToNat,Int.reduceLT,Int.reduceLE,Nat.reduceDiv,Nat.reduceMod,Nat.reduceSub,Int.reducePow,Nat.reducePow,σP,σB3,he];exact rfl)(hp:p:=by trivial):Wp Tryz.prog W bs nt ds (.cond c x y) Q σ:=Wp.cond (hc he) hp ht hf
theorem wM{W:World}{bs:List Nat}{nt:Nat}{ds:Aux}{σ:St}{e:Prop}(m:Nat->Go.LE.Src)(he:e){n' : Nat}{L:List (Nat×FV)}{H:List (Nat×aZ)}(hk:Lb n' L H:=by exact⟨by simp[FV.keys,SV.keys,az],by simp[aZ.keys,az,SV.keys,aR,aU]⟩)(hf:e->HA m σ.φ L:=by intro he;simp only[iV,Op.operands,Value.cells,σ0,σB,Nat.reduceEqDiff,Nat.reduceAdd,Nat.reduceMul,Nat.reduceLT,Nat.reduceLeDiff,Nat.reduceBEq,av,Int.reduceToNat,Int.reduceLT,Int.reduceLE,Nat.reduceDiv,Nat.reduceMod,Nat.reduceSub,Int.reducePow,Nat.reducePow,σP,σB3,HA,HC,ky,Ac,he]<;>trivial)(hh:e->wG m σ.h H:=by intro he;simp only[iV,Op.operands,Value.cells,σ0,σB,Nat.reduceEqDiff,Nat.reduceAdd,Nat.reduceMul,Nat.reduceLT,Nat.reduceLeDiff,Nat.reduceBEq,av,Int.reduceToNat,Int.reduceLT,Int.reduceLE,Nat.reduceDiv,Nat.reduceMod,Nat.reduceSub,Int.reducePow,Nat.reducePow,σP,σB3,wG,nI,iB,gF,j5,ky,he]<;>trivial)(hn:(ed m H).Nodup:=by simp[ed])(hpn:∀ p∈ds.pins,m p.1=.key p.1/\p.1 / 8<n' := by simp):Le W bs nt ds σ ⟨n',eA L,dS H⟩:=Le.mk m hk (hf he) (hh he) hn hpn
theorem wN{e:Prop}{fR:List Nat}{val x:SV}{L' : List (Nat×aZ)}{h:Hp}(m:Nat->Go.LE.Src)(he:e)(hv:e->x=ky m val:=by intro he;first|rfl|simp only[iV,Op.operands,Value.cells,σ0,σB,Nat.reduceEqDiff,Nat.reduceAdd,Nat.reduceMul,Nat.reduceLT,Nat.reduceLeDiff,Nat.reduceBEq,av,Int.reduceToNat,Int.reduceLT,Int.reduceLE,Nat.reduceDiv,Nat.reduceMod,Nat.reduceSub,Int.reducePow,Nat.reducePow,σP,σB3,ky,j5,he])(hh:e->wG m h L' := by intro he;simp only[iV,Op.operands,Value.cells,σ0,σB,Nat.reduceEqDiff,Nat.reduceAdd,Nat.reduceMul,Nat.reduceLT,Nat.reduceLeDiff,Nat.reduceBEq,av,Int.reduceToNat,Int.reduceLT,Int.reduceLE,Nat.reduceDiv,Nat.reduceMod,Nat.reduceSub,Int.reducePow,Nat.reducePow,σP,σB3,wG,nI,iB,gF,j5,ky,he]<;>trivial)(hn:(ed m L').Nodup:=by simp[ed])(hk:∀ k∈fR,m k=.key k:=by simp):R9 fR val L' x h:=⟨m,hv he,hh he,hn,hk⟩
theorem wS{e p q:Prop}(he:e)(h:q)(t:e->q->p:=by intro he hq;simp only[iV,Op.operands,Value.cells,σ0,σB,Nat.reduceEqDiff,Nat.reduceAdd,Nat.reduceMul,Nat.reduceLT,Nat.reduceLeDiff,Nat.reduceBEq,av,Int.reduceToNat,Int.reduceLT,Int.reduceLE,Nat.reduceDiv,Nat.reduceMod,Nat.reduceSub,Int.reducePow,Nat.reducePow,σP,σB3,nE,gr,kU,iQ,he];exact hq):p:=t he h
theorem qq{p q:Prop}(h:q)(t:q->p:=by intro hq;(with_reducible repeat (first|refine gQ ?_|refine gP ?_|refine lO ?_|refine lM ?_|refine fH (by decide) ?_|refine pT ?_|refine pS ?_|refine jy ?_|refine jv ?_));exact hq):p:=t h
theorem oo{p:Prop}(h:p:=by first|trivial|omega|exact⟨_,rfl⟩|(simp;done)|(unfold maxLen;omega)|(simp<;>omega)|(simp<;>unfold maxLen<;>omega)):p:=h
theorem wW{x y:Int}(h0:-9223372036854775808<=x:=by omega)(h1:x<=9223372036854775807:=by omega)(h:x=y:=by omega):IntKind.i64.wrap x=y:=(ax h0 h1).trans h
end
end Go.Proofs.YtnemkecffmdlnaaGreatDoor
namespace Go.Proofs
section
open Go.Shelf
def Tryz.Lc:Go.Shelf.Ren:=⟨λ| 171=>39|243=>76|246=>131|283=>183|284=>184|285=>185|286=>186|129=>227|317=>226|318=>228|319=>229|320=>230|337=>254|338=>255|n=>n,λ| 3=>3|9=>9|2=>2|4=>4|171=>313|0=>0|53=>203|37=>89|5=>5|173=>316|212=>334|51=>335|20=>20|213=>336|46=>158|232=>363|233=>364|n=>n,λ| 17=>3|18=>7|19=>8|n=>n⟩
theorem Tryz.afF:Go.Proofs.LaysM.n171 Tryz.prog Tryz.Lc:={
 mixed:=by kernel_rfl
 f129:=Tryz.func227.trans (congrArg some (by kernel_rfl))
 f171:=Tryz.func39.trans (congrArg some (by kernel_rfl))
 f243:=Tryz.func76.trans (congrArg some (by kernel_rfl))
 f246:=Tryz.func131.trans (congrArg some (by kernel_rfl))
 f283:=Tryz.func183.trans (congrArg some (by kernel_rfl))
 f284:=Tryz.func184.trans (congrArg some (by kernel_rfl))
 f285:=Tryz.func185.trans (congrArg some (by kernel_rfl))
 f286:=Tryz.func186.trans (congrArg some (by kernel_rfl))
 f317:=Tryz.func226.trans (congrArg some (by kernel_rfl))
 f318:=Tryz.func228.trans (congrArg some (by kernel_rfl))
 f319:=Tryz.func229.trans (congrArg some (by kernel_rfl))
 f320:=Tryz.func230.trans (congrArg some (by kernel_rfl))
 f337:=Tryz.func254.trans (congrArg some (by kernel_rfl))
 f338:=Tryz.func255.trans (congrArg some (by kernel_rfl))
 t0:=Tryz.underlying0
 a0:=Tryz.isAgg0
 z0:=Tryz.sizeOf0
 v0:=Tryz.zeroValue0
 t2:=Tryz.underlying2
 a2:=Tryz.isAgg2
 z2:=Tryz.sizeOf2
 v2:=Tryz.zeroValue2
 t3:=Tryz.underlying3
 a3:=Tryz.isAgg3
 z3:=Tryz.sizeOf3
 v3:=Tryz.zeroValue3
 t4:=Tryz.underlying4
 a4:=Tryz.isAgg4
 z4:=Tryz.sizeOf4
 v4:=Tryz.zeroValue4
 t5:=Tryz.underlying5
 a5:=Tryz.isAgg5
 z5:=Tryz.sizeOf5
 v5:=Tryz.zeroValue5
 t9:=Tryz.underlying9
 a9:=Tryz.isAgg9
 z9:=Tryz.sizeOf9
 v9:=Tryz.zeroValue9
 t20:=Tryz.underlying20
 a20:=Tryz.isAgg20
 z20:=Tryz.sizeOf20
 v20:=Tryz.zeroValue20
 t37:=Tryz.underlying89
 a37:=Tryz.isAgg89
 z37:=Tryz.sizeOf89
 v37:=Tryz.zeroValue89
 t46:=Tryz.underlying158
 a46:=Tryz.isAgg158
 z46:=Tryz.sizeOf158
 v46:=Tryz.zeroValue158
 t51:=Tryz.underlying335
 a51:=Tryz.isAgg335
 z51:=Tryz.sizeOf335
 v51:=Tryz.zeroValue335
 t53:=Tryz.underlying203
 a53:=Tryz.isAgg203
 z53:=Tryz.sizeOf203
 v53:=Tryz.zeroValue203
 t171:=Tryz.underlying313
 a171:=Tryz.isAgg313
 z171:=Tryz.sizeOf313
 v171:=Tryz.zeroValue313
 t173:=Tryz.underlying316
 a173:=Tryz.isAgg316
 z173:=Tryz.sizeOf316
 v173:=Tryz.zeroValue316
 t212:=Tryz.underlying334
 a212:=Tryz.isAgg334
 z212:=Tryz.sizeOf334
 v212:=Tryz.zeroValue334
 t213:=Tryz.underlying336
 a213:=Tryz.isAgg336
 z213:=Tryz.sizeOf336
 t232:=Tryz.underlying363
 a232:=Tryz.isAgg363
 z232:=Tryz.sizeOf363
 v232:=Tryz.zeroValue363
 t233:=Tryz.underlying364
 a233:=Tryz.isAgg364
 z233:=Tryz.sizeOf364
 v233:=Tryz.zeroValue364
 g17:=by kernel_rfl
 g18:=by kernel_rfl
 g19:=by kernel_rfl
 i0:=by kernel_rfl
 i2:=by kernel_rfl
 i3:=by kernel_rfl
 i4:=by kernel_rfl
 i5:=by kernel_rfl
 i9:=by kernel_rfl
 i20:=by kernel_rfl
 i37:=by kernel_rfl
 i46:=by kernel_rfl
 i51:=by kernel_rfl
 i53:=by kernel_rfl
 i171:=by kernel_rfl
 i173:=by kernel_rfl
 i212:=by kernel_rfl
 i232:=by kernel_rfl
 i233:=by kernel_rfl
 m17:=by kernel_rfl
 m18:=by kernel_rfl
 m19:=by kernel_rfl }
end
end Go.Proofs
namespace Go.Proofs.YtnemkecffmdlnaaGreatDoor
section
inductive Rx where
 |eps
 |cls (S:BitVec 256)
 |cat (a b:Rx)
 |alt (a b:Rx)
 |star (a:Rx)
 |and (a b:Rx)
 |minus (a b:Rx)
abbrev RL:=Nat×Rx
def cE(n:Nat):Nat:=min n 2001
def bg(mk:Rx->Rx->Rx)(a b:RL):RL:=(cE (1+a.1+b.1),mk a.2 b.2)
def b9(t:Rx):RL:=(1,t)
def gI(a:RL):RL:=(cE (1+a.1),.star a.2)
def bV(a:RL):RL:=bg .alt a (b9 .eps)
def bL(f:RL->RL):Nat->RL->RL
 |0,x=>x
 |n+1,x=>bL f n (f x)
def dz(a:RL)(m n:Int):RL:=
 if m=0/\n<0 then gI a
 else if m=0/\n=0 then b9 .eps
 else if n<0 then bg .cat (bL (λx=>bg .cat x a) (m-1).toNat (if m=0 then bV a else a)) (gI a)
 else bL (λx=>bg .cat x (bV a)) (n-max m 1).toNat (bL (λx=>bg .cat x a) (m-1).toNat (if m=0 then bV a else a))
section
variable (c:Int->Int)(N:Int)(rd:Int->Except (Int×Int) (BitVec 256×Int))
def sf:Nat->Int->Int->Int×Int
 |0,n,i=>(n,i)
 |k+1,n,i=>if i<N/\48<=c i/\c i<=57 then sf k (10*n+(c i-48)) (i+1) else (n,i)
def py(i:Int):Except (Int×Int) (Int×Int):=
 if (sf c N 3 0 i).2=i then .error (20,i) else .ok (sf c N 3 0 i)
def RV(m j:Int):Except (Int×Int) (Int×Int):=
 if j<N/\c j=44 then (if ¬ j+1<N\/c (j+1)≠125 then py c N (j+1) else .ok (-1,j+1)) else .ok (m,j)
def zL(m n j i:Int):Except (Int×Int) (Int×Int×Int):=
 if ¬ j<N\/c j≠125 then .error (20,j)
 else if 255<m\/255<n\/(0<=n/\n<m) then .error (22,i)
 else .ok (m,n,j+1)
def xY(i:Int):Except (Int×Int) (Int×Int×Int):=
 match py c N (i+1) with
 |.error e=>.error e
 |.ok (m,j)=>match RV c N m j with
  |.error e=>.error e
  |.ok (n,j)=>zL c N m n j i
def kz:Nat->RL->Int->Except (Int×Int) (RL×Int)
 |0,r,i=>.ok (r,i)
 | f+1,r,i=>
  if ¬ i<N then .ok (r,i)
  else if c i=42 then kz f (gI r) (i+1)
  else if c i=43 then kz f (bg .cat r (gI r)) (i+1)
  else if c i=63 then kz f (bV r) (i+1)
  else if c i=123 then
   match xY c N i with
   |.error e=>.error e
   |.ok (m,n,j)=>kz f (dz r m n) j
  else .ok (r,i)
def yL(o:Option RL):RL:=o.getD (b9 .eps)
def BD(o:Option RL)(p:RL):RL:=match o with
 |none=>p
 |some x=>bg .cat x p
def ia(x:Int):Prop:=x=124\/x=38\/x=45\/x=41
def bN(x:Int):Prop:=x=42\/x=43\/x=63\/x=123
instance (x:Int):Decidable (ia x):=by unfold ia;infer_instance
instance (x:Int):Decidable (bN x):=by unfold bN;infer_instance
def fU(atom:Int->Except (Int×Int) (RL×Int)):Nat->Option RL->Int->Except (Int×Int) (RL×Int)
 |0,o,i=>.ok (yL o,i)
 | f+1,o,i=>
  if ¬ i<N then .ok (yL o,i)
  else if ia (c i) then .ok (yL o,i)
  else if bN (c i) then .error (20,i)
  else match atom i with
   |.error e=>.error e
   |.ok (a,j)=>match kz c N (N.toNat+1) a j with
    |.error e=>.error e
    |.ok (p,k)=>fU atom f (some (BD o p)) k
def mw(row:Int->Except (Int×Int) (RL×Int)):Nat->RL->Int->Except (Int×Int) (RL×Int)
 |0,o,i=>.ok (o,i)
 | f+1,o,i=>
  if ¬ i<N then .ok (o,i)
  else if c i=38 then match row (i+1) with
   |.error e=>.error e
   |.ok (r,j)=>mw row f (bg .and o r) j
  else if c i=45 then match row (i+1) with
   |.error e=>.error e
   |.ok (r,j)=>mw row f (bg .minus o r) j
  else .ok (o,i)
def mv(row:Int->Except (Int×Int) (RL×Int))(i:Int):Except (Int×Int) (RL×Int):=
 match row i with
 |.error e=>.error e
 |.ok (r,j)=>mw c N row (N.toNat+1) r j
def Bp(meet:Int->Except (Int×Int) (RL×Int)):Nat->RL->Int->Except (Int×Int) (RL×Int)
 |0,o,i=>.ok (o,i)
 | f+1,o,i=>
  if i<N/\c i=124 then match meet (i+1) with
   |.error e=>.error e
   |.ok (r,j)=>Bp meet f (bg .alt o r) j
  else .ok (o,i)
def akf(meet:Int->Except (Int×Int) (RL×Int))(i:Int):Except (Int×Int) (RL×Int):=
 match meet i with
 |.error e=>.error e
 |.ok (r,j)=>Bp c N meet (N.toNat+1) r j
def Aw(atom:Int->Except (Int×Int) (RL×Int)):Int->Except (Int×Int) (RL×Int):=
 akf c N (mv c N (fU c N atom (N.toNat+1) none))
def wI(i:Int):Except (Int×Int) (RL×Int):=match rd i with
 |.error e=>.error e
 |.ok (S,j)=>.ok (b9 (.cls S),j)
def yj(i:Int):Except (Int×Int) (RL×Int)->Except (Int×Int) (RL×Int)
 |.error e=>.error e
 |.ok (r,j)=>if ¬ j<N then .error (21,i) else .ok (r,j+1)
def bD:Nat->Int->Except (Int×Int) (RL×Int)
 |0,i=>if c i=40 then .error (23,i) else wI rd i
 |n+1,i=>if c i=40 then yj N i (Aw c N (bD n) (i+1)) else wI rd i
def alts(n:Nat):Int->Except (Int×Int) (RL×Int):=Aw c N (bD c N rd n)
def UQ:Except (Int×Int) (RL×Int)->Except (Int×Int) Rx
 |.error e=>.error e
 |.ok (r,j)=>if j<N then .error (20,j) else if 2000<r.1 then .error (24,0) else .ok r.2
def CF:Except (Int×Int) Rx:=if 1048576<N then .error (1,0) else UQ N (alts c N rd 1000 0)
end
end
section
inductive RT where
 |eps
 |cls (S:BitVec 256)
 |cat (a b:RT)
 |alt (a b:RT)
 |and (a b:RT)
 |minus (a b:RT)
 |rep (a:RT) (m n:Int)
def ll(x:Rx)(m:Int)(k:Int):Rx:=if k<m then x else .alt x .eps
def gf(x:Rx)(m:Int):Nat->Int->Rx->Rx
 |0,_,w=>w
 |n+1,k,w=>gf x m n (k+1) (.cat w (ll x m k))
def so(m:Int):Int:=if m=-2 then 1 else m
def kS(x:Rx)(m n:Int):Rx:=
 if n<0/\so m=0 then .star x
 else if n=0 then .eps
 else if n<0 then .cat (gf x (so m) (so m-1).toNat 1 (ll x (so m) 0)) (.star x)
 else gf x (so m) (n-1).toNat 1 (ll x (so m) 0)
def gM(a m n:Int):Int:=
 if m=-2 then a+1+a+1
 else if n<0/\m=0 then a+1
 else if n<0 then m*a+m-1+1+a+1
 else if n=0 then 1
 else if m=0 then n*(a+2)+n-1
 else m*a+m-1+(n-m)*(a+2+1)
def RT.expand:RT->Rx
 |.eps=>.eps
 |.cls S=>.cls S
 |.cat a b=>.cat a.expand b.expand
 |.alt a b=>.alt a.expand b.expand
 |.and a b=>.and a.expand b.expand
 |.minus a b=>.minus a.expand b.expand
 |.rep a m n=>kS a.expand m n
def RT.sz:RT->Nat
 |.eps=>1
 |.cls S=>1
 |.cat a b=>cE (1+a.sz+b.sz)
 |.alt a b=>cE (1+a.sz+b.sz)
 |.and a b=>cE (1+a.sz+b.sz)
 |.minus a b=>cE (1+a.sz+b.sz)
 |.rep a m n=>cE (gM a.sz m n).toNat
def RT.val(t:RT):RL:=(t.sz,t.expand)
theorem lS(n:Nat):cE n<=2001:=by unfold cE;omega
theorem Ou(a b:Nat):cE (1+cE a+b)=cE (1+a+b):=by unfold cE;omega
theorem Ov(a b:Nat):cE (1+a+cE b)=cE (1+a+b):=by unfold cE;omega
theorem Hm{n:Nat}(h:n<=2001):cE n=n:=by unfold cE;omega
theorem pd(y:RL):∀ (k:Nat) (s:Nat) (w:Rx),(bL (λx=>bg .cat x y) k (cE s,w)).1=cE (s+k*(1+y.1))
 |0,s,w=>by simp[bL]
 |k+1,s,w=>by
  show (bL (λx=>bg .cat x y) k (cE (1+cE s+y.1),.cat w y.2)).1=_;rw[Ou,pd y k,Nat.succ_mul]
  congr 1
  omega
theorem B4(x:Rx)(y:RL)(m:Int)(hy:y.2=x):∀ (n:Nat) (k:Int) (s:Nat) (w:Rx),k+n<=m->(bL (λz=>bg .cat z y) n (s,w)).2=gf x m n k w
 |0,k,s,w,_=>rfl
 |n+1,k,s,w,h=>by
  have hpx:ll x m k=y.2:=by rw[ll,if_pos (by omega),hy]
  show (bL (λz=>bg .cat z y) n (cE (1+s+y.1),.cat w y.2)).2=gf x m n (k+1) (.cat w (ll x m k));rw[hpx];exact B4 x y m hy n (k+1) _ _ (by omega)
theorem B3(x:Rx)(y:RL)(m:Int)(hy:y.2=.alt x .eps):∀ (n:Nat) (k:Int) (s:Nat) (w:Rx),m<=k->(bL (λz=>bg .cat z y) n (s,w)).2=gf x m n k w
 |0,k,s,w,_=>rfl
 |n+1,k,s,w,h=>by
  have hpx:ll x m k=y.2:=by rw[ll,if_neg (by omega),hy]
  show (bL (λz=>bg .cat z y) n (cE (1+s+y.1),.cat w y.2)).2=gf x m n (k+1) (.cat w (ll x m k));rw[hpx];exact B3 x y m hy n (k+1) _ _ (by omega)
theorem BF(x:Rx)(m:Int):∀ (a b:Nat) (k:Int) (w:Rx),gf x m (a+b) k w=gf x m b (k+a) (gf x m a k w)
 |0,b,k,w=>by simp[gf]
 |a+1,b,k,w=>by
  rw[Nat.succ_add];simp only[gf];rw[BF x m a b]
  congr 1
  omega
theorem De(t:RT):gI t.val=(RT.rep t 0 (-1)).val:=by
 simp only[gI,RT.val,RT.sz,RT.expand,kS,so,gM];simp
 congr 1
 omega
theorem CN(t:RT):bg .cat t.val (gI t.val)=(RT.rep t (-2) (-1)).val:=by
 simp only[gI,bg,RT.val,RT.sz,RT.expand,kS,so,gM,gf,ll];simp[gf];rw[Ov]
 congr 1
 omega
theorem Ga(t:RT):bV t.val=(RT.rep t 0 1).val:=by
 simp only[bV,b9,gI,bg,RT.val,RT.sz,RT.expand,kS,so,gM,gf,ll];simp[gf]
 congr 1
 omega
theorem KC(p k s:Nat):cE (p+k*(1+cE s))=cE (p+k*(1+s)):=by
 by_cases h:s<=2001
 ·rw[Hm h]
 ·have e:cE s=2001:=by unfold cE;omega
  rw[e];cases k with
  |zero=>simp
  |succ k=>
   have h1:=Nat.succ_mul k (1+2001);have h2:=Nat.succ_mul k (1+s);unfold cE;rw[h1,h2];omega
theorem H5{α β:Type}{x:α×β}{a:α}{b:β}(h1:x.1=a)(h2:x.2=b):x=(a,b):=by rw[<- h1,<- h2]
theorem zd(t:RT)(m n:Int)(h0:0<=m)(h1:n=-1\/(0<=n/\m<=n))(ht:t.sz<=2001):dz t.val m n=(RT.rep t m n).val:=by
 have hp:so m=m:=by unfold so;rw[if_neg (by omega)]
 have hm2:¬ m=-2:=by omega
 rcases h1 with rfl|⟨hn,hmn⟩
 ·by_cases hm:m=0
  ·subst hm;rw[<- De];rfl
  ·obtain⟨a,rfl⟩:∃ a:Nat,m=(a:Int)+1:=⟨(m-1).toNat,by omega⟩;have e1:((a:Int)+1-1).toNat=a:=by omega
   have e2:dz t.val ((a:Int)+1) (-1)=bg .cat (bL (λx=>bg .cat x t.val) a t.val) (gI t.val):=by
    unfold dz;rw[if_neg (by omega),if_neg (by omega),if_pos (by omega),e1,if_neg hm]
   rw[e2];apply H5
   ·show cE (1+(bL (λx=>bg .cat x t.val) a t.val).1+cE (1+t.sz))=cE (gM t.sz ((a:Int)+1) (-1)).toNat;have e3:(bL (λx=>bg .cat x t.val) a t.val).1=cE (t.sz+a*(1+t.sz)):=by
     have:=pd t.val a t.sz t.expand;rw[Hm ht]at this;exact this
    have e4:gM t.sz ((a:Int)+1) (-1)=((1+(t.sz+a*(1+t.sz))+(1+t.sz):Nat):Int):=by
     unfold gM;rw[if_neg hm2,if_neg (by omega),if_pos (by omega)];have g1:((a:Int)+1)*(t.sz:Int)=(a:Int)*t.sz+t.sz:=by rw[Int.add_mul];omega
     have g2:a*(1+t.sz)=a+a*t.sz:=by rw[Nat.mul_add];omega
     rw[g1,g2];have g3:((a*t.sz:Nat):Int)=(a:Int)*t.sz:=by simp
     omega
    rw[e3,e4,Ou,Ov,Int.toNat_natCast]
   ·show Rx.cat (bL (λx=>bg .cat x t.val) a t.val).2 (.star t.expand)=kS t.expand ((a:Int)+1) (-1);unfold kS;rw[hp,if_neg (by omega),if_neg (by omega),if_pos (by omega),e1];have:=B4 t.expand t.val ((a:Int)+1) rfl a 1 t.sz t.expand (by omega)
    rw[show ll t.expand ((a:Int)+1) 0=t.expand from by unfold ll;rw[if_pos (by omega)]];rw[<- this];rfl
 ·by_cases hm:m=0
  ·subst hm;by_cases hn0:n=0
   ·subst hn0;rfl
   ·obtain⟨b,rfl⟩:∃ b:Nat,n=(b:Int)+1:=⟨(n-1).toNat,by omega⟩;have e1:((b:Int)+1-max 0 1).toNat=b:=by omega
    have e2:dz t.val 0 ((b:Int)+1)=bL (λx=>bg .cat x (bV t.val)) b (bV t.val):=by
     unfold dz;rw[if_neg (by omega),if_neg (by omega),if_neg (by omega),e1,if_pos rfl];rfl
    rw[e2];apply H5
    ·have e3:(bL (λx=>bg .cat x (bV t.val)) b (bV t.val)).1=cE ((t.sz+2)+b*(1+(t.sz+2))):=by
      have:=pd (bV t.val) b (1+t.sz+1) (.alt t.expand .eps);rw[show (bV t.val).1=cE (t.sz+2) from by show cE (1+t.sz+1)=_;congr 1;omega,KC]at this;rw[show 1+t.sz+1=t.sz+2 by omega]at this;rw[<- this];show (bL _ b (cE (1+t.sz+1),_)).1=_;rw[show 1+t.sz+1=t.sz+2 by omega];rfl
     have e4:gM t.sz 0 ((b:Int)+1)=(((t.sz+2)+b*(1+(t.sz+2)):Nat):Int):=by
      unfold gM;rw[if_neg (by omega),if_neg (by omega),if_neg (by omega),if_neg (by omega),if_pos rfl];have g1:((b:Int)+1)*((t.sz:Int)+2)=(b:Int)*t.sz+2*b+t.sz+2:=by rw[Int.add_mul,Int.mul_add];omega
      have g2:b*(1+(t.sz+2))=b*t.sz+3*b:=by rw[show 1+(t.sz+2)=t.sz+3 by omega,Nat.mul_add];omega
      rw[g1,g2];have g3:((b*t.sz:Nat):Int)=(b:Int)*t.sz:=by simp
      omega
     rw[e3];show _=cE (gM t.sz 0 ((b:Int)+1)).toNat;rw[e4,Int.toNat_natCast]
    ·show _=kS t.expand 0 ((b:Int)+1);unfold kS;rw[hp,if_neg (by omega),if_neg (by omega),if_neg (by omega),show ((b:Int)+1-1).toNat=b by omega];have:=B3 t.expand (bV t.val) 0 rfl b 1 (bV t.val).1 (.alt t.expand .eps) (by omega)
     rw[show ll t.expand 0 0=.alt t.expand .eps from by unfold ll;rw[if_neg (by omega)]];rw[<- this];rfl
  ·obtain⟨a,rfl⟩:∃ a:Nat,m=(a:Int)+1:=⟨(m-1).toNat,by omega⟩;obtain⟨d,rfl⟩:∃ d:Nat,n=(a:Int)+1+d:=⟨(n-(a+1)).toNat,by omega⟩;have e1:((a:Int)+1-1).toNat=a:=by omega
   have e0:((a:Int)+1+d-max ((a:Int)+1) 1).toNat=d:=by omega
   have e2:dz t.val ((a:Int)+1) ((a:Int)+1+d)=bL (λx=>bg .cat x (bV t.val)) d (bL (λx=>bg .cat x t.val) a t.val):=by
    unfold dz;rw[if_neg (by omega),if_neg (by omega),if_neg (by omega),e0,e1,if_neg hm]
   have e3:(bL (λx=>bg .cat x t.val) a t.val).1=cE (t.sz+a*(1+t.sz)):=by
    have:=pd t.val a t.sz t.expand;rw[Hm ht]at this;exact this
   have e5:(bL (λx=>bg .cat x t.val) a t.val).2=gf t.expand ((a:Int)+1) a 1 t.expand:=B4 t.expand t.val ((a:Int)+1) rfl a 1 t.sz t.expand (by omega);have e6:bL (λx=>bg .cat x t.val) a t.val=(cE (t.sz+a*(1+t.sz)),gf t.expand ((a:Int)+1) a 1 t.expand):=H5 e3 e5;rw[e2,e6];apply H5
   ·have e4:gM t.sz ((a:Int)+1) ((a:Int)+1+d)=((t.sz+a*(1+t.sz)+d*(1+(t.sz+2)):Nat):Int):=by
     unfold gM;rw[if_neg hm2,if_neg (by omega),if_neg (by omega),if_neg (by omega),if_neg hm];have g1:((a:Int)+1)*(t.sz:Int)=(a:Int)*t.sz+t.sz:=by rw[Int.add_mul];omega
     have g2:a*(1+t.sz)=a+a*t.sz:=by rw[Nat.mul_add];omega
     have g4:((a:Int)+1+d-((a:Int)+1))*((t.sz:Int)+2+1)=(d:Int)*t.sz+3*d:=by
      rw[show (a:Int)+1+d-((a:Int)+1)=d by omega,show (t.sz:Int)+2+1=t.sz+3 by omega,Int.mul_add];omega
     have g5:d*(1+(t.sz+2))=d*t.sz+3*d:=by rw[show 1+(t.sz+2)=t.sz+3 by omega,Nat.mul_add];omega
     rw[g1,g2,g4,g5];have g3:((a*t.sz:Nat):Int)=(a:Int)*t.sz:=by simp
     have g6:((d*t.sz:Nat):Int)=(d:Int)*t.sz:=by simp
     omega
    show _=cE (gM t.sz ((a:Int)+1) ((a:Int)+1+d)).toNat;rw[e4,Int.toNat_natCast,pd];rw[show (bV t.val).1=cE (t.sz+2) from by show cE (1+t.sz+1)=_;congr 1;omega,KC]
   ·show _=kS t.expand ((a:Int)+1) ((a:Int)+1+d);unfold kS;rw[hp,if_neg (by omega),if_neg (by omega),if_neg (by omega),show ((a:Int)+1+d-1).toNat=a+d by omega,BF];rw[show ll t.expand ((a:Int)+1) 0=t.expand from by unfold ll;rw[if_pos (by omega)]]
    exact B3 t.expand (bV t.val) ((a:Int)+1) rfl d (1+a) _ _ (by omega)
theorem Am(t:RT):t.sz<=2001:=by
 cases t<;>simp only[RT.sz]<;>first|exact lS _|omega
end
section
structure Lv where
 place:Int
 alt:Option RT
 meet:Option RT
 sgn:Int
 row:Option RT
 fac:Option RT
def jh(i:Int):Lv:=⟨i,none,none,0,none,none⟩
def amy:Option RT->RT->RT
 |none,p=>p
 |some r,p=>.cat r p
def rowOf(row fac:Option RT):Option RT:=match fac with
 |none=>row
 |some p=>some (amy row p)
def fK(f:Lv):Lv:={ f with row:=rowOf f.row f.fac,fac:=none }
def my(meet:Option RT)(sgn:Int)(r:RT):RT:=match meet with
 |none=>r
 |some m=>if sgn=38 then .and m r else .minus m r
def nL(f:Lv):Lv:={ f with meet:=some (my f.meet f.sgn ((rowOf f.row f.fac).getD .eps)),row:=none,fac:=none }
def Yx(alt:Option RT)(m:RT):RT:=match alt with
 |none=>m
 |some a=>.alt a m
def fF(f:Lv):RT:=my f.meet f.sgn ((rowOf f.row f.fac).getD .eps)
def jZ(f:Lv):RT:=Yx f.alt (fF f)
def yk(f:Lv):Lv:={ f with alt:=some (jZ f),meet:=none,row:=none,fac:=none }
section
variable (c:Int->Int)(N:Int)(rd:Int->Except (Int×Int) (BitVec 256×Int))
def sr(i:Int)(f:Lv)(p:RT):Except (Int×Int) (Int×Lv):=
 if c i=42 then .ok (i+1,{ f with fac:=some (.rep p 0 (-1)) })
 else if c i=43 then .ok (i+1,{ f with fac:=some (.rep p (-2) (-1)) })
 else if c i=63 then .ok (i+1,{ f with fac:=some (.rep p 0 1) })
 else match xY c N i with
  |.error e=>.error e
  |.ok (m,n,j)=>.ok (j,{ f with fac:=some (.rep p m n) })
def fG(i:Int)(f:Lv)(rest:List Lv):Except (Int×Int) (Int×Lv×List Lv):=
 if bN (c i) then
  match f.fac with
  |none=>.error (20,i)
  |some p=>match sr c N i f p with
   |.error e=>.error e
   |.ok (j,g)=>.ok (j,g,rest)
 else if c i=124 then .ok (i+1,yk f,rest)
 else if c i=38\/c i=45 then .ok (i+1,{ nL f with sgn:=c i },rest)
 else if c i=41 then
  match rest with
  |[]=>.error (20,i)
  |g::r=>.ok (i+1,{ g with fac:=some (jZ f) },r)
 else if c i=40 then
  if 1000<rest.length+1 then .error (23,i) else .ok (i+1,jh i,fK f::rest)
 else match rd i with
  |.error e=>.error e
  |.ok (S,j)=>.ok (j,{ fK f with fac:=some (.cls S) },rest)
def runN:Nat->Int->Lv->List Lv->Except (Int×Int) (Lv×List Lv)
 |0,_,f,rest=>.ok (f,rest)
 | n+1,i,f,rest=>
  if i<N then match fG c N rd i f rest with
   |.error e=>.error e
   |.ok (j,g,r)=>runN n j g r
  else .ok (f,rest)
def run(i:Int)(f:Lv)(rest:List Lv):Except (Int×Int) (Lv×List Lv):=runN c N rd ((N-i).toNat+1) i f rest
def rO:Except (Int×Int) (Lv×List Lv)->Except (Int×Int) RT
 |.error e=>.error e
 |.ok (f,rest)=>if rest≠[] then .error (21,f.place) else if 2000<(jZ f).sz then .error (24,0) else .ok (jZ f)
def sk:Except (Int×Int) RT:=if 1048576<N then .error (1,0) else rO (run c N rd 0 (jh (-1)) [])
variable {c N rd}
def x8(N:Int)(rd:Int->Except (Int×Int) (BitVec 256×Int)):Prop:=∀ i S j,0<=i->i<N->rd i=.ok (S,j)->i<j/\j<=N
theorem af1:∀ (k:Nat) (n i:Int),i<=(sf c N k n i).2/\((sf c N k n i).2<=N\/(sf c N k n i).2=i):=by
 intro k
 induction k with
 |zero=>intro n i;exact⟨Int.le_refl _,.inr rfl⟩
 | succ k ih=>
  intro n i;simp only[sf];split
  ·have:=ih (10*n+(c i-48)) (i+1);omega
  ·exact⟨Int.le_refl _,.inr rfl⟩
theorem A2{i n j:Int}(h:py c N i=.ok (n,j)):i<j/\j<=N:=by
 have:=af1 (c:=c) (N:=N) 3 0 i;unfold py at h;split at h
 ·cases h
 ·simp only[Except.ok.injEq]at h;rw[h]at this;rename_i hne;rw[h]at hne;simp only at this hne;omega
theorem Hj{i m n j:Int}(h:xY c N i=.ok (m,n,j)):i<j/\j<=N:=by
 unfold xY at h;cases h1:py c N (i+1) with
 |error e=>rw[h1]at h;cases h
 | ok p=>
  obtain⟨m',j'⟩:=p;rw[h1]at h;simp only at h;have g1:=A2 h1;cases h2:RV c N m' j' with
  |error e=>rw[h2]at h;cases h
  | ok p=>
   obtain⟨n',j2⟩:=p;rw[h2]at h;simp only at h;have g2:j' <= j2/\j2<=N:=by
    unfold RV at h2;split at h2
    ·split at h2
     ·have:=A2 h2;omega
     ·simp only[Except.ok.injEq,Prod.mk.injEq]at h2;omega
    ·simp only[Except.ok.injEq,Prod.mk.injEq]at h2;omega
   unfold zL at h;split at h
   ·cases h
   ·split at h
    ·cases h
    ·simp only[Except.ok.injEq,Prod.mk.injEq]at h;omega
theorem YU{i m n j:Int}(h:xY c N i=.ok (m,n,j)):0<=m/\(n=-1\/(0<=n/\m<=n)):=by
 have nn:∀ (k:Nat) (n i:Int),0<=n->0<=(sf c N k n i).1:=by
  intro k
  induction k with
  |zero=>intro n i h;exact h
  |succ k ih=>
   intro n i h;simp only[sf];split
   ·exact ih _ _ (by omega)
   ·exact h
 have ne:∀ {i n j:Int},py c N i=.ok (n,j)->0<=n:=λ{i n j} h=>by
  unfold py at h;split at h
  ·cases h
  ·simp only[Except.ok.injEq]at h;have:=nn 3 0 i (by omega);rw[h]at this;exact this
 unfold xY at h;cases h1:py c N (i+1) with
 |error e=>rw[h1]at h;cases h
 | ok p=>
  obtain⟨m',j'⟩:=p;rw[h1]at h;simp only at h;have g1:=ne h1;cases h2:RV c N m' j' with
  |error e=>rw[h2]at h;cases h
  | ok p=>
   obtain⟨n',j2⟩:=p;rw[h2]at h;simp only at h;have g2:n' = -1\/0<=n' := by
    unfold RV at h2;split at h2
    ·split at h2
     ·exact .inr (ne h2)
     ·simp only[Except.ok.injEq,Prod.mk.injEq]at h2;omega
    ·simp only[Except.ok.injEq,Prod.mk.injEq]at h2;omega
   unfold zL at h;split at h
   ·cases h
   ·split at h
    ·cases h
    ·simp only[Except.ok.injEq,Prod.mk.injEq]at h;obtain⟨rfl,rfl,_⟩:=h;omega
theorem MN(hrd:x8 N rd){i j:Int}{f g:Lv}{rest r:List Lv}(h0:0<=i)(hi:i<N)(h:fG c N rd i f rest=.ok (j,g,r)):i<j/\j<=N:=by
 unfold fG at h;split at h
 ·cases hf:f.fac with
  |none=>rw[hf]at h;cases h
  | some p=>
   rw[hf]at h;simp only at h;cases hp:sr c N i f p with
   |error e=>rw[hp]at h;cases h
   | ok q=>
    obtain⟨j',g'⟩:=q;rw[hp]at h;simp only[Except.ok.injEq,Prod.mk.injEq]at h;obtain⟨rfl,rfl,rfl⟩:=h;unfold sr at hp;split at hp
    ·simp only[Except.ok.injEq,Prod.mk.injEq]at hp;omega
    ·split at hp
     ·simp only[Except.ok.injEq,Prod.mk.injEq]at hp;omega
     ·split at hp
      ·simp only[Except.ok.injEq,Prod.mk.injEq]at hp;omega
      ·cases hb:xY c N i with
       |error e=>rw[hb]at hp;cases hp
       |ok q=>
        obtain⟨m,n,k⟩:=q;rw[hb]at hp;simp only[Except.ok.injEq,Prod.mk.injEq]at hp;have:=Hj hb;omega
 ·split at h
  ·simp only[Except.ok.injEq,Prod.mk.injEq]at h;omega
  ·split at h
   ·simp only[Except.ok.injEq,Prod.mk.injEq]at h;omega
   ·split at h
    ·cases rest with
     |nil=>cases h
     |cons g r=>simp only[Except.ok.injEq,Prod.mk.injEq]at h;omega
    ·split at h
     ·split at h
      ·cases h
      ·simp only[Except.ok.injEq,Prod.mk.injEq]at h;omega
     ·cases hS:rd i with
      |error e=>rw[hS]at h;cases h
      |ok q=>
       obtain⟨S,k⟩:=q;rw[hS]at h;simp only[Except.ok.injEq,Prod.mk.injEq]at h;have:=hrd i S k h0 hi hS;omega
theorem WT(hrd:x8 N rd):∀ (n m:Nat) (i:Int) (f:Lv) (rest:List Lv),0<=i->N-i<n->N-i<m->runN c N rd n i f rest=runN c N rd m i f rest:=by
 intro n
 induction n with
 |zero=>
  intro m i f rest h0 h1 h2;cases m with
  |zero=>rfl
  |succ m=>simp only[runN];rw[if_neg (by omega)]
 | succ n ih=>
  intro m i f rest h0 h1 h2;cases m with
  |zero=>simp only[runN];rw[if_neg (by omega)]
  | succ m=>
   simp only[runN];by_cases hi:i<N
   ·rw[if_pos hi,if_pos hi];cases hs:fG c N rd i f rest with
    |error e=>rfl
    |ok q=>
     obtain⟨j,g,r⟩:=q;have:=MN hrd h0 hi hs;exact ih m j g r (by omega) (by omega) (by omega)
   ·rw[if_neg hi,if_neg hi]
theorem Tc{i:Int}{f:Lv}{rest:List Lv}(hi:¬ i<N):run c N rd i f rest=.ok (f,rest):=by
 unfold run;simp only[runN];rw[if_neg hi]
theorem iD(hrd:x8 N rd){i:Int}{f:Lv}{rest:List Lv}(h0:0<=i)(hi:i<N):run c N rd i f rest=match fG c N rd i f rest with
  |.error e=>.error e
  |.ok (j,g,r)=>run c N rd j g r:=by
 unfold run;rw[runN,if_pos hi];cases hs:fG c N rd i f rest with
 |error e=>rfl
 |ok q=>
  obtain⟨j,g,r⟩:=q;have:=MN hrd h0 hi hs;exact WT hrd _ _ j g r (by omega) (by omega) (by omega)
theorem agi(hrd:x8 N rd):∀ (n:Nat) (i:Int) (p:RT) (f:Lv) (rest:List Lv),0<=i->i<=N->N-i<n->f.fac=some p ->
  match kz c N n p.val i with
  |.error e=>rO (run c N rd i f rest)=.error e
  |.ok (r,j)=>i<=j/\j<=N/\(j<N->¬ bN (c j))/\∃ q,r=RT.val q/\run c N rd i f rest=run c N rd j { f with fac:=some q } rest:=by
 intro n
 induction n with
 |zero=>intro i p f rest _ _ h;omega
 | succ n ih=>
  intro i p f rest h0 hiN hn hf;have same:f={ f with fac:=some p }:=by cases f;simp only at hf;subst hf;rfl
  have go:∀ (q:RT) (j:Int),i<j->j<=N->fG c N rd i f rest=.ok (j,{ f with fac:=some q },rest)->∀ res,kz c N (n+1) p.val i=res->kz c N n q.val j=res ->
    match res with
    |.error e=>rO (run c N rd i f rest)=.error e
    |.ok (r,j)=>i<=j/\j<=N/\(j<N->¬ bN (c j))/\∃ q,r=RT.val q/\run c N rd i f rest=run c N rd j { f with fac:=some q } rest:=by
   intro q j hij hjN hs res _ hr;have:=ih j q { f with fac:=some q } rest (by omega) hjN (by omega) rfl;rw[hr]at this;have hi:i<N:=by omega
   rw[iD hrd h0 hi,hs];cases res with
   |error e=>exact this
   |ok x=>
    obtain⟨r,k⟩:=x;obtain⟨g1,g2,g3,q',g4,g5⟩:=this;exact⟨by omega,g2,g3,q',g4,g5⟩
  by_cases hi:i<N
  ·have hP:∀ x,bN (c i)->sr c N i f p=x->fG c N rd i f rest=match x with|.error e=>.error e|.ok (j,g)=>.ok (j,g,rest):=λx hp hx=>by
    unfold fG;rw[if_pos hp,hf];simp only[hx]
   have hE:kz c N (n+1) p.val i=if c i=42 then kz c N n (gI p.val) (i+1)
     else if c i=43 then kz c N n (bg .cat p.val (gI p.val)) (i+1)
     else if c i=63 then kz c N n (bV p.val) (i+1)
     else if c i=123 then
      match xY c N i with
      |.error e=>.error e
      |.ok (m,n',j)=>kz c N n (dz p.val m n') j
     else .ok (p.val,i):=by
    rw[kz,if_neg (by omega)]
    all_goals rfl
   by_cases h42:c i=42
   ·rw[hE,if_pos h42,De];exact go _ (i+1) (by omega) (by omega) (by rw[hP _ (by unfold bN;omega) rfl];unfold sr;rw[if_pos h42]) _ (by rw[hE,if_pos h42,De]) rfl
   ·by_cases h43:c i=43
    ·rw[hE,if_neg h42,if_pos h43,CN];exact go _ (i+1) (by omega) (by omega) (by rw[hP _ (by unfold bN;omega) rfl];unfold sr;rw[if_neg h42,if_pos h43]) _ (by rw[hE,if_neg h42,if_pos h43,CN]) rfl
    ·by_cases h63:c i=63
     ·rw[hE,if_neg h42,if_neg h43,if_pos h63,Ga];exact go _ (i+1) (by omega) (by omega) (by rw[hP _ (by unfold bN;omega) rfl];unfold sr;rw[if_neg h42,if_neg h43,if_pos h63]) _ (by rw[hE,if_neg h42,if_neg h43,if_pos h63,Ga]) rfl
     ·by_cases h123:c i=123
      ·have hps:sr c N i f p=match xY c N i with
         |.error e=>.error e
         |.ok (m,n,j)=>.ok (j,{ f with fac:=some (.rep p m n) }):=by
        unfold sr;rw[if_neg h42,if_neg h43,if_neg h63]
       rw[hE,if_neg h42,if_neg h43,if_neg h63,if_pos h123];cases hb:xY c N i with
       |error e=>
        simp only;rw[iD hrd h0 hi,hP _ (by unfold bN;omega) hps,hb];rfl
       |ok x=>
        obtain⟨m,n',j⟩:=x;have g1:=Hj hb;obtain⟨g2,g3⟩:=YU hb;simp only;rw[zd p m n' g2 g3 (Am p)];exact go _ j g1.1 g1.2 (by rw[hP _ (by unfold bN;omega) hps,hb]) _ (by rw[hE,if_neg h42,if_neg h43,if_neg h63,if_pos h123,hb];simp only;rw[zd p m n' g2 g3 (Am p)]) rfl
      ·rw[hE,if_neg h42,if_neg h43,if_neg h63,if_neg h123];exact⟨Int.le_refl _,by omega,λ_ hp=>by unfold bN at hp;omega,p,rfl,by rw[<- same]⟩
  ·rw[kz,if_pos hi];exact⟨Int.le_refl _,hiN,λh=>absurd h hi,p,rfl,by rw[<- same]⟩
def x6(c:Int->Int)(N:Int)(rd:Int->Except (Int×Int) (BitVec 256×Int))(n:Nat):Prop:=∀ (i:Int) (f:Lv) (rest:List Lv),0<=i->i<N->¬ ia (c i)->¬ bN (c i)->rest.length+n=1000 ->
  match bD c N rd n i with
  |.error e=>rO (run c N rd i f rest)=.error e
  |.ok (r,j)=>i<j/\j<=N/\∃ t,r=RT.val t/\run c N rd i f rest=run c N rd j { fK f with fac:=some t } rest
theorem LO(o:Option RT):yL (o.map RT.val)=(o.getD .eps).val:=by cases o<;>rfl
theorem YY(o:Option RT)(p:RT):BD (o.map RT.val) p.val=(amy o p).val:=by cases o<;>rfl
theorem Il(hrd:x8 N rd){n:Nat}(ha:x6 c N rd n):∀ (k:Nat) (i:Int) (f:Lv) (rest:List Lv),0<=i->i<=N->N-i<k->(f.fac≠none->i<N->¬ bN (c i))->rest.length+n=1000 ->
  match fU c N (bD c N rd n) k ((rowOf f.row f.fac).map RT.val) i with
  |.error e=>rO (run c N rd i f rest)=.error e
  |.ok (r,j)=>i<=j/\j<=N/\(j<N->ia (c j))/\∃ row fac,r=((rowOf row fac).getD .eps).val/\run c N rd i f rest=run c N rd j { f with row:=row,fac:=fac } rest:=by
 intro k
 induction k with
 |zero=>intro i f rest _ _ h;omega
 | succ k ih=>
  intro i f rest h0 hiN hk hp hd;by_cases hi:i<N
  ·by_cases he:ia (c i)
   ·rw[fU,if_neg (by omega),if_pos he,LO];exact⟨Int.le_refl _,hiN,λ_=>he,f.row,f.fac,rfl,rfl⟩
   ·by_cases hps:bN (c i)
    ·rw[fU,if_neg (by omega),if_neg he,if_pos hps];have hf:f.fac=none:=by
      cases hf:f.fac with
      |none=>rfl
      |some p=>exact absurd hps (hp (by rw[hf];simp) hi)
     simp only;rw[iD hrd h0 hi];unfold fG;rw[if_pos hps,hf];rfl
    ·rw[fU,if_neg (by omega),if_neg he,if_neg hps];have h1:=ha i f rest h0 hi he hps hd;cases hA:bD c N rd n i with
     |error e=>rw[hA]at h1;exact h1
     | ok x=>
      obtain⟨a,j⟩:=x;rw[hA]at h1;obtain⟨g1,g2,t,rfl,g3⟩:=h1;have h2:=agi (c:=c) hrd (N.toNat+1) j t { fK f with fac:=some t } rest (by omega) g2 (by omega) rfl;simp only;cases hR:kz c N (N.toNat+1) t.val j with
      |error e=>rw[hR]at h2;simp only at h2 ⊢;rw[g3,h2]
      | ok y=>
       obtain⟨p,l⟩:=y;rw[hR]at h2;obtain⟨g4,g5,g6,q,rfl,g7⟩:=h2;simp only;have h3:=ih l { fK f with fac:=some q } rest (by omega) g5 (by omega) (λ_=>g6) hd;have e1:some (BD ((rowOf f.row f.fac).map RT.val) q.val)=(rowOf (fK f).row (some q)).map RT.val:=by
        rw[YY];rfl
       rw[e1];simp only at h3;revert h3;cases fU c N (bD c N rd n) k ((rowOf (fK f).row (some q)).map RT.val) l with
       |error e=>intro h3;simp only at h3 ⊢;rw[g3,g7,h3]
       |ok z=>
        obtain⟨r,m⟩:=z;rintro⟨g8,g9,g10,row,fac,g11,g12⟩;exact⟨by omega,g9,g10,row,fac,g11,by rw[g3,g7,g12];rfl⟩
  ·rw[fU,if_pos hi,LO];exact⟨Int.le_refl _,hiN,λh=>absurd h hi,f.row,f.fac,rfl,rfl⟩
theorem VV(hrd:x8 N rd){n:Nat}(ha:x6 c N rd n):∀ (k:Nat) (i:Int) (f:Lv) (rest:List Lv),0<=i->i<=N->N-i<k->(i<N->ia (c i))->rest.length+n=1000 ->
  match mw c N (fU c N (bD c N rd n) (N.toNat+1) none) k (fF f).val i with
  |.error e=>rO (run c N rd i f rest)=.error e
  |.ok (r,j)=>i<=j/\j<=N/\(j<N->c j=124\/c j=41)/\∃ g:Lv,g.place=f.place/\g.alt=f.alt/\r=(fF g).val/\run c N rd i f rest=run c N rd j g rest:=by
 intro k
 induction k with
 |zero=>intro i f rest _ _ h;omega
 | succ k ih=>
  intro i f rest h0 hiN hk he hd;by_cases hi:i<N
  ·have go:∀ (mk:RT->RT->RT) (mkx:Rx->Rx->Rx),(∀ a b:RT,bg mkx a.val b.val=(mk a b).val)->(c i=38\/c i=45)->(∀ (m:RT) (g:Lv),g.meet=some m->g.sgn=c i->fF g=mk m ((rowOf g.row g.fac).getD .eps)) ->
     match (match fU c N (bD c N rd n) (N.toNat+1) none (i+1) with
      |.error e=>(.error e:Except (Int×Int) (RL×Int))
      |.ok (r,j)=>mw c N (fU c N (bD c N rd n) (N.toNat+1) none) k (bg mkx (fF f).val r) j) with
     |.error e=>rO (run c N rd i f rest)=.error e
     |.ok (r,j)=>i<=j/\j<=N/\(j<N->c j=124\/c j=41)/\∃ g:Lv,g.place=f.place/\g.alt=f.alt/\r=(fF g).val/\run c N rd i f rest=run c N rd j g rest:=by
    intro mk mkx hmk hc hmt;have hs:fG c N rd i f rest=.ok (i+1,{ nL f with sgn:=c i },rest):=by
     unfold fG;rw[if_neg (by unfold bN;omega),if_neg (by omega),if_pos hc]
    have h1:=Il hrd ha (N.toNat+1) (i+1) { nL f with sgn:=c i } rest (by omega) (by omega) (by omega) (λh=>absurd rfl h) hd;have hr:run c N rd i f rest=run c N rd (i+1) { nL f with sgn:=c i } rest:=by rw[iD hrd h0 hi,hs]
    have e0:(rowOf ({ nL f with sgn:=c i }:Lv).row ({ nL f with sgn:=c i }:Lv).fac).map RT.val=none:=rfl;rw[e0]at h1;revert h1;cases fU c N (bD c N rd n) (N.toNat+1) none (i+1) with
    |error e=>intro h1;simp only at h1 ⊢;rw[hr];exact h1
    | ok z=>
     obtain⟨r,j⟩:=z;rintro⟨g1,g2,g3,row,fac,rfl,g4⟩;simp only;rw[hmk];have hg:mk (fF f) ((rowOf row fac).getD .eps)=fF { nL f with sgn:=c i,row:=row,fac:=fac }:=(hmt (fF f) { nL f with sgn:=c i,row:=row,fac:=fac } rfl rfl).symm;rw[hg]
     have h2:=ih j { nL f with sgn:=c i,row:=row,fac:=fac } rest (by omega) g2 (by omega) g3 hd;revert h2;cases mw c N (fU c N (bD c N rd n) (N.toNat+1) none) k (fF { nL f with sgn:=c i,row:=row,fac:=fac }).val j with
     |error e=>intro h2;simp only at h2 ⊢;rw[hr];exact (congrArg rO g4).trans h2
     |ok y=>
      obtain⟨r2,j2⟩:=y;rintro⟨g5,g6,g7,g,g8,g9,g10,g11⟩;exact⟨by omega,g6,g7,g,g8,g9,g10,by rw[hr];exact g4.trans g11⟩
   by_cases h38:c i=38
   ·rw[mw,if_neg (by omega),if_pos h38];exact go .and .and (λa b=>rfl) (.inl h38) λm g h1 h2=>by unfold fF;rw[h1,h2,h38];simp[my]
   ·by_cases h45:c i=45
    ·rw[mw,if_neg (by omega),if_neg h38,if_pos h45];exact go .minus .minus (λa b=>rfl) (.inr h45) λm g h1 h2=>by unfold fF;rw[h1,h2,h45];simp[my]
    ·rw[mw,if_neg (by omega),if_neg h38,if_neg h45];have:=he hi;exact⟨Int.le_refl _,hiN,λ_=>by unfold ia at this;omega,f,rfl,rfl,rfl,rfl⟩
  ·rw[mw,if_pos hi];exact⟨Int.le_refl _,hiN,λh=>absurd h hi,f,rfl,rfl,rfl,rfl⟩
theorem Co(hrd:x8 N rd){n:Nat}(ha:x6 c N rd n)(i:Int)(f:Lv)(rest:List Lv)(h0:0<=i)(hiN:i<=N)(hd:rest.length+n=1000)(h1:f.meet=none)(h2:f.row=none)(h3:f.fac=none) :
  match mv c N (fU c N (bD c N rd n) (N.toNat+1) none) i with
  |.error e=>rO (run c N rd i f rest)=.error e
  |.ok (r,j)=>i<=j/\j<=N/\(j<N->c j=124\/c j=41)/\∃ g:Lv,g.place=f.place/\g.alt=f.alt/\r=(fF g).val/\run c N rd i f rest=run c N rd j g rest:=by
 have g:=Il hrd ha (N.toNat+1) i f rest h0 hiN (by omega) (λh=>absurd h3 h) hd;have e0:(rowOf f.row f.fac).map RT.val=none:=by rw[h2,h3];rfl
 rw[e0]at g;unfold mv;revert g;cases fU c N (bD c N rd n) (N.toNat+1) none i with
 |error e=>exact λg=>g
 | ok z=>
  obtain⟨r,j⟩:=z;rintro⟨g1,g2,g3,row,fac,rfl,g4⟩;simp only;have hm:(rowOf row fac).getD .eps=fF { f with row:=row,fac:=fac }:=by unfold fF;rw[h1];rfl
  rw[hm];have h5:=VV hrd ha (N.toNat+1) j { f with row:=row,fac:=fac } rest (by omega) g2 (by omega) g3 hd;revert h5;cases mw c N (fU c N (bD c N rd n) (N.toNat+1) none) (N.toNat+1) (fF { f with row:=row,fac:=fac }).val j with
  |error e=>intro h5;exact (congrArg rO g4).trans h5
  |ok y=>
   obtain⟨r2,j2⟩:=y;rintro⟨g5,g6,g7,g,g8,g9,g10,g11⟩;exact⟨by omega,g6,g7,g,g8,g9,g10,g4.trans g11⟩
theorem Yw(hrd:x8 N rd){n:Nat}(ha:x6 c N rd n):∀ (k:Nat) (i:Int) (f:Lv) (rest:List Lv),0<=i->i<=N->N-i<k->(i<N->c i=124\/c i=41)->rest.length+n=1000 ->
  match Bp c N (mv c N (fU c N (bD c N rd n) (N.toNat+1) none)) k (jZ f).val i with
  |.error e=>rO (run c N rd i f rest)=.error e
  |.ok (r,j)=>i<=j/\j<=N/\(j<N->c j=41)/\∃ g:Lv,g.place=f.place/\r=(jZ g).val/\run c N rd i f rest=run c N rd j g rest:=by
 intro k
 induction k with
 |zero=>intro i f rest _ _ h;omega
 | succ k ih=>
  intro i f rest h0 hiN hk he hd;by_cases hi:i<N/\c i=124
  ·rw[Bp,if_pos hi];have hs:fG c N rd i f rest=.ok (i+1,yk f,rest):=by
    unfold fG;rw[if_neg (by unfold bN;omega),if_pos hi.2]
   have hr:run c N rd i f rest=run c N rd (i+1) (yk f) rest:=by rw[iD hrd h0 hi.1,hs]
   have h1:=Co hrd ha (i+1) (yk f) rest (by omega) (by omega) hd rfl rfl rfl;revert h1;cases mv c N (fU c N (bD c N rd n) (N.toNat+1) none) (i+1) with
   |error e=>intro h1;simp only at h1 ⊢;rw[hr];exact h1
   | ok z=>
    obtain⟨r,j⟩:=z;rintro⟨g1,g2,g3,g,g4,g5,rfl,g6⟩;simp only;have e1:bg .alt (jZ f).val (fF g).val=(jZ g).val:=by
     have:jZ g=.alt (jZ f) (fF g):=by
      show Yx g.alt (fF g)=_;rw[g5];rfl
     rw[this];rfl
    rw[e1];have h2:=ih j g rest (by omega) g2 (by omega) g3 hd;revert h2;cases Bp c N (mv c N (fU c N (bD c N rd n) (N.toNat+1) none)) k (jZ g).val j with
    |error e=>intro h2;simp only at h2 ⊢;rw[hr,g6,h2]
    |ok y=>
     obtain⟨r2,j2⟩:=y;rintro⟨g7,g8,g9,g',g10,g11,g12⟩;exact⟨by omega,g8,g9,g',by rw[g10,g4];rfl,g11,by rw[hr,g6,g12]⟩
  ·rw[Bp,if_neg hi];exact⟨Int.le_refl _,hiN,λh=>by have:=he h;omega,f,rfl,rfl,rfl⟩
theorem Hb(hrd:x8 N rd){n:Nat}(ha:x6 c N rd n)(i p:Int)(rest:List Lv)(h0:0<=i)(hiN:i<=N)(hd:rest.length+n=1000) :
  match Aw c N (bD c N rd n) i with
  |.error e=>rO (run c N rd i (jh p) rest)=.error e
  |.ok (r,j)=>i<=j/\j<=N/\(j<N->c j=41)/\∃ g:Lv,g.place=p/\r=(jZ g).val/\run c N rd i (jh p) rest=run c N rd j g rest:=by
 have h1:=Co hrd ha i (jh p) rest h0 hiN hd rfl rfl rfl;unfold Aw akf;revert h1;cases mv c N (fU c N (bD c N rd n) (N.toNat+1) none) i with
 |error e=>exact λh=>h
 | ok z=>
  obtain⟨r,j⟩:=z;rintro⟨g1,g2,g3,g,g4,g5,rfl,g6⟩;simp only;have e1:(fF g).val=(jZ g).val:=by
   have:jZ g=fF g:=by
    show Yx g.alt (fF g)=_;rw[g5];rfl
   rw[this]
  rw[e1];have h2:=Yw hrd ha (N.toNat+1) j g rest (by omega) g2 (by omega) g3 hd;revert h2;cases Bp c N (mv c N (fU c N (bD c N rd n) (N.toNat+1) none)) (N.toNat+1) (jZ g).val j with
  |error e=>intro h2;simp only at h2 ⊢;rw[g6,h2]
  |ok y=>
   obtain⟨r2,j2⟩:=y;rintro⟨g7,g8,g9,g',g10,g11,g12⟩;exact⟨by omega,g8,g9,g',by rw[g10,g4];rfl,g11,by rw[g6,g12]⟩
theorem Lg(hrd:x8 N rd)(i:Int)(f:Lv)(rest:List Lv)(h0:0<=i)(hi:i<N)(he:¬ ia (c i))(hp:¬ bN (c i))(h40:c i≠40) :
  match wI rd i with
  |.error e=>rO (run c N rd i f rest)=.error e
  |.ok (r,j)=>i<j/\j<=N/\∃ t,r=RT.val t/\run c N rd i f rest=run c N rd j { fK f with fac:=some t } rest:=by
 have hs:fG c N rd i f rest=match rd i with
  |.error e=>.error e
  |.ok (S,j)=>.ok (j,{ fK f with fac:=some (.cls S) },rest):=by
  unfold ia at he;unfold fG;rw[if_neg hp,if_neg (by omega),if_neg (by omega),if_neg (by omega),if_neg h40]
 unfold wI;rw[iD hrd h0 hi,hs];cases hS:rd i with
 |error e=>rfl
 |ok q=>
  obtain⟨S,j⟩:=q;have:=hrd i S j h0 hi hS;exact⟨this.1,this.2,.cls S,rfl,rfl⟩
theorem vO(hrd:x8 N rd):∀ n,x6 c N rd n:=by
 intro n
 induction n with
 | zero=>
  intro i f rest h0 hi he hp hd;by_cases h40:c i=40
  ·rw[bD,if_pos h40];simp only;rw[iD hrd h0 hi];unfold fG;rw[if_neg hp,if_neg (by omega),if_neg (by omega),if_neg (by omega),if_pos h40,if_pos (by omega)];rfl
  ·rw[bD,if_neg h40];exact Lg hrd i f rest h0 hi he hp h40
 | succ n ih=>
  intro i f rest h0 hi he hp hd;by_cases h40:c i=40
  ·rw[bD,if_pos h40];have hs:fG c N rd i f rest=.ok (i+1,jh i,fK f::rest):=by
    unfold fG;rw[if_neg hp,if_neg (by omega),if_neg (by omega),if_neg (by omega),if_pos h40,if_neg (by omega)]
   have hr:run c N rd i f rest=run c N rd (i+1) (jh i) (fK f::rest):=by rw[iD hrd h0 hi,hs]
   have h1:=Hb hrd ih (i+1) i (fK f::rest) (by omega) (by omega) (by simp only[List.length_cons];omega);revert h1;cases Aw c N (bD c N rd n) (i+1) with
   |error e=>intro h1;simp only[yj]at h1 ⊢;rw[hr,h1]
   | ok z=>
    obtain⟨r,j⟩:=z;rintro⟨g1,g2,g3,g,g4,rfl,g5⟩;simp only[yj];by_cases hj:j<N
    ·rw[if_neg (by omega)];have h41:=g3 hj;have hs2:fG c N rd j g (fK f::rest)=.ok (j+1,{ fK f with fac:=some (jZ g) },rest):=by
      unfold fG;rw[if_neg (by unfold bN;omega),if_neg (by omega),if_neg (by omega),if_pos h41]
     refine⟨by omega,by omega,jZ g,rfl,?_⟩;rw[hr,g5,iD hrd (by omega) hj,hs2]
    ·rw[if_pos hj];simp only;rw[hr,g5,Tc hj];simp[rO,g4]
  ·rw[bD,if_neg h40];exact Lg hrd i f rest h0 hi he hp h40
def ak1:Except (Int×Int) RT->Except (Int×Int) Rx
 |.error e=>.error e
 |.ok t=>.ok t.expand
theorem Wg(hrd:x8 N rd)(hN:0<=N):CF c N rd=ak1 (sk c N rd):=by
 unfold CF sk;by_cases hb:1048576<N
 ·rw[if_pos hb,if_pos hb];rfl
 ·rw[if_neg hb,if_neg hb];have h1:=Hb hrd (vO (c:=c) hrd 1000) 0 (-1) [] (by omega) hN rfl;unfold alts;revert h1;cases Aw c N (bD c N rd 1000) 0 with
  |error e=>intro h1;simp only at h1;rw[h1];rfl
  | ok z=>
   obtain⟨r,j⟩:=z;rintro⟨g1,g2,g3,g,g4,rfl,g5⟩;rw[g5];by_cases hj:j<N
   ·have h41:=g3 hj;have hs:fG c N rd j g []=.error (20,j):=by
     unfold fG;rw[if_neg (by unfold bN;omega),if_neg (by omega),if_neg (by omega),if_pos h41]
    rw[iD hrd (by omega) hj,hs];simp only[UQ];rw[if_pos hj];rfl
   ·rw[Tc hj];simp only[UQ,rO];rw[if_neg hj,if_neg (show ¬ ([]:List Lv)≠[] by simp)];show (if 2000<(jZ g).sz then _ else _)=_;by_cases hs:2000<(jZ g).sz
    ·rw[if_pos hs,if_pos hs];rfl
    ·rw[if_neg hs,if_neg hs];rfl
end
end
section
open Go.RowKit Go.LE Go.Proofs.Tryz
abbrev CS:=BitVec 256
def wd(S:CS)(j:Nat):Int:=((S.extractLsb' (64*j) 64).toNat:Int)
def nw(S:CS):List Value:=[.int .u64 (wd S 0),.int .u64 (wd S 1),.int .u64 (wd S 2),.int .u64 (wd S 3)]
theorem xQ(x:BitVec 64):IntKind.u64.wrap ((x.toNat:Nat):Int)=((x.toNat:Nat):Int):=by
 have:=x.isLt;simp only[IntKind.wrap,IntKind.bits,IntKind.signed,Bool.false_and,Bool.false_eq_true,if_false,decide_false,show (2:Int) ^ 64=18446744073709551616 from rfl];omega
theorem kv(x:BitVec 64):BitVec.ofInt 64 ((x.toNat:Nat):Int)=x:=by simp
theorem am2(x y:BitVec 64):cu .or .u64 (x.toNat:Nat) (y.toNat:Nat)=((x ||| y).toNat:Nat):=by
 show IntKind.u64.wrap (((BitVec.ofInt 64 ((x.toNat:Nat):Int) ||| BitVec.ofInt 64 ((y.toNat:Nat):Int):BitVec 64).toNat:Nat):Int)=_;rw[kv,kv,xQ]
theorem Yy(x y:BitVec 64):cu .and .u64 (x.toNat:Nat) (y.toNat:Nat)=((x &&& y).toNat:Nat):=by
 show IntKind.u64.wrap (((BitVec.ofInt 64 ((x.toNat:Nat):Int) &&& BitVec.ofInt 64 ((y.toNat:Nat):Int):BitVec 64).toNat:Nat):Int)=_;rw[kv,kv,xQ]
theorem ano(x y:BitVec 64):cu .xor .u64 (x.toNat:Nat) (y.toNat:Nat)=((x ^^^ y).toNat:Nat):=by
 show IntKind.u64.wrap (((BitVec.ofInt 64 ((x.toNat:Nat):Int) ^^^ BitVec.ofInt 64 ((y.toNat:Nat):Int):BitVec 64).toNat:Nat):Int)=_;rw[kv,kv,xQ]
theorem ann(S T:CS)(j:Nat):cu .or .u64 (wd S j) (wd T j)=wd (S ||| T) j:=by
 rw[wd,wd,am2,wd,BitVec.extractLsb'_or]
theorem alU(S T:CS)(j:Nat):cu .and .u64 (wd S j) (wd T j)=wd (S &&& T) j:=by
 rw[wd,wd,Yy,wd,BitVec.extractLsb'_and]
theorem JY(S:CS)(j:Nat)(hj:j<4):cu .xor .u64 (if IntKind.u64.signed=true then -1 else IntKind.u64.max) (wd S j)=wd (~~~S) j:=by
 have e:(if IntKind.u64.signed=true then -1 else IntKind.u64.max)=(((BitVec.allOnes 64).toNat:Nat):Int):=by decide
 rw[e,wd,ano,wd]
 congr 2
 apply BitVec.eq_of_getLsbD_eq;intro i hi;have h2:64*j+i<256:=oM;rw[BitVec.getLsbD_xor,BitVec.getLsbD_allOnes,BitVec.getLsbD_extractLsb',BitVec.getLsbD_extractLsb',BitVec.getLsbD_not];simp[hi,h2]
def Au(S:CS)(b:Nat):CS:=S ||| (1#256 <<< b)
theorem Ka(S:CS)(b i:Nat)(hb:b<256):(Au S b).getLsbD i=(S.getLsbD i||decide (i=b)):=by
 simp only[Au,BitVec.getLsbD_or,BitVec.getLsbD_shiftLeft,BitVec.getLsbD_one];by_cases hi:i=b
 ·subst hi;simp[hb]
 ·have h:¬(i<256/\b<=i/\i-b=0):=oM;by_cases h1:i<256<;>by_cases h2:i<b<;>simp[h1,h2,hi]<;>omega
theorem am8(b:Nat)(hb:b<64):IntKind.u64.wrap (1*2 ^ (min b 64))=(((1#64 <<< b).toNat:Nat):Int):=by
 rw[Nat.min_eq_left oM];have h:(1#64 <<< b).toNat=2 ^ b:=by
  rw[BitVec.toNat_shiftLeft,Nat.shiftLeft_eq];have:2 ^ b<2 ^ 64:=Nat.pow_lt_pow_right oM hb;simp;omega
 rw[<- xQ,h];simp
theorem zx(S:CS)(b:Nat)(hb:b<256):cu .or .u64 (wd S (b / 64)) (IntKind.u64.wrap (1*2 ^ (min (b % 64) 64)))=wd (Au S b) (b / 64):=by
 rw[am8 _ (Nat.mod_lt _ oM),wd,am2,wd]
 congr 2
 apply BitVec.eq_of_getLsbD_eq;intro i hi;have hdm:=Nat.div_add_mod b 64;rw[BitVec.getLsbD_or,BitVec.getLsbD_extractLsb',BitVec.getLsbD_extractLsb',Ka _ _ _ hb,BitVec.getLsbD_shiftLeft,BitVec.getLsbD_one];have e:decide (64*(b / 64)+i=b)=decide (i=b % 64):=by rw[decide_eq_decide];omega
 rw[e];by_cases h1:i=b % 64
 ·subst h1;simp[hi]
 ·by_cases h2:i<b % 64<;>simp[hi,h1,h2]<;>omega
theorem X2(S:CS)(b j:Nat)(hb:b<256)(hj:j≠b / 64):wd (Au S b) j=wd S j:=by
 rw[wd,wd]
 congr 2
 apply BitVec.eq_of_getLsbD_eq;intro i hi;rw[BitVec.getLsbD_extractLsb',BitVec.getLsbD_extractLsb',Ka _ _ _ hb];have:decide (64*j+i=b)=false:=by rw[decide_eq_false_iff_not];omega
 rw[this,Bool.or_false]
theorem ahf(S:CS)(b:Nat)(hb:b<256):(nw S).take (b / 64)++.int .u64 (wd (Au S b) (b / 64))::(nw S).drop (b / 64+1)=nw (Au S b):=by
 have hq:b / 64<4:=oM;have ne:∀ j,j≠b / 64->wd S j=wd (Au S b) j:=λj hj=>(X2 S b j hb hj).symm
 generalize hqe:b / 64=q at *
 match q,hq with
 |0,_=>simp[nw,ne 1,ne 2,ne 3]
 |1,_=>simp[nw,ne 0,ne 2,ne 3]
 |2,_=>simp[nw,ne 0,ne 1,ne 3]
 |3,_=>simp[nw,ne 0,ne 1,ne 2]
theorem alV(S:CS)(b:Nat)(hb:b<256):decide (cu .and .u64 ((wd S (b / 64)).fdiv (2 ^ (min (b % 64) 64))) 1=1)=S.getLsbD b:=by
 have hm:b % 64<64:=Nat.mod_lt _ oM;rw[Nat.min_eq_left oM];have e1:(wd S (b / 64)).fdiv (2 ^ (b % 64))=(((S.extractLsb' (64*(b / 64)) 64) >>> (b % 64)).toNat:Nat):=by
  rw[wd,BitVec.toNat_ushiftRight,Nat.shiftRight_eq_div_pow];have:(2:Int) ^ (b % 64)=((2 ^ (b % 64):Nat):Int):=by simp
  rw[this,Int.fdiv_eq_ediv_of_nonneg _ (Int.natCast_nonneg _)];rfl
 rw[e1,show (1:Int)=(((1#64).toNat:Nat):Int) from rfl,Yy];rw[Bool.eq_iff_iff,decide_eq_true_eq];have hdm:=Nat.div_add_mod b 64;constructor
 ·intro h;have h' : (S.extractLsb' (64*(b / 64)) 64 >>> (b % 64)) &&& 1#64=1#64:=BitVec.eq_of_toNat_eq (by exact_mod_cast h);have:=congrArg (λx=>x.getLsbD 0) h';simp only[BitVec.getLsbD_and,BitVec.getLsbD_ushiftRight,BitVec.getLsbD_extractLsb',BitVec.getLsbD_one]at this;simpa [hm,hdm] using this
 ·intro h;have h' : (S.extractLsb' (64*(b / 64)) 64 >>> (b % 64)) &&& 1#64=1#64:=by
   apply BitVec.eq_of_getLsbD_eq;intro i hi;simp only[BitVec.getLsbD_and,BitVec.getLsbD_ushiftRight,BitVec.getLsbD_extractLsb',BitVec.getLsbD_one];by_cases h0:i=0
   ·subst h0;simp[hm,hdm,h]
   ·simp[h0]
  rw[h']
theorem uM(b:Nat):((b:Int)).fdiv 64=((b / 64:Nat):Int):=by
 rw[Int.fdiv_eq_ediv_of_nonneg _ oM];omega
theorem Kg(b:Nat)(hb:b<256):cu .and .u8 (b:Int) 63=((b % 64:Nat):Int):=by
 have:∀ b:Fin 256,cu .and .u8 ((b.val:Nat):Int) 63=((b.val % 64:Nat):Int):=by decide +kernel
 exact this ⟨b,hb⟩
theorem Ue(b:Nat)(hb:b<256):cu .and .i64 (b:Int) 63=((b % 64:Nat):Int):=by
 have:∀ b:Fin 256,cu .and .i64 ((b.val:Nat):Int) 63=((b.val % 64:Nat):Int):=by decide +kernel
 exact this ⟨b,hb⟩
theorem jn(S:CS)(j:Nat)(hj:j<4):(List.map SV.v (nw S)).getD j (.v undef)=.v (.int .u64 (wd S j)):=by
 match j,hj with
 |0,_=>rfl
 |1,_=>rfl
 |2,_=>rfl
 |3,_=>rfl
theorem mc(S:CS)(b:Nat)(hb:b<256):List.take (b / 64) (List.map SV.v (nw S))++[SV.v (.int .u64 (wd (Au S b) (b / 64)))]++List.drop (b / 64+1) (List.map SV.v (nw S))=List.map SV.v (nw (Au S b)):=by
 rw[<- ahf S b hb];simp
theorem J0(S:CS):(List.map SV.v (nw S)).length=4:=rfl
end
section
open Go.RowKit Go.LE Go.Proofs.Tryz
set_option maxRecDepth 10000
def Γ0:Env prog:=⟨λ_=>none,λ_=>none,λ_ _=>none⟩
def cB(S:CS):Value:=.agg (nw S).toArray
theorem cT(S:CS):Value.agg (nw S).toArray=cB S:=rfl
theorem nq(S:CS):(nw S).length=4:=rfl
theorem nr(S:CS):List.take 4 ((nw S).map SV.v)=(nw S).map SV.v:=rfl
theorem np(S:CS):List.drop 4 ((nw S).map SV.v)=[]:=rfl
theorem kK(S:CS):cY ((nw S).map SV.v)=some (nw S):=rfl
theorem re(S:CS):((nw S).map SV.v).all dO=true:=rfl
theorem JZ(E:Nat->Value)(S:CS):den E (.agg ((nw S).map SV.v))=cB S:=rfl
theorem iZ(S:CS):((nw S).map SV.v).length=4:=rfl
theorem dw(S:CS):partsOf (.v (cB S))=(nw S).map SV.v:=rfl
theorem adb(S:CS)(j i:Nat)(hi:i<64):(BitVec.ofInt 64 (wd S j)).getLsbD i=S.getLsbD (64*j+i):=by
 rw[wd,kv,BitVec.getLsbD_extractLsb'];simp[hi]
theorem cJ(S T:CS)(h:cB S=cB T):S=T:=by
 have h:(nw S)=nw T:=congrArg (λv=>match v with|Value.agg a=>a.toList|_=>[]) h;simp only[nw,List.cons.injEq,Value.int.injEq,true_and,and_true]at h;have e0:=h.1;have e1:=h.2.1;have e2:=h.2.2.1;have e3:=h.2.2.2;apply BitVec.eq_of_getLsbD_eq;intro i hi
 have key:∀ j,wd S j=wd T j->i / 64=j->S.getLsbD i=T.getLsbD i:=λj e hj=>by
  have h1:=adb S j (i % 64) oM;have h2:=adb T j (i % 64) oM;rw[e]at h1;have:64*j+i % 64=i:=oM;rw[this]at h1 h2;rw[<- h1,<- h2]
 have:i / 64=0\/i / 64=1\/i / 64=2\/i / 64=3:=oM;rcases this with h|h|h|h
 ·exact key 0 e0 h
 ·exact key 1 e1 h
 ·exact key 2 e2 h
 ·exact key 3 e3 h
def Hd:=(ae @List.replicate_succ.{0} @List.replicate_zero.{0} @au @ab lx ly lA (ae di dj dk dm dB dD dF (ae dG mZ nc nf ng nh eK (ae eL eM eN eO eP xz xA (ae xB xC xJ xK xL xM @cB.eq_1 (aa @ann @alU))))))
theorem XX(S T:CS)(w:World):Calls prog 274 #[cB S,cB T] w λe w' => e=.returned (cB (S ||| T))/\an w [] w' := by
 refine ak (nt:=26) [.cell 4 309] func274 rfl rfl rfl ?_;refine vR Γ0 (aa Hd @nw.eq_1) ?_;refine vR Γ0 (aa Hd @nw.eq_1) ?_;refine wZ Hd ?_;exact λE=>rfl
theorem afZ(S:CS)(w:World):Calls prog 224 #[cB S] w λe w' => e=.returned (cB (~~~S))/\an w [] w' := by
 have h0:=JY S 0 oM;have h1:=JY S 1 oM;have h2:=JY S 2 oM;have h3:=JY S 3 oM;refine ak (nt:=16) [.cell 2 309] func224 rfl rfl rfl ?_;refine vR Γ0 (aa Hd @nw.eq_1) ?_;refine vR Γ0 (oQ Hd @nw.eq_1 h0 h1 h2 h3) ?_;refine wZ Hd ?_;exact λE=>rfl
theorem afr(S:CS)(b:Nat)(hb:b<256)(w:World):Calls prog 225 #[cB S,.int .u8 b] w λe w' => e=.returned (.bool (S.getLsbD b))/\an w [] w' := by
 have hq:b / 64<4:=oM;refine ak (nt:=14) [.tmp 4] func225 rfl rfl rfl ?_;refine vR Γ0 Hd ?_
 refine Wp.aly Γ0 aN (by simp only[iV,Op.operands,Value.cells,σ0,σB,Nat.reduceEqDiff,Nat.reduceAdd,Nat.reduceMul,Nat.reduceLT,Nat.reduceLeDiff,Nat.reduceBEq,av,Int.reduceToNat,Int.reduceLT,Int.reduceLE,Nat.reduceDiv,Nat.reduceMod,Nat.reduceSub,Int.reducePow,Nat.reducePow,σP,σB3,Hd,uM,Kg b hb,jn S _ hq,alV S b hb,J0];exact rfl) rfl ?_ ?_
 ·exact oo
 refine wZ Hd ?_;exact λE=>rfl
def Dc(lo:Nat):Nat->CS
 |0=>0
 |n+1=>Au (Dc lo n) (lo+n)
def span(lo hi:Nat):CS:=Dc lo (hi+1-lo)
theorem Ey:(nw 0).map SV.v=[SV.v (.int .u64 0),SV.v (.int .u64 0),SV.v (.int .u64 0),SV.v (.int .u64 0)]:=by
 simp[nw,wd]
def lC:=(ae @List.replicate_succ.{0} @List.replicate_zero.{0} @au @ab lx ly lA (ae di dj dk dm dB dD dF (ae dG mZ nc nf ng nh eK (ae eL eM eN eO eP xz xA (EL xB xC xJ xK xL xM @cB.eq_1)))))
theorem aca(lo hi:Nat)(hl:lo<256)(hh:hi<256)(w:World):Calls prog 271 #[.int .u8 lo,.int .u8 hi] w λe w' => e=.returned (cB (span lo hi))/\an w [] w' := by
 have w0:IntKind.i64.wrap (lo:Int)=lo:=ax oM oM;have w1:IntKind.i64.wrap (hi:Int)=hi:=ax oM oM;refine ak (nt:=25) [.cell 4 309] func271 rfl rfl rfl ?_;refine vR Γ0 lC ?_;refine vR Γ0 lC ?_;refine Wp.seq (Wp.seq ?_);refine vr Γ0 (aa lC w0) ?_;refine Wp.block ?_
 refine Wp.loop (λj:Nat=>⟨2,eA [(1,.is (.v (.int .u8 hi))),(4,.is (.own 0 0)),(5,.is (.own 8 0)),(6,.is (.v (.int .i64 ((lo+j:Nat):Int))))],dS [(0,.cells 309 [.v (.int .u64 0),.v (.int .u64 0),.v (.int .u64 0),.v (.int .u64 0)]),(8,.cells 309 ((nw (Dc lo j)).map .v))]⟩)
  (λj=>j<=hi+1-lo) (λj=>hi+1-lo-j) 0 ?_ (Nat.zero_le _) ?_
 ·exact wM (λk=>.key k) (fg lC @Dc.eq_1 @Dc.eq_2 @Ey)
 rintro j h1;have hr2:IntKind.i64.wrap ((lo+j:Nat):Int)=((lo+j:Nat):Int):=ax oM oM;refine Wp.seq ?_;refine vR Γ0 (aa lC w1) ?_;refine wC lC (λhc=>?_) (λhc=>?_)
 ·simp only[decide_eq_true_eq]at hc;have hb:lo+j<256:=oM;have hq:(lo+j) / 64<4:=oM;have wn:IntKind.i64.wrap (((lo+j:Nat):Int)+1)=((lo+(j+1):Nat):Int):=wW;refine wK ?_;refine Wp.seq (Wp.block ?_)
  refine Wp.agf Γ0 aN (by simp only[iV,Op.operands,Value.cells,σ0,σB,Nat.reduceEqDiff,Nat.reduceAdd,Nat.reduceMul,Nat.reduceLT,Nat.reduceLeDiff,Nat.reduceBEq,av,Int.reduceToNat,Int.reduceLT,Int.reduceLE,Nat.reduceDiv,Nat.reduceMod,Nat.reduceSub,Int.reducePow,Nat.reducePow,σP,σB3,lC,uM,Ue _ hb,jn _ _ hq,zx _ _ hb,mc _ _ hb,J0];exact rfl) rfl (by kernel_rfl) ?_ ?_
  ·exact oo
  refine qq ?_;refine vr Γ0 (aa lC wn) ?_;refine⟨j+1,oM,oM,?_⟩
  exact Le.mk (λk=>.key k) ⟨by simp[FV.keys,SV.keys,az],by simp[aZ.keys,az,SV.keys,aR,aU]⟩ (by simp only[iV,Op.operands,Value.cells,σ0,σB,Nat.reduceEqDiff,Nat.reduceAdd,Nat.reduceMul,Nat.reduceLT,Nat.reduceLeDiff,Nat.reduceBEq,av,Int.reduceToNat,Int.reduceLT,Int.reduceLE,Nat.reduceDiv,Nat.reduceMod,Nat.reduceSub,Int.reducePow,Nat.reducePow,σP,σB3,lC,Dc,uM,jn _ _ hq,zx _ _ hb,mc _ _ hb,HA,HC,ky,Ac]<;>trivial) (by simp only[iV,Op.operands,Value.cells,σ0,σB,Nat.reduceEqDiff,Nat.reduceAdd,Nat.reduceMul,Nat.reduceLT,Nat.reduceLeDiff,Nat.reduceBEq,av,Int.reduceToNat,Int.reduceLT,Int.reduceLE,Nat.reduceDiv,Nat.reduceMod,Nat.reduceSub,Int.reducePow,Nat.reducePow,σP,σB3,lC,Dc,uM,jn _ _ hq,zx _ _ hb,mc _ _ hb,wG,nI,iB,gF,j5,ky]<;>trivial) (by simp[ed]) sI
 ·simp only[decide_eq_false_iff_not]at hc;have hj:j=hi+1-lo:=oM;refine wE ?_;refine vR Γ0 (aa lC @nw.eq_1) ?_;refine wZ lC ?_;subst hj;exact λE=>rfl
def V7(s:ByteArray):Nat->CS
 |0=>0
 |n+1=>Au (V7 s n) (bt s n).toNat
theorem jB(s:ByteArray)(i:Int):0<=bt s i/\bt s i<256:=by
 unfold bt;have:=(s.data[i.toNat]?.getD 0).toNat_lt;omega
theorem ale(s:ByteArray)(hs:s.size<=140737488351232)(w:World):Calls prog 245 #[.string s] w λe w' => e=.returned (cB (V7 s s.size))/\an w [] w' := by
 refine ak (nt:=25) [.cell 2 309] func245 rfl rfl rfl ?_;refine vR Γ0 lC ?_;refine vR Γ0 lC ?_;refine Wp.seq ?_;refine vR Γ0 lC ?_;refine Wp.block ?_
 refine Wp.loop (λj:Nat=>⟨2,eA [(0,.is (.v (.string s))),(2,.is (.own 0 0)),(3,.is (.own 8 0)),(6,.is (.v (.int .i64 s.size))),(7,.is (.v (.int .i64 j)))],dS [(0,.cells 309 [.v (.int .u64 0),.v (.int .u64 0),.v (.int .u64 0),.v (.int .u64 0)]),(8,.cells 309 ((nw (V7 s j)).map .v))]⟩)
  (λj=>j<=s.size) (λj=>s.size-j) 0 ?_ (Nat.zero_le _) ?_
 ·exact wM (λk=>.key k) (fg lC @V7.eq_1 @V7.eq_2 @Ey)
 rintro j h1;refine vR Γ0 lC ?_;refine Wp.seq ?_;refine wC lC (λhc=>?_) (λhc=>?_)
 ·simp only[decide_eq_true_eq]at hc;have hj:j<s.size:=oM;obtain⟨b0,b1⟩:=jB s j;obtain⟨b,hbe⟩:=Int.eq_ofNat_of_zero_le b0;have hb:b<256:=oM;have hq:b / 64<4:=oM;have hof:V7 s (j+1)=Au (V7 s j) b:=by rw[V7,hbe];rfl
  have wn:IntKind.i64.wrap ((j:Int)+1)=((j+1:Nat):Int):=wW;refine wK ?_;refine Wp.seq (Wp.block ?_);refine vR Γ0 lC ?_
  refine Wp.agf Γ0 aN (by simp only[iV,Op.operands,Value.cells,σ0,σB,Nat.reduceEqDiff,Nat.reduceAdd,Nat.reduceMul,Nat.reduceLT,Nat.reduceLeDiff,Nat.reduceBEq,av,Int.reduceToNat,Int.reduceLT,Int.reduceLE,Nat.reduceDiv,Nat.reduceMod,Nat.reduceSub,Int.reducePow,Nat.reducePow,σP,σB3,lC,hbe,uM,Kg _ hb,jn _ _ hq,zx _ _ hb,mc _ _ hb,J0];exact rfl) rfl (by kernel_rfl) ?_ ?_
  ·exact oo
  refine qq ?_;refine vr Γ0 (aa lC wn) ?_;refine⟨j+1,oM,oM,?_⟩
  exact Le.mk (λk=>.key k) ⟨by simp[FV.keys,SV.keys,az],by simp[aZ.keys,az,SV.keys,aR,aU]⟩ (by simp only[iV,Op.operands,Value.cells,σ0,σB,Nat.reduceEqDiff,Nat.reduceAdd,Nat.reduceMul,Nat.reduceLT,Nat.reduceLeDiff,Nat.reduceBEq,av,Int.reduceToNat,Int.reduceLT,Int.reduceLE,Nat.reduceDiv,Nat.reduceMod,Nat.reduceSub,Int.reducePow,Nat.reducePow,σP,σB3,lC,hof,hbe,uM,jn _ _ hq,zx _ _ hb,mc _ _ hb,HA,HC,ky,Ac]<;>trivial) (by simp only[iV,Op.operands,Value.cells,σ0,σB,Nat.reduceEqDiff,Nat.reduceAdd,Nat.reduceMul,Nat.reduceLT,Nat.reduceLeDiff,Nat.reduceBEq,av,Int.reduceToNat,Int.reduceLT,Int.reduceLE,Nat.reduceDiv,Nat.reduceMod,Nat.reduceSub,Int.reducePow,Nat.reducePow,σP,σB3,lC,hof,hbe,uM,jn _ _ hq,zx _ _ hb,mc _ _ hb,wG,nI,iB,gF,j5,ky]<;>trivial) (by simp[ed]) sI
 ·simp only[decide_eq_false_iff_not]at hc;have hj:j=s.size:=oM;refine wE ?_;refine vR Γ0 (aa lC @nw.eq_1) ?_;refine wZ lC ?_;subst hj;exact λE=>rfl
def B5(s:ByteArray)(c:Int):Int:=Lib.indexByte s.data.toList c.toNat.toUInt8
def ixX:Sa prog 231 where
 pre:=λ_ _=>λ| [.val (.string _),.val (.int .u8 _)]=>True|_=>False
 res:=λ_=>λ| [.val (.string s),.val (.int .u8 c)]=>.int .i64 (B5 s c)|_=>undef
 ok:=by
  intro W w bs us as_ hk hu hp;split at hp
  ·rename_i s c
   match us,hu with
   |[u,v],hu=>
    obtain⟨rfl,rfl,_⟩:=hu;rw[run_callFunc_extern func231 (by kernel_rfl) (by kernel_rfl) (by kernel_rfl) (e:=Extern.BytealgIndexByte.indexByte) (by kernel_rfl),Lib.run_indexByteString];rfl
  ·exact hp.elim
theorem afE(W:World)(s:ByteArray)(c:Int):ixX.res W [.val (.string s),.val (.int .u8 c)]=.int .i64 (B5 s c):=rfl
theorem afD(W:World)(bs:List Nat)(s:ByteArray)(c:Int):ixX.pre W bs [.val (.string s),.val (.int .u8 c)]=True:=rfl
noncomputable def Γ10:Env prog:=⟨λ| 231=>some ixX.spec|_=>none,λ| _=>none,λ_ _=>none⟩
theorem ahq:Γ10.sp 231=some ixX.spec:=rfl
def aeC:=(ae @List.replicate_succ.{0} @List.replicate_zero.{0} @au @ab lx ly lA (ae di dj dk dm dB dD dF (ae dG mZ nc nf ng nh eK (ae eL eM eN eO eP JU JV (ae JW JX vn vt vu vv vz (ae vA vB vC vD vE Ny Nz (ae TG TH TJ TK TL TM TN (ae TO TP TQ TR @aV @aw @aD (fg @aF @afE @afD ahq)))))))))
theorem Vq(s:ByteArray)(c:Int)(w:World):Calls prog 189 #[.string s,.int .u8 c] w λe w' => e=.returned (.int .i64 (B5 s c))/\an w [] w' := by
 refine ak (nt:=8) [.tmp 4] func189 rfl rfl rfl ?_;refine vR Γ10 aeC ?_;refine vR Γ10 aeC ?_;refine wZ aeC ?_;exact λE=>rfl
def SA:a8 prog 189 where
 pre:=λW bs=>λ| [.val (.string s),.val (.int .u8 c)]=>True|_=>False
 res:=λW=>λ| [.val (.string s),.val (.int .u8 c)]=>.int .i64 (B5 s c)|_=>undef
 enters:=call189
 ok:=by
  intro W w bs us as_ hk hu hp;split at hp
  ·rename_i s c
   match us,hu with
   |[u0,u1],hu=>
    obtain⟨rfl,rfl,_⟩:=hu;exact Vq s c w
  ·exact hp.elim
theorem Vs(W:World)(s:ByteArray)(c:Int):SA.res W [.val (.string s),.val (.int .u8 c)]=.int .i64 (B5 s c):=rfl
theorem Vr(W:World)(bs:List Nat)(s:ByteArray)(c:Int):SA.pre W bs [.val (.string s),.val (.int .u8 c)]=(True):=rfl
noncomputable def Γ11:Env prog:=⟨λ| 189=>some SA.spec|_=>none,λ| _=>none,λ_ _=>none⟩
theorem ahr:Γ11.sp 189=some SA.spec:=rfl
def aeD:=(fg aeC Vs Vr ahr)
theorem akU(s:ByteArray)(c:Int)(w:World):Calls prog 138 #[.string s,.int .u8 c] w λe w' => e=.returned (.int .i64 (B5 s c))/\an w [] w' := by
 refine ak (nt:=8) [.tmp 4] func138 rfl rfl rfl ?_;refine vR Γ11 aeD ?_;refine vR Γ11 aeD ?_;refine wZ aeD ?_;exact λE=>rfl
def ixC:a8 prog 138 where
 pre:=λW bs=>λ| [.val (.string s),.val (.int .u8 c)]=>True|_=>False
 res:=λW=>λ| [.val (.string s),.val (.int .u8 c)]=>.int .i64 (B5 s c)|_=>undef
 enters:=call138
 ok:=by
  intro W w bs us as_ hk hu hp;split at hp
  ·rename_i s c
   match us,hu with
   |[u0,u1],hu=>
    obtain⟨rfl,rfl,_⟩:=hu;exact akU s c w
  ·exact hp.elim
theorem HJ(W:World)(s:ByteArray)(c:Int):ixC.res W [.val (.string s),.val (.int .u8 c)]=.int .i64 (B5 s c):=rfl
theorem HI(W:World)(bs:List Nat)(s:ByteArray)(c:Int):ixC.pre W bs [.val (.string s),.val (.int .u8 c)]=(True):=rfl
def HB(s:ByteArray)(i:Int):List AV:=[.val (.string s),.val (.int .i64 i)]
def kM(i:Int):List PanicEntry:=[{ v:=.iface 39 (.agg #[.int .i64 10,.int .i64 i,.string ⟨#[]⟩]),recovered:=false }]
def Ko:=(bp aeD @HJ @HI)
theorem abd(s:ByteArray)(i:Int)(u:Value)(fp:List Nat)(w:World)(h0:0<=i)(ho:aY w u fp 375 (HB s i))(hlt:∀ b∈fp,b<w.heap.size) :
  Calls prog 272 (#[u]++#[]) w λe w' => dN w u fp 375 e w' (.ret (.tuple #[.int .u8 (bt s i),.bool (decide (i<s.size))]) (HB s i)):=by
 refine aO (nt:=23) #[] [.tmp 2,.tmp 3] (by show 2<=7;omega) ho hlt func272 rfl rfl rfl ?_;refine vR Γ11 (aa Ko @HB.eq_1) ?_;refine Wp.seq ?_;refine zv Γ11 Ko ?_;refine wC Ko (λhc=>?_) (λhc=>?_)
 ·simp only[decide_eq_true_eq]at hc;refine zv Γ11 Ko ?_;refine wZ Ko ?_;exact⟨_,_,rfl,λE=>by rw[decide_eq_true hc];rfl,_,_,rfl,rfl,dE⟩
 ·simp only[decide_eq_false_iff_not]at hc;have hb:bt s i=0:=by
   unfold bt;rw[Array.getElem?_eq_none (by have:s.data.size=s.size:=rfl;omega)];rfl
  refine wK ?_;refine vR Γ11 Ko ?_;refine wZ Ko ?_;exact⟨_,_,rfl,λE=>by rw[decide_eq_false hc,hb];rfl,_,_,rfl,rfl,dE⟩
def sn:bP prog 272 where
 T:=375
 pre:=λW bs fs as_=>match fs,as_ with|[.val (.string s),.val (.int .i64 i)],[]=>0<=i|_,_=>False
 out:=λW fs as_=>match fs,as_ with|[.val (.string s),.val (.int .i64 i)],[]=>.ret (.tuple #[.int .u8 (bt s i),.bool (decide (i<s.size))]) (HB s i)|_,_=>.pan [] undef
 enters:=call272
 ok:=by
  intro W w bs u fp us fs as_ hk ho hlt hmine hu hp;split at hp
  ·rename_i s i
   match us,hu with
   |[],_=>
    exact abd s i u fp w hp ho hlt
  ·exact hp.elim
theorem yO(W:World)(s:ByteArray)(i:Int):sn.out W [.val (.string s),.val (.int .i64 i)] []=.ret (.tuple #[.int .u8 (bt s i),.bool (decide (i<s.size))]) (HB s i):=rfl
theorem yP(W:World)(bs:List Nat)(s:ByteArray)(i:Int):sn.pre W bs [.val (.string s),.val (.int .i64 i)] []=(0<=i):=rfl
theorem Ie:sn.T=375:=rfl
def anV:=(fg Ko @yO @yP @Ie)
theorem Zx(s:ByteArray)(i j:Int)(u:Value)(fp:List Nat)(w:World)(ho:aY w u fp 375 (HB s i))(hlt:∀ b∈fp,b<w.heap.size) :
  Calls prog 273 (#[u]++#[.int .i64 j]) w λe w' => dN w u fp 375 e w' (.pan (kM j) (.tuple #[])):=by
 refine aO (nt:=7) #[.int .i64 j] [] (by show 2<=7;omega) ho hlt func273 rfl rfl rfl ?_;refine Wp.dJ Γ11 aN (ev (aa anV @HB.eq_1)) ?_ ?_
 ·exact oo
 refine qq ?_;exact⟨_,rfl⟩
def rP:bP prog 273 where
 T:=375
 pre:=λW bs fs as_=>match fs,as_ with|[.val (.string s),.val (.int .i64 i)],[.val (.int .i64 j)]=>True|_,_=>False
 out:=λW fs as_=>match fs,as_ with|[.val (.string s),.val (.int .i64 i)],[.val (.int .i64 j)]=>.pan (kM j) (.tuple #[])|_,_=>.pan [] undef
 enters:=call273
 ok:=by
  intro W w bs u fp us fs as_ hk ho hlt hmine hu hp;split at hp
  ·rename_i s i j
   match us,hu with
   |[u0],hu=>
    obtain⟨rfl,_⟩:=hu;exact Zx s i j u fp w ho hlt
  ·exact hp.elim
theorem FQ(W:World)(s:ByteArray)(i:Int)(j:Int):rP.out W [.val (.string s),.val (.int .i64 i)] [.val (.int .i64 j)]=.pan (kM j) (.tuple #[]):=rfl
theorem FT(W:World)(bs:List Nat)(s:ByteArray)(i:Int)(j:Int):rP.pre W bs [.val (.string s),.val (.int .i64 i)] [.val (.int .i64 j)]=(True):=rfl
theorem Sr:rP.T=375:=rfl
noncomputable def Γ12:Env prog:=⟨λ| 138=>some ixC.spec|272=>some sn.spec|273=>some rP.spec|_=>none,λ| _=>none,λ_ _=>none⟩
theorem ahs:Γ12.sp 138=some ixC.spec:=rfl
theorem aht:Γ12.sp 272=some sn.spec:=rfl
theorem ahu:Γ12.sp 273=some rP.spec:=rfl
def yt:ByteArray:=⟨#[48,49,50,51,52,53,54,55,56,57,97,98,99,100,101,102]⟩
def Cz(s:ByteArray):Except Int (Int×Int)->BOut
 |.ok (b,j)=>.ret (.int .u8 b) (HB s j)
 |.error j=>.pan (kM j) (.int .u8 0)
def rT(s:ByteArray)(i:Int):Except Int (Int×Int):=if i<s.size/\0<=B5 yt (bt s i) then .ok (B5 yt (bt s i),i+1) else .error i
theorem SB(c:Int)(h0:0<=c)(h1:c<256):-1<=B5 yt c/\B5 yt c<16:=by
 obtain⟨n,rfl⟩:=Int.eq_ofNat_of_zero_le h0;have:∀ b:Fin 256,-1<=B5 yt ((b.val:Nat):Int)/\B5 yt ((b.val:Nat):Int)<16:=by decide +kernel
 exact this ⟨n,oM⟩
theorem vF{n:Int}(h0:0<=n)(h1:n<256):IntKind.u8.wrap n=n:=by
 simp only[IntKind.wrap,IntKind.bits,IntKind.signed,Bool.false_and,Bool.false_eq_true,if_false,decide_false,show (2:Int) ^ 8=256 from rfl];omega
theorem S1(s:ByteArray)(b j:Int):Cz s (.ok (b,j))=.ret (.int .u8 b) (HB s j):=rfl
theorem CA(s:ByteArray)(j:Int):Cz s (.error j)=.pan (kM j) (.int .u8 0):=rfl
def uu:=(ae @List.replicate_succ.{0} @List.replicate_zero.{0} @au @ab lx ly lA (ae di dj dk dm dB dD dF (ae dG mZ nc nf ng nh eK (ae eL eM eN eO eP Ny Nz (ae ajV ajW ajX ajY ajZ aj0 aj1 (ae aj2 aj3 aj4 TG TH TJ TK (ae TL TM TN TO TP TQ TR (ae @aV @aw @aD @aF @HJ @HI @yO (ae @yP @Ie @FQ @FT @Sr @HB.eq_1 @kM.eq_1 (bp ahs aht ahu))))))))))
theorem afs(s:ByteArray)(i:Int)(u:Value)(fp:List Nat)(w:World)(h0:0<=i)(hs:s.size<=140737488351232)(ho:aY w u fp 375 (HB s i))(hlt:∀ b∈fp,b<w.heap.size) :
  Calls prog 276 (#[u]++#[]) w λe w' => dN w u fp 375 e w' (Cz s (rT s i)):=by
 obtain⟨b0,b1⟩:=jB s i;obtain⟨x0,x1⟩:=SB _ b0 b1;refine aO (nt:=34) #[] [.tmp 2] (by show 2<=7;omega) ho hlt func276 rfl rfl rfl ?_;refine vR Γ12 uu ?_;refine wR Γ12 uu ?_ ?_
 ·simp[h0]
 refine vR Γ12 uu ?_;refine Wp.seq ?_;refine vR Γ12 uu ?_;refine wC uu (λhc=>?_) (λhc=>?_)
 ·have he:rT s i=.error i:=by
   rw[rT,if_neg];simp[yt]at hc ⊢;omega
  rw[he];refine Wp.dJ Γ12 aN (ev uu) ?_ ?_
  ·simp
  refine qq ?_;exact⟨_,rfl⟩
 ·have hi:i<s.size/\0<=B5 yt (bt s i):=by
   simp[yt]at hc ⊢;omega
  have he:rT s i=.ok (B5 yt (bt s i),i+1):=by rw[rT,if_pos hi]
  have w1:IntKind.i64.wrap (i+1)=i+1:=ax oM oM;have w2:IntKind.u8.wrap (B5 yt (bt s i))=B5 yt (bt s i):=vF hi.2 oM;rw[he];refine wK ?_;refine vR Γ12 (aa uu w1) ?_;refine vR Γ12 (aa uu w2) ?_;refine wZ uu ?_
  exact⟨_,_,rfl,λE=>by simp only[den];rw[show B5 yt (bt s i)=B5 ⟨#[48,49,50,51,52,53,54,55,56,57,97,98,99,100,101,102]⟩ (bt s i) from rfl]at w2;exact congrArg _ w2,_,_,rfl,rfl,dE⟩
def ZP:bP prog 276 where
 T:=375
 pre:=λW bs fs as_=>match fs,as_ with|[.val (.string s),.val (.int .i64 i)],[]=>0<=i/\s.size<=140737488351232|_,_=>False
 out:=λW fs as_=>match fs,as_ with|[.val (.string s),.val (.int .i64 i)],[]=>Cz s (rT s i)|_,_=>.pan [] undef
 enters:=call276
 ok:=by
  intro W w bs u fp us fs as_ hk ho hlt hmine hu hp;split at hp
  ·rename_i s i
   match us,hu with
   |[],_=>
    exact afs s i u fp w hp.1 hp.2 ho hlt
  ·exact hp.elim
theorem ZQ(W:World)(s:ByteArray)(i:Int):ZP.out W [.val (.string s),.val (.int .i64 i)] []=Cz s (rT s i):=rfl
theorem ZR(W:World)(bs:List Nat)(s:ByteArray)(i:Int):ZP.pre W bs [.val (.string s),.val (.int .i64 i)] []=(0<=i/\s.size<=140737488351232):=rfl
theorem akN:ZP.T=375:=rfl
noncomputable def te:Env prog:=⟨λ| 138=>some ixC.spec|272=>some sn.spec|273=>some rP.spec|276=>some ZP.spec|_=>none,λ| _=>none,λ_ _=>none⟩
theorem ahv:te.sp 138=some ixC.spec:=rfl
theorem ahw:te.sp 272=some sn.spec:=rfl
theorem ahx:te.sp 273=some rP.spec:=rfl
theorem ahy:te.sp 276=some ZP.spec:=rfl
def bj(W:World)(S:Nat->Prop):Prop:=S 4/\W.cell? ⟨4,0,none⟩=some (.int .u8 110)/\W.cell? ⟨4,0+1,none⟩=some (.int .u8 10)/\W.cell? ⟨4,0+1+1,none⟩=some (.int .u8 114)/\W.cell? ⟨4,0+1+1+1,none⟩=some (.int .u8 13) /\
 W.cell? ⟨4,0+1+1+1+1,none⟩=some (.int .u8 116)/\W.cell? ⟨4,0+1+1+1+1+1,none⟩=some (.int .u8 9)
theorem bj.mono{W W' : World}{S S' : Nat->Prop}(h:bj W S)(hs:aX W S W' S'):bj W' S' := by
 obtain⟨h0,h1,h2,h3,h4,h5,h6⟩:=h;have g:∀ o v,W.cell? ⟨4,o,none⟩=some v->W'.cell? ⟨4,o,none⟩=some v/\S' 4:=λo v hv=>by
  have:=XC.mono (b:=4) (o:=o) (v:=v) ⟨h0,hv⟩ hs;exact⟨this.2,this.1⟩
 exact⟨(g _ _ h1).2,(g _ _ h1).1,(g _ _ h2).1,(g _ _ h3).1,(g _ _ h4).1,(g _ _ h5).1,(g _ _ h6).1⟩
theorem bj.gh{W w:World}{bs fp:List Nat}(h:bj W (Out bs))(hk:an W bs w)(hm:∀ b∈fp,W.heap.size<=b\/b∈bs):bj w (Out fp):=
 h.mono λb hb hs=>⟨hk.block b hb hs,λhb' => (hm b hb').elim (λg=>absurd g (Nat.not_le.2 hb)) hs⟩
def ny(s:ByteArray)(i:Int):Except Int (Int×Int):=
 if ¬ i<s.size then .error i
 else if bt s i=110 then .ok (10,i+1)
 else if bt s i=114 then .ok (13,i+1)
 else if bt s i=116 then .ok (9,i+1)
 else if bt s i=120 then
  match rT s (i+1) with
  |.error j=>.error j
  |.ok (h,j)=>match rT s j with
   |.error k=>.error k
   |.ok (l,k)=>.ok (16*h+l,k)
 else if (((bt s i<32\/126<bt s i)\/48<=bt s i/\bt s i<=57)\/97<=bt s i/\bt s i<=122)\/65<=bt s i/\bt s i<=90 then .error i
 else .ok (bt s i,i+1)
theorem A1{s:ByteArray}{i h j:Int}(he:rT s i=.ok (h,j))(h0:0<=i):0<=h/\h<16/\j=i+1/\i<s.size:=by
 rw[rT]at he;split at he
 ·rename_i hc;simp only[Except.ok.injEq,Prod.mk.injEq]at he;obtain⟨rfl,rfl⟩:=he;obtain⟨b0,b1⟩:=jB s i;have:=SB _ b0 b1;exact⟨hc.2,this.2,rfl,hc.1⟩
 ·cases he
theorem alm(h l:Int)(h0:0<=h)(h1:h<16)(l0:0<=l)(l1:l<16):cu .or .u8 (IntKind.u8.wrap (h*16)) l=16*h+l:=by
 obtain⟨n,rfl⟩:=Int.eq_ofNat_of_zero_le h0;obtain⟨m,rfl⟩:=Int.eq_ofNat_of_zero_le l0;have:∀ a b:Fin 16,cu .or .u8 (IntKind.u8.wrap (((a.val:Nat):Int)*16)) ((b.val:Nat):Int)=16*((a.val:Nat):Int)+((b.val:Nat):Int):=by decide +kernel
 exact this ⟨n,oM⟩ ⟨m,oM⟩
def bX:=(ae uu ZQ ZR akN @S1 @CA ahv (bp ahw ahx ahy))
theorem ae7(s:ByteArray)(i:Int)(u:Value)(fp:List Nat)(w:World)(h0:0<=i)(hs:s.size<=140737488351232)(hg:bj w (Out fp))(ho:aY w u fp 375 (HB s i))(hlt:∀ b∈fp,b<w.heap.size) :
  Calls prog 275 (#[u]++#[]) w λe w' => dN w u fp 375 e w' (Cz s (ny s i)):=by
 obtain⟨b0,b1⟩:=jB s i;obtain⟨g0,g1,g2,g3,g4,g5,g6⟩:=hg;have g0' : ¬ 4∈fp:=g0;refine aO (nt:=99) #[] [.tmp 2] (by show 2<=7;omega) ho hlt func275 rfl rfl rfl ?_;refine vR te bX ?_;refine wR te bX ?_ ?_
 ·simp[h0]
 refine Wp.seq ?_;refine vR te bX ?_;refine wC bX (λhc=>?_) (λhc=>?_)
 ·simp at hc;have he:ny s i=.error i:=by rw[ny,if_pos oM]
  rw[he];refine Wp.dJ te aN (ev bX) ?_ ?_
  ·simp
  refine qq ?_;exact⟨_,rfl⟩
 ·simp at hc;have hi:i<s.size:=oM;have w1:IntKind.i64.wrap (i+1)=i+1:=ax oM oM;refine wK ?_;refine Wp.seq ?_;refine wR te (EL bX g1 g2 g3 g4 g5 g6) ?_ ?_
  ·simp[Out,g0',az,SV.keys]
  refine Wp.block ?_
  refine Wp.loop (λk:Nat=>⟨40,eA [(0,.is (.own 0 0)),(3,.is (.v (.int .u8 (bt s i)))),(21,.is (.agg [.v (.int .u8 110),.v (.int .u8 10),.v (.int .u8 114),.v (.int .u8 13),.v (.int .u8 116),.v (.int .u8 9)])),(22,.is (.v (.int .i64 k)))],dS [(0,.cells 375 [.v (.string s),.v (.int .i64 i)])]⟩)
   (λk=>k<=3/\(0<k->bt s i≠110)/\(1<k->bt s i≠114)/\(2<k->bt s i≠116)) (λk=>3-k) 0 ?_ ⟨oM,oM,oM,oM⟩ ?_
  ·exact wM (λk=>.key k) bX
  rintro k ⟨k0,k1,k2,k3⟩;refine vR te bX ?_;refine Wp.seq ?_;refine wC bX (λhc=>?_) (λhc=>?_)
  ·simp at hc;refine wK ?_;have hk3:k<3:=oM;have hcase:k=0\/k=1\/k=2:=oM;refine Wp.seq (Wp.block ?_);rcases hcase with rfl|rfl|rfl
   ·skip;refine vR te bX ?_;refine vR te bX ?_;refine wC bX (λhc=>?_) (λhc=>?_)
    ·simp at hc;have he:ny s i=.ok (10,i+1):=by rw[ny,if_neg oM,if_pos oM]
     rw[he];refine vR te (aa bX w1) ?_;refine vR te bX ?_;refine wZ bX ?_;exact⟨_,_,rfl,λE=>rfl,_,_,rfl,rfl,dE⟩
    ·simp at hc;refine wK ?_;refine vr te bX ?_;refine⟨1,⟨oM,oM,oM,oM⟩,oM,?_⟩;exact wM (λk=>.key k) bX
   ·skip;refine vR te bX ?_;refine vR te bX ?_;refine wC bX (λhc=>?_) (λhc=>?_)
    ·simp at hc;have he:ny s i=.ok (13,i+1):=by rw[ny,if_neg oM,if_neg (k1 oM),if_pos oM]
     rw[he];refine vR te (aa bX w1) ?_;refine vR te bX ?_;refine wZ bX ?_;exact⟨_,_,rfl,λE=>rfl,_,_,rfl,rfl,dE⟩
    ·simp at hc;refine wK ?_;refine vr te bX ?_;refine⟨2,⟨oM,oM,oM,oM⟩,oM,?_⟩;exact wM (λk=>.key k) bX
   ·skip;refine vR te bX ?_;refine vR te bX ?_;refine wC bX (λhc=>?_) (λhc=>?_)
    ·simp at hc;have he:ny s i=.ok (9,i+1):=by rw[ny,if_neg oM,if_neg (k1 oM),if_neg (k2 oM),if_pos oM]
     rw[he];refine vR te (aa bX w1) ?_;refine vR te bX ?_;refine wZ bX ?_;exact⟨_,_,rfl,λE=>rfl,_,_,rfl,rfl,dE⟩
    ·simp at hc;refine wK ?_;refine vr te bX ?_;refine⟨3,⟨oM,oM,oM,oM⟩,oM,?_⟩;exact wM (λk=>.key k) bX
  ·simp at hc;have k33:k=3:=oM;subst k33;refine wE ?_;refine Wp.seq ?_;refine vR te bX ?_;refine wC bX (λhc=>?_) (λhc=>?_)
   ·simp at hc;have he:ny s i=match rT s (i+1) with
      |.error j=>.error j
      |.ok (h,j)=>match rT s j with
       |.error k=>.error k
       |.ok (l,k)=>.ok (16*h+l,k):=by rw[ny,if_neg oM,if_neg oM,if_neg oM,if_neg oM,if_pos hc]
    refine vR te (aa bX w1) ?_;cases h1:rT s (i+1) with
    |error j=>
     rw[he,h1];refine Wp.bo te aN (ev (aa bX h1)) ?_ ?_
     ·simp[w1];omega
     refine qq ?_;exact⟨_,rfl⟩
    | ok p=>
     obtain⟨h,j⟩:=p;obtain⟨q0,q1,rfl,q3⟩:=A1 h1 oM;refine wR te (aa bX h1) ?_ ?_
     ·simp[w1];omega
     cases h2:rT s (i+1+1) with
     |error j=>
      rw[he,h1];simp only[h2];refine Wp.bo te aN (ev (aa bX h2)) ?_ ?_
      ·simp[w1];omega
      refine qq ?_;exact⟨_,rfl⟩
     |ok p=>
      obtain⟨l,j⟩:=p;obtain⟨r0,r1,rfl,r3⟩:=A1 h2 oM;rw[he,h1];simp only[h2];refine wR te (aa bX h2) ?_ ?_
      ·simp[w1];omega
      refine wZ bX ?_;exact⟨_,_,rfl,λE=>by simp only[den];rw[alm h l q0 q1 r0 r1],_,_,rfl,rfl,dE⟩
   ·simp at hc;refine wK ?_;refine Wp.seq ?_;refine vR te bX ?_;refine wC bX (λhc=>?_) (λhc=>?_)
    ·simp at hc;have he:ny s i=.error i:=by rw[ny,if_neg oM,if_neg oM,if_neg oM,if_neg oM,if_neg (by assumption),if_pos hc]
     rw[he];refine Wp.dJ te aN (ev bX) ?_ ?_
     ·exact oo
     refine qq ?_;exact⟨_,rfl⟩
    ·have hn:¬ ((((bt s i<32\/126<bt s i)\/48<=bt s i/\bt s i<=57)\/97<=bt s i/\bt s i<=122)\/65<=bt s i/\bt s i<=90):=by
      intro h;apply Bool.eq_false_iff.1 hc;simp;exact h
     have he:ny s i=.ok (bt s i,i+1):=by rw[ny,if_neg oM,if_neg oM,if_neg oM,if_neg oM,if_neg (by assumption),if_neg hn]
     rw[he];refine wK ?_;refine vR te (aa bX w1) ?_;refine vR te bX ?_;refine wZ bX ?_;exact⟨_,_,rfl,λE=>rfl,_,_,rfl,rfl,dE⟩
def Zj:bP prog 275 where
 T:=375
 pre:=λW bs fs as_=>match fs,as_ with|[.val (.string s),.val (.int .i64 i)],[]=>0<=i/\s.size<=140737488351232/\bj W (Out bs)|_,_=>False
 out:=λW fs as_=>match fs,as_ with|[.val (.string s),.val (.int .i64 i)],[]=>Cz s (ny s i)|_,_=>.pan [] undef
 enters:=call275
 ok:=by
  intro W w bs u fp us fs as_ hk ho hlt hmine hu hp;split at hp
  ·rename_i s i
   match us,hu with
   |[],_=>
    exact ae7 s i u fp w hp.1 hp.2.1 (hp.2.2.gh hk hmine) ho hlt
  ·exact hp.elim
theorem Zk(W:World)(s:ByteArray)(i:Int):Zj.out W [.val (.string s),.val (.int .i64 i)] []=Cz s (ny s i):=rfl
theorem Zl(W:World)(bs:List Nat)(s:ByteArray)(i:Int):Zj.pre W bs [.val (.string s),.val (.int .i64 i)] []=(0<=i/\s.size<=140737488351232/\bj W (Out bs)):=rfl
theorem aky:Zj.T=375:=rfl
noncomputable def TU:Env prog:=⟨λ| 138=>some ixC.spec|272=>some sn.spec|273=>some rP.spec|275=>some Zj.spec|_=>none,λ| _=>none,λ_ _=>none⟩
theorem ahz:TU.sp 138=some ixC.spec:=rfl
theorem ahA:TU.sp 272=some sn.spec:=rfl
theorem ahB:TU.sp 273=some rP.spec:=rfl
theorem ahC:TU.sp 275=some Zj.spec:=rfl
def od(s:ByteArray)(i:Int)(q:ByteArray):Except Int (Int×Int):=
 if i<s.size/\bt s i=92 then ny s (i+1)
 else if ((¬ i<s.size\/bt s i<32)\/126<bt s i)\/0<=B5 q (bt s i) then .error i
 else .ok (bt s i,i+1)
def nG:=(ae bX Zk Zl aky ahz ahA ahB ahC)
theorem af2(s:ByteArray)(i:Int)(q:ByteArray)(u:Value)(fp:List Nat)(w:World)(h0:0<=i)(hs:s.size<=140737488351232)(hg:bj w (Out fp))(ho:aY w u fp 375 (HB s i))(hlt:∀ b∈fp,b<w.heap.size) :
  Calls prog 270 (#[u]++#[.string q]) w λe w' => dN w u fp 375 e w' (Cz s (od s i q)):=by
 obtain⟨b0,b1⟩:=jB s i;refine aO (nt:=56) #[.string q] [.tmp 4] (by show 2<=7;omega) ho hlt func270 rfl rfl rfl ?_;refine vR TU nG ?_;refine wR TU nG ?_ ?_
 ·simp[h0]
 refine Wp.seq ?_;refine vR TU nG ?_;refine wC nG (λhc=>?_) (λhc=>?_)
 ·simp at hc;have w1:IntKind.i64.wrap (i+1)=i+1:=ax oM oM;have he:od s i q=ny s (i+1):=by rw[od,if_pos hc]
  rw[he];refine vR TU (aa nG w1) ?_;cases h1:ny s (i+1) with
  |error j=>
   refine Wp.bo TU aN (ev (aa nG h1)) ?_ ?_
   ·simp[w1,hs];exact⟨oM,hg⟩
   refine qq ?_;exact⟨_,rfl⟩
  |ok p=>
   obtain⟨b,j⟩:=p;refine wR TU (aa nG h1) ?_ ?_
   ·simp[w1,hs];exact⟨oM,hg⟩
   refine wZ nG ?_;exact⟨_,_,rfl,λE=>rfl,_,_,rfl,rfl,dE⟩
 ·have hn:¬ (i<s.size/\bt s i=92):=λh=>by
   apply Bool.eq_false_iff.1 hc;simp;exact h
  refine wK ?_;refine Wp.seq ?_;refine vR TU nG ?_;refine wC nG (λhc=>?_) (λhc=>?_)
  ·simp at hc;have he:od s i q=.error i:=by
    rw[od,if_neg hn,if_pos];omega
   rw[he];refine Wp.dJ TU aN (ev nG) ?_ ?_
   ·simp
   refine qq ?_;exact⟨_,rfl⟩
  ·have hn' : ¬ (((¬ i<s.size\/bt s i<32)\/126<bt s i)\/0<=B5 q (bt s i)):=λh=>by
    apply Bool.eq_false_iff.1 hc;simp;omega
   have he:od s i q=.ok (bt s i,i+1):=by rw[od,if_neg hn,if_neg hn']
   have w1:IntKind.i64.wrap (i+1)=i+1:=ax oM oM;rw[he];refine wK ?_;refine vR TU (aa nG w1) ?_;refine vR TU nG ?_;refine wZ nG ?_;exact⟨_,_,rfl,λE=>rfl,_,_,rfl,rfl,dE⟩
def PG:bP prog 270 where
 T:=375
 pre:=λW bs fs as_=>match fs,as_ with|[.val (.string s),.val (.int .i64 i)],[.val (.string q)]=>0<=i/\s.size<=140737488351232/\bj W (Out bs)|_,_=>False
 out:=λW fs as_=>match fs,as_ with|[.val (.string s),.val (.int .i64 i)],[.val (.string q)]=>Cz s (od s i q)|_,_=>.pan [] undef
 enters:=call270
 ok:=by
  intro W w bs u fp us fs as_ hk ho hlt hmine hu hp;split at hp
  ·rename_i s i q
   match us,hu with
   |[u0],hu=>
    obtain⟨rfl,_⟩:=hu;exact af2 s i q u fp w hp.1 hp.2.1 (hp.2.2.gh hk hmine) ho hlt
  ·exact hp.elim
theorem aaT(W:World)(s:ByteArray)(i:Int)(q:ByteArray):PG.out W [.val (.string s),.val (.int .i64 i)] [.val (.string q)]=Cz s (od s i q):=rfl
theorem aaU(W:World)(bs:List Nat)(s:ByteArray)(i:Int)(q:ByteArray):PG.pre W bs [.val (.string s),.val (.int .i64 i)] [.val (.string q)]=(0<=i/\s.size<=140737488351232/\bj W (Out bs)):=rfl
theorem alf:PG.T=375:=rfl
theorem ae6{s:ByteArray}{i b j:Int}(he:ny s i=.ok (b,j))(h0:0<=i):0<=b/\b<256/\i<j/\j<=s.size:=by
 obtain⟨b0,b1⟩:=jB s i;rw[ny]at he;split at he
 ·cases he
 ·rename_i h1;split at he
  ·simp only[Except.ok.injEq,Prod.mk.injEq]at he;omega
  ·split at he
   ·simp only[Except.ok.injEq,Prod.mk.injEq]at he;omega
   ·split at he
    ·simp only[Except.ok.injEq,Prod.mk.injEq]at he;omega
    ·split at he
     ·cases h2:rT s (i+1) with
      |error k=>rw[h2]at he;cases he
      | ok p=>
       obtain⟨h,k⟩:=p;rw[h2]at he;obtain⟨q0,q1,q2,q3⟩:=A1 h2 oM;simp only at he;cases h3:rT s k with
       |error k' => rw[h3]at he;cases he
       |ok p=>
        obtain⟨l,k'⟩:=p;rw[h3]at he;obtain⟨r0,r1,r2,r3⟩:=A1 h3 oM;simp only[Except.ok.injEq,Prod.mk.injEq]at he;omega
     ·split at he
      ·cases he
      ·simp only[Except.ok.injEq,Prod.mk.injEq]at he;omega
theorem tM{s:ByteArray}{i b j:Int}{q:ByteArray}(he:od s i q=.ok (b,j))(h0:0<=i):0<=b/\b<256/\i<j/\j<=s.size:=by
 obtain⟨b0,b1⟩:=jB s i;rw[od]at he;split at he
 ·have:=ae6 he oM;omega
 ·split at he
  ·cases he
  ·simp only[Except.ok.injEq,Prod.mk.injEq]at he;omega
noncomputable def Fc:a8 prog 224 where
 pre:=λW bs=>λ| [.val y0]=>(match dec cB y0 with|some S=>True|_=>False)|_=>False
 res:=λW=>λ| [.val y0]=>(match dec cB y0 with|some S=>cB (~~~S)|_=>undef)|_=>undef
 enters:=call224
 ok:=by
  intro W w bs us as_ hk hu hp;split at hp
  ·rename_i y0;split at hp
   ·rename_i S h0
    match us,hu with
    |[u0],hu=>
     obtain⟨rfl,_⟩:=hu;obtain rfl:=gv h0
     try dsimp only
     try simp only[ca cJ]
     exact afZ S w
   ·exact hp.elim
  ·exact hp.elim
theorem LB(W:World)(S:CS):Fc.res W [.val (cB S)]=cB (~~~S):=by simp only[Fc,ca cJ]
theorem LA(W:World)(bs:List Nat)(S:CS):Fc.pre W bs [.val (cB S)]=(True):=by simp only[Fc,ca cJ]
noncomputable def zu:a8 prog 274 where
 pre:=λW bs=>λ| [.val y0,.val y1]=>(match dec cB y0,dec cB y1 with|some S,some T=>True|_,_=>False)|_=>False
 res:=λW=>λ| [.val y0,.val y1]=>(match dec cB y0,dec cB y1 with|some S,some T=>cB (S ||| T)|_,_=>undef)|_=>undef
 enters:=call274
 ok:=by
  intro W w bs us as_ hk hu hp;split at hp
  ·rename_i y0 y1;split at hp
   ·rename_i S T h0 h1
    match us,hu with
    |[u0,u1],hu=>
     obtain⟨rfl,rfl,_⟩:=hu;obtain rfl:=gv h0;obtain rfl:=gv h1
     try dsimp only
     try simp only[ca cJ]
     exact XX S T w
   ·exact hp.elim
  ·exact hp.elim
theorem RU(W:World)(S:CS)(T:CS):zu.res W [.val (cB S),.val (cB T)]=cB (S ||| T):=by simp only[zu,ca cJ]
theorem RS(W:World)(bs:List Nat)(S:CS)(T:CS):zu.pre W bs [.val (cB S),.val (cB T)]=(True):=by simp only[zu,ca cJ]
def Db(lo hi:Int):CS:=span lo.toNat hi.toNat
def Gy:a8 prog 271 where
 pre:=λW bs=>λ| [.val (.int .u8 lo),.val (.int .u8 hi)]=>0<=lo/\lo<256/\0<=hi/\hi<256|_=>False
 res:=λW=>λ| [.val (.int .u8 lo),.val (.int .u8 hi)]=>cB (Db lo hi)|_=>undef
 enters:=call271
 ok:=by
  intro W w bs us as_ hk hu hp;split at hp
  ·rename_i lo hi
   match us,hu with
   |[u0,u1],hu=>
    obtain⟨rfl,rfl,_⟩:=hu;obtain⟨p0,p1,p2,p3⟩:=hp;have:=aca lo.toNat hi.toNat oM oM w;rwa [Int.toNat_of_nonneg p0,Int.toNat_of_nonneg p2]at this
  ·exact hp.elim
theorem Xq(W:World)(lo:Int)(hi:Int):Gy.res W [.val (.int .u8 lo),.val (.int .u8 hi)]=cB (Db lo hi):=rfl
theorem Xp(W:World)(bs:List Nat)(lo:Int)(hi:Int):Gy.pre W bs [.val (.int .u8 lo),.val (.int .u8 hi)]=(0<=lo/\lo<256/\0<=hi/\hi<256):=rfl
def ofC:a8 prog 245 where
 pre:=λW bs=>λ| [.val (.string s)]=>s.size<=140737488351232|_=>False
 res:=λW=>λ| [.val (.string s)]=>cB (V7 s s.size)|_=>undef
 enters:=call245
 ok:=by
  intro W w bs us as_ hk hu hp;split at hp
  ·rename_i s
   match us,hu with
   |[u0],hu=>
    obtain⟨rfl,_⟩:=hu;exact ale s hp w
  ·exact hp.elim
theorem SW(W:World)(s:ByteArray):ofC.res W [.val (.string s)]=cB (V7 s s.size):=rfl
theorem SU(W:World)(bs:List Nat)(s:ByteArray):ofC.pre W bs [.val (.string s)]=(s.size<=140737488351232):=rfl
noncomputable def uG:Env prog:=⟨λ| 272=>some sn.spec|273=>some rP.spec|270=>some PG.spec|224=>some Fc.spec|274=>some zu.spec|271=>some Gy.spec|245=>some ofC.spec|_=>none,λ| _=>none,λ_ _=>none⟩
theorem ahH:uG.sp 272=some sn.spec:=rfl
theorem ahI:uG.sp 273=some rP.spec:=rfl
theorem ahF:uG.sp 270=some PG.spec:=rfl
theorem ahD:uG.sp 224=some Fc.spec:=rfl
theorem ahJ:uG.sp 274=some zu.spec:=rfl
theorem ahG:uG.sp 271=some Gy.spec:=rfl
theorem ahE:uG.sp 245=some ofC.spec:=rfl
def zM:ByteArray:=⟨#[92,93,91,45,94,47]⟩
def HT(s:ByteArray):Nat->Int->CS->Except Int (CS×Int)
 |0,i,_=>.error i
 | n+1,i,a=>
  if i<s.size/\bt s i=93 then .ok (a,i+1) else
  match od s i zM with
  |.error j=>.error j
  | .ok (lo,j)=>
   if j<s.size/\bt s j=45 then
    match od s (j+1) zM with
    |.error k=>.error k
    |.ok (hi,k)=>if hi<lo then .error (j+1) else HT s n k (a ||| Db lo hi)
   else HT s n j (a ||| Db lo lo)
def am0(b:Bool)(a:CS):CS:=if b then ~~~a else a
def vV(s:ByteArray)(i:Int):Bool:=decide (i<s.size)&&decide (bt s i=94)
def LC(b:Bool):Except Int (CS×Int)->Except Int (CS×Int)
 |.error j=>.error j
 |.ok (a,j)=>.ok (am0 b a,j)
def jH(s:ByteArray)(i:Int):Except Int (CS×Int):=LC (vV s i) (HT s (s.size+1) (if vV s i then i+1 else i) 0)
def LQ(s:ByteArray):Except Int (CS×Int)->BOut
 |.ok (a,j)=>.ret (cB a) (HB s j)
 |.error j=>.pan (kM j) (cB 0)
theorem w5(s:ByteArray)(a:CS)(j:Int):LQ s (.ok (a,j))=.ret (cB a) (HB s j):=rfl
theorem mz(s:ByteArray)(j:Int):LQ s (.error j)=.pan (kM j) (cB 0):=rfl
def cL:=(ae @List.replicate_succ.{0} @List.replicate_zero.{0} @au @ab lx ly lA (ae di dj dk dm dB dD dF (ae dG mZ nc nf ng nh eK (ae eL eM eN eO eP xz xA (ae xB xC xJ xK xL xM Ny (ae Nz TG TH TJ TK TL TM (ae TN TO TP TQ TR @aV @aw (ae @aD @aF @yO @yP @Ie @FQ @FT (ae @Sr @aaT @aaU @alf @HB.eq_1 @kM.eq_1 @S1 (ae @CA @cT @nq @nr @np @kK @re (ae @dw @JZ @iZ @List.drop_nil.{0} @LB @LA RU (ae RS Xq Xp @SW @SU ahH ahI (nu ahF ahD ahJ ahG ahE)))))))))))))
theorem Lw(s:ByteArray)(i:Int)(u:Value)(fp:List Nat)(w:World)(h0:0<=i)(hs:s.size<=140737488351232)(hg:bj w (Out fp))(ho:aY w u fp 375 (HB s i))(hlt:∀ b∈fp,b<w.heap.size) :
  Calls prog 269 (#[u]++#[]) w λe w' => dN w u fp 375 e w' (LQ s (jH s i)):=by
 obtain⟨b0,b1⟩:=jB s i;refine aO (nt:=90) #[] [.cell 2 309] (by show 2<=7;omega) ho hlt func269 rfl rfl rfl ?_;refine vR uG cL ?_;refine vR uG cL ?_;refine wR uG cL ?_ ?_
 ·simp[h0]
 refine vR uG cL ?_;generalize hi0:(if vV s i then i+1 else i)=i0;have hj0:0<=i0/\i0<=i+1:=by rw[<- hi0];split<;>omega
 generalize hR:HT s (s.size+1) i0 0=R;have hm:jH s i=LC (vV s i) R:=by rw[jH,hi0,hR]
 refine ig ⟨40,eA [(0,.is (.own 0 0)),(2,.is (.own 8 0)),(3,.is (.own 16 0)),(6,.is (.v (.bool (vV s i))))],dS [(0,.cells 375 [.v (.string s),.v (.int .i64 i0)]),(8,.cells 309 [.v (.int .u64 0),.v (.int .u64 0),.v (.int .u64 0),.v (.int .u64 0)]),(16,.cells 309 [.v (.int .u64 0),.v (.int .u64 0),.v (.int .u64 0),.v (.int .u64 0)])]⟩ ?_ ?_
 ·skip;refine vR uG cL ?_;refine wC cL (λhc=>?_) (λhc=>?_)
  ·have hcar:vV s i=true:=hc;rw[hcar]at hi0;simp only[if_true]at hi0;simp at hc;have w1:IntKind.i64.wrap (i+1)=i+1:=ax oM oM;refine vr uG (aa cL w1) ?_;subst hi0;exact wM (λk=>.key k) (aa cL @vV.eq_1)
  ·have hcar:vV s i=false:=hc;rw[hcar]at hi0;simp only[Bool.false_eq_true,if_false]at hi0;refine wK ?_;subst hi0;exact wM (λk=>.key k) (aa cL @vV.eq_1)
 refine Wp.seq ?_;refine Wp.block ?_
 refine Wp.loop (λp:Nat×Int×CS=>⟨40,eA [(0,.is (.own 0 0)),(2,.is (.own 8 0)),(3,.is (.own 16 0)),(6,.is (.v (.bool (vV s i))))],dS [(0,.cells 375 [.v (.string s),.v (.int .i64 p.2.1)]),(8,.cells 309 [.v (.int .u64 0),.v (.int .u64 0),.v (.int .u64 0),.v (.int .u64 0)]),(16,.cells 309 ((nw p.2.2).map .v))]⟩)
  (λp=>0<=p.2.1/\(s.size-p.2.1<p.1/\1<=p.1)/\HT s p.1 p.2.1 p.2.2=R) (λp=>p.1) (s.size+1,i0,0) ?_ ⟨hj0.1,by simp only;omega,hR⟩ ?_
 ·exact wM (λk=>.key k) (aa cL @Ey)
 rintro⟨n,i',a⟩ ⟨k0,⟨k1,k3⟩,k2⟩;simp only at k0 k1 k2;obtain⟨n,rfl⟩:∃ m,n=m+1:=⟨n-1,by simp only at k3;omega⟩;rw[HT]at k2;refine Wp.block ?_;refine Wp.seq ?_;refine wR uG cL ?_ ?_
 ·simp[k0]
 refine vR uG cL ?_;refine wC cL (λhc=>?_) (λhc=>?_)
 ·simp at hc;have hR' : R=.ok (a,i' + 1):=by rw[<- k2,if_pos hc]
  have w1:IntKind.i64.wrap (i' + 1)=i' + 1:=ax oM oM;refine vR uG (aa cL w1) ?_;refine wE ?_;refine Wp.seq ?_;refine vR uG cL ?_;refine wC cL (λhc=>?_) (λhc=>?_)
  ·have hcar:vV s i=true:=hc;rw[hm,hR',hcar,LC,w5];refine wR uG cL ?_ ?_
   ·simp[nq]
   refine wZ cL ?_;exact⟨_,_,rfl,rfl,_,_,rfl,rfl,dE⟩
  ·have hcar:vV s i=false:=hc;rw[hm,hR',hcar,LC,w5];refine wK ?_;refine wR uG cL ?_ ?_
   ·simp[nq]
   refine wZ cL ?_;exact⟨_,_,rfl,rfl,_,_,rfl,rfl,dE⟩
 ·have hn:¬ (i' < s.size/\bt s i' = 93):=λh=>by
   apply Bool.eq_false_iff.1 hc;simp;exact h
  rw[if_neg hn]at k2;refine wK ?_;cases h1:od s i' zM with
  |error j=>
   rw[h1]at k2;simp only at k2;rw[zM]at h1;rw[hm,<- k2,LC,mz];refine Wp.bo uG aN (ev (aa cL h1)) ?_ ?_
   ·simp[hs,hg];omega
   refine qq ?_;exact⟨_,rfl⟩
  | ok p=>
   obtain⟨lo,j⟩:=p;obtain⟨o0,o1,o2,o3⟩:=tM h1 k0;rw[h1]at k2;simp only at k2;rw[zM]at h1;refine wR uG (aa cL h1) ?_ ?_
   ·simp[hs,hg];omega
   refine vR uG cL ?_;refine Wp.seq ?_;refine wR uG cL ?_ ?_
   ·simp;omega
   refine vR uG cL ?_;refine wC cL (λhc=>?_) (λhc=>?_)
   ·simp at hc;rw[if_pos hc]at k2;have w1:IntKind.i64.wrap (j+1)=j+1:=ax oM oM;refine vR uG (aa cL w1) ?_;refine vR uG cL ?_;cases h2:od s (j+1) zM with
    |error l=>
     rw[h2]at k2;simp only at k2;rw[zM]at h2;rw[hm,<- k2,LC,mz];refine Wp.bo uG aN (ev (aa cL h2)) ?_ ?_
     ·simp[hs,hg];omega
     refine qq ?_;exact⟨_,rfl⟩
    | ok p=>
     obtain⟨hi,l⟩:=p;obtain⟨r0,r1,r2,r3⟩:=tM h2 oM;rw[h2]at k2;simp only at k2;rw[zM]at h2;refine wR uG (aa cL h2) ?_ ?_
     ·simp[hs,hg];omega
     refine vR uG cL ?_;refine wC cL (λhc=>?_) (λhc=>?_)
     ·simp at hc;rw[if_pos hc]at k2;rw[hm,<- k2,LC,mz];refine Wp.dJ uG aN (ev cL) ?_ ?_
      ·exact oo
      refine qq ?_;exact⟨_,rfl⟩
     ·simp at hc;rw[if_neg oM]at k2;refine wK ?_;refine J3 uG cL ?_ ?_
      ·omega
      refine⟨(n,l,a ||| Db lo hi),⟨by simp only;omega,by simp only;omega,k2⟩,by simp only;omega,?_⟩;exact wM (λk=>.key k) cL
   ·have hn' : ¬ (j<s.size/\bt s j=45):=λh=>by
     apply Bool.eq_false_iff.1 hc;simp;exact h
    rw[if_neg hn']at k2;refine wK ?_;refine J3 uG cL ?_ ?_
    ·omega
    refine⟨(n,j,a ||| Db lo lo),⟨by simp only;omega,by simp only;omega,k2⟩,by simp only;omega,?_⟩;exact wM (λk=>.key k) cL
def sb:bP prog 269 where
 T:=375
 pre:=λW bs fs as_=>match fs,as_ with|[.val (.string s),.val (.int .i64 i)],[]=>0<=i/\s.size<=140737488351232/\bj W (Out bs)|_,_=>False
 out:=λW fs as_=>match fs,as_ with|[.val (.string s),.val (.int .i64 i)],[]=>LQ s (jH s i)|_,_=>.pan [] undef
 enters:=call269
 ok:=by
  intro W w bs u fp us fs as_ hk ho hlt hmine hu hp;split at hp
  ·rename_i s i
   match us,hu with
   |[],_=>
    exact Lw s i u fp w hp.1 hp.2.1 (hp.2.2.gh hk hmine) ho hlt
  ·exact hp.elim
theorem HV(W:World)(s:ByteArray)(i:Int):sb.out W [.val (.string s),.val (.int .i64 i)] []=LQ s (jH s i):=rfl
theorem HW(W:World)(bs:List Nat)(s:ByteArray)(i:Int):sb.pre W bs [.val (.string s),.val (.int .i64 i)] []=(0<=i/\s.size<=140737488351232/\bj W (Out bs)):=rfl
theorem Pt:sb.T=375:=rfl
noncomputable def J4:Env prog:=⟨λ| 270=>some PG.spec|224=>some Fc.spec|271=>some Gy.spec|245=>some ofC.spec|269=>some sb.spec|_=>none,λ| _=>none,λ_ _=>none⟩
theorem ahN:J4.sp 270=some PG.spec:=rfl
theorem ahK:J4.sp 224=some Fc.spec:=rfl
theorem ahO:J4.sp 271=some Gy.spec:=rfl
theorem ahL:J4.sp 245=some ofC.spec:=rfl
theorem ahM:J4.sp 269=some sb.spec:=rfl
def spc:ByteArray:=⟨#[40,41,91,93,123,125,124,38,45,42,43,63,46,92,47,94]⟩
def alg:Except Int (Int×Int)->Except Int (CS×Int)
 |.error j=>.error j
 |.ok (b,j)=>.ok (Db b b,j)
def jF(s:ByteArray)(i:Int):Except Int (CS×Int):=
 if bt s i=46 then .ok (~~~(V7 ⟨#[10]⟩ 1),i+1)
 else if bt s i=91 then jH s (i+1)
 else alg (od s i spc)
def j8:=(ae cL HV HW Pt @w5 @mz ahN (fg ahK ahO ahL ahM))
theorem ZW(s:ByteArray)(i:Int)(u:Value)(fp:List Nat)(w:World)(h0:0<=i)(h1:i<s.size)(hs:s.size<=140737488351232)(hg:bj w (Out fp))(ho:aY w u fp 375 (HB s i))(hlt:∀ b∈fp,b<w.heap.size) :
  Calls prog 268 (#[u]++#[]) w λe w' => dN w u fp 375 e w' (LQ s (jF s i)):=by
 obtain⟨b0,b1⟩:=jB s i;have w1:IntKind.i64.wrap (i+1)=i+1:=ax oM oM;refine aO (nt:=42) #[] [.cell 2 309] (by show 2<=7;omega) ho hlt func268 rfl rfl rfl ?_;refine vR J4 j8 ?_;refine Wp.seq ?_;refine zv J4 j8 ?_;refine vR J4 j8 ?_;refine Wp.block ?_;refine vR J4 j8 ?_;refine wC j8 (λhc=>?_) (λhc=>?_)
 ·simp at hc;have he:jF s i=.ok (~~~(V7 ⟨#[10]⟩ 1),i+1):=by rw[jF,if_pos hc]
  rw[he,w5];refine vR J4 (aa j8 w1) ?_;refine wR J4 j8 ?_ ?_
  ·decide
  refine wZ j8 ?_;exact⟨_,_,rfl,rfl,_,_,rfl,rfl,dE⟩
 ·simp at hc;have hc0:=hc;refine vR J4 j8 ?_;refine wC j8 (λhc=>?_) (λhc=>?_)
  ·simp at hc;have he:jF s i=jH s (i+1):=by rw[jF,if_neg hc0,if_pos hc]
   rw[he];refine vR J4 (aa j8 w1) ?_;cases h2:jH s (i+1) with
   |error j=>
    refine Wp.bo J4 aN (ev (aa j8 h2)) ?_ ?_
    ·simp[hs,hg];omega
    refine qq ?_;exact⟨_,rfl⟩
   |ok p=>
    obtain⟨a,j⟩:=p;refine wR J4 (aa j8 h2) ?_ ?_
    ·simp[hs,hg];omega
    refine wZ j8 ?_;exact⟨_,_,rfl,rfl,_,_,rfl,rfl,dE⟩
  ·simp at hc;have he:jF s i=alg (od s i spc):=by rw[jF,if_neg hc0,if_neg hc]
   rw[he];refine wK ?_;cases h2:od s i spc with
   |error j=>
    rw[spc]at h2;refine Wp.bo J4 aN (ev (aa j8 h2)) ?_ ?_
    ·simp[hs,hg];omega
    refine qq ?_;exact⟨_,rfl⟩
   |ok p=>
    obtain⟨b,j⟩:=p;obtain⟨o0,o1,o2,o3⟩:=tM h2 h0;rw[spc]at h2;refine wR J4 (aa j8 h2) ?_ ?_
    ·simp[hs,hg];omega
    refine wR J4 j8 ?_ ?_
    ·omega
    refine wZ j8 ?_;exact⟨_,_,rfl,rfl,_,_,rfl,rfl,dE⟩
def K8:bP prog 268 where
 T:=375
 pre:=λW bs fs as_=>match fs,as_ with|[.val (.string s),.val (.int .i64 i)],[]=>0<=i/\i<s.size/\s.size<=140737488351232/\bj W (Out bs)|_,_=>False
 out:=λW fs as_=>match fs,as_ with|[.val (.string s),.val (.int .i64 i)],[]=>LQ s (jF s i)|_,_=>.pan [] undef
 enters:=call268
 ok:=by
  intro W w bs u fp us fs as_ hk ho hlt hmine hu hp;split at hp
  ·rename_i s i
   match us,hu with
   |[],_=>
    exact ZW s i u fp w hp.1 hp.2.1 hp.2.2.1 (hp.2.2.2.gh hk hmine) ho hlt
  ·exact hp.elim
theorem Vm(W:World)(s:ByteArray)(i:Int):K8.out W [.val (.string s),.val (.int .i64 i)] []=LQ s (jF s i):=rfl
theorem Vn(W:World)(bs:List Nat)(s:ByteArray)(i:Int):K8.pre W bs [.val (.string s),.val (.int .i64 i)] []=(0<=i/\i<s.size/\s.size<=140737488351232/\bj W (Out bs)):=rfl
theorem afA:K8.T=375:=rfl
noncomputable def Γ20:Env prog:=⟨λ| 268=>some K8.spec|_=>none,λ| _=>none,λ_ _=>none⟩
theorem ah3:Γ20.sp 268=some K8.spec:=rfl
def pR(c i:Int)(t:ByteArray):Value:=.agg #[.int .i64 c,.int .i64 i,.string t]
def gu:=(ae @List.replicate_succ.{0} @List.replicate_zero.{0} @au @ab lx ly Tr (ae Tw TS lA di dj dk dm (ae dB dD dF dG eK eL eM (ae eN eO eP JU JV JW JX (ae vn vt vu vv vz vA vB (ae vC vD vE xz xA xB xC (ae xJ xK xL xM TG TH TJ (ae TK TL TM TN TO TP TQ (ae TR @aV @aw @aD @aF @σR.eq_1 @σL.eq_1 (ae @mq.eq_1 @mq.eq_2 @r8.eq_1 @r8.eq_2 @HB.eq_1 @Vm @Vn (ae @afA @w5 @mz @kM.eq_1 @cT @nq @nr (ae @np @kK @re @dw @JZ @iZ @List.drop_nil.{0} ah3))))))))))))
noncomputable def Y0:CatchC prog 267 where
 Ts:=[309,3,39]
 enters:=call267
 pre:=λvss pv=>(∃ a b c d e f g h,vss=[[a,b,c,d],[e],[f,g,h]])/\∃ c i t,pv=.iface 39 (pR c i t)
 out:=λvss pv=>[[.int .u64 0,.int .u64 0,.int .u64 0,.int .u64 0],[.int .i64 0],match pv with|.iface _ (.agg x)=>x.toList|_=>[]]
 pO:=λvss pv=>[cB 0,.int .i64 0,match pv with|.iface _ x=>x|_=>undef]
 vals_ok:=by
  rintro vss pv ⟨_,c,i,t,rfl⟩
  refine⟨.inl ⟨by simp only[iV,Op.operands,Value.cells,σ0,σB,Nat.reduceEqDiff,Nat.reduceAdd,Nat.reduceMul,Nat.reduceLT,Nat.reduceLeDiff,Nat.reduceBEq,av,Int.reduceToNat,Int.reduceLT,Int.reduceLE,Nat.reduceDiv,Nat.reduceMod,Nat.reduceSub,Int.reducePow,Nat.reducePow,σP,σB3,gu]<;>rfl,by simp only[iV,Op.operands,Value.cells,σ0,σB,Nat.reduceEqDiff,Nat.reduceAdd,Nat.reduceMul,Nat.reduceLT,Nat.reduceLeDiff,Nat.reduceBEq,av,Int.reduceToNat,Int.reduceLT,Int.reduceLE,Nat.reduceDiv,Nat.reduceMod,Nat.reduceSub,Int.reducePow,Nat.reducePow,σP,σB3,gu],?_⟩,.inr ⟨by simp only[iV,Op.operands,Value.cells,σ0,σB,Nat.reduceEqDiff,Nat.reduceAdd,Nat.reduceMul,Nat.reduceLT,Nat.reduceLeDiff,Nat.reduceBEq,av,Int.reduceToNat,Int.reduceLT,Int.reduceLE,Nat.reduceDiv,Nat.reduceMod,Nat.reduceSub,Int.reducePow,Nat.reducePow,σP,σB3,gu],rfl⟩,.inl ⟨by simp only[iV,Op.operands,Value.cells,σ0,σB,Nat.reduceEqDiff,Nat.reduceAdd,Nat.reduceMul,Nat.reduceLT,Nat.reduceLeDiff,Nat.reduceBEq,av,Int.reduceToNat,Int.reduceLT,Int.reduceLE,Nat.reduceDiv,Nat.reduceMod,Nat.reduceSub,Int.reducePow,Nat.reducePow,σP,σB3,gu]<;>rfl,by simp only[iV,Op.operands,Value.cells,σ0,σB,Nat.reduceEqDiff,Nat.reduceAdd,Nat.reduceMul,Nat.reduceLT,Nat.reduceLeDiff,Nat.reduceBEq,av,Int.reduceToNat,Int.reduceLT,Int.reduceLE,Nat.reduceDiv,Nat.reduceMod,Nat.reduceSub,Int.reducePow,Nat.reducePow,σP,σB3,gu],rfl⟩,trivial⟩
  rfl
 quiet:=λw us hl=>by
  match us,hl with
  | [u0,u1,u2],_=>
   refine lR (nt:=10) w _ func267 rfl rfl oM oM rfl ?_;refine vR Γ20 gu ?_;refine wC gu (λhc=>?_) (λhc=>?_)
   ·simp at hc
   ·refine wK ?_;simp only[iV,Op.operands,Value.cells,σ0,σB,Nat.reduceEqDiff,Nat.reduceAdd,Nat.reduceMul,Nat.reduceLT,Nat.reduceLeDiff,Nat.reduceBEq,av,Int.reduceToNat,Int.reduceLT,Int.reduceLE,Nat.reduceDiv,Nat.reduceMod,Nat.reduceSub,Int.reducePow,Nat.reducePow,σP,σB3,nE,gr,kU,iQ,gu]
    done
 caught:=λw us bl vss pv hl hn hlt hp=>by
  obtain⟨⟨a,b,c,d,e,f,g,h,rfl⟩,k,i,t,rfl⟩:=hp;have h3:=hl.len.1;refine kL (nt:=10) func267 rfl rfl oM oM ?_ hl hn hlt ?_ ?_
  ·rw[h3];rfl
  ·rw[h3];decide
  intro us _;refine vR Γ20 gu ?_;refine wC gu (λhc=>?_) (λhc=>?_)
  ·skip;refine vrD Γ20 (aa gu @pR.eq_1) ?_;refine wS gu ?_;exact⟨rfl,rfl,rfl,trivial⟩
  ·cases hc
def uC(c:Int)(a:CS)(j k:Int):Value:=.tuple #[cB a,.int .i64 j,pR c k ⟨#[]⟩]
def w8(s:ByteArray)(i:Int):Value:=
 if i<0\/s.size<=i then uC 2 0 0 0
 else match jF s i with
  |.error j=>uC 10 0 0 j
  |.ok (a,j)=>uC 0 a j 0
theorem abz(s:ByteArray)(i:Int)(w:World)(hs:s.size<=140737488351232)(hg:bj w (Out [])) :
  Calls prog 263 #[.string s,.int .i64 i] w λe w' => e=.returned (w8 s i)/\an w [] w' := by
 refine zP (nt:=31) func263 rfl rfl ?_;refine iR.seq' (rs:=[.cell 4 309,.cell 5 3,.cell 6 39]) rfl ?_;refine vr Γ20 gu ?_;refine iR.seq' (rs:=[.cell 4 309,.cell 5 3,.cell 6 39]) rfl ?_;refine vR Γ20 gu ?_;refine wC gu (λhc=>?_) (λhc=>?_)
 ·have hb:i<0\/s.size<=i:=by simpa using hc
  have he:w8 s i=uC 2 0 0 0:=by rw[w8,if_pos hb]
  rw[he];refine vR Γ20 gu ?_;refine wZ gu ?_;exact λE=>rfl
 ·have hb:¬ (i<0\/s.size<=i):=λh=>by
   apply Bool.eq_false_iff.1 hc;simpa using h
  have he:w8 s i=match jF s i with
    |.error j=>uC 10 0 0 j
    |.ok (a,j)=>uC 0 a j 0:=by rw[w8,if_neg hb]
  refine wK ?_;refine iR.Hr (rs:=[.cell 4 309,.cell 5 3,.cell 6 39]) rfl Y0 [4,5,6] [0,8,16] rfl dE rfl dE rfl rfl ?_ ?_ λus hus=>?_
  ·rintro p hp;simp only[List.zip_cons_cons,List.zip_nil_right,List.mem_cons,List.not_mem_nil,or_false]at hp;rcases hp with rfl|rfl|rfl<;>rfl
  ·rintro k hk;simp only[List.mem_cons,List.not_mem_nil,or_false]at hk;rcases hk with rfl|rfl|rfl<;>exact⟨_,_,rfl⟩
  have hi:0<=i/\i<s.size:=oM;refine vR Γ20 gu ?_;cases h2:jF s i with
  |error j=>
   rw[he,h2];refine Wp.bo Γ20 aN (ev (aa gu h2)) ?_ ?_
   ·simp[hs,hg];omega
   refine qq ?_;refine wS gu ?_;refine⟨.iface 39 (pR 10 j ⟨#[]⟩),[[.int .u64 0,.int .u64 0,.int .u64 0,.int .u64 0],[.int .i64 0],[.int .i64 0,.int .i64 0,.string ⟨#[]⟩]],rfl,⟨?_,?_,?_,?_,?_,?_,trivial⟩,⟨⟨_,_,_,_,_,_,_,_,rfl⟩,10,j,⟨#[]⟩,rfl⟩,λE=>rfl⟩
   all_goals rfl
  |ok p=>
   obtain⟨a,j⟩:=p;rw[he,h2];refine wR Γ20 (aa gu h2) ?_ ?_
   ·simp[hs,hg];omega
   refine zv Γ20 gu ?_;refine wZ gu ?_;exact λE=>rfl
end
end Go.Proofs.YtnemkecffmdlnaaGreatDoor
