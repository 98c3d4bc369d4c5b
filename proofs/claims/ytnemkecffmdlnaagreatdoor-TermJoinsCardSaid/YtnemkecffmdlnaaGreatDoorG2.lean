/-
 Part 2 of the proof (packed).
-/
import Derived.Test.YtnemkecffmdlnaaGreatDoorG1
import Derived.Deep.LoopGhost
import Derived.Test.YtnemkecffmdlnaaGreatDoorProg
import Derived.WalkKit
import Derived.ProofKit
import Derived.OpenShut
import Derived.JoinedCond
import Derived.Lib.SmallJoins
import Derived.ReadAgain
import Derived.Deep.Slices
import Derived.Deep.Strs
import Derived.Defers
import Derived.Recover
set_option linter.unusedSimpArgs false
set_option linter.unusedVariables false
set_option linter.defProp false
set_option maxHeartbeats 16000000
namespace Go.LE
section
open Go.RowKit
structure RG where
 side:Prop
 n:Nat
 φ:Fr
 h:Hp
 pans:List (Option (List PanicEntry))
 lost:List Nat
 fx:List (List Nat×List Nat)
section
variable {P:Program}{W:World}{bs:List Nat}{nt:Nat}{ds:Aux}{ops:Array Oper}(Γ:Env P)
def Mf(s:S)(g:RG):RG:=⟨s.side/\g.side,g.n,g.φ,g.h,s.pan::g.pans,s.uk++s.pupd++g.lost,(s.uk,s.reads)::g.fx⟩
def rz(Γ:Env P)(W:World)(bs:List Nat)(nt:Nat)(ops:Array Oper):List Oper->Nat->Fr->Hp->RG
 |[],κ,φ,h=>⟨True,κ,φ,h,[],[],[]⟩
 |o::r,κ,φ,h=>Mf (step Γ W bs nt ops κ φ h o) (rz Γ W bs nt ops r (κ+1) (pD φ o.dst (step Γ W bs nt ops κ φ h o).fv) (ba h (step Γ W bs nt ops κ φ h o).bu))
theorem Ik:∀ (l:List Oper) (κ m:Nat) (φ:Fr) (h:Hp),
  (rz Γ W bs nt ops l κ φ h).φ=bB (vH (tr Γ W bs nt ops l κ φ h)) m (λ_=>true) φ /\
  (rz Γ W bs nt ops l κ φ h).h=bB (yu (tr Γ W bs nt ops l κ φ h)) m (λ_=>true) h /\
  (rz Γ W bs nt ops l κ φ h).pans=(tr Γ W bs nt ops l κ φ h).map (·.2.pan) /\
  (rz Γ W bs nt ops l κ φ h).lost=uT (tr Γ W bs nt ops l κ φ h) /\
  (rz Γ W bs nt ops l κ φ h).fx=(tr Γ W bs nt ops l κ φ h).map (λp=>(p.2.uk,p.2.reads)) /\
  ((rz Γ W bs nt ops l κ φ h).side->∀ p∈tr Γ W bs nt ops l κ φ h,p.2.side)/\(rz Γ W bs nt ops l κ φ h).n=κ+l.length
 |[],_,_,_,_=>⟨rfl,rfl,rfl,rfl,rfl,by simp[tr],rfl⟩
 |o::r,κ,m,φ,h=>by
  obtain⟨h1,h2,h3,h4,h5,h6,h7⟩:=Ik r (κ+1) (m+1) (pD φ o.dst (step Γ W bs nt ops κ φ h o).fv) (ba h (step Γ W bs nt ops κ φ h o).bu);simp only[rz,Mf,tr,vH,yu,uT,List.map_cons,bB,if_true,List.flatMap_cons,List.mem_cons]at *
  refine⟨by rw[h1,tQ],by rw[h2],by rw[h3],by rw[h4],by rw[h5],?_,by rw[h7,List.length_cons];omega⟩;rintro⟨hs,hr⟩ p (rfl|hp)
  ·exact hs
  ·exact h6 hr p hp
def lu(ops:Array Oper):Bool:=
 (List.range ops.size).all λj=>match ops[j]? with
  |none=>true
  | some oj=>(oj.after.all λe=>!Region.binds .any e||decide (e.on<j))&&match oj.dst with
   |none=>true
   |some t=>(List.range ops.size).all λi=>i == j||match ops[i]? with
    |none=>true
    |some oi=>!((oi.looksAt ops).contains t||oi.dst == some t)||Y6 ops i j
def lJ(ops:Array Oper)(fx:List (List Nat×List Nat)):Bool:=
 (List.range fx.length).all λj=>match fx[j]? with
  |none=>true
  |some pj=>pj.1.isEmpty||(List.range fx.length).all λi=>i == j||match fx[i]? with
   |none=>true
   |some pi=>(pj.1.all λk=>!(pi.2.contains k||pi.1.contains k))||Y6 ops i j
theorem Zf{σ:St}(h1:lu ops=true)(h2:lJ ops (rz Γ W bs nt ops ops.toList σ.n σ.φ σ.h).fx=true):Draws ops (tr Γ W bs nt ops ops.toList σ.n σ.φ σ.h):=by
 have lt:∀ {α:Type} {l:Array α} {i:Nat} {x:α},l[i]?=some x->i<l.size:=λhx=>(Array.getElem?_eq_some_iff.1 hx).1
 unfold lu at h1;rw[List.all_eq_true]at h1;constructor
 ·intro j o ho e he hb;have:=h1 j (List.mem_range.2 (lt ho));rw[ho]at this;simp only[Bool.and_eq_true]at this;have:=Array.all_eq_true.1 this.1;obtain⟨i,hi,hie⟩:=Array.mem_iff_getElem.1 he;have:=this i hi;rw[hie,hb]at this;simpa using this
 ·intro i j oi oj t hij hi hj hd hc;have:=h1 j (List.mem_range.2 (lt hj));rw[hj]at this;simp only[Bool.and_eq_true,hd,List.all_eq_true]at this;have:=this.2 i (List.mem_range.2 (lt hi));rw[hi]at this;have hij' : (i == j)=false:=by simpa using hij
  simp only[hij',Bool.false_or]at this;have hc' : ((oi.looksAt ops).contains t||oi.dst == some t)=true:=by
   rcases hc with hc|hc
   ·simp[hc]
   ·simp[hc]
  rw[hc']at this;exact oZ (by simpa using this)
 ·intro i j oi oj si sj k hij hi hj hk hc;rw[(Ik Γ ops.toList σ.n 0 σ.φ σ.h).2.2.2.2.1]at h2;unfold lJ at h2;rw[List.all_eq_true]at h2;have llt:∀ {l:List (Oper×S)} {i:Nat} {x:Oper×S},l[i]?=some x->i<(l.map (λp=>(p.2.uk,p.2.reads))).length:=λhx=>by simpa using (List.getElem?_eq_some_iff.1 hx).1
  have huk:∀ (i:Nat) (o:Oper) (s:S),(tr Γ W bs nt ops ops.toList σ.n σ.φ σ.h)[i]?=some (o,s)->∀ k∈cq s.bu,k∈s.uk:=λi o s hT k hk=>by
   have:=(kQ Γ ops.toList σ.n 0 σ.φ σ.h i o s hT).2;rw[this]at hk ⊢;exact IW Γ hk
  have:=h2 j (List.mem_range.2 (llt hj));simp only[List.getElem?_map,hj,Option.map_some,Bool.or_eq_true,List.all_eq_true]at this;rcases this with this|this
  ·have hk' := huk j oj sj hj k hk;rw[List.isEmpty_iff]at this;rw[this]at hk';cases hk'
  ·have:=this i (List.mem_range.2 (llt hi));simp only[hi,Option.map_some]at this;have hij' : (i == j)=false:=by simpa using hij
   rw[hij']at this;simp only[Bool.false_eq_true,false_or,Bool.or_eq_true,List.all_eq_true]at this;rcases this with this|this
   ·have:=this k (huk j oj sj hj k hk);rcases hc with hc|hc
    ·simp[hc]at this
    ·simp[huk i oi si hi k hc]at this
   ·exact oZ this
theorem Sy{σ:St}{S:Nat->Bool}{a:Act}{w:World}(I:Inv W bs nt ds (tr Γ W bs nt ops ops.toList σ.n σ.φ σ.h) σ S a w)(hS:∀ i,i<ops.size->S i=true)(hS' : ∀ i,S i=true->i<ops.size)(hσp:∀ p∈ds.pins,p.1 / 8<σ.n) :
  Sat W bs nt ds ⟨σ.n+ops.size,(rz Γ W bs nt ops ops.toList σ.n σ.φ σ.h).φ,(rz Γ W bs nt ops ops.toList σ.n σ.φ σ.h).h⟩ a w:=by
 obtain⟨e1,e2,_⟩:=Ik Γ ops.toList σ.n 0 σ.φ σ.h (W:=W) (bs:=bs) (nt:=nt) (ops:=ops);have ef:bB (vH (tr Γ W bs nt ops ops.toList σ.n σ.φ σ.h)) 0 S σ.φ=bB (vH (tr Γ W bs nt ops ops.toList σ.n σ.φ σ.h)) 0 (λ_=>true) σ.φ:=funext λt=>kh rfl λi u hi _=>by
  have:=(List.getElem?_eq_some_iff.1 hi).1;simp only[vH,List.length_map,qp,Array.length_toList]at this;rw[Nat.zero_add];exact hS i this
 have eh:bB (yu (tr Γ W bs nt ops ops.toList σ.n σ.φ σ.h)) 0 S σ.h=bB (yu (tr Γ W bs nt ops ops.toList σ.n σ.φ σ.h)) 0 (λ_=>true) σ.h:=funext λt=>kh rfl λi u hi _=>by
  have:=(List.getElem?_eq_some_iff.1 hi).1;simp only[yu,List.length_map,qp,Array.length_toList]at this;rw[Nat.zero_add];exact hS i this
 obtain⟨hex,hsz,hdf,hfk,hhk⟩:=I;rw[ef]at hfk hex;rw[eh]at hhk hex;have conv:∀ k,KS σ.n S k->k / 8<σ.n+ops.size:=λk hk=>by
  rcases hk with hk|⟨j,hj,e⟩
  ·omega
  ·have:=hS' j hj;omega
 refine⟨by rw[e1,e2];exact hex,hsz,hdf,λp hp=>Nat.lt_of_lt_of_le (hσp p hp) (Nat.le_add_right _ _),?_,?_⟩
 ·rw[e1];exact λt k hk=>conv k (hfk t k hk)
 ·rw[e2];exact λk e hk=>⟨conv k (hhk k e hk).1,λj hj=>conv j ((hhk k e hk).2 j hj)⟩
theorem tE{σ:St}{a:Act}{w:World}(hsat:Sat W bs nt ds σ a w){V:Nat->Bool}(hS:∀ i,V i=false)(T:List (Oper×S)):Inv W bs nt ds T σ V a w:=by
 obtain⟨hex,hsz,hdf,_,hfk,hhk⟩:=hsat;have ef:bB (vH T) 0 V σ.φ=σ.φ:=rH λi _=>hS _
 have eh:bB (yu T) 0 V σ.h=σ.h:=rH λi _=>hS _
 refine⟨by rw[ef,eh];exact hex,hsz,hdf,?_,?_⟩
 ·rw[ef];exact λt k hk=>.inl (hfk t k hk)
 ·rw[eh];exact λk e hk=>⟨.inl (hhk k e hk).1,λj hj=>.inl ((hhk k e hk).2 j hj)⟩
theorem CQ{σ:St}{Q:Exit->Act->World->Prop}(hσf:n7 (· / 8<σ.n) σ.φ)(hσh:bU (· / 8<σ.n) σ.h)(hσp:∀ p∈ds.pins,p.1 / 8<σ.n)
  (hside:∀ p∈tr Γ W bs nt ops ops.toList σ.n σ.φ σ.h,p.2.side)
  (hQ:(∀ p∈tr Γ W bs nt ops ops.toList σ.n σ.φ σ.h,p.2.pan=none)->∀ a' w',Sat W bs nt ds ⟨σ.n+ops.size,(rz Γ W bs nt ops ops.toList σ.n σ.φ σ.h).φ,(rz Γ W bs nt ops ops.toList σ.n σ.φ σ.h).h⟩ a' w' -> Q .normal a' w')
  (hP:∀ p∈tr Γ W bs nt ops ops.toList σ.n σ.φ σ.h,∀ c,p.2.pan=some c->∀ a' w',Sat W bs nt ds ⟨σ.n,uc ops σ.φ,dropKeys σ.h (uT (tr Γ W bs nt ops ops.toList σ.n σ.φ σ.h))⟩ a' w' -> Q (.panic c) a' w') :
  ∀ (m i:Nat),i+m=ops.size->(∀ j o s,j<i->(tr Γ W bs nt ops ops.toList σ.n σ.φ σ.h)[j]?=some (o,s)->s.pan=none)->∀ a w,Inv W bs nt ds (tr Γ W bs nt ops ops.toList σ.n σ.φ σ.h) σ (λj=>decide (j<i)) a w->wpOps P ops Q (List.range' i m) a w
 | 0,i,hi,hpr,a,w,I=>hQ (λp hp=>by
   obtain⟨j,hj⟩:=List.getElem?_of_mem hp
   have hlt:=(List.getElem?_eq_some_iff.1 hj).1
   rw[qp,Array.length_toList]at hlt
   exact hpr j p.1 p.2 oM hj) a w (Sy Γ I (λj hj=>by simp;omega) (λj hj=>by simp at hj;omega) hσp)
 | m+1,i,hi,hpr,a,w,I=>by
  rw[List.range'_succ,wpOps_cons];have hlt:i<ops.toList.length:=by simp;omega
  obtain⟨s,hT⟩:=I2 Γ (W:=W) (bs:=bs) (nt:=nt) (ops:=ops) (κ:=σ.n) (φ:=σ.φ) (h:=σ.h) (List.getElem?_eq_getElem hlt);have hz:∀ j,decide (j<0+i)=decide (j<i):=λj=>by simp
  refine one Γ (L:=uT (tr Γ W bs nt ops ops.toList σ.n σ.φ σ.h)) (λj p hp _ k hk=>List.mem_flatMap.2 ⟨p,List.mem_of_getElem? hp,hk⟩) hT (S' := λj=>decide (j<i+1)) sI sI (λj hj=>by simp;omega) (λt _=>by simp only[hz]) (λt _=>by simp only[hz]) (λj v hj _ hs=>by simp at hs;omega) (λj v hj _ hs=>by simp at hs;omega) I (hside _ (List.mem_of_getElem? hT)) (λhpn=>CQ hσf hσh hσp hside hQ hP m (i+1) oM (λj o s' hj hs' => by
   by_cases hji:j=i
   ·subst hji;rw[hT]at hs';cases hs';exact hpn
   ·exact hpr j o s' oM hs')) (λc hc a' w' => hP _ (List.mem_of_getElem? hT) c hc a' w') hσf hσh hσp
theorem P7{σ:St}{Q:Exit->Act->World->Prop}(hσf:n7 (· / 8<σ.n) σ.φ)(hσh:bU (· / 8<σ.n) σ.h)(hσp:∀ p∈ds.pins,p.1 / 8<σ.n)
  (hd:Draws ops (tr Γ W bs nt ops ops.toList σ.n σ.φ σ.h))
  (hside:∀ p∈tr Γ W bs nt ops ops.toList σ.n σ.φ σ.h,p.2.side)
  (hQ:(∀ p∈tr Γ W bs nt ops ops.toList σ.n σ.φ σ.h,p.2.pan=none)->∀ a' w',Sat W bs nt ds ⟨σ.n+ops.size,(rz Γ W bs nt ops ops.toList σ.n σ.φ σ.h).φ,(rz Γ W bs nt ops ops.toList σ.n σ.φ σ.h).h⟩ a' w' -> Q .normal a' w')
  (hP:∀ p∈tr Γ W bs nt ops ops.toList σ.n σ.φ σ.h,∀ c,p.2.pan=some c->∀ a' w',Sat W bs nt ds ⟨σ.n,uc ops σ.φ,dropKeys σ.h (uT (tr Γ W bs nt ops ops.toList σ.n σ.φ σ.h))⟩ a' w' -> Q (.panic c) a' w') :
  ∀ (fuel:Nat) (listed:Array Bool) (a:Act) (w:World),listed.size=ops.size->listed.toList.count false<=fuel ->
   (∀ j o,ops[j]?=some o->listed.getD j false=true->∀ e∈o.after,Region.binds .any e=true->listed.getD e.on false=true) ->
   (∀ j o s,listed.getD j false=true->(tr Γ W bs nt ops ops.toList σ.n σ.φ σ.h)[j]?=some (o,s)->s.pan=none) ->
   Inv W bs nt ds (tr Γ W bs nt ops ops.toList σ.n σ.φ σ.h) σ (λj=>listed.getD j false) a w->wpAny P .any ops Q fuel listed a w:=by
 have gd:∀ (l:Array Bool) i,i<l.size->l.getD i true=l.getD i false:=λl i hi=>by simp[Array.getD_eq_getD_getElem?,Array.getElem?_eq_getElem hi]
 have done:∀ (listed:Array Bool) (a:Act) (w:World),listed.size=ops.size->Region.ready .any ops listed=[] ->
   (∀ j o s,listed.getD j false=true->(tr Γ W bs nt ops ops.toList σ.n σ.φ σ.h)[j]?=some (o,s)->s.pan=none) ->
   Inv W bs nt ds (tr Γ W bs nt ops ops.toList σ.n σ.φ σ.h) σ (λj=>listed.getD j false) a w->Q .normal a w:=by
  intro listed a w hsz hr hpr I;have all:∀ i,i<ops.size->listed.getD i false=true:=by
   intro i
   induction i using Nat.strongRecOn with
   | _ i ih=>
    intro hi;cases hl:listed.getD i false with
    |true=>rfl
    | false=>
     exfalso;have:i∈Region.ready .any ops listed:=by
      refine List.mem_filter.2 ⟨List.mem_range.2 hi,?_⟩;rw[gd _ _ oM,hl];simp only[Bool.not_false,Bool.true_and,Array.getElem?_eq_getElem hi,Option.map_some,Option.getD_some];rw[Array.all_eq_true];intro j hj;cases hb:Region.binds .any (ops[i].after[j]) with
      |false=>rfl
      |true=>
       have hlt:=hd.edge i ops[i] (Array.getElem?_eq_getElem hi) (ops[i].after[j]) (Array.getElem_mem hj) hb;simpa using ih _ hlt oM
     rw[hr]at this;cases this
  refine hQ (λp hp=>?_) a w (Sy Γ I all (λi hi=>?_) hσp)
  ·obtain⟨j,hj⟩:=List.getElem?_of_mem hp;have hlt:=(List.getElem?_eq_some_iff.1 hj).1;rw[qp,Array.length_toList]at hlt;exact hpr j p.1 p.2 (all j hlt) hj
  by_cases hlt:i<listed.size
  ·omega
  ·simp[Array.getD_eq_getD_getElem?,Array.getElem?_eq_none (Nat.le_of_not_lt hlt)]at hi
 intro fuel
 induction fuel with
 | zero=>
  intro listed a w hsz hc hcl hpr I;have hr:Region.ready .any ops listed=[]:=by
   refine List.filter_eq_nil_iff.2 λi hi=>?_
   have hi' : i<listed.size:=by rw[hsz];exact List.mem_range.1 hi
   have:listed.getD i true=true:=by
    rw[Array.getD_eq_getD_getElem?,Array.getElem?_eq_getElem hi'];simp only[Option.getD_some];have h0:=List.count_eq_zero.1 (Nat.le_zero.1 hc);cases hv:listed[i] with
    |true=>rfl
    |false=>exact absurd (by rw[<- hv];simp) h0
   simp[this]
  exact⟨hr,done listed a w hsz hr hpr I⟩
 | succ fuel ih=>
  intro listed a w hsz hc hcl hpr I;refine⟨λhr=>done listed a w hsz hr hpr I,λi hi=>?_⟩;obtain⟨hi,hready⟩:=List.mem_filter.1 hi;have hi:=List.mem_range.1 hi;have ho:ops[i]?=some ops[i]:=Array.getElem?_eq_getElem hi;have hil:i<listed.size:=oM;rw[gd _ _ hil]at hready
  simp only[ho,Option.map_some,Option.getD_some,Bool.and_eq_true,Bool.not_eq_true']at hready;obtain⟨hli,hpre⟩:=hready;rw[Array.all_eq_true]at hpre
  obtain⟨s,hT⟩:=I2 Γ (W:=W) (bs:=bs) (nt:=nt) (ops:=ops) (κ:=σ.n) (φ:=σ.φ) (h:=σ.h) (l:=ops.toList) (i:=i) (o:=ops[i]) (by rw[Array.getElem?_toList];exact ho);have hset:∀ j,(listed.setIfInBounds i true).getD j false=if j=i then true else listed.getD j false:=λj=>by
   simp only[Array.getD_eq_getD_getElem?,Array.getElem?_setIfInBounds];by_cases hji:i=j
   ·subst hji;simp[hil]
   ·rw[if_neg hji,if_neg (Ne.symm hji)]
  have hcl' : ∀ j o,ops[j]?=some o->(listed.setIfInBounds i true).getD j false=true->∀ e∈o.after,Region.binds .any e=true->(listed.setIfInBounds i true).getD e.on false=true:=by
   intro j o hj hl e he hb;rw[hset]at hl ⊢;split
   ·rfl
   ·split at hl
    ·rename_i hji;subst hji;rw[ho]at hj;cases hj;obtain⟨m,hm,hme⟩:=Array.mem_iff_getElem.1 he;have:=hpre m hm;rw[hme,hb]at this;simpa using this
    ·exact hcl j o hj hl e he hb
  have rb:∀ j,Reach ops j i->j≠i->listed.getD j false=true:=λj hr hji=>by
   have:=jL (S:=λj=>(listed.setIfInBounds i true).getD j false) hcl' hr (by simp only[hset,if_pos]);simp only[hset,if_neg hji]at this;exact this
  have ra:∀ j,Reach ops i j->listed.getD j false=false:=λj hr=>by
   cases hl:listed.getD j false with
   |false=>rfl
   |true=>
    have:=jL (S:=λj=>listed.getD j false) hcl hr hl;simp only[hli]at this;cases this
  have agree:∀ j,j≠i->Cmp ops i j->listed.getD j false=decide (j<0+i):=λj hji hc=>by
   rw[Nat.zero_add];by_cases hlt:j<i
   ·rw[rb j (hc.2 hlt) hji];simp[hlt]
   ·rw[ra j (hc.1 oM)];simp[hlt]
  have self:listed.getD i false=decide (i<0+i):=by rw[hli];simp
  have inT:∀ (j:Nat) (v:List (Nat×FV)),(vH (tr Γ W bs nt ops ops.toList σ.n σ.φ σ.h))[j]?=some v->∃ (o:Oper) (s:S),(tr Γ W bs nt ops ops.toList σ.n σ.φ σ.h)[j]?=some (o,s)/\ops[j]?=some o/\v=uO o s:=λj v hv=>by
   simp only[vH,List.getElem?_map,Option.map_eq_some_iff]at hv;obtain⟨⟨o,s⟩,h1,h2⟩:=hv;have:=(kQ Γ ops.toList σ.n 0 σ.φ σ.h j o s h1).1;rw[Array.getElem?_toList]at this;exact⟨o,s,h1,this,h2.symm⟩
  have inH:∀ (j:Nat) (v:List (Nat×Option aZ)),(yu (tr Γ W bs nt ops ops.toList σ.n σ.φ σ.h))[j]?=some v->∃ (o:Oper) (s:S),(tr Γ W bs nt ops ops.toList σ.n σ.φ σ.h)[j]?=some (o,s)/\v=s.bu:=λj v hv=>by
   simp only[yu,List.getElem?_map,Option.map_eq_some_iff]at hv;obtain⟨⟨o,s⟩,h1,h2⟩:=hv;exact⟨o,s,h1,h2.symm⟩
  refine one Γ (L:=uT (tr Γ W bs nt ops ops.toList σ.n σ.φ σ.h)) (λj p hp _ k hk=>List.mem_flatMap.2 ⟨p,List.mem_of_getElem? hp,hk⟩) hT (S:=λj=>listed.getD j false) (S' := λj=>(listed.setIfInBounds i true).getD j false) hli (by simp only[hset,if_pos]) (λj hj=>by simp only[hset,if_neg hj]) (λt ht=>?_) (λk hk=>?_) (λj v hij hv hs k hk hk' => ?_) (λj v hij hv hs k hk hk' => ?_) I (hside _ (List.mem_of_getElem? hT)) (λhpn a' w' I' => ?_) (λc hc a' w' => hP _ (List.mem_of_getElem? hT) c hc a' w') hσf hσh hσp
  ·refine kh rfl λj u hj hju=>?_
   obtain⟨o',s',_,hj',rfl⟩:=inT j u hj;rw[Nat.zero_add];by_cases hji:j=i
   ·subst hji;exact self
   ·exact agree j hji (hd.slot i j _ o' t (Ne.symm hji) ho hj' (kq.1 hju) (.inl ht))
  ·refine kh rfl λj u hj hju=>?_
   obtain⟨o',s',hj',rfl⟩:=inH j u hj;rw[Nat.zero_add];by_cases hji:j=i
   ·subst hji;exact self
   ·exact agree j hji (hd.heap i j _ o' _ s' k (Ne.symm hji) hT hj' hju (.inl hk))
  ·obtain⟨o',s',_,hj',rfl⟩:=inT j v hv;have:=ra j ((hd.slot i j _ o' k oM ho hj' (kq.1 hk') (.inr (kq.1 hk))).1 hij);rw[this]at hs;cases hs
  ·obtain⟨o',s',hj',rfl⟩:=inH j v hv;have:=ra j ((hd.heap i j _ o' _ s' k oM hT hj' hk' (.inr hk)).1 hij);rw[this]at hs;cases hs
  ·refine ih _ a' w' (by simpa using hsz) ?_ hcl' (λj o' s' hj hs' => ?_) I'
   rotate_left
   ·by_cases hji:j=i
    ·subst hji;rw[hT]at hs';cases hs';exact hpn
    ·rw[hset,if_neg hji]at hj;exact hpr j o' s' hj hs'
   rw[Array.toList_setIfInBounds,List.count_set (by simpa using hil)];have e1:listed.toList[i]'(by simpa using hil)=false:=by
    rw[Array.getD_eq_getD_getElem?,Array.getElem?_eq_getElem hil]at hli;simpa using hli
   rw[e1];have hpos:0<listed.toList.count false:=List.count_pos_iff.2 (e1 ▸ List.getElem_mem _);simp only[beq_self_eq_true,if_true,show (true == false)=false from rfl,Bool.false_eq_true,if_false];omega
theorem WG{id:Nat}{d:Bool}{σ:St}{Q:Exit->Act->World->Prop}{a:Act}{w:World}(hm:P.follows .mixedOrders=true)(hsat:Sat W bs nt ds σ a w)
  {g:RG} (hg:rz Γ W bs nt ops ops.toList σ.n σ.φ σ.h=g) (hside:g.side) (hd:d=true->lu ops=true/\lJ ops g.fx=true)
  (hQ:(∀ x∈g.pans,x=none)->∀ a' w',Sat W bs nt ds ⟨g.n,g.φ,g.h⟩ a' w' -> Q .normal a' w')
  (hP:∀ c,some c∈g.pans->∀ a' w',Sat W bs nt ds ⟨σ.n,uc ops σ.φ,dropKeys σ.h g.lost⟩ a' w' -> Q (.panic c) a' w') :
  (Code.region id ops d).wp P Q a w:=by
 subst hg;obtain⟨_,_,h3,h4,_,h6,h7⟩:=Ik Γ ops.toList σ.n 0 σ.φ σ.h (W:=W) (bs:=bs) (nt:=nt) (ops:=ops);rw[Array.length_toList]at h7;rw[h7]at hQ
 have hP' : ∀ p∈tr Γ W bs nt ops ops.toList σ.n σ.φ σ.h,∀ c,p.2.pan=some c->∀ a' w',Sat W bs nt ds ⟨σ.n,uc ops σ.φ,dropKeys σ.h (uT (tr Γ W bs nt ops ops.toList σ.n σ.φ σ.h))⟩ a' w' -> Q (.panic c) a' w' := by
  intro p hp c hc;rw[<- h4];exact hP c (by rw[h3];exact List.mem_map.2 ⟨p,hp,hc⟩)
 have hQ' := λ(hall:∀ p∈tr Γ W bs nt ops ops.toList σ.n σ.φ σ.h,p.2.pan=none)=>hQ (by
  rw[h3]
  intro x hx
  obtain⟨p,hp,rfl⟩:=List.mem_map.1 hx
  exact hall p hp)
 cases d with
 |false=>
  refine wp_region ?_;rw[List.range_eq_range'];exact CQ Γ hsat.fk hsat.hk hsat.pk (h6 hside) hQ' hP' ops.size 0 oM (λj o s hj=>by omega) a w (tE hsat sI _)
 | true=>
  refine wp_region_any hm ?_;have hsat' : Sat W bs nt ds σ a { w with drawn:=w.drawn+1 }:=by
   obtain⟨⟨E,F,hf,hh,hp⟩,h1,h2,h3,h4,h5⟩:=hsat;exact⟨⟨E,F,hf,hh.grow ⟨rfl,rfl,rfl,Nat.le_refl _,λ_ _ _=>rfl⟩,hp⟩,h1,h2,h3,h4,h5⟩
  have hz:∀ i,(Array.replicate ops.size false).getD i false=false:=λi=>by
   simp only[Array.getD_eq_getD_getElem?,Array.getElem?_replicate];split<;>rfl
  refine P7 Γ hsat.fk hsat.hk hsat.pk (Zf Γ (hd rfl).1 (hd rfl).2) (h6 hside) hQ' hP' ops.size _ a _ sI (by simp[List.count_replicate]) (λj o _ hj=>by rw[hz]at hj;cases hj) (λj o s hj=>by rw[hz]at hj;cases hj) (tE hsat' hz _)
structure RP where
 side:Prop
 pan:Option (List PanicEntry)
 lost:List Nat
def Mg(s:S)(g:RP):RP:=⟨s.side/\g.side,g.pan,s.uk++s.pupd++g.lost⟩
def CU(Γ:Env P)(W:World)(bs:List Nat)(nt:Nat)(ops:Array Oper):List Oper->Nat->Fr->Hp->RP
 |[],_,_,_=>⟨True,none,[]⟩
 |o::r,κ,φ,h=>match (step Γ W bs nt ops κ φ h o).pan with
  |some c=>⟨(step Γ W bs nt ops κ φ h o).side,some c,(step Γ W bs nt ops κ φ h o).uk++(step Γ W bs nt ops κ φ h o).pupd⟩
  |none=>Mg (step Γ W bs nt ops κ φ h o) (CU Γ W bs nt ops r (κ+1) (pD φ o.dst (step Γ W bs nt ops κ φ h o).fv) (ba h (step Γ W bs nt ops κ φ h o).bu))
theorem S8{c:List PanicEntry}:∀ (l:List Oper) (κ:Nat) (φ:Fr) (h:Hp),(CU Γ W bs nt ops l κ φ h).pan=some c->(CU Γ W bs nt ops l κ φ h).side ->
  ∃ (i:Nat) (p:Oper×S),(tr Γ W bs nt ops l κ φ h)[i]?=some p/\p.2.pan=some c/\(∀ (j:Nat) (q:Oper×S),j<=i->(tr Γ W bs nt ops l κ φ h)[j]?=some q->q.2.side)/\(∀ (j:Nat) (q:Oper×S),j<i->(tr Γ W bs nt ops l κ φ h)[j]?=some q->q.2.pan=none) /\
   ∀ (j:Nat) (q:Oper×S),j<=i->(tr Γ W bs nt ops l κ φ h)[j]?=some q->∀ k∈q.2.uk++q.2.pupd,k∈(CU Γ W bs nt ops l κ φ h).lost
 |[],_,_,_,hp,_=>by cases hp
 | o::r,κ,φ,h,hp,hs=>by
  have ih:=S8 (c:=c) r (κ+1) (pD φ o.dst (step Γ W bs nt ops κ φ h o).fv) (ba h (step Γ W bs nt ops κ φ h o).bu);unfold CU at hp hs ⊢;simp only[tr];cases hpn:(step Γ W bs nt ops κ φ h o).pan with
  | some c' =>
   rw[hpn]at hp hs;simp only[Option.some.injEq]at hp hs;subst hp;refine⟨0,_,rfl,hpn,λj q hj hq=>?_,λj q hj hq=>by omega,λj q hj hq k hk=>?_⟩
   ·obtain rfl:j=0:=oM;simp at hq;subst hq;exact hs
   ·obtain rfl:j=0:=oM;simp at hq;subst hq;exact hk
  | none=>
   rw[hpn]at hp hs;simp only[Mg]at hp hs ⊢;obtain⟨i,p,h1,h2,h3,h4,h5⟩:=ih hp hs.2;refine⟨i+1,p,by simpa using h1,h2,λj q hj hq=>?_,λj q hj hq=>?_,λj q hj hq k hk=>?_⟩
   ·cases j with
    |zero=>simp at hq;subst hq;exact hs.1
    |succ j=>exact h3 j q oM (by simpa using hq)
   ·cases j with
    |zero=>simp at hq;subst hq;exact hpn
    |succ j=>exact h4 j q oM (by simpa using hq)
   ·cases j with
    |zero=>simp at hq;subst hq;exact List.mem_append_left _ hk
    |succ j=>exact List.mem_append_right _ (h5 j q oM (by simpa using hq) k hk)
theorem P8{id:Nat}{σ:St}{Q:Exit->Act->World->Prop}{a:Act}{w:World}(hsat:Sat W bs nt ds σ a w){side:Prop}{c:List PanicEntry}{lost:List Nat}
  (hg:CU Γ W bs nt ops ops.toList σ.n σ.φ σ.h=⟨side,some c,lost⟩) (hside:side)
  (hP:∀ a' w',Sat W bs nt ds ⟨σ.n,uc ops σ.φ,dropKeys σ.h lost⟩ a' w' -> Q (.panic c) a' w'):(Code.region id ops false).wp P Q a w:=by
 obtain⟨i,p,h1,h2,h3,h4,h5⟩:=S8 Γ (c:=c) ops.toList σ.n σ.φ σ.h (by rw[hg]) (by rw[hg];exact hside);rw[hg]at h5;simp only at h5;have hilt:i<ops.size:=by
  have:=(List.getElem?_eq_some_iff.1 h1).1
  rwa [qp,Array.length_toList]at this
 have key:∀ m i',i' + m=ops.size->i' <= i->∀ a w,Inv W bs nt ds (tr Γ W bs nt ops ops.toList σ.n σ.φ σ.h) σ (λj=>decide (j<i')) a w->wpOps P ops Q (List.range' i' m) a w:=by
  intro m
  induction m with
  |zero=>intro i' h1 h2;omega
  | succ m ih=>
   intro i' hi hle a w I;rw[List.range'_succ,wpOps_cons];have hlt:i' < ops.toList.length:=by simp;omega
   obtain⟨s,hT⟩:=I2 Γ (W:=W) (bs:=bs) (nt:=nt) (ops:=ops) (κ:=σ.n) (φ:=σ.φ) (h:=σ.h) (List.getElem?_eq_getElem hlt);have hz:∀ j,decide (j<0+i')=decide (j<i'):=λj=>by simp
   refine one Γ (L:=lost) (λj q hq hj k hk=>h5 j q (hj.elim (λhj=>by have:=of_decide_eq_true hj;omega) (λhj=>by omega)) hq k hk) hT (S' := λj=>decide (j<i' + 1)) sI sI (λj hj=>by simp;omega) (λt _=>by simp only[hz]) (λt _=>by simp only[hz]) (λj v hj _ hs=>by simp at hs;omega) (λj v hj _ hs=>by simp at hs;omega) I (h3 i' _ hle hT) (λhpn=>?_) (λc' hc a' w' hs' => ?_) hsat.fk hsat.hk hsat.pk
   ·by_cases hii:i' = i
    ·subst hii;rw[h1]at hT;simp only[Option.some.injEq]at hT;subst hT;rw[h2]at hpn;cases hpn
    ·exact ih (i' + 1) oM oM
   ·by_cases hii:i' = i
    ·subst hii;rw[h1]at hT;simp only[Option.some.injEq]at hT;subst hT;rw[h2]at hc;simp only[Option.some.injEq]at hc;subst hc;exact hP a' w' hs'
    ·have:=h4 i' _ oM hT;rw[this]at hc;cases hc
 refine wp_region ?_;rw[List.range_eq_range'];exact key ops.size 0 oM oM a w (tE hsat sI _)
end
structure Ext (W:World)(bs:List Nat)(W' : World)(bs' : List Nat):Prop where
 keeps:an W bs W'
 sub:∀ b∈bs',W.heap.size<=b\/b∈bs
theorem Ext.refl(W:World)(bs:List Nat):Ext W bs W bs:=⟨an.refl W bs,λ_ h=>.inr h⟩
theorem Ext.trans{W W' W'' : World}{bs bs' bs'' : List Nat}(h:Ext W bs W' bs')(h' : Ext W' bs' W'' bs''):Ext W bs W'' bs'' :=
 ⟨h.keeps.trans h'.keeps λb hb hlt=>(h.sub b hb).resolve_left oM,λb hb=>(h'.sub b hb).elim (λh1=>.inl (Nat.le_trans h.keeps.size h1)) λh1=>h.sub b h1⟩
theorem Ext.fR{W W' w:World}{bs bs' : List Nat}(h:Ext W bs W' bs')(h' : an W' bs' w):an W bs w:=
 h.keeps.trans h' λb hb hlt=>(h.sub b hb).resolve_left oM
theorem aj.back{W W' w:World}{bs bs' : List Nat}{E:Nat->Value}{F:Nat->List Nat}{h:Hp}(he:Ext W bs W' bs')(hs:aj W' bs' E F h w):aj W bs E F h w:=
 ⟨hs.ent,hs.lt,λk e hk b hb=>(hs.mine k e hk b hb).elim (λh1=>.inl (Nat.le_trans he.keeps.size h1)) λh1=>he.sub b h1,hs.apart,he.fR hs.keeps⟩
theorem Sat.back{W W' : World}{bs bs' : List Nat}{nt:Nat}{ds:Aux}{σ:St}{a:Act}{w:World}(he:Ext W bs W' bs')(h:Sat W' bs' nt ds σ a w):Sat W bs nt ds σ a w:=by
 obtain⟨⟨E,F,hf,hs,hp⟩,h1,h2,h3,h4,h5⟩:=h;exact⟨⟨E,F,hf,hs.back he,hp⟩,h1,h2,h3,h4,h5⟩
abbrev mf:=Exit->World->List Nat->St->Prop
def Wp(P:Program)(W:World)(bs:List Nat)(nt:Nat)(ds:Aux)(c:Code)(Q:mf)(σ:St):Prop:=
 ∀ a w,Sat W bs nt ds σ a w->c.wp P (λe a' w' => ∃ W' bs' σ',Ext W bs W' bs' /\ Q e W' bs' σ' /\ Sat W' bs' nt ds σ' a' w') a w
def Le(W:World)(bs:List Nat)(nt:Nat)(ds:Aux)(σ σ' : St):Prop:=∀ a w,Sat W bs nt ds σ a w->Sat W bs nt ds σ' a w
def Th(next:World->List Nat->St->Prop)(Q:mf):mf
 |.normal,W,bs,σ=>next W bs σ
 |e,W,bs,σ=>Q e W bs σ
def Bl(id:Nat)(Q:mf):mf
 |.exit id',W,bs,σ=>if id' = id then Q .normal W bs σ else Q (.exit id') W bs σ
 |e,W,bs,σ=>Q e W bs σ
section
variable {next:World->List Nat->St->Prop}{Q:mf}{W:World}{bs:List Nat}{σ:St}
theorem gQ(h:next W bs σ):Th next Q .normal W bs σ:=h
theorem pT(h:Q .ret W bs σ):Th next Q .ret W bs σ:=h
theorem lO{i:Nat}(h:Q (.exit i) W bs σ):Th next Q (.exit i) W bs σ:=h
theorem jy{c:List PanicEntry}(h:Q (.panic c) W bs σ):Th next Q (.panic c) W bs σ:=h
theorem gP{id:Nat}(h:Q .normal W bs σ):Bl id Q .normal W bs σ:=h
theorem pS{id:Nat}(h:Q .ret W bs σ):Bl id Q .ret W bs σ:=h
theorem jv{id:Nat}{c:List PanicEntry}(h:Q (.panic c) W bs σ):Bl id Q (.panic c) W bs σ:=h
theorem lM{id:Nat}(h:Q .normal W bs σ):Bl id Q (.exit id) W bs σ:=by simpa [Bl] using h
theorem fH{id i:Nat}(hn:i≠id)(h:Q (.exit i) W bs σ):Bl id Q (.exit i) W bs σ:=by simpa [Bl,hn] using h
end
section
variable {P:Program}{W:World}{bs:List Nat}{nt:Nat}{ds:Aux}{Q:mf}{σ:St}
theorem yQ{W W' : World}{bs bs' : List Nat}{e:Exit}{a:Act}{w:World}{Q:mf}(he:Ext W bs W' bs')(h:∃ W'' bs'' σ',Ext W' bs' W'' bs'' /\ Q e W'' bs'' σ' /\ Sat W'' bs'' nt ds σ' a w) :
  ∃ W'' bs'' σ',Ext W bs W'' bs'' /\ Q e W'' bs'' σ' /\ Sat W'' bs'' nt ds σ' a w:=by
 obtain⟨W'',bs'',σ',h1,h2,h3⟩:=h;exact⟨W'',bs'',σ',he.trans h1,h2,h3⟩
theorem Wp.mono{c:Code}{Q' : mf}(h:Wp P W bs nt ds c Q σ)(hq:∀ e W bs σ,Q e W bs σ->Q' e W bs σ):Wp P W bs nt ds c Q' σ:=
 λa w hs=>wp_mono (h a w hs) λe _ _ ⟨W',bs',σ',he,hq',hs'⟩=>⟨W',bs',σ',he,hq _ _ _ _ hq',hs'⟩
theorem Wp.AN{c:Code}{σ' : St}(hle:Le W bs nt ds σ σ')(h:Wp P W bs nt ds c Q σ'):Wp P W bs nt ds c Q σ:=
 λa w hs=>h a w (hle a w hs)
theorem Wp.skip(h:Q .normal W bs σ):Wp P W bs nt ds .skip Q σ:=λa w hs=>wp_skip ⟨W,bs,σ,Ext.refl W bs,h,hs⟩
theorem Wp.exit{id:Nat}(h:Q (.exit id) W bs σ):Wp P W bs nt ds (.exit id) Q σ:=λa w hs=>wp_exit ⟨W,bs,σ,Ext.refl W bs,h,hs⟩
theorem Wp.goto{l:Nat}(h:Q (.goto l) W bs σ):Wp P W bs nt ds (.goto l) Q σ:=λa w hs=>wp_goto ⟨W,bs,σ,Ext.refl W bs,h,hs⟩
theorem Wp.ret(h:Q .ret W bs σ):Wp P W bs nt ds .ret Q σ:=λa w hs=>wp_ret ⟨W,bs,σ,Ext.refl W bs,h,hs⟩
theorem Wp.seq{x y:Code}(h:Wp P W bs nt ds x (Th (λW bs σ=>Wp P W bs nt ds y Q σ) Q) σ):Wp P W bs nt ds (.seq x y) Q σ:=λa w hs=>
 wp_seq (wp_mono (h a w hs) λe a' w' ⟨W',bs',σ',he,hq,hs'⟩=>by
  cases e with
  |normal=>exact wp_mono (hq a' w' hs') λe'' a'' w'' hh=>yQ he hh
  |_=>exact⟨W',bs',σ',he,hq,hs'⟩)
theorem Wp.block{id:Nat}{c:Code}(h:Wp P W bs nt ds c (Bl id Q) σ):Wp P W bs nt ds (.block id c) Q σ:=λa w hs=>
 wp_block (wp_mono (h a w hs) λe a' w' ⟨W',bs',σ',he,hq,hs'⟩=>by
  cases e with
  |exit i=>
   simp only[Bl]at hq
   simp only[Exit.inBlock]
   split
   ·rename_i hi;rw[if_pos hi]at hq;exact⟨W',bs',σ',he,hq,hs'⟩
   ·rename_i hi;rw[if_neg hi]at hq;exact⟨W',bs',σ',he,hq,hs'⟩
  |_=>exact⟨W',bs',σ',he,hq,hs'⟩)
theorem Wp.cond{c:Operand}{x y:Code}{b:Bool}{p:Prop}(hc:pQ σ.φ true c=(p,.v (.bool b)))(hp:p)
  (ht:b=true->Wp P W bs nt ds x Q σ) (hf:b=false->Wp P W bs nt ds y Q σ):Wp P W bs nt ds (.cond c x y) Q σ:=λa w hs=>by
 obtain⟨E,F,hφ,hh,_⟩:=hs.ex;have:a.eval c=.bool b:=by
  rw[wh hφ rfl (by rw[hc];exact hp),hc];rfl
 exact wp_cond_split this (λhb=>ht hb a w hs) (λhb=>hf hb a w hs)
theorem Wp.S7(Γ:Env P){id:Nat}{d:Bool}{ops:Array Oper}{g:RG}(hm:P.follows .mixedOrders=true)
  (hg:rz Γ W bs nt ops ops.toList σ.n σ.φ σ.h=g) (hside:g.side) (hd:d=true->lu ops=true/\lJ ops g.fx=true)
  (hQ:(∀ x∈g.pans,x=none)->Q .normal W bs ⟨g.n,g.φ,g.h⟩) (hP:∀ c,some c∈g.pans->Q (.panic c) W bs ⟨σ.n,uc ops σ.φ,dropKeys σ.h g.lost⟩) :
  Wp P W bs nt ds (.region id ops d) Q σ:=λa w hs=>
 WG Γ hm hs hg hside hd (λhn a' w' hs' => ⟨W,bs,_,Ext.refl W bs,hQ hn,hs'⟩) (λc hc a' w' hs' => ⟨W,bs,_,Ext.refl W bs,hP c hc,hs'⟩)
theorem Wp.region(Γ:Env P){id:Nat}{d:Bool}{ops:Array Oper}{g:RG}(hm:P.follows .mixedOrders=true)
  (hg:rz Γ W bs nt ops ops.toList σ.n σ.φ σ.h=g) (hside:g.side) (hd:d=true->lu ops=true/\lJ ops g.fx=true)
  (hQ:Q .normal W bs ⟨g.n,g.φ,g.h⟩) (hP:∀ c,some c∈g.pans->Q (.panic c) W bs ⟨σ.n,uc ops σ.φ,dropKeys σ.h g.lost⟩) :
  Wp P W bs nt ds (.region id ops d) Q σ:=Wp.S7 Γ hm hg hside hd (λ_=>hQ) hP
theorem SX{α:Type}{l:List (Option α)}{c:α}(h:l.filter Option.isSome=[some c]):some c∈l/\∀ x,some x∈l->x=c:=by
 have h1:some c∈l.filter Option.isSome:=by rw[h];simp
 refine⟨(List.mem_filter.1 h1).1,λx hx=>?_⟩;have:some x∈l.filter Option.isSome:=List.mem_filter.2 ⟨hx,rfl⟩;rw[h]at this;simpa using this
theorem Wp.dJ(Γ:Env P){id:Nat}{ops:Array Oper}{side:Prop}{lost:List Nat}{c:List PanicEntry}(hm:P.follows .mixedOrders=true)
  (hg:CU Γ W bs nt ops ops.toList σ.n σ.φ σ.h=⟨side,some c,lost⟩) (hside:side)
  (hQ:Q (.panic c) W bs ⟨σ.n,uc ops σ.φ,dropKeys σ.h lost⟩):Wp P W bs nt ds (.region id ops false) Q σ:=λa w hs=>
 P8 Γ hs hg hside λa' w' hs' => ⟨W,bs,_,Ext.refl W bs,hQ,hs'⟩
theorem Wp.rp(Γ:Env P){id:Nat}{ops:Array Oper}{side:Prop}{n:Nat}{φ:Fr}{h:Hp}{pans:List (Option (List PanicEntry))}{lost:List Nat}{fx:List (List Nat×List Nat)}{c:List PanicEntry}(hm:P.follows .mixedOrders=true)
  (hg:rz Γ W bs nt ops ops.toList σ.n σ.φ σ.h=⟨side,n,φ,h,pans,lost,fx⟩) (hp:pans.filter Option.isSome=[some c]) (hd:(lu ops&&lJ ops fx)=true) (hside:side)
  (hQ:Q (.panic c) W bs ⟨σ.n,uc ops σ.φ,dropKeys σ.h lost⟩):Wp P W bs nt ds (.region id ops true) Q σ:=
 Wp.S7 Γ hm hg hside (λ_=>by rw[Bool.and_eq_true]at hd;exact hd) (λhn=>by cases hn _ (SX hp).1) λc' hc' => by rw[(SX hp).2 c' hc'];exact hQ
theorem Wp.bo(Γ:Env P){id:Nat}{ops:Array Oper}{y:Code}{side:Prop}{lost:List Nat}{c:List PanicEntry}(hm:P.follows .mixedOrders=true)
  (hg:CU Γ W bs nt ops ops.toList σ.n σ.φ σ.h=⟨side,some c,lost⟩) (hside:side)
  (hQ:Q (.panic c) W bs ⟨σ.n,uc ops σ.φ,dropKeys σ.h lost⟩):Wp P W bs nt ds (.seq (.region id ops false) y) Q σ:=
 Wp.seq (Wp.dJ Γ hm hg hside hQ)
theorem Wp.IU(Γ:Env P){id:Nat}{ops:Array Oper}{y:Code}{side:Prop}{n:Nat}{φ:Fr}{h:Hp}{pans:List (Option (List PanicEntry))}{lost:List Nat}{fx:List (List Nat×List Nat)}{c:List PanicEntry}(hm:P.follows .mixedOrders=true)
  (hg:rz Γ W bs nt ops ops.toList σ.n σ.φ σ.h=⟨side,n,φ,h,pans,lost,fx⟩) (hp:pans.filter Option.isSome=[some c]) (hd:(lu ops&&lJ ops fx)=true) (hside:side)
  (hQ:Q (.panic c) W bs ⟨σ.n,uc ops σ.φ,dropKeys σ.h lost⟩):Wp P W bs nt ds (.seq (.region id ops true) y) Q σ:=
 Wp.seq (Wp.rp Γ hm hg hp hd hside hQ)
theorem Wp.aly(Γ:Env P){id:Nat}{ops:Array Oper}{y:Code}{side:Prop}{n:Nat}{φ:Fr}{h:Hp}{pans:List (Option (List PanicEntry))}{lost:List Nat}{fx:List (List Nat×List Nat)}(hm:P.follows .mixedOrders=true)
  (hg:rz Γ W bs nt ops ops.toList σ.n σ.φ σ.h=⟨side,n,φ,h,pans,lost,fx⟩) (hp:pans.all Option.isNone=true) (hside:side)
  (hQ:Wp P W bs nt ds y Q ⟨n,φ,h⟩):Wp P W bs nt ds (.seq (.region id ops false) y) Q σ:=
 Wp.seq (Wp.region Γ hm hg hside (λhd=>by cases hd) hQ λc hc=>by rw[List.all_eq_true]at hp;have:=hp _ hc;cases this)
theorem Wp.ajR(Γ:Env P){id:Nat}{ops:Array Oper}{y:Code}{side:Prop}{n:Nat}{φ:Fr}{h:Hp}{pans:List (Option (List PanicEntry))}{lost:List Nat}{fx:List (List Nat×List Nat)}(hm:P.follows .mixedOrders=true)
  (hg:rz Γ W bs nt ops ops.toList σ.n σ.φ σ.h=⟨side,n,φ,h,pans,lost,fx⟩) (hp:pans.all Option.isNone=true) (hd:(lu ops&&lJ ops fx)=true) (hside:side)
  (hQ:Wp P W bs nt ds y Q ⟨n,φ,h⟩):Wp P W bs nt ds (.seq (.region id ops true) y) Q σ:=
 Wp.seq (Wp.region Γ hm hg hside (λ_=>by rw[Bool.and_eq_true]at hd;exact hd) hQ λc hc=>by rw[List.all_eq_true]at hp;have:=hp _ hc;cases this)
theorem Wp.dY(Γ:Env P){id:Nat}{ops:Array Oper}{side:Prop}{n:Nat}{φ:Fr}{h:Hp}{pans:List (Option (List PanicEntry))}{lost:List Nat}{fx:List (List Nat×List Nat)}(hm:P.follows .mixedOrders=true)
  (hg:rz Γ W bs nt ops ops.toList σ.n σ.φ σ.h=⟨side,n,φ,h,pans,lost,fx⟩) (hp:pans.all Option.isNone=true) (hside:side)
  (hQ:Q .normal W bs ⟨n,φ,h⟩):Wp P W bs nt ds (.region id ops false) Q σ:=
 Wp.region Γ hm hg hside (λhd=>by cases hd) hQ λc hc=>by rw[List.all_eq_true]at hp;have:=hp _ hc;cases this
theorem Wp.agf(Γ:Env P){id:Nat}{ops:Array Oper}{side:Prop}{n:Nat}{φ:Fr}{h:Hp}{pans:List (Option (List PanicEntry))}{lost:List Nat}{fx:List (List Nat×List Nat)}(hm:P.follows .mixedOrders=true)
  (hg:rz Γ W bs nt ops ops.toList σ.n σ.φ σ.h=⟨side,n,φ,h,pans,lost,fx⟩) (hp:pans.all Option.isNone=true) (hd:(lu ops&&lJ ops fx)=true) (hside:side)
  (hQ:Q .normal W bs ⟨n,φ,h⟩):Wp P W bs nt ds (.region id ops true) Q σ:=
 Wp.region Γ hm hg hside (λ_=>by rw[Bool.and_eq_true]at hd;exact hd) hQ λc hc=>by rw[List.all_eq_true]at hp;have:=hp _ hc;cases this
theorem Wp.loop{c:Code}{ι:Type}(I:ι->St)(ok:ι->Prop)(μ:ι->Nat)(p0:ι)(hle:Le W bs nt ds σ (I p0))(h0:ok p0)
  (round:∀ p,ok p->Wp P W bs nt ds c (Th (λW' bs' σ' => ∃ p',ok p' /\ μ p' < μ p/\Le W' bs' nt ds σ' (I p')) Q) (I p)):Wp P W bs nt ds (.loop c) Q σ:=λa w hs=>
 wp_loop_ghost (λn a w=>∃ p,ok p/\μ p=n/\Sat W bs nt ds (I p) a w) (μ p0) ⟨p0,h0,rfl,hle a w hs⟩ λn a w ⟨p,hp,hn,hsat⟩=>
  wp_mono (round p hp a w hsat) λe a' w' ⟨W',bs',σ',he,hq,hs'⟩=>by
   cases e with
   |normal=>
    obtain⟨p',hp',hlt,hle'⟩:=hq;exact⟨μ p',hn ▸ hlt,p',hp',rfl,Sat.back he (hle' a' w' hs')⟩
   |_=>exact⟨W',bs',σ',he,hq,hs'⟩
theorem Wp.rm{c:Code}{ι:Type}(I:ι->St)(V:ι->World)(B:ι->List Nat)(ok:ι->Prop)(μ:ι->Nat)(p0:ι)(hV:V p0=W)(hB:B p0=bs)(hle:Le W bs nt ds σ (I p0))(h0:ok p0)
  (round:∀ p,ok p->Ext W bs (V p) (B p)->Wp P (V p) (B p) nt ds c (Th (λW' bs' σ' => ∃ p',ok p' /\ μ p' < μ p/\V p' = W' /\ B p' = bs' /\ Le W' bs' nt ds σ' (I p')) Q) (I p)):Wp P W bs nt ds (.loop c) Q σ:=λa w hs=>
 wp_loop_ghost (λn a w=>∃ p,ok p/\μ p=n/\Ext W bs (V p) (B p)/\Sat (V p) (B p) nt ds (I p) a w) (μ p0) ⟨p0,h0,rfl,by rw[hV,hB];exact Ext.refl W bs,by rw[hV,hB];exact hle a w hs⟩ λn a w ⟨p,hp,hn,hx,hsat⟩=>
  wp_mono (round p hp hx a w hsat) λe a' w' ⟨W',bs',σ',he,hq,hs'⟩=>by
   cases e with
   |normal=>
    obtain⟨p',hp',hlt,rfl,rfl,hle'⟩:=hq;exact⟨μ p',hn ▸ hlt,p',hp',rfl,hx.trans he,hle' a' w' hs'⟩
   |_=>exact⟨W',bs',σ',hx.trans he,hq,hs'⟩
inductive Src where
 |key (k:Nat)
 |nil
def Ac:Value:=.slice none 0 0
mutual
def ky(m:Nat->Src):SV->SV
 |.v x=>.v x
 |.own k o=>match m k with|.key j=>.own j o|.nil=>.v .nilIface
 |.hd k=>match m k with|.key j=>.hd j|.nil=>.v Ac
 |.agg l=>.agg (j5 m l)
 |.tup l=>.tup (j5 m l)
 |.nO t x=>.nO t (ky m x)
 |.part k i=>match m k with|.key j=>.part j i|.nil=>.v .nilIface
 |.fn f a c=>.fn f (j5 m a) (j5 m c)
def j5(m:Nat->Src):List SV->List SV
 |[]=>[]
 |x::r=>ky m x::j5 m r
end
def qj(E:Nat->Value)(m:Nat->Src)(k:Nat):Value:=match m k with|.key j=>E j|.nil=>Ac
def nC(F:Nat->List Nat)(m:Nat->Src)(k:Nat):List Nat:=match m k with|.key j=>F j|.nil=>[]
mutual
theorem nH(E:Nat->Value)(m:Nat->Src):∀ x:SV,den E (ky m x)=den (qj E m) x
 |.v x=>rfl
 |.own k o=>by
  simp only[ky,den,qj];cases m k<;>rfl
 |.hd k=>by
  simp only[ky,den,qj];cases m k<;>rfl
 |.agg l=>by simp only[ky,den,fP E m l]
 |.tup l=>by simp only[ky,den,fP E m l]
 |.nO t x=>by simp only[ky,den,nH E m x]
 |.part k i=>by
  simp only[ky,den,qj];cases m k<;>rfl
 |.fn f a c=>by simp only[ky,den,fP E m a,fP E m c]
theorem fP(E:Nat->Value)(m:Nat->Src):∀ l:List SV,ai E (j5 m l)=ai (qj E m) l
 |[]=>rfl
 |x::r=>by simp only[j5,ai,nH E m x,fP E m r]
end
def iB(m:Nat->Src):aZ->aZ
 |.cells T vs=>.cells T (j5 m vs)
 |.row T s n vs=>.row T s n (j5 m vs)
 |.mp ks vs=>.mp ks (j5 m vs)
 |.obj d R=>.obj d R
theorem BH{E:Nat->Value}{m:Nat->Src}{u:Value}{fp:List Nat}{w:World}{e:aZ}(h:bA E u fp w (iB m e)):bA (qj E m) u fp w e:=by
 cases e with
 |cells T vs=>simpa [bA,iB,fP] using h
 |row T s n vs=>simpa [bA,iB,fP] using h
 |mp ks vs=>simpa [bA,iB,fP] using h
 |obj d R=>exact h
def eA:List (Nat×FV)->Fr
 |[]=>λ_=>.any
 |(t,x)::r=>bu (eA r) t x
def dS:List (Nat×aZ)->Hp
 |[]=>λ_=>none
 |(k,e)::r=>bu (dS r) k (some e)
def HC(m:Nat->Src):FV->FV->Prop
 |.is x,.is y=>x=ky m y
 |.cnd b x,.cnd c y=>b=c/\(b=true->x=ky m y)
 |.is x,.cnd c y=>c=true/\x=ky m y
 |.cnd b x,.is y=>b=true/\x=ky m y
 |_,.any=>True
 |.any,_=>False
theorem U8{E:Nat->Value}{m:Nat->Src}{x y:FV}{u:Value}(hle:HC m x y)(hf:fits E x u):fits (qj E m) y u:=by
 cases x with
 |is x=>
  cases y with
  |is y=>simp only[HC]at hle;simp only[fits]at hf ⊢;rw[hf,hle,nH]
  |cnd c y=>obtain⟨rfl,hle⟩:=hle;simp only[fits,cond_true]at hf ⊢;rw[hf,hle,nH]
  |any=>trivial
 | cnd b x=>
  cases y with
  |is y=>obtain⟨rfl,hle⟩:=hle;simp only[fits,cond_true]at hf ⊢;rw[hf,hle,nH]
  |cnd c y=>
   obtain⟨rfl,hle⟩:=hle;cases b with
   |false=>exact hf
   |true=>simp only[fits,cond_true]at hf ⊢;rw[hf,hle rfl,nH]
  |any=>trivial
 |any=>cases y<;>first|trivial|exact hle.elim
def HA(m:Nat->Src)(φ:Fr):List (Nat×FV)->Prop
 |[]=>True
 |(t,x)::r=>HC m (φ t) x/\HA m φ r
def nI(m:Nat->Src)(h:Hp)(k:Nat)(e:aZ):Prop:=match m k with
 |.key j=>h j=some (iB m e)
 |.nil=>match e with
  |.row _ sz n vs=>0<sz/\n=0/\vs=[]
  |_=>False
def wG(m:Nat->Src)(h:Hp):List (Nat×aZ)->Prop
 |[]=>True
 |(k,e)::r=>nI m h k e/\wG m h r
def ed(m:Nat->Src):List (Nat×aZ)->List Nat
 |[]=>[]
 |(k,_)::r=>(match m k with|.key j=>[j]|.nil=>[])++ed m r
def Lb(n:Nat)(L:List (Nat×FV))(H:List (Nat×aZ)):Prop:=
 (∀ p∈L,∀ k∈p.2.keys,k / 8<n)/\(∀ p∈H,p.1 / 8<n/\∀ k∈p.2.keys,k / 8<n)
theorem pb{L:List (Nat×FV)}(t:Nat):eA L t=.any\/∃ p∈L,p.1=t/\eA L t=p.2:=by
 induction L with
 |nil=>exact .inl rfl
 | cons p r ih=>
  by_cases ht:t=p.1
  ·exact .inr ⟨p,sI,ht.symm,by simp[eA,bu,ht]⟩
  ·rcases ih with ih|⟨q,hq,h1,h2⟩
   ·exact .inl (by simp[eA,bu,ht,ih])
   ·exact .inr ⟨q,by simp[hq],h1,by simp[eA,bu,ht,h2]⟩
theorem eB{H:List (Nat×aZ)}{k:Nat}{e:aZ}(h:dS H k=some e):(k,e)∈H:=by
 induction H with
 |nil=>cases h
 |cons p r ih=>
  by_cases ht:k=p.1
  ·simp[dS,bu,ht]at h;subst h;simp[ht]
  ·simp[dS,bu,ht]at h;simp[ih h]
theorem KY{m:Nat->Src}{φ:Fr}:∀ {L:List (Nat×FV)},HA m φ L->∀ p∈L,HC m (φ p.1) p.2
 |_::_,h,p,hp=>by
  rcases List.mem_cons.1 hp with rfl|hp
  ·exact h.1
  ·exact KY h.2 p hp
theorem BY{m:Nat->Src}{h:Hp}:∀ {H:List (Nat×aZ)},wG m h H->∀ p∈H,nI m h p.1 p.2
 |_::_,h,p,hp=>by
  rcases List.mem_cons.1 hp with rfl|hp
  ·exact h.1
  ·exact BY h.2 p hp
theorem sG{m:Nat->Src}{k:Nat}:∀ {H:List (Nat×aZ)},∀ y∈H,m y.1=.key k->k∈ed m H
 |z::t,y,hy,hk=>by
  simp only[ed,List.mem_append];rcases List.mem_cons.1 hy with rfl|hy
  ·left;rw[hk];simp
  ·right;exact sG y hy hk
theorem u5{m:Nat->Src}:∀ {H:List (Nat×aZ)},(ed m H).Nodup->∀ p∈H,∀ q∈H,p.1≠q.1->∀ i j,m p.1=.key i->m q.1=.key j->i≠j
 |[],_,p,hp,_,_,_,_,_,_,_=>by cases hp
 | x::r,hn,p,hp,q,hq,hpq,i,j,hi,hj=>by
  simp only[ed]at hn;rcases List.mem_cons.1 hp with rfl|hp'
  ·rcases List.mem_cons.1 hq with rfl|hq'
   ·exact absurd rfl hpq
   ·rw[hi]at hn;intro hij;subst hij;exact (List.nodup_append.1 hn).2.2 i sI i (sG q hq' hj) rfl
  ·rcases List.mem_cons.1 hq with rfl|hq'
   ·rw[hj]at hn;intro hij;subst hij;exact (List.nodup_append.1 hn).2.2 i sI i (sG p hp' hi) rfl
   ·exact u5 (List.nodup_append.1 hn).2.1 p hp' q hq' hpq i j hi hj
theorem Le.mk(m:Nat->Src){n' : Nat}{L:List (Nat×FV)}{H:List (Nat×aZ)}(hk:Lb n' L H)(hf:HA m σ.φ L)(hh:wG m σ.h H)(hn:(ed m H).Nodup)(hpn:∀ p∈ds.pins,m p.1=.key p.1/\p.1 / 8<n') :
  Le W bs nt ds σ ⟨n',eA L,dS H⟩:=by
 rintro a w ⟨⟨E,F,hφ,hs,hp⟩,hsz,hdf,_,_,_⟩;have at' : ∀ k e,dS H k=some e->nI m σ.h k e:=λk e he=>BY hh _ (eB he)
 have key:∀ k e j,dS H k=some e->m k=.key j->σ.h j=some (iB m e):=λk e j he hj=>by
  have:=at' k e he;simpa only[nI,hj] using this
 refine⟨⟨qj E m,nC F m,λt=>?_,⟨λk e he=>?_,λk e he b hb=>?_,λk e he b hb=>?_,λk k' e e' hne he he' b hb=>?_,hs.keeps⟩,λp hpp=>?_⟩,hsz,hdf,λp hpp=>(hpn p hpp).2,λt k hk' => ?_,λk e he=>?_⟩
 ·rcases pb (L:=L) t with h|⟨p,hp,rfl,h⟩
  ·simp only[h];trivial
  ·simp only[h];exact U8 (KY hf p hp) (hφ p.1)
 ·cases hm:m k with
  |key j=>
   simp only[qj,nC,hm];exact BH (hs.ent j _ (key k e j he hm))
  | nil=>
   have:=at' k e he;simp only[nI,hm]at this;cases e with
   |row T s n vs=>
    obtain⟨h0,rfl,rfl⟩:=this;simp only[qj,nC,hm];exact⟨⟨by simp[ai],.inl ⟨rfl,rfl⟩⟩,rfl⟩
   |cells T vs=>exact this.elim
   |mp ks vs=>exact this.elim
   |obj d R=>exact this.elim
 ·cases hm:m k with
  |key j=>simp only[nC,hm]at hb;exact hs.lt j _ (key k e j he hm) b hb
  |nil=>simp only[nC,hm]at hb;cases hb
 ·cases hm:m k with
  |key j=>simp only[nC,hm]at hb;exact hs.mine j _ (key k e j he hm) b hb
  |nil=>simp only[nC,hm]at hb;cases hb
 ·cases hm:m k with
  |nil=>simp only[nC,hm]at hb;cases hb
  | key i=>
   cases hm' : m k' with
   |nil=>simp only[nC,hm'];simp
   |key j=>
    simp only[nC,hm,hm']at hb ⊢;exact hs.apart i j _ _ (u5 hn _ (eB he) _ (eB he') hne i j hm hm') (key k e i he hm) (key k' e' j he' hm') b hb
 ·simp only[qj,(hpn p hpp).1];exact hp p hpp
 ·rcases pb (L:=L) t with h|⟨p,hp,_,h⟩
  ·simp only[h]at hk';cases hk'
  ·simp only[h]at hk';exact hk.1 p hp k hk'
 ·exact hk.2 _ (eB he)
end
end
section
open Go.RowKit
section
variable {P:Program}{W:World}{bs:List Nat}{nt:Nat}{ds:Aux}{σ:St}
theorem aam{E:Nat->Value}{F:Nat->List Nat}{h:Nat->Option aZ}{w:World}{T:TypeId}{k o:Nat}(hs:aj W bs E F h w)(hside:(dK P W bs h T [.own k o]).side) :
  ∃ a,den E (.own k o)=.pointer (some a)/\(loadVar T a).run P w=.ok (den E (dK P W bs h T [.own k o]).val) w:=by
 revert hside;simp only[dK];split
 ·rename_i sz vs hsz hag hvs;rintro⟨hlen,hpos⟩;obtain⟨b,hb,hcells⟩:=gW hs hvs oM;have hrun:(loadVar T ⟨b,0+o,none⟩).run P w=.ok (.agg (((ai E vs).drop o).take sz).toArray) w:=by
   refine iN hsz hag _ _ (by simp[aH];omega) λj v hj=>?_
   have hjl:j<sz:=by
    have:=(List.getElem?_eq_some_iff.1 hj).1;simp at this;omega
   rw[Addr.add_lit,Nat.zero_add,hcells (o+j) oM];rw[List.getElem?_take,if_pos hjl,List.getElem?_drop]at hj;rw[hj];rfl
  refine⟨⟨b,0+o,none⟩,by simp[den,hb,dt],?_⟩;rw[hrun];simp[den,bC,List.map_take,List.map_drop]
 ·rename_i sz vs hsz hag hvs;intro hlen;obtain⟨b,hb,hcells⟩:=gW hs hvs (Nat.zero_lt_of_lt hlen);have hrun:=iO (w:=w) hag ⟨b,0+o,none⟩ ((ai E vs)[o]?.getD undef) (by rw[Nat.zero_add];exact hcells o hlen);refine⟨⟨b,0+o,none⟩,by simp[den,hb,dt],?_⟩;rw[hrun,tw]
 ·exact λhf=>hf.elim
def mA(P:Program)(W:World)(bs:List Nat)(σ:St):ResultVar->Prop×SV
 |.tmp t=>match σ.φ t with
  |.is x=>(True,x)
  |.cnd b x=>(b=true,x)
  |.any=>(False,.v undef)
 |.cell t T=>match σ.φ t with
  |.is (.own k o)=>((dK P W bs σ.h T [.own k o]).side,(dK P W bs σ.h T [.own k o]).val)
  |_=>(False,.v undef)
def kB(P:Program)(W:World)(bs:List Nat)(σ:St):List ResultVar->Prop×List SV
 |[]=>(True,[])
 |r::l=>((mA P W bs σ r).1/\(kB P W bs σ l).1,(mA P W bs σ r).2::(kB P W bs σ l).2)
def mF:List SV->SV
 |[x]=>x
 |l=>.tup l
def Fin(P:Program)(rs:List ResultVar)(R:World->List Nat->SV->Hp->Prop)(RP:List PanicEntry->Hp->Prop):mf
 |.normal,W,bs,σ|.ret,W,bs,σ=>(kB P W bs σ rs).1/\R W bs (mF (kB P W bs σ rs).2) σ.h
 |.panic c,_,_,σ=>RP c σ.h
 |_,_,_,_=>False
def Ends(W:World)(bs:List Nat)(pins:List (Nat×Value))(R:World->List Nat->SV->Hp->Prop)(RP:List PanicEntry->Hp->Prop):Ending->World->Prop
 |.returned v,w' => ∃ W' bs' E F x h,Ext W bs W' bs' /\ R W' bs' x h/\v=den E x/\aj W' bs' E F h w' /\ ∀ p∈pins,E p.1=p.2
 |.panicked c,w' => ∃ W' bs' E F h,Ext W bs W' bs' /\ RP c h/\aj W' bs' E F h w' /\ ∀ p∈pins,E p.1=p.2
 |.outgrown,_=>False
def oh(a:Act):ResultVar->Sem Value
 |.tmp t=>pure (a.tmps.getD t undef)
 |.cell x t=>do loadVar t (<- asAddr (a.tmps.getD x undef))
theorem Qa{E:Nat->Value}{F:Nat->List Nat}{a:Act}{w:World}(hφ:jw E σ.φ a)(hs:aj W bs E F σ.h w)(r:ResultVar)(hr:(mA P W bs σ r).1) :
  (oh a r).run P w=.ok (den E (mA P W bs σ r).2) w:=by
 cases r with
 | tmp t=>
  have:=hφ t;simp only[mA,oh]at hr ⊢;revert hr this;cases σ.φ t with
  |is x=>intro _ h;simp only[fits]at h;rw[h];rfl
  |cnd b x=>
   intro hb h;simp only at hb;subst hb;simp only[fits,cond_true]at h;rw[h];rfl
  |any=>exact λhf _=>hf.elim
 | cell t T=>
  have:=hφ t;simp only[mA,oh]at hr ⊢;revert hr this;split
  ·rename_i k o hk;intro hr h;rw[hk]at h;simp only[fits]at h;obtain⟨ad,h1,h2⟩:=aam hs hr;rw[h,h1];simpa [asAddr] using h2
  ·exact λhf _=>hf.elim
theorem Md{E:Nat->Value}{F:Nat->List Nat}{a:Act}{w:World}(hφ:jw E σ.φ a)(hs:aj W bs E F σ.h w):∀ (l:List ResultVar),(kB P W bs σ l).1 ->
  (l.mapM (oh a)).run P w=.ok (ai E (kB P W bs σ l).2) w
 |[],_=>rfl
 |r::l,h=>by
  have h1:=Qa hφ hs r h.1;have h2:=Md hφ hs l h.2;rw[List.mapM_cons];simp[h1,h2,kB,ai]
theorem lr{E:Nat->Value}{F:Nat->List Nat}{a:Act}{w:World}{fn:Func}(hφ:jw E σ.φ a)(hs:aj W bs E F σ.h w)(h:(kB P W bs σ fn.results.toList).1) :
  (results fn a.tmps).run P w=.ok (den E (mF (kB P W bs σ fn.results.toList).2)) w:=by
 have h1:=Md hφ hs fn.results.toList h;have h2:results fn a.tmps=((Functor.map List.toArray (fn.results.toList.mapM (oh a))) >>= λ(vs:Array Value)=>(pure (if h:vs.size=1 then vs[0] else .tuple vs):Sem Value)):=by
  rw[<- Array.mapM_eq_mapM_toList];unfold results
  congr 1
 rw[h2];have:((Functor.map List.toArray (fn.results.toList.mapM (oh a))) >>= λ(vs:Array Value)=>(pure (if h:vs.size=1 then vs[0] else .tuple vs):Sem Value)).run P w =
   .ok (den E (mF (kB P W bs σ fn.results.toList).2)) w:=by
  simp only[map_eq_pure_bind,bind_assoc,pure_bind];simp[h1];generalize (kB P W bs σ fn.results.toList).2=l
  match l with
  |[]=>simp[ai,mF,den]
  |[x]=>simp[ai,mF]
  |x::y::r=>simp[ai,mF,den]
 exact this
theorem oY{f:FuncId}{fn:Func}{c:Code}{args:Array Value}{w:World}{pins:List (Nat×Value)}{R:World->List Nat->SV->Hp->Prop}{RP:List PanicEntry->Hp->Prop}
  (hf:P.funcs[f]?=some fn) (hb:fn.body=some c)
  (hsat:Sat W bs nt ⟨[],pins⟩ σ { tmps:=args++Array.replicate (fn.ntmps-args.size) undef,defers:=[] } w)
  (h:Wp P W bs nt ⟨[],pins⟩ c (Fin P fn.results.toList R RP) σ) :
  Calls P f args w (Ends W bs pins R RP):=by
 refine calls_of_wp hf hb (wp_mono (h _ w hsat) λe a' w' ⟨W',bs',σ',hx,hq,hs'⟩=>?_);obtain⟨⟨E,F,hφ,hh,hp⟩,hsz,hdf,_⟩:=hs'
 have ret:(kB P W' bs' σ' fn.results.toList).1/\R W' bs' (mF (kB P W' bs' σ' fn.results.toList).2) σ'.h->a'.defers=[]/\∃ v,(results fn a'.tmps).run P w' = .ok v w' /\ Ends W bs pins R RP (.returned v) w' :=
  λhq=>⟨hdf,_,lr hφ hh hq.1,W',bs',E,F,_,_,hx,hq.2,rfl,hh,hp⟩
 cases e with
 |normal=>exact ret hq
 |ret=>exact ret hq
 |panic ch=>exact⟨hdf,W',bs',E,F,_,hx,hq,hh,hp⟩
 |exit i=>exact hq.elim
 |goto l=>exact hq.elim
 |outgrown=>exact hq.elim
theorem yr{κ:Nat}{E:Nat->Value}{F:Nat->List Nat}{h:Hp}{w:World}{f:FuncId}{args:Array Value}{r:R}{v:Value}(hs:aj W bs E F h w)
  (hc:Calls P f args w λe w' => e=.returned v/\an w [] w') (hv:v=den E r.val) (hu:r.bu=[]) (hp:r.pan=none) :
  Good P W bs κ E h r (.ok (.enter f args) w):=by
 refine hc.mono λe w' he=>?_
 obtain⟨rfl,hk⟩:=he;exact⟨hp,E,F,λ_ _=>rfl,hv,by rw[hu];exact hs.grow hk⟩
theorem BQ{κ:Nat}{E:Nat->Value}{F:Nat->List Nat}{h:Hp}{w:World}{K:Nat->Prop}{f:FuncId}{args:Array Value}{r:R}{e:aZ}(hs:aj W bs E F h w)
  (hK:bU K h) (hk:∀ k,k / 8=κ->¬ K k)
  (hc:Calls P f args w λen w' => ∃ v u fp,en=.returned v/\(∀ E',bA E' u fp w' e)/\(∀ b∈fp,w.heap.size<=b/\b<w'.heap.size)/\an w [] w' /\ v=den (bu E (nk κ) u) r.val)
  (hu:r.bu=[(nk κ,some e)]) (hp:r.pan=none) :
  Good P W bs κ E h r (.ok (.enter f args) w):=by
 refine hc.mono λen w' he=>?_
 obtain⟨v,u,fp,rfl,hent,hfp,hkeep,hv⟩:=he;refine⟨hp,bu E (nk κ) u,bu F (nk κ) fp,λk hk' => al _ _ λe=>hk' (by subst e;exact a6 κ),hv,?_⟩;rw[hu];exact hs.new hK (hk _ (a6 κ)) (hent _) hfp hkeep
end
section
variable {P:Program}{W:World}{bs:List Nat}{nt:Nat}{ds:Aux}{σ:St}{ops:Array Oper}(Γ:Env P)
def am4(dst:Option Nat)(r:List Oper)(κ:Nat)(φ:Fr)(h:Hp)(s:S):RG:=
 Mf s (rz Γ W bs nt ops r (κ+1) (pD φ dst s.fv) (ba h s.bu))
theorem agm(κ:Nat)(φ:Fr)(h:Hp):rz Γ W bs nt ops [] κ φ h=⟨True,κ,φ,h,[],[],[]⟩:=rfl
theorem abG(o:Oper)(r:List Oper)(κ:Nat)(φ:Fr)(h:Hp):rz Γ W bs nt ops (o::r) κ φ h=am4 (W:=W) (bs:=bs) (nt:=nt) (ops:=ops) Γ o.dst r κ φ h (step Γ W bs nt ops κ φ h o):=rfl
theorem agl(dst:Option Nat)(r:List Oper)(κ:Nat)(φ:Fr)(h:Hp)(side:Prop)(fv:FV)(u:List (Nat×Option aZ))(pan:Option (List PanicEntry))(pupd reads uk:List Nat) :
  am4 (W:=W) (bs:=bs) (nt:=nt) (ops:=ops) Γ dst r κ φ h ⟨side,fv,u,pan,pupd,reads,uk⟩=Mf ⟨side,fv,u,pan,pupd,reads,uk⟩ (rz Γ W bs nt ops r (κ+1) (pD φ dst fv) (ba h u)):=rfl
theorem abD(side side' : Prop)(n:Nat)(fv:FV)(u:List (Nat×Option aZ))(pan:Option (List PanicEntry))(pupd reads uk lost:List Nat)(φ:Fr)(h:Hp)(pans:List (Option (List PanicEntry)))(fx:List (List Nat×List Nat)) :
  Mf ⟨side,fv,u,pan,pupd,reads,uk⟩ ⟨side',n,φ,h,pans,lost,fx⟩=⟨side/\side',n,φ,h,pan::pans,uk++pupd++lost,(uk,reads)::fx⟩:=rfl
def abE(Γ:Env P)(dst:Option Nat)(r:List Oper)(κ:Nat)(φ:Fr)(h:Hp)(s:S):RP:=match s.pan with
 |some c=>⟨s.side,some c,s.uk++s.pupd⟩
 |none=>Mg s (CU Γ W bs nt ops r (κ+1) (pD φ dst s.fv) (ba h s.bu))
theorem WJ(o:Oper)(r:List Oper)(κ:Nat)(φ:Fr)(h:Hp):CU Γ W bs nt ops (o::r) κ φ h=abE (W:=W) (bs:=bs) (nt:=nt) (ops:=ops) Γ o.dst r κ φ h (step Γ W bs nt ops κ φ h o):=rfl
theorem Qd(dst:Option Nat)(r:List Oper)(κ:Nat)(φ:Fr)(h:Hp)(side:Prop)(fv:FV)(u:List (Nat×Option aZ))(c:List PanicEntry)(pupd reads uk:List Nat) :
  abE (W:=W) (bs:=bs) (nt:=nt) (ops:=ops) Γ dst r κ φ h ⟨side,fv,u,some c,pupd,reads,uk⟩=⟨side,some c,uk++pupd⟩:=rfl
theorem Qc(dst:Option Nat)(r:List Oper)(κ:Nat)(φ:Fr)(h:Hp)(side:Prop)(fv:FV)(u:List (Nat×Option aZ))(pupd reads uk:List Nat) :
  abE (W:=W) (bs:=bs) (nt:=nt) (ops:=ops) Γ dst r κ φ h ⟨side,fv,u,none,pupd,reads,uk⟩=Mg ⟨side,fv,u,none,pupd,reads,uk⟩ (CU Γ W bs nt ops r (κ+1) (pD φ dst fv) (ba h u)):=rfl
theorem abI(side side' : Prop)(fv:FV)(u:List (Nat×Option aZ))(pan:Option (List PanicEntry))(pupd reads uk lost:List Nat)(c:Option (List PanicEntry)) :
  Mg ⟨side,fv,u,pan,pupd,reads,uk⟩ ⟨side',c,lost⟩=⟨side/\side',c,uk++pupd++lost⟩:=rfl
def cH:Op->Bool
 |.pick _ _ _=>true
 |_=>false
theorem Vl :
  (∀ (x:Operand),cH (.move x)=false) /\
  (∀ (x:Operand),cH (.assign x)=false) /\
  (∀ (elem:TypeId),cH (.alloc elem)=false) /\
  (∀ (elem:TypeId) (v:Operand),cH (.box elem v)=false) /\
  (∀ (t:TypeId) (parts:Array (Nat×Operand)),cH (.build t parts)=false) /\
  (∀ (t:TypeId) (len:Nat) (parts:Array (Nat×Operand)),cH (.buildSlice t len parts)=false) /\
  (∀ (t:TypeId) (addr:Operand),cH (.load t addr)=false) /\
  (∀ (t:TypeId) (addr val:Operand),cH (.store t addr val)=false) /\
  (∀ (x:Operand),cH (.nilCheck x)=false) /\
  (∀ (op:BinOp) (xType:TypeId) (x y:Operand) (yType:TypeId),cH (.binOp op xType x y yType)=false) /\
  (∀ (op:UnOp) (xType:TypeId) (x:Operand),cH (.unOp op xType x)=false) /\
  (∀ (src dst:TypeId) (x:Operand),cH (.convert src dst x)=false) /\
  (∀ (xType:TypeId) (x:Operand),cH (.makeInterface xType x)=false) /\
  (∀ (fn:Fn) (first captured:Array Operand),cH (.makeFunc fn first captured)=false) /\
  (∀ (t:TypeId) (len cap:Operand),cH (.makeSlice t len cap)=false) /\
  (∀ (xType:TypeId) (x:Operand) (low high max:Option Operand),cH (.slice xType x low high max)=false) /\
  (∀ (xType:TypeId) (x:Operand) (field:Nat),cH (.fieldAddr xType x field)=false) /\
  (∀ (xType:TypeId) (x:Operand) (field:Nat),cH (.field xType x field)=false) /\
  (∀ (xType:TypeId) (x index:Operand),cH (.indexAddr xType x index)=false) /\
  (∀ (xType:TypeId) (x index:Operand),cH (.index xType x index)=false) /\
  (∀ (x:Operand) (xType asserted:TypeId) (commaOk:Bool),cH (.typeAssert x xType asserted commaOk)=false) /\
  (∀ (tuple:Operand) (index:Nat),cH (.extract tuple index)=false) /\
  (∀ (c:Call),cH (.call c)=false) /\
  (∀ (x:Operand),cH (.panic x)=false):=by
 refine⟨?_,?_,?_,?_,?_,?_,?_,?_,?_,?_,?_,?_,?_,?_,?_,?_,?_,?_,?_,?_,?_,?_,?_,?_⟩<;>(intros;rfl)
def zX(nt:Nat):Option Nat->Prop
 |some d=>d<nt
 |none=>True
theorem KN(d:Option Nat):(∀ i,d=some i->i<nt)=zX nt d:=by
 cases d<;>simp[zX]
def To(nt:Nat)(dst:Option Nat)(un:Bool)(p:Prop)(b:Bool)(q:Prop)(r:R):S:=
 ⟨p/\q/\(b=true->r.side)/\zX nt dst,wY un b r.val,bif b then r.bu else [],bif b then r.pan else none,r.pupd,r.reads,cq r.bu⟩
def Tn(W:World)(bs:List Nat)(nt:Nat)(κ:Nat)(h:Hp)(dst:Option Nat)(un:Bool)(op:Op)(p:Prop)(b:Bool)(e:Prop×List SV):S:=
 To nt dst un p b e.1 (ew Γ W bs κ h op e.2)
def stepG(W:World)(bs:List Nat)(nt:Nat)(κ:Nat)(φ:Fr)(h:Hp)(dst:Option Nat)(un:Bool)(op:Op)(g:Prop×Bool):S:=
 Tn Γ W bs nt κ h dst un op g.1 g.2 (rv φ g.2 op.operands.toList)
theorem agT(κ:Nat)(φ:Fr)(h:Hp)(dst:Option Nat)(op:Op)(ty:TypeId)(pos:String)(after:Array Edge)(guard:Option (Nat×Bool))(hop:cH op=false) :
  step Γ W bs nt ops κ φ h ⟨dst,op,ty,pos,after,guard⟩=stepG Γ W bs nt κ φ h dst guard.isNone op (kp φ ops guard):=by
 rw[fL Γ (by rintro c x y rfl;cases hop)];simp only[stepG,Tn,To,KN]
theorem ace(κ:Nat)(φ:Fr)(h:Hp)(dst:Option Nat)(un:Bool)(op:Op)(p:Prop)(b:Bool) :
  stepG Γ W bs nt κ φ h dst un op (p,b)=Tn Γ W bs nt κ h dst un op p b (rv φ b op.operands.toList):=rfl
theorem acd(κ:Nat)(h:Hp)(dst:Option Nat)(un:Bool)(op:Op)(p:Prop)(b:Bool)(q:Prop)(l:List SV) :
  Tn Γ W bs nt κ h dst un op p b (q,l)=To nt dst un p b q (ew Γ W bs κ h op l):=rfl
theorem ach(dst:Option Nat)(un:Bool)(p:Prop)(b:Bool)(q side:Prop)(val:SV)(u:List (Nat×Option aZ))(pan:Option (List PanicEntry))(pupd reads:List Nat) :
  To nt dst un p b q ⟨side,val,u,pan,pupd,reads⟩=⟨p/\q/\(b=true->side)/\zX nt dst,wY un b val,bif b then u else [],bif b then pan else none,pupd,reads,cq u⟩:=rfl
def IV(nt:Nat)(φ:Fr)(dst:Option Nat)(un:Bool)(x y:Operand)(p:Prop)(g:Bool):Prop×SV->S
 |(q,.v (.bool cb))=>⟨p/\q/\(cb=true->(pQ φ (g&&cb) x).1)/\(cb=false->(pQ φ (g&&!cb) y).1)/\zX nt dst,wY un g (w7 cb (pQ φ (g&&cb) x).2 (pQ φ (g&&!cb) y).2),[],none,[],[],[]⟩
 |_=>⟨False,.any,[],none,[],[],[]⟩
def acf(nt:Nat)(φ:Fr)(dst:Option Nat)(un:Bool)(c x y:Operand)(g:Prop×Bool):S:=IV nt φ dst un x y g.1 g.2 (pQ φ g.2 c)
theorem Xu(κ:Nat)(φ:Fr)(h:Hp)(dst:Option Nat)(c x y:Operand)(ty:TypeId)(pos:String)(after:Array Edge)(guard:Option (Nat×Bool)) :
  step Γ W bs nt ops κ φ h ⟨dst,.pick c x y,ty,pos,after,guard⟩=acf nt φ dst guard.isNone c x y (kp φ ops guard):=by
 simp only[step,acf,KN];split
 ·rename_i cb hcb;rw[show pQ φ (kp φ ops guard).2 c=((pQ φ (kp φ ops guard).2 c).1,.v (.bool cb)) from by rw[<- hcb]];rfl
 ·rename_i hn;unfold IV;split
  ·rename_i q cb he;exact absurd (by rw[he]) (hn cb)
  ·rfl
theorem acg(φ:Fr)(dst:Option Nat)(un:Bool)(c x y:Operand)(p:Prop)(g:Bool):acf nt φ dst un c x y (p,g)=IV nt φ dst un x y p g (pQ φ g c):=rfl
theorem Xr(φ:Fr)(dst:Option Nat)(un:Bool)(x y:Operand)(p q:Prop)(g cb:Bool):IV nt φ dst un x y p g (q,.v (.bool cb)) =
  ⟨p/\q/\(cb=true->(pQ φ (g&&cb) x).1)/\(cb=false->(pQ φ (g&&!cb) y).1)/\zX nt dst,wY un g (w7 cb (pQ φ (g&&cb) x).2 (pQ φ (g&&!cb) y).2),[],none,[],[],[]⟩:=rfl
def evS(w:Bool):FV->Prop×SV
 |.is x=>(True,x)
 |.cnd b x=>(w=true->b=true,x)
 |.any=>(w=false,.v undef)
theorem afa(φ:Fr)(w:Bool)(t:Nat):pQ φ w (.tmp t)=evS w (φ t):=by
 simp only[pQ,evS];cases φ t<;>rfl
theorem akC(w:Bool)(x:SV):evS w (.is x)=(True,x):=rfl
theorem afb(w b:Bool)(x:SV):evS w (.cnd b x)=(w=true->b=true,x):=rfl
theorem U0(φ:Fr)(w:Bool)(v:Value):pQ φ w (.const v)=(True,.v v):=rfl
theorem OU(φ:Fr)(w:Bool)(g:Nat):pQ φ w (.global g)=(True,.v (.pointer (some ⟨g,0,none⟩))):=rfl
theorem Zs(φ:Fr)(w:Bool)(f:Nat):pQ φ w (.func f)=(True,.v (.func (.func f) #[] #[])):=rfl
def evC:Prop×SV->Prop×List SV->Prop×List SV:=λa b=>(a.1/\b.1,a.2::b.2)
theorem ae9(φ:Fr)(w:Bool):rv φ w []=(True,[]):=rfl
theorem Zr(φ:Fr)(w:Bool)(o:Operand)(r:List Operand):rv φ w (o::r)=evC (pQ φ w o) (rv φ w r):=rfl
theorem akA(p q:Prop)(x:SV)(l:List SV):evC (p,x) (q,l)=(p/\q,x::l):=rfl
def Zn(want:Bool):FV->Prop×Bool
 |.is (.v (.bool b))=>(True,b == want)
 |.cnd c (.v (.bool b))=>(True,c&&(b == want))
 |_=>(False,false)
def akB(φ:Fr)(want:Bool):Option Nat->Prop×Bool
 |some d=>Zn want (φ d)
 |none=>(False,false)
theorem Zp(φ:Fr):kp φ ops none=(True,true):=rfl
theorem Zq(φ:Fr)(j:Nat)(want:Bool):kp φ ops (some (j,want))=akB φ want ((ops[j]?).bind (·.dst)):=by
 simp only[kp,akB];cases (ops[j]?).bind (·.dst) with
 |none=>rfl
 |some d=>simp only[Zn];split<;>simp_all
theorem UY(φ:Fr)(want:Bool)(d:Nat):akB φ want (some d)=Zn want (φ d):=rfl
theorem ae8(want b:Bool):Zn want (.is (.v (.bool b)))=(True,b == want):=rfl
theorem Zo(want b c:Bool):Zn want (.cnd c (.v (.bool b)))=(True,c&&(b == want)):=rfl
theorem afT(w:Bool)(x:SV):wY true w x=.is x:=rfl
theorem ak3(w:Bool)(x:SV):wY false w x=.cnd w x:=rfl
theorem PW(c a b:Bool):w7 c (.v (.bool a)) (.v (.bool b))=.v (.bool (bif c then a else b)):=rfl
theorem alT{α:Type}(f:Nat->α)(k:Nat)(x:α)(j:Nat):bu f k x j=if j=k then x else f j:=rfl
theorem Wy(φ:Fr)(d:Nat)(x:FV):pD φ (some d) x=bu φ d x:=rfl
theorem Wx(φ:Fr)(x:FV):pD φ none x=φ:=rfl
theorem ac7{α:Type}(f:Nat->α):ba f []=f:=rfl
theorem XY{α:Type}(f:Nat->α)(k:Nat)(x:α)(r:List (Nat×α)):ba f ((k,x)::r)=ba (bu f k x) r:=rfl
theorem afj(t:Nat):eA [] t=.any:=rfl
theorem ZB(t k:Nat)(x:FV)(r:List (Nat×FV)):eA ((k,x)::r) t=if t=k then x else eA r t:=rfl
theorem aft(t:Nat):dS [] t=none:=rfl
theorem ZS(t k:Nat)(x:aZ)(r:List (Nat×aZ)):dS ((k,x)::r) t=if t=k then some x else dS r t:=rfl
theorem OR(n d:Nat):zX n (some d)=(d<n):=rfl
theorem OQ(n:Nat):zX n none=True:=rfl
section
variable {κ:Nat}{h:Hp}
theorem ab4(o:Operand)(x:SV):ew Γ W bs κ h (.move o) [x]=.ok x:=rfl
theorem QO(o:Operand)(x:SV):ew Γ W bs κ h (.assign o) [x]=.ok x:=rfl
theorem W9(T:TypeId):ew Γ W bs κ h (.alloc T) []=jO P κ T:=rfl
theorem agH(T:TypeId)(o:Operand)(l:List SV):ew Γ W bs κ h (.box T o) l=yV κ T l:=rfl
theorem Xb(T:TypeId)(ps:Array (Nat×Operand))(l:List SV):ew Γ W bs κ h (.build T ps) l=iE P T (ps.toList.map (·.1)) l:=rfl
theorem C5(T:TypeId)(n:Nat)(ps:Array (Nat×Operand))(l:List SV):ew Γ W bs κ h (.buildSlice T n ps) l=dQ P κ T n (ps.toList.map (·.1)) l:=rfl
theorem ab3(T:TypeId)(o:Operand)(l:List SV):ew Γ W bs κ h (.load T o) l=dK P W bs h T l:=rfl
theorem Xg(T:TypeId)(o o' : Operand)(l:List SV):ew Γ W bs κ h (.store T o o') l=jQ P h T l:=rfl
theorem IK(o:Operand)(l:List SV):ew Γ W bs κ h (.nilCheck o) l=de h l:=rfl
theorem Xa(op:BinOp)(T:TypeId)(x y:Operand)(r:TypeId)(l:List SV):ew Γ W bs κ h (.binOp op T x y r) l=bR P Γ.eqs h op T x y l:=rfl
theorem ab5(op:UnOp)(T:TypeId)(x:Operand)(l:List SV):ew Γ W bs κ h (.unOp op T x) l=xl op l:=rfl
theorem MB(a b:TypeId)(x:Operand)(l:List SV):ew Γ W bs κ h (.convert a b x) l=iF P h a b l:=rfl
theorem Fp(T:TypeId)(x y:Operand)(l:List SV):ew Γ W bs κ h (.makeSlice T x y) l=nT P κ T l:=rfl
theorem Xe(x:Operand)(l:List SV):ew Γ W bs κ h (.panic x) l=mC l:=rfl
theorem xn(T:TypeId)(o:Operand)(l:List SV):ew Γ W bs κ h (.makeInterface T o) l=oq P T l:=rfl
theorem Xf(T:TypeId)(o:Operand)(lo hi mx:Option Operand)(l:List SV):ew Γ W bs κ h (.slice T o lo hi mx) l=fY P κ h T lo.isSome hi.isSome mx.isSome l:=rfl
theorem QQ(T:TypeId)(lo hi mx:Bool)(x:Value)(r:List SV):fY P κ h T lo hi mx (.v x::r)=dA P T lo hi mx (.v x::r):=rfl
theorem Fl(T:TypeId)(o:Operand)(f:Nat)(l:List SV):ew Γ W bs κ h (.fieldAddr T o f) l=ct P h T f l:=rfl
theorem Xc(T:TypeId)(o:Operand)(f:Nat)(l:List SV):ew Γ W bs κ h (.field T o f) l=iG P T f l:=rfl
theorem Fo(T:TypeId)(o i:Operand)(l:List SV):ew Γ W bs κ h (.indexAddr T o i) l=bG P h T l:=rfl
theorem Xd(T:TypeId)(o i:Operand)(l:List SV):ew Γ W bs κ h (.index T o i) l=gH P T l:=rfl
theorem MC(o:Operand)(i:Nat)(l:List SV):ew Γ W bs κ h (.extract o i) l=cS i l:=rfl
theorem agI(as_:Array Operand)(T:TypeId)(l:List SV):ew Γ W bs κ h (.call { callee:=.builtin .len,args:=as_,argTypes:=#[T] }) l=jP P h T l:=rfl
theorem QN(as_:Array Operand)(tys:Array TypeId)(l:List SV):ew Γ W bs κ h (.call { callee:=.builtin .append,args:=as_,argTypes:=tys }) l=gj P W bs κ h tys.toList l:=rfl
theorem ab0(f:Operand)(as_:Array Operand)(tys:Array TypeId)(l:List SV):ew Γ W bs κ h (.call { callee:=.value f,args:=as_,argTypes:=tys }) l=lX Γ W bs κ h l:=rfl
theorem e8(f:Operand)(n:String)(as_:Array Operand)(tys:Array TypeId)(l:List SV):ew Γ W bs κ h (.call { callee:=.invoke f n,args:=as_,argTypes:=tys }) l=aI Γ W bs κ h n l:=rfl
theorem WY(f:FuncId)(first cap:Array Value)(rest:List SV):lX Γ W bs κ h (.v (.func (.func f) first cap)::rest)=fz Γ W bs κ h f (first.toList.map .v++rest++cap.toList.map .v):=rfl
end
theorem ami(k:Nat)(e:aZ)(x:SV):R.new k e x=⟨True,x,[(k,some e)],none,[],[]⟩:=rfl
theorem anT(x:SV):R.ok x=⟨True,x,[],none,[],[]⟩:=rfl
theorem amj(p:Prop)(x:SV):R.iC p x=⟨p,x,[],none,[],[]⟩:=rfl
theorem amY(n:Nat):nk n=8*n:=rfl
theorem VD{α:Type}:cq ([]:List (Nat×α))=[]:=rfl
theorem Po{α:Type}(k:Nat)(x:α)(r:List (Nat×α)):cq ((k,x)::r)=k::cq r:=rfl
theorem LW(l:List SV):partsOf (.agg l)=l:=rfl
theorem Ic(cs:Array Value):partsOf (.v (.agg cs))=cs.toList.map .v:=rfl
theorem LY(k:IntKind)(n:Int):partsOf (.v (.int k n))=[.v (.int k n)]:=rfl
theorem CJ(b:ByteArray):partsOf (.v (.string b))=[.v (.string b)]:=rfl
theorem H9(b:Bool):partsOf (.v (.bool b))=[.v (.bool b)]:=rfl
theorem Fh(a:Option Addr)(n c:Nat):partsOf (.v (.slice a n c))=[.v (.slice a n c)]:=rfl
theorem AF(a:Option Addr):partsOf (.v (.pointer a))=[.v (.pointer a)]:=rfl
theorem Fg(t:TypeId)(x:Value):partsOf (.v (.iface t x))=[.v (.iface t x)]:=rfl
theorem yN:partsOf (.v .nilIface)=[.v .nilIface]:=rfl
theorem LZ(k o:Nat):partsOf (.own k o)=[.own k o]:=rfl
theorem PT(k:Nat):partsOf (.hd k)=[.hd k]:=rfl
theorem Ib(k i:Nat):partsOf (.part k i)=[.part k i]:=rfl
theorem LX(t:TypeId)(x:SV):partsOf (.nO t x)=[.nO t x]:=rfl
theorem V9(k:IntKind)(n:Int):dO (.v (.int k n))=true:=rfl
theorem HY(b:ByteArray):dO (.v (.string b))=true:=rfl
theorem PH(b:Bool):dO (.v (.bool b))=true:=rfl
theorem LJ(a:Option Addr)(n c:Nat):dO (.v (.slice a n c))=true:=rfl
theorem Ff(a:Option Addr):dO (.v (.pointer a))=true:=rfl
theorem LI(t:TypeId)(x:Value):dO (.v (.iface t x))=true:=rfl
theorem Cv:dO (.v .nilIface)=true:=rfl
theorem Wa(k o:Nat):dO (.own k o)=true:=rfl
theorem aaW(k:Nat):dO (.hd k)=true:=rfl
theorem PK(k i:Nat):dO (.part k i)=true:=rfl
theorem V8(t:TypeId)(x:SV):dO (.nO t x)=true:=rfl
theorem KR(T:TypeId)(vs:List SV):cc (some (.cells T vs))=some vs:=rfl
theorem US(T:TypeId)(s n:Nat)(vs:List SV):cc (some (.row T s n vs))=some vs:=rfl
theorem IL(T:TypeId)(vs:List SV)(o:Nat)(ps:List SV):sC (some (.cells T vs)) o ps=some (.cells T (av vs o ps)):=rfl
theorem QR(T:TypeId)(s n:Nat)(vs:List SV)(o:Nat)(ps:List SV):sC (some (.row T s n vs)) o ps=some (.row T s n (av vs o ps)):=rfl
section
variable {κ:Nat}{h:Hp}
def Oa(κ:Nat)(T:TypeId):Option (List Value)->R
 |some zs=>⟨True,.own (8*κ) 0,[(8*κ,some (.cells T (zs.map .v)))],none,[],[]⟩
 |none=>.bad
theorem Mn(T:TypeId):jO P κ T=Oa κ T (tz P T):=by simp only[jO];unfold Oa;cases tz P T<;>rfl
theorem Kc(T:TypeId)(zs:List Value):Oa κ T (some zs)=⟨True,.own (8*κ) 0,[(8*κ,some (.cells T (zs.map .v)))],none,[],[]⟩:=rfl
theorem WX(T:TypeId)(x:SV):yV κ T [x]=⟨True,.own (8*κ) 0,[(8*κ,some (.cells T (partsOf x)))],none,[],[]⟩:=rfl
def SG(o k:Nat):Option Nat->Option Bool->Option (List SV)->R
 |some sz,some true,some vs=>⟨o+sz<=vs.length/\0<sz,.agg ((vs.drop o).take sz),[],none,[],[k]⟩
 |some _,some false,some vs=>⟨o<vs.length,vs.getD o (.v undef),[],none,[],[k]⟩
 |_,_,_=>.bad
theorem Mz(T:TypeId)(k o:Nat):dK P W bs h T [.own k o]=SG o k (ts P T) (ta P T) (cc (h k)):=by
 simp only[dK];unfold SG;rcases ts P T with _|sz<;>rcases ta P T with _|_|_<;>rcases cc (h k) with _|vs<;>rfl
theorem VM(o k sz:Nat)(vs:List SV):SG o k (some sz) (some true) (some vs)=⟨o+sz<=vs.length/\0<sz,.agg ((vs.drop o).take sz),[],none,[],[k]⟩:=rfl
theorem VN(o k sz:Nat)(vs:List SV):SG o k (some sz) (some false) (some vs)=⟨o<vs.length,vs.getD o (.v undef),[],none,[],[k]⟩:=rfl
def SH(W:World)(bs:List Nat)(b o:Nat):Option Nat->Option Bool->R
 |some sz,some true=>⟨b∉bs/\fN W b o sz,.agg (cv W b o sz),[],none,[],[]⟩
 |some _,some false=>⟨b∉bs/\(W.cell? ⟨b,o,none⟩).isSome=true,.v ((W.cell? ⟨b,o,none⟩).getD undef),[],none,[],[]⟩
 |_,_=>.bad
theorem My(T:TypeId)(b o:Nat):dK P W bs h T [.v (.pointer (some ⟨b,o,none⟩))]=SH W bs b o (ts P T) (ta P T):=by
 simp only[dK];unfold SH;rcases ts P T with _|sz<;>rcases ta P T with _|_|_<;>rfl
theorem VO(b o sz:Nat):SH W bs b o (some sz) (some true)=⟨b∉bs/\fN W b o sz,.agg (cv W b o sz),[],none,[],[]⟩:=rfl
theorem VP(b o sz:Nat):SH W bs b o (some sz) (some false)=⟨b∉bs/\(W.cell? ⟨b,o,none⟩).isSome=true,.v ((W.cell? ⟨b,o,none⟩).getD undef),[],none,[],[]⟩:=rfl
theorem NF(b o:Nat):cv W b o 0=[]:=rfl
theorem ND(b o n:Nat):cv W b o (n+1)=.v ((W.cell? ⟨b,o,none⟩).getD undef)::cv W b (o+1) n:=rfl
theorem NH(b o:Nat):fN W b o 0=True:=rfl
theorem NG(b o n:Nat):fN W b o (n+1)=((W.cell? ⟨b,o,none⟩).isSome=true/\fN W b (o+1) n):=rfl
def Q3(e:Option aZ)(k o:Nat)(x:SV):Option Nat->Option (List SV)->R
 |some sz,some vs=>⟨(partsOf x).length=sz/\o+sz<=vs.length/\(0<sz\/isC e=true)/\(partsOf x).all dO=true,.v undef,[(k,sC e o (partsOf x))],none,[],[k]⟩
 |_,_=>.bad
theorem II(T:TypeId)(k o:Nat)(x:SV):jQ P h T [.own k o,x]=Q3 (h k) k o x (ts P T) (cc (h k)):=by
 simp only[jQ];unfold Q3;rcases ts P T with _|sz<;>rcases cc (h k) with _|vs<;>rfl
theorem MO(e:Option aZ)(k o sz:Nat)(x:SV)(vs:List SV):Q3 e k o x (some sz) (some vs)=⟨(partsOf x).length=sz/\o+sz<=vs.length/\(0<sz\/isC e=true)/\(partsOf x).all dO=true,.v undef,[(k,sC e o (partsOf x))],none,[],[k]⟩:=rfl
theorem Vk(T:TypeId)(vs:List SV):isC (some (.cells T vs))=true:=rfl
def faK(k o:Nat):Option (Nat×Nat×Bool)->Option (List SV)->R
 |some (off,sz,_),some vs=>⟨0<sz/\o<vs.length,.own k (o+off),[],none,[],[k]⟩
 |_,_=>.bad
theorem yX(T:TypeId)(f k o:Nat):ct P h T f [.own k o]=faK k o (tf P T f) (cc (h k)):=by
 simp only[ct];unfold faK;rcases tf P T f with _|⟨a,b,c⟩<;>rcases cc (h k) with _|vs<;>rfl
theorem Zu(k o off sz:Nat)(ag:Bool)(vs:List SV):faK k o (some (off,sz,ag)) (some vs)=⟨0<sz/\o<vs.length,.own k (o+off),[],none,[],[k]⟩:=rfl
def faX(b o:Nat):Option (Nat×Nat×Bool)->R
 |some (off,sz,_)=>⟨0<sz,.v (.pointer (some ⟨b,o+off,none⟩)),[],none,[],[]⟩
 |_=>.bad
theorem yW(T:TypeId)(f b o:Nat):ct P h T f [.v (.pointer (some ⟨b,o,none⟩))]=faX b o (tf P T f):=by
 simp only[ct];unfold faX;rcases tf P T f with _|⟨a,b,c⟩<;>rfl
theorem Zv(b o off sz:Nat)(ag:Bool):faX b o (some (off,sz,ag))=⟨0<sz,.v (.pointer (some ⟨b,o+off,none⟩)),[],none,[],[]⟩:=rfl
def yq(l:List SV):Option (Nat×Nat×Bool)->R
 |some (off,sz,ag)=>gi ag off sz l
 |none=>.bad
theorem Iw(T:TypeId)(f:Nat)(l:List SV):iG P T f [.agg l]=yq l (tf P T f):=by
 simp only[iG];unfold yq;rcases tf P T f with _|⟨a,b,c⟩<;>rfl
theorem Fj(T:TypeId)(f:Nat)(cs:Array Value):iG P T f [.v (.agg cs)]=yq (cs.toList.map .v) (tf P T f):=by
 simp only[iG];unfold yq;rcases tf P T f with _|⟨a,b,c⟩<;>rfl
theorem OW(l:List SV)(off sz:Nat):yq l (some (off,sz,true))=⟨off+sz<=l.length,.agg ((l.drop off).take sz),[],none,[],[]⟩:=rfl
theorem OX(l:List SV)(off sz:Nat):yq l (some (off,sz,false))=⟨off<l.length,l.getD off (.v undef),[],none,[],[]⟩:=rfl
theorem C3(i:Nat)(l:List SV):cS i [.tup l]=⟨i<l.length,l.getD i (.v undef),[],none,[],[]⟩:=rfl
theorem AI(i:Nat)(vs:Array Value):cS i [.v (.tuple vs)]=⟨i<vs.size,.v (vs.getD i undef),[],none,[],[]⟩:=rfl
theorem QE(eqs:(T:TypeId)->Option (EqSpec P T))(T:TypeId)(k k' : IntKind)(a b:Int):a7 P eqs .shl T [.v (.int k a),.v (.int k' b)]=⟨0<=b,.v (.int k (k.wrap (a*2 ^ (min b.toNat k.bits)))),[],none,[],[]⟩:=rfl
theorem QF(eqs:(T:TypeId)->Option (EqSpec P T))(T:TypeId)(k k' : IntKind)(a b:Int):a7 P eqs .shr T [.v (.int k a),.v (.int k' b)]=⟨0<=b,.v (.int k (a.fdiv (2 ^ (min b.toNat k.bits)))),[],none,[],[]⟩:=rfl
theorem QD(eqs:(T:TypeId)->Option (EqSpec P T))(T:TypeId)(k:IntKind)(a b:Int) :
  a7 P eqs .add T [.v (.int k a),.v (.int k b)]=⟨True,.v (.int k (k.wrap (a+b))),[],none,[],[]⟩ /\
  a7 P eqs .sub T [.v (.int k a),.v (.int k b)]=⟨True,.v (.int k (k.wrap (a-b))),[],none,[],[]⟩ /\
  a7 P eqs .mul T [.v (.int k a),.v (.int k b)]=⟨True,.v (.int k (k.wrap (a*b))),[],none,[],[]⟩ /\
  a7 P eqs .quo T [.v (.int k a),.v (.int k b)]=⟨b≠0,.v (.int k (k.wrap (a.tdiv b))),[],none,[],[]⟩ /\
  a7 P eqs .rem T [.v (.int k a),.v (.int k b)]=⟨b≠0,.v (.int k (a.tmod b)),[],none,[],[]⟩ /\
  a7 P eqs .and T [.v (.int k a),.v (.int k b)]=⟨True,.v (.int k (cu .and k a b)),[],none,[],[]⟩ /\
  a7 P eqs .or T [.v (.int k a),.v (.int k b)]=⟨True,.v (.int k (cu .or k a b)),[],none,[],[]⟩ /\
  a7 P eqs .xor T [.v (.int k a),.v (.int k b)]=⟨True,.v (.int k (cu .xor k a b)),[],none,[],[]⟩ /\
  a7 P eqs .eql T [.v (.int k a),.v (.int k b)]=⟨True,.v (.bool (decide (a=b))),[],none,[],[]⟩ /\
  a7 P eqs .neq T [.v (.int k a),.v (.int k b)]=⟨True,.v (.bool (!decide (a=b))),[],none,[],[]⟩ /\
  a7 P eqs .lss T [.v (.int k a),.v (.int k b)]=⟨True,.v (.bool (decide (a<b))),[],none,[],[]⟩ /\
  a7 P eqs .leq T [.v (.int k a),.v (.int k b)]=⟨True,.v (.bool (decide (a<=b))),[],none,[],[]⟩ /\
  a7 P eqs .gtr T [.v (.int k a),.v (.int k b)]=⟨True,.v (.bool (decide (b<a))),[],none,[],[]⟩ /\
  a7 P eqs .geq T [.v (.int k a),.v (.int k b)]=⟨True,.v (.bool (decide (b<=a))),[],none,[],[]⟩:=by
 simp[a7,EW,R.iC]
theorem QG(eqs:(T:TypeId)->Option (EqSpec P T))(T:TypeId)(a b:ByteArray) :
  a7 P eqs .add T [.v (.string a),.v (.string b)]=⟨a.size+b.size<=9223372036854775807,.v (.string (a++b)),[],none,[],[]⟩ /\
  a7 P eqs .eql T [.v (.string a),.v (.string b)]=⟨True,.v (.bool (decide (a=b))),[],none,[],[]⟩ /\
  a7 P eqs .neq T [.v (.string a),.v (.string b)]=⟨True,.v (.bool (!decide (a=b))),[],none,[],[]⟩ /\
  a7 P eqs .lss T [.v (.string a),.v (.string b)]=⟨True,.v (.bool (Op.bytesLess a.toList b.toList)),[],none,[],[]⟩ /\
  a7 P eqs .gtr T [.v (.string a),.v (.string b)]=⟨True,.v (.bool (!(Op.bytesLess a.toList b.toList||decide (a=b)))),[],none,[],[]⟩:=by
 simp[a7,Uu,R.iC]
theorem Mu(eqs:(T:TypeId)->Option (EqSpec P T))(T:TypeId)(a b:Bool) :
  a7 P eqs .eql T [.v (.bool a),.v (.bool b)]=⟨P.underlying T=some .bool,.v (.bool (a == b)),[],none,[],[]⟩ /\
  a7 P eqs .neq T [.v (.bool a),.v (.bool b)]=⟨P.underlying T=some .bool,.v (.bool (!(a == b))),[],none,[],[]⟩:=⟨rfl,rfl⟩
def cY:List SV->Option (List Value)
 |[]=>some []
 |.v x::r=>(cY r).map (x::·)
 |_=>none
theorem nj:∀ l:List SV,s7 (.agg l)=cY l
 |[]=>rfl
 |x::r=>by
  have ih:=nj r;simp only[s7]at ih ⊢;rw[List.mapM_cons,ih];cases x<;>simp[cY]<;>cases cY r<;>rfl
theorem Eu(cs:Array Value):s7 (.v (.agg cs))=some cs.toList:=rfl
theorem XZ:cY []=some []:=rfl
theorem RW(x:Value)(r:List SV):cY (.v x::r)=(cY r).map (x::·):=rfl
def Yh{T:TypeId}(neg:Bool):Option (List Value)->Option (List Value)->Option (EqSpec P T)->R
 |some xs,some ys,some e=>⟨(e.f xs ys).isSome=true,.v (.bool (neg ^^ (e.f xs ys).getD false)),[],none,[],[]⟩
 |_,_,_=>.bad
theorem QC(eqs:(T:TypeId)->Option (EqSpec P T))(T:TypeId)(l l' : List SV) :
  a7 P eqs .eql T [.agg l,.agg l']=Yh false (cY l) (cY l') (eqs T)/\a7 P eqs .neq T [.agg l,.agg l']=Yh true (cY l) (cY l') (eqs T):=by
 simp only[a7,nj,Eu];constructor<;>(unfold Yh;rcases cY l with _|xs<;>rcases cY l' with _|ys<;>rcases eqs T with _|e<;>simp[R.iC])
theorem Mw(eqs:(T:TypeId)->Option (EqSpec P T))(T:TypeId)(cs cs' : Array Value) :
  a7 P eqs .eql T [.v (.agg cs),.v (.agg cs')]=Yh false (some cs.toList) (some cs'.toList) (eqs T)/\a7 P eqs .neq T [.v (.agg cs),.v (.agg cs')]=Yh true (some cs.toList) (some cs'.toList) (eqs T):=by
 simp only[a7,nj,Eu];refine⟨?_,?_⟩<;>(unfold Yh;rcases eqs T with _|e<;>simp[R.iC])
theorem Mv(eqs:(T:TypeId)->Option (EqSpec P T))(T:TypeId)(cs:Array Value)(l:List SV) :
  a7 P eqs .eql T [.v (.agg cs),.agg l]=Yh false (some cs.toList) (cY l) (eqs T)/\a7 P eqs .neq T [.v (.agg cs),.agg l]=Yh true (some cs.toList) (cY l) (eqs T) /\
  a7 P eqs .eql T [.agg l,.v (.agg cs)]=Yh false (cY l) (some cs.toList) (eqs T)/\a7 P eqs .neq T [.agg l,.v (.agg cs)]=Yh true (cY l) (some cs.toList) (eqs T):=by
 simp only[a7,nj,Eu];refine⟨?_,?_,?_,?_⟩<;>(unfold Yh;rcases cY l with _|xs<;>rcases eqs T with _|e<;>simp[R.iC])
theorem Zi{T:TypeId}(neg:Bool)(xs ys:List Value)(e:EqSpec P T):Yh neg (some xs) (some ys) (some e)=⟨(e.f xs ys).isSome=true,.v (.bool (neg ^^ (e.f xs ys).getD false)),[],none,[],[]⟩:=rfl
theorem W7(b:Bool):xl .not [.v (.bool b)]=⟨True,.v (.bool (!b)),[],none,[],[]⟩:=rfl
theorem W6(k:IntKind)(n:Int):xl .neg [.v (.int k n)]=⟨True,.v (.int k (k.wrap (0-n))),[],none,[],[]⟩:=rfl
theorem QI(T:TypeId)(s:ByteArray):jP P h T [.v (.string s)]=⟨P.underlying T=some .string,.v (.int .i64 s.size),[],none,[],[]⟩:=rfl
theorem Iz(T:TypeId)(a:Option Addr)(n c:Nat):jP P h T [.v (.slice a n c)]=⟨∃ e,P.underlying T=some (.slice e),.v (.int .i64 n),[],none,[],[]⟩:=rfl
def akY(P:Program)(T:TypeId)(k:Nat):Option aZ->R
 |some (.row _ _ n _)=>⟨∃ e,P.underlying T=some (.slice e),.v (.int .i64 n),[],none,[],[k]⟩
 |_=>.bad
theorem WZ(T:TypeId)(k:Nat):jP P h T [.hd k]=akY P T k (h k):=by
 simp only[jP];unfold akY;rcases h k with _|e
 ·rfl
 ·cases e<;>rfl
theorem aad(T T' : TypeId)(k s n:Nat)(vs:List SV):akY P T k (some (.row T' s n vs))=⟨∃ e,P.underlying T=some (.slice e),.v (.int .i64 n),[],none,[],[k]⟩:=rfl
def ixK(P:Program)(k:Nat)(i:Int):Option TypeDesc->Option aZ->R
 |some (.slice e),some (.row _ size n _)=>⟨ts P e=some size/\0<=i/\i<n/\0<size,.own k (i.toNat*size),[],none,[],[k]⟩
 |_,_=>.bad
theorem AJ(T:TypeId)(k:Nat)(ik:IntKind)(i:Int):bG P h T [.hd k,.v (.int ik i)]=ixK P k i (P.underlying T) (h k):=by
 simp only[bG];unfold ixK;rcases P.underlying T with _|d<;>rcases h k with _|e
 ·rfl
 ·cases e<;>rfl
 ·cases d<;>rfl
 ·cases d<;>cases e<;>rfl
theorem ZZ(e e' : TypeId)(k size n:Nat)(i:Int)(vs:List SV):ixK P k i (some (.slice e)) (some (.row e' size n vs))=⟨ts P e=some size/\0<=i/\i<n/\0<size,.own k (i.toNat*size),[],none,[],[k]⟩:=rfl
def ixY(b o n:Nat)(i:Int):Option Nat->R
 |some sz=>⟨0<=i/\i<n,.v (.pointer (some ⟨b,o+i.toNat*sz,none⟩)),[],none,[],[]⟩
 |none=>.bad
def ixX(P:Program)(b o n:Nat)(i:Int):Option TypeDesc->R
 |some (.slice e)=>ixY b o n i (ts P e)
 |_=>.bad
theorem yY(T:TypeId)(b o n c:Nat)(ik:IntKind)(i:Int):bG P h T [.v (.slice (some ⟨b,o,none⟩) n c),.v (.int ik i)]=ixX P b o n i (P.underlying T):=by
 simp only[bG];unfold ixX;rcases P.underlying T with _|d
 ·rfl
 ·cases d<;>rfl
theorem Vv(e:TypeId)(b o n:Nat)(i:Int):ixX P b o n i (some (.slice e))=ixY b o n i (ts P e):=rfl
def ixH(b o:Nat)(i:Int)(n:Nat):Option Nat->R
 |some sz=>⟨0<=i/\i<n/\1<n,.v (.pointer (some ⟨b,o+i.toNat*sz,none⟩)),[],none,[],[]⟩
 |none=>.bad
def ixG(P:Program)(b o:Nat)(i:Int):Option TypeDesc->R
 |some (.array n e)=>ixH b o i n (ts P e)
 |_=>.bad
theorem yZ(T:TypeId)(b o:Nat)(ik:IntKind)(i:Int):bG P h T [.v (.pointer (some ⟨b,o,none⟩)),.v (.int ik i)]=ixG P b o i (P.underlying T):=by
 simp only[bG];unfold ixG;rcases P.underlying T with _|d
 ·rfl
 ·cases d
  case array n e=>unfold ixH;cases ts P e<;>rfl
  all_goals rfl
theorem Vt(b o n:Nat)(i:Int)(e:TypeId):ixG P b o i (some (.array n e))=ixH b o i n (ts P e):=rfl
theorem ZY(b o n sz:Nat)(i:Int):ixH b o i n (some sz)=⟨0<=i/\i<n/\1<n,.v (.pointer (some ⟨b,o+i.toNat*sz,none⟩)),[],none,[],[]⟩:=rfl
theorem Z0(b o n:Nat)(i:Int)(sz:Nat):ixY b o n i (some sz)=⟨0<=i/\i<n,.v (.pointer (some ⟨b,o+i.toNat*sz,none⟩)),[],none,[],[]⟩:=rfl
theorem Iy(T:TypeId)(s:ByteArray)(ik:IntKind)(i:Int):gH P T [.v (.string s),.v (.int ik i)]=⟨P.underlying T=some .string/\0<=i/\i<s.size,.v (.int .u8 (bt s i)),[],none,[],[]⟩:=rfl
theorem IE(T:TypeId)(s:ByteArray)(k k' : IntKind)(a b:Int):dA P T true true false [.v (.string s),.v (.int k a),.v (.int k' b)]=⟨P.underlying T=some .string/\0<=a/\a<=b/\b<=s.size,.v (.string (s.extract a.toNat b.toNat)),[],none,[],[]⟩:=by
 simp[dA,kF,pL,R.iC]
theorem ID(T:TypeId)(s:ByteArray)(k:IntKind)(a:Int):dA P T true false false [.v (.string s),.v (.int k a)]=⟨P.underlying T=some .string/\0<=a/\a<=s.size,.v (.string (s.extract a.toNat s.size)),[],none,[],[]⟩:=by
 simp[dA,kF,pL,R.iC]
theorem IC(T:TypeId)(s:ByteArray)(k' : IntKind)(b:Int):dA P T false true false [.v (.string s),.v (.int k' b)]=⟨P.underlying T=some .string/\0<=b/\b<=s.size,.v (.string (s.extract 0 b.toNat)),[],none,[],[]⟩:=by
 simp[dA,kF,pL,R.iC]
theorem AK(a:Addr):de h [.v (.pointer (some a))]=⟨True,.v (.pointer (some a)),[],none,[],[]⟩:=rfl
theorem abZ(T:TypeId)(x:Value):oq P T [.v x]=⟨P.concrete T=true,.v (.iface T x),[],none,[],[]⟩:=rfl
end
end
end
section
def ev1:=(aa @agm (aa @abG (aa @agl (aa @abD (aa @Vl (aa @agT (aa @ace (aa @acd (aa @ach (aa @Xu (aa @acg (aa @Xr (aa @afa (aa @akC (aa @afb (aa @U0 (aa @OU (aa @Zs (aa @ae9 (aa @Zr (aa @akA (aa @Zp (aa @Zq (aa @UY (aa @ae8 (aa @Zo (aa @afT (aa @ak3 (aa @PW (aa @alT (aa @Wy (aa @Wx (aa @ac7 (aa @XY (aa @afj (aa @ZB (aa @aft (aa @ZS (aa @OR (aa @OQ (aa @ab4 (aa @QO (aa @W9 (aa @agH (aa @Xb (aa @C5 (aa @ab3 (aa @Xg (aa @IK (aa @Xa @ab5))))))))))))))))))))))))))))))))))))))))))))))))))
def ev2:=(aa @MB (aa @Fp (aa @Xe (aa @xn (aa @Xf <| aa @QQ (aa @Fl (aa @Xc (aa @Fo (aa @Xd (aa @MC (aa @agI (aa @QN (aa @ab0 (aa @e8 (aa @WY (aa @ami (aa @anT (aa @amj (aa @amY (aa @VD (aa @Po (aa @LW (aa @Ic (aa @LY (aa @CJ (aa @H9 (aa @Fh (aa @AF (aa @Fg (aa @yN (aa @LZ (aa @PT (aa @Ib (aa @LX (aa @V9 (aa @HY (aa @PH (aa @LJ (aa @Ff (aa @LI (aa @Cv (aa @Wa (aa @aaW (aa @PK (aa @V8 (aa @KR (aa @US (aa @IL (aa @QR (aa @Mn @Kc))))))))))))))))))))))))))))))))))))))))))))))))))
def ev3:=(aa @yZ (aa @Vt (aa @ZY (aa @Vk (aa @true_or (aa @WX (aa @Mz (aa @VM (aa @VN (aa @My (aa @VO (aa @VP (aa @NF (aa @ND (aa @NH (aa @NG (aa @II (aa @MO (aa @yX (aa @Zu (aa @yW (aa @Zv (aa @Iw (aa @Fj (aa @OW (aa @OX (aa @C3 (aa @AI (aa @QE (aa @QF (aa @QD (aa @QG (aa @Mu (aa @XZ (aa @RW (aa @QC (aa @Mw (aa @Mv (aa @Zi (aa @W7 (aa @W6 (aa @QI (aa @Iz (aa @WZ (aa @aad (aa @AJ (aa @ZZ (aa @yY (aa @Vv (aa @Z0 (aa @Iy (aa @IE (aa @ID (aa @IC (aa @AK @abZ)))))))))))))))))))))))))))))))))))))))))))))))))))))))
end
section
open Go.RowKit
def vM:List Value->Nat->List (Nat×FV)
 |[],_=>[]
 |x::r,i=>(i,.is (.v x))::vM r (i+1)
theorem YH(i:Nat):vM [] i=[]:=rfl
theorem Ul(x:Value)(r:List Value)(i:Nat):vM (x::r) i=(i,.is (.v x))::vM r (i+1):=rfl
def σ0(args:List Value):St:=⟨0,eA (vM args 0),dS []⟩
theorem ti:∀ (l:List Value) (i t:Nat),(eA (vM l i) t).keys=[]
 |[],_,_=>rfl
 |x::r,i,t=>by
  simp only[vM,eA,bu];split
  ·rfl
  ·exact ti r (i+1) t
theorem tg(E:Nat->Value):∀ (l:List Value) (i t:Nat) (tm:Nat->Value),(∀ j (h:j<l.length),tm (i+j)=l[j])->fits E (eA (vM l i) t) (tm t)
 |[],_,_,_,_=>trivial
 | x::r,i,t,tm,h=>by
  simp only[vM,eA,bu];split
  ·rename_i ht;subst ht;have:=h 0 sI;simpa [fits,den] using this
  ·exact tg E r (i+1) t tm λj hj=>by
    have:=h (j+1) (by simpa using hj);rw[show i+1+j=i+(j+1) by omega];simpa using this
theorem tT{w:World}{nt m:Nat}(args:Array Value)(hnt:args.size+m=nt) :
  Sat w [] nt ⟨[],[]⟩ (σ0 args.toList) { tmps:=args++Array.replicate m undef,defers:=[] } w:=by
 refine⟨⟨λ_=>undef,λ_=>[],λt=>?_,⟨λk e h=>(by cases h),λk e h=>(by cases h),λk e h=>(by cases h),λk k' e e' _ h=>(by cases h),an.refl w []⟩,λp hp=>(by cases hp)⟩,by simpa using hnt,rfl,λp hp=>(by cases hp),λt k hk=>?_,λk e h=>(by cases h)⟩
 ·refine tg _ args.toList 0 t (λt=>(args++Array.replicate m undef).getD t undef) λj hj=>?_
  have hj' : j<args.size:=by simpa using hj
  rw[Nat.zero_add,Array.getD_eq_getD_getElem?,Array.getElem?_append_left hj',Array.getElem?_eq_getElem hj'];rfl
 ·simp only[σ0,ti]at hk;cases hk
section
variable {P:Program}{f:FuncId}{fn:Func}{c:Code}{args:Array Value}{w:World}{nt:Nat}
theorem ak{v:Value}(rs:List ResultVar)(hf:P.funcs[f]?=some fn)(hb:fn.body=some c)(hrs:fn.results.toList=rs)(hnt:args.size+(fn.ntmps-args.size)=nt)
  (h:Wp P w [] nt ⟨[],[]⟩ c (Fin P rs (λ_ _ x _=>∀ E,den E x=v) (λ_ _=>False)) (σ0 args.toList)) :
  Calls P f args w λe w' => e=.returned v/\an w [] w' := by
 subst hrs;refine (oY hf hb (tT args hnt) h).mono λe w' he=>?_
 cases e with
 |returned u=>
  obtain⟨W',bs',E,F,x,h,hx,hR,rfl,hs,_⟩:=he;exact⟨by rw[hR E],hx.fR hs.keeps⟩
 |panicked c=>obtain⟨_,_,_,_,_,_,hf,_⟩:=he;exact hf.elim
 |outgrown=>exact he.elim
end
inductive AV where
 |val (v:Value)
 |row (T:TypeId) (s n:Nat) (vs:List Value)
 |mp (ks:List ByteArray) (vs:List Value)
def fT(k:Nat):Option aZ->Option (AV×List Nat)
 |some (.row T s n us)=>(cY us).map λvs=>(.row T s n vs,[k])
 |some (.mp ks us)=>(cY us).map λvs=>(.mp ks vs,[k])
 |_=>none
def bT(h:Hp):SV->Option (AV×List Nat)
 |.v x=>some (.val x,[])
 |.agg l=>(cY l).map λvs=>(.val (.agg vs.toArray),[])
 |.hd k=>fT k (h k)
 |_=>none
def j9:Option (AV×List Nat)->Option (List AV×List Nat)->Option (List AV×List Nat)
 |some (a,r),some (as_,rs)=>some (a::as_,r++rs)
 |_,_=>none
def aB(h:Hp):List SV->Option (List AV×List Nat)
 |[]=>some ([],[])
 |x::r=>j9 (bT h x) (aB h r)
def SN:Value->Option Nat
 |.map r=>r
 |_=>none
def ajJ(w:World)(u:Value)(ks:List ByteArray)(vs:List Value):Prop:=
 ∃ b es c,u=.map (some b)/\w.heap[b]?=some (.map es c)/\es.toList.map (·.key)=ks.map .string/\es.toList.map (·.val)=vs
theorem l8{E:Nat->Value}{w:World}{u:Value}{ks:List ByteArray}{vs:List SV}{fp:List Nat}:bA E u fp w (.mp ks vs) ↔ ajJ w u ks (ai E vs)/\fp=(SN u).toList:=by
 constructor
 ·rintro⟨b,es,c,rfl,rfl,h⟩;exact⟨⟨b,es,c,rfl,h⟩,rfl⟩
 ·rintro⟨⟨b,es,c,rfl,h⟩,rfl⟩;exact⟨b,es,c,rfl,rfl,h⟩
def ur(w:World)(u:Value):AV->Prop
 |.val v=>u=v
 |.row T s n vs=>w.ownsRow 0 T s u n vs
 |.mp ks vs=>ajJ w u ks vs
def fm(w:World):List Value->List AV->Prop
 |[],[]=>True
 |u::r,a::s=>ur w u a/\fm w r s
 |_,_=>False
theorem mb{E:Nat->Value}:∀ {l:List SV} {vs:List Value},cY l=some vs->ai E l=vs
 |[],vs,h=>by simp[cY]at h;subst h;rfl
 | x::r,vs,h=>by
  cases x with
  |v x=>
   simp only[cY,Option.map_eq_some_iff]at h;obtain⟨ws,h1,rfl⟩:=h;simp[ai,den,mb h1]
  |_=>simp[cY]at h
section
variable {P:Program}{W:World}{bs:List Nat}{E:Nat->Value}{F:Nat->List Nat}{h:Hp}{w:World}
theorem G0(hs:aj W bs E F h w){x:SV}{a:AV}{r:List Nat}(hv:bT h x=some (a,r)):ur w (den E x) a:=by
 cases x with
 |v x=>simp[bT]at hv;obtain⟨rfl,rfl⟩:=hv;rfl
 |agg l=>
  simp only[bT,Option.map_eq_some_iff,Prod.mk.injEq]at hv;obtain⟨vs,h1,rfl,rfl⟩:=hv;simp[ur,den,mb h1]
 | hd k=>
  simp only[bT]at hv;cases hk:h k with
  |none=>rw[hk]at hv;simp[fT]at hv
  | some e=>
   cases e with
   |row T s n us=>
    rw[hk]at hv;simp only[fT,Option.map_eq_some_iff,Prod.mk.injEq]at hv;obtain⟨vs,h1,rfl,rfl⟩:=hv;have:=hs.ent k _ hk;simp only[ur,den];rw[fQ (cd this),<- mb (E:=E) h1];exact this.1
   |mp ks us=>
    rw[hk]at hv;simp only[fT,Option.map_eq_some_iff,Prod.mk.injEq]at hv;obtain⟨vs,h1,rfl,rfl⟩:=hv;have:=hs.ent k _ hk;simp only[ur,den];rw[fQ (cd this),<- mb (E:=E) h1];exact (l8.1 this).1
   |cells T vs=>rw[hk]at hv;simp[fT]at hv
   |obj d R=>rw[hk]at hv;simp[fT]at hv
 |own k o=>simp[bT]at hv
 |tup l=>simp[bT]at hv
 |nO t x=>simp[bT]at hv
 |part k i=>simp[bT]at hv
 |fn f a c=>simp[bT]at hv
theorem eE(hs:aj W bs E F h w):∀ {l:List SV} {as_:List AV} {r:List Nat},aB h l=some (as_,r)->fm w (ai E l) as_
 |[],as_,r,hv=>by simp[aB]at hv;obtain⟨rfl,rfl⟩:=hv;trivial
 | x::l,as_,r,hv=>by
  simp only[aB]at hv;cases h1:bT h x with
  |none=>rw[h1]at hv;simp[j9]at hv
  | some p=>
   cases h2:aB h l with
   |none=>rw[h1,h2]at hv;simp[j9]at hv
   |some q=>
    obtain⟨a,ra⟩:=p;obtain⟨as',rs⟩:=q;rw[h1,h2]at hv;simp only[j9,Option.some.injEq,Prod.mk.injEq]at hv;obtain⟨rfl,rfl⟩:=hv;exact⟨G0 hs h1,eE hs h2⟩
theorem GZ{h' : Hp}{x:SV}{a:AV}{r:List Nat}(hv:bT h x=some (a,r))(hr:∀ k∈r,h' k=h k):bT h' x=some (a,r):=by
 cases x with
 | hd k=>
  simp only[bT]at hv ⊢;have:k∈r:=by
   cases hk:h k with
   |none=>rw[hk]at hv;simp[fT]at hv
   |some e=>
    cases e<;>rw[hk]at hv<;>simp[fT]at hv
    all_goals (obtain⟨vs,h1,rfl,rfl⟩:=hv;simp)
  rw[hr k this];exact hv
 |_=>exact hv
theorem cU{h' : Hp}:∀ {l:List SV} {as_:List AV} {r:List Nat},aB h l=some (as_,r)->(∀ k∈r,h' k=h k)->aB h' l=some (as_,r)
 |[],_,_,hv,_=>hv
 | x::l,as_,r,hv,hr=>by
  simp only[aB]at hv ⊢;cases h1:bT h x with
  |none=>rw[h1]at hv;simp[j9]at hv
  | some p=>
   cases h2:aB h l with
   |none=>rw[h1,h2]at hv;simp[j9]at hv
   |some q=>
    obtain⟨a,ra⟩:=p;obtain⟨as',rs⟩:=q;rw[h1,h2]at hv;simp only[j9,Option.some.injEq,Prod.mk.injEq]at hv;obtain⟨rfl,rfl⟩:=hv;rw[GZ h1 λk hk=>hr k (by simp[hk]),cU h2 λk hk=>hr k (by simp[hk])];rfl
end
structure a8 (P:Program)(f:FuncId) where
 pre:World->List Nat->List AV->Prop
 res:World->List AV->Value
 enters:∀ args w,(callFunc f args).run P w=.ok (.enter f args) w
 ok:∀ (W w:World) (bs:List Nat) (us:List Value) (as_:List AV),an W bs w->fm w us as_->pre W bs as_->Calls P f us.toArray w λe w' => e=.returned (res W as_)/\an w [] w'
def Gp(pre:World->List Nat->List AV->Prop)(res:World->List AV->Value)(W:World)(bs:List Nat):Option (List AV×List Nat)->R
 |some (as_,rs)=>⟨pre W bs as_,.v (res W as_),[],none,[],rs⟩
 |none=>.bad
def a8.spec{P:Program}{f:FuncId}(p:a8 P f):Spec P f where
 ev:=λW bs _ h args=>Gp p.pre p.res W bs (aB h args)
 good:=λW bs κ E F h w K args hs hK hk hx hside=>by
  rw[p.enters];cases hv:aB h args with
  |none=>rw[hv]at hside;exact hside.elim
  |some q=>
   obtain⟨as_,rs⟩:=q;rw[hv]at hside;exact yr hs (p.ok W w bs _ as_ hs.keeps (eE hs hv) hside) rfl rfl rfl
 keys:=λW bs κ h K args hK hx hside=>by
  cases hv:aB h args with
  |none=>rw[hv]at hside;exact hside.elim
  |some q=>exact aQ.plain (λk hk=>by cases hk) rfl
 loc:=λW bs κ h h' args hside hr=>by
  cases hv:aB h args with
  |none=>rw[hv]at hside;exact hside.elim
  |some q=>
   obtain⟨as_,rs⟩:=q;rw[hv]at hr;rw[cU hv hr]
structure Yr (P:Program)(f:FuncId) where
 pre:World->List Nat->List AV->Prop
 T:TypeId
 s:Nat
 n:World->List AV->Nat
 vs:World->List AV->List Value
 tm:World->List AV->SV->SV
 g:World->List AV->Value->Value
 tmg:∀ W as_ E x,den E (tm W as_ x)=g W as_ (den E x)
 tmk:∀ W as_ x,∀ k∈(tm W as_ x).keys,k∈x.keys
 enters:∀ args w,(callFunc f args).run P w=.ok (.enter f args) w
 ok:∀ (W w:World) (bs:List Nat) (us:List Value) (as_:List AV),an W bs w->fm w us as_->pre W bs as_->Calls P f us.toArray w λe w' =>
  ∃ u fp,e=.returned (g W as_ u)/\(∀ E',bA E' u fp w' (.row T s (n W as_) ((vs W as_).map .v)))/\(∀ b∈fp,w.heap.size<=b/\b<w'.heap.size)/\an w [] w'
def Lp(κ:Nat)(T:TypeId)(s:Nat)(pre:World->List Nat->List AV->Prop)(n:World->List AV->Nat)(vs:World->List AV->List Value)(tm:World->List AV->SV->SV)(W:World)(bs:List Nat):Option (List AV×List Nat)->R
 |some (as_,rs)=>⟨pre W bs as_,tm W as_ (.hd (8*κ)),[(8*κ,some (.row T s (n W as_) ((vs W as_).map .v)))],none,[],rs⟩
 |none=>.bad
def Yr.spec{P:Program}{f:FuncId}(p:Yr P f):Spec P f where
 ev:=λW bs κ h args=>Lp κ p.T p.s p.pre p.n p.vs p.tm W bs (aB h args)
 good:=λW bs κ E F h w K args hs hK hk hx hside=>by
  rw[p.enters];cases hv:aB h args with
  |none=>rw[hv]at hside;exact hside.elim
  |some q=>
   obtain⟨as_,rs⟩:=q;rw[hv]at hside;refine BQ hs hK hk ((p.ok W w bs _ as_ hs.keeps (eE hs hv) hside).mono λe w' he=>?_) rfl rfl;obtain⟨u,fp,rfl,hent,hfp,hkeep⟩:=he;refine⟨_,u,fp,rfl,hent,hfp,hkeep,?_⟩;simp only[Lp,p.tmg,den,nk,ah];rw[fQ (cd (hent E))]
 keys:=λW bs κ h K args hK hx hside=>by
  cases hv:aB h args with
  |none=>rw[hv]at hside;exact hside.elim
  | some q=>
   obtain⟨as_,rs⟩:=q;refine⟨λk hk=>.inr ?_,λq hq=>?_⟩
   ·have:=p.tmk _ _ _ k hk;simp[SV.keys]at this;subst this;exact a6 κ
   ·simp only[Lp,List.mem_singleton]at hq;subst hq;refine⟨.inr (a6 κ),λe he k hk=>?_⟩;simp only[Option.some.injEq]at he;subst he;simp only[aZ.keys,aR]at hk;cases hk
 loc:=λW bs κ h h' args hside hr=>by
  cases hv:aB h args with
  |none=>rw[hv]at hside;exact hside.elim
  |some q=>
   obtain⟨as_,rs⟩:=q;rw[hv]at hr;rw[cU hv hr]
theorem X1(h:Hp):aB h []=some ([],[]):=rfl
theorem Ew(h:Hp)(x:SV)(r:List SV):aB h (x::r)=j9 (bT h x) (aB h r):=rfl
theorem ahe(h:Hp)(x:Value):bT h (.v x)=some (.val x,[]):=rfl
theorem X0(h:Hp)(l:List SV):bT h (.agg l)=(cY l).map λvs=>(.val (.agg vs.toArray),[]):=rfl
theorem ada(h:Hp)(k:Nat):bT h (.hd k)=fT k (h k):=rfl
theorem WM(k:Nat)(T:TypeId)(s n:Nat)(us:List SV):fT k (some (.row T s n us))=(cY us).map λvs=>(.row T s n vs,[k]):=rfl
theorem OG(a:AV)(r:List Nat)(as_:List AV)(rs:List Nat):j9 (some (a,r)) (some (as_,rs))=some (a::as_,r++rs):=rfl
theorem aq(l:List Value):cY (l.map .v)=some l:=by
 induction l with
 |nil=>rfl
 |cons x r ih=>simp[cY,ih]
theorem CP(pre:World->List Nat->List AV->Prop)(res:World->List AV->Value)(W:World)(bs:List Nat)(as_:List AV)(rs:List Nat):Gp pre res W bs (some (as_,rs))=⟨pre W bs as_,.v (res W as_),[],none,[],rs⟩:=rfl
theorem Ps(κ:Nat)(T:TypeId)(s:Nat)(pre:World->List Nat->List AV->Prop)(n:World->List AV->Nat)(vs:World->List AV->List Value)(tm:World->List AV->SV->SV)(W:World)(bs:List Nat)(as_:List AV)(rs:List Nat) :
  Lp κ T s pre n vs tm W bs (some (as_,rs))=⟨pre W bs as_,tm W as_ (.hd (8*κ)),[(8*κ,some (.row T s (n W as_) ((vs W as_).map .v)))],none,[],rs⟩:=rfl
section
variable {P:Program}{W:World}{bs:List Nat}{κ:Nat}{h:Hp}
def zZ(fl:List (Nat×Nat))(cells:List SV)(l:List (Nat×SV)):Option (List SV):=fw (λi=>fl[i]?) cells l
def Zy(fl:List (Nat×Nat))(cells:List SV)(r:List (Nat×SV))(x:SV):Option (Nat×Nat)->Option (List SV)
 |some (off,size)=>if (partsOf x).length=size/\off+size<=cells.length then zZ fl (av cells off (partsOf x)) r else none
 |none=>none
theorem FU(fl:List (Nat×Nat))(cells:List SV):zZ fl cells []=some cells:=rfl
theorem OZ(fl:List (Nat×Nat))(cells:List SV)(i:Nat)(x:SV)(r:List (Nat×SV)):zZ fl cells ((i,x)::r)=Zy fl cells r x (fl[i]?):=by
 simp only[zZ,fw,Zy];cases fl[i]?<;>rfl
theorem O0(fl:List (Nat×Nat))(cells:List SV)(r:List (Nat×SV))(x:SV)(off size:Nat) :
  Zy fl cells r x (some (off,size))=if (partsOf x).length=size/\off+size<=cells.length then zZ fl (av cells off (partsOf x)) r else none:=rfl
def N6:Option (List SV)->R
 |some cells=>⟨True,.agg cells,[],none,[],[]⟩
 |none=>.bad
theorem Ud(l:List SV):N6 (some l)=⟨True,.agg l,[],none,[],[]⟩:=rfl
def Oo(idx:List Nat)(args:List SV):Option (List Value)->Option (List (Nat×Nat))->R
 |some zs,some fl=>N6 (zZ fl (zs.map .v) (idx.zip args))
 |_,_=>.bad
theorem KA(idx:List Nat)(args:List SV)(zs:List Value)(fl:List (Nat×Nat)):Oo idx args (some zs) (some fl)=N6 (zZ fl (zs.map .v) (idx.zip args)):=rfl
theorem au(T:TypeId)(idx:List Nat)(args:List SV)(hs:(rD P T).isSome=true):iE P T idx args=Oo idx args (tz P T) (rD P T):=by
 have hu:∃ fs,P.underlying T=some (.struct fs):=by
  unfold rD at hs;split at hs
  ·rename_i fs hfs;exact⟨fs,hfs⟩
  ·cases hs
 obtain⟨fs,hu⟩:=hu;obtain⟨fl,hfl⟩:=Option.isSome_iff_exists.1 hs;unfold iE Oo;rw[hu,hfl];cases tz P T with
 |none=>rfl
 |some zs=>
  simp only[zZ,N6];cases fw (λi=>fl[i]?) (zs.map .v) (idx.zip args)<;>rfl
def wq(sz:Nat)(cells:List SV)(l:List (Nat×SV)):Option (List SV):=fw (λi=>some (i*sz,sz)) cells l
theorem U3(sz:Nat)(cells:List SV):wq sz cells []=some cells:=rfl
theorem O3(sz:Nat)(cells:List SV)(i:Nat)(x:SV)(r:List (Nat×SV)) :
  wq sz cells ((i,x)::r)=if (partsOf x).length=sz/\i*sz+sz<=cells.length then wq sz (av cells (i*sz) (partsOf x)) r else none:=rfl
def agn(κ:Nat)(e:TypeId)(sz len:Nat)(p:Prop):Option (List SV)->R
 |some cells=>⟨p,.hd (8*κ),[(8*κ,some (.row e sz len cells))],none,[],[]⟩
 |none=>.bad
theorem WN(e:TypeId)(sz len:Nat)(p:Prop)(l:List SV):agn κ e sz len p (some l)=⟨p,.hd (8*κ),[(8*κ,some (.row e sz len l))],none,[],[]⟩:=rfl
def bsK(κ:Nat)(e:TypeId)(len:Nat)(idx:List Nat)(args:List SV):Option Nat->Option (List Value)->R
 |some sz,some zs=>agn κ e sz len (len*sz<=16777216/\zs.length=sz/\0<sz) (wq sz ((List.replicate len zs).flatten.map .v) (idx.zip args))
 |_,_=>.bad
theorem YV(e:TypeId)(len:Nat)(idx:List Nat)(args:List SV)(sz:Nat)(zs:List Value) :
  bsK κ e len idx args (some sz) (some zs)=agn κ e sz len (len*sz<=16777216/\zs.length=sz/\0<sz) (wq sz ((List.replicate len zs).flatten.map .v) (idx.zip args)):=rfl
def bsU(P:Program)(κ:Nat)(len:Nat)(idx:List Nat)(args:List SV):Option TypeDesc->R
 |some (.slice e)=>bsK κ e len idx args (ts P e) (tz P e)
 |_=>.bad
theorem Uz(len:Nat)(idx:List Nat)(args:List SV)(e:TypeId):bsU P κ len idx args (some (.slice e))=bsK κ e len idx args (ts P e) (tz P e):=rfl
theorem ab(T:TypeId)(len:Nat)(idx:List Nat)(args:List SV):dQ P κ T len idx args=bsU P κ len idx args (P.underlying T):=by
 unfold dQ bsU;rcases P.underlying T with _|d
 ·rfl
 ·cases d with
  | slice e=>
   simp only[bsK];rcases ts P e with _|sz<;>rcases tz P e with _|zs
   ·rfl
   ·rfl
   ·rfl
   ·simp only[agn,wq];cases fw (λi=>some (i*sz,sz)) ((List.replicate len zs).flatten.map .v) (idx.zip args)<;>rfl
  |_=>rfl
def aet(P:Program)(κ k j:Nat)(tys:List TypeId):Option aZ->Option aZ->R
 |some (.row e sz n vs),some (.row _ sz' m us)=>match tys,xq P e,tz P e with
  |[T,T'],some by_,some zs=>⟨T' = T/\P.underlying T=some (.slice e)/\ts P e=some sz/\zs.length=sz/\0<sz/\sz' = sz/\k≠j/\0<m/\n+m<=maxLen/\(n+m)*by_<=140737488355328/\us.all dO=true,.hd (8*κ),[(k,none),(8*κ,some (.row e sz (n+m) (vs++us)))],none,[],[k,j]⟩
  |_,_,_=>.bad
 |_,_=>.bad
theorem Qn(tys:List TypeId)(k j:Nat):gj P W bs κ h tys [.hd k,.hd j]=aet P κ k j tys (h k) (h j):=by
 simp only[gj];unfold aet;rcases h k with _|e<;>rcases h j with _|e'
 ·rcases tys with _|⟨a,_|⟨b,_|_⟩⟩<;>rfl
 ·rcases tys with _|⟨a,_|⟨b,_|_⟩⟩<;>rfl
 ·rcases tys with _|⟨a,_|⟨b,_|_⟩⟩<;>cases e<;>rfl
 ·rcases tys with _|⟨a,_|⟨b,_|_⟩⟩<;>cases e<;>cases e' <;> try rfl
  rename_i T s n vs T' s' n' vs';simp only[];rcases xq P T with _|x<;>rcases tz P T with _|y<;>rfl
def akg(P:Program)(κ k j:Nat)(T T' e sz n sz' m:Nat)(vs us:List SV):Option Nat->Option (List Value)->R
 |some by_,some zs=>⟨T' = T/\P.underlying T=some (.slice e)/\ts P e=some sz/\zs.length=sz/\0<sz/\sz' = sz/\k≠j/\0<m/\n+m<=maxLen/\(n+m)*by_<=140737488355328/\us.all dO=true,.hd (8*κ),[(k,none),(8*κ,some (.row e sz (n+m) (vs++us)))],none,[],[k,j]⟩
 |_,_=>.bad
theorem YB(k j:Nat)(T T' e e' : TypeId)(sz n sz' m:Nat)(vs us:List SV) :
  aet P κ k j [T,T'] (some (.row e sz n vs)) (some (.row e' sz' m us))=akg P κ k j T T' e sz n sz' m vs us (xq P e) (tz P e):=by
 simp only[aet,akg];rcases xq P e with _|x<;>rcases tz P e with _|y<;>rfl
theorem Uf(k j:Nat)(T T' e sz n sz' m:Nat)(vs us:List SV)(by_:Nat)(zs:List Value) :
  akg P κ k j T T' e sz n sz' m vs us (some by_) (some zs)=⟨T' = T/\P.underlying T=some (.slice e)/\ts P e=some sz/\zs.length=sz/\0<sz/\sz' = sz/\k≠j/\0<m/\n+m<=maxLen/\(n+m)*by_<=140737488355328/\us.all dO=true,.hd (8*κ),[(k,none),(8*κ,some (.row e sz (n+m) (vs++us)))],none,[],[k,j]⟩:=rfl
def aeu(P:Program)(κ j:Nat)(T T' : TypeId):Option TypeDesc->Option aZ->R
 |some (.slice e),some (.row _ sz m us)=>match xq P e,tz P e with
  |some by_,some zs=>⟨T' = T/\ts P e=some sz/\zs.length=sz/\0<sz/\0<m/\m<=maxLen/\m*by_<=140737488355328/\us.all dO=true,.hd (8*κ),[(8*κ,some (.row e sz m us))],none,[],[j]⟩
  |_,_=>.bad
 |_,_=>.bad
def aex(κ k:Nat)(T T' e:TypeId)(sz n m:Nat)(vs us:List SV)(P:Program)(q:Prop):Option Nat->Option (List Value)->R
 |some by_,some zs=>⟨T' = T/\P.underlying T=some (.slice e)/\ts P e=some sz/\zs.length=sz/\q/\n+m<=maxLen/\(n+m)*by_<=140737488355328/\us.all dO=true,.hd (8*κ),[(k,none),(8*κ,some (.row e sz (n+m) (vs++us)))],none,[],[k]⟩
 |_,_=>.bad
def aew(P:Program)(W:World)(bs:List Nat)(κ k:Nat)(ao:Option Addr)(m:Nat)(T T' : TypeId):Bool->Option aZ->R
 |true,some (.row e sz n vs)=>⟨T' = T/\P.underlying T=some (.slice e)/\ts P e=some sz/\m=0,.hd k,[],none,[],[k]⟩
 |false,some (.row e sz n vs)=>(match ao with
  |some ⟨b,o,none⟩=>aex κ k T T' e sz n m vs (cv W b o (m*sz)) P (b∉bs/\fN W b o (m*sz)) (xq P e) (tz P e)
  |_=>.bad)
 |_,_=>.bad
theorem Ql(T T' : TypeId)(k m c:Nat)(ao:Option Addr):gj P W bs κ h [T,T'] [.hd k,.v (.slice ao m c)]=aew P W bs κ k ao m T T' (m == 0) (h k):=by
 simp only[gj];unfold aew;rcases h k with _|e
 ·cases (m == 0)<;>rfl
 ·cases e with
  | row e sz n vs=>
   cases (m == 0) with
   |true=>rfl
   | false=>
    simp only[cond_false];rcases ao with _|⟨b,o,_|s⟩
    ·rfl
    ·simp only[aex];rcases xq P e with _|x<;>rcases tz P e with _|y<;>rfl
    ·rfl
  |_=>cases (m == 0)<;>rfl
theorem Ui(k m:Nat)(ao:Option Addr)(T T' e:TypeId)(sz n:Nat)(vs:List SV):aew P W bs κ k ao m T T' true (some (.row e sz n vs))=⟨T' = T/\P.underlying T=some (.slice e)/\ts P e=some sz/\m=0,.hd k,[],none,[],[k]⟩:=rfl
theorem YE(k m b o:Nat)(T T' e:TypeId)(sz n:Nat)(vs:List SV):aew P W bs κ k (some ⟨b,o,none⟩) m T T' false (some (.row e sz n vs))=aex κ k T T' e sz n m vs (cv W b o (m*sz)) P (b∉bs/\fN W b o (m*sz)) (xq P e) (tz P e):=rfl
theorem Uj(k:Nat)(T T' e:TypeId)(sz n m:Nat)(vs us:List SV)(q:Prop)(by_:Nat)(zs:List Value):aex κ k T T' e sz n m vs us P q (some by_) (some zs)=⟨T' = T/\P.underlying T=some (.slice e)/\ts P e=some sz/\zs.length=sz/\q/\n+m<=maxLen/\(n+m)*by_<=140737488355328/\us.all dO=true,.hd (8*κ),[(k,none),(8*κ,some (.row e sz (n+m) (vs++us)))],none,[],[k]⟩:=rfl
def aev(P:Program)(κ k:Nat)(s:ByteArray)(T T' : TypeId):Option aZ->R
 |some (.row e sz n vs)=>(match xq P e,tz P e with
  |some by_,some zs=>⟨P.underlying T' = some .string/\P.underlying T=some (.slice e)/\ts P e=some sz/\zs.length=sz/\sz=1/\n+s.size<=maxLen/\(n+s.size)*by_<=140737488355328,.hd (8*κ),[(k,none),(8*κ,some (.row e sz (n+s.size) (vs++(byteCells s).map .v)))],none,[],[k]⟩
  |_,_=>.bad)
 |_=>.bad
theorem Mp(T T' : TypeId)(k:Nat)(s:ByteArray):gj P W bs κ h [T,T'] [.hd k,.v (.string s)]=aev P κ k s T T' (h k):=by
 simp only[gj];unfold aev;rcases h k with _|e
 ·rfl
 ·cases e with
  |_=>rfl
def akj(κ k:Nat)(s:ByteArray)(P:Program)(T T' e:TypeId)(sz n:Nat)(vs:List SV):Option Nat->Option (List Value)->R
 |some by_,some zs=>⟨P.underlying T' = some .string/\P.underlying T=some (.slice e)/\ts P e=some sz/\zs.length=sz/\sz=1/\n+s.size<=maxLen/\(n+s.size)*by_<=140737488355328,.hd (8*κ),[(k,none),(8*κ,some (.row e sz (n+s.size) (vs++(byteCells s).map .v)))],none,[],[k]⟩
 |_,_=>.bad
theorem YD(k:Nat)(s:ByteArray)(T T' e:TypeId)(sz n:Nat)(vs:List SV):aev P κ k s T T' (some (.row e sz n vs))=akj κ k s P T T' e sz n vs (xq P e) (tz P e):=by
 simp only[aev,akj]
theorem Uh(k:Nat)(s:ByteArray)(T T' e:TypeId)(sz n:Nat)(vs:List SV)(by_:Nat)(zs:List Value):akj κ k s P T T' e sz n vs (some by_) (some zs)=⟨P.underlying T' = some .string/\P.underlying T=some (.slice e)/\ts P e=some sz/\zs.length=sz/\sz=1/\n+s.size<=maxLen/\(n+s.size)*by_<=140737488355328,.hd (8*κ),[(k,none),(8*κ,some (.row e sz (n+s.size) (vs++(byteCells s).map .v)))],none,[],[k]⟩:=rfl
theorem Qm(T T' : TypeId)(j:Nat):gj P W bs κ h [T,T'] [.v (.slice none 0 0),.hd j]=aeu P κ j T T' (P.underlying T) (h j):=by
 simp only[gj];unfold aeu;rcases h j with _|e'
 ·rcases P.underlying T with _|d
  ·rfl
  ·cases d<;>rfl
 ·cases e' with
  | row e sz m us=>
   simp only[];rcases P.underlying T with _|d
   ·rfl
   ·cases d with
    |slice a=>
     simp only[];rcases xq P a with _|x<;>rcases tz P a with _|y<;>rfl
    |_=>rfl
  |cells T2 vs=>
   rcases P.underlying T with _|d
   ·rfl
   ·cases d<;>rfl
  |mp ks us=>
   rcases P.underlying T with _|d
   ·rfl
   ·cases d<;>rfl
  |obj d R=>
   rcases P.underlying T with _|d
   ·rfl
   ·cases d<;>rfl
def aki(P:Program)(κ j:Nat)(T T' e sz m:Nat)(us:List SV):Option Nat->Option (List Value)->R
 |some by_,some zs=>⟨T' = T/\ts P e=some sz/\zs.length=sz/\0<sz/\0<m/\m<=maxLen/\m*by_<=140737488355328/\us.all dO=true,.hd (8*κ),[(8*κ,some (.row e sz m us))],none,[],[j]⟩
 |_,_=>.bad
theorem YC(j:Nat)(T T' e e' : TypeId)(sz m:Nat)(us:List SV) :
  aeu P κ j T T' (some (.slice e)) (some (.row e' sz m us))=aki P κ j T T' e sz m us (xq P e) (tz P e):=by
 simp only[aeu,aki]
theorem Ug(j:Nat)(T T' e sz m:Nat)(us:List SV)(by_:Nat)(zs:List Value) :
  aki P κ j T T' e sz m us (some by_) (some zs)=⟨T' = T/\ts P e=some sz/\zs.length=sz/\0<sz/\0<m/\m<=maxLen/\m*by_<=140737488355328/\us.all dO=true,.hd (8*κ),[(8*κ,some (.row e sz m us))],none,[],[j]⟩:=rfl
end
theorem ax{n:Int}(h1:-9223372036854775808<=n)(h2:n<=9223372036854775807):IntKind.i64.wrap n=n:=by
 simp only[IntKind.wrap,IntKind.bits,IntKind.signed,Bool.true_and,decide_eq_true_eq,show (2:Int) ^ (64-1)=9223372036854775808 from rfl,show (2:Int) ^ 64=18446744073709551616 from rfl];split<;>omega
theorem ahh(W:World)(b o:Nat):cv W b o 1=[.v ((W.cell? ⟨b,o,none⟩).getD undef)]:=rfl
theorem ahi(W:World)(b o:Nat):cv W b o 2=[.v ((W.cell? ⟨b,o,none⟩).getD undef),.v ((W.cell? ⟨b,o+1,none⟩).getD undef)]:=rfl
theorem ahj(W:World)(b o:Nat):cv W b o 3=[.v ((W.cell? ⟨b,o,none⟩).getD undef),.v ((W.cell? ⟨b,o+1,none⟩).getD undef),.v ((W.cell? ⟨b,o+2,none⟩).getD undef)]:=rfl
theorem ahk(W:World)(b o:Nat):cv W b o 4=[.v ((W.cell? ⟨b,o,none⟩).getD undef),.v ((W.cell? ⟨b,o+1,none⟩).getD undef),.v ((W.cell? ⟨b,o+2,none⟩).getD undef),.v ((W.cell? ⟨b,o+3,none⟩).getD undef)]:=rfl
theorem ahl(W:World)(b o:Nat):fN W b o 1=((W.cell? ⟨b,o,none⟩).isSome=true):=by simp[fN]
theorem ahm(W:World)(b o:Nat):fN W b o 2=((W.cell? ⟨b,o,none⟩).isSome=true/\(W.cell? ⟨b,o+1,none⟩).isSome=true):=by simp[fN]
theorem ahn(W:World)(b o:Nat):fN W b o 3=((W.cell? ⟨b,o,none⟩).isSome=true/\(W.cell? ⟨b,o+1,none⟩).isSome=true/\(W.cell? ⟨b,o+2,none⟩).isSome=true):=by simp[fN]
theorem aho(W:World)(b o:Nat):fN W b o 4=((W.cell? ⟨b,o,none⟩).isSome=true/\(W.cell? ⟨b,o+1,none⟩).isSome=true/\(W.cell? ⟨b,o+2,none⟩).isSome=true/\(W.cell? ⟨b,o+3,none⟩).isSome=true):=by simp[fN]
theorem agQ(e e' : TypeId):((some (TypeDesc.slice e):Option TypeDesc)=some (.slice e'))=(e=e'):=by simp
theorem agR(e:TypeId):(∃ e',(some (TypeDesc.slice e):Option TypeDesc)=some (.slice e'))=True:=by simp
theorem C2(i:Nat)(vs:Array Value):cS i [.v (.tuple vs)]=⟨i<vs.size,.v (vs.getD i undef),[],none,[],[]⟩:=rfl
theorem UA(b:Builtin)(as_:Array Operand)(tys:Array TypeId):Call.operands { callee:=.builtin b,args:=as_,argTypes:=tys }=as_:=by simp[Call.operands]
theorem UC(f:Operand)(as_:Array Operand)(tys:Array TypeId):(Call.operands { callee:=.value f,args:=as_,argTypes:=tys }).toList=f::as_.toList:=by simp[Call.operands]
theorem UB(f:Operand)(n:String)(as_:Array Operand)(tys:Array TypeId):(Call.operands { callee:=.invoke f n,args:=as_,argTypes:=tys }).toList=f::as_.toList:=by simp[Call.operands]
def abY{P:Program}{f:FuncId}(W:World)(bs:List Nat)(κ:Nat)(h:Hp)(l:List SV):Option (Spec P f)->R
 |some s=>s.ev W bs κ h l
 |none=>.bad
theorem aV{P:Program}{W:World}{bs:List Nat}{κ:Nat}{h:Hp}(Γ:Env P)(f:FuncId)(l:List SV):fz Γ W bs κ h f l=abY W bs κ h l (Γ.sp f):=by
 simp only[fz,abY];cases Γ.sp f<;>rfl
theorem aw{P:Program}{f:FuncId}(W:World)(bs:List Nat)(κ:Nat)(h:Hp)(l:List SV)(s:Spec P f):abY W bs κ h l (some s)=s.ev W bs κ h l:=rfl
theorem aD{P:Program}{f:FuncId}(p:a8 P f)(W:World)(bs:List Nat)(κ:Nat)(h:Hp)(l:List SV):p.spec.ev W bs κ h l=Gp p.pre p.res W bs (aB h l):=rfl
theorem aap{P:Program}{f:FuncId}(p:Yr P f)(W:World)(bs:List Nat)(κ:Nat)(h:Hp)(l:List SV):p.spec.ev W bs κ h l=Lp κ p.T p.s p.pre p.n p.vs p.tm W bs (aB h l):=rfl
theorem abC{P:Program}{W:World}{bs:List Nat}{σ:St}:kB P W bs σ []=(True,[]):=rfl
theorem WI{P:Program}{W:World}{bs:List Nat}{σ:St}(r:ResultVar)(l:List ResultVar):kB P W bs σ (r::l)=evC (mA P W bs σ r) (kB P W bs σ l):=rfl
def alq:FV->Prop×SV
 |.is x=>(True,x)
 |.cnd b x=>(b=true,x)
 |.any=>(False,.v undef)
theorem Qb{P:Program}{W:World}{bs:List Nat}{σ:St}(t:Nat):mA P W bs σ (.tmp t)=alq (σ.φ t):=by
 simp only[mA,alq]
 all_goals cases σ.φ t<;>rfl
theorem agk(x:SV):alq (.is x)=(True,x):=rfl
def abA(P:Program)(W:World)(bs:List Nat)(h:Hp)(T:TypeId):FV->Prop×SV
 |.is (.own k o)=>resR (dK P W bs h T [.own k o])
 |_=>(False,.v undef)
where resR (r:R):Prop×SV:=(r.side,r.val)
theorem Me{P:Program}{W:World}{bs:List Nat}{σ:St}(t:Nat)(T:TypeId):mA P W bs σ (.cell t T)=abA P W bs σ.h T (σ.φ t):=by
 simp only[mA,abA];rcases σ.φ t with x|⟨b,x⟩|_
 ·cases x<;>rfl
 ·rfl
 ·rfl
theorem abB{P:Program}{W:World}{bs:List Nat}{h:Hp}(T:TypeId)(k o:Nat):abA P W bs h T (.is (.own k o))=abA.resR (dK P W bs h T [.own k o]):=rfl
theorem agj(side:Prop)(val:SV)(u:List (Nat×Option aZ))(pan:Option (List PanicEntry))(pupd reads:List Nat):abA.resR ⟨side,val,u,pan,pupd,reads⟩=(side,val):=rfl
theorem XT(x:SV):mF [x]=x:=rfl
theorem XU(x y:SV)(l:List SV):mF (x::y::l)=.tup (x::y::l):=rfl
def akD(R:World->List Nat->SV->Hp->Prop)(W:World)(bs:List Nat)(h:Hp)(x:Prop×List SV):Prop:=x.1/\R W bs (mF x.2) h
theorem nE{P:Program}{W:World}{bs:List Nat}{rs:List ResultVar}{R:World->List Nat->SV->Hp->Prop}{RP:List PanicEntry->Hp->Prop}{σ:St}:Fin P rs R RP .ret W bs σ=akD R W bs σ.h (kB P W bs σ rs):=rfl
theorem gr{P:Program}{W:World}{bs:List Nat}{rs:List ResultVar}{R:World->List Nat->SV->Hp->Prop}{RP:List PanicEntry->Hp->Prop}{σ:St}:Fin P rs R RP .normal W bs σ=akD R W bs σ.h (kB P W bs σ rs):=rfl
theorem afi(R:World->List Nat->SV->Hp->Prop)(W:World)(bs:List Nat)(h:Hp)(p:Prop)(l:List SV):akD R W bs h (p,l)=(p/\R W bs (mF l) h):=rfl
end
section
def ev4:=(aa @X1 (aa @Ew (aa @ahe (aa @X0 (aa @ada (aa @WM (aa @OG (aa @aq (aa @CP (aa @Ps (aa @YH @Ul)))))))))))
def ev5:=(aa @Ql (aa @Ui (aa @YE (aa @Uj (aa @Mp (aa @YD (aa @Uh (aa @FU (aa @OZ (aa @O0 (aa @Ud (aa @KA (aa @U3 (aa @O3 (aa @WN (aa @YV (aa @Uz (aa @FU (aa @Qn (aa @YB (aa @Uf (aa @Qm (aa @YC (aa @Ug (aa @ahh (aa @ahi (aa @ahj (aa @ahk (aa @ahl (aa @ahm (aa @ahn (aa @aho (aa @agQ (aa @agR (aa @C2 (aa @UA (aa @UC (aa @UB (aa @aV (aa @aw (aa @aD (aa @aap (aa @abC (aa @WI (aa @Qb (aa @agk (aa @Me (aa @abB (aa @agj (aa @XT (aa @XU (aa @nE (aa @gr @afi)))))))))))))))))))))))))))))))))))))))))))))))))))))
end
end Go.LE
namespace Go.Proofs.YtnemkecffmdlnaaGreatDoor
section
theorem kR{p:Prop}(h:p:=by kernel_rfl):p:=h
open Go.RowKit Go.LE Go.Proofs.Tryz
theorem aN:prog.follows .mixedOrders=true:=kR
theorem lx:ts prog 0=some 1:=kR
theorem ly:ta prog 0=some false:=kR
theorem Tr:ts prog 1=some 1:=kR
theorem Tw:ta prog 1=some false:=kR
theorem TS:tz prog 1=some [Value.nilFunc]:=kR
theorem ty5:ts prog 2=some 1:=kR
theorem ty6:ta prog 2=some false:=kR
theorem ty7:tz prog 2=some [Value.int IntKind.i64 0]:=kR
theorem ty8:Program.underlying prog 2=some (.int IntKind.i64):=kR
theorem lA:ts prog 3=some 1:=kR
theorem di:ta prog 3=some false:=kR
theorem dj:xq prog 3=some 8:=kR
theorem dk:tz prog 3=some [Value.int IntKind.i64 0]:=kR
theorem dm:Program.underlying prog 3=some (.int IntKind.i64):=kR
theorem dB:ts prog 4=some 1:=kR
theorem dD:ta prog 4=some false:=kR
theorem dF:tz prog 4=some [Value.bool false]:=kR
theorem dG:Program.underlying prog 4=some .bool:=kR
theorem mZ:ts prog 5=some 1:=kR
theorem nc:ta prog 5=some false:=kR
theorem nf:xq prog 5=some 1:=kR
theorem ng:tz prog 5=some [Value.int IntKind.u8 0]:=kR
theorem nh:Program.underlying prog 5=some (.int IntKind.u8):=kR
theorem eK:ts prog 9=some 1:=kR
theorem eL:ta prog 9=some false:=kR
theorem eM:xq prog 9=some 16:=kR
theorem eN:tz prog 9=some [Value.string { data:=#[] }]:=kR
theorem eO:Program.underlying prog 9=some .string:=kR
theorem eP:Program.concrete prog 9=true:=kR
theorem JU:ts prog 20=some 1:=kR
theorem JV:ta prog 20=some false:=kR
theorem JW:tz prog 20=some [Value.nilIface]:=kR
theorem JX:isIface prog 20=some true:=kR
theorem ag8:ts prog 22=some 1:=kR
theorem ag9:ta prog 22=some false:=kR
theorem aha:tz prog 22=some [Value.slice none 0 0]:=kR
theorem ahb:Program.underlying prog 22=some (.slice 9):=kR
theorem oH:ts prog 37=some 1:=kR
theorem oI:ta prog 37=some false:=kR
theorem oJ:tz prog 37=some [Value.int IntKind.i64 0]:=kR
theorem oK:Program.underlying prog 37=some (.int IntKind.i64):=kR
theorem vn:ts prog 39=some 3:=kR
theorem vt:ta prog 39=some true:=kR
theorem vu:rF prog 39=some (.agg #[Value.int IntKind.i64 0,Value.int IntKind.i64 0,Value.string { data:=#[] }]):=kR
theorem vv:tz prog 39=some [Value.int IntKind.i64 0,Value.int IntKind.i64 0,Value.string { data:=#[] }]:=kR
theorem vz:rD prog 39=some [(0,1),(1,1),(2,1)]:=kR
theorem vA:isIface prog 39=some false:=kR
theorem vB:Program.concrete prog 39=true:=kR
theorem vC:tf prog 39 0=some (0,1,false):=kR
theorem vD:tf prog 39 1=some (1,1,false):=kR
theorem vE:tf prog 39 2=some (2,1,false):=kR
theorem acF:ts prog 89=some 1:=kR
theorem acG:ta prog 89=some false:=kR
theorem acH:tz prog 89=some [Value.slice none 0 0]:=kR
theorem acI:Program.underlying prog 89=some (.slice 5):=kR
theorem anc:ts prog 149=some 1:=kR
theorem ane:ta prog 149=some false:=kR
theorem anf:tz prog 149=some [Value.slice none 0 0]:=kR
theorem ang:Program.underlying prog 149=some (.slice 3):=kR
theorem iH:ts prog 151=some 1:=kR
theorem iI:ta prog 151=some false:=kR
theorem iJ:tz prog 151=some [Value.nilIface]:=kR
theorem iK:isIface prog 151=some true:=kR
theorem ajT:ts prog 152=some 1:=kR
theorem ajU:ta prog 152=some false:=kR
theorem xz:ts prog 203=some 1:=kR
theorem xA:ta prog 203=some false:=kR
theorem xB:tz prog 203=some [Value.int IntKind.u64 0]:=kR
theorem xC:Program.underlying prog 203=some (.int IntKind.u64):=kR
theorem DW:ts prog 249=some 1:=kR
theorem DX:ta prog 249=some false:=kR
theorem DY:tz prog 249=some [Value.pointer none]:=kR
theorem DZ:je prog 249=some true:=kR
theorem D0:Program.underlying prog 249=some (.pointer 251):=kR
theorem D1:ts prog 251=some 3:=kR
theorem D3:ta prog 251=some true:=kR
theorem D4:tz prog 251=some [Value.string { data:=#[] },Value.int IntKind.i64 0,Value.slice none 0 0]:=kR
theorem D5:rD prog 251=some [(0,1),(1,1),(2,1)]:=kR
theorem D6:tf prog 251 0=some (0,1,false):=kR
theorem D7:tf prog 251 1=some (1,1,false):=kR
theorem D8:tf prog 251 2=some (2,1,false):=kR
theorem Tt:ts prog 252=some 1:=kR
theorem Tu:ta prog 252=some false:=kR
theorem Tv:tz prog 252=some [Value.nilFunc]:=kR
theorem xD:ts prog 254=some 2:=kR
theorem xE:ta prog 254=some true:=kR
theorem xF:tz prog 254=some [Value.int IntKind.i64 0,Value.nilFunc]:=kR
theorem xG:rD prog 254=some [(0,1),(1,1)]:=kR
theorem xH:tf prog 254 0=some (0,1,false):=kR
theorem xI:tf prog 254 1=some (1,1,false):=kR
theorem M5:ts prog 279=some 1:=kR
theorem M6:ta prog 279=some true:=kR
theorem M7:rF prog 279=some (.agg #[Value.nilIface]):=kR
theorem M8:tz prog 279=some [Value.nilIface]:=kR
theorem M9:rD prog 279=some [(0,1)]:=kR
theorem Na:isIface prog 279=some false:=kR
theorem Nb:Program.concrete prog 279=true:=kR
theorem Nc:tf prog 279 0=some (0,1,false):=kR
theorem D9:ts prog 281=some 2:=kR
theorem Ea:ta prog 281=some true:=kR
theorem Eb:rF prog 281=some (.agg #[Value.nilIface,Value.nilIface]):=kR
theorem Ec:tz prog 281=some [Value.nilIface,Value.nilIface]:=kR
theorem Ed:rD prog 281=some [(0,1),(1,1)]:=kR
theorem Ee:isIface prog 281=some false:=kR
theorem Ef:Program.concrete prog 281=true:=kR
theorem Eg:tf prog 281 0=some (0,1,false):=kR
theorem Eh:tf prog 281 1=some (1,1,false):=kR
theorem Ei:ts prog 283=some 0:=kR
theorem Ej:ta prog 283=some true:=kR
theorem Ek:rF prog 283=some (.agg #[]):=kR
theorem El:tz prog 283=some []:=kR
theorem Em:rD prog 283=some []:=kR
theorem Eo:isIface prog 283=some false:=kR
theorem Ep:Program.concrete prog 283=true:=kR
theorem GK:ts prog 284=some 2:=kR
theorem GL:ta prog 284=some true:=kR
theorem GM:rF prog 284=some (.agg #[Value.nilIface,Value.nilIface]):=kR
theorem GN:tz prog 284=some [Value.nilIface,Value.nilIface]:=kR
theorem GO:rD prog 284=some [(0,1),(1,1)]:=kR
theorem GP:isIface prog 284=some false:=kR
theorem GQ:Program.concrete prog 284=true:=kR
theorem GR:tf prog 284 0=some (0,1,false):=kR
theorem GS:tf prog 284 1=some (1,1,false):=kR
theorem Nf:ts prog 285=some 2:=kR
theorem Ng:ta prog 285=some true:=kR
theorem Nh:rF prog 285=some (.agg #[Value.nilIface,Value.nilIface]):=kR
theorem Ni:tz prog 285=some [Value.nilIface,Value.nilIface]:=kR
theorem Nj:rD prog 285=some [(0,1),(1,1)]:=kR
theorem Nk:isIface prog 285=some false:=kR
theorem Nl:Program.concrete prog 285=true:=kR
theorem Nn:tf prog 285 0=some (0,1,false):=kR
theorem No:tf prog 285 1=some (1,1,false):=kR
theorem Np:ts prog 286=some 2:=kR
theorem Nq:ta prog 286=some true:=kR
theorem Nr:rF prog 286=some (.agg #[Value.nilIface,Value.nilIface]):=kR
theorem Ns:tz prog 286=some [Value.nilIface,Value.nilIface]:=kR
theorem Nt:rD prog 286=some [(0,1),(1,1)]:=kR
theorem Nu:isIface prog 286=some false:=kR
theorem Nv:Program.concrete prog 286=true:=kR
theorem Nw:tf prog 286 0=some (0,1,false):=kR
theorem Nx:tf prog 286 1=some (1,1,false):=kR
theorem GU:ts prog 307=some 1:=kR
theorem GV:ta prog 307=some false:=kR
theorem GW:tz prog 307=some [Value.nilFunc]:=kR
theorem xJ:ts prog 309=some 4:=kR
theorem xK:ta prog 309=some true:=kR
theorem xL:tz prog 309=some [Value.int IntKind.u64 0,Value.int IntKind.u64 0,Value.int IntKind.u64 0,Value.int IntKind.u64 0]:=kR
theorem xM:Program.underlying prog 309=some (.array 4 203):=kR
theorem Tx:ts prog 311=some 4:=kR
theorem Ty:ta prog 311=some true:=kR
theorem Tz:rF prog 311=some (.agg #[Value.int IntKind.u64 0,Value.int IntKind.u64 0,Value.int IntKind.u64 0,Value.int IntKind.u64 0]):=kR
theorem TA:tz prog 311=some [Value.int IntKind.u64 0,Value.int IntKind.u64 0,Value.int IntKind.u64 0,Value.int IntKind.u64 0]:=kR
theorem TB:rD prog 311=some [(0,4)]:=kR
theorem TC:isIface prog 311=some false:=kR
theorem TD:Program.concrete prog 311=true:=kR
theorem TF:tf prog 311 0=some (0,4,true):=kR
theorem Ny:ts prog 326=some 1:=kR
theorem Nz:ta prog 326=some false:=kR
theorem ajV:ts prog 355=some 2:=kR
theorem ajW:ta prog 355=some true:=kR
theorem ajX:tz prog 355=some [Value.int IntKind.u8 0,Value.int IntKind.u8 0]:=kR
theorem ajY:rD prog 355=some [(0,1),(1,1)]:=kR
theorem ajZ:tf prog 355 0=some (0,1,false):=kR
theorem aj0:tf prog 355 1=some (1,1,false):=kR
theorem aj1:ts prog 356=some 6:=kR
theorem aj2:ta prog 356=some true:=kR
theorem aj3:tz prog 356=some [Value.int IntKind.u8 0,Value.int IntKind.u8 0,Value.int IntKind.u8 0,Value.int IntKind.u8 0,Value.int IntKind.u8 0,Value.int IntKind.u8 0]:=kR
theorem aj4:Program.underlying prog 356=some (.array 3 355):=kR
theorem anh:ts prog 361=some 1:=kR
theorem ani:ta prog 361=some false:=kR
theorem TG:ts prog 373=some 1:=kR
theorem TH:ta prog 373=some false:=kR
theorem TJ:tz prog 373=some [Value.pointer none]:=kR
theorem TK:je prog 373=some true:=kR
theorem TL:Program.underlying prog 373=some (.pointer 375):=kR
theorem TM:ts prog 375=some 2:=kR
theorem TN:ta prog 375=some true:=kR
theorem TO:tz prog 375=some [Value.string { data:=#[] },Value.int IntKind.i64 0]:=kR
theorem TP:rD prog 375=some [(0,1),(1,1)]:=kR
theorem TQ:tf prog 375 0=some (0,1,false):=kR
theorem TR:tf prog 375 1=some (1,1,false):=kR
end
end Go.Proofs.YtnemkecffmdlnaaGreatDoor
namespace Go.LE
section
open Go.RowKit
def G6(w:World)(ao:Option Addr)(vs:List Value):Prop:=
 vs=[]\/∃ b o,ao=some ⟨b,o,none⟩/\∀ j (h:j<vs.length),w.cell? ⟨b,o+j,none⟩=some vs[j]
theorem Le.conv{W:World}{bs:List Nat}{nt:Nat}{ds:Aux}{σ:St}{k:Nat}{e e' : aZ}(hk:σ.h k=some e)(he:∀ E u fp w,bA E u fp w e->bA E u fp w e')(hkeys:∀ j∈e'.keys,j∈e.keys) :
  Le W bs nt ds σ ⟨σ.n,σ.φ,bu σ.h k (some e')⟩:=by
 rintro a w ⟨⟨E,F,hφ,hs,hp⟩,h1,h2,h3,h4,h5⟩;have old:∀ j x,bu σ.h k (some e') j=some x->∃ y,σ.h j=some y/\((j=k/\x=e')\/x=y):=λj x hj=>by
  by_cases hjk:j=k
  ·subst hjk;rw[ah]at hj;cases hj;exact⟨e,hk,.inl ⟨rfl,rfl⟩⟩
  ·rw[al _ _ hjk]at hj;exact⟨x,hj,.inr rfl⟩
 refine⟨⟨E,F,hφ,⟨λj x hj=>?_,λj x hj=>?_,λj x hj=>?_,λi j x y hij hi hj=>?_,hs.keeps⟩,hp⟩,h1,h2,h3,h4,λj x hj=>?_⟩
 ·obtain⟨y,hy,h⟩:=old j x hj;rcases h with ⟨rfl,rfl⟩|rfl
  ·rw[hk]at hy;cases hy;exact he _ _ _ _ (hs.ent j e hk)
  ·exact hs.ent j x hy
 ·obtain⟨y,hy,_⟩:=old j x hj;exact hs.lt j y hy
 ·obtain⟨y,hy,_⟩:=old j x hj;exact hs.mine j y hy
 ·obtain⟨x',hx',_⟩:=old i x hi;obtain⟨y',hy',_⟩:=old j y hj;exact hs.apart i j x' y' hij hx' hy'
 ·obtain⟨y,hy,h⟩:=old j x hj;rcases h with ⟨rfl,rfl⟩|rfl
  ·rw[hk]at hy;cases hy;exact⟨(h5 j e hk).1,λi hi=>(h5 j e hk).2 i (hkeys i hi)⟩
  ·exact h5 j x hy
def aX(W:World)(S:Nat->Prop)(W' : World)(S' : Nat->Prop):Prop:=∀ b,b<W.heap.size->S b->W'.heap[b]?=W.heap[b]?/\S' b
theorem aX.refl(W:World)(S:Nat->Prop):aX W S W S:=λ_ _ h=>⟨rfl,h⟩
theorem aX.trans{W W' W'' : World}{S S' S'' : Nat->Prop}(h:aX W S W' S')(h' : aX W' S' W'' S'')(hsz:W.heap.size<=W'.heap.size):aX W S W'' S'' := λb hb hs=>by
 obtain⟨h1,h2⟩:=h b hb hs;obtain⟨h3,h4⟩:=h' b oM h2;exact⟨h3.trans h1,h4⟩
def Out(bs:List Nat):Nat->Prop:=λb=>b∉bs
theorem Ext.e7{W W' : World}{bs bs' : List Nat}(h:Ext W bs W' bs'):aX W (Out bs) W' (Out bs'):=λb hb hs=>
 ⟨h.keeps.block b hb hs,λhb' => (h.sub b hb').elim (λh1=>by omega) hs⟩
theorem an.e7{W w:World}{bs:List Nat}(h:an W bs w):aX W (Out bs) w (Out bs):=λb hb hs=>⟨h.block b hb hs,hs⟩
def XC(W:World)(S:Nat->Prop)(b o:Nat)(v:Value):Prop:=S b/\W.cell? ⟨b,o,none⟩=some v
theorem XC.mono{W W' : World}{S S' : Nat->Prop}{b o:Nat}{v:Value}(h:XC W S b o v)(hs:aX W S W' S'):XC W' S' b o v:=by
 have hlt:=World.block_lt_of_cell? W _ h.2;obtain⟨h1,h2⟩:=hs b hlt h.1;exact⟨h2,by rw[<- h.2];exact World.cell?_of_block h1⟩
def jY(W:World)(S:Nat->Prop)(ao:Option Addr)(vs:List Value):Prop:=vs=[]\/∃ b o,ao=some ⟨b,o,none⟩/\∀ j (h:j<vs.length),XC W S b (o+j) vs[j]
theorem jY.mono{W W' : World}{S S' : Nat->Prop}{ao:Option Addr}{vs:List Value}(h:jY W S ao vs)(hs:aX W S W' S'):jY W' S' ao vs:=by
 rcases h with h|⟨b,o,h1,h2⟩
 ·exact .inl h
 ·exact .inr ⟨b,o,h1,λj hj=>(h2 j hj).mono hs⟩
theorem jY.is{W:World}{S:Nat->Prop}{ao:Option Addr}{vs:List Value}(h:jY W S ao vs):G6 W ao vs:=by
 rcases h with h|⟨b,o,h1,h2⟩
 ·exact .inl h
 ·exact .inr ⟨b,o,h1,λj hj=>(h2 j hj).2⟩
theorem jY.aaS{W:World}{ao:Option Addr}{vs:List Value}(h:G6 W ao vs):jY W (λ_=>True) ao vs:=by
 rcases h with h|⟨b,o,h1,h2⟩
 ·exact .inl h
 ·exact .inr ⟨b,o,h1,λj hj=>⟨trivial,h2 j hj⟩⟩
theorem jY.out{W:World}{ao:Option Addr}{vs:List Value}{S S' : Nat->Prop}(h:jY W S ao vs)(hs:∀ b,S b->S' b):jY W S' ao vs:=h.mono λb _ hb=>⟨rfl,hs b hb⟩
theorem jY.take{W:World}{S:Nat->Prop}{ao:Option Addr}{vs ws:List Value}(h:jY W S ao (vs++ws)):jY W S ao vs:=by
 rcases h with h|⟨b,o,h1,h2⟩
 ·exact .inl (by simp at h;exact h.1)
 ·refine .inr ⟨b,o,h1,λj hj=>?_⟩;have:=h2 j (by simp;omega)
  rwa [List.getElem_append_left hj]at this
theorem ig{P:Program}{W:World}{bs:List Nat}{nt:Nat}{ds:Aux}{Q:mf}{σ:St}{x y:Code}(σ' : St)(h1:Wp P W bs nt ds x (Th (λW' bs' σ1=>Le W' bs' nt ds σ1 σ') Q) σ)(h2:Wp P W bs nt ds y Q σ') :
  Wp P W bs nt ds (.seq x y) Q σ:=λa w hs=>
 wp_seq (wp_mono (h1 a w hs) λe a' w' ⟨W',bs',σ1,he,hq,hs'⟩=>by
  cases e with
  |normal=>exact h2 a' w' (Sat.back he (hq a' w' hs'))
  |_=>exact⟨W',bs',σ1,he,hq,hs'⟩)
def New(W:World)(bs bs' : List Nat):Nat->Prop:=λb=>b∉bs' /\ (W.heap.size<=b\/b∈bs)
theorem New.out{W:World}{bs bs' : List Nat}{b:Nat}(h:New W bs bs' b):Out bs' b:=h.1
theorem ago{W W' : World}{bs bs' : List Nat}{E:Nat->Value}{F:Nat->List Nat}{h:Hp}{k:Nat}{T:TypeId}{s n:Nat}{vs:List SV}(hs:aj W bs E F h W')(hk:h k=some (.row T s n vs))(hb:∀ b∈F k,b∉bs') :
  ∃ ao c,E k=.slice ao n c/\jY W' (New W bs bs') ao (ai E vs)/\n<=c:=by
 obtain⟨⟨hl,h⟩,hF⟩:=hs.ent k _ hk;rcases h with ⟨h1,rfl⟩|⟨g,cap,cur,h1,_,hh,hnc,_,hsz,htk⟩
 ·exact⟨none,0,h1,.inl (by simpa using hl),Nat.le_refl _⟩
 ·have hg:g∈F k:=by rw[hF,h1];simp[Value.ownBlock]
  refine⟨some ⟨g,0,none⟩,cap,h1,.inr ⟨g,0,rfl,λj hj=>⟨⟨hb g hg,hs.mine k _ hk g hg⟩,?_⟩⟩,hnc⟩;rw[Nat.zero_add];have hj' : j<n*s:=oM;have:(ai E vs)[j]?=cur[j]?:=by rw[<- htk,List.getElem?_take,if_pos hj'];simp
  simp only[World.cell?,hh];rw[<- this,List.getElem?_eq_getElem hj];rfl
theorem jY.grow{W W' : World}{bs' : List Nat}{ao:Option Addr}{vs:List Value}{S:Nat->Prop}(h:jY W' (New W [] bs') ao vs):jY W' (λb=>(b<W.heap.size->S b)/\b∉bs') ao vs:=
 h.out λb hb=>⟨λhlt=>absurd (hb.2.resolve_right sI) (Nat.not_le.2 hlt),hb.1⟩
def dI(cs:List Value):Value:=.iface 0 (.agg cs.toArray)
theorem H7(cs:List Value)(i:Nat):LV (dI cs) i=cs.getD i .nilIface:=by simp[LV,dI,Array.getD_eq_getD_getElem?,List.getD_eq_getElem?_getD]
def Grow(w:World)(S:Nat->Prop):Nat->Prop:=λb=>b<w.heap.size->S b
def Sq(W:World)(bs:List Nat)(Φ:List Value->World->(Nat->Prop)->Prop):List Value->Value->List Nat->World->Prop:=λ_ u fp w=>
 ∃ cs,u=dI cs/\∀ W₂ S₂,(∀ b,b<W.heap.size->b∉bs->W₂.heap[b]?=W.heap[b]?/\S₂ b)->(∀ b∈fp,W₂.heap[b]?=w.heap[b]?/\S₂ b)->Φ cs W₂ S₂
structure Yp (P:Program)(f:FuncId) where
 pre:List AV->World->(Nat->Prop)->Prop
 tm:Nat->SV
 Φ:List AV->List Value->World->(Nat->Prop)->Prop
 premono:∀ as_ W S W' S',aX W S W' S' -> pre as_ W S->pre as_ W' S'
 mono:∀ as_ cs W S W' S',aX W S W' S' -> Φ as_ cs W S->Φ as_ cs W' S'
 tmg:∀ E k,den E (tm k)=den (λ_=>E k) (tm 0)
 tmk:∀ k,∀ j∈(tm k).keys,j=k
 enters:∀ args w,(callFunc f args).run P w=.ok (.enter f args) w
 ok:∀ (w:World) (S:Nat->Prop) (us:List Value) (as_:List AV),fm w us as_->pre as_ w S->Calls P f us.toArray w λe w' => ∃ cs,e=.returned (den (λ_=>dI cs) (tm 0))/\Φ as_ cs w' (Grow w S)/\an w [] w'
def Old(W:World)(bs:List Nat):Nat->Prop:=λb=>b<W.heap.size/\b∉bs
def KV(κ:Nat)(pre:List AV->World->(Nat->Prop)->Prop)(tm:Nat->SV)(Φ:List AV->List Value->World->(Nat->Prop)->Prop)(W:World)(bs:List Nat):Option (List AV×List Nat)->R
 |some (as_,rs)=>⟨pre as_ W (Out bs),tm (8*κ),[(8*κ,some (.obj [] (Sq W bs (Φ as_))))],none,[],rs⟩
 |none=>.bad
def Yp.spec{P:Program}{f:FuncId}(p:Yp P f):Spec P f where
 ev:=λW bs κ h args=>KV κ p.pre p.tm p.Φ W bs (aB h args)
 good:=λW bs κ E F h w K args hs hK hk hx hside=>by
  rw[p.enters];cases hv:aB h args with
  |none=>rw[hv]at hside;exact hside.elim
  | some q=>
   obtain⟨as_,rs⟩:=q;rw[hv]at hside;have h0:aX W (Out bs) w (Old W bs):=λb hb hs' => ⟨hs.keeps.block b hb hs',hb,hs'⟩
   refine BQ hs hK hk (e:=.obj [] (Sq W bs (p.Φ as_))) ((p.ok w (Old W bs) _ as_ (eE hs hv) (p.premono as_ _ _ _ _ h0 hside)).mono λe w' he=>?_) rfl rfl;obtain⟨cs,rfl,hΦ,hkeep⟩:=he;have hmem:∀ b,b∈List.range' w.heap.size (w'.heap.size-w.heap.size) ↔ w.heap.size<=b/\b<w'.heap.size:=λb=>by
    rw[List.mem_range'_1];have:=hkeep.size;omega
   have hR:∀ w3:World,(∀ b∈List.range' w.heap.size (w'.heap.size-w.heap.size),w3.heap[b]?=w'.heap[b]?)->Sq W bs (p.Φ as_) [] (dI cs) (List.range' w.heap.size (w'.heap.size-w.heap.size)) w3:=by
    intro w3 h3;refine⟨cs,rfl,λW₂ S₂ hold hnew=>p.mono as_ cs w' (Grow w (Old W bs)) W₂ S₂ (λb hb hg=>?_) hΦ⟩;by_cases hbw:b<w.heap.size
    ·obtain⟨g1,g2⟩:=hg hbw;obtain⟨g3,g4⟩:=hold b g1 g2;exact⟨by rw[g3,hkeep.block b hbw sI,hs.keeps.block b g1 g2],g4⟩
    ·have hb' := (hmem b).2 ⟨oM,hb⟩;obtain⟨g3,g4⟩:=hnew b hb';exact⟨by rw[g3,h3 b hb'],g4⟩
   refine⟨_,dI cs,List.range' w.heap.size (w'.heap.size-w.heap.size),rfl,λE' => ⟨⟨hR w' λ_ _=>rfl,rfl⟩,hR⟩,λb hb=>(hmem b).1 hb,hkeep,?_⟩;simp only[KV];rw[p.tmg (bu E (nk κ) (dI cs)),nk,ah]
 keys:=λW bs κ h K args hK hx hside=>by
  cases hv:aB h args with
  |none=>rw[hv]at hside;exact hside.elim
  | some q=>
   obtain⟨as_,rs⟩:=q;refine⟨λk hk=>.inr ?_,λq hq=>?_⟩
   ·rw[p.tmk _ k hk];exact a6 κ
   ·simp only[KV,List.mem_singleton]at hq;subst hq;refine⟨.inr (a6 κ),λe he k hk=>?_⟩;simp only[Option.some.injEq]at he;subst he;cases hk
 loc:=λW bs κ h h' args hside hr=>by
  cases hv:aB h args with
  |none=>rw[hv]at hside;exact hside.elim
  |some q=>
   obtain⟨as_,rs⟩:=q;rw[hv]at hr;rw[cU hv hr]
theorem Zw{P:Program}{f:FuncId}(p:Yp P f)(W:World)(bs:List Nat)(κ:Nat)(h:Hp)(l:List SV):p.spec.ev W bs κ h l=KV κ p.pre p.tm p.Φ W bs (aB h l):=rfl
theorem OV(κ:Nat)(pre:List AV->World->(Nat->Prop)->Prop)(tm:Nat->SV)(Φ:List AV->List Value->World->(Nat->Prop)->Prop)(W:World)(bs:List Nat)(as_:List AV)(rs:List Nat) :
  KV κ pre tm Φ W bs (some (as_,rs))=⟨pre as_ W (Out bs),tm (8*κ),[(8*κ,some (.obj [] (Sq W bs (Φ as_))))],none,[],rs⟩:=rfl
theorem gF(m:Nat->Src)(l:List Value):j5 m (l.map .v)=l.map .v:=by
 induction l with
 |nil=>rfl
 |cons x r ih=>simp[j5,ky,ih]
section
variable {P:Program}{κ:Nat}{h:Hp}
def mkV(κ:Nat)(e:TypeId)(l c:Int):Option Nat->Option (List Value)->Option Nat->R
 |some sz,some zs,some by_=>⟨0<=l/\l<=c/\(by_:Int)*c<=281474976710656/\c<=9223372036854775807/\zs.length=sz/\0<sz,.hd (8*κ),[(8*κ,some (.row e sz l.toNat ((List.replicate l.toNat zs).flatten.map .v)))],none,[],[]⟩
 |_,_,_=>.bad
def mkU(P:Program)(κ:Nat)(l c:Int):Option TypeDesc->R
 |some (.slice e)=>mkV κ e l c (ts P e) (tz P e) (xq P e)
 |_=>.bad
theorem MA(T:TypeId)(k k' : IntKind)(l c:Int):nT P κ T [.v (.int k l),.v (.int k' c)]=mkU P κ l c (P.underlying T):=by
 simp only[nT];unfold mkU;rcases P.underlying T with _|d
 ·rfl
 ·cases d<;>first|rfl|(rename_i e;simp only[mkV,nk];rcases ts P e with _|a<;>rcases tz P e with _|b<;>rcases xq P e with _|c<;>rfl)
theorem V0(l c:Int)(e:TypeId):mkU P κ l c (some (.slice e))=mkV κ e l c (ts P e) (tz P e) (xq P e):=rfl
theorem aaC(e:TypeId)(l c:Int)(sz:Nat)(zs:List Value)(by_:Nat):mkV κ e l c (some sz) (some zs) (some by_)=⟨0<=l/\l<=c/\(by_:Int)*c<=281474976710656/\c<=9223372036854775807/\zs.length=sz/\0<sz,.hd (8*κ),[(8*κ,some (.row e sz l.toNat ((List.replicate l.toNat zs).flatten.map .v)))],none,[],[]⟩:=rfl
def IT(ao:Option Addr)(a sz c:Nat):Option Addr:=if c=a then ao else ao.map (·.add (a*sz))
theorem Gw(ao:Option Addr)(sz c:Nat):IT ao 0 sz c=ao:=by
 unfold IT;split
 ·rfl
 ·cases ao<;>simp[Addr.add]
theorem jY.at{W:World}{S:Nat->Prop}{ao:Option Addr}{vs:List Value}{a sz c n:Nat}(h:jY W S ao vs)(hl:vs.length=n*sz)(hn:n<=c)(ha:a<=n):jY W S (IT ao a sz c) (vs.drop (a*sz)):=by
 unfold IT;split
 ·left;have:vs.length<=a*sz:=by rw[hl];exact Nat.mul_le_mul_right _ oM
  simp[this]
 ·rcases h with h|⟨b,o,rfl,h2⟩
  ·exact .inl (by simp[h])
  ·refine .inr ⟨b,o+a*sz,?_,λj hj=>?_⟩
   ·simp only[Option.map_some,Addr.add,Option.some.injEq];split
    ·rename_i h0;simp[h0]
    ·rfl
   ·simp only[List.length_drop]at hj;have:=h2 (a*sz+j) oM;rw[List.getElem_drop]
    rwa [Nat.add_assoc]
def slV(ao:Option Addr)(c:Nat)(a b:Int):Option Nat->R
 |some sz=>⟨0<=a/\a<=b/\b<=c,.v (.slice (IT ao a.toNat sz c) (b.toNat-a.toNat) (c-a.toNat)),[],none,[],[]⟩
 |none=>.bad
def slU(P:Program)(ao:Option Addr)(c:Nat)(a b:Int):Option TypeDesc->R
 |some (.slice e)=>slV ao c a b (ts P e)
 |_=>.bad
theorem qh(T:TypeId)(ao:Option Addr)(n c:Nat)(a b:Int):pM P T ao n c a b=slU P ao c a b (P.underlying T):=by
 simp only[pM];unfold slU;rcases P.underlying T with _|d
 ·rfl
 ·cases d<;>first|rfl|(rename_i e;simp only[slV,R.iC,IT];rcases ts P e with _|a<;>rfl)
theorem Xm(ao:Option Addr)(c:Nat)(a b:Int)(e:TypeId):slU P ao c a b (some (.slice e))=slV ao c a b (ts P e):=rfl
theorem ab7(ao:Option Addr)(c:Nat)(a b:Int)(sz:Nat):slV ao c a b (some sz)=⟨0<=a/\a<=b/\b<=c,.v (.slice (IT ao a.toNat sz c) (b.toNat-a.toNat) (c-a.toNat)),[],none,[],[]⟩:=rfl
theorem IH(T:TypeId)(ao:Option Addr)(n c:Nat)(k k' : IntKind)(a b:Int):dA P T true true false [.v (.slice ao n c),.v (.int k a),.v (.int k' b)]=slU P ao c a b (P.underlying T):=by
 rw[<- qh T ao n];rfl
theorem IG(T:TypeId)(ao:Option Addr)(n c:Nat)(k:IntKind)(a:Int):dA P T true false false [.v (.slice ao n c),.v (.int k a)]=slU P ao c a n (P.underlying T):=by
 rw[<- qh T ao n];rfl
theorem IF(T:TypeId)(ao:Option Addr)(n c:Nat)(k:IntKind)(b:Int):dA P T false true false [.v (.slice ao n c),.v (.int k b)]=slU P ao c 0 b (P.underlying T):=by
 rw[<- qh T ao n];rfl
end
end
section
def ev6:=(aa @MA (aa @V0 (aa @aaC (aa @Gw (aa @Xm (aa @ab7 (aa @IH (aa @IG (aa @IF (aa @Zw @OV))))))))))
end
section
open Go.ChangeShapes Go.WideShapes Go.ChangeAt Go.RowKit
section
variable {H:Type}{enc:TypeId×Value->H}{P:Program}
theorem abq{f:Func}{s:ChangeSpec}{apart fresh handsOn again:Bool}{W W' : World}{args:Array Value}{v:Value}{ds gs:List (DataW H)}{before pa pv:List MemPlace}
  (hW:DataW.Whole enc P f.params.toList s.vars apart W args.toList ds gs before)
  (hres:∀ (b:Nat) (sp:Nat->Bool) (hd:Bool),DataW.TrodAll enc P W' b sp hd f.resultTypes.toList (v.resultList f.resultTypes.size) (s.fn H (ds++gs)).results [])
  (hargs:∀ sp:Nat->Bool,(∀ p∈before,sp p.block=true)->DataW.TrodAll enc P W' 0 sp true f.params.toList args.toList (s.fn H (ds++gs)).args pa)
  (hvars:∀ sp:Nat->Bool,(∀ p∈before,sp p.block=true)->DataW.TrodVars enc P W' sp s.vars (s.fn H (ds++gs)).vars pv)
  (hps:before=pa++pv) (hk:W.keptBut W' (·∈before)) (hfz:∀ a,a.block<W.heap.size->W'.frozen? a=W.frozen? a)
  (hok:∀ (j:Nat) (t:TypeId) (r:Value),f.resultTypes[j]?=some t->(v.resultList f.resultTypes.size)[j]?=some r->Value.okWide P W' .any 0 t r) :
  s.post enc P f apart fresh handsOn again W args v W' := by
 have hlt:=hW.lt;have hold:∀ p∈before,(λb=>decide (b<W.heap.size)) p.block=true:=λp hp=>by simpa using hlt p hp
 refine⟨ds,gs,before,[],pa,pv,hW,hres _ _ _,hargs _ hold,hvars _ hold,World.keptBut_mono (λp hp=>⟨hp,?_⟩) hk,λ_=>?_⟩
 ·rw[hps,List.mem_append]at hp;exact Or.inr hp
 ·obtain⟨_,_,_,_,_,hz,hn⟩:=hW;refine⟨hok,_,_,([]++pa)++pv,⟨[]++pa,pv,trodAll_append (hargs _ (λ_ _=>rfl)) (hres _ _ _),hvars _ (λ_ _=>rfl),rfl,?_,?_⟩,?_⟩
  ·intro b off hp;have hp' : MemPlace.cell b off∈before:=by rw[hps];simpa using hp
   rw[hfz _ (hlt _ hp')];exact hz b off hp'
  ·intro ha;have:=hn ha;rw[hps]at this;simpa using this
  ·intro p hp _;rw[hps];simpa using hp
theorem uF{W W' : World}:∀ {ts:List TypeId} {vs:List Value} {ds:List (DataW H)} {ps:List MemPlace},DataW.TrodAll enc P W 0 (λ_=>true) true ts vs ds ps->(∀ p∈ps,W.sameAt W' p)->DataW.TrodAll enc P W' 0 (λ_=>true) true ts vs ds ps
 |[],[],[],_,h,_=>h
 |t::ts,v::vs,d::ds,ps,⟨p,q,h1,h2,e⟩,hs=>by
  subst e;obtain⟨n,hn⟩:=h1;exact⟨p,q,⟨n,DataW.trod_carry n _ _ _ hn (λx hx=>hs x (List.mem_append_left _ hx))⟩,uF h2 (λx hx=>hs x (List.mem_append_right _ hx)),rfl⟩
theorem aaa{f:Func}{s:ChangeSpec}{tb:TypeId}(hl:laidOutB P=true)(hm:mapsRowed P=true)
  (hf:((List.range P.types.size).all λt=>match P.underlying t with|some (.slice e)=>decide (0<P.cellsOf e)|_=>true)=true)
  (hT:f.params.all (λt=>decide (t<P.types.size))=true) (hrt:f.resultTypes=#[tb]) (hb:P.underlying tb=some .bool) (hvs:s.vars=[]) {W W' : World} {args:Array Value} {ds gs:List (DataW H)} {before:List MemPlace}
  (hW:DataW.Whole enc P f.params.toList s.vars false W args.toList ds gs before) (hres:(s.fn H (ds++gs)).results=[.lit (.bool true)]) (hargs:(s.fn H (ds++gs)).args=ds) (hv:(s.fn H (ds++gs)).vars=[])
  (hk:an W [] W'):s.post enc P f false true false false W args (.bool true) W' := by
 have hb' := hk.below;have hW' := hW;obtain⟨p,q,hA,hV,rfl,hfz,hnd⟩:=hW;have hlt:=hW'.lt;have hq:q=[]:=by rw[hvs]at hV;exact (trodVars_none hV).2
 subst hq;refine abq (pa:=p) (pv:=[]) hW' (λ_ _ _=>?_) (λsp hsp=>?_) (λsp hsp=>?_) rfl (hb'.frame _) (λad hlt=>hb'.frozen hlt) ?_
 ·rw[hrt,hres];exact trodAll_cons_mk (shut_bool hb _) trodAll_mk0
 ·rw[hargs];refine DataW.TrodAll.respare (kids_rows hl hm) (slices_full_of P hf) (λt ht=>?_) (uF hA λx hx=>hb'.same (hlt x (by simpa using hx))) (λx hx=>hsp x (by simpa using hx));rw[Array.all_eq_true]at hT;obtain⟨i,hi,he⟩:=Array.mem_iff_getElem.1 (Array.mem_toList_iff.1 ht);have:=hT i hi
  rw[he]at this;simpa using this
 ·rw[hvs,hv];rfl
 ·exact ok_one hrt rfl (okWide_bool_mk hb _)
end
end
section
open Go.RowKit
section
variable {P:Program}{W:World}{bs:List Nat}{κ:Nat}{E:Nat->Value}{F:Nat->List Nat}{h:Nat->Option aZ}{w:World}{K:Nat->Prop}
def Uq(u:Value):AV->List Nat
 |.val _=>[]
 |.row _ _ _ _=>u.ownBlock.toList
 |.mp _ _=>(SN u).toList
def Az:List Value->List AV->List Nat
 |u::us,a::as_=>Uq u a++Az us as_
 |_,_=>[]
def aY(w:World)(u:Value)(fp:List Nat)(T:TypeId)(fs:List AV):Prop:=
 ∃ b us,u=.pointer (some ⟨b,0,none⟩)/\w.heap[b]?=some (.cells us.toArray T (0,0))/\fm w us fs/\fp=b::Az us fs/\fp.Nodup
theorem ac9(hs:aj W bs E F h w){x:SV}{a:AV}{r:List Nat}(hv:bT h x=some (a,r)):Uq (den E x) a=r.flatMap F/\∀ k∈r,(∃ e,h k=some e)/\∀ k' ∈ r,k' = k:=by
 cases x with
 |v x=>simp[bT]at hv;obtain⟨rfl,rfl⟩:=hv;exact⟨rfl,sI⟩
 |agg l=>
  simp only[bT,Option.map_eq_some_iff,Prod.mk.injEq]at hv;obtain⟨vs,h1,rfl,rfl⟩:=hv;exact⟨rfl,sI⟩
 | hd k=>
  simp only[bT]at hv;cases hk:h k with
  |none=>rw[hk]at hv;simp[fT]at hv
  | some e=>
   cases e with
   | row T s n us=>
    rw[hk]at hv;simp only[fT,Option.map_eq_some_iff,Prod.mk.injEq]at hv;obtain⟨vs,h1,rfl,rfl⟩:=hv;have:=hs.ent k _ hk;refine⟨?_,λk' hk' => ?_⟩
    ·simp only[Uq,den,fQ (cd this)];simp[this.2]
    ·simp only[List.mem_singleton]at hk';subst hk';exact⟨⟨_,hk⟩,sI⟩
   | mp ks us=>
    rw[hk]at hv;simp only[fT,Option.map_eq_some_iff,Prod.mk.injEq]at hv;obtain⟨vs,h1,rfl,rfl⟩:=hv;have:=hs.ent k _ hk;refine⟨?_,λk' hk' => ?_⟩
    ·simp only[Uq,den,fQ (cd this)];simp[(l8.1 this).2]
    ·simp only[List.mem_singleton]at hk';subst hk';exact⟨⟨_,hk⟩,sI⟩
   |cells T vs=>rw[hk]at hv;simp[fT]at hv
   |obj d R=>rw[hk]at hv;simp[fT]at hv
 |own k o=>simp[bT]at hv
 |tup l=>simp[bT]at hv
 |nO t x=>simp[bT]at hv
 |part k i=>simp[bT]at hv
 |fn f a c=>simp[bT]at hv
theorem cy(hs:aj W bs E F h w):∀ {l:List SV} {as_:List AV} {r:List Nat},aB h l=some (as_,r)->Az (ai E l) as_=r.flatMap F/\∀ k∈r,∃ e,h k=some e
 |[],as_,r,hv=>by simp[aB]at hv;obtain⟨rfl,rfl⟩:=hv;exact⟨rfl,sI⟩
 | x::l,as_,r,hv=>by
  simp only[aB]at hv;cases h1:bT h x with
  |none=>rw[h1]at hv;simp[j9]at hv
  | some p=>
   cases h2:aB h l with
   |none=>rw[h1,h2]at hv;simp[j9]at hv
   |some q=>
    obtain⟨a,ra⟩:=p;obtain⟨as',rs⟩:=q;rw[h1,h2]at hv;simp only[j9,Option.some.injEq,Prod.mk.injEq]at hv;obtain⟨rfl,rfl⟩:=hv;obtain⟨g1,g2⟩:=ac9 hs h1;obtain⟨g3,g4⟩:=cy hs h2;refine⟨by simp only[ai,Az,g1,g3,List.flatMap_append],λk hk=>?_⟩;rcases List.mem_append.1 hk with hk|hk
    ·exact (g2 k hk).1
    ·exact g4 k hk
theorem CC(u:Value):u.ownBlock.toList.Nodup:=by cases u.ownBlock<;>simp
theorem UT{u:Value}{fp:List Nat}{e:aZ}(hE:∀ d R,e≠.obj d R)(h:bA E u fp w e):fp.Nodup:=by
 cases e with
 |cells T vs=>obtain⟨b,_,h2,_⟩:=h;rw[h2];simp
 |row T s n vs=>rw[h.2];exact CC u
 |mp ks vs=>obtain⟨b,es,c,_,h2,_⟩:=h;rw[h2];simp
 |obj d R=>exact absurd rfl (hE d R)
theorem iY{h:Hp}:∀ {l:List SV} {as_:List AV} {r:List Nat},aB h l=some (as_,r)->∀ k∈r,∃ e,h k=some e/\∀ d R,e≠.obj d R
 |[],as_,r,hv=>by simp[aB]at hv;obtain⟨rfl,rfl⟩:=hv;simp
 | x::l,as_,r,hv=>by
  simp only[aB]at hv;cases h1:bT h x with
  |none=>rw[h1]at hv;simp[j9]at hv
  | some p=>
   cases h2:aB h l with
   |none=>rw[h1,h2]at hv;simp[j9]at hv
   | some q=>
    obtain⟨a,ra⟩:=p;obtain⟨as',rs⟩:=q;rw[h1,h2]at hv;simp only[j9,Option.some.injEq,Prod.mk.injEq]at hv;obtain⟨rfl,rfl⟩:=hv;intro k hk;rcases List.mem_append.1 hk with hk|hk
    ·cases x with
     | hd j=>
      simp only[bT]at h1;cases hj:h j with
      |none=>rw[hj]at h1;simp[fT]at h1
      | some e=>
       cases e with
       |row T s n us=>
        rw[hj]at h1;simp only[fT,Option.map_eq_some_iff,Prod.mk.injEq]at h1;obtain⟨vs,_,_,rfl⟩:=h1;simp only[List.mem_singleton]at hk;subst hk;exact⟨_,hj,λ_ _ e=>by cases e⟩
       |mp ks us=>
        rw[hj]at h1;simp only[fT,Option.map_eq_some_iff,Prod.mk.injEq]at h1;obtain⟨vs,_,_,rfl⟩:=h1;simp only[List.mem_singleton]at hk;subst hk;exact⟨_,hj,λ_ _ e=>by cases e⟩
       |_=>rw[hj]at h1;simp[fT]at h1
     |v x=>simp[bT]at h1;obtain⟨_,rfl⟩:=h1;cases hk
     |agg l=>
      simp only[bT,Option.map_eq_some_iff,Prod.mk.injEq]at h1;obtain⟨_,_,_,rfl⟩:=h1;cases hk
     |_=>simp[bT]at h1
    ·exact iY h2 k hk
theorem pZ(hs:aj W bs E F h w):∀ {ks:List Nat},ks.Nodup->(∀ k∈ks,∃ e,h k=some e/\∀ d R,e≠.obj d R)->(ks.flatMap F).Nodup
 |[],_,_=>by simp
 |k::r,hn,he=>by
  rw[List.flatMap_cons,List.nodup_append];obtain⟨e,h1,h2⟩:=he k sI;refine⟨UT h2 (hs.ent k e h1),pZ hs (List.nodup_cons.1 hn).2 (λj hj=>he j (by simp[hj])),λb hb c hc hbc=>?_⟩;subst hbc;obtain⟨j,hj,hbj⟩:=List.mem_flatMap.1 hc;obtain⟨e2,h3,_⟩:=he j (by simp[hj])
  exact hs.apart k j e e2 (λe' => (List.nodup_cons.1 hn).1 (e' ▸ hj)) h1 h3 b hb hbj
theorem jg(hs:aj W bs E F h w){k:Nat}{T:TypeId}{vs:List SV}{fs:List AV}{rs:List Nat}(hk:h k=some (.cells T vs))(hv:aB h vs=some (fs,rs))(hn:(k::rs).Nodup) :
  aY w (E k) ((k::rs).flatMap F) T fs:=by
 obtain⟨b,h1,h2,h3⟩:=hs.ent k _ hk;obtain⟨g1,_⟩:=cy hs hv;refine⟨b,ai E vs,h1,h3,eE hs hv,by rw[List.flatMap_cons,h2,g1];rfl,pZ hs hn λj hj=>?_⟩;rcases List.mem_cons.1 hj with rfl|hj
 ·exact⟨_,hk,λd R e=>by cases e⟩
 ·exact iY hv j hj
def aP:Nat->List AV->List SV
 |_,[]=>[]
 |k,.val v::r=>.v v::aP (k+1) r
 |k,.row _ _ _ _::r=>.hd k::aP (k+1) r
 |k,.mp _ _::r=>.hd k::aP (k+1) r
def bh:Nat->List AV->List (Nat×aZ)
 |_,[]=>[]
 |k,.val _::r=>bh (k+1) r
 |k,.row T s n vs::r=>(k,.row T s n (vs.map .v))::bh (k+1) r
 |k,.mp ks vs::r=>(k,.mp ks (vs.map .v))::bh (k+1) r
def cM:List (Nat×aZ)->List (Nat×Option aZ)
 |[]=>[]
 |(k,e)::r=>(k,some e)::cM r
theorem dZ:∀ {k:Nat} {fs:List AV},∀ p∈bh k fs,k<=p.1/\p.1<k+fs.length/\p.2.keys=[]
 |_,[],p,hp=>by cases hp
 |k,.val v::r,p,hp=>by
  have:=dZ (k:=k+1) (fs:=r) p hp;simp only[List.length_cons];exact⟨oM,oM,this.2.2⟩
 | k,.row T s n vs::r,p,hp=>by
  rcases List.mem_cons.1 hp with rfl|hp
  ·simp[aZ.keys,aR]
  ·have:=dZ (k:=k+1) (fs:=r) p hp;simp only[List.length_cons];exact⟨oM,oM,this.2.2⟩
 | k,.mp ks vs::r,p,hp=>by
  rcases List.mem_cons.1 hp with rfl|hp
  ·simp[aZ.keys,aR]
  ·have:=dZ (k:=k+1) (fs:=r) p hp;simp only[List.length_cons];exact⟨oM,oM,this.2.2⟩
theorem cw:∀ {k:Nat} {fs:List AV},∀ j∈az (aP k fs),k<=j/\j<k+fs.length
 |_,[],j,hj=>by cases hj
 |k,.val v::r,j,hj=>by
  simp only[aP,az,SV.keys,List.nil_append]at hj;have:=cw j hj;simp only[List.length_cons];omega
 | k,.row T s n vs::r,j,hj=>by
  simp only[aP,az,SV.keys,List.singleton_append,List.mem_cons]at hj;simp only[List.length_cons];rcases hj with rfl|hj
  ·omega
  ·have:=cw j hj;omega
 | k,.mp ks vs::r,j,hj=>by
  simp only[aP,az,SV.keys,List.singleton_append,List.mem_cons]at hj;simp only[List.length_cons];rcases hj with rfl|hj
  ·omega
  ·have:=cw j hj;omega
def gN:Nat->List Value->(Nat->Value)->Nat->Value
 |_,[],E=>E
 |k,u::us,E=>bu (gN (k+1) us E) k u
def iL:Nat->List Value->List AV->(Nat->List Nat)->Nat->List Nat
 |k,u::us,a::as_,F=>bu (iL (k+1) us as_ F) k (Uq u a)
 |_,_,_,F=>F
theorem ni:∀ {k:Nat} {us:List Value} {E:Nat->Value} {j:Nat},(j<k\/k+us.length<=j)->gN k us E j=E j
 |_,[],_,_,_=>rfl
 |k,u::us,E,j,h=>by
  simp only[List.length_cons]at h;simp only[gN];rw[al _ _ oM];exact ni oM
theorem kH:∀ {k:Nat} {us:List Value} {as_:List AV} {F:Nat->List Nat} {j:Nat},(j<k\/k+as_.length<=j)->iL k us as_ F j=F j
 |k,u::us,a::as_,F,j,h=>by
  simp only[List.length_cons]at h;simp only[iL];rw[al _ _ oM];exact kH oM
 |_,[],[],_,_,_=>rfl
 |_,[],_::_,_,_,_=>rfl
 |_,_::_,[],_,_,_=>rfl
theorem ki:∀ {us:List Value} {as_:List AV},fm w us as_->us.length=as_.length
 |[],[],_=>rfl
 |_::_,_::_,h=>by simp[ki h.2]
 |[],_::_,h=>h.elim
 |_::_,[],h=>h.elim
theorem gw:∀ {k:Nat} {us:List Value} {fs:List AV} {E:Nat->Value},fm w us fs->ai (gN k us E) (aP k fs)=us
 |_,[],[],_,_=>rfl
 |k,u::us,.val v::fs,E,h=>by
  obtain⟨rfl,h2⟩:=h;simp only[aP,ai,den,gN]
  congr 1
  have:ai (bu (gN (k+1) us E) k u) (aP (k+1) fs)=ai (gN (k+1) us E) (aP (k+1) fs):=bE _ λj hj=>al _ _ (by have:=cw j hj;omega)
  rw[this];exact gw h2
 |k,u::us,.row T s n vs::fs,E,h=>by
  obtain⟨h1,h2⟩:=h;simp only[aP,ai,den,gN,ah];have hone:u.oneCell' = true:=cd (E:=E) (fp:=u.ownBlock.toList) (w:=w) (e:=.row T s n (vs.map .v)) ⟨by rw[aS];exact h1,rfl⟩;rw[fQ hone]
  congr 1
  have:ai (bu (gN (k+1) us E) k u) (aP (k+1) fs)=ai (gN (k+1) us E) (aP (k+1) fs):=bE _ λj hj=>al _ _ (by have:=cw j hj;omega)
  rw[this];exact gw h2
 |k,u::us,.mp ks vs::fs,E,h=>by
  obtain⟨h1,h2⟩:=h;simp only[aP,ai,den,gN,ah];have hone:u.oneCell' = true:=cd (E:=E) (w:=w) (e:=.mp ks (vs.map .v)) (l8.2 ⟨by rw[aS];exact h1,rfl⟩);rw[fQ hone]
  congr 1
  have:ai (bu (gN (k+1) us E) k u) (aP (k+1) fs)=ai (gN (k+1) us E) (aP (k+1) fs):=bE _ λj hj=>al _ _ (by have:=cw j hj;omega)
  rw[this];exact gw h2
 |_,[],_::_,_,h=>h.elim
 |_,_::_,[],_,h=>h.elim
theorem jl:∀ {k:Nat} {us:List Value} {fs:List AV} {E:Nat->Value} {F:Nat->List Nat} {p:Nat×aZ},fm w us fs->p∈bh k fs ->
  ∀ E0:Nat->Value,bA E0 (gN k us E p.1) (iL k us fs F p.1) w p.2/\∀ b∈iL k us fs F p.1,b∈Az us fs
 |_,[],[],_,_,p,_,hp=>by cases hp
 |k,u::us,.val v::fs,E,F,p,h,hp=>λE0=>by
  have hk:=dZ (k:=k+1) (fs:=fs) p hp;simp only[gN,iL];rw[al _ _ oM,al _ _ oM];obtain⟨h1,h2⟩:=jl (k:=k+1) (E:=E) (F:=F) h.2 hp E0;exact⟨h1,λb hb=>List.mem_append_right _ (h2 b hb)⟩
 | k,u::us,.row T s n vs::fs,E,F,p,h,hp=>λE0=>by
  rcases List.mem_cons.1 hp with rfl|hp
  ·simp only[gN,iL,ah];exact⟨⟨by rw[aS];exact h.1,rfl⟩,λb hb=>List.mem_append_left _ hb⟩
  ·have hk:=dZ (k:=k+1) (fs:=fs) p hp;simp only[gN,iL];rw[al _ _ oM,al _ _ oM];obtain⟨h1,h2⟩:=jl (k:=k+1) (E:=E) (F:=F) h.2 hp E0;exact⟨h1,λb hb=>List.mem_append_right _ (h2 b hb)⟩
 | k,u::us,.mp ks vs::fs,E,F,p,h,hp=>λE0=>by
  rcases List.mem_cons.1 hp with rfl|hp
  ·simp only[gN,iL,ah];exact⟨l8.2 ⟨by rw[aS];exact h.1,rfl⟩,λb hb=>List.mem_append_left _ hb⟩
  ·have hk:=dZ (k:=k+1) (fs:=fs) p hp;simp only[gN,iL];rw[al _ _ oM,al _ _ oM];obtain⟨h1,h2⟩:=jl (k:=k+1) (E:=E) (F:=F) h.2 hp E0;exact⟨h1,λb hb=>List.mem_append_right _ (h2 b hb)⟩
 |_,[],_::_,_,_,p,h,_=>h.elim
 |_,_::_,[],_,_,p,h,_=>h.elim
theorem su{k:Nat}{a:AV}{fs:List AV}{r:Nat×aZ}(hr:r∈bh k (a::fs))(hrk:r.1≠k):r∈bh (k+1) fs:=by
 cases a with
 |val v=>exact hr
 |row T s n vs=>
  rcases List.mem_cons.1 hr with rfl|hr
  ·exact absurd rfl hrk
  ·exact hr
 |mp ks vs=>
  rcases List.mem_cons.1 hr with rfl|hr
  ·exact absurd rfl hrk
  ·exact hr
theorem cK:∀ {k:Nat} {us:List Value} {fs:List AV} {F:Nat->List Nat} {r:Nat×aZ},us.length=fs.length->r∈bh k fs->∀ b∈iL k us fs F r.1,b∈Az us fs
 |_,[],[],_,r,_,hr,_,_=>by cases hr
 |_,[],_::_,_,_,hl,_,_,_=>by simp at hl
 |_,_::_,[],_,_,hl,_,_,_=>by simp at hl
 | k,u::us,a::fs,F,r,hl,hr,b,hb=>by
  simp only[Az,List.mem_append];simp only[iL]at hb;by_cases hrk:r.1=k
  ·rw[hrk,ah]at hb;exact .inl hb
  ·rw[al _ _ hrk]at hb;exact .inr (cK (by simpa using hl) (su hr hrk) b hb)
theorem jk:∀ {k:Nat} {us:List Value} {fs:List AV} {F:Nat->List Nat} {p q:Nat×aZ},(Az us fs).Nodup->p∈bh k fs->q∈bh k fs->us.length=fs.length->p.1≠q.1->∀ b∈iL k us fs F p.1,b∉iL k us fs F q.1
 |_,[],[],_,p,_,_,hp,_,_,_,_,_=>by cases hp
 |_,[],_::_,_,_,_,_,_,_,hl,_,_,_=>by simp at hl
 |_,_::_,[],_,_,_,_,_,_,hl,_,_,_=>by simp at hl
 | k,u::us,a::fs,F,p,q,hn,hp,hq,hl,hpq,b,hb=>by
  have hl' : us.length=fs.length:=by simpa using hl
  rw[show Az (u::us) (a::fs)=Uq u a++Az us fs from rfl,List.nodup_append]at hn;obtain⟨_,n2,n3⟩:=hn;simp only[iL]at hb ⊢;by_cases hpk:p.1=k
  ·rw[hpk,ah]at hb;have hqk:q.1≠k:=λe=>hpq (by rw[hpk,e])
   rw[al _ _ hqk];intro hb';exact n3 b hb b (cK hl' (su hq hqk) b hb') rfl
  ·rw[al _ _ hpk]at hb;by_cases hqk:q.1=k
   ·rw[hqk,ah];intro hb';exact n3 b hb' b (cK hl' (su hp hpk) b hb) rfl
   ·rw[al _ _ hqk];exact jk n2 (su hp hpk) (su hq hqk) hl' hpq b hb
end
inductive BOut where
 |ret (v:Value) (fs:List AV)
 |pan (c:List PanicEntry) (v:Value)
def dN(w:World)(u:Value)(fp:List Nat)(T:TypeId)(e:Ending)(w' : World):BOut->Prop
 |.ret v fs=>e=.returned v/\(∃ fp',aY w' u fp' T fs/\(∀ b∈fp',b∈fp\/w.heap.size<=b)/\∀ b∈fp',b<w'.heap.size)/\an w fp w'
 |.pan c _=>e=.panicked c/\an w fp w'
structure bP (P:Program)(f:FuncId) where
 T:TypeId
 pre:World->List Nat->List AV->List AV->Prop
 out:World->List AV->List AV->BOut
 enters:∀ args w,(callFunc f args).run P w=.ok (.enter f args) w
 ok:∀ (W w:World) (bs:List Nat) (u:Value) (fp:List Nat) (us:List Value) (fs as_:List AV),an W bs w->aY w u fp T fs->(∀ b∈fp,b<w.heap.size)->(∀ b∈fp,W.heap.size<=b\/b∈bs)->fm w us as_->pre W bs fs as_ ->
  Calls P f (u::us).toArray w λe w' => dN w u fp T e w' (out W fs as_)
def dX(rs:List Nat):List (Nat×Option aZ):=rs.map λj=>(j,none)
def iM(κ k:Nat)(T:TypeId)(pre:Prop)(rs rs' : List Nat):BOut->R
 |.ret v fs=>⟨pre/\(k::rs).Nodup/\(∀ j∈rs',j∉k::rs)/\fs.length<=8,.v v,dX rs++(cM (bh (8*κ) fs)++[(k,some (.cells T (aP (8*κ) fs)))]),none,[],k::(rs++rs')⟩
 |.pan c v=>⟨pre/\(k::rs).Nodup/\(∀ j∈rs',j∉k::rs),.v v,[],some c,k::rs,k::(rs++rs')⟩
def jA(κ k:Nat)(T T' : TypeId)(pre:List AV->List AV->Prop)(out:List AV->List AV->BOut)(as_:List AV)(rs' : List Nat):Option (List AV×List Nat)->R
 |some (fs,rs)=>iM κ k T (T' = T/\pre fs as_) rs rs' (out fs as_)
 |none=>.bad
def gU(h:Hp)(κ k:Nat)(T:TypeId)(pre:List AV->List AV->Prop)(out:List AV->List AV->BOut):Option aZ->Option (List AV×List Nat)->R
 |some (.cells T' vs),some (as_,rs')=>jA κ k T T' pre out as_ rs' (aB h vs)
 |_,_=>.bad
def tk(h:Hp)(κ:Nat)(T:TypeId)(pre:List AV->List AV->Prop)(out:List AV->List AV->BOut):List SV->R
 |.own k 0::rest=>gU h κ k T pre out (h k) (aB h rest)
 |_=>.bad
section
variable {P:Program}{W:World}{bs:List Nat}{κ:Nat}{E:Nat->Value}{F:Nat->List Nat}{h:Nat->Option aZ}{w:World}{K:Nat->Prop}
theorem cj{α:Type}(f:Nat->α):∀ (a b:List (Nat×α)),ba f (a++b)=ba (ba f a) b
 |[],_=>rfl
 |(k,x)::r,b=>by simp only[List.cons_append,ba];exact cj _ r b
theorem kI(h:Hp):∀ (rs:List Nat) (j:Nat),ba h (dX rs) j=if j∈rs then none else h j
 |[],j=>by simp[dX,ba]
 | k::r,j=>by
  have:ba h (dX (k::r)) j=ba (bu h k none) (dX r) j:=rfl;rw[this,kI];by_cases hj:j∈r
  ·simp[hj]
  ·by_cases hjk:j=k
   ·subst hjk;simp[hj,ah]
   ·simp[hj,hjk,al _ _ hjk]
theorem kJ:∀ (L:List (Nat×Option aZ)) (f:Hp) (j:Nat),(∀ p∈L,∃ e,p.2=some e)->ba f L j=match ba (λ_=>none) L j with|some e=>some e|none=>f j
 |[],f,j,_=>rfl
 | (i,x)::r,f,j,hL=>by
  obtain⟨e,he⟩:=hL (i,x) sI;simp only at he;subst he;have hr:∀ p∈r,∃ e,p.2=some e:=λp hp=>hL p (by simp[hp])
  simp only[ba];rw[kJ r (bu f i (some e)) j hr,kJ r (bu (λ_=>none) i (some e)) j hr];cases ba (λ_=>none) r j with
  |some y=>rfl
  |none=>
   simp only;by_cases hj:j=i
   ·subst hj;simp[ah]
   ·simp[al _ _ hj]
theorem fZ{L:List (Nat×aZ)}{p:Nat×Option aZ}:p∈cM L ↔ ∃ e,p=(p.1,some e)/\(p.1,e)∈L:=by
 induction L with
 |nil=>simp[cM]
 | cons q r ih=>
  obtain⟨k,e⟩:=q;simp only[cM,List.mem_cons,ih];constructor
  ·rintro (rfl|⟨e',h1,h2⟩)
   ·exact⟨e,rfl,.inl rfl⟩
   ·exact⟨e',h1,.inr h2⟩
  ·rintro⟨e',h1,h2|h2⟩
   ·left;rw[h1];simp only[Prod.mk.injEq]at h2;rw[h2.1,h2.2]
   ·exact .inr ⟨e',h1,h2⟩
theorem rJ{w' : World}{k:Nat}{T:TypeId}{vs:List SV}{fs fs' : List AV}{rs fp' : List Nat}(hs:aj W bs E F h w)(hK:bU K h)(hk:∀ k,k / 8=κ->¬ K k)
  (hkk:h k=some (.cells T vs)) (hv:aB h vs=some (fs,rs)) (hlen:fs'.length<=8) (hn:(k::rs).Nodup)
  (ho:aY w' (E k) fp' T fs') (h1:∀ b∈fp',b∈(k::rs).flatMap F\/w.heap.size<=b) (h2:∀ b∈fp',b<w'.heap.size) (hkeep:an w ((k::rs).flatMap F) w') :
  ∃ E' F',(∀ j,j / 8≠κ->E' j=E j)/\aj W bs E' F' (ba h (dX rs++(cM (bh (8*κ) fs')++[(k,some (.cells T (aP (8*κ) fs')))]))) w' := by
 obtain⟨b,us,hu,hb,hus,rfl,hnd⟩:=ho;have hl:=ki hus;have hKk:K k:=(hK k _ hkk).1;have hfr:∀ j,8*κ<=j->j<8*κ+8->¬ K j:=λj g1 g2=>hk j oM
 have hkf:k<8*κ\/8*κ+8<=k:=by
  by_cases g1:k<8*κ
  ·exact .inl g1
  ·by_cases g2:8*κ+8<=k
   ·exact .inr g2
   ·exact absurd hKk (hfr k oM oM)
 have hE:∀ j,j / 8≠κ->gN (8*κ) us E j=E j:=λj hj=>ni oM
 have hsome:∀ p∈cM (bh (8*κ) fs')++[(k,some (.cells T (aP (8*κ) fs')))],∃ e,p.2=some e:=λp hp=>by
  rcases List.mem_append.1 hp with hp|hp
  ·obtain⟨e,he,_⟩:=fZ.1 hp;exact⟨e,by rw[he]⟩
  ·simp at hp;exact⟨_,by rw[hp]⟩
 have hNm:∀ j e,ba (λ_=>none) (cM (bh (8*κ) fs')++[(k,some (.cells T (aP (8*κ) fs')))]) j=some e->(j=k/\e=.cells T (aP (8*κ) fs'))\/(j≠k/\(j,e)∈bh (8*κ) fs'):=λj e he=>by
  rw[cj]at he;simp only[ba]at he;by_cases hj:j=k
  ·subst hj;rw[ah]at he;cases he;exact .inl ⟨rfl,rfl⟩
  ·rw[al _ _ hj]at he;rcases lz (λ_=>(none:Option aZ)) (k:=j) (u:=cM (bh (8*κ) fs')) with ⟨x,hx,hx'⟩|⟨_,hx'⟩
   ·rw[hx']at he;subst he;obtain⟨e',h3,h4⟩:=fZ.1 hx;simp only[Prod.mk.injEq,true_and,Option.some.injEq]at h3;subst h3;exact .inr ⟨hj,h4⟩
   ·rw[hx']at he;cases he
 have hNk:ba (λ_=>none) (cM (bh (8*κ) fs')++[(k,some (.cells T (aP (8*κ) fs')))]) k=some (.cells T (aP (8*κ) fs')):=by
  rw[cj];simp[ba,ah]
 have hb' : b∉Az us fs' := (List.nodup_cons.1 hnd).1;have hnd' : (Az us fs').Nodup:=(List.nodup_cons.1 hnd).2;refine⟨gN (8*κ) us E,bu (iL (8*κ) us fs' F) k [b],hE,?_⟩
 refine hs.mD hK (k::rs) (ba (λ_=>none) (cM (bh (8*κ) fs')++[(k,some (.cells T (aP (8*κ) fs')))])) (λj hj=>?_) (λj hj=>hE j λe=>hk j e hj) (λj e he=>?_) (λi j e e' hij hi hj c hc=>?_) (λj x hx hj=>?_) (λj=>?_) hkeep
 ·rcases List.mem_cons.1 hj with rfl|hj
  ·exact⟨_,hkk⟩
  ·exact (cy hs hv).2 j hj
 ·rcases hNm j e he with ⟨rfl,rfl⟩|⟨hjk,hm⟩
  ·rw[ah,hE j λe=>hk j e hKk];refine⟨⟨b,hu,rfl,by rw[gw hus];exact hb⟩,λc hc=>?_,λc hc=>h2 c (by simp at hc;simp[hc])⟩;simp only[List.mem_singleton]at hc;subst hc;rcases h1 c sI with g|g
   ·obtain⟨i,hi,hci⟩:=List.mem_flatMap.1 g;exact .inl ⟨i,hi,hci⟩
   ·exact .inr g
  ·rw[al _ _ hjk];obtain⟨g1,g2⟩:=jl (E:=E) (F:=F) hus hm (gN (8*κ) us E);refine⟨g1,λc hc=>?_,λc hc=>h2 c (List.mem_cons_of_mem _ (g2 c hc))⟩;rcases h1 c (List.mem_cons_of_mem _ (g2 c hc)) with g|g
   ·obtain⟨i,hi,hci⟩:=List.mem_flatMap.1 g;exact .inl ⟨i,hi,hci⟩
   ·exact .inr g
 ·rcases hNm i e hi with ⟨rfl,rfl⟩|⟨hik,hmi⟩
  ·rcases hNm j e' hj with ⟨rfl,rfl⟩|⟨hjk,hmj⟩
   ·exact absurd rfl hij
   ·rw[ah]at hc;rw[al _ _ hjk];simp only[List.mem_singleton]at hc;subst hc;exact λhc' => hb' (cK hl hmj c hc')
  ·rw[al _ _ hik]at hc;rcases hNm j e' hj with ⟨rfl,rfl⟩|⟨hjk,hmj⟩
   ·rw[ah];intro hc';simp only[List.mem_singleton]at hc';subst hc';exact hb' (cK hl hmi c hc)
   ·rw[al _ _ hjk];exact jk hnd' hmi hmj hl hij c hc
 ·have hjk:j≠k:=λe=>by rw[e,hNk]at hj;cases hj
  rw[al _ _ hjk];have hKj:=(hK j x hx).1;by_cases g1:j<8*κ
  ·exact kH (.inl g1)
  ·by_cases g2:8*κ+8<=j
   ·exact kH (.inr oM)
   ·exact absurd hKj (hfr j oM oM)
 ·rw[cj,kJ _ _ _ hsome,kI];cases hN:ba (λ_=>none) (cM (bh (8*κ) fs')++[(k,some (.cells T (aP (8*κ) fs')))]) j with
  |some e=>rfl
  |none=>
   have hjk:j≠k:=λe=>by rw[e,hNk]at hN;cases hN
   simp[hjk]
theorem A7{fs:List AV}(hlen:fs.length<=8){j:Nat}{e:aZ}(hm:(j,e)∈bh (8*κ) fs):j / 8=κ/\e.keys=[]:=by
 have:=dZ _ hm;exact⟨by simp only at this;omega,this.2.2⟩
theorem xP(hK:bU K h){l:List SV}{as_:List AV}{r:List Nat}(hv:aB h l=some (as_,r)):∀ k∈r,K k:=λk hk=>by
 obtain⟨e,h1,_⟩:=iY hv k hk;exact (hK k _ h1).1
end
def bP.spec{P:Program}{f:FuncId}(p:bP P f):Spec P f where
 ev:=λW bs κ h args=>tk h κ p.T (p.pre W bs) (p.out W) args
 good:=λW bs κ E F h w K args hs hK hk hx hside=>by
  rw[p.enters];revert hside;unfold tk;split
  ·rename_i k rest;cases hkk:h k with
   |none=>exact λhf=>hf.elim
   | some e=>
    cases e with
    |row T s n vs=>exact λhf=>hf.elim
    |mp ks vs=>exact λhf=>hf.elim
    |obj d R=>exact λhf=>hf.elim
    | cells T' vs=>
     cases hr:aB h rest with
     |none=>exact λhf=>hf.elim
     | some q=>
      obtain⟨as_,rs'⟩:=q;simp only[gU];cases hv:aB h vs with
      |none=>exact λhf=>hf.elim
      | some q=>
       obtain⟨fs,rs⟩:=q;simp only[jA];have hent:=hs.ent k _ hkk;obtain⟨b,hu,_,_⟩:=hent;have hden:den E (.own k 0)=E k:=by simp[den,hu,base,dt]
       have call:∀ hn:(k::rs).Nodup,T' = p.T->p.pre W bs fs as_->Calls P f (ai E (.own k 0::rest)).toArray w λe w' => dN w (E k) ((k::rs).flatMap F) p.T e w' (p.out W fs as_):=λhn hT hp=>by
        subst hT;have ho:=jg hs hkk hv hn;have:=p.ok W w bs (E k) _ (ai E rest) fs as_ hs.keeps ho (λc hc=>?_) (λc hc=>?_) (eE hs hr) hp
        ·simpa only[ai,hden] using this
        ·obtain⟨j,hj,hcj⟩:=List.mem_flatMap.1 hc;rcases List.mem_cons.1 hj with rfl|hj
         ·exact hs.lt _ _ hkk c hcj
         ·obtain⟨e,he⟩:=(cy hs hv).2 j hj;exact hs.lt j e he c hcj
        ·obtain⟨j,hj,hcj⟩:=List.mem_flatMap.1 hc;rcases List.mem_cons.1 hj with rfl|hj
         ·exact hs.mine _ _ hkk c hcj
         ·obtain⟨e,he⟩:=(cy hs hv).2 j hj;exact hs.mine j e he c hcj
       cases hout:p.out W fs as_ with
       |ret v fs' =>
        simp only[iM];rintro⟨⟨hT,hp⟩,hn,hd,hlen⟩;have hc:=call hn hT hp;rw[hout]at hc;subst hT;refine hc.mono λe w' he=>?_
        obtain⟨rfl,⟨fp',ho,h1,h2⟩,hkeep⟩:=he;obtain⟨E',F',hE',hs'⟩:=rJ hs hK hk hkk hv hlen hn ho h1 h2 hkeep;exact⟨rfl,E',F',hE',rfl,hs'⟩
       | pan c _=>
        simp only[iM];rintro⟨⟨hT,hp⟩,hn,hd⟩;have hc:=call hn hT hp;rw[hout]at hc;refine hc.mono λe w' he=>?_
        obtain⟨rfl,hkeep⟩:=he;refine⟨rfl,F,?_⟩;refine hs.mD hK (k::rs) (λ_=>none) (λj hj=>?_) (λ_ _=>rfl) (λj e he=>by cases he) (λi j e e' _ he=>by cases he) (λ_ _ _ _=>rfl) (λj=>?_) hkeep
        ·rcases List.mem_cons.1 hj with rfl|hj
         ·exact⟨_,hkk⟩
         ·exact (cy hs hv).2 j hj
        ·simp only[dropKeys]
  ·exact λhf=>hf.elim
 keys:=λW bs κ h K args hK hx hside=>by
  revert hside;unfold tk;split
  ·rename_i k rest;cases hkk:h k with
   |none=>exact λhf=>hf.elim
   | some e=>
    cases e with
    |row T s n vs=>exact λhf=>hf.elim
    |mp ks vs=>exact λhf=>hf.elim
    |obj d R=>exact λhf=>hf.elim
    | cells T' vs=>
     cases hr:aB h rest with
     |none=>exact λhf=>hf.elim
     | some q=>
      obtain⟨as_,rs'⟩:=q;simp only[gU];cases hv:aB h vs with
      |none=>exact λhf=>hf.elim
      | some q=>
       obtain⟨fs,rs⟩:=q;simp only[jA];cases hout:p.out W fs as_ with
       | ret v fs' =>
        simp only[iM];rintro⟨_,hn,hd,hlen⟩;refine⟨λj hj=>(by cases hj),λq hq=>?_⟩;simp only[List.mem_append,List.mem_singleton]at hq;rcases hq with hq|hq|rfl
        ·simp only[dX,List.mem_map]at hq;obtain⟨j,hj,rfl⟩:=hq;exact⟨.inl (xP hK hv j hj),λe he=>by cases he⟩
        ·obtain⟨e,h1,h2⟩:=fZ.1 hq;obtain⟨h3,h4⟩:=A7 hlen h2;refine⟨.inr h3,λe' he' j hj=>?_⟩;rw[h1]at he';simp only[Option.some.injEq]at he';subst he';rw[h4]at hj;cases hj
        ·refine⟨.inl (hK k _ hkk).1,λe' he' j hj=>.inr ?_⟩;simp only[Option.some.injEq]at he';subst he';have:=cw j hj;omega
       |pan c _=>
        simp only[iM];rintro _;exact⟨λj hj=>(by cases hj),λq hq=>by cases hq⟩
  ·exact λhf=>hf.elim
 loc:=λW bs κ h h' args hside hr=>by
  revert hside hr;unfold tk;split
  ·rename_i k rest;cases hkk:h k with
   |none=>exact λhf=>hf.elim
   | some e=>
    cases e with
    |row T s n vs=>exact λhf=>hf.elim
    |mp ks vs=>exact λhf=>hf.elim
    |obj d R=>exact λhf=>hf.elim
    | cells T' vs=>
     cases hrr:aB h rest with
     |none=>exact λhf=>hf.elim
     | some q=>
      obtain⟨as_,rs'⟩:=q;simp only[gU];cases hv:aB h vs with
      |none=>exact λhf=>hf.elim
      | some q=>
       obtain⟨fs,rs⟩:=q;simp only[jA];have key:∀ r:R,(∀ j∈r.reads,h' j=h j)->r.reads=k::(rs++rs')->h' k=some (.cells T' vs)/\aB h' rest=some (as_,rs')/\aB h' vs=some (fs,rs):=λr hr he=>by
        rw[he]at hr;exact⟨by rw[hr k sI,hkk],cU hrr λj hj=>hr j (by simp[hj]),cU hv λj hj=>hr j (by simp[hj])⟩
       intro _ hr;obtain⟨g1,g2,g3⟩:=key _ hr (by cases p.out W fs as_<;>rfl);rw[g1,g2];simp only[gU,g3,jA]
  ·exact λhf=>hf.elim
theorem Oj{P:Program}{f:FuncId}(p:bP P f)(W:World)(bs:List Nat)(κ:Nat)(h:Hp)(l:List SV):p.spec.ev W bs κ h l=tk h κ p.T (p.pre W bs) (p.out W) l:=rfl
theorem Kt(h:Hp)(κ k:Nat)(T:TypeId)(pre:List AV->List AV->Prop)(out:List AV->List AV->BOut)(rest:List SV):tk h κ T pre out (.own k 0::rest)=gU h κ k T pre out (h k) (aB h rest):=rfl
theorem EX(h:Hp)(κ k:Nat)(T T' : TypeId)(pre:List AV->List AV->Prop)(out:List AV->List AV->BOut)(vs:List SV)(as_:List AV)(rs' : List Nat):gU h κ k T pre out (some (.cells T' vs)) (some (as_,rs'))=jA κ k T T' pre out as_ rs' (aB h vs):=rfl
theorem Hi(κ k:Nat)(T T' : TypeId)(pre:List AV->List AV->Prop)(out:List AV->List AV->BOut)(as_:List AV)(rs' : List Nat)(fs:List AV)(rs:List Nat):jA κ k T T' pre out as_ rs' (some (fs,rs))=iM κ k T (T' = T/\pre fs as_) rs rs' (out fs as_):=rfl
theorem Kv(κ k:Nat)(T:TypeId)(pre:Prop)(rs rs' : List Nat)(v:Value)(fs:List AV):iM κ k T pre rs rs' (.ret v fs)=⟨pre/\(k::rs).Nodup/\(∀ j∈rs',j∉k::rs)/\fs.length<=8,.v v,dX rs++(cM (bh (8*κ) fs)++[(k,some (.cells T (aP (8*κ) fs)))]),none,[],k::(rs++rs')⟩:=rfl
theorem Ku(κ k:Nat)(T:TypeId)(pre:Prop)(rs rs' : List Nat)(c:List PanicEntry)(v:Value):iM κ k T pre rs rs' (.pan c v)=⟨pre/\(k::rs).Nodup/\(∀ j∈rs',j∉k::rs),.v v,[],some c,k::rs,k::(rs++rs')⟩:=rfl
theorem W8(k:IntKind)(n:Int):xl .xor [.v (.int k n)]=⟨True,.v (.int k (cu .xor k (if k.signed then -1 else k.max) n)),[],none,[],[]⟩:=rfl
theorem yo:dX []=[]:=rfl
theorem uJ(k:Nat)(r:List Nat):dX (k::r)=(k,none)::dX r:=rfl
theorem WO(k:Nat):bh k []=[]:=rfl
theorem WR(k:Nat)(v:Value)(r:List AV):bh k (.val v::r)=bh (k+1) r:=rfl
theorem WQ(k:Nat)(T s n:Nat)(vs:List Value)(r:List AV):bh k (.row T s n vs::r)=(k,.row T s n (vs.map .v))::bh (k+1) r:=rfl
theorem Oy(k:Nat):aP k []=[]:=rfl
theorem OA(k:Nat)(v:Value)(r:List AV):aP k (.val v::r)=.v v::aP (k+1) r:=rfl
theorem Oz(k:Nat)(T s n:Nat)(vs:List Value)(r:List AV):aP k (.row T s n vs::r)=.hd k::aP (k+1) r:=rfl
theorem Xo:cM []=[]:=rfl
theorem QZ(k:Nat)(e:aZ)(r:List (Nat×aZ)):cM ((k,e)::r)=(k,some e)::cM r:=rfl
def σB(T:TypeId)(fs:List AV)(args:List Value):St:=⟨1,eA ((0,.is (.own 0 0))::vM args 1),dS ((0,.cells T (aP 1 fs))::bh 1 fs)⟩
theorem K5{k:Nat}{fs:List AV}{j:Nat}{e:aZ}(h:dS (bh k fs) j=some e):(j,e)∈bh k fs:=eB h
theorem CZ{w:World}{nt m:Nat}{T:TypeId}{fs:List AV}{u:Value}{fp:List Nat}(us:Array Value)(hlen:fs.length<=7)(ho:aY w u fp T fs)(hlt:∀ b∈fp,b<w.heap.size)(hnt:us.size+1+m=nt) :
  Sat w fp nt ⟨[],[(0,u)]⟩ (σB T fs us.toList) { tmps:=(#[u]++us)++Array.replicate m undef,defers:=[] } w:=by
 obtain⟨b,vs,rfl,hb,hvs,rfl,hnd⟩:=ho;have hl:=ki hvs;have hb' : b∉Az vs fs:=(List.nodup_cons.1 hnd).1;have hnd' : (Az vs fs).Nodup:=(List.nodup_cons.1 hnd).2;have at' : ∀ j e,dS ((0,.cells T (aP 1 fs))::bh 1 fs) j=some e->(j=0/\e=.cells T (aP 1 fs))\/(j≠0/\(j,e)∈bh 1 fs):=λj e he=>by
  simp only[dS]at he;by_cases hj:j=0
  ·subst hj;rw[ah]at he;cases he;exact .inl ⟨rfl,rfl⟩
  ·rw[al _ _ hj]at he;exact .inr ⟨hj,K5 he⟩
 have e0:gN 1 vs (λ_=>.pointer (some ⟨b,0,none⟩)) 0=.pointer (some ⟨b,0,none⟩):=ni (.inl oM)
 refine⟨⟨gN 1 vs (λ_=>.pointer (some ⟨b,0,none⟩)),bu (iL 1 vs fs (λ_=>[])) 0 [b],λt=>?_,⟨λj e he=>?_,λj e he c hc=>?_,λj e he c hc=>?_,λi j e e' hij hi hj c hc=>?_,an.refl w _⟩,λp hp=>?_⟩,?_,rfl,λp hp=>?_,λt k hk=>?_,λj e he=>?_⟩
 ·show fits _ (eA ((0,.is (.own 0 0))::vM us.toList 1) t) _;simp only[eA,bu];split
  ·rename_i ht;subst ht;simp only[fits,den,e0,base,dt];rw[Array.getD_eq_getD_getElem?,Array.getElem?_append_left (by simp;omega),Array.getElem?_append_left sI];rfl
  ·refine tg _ us.toList 1 t (λt=>((#[Value.pointer (some ⟨b,0,none⟩)]++us)++Array.replicate m undef).getD t undef) λj hj=>?_
   have hj' : j<us.size:=by simpa using hj
   rw[Array.getD_eq_getD_getElem?,Array.getElem?_append_left (by simp;omega),Array.getElem?_append_right sI];simp[Array.getElem?_eq_getElem hj']
 ·rcases at' j e he with ⟨rfl,rfl⟩|⟨hj,hm⟩
  ·exact⟨b,e0,by rw[ah],by rw[gw hvs];exact hb⟩
  ·rw[al _ _ hj];exact (jl hvs hm _).1
 ·rcases at' j e he with ⟨rfl,rfl⟩|⟨hj,hm⟩
  ·rw[ah]at hc;exact hlt c (by simp at hc;simp[hc])
  ·rw[al _ _ hj]at hc;exact hlt c (List.mem_cons_of_mem _ (cK hl hm c hc))
 ·right;rcases at' j e he with ⟨rfl,rfl⟩|⟨hj,hm⟩
  ·rw[ah]at hc;simp at hc;simp[hc]
  ·rw[al _ _ hj]at hc;exact List.mem_cons_of_mem _ (cK hl hm c hc)
 ·rcases at' i e hi with ⟨rfl,rfl⟩|⟨hi0,hmi⟩
  ·rcases at' j e' hj with ⟨rfl,rfl⟩|⟨hj0,hmj⟩
   ·exact absurd rfl hij
   ·rw[ah]at hc;rw[al _ _ hj0];simp only[List.mem_singleton]at hc;subst hc;exact λhc' => hb' (cK hl hmj c hc')
  ·rw[al _ _ hi0]at hc;rcases at' j e' hj with ⟨rfl,rfl⟩|⟨hj0,hmj⟩
   ·rw[ah];intro hc';simp only[List.mem_singleton]at hc';subst hc';exact hb' (cK hl hmi c hc)
   ·rw[al _ _ hj0];exact jk hnd' hmi hmj hl hij c hc
 ·simp only[List.mem_singleton]at hp;subst hp;exact e0
 ·simp;omega
 ·simp only[List.mem_singleton]at hp;subst hp;show 0 / 8<1;omega
 ·simp only[σB,eA,bu]at hk;split at hk
  ·simp[FV.keys,SV.keys]at hk;subst hk;show 0 / 8<1;omega
  ·rw[ti]at hk;cases hk
 ·rcases at' j e he with ⟨rfl,rfl⟩|⟨hj,hm⟩
  ·refine⟨by show 0 / 8<1;omega,λi hi=>?_⟩;have:=cw i hi;show i / 8<1;omega
  ·have:=dZ _ hm;refine⟨by show j / 8<1;simp only at this;omega,λi hi=>?_⟩;rw[this.2.2]at hi;cases hi
theorem aO{P:Program}{f:FuncId}{fn:Func}{c:Code}{w:World}{nt:Nat}{T:TypeId}{u:Value}{fp:List Nat}{fs:List AV}{out:BOut}(us:Array Value)(rs:List ResultVar)
  (hlen:fs.length<=7) (ho:aY w u fp T fs) (hlt:∀ b∈fp,b<w.heap.size)
  (hf:P.funcs[f]?=some fn) (hb:fn.body=some c) (hrs:fn.results.toList=rs) (hnt:us.size+1+(fn.ntmps-(us.size+1))=nt)
  (h:Wp P w fp nt ⟨[],[(0,u)]⟩ c (Fin P rs (λ_ _ x h=>∃ v fs',out=.ret v fs' /\ (∀ E,den E x=v)/\∃ vs ks,h 0=some (.cells T vs)/\aB h vs=some (fs',ks)/\(0::ks).Nodup) (λc _=>∃ v,out=.pan c v)) (σB T fs us.toList)) :
  Calls P f (#[u]++us) w λe w' => dN w u fp T e w' out:=by
 subst hrs;have hsat:=CZ (nt:=nt) (m:=fn.ntmps-(us.size+1)) us hlen ho hlt hnt;have hsz:(#[u]++us).size=us.size+1:=by simp;omega
 refine (oY hf hb (by rw[hsz];exact hsat) h).mono λe w' he=>?_
 cases e with
 | returned v' =>
  obtain⟨W',bs',E,F,x,h',hx,⟨v,fs',rfl,hd,vs,ks,h0,hv,hn⟩,rfl,hs,hp⟩:=he;have hs' := hs.back hx;have hE:E 0=u:=hp (0,u) sI;have ho' := jg hs' h0 hv hn;rw[hE]at ho';refine⟨by rw[hd E],⟨_,ho',λb hb=>?_,λb hb=>?_⟩,hs'.keeps⟩
  ·obtain⟨j,hj,hbj⟩:=List.mem_flatMap.1 hb;have:∃ e,h' j=some e:=by
    rcases List.mem_cons.1 hj with rfl|hj
    ·exact⟨_,h0⟩
    ·exact (cy hs' hv).2 j hj
   obtain⟨e,he⟩:=this;exact (hs'.mine j e he b hbj).symm
  ·obtain⟨j,hj,hbj⟩:=List.mem_flatMap.1 hb;have:∃ e,h' j=some e:=by
    rcases List.mem_cons.1 hj with rfl|hj
    ·exact⟨_,h0⟩
    ·exact (cy hs' hv).2 j hj
   obtain⟨e,he⟩:=this;exact hs'.lt j e he b hbj
 |panicked c=>
  obtain⟨W',bs',E,F,h',hx,⟨_,rfl⟩,hs,hp⟩:=he;exact⟨rfl,(hs.back hx).keeps⟩
 |outgrown=>exact he.elim
end
section
def ev7:=(aa @W8 (aa @Oj (aa @Kt (aa @EX (aa @Hi (aa @Kv (aa @Ku (aa @yo (aa @uJ (aa @WO (aa @WR (aa @WQ (aa @Oy (aa @OA (aa @Oz (aa @Xo @QZ))))))))))))))))
end
section
open Go.RowKit
theorem amw:IntKind.i64.bits=64/\IntKind.u64.bits=64/\IntKind.u8.bits=8/\IntKind.i32.bits=32/\IntKind.u32.bits=32/\IntKind.u16.bits=16:=⟨rfl,rfl,rfl,rfl,rfl,rfl⟩
structure Sa (P:Program)(f:FuncId) where
 pre:World->List Nat->List AV->Prop
 res:World->List AV->Value
 ok:∀ (W w:World) (bs:List Nat) (us:List Value) (as_:List AV),an W bs w->fm w us as_->pre W bs as_->(callFunc f us.toArray).run P w=.ok (.value (res W as_)) w
def Sa.spec{P:Program}{f:FuncId}(p:Sa P f):Spec P f where
 ev:=λW bs _ h args=>Gp p.pre p.res W bs (aB h args)
 good:=λW bs κ E F h w K args hs hK hk hx hside=>by
  cases hv:aB h args with
  |none=>rw[hv]at hside;exact hside.elim
  |some q=>
   obtain⟨as_,rs⟩:=q;rw[hv]at hside;rw[p.ok W w bs _ as_ hs.keeps (eE hs hv) hside];exact Good.pure hs rfl rfl rfl
 keys:=λW bs κ h K args hK hx hside=>by
  cases hv:aB h args with
  |none=>rw[hv]at hside;exact hside.elim
  |some q=>exact aQ.plain (λk hk=>by cases hk) rfl
 loc:=λW bs κ h h' args hside hr=>by
  cases hv:aB h args with
  |none=>rw[hv]at hside;exact hside.elim
  |some q=>
   obtain⟨as_,rs⟩:=q;rw[hv]at hr;rw[cU hv hr]
theorem aF{P:Program}{f:FuncId}(p:Sa P f)(W:World)(bs:List Nat)(κ:Nat)(h:Hp)(l:List SV):p.spec.ev W bs κ h l=Gp p.pre p.res W bs (aB h l):=rfl
theorem aof:min 6 8=6/\min 6 64=6/\min 4 8=4/\min 1 64=1/\min 2 64=2/\min 4 64=4/\min 8 64=8/\min 16 64=16/\min 32 64=32:=by decide
section
variable {P:Program}{W:World}{bs:List Nat}{κ:Nat}{h:Hp}{Γ:Env P}
theorem IJ(fn:Fn)(first cap:Array Operand)(l:List SV):ew Γ W bs κ h (.makeFunc fn first cap) l=⟨True,.fn fn (l.take first.size) (l.drop first.size),[],none,[],[]⟩:=rfl
theorem C6(x:Operand)(xT T:TypeId)(ok:Bool)(l:List SV):ew Γ W bs κ h (.typeAssert x xT T ok) l=eC P T ok l:=rfl
theorem agL(as_:Array Operand)(tys:Array TypeId)(l:List SV):ew Γ W bs κ h (.call { callee:=.builtin .min,args:=as_,argTypes:=tys }) l=uY l:=rfl
theorem agK(as_:Array Operand)(tys:Array TypeId)(l:List SV):ew Γ W bs κ h (.call { callee:=.builtin .max,args:=as_,argTypes:=tys }) l=sB l:=rfl
theorem QH(f:FuncId)(first cap rest:List SV):lX Γ W bs κ h (.fn (.func f) first cap::rest)=fz Γ W bs κ h f (first++rest++cap):=rfl
theorem aaV(f:Fn)(a c:List SV):dO (.fn f a c)=true:=rfl
theorem PS(f:Fn)(a c:List SV):partsOf (.fn f a c)=[.fn f a c]:=rfl
theorem PJ(f:Fn)(a c:Array Value):dO (.v (.func f a c))=true:=rfl
theorem Ia(f:Fn)(a c:Array Value):partsOf (.v (.func f a c))=[.v (.func f a c)]:=rfl
theorem Fe:dO (.v .nilFunc)=true:=rfl
theorem AE:partsOf (.v .nilFunc)=[.v .nilFunc]:=rfl
def ncK(k o:Nat):Option (List SV)->R
 |some vs=>⟨o<vs.length,.own k o,[],none,[],[k]⟩
 |none=>.bad
theorem y5(k o:Nat):de h [.own k o]=ncK k o (cc (h k)):=by
 simp only[de];unfold ncK;rcases cc (h k) with _|vs<;>rfl
theorem aaM(k o:Nat)(vs:List SV):ncK k o (some vs)=⟨o<vs.length,.own k o,[],none,[],[k]⟩:=rfl
def afB(k o n:Nat)(i:Int)(vs:List SV):Option Nat->R
 |some sz=>⟨0<=i/\i<n/\1<n/\o<vs.length,.own k (o+i.toNat*sz),[],none,[],[k]⟩
 |none=>.bad
def ixO(P:Program)(k o:Nat)(i:Int):Option TypeDesc->Option (List SV)->R
 |some (.array n e),some vs=>afB k o n i vs (ts P e)
 |_,_=>.bad
theorem y2(T:TypeId)(k o:Nat)(ik:IntKind)(i:Int):bG P h T [.own k o,.v (.int ik i)]=ixO P k o i (P.underlying T) (cc (h k)):=by
 simp only[bG];unfold ixO;rcases P.underlying T with _|d
 ·rfl
 ·rcases cc (h k) with _|vs
  ·cases d<;>rfl
  ·cases d<;>first|rfl|(rename_i n e;simp only[afB];rcases ts P e with _|sz<;>rfl)
theorem afC(k o:Nat)(i:Int)(n:Nat)(e:TypeId)(vs:List SV):ixO P k o i (some (.array n e)) (some vs)=afB k o n i vs (ts P e):=rfl
theorem Vu(k o n:Nat)(i:Int)(vs:List SV)(sz:Nat):afB k o n i vs (some sz)=⟨0<=i/\i<n/\1<n/\o<vs.length,.own k (o+i.toNat*sz),[],none,[],[k]⟩:=rfl
def inB(n:Nat)(i:Int)(l:List SV):Option Nat->Option Bool->R
 |some sz,some true=>⟨0<=i/\i<n/\i.toNat*sz+sz<=l.length,.agg ((l.drop (i.toNat*sz)).take sz),[],none,[],[]⟩
 |some sz,some false=>⟨0<=i/\i<n/\i.toNat*sz<l.length,l.getD (i.toNat*sz) (.v undef),[],none,[],[]⟩
 |_,_=>.bad
def inA(P:Program)(i:Int)(l:List SV):Option TypeDesc->R
 |some (.array n e)=>inB n i l (ts P e) (ta P e)
 |_=>.bad
theorem Ix(T:TypeId)(l:List SV)(ik:IntKind)(i:Int):gH P T [.agg l,.v (.int ik i)]=inA P i l (P.underlying T):=by
 simp only[gH];unfold inA;rcases P.underlying T with _|d
 ·rfl
 ·cases d<;>first|rfl|(rename_i n e;simp only[inB];rcases ts P e with _|sz<;>rcases ta P e with _|b<;>first|rfl|(cases b<;>simp[gi,R.iC]))
theorem Fk(T:TypeId)(cs:Array Value)(ik:IntKind)(i:Int):gH P T [.v (.agg cs),.v (.int ik i)]=inA P i (cs.toList.map .v) (P.underlying T):=by
 simp only[gH];unfold inA;rcases P.underlying T with _|d
 ·rfl
 ·cases d<;>first|rfl|(rename_i n e;simp only[inB];rcases ts P e with _|sz<;>rcases ta P e with _|b<;>first|rfl|(cases b<;>simp[gi,R.iC]))
theorem afx(i:Int)(l:List SV)(n:Nat)(e:TypeId):inA P i l (some (.array n e))=inB n i l (ts P e) (ta P e):=rfl
theorem afy(n:Nat)(i:Int)(l:List SV)(sz:Nat):inB n i l (some sz) (some true)=⟨0<=i/\i<n/\i.toNat*sz+sz<=l.length,.agg ((l.drop (i.toNat*sz)).take sz),[],none,[],[]⟩:=rfl
theorem afz(n:Nat)(i:Int)(l:List SV)(sz:Nat):inB n i l (some sz) (some false)=⟨0<=i/\i<n/\i.toNat*sz<l.length,l.getD (i.toNat*sz) (.v undef),[],none,[],[]⟩:=rfl
def cvI(n:Int):Option TypeDesc->Option TypeDesc->R
 |some _,some (.int k)=>⟨True,.v (.int k (k.wrap n)),[],none,[],[]⟩
 |_,_=>.bad
theorem C1(src dst:TypeId)(k:IntKind)(n:Int):fJ P src dst [.v (.int k n)]=cvI n (P.underlying src) (P.underlying dst):=by
 simp only[fJ];unfold cvI;rcases P.underlying src with _|d<;>rcases P.underlying dst with _|d' <;> first|rfl|(cases d' <;> rfl)
theorem ae1(n:Int)(d:TypeDesc)(k:IntKind):cvI n (some d) (some (.int k))=⟨True,.v (.int k (k.wrap n)),[],none,[],[]⟩:=rfl
theorem QM(t:TypeId)(x:Value):mC [.v (.iface t x)]=⟨True,.v undef,[],some [{ v:=.iface t x,recovered:=false }],[],[]⟩:=rfl
def miK(P:Program)(T:TypeId)(l:List SV):Option (List Value)->R
 |some vs=>⟨P.concrete T=true,.v (.iface T (.agg vs.toArray)),[],none,[],[]⟩
 |none=>⟨P.concrete T=true,.nO T (.agg l),[],none,[],[]⟩
theorem QL(T:TypeId)(l:List SV):oq P T [.agg l]=miK P T l (cY l):=by
 simp only[oq,nj];unfold miK;rcases cY l with _|vs<;>rfl
theorem aax(T:TypeId)(l:List SV)(vs:List Value):miK P T l (some vs)=⟨P.concrete T=true,.v (.iface T (.agg vs.toArray)),[],none,[],[]⟩:=rfl
def aK(T t:TypeId)(x:SV)(ok:Bool):Option Bool->Option Value->R
 |some false,some z=>match ok with
  |true=>⟨True,if t=T then .tup [x,.v (.bool true)] else .tup [.v z,.v (.bool false)],[],none,[],[]⟩
  |false=>⟨t=T,x,[],none,[],[]⟩
 |_,_=>.bad
theorem Mq(T t:TypeId)(x:Value)(ok:Bool):eC P T ok [.v (.iface t x)]=aK T t (.v x) ok (isIface P T) (rF P T):=by
 simp only[eC];unfold aK;rcases isIface P T with _|b
 ·rfl
 ·cases b<;>rcases rF P T with _|z<;>first|rfl|(cases ok<;>rfl)
theorem Yv(T t:TypeId)(x:SV)(z:Value):aK T t x false (some false) (some z)=⟨t=T,x,[],none,[],[]⟩:=rfl
theorem aer(T t:TypeId)(x:SV)(z:Value):aK T t x true (some false) (some z)=⟨True,if t=T then .tup [x,.v (.bool true)] else .tup [.v z,.v (.bool false)],[],none,[],[]⟩:=rfl
def nK(ok:Bool):Option Bool->Option Value->R
 |some false,some z=>match ok with
  |true=>⟨True,.tup [.v z,.v (.bool false)],[],none,[],[]⟩
  |false=>.bad
 |_,_=>.bad
theorem Fi(T:TypeId)(ok:Bool):eC P T ok [.v .nilIface]=nK ok (isIface P T) (rF P T):=by
 simp only[eC];unfold nK;rcases isIface P T with _|b
 ·rfl
 ·cases b<;>rcases rF P T with _|z<;>first|rfl|(cases ok<;>rfl)
theorem afY(z:Value):nK true (some false) (some z)=⟨True,.tup [.v z,.v (.bool false)],[],none,[],[]⟩:=rfl
def Ph:Option TypeDesc->Bool
 |some (.array _ _)=>true
 |_=>false
theorem Pj(n:Nat)(e:TypeId):Ph (some (.array n e))=true:=rfl
def Hl(idx:List Nat)(args:List SV)(zs:List Value):Option Nat->R
 |some sz=>N6 (wq sz (zs.map .v) (idx.zip args))
 |none=>.bad
def Om(P:Program)(idx:List Nat)(args:List SV):Option (List Value)->Option TypeDesc->R
 |some zs,some (.array _ e)=>Hl idx args zs (ts P e)
 |_,_=>.bad
theorem Is(T:TypeId)(idx:List Nat)(args:List SV)(ha:Ph (P.underlying T)=true):iE P T idx args=Om P idx args (tz P T) (P.underlying T):=by
 unfold Ph at ha;split at ha
 ·rename_i n e hu;unfold iE Om;rw[hu];cases tz P T with
  |none=>rfl
  |some zs=>
   simp only[Hl,wq,N6];cases rD P T<;>cases ts P e with
   |none=>rfl
   |some sz=>cases fw (λi=>some (i*sz,sz)) (zs.map .v) (idx.zip args)<;>rfl
 ·cases ha
theorem On(idx:List Nat)(args:List SV)(zs:List Value)(n:Nat)(e:TypeId):Om P idx args (some zs) (some (.array n e))=Hl idx args zs (ts P e):=rfl
theorem Kz(idx:List Nat)(args:List SV)(zs:List Value)(sz:Nat):Hl idx args zs (some sz)=N6 (wq sz (zs.map .v) (idx.zip args)):=rfl
theorem QK(a b:Int):uY [.v (.int .i64 a),.v (.int .i64 b)]=⟨True,.v (.int .i64 (if b<a then b else a)),[],none,[],[]⟩:=rfl
theorem QJ(a b:Int):sB [.v (.int .i64 a),.v (.int .i64 b)]=⟨True,.v (.int .i64 (if a<b then b else a)),[],none,[],[]⟩:=rfl
theorem IA(a b c:Int):sB [.v (.int .i64 a),.v (.int .i64 b),.v (.int .i64 c)]=⟨True,.v (.int .i64 (if (if a<b then b else a)<c then c else (if a<b then b else a))),[],none,[],[]⟩:=rfl
end
open Classical in
noncomputable def dec{α:Type}(f:α->Value)(v:Value):Option α:=if h:∃ a,v=f a then some h.choose else none
theorem gv{α:Type}{f:α->Value}{v:Value}{a:α}(h:dec f v=some a):v=f a:=by
 unfold dec at h;split at h
 ·rename_i h1;simp only[Option.some.injEq]at h;rw[<- h];exact h1.choose_spec
 ·cases h
theorem ca{α:Type}{f:α->Value}(hf:∀ a b,f a=f b->a=b)(a:α):dec f (f a)=some a:=by
 unfold dec;have h1:∃ b,f a=f b:=⟨a,rfl⟩;rw[dif_pos h1];exact congrArg some (hf _ _ h1.choose_spec).symm
section
variable {P:Program}(eqs:(T:TypeId)->Option (EqSpec P T))(h:Hp)(op:BinOp)(T:TypeId)(X Y:Operand)
theorem UU(p:Prop)(b:Bool)(rd:List Nat):ep .eql p b rd=⟨p,.v (.bool b),[],none,[],rd⟩:=rfl
theorem UW(p:Prop)(b:Bool)(rd:List Nat):ep .neq p b rd=⟨p,.v (.bool (!b)),[],none,[],rd⟩:=rfl
theorem Mr(k k' : IntKind)(a b:Int):bR P eqs h op T X Y [.v (.int k a),.v (.int k' b)]=a7 P eqs op T [.v (.int k a),.v (.int k' b)]:=rfl
theorem Mt(a b:ByteArray):bR P eqs h op T X Y [.v (.string a),.v (.string b)]=a7 P eqs op T [.v (.string a),.v (.string b)]:=rfl
theorem Ir(a b:Bool):bR P eqs h op T X Y [.v (.bool a),.v (.bool b)]=a7 P eqs op T [.v (.bool a),.v (.bool b)]:=rfl
theorem Qo(a b:List SV):bR P eqs h op T X Y [.agg a,.agg b]=a7 P eqs op T [.agg a,.agg b]:=rfl
theorem Qq(a:List SV)(b:Array Value):bR P eqs h op T X Y [.agg a,.v (.agg b)]=a7 P eqs op T [.agg a,.v (.agg b)]:=rfl
theorem QA(a:Array Value)(b:List SV):bR P eqs h op T X Y [.v (.agg a),.agg b]=a7 P eqs op T [.v (.agg a),.agg b]:=rfl
theorem QB(a b:Array Value):bR P eqs h op T X Y [.v (.agg a),.v (.agg b)]=a7 P eqs op T [.v (.agg a),.v (.agg b)]:=rfl
theorem Qv:bR P eqs h op T X Y [.v .nilIface,.v .nilIface]=ep op (isIface P T=some true/\(lj X||lj Y)=true) true []:=rfl
theorem Qu(t:TypeId)(x:Value):bR P eqs h op T X Y [.v .nilIface,.v (.iface t x)]=ep op (isIface P T=some true) false []:=rfl
theorem Qs(t:TypeId)(x:Value):bR P eqs h op T X Y [.v (.iface t x),.v .nilIface]=ep op (isIface P T=some true) false []:=rfl
theorem Qt(t:TypeId)(x:SV):bR P eqs h op T X Y [.v .nilIface,.nO t x]=ep op (isIface P T=some true) false []:=rfl
theorem Qr(t:TypeId)(x:SV):bR P eqs h op T X Y [.nO t x,.v .nilIface]=ep op (isIface P T=some true) false []:=rfl
theorem Qz:bR P eqs h op T X Y [.v (.pointer none),.v (.pointer none)]=ep op (je P T=some true) true []:=rfl
theorem Qx(a:Addr):bR P eqs h op T X Y [.v (.pointer none),.v (.pointer (some a))]=ep op (je P T=some true) false []:=rfl
theorem Qp(a:Addr):bR P eqs h op T X Y [.v (.pointer (some a)),.v (.pointer none)]=ep op (je P T=some true) false []:=rfl
def KT(P:Program)(op:BinOp)(T:TypeId)(k o:Nat):Option (List SV)->R
 |some vs=>ep op (je P T=some true/\o<vs.length) false [k]
 |none=>.bad
theorem OT(k o:Nat)(vs:List SV):KT P op T k o (some vs)=ep op (je P T=some true/\o<vs.length) false [k]:=rfl
theorem Qw(k o:Nat):bR P eqs h op T X Y [.own k o,.v (.pointer none)]=KT P op T k o (cc (h k)):=by
 simp only[bR];unfold KT;cases cc (h k)<;>rfl
theorem Qy(k o:Nat):bR P eqs h op T X Y [.v (.pointer none),.own k o]=KT P op T k o (cc (h k)):=by
 simp only[bR];unfold KT;cases cc (h k)<;>rfl
theorem B2(v:Value):lj (.const v)=true:=rfl
theorem HH(t:Nat):lj (.tmp t)=false:=rfl
end
section
variable {P:Program}(h:Hp)(src dst:TypeId)
theorem Iu(k:IntKind)(n:Int):iF P h src dst [.v (.int k n)]=fJ P src dst [.v (.int k n)]:=rfl
theorem Iv(s:ByteArray):iF P h src dst [.v (.string s)]=fJ P src dst [.v (.string s)]:=rfl
theorem Mx(k:Nat):iF P h src dst [.hd k]=cvH P src dst k (h k):=rfl
theorem ae0(k T n:Nat)(vs:List SV):cvH P src dst k (some (.row T 1 n vs))=cvB P k n (P.underlying src) (P.underlying dst) (mg vs):=rfl
theorem Ze(k n e:Nat)(ns:List Int):cvB P k n (some (.slice e)) (some .string) (some ns)=⟨P.underlying e=some (.int .u8)/\ns.length=n,.v (.string (fB ns)),[],none,[],[k]⟩:=rfl
theorem Ot:mg []=some []:=rfl
theorem zN(n:Int)(r:List SV):mg (.v (.int .u8 n)::r)=(mg r).map (n::·):=rfl
theorem rL:∀ ns:List Int,mg (ns.map λn=>SV.v (.int .u8 n))=some ns
 |[]=>rfl
 |n::r=>by rw[List.map_cons,zN,rL r];rfl
end
end
section
def ev8:=(aa @aF (aa @IJ (aa @C6 (aa @agL (aa @agK (aa @QH (aa @aaV (aa @PS (aa @PJ (aa @Ia (aa @Fe (aa @AE (aa @y5 (aa @aaM (aa @y2 (aa @afC (aa @Vu (aa @Ix (aa @Fk (aa @afx (aa @afy (aa @afz (aa @C1 (aa @ae1 (aa @QM (aa @QL (aa @aax (aa @Mq (aa @Yv (aa @aer (aa @Fi (aa @afY (aa @Pj (aa @Is (aa @On (aa @Kz (aa @QK (aa @QJ @IA))))))))))))))))))))))))))))))))))))))
def ev9:=aa @WJ <| aa @Qd <| aa @Qc <| aa @abI <| (aa @UU (aa @UW (aa @Mr (aa @Mt (aa @Ir (aa @Qo (aa @Qq (aa @QA (aa @QB (aa @Qv (aa @Qu (aa @Qs (aa @Qt (aa @Qr (aa @Qz (aa @Qx (aa @Qp (aa @OT (aa @Qw (aa @Qy (aa @B2 (aa @HH (aa @Iu (aa @Iv (aa @Mx (aa @ae0 (aa @Ze (aa @Ot (aa @zN @rL)))))))))))))))))))))))))))))
end
section
open Go.RowKit
section
variable {P:Program}{fn:Func}
theorem Leaves.mono{tmps:Array Value}{R R' : Ending->World->Prop}(hr:∀ e w,R e w->R' e w):∀ (ds:List Deferred) (u:FrameMode) (w:World),Leaves P fn tmps R ds u w->Leaves P fn tmps R' ds u w
 |[],.run,_,h=>h.elim
 |[],.returning,_,h=>by obtain⟨v,h1,h2⟩:=h;exact⟨v,h1,hr _ _ h2⟩
 |[],.panicking c,_,h=>hr _ _ h
 |d::ds,u,w,h=>by
  obtain⟨h0,fv,cap,f,args,h1,h2,h3⟩:=h;refine⟨h0,fv,cap,f,args,h1,h2,h3.mono λe u' w' he=>?_⟩;cases e with
  |returned v=>exact Leaves.mono hr ds _ _ he
  |panicked c=>exact Leaves.mono hr ds _ _ he
  |outgrown=>exact hr _ _ he
theorem By{R R' : Ending->World->Prop}(hr:∀ e w,R e w->R' e w)(e:Exit)(a:Act)(w:World)(h:bodyPostD P fn R e a w):bodyPostD P fn R' e a w:=by
 cases e with
 |normal=>exact Leaves.mono hr _ _ _ h
 |ret=>exact Leaves.mono hr _ _ _ h
 |panic c=>exact Leaves.mono hr _ _ _ h
 |outgrown=>exact hr _ _ h
 |exit i=>exact h.elim
 |goto l=>exact h.elim
theorem Ends.back{W W' : World}{bs bs' : List Nat}{pins:List (Nat×Value)}{Rr:World->List Nat->SV->Hp->Prop}{Rp:List PanicEntry->Hp->Prop}{e:Ending}{w:World}(he:Ext W bs W' bs')(h:Ends W' bs' pins Rr Rp e w):Ends W bs pins Rr Rp e w:=by
 cases e with
 |returned v=>obtain⟨W'',bs'',E,F,x,h',hx,r⟩:=h;exact⟨W'',bs'',E,F,x,h',he.trans hx,r⟩
 |panicked c=>obtain⟨W'',bs'',E,F,h',hx,r⟩:=h;exact⟨W'',bs'',E,F,h',he.trans hx,r⟩
 |outgrown=>exact h.elim
def iR(P:Program)(fn:Func)(nt:Nat)(pins:List (Nat×Value))(Rr:World->List Nat->SV->Hp->Prop)(Rp:List PanicEntry->Hp->Prop)(W:World)(bs:List Nat)(c:Code)(σ:St):Prop:=
 ∀ a w,Sat W bs nt ⟨[],pins⟩ σ a w->c.wp P (bodyPostD P fn (Ends W bs pins Rr Rp)) a w
variable {nt:Nat}{pins:List (Nat×Value)}{Rr:World->List Nat->SV->Hp->Prop}{Rp:List PanicEntry->Hp->Prop}{W:World}{bs:List Nat}{σ:St}
theorem FF{f:FuncId}{c:Code}{args:Array Value}{w:World}(hf:P.funcs[f]?=some fn)(hb:fn.body=some c)
  (hsat:Sat W bs nt ⟨[],pins⟩ σ { tmps:=args++Array.replicate (fn.ntmps-args.size) undef,defers:=[] } w)
  (h:iR P fn nt pins Rr Rp W bs c σ):Calls P f args w (Ends W bs pins Rr Rp):=calls_of_wp_defers hf hb (h _ w hsat)
theorem rY{W' : World}{bs' : List Nat}{σ' : St}{a:Act}{w:World}{ds:List Deferred}(hs:Sat W' bs' nt ⟨ds,pins⟩ σ' a w)(hx:Ext W bs W' bs')(hq:(kB P W' bs' σ' fn.results.toList).1/\Rr W' bs' (mF (kB P W' bs' σ' fn.results.toList).2) σ'.h) :
  ∃ v,(results fn a.tmps).run P w=.ok v w/\Ends W bs pins Rr Rp (.returned v) w:=by
 obtain⟨E,F,hφ,hh,hp⟩:=hs.ex;exact⟨_,lr hφ hh hq.1,W',bs',E,F,_,_,hx,hq.2,rfl,hh,hp⟩
theorem iR.seq{x y:Code}(h:Wp P W bs nt ⟨[],pins⟩ x (Th (λW' bs' σ' => iR P fn nt pins Rr Rp W' bs' y σ') (Fin P fn.results.toList Rr Rp)) σ):iR P fn nt pins Rr Rp W bs (.seq x y) σ:=λa w hs=>
 wp_seq (wp_mono (h a w hs) λe a' w' ⟨W',bs',σ',he,hq,hs'⟩=>by
  cases e with
  |normal=>exact wp_mono (hq a' w' hs') λe a w h=>By (λe w=>Ends.back he) e a w h
  |ret=>
   have hd:=hs'.defers
   show Leaves P fn a'.tmps _ a'.defers .returning w'
   rw[hd]
   exact rY hs' he hq
  |panic c=>
   have hd:=hs'.defers
   show Leaves P fn a'.tmps _ a'.defers (.panicking c) w'
   rw[hd]
   obtain⟨E,F,hφ,hh,hp⟩:=hs'.ex
   exact⟨W',bs',E,F,_,he,hq,hh,hp⟩
  |exit i=>exact hq.elim
  |goto l=>exact hq.elim
  |outgrown=>exact hq.elim)
theorem iR.wp{c:Code}(h:Wp P W bs nt ⟨[],pins⟩ c (Fin P fn.results.toList Rr Rp) σ):iR P fn nt pins Rr Rp W bs c σ:=λa w hs=>
 wp_mono (h a w hs) λe a' w' ⟨W',bs',σ',he,hq,hs'⟩=>by
  have hd:=hs'.defers;cases e with
  |normal=>show Leaves P fn a'.tmps _ a'.defers .returning w';rw[hd];exact rY hs' he hq
  |ret=>show Leaves P fn a'.tmps _ a'.defers .returning w';rw[hd];exact rY hs' he hq
  |panic c=>
   show Leaves P fn a'.tmps _ a'.defers (.panicking c) w';rw[hd];obtain⟨E,F,hφ,hh,hp⟩:=hs'.ex;exact⟨W',bs',E,F,_,he,hq,hh,hp⟩
  |exit i=>exact hq.elim
  |goto l=>exact hq.elim
  |outgrown=>exact hq.elim
def lN(w:World):List Value->List Nat->List TypeId->List (List Value)->Prop
 |[],[],[],[]=>True
 |u::us,b::bl,T::Ts,vs::vss=>u=.pointer (some ⟨b,0,none⟩)/\w.heap[b]?=some (.cells vs.toArray T (0,0))/\lN w us bl Ts vss
 |_,_,_,_=>False
def G7(P:Program):List TypeId->List (List Value)->List Value->Prop
 |[],[],[]=>True
 |T::Ts,cs::css,v::vs=>((ts P T=some cs.length/\ta P T=some true/\v=.agg cs.toArray)\/(ta P T=some false/\cs=[v]))/\G7 P Ts css vs
 |_,_,_=>False
def XV:List Value->Value
 |[v]=>v
 |l=>.tuple l.toArray
structure CatchC (P:Program)(f:FuncId) where
 Ts:List TypeId
 enters:∀ args w,(callFunc f args).run P w=.ok (.enter f args) w
 pre:List (List Value)->Value->Prop
 out:List (List Value)->Value->List (List Value)
 pO:List (List Value)->Value->List Value
 vals_ok:∀ vss pv,pre vss pv->G7 P Ts (out vss pv) (pO vss pv)
 quiet:∀ (w:World) (us:List Value),us.length=Ts.length->CallsD P f us.toArray .returning w λe u' w' => (∃ v,e=.returned v)/\u' = .returning/\an w [] w'
 caught:∀ (w:World) (us:List Value) (bl:List Nat) (vss:List (List Value)) (pv:Value),lN w us bl Ts vss->bl.Nodup->(∀ b∈bl,b<w.heap.size)->pre vss pv ->
  CallsD P f us.toArray (.panicking [{ v:=pv,recovered:=false }]) w λe u' w' => (∃ v,e=.returned v)/\u' = .panicking [{ v:=pv,recovered:=true }]/\an w bl w' /\ lN w' us bl Ts (out vss pv)
def yi:List Nat->List TypeId->List ResultVar
 |t::tl,T::Ts=>.cell t T::yi tl Ts
 |_,_=>[]
theorem lN.run{tmps:Array Value}{w:World}:∀ {tl:List Nat} {us:List Value} {bl:List Nat} {Ts:List TypeId} {css:List (List Value)} {vs:List Value},lN w us bl Ts css->G7 P Ts css vs->tl.map (λt=>tmps.getD t undef)=us ->
  ((yi tl Ts).mapM (oh { tmps:=tmps,defers:=[] })).run P w=.ok vs w
 |[],us,bl,Ts,css,vs,h1,h2,h3=>by
  subst h3
  match bl,Ts,css,vs,h1,h2 with
  |[],[],[],[],_,_=>rfl
 | t::tl,us,bl,Ts,css,vs,h1,h2,h3=>by
  subst h3
  match bl,Ts,css,vs,h1,h2 with
  | b::bl,T::Ts,cs::css,v::vs,h1,h2=>
   obtain⟨e1,e2,e3⟩:=h1;obtain⟨f1,f2⟩:=h2
   replace e1:tmps.getD t undef=_:=e1
   have ih:=lN.run (tmps:=tmps) (tl:=tl) e3 f2 rfl;have one:(oh { tmps:=tmps,defers:=[] } (.cell t T)).run P w=.ok v w:=by
    simp only[oh];rw[e1];have hc:∀ j x,cs[j]?=some x->w.cell? ⟨b,0+j,none⟩=some x:=λj x hx=>by
     simp[World.cell?,e2,hx]
    rcases f1 with ⟨g1,g2,rfl⟩|⟨g2,rfl⟩
    ·have:=iN (P:=P) (w:=w) g1 g2 ⟨b,0,none⟩ cs rfl (λj x hx=>by rw[Addr.add_lit];exact hc j x hx);simpa [asAddr] using this
    ·have:=iO (P:=P) (w:=w) g2 ⟨b,0,none⟩ v (by simpa using hc 0 v rfl);simpa [asAddr] using this
   simp only[yi,List.mapM_cons];simp[one,ih]
theorem HK{tmps:Array Value}{w:World}{tl:List Nat}{us:List Value}{bl:List Nat}{Ts:List TypeId}{css:List (List Value)}{vs:List Value}(h1:lN w us bl Ts css)(h2:G7 P Ts css vs)(h3:tl.map (λt=>tmps.getD t undef)=us)
  (hr:fn.results.toList=yi tl Ts):(results fn tmps).run P w=.ok (XV vs) w:=by
 have h4:=lN.run (P:=P) (tmps:=tmps) h1 h2 h3;have h2:results fn tmps=((Functor.map List.toArray (fn.results.toList.mapM (oh { tmps:=tmps,defers:=[] }))) >>= λ(vs:Array Value)=>(pure (if h:vs.size=1 then vs[0] else .tuple vs):Sem Value)):=by
  rw[<- Array.mapM_eq_mapM_toList];unfold results
  congr 1
 rw[h2,hr];simp only[map_eq_pure_bind,bind_assoc,pure_bind];simp[h4]
 match vs with
 |[]=>simp[XV]
 |[x]=>simp[XV]
 |x::y::r=>simp[XV]
def R6(σ:St):List Nat->List Nat->List TypeId->List (List Value)->Prop
 |[],[],[],[]=>True
 |t::tl,k::ks,T::Ts,vs::vss=>σ.φ t=.is (.own k 0)/\σ.h k=some (.cells T (vs.map .v))/\R6 σ tl ks Ts vss
 |_,_,_,_=>False
def aep{f:FuncId}(C:CatchC P f)(rs:List ResultVar)(tl ks:List Nat)(Rr:World->List Nat->SV->Hp->Prop)(Rp:List PanicEntry->Hp->Prop):mf
 |.normal,W,bs,σ|.ret,W,bs,σ=>(kB P W bs σ rs).1/\Rr W bs (mF (kB P W bs σ rs).2) σ.h
 |.panic c,W,bs,σ=>∃ pv vss,c=[{ v:=pv,recovered:=false }]/\R6 σ tl ks C.Ts vss/\C.pre vss pv/\Rr W bs (.v (XV (C.pO vss pv))) (dropKeys σ.h ks)
 |_,_,_,_=>False
def Sj(f:FuncId)(us:List Value):Deferred:=⟨.fn (.func f) us.toArray,#[]⟩
theorem jw.tmp{E:Nat->Value}{φ:Fr}{a:Act}{t:Nat}{x:SV}(h:jw E φ a)(ht:φ t=.is x):a.tmps.getD t undef=den E x:=by
 have:=h t;rw[ht]at this;exact this
theorem BC{σ:St}{E:Nat->Value}{F:Nat->List Nat}{a:Act}{w:World}(hφ:jw E σ.φ a)(hh:aj W bs E F σ.h w):∀ {tl ks:List Nat} {Ts:List TypeId} {vss:List (List Value)},R6 σ tl ks Ts vss->ks.Nodup ->
  lN w (ks.map E) (ks.flatMap F) Ts vss/\tl.map (λt=>a.tmps.getD t undef)=ks.map E/\(ks.flatMap F).Nodup/\(∀ b∈ks.flatMap F,b<w.heap.size)/\(∀ k∈ks,∃ e,σ.h k=some e)
 |[],[],[],[],_,_=>⟨trivial,rfl,List.nodup_nil,sI,sI⟩
 | t::tl,k::ks,T::Ts,vs::vss,h,hn=>by
  obtain⟨h1,h2,h3⟩:=h;obtain⟨hk,hn⟩:=List.nodup_cons.1 hn;obtain⟨i1,i2,i3,i4,i5⟩:=BC hφ hh h3 hn;obtain⟨b,hu,hF,hb⟩:=hh.ent k _ h2;have hd:ai E (vs.map .v)=vs:=by
   rw[bC,List.map_map];exact (List.map_congr_left (λ_ _=>rfl)).trans (List.map_id vs)
  rw[hd]at hb;have e1:a.tmps.getD t undef=E k:=by
   rw[hφ.tmp h1,den,hu];rfl
  refine⟨?_,?_,?_,?_,?_⟩
  ·rw[List.map_cons,List.flatMap_cons,hF];exact⟨hu,hb,i1⟩
  ·rw[List.map_cons,List.map_cons,e1,i2]
  ·rw[List.flatMap_cons,hF];refine List.nodup_cons.2 ⟨λhm=>?_,i3⟩;obtain⟨j,hj,hbj⟩:=List.mem_flatMap.1 hm;obtain⟨e,he⟩:=i5 j hj;exact hh.apart k j _ e (λe' => hk (e' ▸ hj)) h2 he b (by rw[hF];simp) hbj
  ·intro c hc;rw[List.flatMap_cons]at hc;rcases List.mem_append.1 hc with hc|hc
   ·exact hh.lt k _ h2 c hc
   ·exact i4 c hc
  ·intro j hj;rcases List.mem_cons.1 hj with rfl|hj
   ·exact⟨_,h2⟩
   ·exact i5 j hj
theorem an.nil{W w w' : World}{bs:List Nat}(h:an W bs w)(h' : an w [] w'):an W bs w' := h.trans h' λb hb=>by cases hb
theorem lN.keeps{w w' : World}(h:an w [] w'):∀ {us:List Value} {bl:List Nat} {Ts:List TypeId} {vss:List (List Value)},lN w us bl Ts vss->(∀ b∈bl,b<w.heap.size)->lN w' us bl Ts vss
 |[],[],[],[],_,_=>trivial
 |u::us,b::bl,T::Ts,vs::vss,hl,hlt=>⟨hl.1,by rw[h.block b (hlt b sI) sI];exact hl.2.1,lN.keeps h hl.2.2 λc hc=>hlt c (by simp[hc])⟩
theorem iR.defer{f:FuncId}(C:CatchC P f)(tl ks:List Nat){id d:Nat}{y:Code}{T1 T2:TypeId}{p1 p2:String}{a1 a2:Array Edge}
  (hks:ks.Nodup) (hrs:fn.results.toList=yi tl C.Ts) (hd:d<nt) (hlen:tl.length=C.Ts.length) (hlen2:ks.length=C.Ts.length)
  (hcap:∀ p∈tl.zip ks,σ.φ p.1=.is (.own p.2 0)) (hcel:∀ k∈ks,∃ T vs,σ.h k=some (.cells T vs))
  (h:∀ us:List Value,us.length=C.Ts.length->Wp P W bs nt ⟨[Sj f us],ks.zip us++pins⟩ y (aep C fn.results.toList tl ks Rr Rp) ⟨σ.n+2,bu σ.φ d .any,σ.h⟩) :
  iR P fn nt pins Rr Rp W bs (.seq (.region id #[{ dst:=some d,op:=.makeFunc (.func f) #[] (tl.map Operand.tmp).toArray,type:=T1,pos:=p1,after:=a1,guard:=none },{ dst:=none,op:=.defer { callee:=.value (.tmp d),args:=#[],argTypes:=#[] },type:=T2,pos:=p2,after:=a2,guard:=none }] false) y) σ:=λa w hs=>by
 obtain⟨E,F,hφ,hh,hp⟩:=hs.ex;have hbl:∀ k∈ks,∃ b,E k=.pointer (some ⟨b,0,none⟩):=λk hk=>by
  obtain⟨T,vs,he⟩:=hcel k hk;obtain⟨b,hu,_⟩:=hh.ent k _ he;exact⟨b,hu⟩
 have htv:∀ (tl ks:List Nat),tl.length=ks.length->(∀ p∈tl.zip ks,σ.φ p.1=.is (.own p.2 0))->(∀ k∈ks,∃ b,E k=.pointer (some ⟨b,0,none⟩))->tl.map (λt=>a.tmps.getD t undef)=ks.map E:=by
  intro tl
  induction tl with
  |nil=>intro ks hl _ _;cases ks with
   |nil=>rfl
   |cons _ _=>cases hl
  | cons t tl ih=>
   intro ks hl hc hb;cases ks with
   |nil=>cases hl
   |cons k ks=>
    have e1:=hφ.tmp (hc (t,k) sI);obtain⟨b,he⟩:=hb k sI;rw[List.map_cons,List.map_cons,e1,den,he,ih ks (by simpa using hl) (λp hp=>hc p (by simp[hp])) λj hj=>hb j (by simp[hj])];rfl
 have hmem:∀ (tl ks:List Nat),tl.length=ks.length->∀ k∈ks,∃ t∈tl,(t,k)∈tl.zip ks:=by
  intro tl
  induction tl with
  |nil=>intro ks hl k hk;cases ks with
   |nil=>cases hk
   |cons _ _=>cases hl
  | cons t tl ih=>
   intro ks hl k hk;cases ks with
   |nil=>cases hk
   | cons j ks=>
    rcases List.mem_cons.1 hk with rfl|hk
    ·exact⟨t,sI,sI⟩
    ·obtain⟨t',h1,h2⟩:=ih ks (by simpa using hl) k hk;exact⟨t',by simp[h1],by simp[h2]⟩
 have htu:tl.map (λt=>a.tmps.getD t undef)=ks.map E:=htv tl ks oM hcap hbl;have hs2:Sat W bs nt ⟨[Sj f (ks.map E)],ks.zip (ks.map E)++pins⟩ ⟨σ.n+2,bu σ.φ d .any,σ.h⟩ { tmps:=a.tmps.setIfInBounds d (.func (.func f) #[] (ks.map E).toArray),defers:=[Sj f (ks.map E)] } w:=by
  refine⟨⟨E,F,λt=>?_,hh,λp hp' => ?_⟩,by simp[hs.size],rfl,λp hp' => ?_,λt k hk=>?_,λj e he=>?_⟩
  ·show fits E (bu σ.φ d .any t) ((a.tmps.setIfInBounds d (.func (.func f) #[] (ks.map E).toArray)).getD t undef);by_cases ht:t=d
   ·subst ht;rw[ah];trivial
   ·rw[al _ _ ht];have:=hφ t
    rwa [show (a.tmps.setIfInBounds d (.func (.func f) #[] (ks.map E).toArray)).getD t undef=a.tmps.getD t undef from by
     rw[Array.getD_eq_getD_getElem?,Array.getD_eq_getD_getElem?,Array.getElem?_setIfInBounds_ne (λe=>ht e.symm)]]
  ·rcases List.mem_append.1 hp' with hp'|hp'
   ·have:∀ (l:List Nat) (p:Nat×Value),p∈l.zip (l.map E)->E p.1=p.2:=by
     intro l
     induction l with
     |nil=>intro p hp;cases hp
     |cons x l ih=>
      intro p hp;rcases List.mem_cons.1 hp with rfl|hp
      ·rfl
      ·exact ih p hp
    exact this ks p hp'
   ·exact hp p hp'
  ·rcases List.mem_append.1 hp' with hp'|hp'
   ·have hk:p.1∈ks:=(List.of_mem_zip hp').1;obtain⟨t,_,ht⟩:=hmem tl ks oM p.1 hk;have:=hs.fk t p.1 (by rw[hcap _ ht];simp[FV.keys,SV.keys]);show p.1 / 8<σ.n+2;omega
   ·have:=hs.pk p hp';show p.1 / 8<σ.n+2;omega
  ·have hk:k∈(bu σ.φ d .any t).keys:=hk;by_cases ht:t=d
   ·subst ht;rw[ah]at hk;simp[FV.keys]at hk
   ·rw[al _ _ ht]at hk;have:=hs.fk t k hk;show k / 8<σ.n+2;omega
  ·obtain⟨h1,h2⟩:=hs.hk j e he;exact⟨by show j / 8<σ.n+2;omega,λi hi=>by have:=h2 i hi;show i / 8<σ.n+2;omega⟩
 have h2:=h (ks.map E) (by simp[hlen2]) _ w hs2;have hda:d<a.tmps.size:=by rw[hs.size];exact hd
 have hev:(List.map (a.eval ∘ Operand.tmp) tl)=ks.map E:=by rw[<- htu];rfl
 refine wp_seq (wp_region ?_);simp[wpOps,go_sem,Exit.then];left;left;rw[if_pos hda,hev,hs.defers];refine wp_mono h2 λe a' w' ⟨W',bs',σ',he,hq,hs'⟩=>?_
 have hds:=hs'.defers;have hlu:(ks.map E).length=C.Ts.length:=by simp[hlen2]
 have still:∀ {E' : Nat->Value} {F' : Nat->List Nat} {h' : Hp} {w'' : World},aj W' bs' E' F' h' w' -> bU (λ_=>True) h' -> an w' [] w'' -> aj W' bs' E' F' h' w'' := λ{E' F' h' w''} hh' hK hk=>
  hh'.mD hK [] (λ_=>none) (λk hk=>by cases hk) (λ_ _=>rfl) (λj e he=>by cases he) (λi j e e' _ he=>by cases he) (λ_ _ _ _=>rfl) (λj=>by simp) (by simpa using hk)
 have all:∀ {h' : Hp},bU (· / 8<σ'.n) h' -> bU (λ_=>True) h' := λhK j x hx=>⟨trivial,λ_ _=>trivial⟩
 have plain:∀ hq' : (kB P W' bs' σ' fn.results.toList).1/\Rr W' bs' (mF (kB P W' bs' σ' fn.results.toList).2) σ'.h,Leaves P fn a'.tmps (Ends W bs pins Rr Rp) a'.defers .returning w' := λhq' => by
  rw[hds];refine leaves_cons (f:=f) (args:=(ks.map E).toArray) sI (by simp[go_sem,C.enters]) ?_;refine (C.quiet w' _ hlu).mono λe u' w'' ⟨⟨v,hv⟩,hu,hk⟩=>?_
  subst hv;subst hu;obtain⟨E',F',hφ',hh',hp'⟩:=hs'.ex;have hh'' := still hh' (all hs'.hk) hk;exact⟨_,lr hφ' hh'' hq'.1,W',bs',E',F',_,_,he,hq'.2,rfl,hh'',λp hp=>hp' p (List.mem_append_right _ hp)⟩
 cases e with
 |normal=>exact plain hq
 |ret=>exact plain hq
 |exit i=>exact hq.elim
 |goto l=>exact hq.elim
 |outgrown=>exact hq.elim
 | panic c=>
  obtain⟨pv,vss,rfl,hcap',hpre,hR⟩:=hq;show Leaves P fn a'.tmps (Ends W bs pins Rr Rp) a'.defers (.panicking _) w';rw[hds];refine leaves_cons (f:=f) (args:=(ks.map E).toArray) sI (by simp[go_sem,C.enters]) ?_;obtain⟨E',F',hφ',hh',hp'⟩:=hs'.ex;obtain⟨g1,g2,g3,g4,g5⟩:=BC hφ' hh' hcap' hks
  have hEE:ks.map E' = ks.map E:=by
   refine List.map_congr_left λk hk=>?_
   have:∀ (l:List Nat),k∈l->(k,E k)∈l.zip (l.map E):=by
    intro l
    induction l with
    |nil=>intro h;cases h
    |cons x l ih=>
     intro h;rcases List.mem_cons.1 h with rfl|h
     ·simp
     ·simp[ih h]
   exact hp' (k,E k) (List.mem_append_left _ (this ks hk))
  rw[hEE]at g1 g2;refine (C.caught w' _ _ vss pv g1 g3 g4 hpre).mono λe u' w'' ⟨⟨v,hv⟩,hu,hk,hl⟩=>?_
  subst hv;subst hu;have hrun:=HK (P:=P) (fn:=fn) hl (C.vals_ok vss pv hpre) g2 hrs;have hh'' : aj W' bs' E' F' (dropKeys σ'.h ks) w'' :=
   hh'.mD (all hs'.hk) ks (λ_=>none) g5 (λ_ _=>rfl) (λj e he=>by cases he) (λi j e e' _ he=>by cases he) (λ_ _ _ _=>rfl) (λj=>by simp[dropKeys]) hk
  exact⟨_,hrun,W',bs',E',F',_,_,he,hR,rfl,hh'',λp hp=>hp' p (List.mem_append_right _ hp)⟩
end
def mq(j:Nat):List TypeId->List (Nat×FV)
 |[]=>[]
 |_::r=>(j,.is (.own j 0))::mq (j+1) r
def r8(j:Nat):List TypeId->List (List Value)->List (Nat×aZ)
 |T::Ts,vs::vss=>(j,.cells T (vs.map .v))::r8 (j+1) Ts vss
 |_,_=>[]
def aeo(h:Hp):Nat->List TypeId->List (List Value)->Prop
 |_,[],[]=>True
 |j,T::Ts,vs::vss=>h j=some (.cells T (vs.map .v))/\aeo h (j+1) Ts vss
 |_,_,_=>False
def PY(j:Nat):List Value->List (Nat×Value)
 |[]=>[]
 |u::r=>(j,u)::PY (j+1) r
theorem yz{p:Nat×FV}:∀ {j:Nat} {Ts:List TypeId},p∈mq j Ts->∃ i,i<Ts.length/\p=(j+i,.is (.own (j+i) 0))
 |j,[],h=>by cases h
 | j,T::r,h=>by
  rcases List.mem_cons.1 h with rfl|h
  ·exact⟨0,sI,rfl⟩
  ·obtain⟨i,h1,rfl⟩:=yz h;exact⟨i+1,by simpa using h1,by rw[show j+1+i=j+(i+1) by omega]⟩
theorem yA{p:Nat×aZ}:∀ {j:Nat} {Ts:List TypeId} {vss:List (List Value)},p∈r8 j Ts vss->∃ i T vs,Ts[i]?=some T/\vss[i]?=some vs/\p=(j+i,.cells T (vs.map .v))
 |j,[],vss,h=>by cases vss<;>cases h
 |j,T::r,[],h=>by cases h
 | j,T::r,vs::vss,h=>by
  rcases List.mem_cons.1 h with rfl|h
  ·exact⟨0,T,vs,rfl,rfl,rfl⟩
  ·obtain⟨i,T',vs',h1,h2,rfl⟩:=yA h;exact⟨i+1,T',vs',by simpa using h1,by simpa using h2,by rw[show j+1+i=j+(i+1) by omega]⟩
theorem CM{p:Nat×Value}:∀ {j:Nat} {us:List Value},p∈PY j us->∃ i,us[i]?=some p.2/\p.1=j+i
 |j,[],h=>by cases h
 | j,u::r,h=>by
  rcases List.mem_cons.1 h with rfl|h
  ·exact⟨0,rfl,rfl⟩
  ·obtain⟨i,h1,h2⟩:=CM h;exact⟨i+1,by simpa using h1,oM⟩
section
variable {P:Program}
theorem lN.at{w:World}:∀ {us:List Value} {bl:List Nat} {Ts:List TypeId} {vss:List (List Value)},lN w us bl Ts vss->∀ {i:Nat} {T:TypeId} {vs:List Value},Ts[i]?=some T->vss[i]?=some vs ->
  ∃ b,bl[i]?=some b/\us[i]?=some (.pointer (some ⟨b,0,none⟩))/\w.heap[b]?=some (.cells vs.toArray T (0,0))
 |u::us,b::bl,T::Ts,vs::vss,h,0,T',vs',h1,h2=>by
  simp at h1 h2;subst h1;subst h2;exact⟨b,rfl,by rw[h.1];rfl,h.2.1⟩
 |u::us,b::bl,T::Ts,vs::vss,h,i+1,T',vs',h1,h2=>by
  simpa using h.2.2.at (i:=i) (T:=T') (vs:=vs') (by simpa using h1) (by simpa using h2)
 |[],[],[],[],_,i,T,vs,h1,_=>by simp at h1
theorem lN.len{w:World}:∀ {us:List Value} {bl:List Nat} {Ts:List TypeId} {vss:List (List Value)},lN w us bl Ts vss->us.length=Ts.length/\bl.length=Ts.length/\vss.length=Ts.length
 |[],[],[],[],_=>⟨rfl,rfl,rfl⟩
 |u::us,b::bl,T::Ts,vs::vss,h=>by
  obtain⟨h1,h2,h3⟩:=lN.len h.2.2;simp[h1,h2,h3]
theorem NB(E:Nat->Value)(vs:List Value):ai E (vs.map .v)=vs:=by
 rw[bC,List.map_map];exact (List.map_congr_left (λ_ _=>rfl)).trans (List.map_id vs)
def σL(Ts:List TypeId)(vss:List (List Value)):St:=⟨1,eA (mq 0 Ts),dS (r8 0 Ts vss)⟩
theorem abN{w:World}{nt m:Nat}{us:List Value}{bl:List Nat}{Ts:List TypeId}{vss:List (List Value)}(h:lN w us bl Ts vss)(hn:bl.Nodup)(hlt:∀ b∈bl,b<w.heap.size)(h8:us.length<=7)(hnt:us.length+m=nt) :
  Sat w bl nt ⟨[],PY 0 us⟩ (σL Ts vss) { tmps:=us.toArray++Array.replicate m undef,defers:=[] } w:=by
 obtain⟨l1,l2,l3⟩:=h.len;have hF:∀ {i:Nat} {b:Nat},bl[i]?=some b->((bl[i]?).toList:List Nat)=[b]:=λh=>by rw[h];rfl
 refine⟨⟨λj=>us.getD j undef,λj=>(bl[j]?).toList,λt=>?_,⟨λj e he=>?_,λj e he c hc=>?_,λj e he c hc=>?_,λi j e e' hij hi hj c hc=>?_,an.refl w _⟩,λp hp=>?_⟩,by simp;omega,rfl,λp hp=>?_,λt k hk=>?_,λj e he=>?_⟩
 ·show fits _ (eA (mq 0 Ts) t) _;rcases pb (L:=mq 0 Ts) t with h0|⟨p,hp,h1,h2⟩
  ·rw[h0];trivial
  ·rw[h2];obtain⟨i,hi,rfl⟩:=yz hp;simp only[Nat.zero_add]at h1;subst h1;have hti:i<Ts.length:=hi;obtain⟨b,hb,hu,_⟩:=h.at (i:=i) (List.getElem?_eq_getElem hti) (List.getElem?_eq_getElem (by omega:i<vss.length));simp only[Nat.zero_add,fits,den]
   rw[Array.getD_eq_getD_getElem?,Array.getElem?_append_left (by simp;omega)];simp[hu,base,dt]
 ·obtain⟨i,T,vs,h1,h2,h3⟩:=yA (eB he);simp only[Nat.zero_add,Prod.mk.injEq]at h3;obtain⟨rfl,rfl⟩:=h3;obtain⟨b,hb,hu,hh⟩:=h.at h1 h2;exact⟨b,by simp[hu],hF hb,by rw[NB];exact hh⟩
 ·simp only[Option.mem_toList]at hc;exact hlt c (List.mem_of_getElem? hc)
 ·simp only[Option.mem_toList]at hc;exact .inr (List.mem_of_getElem? hc)
 ·simp only[Option.mem_toList]at hc ⊢;intro hc';have h1:=List.getElem?_eq_some_iff.1 hc;have h2:=List.getElem?_eq_some_iff.1 hc';obtain⟨a1,a2⟩:=h1;obtain⟨b1,b2⟩:=h2;have hpw:=List.pairwise_iff_getElem.1 hn;rcases Nat.lt_or_gt_of_ne hij with hlt'|hlt'
  ·exact hpw i j a1 b1 hlt' (a2.trans b2.symm)
  ·exact hpw j i b1 a1 hlt' (b2.trans a2.symm)
 ·obtain⟨i,h1,h2⟩:=CM hp;simp only[Nat.zero_add]at h2;rw[h2];simp[h1]
 ·obtain⟨i,h1,h2⟩:=CM hp;have:=(List.getElem?_eq_some_iff.1 h1).1;show p.1 / 8<1;omega
 ·have hk:k∈(eA (mq 0 Ts) t).keys:=hk;rcases pb (L:=mq 0 Ts) t with h0|⟨p,hp,h1,h2⟩
  ·rw[h0]at hk;simp[FV.keys]at hk
  ·rw[h2]at hk;obtain⟨i,hi,rfl⟩:=yz hp;simp[FV.keys,SV.keys]at hk;show k / 8<1;omega
 ·obtain⟨i,T,vs,h1,h2,h3⟩:=yA (eB he);simp only[Nat.zero_add,Prod.mk.injEq]at h3;obtain⟨rfl,rfl⟩:=h3;have:=(List.getElem?_eq_some_iff.1 h1).1;refine⟨by show j / 8<1;omega,λi hi=>?_⟩;simp only[aZ.keys,aR]at hi;cases hi
theorem Sat.put{W:World}{bs:List Nat}{nt:Nat}{ds:Aux}{σ:St}{a:Act}{w:World}(h:Sat W bs nt ds σ a w)(t:Nat)(v:Value)(ht:t<nt):Sat W bs nt ds ⟨σ.n,bu σ.φ t (.is (.v v)),σ.h⟩ (a.put (some t) v) w:=by
 obtain⟨⟨E,F,hf,hs,hp⟩,h1,h2,h3,h4,h5⟩:=h;refine⟨⟨E,F,λs=>?_,hs,hp⟩,by simp[Act.put,h1],h2,h3,λs k hk=>?_,h5⟩
 ·show fits E (bu σ.φ t (.is (.v v)) s) ((a.tmps.setIfInBounds t v).getD s undef);by_cases hst:s=t
  ·subst hst;rw[ah,Array.getD_eq_getD_getElem?,Array.getElem?_setIfInBounds_self_of_lt oM];rfl
  ·rw[al _ _ hst,Array.getD_eq_getD_getElem?,Array.getElem?_setIfInBounds_ne (λe=>hst e.symm),<- Array.getD_eq_getD_getElem?];exact hf s
 ·have hk:k∈(bu σ.φ t (.is (.v v)) s).keys:=hk;by_cases hst:s=t
  ·subst hst;rw[ah]at hk;simp[FV.keys,SV.keys]at hk
  ·rw[al _ _ hst]at hk;exact h4 s k hk
def σR(σ:St)(e x:Nat)(v:Value):St:=⟨σ.n,bu (bu σ.φ e (.is (.v v))) x (.is (.v v)),σ.h⟩
theorem Sat.ajM{W:World}{bs:List Nat}{nt:Nat}{ds:Aux}{σ:St}{a:Act}{w:World}(h:Sat W bs nt ds σ a w)(e x:Nat)(v:Value)(he:e<nt)(hx:x<nt):Sat W bs nt ds (σR σ e x v) ((a.put (some e) v).put (some x) v) w:=
 (h.put e v he).put x v hx
theorem abO{w:World}{nt:Nat}{tmps:Array Value}(h:tmps.size=nt):Sat w [] nt ⟨[],[]⟩ ⟨1,eA [],dS []⟩ { tmps:=tmps,defers:=[] } w:=by
 refine⟨⟨λ_=>undef,λ_=>[],λ_=>trivial,⟨λj e he=>?_,λj e he=>?_,λj e he=>?_,λi j e e' _ he=>?_,an.refl w _⟩,λp hp=>?_⟩,h,rfl,λp hp=>?_,λt k hk=>?_,λj e he=>?_⟩
 ·cases he
 ·cases he
 ·cases he
 ·cases he
 ·cases hp
 ·cases hp
 ·simp[eA,FV.keys]at hk
 ·cases he
theorem lR{f:FuncId}{fn:Func}{id e x:Nat}{T1 T2:TypeId}{p1 p2:String}{a1 a2:Array Edge}{rest:Code}{nt:Nat}(w:World)(us:List Value)
  (hf:P.funcs[f]?=some fn) (hb:fn.body=some (.seq (.region id #[{ dst:=some e,op:=.call { callee:=.builtin .recover,args:=#[],argTypes:=#[] },type:=T1,pos:=p1,after:=a1,guard:=none },{ dst:=some x,op:=.assign (.tmp e),type:=T2,pos:=p2,after:=a2,guard:=none }] false) rest))
  (hr:fn.results.toList=[]) (he:e<nt) (hx:x<nt) (hnt:us.length+(fn.ntmps-us.length)=nt)
  (h:Wp P w [] nt ⟨[],[]⟩ rest (Fin P [] (λ_ _ _ _=>True) (λ_ _=>False)) (σR ⟨1,eA [],dS []⟩ e x .nilIface)) :
  CallsD P f us.toArray .returning w λe u' w' => (∃ v,e=.returned v)/\u' = .returning/\an w [] w' := by
 refine callsD_of_wpS hf hb λc₀ cs hu=>wpS_seq (wpS_region ?_)
 have hs0:Sat w [] nt ⟨[],[]⟩ ⟨1,eA [],dS []⟩ { tmps:=us.toArray++Array.replicate (fn.ntmps-us.length) undef,defers:=[] } w:=
  abO (by simp;omega)
 have hs1:=hs0.ajM e x .nilIface he hx;have h1:=h _ w hs1;simp[wpOpsS,go_sem,recoverD,hu,Exit.thenS];rw[if_pos oM];have hc:∀ u,c₀.mode=u->c₀::cs={ c₀ with mode:=u }::cs:=λu hu=>by subst hu;rfl
 refine wpS_of_wp (wp_mono h1 λe' a' w' ⟨W',bs',σ',hx',hq,hs'⟩=>?_);obtain⟨⟨E,F,hφ,hh,_⟩,_,hd,_⟩:=hs';have fin:a'.defers=[]/\∃ u',c₀::cs={ c₀ with mode:=u' }::cs/\∃ v,(results fn a'.tmps).run P w' = .ok v w' /\ (∃ v',Ending.returned v=.returned v')/\u' = .returning/\an w [] w' :=
  ⟨hd,_,hc _ hu,_,lr hφ hh (by rw[hr];trivial),⟨_,rfl⟩,rfl,(hh.back hx').keeps⟩
 cases e' with
 |normal=>exact fin
 |ret=>exact fin
 |panic c=>exact hq.elim
 |exit i=>exact hq.elim
 |goto l=>exact hq.elim
 |outgrown=>exact hq.elim
theorem FI{W:World}{bs:List Nat}{E:Nat->Value}{F:Nat->List Nat}{h:Hp}{w:World}(hh:aj W bs E F h w):∀ {j:Nat} {us:List Value} {bl:List Nat} {Ts:List TypeId} {vss:List (List Value)} {w0:World} {vs0:List (List Value)},lN w0 us bl Ts vs0->aeo h j Ts vss->(∀ p∈PY j us,E p.1=p.2)->lN w us bl Ts vss
 |j,[],[],[],[],w0,[],_,_,_=>trivial
 |j,u::us,b::bl,T::Ts,vs::vss,w0,v0::vs0,hl,hc,hp=>by
  obtain⟨h1,h2⟩:=hc;obtain⟨b',hu,hF,hb⟩:=hh.ent j _ h1;have e1:=hp (j,u) (by simp[PY]);simp only at e1;rw[e1,hl.1]at hu;simp only[Value.pointer.injEq,Option.some.injEq,Addr.mk.injEq,and_true]at hu;subst hu;rw[NB]at hb;exact⟨hl.1,hb,FI hh hl.2.2 h2 λp hp' => hp p (by simp[PY,hp'])⟩
 |j,[],[],[],_::_,w0,[],_,hc,_=>hc.elim
 |j,u::us,b::bl,T::Ts,[],w0,v0::vs0,_,hc,_=>hc.elim
theorem kL{f:FuncId}{fn:Func}{id e x:Nat}{T1 T2:TypeId}{p1 p2:String}{a1 a2:Array Edge}{rest:Code}{nt:Nat}{w:World}{us:List Value}{bl:List Nat}{Ts:List TypeId}{vss:List (List Value)}{pv:Value}{out:List (List Value)}
  (hf:P.funcs[f]?=some fn) (hb:fn.body=some (.seq (.region id #[{ dst:=some e,op:=.call { callee:=.builtin .recover,args:=#[],argTypes:=#[] },type:=T1,pos:=p1,after:=a1,guard:=none },{ dst:=some x,op:=.assign (.tmp e),type:=T2,pos:=p2,after:=a2,guard:=none }] false) rest))
  (hr:fn.results.toList=[]) (he:e<nt) (hx:x<nt) (hnt:us.length+(fn.ntmps-us.length)=nt) (hl:lN w us bl Ts vss) (hn:bl.Nodup) (hlt:∀ b∈bl,b<w.heap.size) (h8:us.length<=7)
  (h:∀ us:List Value,us.length=Ts.length->Wp P w bl nt ⟨[],PY 0 us⟩ rest (Fin P [] (λ_ _ _ h=>aeo h 0 Ts out) (λ_ _=>False)) (σR (σL Ts vss) e x pv)) :
  CallsD P f us.toArray (.panicking [{ v:=pv,recovered:=false }]) w λe u' w' => (∃ v,e=.returned v)/\u' = .panicking [{ v:=pv,recovered:=true }]/\an w bl w' /\ lN w' us bl Ts out:=by
 refine callsD_of_wpS hf hb λc₀ cs hu=>wpS_seq (wpS_region ?_)
 have hs1:=(abN hl hn hlt h8 hnt).ajM e x pv he hx;have h1:=h us hl.len.1 _ w hs1;simp[wpOpsS,go_sem,recoverD,hu,Exit.thenS];rw[if_pos oM];refine wpS_of_wp (wp_mono h1 λe' a' w' ⟨W',bs',σ',hx',hq,hs'⟩=>?_);obtain⟨⟨E,F,hφ,hh,hp⟩,_,hd,_⟩:=hs'
 have fin:((kB P W' bs' σ' []).1/\aeo σ'.h 0 Ts out)->a'.defers=[]/\∃ u',{ c₀ with mode:=.panicking [{ v:=pv,recovered:=true }] }::cs={ c₀ with mode:=u' }::cs/\∃ v,(results fn a'.tmps).run P w' = .ok v w' /\ (∃ v',Ending.returned v=.returned v')/\u' = .panicking [{ v:=pv,recovered:=true }]/\an w bl w' /\ lN w' us bl Ts out:=λhq=>
  ⟨hd,_,rfl,_,lr hφ hh (by rw[hr];trivial),⟨_,rfl⟩,rfl,(hh.back hx').keeps,FI hh hl hq.2 hp⟩
 cases e' with
 |normal=>exact fin hq
 |ret=>exact fin hq
 |panic c=>exact hq.elim
 |exit i=>exact hq.elim
 |goto l=>exact hq.elim
 |outgrown=>exact hq.elim
end
section
variable {P:Program}{fn:Func}{nt:Nat}{pins:List (Nat×Value)}{Rr:World->List Nat->SV->Hp->Prop}{Rp:List PanicEntry->Hp->Prop}{W:World}{bs:List Nat}{σ:St}
theorem zP{f:FuncId}{c:Code}{args:Array Value}{w:World}{v:Value}(hf:P.funcs[f]?=some fn)(hb:fn.body=some c)(hnt:args.size+(fn.ntmps-args.size)=nt)
  (h:iR P fn nt [] (λ_ _ x _=>∀ E,den E x=v) (λ_ _=>False) w [] c (σ0 args.toList)):Calls P f args w λe w' => e=.returned v/\an w [] w' := by
 refine (FF hf hb (tT args hnt) h).mono λe w' he=>?_
 cases e with
 |returned u=>
  obtain⟨W',bs',E,F,x,h,hx,hR,rfl,hs,_⟩:=he;exact⟨by rw[hR E],hx.fR hs.keeps⟩
 |panicked c=>obtain⟨_,_,_,_,_,_,hf,_⟩:=he;exact hf.elim
 |outgrown=>exact he.elim
theorem iR.seq'{rs:List ResultVar}(hrs:fn.results.toList=rs){x y:Code}(h:Wp P W bs nt ⟨[],pins⟩ x (Th (λW' bs' σ' => iR P fn nt pins Rr Rp W' bs' y σ') (Fin P rs Rr Rp)) σ):iR P fn nt pins Rr Rp W bs (.seq x y) σ:=by
 subst hrs;exact iR.seq h
theorem iR.Hr{rs:List ResultVar}(hr:fn.results.toList=rs){f:FuncId}(C:CatchC P f)(tl ks:List Nat){id d:Nat}{y:Code}{T1 T2:TypeId}{p1 p2:String}{a1 a2:Array Edge}{caps:Array Operand}
  (hcaps:caps=(tl.map Operand.tmp).toArray) (hks:ks.Nodup) (hrs:rs=yi tl C.Ts) (hd:d<nt) (hlen:tl.length=C.Ts.length) (hlen2:ks.length=C.Ts.length)
  (hcap:∀ p∈tl.zip ks,σ.φ p.1=.is (.own p.2 0)) (hcel:∀ k∈ks,∃ T vs,σ.h k=some (.cells T vs))
  (h:∀ us:List Value,us.length=C.Ts.length->Wp P W bs nt ⟨[Sj f us],ks.zip us++pins⟩ y (aep C rs tl ks Rr Rp) ⟨σ.n+2,bu σ.φ d .any,σ.h⟩) :
  iR P fn nt pins Rr Rp W bs (.seq (.region id #[{ dst:=some d,op:=.makeFunc (.func f) #[] caps,type:=T1,pos:=p1,after:=a1,guard:=none },{ dst:=none,op:=.defer { callee:=.value (.tmp d),args:=#[],argTypes:=#[] },type:=T2,pos:=p2,after:=a2,guard:=none }] false) y) σ:=by
 subst hcaps;subst hr;exact iR.defer C tl ks hks hrs hd hlen hlen2 hcap hcel h
variable {f:FuncId}(C:CatchC P f)(rs:List ResultVar)(tl ks:List Nat)
theorem kU:aep C rs tl ks Rr Rp .ret W bs σ=((kB P W bs σ rs).1/\Rr W bs (mF (kB P W bs σ rs).2) σ.h):=rfl
theorem iQ(c:List PanicEntry):aep C rs tl ks Rr Rp (.panic c) W bs σ=∃ pv vss,c=[{ v:=pv,recovered:=false }]/\R6 σ tl ks C.Ts vss/\C.pre vss pv/\Rr W bs (.v (XV (C.pO vss pv))) (dropKeys σ.h ks):=rfl
end
end
end Go.LE
