/-
 Part 2 of the proof (packed).
-/
import Derived.Test.YtnemkecffmdlnaaGreatDoorU1
import Derived.Deep.LoopGhost
import Derived.Test.YtnemkecffmdlnaaGreatDoorProg
import Derived.WalkKit
import Derived.ProofKit
import Derived.OpenShut
import Derived.JoinedCond
import Derived.Lib.SmallJoins
import Derived.ReadAgain
import Derived.Deep.Slices
import Derived.Deep.Strs
import Derived.Defers
import Derived.Recover
set_option linter.unusedSimpArgs false
set_option linter.unusedVariables false
set_option linter.defProp false
set_option maxHeartbeats 16000000
namespace Go.LE
section
open Go.RowKit
structure RG where
 side:Prop
 n:Nat
 φ:Fr
 h:Hp
 pans:List (Option (List PanicEntry))
 lost:List Nat
 fx:List (List Nat×List Nat)
section
variable {P:Program}{W:World}{bs:List Nat}{nt:Nat}{ds:Aux}{ops:Array Oper}(Γ:Env P)
def Lz(s:S)(g:RG):RG:=⟨s.side/\g.side,g.n,g.φ,g.h,s.pan::g.pans,s.uk++s.pupd++g.lost,(s.uk,s.reads)::g.fx⟩
def qT(Γ:Env P)(W:World)(bs:List Nat)(nt:Nat)(ops:Array Oper):List Oper->Nat->Fr->Hp->RG
 |[],κ,φ,h=>⟨True,κ,φ,h,[],[],[]⟩
 |o::r,κ,φ,h=>Lz (step Γ W bs nt ops κ φ h o) (qT Γ W bs nt ops r (κ+1) (oS φ o.dst (step Γ W bs nt ops κ φ h o).fv) (a8 h (step Γ W bs nt ops κ φ h o).bo))
theorem HC:∀ (l:List Oper) (κ m:Nat) (φ:Fr) (h:Hp),
  (qT Γ W bs nt ops l κ φ h).φ=bz (uW (tr Γ W bs nt ops l κ φ h)) m (λ_=>true) φ /\
  (qT Γ W bs nt ops l κ φ h).h=bz (xZ (tr Γ W bs nt ops l κ φ h)) m (λ_=>true) h /\
  (qT Γ W bs nt ops l κ φ h).pans=(tr Γ W bs nt ops l κ φ h).map (·.2.pan) /\
  (qT Γ W bs nt ops l κ φ h).lost=uj (tr Γ W bs nt ops l κ φ h) /\
  (qT Γ W bs nt ops l κ φ h).fx=(tr Γ W bs nt ops l κ φ h).map (λp=>(p.2.uk,p.2.reads)) /\
  ((qT Γ W bs nt ops l κ φ h).side->∀ p∈tr Γ W bs nt ops l κ φ h,p.2.side)/\(qT Γ W bs nt ops l κ φ h).n=κ+l.length
 |[],_,_,_,_=>⟨rfl,rfl,rfl,rfl,rfl,by simp[tr],rfl⟩
 |o::r,κ,m,φ,h=>by
  obtain⟨h1,h2,h3,h4,h5,h6,h7⟩:=HC r (κ+1) (m+1) (oS φ o.dst (step Γ W bs nt ops κ φ h o).fv) (a8 h (step Γ W bs nt ops κ φ h o).bo);simp only[qT,Lz,tr,uW,xZ,uj,List.map_cons,bz,if_true,List.flatMap_cons,List.mem_cons]at *
  refine⟨by rw[h1,ti],by rw[h2],by rw[h3],by rw[h4],by rw[h5],?_,by rw[h7,List.length_cons];omega⟩;rintro⟨hs,hr⟩ p (rfl|hp)
  ·exact hs
  ·exact h6 hr p hp
def kP(ops:Array Oper):Bool:=
 (List.range ops.size).all λj=>match ops[j]? with
  |none=>true
  | some oj=>(oj.after.all λe=>!Region.binds .any e||decide (e.on<j))&&match oj.dst with
   |none=>true
   |some t=>(List.range ops.size).all λi=>i == j||match ops[i]? with
    |none=>true
    |some oi=>!((oi.looksAt ops).contains t||oi.dst == some t)||Yh ops i j
def lj(ops:Array Oper)(fx:List (List Nat×List Nat)):Bool:=
 (List.range fx.length).all λj=>match fx[j]? with
  |none=>true
  |some pj=>pj.1.isEmpty||(List.range fx.length).all λi=>i == j||match fx[i]? with
   |none=>true
   |some pi=>(pj.1.all λk=>!(pi.2.contains k||pi.1.contains k))||Yh ops i j
theorem Yq{σ:St}(h1:kP ops=true)(h2:lj ops (qT Γ W bs nt ops ops.toList σ.n σ.φ σ.h).fx=true):Draws ops (tr Γ W bs nt ops ops.toList σ.n σ.φ σ.h):=by
 have lt:∀ {α:Type} {l:Array α} {i:Nat} {x:α},l[i]?=some x->i<l.size:=λhx=>(Array.getElem?_eq_some_iff.1 hx).1
 unfold kP at h1;rw[List.all_eq_true]at h1;constructor
 ·intro j o ho e he hb;have:=h1 j (List.mem_range.2 (lt ho));rw[ho]at this;simp only[Bool.and_eq_true]at this;have:=Array.all_eq_true.1 this.1;obtain⟨i,hi,hie⟩:=Array.mem_iff_getElem.1 he;have:=this i hi;rw[hie,hb]at this;simpa using this
 ·intro i j oi oj t hij hi hj hd hc;have:=h1 j (List.mem_range.2 (lt hj));rw[hj]at this;simp only[Bool.and_eq_true,hd,List.all_eq_true]at this;have:=this.2 i (List.mem_range.2 (lt hi));rw[hi]at this;have hij' : (i == j)=false:=by simpa using hij
  simp only[hij',Bool.false_or]at this;have hc' : ((oi.looksAt ops).contains t||oi.dst == some t)=true:=by
   rcases hc with hc|hc
   ·simp[hc]
   ·simp[hc]
  rw[hc']at this;exact oA (by simpa using this)
 ·intro i j oi oj si sj k hij hi hj hk hc;rw[(HC Γ ops.toList σ.n 0 σ.φ σ.h).2.2.2.2.1]at h2;unfold lj at h2;rw[List.all_eq_true]at h2;have llt:∀ {l:List (Oper×S)} {i:Nat} {x:Oper×S},l[i]?=some x->i<(l.map (λp=>(p.2.uk,p.2.reads))).length:=λhx=>by simpa using (List.getElem?_eq_some_iff.1 hx).1
  have huk:∀ (i:Nat) (o:Oper) (s:S),(tr Γ W bs nt ops ops.toList σ.n σ.φ σ.h)[i]?=some (o,s)->∀ k∈cg s.bo,k∈s.uk:=λi o s hT k hk=>by
   have:=(ky Γ ops.toList σ.n 0 σ.φ σ.h i o s hT).2;rw[this]at hk ⊢;exact Ig Γ hk
  have:=h2 j (List.mem_range.2 (llt hj));simp only[List.getElem?_map,hj,Option.map_some,Bool.or_eq_true,List.all_eq_true]at this;rcases this with this|this
  ·have hk' := huk j oj sj hj k hk;rw[List.isEmpty_iff]at this;rw[this]at hk';cases hk'
  ·have:=this i (List.mem_range.2 (llt hi));simp only[hi,Option.map_some]at this;have hij' : (i == j)=false:=by simpa using hij
   rw[hij']at this;simp only[Bool.false_eq_true,false_or,Bool.or_eq_true,List.all_eq_true]at this;rcases this with this|this
   ·have:=this k (huk j oj sj hj k hk);rcases hc with hc|hc
    ·simp[hc]at this
    ·simp[huk i oi si hi k hc]at this
   ·exact oA this
theorem RF{σ:St}{S:Nat->Bool}{a:Act}{w:World}(I:Inv W bs nt ds (tr Γ W bs nt ops ops.toList σ.n σ.φ σ.h) σ S a w)(hS:∀ i,i<ops.size->S i=true)(hS' : ∀ i,S i=true->i<ops.size)(hσp:∀ p∈ds.pins,p.1 / 8<σ.n) :
  Sat W bs nt ds ⟨σ.n+ops.size,(qT Γ W bs nt ops ops.toList σ.n σ.φ σ.h).φ,(qT Γ W bs nt ops ops.toList σ.n σ.φ σ.h).h⟩ a w:=by
 obtain⟨e1,e2,_⟩:=HC Γ ops.toList σ.n 0 σ.φ σ.h (W:=W) (bs:=bs) (nt:=nt) (ops:=ops);have ef:bz (uW (tr Γ W bs nt ops ops.toList σ.n σ.φ σ.h)) 0 S σ.φ=bz (uW (tr Γ W bs nt ops ops.toList σ.n σ.φ σ.h)) 0 (λ_=>true) σ.φ:=funext λt=>jV rfl λi u hi _=>by
  have:=(List.getElem?_eq_some_iff.1 hi).1;simp only[uW,List.length_map,pQ,Array.length_toList]at this;rw[Nat.zero_add];exact hS i this
 have eh:bz (xZ (tr Γ W bs nt ops ops.toList σ.n σ.φ σ.h)) 0 S σ.h=bz (xZ (tr Γ W bs nt ops ops.toList σ.n σ.φ σ.h)) 0 (λ_=>true) σ.h:=funext λt=>jV rfl λi u hi _=>by
  have:=(List.getElem?_eq_some_iff.1 hi).1;simp only[xZ,List.length_map,pQ,Array.length_toList]at this;rw[Nat.zero_add];exact hS i this
 obtain⟨hex,hsz,hdf,hfk,hhk⟩:=I;rw[ef]at hfk hex;rw[eh]at hhk hex;have conv:∀ k,KS σ.n S k->k / 8<σ.n+ops.size:=λk hk=>by
  rcases hk with hk|⟨j,hj,e⟩
  ·omega
  ·have:=hS' j hj;omega
 refine⟨by rw[e1,e2];exact hex,hsz,hdf,λp hp=>Nat.lt_of_lt_of_le (hσp p hp) (Nat.le_add_right _ _),?_,?_⟩
 ·rw[e1];exact λt k hk=>conv k (hfk t k hk)
 ·rw[e2];exact λk e hk=>⟨conv k (hhk k e hk).1,λj hj=>conv j ((hhk k e hk).2 j hj)⟩
theorem sZ{σ:St}{a:Act}{w:World}(hsat:Sat W bs nt ds σ a w){V:Nat->Bool}(hS:∀ i,V i=false)(T:List (Oper×S)):Inv W bs nt ds T σ V a w:=by
 obtain⟨hex,hsz,hdf,_,hfk,hhk⟩:=hsat;have ef:bz (uW T) 0 V σ.φ=σ.φ:=q8 λi _=>hS _
 have eh:bz (xZ T) 0 V σ.h=σ.h:=q8 λi _=>hS _
 refine⟨by rw[ef,eh];exact hex,hsz,hdf,?_,?_⟩
 ·rw[ef];exact λt k hk=>.inl (hfk t k hk)
 ·rw[eh];exact λk e hk=>⟨.inl (hhk k e hk).1,λj hj=>.inl ((hhk k e hk).2 j hj)⟩
theorem Cj{σ:St}{Q:Exit->Act->World->Prop}(hσf:nD (· / 8<σ.n) σ.φ)(hσh:bN (· / 8<σ.n) σ.h)(hσp:∀ p∈ds.pins,p.1 / 8<σ.n)
  (hside:∀ p∈tr Γ W bs nt ops ops.toList σ.n σ.φ σ.h,p.2.side)
  (hQ:(∀ p∈tr Γ W bs nt ops ops.toList σ.n σ.φ σ.h,p.2.pan=none)->∀ a' w',Sat W bs nt ds ⟨σ.n+ops.size,(qT Γ W bs nt ops ops.toList σ.n σ.φ σ.h).φ,(qT Γ W bs nt ops ops.toList σ.n σ.φ σ.h).h⟩ a' w' -> Q .normal a' w')
  (hP:∀ p∈tr Γ W bs nt ops ops.toList σ.n σ.φ σ.h,∀ c,p.2.pan=some c->∀ a' w',Sat W bs nt ds ⟨σ.n,tC ops σ.φ,dropKeys σ.h (uj (tr Γ W bs nt ops ops.toList σ.n σ.φ σ.h))⟩ a' w' -> Q (.panic c) a' w') :
  ∀ (m i:Nat),i+m=ops.size->(∀ j o s,j<i->(tr Γ W bs nt ops ops.toList σ.n σ.φ σ.h)[j]?=some (o,s)->s.pan=none)->∀ a w,Inv W bs nt ds (tr Γ W bs nt ops ops.toList σ.n σ.φ σ.h) σ (λj=>decide (j<i)) a w->wpOps P ops Q (List.range' i m) a w
 | 0,i,hi,hpr,a,w,I=>hQ (λp hp=>by
   obtain⟨j,hj⟩:=List.getElem?_of_mem hp
   have hlt:=(List.getElem?_eq_some_iff.1 hj).1
   rw[pQ,Array.length_toList]at hlt
   exact hpr j p.1 p.2 oM hj) a w (RF Γ I (λj hj=>by simp;omega) (λj hj=>by simp at hj;omega) hσp)
 | m+1,i,hi,hpr,a,w,I=>by
  rw[List.range'_succ,wpOps_cons];have hlt:i<ops.toList.length:=by simp;omega
  obtain⟨s,hT⟩:=Io Γ (W:=W) (bs:=bs) (nt:=nt) (ops:=ops) (κ:=σ.n) (φ:=σ.φ) (h:=σ.h) (List.getElem?_eq_getElem hlt);have hz:∀ j,decide (j<0+i)=decide (j<i):=λj=>by simp
  refine one Γ (L:=uj (tr Γ W bs nt ops ops.toList σ.n σ.φ σ.h)) (λj p hp _ k hk=>List.mem_flatMap.2 ⟨p,List.mem_of_getElem? hp,hk⟩) hT (S' := λj=>decide (j<i+1)) sI sI (λj hj=>by simp;omega) (λt _=>by simp only[hz]) (λt _=>by simp only[hz]) (λj v hj _ hs=>by simp at hs;omega) (λj v hj _ hs=>by simp at hs;omega) I (hside _ (List.mem_of_getElem? hT)) (λhpn=>Cj hσf hσh hσp hside hQ hP m (i+1) oM (λj o s' hj hs' => by
   by_cases hji:j=i
   ·subst hji;rw[hT]at hs';cases hs';exact hpn
   ·exact hpr j o s' oM hs')) (λc hc a' w' => hP _ (List.mem_of_getElem? hT) c hc a' w') hσf hσh hσp
theorem O9{σ:St}{Q:Exit->Act->World->Prop}(hσf:nD (· / 8<σ.n) σ.φ)(hσh:bN (· / 8<σ.n) σ.h)(hσp:∀ p∈ds.pins,p.1 / 8<σ.n)
  (hd:Draws ops (tr Γ W bs nt ops ops.toList σ.n σ.φ σ.h))
  (hside:∀ p∈tr Γ W bs nt ops ops.toList σ.n σ.φ σ.h,p.2.side)
  (hQ:(∀ p∈tr Γ W bs nt ops ops.toList σ.n σ.φ σ.h,p.2.pan=none)->∀ a' w',Sat W bs nt ds ⟨σ.n+ops.size,(qT Γ W bs nt ops ops.toList σ.n σ.φ σ.h).φ,(qT Γ W bs nt ops ops.toList σ.n σ.φ σ.h).h⟩ a' w' -> Q .normal a' w')
  (hP:∀ p∈tr Γ W bs nt ops ops.toList σ.n σ.φ σ.h,∀ c,p.2.pan=some c->∀ a' w',Sat W bs nt ds ⟨σ.n,tC ops σ.φ,dropKeys σ.h (uj (tr Γ W bs nt ops ops.toList σ.n σ.φ σ.h))⟩ a' w' -> Q (.panic c) a' w') :
  ∀ (fuel:Nat) (listed:Array Bool) (a:Act) (w:World),listed.size=ops.size->listed.toList.count false<=fuel ->
   (∀ j o,ops[j]?=some o->listed.getD j false=true->∀ e∈o.after,Region.binds .any e=true->listed.getD e.on false=true) ->
   (∀ j o s,listed.getD j false=true->(tr Γ W bs nt ops ops.toList σ.n σ.φ σ.h)[j]?=some (o,s)->s.pan=none) ->
   Inv W bs nt ds (tr Γ W bs nt ops ops.toList σ.n σ.φ σ.h) σ (λj=>listed.getD j false) a w->wpAny P .any ops Q fuel listed a w:=by
 have gd:∀ (l:Array Bool) i,i<l.size->l.getD i true=l.getD i false:=λl i hi=>by simp[Array.getD_eq_getD_getElem?,Array.getElem?_eq_getElem hi]
 have done:∀ (listed:Array Bool) (a:Act) (w:World),listed.size=ops.size->Region.ready .any ops listed=[] ->
   (∀ j o s,listed.getD j false=true->(tr Γ W bs nt ops ops.toList σ.n σ.φ σ.h)[j]?=some (o,s)->s.pan=none) ->
   Inv W bs nt ds (tr Γ W bs nt ops ops.toList σ.n σ.φ σ.h) σ (λj=>listed.getD j false) a w->Q .normal a w:=by
  intro listed a w hsz hr hpr I;have all:∀ i,i<ops.size->listed.getD i false=true:=by
   intro i
   induction i using Nat.strongRecOn with
   | _ i ih=>
    intro hi;cases hl:listed.getD i false with
    |true=>rfl
    | false=>
     exfalso;have:i∈Region.ready .any ops listed:=by
      refine List.mem_filter.2 ⟨List.mem_range.2 hi,?_⟩;rw[gd _ _ oM,hl];simp only[Bool.not_false,Bool.true_and,Array.getElem?_eq_getElem hi,Option.map_some,Option.getD_some];rw[Array.all_eq_true];intro j hj;cases hb:Region.binds .any (ops[i].after[j]) with
      |false=>rfl
      |true=>
       have hlt:=hd.edge i ops[i] (Array.getElem?_eq_getElem hi) (ops[i].after[j]) (Array.getElem_mem hj) hb;simpa using ih _ hlt oM
     rw[hr]at this;cases this
  refine hQ (λp hp=>?_) a w (RF Γ I all (λi hi=>?_) hσp)
  ·obtain⟨j,hj⟩:=List.getElem?_of_mem hp;have hlt:=(List.getElem?_eq_some_iff.1 hj).1;rw[pQ,Array.length_toList]at hlt;exact hpr j p.1 p.2 (all j hlt) hj
  by_cases hlt:i<listed.size
  ·omega
  ·simp[Array.getD_eq_getD_getElem?,Array.getElem?_eq_none (Nat.le_of_not_lt hlt)]at hi
 intro fuel
 induction fuel with
 | zero=>
  intro listed a w hsz hc hcl hpr I;have hr:Region.ready .any ops listed=[]:=by
   refine List.filter_eq_nil_iff.2 λi hi=>?_
   have hi' : i<listed.size:=by rw[hsz];exact List.mem_range.1 hi
   have:listed.getD i true=true:=by
    rw[Array.getD_eq_getD_getElem?,Array.getElem?_eq_getElem hi'];simp only[Option.getD_some];have h0:=List.count_eq_zero.1 (Nat.le_zero.1 hc);cases hv:listed[i] with
    |true=>rfl
    |false=>exact absurd (by rw[<- hv];simp) h0
   simp[this]
  exact⟨hr,done listed a w hsz hr hpr I⟩
 | succ fuel ih=>
  intro listed a w hsz hc hcl hpr I;refine⟨λhr=>done listed a w hsz hr hpr I,λi hi=>?_⟩;obtain⟨hi,hready⟩:=List.mem_filter.1 hi;have hi:=List.mem_range.1 hi;have ho:ops[i]?=some ops[i]:=Array.getElem?_eq_getElem hi;have hil:i<listed.size:=oM;rw[gd _ _ hil]at hready
  simp only[ho,Option.map_some,Option.getD_some,Bool.and_eq_true,Bool.not_eq_true']at hready;obtain⟨hli,hpre⟩:=hready;rw[Array.all_eq_true]at hpre
  obtain⟨s,hT⟩:=Io Γ (W:=W) (bs:=bs) (nt:=nt) (ops:=ops) (κ:=σ.n) (φ:=σ.φ) (h:=σ.h) (l:=ops.toList) (i:=i) (o:=ops[i]) (by rw[Array.getElem?_toList];exact ho);have hset:∀ j,(listed.setIfInBounds i true).getD j false=if j=i then true else listed.getD j false:=λj=>by
   simp only[Array.getD_eq_getD_getElem?,Array.getElem?_setIfInBounds];by_cases hji:i=j
   ·subst hji;simp[hil]
   ·rw[if_neg hji,if_neg (Ne.symm hji)]
  have hcl' : ∀ j o,ops[j]?=some o->(listed.setIfInBounds i true).getD j false=true->∀ e∈o.after,Region.binds .any e=true->(listed.setIfInBounds i true).getD e.on false=true:=by
   intro j o hj hl e he hb;rw[hset]at hl ⊢;split
   ·rfl
   ·split at hl
    ·rename_i hji;subst hji;rw[ho]at hj;cases hj;obtain⟨m,hm,hme⟩:=Array.mem_iff_getElem.1 he;have:=hpre m hm;rw[hme,hb]at this;simpa using this
    ·exact hcl j o hj hl e he hb
  have rb:∀ j,Reach ops j i->j≠i->listed.getD j false=true:=λj hr hji=>by
   have:=jB (S:=λj=>(listed.setIfInBounds i true).getD j false) hcl' hr (by simp only[hset,if_pos]);simp only[hset,if_neg hji]at this;exact this
  have ra:∀ j,Reach ops i j->listed.getD j false=false:=λj hr=>by
   cases hl:listed.getD j false with
   |false=>rfl
   |true=>
    have:=jB (S:=λj=>listed.getD j false) hcl hr hl;simp only[hli]at this;cases this
  have agree:∀ j,j≠i->Cmp ops i j->listed.getD j false=decide (j<0+i):=λj hji hc=>by
   rw[Nat.zero_add];by_cases hlt:j<i
   ·rw[rb j (hc.2 hlt) hji];simp[hlt]
   ·rw[ra j (hc.1 oM)];simp[hlt]
  have self:listed.getD i false=decide (i<0+i):=by rw[hli];simp
  have inT:∀ (j:Nat) (v:List (Nat×FV)),(uW (tr Γ W bs nt ops ops.toList σ.n σ.φ σ.h))[j]?=some v->∃ (o:Oper) (s:S),(tr Γ W bs nt ops ops.toList σ.n σ.φ σ.h)[j]?=some (o,s)/\ops[j]?=some o/\v=ud o s:=λj v hv=>by
   simp only[uW,List.getElem?_map,Option.map_eq_some_iff]at hv;obtain⟨⟨o,s⟩,h1,h2⟩:=hv;have:=(ky Γ ops.toList σ.n 0 σ.φ σ.h j o s h1).1;rw[Array.getElem?_toList]at this;exact⟨o,s,h1,this,h2.symm⟩
  have inH:∀ (j:Nat) (v:List (Nat×Option aX)),(xZ (tr Γ W bs nt ops ops.toList σ.n σ.φ σ.h))[j]?=some v->∃ (o:Oper) (s:S),(tr Γ W bs nt ops ops.toList σ.n σ.φ σ.h)[j]?=some (o,s)/\v=s.bo:=λj v hv=>by
   simp only[xZ,List.getElem?_map,Option.map_eq_some_iff]at hv;obtain⟨⟨o,s⟩,h1,h2⟩:=hv;exact⟨o,s,h1,h2.symm⟩
  refine one Γ (L:=uj (tr Γ W bs nt ops ops.toList σ.n σ.φ σ.h)) (λj p hp _ k hk=>List.mem_flatMap.2 ⟨p,List.mem_of_getElem? hp,hk⟩) hT (S:=λj=>listed.getD j false) (S' := λj=>(listed.setIfInBounds i true).getD j false) hli (by simp only[hset,if_pos]) (λj hj=>by simp only[hset,if_neg hj]) (λt ht=>?_) (λk hk=>?_) (λj v hij hv hs k hk hk' => ?_) (λj v hij hv hs k hk hk' => ?_) I (hside _ (List.mem_of_getElem? hT)) (λhpn a' w' I' => ?_) (λc hc a' w' => hP _ (List.mem_of_getElem? hT) c hc a' w') hσf hσh hσp
  ·refine jV rfl λj u hj hju=>?_
   obtain⟨o',s',_,hj',rfl⟩:=inT j u hj;rw[Nat.zero_add];by_cases hji:j=i
   ·subst hji;exact self
   ·exact agree j hji (hd.slot i j _ o' t (Ne.symm hji) ho hj' (j7.1 hju) (.inl ht))
  ·refine jV rfl λj u hj hju=>?_
   obtain⟨o',s',hj',rfl⟩:=inH j u hj;rw[Nat.zero_add];by_cases hji:j=i
   ·subst hji;exact self
   ·exact agree j hji (hd.heap i j _ o' _ s' k (Ne.symm hji) hT hj' hju (.inl hk))
  ·obtain⟨o',s',_,hj',rfl⟩:=inT j v hv;have:=ra j ((hd.slot i j _ o' k oM ho hj' (j7.1 hk') (.inr (j7.1 hk))).1 hij);rw[this]at hs;cases hs
  ·obtain⟨o',s',hj',rfl⟩:=inH j v hv;have:=ra j ((hd.heap i j _ o' _ s' k oM hT hj' hk' (.inr hk)).1 hij);rw[this]at hs;cases hs
  ·refine ih _ a' w' (by simpa using hsz) ?_ hcl' (λj o' s' hj hs' => ?_) I'
   rotate_left
   ·by_cases hji:j=i
    ·subst hji;rw[hT]at hs';cases hs';exact hpn
    ·rw[hset,if_neg hji]at hj;exact hpr j o' s' hj hs'
   rw[Array.toList_setIfInBounds,List.count_set (by simpa using hil)];have e1:listed.toList[i]'(by simpa using hil)=false:=by
    rw[Array.getD_eq_getD_getElem?,Array.getElem?_eq_getElem hil]at hli;simpa using hli
   rw[e1];have hpos:0<listed.toList.count false:=List.count_pos_iff.2 (e1 ▸ List.getElem_mem _);simp only[beq_self_eq_true,if_true,show (true == false)=false from rfl,Bool.false_eq_true,if_false];omega
theorem VP{id:Nat}{d:Bool}{σ:St}{Q:Exit->Act->World->Prop}{a:Act}{w:World}(hm:P.follows .mixedOrders=true)(hsat:Sat W bs nt ds σ a w)
  {g:RG} (hg:qT Γ W bs nt ops ops.toList σ.n σ.φ σ.h=g) (hside:g.side) (hd:d=true->kP ops=true/\lj ops g.fx=true)
  (hQ:(∀ x∈g.pans,x=none)->∀ a' w',Sat W bs nt ds ⟨g.n,g.φ,g.h⟩ a' w' -> Q .normal a' w')
  (hP:∀ c,some c∈g.pans->∀ a' w',Sat W bs nt ds ⟨σ.n,tC ops σ.φ,dropKeys σ.h g.lost⟩ a' w' -> Q (.panic c) a' w') :
  (Code.region id ops d).wp P Q a w:=by
 subst hg;obtain⟨_,_,h3,h4,_,h6,h7⟩:=HC Γ ops.toList σ.n 0 σ.φ σ.h (W:=W) (bs:=bs) (nt:=nt) (ops:=ops);rw[Array.length_toList]at h7;rw[h7]at hQ
 have hP' : ∀ p∈tr Γ W bs nt ops ops.toList σ.n σ.φ σ.h,∀ c,p.2.pan=some c->∀ a' w',Sat W bs nt ds ⟨σ.n,tC ops σ.φ,dropKeys σ.h (uj (tr Γ W bs nt ops ops.toList σ.n σ.φ σ.h))⟩ a' w' -> Q (.panic c) a' w' := by
  intro p hp c hc;rw[<- h4];exact hP c (by rw[h3];exact List.mem_map.2 ⟨p,hp,hc⟩)
 have hQ' := λ(hall:∀ p∈tr Γ W bs nt ops ops.toList σ.n σ.φ σ.h,p.2.pan=none)=>hQ (by
  rw[h3]
  intro x hx
  obtain⟨p,hp,rfl⟩:=List.mem_map.1 hx
  exact hall p hp)
 cases d with
 |false=>
  refine wp_region ?_;rw[List.range_eq_range'];exact Cj Γ hsat.fk hsat.hk hsat.pk (h6 hside) hQ' hP' ops.size 0 oM (λj o s hj=>by omega) a w (sZ hsat sI _)
 | true=>
  refine wp_region_any hm ?_;have hsat' : Sat W bs nt ds σ a { w with drawn:=w.drawn+1 }:=by
   obtain⟨⟨E,F,hf,hh,hp⟩,h1,h2,h3,h4,h5⟩:=hsat;exact⟨⟨E,F,hf,hh.grow ⟨rfl,rfl,rfl,Nat.le_refl _,λ_ _ _=>rfl⟩,hp⟩,h1,h2,h3,h4,h5⟩
  have hz:∀ i,(Array.replicate ops.size false).getD i false=false:=λi=>by
   simp only[Array.getD_eq_getD_getElem?,Array.getElem?_replicate];split<;>rfl
  refine O9 Γ hsat.fk hsat.hk hsat.pk (Yq Γ (hd rfl).1 (hd rfl).2) (h6 hside) hQ' hP' ops.size _ a _ sI (by simp[List.count_replicate]) (λj o _ hj=>by rw[hz]at hj;cases hj) (λj o s hj=>by rw[hz]at hj;cases hj) (sZ hsat' hz _)
structure RP where
 side:Prop
 pan:Option (List PanicEntry)
 lost:List Nat
def LA(s:S)(g:RP):RP:=⟨s.side/\g.side,g.pan,s.uk++s.pupd++g.lost⟩
def Cm(Γ:Env P)(W:World)(bs:List Nat)(nt:Nat)(ops:Array Oper):List Oper->Nat->Fr->Hp->RP
 |[],_,_,_=>⟨True,none,[]⟩
 |o::r,κ,φ,h=>match (step Γ W bs nt ops κ φ h o).pan with
  |some c=>⟨(step Γ W bs nt ops κ φ h o).side,some c,(step Γ W bs nt ops κ φ h o).uk++(step Γ W bs nt ops κ φ h o).pupd⟩
  |none=>LA (step Γ W bs nt ops κ φ h o) (Cm Γ W bs nt ops r (κ+1) (oS φ o.dst (step Γ W bs nt ops κ φ h o).fv) (a8 h (step Γ W bs nt ops κ φ h o).bo))
theorem Sj{c:List PanicEntry}:∀ (l:List Oper) (κ:Nat) (φ:Fr) (h:Hp),(Cm Γ W bs nt ops l κ φ h).pan=some c->(Cm Γ W bs nt ops l κ φ h).side ->
  ∃ (i:Nat) (p:Oper×S),(tr Γ W bs nt ops l κ φ h)[i]?=some p/\p.2.pan=some c/\(∀ (j:Nat) (q:Oper×S),j<=i->(tr Γ W bs nt ops l κ φ h)[j]?=some q->q.2.side)/\(∀ (j:Nat) (q:Oper×S),j<i->(tr Γ W bs nt ops l κ φ h)[j]?=some q->q.2.pan=none) /\
   ∀ (j:Nat) (q:Oper×S),j<=i->(tr Γ W bs nt ops l κ φ h)[j]?=some q->∀ k∈q.2.uk++q.2.pupd,k∈(Cm Γ W bs nt ops l κ φ h).lost
 |[],_,_,_,hp,_=>by cases hp
 | o::r,κ,φ,h,hp,hs=>by
  have ih:=Sj (c:=c) r (κ+1) (oS φ o.dst (step Γ W bs nt ops κ φ h o).fv) (a8 h (step Γ W bs nt ops κ φ h o).bo);unfold Cm at hp hs ⊢;simp only[tr];cases hpn:(step Γ W bs nt ops κ φ h o).pan with
  | some c' =>
   rw[hpn]at hp hs;simp only[Option.some.injEq]at hp hs;subst hp;refine⟨0,_,rfl,hpn,λj q hj hq=>?_,λj q hj hq=>by omega,λj q hj hq k hk=>?_⟩
   ·obtain rfl:j=0:=oM;simp at hq;subst hq;exact hs
   ·obtain rfl:j=0:=oM;simp at hq;subst hq;exact hk
  | none=>
   rw[hpn]at hp hs;simp only[LA]at hp hs ⊢;obtain⟨i,p,h1,h2,h3,h4,h5⟩:=ih hp hs.2;refine⟨i+1,p,by simpa using h1,h2,λj q hj hq=>?_,λj q hj hq=>?_,λj q hj hq k hk=>?_⟩
   ·cases j with
    |zero=>simp at hq;subst hq;exact hs.1
    |succ j=>exact h3 j q oM (by simpa using hq)
   ·cases j with
    |zero=>simp at hq;subst hq;exact hpn
    |succ j=>exact h4 j q oM (by simpa using hq)
   ·cases j with
    |zero=>simp at hq;subst hq;exact List.mem_append_left _ hk
    |succ j=>exact List.mem_append_right _ (h5 j q oM (by simpa using hq) k hk)
theorem Pa{id:Nat}{σ:St}{Q:Exit->Act->World->Prop}{a:Act}{w:World}(hsat:Sat W bs nt ds σ a w){side:Prop}{c:List PanicEntry}{lost:List Nat}
  (hg:Cm Γ W bs nt ops ops.toList σ.n σ.φ σ.h=⟨side,some c,lost⟩) (hside:side)
  (hP:∀ a' w',Sat W bs nt ds ⟨σ.n,tC ops σ.φ,dropKeys σ.h lost⟩ a' w' -> Q (.panic c) a' w'):(Code.region id ops false).wp P Q a w:=by
 obtain⟨i,p,h1,h2,h3,h4,h5⟩:=Sj Γ (c:=c) ops.toList σ.n σ.φ σ.h (by rw[hg]) (by rw[hg];exact hside);rw[hg]at h5;simp only at h5;have hilt:i<ops.size:=by
  have:=(List.getElem?_eq_some_iff.1 h1).1
  rwa [pQ,Array.length_toList]at this
 have key:∀ m i',i' + m=ops.size->i' <= i->∀ a w,Inv W bs nt ds (tr Γ W bs nt ops ops.toList σ.n σ.φ σ.h) σ (λj=>decide (j<i')) a w->wpOps P ops Q (List.range' i' m) a w:=by
  intro m
  induction m with
  |zero=>intro i' h1 h2;omega
  | succ m ih=>
   intro i' hi hle a w I;rw[List.range'_succ,wpOps_cons];have hlt:i' < ops.toList.length:=by simp;omega
   obtain⟨s,hT⟩:=Io Γ (W:=W) (bs:=bs) (nt:=nt) (ops:=ops) (κ:=σ.n) (φ:=σ.φ) (h:=σ.h) (List.getElem?_eq_getElem hlt);have hz:∀ j,decide (j<0+i')=decide (j<i'):=λj=>by simp
   refine one Γ (L:=lost) (λj q hq hj k hk=>h5 j q (hj.elim (λhj=>by have:=of_decide_eq_true hj;omega) (λhj=>by omega)) hq k hk) hT (S' := λj=>decide (j<i' + 1)) sI sI (λj hj=>by simp;omega) (λt _=>by simp only[hz]) (λt _=>by simp only[hz]) (λj v hj _ hs=>by simp at hs;omega) (λj v hj _ hs=>by simp at hs;omega) I (h3 i' _ hle hT) (λhpn=>?_) (λc' hc a' w' hs' => ?_) hsat.fk hsat.hk hsat.pk
   ·by_cases hii:i' = i
    ·subst hii;rw[h1]at hT;simp only[Option.some.injEq]at hT;subst hT;rw[h2]at hpn;cases hpn
    ·exact ih (i' + 1) oM oM
   ·by_cases hii:i' = i
    ·subst hii;rw[h1]at hT;simp only[Option.some.injEq]at hT;subst hT;rw[h2]at hc;simp only[Option.some.injEq]at hc;subst hc;exact hP a' w' hs'
    ·have:=h4 i' _ oM hT;rw[this]at hc;cases hc
 refine wp_region ?_;rw[List.range_eq_range'];exact key ops.size 0 oM oM a w (sZ hsat sI _)
end
structure Ext (W:World)(bs:List Nat)(W' : World)(bs' : List Nat):Prop where
 keeps:an W bs W'
 sub:∀ b∈bs',W.heap.size<=b\/b∈bs
theorem Ext.refl(W:World)(bs:List Nat):Ext W bs W bs:=⟨an.refl W bs,λ_ h=>.inr h⟩
theorem Ext.trans{W W' W'' : World}{bs bs' bs'' : List Nat}(h:Ext W bs W' bs')(h' : Ext W' bs' W'' bs''):Ext W bs W'' bs'' :=
 ⟨h.keeps.trans h'.keeps λb hb hlt=>(h.sub b hb).resolve_left oM,λb hb=>(h'.sub b hb).elim (λh1=>.inl (Nat.le_trans h.keeps.size h1)) λh1=>h.sub b h1⟩
theorem Ext.fF{W W' w:World}{bs bs' : List Nat}(h:Ext W bs W' bs')(h' : an W' bs' w):an W bs w:=
 h.keeps.trans h' λb hb hlt=>(h.sub b hb).resolve_left oM
theorem aj.back{W W' w:World}{bs bs' : List Nat}{E:Nat->Value}{F:Nat->List Nat}{h:Hp}(he:Ext W bs W' bs')(hs:aj W' bs' E F h w):aj W bs E F h w:=
 ⟨hs.ent,hs.lt,λk e hk b hb=>(hs.mine k e hk b hb).elim (λh1=>.inl (Nat.le_trans he.keeps.size h1)) λh1=>he.sub b h1,hs.apart,he.fF hs.keeps⟩
theorem Sat.back{W W' : World}{bs bs' : List Nat}{nt:Nat}{ds:Aux}{σ:St}{a:Act}{w:World}(he:Ext W bs W' bs')(h:Sat W' bs' nt ds σ a w):Sat W bs nt ds σ a w:=by
 obtain⟨⟨E,F,hf,hs,hp⟩,h1,h2,h3,h4,h5⟩:=h;exact⟨⟨E,F,hf,hs.back he,hp⟩,h1,h2,h3,h4,h5⟩
abbrev lR:=Exit->World->List Nat->St->Prop
def Wp(P:Program)(W:World)(bs:List Nat)(nt:Nat)(ds:Aux)(c:Code)(Q:lR)(σ:St):Prop:=
 ∀ a w,Sat W bs nt ds σ a w->c.wp P (λe a' w' => ∃ W' bs' σ',Ext W bs W' bs' /\ Q e W' bs' σ' /\ Sat W' bs' nt ds σ' a' w') a w
def Le(W:World)(bs:List Nat)(nt:Nat)(ds:Aux)(σ σ' : St):Prop:=∀ a w,Sat W bs nt ds σ a w->Sat W bs nt ds σ' a w
def Th(next:World->List Nat->St->Prop)(Q:lR):lR
 |.normal,W,bs,σ=>next W bs σ
 |e,W,bs,σ=>Q e W bs σ
def Bl(id:Nat)(Q:lR):lR
 |.exit id',W,bs,σ=>if id' = id then Q .normal W bs σ else Q (.exit id') W bs σ
 |e,W,bs,σ=>Q e W bs σ
section
variable {next:World->List Nat->St->Prop}{Q:lR}{W:World}{bs:List Nat}{σ:St}
theorem gI(h:next W bs σ):Th next Q .normal W bs σ:=h
theorem pn(h:Q .ret W bs σ):Th next Q .ret W bs σ:=h
theorem lv{i:Nat}(h:Q (.exit i) W bs σ):Th next Q (.exit i) W bs σ:=h
theorem jn{c:List PanicEntry}(h:Q (.panic c) W bs σ):Th next Q (.panic c) W bs σ:=h
theorem gH{id:Nat}(h:Q .normal W bs σ):Bl id Q .normal W bs σ:=h
theorem ph{id:Nat}(h:Q .ret W bs σ):Bl id Q .ret W bs σ:=h
theorem jk{id:Nat}{c:List PanicEntry}(h:Q (.panic c) W bs σ):Bl id Q (.panic c) W bs σ:=h
theorem lr{id:Nat}(h:Q .normal W bs σ):Bl id Q (.exit id) W bs σ:=by simpa [Bl] using h
theorem ft{id i:Nat}(hn:i≠id)(h:Q (.exit i) W bs σ):Bl id Q (.exit i) W bs σ:=by simpa [Bl,hn] using h
end
section
variable {P:Program}{W:World}{bs:List Nat}{nt:Nat}{ds:Aux}{Q:lR}{σ:St}
theorem yn{W W' : World}{bs bs' : List Nat}{e:Exit}{a:Act}{w:World}{Q:lR}(he:Ext W bs W' bs')(h:∃ W'' bs'' σ',Ext W' bs' W'' bs'' /\ Q e W'' bs'' σ' /\ Sat W'' bs'' nt ds σ' a w) :
  ∃ W'' bs'' σ',Ext W bs W'' bs'' /\ Q e W'' bs'' σ' /\ Sat W'' bs'' nt ds σ' a w:=by
 obtain⟨W'',bs'',σ',h1,h2,h3⟩:=h;exact⟨W'',bs'',σ',he.trans h1,h2,h3⟩
theorem Wp.mono{c:Code}{Q' : lR}(h:Wp P W bs nt ds c Q σ)(hq:∀ e W bs σ,Q e W bs σ->Q' e W bs σ):Wp P W bs nt ds c Q' σ:=
 λa w hs=>wp_mono (h a w hs) λe _ _ ⟨W',bs',σ',he,hq',hs'⟩=>⟨W',bs',σ',he,hq _ _ _ _ hq',hs'⟩
theorem Wp.Am{c:Code}{σ' : St}(hle:Le W bs nt ds σ σ')(h:Wp P W bs nt ds c Q σ'):Wp P W bs nt ds c Q σ:=
 λa w hs=>h a w (hle a w hs)
theorem Wp.skip(h:Q .normal W bs σ):Wp P W bs nt ds .skip Q σ:=λa w hs=>wp_skip ⟨W,bs,σ,Ext.refl W bs,h,hs⟩
theorem Wp.exit{id:Nat}(h:Q (.exit id) W bs σ):Wp P W bs nt ds (.exit id) Q σ:=λa w hs=>wp_exit ⟨W,bs,σ,Ext.refl W bs,h,hs⟩
theorem Wp.goto{l:Nat}(h:Q (.goto l) W bs σ):Wp P W bs nt ds (.goto l) Q σ:=λa w hs=>wp_goto ⟨W,bs,σ,Ext.refl W bs,h,hs⟩
theorem Wp.ret(h:Q .ret W bs σ):Wp P W bs nt ds .ret Q σ:=λa w hs=>wp_ret ⟨W,bs,σ,Ext.refl W bs,h,hs⟩
theorem Wp.seq{x y:Code}(h:Wp P W bs nt ds x (Th (λW bs σ=>Wp P W bs nt ds y Q σ) Q) σ):Wp P W bs nt ds (.seq x y) Q σ:=λa w hs=>
 wp_seq (wp_mono (h a w hs) λe a' w' ⟨W',bs',σ',he,hq,hs'⟩=>by
  cases e with
  |normal=>exact wp_mono (hq a' w' hs') λe'' a'' w'' hh=>yn he hh
  |_=>exact⟨W',bs',σ',he,hq,hs'⟩)
theorem Wp.block{id:Nat}{c:Code}(h:Wp P W bs nt ds c (Bl id Q) σ):Wp P W bs nt ds (.block id c) Q σ:=λa w hs=>
 wp_block (wp_mono (h a w hs) λe a' w' ⟨W',bs',σ',he,hq,hs'⟩=>by
  cases e with
  |exit i=>
   simp only[Bl]at hq
   simp only[Exit.inBlock]
   split
   ·rename_i hi;rw[if_pos hi]at hq;exact⟨W',bs',σ',he,hq,hs'⟩
   ·rename_i hi;rw[if_neg hi]at hq;exact⟨W',bs',σ',he,hq,hs'⟩
  |_=>exact⟨W',bs',σ',he,hq,hs'⟩)
theorem Wp.cond{c:Operand}{x y:Code}{b:Bool}{p:Prop}(hc:pe σ.φ true c=(p,.v (.bool b)))(hp:p)
  (ht:b=true->Wp P W bs nt ds x Q σ) (hf:b=false->Wp P W bs nt ds y Q σ):Wp P W bs nt ds (.cond c x y) Q σ:=λa w hs=>by
 obtain⟨E,F,hφ,hh,_⟩:=hs.ex;have:a.eval c=.bool b:=by
  rw[vu hφ rfl (by rw[hc];exact hp),hc];rfl
 exact wp_cond_split this (λhb=>ht hb a w hs) (λhb=>hf hb a w hs)
theorem Wp.Si(Γ:Env P){id:Nat}{d:Bool}{ops:Array Oper}{g:RG}(hm:P.follows .mixedOrders=true)
  (hg:qT Γ W bs nt ops ops.toList σ.n σ.φ σ.h=g) (hside:g.side) (hd:d=true->kP ops=true/\lj ops g.fx=true)
  (hQ:(∀ x∈g.pans,x=none)->Q .normal W bs ⟨g.n,g.φ,g.h⟩) (hP:∀ c,some c∈g.pans->Q (.panic c) W bs ⟨σ.n,tC ops σ.φ,dropKeys σ.h g.lost⟩) :
  Wp P W bs nt ds (.region id ops d) Q σ:=λa w hs=>
 VP Γ hm hs hg hside hd (λhn a' w' hs' => ⟨W,bs,_,Ext.refl W bs,hQ hn,hs'⟩) (λc hc a' w' hs' => ⟨W,bs,_,Ext.refl W bs,hP c hc,hs'⟩)
theorem Wp.region(Γ:Env P){id:Nat}{d:Bool}{ops:Array Oper}{g:RG}(hm:P.follows .mixedOrders=true)
  (hg:qT Γ W bs nt ops ops.toList σ.n σ.φ σ.h=g) (hside:g.side) (hd:d=true->kP ops=true/\lj ops g.fx=true)
  (hQ:Q .normal W bs ⟨g.n,g.φ,g.h⟩) (hP:∀ c,some c∈g.pans->Q (.panic c) W bs ⟨σ.n,tC ops σ.φ,dropKeys σ.h g.lost⟩) :
  Wp P W bs nt ds (.region id ops d) Q σ:=Wp.Si Γ hm hg hside hd (λ_=>hQ) hP
theorem R7{α:Type}{l:List (Option α)}{c:α}(h:l.filter Option.isSome=[some c]):some c∈l/\∀ x,some x∈l->x=c:=by
 have h1:some c∈l.filter Option.isSome:=by rw[h];simp
 refine⟨(List.mem_filter.1 h1).1,λx hx=>?_⟩;have:some x∈l.filter Option.isSome:=List.mem_filter.2 ⟨hx,rfl⟩;rw[h]at this;simpa using this
theorem Wp.dF(Γ:Env P){id:Nat}{ops:Array Oper}{side:Prop}{lost:List Nat}{c:List PanicEntry}(hm:P.follows .mixedOrders=true)
  (hg:Cm Γ W bs nt ops ops.toList σ.n σ.φ σ.h=⟨side,some c,lost⟩) (hside:side)
  (hQ:Q (.panic c) W bs ⟨σ.n,tC ops σ.φ,dropKeys σ.h lost⟩):Wp P W bs nt ds (.region id ops false) Q σ:=λa w hs=>
 Pa Γ hs hg hside λa' w' hs' => ⟨W,bs,_,Ext.refl W bs,hQ,hs'⟩
theorem Wp.qK(Γ:Env P){id:Nat}{ops:Array Oper}{side:Prop}{n:Nat}{φ:Fr}{h:Hp}{pans:List (Option (List PanicEntry))}{lost:List Nat}{fx:List (List Nat×List Nat)}{c:List PanicEntry}(hm:P.follows .mixedOrders=true)
  (hg:qT Γ W bs nt ops ops.toList σ.n σ.φ σ.h=⟨side,n,φ,h,pans,lost,fx⟩) (hp:pans.filter Option.isSome=[some c]) (hd:(kP ops&&lj ops fx)=true) (hside:side)
  (hQ:Q (.panic c) W bs ⟨σ.n,tC ops σ.φ,dropKeys σ.h lost⟩):Wp P W bs nt ds (.region id ops true) Q σ:=
 Wp.Si Γ hm hg hside (λ_=>by rw[Bool.and_eq_true]at hd;exact hd) (λhn=>by cases hn _ (R7 hp).1) λc' hc' => by rw[(R7 hp).2 c' hc'];exact hQ
theorem Wp.bn(Γ:Env P){id:Nat}{ops:Array Oper}{y:Code}{side:Prop}{lost:List Nat}{c:List PanicEntry}(hm:P.follows .mixedOrders=true)
  (hg:Cm Γ W bs nt ops ops.toList σ.n σ.φ σ.h=⟨side,some c,lost⟩) (hside:side)
  (hQ:Q (.panic c) W bs ⟨σ.n,tC ops σ.φ,dropKeys σ.h lost⟩):Wp P W bs nt ds (.seq (.region id ops false) y) Q σ:=
 Wp.seq (Wp.dF Γ hm hg hside hQ)
theorem Wp.Ic(Γ:Env P){id:Nat}{ops:Array Oper}{y:Code}{side:Prop}{n:Nat}{φ:Fr}{h:Hp}{pans:List (Option (List PanicEntry))}{lost:List Nat}{fx:List (List Nat×List Nat)}{c:List PanicEntry}(hm:P.follows .mixedOrders=true)
  (hg:qT Γ W bs nt ops ops.toList σ.n σ.φ σ.h=⟨side,n,φ,h,pans,lost,fx⟩) (hp:pans.filter Option.isSome=[some c]) (hd:(kP ops&&lj ops fx)=true) (hside:side)
  (hQ:Q (.panic c) W bs ⟨σ.n,tC ops σ.φ,dropKeys σ.h lost⟩):Wp P W bs nt ds (.seq (.region id ops true) y) Q σ:=
 Wp.seq (Wp.qK Γ hm hg hp hd hside hQ)
theorem Wp.akm(Γ:Env P){id:Nat}{ops:Array Oper}{y:Code}{side:Prop}{n:Nat}{φ:Fr}{h:Hp}{pans:List (Option (List PanicEntry))}{lost:List Nat}{fx:List (List Nat×List Nat)}(hm:P.follows .mixedOrders=true)
  (hg:qT Γ W bs nt ops ops.toList σ.n σ.φ σ.h=⟨side,n,φ,h,pans,lost,fx⟩) (hp:pans.all Option.isNone=true) (hside:side)
  (hQ:Wp P W bs nt ds y Q ⟨n,φ,h⟩):Wp P W bs nt ds (.seq (.region id ops false) y) Q σ:=
 Wp.seq (Wp.region Γ hm hg hside (λhd=>by cases hd) hQ λc hc=>by rw[List.all_eq_true]at hp;have:=hp _ hc;cases this)
theorem Wp.aiG(Γ:Env P){id:Nat}{ops:Array Oper}{y:Code}{side:Prop}{n:Nat}{φ:Fr}{h:Hp}{pans:List (Option (List PanicEntry))}{lost:List Nat}{fx:List (List Nat×List Nat)}(hm:P.follows .mixedOrders=true)
  (hg:qT Γ W bs nt ops ops.toList σ.n σ.φ σ.h=⟨side,n,φ,h,pans,lost,fx⟩) (hp:pans.all Option.isNone=true) (hd:(kP ops&&lj ops fx)=true) (hside:side)
  (hQ:Wp P W bs nt ds y Q ⟨n,φ,h⟩):Wp P W bs nt ds (.seq (.region id ops true) y) Q σ:=
 Wp.seq (Wp.region Γ hm hg hside (λ_=>by rw[Bool.and_eq_true]at hd;exact hd) hQ λc hc=>by rw[List.all_eq_true]at hp;have:=hp _ hc;cases this)
theorem Wp.dW(Γ:Env P){id:Nat}{ops:Array Oper}{side:Prop}{n:Nat}{φ:Fr}{h:Hp}{pans:List (Option (List PanicEntry))}{lost:List Nat}{fx:List (List Nat×List Nat)}(hm:P.follows .mixedOrders=true)
  (hg:qT Γ W bs nt ops ops.toList σ.n σ.φ σ.h=⟨side,n,φ,h,pans,lost,fx⟩) (hp:pans.all Option.isNone=true) (hside:side)
  (hQ:Q .normal W bs ⟨n,φ,h⟩):Wp P W bs nt ds (.region id ops false) Q σ:=
 Wp.region Γ hm hg hside (λhd=>by cases hd) hQ λc hc=>by rw[List.all_eq_true]at hp;have:=hp _ hc;cases this
theorem Wp.afd(Γ:Env P){id:Nat}{ops:Array Oper}{side:Prop}{n:Nat}{φ:Fr}{h:Hp}{pans:List (Option (List PanicEntry))}{lost:List Nat}{fx:List (List Nat×List Nat)}(hm:P.follows .mixedOrders=true)
  (hg:qT Γ W bs nt ops ops.toList σ.n σ.φ σ.h=⟨side,n,φ,h,pans,lost,fx⟩) (hp:pans.all Option.isNone=true) (hd:(kP ops&&lj ops fx)=true) (hside:side)
  (hQ:Q .normal W bs ⟨n,φ,h⟩):Wp P W bs nt ds (.region id ops true) Q σ:=
 Wp.region Γ hm hg hside (λ_=>by rw[Bool.and_eq_true]at hd;exact hd) hQ λc hc=>by rw[List.all_eq_true]at hp;have:=hp _ hc;cases this
theorem Wp.loop{c:Code}{ι:Type}(I:ι->St)(ok:ι->Prop)(μ:ι->Nat)(p0:ι)(hle:Le W bs nt ds σ (I p0))(h0:ok p0)
  (round:∀ p,ok p->Wp P W bs nt ds c (Th (λW' bs' σ' => ∃ p',ok p' /\ μ p' < μ p/\Le W' bs' nt ds σ' (I p')) Q) (I p)):Wp P W bs nt ds (.loop c) Q σ:=λa w hs=>
 wp_loop_ghost (λn a w=>∃ p,ok p/\μ p=n/\Sat W bs nt ds (I p) a w) (μ p0) ⟨p0,h0,rfl,hle a w hs⟩ λn a w ⟨p,hp,hn,hsat⟩=>
  wp_mono (round p hp a w hsat) λe a' w' ⟨W',bs',σ',he,hq,hs'⟩=>by
   cases e with
   |normal=>
    obtain⟨p',hp',hlt,hle'⟩:=hq;exact⟨μ p',hn ▸ hlt,p',hp',rfl,Sat.back he (hle' a' w' hs')⟩
   |_=>exact⟨W',bs',σ',he,hq,hs'⟩
theorem Wp.qI{c:Code}{ι:Type}(I:ι->St)(V:ι->World)(B:ι->List Nat)(ok:ι->Prop)(μ:ι->Nat)(p0:ι)(hV:V p0=W)(hB:B p0=bs)(hle:Le W bs nt ds σ (I p0))(h0:ok p0)
  (round:∀ p,ok p->Ext W bs (V p) (B p)->Wp P (V p) (B p) nt ds c (Th (λW' bs' σ' => ∃ p',ok p' /\ μ p' < μ p/\V p' = W' /\ B p' = bs' /\ Le W' bs' nt ds σ' (I p')) Q) (I p)):Wp P W bs nt ds (.loop c) Q σ:=λa w hs=>
 wp_loop_ghost (λn a w=>∃ p,ok p/\μ p=n/\Ext W bs (V p) (B p)/\Sat (V p) (B p) nt ds (I p) a w) (μ p0) ⟨p0,h0,rfl,by rw[hV,hB];exact Ext.refl W bs,by rw[hV,hB];exact hle a w hs⟩ λn a w ⟨p,hp,hn,hx,hsat⟩=>
  wp_mono (round p hp hx a w hsat) λe a' w' ⟨W',bs',σ',he,hq,hs'⟩=>by
   cases e with
   |normal=>
    obtain⟨p',hp',hlt,rfl,rfl,hle'⟩:=hq;exact⟨μ p',hn ▸ hlt,p',hp',rfl,hx.trans he,hle' a' w' hs'⟩
   |_=>exact⟨W',bs',σ',hx.trans he,hq,hs'⟩
inductive Src where
 |key (k:Nat)
 |nil
def zF:Value:=.slice none 0 0
mutual
def kb(m:Nat->Src):SV->SV
 |.v x=>.v x
 |.own k o=>match m k with|.key j=>.own j o|.nil=>.v .nilIface
 |.hd k=>match m k with|.key j=>.hd j|.nil=>.v zF
 |.agg l=>.agg (jP m l)
 |.tup l=>.tup (jP m l)
 |.nr t x=>.nr t (kb m x)
 |.part k i=>match m k with|.key j=>.part j i|.nil=>.v .nilIface
 |.fn f a c=>.fn f (jP m a) (jP m c)
def jP(m:Nat->Src):List SV->List SV
 |[]=>[]
 |x::r=>kb m x::jP m r
end
def pL(E:Nat->Value)(m:Nat->Src)(k:Nat):Value:=match m k with|.key j=>E j|.nil=>zF
def mT(F:Nat->List Nat)(m:Nat->Src)(k:Nat):List Nat:=match m k with|.key j=>F j|.nil=>[]
mutual
theorem ni(E:Nat->Value)(m:Nat->Src):∀ x:SV,den E (kb m x)=den (pL E m) x
 |.v x=>rfl
 |.own k o=>by
  simp only[kb,den,pL];cases m k<;>rfl
 |.hd k=>by
  simp only[kb,den,pL];cases m k<;>rfl
 |.agg l=>by simp only[kb,den,fD E m l]
 |.tup l=>by simp only[kb,den,fD E m l]
 |.nr t x=>by simp only[kb,den,ni E m x]
 |.part k i=>by
  simp only[kb,den,pL];cases m k<;>rfl
 |.fn f a c=>by simp only[kb,den,fD E m a,fD E m c]
theorem fD(E:Nat->Value)(m:Nat->Src):∀ l:List SV,ai E (jP m l)=ai (pL E m) l
 |[]=>rfl
 |x::r=>by simp only[jP,ai,ni E m x,fD E m r]
end
def ij(m:Nat->Src):aX->aX
 |.cells T vs=>.cells T (jP m vs)
 |.row T s n vs=>.row T s n (jP m vs)
 |.mp ks vs=>.mp ks (jP m vs)
 |.obj d R=>.obj d R
theorem Bb{E:Nat->Value}{m:Nat->Src}{u:Value}{fp:List Nat}{w:World}{e:aX}(h:bu E u fp w (ij m e)):bu (pL E m) u fp w e:=by
 cases e with
 |cells T vs=>simpa [bu,ij,fD] using h
 |row T s n vs=>simpa [bu,ij,fD] using h
 |mp ks vs=>simpa [bu,ij,fD] using h
 |obj d R=>exact h
def ee:List (Nat×FV)->Fr
 |[]=>λ_=>.any
 |(t,x)::r=>bo (ee r) t x
def dP:List (Nat×aX)->Hp
 |[]=>λ_=>none
 |(k,e)::r=>bo (dP r) k (some e)
def GV(m:Nat->Src):FV->FV->Prop
 |.is x,.is y=>x=kb m y
 |.cnd b x,.cnd c y=>b=c/\(b=true->x=kb m y)
 |.is x,.cnd c y=>c=true/\x=kb m y
 |.cnd b x,.is y=>b=true/\x=kb m y
 |_,.any=>True
 |.any,_=>False
theorem Uj{E:Nat->Value}{m:Nat->Src}{x y:FV}{u:Value}(hle:GV m x y)(hf:fits E x u):fits (pL E m) y u:=by
 cases x with
 |is x=>
  cases y with
  |is y=>simp only[GV]at hle;simp only[fits]at hf ⊢;rw[hf,hle,ni]
  |cnd c y=>obtain⟨rfl,hle⟩:=hle;simp only[fits,cond_true]at hf ⊢;rw[hf,hle,ni]
  |any=>trivial
 | cnd b x=>
  cases y with
  |is y=>obtain⟨rfl,hle⟩:=hle;simp only[fits,cond_true]at hf ⊢;rw[hf,hle,ni]
  |cnd c y=>
   obtain⟨rfl,hle⟩:=hle;cases b with
   |false=>exact hf
   |true=>simp only[fits,cond_true]at hf ⊢;rw[hf,hle rfl,ni]
  |any=>trivial
 |any=>cases y<;>first|trivial|exact hle.elim
def GS(m:Nat->Src)(φ:Fr):List (Nat×FV)->Prop
 |[]=>True
 |(t,x)::r=>GV m (φ t) x/\GS m φ r
def nj(m:Nat->Src)(h:Hp)(k:Nat)(e:aX):Prop:=match m k with
 |.key j=>h j=some (ij m e)
 |.nil=>match e with
  |.row _ sz n vs=>0<sz/\n=0/\vs=[]
  |_=>False
def vG(m:Nat->Src)(h:Hp):List (Nat×aX)->Prop
 |[]=>True
 |(k,e)::r=>nj m h k e/\vG m h r
def dR(m:Nat->Src):List (Nat×aX)->List Nat
 |[]=>[]
 |(k,_)::r=>(match m k with|.key j=>[j]|.nil=>[])++dR m r
def Kx(n:Nat)(L:List (Nat×FV))(H:List (Nat×aX)):Prop:=
 (∀ p∈L,∀ k∈p.2.keys,k / 8<n)/\(∀ p∈H,p.1 / 8<n/\∀ k∈p.2.keys,k / 8<n)
theorem oC{L:List (Nat×FV)}(t:Nat):ee L t=.any\/∃ p∈L,p.1=t/\ee L t=p.2:=by
 induction L with
 |nil=>exact .inl rfl
 | cons p r ih=>
  by_cases ht:t=p.1
  ·exact .inr ⟨p,sI,ht.symm,by simp[ee,bo,ht]⟩
  ·rcases ih with ih|⟨q,hq,h1,h2⟩
   ·exact .inl (by simp[ee,bo,ht,ih])
   ·exact .inr ⟨q,by simp[hq],h1,by simp[ee,bo,ht,h2]⟩
theorem eg{H:List (Nat×aX)}{k:Nat}{e:aX}(h:dP H k=some e):(k,e)∈H:=by
 induction H with
 |nil=>cases h
 |cons p r ih=>
  by_cases ht:k=p.1
  ·simp[dP,bo,ht]at h;subst h;simp[ht]
  ·simp[dP,bo,ht]at h;simp[ih h]
theorem Kk{m:Nat->Src}{φ:Fr}:∀ {L:List (Nat×FV)},GS m φ L->∀ p∈L,GV m (φ p.1) p.2
 |_::_,h,p,hp=>by
  rcases List.mem_cons.1 hp with rfl|hp
  ·exact h.1
  ·exact Kk h.2 p hp
theorem Bs{m:Nat->Src}{h:Hp}:∀ {H:List (Nat×aX)},vG m h H->∀ p∈H,nj m h p.1 p.2
 |_::_,h,p,hp=>by
  rcases List.mem_cons.1 hp with rfl|hp
  ·exact h.1
  ·exact Bs h.2 p hp
theorem rZ{m:Nat->Src}{k:Nat}:∀ {H:List (Nat×aX)},∀ y∈H,m y.1=.key k->k∈dR m H
 |z::t,y,hy,hk=>by
  simp only[dR,List.mem_append];rcases List.mem_cons.1 hy with rfl|hy
  ·left;rw[hk];simp
  ·right;exact rZ y hy hk
theorem uw{m:Nat->Src}:∀ {H:List (Nat×aX)},(dR m H).Nodup->∀ p∈H,∀ q∈H,p.1≠q.1->∀ i j,m p.1=.key i->m q.1=.key j->i≠j
 |[],_,p,hp,_,_,_,_,_,_,_=>by cases hp
 | x::r,hn,p,hp,q,hq,hpq,i,j,hi,hj=>by
  simp only[dR]at hn;rcases List.mem_cons.1 hp with rfl|hp'
  ·rcases List.mem_cons.1 hq with rfl|hq'
   ·exact absurd rfl hpq
   ·rw[hi]at hn;intro hij;subst hij;exact (List.nodup_append.1 hn).2.2 i sI i (rZ q hq' hj) rfl
  ·rcases List.mem_cons.1 hq with rfl|hq'
   ·rw[hj]at hn;intro hij;subst hij;exact (List.nodup_append.1 hn).2.2 i sI i (rZ p hp' hi) rfl
   ·exact uw (List.nodup_append.1 hn).2.1 p hp' q hq' hpq i j hi hj
theorem Le.mk(m:Nat->Src){n' : Nat}{L:List (Nat×FV)}{H:List (Nat×aX)}(hk:Kx n' L H)(hf:GS m σ.φ L)(hh:vG m σ.h H)(hn:(dR m H).Nodup)(hpn:∀ p∈ds.pins,m p.1=.key p.1/\p.1 / 8<n') :
  Le W bs nt ds σ ⟨n',ee L,dP H⟩:=by
 rintro a w ⟨⟨E,F,hφ,hs,hp⟩,hsz,hdf,_,_,_⟩;have at' : ∀ k e,dP H k=some e->nj m σ.h k e:=λk e he=>Bs hh _ (eg he)
 have key:∀ k e j,dP H k=some e->m k=.key j->σ.h j=some (ij m e):=λk e j he hj=>by
  have:=at' k e he;simpa only[nj,hj] using this
 refine⟨⟨pL E m,mT F m,λt=>?_,⟨λk e he=>?_,λk e he b hb=>?_,λk e he b hb=>?_,λk k' e e' hne he he' b hb=>?_,hs.keeps⟩,λp hpp=>?_⟩,hsz,hdf,λp hpp=>(hpn p hpp).2,λt k hk' => ?_,λk e he=>?_⟩
 ·rcases oC (L:=L) t with h|⟨p,hp,rfl,h⟩
  ·simp only[h];trivial
  ·simp only[h];exact Uj (Kk hf p hp) (hφ p.1)
 ·cases hm:m k with
  |key j=>
   simp only[pL,mT,hm];exact Bb (hs.ent j _ (key k e j he hm))
  | nil=>
   have:=at' k e he;simp only[nj,hm]at this;cases e with
   |row T s n vs=>
    obtain⟨h0,rfl,rfl⟩:=this;simp only[pL,mT,hm];exact⟨⟨by simp[ai],.inl ⟨rfl,rfl⟩⟩,rfl⟩
   |cells T vs=>exact this.elim
   |mp ks vs=>exact this.elim
   |obj d R=>exact this.elim
 ·cases hm:m k with
  |key j=>simp only[mT,hm]at hb;exact hs.lt j _ (key k e j he hm) b hb
  |nil=>simp only[mT,hm]at hb;cases hb
 ·cases hm:m k with
  |key j=>simp only[mT,hm]at hb;exact hs.mine j _ (key k e j he hm) b hb
  |nil=>simp only[mT,hm]at hb;cases hb
 ·cases hm:m k with
  |nil=>simp only[mT,hm]at hb;cases hb
  | key i=>
   cases hm' : m k' with
   |nil=>simp only[mT,hm'];simp
   |key j=>
    simp only[mT,hm,hm']at hb ⊢;exact hs.apart i j _ _ (uw hn _ (eg he) _ (eg he') hne i j hm hm') (key k e i he hm) (key k' e' j he' hm') b hb
 ·simp only[pL,(hpn p hpp).1];exact hp p hpp
 ·rcases oC (L:=L) t with h|⟨p,hp,_,h⟩
  ·simp only[h]at hk';cases hk'
  ·simp only[h]at hk';exact hk.1 p hp k hk'
 ·exact hk.2 _ (eg he)
end
end
section
open Go.RowKit
section
variable {P:Program}{W:World}{bs:List Nat}{nt:Nat}{ds:Aux}{σ:St}
theorem Zo{E:Nat->Value}{F:Nat->List Nat}{h:Nat->Option aX}{w:World}{T:TypeId}{k o:Nat}(hs:aj W bs E F h w)(hside:(dG P W bs h T [.own k o]).side) :
  ∃ a,den E (.own k o)=.pointer (some a)/\(loadVar T a).run P w=.ok (den E (dG P W bs h T [.own k o]).val) w:=by
 revert hside;simp only[dG];split
 ·rename_i sz vs hsz hag hvs;rintro⟨hlen,hpos⟩;obtain⟨b,hb,hcells⟩:=gO hs hvs oM;have hrun:(loadVar T ⟨b,0+o,none⟩).run P w=.ok (.agg (((ai E vs).drop o).take sz).toArray) w:=by
   refine iG hsz hag _ _ (by simp[aF];omega) λj v hj=>?_
   have hjl:j<sz:=by
    have:=(List.getElem?_eq_some_iff.1 hj).1;simp at this;omega
   rw[Addr.add_lit,Nat.zero_add,hcells (o+j) oM];rw[List.getElem?_take,if_pos hjl,List.getElem?_drop]at hj;rw[hj];rfl
  refine⟨⟨b,0+o,none⟩,by simp[den,hb,dj],?_⟩;rw[hrun];simp[den,bA,List.map_take,List.map_drop]
 ·rename_i sz vs hsz hag hvs;intro hlen;obtain⟨b,hb,hcells⟩:=gO hs hvs (Nat.zero_lt_of_lt hlen);have hrun:=iH (w:=w) hag ⟨b,0+o,none⟩ ((ai E vs)[o]?.getD undef) (by rw[Nat.zero_add];exact hcells o hlen);refine⟨⟨b,0+o,none⟩,by simp[den,hb,dj],?_⟩;rw[hrun,sT]
 ·exact λhf=>hf.elim
def mb(P:Program)(W:World)(bs:List Nat)(σ:St):ResultVar->Prop×SV
 |.tmp t=>match σ.φ t with
  |.is x=>(True,x)
  |.cnd b x=>(b=true,x)
  |.any=>(False,.v undef)
 |.cell t T=>match σ.φ t with
  |.is (.own k o)=>((dG P W bs σ.h T [.own k o]).side,(dG P W bs σ.h T [.own k o]).val)
  |_=>(False,.v undef)
def kf(P:Program)(W:World)(bs:List Nat)(σ:St):List ResultVar->Prop×List SV
 |[]=>(True,[])
 |r::l=>((mb P W bs σ r).1/\(kf P W bs σ l).1,(mb P W bs σ r).2::(kf P W bs σ l).2)
def mh:List SV->SV
 |[x]=>x
 |l=>.tup l
def Fin(P:Program)(rs:List ResultVar)(R:World->List Nat->SV->Hp->Prop)(RP:List PanicEntry->Hp->Prop):lR
 |.normal,W,bs,σ|.ret,W,bs,σ=>(kf P W bs σ rs).1/\R W bs (mh (kf P W bs σ rs).2) σ.h
 |.panic c,_,_,σ=>RP c σ.h
 |_,_,_,_=>False
def Ends(W:World)(bs:List Nat)(pins:List (Nat×Value))(R:World->List Nat->SV->Hp->Prop)(RP:List PanicEntry->Hp->Prop):Ending->World->Prop
 |.returned v,w' => ∃ W' bs' E F x h,Ext W bs W' bs' /\ R W' bs' x h/\v=den E x/\aj W' bs' E F h w' /\ ∀ p∈pins,E p.1=p.2
 |.panicked c,w' => ∃ W' bs' E F h,Ext W bs W' bs' /\ RP c h/\aj W' bs' E F h w' /\ ∀ p∈pins,E p.1=p.2
 |.outgrown,_=>False
def nJ(a:Act):ResultVar->Sem Value
 |.tmp t=>pure (a.tmps.getD t undef)
 |.cell x t=>do loadVar t (<- asAddr (a.tmps.getD x undef))
theorem Pe{E:Nat->Value}{F:Nat->List Nat}{a:Act}{w:World}(hφ:jl E σ.φ a)(hs:aj W bs E F σ.h w)(r:ResultVar)(hr:(mb P W bs σ r).1) :
  (nJ a r).run P w=.ok (den E (mb P W bs σ r).2) w:=by
 cases r with
 | tmp t=>
  have:=hφ t;simp only[mb,nJ]at hr ⊢;revert hr this;cases σ.φ t with
  |is x=>intro _ h;simp only[fits]at h;rw[h];rfl
  |cnd b x=>
   intro hb h;simp only at hb;subst hb;simp only[fits,cond_true]at h;rw[h];rfl
  |any=>exact λhf _=>hf.elim
 | cell t T=>
  have:=hφ t;simp only[mb,nJ]at hr ⊢;revert hr this;split
  ·rename_i k o hk;intro hr h;rw[hk]at h;simp only[fits]at h;obtain⟨ad,h1,h2⟩:=Zo hs hr;rw[h,h1];simpa [asAddr] using h2
  ·exact λhf _=>hf.elim
theorem Lx{E:Nat->Value}{F:Nat->List Nat}{a:Act}{w:World}(hφ:jl E σ.φ a)(hs:aj W bs E F σ.h w):∀ (l:List ResultVar),(kf P W bs σ l).1 ->
  (l.mapM (nJ a)).run P w=.ok (ai E (kf P W bs σ l).2) w
 |[],_=>rfl
 |r::l,h=>by
  have h1:=Pe hφ hs r h.1;have h2:=Lx hφ hs l h.2;rw[List.mapM_cons];simp[h1,h2,kf,ai]
theorem kO{E:Nat->Value}{F:Nat->List Nat}{a:Act}{w:World}{fn:Func}(hφ:jl E σ.φ a)(hs:aj W bs E F σ.h w)(h:(kf P W bs σ fn.results.toList).1) :
  (results fn a.tmps).run P w=.ok (den E (mh (kf P W bs σ fn.results.toList).2)) w:=by
 have h1:=Lx hφ hs fn.results.toList h;have h2:results fn a.tmps=((Functor.map List.toArray (fn.results.toList.mapM (nJ a))) >>= λ(vs:Array Value)=>(pure (if h:vs.size=1 then vs[0] else .tuple vs):Sem Value)):=by
  rw[<- Array.mapM_eq_mapM_toList];unfold results
  congr 1
 rw[h2];have:((Functor.map List.toArray (fn.results.toList.mapM (nJ a))) >>= λ(vs:Array Value)=>(pure (if h:vs.size=1 then vs[0] else .tuple vs):Sem Value)).run P w =
   .ok (den E (mh (kf P W bs σ fn.results.toList).2)) w:=by
  simp only[map_eq_pure_bind,bind_assoc,pure_bind];simp[h1];generalize (kf P W bs σ fn.results.toList).2=l
  match l with
  |[]=>simp[ai,mh,den]
  |[x]=>simp[ai,mh]
  |x::y::r=>simp[ai,mh,den]
 exact this
theorem oz{f:FuncId}{fn:Func}{c:Code}{args:Array Value}{w:World}{pins:List (Nat×Value)}{R:World->List Nat->SV->Hp->Prop}{RP:List PanicEntry->Hp->Prop}
  (hf:P.funcs[f]?=some fn) (hb:fn.body=some c)
  (hsat:Sat W bs nt ⟨[],pins⟩ σ { tmps:=args++Array.replicate (fn.ntmps-args.size) undef,defers:=[] } w)
  (h:Wp P W bs nt ⟨[],pins⟩ c (Fin P fn.results.toList R RP) σ) :
  Calls P f args w (Ends W bs pins R RP):=by
 refine calls_of_wp hf hb (wp_mono (h _ w hsat) λe a' w' ⟨W',bs',σ',hx,hq,hs'⟩=>?_);obtain⟨⟨E,F,hφ,hh,hp⟩,hsz,hdf,_⟩:=hs'
 have ret:(kf P W' bs' σ' fn.results.toList).1/\R W' bs' (mh (kf P W' bs' σ' fn.results.toList).2) σ'.h->a'.defers=[]/\∃ v,(results fn a'.tmps).run P w' = .ok v w' /\ Ends W bs pins R RP (.returned v) w' :=
  λhq=>⟨hdf,_,kO hφ hh hq.1,W',bs',E,F,_,_,hx,hq.2,rfl,hh,hp⟩
 cases e with
 |normal=>exact ret hq
 |ret=>exact ret hq
 |panic ch=>exact⟨hdf,W',bs',E,F,_,hx,hq,hh,hp⟩
 |exit i=>exact hq.elim
 |goto l=>exact hq.elim
 |outgrown=>exact hq.elim
theorem xX{κ:Nat}{E:Nat->Value}{F:Nat->List Nat}{h:Hp}{w:World}{f:FuncId}{args:Array Value}{r:R}{v:Value}(hs:aj W bs E F h w)
  (hc:Calls P f args w λe w' => e=.returned v/\an w [] w') (hv:v=den E r.val) (hu:r.bo=[]) (hp:r.pan=none) :
  Good P W bs κ E h r (.ok (.enter f args) w):=by
 refine hc.mono λe w' he=>?_
 obtain⟨rfl,hk⟩:=he;exact⟨hp,E,F,λ_ _=>rfl,hv,by rw[hu];exact hs.grow hk⟩
theorem Bk{κ:Nat}{E:Nat->Value}{F:Nat->List Nat}{h:Hp}{w:World}{K:Nat->Prop}{f:FuncId}{args:Array Value}{r:R}{e:aX}(hs:aj W bs E F h w)
  (hK:bN K h) (hk:∀ k,k / 8=κ->¬ K k)
  (hc:Calls P f args w λen w' => ∃ v u fp,en=.returned v/\(∀ E',bu E' u fp w' e)/\(∀ b∈fp,w.heap.size<=b/\b<w'.heap.size)/\an w [] w' /\ v=den (bo E (nk κ) u) r.val)
  (hu:r.bo=[(nk κ,some e)]) (hp:r.pan=none) :
  Good P W bs κ E h r (.ok (.enter f args) w):=by
 refine hc.mono λen w' he=>?_
 obtain⟨v,u,fp,rfl,hent,hfp,hkeep,hv⟩:=he;refine⟨hp,bo E (nk κ) u,bo F (nk κ) fp,λk hk' => al _ _ λe=>hk' (by subst e;exact aZ κ),hv,?_⟩;rw[hu];exact hs.new hK (hk _ (aZ κ)) (hent _) hfp hkeep
end
section
variable {P:Program}{W:World}{bs:List Nat}{nt:Nat}{ds:Aux}{σ:St}{ops:Array Oper}(Γ:Env P)
def alW(dst:Option Nat)(r:List Oper)(κ:Nat)(φ:Fr)(h:Hp)(s:S):RG:=
 Lz s (qT Γ W bs nt ops r (κ+1) (oS φ dst s.fv) (a8 h s.bo))
theorem afi(κ:Nat)(φ:Fr)(h:Hp):qT Γ W bs nt ops [] κ φ h=⟨True,κ,φ,h,[],[],[]⟩:=rfl
theorem aaA(o:Oper)(r:List Oper)(κ:Nat)(φ:Fr)(h:Hp):qT Γ W bs nt ops (o::r) κ φ h=alW (W:=W) (bs:=bs) (nt:=nt) (ops:=ops) Γ o.dst r κ φ h (step Γ W bs nt ops κ φ h o):=rfl
theorem afh(dst:Option Nat)(r:List Oper)(κ:Nat)(φ:Fr)(h:Hp)(side:Prop)(fv:FV)(u:List (Nat×Option aX))(pan:Option (List PanicEntry))(pupd reads uk:List Nat) :
  alW (W:=W) (bs:=bs) (nt:=nt) (ops:=ops) Γ dst r κ φ h ⟨side,fv,u,pan,pupd,reads,uk⟩=Lz ⟨side,fv,u,pan,pupd,reads,uk⟩ (qT Γ W bs nt ops r (κ+1) (oS φ dst fv) (a8 h u)):=rfl
theorem aax(side side' : Prop)(n:Nat)(fv:FV)(u:List (Nat×Option aX))(pan:Option (List PanicEntry))(pupd reads uk lost:List Nat)(φ:Fr)(h:Hp)(pans:List (Option (List PanicEntry)))(fx:List (List Nat×List Nat)) :
  Lz ⟨side,fv,u,pan,pupd,reads,uk⟩ ⟨side',n,φ,h,pans,lost,fx⟩=⟨side/\side',n,φ,h,pan::pans,uk++pupd++lost,(uk,reads)::fx⟩:=rfl
def aay(Γ:Env P)(dst:Option Nat)(r:List Oper)(κ:Nat)(φ:Fr)(h:Hp)(s:S):RP:=match s.pan with
 |some c=>⟨s.side,some c,s.uk++s.pupd⟩
 |none=>LA s (Cm Γ W bs nt ops r (κ+1) (oS φ dst s.fv) (a8 h s.bo))
theorem VS(o:Oper)(r:List Oper)(κ:Nat)(φ:Fr)(h:Hp):Cm Γ W bs nt ops (o::r) κ φ h=aay (W:=W) (bs:=bs) (nt:=nt) (ops:=ops) Γ o.dst r κ φ h (step Γ W bs nt ops κ φ h o):=rfl
theorem Pj(dst:Option Nat)(r:List Oper)(κ:Nat)(φ:Fr)(h:Hp)(side:Prop)(fv:FV)(u:List (Nat×Option aX))(c:List PanicEntry)(pupd reads uk:List Nat) :
  aay (W:=W) (bs:=bs) (nt:=nt) (ops:=ops) Γ dst r κ φ h ⟨side,fv,u,some c,pupd,reads,uk⟩=⟨side,some c,uk++pupd⟩:=rfl
theorem Ph(dst:Option Nat)(r:List Oper)(κ:Nat)(φ:Fr)(h:Hp)(side:Prop)(fv:FV)(u:List (Nat×Option aX))(pupd reads uk:List Nat) :
  aay (W:=W) (bs:=bs) (nt:=nt) (ops:=ops) Γ dst r κ φ h ⟨side,fv,u,none,pupd,reads,uk⟩=LA ⟨side,fv,u,none,pupd,reads,uk⟩ (Cm Γ W bs nt ops r (κ+1) (oS φ dst fv) (a8 h u)):=rfl
theorem aaC(side side' : Prop)(fv:FV)(u:List (Nat×Option aX))(pan:Option (List PanicEntry))(pupd reads uk lost:List Nat)(c:Option (List PanicEntry)) :
  LA ⟨side,fv,u,pan,pupd,reads,uk⟩ ⟨side',c,lost⟩=⟨side/\side',c,uk++pupd++lost⟩:=rfl
def cD:Op->Bool
 |.pick _ _ _=>true
 |_=>false
theorem Uy :
  (∀ (x:Operand),cD (.move x)=false) /\
  (∀ (x:Operand),cD (.assign x)=false) /\
  (∀ (elem:TypeId),cD (.alloc elem)=false) /\
  (∀ (elem:TypeId) (v:Operand),cD (.box elem v)=false) /\
  (∀ (t:TypeId) (parts:Array (Nat×Operand)),cD (.build t parts)=false) /\
  (∀ (t:TypeId) (len:Nat) (parts:Array (Nat×Operand)),cD (.buildSlice t len parts)=false) /\
  (∀ (t:TypeId) (addr:Operand),cD (.load t addr)=false) /\
  (∀ (t:TypeId) (addr val:Operand),cD (.store t addr val)=false) /\
  (∀ (x:Operand),cD (.nilCheck x)=false) /\
  (∀ (op:BinOp) (xType:TypeId) (x y:Operand) (yType:TypeId),cD (.binOp op xType x y yType)=false) /\
  (∀ (op:UnOp) (xType:TypeId) (x:Operand),cD (.unOp op xType x)=false) /\
  (∀ (src dst:TypeId) (x:Operand),cD (.convert src dst x)=false) /\
  (∀ (xType:TypeId) (x:Operand),cD (.makeInterface xType x)=false) /\
  (∀ (fn:Fn) (first captured:Array Operand),cD (.makeFunc fn first captured)=false) /\
  (∀ (t:TypeId) (len cap:Operand),cD (.makeSlice t len cap)=false) /\
  (∀ (xType:TypeId) (x:Operand) (low high max:Option Operand),cD (.slice xType x low high max)=false) /\
  (∀ (xType:TypeId) (x:Operand) (field:Nat),cD (.fieldAddr xType x field)=false) /\
  (∀ (xType:TypeId) (x:Operand) (field:Nat),cD (.field xType x field)=false) /\
  (∀ (xType:TypeId) (x index:Operand),cD (.indexAddr xType x index)=false) /\
  (∀ (xType:TypeId) (x index:Operand),cD (.index xType x index)=false) /\
  (∀ (x:Operand) (xType asserted:TypeId) (commaOk:Bool),cD (.typeAssert x xType asserted commaOk)=false) /\
  (∀ (tuple:Operand) (index:Nat),cD (.extract tuple index)=false) /\
  (∀ (c:Call),cD (.call c)=false) /\
  (∀ (x:Operand),cD (.panic x)=false):=by
 refine⟨?_,?_,?_,?_,?_,?_,?_,?_,?_,?_,?_,?_,?_,?_,?_,?_,?_,?_,?_,?_,?_,?_,?_,?_⟩<;>(intros;rfl)
def zv(nt:Nat):Option Nat->Prop
 |some d=>d<nt
 |none=>True
theorem Ka(d:Option Nat):(∀ i,d=some i->i<nt)=zv nt d:=by
 cases d<;>simp[zv]
def Sv(nt:Nat)(dst:Option Nat)(un:Bool)(p:Prop)(b:Bool)(q:Prop)(r:R):S:=
 ⟨p/\q/\(b=true->r.side)/\zv nt dst,vS un b r.val,bif b then r.bo else [],bif b then r.pan else none,r.pupd,r.reads,cg r.bo⟩
def Su(W:World)(bs:List Nat)(nt:Nat)(κ:Nat)(h:Hp)(dst:Option Nat)(un:Bool)(op:Op)(p:Prop)(b:Bool)(e:Prop×List SV):S:=
 Sv nt dst un p b e.1 (dY Γ W bs κ h op e.2)
def stepG(W:World)(bs:List Nat)(nt:Nat)(κ:Nat)(φ:Fr)(h:Hp)(dst:Option Nat)(un:Bool)(op:Op)(g:Prop×Bool):S:=
 Su Γ W bs nt κ h dst un op g.1 g.2 (qQ φ g.2 op.operands.toList)
theorem afL(κ:Nat)(φ:Fr)(h:Hp)(dst:Option Nat)(op:Op)(ty:TypeId)(pos:String)(after:Array Edge)(guard:Option (Nat×Bool))(hop:cD op=false) :
  step Γ W bs nt ops κ φ h ⟨dst,op,ty,pos,after,guard⟩=stepG Γ W bs nt κ φ h dst guard.isNone op (j6 φ ops guard):=by
 rw[fA Γ (by rintro c x y rfl;cases hop)];simp only[stepG,Su,Sv,Ka]
theorem abe(κ:Nat)(φ:Fr)(h:Hp)(dst:Option Nat)(un:Bool)(op:Op)(p:Prop)(b:Bool) :
  stepG Γ W bs nt κ φ h dst un op (p,b)=Su Γ W bs nt κ h dst un op p b (qQ φ b op.operands.toList):=rfl
theorem abd(κ:Nat)(h:Hp)(dst:Option Nat)(un:Bool)(op:Op)(p:Prop)(b:Bool)(q:Prop)(l:List SV) :
  Su Γ W bs nt κ h dst un op p b (q,l)=Sv nt dst un p b q (dY Γ W bs κ h op l):=rfl
theorem abh(dst:Option Nat)(un:Bool)(p:Prop)(b:Bool)(q side:Prop)(val:SV)(u:List (Nat×Option aX))(pan:Option (List PanicEntry))(pupd reads:List Nat) :
  Sv nt dst un p b q ⟨side,val,u,pan,pupd,reads⟩=⟨p/\q/\(b=true->side)/\zv nt dst,vS un b val,bif b then u else [],bif b then pan else none,pupd,reads,cg u⟩:=rfl
def Ie(nt:Nat)(φ:Fr)(dst:Option Nat)(un:Bool)(x y:Operand)(p:Prop)(g:Bool):Prop×SV->S
 |(q,.v (.bool cb))=>⟨p/\q/\(cb=true->(pe φ (g&&cb) x).1)/\(cb=false->(pe φ (g&&!cb) y).1)/\zv nt dst,vS un g (vW cb (pe φ (g&&cb) x).2 (pe φ (g&&!cb) y).2),[],none,[],[],[]⟩
 |_=>⟨False,.any,[],none,[],[],[]⟩
def abf(nt:Nat)(φ:Fr)(dst:Option Nat)(un:Bool)(c x y:Operand)(g:Prop×Bool):S:=Ie nt φ dst un x y g.1 g.2 (pe φ g.2 c)
theorem Wx(κ:Nat)(φ:Fr)(h:Hp)(dst:Option Nat)(c x y:Operand)(ty:TypeId)(pos:String)(after:Array Edge)(guard:Option (Nat×Bool)) :
  step Γ W bs nt ops κ φ h ⟨dst,.pick c x y,ty,pos,after,guard⟩=abf nt φ dst guard.isNone c x y (j6 φ ops guard):=by
 simp only[step,abf,Ka];split
 ·rename_i cb hcb;rw[show pe φ (j6 φ ops guard).2 c=((pe φ (j6 φ ops guard).2 c).1,.v (.bool cb)) from by rw[<- hcb]];rfl
 ·rename_i hn;unfold Ie;split
  ·rename_i q cb he;exact absurd (by rw[he]) (hn cb)
  ·rfl
theorem abg(φ:Fr)(dst:Option Nat)(un:Bool)(c x y:Operand)(p:Prop)(g:Bool):abf nt φ dst un c x y (p,g)=Ie nt φ dst un x y p g (pe φ g c):=rfl
theorem Wu(φ:Fr)(dst:Option Nat)(un:Bool)(x y:Operand)(p q:Prop)(g cb:Bool):Ie nt φ dst un x y p g (q,.v (.bool cb)) =
  ⟨p/\q/\(cb=true->(pe φ (g&&cb) x).1)/\(cb=false->(pe φ (g&&!cb) y).1)/\zv nt dst,vS un g (vW cb (pe φ (g&&cb) x).2 (pe φ (g&&!cb) y).2),[],none,[],[],[]⟩:=rfl
def evS(w:Bool):FV->Prop×SV
 |.is x=>(True,x)
 |.cnd b x=>(w=true->b=true,x)
 |.any=>(w=false,.v undef)
theorem ad8(φ:Fr)(w:Bool)(t:Nat):pe φ w (.tmp t)=evS w (φ t):=by
 simp only[pe,evS];cases φ t<;>rfl
theorem ajp(w:Bool)(x:SV):evS w (.is x)=(True,x):=rfl
theorem ad9(w b:Bool)(x:SV):evS w (.cnd b x)=(w=true->b=true,x):=rfl
theorem Ub(φ:Fr)(w:Bool)(v:Value):pe φ w (.const v)=(True,.v v):=rfl
theorem N9(φ:Fr)(w:Bool)(g:Nat):pe φ w (.global g)=(True,.v (.pointer (some ⟨g,0,none⟩))):=rfl
theorem YC(φ:Fr)(w:Bool)(f:Nat):pe φ w (.func f)=(True,.v (.func (.func f) #[] #[])):=rfl
def evC:Prop×SV->Prop×List SV->Prop×List SV:=λa b=>(a.1/\b.1,a.2::b.2)
theorem ad7(φ:Fr)(w:Bool):qQ φ w []=(True,[]):=rfl
theorem YB(φ:Fr)(w:Bool)(o:Operand)(r:List Operand):qQ φ w (o::r)=evC (pe φ w o) (qQ φ w r):=rfl
theorem ajn(p q:Prop)(x:SV)(l:List SV):evC (p,x) (q,l)=(p/\q,x::l):=rfl
def Yx(want:Bool):FV->Prop×Bool
 |.is (.v (.bool b))=>(True,b == want)
 |.cnd c (.v (.bool b))=>(True,c&&(b == want))
 |_=>(False,false)
def ajo(φ:Fr)(want:Bool):Option Nat->Prop×Bool
 |some d=>Yx want (φ d)
 |none=>(False,false)
theorem Yz(φ:Fr):j6 φ ops none=(True,true):=rfl
theorem YA(φ:Fr)(j:Nat)(want:Bool):j6 φ ops (some (j,want))=ajo φ want ((ops[j]?).bind (·.dst)):=by
 simp only[j6,ajo];cases (ops[j]?).bind (·.dst) with
 |none=>rfl
 |some d=>simp only[Yx];split<;>simp_all
theorem T9(φ:Fr)(want:Bool)(d:Nat):ajo φ want (some d)=Yx want (φ d):=rfl
theorem ad6(want b:Bool):Yx want (.is (.v (.bool b)))=(True,b == want):=rfl
theorem Yy(want b c:Bool):Yx want (.cnd c (.v (.bool b)))=(True,c&&(b == want)):=rfl
theorem aeP(w:Bool)(x:SV):vS true w x=.is x:=rfl
theorem ajP(w:Bool)(x:SV):vS false w x=.cnd w x:=rfl
theorem OW(c a b:Bool):vW c (.v (.bool a)) (.v (.bool b))=.v (.bool (bif c then a else b)):=rfl
theorem akI{α:Type}(f:Nat->α)(k:Nat)(x:α)(j:Nat):bo f k x j=if j=k then x else f j:=rfl
theorem VI(φ:Fr)(d:Nat)(x:FV):oS φ (some d) x=bo φ d x:=rfl
theorem VH(φ:Fr)(x:FV):oS φ none x=φ:=rfl
theorem ab7{α:Type}(f:Nat->α):a8 f []=f:=rfl
theorem W6{α:Type}(f:Nat->α)(k:Nat)(x:α)(r:List (Nat×α)):a8 f ((k,x)::r)=a8 (bo f k x) r:=rfl
theorem aeg(t:Nat):ee [] t=.any:=rfl
theorem YJ(t k:Nat)(x:FV)(r:List (Nat×FV)):ee ((k,x)::r) t=if t=k then x else ee r t:=rfl
theorem aeq(t:Nat):dP [] t=none:=rfl
theorem YZ(t k:Nat)(x:aX)(r:List (Nat×aX)):dP ((k,x)::r) t=if t=k then some x else dP r t:=rfl
theorem N6(n d:Nat):zv n (some d)=(d<n):=rfl
theorem N5(n:Nat):zv n none=True:=rfl
section
variable {κ:Nat}{h:Hp}
theorem aaX(o:Operand)(x:SV):dY Γ W bs κ h (.move o) [x]=.ok x:=rfl
theorem P4(o:Operand)(x:SV):dY Γ W bs κ h (.assign o) [x]=.ok x:=rfl
theorem Wc(T:TypeId):dY Γ W bs κ h (.alloc T) []=jE P κ T:=rfl
theorem afB(T:TypeId)(o:Operand)(l:List SV):dY Γ W bs κ h (.box T o) l=yw κ T l:=rfl
theorem We(T:TypeId)(ps:Array (Nat×Operand))(l:List SV):dY Γ W bs κ h (.build T ps) l=iu P T (ps.toList.map (·.1)) l:=rfl
theorem Cy(T:TypeId)(n:Nat)(ps:Array (Nat×Operand))(l:List SV):dY Γ W bs κ h (.buildSlice T n ps) l=dJ P κ T n (ps.toList.map (·.1)) l:=rfl
theorem aaW(T:TypeId)(o:Operand)(l:List SV):dY Γ W bs κ h (.load T o) l=dG P W bs h T l:=rfl
theorem Wj(T:TypeId)(o o' : Operand)(l:List SV):dY Γ W bs κ h (.store T o o') l=jG P h T l:=rfl
theorem H2(o:Operand)(l:List SV):dY Γ W bs κ h (.nilCheck o) l=cZ h l:=rfl
theorem Wd(op:BinOp)(T:TypeId)(x y:Operand)(r:TypeId)(l:List SV):dY Γ W bs κ h (.binOp op T x y r) l=bL P Γ.eqs h op T x y l:=rfl
theorem aaY(op:UnOp)(T:TypeId)(x:Operand)(l:List SV):dY Γ W bs κ h (.unOp op T x) l=wh op l:=rfl
theorem LV(a b:TypeId)(x:Operand)(l:List SV):dY Γ W bs κ h (.convert a b x) l=iv P h a b l:=rfl
theorem EF(T:TypeId)(x y:Operand)(l:List SV):dY Γ W bs κ h (.makeSlice T x y) l=ny P κ T l:=rfl
theorem Wh(x:Operand)(l:List SV):dY Γ W bs κ h (.panic x) l=me l:=rfl
theorem wq(T:TypeId)(o:Operand)(l:List SV):dY Γ W bs κ h (.makeInterface T o) l=nM P T l:=rfl
theorem Wi(T:TypeId)(o:Operand)(lo hi mx:Option Operand)(l:List SV):dY Γ W bs κ h (.slice T o lo hi mx) l=fO P κ h T lo.isSome hi.isSome mx.isSome l:=rfl
theorem P6(T:TypeId)(lo hi mx:Bool)(x:Value)(r:List SV):fO P κ h T lo hi mx (.v x::r)=du P T lo hi mx (.v x::r):=rfl
theorem ED(T:TypeId)(o:Operand)(f:Nat)(l:List SV):dY Γ W bs κ h (.fieldAddr T o f) l=cm P h T f l:=rfl
theorem Wf(T:TypeId)(o:Operand)(f:Nat)(l:List SV):dY Γ W bs κ h (.field T o f) l=iw P T f l:=rfl
theorem EE(T:TypeId)(o i:Operand)(l:List SV):dY Γ W bs κ h (.indexAddr T o i) l=bE P h T l:=rfl
theorem Wg(T:TypeId)(o i:Operand)(l:List SV):dY Γ W bs κ h (.index T o i) l=gw P T l:=rfl
theorem LW(o:Operand)(i:Nat)(l:List SV):dY Γ W bs κ h (.extract o i) l=cN i l:=rfl
theorem afC(as_:Array Operand)(T:TypeId)(l:List SV):dY Γ W bs κ h (.call { callee:=.builtin .len,args:=as_,argTypes:=#[T] }) l=jF P h T l:=rfl
theorem P3(as_:Array Operand)(tys:Array TypeId)(l:List SV):dY Γ W bs κ h (.call { callee:=.builtin .append,args:=as_,argTypes:=tys }) l=fT P W bs κ h tys.toList l:=rfl
theorem aaT(f:Operand)(as_:Array Operand)(tys:Array TypeId)(l:List SV):dY Γ W bs κ h (.call { callee:=.value f,args:=as_,argTypes:=tys }) l=lF Γ W bs κ h l:=rfl
theorem fy(f:Operand)(n:String)(as_:Array Operand)(tys:Array TypeId)(l:List SV):dY Γ W bs κ h (.call { callee:=.invoke f n,args:=as_,argTypes:=tys }) l=aI Γ W bs κ h n l:=rfl
theorem V7(f:FuncId)(first cap:Array Value)(rest:List SV):lF Γ W bs κ h (.v (.func (.func f) first cap)::rest)=fc Γ W bs κ h f (first.toList.map .v++rest++cap.toList.map .v):=rfl
end
theorem ak8(k:Nat)(e:aX)(x:SV):R.new k e x=⟨True,x,[(k,some e)],none,[],[]⟩:=rfl
theorem amH(x:SV):R.ok x=⟨True,x,[],none,[],[]⟩:=rfl
theorem ak9(p:Prop)(x:SV):R.im p x=⟨p,x,[],none,[],[]⟩:=rfl
theorem alQ(n:Nat):nk n=8*n:=rfl
theorem UO{α:Type}:cg ([]:List (Nat×α))=[]:=rfl
theorem Ow{α:Type}(k:Nat)(x:α)(r:List (Nat×α)):cg ((k,x)::r)=k::cg r:=rfl
theorem Lc(l:List SV):partsOf (.agg l)=l:=rfl
theorem Hw(cs:Array Value):partsOf (.v (.agg cs))=cs.toList.map .v:=rfl
theorem Lf(k:IntKind)(n:Int):partsOf (.v (.int k n))=[.v (.int k n)]:=rfl
theorem Cb(b:ByteArray):partsOf (.v (.string b))=[.v (.string b)]:=rfl
theorem Ht(b:Bool):partsOf (.v (.bool b))=[.v (.bool b)]:=rfl
theorem Ez(a:Option Addr)(n c:Nat):partsOf (.v (.slice a n c))=[.v (.slice a n c)]:=rfl
theorem Ad(a:Option Addr):partsOf (.v (.pointer a))=[.v (.pointer a)]:=rfl
theorem Ey(t:TypeId)(x:Value):partsOf (.v (.iface t x))=[.v (.iface t x)]:=rfl
theorem yk:partsOf (.v .nilIface)=[.v .nilIface]:=rfl
theorem Lg(k o:Nat):partsOf (.own k o)=[.own k o]:=rfl
theorem OT(k:Nat):partsOf (.hd k)=[.hd k]:=rfl
theorem Hv(k i:Nat):partsOf (.part k i)=[.part k i]:=rfl
theorem Ld(t:TypeId)(x:SV):partsOf (.nr t x)=[.nr t x]:=rfl
theorem Vl(k:IntKind)(n:Int):dI (.v (.int k n))=true:=rfl
theorem Hi(b:ByteArray):dI (.v (.string b))=true:=rfl
theorem OL(b:Bool):dI (.v (.bool b))=true:=rfl
theorem K0(a:Option Addr)(n c:Nat):dI (.v (.slice a n c))=true:=rfl
theorem Ev(a:Option Addr):dI (.v (.pointer a))=true:=rfl
theorem KZ(t:TypeId)(x:Value):dI (.v (.iface t x))=true:=rfl
theorem BX:dI (.v .nilIface)=true:=rfl
theorem Vm(k o:Nat):dI (.own k o)=true:=rfl
theorem Z0(k:Nat):dI (.hd k)=true:=rfl
theorem ON(k i:Nat):dI (.part k i)=true:=rfl
theorem Vk(t:TypeId)(x:SV):dI (.nr t x)=true:=rfl
theorem Ke(T:TypeId)(vs:List SV):bX (some (.cells T vs))=some vs:=rfl
theorem T4(T:TypeId)(s n:Nat)(vs:List SV):bX (some (.row T s n vs))=some vs:=rfl
theorem H3(T:TypeId)(vs:List SV)(o:Nat)(ps:List SV):rW (some (.cells T vs)) o ps=some (.cells T (av vs o ps)):=rfl
theorem P7(T:TypeId)(s n:Nat)(vs:List SV)(o:Nat)(ps:List SV):rW (some (.row T s n vs)) o ps=some (.row T s n (av vs o ps)):=rfl
section
variable {κ:Nat}{h:Hp}
def Nr(κ:Nat)(T:TypeId):Option (List Value)->R
 |some zs=>⟨True,.own (8*κ) 0,[(8*κ,some (.cells T (zs.map .v)))],none,[],[]⟩
 |none=>.bad
theorem LI(T:TypeId):jE P κ T=Nr κ T (tz P T):=by simp only[jE];unfold Nr;cases tz P T<;>rfl
theorem JD(T:TypeId)(zs:List Value):Nr κ T (some zs)=⟨True,.own (8*κ) 0,[(8*κ,some (.cells T (zs.map .v)))],none,[],[]⟩:=rfl
theorem V6(T:TypeId)(x:SV):yw κ T [x]=⟨True,.own (8*κ) 0,[(8*κ,some (.cells T (partsOf x)))],none,[],[]⟩:=rfl
def RU(o k:Nat):Option Nat->Option Bool->Option (List SV)->R
 |some sz,some true,some vs=>⟨o+sz<=vs.length/\0<sz,.agg ((vs.drop o).take sz),[],none,[],[k]⟩
 |some _,some false,some vs=>⟨o<vs.length,vs.getD o (.v undef),[],none,[],[k]⟩
 |_,_,_=>.bad
theorem LS(T:TypeId)(k o:Nat):dG P W bs h T [.own k o]=RU o k (ts P T) (ta P T) (bX (h k)):=by
 simp only[dG];unfold RU;rcases ts P T with _|sz<;>rcases ta P T with _|_|_<;>rcases bX (h k) with _|vs<;>rfl
theorem UY(o k sz:Nat)(vs:List SV):RU o k (some sz) (some true) (some vs)=⟨o+sz<=vs.length/\0<sz,.agg ((vs.drop o).take sz),[],none,[],[k]⟩:=rfl
theorem UZ(o k sz:Nat)(vs:List SV):RU o k (some sz) (some false) (some vs)=⟨o<vs.length,vs.getD o (.v undef),[],none,[],[k]⟩:=rfl
def RV(W:World)(bs:List Nat)(b o:Nat):Option Nat->Option Bool->R
 |some sz,some true=>⟨b∉bs/\fB W b o sz,.agg (cr W b o sz),[],none,[],[]⟩
 |some _,some false=>⟨b∉bs/\(W.cell? ⟨b,o,none⟩).isSome=true,.v ((W.cell? ⟨b,o,none⟩).getD undef),[],none,[],[]⟩
 |_,_=>.bad
theorem LR(T:TypeId)(b o:Nat):dG P W bs h T [.v (.pointer (some ⟨b,o,none⟩))]=RV W bs b o (ts P T) (ta P T):=by
 simp only[dG];unfold RV;rcases ts P T with _|sz<;>rcases ta P T with _|_|_<;>rfl
theorem U0(b o sz:Nat):RV W bs b o (some sz) (some true)=⟨b∉bs/\fB W b o sz,.agg (cr W b o sz),[],none,[],[]⟩:=rfl
theorem U1(b o sz:Nat):RV W bs b o (some sz) (some false)=⟨b∉bs/\(W.cell? ⟨b,o,none⟩).isSome=true,.v ((W.cell? ⟨b,o,none⟩).getD undef),[],none,[],[]⟩:=rfl
theorem MR(b o:Nat):cr W b o 0=[]:=rfl
theorem MQ(b o n:Nat):cr W b o (n+1)=.v ((W.cell? ⟨b,o,none⟩).getD undef)::cr W b (o+1) n:=rfl
theorem MT(b o:Nat):fB W b o 0=True:=rfl
theorem MS(b o n:Nat):fB W b o (n+1)=((W.cell? ⟨b,o,none⟩).isSome=true/\fB W b (o+1) n):=rfl
def Ql(e:Option aX)(k o:Nat)(x:SV):Option Nat->Option (List SV)->R
 |some sz,some vs=>⟨(partsOf x).length=sz/\o+sz<=vs.length/\(0<sz\/isC e=true)/\(partsOf x).all dI=true,.v undef,[(k,rW e o (partsOf x))],none,[],[k]⟩
 |_,_=>.bad
theorem HZ(T:TypeId)(k o:Nat)(x:SV):jG P h T [.own k o,x]=Ql (h k) k o x (ts P T) (bX (h k)):=by
 simp only[jG];unfold Ql;rcases ts P T with _|sz<;>rcases bX (h k) with _|vs<;>rfl
theorem L5(e:Option aX)(k o sz:Nat)(x:SV)(vs:List SV):Ql e k o x (some sz) (some vs)=⟨(partsOf x).length=sz/\o+sz<=vs.length/\(0<sz\/isC e=true)/\(partsOf x).all dI=true,.v undef,[(k,rW e o (partsOf x))],none,[],[k]⟩:=rfl
theorem Ux(T:TypeId)(vs:List SV):isC (some (.cells T vs))=true:=rfl
def faK(k o:Nat):Option (Nat×Nat×Bool)->Option (List SV)->R
 |some (off,sz,_),some vs=>⟨0<sz/\o<vs.length,.own k (o+off),[],none,[],[k]⟩
 |_,_=>.bad
theorem yy(T:TypeId)(f k o:Nat):cm P h T f [.own k o]=faK k o (tf P T f) (bX (h k)):=by
 simp only[cm];unfold faK;rcases tf P T f with _|⟨a,b,c⟩<;>rcases bX (h k) with _|vs<;>rfl
theorem YD(k o off sz:Nat)(ag:Bool)(vs:List SV):faK k o (some (off,sz,ag)) (some vs)=⟨0<sz/\o<vs.length,.own k (o+off),[],none,[],[k]⟩:=rfl
def faX(b o:Nat):Option (Nat×Nat×Bool)->R
 |some (off,sz,_)=>⟨0<sz,.v (.pointer (some ⟨b,o+off,none⟩)),[],none,[],[]⟩
 |_=>.bad
theorem yx(T:TypeId)(f b o:Nat):cm P h T f [.v (.pointer (some ⟨b,o,none⟩))]=faX b o (tf P T f):=by
 simp only[cm];unfold faX;rcases tf P T f with _|⟨a,b,c⟩<;>rfl
theorem YE(b o off sz:Nat)(ag:Bool):faX b o (some (off,sz,ag))=⟨0<sz,.v (.pointer (some ⟨b,o+off,none⟩)),[],none,[],[]⟩:=rfl
def xW(l:List SV):Option (Nat×Nat×Bool)->R
 |some (off,sz,ag)=>fS ag off sz l
 |none=>.bad
theorem HN(T:TypeId)(f:Nat)(l:List SV):iw P T f [.agg l]=xW l (tf P T f):=by
 simp only[iw];unfold xW;rcases tf P T f with _|⟨a,b,c⟩<;>rfl
theorem EB(T:TypeId)(f:Nat)(cs:Array Value):iw P T f [.v (.agg cs)]=xW (cs.toList.map .v) (tf P T f):=by
 simp only[iw];unfold xW;rcases tf P T f with _|⟨a,b,c⟩<;>rfl
theorem Ob(l:List SV)(off sz:Nat):xW l (some (off,sz,true))=⟨off+sz<=l.length,.agg ((l.drop off).take sz),[],none,[],[]⟩:=rfl
theorem Oc(l:List SV)(off sz:Nat):xW l (some (off,sz,false))=⟨off<l.length,l.getD off (.v undef),[],none,[],[]⟩:=rfl
theorem Cw(i:Nat)(l:List SV):cN i [.tup l]=⟨i<l.length,l.getD i (.v undef),[],none,[],[]⟩:=rfl
theorem Ai(i:Nat)(vs:Array Value):cN i [.v (.tuple vs)]=⟨i<vs.size,.v (vs.getD i undef),[],none,[],[]⟩:=rfl
theorem PU(eqs:(T:TypeId)->Option (EqSpec P T))(T:TypeId)(k k' : IntKind)(a b:Int):a6 P eqs .shl T [.v (.int k a),.v (.int k' b)]=⟨0<=b,.v (.int k (k.wrap (a*2 ^ (min b.toNat k.bits)))),[],none,[],[]⟩:=rfl
theorem PV(eqs:(T:TypeId)->Option (EqSpec P T))(T:TypeId)(k k' : IntKind)(a b:Int):a6 P eqs .shr T [.v (.int k a),.v (.int k' b)]=⟨0<=b,.v (.int k (a.fdiv (2 ^ (min b.toNat k.bits)))),[],none,[],[]⟩:=rfl
theorem PT(eqs:(T:TypeId)->Option (EqSpec P T))(T:TypeId)(k:IntKind)(a b:Int) :
  a6 P eqs .add T [.v (.int k a),.v (.int k b)]=⟨True,.v (.int k (k.wrap (a+b))),[],none,[],[]⟩ /\
  a6 P eqs .sub T [.v (.int k a),.v (.int k b)]=⟨True,.v (.int k (k.wrap (a-b))),[],none,[],[]⟩ /\
  a6 P eqs .mul T [.v (.int k a),.v (.int k b)]=⟨True,.v (.int k (k.wrap (a*b))),[],none,[],[]⟩ /\
  a6 P eqs .quo T [.v (.int k a),.v (.int k b)]=⟨b≠0,.v (.int k (k.wrap (a.tdiv b))),[],none,[],[]⟩ /\
  a6 P eqs .rem T [.v (.int k a),.v (.int k b)]=⟨b≠0,.v (.int k (a.tmod b)),[],none,[],[]⟩ /\
  a6 P eqs .and T [.v (.int k a),.v (.int k b)]=⟨True,.v (.int k (cp .and k a b)),[],none,[],[]⟩ /\
  a6 P eqs .or T [.v (.int k a),.v (.int k b)]=⟨True,.v (.int k (cp .or k a b)),[],none,[],[]⟩ /\
  a6 P eqs .xor T [.v (.int k a),.v (.int k b)]=⟨True,.v (.int k (cp .xor k a b)),[],none,[],[]⟩ /\
  a6 P eqs .eql T [.v (.int k a),.v (.int k b)]=⟨True,.v (.bool (decide (a=b))),[],none,[],[]⟩ /\
  a6 P eqs .neq T [.v (.int k a),.v (.int k b)]=⟨True,.v (.bool (!decide (a=b))),[],none,[],[]⟩ /\
  a6 P eqs .lss T [.v (.int k a),.v (.int k b)]=⟨True,.v (.bool (decide (a<b))),[],none,[],[]⟩ /\
  a6 P eqs .leq T [.v (.int k a),.v (.int k b)]=⟨True,.v (.bool (decide (a<=b))),[],none,[],[]⟩ /\
  a6 P eqs .gtr T [.v (.int k a),.v (.int k b)]=⟨True,.v (.bool (decide (b<a))),[],none,[],[]⟩ /\
  a6 P eqs .geq T [.v (.int k a),.v (.int k b)]=⟨True,.v (.bool (decide (b<=a))),[],none,[],[]⟩:=by
 simp[a6,Eg,R.im]
theorem PW(eqs:(T:TypeId)->Option (EqSpec P T))(T:TypeId)(a b:ByteArray) :
  a6 P eqs .add T [.v (.string a),.v (.string b)]=⟨a.size+b.size<=9223372036854775807,.v (.string (a++b)),[],none,[],[]⟩ /\
  a6 P eqs .eql T [.v (.string a),.v (.string b)]=⟨True,.v (.bool (decide (a=b))),[],none,[],[]⟩ /\
  a6 P eqs .neq T [.v (.string a),.v (.string b)]=⟨True,.v (.bool (!decide (a=b))),[],none,[],[]⟩ /\
  a6 P eqs .lss T [.v (.string a),.v (.string b)]=⟨True,.v (.bool (Op.bytesLess a.toList b.toList)),[],none,[],[]⟩ /\
  a6 P eqs .gtr T [.v (.string a),.v (.string b)]=⟨True,.v (.bool (!(Op.bytesLess a.toList b.toList||decide (a=b)))),[],none,[],[]⟩:=by
 simp[a6,TB,R.im]
theorem LN(eqs:(T:TypeId)->Option (EqSpec P T))(T:TypeId)(a b:Bool) :
  a6 P eqs .eql T [.v (.bool a),.v (.bool b)]=⟨P.underlying T=some .bool,.v (.bool (a == b)),[],none,[],[]⟩ /\
  a6 P eqs .neq T [.v (.bool a),.v (.bool b)]=⟨P.underlying T=some .bool,.v (.bool (!(a == b))),[],none,[],[]⟩:=⟨rfl,rfl⟩
def cT:List SV->Option (List Value)
 |[]=>some []
 |.v x::r=>(cT r).map (x::·)
 |_=>none
theorem mI:∀ l:List SV,sD (.agg l)=cT l
 |[]=>rfl
 |x::r=>by
  have ih:=mI r;simp only[sD]at ih ⊢;rw[List.mapM_cons,ih];cases x<;>simp[cT]<;>cases cT r<;>rfl
theorem DV(cs:Array Value):sD (.v (.agg cs))=some cs.toList:=rfl
theorem W7:cT []=some []:=rfl
theorem Q1(x:Value)(r:List SV):cT (.v x::r)=(cT r).map (x::·):=rfl
def Xp{T:TypeId}(neg:Bool):Option (List Value)->Option (List Value)->Option (EqSpec P T)->R
 |some xs,some ys,some e=>⟨(e.f xs ys).isSome=true,.v (.bool (neg ^^ (e.f xs ys).getD false)),[],none,[],[]⟩
 |_,_,_=>.bad
theorem PS(eqs:(T:TypeId)->Option (EqSpec P T))(T:TypeId)(l l' : List SV) :
  a6 P eqs .eql T [.agg l,.agg l']=Xp false (cT l) (cT l') (eqs T)/\a6 P eqs .neq T [.agg l,.agg l']=Xp true (cT l) (cT l') (eqs T):=by
 simp only[a6,mI,DV];constructor<;>(unfold Xp;rcases cT l with _|xs<;>rcases cT l' with _|ys<;>rcases eqs T with _|e<;>simp[R.im])
theorem LP(eqs:(T:TypeId)->Option (EqSpec P T))(T:TypeId)(cs cs' : Array Value) :
  a6 P eqs .eql T [.v (.agg cs),.v (.agg cs')]=Xp false (some cs.toList) (some cs'.toList) (eqs T)/\a6 P eqs .neq T [.v (.agg cs),.v (.agg cs')]=Xp true (some cs.toList) (some cs'.toList) (eqs T):=by
 simp only[a6,mI,DV];refine⟨?_,?_⟩<;>(unfold Xp;rcases eqs T with _|e<;>simp[R.im])
theorem LO(eqs:(T:TypeId)->Option (EqSpec P T))(T:TypeId)(cs:Array Value)(l:List SV) :
  a6 P eqs .eql T [.v (.agg cs),.agg l]=Xp false (some cs.toList) (cT l) (eqs T)/\a6 P eqs .neq T [.v (.agg cs),.agg l]=Xp true (some cs.toList) (cT l) (eqs T) /\
  a6 P eqs .eql T [.agg l,.v (.agg cs)]=Xp false (cT l) (some cs.toList) (eqs T)/\a6 P eqs .neq T [.agg l,.v (.agg cs)]=Xp true (cT l) (some cs.toList) (eqs T):=by
 simp only[a6,mI,DV];refine⟨?_,?_,?_,?_⟩<;>(unfold Xp;rcases cT l with _|xs<;>rcases eqs T with _|e<;>simp[R.im])
theorem Ys{T:TypeId}(neg:Bool)(xs ys:List Value)(e:EqSpec P T):Xp neg (some xs) (some ys) (some e)=⟨(e.f xs ys).isSome=true,.v (.bool (neg ^^ (e.f xs ys).getD false)),[],none,[],[]⟩:=rfl
theorem Wa(b:Bool):wh .not [.v (.bool b)]=⟨True,.v (.bool (!b)),[],none,[],[]⟩:=rfl
theorem V9(k:IntKind)(n:Int):wh .neg [.v (.int k n)]=⟨True,.v (.int k (k.wrap (0-n))),[],none,[],[]⟩:=rfl
theorem PY(T:TypeId)(s:ByteArray):jF P h T [.v (.string s)]=⟨P.underlying T=some .string,.v (.int .i64 s.size),[],none,[],[]⟩:=rfl
theorem HQ(T:TypeId)(a:Option Addr)(n c:Nat):jF P h T [.v (.slice a n c)]=⟨∃ e,P.underlying T=some (.slice e),.v (.int .i64 n),[],none,[],[]⟩:=rfl
def ajJ(P:Program)(T:TypeId)(k:Nat):Option aX->R
 |some (.row _ _ n _)=>⟨∃ e,P.underlying T=some (.slice e),.v (.int .i64 n),[],none,[],[k]⟩
 |_=>.bad
theorem V8(T:TypeId)(k:Nat):jF P h T [.hd k]=ajJ P T k (h k):=by
 simp only[jF];unfold ajJ;rcases h k with _|e
 ·rfl
 ·cases e<;>rfl
theorem Zi(T T' : TypeId)(k s n:Nat)(vs:List SV):ajJ P T k (some (.row T' s n vs))=⟨∃ e,P.underlying T=some (.slice e),.v (.int .i64 n),[],none,[],[k]⟩:=rfl
def ixK(P:Program)(k:Nat)(i:Int):Option TypeDesc->Option aX->R
 |some (.slice e),some (.row _ size n _)=>⟨ts P e=some size/\0<=i/\i<n/\0<size,.own k (i.toNat*size),[],none,[],[k]⟩
 |_,_=>.bad
theorem Aj(T:TypeId)(k:Nat)(ik:IntKind)(i:Int):bE P h T [.hd k,.v (.int ik i)]=ixK P k i (P.underlying T) (h k):=by
 simp only[bE];unfold ixK;rcases P.underlying T with _|d<;>rcases h k with _|e
 ·rfl
 ·cases e<;>rfl
 ·cases d<;>rfl
 ·cases d<;>cases e<;>rfl
theorem Y6(e e' : TypeId)(k size n:Nat)(i:Int)(vs:List SV):ixK P k i (some (.slice e)) (some (.row e' size n vs))=⟨ts P e=some size/\0<=i/\i<n/\0<size,.own k (i.toNat*size),[],none,[],[k]⟩:=rfl
def ixY(b o n:Nat)(i:Int):Option Nat->R
 |some sz=>⟨0<=i/\i<n,.v (.pointer (some ⟨b,o+i.toNat*sz,none⟩)),[],none,[],[]⟩
 |none=>.bad
def ixX(P:Program)(b o n:Nat)(i:Int):Option TypeDesc->R
 |some (.slice e)=>ixY b o n i (ts P e)
 |_=>.bad
theorem yz(T:TypeId)(b o n c:Nat)(ik:IntKind)(i:Int):bE P h T [.v (.slice (some ⟨b,o,none⟩) n c),.v (.int ik i)]=ixX P b o n i (P.underlying T):=by
 simp only[bE];unfold ixX;rcases P.underlying T with _|d
 ·rfl
 ·cases d<;>rfl
theorem UI(e:TypeId)(b o n:Nat)(i:Int):ixX P b o n i (some (.slice e))=ixY b o n i (ts P e):=rfl
def ixH(b o:Nat)(i:Int)(n:Nat):Option Nat->R
 |some sz=>⟨0<=i/\i<n/\1<n,.v (.pointer (some ⟨b,o+i.toNat*sz,none⟩)),[],none,[],[]⟩
 |none=>.bad
def ixG(P:Program)(b o:Nat)(i:Int):Option TypeDesc->R
 |some (.array n e)=>ixH b o i n (ts P e)
 |_=>.bad
theorem yA(T:TypeId)(b o:Nat)(ik:IntKind)(i:Int):bE P h T [.v (.pointer (some ⟨b,o,none⟩)),.v (.int ik i)]=ixG P b o i (P.underlying T):=by
 simp only[bE];unfold ixG;rcases P.underlying T with _|d
 ·rfl
 ·cases d
  case array n e=>unfold ixH;cases ts P e<;>rfl
  all_goals rfl
theorem UG(b o n:Nat)(i:Int)(e:TypeId):ixG P b o i (some (.array n e))=ixH b o i n (ts P e):=rfl
theorem Y5(b o n sz:Nat)(i:Int):ixH b o i n (some sz)=⟨0<=i/\i<n/\1<n,.v (.pointer (some ⟨b,o+i.toNat*sz,none⟩)),[],none,[],[]⟩:=rfl
theorem Y7(b o n:Nat)(i:Int)(sz:Nat):ixY b o n i (some sz)=⟨0<=i/\i<n,.v (.pointer (some ⟨b,o+i.toNat*sz,none⟩)),[],none,[],[]⟩:=rfl
theorem HP(T:TypeId)(s:ByteArray)(ik:IntKind)(i:Int):gw P T [.v (.string s),.v (.int ik i)]=⟨P.underlying T=some .string/\0<=i/\i<s.size,.v (.int .u8 (bt s i)),[],none,[],[]⟩:=rfl
theorem HV(T:TypeId)(s:ByteArray)(k k' : IntKind)(a b:Int):du P T true true false [.v (.string s),.v (.int k a),.v (.int k' b)]=⟨P.underlying T=some .string/\0<=a/\a<=b/\b<=s.size,.v (.string (s.extract a.toNat b.toNat)),[],none,[],[]⟩:=by
 simp[du,ki,o8,R.im]
theorem HU(T:TypeId)(s:ByteArray)(k:IntKind)(a:Int):du P T true false false [.v (.string s),.v (.int k a)]=⟨P.underlying T=some .string/\0<=a/\a<=s.size,.v (.string (s.extract a.toNat s.size)),[],none,[],[]⟩:=by
 simp[du,ki,o8,R.im]
theorem HT(T:TypeId)(s:ByteArray)(k' : IntKind)(b:Int):du P T false true false [.v (.string s),.v (.int k' b)]=⟨P.underlying T=some .string/\0<=b/\b<=s.size,.v (.string (s.extract 0 b.toNat)),[],none,[],[]⟩:=by
 simp[du,ki,o8,R.im]
theorem Ak(a:Addr):cZ h [.v (.pointer (some a))]=⟨True,.v (.pointer (some a)),[],none,[],[]⟩:=rfl
theorem aaS(T:TypeId)(x:Value):nM P T [.v x]=⟨P.concrete T=true,.v (.iface T x),[],none,[],[]⟩:=rfl
end
end
end
section
def ev1:=(aa @afi (aa @aaA (aa @afh (aa @aax (aa @Uy (aa @afL (aa @abe (aa @abd (aa @abh (aa @Wx (aa @abg (aa @Wu (aa @ad8 (aa @ajp (aa @ad9 (aa @Ub (aa @N9 (aa @YC (aa @ad7 (aa @YB (aa @ajn (aa @Yz (aa @YA (aa @T9 (aa @ad6 (aa @Yy (aa @aeP (aa @ajP (aa @OW (aa @akI (aa @VI (aa @VH (aa @ab7 (aa @W6 (aa @aeg (aa @YJ (aa @aeq (aa @YZ (aa @N6 (aa @N5 (aa @aaX (aa @P4 (aa @Wc (aa @afB (aa @We (aa @Cy (aa @aaW (aa @Wj (aa @H2 (aa @Wd @aaY))))))))))))))))))))))))))))))))))))))))))))))))))
def ev2:=(aa @LV (aa @EF (aa @Wh (aa @wq (aa @Wi <| aa @P6 (aa @ED (aa @Wf (aa @EE (aa @Wg (aa @LW (aa @afC (aa @P3 (aa @aaT (aa @fy (aa @V7 (aa @ak8 (aa @amH (aa @ak9 (aa @alQ (aa @UO (aa @Ow (aa @Lc (aa @Hw (aa @Lf (aa @Cb (aa @Ht (aa @Ez (aa @Ad (aa @Ey (aa @yk (aa @Lg (aa @OT (aa @Hv (aa @Ld (aa @Vl (aa @Hi (aa @OL (aa @K0 (aa @Ev (aa @KZ (aa @BX (aa @Vm (aa @Z0 (aa @ON (aa @Vk (aa @Ke (aa @T4 (aa @H3 (aa @P7 (aa @LI @JD))))))))))))))))))))))))))))))))))))))))))))))))))
def ev3:=(aa @yA (aa @UG (aa @Y5 (aa @Ux (aa @true_or (aa @V6 (aa @LS (aa @UY (aa @UZ (aa @LR (aa @U0 (aa @U1 (aa @MR (aa @MQ (aa @MT (aa @MS (aa @HZ (aa @L5 (aa @yy (aa @YD (aa @yx (aa @YE (aa @HN (aa @EB (aa @Ob (aa @Oc (aa @Cw (aa @Ai (aa @PU (aa @PV (aa @PT (aa @PW (aa @LN (aa @W7 (aa @Q1 (aa @PS (aa @LP (aa @LO (aa @Ys (aa @Wa (aa @V9 (aa @PY (aa @HQ (aa @V8 (aa @Zi (aa @Aj (aa @Y6 (aa @yz (aa @UI (aa @Y7 (aa @HP (aa @HV (aa @HU (aa @HT (aa @Ak @aaS)))))))))))))))))))))))))))))))))))))))))))))))))))))))
end
section
open Go.RowKit
def u6:List Value->Nat->List (Nat×FV)
 |[],_=>[]
 |x::r,i=>(i,.is (.v x))::u6 r (i+1)
theorem XR(i:Nat):u6 [] i=[]:=rfl
theorem Tt(x:Value)(r:List Value)(i:Nat):u6 (x::r) i=(i,.is (.v x))::u6 r (i+1):=rfl
def σ0(args:List Value):St:=⟨0,ee (u6 args 0),dP []⟩
theorem sM:∀ (l:List Value) (i t:Nat),(ee (u6 l i) t).keys=[]
 |[],_,_=>rfl
 |x::r,i,t=>by
  simp only[u6,ee,bo];split
  ·rfl
  ·exact sM r (i+1) t
theorem sL(E:Nat->Value):∀ (l:List Value) (i t:Nat) (tm:Nat->Value),(∀ j (h:j<l.length),tm (i+j)=l[j])->fits E (ee (u6 l i) t) (tm t)
 |[],_,_,_,_=>trivial
 | x::r,i,t,tm,h=>by
  simp only[u6,ee,bo];split
  ·rename_i ht;subst ht;have:=h 0 sI;simpa [fits,den] using this
  ·exact sL E r (i+1) t tm λj hj=>by
    have:=h (j+1) (by simpa using hj);rw[show i+1+j=i+(j+1) by omega];simpa using this
theorem tk{w:World}{nt m:Nat}(args:Array Value)(hnt:args.size+m=nt) :
  Sat w [] nt ⟨[],[]⟩ (σ0 args.toList) { tmps:=args++Array.replicate m undef,defers:=[] } w:=by
 refine⟨⟨λ_=>undef,λ_=>[],λt=>?_,⟨λk e h=>(by cases h),λk e h=>(by cases h),λk e h=>(by cases h),λk k' e e' _ h=>(by cases h),an.refl w []⟩,λp hp=>(by cases hp)⟩,by simpa using hnt,rfl,λp hp=>(by cases hp),λt k hk=>?_,λk e h=>(by cases h)⟩
 ·refine sL _ args.toList 0 t (λt=>(args++Array.replicate m undef).getD t undef) λj hj=>?_
  have hj' : j<args.size:=by simpa using hj
  rw[Nat.zero_add,Array.getD_eq_getD_getElem?,Array.getElem?_append_left hj',Array.getElem?_eq_getElem hj'];rfl
 ·simp only[σ0,sM]at hk;cases hk
section
variable {P:Program}{f:FuncId}{fn:Func}{c:Code}{args:Array Value}{w:World}{nt:Nat}
theorem ak{v:Value}(rs:List ResultVar)(hf:P.funcs[f]?=some fn)(hb:fn.body=some c)(hrs:fn.results.toList=rs)(hnt:args.size+(fn.ntmps-args.size)=nt)
  (h:Wp P w [] nt ⟨[],[]⟩ c (Fin P rs (λ_ _ x _=>∀ E,den E x=v) (λ_ _=>False)) (σ0 args.toList)) :
  Calls P f args w λe w' => e=.returned v/\an w [] w' := by
 subst hrs;refine (oz hf hb (tk args hnt) h).mono λe w' he=>?_
 cases e with
 |returned u=>
  obtain⟨W',bs',E,F,x,h,hx,hR,rfl,hs,_⟩:=he;exact⟨by rw[hR E],hx.fF hs.keeps⟩
 |panicked c=>obtain⟨_,_,_,_,_,_,hf,_⟩:=he;exact hf.elim
 |outgrown=>exact he.elim
end
inductive AV where
 |val (v:Value)
 |row (T:TypeId) (s n:Nat) (vs:List Value)
 |mp (ks:List ByteArray) (vs:List Value)
def fH(k:Nat):Option aX->Option (AV×List Nat)
 |some (.row T s n us)=>(cT us).map λvs=>(.row T s n vs,[k])
 |some (.mp ks us)=>(cT us).map λvs=>(.mp ks vs,[k])
 |_=>none
def bM(h:Hp):SV->Option (AV×List Nat)
 |.v x=>some (.val x,[])
 |.agg l=>(cT l).map λvs=>(.val (.agg vs.toArray),[])
 |.hd k=>fH k (h k)
 |_=>none
def jT:Option (AV×List Nat)->Option (List AV×List Nat)->Option (List AV×List Nat)
 |some (a,r),some (as_,rs)=>some (a::as_,r++rs)
 |_,_=>none
def aB(h:Hp):List SV->Option (List AV×List Nat)
 |[]=>some ([],[])
 |x::r=>jT (bM h x) (aB h r)
def R0:Value->Option Nat
 |.map r=>r
 |_=>none
def aiz(w:World)(u:Value)(ks:List ByteArray)(vs:List Value):Prop:=
 ∃ b es c,u=.map (some b)/\w.heap[b]?=some (.map es c)/\es.toList.map (·.key)=ks.map .string/\es.toList.map (·.val)=vs
theorem lL{E:Nat->Value}{w:World}{u:Value}{ks:List ByteArray}{vs:List SV}{fp:List Nat}:bu E u fp w (.mp ks vs) ↔ aiz w u ks (ai E vs)/\fp=(R0 u).toList:=by
 constructor
 ·rintro⟨b,es,c,rfl,rfl,h⟩;exact⟨⟨b,es,c,rfl,h⟩,rfl⟩
 ·rintro⟨⟨b,es,c,rfl,h⟩,rfl⟩;exact⟨b,es,c,rfl,rfl,h⟩
def tJ(w:World)(u:Value):AV->Prop
 |.val v=>u=v
 |.row T s n vs=>w.ownsRow 0 T s u n vs
 |.mp ks vs=>aiz w u ks vs
def eW(w:World):List Value->List AV->Prop
 |[],[]=>True
 |u::r,a::s=>tJ w u a/\eW w r s
 |_,_=>False
theorem lO{E:Nat->Value}:∀ {l:List SV} {vs:List Value},cT l=some vs->ai E l=vs
 |[],vs,h=>by simp[cT]at h;subst h;rfl
 | x::r,vs,h=>by
  cases x with
  |v x=>
   simp only[cT,Option.map_eq_some_iff]at h;obtain⟨ws,h1,rfl⟩:=h;simp[ai,den,lO h1]
  |_=>simp[cT]at h
section
variable {P:Program}{W:World}{bs:List Nat}{E:Nat->Value}{F:Nat->List Nat}{h:Hp}{w:World}
theorem Gl(hs:aj W bs E F h w){x:SV}{a:AV}{r:List Nat}(hv:bM h x=some (a,r)):tJ w (den E x) a:=by
 cases x with
 |v x=>simp[bM]at hv;obtain⟨rfl,rfl⟩:=hv;rfl
 |agg l=>
  simp only[bM,Option.map_eq_some_iff,Prod.mk.injEq]at hv;obtain⟨vs,h1,rfl,rfl⟩:=hv;simp[tJ,den,lO h1]
 | hd k=>
  simp only[bM]at hv;cases hk:h k with
  |none=>rw[hk]at hv;simp[fH]at hv
  | some e=>
   cases e with
   |row T s n us=>
    rw[hk]at hv;simp only[fH,Option.map_eq_some_iff,Prod.mk.injEq]at hv;obtain⟨vs,h1,rfl,rfl⟩:=hv;have:=hs.ent k _ hk;simp only[tJ,den];rw[fE (bZ this),<- lO (E:=E) h1];exact this.1
   |mp ks us=>
    rw[hk]at hv;simp only[fH,Option.map_eq_some_iff,Prod.mk.injEq]at hv;obtain⟨vs,h1,rfl,rfl⟩:=hv;have:=hs.ent k _ hk;simp only[tJ,den];rw[fE (bZ this),<- lO (E:=E) h1];exact (lL.1 this).1
   |cells T vs=>rw[hk]at hv;simp[fH]at hv
   |obj d R=>rw[hk]at hv;simp[fH]at hv
 |own k o=>simp[bM]at hv
 |tup l=>simp[bM]at hv
 |nr t x=>simp[bM]at hv
 |part k i=>simp[bM]at hv
 |fn f a c=>simp[bM]at hv
theorem ep(hs:aj W bs E F h w):∀ {l:List SV} {as_:List AV} {r:List Nat},aB h l=some (as_,r)->eW w (ai E l) as_
 |[],as_,r,hv=>by simp[aB]at hv;obtain⟨rfl,rfl⟩:=hv;trivial
 | x::l,as_,r,hv=>by
  simp only[aB]at hv;cases h1:bM h x with
  |none=>rw[h1]at hv;simp[jT]at hv
  | some p=>
   cases h2:aB h l with
   |none=>rw[h1,h2]at hv;simp[jT]at hv
   |some q=>
    obtain⟨a,ra⟩:=p;obtain⟨as',rs⟩:=q;rw[h1,h2]at hv;simp only[jT,Option.some.injEq,Prod.mk.injEq]at hv;obtain⟨rfl,rfl⟩:=hv;exact⟨Gl hs h1,ep hs h2⟩
theorem Gk{h' : Hp}{x:SV}{a:AV}{r:List Nat}(hv:bM h x=some (a,r))(hr:∀ k∈r,h' k=h k):bM h' x=some (a,r):=by
 cases x with
 | hd k=>
  simp only[bM]at hv ⊢;have:k∈r:=by
   cases hk:h k with
   |none=>rw[hk]at hv;simp[fH]at hv
   |some e=>
    cases e<;>rw[hk]at hv<;>simp[fH]at hv
    all_goals (obtain⟨vs,h1,rfl,rfl⟩:=hv;simp)
  rw[hr k this];exact hv
 |_=>exact hv
theorem cP{h' : Hp}:∀ {l:List SV} {as_:List AV} {r:List Nat},aB h l=some (as_,r)->(∀ k∈r,h' k=h k)->aB h' l=some (as_,r)
 |[],_,_,hv,_=>hv
 | x::l,as_,r,hv,hr=>by
  simp only[aB]at hv ⊢;cases h1:bM h x with
  |none=>rw[h1]at hv;simp[jT]at hv
  | some p=>
   cases h2:aB h l with
   |none=>rw[h1,h2]at hv;simp[jT]at hv
   |some q=>
    obtain⟨a,ra⟩:=p;obtain⟨as',rs⟩:=q;rw[h1,h2]at hv;simp only[jT,Option.some.injEq,Prod.mk.injEq]at hv;obtain⟨rfl,rfl⟩:=hv;rw[Gk h1 λk hk=>hr k (by simp[hk]),cP h2 λk hk=>hr k (by simp[hk])];rfl
end
structure a7 (P:Program)(f:FuncId) where
 pre:World->List Nat->List AV->Prop
 res:World->List AV->Value
 enters:∀ args w,(callFunc f args).run P w=.ok (.enter f args) w
 ok:∀ (W w:World) (bs:List Nat) (us:List Value) (as_:List AV),an W bs w->eW w us as_->pre W bs as_->Calls P f us.toArray w λe w' => e=.returned (res W as_)/\an w [] w'
def FG(pre:World->List Nat->List AV->Prop)(res:World->List AV->Value)(W:World)(bs:List Nat):Option (List AV×List Nat)->R
 |some (as_,rs)=>⟨pre W bs as_,.v (res W as_),[],none,[],rs⟩
 |none=>.bad
def a7.spec{P:Program}{f:FuncId}(p:a7 P f):Spec P f where
 ev:=λW bs _ h args=>FG p.pre p.res W bs (aB h args)
 good:=λW bs κ E F h w K args hs hK hk hx hside=>by
  rw[p.enters];cases hv:aB h args with
  |none=>rw[hv]at hside;exact hside.elim
  |some q=>
   obtain⟨as_,rs⟩:=q;rw[hv]at hside;exact xX hs (p.ok W w bs _ as_ hs.keeps (ep hs hv) hside) rfl rfl rfl
 keys:=λW bs κ h K args hK hx hside=>by
  cases hv:aB h args with
  |none=>rw[hv]at hside;exact hside.elim
  |some q=>exact aQ.plain (λk hk=>by cases hk) rfl
 loc:=λW bs κ h h' args hside hr=>by
  cases hv:aB h args with
  |none=>rw[hv]at hside;exact hside.elim
  |some q=>
   obtain⟨as_,rs⟩:=q;rw[hv]at hr;rw[cP hv hr]
structure XB (P:Program)(f:FuncId) where
 pre:World->List Nat->List AV->Prop
 T:TypeId
 s:Nat
 n:World->List AV->Nat
 vs:World->List AV->List Value
 tm:World->List AV->SV->SV
 g:World->List AV->Value->Value
 tmg:∀ W as_ E x,den E (tm W as_ x)=g W as_ (den E x)
 tmk:∀ W as_ x,∀ k∈(tm W as_ x).keys,k∈x.keys
 enters:∀ args w,(callFunc f args).run P w=.ok (.enter f args) w
 ok:∀ (W w:World) (bs:List Nat) (us:List Value) (as_:List AV),an W bs w->eW w us as_->pre W bs as_->Calls P f us.toArray w λe w' =>
  ∃ u fp,e=.returned (g W as_ u)/\(∀ E',bu E' u fp w' (.row T s (n W as_) ((vs W as_).map .v)))/\(∀ b∈fp,w.heap.size<=b/\b<w'.heap.size)/\an w [] w'
def KH(κ:Nat)(T:TypeId)(s:Nat)(pre:World->List Nat->List AV->Prop)(n:World->List AV->Nat)(vs:World->List AV->List Value)(tm:World->List AV->SV->SV)(W:World)(bs:List Nat):Option (List AV×List Nat)->R
 |some (as_,rs)=>⟨pre W bs as_,tm W as_ (.hd (8*κ)),[(8*κ,some (.row T s (n W as_) ((vs W as_).map .v)))],none,[],rs⟩
 |none=>.bad
def XB.spec{P:Program}{f:FuncId}(p:XB P f):Spec P f where
 ev:=λW bs κ h args=>KH κ p.T p.s p.pre p.n p.vs p.tm W bs (aB h args)
 good:=λW bs κ E F h w K args hs hK hk hx hside=>by
  rw[p.enters];cases hv:aB h args with
  |none=>rw[hv]at hside;exact hside.elim
  |some q=>
   obtain⟨as_,rs⟩:=q;rw[hv]at hside;refine Bk hs hK hk ((p.ok W w bs _ as_ hs.keeps (ep hs hv) hside).mono λe w' he=>?_) rfl rfl;obtain⟨u,fp,rfl,hent,hfp,hkeep⟩:=he;refine⟨_,u,fp,rfl,hent,hfp,hkeep,?_⟩;simp only[KH,p.tmg,den,nk,ah];rw[fE (bZ (hent E))]
 keys:=λW bs κ h K args hK hx hside=>by
  cases hv:aB h args with
  |none=>rw[hv]at hside;exact hside.elim
  | some q=>
   obtain⟨as_,rs⟩:=q;refine⟨λk hk=>.inr ?_,λq hq=>?_⟩
   ·have:=p.tmk _ _ _ k hk;simp[SV.keys]at this;subst this;exact aZ κ
   ·simp only[KH,List.mem_singleton]at hq;subst hq;refine⟨.inr (aZ κ),λe he k hk=>?_⟩;simp only[Option.some.injEq]at he;subst he;simp only[aX.keys,aR]at hk;cases hk
 loc:=λW bs κ h h' args hside hr=>by
  cases hv:aB h args with
  |none=>rw[hv]at hside;exact hside.elim
  |some q=>
   obtain⟨as_,rs⟩:=q;rw[hv]at hr;rw[cP hv hr]
theorem W9(h:Hp):aB h []=some ([],[]):=rfl
theorem DX(h:Hp)(x:SV)(r:List SV):aB h (x::r)=jT (bM h x) (aB h r):=rfl
theorem af1(h:Hp)(x:Value):bM h (.v x)=some (.val x,[]):=rfl
theorem W8(h:Hp)(l:List SV):bM h (.agg l)=(cT l).map λvs=>(.val (.agg vs.toArray),[]):=rfl
theorem aca(h:Hp)(k:Nat):bM h (.hd k)=fH k (h k):=rfl
theorem VV(k:Nat)(T:TypeId)(s n:Nat)(us:List SV):fH k (some (.row T s n us))=(cT us).map λvs=>(.row T s n vs,[k]):=rfl
theorem NU(a:AV)(r:List Nat)(as_:List AV)(rs:List Nat):jT (some (a,r)) (some (as_,rs))=some (a::as_,r++rs):=rfl
theorem aq(l:List Value):cT (l.map .v)=some l:=by
 induction l with
 |nil=>rfl
 |cons x r ih=>simp[cT,ih]
theorem Ci(pre:World->List Nat->List AV->Prop)(res:World->List AV->Value)(W:World)(bs:List Nat)(as_:List AV)(rs:List Nat):FG pre res W bs (some (as_,rs))=⟨pre W bs as_,.v (res W as_),[],none,[],rs⟩:=rfl
theorem OA(κ:Nat)(T:TypeId)(s:Nat)(pre:World->List Nat->List AV->Prop)(n:World->List AV->Nat)(vs:World->List AV->List Value)(tm:World->List AV->SV->SV)(W:World)(bs:List Nat)(as_:List AV)(rs:List Nat) :
  KH κ T s pre n vs tm W bs (some (as_,rs))=⟨pre W bs as_,tm W as_ (.hd (8*κ)),[(8*κ,some (.row T s (n W as_) ((vs W as_).map .v)))],none,[],rs⟩:=rfl
section
variable {P:Program}{W:World}{bs:List Nat}{κ:Nat}{h:Hp}
def zy(fl:List (Nat×Nat))(cells:List SV)(l:List (Nat×SV)):Option (List SV):=e7 (λi=>fl[i]?) cells l
def YH(fl:List (Nat×Nat))(cells:List SV)(r:List (Nat×SV))(x:SV):Option (Nat×Nat)->Option (List SV)
 |some (off,size)=>if (partsOf x).length=size/\off+size<=cells.length then zy fl (av cells off (partsOf x)) r else none
 |none=>none
theorem Fb(fl:List (Nat×Nat))(cells:List SV):zy fl cells []=some cells:=rfl
theorem Oe(fl:List (Nat×Nat))(cells:List SV)(i:Nat)(x:SV)(r:List (Nat×SV)):zy fl cells ((i,x)::r)=YH fl cells r x (fl[i]?):=by
 simp only[zy,e7,YH];cases fl[i]?<;>rfl
theorem Of(fl:List (Nat×Nat))(cells:List SV)(r:List (Nat×SV))(x:SV)(off size:Nat) :
  YH fl cells r x (some (off,size))=if (partsOf x).length=size/\off+size<=cells.length then zy fl (av cells off (partsOf x)) r else none:=rfl
def Nn:Option (List SV)->R
 |some cells=>⟨True,.agg cells,[],none,[],[]⟩
 |none=>.bad
theorem Ti(l:List SV):Nn (some l)=⟨True,.agg l,[],none,[],[]⟩:=rfl
def NF(idx:List Nat)(args:List SV):Option (List Value)->Option (List (Nat×Nat))->R
 |some zs,some fl=>Nn (zy fl (zs.map .v) (idx.zip args))
 |_,_=>.bad
theorem JX(idx:List Nat)(args:List SV)(zs:List Value)(fl:List (Nat×Nat)):NF idx args (some zs) (some fl)=Nn (zy fl (zs.map .v) (idx.zip args)):=rfl
theorem au(T:TypeId)(idx:List Nat)(args:List SV)(hs:(qX P T).isSome=true):iu P T idx args=NF idx args (tz P T) (qX P T):=by
 have hu:∃ fs,P.underlying T=some (.struct fs):=by
  unfold qX at hs;split at hs
  ·rename_i fs hfs;exact⟨fs,hfs⟩
  ·cases hs
 obtain⟨fs,hu⟩:=hu;obtain⟨fl,hfl⟩:=Option.isSome_iff_exists.1 hs;unfold iu NF;rw[hu,hfl];cases tz P T with
 |none=>rfl
 |some zs=>
  simp only[zy,Nn];cases e7 (λi=>fl[i]?) (zs.map .v) (idx.zip args)<;>rfl
def vz(sz:Nat)(cells:List SV)(l:List (Nat×SV)):Option (List SV):=e7 (λi=>some (i*sz,sz)) cells l
theorem Ue(sz:Nat)(cells:List SV):vz sz cells []=some cells:=rfl
theorem Og(sz:Nat)(cells:List SV)(i:Nat)(x:SV)(r:List (Nat×SV)) :
  vz sz cells ((i,x)::r)=if (partsOf x).length=sz/\i*sz+sz<=cells.length then vz sz (av cells (i*sz) (partsOf x)) r else none:=rfl
def afj(κ:Nat)(e:TypeId)(sz len:Nat)(p:Prop):Option (List SV)->R
 |some cells=>⟨p,.hd (8*κ),[(8*κ,some (.row e sz len cells))],none,[],[]⟩
 |none=>.bad
theorem VW(e:TypeId)(sz len:Nat)(p:Prop)(l:List SV):afj κ e sz len p (some l)=⟨p,.hd (8*κ),[(8*κ,some (.row e sz len l))],none,[],[]⟩:=rfl
def bsK(κ:Nat)(e:TypeId)(len:Nat)(idx:List Nat)(args:List SV):Option Nat->Option (List Value)->R
 |some sz,some zs=>afj κ e sz len (len*sz<=16777216/\zs.length=sz/\0<sz) (vz sz ((List.replicate len zs).flatten.map .v) (idx.zip args))
 |_,_=>.bad
theorem X7(e:TypeId)(len:Nat)(idx:List Nat)(args:List SV)(sz:Nat)(zs:List Value) :
  bsK κ e len idx args (some sz) (some zs)=afj κ e sz len (len*sz<=16777216/\zs.length=sz/\0<sz) (vz sz ((List.replicate len zs).flatten.map .v) (idx.zip args)):=rfl
def bsU(P:Program)(κ:Nat)(len:Nat)(idx:List Nat)(args:List SV):Option TypeDesc->R
 |some (.slice e)=>bsK κ e len idx args (ts P e) (tz P e)
 |_=>.bad
theorem TF(len:Nat)(idx:List Nat)(args:List SV)(e:TypeId):bsU P κ len idx args (some (.slice e))=bsK κ e len idx args (ts P e) (tz P e):=rfl
theorem ab(T:TypeId)(len:Nat)(idx:List Nat)(args:List SV):dJ P κ T len idx args=bsU P κ len idx args (P.underlying T):=by
 unfold dJ bsU;rcases P.underlying T with _|d
 ·rfl
 ·cases d with
  | slice e=>
   simp only[bsK];rcases ts P e with _|sz<;>rcases tz P e with _|zs
   ·rfl
   ·rfl
   ·rfl
   ·simp only[afj,vz];cases e7 (λi=>some (i*sz,sz)) ((List.replicate len zs).flatten.map .v) (idx.zip args)<;>rfl
  |_=>rfl
def adu(P:Program)(κ k j:Nat)(tys:List TypeId):Option aX->Option aX->R
 |some (.row e sz n vs),some (.row _ sz' m us)=>match tys,wA P e,tz P e with
  |[T,T'],some by_,some zs=>⟨T' = T/\P.underlying T=some (.slice e)/\ts P e=some sz/\zs.length=sz/\0<sz/\sz' = sz/\k≠j/\0<m/\n+m<=maxLen/\(n+m)*by_<=140737488355328/\us.all dI=true,.hd (8*κ),[(k,none),(8*κ,some (.row e sz (n+m) (vs++us)))],none,[],[k,j]⟩
  |_,_,_=>.bad
 |_,_=>.bad
theorem Pv(tys:List TypeId)(k j:Nat):fT P W bs κ h tys [.hd k,.hd j]=adu P κ k j tys (h k) (h j):=by
 simp only[fT];unfold adu;rcases h k with _|e<;>rcases h j with _|e'
 ·rcases tys with _|⟨a,_|⟨b,_|_⟩⟩<;>rfl
 ·rcases tys with _|⟨a,_|⟨b,_|_⟩⟩<;>rfl
 ·rcases tys with _|⟨a,_|⟨b,_|_⟩⟩<;>cases e<;>rfl
 ·rcases tys with _|⟨a,_|⟨b,_|_⟩⟩<;>cases e<;>cases e' <;> try rfl
  rename_i T s n vs T' s' n' vs';simp only[];rcases wA P T with _|x<;>rcases tz P T with _|y<;>rfl
def ai5(P:Program)(κ k j:Nat)(T T' e sz n sz' m:Nat)(vs us:List SV):Option Nat->Option (List Value)->R
 |some by_,some zs=>⟨T' = T/\P.underlying T=some (.slice e)/\ts P e=some sz/\zs.length=sz/\0<sz/\sz' = sz/\k≠j/\0<m/\n+m<=maxLen/\(n+m)*by_<=140737488355328/\us.all dI=true,.hd (8*κ),[(k,none),(8*κ,some (.row e sz (n+m) (vs++us)))],none,[],[k,j]⟩
 |_,_=>.bad
theorem XL(k j:Nat)(T T' e e' : TypeId)(sz n sz' m:Nat)(vs us:List SV) :
  adu P κ k j [T,T'] (some (.row e sz n vs)) (some (.row e' sz' m us))=ai5 P κ k j T T' e sz n sz' m vs us (wA P e) (tz P e):=by
 simp only[adu,ai5];rcases wA P e with _|x<;>rcases tz P e with _|y<;>rfl
theorem Tl(k j:Nat)(T T' e sz n sz' m:Nat)(vs us:List SV)(by_:Nat)(zs:List Value) :
  ai5 P κ k j T T' e sz n sz' m vs us (some by_) (some zs)=⟨T' = T/\P.underlying T=some (.slice e)/\ts P e=some sz/\zs.length=sz/\0<sz/\sz' = sz/\k≠j/\0<m/\n+m<=maxLen/\(n+m)*by_<=140737488355328/\us.all dI=true,.hd (8*κ),[(k,none),(8*κ,some (.row e sz (n+m) (vs++us)))],none,[],[k,j]⟩:=rfl
def adv(P:Program)(κ j:Nat)(T T' : TypeId):Option TypeDesc->Option aX->R
 |some (.slice e),some (.row _ sz m us)=>match wA P e,tz P e with
  |some by_,some zs=>⟨T' = T/\ts P e=some sz/\zs.length=sz/\0<sz/\0<m/\m<=maxLen/\m*by_<=140737488355328/\us.all dI=true,.hd (8*κ),[(8*κ,some (.row e sz m us))],none,[],[j]⟩
  |_,_=>.bad
 |_,_=>.bad
def ady(κ k:Nat)(T T' e:TypeId)(sz n m:Nat)(vs us:List SV)(P:Program)(q:Prop):Option Nat->Option (List Value)->R
 |some by_,some zs=>⟨T' = T/\P.underlying T=some (.slice e)/\ts P e=some sz/\zs.length=sz/\q/\n+m<=maxLen/\(n+m)*by_<=140737488355328/\us.all dI=true,.hd (8*κ),[(k,none),(8*κ,some (.row e sz (n+m) (vs++us)))],none,[],[k]⟩
 |_,_=>.bad
def adx(P:Program)(W:World)(bs:List Nat)(κ k:Nat)(ao:Option Addr)(m:Nat)(T T' : TypeId):Bool->Option aX->R
 |true,some (.row e sz n vs)=>⟨T' = T/\P.underlying T=some (.slice e)/\ts P e=some sz/\m=0,.hd k,[],none,[],[k]⟩
 |false,some (.row e sz n vs)=>(match ao with
  |some ⟨b,o,none⟩=>ady κ k T T' e sz n m vs (cr W b o (m*sz)) P (b∉bs/\fB W b o (m*sz)) (wA P e) (tz P e)
  |_=>.bad)
 |_,_=>.bad
theorem Pt(T T' : TypeId)(k m c:Nat)(ao:Option Addr):fT P W bs κ h [T,T'] [.hd k,.v (.slice ao m c)]=adx P W bs κ k ao m T T' (m == 0) (h k):=by
 simp only[fT];unfold adx;rcases h k with _|e
 ·cases (m == 0)<;>rfl
 ·cases e with
  | row e sz n vs=>
   cases (m == 0) with
   |true=>rfl
   | false=>
    simp only[cond_false];rcases ao with _|⟨b,o,_|s⟩
    ·rfl
    ·simp only[ady];rcases wA P e with _|x<;>rcases tz P e with _|y<;>rfl
    ·rfl
  |_=>cases (m == 0)<;>rfl
theorem Tp(k m:Nat)(ao:Option Addr)(T T' e:TypeId)(sz n:Nat)(vs:List SV):adx P W bs κ k ao m T T' true (some (.row e sz n vs))=⟨T' = T/\P.underlying T=some (.slice e)/\ts P e=some sz/\m=0,.hd k,[],none,[],[k]⟩:=rfl
theorem XO(k m b o:Nat)(T T' e:TypeId)(sz n:Nat)(vs:List SV):adx P W bs κ k (some ⟨b,o,none⟩) m T T' false (some (.row e sz n vs))=ady κ k T T' e sz n m vs (cr W b o (m*sz)) P (b∉bs/\fB W b o (m*sz)) (wA P e) (tz P e):=rfl
theorem Tq(k:Nat)(T T' e:TypeId)(sz n m:Nat)(vs us:List SV)(q:Prop)(by_:Nat)(zs:List Value):ady κ k T T' e sz n m vs us P q (some by_) (some zs)=⟨T' = T/\P.underlying T=some (.slice e)/\ts P e=some sz/\zs.length=sz/\q/\n+m<=maxLen/\(n+m)*by_<=140737488355328/\us.all dI=true,.hd (8*κ),[(k,none),(8*κ,some (.row e sz (n+m) (vs++us)))],none,[],[k]⟩:=rfl
def adw(P:Program)(κ k:Nat)(s:ByteArray)(T T' : TypeId):Option aX->R
 |some (.row e sz n vs)=>(match wA P e,tz P e with
  |some by_,some zs=>⟨P.underlying T' = some .string/\P.underlying T=some (.slice e)/\ts P e=some sz/\zs.length=sz/\sz=1/\n+s.size<=maxLen/\(n+s.size)*by_<=140737488355328,.hd (8*κ),[(k,none),(8*κ,some (.row e sz (n+s.size) (vs++(byteCells s).map .v)))],none,[],[k]⟩
  |_,_=>.bad)
 |_=>.bad
theorem LJ(T T' : TypeId)(k:Nat)(s:ByteArray):fT P W bs κ h [T,T'] [.hd k,.v (.string s)]=adw P κ k s T T' (h k):=by
 simp only[fT];unfold adw;rcases h k with _|e
 ·rfl
 ·cases e with
  |_=>rfl
def ai8(κ k:Nat)(s:ByteArray)(P:Program)(T T' e:TypeId)(sz n:Nat)(vs:List SV):Option Nat->Option (List Value)->R
 |some by_,some zs=>⟨P.underlying T' = some .string/\P.underlying T=some (.slice e)/\ts P e=some sz/\zs.length=sz/\sz=1/\n+s.size<=maxLen/\(n+s.size)*by_<=140737488355328,.hd (8*κ),[(k,none),(8*κ,some (.row e sz (n+s.size) (vs++(byteCells s).map .v)))],none,[],[k]⟩
 |_,_=>.bad
theorem XN(k:Nat)(s:ByteArray)(T T' e:TypeId)(sz n:Nat)(vs:List SV):adw P κ k s T T' (some (.row e sz n vs))=ai8 κ k s P T T' e sz n vs (wA P e) (tz P e):=by
 simp only[adw,ai8]
theorem To(k:Nat)(s:ByteArray)(T T' e:TypeId)(sz n:Nat)(vs:List SV)(by_:Nat)(zs:List Value):ai8 κ k s P T T' e sz n vs (some by_) (some zs)=⟨P.underlying T' = some .string/\P.underlying T=some (.slice e)/\ts P e=some sz/\zs.length=sz/\sz=1/\n+s.size<=maxLen/\(n+s.size)*by_<=140737488355328,.hd (8*κ),[(k,none),(8*κ,some (.row e sz (n+s.size) (vs++(byteCells s).map .v)))],none,[],[k]⟩:=rfl
theorem Pu(T T' : TypeId)(j:Nat):fT P W bs κ h [T,T'] [.v (.slice none 0 0),.hd j]=adv P κ j T T' (P.underlying T) (h j):=by
 simp only[fT];unfold adv;rcases h j with _|e'
 ·rcases P.underlying T with _|d
  ·rfl
  ·cases d<;>rfl
 ·cases e' with
  | row e sz m us=>
   simp only[];rcases P.underlying T with _|d
   ·rfl
   ·cases d with
    |slice a=>
     simp only[];rcases wA P a with _|x<;>rcases tz P a with _|y<;>rfl
    |_=>rfl
  |cells T2 vs=>
   rcases P.underlying T with _|d
   ·rfl
   ·cases d<;>rfl
  |mp ks us=>
   rcases P.underlying T with _|d
   ·rfl
   ·cases d<;>rfl
  |obj d R=>
   rcases P.underlying T with _|d
   ·rfl
   ·cases d<;>rfl
def ai7(P:Program)(κ j:Nat)(T T' e sz m:Nat)(us:List SV):Option Nat->Option (List Value)->R
 |some by_,some zs=>⟨T' = T/\ts P e=some sz/\zs.length=sz/\0<sz/\0<m/\m<=maxLen/\m*by_<=140737488355328/\us.all dI=true,.hd (8*κ),[(8*κ,some (.row e sz m us))],none,[],[j]⟩
 |_,_=>.bad
theorem XM(j:Nat)(T T' e e' : TypeId)(sz m:Nat)(us:List SV) :
  adv P κ j T T' (some (.slice e)) (some (.row e' sz m us))=ai7 P κ j T T' e sz m us (wA P e) (tz P e):=by
 simp only[adv,ai7]
theorem Tn(j:Nat)(T T' e sz m:Nat)(us:List SV)(by_:Nat)(zs:List Value) :
  ai7 P κ j T T' e sz m us (some by_) (some zs)=⟨T' = T/\ts P e=some sz/\zs.length=sz/\0<sz/\0<m/\m<=maxLen/\m*by_<=140737488355328/\us.all dI=true,.hd (8*κ),[(8*κ,some (.row e sz m us))],none,[],[j]⟩:=rfl
end
theorem aA{n:Int}(h1:-9223372036854775808<=n)(h2:n<=9223372036854775807):IntKind.i64.wrap n=n:=by
 simp only[IntKind.wrap,IntKind.bits,IntKind.signed,Bool.true_and,decide_eq_true_eq,show (2:Int) ^ (64-1)=9223372036854775808 from rfl,show (2:Int) ^ 64=18446744073709551616 from rfl];split<;>omega
theorem af3(W:World)(b o:Nat):cr W b o 1=[.v ((W.cell? ⟨b,o,none⟩).getD undef)]:=rfl
theorem af4(W:World)(b o:Nat):cr W b o 2=[.v ((W.cell? ⟨b,o,none⟩).getD undef),.v ((W.cell? ⟨b,o+1,none⟩).getD undef)]:=rfl
theorem af5(W:World)(b o:Nat):cr W b o 3=[.v ((W.cell? ⟨b,o,none⟩).getD undef),.v ((W.cell? ⟨b,o+1,none⟩).getD undef),.v ((W.cell? ⟨b,o+2,none⟩).getD undef)]:=rfl
theorem af6(W:World)(b o:Nat):cr W b o 4=[.v ((W.cell? ⟨b,o,none⟩).getD undef),.v ((W.cell? ⟨b,o+1,none⟩).getD undef),.v ((W.cell? ⟨b,o+2,none⟩).getD undef),.v ((W.cell? ⟨b,o+3,none⟩).getD undef)]:=rfl
theorem af7(W:World)(b o:Nat):fB W b o 1=((W.cell? ⟨b,o,none⟩).isSome=true):=by simp[fB]
theorem af8(W:World)(b o:Nat):fB W b o 2=((W.cell? ⟨b,o,none⟩).isSome=true/\(W.cell? ⟨b,o+1,none⟩).isSome=true):=by simp[fB]
theorem af9(W:World)(b o:Nat):fB W b o 3=((W.cell? ⟨b,o,none⟩).isSome=true/\(W.cell? ⟨b,o+1,none⟩).isSome=true/\(W.cell? ⟨b,o+2,none⟩).isSome=true):=by simp[fB]
theorem aga(W:World)(b o:Nat):fB W b o 4=((W.cell? ⟨b,o,none⟩).isSome=true/\(W.cell? ⟨b,o+1,none⟩).isSome=true/\(W.cell? ⟨b,o+2,none⟩).isSome=true/\(W.cell? ⟨b,o+3,none⟩).isSome=true):=by simp[fB]
theorem afI(e e' : TypeId):((some (TypeDesc.slice e):Option TypeDesc)=some (.slice e'))=(e=e'):=by simp
theorem afJ(e:TypeId):(∃ e',(some (TypeDesc.slice e):Option TypeDesc)=some (.slice e'))=True:=by simp
theorem Cv(i:Nat)(vs:Array Value):cN i [.v (.tuple vs)]=⟨i<vs.size,.v (vs.getD i undef),[],none,[],[]⟩:=rfl
theorem TG(b:Builtin)(as_:Array Operand)(tys:Array TypeId):Call.operands { callee:=.builtin b,args:=as_,argTypes:=tys }=as_:=by simp[Call.operands]
theorem TJ(f:Operand)(as_:Array Operand)(tys:Array TypeId):(Call.operands { callee:=.value f,args:=as_,argTypes:=tys }).toList=f::as_.toList:=by simp[Call.operands]
theorem TH(f:Operand)(n:String)(as_:Array Operand)(tys:Array TypeId):(Call.operands { callee:=.invoke f n,args:=as_,argTypes:=tys }).toList=f::as_.toList:=by simp[Call.operands]
def aaR{P:Program}{f:FuncId}(W:World)(bs:List Nat)(κ:Nat)(h:Hp)(l:List SV):Option (Spec P f)->R
 |some s=>s.ev W bs κ h l
 |none=>.bad
theorem aV{P:Program}{W:World}{bs:List Nat}{κ:Nat}{h:Hp}(Γ:Env P)(f:FuncId)(l:List SV):fc Γ W bs κ h f l=aaR W bs κ h l (Γ.sp f):=by
 simp only[fc,aaR];cases Γ.sp f<;>rfl
theorem aw{P:Program}{f:FuncId}(W:World)(bs:List Nat)(κ:Nat)(h:Hp)(l:List SV)(s:Spec P f):aaR W bs κ h l (some s)=s.ev W bs κ h l:=rfl
theorem aD{P:Program}{f:FuncId}(p:a7 P f)(W:World)(bs:List Nat)(κ:Nat)(h:Hp)(l:List SV):p.spec.ev W bs κ h l=FG p.pre p.res W bs (aB h l):=rfl
theorem Zr{P:Program}{f:FuncId}(p:XB P f)(W:World)(bs:List Nat)(κ:Nat)(h:Hp)(l:List SV):p.spec.ev W bs κ h l=KH κ p.T p.s p.pre p.n p.vs p.tm W bs (aB h l):=rfl
theorem aaw{P:Program}{W:World}{bs:List Nat}{σ:St}:kf P W bs σ []=(True,[]):=rfl
theorem VR{P:Program}{W:World}{bs:List Nat}{σ:St}(r:ResultVar)(l:List ResultVar):kf P W bs σ (r::l)=evC (mb P W bs σ r) (kf P W bs σ l):=rfl
def akd:FV->Prop×SV
 |.is x=>(True,x)
 |.cnd b x=>(b=true,x)
 |.any=>(False,.v undef)
theorem Pf{P:Program}{W:World}{bs:List Nat}{σ:St}(t:Nat):mb P W bs σ (.tmp t)=akd (σ.φ t):=by
 simp only[mb,akd]
 all_goals cases σ.φ t<;>rfl
theorem afg(x:SV):akd (.is x)=(True,x):=rfl
def aau(P:Program)(W:World)(bs:List Nat)(h:Hp)(T:TypeId):FV->Prop×SV
 |.is (.own k o)=>resR (dG P W bs h T [.own k o])
 |_=>(False,.v undef)
where resR (r:R):Prop×SV:=(r.side,r.val)
theorem Ly{P:Program}{W:World}{bs:List Nat}{σ:St}(t:Nat)(T:TypeId):mb P W bs σ (.cell t T)=aau P W bs σ.h T (σ.φ t):=by
 simp only[mb,aau];rcases σ.φ t with x|⟨b,x⟩|_
 ·cases x<;>rfl
 ·rfl
 ·rfl
theorem aav{P:Program}{W:World}{bs:List Nat}{h:Hp}(T:TypeId)(k o:Nat):aau P W bs h T (.is (.own k o))=aau.resR (dG P W bs h T [.own k o]):=rfl
theorem aff(side:Prop)(val:SV)(u:List (Nat×Option aX))(pan:Option (List PanicEntry))(pupd reads:List Nat):aau.resR ⟨side,val,u,pan,pupd,reads⟩=(side,val):=rfl
theorem WW(x:SV):mh [x]=x:=rfl
theorem WX(x y:SV)(l:List SV):mh (x::y::l)=.tup (x::y::l):=rfl
def ajq(R:World->List Nat->SV->Hp->Prop)(W:World)(bs:List Nat)(h:Hp)(x:Prop×List SV):Prop:=x.1/\R W bs (mh x.2) h
theorem nf{P:Program}{W:World}{bs:List Nat}{rs:List ResultVar}{R:World->List Nat->SV->Hp->Prop}{RP:List PanicEntry->Hp->Prop}{σ:St}:Fin P rs R RP .ret W bs σ=ajq R W bs σ.h (kf P W bs σ rs):=rfl
theorem gf{P:Program}{W:World}{bs:List Nat}{rs:List ResultVar}{R:World->List Nat->SV->Hp->Prop}{RP:List PanicEntry->Hp->Prop}{σ:St}:Fin P rs R RP .normal W bs σ=ajq R W bs σ.h (kf P W bs σ rs):=rfl
theorem aef(R:World->List Nat->SV->Hp->Prop)(W:World)(bs:List Nat)(h:Hp)(p:Prop)(l:List SV):ajq R W bs h (p,l)=(p/\R W bs (mh l) h):=rfl
end
section
def ev4:=(aa @W9 (aa @DX (aa @af1 (aa @W8 (aa @aca (aa @VV (aa @NU (aa @aq (aa @Ci (aa @OA (aa @XR @Tt)))))))))))
def ev5:=(aa @Pt (aa @Tp (aa @XO (aa @Tq (aa @LJ (aa @XN (aa @To (aa @Fb (aa @Oe (aa @Of (aa @Ti (aa @JX (aa @Ue (aa @Og (aa @VW (aa @X7 (aa @TF (aa @Fb (aa @Pv (aa @XL (aa @Tl (aa @Pu (aa @XM (aa @Tn (aa @af3 (aa @af4 (aa @af5 (aa @af6 (aa @af7 (aa @af8 (aa @af9 (aa @aga (aa @afI (aa @afJ (aa @Cv (aa @TG (aa @TJ (aa @TH (aa @aV (aa @aw (aa @aD (aa @Zr (aa @aaw (aa @VR (aa @Pf (aa @afg (aa @Ly (aa @aav (aa @aff (aa @WW (aa @WX (aa @nf (aa @gf @aef)))))))))))))))))))))))))))))))))))))))))))))))))))))
end
end Go.LE
namespace Go.Proofs.YtnemkecffmdlnaaGreatDoor
section
theorem kR{p:Prop}(h:p:=by kernel_rfl):p:=h
open Go.RowKit Go.LE Go.Proofs.Tryz
theorem aM:prog.follows .mixedOrders=true:=kR
theorem kQ:ts prog 0=some 1:=kR
theorem kS:ta prog 0=some false:=kR
theorem Sz:ts prog 1=some 1:=kR
theorem SD:ta prog 1=some false:=kR
theorem SZ:tz prog 1=some [Value.nilFunc]:=kR
theorem ty5:ts prog 2=some 1:=kR
theorem ty6:ta prog 2=some false:=kR
theorem ty7:tz prog 2=some [Value.int IntKind.i64 0]:=kR
theorem ty8:Program.underlying prog 2=some (.int IntKind.i64):=kR
theorem kU:ts prog 3=some 1:=kR
theorem dc:ta prog 3=some false:=kR
theorem dd:wA prog 3=some 8:=kR
theorem de:tz prog 3=some [Value.int IntKind.i64 0]:=kR
theorem df:Program.underlying prog 3=some (.int IntKind.i64):=kR
theorem dv:ts prog 4=some 1:=kR
theorem dw:ta prog 4=some false:=kR
theorem dz:tz prog 4=some [Value.bool false]:=kR
theorem dA:Program.underlying prog 4=some .bool:=kR
theorem mV:ts prog 5=some 1:=kR
theorem mW:ta prog 5=some false:=kR
theorem mX:wA prog 5=some 1:=kR
theorem mY:tz prog 5=some [Value.int IntKind.u8 0]:=kR
theorem mZ:Program.underlying prog 5=some (.int IntKind.u8):=kR
theorem eB:ts prog 9=some 1:=kR
theorem eC:ta prog 9=some false:=kR
theorem eD:wA prog 9=some 16:=kR
theorem eE:tz prog 9=some [Value.string { data:=#[] }]:=kR
theorem eF:Program.underlying prog 9=some .string:=kR
theorem eG:Program.concrete prog 9=true:=kR
theorem Jh:ts prog 20=some 1:=kR
theorem Ji:ta prog 20=some false:=kR
theorem Jj:tz prog 20=some [Value.nilIface]:=kR
theorem Jk:isIface prog 20=some true:=kR
theorem akE:ts prog 22=some 1:=kR
theorem akF:ta prog 22=some false:=kR
theorem akG:tz prog 22=some [Value.slice none 0 0]:=kR
theorem akH:Program.underlying prog 22=some (.slice 9):=kR
theorem n8:ts prog 37=some 1:=kR
theorem oa:ta prog 37=some false:=kR
theorem ob:tz prog 37=some [Value.int IntKind.i64 0]:=kR
theorem oc:Program.underlying prog 37=some (.int IntKind.i64):=kR
theorem uK:ts prog 39=some 3:=kR
theorem uL:ta prog 39=some true:=kR
theorem uM:qZ prog 39=some (.agg #[Value.int IntKind.i64 0,Value.int IntKind.i64 0,Value.string { data:=#[] }]):=kR
theorem uN:tz prog 39=some [Value.int IntKind.i64 0,Value.int IntKind.i64 0,Value.string { data:=#[] }]:=kR
theorem uO:qX prog 39=some [(0,1),(1,1),(2,1)]:=kR
theorem uP:isIface prog 39=some false:=kR
theorem uQ:Program.concrete prog 39=true:=kR
theorem uR:tf prog 39 0=some (0,1,false):=kR
theorem uS:tf prog 39 1=some (1,1,false):=kR
theorem uT:tf prog 39 2=some (2,1,false):=kR
theorem abF:ts prog 89=some 1:=kR
theorem abG:ta prog 89=some false:=kR
theorem abH:tz prog 89=some [Value.slice none 0 0]:=kR
theorem abI:Program.underlying prog 89=some (.slice 5):=kR
theorem al8:ts prog 149=some 1:=kR
theorem al9:ta prog 149=some false:=kR
theorem ama:tz prog 149=some [Value.slice none 0 0]:=kR
theorem amb:Program.underlying prog 149=some (.slice 3):=kR
theorem iA:ts prog 151=some 1:=kR
theorem iB:ta prog 151=some false:=kR
theorem iC:tz prog 151=some [Value.nilIface]:=kR
theorem iD:isIface prog 151=some true:=kR
theorem aiI:ts prog 152=some 1:=kR
theorem aiJ:ta prog 152=some false:=kR
theorem wL:ts prog 203=some 1:=kR
theorem wO:ta prog 203=some false:=kR
theorem wP:tz prog 203=some [Value.int IntKind.u64 0]:=kR
theorem wQ:Program.underlying prog 203=some (.int IntKind.u64):=kR
theorem Dq:ts prog 249=some 1:=kR
theorem Dr:ta prog 249=some false:=kR
theorem Ds:tz prog 249=some [Value.pointer none]:=kR
theorem Dt:iW prog 249=some true:=kR
theorem Du:Program.underlying prog 249=some (.pointer 251):=kR
theorem Dv:ts prog 251=some 3:=kR
theorem Dw:ta prog 251=some true:=kR
theorem Dx:tz prog 251=some [Value.string { data:=#[] },Value.int IntKind.i64 0,Value.slice none 0 0]:=kR
theorem Dy:qX prog 251=some [(0,1),(1,1),(2,1)]:=kR
theorem Dz:tf prog 251 0=some (0,1,false):=kR
theorem DA:tf prog 251 1=some (1,1,false):=kR
theorem DB:tf prog 251 2=some (2,1,false):=kR
theorem SA:ts prog 252=some 1:=kR
theorem SB:ta prog 252=some false:=kR
theorem SC:tz prog 252=some [Value.nilFunc]:=kR
theorem wU:ts prog 254=some 2:=kR
theorem wV:ta prog 254=some true:=kR
theorem wX:tz prog 254=some [Value.int IntKind.i64 0,Value.nilFunc]:=kR
theorem wY:qX prog 254=some [(0,1),(1,1)]:=kR
theorem w4:tf prog 254 0=some (0,1,false):=kR
theorem w5:tf prog 254 1=some (1,1,false):=kR
theorem Mi:ts prog 279=some 1:=kR
theorem Mj:ta prog 279=some true:=kR
theorem Mk:qZ prog 279=some (.agg #[Value.nilIface]):=kR
theorem Ml:tz prog 279=some [Value.nilIface]:=kR
theorem Mm:qX prog 279=some [(0,1)]:=kR
theorem Mn:isIface prog 279=some false:=kR
theorem Mp:Program.concrete prog 279=true:=kR
theorem Mq:tf prog 279 0=some (0,1,false):=kR
theorem DC:ts prog 281=some 2:=kR
theorem DD:ta prog 281=some true:=kR
theorem DE:qZ prog 281=some (.agg #[Value.nilIface,Value.nilIface]):=kR
theorem DF:tz prog 281=some [Value.nilIface,Value.nilIface]:=kR
theorem DG:qX prog 281=some [(0,1),(1,1)]:=kR
theorem DH:isIface prog 281=some false:=kR
theorem DI:Program.concrete prog 281=true:=kR
theorem DJ:tf prog 281 0=some (0,1,false):=kR
theorem DK:tf prog 281 1=some (1,1,false):=kR
theorem DL:ts prog 283=some 0:=kR
theorem DM:ta prog 283=some true:=kR
theorem DN:qZ prog 283=some (.agg #[]):=kR
theorem DO:tz prog 283=some []:=kR
theorem DP:qX prog 283=some []:=kR
theorem DQ:isIface prog 283=some false:=kR
theorem DR:Program.concrete prog 283=true:=kR
theorem F5:ts prog 284=some 2:=kR
theorem F6:ta prog 284=some true:=kR
theorem F7:qZ prog 284=some (.agg #[Value.nilIface,Value.nilIface]):=kR
theorem F8:tz prog 284=some [Value.nilIface,Value.nilIface]:=kR
theorem F9:qX prog 284=some [(0,1),(1,1)]:=kR
theorem Ga:isIface prog 284=some false:=kR
theorem Gb:Program.concrete prog 284=true:=kR
theorem Gc:tf prog 284 0=some (0,1,false):=kR
theorem Gd:tf prog 284 1=some (1,1,false):=kR
theorem Mr:ts prog 285=some 2:=kR
theorem Mt:ta prog 285=some true:=kR
theorem Mu:qZ prog 285=some (.agg #[Value.nilIface,Value.nilIface]):=kR
theorem Mv:tz prog 285=some [Value.nilIface,Value.nilIface]:=kR
theorem Mw:qX prog 285=some [(0,1),(1,1)]:=kR
theorem Mx:isIface prog 285=some false:=kR
theorem My:Program.concrete prog 285=true:=kR
theorem Mz:tf prog 285 0=some (0,1,false):=kR
theorem MA:tf prog 285 1=some (1,1,false):=kR
theorem MB:ts prog 286=some 2:=kR
theorem MC:ta prog 286=some true:=kR
theorem MD:qZ prog 286=some (.agg #[Value.nilIface,Value.nilIface]):=kR
theorem ME:tz prog 286=some [Value.nilIface,Value.nilIface]:=kR
theorem MF:qX prog 286=some [(0,1),(1,1)]:=kR
theorem MG:isIface prog 286=some false:=kR
theorem MH:Program.concrete prog 286=true:=kR
theorem MJ:tf prog 286 0=some (0,1,false):=kR
theorem MK:tf prog 286 1=some (1,1,false):=kR
theorem Ge:ts prog 307=some 1:=kR
theorem Gf:ta prog 307=some false:=kR
theorem Gg:tz prog 307=some [Value.nilFunc]:=kR
theorem w6:ts prog 309=some 4:=kR
theorem w7:ta prog 309=some true:=kR
theorem w8:tz prog 309=some [Value.int IntKind.u64 0,Value.int IntKind.u64 0,Value.int IntKind.u64 0,Value.int IntKind.u64 0]:=kR
theorem w9:Program.underlying prog 309=some (.array 4 203):=kR
theorem SE:ts prog 311=some 4:=kR
theorem SF:ta prog 311=some true:=kR
theorem SG:qZ prog 311=some (.agg #[Value.int IntKind.u64 0,Value.int IntKind.u64 0,Value.int IntKind.u64 0,Value.int IntKind.u64 0]):=kR
theorem SH:tz prog 311=some [Value.int IntKind.u64 0,Value.int IntKind.u64 0,Value.int IntKind.u64 0,Value.int IntKind.u64 0]:=kR
theorem SI:qX prog 311=some [(0,4)]:=kR
theorem SJ:isIface prog 311=some false:=kR
theorem SK:Program.concrete prog 311=true:=kR
theorem SL:tf prog 311 0=some (0,4,true):=kR
theorem ML:ts prog 326=some 1:=kR
theorem MM:ta prog 326=some false:=kR
theorem aiK:ts prog 355=some 2:=kR
theorem aiL:ta prog 355=some true:=kR
theorem aiM:tz prog 355=some [Value.int IntKind.u8 0,Value.int IntKind.u8 0]:=kR
theorem aiN:qX prog 355=some [(0,1),(1,1)]:=kR
theorem aiO:tf prog 355 0=some (0,1,false):=kR
theorem aiP:tf prog 355 1=some (1,1,false):=kR
theorem aiQ:ts prog 356=some 6:=kR
theorem aiR:ta prog 356=some true:=kR
theorem aiS:tz prog 356=some [Value.int IntKind.u8 0,Value.int IntKind.u8 0,Value.int IntKind.u8 0,Value.int IntKind.u8 0,Value.int IntKind.u8 0,Value.int IntKind.u8 0]:=kR
theorem aiT:Program.underlying prog 356=some (.array 3 355):=kR
theorem amc:ts prog 361=some 1:=kR
theorem amd:ta prog 361=some false:=kR
theorem SM:ts prog 373=some 1:=kR
theorem SN:ta prog 373=some false:=kR
theorem SO:tz prog 373=some [Value.pointer none]:=kR
theorem SP:iW prog 373=some true:=kR
theorem SQ:Program.underlying prog 373=some (.pointer 375):=kR
theorem SR:ts prog 375=some 2:=kR
theorem SS:ta prog 375=some true:=kR
theorem SU:tz prog 375=some [Value.string { data:=#[] },Value.int IntKind.i64 0]:=kR
theorem SW:qX prog 375=some [(0,1),(1,1)]:=kR
theorem SX:tf prog 375 0=some (0,1,false):=kR
theorem SY:tf prog 375 1=some (1,1,false):=kR
end
end Go.Proofs.YtnemkecffmdlnaaGreatDoor
namespace Go.LE
section
open Go.RowKit
def Gs(w:World)(ao:Option Addr)(vs:List Value):Prop:=
 vs=[]\/∃ b o,ao=some ⟨b,o,none⟩/\∀ j (h:j<vs.length),w.cell? ⟨b,o+j,none⟩=some vs[j]
theorem Le.conv{W:World}{bs:List Nat}{nt:Nat}{ds:Aux}{σ:St}{k:Nat}{e e' : aX}(hk:σ.h k=some e)(he:∀ E u fp w,bu E u fp w e->bu E u fp w e')(hkeys:∀ j∈e'.keys,j∈e.keys) :
  Le W bs nt ds σ ⟨σ.n,σ.φ,bo σ.h k (some e')⟩:=by
 rintro a w ⟨⟨E,F,hφ,hs,hp⟩,h1,h2,h3,h4,h5⟩;have old:∀ j x,bo σ.h k (some e') j=some x->∃ y,σ.h j=some y/\((j=k/\x=e')\/x=y):=λj x hj=>by
  by_cases hjk:j=k
  ·subst hjk;rw[ah]at hj;cases hj;exact⟨e,hk,.inl ⟨rfl,rfl⟩⟩
  ·rw[al _ _ hjk]at hj;exact⟨x,hj,.inr rfl⟩
 refine⟨⟨E,F,hφ,⟨λj x hj=>?_,λj x hj=>?_,λj x hj=>?_,λi j x y hij hi hj=>?_,hs.keeps⟩,hp⟩,h1,h2,h3,h4,λj x hj=>?_⟩
 ·obtain⟨y,hy,h⟩:=old j x hj;rcases h with ⟨rfl,rfl⟩|rfl
  ·rw[hk]at hy;cases hy;exact he _ _ _ _ (hs.ent j e hk)
  ·exact hs.ent j x hy
 ·obtain⟨y,hy,_⟩:=old j x hj;exact hs.lt j y hy
 ·obtain⟨y,hy,_⟩:=old j x hj;exact hs.mine j y hy
 ·obtain⟨x',hx',_⟩:=old i x hi;obtain⟨y',hy',_⟩:=old j y hj;exact hs.apart i j x' y' hij hx' hy'
 ·obtain⟨y,hy,h⟩:=old j x hj;rcases h with ⟨rfl,rfl⟩|rfl
  ·rw[hk]at hy;cases hy;exact⟨(h5 j e hk).1,λi hi=>(h5 j e hk).2 i (hkeys i hi)⟩
  ·exact h5 j x hy
def aY(W:World)(S:Nat->Prop)(W' : World)(S' : Nat->Prop):Prop:=∀ b,b<W.heap.size->S b->W'.heap[b]?=W.heap[b]?/\S' b
theorem aY.refl(W:World)(S:Nat->Prop):aY W S W S:=λ_ _ h=>⟨rfl,h⟩
theorem aY.trans{W W' W'' : World}{S S' S'' : Nat->Prop}(h:aY W S W' S')(h' : aY W' S' W'' S'')(hsz:W.heap.size<=W'.heap.size):aY W S W'' S'' := λb hb hs=>by
 obtain⟨h1,h2⟩:=h b hb hs;obtain⟨h3,h4⟩:=h' b oM h2;exact⟨h3.trans h1,h4⟩
def Out(bs:List Nat):Nat->Prop:=λb=>b∉bs
theorem Ext.eQ{W W' : World}{bs bs' : List Nat}(h:Ext W bs W' bs'):aY W (Out bs) W' (Out bs'):=λb hb hs=>
 ⟨h.keeps.block b hb hs,λhb' => (h.sub b hb').elim (λh1=>by omega) hs⟩
theorem an.eQ{W w:World}{bs:List Nat}(h:an W bs w):aY W (Out bs) w (Out bs):=λb hb hs=>⟨h.block b hb hs,hs⟩
def XC(W:World)(S:Nat->Prop)(b o:Nat)(v:Value):Prop:=S b/\W.cell? ⟨b,o,none⟩=some v
theorem XC.mono{W W' : World}{S S' : Nat->Prop}{b o:Nat}{v:Value}(h:XC W S b o v)(hs:aY W S W' S'):XC W' S' b o v:=by
 have hlt:=World.block_lt_of_cell? W _ h.2;obtain⟨h1,h2⟩:=hs b hlt h.1;exact⟨h2,by rw[<- h.2];exact World.cell?_of_block h1⟩
def jN(W:World)(S:Nat->Prop)(ao:Option Addr)(vs:List Value):Prop:=vs=[]\/∃ b o,ao=some ⟨b,o,none⟩/\∀ j (h:j<vs.length),XC W S b (o+j) vs[j]
theorem jN.mono{W W' : World}{S S' : Nat->Prop}{ao:Option Addr}{vs:List Value}(h:jN W S ao vs)(hs:aY W S W' S'):jN W' S' ao vs:=by
 rcases h with h|⟨b,o,h1,h2⟩
 ·exact .inl h
 ·exact .inr ⟨b,o,h1,λj hj=>(h2 j hj).mono hs⟩
theorem jN.is{W:World}{S:Nat->Prop}{ao:Option Addr}{vs:List Value}(h:jN W S ao vs):Gs W ao vs:=by
 rcases h with h|⟨b,o,h1,h2⟩
 ·exact .inl h
 ·exact .inr ⟨b,o,h1,λj hj=>(h2 j hj).2⟩
theorem jN.ZW{W:World}{ao:Option Addr}{vs:List Value}(h:Gs W ao vs):jN W (λ_=>True) ao vs:=by
 rcases h with h|⟨b,o,h1,h2⟩
 ·exact .inl h
 ·exact .inr ⟨b,o,h1,λj hj=>⟨trivial,h2 j hj⟩⟩
theorem jN.out{W:World}{ao:Option Addr}{vs:List Value}{S S' : Nat->Prop}(h:jN W S ao vs)(hs:∀ b,S b->S' b):jN W S' ao vs:=h.mono λb _ hb=>⟨rfl,hs b hb⟩
theorem jN.take{W:World}{S:Nat->Prop}{ao:Option Addr}{vs ws:List Value}(h:jN W S ao (vs++ws)):jN W S ao vs:=by
 rcases h with h|⟨b,o,h1,h2⟩
 ·exact .inl (by simp at h;exact h.1)
 ·refine .inr ⟨b,o,h1,λj hj=>?_⟩;have:=h2 j (by simp;omega)
  rwa [List.getElem_append_left hj]at this
theorem hH{P:Program}{W:World}{bs:List Nat}{nt:Nat}{ds:Aux}{Q:lR}{σ:St}{x y:Code}(σ' : St)(h1:Wp P W bs nt ds x (Th (λW' bs' σ1=>Le W' bs' nt ds σ1 σ') Q) σ)(h2:Wp P W bs nt ds y Q σ') :
  Wp P W bs nt ds (.seq x y) Q σ:=λa w hs=>
 wp_seq (wp_mono (h1 a w hs) λe a' w' ⟨W',bs',σ1,he,hq,hs'⟩=>by
  cases e with
  |normal=>exact h2 a' w' (Sat.back he (hq a' w' hs'))
  |_=>exact⟨W',bs',σ1,he,hq,hs'⟩)
def New(W:World)(bs bs' : List Nat):Nat->Prop:=λb=>b∉bs' /\ (W.heap.size<=b\/b∈bs)
theorem New.out{W:World}{bs bs' : List Nat}{b:Nat}(h:New W bs bs' b):Out bs' b:=h.1
theorem afk{W W' : World}{bs bs' : List Nat}{E:Nat->Value}{F:Nat->List Nat}{h:Hp}{k:Nat}{T:TypeId}{s n:Nat}{vs:List SV}(hs:aj W bs E F h W')(hk:h k=some (.row T s n vs))(hb:∀ b∈F k,b∉bs') :
  ∃ ao c,E k=.slice ao n c/\jN W' (New W bs bs') ao (ai E vs)/\n<=c:=by
 obtain⟨⟨hl,h⟩,hF⟩:=hs.ent k _ hk;rcases h with ⟨h1,rfl⟩|⟨g,cap,cur,h1,_,hh,hnc,_,hsz,htk⟩
 ·exact⟨none,0,h1,.inl (by simpa using hl),Nat.le_refl _⟩
 ·have hg:g∈F k:=by rw[hF,h1];simp[Value.ownBlock]
  refine⟨some ⟨g,0,none⟩,cap,h1,.inr ⟨g,0,rfl,λj hj=>⟨⟨hb g hg,hs.mine k _ hk g hg⟩,?_⟩⟩,hnc⟩;rw[Nat.zero_add];have hj' : j<n*s:=oM;have:(ai E vs)[j]?=cur[j]?:=by rw[<- htk,List.getElem?_take,if_pos hj'];simp
  simp only[World.cell?,hh];rw[<- this,List.getElem?_eq_getElem hj];rfl
theorem jN.grow{W W' : World}{bs' : List Nat}{ao:Option Addr}{vs:List Value}{S:Nat->Prop}(h:jN W' (New W [] bs') ao vs):jN W' (λb=>(b<W.heap.size->S b)/\b∉bs') ao vs:=
 h.out λb hb=>⟨λhlt=>absurd (hb.2.resolve_right sI) (Nat.not_le.2 hlt),hb.1⟩
def dD(cs:List Value):Value:=.iface 0 (.agg cs.toArray)
theorem Hr(cs:List Value)(i:Nat):Lb (dD cs) i=cs.getD i .nilIface:=by simp[Lb,dD,Array.getD_eq_getD_getElem?,List.getD_eq_getElem?_getD]
def Grow(w:World)(S:Nat->Prop):Nat->Prop:=λb=>b<w.heap.size->S b
def Ry(W:World)(bs:List Nat)(Φ:List Value->World->(Nat->Prop)->Prop):List Value->Value->List Nat->World->Prop:=λ_ u fp w=>
 ∃ cs,u=dD cs/\∀ W₂ S₂,(∀ b,b<W.heap.size->b∉bs->W₂.heap[b]?=W.heap[b]?/\S₂ b)->(∀ b∈fp,W₂.heap[b]?=w.heap[b]?/\S₂ b)->Φ cs W₂ S₂
structure Xz (P:Program)(f:FuncId) where
 pre:List AV->World->(Nat->Prop)->Prop
 tm:Nat->SV
 Φ:List AV->List Value->World->(Nat->Prop)->Prop
 premono:∀ as_ W S W' S',aY W S W' S' -> pre as_ W S->pre as_ W' S'
 mono:∀ as_ cs W S W' S',aY W S W' S' -> Φ as_ cs W S->Φ as_ cs W' S'
 tmg:∀ E k,den E (tm k)=den (λ_=>E k) (tm 0)
 tmk:∀ k,∀ j∈(tm k).keys,j=k
 enters:∀ args w,(callFunc f args).run P w=.ok (.enter f args) w
 ok:∀ (w:World) (S:Nat->Prop) (us:List Value) (as_:List AV),eW w us as_->pre as_ w S->Calls P f us.toArray w λe w' => ∃ cs,e=.returned (den (λ_=>dD cs) (tm 0))/\Φ as_ cs w' (Grow w S)/\an w [] w'
def Old(W:World)(bs:List Nat):Nat->Prop:=λb=>b<W.heap.size/\b∉bs
def Kh(κ:Nat)(pre:List AV->World->(Nat->Prop)->Prop)(tm:Nat->SV)(Φ:List AV->List Value->World->(Nat->Prop)->Prop)(W:World)(bs:List Nat):Option (List AV×List Nat)->R
 |some (as_,rs)=>⟨pre as_ W (Out bs),tm (8*κ),[(8*κ,some (.obj [] (Ry W bs (Φ as_))))],none,[],rs⟩
 |none=>.bad
def Xz.spec{P:Program}{f:FuncId}(p:Xz P f):Spec P f where
 ev:=λW bs κ h args=>Kh κ p.pre p.tm p.Φ W bs (aB h args)
 good:=λW bs κ E F h w K args hs hK hk hx hside=>by
  rw[p.enters];cases hv:aB h args with
  |none=>rw[hv]at hside;exact hside.elim
  | some q=>
   obtain⟨as_,rs⟩:=q;rw[hv]at hside;have h0:aY W (Out bs) w (Old W bs):=λb hb hs' => ⟨hs.keeps.block b hb hs',hb,hs'⟩
   refine Bk hs hK hk (e:=.obj [] (Ry W bs (p.Φ as_))) ((p.ok w (Old W bs) _ as_ (ep hs hv) (p.premono as_ _ _ _ _ h0 hside)).mono λe w' he=>?_) rfl rfl;obtain⟨cs,rfl,hΦ,hkeep⟩:=he;have hmem:∀ b,b∈List.range' w.heap.size (w'.heap.size-w.heap.size) ↔ w.heap.size<=b/\b<w'.heap.size:=λb=>by
    rw[List.mem_range'_1];have:=hkeep.size;omega
   have hR:∀ w3:World,(∀ b∈List.range' w.heap.size (w'.heap.size-w.heap.size),w3.heap[b]?=w'.heap[b]?)->Ry W bs (p.Φ as_) [] (dD cs) (List.range' w.heap.size (w'.heap.size-w.heap.size)) w3:=by
    intro w3 h3;refine⟨cs,rfl,λW₂ S₂ hold hnew=>p.mono as_ cs w' (Grow w (Old W bs)) W₂ S₂ (λb hb hg=>?_) hΦ⟩;by_cases hbw:b<w.heap.size
    ·obtain⟨g1,g2⟩:=hg hbw;obtain⟨g3,g4⟩:=hold b g1 g2;exact⟨by rw[g3,hkeep.block b hbw sI,hs.keeps.block b g1 g2],g4⟩
    ·have hb' := (hmem b).2 ⟨oM,hb⟩;obtain⟨g3,g4⟩:=hnew b hb';exact⟨by rw[g3,h3 b hb'],g4⟩
   refine⟨_,dD cs,List.range' w.heap.size (w'.heap.size-w.heap.size),rfl,λE' => ⟨⟨hR w' λ_ _=>rfl,rfl⟩,hR⟩,λb hb=>(hmem b).1 hb,hkeep,?_⟩;simp only[Kh];rw[p.tmg (bo E (nk κ) (dD cs)),nk,ah]
 keys:=λW bs κ h K args hK hx hside=>by
  cases hv:aB h args with
  |none=>rw[hv]at hside;exact hside.elim
  | some q=>
   obtain⟨as_,rs⟩:=q;refine⟨λk hk=>.inr ?_,λq hq=>?_⟩
   ·rw[p.tmk _ k hk];exact aZ κ
   ·simp only[Kh,List.mem_singleton]at hq;subst hq;refine⟨.inr (aZ κ),λe he k hk=>?_⟩;simp only[Option.some.injEq]at he;subst he;cases hk
 loc:=λW bs κ h h' args hside hr=>by
  cases hv:aB h args with
  |none=>rw[hv]at hside;exact hside.elim
  |some q=>
   obtain⟨as_,rs⟩:=q;rw[hv]at hr;rw[cP hv hr]
theorem YF{P:Program}{f:FuncId}(p:Xz P f)(W:World)(bs:List Nat)(κ:Nat)(h:Hp)(l:List SV):p.spec.ev W bs κ h l=Kh κ p.pre p.tm p.Φ W bs (aB h l):=rfl
theorem Oa(κ:Nat)(pre:List AV->World->(Nat->Prop)->Prop)(tm:Nat->SV)(Φ:List AV->List Value->World->(Nat->Prop)->Prop)(W:World)(bs:List Nat)(as_:List AV)(rs:List Nat) :
  Kh κ pre tm Φ W bs (some (as_,rs))=⟨pre as_ W (Out bs),tm (8*κ),[(8*κ,some (.obj [] (Ry W bs (Φ as_))))],none,[],rs⟩:=rfl
theorem gu(m:Nat->Src)(l:List Value):jP m (l.map .v)=l.map .v:=by
 induction l with
 |nil=>rfl
 |cons x r ih=>simp[jP,kb,ih]
section
variable {P:Program}{κ:Nat}{h:Hp}
def mkV(κ:Nat)(e:TypeId)(l c:Int):Option Nat->Option (List Value)->Option Nat->R
 |some sz,some zs,some by_=>⟨0<=l/\l<=c/\(by_:Int)*c<=281474976710656/\c<=9223372036854775807/\zs.length=sz/\0<sz,.hd (8*κ),[(8*κ,some (.row e sz l.toNat ((List.replicate l.toNat zs).flatten.map .v)))],none,[],[]⟩
 |_,_,_=>.bad
def mkU(P:Program)(κ:Nat)(l c:Int):Option TypeDesc->R
 |some (.slice e)=>mkV κ e l c (ts P e) (tz P e) (wA P e)
 |_=>.bad
theorem LU(T:TypeId)(k k' : IntKind)(l c:Int):ny P κ T [.v (.int k l),.v (.int k' c)]=mkU P κ l c (P.underlying T):=by
 simp only[ny];unfold mkU;rcases P.underlying T with _|d
 ·rfl
 ·cases d<;>first|rfl|(rename_i e;simp only[mkV,nk];rcases ts P e with _|a<;>rcases tz P e with _|b<;>rcases wA P e with _|c<;>rfl)
theorem Vc(l c:Int)(e:TypeId):mkU P κ l c (some (.slice e))=mkV κ e l c (ts P e) (tz P e) (wA P e):=rfl
theorem ZF(e:TypeId)(l c:Int)(sz:Nat)(zs:List Value)(by_:Nat):mkV κ e l c (some sz) (some zs) (some by_)=⟨0<=l/\l<=c/\(by_:Int)*c<=281474976710656/\c<=9223372036854775807/\zs.length=sz/\0<sz,.hd (8*κ),[(8*κ,some (.row e sz l.toNat ((List.replicate l.toNat zs).flatten.map .v)))],none,[],[]⟩:=rfl
def Ia(ao:Option Addr)(a sz c:Nat):Option Addr:=if c=a then ao else ao.map (·.add (a*sz))
theorem FO(ao:Option Addr)(sz c:Nat):Ia ao 0 sz c=ao:=by
 unfold Ia;split
 ·rfl
 ·cases ao<;>simp[Addr.add]
theorem jN.at{W:World}{S:Nat->Prop}{ao:Option Addr}{vs:List Value}{a sz c n:Nat}(h:jN W S ao vs)(hl:vs.length=n*sz)(hn:n<=c)(ha:a<=n):jN W S (Ia ao a sz c) (vs.drop (a*sz)):=by
 unfold Ia;split
 ·left;have:vs.length<=a*sz:=by rw[hl];exact Nat.mul_le_mul_right _ oM
  simp[this]
 ·rcases h with h|⟨b,o,rfl,h2⟩
  ·exact .inl (by simp[h])
  ·refine .inr ⟨b,o+a*sz,?_,λj hj=>?_⟩
   ·simp only[Option.map_some,Addr.add,Option.some.injEq];split
    ·rename_i h0;simp[h0]
    ·rfl
   ·simp only[List.length_drop]at hj;have:=h2 (a*sz+j) oM;rw[List.getElem_drop]
    rwa [Nat.add_assoc]
def slV(ao:Option Addr)(c:Nat)(a b:Int):Option Nat->R
 |some sz=>⟨0<=a/\a<=b/\b<=c,.v (.slice (Ia ao a.toNat sz c) (b.toNat-a.toNat) (c-a.toNat)),[],none,[],[]⟩
 |none=>.bad
def slU(P:Program)(ao:Option Addr)(c:Nat)(a b:Int):Option TypeDesc->R
 |some (.slice e)=>slV ao c a b (ts P e)
 |_=>.bad
theorem pJ(T:TypeId)(ao:Option Addr)(n c:Nat)(a b:Int):o9 P T ao n c a b=slU P ao c a b (P.underlying T):=by
 simp only[o9];unfold slU;rcases P.underlying T with _|d
 ·rfl
 ·cases d<;>first|rfl|(rename_i e;simp only[slV,R.im,Ia];rcases ts P e with _|a<;>rfl)
theorem Wo(ao:Option Addr)(c:Nat)(a b:Int)(e:TypeId):slU P ao c a b (some (.slice e))=slV ao c a b (ts P e):=rfl
theorem aa0(ao:Option Addr)(c:Nat)(a b:Int)(sz:Nat):slV ao c a b (some sz)=⟨0<=a/\a<=b/\b<=c,.v (.slice (Ia ao a.toNat sz c) (b.toNat-a.toNat) (c-a.toNat)),[],none,[],[]⟩:=rfl
theorem HY(T:TypeId)(ao:Option Addr)(n c:Nat)(k k' : IntKind)(a b:Int):du P T true true false [.v (.slice ao n c),.v (.int k a),.v (.int k' b)]=slU P ao c a b (P.underlying T):=by
 rw[<- pJ T ao n];rfl
theorem HX(T:TypeId)(ao:Option Addr)(n c:Nat)(k:IntKind)(a:Int):du P T true false false [.v (.slice ao n c),.v (.int k a)]=slU P ao c a n (P.underlying T):=by
 rw[<- pJ T ao n];rfl
theorem HW(T:TypeId)(ao:Option Addr)(n c:Nat)(k:IntKind)(b:Int):du P T false true false [.v (.slice ao n c),.v (.int k b)]=slU P ao c 0 b (P.underlying T):=by
 rw[<- pJ T ao n];rfl
end
end
section
def ev6:=(aa @LU (aa @Vc (aa @ZF (aa @FO (aa @Wo (aa @aa0 (aa @HY (aa @HX (aa @HW (aa @YF @Oa))))))))))
end
section
open Go.ChangeShapes Go.WideShapes Go.ChangeAt Go.RowKit
section
variable {H:Type}{enc:TypeId×Value->H}{P:Program}
theorem aam{f:Func}{s:ChangeSpec}{apart fresh handsOn again:Bool}{W W' : World}{args:Array Value}{v:Value}{ds gs:List (DataW H)}{before pa pv:List MemPlace}
  (hW:DataW.Whole enc P f.params.toList s.vars apart W args.toList ds gs before)
  (hres:∀ (b:Nat) (sp:Nat->Bool) (hd:Bool),DataW.TrodAll enc P W' b sp hd f.resultTypes.toList (v.resultList f.resultTypes.size) (s.fn H (ds++gs)).results [])
  (hargs:∀ sp:Nat->Bool,(∀ p∈before,sp p.block=true)->DataW.TrodAll enc P W' 0 sp true f.params.toList args.toList (s.fn H (ds++gs)).args pa)
  (hvars:∀ sp:Nat->Bool,(∀ p∈before,sp p.block=true)->DataW.TrodVars enc P W' sp s.vars (s.fn H (ds++gs)).vars pv)
  (hps:before=pa++pv) (hk:W.keptBut W' (·∈before)) (hfz:∀ a,a.block<W.heap.size->W'.frozen? a=W.frozen? a)
  (hok:∀ (j:Nat) (t:TypeId) (r:Value),f.resultTypes[j]?=some t->(v.resultList f.resultTypes.size)[j]?=some r->Value.okWide P W' .any 0 t r) :
  s.post enc P f apart fresh handsOn again W args v W' := by
 have hlt:=hW.lt;have hold:∀ p∈before,(λb=>decide (b<W.heap.size)) p.block=true:=λp hp=>by simpa using hlt p hp
 refine⟨ds,gs,before,[],pa,pv,hW,hres _ _ _,hargs _ hold,hvars _ hold,World.keptBut_mono (λp hp=>⟨hp,?_⟩) hk,λ_=>?_⟩
 ·rw[hps,List.mem_append]at hp;exact Or.inr hp
 ·obtain⟨_,_,_,_,_,hz,hn⟩:=hW;refine⟨hok,_,_,([]++pa)++pv,⟨[]++pa,pv,trodAll_append (hargs _ (λ_ _=>rfl)) (hres _ _ _),hvars _ (λ_ _=>rfl),rfl,?_,?_⟩,?_⟩
  ·intro b off hp;have hp' : MemPlace.cell b off∈before:=by rw[hps];simpa using hp
   rw[hfz _ (hlt _ hp')];exact hz b off hp'
  ·intro ha;have:=hn ha;rw[hps]at this;simpa using this
  ·intro p hp _;rw[hps];simpa using hp
theorem tU{W W' : World}:∀ {ts:List TypeId} {vs:List Value} {ds:List (DataW H)} {ps:List MemPlace},DataW.TrodAll enc P W 0 (λ_=>true) true ts vs ds ps->(∀ p∈ps,W.sameAt W' p)->DataW.TrodAll enc P W' 0 (λ_=>true) true ts vs ds ps
 |[],[],[],_,h,_=>h
 |t::ts,v::vs,d::ds,ps,⟨p,q,h1,h2,e⟩,hs=>by
  subst e;obtain⟨n,hn⟩:=h1;exact⟨p,q,⟨n,DataW.trod_carry n _ _ _ hn (λx hx=>hs x (List.mem_append_left _ hx))⟩,tU h2 (λx hx=>hs x (List.mem_append_right _ hx)),rfl⟩
theorem Zf{f:Func}{s:ChangeSpec}{tb:TypeId}(hl:laidOutB P=true)(hm:mapsRowed P=true)
  (hf:((List.range P.types.size).all λt=>match P.underlying t with|some (.slice e)=>decide (0<P.cellsOf e)|_=>true)=true)
  (hT:f.params.all (λt=>decide (t<P.types.size))=true) (hrt:f.resultTypes=#[tb]) (hb:P.underlying tb=some .bool) (hvs:s.vars=[]) {W W' : World} {args:Array Value} {ds gs:List (DataW H)} {before:List MemPlace}
  (hW:DataW.Whole enc P f.params.toList s.vars false W args.toList ds gs before) (hres:(s.fn H (ds++gs)).results=[.lit (.bool true)]) (hargs:(s.fn H (ds++gs)).args=ds) (hv:(s.fn H (ds++gs)).vars=[])
  (hk:an W [] W'):s.post enc P f false true false false W args (.bool true) W' := by
 have hb' := hk.below;have hW' := hW;obtain⟨p,q,hA,hV,rfl,hfz,hnd⟩:=hW;have hlt:=hW'.lt;have hq:q=[]:=by rw[hvs]at hV;exact (trodVars_none hV).2
 subst hq;refine aam (pa:=p) (pv:=[]) hW' (λ_ _ _=>?_) (λsp hsp=>?_) (λsp hsp=>?_) rfl (hb'.frame _) (λad hlt=>hb'.frozen hlt) ?_
 ·rw[hrt,hres];exact trodAll_cons_mk (shut_bool hb _) trodAll_mk0
 ·rw[hargs];refine DataW.TrodAll.respare (kids_rows hl hm) (slices_full_of P hf) (λt ht=>?_) (tU hA λx hx=>hb'.same (hlt x (by simpa using hx))) (λx hx=>hsp x (by simpa using hx));rw[Array.all_eq_true]at hT;obtain⟨i,hi,he⟩:=Array.mem_iff_getElem.1 (Array.mem_toList_iff.1 ht);have:=hT i hi
  rw[he]at this;simpa using this
 ·rw[hvs,hv];rfl
 ·exact ok_one hrt rfl (okWide_bool_mk hb _)
end
end
section
open Go.RowKit
section
variable {P:Program}{W:World}{bs:List Nat}{κ:Nat}{E:Nat->Value}{F:Nat->List Nat}{h:Nat->Option aX}{w:World}{K:Nat->Prop}
def Tx(u:Value):AV->List Nat
 |.val _=>[]
 |.row _ _ _ _=>u.ownBlock.toList
 |.mp _ _=>(R0 u).toList
def z6:List Value->List AV->List Nat
 |u::us,a::as_=>Tx u a++z6 us as_
 |_,_=>[]
def aW(w:World)(u:Value)(fp:List Nat)(T:TypeId)(fs:List AV):Prop:=
 ∃ b us,u=.pointer (some ⟨b,0,none⟩)/\w.heap[b]?=some (.cells us.toArray T (0,0))/\eW w us fs/\fp=b::z6 us fs/\fp.Nodup
theorem ab9(hs:aj W bs E F h w){x:SV}{a:AV}{r:List Nat}(hv:bM h x=some (a,r)):Tx (den E x) a=r.flatMap F/\∀ k∈r,(∃ e,h k=some e)/\∀ k' ∈ r,k' = k:=by
 cases x with
 |v x=>simp[bM]at hv;obtain⟨rfl,rfl⟩:=hv;exact⟨rfl,sI⟩
 |agg l=>
  simp only[bM,Option.map_eq_some_iff,Prod.mk.injEq]at hv;obtain⟨vs,h1,rfl,rfl⟩:=hv;exact⟨rfl,sI⟩
 | hd k=>
  simp only[bM]at hv;cases hk:h k with
  |none=>rw[hk]at hv;simp[fH]at hv
  | some e=>
   cases e with
   | row T s n us=>
    rw[hk]at hv;simp only[fH,Option.map_eq_some_iff,Prod.mk.injEq]at hv;obtain⟨vs,h1,rfl,rfl⟩:=hv;have:=hs.ent k _ hk;refine⟨?_,λk' hk' => ?_⟩
    ·simp only[Tx,den,fE (bZ this)];simp[this.2]
    ·simp only[List.mem_singleton]at hk';subst hk';exact⟨⟨_,hk⟩,sI⟩
   | mp ks us=>
    rw[hk]at hv;simp only[fH,Option.map_eq_some_iff,Prod.mk.injEq]at hv;obtain⟨vs,h1,rfl,rfl⟩:=hv;have:=hs.ent k _ hk;refine⟨?_,λk' hk' => ?_⟩
    ·simp only[Tx,den,fE (bZ this)];simp[(lL.1 this).2]
    ·simp only[List.mem_singleton]at hk';subst hk';exact⟨⟨_,hk⟩,sI⟩
   |cells T vs=>rw[hk]at hv;simp[fH]at hv
   |obj d R=>rw[hk]at hv;simp[fH]at hv
 |own k o=>simp[bM]at hv
 |tup l=>simp[bM]at hv
 |nr t x=>simp[bM]at hv
 |part k i=>simp[bM]at hv
 |fn f a c=>simp[bM]at hv
theorem cu(hs:aj W bs E F h w):∀ {l:List SV} {as_:List AV} {r:List Nat},aB h l=some (as_,r)->z6 (ai E l) as_=r.flatMap F/\∀ k∈r,∃ e,h k=some e
 |[],as_,r,hv=>by simp[aB]at hv;obtain⟨rfl,rfl⟩:=hv;exact⟨rfl,sI⟩
 | x::l,as_,r,hv=>by
  simp only[aB]at hv;cases h1:bM h x with
  |none=>rw[h1]at hv;simp[jT]at hv
  | some p=>
   cases h2:aB h l with
   |none=>rw[h1,h2]at hv;simp[jT]at hv
   |some q=>
    obtain⟨a,ra⟩:=p;obtain⟨as',rs⟩:=q;rw[h1,h2]at hv;simp only[jT,Option.some.injEq,Prod.mk.injEq]at hv;obtain⟨rfl,rfl⟩:=hv;obtain⟨g1,g2⟩:=ab9 hs h1;obtain⟨g3,g4⟩:=cu hs h2;refine⟨by simp only[ai,z6,g1,g3,List.flatMap_append],λk hk=>?_⟩;rcases List.mem_append.1 hk with hk|hk
    ·exact (g2 k hk).1
    ·exact g4 k hk
theorem B4(u:Value):u.ownBlock.toList.Nodup:=by cases u.ownBlock<;>simp
theorem T5{u:Value}{fp:List Nat}{e:aX}(hE:∀ d R,e≠.obj d R)(h:bu E u fp w e):fp.Nodup:=by
 cases e with
 |cells T vs=>obtain⟨b,_,h2,_⟩:=h;rw[h2];simp
 |row T s n vs=>rw[h.2];exact B4 u
 |mp ks vs=>obtain⟨b,es,c,_,h2,_⟩:=h;rw[h2];simp
 |obj d R=>exact absurd rfl (hE d R)
theorem iR{h:Hp}:∀ {l:List SV} {as_:List AV} {r:List Nat},aB h l=some (as_,r)->∀ k∈r,∃ e,h k=some e/\∀ d R,e≠.obj d R
 |[],as_,r,hv=>by simp[aB]at hv;obtain⟨rfl,rfl⟩:=hv;simp
 | x::l,as_,r,hv=>by
  simp only[aB]at hv;cases h1:bM h x with
  |none=>rw[h1]at hv;simp[jT]at hv
  | some p=>
   cases h2:aB h l with
   |none=>rw[h1,h2]at hv;simp[jT]at hv
   | some q=>
    obtain⟨a,ra⟩:=p;obtain⟨as',rs⟩:=q;rw[h1,h2]at hv;simp only[jT,Option.some.injEq,Prod.mk.injEq]at hv;obtain⟨rfl,rfl⟩:=hv;intro k hk;rcases List.mem_append.1 hk with hk|hk
    ·cases x with
     | hd j=>
      simp only[bM]at h1;cases hj:h j with
      |none=>rw[hj]at h1;simp[fH]at h1
      | some e=>
       cases e with
       |row T s n us=>
        rw[hj]at h1;simp only[fH,Option.map_eq_some_iff,Prod.mk.injEq]at h1;obtain⟨vs,_,_,rfl⟩:=h1;simp only[List.mem_singleton]at hk;subst hk;exact⟨_,hj,λ_ _ e=>by cases e⟩
       |mp ks us=>
        rw[hj]at h1;simp only[fH,Option.map_eq_some_iff,Prod.mk.injEq]at h1;obtain⟨vs,_,_,rfl⟩:=h1;simp only[List.mem_singleton]at hk;subst hk;exact⟨_,hj,λ_ _ e=>by cases e⟩
       |_=>rw[hj]at h1;simp[fH]at h1
     |v x=>simp[bM]at h1;obtain⟨_,rfl⟩:=h1;cases hk
     |agg l=>
      simp only[bM,Option.map_eq_some_iff,Prod.mk.injEq]at h1;obtain⟨_,_,_,rfl⟩:=h1;cases hk
     |_=>simp[bM]at h1
    ·exact iR h2 k hk
theorem px(hs:aj W bs E F h w):∀ {ks:List Nat},ks.Nodup->(∀ k∈ks,∃ e,h k=some e/\∀ d R,e≠.obj d R)->(ks.flatMap F).Nodup
 |[],_,_=>by simp
 |k::r,hn,he=>by
  rw[List.flatMap_cons,List.nodup_append];obtain⟨e,h1,h2⟩:=he k sI;refine⟨T5 h2 (hs.ent k e h1),px hs (List.nodup_cons.1 hn).2 (λj hj=>he j (by simp[hj])),λb hb c hc hbc=>?_⟩;subst hbc;obtain⟨j,hj,hbj⟩:=List.mem_flatMap.1 hc;obtain⟨e2,h3,_⟩:=he j (by simp[hj])
  exact hs.apart k j e e2 (λe' => (List.nodup_cons.1 hn).1 (e' ▸ hj)) h1 h3 b hb hbj
theorem iY(hs:aj W bs E F h w){k:Nat}{T:TypeId}{vs:List SV}{fs:List AV}{rs:List Nat}(hk:h k=some (.cells T vs))(hv:aB h vs=some (fs,rs))(hn:(k::rs).Nodup) :
  aW w (E k) ((k::rs).flatMap F) T fs:=by
 obtain⟨b,h1,h2,h3⟩:=hs.ent k _ hk;obtain⟨g1,_⟩:=cu hs hv;refine⟨b,ai E vs,h1,h3,ep hs hv,by rw[List.flatMap_cons,h2,g1];rfl,px hs hn λj hj=>?_⟩;rcases List.mem_cons.1 hj with rfl|hj
 ·exact⟨_,hk,λd R e=>by cases e⟩
 ·exact iR hv j hj
def aO:Nat->List AV->List SV
 |_,[]=>[]
 |k,.val v::r=>.v v::aO (k+1) r
 |k,.row _ _ _ _::r=>.hd k::aO (k+1) r
 |k,.mp _ _::r=>.hd k::aO (k+1) r
def bg:Nat->List AV->List (Nat×aX)
 |_,[]=>[]
 |k,.val _::r=>bg (k+1) r
 |k,.row T s n vs::r=>(k,.row T s n (vs.map .v))::bg (k+1) r
 |k,.mp ks vs::r=>(k,.mp ks (vs.map .v))::bg (k+1) r
def cI:List (Nat×aX)->List (Nat×Option aX)
 |[]=>[]
 |(k,e)::r=>(k,some e)::cI r
theorem dQ:∀ {k:Nat} {fs:List AV},∀ p∈bg k fs,k<=p.1/\p.1<k+fs.length/\p.2.keys=[]
 |_,[],p,hp=>by cases hp
 |k,.val v::r,p,hp=>by
  have:=dQ (k:=k+1) (fs:=r) p hp;simp only[List.length_cons];exact⟨oM,oM,this.2.2⟩
 | k,.row T s n vs::r,p,hp=>by
  rcases List.mem_cons.1 hp with rfl|hp
  ·simp[aX.keys,aR]
  ·have:=dQ (k:=k+1) (fs:=r) p hp;simp only[List.length_cons];exact⟨oM,oM,this.2.2⟩
 | k,.mp ks vs::r,p,hp=>by
  rcases List.mem_cons.1 hp with rfl|hp
  ·simp[aX.keys,aR]
  ·have:=dQ (k:=k+1) (fs:=r) p hp;simp only[List.length_cons];exact⟨oM,oM,this.2.2⟩
theorem ct:∀ {k:Nat} {fs:List AV},∀ j∈ay (aO k fs),k<=j/\j<k+fs.length
 |_,[],j,hj=>by cases hj
 |k,.val v::r,j,hj=>by
  simp only[aO,ay,SV.keys,List.nil_append]at hj;have:=ct j hj;simp only[List.length_cons];omega
 | k,.row T s n vs::r,j,hj=>by
  simp only[aO,ay,SV.keys,List.singleton_append,List.mem_cons]at hj;simp only[List.length_cons];rcases hj with rfl|hj
  ·omega
  ·have:=ct j hj;omega
 | k,.mp ks vs::r,j,hj=>by
  simp only[aO,ay,SV.keys,List.singleton_append,List.mem_cons]at hj;simp only[List.length_cons];rcases hj with rfl|hj
  ·omega
  ·have:=ct j hj;omega
def gG:Nat->List Value->(Nat->Value)->Nat->Value
 |_,[],E=>E
 |k,u::us,E=>bo (gG (k+1) us E) k u
def iE:Nat->List Value->List AV->(Nat->List Nat)->Nat->List Nat
 |k,u::us,a::as_,F=>bo (iE (k+1) us as_ F) k (Tx u a)
 |_,_,_,F=>F
theorem mH:∀ {k:Nat} {us:List Value} {E:Nat->Value} {j:Nat},(j<k\/k+us.length<=j)->gG k us E j=E j
 |_,[],_,_,_=>rfl
 |k,u::us,E,j,h=>by
  simp only[List.length_cons]at h;simp only[gG];rw[al _ _ oM];exact mH oM
theorem km:∀ {k:Nat} {us:List Value} {as_:List AV} {F:Nat->List Nat} {j:Nat},(j<k\/k+as_.length<=j)->iE k us as_ F j=F j
 |k,u::us,a::as_,F,j,h=>by
  simp only[List.length_cons]at h;simp only[iE];rw[al _ _ oM];exact km oM
 |_,[],[],_,_,_=>rfl
 |_,[],_::_,_,_,_=>rfl
 |_,_::_,[],_,_,_=>rfl
theorem jW:∀ {us:List Value} {as_:List AV},eW w us as_->us.length=as_.length
 |[],[],_=>rfl
 |_::_,_::_,h=>by simp[jW h.2]
 |[],_::_,h=>h.elim
 |_::_,[],h=>h.elim
theorem gj:∀ {k:Nat} {us:List Value} {fs:List AV} {E:Nat->Value},eW w us fs->ai (gG k us E) (aO k fs)=us
 |_,[],[],_,_=>rfl
 |k,u::us,.val v::fs,E,h=>by
  obtain⟨rfl,h2⟩:=h;simp only[aO,ai,den,gG]
  congr 1
  have:ai (bo (gG (k+1) us E) k u) (aO (k+1) fs)=ai (gG (k+1) us E) (aO (k+1) fs):=bC _ λj hj=>al _ _ (by have:=ct j hj;omega)
  rw[this];exact gj h2
 |k,u::us,.row T s n vs::fs,E,h=>by
  obtain⟨h1,h2⟩:=h;simp only[aO,ai,den,gG,ah];have hone:u.oneCell' = true:=bZ (E:=E) (fp:=u.ownBlock.toList) (w:=w) (e:=.row T s n (vs.map .v)) ⟨by rw[aS];exact h1,rfl⟩;rw[fE hone]
  congr 1
  have:ai (bo (gG (k+1) us E) k u) (aO (k+1) fs)=ai (gG (k+1) us E) (aO (k+1) fs):=bC _ λj hj=>al _ _ (by have:=ct j hj;omega)
  rw[this];exact gj h2
 |k,u::us,.mp ks vs::fs,E,h=>by
  obtain⟨h1,h2⟩:=h;simp only[aO,ai,den,gG,ah];have hone:u.oneCell' = true:=bZ (E:=E) (w:=w) (e:=.mp ks (vs.map .v)) (lL.2 ⟨by rw[aS];exact h1,rfl⟩);rw[fE hone]
  congr 1
  have:ai (bo (gG (k+1) us E) k u) (aO (k+1) fs)=ai (gG (k+1) us E) (aO (k+1) fs):=bC _ λj hj=>al _ _ (by have:=ct j hj;omega)
  rw[this];exact gj h2
 |_,[],_::_,_,h=>h.elim
 |_,_::_,[],_,h=>h.elim
theorem jc:∀ {k:Nat} {us:List Value} {fs:List AV} {E:Nat->Value} {F:Nat->List Nat} {p:Nat×aX},eW w us fs->p∈bg k fs ->
  ∀ E0:Nat->Value,bu E0 (gG k us E p.1) (iE k us fs F p.1) w p.2/\∀ b∈iE k us fs F p.1,b∈z6 us fs
 |_,[],[],_,_,p,_,hp=>by cases hp
 |k,u::us,.val v::fs,E,F,p,h,hp=>λE0=>by
  have hk:=dQ (k:=k+1) (fs:=fs) p hp;simp only[gG,iE];rw[al _ _ oM,al _ _ oM];obtain⟨h1,h2⟩:=jc (k:=k+1) (E:=E) (F:=F) h.2 hp E0;exact⟨h1,λb hb=>List.mem_append_right _ (h2 b hb)⟩
 | k,u::us,.row T s n vs::fs,E,F,p,h,hp=>λE0=>by
  rcases List.mem_cons.1 hp with rfl|hp
  ·simp only[gG,iE,ah];exact⟨⟨by rw[aS];exact h.1,rfl⟩,λb hb=>List.mem_append_left _ hb⟩
  ·have hk:=dQ (k:=k+1) (fs:=fs) p hp;simp only[gG,iE];rw[al _ _ oM,al _ _ oM];obtain⟨h1,h2⟩:=jc (k:=k+1) (E:=E) (F:=F) h.2 hp E0;exact⟨h1,λb hb=>List.mem_append_right _ (h2 b hb)⟩
 | k,u::us,.mp ks vs::fs,E,F,p,h,hp=>λE0=>by
  rcases List.mem_cons.1 hp with rfl|hp
  ·simp only[gG,iE,ah];exact⟨lL.2 ⟨by rw[aS];exact h.1,rfl⟩,λb hb=>List.mem_append_left _ hb⟩
  ·have hk:=dQ (k:=k+1) (fs:=fs) p hp;simp only[gG,iE];rw[al _ _ oM,al _ _ oM];obtain⟨h1,h2⟩:=jc (k:=k+1) (E:=E) (F:=F) h.2 hp E0;exact⟨h1,λb hb=>List.mem_append_right _ (h2 b hb)⟩
 |_,[],_::_,_,_,p,h,_=>h.elim
 |_,_::_,[],_,_,p,h,_=>h.elim
theorem rS{k:Nat}{a:AV}{fs:List AV}{r:Nat×aX}(hr:r∈bg k (a::fs))(hrk:r.1≠k):r∈bg (k+1) fs:=by
 cases a with
 |val v=>exact hr
 |row T s n vs=>
  rcases List.mem_cons.1 hr with rfl|hr
  ·exact absurd rfl hrk
  ·exact hr
 |mp ks vs=>
  rcases List.mem_cons.1 hr with rfl|hr
  ·exact absurd rfl hrk
  ·exact hr
theorem cG:∀ {k:Nat} {us:List Value} {fs:List AV} {F:Nat->List Nat} {r:Nat×aX},us.length=fs.length->r∈bg k fs->∀ b∈iE k us fs F r.1,b∈z6 us fs
 |_,[],[],_,r,_,hr,_,_=>by cases hr
 |_,[],_::_,_,_,hl,_,_,_=>by simp at hl
 |_,_::_,[],_,_,hl,_,_,_=>by simp at hl
 | k,u::us,a::fs,F,r,hl,hr,b,hb=>by
  simp only[z6,List.mem_append];simp only[iE]at hb;by_cases hrk:r.1=k
  ·rw[hrk,ah]at hb;exact .inl hb
  ·rw[al _ _ hrk]at hb;exact .inr (cG (by simpa using hl) (rS hr hrk) b hb)
theorem jb:∀ {k:Nat} {us:List Value} {fs:List AV} {F:Nat->List Nat} {p q:Nat×aX},(z6 us fs).Nodup->p∈bg k fs->q∈bg k fs->us.length=fs.length->p.1≠q.1->∀ b∈iE k us fs F p.1,b∉iE k us fs F q.1
 |_,[],[],_,p,_,_,hp,_,_,_,_,_=>by cases hp
 |_,[],_::_,_,_,_,_,_,_,hl,_,_,_=>by simp at hl
 |_,_::_,[],_,_,_,_,_,_,hl,_,_,_=>by simp at hl
 | k,u::us,a::fs,F,p,q,hn,hp,hq,hl,hpq,b,hb=>by
  have hl' : us.length=fs.length:=by simpa using hl
  rw[show z6 (u::us) (a::fs)=Tx u a++z6 us fs from rfl,List.nodup_append]at hn;obtain⟨_,n2,n3⟩:=hn;simp only[iE]at hb ⊢;by_cases hpk:p.1=k
  ·rw[hpk,ah]at hb;have hqk:q.1≠k:=λe=>hpq (by rw[hpk,e])
   rw[al _ _ hqk];intro hb';exact n3 b hb b (cG hl' (rS hq hqk) b hb') rfl
  ·rw[al _ _ hpk]at hb;by_cases hqk:q.1=k
   ·rw[hqk,ah];intro hb';exact n3 b hb' b (cG hl' (rS hp hpk) b hb) rfl
   ·rw[al _ _ hqk];exact jb n2 (rS hp hpk) (rS hq hqk) hl' hpq b hb
end
inductive BOut where
 |ret (v:Value) (fs:List AV)
 |pan (c:List PanicEntry) (v:Value)
def dH(w:World)(u:Value)(fp:List Nat)(T:TypeId)(e:Ending)(w' : World):BOut->Prop
 |.ret v fs=>e=.returned v/\(∃ fp',aW w' u fp' T fs/\(∀ b∈fp',b∈fp\/w.heap.size<=b)/\∀ b∈fp',b<w'.heap.size)/\an w fp w'
 |.pan c _=>e=.panicked c/\an w fp w'
structure bJ (P:Program)(f:FuncId) where
 T:TypeId
 pre:World->List Nat->List AV->List AV->Prop
 out:World->List AV->List AV->BOut
 enters:∀ args w,(callFunc f args).run P w=.ok (.enter f args) w
 ok:∀ (W w:World) (bs:List Nat) (u:Value) (fp:List Nat) (us:List Value) (fs as_:List AV),an W bs w->aW w u fp T fs->(∀ b∈fp,b<w.heap.size)->(∀ b∈fp,W.heap.size<=b\/b∈bs)->eW w us as_->pre W bs fs as_ ->
  Calls P f (u::us).toArray w λe w' => dH w u fp T e w' (out W fs as_)
def dO(rs:List Nat):List (Nat×Option aX):=rs.map λj=>(j,none)
def iF(κ k:Nat)(T:TypeId)(pre:Prop)(rs rs' : List Nat):BOut->R
 |.ret v fs=>⟨pre/\(k::rs).Nodup/\(∀ j∈rs',j∉k::rs)/\fs.length<=8,.v v,dO rs++(cI (bg (8*κ) fs)++[(k,some (.cells T (aO (8*κ) fs)))]),none,[],k::(rs++rs')⟩
 |.pan c v=>⟨pre/\(k::rs).Nodup/\(∀ j∈rs',j∉k::rs),.v v,[],some c,k::rs,k::(rs++rs')⟩
def jq(κ k:Nat)(T T' : TypeId)(pre:List AV->List AV->Prop)(out:List AV->List AV->BOut)(as_:List AV)(rs' : List Nat):Option (List AV×List Nat)->R
 |some (fs,rs)=>iF κ k T (T' = T/\pre fs as_) rs rs' (out fs as_)
 |none=>.bad
def gM(h:Hp)(κ k:Nat)(T:TypeId)(pre:List AV->List AV->Prop)(out:List AV->List AV->BOut):Option aX->Option (List AV×List Nat)->R
 |some (.cells T' vs),some (as_,rs')=>jq κ k T T' pre out as_ rs' (aB h vs)
 |_,_=>.bad
def sO(h:Hp)(κ:Nat)(T:TypeId)(pre:List AV->List AV->Prop)(out:List AV->List AV->BOut):List SV->R
 |.own k 0::rest=>gM h κ k T pre out (h k) (aB h rest)
 |_=>.bad
section
variable {P:Program}{W:World}{bs:List Nat}{κ:Nat}{E:Nat->Value}{F:Nat->List Nat}{h:Nat->Option aX}{w:World}{K:Nat->Prop}
theorem b8{α:Type}(f:Nat->α):∀ (a b:List (Nat×α)),a8 f (a++b)=a8 (a8 f a) b
 |[],_=>rfl
 |(k,x)::r,b=>by simp only[List.cons_append,a8];exact b8 _ r b
theorem kn(h:Hp):∀ (rs:List Nat) (j:Nat),a8 h (dO rs) j=if j∈rs then none else h j
 |[],j=>by simp[dO,a8]
 | k::r,j=>by
  have:a8 h (dO (k::r)) j=a8 (bo h k none) (dO r) j:=rfl;rw[this,kn];by_cases hj:j∈r
  ·simp[hj]
  ·by_cases hjk:j=k
   ·subst hjk;simp[hj,ah]
   ·simp[hj,hjk,al _ _ hjk]
theorem ko:∀ (L:List (Nat×Option aX)) (f:Hp) (j:Nat),(∀ p∈L,∃ e,p.2=some e)->a8 f L j=match a8 (λ_=>none) L j with|some e=>some e|none=>f j
 |[],f,j,_=>rfl
 | (i,x)::r,f,j,hL=>by
  obtain⟨e,he⟩:=hL (i,x) sI;simp only at he;subst he;have hr:∀ p∈r,∃ e,p.2=some e:=λp hp=>hL p (by simp[hp])
  simp only[a8];rw[ko r (bo f i (some e)) j hr,ko r (bo (λ_=>none) i (some e)) j hr];cases a8 (λ_=>none) r j with
  |some y=>rfl
  |none=>
   simp only;by_cases hj:j=i
   ·subst hj;simp[ah]
   ·simp[al _ _ hj]
theorem fP{L:List (Nat×aX)}{p:Nat×Option aX}:p∈cI L ↔ ∃ e,p=(p.1,some e)/\(p.1,e)∈L:=by
 induction L with
 |nil=>simp[cI]
 | cons q r ih=>
  obtain⟨k,e⟩:=q;simp only[cI,List.mem_cons,ih];constructor
  ·rintro (rfl|⟨e',h1,h2⟩)
   ·exact⟨e,rfl,.inl rfl⟩
   ·exact⟨e',h1,.inr h2⟩
  ·rintro⟨e',h1,h2|h2⟩
   ·left;rw[h1];simp only[Prod.mk.injEq]at h2;rw[h2.1,h2.2]
   ·exact .inr ⟨e',h1,h2⟩
theorem rf{w' : World}{k:Nat}{T:TypeId}{vs:List SV}{fs fs' : List AV}{rs fp' : List Nat}(hs:aj W bs E F h w)(hK:bN K h)(hk:∀ k,k / 8=κ->¬ K k)
  (hkk:h k=some (.cells T vs)) (hv:aB h vs=some (fs,rs)) (hlen:fs'.length<=8) (hn:(k::rs).Nodup)
  (ho:aW w' (E k) fp' T fs') (h1:∀ b∈fp',b∈(k::rs).flatMap F\/w.heap.size<=b) (h2:∀ b∈fp',b<w'.heap.size) (hkeep:an w ((k::rs).flatMap F) w') :
  ∃ E' F',(∀ j,j / 8≠κ->E' j=E j)/\aj W bs E' F' (a8 h (dO rs++(cI (bg (8*κ) fs')++[(k,some (.cells T (aO (8*κ) fs')))]))) w' := by
 obtain⟨b,us,hu,hb,hus,rfl,hnd⟩:=ho;have hl:=jW hus;have hKk:K k:=(hK k _ hkk).1;have hfr:∀ j,8*κ<=j->j<8*κ+8->¬ K j:=λj g1 g2=>hk j oM
 have hkf:k<8*κ\/8*κ+8<=k:=by
  by_cases g1:k<8*κ
  ·exact .inl g1
  ·by_cases g2:8*κ+8<=k
   ·exact .inr g2
   ·exact absurd hKk (hfr k oM oM)
 have hE:∀ j,j / 8≠κ->gG (8*κ) us E j=E j:=λj hj=>mH oM
 have hsome:∀ p∈cI (bg (8*κ) fs')++[(k,some (.cells T (aO (8*κ) fs')))],∃ e,p.2=some e:=λp hp=>by
  rcases List.mem_append.1 hp with hp|hp
  ·obtain⟨e,he,_⟩:=fP.1 hp;exact⟨e,by rw[he]⟩
  ·simp at hp;exact⟨_,by rw[hp]⟩
 have hNm:∀ j e,a8 (λ_=>none) (cI (bg (8*κ) fs')++[(k,some (.cells T (aO (8*κ) fs')))]) j=some e->(j=k/\e=.cells T (aO (8*κ) fs'))\/(j≠k/\(j,e)∈bg (8*κ) fs'):=λj e he=>by
  rw[b8]at he;simp only[a8]at he;by_cases hj:j=k
  ·subst hj;rw[ah]at he;cases he;exact .inl ⟨rfl,rfl⟩
  ·rw[al _ _ hj]at he;rcases kT (λ_=>(none:Option aX)) (k:=j) (u:=cI (bg (8*κ) fs')) with ⟨x,hx,hx'⟩|⟨_,hx'⟩
   ·rw[hx']at he;subst he;obtain⟨e',h3,h4⟩:=fP.1 hx;simp only[Prod.mk.injEq,true_and,Option.some.injEq]at h3;subst h3;exact .inr ⟨hj,h4⟩
   ·rw[hx']at he;cases he
 have hNk:a8 (λ_=>none) (cI (bg (8*κ) fs')++[(k,some (.cells T (aO (8*κ) fs')))]) k=some (.cells T (aO (8*κ) fs')):=by
  rw[b8];simp[a8,ah]
 have hb' : b∉z6 us fs' := (List.nodup_cons.1 hnd).1;have hnd' : (z6 us fs').Nodup:=(List.nodup_cons.1 hnd).2;refine⟨gG (8*κ) us E,bo (iE (8*κ) us fs' F) k [b],hE,?_⟩
 refine hs.mg hK (k::rs) (a8 (λ_=>none) (cI (bg (8*κ) fs')++[(k,some (.cells T (aO (8*κ) fs')))])) (λj hj=>?_) (λj hj=>hE j λe=>hk j e hj) (λj e he=>?_) (λi j e e' hij hi hj c hc=>?_) (λj x hx hj=>?_) (λj=>?_) hkeep
 ·rcases List.mem_cons.1 hj with rfl|hj
  ·exact⟨_,hkk⟩
  ·exact (cu hs hv).2 j hj
 ·rcases hNm j e he with ⟨rfl,rfl⟩|⟨hjk,hm⟩
  ·rw[ah,hE j λe=>hk j e hKk];refine⟨⟨b,hu,rfl,by rw[gj hus];exact hb⟩,λc hc=>?_,λc hc=>h2 c (by simp at hc;simp[hc])⟩;simp only[List.mem_singleton]at hc;subst hc;rcases h1 c sI with g|g
   ·obtain⟨i,hi,hci⟩:=List.mem_flatMap.1 g;exact .inl ⟨i,hi,hci⟩
   ·exact .inr g
  ·rw[al _ _ hjk];obtain⟨g1,g2⟩:=jc (E:=E) (F:=F) hus hm (gG (8*κ) us E);refine⟨g1,λc hc=>?_,λc hc=>h2 c (List.mem_cons_of_mem _ (g2 c hc))⟩;rcases h1 c (List.mem_cons_of_mem _ (g2 c hc)) with g|g
   ·obtain⟨i,hi,hci⟩:=List.mem_flatMap.1 g;exact .inl ⟨i,hi,hci⟩
   ·exact .inr g
 ·rcases hNm i e hi with ⟨rfl,rfl⟩|⟨hik,hmi⟩
  ·rcases hNm j e' hj with ⟨rfl,rfl⟩|⟨hjk,hmj⟩
   ·exact absurd rfl hij
   ·rw[ah]at hc;rw[al _ _ hjk];simp only[List.mem_singleton]at hc;subst hc;exact λhc' => hb' (cG hl hmj c hc')
  ·rw[al _ _ hik]at hc;rcases hNm j e' hj with ⟨rfl,rfl⟩|⟨hjk,hmj⟩
   ·rw[ah];intro hc';simp only[List.mem_singleton]at hc';subst hc';exact hb' (cG hl hmi c hc)
   ·rw[al _ _ hjk];exact jb hnd' hmi hmj hl hij c hc
 ·have hjk:j≠k:=λe=>by rw[e,hNk]at hj;cases hj
  rw[al _ _ hjk];have hKj:=(hK j x hx).1;by_cases g1:j<8*κ
  ·exact km (.inl g1)
  ·by_cases g2:8*κ+8<=j
   ·exact km (.inr oM)
   ·exact absurd hKj (hfr j oM oM)
 ·rw[b8,ko _ _ _ hsome,kn];cases hN:a8 (λ_=>none) (cI (bg (8*κ) fs')++[(k,some (.cells T (aO (8*κ) fs')))]) j with
  |some e=>rfl
  |none=>
   have hjk:j≠k:=λe=>by rw[e,hNk]at hN;cases hN
   simp[hjk]
theorem AD{fs:List AV}(hlen:fs.length<=8){j:Nat}{e:aX}(hm:(j,e)∈bg (8*κ) fs):j / 8=κ/\e.keys=[]:=by
 have:=dQ _ hm;exact⟨by simp only at this;omega,this.2.2⟩
theorem xk(hK:bN K h){l:List SV}{as_:List AV}{r:List Nat}(hv:aB h l=some (as_,r)):∀ k∈r,K k:=λk hk=>by
 obtain⟨e,h1,_⟩:=iR hv k hk;exact (hK k _ h1).1
end
def bJ.spec{P:Program}{f:FuncId}(p:bJ P f):Spec P f where
 ev:=λW bs κ h args=>sO h κ p.T (p.pre W bs) (p.out W) args
 good:=λW bs κ E F h w K args hs hK hk hx hside=>by
  rw[p.enters];revert hside;unfold sO;split
  ·rename_i k rest;cases hkk:h k with
   |none=>exact λhf=>hf.elim
   | some e=>
    cases e with
    |row T s n vs=>exact λhf=>hf.elim
    |mp ks vs=>exact λhf=>hf.elim
    |obj d R=>exact λhf=>hf.elim
    | cells T' vs=>
     cases hr:aB h rest with
     |none=>exact λhf=>hf.elim
     | some q=>
      obtain⟨as_,rs'⟩:=q;simp only[gM];cases hv:aB h vs with
      |none=>exact λhf=>hf.elim
      | some q=>
       obtain⟨fs,rs⟩:=q;simp only[jq];have hent:=hs.ent k _ hkk;obtain⟨b,hu,_,_⟩:=hent;have hden:den E (.own k 0)=E k:=by simp[den,hu,base,dj]
       have call:∀ hn:(k::rs).Nodup,T' = p.T->p.pre W bs fs as_->Calls P f (ai E (.own k 0::rest)).toArray w λe w' => dH w (E k) ((k::rs).flatMap F) p.T e w' (p.out W fs as_):=λhn hT hp=>by
        subst hT;have ho:=iY hs hkk hv hn;have:=p.ok W w bs (E k) _ (ai E rest) fs as_ hs.keeps ho (λc hc=>?_) (λc hc=>?_) (ep hs hr) hp
        ·simpa only[ai,hden] using this
        ·obtain⟨j,hj,hcj⟩:=List.mem_flatMap.1 hc;rcases List.mem_cons.1 hj with rfl|hj
         ·exact hs.lt _ _ hkk c hcj
         ·obtain⟨e,he⟩:=(cu hs hv).2 j hj;exact hs.lt j e he c hcj
        ·obtain⟨j,hj,hcj⟩:=List.mem_flatMap.1 hc;rcases List.mem_cons.1 hj with rfl|hj
         ·exact hs.mine _ _ hkk c hcj
         ·obtain⟨e,he⟩:=(cu hs hv).2 j hj;exact hs.mine j e he c hcj
       cases hout:p.out W fs as_ with
       |ret v fs' =>
        simp only[iF];rintro⟨⟨hT,hp⟩,hn,hd,hlen⟩;have hc:=call hn hT hp;rw[hout]at hc;subst hT;refine hc.mono λe w' he=>?_
        obtain⟨rfl,⟨fp',ho,h1,h2⟩,hkeep⟩:=he;obtain⟨E',F',hE',hs'⟩:=rf hs hK hk hkk hv hlen hn ho h1 h2 hkeep;exact⟨rfl,E',F',hE',rfl,hs'⟩
       | pan c _=>
        simp only[iF];rintro⟨⟨hT,hp⟩,hn,hd⟩;have hc:=call hn hT hp;rw[hout]at hc;refine hc.mono λe w' he=>?_
        obtain⟨rfl,hkeep⟩:=he;refine⟨rfl,F,?_⟩;refine hs.mg hK (k::rs) (λ_=>none) (λj hj=>?_) (λ_ _=>rfl) (λj e he=>by cases he) (λi j e e' _ he=>by cases he) (λ_ _ _ _=>rfl) (λj=>?_) hkeep
        ·rcases List.mem_cons.1 hj with rfl|hj
         ·exact⟨_,hkk⟩
         ·exact (cu hs hv).2 j hj
        ·simp only[dropKeys]
  ·exact λhf=>hf.elim
 keys:=λW bs κ h K args hK hx hside=>by
  revert hside;unfold sO;split
  ·rename_i k rest;cases hkk:h k with
   |none=>exact λhf=>hf.elim
   | some e=>
    cases e with
    |row T s n vs=>exact λhf=>hf.elim
    |mp ks vs=>exact λhf=>hf.elim
    |obj d R=>exact λhf=>hf.elim
    | cells T' vs=>
     cases hr:aB h rest with
     |none=>exact λhf=>hf.elim
     | some q=>
      obtain⟨as_,rs'⟩:=q;simp only[gM];cases hv:aB h vs with
      |none=>exact λhf=>hf.elim
      | some q=>
       obtain⟨fs,rs⟩:=q;simp only[jq];cases hout:p.out W fs as_ with
       | ret v fs' =>
        simp only[iF];rintro⟨_,hn,hd,hlen⟩;refine⟨λj hj=>(by cases hj),λq hq=>?_⟩;simp only[List.mem_append,List.mem_singleton]at hq;rcases hq with hq|hq|rfl
        ·simp only[dO,List.mem_map]at hq;obtain⟨j,hj,rfl⟩:=hq;exact⟨.inl (xk hK hv j hj),λe he=>by cases he⟩
        ·obtain⟨e,h1,h2⟩:=fP.1 hq;obtain⟨h3,h4⟩:=AD hlen h2;refine⟨.inr h3,λe' he' j hj=>?_⟩;rw[h1]at he';simp only[Option.some.injEq]at he';subst he';rw[h4]at hj;cases hj
        ·refine⟨.inl (hK k _ hkk).1,λe' he' j hj=>.inr ?_⟩;simp only[Option.some.injEq]at he';subst he';have:=ct j hj;omega
       |pan c _=>
        simp only[iF];rintro _;exact⟨λj hj=>(by cases hj),λq hq=>by cases hq⟩
  ·exact λhf=>hf.elim
 loc:=λW bs κ h h' args hside hr=>by
  revert hside hr;unfold sO;split
  ·rename_i k rest;cases hkk:h k with
   |none=>exact λhf=>hf.elim
   | some e=>
    cases e with
    |row T s n vs=>exact λhf=>hf.elim
    |mp ks vs=>exact λhf=>hf.elim
    |obj d R=>exact λhf=>hf.elim
    | cells T' vs=>
     cases hrr:aB h rest with
     |none=>exact λhf=>hf.elim
     | some q=>
      obtain⟨as_,rs'⟩:=q;simp only[gM];cases hv:aB h vs with
      |none=>exact λhf=>hf.elim
      | some q=>
       obtain⟨fs,rs⟩:=q;simp only[jq];have key:∀ r:R,(∀ j∈r.reads,h' j=h j)->r.reads=k::(rs++rs')->h' k=some (.cells T' vs)/\aB h' rest=some (as_,rs')/\aB h' vs=some (fs,rs):=λr hr he=>by
        rw[he]at hr;exact⟨by rw[hr k sI,hkk],cP hrr λj hj=>hr j (by simp[hj]),cP hv λj hj=>hr j (by simp[hj])⟩
       intro _ hr;obtain⟨g1,g2,g3⟩:=key _ hr (by cases p.out W fs as_<;>rfl);rw[g1,g2];simp only[gM,g3,jq]
  ·exact λhf=>hf.elim
theorem Nz{P:Program}{f:FuncId}(p:bJ P f)(W:World)(bs:List Nat)(κ:Nat)(h:Hp)(l:List SV):p.spec.ev W bs κ h l=sO h κ p.T (p.pre W bs) (p.out W) l:=rfl
theorem JR(h:Hp)(κ k:Nat)(T:TypeId)(pre:List AV->List AV->Prop)(out:List AV->List AV->BOut)(rest:List SV):sO h κ T pre out (.own k 0::rest)=gM h κ k T pre out (h k) (aB h rest):=rfl
theorem Eh(h:Hp)(κ k:Nat)(T T' : TypeId)(pre:List AV->List AV->Prop)(out:List AV->List AV->BOut)(vs:List SV)(as_:List AV)(rs' : List Nat):gM h κ k T pre out (some (.cells T' vs)) (some (as_,rs'))=jq κ k T T' pre out as_ rs' (aB h vs):=rfl
theorem GB(κ k:Nat)(T T' : TypeId)(pre:List AV->List AV->Prop)(out:List AV->List AV->BOut)(as_:List AV)(rs' : List Nat)(fs:List AV)(rs:List Nat):jq κ k T T' pre out as_ rs' (some (fs,rs))=iF κ k T (T' = T/\pre fs as_) rs rs' (out fs as_):=rfl
theorem JT(κ k:Nat)(T:TypeId)(pre:Prop)(rs rs' : List Nat)(v:Value)(fs:List AV):iF κ k T pre rs rs' (.ret v fs)=⟨pre/\(k::rs).Nodup/\(∀ j∈rs',j∉k::rs)/\fs.length<=8,.v v,dO rs++(cI (bg (8*κ) fs)++[(k,some (.cells T (aO (8*κ) fs)))]),none,[],k::(rs++rs')⟩:=rfl
theorem JS(κ k:Nat)(T:TypeId)(pre:Prop)(rs rs' : List Nat)(c:List PanicEntry)(v:Value):iF κ k T pre rs rs' (.pan c v)=⟨pre/\(k::rs).Nodup/\(∀ j∈rs',j∉k::rs),.v v,[],some c,k::rs,k::(rs++rs')⟩:=rfl
theorem Wb(k:IntKind)(n:Int):wh .xor [.v (.int k n)]=⟨True,.v (.int k (cp .xor k (if k.signed then -1 else k.max) n)),[],none,[],[]⟩:=rfl
theorem xU:dO []=[]:=rfl
theorem tY(k:Nat)(r:List Nat):dO (k::r)=(k,none)::dO r:=rfl
theorem VX(k:Nat):bg k []=[]:=rfl
theorem VZ(k:Nat)(v:Value)(r:List AV):bg k (.val v::r)=bg (k+1) r:=rfl
theorem VY(k:Nat)(T s n:Nat)(vs:List Value)(r:List AV):bg k (.row T s n vs::r)=(k,.row T s n (vs.map .v))::bg (k+1) r:=rfl
theorem NN(k:Nat):aO k []=[]:=rfl
theorem NP(k:Nat)(v:Value)(r:List AV):aO k (.val v::r)=.v v::aO (k+1) r:=rfl
theorem NO(k:Nat)(T s n:Nat)(vs:List Value)(r:List AV):aO k (.row T s n vs::r)=.hd k::aO (k+1) r:=rfl
theorem Wr:cI []=[]:=rfl
theorem Qh(k:Nat)(e:aX)(r:List (Nat×aX)):cI ((k,e)::r)=(k,some e)::cI r:=rfl
def σB(T:TypeId)(fs:List AV)(args:List Value):St:=⟨1,ee ((0,.is (.own 0 0))::u6 args 1),dP ((0,.cells T (aO 1 fs))::bg 1 fs)⟩
theorem Kr{k:Nat}{fs:List AV}{j:Nat}{e:aX}(h:dP (bg k fs) j=some e):(j,e)∈bg k fs:=eg h
theorem Cs{w:World}{nt m:Nat}{T:TypeId}{fs:List AV}{u:Value}{fp:List Nat}(us:Array Value)(hlen:fs.length<=7)(ho:aW w u fp T fs)(hlt:∀ b∈fp,b<w.heap.size)(hnt:us.size+1+m=nt) :
  Sat w fp nt ⟨[],[(0,u)]⟩ (σB T fs us.toList) { tmps:=(#[u]++us)++Array.replicate m undef,defers:=[] } w:=by
 obtain⟨b,vs,rfl,hb,hvs,rfl,hnd⟩:=ho;have hl:=jW hvs;have hb' : b∉z6 vs fs:=(List.nodup_cons.1 hnd).1;have hnd' : (z6 vs fs).Nodup:=(List.nodup_cons.1 hnd).2;have at' : ∀ j e,dP ((0,.cells T (aO 1 fs))::bg 1 fs) j=some e->(j=0/\e=.cells T (aO 1 fs))\/(j≠0/\(j,e)∈bg 1 fs):=λj e he=>by
  simp only[dP]at he;by_cases hj:j=0
  ·subst hj;rw[ah]at he;cases he;exact .inl ⟨rfl,rfl⟩
  ·rw[al _ _ hj]at he;exact .inr ⟨hj,Kr he⟩
 have e0:gG 1 vs (λ_=>.pointer (some ⟨b,0,none⟩)) 0=.pointer (some ⟨b,0,none⟩):=mH (.inl oM)
 refine⟨⟨gG 1 vs (λ_=>.pointer (some ⟨b,0,none⟩)),bo (iE 1 vs fs (λ_=>[])) 0 [b],λt=>?_,⟨λj e he=>?_,λj e he c hc=>?_,λj e he c hc=>?_,λi j e e' hij hi hj c hc=>?_,an.refl w _⟩,λp hp=>?_⟩,?_,rfl,λp hp=>?_,λt k hk=>?_,λj e he=>?_⟩
 ·show fits _ (ee ((0,.is (.own 0 0))::u6 us.toList 1) t) _;simp only[ee,bo];split
  ·rename_i ht;subst ht;simp only[fits,den,e0,base,dj];rw[Array.getD_eq_getD_getElem?,Array.getElem?_append_left (by simp;omega),Array.getElem?_append_left sI];rfl
  ·refine sL _ us.toList 1 t (λt=>((#[Value.pointer (some ⟨b,0,none⟩)]++us)++Array.replicate m undef).getD t undef) λj hj=>?_
   have hj' : j<us.size:=by simpa using hj
   rw[Array.getD_eq_getD_getElem?,Array.getElem?_append_left (by simp;omega),Array.getElem?_append_right sI];simp[Array.getElem?_eq_getElem hj']
 ·rcases at' j e he with ⟨rfl,rfl⟩|⟨hj,hm⟩
  ·exact⟨b,e0,by rw[ah],by rw[gj hvs];exact hb⟩
  ·rw[al _ _ hj];exact (jc hvs hm _).1
 ·rcases at' j e he with ⟨rfl,rfl⟩|⟨hj,hm⟩
  ·rw[ah]at hc;exact hlt c (by simp at hc;simp[hc])
  ·rw[al _ _ hj]at hc;exact hlt c (List.mem_cons_of_mem _ (cG hl hm c hc))
 ·right;rcases at' j e he with ⟨rfl,rfl⟩|⟨hj,hm⟩
  ·rw[ah]at hc;simp at hc;simp[hc]
  ·rw[al _ _ hj]at hc;exact List.mem_cons_of_mem _ (cG hl hm c hc)
 ·rcases at' i e hi with ⟨rfl,rfl⟩|⟨hi0,hmi⟩
  ·rcases at' j e' hj with ⟨rfl,rfl⟩|⟨hj0,hmj⟩
   ·exact absurd rfl hij
   ·rw[ah]at hc;rw[al _ _ hj0];simp only[List.mem_singleton]at hc;subst hc;exact λhc' => hb' (cG hl hmj c hc')
  ·rw[al _ _ hi0]at hc;rcases at' j e' hj with ⟨rfl,rfl⟩|⟨hj0,hmj⟩
   ·rw[ah];intro hc';simp only[List.mem_singleton]at hc';subst hc';exact hb' (cG hl hmi c hc)
   ·rw[al _ _ hj0];exact jb hnd' hmi hmj hl hij c hc
 ·simp only[List.mem_singleton]at hp;subst hp;exact e0
 ·simp;omega
 ·simp only[List.mem_singleton]at hp;subst hp;show 0 / 8<1;omega
 ·simp only[σB,ee,bo]at hk;split at hk
  ·simp[FV.keys,SV.keys]at hk;subst hk;show 0 / 8<1;omega
  ·rw[sM]at hk;cases hk
 ·rcases at' j e he with ⟨rfl,rfl⟩|⟨hj,hm⟩
  ·refine⟨by show 0 / 8<1;omega,λi hi=>?_⟩;have:=ct i hi;show i / 8<1;omega
  ·have:=dQ _ hm;refine⟨by show j / 8<1;simp only at this;omega,λi hi=>?_⟩;rw[this.2.2]at hi;cases hi
theorem aN{P:Program}{f:FuncId}{fn:Func}{c:Code}{w:World}{nt:Nat}{T:TypeId}{u:Value}{fp:List Nat}{fs:List AV}{out:BOut}(us:Array Value)(rs:List ResultVar)
  (hlen:fs.length<=7) (ho:aW w u fp T fs) (hlt:∀ b∈fp,b<w.heap.size)
  (hf:P.funcs[f]?=some fn) (hb:fn.body=some c) (hrs:fn.results.toList=rs) (hnt:us.size+1+(fn.ntmps-(us.size+1))=nt)
  (h:Wp P w fp nt ⟨[],[(0,u)]⟩ c (Fin P rs (λ_ _ x h=>∃ v fs',out=.ret v fs' /\ (∀ E,den E x=v)/\∃ vs ks,h 0=some (.cells T vs)/\aB h vs=some (fs',ks)/\(0::ks).Nodup) (λc _=>∃ v,out=.pan c v)) (σB T fs us.toList)) :
  Calls P f (#[u]++us) w λe w' => dH w u fp T e w' out:=by
 subst hrs;have hsat:=Cs (nt:=nt) (m:=fn.ntmps-(us.size+1)) us hlen ho hlt hnt;have hsz:(#[u]++us).size=us.size+1:=by simp;omega
 refine (oz hf hb (by rw[hsz];exact hsat) h).mono λe w' he=>?_
 cases e with
 | returned v' =>
  obtain⟨W',bs',E,F,x,h',hx,⟨v,fs',rfl,hd,vs,ks,h0,hv,hn⟩,rfl,hs,hp⟩:=he;have hs' := hs.back hx;have hE:E 0=u:=hp (0,u) sI;have ho' := iY hs' h0 hv hn;rw[hE]at ho';refine⟨by rw[hd E],⟨_,ho',λb hb=>?_,λb hb=>?_⟩,hs'.keeps⟩
  ·obtain⟨j,hj,hbj⟩:=List.mem_flatMap.1 hb;have:∃ e,h' j=some e:=by
    rcases List.mem_cons.1 hj with rfl|hj
    ·exact⟨_,h0⟩
    ·exact (cu hs' hv).2 j hj
   obtain⟨e,he⟩:=this;exact (hs'.mine j e he b hbj).symm
  ·obtain⟨j,hj,hbj⟩:=List.mem_flatMap.1 hb;have:∃ e,h' j=some e:=by
    rcases List.mem_cons.1 hj with rfl|hj
    ·exact⟨_,h0⟩
    ·exact (cu hs' hv).2 j hj
   obtain⟨e,he⟩:=this;exact hs'.lt j e he b hbj
 |panicked c=>
  obtain⟨W',bs',E,F,h',hx,⟨_,rfl⟩,hs,hp⟩:=he;exact⟨rfl,(hs.back hx).keeps⟩
 |outgrown=>exact he.elim
end
section
def ev7:=(aa @Wb (aa @Nz (aa @JR (aa @Eh (aa @GB (aa @JT (aa @JS (aa @xU (aa @tY (aa @VX (aa @VZ (aa @VY (aa @NN (aa @NP (aa @NO (aa @Wr @Qh))))))))))))))))
end
section
open Go.RowKit
theorem alk:IntKind.i64.bits=64/\IntKind.u64.bits=64/\IntKind.u8.bits=8/\IntKind.i32.bits=32/\IntKind.u32.bits=32/\IntKind.u16.bits=16:=⟨rfl,rfl,rfl,rfl,rfl,rfl⟩
structure Rf (P:Program)(f:FuncId) where
 pre:World->List Nat->List AV->Prop
 res:World->List AV->Value
 ok:∀ (W w:World) (bs:List Nat) (us:List Value) (as_:List AV),an W bs w->eW w us as_->pre W bs as_->(callFunc f us.toArray).run P w=.ok (.value (res W as_)) w
def Rf.spec{P:Program}{f:FuncId}(p:Rf P f):Spec P f where
 ev:=λW bs _ h args=>FG p.pre p.res W bs (aB h args)
 good:=λW bs κ E F h w K args hs hK hk hx hside=>by
  cases hv:aB h args with
  |none=>rw[hv]at hside;exact hside.elim
  |some q=>
   obtain⟨as_,rs⟩:=q;rw[hv]at hside;rw[p.ok W w bs _ as_ hs.keeps (ep hs hv) hside];exact Good.pure hs rfl rfl rfl
 keys:=λW bs κ h K args hK hx hside=>by
  cases hv:aB h args with
  |none=>rw[hv]at hside;exact hside.elim
  |some q=>exact aQ.plain (λk hk=>by cases hk) rfl
 loc:=λW bs κ h h' args hside hr=>by
  cases hv:aB h args with
  |none=>rw[hv]at hside;exact hside.elim
  |some q=>
   obtain⟨as_,rs⟩:=q;rw[hv]at hr;rw[cP hv hr]
theorem aG{P:Program}{f:FuncId}(p:Rf P f)(W:World)(bs:List Nat)(κ:Nat)(h:Hp)(l:List SV):p.spec.ev W bs κ h l=FG p.pre p.res W bs (aB h l):=rfl
theorem am4:min 6 8=6/\min 6 64=6/\min 4 8=4/\min 1 64=1/\min 2 64=2/\min 4 64=4/\min 8 64=8/\min 16 64=16/\min 32 64=32:=by decide
section
variable {P:Program}{W:World}{bs:List Nat}{κ:Nat}{h:Hp}{Γ:Env P}
theorem H0(fn:Fn)(first cap:Array Operand)(l:List SV):dY Γ W bs κ h (.makeFunc fn first cap) l=⟨True,.fn fn (l.take first.size) (l.drop first.size),[],none,[],[]⟩:=rfl
theorem Cz(x:Operand)(xT T:TypeId)(ok:Bool)(l:List SV):dY Γ W bs κ h (.typeAssert x xT T ok) l=ei P T ok l:=rfl
theorem afF(as_:Array Operand)(tys:Array TypeId)(l:List SV):dY Γ W bs κ h (.call { callee:=.builtin .min,args:=as_,argTypes:=tys }) l=ur l:=rfl
theorem afE(as_:Array Operand)(tys:Array TypeId)(l:List SV):dY Γ W bs κ h (.call { callee:=.builtin .max,args:=as_,argTypes:=tys }) l=rV l:=rfl
theorem PX(f:FuncId)(first cap rest:List SV):lF Γ W bs κ h (.fn (.func f) first cap::rest)=fc Γ W bs κ h f (first++rest++cap):=rfl
theorem ZZ(f:Fn)(a c:List SV):dI (.fn f a c)=true:=rfl
theorem OS(f:Fn)(a c:List SV):partsOf (.fn f a c)=[.fn f a c]:=rfl
theorem OM(f:Fn)(a c:Array Value):dI (.v (.func f a c))=true:=rfl
theorem Hu(f:Fn)(a c:Array Value):partsOf (.v (.func f a c))=[.v (.func f a c)]:=rfl
theorem Eu:dI (.v .nilFunc)=true:=rfl
theorem Ac:partsOf (.v .nilFunc)=[.v .nilFunc]:=rfl
def ncK(k o:Nat):Option (List SV)->R
 |some vs=>⟨o<vs.length,.own k o,[],none,[],[k]⟩
 |none=>.bad
theorem yC(k o:Nat):cZ h [.own k o]=ncK k o (bX (h k)):=by
 simp only[cZ];unfold ncK;rcases bX (h k) with _|vs<;>rfl
theorem ZP(k o:Nat)(vs:List SV):ncK k o (some vs)=⟨o<vs.length,.own k o,[],none,[],[k]⟩:=rfl
def aey(k o n:Nat)(i:Int)(vs:List SV):Option Nat->R
 |some sz=>⟨0<=i/\i<n/\1<n/\o<vs.length,.own k (o+i.toNat*sz),[],none,[],[k]⟩
 |none=>.bad
def ixO(P:Program)(k o:Nat)(i:Int):Option TypeDesc->Option (List SV)->R
 |some (.array n e),some vs=>aey k o n i vs (ts P e)
 |_,_=>.bad
theorem yB(T:TypeId)(k o:Nat)(ik:IntKind)(i:Int):bE P h T [.own k o,.v (.int ik i)]=ixO P k o i (P.underlying T) (bX (h k)):=by
 simp only[bE];unfold ixO;rcases P.underlying T with _|d
 ·rfl
 ·rcases bX (h k) with _|vs
  ·cases d<;>rfl
  ·cases d<;>first|rfl|(rename_i n e;simp only[aey];rcases ts P e with _|sz<;>rfl)
theorem aez(k o:Nat)(i:Int)(n:Nat)(e:TypeId)(vs:List SV):ixO P k o i (some (.array n e)) (some vs)=aey k o n i vs (ts P e):=rfl
theorem UH(k o n:Nat)(i:Int)(vs:List SV)(sz:Nat):aey k o n i vs (some sz)=⟨0<=i/\i<n/\1<n/\o<vs.length,.own k (o+i.toNat*sz),[],none,[],[k]⟩:=rfl
def inB(n:Nat)(i:Int)(l:List SV):Option Nat->Option Bool->R
 |some sz,some true=>⟨0<=i/\i<n/\i.toNat*sz+sz<=l.length,.agg ((l.drop (i.toNat*sz)).take sz),[],none,[],[]⟩
 |some sz,some false=>⟨0<=i/\i<n/\i.toNat*sz<l.length,l.getD (i.toNat*sz) (.v undef),[],none,[],[]⟩
 |_,_=>.bad
def inA(P:Program)(i:Int)(l:List SV):Option TypeDesc->R
 |some (.array n e)=>inB n i l (ts P e) (ta P e)
 |_=>.bad
theorem HO(T:TypeId)(l:List SV)(ik:IntKind)(i:Int):gw P T [.agg l,.v (.int ik i)]=inA P i l (P.underlying T):=by
 simp only[gw];unfold inA;rcases P.underlying T with _|d
 ·rfl
 ·cases d<;>first|rfl|(rename_i n e;simp only[inB];rcases ts P e with _|sz<;>rcases ta P e with _|b<;>first|rfl|(cases b<;>simp[fS,R.im]))
theorem EC(T:TypeId)(cs:Array Value)(ik:IntKind)(i:Int):gw P T [.v (.agg cs),.v (.int ik i)]=inA P i (cs.toList.map .v) (P.underlying T):=by
 simp only[gw];unfold inA;rcases P.underlying T with _|d
 ·rfl
 ·cases d<;>first|rfl|(rename_i n e;simp only[inB];rcases ts P e with _|sz<;>rcases ta P e with _|b<;>first|rfl|(cases b<;>simp[fS,R.im]))
theorem aeu(i:Int)(l:List SV)(n:Nat)(e:TypeId):inA P i l (some (.array n e))=inB n i l (ts P e) (ta P e):=rfl
theorem aev(n:Nat)(i:Int)(l:List SV)(sz:Nat):inB n i l (some sz) (some true)=⟨0<=i/\i<n/\i.toNat*sz+sz<=l.length,.agg ((l.drop (i.toNat*sz)).take sz),[],none,[],[]⟩:=rfl
theorem aew(n:Nat)(i:Int)(l:List SV)(sz:Nat):inB n i l (some sz) (some false)=⟨0<=i/\i<n/\i.toNat*sz<l.length,l.getD (i.toNat*sz) (.v undef),[],none,[],[]⟩:=rfl
def cvI(n:Int):Option TypeDesc->Option TypeDesc->R
 |some _,some (.int k)=>⟨True,.v (.int k (k.wrap n)),[],none,[],[]⟩
 |_,_=>.bad
theorem Cu(src dst:TypeId)(k:IntKind)(n:Int):fw P src dst [.v (.int k n)]=cvI n (P.underlying src) (P.underlying dst):=by
 simp only[fw];unfold cvI;rcases P.underlying src with _|d<;>rcases P.underlying dst with _|d' <;> first|rfl|(cases d' <;> rfl)
theorem ad0(n:Int)(d:TypeDesc)(k:IntKind):cvI n (some d) (some (.int k))=⟨True,.v (.int k (k.wrap n)),[],none,[],[]⟩:=rfl
theorem P2(t:TypeId)(x:Value):me [.v (.iface t x)]=⟨True,.v undef,[],some [{ v:=.iface t x,recovered:=false }],[],[]⟩:=rfl
def miK(P:Program)(T:TypeId)(l:List SV):Option (List Value)->R
 |some vs=>⟨P.concrete T=true,.v (.iface T (.agg vs.toArray)),[],none,[],[]⟩
 |none=>⟨P.concrete T=true,.nr T (.agg l),[],none,[],[]⟩
theorem P1(T:TypeId)(l:List SV):nM P T [.agg l]=miK P T l (cT l):=by
 simp only[nM,mI];unfold miK;rcases cT l with _|vs<;>rfl
theorem Zz(T:TypeId)(l:List SV)(vs:List Value):miK P T l (some vs)=⟨P.concrete T=true,.v (.iface T (.agg vs.toArray)),[],none,[],[]⟩:=rfl
def aK(T t:TypeId)(x:SV)(ok:Bool):Option Bool->Option Value->R
 |some false,some z=>match ok with
  |true=>⟨True,if t=T then .tup [x,.v (.bool true)] else .tup [.v z,.v (.bool false)],[],none,[],[]⟩
  |false=>⟨t=T,x,[],none,[],[]⟩
 |_,_=>.bad
theorem LK(T t:TypeId)(x:Value)(ok:Bool):ei P T ok [.v (.iface t x)]=aK T t (.v x) ok (isIface P T) (qZ P T):=by
 simp only[ei];unfold aK;rcases isIface P T with _|b
 ·rfl
 ·cases b<;>rcases qZ P T with _|z<;>first|rfl|(cases ok<;>rfl)
theorem XF(T t:TypeId)(x:SV)(z:Value):aK T t x false (some false) (some z)=⟨t=T,x,[],none,[],[]⟩:=rfl
theorem ads(T t:TypeId)(x:SV)(z:Value):aK T t x true (some false) (some z)=⟨True,if t=T then .tup [x,.v (.bool true)] else .tup [.v z,.v (.bool false)],[],none,[],[]⟩:=rfl
def nK(ok:Bool):Option Bool->Option Value->R
 |some false,some z=>match ok with
  |true=>⟨True,.tup [.v z,.v (.bool false)],[],none,[],[]⟩
  |false=>.bad
 |_,_=>.bad
theorem EA(T:TypeId)(ok:Bool):ei P T ok [.v .nilIface]=nK ok (isIface P T) (qZ P T):=by
 simp only[ei];unfold nK;rcases isIface P T with _|b
 ·rfl
 ·cases b<;>rcases qZ P T with _|z<;>first|rfl|(cases ok<;>rfl)
theorem aeU(z:Value):nK true (some false) (some z)=⟨True,.tup [.v z,.v (.bool false)],[],none,[],[]⟩:=rfl
def Ou:Option TypeDesc->Bool
 |some (.array _ _)=>true
 |_=>false
theorem Ov(n:Nat)(e:TypeId):Ou (some (.array n e))=true:=rfl
def GD(idx:List Nat)(args:List SV)(zs:List Value):Option Nat->R
 |some sz=>Nn (vz sz (zs.map .v) (idx.zip args))
 |none=>.bad
def NC(P:Program)(idx:List Nat)(args:List SV):Option (List Value)->Option TypeDesc->R
 |some zs,some (.array _ e)=>GD idx args zs (ts P e)
 |_,_=>.bad
theorem HJ(T:TypeId)(idx:List Nat)(args:List SV)(ha:Ou (P.underlying T)=true):iu P T idx args=NC P idx args (tz P T) (P.underlying T):=by
 unfold Ou at ha;split at ha
 ·rename_i n e hu;unfold iu NC;rw[hu];cases tz P T with
  |none=>rfl
  |some zs=>
   simp only[GD,vz,Nn];cases qX P T<;>cases ts P e with
   |none=>rfl
   |some sz=>cases e7 (λi=>some (i*sz,sz)) (zs.map .v) (idx.zip args)<;>rfl
 ·cases ha
theorem ND(idx:List Nat)(args:List SV)(zs:List Value)(n:Nat)(e:TypeId):NC P idx args (some zs) (some (.array n e))=GD idx args zs (ts P e):=rfl
theorem JW(idx:List Nat)(args:List SV)(zs:List Value)(sz:Nat):GD idx args zs (some sz)=Nn (vz sz (zs.map .v) (idx.zip args)):=rfl
theorem P0(a b:Int):ur [.v (.int .i64 a),.v (.int .i64 b)]=⟨True,.v (.int .i64 (if b<a then b else a)),[],none,[],[]⟩:=rfl
theorem PZ(a b:Int):rV [.v (.int .i64 a),.v (.int .i64 b)]=⟨True,.v (.int .i64 (if a<b then b else a)),[],none,[],[]⟩:=rfl
theorem HR(a b c:Int):rV [.v (.int .i64 a),.v (.int .i64 b),.v (.int .i64 c)]=⟨True,.v (.int .i64 (if (if a<b then b else a)<c then c else (if a<b then b else a))),[],none,[],[]⟩:=rfl
end
open Classical in
noncomputable def dec{α:Type}(f:α->Value)(v:Value):Option α:=if h:∃ a,v=f a then some h.choose else none
theorem gi{α:Type}{f:α->Value}{v:Value}{a:α}(h:dec f v=some a):v=f a:=by
 unfold dec at h;split at h
 ·rename_i h1;simp only[Option.some.injEq]at h;rw[<- h];exact h1.choose_spec
 ·cases h
theorem bW{α:Type}{f:α->Value}(hf:∀ a b,f a=f b->a=b)(a:α):dec f (f a)=some a:=by
 unfold dec;have h1:∃ b,f a=f b:=⟨a,rfl⟩;rw[dif_pos h1];exact congrArg some (hf _ _ h1.choose_spec).symm
section
variable {P:Program}(eqs:(T:TypeId)->Option (EqSpec P T))(h:Hp)(op:BinOp)(T:TypeId)(X Y:Operand)
theorem T6(p:Prop)(b:Bool)(rd:List Nat):dV .eql p b rd=⟨p,.v (.bool b),[],none,[],rd⟩:=rfl
theorem T7(p:Prop)(b:Bool)(rd:List Nat):dV .neq p b rd=⟨p,.v (.bool (!b)),[],none,[],rd⟩:=rfl
theorem LL(k k' : IntKind)(a b:Int):bL P eqs h op T X Y [.v (.int k a),.v (.int k' b)]=a6 P eqs op T [.v (.int k a),.v (.int k' b)]:=rfl
theorem LM(a b:ByteArray):bL P eqs h op T X Y [.v (.string a),.v (.string b)]=a6 P eqs op T [.v (.string a),.v (.string b)]:=rfl
theorem HI(a b:Bool):bL P eqs h op T X Y [.v (.bool a),.v (.bool b)]=a6 P eqs op T [.v (.bool a),.v (.bool b)]:=rfl
theorem Px(a b:List SV):bL P eqs h op T X Y [.agg a,.agg b]=a6 P eqs op T [.agg a,.agg b]:=rfl
theorem Pz(a:List SV)(b:Array Value):bL P eqs h op T X Y [.agg a,.v (.agg b)]=a6 P eqs op T [.agg a,.v (.agg b)]:=rfl
theorem PO(a:Array Value)(b:List SV):bL P eqs h op T X Y [.v (.agg a),.agg b]=a6 P eqs op T [.v (.agg a),.agg b]:=rfl
theorem PQ(a b:Array Value):bL P eqs h op T X Y [.v (.agg a),.v (.agg b)]=a6 P eqs op T [.v (.agg a),.v (.agg b)]:=rfl
theorem PH:bL P eqs h op T X Y [.v .nilIface,.v .nilIface]=dV op (isIface P T=some true/\(kK X||kK Y)=true) true []:=rfl
theorem PG(t:TypeId)(x:Value):bL P eqs h op T X Y [.v .nilIface,.v (.iface t x)]=dV op (isIface P T=some true) false []:=rfl
theorem PE(t:TypeId)(x:Value):bL P eqs h op T X Y [.v (.iface t x),.v .nilIface]=dV op (isIface P T=some true) false []:=rfl
theorem PF(t:TypeId)(x:SV):bL P eqs h op T X Y [.v .nilIface,.nr t x]=dV op (isIface P T=some true) false []:=rfl
theorem PB(t:TypeId)(x:SV):bL P eqs h op T X Y [.nr t x,.v .nilIface]=dV op (isIface P T=some true) false []:=rfl
theorem PN:bL P eqs h op T X Y [.v (.pointer none),.v (.pointer none)]=dV op (iW P T=some true) true []:=rfl
theorem PK(a:Addr):bL P eqs h op T X Y [.v (.pointer none),.v (.pointer (some a))]=dV op (iW P T=some true) false []:=rfl
theorem Py(a:Addr):bL P eqs h op T X Y [.v (.pointer (some a)),.v (.pointer none)]=dV op (iW P T=some true) false []:=rfl
def Kf(P:Program)(op:BinOp)(T:TypeId)(k o:Nat):Option (List SV)->R
 |some vs=>dV op (iW P T=some true/\o<vs.length) false [k]
 |none=>.bad
theorem N8(k o:Nat)(vs:List SV):Kf P op T k o (some vs)=dV op (iW P T=some true/\o<vs.length) false [k]:=rfl
theorem PJ(k o:Nat):bL P eqs h op T X Y [.own k o,.v (.pointer none)]=Kf P op T k o (bX (h k)):=by
 simp only[bL];unfold Kf;cases bX (h k)<;>rfl
theorem PM(k o:Nat):bL P eqs h op T X Y [.v (.pointer none),.own k o]=Kf P op T k o (bX (h k)):=by
 simp only[bL];unfold Kf;cases bX (h k)<;>rfl
theorem Bx(v:Value):kK (.const v)=true:=rfl
theorem G0(t:Nat):kK (.tmp t)=false:=rfl
end
section
variable {P:Program}(h:Hp)(src dst:TypeId)
theorem HL(k:IntKind)(n:Int):iv P h src dst [.v (.int k n)]=fw P src dst [.v (.int k n)]:=rfl
theorem HM(s:ByteArray):iv P h src dst [.v (.string s)]=fw P src dst [.v (.string s)]:=rfl
theorem LQ(k:Nat):iv P h src dst [.hd k]=cvH P src dst k (h k):=rfl
theorem adZ(k T n:Nat)(vs:List SV):cvH P src dst k (some (.row T 1 n vs))=cvB P k n (P.underlying src) (P.underlying dst) (lT vs):=rfl
theorem Yp(k n e:Nat)(ns:List Int):cvB P k n (some (.slice e)) (some .string) (some ns)=⟨P.underlying e=some (.int .u8)/\ns.length=n,.v (.string (ff ns)),[],none,[],[k]⟩:=rfl
theorem NH:lT []=some []:=rfl
theorem zj(n:Int)(r:List SV):lT (.v (.int .u8 n)::r)=(lT r).map (n::·):=rfl
theorem rh:∀ ns:List Int,lT (ns.map λn=>SV.v (.int .u8 n))=some ns
 |[]=>rfl
 |n::r=>by rw[List.map_cons,zj,rh r];rfl
end
end
section
def ev8:=(aa @aG (aa @H0 (aa @Cz (aa @afF (aa @afE (aa @PX (aa @ZZ (aa @OS (aa @OM (aa @Hu (aa @Eu (aa @Ac (aa @yC (aa @ZP (aa @yB (aa @aez (aa @UH (aa @HO (aa @EC (aa @aeu (aa @aev (aa @aew (aa @Cu (aa @ad0 (aa @P2 (aa @P1 (aa @Zz (aa @LK (aa @XF (aa @ads (aa @EA (aa @aeU (aa @Ov (aa @HJ (aa @ND (aa @JW (aa @P0 (aa @PZ @HR))))))))))))))))))))))))))))))))))))))
def ev9:=aa @VS <| aa @Pj <| aa @Ph <| aa @aaC <| (aa @T6 (aa @T7 (aa @LL (aa @LM (aa @HI (aa @Px (aa @Pz (aa @PO (aa @PQ (aa @PH (aa @PG (aa @PE (aa @PF (aa @PB (aa @PN (aa @PK (aa @Py (aa @N8 (aa @PJ (aa @PM (aa @Bx (aa @G0 (aa @HL (aa @HM (aa @LQ (aa @adZ (aa @Yp (aa @NH (aa @zj @rh)))))))))))))))))))))))))))))
end
section
open Go.RowKit
section
variable {P:Program}{fn:Func}
theorem Leaves.mono{tmps:Array Value}{R R' : Ending->World->Prop}(hr:∀ e w,R e w->R' e w):∀ (ds:List Deferred) (u:FrameMode) (w:World),Leaves P fn tmps R ds u w->Leaves P fn tmps R' ds u w
 |[],.run,_,h=>h.elim
 |[],.returning,_,h=>by obtain⟨v,h1,h2⟩:=h;exact⟨v,h1,hr _ _ h2⟩
 |[],.panicking c,_,h=>hr _ _ h
 |d::ds,u,w,h=>by
  obtain⟨h0,fv,cap,f,args,h1,h2,h3⟩:=h;refine⟨h0,fv,cap,f,args,h1,h2,h3.mono λe u' w' he=>?_⟩;cases e with
  |returned v=>exact Leaves.mono hr ds _ _ he
  |panicked c=>exact Leaves.mono hr ds _ _ he
  |outgrown=>exact hr _ _ he
theorem A2{R R' : Ending->World->Prop}(hr:∀ e w,R e w->R' e w)(e:Exit)(a:Act)(w:World)(h:bodyPostD P fn R e a w):bodyPostD P fn R' e a w:=by
 cases e with
 |normal=>exact Leaves.mono hr _ _ _ h
 |ret=>exact Leaves.mono hr _ _ _ h
 |panic c=>exact Leaves.mono hr _ _ _ h
 |outgrown=>exact hr _ _ h
 |exit i=>exact h.elim
 |goto l=>exact h.elim
theorem Ends.back{W W' : World}{bs bs' : List Nat}{pins:List (Nat×Value)}{Rr:World->List Nat->SV->Hp->Prop}{Rp:List PanicEntry->Hp->Prop}{e:Ending}{w:World}(he:Ext W bs W' bs')(h:Ends W' bs' pins Rr Rp e w):Ends W bs pins Rr Rp e w:=by
 cases e with
 |returned v=>obtain⟨W'',bs'',E,F,x,h',hx,r⟩:=h;exact⟨W'',bs'',E,F,x,h',he.trans hx,r⟩
 |panicked c=>obtain⟨W'',bs'',E,F,h',hx,r⟩:=h;exact⟨W'',bs'',E,F,h',he.trans hx,r⟩
 |outgrown=>exact h.elim
def iK(P:Program)(fn:Func)(nt:Nat)(pins:List (Nat×Value))(Rr:World->List Nat->SV->Hp->Prop)(Rp:List PanicEntry->Hp->Prop)(W:World)(bs:List Nat)(c:Code)(σ:St):Prop:=
 ∀ a w,Sat W bs nt ⟨[],pins⟩ σ a w->c.wp P (bodyPostD P fn (Ends W bs pins Rr Rp)) a w
variable {nt:Nat}{pins:List (Nat×Value)}{Rr:World->List Nat->SV->Hp->Prop}{Rp:List PanicEntry->Hp->Prop}{W:World}{bs:List Nat}{σ:St}
theorem EX{f:FuncId}{c:Code}{args:Array Value}{w:World}(hf:P.funcs[f]?=some fn)(hb:fn.body=some c)
  (hsat:Sat W bs nt ⟨[],pins⟩ σ { tmps:=args++Array.replicate (fn.ntmps-args.size) undef,defers:=[] } w)
  (h:iK P fn nt pins Rr Rp W bs c σ):Calls P f args w (Ends W bs pins Rr Rp):=calls_of_wp_defers hf hb (h _ w hsat)
theorem rC{W' : World}{bs' : List Nat}{σ' : St}{a:Act}{w:World}{ds:List Deferred}(hs:Sat W' bs' nt ⟨ds,pins⟩ σ' a w)(hx:Ext W bs W' bs')(hq:(kf P W' bs' σ' fn.results.toList).1/\Rr W' bs' (mh (kf P W' bs' σ' fn.results.toList).2) σ'.h) :
  ∃ v,(results fn a.tmps).run P w=.ok v w/\Ends W bs pins Rr Rp (.returned v) w:=by
 obtain⟨E,F,hφ,hh,hp⟩:=hs.ex;exact⟨_,kO hφ hh hq.1,W',bs',E,F,_,_,hx,hq.2,rfl,hh,hp⟩
theorem iK.seq{x y:Code}(h:Wp P W bs nt ⟨[],pins⟩ x (Th (λW' bs' σ' => iK P fn nt pins Rr Rp W' bs' y σ') (Fin P fn.results.toList Rr Rp)) σ):iK P fn nt pins Rr Rp W bs (.seq x y) σ:=λa w hs=>
 wp_seq (wp_mono (h a w hs) λe a' w' ⟨W',bs',σ',he,hq,hs'⟩=>by
  cases e with
  |normal=>exact wp_mono (hq a' w' hs') λe a w h=>A2 (λe w=>Ends.back he) e a w h
  |ret=>
   have hd:=hs'.defers
   show Leaves P fn a'.tmps _ a'.defers .returning w'
   rw[hd]
   exact rC hs' he hq
  |panic c=>
   have hd:=hs'.defers
   show Leaves P fn a'.tmps _ a'.defers (.panicking c) w'
   rw[hd]
   obtain⟨E,F,hφ,hh,hp⟩:=hs'.ex
   exact⟨W',bs',E,F,_,he,hq,hh,hp⟩
  |exit i=>exact hq.elim
  |goto l=>exact hq.elim
  |outgrown=>exact hq.elim)
theorem iK.wp{c:Code}(h:Wp P W bs nt ⟨[],pins⟩ c (Fin P fn.results.toList Rr Rp) σ):iK P fn nt pins Rr Rp W bs c σ:=λa w hs=>
 wp_mono (h a w hs) λe a' w' ⟨W',bs',σ',he,hq,hs'⟩=>by
  have hd:=hs'.defers;cases e with
  |normal=>show Leaves P fn a'.tmps _ a'.defers .returning w';rw[hd];exact rC hs' he hq
  |ret=>show Leaves P fn a'.tmps _ a'.defers .returning w';rw[hd];exact rC hs' he hq
  |panic c=>
   show Leaves P fn a'.tmps _ a'.defers (.panicking c) w';rw[hd];obtain⟨E,F,hφ,hh,hp⟩:=hs'.ex;exact⟨W',bs',E,F,_,he,hq,hh,hp⟩
  |exit i=>exact hq.elim
  |goto l=>exact hq.elim
  |outgrown=>exact hq.elim
def lu(w:World):List Value->List Nat->List TypeId->List (List Value)->Prop
 |[],[],[],[]=>True
 |u::us,b::bl,T::Ts,vs::vss=>u=.pointer (some ⟨b,0,none⟩)/\w.heap[b]?=some (.cells vs.toArray T (0,0))/\lu w us bl Ts vss
 |_,_,_,_=>False
def Gt(P:Program):List TypeId->List (List Value)->List Value->Prop
 |[],[],[]=>True
 |T::Ts,cs::css,v::vs=>((ts P T=some cs.length/\ta P T=some true/\v=.agg cs.toArray)\/(ta P T=some false/\cs=[v]))/\Gt P Ts css vs
 |_,_,_=>False
def WY:List Value->Value
 |[v]=>v
 |l=>.tuple l.toArray
structure CatchC (P:Program)(f:FuncId) where
 Ts:List TypeId
 enters:∀ args w,(callFunc f args).run P w=.ok (.enter f args) w
 pre:List (List Value)->Value->Prop
 out:List (List Value)->Value->List (List Value)
 pc:List (List Value)->Value->List Value
 vals_ok:∀ vss pv,pre vss pv->Gt P Ts (out vss pv) (pc vss pv)
 quiet:∀ (w:World) (us:List Value),us.length=Ts.length->CallsD P f us.toArray .returning w λe u' w' => (∃ v,e=.returned v)/\u' = .returning/\an w [] w'
 caught:∀ (w:World) (us:List Value) (bl:List Nat) (vss:List (List Value)) (pv:Value),lu w us bl Ts vss->bl.Nodup->(∀ b∈bl,b<w.heap.size)->pre vss pv ->
  CallsD P f us.toArray (.panicking [{ v:=pv,recovered:=false }]) w λe u' w' => (∃ v,e=.returned v)/\u' = .panicking [{ v:=pv,recovered:=true }]/\an w bl w' /\ lu w' us bl Ts (out vss pv)
def xN:List Nat->List TypeId->List ResultVar
 |t::tl,T::Ts=>.cell t T::xN tl Ts
 |_,_=>[]
theorem lu.run{tmps:Array Value}{w:World}:∀ {tl:List Nat} {us:List Value} {bl:List Nat} {Ts:List TypeId} {css:List (List Value)} {vs:List Value},lu w us bl Ts css->Gt P Ts css vs->tl.map (λt=>tmps.getD t undef)=us ->
  ((xN tl Ts).mapM (nJ { tmps:=tmps,defers:=[] })).run P w=.ok vs w
 |[],us,bl,Ts,css,vs,h1,h2,h3=>by
  subst h3
  match bl,Ts,css,vs,h1,h2 with
  |[],[],[],[],_,_=>rfl
 | t::tl,us,bl,Ts,css,vs,h1,h2,h3=>by
  subst h3
  match bl,Ts,css,vs,h1,h2 with
  | b::bl,T::Ts,cs::css,v::vs,h1,h2=>
   obtain⟨e1,e2,e3⟩:=h1;obtain⟨f1,f2⟩:=h2
   replace e1:tmps.getD t undef=_:=e1
   have ih:=lu.run (tmps:=tmps) (tl:=tl) e3 f2 rfl;have one:(nJ { tmps:=tmps,defers:=[] } (.cell t T)).run P w=.ok v w:=by
    simp only[nJ];rw[e1];have hc:∀ j x,cs[j]?=some x->w.cell? ⟨b,0+j,none⟩=some x:=λj x hx=>by
     simp[World.cell?,e2,hx]
    rcases f1 with ⟨g1,g2,rfl⟩|⟨g2,rfl⟩
    ·have:=iG (P:=P) (w:=w) g1 g2 ⟨b,0,none⟩ cs rfl (λj x hx=>by rw[Addr.add_lit];exact hc j x hx);simpa [asAddr] using this
    ·have:=iH (P:=P) (w:=w) g2 ⟨b,0,none⟩ v (by simpa using hc 0 v rfl);simpa [asAddr] using this
   simp only[xN,List.mapM_cons];simp[one,ih]
theorem G4{tmps:Array Value}{w:World}{tl:List Nat}{us:List Value}{bl:List Nat}{Ts:List TypeId}{css:List (List Value)}{vs:List Value}(h1:lu w us bl Ts css)(h2:Gt P Ts css vs)(h3:tl.map (λt=>tmps.getD t undef)=us)
  (hr:fn.results.toList=xN tl Ts):(results fn tmps).run P w=.ok (WY vs) w:=by
 have h4:=lu.run (P:=P) (tmps:=tmps) h1 h2 h3;have h2:results fn tmps=((Functor.map List.toArray (fn.results.toList.mapM (nJ { tmps:=tmps,defers:=[] }))) >>= λ(vs:Array Value)=>(pure (if h:vs.size=1 then vs[0] else .tuple vs):Sem Value)):=by
  rw[<- Array.mapM_eq_mapM_toList];unfold results
  congr 1
 rw[h2,hr];simp only[map_eq_pure_bind,bind_assoc,pure_bind];simp[h4]
 match vs with
 |[]=>simp[WY]
 |[x]=>simp[WY]
 |x::y::r=>simp[WY]
def Ra(σ:St):List Nat->List Nat->List TypeId->List (List Value)->Prop
 |[],[],[],[]=>True
 |t::tl,k::ks,T::Ts,vs::vss=>σ.φ t=.is (.own k 0)/\σ.h k=some (.cells T (vs.map .v))/\Ra σ tl ks Ts vss
 |_,_,_,_=>False
def adq{f:FuncId}(C:CatchC P f)(rs:List ResultVar)(tl ks:List Nat)(Rr:World->List Nat->SV->Hp->Prop)(Rp:List PanicEntry->Hp->Prop):lR
 |.normal,W,bs,σ|.ret,W,bs,σ=>(kf P W bs σ rs).1/\Rr W bs (mh (kf P W bs σ rs).2) σ.h
 |.panic c,W,bs,σ=>∃ pv vss,c=[{ v:=pv,recovered:=false }]/\Ra σ tl ks C.Ts vss/\C.pre vss pv/\Rr W bs (.v (WY (C.pc vss pv))) (dropKeys σ.h ks)
 |_,_,_,_=>False
def Rm(f:FuncId)(us:List Value):Deferred:=⟨.fn (.func f) us.toArray,#[]⟩
theorem jl.tmp{E:Nat->Value}{φ:Fr}{a:Act}{t:Nat}{x:SV}(h:jl E φ a)(ht:φ t=.is x):a.tmps.getD t undef=den E x:=by
 have:=h t;rw[ht]at this;exact this
theorem A6{σ:St}{E:Nat->Value}{F:Nat->List Nat}{a:Act}{w:World}(hφ:jl E σ.φ a)(hh:aj W bs E F σ.h w):∀ {tl ks:List Nat} {Ts:List TypeId} {vss:List (List Value)},Ra σ tl ks Ts vss->ks.Nodup ->
  lu w (ks.map E) (ks.flatMap F) Ts vss/\tl.map (λt=>a.tmps.getD t undef)=ks.map E/\(ks.flatMap F).Nodup/\(∀ b∈ks.flatMap F,b<w.heap.size)/\(∀ k∈ks,∃ e,σ.h k=some e)
 |[],[],[],[],_,_=>⟨trivial,rfl,List.nodup_nil,sI,sI⟩
 | t::tl,k::ks,T::Ts,vs::vss,h,hn=>by
  obtain⟨h1,h2,h3⟩:=h;obtain⟨hk,hn⟩:=List.nodup_cons.1 hn;obtain⟨i1,i2,i3,i4,i5⟩:=A6 hφ hh h3 hn;obtain⟨b,hu,hF,hb⟩:=hh.ent k _ h2;have hd:ai E (vs.map .v)=vs:=by
   rw[bA,List.map_map];exact (List.map_congr_left (λ_ _=>rfl)).trans (List.map_id vs)
  rw[hd]at hb;have e1:a.tmps.getD t undef=E k:=by
   rw[hφ.tmp h1,den,hu];rfl
  refine⟨?_,?_,?_,?_,?_⟩
  ·rw[List.map_cons,List.flatMap_cons,hF];exact⟨hu,hb,i1⟩
  ·rw[List.map_cons,List.map_cons,e1,i2]
  ·rw[List.flatMap_cons,hF];refine List.nodup_cons.2 ⟨λhm=>?_,i3⟩;obtain⟨j,hj,hbj⟩:=List.mem_flatMap.1 hm;obtain⟨e,he⟩:=i5 j hj;exact hh.apart k j _ e (λe' => hk (e' ▸ hj)) h2 he b (by rw[hF];simp) hbj
  ·intro c hc;rw[List.flatMap_cons]at hc;rcases List.mem_append.1 hc with hc|hc
   ·exact hh.lt k _ h2 c hc
   ·exact i4 c hc
  ·intro j hj;rcases List.mem_cons.1 hj with rfl|hj
   ·exact⟨_,h2⟩
   ·exact i5 j hj
theorem an.nil{W w w' : World}{bs:List Nat}(h:an W bs w)(h' : an w [] w'):an W bs w' := h.trans h' λb hb=>by cases hb
theorem lu.keeps{w w' : World}(h:an w [] w'):∀ {us:List Value} {bl:List Nat} {Ts:List TypeId} {vss:List (List Value)},lu w us bl Ts vss->(∀ b∈bl,b<w.heap.size)->lu w' us bl Ts vss
 |[],[],[],[],_,_=>trivial
 |u::us,b::bl,T::Ts,vs::vss,hl,hlt=>⟨hl.1,by rw[h.block b (hlt b sI) sI];exact hl.2.1,lu.keeps h hl.2.2 λc hc=>hlt c (by simp[hc])⟩
theorem iK.defer{f:FuncId}(C:CatchC P f)(tl ks:List Nat){id d:Nat}{y:Code}{T1 T2:TypeId}{p1 p2:String}{a1 a2:Array Edge}
  (hks:ks.Nodup) (hrs:fn.results.toList=xN tl C.Ts) (hd:d<nt) (hlen:tl.length=C.Ts.length) (hlen2:ks.length=C.Ts.length)
  (hcap:∀ p∈tl.zip ks,σ.φ p.1=.is (.own p.2 0)) (hcel:∀ k∈ks,∃ T vs,σ.h k=some (.cells T vs))
  (h:∀ us:List Value,us.length=C.Ts.length->Wp P W bs nt ⟨[Rm f us],ks.zip us++pins⟩ y (adq C fn.results.toList tl ks Rr Rp) ⟨σ.n+2,bo σ.φ d .any,σ.h⟩) :
  iK P fn nt pins Rr Rp W bs (.seq (.region id #[{ dst:=some d,op:=.makeFunc (.func f) #[] (tl.map Operand.tmp).toArray,type:=T1,pos:=p1,after:=a1,guard:=none },{ dst:=none,op:=.defer { callee:=.value (.tmp d),args:=#[],argTypes:=#[] },type:=T2,pos:=p2,after:=a2,guard:=none }] false) y) σ:=λa w hs=>by
 obtain⟨E,F,hφ,hh,hp⟩:=hs.ex;have hbl:∀ k∈ks,∃ b,E k=.pointer (some ⟨b,0,none⟩):=λk hk=>by
  obtain⟨T,vs,he⟩:=hcel k hk;obtain⟨b,hu,_⟩:=hh.ent k _ he;exact⟨b,hu⟩
 have htv:∀ (tl ks:List Nat),tl.length=ks.length->(∀ p∈tl.zip ks,σ.φ p.1=.is (.own p.2 0))->(∀ k∈ks,∃ b,E k=.pointer (some ⟨b,0,none⟩))->tl.map (λt=>a.tmps.getD t undef)=ks.map E:=by
  intro tl
  induction tl with
  |nil=>intro ks hl _ _;cases ks with
   |nil=>rfl
   |cons _ _=>cases hl
  | cons t tl ih=>
   intro ks hl hc hb;cases ks with
   |nil=>cases hl
   |cons k ks=>
    have e1:=hφ.tmp (hc (t,k) sI);obtain⟨b,he⟩:=hb k sI;rw[List.map_cons,List.map_cons,e1,den,he,ih ks (by simpa using hl) (λp hp=>hc p (by simp[hp])) λj hj=>hb j (by simp[hj])];rfl
 have hmem:∀ (tl ks:List Nat),tl.length=ks.length->∀ k∈ks,∃ t∈tl,(t,k)∈tl.zip ks:=by
  intro tl
  induction tl with
  |nil=>intro ks hl k hk;cases ks with
   |nil=>cases hk
   |cons _ _=>cases hl
  | cons t tl ih=>
   intro ks hl k hk;cases ks with
   |nil=>cases hk
   | cons j ks=>
    rcases List.mem_cons.1 hk with rfl|hk
    ·exact⟨t,sI,sI⟩
    ·obtain⟨t',h1,h2⟩:=ih ks (by simpa using hl) k hk;exact⟨t',by simp[h1],by simp[h2]⟩
 have htu:tl.map (λt=>a.tmps.getD t undef)=ks.map E:=htv tl ks oM hcap hbl;have hs2:Sat W bs nt ⟨[Rm f (ks.map E)],ks.zip (ks.map E)++pins⟩ ⟨σ.n+2,bo σ.φ d .any,σ.h⟩ { tmps:=a.tmps.setIfInBounds d (.func (.func f) #[] (ks.map E).toArray),defers:=[Rm f (ks.map E)] } w:=by
  refine⟨⟨E,F,λt=>?_,hh,λp hp' => ?_⟩,by simp[hs.size],rfl,λp hp' => ?_,λt k hk=>?_,λj e he=>?_⟩
  ·show fits E (bo σ.φ d .any t) ((a.tmps.setIfInBounds d (.func (.func f) #[] (ks.map E).toArray)).getD t undef);by_cases ht:t=d
   ·subst ht;rw[ah];trivial
   ·rw[al _ _ ht];have:=hφ t
    rwa [show (a.tmps.setIfInBounds d (.func (.func f) #[] (ks.map E).toArray)).getD t undef=a.tmps.getD t undef from by
     rw[Array.getD_eq_getD_getElem?,Array.getD_eq_getD_getElem?,Array.getElem?_setIfInBounds_ne (λe=>ht e.symm)]]
  ·rcases List.mem_append.1 hp' with hp'|hp'
   ·have:∀ (l:List Nat) (p:Nat×Value),p∈l.zip (l.map E)->E p.1=p.2:=by
     intro l
     induction l with
     |nil=>intro p hp;cases hp
     |cons x l ih=>
      intro p hp;rcases List.mem_cons.1 hp with rfl|hp
      ·rfl
      ·exact ih p hp
    exact this ks p hp'
   ·exact hp p hp'
  ·rcases List.mem_append.1 hp' with hp'|hp'
   ·have hk:p.1∈ks:=(List.of_mem_zip hp').1;obtain⟨t,_,ht⟩:=hmem tl ks oM p.1 hk;have:=hs.fk t p.1 (by rw[hcap _ ht];simp[FV.keys,SV.keys]);show p.1 / 8<σ.n+2;omega
   ·have:=hs.pk p hp';show p.1 / 8<σ.n+2;omega
  ·have hk:k∈(bo σ.φ d .any t).keys:=hk;by_cases ht:t=d
   ·subst ht;rw[ah]at hk;simp[FV.keys]at hk
   ·rw[al _ _ ht]at hk;have:=hs.fk t k hk;show k / 8<σ.n+2;omega
  ·obtain⟨h1,h2⟩:=hs.hk j e he;exact⟨by show j / 8<σ.n+2;omega,λi hi=>by have:=h2 i hi;show i / 8<σ.n+2;omega⟩
 have h2:=h (ks.map E) (by simp[hlen2]) _ w hs2;have hda:d<a.tmps.size:=by rw[hs.size];exact hd
 have hev:(List.map (a.eval ∘ Operand.tmp) tl)=ks.map E:=by rw[<- htu];rfl
 refine wp_seq (wp_region ?_);simp[wpOps,go_sem,Exit.then];left;left;rw[if_pos hda,hev,hs.defers];refine wp_mono h2 λe a' w' ⟨W',bs',σ',he,hq,hs'⟩=>?_
 have hds:=hs'.defers;have hlu:(ks.map E).length=C.Ts.length:=by simp[hlen2]
 have still:∀ {E' : Nat->Value} {F' : Nat->List Nat} {h' : Hp} {w'' : World},aj W' bs' E' F' h' w' -> bN (λ_=>True) h' -> an w' [] w'' -> aj W' bs' E' F' h' w'' := λ{E' F' h' w''} hh' hK hk=>
  hh'.mg hK [] (λ_=>none) (λk hk=>by cases hk) (λ_ _=>rfl) (λj e he=>by cases he) (λi j e e' _ he=>by cases he) (λ_ _ _ _=>rfl) (λj=>by simp) (by simpa using hk)
 have all:∀ {h' : Hp},bN (· / 8<σ'.n) h' -> bN (λ_=>True) h' := λhK j x hx=>⟨trivial,λ_ _=>trivial⟩
 have plain:∀ hq' : (kf P W' bs' σ' fn.results.toList).1/\Rr W' bs' (mh (kf P W' bs' σ' fn.results.toList).2) σ'.h,Leaves P fn a'.tmps (Ends W bs pins Rr Rp) a'.defers .returning w' := λhq' => by
  rw[hds];refine leaves_cons (f:=f) (args:=(ks.map E).toArray) sI (by simp[go_sem,C.enters]) ?_;refine (C.quiet w' _ hlu).mono λe u' w'' ⟨⟨v,hv⟩,hu,hk⟩=>?_
  subst hv;subst hu;obtain⟨E',F',hφ',hh',hp'⟩:=hs'.ex;have hh'' := still hh' (all hs'.hk) hk;exact⟨_,kO hφ' hh'' hq'.1,W',bs',E',F',_,_,he,hq'.2,rfl,hh'',λp hp=>hp' p (List.mem_append_right _ hp)⟩
 cases e with
 |normal=>exact plain hq
 |ret=>exact plain hq
 |exit i=>exact hq.elim
 |goto l=>exact hq.elim
 |outgrown=>exact hq.elim
 | panic c=>
  obtain⟨pv,vss,rfl,hcap',hpre,hR⟩:=hq;show Leaves P fn a'.tmps (Ends W bs pins Rr Rp) a'.defers (.panicking _) w';rw[hds];refine leaves_cons (f:=f) (args:=(ks.map E).toArray) sI (by simp[go_sem,C.enters]) ?_;obtain⟨E',F',hφ',hh',hp'⟩:=hs'.ex;obtain⟨g1,g2,g3,g4,g5⟩:=A6 hφ' hh' hcap' hks
  have hEE:ks.map E' = ks.map E:=by
   refine List.map_congr_left λk hk=>?_
   have:∀ (l:List Nat),k∈l->(k,E k)∈l.zip (l.map E):=by
    intro l
    induction l with
    |nil=>intro h;cases h
    |cons x l ih=>
     intro h;rcases List.mem_cons.1 h with rfl|h
     ·simp
     ·simp[ih h]
   exact hp' (k,E k) (List.mem_append_left _ (this ks hk))
  rw[hEE]at g1 g2;refine (C.caught w' _ _ vss pv g1 g3 g4 hpre).mono λe u' w'' ⟨⟨v,hv⟩,hu,hk,hl⟩=>?_
  subst hv;subst hu;have hrun:=G4 (P:=P) (fn:=fn) hl (C.vals_ok vss pv hpre) g2 hrs;have hh'' : aj W' bs' E' F' (dropKeys σ'.h ks) w'' :=
   hh'.mg (all hs'.hk) ks (λ_=>none) g5 (λ_ _=>rfl) (λj e he=>by cases he) (λi j e e' _ he=>by cases he) (λ_ _ _ _=>rfl) (λj=>by simp[dropKeys]) hk
  exact⟨_,hrun,W',bs',E',F',_,_,he,hR,rfl,hh'',λp hp=>hp' p (List.mem_append_right _ hp)⟩
end
def l6(j:Nat):List TypeId->List (Nat×FV)
 |[]=>[]
 |_::r=>(j,.is (.own j 0))::l6 (j+1) r
def rE(j:Nat):List TypeId->List (List Value)->List (Nat×aX)
 |T::Ts,vs::vss=>(j,.cells T (vs.map .v))::rE (j+1) Ts vss
 |_,_=>[]
def adp(h:Hp):Nat->List TypeId->List (List Value)->Prop
 |_,[],[]=>True
 |j,T::Ts,vs::vss=>h j=some (.cells T (vs.map .v))/\adp h (j+1) Ts vss
 |_,_,_=>False
def OY(j:Nat):List Value->List (Nat×Value)
 |[]=>[]
 |u::r=>(j,u)::OY (j+1) r
theorem x7{p:Nat×FV}:∀ {j:Nat} {Ts:List TypeId},p∈l6 j Ts->∃ i,i<Ts.length/\p=(j+i,.is (.own (j+i) 0))
 |j,[],h=>by cases h
 | j,T::r,h=>by
  rcases List.mem_cons.1 h with rfl|h
  ·exact⟨0,sI,rfl⟩
  ·obtain⟨i,h1,rfl⟩:=x7 h;exact⟨i+1,by simpa using h1,by rw[show j+1+i=j+(i+1) by omega]⟩
theorem x8{p:Nat×aX}:∀ {j:Nat} {Ts:List TypeId} {vss:List (List Value)},p∈rE j Ts vss->∃ i T vs,Ts[i]?=some T/\vss[i]?=some vs/\p=(j+i,.cells T (vs.map .v))
 |j,[],vss,h=>by cases vss<;>cases h
 |j,T::r,[],h=>by cases h
 | j,T::r,vs::vss,h=>by
  rcases List.mem_cons.1 h with rfl|h
  ·exact⟨0,T,vs,rfl,rfl,rfl⟩
  ·obtain⟨i,T',vs',h1,h2,rfl⟩:=x8 h;exact⟨i+1,T',vs',by simpa using h1,by simpa using h2,by rw[show j+1+i=j+(i+1) by omega]⟩
theorem Ce{p:Nat×Value}:∀ {j:Nat} {us:List Value},p∈OY j us->∃ i,us[i]?=some p.2/\p.1=j+i
 |j,[],h=>by cases h
 | j,u::r,h=>by
  rcases List.mem_cons.1 h with rfl|h
  ·exact⟨0,rfl,rfl⟩
  ·obtain⟨i,h1,h2⟩:=Ce h;exact⟨i+1,by simpa using h1,oM⟩
section
variable {P:Program}
theorem lu.at{w:World}:∀ {us:List Value} {bl:List Nat} {Ts:List TypeId} {vss:List (List Value)},lu w us bl Ts vss->∀ {i:Nat} {T:TypeId} {vs:List Value},Ts[i]?=some T->vss[i]?=some vs ->
  ∃ b,bl[i]?=some b/\us[i]?=some (.pointer (some ⟨b,0,none⟩))/\w.heap[b]?=some (.cells vs.toArray T (0,0))
 |u::us,b::bl,T::Ts,vs::vss,h,0,T',vs',h1,h2=>by
  simp at h1 h2;subst h1;subst h2;exact⟨b,rfl,by rw[h.1];rfl,h.2.1⟩
 |u::us,b::bl,T::Ts,vs::vss,h,i+1,T',vs',h1,h2=>by
  simpa using h.2.2.at (i:=i) (T:=T') (vs:=vs') (by simpa using h1) (by simpa using h2)
 |[],[],[],[],_,i,T,vs,h1,_=>by simp at h1
theorem lu.len{w:World}:∀ {us:List Value} {bl:List Nat} {Ts:List TypeId} {vss:List (List Value)},lu w us bl Ts vss->us.length=Ts.length/\bl.length=Ts.length/\vss.length=Ts.length
 |[],[],[],[],_=>⟨rfl,rfl,rfl⟩
 |u::us,b::bl,T::Ts,vs::vss,h=>by
  obtain⟨h1,h2,h3⟩:=lu.len h.2.2;simp[h1,h2,h3]
theorem MO(E:Nat->Value)(vs:List Value):ai E (vs.map .v)=vs:=by
 rw[bA,List.map_map];exact (List.map_congr_left (λ_ _=>rfl)).trans (List.map_id vs)
def σL(Ts:List TypeId)(vss:List (List Value)):St:=⟨1,ee (l6 0 Ts),dP (rE 0 Ts vss)⟩
theorem aaH{w:World}{nt m:Nat}{us:List Value}{bl:List Nat}{Ts:List TypeId}{vss:List (List Value)}(h:lu w us bl Ts vss)(hn:bl.Nodup)(hlt:∀ b∈bl,b<w.heap.size)(h8:us.length<=7)(hnt:us.length+m=nt) :
  Sat w bl nt ⟨[],OY 0 us⟩ (σL Ts vss) { tmps:=us.toArray++Array.replicate m undef,defers:=[] } w:=by
 obtain⟨l1,l2,l3⟩:=h.len;have hF:∀ {i:Nat} {b:Nat},bl[i]?=some b->((bl[i]?).toList:List Nat)=[b]:=λh=>by rw[h];rfl
 refine⟨⟨λj=>us.getD j undef,λj=>(bl[j]?).toList,λt=>?_,⟨λj e he=>?_,λj e he c hc=>?_,λj e he c hc=>?_,λi j e e' hij hi hj c hc=>?_,an.refl w _⟩,λp hp=>?_⟩,by simp;omega,rfl,λp hp=>?_,λt k hk=>?_,λj e he=>?_⟩
 ·show fits _ (ee (l6 0 Ts) t) _;rcases oC (L:=l6 0 Ts) t with h0|⟨p,hp,h1,h2⟩
  ·rw[h0];trivial
  ·rw[h2];obtain⟨i,hi,rfl⟩:=x7 hp;simp only[Nat.zero_add]at h1;subst h1;have hti:i<Ts.length:=hi;obtain⟨b,hb,hu,_⟩:=h.at (i:=i) (List.getElem?_eq_getElem hti) (List.getElem?_eq_getElem (by omega:i<vss.length));simp only[Nat.zero_add,fits,den]
   rw[Array.getD_eq_getD_getElem?,Array.getElem?_append_left (by simp;omega)];simp[hu,base,dj]
 ·obtain⟨i,T,vs,h1,h2,h3⟩:=x8 (eg he);simp only[Nat.zero_add,Prod.mk.injEq]at h3;obtain⟨rfl,rfl⟩:=h3;obtain⟨b,hb,hu,hh⟩:=h.at h1 h2;exact⟨b,by simp[hu],hF hb,by rw[MO];exact hh⟩
 ·simp only[Option.mem_toList]at hc;exact hlt c (List.mem_of_getElem? hc)
 ·simp only[Option.mem_toList]at hc;exact .inr (List.mem_of_getElem? hc)
 ·simp only[Option.mem_toList]at hc ⊢;intro hc';have h1:=List.getElem?_eq_some_iff.1 hc;have h2:=List.getElem?_eq_some_iff.1 hc';obtain⟨a1,a2⟩:=h1;obtain⟨b1,b2⟩:=h2;have hpw:=List.pairwise_iff_getElem.1 hn;rcases Nat.lt_or_gt_of_ne hij with hlt'|hlt'
  ·exact hpw i j a1 b1 hlt' (a2.trans b2.symm)
  ·exact hpw j i b1 a1 hlt' (b2.trans a2.symm)
 ·obtain⟨i,h1,h2⟩:=Ce hp;simp only[Nat.zero_add]at h2;rw[h2];simp[h1]
 ·obtain⟨i,h1,h2⟩:=Ce hp;have:=(List.getElem?_eq_some_iff.1 h1).1;show p.1 / 8<1;omega
 ·have hk:k∈(ee (l6 0 Ts) t).keys:=hk;rcases oC (L:=l6 0 Ts) t with h0|⟨p,hp,h1,h2⟩
  ·rw[h0]at hk;simp[FV.keys]at hk
  ·rw[h2]at hk;obtain⟨i,hi,rfl⟩:=x7 hp;simp[FV.keys,SV.keys]at hk;show k / 8<1;omega
 ·obtain⟨i,T,vs,h1,h2,h3⟩:=x8 (eg he);simp only[Nat.zero_add,Prod.mk.injEq]at h3;obtain⟨rfl,rfl⟩:=h3;have:=(List.getElem?_eq_some_iff.1 h1).1;refine⟨by show j / 8<1;omega,λi hi=>?_⟩;simp only[aX.keys,aR]at hi;cases hi
theorem Sat.put{W:World}{bs:List Nat}{nt:Nat}{ds:Aux}{σ:St}{a:Act}{w:World}(h:Sat W bs nt ds σ a w)(t:Nat)(v:Value)(ht:t<nt):Sat W bs nt ds ⟨σ.n,bo σ.φ t (.is (.v v)),σ.h⟩ (a.put (some t) v) w:=by
 obtain⟨⟨E,F,hf,hs,hp⟩,h1,h2,h3,h4,h5⟩:=h;refine⟨⟨E,F,λs=>?_,hs,hp⟩,by simp[Act.put,h1],h2,h3,λs k hk=>?_,h5⟩
 ·show fits E (bo σ.φ t (.is (.v v)) s) ((a.tmps.setIfInBounds t v).getD s undef);by_cases hst:s=t
  ·subst hst;rw[ah,Array.getD_eq_getD_getElem?,Array.getElem?_setIfInBounds_self_of_lt oM];rfl
  ·rw[al _ _ hst,Array.getD_eq_getD_getElem?,Array.getElem?_setIfInBounds_ne (λe=>hst e.symm),<- Array.getD_eq_getD_getElem?];exact hf s
 ·have hk:k∈(bo σ.φ t (.is (.v v)) s).keys:=hk;by_cases hst:s=t
  ·subst hst;rw[ah]at hk;simp[FV.keys,SV.keys]at hk
  ·rw[al _ _ hst]at hk;exact h4 s k hk
def σR(σ:St)(e x:Nat)(v:Value):St:=⟨σ.n,bo (bo σ.φ e (.is (.v v))) x (.is (.v v)),σ.h⟩
theorem Sat.aiC{W:World}{bs:List Nat}{nt:Nat}{ds:Aux}{σ:St}{a:Act}{w:World}(h:Sat W bs nt ds σ a w)(e x:Nat)(v:Value)(he:e<nt)(hx:x<nt):Sat W bs nt ds (σR σ e x v) ((a.put (some e) v).put (some x) v) w:=
 (h.put e v he).put x v hx
theorem aaI{w:World}{nt:Nat}{tmps:Array Value}(h:tmps.size=nt):Sat w [] nt ⟨[],[]⟩ ⟨1,ee [],dP []⟩ { tmps:=tmps,defers:=[] } w:=by
 refine⟨⟨λ_=>undef,λ_=>[],λ_=>trivial,⟨λj e he=>?_,λj e he=>?_,λj e he=>?_,λi j e e' _ he=>?_,an.refl w _⟩,λp hp=>?_⟩,h,rfl,λp hp=>?_,λt k hk=>?_,λj e he=>?_⟩
 ·cases he
 ·cases he
 ·cases he
 ·cases he
 ·cases hp
 ·cases hp
 ·simp[ee,FV.keys]at hk
 ·cases he
theorem lz{f:FuncId}{fn:Func}{id e x:Nat}{T1 T2:TypeId}{p1 p2:String}{a1 a2:Array Edge}{rest:Code}{nt:Nat}(w:World)(us:List Value)
  (hf:P.funcs[f]?=some fn) (hb:fn.body=some (.seq (.region id #[{ dst:=some e,op:=.call { callee:=.builtin .recover,args:=#[],argTypes:=#[] },type:=T1,pos:=p1,after:=a1,guard:=none },{ dst:=some x,op:=.assign (.tmp e),type:=T2,pos:=p2,after:=a2,guard:=none }] false) rest))
  (hr:fn.results.toList=[]) (he:e<nt) (hx:x<nt) (hnt:us.length+(fn.ntmps-us.length)=nt)
  (h:Wp P w [] nt ⟨[],[]⟩ rest (Fin P [] (λ_ _ _ _=>True) (λ_ _=>False)) (σR ⟨1,ee [],dP []⟩ e x .nilIface)) :
  CallsD P f us.toArray .returning w λe u' w' => (∃ v,e=.returned v)/\u' = .returning/\an w [] w' := by
 refine callsD_of_wpS hf hb λc₀ cs hu=>wpS_seq (wpS_region ?_)
 have hs0:Sat w [] nt ⟨[],[]⟩ ⟨1,ee [],dP []⟩ { tmps:=us.toArray++Array.replicate (fn.ntmps-us.length) undef,defers:=[] } w:=
  aaI (by simp;omega)
 have hs1:=hs0.aiC e x .nilIface he hx;have h1:=h _ w hs1;simp[wpOpsS,go_sem,recoverD,hu,Exit.thenS];rw[if_pos oM];have hc:∀ u,c₀.mode=u->c₀::cs={ c₀ with mode:=u }::cs:=λu hu=>by subst hu;rfl
 refine wpS_of_wp (wp_mono h1 λe' a' w' ⟨W',bs',σ',hx',hq,hs'⟩=>?_);obtain⟨⟨E,F,hφ,hh,_⟩,_,hd,_⟩:=hs';have fin:a'.defers=[]/\∃ u',c₀::cs={ c₀ with mode:=u' }::cs/\∃ v,(results fn a'.tmps).run P w' = .ok v w' /\ (∃ v',Ending.returned v=.returned v')/\u' = .returning/\an w [] w' :=
  ⟨hd,_,hc _ hu,_,kO hφ hh (by rw[hr];trivial),⟨_,rfl⟩,rfl,(hh.back hx').keeps⟩
 cases e' with
 |normal=>exact fin
 |ret=>exact fin
 |panic c=>exact hq.elim
 |exit i=>exact hq.elim
 |goto l=>exact hq.elim
 |outgrown=>exact hq.elim
theorem E3{W:World}{bs:List Nat}{E:Nat->Value}{F:Nat->List Nat}{h:Hp}{w:World}(hh:aj W bs E F h w):∀ {j:Nat} {us:List Value} {bl:List Nat} {Ts:List TypeId} {vss:List (List Value)} {w0:World} {vs0:List (List Value)},lu w0 us bl Ts vs0->adp h j Ts vss->(∀ p∈OY j us,E p.1=p.2)->lu w us bl Ts vss
 |j,[],[],[],[],w0,[],_,_,_=>trivial
 |j,u::us,b::bl,T::Ts,vs::vss,w0,v0::vs0,hl,hc,hp=>by
  obtain⟨h1,h2⟩:=hc;obtain⟨b',hu,hF,hb⟩:=hh.ent j _ h1;have e1:=hp (j,u) (by simp[OY]);simp only at e1;rw[e1,hl.1]at hu;simp only[Value.pointer.injEq,Option.some.injEq,Addr.mk.injEq,and_true]at hu;subst hu;rw[MO]at hb;exact⟨hl.1,hb,E3 hh hl.2.2 h2 λp hp' => hp p (by simp[OY,hp'])⟩
 |j,[],[],[],_::_,w0,[],_,hc,_=>hc.elim
 |j,u::us,b::bl,T::Ts,[],w0,v0::vs0,_,hc,_=>hc.elim
theorem kq{f:FuncId}{fn:Func}{id e x:Nat}{T1 T2:TypeId}{p1 p2:String}{a1 a2:Array Edge}{rest:Code}{nt:Nat}{w:World}{us:List Value}{bl:List Nat}{Ts:List TypeId}{vss:List (List Value)}{pv:Value}{out:List (List Value)}
  (hf:P.funcs[f]?=some fn) (hb:fn.body=some (.seq (.region id #[{ dst:=some e,op:=.call { callee:=.builtin .recover,args:=#[],argTypes:=#[] },type:=T1,pos:=p1,after:=a1,guard:=none },{ dst:=some x,op:=.assign (.tmp e),type:=T2,pos:=p2,after:=a2,guard:=none }] false) rest))
  (hr:fn.results.toList=[]) (he:e<nt) (hx:x<nt) (hnt:us.length+(fn.ntmps-us.length)=nt) (hl:lu w us bl Ts vss) (hn:bl.Nodup) (hlt:∀ b∈bl,b<w.heap.size) (h8:us.length<=7)
  (h:∀ us:List Value,us.length=Ts.length->Wp P w bl nt ⟨[],OY 0 us⟩ rest (Fin P [] (λ_ _ _ h=>adp h 0 Ts out) (λ_ _=>False)) (σR (σL Ts vss) e x pv)) :
  CallsD P f us.toArray (.panicking [{ v:=pv,recovered:=false }]) w λe u' w' => (∃ v,e=.returned v)/\u' = .panicking [{ v:=pv,recovered:=true }]/\an w bl w' /\ lu w' us bl Ts out:=by
 refine callsD_of_wpS hf hb λc₀ cs hu=>wpS_seq (wpS_region ?_)
 have hs1:=(aaH hl hn hlt h8 hnt).aiC e x pv he hx;have h1:=h us hl.len.1 _ w hs1;simp[wpOpsS,go_sem,recoverD,hu,Exit.thenS];rw[if_pos oM];refine wpS_of_wp (wp_mono h1 λe' a' w' ⟨W',bs',σ',hx',hq,hs'⟩=>?_);obtain⟨⟨E,F,hφ,hh,hp⟩,_,hd,_⟩:=hs'
 have fin:((kf P W' bs' σ' []).1/\adp σ'.h 0 Ts out)->a'.defers=[]/\∃ u',{ c₀ with mode:=.panicking [{ v:=pv,recovered:=true }] }::cs={ c₀ with mode:=u' }::cs/\∃ v,(results fn a'.tmps).run P w' = .ok v w' /\ (∃ v',Ending.returned v=.returned v')/\u' = .panicking [{ v:=pv,recovered:=true }]/\an w bl w' /\ lu w' us bl Ts out:=λhq=>
  ⟨hd,_,rfl,_,kO hφ hh (by rw[hr];trivial),⟨_,rfl⟩,rfl,(hh.back hx').keeps,E3 hh hl hq.2 hp⟩
 cases e' with
 |normal=>exact fin hq
 |ret=>exact fin hq
 |panic c=>exact hq.elim
 |exit i=>exact hq.elim
 |goto l=>exact hq.elim
 |outgrown=>exact hq.elim
end
section
variable {P:Program}{fn:Func}{nt:Nat}{pins:List (Nat×Value)}{Rr:World->List Nat->SV->Hp->Prop}{Rp:List PanicEntry->Hp->Prop}{W:World}{bs:List Nat}{σ:St}
theorem zm{f:FuncId}{c:Code}{args:Array Value}{w:World}{v:Value}(hf:P.funcs[f]?=some fn)(hb:fn.body=some c)(hnt:args.size+(fn.ntmps-args.size)=nt)
  (h:iK P fn nt [] (λ_ _ x _=>∀ E,den E x=v) (λ_ _=>False) w [] c (σ0 args.toList)):Calls P f args w λe w' => e=.returned v/\an w [] w' := by
 refine (EX hf hb (tk args hnt) h).mono λe w' he=>?_
 cases e with
 |returned u=>
  obtain⟨W',bs',E,F,x,h,hx,hR,rfl,hs,_⟩:=he;exact⟨by rw[hR E],hx.fF hs.keeps⟩
 |panicked c=>obtain⟨_,_,_,_,_,_,hf,_⟩:=he;exact hf.elim
 |outgrown=>exact he.elim
theorem iK.seq'{rs:List ResultVar}(hrs:fn.results.toList=rs){x y:Code}(h:Wp P W bs nt ⟨[],pins⟩ x (Th (λW' bs' σ' => iK P fn nt pins Rr Rp W' bs' y σ') (Fin P rs Rr Rp)) σ):iK P fn nt pins Rr Rp W bs (.seq x y) σ:=by
 subst hrs;exact iK.seq h
theorem iK.GJ{rs:List ResultVar}(hr:fn.results.toList=rs){f:FuncId}(C:CatchC P f)(tl ks:List Nat){id d:Nat}{y:Code}{T1 T2:TypeId}{p1 p2:String}{a1 a2:Array Edge}{caps:Array Operand}
  (hcaps:caps=(tl.map Operand.tmp).toArray) (hks:ks.Nodup) (hrs:rs=xN tl C.Ts) (hd:d<nt) (hlen:tl.length=C.Ts.length) (hlen2:ks.length=C.Ts.length)
  (hcap:∀ p∈tl.zip ks,σ.φ p.1=.is (.own p.2 0)) (hcel:∀ k∈ks,∃ T vs,σ.h k=some (.cells T vs))
  (h:∀ us:List Value,us.length=C.Ts.length->Wp P W bs nt ⟨[Rm f us],ks.zip us++pins⟩ y (adq C rs tl ks Rr Rp) ⟨σ.n+2,bo σ.φ d .any,σ.h⟩) :
  iK P fn nt pins Rr Rp W bs (.seq (.region id #[{ dst:=some d,op:=.makeFunc (.func f) #[] caps,type:=T1,pos:=p1,after:=a1,guard:=none },{ dst:=none,op:=.defer { callee:=.value (.tmp d),args:=#[],argTypes:=#[] },type:=T2,pos:=p2,after:=a2,guard:=none }] false) y) σ:=by
 subst hcaps;subst hr;exact iK.defer C tl ks hks hrs hd hlen hlen2 hcap hcel h
variable {f:FuncId}(C:CatchC P f)(rs:List ResultVar)(tl ks:List Nat)
theorem kB:adq C rs tl ks Rr Rp .ret W bs σ=((kf P W bs σ rs).1/\Rr W bs (mh (kf P W bs σ rs).2) σ.h):=rfl
theorem iJ(c:List PanicEntry):adq C rs tl ks Rr Rp (.panic c) W bs σ=∃ pv vss,c=[{ v:=pv,recovered:=false }]/\Ra σ tl ks C.Ts vss/\C.pre vss pv/\Rr W bs (.v (WY (C.pc vss pv))) (dropKeys σ.h ks):=rfl
end
end
end Go.LE
