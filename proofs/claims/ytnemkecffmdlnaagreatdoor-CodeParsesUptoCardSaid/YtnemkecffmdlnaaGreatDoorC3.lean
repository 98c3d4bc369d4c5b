/-
 Part 3 of the proof (packed).
-/
import Derived.Test.YtnemkecffmdlnaaGreatDoorC2
import Derived.Lib.Bytealg
set_option linter.unusedSimpArgs false
set_option linter.unusedVariables false
set_option linter.defProp false
set_option maxHeartbeats 16000000
namespace Go.LE
section
open Go.RowKit
structure Sh where
 tm:Nat->SV
 g:∀ E k,den E (tm k)=den (λ_=>E k) (tm 0)
 k:∀ k,∀ j∈(tm k).keys,j=k
def Sh.val(s:Sh)(cs:List Value):Value:=den (λ_=>et cs) (s.tm 0)
def Sh.one:Sh:=⟨λk=>.part k 0,λ_ _=>rfl,λk j hj=>by simpa [SV.keys] using hj⟩
def Sh.two:Sh:=⟨λk=>.agg [.part k 0,.part k 1],λ_ _=>rfl,λk j hj=>by simpa [SV.keys,aw] using hj⟩
abbrev Kd:=Option (Sh×FK)
def vU:Option Value->Option (List Value)->Option (List Value)
 |some v,some vs=>some (v::vs)
 |_,_=>none
def func2(f:Fn):Option (List Value)->Option (List Value)->Option Value
 |some a,some c=>some (.func f a.toArray c.toArray)
 |_,_=>none
mutual
def dk:SV->Option Value
 |.v x=>some x
 |.agg l=>(gR l).map λvs=>.agg vs.toArray
 |.ifc t x=>(dk x).map (.iface t)
 |.fn f a c=>func2 f (gR a) (gR c)
 |_=>none
def gR:List SV->Option (List Value)
 |[]=>some []
 |x::r=>vU (dk x) (gR r)
end
mutual
theorem rD{E:Nat->Value}:∀ {x:SV} {v:Value},dk x=some v->den E x=v
 |.v x,v,h=>by simp only[dk,Option.some.injEq]at h;exact h
 |.own _ _,v,h=>by simp[dk]at h
 |.hd _,v,h=>by simp[dk]at h
 |.part _ _,v,h=>by simp[dk]at h
 |.tup _,v,h=>by simp[dk]at h
 |.agg l,v,h=>by
  simp only[dk,Option.map_eq_some_iff]at h;obtain⟨vs,h1,rfl⟩:=h;simp only[den,og h1]
 |.ifc t x,v,h=>by
  simp only[dk,Option.map_eq_some_iff]at h;obtain⟨y,h1,rfl⟩:=h;simp only[den,rD h1]
 | .fn f a c,v,h=>by
  simp only[dk]at h;cases h1:gR a with
  |none=>rw[h1]at h;simp[func2]at h
  | some a' =>
   cases h2:gR c with
   |none=>rw[h1,h2]at h;simp[func2]at h
   |some c' =>
    rw[h1,h2]at h;simp only[func2,Option.some.injEq]at h;subst h;simp only[den,og h1,og h2]
theorem og{E:Nat->Value}:∀ {l:List SV} {vs:List Value},gR l=some vs->au E l=vs
 |[],vs,h=>by simp only[gR,Option.some.injEq]at h;subst h;rfl
 | x::r,vs,h=>by
  simp only[gR]at h;cases h1:dk x with
  |none=>rw[h1]at h;simp[vU]at h
  | some v' =>
   cases h2:gR r with
   |none=>rw[h1,h2]at h;simp[vU]at h
   |some vs' =>
    rw[h1,h2]at h;simp only[vU,Option.some.injEq]at h;subst h;simp only[au,rD h1,og h2]
end
def lP:SV->Option Nat
 |.part k _=>some k
 |.agg (.part k _::_)=>some k
 |_=>none
structure GV1 where
 p:Prop
 a:AV
 rs:List Nat
 cs:List Nat
structure GVL where
 p:Prop
 as_:List AV
 rs:List Nat
 cs:List Nat
def akb:Option (AV×List Nat)->GV1
 |some (a,r)=>⟨True,a,r,[]⟩
 |none=>⟨False,.val undef,[],[]⟩
def gvO(G:Nat->Prop)(W:World)(bs:List Nat)(sh:Sh)(Φ:FK)(x:SV)(k:Nat):Option aT->GV1
 |some (.obj d R)=>⟨x=sh.tm k/\d=[]/\R=kB G W bs Φ,.val undef,[k],[k]⟩
 |_=>⟨False,.val undef,[],[]⟩
def gvF(G:Nat->Prop)(W:World)(bs:List Nat)(h:Hp)(sh:Sh)(Φ:FK)(x:SV):Option Value->Option Nat->GV1
 |some v,_=>⟨∃ cs,v=sh.val cs/\Φ.Φ cs W (jk G bs),.val undef,[],[]⟩
 |none,some k=>gvO G W bs sh Φ x k (h k)
 |none,none=>⟨False,.val undef,[],[]⟩
def BI(G:Nat->Prop)(W:World)(bs:List Nat)(h:Hp):Kd->SV->GV1
 |none,x=>akb (cM h x)
 |some (sh,Φ),x=>gvF G W bs h sh Φ x (dk x) (lP x)
def gvC(a:GV1)(l:GVL):GVL:=⟨a.p/\l.p,a.a::l.as_,a.rs++l.rs,a.cs++l.cs⟩
def nS(G:Nat->Prop)(W:World)(bs:List Nat)(h:Hp):List Kd->List SV->GVL
 |[],[]=>⟨True,[],[],[]⟩
 |kd::ks,x::r=>gvC (BI G W bs h kd x) (nS G W bs h ks r)
 |_,_=>⟨False,[],[],[]⟩
def IZ(w:World)(S:Nat->Prop):List Kd->List Value->List AV->Prop
 |[],[],[]=>True
 |none::ks,u::us,a::as_=>Ao w u a/\IZ w S ks us as_
 |some (sh,Φ)::ks,u::us,_::as_=>(∃ cs,u=sh.val cs/\Φ.Φ cs w S)/\IZ w S ks us as_
 |_,_,_=>False
section
variable {P:Program}{W:World}{bs:List Nat}{κ:Nat}{E:Nat->Value}{F:Nat->List Nat}{h:Nat->Option aT}{w:World}{K:Nat->Prop}{G:Nat->Prop}
def KL(w:World)(S:Nat->Prop)(u:Value)(a:AV):Kd->Prop
 |none=>Ao w u a
 |some (sh,Φ)=>∃ cs,u=sh.val cs/\Φ.Φ cs w S
theorem afp(hs:ai W bs E F h w){S:Nat->Prop}(hS:∀ b,b<W.heap.size->jk G bs b->S b){kd:Kd}{x:SV}(hp:(BI G W bs h kd x).p)(hc:∀ k∈(BI G W bs h kd x).cs,∀ b∈F k,S b) :
  KL w S (den E x) (BI G W bs h kd x).a kd:=by
 match kd with
 |none=>
  simp only[BI,KL]at hp ⊢;cases hv:cM h x with
  |none=>rw[hv]at hp;exact hp.elim
  |some q=>obtain⟨a,r⟩:=q;exact Cv hs hv
 | some (sh,Φ)=>
  simp only[BI,KL]at hp hc ⊢;cases hv:dk x with
  |some v=>
   rw[hv]at hp;obtain⟨cs,h1,h2⟩:=hp;exact⟨cs,by rw[rD hv,h1],Φ.mono (λb hb hr=>⟨hs.keeps.block b hb hr.2,hS b hb hr⟩) h2⟩
  | none=>
   rw[hv]at hp hc;cases hk:lP x with
   |none=>rw[hk]at hp;exact hp.elim
   | some k=>
    rw[hk]at hp hc;simp only[gvF]at hp hc;cases hkk:h k with
    |none=>rw[hkk]at hp;exact hp.elim
    | some e=>
     rw[hkk]at hp hc;cases e with
     |cells T vs=>exact hp.elim
     |row T s n vs=>exact hp.elim
     |obj d R=>
      obtain⟨hx,rfl,rfl⟩:=hp;obtain⟨⟨⟨hG,cs,h1,h2⟩,_⟩,_⟩:=hs.ent k _ hkk;refine⟨cs,?_,h2 w S (λb hb hr=>⟨hs.keeps.block b hb hr.2,hS b hb hr⟩) λb hb=>⟨rfl,hc k (by simp[gvO]) b hb⟩⟩;rw[hx,sh.g E k,h1];rfl
theorem Ev(hs:ai W bs E F h w){S:Nat->Prop}(hS:∀ b,b<W.heap.size->jk G bs b->S b):∀ {kds:List Kd} {l:List SV},(nS G W bs h kds l).p->(∀ k∈(nS G W bs h kds l).cs,∀ b∈F k,S b) ->
  IZ w S kds (au E l) (nS G W bs h kds l).as_
 |[],[],_,_=>trivial
 |[],_::_,hp,_=>hp.elim
 |_::_,[],hp,_=>hp.elim
 |kd::ks,x::r,hp,hc=>by
  have h1:=afp hs hS (kd:=kd) (x:=x) hp.1 (λk hk=>hc k (List.mem_append_left _ hk));have h2:=Ev hs hS (kds:=ks) (l:=r) hp.2 (λk hk=>hc k (List.mem_append_right _ hk));revert h1;cases kd with
  |none=>exact λh1=>⟨h1,h2⟩
  |some q=>exact λh1=>⟨h1,h2⟩
theorem aed{h' : Hp}{kd:Kd}{x:SV}(hp:(BI G W bs h kd x).p)(hr:∀ k∈(BI G W bs h kd x).rs,h' k=h k):BI G W bs h' kd x=BI G W bs h kd x:=by
 match kd with
 | none=>
  simp only[BI]at hp hr ⊢;cases hv:cM h x with
  |none=>rw[hv]at hp;exact hp.elim
  |some q=>
   obtain⟨a,r⟩:=q;rw[hv]at hr;rw[DO hv hr]
 | some (sh,Φ)=>
  simp only[BI]at hp hr ⊢;cases hv:dk x with
  |some v=>rfl
  | none=>
   rw[hv]at hp hr;cases hk:lP x with
   |none=>rfl
   | some k=>
    rw[hk]at hp hr;simp only[gvF]at hp hr ⊢;cases hkk:h k with
    |none=>rw[hkk]at hp;exact hp.elim
    |some e=>
     rw[hkk]at hp hr;cases e with
     |cells T vs=>exact hp.elim
     |row T s n vs=>exact hp.elim
     |obj d R=>rw[hr k (by simp[gvO]),hkk]
theorem Gs{h' : Hp}:∀ {kds:List Kd} {l:List SV},(nS G W bs h kds l).p->(∀ k∈(nS G W bs h kds l).rs,h' k=h k)->nS G W bs h' kds l=nS G W bs h kds l
 |[],[],_,_=>rfl
 |[],_::_,hp,_=>hp.elim
 |_::_,[],hp,_=>hp.elim
 |kd::ks,x::r,hp,hr=>by
  have hp' : (BI G W bs h kd x).p/\(nS G W bs h ks r).p:=hp;show gvC (BI G W bs h' kd x) (nS G W bs h' ks r)=gvC (BI G W bs h kd x) (nS G W bs h ks r);rw[aed hp'.1 λk hk=>hr k (List.mem_append_left _ hk),Gs hp'.2 λk hk=>hr k (List.mem_append_right _ hk)]
theorem ada{kd:Kd}{x:SV}(hp:(BI G W bs h kd x).p):∀ k∈(BI G W bs h kd x).cs,∃ Φ,h k=some (.obj [] (kB G W bs Φ)):=by
 match kd with
 |none=>
  simp only[BI]at hp ⊢;cases hv:cM h x with
  |none=>rw[hv]at hp;exact hp.elim
  |some q=>intro k hk;cases hk
 | some (sh,Φ)=>
  simp only[BI]at hp ⊢;cases hv:dk x with
  |some v=>intro k hk;cases hk
  | none=>
   rw[hv]at hp;cases hk:lP x with
   |none=>rw[hk]at hp;exact hp.elim
   | some k=>
    rw[hk]at hp;simp only[gvF]at hp ⊢;cases hkk:h k with
    |none=>rw[hkk]at hp;exact hp.elim
    | some e=>
     rw[hkk]at hp;cases e with
     |cells T vs=>exact hp.elim
     |row T s n vs=>exact hp.elim
     |obj d R=>
      obtain⟨hx,rfl,rfl⟩:=hp;intro j hj;simp only[gvO,List.mem_singleton]at hj;subst hj;exact⟨Φ,hkk⟩
theorem ti:∀ {kds:List Kd} {l:List SV},(nS G W bs h kds l).p->∀ k∈(nS G W bs h kds l).cs,∃ Φ,h k=some (.obj [] (kB G W bs Φ))
 |[],[],_,k,hk=>by cases hk
 |[],_::_,hp,_,_=>hp.elim
 |_::_,[],hp,_,_=>hp.elim
 |kd::ks,x::r,hp,k,hk=>by
  rcases List.mem_append.1 hk with hk|hk
  ·exact ada hp.1 k hk
  ·exact ti hp.2 k hk
end
inductive FOut where
 |val (v:Value)
 |fact (sh:Sh) (Φ:FK)
 |pan (c:List PanicEntry) (v:Value)
def rA(w:World)(S:Nat->Prop)(e:Ending)(w' : World):FOut->Prop
 |.val v=>e=.returned v/\ah w [] w'
 |.fact sh Φ=>∃ cs,e=.returned (sh.val cs)/\Φ.Φ cs w' (λb=>b<w.heap.size->S b)/\ah w [] w'
 |.pan c _=>e=.panicked c/\ah w [] w'
structure rr (P:Program)(f:FuncId) where
 kinds:List Kd
 pre:List AV->World->(Nat->Prop)->Prop
 premono:∀ as_ W S W' S',cT W S W' S' -> pre as_ W S->pre as_ W' S'
 out:List AV->FOut
 enters:∀ args w,(callFunc f args).run P w=.ok (.enter f args) w
 ok:∀ (w:World) (S:Nat->Prop) (us:List Value) (as_:List AV),IZ w S kinds us as_->pre as_ w S->Calls P f us.toArray w λe w' => rA w S e w' (out as_)
def tX(G:Nat->Prop)(κ:Nat)(W:World)(bs:List Nat)(q:Prop)(rs cs:List Nat):FOut->R
 |.val v=>⟨q,.v v,[],none,[],rs⟩
 |.fact sh Φ=>⟨q/\Up G W bs,sh.tm (8*κ),eC cs++[(8*κ,some (.obj [] (kB G W bs Φ)))],none,[],rs⟩
 |.pan c v=>⟨q,.v v,[],some c,[],rs⟩
def AP(G:Nat->Prop)(κ:Nat)(W:World)(bs:List Nat)(pre:List AV->World->(Nat->Prop)->Prop)(out:List AV->FOut)(g:GVL):R:=
 tX G κ W bs (g.p/\pre g.as_ W (jk G bs)) g.rs g.cs (out g.as_)
theorem W7{W w:World}{bs:List Nat}{G:Nat->Prop}{S:Nat->Prop}(hk:ah W bs w)(hS:∀ b,b<W.heap.size->jk G bs b->S b):cT W (jk G bs) w S:=λb hb hr=>⟨hk.block b hb hr.2,hS b hb hr⟩
theorem DC{W w w' : World}{bs fp0 fp:List Nat}{G S Sn:Nat->Prop}{Φ:FK}{cs:List Value}(hk:ah W bs w)(hkeep:ah w fp0 w')
  (hΦ:Φ.Φ cs w' Sn) (hS:∀ b,S b->(b<W.heap.size/\jk G bs b)\/b∈fp) (hS0:∀ b,b<W.heap.size->jk G bs b->b∉fp0)
  (hn:∀ b,b<w'.heap.size->Sn b->(b<w.heap.size/\S b)\/b∈fp) (hG:∀ b∈fp,G b) :
  ∀ w3:World,(∀ b∈fp,w3.heap[b]?=w'.heap[b]?)->kB G W bs Φ [] (et cs) fp w3:=by
 intro w3 h3;refine⟨hG,cs,rfl,λW₂ S₂ hold hnew=>Φ.mono (λb hb hg=>?_) hΦ⟩;have inFp:b∈fp->W₂.heap[b]?=w'.heap[b]?/\S₂ b:=λhb' => by
  obtain⟨g3,g4⟩:=hnew b hb';exact⟨by rw[g3,h3 b hb'],g4⟩
 rcases hn b hb hg with ⟨hb1,hb2⟩|hb'
 ·rcases hS b hb2 with ⟨g1,g2⟩|hb'
  ·obtain⟨g3,g4⟩:=hold b g1 g2;exact⟨by rw[g3,hkeep.block b hb1 (hS0 b g1 g2),hk.block b g1 g2.2],g4⟩
  ·exact inFp hb'
 ·exact inFp hb'
theorem qj{w w' : World}(hs:w.heap.size<=w'.heap.size)(b:Nat):b∈List.range' w.heap.size (w'.heap.size-w.heap.size) ↔ w.heap.size<=b/\b<w'.heap.size:=by
 rw[List.mem_range'_1];omega
def rr.spec{P:Program}{f:FuncId}(p:rr P f)(G:Nat->Prop):Spec P f where
 ev:=λW bs κ h args=>AP G κ W bs p.pre p.out (nS G W bs h p.kinds args)
 good:=λW bs κ E F h w K args hs hK hk hx hside=>by
  rw[p.enters];have hS:∀ b,b<W.heap.size->jk G bs b->(b<W.heap.size/\jk G bs b)\/∃ k∈(nS G W bs h p.kinds args).cs,b∈F k:=λb h1 h2=>.inl ⟨h1,h2⟩
  have call:(nS G W bs h p.kinds args).p->p.pre (nS G W bs h p.kinds args).as_ W (jk G bs)->Calls P f (au E args).toArray w λe w' => rA w (λb=>(b<W.heap.size/\jk G bs b)\/∃ k∈(nS G W bs h p.kinds args).cs,b∈F k) e w' (p.out (nS G W bs h p.kinds args).as_):=λh1 h2=>
   p.ok w _ _ _ (Ev hs hS h1 λk hk b hb=>.inr ⟨k,hk,hb⟩) (p.premono _ _ _ _ _ (W7 hs.keeps hS) h2)
  revert hside;unfold AP;cases hout:p.out (nS G W bs h p.kinds args).as_ with
  |val v=>
   rintro⟨h1,h2⟩;have hc:=call h1 h2;rw[hout]at hc;exact uX hs hc rfl rfl rfl
  |pan c v=>
   rintro⟨h1,h2⟩;have hc:=call h1 h2;rw[hout]at hc;refine hc.mono λe w' he=>?_
   obtain⟨rfl,hkeep⟩:=he;exact⟨rfl,F,(hs.grow hkeep).drop λk e he=>by simpa [tX,dropKeys] using he⟩
  | fact sh Φ=>
   rintro⟨⟨h1,h2⟩,hup⟩;have hc:=call h1 h2;rw[hout]at hc;refine hc.mono λe w' he=>?_
   obtain⟨cs,rfl,hΦ,hkeep⟩:=he;have hobj:=ti h1;have hK8:¬ K (8*κ):=hk _ oM;have hR:=DC (G:=G) (S:=λb=>(b<W.heap.size/\jk G bs b)\/∃ k∈(nS G W bs h p.kinds args).cs,b∈F k) (fp:=List.range' w.heap.size (w'.heap.size-w.heap.size)++(nS G W bs h p.kinds args).cs.flatMap F) hs.keeps hkeep hΦ
    (λb hb=>hb.elim .inl λ⟨k,hk,hbk⟩=>.inr (List.mem_append_right _ (List.mem_flatMap.2 ⟨k,hk,hbk⟩))) (λ_ _ _=>by simp)
    (λb hb hn=>by
     by_cases hbw:b<w.heap.size
     ·exact .inl ⟨hbw,hn hbw⟩
     ·exact .inr (List.mem_append_left _ ((qj hkeep.size b).2 ⟨oM,hb⟩)))
    (λb hb=>by
     rcases List.mem_append.1 hb with hb|hb
     ·exact hup b (.inl (Nat.le_trans hs.keeps.size ((qj hkeep.size b).1 hb).1))
     ·obtain⟨k,hk,hbk⟩:=List.mem_flatMap.1 hb
      obtain⟨Φ',hk'⟩:=hobj k hk
      exact (hs.ent k _ hk').1.1.1 b hbk)
   refine⟨rfl,bu E (8*κ) (et cs),bu F (8*κ) (List.range' w.heap.size (w'.heap.size-w.heap.size)++(nS G W bs h p.kinds args).cs.flatMap F),λk hk' => aq _ _ λe=>hk' (by subst e;omega),?_,?_⟩
   ·simp only[tX];rw[sh.g,ak];rfl
   ·simp only[tX];have hne:∀ j x,h j=some x->j≠8*κ:=λj x hj e=>hK8 (e ▸ (hK j x hj).1)
    refine hs.oE hK (nS G W bs h p.kinds args).cs (bu (λ_=>none) (8*κ) (some (.obj [] (kB G W bs Φ)))) (λj hj=>?_) (λj hj=>aq _ _ λe=>hK8 (e ▸ hj)) (λj e he=>?_) (λi j e e' hij hi hj b hb=>?_) (λj x hx hj=>aq _ _ (hne j x hx)) (λj=>?_) (hkeep.mono λb hb=>by cases hb)
    ·obtain⟨Φ',hj'⟩:=hobj j hj;exact⟨_,hj'⟩
    ·by_cases hj:j=8*κ
     ·subst hj;simp only[ak,Option.some.injEq]at he;subst he;rw[ak,ak];refine⟨⟨⟨hR w' λ_ _=>rfl,rfl⟩,hR⟩,λb hb=>?_,λb hb=>?_⟩
      ·rcases List.mem_append.1 hb with hb|hb
       ·exact .inr ((qj hkeep.size b).1 hb).1
       ·obtain⟨k,hk,hbk⟩:=List.mem_flatMap.1 hb;exact .inl ⟨k,hk,hbk⟩
      ·rcases List.mem_append.1 hb with hb|hb
       ·exact ((qj hkeep.size b).1 hb).2
       ·obtain⟨k,hk,hbk⟩:=List.mem_flatMap.1 hb;obtain⟨Φ',hk'⟩:=hobj k hk;exact Nat.lt_of_lt_of_le (hs.lt k _ hk' b hbk) hkeep.size
     ·rw[aq _ _ hj]at he;cases he
    ·by_cases hi' : i=8*κ
     ·by_cases hj' : j=8*κ
      ·exact absurd (hi'.trans hj'.symm) hij
      ·rw[aq _ _ hj']at hj;cases hj
     ·rw[aq _ _ hi']at hi;cases hi
    ·rw[cx];simp only[ba];by_cases hj:j=8*κ
     ·subst hj;simp[ak]
     ·rw[aq _ _ hj,aq _ _ hj,lq]
 keys:=λW bs κ h K args hK hx hside=>by
  revert hside;unfold AP;cases hout:p.out (nS G W bs h p.kinds args).as_ with
  |val v=>exact λ_=>aL.plain (λk hk=>by cases hk) rfl
  |pan c v=>exact λ_=>aL.plain (λk hk=>by cases hk) rfl
  | fact sh Φ=>
   rintro⟨⟨h1,h2⟩,hup⟩;refine⟨λk hk=>.inr (by rw[sh.k _ k hk];omega),λq hq=>?_⟩;simp only[tX,List.mem_append,List.mem_singleton,eC,List.mem_map]at hq;rcases hq with ⟨j,hj,rfl⟩|rfl
   ·obtain⟨Φ',hj'⟩:=ti h1 j hj;exact⟨.inl (hK j _ hj').1,λe he=>by cases he⟩
   ·refine⟨.inr (by simp only;omega),λe he k hk=>?_⟩;simp only[Option.some.injEq]at he;subst he;cases hk
 loc:=λW bs κ h h' args hside hr=>by
  have hp:(nS G W bs h p.kinds args).p:=by
   revert hside;unfold AP;cases p.out (nS G W bs h p.kinds args).as_ with
   |val v=>exact λh=>h.1
   |pan c v=>exact λh=>h.1
   |fact sh Φ=>exact λh=>h.1.1
  have hr' : ∀ k∈(nS G W bs h p.kinds args).rs,h' k=h k:=by
   revert hr;unfold AP;cases p.out (nS G W bs h p.kinds args).as_<;>exact λh=>h
  rw[Gs hp hr']
theorem ig{P:Program}{f:FuncId}(p:rr P f)(G:Nat->Prop)(W:World)(bs:List Nat)(κ:Nat)(h:Hp)(l:List SV):(p.spec G).ev W bs κ h l=AP G κ W bs p.pre p.out (nS G W bs h p.kinds l):=rfl
end
section
open Go.RowKit
inductive GOut where
 |ret (v:Value) (fs:List AV)
 |fact (sh:Sh) (Φ:FK) (fs:List AV)
 |pan (c:List PanicEntry) (v:Value)
def DI(w:World)(S:Nat->Prop)(u:Value)(fp:List Nat)(T:TypeId)(e:Ending)(w' : World):GOut->Prop
 |.ret v fs=>e=.returned v/\(∃ fp',bC w' u fp' T fs/\(∀ b∈fp',b∈fp\/w.heap.size<=b)/\∀ b∈fp',b<w'.heap.size)/\ah w fp w'
 |.fact sh Φ fs=>∃ cs,e=.returned (sh.val cs)/\(∃ fp',bC w' u fp' T fs/\(∀ b∈fp',b∈fp\/w.heap.size<=b)/\(∀ b∈fp',b<w'.heap.size)/\Φ.Φ cs w' (λb=>(b<w.heap.size->S b\/b∈fp)/\b∉fp'))/\ah w fp w'
 |.pan c _=>e=.panicked c/\ah w fp w'
structure Dh (P:Program)(f:FuncId) where
 T:TypeId
 kinds:List Kd
 pre:List AV->List AV->World->(Nat->Prop)->Prop
 premono:∀ fs as_ W S W' S',cT W S W' S' -> pre fs as_ W S->pre fs as_ W' S'
 out:List AV->List AV->GOut
 enters:∀ args w,(callFunc f args).run P w=.ok (.enter f args) w
 ok:∀ (w:World) (S:Nat->Prop) (u:Value) (fp:List Nat) (us:List Value) (fs as_:List AV),bC w u fp T fs->(∀ b∈fp,b<w.heap.size)->(∀ b∈fp,¬ S b)->IZ w S kinds us as_->pre fs as_ w S ->
  Calls P f (u::us).toArray w λe w' => DI w S u fp T e w' (out fs as_)
def pS(G:Nat->Prop)(κ k:Nat)(T:TypeId)(W:World)(bs:List Nat)(q:Prop)(rs rs' cs:List Nat):GOut->R
 |.ret v fs=>⟨q/\(k::rs).Nodup/\(∀ j∈rs',j∉k::rs)/\fs.length<=7,.v v,eC rs++(cQ (aZ (8*κ) fs)++[(k,some (.cells T (aN (8*κ) fs)))]),none,[],k::(rs++rs')⟩
 | .fact sh Φ fs=>⟨q/\(k::rs).Nodup/\(∀ j∈rs',j∉k::rs)/\fs.length<=7/\Up G W bs,sh.tm (8*κ+7),
   eC (rs++cs)++(cQ (aZ (8*κ) fs)++[(k,some (.cells T (aN (8*κ) fs))),(8*κ+7,some (.obj [] (kB G W bs Φ)))]),none,[],k::(rs++rs')⟩
 |.pan c v=>⟨q/\(k::rs).Nodup/\(∀ j∈rs',j∉k::rs),.v v,[],some c,k::rs,k::(rs++rs')⟩
def Bt(G:Nat->Prop)(κ k:Nat)(T T' : TypeId)(W:World)(bs:List Nat)(pre:List AV->List AV->World->(Nat->Prop)->Prop)(out:List AV->List AV->GOut)(g:GVL):Option (List AV×List Nat)->R
 |some (fs,rs)=>pS G κ k T W bs (T' = T/\g.p/\pre fs g.as_ W (jk G bs)) rs g.rs g.cs (out fs g.as_)
 |none=>.bad
def A5(G:Nat->Prop)(h:Hp)(κ k:Nat)(T:TypeId)(W:World)(bs:List Nat)(pre:List AV->List AV->World->(Nat->Prop)->Prop)(out:List AV->List AV->GOut)(g:GVL):Option aT->R
 |some (.cells T' vs)=>Bt G κ k T T' W bs pre out g (aC h vs)
 |_=>.bad
def CV(G:Nat->Prop)(h:Hp)(κ:Nat)(T:TypeId)(W:World)(bs:List Nat)(kinds:List Kd)(pre:List AV->List AV->World->(Nat->Prop)->Prop)(out:List AV->List AV->GOut):List SV->R
 |.own k 0::rest=>A5 G h κ k T W bs pre out (nS G W bs h kinds rest) (h k)
 |_=>.bad
section
variable {P:Program}{W:World}{bs:List Nat}{κ:Nat}{E:Nat->Value}{F:Nat->List Nat}{h:Nat->Option aT}{w:World}{K:Nat->Prop}{G:Nat->Prop}
theorem Rw{w' : World}{k:Nat}{T:TypeId}{vs:List SV}{fs fs' : List AV}{rs fp' ks' fpn:List Nat}{cs:List Value}{R:List Value->Value->List Nat->World->Prop}(hs:ai W bs E F h w)(hK:bU K h)(hk:∀ k,k / 8=κ->¬ K k)
  (hkk:h k=some (.cells T vs)) (hv:aC h vs=some (fs,rs)) (hlen:fs'.length<=7) (hn:(k::rs).Nodup) (hks:∀ j∈ks',∃ d R,h j=some (.obj d R))
  (ho:bC w' (E k) fp' T fs') (h1:∀ b∈fp',b∈(k::rs).flatMap F\/w.heap.size<=b) (h2:∀ b∈fp',b<w'.heap.size)
  (hfn:∀ b∈fpn,b∉fp' /\ b<w'.heap.size/\((∃ j∈k::(rs++ks'),b∈F j)\/w.heap.size<=b)) (hR:∀ w3:World,(∀ b∈fpn,w3.heap[b]?=w'.heap[b]?)->R [] (et cs) fpn w3)
  (hkeep:ah w ((k::rs).flatMap F) w') :
  ∃ E' F',(∀ j,j / 8≠κ->E' j=E j)/\E' (8*κ+7)=et cs/\ai W bs E' F' (ba h (eC (rs++ks')++(cQ (aZ (8*κ) fs')++[(k,some (.cells T (aN (8*κ) fs'))),(8*κ+7,some (.obj [] R))]))) w' := by
 obtain⟨b,us,hu,hb,hus,rfl,hnd⟩:=ho;have hl:=iy hus;have hKk:K k:=(hK k _ hkk).1;have hfr:∀ j,8*κ<=j->j<8*κ+8->¬ K j:=λj g1 g2=>hk j oM
 have hk7:k≠8*κ+7:=λe=>hfr k oM oM hKk
 have hkf:k<8*κ\/8*κ+8<=k:=by
  by_cases g1:k<8*κ
  ·exact .inl g1
  ·by_cases g2:8*κ+8<=k
   ·exact .inr g2
   ·exact absurd hKk (hfr k oM oM)
 have hE:∀ j,j / 8≠κ->bu (iI (8*κ) us E) (8*κ+7) (et cs) j=E j:=λj hj=>by
  rw[aq _ _ oM];exact jY oM
 have hsome:∀ p∈cQ (aZ (8*κ) fs')++[(k,some (.cells T (aN (8*κ) fs'))),(8*κ+7,some (.obj [] R))],∃ e,p.2=some e:=λp hp=>by
  rcases List.mem_append.1 hp with hp|hp
  ·obtain⟨e,he,_⟩:=fK.1 hp;exact⟨e,by rw[he]⟩
  ·simp at hp;rcases hp with rfl|rfl
   ·exact⟨_,rfl⟩
   ·exact⟨_,rfl⟩
 have hrow7:∀ j e,(j,e)∈aZ (8*κ) fs' -> j≠8*κ+7:=λj e hm=>by
  have:=ew _ hm;simp only at this;omega
 have hNm:∀ j e,ba (λ_=>none) (cQ (aZ (8*κ) fs')++[(k,some (.cells T (aN (8*κ) fs'))),(8*κ+7,some (.obj [] R))]) j=some e ->
   (j=k/\e=.cells T (aN (8*κ) fs'))\/(j=8*κ+7/\e=.obj [] R)\/(j≠k/\j≠8*κ+7/\(j,e)∈aZ (8*κ) fs'):=λj e he=>by
  rw[cx]at he;simp only[ba]at he;by_cases hj7:j=8*κ+7
  ·subst hj7;rw[ak]at he;cases he;exact .inr (.inl ⟨rfl,rfl⟩)
  ·rw[aq _ _ hj7]at he;by_cases hj:j=k
   ·subst hj;rw[ak]at he;cases he;exact .inl ⟨rfl,rfl⟩
   ·rw[aq _ _ hj]at he;rcases ka (λ_=>(none:Option aT)) (k:=j) (u:=cQ (aZ (8*κ) fs')) with ⟨x,hx,hx'⟩|⟨_,hx'⟩
    ·rw[hx']at he;subst he;obtain⟨e',h3,h4⟩:=fK.1 hx;simp only[Prod.mk.injEq,true_and,Option.some.injEq]at h3;subst h3;exact .inr (.inr ⟨hj,hj7,h4⟩)
    ·rw[hx']at he;cases he
 have hNk:ba (λ_=>none) (cQ (aZ (8*κ) fs')++[(k,some (.cells T (aN (8*κ) fs'))),(8*κ+7,some (.obj [] R))]) k=some (.cells T (aN (8*κ) fs')):=by
  rw[cx];simp only[ba];rw[aq _ _ hk7,ak]
 have hN7:ba (λ_=>none) (cQ (aZ (8*κ) fs')++[(k,some (.cells T (aN (8*κ) fs'))),(8*κ+7,some (.obj [] R))]) (8*κ+7)=some (.obj [] R):=by
  rw[cx];simp[ba,ak]
 have hb' : b∉v7 us fs' := (List.nodup_cons.1 hnd).1;have hnd' : (v7 us fs').Nodup:=(List.nodup_cons.1 hnd).2;have own:∀ j∈k::(rs++ks'),∃ e,h j=some e:=λj hj=>by
  rcases List.mem_cons.1 hj with rfl|hj
  ·exact⟨_,hkk⟩
  ·rcases List.mem_append.1 hj with hj|hj
   ·exact (b7 hs hv).2 j hj
   ·obtain⟨d,R',h'⟩:=hks j hj;exact⟨_,h'⟩
 refine⟨bu (iI (8*κ) us E) (8*κ+7) (et cs),bu (bu (iC (8*κ) us fs' F) k [b]) (8*κ+7) fpn,hE,by rw[ak],?_⟩
 refine hs.oE hK (k::(rs++ks')) (ba (λ_=>none) (cQ (aZ (8*κ) fs')++[(k,some (.cells T (aN (8*κ) fs'))),(8*κ+7,some (.obj [] R))])) own (λj hj=>hE j λe=>hk j e hj) (λj e he=>?_) (λi j e e' hij hi hj c hc=>?_) (λj x hx hj=>?_) (λj=>?_) ?_
 ·rcases hNm j e he with ⟨rfl,rfl⟩|⟨rfl,rfl⟩|⟨hjk,hj7,hm⟩
  ·rw[aq _ _ hk7,aq _ _ hk7,ak,jY oM];refine⟨⟨b,hu,rfl,?_⟩,λc hc=>?_,λc hc=>h2 c (by simp at hc;simp[hc])⟩
   ·rw[bS (E' := iI (8*κ) us E) _ λi hi=>aq _ _ (by have:=cR i hi;omega),gl hus];exact hb
   ·simp only[List.mem_singleton]at hc;subst hc;rcases h1 c sI with g|g
    ·obtain⟨i,hi,hci⟩:=List.mem_flatMap.1 g
     exact .inl ⟨i, by rcases List.mem_cons.1 hi with hi|hi
                       ·exact List.mem_cons.2 (.inl hi)
                       ·exact List.mem_cons.2 (.inr (List.mem_append_left _ hi)),hci⟩
    ·exact .inr g
  ·rw[ak,ak];refine⟨⟨⟨hR w' λ_ _=>rfl,rfl⟩,hR⟩,λc hc=>(hfn c hc).2.2,λc hc=>(hfn c hc).2.1⟩
  ·rw[aq _ _ hj7,aq _ _ hj7,aq _ _ hjk];obtain⟨g1,g2⟩:=iF (E:=E) (F:=F) hus hm (iI (8*κ) us E);refine⟨iY (λi hi=>?_) g1,λc hc=>?_,λc hc=>h2 c (List.mem_cons_of_mem _ (g2 c hc))⟩
   ·rw[(ew _ hm).2.2]at hi;cases hi
   ·rcases h1 c (List.mem_cons_of_mem _ (g2 c hc)) with g|g
    ·obtain⟨i,hi,hci⟩:=List.mem_flatMap.1 g
     exact .inl ⟨i, by rcases List.mem_cons.1 hi with hi|hi
                       ·exact List.mem_cons.2 (.inl hi)
                       ·exact List.mem_cons.2 (.inr (List.mem_append_left _ hi)),hci⟩
    ·exact .inr g
 ·have hrowfp:∀ i e,i≠k->i≠8*κ+7->(i,e)∈aZ (8*κ) fs' -> ∀ c∈bu (bu (iC (8*κ) us fs' F) k [b]) (8*κ+7) fpn i,c∈v7 us fs' := λi e g1 g2 hm c hc=>by
   rw[aq _ _ g2,aq _ _ g1]at hc;exact bN hl hm c hc
  rcases hNm i e hi with ⟨rfl,rfl⟩|⟨rfl,rfl⟩|⟨hik,hi7,hmi⟩
  ·rw[aq _ _ hk7,ak]at hc;simp only[List.mem_singleton]at hc;subst hc;rcases hNm j e' hj with ⟨rfl,rfl⟩|⟨rfl,rfl⟩|⟨hjk,hj7,hmj⟩
   ·exact absurd rfl hij
   ·rw[ak];exact λhc' => (hfn c hc').1 sI
   ·exact λhc' => hb' (hrowfp j e' hjk hj7 hmj c hc')
  ·rw[ak]at hc;have hc1:=(hfn c hc).1;rcases hNm j e' hj with ⟨rfl,rfl⟩|⟨rfl,rfl⟩|⟨hjk,hj7,hmj⟩
   ·rw[aq _ _ hk7,ak];exact λhc' => hc1 (by simp at hc';simp[hc'])
   ·exact absurd rfl hij
   ·exact λhc' => hc1 (List.mem_cons_of_mem _ (hrowfp j e' hjk hj7 hmj c hc'))
  ·rcases hNm j e' hj with ⟨rfl,rfl⟩|⟨rfl,rfl⟩|⟨hjk,hj7,hmj⟩
   ·have:=hrowfp i e hik hi7 hmi c hc;rw[aq _ _ hk7,ak];intro hc';simp only[List.mem_singleton]at hc';subst hc';exact hb' this
   ·have:=hrowfp i e hik hi7 hmi c hc;rw[ak];exact λhc' => (hfn c hc').1 (List.mem_cons_of_mem _ this)
   ·rw[aq _ _ hi7,aq _ _ hik]at hc;rw[aq _ _ hj7,aq _ _ hjk];exact gi hnd' hmi hmj hl hij c hc
 ·have hjk:j≠k:=λe=>by rw[e,hNk]at hj;cases hj
  have hj7:j≠8*κ+7:=λe=>by rw[e,hN7]at hj;cases hj
  rw[aq _ _ hj7,aq _ _ hjk];have hKj:=(hK j x hx).1;by_cases g1:j<8*κ
  ·exact jr (.inl g1)
  ·by_cases g2:8*κ+8<=j
   ·exact jr (.inr oM)
   ·exact absurd hKj (hfr j oM oM)
 ·rw[cx,jA _ _ _ hsome,lq];cases hN:ba (λ_=>none) (cQ (aZ (8*κ) fs')++[(k,some (.cells T (aN (8*κ) fs'))),(8*κ+7,some (.obj [] R))]) j with
  |some e=>rfl
  |none=>
   have hjk:j≠k:=λe=>by rw[e,hNk]at hN;cases hN
   simp[hjk]
 ·refine hkeep.mono λc hc=>?_
  obtain⟨i,hi,hci⟩:=List.mem_flatMap.1 hc;refine List.mem_flatMap.2 ⟨i,?_,hci⟩;rcases List.mem_cons.1 hi with hi|hi
  ·exact List.mem_cons.2 (.inl hi)
  ·exact List.mem_cons.2 (.inr (List.mem_append_left _ hi))
end
def Dh.spec{P:Program}{f:FuncId}(p:Dh P f)(G:Nat->Prop):Spec P f where
 ev:=λW bs κ h args=>CV G h κ p.T W bs p.kinds p.pre p.out args
 good:=λW bs κ E F h w K args hs hK hk hx hside=>by
  rw[p.enters];revert hside;unfold CV;split
  ·rename_i k rest;generalize hg:nS G W bs h p.kinds rest=g;cases hkk:h k with
   |none=>exact λhf=>hf.elim
   | some e=>
    cases e with
    |row T s n vs=>exact λhf=>hf.elim
    |obj d R=>exact λhf=>hf.elim
    | cells T' vs=>
     simp only[A5];cases hv:aC h vs with
     |none=>exact λhf=>hf.elim
     | some q=>
      obtain⟨fs,rs⟩:=q;simp only[Bt];have hent:=hs.ent k _ hkk;obtain⟨b,hu,_,_⟩:=hent;have hden:den E (.own k 0)=E k:=by simp[den,hu,base,di]
      have hobj:g.p->∀ j∈g.cs,∃ Φ,h j=some (.obj [] (kB G W bs Φ)):=λhp=>by rw[<- hg]at hp ⊢;exact ti hp
      have hown:∀ j∈k::rs,∃ e,h j=some e/\∀ d R,e≠.obj d R:=λj hj=>by
       rcases List.mem_cons.1 hj with rfl|hj
       ·exact⟨_,hkk,λ_ _ e=>by cases e⟩
       ·obtain⟨T,s,n,us,h1⟩:=lM hv j hj;exact⟨_,h1,λ_ _ e=>by cases e⟩
      have dW:∀ c∈(k::rs).flatMap F,(∃ j∈k::rs,c∈F j)/\c<w.heap.size/\(W.heap.size<=c\/c∈bs):=λc hc=>by
       obtain⟨j,hj,hcj⟩:=List.mem_flatMap.1 hc;obtain⟨e,he,_⟩:=hown j hj;exact⟨⟨j,hj,hcj⟩,hs.lt j e he c hcj,hs.mine j e he c hcj⟩
      have hS0:∀ b,b<W.heap.size->jk G bs b->b∉(k::rs).flatMap F:=λb h1 h2 hb=>(dW b hb).2.2.elim (λg=>absurd g (Nat.not_le.2 h1)) h2.2
      have hS:∀ b,b<W.heap.size->jk G bs b->(b<W.heap.size/\jk G bs b)\/∃ j∈g.cs,b∈F j:=λb h1 h2=>.inl ⟨h1,h2⟩
      have hSf:g.p->∀ b∈(k::rs).flatMap F,¬ ((b<W.heap.size/\jk G bs b)\/∃ j∈g.cs,b∈F j):=λhp b hb hS=>by
       rcases hS with ⟨h1,h2⟩|⟨j,hj,hbj⟩
       ·exact hS0 b h1 h2 hb
       ·obtain⟨Φ,hj'⟩:=hobj hp j hj;obtain⟨i,hi,hbi⟩:=(dW b hb).1;obtain⟨e,he,hne⟩:=hown i hi;refine hs.apart i j e _ (λhij=>?_) he hj' b hbi hbj;rw[hij,hj']at he;exact hne _ _ (Option.some.inj he).symm
      have call:∀ hn:(k::rs).Nodup,T' = p.T->g.p->p.pre fs g.as_ W (jk G bs)->Calls P f (au E (.own k 0::rest)).toArray w λe w' => DI w (λb=>(b<W.heap.size/\jk G bs b)\/∃ j∈g.cs,b∈F j) (E k) ((k::rs).flatMap F) p.T e w' (p.out fs g.as_):=λhn hT hp hpre=>by
       subst hT;have ho:=gh hs hkk hv hn;have hgs:=Ev hs hS (kds:=p.kinds) (l:=rest) (by rw[hg];exact hp) (by rw[hg];exact λj hj b hb=>.inr ⟨j,hj,hb⟩);rw[hg]at hgs;have:=p.ok w _ (E k) _ (au E rest) fs g.as_ ho (λc hc=>(dW c hc).2.1) (hSf hp) hgs (p.premono _ _ _ _ _ _ (W7 hs.keeps hS) hpre)
       simpa only[au,hden] using this
      cases hout:p.out fs g.as_ with
      |ret v fs' =>
       simp only[pS];rintro⟨⟨hT,hp,hpre⟩,hn,hd,hlen⟩;have hc:=call hn hT hp hpre;rw[hout]at hc;subst hT;refine hc.mono λe w' he=>?_
       obtain⟨rfl,⟨fp',ho,h1,h2⟩,hkeep⟩:=he;obtain⟨E',F',hE',hs'⟩:=pJ hs hK hk hkk hv oM hn ho h1 h2 hkeep;exact⟨rfl,E',F',hE',rfl,hs'⟩
      | fact sh Φ fs' =>
       simp only[pS];rintro⟨⟨hT,hp,hpre⟩,hn,hd,hlen,hup⟩;have hc:=call hn hT hp hpre;rw[hout]at hc;subst hT;refine hc.mono λe w' he=>?_
       obtain⟨cs,rfl,⟨fp',ho,h1,h2,hΦ⟩,hkeep⟩:=he;have hfn:∀ b,b∈(List.range' w.heap.size (w'.heap.size-w.heap.size)++(k::(rs++g.cs)).flatMap F).filter (·∉fp') ↔ ((w.heap.size<=b/\b<w'.heap.size)\/∃ j∈k::(rs++g.cs),b∈F j)/\b∉fp' := λb=>by
        simp only[List.mem_filter,List.mem_append,qj hkeep.size b,List.mem_flatMap,decide_eq_true_eq]
       have hown' : ∀ j∈k::(rs++g.cs),∃ e,h j=some e:=λj hj=>by
        rcases List.mem_cons.1 hj with rfl|hj
        ·exact⟨_,hkk⟩
        ·rcases List.mem_append.1 hj with hj|hj
         ·obtain⟨e,he,_⟩:=hown j (List.mem_cons_of_mem _ hj);exact⟨e,he⟩
         ·obtain⟨Φ',h'⟩:=hobj hp j hj;exact⟨_,h'⟩
       have hsub:∀ j∈k::rs,j∈k::(rs++g.cs):=λj hj=>by
        rcases List.mem_cons.1 hj with hj|hj
        ·exact List.mem_cons.2 (.inl hj)
        ·exact List.mem_cons.2 (.inr (List.mem_append_left _ hj))
       have hR:=DC (G:=G) (fp:=(List.range' w.heap.size (w'.heap.size-w.heap.size)++(k::(rs++g.cs)).flatMap F).filter (·∉fp')) (S:=λb=>((b<W.heap.size/\jk G bs b)\/∃ j∈g.cs,b∈F j)/\b∉fp') hs.keeps hkeep hΦ
        (λb hb=>hb.1.elim .inl λ⟨j,hj,hbj⟩=>.inr ((hfn b).2 ⟨.inr ⟨j,List.mem_cons.2 (.inr (List.mem_append_right _ hj)),hbj⟩,hb.2⟩)) hS0
        (λb hb hn=>by
         by_cases hbw:b<w.heap.size
         ·rcases hn.1 hbw with h3|h3
          ·exact .inl ⟨hbw,h3,hn.2⟩
          ·obtain⟨j,hj,hbj⟩:=(dW b h3).1
           exact .inr ((hfn b).2 ⟨.inr ⟨j,hsub j hj,hbj⟩,hn.2⟩)
         ·exact .inr ((hfn b).2 ⟨.inl ⟨oM,hb⟩,hn.2⟩))
        (λb hb=>by
         rcases ((hfn b).1 hb).1 with h3|⟨j,hj,hbj⟩
         ·exact hup b (.inl (Nat.le_trans hs.keeps.size h3.1))
         ·obtain⟨e,he⟩:=hown' j hj
          exact hup b (hs.mine j e he b hbj))
       obtain⟨E',F',hE',hE7,hs'⟩:=Rw (ks' := g.cs) (R:=kB G W bs Φ) (cs:=cs) hs hK hk hkk hv hlen hn (λj hj=>by obtain⟨Φ',h'⟩:=hobj hp j hj;exact⟨_,_,h'⟩) ho h1 h2
        (λb hb=>by
         obtain⟨h3,h4⟩:=(hfn b).1 hb
         refine⟨h4,?_,h3.elim (λh=>.inr h.1) .inl⟩
         rcases h3 with h3|⟨j,hj,hbj⟩
         ·exact h3.2
         ·obtain⟨e,he⟩:=hown' j hj
          exact Nat.lt_of_lt_of_le (hs.lt j e he b hbj) hkeep.size) hR hkeep
       refine⟨rfl,E',F',hE',?_,hs'⟩;rw[sh.g,hE7];rfl
      |pan c _=>
       simp only[pS];rintro⟨⟨hT,hp,hpre⟩,hn,hd⟩;have hc:=call hn hT hp hpre;rw[hout]at hc;refine hc.mono λe w' he=>?_
       obtain⟨rfl,hkeep⟩:=he;refine⟨rfl,F,?_⟩;refine hs.oE hK (k::rs) (λ_=>none) (λj hj=>?_) (λ_ _=>rfl) (λj e he=>by cases he) (λi j e e' _ he=>by cases he) (λ_ _ _ _=>rfl) (λj=>?_) hkeep
       ·obtain⟨e,he,_⟩:=hown j hj;exact⟨e,he⟩
       ·simp only[dropKeys]
  ·exact λhf=>hf.elim
 keys:=λW bs κ h K args hK hx hside=>by
  revert hside;unfold CV;split
  ·rename_i k rest;generalize hg:nS G W bs h p.kinds rest=g;cases hkk:h k with
   |none=>exact λhf=>hf.elim
   | some e=>
    cases e with
    |row T s n vs=>exact λhf=>hf.elim
    |obj d R=>exact λhf=>hf.elim
    | cells T' vs=>
     simp only[A5];cases hv:aC h vs with
     |none=>exact λhf=>hf.elim
     | some q=>
      obtain⟨fs,rs⟩:=q;simp only[Bt];have hobj:g.p->∀ j∈g.cs,∃ Φ,h j=some (.obj [] (kB G W bs Φ)):=λhp=>by rw[<- hg]at hp ⊢;exact ti hp
      have row:∀ fs' : List AV,fs'.length<=7->∀ q∈cQ (aZ (8*κ) fs'),(K q.1\/q.1 / 8=κ)/\∀ e,q.2=some e->∀ j∈e.keys,K j\/j / 8=κ:=λfs' hlen q hq=>by
       obtain⟨e,h1,h2⟩:=fK.1 hq;obtain⟨h3,h4⟩:=yy oM h2;refine⟨.inr h3,λe' he' j hj=>?_⟩;rw[h1]at he';simp only[Option.some.injEq]at he';subst he';rw[h4]at hj;cases hj
      have cel:∀ fs' : List AV,fs'.length<=7->(K k\/k / 8=κ)/\∀ e,some (aT.cells p.T (aN (8*κ) fs'))=some e->∀ j∈e.keys,K j\/j / 8=κ:=λfs' hlen=>by
       refine⟨.inl (hK k _ hkk).1,λe' he' j hj=>.inr ?_⟩;simp only[Option.some.injEq]at he';subst he';have:=cR j hj;omega
      cases hout:p.out fs g.as_ with
      | ret v fs' =>
       simp only[pS];rintro⟨_,hn,hd,hlen⟩;refine⟨λj hj=>(by cases hj),λq hq=>?_⟩;simp only[List.mem_append,List.mem_singleton]at hq;rcases hq with hq|hq|rfl
       ·simp only[eC,List.mem_map]at hq;obtain⟨j,hj,rfl⟩:=hq;exact⟨.inl (tM hK hv j hj),λe he=>by cases he⟩
       ·exact row fs' hlen q hq
       ·exact cel fs' hlen
      | fact sh Φ fs' =>
       simp only[pS];rintro⟨⟨_,hp,_⟩,hn,hd,hlen,hup⟩;refine⟨λj hj=>.inr (by rw[sh.k _ j hj];omega),λq hq=>?_⟩;simp only[List.mem_append,List.mem_cons,List.not_mem_nil,or_false]at hq;rcases hq with hq|hq|rfl|rfl
       ·simp only[eC,List.mem_map,List.mem_append]at hq;obtain⟨j,hj,rfl⟩:=hq;rcases hj with hj|hj
        ·exact⟨.inl (tM hK hv j hj),λe he=>by cases he⟩
        ·obtain⟨Φ',h'⟩:=hobj hp j hj;exact⟨.inl (hK j _ h').1,λe he=>by cases he⟩
       ·exact row fs' hlen q hq
       ·exact cel fs' hlen
       ·refine⟨.inr (by simp only;omega),λe he k hk=>?_⟩;simp only[Option.some.injEq]at he;subst he;cases hk
      |pan c _=>
       simp only[pS];rintro _;exact⟨λj hj=>(by cases hj),λq hq=>by cases hq⟩
  ·exact λhf=>hf.elim
 loc:=λW bs κ h h' args hside hr=>by
  revert hside hr;unfold CV;split
  ·rename_i k rest;generalize hg:nS G W bs h p.kinds rest=g;cases hkk:h k with
   |none=>exact λhf=>hf.elim
   | some e=>
    cases e with
    |row T s n vs=>exact λhf=>hf.elim
    |obj d R=>exact λhf=>hf.elim
    | cells T' vs=>
     simp only[A5];cases hv:aC h vs with
     |none=>exact λhf=>hf.elim
     | some q=>
      obtain⟨fs,rs⟩:=q;simp only[Bt];intro hside hr;have hp:g.p:=by
       revert hside;cases p.out fs g.as_<;>exact λh=>h.1.2.1
      have hr' : ∀ j∈k::(rs++g.rs),h' j=h j:=by
       revert hr;cases p.out fs g.as_<;>exact λh=>h
      have e1:h' k=some (.cells T' vs):=by rw[hr' k sI,hkk]
      have e2:nS G W bs h' p.kinds rest=g:=by
       rw[<- hg];exact Gs (by rw[hg];exact hp) (by rw[hg];exact λj hj=>hr' j (by simp[hj]))
      have e3:aC h' vs=some (fs,rs):=du hv λj hj=>hr' j (by simp[hj])
      rw[e1,e2];simp only[A5,e3,Bt]
  ·exact λhf=>hf.elim
theorem lG{P:Program}{f:FuncId}(p:Dh P f)(G:Nat->Prop)(W:World)(bs:List Nat)(κ:Nat)(h:Hp)(l:List SV):(p.spec G).ev W bs κ h l=CV G h κ p.T W bs p.kinds p.pre p.out l:=rfl
def eP(w:World)(S:Nat->Prop):Nat->Prop:=λb=>b<w.heap.size->S b
def aR(w:World)(S:Nat->Prop)(fp:List Nat):Nat->Prop:=λb=>b<w.heap.size->S b\/b∈fp
theorem eP.up(w:World)(S:Nat->Prop):Up (eP w S) w []:=λb hb hlt=>by
 rcases hb with hb|hb
 ·omega
 ·cases hb
theorem aR.up(w:World)(S:Nat->Prop)(fp:List Nat):Up (aR w S fp) w fp:=λb hb hlt=>by
 rcases hb with hb|hb
 ·omega
 ·exact .inr hb
theorem eP.lA(w:World)(S:Nat->Prop):cT w S w (jk (eP w S) []):=λb hb hS=>⟨rfl,λ_=>hS,sI⟩
theorem aR.lA(w:World)(S:Nat->Prop)(fp:List Nat)(h:∀ b∈fp,¬ S b):cT w S w (jk (aR w S fp) fp):=λb hb hS=>⟨rfl,λ_=>.inl hS,λhf=>h b hf hS⟩
def VE(w:World)(S:Nat->Prop)(W' : World)(bs' : List Nat)(x:SV):FOut->Prop
 |.val v=>∀ E,den E x=v
 |.fact sh Φ=>∃ cs,(∀ E,den E x=sh.val cs)/\Φ.Φ cs W' (jk (eP w S) bs')
 |.pan _ _=>False
theorem jz{P:Program}{f:FuncId}{fn:Func}{c:Code}{args:Array Value}{w:World}{nt:Nat}{out:FOut}(S:Nat->Prop)(rs:List ResultVar)
  (hf:P.funcs[f]?=some fn) (hb:fn.body=some c) (hrs:fn.results.toList=rs) (hnt:args.size+(fn.ntmps-args.size)=nt)
  (h:Wp P w [] nt ⟨[],[]⟩ c (Fin P rs (λW' bs' x _=>VE w S W' bs' x out) (λc _=>∃ v,out=.pan c v)) (σ0 args.toList)) :
  Calls P f args w λe w' => rA w S e w' out:=by
 subst hrs;refine (ki hf hb (qS args hnt) h).mono λe w' he=>?_
 cases e with
 | returned u=>
  obtain⟨W',bs',E,F,x,h,hx,hok,rfl,hs,_⟩:=he;cases out with
  |val v=>exact⟨by rw[hok E],hx.eo hs.keeps⟩
  |fact sh Φ=>
   obtain⟨cs,hd,hΦ⟩:=hok;exact⟨cs,by rw[hd E],Φ.mono (λb hb hr=>⟨hs.keeps.block b hb hr.2,hr.1⟩) hΦ,hx.eo hs.keeps⟩
  |pan c v=>exact hok.elim
 |panicked c=>
  obtain⟨W',bs',E,F,h',hx,⟨v,rfl⟩,hs,_⟩:=he;exact⟨rfl,hx.eo hs.keeps⟩
 |outgrown=>exact he.elim
def W9(w:World)(S:Nat->Prop)(fp:List Nat)(T:TypeId)(W' : World)(bs' : List Nat)(x:SV)(h:Hp):GOut->Prop
 |.ret v fs' => (∀ E,den E x=v)/\∃ vs ks,h 0=some (.cells T vs)/\aC h vs=some (fs',ks)/\(0::ks).Nodup
 |.fact sh Φ fs' => (∃ cs,(∀ E,den E x=sh.val cs)/\Φ.Φ cs W' (jk (aR w S fp) bs'))/\∃ vs ks,h 0=some (.cells T vs)/\aC h vs=some (fs',ks)/\(0::ks).Nodup
 |.pan _ _=>False
theorem jH{P:Program}{f:FuncId}{fn:Func}{c:Code}{w:World}{nt:Nat}{T:TypeId}{u:Value}{fp:List Nat}{fs:List AV}{out:GOut}(S:Nat->Prop)(us:Array Value)(rs:List ResultVar)
  (hlen:fs.length<=7) (ho:bC w u fp T fs) (hlt:∀ b∈fp,b<w.heap.size)
  (hf:P.funcs[f]?=some fn) (hb:fn.body=some c) (hrs:fn.results.toList=rs) (hnt:us.size+1+(fn.ntmps-(us.size+1))=nt)
  (h:Wp P w fp nt ⟨[],[(0,u)]⟩ c (Fin P rs (λW' bs' x h=>W9 w S fp T W' bs' x h out) (λc _=>∃ v,out=.pan c v)) (σB T fs us.toList)) :
  Calls P f (#[u]++us) w λe w' => DI w S u fp T e w' out:=by
 subst hrs;have hsat:=zS (nt:=nt) (m:=fn.ntmps-(us.size+1)) us hlen ho hlt hnt;have hsz:(#[u]++us).size=us.size+1:=by simp;omega
 refine (ki hf hb (by rw[hsz];exact hsat) h).mono λe w' he=>?_
 cases e with
 | returned v' =>
  obtain⟨W',bs',E,F,x,h',hx,hok,rfl,hs,hp⟩:=he;have hs' := hs.back hx;have hE:E 0=u:=hp (0,u) sI
  have back:∀ {vs ks fs'},h' 0=some (.cells T vs)->aC h' vs=some (fs',ks)->(0::ks).Nodup->bC w' u ((0::ks).flatMap F) T fs' /\ (∀ b∈(0::ks).flatMap F,b∈fp\/w.heap.size<=b)/\(∀ b∈(0::ks).flatMap F,b<w'.heap.size)/\∀ b∈(0::ks).flatMap F,W'.heap.size<=b\/b∈bs' := λ{vs ks fs'} h0 hv hn=>by
   have ho' := gh hs' h0 hv hn;rw[hE]at ho';have own:∀ b∈(0::ks).flatMap F,∃ j e,h' j=some e/\b∈F j:=λb hb=>by
    obtain⟨j,hj,hbj⟩:=List.mem_flatMap.1 hb;rcases List.mem_cons.1 hj with rfl|hj
    ·exact⟨_,_,h0,hbj⟩
    ·obtain⟨e,he⟩:=(b7 hs' hv).2 j hj;exact⟨_,e,he,hbj⟩
   refine⟨ho',λb hb=>?_,λb hb=>?_,λb hb=>?_⟩
   ·obtain⟨j,e,he,hbj⟩:=own b hb;exact (hs'.mine j e he b hbj).symm
   ·obtain⟨j,e,he,hbj⟩:=own b hb;exact hs'.lt j e he b hbj
   ·obtain⟨j,e,he,hbj⟩:=own b hb;exact hs.mine j e he b hbj
  cases out with
  |ret v fs' =>
   obtain⟨hd,vs,ks,h0,hv,hn⟩:=hok;obtain⟨g1,g2,g3,_⟩:=back h0 hv hn;exact⟨by rw[hd E],⟨_,g1,g2,g3⟩,hs'.keeps⟩
  |fact sh Φ fs' =>
   obtain⟨⟨cs,hd,hΦ⟩,vs,ks,h0,hv,hn⟩:=hok;obtain⟨g1,g2,g3,g4⟩:=back h0 hv hn;exact⟨cs,by rw[hd E],⟨_,g1,g2,g3,Φ.mono (λb hb hr=>⟨hs.keeps.block b hb hr.2,hr.1,λhf=>(g4 b hf).elim (λg=>absurd g (Nat.not_le.2 hb)) hr.2⟩) hΦ⟩,hs'.keeps⟩
  |pan c v=>exact hok.elim
 |panicked c=>
  obtain⟨W',bs',E,F,h',hx,⟨_,rfl⟩,hs,hp⟩:=he;exact⟨rfl,(hs.back hx).keeps⟩
 |outgrown=>exact he.elim
section
variable (G:Nat->Prop)(W:World)(bs:List Nat)(h:Hp)(κ k:Nat)(T T' : TypeId)
theorem Yf(x:Value):dk (.v x)=some x:=rfl
theorem Lr(k o:Nat):dk (.own k o)=none:=rfl
theorem Sl(k:Nat):dk (.hd k)=none:=rfl
theorem Jz(k i:Nat):dk (.part k i)=none:=rfl
theorem MR(l:List SV):dk (.agg l)=(gR l).map λvs=>.agg vs.toArray:=rfl
theorem Nl(t:TypeId)(x:SV):dk (.ifc t x)=(dk x).map (.iface t):=rfl
theorem R1(f:Fn)(a c:List SV):dk (.fn f a c)=func2 f (gR a) (gR c):=rfl
theorem Na:gR []=some []:=rfl
theorem Jk(x:SV)(r:List SV):gR (x::r)=vU (dk x) (gR r):=rfl
theorem Ns(v:Value)(vs:List Value):vU (some v) (some vs)=some (v::vs):=rfl
theorem LO(o:Option (List Value)):vU none o=none:=rfl
theorem JX(v:Value):vU (some v) none=none:=rfl
theorem NC(f:Fn)(a c:List Value):func2 f (some a) (some c)=some (.func f a.toArray c.toArray):=rfl
theorem BX(k i:Nat):lP (.part k i)=some k:=rfl
theorem D0(k i:Nat)(r:List SV):lP (.agg (.part k i::r))=some k:=rfl
theorem adX:nS G W bs h [] []=⟨True,[],[],[]⟩:=rfl
theorem Xj(kd:Kd)(ks:List Kd)(x:SV)(r:List SV):nS G W bs h (kd::ks) (x::r)=gvC (BI G W bs h kd x) (nS G W bs h ks r):=rfl
theorem Zv(x:SV):BI G W bs h none x=akb (cM h x):=rfl
theorem Zg(sh:Sh)(Φ:FK)(x:SV):BI G W bs h (some (sh,Φ)) x=gvF G W bs h sh Φ x (dk x) (lP x):=rfl
theorem S5(a:AV)(r:List Nat):akb (some (a,r))=⟨True,a,r,[]⟩:=rfl
theorem alm(sh:Sh)(Φ:FK)(x:SV)(v:Value)(o:Option Nat):gvF G W bs h sh Φ x (some v) o=⟨∃ cs,v=sh.val cs/\Φ.Φ cs W (jk G bs),.val undef,[],[]⟩:=rfl
theorem ak4(sh:Sh)(Φ:FK)(x:SV)(k:Nat):gvF G W bs h sh Φ x none (some k)=gvO G W bs sh Φ x k (h k):=rfl
theorem afM(sh:Sh)(Φ:FK)(x:SV)(k:Nat)(d:List Value)(R:List Value->Value->List Nat->World->Prop):gvO G W bs sh Φ x k (some (.obj d R))=⟨x=sh.tm k/\d=[]/\R=kB G W bs Φ,.val undef,[k],[k]⟩:=rfl
theorem ajx(p q:Prop)(a:AV)(as_:List AV)(r rs c cs:List Nat):gvC ⟨p,a,r,c⟩ ⟨q,as_,rs,cs⟩=⟨p/\q,a::as_,r++rs,c++cs⟩:=rfl
theorem Zx(pre:List AV->World->(Nat->Prop)->Prop)(out:List AV->FOut)(p:Prop)(as_:List AV)(rs cs:List Nat):AP G κ W bs pre out ⟨p,as_,rs,cs⟩=tX G κ W bs (p/\pre as_ W (jk G bs)) rs cs (out as_):=rfl
theorem RV(q:Prop)(rs cs:List Nat)(v:Value):tX G κ W bs q rs cs (.val v)=⟨q,.v v,[],none,[],rs⟩:=rfl
theorem Ml(q:Prop)(rs cs:List Nat)(sh:Sh)(Φ:FK):tX G κ W bs q rs cs (.fact sh Φ)=⟨q/\Up G W bs,sh.tm (8*κ),eC cs++[(8*κ,some (.obj [] (kB G W bs Φ)))],none,[],rs⟩:=rfl
theorem R4(q:Prop)(rs cs:List Nat)(c:List PanicEntry)(v:Value):tX G κ W bs q rs cs (.pan c v)=⟨q,.v v,[],some c,[],rs⟩:=rfl
theorem Sz(kinds:List Kd)(pre:List AV->List AV->World->(Nat->Prop)->Prop)(out:List AV->List AV->GOut)(rest:List SV):CV G h κ T W bs kinds pre out (.own k 0::rest)=A5 G h κ k T W bs pre out (nS G W bs h kinds rest) (h k):=rfl
theorem GP(pre:List AV->List AV->World->(Nat->Prop)->Prop)(out:List AV->List AV->GOut)(g:GVL)(vs:List SV):A5 G h κ k T W bs pre out g (some (.cells T' vs))=Bt G κ k T T' W bs pre out g (aC h vs):=rfl
theorem aax(pre:List AV->List AV->World->(Nat->Prop)->Prop)(out:List AV->List AV->GOut)(p:Prop)(as_ fs:List AV)(rs cs rs0:List Nat):Bt G κ k T T' W bs pre out ⟨p,as_,rs,cs⟩ (some (fs,rs0))=pS G κ k T W bs (T' = T/\p/\pre fs as_ W (jk G bs)) rs0 rs cs (out fs as_):=rfl
theorem SZ(q:Prop)(rs rs' cs:List Nat)(v:Value)(fs:List AV):pS G κ k T W bs q rs rs' cs (.ret v fs)=⟨q/\(k::rs).Nodup/\(∀ j∈rs',j∉k::rs)/\fs.length<=7,.v v,eC rs++(cQ (aZ (8*κ) fs)++[(k,some (.cells T (aN (8*κ) fs)))]),none,[],k::(rs++rs')⟩:=rfl
theorem MZ(q:Prop)(rs rs' cs:List Nat)(sh:Sh)(Φ:FK)(fs:List AV):pS G κ k T W bs q rs rs' cs (.fact sh Φ fs)=⟨q/\(k::rs).Nodup/\(∀ j∈rs',j∉k::rs)/\fs.length<=7/\Up G W bs,sh.tm (8*κ+7),eC (rs++cs)++(cQ (aZ (8*κ) fs)++[(k,some (.cells T (aN (8*κ) fs))),(8*κ+7,some (.obj [] (kB G W bs Φ)))]),none,[],k::(rs++rs')⟩:=rfl
theorem Q2(q:Prop)(rs rs' cs:List Nat)(c:List PanicEntry)(v:Value):pS G κ k T W bs q rs rs' cs (.pan c v)=⟨q/\(k::rs).Nodup/\(∀ j∈rs',j∉k::rs),.v v,[],some c,k::rs,k::(rs++rs')⟩:=rfl
theorem akq(k:Nat):Sh.one.tm k=.part k 0:=rfl
theorem aif(k:Nat):Sh.two.tm k=.agg [.part k 0,.part k 1]:=rfl
end
def am0:=aa @Yf <| aa @Lr <| aa @Sl <| aa @Jz <| aa @MR <| aa @Nl <| aa @R1 <| aa @Na <| aa @Jk <| aa @Ns <| aa @LO <| aa @JX <| aa @NC <| aa @BX <| aa @D0 <| aa @adX <| aa @Xj <| aa @Zv <| aa @Zg <| aa @S5 <| aa @alm <| aa @ak4 <| aa @afM <| aa @ajx <| aa @Zx <| aa @RV <| aa @Ml <| aa @R4 <| aa @Sz <| aa @GP <| aa @aax <| aa @SZ <| aa @MZ <| aa @Q2 <| aa @akq <| aa @aif <| aa @ig @lG
theorem kK{P:Program}{W:World}{bs:List Nat}{nt:Nat}{ds:Aux}{Q:mb}{σ:St}{x y:Code}{ι:Type}(I:ι->St)(V:ι->World)(B:ι->List Nat)(ok:ι->Prop)
  (h1:Wp P W bs nt ds x (Th (λW' bs' σ1=>∃ p,ok p/\V p=W' /\ B p=bs' /\ Le W' bs' nt ds σ1 (I p)) Q) σ)
  (h2:∀ p,ok p->Ext W bs (V p) (B p)->Wp P (V p) (B p) nt ds y Q (I p)):Wp P W bs nt ds (.seq x y) Q σ:=λa w hs=>
 wp_seq (wp_mono (h1 a w hs) λe a' w' ⟨W',bs',σ1,he,hq,hs'⟩=>by
  cases e with
  |normal=>
   obtain⟨p,hp,rfl,rfl,hle⟩:=hq
   exact wp_mono (h2 p hp he a' w' (hle a' w' hs')) λe' a'' w'' hh=>qH he hh
  |_=>exact⟨W',bs',σ1,he,hq,hs'⟩)
structure Cw (P:Program)(f:FuncId) where
 T:TypeId
 pre:World->List Nat->List AV->List AV->Prop
 res:World->List AV->List AV->Value
 enters:∀ args w,(callFunc f args).run P w=.ok (.enter f args) w
 ok:∀ (W w:World) (bs:List Nat) (u:Value) (fp:List Nat) (us:List Value) (fs as_:List AV),ah W bs w->bC w u fp T fs->fX w us as_->pre W bs fs as_ ->
  Calls P f (u::us).toArray w λe w' => e=.returned (res W fs as_)/\ah w [] w'
def yD(k:Nat)(T T' : TypeId)(pre:List AV->List AV->Prop)(res:List AV->List AV->Value)(as_:List AV)(rs' : List Nat):Option (List AV×List Nat)->R
 |some (fs,rs)=>⟨(T' = T/\(k::rs).Nodup)/\pre fs as_,.v (res fs as_),[],none,[],k::(rs++rs')⟩
 |none=>.bad
def Au(h:Hp)(k:Nat)(T:TypeId)(pre:List AV->List AV->Prop)(res:List AV->List AV->Value):Option aT->Option (List AV×List Nat)->R
 |some (.cells T' vs),some (as_,rs')=>yD k T T' pre res as_ rs' (aC h vs)
 |_,_=>.bad
def DD(h:Hp)(T:TypeId)(pre:List AV->List AV->Prop)(res:List AV->List AV->Value):List SV->R
 |.own k 0::rest=>Au h k T pre res (h k) (aC h rest)
 |_=>.bad
def Cw.spec{P:Program}{f:FuncId}(p:Cw P f):Spec P f where
 ev:=λW bs κ h args=>DD h p.T (p.pre W bs) (p.res W) args
 good:=λW bs κ E F h w K args hs hK hk hx hside=>by
  rw[p.enters];revert hside;unfold DD;split
  ·rename_i k rest;cases hkk:h k with
   |none=>exact λhf=>hf.elim
   | some e=>
    cases e with
    |row T s n vs=>exact λhf=>hf.elim
    |obj d R=>exact λhf=>hf.elim
    | cells T' vs=>
     cases hr:aC h rest with
     |none=>exact λhf=>hf.elim
     | some q=>
      obtain⟨as_,rs'⟩:=q;simp only[Au];cases hv:aC h vs with
      |none=>exact λhf=>hf.elim
      |some q=>
       obtain⟨fs,rs⟩:=q;simp only[yD];rintro⟨⟨rfl,hn⟩,hp⟩;have hent:=hs.ent k _ hkk;obtain⟨b,hu,_,_⟩:=hent;have hden:den E (.own k 0)=E k:=by simp[den,hu,base,di]
       have ho:=gh hs hkk hv hn;have:=p.ok W w bs (E k) _ (au E rest) fs as_ hs.keeps ho (eR hs hr) hp;have e:au E (.own k 0::rest)=E k::au E rest:=by simp only[au,hden]
       rw[e];exact uX hs this rfl rfl rfl
  ·exact λhf=>hf.elim
 keys:=λW bs κ h K args hK hx hside=>by
  revert hside;unfold DD;split
  ·rename_i k rest;cases hkk:h k with
   |none=>exact λhf=>hf.elim
   | some e=>
    cases e with
    |row T s n vs=>exact λhf=>hf.elim
    |obj d R=>exact λhf=>hf.elim
    | cells T' vs=>
     cases hr:aC h rest with
     |none=>exact λhf=>hf.elim
     | some q=>
      obtain⟨as_,rs'⟩:=q;simp only[Au];cases hv:aC h vs with
      |none=>exact λhf=>hf.elim
      |some q=>
       obtain⟨fs,rs⟩:=q;simp only[yD];exact λ_=>aL.plain (λk hk=>by cases hk) rfl
  ·exact λhf=>hf.elim
 loc:=λW bs κ h h' args hside hr=>by
  revert hside hr;unfold DD;split
  ·rename_i k rest;cases hkk:h k with
   |none=>exact λhf=>hf.elim
   | some e=>
    cases e with
    |row T s n vs=>exact λhf=>hf.elim
    |obj d R=>exact λhf=>hf.elim
    | cells T' vs=>
     cases hrr:aC h rest with
     |none=>exact λhf=>hf.elim
     | some q=>
      obtain⟨as_,rs'⟩:=q;simp only[Au];cases hv:aC h vs with
      |none=>exact λhf=>hf.elim
      |some q=>
       obtain⟨fs,rs⟩:=q;simp only[yD];intro _ hr;have e1:h' k=some (.cells T' vs):=by rw[hr k sI,hkk]
       have e2:aC h' rest=some (as_,rs'):=du hrr λj hj=>hr j (by simp[hj])
       have e3:aC h' vs=some (fs,rs):=du hv λj hj=>hr j (by simp[hj])
       rw[e1,e2];simp only[Au,e3,yD]
  ·exact λhf=>hf.elim
section
variable (h:Hp)(k:Nat)(T T' : TypeId)(pre:List AV->List AV->Prop)(res:List AV->List AV->Value)
theorem Y8{P:Program}{f:FuncId}(p:Cw P f)(W:World)(bs:List Nat)(κ:Nat)(h:Hp)(l:List SV):p.spec.ev W bs κ h l=DD h p.T (p.pre W bs) (p.res W) l:=rfl
theorem R5(rest:List SV):DD h T pre res (.own k 0::rest)=Au h k T pre res (h k) (aC h rest):=rfl
theorem HT(vs:List SV)(as_:List AV)(rs' : List Nat):Au h k T pre res (some (.cells T' vs)) (some (as_,rs'))=yD k T T' pre res as_ rs' (aC h vs):=rfl
theorem Nf(as_ fs:List AV)(rs' rs:List Nat):yD k T T' pre res as_ rs' (some (fs,rs))=⟨(T' = T/\(k::rs).Nodup)/\pre fs as_,.v (res fs as_),[],none,[],k::(rs++rs')⟩:=rfl
end
section
variable {P:Program}(κ:Nat)(h:Hp)(T:TypeId)
theorem Et(k:Nat)(ik:IntKind)(b:Int):fL P κ h T false true false [.hd k,.v (.int ik b)]=CB P κ k b (P.underlying T) (h k):=rfl
theorem Mg(k:Nat)(b:Int)(e e' : TypeId)(s n:Nat)(vs:List SV):CB P κ k b (some (.slice e)) (some (.row e' s n vs))=vI κ k b e' s n vs (ts P e):=rfl
theorem I5(k:Nat)(b:Int)(e s n s' : Nat)(vs:List SV):vI κ k b e s n vs (some s')=⟨s' = s/\0<=b/\b.toNat<=n,.hd (8*κ),[(k,none),(8*κ,some (.row e s b.toNat (vs.take (b.toNat*s))))],none,[],[k]⟩:=rfl
end
def amY:=aa @Et <| aa @Mg @I5
def amA:=aa @Y8 <| aa @R5 <| aa @HT @Nf
theorem DH{w:World}{u:Value}{fp:List Nat}{T:TypeId}{fs:List AV}(h:bC w u fp T fs):∃ b us,u=.pointer (some ⟨b,0,none⟩)/\fX w us fs/\∀ j (hj:j<us.length),w.cell? ⟨b,j,none⟩=some us[j]:=by
 obtain⟨b,us,h1,h2,h3,_⟩:=h;exact⟨b,us,h1,h3,λj hj=>cell_of h2 j hj⟩
def nQ(w:World)(u:Value)(fp:List Nat)(T:TypeId)(fs:List AV)(xs:List Value):Prop:=
 ∃ b us,u=.pointer (some ⟨b,0,none⟩)/\w.heap[b]?=some (.cells (us++xs).toArray T (0,0))/\fX w us fs/\fp=b::v7 us fs/\(b::v7 us fs).Nodup
def PO(w:World)(u:Value)(fp:List Nat)(T:TypeId)(xs:List Value)(e:Ending)(w' : World):BOut->Prop
 |.ret v fs=>e=.returned v/\(∃ fp',nQ w' u fp' T fs xs/\(∀ b∈fp',b∈fp\/w.heap.size<=b)/\∀ b∈fp',b<w'.heap.size)/\ah w fp w'
 |.pan c _=>e=.panicked c/\ah w fp w'
structure QN (P:Program)(f:FuncId) where
 T:TypeId
 m:Nat
 pre:World->List Nat->List AV->List AV->Prop
 out:World->List AV->List AV->BOut
 enters:∀ args w,(callFunc f args).run P w=.ok (.enter f args) w
 ok:∀ (W w:World) (bs:List Nat) (u:Value) (fp:List Nat) (us:List Value) (fs as_:List AV) (xs:List Value),ah W bs w->nQ w u fp T fs xs->(∀ b∈fp,b<w.heap.size)->(∀ b∈fp,W.heap.size<=b\/b∈bs)->fX w us as_->pre W bs fs as_ ->
  Calls P f (u::us).toArray w λe w' => PO w u fp T xs e w' (out W fs as_)
def Bb(κ k:Nat)(T:TypeId)(ys:List SV)(pre:Prop)(rs rs' : List Nat):BOut->R
 |.ret v fs=>⟨pre/\(k::rs).Nodup/\(∀ j∈rs',j∉k::rs)/\fs.length<=8,.v v,eC rs++(cQ (aZ (8*κ) fs)++[(k,some (.cells T (aN (8*κ) fs++ys)))]),none,[],k::(rs++rs')⟩
 |.pan c v=>⟨pre/\(k::rs).Nodup/\(∀ j∈rs',j∉k::rs),.v v,[],some c,k::rs,k::(rs++rs')⟩
def A9(κ k:Nat)(T T' : TypeId)(ys:List SV)(pre:List AV->List AV->Prop)(out:List AV->List AV->BOut)(as_:List AV)(rs' : List Nat):Option (List AV×List Nat)->R
 |some (fs,rs)=>Bb κ k T ys (T' = T/\pre fs as_) rs rs' (out fs as_)
 |none=>.bad
def AQ(h:Hp)(κ k:Nat)(T:TypeId)(m:Nat)(pre:List AV->List AV->Prop)(out:List AV->List AV->BOut):Option aT->Option (List AV×List Nat)->R
 |some (.cells T' vs),some (as_,rs')=>A9 κ k T T' (vs.drop m) pre out as_ rs' (aC h (vs.take m))
 |_,_=>.bad
def CD(h:Hp)(κ:Nat)(T:TypeId)(m:Nat)(pre:List AV->List AV->Prop)(out:List AV->List AV->BOut):List SV->R
 |.own k 0::rest=>AQ h κ k T m pre out (h k) (aC h rest)
 |_=>.bad
section
variable {P:Program}{W:World}{bs:List Nat}{κ:Nat}{E:Nat->Value}{F:Nat->List Nat}{h:Nat->Option aT}{w:World}{K:Nat->Prop}
theorem uo(hs:ai W bs E F h w){k:Nat}{T:TypeId}{vs ys:List SV}{fs:List AV}{rs:List Nat}(hk:h k=some (.cells T (vs++ys)))(hv:aC h vs=some (fs,rs))(hn:(k::rs).Nodup) :
  nQ w (E k) ((k::rs).flatMap F) T fs (au E ys):=by
 obtain⟨b,h1,h2,h3⟩:=hs.ent k _ hk;obtain⟨g1,g2⟩:=b7 hs hv;have hnd:=rQ hs (ks:=k::rs) hn λj hj=>by
  rcases List.mem_cons.1 hj with rfl|hj
  ·exact⟨_,hk,λ_ _ e=>by cases e⟩
  ·obtain⟨T',s,n,us,h4⟩:=lM hv j hj;exact⟨_,h4,λ_ _ e=>by cases e⟩
 have hfp:(k::rs).flatMap F=b::v7 (au E vs) fs:=by
  rw[List.flatMap_cons,h2,g1];rfl
 refine⟨b,au E vs,h1,by rw[h3,dZ],eR hs hv,hfp,by rw[<- hfp];exact hnd⟩
theorem Rm{w' : World}{k:Nat}{T:TypeId}{vs ys:List SV}{fs fs' : List AV}{rs fp' : List Nat}(hs:ai W bs E F h w)(hK:bU K h)(hk:∀ k,k / 8=κ->¬ K k)
  (hkk:h k=some (.cells T (vs++ys))) (hv:aC h vs=some (fs,rs)) (hlen:fs'.length<=8) (hn:(k::rs).Nodup)
  (ho:nQ w' (E k) fp' T fs' (au E ys)) (h1:∀ b∈fp',b∈(k::rs).flatMap F\/w.heap.size<=b) (h2:∀ b∈fp',b<w'.heap.size) (hkeep:ah w ((k::rs).flatMap F) w') :
  ∃ E' F',(∀ j,j / 8≠κ->E' j=E j)/\ai W bs E' F' (ba h (eC rs++(cQ (aZ (8*κ) fs')++[(k,some (.cells T (aN (8*κ) fs' ++ ys)))]))) w' := by
 obtain⟨b,us,hu,hb,hus,rfl,hnd⟩:=ho;have hl:=iy hus;have hKk:K k:=(hK k _ hkk).1;have hfr:∀ j,8*κ<=j->j<8*κ+8->¬ K j:=λj g1 g2=>hk j oM
 have hkf:k<8*κ\/8*κ+8<=k:=by
  by_cases g1:k<8*κ
  ·exact .inl g1
  ·by_cases g2:8*κ+8<=k
   ·exact .inr g2
   ·exact absurd hKk (hfr k oM oM)
 have hE:∀ j,j / 8≠κ->iI (8*κ) us E j=E j:=λj hj=>jY oM
 have hsome:∀ p∈cQ (aZ (8*κ) fs')++[(k,some (.cells T (aN (8*κ) fs' ++ ys)))],∃ e,p.2=some e:=λp hp=>by
  rcases List.mem_append.1 hp with hp|hp
  ·obtain⟨e,he,_⟩:=fK.1 hp;exact⟨e,by rw[he]⟩
  ·simp at hp;exact⟨_,by rw[hp]⟩
 have hNm:∀ j e,ba (λ_=>none) (cQ (aZ (8*κ) fs')++[(k,some (.cells T (aN (8*κ) fs' ++ ys)))]) j=some e->(j=k/\e=.cells T (aN (8*κ) fs' ++ ys))\/(j≠k/\(j,e)∈aZ (8*κ) fs'):=λj e he=>by
  rw[cx]at he;simp only[ba]at he;by_cases hj:j=k
  ·subst hj;rw[ak]at he;cases he;exact .inl ⟨rfl,rfl⟩
  ·rw[aq _ _ hj]at he;rcases ka (λ_=>(none:Option aT)) (k:=j) (u:=cQ (aZ (8*κ) fs')) with ⟨x,hx,hx'⟩|⟨_,hx'⟩
   ·rw[hx']at he;subst he;obtain⟨e',h3,h4⟩:=fK.1 hx;simp only[Prod.mk.injEq,true_and,Option.some.injEq]at h3;subst h3;exact .inr ⟨hj,h4⟩
   ·rw[hx']at he;cases he
 have hNk:ba (λ_=>none) (cQ (aZ (8*κ) fs')++[(k,some (.cells T (aN (8*κ) fs' ++ ys)))]) k=some (.cells T (aN (8*κ) fs' ++ ys)):=by
  rw[cx];simp[ba,ak]
 have hb' : b∉v7 us fs' := (List.nodup_cons.1 hnd).1;have hnd' : (v7 us fs').Nodup:=(List.nodup_cons.1 hnd).2;refine⟨iI (8*κ) us E,bu (iC (8*κ) us fs' F) k [b],hE,?_⟩
 refine hs.oE hK (k::rs) (ba (λ_=>none) (cQ (aZ (8*κ) fs')++[(k,some (.cells T (aN (8*κ) fs' ++ ys)))])) (λj hj=>?_) (λj hj=>hE j λe=>hk j e hj) (λj e he=>?_) (λi j e e' hij hi hj c hc=>?_) (λj x hx hj=>?_) (λj=>?_) hkeep
 ·rcases List.mem_cons.1 hj with rfl|hj
  ·exact⟨_,hkk⟩
  ·exact (b7 hs hv).2 j hj
 ·rcases hNm j e he with ⟨rfl,rfl⟩|⟨hjk,hm⟩
  ·rw[ak,hE j λe=>hk j e hKk];refine⟨⟨b,hu,rfl,by rw[dZ,gl hus,bS (E' := E) ys λi hi=>hE i λe=>hk i e ((hK _ _ hkk).2 i (by simp only[aT.keys,aQ];exact List.mem_append_right _ hi))];exact hb⟩,λc hc=>?_,λc hc=>h2 c (by simp at hc;simp[hc])⟩;simp only[List.mem_singleton]at hc;subst hc
   rcases h1 c sI with g|g
   ·obtain⟨i,hi,hci⟩:=List.mem_flatMap.1 g;exact .inl ⟨i,hi,hci⟩
   ·exact .inr g
  ·rw[aq _ _ hjk];obtain⟨g1,g2⟩:=iF (E:=E) (F:=F) hus hm (iI (8*κ) us E);refine⟨g1,λc hc=>?_,λc hc=>h2 c (List.mem_cons_of_mem _ (g2 c hc))⟩;rcases h1 c (List.mem_cons_of_mem _ (g2 c hc)) with g|g
   ·obtain⟨i,hi,hci⟩:=List.mem_flatMap.1 g;exact .inl ⟨i,hi,hci⟩
   ·exact .inr g
 ·rcases hNm i e hi with ⟨rfl,rfl⟩|⟨hik,hmi⟩
  ·rcases hNm j e' hj with ⟨rfl,rfl⟩|⟨hjk,hmj⟩
   ·exact absurd rfl hij
   ·rw[ak]at hc;rw[aq _ _ hjk];simp only[List.mem_singleton]at hc;subst hc;exact λhc' => hb' (bN hl hmj c hc')
  ·rw[aq _ _ hik]at hc;rcases hNm j e' hj with ⟨rfl,rfl⟩|⟨hjk,hmj⟩
   ·rw[ak];intro hc';simp only[List.mem_singleton]at hc';subst hc';exact hb' (bN hl hmi c hc)
   ·rw[aq _ _ hjk];exact gi hnd' hmi hmj hl hij c hc
 ·have hjk:j≠k:=λe=>by rw[e,hNk]at hj;cases hj
  rw[aq _ _ hjk];have hKj:=(hK j x hx).1;by_cases g1:j<8*κ
  ·exact jr (.inl g1)
  ·by_cases g2:8*κ+8<=j
   ·exact jr (.inr oM)
   ·exact absurd hKj (hfr j oM oM)
 ·rw[cx,jA _ _ _ hsome,lq];cases hN:ba (λ_=>none) (cQ (aZ (8*κ) fs')++[(k,some (.cells T (aN (8*κ) fs' ++ ys)))]) j with
  |some e=>rfl
  |none=>
   have hjk:j≠k:=λe=>by rw[e,hNk]at hN;cases hN
   simp[hjk]
end
def QN.spec{P:Program}{f:FuncId}(p:QN P f):Spec P f where
 ev:=λW bs κ h args=>CD h κ p.T p.m (p.pre W bs) (p.out W) args
 good:=λW bs κ E F h w K args hs hK hk hx hside=>by
  rw[p.enters];revert hside;unfold CD;split
  ·rename_i k rest;cases hkk:h k with
   |none=>exact λhf=>hf.elim
   | some e=>
    cases e with
    |row T s n vs=>exact λhf=>hf.elim
    |obj d R=>exact λhf=>hf.elim
    | cells T' vs=>
     cases hr:aC h rest with
     |none=>exact λhf=>hf.elim
     | some q=>
      obtain⟨as_,rs'⟩:=q;simp only[AQ];have hsplit:vs=vs.take p.m++vs.drop p.m:=(List.take_append_drop _ _).symm;cases hv:aC h (vs.take p.m) with
      |none=>exact λhf=>hf.elim
      | some q=>
       obtain⟨fs,rs⟩:=q;simp only[A9];have hent:=hs.ent k _ hkk;obtain⟨b,hu,_,_⟩:=hent;have hden:den E (.own k 0)=E k:=by simp[den,hu,base,di]
       have call:∀ hn:(k::rs).Nodup,T' = p.T->p.pre W bs fs as_->Calls P f (au E (.own k 0::rest)).toArray w λe w' => PO w (E k) ((k::rs).flatMap F) p.T (au E (vs.drop p.m)) e w' (p.out W fs as_):=λhn hT hp=>by
        subst hT;have ho:=uo hs (hsplit ▸ hkk) hv hn;have:=p.ok W w bs (E k) _ (au E rest) fs as_ _ hs.keeps ho (λc hc=>?_) (λc hc=>?_) (eR hs hr) hp
        ·simpa only[au,hden] using this
        ·obtain⟨j,hj,hcj⟩:=List.mem_flatMap.1 hc;rcases List.mem_cons.1 hj with rfl|hj
         ·exact hs.lt _ _ hkk c hcj
         ·obtain⟨e,he⟩:=(b7 hs hv).2 j hj;exact hs.lt j e he c hcj
        ·obtain⟨j,hj,hcj⟩:=List.mem_flatMap.1 hc;rcases List.mem_cons.1 hj with rfl|hj
         ·exact hs.mine _ _ hkk c hcj
         ·obtain⟨e,he⟩:=(b7 hs hv).2 j hj;exact hs.mine j e he c hcj
       cases hout:p.out W fs as_ with
       |ret v fs' =>
        simp only[Bb];rintro⟨⟨hT,hp⟩,hn,hd,hlen⟩;have hc:=call hn hT hp;rw[hout]at hc;subst hT;refine hc.mono λe w' he=>?_
        obtain⟨rfl,⟨fp',ho,h1,h2⟩,hkeep⟩:=he;obtain⟨E',F',hE',hs'⟩:=Rm hs hK hk (hsplit ▸ hkk) hv hlen hn ho h1 h2 hkeep;exact⟨rfl,E',F',hE',rfl,hs'⟩
       | pan c _=>
        simp only[Bb];rintro⟨⟨hT,hp⟩,hn,hd⟩;have hc:=call hn hT hp;rw[hout]at hc;refine hc.mono λe w' he=>?_
        obtain⟨rfl,hkeep⟩:=he;refine⟨rfl,F,?_⟩;refine hs.oE hK (k::rs) (λ_=>none) (λj hj=>?_) (λ_ _=>rfl) (λj e he=>by cases he) (λi j e e' _ he=>by cases he) (λ_ _ _ _=>rfl) (λj=>?_) hkeep
        ·rcases List.mem_cons.1 hj with rfl|hj
         ·exact⟨_,hkk⟩
         ·exact (b7 hs hv).2 j hj
        ·simp only[dropKeys]
  ·exact λhf=>hf.elim
 keys:=λW bs κ h K args hK hx hside=>by
  revert hside;unfold CD;split
  ·rename_i k rest;cases hkk:h k with
   |none=>exact λhf=>hf.elim
   | some e=>
    cases e with
    |row T s n vs=>exact λhf=>hf.elim
    |obj d R=>exact λhf=>hf.elim
    | cells T' vs=>
     cases hr:aC h rest with
     |none=>exact λhf=>hf.elim
     | some q=>
      obtain⟨as_,rs'⟩:=q;simp only[AQ];have hsplit:vs=vs.take p.m++vs.drop p.m:=(List.take_append_drop _ _).symm;cases hv:aC h (vs.take p.m) with
      |none=>exact λhf=>hf.elim
      | some q=>
       obtain⟨fs,rs⟩:=q;simp only[A9];cases hout:p.out W fs as_ with
       | ret v fs' =>
        simp only[Bb];rintro⟨_,hn,hd,hlen⟩;refine⟨λj hj=>(by cases hj),λq hq=>?_⟩;simp only[List.mem_append,List.mem_singleton]at hq;rcases hq with hq|hq|rfl
        ·simp only[eC,List.mem_map]at hq;obtain⟨j,hj,rfl⟩:=hq;exact⟨.inl (tM hK hv j hj),λe he=>by cases he⟩
        ·obtain⟨e,h1,h2⟩:=fK.1 hq;obtain⟨h3,h4⟩:=yy hlen h2;refine⟨.inr h3,λe' he' j hj=>?_⟩;rw[h1]at he';simp only[Option.some.injEq]at he';subst he';rw[h4]at hj;cases hj
        ·refine⟨.inl (hK k _ hkk).1,λe' he' j hj=>?_⟩;simp only[Option.some.injEq]at he';subst he';simp only[aT.keys,aQ,List.mem_append]at hj;rcases hj with hj|hj
         ·have:=cR j hj;exact .inr oM
         ·refine .inl ((hK k _ hkk).2 j ?_);simp only[aT.keys];rw[hsplit,aQ];exact List.mem_append_right _ hj
       |pan c _=>
        simp only[Bb];rintro _;exact⟨λj hj=>(by cases hj),λq hq=>by cases hq⟩
  ·exact λhf=>hf.elim
 loc:=λW bs κ h h' args hside hr=>by
  revert hside hr;unfold CD;split
  ·rename_i k rest;cases hkk:h k with
   |none=>exact λhf=>hf.elim
   | some e=>
    cases e with
    |row T s n vs=>exact λhf=>hf.elim
    |obj d R=>exact λhf=>hf.elim
    | cells T' vs=>
     cases hrr:aC h rest with
     |none=>exact λhf=>hf.elim
     | some q=>
      obtain⟨as_,rs'⟩:=q;simp only[AQ];have hsplit:vs=vs.take p.m++vs.drop p.m:=(List.take_append_drop _ _).symm;cases hv:aC h (vs.take p.m) with
      |none=>exact λhf=>hf.elim
      | some q=>
       obtain⟨fs,rs⟩:=q;simp only[A9];have key:∀ r:R,(∀ j∈r.reads,h' j=h j)->r.reads=k::(rs++rs')->h' k=some (.cells T' vs)/\aC h' rest=some (as_,rs')/\aC h' (vs.take p.m)=some (fs,rs):=λr hr he=>by
        rw[he]at hr;exact⟨by rw[hr k sI,hkk],du hrr λj hj=>hr j (by simp[hj]),du hv λj hj=>hr j (by simp[hj])⟩
       intro _ hr;obtain⟨g1,g2,g3⟩:=key _ hr (by cases p.out W fs as_<;>rfl);rw[g1,g2];simp only[AQ,g3,A9]
  ·exact λhf=>hf.elim
section
variable (h:Hp)(κ k:Nat)(T T' : TypeId)(m:Nat)(pre:List AV->List AV->Prop)(out:List AV->List AV->BOut)
theorem Wn{P:Program}{f:FuncId}(p:QN P f)(W:World)(bs:List Nat)(κ:Nat)(h:Hp)(l:List SV):p.spec.ev W bs κ h l=CD h κ p.T p.m (p.pre W bs) (p.out W) l:=rfl
theorem SJ(rest:List SV):CD h κ T m pre out (.own k 0::rest)=AQ h κ k T m pre out (h k) (aC h rest):=rfl
theorem JB(vs:List SV)(as_:List AV)(rs' : List Nat):AQ h κ k T m pre out (some (.cells T' vs)) (some (as_,rs'))=A9 κ k T T' (vs.drop m) pre out as_ rs' (aC h (vs.take m)):=rfl
theorem KG(ys:List SV)(as_:List AV)(rs' : List Nat)(fs:List AV)(rs:List Nat):A9 κ k T T' ys pre out as_ rs' (some (fs,rs))=Bb κ k T ys (T' = T/\pre fs as_) rs rs' (out fs as_):=rfl
theorem Ro(ys:List SV)(q:Prop)(rs rs' : List Nat)(v:Value)(fs:List AV):Bb κ k T ys q rs rs' (.ret v fs)=⟨q/\(k::rs).Nodup/\(∀ j∈rs',j∉k::rs)/\fs.length<=8,.v v,eC rs++(cQ (aZ (8*κ) fs)++[(k,some (.cells T (aN (8*κ) fs++ys)))]),none,[],k::(rs++rs')⟩:=rfl
end
def amx:=aa @Wn <| aa @SJ <| aa @JB <| aa @KG @Ro
def σP(T:TypeId)(fs:List AV)(xs args:List Value):St:=⟨1,bm ((0,.is (.own 0 0))::r8 args 1),aY ((0,.cells T (aN 1 fs++xs.map .v))::aZ 1 fs)⟩
theorem aay{w:World}{nt m:Nat}{T:TypeId}{fs:List AV}{xs:List Value}{u:Value}{fp:List Nat}(us:Array Value)(hlen:fs.length<=7)(ho:nQ w u fp T fs xs)(hlt:∀ b∈fp,b<w.heap.size)(hnt:us.size+1+m=nt) :
  Sat w fp nt ⟨[],[(0,u)]⟩ (σP T fs xs us.toList) { tmps:=(#[u]++us)++Array.replicate m undef,defers:=[] } w:=by
 obtain⟨b,vs,rfl,hb,hvs,rfl,hnd⟩:=ho;have hl:=iy hvs;have hb' : b∉v7 vs fs:=(List.nodup_cons.1 hnd).1;have hnd' : (v7 vs fs).Nodup:=(List.nodup_cons.1 hnd).2
 have at' : ∀ j e,aY ((0,.cells T (aN 1 fs++xs.map .v))::aZ 1 fs) j=some e->(j=0/\e=.cells T (aN 1 fs++xs.map .v))\/(j≠0/\(j,e)∈aZ 1 fs):=λj e he=>by
  simp only[aY]at he;by_cases hj:j=0
  ·subst hj;rw[ak]at he;cases he;exact .inl ⟨rfl,rfl⟩
  ·rw[aq _ _ hj]at he;exact .inr ⟨hj,zB he⟩
 have e0:iI 1 vs (λ_=>.pointer (some ⟨b,0,none⟩)) 0=.pointer (some ⟨b,0,none⟩):=jY (.inl oM)
 refine⟨⟨iI 1 vs (λ_=>.pointer (some ⟨b,0,none⟩)),bu (iC 1 vs fs (λ_=>[])) 0 [b],λt=>?_,⟨λj e he=>?_,λj e he c hc=>?_,λj e he c hc=>?_,λi j e e' hij hi hj c hc=>?_,ah.refl w _⟩,λp hp=>?_⟩,?_,rfl,λp hp=>?_,λt k hk=>?_,λj e he=>?_⟩
 ·show fits _ (bm ((0,.is (.own 0 0))::r8 us.toList 1) t) _;simp only[bm,bu];split
  ·rename_i ht;subst ht;simp only[fits,den,e0,base,di];rw[Array.getD_eq_getD_getElem?,Array.getElem?_append_left (by simp;omega),Array.getElem?_append_left sI];rfl
  ·refine nE _ us.toList 1 t (λt=>((#[Value.pointer (some ⟨b,0,none⟩)]++us)++Array.replicate m undef).getD t undef) λj hj=>?_
   have hj' : j<us.size:=by simpa using hj
   rw[Array.getD_eq_getD_getElem?,Array.getElem?_append_left (by simp;omega),Array.getElem?_append_right sI];simp[Array.getElem?_eq_getElem hj']
 ·rcases at' j e he with ⟨rfl,rfl⟩|⟨hj,hm⟩
  ·exact⟨b,e0,by rw[ak],by rw[dZ,gl hvs,aJ];exact hb⟩
  ·rw[aq _ _ hj];exact (iF hvs hm _).1
 ·rcases at' j e he with ⟨rfl,rfl⟩|⟨hj,hm⟩
  ·rw[ak]at hc;exact hlt c (by simp at hc;simp[hc])
  ·rw[aq _ _ hj]at hc;exact hlt c (List.mem_cons_of_mem _ (bN hl hm c hc))
 ·right;rcases at' j e he with ⟨rfl,rfl⟩|⟨hj,hm⟩
  ·rw[ak]at hc;simp at hc;simp[hc]
  ·rw[aq _ _ hj]at hc;exact List.mem_cons_of_mem _ (bN hl hm c hc)
 ·rcases at' i e hi with ⟨rfl,rfl⟩|⟨hi0,hmi⟩
  ·rcases at' j e' hj with ⟨rfl,rfl⟩|⟨hj0,hmj⟩
   ·exact absurd rfl hij
   ·rw[ak]at hc;rw[aq _ _ hj0];simp only[List.mem_singleton]at hc;subst hc;exact λhc' => hb' (bN hl hmj c hc')
  ·rw[aq _ _ hi0]at hc;rcases at' j e' hj with ⟨rfl,rfl⟩|⟨hj0,hmj⟩
   ·rw[ak];intro hc';simp only[List.mem_singleton]at hc';subst hc';exact hb' (bN hl hmi c hc)
   ·rw[aq _ _ hj0];exact gi hnd' hmi hmj hl hij c hc
 ·simp only[List.mem_singleton]at hp;subst hp;exact e0
 ·simp;omega
 ·simp only[List.mem_singleton]at hp;subst hp;show 0 / 8<1;omega
 ·simp only[σP,bm,bu]at hk;split at hk
  ·simp[FV.keys,SV.keys]at hk;subst hk;show 0 / 8<1;omega
  ·rw[mZ]at hk;cases hk
 ·rcases at' j e he with ⟨rfl,rfl⟩|⟨hj,hm⟩
  ·refine⟨by show 0 / 8<1;omega,λi hi=>?_⟩;simp only[aT.keys,aQ,aA,List.append_nil]at hi;have:=cR i hi;show i / 8<1;omega
  ·have:=ew _ hm;refine⟨by show j / 8<1;simp only at this;omega,λi hi=>?_⟩;rw[this.2.2]at hi;cases hi
theorem Kx{P:Program}{f:FuncId}{fn:Func}{c:Code}{w:World}{nt:Nat}{T:TypeId}{u:Value}{fp:List Nat}{fs:List AV}{xs:List Value}{out:BOut}(us:Array Value)(rs:List ResultVar)
  (hlen:fs.length<=7) (ho:nQ w u fp T fs xs) (hlt:∀ b∈fp,b<w.heap.size)
  (hf:P.funcs[f]?=some fn) (hb:fn.body=some c) (hrs:fn.results.toList=rs) (hnt:us.size+1+(fn.ntmps-(us.size+1))=nt)
  (h:Wp P w fp nt ⟨[],[(0,u)]⟩ c (Fin P rs (λ_ _ x h=>∃ v fs',out=.ret v fs' /\ (∀ E,den E x=v)/\∃ vs ks,h 0=some (.cells T (vs++xs.map .v))/\aC h vs=some (fs',ks)/\(0::ks).Nodup) (λc _=>∃ v,out=.pan c v)) (σP T fs xs us.toList)) :
  Calls P f (#[u]++us) w λe w' => PO w u fp T xs e w' out:=by
 subst hrs;have hsat:=aay (nt:=nt) (m:=fn.ntmps-(us.size+1)) us hlen ho hlt hnt;have hsz:(#[u]++us).size=us.size+1:=by simp;omega
 refine (ki hf hb (by rw[hsz];exact hsat) h).mono λe w' he=>?_
 cases e with
 | returned v' =>
  obtain⟨W',bs',E,F,x,h',hx,⟨v,fs',rfl,hd,vs,ks,h0,hv,hn⟩,rfl,hs,hp⟩:=he;have hs' := hs.back hx;have hE:E 0=u:=hp (0,u) sI;have ho' := uo hs' h0 hv hn;rw[hE,aJ]at ho';refine⟨by rw[hd E],⟨_,ho',λb hb=>?_,λb hb=>?_⟩,hs'.keeps⟩
  ·obtain⟨j,hj,hbj⟩:=List.mem_flatMap.1 hb;have:∃ e,h' j=some e:=by
    rcases List.mem_cons.1 hj with rfl|hj
    ·exact⟨_,h0⟩
    ·exact (b7 hs' hv).2 j hj
   obtain⟨e,he⟩:=this;exact (hs'.mine j e he b hbj).symm
  ·obtain⟨j,hj,hbj⟩:=List.mem_flatMap.1 hb;have:∃ e,h' j=some e:=by
    rcases List.mem_cons.1 hj with rfl|hj
    ·exact⟨_,h0⟩
    ·exact (b7 hs' hv).2 j hj
   obtain⟨e,he⟩:=this;exact hs'.lt j e he b hbj
 |panicked c=>
  obtain⟨W',bs',E,F,h',hx,⟨_,rfl⟩,hs,hp⟩:=he;exact⟨rfl,(hs.back hx).keeps⟩
 |outgrown=>exact he.elim
structure x7 (P:Program)(f:FuncId) where
 T:TypeId
 pre:World->List Nat->List AV->List AV->Prop
 out:World->List AV->List AV->BOut
 enters:∀ args w,(callFunc f args).run P w=.ok (.enter f args) w
 ok:∀ (W w:World) (bs:List Nat) (u:Value) (fp:List Nat) (us:List Value) (fs as_:List AV),ah W bs w->bC w u fp T fs->(∀ b∈fp,b<w.heap.size)->(∀ b∈fp,W.heap.size<=b\/b∈bs)->fX w us as_->pre W bs fs as_ ->
  Calls P f (us++[u]).toArray w λe w' => gN w u fp T e w' (out W fs as_)
def nh(h:Hp)(κ:Nat)(T:TypeId)(pre:List AV->List AV->Prop)(out:List AV->List AV->BOut):List SV->R
 |[x,y,.own k 0]=>gx h κ k T pre out (h k) (aC h [x,y])
 |_=>.bad
theorem EZ(h:Hp)(κ k:Nat)(T:TypeId)(pre:List AV->List AV->Prop)(out:List AV->List AV->BOut)(x y:SV):nh h κ T pre out [x,y,.own k 0]=gx h κ k T pre out (h k) (aC h [x,y]):=by
 cases x<;>rfl
def x7.spec{P:Program}{f:FuncId}(p:x7 P f):Spec P f where
 ev:=λW bs κ h args=>nh h κ p.T (p.pre W bs) (p.out W) args
 good:=λW bs κ E F h w K args hs hK hk hx hside=>by
  rw[p.enters];revert hside;unfold nh;split
  ·rename_i x y k;cases hkk:h k with
   |none=>exact λhf=>hf.elim
   | some e=>
    cases e with
    |row T s n vs=>exact λhf=>hf.elim
    |obj d R=>exact λhf=>hf.elim
    | cells T' vs=>
     cases hr:aC h [x,y] with
     |none=>exact λhf=>hf.elim
     | some q=>
      obtain⟨as_,rs'⟩:=q;simp only[gx];cases hv:aC h vs with
      |none=>exact λhf=>hf.elim
      | some q=>
       obtain⟨fs,rs⟩:=q;simp only[iU];have hent:=hs.ent k _ hkk;obtain⟨b,hu,_,_⟩:=hent;have hden:den E (.own k 0)=E k:=by simp[den,hu,base,di]
       have call:∀ hn:(k::rs).Nodup,T' = p.T->p.pre W bs fs as_->Calls P f (au E [x,y,.own k 0]).toArray w λe w' => gN w (E k) ((k::rs).flatMap F) p.T e w' (p.out W fs as_):=λhn hT hp=>by
        subst hT;have ho:=gh hs hkk hv hn;have:=p.ok W w bs (E k) _ [den E x,den E y] fs as_ hs.keeps ho (λc hc=>?_) (λc hc=>?_) (eR hs hr) hp
        ·simp only[au,hden];exact this
        ·obtain⟨j,hj,hcj⟩:=List.mem_flatMap.1 hc;rcases List.mem_cons.1 hj with rfl|hj
         ·exact hs.lt _ _ hkk c hcj
         ·obtain⟨e,he⟩:=(b7 hs hv).2 j hj;exact hs.lt j e he c hcj
        ·obtain⟨j,hj,hcj⟩:=List.mem_flatMap.1 hc;rcases List.mem_cons.1 hj with rfl|hj
         ·exact hs.mine _ _ hkk c hcj
         ·obtain⟨e,he⟩:=(b7 hs hv).2 j hj;exact hs.mine j e he c hcj
       cases hout:p.out W fs as_ with
       |ret v fs' =>
        simp only[im];rintro⟨⟨hT,hp⟩,hn,hd,hlen⟩;have hc:=call hn hT hp;rw[hout]at hc;subst hT;refine hc.mono λe w' he=>?_
        obtain⟨rfl,⟨fp',ho,h1,h2⟩,hkeep⟩:=he;obtain⟨E',F',hE',hs'⟩:=pJ hs hK hk hkk hv hlen hn ho h1 h2 hkeep;exact⟨rfl,E',F',hE',rfl,hs'⟩
       | pan c _=>
        simp only[im];rintro⟨⟨hT,hp⟩,hn,hd⟩;have hc:=call hn hT hp;rw[hout]at hc;refine hc.mono λe w' he=>?_
        obtain⟨rfl,hkeep⟩:=he;refine⟨rfl,F,?_⟩;refine hs.oE hK (k::rs) (λ_=>none) (λj hj=>?_) (λ_ _=>rfl) (λj e he=>by cases he) (λi j e e' _ he=>by cases he) (λ_ _ _ _=>rfl) (λj=>?_) hkeep
        ·rcases List.mem_cons.1 hj with rfl|hj
         ·exact⟨_,hkk⟩
         ·exact (b7 hs hv).2 j hj
        ·simp only[dropKeys]
  ·exact λhf=>hf.elim
 keys:=λW bs κ h K args hK hx hside=>by
  revert hside;unfold nh;split
  ·rename_i x y k;cases hkk:h k with
   |none=>exact λhf=>hf.elim
   | some e=>
    cases e with
    |row T s n vs=>exact λhf=>hf.elim
    |obj d R=>exact λhf=>hf.elim
    | cells T' vs=>
     cases hr:aC h [x,y] with
     |none=>exact λhf=>hf.elim
     | some q=>
      obtain⟨as_,rs'⟩:=q;simp only[gx];cases hv:aC h vs with
      |none=>exact λhf=>hf.elim
      | some q=>
       obtain⟨fs,rs⟩:=q;simp only[iU];cases hout:p.out W fs as_ with
       | ret v fs' =>
        simp only[im];rintro⟨_,hn,hd,hlen⟩;refine⟨λj hj=>(by cases hj),λq hq=>?_⟩;simp only[List.mem_append,List.mem_singleton]at hq;rcases hq with hq|hq|rfl
        ·simp only[eC,List.mem_map]at hq;obtain⟨j,hj,rfl⟩:=hq;exact⟨.inl (tM hK hv j hj),λe he=>by cases he⟩
        ·obtain⟨e,h1,h2⟩:=fK.1 hq;obtain⟨h3,h4⟩:=yy hlen h2;refine⟨.inr h3,λe' he' j hj=>?_⟩;rw[h1]at he';simp only[Option.some.injEq]at he';subst he';rw[h4]at hj;cases hj
        ·refine⟨.inl (hK k _ hkk).1,λe' he' j hj=>.inr ?_⟩;simp only[Option.some.injEq]at he';subst he';have:=cR j hj;omega
       |pan c _=>
        simp only[im];rintro _;exact⟨λj hj=>(by cases hj),λq hq=>by cases hq⟩
  ·exact λhf=>hf.elim
 loc:=λW bs κ h h' args hside hr=>by
  revert hside hr;unfold nh;split
  ·rename_i x y k;cases hkk:h k with
   |none=>exact λhf=>hf.elim
   | some e=>
    cases e with
    |row T s n vs=>exact λhf=>hf.elim
    |obj d R=>exact λhf=>hf.elim
    | cells T' vs=>
     cases hrr:aC h [x,y] with
     |none=>exact λhf=>hf.elim
     | some q=>
      obtain⟨as_,rs'⟩:=q;simp only[gx];cases hv:aC h vs with
      |none=>exact λhf=>hf.elim
      | some q=>
       obtain⟨fs,rs⟩:=q;simp only[iU];have key:∀ r:R,(∀ j∈r.reads,h' j=h j)->r.reads=k::(rs++rs')->h' k=some (.cells T' vs)/\aC h' [x,y]=some (as_,rs')/\aC h' vs=some (fs,rs):=λr hr he=>by
        rw[he]at hr;exact⟨by rw[hr k sI,hkk],du hrr λj hj=>hr j (by simp[hj]),du hv λj hj=>hr j (by simp[hj])⟩
       intro _ hr;obtain⟨g1,g2,g3⟩:=key _ hr (by cases p.out W fs as_<;>rfl);rw[g1,g2];simp only[gx,g3,iU]
  ·exact λhf=>hf.elim
theorem LV{P:Program}{f:FuncId}(p:x7 P f)(W:World)(bs:List Nat)(κ:Nat)(h:Hp)(l:List SV):p.spec.ev W bs κ h l=nh h κ p.T (p.pre W bs) (p.out W) l:=rfl
def amt:=aa @LV @EZ
def σB3(T:TypeId)(fs:List AV)(x y:Value):St:=⟨1,bm ((2,.is (.own 0 0))::r8 [x,y] 0),aY ((0,.cells T (aN 1 fs))::aZ 1 fs)⟩
theorem Iu{w:World}{nt m:Nat}{T:TypeId}{fs:List AV}{u:Value}{fp:List Nat}(x y:Value)(hlen:fs.length<=7)(ho:bC w u fp T fs)(hlt:∀ b∈fp,b<w.heap.size)(hnt:3+m=nt) :
  Sat w fp nt ⟨[],[(0,u)]⟩ (σB3 T fs x y) { tmps:=#[x,y,u]++Array.replicate m undef,defers:=[] } w:=by
 obtain⟨b,vs,rfl,hb,hvs,rfl,hnd⟩:=ho;have hl:=iy hvs;have hb' : b∉v7 vs fs:=(List.nodup_cons.1 hnd).1;have hnd' : (v7 vs fs).Nodup:=(List.nodup_cons.1 hnd).2;have at' : ∀ j e,aY ((0,.cells T (aN 1 fs))::aZ 1 fs) j=some e->(j=0/\e=.cells T (aN 1 fs))\/(j≠0/\(j,e)∈aZ 1 fs):=λj e he=>by
  simp only[aY]at he;by_cases hj:j=0
  ·subst hj;rw[ak]at he;cases he;exact .inl ⟨rfl,rfl⟩
  ·rw[aq _ _ hj]at he;exact .inr ⟨hj,zB he⟩
 have e0:iI 1 vs (λ_=>.pointer (some ⟨b,0,none⟩)) 0=.pointer (some ⟨b,0,none⟩):=jY (.inl oM)
 refine⟨⟨iI 1 vs (λ_=>.pointer (some ⟨b,0,none⟩)),bu (iC 1 vs fs (λ_=>[])) 0 [b],λt=>?_,⟨λj e he=>?_,λj e he c hc=>?_,λj e he c hc=>?_,λi j e e' hij hi hj c hc=>?_,ah.refl w _⟩,λp hp=>?_⟩,?_,rfl,λp hp=>?_,λt k hk=>?_,λj e he=>?_⟩
 ·show fits _ (bm ((2,.is (.own 0 0))::r8 [x,y] 0) t) _;simp only[bm,bu];split
  ·rename_i ht;subst ht;simp only[fits,den,e0,base,di];rw[Array.getD_eq_getD_getElem?,Array.getElem?_append_left sI];rfl
  ·refine nE _ [x,y] 0 t (λt=>((#[x,y,Value.pointer (some ⟨b,0,none⟩)])++Array.replicate m undef).getD t undef) λj hj=>?_
   have hj' : j<2:=by simpa using hj
   rw[Array.getD_eq_getD_getElem?,Array.getElem?_append_left (by simp;omega)]
   match j,hj' with
   |0,_=>rfl
   |1,_=>rfl
 ·rcases at' j e he with ⟨rfl,rfl⟩|⟨hj,hm⟩
  ·exact⟨b,e0,by rw[ak],by rw[gl hvs];exact hb⟩
  ·rw[aq _ _ hj];exact (iF hvs hm _).1
 ·rcases at' j e he with ⟨rfl,rfl⟩|⟨hj,hm⟩
  ·rw[ak]at hc;exact hlt c (by simp at hc;simp[hc])
  ·rw[aq _ _ hj]at hc;exact hlt c (List.mem_cons_of_mem _ (bN hl hm c hc))
 ·right;rcases at' j e he with ⟨rfl,rfl⟩|⟨hj,hm⟩
  ·rw[ak]at hc;simp at hc;simp[hc]
  ·rw[aq _ _ hj]at hc;exact List.mem_cons_of_mem _ (bN hl hm c hc)
 ·rcases at' i e hi with ⟨rfl,rfl⟩|⟨hi0,hmi⟩
  ·rcases at' j e' hj with ⟨rfl,rfl⟩|⟨hj0,hmj⟩
   ·exact absurd rfl hij
   ·rw[ak]at hc;rw[aq _ _ hj0];simp only[List.mem_singleton]at hc;subst hc;exact λhc' => hb' (bN hl hmj c hc')
  ·rw[aq _ _ hi0]at hc;rcases at' j e' hj with ⟨rfl,rfl⟩|⟨hj0,hmj⟩
   ·rw[ak];intro hc';simp only[List.mem_singleton]at hc';subst hc';exact hb' (bN hl hmi c hc)
   ·rw[aq _ _ hj0];exact gi hnd' hmi hmj hl hij c hc
 ·simp only[List.mem_singleton]at hp;subst hp;exact e0
 ·simp;omega
 ·simp only[List.mem_singleton]at hp;subst hp;show 0 / 8<1;omega
 ·simp only[σB3,bm,bu]at hk;split at hk
  ·simp[FV.keys,SV.keys]at hk;subst hk;show 0 / 8<1;omega
  ·rw[mZ]at hk;cases hk
 ·rcases at' j e he with ⟨rfl,rfl⟩|⟨hj,hm⟩
  ·refine⟨by show 0 / 8<1;omega,λi hi=>?_⟩;have:=cR i hi;show i / 8<1;omega
  ·have:=ew _ hm;refine⟨by show j / 8<1;simp only at this;omega,λi hi=>?_⟩;rw[this.2.2]at hi;cases hi
theorem mE{P:Program}{f:FuncId}{fn:Func}{c:Code}{w:World}{nt:Nat}{T:TypeId}{u:Value}{fp:List Nat}{fs:List AV}{out:BOut}(x y:Value)(rs:List ResultVar)
  (hlen:fs.length<=7) (ho:bC w u fp T fs) (hlt:∀ b∈fp,b<w.heap.size)
  (hf:P.funcs[f]?=some fn) (hb:fn.body=some c) (hrs:fn.results.toList=rs) (hnt:3+(fn.ntmps-3)=nt)
  (h:Wp P w fp nt ⟨[],[(0,u)]⟩ c (Fin P rs (λ_ _ x h=>∃ v fs',out=.ret v fs' /\ (∀ E,den E x=v)/\∃ vs ks,h 0=some (.cells T vs)/\aC h vs=some (fs',ks)/\(0::ks).Nodup) (λc _=>∃ v,out=.pan c v)) (σB3 T fs x y)) :
  Calls P f #[x,y,u] w λe w' => gN w u fp T e w' out:=by
 subst hrs;have hsat:=Iu (nt:=nt) (m:=fn.ntmps-3) x y hlen ho hlt hnt;refine (ki hf hb hsat h).mono λe w' he=>?_
 cases e with
 | returned v' =>
  obtain⟨W',bs',E,F,x',h',hx,⟨v,fs',rfl,hd,vs,ks,h0,hv,hn⟩,rfl,hs,hp⟩:=he;have hs' := hs.back hx;have hE:E 0=u:=hp (0,u) sI;have ho' := gh hs' h0 hv hn;rw[hE]at ho';refine⟨by rw[hd E],⟨_,ho',λb hb=>?_,λb hb=>?_⟩,hs'.keeps⟩
  ·obtain⟨j,hj,hbj⟩:=List.mem_flatMap.1 hb;have:∃ e,h' j=some e:=by
    rcases List.mem_cons.1 hj with rfl|hj
    ·exact⟨_,h0⟩
    ·exact (b7 hs' hv).2 j hj
   obtain⟨e,he⟩:=this;exact (hs'.mine j e he b hbj).symm
  ·obtain⟨j,hj,hbj⟩:=List.mem_flatMap.1 hb;have:∃ e,h' j=some e:=by
    rcases List.mem_cons.1 hj with rfl|hj
    ·exact⟨_,h0⟩
    ·exact (b7 hs' hv).2 j hj
   obtain⟨e,he⟩:=this;exact hs'.lt j e he b hbj
 |panicked c=>
  obtain⟨W',bs',E,F,h',hx,⟨_,rfl⟩,hs,hp⟩:=he;exact⟨rfl,(hs.back hx).keeps⟩
 |outgrown=>exact he.elim
section
variable {P:Program}{W:World}{bs:List Nat}{E:Nat->Value}{F:Nat->List Nat}{h:Hp}{w:World}
theorem JJ(m:Nat->Src){H:List (Nat×aT)}(hs:ai W bs E F h w)(hh:tN m h H)(hn:(dQ m H).Nodup):ai W bs (nP E m) (ma F m) (aY H) w:=by
 have at' : ∀ k e,aY H k=some e->mz m h k e:=λk e he=>zF hh _ (cz he)
 have key:∀ k e j,aY H k=some e->m k=.key j->h j=some (fU m e):=λk e j he hj=>by
  have:=at' k e he;simpa only[mz,hj] using this
 refine⟨λk e he=>?_,λk e he b hb=>?_,λk e he b hb=>?_,λk k' e e' hne he he' b hb=>?_,hs.keeps⟩
 ·cases hm:m k with
  |key j=>
   simp only[nP,ma,hm];exact yI (hs.ent j _ (key k e j he hm))
  | nil=>
   have:=at' k e he;simp only[mz,hm]at this;cases e with
   |row T s n vs=>
    obtain⟨h0,rfl,rfl⟩:=this;simp only[nP,ma,hm];exact⟨⟨by simp[au],.inl ⟨rfl,rfl⟩⟩,rfl⟩
   |cells T vs=>exact this.elim
   |obj d R=>exact this.elim
 ·cases hm:m k with
  |key j=>simp only[ma,hm]at hb;exact hs.lt j _ (key k e j he hm) b hb
  |nil=>simp only[ma,hm]at hb;cases hb
 ·cases hm:m k with
  |key j=>simp only[ma,hm]at hb;exact hs.mine j _ (key k e j he hm) b hb
  |nil=>simp only[ma,hm]at hb;cases hb
 ·cases hm:m k with
  |nil=>simp only[ma,hm]at hb;cases hb
  | key i=>
   cases hm' : m k' with
   |nil=>simp only[ma,hm'];simp
   |key j=>
    simp only[ma,hm,hm']at hb ⊢;exact hs.apart i j _ _ (sd hn _ (cz he) _ (cz he') hne i j hm hm') (key k e i he hm) (key k' e' j he' hm') b hb
mutual
theorem Bf{m:Nat->Src}{j:Nat}:∀ x:SV,j∈(eZ m x).keys->∃ k∈x.keys,m k=.key j
 |.v x,h=>by simp[eZ,SV.keys]at h
 |.own k o,h=>by
  simp only[eZ]at h;cases hm:m k with
  |key i=>rw[hm]at h;simp[SV.keys]at h;exact⟨k,by simp[SV.keys],by rw[hm,h]⟩
  |nil=>rw[hm]at h;simp[SV.keys]at h
 |.hd k,h=>by
  simp only[eZ]at h;cases hm:m k with
  |key i=>rw[hm]at h;simp[SV.keys]at h;exact⟨k,by simp[SV.keys],by rw[hm,h]⟩
  |nil=>rw[hm]at h;simp[SV.keys]at h
 |.agg l,h=>by
  simp only[eZ,SV.keys]at h ⊢;exact jL l h
 |.tup l,h=>by
  simp only[eZ,SV.keys]at h ⊢;exact jL l h
 |.ifc t x,h=>by
  simp only[eZ,SV.keys]at h ⊢;exact Bf x h
 |.part k i,h=>by
  simp only[eZ]at h;cases hm:m k with
  |key i=>rw[hm]at h;simp[SV.keys]at h;exact⟨k,by simp[SV.keys],by rw[hm,h]⟩
  |nil=>rw[hm]at h;simp[SV.keys]at h
 | .fn f a c,h=>by
  simp only[eZ,SV.keys,List.mem_append]at h ⊢;rcases h with h|h
  ·obtain⟨k,hk,hm⟩:=jL a h;exact⟨k,.inl hk,hm⟩
  ·obtain⟨k,hk,hm⟩:=jL c h;exact⟨k,.inr hk,hm⟩
theorem jL{m:Nat->Src}{j:Nat}:∀ l:List SV,j∈aw (fV m l)->∃ k∈aw l,m k=.key j
 |[],h=>by simp[fV,aw]at h
 | x::r,h=>by
  simp only[fV,aw,List.mem_append]at h ⊢;rcases h with h|h
  ·obtain⟨k,hk,hm⟩:=Bf x h;exact⟨k,.inl hk,hm⟩
  ·obtain⟨k,hk,hm⟩:=jL r h;exact⟨k,.inr hk,hm⟩
end
theorem Q0{m:Nat->Src}{j:Nat}(e:aT)(h:j∈(fU m e).keys):∃ k∈e.keys,m k=.key j:=by
 cases e with
 |cells T vs=>exact jL vs h
 |row T s n vs=>exact jL vs h
 |obj d R=>cases h
theorem Ez{m:Nat->Src}{u:Value}{fp:List Nat}{e:aT}(h:a6 (nP E m) u fp w e):a6 E u fp w (fU m e):=by
 cases e with
 |cells T vs=>simpa [a6,fU,hH] using h
 |row T s n vs=>simpa [a6,fU,hH] using h
 |obj d R=>exact h
def sb(κ:Nat)(m:List Nat)(k:Nat):Nat:=if k<8 then m.getD k 0 else 8*κ+(k-8)
def mp(κ:Nat)(m:List Nat)(k:Nat):Src:=.key (sb κ m k)
def fresh(k:Nat):Prop:=8<=k/\k<16
def kg(κ:Nat)(m:List Nat)(h:Hp):List (Nat×aT)->Prop
 |[]=>True
 |(k,e)::r=>h (sb κ m k)=some (fU (mp κ m) e)/\kg κ m h r
def eV(κ:Nat)(m:List Nat):List (Nat×aT)->List Nat
 |[]=>[]
 |(k,_)::r=>sb κ m k::eV κ m r
def gO(κ:Nat)(m:List Nat):List (Nat×aT)->List (Nat×Option aT)
 |[]=>[]
 |(k,e)::r=>(sb κ m k,some (fU (mp κ m) e))::gO κ m r
def qk(κ:Nat)(m:List Nat)(h:Hp)(args args' : List SV)(L L' : List (Nat×aT))(val:SV)(pre:Prop):R:=
 ⟨(args=fV (mp κ m) args' /\ kg κ m h L/\(eV κ m L).Nodup)/\pre,eZ (mp κ m) val,eC (eV κ m L)++gO κ m L',none,[],eV κ m L⟩
theorem Pp{κ:Nat}{m:List Nat}:∀ {L:List (Nat×aT)},kg κ m h L->tN (mp κ m) h L
 |[],_=>trivial
 |(k,e)::r,hl=>⟨hl.1,Pp hl.2⟩
theorem GG{κ:Nat}{m:List Nat}:∀ {L:List (Nat×aT)},dQ (mp κ m) L=eV κ m L
 |[]=>rfl
 |(k,e)::r=>by
  simp only[dQ,eV,mp,List.singleton_append];rw[<- GG (κ:=κ) (m:=m) (L:=r)]
theorem nB{κ:Nat}{m:List Nat}:∀ {L:List (Nat×aT)} {k:Nat} {e:aT},kg κ m h L->(k,e)∈L->h (sb κ m k)=some (fU (mp κ m) e)
 |(k0,e0)::r,k,e,hl,hm=>by
  rcases List.mem_cons.1 hm with hm|hm
  ·cases hm;exact hl.1
  ·exact nB hl.2 hm
theorem ju{κ:Nat}{m:List Nat}{j:Nat}:∀ {L:List (Nat×aT)},j∈eV κ m L ↔ ∃ p∈L,sb κ m p.1=j
 |[]=>by simp[eV]
 | (k,e)::r=>by
  simp only[eV,List.mem_cons,ju (L:=r)];constructor
  ·rintro (rfl|⟨p,hp,rfl⟩)
   ·exact⟨(k,e),.inl rfl,rfl⟩
   ·exact⟨p,.inr hp,rfl⟩
  ·rintro⟨p,rfl|hp,rfl⟩
   ·exact .inl rfl
   ·exact .inr ⟨p,hp,rfl⟩
theorem CL{κ:Nat}{m:List Nat}:∀ {L:List (Nat×aT)},(eV κ m L).Nodup->∀ p∈L,∀ q∈L,sb κ m p.1=sb κ m q.1->p.1=q.1
 | (k,e)::r,hn,p,hp,q,hq,he=>by
  obtain⟨h1,h2⟩:=List.nodup_cons.1 hn;rcases List.mem_cons.1 hp with rfl|hp'
  ·rcases List.mem_cons.1 hq with rfl|hq'
   ·rfl
   ·exact absurd (ju.2 ⟨q,hq',he.symm⟩) h1
  ·rcases List.mem_cons.1 hq with rfl|hq'
   ·exact absurd (ju.2 ⟨p,hp',he⟩) h1
   ·exact CL h2 p hp' q hq' he
theorem lv{κ:Nat}{m:List Nat}{q:Nat×Option aT}:∀ {L:List (Nat×aT)},q∈gO κ m L ↔ ∃ p∈L,q=(sb κ m p.1,some (fU (mp κ m) p.2))
 |[]=>by simp[gO]
 | (k,e)::r=>by
  simp only[gO,List.mem_cons,lv (L:=r)];constructor
  ·rintro (rfl|⟨p,hp,rfl⟩)
   ·exact⟨(k,e),.inl rfl,rfl⟩
   ·exact⟨p,.inr hp,rfl⟩
  ·rintro⟨p,rfl|hp,rfl⟩
   ·exact .inl rfl
   ·exact .inr ⟨p,hp,rfl⟩
theorem PT:∀ {L:List (Nat×aT)} {k:Nat} {e:aT},(L.map (·.1)).Nodup->(k,e)∈L->aY L k=some e
 | (k0,e0)::r,k,e,hn,hm=>by
  simp only[List.map_cons,List.nodup_cons]at hn;simp only[aY];rcases List.mem_cons.1 hm with hm|hm
  ·cases hm;rw[ak]
  ·have:k≠k0:=λe' => hn.1 (e' ▸ List.mem_map.2 ⟨_,hm,rfl⟩)
   rw[aq _ _ this];exact PT hn.2 hm
end
structure mo (P:Program)(f:FuncId) where
 args:List SV
 L:List (Nat×aT)
 val:SV
 L' : List (Nat×aT)
 eo:List Nat
 pre:World->List Nat->Prop
 low:∀ p∈L,p.1<8
 kept:∀ k∈eo,∃ e,(k,e)∈L
 vk:∀ k∈val.keys,k∈eo\/fresh k
 lk:∀ p∈L',(p.1∈eo\/fresh p.1)/\∀ k∈p.2.keys,k∈eo\/fresh k
 nd:(L'.map (·.1)).Nodup
 enters:∀ args w,(callFunc f args).run P w=.ok (.enter f args) w
 ok:∀ (W w:World) (bs fp:List Nat) (E:Nat->Value) (F:Nat->List Nat),ah W bs w->(∀ b∈fp,W.heap.size<=b\/b∈bs)->ai w fp E F (aY L) w->pre W bs ->
  Calls P f (au E args).toArray w λe w' => ∃ E' F',e=.returned (den E' val)/\(∀ k∈eo,E' k=E k)/\ai w fp E' F' (aY L') w'
theorem qE{κ k:Nat}{m:List Nat}(h:fresh k):sb κ m k / 8=κ:=by
 obtain⟨h1,h2⟩:=h;unfold sb;rw[if_neg oM];omega
def mo.spec{P:Program}{f:FuncId}(p:mo P f)(m:List Nat):Spec P f where
 ev:=λW bs κ h args=>qk κ m h args p.args p.L p.L' p.val (p.pre W bs)
 good:=λW bs κ E F h w K args hs hK hk hx hside=>by
  rw[p.enters];obtain⟨⟨rfl,hl,hn⟩,hp⟩:=hside;have hmK:∀ k∈p.eo,K (sb κ m k):=λk hk' => by
   obtain⟨e,he⟩:=p.kept k hk';exact (hK _ _ (nB hl he)).1
  have h0:=JJ (mp κ m) hs (Pp hl) (by rw[GG];exact hn);have h1:ai w ((eV κ m p.L).flatMap F) (nP E (mp κ m)) (ma F (mp κ m)) (aY p.L) w:=⟨h0.ent,h0.lt,λk e he b hb=>.inr (List.mem_flatMap.2 ⟨sb κ m k,ju.2 ⟨_,cz he,rfl⟩,hb⟩),h0.apart,ah.refl w _⟩
  have mine:∀ b∈(eV κ m p.L).flatMap F,W.heap.size<=b\/b∈bs:=λb hb=>by
   obtain⟨j,hj,hbj⟩:=List.mem_flatMap.1 hb;obtain⟨q,hq,rfl⟩:=ju.1 hj;exact hs.mine _ _ (nB hl hq) b hbj
  have S:∀ k,(k∈p.eo\/fresh k)->∀ k',(k' ∈ p.eo\/fresh k')->sb κ m k=sb κ m k' -> k=k' := λk h1 k' h2 he=>by
   rcases h1 with h1|h1
   ·rcases h2 with h2|h2
    ·obtain⟨e,hm⟩:=p.kept k h1;obtain⟨e',hm'⟩:=p.kept k' h2;exact CL hn _ hm _ hm' he
    ·exact absurd (hmK k h1) (hk _ (by rw[he];exact qE h2))
   ·rcases h2 with h2|h2
    ·exact absurd (hmK k' h2) (hk _ (by rw[<- he];exact qE h1))
    ·obtain⟨a1,a2⟩:=h1;obtain⟨b1,b2⟩:=h2;unfold sb at he;rw[if_neg oM,if_neg oM]at he;omega
  simp only[qk,Good,oh];rw[hH];refine (p.ok W w bs _ _ _ hs.keeps mine h1 hp).mono λe w' he=>?_
  obtain⟨E',F',rfl,hE',hs'⟩:=he
  classical
  let bk:Nat->Option Nat:=λj=>if hj:∃ k,(k∈p.eo\/fresh k)/\sb κ m k=j then some hj.choose else none
  have bk1:∀ k,(k∈p.eo\/fresh k)->bk (sb κ m k)=some k:=λk hk' => by
   have hex:∃ k',(k' ∈ p.eo\/fresh k')/\sb κ m k' = sb κ m k:=⟨k,hk',rfl⟩;have:=hex.choose_spec;simp only[bk,dif_pos hex,Option.some.injEq];exact S _ this.1 _ hk' this.2
  have bk2:∀ j k,bk j=some k->(k∈p.eo\/fresh k)/\sb κ m k=j:=λj k hj=>by
   simp only[bk]at hj;split at hj
   ·rename_i hex;cases hj;exact hex.choose_spec
   ·cases hj
  let E2:Nat->Value:=λj=>match bk j with|some k=>E' k|none=>E j
  let F2:Nat->List Nat:=λj=>match bk j with|some k=>if k∈p.L'.map (·.1) then F' k else F j|none=>F j
  have e2:∀ k,(k∈p.eo\/fresh k)->E2 (sb κ m k)=E' k:=λk hk' => by simp only[E2,bk1 k hk']
  have agree:∀ j,j / 8≠κ->E2 j=E j:=λj hj=>by
   simp only[E2];cases hb:bk j with
   |none=>rfl
   |some k=>
    obtain⟨h2,rfl⟩:=bk2 j k hb;rcases h2 with h2|h2
    ·simp only;rw[hE' k h2];rfl
    ·exact absurd (qE h2) hj
  have src2:∀ k,(k∈p.eo\/fresh k)->nP E2 (mp κ m) k=E' k:=λk hk' => e2 k hk'
  refine⟨trivial,E2,F2,agree,?_,?_⟩
  ·rw[mn];exact nA _ λk hk' => (src2 k (p.vk k hk')).symm
  have hN:∀ j e,ba (λ_=>none) (gO κ m p.L') j=some e->∃ q∈p.L',j=sb κ m q.1/\e=fU (mp κ m) q.2/\bk j=some q.1/\F2 j=F' q.1/\aY p.L' q.1=some q.2:=λj e he=>by
   rcases ka (λ_=>(none:Option aT)) (k:=j) (u:=gO κ m p.L') with ⟨x,hx,hx'⟩|⟨_,hx'⟩
   ·rw[hx']at he;subst he;obtain⟨q,hq,hqe⟩:=lv.1 hx;simp only[Prod.mk.injEq,Option.some.injEq]at hqe;obtain⟨rfl,rfl⟩:=hqe;have hb:=bk1 q.1 (p.lk q hq).1;exact⟨q,hq,rfl,rfl,hb,by simp only[F2,hb];rw[if_pos (List.mem_map.2 ⟨q,hq,rfl⟩)],PT p.nd hq⟩
   ·rw[hx']at he;cases he
  have hN0:∀ j,ba (λ_=>none) (gO κ m p.L') j=none->F2 j=F j:=λj he=>by
   simp only[F2];cases hb:bk j with
   |none=>rfl
   | some k=>
    simp only;split
    ·rename_i hm;obtain⟨q,hq,rfl⟩:=List.mem_map.1 hm;obtain⟨_,rfl⟩:=bk2 j _ hb;rcases ka (λ_=>(none:Option aT)) (k:=sb κ m q.1) (u:=gO κ m p.L') with ⟨x,hx,hx'⟩|⟨hx,_⟩
     ·rw[hx']at he;subst he;obtain⟨q',_,hqe⟩:=lv.1 hx;simp at hqe
     ·exact absurd (List.mem_map.2 ⟨_,lv.2 ⟨q,hq,rfl⟩,rfl⟩) hx
    ·rfl
  refine hs.oE hK (eV κ m p.L) (ba (λ_=>none) (gO κ m p.L')) (λj hj=>?_) (λj hj=>agree j λe=>hk j e hj) (λj e he=>?_) (λi j e e' hij hi hj b hb=>?_) (λj x hx hj=>hN0 j hj) (λj=>?_) hs'.keeps
  ·obtain⟨q,hq,rfl⟩:=ju.1 hj;exact⟨_,nB hl hq⟩
  ·obtain⟨q,hq,rfl,rfl,hb,hF,hq'⟩:=hN j e he;rw[hF,e2 q.1 (p.lk q hq).1];refine⟨?_,λb hb=>?_,λb hb=>hs'.lt q.1 _ hq' b hb⟩
   ·refine Ez ?_;exact iY (λk hk' => (src2 k ((p.lk q hq).2 k hk')).symm) (hs'.ent q.1 _ hq')
   ·rcases hs'.mine q.1 _ hq' b hb with g|g
    ·exact .inr g
    ·obtain⟨j,hj,hbj⟩:=List.mem_flatMap.1 g;exact .inl ⟨j,hj,hbj⟩
  ·obtain⟨q,hq,rfl,rfl,_,hF,hq'⟩:=hN i e hi;obtain⟨r,hr,rfl,rfl,_,hF',hr'⟩:=hN j e' hj;rw[hF]at hb;rw[hF'];exact hs'.apart q.1 r.1 _ _ (λe=>hij (by rw[e])) hq' hr' b hb
  ·have hsome:∀ q∈gO κ m p.L',∃ e,q.2=some e:=λq hq=>by
    obtain⟨r,_,rfl⟩:=lv.1 hq;exact⟨_,rfl⟩
   rw[cx,jA _ _ _ hsome,lq];cases ba (λ_=>none) (gO κ m p.L') j with
   |some e=>rfl
   |none=>rfl
 keys:=λW bs κ h K args hK hx hside=>by
  obtain⟨⟨rfl,hl,hn⟩,hp⟩:=hside;have hmK:∀ k,(k∈p.eo\/fresh k)->K (sb κ m k)\/sb κ m k / 8=κ:=λk hk' => by
   rcases hk' with hk'|hk'
   ·obtain⟨e,he⟩:=p.kept k hk';exact .inl (hK _ _ (nB hl he)).1
   ·exact .inr (qE hk')
  refine⟨λj hj=>?_,λq hq=>?_⟩
  ·obtain⟨k,hk,hm⟩:=Bf _ hj;cases hm;exact hmK k (p.vk k hk)
  ·rcases List.mem_append.1 hq with hq|hq
   ·simp only[eC,List.mem_map]at hq;obtain⟨j,hj,rfl⟩:=hq;obtain⟨r,hr,rfl⟩:=ju.1 hj;exact⟨.inl (hK _ _ (nB hl hr)).1,λe he=>by cases he⟩
   ·obtain⟨r,hr,rfl⟩:=lv.1 hq;refine⟨hmK _ (p.lk r hr).1,λe he j hj=>?_⟩;simp only[Option.some.injEq]at he;subst he;obtain⟨k,hk,hm⟩:=Q0 _ hj;cases hm;exact hmK k ((p.lk r hr).2 k hk)
 loc:=λW bs κ h h' args hside hr=>by
  have:∀ L:List (Nat×aT),(∀ k∈eV κ m L,h' k=h k)->kg κ m h' L=kg κ m h L:=λL=>by
   induction L with
   |nil=>exact λ_=>rfl
   |cons q r ih=>
    intro hq;simp only[kg];rw[hq _ (by simp[eV]),ih λk hk=>hq k (by simp[eV,hk])]
  simp only[qk];rw[this p.L hr]
theorem o4{P:Program}{f:FuncId}(p:mo P f)(m:List Nat)(W:World)(bs:List Nat)(κ:Nat)(h:Hp)(l:List SV):(p.spec m).ev W bs κ h l=qk κ m h l p.args p.L p.L' p.val (p.pre W bs):=rfl
def jV:List SV->Nat->List (Nat×FV)
 |[],_=>[]
 |x::r,i=>(i,.is x)::jV r (i+1)
theorem DR(E:Nat->Value):∀ (l:List SV) (i t:Nat) (tm:Nat->Value),(∀ j (h:j<(au E l).length),tm (i+j)=(au E l)[j])->fits E (bm (jV l i) t) (tm t)
 |[],_,_,_,_=>trivial
 | x::r,i,t,tm,h=>by
  simp only[jV,bm,bu];split
  ·rename_i ht;subst ht;have:=h 0 (by simp[au]);simpa [fits,au] using this
  ·exact DR E r (i+1) t tm λj hj=>by
    have:=h (j+1) (by simp only[au,List.length_cons];omega);rw[show i+1+j=i+(j+1) by omega];simpa [au] using this
def O0(eo:List Nat)(val:SV)(L' : List (Nat×aT))(x:SV)(h:Hp):Prop:=∃ m:Nat->Src,x=eZ m val/\tN m h L' /\ (dQ m L').Nodup/\∀ k∈eo,m k=.key k
theorem ix{P:Program}{f:FuncId}{fn:Func}{c:Code}{w:World}{fp:List Nat}{E:Nat->Value}{F:Nat->List Nat}{nt:Nat}{eo:List Nat}{args:List SV}{L L' : List (Nat×aT)}{val:SV}(rs:List ResultVar)
  (hs:ai w fp E F (aY L) w) (hkb:pH 1 (jV args 0) L) (hkp:∀ k∈eo,k<8)
  (hf:P.funcs[f]?=some fn) (hb:fn.body=some c) (hrs:fn.results.toList=rs) (hnt:args.length+(fn.ntmps-args.length)=nt)
  (h:Wp P w fp nt ⟨[],eo.map λk=>(k,E k)⟩ c (Fin P rs (λ_ _ x h' => O0 eo val L' x h') (λ_ _=>False)) ⟨1,bm (jV args 0),aY L⟩) :
  Calls P f (au E args).toArray w λe w' => ∃ E' F',e=.returned (den E' val)/\(∀ k∈eo,E' k=E k)/\ai w fp E' F' (aY L') w' := by
 subst hrs;have hsz:(au E args).toArray.size=args.length:=by simp[aD]
 have hsat:Sat w fp nt ⟨[],eo.map λk=>(k,E k)⟩ ⟨1,bm (jV args 0),aY L⟩ { tmps:=(au E args).toArray++Array.replicate (fn.ntmps-(au E args).toArray.size) undef,defers:=[] } w:=by
  refine⟨⟨E,F,λt=>?_,hs,λp hp=>?_⟩,by simp[aD];omega,rfl,λp hp=>?_,λt k hk=>?_,λk e he=>?_⟩
  ·refine DR E args 0 t (λt=>((au E args).toArray++Array.replicate (fn.ntmps-(au E args).toArray.size) undef).getD t undef) λj hj=>?_
   rw[Nat.zero_add,Array.getD_eq_getD_getElem?,Array.getElem?_append_left (by simpa using hj)];simp[List.getElem?_eq_getElem hj]
  ·obtain⟨k,_,rfl⟩:=List.mem_map.1 hp;rfl
  ·obtain⟨k,hk,rfl⟩:=List.mem_map.1 hp;have:=hkp k hk;show k / 8<1;omega
  ·rcases jK (L:=jV args 0) t with g|⟨p,hp,_,g⟩
   ·simp only[g]at hk;cases hk
   ·simp only[g]at hk;exact hkb.1 p hp k hk
  ·exact hkb.2 _ (cz he)
 refine (ki hf hb hsat h).mono λe w' he=>?_
 cases e with
 |returned v=>
  obtain⟨W',bs',E1,F1,x,h',hx,⟨m,rfl,hle,hn,hm⟩,rfl,hs1,hp⟩:=he;refine⟨nP E1 m,ma F1 m,by rw[mn],λk hk=>?_,JJ m (hs1.back hx) hle hn⟩;simp only[nP,hm k hk];exact hp (k,E k) (List.mem_map.2 ⟨k,hk,rfl⟩)
 |panicked c=>obtain⟨_,_,_,_,_,_,hf,_⟩:=he;exact hf.elim
 |outgrown=>exact he.elim
end
end Go.LE
namespace Go.Proofs.YtnemkecffmdlnaaGreatDoor
section
open Go.RowKit Go.LE
def jD:=(aj (mh (aa @if_true.{1} @if_false.{1}) (aa @List.toList_toArray.{0} @Option.isNone_none.{0}) (aa @Option.isNone_some.{0} @Option.isSome_none.{0}) (aa @Option.isSome_some.{0} @and_true) (aa @true_and @and_self) (aa @true_imp_iff @forall_const.{1})) (mh (aa @forall_const.{0} @List.append_nil.{0}) (aa @List.nil_append.{0} @List.cons_append.{0}) (aa @cond_true.{1} @cond_false.{1}) (aa @List.map_cons.{0,0} @List.map_nil.{0,0}) (aa @Bool.true_and @Bool.and_true) (aa @beq_false @beq_true)) (mh (aa @imp_self @implies_true.{1}) (aa @implies_true.{0} @Bool.cond_self.{1}) (aa @Option.bind_some.{0,0} @List.getElem?_toArray.{0}) (aa @List.getElem?_cons_zero.{0} @List.getElem?_cons_succ.{0}) (aa @List.length_cons.{0} @List.length_nil.{0}) (aa @List.getD_cons_zero.{0} @List.getD_cons_succ.{0})) (mh (aa @List.take_succ_cons.{0} @List.take_zero.{0}) (aa @List.drop_succ_cons.{0} @List.drop_zero.{0}) (aa @List.zip_cons_cons.{0,0} @List.zip_nil_right.{0,0}) (aa @Option.getD_some.{0} @List.all_cons.{0}) (aa @List.all_nil.{0} @Bool.cond_true_left) (aa @Bool.cond_false_right @Bool.cond_true_right)) (mh (aa @Bool.cond_false_left ev1) (aa ev2 ev3) (aa ev4 ev5) (aa ev6 ev7) (aa ev8 ev9) (aa @Option.map_some.{0,0} @List.not_mem_nil.{0})) (mh (aa @Int.toNat_natCast @Option.toArray_none.{0}) (aa @Option.toArray_some.{0} @List.append_toArray.{0}) (aa @Nat.add_zero @Nat.zero_add) (aa @decide_true @decide_false) (aa @Bool.not_true @Bool.not_false) (aa @List.flatten_cons.{0} @List.flatten_nil.{0})) (mh (aa @List.isEmpty_nil.{0} @ne_eq.{1}) (aa @not_true_eq_false @not_false_eq_true) (aa @Nat.mul_one @Nat.one_mul) (aa @Nat.zero_mul @Nat.sub_zero) (aa @Dw @Array.getD_eq_getD_getElem?.{0}) (aa @List.size_toArray.{0} @akP)) (aj @amS amP am0 @Option.map_none.{0,0} amA amY amx amt))
theorem ev{e p:Prop}(he:e)(h:e->p:=by intro he;simp only[jD,Op.operands,Value.cells,σ0,σB,Nat.reduceEqDiff,Nat.reduceAdd,Nat.reduceMul,Nat.reduceLT,Nat.reduceLeDiff,Nat.reduceBEq,av,Int.reduceToNat,Int.reduceLT,Int.reduceLE,Nat.reduceDiv,Nat.reduceMod,Nat.reduceSub,Int.reducePow,Nat.reducePow,σP,σB3,he];exact rfl):p:=h he
section
variable {W:World}{bs:List Nat}{nt:Nat}{ds:Aux}{Q:mb}{σ:St}{e q:Prop}{id:Nat}{ops:Array Oper}{y:Code}{side:Prop}{n:Nat}{φ:Fr}{h:Hp}{pans:List (Option (List PanicEntry))}{lost:List Nat}{fx:List (List Nat×List Nat)}
theorem wR(Γ:Env Tryz.prog)(he:e)(hs:side)(hQ:Wp Tryz.prog W bs nt ds y Q ⟨n,φ,h⟩)(hg:e->oV Γ W bs nt ops ops.toList σ.n σ.φ σ.h=⟨side,n,φ,h,pans,lost,fx⟩:=by intro he;simp only[jD,Op.operands,Value.cells,σ0,σB,Nat.reduceEqDiff,Nat.reduceAdd,Nat.reduceMul,Nat.reduceLT,Nat.reduceLeDiff,Nat.reduceBEq,av,Int.reduceToNat,Int.reduceLT,Int.reduceLE,Nat.reduceDiv,Nat.reduceMod,Nat.reduceSub,Int.reducePow,Nat.reducePow,σP,σB3,he];exact rfl)(hp:pans.all Option.isNone=true:=by rfl):Wp Tryz.prog W bs nt ds (.seq (.region id ops false) y) Q σ:=Wp.o9 Γ b8 (hg he) hp hs hQ
theorem vR(Γ:Env Tryz.prog)(he:e)(hQ:Wp Tryz.prog W bs nt ds y Q ⟨n,φ,h⟩)(hg:e->oV Γ W bs nt ops ops.toList σ.n σ.φ σ.h=⟨side,n,φ,h,pans,lost,fx⟩:=by intro he;simp only[jD,Op.operands,Value.cells,σ0,σB,Nat.reduceEqDiff,Nat.reduceAdd,Nat.reduceMul,Nat.reduceLT,Nat.reduceLeDiff,Nat.reduceBEq,av,Int.reduceToNat,Int.reduceLT,Int.reduceLE,Nat.reduceDiv,Nat.reduceMod,Nat.reduceSub,Int.reducePow,Nat.reducePow,σP,σB3,he];exact rfl)(hp:pans.all Option.isNone=true:=by rfl)(hs:side:=by first|trivial|omega|exact⟨_,rfl⟩|(simp;done)|(unfold maxLen;omega)|(simp<;>omega)|(simp<;>unfold maxLen<;>omega)):Wp Tryz.prog W bs nt ds (.seq (.region id ops false) y) Q σ:=Wp.o9 Γ b8 (hg he) hp hs hQ
theorem wr(Γ:Env Tryz.prog)(he:e)(hs:side)(hQ:q)(hg:e->oV Γ W bs nt ops ops.toList σ.n σ.φ σ.h=⟨side,n,φ,h,pans,lost,fx⟩:=by intro he;simp only[jD,Op.operands,Value.cells,σ0,σB,Nat.reduceEqDiff,Nat.reduceAdd,Nat.reduceMul,Nat.reduceLT,Nat.reduceLeDiff,Nat.reduceBEq,av,Int.reduceToNat,Int.reduceLT,Int.reduceLE,Nat.reduceDiv,Nat.reduceMod,Nat.reduceSub,Int.reducePow,Nat.reducePow,σP,σB3,he];exact rfl)(hp:pans.all Option.isNone=true:=by rfl)(t:q->Q .normal W bs ⟨n,φ,h⟩:=by intro hq;(with_reducible repeat (first|refine gr ?_|refine gD ?_|refine kU ?_|refine lf ?_|refine e9 (by decide) ?_|refine nN ?_|refine nW ?_|refine ja ?_|refine iZ ?_));exact hq):Wp Tryz.prog W bs nt ds (.region id ops false) Q σ:=Wp.Gw Γ b8 (hg he) hp hs (t hQ)
theorem vr(Γ:Env Tryz.prog)(he:e)(hQ:q)(hg:e->oV Γ W bs nt ops ops.toList σ.n σ.φ σ.h=⟨side,n,φ,h,pans,lost,fx⟩:=by intro he;simp only[jD,Op.operands,Value.cells,σ0,σB,Nat.reduceEqDiff,Nat.reduceAdd,Nat.reduceMul,Nat.reduceLT,Nat.reduceLeDiff,Nat.reduceBEq,av,Int.reduceToNat,Int.reduceLT,Int.reduceLE,Nat.reduceDiv,Nat.reduceMod,Nat.reduceSub,Int.reducePow,Nat.reducePow,σP,σB3,he];exact rfl)(hp:pans.all Option.isNone=true:=by rfl)(hs:side:=by first|trivial|omega|exact⟨_,rfl⟩|(simp;done)|(unfold maxLen;omega)|(simp<;>omega)|(simp<;>unfold maxLen<;>omega))(t:q->Q .normal W bs ⟨n,φ,h⟩:=by intro hq;(with_reducible repeat (first|refine gr ?_|refine gD ?_|refine kU ?_|refine lf ?_|refine e9 (by decide) ?_|refine nN ?_|refine nW ?_|refine ja ?_|refine iZ ?_));exact hq):Wp Tryz.prog W bs nt ds (.region id ops false) Q σ:=Wp.Gw Γ b8 (hg he) hp hs (t hQ)
theorem kO(Γ:Env Tryz.prog)(he:e)(hs:side)(hQ:Wp Tryz.prog W bs nt ds y Q ⟨n,φ,h⟩)(hg:e->oV Γ W bs nt ops ops.toList σ.n σ.φ σ.h=⟨side,n,φ,h,pans,lost,fx⟩:=by intro he;simp only[jD,Op.operands,Value.cells,σ0,σB,Nat.reduceEqDiff,Nat.reduceAdd,Nat.reduceMul,Nat.reduceLT,Nat.reduceLeDiff,Nat.reduceBEq,av,Int.reduceToNat,Int.reduceLT,Int.reduceLE,Nat.reduceDiv,Nat.reduceMod,Nat.reduceSub,Int.reducePow,Nat.reducePow,σP,σB3,he];exact rfl)(hp:pans.all Option.isNone=true:=by rfl)(hd:(oD ops&&oN ops fx)=true:=by kernel_rfl):Wp Tryz.prog W bs nt ds (.seq (.region id ops true) y) Q σ:=Wp.ahF Γ b8 (hg he) hp hd hs hQ
theorem Qr(Γ:Env Tryz.prog)(he:e)(hQ:Wp Tryz.prog W bs nt ds y Q ⟨n,φ,h⟩)(hg:e->oV Γ W bs nt ops ops.toList σ.n σ.φ σ.h=⟨side,n,φ,h,pans,lost,fx⟩:=by intro he;simp only[jD,Op.operands,Value.cells,σ0,σB,Nat.reduceEqDiff,Nat.reduceAdd,Nat.reduceMul,Nat.reduceLT,Nat.reduceLeDiff,Nat.reduceBEq,av,Int.reduceToNat,Int.reduceLT,Int.reduceLE,Nat.reduceDiv,Nat.reduceMod,Nat.reduceSub,Int.reducePow,Nat.reducePow,σP,σB3,he];exact rfl)(hp:pans.all Option.isNone=true:=by rfl)(hd:(oD ops&&oN ops fx)=true:=by kernel_rfl)(hs:side:=by first|trivial|omega|exact⟨_,rfl⟩|(simp;done)|(unfold maxLen;omega)|(simp<;>omega)|(simp<;>unfold maxLen<;>omega)):Wp Tryz.prog W bs nt ds (.seq (.region id ops true) y) Q σ:=Wp.ahF Γ b8 (hg he) hp hd hs hQ
theorem xv(Γ:Env Tryz.prog)(he:e)(hs:side)(hQ:q)(hg:e->oV Γ W bs nt ops ops.toList σ.n σ.φ σ.h=⟨side,n,φ,h,pans,lost,fx⟩:=by intro he;simp only[jD,Op.operands,Value.cells,σ0,σB,Nat.reduceEqDiff,Nat.reduceAdd,Nat.reduceMul,Nat.reduceLT,Nat.reduceLeDiff,Nat.reduceBEq,av,Int.reduceToNat,Int.reduceLT,Int.reduceLE,Nat.reduceDiv,Nat.reduceMod,Nat.reduceSub,Int.reducePow,Nat.reducePow,σP,σB3,he];exact rfl)(hp:pans.all Option.isNone=true:=by rfl)(hd:(oD ops&&oN ops fx)=true:=by kernel_rfl)(t:q->Q .normal W bs ⟨n,φ,h⟩:=by intro hq;(with_reducible repeat (first|refine gr ?_|refine gD ?_|refine kU ?_|refine lf ?_|refine e9 (by decide) ?_|refine nN ?_|refine nW ?_|refine ja ?_|refine iZ ?_));exact hq):Wp Tryz.prog W bs nt ds (.region id ops true) Q σ:=Wp.ac2 Γ b8 (hg he) hp hd hs (t hQ)
theorem vrD(Γ:Env Tryz.prog)(he:e)(hQ:q)(hg:e->oV Γ W bs nt ops ops.toList σ.n σ.φ σ.h=⟨side,n,φ,h,pans,lost,fx⟩:=by intro he;simp only[jD,Op.operands,Value.cells,σ0,σB,Nat.reduceEqDiff,Nat.reduceAdd,Nat.reduceMul,Nat.reduceLT,Nat.reduceLeDiff,Nat.reduceBEq,av,Int.reduceToNat,Int.reduceLT,Int.reduceLE,Nat.reduceDiv,Nat.reduceMod,Nat.reduceSub,Int.reducePow,Nat.reducePow,σP,σB3,he];exact rfl)(hp:pans.all Option.isNone=true:=by rfl)(hd:(oD ops&&oN ops fx)=true:=by kernel_rfl)(hs:side:=by first|trivial|omega|exact⟨_,rfl⟩|(simp;done)|(unfold maxLen;omega)|(simp<;>omega)|(simp<;>unfold maxLen<;>omega))(t:q->Q .normal W bs ⟨n,φ,h⟩:=by intro hq;(with_reducible repeat (first|refine gr ?_|refine gD ?_|refine kU ?_|refine lf ?_|refine e9 (by decide) ?_|refine nN ?_|refine nW ?_|refine ja ?_|refine iZ ?_));exact hq):Wp Tryz.prog W bs nt ds (.region id ops true) Q σ:=Wp.ac2 Γ b8 (hg he) hp hd hs (t hQ)
theorem wK(hQ:q)(t:q->Q .normal W bs σ:=by intro hq;(with_reducible repeat (first|refine gr ?_|refine gD ?_|refine kU ?_|refine lf ?_|refine e9 (by decide) ?_|refine nN ?_|refine nW ?_|refine ja ?_|refine iZ ?_));exact hq):Wp Tryz.prog W bs nt ds .skip Q σ:=Wp.skip (t hQ)
theorem wE{i:Nat}(hQ:q)(t:q->Q (.exit i) W bs σ:=by intro hq;(with_reducible repeat (first|refine gr ?_|refine gD ?_|refine kU ?_|refine lf ?_|refine e9 (by decide) ?_|refine nN ?_|refine nW ?_|refine ja ?_|refine iZ ?_));exact hq):Wp Tryz.prog W bs nt ds (.exit i) Q σ:=Wp.exit (t hQ)
theorem wT(hQ:q)(t:q->Q .ret W bs σ:=by intro hq;(with_reducible repeat (first|refine gr ?_|refine gD ?_|refine kU ?_|refine lf ?_|refine e9 (by decide) ?_|refine nN ?_|refine nW ?_|refine ja ?_|refine iZ ?_));exact hq):Wp Tryz.prog W bs nt ds .ret Q σ:=Wp.ret (t hQ)
theorem wZ(he:e)(hQ:q)(t:e->q->Q .ret W bs σ:=by intro he;intro hq;(with_reducible repeat (first|refine gr ?_|refine gD ?_|refine kU ?_|refine lf ?_|refine e9 (by decide) ?_|refine nN ?_|refine nW ?_|refine ja ?_|refine iZ ?_));simp only[jD,Op.operands,Value.cells,σ0,σB,Nat.reduceEqDiff,Nat.reduceAdd,Nat.reduceMul,Nat.reduceLT,Nat.reduceLeDiff,Nat.reduceBEq,av,Int.reduceToNat,Int.reduceLT,Int.reduceLE,Nat.reduceDiv,Nat.reduceMod,Nat.reduceSub,Int.reducePow,Nat.reducePow,σP,σB3,qW,jv,nD,lO,he];exact hq):Wp Tryz.prog W bs nt ds .ret Q σ:=Wp.ret (t he hQ)
end
theorem wC{W:World}{bs:List Nat}{nt:Nat}{ds:Aux}{Q:mb}{σ:St}{e:Prop}{c:Operand}{x y:Code}{b:Bool}{p:Prop}(he:e)(ht:b=true->Wp Tryz.prog W bs nt ds x Q σ)(hf:b=false->Wp Tryz.prog W bs nt ds y Q σ)(hc:e->nL σ.φ true c=(p,.v (.bool b)):=by intro he;simp only[jD,Op.operands,Value.cells,σ0,σB,Nat.reduceEqDiff,Nat.reduceAdd,Nat.reduceMul,Nat.reduceLT,Nat.reduceLeDiff,Nat.reduceBEq,av,Int.reduceToNat,Int.reduceLT,Int.reduceLE,Nat.reduceDiv,Nat.reduceMod,Nat.reduceSub,Int.reducePow,Nat.reducePow,σP,σB3,he];exact rfl)(hp:p:=by trivial):Wp Tryz.prog W bs nt ds (.cond c x y) Q σ:=Wp.cond (hc he) hp ht hf
theorem wM{W:World}{bs:List Nat}{nt:Nat}{ds:Aux}{σ:St}{e:Prop}(m:Nat->Go.LE.Src)(he:e){n' : Nat}{L:List (Nat×FV)}{H:List (Nat×aT)}(hk:pH n' L H:=by exact⟨by simp[FV.keys,SV.keys,aw],by simp[aT.keys,aw,SV.keys,aA,aQ]⟩)(hf:e->F6 m σ.φ L:=by intro he;simp only[jD,Op.operands,Value.cells,σ0,σB,Nat.reduceEqDiff,Nat.reduceAdd,Nat.reduceMul,Nat.reduceLT,Nat.reduceLeDiff,Nat.reduceBEq,av,Int.reduceToNat,Int.reduceLT,Int.reduceLE,Nat.reduceDiv,Nat.reduceMod,Nat.reduceSub,Int.reducePow,Nat.reducePow,σP,σB3,F6,ES,eZ,bI,he]<;>trivial)(hh:e->tN m σ.h H:=by intro he;simp only[jD,Op.operands,Value.cells,σ0,σB,Nat.reduceEqDiff,Nat.reduceAdd,Nat.reduceMul,Nat.reduceLT,Nat.reduceLeDiff,Nat.reduceBEq,av,Int.reduceToNat,Int.reduceLT,Int.reduceLE,Nat.reduceDiv,Nat.reduceMod,Nat.reduceSub,Int.reducePow,Nat.reducePow,σP,σB3,tN,mz,fU,eB,fV,eZ,he]<;>trivial)(hn:(dQ m H).Nodup:=by simp[dQ])(hpn:∀ p∈ds.pins,m p.1=.key p.1/\p.1 / 8<n' := by simp):Le W bs nt ds σ ⟨n',bm L,aY H⟩:=Le.mk m hk (hf he) (hh he) hn hpn
theorem wN{e:Prop}{eo:List Nat}{val x:SV}{L' : List (Nat×aT)}{h:Hp}(m:Nat->Go.LE.Src)(he:e)(hv:e->x=eZ m val:=by intro he;first|rfl|simp only[jD,Op.operands,Value.cells,σ0,σB,Nat.reduceEqDiff,Nat.reduceAdd,Nat.reduceMul,Nat.reduceLT,Nat.reduceLeDiff,Nat.reduceBEq,av,Int.reduceToNat,Int.reduceLT,Int.reduceLE,Nat.reduceDiv,Nat.reduceMod,Nat.reduceSub,Int.reducePow,Nat.reducePow,σP,σB3,eZ,fV,he])(hh:e->tN m h L' := by intro he;simp only[jD,Op.operands,Value.cells,σ0,σB,Nat.reduceEqDiff,Nat.reduceAdd,Nat.reduceMul,Nat.reduceLT,Nat.reduceLeDiff,Nat.reduceBEq,av,Int.reduceToNat,Int.reduceLT,Int.reduceLE,Nat.reduceDiv,Nat.reduceMod,Nat.reduceSub,Int.reducePow,Nat.reducePow,σP,σB3,tN,mz,fU,eB,fV,eZ,he]<;>trivial)(hn:(dQ m L').Nodup:=by simp[dQ])(hk:∀ k∈eo,m k=.key k:=by simp):O0 eo val L' x h:=⟨m,hv he,hh he,hn,hk⟩
theorem wS{e p q:Prop}(he:e)(h:q)(t:e->q->p:=by intro he hq;simp only[jD,Op.operands,Value.cells,σ0,σB,Nat.reduceEqDiff,Nat.reduceAdd,Nat.reduceMul,Nat.reduceLT,Nat.reduceLeDiff,Nat.reduceBEq,av,Int.reduceToNat,Int.reduceLT,Int.reduceLE,Nat.reduceDiv,Nat.reduceMod,Nat.reduceSub,Int.reducePow,Nat.reducePow,σP,σB3,qW,jv,nD,lO,he];exact hq):p:=t he h
theorem qq{p q:Prop}(h:q)(t:q->p:=by intro hq;(with_reducible repeat (first|refine gr ?_|refine gD ?_|refine kU ?_|refine lf ?_|refine e9 (by decide) ?_|refine nN ?_|refine nW ?_|refine ja ?_|refine iZ ?_));exact hq):p:=t h
theorem oo{p:Prop}(h:p:=by first|trivial|omega|exact⟨_,rfl⟩|(simp;done)|(unfold maxLen;omega)|(simp<;>omega)|(simp<;>unfold maxLen<;>omega)):p:=h
theorem wW{x y:Int}(h0:-9223372036854775808<=x:=by omega)(h1:x<=9223372036854775807:=by omega)(h:x=y:=by omega):IntKind.i64.wrap x=y:=(ae h0 h1).trans h
end
section
inductive Rx where
 |eps
 |cls (S:BitVec 256)
 |cat (a b:Rx)
 |alt (a b:Rx)
 |star (a:Rx)
 |and (a b:Rx)
 |minus (a b:Rx)
abbrev RL:=Nat×Rx
def cF(n:Nat):Nat:=min n 2001
def aX(mk:Rx->Rx->Rx)(a b:RL):RL:=(cF (1+a.1+b.1),mk a.2 b.2)
def bY(t:Rx):RL:=(1,t)
def gf(a:RL):RL:=(cF (1+a.1),.star a.2)
def bM(a:RL):RL:=aX .alt a (bY .eps)
def bH(f:RL->RL):Nat->RL->RL
 |0,x=>x
 |n+1,x=>bH f n (f x)
def dy(a:RL)(m n:Int):RL:=
 if m=0/\n<0 then gf a
 else if m=0/\n=0 then bY .eps
 else if n<0 then aX .cat (bH (λx=>aX .cat x a) (m-1).toNat (if m=0 then bM a else a)) (gf a)
 else bH (λx=>aX .cat x (bM a)) (n-max m 1).toNat (bH (λx=>aX .cat x a) (m-1).toNat (if m=0 then bM a else a))
section
variable (c:Int->Int)(N:Int)(rd:Int->Except (Int×Int) (BitVec 256×Int))
def jW:Nat->Int->Int->Int×Int
 |0,n,i=>(n,i)
 |k+1,n,i=>if i<N/\48<=c i/\c i<=57 then jW k (10*n+(c i-48)) (i+1) else (n,i)
def iK(i:Int):Except (Int×Int) (Int×Int):=
 if (jW c N 3 0 i).2=i then .error (20,i) else .ok (jW c N 3 0 i)
def Br(m j:Int):Except (Int×Int) (Int×Int):=
 if j<N/\c j=44 then (if ¬ j+1<N\/c (j+1)≠125 then iK c N (j+1) else .ok (-1,j+1)) else .ok (m,j)
def mU(m n j i:Int):Except (Int×Int) (Int×Int×Int):=
 if ¬ j<N\/c j≠125 then .error (20,j)
 else if 255<m\/255<n\/(0<=n/\n<m) then .error (22,i)
 else .ok (m,n,j+1)
def oq(i:Int):Except (Int×Int) (Int×Int×Int):=
 match iK c N (i+1) with
 |.error e=>.error e
 |.ok (m,j)=>match Br c N m j with
  |.error e=>.error e
  |.ok (n,j)=>mU c N m n j i
def jt:Nat->RL->Int->Except (Int×Int) (RL×Int)
 |0,r,i=>.ok (r,i)
 | f+1,r,i=>
  if ¬ i<N then .ok (r,i)
  else if c i=42 then jt f (gf r) (i+1)
  else if c i=43 then jt f (aX .cat r (gf r)) (i+1)
  else if c i=63 then jt f (bM r) (i+1)
  else if c i=123 then
   match oq c N i with
   |.error e=>.error e
   |.ok (m,n,j)=>jt f (dy r m n) j
  else .ok (r,i)
def vx(o:Option RL):RL:=o.getD (bY .eps)
def zJ(o:Option RL)(p:RL):RL:=match o with
 |none=>p
 |some x=>aX .cat x p
def gP(x:Int):Prop:=x=124\/x=38\/x=45\/x=41
def br(x:Int):Prop:=x=42\/x=43\/x=63\/x=123
instance (x:Int):Decidable (gP x):=by unfold gP;infer_instance
instance (x:Int):Decidable (br x):=by unfold br;infer_instance
def ft(atom:Int->Except (Int×Int) (RL×Int)):Nat->Option RL->Int->Except (Int×Int) (RL×Int)
 |0,o,i=>.ok (vx o,i)
 | f+1,o,i=>
  if ¬ i<N then .ok (vx o,i)
  else if gP (c i) then .ok (vx o,i)
  else if br (c i) then .error (20,i)
  else match atom i with
   |.error e=>.error e
   |.ok (a,j)=>match jt c N (N.toNat+1) a j with
    |.error e=>.error e
    |.ok (p,k)=>ft atom f (some (zJ o p)) k
def lT(row:Int->Except (Int×Int) (RL×Int)):Nat->RL->Int->Except (Int×Int) (RL×Int)
 |0,o,i=>.ok (o,i)
 | f+1,o,i=>
  if ¬ i<N then .ok (o,i)
  else if c i=38 then match row (i+1) with
   |.error e=>.error e
   |.ok (r,j)=>lT row f (aX .and o r) j
  else if c i=45 then match row (i+1) with
   |.error e=>.error e
   |.ok (r,j)=>lT row f (aX .minus o r) j
  else .ok (o,i)
def lV(row:Int->Except (Int×Int) (RL×Int))(i:Int):Except (Int×Int) (RL×Int):=
 match row i with
 |.error e=>.error e
 |.ok (r,j)=>lT c N row (N.toNat+1) r j
def zu(meet:Int->Except (Int×Int) (RL×Int)):Nat->RL->Int->Except (Int×Int) (RL×Int)
 |0,o,i=>.ok (o,i)
 | f+1,o,i=>
  if i<N/\c i=124 then match meet (i+1) with
   |.error e=>.error e
   |.ok (r,j)=>zu meet f (aX .alt o r) j
  else .ok (o,i)
def ajO(meet:Int->Except (Int×Int) (RL×Int))(i:Int):Except (Int×Int) (RL×Int):=
 match meet i with
 |.error e=>.error e
 |.ok (r,j)=>zu c N meet (N.toNat+1) r j
def xJ(atom:Int->Except (Int×Int) (RL×Int)):Int->Except (Int×Int) (RL×Int):=
 ajO c N (lV c N (ft c N atom (N.toNat+1) none))
def sO(i:Int):Except (Int×Int) (RL×Int):=match rd i with
 |.error e=>.error e
 |.ok (S,j)=>.ok (bY (.cls S),j)
def vd(i:Int):Except (Int×Int) (RL×Int)->Except (Int×Int) (RL×Int)
 |.error e=>.error e
 |.ok (r,j)=>if ¬ j<N then .error (21,i) else .ok (r,j+1)
def bx:Nat->Int->Except (Int×Int) (RL×Int)
 |0,i=>if c i=40 then .error (23,i) else sO rd i
 |n+1,i=>if c i=40 then vd N i (xJ c N (bx n) (i+1)) else sO rd i
def alts(n:Nat):Int->Except (Int×Int) (RL×Int):=xJ c N (bx c N rd n)
def Ti:Except (Int×Int) (RL×Int)->Except (Int×Int) Rx
 |.error e=>.error e
 |.ok (r,j)=>if j<N then .error (20,j) else if 2000<r.1 then .error (24,0) else .ok r.2
def Bg:Except (Int×Int) Rx:=if 1048576<N then .error (1,0) else Ti N (alts c N rd 1000 0)
end
end
section
inductive RT where
 |eps
 |cls (S:BitVec 256)
 |cat (a b:RT)
 |alt (a b:RT)
 |and (a b:RT)
 |minus (a b:RT)
 |rep (a:RT) (m n:Int)
def dw(x:Rx)(m:Int)(k:Int):Rx:=if k<m then x else .alt x .eps
def dO(x:Rx)(m:Int):Nat->Int->Rx->Rx
 |0,_,w=>w
 |n+1,k,w=>dO x m n (k+1) (.cat w (dw x m k))
def cA(m:Int):Int:=if m=-2 then 1 else m
def df(x:Rx)(m n:Int):Rx:=
 if n<0/\cA m=0 then .star x
 else if n=0 then .eps
 else if n<0 then .cat (dO x (cA m) (cA m-1).toNat 1 (dw x (cA m) 0)) (.star x)
 else dO x (cA m) (n-1).toNat 1 (dw x (cA m) 0)
def dH(a m n:Int):Int:=
 if m=-2 then a+1+a+1
 else if n<0/\m=0 then a+1
 else if n<0 then m*a+m-1+1+a+1
 else if n=0 then 1
 else if m=0 then n*(a+2)+n-1
 else m*a+m-1+(n-m)*(a+2+1)
def RT.expand:RT->Rx
 |.eps=>.eps
 |.cls S=>.cls S
 |.cat a b=>.cat a.expand b.expand
 |.alt a b=>.alt a.expand b.expand
 |.and a b=>.and a.expand b.expand
 |.minus a b=>.minus a.expand b.expand
 |.rep a m n=>df a.expand m n
def RT.sz:RT->Nat
 |.eps=>1
 |.cls S=>1
 |.cat a b=>cF (1+a.sz+b.sz)
 |.alt a b=>cF (1+a.sz+b.sz)
 |.and a b=>cF (1+a.sz+b.sz)
 |.minus a b=>cF (1+a.sz+b.sz)
 |.rep a m n=>cF (dH a.sz m n).toNat
def RT.val(t:RT):RL:=(t.sz,t.expand)
theorem kX(n:Nat):cF n<=2001:=by unfold cF;omega
theorem NT(a b:Nat):cF (1+cF a+b)=cF (1+a+b):=by unfold cF;omega
theorem NO(a b:Nat):cF (1+a+cF b)=cF (1+a+b):=by unfold cF;omega
theorem D4{n:Nat}(h:n<=2001):cF n=n:=by unfold cF;omega
theorem mM(y:RL):∀ (k:Nat) (s:Nat) (w:Rx),(bH (λx=>aX .cat x y) k (cF s,w)).1=cF (s+k*(1+y.1))
 |0,s,w=>by simp[bH]
 |k+1,s,w=>by
  show (bH (λx=>aX .cat x y) k (cF (1+cF s+y.1),.cat w y.2)).1=_;rw[NT,mM y k,Nat.succ_mul]
  congr 1
  omega
theorem BD(x:Rx)(y:RL)(m:Int)(hy:y.2=x):∀ (n:Nat) (k:Int) (s:Nat) (w:Rx),k+n<=m->(bH (λz=>aX .cat z y) n (s,w)).2=dO x m n k w
 |0,k,s,w,_=>rfl
 |n+1,k,s,w,h=>by
  have hpx:dw x m k=y.2:=by rw[dw,if_pos (by omega),hy]
  show (bH (λz=>aX .cat z y) n (cF (1+s+y.1),.cat w y.2)).2=dO x m n (k+1) (.cat w (dw x m k));rw[hpx];exact BD x y m hy n (k+1) _ _ (by omega)
theorem Bv(x:Rx)(y:RL)(m:Int)(hy:y.2=.alt x .eps):∀ (n:Nat) (k:Int) (s:Nat) (w:Rx),m<=k->(bH (λz=>aX .cat z y) n (s,w)).2=dO x m n k w
 |0,k,s,w,_=>rfl
 |n+1,k,s,w,h=>by
  have hpx:dw x m k=y.2:=by rw[dw,if_neg (by omega),hy]
  show (bH (λz=>aX .cat z y) n (cF (1+s+y.1),.cat w y.2)).2=dO x m n (k+1) (.cat w (dw x m k));rw[hpx];exact Bv x y m hy n (k+1) _ _ (by omega)
theorem zA(x:Rx)(m:Int):∀ (a b:Nat) (k:Int) (w:Rx),dO x m (a+b) k w=dO x m b (k+a) (dO x m a k w)
 |0,b,k,w=>by simp[dO]
 |a+1,b,k,w=>by
  rw[Nat.succ_add];simp only[dO];rw[zA x m a b]
  congr 1
  omega
theorem zT(t:RT):gf t.val=(RT.rep t 0 (-1)).val:=by
 simp only[gf,RT.val,RT.sz,RT.expand,df,cA,dH];simp
 congr 1
 omega
theorem AK(t:RT):aX .cat t.val (gf t.val)=(RT.rep t (-2) (-1)).val:=by
 simp only[gf,aX,RT.val,RT.sz,RT.expand,df,cA,dH,dO,dw];simp[dO];rw[NO]
 congr 1
 omega
theorem Dk(t:RT):bM t.val=(RT.rep t 0 1).val:=by
 simp only[bM,bY,gf,aX,RT.val,RT.sz,RT.expand,df,cA,dH,dO,dw];simp[dO]
 congr 1
 omega
theorem Hb(p k s:Nat):cF (p+k*(1+cF s))=cF (p+k*(1+s)):=by
 by_cases h:s<=2001
 ·rw[D4 h]
 ·have e:cF s=2001:=by unfold cF;omega
  rw[e];cases k with
  |zero=>simp
  |succ k=>
   have h1:=Nat.succ_mul k (1+2001);have h2:=Nat.succ_mul k (1+s);unfold cF;rw[h1,h2];omega
theorem Gc{α β:Type}{x:α×β}{a:α}{b:β}(h1:x.1=a)(h2:x.2=b):x=(a,b):=by rw[<- h1,<- h2]
theorem vm(t:RT)(m n:Int)(h0:0<=m)(h1:n=-1\/(0<=n/\m<=n))(ht:t.sz<=2001):dy t.val m n=(RT.rep t m n).val:=by
 have hp:cA m=m:=by unfold cA;rw[if_neg (by omega)]
 have hm2:¬ m=-2:=by omega
 rcases h1 with rfl|⟨hn,hmn⟩
 ·by_cases hm:m=0
  ·subst hm;rw[<- zT];rfl
  ·obtain⟨a,rfl⟩:∃ a:Nat,m=(a:Int)+1:=⟨(m-1).toNat,by omega⟩;have e1:((a:Int)+1-1).toNat=a:=by omega
   have e2:dy t.val ((a:Int)+1) (-1)=aX .cat (bH (λx=>aX .cat x t.val) a t.val) (gf t.val):=by
    unfold dy;rw[if_neg (by omega),if_neg (by omega),if_pos (by omega),e1,if_neg hm]
   rw[e2];apply Gc
   ·show cF (1+(bH (λx=>aX .cat x t.val) a t.val).1+cF (1+t.sz))=cF (dH t.sz ((a:Int)+1) (-1)).toNat;have e3:(bH (λx=>aX .cat x t.val) a t.val).1=cF (t.sz+a*(1+t.sz)):=by
     have:=mM t.val a t.sz t.expand;rw[D4 ht]at this;exact this
    have e4:dH t.sz ((a:Int)+1) (-1)=((1+(t.sz+a*(1+t.sz))+(1+t.sz):Nat):Int):=by
     unfold dH;rw[if_neg hm2,if_neg (by omega),if_pos (by omega)];have g1:((a:Int)+1)*(t.sz:Int)=(a:Int)*t.sz+t.sz:=by rw[Int.add_mul];omega
     have g2:a*(1+t.sz)=a+a*t.sz:=by rw[Nat.mul_add];omega
     rw[g1,g2];have g3:((a*t.sz:Nat):Int)=(a:Int)*t.sz:=by simp
     omega
    rw[e3,e4,NT,NO,Int.toNat_natCast]
   ·show Rx.cat (bH (λx=>aX .cat x t.val) a t.val).2 (.star t.expand)=df t.expand ((a:Int)+1) (-1);unfold df;rw[hp,if_neg (by omega),if_neg (by omega),if_pos (by omega),e1];have:=BD t.expand t.val ((a:Int)+1) rfl a 1 t.sz t.expand (by omega)
    rw[show dw t.expand ((a:Int)+1) 0=t.expand from by unfold dw;rw[if_pos (by omega)]];rw[<- this];rfl
 ·by_cases hm:m=0
  ·subst hm;by_cases hn0:n=0
   ·subst hn0;rfl
   ·obtain⟨b,rfl⟩:∃ b:Nat,n=(b:Int)+1:=⟨(n-1).toNat,by omega⟩;have e1:((b:Int)+1-max 0 1).toNat=b:=by omega
    have e2:dy t.val 0 ((b:Int)+1)=bH (λx=>aX .cat x (bM t.val)) b (bM t.val):=by
     unfold dy;rw[if_neg (by omega),if_neg (by omega),if_neg (by omega),e1,if_pos rfl];rfl
    rw[e2];apply Gc
    ·have e3:(bH (λx=>aX .cat x (bM t.val)) b (bM t.val)).1=cF ((t.sz+2)+b*(1+(t.sz+2))):=by
      have:=mM (bM t.val) b (1+t.sz+1) (.alt t.expand .eps);rw[show (bM t.val).1=cF (t.sz+2) from by show cF (1+t.sz+1)=_;congr 1;omega,Hb]at this;rw[show 1+t.sz+1=t.sz+2 by omega]at this;rw[<- this];show (bH _ b (cF (1+t.sz+1),_)).1=_;rw[show 1+t.sz+1=t.sz+2 by omega];rfl
     have e4:dH t.sz 0 ((b:Int)+1)=(((t.sz+2)+b*(1+(t.sz+2)):Nat):Int):=by
      unfold dH;rw[if_neg (by omega),if_neg (by omega),if_neg (by omega),if_neg (by omega),if_pos rfl];have g1:((b:Int)+1)*((t.sz:Int)+2)=(b:Int)*t.sz+2*b+t.sz+2:=by rw[Int.add_mul,Int.mul_add];omega
      have g2:b*(1+(t.sz+2))=b*t.sz+3*b:=by rw[show 1+(t.sz+2)=t.sz+3 by omega,Nat.mul_add];omega
      rw[g1,g2];have g3:((b*t.sz:Nat):Int)=(b:Int)*t.sz:=by simp
      omega
     rw[e3];show _=cF (dH t.sz 0 ((b:Int)+1)).toNat;rw[e4,Int.toNat_natCast]
    ·show _=df t.expand 0 ((b:Int)+1);unfold df;rw[hp,if_neg (by omega),if_neg (by omega),if_neg (by omega),show ((b:Int)+1-1).toNat=b by omega];have:=Bv t.expand (bM t.val) 0 rfl b 1 (bM t.val).1 (.alt t.expand .eps) (by omega)
     rw[show dw t.expand 0 0=.alt t.expand .eps from by unfold dw;rw[if_neg (by omega)]];rw[<- this];rfl
  ·obtain⟨a,rfl⟩:∃ a:Nat,m=(a:Int)+1:=⟨(m-1).toNat,by omega⟩;obtain⟨d,rfl⟩:∃ d:Nat,n=(a:Int)+1+d:=⟨(n-(a+1)).toNat,by omega⟩;have e1:((a:Int)+1-1).toNat=a:=by omega
   have e0:((a:Int)+1+d-max ((a:Int)+1) 1).toNat=d:=by omega
   have e2:dy t.val ((a:Int)+1) ((a:Int)+1+d)=bH (λx=>aX .cat x (bM t.val)) d (bH (λx=>aX .cat x t.val) a t.val):=by
    unfold dy;rw[if_neg (by omega),if_neg (by omega),if_neg (by omega),e0,e1,if_neg hm]
   have e3:(bH (λx=>aX .cat x t.val) a t.val).1=cF (t.sz+a*(1+t.sz)):=by
    have:=mM t.val a t.sz t.expand;rw[D4 ht]at this;exact this
   have e5:(bH (λx=>aX .cat x t.val) a t.val).2=dO t.expand ((a:Int)+1) a 1 t.expand:=BD t.expand t.val ((a:Int)+1) rfl a 1 t.sz t.expand (by omega);have e6:bH (λx=>aX .cat x t.val) a t.val=(cF (t.sz+a*(1+t.sz)),dO t.expand ((a:Int)+1) a 1 t.expand):=Gc e3 e5;rw[e2,e6];apply Gc
   ·have e4:dH t.sz ((a:Int)+1) ((a:Int)+1+d)=((t.sz+a*(1+t.sz)+d*(1+(t.sz+2)):Nat):Int):=by
     unfold dH;rw[if_neg hm2,if_neg (by omega),if_neg (by omega),if_neg (by omega),if_neg hm];have g1:((a:Int)+1)*(t.sz:Int)=(a:Int)*t.sz+t.sz:=by rw[Int.add_mul];omega
     have g2:a*(1+t.sz)=a+a*t.sz:=by rw[Nat.mul_add];omega
     have g4:((a:Int)+1+d-((a:Int)+1))*((t.sz:Int)+2+1)=(d:Int)*t.sz+3*d:=by
      rw[show (a:Int)+1+d-((a:Int)+1)=d by omega,show (t.sz:Int)+2+1=t.sz+3 by omega,Int.mul_add];omega
     have g5:d*(1+(t.sz+2))=d*t.sz+3*d:=by rw[show 1+(t.sz+2)=t.sz+3 by omega,Nat.mul_add];omega
     rw[g1,g2,g4,g5];have g3:((a*t.sz:Nat):Int)=(a:Int)*t.sz:=by simp
     have g6:((d*t.sz:Nat):Int)=(d:Int)*t.sz:=by simp
     omega
    show _=cF (dH t.sz ((a:Int)+1) ((a:Int)+1+d)).toNat;rw[e4,Int.toNat_natCast,mM];rw[show (bM t.val).1=cF (t.sz+2) from by show cF (1+t.sz+1)=_;congr 1;omega,Hb]
   ·show _=df t.expand ((a:Int)+1) ((a:Int)+1+d);unfold df;rw[hp,if_neg (by omega),if_neg (by omega),if_neg (by omega),show ((a:Int)+1+d-1).toNat=a+d by omega,zA];rw[show dw t.expand ((a:Int)+1) 0=t.expand from by unfold dw;rw[if_pos (by omega)]]
    exact Bv t.expand (bM t.val) ((a:Int)+1) rfl d (1+a) _ _ (by omega)
theorem wG(t:RT):t.sz<=2001:=by
 cases t<;>simp only[RT.sz]<;>first|exact kX _|omega
end
section
structure Lv where
 place:Int
 alt:Option RT
 meet:Option RT
 sgn:Int
 row:Option RT
 fac:Option RT
def gK(i:Int):Lv:=⟨i,none,none,0,none,none⟩
def alP:Option RT->RT->RT
 |none,p=>p
 |some r,p=>.cat r p
def rowOf(row fac:Option RT):Option RT:=match fac with
 |none=>row
 |some p=>some (alP row p)
def fg(f:Lv):Lv:={ f with row:=rowOf f.row f.fac,fac:=none }
def lD(meet:Option RT)(sgn:Int)(r:RT):RT:=match meet with
 |none=>r
 |some m=>if sgn=38 then .and m r else .minus m r
def mi(f:Lv):Lv:={ f with meet:=some (lD f.meet f.sgn ((rowOf f.row f.fac).getD .eps)),row:=none,fac:=none }
def Zl(alt:Option RT)(m:RT):RT:=match alt with
 |none=>m
 |some a=>.alt a m
def eX(f:Lv):RT:=lD f.meet f.sgn ((rowOf f.row f.fac).getD .eps)
def iT(f:Lv):RT:=Zl f.alt (eX f)
def rY(f:Lv):Lv:={ f with alt:=some (iT f),meet:=none,row:=none,fac:=none }
section
variable (c:Int->Int)(N:Int)(rd:Int->Except (Int×Int) (BitVec 256×Int))
def p5(i:Int)(f:Lv)(p:RT):Except (Int×Int) (Int×Lv):=
 if c i=42 then .ok (i+1,{ f with fac:=some (.rep p 0 (-1)) })
 else if c i=43 then .ok (i+1,{ f with fac:=some (.rep p (-2) (-1)) })
 else if c i=63 then .ok (i+1,{ f with fac:=some (.rep p 0 1) })
 else match oq c N i with
  |.error e=>.error e
  |.ok (m,n,j)=>.ok (j,{ f with fac:=some (.rep p m n) })
def eY(i:Int)(f:Lv)(rest:List Lv):Except (Int×Int) (Int×Lv×List Lv):=
 if br (c i) then
  match f.fac with
  |none=>.error (20,i)
  |some p=>match p5 c N i f p with
   |.error e=>.error e
   |.ok (j,g)=>.ok (j,g,rest)
 else if c i=124 then .ok (i+1,rY f,rest)
 else if c i=38\/c i=45 then .ok (i+1,{ mi f with sgn:=c i },rest)
 else if c i=41 then
  match rest with
  |[]=>.error (20,i)
  |g::r=>.ok (i+1,{ g with fac:=some (iT f) },r)
 else if c i=40 then
  if 1000<rest.length+1 then .error (23,i) else .ok (i+1,gK i,fg f::rest)
 else match rd i with
  |.error e=>.error e
  |.ok (S,j)=>.ok (j,{ fg f with fac:=some (.cls S) },rest)
def runN:Nat->Int->Lv->List Lv->Except (Int×Int) (Lv×List Lv)
 |0,_,f,rest=>.ok (f,rest)
 | n+1,i,f,rest=>
  if i<N then match eY c N rd i f rest with
   |.error e=>.error e
   |.ok (j,g,r)=>runN n j g r
  else .ok (f,rest)
def run(i:Int)(f:Lv)(rest:List Lv):Except (Int×Int) (Lv×List Lv):=runN c N rd ((N-i).toNat+1) i f rest
def py:Except (Int×Int) (Lv×List Lv)->Except (Int×Int) RT
 |.error e=>.error e
 |.ok (f,rest)=>if rest≠[] then .error (21,f.place) else if 2000<(iT f).sz then .error (24,0) else .ok (iT f)
def iM:Except (Int×Int) RT:=if 1048576<N then .error (1,0) else py (run c N rd 0 (gK (-1)) [])
variable {c N rd}
def vL(N:Int)(rd:Int->Except (Int×Int) (BitVec 256×Int)):Prop:=∀ i S j,0<=i->i<N->rd i=.ok (S,j)->i<j/\j<=N
theorem Qc:∀ (k:Nat) (n i:Int),i<=(jW c N k n i).2/\((jW c N k n i).2<=N\/(jW c N k n i).2=i):=by
 intro k
 induction k with
 |zero=>intro n i;exact⟨Int.le_refl _,.inr rfl⟩
 | succ k ih=>
  intro n i;simp only[jW];split
  ·have:=ih (10*n+(c i-48)) (i+1);omega
  ·exact⟨Int.le_refl _,.inr rfl⟩
theorem yj{i n j:Int}(h:iK c N i=.ok (n,j)):i<j/\j<=N:=by
 have:=Qc (c:=c) (N:=N) 3 0 i;unfold iK at h;split at h
 ·cases h
 ·simp only[Except.ok.injEq]at h;rw[h]at this;rename_i hne;rw[h]at hne;simp only at this hne;omega
theorem Bo{i m n j:Int}(h:oq c N i=.ok (m,n,j)):i<j/\j<=N:=by
 unfold oq at h;cases h1:iK c N (i+1) with
 |error e=>rw[h1]at h;cases h
 | ok p=>
  obtain⟨m',j'⟩:=p;rw[h1]at h;simp only at h;have g1:=yj h1;cases h2:Br c N m' j' with
  |error e=>rw[h2]at h;cases h
  | ok p=>
   obtain⟨n',j2⟩:=p;rw[h2]at h;simp only at h;have g2:j' <= j2/\j2<=N:=by
    unfold Br at h2;split at h2
    ·split at h2
     ·have:=yj h2;omega
     ·simp only[Except.ok.injEq,Prod.mk.injEq]at h2;omega
    ·simp only[Except.ok.injEq,Prod.mk.injEq]at h2;omega
   unfold mU at h;split at h
   ·cases h
   ·split at h
    ·cases h
    ·simp only[Except.ok.injEq,Prod.mk.injEq]at h;omega
theorem ZA{i m n j:Int}(h:oq c N i=.ok (m,n,j)):0<=m/\(n=-1\/(0<=n/\m<=n)):=by
 have nn:∀ (k:Nat) (n i:Int),0<=n->0<=(jW c N k n i).1:=by
  intro k
  induction k with
  |zero=>intro n i h;exact h
  |succ k ih=>
   intro n i h;simp only[jW];split
   ·exact ih _ _ (by omega)
   ·exact h
 have ne:∀ {i n j:Int},iK c N i=.ok (n,j)->0<=n:=λ{i n j} h=>by
  unfold iK at h;split at h
  ·cases h
  ·simp only[Except.ok.injEq]at h;have:=nn 3 0 i (by omega);rw[h]at this;exact this
 unfold oq at h;cases h1:iK c N (i+1) with
 |error e=>rw[h1]at h;cases h
 | ok p=>
  obtain⟨m',j'⟩:=p;rw[h1]at h;simp only at h;have g1:=ne h1;cases h2:Br c N m' j' with
  |error e=>rw[h2]at h;cases h
  | ok p=>
   obtain⟨n',j2⟩:=p;rw[h2]at h;simp only at h;have g2:n' = -1\/0<=n' := by
    unfold Br at h2;split at h2
    ·split at h2
     ·exact .inr (ne h2)
     ·simp only[Except.ok.injEq,Prod.mk.injEq]at h2;omega
    ·simp only[Except.ok.injEq,Prod.mk.injEq]at h2;omega
   unfold mU at h;split at h
   ·cases h
   ·split at h
    ·cases h
    ·simp only[Except.ok.injEq,Prod.mk.injEq]at h;obtain⟨rfl,rfl,_⟩:=h;omega
theorem Hi(hrd:vL N rd){i j:Int}{f g:Lv}{rest r:List Lv}(h0:0<=i)(hi:i<N)(h:eY c N rd i f rest=.ok (j,g,r)):i<j/\j<=N:=by
 unfold eY at h;split at h
 ·cases hf:f.fac with
  |none=>rw[hf]at h;cases h
  | some p=>
   rw[hf]at h;simp only at h;cases hp:p5 c N i f p with
   |error e=>rw[hp]at h;cases h
   | ok q=>
    obtain⟨j',g'⟩:=q;rw[hp]at h;simp only[Except.ok.injEq,Prod.mk.injEq]at h;obtain⟨rfl,rfl,rfl⟩:=h;unfold p5 at hp;split at hp
    ·simp only[Except.ok.injEq,Prod.mk.injEq]at hp;omega
    ·split at hp
     ·simp only[Except.ok.injEq,Prod.mk.injEq]at hp;omega
     ·split at hp
      ·simp only[Except.ok.injEq,Prod.mk.injEq]at hp;omega
      ·cases hb:oq c N i with
       |error e=>rw[hb]at hp;cases hp
       |ok q=>
        obtain⟨m,n,k⟩:=q;rw[hb]at hp;simp only[Except.ok.injEq,Prod.mk.injEq]at hp;have:=Bo hb;omega
 ·split at h
  ·simp only[Except.ok.injEq,Prod.mk.injEq]at h;omega
  ·split at h
   ·simp only[Except.ok.injEq,Prod.mk.injEq]at h;omega
   ·split at h
    ·cases rest with
     |nil=>cases h
     |cons g r=>simp only[Except.ok.injEq,Prod.mk.injEq]at h;omega
    ·split at h
     ·split at h
      ·cases h
      ·simp only[Except.ok.injEq,Prod.mk.injEq]at h;omega
     ·cases hS:rd i with
      |error e=>rw[hS]at h;cases h
      |ok q=>
       obtain⟨S,k⟩:=q;rw[hS]at h;simp only[Except.ok.injEq,Prod.mk.injEq]at h;have:=hrd i S k h0 hi hS;omega
theorem T6(hrd:vL N rd):∀ (n m:Nat) (i:Int) (f:Lv) (rest:List Lv),0<=i->N-i<n->N-i<m->runN c N rd n i f rest=runN c N rd m i f rest:=by
 intro n
 induction n with
 |zero=>
  intro m i f rest h0 h1 h2;cases m with
  |zero=>rfl
  |succ m=>simp only[runN];rw[if_neg (by omega)]
 | succ n ih=>
  intro m i f rest h0 h1 h2;cases m with
  |zero=>simp only[runN];rw[if_neg (by omega)]
  | succ m=>
   simp only[runN];by_cases hi:i<N
   ·rw[if_pos hi,if_pos hi];cases hs:eY c N rd i f rest with
    |error e=>rfl
    |ok q=>
     obtain⟨j,g,r⟩:=q;have:=Hi hrd h0 hi hs;exact ih m j g r (by omega) (by omega) (by omega)
   ·rw[if_neg hi,if_neg hi]
theorem Qp{i:Int}{f:Lv}{rest:List Lv}(hi:¬ i<N):run c N rd i f rest=.ok (f,rest):=by
 unfold run;simp only[runN];rw[if_neg hi]
theorem gY(hrd:vL N rd){i:Int}{f:Lv}{rest:List Lv}(h0:0<=i)(hi:i<N):run c N rd i f rest=match eY c N rd i f rest with
  |.error e=>.error e
  |.ok (j,g,r)=>run c N rd j g r:=by
 unfold run;rw[runN,if_pos hi];cases hs:eY c N rd i f rest with
 |error e=>rfl
 |ok q=>
  obtain⟨j,g,r⟩:=q;have:=Hi hrd h0 hi hs;exact T6 hrd _ _ j g r (by omega) (by omega) (by omega)
theorem aeM(hrd:vL N rd):∀ (n:Nat) (i:Int) (p:RT) (f:Lv) (rest:List Lv),0<=i->i<=N->N-i<n->f.fac=some p ->
  match jt c N n p.val i with
  |.error e=>py (run c N rd i f rest)=.error e
  |.ok (r,j)=>i<=j/\j<=N/\(j<N->¬ br (c j))/\∃ q,r=RT.val q/\run c N rd i f rest=run c N rd j { f with fac:=some q } rest:=by
 intro n
 induction n with
 |zero=>intro i p f rest _ _ h;omega
 | succ n ih=>
  intro i p f rest h0 hiN hn hf;have same:f={ f with fac:=some p }:=by cases f;simp only at hf;subst hf;rfl
  have go:∀ (q:RT) (j:Int),i<j->j<=N->eY c N rd i f rest=.ok (j,{ f with fac:=some q },rest)->∀ res,jt c N (n+1) p.val i=res->jt c N n q.val j=res ->
    match res with
    |.error e=>py (run c N rd i f rest)=.error e
    |.ok (r,j)=>i<=j/\j<=N/\(j<N->¬ br (c j))/\∃ q,r=RT.val q/\run c N rd i f rest=run c N rd j { f with fac:=some q } rest:=by
   intro q j hij hjN hs res _ hr;have:=ih j q { f with fac:=some q } rest (by omega) hjN (by omega) rfl;rw[hr]at this;have hi:i<N:=by omega
   rw[gY hrd h0 hi,hs];cases res with
   |error e=>exact this
   |ok x=>
    obtain⟨r,k⟩:=x;obtain⟨g1,g2,g3,q',g4,g5⟩:=this;exact⟨by omega,g2,g3,q',g4,g5⟩
  by_cases hi:i<N
  ·have hP:∀ x,br (c i)->p5 c N i f p=x->eY c N rd i f rest=match x with|.error e=>.error e|.ok (j,g)=>.ok (j,g,rest):=λx hp hx=>by
    unfold eY;rw[if_pos hp,hf];simp only[hx]
   have hE:jt c N (n+1) p.val i=if c i=42 then jt c N n (gf p.val) (i+1)
     else if c i=43 then jt c N n (aX .cat p.val (gf p.val)) (i+1)
     else if c i=63 then jt c N n (bM p.val) (i+1)
     else if c i=123 then
      match oq c N i with
      |.error e=>.error e
      |.ok (m,n',j)=>jt c N n (dy p.val m n') j
     else .ok (p.val,i):=by
    rw[jt,if_neg (by omega)]
    all_goals rfl
   by_cases h42:c i=42
   ·rw[hE,if_pos h42,zT];exact go _ (i+1) (by omega) (by omega) (by rw[hP _ (by unfold br;omega) rfl];unfold p5;rw[if_pos h42]) _ (by rw[hE,if_pos h42,zT]) rfl
   ·by_cases h43:c i=43
    ·rw[hE,if_neg h42,if_pos h43,AK];exact go _ (i+1) (by omega) (by omega) (by rw[hP _ (by unfold br;omega) rfl];unfold p5;rw[if_neg h42,if_pos h43]) _ (by rw[hE,if_neg h42,if_pos h43,AK]) rfl
    ·by_cases h63:c i=63
     ·rw[hE,if_neg h42,if_neg h43,if_pos h63,Dk];exact go _ (i+1) (by omega) (by omega) (by rw[hP _ (by unfold br;omega) rfl];unfold p5;rw[if_neg h42,if_neg h43,if_pos h63]) _ (by rw[hE,if_neg h42,if_neg h43,if_pos h63,Dk]) rfl
     ·by_cases h123:c i=123
      ·have hps:p5 c N i f p=match oq c N i with
         |.error e=>.error e
         |.ok (m,n,j)=>.ok (j,{ f with fac:=some (.rep p m n) }):=by
        unfold p5;rw[if_neg h42,if_neg h43,if_neg h63]
       rw[hE,if_neg h42,if_neg h43,if_neg h63,if_pos h123];cases hb:oq c N i with
       |error e=>
        simp only;rw[gY hrd h0 hi,hP _ (by unfold br;omega) hps,hb];rfl
       |ok x=>
        obtain⟨m,n',j⟩:=x;have g1:=Bo hb;obtain⟨g2,g3⟩:=ZA hb;simp only;rw[vm p m n' g2 g3 (wG p)];exact go _ j g1.1 g1.2 (by rw[hP _ (by unfold br;omega) hps,hb]) _ (by rw[hE,if_neg h42,if_neg h43,if_neg h63,if_pos h123,hb];simp only;rw[vm p m n' g2 g3 (wG p)]) rfl
      ·rw[hE,if_neg h42,if_neg h43,if_neg h63,if_neg h123];exact⟨Int.le_refl _,by omega,λ_ hp=>by unfold br at hp;omega,p,rfl,by rw[<- same]⟩
  ·rw[jt,if_pos hi];exact⟨Int.le_refl _,hiN,λh=>absurd h hi,p,rfl,by rw[<- same]⟩
def uG(c:Int->Int)(N:Int)(rd:Int->Except (Int×Int) (BitVec 256×Int))(n:Nat):Prop:=∀ (i:Int) (f:Lv) (rest:List Lv),0<=i->i<N->¬ gP (c i)->¬ br (c i)->rest.length+n=1000 ->
  match bx c N rd n i with
  |.error e=>py (run c N rd i f rest)=.error e
  |.ok (r,j)=>i<j/\j<=N/\∃ t,r=RT.val t/\run c N rd i f rest=run c N rd j { fg f with fac:=some t } rest
theorem G5(o:Option RT):vx (o.map RT.val)=(o.getD .eps).val:=by cases o<;>rfl
theorem WH(o:Option RT)(p:RT):zJ (o.map RT.val) p.val=(alP o p).val:=by cases o<;>rfl
theorem Fp(hrd:vL N rd){n:Nat}(ha:uG c N rd n):∀ (k:Nat) (i:Int) (f:Lv) (rest:List Lv),0<=i->i<=N->N-i<k->(f.fac≠none->i<N->¬ br (c i))->rest.length+n=1000 ->
  match ft c N (bx c N rd n) k ((rowOf f.row f.fac).map RT.val) i with
  |.error e=>py (run c N rd i f rest)=.error e
  |.ok (r,j)=>i<=j/\j<=N/\(j<N->gP (c j))/\∃ row fac,r=((rowOf row fac).getD .eps).val/\run c N rd i f rest=run c N rd j { f with row:=row,fac:=fac } rest:=by
 intro k
 induction k with
 |zero=>intro i f rest _ _ h;omega
 | succ k ih=>
  intro i f rest h0 hiN hk hp hd;by_cases hi:i<N
  ·by_cases he:gP (c i)
   ·rw[ft,if_neg (by omega),if_pos he,G5];exact⟨Int.le_refl _,hiN,λ_=>he,f.row,f.fac,rfl,rfl⟩
   ·by_cases hps:br (c i)
    ·rw[ft,if_neg (by omega),if_neg he,if_pos hps];have hf:f.fac=none:=by
      cases hf:f.fac with
      |none=>rfl
      |some p=>exact absurd hps (hp (by rw[hf];simp) hi)
     simp only;rw[gY hrd h0 hi];unfold eY;rw[if_pos hps,hf];rfl
    ·rw[ft,if_neg (by omega),if_neg he,if_neg hps];have h1:=ha i f rest h0 hi he hps hd;cases hA:bx c N rd n i with
     |error e=>rw[hA]at h1;exact h1
     | ok x=>
      obtain⟨a,j⟩:=x;rw[hA]at h1;obtain⟨g1,g2,t,rfl,g3⟩:=h1;have h2:=aeM (c:=c) hrd (N.toNat+1) j t { fg f with fac:=some t } rest (by omega) g2 (by omega) rfl;simp only;cases hR:jt c N (N.toNat+1) t.val j with
      |error e=>rw[hR]at h2;simp only at h2 ⊢;rw[g3,h2]
      | ok y=>
       obtain⟨p,l⟩:=y;rw[hR]at h2;obtain⟨g4,g5,g6,q,rfl,g7⟩:=h2;simp only;have h3:=ih l { fg f with fac:=some q } rest (by omega) g5 (by omega) (λ_=>g6) hd;have e1:some (zJ ((rowOf f.row f.fac).map RT.val) q.val)=(rowOf (fg f).row (some q)).map RT.val:=by
        rw[WH];rfl
       rw[e1];simp only at h3;revert h3;cases ft c N (bx c N rd n) k ((rowOf (fg f).row (some q)).map RT.val) l with
       |error e=>intro h3;simp only at h3 ⊢;rw[g3,g7,h3]
       |ok z=>
        obtain⟨r,m⟩:=z;rintro⟨g8,g9,g10,row,fac,g11,g12⟩;exact⟨by omega,g9,g10,row,fac,g11,by rw[g3,g7,g12];rfl⟩
  ·rw[ft,if_pos hi,G5];exact⟨Int.le_refl _,hiN,λh=>absurd h hi,f.row,f.fac,rfl,rfl⟩
theorem Sg(hrd:vL N rd){n:Nat}(ha:uG c N rd n):∀ (k:Nat) (i:Int) (f:Lv) (rest:List Lv),0<=i->i<=N->N-i<k->(i<N->gP (c i))->rest.length+n=1000 ->
  match lT c N (ft c N (bx c N rd n) (N.toNat+1) none) k (eX f).val i with
  |.error e=>py (run c N rd i f rest)=.error e
  |.ok (r,j)=>i<=j/\j<=N/\(j<N->c j=124\/c j=41)/\∃ g:Lv,g.place=f.place/\g.alt=f.alt/\r=(eX g).val/\run c N rd i f rest=run c N rd j g rest:=by
 intro k
 induction k with
 |zero=>intro i f rest _ _ h;omega
 | succ k ih=>
  intro i f rest h0 hiN hk he hd;by_cases hi:i<N
  ·have go:∀ (mk:RT->RT->RT) (mkx:Rx->Rx->Rx),(∀ a b:RT,aX mkx a.val b.val=(mk a b).val)->(c i=38\/c i=45)->(∀ (m:RT) (g:Lv),g.meet=some m->g.sgn=c i->eX g=mk m ((rowOf g.row g.fac).getD .eps)) ->
     match (match ft c N (bx c N rd n) (N.toNat+1) none (i+1) with
      |.error e=>(.error e:Except (Int×Int) (RL×Int))
      |.ok (r,j)=>lT c N (ft c N (bx c N rd n) (N.toNat+1) none) k (aX mkx (eX f).val r) j) with
     |.error e=>py (run c N rd i f rest)=.error e
     |.ok (r,j)=>i<=j/\j<=N/\(j<N->c j=124\/c j=41)/\∃ g:Lv,g.place=f.place/\g.alt=f.alt/\r=(eX g).val/\run c N rd i f rest=run c N rd j g rest:=by
    intro mk mkx hmk hc hmt;have hs:eY c N rd i f rest=.ok (i+1,{ mi f with sgn:=c i },rest):=by
     unfold eY;rw[if_neg (by unfold br;omega),if_neg (by omega),if_pos hc]
    have h1:=Fp hrd ha (N.toNat+1) (i+1) { mi f with sgn:=c i } rest (by omega) (by omega) (by omega) (λh=>absurd rfl h) hd;have hr:run c N rd i f rest=run c N rd (i+1) { mi f with sgn:=c i } rest:=by rw[gY hrd h0 hi,hs]
    have e0:(rowOf ({ mi f with sgn:=c i }:Lv).row ({ mi f with sgn:=c i }:Lv).fac).map RT.val=none:=rfl;rw[e0]at h1;revert h1;cases ft c N (bx c N rd n) (N.toNat+1) none (i+1) with
    |error e=>intro h1;simp only at h1 ⊢;rw[hr];exact h1
    | ok z=>
     obtain⟨r,j⟩:=z;rintro⟨g1,g2,g3,row,fac,rfl,g4⟩;simp only;rw[hmk];have hg:mk (eX f) ((rowOf row fac).getD .eps)=eX { mi f with sgn:=c i,row:=row,fac:=fac }:=(hmt (eX f) { mi f with sgn:=c i,row:=row,fac:=fac } rfl rfl).symm;rw[hg]
     have h2:=ih j { mi f with sgn:=c i,row:=row,fac:=fac } rest (by omega) g2 (by omega) g3 hd;revert h2;cases lT c N (ft c N (bx c N rd n) (N.toNat+1) none) k (eX { mi f with sgn:=c i,row:=row,fac:=fac }).val j with
     |error e=>intro h2;simp only at h2 ⊢;rw[hr];exact (congrArg py g4).trans h2
     |ok y=>
      obtain⟨r2,j2⟩:=y;rintro⟨g5,g6,g7,g,g8,g9,g10,g11⟩;exact⟨by omega,g6,g7,g,g8,g9,g10,by rw[hr];exact g4.trans g11⟩
   by_cases h38:c i=38
   ·rw[lT,if_neg (by omega),if_pos h38];exact go .and .and (λa b=>rfl) (.inl h38) λm g h1 h2=>by unfold eX;rw[h1,h2,h38];simp[lD]
   ·by_cases h45:c i=45
    ·rw[lT,if_neg (by omega),if_neg h38,if_pos h45];exact go .minus .minus (λa b=>rfl) (.inr h45) λm g h1 h2=>by unfold eX;rw[h1,h2,h45];simp[lD]
    ·rw[lT,if_neg (by omega),if_neg h38,if_neg h45];have:=he hi;exact⟨Int.le_refl _,hiN,λ_=>by unfold gP at this;omega,f,rfl,rfl,rfl,rfl⟩
  ·rw[lT,if_pos hi];exact⟨Int.le_refl _,hiN,λh=>absurd h hi,f,rfl,rfl,rfl,rfl⟩
theorem yA(hrd:vL N rd){n:Nat}(ha:uG c N rd n)(i:Int)(f:Lv)(rest:List Lv)(h0:0<=i)(hiN:i<=N)(hd:rest.length+n=1000)(h1:f.meet=none)(h2:f.row=none)(h3:f.fac=none) :
  match lV c N (ft c N (bx c N rd n) (N.toNat+1) none) i with
  |.error e=>py (run c N rd i f rest)=.error e
  |.ok (r,j)=>i<=j/\j<=N/\(j<N->c j=124\/c j=41)/\∃ g:Lv,g.place=f.place/\g.alt=f.alt/\r=(eX g).val/\run c N rd i f rest=run c N rd j g rest:=by
 have g:=Fp hrd ha (N.toNat+1) i f rest h0 hiN (by omega) (λh=>absurd h3 h) hd;have e0:(rowOf f.row f.fac).map RT.val=none:=by rw[h2,h3];rfl
 rw[e0]at g;unfold lV;revert g;cases ft c N (bx c N rd n) (N.toNat+1) none i with
 |error e=>exact λg=>g
 | ok z=>
  obtain⟨r,j⟩:=z;rintro⟨g1,g2,g3,row,fac,rfl,g4⟩;simp only;have hm:(rowOf row fac).getD .eps=eX { f with row:=row,fac:=fac }:=by unfold eX;rw[h1];rfl
  rw[hm];have h5:=Sg hrd ha (N.toNat+1) j { f with row:=row,fac:=fac } rest (by omega) g2 (by omega) g3 hd;revert h5;cases lT c N (ft c N (bx c N rd n) (N.toNat+1) none) (N.toNat+1) (eX { f with row:=row,fac:=fac }).val j with
  |error e=>intro h5;exact (congrArg py g4).trans h5
  |ok y=>
   obtain⟨r2,j2⟩:=y;rintro⟨g5,g6,g7,g,g8,g9,g10,g11⟩;exact⟨by omega,g6,g7,g,g8,g9,g10,g4.trans g11⟩
theorem YH(hrd:vL N rd){n:Nat}(ha:uG c N rd n):∀ (k:Nat) (i:Int) (f:Lv) (rest:List Lv),0<=i->i<=N->N-i<k->(i<N->c i=124\/c i=41)->rest.length+n=1000 ->
  match zu c N (lV c N (ft c N (bx c N rd n) (N.toNat+1) none)) k (iT f).val i with
  |.error e=>py (run c N rd i f rest)=.error e
  |.ok (r,j)=>i<=j/\j<=N/\(j<N->c j=41)/\∃ g:Lv,g.place=f.place/\r=(iT g).val/\run c N rd i f rest=run c N rd j g rest:=by
 intro k
 induction k with
 |zero=>intro i f rest _ _ h;omega
 | succ k ih=>
  intro i f rest h0 hiN hk he hd;by_cases hi:i<N/\c i=124
  ·rw[zu,if_pos hi];have hs:eY c N rd i f rest=.ok (i+1,rY f,rest):=by
    unfold eY;rw[if_neg (by unfold br;omega),if_pos hi.2]
   have hr:run c N rd i f rest=run c N rd (i+1) (rY f) rest:=by rw[gY hrd h0 hi.1,hs]
   have h1:=yA hrd ha (i+1) (rY f) rest (by omega) (by omega) hd rfl rfl rfl;revert h1;cases lV c N (ft c N (bx c N rd n) (N.toNat+1) none) (i+1) with
   |error e=>intro h1;simp only at h1 ⊢;rw[hr];exact h1
   | ok z=>
    obtain⟨r,j⟩:=z;rintro⟨g1,g2,g3,g,g4,g5,rfl,g6⟩;simp only;have e1:aX .alt (iT f).val (eX g).val=(iT g).val:=by
     have:iT g=.alt (iT f) (eX g):=by
      show Zl g.alt (eX g)=_;rw[g5];rfl
     rw[this];rfl
    rw[e1];have h2:=ih j g rest (by omega) g2 (by omega) g3 hd;revert h2;cases zu c N (lV c N (ft c N (bx c N rd n) (N.toNat+1) none)) k (iT g).val j with
    |error e=>intro h2;simp only at h2 ⊢;rw[hr,g6,h2]
    |ok y=>
     obtain⟨r2,j2⟩:=y;rintro⟨g7,g8,g9,g',g10,g11,g12⟩;exact⟨by omega,g8,g9,g',by rw[g10,g4];rfl,g11,by rw[hr,g6,g12]⟩
  ·rw[zu,if_neg hi];exact⟨Int.le_refl _,hiN,λh=>by have:=he h;omega,f,rfl,rfl,rfl⟩
theorem D7(hrd:vL N rd){n:Nat}(ha:uG c N rd n)(i p:Int)(rest:List Lv)(h0:0<=i)(hiN:i<=N)(hd:rest.length+n=1000) :
  match xJ c N (bx c N rd n) i with
  |.error e=>py (run c N rd i (gK p) rest)=.error e
  |.ok (r,j)=>i<=j/\j<=N/\(j<N->c j=41)/\∃ g:Lv,g.place=p/\r=(iT g).val/\run c N rd i (gK p) rest=run c N rd j g rest:=by
 have h1:=yA hrd ha i (gK p) rest h0 hiN hd rfl rfl rfl;unfold xJ ajO;revert h1;cases lV c N (ft c N (bx c N rd n) (N.toNat+1) none) i with
 |error e=>exact λh=>h
 | ok z=>
  obtain⟨r,j⟩:=z;rintro⟨g1,g2,g3,g,g4,g5,rfl,g6⟩;simp only;have e1:(eX g).val=(iT g).val:=by
   have:iT g=eX g:=by
    show Zl g.alt (eX g)=_;rw[g5];rfl
   rw[this]
  rw[e1];have h2:=YH hrd ha (N.toNat+1) j g rest (by omega) g2 (by omega) g3 hd;revert h2;cases zu c N (lV c N (ft c N (bx c N rd n) (N.toNat+1) none)) (N.toNat+1) (iT g).val j with
  |error e=>intro h2;simp only at h2 ⊢;rw[g6,h2]
  |ok y=>
   obtain⟨r2,j2⟩:=y;rintro⟨g7,g8,g9,g',g10,g11,g12⟩;exact⟨by omega,g8,g9,g',by rw[g10,g4];rfl,g11,by rw[g6,g12]⟩
theorem IK(hrd:vL N rd)(i:Int)(f:Lv)(rest:List Lv)(h0:0<=i)(hi:i<N)(he:¬ gP (c i))(hp:¬ br (c i))(h40:c i≠40) :
  match sO rd i with
  |.error e=>py (run c N rd i f rest)=.error e
  |.ok (r,j)=>i<j/\j<=N/\∃ t,r=RT.val t/\run c N rd i f rest=run c N rd j { fg f with fac:=some t } rest:=by
 have hs:eY c N rd i f rest=match rd i with
  |.error e=>.error e
  |.ok (S,j)=>.ok (j,{ fg f with fac:=some (.cls S) },rest):=by
  unfold gP at he;unfold eY;rw[if_neg hp,if_neg (by omega),if_neg (by omega),if_neg (by omega),if_neg h40]
 unfold sO;rw[gY hrd h0 hi,hs];cases hS:rd i with
 |error e=>rfl
 |ok q=>
  obtain⟨S,j⟩:=q;have:=hrd i S j h0 hi hS;exact⟨this.1,this.2,.cls S,rfl,rfl⟩
theorem tL(hrd:vL N rd):∀ n,uG c N rd n:=by
 intro n
 induction n with
 | zero=>
  intro i f rest h0 hi he hp hd;by_cases h40:c i=40
  ·rw[bx,if_pos h40];simp only;rw[gY hrd h0 hi];unfold eY;rw[if_neg hp,if_neg (by omega),if_neg (by omega),if_neg (by omega),if_pos h40,if_pos (by omega)];rfl
  ·rw[bx,if_neg h40];exact IK hrd i f rest h0 hi he hp h40
 | succ n ih=>
  intro i f rest h0 hi he hp hd;by_cases h40:c i=40
  ·rw[bx,if_pos h40];have hs:eY c N rd i f rest=.ok (i+1,gK i,fg f::rest):=by
    unfold eY;rw[if_neg hp,if_neg (by omega),if_neg (by omega),if_neg (by omega),if_pos h40,if_neg (by omega)]
   have hr:run c N rd i f rest=run c N rd (i+1) (gK i) (fg f::rest):=by rw[gY hrd h0 hi,hs]
   have h1:=D7 hrd ih (i+1) i (fg f::rest) (by omega) (by omega) (by simp only[List.length_cons];omega);revert h1;cases xJ c N (bx c N rd n) (i+1) with
   |error e=>intro h1;simp only[vd]at h1 ⊢;rw[hr,h1]
   | ok z=>
    obtain⟨r,j⟩:=z;rintro⟨g1,g2,g3,g,g4,rfl,g5⟩;simp only[vd];by_cases hj:j<N
    ·rw[if_neg (by omega)];have h41:=g3 hj;have hs2:eY c N rd j g (fg f::rest)=.ok (j+1,{ fg f with fac:=some (iT g) },rest):=by
      unfold eY;rw[if_neg (by unfold br;omega),if_neg (by omega),if_neg (by omega),if_pos h41]
     refine⟨by omega,by omega,iT g,rfl,?_⟩;rw[hr,g5,gY hrd (by omega) hj,hs2]
    ·rw[if_pos hj];simp only;rw[hr,g5,Qp hj];simp[py,g4]
  ·rw[bx,if_neg h40];exact IK hrd i f rest h0 hi he hp h40
def alX:Except (Int×Int) RT->Except (Int×Int) Rx
 |.error e=>.error e
 |.ok t=>.ok t.expand
theorem S9(hrd:vL N rd)(hN:0<=N):Bg c N rd=alX (iM c N rd):=by
 unfold Bg iM;by_cases hb:1048576<N
 ·rw[if_pos hb,if_pos hb];rfl
 ·rw[if_neg hb,if_neg hb];have h1:=D7 hrd (tL (c:=c) hrd 1000) 0 (-1) [] (by omega) hN rfl;unfold alts;revert h1;cases xJ c N (bx c N rd 1000) 0 with
  |error e=>intro h1;simp only at h1;rw[h1];rfl
  | ok z=>
   obtain⟨r,j⟩:=z;rintro⟨g1,g2,g3,g,g4,rfl,g5⟩;rw[g5];by_cases hj:j<N
   ·have h41:=g3 hj;have hs:eY c N rd j g []=.error (20,j):=by
     unfold eY;rw[if_neg (by unfold br;omega),if_neg (by omega),if_neg (by omega),if_pos h41]
    rw[gY hrd (by omega) hj,hs];simp only[Ti];rw[if_pos hj];rfl
   ·rw[Qp hj];simp only[Ti,py];rw[if_neg hj,if_neg (show ¬ ([]:List Lv)≠[] by simp)];show (if 2000<(iT g).sz then _ else _)=_;by_cases hs:2000<(iT g).sz
    ·rw[if_pos hs,if_pos hs];rfl
    ·rw[if_neg hs,if_neg hs];rfl
end
end
section
open Go.RowKit Go.LE Go.Proofs.Tryz
abbrev CS:=BitVec 256
def wd(S:CS)(j:Nat):Int:=((S.extractLsb' (64*j) 64).toNat:Int)
def l7(S:CS):List Value:=[.int .u64 (wd S 0),.int .u64 (wd S 1),.int .u64 (wd S 2),.int .u64 (wd S 3)]
theorem tT(x:BitVec 64):IntKind.u64.wrap ((x.toNat:Nat):Int)=((x.toNat:Nat):Int):=by
 have:=x.isLt;simp only[IntKind.wrap,IntKind.bits,IntKind.signed,Bool.false_and,Bool.false_eq_true,if_false,decide_false,show (2:Int) ^ 64=18446744073709551616 from rfl];omega
theorem jF(x:BitVec 64):BitVec.ofInt 64 ((x.toNat:Nat):Int)=x:=by simp
theorem alL(x y:BitVec 64):cw .or .u64 (x.toNat:Nat) (y.toNat:Nat)=((x ||| y).toNat:Nat):=by
 show IntKind.u64.wrap (((BitVec.ofInt 64 ((x.toNat:Nat):Int) ||| BitVec.ofInt 64 ((y.toNat:Nat):Int):BitVec 64).toNat:Nat):Int)=_;rw[jF,jF,tT]
theorem Xm(x y:BitVec 64):cw .and .u64 (x.toNat:Nat) (y.toNat:Nat)=((x &&& y).toNat:Nat):=by
 show IntKind.u64.wrap (((BitVec.ofInt 64 ((x.toNat:Nat):Int) &&& BitVec.ofInt 64 ((y.toNat:Nat):Int):BitVec 64).toNat:Nat):Int)=_;rw[jF,jF,tT]
theorem aly(x y:BitVec 64):cw .xor .u64 (x.toNat:Nat) (y.toNat:Nat)=((x ^^^ y).toNat:Nat):=by
 show IntKind.u64.wrap (((BitVec.ofInt 64 ((x.toNat:Nat):Int) ^^^ BitVec.ofInt 64 ((y.toNat:Nat):Int):BitVec 64).toNat:Nat):Int)=_;rw[jF,jF,tT]
theorem alv(S T:CS)(j:Nat):cw .or .u64 (wd S j) (wd T j)=wd (S ||| T) j:=by
 rw[wd,wd,alL,wd,BitVec.extractLsb'_or]
theorem aj7(S T:CS)(j:Nat):cw .and .u64 (wd S j) (wd T j)=wd (S &&& T) j:=by
 rw[wd,wd,Xm,wd,BitVec.extractLsb'_and]
theorem ER(S:CS)(j:Nat)(hj:j<4):cw .xor .u64 (if IntKind.u64.signed=true then -1 else IntKind.u64.max) (wd S j)=wd (~~~S) j:=by
 have e:(if IntKind.u64.signed=true then -1 else IntKind.u64.max)=(((BitVec.allOnes 64).toNat:Nat):Int):=by decide
 rw[e,wd,aly,wd]
 congr 2
 apply BitVec.eq_of_getLsbD_eq;intro i hi;have h2:64*j+i<256:=oM;rw[BitVec.getLsbD_xor,BitVec.getLsbD_allOnes,BitVec.getLsbD_extractLsb',BitVec.getLsbD_extractLsb',BitVec.getLsbD_not];simp[hi,h2]
def vA(S:CS)(b:Nat):CS:=S ||| (1#256 <<< b)
theorem sP(S:CS)(b i:Nat)(hb:b<256):(vA S b).getLsbD i=(S.getLsbD i||decide (i=b)):=by
 simp only[vA,BitVec.getLsbD_or,BitVec.getLsbD_shiftLeft,BitVec.getLsbD_one];by_cases hi:i=b
 ·subst hi;simp[hb]
 ·have h:¬(i<256/\b<=i/\i-b=0):=oM;by_cases h1:i<256<;>by_cases h2:i<b<;>simp[h1,h2,hi]<;>omega
theorem ak8(b:Nat)(hb:b<64):IntKind.u64.wrap (1*2 ^ (min b 64))=(((1#64 <<< b).toNat:Nat):Int):=by
 rw[Nat.min_eq_left oM];have h:(1#64 <<< b).toNat=2 ^ b:=by
  rw[BitVec.toNat_shiftLeft,Nat.shiftLeft_eq];have:2 ^ b<2 ^ 64:=Nat.pow_lt_pow_right oM hb;simp;omega
 rw[<- tT,h];simp
theorem vK(S:CS)(b:Nat)(hb:b<256):cw .or .u64 (wd S (b / 64)) (IntKind.u64.wrap (1*2 ^ (min (b % 64) 64)))=wd (vA S b) (b / 64):=by
 rw[ak8 _ (Nat.mod_lt _ oM),wd,alL,wd]
 congr 2
 apply BitVec.eq_of_getLsbD_eq;intro i hi;have hdm:=Nat.div_add_mod b 64;rw[BitVec.getLsbD_or,BitVec.getLsbD_extractLsb',BitVec.getLsbD_extractLsb',sP _ _ _ hb,BitVec.getLsbD_shiftLeft,BitVec.getLsbD_one];have e:decide (64*(b / 64)+i=b)=decide (i=b % 64):=by rw[decide_eq_decide];omega
 rw[e];by_cases h1:i=b % 64
 ·subst h1;simp[hi]
 ·by_cases h2:i<b % 64<;>simp[hi,h1,h2]<;>omega
theorem S0(S:CS)(b j:Nat)(hb:b<256)(hj:j≠b / 64):wd (vA S b) j=wd S j:=by
 rw[wd,wd]
 congr 2
 apply BitVec.eq_of_getLsbD_eq;intro i hi;rw[BitVec.getLsbD_extractLsb',BitVec.getLsbD_extractLsb',sP _ _ _ hb];have:decide (64*j+i=b)=false:=by rw[decide_eq_false_iff_not];omega
 rw[this,Bool.or_false]
theorem afA(S:CS)(b:Nat)(hb:b<256):(l7 S).take (b / 64)++.int .u64 (wd (vA S b) (b / 64))::(l7 S).drop (b / 64+1)=l7 (vA S b):=by
 have hq:b / 64<4:=oM;have ne:∀ j,j≠b / 64->wd S j=wd (vA S b) j:=λj hj=>(S0 S b j hb hj).symm
 generalize hqe:b / 64=q at *
 match q,hq with
 |0,_=>simp[l7,ne 1,ne 2,ne 3]
 |1,_=>simp[l7,ne 0,ne 2,ne 3]
 |2,_=>simp[l7,ne 0,ne 1,ne 3]
 |3,_=>simp[l7,ne 0,ne 1,ne 2]
theorem aiN(S:CS)(b:Nat)(hb:b<256):decide (cw .and .u64 ((wd S (b / 64)).fdiv (2 ^ (min (b % 64) 64))) 1=1)=S.getLsbD b:=by
 have hm:b % 64<64:=Nat.mod_lt _ oM;rw[Nat.min_eq_left oM];have e1:(wd S (b / 64)).fdiv (2 ^ (b % 64))=(((S.extractLsb' (64*(b / 64)) 64) >>> (b % 64)).toNat:Nat):=by
  rw[wd,BitVec.toNat_ushiftRight,Nat.shiftRight_eq_div_pow];have:(2:Int) ^ (b % 64)=((2 ^ (b % 64):Nat):Int):=by simp
  rw[this,Int.fdiv_eq_ediv_of_nonneg _ (Int.natCast_nonneg _)];rfl
 rw[e1,show (1:Int)=(((1#64).toNat:Nat):Int) from rfl,Xm];rw[Bool.eq_iff_iff,decide_eq_true_eq];have hdm:=Nat.div_add_mod b 64;constructor
 ·intro h;have h' : (S.extractLsb' (64*(b / 64)) 64 >>> (b % 64)) &&& 1#64=1#64:=BitVec.eq_of_toNat_eq (by exact_mod_cast h);have:=congrArg (λx=>x.getLsbD 0) h';simp only[BitVec.getLsbD_and,BitVec.getLsbD_ushiftRight,BitVec.getLsbD_extractLsb',BitVec.getLsbD_one]at this;simpa [hm,hdm] using this
 ·intro h;have h' : (S.extractLsb' (64*(b / 64)) 64 >>> (b % 64)) &&& 1#64=1#64:=by
   apply BitVec.eq_of_getLsbD_eq;intro i hi;simp only[BitVec.getLsbD_and,BitVec.getLsbD_ushiftRight,BitVec.getLsbD_extractLsb',BitVec.getLsbD_one];by_cases h0:i=0
   ·subst h0;simp[hm,hdm,h]
   ·simp[h0]
  rw[h']
theorem rF(b:Nat):((b:Int)).fdiv 64=((b / 64:Nat):Int):=by
 rw[Int.fdiv_eq_ediv_of_nonneg _ oM];omega
theorem Hy(b:Nat)(hb:b<256):cw .and .u8 (b:Int) 63=((b % 64:Nat):Int):=by
 have:∀ b:Fin 256,cw .and .u8 ((b.val:Nat):Int) 63=((b.val % 64:Nat):Int):=by decide +kernel
 exact this ⟨b,hb⟩
theorem Tp(b:Nat)(hb:b<256):cw .and .i64 (b:Int) 63=((b % 64:Nat):Int):=by
 have:∀ b:Fin 256,cw .and .i64 ((b.val:Nat):Int) 63=((b.val % 64:Nat):Int):=by decide +kernel
 exact this ⟨b,hb⟩
theorem iH(S:CS)(j:Nat)(hj:j<4):(List.map SV.v (l7 S)).getD j (.v undef)=.v (.int .u64 (wd S j)):=by
 match j,hj with
 |0,_=>rfl
 |1,_=>rfl
 |2,_=>rfl
 |3,_=>rfl
theorem lr(S:CS)(b:Nat)(hb:b<256):List.take (b / 64) (List.map SV.v (l7 S))++[SV.v (.int .u64 (wd (vA S b) (b / 64)))]++List.drop (b / 64+1) (List.map SV.v (l7 S))=List.map SV.v (l7 (vA S b)):=by
 rw[<- afA S b hb];simp
theorem FL(S:CS):(List.map SV.v (l7 S)).length=4:=rfl
end
section
open Go.RowKit Go.LE Go.Proofs.Tryz
set_option maxRecDepth 10000
def Γ0:Env prog:=⟨λ_=>none,λ_=>none,λ_ _=>none⟩
def cC(S:CS):Value:=.agg (l7 S).toArray
theorem dX(S:CS):Value.agg (l7 S).toArray=cC S:=rfl
theorem lI(S:CS):(l7 S).length=4:=rfl
theorem np(S:CS):List.take 4 ((l7 S).map SV.v)=(l7 S).map SV.v:=rfl
theorem nG(S:CS):List.drop 4 ((l7 S).map SV.v)=[]:=rfl
theorem ll(S:CS):dv ((l7 S).map SV.v)=some (l7 S):=rfl
theorem qX(S:CS):((l7 S).map SV.v).all dm=true:=rfl
theorem E3(E:Nat->Value)(S:CS):den E (.agg ((l7 S).map SV.v))=cC S:=rfl
theorem jC(S:CS):((l7 S).map SV.v).length=4:=rfl
theorem e8(S:CS):partsOf (.v (cC S))=(l7 S).map SV.v:=rfl
theorem Zw(S:CS)(j i:Nat)(hi:i<64):(BitVec.ofInt 64 (wd S j)).getLsbD i=S.getLsbD (64*j+i):=by
 rw[wd,jF,BitVec.getLsbD_extractLsb'];simp[hi]
theorem cL(S T:CS)(h:cC S=cC T):S=T:=by
 have h:(l7 S)=l7 T:=congrArg (λv=>match v with|Value.agg a=>a.toList|_=>[]) h;simp only[l7,List.cons.injEq,Value.int.injEq,true_and,and_true]at h;have e0:=h.1;have e1:=h.2.1;have e2:=h.2.2.1;have e3:=h.2.2.2;apply BitVec.eq_of_getLsbD_eq;intro i hi
 have key:∀ j,wd S j=wd T j->i / 64=j->S.getLsbD i=T.getLsbD i:=λj e hj=>by
  have h1:=Zw S j (i % 64) oM;have h2:=Zw T j (i % 64) oM;rw[e]at h1;have:64*j+i % 64=i:=oM;rw[this]at h1 h2;rw[<- h1,<- h2]
 have:i / 64=0\/i / 64=1\/i / 64=2\/i / 64=3:=oM;rcases this with h|h|h|h
 ·exact key 0 e0 h
 ·exact key 1 e1 h
 ·exact key 2 e2 h
 ·exact key 3 e3 h
def Fl:=(aj @List.replicate_succ.{0} @List.replicate_zero.{0} @an @ab jo jl gS (aj ca cc b9 cg cf cj cd (aj ck fu fE fj fz fw dc (aj dh cZ db c8 dd pF o6 (aj px oZ w9 xp xm vS @cC.eq_1 (aa @alv @aj7))))))
theorem Sx(S T:CS)(w:World):Calls prog 274 #[cC S,cC T] w λe w' => e=.returned (cC (S ||| T))/\ah w [] w' := by
 refine af (nt:=26) [.cell 4 309] func274 rfl rfl rfl ?_;refine vR Γ0 (aa Fl @l7.eq_1) ?_;refine vR Γ0 (aa Fl @l7.eq_1) ?_;refine wZ Fl ?_;exact λE=>rfl
theorem af3(S:CS)(w:World):Calls prog 224 #[cC S] w λe w' => e=.returned (cC (~~~S))/\ah w [] w' := by
 have h0:=ER S 0 oM;have h1:=ER S 1 oM;have h2:=ER S 2 oM;have h3:=ER S 3 oM;refine af (nt:=16) [.cell 2 309] func224 rfl rfl rfl ?_;refine vR Γ0 (aa Fl @l7.eq_1) ?_;refine vR Γ0 (mh Fl @l7.eq_1 h0 h1 h2 h3) ?_;refine wZ Fl ?_;exact λE=>rfl
theorem adA(S:CS)(b:Nat)(hb:b<256)(w:World):Calls prog 225 #[cC S,.int .u8 b] w λe w' => e=.returned (.bool (S.getLsbD b))/\ah w [] w' := by
 have hq:b / 64<4:=oM;refine af (nt:=14) [.tmp 4] func225 rfl rfl rfl ?_;refine vR Γ0 Fl ?_
 refine Wp.o9 Γ0 b8 (by simp only[jD,Op.operands,Value.cells,σ0,σB,Nat.reduceEqDiff,Nat.reduceAdd,Nat.reduceMul,Nat.reduceLT,Nat.reduceLeDiff,Nat.reduceBEq,av,Int.reduceToNat,Int.reduceLT,Int.reduceLE,Nat.reduceDiv,Nat.reduceMod,Nat.reduceSub,Int.reducePow,Nat.reducePow,σP,σB3,Fl,rF,Hy b hb,iH S _ hq,aiN S b hb,FL];exact rfl) rfl ?_ ?_
 ·exact oo
 refine wZ Fl ?_;exact λE=>rfl
def pR(lo:Nat):Nat->CS
 |0=>0
 |n+1=>vA (pR lo n) (lo+n)
def span(lo hi:Nat):CS:=pR lo (hi+1-lo)
theorem CO(lo:Nat):∀ (n i:Nat),lo+n<=256->(pR lo n).getLsbD i=decide (lo<=i/\i<lo+n)
 |0,i,_=>by simp[pR]
 |n+1,i,h=>by
  rw[pR,sP _ _ _ oM,CO lo n i oM,<- Bool.decide_or,decide_eq_decide];omega
theorem Hx(lo hi i:Nat)(h:hi<256):(span lo hi).getLsbD i=decide (lo<=i/\i<=hi):=by
 by_cases hl:lo<=hi
 ·rw[span,CO _ _ _ oM,decide_eq_decide];omega
 ·rw[span,show hi+1-lo=0 by omega,pR];simp;omega
theorem yK:(l7 0).map SV.v=[SV.v (.int .u64 0),SV.v (.int .u64 0),SV.v (.int .u64 0),SV.v (.int .u64 0)]:=by
 simp[l7,wd]
def kt:=(aj @List.replicate_succ.{0} @List.replicate_zero.{0} @an @ab jo jl gS (aj ca cc b9 cg cf cj cd (aj ck fu fE fj fz fw dc (aj dh cZ db c8 dd pF o6 (uv px oZ w9 xp xm vS @cC.eq_1)))))
theorem aaS(lo hi:Nat)(hl:lo<256)(hh:hi<256)(w:World):Calls prog 271 #[.int .u8 lo,.int .u8 hi] w λe w' => e=.returned (cC (span lo hi))/\ah w [] w' := by
 have w0:IntKind.i64.wrap (lo:Int)=lo:=ae oM oM;have w1:IntKind.i64.wrap (hi:Int)=hi:=ae oM oM;refine af (nt:=25) [.cell 4 309] func271 rfl rfl rfl ?_;refine vR Γ0 kt ?_;refine vR Γ0 kt ?_;refine Wp.seq (Wp.seq ?_);refine vr Γ0 (aa kt w0) ?_;refine Wp.block ?_
 refine Wp.loop (λj:Nat=>⟨2,bm [(1,.is (.v (.int .u8 hi))),(4,.is (.own 0 0)),(5,.is (.own 8 0)),(6,.is (.v (.int .i64 ((lo+j:Nat):Int))))],aY [(0,.cells 309 [.v (.int .u64 0),.v (.int .u64 0),.v (.int .u64 0),.v (.int .u64 0)]),(8,.cells 309 ((l7 (pR lo j)).map .v))]⟩)
  (λj=>j<=hi+1-lo) (λj=>hi+1-lo-j) 0 ?_ (Nat.zero_le _) ?_
 ·exact wM (λk=>.key k) (eT kt @pR.eq_1 @pR.eq_2 @yK)
 rintro j h1;have hr2:IntKind.i64.wrap ((lo+j:Nat):Int)=((lo+j:Nat):Int):=ae oM oM;refine Wp.seq ?_;refine vR Γ0 (aa kt w1) ?_;refine wC kt (λhc=>?_) (λhc=>?_)
 ·simp only[decide_eq_true_eq]at hc;have hb:lo+j<256:=oM;have hq:(lo+j) / 64<4:=oM;have wn:IntKind.i64.wrap (((lo+j:Nat):Int)+1)=((lo+(j+1):Nat):Int):=wW;refine wK ?_;refine Wp.seq (Wp.block ?_)
  refine Wp.ac2 Γ0 b8 (by simp only[jD,Op.operands,Value.cells,σ0,σB,Nat.reduceEqDiff,Nat.reduceAdd,Nat.reduceMul,Nat.reduceLT,Nat.reduceLeDiff,Nat.reduceBEq,av,Int.reduceToNat,Int.reduceLT,Int.reduceLE,Nat.reduceDiv,Nat.reduceMod,Nat.reduceSub,Int.reducePow,Nat.reducePow,σP,σB3,kt,rF,Tp _ hb,iH _ _ hq,vK _ _ hb,lr _ _ hb,FL];exact rfl) rfl (by kernel_rfl) ?_ ?_
  ·exact oo
  refine qq ?_;refine vr Γ0 (aa kt wn) ?_;refine⟨j+1,oM,oM,?_⟩
  exact Le.mk (λk=>.key k) ⟨by simp[FV.keys,SV.keys,aw],by simp[aT.keys,aw,SV.keys,aA,aQ]⟩ (by simp only[jD,Op.operands,Value.cells,σ0,σB,Nat.reduceEqDiff,Nat.reduceAdd,Nat.reduceMul,Nat.reduceLT,Nat.reduceLeDiff,Nat.reduceBEq,av,Int.reduceToNat,Int.reduceLT,Int.reduceLE,Nat.reduceDiv,Nat.reduceMod,Nat.reduceSub,Int.reducePow,Nat.reducePow,σP,σB3,kt,pR,rF,iH _ _ hq,vK _ _ hb,lr _ _ hb,F6,ES,eZ,bI]<;>trivial) (by simp only[jD,Op.operands,Value.cells,σ0,σB,Nat.reduceEqDiff,Nat.reduceAdd,Nat.reduceMul,Nat.reduceLT,Nat.reduceLeDiff,Nat.reduceBEq,av,Int.reduceToNat,Int.reduceLT,Int.reduceLE,Nat.reduceDiv,Nat.reduceMod,Nat.reduceSub,Int.reducePow,Nat.reducePow,σP,σB3,kt,pR,rF,iH _ _ hq,vK _ _ hb,lr _ _ hb,tN,mz,fU,eB,fV,eZ]<;>trivial) (by simp[dQ]) sI
 ·simp only[decide_eq_false_iff_not]at hc;have hj:j=hi+1-lo:=oM;refine wE ?_;refine vR Γ0 (aa kt @l7.eq_1) ?_;refine wZ kt ?_;subst hj;exact λE=>rfl
def Km(s:ByteArray):Nat->CS
 |0=>0
 |n+1=>vA (Km s n) (bt s n).toNat
theorem fA(s:ByteArray)(i:Int):0<=bt s i/\bt s i<256:=by
 unfold bt;have:=(s.data[i.toNat]?.getD 0).toNat_lt;omega
theorem ai2(s:ByteArray)(hs:s.size<=140737488351232)(w:World):Calls prog 245 #[.string s] w λe w' => e=.returned (cC (Km s s.size))/\ah w [] w' := by
 refine af (nt:=25) [.cell 2 309] func245 rfl rfl rfl ?_;refine vR Γ0 kt ?_;refine vR Γ0 kt ?_;refine Wp.seq ?_;refine vR Γ0 kt ?_;refine Wp.block ?_
 refine Wp.loop (λj:Nat=>⟨2,bm [(0,.is (.v (.string s))),(2,.is (.own 0 0)),(3,.is (.own 8 0)),(6,.is (.v (.int .i64 s.size))),(7,.is (.v (.int .i64 j)))],aY [(0,.cells 309 [.v (.int .u64 0),.v (.int .u64 0),.v (.int .u64 0),.v (.int .u64 0)]),(8,.cells 309 ((l7 (Km s j)).map .v))]⟩)
  (λj=>j<=s.size) (λj=>s.size-j) 0 ?_ (Nat.zero_le _) ?_
 ·exact wM (λk=>.key k) (eT kt @Km.eq_1 @Km.eq_2 @yK)
 rintro j h1;refine vR Γ0 kt ?_;refine Wp.seq ?_;refine wC kt (λhc=>?_) (λhc=>?_)
 ·simp only[decide_eq_true_eq]at hc;have hj:j<s.size:=oM;obtain⟨b0,b1⟩:=fA s j;obtain⟨b,hbe⟩:=Int.eq_ofNat_of_zero_le b0;have hb:b<256:=oM;have hq:b / 64<4:=oM;have hof:Km s (j+1)=vA (Km s j) b:=by rw[Km,hbe];rfl
  have wn:IntKind.i64.wrap ((j:Int)+1)=((j+1:Nat):Int):=wW;refine wK ?_;refine Wp.seq (Wp.block ?_);refine vR Γ0 kt ?_
  refine Wp.ac2 Γ0 b8 (by simp only[jD,Op.operands,Value.cells,σ0,σB,Nat.reduceEqDiff,Nat.reduceAdd,Nat.reduceMul,Nat.reduceLT,Nat.reduceLeDiff,Nat.reduceBEq,av,Int.reduceToNat,Int.reduceLT,Int.reduceLE,Nat.reduceDiv,Nat.reduceMod,Nat.reduceSub,Int.reducePow,Nat.reducePow,σP,σB3,kt,hbe,rF,Hy _ hb,iH _ _ hq,vK _ _ hb,lr _ _ hb,FL];exact rfl) rfl (by kernel_rfl) ?_ ?_
  ·exact oo
  refine qq ?_;refine vr Γ0 (aa kt wn) ?_;refine⟨j+1,oM,oM,?_⟩
  exact Le.mk (λk=>.key k) ⟨by simp[FV.keys,SV.keys,aw],by simp[aT.keys,aw,SV.keys,aA,aQ]⟩ (by simp only[jD,Op.operands,Value.cells,σ0,σB,Nat.reduceEqDiff,Nat.reduceAdd,Nat.reduceMul,Nat.reduceLT,Nat.reduceLeDiff,Nat.reduceBEq,av,Int.reduceToNat,Int.reduceLT,Int.reduceLE,Nat.reduceDiv,Nat.reduceMod,Nat.reduceSub,Int.reducePow,Nat.reducePow,σP,σB3,kt,hof,hbe,rF,iH _ _ hq,vK _ _ hb,lr _ _ hb,F6,ES,eZ,bI]<;>trivial) (by simp only[jD,Op.operands,Value.cells,σ0,σB,Nat.reduceEqDiff,Nat.reduceAdd,Nat.reduceMul,Nat.reduceLT,Nat.reduceLeDiff,Nat.reduceBEq,av,Int.reduceToNat,Int.reduceLT,Int.reduceLE,Nat.reduceDiv,Nat.reduceMod,Nat.reduceSub,Int.reducePow,Nat.reducePow,σP,σB3,kt,hof,hbe,rF,iH _ _ hq,vK _ _ hb,lr _ _ hb,tN,mz,fU,eB,fV,eZ]<;>trivial) (by simp[dQ]) sI
 ·simp only[decide_eq_false_iff_not]at hc;have hj:j=s.size:=oM;refine wE ?_;refine vR Γ0 (aa kt @l7.eq_1) ?_;refine wZ kt ?_;subst hj;exact λE=>rfl
def ko(s:ByteArray)(c:Int):Int:=Lib.indexByte s.data.toList c.toNat.toUInt8
def ixX:Qx prog 231 where
 pre:=λ_ _=>λ| [.val (.string _),.val (.int .u8 _)]=>True|_=>False
 res:=λ_=>λ| [.val (.string s),.val (.int .u8 c)]=>.int .i64 (ko s c)|_=>undef
 ok:=by
  intro W w bs us as_ hk hu hp;split at hp
  ·rename_i s c
   match us,hu with
   |[u,v],hu=>
    obtain⟨rfl,rfl,_⟩:=hu;rw[run_callFunc_extern func231 (by kernel_rfl) (by kernel_rfl) (by kernel_rfl) (e:=Extern.BytealgIndexByte.indexByte) (by kernel_rfl),Lib.run_indexByteString];rfl
  ·exact hp.elim
theorem agU(W:World)(s:ByteArray)(c:Int):ixX.res W [.val (.string s),.val (.int .u8 c)]=.int .i64 (ko s c):=rfl
theorem acL(W:World)(bs:List Nat)(s:ByteArray)(c:Int):ixX.pre W bs [.val (.string s),.val (.int .u8 c)]=True:=rfl
noncomputable def Γ10:Env prog:=⟨λ| 231=>some ixX.spec|_=>none,λ| _=>none,λ_ _=>none⟩
theorem aeR:Γ10.sp 231=some ixX.spec:=rfl
def ab4:=(aj @List.replicate_succ.{0} @List.replicate_zero.{0} @an @ab jo jl gS (aj ca cc b9 cg cf cj cd (aj ck fu fE fj fz fw dc (aj dh cZ db c8 dd aaY WK (aj Vg Xy zQ AI zz zD zd (aj A6 yU AD Am AM PL OS (aj QJ Oy PD Og Qa O8 Qu (aj OA Qd PG Pb @aG @al @ay (eT @ax @agU @acL aeR)))))))))
theorem TV(s:ByteArray)(c:Int)(w:World):Calls prog 189 #[.string s,.int .u8 c] w λe w' => e=.returned (.int .i64 (ko s c))/\ah w [] w' := by
 refine af (nt:=8) [.tmp 4] func189 rfl rfl rfl ?_;refine vR Γ10 ab4 ?_;refine vR Γ10 ab4 ?_;refine wZ ab4 ?_;exact λE=>rfl
def OB:aM prog 189 where
 pre:=λW bs=>λ| [.val (.string s),.val (.int .u8 c)]=>True|_=>False
 res:=λW=>λ| [.val (.string s),.val (.int .u8 c)]=>.int .i64 (ko s c)|_=>undef
 enters:=call189
 ok:=by
  intro W w bs us as_ hk hu hp;split at hp
  ·rename_i s c
   match us,hu with
   |[u0,u1],hu=>
    obtain⟨rfl,rfl,_⟩:=hu;exact TV s c w
  ·exact hp.elim
theorem Tm(W:World)(s:ByteArray)(c:Int):OB.res W [.val (.string s),.val (.int .u8 c)]=.int .i64 (ko s c):=rfl
theorem Rl(W:World)(bs:List Nat)(s:ByteArray)(c:Int):OB.pre W bs [.val (.string s),.val (.int .u8 c)]=(True):=rfl
noncomputable def Γ11:Env prog:=⟨λ| 189=>some OB.spec|_=>none,λ| _=>none,λ_ _=>none⟩
theorem aet:Γ11.sp 189=some OB.spec:=rfl
def afg:=(eT ab4 Tm Rl aet)
theorem aii(s:ByteArray)(c:Int)(w:World):Calls prog 138 #[.string s,.int .u8 c] w λe w' => e=.returned (.int .i64 (ko s c))/\ah w [] w' := by
 refine af (nt:=8) [.tmp 4] func138 rfl rfl rfl ?_;refine vR Γ11 afg ?_;refine vR Γ11 afg ?_;refine wZ afg ?_;exact λE=>rfl
def ixC:aM prog 138 where
 pre:=λW bs=>λ| [.val (.string s),.val (.int .u8 c)]=>True|_=>False
 res:=λW=>λ| [.val (.string s),.val (.int .u8 c)]=>.int .i64 (ko s c)|_=>undef
 enters:=call138
 ok:=by
  intro W w bs us as_ hk hu hp;split at hp
  ·rename_i s c
   match us,hu with
   |[u0,u1],hu=>
    obtain⟨rfl,rfl,_⟩:=hu;exact aii s c w
  ·exact hp.elim
theorem EG(W:World)(s:ByteArray)(c:Int):ixC.res W [.val (.string s),.val (.int .u8 c)]=.int .i64 (ko s c):=rfl
theorem FX(W:World)(bs:List Nat)(s:ByteArray)(c:Int):ixC.pre W bs [.val (.string s),.val (.int .u8 c)]=(True):=rfl
def EM(s:ByteArray)(i:Int):List AV:=[.val (.string s),.val (.int .i64 i)]
def jP(i:Int):List PanicEntry:=[{ v:=.iface 39 (.agg #[.int .i64 10,.int .i64 i,.string ⟨#[]⟩]),recovered:=false }]
def IP:=(bQ afg @EG @FX)
theorem YO(s:ByteArray)(i:Int)(u:Value)(fp:List Nat)(w:World)(h0:0<=i)(ho:bC w u fp 375 (EM s i))(hlt:∀ b∈fp,b<w.heap.size) :
  Calls prog 272 (#[u]++#[]) w λe w' => gN w u fp 375 e w' (.ret (.tuple #[.int .u8 (bt s i),.bool (decide (i<s.size))]) (EM s i)):=by
 refine bh (nt:=23) #[] [.tmp 2,.tmp 3] (by show 2<=7;omega) ho hlt func272 rfl rfl rfl ?_;refine vR Γ11 (aa IP @EM.eq_1) ?_;refine Wp.seq ?_;refine Qr Γ11 IP ?_;refine wC IP (λhc=>?_) (λhc=>?_)
 ·simp only[decide_eq_true_eq]at hc;refine Qr Γ11 IP ?_;refine wZ IP ?_;exact⟨_,_,rfl,λE=>by rw[decide_eq_true hc];rfl,_,_,rfl,rfl,dE⟩
 ·simp only[decide_eq_false_iff_not]at hc;have hb:bt s i=0:=by
   unfold bt;rw[Array.getElem?_eq_none (by have:s.data.size=s.size:=rfl;omega)];rfl
  refine wK ?_;refine vR Γ11 IP ?_;refine wZ IP ?_;exact⟨_,_,rfl,λE=>by rw[decide_eq_false hc,hb];rfl,_,_,rfl,rfl,dE⟩
def qh:ed prog 272 where
 T:=375
 pre:=λW bs fs as_=>match fs,as_ with|[.val (.string s),.val (.int .i64 i)],[]=>0<=i|_,_=>False
 out:=λW fs as_=>match fs,as_ with|[.val (.string s),.val (.int .i64 i)],[]=>.ret (.tuple #[.int .u8 (bt s i),.bool (decide (i<s.size))]) (EM s i)|_,_=>.pan [] undef
 enters:=call272
 ok:=by
  intro W w bs u fp us fs as_ hk ho hlt hmine hu hp;split at hp
  ·rename_i s i
   match us,hu with
   |[],_=>
    exact YO s i u fp w hp ho hlt
  ·exact hp.elim
theorem uV(W:World)(s:ByteArray)(i:Int):qh.out W [.val (.string s),.val (.int .i64 i)] []=.ret (.tuple #[.int .u8 (bt s i),.bool (decide (i<s.size))]) (EM s i):=rfl
theorem vq(W:World)(bs:List Nat)(s:ByteArray)(i:Int):qh.pre W bs [.val (.string s),.val (.int .i64 i)] []=(0<=i):=rfl
theorem D6:qh.T=375:=rfl
def amF:=(eT IP @uV @vq @D6)
theorem Vk(s:ByteArray)(i j:Int)(u:Value)(fp:List Nat)(w:World)(ho:bC w u fp 375 (EM s i))(hlt:∀ b∈fp,b<w.heap.size) :
  Calls prog 273 (#[u]++#[.int .i64 j]) w λe w' => gN w u fp 375 e w' (.pan (jP j) (.tuple #[])):=by
 refine bh (nt:=7) #[.int .i64 j] [] (by show 2<=7;omega) ho hlt func273 rfl rfl rfl ?_;refine Wp.q8 Γ11 b8 (ev (aa amF @EM.eq_1)) ?_ ?_
 ·exact oo
 refine qq ?_;exact⟨_,rfl⟩
def pn:ed prog 273 where
 T:=375
 pre:=λW bs fs as_=>match fs,as_ with|[.val (.string s),.val (.int .i64 i)],[.val (.int .i64 j)]=>True|_,_=>False
 out:=λW fs as_=>match fs,as_ with|[.val (.string s),.val (.int .i64 i)],[.val (.int .i64 j)]=>.pan (jP j) (.tuple #[])|_,_=>.pan [] undef
 enters:=call273
 ok:=by
  intro W w bs u fp us fs as_ hk ho hlt hmine hu hp;split at hp
  ·rename_i s i j
   match us,hu with
   |[u0],hu=>
    obtain⟨rfl,_⟩:=hu;exact Vk s i j u fp w ho hlt
  ·exact hp.elim
theorem Du(W:World)(s:ByteArray)(i:Int)(j:Int):pn.out W [.val (.string s),.val (.int .i64 i)] [.val (.int .i64 j)]=.pan (jP j) (.tuple #[]):=rfl
theorem Dr(W:World)(bs:List Nat)(s:ByteArray)(i:Int)(j:Int):pn.pre W bs [.val (.string s),.val (.int .i64 i)] [.val (.int .i64 j)]=(True):=rfl
theorem Qw:pn.T=375:=rfl
noncomputable def Γ12:Env prog:=⟨λ| 138=>some ixC.spec|272=>some qh.spec|273=>some pn.spec|_=>none,λ| _=>none,λ_ _=>none⟩
theorem aeN:Γ12.sp 138=some ixC.spec:=rfl
theorem agA:Γ12.sp 272=some qh.spec:=rfl
theorem agj:Γ12.sp 273=some pn.spec:=rfl
def fB:ByteArray:=⟨#[48,49,50,51,52,53,54,55,56,57,97,98,99,100,101,102]⟩
def AO(s:ByteArray):Except Int (Int×Int)->BOut
 |.ok (b,j)=>.ret (.int .u8 b) (EM s j)
 |.error j=>.pan (jP j) (.int .u8 0)
def iL(s:ByteArray)(i:Int):Except Int (Int×Int):=if i<s.size/\0<=ko fB (bt s i) then .ok (ko fB (bt s i),i+1) else .error i
theorem yk(c:Int)(h0:0<=c)(h1:c<256):-1<=ko fB c/\ko fB c<16:=by
 obtain⟨n,rfl⟩:=Int.eq_ofNat_of_zero_le h0;have:∀ b:Fin 256,-1<=ko fB ((b.val:Nat):Int)/\ko fB ((b.val:Nat):Int)<16:=by decide +kernel
 exact this ⟨n,oM⟩
theorem eS{n:Int}(h0:0<=n)(h1:n<256):IntKind.u8.wrap n=n:=by
 simp only[IntKind.wrap,IntKind.bits,IntKind.signed,Bool.false_and,Bool.false_eq_true,if_false,decide_false,show (2:Int) ^ 8=256 from rfl];omega
theorem QH(s:ByteArray)(b j:Int):AO s (.ok (b,j))=.ret (.int .u8 b) (EM s j):=rfl
theorem yO(s:ByteArray)(j:Int):AO s (.error j)=.pan (jP j) (.int .u8 0):=rfl
def ru:=(aj @List.replicate_succ.{0} @List.replicate_zero.{0} @an @ab jo jl gS (aj ca cc b9 cg cf cj cd (aj ck fu fE fj fz fw dc (aj dh cZ db c8 dd PL OS (aj ahA ahq ahu ahp ahX ahs ahN (aj ahz ahU ahJ QJ Oy PD Og (aj Qa O8 Qu OA Qd PG Pb (aj @aG @al @ay @ax @EG @FX @uV (aj @vq @D6 @Du @Dr @Qw @EM.eq_1 @jP.eq_1 (bQ aeN agA agj))))))))))
theorem afm(s:ByteArray)(i:Int)(u:Value)(fp:List Nat)(w:World)(h0:0<=i)(hs:s.size<=140737488351232)(ho:bC w u fp 375 (EM s i))(hlt:∀ b∈fp,b<w.heap.size) :
  Calls prog 276 (#[u]++#[]) w λe w' => gN w u fp 375 e w' (AO s (iL s i)):=by
 obtain⟨b0,b1⟩:=fA s i;obtain⟨x0,x1⟩:=yk _ b0 b1;refine bh (nt:=34) #[] [.tmp 2] (by show 2<=7;omega) ho hlt func276 rfl rfl rfl ?_;refine vR Γ12 ru ?_;refine wR Γ12 ru ?_ ?_
 ·simp[h0]
 refine vR Γ12 ru ?_;refine Wp.seq ?_;refine vR Γ12 ru ?_;refine wC ru (λhc=>?_) (λhc=>?_)
 ·have he:iL s i=.error i:=by
   rw[iL,if_neg];simp[fB]at hc ⊢;omega
  rw[he];refine Wp.q8 Γ12 b8 (ev ru) ?_ ?_
  ·simp
  refine qq ?_;exact⟨_,rfl⟩
 ·have hi:i<s.size/\0<=ko fB (bt s i):=by
   simp[fB]at hc ⊢;omega
  have he:iL s i=.ok (ko fB (bt s i),i+1):=by rw[iL,if_pos hi]
  have w1:IntKind.i64.wrap (i+1)=i+1:=ae oM oM;have w2:IntKind.u8.wrap (ko fB (bt s i))=ko fB (bt s i):=eS hi.2 oM;rw[he];refine wK ?_;refine vR Γ12 (aa ru w1) ?_;refine vR Γ12 (aa ru w2) ?_;refine wZ ru ?_
  exact⟨_,_,rfl,λE=>by simp only[den];rw[show ko fB (bt s i)=ko ⟨#[48,49,50,51,52,53,54,55,56,57,97,98,99,100,101,102]⟩ (bt s i) from rfl]at w2;exact congrArg _ w2,_,_,rfl,rfl,dE⟩
def WZ:ed prog 276 where
 T:=375
 pre:=λW bs fs as_=>match fs,as_ with|[.val (.string s),.val (.int .i64 i)],[]=>0<=i/\s.size<=140737488351232|_,_=>False
 out:=λW fs as_=>match fs,as_ with|[.val (.string s),.val (.int .i64 i)],[]=>AO s (iL s i)|_,_=>.pan [] undef
 enters:=call276
 ok:=by
  intro W w bs u fp us fs as_ hk ho hlt hmine hu hp;split at hp
  ·rename_i s i
   match us,hu with
   |[],_=>
    exact afm s i u fp w hp.1 hp.2 ho hlt
  ·exact hp.elim
theorem V9(W:World)(s:ByteArray)(i:Int):WZ.out W [.val (.string s),.val (.int .i64 i)] []=AO s (iL s i):=rfl
theorem Zd(W:World)(bs:List Nat)(s:ByteArray)(i:Int):WZ.pre W bs [.val (.string s),.val (.int .i64 i)] []=(0<=i/\s.size<=140737488351232):=rfl
theorem aj4:WZ.T=375:=rfl
noncomputable def p6:Env prog:=⟨λ| 138=>some ixC.spec|272=>some qh.spec|273=>some pn.spec|276=>some WZ.spec|_=>none,λ| _=>none,λ_ _=>none⟩
theorem aew:p6.sp 138=some ixC.spec:=rfl
theorem afK:p6.sp 272=some qh.spec:=rfl
theorem abz:p6.sp 273=some pn.spec:=rfl
theorem ae5:p6.sp 276=some WZ.spec:=rfl
def bB(W:World)(S:Nat->Prop):Prop:=S 4/\W.cell? ⟨4,0,none⟩=some (.int .u8 110)/\W.cell? ⟨4,0+1,none⟩=some (.int .u8 10)/\W.cell? ⟨4,0+1+1,none⟩=some (.int .u8 114)/\W.cell? ⟨4,0+1+1+1,none⟩=some (.int .u8 13) /\
 W.cell? ⟨4,0+1+1+1+1,none⟩=some (.int .u8 116)/\W.cell? ⟨4,0+1+1+1+1+1,none⟩=some (.int .u8 9)
theorem bB.mono{W W' : World}{S S' : Nat->Prop}(h:bB W S)(hs:cT W S W' S'):bB W' S' := by
 obtain⟨h0,h1,h2,h3,h4,h5,h6⟩:=h;have g:∀ o v,W.cell? ⟨4,o,none⟩=some v->W'.cell? ⟨4,o,none⟩=some v/\S' 4:=λo v hv=>by
  have:=XC.mono (b:=4) (o:=o) (v:=v) ⟨h0,hv⟩ hs;exact⟨this.2,this.1⟩
 exact⟨(g _ _ h1).2,(g _ _ h1).1,(g _ _ h2).1,(g _ _ h3).1,(g _ _ h4).1,(g _ _ h5).1,(g _ _ h6).1⟩
theorem bB.dW{W w:World}{bs fp:List Nat}(h:bB W (Out bs))(hk:ah W bs w)(hm:∀ b∈fp,W.heap.size<=b\/b∈bs):bB w (Out fp):=
 h.mono λb hb hs=>⟨hk.block b hb hs,λhb' => (hm b hb').elim (λg=>absurd g (Nat.not_le.2 hb)) hs⟩
def eL(s:ByteArray)(i:Int):Except Int (Int×Int):=
 if ¬ i<s.size then .error i
 else if bt s i=110 then .ok (10,i+1)
 else if bt s i=114 then .ok (13,i+1)
 else if bt s i=116 then .ok (9,i+1)
 else if bt s i=120 then
  match iL s (i+1) with
  |.error j=>.error j
  |.ok (h,j)=>match iL s j with
   |.error k=>.error k
   |.ok (l,k)=>.ok (16*h+l,k)
 else if (((bt s i<32\/126<bt s i)\/48<=bt s i/\bt s i<=57)\/97<=bt s i/\bt s i<=122)\/65<=bt s i/\bt s i<=90 then .error i
 else .ok (bt s i,i+1)
theorem sG{s:ByteArray}{i h j:Int}(he:iL s i=.ok (h,j))(h0:0<=i):0<=h/\h<16/\j=i+1/\i<s.size:=by
 rw[iL]at he;split at he
 ·rename_i hc;simp only[Except.ok.injEq,Prod.mk.injEq]at he;obtain⟨rfl,rfl⟩:=he;obtain⟨b0,b1⟩:=fA s i;have:=yk _ b0 b1;exact⟨hc.2,this.2,rfl,hc.1⟩
 ·cases he
theorem aip(h l:Int)(h0:0<=h)(h1:h<16)(l0:0<=l)(l1:l<16):cw .or .u8 (IntKind.u8.wrap (h*16)) l=16*h+l:=by
 obtain⟨n,rfl⟩:=Int.eq_ofNat_of_zero_le h0;obtain⟨m,rfl⟩:=Int.eq_ofNat_of_zero_le l0;have:∀ a b:Fin 16,cw .or .u8 (IntKind.u8.wrap (((a.val:Nat):Int)*16)) ((b.val:Nat):Int)=16*((a.val:Nat):Int)+((b.val:Nat):Int):=by decide +kernel
 exact this ⟨n,oM⟩ ⟨m,oM⟩
def bO:=(aj ru V9 Zd aj4 @QH @yO aew (bQ afK abz ae5))
theorem agI(s:ByteArray)(i:Int)(u:Value)(fp:List Nat)(w:World)(h0:0<=i)(hs:s.size<=140737488351232)(hg:bB w (Out fp))(ho:bC w u fp 375 (EM s i))(hlt:∀ b∈fp,b<w.heap.size) :
  Calls prog 275 (#[u]++#[]) w λe w' => gN w u fp 375 e w' (AO s (eL s i)):=by
 obtain⟨b0,b1⟩:=fA s i;obtain⟨g0,g1,g2,g3,g4,g5,g6⟩:=hg;have g0' : ¬ 4∈fp:=g0;refine bh (nt:=99) #[] [.tmp 2] (by show 2<=7;omega) ho hlt func275 rfl rfl rfl ?_;refine vR p6 bO ?_;refine wR p6 bO ?_ ?_
 ·simp[h0]
 refine Wp.seq ?_;refine vR p6 bO ?_;refine wC bO (λhc=>?_) (λhc=>?_)
 ·simp at hc;have he:eL s i=.error i:=by rw[eL,if_pos oM]
  rw[he];refine Wp.q8 p6 b8 (ev bO) ?_ ?_
  ·simp
  refine qq ?_;exact⟨_,rfl⟩
 ·simp at hc;have hi:i<s.size:=oM;have w1:IntKind.i64.wrap (i+1)=i+1:=ae oM oM;refine wK ?_;refine Wp.seq ?_;refine wR p6 (uv bO g1 g2 g3 g4 g5 g6) ?_ ?_
  ·simp[Out,g0',aw,SV.keys]
  refine Wp.block ?_
  refine Wp.loop (λk:Nat=>⟨40,bm [(0,.is (.own 0 0)),(3,.is (.v (.int .u8 (bt s i)))),(21,.is (.agg [.v (.int .u8 110),.v (.int .u8 10),.v (.int .u8 114),.v (.int .u8 13),.v (.int .u8 116),.v (.int .u8 9)])),(22,.is (.v (.int .i64 k)))],aY [(0,.cells 375 [.v (.string s),.v (.int .i64 i)])]⟩)
   (λk=>k<=3/\(0<k->bt s i≠110)/\(1<k->bt s i≠114)/\(2<k->bt s i≠116)) (λk=>3-k) 0 ?_ ⟨oM,oM,oM,oM⟩ ?_
  ·exact wM (λk=>.key k) bO
  rintro k ⟨k0,k1,k2,k3⟩;refine vR p6 bO ?_;refine Wp.seq ?_;refine wC bO (λhc=>?_) (λhc=>?_)
  ·simp at hc;refine wK ?_;have hk3:k<3:=oM;have hcase:k=0\/k=1\/k=2:=oM;refine Wp.seq (Wp.block ?_);rcases hcase with rfl|rfl|rfl
   ·skip;refine vR p6 bO ?_;refine vR p6 bO ?_;refine wC bO (λhc=>?_) (λhc=>?_)
    ·simp at hc;have he:eL s i=.ok (10,i+1):=by rw[eL,if_neg oM,if_pos oM]
     rw[he];refine vR p6 (aa bO w1) ?_;refine vR p6 bO ?_;refine wZ bO ?_;exact⟨_,_,rfl,λE=>rfl,_,_,rfl,rfl,dE⟩
    ·simp at hc;refine wK ?_;refine vr p6 bO ?_;refine⟨1,⟨oM,oM,oM,oM⟩,oM,?_⟩;exact wM (λk=>.key k) bO
   ·skip;refine vR p6 bO ?_;refine vR p6 bO ?_;refine wC bO (λhc=>?_) (λhc=>?_)
    ·simp at hc;have he:eL s i=.ok (13,i+1):=by rw[eL,if_neg oM,if_neg (k1 oM),if_pos oM]
     rw[he];refine vR p6 (aa bO w1) ?_;refine vR p6 bO ?_;refine wZ bO ?_;exact⟨_,_,rfl,λE=>rfl,_,_,rfl,rfl,dE⟩
    ·simp at hc;refine wK ?_;refine vr p6 bO ?_;refine⟨2,⟨oM,oM,oM,oM⟩,oM,?_⟩;exact wM (λk=>.key k) bO
   ·skip;refine vR p6 bO ?_;refine vR p6 bO ?_;refine wC bO (λhc=>?_) (λhc=>?_)
    ·simp at hc;have he:eL s i=.ok (9,i+1):=by rw[eL,if_neg oM,if_neg (k1 oM),if_neg (k2 oM),if_pos oM]
     rw[he];refine vR p6 (aa bO w1) ?_;refine vR p6 bO ?_;refine wZ bO ?_;exact⟨_,_,rfl,λE=>rfl,_,_,rfl,rfl,dE⟩
    ·simp at hc;refine wK ?_;refine vr p6 bO ?_;refine⟨3,⟨oM,oM,oM,oM⟩,oM,?_⟩;exact wM (λk=>.key k) bO
  ·simp at hc;have k33:k=3:=oM;subst k33;refine wE ?_;refine Wp.seq ?_;refine vR p6 bO ?_;refine wC bO (λhc=>?_) (λhc=>?_)
   ·simp at hc;have he:eL s i=match iL s (i+1) with
      |.error j=>.error j
      |.ok (h,j)=>match iL s j with
       |.error k=>.error k
       |.ok (l,k)=>.ok (16*h+l,k):=by rw[eL,if_neg oM,if_neg oM,if_neg oM,if_neg oM,if_pos hc]
    refine vR p6 (aa bO w1) ?_;cases h1:iL s (i+1) with
    |error j=>
     rw[he,h1];refine Wp.kH p6 b8 (ev (aa bO h1)) ?_ ?_
     ·simp[w1];omega
     refine qq ?_;exact⟨_,rfl⟩
    | ok p=>
     obtain⟨h,j⟩:=p;obtain⟨q0,q1,rfl,q3⟩:=sG h1 oM;refine wR p6 (aa bO h1) ?_ ?_
     ·simp[w1];omega
     cases h2:iL s (i+1+1) with
     |error j=>
      rw[he,h1];simp only[h2];refine Wp.kH p6 b8 (ev (aa bO h2)) ?_ ?_
      ·simp[w1];omega
      refine qq ?_;exact⟨_,rfl⟩
     |ok p=>
      obtain⟨l,j⟩:=p;obtain⟨r0,r1,rfl,r3⟩:=sG h2 oM;rw[he,h1];simp only[h2];refine wR p6 (aa bO h2) ?_ ?_
      ·simp[w1];omega
      refine wZ bO ?_;exact⟨_,_,rfl,λE=>by simp only[den];rw[aip h l q0 q1 r0 r1],_,_,rfl,rfl,dE⟩
   ·simp at hc;refine wK ?_;refine Wp.seq ?_;refine vR p6 bO ?_;refine wC bO (λhc=>?_) (λhc=>?_)
    ·simp at hc;have he:eL s i=.error i:=by rw[eL,if_neg oM,if_neg oM,if_neg oM,if_neg oM,if_neg (by assumption),if_pos hc]
     rw[he];refine Wp.q8 p6 b8 (ev bO) ?_ ?_
     ·exact oo
     refine qq ?_;exact⟨_,rfl⟩
    ·have hn:¬ ((((bt s i<32\/126<bt s i)\/48<=bt s i/\bt s i<=57)\/97<=bt s i/\bt s i<=122)\/65<=bt s i/\bt s i<=90):=by
      intro h;apply Bool.eq_false_iff.1 hc;simp;exact h
     have he:eL s i=.ok (bt s i,i+1):=by rw[eL,if_neg oM,if_neg oM,if_neg oM,if_neg oM,if_neg (by assumption),if_neg hn]
     rw[he];refine wK ?_;refine vR p6 (aa bO w1) ?_;refine vR p6 bO ?_;refine wZ bO ?_;exact⟨_,_,rfl,λE=>rfl,_,_,rfl,rfl,dE⟩
def Vh:ed prog 275 where
 T:=375
 pre:=λW bs fs as_=>match fs,as_ with|[.val (.string s),.val (.int .i64 i)],[]=>0<=i/\s.size<=140737488351232/\bB W (Out bs)|_,_=>False
 out:=λW fs as_=>match fs,as_ with|[.val (.string s),.val (.int .i64 i)],[]=>AO s (eL s i)|_,_=>.pan [] undef
 enters:=call275
 ok:=by
  intro W w bs u fp us fs as_ hk ho hlt hmine hu hp;split at hp
  ·rename_i s i
   match us,hu with
   |[],_=>
    exact agI s i u fp w hp.1 hp.2.1 (hp.2.2.dW hk hmine) ho hlt
  ·exact hp.elim
theorem aaA(W:World)(s:ByteArray)(i:Int):Vh.out W [.val (.string s),.val (.int .i64 i)] []=AO s (eL s i):=rfl
theorem Yw(W:World)(bs:List Nat)(s:ByteArray)(i:Int):Vh.pre W bs [.val (.string s),.val (.int .i64 i)] []=(0<=i/\s.size<=140737488351232/\bB W (Out bs)):=rfl
theorem aiX:Vh.T=375:=rfl
noncomputable def Qm:Env prog:=⟨λ| 138=>some ixC.spec|272=>some qh.spec|273=>some pn.spec|275=>some Vh.spec|_=>none,λ| _=>none,λ_ _=>none⟩
theorem afe:Qm.sp 138=some ixC.spec:=rfl
theorem agD:Qm.sp 272=some qh.spec:=rfl
theorem agm:Qm.sp 273=some pn.spec:=rfl
theorem adI:Qm.sp 275=some Vh.spec:=rfl
def eG(s:ByteArray)(i:Int)(q:ByteArray):Except Int (Int×Int):=
 if i<s.size/\bt s i=92 then eL s (i+1)
 else if ((¬ i<s.size\/bt s i<32)\/126<bt s i)\/0<=ko q (bt s i) then .error i
 else .ok (bt s i,i+1)
def mr:=(aj bO aaA Yw aiX afe agD agm adI)
theorem aeB(s:ByteArray)(i:Int)(q:ByteArray)(u:Value)(fp:List Nat)(w:World)(h0:0<=i)(hs:s.size<=140737488351232)(hg:bB w (Out fp))(ho:bC w u fp 375 (EM s i))(hlt:∀ b∈fp,b<w.heap.size) :
  Calls prog 270 (#[u]++#[.string q]) w λe w' => gN w u fp 375 e w' (AO s (eG s i q)):=by
 obtain⟨b0,b1⟩:=fA s i;refine bh (nt:=56) #[.string q] [.tmp 4] (by show 2<=7;omega) ho hlt func270 rfl rfl rfl ?_;refine vR Qm mr ?_;refine wR Qm mr ?_ ?_
 ·simp[h0]
 refine Wp.seq ?_;refine vR Qm mr ?_;refine wC mr (λhc=>?_) (λhc=>?_)
 ·simp at hc;have w1:IntKind.i64.wrap (i+1)=i+1:=ae oM oM;have he:eG s i q=eL s (i+1):=by rw[eG,if_pos hc]
  rw[he];refine vR Qm (aa mr w1) ?_;cases h1:eL s (i+1) with
  |error j=>
   refine Wp.kH Qm b8 (ev (aa mr h1)) ?_ ?_
   ·simp[w1,hs];exact⟨oM,hg⟩
   refine qq ?_;exact⟨_,rfl⟩
  |ok p=>
   obtain⟨b,j⟩:=p;refine wR Qm (aa mr h1) ?_ ?_
   ·simp[w1,hs];exact⟨oM,hg⟩
   refine wZ mr ?_;exact⟨_,_,rfl,λE=>rfl,_,_,rfl,rfl,dE⟩
 ·have hn:¬ (i<s.size/\bt s i=92):=λh=>by
   apply Bool.eq_false_iff.1 hc;simp;exact h
  refine wK ?_;refine Wp.seq ?_;refine vR Qm mr ?_;refine wC mr (λhc=>?_) (λhc=>?_)
  ·simp at hc;have he:eG s i q=.error i:=by
    rw[eG,if_neg hn,if_pos];omega
   rw[he];refine Wp.q8 Qm b8 (ev mr) ?_ ?_
   ·simp
   refine qq ?_;exact⟨_,rfl⟩
  ·have hn' : ¬ (((¬ i<s.size\/bt s i<32)\/126<bt s i)\/0<=ko q (bt s i)):=λh=>by
    apply Bool.eq_false_iff.1 hc;simp;omega
   have he:eG s i q=.ok (bt s i,i+1):=by rw[eG,if_neg hn,if_neg hn']
   have w1:IntKind.i64.wrap (i+1)=i+1:=ae oM oM;rw[he];refine wK ?_;refine vR Qm (aa mr w1) ?_;refine vR Qm mr ?_;refine wZ mr ?_;exact⟨_,_,rfl,λE=>rfl,_,_,rfl,rfl,dE⟩
def K9:ed prog 270 where
 T:=375
 pre:=λW bs fs as_=>match fs,as_ with|[.val (.string s),.val (.int .i64 i)],[.val (.string q)]=>0<=i/\s.size<=140737488351232/\bB W (Out bs)|_,_=>False
 out:=λW fs as_=>match fs,as_ with|[.val (.string s),.val (.int .i64 i)],[.val (.string q)]=>AO s (eG s i q)|_,_=>.pan [] undef
 enters:=call270
 ok:=by
  intro W w bs u fp us fs as_ hk ho hlt hmine hu hp;split at hp
  ·rename_i s i q
   match us,hu with
   |[u0],hu=>
    obtain⟨rfl,_⟩:=hu;exact aeB s i q u fp w hp.1 hp.2.1 (hp.2.2.dW hk hmine) ho hlt
  ·exact hp.elim
theorem WT(W:World)(s:ByteArray)(i:Int)(q:ByteArray):K9.out W [.val (.string s),.val (.int .i64 i)] [.val (.string q)]=AO s (eG s i q):=rfl
theorem WB(W:World)(bs:List Nat)(s:ByteArray)(i:Int)(q:ByteArray):K9.pre W bs [.val (.string s),.val (.int .i64 i)] [.val (.string q)]=(0<=i/\s.size<=140737488351232/\bB W (Out bs)):=rfl
theorem ajd:K9.T=375:=rfl
theorem afn{s:ByteArray}{i b j:Int}(he:eL s i=.ok (b,j))(h0:0<=i):0<=b/\b<256/\i<j/\j<=s.size:=by
 obtain⟨b0,b1⟩:=fA s i;rw[eL]at he;split at he
 ·cases he
 ·rename_i h1;split at he
  ·simp only[Except.ok.injEq,Prod.mk.injEq]at he;omega
  ·split at he
   ·simp only[Except.ok.injEq,Prod.mk.injEq]at he;omega
   ·split at he
    ·simp only[Except.ok.injEq,Prod.mk.injEq]at he;omega
    ·split at he
     ·cases h2:iL s (i+1) with
      |error k=>rw[h2]at he;cases he
      | ok p=>
       obtain⟨h,k⟩:=p;rw[h2]at he;obtain⟨q0,q1,q2,q3⟩:=sG h2 oM;simp only at he;cases h3:iL s k with
       |error k' => rw[h3]at he;cases he
       |ok p=>
        obtain⟨l,k'⟩:=p;rw[h3]at he;obtain⟨r0,r1,r2,r3⟩:=sG h3 oM;simp only[Except.ok.injEq,Prod.mk.injEq]at he;omega
     ·split at he
      ·cases he
      ·simp only[Except.ok.injEq,Prod.mk.injEq]at he;omega
theorem kY{s:ByteArray}{i b j:Int}{q:ByteArray}(he:eG s i q=.ok (b,j))(h0:0<=i):0<=b/\b<256/\i<j/\j<=s.size:=by
 obtain⟨b0,b1⟩:=fA s i;rw[eG]at he;split at he
 ·have:=afn he oM;omega
 ·split at he
  ·cases he
  ·simp only[Except.ok.injEq,Prod.mk.injEq]at he;omega
noncomputable def Ci:aM prog 224 where
 pre:=λW bs=>λ| [.val y0]=>(match dec cC y0 with|some S=>True|_=>False)|_=>False
 res:=λW=>λ| [.val y0]=>(match dec cC y0 with|some S=>cC (~~~S)|_=>undef)|_=>undef
 enters:=call224
 ok:=by
  intro W w bs us as_ hk hu hp;split at hp
  ·rename_i y0;split at hp
   ·rename_i S h0
    match us,hu with
    |[u0],hu=>
     obtain⟨rfl,_⟩:=hu;obtain rfl:=gX h0
     try dsimp only
     try simp only[cN cL]
     exact af3 S w
   ·exact hp.elim
  ·exact hp.elim
theorem Io(W:World)(S:CS):Ci.res W [.val (cC S)]=cC (~~~S):=by simp only[Ci,cN cL]
theorem HO(W:World)(bs:List Nat)(S:CS):Ci.pre W bs [.val (cC S)]=(True):=by simp only[Ci,cN cL]
noncomputable def uJ:aM prog 274 where
 pre:=λW bs=>λ| [.val y0,.val y1]=>(match dec cC y0,dec cC y1 with|some S,some T=>True|_,_=>False)|_=>False
 res:=λW=>λ| [.val y0,.val y1]=>(match dec cC y0,dec cC y1 with|some S,some T=>cC (S ||| T)|_,_=>undef)|_=>undef
 enters:=call274
 ok:=by
  intro W w bs us as_ hk hu hp;split at hp
  ·rename_i y0 y1;split at hp
   ·rename_i S T h0 h1
    match us,hu with
    |[u0,u1],hu=>
     obtain⟨rfl,rfl,_⟩:=hu;obtain rfl:=gX h0;obtain rfl:=gX h1
     try dsimp only
     try simp only[cN cL]
     exact Sx S T w
   ·exact hp.elim
  ·exact hp.elim
theorem MY(W:World)(S:CS)(T:CS):uJ.res W [.val (cC S),.val (cC T)]=cC (S ||| T):=by simp only[uJ,cN cL]
theorem KI(W:World)(bs:List Nat)(S:CS)(T:CS):uJ.pre W bs [.val (cC S),.val (cC T)]=(True):=by simp only[uJ,cN cL]
def mu(lo hi:Int):CS:=span lo.toNat hi.toNat
def DK:aM prog 271 where
 pre:=λW bs=>λ| [.val (.int .u8 lo),.val (.int .u8 hi)]=>0<=lo/\lo<256/\0<=hi/\hi<256|_=>False
 res:=λW=>λ| [.val (.int .u8 lo),.val (.int .u8 hi)]=>cC (mu lo hi)|_=>undef
 enters:=call271
 ok:=by
  intro W w bs us as_ hk hu hp;split at hp
  ·rename_i lo hi
   match us,hu with
   |[u0,u1],hu=>
    obtain⟨rfl,rfl,_⟩:=hu;obtain⟨p0,p1,p2,p3⟩:=hp;have:=aaS lo.toNat hi.toNat oM oM w;rwa [Int.toNat_of_nonneg p0,Int.toNat_of_nonneg p2]at this
  ·exact hp.elim
theorem Q3(W:World)(lo:Int)(hi:Int):DK.res W [.val (.int .u8 lo),.val (.int .u8 hi)]=cC (mu lo hi):=rfl
theorem Ux(W:World)(bs:List Nat)(lo:Int)(hi:Int):DK.pre W bs [.val (.int .u8 lo),.val (.int .u8 hi)]=(0<=lo/\lo<256/\0<=hi/\hi<256):=rfl
def ofC:aM prog 245 where
 pre:=λW bs=>λ| [.val (.string s)]=>s.size<=140737488351232|_=>False
 res:=λW=>λ| [.val (.string s)]=>cC (Km s s.size)|_=>undef
 enters:=call245
 ok:=by
  intro W w bs us as_ hk hu hp;split at hp
  ·rename_i s
   match us,hu with
   |[u0],hu=>
    obtain⟨rfl,_⟩:=hu;exact ai2 s hp w
  ·exact hp.elim
theorem adw(W:World)(s:ByteArray):ofC.res W [.val (.string s)]=cC (Km s s.size):=rfl
theorem afw(W:World)(bs:List Nat)(s:ByteArray):ofC.pre W bs [.val (.string s)]=(s.size<=140737488351232):=rfl
noncomputable def rv:Env prog:=⟨λ| 272=>some qh.spec|273=>some pn.spec|270=>some K9.spec|224=>some Ci.spec|274=>some uJ.spec|271=>some DK.spec|245=>some ofC.spec|_=>none,λ| _=>none,λ_ _=>none⟩
theorem acQ:rv.sp 272=some qh.spec:=rfl
theorem acq:rv.sp 273=some pn.spec:=rfl
theorem agk:rv.sp 270=some K9.spec:=rfl
theorem abV:rv.sp 224=some Ci.spec:=rfl
theorem abG:rv.sp 274=some uJ.spec:=rfl
theorem aeU:rv.sp 271=some DK.spec:=rfl
theorem aeh:rv.sp 245=some ofC.spec:=rfl
def mH:ByteArray:=⟨#[92,93,91,45,94,47]⟩
def va(s:ByteArray):Nat->Int->CS->Except Int (CS×Int)
 |0,i,_=>.error i
 | n+1,i,a=>
  if i<s.size/\bt s i=93 then .ok (a,i+1) else
  match eG s i mH with
  |.error j=>.error j
  | .ok (lo,j)=>
   if j<s.size/\bt s j=45 then
    match eG s (j+1) mH with
    |.error k=>.error k
    |.ok (hi,k)=>if hi<lo then .error (j+1) else va s n k (a ||| mu lo hi)
   else va s n j (a ||| mu lo lo)
def QC(b:Bool)(a:CS):CS:=if b then ~~~a else a
def jh(s:ByteArray)(i:Int):Bool:=decide (i<s.size)&&decide (bt s i=94)
def uR(b:Bool):Except Int (CS×Int)->Except Int (CS×Int)
 |.error j=>.error j
 |.ok (a,j)=>.ok (QC b a,j)
def fy(s:ByteArray)(i:Int):Except Int (CS×Int):=uR (jh s i) (va s (s.size+1) (if jh s i then i+1 else i) 0)
def Jh(s:ByteArray):Except Int (CS×Int)->BOut
 |.ok (a,j)=>.ret (cC a) (EM s j)
 |.error j=>.pan (jP j) (cC 0)
theorem uj(s:ByteArray)(a:CS)(j:Int):Jh s (.ok (a,j))=.ret (cC a) (EM s j):=rfl
theorem lR(s:ByteArray)(j:Int):Jh s (.error j)=.pan (jP j) (cC 0):=rfl
def cP:=(aj @List.replicate_succ.{0} @List.replicate_zero.{0} @an @ab jo jl gS (aj ca cc b9 cg cf cj cd (aj ck fu fE fj fz fw dc (aj dh cZ db c8 dd pF o6 (aj px oZ w9 xp xm vS PL (aj OS QJ Oy PD Og Qa O8 (aj Qu OA Qd PG Pb @aG @al (aj @ay @ax @uV @vq @D6 @Du @Dr (aj @Qw @WT @WB @ajd @EM.eq_1 @jP.eq_1 @QH (aj @yO @dX @lI @np @nG @ll @qX (aj @e8 @E3 @jC @List.drop_nil.{0} @Io @HO MY (aj KI Q3 Ux adw afw acQ acq (oy agk abV abG aeU aeh)))))))))))))
theorem J2(s:ByteArray)(i:Int)(u:Value)(fp:List Nat)(w:World)(h0:0<=i)(hs:s.size<=140737488351232)(hg:bB w (Out fp))(ho:bC w u fp 375 (EM s i))(hlt:∀ b∈fp,b<w.heap.size) :
  Calls prog 269 (#[u]++#[]) w λe w' => gN w u fp 375 e w' (Jh s (fy s i)):=by
 obtain⟨b0,b1⟩:=fA s i;refine bh (nt:=90) #[] [.cell 2 309] (by show 2<=7;omega) ho hlt func269 rfl rfl rfl ?_;refine vR rv cP ?_;refine vR rv cP ?_;refine wR rv cP ?_ ?_
 ·simp[h0]
 refine vR rv cP ?_;generalize hi0:(if jh s i then i+1 else i)=i0;have hj0:0<=i0/\i0<=i+1:=by rw[<- hi0];split<;>omega
 generalize hR:va s (s.size+1) i0 0=R;have hm:fy s i=uR (jh s i) R:=by rw[fy,hi0,hR]
 refine aW ⟨40,bm [(0,.is (.own 0 0)),(2,.is (.own 8 0)),(3,.is (.own 16 0)),(6,.is (.v (.bool (jh s i))))],aY [(0,.cells 375 [.v (.string s),.v (.int .i64 i0)]),(8,.cells 309 [.v (.int .u64 0),.v (.int .u64 0),.v (.int .u64 0),.v (.int .u64 0)]),(16,.cells 309 [.v (.int .u64 0),.v (.int .u64 0),.v (.int .u64 0),.v (.int .u64 0)])]⟩ ?_ ?_
 ·skip;refine vR rv cP ?_;refine wC cP (λhc=>?_) (λhc=>?_)
  ·have hcar:jh s i=true:=hc;rw[hcar]at hi0;simp only[if_true]at hi0;simp at hc;have w1:IntKind.i64.wrap (i+1)=i+1:=ae oM oM;refine vr rv (aa cP w1) ?_;subst hi0;exact wM (λk=>.key k) (aa cP @jh.eq_1)
  ·have hcar:jh s i=false:=hc;rw[hcar]at hi0;simp only[Bool.false_eq_true,if_false]at hi0;refine wK ?_;subst hi0;exact wM (λk=>.key k) (aa cP @jh.eq_1)
 refine Wp.seq ?_;refine Wp.block ?_
 refine Wp.loop (λp:Nat×Int×CS=>⟨40,bm [(0,.is (.own 0 0)),(2,.is (.own 8 0)),(3,.is (.own 16 0)),(6,.is (.v (.bool (jh s i))))],aY [(0,.cells 375 [.v (.string s),.v (.int .i64 p.2.1)]),(8,.cells 309 [.v (.int .u64 0),.v (.int .u64 0),.v (.int .u64 0),.v (.int .u64 0)]),(16,.cells 309 ((l7 p.2.2).map .v))]⟩)
  (λp=>0<=p.2.1/\(s.size-p.2.1<p.1/\1<=p.1)/\va s p.1 p.2.1 p.2.2=R) (λp=>p.1) (s.size+1,i0,0) ?_ ⟨hj0.1,by simp only;omega,hR⟩ ?_
 ·exact wM (λk=>.key k) (aa cP @yK)
 rintro⟨n,i',a⟩ ⟨k0,⟨k1,k3⟩,k2⟩;simp only at k0 k1 k2;obtain⟨n,rfl⟩:∃ m,n=m+1:=⟨n-1,by simp only at k3;omega⟩;rw[va]at k2;refine Wp.block ?_;refine Wp.seq ?_;refine wR rv cP ?_ ?_
 ·simp[k0]
 refine vR rv cP ?_;refine wC cP (λhc=>?_) (λhc=>?_)
 ·simp at hc;have hR' : R=.ok (a,i' + 1):=by rw[<- k2,if_pos hc]
  have w1:IntKind.i64.wrap (i' + 1)=i' + 1:=ae oM oM;refine vR rv (aa cP w1) ?_;refine wE ?_;refine Wp.seq ?_;refine vR rv cP ?_;refine wC cP (λhc=>?_) (λhc=>?_)
  ·have hcar:jh s i=true:=hc;rw[hm,hR',hcar,uR,uj];refine wR rv cP ?_ ?_
   ·simp[lI]
   refine wZ cP ?_;exact⟨_,_,rfl,rfl,_,_,rfl,rfl,dE⟩
  ·have hcar:jh s i=false:=hc;rw[hm,hR',hcar,uR,uj];refine wK ?_;refine wR rv cP ?_ ?_
   ·simp[lI]
   refine wZ cP ?_;exact⟨_,_,rfl,rfl,_,_,rfl,rfl,dE⟩
 ·have hn:¬ (i' < s.size/\bt s i' = 93):=λh=>by
   apply Bool.eq_false_iff.1 hc;simp;exact h
  rw[if_neg hn]at k2;refine wK ?_;cases h1:eG s i' mH with
  |error j=>
   rw[h1]at k2;simp only at k2;rw[mH]at h1;rw[hm,<- k2,uR,lR];refine Wp.kH rv b8 (ev (aa cP h1)) ?_ ?_
   ·simp[hs,hg];omega
   refine qq ?_;exact⟨_,rfl⟩
  | ok p=>
   obtain⟨lo,j⟩:=p;obtain⟨o0,o1,o2,o3⟩:=kY h1 k0;rw[h1]at k2;simp only at k2;rw[mH]at h1;refine wR rv (aa cP h1) ?_ ?_
   ·simp[hs,hg];omega
   refine vR rv cP ?_;refine Wp.seq ?_;refine wR rv cP ?_ ?_
   ·simp;omega
   refine vR rv cP ?_;refine wC cP (λhc=>?_) (λhc=>?_)
   ·simp at hc;rw[if_pos hc]at k2;have w1:IntKind.i64.wrap (j+1)=j+1:=ae oM oM;refine vR rv (aa cP w1) ?_;refine vR rv cP ?_;cases h2:eG s (j+1) mH with
    |error l=>
     rw[h2]at k2;simp only at k2;rw[mH]at h2;rw[hm,<- k2,uR,lR];refine Wp.kH rv b8 (ev (aa cP h2)) ?_ ?_
     ·simp[hs,hg];omega
     refine qq ?_;exact⟨_,rfl⟩
    | ok p=>
     obtain⟨hi,l⟩:=p;obtain⟨r0,r1,r2,r3⟩:=kY h2 oM;rw[h2]at k2;simp only at k2;rw[mH]at h2;refine wR rv (aa cP h2) ?_ ?_
     ·simp[hs,hg];omega
     refine vR rv cP ?_;refine wC cP (λhc=>?_) (λhc=>?_)
     ·simp at hc;rw[if_pos hc]at k2;rw[hm,<- k2,uR,lR];refine Wp.q8 rv b8 (ev cP) ?_ ?_
      ·exact oo
      refine qq ?_;exact⟨_,rfl⟩
     ·simp at hc;rw[if_neg oM]at k2;refine wK ?_;refine xv rv cP ?_ ?_
      ·omega
      refine⟨(n,l,a ||| mu lo hi),⟨by simp only;omega,by simp only;omega,k2⟩,by simp only;omega,?_⟩;exact wM (λk=>.key k) cP
   ·have hn' : ¬ (j<s.size/\bt s j=45):=λh=>by
     apply Bool.eq_false_iff.1 hc;simp;exact h
    rw[if_neg hn']at k2;refine wK ?_;refine xv rv cP ?_ ?_
    ·omega
    refine⟨(n,j,a ||| mu lo lo),⟨by simp only;omega,by simp only;omega,k2⟩,by simp only;omega,?_⟩;exact wM (λk=>.key k) cP
def pq:ed prog 269 where
 T:=375
 pre:=λW bs fs as_=>match fs,as_ with|[.val (.string s),.val (.int .i64 i)],[]=>0<=i/\s.size<=140737488351232/\bB W (Out bs)|_,_=>False
 out:=λW fs as_=>match fs,as_ with|[.val (.string s),.val (.int .i64 i)],[]=>Jh s (fy s i)|_,_=>.pan [] undef
 enters:=call269
 ok:=by
  intro W w bs u fp us fs as_ hk ho hlt hmine hu hp;split at hp
  ·rename_i s i
   match us,hu with
   |[],_=>
    exact J2 s i u fp w hp.1 hp.2.1 (hp.2.2.dW hk hmine) ho hlt
  ·exact hp.elim
theorem F3(W:World)(s:ByteArray)(i:Int):pq.out W [.val (.string s),.val (.int .i64 i)] []=Jh s (fy s i):=rfl
theorem Ex(W:World)(bs:List Nat)(s:ByteArray)(i:Int):pq.pre W bs [.val (.string s),.val (.int .i64 i)] []=(0<=i/\s.size<=140737488351232/\bB W (Out bs)):=rfl
theorem LA:pq.T=375:=rfl
noncomputable def Gv:Env prog:=⟨λ| 270=>some K9.spec|224=>some Ci.spec|271=>some DK.spec|245=>some ofC.spec|269=>some pq.spec|_=>none,λ| _=>none,λ_ _=>none⟩
theorem afS:Gv.sp 270=some K9.spec:=rfl
theorem ad6:Gv.sp 224=some Ci.spec:=rfl
theorem abR:Gv.sp 271=some DK.spec:=rfl
theorem aca:Gv.sp 245=some ofC.spec:=rfl
theorem agB:Gv.sp 269=some pq.spec:=rfl
def BK:ByteArray:=⟨#[40,41,91,93,123,125,124,38,45,42,43,63,46,92,47,94]⟩
def afO:Except Int (Int×Int)->Except Int (CS×Int)
 |.error j=>.error j
 |.ok (b,j)=>.ok (mu b b,j)
def ei(s:ByteArray)(i:Int):Except Int (CS×Int):=
 if bt s i=46 then .ok (~~~(Km ⟨#[10]⟩ 1),i+1)
 else if bt s i=91 then fy s (i+1)
 else afO (eG s i BK)
def jn:=(aj cP F3 Ex LA @uj @lR afS (eT ad6 abR aca agB))
theorem ZZ(s:ByteArray)(i:Int)(u:Value)(fp:List Nat)(w:World)(h0:0<=i)(h1:i<s.size)(hs:s.size<=140737488351232)(hg:bB w (Out fp))(ho:bC w u fp 375 (EM s i))(hlt:∀ b∈fp,b<w.heap.size) :
  Calls prog 268 (#[u]++#[]) w λe w' => gN w u fp 375 e w' (Jh s (ei s i)):=by
 obtain⟨b0,b1⟩:=fA s i;have w1:IntKind.i64.wrap (i+1)=i+1:=ae oM oM;refine bh (nt:=42) #[] [.cell 2 309] (by show 2<=7;omega) ho hlt func268 rfl rfl rfl ?_;refine vR Gv jn ?_;refine Wp.seq ?_;refine Qr Gv jn ?_;refine vR Gv jn ?_;refine Wp.block ?_;refine vR Gv jn ?_;refine wC jn (λhc=>?_) (λhc=>?_)
 ·simp at hc;have he:ei s i=.ok (~~~(Km ⟨#[10]⟩ 1),i+1):=by rw[ei,if_pos hc]
  rw[he,uj];refine vR Gv (aa jn w1) ?_;refine wR Gv jn ?_ ?_
  ·decide
  refine wZ jn ?_;exact⟨_,_,rfl,rfl,_,_,rfl,rfl,dE⟩
 ·simp at hc;have hc0:=hc;refine vR Gv jn ?_;refine wC jn (λhc=>?_) (λhc=>?_)
  ·simp at hc;have he:ei s i=fy s (i+1):=by rw[ei,if_neg hc0,if_pos hc]
   rw[he];refine vR Gv (aa jn w1) ?_;cases h2:fy s (i+1) with
   |error j=>
    refine Wp.kH Gv b8 (ev (aa jn h2)) ?_ ?_
    ·simp[hs,hg];omega
    refine qq ?_;exact⟨_,rfl⟩
   |ok p=>
    obtain⟨a,j⟩:=p;refine wR Gv (aa jn h2) ?_ ?_
    ·simp[hs,hg];omega
    refine wZ jn ?_;exact⟨_,_,rfl,rfl,_,_,rfl,rfl,dE⟩
  ·simp at hc;have he:ei s i=afO (eG s i BK):=by rw[ei,if_neg hc0,if_neg hc]
   rw[he];refine wK ?_;cases h2:eG s i BK with
   |error j=>
    rw[BK]at h2;refine Wp.kH Gv b8 (ev (aa jn h2)) ?_ ?_
    ·simp[hs,hg];omega
    refine qq ?_;exact⟨_,rfl⟩
   |ok p=>
    obtain⟨b,j⟩:=p;obtain⟨o0,o1,o2,o3⟩:=kY h2 h0;rw[BK]at h2;refine wR Gv (aa jn h2) ?_ ?_
    ·simp[hs,hg];omega
    refine wR Gv jn ?_ ?_
    ·omega
    refine wZ jn ?_;exact⟨_,_,rfl,rfl,_,_,rfl,rfl,dE⟩
def GA:ed prog 268 where
 T:=375
 pre:=λW bs fs as_=>match fs,as_ with|[.val (.string s),.val (.int .i64 i)],[]=>0<=i/\i<s.size/\s.size<=140737488351232/\bB W (Out bs)|_,_=>False
 out:=λW fs as_=>match fs,as_ with|[.val (.string s),.val (.int .i64 i)],[]=>Jh s (ei s i)|_,_=>.pan [] undef
 enters:=call268
 ok:=by
  intro W w bs u fp us fs as_ hk ho hlt hmine hu hp;split at hp
  ·rename_i s i
   match us,hu with
   |[],_=>
    exact ZZ s i u fp w hp.1 hp.2.1 hp.2.2.1 (hp.2.2.2.dW hk hmine) ho hlt
  ·exact hp.elim
theorem SL(W:World)(s:ByteArray)(i:Int):GA.out W [.val (.string s),.val (.int .i64 i)] []=Jh s (ei s i):=rfl
theorem UK(W:World)(bs:List Nat)(s:ByteArray)(i:Int):GA.pre W bs [.val (.string s),.val (.int .i64 i)] []=(0<=i/\i<s.size/\s.size<=140737488351232/\bB W (Out bs)):=rfl
theorem adf:GA.T=375:=rfl
noncomputable def Vt:Env prog:=⟨λ| 268=>some GA.spec|_=>none,λ| _=>none,λ_ _=>none⟩
theorem abE:Vt.sp 268=some GA.spec:=rfl
def xZ(c i:Int)(t:ByteArray):Value:=.agg #[.int .i64 c,.int .i64 i,.string t]
def gp:=(aj @List.replicate_succ.{0} @List.replicate_zero.{0} @an @ab jo jl BH (aj BJ BG gS ca cc b9 cg (aj cf cj cd ck dc dh cZ (aj db c8 dd aaY WK Vg Xy (aj zQ AI zz zD zd A6 yU (aj AD Am AM pF o6 px oZ (aj w9 xp xm vS QJ Oy PD (aj Og Qa O8 Qu OA Qd PG (aj Pb @aG @al @ay @ax @σR.eq_1 @σL.eq_1 (aj @qp.eq_1 @qp.eq_2 @BE.eq_1 @BE.eq_2 @EM.eq_1 @SL @UK (aj @adf @uj @lR @jP.eq_1 @dX @lI @np (aj @nG @ll @qX @e8 @E3 @jC @List.drop_nil.{0} abE))))))))))))
noncomputable def YI:CatchC prog 267 where
 Ts:=[309,3,39]
 enters:=call267
 pre:=λvss pv=>(∃ a b c d e f g h,vss=[[a,b,c,d],[e],[f,g,h]])/\∃ c i t,pv=.iface 39 (xZ c i t)
 out:=λvss pv=>[[.int .u64 0,.int .u64 0,.int .u64 0,.int .u64 0],[.int .i64 0],match pv with|.iface _ (.agg x)=>x.toList|_=>[]]
 bw:=λvss pv=>[cC 0,.int .i64 0,match pv with|.iface _ x=>x|_=>undef]
 vals_ok:=by
  rintro vss pv ⟨_,c,i,t,rfl⟩
  refine⟨.inl ⟨by simp only[jD,Op.operands,Value.cells,σ0,σB,Nat.reduceEqDiff,Nat.reduceAdd,Nat.reduceMul,Nat.reduceLT,Nat.reduceLeDiff,Nat.reduceBEq,av,Int.reduceToNat,Int.reduceLT,Int.reduceLE,Nat.reduceDiv,Nat.reduceMod,Nat.reduceSub,Int.reducePow,Nat.reducePow,σP,σB3,gp]<;>rfl,by simp only[jD,Op.operands,Value.cells,σ0,σB,Nat.reduceEqDiff,Nat.reduceAdd,Nat.reduceMul,Nat.reduceLT,Nat.reduceLeDiff,Nat.reduceBEq,av,Int.reduceToNat,Int.reduceLT,Int.reduceLE,Nat.reduceDiv,Nat.reduceMod,Nat.reduceSub,Int.reducePow,Nat.reducePow,σP,σB3,gp],?_⟩,.inr ⟨by simp only[jD,Op.operands,Value.cells,σ0,σB,Nat.reduceEqDiff,Nat.reduceAdd,Nat.reduceMul,Nat.reduceLT,Nat.reduceLeDiff,Nat.reduceBEq,av,Int.reduceToNat,Int.reduceLT,Int.reduceLE,Nat.reduceDiv,Nat.reduceMod,Nat.reduceSub,Int.reducePow,Nat.reducePow,σP,σB3,gp],rfl⟩,.inl ⟨by simp only[jD,Op.operands,Value.cells,σ0,σB,Nat.reduceEqDiff,Nat.reduceAdd,Nat.reduceMul,Nat.reduceLT,Nat.reduceLeDiff,Nat.reduceBEq,av,Int.reduceToNat,Int.reduceLT,Int.reduceLE,Nat.reduceDiv,Nat.reduceMod,Nat.reduceSub,Int.reducePow,Nat.reducePow,σP,σB3,gp]<;>rfl,by simp only[jD,Op.operands,Value.cells,σ0,σB,Nat.reduceEqDiff,Nat.reduceAdd,Nat.reduceMul,Nat.reduceLT,Nat.reduceLeDiff,Nat.reduceBEq,av,Int.reduceToNat,Int.reduceLT,Int.reduceLE,Nat.reduceDiv,Nat.reduceMod,Nat.reduceSub,Int.reducePow,Nat.reducePow,σP,σB3,gp],rfl⟩,trivial⟩
  rfl
 quiet:=λw us hl=>by
  match us,hl with
  | [u0,u1,u2],_=>
   refine s8 (nt:=10) w _ func267 rfl rfl oM oM rfl ?_;refine vR Vt gp ?_;refine wC gp (λhc=>?_) (λhc=>?_)
   ·simp at hc
   ·refine wK ?_;simp only[jD,Op.operands,Value.cells,σ0,σB,Nat.reduceEqDiff,Nat.reduceAdd,Nat.reduceMul,Nat.reduceLT,Nat.reduceLeDiff,Nat.reduceBEq,av,Int.reduceToNat,Int.reduceLT,Int.reduceLE,Nat.reduceDiv,Nat.reduceMod,Nat.reduceSub,Int.reducePow,Nat.reducePow,σP,σB3,qW,jv,nD,lO,gp]
    done
 caught:=λw us bl vss pv hl hn hlt hp=>by
  obtain⟨⟨a,b,c,d,e,f,g,h,rfl⟩,k,i,t,rfl⟩:=hp;have h3:=hl.len.1;refine rp (nt:=10) func267 rfl rfl oM oM ?_ hl hn hlt ?_ ?_
  ·rw[h3];rfl
  ·rw[h3];decide
  intro us _;refine vR Vt gp ?_;refine wC gp (λhc=>?_) (λhc=>?_)
  ·skip;refine vrD Vt (aa gp @xZ.eq_1) ?_;refine wS gp ?_;exact⟨rfl,rfl,rfl,trivial⟩
  ·cases hc
def rl(c:Int)(a:CS)(j k:Int):Value:=.tuple #[cC a,.int .i64 j,xZ c k ⟨#[]⟩]
def um(s:ByteArray)(i:Int):Value:=
 if i<0\/s.size<=i then rl 2 0 0 0
 else match ei s i with
  |.error j=>rl 10 0 0 j
  |.ok (a,j)=>rl 0 a j 0
theorem WE(s:ByteArray)(i:Int)(w:World)(hs:s.size<=140737488351232)(hg:bB w (Out [])) :
  Calls prog 263 #[.string s,.int .i64 i] w λe w' => e=.returned (um s i)/\ah w [] w' := by
 refine xx (nt:=31) func263 rfl rfl ?_;refine l9.seq' (rs:=[.cell 4 309,.cell 5 3,.cell 6 39]) rfl ?_;refine vr Vt gp ?_;refine l9.seq' (rs:=[.cell 4 309,.cell 5 3,.cell 6 39]) rfl ?_;refine vR Vt gp ?_;refine wC gp (λhc=>?_) (λhc=>?_)
 ·have hb:i<0\/s.size<=i:=by simpa using hc
  have he:um s i=rl 2 0 0 0:=by rw[um,if_pos hb]
  rw[he];refine vR Vt gp ?_;refine wZ gp ?_;exact λE=>rfl
 ·have hb:¬ (i<0\/s.size<=i):=λh=>by
   apply Bool.eq_false_iff.1 hc;simpa using h
  have he:um s i=match ei s i with
    |.error j=>rl 10 0 0 j
    |.ok (a,j)=>rl 0 a j 0:=by rw[um,if_neg hb]
  refine wK ?_;refine l9.Vi (rs:=[.cell 4 309,.cell 5 3,.cell 6 39]) rfl YI [4,5,6] [0,8,16] rfl dE rfl dE rfl rfl ?_ ?_ λus hus=>?_
  ·rintro p hp;simp only[List.zip_cons_cons,List.zip_nil_right,List.mem_cons,List.not_mem_nil,or_false]at hp;rcases hp with rfl|rfl|rfl<;>rfl
  ·rintro k hk;simp only[List.mem_cons,List.not_mem_nil,or_false]at hk;rcases hk with rfl|rfl|rfl<;>exact⟨_,_,rfl⟩
  have hi:0<=i/\i<s.size:=oM;refine vR Vt gp ?_;cases h2:ei s i with
  |error j=>
   rw[he,h2];refine Wp.kH Vt b8 (ev (aa gp h2)) ?_ ?_
   ·simp[hs,hg];omega
   refine qq ?_;refine wS gp ?_;refine⟨.iface 39 (xZ 10 j ⟨#[]⟩),[[.int .u64 0,.int .u64 0,.int .u64 0,.int .u64 0],[.int .i64 0],[.int .i64 0,.int .i64 0,.string ⟨#[]⟩]],rfl,⟨?_,?_,?_,?_,?_,?_,trivial⟩,⟨⟨_,_,_,_,_,_,_,_,rfl⟩,10,j,⟨#[]⟩,rfl⟩,λE=>rfl⟩
   all_goals rfl
  |ok p=>
   obtain⟨a,j⟩:=p;rw[he,h2];refine wR Vt (aa gp h2) ?_ ?_
   ·simp[hs,hg];omega
   refine Qr Vt gp ?_;refine wZ gp ?_;exact λE=>rfl
def aH:Rx->Value
 |.eps=>.iface 283 (.agg #[])
 |.cls S=>.iface 311 (cC S)
 |.cat a b=>.iface 281 (.agg #[aH a,aH b])
 |.alt a b=>.iface 284 (.agg #[aH a,aH b])
 |.star a=>.iface 279 (.agg #[aH a])
 |.and a b=>.iface 285 (.agg #[aH a,aH b])
 |.minus a b=>.iface 286 (.agg #[aH a,aH b])
theorem bZ(t:Rx):(aH t).oneCell' = true:=by cases t<;>rfl
theorem cO:∀ a b:Rx,aH a=aH b->a=b
 |.eps,b,h=>by cases b<;>simp_all [aH]
 |.cls S,b,h=>by
  cases b<;>simp[aH]at h;rw[cL _ _ h]
 |.cat x y,b,h=>by
  cases b<;>simp[aH]at h;rw[cO x _ h.1,cO y _ h.2]
 |.alt x y,b,h=>by
  cases b<;>simp[aH]at h;rw[cO x _ h.1,cO y _ h.2]
 |.star x,b,h=>by
  cases b<;>simp[aH]at h;rw[cO x _ h]
 |.and x y,b,h=>by
  cases b<;>simp[aH]at h;rw[cO x _ h.1,cO y _ h.2]
 |.minus x y,b,h=>by
  cases b<;>simp[aH]at h;rw[cO x _ h.1,cO y _ h.2]
inductive Jn where
 |cat|alt|and|minus
def Jn.f:Jn->FuncId
 |.cat=>252
 |.alt=>181
 |.and=>217
 |.minus=>218
def Jn.mk:Jn->Rx->Rx->Rx
 |.cat=>.cat
 |.alt=>.alt
 |.and=>.and
 |.minus=>.minus
def Jn.T:Jn->TypeId
 |.cat=>281
 |.alt=>284
 |.and=>285
 |.minus=>286
def Jn.v(g:Jn):Value:=.func (.func g.f) #[] #[]
def nO(b:Nat):Value:=.pointer (some ⟨b,0,none⟩)
inductive bJ (W:World) (S:Nat->Prop):Value->Rx->Prop where
 |leaf (b:Nat) (t:Rx):XC W S b 0 (aH t)->bJ W S (.func (.func 259) #[] #[nO b]) t
 | join (g:Jn) (b5 b3 b4:Nat) (fa fb:Value) (ta tb:Rx):XC W S b5 0 g.v->XC W S b3 1 fa->XC W S b4 1 fb->bJ W S fa ta->bJ W S fb tb ->
   bJ W S (.func (.func 220) #[] #[nO b5,nO b3,nO b4]) (g.mk ta tb)
 |star (b:Nat) (fa:Value) (ta:Rx):XC W S b 1 fa->bJ W S fa ta->bJ W S (.func (.func 264) #[] #[nO b]) (.star ta)
theorem bJ.mono{W W' : World}{S S' : Nat->Prop}{v:Value}{t:Rx}(h:bJ W S v t)(hs:cT W S W' S'):bJ W' S' v t:=by
 induction h with
 |leaf b t h=>exact .leaf b t (h.mono hs)
 |join g b5 b3 b4 fa fb ta tb h1 h2 h3 _ _ ih1 ih2=>exact .join g b5 b3 b4 fa fb ta tb (h1.mono hs) (h2.mono hs) (h3.mono hs) ih1 ih2
 |star b fa ta h _ ih=>exact .star b fa ta (h.mono hs) ih
theorem bJ.one{W:World}{S:Nat->Prop}{v:Value}{t:Rx}(h:bJ W S v t):v.oneCell' = true:=by cases h<;>rfl
theorem JI{W:World}{S S' : Nat->Prop}{b o:Nat}{u v:Value}(h:XC W S b o u)(h' : XC W S' b o v):u=v:=Option.some.inj (h.2.symm.trans h'.2)
theorem bJ.fn{W:World}{S S' : Nat->Prop}{v:Value}{t t' : Rx}(h:bJ W S v t)(h' : bJ W S' v t'):t=t' := by
 induction h generalizing t' with
 |leaf b t h=>
  cases h' with
  |leaf _ t' h2=>exact cO _ _ (JI h h2)
 | join g b5 b3 b4 fa fb ta tb h1 h2 h3 _ _ ih1 ih2=>
  cases h' with
  |join g' _ _ _ fa' fb' ta' tb' k1 k2 k3 k4 k5=>
   obtain rfl:=JI h2 k2;obtain rfl:=JI h3 k3;have hg:=JI h1 k1;rw[ih1 k4,ih2 k5];have:g=g' := by cases g<;>cases g' <;> simp[Jn.v,Jn.f]at hg<;>rfl
   rw[this]
 | star b fa ta h _ ih=>
  cases h' with
  |star _ fa' ta' k1 k2=>
   obtain rfl:=JI h k1;rw[ih k2]
def dU(r:RL):FK:=⟨λcs W S=>∃ fv,cs=[.int .i64 (r.1:Nat),fv]/\bJ W S fv r.2,λhs ⟨fv,h1,h2⟩=>⟨fv,h1,h2.mono hs⟩⟩
def je(r:RL)(fv:Value):Value:=.agg #[.int .i64 (r.1:Nat),fv]
theorem sC(r:RL)(fv:Value)(h:fv.oneCell' = true):Sh.two.val [.int .i64 (r.1:Nat),fv]=je r fv:=by
 show Value.agg #[hv (.int .i64 (r.1:Nat)),hv fv]=_;rw[kG h];rfl
theorem l6{W:World}{S:Nat->Prop}{r:RL}{u:Value}(h:∃ cs,u=Sh.two.val cs/\(dU r).Φ cs W S):∃ fv,u=je r fv/\bJ W S fv r.2:=by
 obtain⟨cs,rfl,fv,rfl,h⟩:=h;exact⟨fv,sC r fv h.one,h⟩
theorem cr{W:World}{S:Nat->Prop}{r:RL}{fv:Value}(h:bJ W S fv r.2):∃ cs,je r fv=Sh.two.val cs/\(dU r).Φ cs W S:=
 ⟨_,(sC r fv h.one).symm,fv,rfl,h⟩
theorem nH{r:RL}{W1:World}{bs1:List Nat}{w:World}{S:Nat->Prop}{fv:Value}(hg:bJ W1 (jk (eP w S) bs1) fv r.2):VE w S W1 bs1 (.agg [.v (.int .i64 (r.1:Nat)),.v fv]) (.fact Sh.two (dU r)):=
 ⟨[.int .i64 (r.1:Nat),fv],λE=>(sC r fv hg.one).symm,fv,rfl,hg⟩
theorem cI{W:World}{S:Nat->Prop}{r:RL}{cs:List Value}(h:(dU r).Φ cs W S):∃ fv,cs=[.int .i64 (r.1:Nat),fv]/\bJ W S fv r.2/\hv fv=fv:=by
 obtain⟨fv,h1,h2⟩:=h;exact⟨fv,h1,h2,kG h2.one⟩
theorem jy(t:Rx):partsOf (.v (aH t))=[.v (aH t)]:=by cases t<;>rfl
def IU:=(aj @List.replicate_succ.{0} @List.replicate_zero.{0} @an @ab jo jl gS (aj ca cc b9 cg vY vX vN (aj wU OM QO PC sZ sK sE (aj sU tI sX Wf ZW Xu Zi (aj YD UZ YK Zz aa0 Vr ZB (aj Zc YN Xr Y1 aaX aaU P2 (aj Qt Pa OY Pm Ov PY Zu (aj Wm Xv Zf aat Yi ZS ZX (aj Xt Y3 Vj U1 YT WN V6 (aj aaZ aae aaH aap VA Xp XJ (aj Yg X7 Wu Y5 VF Dt DE (aj Da @aG @al @ay @ax @jy (λt=>kG (bZ t)) @bZ))))))))))))
theorem V8(t:Rx)(w:World)(S:Nat->Prop):Calls prog 249 #[aH t] w λe w' => rA w S e w' (.fact Sh.two (dU (bY t))):=by
 refine jz (nt:=5) S [.cell 2 254] func249 rfl rfl rfl ?_;refine vR Γ0 IU ?_;refine vR Γ0 IU ?_;refine Wp.oC 0 (ev IU) (λE=>by simp only[au,den];exact rfl) λW1 bs1 b hx hb hn hc=>?_
 refine wZ IU ?_;exact⟨[_,_],λE=>rfl,_,rfl,.leaf b t ⟨⟨eP.up w S b hn,hb⟩,cell_of hc 0 sI⟩⟩
def oB(t:Rx):rr prog 249 where
 kinds:=[none]
 pre:=λas_ _ _=>as_=[.val (aH t)]
 premono:=λ_ _ _ _ _ _ h=>h
 out:=λ_=>.fact Sh.two (dU (bY t))
 enters:=call249
 ok:=by
  intro w S us as_ hu hp;subst hp
  match us,hu with
  |[u],hu=>
   obtain⟨rfl,_⟩:=hu;exact V8 t w S
theorem Nr(n:Int)(w:World):Calls prog 219 #[.int .i64 n] w λe w' => e=.returned (.int .i64 (min n 2001))/\ah w [] w' := by
 refine af (nt:=5) [.tmp 2] func219 rfl rfl rfl ?_;refine vR Γ0 IU ?_;refine vR Γ0 IU ?_;refine wZ IU ?_;exact λE=>by simp only[den];congr 1;split<;>omega
def yg:aM prog 219 where
 pre:=λW bs=>λ| [.val (.int .i64 n)]=>True|_=>False
 res:=λW=>λ| [.val (.int .i64 n)]=>.int .i64 (min n 2001)|_=>undef
 enters:=call219
 ok:=by
  intro W w bs us as_ hk hu hp;split at hp
  ·rename_i n
   match us,hu with
   |[u0],hu=>
    obtain⟨rfl,_⟩:=hu;exact Nr n w
  ·exact hp.elim
theorem w7(W:World)(n:Int):yg.res W [.val (.int .i64 n)]=.int .i64 (min n 2001):=rfl
theorem w6(W:World)(bs:List Nat)(n:Int):yg.pre W bs [.val (.int .i64 n)]=(True):=rfl
noncomputable def Γ40:Env prog:=⟨λ| 219=>some yg.spec|_=>none,λ| _=>none,λ_ _=>none⟩
theorem Pe:Γ40.sp 219=some yg.spec:=rfl
theorem Qe{a b:Nat}(ha:a<=2001)(hb:b<=2001):IntKind.i64.wrap (IntKind.i64.wrap (1+(a:Int))+(b:Int))=((1+a+b:Nat):Int):=by
 rw[ae (n:=1+(a:Int)) oM oM,ae oM oM];omega
theorem lu(n:Nat):min ((n:Nat):Int) 2001=((cF n:Nat):Int):=by unfold cF;omega
def BB:=(eT IU @w7 @w6 @Pe)
theorem Yn(g:Jn)(a b:RL)(fa fb:Value)(ha:a.1<=2001)(hb:b.1<=2001)(w:World)(S:Nat->Prop)(h1:bJ w S fa a.2)(h2:bJ w S fb b.2) :
  Calls prog 180 #[je a fa,je b fb,g.v] w λe w' => rA w S e w' (.fact Sh.two (dU (aX g.mk a b))):=by
 have ga:partsOf (.v (je a fa))=[.v (.int .i64 (a.1:Nat)),.v fa]:=rfl;have gb:partsOf (.v (je b fb))=[.v (.int .i64 (b.1:Nat)),.v fb]:=rfl;have gg:partsOf (.v g.v)=[.v g.v]:=rfl;have w1:=Qe ha hb;refine jz (nt:=16) S [.cell 6 254] func180 rfl rfl rfl ?_;refine vR Γ40 (eT BB ga gb gg) ?_
 refine vR Γ40 (mh BB ga gb gg w1 @lu) ?_;refine Wp.oC 0 (ev (eT BB ga gb gg)) (λE=>by simp only[au,den,ga,gb,gg];exact rfl) λW1 bs1 b3 hx1 hb3 hn3 hc3=>?_
 refine Wp.oC 8 (ev (eT BB ga gb gg)) (λE=>by simp only[au,den,ga,gb,gg];exact rfl) λW2 bs2 b4 hx2 hb4 hn4 hc4=>?_
 refine Wp.oC 16 (ev (eT BB ga gb gg)) (λE=>by simp only[au,den,ga,gb,gg];exact rfl) λW3 bs3 b5 hx3 hb5 hn5 hc5=>?_
 refine wZ (mh BB ga gb gg w1 @lu) ?_;have hx:=(hx1.trans hx2).trans hx3;have u0:=eP.up w S;have u1:=u0.ext hx1;have u2:=u1.ext hx2;have s0:cT w S W3 (jk (eP w S) bs3):=(eP.lA w S).trans (hx.Gw) (Nat.le_refl _)
 refine⟨[_,_],λE=>rfl,_,rfl,.join g b5 b3 b4 fa fb a.2 b.2 ⟨⟨u2 b5 hn5,hb5⟩,cell_of hc5 0 sI⟩ ?_ ?_ (h1.mono s0) (h2.mono s0)⟩
 ·exact XC.mono (XC.mono ⟨⟨u0 b3 hn3,hb3⟩,cell_of hc3 1 sI⟩ hx2.Gw) hx3.Gw
 ·exact XC.mono ⟨⟨u1 b4 hn4,hb4⟩,cell_of hc4 1 sI⟩ hx3.Gw
def iW(g:Jn)(a b:RL):rr prog 180 where
 kinds:=[some (Sh.two,dU a),some (Sh.two,dU b),none]
 pre:=λas_ _ _=>(a.1<=2001/\b.1<=2001)/\∃ x y,as_=[x,y,.val g.v]
 premono:=λ_ _ _ _ _ _ h=>h
 out:=λ_=>.fact Sh.two (dU (aX g.mk a b))
 enters:=call180
 ok:=by
  intro w S us as_ hu hp;obtain⟨⟨ha,hb⟩,x,y,rfl⟩:=hp
  match us,hu with
  |[u1,u2,u3],hu=>
   obtain⟨h1,h2,rfl,_⟩:=hu;obtain⟨fa,rfl,h1'⟩:=l6 h1;obtain⟨fb,rfl,h2'⟩:=l6 h2;exact Yn g a b fa fb ha hb w S h1' h2'
theorem Zp(a:RL)(fa:Value)(ha:a.1<=2001)(w:World)(S:Nat->Prop)(h1:bJ w S fa a.2) :
  Calls prog 260 #[je a fa] w λe w' => rA w S e w' (.fact Sh.two (dU (gf a))):=by
 have ga:partsOf (.v (je a fa))=[.v (.int .i64 (a.1:Nat)),.v fa]:=rfl;have w1:IntKind.i64.wrap (1+(a.1:Int))=((1+a.1:Nat):Int):=wW;refine jz (nt:=9) S [.cell 2 254] func260 rfl rfl rfl ?_;refine vR Γ40 (aa BB ga) ?_;refine vR Γ40 (eT BB ga w1 @lu) ?_
 refine Wp.oC 0 (ev (aa BB ga)) (λE=>by simp only[au,den,ga];exact rfl) λW1 bs1 b3 hx1 hb3 hn3 hc3=>?_
 refine wZ (eT BB ga w1 @lu) ?_;have s0:cT w S W1 (jk (eP w S) bs1):=(eP.lA w S).trans (hx1.Gw) (Nat.le_refl _);exact⟨[_,_],λE=>rfl,_,rfl,.star b3 fa a.2 ⟨⟨eP.up w S b3 hn3,hb3⟩,cell_of hc3 1 sI⟩ (h1.mono s0)⟩
def zM(a:RL):rr prog 260 where
 kinds:=[some (Sh.two,dU a)]
 pre:=λas_ _ _=>a.1<=2001/\∃ x,as_=[x]
 premono:=λ_ _ _ _ _ _ h=>h
 out:=λ_=>.fact Sh.two (dU (gf a))
 enters:=call260
 ok:=by
  intro w S us as_ hu hp;obtain⟨hp,x,rfl⟩:=hp
  match us,hu with
  |[u1],hu=>
   obtain⟨h1,_⟩:=hu;obtain⟨fa,rfl,h1'⟩:=l6 h1;exact Zp a fa hp w S h1'
noncomputable def Γ41(G:Nat->Prop)(a:RL):Env prog:=⟨λ| 249=>some ((oB .eps).spec G)|180=>some ((iW .alt a (bY .eps)).spec G)|_=>none,λ_=>none,λ_ _=>none⟩
theorem ac9(G:Nat->Prop)(a:RL):(Γ41 G a).sp 249=some ((oB .eps).spec G):=rfl
theorem acn(G:Nat->Prop)(a:RL):(Γ41 G a).sp 180=some ((iW .alt a (bY .eps)).spec G):=rfl
def aea:=(uv BB @ig @oB.eq_1 @iW.eq_1 @zM.eq_1 @ac9 @acn)
theorem Tf(a:RL)(fa:Value)(ha:a.1<=2001)(w:World)(S:Nat->Prop)(h1:bJ w S fa a.2) :
  Calls prog 261 #[je a fa] w λe w' => rA w S e w' (.fact Sh.two (dU (bM a))):=by
 have ga:partsOf (.v (je a fa))=[.v (.int .i64 (a.1:Nat)),.v fa]:=rfl;refine jz (nt:=8) S [.cell 2 254] func261 rfl rfl rfl ?_;refine vR Γ40 (aa aea ga) ?_;refine kO (Γ41 (eP w S) a) (aa aea ga) ?_ ?_
 ·have u0:=eP.up w S;exact⟨⟨rfl,u0⟩,⟨cr (h1.mono (eP.lA w S)),⟨ha,dE⟩,_,_,rfl⟩,u0⟩
 refine Wp.ji 48 (ev (aa aea ga)) (cT.refl _ _) λW1 bs1 cs hx1 hΦ=>?_
 obtain⟨fv,rfl,hg,hv1⟩:=cI hΦ;refine wZ (bQ aea ga hv1) ?_;exact nH hg
def uD(a:RL):rr prog 261 where
 kinds:=[some (Sh.two,dU a)]
 pre:=λas_ _ _=>a.1<=2001/\∃ x,as_=[x]
 premono:=λ_ _ _ _ _ _ h=>h
 out:=λ_=>.fact Sh.two (dU (bM a))
 enters:=call261
 ok:=by
  intro w S us as_ hu hp;obtain⟨hp,x,rfl⟩:=hp
  match us,hu with
  |[u1],hu=>
   obtain⟨h1,_⟩:=hu;obtain⟨fa,rfl,h1'⟩:=l6 h1;exact Tf a fa hp w S h1'
theorem rT(f:RL->RL):∀ (n:Nat) (x:RL),bH f (n+1) x=f (bH f n x)
 |0,x=>rfl
 |n+1,x=>by rw[bH,rT f n,<- bH]
theorem gj(mk:Rx->Rx->Rx)(a b:RL):(aX mk a b).1<=2001:=kX _
theorem pt(f:RL->RL)(hf:∀ x,(f x).1<=2001):∀ (n:Nat) (x:RL),x.1<=2001->(bH f n x).1<=2001
 |0,x,h=>h
 |n+1,x,h=>pt f hf n (f x) (hf x)
end
end Go.Proofs.YtnemkecffmdlnaaGreatDoor
