/-
 Part 3 of the proof (packed).
-/
import Derived.Test.YtnemkecffmdlnaaGreatDoorC2
import Derived.Lib.Bytealg
set_option linter.unusedSimpArgs false
set_option linter.unusedVariables false
set_option linter.defProp false
set_option maxHeartbeats 16000000
namespace Go.LE
section
open Go.RowKit
structure Sh where
 tm:Nat->SV
 g:∀ E k,den E (tm k)=den (λ_=>E k) (tm 0)
 k:∀ k,∀ j∈(tm k).keys,j=k
def Sh.val(s:Sh)(cs:List Value):Value:=den (λ_=>eu cs) (s.tm 0)
def Sh.one:Sh:=⟨λk=>.part k 0,λ_ _=>rfl,λk j hj=>by simpa [SV.keys] using hj⟩
def Sh.two:Sh:=⟨λk=>.agg [.part k 0,.part k 1],λ_ _=>rfl,λk j hj=>by simpa [SV.keys,ay] using hj⟩
abbrev Kd:=Option (Sh×FK)
def v7:Option Value->Option (List Value)->Option (List Value)
 |some v,some vs=>some (v::vs)
 |_,_=>none
def func2(f:Fn):Option (List Value)->Option (List Value)->Option Value
 |some a,some c=>some (.func f a.toArray c.toArray)
 |_,_=>none
mutual
def dk:SV->Option Value
 |.v x=>some x
 |.agg l=>(gS l).map λvs=>.agg vs.toArray
 |.ifc t x=>(dk x).map (.iface t)
 |.fn f a c=>func2 f (gS a) (gS c)
 |_=>none
def gS:List SV->Option (List Value)
 |[]=>some []
 |x::r=>v7 (dk x) (gS r)
end
mutual
theorem so{E:Nat->Value}:∀ {x:SV} {v:Value},dk x=some v->den E x=v
 |.v x,v,h=>by simp only[dk,Option.some.injEq]at h;exact h
 |.own _ _,v,h=>by simp[dk]at h
 |.hd _,v,h=>by simp[dk]at h
 |.part _ _,v,h=>by simp[dk]at h
 |.tup _,v,h=>by simp[dk]at h
 |.agg l,v,h=>by
  simp only[dk,Option.map_eq_some_iff]at h;obtain⟨vs,h1,rfl⟩:=h;simp only[den,nX h1]
 |.ifc t x,v,h=>by
  simp only[dk,Option.map_eq_some_iff]at h;obtain⟨y,h1,rfl⟩:=h;simp only[den,so h1]
 | .fn f a c,v,h=>by
  simp only[dk]at h;cases h1:gS a with
  |none=>rw[h1]at h;simp[func2]at h
  | some a' =>
   cases h2:gS c with
   |none=>rw[h1,h2]at h;simp[func2]at h
   |some c' =>
    rw[h1,h2]at h;simp only[func2,Option.some.injEq]at h;subst h;simp only[den,nX h1,nX h2]
theorem nX{E:Nat->Value}:∀ {l:List SV} {vs:List Value},gS l=some vs->au E l=vs
 |[],vs,h=>by simp only[gS,Option.some.injEq]at h;subst h;rfl
 | x::r,vs,h=>by
  simp only[gS]at h;cases h1:dk x with
  |none=>rw[h1]at h;simp[v7]at h
  | some v' =>
   cases h2:gS r with
   |none=>rw[h1,h2]at h;simp[v7]at h
   |some vs' =>
    rw[h1,h2]at h;simp only[v7,Option.some.injEq]at h;subst h;simp only[au,so h1,nX h2]
end
def l5:SV->Option Nat
 |.part k _=>some k
 |.agg (.part k _::_)=>some k
 |_=>none
structure GV1 where
 p:Prop
 a:AV
 rs:List Nat
 cs:List Nat
structure GVL where
 p:Prop
 as_:List AV
 rs:List Nat
 cs:List Nat
def aiP:Option (AV×List Nat)->GV1
 |some (a,r)=>⟨True,a,r,[]⟩
 |none=>⟨False,.val undef,[],[]⟩
def gvO(G:Nat->Prop)(W:World)(bs:List Nat)(sh:Sh)(Φ:FK)(x:SV)(k:Nat):Option aS->GV1
 |some (.obj d R)=>⟨x=sh.tm k/\d=[]/\R=kC G W bs Φ,.val undef,[k],[k]⟩
 |_=>⟨False,.val undef,[],[]⟩
def gvF(G:Nat->Prop)(W:World)(bs:List Nat)(h:Hp)(sh:Sh)(Φ:FK)(x:SV):Option Value->Option Nat->GV1
 |some v,_=>⟨∃ cs,v=sh.val cs/\Φ.Φ cs W (jl G bs),.val undef,[],[]⟩
 |none,some k=>gvO G W bs sh Φ x k (h k)
 |none,none=>⟨False,.val undef,[],[]⟩
def BK(G:Nat->Prop)(W:World)(bs:List Nat)(h:Hp):Kd->SV->GV1
 |none,x=>aiP (cL h x)
 |some (sh,Φ),x=>gvF G W bs h sh Φ x (dk x) (l5 x)
def gvC(a:GV1)(l:GVL):GVL:=⟨a.p/\l.p,a.a::l.as_,a.rs++l.rs,a.cs++l.cs⟩
def oe(G:Nat->Prop)(W:World)(bs:List Nat)(h:Hp):List Kd->List SV->GVL
 |[],[]=>⟨True,[],[],[]⟩
 |kd::ks,x::r=>gvC (BK G W bs h kd x) (oe G W bs h ks r)
 |_,_=>⟨False,[],[],[]⟩
def HA(w:World)(S:Nat->Prop):List Kd->List Value->List AV->Prop
 |[],[],[]=>True
 |none::ks,u::us,a::as_=>Ai w u a/\HA w S ks us as_
 |some (sh,Φ)::ks,u::us,_::as_=>(∃ cs,u=sh.val cs/\Φ.Φ cs w S)/\HA w S ks us as_
 |_,_,_=>False
section
variable {P:Program}{W:World}{bs:List Nat}{κ:Nat}{E:Nat->Value}{F:Nat->List Nat}{h:Nat->Option aS}{w:World}{K:Nat->Prop}{G:Nat->Prop}
def N7(w:World)(S:Nat->Prop)(u:Value)(a:AV):Kd->Prop
 |none=>Ai w u a
 |some (sh,Φ)=>∃ cs,u=sh.val cs/\Φ.Φ cs w S
theorem ahk(hs:ai W bs E F h w){S:Nat->Prop}(hS:∀ b,b<W.heap.size->jl G bs b->S b){kd:Kd}{x:SV}(hp:(BK G W bs h kd x).p)(hc:∀ k∈(BK G W bs h kd x).cs,∀ b∈F k,S b) :
  N7 w S (den E x) (BK G W bs h kd x).a kd:=by
 match kd with
 |none=>
  simp only[BK,N7]at hp ⊢;cases hv:cL h x with
  |none=>rw[hv]at hp;exact hp.elim
  |some q=>obtain⟨a,r⟩:=q;exact DP hs hv
 | some (sh,Φ)=>
  simp only[BK,N7]at hp hc ⊢;cases hv:dk x with
  |some v=>
   rw[hv]at hp;obtain⟨cs,h1,h2⟩:=hp;exact⟨cs,by rw[so hv,h1],Φ.mono (λb hb hr=>⟨hs.keeps.block b hb hr.2,hS b hb hr⟩) h2⟩
  | none=>
   rw[hv]at hp hc;cases hk:l5 x with
   |none=>rw[hk]at hp;exact hp.elim
   | some k=>
    rw[hk]at hp hc;simp only[gvF]at hp hc;cases hkk:h k with
    |none=>rw[hkk]at hp;exact hp.elim
    | some e=>
     rw[hkk]at hp hc;cases e with
     |cells T vs=>exact hp.elim
     |row T s n vs=>exact hp.elim
     |obj d R=>
      obtain⟨hx,rfl,rfl⟩:=hp;obtain⟨⟨⟨hG,cs,h1,h2⟩,_⟩,_⟩:=hs.ent k _ hkk;refine⟨cs,?_,h2 w S (λb hb hr=>⟨hs.keeps.block b hb hr.2,hS b hb hr⟩) λb hb=>⟨rfl,hc k (by simp[gvO]) b hb⟩⟩;rw[hx,sh.g E k,h1];rfl
theorem D0(hs:ai W bs E F h w){S:Nat->Prop}(hS:∀ b,b<W.heap.size->jl G bs b->S b):∀ {kds:List Kd} {l:List SV},(oe G W bs h kds l).p->(∀ k∈(oe G W bs h kds l).cs,∀ b∈F k,S b) ->
  HA w S kds (au E l) (oe G W bs h kds l).as_
 |[],[],_,_=>trivial
 |[],_::_,hp,_=>hp.elim
 |_::_,[],hp,_=>hp.elim
 |kd::ks,x::r,hp,hc=>by
  have h1:=ahk hs hS (kd:=kd) (x:=x) hp.1 (λk hk=>hc k (List.mem_append_left _ hk));have h2:=D0 hs hS (kds:=ks) (l:=r) hp.2 (λk hk=>hc k (List.mem_append_right _ hk));revert h1;cases kd with
  |none=>exact λh1=>⟨h1,h2⟩
  |some q=>exact λh1=>⟨h1,h2⟩
theorem ae7{h' : Hp}{kd:Kd}{x:SV}(hp:(BK G W bs h kd x).p)(hr:∀ k∈(BK G W bs h kd x).rs,h' k=h k):BK G W bs h' kd x=BK G W bs h kd x:=by
 match kd with
 | none=>
  simp only[BK]at hp hr ⊢;cases hv:cL h x with
  |none=>rw[hv]at hp;exact hp.elim
  |some q=>
   obtain⟨a,r⟩:=q;rw[hv]at hr;rw[CL hv hr]
 | some (sh,Φ)=>
  simp only[BK]at hp hr ⊢;cases hv:dk x with
  |some v=>rfl
  | none=>
   rw[hv]at hp hr;cases hk:l5 x with
   |none=>rfl
   | some k=>
    rw[hk]at hp hr;simp only[gvF]at hp hr ⊢;cases hkk:h k with
    |none=>rw[hkk]at hp;exact hp.elim
    |some e=>
     rw[hkk]at hp hr;cases e with
     |cells T vs=>exact hp.elim
     |row T s n vs=>exact hp.elim
     |obj d R=>rw[hr k (by simp[gvO]),hkk]
theorem Ef{h' : Hp}:∀ {kds:List Kd} {l:List SV},(oe G W bs h kds l).p->(∀ k∈(oe G W bs h kds l).rs,h' k=h k)->oe G W bs h' kds l=oe G W bs h kds l
 |[],[],_,_=>rfl
 |[],_::_,hp,_=>hp.elim
 |_::_,[],hp,_=>hp.elim
 |kd::ks,x::r,hp,hr=>by
  have hp' : (BK G W bs h kd x).p/\(oe G W bs h ks r).p:=hp;show gvC (BK G W bs h' kd x) (oe G W bs h' ks r)=gvC (BK G W bs h kd x) (oe G W bs h ks r);rw[ae7 hp'.1 λk hk=>hr k (List.mem_append_left _ hk),Ef hp'.2 λk hk=>hr k (List.mem_append_right _ hk)]
theorem adP{kd:Kd}{x:SV}(hp:(BK G W bs h kd x).p):∀ k∈(BK G W bs h kd x).cs,∃ Φ,h k=some (.obj [] (kC G W bs Φ)):=by
 match kd with
 |none=>
  simp only[BK]at hp ⊢;cases hv:cL h x with
  |none=>rw[hv]at hp;exact hp.elim
  |some q=>intro k hk;cases hk
 | some (sh,Φ)=>
  simp only[BK]at hp ⊢;cases hv:dk x with
  |some v=>intro k hk;cases hk
  | none=>
   rw[hv]at hp;cases hk:l5 x with
   |none=>rw[hk]at hp;exact hp.elim
   | some k=>
    rw[hk]at hp;simp only[gvF]at hp ⊢;cases hkk:h k with
    |none=>rw[hkk]at hp;exact hp.elim
    | some e=>
     rw[hkk]at hp;cases e with
     |cells T vs=>exact hp.elim
     |row T s n vs=>exact hp.elim
     |obj d R=>
      obtain⟨hx,rfl,rfl⟩:=hp;intro j hj;simp only[gvO,List.mem_singleton]at hj;subst hj;exact⟨Φ,hkk⟩
theorem um:∀ {kds:List Kd} {l:List SV},(oe G W bs h kds l).p->∀ k∈(oe G W bs h kds l).cs,∃ Φ,h k=some (.obj [] (kC G W bs Φ))
 |[],[],_,k,hk=>by cases hk
 |[],_::_,hp,_,_=>hp.elim
 |_::_,[],hp,_,_=>hp.elim
 |kd::ks,x::r,hp,k,hk=>by
  rcases List.mem_append.1 hk with hk|hk
  ·exact adP hp.1 k hk
  ·exact um hp.2 k hk
end
inductive FOut where
 |val (v:Value)
 |fact (sh:Sh) (Φ:FK)
 |pan (c:List PanicEntry) (v:Value)
def rh(w:World)(S:Nat->Prop)(e:Ending)(w' : World):FOut->Prop
 |.val v=>e=.returned v/\ah w [] w'
 |.fact sh Φ=>∃ cs,e=.returned (sh.val cs)/\Φ.Φ cs w' (λb=>b<w.heap.size->S b)/\ah w [] w'
 |.pan c _=>e=.panicked c/\ah w [] w'
structure rz (P:Program)(f:FuncId) where
 kinds:List Kd
 pre:List AV->World->(Nat->Prop)->Prop
 premono:∀ as_ W S W' S',cT W S W' S' -> pre as_ W S->pre as_ W' S'
 out:List AV->FOut
 enters:∀ args w,(callFunc f args).run P w=.ok (.enter f args) w
 ok:∀ (w:World) (S:Nat->Prop) (us:List Value) (as_:List AV),HA w S kinds us as_->pre as_ w S->Calls P f us.toArray w λe w' => rh w S e w' (out as_)
def sX(G:Nat->Prop)(κ:Nat)(W:World)(bs:List Nat)(q:Prop)(rs cs:List Nat):FOut->R
 |.val v=>⟨q,.v v,[],none,[],rs⟩
 |.fact sh Φ=>⟨q/\Up G W bs,sh.tm (8*κ),eB cs++[(8*κ,some (.obj [] (kC G W bs Φ)))],none,[],rs⟩
 |.pan c v=>⟨q,.v v,[],some c,[],rs⟩
def BE(G:Nat->Prop)(κ:Nat)(W:World)(bs:List Nat)(pre:List AV->World->(Nat->Prop)->Prop)(out:List AV->FOut)(g:GVL):R:=
 sX G κ W bs (g.p/\pre g.as_ W (jl G bs)) g.rs g.cs (out g.as_)
theorem aaa{W w:World}{bs:List Nat}{G:Nat->Prop}{S:Nat->Prop}(hk:ah W bs w)(hS:∀ b,b<W.heap.size->jl G bs b->S b):cT W (jl G bs) w S:=λb hb hr=>⟨hk.block b hb hr.2,hS b hb hr⟩
theorem CH{W w w' : World}{bs fp0 fp:List Nat}{G S Sn:Nat->Prop}{Φ:FK}{cs:List Value}(hk:ah W bs w)(hkeep:ah w fp0 w')
  (hΦ:Φ.Φ cs w' Sn) (hS:∀ b,S b->(b<W.heap.size/\jl G bs b)\/b∈fp) (hS0:∀ b,b<W.heap.size->jl G bs b->b∉fp0)
  (hn:∀ b,b<w'.heap.size->Sn b->(b<w.heap.size/\S b)\/b∈fp) (hG:∀ b∈fp,G b) :
  ∀ w3:World,(∀ b∈fp,w3.heap[b]?=w'.heap[b]?)->kC G W bs Φ [] (eu cs) fp w3:=by
 intro w3 h3;refine⟨hG,cs,rfl,λW₂ S₂ hold hnew=>Φ.mono (λb hb hg=>?_) hΦ⟩;have inFp:b∈fp->W₂.heap[b]?=w'.heap[b]?/\S₂ b:=λhb' => by
  obtain⟨g3,g4⟩:=hnew b hb';exact⟨by rw[g3,h3 b hb'],g4⟩
 rcases hn b hb hg with ⟨hb1,hb2⟩|hb'
 ·rcases hS b hb2 with ⟨g1,g2⟩|hb'
  ·obtain⟨g3,g4⟩:=hold b g1 g2;exact⟨by rw[g3,hkeep.block b hb1 (hS0 b g1 g2),hk.block b g1 g2.2],g4⟩
  ·exact inFp hb'
 ·exact inFp hb'
theorem pR{w w' : World}(hs:w.heap.size<=w'.heap.size)(b:Nat):b∈List.range' w.heap.size (w'.heap.size-w.heap.size) ↔ w.heap.size<=b/\b<w'.heap.size:=by
 rw[List.mem_range'_1];omega
def rz.spec{P:Program}{f:FuncId}(p:rz P f)(G:Nat->Prop):Spec P f where
 ev:=λW bs κ h args=>BE G κ W bs p.pre p.out (oe G W bs h p.kinds args)
 good:=λW bs κ E F h w K args hs hK hk hx hside=>by
  rw[p.enters];have hS:∀ b,b<W.heap.size->jl G bs b->(b<W.heap.size/\jl G bs b)\/∃ k∈(oe G W bs h p.kinds args).cs,b∈F k:=λb h1 h2=>.inl ⟨h1,h2⟩
  have call:(oe G W bs h p.kinds args).p->p.pre (oe G W bs h p.kinds args).as_ W (jl G bs)->Calls P f (au E args).toArray w λe w' => rh w (λb=>(b<W.heap.size/\jl G bs b)\/∃ k∈(oe G W bs h p.kinds args).cs,b∈F k) e w' (p.out (oe G W bs h p.kinds args).as_):=λh1 h2=>
   p.ok w _ _ _ (D0 hs hS h1 λk hk b hb=>.inr ⟨k,hk,hb⟩) (p.premono _ _ _ _ _ (aaa hs.keeps hS) h2)
  revert hside;unfold BE;cases hout:p.out (oe G W bs h p.kinds args).as_ with
  |val v=>
   rintro⟨h1,h2⟩;have hc:=call h1 h2;rw[hout]at hc;exact vl hs hc rfl rfl rfl
  |pan c v=>
   rintro⟨h1,h2⟩;have hc:=call h1 h2;rw[hout]at hc;refine hc.mono λe w' he=>?_
   obtain⟨rfl,hkeep⟩:=he;exact⟨rfl,F,(hs.grow hkeep).drop λk e he=>by simpa [sX,dropKeys] using he⟩
  | fact sh Φ=>
   rintro⟨⟨h1,h2⟩,hup⟩;have hc:=call h1 h2;rw[hout]at hc;refine hc.mono λe w' he=>?_
   obtain⟨cs,rfl,hΦ,hkeep⟩:=he;have hobj:=um h1;have hK8:¬ K (8*κ):=hk _ oM;have hR:=CH (G:=G) (S:=λb=>(b<W.heap.size/\jl G bs b)\/∃ k∈(oe G W bs h p.kinds args).cs,b∈F k) (fp:=List.range' w.heap.size (w'.heap.size-w.heap.size)++(oe G W bs h p.kinds args).cs.flatMap F) hs.keeps hkeep hΦ
    (λb hb=>hb.elim .inl λ⟨k,hk,hbk⟩=>.inr (List.mem_append_right _ (List.mem_flatMap.2 ⟨k,hk,hbk⟩))) (λ_ _ _=>by simp)
    (λb hb hn=>by
     by_cases hbw:b<w.heap.size
     ·exact .inl ⟨hbw,hn hbw⟩
     ·exact .inr (List.mem_append_left _ ((pR hkeep.size b).2 ⟨oM,hb⟩)))
    (λb hb=>by
     rcases List.mem_append.1 hb with hb|hb
     ·exact hup b (.inl (Nat.le_trans hs.keeps.size ((pR hkeep.size b).1 hb).1))
     ·obtain⟨k,hk,hbk⟩:=List.mem_flatMap.1 hb
      obtain⟨Φ',hk'⟩:=hobj k hk
      exact (hs.ent k _ hk').1.1.1 b hbk)
   refine⟨rfl,bu E (8*κ) (eu cs),bu F (8*κ) (List.range' w.heap.size (w'.heap.size-w.heap.size)++(oe G W bs h p.kinds args).cs.flatMap F),λk hk' => aq _ _ λe=>hk' (by subst e;omega),?_,?_⟩
   ·simp only[sX];rw[sh.g,ak];rfl
   ·simp only[sX];have hne:∀ j x,h j=some x->j≠8*κ:=λj x hj e=>hK8 (e ▸ (hK j x hj).1)
    refine hs.oH hK (oe G W bs h p.kinds args).cs (bu (λ_=>none) (8*κ) (some (.obj [] (kC G W bs Φ)))) (λj hj=>?_) (λj hj=>aq _ _ λe=>hK8 (e ▸ hj)) (λj e he=>?_) (λi j e e' hij hi hj b hb=>?_) (λj x hx hj=>aq _ _ (hne j x hx)) (λj=>?_) (hkeep.mono λb hb=>by cases hb)
    ·obtain⟨Φ',hj'⟩:=hobj j hj;exact⟨_,hj'⟩
    ·by_cases hj:j=8*κ
     ·subst hj;simp only[ak,Option.some.injEq]at he;subst he;rw[ak,ak];refine⟨⟨⟨hR w' λ_ _=>rfl,rfl⟩,hR⟩,λb hb=>?_,λb hb=>?_⟩
      ·rcases List.mem_append.1 hb with hb|hb
       ·exact .inr ((pR hkeep.size b).1 hb).1
       ·obtain⟨k,hk,hbk⟩:=List.mem_flatMap.1 hb;exact .inl ⟨k,hk,hbk⟩
      ·rcases List.mem_append.1 hb with hb|hb
       ·exact ((pR hkeep.size b).1 hb).2
       ·obtain⟨k,hk,hbk⟩:=List.mem_flatMap.1 hb;obtain⟨Φ',hk'⟩:=hobj k hk;exact Nat.lt_of_lt_of_le (hs.lt k _ hk' b hbk) hkeep.size
     ·rw[aq _ _ hj]at he;cases he
    ·by_cases hi' : i=8*κ
     ·by_cases hj' : j=8*κ
      ·exact absurd (hi'.trans hj'.symm) hij
      ·rw[aq _ _ hj']at hj;cases hj
     ·rw[aq _ _ hi']at hi;cases hi
    ·rw[cy];simp only[ba];by_cases hj:j=8*κ
     ·subst hj;simp[ak]
     ·rw[aq _ _ hj,aq _ _ hj,lp]
 keys:=λW bs κ h K args hK hx hside=>by
  revert hside;unfold BE;cases hout:p.out (oe G W bs h p.kinds args).as_ with
  |val v=>exact λ_=>aL.plain (λk hk=>by cases hk) rfl
  |pan c v=>exact λ_=>aL.plain (λk hk=>by cases hk) rfl
  | fact sh Φ=>
   rintro⟨⟨h1,h2⟩,hup⟩;refine⟨λk hk=>.inr (by rw[sh.k _ k hk];omega),λq hq=>?_⟩;simp only[sX,List.mem_append,List.mem_singleton,eB,List.mem_map]at hq;rcases hq with ⟨j,hj,rfl⟩|rfl
   ·obtain⟨Φ',hj'⟩:=um h1 j hj;exact⟨.inl (hK j _ hj').1,λe he=>by cases he⟩
   ·refine⟨.inr (by simp only;omega),λe he k hk=>?_⟩;simp only[Option.some.injEq]at he;subst he;cases hk
 loc:=λW bs κ h h' args hside hr=>by
  have hp:(oe G W bs h p.kinds args).p:=by
   revert hside;unfold BE;cases p.out (oe G W bs h p.kinds args).as_ with
   |val v=>exact λh=>h.1
   |pan c v=>exact λh=>h.1
   |fact sh Φ=>exact λh=>h.1.1
  have hr' : ∀ k∈(oe G W bs h p.kinds args).rs,h' k=h k:=by
   revert hr;unfold BE;cases p.out (oe G W bs h p.kinds args).as_<;>exact λh=>h
  rw[Ef hp hr']
theorem ig{P:Program}{f:FuncId}(p:rz P f)(G:Nat->Prop)(W:World)(bs:List Nat)(κ:Nat)(h:Hp)(l:List SV):(p.spec G).ev W bs κ h l=BE G κ W bs p.pre p.out (oe G W bs h p.kinds l):=rfl
end
section
open Go.RowKit
inductive GOut where
 |ret (v:Value) (fs:List AV)
 |fact (sh:Sh) (Φ:FK) (fs:List AV)
 |pan (c:List PanicEntry) (v:Value)
def CJ(w:World)(S:Nat->Prop)(u:Value)(fp:List Nat)(T:TypeId)(e:Ending)(w' : World):GOut->Prop
 |.ret v fs=>e=.returned v/\(∃ fp',bC w' u fp' T fs/\(∀ b∈fp',b∈fp\/w.heap.size<=b)/\∀ b∈fp',b<w'.heap.size)/\ah w fp w'
 |.fact sh Φ fs=>∃ cs,e=.returned (sh.val cs)/\(∃ fp',bC w' u fp' T fs/\(∀ b∈fp',b∈fp\/w.heap.size<=b)/\(∀ b∈fp',b<w'.heap.size)/\Φ.Φ cs w' (λb=>(b<w.heap.size->S b\/b∈fp)/\b∉fp'))/\ah w fp w'
 |.pan c _=>e=.panicked c/\ah w fp w'
structure CI (P:Program)(f:FuncId) where
 T:TypeId
 kinds:List Kd
 pre:List AV->List AV->World->(Nat->Prop)->Prop
 premono:∀ fs as_ W S W' S',cT W S W' S' -> pre fs as_ W S->pre fs as_ W' S'
 out:List AV->List AV->GOut
 enters:∀ args w,(callFunc f args).run P w=.ok (.enter f args) w
 ok:∀ (w:World) (S:Nat->Prop) (u:Value) (fp:List Nat) (us:List Value) (fs as_:List AV),bC w u fp T fs->(∀ b∈fp,b<w.heap.size)->(∀ b∈fp,¬ S b)->HA w S kinds us as_->pre fs as_ w S ->
  Calls P f (u::us).toArray w λe w' => CJ w S u fp T e w' (out fs as_)
def qa(G:Nat->Prop)(κ k:Nat)(T:TypeId)(W:World)(bs:List Nat)(q:Prop)(rs rs' cs:List Nat):GOut->R
 |.ret v fs=>⟨q/\(k::rs).Nodup/\(∀ j∈rs',j∉k::rs)/\fs.length<=7,.v v,eB rs++(cR (aZ (8*κ) fs)++[(k,some (.cells T (aN (8*κ) fs)))]),none,[],k::(rs++rs')⟩
 | .fact sh Φ fs=>⟨q/\(k::rs).Nodup/\(∀ j∈rs',j∉k::rs)/\fs.length<=7/\Up G W bs,sh.tm (8*κ+7),
   eB (rs++cs)++(cR (aZ (8*κ) fs)++[(k,some (.cells T (aN (8*κ) fs))),(8*κ+7,some (.obj [] (kC G W bs Φ)))]),none,[],k::(rs++rs')⟩
 |.pan c v=>⟨q/\(k::rs).Nodup/\(∀ j∈rs',j∉k::rs),.v v,[],some c,k::rs,k::(rs++rs')⟩
def A4(G:Nat->Prop)(κ k:Nat)(T T' : TypeId)(W:World)(bs:List Nat)(pre:List AV->List AV->World->(Nat->Prop)->Prop)(out:List AV->List AV->GOut)(g:GVL):Option (List AV×List Nat)->R
 |some (fs,rs)=>qa G κ k T W bs (T' = T/\g.p/\pre fs g.as_ W (jl G bs)) rs g.rs g.cs (out fs g.as_)
 |none=>.bad
def yA(G:Nat->Prop)(h:Hp)(κ k:Nat)(T:TypeId)(W:World)(bs:List Nat)(pre:List AV->List AV->World->(Nat->Prop)->Prop)(out:List AV->List AV->GOut)(g:GVL):Option aS->R
 |some (.cells T' vs)=>A4 G κ k T T' W bs pre out g (aC h vs)
 |_=>.bad
def Dp(G:Nat->Prop)(h:Hp)(κ:Nat)(T:TypeId)(W:World)(bs:List Nat)(kinds:List Kd)(pre:List AV->List AV->World->(Nat->Prop)->Prop)(out:List AV->List AV->GOut):List SV->R
 |.own k 0::rest=>yA G h κ k T W bs pre out (oe G W bs h kinds rest) (h k)
 |_=>.bad
section
variable {P:Program}{W:World}{bs:List Nat}{κ:Nat}{E:Nat->Value}{F:Nat->List Nat}{h:Nat->Option aS}{w:World}{K:Nat->Prop}{G:Nat->Prop}
theorem SB{w' : World}{k:Nat}{T:TypeId}{vs:List SV}{fs fs' : List AV}{rs fp' ks' fpn:List Nat}{cs:List Value}{R:List Value->Value->List Nat->World->Prop}(hs:ai W bs E F h w)(hK:bW K h)(hk:∀ k,k / 8=κ->¬ K k)
  (hkk:h k=some (.cells T vs)) (hv:aC h vs=some (fs,rs)) (hlen:fs'.length<=7) (hn:(k::rs).Nodup) (hks:∀ j∈ks',∃ d R,h j=some (.obj d R))
  (ho:bC w' (E k) fp' T fs') (h1:∀ b∈fp',b∈(k::rs).flatMap F\/w.heap.size<=b) (h2:∀ b∈fp',b<w'.heap.size)
  (hfn:∀ b∈fpn,b∉fp' /\ b<w'.heap.size/\((∃ j∈k::(rs++ks'),b∈F j)\/w.heap.size<=b)) (hR:∀ w3:World,(∀ b∈fpn,w3.heap[b]?=w'.heap[b]?)->R [] (eu cs) fpn w3)
  (hkeep:ah w ((k::rs).flatMap F) w') :
  ∃ E' F',(∀ j,j / 8≠κ->E' j=E j)/\E' (8*κ+7)=eu cs/\ai W bs E' F' (ba h (eB (rs++ks')++(cR (aZ (8*κ) fs')++[(k,some (.cells T (aN (8*κ) fs'))),(8*κ+7,some (.obj [] R))]))) w' := by
 obtain⟨b,us,hu,hb,hus,rfl,hnd⟩:=ho;have hl:=iq hus;have hKk:K k:=(hK k _ hkk).1;have hfr:∀ j,8*κ<=j->j<8*κ+8->¬ K j:=λj g1 g2=>hk j oM
 have hk7:k≠8*κ+7:=λe=>hfr k oM oM hKk
 have hkf:k<8*κ\/8*κ+8<=k:=by
  by_cases g1:k<8*κ
  ·exact .inl g1
  ·by_cases g2:8*κ+8<=k
   ·exact .inr g2
   ·exact absurd hKk (hfr k oM oM)
 have hE:∀ j,j / 8≠κ->bu (iJ (8*κ) us E) (8*κ+7) (eu cs) j=E j:=λj hj=>by
  rw[aq _ _ oM];exact jR oM
 have hsome:∀ p∈cR (aZ (8*κ) fs')++[(k,some (.cells T (aN (8*κ) fs'))),(8*κ+7,some (.obj [] R))],∃ e,p.2=some e:=λp hp=>by
  rcases List.mem_append.1 hp with hp|hp
  ·obtain⟨e,he,_⟩:=fG.1 hp;exact⟨e,by rw[he]⟩
  ·simp at hp;rcases hp with rfl|rfl
   ·exact⟨_,rfl⟩
   ·exact⟨_,rfl⟩
 have hrow7:∀ j e,(j,e)∈aZ (8*κ) fs' -> j≠8*κ+7:=λj e hm=>by
  have:=et _ hm;simp only at this;omega
 have hNm:∀ j e,ba (λ_=>none) (cR (aZ (8*κ) fs')++[(k,some (.cells T (aN (8*κ) fs'))),(8*κ+7,some (.obj [] R))]) j=some e ->
   (j=k/\e=.cells T (aN (8*κ) fs'))\/(j=8*κ+7/\e=.obj [] R)\/(j≠k/\j≠8*κ+7/\(j,e)∈aZ (8*κ) fs'):=λj e he=>by
  rw[cy]at he;simp only[ba]at he;by_cases hj7:j=8*κ+7
  ·subst hj7;rw[ak]at he;cases he;exact .inr (.inl ⟨rfl,rfl⟩)
  ·rw[aq _ _ hj7]at he;by_cases hj:j=k
   ·subst hj;rw[ak]at he;cases he;exact .inl ⟨rfl,rfl⟩
   ·rw[aq _ _ hj]at he;rcases j8 (λ_=>(none:Option aS)) (k:=j) (u:=cR (aZ (8*κ) fs')) with ⟨x,hx,hx'⟩|⟨_,hx'⟩
    ·rw[hx']at he;subst he;obtain⟨e',h3,h4⟩:=fG.1 hx;simp only[Prod.mk.injEq,true_and,Option.some.injEq]at h3;subst h3;exact .inr (.inr ⟨hj,hj7,h4⟩)
    ·rw[hx']at he;cases he
 have hNk:ba (λ_=>none) (cR (aZ (8*κ) fs')++[(k,some (.cells T (aN (8*κ) fs'))),(8*κ+7,some (.obj [] R))]) k=some (.cells T (aN (8*κ) fs')):=by
  rw[cy];simp only[ba];rw[aq _ _ hk7,ak]
 have hN7:ba (λ_=>none) (cR (aZ (8*κ) fs')++[(k,some (.cells T (aN (8*κ) fs'))),(8*κ+7,some (.obj [] R))]) (8*κ+7)=some (.obj [] R):=by
  rw[cy];simp[ba,ak]
 have hb' : b∉wy us fs' := (List.nodup_cons.1 hnd).1;have hnd' : (wy us fs').Nodup:=(List.nodup_cons.1 hnd).2;have own:∀ j∈k::(rs++ks'),∃ e,h j=some e:=λj hj=>by
  rcases List.mem_cons.1 hj with rfl|hj
  ·exact⟨_,hkk⟩
  ·rcases List.mem_append.1 hj with hj|hj
   ·exact (b7 hs hv).2 j hj
   ·obtain⟨d,R',h'⟩:=hks j hj;exact⟨_,h'⟩
 refine⟨bu (iJ (8*κ) us E) (8*κ+7) (eu cs),bu (bu (iF (8*κ) us fs' F) k [b]) (8*κ+7) fpn,hE,by rw[ak],?_⟩
 refine hs.oH hK (k::(rs++ks')) (ba (λ_=>none) (cR (aZ (8*κ) fs')++[(k,some (.cells T (aN (8*κ) fs'))),(8*κ+7,some (.obj [] R))])) own (λj hj=>hE j λe=>hk j e hj) (λj e he=>?_) (λi j e e' hij hi hj c hc=>?_) (λj x hx hj=>?_) (λj=>?_) ?_
 ·rcases hNm j e he with ⟨rfl,rfl⟩|⟨rfl,rfl⟩|⟨hjk,hj7,hm⟩
  ·rw[aq _ _ hk7,aq _ _ hk7,ak,jR oM];refine⟨⟨b,hu,rfl,?_⟩,λc hc=>?_,λc hc=>h2 c (by simp at hc;simp[hc])⟩
   ·rw[bV (E' := iJ (8*κ) us E) _ λi hi=>aq _ _ (by have:=cP i hi;omega),gf hus];exact hb
   ·simp only[List.mem_singleton]at hc;subst hc;rcases h1 c sI with g|g
    ·obtain⟨i,hi,hci⟩:=List.mem_flatMap.1 g
     exact .inl ⟨i, by rcases List.mem_cons.1 hi with hi|hi
                       ·exact List.mem_cons.2 (.inl hi)
                       ·exact List.mem_cons.2 (.inr (List.mem_append_left _ hi)),hci⟩
    ·exact .inr g
  ·rw[ak,ak];refine⟨⟨⟨hR w' λ_ _=>rfl,rfl⟩,hR⟩,λc hc=>(hfn c hc).2.2,λc hc=>(hfn c hc).2.1⟩
  ·rw[aq _ _ hj7,aq _ _ hj7,aq _ _ hjk];obtain⟨g1,g2⟩:=iB (E:=E) (F:=F) hus hm (iJ (8*κ) us E);refine⟨iS (λi hi=>?_) g1,λc hc=>?_,λc hc=>h2 c (List.mem_cons_of_mem _ (g2 c hc))⟩
   ·rw[(et _ hm).2.2]at hi;cases hi
   ·rcases h1 c (List.mem_cons_of_mem _ (g2 c hc)) with g|g
    ·obtain⟨i,hi,hci⟩:=List.mem_flatMap.1 g
     exact .inl ⟨i, by rcases List.mem_cons.1 hi with hi|hi
                       ·exact List.mem_cons.2 (.inl hi)
                       ·exact List.mem_cons.2 (.inr (List.mem_append_left _ hi)),hci⟩
    ·exact .inr g
 ·have hrowfp:∀ i e,i≠k->i≠8*κ+7->(i,e)∈aZ (8*κ) fs' -> ∀ c∈bu (bu (iF (8*κ) us fs' F) k [b]) (8*κ+7) fpn i,c∈wy us fs' := λi e g1 g2 hm c hc=>by
   rw[aq _ _ g2,aq _ _ g1]at hc;exact bN hl hm c hc
  rcases hNm i e hi with ⟨rfl,rfl⟩|⟨rfl,rfl⟩|⟨hik,hi7,hmi⟩
  ·rw[aq _ _ hk7,ak]at hc;simp only[List.mem_singleton]at hc;subst hc;rcases hNm j e' hj with ⟨rfl,rfl⟩|⟨rfl,rfl⟩|⟨hjk,hj7,hmj⟩
   ·exact absurd rfl hij
   ·rw[ak];exact λhc' => (hfn c hc').1 sI
   ·exact λhc' => hb' (hrowfp j e' hjk hj7 hmj c hc')
  ·rw[ak]at hc;have hc1:=(hfn c hc).1;rcases hNm j e' hj with ⟨rfl,rfl⟩|⟨rfl,rfl⟩|⟨hjk,hj7,hmj⟩
   ·rw[aq _ _ hk7,ak];exact λhc' => hc1 (by simp at hc';simp[hc'])
   ·exact absurd rfl hij
   ·exact λhc' => hc1 (List.mem_cons_of_mem _ (hrowfp j e' hjk hj7 hmj c hc'))
  ·rcases hNm j e' hj with ⟨rfl,rfl⟩|⟨rfl,rfl⟩|⟨hjk,hj7,hmj⟩
   ·have:=hrowfp i e hik hi7 hmi c hc;rw[aq _ _ hk7,ak];intro hc';simp only[List.mem_singleton]at hc';subst hc';exact hb' this
   ·have:=hrowfp i e hik hi7 hmi c hc;rw[ak];exact λhc' => (hfn c hc').1 (List.mem_cons_of_mem _ this)
   ·rw[aq _ _ hi7,aq _ _ hik]at hc;rw[aq _ _ hj7,aq _ _ hjk];exact gi hnd' hmi hmj hl hij c hc
 ·have hjk:j≠k:=λe=>by rw[e,hNk]at hj;cases hj
  have hj7:j≠8*κ+7:=λe=>by rw[e,hN7]at hj;cases hj
  rw[aq _ _ hj7,aq _ _ hjk];have hKj:=(hK j x hx).1;by_cases g1:j<8*κ
  ·exact jy (.inl g1)
  ·by_cases g2:8*κ+8<=j
   ·exact jy (.inr oM)
   ·exact absurd hKj (hfr j oM oM)
 ·rw[cy,jH _ _ _ hsome,lp];cases hN:ba (λ_=>none) (cR (aZ (8*κ) fs')++[(k,some (.cells T (aN (8*κ) fs'))),(8*κ+7,some (.obj [] R))]) j with
  |some e=>rfl
  |none=>
   have hjk:j≠k:=λe=>by rw[e,hNk]at hN;cases hN
   simp[hjk]
 ·refine hkeep.mono λc hc=>?_
  obtain⟨i,hi,hci⟩:=List.mem_flatMap.1 hc;refine List.mem_flatMap.2 ⟨i,?_,hci⟩;rcases List.mem_cons.1 hi with hi|hi
  ·exact List.mem_cons.2 (.inl hi)
  ·exact List.mem_cons.2 (.inr (List.mem_append_left _ hi))
end
def CI.spec{P:Program}{f:FuncId}(p:CI P f)(G:Nat->Prop):Spec P f where
 ev:=λW bs κ h args=>Dp G h κ p.T W bs p.kinds p.pre p.out args
 good:=λW bs κ E F h w K args hs hK hk hx hside=>by
  rw[p.enters];revert hside;unfold Dp;split
  ·rename_i k rest;generalize hg:oe G W bs h p.kinds rest=g;cases hkk:h k with
   |none=>exact λhf=>hf.elim
   | some e=>
    cases e with
    |row T s n vs=>exact λhf=>hf.elim
    |obj d R=>exact λhf=>hf.elim
    | cells T' vs=>
     simp only[yA];cases hv:aC h vs with
     |none=>exact λhf=>hf.elim
     | some q=>
      obtain⟨fs,rs⟩:=q;simp only[A4];have hent:=hs.ent k _ hkk;obtain⟨b,hu,_,_⟩:=hent;have hden:den E (.own k 0)=E k:=by simp[den,hu,base,dq]
      have hobj:g.p->∀ j∈g.cs,∃ Φ,h j=some (.obj [] (kC G W bs Φ)):=λhp=>by rw[<- hg]at hp ⊢;exact um hp
      have hown:∀ j∈k::rs,∃ e,h j=some e/\∀ d R,e≠.obj d R:=λj hj=>by
       rcases List.mem_cons.1 hj with rfl|hj
       ·exact⟨_,hkk,λ_ _ e=>by cases e⟩
       ·obtain⟨T,s,n,us,h1⟩:=lF hv j hj;exact⟨_,h1,λ_ _ e=>by cases e⟩
      have dU:∀ c∈(k::rs).flatMap F,(∃ j∈k::rs,c∈F j)/\c<w.heap.size/\(W.heap.size<=c\/c∈bs):=λc hc=>by
       obtain⟨j,hj,hcj⟩:=List.mem_flatMap.1 hc;obtain⟨e,he,_⟩:=hown j hj;exact⟨⟨j,hj,hcj⟩,hs.lt j e he c hcj,hs.mine j e he c hcj⟩
      have hS0:∀ b,b<W.heap.size->jl G bs b->b∉(k::rs).flatMap F:=λb h1 h2 hb=>(dU b hb).2.2.elim (λg=>absurd g (Nat.not_le.2 h1)) h2.2
      have hS:∀ b,b<W.heap.size->jl G bs b->(b<W.heap.size/\jl G bs b)\/∃ j∈g.cs,b∈F j:=λb h1 h2=>.inl ⟨h1,h2⟩
      have hSf:g.p->∀ b∈(k::rs).flatMap F,¬ ((b<W.heap.size/\jl G bs b)\/∃ j∈g.cs,b∈F j):=λhp b hb hS=>by
       rcases hS with ⟨h1,h2⟩|⟨j,hj,hbj⟩
       ·exact hS0 b h1 h2 hb
       ·obtain⟨Φ,hj'⟩:=hobj hp j hj;obtain⟨i,hi,hbi⟩:=(dU b hb).1;obtain⟨e,he,hne⟩:=hown i hi;refine hs.apart i j e _ (λhij=>?_) he hj' b hbi hbj;rw[hij,hj']at he;exact hne _ _ (Option.some.inj he).symm
      have call:∀ hn:(k::rs).Nodup,T' = p.T->g.p->p.pre fs g.as_ W (jl G bs)->Calls P f (au E (.own k 0::rest)).toArray w λe w' => CJ w (λb=>(b<W.heap.size/\jl G bs b)\/∃ j∈g.cs,b∈F j) (E k) ((k::rs).flatMap F) p.T e w' (p.out fs g.as_):=λhn hT hp hpre=>by
       subst hT;have ho:=fZ hs hkk hv hn;have hgs:=D0 hs hS (kds:=p.kinds) (l:=rest) (by rw[hg];exact hp) (by rw[hg];exact λj hj b hb=>.inr ⟨j,hj,hb⟩);rw[hg]at hgs;have:=p.ok w _ (E k) _ (au E rest) fs g.as_ ho (λc hc=>(dU c hc).2.1) (hSf hp) hgs (p.premono _ _ _ _ _ _ (aaa hs.keeps hS) hpre)
       simpa only[au,hden] using this
      cases hout:p.out fs g.as_ with
      |ret v fs' =>
       simp only[qa];rintro⟨⟨hT,hp,hpre⟩,hn,hd,hlen⟩;have hc:=call hn hT hp hpre;rw[hout]at hc;subst hT;refine hc.mono λe w' he=>?_
       obtain⟨rfl,⟨fp',ho,h1,h2⟩,hkeep⟩:=he;obtain⟨E',F',hE',hs'⟩:=pH hs hK hk hkk hv oM hn ho h1 h2 hkeep;exact⟨rfl,E',F',hE',rfl,hs'⟩
      | fact sh Φ fs' =>
       simp only[qa];rintro⟨⟨hT,hp,hpre⟩,hn,hd,hlen,hup⟩;have hc:=call hn hT hp hpre;rw[hout]at hc;subst hT;refine hc.mono λe w' he=>?_
       obtain⟨cs,rfl,⟨fp',ho,h1,h2,hΦ⟩,hkeep⟩:=he;have hfn:∀ b,b∈(List.range' w.heap.size (w'.heap.size-w.heap.size)++(k::(rs++g.cs)).flatMap F).filter (·∉fp') ↔ ((w.heap.size<=b/\b<w'.heap.size)\/∃ j∈k::(rs++g.cs),b∈F j)/\b∉fp' := λb=>by
        simp only[List.mem_filter,List.mem_append,pR hkeep.size b,List.mem_flatMap,decide_eq_true_eq]
       have hown' : ∀ j∈k::(rs++g.cs),∃ e,h j=some e:=λj hj=>by
        rcases List.mem_cons.1 hj with rfl|hj
        ·exact⟨_,hkk⟩
        ·rcases List.mem_append.1 hj with hj|hj
         ·obtain⟨e,he,_⟩:=hown j (List.mem_cons_of_mem _ hj);exact⟨e,he⟩
         ·obtain⟨Φ',h'⟩:=hobj hp j hj;exact⟨_,h'⟩
       have hsub:∀ j∈k::rs,j∈k::(rs++g.cs):=λj hj=>by
        rcases List.mem_cons.1 hj with hj|hj
        ·exact List.mem_cons.2 (.inl hj)
        ·exact List.mem_cons.2 (.inr (List.mem_append_left _ hj))
       have hR:=CH (G:=G) (fp:=(List.range' w.heap.size (w'.heap.size-w.heap.size)++(k::(rs++g.cs)).flatMap F).filter (·∉fp')) (S:=λb=>((b<W.heap.size/\jl G bs b)\/∃ j∈g.cs,b∈F j)/\b∉fp') hs.keeps hkeep hΦ
        (λb hb=>hb.1.elim .inl λ⟨j,hj,hbj⟩=>.inr ((hfn b).2 ⟨.inr ⟨j,List.mem_cons.2 (.inr (List.mem_append_right _ hj)),hbj⟩,hb.2⟩)) hS0
        (λb hb hn=>by
         by_cases hbw:b<w.heap.size
         ·rcases hn.1 hbw with h3|h3
          ·exact .inl ⟨hbw,h3,hn.2⟩
          ·obtain⟨j,hj,hbj⟩:=(dU b h3).1
           exact .inr ((hfn b).2 ⟨.inr ⟨j,hsub j hj,hbj⟩,hn.2⟩)
         ·exact .inr ((hfn b).2 ⟨.inl ⟨oM,hb⟩,hn.2⟩))
        (λb hb=>by
         rcases ((hfn b).1 hb).1 with h3|⟨j,hj,hbj⟩
         ·exact hup b (.inl (Nat.le_trans hs.keeps.size h3.1))
         ·obtain⟨e,he⟩:=hown' j hj
          exact hup b (hs.mine j e he b hbj))
       obtain⟨E',F',hE',hE7,hs'⟩:=SB (ks' := g.cs) (R:=kC G W bs Φ) (cs:=cs) hs hK hk hkk hv hlen hn (λj hj=>by obtain⟨Φ',h'⟩:=hobj hp j hj;exact⟨_,_,h'⟩) ho h1 h2
        (λb hb=>by
         obtain⟨h3,h4⟩:=(hfn b).1 hb
         refine⟨h4,?_,h3.elim (λh=>.inr h.1) .inl⟩
         rcases h3 with h3|⟨j,hj,hbj⟩
         ·exact h3.2
         ·obtain⟨e,he⟩:=hown' j hj
          exact Nat.lt_of_lt_of_le (hs.lt j e he b hbj) hkeep.size) hR hkeep
       refine⟨rfl,E',F',hE',?_,hs'⟩;rw[sh.g,hE7];rfl
      |pan c _=>
       simp only[qa];rintro⟨⟨hT,hp,hpre⟩,hn,hd⟩;have hc:=call hn hT hp hpre;rw[hout]at hc;refine hc.mono λe w' he=>?_
       obtain⟨rfl,hkeep⟩:=he;refine⟨rfl,F,?_⟩;refine hs.oH hK (k::rs) (λ_=>none) (λj hj=>?_) (λ_ _=>rfl) (λj e he=>by cases he) (λi j e e' _ he=>by cases he) (λ_ _ _ _=>rfl) (λj=>?_) hkeep
       ·obtain⟨e,he,_⟩:=hown j hj;exact⟨e,he⟩
       ·simp only[dropKeys]
  ·exact λhf=>hf.elim
 keys:=λW bs κ h K args hK hx hside=>by
  revert hside;unfold Dp;split
  ·rename_i k rest;generalize hg:oe G W bs h p.kinds rest=g;cases hkk:h k with
   |none=>exact λhf=>hf.elim
   | some e=>
    cases e with
    |row T s n vs=>exact λhf=>hf.elim
    |obj d R=>exact λhf=>hf.elim
    | cells T' vs=>
     simp only[yA];cases hv:aC h vs with
     |none=>exact λhf=>hf.elim
     | some q=>
      obtain⟨fs,rs⟩:=q;simp only[A4];have hobj:g.p->∀ j∈g.cs,∃ Φ,h j=some (.obj [] (kC G W bs Φ)):=λhp=>by rw[<- hg]at hp ⊢;exact um hp
      have row:∀ fs' : List AV,fs'.length<=7->∀ q∈cR (aZ (8*κ) fs'),(K q.1\/q.1 / 8=κ)/\∀ e,q.2=some e->∀ j∈e.keys,K j\/j / 8=κ:=λfs' hlen q hq=>by
       obtain⟨e,h1,h2⟩:=fG.1 hq;obtain⟨h3,h4⟩:=yq oM h2;refine⟨.inr h3,λe' he' j hj=>?_⟩;rw[h1]at he';simp only[Option.some.injEq]at he';subst he';rw[h4]at hj;cases hj
      have cel:∀ fs' : List AV,fs'.length<=7->(K k\/k / 8=κ)/\∀ e,some (aS.cells p.T (aN (8*κ) fs'))=some e->∀ j∈e.keys,K j\/j / 8=κ:=λfs' hlen=>by
       refine⟨.inl (hK k _ hkk).1,λe' he' j hj=>.inr ?_⟩;simp only[Option.some.injEq]at he';subst he';have:=cP j hj;omega
      cases hout:p.out fs g.as_ with
      | ret v fs' =>
       simp only[qa];rintro⟨_,hn,hd,hlen⟩;refine⟨λj hj=>(by cases hj),λq hq=>?_⟩;simp only[List.mem_append,List.mem_singleton]at hq;rcases hq with hq|hq|rfl
       ·simp only[eB,List.mem_map]at hq;obtain⟨j,hj,rfl⟩:=hq;exact⟨.inl (s5 hK hv j hj),λe he=>by cases he⟩
       ·exact row fs' hlen q hq
       ·exact cel fs' hlen
      | fact sh Φ fs' =>
       simp only[qa];rintro⟨⟨_,hp,_⟩,hn,hd,hlen,hup⟩;refine⟨λj hj=>.inr (by rw[sh.k _ j hj];omega),λq hq=>?_⟩;simp only[List.mem_append,List.mem_cons,List.not_mem_nil,or_false]at hq;rcases hq with hq|hq|rfl|rfl
       ·simp only[eB,List.mem_map,List.mem_append]at hq;obtain⟨j,hj,rfl⟩:=hq;rcases hj with hj|hj
        ·exact⟨.inl (s5 hK hv j hj),λe he=>by cases he⟩
        ·obtain⟨Φ',h'⟩:=hobj hp j hj;exact⟨.inl (hK j _ h').1,λe he=>by cases he⟩
       ·exact row fs' hlen q hq
       ·exact cel fs' hlen
       ·refine⟨.inr (by simp only;omega),λe he k hk=>?_⟩;simp only[Option.some.injEq]at he;subst he;cases hk
      |pan c _=>
       simp only[qa];rintro _;exact⟨λj hj=>(by cases hj),λq hq=>by cases hq⟩
  ·exact λhf=>hf.elim
 loc:=λW bs κ h h' args hside hr=>by
  revert hside hr;unfold Dp;split
  ·rename_i k rest;generalize hg:oe G W bs h p.kinds rest=g;cases hkk:h k with
   |none=>exact λhf=>hf.elim
   | some e=>
    cases e with
    |row T s n vs=>exact λhf=>hf.elim
    |obj d R=>exact λhf=>hf.elim
    | cells T' vs=>
     simp only[yA];cases hv:aC h vs with
     |none=>exact λhf=>hf.elim
     | some q=>
      obtain⟨fs,rs⟩:=q;simp only[A4];intro hside hr;have hp:g.p:=by
       revert hside;cases p.out fs g.as_<;>exact λh=>h.1.2.1
      have hr' : ∀ j∈k::(rs++g.rs),h' j=h j:=by
       revert hr;cases p.out fs g.as_<;>exact λh=>h
      have e1:h' k=some (.cells T' vs):=by rw[hr' k sI,hkk]
      have e2:oe G W bs h' p.kinds rest=g:=by
       rw[<- hg];exact Ef (by rw[hg];exact hp) (by rw[hg];exact λj hj=>hr' j (by simp[hj]))
      have e3:aC h' vs=some (fs,rs):=dw hv λj hj=>hr' j (by simp[hj])
      rw[e1,e2];simp only[yA,e3,A4]
  ·exact λhf=>hf.elim
theorem lN{P:Program}{f:FuncId}(p:CI P f)(G:Nat->Prop)(W:World)(bs:List Nat)(κ:Nat)(h:Hp)(l:List SV):(p.spec G).ev W bs κ h l=Dp G h κ p.T W bs p.kinds p.pre p.out l:=rfl
def eJ(w:World)(S:Nat->Prop):Nat->Prop:=λb=>b<w.heap.size->S b
def aQ(w:World)(S:Nat->Prop)(fp:List Nat):Nat->Prop:=λb=>b<w.heap.size->S b\/b∈fp
theorem eJ.up(w:World)(S:Nat->Prop):Up (eJ w S) w []:=λb hb hlt=>by
 rcases hb with hb|hb
 ·omega
 ·cases hb
theorem aQ.up(w:World)(S:Nat->Prop)(fp:List Nat):Up (aQ w S fp) w fp:=λb hb hlt=>by
 rcases hb with hb|hb
 ·omega
 ·exact .inr hb
theorem eJ.lZ(w:World)(S:Nat->Prop):cT w S w (jl (eJ w S) []):=λb hb hS=>⟨rfl,λ_=>hS,sI⟩
theorem aQ.lZ(w:World)(S:Nat->Prop)(fp:List Nat)(h:∀ b∈fp,¬ S b):cT w S w (jl (aQ w S fp) fp):=λb hb hS=>⟨rfl,λ_=>.inl hS,λhf=>h b hf hS⟩
def Zu(w:World)(S:Nat->Prop)(W' : World)(bs' : List Nat)(x:SV):FOut->Prop
 |.val v=>∀ E,den E x=v
 |.fact sh Φ=>∃ cs,(∀ E,den E x=sh.val cs)/\Φ.Φ cs W' (jl (eJ w S) bs')
 |.pan _ _=>False
theorem jx{P:Program}{f:FuncId}{fn:Func}{c:Code}{args:Array Value}{w:World}{nt:Nat}{out:FOut}(S:Nat->Prop)(rs:List ResultVar)
  (hf:P.funcs[f]?=some fn) (hb:fn.body=some c) (hrs:fn.results.toList=rs) (hnt:args.size+(fn.ntmps-args.size)=nt)
  (h:Wp P w [] nt ⟨[],[]⟩ c (Fin P rs (λW' bs' x _=>Zu w S W' bs' x out) (λc _=>∃ v,out=.pan c v)) (σ0 args.toList)) :
  Calls P f args w λe w' => rh w S e w' out:=by
 subst hrs;refine (jX hf hb (qG args hnt) h).mono λe w' he=>?_
 cases e with
 | returned u=>
  obtain⟨W',bs',E,F,x,h,hx,hok,rfl,hs,_⟩:=he;cases out with
  |val v=>exact⟨by rw[hok E],hx.eg hs.keeps⟩
  |fact sh Φ=>
   obtain⟨cs,hd,hΦ⟩:=hok;exact⟨cs,by rw[hd E],Φ.mono (λb hb hr=>⟨hs.keeps.block b hb hr.2,hr.1⟩) hΦ,hx.eg hs.keeps⟩
  |pan c v=>exact hok.elim
 |panicked c=>
  obtain⟨W',bs',E,F,h',hx,⟨v,rfl⟩,hs,_⟩:=he;exact⟨rfl,hx.eg hs.keeps⟩
 |outgrown=>exact he.elim
def XW(w:World)(S:Nat->Prop)(fp:List Nat)(T:TypeId)(W' : World)(bs' : List Nat)(x:SV)(h:Hp):GOut->Prop
 |.ret v fs' => (∀ E,den E x=v)/\∃ vs ks,h 0=some (.cells T vs)/\aC h vs=some (fs',ks)/\(0::ks).Nodup
 |.fact sh Φ fs' => (∃ cs,(∀ E,den E x=sh.val cs)/\Φ.Φ cs W' (jl (aQ w S fp) bs'))/\∃ vs ks,h 0=some (.cells T vs)/\aC h vs=some (fs',ks)/\(0::ks).Nodup
 |.pan _ _=>False
theorem jK{P:Program}{f:FuncId}{fn:Func}{c:Code}{w:World}{nt:Nat}{T:TypeId}{u:Value}{fp:List Nat}{fs:List AV}{out:GOut}(S:Nat->Prop)(us:Array Value)(rs:List ResultVar)
  (hlen:fs.length<=7) (ho:bC w u fp T fs) (hlt:∀ b∈fp,b<w.heap.size)
  (hf:P.funcs[f]?=some fn) (hb:fn.body=some c) (hrs:fn.results.toList=rs) (hnt:us.size+1+(fn.ntmps-(us.size+1))=nt)
  (h:Wp P w fp nt ⟨[],[(0,u)]⟩ c (Fin P rs (λW' bs' x h=>XW w S fp T W' bs' x h out) (λc _=>∃ v,out=.pan c v)) (σB T fs us.toList)) :
  Calls P f (#[u]++us) w λe w' => CJ w S u fp T e w' out:=by
 subst hrs;have hsat:=Bs (nt:=nt) (m:=fn.ntmps-(us.size+1)) us hlen ho hlt hnt;have hsz:(#[u]++us).size=us.size+1:=by simp;omega
 refine (jX hf hb (by rw[hsz];exact hsat) h).mono λe w' he=>?_
 cases e with
 | returned v' =>
  obtain⟨W',bs',E,F,x,h',hx,hok,rfl,hs,hp⟩:=he;have hs' := hs.back hx;have hE:E 0=u:=hp (0,u) sI
  have back:∀ {vs ks fs'},h' 0=some (.cells T vs)->aC h' vs=some (fs',ks)->(0::ks).Nodup->bC w' u ((0::ks).flatMap F) T fs' /\ (∀ b∈(0::ks).flatMap F,b∈fp\/w.heap.size<=b)/\(∀ b∈(0::ks).flatMap F,b<w'.heap.size)/\∀ b∈(0::ks).flatMap F,W'.heap.size<=b\/b∈bs' := λ{vs ks fs'} h0 hv hn=>by
   have ho' := fZ hs' h0 hv hn;rw[hE]at ho';have own:∀ b∈(0::ks).flatMap F,∃ j e,h' j=some e/\b∈F j:=λb hb=>by
    obtain⟨j,hj,hbj⟩:=List.mem_flatMap.1 hb;rcases List.mem_cons.1 hj with rfl|hj
    ·exact⟨_,_,h0,hbj⟩
    ·obtain⟨e,he⟩:=(b7 hs' hv).2 j hj;exact⟨_,e,he,hbj⟩
   refine⟨ho',λb hb=>?_,λb hb=>?_,λb hb=>?_⟩
   ·obtain⟨j,e,he,hbj⟩:=own b hb;exact (hs'.mine j e he b hbj).symm
   ·obtain⟨j,e,he,hbj⟩:=own b hb;exact hs'.lt j e he b hbj
   ·obtain⟨j,e,he,hbj⟩:=own b hb;exact hs.mine j e he b hbj
  cases out with
  |ret v fs' =>
   obtain⟨hd,vs,ks,h0,hv,hn⟩:=hok;obtain⟨g1,g2,g3,_⟩:=back h0 hv hn;exact⟨by rw[hd E],⟨_,g1,g2,g3⟩,hs'.keeps⟩
  |fact sh Φ fs' =>
   obtain⟨⟨cs,hd,hΦ⟩,vs,ks,h0,hv,hn⟩:=hok;obtain⟨g1,g2,g3,g4⟩:=back h0 hv hn;exact⟨cs,by rw[hd E],⟨_,g1,g2,g3,Φ.mono (λb hb hr=>⟨hs.keeps.block b hb hr.2,hr.1,λhf=>(g4 b hf).elim (λg=>absurd g (Nat.not_le.2 hb)) hr.2⟩) hΦ⟩,hs'.keeps⟩
  |pan c v=>exact hok.elim
 |panicked c=>
  obtain⟨W',bs',E,F,h',hx,⟨_,rfl⟩,hs,hp⟩:=he;exact⟨rfl,(hs.back hx).keeps⟩
 |outgrown=>exact he.elim
section
variable (G:Nat->Prop)(W:World)(bs:List Nat)(h:Hp)(κ k:Nat)(T T' : TypeId)
theorem VR(x:Value):dk (.v x)=some x:=rfl
theorem Ob(k o:Nat):dk (.own k o)=none:=rfl
theorem Tq(k:Nat):dk (.hd k)=none:=rfl
theorem GJ(k i:Nat):dk (.part k i)=none:=rfl
theorem LG(l:List SV):dk (.agg l)=(gS l).map λvs=>.agg vs.toArray:=rfl
theorem Lj(t:TypeId)(x:SV):dk (.ifc t x)=(dk x).map (.iface t):=rfl
theorem SI(f:Fn)(a c:List SV):dk (.fn f a c)=func2 f (gS a) (gS c):=rfl
theorem MB:gS []=some []:=rfl
theorem IV(x:SV)(r:List SV):gS (x::r)=v7 (dk x) (gS r):=rfl
theorem Nx(v:Value)(vs:List Value):v7 (some v) (some vs)=some (v::vs):=rfl
theorem Np(o:Option (List Value)):v7 none o=none:=rfl
theorem Hu(v:Value):v7 (some v) none=none:=rfl
theorem Lg(f:Fn)(a c:List Value):func2 f (some a) (some c)=some (.func f a.toArray c.toArray):=rfl
theorem B1(k i:Nat):l5 (.part k i)=some k:=rfl
theorem EJ(k i:Nat)(r:List SV):l5 (.agg (.part k i::r))=some k:=rfl
theorem af0:oe G W bs h [] []=⟨True,[],[],[]⟩:=rfl
theorem VX(kd:Kd)(ks:List Kd)(x:SV)(r:List SV):oe G W bs h (kd::ks) (x::r)=gvC (BK G W bs h kd x) (oe G W bs h ks r):=rfl
theorem Y1(x:SV):BK G W bs h none x=aiP (cL h x):=rfl
theorem Zd(sh:Sh)(Φ:FK)(x:SV):BK G W bs h (some (sh,Φ)) x=gvF G W bs h sh Φ x (dk x) (l5 x):=rfl
theorem TH(a:AV)(r:List Nat):aiP (some (a,r))=⟨True,a,r,[]⟩:=rfl
theorem akS(sh:Sh)(Φ:FK)(x:SV)(v:Value)(o:Option Nat):gvF G W bs h sh Φ x (some v) o=⟨∃ cs,v=sh.val cs/\Φ.Φ cs W (jl G bs),.val undef,[],[]⟩:=rfl
theorem alC(sh:Sh)(Φ:FK)(x:SV)(k:Nat):gvF G W bs h sh Φ x none (some k)=gvO G W bs sh Φ x k (h k):=rfl
theorem acG(sh:Sh)(Φ:FK)(x:SV)(k:Nat)(d:List Value)(R:List Value->Value->List Nat->World->Prop):gvO G W bs sh Φ x k (some (.obj d R))=⟨x=sh.tm k/\d=[]/\R=kC G W bs Φ,.val undef,[k],[k]⟩:=rfl
theorem aiN(p q:Prop)(a:AV)(as_:List AV)(r rs c cs:List Nat):gvC ⟨p,a,r,c⟩ ⟨q,as_,rs,cs⟩=⟨p/\q,a::as_,r++rs,c++cs⟩:=rfl
theorem WV(pre:List AV->World->(Nat->Prop)->Prop)(out:List AV->FOut)(p:Prop)(as_:List AV)(rs cs:List Nat):BE G κ W bs pre out ⟨p,as_,rs,cs⟩=sX G κ W bs (p/\pre as_ W (jl G bs)) rs cs (out as_):=rfl
theorem TY(q:Prop)(rs cs:List Nat)(v:Value):sX G κ W bs q rs cs (.val v)=⟨q,.v v,[],none,[],rs⟩:=rfl
theorem NT(q:Prop)(rs cs:List Nat)(sh:Sh)(Φ:FK):sX G κ W bs q rs cs (.fact sh Φ)=⟨q/\Up G W bs,sh.tm (8*κ),eB cs++[(8*κ,some (.obj [] (kC G W bs Φ)))],none,[],rs⟩:=rfl
theorem TZ(q:Prop)(rs cs:List Nat)(c:List PanicEntry)(v:Value):sX G κ W bs q rs cs (.pan c v)=⟨q,.v v,[],some c,[],rs⟩:=rfl
theorem SS(kinds:List Kd)(pre:List AV->List AV->World->(Nat->Prop)->Prop)(out:List AV->List AV->GOut)(rest:List SV):Dp G h κ T W bs kinds pre out (.own k 0::rest)=yA G h κ k T W bs pre out (oe G W bs h kinds rest) (h k):=rfl
theorem JZ(pre:List AV->List AV->World->(Nat->Prop)->Prop)(out:List AV->List AV->GOut)(g:GVL)(vs:List SV):yA G h κ k T W bs pre out g (some (.cells T' vs))=A4 G κ k T T' W bs pre out g (aC h vs):=rfl
theorem WB(pre:List AV->List AV->World->(Nat->Prop)->Prop)(out:List AV->List AV->GOut)(p:Prop)(as_ fs:List AV)(rs cs rs0:List Nat):A4 G κ k T T' W bs pre out ⟨p,as_,rs,cs⟩ (some (fs,rs0))=qa G κ k T W bs (T' = T/\p/\pre fs as_ W (jl G bs)) rs0 rs cs (out fs as_):=rfl
theorem SH(q:Prop)(rs rs' cs:List Nat)(v:Value)(fs:List AV):qa G κ k T W bs q rs rs' cs (.ret v fs)=⟨q/\(k::rs).Nodup/\(∀ j∈rs',j∉k::rs)/\fs.length<=7,.v v,eB rs++(cR (aZ (8*κ) fs)++[(k,some (.cells T (aN (8*κ) fs)))]),none,[],k::(rs++rs')⟩:=rfl
theorem Kr(q:Prop)(rs rs' cs:List Nat)(sh:Sh)(Φ:FK)(fs:List AV):qa G κ k T W bs q rs rs' cs (.fact sh Φ fs)=⟨q/\(k::rs).Nodup/\(∀ j∈rs',j∉k::rs)/\fs.length<=7/\Up G W bs,sh.tm (8*κ+7),eB (rs++cs)++(cR (aZ (8*κ) fs)++[(k,some (.cells T (aN (8*κ) fs))),(8*κ+7,some (.obj [] (kC G W bs Φ)))]),none,[],k::(rs++rs')⟩:=rfl
theorem SZ(q:Prop)(rs rs' cs:List Nat)(c:List PanicEntry)(v:Value):qa G κ k T W bs q rs rs' cs (.pan c v)=⟨q/\(k::rs).Nodup/\(∀ j∈rs',j∉k::rs),.v v,[],some c,k::rs,k::(rs++rs')⟩:=rfl
theorem ai4(k:Nat):Sh.one.tm k=.part k 0:=rfl
theorem ajC(k:Nat):Sh.two.tm k=.agg [.part k 0,.part k 1]:=rfl
end
def am3:=aa @VR <| aa @Ob <| aa @Tq <| aa @GJ <| aa @LG <| aa @Lj <| aa @SI <| aa @MB <| aa @IV <| aa @Nx <| aa @Np <| aa @Hu <| aa @Lg <| aa @B1 <| aa @EJ <| aa @af0 <| aa @VX <| aa @Y1 <| aa @Zd <| aa @TH <| aa @akS <| aa @alC <| aa @acG <| aa @aiN <| aa @WV <| aa @TY <| aa @NT <| aa @TZ <| aa @SS <| aa @JZ <| aa @WB <| aa @SH <| aa @Kr <| aa @SZ <| aa @ai4 <| aa @ajC <| aa @ig @lN
theorem kP{P:Program}{W:World}{bs:List Nat}{nt:Nat}{ds:Aux}{Q:me}{σ:St}{x y:Code}{ι:Type}(I:ι->St)(V:ι->World)(B:ι->List Nat)(ok:ι->Prop)
  (h1:Wp P W bs nt ds x (Th (λW' bs' σ1=>∃ p,ok p/\V p=W' /\ B p=bs' /\ Le W' bs' nt ds σ1 (I p)) Q) σ)
  (h2:∀ p,ok p->Ext W bs (V p) (B p)->Wp P (V p) (B p) nt ds y Q (I p)):Wp P W bs nt ds (.seq x y) Q σ:=λa w hs=>
 wp_seq (wp_mono (h1 a w hs) λe a' w' ⟨W',bs',σ1,he,hq,hs'⟩=>by
  cases e with
  |normal=>
   obtain⟨p,hp,rfl,rfl,hle⟩:=hq
   exact wp_mono (h2 p hp he a' w' (hle a' w' hs')) λe' a'' w'' hh=>qO he hh
  |_=>exact⟨W',bs',σ1,he,hq,hs'⟩)
structure Dx (P:Program)(f:FuncId) where
 T:TypeId
 pre:World->List Nat->List AV->List AV->Prop
 res:World->List AV->List AV->Value
 enters:∀ args w,(callFunc f args).run P w=.ok (.enter f args) w
 ok:∀ (W w:World) (bs:List Nat) (u:Value) (fp:List Nat) (us:List Value) (fs as_:List AV),ah W bs w->bC w u fp T fs->gj w us as_->pre W bs fs as_ ->
  Calls P f (u::us).toArray w λe w' => e=.returned (res W fs as_)/\ah w [] w'
def zE(k:Nat)(T T' : TypeId)(pre:List AV->List AV->Prop)(res:List AV->List AV->Value)(as_:List AV)(rs' : List Nat):Option (List AV×List Nat)->R
 |some (fs,rs)=>⟨(T' = T/\(k::rs).Nodup)/\pre fs as_,.v (res fs as_),[],none,[],k::(rs++rs')⟩
 |none=>.bad
def Ba(h:Hp)(k:Nat)(T:TypeId)(pre:List AV->List AV->Prop)(res:List AV->List AV->Value):Option aS->Option (List AV×List Nat)->R
 |some (.cells T' vs),some (as_,rs')=>zE k T T' pre res as_ rs' (aC h vs)
 |_,_=>.bad
def Dz(h:Hp)(T:TypeId)(pre:List AV->List AV->Prop)(res:List AV->List AV->Value):List SV->R
 |.own k 0::rest=>Ba h k T pre res (h k) (aC h rest)
 |_=>.bad
def Dx.spec{P:Program}{f:FuncId}(p:Dx P f):Spec P f where
 ev:=λW bs κ h args=>Dz h p.T (p.pre W bs) (p.res W) args
 good:=λW bs κ E F h w K args hs hK hk hx hside=>by
  rw[p.enters];revert hside;unfold Dz;split
  ·rename_i k rest;cases hkk:h k with
   |none=>exact λhf=>hf.elim
   | some e=>
    cases e with
    |row T s n vs=>exact λhf=>hf.elim
    |obj d R=>exact λhf=>hf.elim
    | cells T' vs=>
     cases hr:aC h rest with
     |none=>exact λhf=>hf.elim
     | some q=>
      obtain⟨as_,rs'⟩:=q;simp only[Ba];cases hv:aC h vs with
      |none=>exact λhf=>hf.elim
      |some q=>
       obtain⟨fs,rs⟩:=q;simp only[zE];rintro⟨⟨rfl,hn⟩,hp⟩;have hent:=hs.ent k _ hkk;obtain⟨b,hu,_,_⟩:=hent;have hden:den E (.own k 0)=E k:=by simp[den,hu,base,dq]
       have ho:=fZ hs hkk hv hn;have:=p.ok W w bs (E k) _ (au E rest) fs as_ hs.keeps ho (eR hs hr) hp;have e:au E (.own k 0::rest)=E k::au E rest:=by simp only[au,hden]
       rw[e];exact vl hs this rfl rfl rfl
  ·exact λhf=>hf.elim
 keys:=λW bs κ h K args hK hx hside=>by
  revert hside;unfold Dz;split
  ·rename_i k rest;cases hkk:h k with
   |none=>exact λhf=>hf.elim
   | some e=>
    cases e with
    |row T s n vs=>exact λhf=>hf.elim
    |obj d R=>exact λhf=>hf.elim
    | cells T' vs=>
     cases hr:aC h rest with
     |none=>exact λhf=>hf.elim
     | some q=>
      obtain⟨as_,rs'⟩:=q;simp only[Ba];cases hv:aC h vs with
      |none=>exact λhf=>hf.elim
      |some q=>
       obtain⟨fs,rs⟩:=q;simp only[zE];exact λ_=>aL.plain (λk hk=>by cases hk) rfl
  ·exact λhf=>hf.elim
 loc:=λW bs κ h h' args hside hr=>by
  revert hside hr;unfold Dz;split
  ·rename_i k rest;cases hkk:h k with
   |none=>exact λhf=>hf.elim
   | some e=>
    cases e with
    |row T s n vs=>exact λhf=>hf.elim
    |obj d R=>exact λhf=>hf.elim
    | cells T' vs=>
     cases hrr:aC h rest with
     |none=>exact λhf=>hf.elim
     | some q=>
      obtain⟨as_,rs'⟩:=q;simp only[Ba];cases hv:aC h vs with
      |none=>exact λhf=>hf.elim
      |some q=>
       obtain⟨fs,rs⟩:=q;simp only[zE];intro _ hr;have e1:h' k=some (.cells T' vs):=by rw[hr k sI,hkk]
       have e2:aC h' rest=some (as_,rs'):=dw hrr λj hj=>hr j (by simp[hj])
       have e3:aC h' vs=some (fs,rs):=dw hv λj hj=>hr j (by simp[hj])
       rw[e1,e2];simp only[Ba,e3,zE]
  ·exact λhf=>hf.elim
section
variable (h:Hp)(k:Nat)(T T' : TypeId)(pre:List AV->List AV->Prop)(res:List AV->List AV->Value)
theorem Xa{P:Program}{f:FuncId}(p:Dx P f)(W:World)(bs:List Nat)(κ:Nat)(h:Hp)(l:List SV):p.spec.ev W bs κ h l=Dz h p.T (p.pre W bs) (p.res W) l:=rfl
theorem TC(rest:List SV):Dz h T pre res (.own k 0::rest)=Ba h k T pre res (h k) (aC h rest):=rfl
theorem Js(vs:List SV)(as_:List AV)(rs' : List Nat):Ba h k T pre res (some (.cells T' vs)) (some (as_,rs'))=zE k T T' pre res as_ rs' (aC h vs):=rfl
theorem Nl(as_ fs:List AV)(rs' rs:List Nat):zE k T T' pre res as_ rs' (some (fs,rs))=⟨(T' = T/\(k::rs).Nodup)/\pre fs as_,.v (res fs as_),[],none,[],k::(rs++rs')⟩:=rfl
end
section
variable {P:Program}(κ:Nat)(h:Hp)(T:TypeId)
theorem D6(k:Nat)(ik:IntKind)(b:Int):fI P κ h T false true false [.hd k,.v (.int ik b)]=CN P κ k b (P.underlying T) (h k):=rfl
theorem KE(k:Nat)(b:Int)(e e' : TypeId)(s n:Nat)(vs:List SV):CN P κ k b (some (.slice e)) (some (.row e' s n vs))=uA κ k b e' s n vs (ts P e):=rfl
theorem I4(k:Nat)(b:Int)(e s n s' : Nat)(vs:List SV):uA κ k b e s n vs (some s')=⟨s' = s/\0<=b/\b.toNat<=n,.hd (8*κ),[(k,none),(8*κ,some (.row e s b.toNat (vs.take (b.toNat*s))))],none,[],[k]⟩:=rfl
end
def amx:=aa @D6 <| aa @KE @I4
def amC:=aa @Xa <| aa @TC <| aa @Js @Nl
theorem DN{w:World}{u:Value}{fp:List Nat}{T:TypeId}{fs:List AV}(h:bC w u fp T fs):∃ b us,u=.pointer (some ⟨b,0,none⟩)/\gj w us fs/\∀ j (hj:j<us.length),w.cell? ⟨b,j,none⟩=some us[j]:=by
 obtain⟨b,us,h1,h2,h3,_⟩:=h;exact⟨b,us,h1,h3,λj hj=>cell_of h2 j hj⟩
def od(w:World)(u:Value)(fp:List Nat)(T:TypeId)(fs:List AV)(xs:List Value):Prop:=
 ∃ b us,u=.pointer (some ⟨b,0,none⟩)/\w.heap[b]?=some (.cells (us++xs).toArray T (0,0))/\gj w us fs/\fp=b::wy us fs/\(b::wy us fs).Nodup
def QC(w:World)(u:Value)(fp:List Nat)(T:TypeId)(xs:List Value)(e:Ending)(w' : World):BOut->Prop
 |.ret v fs=>e=.returned v/\(∃ fp',od w' u fp' T fs xs/\(∀ b∈fp',b∈fp\/w.heap.size<=b)/\∀ b∈fp',b<w'.heap.size)/\ah w fp w'
 |.pan c _=>e=.panicked c/\ah w fp w'
structure P8 (P:Program)(f:FuncId) where
 T:TypeId
 m:Nat
 pre:World->List Nat->List AV->List AV->Prop
 out:World->List AV->List AV->BOut
 enters:∀ args w,(callFunc f args).run P w=.ok (.enter f args) w
 ok:∀ (W w:World) (bs:List Nat) (u:Value) (fp:List Nat) (us:List Value) (fs as_:List AV) (xs:List Value),ah W bs w->od w u fp T fs xs->(∀ b∈fp,b<w.heap.size)->(∀ b∈fp,W.heap.size<=b\/b∈bs)->gj w us as_->pre W bs fs as_ ->
  Calls P f (u::us).toArray w λe w' => QC w u fp T xs e w' (out W fs as_)
def zt(κ k:Nat)(T:TypeId)(ys:List SV)(pre:Prop)(rs rs' : List Nat):BOut->R
 |.ret v fs=>⟨pre/\(k::rs).Nodup/\(∀ j∈rs',j∉k::rs)/\fs.length<=8,.v v,eB rs++(cR (aZ (8*κ) fs)++[(k,some (.cells T (aN (8*κ) fs++ys)))]),none,[],k::(rs++rs')⟩
 |.pan c v=>⟨pre/\(k::rs).Nodup/\(∀ j∈rs',j∉k::rs),.v v,[],some c,k::rs,k::(rs++rs')⟩
def Av(κ k:Nat)(T T' : TypeId)(ys:List SV)(pre:List AV->List AV->Prop)(out:List AV->List AV->BOut)(as_:List AV)(rs' : List Nat):Option (List AV×List Nat)->R
 |some (fs,rs)=>zt κ k T ys (T' = T/\pre fs as_) rs rs' (out fs as_)
 |none=>.bad
def zd(h:Hp)(κ k:Nat)(T:TypeId)(m:Nat)(pre:List AV->List AV->Prop)(out:List AV->List AV->BOut):Option aS->Option (List AV×List Nat)->R
 |some (.cells T' vs),some (as_,rs')=>Av κ k T T' (vs.drop m) pre out as_ rs' (aC h (vs.take m))
 |_,_=>.bad
def De(h:Hp)(κ:Nat)(T:TypeId)(m:Nat)(pre:List AV->List AV->Prop)(out:List AV->List AV->BOut):List SV->R
 |.own k 0::rest=>zd h κ k T m pre out (h k) (aC h rest)
 |_=>.bad
section
variable {P:Program}{W:World}{bs:List Nat}{κ:Nat}{E:Nat->Value}{F:Nat->List Nat}{h:Nat->Option aS}{w:World}{K:Nat->Prop}
theorem tp(hs:ai W bs E F h w){k:Nat}{T:TypeId}{vs ys:List SV}{fs:List AV}{rs:List Nat}(hk:h k=some (.cells T (vs++ys)))(hv:aC h vs=some (fs,rs))(hn:(k::rs).Nodup) :
  od w (E k) ((k::rs).flatMap F) T fs (au E ys):=by
 obtain⟨b,h1,h2,h3⟩:=hs.ent k _ hk;obtain⟨g1,g2⟩:=b7 hs hv;have hnd:=rU hs (ks:=k::rs) hn λj hj=>by
  rcases List.mem_cons.1 hj with rfl|hj
  ·exact⟨_,hk,λ_ _ e=>by cases e⟩
  ·obtain⟨T',s,n,us,h4⟩:=lF hv j hj;exact⟨_,h4,λ_ _ e=>by cases e⟩
 have hfp:(k::rs).flatMap F=b::wy (au E vs) fs:=by
  rw[List.flatMap_cons,h2,g1];rfl
 refine⟨b,au E vs,h1,by rw[h3,ei],eR hs hv,hfp,by rw[<- hfp];exact hnd⟩
theorem Tr{w' : World}{k:Nat}{T:TypeId}{vs ys:List SV}{fs fs' : List AV}{rs fp' : List Nat}(hs:ai W bs E F h w)(hK:bW K h)(hk:∀ k,k / 8=κ->¬ K k)
  (hkk:h k=some (.cells T (vs++ys))) (hv:aC h vs=some (fs,rs)) (hlen:fs'.length<=8) (hn:(k::rs).Nodup)
  (ho:od w' (E k) fp' T fs' (au E ys)) (h1:∀ b∈fp',b∈(k::rs).flatMap F\/w.heap.size<=b) (h2:∀ b∈fp',b<w'.heap.size) (hkeep:ah w ((k::rs).flatMap F) w') :
  ∃ E' F',(∀ j,j / 8≠κ->E' j=E j)/\ai W bs E' F' (ba h (eB rs++(cR (aZ (8*κ) fs')++[(k,some (.cells T (aN (8*κ) fs' ++ ys)))]))) w' := by
 obtain⟨b,us,hu,hb,hus,rfl,hnd⟩:=ho;have hl:=iq hus;have hKk:K k:=(hK k _ hkk).1;have hfr:∀ j,8*κ<=j->j<8*κ+8->¬ K j:=λj g1 g2=>hk j oM
 have hkf:k<8*κ\/8*κ+8<=k:=by
  by_cases g1:k<8*κ
  ·exact .inl g1
  ·by_cases g2:8*κ+8<=k
   ·exact .inr g2
   ·exact absurd hKk (hfr k oM oM)
 have hE:∀ j,j / 8≠κ->iJ (8*κ) us E j=E j:=λj hj=>jR oM
 have hsome:∀ p∈cR (aZ (8*κ) fs')++[(k,some (.cells T (aN (8*κ) fs' ++ ys)))],∃ e,p.2=some e:=λp hp=>by
  rcases List.mem_append.1 hp with hp|hp
  ·obtain⟨e,he,_⟩:=fG.1 hp;exact⟨e,by rw[he]⟩
  ·simp at hp;exact⟨_,by rw[hp]⟩
 have hNm:∀ j e,ba (λ_=>none) (cR (aZ (8*κ) fs')++[(k,some (.cells T (aN (8*κ) fs' ++ ys)))]) j=some e->(j=k/\e=.cells T (aN (8*κ) fs' ++ ys))\/(j≠k/\(j,e)∈aZ (8*κ) fs'):=λj e he=>by
  rw[cy]at he;simp only[ba]at he;by_cases hj:j=k
  ·subst hj;rw[ak]at he;cases he;exact .inl ⟨rfl,rfl⟩
  ·rw[aq _ _ hj]at he;rcases j8 (λ_=>(none:Option aS)) (k:=j) (u:=cR (aZ (8*κ) fs')) with ⟨x,hx,hx'⟩|⟨_,hx'⟩
   ·rw[hx']at he;subst he;obtain⟨e',h3,h4⟩:=fG.1 hx;simp only[Prod.mk.injEq,true_and,Option.some.injEq]at h3;subst h3;exact .inr ⟨hj,h4⟩
   ·rw[hx']at he;cases he
 have hNk:ba (λ_=>none) (cR (aZ (8*κ) fs')++[(k,some (.cells T (aN (8*κ) fs' ++ ys)))]) k=some (.cells T (aN (8*κ) fs' ++ ys)):=by
  rw[cy];simp[ba,ak]
 have hb' : b∉wy us fs' := (List.nodup_cons.1 hnd).1;have hnd' : (wy us fs').Nodup:=(List.nodup_cons.1 hnd).2;refine⟨iJ (8*κ) us E,bu (iF (8*κ) us fs' F) k [b],hE,?_⟩
 refine hs.oH hK (k::rs) (ba (λ_=>none) (cR (aZ (8*κ) fs')++[(k,some (.cells T (aN (8*κ) fs' ++ ys)))])) (λj hj=>?_) (λj hj=>hE j λe=>hk j e hj) (λj e he=>?_) (λi j e e' hij hi hj c hc=>?_) (λj x hx hj=>?_) (λj=>?_) hkeep
 ·rcases List.mem_cons.1 hj with rfl|hj
  ·exact⟨_,hkk⟩
  ·exact (b7 hs hv).2 j hj
 ·rcases hNm j e he with ⟨rfl,rfl⟩|⟨hjk,hm⟩
  ·rw[ak,hE j λe=>hk j e hKk];refine⟨⟨b,hu,rfl,by rw[ei,gf hus,bV (E' := E) ys λi hi=>hE i λe=>hk i e ((hK _ _ hkk).2 i (by simp only[aS.keys,aT];exact List.mem_append_right _ hi))];exact hb⟩,λc hc=>?_,λc hc=>h2 c (by simp at hc;simp[hc])⟩;simp only[List.mem_singleton]at hc;subst hc
   rcases h1 c sI with g|g
   ·obtain⟨i,hi,hci⟩:=List.mem_flatMap.1 g;exact .inl ⟨i,hi,hci⟩
   ·exact .inr g
  ·rw[aq _ _ hjk];obtain⟨g1,g2⟩:=iB (E:=E) (F:=F) hus hm (iJ (8*κ) us E);refine⟨g1,λc hc=>?_,λc hc=>h2 c (List.mem_cons_of_mem _ (g2 c hc))⟩;rcases h1 c (List.mem_cons_of_mem _ (g2 c hc)) with g|g
   ·obtain⟨i,hi,hci⟩:=List.mem_flatMap.1 g;exact .inl ⟨i,hi,hci⟩
   ·exact .inr g
 ·rcases hNm i e hi with ⟨rfl,rfl⟩|⟨hik,hmi⟩
  ·rcases hNm j e' hj with ⟨rfl,rfl⟩|⟨hjk,hmj⟩
   ·exact absurd rfl hij
   ·rw[ak]at hc;rw[aq _ _ hjk];simp only[List.mem_singleton]at hc;subst hc;exact λhc' => hb' (bN hl hmj c hc')
  ·rw[aq _ _ hik]at hc;rcases hNm j e' hj with ⟨rfl,rfl⟩|⟨hjk,hmj⟩
   ·rw[ak];intro hc';simp only[List.mem_singleton]at hc';subst hc';exact hb' (bN hl hmi c hc)
   ·rw[aq _ _ hjk];exact gi hnd' hmi hmj hl hij c hc
 ·have hjk:j≠k:=λe=>by rw[e,hNk]at hj;cases hj
  rw[aq _ _ hjk];have hKj:=(hK j x hx).1;by_cases g1:j<8*κ
  ·exact jy (.inl g1)
  ·by_cases g2:8*κ+8<=j
   ·exact jy (.inr oM)
   ·exact absurd hKj (hfr j oM oM)
 ·rw[cy,jH _ _ _ hsome,lp];cases hN:ba (λ_=>none) (cR (aZ (8*κ) fs')++[(k,some (.cells T (aN (8*κ) fs' ++ ys)))]) j with
  |some e=>rfl
  |none=>
   have hjk:j≠k:=λe=>by rw[e,hNk]at hN;cases hN
   simp[hjk]
end
def P8.spec{P:Program}{f:FuncId}(p:P8 P f):Spec P f where
 ev:=λW bs κ h args=>De h κ p.T p.m (p.pre W bs) (p.out W) args
 good:=λW bs κ E F h w K args hs hK hk hx hside=>by
  rw[p.enters];revert hside;unfold De;split
  ·rename_i k rest;cases hkk:h k with
   |none=>exact λhf=>hf.elim
   | some e=>
    cases e with
    |row T s n vs=>exact λhf=>hf.elim
    |obj d R=>exact λhf=>hf.elim
    | cells T' vs=>
     cases hr:aC h rest with
     |none=>exact λhf=>hf.elim
     | some q=>
      obtain⟨as_,rs'⟩:=q;simp only[zd];have hsplit:vs=vs.take p.m++vs.drop p.m:=(List.take_append_drop _ _).symm;cases hv:aC h (vs.take p.m) with
      |none=>exact λhf=>hf.elim
      | some q=>
       obtain⟨fs,rs⟩:=q;simp only[Av];have hent:=hs.ent k _ hkk;obtain⟨b,hu,_,_⟩:=hent;have hden:den E (.own k 0)=E k:=by simp[den,hu,base,dq]
       have call:∀ hn:(k::rs).Nodup,T' = p.T->p.pre W bs fs as_->Calls P f (au E (.own k 0::rest)).toArray w λe w' => QC w (E k) ((k::rs).flatMap F) p.T (au E (vs.drop p.m)) e w' (p.out W fs as_):=λhn hT hp=>by
        subst hT;have ho:=tp hs (hsplit ▸ hkk) hv hn;have:=p.ok W w bs (E k) _ (au E rest) fs as_ _ hs.keeps ho (λc hc=>?_) (λc hc=>?_) (eR hs hr) hp
        ·simpa only[au,hden] using this
        ·obtain⟨j,hj,hcj⟩:=List.mem_flatMap.1 hc;rcases List.mem_cons.1 hj with rfl|hj
         ·exact hs.lt _ _ hkk c hcj
         ·obtain⟨e,he⟩:=(b7 hs hv).2 j hj;exact hs.lt j e he c hcj
        ·obtain⟨j,hj,hcj⟩:=List.mem_flatMap.1 hc;rcases List.mem_cons.1 hj with rfl|hj
         ·exact hs.mine _ _ hkk c hcj
         ·obtain⟨e,he⟩:=(b7 hs hv).2 j hj;exact hs.mine j e he c hcj
       cases hout:p.out W fs as_ with
       |ret v fs' =>
        simp only[zt];rintro⟨⟨hT,hp⟩,hn,hd,hlen⟩;have hc:=call hn hT hp;rw[hout]at hc;subst hT;refine hc.mono λe w' he=>?_
        obtain⟨rfl,⟨fp',ho,h1,h2⟩,hkeep⟩:=he;obtain⟨E',F',hE',hs'⟩:=Tr hs hK hk (hsplit ▸ hkk) hv hlen hn ho h1 h2 hkeep;exact⟨rfl,E',F',hE',rfl,hs'⟩
       | pan c _=>
        simp only[zt];rintro⟨⟨hT,hp⟩,hn,hd⟩;have hc:=call hn hT hp;rw[hout]at hc;refine hc.mono λe w' he=>?_
        obtain⟨rfl,hkeep⟩:=he;refine⟨rfl,F,?_⟩;refine hs.oH hK (k::rs) (λ_=>none) (λj hj=>?_) (λ_ _=>rfl) (λj e he=>by cases he) (λi j e e' _ he=>by cases he) (λ_ _ _ _=>rfl) (λj=>?_) hkeep
        ·rcases List.mem_cons.1 hj with rfl|hj
         ·exact⟨_,hkk⟩
         ·exact (b7 hs hv).2 j hj
        ·simp only[dropKeys]
  ·exact λhf=>hf.elim
 keys:=λW bs κ h K args hK hx hside=>by
  revert hside;unfold De;split
  ·rename_i k rest;cases hkk:h k with
   |none=>exact λhf=>hf.elim
   | some e=>
    cases e with
    |row T s n vs=>exact λhf=>hf.elim
    |obj d R=>exact λhf=>hf.elim
    | cells T' vs=>
     cases hr:aC h rest with
     |none=>exact λhf=>hf.elim
     | some q=>
      obtain⟨as_,rs'⟩:=q;simp only[zd];have hsplit:vs=vs.take p.m++vs.drop p.m:=(List.take_append_drop _ _).symm;cases hv:aC h (vs.take p.m) with
      |none=>exact λhf=>hf.elim
      | some q=>
       obtain⟨fs,rs⟩:=q;simp only[Av];cases hout:p.out W fs as_ with
       | ret v fs' =>
        simp only[zt];rintro⟨_,hn,hd,hlen⟩;refine⟨λj hj=>(by cases hj),λq hq=>?_⟩;simp only[List.mem_append,List.mem_singleton]at hq;rcases hq with hq|hq|rfl
        ·simp only[eB,List.mem_map]at hq;obtain⟨j,hj,rfl⟩:=hq;exact⟨.inl (s5 hK hv j hj),λe he=>by cases he⟩
        ·obtain⟨e,h1,h2⟩:=fG.1 hq;obtain⟨h3,h4⟩:=yq hlen h2;refine⟨.inr h3,λe' he' j hj=>?_⟩;rw[h1]at he';simp only[Option.some.injEq]at he';subst he';rw[h4]at hj;cases hj
        ·refine⟨.inl (hK k _ hkk).1,λe' he' j hj=>?_⟩;simp only[Option.some.injEq]at he';subst he';simp only[aS.keys,aT,List.mem_append]at hj;rcases hj with hj|hj
         ·have:=cP j hj;exact .inr oM
         ·refine .inl ((hK k _ hkk).2 j ?_);simp only[aS.keys];rw[hsplit,aT];exact List.mem_append_right _ hj
       |pan c _=>
        simp only[zt];rintro _;exact⟨λj hj=>(by cases hj),λq hq=>by cases hq⟩
  ·exact λhf=>hf.elim
 loc:=λW bs κ h h' args hside hr=>by
  revert hside hr;unfold De;split
  ·rename_i k rest;cases hkk:h k with
   |none=>exact λhf=>hf.elim
   | some e=>
    cases e with
    |row T s n vs=>exact λhf=>hf.elim
    |obj d R=>exact λhf=>hf.elim
    | cells T' vs=>
     cases hrr:aC h rest with
     |none=>exact λhf=>hf.elim
     | some q=>
      obtain⟨as_,rs'⟩:=q;simp only[zd];have hsplit:vs=vs.take p.m++vs.drop p.m:=(List.take_append_drop _ _).symm;cases hv:aC h (vs.take p.m) with
      |none=>exact λhf=>hf.elim
      | some q=>
       obtain⟨fs,rs⟩:=q;simp only[Av];have key:∀ r:R,(∀ j∈r.reads,h' j=h j)->r.reads=k::(rs++rs')->h' k=some (.cells T' vs)/\aC h' rest=some (as_,rs')/\aC h' (vs.take p.m)=some (fs,rs):=λr hr he=>by
        rw[he]at hr;exact⟨by rw[hr k sI,hkk],dw hrr λj hj=>hr j (by simp[hj]),dw hv λj hj=>hr j (by simp[hj])⟩
       intro _ hr;obtain⟨g1,g2,g3⟩:=key _ hr (by cases p.out W fs as_<;>rfl);rw[g1,g2];simp only[zd,g3,Av]
  ·exact λhf=>hf.elim
section
variable (h:Hp)(κ k:Nat)(T T' : TypeId)(m:Nat)(pre:List AV->List AV->Prop)(out:List AV->List AV->BOut)
theorem ZJ{P:Program}{f:FuncId}(p:P8 P f)(W:World)(bs:List Nat)(κ:Nat)(h:Hp)(l:List SV):p.spec.ev W bs κ h l=De h κ p.T p.m (p.pre W bs) (p.out W) l:=rfl
theorem SA(rest:List SV):De h κ T m pre out (.own k 0::rest)=zd h κ k T m pre out (h k) (aC h rest):=rfl
theorem JF(vs:List SV)(as_:List AV)(rs' : List Nat):zd h κ k T m pre out (some (.cells T' vs)) (some (as_,rs'))=Av κ k T T' (vs.drop m) pre out as_ rs' (aC h (vs.take m)):=rfl
theorem L2(ys:List SV)(as_:List AV)(rs' : List Nat)(fs:List AV)(rs:List Nat):Av κ k T T' ys pre out as_ rs' (some (fs,rs))=zt κ k T ys (T' = T/\pre fs as_) rs rs' (out fs as_):=rfl
theorem Uy(ys:List SV)(q:Prop)(rs rs' : List Nat)(v:Value)(fs:List AV):zt κ k T ys q rs rs' (.ret v fs)=⟨q/\(k::rs).Nodup/\(∀ j∈rs',j∉k::rs)/\fs.length<=8,.v v,eB rs++(cR (aZ (8*κ) fs)++[(k,some (.cells T (aN (8*κ) fs++ys)))]),none,[],k::(rs++rs')⟩:=rfl
end
def amI:=aa @ZJ <| aa @SA <| aa @JF <| aa @L2 @Uy
def σP(T:TypeId)(fs:List AV)(xs args:List Value):St:=⟨1,bm ((0,.is (.own 0 0))::sa args 1),aY ((0,.cells T (aN 1 fs++xs.map .v))::aZ 1 fs)⟩
theorem Xp{w:World}{nt m:Nat}{T:TypeId}{fs:List AV}{xs:List Value}{u:Value}{fp:List Nat}(us:Array Value)(hlen:fs.length<=7)(ho:od w u fp T fs xs)(hlt:∀ b∈fp,b<w.heap.size)(hnt:us.size+1+m=nt) :
  Sat w fp nt ⟨[],[(0,u)]⟩ (σP T fs xs us.toList) { tmps:=(#[u]++us)++Array.replicate m undef,defers:=[] } w:=by
 obtain⟨b,vs,rfl,hb,hvs,rfl,hnd⟩:=ho;have hl:=iq hvs;have hb' : b∉wy vs fs:=(List.nodup_cons.1 hnd).1;have hnd' : (wy vs fs).Nodup:=(List.nodup_cons.1 hnd).2
 have at' : ∀ j e,aY ((0,.cells T (aN 1 fs++xs.map .v))::aZ 1 fs) j=some e->(j=0/\e=.cells T (aN 1 fs++xs.map .v))\/(j≠0/\(j,e)∈aZ 1 fs):=λj e he=>by
  simp only[aY]at he;by_cases hj:j=0
  ·subst hj;rw[ak]at he;cases he;exact .inl ⟨rfl,rfl⟩
  ·rw[aq _ _ hj]at he;exact .inr ⟨hj,Bm he⟩
 have e0:iJ 1 vs (λ_=>.pointer (some ⟨b,0,none⟩)) 0=.pointer (some ⟨b,0,none⟩):=jR (.inl oM)
 refine⟨⟨iJ 1 vs (λ_=>.pointer (some ⟨b,0,none⟩)),bu (iF 1 vs fs (λ_=>[])) 0 [b],λt=>?_,⟨λj e he=>?_,λj e he c hc=>?_,λj e he c hc=>?_,λi j e e' hij hi hj c hc=>?_,ah.refl w _⟩,λp hp=>?_⟩,?_,rfl,λp hp=>?_,λt k hk=>?_,λj e he=>?_⟩
 ·show fits _ (bm ((0,.is (.own 0 0))::sa us.toList 1) t) _;simp only[bm,bu];split
  ·rename_i ht;subst ht;simp only[fits,den,e0,base,dq];rw[Array.getD_eq_getD_getElem?,Array.getElem?_append_left (by simp;omega),Array.getElem?_append_left sI];rfl
  ·refine mT _ us.toList 1 t (λt=>((#[Value.pointer (some ⟨b,0,none⟩)]++us)++Array.replicate m undef).getD t undef) λj hj=>?_
   have hj' : j<us.size:=by simpa using hj
   rw[Array.getD_eq_getD_getElem?,Array.getElem?_append_left (by simp;omega),Array.getElem?_append_right sI];simp[Array.getElem?_eq_getElem hj']
 ·rcases at' j e he with ⟨rfl,rfl⟩|⟨hj,hm⟩
  ·exact⟨b,e0,by rw[ak],by rw[ei,gf hvs,aJ];exact hb⟩
  ·rw[aq _ _ hj];exact (iB hvs hm _).1
 ·rcases at' j e he with ⟨rfl,rfl⟩|⟨hj,hm⟩
  ·rw[ak]at hc;exact hlt c (by simp at hc;simp[hc])
  ·rw[aq _ _ hj]at hc;exact hlt c (List.mem_cons_of_mem _ (bN hl hm c hc))
 ·right;rcases at' j e he with ⟨rfl,rfl⟩|⟨hj,hm⟩
  ·rw[ak]at hc;simp at hc;simp[hc]
  ·rw[aq _ _ hj]at hc;exact List.mem_cons_of_mem _ (bN hl hm c hc)
 ·rcases at' i e hi with ⟨rfl,rfl⟩|⟨hi0,hmi⟩
  ·rcases at' j e' hj with ⟨rfl,rfl⟩|⟨hj0,hmj⟩
   ·exact absurd rfl hij
   ·rw[ak]at hc;rw[aq _ _ hj0];simp only[List.mem_singleton]at hc;subst hc;exact λhc' => hb' (bN hl hmj c hc')
  ·rw[aq _ _ hi0]at hc;rcases at' j e' hj with ⟨rfl,rfl⟩|⟨hj0,hmj⟩
   ·rw[ak];intro hc';simp only[List.mem_singleton]at hc';subst hc';exact hb' (bN hl hmi c hc)
   ·rw[aq _ _ hj0];exact gi hnd' hmi hmj hl hij c hc
 ·simp only[List.mem_singleton]at hp;subst hp;exact e0
 ·simp;omega
 ·simp only[List.mem_singleton]at hp;subst hp;show 0 / 8<1;omega
 ·simp only[σP,bm,bu]at hk;split at hk
  ·simp[FV.keys,SV.keys]at hk;subst hk;show 0 / 8<1;omega
  ·rw[mI]at hk;cases hk
 ·rcases at' j e he with ⟨rfl,rfl⟩|⟨hj,hm⟩
  ·refine⟨by show 0 / 8<1;omega,λi hi=>?_⟩;simp only[aS.keys,aT,aB,List.append_nil]at hi;have:=cP i hi;show i / 8<1;omega
  ·have:=et _ hm;refine⟨by show j / 8<1;simp only at this;omega,λi hi=>?_⟩;rw[this.2.2]at hi;cases hi
theorem MA{P:Program}{f:FuncId}{fn:Func}{c:Code}{w:World}{nt:Nat}{T:TypeId}{u:Value}{fp:List Nat}{fs:List AV}{xs:List Value}{out:BOut}(us:Array Value)(rs:List ResultVar)
  (hlen:fs.length<=7) (ho:od w u fp T fs xs) (hlt:∀ b∈fp,b<w.heap.size)
  (hf:P.funcs[f]?=some fn) (hb:fn.body=some c) (hrs:fn.results.toList=rs) (hnt:us.size+1+(fn.ntmps-(us.size+1))=nt)
  (h:Wp P w fp nt ⟨[],[(0,u)]⟩ c (Fin P rs (λ_ _ x h=>∃ v fs',out=.ret v fs' /\ (∀ E,den E x=v)/\∃ vs ks,h 0=some (.cells T (vs++xs.map .v))/\aC h vs=some (fs',ks)/\(0::ks).Nodup) (λc _=>∃ v,out=.pan c v)) (σP T fs xs us.toList)) :
  Calls P f (#[u]++us) w λe w' => QC w u fp T xs e w' out:=by
 subst hrs;have hsat:=Xp (nt:=nt) (m:=fn.ntmps-(us.size+1)) us hlen ho hlt hnt;have hsz:(#[u]++us).size=us.size+1:=by simp;omega
 refine (jX hf hb (by rw[hsz];exact hsat) h).mono λe w' he=>?_
 cases e with
 | returned v' =>
  obtain⟨W',bs',E,F,x,h',hx,⟨v,fs',rfl,hd,vs,ks,h0,hv,hn⟩,rfl,hs,hp⟩:=he;have hs' := hs.back hx;have hE:E 0=u:=hp (0,u) sI;have ho' := tp hs' h0 hv hn;rw[hE,aJ]at ho';refine⟨by rw[hd E],⟨_,ho',λb hb=>?_,λb hb=>?_⟩,hs'.keeps⟩
  ·obtain⟨j,hj,hbj⟩:=List.mem_flatMap.1 hb;have:∃ e,h' j=some e:=by
    rcases List.mem_cons.1 hj with rfl|hj
    ·exact⟨_,h0⟩
    ·exact (b7 hs' hv).2 j hj
   obtain⟨e,he⟩:=this;exact (hs'.mine j e he b hbj).symm
  ·obtain⟨j,hj,hbj⟩:=List.mem_flatMap.1 hb;have:∃ e,h' j=some e:=by
    rcases List.mem_cons.1 hj with rfl|hj
    ·exact⟨_,h0⟩
    ·exact (b7 hs' hv).2 j hj
   obtain⟨e,he⟩:=this;exact hs'.lt j e he b hbj
 |panicked c=>
  obtain⟨W',bs',E,F,h',hx,⟨_,rfl⟩,hs,hp⟩:=he;exact⟨rfl,(hs.back hx).keeps⟩
 |outgrown=>exact he.elim
structure yn (P:Program)(f:FuncId) where
 T:TypeId
 pre:World->List Nat->List AV->List AV->Prop
 out:World->List AV->List AV->BOut
 enters:∀ args w,(callFunc f args).run P w=.ok (.enter f args) w
 ok:∀ (W w:World) (bs:List Nat) (u:Value) (fp:List Nat) (us:List Value) (fs as_:List AV),ah W bs w->bC w u fp T fs->(∀ b∈fp,b<w.heap.size)->(∀ b∈fp,W.heap.size<=b\/b∈bs)->gj w us as_->pre W bs fs as_ ->
  Calls P f (us++[u]).toArray w λe w' => gM w u fp T e w' (out W fs as_)
def mV(h:Hp)(κ:Nat)(T:TypeId)(pre:List AV->List AV->Prop)(out:List AV->List AV->BOut):List SV->R
 |[x,y,.own k 0]=>gu h κ k T pre out (h k) (aC h [x,y])
 |_=>.bad
theorem FN(h:Hp)(κ k:Nat)(T:TypeId)(pre:List AV->List AV->Prop)(out:List AV->List AV->BOut)(x y:SV):mV h κ T pre out [x,y,.own k 0]=gu h κ k T pre out (h k) (aC h [x,y]):=by
 cases x<;>rfl
def yn.spec{P:Program}{f:FuncId}(p:yn P f):Spec P f where
 ev:=λW bs κ h args=>mV h κ p.T (p.pre W bs) (p.out W) args
 good:=λW bs κ E F h w K args hs hK hk hx hside=>by
  rw[p.enters];revert hside;unfold mV;split
  ·rename_i x y k;cases hkk:h k with
   |none=>exact λhf=>hf.elim
   | some e=>
    cases e with
    |row T s n vs=>exact λhf=>hf.elim
    |obj d R=>exact λhf=>hf.elim
    | cells T' vs=>
     cases hr:aC h [x,y] with
     |none=>exact λhf=>hf.elim
     | some q=>
      obtain⟨as_,rs'⟩:=q;simp only[gu];cases hv:aC h vs with
      |none=>exact λhf=>hf.elim
      | some q=>
       obtain⟨fs,rs⟩:=q;simp only[iQ];have hent:=hs.ent k _ hkk;obtain⟨b,hu,_,_⟩:=hent;have hden:den E (.own k 0)=E k:=by simp[den,hu,base,dq]
       have call:∀ hn:(k::rs).Nodup,T' = p.T->p.pre W bs fs as_->Calls P f (au E [x,y,.own k 0]).toArray w λe w' => gM w (E k) ((k::rs).flatMap F) p.T e w' (p.out W fs as_):=λhn hT hp=>by
        subst hT;have ho:=fZ hs hkk hv hn;have:=p.ok W w bs (E k) _ [den E x,den E y] fs as_ hs.keeps ho (λc hc=>?_) (λc hc=>?_) (eR hs hr) hp
        ·simp only[au,hden];exact this
        ·obtain⟨j,hj,hcj⟩:=List.mem_flatMap.1 hc;rcases List.mem_cons.1 hj with rfl|hj
         ·exact hs.lt _ _ hkk c hcj
         ·obtain⟨e,he⟩:=(b7 hs hv).2 j hj;exact hs.lt j e he c hcj
        ·obtain⟨j,hj,hcj⟩:=List.mem_flatMap.1 hc;rcases List.mem_cons.1 hj with rfl|hj
         ·exact hs.mine _ _ hkk c hcj
         ·obtain⟨e,he⟩:=(b7 hs hv).2 j hj;exact hs.mine j e he c hcj
       cases hout:p.out W fs as_ with
       |ret v fs' =>
        simp only[il];rintro⟨⟨hT,hp⟩,hn,hd,hlen⟩;have hc:=call hn hT hp;rw[hout]at hc;subst hT;refine hc.mono λe w' he=>?_
        obtain⟨rfl,⟨fp',ho,h1,h2⟩,hkeep⟩:=he;obtain⟨E',F',hE',hs'⟩:=pH hs hK hk hkk hv hlen hn ho h1 h2 hkeep;exact⟨rfl,E',F',hE',rfl,hs'⟩
       | pan c _=>
        simp only[il];rintro⟨⟨hT,hp⟩,hn,hd⟩;have hc:=call hn hT hp;rw[hout]at hc;refine hc.mono λe w' he=>?_
        obtain⟨rfl,hkeep⟩:=he;refine⟨rfl,F,?_⟩;refine hs.oH hK (k::rs) (λ_=>none) (λj hj=>?_) (λ_ _=>rfl) (λj e he=>by cases he) (λi j e e' _ he=>by cases he) (λ_ _ _ _=>rfl) (λj=>?_) hkeep
        ·rcases List.mem_cons.1 hj with rfl|hj
         ·exact⟨_,hkk⟩
         ·exact (b7 hs hv).2 j hj
        ·simp only[dropKeys]
  ·exact λhf=>hf.elim
 keys:=λW bs κ h K args hK hx hside=>by
  revert hside;unfold mV;split
  ·rename_i x y k;cases hkk:h k with
   |none=>exact λhf=>hf.elim
   | some e=>
    cases e with
    |row T s n vs=>exact λhf=>hf.elim
    |obj d R=>exact λhf=>hf.elim
    | cells T' vs=>
     cases hr:aC h [x,y] with
     |none=>exact λhf=>hf.elim
     | some q=>
      obtain⟨as_,rs'⟩:=q;simp only[gu];cases hv:aC h vs with
      |none=>exact λhf=>hf.elim
      | some q=>
       obtain⟨fs,rs⟩:=q;simp only[iQ];cases hout:p.out W fs as_ with
       | ret v fs' =>
        simp only[il];rintro⟨_,hn,hd,hlen⟩;refine⟨λj hj=>(by cases hj),λq hq=>?_⟩;simp only[List.mem_append,List.mem_singleton]at hq;rcases hq with hq|hq|rfl
        ·simp only[eB,List.mem_map]at hq;obtain⟨j,hj,rfl⟩:=hq;exact⟨.inl (s5 hK hv j hj),λe he=>by cases he⟩
        ·obtain⟨e,h1,h2⟩:=fG.1 hq;obtain⟨h3,h4⟩:=yq hlen h2;refine⟨.inr h3,λe' he' j hj=>?_⟩;rw[h1]at he';simp only[Option.some.injEq]at he';subst he';rw[h4]at hj;cases hj
        ·refine⟨.inl (hK k _ hkk).1,λe' he' j hj=>.inr ?_⟩;simp only[Option.some.injEq]at he';subst he';have:=cP j hj;omega
       |pan c _=>
        simp only[il];rintro _;exact⟨λj hj=>(by cases hj),λq hq=>by cases hq⟩
  ·exact λhf=>hf.elim
 loc:=λW bs κ h h' args hside hr=>by
  revert hside hr;unfold mV;split
  ·rename_i x y k;cases hkk:h k with
   |none=>exact λhf=>hf.elim
   | some e=>
    cases e with
    |row T s n vs=>exact λhf=>hf.elim
    |obj d R=>exact λhf=>hf.elim
    | cells T' vs=>
     cases hrr:aC h [x,y] with
     |none=>exact λhf=>hf.elim
     | some q=>
      obtain⟨as_,rs'⟩:=q;simp only[gu];cases hv:aC h vs with
      |none=>exact λhf=>hf.elim
      | some q=>
       obtain⟨fs,rs⟩:=q;simp only[iQ];have key:∀ r:R,(∀ j∈r.reads,h' j=h j)->r.reads=k::(rs++rs')->h' k=some (.cells T' vs)/\aC h' [x,y]=some (as_,rs')/\aC h' vs=some (fs,rs):=λr hr he=>by
        rw[he]at hr;exact⟨by rw[hr k sI,hkk],dw hrr λj hj=>hr j (by simp[hj]),dw hv λj hj=>hr j (by simp[hj])⟩
       intro _ hr;obtain⟨g1,g2,g3⟩:=key _ hr (by cases p.out W fs as_<;>rfl);rw[g1,g2];simp only[gu,g3,iQ]
  ·exact λhf=>hf.elim
theorem My{P:Program}{f:FuncId}(p:yn P f)(W:World)(bs:List Nat)(κ:Nat)(h:Hp)(l:List SV):p.spec.ev W bs κ h l=mV h κ p.T (p.pre W bs) (p.out W) l:=rfl
def amU:=aa @My @FN
def σB3(T:TypeId)(fs:List AV)(x y:Value):St:=⟨1,bm ((2,.is (.own 0 0))::sa [x,y] 0),aY ((0,.cells T (aN 1 fs))::aZ 1 fs)⟩
theorem Ie{w:World}{nt m:Nat}{T:TypeId}{fs:List AV}{u:Value}{fp:List Nat}(x y:Value)(hlen:fs.length<=7)(ho:bC w u fp T fs)(hlt:∀ b∈fp,b<w.heap.size)(hnt:3+m=nt) :
  Sat w fp nt ⟨[],[(0,u)]⟩ (σB3 T fs x y) { tmps:=#[x,y,u]++Array.replicate m undef,defers:=[] } w:=by
 obtain⟨b,vs,rfl,hb,hvs,rfl,hnd⟩:=ho;have hl:=iq hvs;have hb' : b∉wy vs fs:=(List.nodup_cons.1 hnd).1;have hnd' : (wy vs fs).Nodup:=(List.nodup_cons.1 hnd).2;have at' : ∀ j e,aY ((0,.cells T (aN 1 fs))::aZ 1 fs) j=some e->(j=0/\e=.cells T (aN 1 fs))\/(j≠0/\(j,e)∈aZ 1 fs):=λj e he=>by
  simp only[aY]at he;by_cases hj:j=0
  ·subst hj;rw[ak]at he;cases he;exact .inl ⟨rfl,rfl⟩
  ·rw[aq _ _ hj]at he;exact .inr ⟨hj,Bm he⟩
 have e0:iJ 1 vs (λ_=>.pointer (some ⟨b,0,none⟩)) 0=.pointer (some ⟨b,0,none⟩):=jR (.inl oM)
 refine⟨⟨iJ 1 vs (λ_=>.pointer (some ⟨b,0,none⟩)),bu (iF 1 vs fs (λ_=>[])) 0 [b],λt=>?_,⟨λj e he=>?_,λj e he c hc=>?_,λj e he c hc=>?_,λi j e e' hij hi hj c hc=>?_,ah.refl w _⟩,λp hp=>?_⟩,?_,rfl,λp hp=>?_,λt k hk=>?_,λj e he=>?_⟩
 ·show fits _ (bm ((2,.is (.own 0 0))::sa [x,y] 0) t) _;simp only[bm,bu];split
  ·rename_i ht;subst ht;simp only[fits,den,e0,base,dq];rw[Array.getD_eq_getD_getElem?,Array.getElem?_append_left sI];rfl
  ·refine mT _ [x,y] 0 t (λt=>((#[x,y,Value.pointer (some ⟨b,0,none⟩)])++Array.replicate m undef).getD t undef) λj hj=>?_
   have hj' : j<2:=by simpa using hj
   rw[Array.getD_eq_getD_getElem?,Array.getElem?_append_left (by simp;omega)]
   match j,hj' with
   |0,_=>rfl
   |1,_=>rfl
 ·rcases at' j e he with ⟨rfl,rfl⟩|⟨hj,hm⟩
  ·exact⟨b,e0,by rw[ak],by rw[gf hvs];exact hb⟩
  ·rw[aq _ _ hj];exact (iB hvs hm _).1
 ·rcases at' j e he with ⟨rfl,rfl⟩|⟨hj,hm⟩
  ·rw[ak]at hc;exact hlt c (by simp at hc;simp[hc])
  ·rw[aq _ _ hj]at hc;exact hlt c (List.mem_cons_of_mem _ (bN hl hm c hc))
 ·right;rcases at' j e he with ⟨rfl,rfl⟩|⟨hj,hm⟩
  ·rw[ak]at hc;simp at hc;simp[hc]
  ·rw[aq _ _ hj]at hc;exact List.mem_cons_of_mem _ (bN hl hm c hc)
 ·rcases at' i e hi with ⟨rfl,rfl⟩|⟨hi0,hmi⟩
  ·rcases at' j e' hj with ⟨rfl,rfl⟩|⟨hj0,hmj⟩
   ·exact absurd rfl hij
   ·rw[ak]at hc;rw[aq _ _ hj0];simp only[List.mem_singleton]at hc;subst hc;exact λhc' => hb' (bN hl hmj c hc')
  ·rw[aq _ _ hi0]at hc;rcases at' j e' hj with ⟨rfl,rfl⟩|⟨hj0,hmj⟩
   ·rw[ak];intro hc';simp only[List.mem_singleton]at hc';subst hc';exact hb' (bN hl hmi c hc)
   ·rw[aq _ _ hj0];exact gi hnd' hmi hmj hl hij c hc
 ·simp only[List.mem_singleton]at hp;subst hp;exact e0
 ·simp;omega
 ·simp only[List.mem_singleton]at hp;subst hp;show 0 / 8<1;omega
 ·simp only[σB3,bm,bu]at hk;split at hk
  ·simp[FV.keys,SV.keys]at hk;subst hk;show 0 / 8<1;omega
  ·rw[mI]at hk;cases hk
 ·rcases at' j e he with ⟨rfl,rfl⟩|⟨hj,hm⟩
  ·refine⟨by show 0 / 8<1;omega,λi hi=>?_⟩;have:=cP i hi;show i / 8<1;omega
  ·have:=et _ hm;refine⟨by show j / 8<1;simp only at this;omega,λi hi=>?_⟩;rw[this.2.2]at hi;cases hi
theorem mF{P:Program}{f:FuncId}{fn:Func}{c:Code}{w:World}{nt:Nat}{T:TypeId}{u:Value}{fp:List Nat}{fs:List AV}{out:BOut}(x y:Value)(rs:List ResultVar)
  (hlen:fs.length<=7) (ho:bC w u fp T fs) (hlt:∀ b∈fp,b<w.heap.size)
  (hf:P.funcs[f]?=some fn) (hb:fn.body=some c) (hrs:fn.results.toList=rs) (hnt:3+(fn.ntmps-3)=nt)
  (h:Wp P w fp nt ⟨[],[(0,u)]⟩ c (Fin P rs (λ_ _ x h=>∃ v fs',out=.ret v fs' /\ (∀ E,den E x=v)/\∃ vs ks,h 0=some (.cells T vs)/\aC h vs=some (fs',ks)/\(0::ks).Nodup) (λc _=>∃ v,out=.pan c v)) (σB3 T fs x y)) :
  Calls P f #[x,y,u] w λe w' => gM w u fp T e w' out:=by
 subst hrs;have hsat:=Ie (nt:=nt) (m:=fn.ntmps-3) x y hlen ho hlt hnt;refine (jX hf hb hsat h).mono λe w' he=>?_
 cases e with
 | returned v' =>
  obtain⟨W',bs',E,F,x',h',hx,⟨v,fs',rfl,hd,vs,ks,h0,hv,hn⟩,rfl,hs,hp⟩:=he;have hs' := hs.back hx;have hE:E 0=u:=hp (0,u) sI;have ho' := fZ hs' h0 hv hn;rw[hE]at ho';refine⟨by rw[hd E],⟨_,ho',λb hb=>?_,λb hb=>?_⟩,hs'.keeps⟩
  ·obtain⟨j,hj,hbj⟩:=List.mem_flatMap.1 hb;have:∃ e,h' j=some e:=by
    rcases List.mem_cons.1 hj with rfl|hj
    ·exact⟨_,h0⟩
    ·exact (b7 hs' hv).2 j hj
   obtain⟨e,he⟩:=this;exact (hs'.mine j e he b hbj).symm
  ·obtain⟨j,hj,hbj⟩:=List.mem_flatMap.1 hb;have:∃ e,h' j=some e:=by
    rcases List.mem_cons.1 hj with rfl|hj
    ·exact⟨_,h0⟩
    ·exact (b7 hs' hv).2 j hj
   obtain⟨e,he⟩:=this;exact hs'.lt j e he b hbj
 |panicked c=>
  obtain⟨W',bs',E,F,h',hx,⟨_,rfl⟩,hs,hp⟩:=he;exact⟨rfl,(hs.back hx).keeps⟩
 |outgrown=>exact he.elim
section
variable {P:Program}{W:World}{bs:List Nat}{E:Nat->Value}{F:Nat->List Nat}{h:Hp}{w:World}
theorem HT(m:Nat->Src){H:List (Nat×aS)}(hs:ai W bs E F h w)(hh:xD m h H)(hn:(eI m H).Nodup):ai W bs (oa E m) (l9 F m) (aY H) w:=by
 have at' : ∀ k e,aY H k=some e->oF m h k e:=λk e he=>zM hh _ (cB he)
 have key:∀ k e j,aY H k=some e->m k=.key j->h j=some (gA m e):=λk e j he hj=>by
  have:=at' k e he;simpa only[oF,hj] using this
 refine⟨λk e he=>?_,λk e he b hb=>?_,λk e he b hb=>?_,λk k' e e' hne he he' b hb=>?_,hs.keeps⟩
 ·cases hm:m k with
  |key j=>
   simp only[oa,l9,hm];exact yC (hs.ent j _ (key k e j he hm))
  | nil=>
   have:=at' k e he;simp only[oF,hm]at this;cases e with
   |row T s n vs=>
    obtain⟨h0,rfl,rfl⟩:=this;simp only[oa,l9,hm];exact⟨⟨by simp[au],.inl ⟨rfl,rfl⟩⟩,rfl⟩
   |cells T vs=>exact this.elim
   |obj d R=>exact this.elim
 ·cases hm:m k with
  |key j=>simp only[l9,hm]at hb;exact hs.lt j _ (key k e j he hm) b hb
  |nil=>simp only[l9,hm]at hb;cases hb
 ·cases hm:m k with
  |key j=>simp only[l9,hm]at hb;exact hs.mine j _ (key k e j he hm) b hb
  |nil=>simp only[l9,hm]at hb;cases hb
 ·cases hm:m k with
  |nil=>simp only[l9,hm]at hb;cases hb
  | key i=>
   cases hm' : m k' with
   |nil=>simp only[l9,hm'];simp
   |key j=>
    simp only[l9,hm,hm']at hb ⊢;exact hs.apart i j _ _ (r9 hn _ (cB he) _ (cB he') hne i j hm hm') (key k e i he hm) (key k' e' j he' hm') b hb
mutual
theorem AK{m:Nat->Src}{j:Nat}:∀ x:SV,j∈(fL m x).keys->∃ k∈x.keys,m k=.key j
 |.v x,h=>by simp[fL,SV.keys]at h
 |.own k o,h=>by
  simp only[fL]at h;cases hm:m k with
  |key i=>rw[hm]at h;simp[SV.keys]at h;exact⟨k,by simp[SV.keys],by rw[hm,h]⟩
  |nil=>rw[hm]at h;simp[SV.keys]at h
 |.hd k,h=>by
  simp only[fL]at h;cases hm:m k with
  |key i=>rw[hm]at h;simp[SV.keys]at h;exact⟨k,by simp[SV.keys],by rw[hm,h]⟩
  |nil=>rw[hm]at h;simp[SV.keys]at h
 |.agg l,h=>by
  simp only[fL,SV.keys]at h ⊢;exact jJ l h
 |.tup l,h=>by
  simp only[fL,SV.keys]at h ⊢;exact jJ l h
 |.ifc t x,h=>by
  simp only[fL,SV.keys]at h ⊢;exact AK x h
 |.part k i,h=>by
  simp only[fL]at h;cases hm:m k with
  |key i=>rw[hm]at h;simp[SV.keys]at h;exact⟨k,by simp[SV.keys],by rw[hm,h]⟩
  |nil=>rw[hm]at h;simp[SV.keys]at h
 | .fn f a c,h=>by
  simp only[fL,SV.keys,List.mem_append]at h ⊢;rcases h with h|h
  ·obtain⟨k,hk,hm⟩:=jJ a h;exact⟨k,.inl hk,hm⟩
  ·obtain⟨k,hk,hm⟩:=jJ c h;exact⟨k,.inr hk,hm⟩
theorem jJ{m:Nat->Src}{j:Nat}:∀ l:List SV,j∈ay (gz m l)->∃ k∈ay l,m k=.key j
 |[],h=>by simp[gz,ay]at h
 | x::r,h=>by
  simp only[gz,ay,List.mem_append]at h ⊢;rcases h with h|h
  ·obtain⟨k,hk,hm⟩:=AK x h;exact⟨k,.inl hk,hm⟩
  ·obtain⟨k,hk,hm⟩:=jJ r h;exact⟨k,.inr hk,hm⟩
end
theorem Tx{m:Nat->Src}{j:Nat}(e:aS)(h:j∈(gA m e).keys):∃ k∈e.keys,m k=.key j:=by
 cases e with
 |cells T vs=>exact jJ vs h
 |row T s n vs=>exact jJ vs h
 |obj d R=>cases h
theorem F0{m:Nat->Src}{u:Value}{fp:List Nat}{e:aS}(h:a6 (oa E m) u fp w e):a6 E u fp w (gA m e):=by
 cases e with
 |cells T vs=>simpa [a6,gA,gX] using h
 |row T s n vs=>simpa [a6,gA,gX] using h
 |obj d R=>exact h
def rC(κ:Nat)(m:List Nat)(k:Nat):Nat:=if k<8 then m.getD k 0 else 8*κ+(k-8)
def mp(κ:Nat)(m:List Nat)(k:Nat):Src:=.key (rC κ m k)
def fresh(k:Nat):Prop:=8<=k/\k<16
def jV(κ:Nat)(m:List Nat)(h:Hp):List (Nat×aS)->Prop
 |[]=>True
 |(k,e)::r=>h (rC κ m k)=some (gA (mp κ m) e)/\jV κ m h r
def eV(κ:Nat)(m:List Nat):List (Nat×aS)->List Nat
 |[]=>[]
 |(k,_)::r=>rC κ m k::eV κ m r
def gK(κ:Nat)(m:List Nat):List (Nat×aS)->List (Nat×Option aS)
 |[]=>[]
 |(k,e)::r=>(rC κ m k,some (gA (mp κ m) e))::gK κ m r
def qt(κ:Nat)(m:List Nat)(h:Hp)(args args' : List SV)(L L' : List (Nat×aS))(val:SV)(pre:Prop):R:=
 ⟨(args=gz (mp κ m) args' /\ jV κ m h L/\(eV κ m L).Nodup)/\pre,fL (mp κ m) val,eB (eV κ m L)++gK κ m L',none,[],eV κ m L⟩
theorem P2{κ:Nat}{m:List Nat}:∀ {L:List (Nat×aS)},jV κ m h L->xD (mp κ m) h L
 |[],_=>trivial
 |(k,e)::r,hl=>⟨hl.1,P2 hl.2⟩
theorem Hj{κ:Nat}{m:List Nat}:∀ {L:List (Nat×aS)},eI (mp κ m) L=eV κ m L
 |[]=>rfl
 |(k,e)::r=>by
  simp only[eI,eV,mp,List.singleton_append];rw[<- Hj (κ:=κ) (m:=m) (L:=r)]
theorem nC{κ:Nat}{m:List Nat}:∀ {L:List (Nat×aS)} {k:Nat} {e:aS},jV κ m h L->(k,e)∈L->h (rC κ m k)=some (gA (mp κ m) e)
 |(k0,e0)::r,k,e,hl,hm=>by
  rcases List.mem_cons.1 hm with hm|hm
  ·cases hm;exact hl.1
  ·exact nC hl.2 hm
theorem jv{κ:Nat}{m:List Nat}{j:Nat}:∀ {L:List (Nat×aS)},j∈eV κ m L ↔ ∃ p∈L,rC κ m p.1=j
 |[]=>by simp[eV]
 | (k,e)::r=>by
  simp only[eV,List.mem_cons,jv (L:=r)];constructor
  ·rintro (rfl|⟨p,hp,rfl⟩)
   ·exact⟨(k,e),.inl rfl,rfl⟩
   ·exact⟨p,.inr hp,rfl⟩
  ·rintro⟨p,rfl|hp,rfl⟩
   ·exact .inl rfl
   ·exact .inr ⟨p,hp,rfl⟩
theorem C1{κ:Nat}{m:List Nat}:∀ {L:List (Nat×aS)},(eV κ m L).Nodup->∀ p∈L,∀ q∈L,rC κ m p.1=rC κ m q.1->p.1=q.1
 | (k,e)::r,hn,p,hp,q,hq,he=>by
  obtain⟨h1,h2⟩:=List.nodup_cons.1 hn;rcases List.mem_cons.1 hp with rfl|hp'
  ·rcases List.mem_cons.1 hq with rfl|hq'
   ·rfl
   ·exact absurd (jv.2 ⟨q,hq',he.symm⟩) h1
  ·rcases List.mem_cons.1 hq with rfl|hq'
   ·exact absurd (jv.2 ⟨p,hp',he⟩) h1
   ·exact C1 h2 p hp' q hq' he
theorem lx{κ:Nat}{m:List Nat}{q:Nat×Option aS}:∀ {L:List (Nat×aS)},q∈gK κ m L ↔ ∃ p∈L,q=(rC κ m p.1,some (gA (mp κ m) p.2))
 |[]=>by simp[gK]
 | (k,e)::r=>by
  simp only[gK,List.mem_cons,lx (L:=r)];constructor
  ·rintro (rfl|⟨p,hp,rfl⟩)
   ·exact⟨(k,e),.inl rfl,rfl⟩
   ·exact⟨p,.inr hp,rfl⟩
  ·rintro⟨p,rfl|hp,rfl⟩
   ·exact .inl rfl
   ·exact .inr ⟨p,hp,rfl⟩
theorem Og:∀ {L:List (Nat×aS)} {k:Nat} {e:aS},(L.map (·.1)).Nodup->(k,e)∈L->aY L k=some e
 | (k0,e0)::r,k,e,hn,hm=>by
  simp only[List.map_cons,List.nodup_cons]at hn;simp only[aY];rcases List.mem_cons.1 hm with hm|hm
  ·cases hm;rw[ak]
  ·have:k≠k0:=λe' => hn.1 (e' ▸ List.mem_map.2 ⟨_,hm,rfl⟩)
   rw[aq _ _ this];exact Og hn.2 hm
end
structure mr (P:Program)(f:FuncId) where
 args:List SV
 L:List (Nat×aS)
 val:SV
 L' : List (Nat×aS)
 eg:List Nat
 pre:World->List Nat->Prop
 low:∀ p∈L,p.1<8
 kept:∀ k∈eg,∃ e,(k,e)∈L
 vk:∀ k∈val.keys,k∈eg\/fresh k
 lk:∀ p∈L',(p.1∈eg\/fresh p.1)/\∀ k∈p.2.keys,k∈eg\/fresh k
 nd:(L'.map (·.1)).Nodup
 enters:∀ args w,(callFunc f args).run P w=.ok (.enter f args) w
 ok:∀ (W w:World) (bs fp:List Nat) (E:Nat->Value) (F:Nat->List Nat),ah W bs w->(∀ b∈fp,W.heap.size<=b\/b∈bs)->ai w fp E F (aY L) w->pre W bs ->
  Calls P f (au E args).toArray w λe w' => ∃ E' F',e=.returned (den E' val)/\(∀ k∈eg,E' k=E k)/\ai w fp E' F' (aY L') w'
theorem qD{κ k:Nat}{m:List Nat}(h:fresh k):rC κ m k / 8=κ:=by
 obtain⟨h1,h2⟩:=h;unfold rC;rw[if_neg oM];omega
def mr.spec{P:Program}{f:FuncId}(p:mr P f)(m:List Nat):Spec P f where
 ev:=λW bs κ h args=>qt κ m h args p.args p.L p.L' p.val (p.pre W bs)
 good:=λW bs κ E F h w K args hs hK hk hx hside=>by
  rw[p.enters];obtain⟨⟨rfl,hl,hn⟩,hp⟩:=hside;have hmK:∀ k∈p.eg,K (rC κ m k):=λk hk' => by
   obtain⟨e,he⟩:=p.kept k hk';exact (hK _ _ (nC hl he)).1
  have h0:=HT (mp κ m) hs (P2 hl) (by rw[Hj];exact hn);have h1:ai w ((eV κ m p.L).flatMap F) (oa E (mp κ m)) (l9 F (mp κ m)) (aY p.L) w:=⟨h0.ent,h0.lt,λk e he b hb=>.inr (List.mem_flatMap.2 ⟨rC κ m k,jv.2 ⟨_,cB he,rfl⟩,hb⟩),h0.apart,ah.refl w _⟩
  have mine:∀ b∈(eV κ m p.L).flatMap F,W.heap.size<=b\/b∈bs:=λb hb=>by
   obtain⟨j,hj,hbj⟩:=List.mem_flatMap.1 hb;obtain⟨q,hq,rfl⟩:=jv.1 hj;exact hs.mine _ _ (nC hl hq) b hbj
  have S:∀ k,(k∈p.eg\/fresh k)->∀ k',(k' ∈ p.eg\/fresh k')->rC κ m k=rC κ m k' -> k=k' := λk h1 k' h2 he=>by
   rcases h1 with h1|h1
   ·rcases h2 with h2|h2
    ·obtain⟨e,hm⟩:=p.kept k h1;obtain⟨e',hm'⟩:=p.kept k' h2;exact C1 hn _ hm _ hm' he
    ·exact absurd (hmK k h1) (hk _ (by rw[he];exact qD h2))
   ·rcases h2 with h2|h2
    ·exact absurd (hmK k' h2) (hk _ (by rw[<- he];exact qD h1))
    ·obtain⟨a1,a2⟩:=h1;obtain⟨b1,b2⟩:=h2;unfold rC at he;rw[if_neg oM,if_neg oM]at he;omega
  simp only[qt,Good,oh];rw[gX];refine (p.ok W w bs _ _ _ hs.keeps mine h1 hp).mono λe w' he=>?_
  obtain⟨E',F',rfl,hE',hs'⟩:=he
  classical
  let bk:Nat->Option Nat:=λj=>if hj:∃ k,(k∈p.eg\/fresh k)/\rC κ m k=j then some hj.choose else none
  have bk1:∀ k,(k∈p.eg\/fresh k)->bk (rC κ m k)=some k:=λk hk' => by
   have hex:∃ k',(k' ∈ p.eg\/fresh k')/\rC κ m k' = rC κ m k:=⟨k,hk',rfl⟩;have:=hex.choose_spec;simp only[bk,dif_pos hex,Option.some.injEq];exact S _ this.1 _ hk' this.2
  have bk2:∀ j k,bk j=some k->(k∈p.eg\/fresh k)/\rC κ m k=j:=λj k hj=>by
   simp only[bk]at hj;split at hj
   ·rename_i hex;cases hj;exact hex.choose_spec
   ·cases hj
  let E2:Nat->Value:=λj=>match bk j with|some k=>E' k|none=>E j
  let F2:Nat->List Nat:=λj=>match bk j with|some k=>if k∈p.L'.map (·.1) then F' k else F j|none=>F j
  have e2:∀ k,(k∈p.eg\/fresh k)->E2 (rC κ m k)=E' k:=λk hk' => by simp only[E2,bk1 k hk']
  have agree:∀ j,j / 8≠κ->E2 j=E j:=λj hj=>by
   simp only[E2];cases hb:bk j with
   |none=>rfl
   |some k=>
    obtain⟨h2,rfl⟩:=bk2 j k hb;rcases h2 with h2|h2
    ·simp only;rw[hE' k h2];rfl
    ·exact absurd (qD h2) hj
  have src2:∀ k,(k∈p.eg\/fresh k)->oa E2 (mp κ m) k=E' k:=λk hk' => e2 k hk'
  refine⟨trivial,E2,F2,agree,?_,?_⟩
  ·rw[mj];exact mS _ λk hk' => (src2 k (p.vk k hk')).symm
  have hN:∀ j e,ba (λ_=>none) (gK κ m p.L') j=some e->∃ q∈p.L',j=rC κ m q.1/\e=gA (mp κ m) q.2/\bk j=some q.1/\F2 j=F' q.1/\aY p.L' q.1=some q.2:=λj e he=>by
   rcases j8 (λ_=>(none:Option aS)) (k:=j) (u:=gK κ m p.L') with ⟨x,hx,hx'⟩|⟨_,hx'⟩
   ·rw[hx']at he;subst he;obtain⟨q,hq,hqe⟩:=lx.1 hx;simp only[Prod.mk.injEq,Option.some.injEq]at hqe;obtain⟨rfl,rfl⟩:=hqe;have hb:=bk1 q.1 (p.lk q hq).1;exact⟨q,hq,rfl,rfl,hb,by simp only[F2,hb];rw[if_pos (List.mem_map.2 ⟨q,hq,rfl⟩)],Og p.nd hq⟩
   ·rw[hx']at he;cases he
  have hN0:∀ j,ba (λ_=>none) (gK κ m p.L') j=none->F2 j=F j:=λj he=>by
   simp only[F2];cases hb:bk j with
   |none=>rfl
   | some k=>
    simp only;split
    ·rename_i hm;obtain⟨q,hq,rfl⟩:=List.mem_map.1 hm;obtain⟨_,rfl⟩:=bk2 j _ hb;rcases j8 (λ_=>(none:Option aS)) (k:=rC κ m q.1) (u:=gK κ m p.L') with ⟨x,hx,hx'⟩|⟨hx,_⟩
     ·rw[hx']at he;subst he;obtain⟨q',_,hqe⟩:=lx.1 hx;simp at hqe
     ·exact absurd (List.mem_map.2 ⟨_,lx.2 ⟨q,hq,rfl⟩,rfl⟩) hx
    ·rfl
  refine hs.oH hK (eV κ m p.L) (ba (λ_=>none) (gK κ m p.L')) (λj hj=>?_) (λj hj=>agree j λe=>hk j e hj) (λj e he=>?_) (λi j e e' hij hi hj b hb=>?_) (λj x hx hj=>hN0 j hj) (λj=>?_) hs'.keeps
  ·obtain⟨q,hq,rfl⟩:=jv.1 hj;exact⟨_,nC hl hq⟩
  ·obtain⟨q,hq,rfl,rfl,hb,hF,hq'⟩:=hN j e he;rw[hF,e2 q.1 (p.lk q hq).1];refine⟨?_,λb hb=>?_,λb hb=>hs'.lt q.1 _ hq' b hb⟩
   ·refine F0 ?_;exact iS (λk hk' => (src2 k ((p.lk q hq).2 k hk')).symm) (hs'.ent q.1 _ hq')
   ·rcases hs'.mine q.1 _ hq' b hb with g|g
    ·exact .inr g
    ·obtain⟨j,hj,hbj⟩:=List.mem_flatMap.1 g;exact .inl ⟨j,hj,hbj⟩
  ·obtain⟨q,hq,rfl,rfl,_,hF,hq'⟩:=hN i e hi;obtain⟨r,hr,rfl,rfl,_,hF',hr'⟩:=hN j e' hj;rw[hF]at hb;rw[hF'];exact hs'.apart q.1 r.1 _ _ (λe=>hij (by rw[e])) hq' hr' b hb
  ·have hsome:∀ q∈gK κ m p.L',∃ e,q.2=some e:=λq hq=>by
    obtain⟨r,_,rfl⟩:=lx.1 hq;exact⟨_,rfl⟩
   rw[cy,jH _ _ _ hsome,lp];cases ba (λ_=>none) (gK κ m p.L') j with
   |some e=>rfl
   |none=>rfl
 keys:=λW bs κ h K args hK hx hside=>by
  obtain⟨⟨rfl,hl,hn⟩,hp⟩:=hside;have hmK:∀ k,(k∈p.eg\/fresh k)->K (rC κ m k)\/rC κ m k / 8=κ:=λk hk' => by
   rcases hk' with hk'|hk'
   ·obtain⟨e,he⟩:=p.kept k hk';exact .inl (hK _ _ (nC hl he)).1
   ·exact .inr (qD hk')
  refine⟨λj hj=>?_,λq hq=>?_⟩
  ·obtain⟨k,hk,hm⟩:=AK _ hj;cases hm;exact hmK k (p.vk k hk)
  ·rcases List.mem_append.1 hq with hq|hq
   ·simp only[eB,List.mem_map]at hq;obtain⟨j,hj,rfl⟩:=hq;obtain⟨r,hr,rfl⟩:=jv.1 hj;exact⟨.inl (hK _ _ (nC hl hr)).1,λe he=>by cases he⟩
   ·obtain⟨r,hr,rfl⟩:=lx.1 hq;refine⟨hmK _ (p.lk r hr).1,λe he j hj=>?_⟩;simp only[Option.some.injEq]at he;subst he;obtain⟨k,hk,hm⟩:=Tx _ hj;cases hm;exact hmK k ((p.lk r hr).2 k hk)
 loc:=λW bs κ h h' args hside hr=>by
  have:∀ L:List (Nat×aS),(∀ k∈eV κ m L,h' k=h k)->jV κ m h' L=jV κ m h L:=λL=>by
   induction L with
   |nil=>exact λ_=>rfl
   |cons q r ih=>
    intro hq;simp only[jV];rw[hq _ (by simp[eV]),ih λk hk=>hq k (by simp[eV,hk])]
  simp only[qt];rw[this p.L hr]
theorem o8{P:Program}{f:FuncId}(p:mr P f)(m:List Nat)(W:World)(bs:List Nat)(κ:Nat)(h:Hp)(l:List SV):(p.spec m).ev W bs κ h l=qt κ m h l p.args p.L p.L' p.val (p.pre W bs):=rfl
def jU:List SV->Nat->List (Nat×FV)
 |[],_=>[]
 |x::r,i=>(i,.is x)::jU r (i+1)
theorem DS(E:Nat->Value):∀ (l:List SV) (i t:Nat) (tm:Nat->Value),(∀ j (h:j<(au E l).length),tm (i+j)=(au E l)[j])->fits E (bm (jU l i) t) (tm t)
 |[],_,_,_,_=>trivial
 | x::r,i,t,tm,h=>by
  simp only[jU,bm,bu];split
  ·rename_i ht;subst ht;have:=h 0 (by simp[au]);simpa [fits,au] using this
  ·exact DS E r (i+1) t tm λj hj=>by
    have:=h (j+1) (by simp only[au,List.length_cons];omega);rw[show i+1+j=i+(j+1) by omega];simpa [au] using this
def OO(eg:List Nat)(val:SV)(L' : List (Nat×aS))(x:SV)(h:Hp):Prop:=∃ m:Nat->Src,x=fL m val/\xD m h L' /\ (eI m L').Nodup/\∀ k∈eg,m k=.key k
theorem iA{P:Program}{f:FuncId}{fn:Func}{c:Code}{w:World}{fp:List Nat}{E:Nat->Value}{F:Nat->List Nat}{nt:Nat}{eg:List Nat}{args:List SV}{L L' : List (Nat×aS)}{val:SV}(rs:List ResultVar)
  (hs:ai w fp E F (aY L) w) (hkb:pU 1 (jU args 0) L) (hkp:∀ k∈eg,k<8)
  (hf:P.funcs[f]?=some fn) (hb:fn.body=some c) (hrs:fn.results.toList=rs) (hnt:args.length+(fn.ntmps-args.length)=nt)
  (h:Wp P w fp nt ⟨[],eg.map λk=>(k,E k)⟩ c (Fin P rs (λ_ _ x h' => OO eg val L' x h') (λ_ _=>False)) ⟨1,bm (jU args 0),aY L⟩) :
  Calls P f (au E args).toArray w λe w' => ∃ E' F',e=.returned (den E' val)/\(∀ k∈eg,E' k=E k)/\ai w fp E' F' (aY L') w' := by
 subst hrs;have hsz:(au E args).toArray.size=args.length:=by simp[aD]
 have hsat:Sat w fp nt ⟨[],eg.map λk=>(k,E k)⟩ ⟨1,bm (jU args 0),aY L⟩ { tmps:=(au E args).toArray++Array.replicate (fn.ntmps-(au E args).toArray.size) undef,defers:=[] } w:=by
  refine⟨⟨E,F,λt=>?_,hs,λp hp=>?_⟩,by simp[aD];omega,rfl,λp hp=>?_,λt k hk=>?_,λk e he=>?_⟩
  ·refine DS E args 0 t (λt=>((au E args).toArray++Array.replicate (fn.ntmps-(au E args).toArray.size) undef).getD t undef) λj hj=>?_
   rw[Nat.zero_add,Array.getD_eq_getD_getElem?,Array.getElem?_append_left (by simpa using hj)];simp[List.getElem?_eq_getElem hj]
  ·obtain⟨k,_,rfl⟩:=List.mem_map.1 hp;rfl
  ·obtain⟨k,hk,rfl⟩:=List.mem_map.1 hp;have:=hkp k hk;show k / 8<1;omega
  ·rcases jL (L:=jU args 0) t with g|⟨p,hp,_,g⟩
   ·simp only[g]at hk;cases hk
   ·simp only[g]at hk;exact hkb.1 p hp k hk
  ·exact hkb.2 _ (cB he)
 refine (jX hf hb hsat h).mono λe w' he=>?_
 cases e with
 |returned v=>
  obtain⟨W',bs',E1,F1,x,h',hx,⟨m,rfl,hle,hn,hm⟩,rfl,hs1,hp⟩:=he;refine⟨oa E1 m,l9 F1 m,by rw[mj],λk hk=>?_,HT m (hs1.back hx) hle hn⟩;simp only[oa,hm k hk];exact hp (k,E k) (List.mem_map.2 ⟨k,hk,rfl⟩)
 |panicked c=>obtain⟨_,_,_,_,_,_,hf,_⟩:=he;exact hf.elim
 |outgrown=>exact he.elim
end
end Go.LE
namespace Go.Proofs.YtnemkecffmdlnaaGreatDoor
section
open Go.RowKit Go.LE
def kp:=(aj (ml (aa @if_true.{1} @if_false.{1}) (aa @List.toList_toArray.{0} @Option.isNone_none.{0}) (aa @Option.isNone_some.{0} @Option.isSome_none.{0}) (aa @Option.isSome_some.{0} @and_true) (aa @true_and @and_self) (aa @true_imp_iff @forall_const.{1})) (ml (aa @forall_const.{0} @List.append_nil.{0}) (aa @List.nil_append.{0} @List.cons_append.{0}) (aa @cond_true.{1} @cond_false.{1}) (aa @List.map_cons.{0,0} @List.map_nil.{0,0}) (aa @Bool.true_and @Bool.and_true) (aa @beq_false @beq_true)) (ml (aa @imp_self @implies_true.{1}) (aa @implies_true.{0} @Bool.cond_self.{1}) (aa @Option.bind_some.{0,0} @List.getElem?_toArray.{0}) (aa @List.getElem?_cons_zero.{0} @List.getElem?_cons_succ.{0}) (aa @List.length_cons.{0} @List.length_nil.{0}) (aa @List.getD_cons_zero.{0} @List.getD_cons_succ.{0})) (ml (aa @List.take_succ_cons.{0} @List.take_zero.{0}) (aa @List.drop_succ_cons.{0} @List.drop_zero.{0}) (aa @List.zip_cons_cons.{0,0} @List.zip_nil_right.{0,0}) (aa @Option.getD_some.{0} @List.all_cons.{0}) (aa @List.all_nil.{0} @Bool.cond_true_left) (aa @Bool.cond_false_right @Bool.cond_true_right)) (ml (aa @Bool.cond_false_left ev1) (aa ev2 ev3) (aa ev4 ev5) (aa ev6 ev7) (aa ev8 ev9) (aa @Option.map_some.{0,0} @List.not_mem_nil.{0})) (ml (aa @Int.toNat_natCast @Option.toArray_none.{0}) (aa @Option.toArray_some.{0} @List.append_toArray.{0}) (aa @Nat.add_zero @Nat.zero_add) (aa @decide_true @decide_false) (aa @Bool.not_true @Bool.not_false) (aa @List.flatten_cons.{0} @List.flatten_nil.{0})) (ml (aa @List.isEmpty_nil.{0} @ne_eq.{1}) (aa @not_true_eq_false @not_false_eq_true) (aa @Nat.mul_one @Nat.one_mul) (aa @Nat.zero_mul @Nat.sub_zero) (aa @CF @Array.getD_eq_getD_getElem?.{0}) (aa @List.size_toArray.{0} @akL)) (aj @amo am2 am3 @Option.map_none.{0,0} amC amx amI amU))
theorem ev{e p:Prop}(he:e)(h:e->p:=by intro he;simp only[kp,Op.operands,Value.cells,σ0,σB,Nat.reduceEqDiff,Nat.reduceAdd,Nat.reduceMul,Nat.reduceLT,Nat.reduceLeDiff,Nat.reduceBEq,av,Int.reduceToNat,Int.reduceLT,Int.reduceLE,Nat.reduceDiv,Nat.reduceMod,Nat.reduceSub,Int.reducePow,Nat.reducePow,σP,σB3,he];exact rfl):p:=h he
section
variable {W:World}{bs:List Nat}{nt:Nat}{ds:Aux}{Q:me}{σ:St}{e q:Prop}{id:Nat}{ops:Array Oper}{y:Code}{side:Prop}{n:Nat}{φ:Fr}{h:Hp}{pans:List (Option (List PanicEntry))}{lost:List Nat}{fx:List (List Nat×List Nat)}
theorem wR(Γ:Env Tryz.prog)(he:e)(hs:side)(hQ:Wp Tryz.prog W bs nt ds y Q ⟨n,φ,h⟩)(hg:e->oU Γ W bs nt ops ops.toList σ.n σ.φ σ.h=⟨side,n,φ,h,pans,lost,fx⟩:=by intro he;simp only[kp,Op.operands,Value.cells,σ0,σB,Nat.reduceEqDiff,Nat.reduceAdd,Nat.reduceMul,Nat.reduceLT,Nat.reduceLeDiff,Nat.reduceBEq,av,Int.reduceToNat,Int.reduceLT,Int.reduceLE,Nat.reduceDiv,Nat.reduceMod,Nat.reduceSub,Int.reducePow,Nat.reducePow,σP,σB3,he];exact rfl)(hp:pans.all Option.isNone=true:=by rfl):Wp Tryz.prog W bs nt ds (.seq (.region id ops false) y) Q σ:=Wp.pn Γ cj (hg he) hp hs hQ
theorem vR(Γ:Env Tryz.prog)(he:e)(hQ:Wp Tryz.prog W bs nt ds y Q ⟨n,φ,h⟩)(hg:e->oU Γ W bs nt ops ops.toList σ.n σ.φ σ.h=⟨side,n,φ,h,pans,lost,fx⟩:=by intro he;simp only[kp,Op.operands,Value.cells,σ0,σB,Nat.reduceEqDiff,Nat.reduceAdd,Nat.reduceMul,Nat.reduceLT,Nat.reduceLeDiff,Nat.reduceBEq,av,Int.reduceToNat,Int.reduceLT,Int.reduceLE,Nat.reduceDiv,Nat.reduceMod,Nat.reduceSub,Int.reducePow,Nat.reducePow,σP,σB3,he];exact rfl)(hp:pans.all Option.isNone=true:=by rfl)(hs:side:=by first|trivial|omega|exact⟨_,rfl⟩|(simp;done)|(unfold maxLen;omega)|(simp<;>omega)|(simp<;>unfold maxLen<;>omega)):Wp Tryz.prog W bs nt ds (.seq (.region id ops false) y) Q σ:=Wp.pn Γ cj (hg he) hp hs hQ
theorem wr(Γ:Env Tryz.prog)(he:e)(hs:side)(hQ:q)(hg:e->oU Γ W bs nt ops ops.toList σ.n σ.φ σ.h=⟨side,n,φ,h,pans,lost,fx⟩:=by intro he;simp only[kp,Op.operands,Value.cells,σ0,σB,Nat.reduceEqDiff,Nat.reduceAdd,Nat.reduceMul,Nat.reduceLT,Nat.reduceLeDiff,Nat.reduceBEq,av,Int.reduceToNat,Int.reduceLT,Int.reduceLE,Nat.reduceDiv,Nat.reduceMod,Nat.reduceSub,Int.reducePow,Nat.reducePow,σP,σB3,he];exact rfl)(hp:pans.all Option.isNone=true:=by rfl)(t:q->Q .normal W bs ⟨n,φ,h⟩:=by intro hq;(with_reducible repeat (first|refine gq ?_|refine gC ?_|refine kU ?_|refine kM ?_|refine fc (by decide) ?_|refine n7 ?_|refine nO ?_|refine iZ ?_|refine jd ?_));exact hq):Wp Tryz.prog W bs nt ds (.region id ops false) Q σ:=Wp.Gu Γ cj (hg he) hp hs (t hQ)
theorem vr(Γ:Env Tryz.prog)(he:e)(hQ:q)(hg:e->oU Γ W bs nt ops ops.toList σ.n σ.φ σ.h=⟨side,n,φ,h,pans,lost,fx⟩:=by intro he;simp only[kp,Op.operands,Value.cells,σ0,σB,Nat.reduceEqDiff,Nat.reduceAdd,Nat.reduceMul,Nat.reduceLT,Nat.reduceLeDiff,Nat.reduceBEq,av,Int.reduceToNat,Int.reduceLT,Int.reduceLE,Nat.reduceDiv,Nat.reduceMod,Nat.reduceSub,Int.reducePow,Nat.reducePow,σP,σB3,he];exact rfl)(hp:pans.all Option.isNone=true:=by rfl)(hs:side:=by first|trivial|omega|exact⟨_,rfl⟩|(simp;done)|(unfold maxLen;omega)|(simp<;>omega)|(simp<;>unfold maxLen<;>omega))(t:q->Q .normal W bs ⟨n,φ,h⟩:=by intro hq;(with_reducible repeat (first|refine gq ?_|refine gC ?_|refine kU ?_|refine kM ?_|refine fc (by decide) ?_|refine n7 ?_|refine nO ?_|refine iZ ?_|refine jd ?_));exact hq):Wp Tryz.prog W bs nt ds (.region id ops false) Q σ:=Wp.Gu Γ cj (hg he) hp hs (t hQ)
theorem lf(Γ:Env Tryz.prog)(he:e)(hs:side)(hQ:Wp Tryz.prog W bs nt ds y Q ⟨n,φ,h⟩)(hg:e->oU Γ W bs nt ops ops.toList σ.n σ.φ σ.h=⟨side,n,φ,h,pans,lost,fx⟩:=by intro he;simp only[kp,Op.operands,Value.cells,σ0,σB,Nat.reduceEqDiff,Nat.reduceAdd,Nat.reduceMul,Nat.reduceLT,Nat.reduceLeDiff,Nat.reduceBEq,av,Int.reduceToNat,Int.reduceLT,Int.reduceLE,Nat.reduceDiv,Nat.reduceMod,Nat.reduceSub,Int.reducePow,Nat.reducePow,σP,σB3,he];exact rfl)(hp:pans.all Option.isNone=true:=by rfl)(hd:(oG ops&&oK ops fx)=true:=by kernel_rfl):Wp Tryz.prog W bs nt ds (.seq (.region id ops true) y) Q σ:=Wp.ahX Γ cj (hg he) hp hd hs hQ
theorem Qw(Γ:Env Tryz.prog)(he:e)(hQ:Wp Tryz.prog W bs nt ds y Q ⟨n,φ,h⟩)(hg:e->oU Γ W bs nt ops ops.toList σ.n σ.φ σ.h=⟨side,n,φ,h,pans,lost,fx⟩:=by intro he;simp only[kp,Op.operands,Value.cells,σ0,σB,Nat.reduceEqDiff,Nat.reduceAdd,Nat.reduceMul,Nat.reduceLT,Nat.reduceLeDiff,Nat.reduceBEq,av,Int.reduceToNat,Int.reduceLT,Int.reduceLE,Nat.reduceDiv,Nat.reduceMod,Nat.reduceSub,Int.reducePow,Nat.reducePow,σP,σB3,he];exact rfl)(hp:pans.all Option.isNone=true:=by rfl)(hd:(oG ops&&oK ops fx)=true:=by kernel_rfl)(hs:side:=by first|trivial|omega|exact⟨_,rfl⟩|(simp;done)|(unfold maxLen;omega)|(simp<;>omega)|(simp<;>unfold maxLen<;>omega)):Wp Tryz.prog W bs nt ds (.seq (.region id ops true) y) Q σ:=Wp.ahX Γ cj (hg he) hp hd hs hQ
theorem vZ(Γ:Env Tryz.prog)(he:e)(hs:side)(hQ:q)(hg:e->oU Γ W bs nt ops ops.toList σ.n σ.φ σ.h=⟨side,n,φ,h,pans,lost,fx⟩:=by intro he;simp only[kp,Op.operands,Value.cells,σ0,σB,Nat.reduceEqDiff,Nat.reduceAdd,Nat.reduceMul,Nat.reduceLT,Nat.reduceLeDiff,Nat.reduceBEq,av,Int.reduceToNat,Int.reduceLT,Int.reduceLE,Nat.reduceDiv,Nat.reduceMod,Nat.reduceSub,Int.reducePow,Nat.reducePow,σP,σB3,he];exact rfl)(hp:pans.all Option.isNone=true:=by rfl)(hd:(oG ops&&oK ops fx)=true:=by kernel_rfl)(t:q->Q .normal W bs ⟨n,φ,h⟩:=by intro hq;(with_reducible repeat (first|refine gq ?_|refine gC ?_|refine kU ?_|refine kM ?_|refine fc (by decide) ?_|refine n7 ?_|refine nO ?_|refine iZ ?_|refine jd ?_));exact hq):Wp Tryz.prog W bs nt ds (.region id ops true) Q σ:=Wp.abW Γ cj (hg he) hp hd hs (t hQ)
theorem vrD(Γ:Env Tryz.prog)(he:e)(hQ:q)(hg:e->oU Γ W bs nt ops ops.toList σ.n σ.φ σ.h=⟨side,n,φ,h,pans,lost,fx⟩:=by intro he;simp only[kp,Op.operands,Value.cells,σ0,σB,Nat.reduceEqDiff,Nat.reduceAdd,Nat.reduceMul,Nat.reduceLT,Nat.reduceLeDiff,Nat.reduceBEq,av,Int.reduceToNat,Int.reduceLT,Int.reduceLE,Nat.reduceDiv,Nat.reduceMod,Nat.reduceSub,Int.reducePow,Nat.reducePow,σP,σB3,he];exact rfl)(hp:pans.all Option.isNone=true:=by rfl)(hd:(oG ops&&oK ops fx)=true:=by kernel_rfl)(hs:side:=by first|trivial|omega|exact⟨_,rfl⟩|(simp;done)|(unfold maxLen;omega)|(simp<;>omega)|(simp<;>unfold maxLen<;>omega))(t:q->Q .normal W bs ⟨n,φ,h⟩:=by intro hq;(with_reducible repeat (first|refine gq ?_|refine gC ?_|refine kU ?_|refine kM ?_|refine fc (by decide) ?_|refine n7 ?_|refine nO ?_|refine iZ ?_|refine jd ?_));exact hq):Wp Tryz.prog W bs nt ds (.region id ops true) Q σ:=Wp.abW Γ cj (hg he) hp hd hs (t hQ)
theorem wK(hQ:q)(t:q->Q .normal W bs σ:=by intro hq;(with_reducible repeat (first|refine gq ?_|refine gC ?_|refine kU ?_|refine kM ?_|refine fc (by decide) ?_|refine n7 ?_|refine nO ?_|refine iZ ?_|refine jd ?_));exact hq):Wp Tryz.prog W bs nt ds .skip Q σ:=Wp.skip (t hQ)
theorem wE{i:Nat}(hQ:q)(t:q->Q (.exit i) W bs σ:=by intro hq;(with_reducible repeat (first|refine gq ?_|refine gC ?_|refine kU ?_|refine kM ?_|refine fc (by decide) ?_|refine n7 ?_|refine nO ?_|refine iZ ?_|refine jd ?_));exact hq):Wp Tryz.prog W bs nt ds (.exit i) Q σ:=Wp.exit (t hQ)
theorem wT(hQ:q)(t:q->Q .ret W bs σ:=by intro hq;(with_reducible repeat (first|refine gq ?_|refine gC ?_|refine kU ?_|refine kM ?_|refine fc (by decide) ?_|refine n7 ?_|refine nO ?_|refine iZ ?_|refine jd ?_));exact hq):Wp Tryz.prog W bs nt ds .ret Q σ:=Wp.ret (t hQ)
theorem wZ(he:e)(hQ:q)(t:e->q->Q .ret W bs σ:=by intro he;intro hq;(with_reducible repeat (first|refine gq ?_|refine gC ?_|refine kU ?_|refine kM ?_|refine fc (by decide) ?_|refine n7 ?_|refine nO ?_|refine iZ ?_|refine jd ?_));simp only[kp,Op.operands,Value.cells,σ0,σB,Nat.reduceEqDiff,Nat.reduceAdd,Nat.reduceMul,Nat.reduceLT,Nat.reduceLeDiff,Nat.reduceBEq,av,Int.reduceToNat,Int.reduceLT,Int.reduceLE,Nat.reduceDiv,Nat.reduceMod,Nat.reduceSub,Int.reducePow,Nat.reducePow,σP,σB3,qE,jC,np,lz,he];exact hq):Wp Tryz.prog W bs nt ds .ret Q σ:=Wp.ret (t he hQ)
end
theorem wC{W:World}{bs:List Nat}{nt:Nat}{ds:Aux}{Q:me}{σ:St}{e:Prop}{c:Operand}{x y:Code}{b:Bool}{p:Prop}(he:e)(ht:b=true->Wp Tryz.prog W bs nt ds x Q σ)(hf:b=false->Wp Tryz.prog W bs nt ds y Q σ)(hc:e->nL σ.φ true c=(p,.v (.bool b)):=by intro he;simp only[kp,Op.operands,Value.cells,σ0,σB,Nat.reduceEqDiff,Nat.reduceAdd,Nat.reduceMul,Nat.reduceLT,Nat.reduceLeDiff,Nat.reduceBEq,av,Int.reduceToNat,Int.reduceLT,Int.reduceLE,Nat.reduceDiv,Nat.reduceMod,Nat.reduceSub,Int.reducePow,Nat.reducePow,σP,σB3,he];exact rfl)(hp:p:=by trivial):Wp Tryz.prog W bs nt ds (.cond c x y) Q σ:=Wp.cond (hc he) hp ht hf
theorem wM{W:World}{bs:List Nat}{nt:Nat}{ds:Aux}{σ:St}{e:Prop}(m:Nat->Go.LE.Src)(he:e){n' : Nat}{L:List (Nat×FV)}{H:List (Nat×aS)}(hk:pU n' L H:=by exact⟨by simp[FV.keys,SV.keys,ay],by simp[aS.keys,ay,SV.keys,aB,aT]⟩)(hf:e->LD m σ.φ L:=by intro he;simp only[kp,Op.operands,Value.cells,σ0,σB,Nat.reduceEqDiff,Nat.reduceAdd,Nat.reduceMul,Nat.reduceLT,Nat.reduceLeDiff,Nat.reduceBEq,av,Int.reduceToNat,Int.reduceLT,Int.reduceLE,Nat.reduceDiv,Nat.reduceMod,Nat.reduceSub,Int.reducePow,Nat.reducePow,σP,σB3,LD,LC,fL,bS,he]<;>trivial)(hh:e->xD m σ.h H:=by intro he;simp only[kp,Op.operands,Value.cells,σ0,σB,Nat.reduceEqDiff,Nat.reduceAdd,Nat.reduceMul,Nat.reduceLT,Nat.reduceLeDiff,Nat.reduceBEq,av,Int.reduceToNat,Int.reduceLT,Int.reduceLE,Nat.reduceDiv,Nat.reduceMod,Nat.reduceSub,Int.reducePow,Nat.reducePow,σP,σB3,xD,oF,gA,fV,gz,fL,he]<;>trivial)(hn:(eI m H).Nodup:=by simp[eI])(hpn:∀ p∈ds.pins,m p.1=.key p.1/\p.1 / 8<n' := by simp):Le W bs nt ds σ ⟨n',bm L,aY H⟩:=Le.mk m hk (hf he) (hh he) hn hpn
theorem wN{e:Prop}{eg:List Nat}{val x:SV}{L' : List (Nat×aS)}{h:Hp}(m:Nat->Go.LE.Src)(he:e)(hv:e->x=fL m val:=by intro he;first|rfl|simp only[kp,Op.operands,Value.cells,σ0,σB,Nat.reduceEqDiff,Nat.reduceAdd,Nat.reduceMul,Nat.reduceLT,Nat.reduceLeDiff,Nat.reduceBEq,av,Int.reduceToNat,Int.reduceLT,Int.reduceLE,Nat.reduceDiv,Nat.reduceMod,Nat.reduceSub,Int.reducePow,Nat.reducePow,σP,σB3,fL,gz,he])(hh:e->xD m h L' := by intro he;simp only[kp,Op.operands,Value.cells,σ0,σB,Nat.reduceEqDiff,Nat.reduceAdd,Nat.reduceMul,Nat.reduceLT,Nat.reduceLeDiff,Nat.reduceBEq,av,Int.reduceToNat,Int.reduceLT,Int.reduceLE,Nat.reduceDiv,Nat.reduceMod,Nat.reduceSub,Int.reducePow,Nat.reducePow,σP,σB3,xD,oF,gA,fV,gz,fL,he]<;>trivial)(hn:(eI m L').Nodup:=by simp[eI])(hk:∀ k∈eg,m k=.key k:=by simp):OO eg val L' x h:=⟨m,hv he,hh he,hn,hk⟩
theorem wS{e p q:Prop}(he:e)(h:q)(t:e->q->p:=by intro he hq;simp only[kp,Op.operands,Value.cells,σ0,σB,Nat.reduceEqDiff,Nat.reduceAdd,Nat.reduceMul,Nat.reduceLT,Nat.reduceLeDiff,Nat.reduceBEq,av,Int.reduceToNat,Int.reduceLT,Int.reduceLE,Nat.reduceDiv,Nat.reduceMod,Nat.reduceSub,Int.reducePow,Nat.reducePow,σP,σB3,qE,jC,np,lz,he];exact hq):p:=t he h
theorem qq{p q:Prop}(h:q)(t:q->p:=by intro hq;(with_reducible repeat (first|refine gq ?_|refine gC ?_|refine kU ?_|refine kM ?_|refine fc (by decide) ?_|refine n7 ?_|refine nO ?_|refine iZ ?_|refine jd ?_));exact hq):p:=t h
theorem oo{p:Prop}(h:p:=by first|trivial|omega|exact⟨_,rfl⟩|(simp;done)|(unfold maxLen;omega)|(simp<;>omega)|(simp<;>unfold maxLen<;>omega)):p:=h
theorem wW{x y:Int}(h0:-9223372036854775808<=x:=by omega)(h1:x<=9223372036854775807:=by omega)(h:x=y:=by omega):IntKind.i64.wrap x=y:=(ae h0 h1).trans h
end
section
inductive Rx where
 |eps
 |cls (S:BitVec 256)
 |cat (a b:Rx)
 |alt (a b:Rx)
 |star (a:Rx)
 |and (a b:Rx)
 |minus (a b:Rx)
abbrev RL:=Nat×Rx
def cG(n:Nat):Nat:=min n 2001
def aX(mk:Rx->Rx->Rx)(a b:RL):RL:=(cG (1+a.1+b.1),mk a.2 b.2)
def bY(t:Rx):RL:=(1,t)
def gm(a:RL):RL:=(cG (1+a.1),.star a.2)
def bL(a:RL):RL:=aX .alt a (bY .eps)
def bH(f:RL->RL):Nat->RL->RL
 |0,x=>x
 |n+1,x=>bH f n (f x)
def dA(a:RL)(m n:Int):RL:=
 if m=0/\n<0 then gm a
 else if m=0/\n=0 then bY .eps
 else if n<0 then aX .cat (bH (λx=>aX .cat x a) (m-1).toNat (if m=0 then bL a else a)) (gm a)
 else bH (λx=>aX .cat x (bL a)) (n-max m 1).toNat (bH (λx=>aX .cat x a) (m-1).toNat (if m=0 then bL a else a))
section
variable (c:Int->Int)(N:Int)(rd:Int->Except (Int×Int) (BitVec 256×Int))
def jT:Nat->Int->Int->Int×Int
 |0,n,i=>(n,i)
 |k+1,n,i=>if i<N/\48<=c i/\c i<=57 then jT k (10*n+(c i-48)) (i+1) else (n,i)
def iL(i:Int):Except (Int×Int) (Int×Int):=
 if (jT c N 3 0 i).2=i then .error (20,i) else .ok (jT c N 3 0 i)
def A7(m j:Int):Except (Int×Int) (Int×Int):=
 if j<N/\c j=44 then (if ¬ j+1<N\/c (j+1)≠125 then iL c N (j+1) else .ok (-1,j+1)) else .ok (m,j)
def nG(m n j i:Int):Except (Int×Int) (Int×Int×Int):=
 if ¬ j<N\/c j≠125 then .error (20,j)
 else if 255<m\/255<n\/(0<=n/\n<m) then .error (22,i)
 else .ok (m,n,j+1)
def ot(i:Int):Except (Int×Int) (Int×Int×Int):=
 match iL c N (i+1) with
 |.error e=>.error e
 |.ok (m,j)=>match A7 c N m j with
  |.error e=>.error e
  |.ok (n,j)=>nG c N m n j i
def ju:Nat->RL->Int->Except (Int×Int) (RL×Int)
 |0,r,i=>.ok (r,i)
 | f+1,r,i=>
  if ¬ i<N then .ok (r,i)
  else if c i=42 then ju f (gm r) (i+1)
  else if c i=43 then ju f (aX .cat r (gm r)) (i+1)
  else if c i=63 then ju f (bL r) (i+1)
  else if c i=123 then
   match ot c N i with
   |.error e=>.error e
   |.ok (m,n,j)=>ju f (dA r m n) j
  else .ok (r,i)
def vm(o:Option RL):RL:=o.getD (bY .eps)
def yF(o:Option RL)(p:RL):RL:=match o with
 |none=>p
 |some x=>aX .cat x p
def gN(x:Int):Prop:=x=124\/x=38\/x=45\/x=41
def br(x:Int):Prop:=x=42\/x=43\/x=63\/x=123
instance (x:Int):Decidable (gN x):=by unfold gN;infer_instance
instance (x:Int):Decidable (br x):=by unfold br;infer_instance
def fj(atom:Int->Except (Int×Int) (RL×Int)):Nat->Option RL->Int->Except (Int×Int) (RL×Int)
 |0,o,i=>.ok (vm o,i)
 | f+1,o,i=>
  if ¬ i<N then .ok (vm o,i)
  else if gN (c i) then .ok (vm o,i)
  else if br (c i) then .error (20,i)
  else match atom i with
   |.error e=>.error e
   |.ok (a,j)=>match ju c N (N.toNat+1) a j with
    |.error e=>.error e
    |.ok (p,k)=>fj atom f (some (yF o p)) k
def lS(row:Int->Except (Int×Int) (RL×Int)):Nat->RL->Int->Except (Int×Int) (RL×Int)
 |0,o,i=>.ok (o,i)
 | f+1,o,i=>
  if ¬ i<N then .ok (o,i)
  else if c i=38 then match row (i+1) with
   |.error e=>.error e
   |.ok (r,j)=>lS row f (aX .and o r) j
  else if c i=45 then match row (i+1) with
   |.error e=>.error e
   |.ok (r,j)=>lS row f (aX .minus o r) j
  else .ok (o,i)
def lG(row:Int->Except (Int×Int) (RL×Int))(i:Int):Except (Int×Int) (RL×Int):=
 match row i with
 |.error e=>.error e
 |.ok (r,j)=>lS c N row (N.toNat+1) r j
def Bi(meet:Int->Except (Int×Int) (RL×Int)):Nat->RL->Int->Except (Int×Int) (RL×Int)
 |0,o,i=>.ok (o,i)
 | f+1,o,i=>
  if i<N/\c i=124 then match meet (i+1) with
   |.error e=>.error e
   |.ok (r,j)=>Bi meet f (aX .alt o r) j
  else .ok (o,i)
def akq(meet:Int->Except (Int×Int) (RL×Int))(i:Int):Except (Int×Int) (RL×Int):=
 match meet i with
 |.error e=>.error e
 |.ok (r,j)=>Bi c N meet (N.toNat+1) r j
def xO(atom:Int->Except (Int×Int) (RL×Int)):Int->Except (Int×Int) (RL×Int):=
 akq c N (lG c N (fj c N atom (N.toNat+1) none))
def sC(i:Int):Except (Int×Int) (RL×Int):=match rd i with
 |.error e=>.error e
 |.ok (S,j)=>.ok (bY (.cls S),j)
def vE(i:Int):Except (Int×Int) (RL×Int)->Except (Int×Int) (RL×Int)
 |.error e=>.error e
 |.ok (r,j)=>if ¬ j<N then .error (21,i) else .ok (r,j+1)
def bx:Nat->Int->Except (Int×Int) (RL×Int)
 |0,i=>if c i=40 then .error (23,i) else sC rd i
 |n+1,i=>if c i=40 then vE N i (xO c N (bx n) (i+1)) else sC rd i
def alts(n:Nat):Int->Except (Int×Int) (RL×Int):=xO c N (bx c N rd n)
def Ul:Except (Int×Int) (RL×Int)->Except (Int×Int) Rx
 |.error e=>.error e
 |.ok (r,j)=>if j<N then .error (20,j) else if 2000<r.1 then .error (24,0) else .ok r.2
def AA:Except (Int×Int) Rx:=if 1048576<N then .error (1,0) else Ul N (alts c N rd 1000 0)
end
end
section
inductive RT where
 |eps
 |cls (S:BitVec 256)
 |cat (a b:RT)
 |alt (a b:RT)
 |and (a b:RT)
 |minus (a b:RT)
 |rep (a:RT) (m n:Int)
def du(x:Rx)(m:Int)(k:Int):Rx:=if k<m then x else .alt x .eps
def dP(x:Rx)(m:Int):Nat->Int->Rx->Rx
 |0,_,w=>w
 |n+1,k,w=>dP x m n (k+1) (.cat w (du x m k))
def cA(m:Int):Int:=if m=-2 then 1 else m
def da(x:Rx)(m n:Int):Rx:=
 if n<0/\cA m=0 then .star x
 else if n=0 then .eps
 else if n<0 then .cat (dP x (cA m) (cA m-1).toNat 1 (du x (cA m) 0)) (.star x)
 else dP x (cA m) (n-1).toNat 1 (du x (cA m) 0)
def dG(a m n:Int):Int:=
 if m=-2 then a+1+a+1
 else if n<0/\m=0 then a+1
 else if n<0 then m*a+m-1+1+a+1
 else if n=0 then 1
 else if m=0 then n*(a+2)+n-1
 else m*a+m-1+(n-m)*(a+2+1)
def RT.expand:RT->Rx
 |.eps=>.eps
 |.cls S=>.cls S
 |.cat a b=>.cat a.expand b.expand
 |.alt a b=>.alt a.expand b.expand
 |.and a b=>.and a.expand b.expand
 |.minus a b=>.minus a.expand b.expand
 |.rep a m n=>da a.expand m n
def RT.sz:RT->Nat
 |.eps=>1
 |.cls S=>1
 |.cat a b=>cG (1+a.sz+b.sz)
 |.alt a b=>cG (1+a.sz+b.sz)
 |.and a b=>cG (1+a.sz+b.sz)
 |.minus a b=>cG (1+a.sz+b.sz)
 |.rep a m n=>cG (dG a.sz m n).toNat
def RT.val(t:RT):RL:=(t.sz,t.expand)
theorem kW(n:Nat):cG n<=2001:=by unfold cG;omega
theorem MJ(a b:Nat):cG (1+cG a+b)=cG (1+a+b):=by unfold cG;omega
theorem NJ(a b:Nat):cG (1+a+cG b)=cG (1+a+b):=by unfold cG;omega
theorem ED{n:Nat}(h:n<=2001):cG n=n:=by unfold cG;omega
theorem nw(y:RL):∀ (k:Nat) (s:Nat) (w:Rx),(bH (λx=>aX .cat x y) k (cG s,w)).1=cG (s+k*(1+y.1))
 |0,s,w=>by simp[bH]
 |k+1,s,w=>by
  show (bH (λx=>aX .cat x y) k (cG (1+cG s+y.1),.cat w y.2)).1=_;rw[MJ,nw y k,Nat.succ_mul]
  congr 1
  omega
theorem zz(x:Rx)(y:RL)(m:Int)(hy:y.2=x):∀ (n:Nat) (k:Int) (s:Nat) (w:Rx),k+n<=m->(bH (λz=>aX .cat z y) n (s,w)).2=dP x m n k w
 |0,k,s,w,_=>rfl
 |n+1,k,s,w,h=>by
  have hpx:du x m k=y.2:=by rw[du,if_pos (by omega),hy]
  show (bH (λz=>aX .cat z y) n (cG (1+s+y.1),.cat w y.2)).2=dP x m n (k+1) (.cat w (du x m k));rw[hpx];exact zz x y m hy n (k+1) _ _ (by omega)
theorem Ak(x:Rx)(y:RL)(m:Int)(hy:y.2=.alt x .eps):∀ (n:Nat) (k:Int) (s:Nat) (w:Rx),m<=k->(bH (λz=>aX .cat z y) n (s,w)).2=dP x m n k w
 |0,k,s,w,_=>rfl
 |n+1,k,s,w,h=>by
  have hpx:du x m k=y.2:=by rw[du,if_neg (by omega),hy]
  show (bH (λz=>aX .cat z y) n (cG (1+s+y.1),.cat w y.2)).2=dP x m n (k+1) (.cat w (du x m k));rw[hpx];exact Ak x y m hy n (k+1) _ _ (by omega)
theorem Br(x:Rx)(m:Int):∀ (a b:Nat) (k:Int) (w:Rx),dP x m (a+b) k w=dP x m b (k+a) (dP x m a k w)
 |0,b,k,w=>by simp[dP]
 |a+1,b,k,w=>by
  rw[Nat.succ_add];simp only[dP];rw[Br x m a b]
  congr 1
  omega
theorem AJ(t:RT):gm t.val=(RT.rep t 0 (-1)).val:=by
 simp only[gm,RT.val,RT.sz,RT.expand,da,cA,dG];simp
 congr 1
 omega
theorem yD(t:RT):aX .cat t.val (gm t.val)=(RT.rep t (-2) (-1)).val:=by
 simp only[gm,aX,RT.val,RT.sz,RT.expand,da,cA,dG,dP,du];simp[dP];rw[NJ]
 congr 1
 omega
theorem CB(t:RT):bL t.val=(RT.rep t 0 1).val:=by
 simp only[bL,bY,gm,aX,RT.val,RT.sz,RT.expand,da,cA,dG,dP,du];simp[dP]
 congr 1
 omega
theorem GV(p k s:Nat):cG (p+k*(1+cG s))=cG (p+k*(1+s)):=by
 by_cases h:s<=2001
 ·rw[ED h]
 ·have e:cG s=2001:=by unfold cG;omega
  rw[e];cases k with
  |zero=>simp
  |succ k=>
   have h1:=Nat.succ_mul k (1+2001);have h2:=Nat.succ_mul k (1+s);unfold cG;rw[h1,h2];omega
theorem Es{α β:Type}{x:α×β}{a:α}{b:β}(h1:x.1=a)(h2:x.2=b):x=(a,b):=by rw[<- h1,<- h2]
theorem uV(t:RT)(m n:Int)(h0:0<=m)(h1:n=-1\/(0<=n/\m<=n))(ht:t.sz<=2001):dA t.val m n=(RT.rep t m n).val:=by
 have hp:cA m=m:=by unfold cA;rw[if_neg (by omega)]
 have hm2:¬ m=-2:=by omega
 rcases h1 with rfl|⟨hn,hmn⟩
 ·by_cases hm:m=0
  ·subst hm;rw[<- AJ];rfl
  ·obtain⟨a,rfl⟩:∃ a:Nat,m=(a:Int)+1:=⟨(m-1).toNat,by omega⟩;have e1:((a:Int)+1-1).toNat=a:=by omega
   have e2:dA t.val ((a:Int)+1) (-1)=aX .cat (bH (λx=>aX .cat x t.val) a t.val) (gm t.val):=by
    unfold dA;rw[if_neg (by omega),if_neg (by omega),if_pos (by omega),e1,if_neg hm]
   rw[e2];apply Es
   ·show cG (1+(bH (λx=>aX .cat x t.val) a t.val).1+cG (1+t.sz))=cG (dG t.sz ((a:Int)+1) (-1)).toNat;have e3:(bH (λx=>aX .cat x t.val) a t.val).1=cG (t.sz+a*(1+t.sz)):=by
     have:=nw t.val a t.sz t.expand;rw[ED ht]at this;exact this
    have e4:dG t.sz ((a:Int)+1) (-1)=((1+(t.sz+a*(1+t.sz))+(1+t.sz):Nat):Int):=by
     unfold dG;rw[if_neg hm2,if_neg (by omega),if_pos (by omega)];have g1:((a:Int)+1)*(t.sz:Int)=(a:Int)*t.sz+t.sz:=by rw[Int.add_mul];omega
     have g2:a*(1+t.sz)=a+a*t.sz:=by rw[Nat.mul_add];omega
     rw[g1,g2];have g3:((a*t.sz:Nat):Int)=(a:Int)*t.sz:=by simp
     omega
    rw[e3,e4,MJ,NJ,Int.toNat_natCast]
   ·show Rx.cat (bH (λx=>aX .cat x t.val) a t.val).2 (.star t.expand)=da t.expand ((a:Int)+1) (-1);unfold da;rw[hp,if_neg (by omega),if_neg (by omega),if_pos (by omega),e1];have:=zz t.expand t.val ((a:Int)+1) rfl a 1 t.sz t.expand (by omega)
    rw[show du t.expand ((a:Int)+1) 0=t.expand from by unfold du;rw[if_pos (by omega)]];rw[<- this];rfl
 ·by_cases hm:m=0
  ·subst hm;by_cases hn0:n=0
   ·subst hn0;rfl
   ·obtain⟨b,rfl⟩:∃ b:Nat,n=(b:Int)+1:=⟨(n-1).toNat,by omega⟩;have e1:((b:Int)+1-max 0 1).toNat=b:=by omega
    have e2:dA t.val 0 ((b:Int)+1)=bH (λx=>aX .cat x (bL t.val)) b (bL t.val):=by
     unfold dA;rw[if_neg (by omega),if_neg (by omega),if_neg (by omega),e1,if_pos rfl];rfl
    rw[e2];apply Es
    ·have e3:(bH (λx=>aX .cat x (bL t.val)) b (bL t.val)).1=cG ((t.sz+2)+b*(1+(t.sz+2))):=by
      have:=nw (bL t.val) b (1+t.sz+1) (.alt t.expand .eps);rw[show (bL t.val).1=cG (t.sz+2) from by show cG (1+t.sz+1)=_;congr 1;omega,GV]at this;rw[show 1+t.sz+1=t.sz+2 by omega]at this;rw[<- this];show (bH _ b (cG (1+t.sz+1),_)).1=_;rw[show 1+t.sz+1=t.sz+2 by omega];rfl
     have e4:dG t.sz 0 ((b:Int)+1)=(((t.sz+2)+b*(1+(t.sz+2)):Nat):Int):=by
      unfold dG;rw[if_neg (by omega),if_neg (by omega),if_neg (by omega),if_neg (by omega),if_pos rfl];have g1:((b:Int)+1)*((t.sz:Int)+2)=(b:Int)*t.sz+2*b+t.sz+2:=by rw[Int.add_mul,Int.mul_add];omega
      have g2:b*(1+(t.sz+2))=b*t.sz+3*b:=by rw[show 1+(t.sz+2)=t.sz+3 by omega,Nat.mul_add];omega
      rw[g1,g2];have g3:((b*t.sz:Nat):Int)=(b:Int)*t.sz:=by simp
      omega
     rw[e3];show _=cG (dG t.sz 0 ((b:Int)+1)).toNat;rw[e4,Int.toNat_natCast]
    ·show _=da t.expand 0 ((b:Int)+1);unfold da;rw[hp,if_neg (by omega),if_neg (by omega),if_neg (by omega),show ((b:Int)+1-1).toNat=b by omega];have:=Ak t.expand (bL t.val) 0 rfl b 1 (bL t.val).1 (.alt t.expand .eps) (by omega)
     rw[show du t.expand 0 0=.alt t.expand .eps from by unfold du;rw[if_neg (by omega)]];rw[<- this];rfl
  ·obtain⟨a,rfl⟩:∃ a:Nat,m=(a:Int)+1:=⟨(m-1).toNat,by omega⟩;obtain⟨d,rfl⟩:∃ d:Nat,n=(a:Int)+1+d:=⟨(n-(a+1)).toNat,by omega⟩;have e1:((a:Int)+1-1).toNat=a:=by omega
   have e0:((a:Int)+1+d-max ((a:Int)+1) 1).toNat=d:=by omega
   have e2:dA t.val ((a:Int)+1) ((a:Int)+1+d)=bH (λx=>aX .cat x (bL t.val)) d (bH (λx=>aX .cat x t.val) a t.val):=by
    unfold dA;rw[if_neg (by omega),if_neg (by omega),if_neg (by omega),e0,e1,if_neg hm]
   have e3:(bH (λx=>aX .cat x t.val) a t.val).1=cG (t.sz+a*(1+t.sz)):=by
    have:=nw t.val a t.sz t.expand;rw[ED ht]at this;exact this
   have e5:(bH (λx=>aX .cat x t.val) a t.val).2=dP t.expand ((a:Int)+1) a 1 t.expand:=zz t.expand t.val ((a:Int)+1) rfl a 1 t.sz t.expand (by omega);have e6:bH (λx=>aX .cat x t.val) a t.val=(cG (t.sz+a*(1+t.sz)),dP t.expand ((a:Int)+1) a 1 t.expand):=Es e3 e5;rw[e2,e6];apply Es
   ·have e4:dG t.sz ((a:Int)+1) ((a:Int)+1+d)=((t.sz+a*(1+t.sz)+d*(1+(t.sz+2)):Nat):Int):=by
     unfold dG;rw[if_neg hm2,if_neg (by omega),if_neg (by omega),if_neg (by omega),if_neg hm];have g1:((a:Int)+1)*(t.sz:Int)=(a:Int)*t.sz+t.sz:=by rw[Int.add_mul];omega
     have g2:a*(1+t.sz)=a+a*t.sz:=by rw[Nat.mul_add];omega
     have g4:((a:Int)+1+d-((a:Int)+1))*((t.sz:Int)+2+1)=(d:Int)*t.sz+3*d:=by
      rw[show (a:Int)+1+d-((a:Int)+1)=d by omega,show (t.sz:Int)+2+1=t.sz+3 by omega,Int.mul_add];omega
     have g5:d*(1+(t.sz+2))=d*t.sz+3*d:=by rw[show 1+(t.sz+2)=t.sz+3 by omega,Nat.mul_add];omega
     rw[g1,g2,g4,g5];have g3:((a*t.sz:Nat):Int)=(a:Int)*t.sz:=by simp
     have g6:((d*t.sz:Nat):Int)=(d:Int)*t.sz:=by simp
     omega
    show _=cG (dG t.sz ((a:Int)+1) ((a:Int)+1+d)).toNat;rw[e4,Int.toNat_natCast,nw];rw[show (bL t.val).1=cG (t.sz+2) from by show cG (1+t.sz+1)=_;congr 1;omega,GV]
   ·show _=da t.expand ((a:Int)+1) ((a:Int)+1+d);unfold da;rw[hp,if_neg (by omega),if_neg (by omega),if_neg (by omega),show ((a:Int)+1+d-1).toNat=a+d by omega,Br];rw[show du t.expand ((a:Int)+1) 0=t.expand from by unfold du;rw[if_pos (by omega)]]
    exact Ak t.expand (bL t.val) ((a:Int)+1) rfl d (1+a) _ _ (by omega)
theorem xl(t:RT):t.sz<=2001:=by
 cases t<;>simp only[RT.sz]<;>first|exact kW _|omega
end
section
structure Lv where
 place:Int
 alt:Option RT
 meet:Option RT
 sgn:Int
 row:Option RT
 fac:Option RT
def gP(i:Int):Lv:=⟨i,none,none,0,none,none⟩
def al0:Option RT->RT->RT
 |none,p=>p
 |some r,p=>.cat r p
def rowOf(row fac:Option RT):Option RT:=match fac with
 |none=>row
 |some p=>some (al0 row p)
def eZ(f:Lv):Lv:={ f with row:=rowOf f.row f.fac,fac:=none }
def lD(meet:Option RT)(sgn:Int)(r:RT):RT:=match meet with
 |none=>r
 |some m=>if sgn=38 then .and m r else .minus m r
def mv(f:Lv):Lv:={ f with meet:=some (lD f.meet f.sgn ((rowOf f.row f.fac).getD .eps)),row:=none,fac:=none }
def VG(alt:Option RT)(m:RT):RT:=match alt with
 |none=>m
 |some a=>.alt a m
def eU(f:Lv):RT:=lD f.meet f.sgn ((rowOf f.row f.fac).getD .eps)
def jc(f:Lv):RT:=VG f.alt (eU f)
def rE(f:Lv):Lv:={ f with alt:=some (jc f),meet:=none,row:=none,fac:=none }
section
variable (c:Int->Int)(N:Int)(rd:Int->Except (Int×Int) (BitVec 256×Int))
def py(i:Int)(f:Lv)(p:RT):Except (Int×Int) (Int×Lv):=
 if c i=42 then .ok (i+1,{ f with fac:=some (.rep p 0 (-1)) })
 else if c i=43 then .ok (i+1,{ f with fac:=some (.rep p (-2) (-1)) })
 else if c i=63 then .ok (i+1,{ f with fac:=some (.rep p 0 1) })
 else match ot c N i with
  |.error e=>.error e
  |.ok (m,n,j)=>.ok (j,{ f with fac:=some (.rep p m n) })
def eW(i:Int)(f:Lv)(rest:List Lv):Except (Int×Int) (Int×Lv×List Lv):=
 if br (c i) then
  match f.fac with
  |none=>.error (20,i)
  |some p=>match py c N i f p with
   |.error e=>.error e
   |.ok (j,g)=>.ok (j,g,rest)
 else if c i=124 then .ok (i+1,rE f,rest)
 else if c i=38\/c i=45 then .ok (i+1,{ mv f with sgn:=c i },rest)
 else if c i=41 then
  match rest with
  |[]=>.error (20,i)
  |g::r=>.ok (i+1,{ g with fac:=some (jc f) },r)
 else if c i=40 then
  if 1000<rest.length+1 then .error (23,i) else .ok (i+1,gP i,eZ f::rest)
 else match rd i with
  |.error e=>.error e
  |.ok (S,j)=>.ok (j,{ eZ f with fac:=some (.cls S) },rest)
def runN:Nat->Int->Lv->List Lv->Except (Int×Int) (Lv×List Lv)
 |0,_,f,rest=>.ok (f,rest)
 | n+1,i,f,rest=>
  if i<N then match eW c N rd i f rest with
   |.error e=>.error e
   |.ok (j,g,r)=>runN n j g r
  else .ok (f,rest)
def run(i:Int)(f:Lv)(rest:List Lv):Except (Int×Int) (Lv×List Lv):=runN c N rd ((N-i).toNat+1) i f rest
def qm:Except (Int×Int) (Lv×List Lv)->Except (Int×Int) RT
 |.error e=>.error e
 |.ok (f,rest)=>if rest≠[] then .error (21,f.place) else if 2000<(jc f).sz then .error (24,0) else .ok (jc f)
def iN:Except (Int×Int) RT:=if 1048576<N then .error (1,0) else qm (run c N rd 0 (gP (-1)) [])
variable {c N rd}
def vA(N:Int)(rd:Int->Except (Int×Int) (BitVec 256×Int)):Prop:=∀ i S j,0<=i->i<N->rd i=.ok (S,j)->i<j/\j<=N
theorem Oz:∀ (k:Nat) (n i:Int),i<=(jT c N k n i).2/\((jT c N k n i).2<=N\/(jT c N k n i).2=i):=by
 intro k
 induction k with
 |zero=>intro n i;exact⟨Int.le_refl _,.inr rfl⟩
 | succ k ih=>
  intro n i;simp only[jT];split
  ·have:=ih (10*n+(c i-48)) (i+1);omega
  ·exact⟨Int.le_refl _,.inr rfl⟩
theorem yt{i n j:Int}(h:iL c N i=.ok (n,j)):i<j/\j<=N:=by
 have:=Oz (c:=c) (N:=N) 3 0 i;unfold iL at h;split at h
 ·cases h
 ·simp only[Except.ok.injEq]at h;rw[h]at this;rename_i hne;rw[h]at hne;simp only at this hne;omega
theorem zL{i m n j:Int}(h:ot c N i=.ok (m,n,j)):i<j/\j<=N:=by
 unfold ot at h;cases h1:iL c N (i+1) with
 |error e=>rw[h1]at h;cases h
 | ok p=>
  obtain⟨m',j'⟩:=p;rw[h1]at h;simp only at h;have g1:=yt h1;cases h2:A7 c N m' j' with
  |error e=>rw[h2]at h;cases h
  | ok p=>
   obtain⟨n',j2⟩:=p;rw[h2]at h;simp only at h;have g2:j' <= j2/\j2<=N:=by
    unfold A7 at h2;split at h2
    ·split at h2
     ·have:=yt h2;omega
     ·simp only[Except.ok.injEq,Prod.mk.injEq]at h2;omega
    ·simp only[Except.ok.injEq,Prod.mk.injEq]at h2;omega
   unfold nG at h;split at h
   ·cases h
   ·split at h
    ·cases h
    ·simp only[Except.ok.injEq,Prod.mk.injEq]at h;omega
theorem YL{i m n j:Int}(h:ot c N i=.ok (m,n,j)):0<=m/\(n=-1\/(0<=n/\m<=n)):=by
 have nn:∀ (k:Nat) (n i:Int),0<=n->0<=(jT c N k n i).1:=by
  intro k
  induction k with
  |zero=>intro n i h;exact h
  |succ k ih=>
   intro n i h;simp only[jT];split
   ·exact ih _ _ (by omega)
   ·exact h
 have ne:∀ {i n j:Int},iL c N i=.ok (n,j)->0<=n:=λ{i n j} h=>by
  unfold iL at h;split at h
  ·cases h
  ·simp only[Except.ok.injEq]at h;have:=nn 3 0 i (by omega);rw[h]at this;exact this
 unfold ot at h;cases h1:iL c N (i+1) with
 |error e=>rw[h1]at h;cases h
 | ok p=>
  obtain⟨m',j'⟩:=p;rw[h1]at h;simp only at h;have g1:=ne h1;cases h2:A7 c N m' j' with
  |error e=>rw[h2]at h;cases h
  | ok p=>
   obtain⟨n',j2⟩:=p;rw[h2]at h;simp only at h;have g2:n' = -1\/0<=n' := by
    unfold A7 at h2;split at h2
    ·split at h2
     ·exact .inr (ne h2)
     ·simp only[Except.ok.injEq,Prod.mk.injEq]at h2;omega
    ·simp only[Except.ok.injEq,Prod.mk.injEq]at h2;omega
   unfold nG at h;split at h
   ·cases h
   ·split at h
    ·cases h
    ·simp only[Except.ok.injEq,Prod.mk.injEq]at h;obtain⟨rfl,rfl,_⟩:=h;omega
theorem Ik(hrd:vA N rd){i j:Int}{f g:Lv}{rest r:List Lv}(h0:0<=i)(hi:i<N)(h:eW c N rd i f rest=.ok (j,g,r)):i<j/\j<=N:=by
 unfold eW at h;split at h
 ·cases hf:f.fac with
  |none=>rw[hf]at h;cases h
  | some p=>
   rw[hf]at h;simp only at h;cases hp:py c N i f p with
   |error e=>rw[hp]at h;cases h
   | ok q=>
    obtain⟨j',g'⟩:=q;rw[hp]at h;simp only[Except.ok.injEq,Prod.mk.injEq]at h;obtain⟨rfl,rfl,rfl⟩:=h;unfold py at hp;split at hp
    ·simp only[Except.ok.injEq,Prod.mk.injEq]at hp;omega
    ·split at hp
     ·simp only[Except.ok.injEq,Prod.mk.injEq]at hp;omega
     ·split at hp
      ·simp only[Except.ok.injEq,Prod.mk.injEq]at hp;omega
      ·cases hb:ot c N i with
       |error e=>rw[hb]at hp;cases hp
       |ok q=>
        obtain⟨m,n,k⟩:=q;rw[hb]at hp;simp only[Except.ok.injEq,Prod.mk.injEq]at hp;have:=zL hb;omega
 ·split at h
  ·simp only[Except.ok.injEq,Prod.mk.injEq]at h;omega
  ·split at h
   ·simp only[Except.ok.injEq,Prod.mk.injEq]at h;omega
   ·split at h
    ·cases rest with
     |nil=>cases h
     |cons g r=>simp only[Except.ok.injEq,Prod.mk.injEq]at h;omega
    ·split at h
     ·split at h
      ·cases h
      ·simp only[Except.ok.injEq,Prod.mk.injEq]at h;omega
     ·cases hS:rd i with
      |error e=>rw[hS]at h;cases h
      |ok q=>
       obtain⟨S,k⟩:=q;rw[hS]at h;simp only[Except.ok.injEq,Prod.mk.injEq]at h;have:=hrd i S k h0 hi hS;omega
theorem SF(hrd:vA N rd):∀ (n m:Nat) (i:Int) (f:Lv) (rest:List Lv),0<=i->N-i<n->N-i<m->runN c N rd n i f rest=runN c N rd m i f rest:=by
 intro n
 induction n with
 |zero=>
  intro m i f rest h0 h1 h2;cases m with
  |zero=>rfl
  |succ m=>simp only[runN];rw[if_neg (by omega)]
 | succ n ih=>
  intro m i f rest h0 h1 h2;cases m with
  |zero=>simp only[runN];rw[if_neg (by omega)]
  | succ m=>
   simp only[runN];by_cases hi:i<N
   ·rw[if_pos hi,if_pos hi];cases hs:eW c N rd i f rest with
    |error e=>rfl
    |ok q=>
     obtain⟨j,g,r⟩:=q;have:=Ik hrd h0 hi hs;exact ih m j g r (by omega) (by omega) (by omega)
   ·rw[if_neg hi,if_neg hi]
theorem Pa{i:Int}{f:Lv}{rest:List Lv}(hi:¬ i<N):run c N rd i f rest=.ok (f,rest):=by
 unfold run;simp only[runN];rw[if_neg hi]
theorem gZ(hrd:vA N rd){i:Int}{f:Lv}{rest:List Lv}(h0:0<=i)(hi:i<N):run c N rd i f rest=match eW c N rd i f rest with
  |.error e=>.error e
  |.ok (j,g,r)=>run c N rd j g r:=by
 unfold run;rw[runN,if_pos hi];cases hs:eW c N rd i f rest with
 |error e=>rfl
 |ok q=>
  obtain⟨j,g,r⟩:=q;have:=Ik hrd h0 hi hs;exact SF hrd _ _ j g r (by omega) (by omega) (by omega)
theorem agC(hrd:vA N rd):∀ (n:Nat) (i:Int) (p:RT) (f:Lv) (rest:List Lv),0<=i->i<=N->N-i<n->f.fac=some p ->
  match ju c N n p.val i with
  |.error e=>qm (run c N rd i f rest)=.error e
  |.ok (r,j)=>i<=j/\j<=N/\(j<N->¬ br (c j))/\∃ q,r=RT.val q/\run c N rd i f rest=run c N rd j { f with fac:=some q } rest:=by
 intro n
 induction n with
 |zero=>intro i p f rest _ _ h;omega
 | succ n ih=>
  intro i p f rest h0 hiN hn hf;have same:f={ f with fac:=some p }:=by cases f;simp only at hf;subst hf;rfl
  have go:∀ (q:RT) (j:Int),i<j->j<=N->eW c N rd i f rest=.ok (j,{ f with fac:=some q },rest)->∀ res,ju c N (n+1) p.val i=res->ju c N n q.val j=res ->
    match res with
    |.error e=>qm (run c N rd i f rest)=.error e
    |.ok (r,j)=>i<=j/\j<=N/\(j<N->¬ br (c j))/\∃ q,r=RT.val q/\run c N rd i f rest=run c N rd j { f with fac:=some q } rest:=by
   intro q j hij hjN hs res _ hr;have:=ih j q { f with fac:=some q } rest (by omega) hjN (by omega) rfl;rw[hr]at this;have hi:i<N:=by omega
   rw[gZ hrd h0 hi,hs];cases res with
   |error e=>exact this
   |ok x=>
    obtain⟨r,k⟩:=x;obtain⟨g1,g2,g3,q',g4,g5⟩:=this;exact⟨by omega,g2,g3,q',g4,g5⟩
  by_cases hi:i<N
  ·have hP:∀ x,br (c i)->py c N i f p=x->eW c N rd i f rest=match x with|.error e=>.error e|.ok (j,g)=>.ok (j,g,rest):=λx hp hx=>by
    unfold eW;rw[if_pos hp,hf];simp only[hx]
   have hE:ju c N (n+1) p.val i=if c i=42 then ju c N n (gm p.val) (i+1)
     else if c i=43 then ju c N n (aX .cat p.val (gm p.val)) (i+1)
     else if c i=63 then ju c N n (bL p.val) (i+1)
     else if c i=123 then
      match ot c N i with
      |.error e=>.error e
      |.ok (m,n',j)=>ju c N n (dA p.val m n') j
     else .ok (p.val,i):=by
    rw[ju,if_neg (by omega)]
    all_goals rfl
   by_cases h42:c i=42
   ·rw[hE,if_pos h42,AJ];exact go _ (i+1) (by omega) (by omega) (by rw[hP _ (by unfold br;omega) rfl];unfold py;rw[if_pos h42]) _ (by rw[hE,if_pos h42,AJ]) rfl
   ·by_cases h43:c i=43
    ·rw[hE,if_neg h42,if_pos h43,yD];exact go _ (i+1) (by omega) (by omega) (by rw[hP _ (by unfold br;omega) rfl];unfold py;rw[if_neg h42,if_pos h43]) _ (by rw[hE,if_neg h42,if_pos h43,yD]) rfl
    ·by_cases h63:c i=63
     ·rw[hE,if_neg h42,if_neg h43,if_pos h63,CB];exact go _ (i+1) (by omega) (by omega) (by rw[hP _ (by unfold br;omega) rfl];unfold py;rw[if_neg h42,if_neg h43,if_pos h63]) _ (by rw[hE,if_neg h42,if_neg h43,if_pos h63,CB]) rfl
     ·by_cases h123:c i=123
      ·have hps:py c N i f p=match ot c N i with
         |.error e=>.error e
         |.ok (m,n,j)=>.ok (j,{ f with fac:=some (.rep p m n) }):=by
        unfold py;rw[if_neg h42,if_neg h43,if_neg h63]
       rw[hE,if_neg h42,if_neg h43,if_neg h63,if_pos h123];cases hb:ot c N i with
       |error e=>
        simp only;rw[gZ hrd h0 hi,hP _ (by unfold br;omega) hps,hb];rfl
       |ok x=>
        obtain⟨m,n',j⟩:=x;have g1:=zL hb;obtain⟨g2,g3⟩:=YL hb;simp only;rw[uV p m n' g2 g3 (xl p)];exact go _ j g1.1 g1.2 (by rw[hP _ (by unfold br;omega) hps,hb]) _ (by rw[hE,if_neg h42,if_neg h43,if_neg h63,if_pos h123,hb];simp only;rw[uV p m n' g2 g3 (xl p)]) rfl
      ·rw[hE,if_neg h42,if_neg h43,if_neg h63,if_neg h123];exact⟨Int.le_refl _,by omega,λ_ hp=>by unfold br at hp;omega,p,rfl,by rw[<- same]⟩
  ·rw[ju,if_pos hi];exact⟨Int.le_refl _,hiN,λh=>absurd h hi,p,rfl,by rw[<- same]⟩
def uI(c:Int->Int)(N:Int)(rd:Int->Except (Int×Int) (BitVec 256×Int))(n:Nat):Prop:=∀ (i:Int) (f:Lv) (rest:List Lv),0<=i->i<N->¬ gN (c i)->¬ br (c i)->rest.length+n=1000 ->
  match bx c N rd n i with
  |.error e=>qm (run c N rd i f rest)=.error e
  |.ok (r,j)=>i<j/\j<=N/\∃ t,r=RT.val t/\run c N rd i f rest=run c N rd j { eZ f with fac:=some t } rest
theorem He(o:Option RT):vm (o.map RT.val)=(o.getD .eps).val:=by cases o<;>rfl
theorem aad(o:Option RT)(p:RT):yF (o.map RT.val) p.val=(al0 o p).val:=by cases o<;>rfl
theorem Gb(hrd:vA N rd){n:Nat}(ha:uI c N rd n):∀ (k:Nat) (i:Int) (f:Lv) (rest:List Lv),0<=i->i<=N->N-i<k->(f.fac≠none->i<N->¬ br (c i))->rest.length+n=1000 ->
  match fj c N (bx c N rd n) k ((rowOf f.row f.fac).map RT.val) i with
  |.error e=>qm (run c N rd i f rest)=.error e
  |.ok (r,j)=>i<=j/\j<=N/\(j<N->gN (c j))/\∃ row fac,r=((rowOf row fac).getD .eps).val/\run c N rd i f rest=run c N rd j { f with row:=row,fac:=fac } rest:=by
 intro k
 induction k with
 |zero=>intro i f rest _ _ h;omega
 | succ k ih=>
  intro i f rest h0 hiN hk hp hd;by_cases hi:i<N
  ·by_cases he:gN (c i)
   ·rw[fj,if_neg (by omega),if_pos he,He];exact⟨Int.le_refl _,hiN,λ_=>he,f.row,f.fac,rfl,rfl⟩
   ·by_cases hps:br (c i)
    ·rw[fj,if_neg (by omega),if_neg he,if_pos hps];have hf:f.fac=none:=by
      cases hf:f.fac with
      |none=>rfl
      |some p=>exact absurd hps (hp (by rw[hf];simp) hi)
     simp only;rw[gZ hrd h0 hi];unfold eW;rw[if_pos hps,hf];rfl
    ·rw[fj,if_neg (by omega),if_neg he,if_neg hps];have h1:=ha i f rest h0 hi he hps hd;cases hA:bx c N rd n i with
     |error e=>rw[hA]at h1;exact h1
     | ok x=>
      obtain⟨a,j⟩:=x;rw[hA]at h1;obtain⟨g1,g2,t,rfl,g3⟩:=h1;have h2:=agC (c:=c) hrd (N.toNat+1) j t { eZ f with fac:=some t } rest (by omega) g2 (by omega) rfl;simp only;cases hR:ju c N (N.toNat+1) t.val j with
      |error e=>rw[hR]at h2;simp only at h2 ⊢;rw[g3,h2]
      | ok y=>
       obtain⟨p,l⟩:=y;rw[hR]at h2;obtain⟨g4,g5,g6,q,rfl,g7⟩:=h2;simp only;have h3:=ih l { eZ f with fac:=some q } rest (by omega) g5 (by omega) (λ_=>g6) hd;have e1:some (yF ((rowOf f.row f.fac).map RT.val) q.val)=(rowOf (eZ f).row (some q)).map RT.val:=by
        rw[aad];rfl
       rw[e1];simp only at h3;revert h3;cases fj c N (bx c N rd n) k ((rowOf (eZ f).row (some q)).map RT.val) l with
       |error e=>intro h3;simp only at h3 ⊢;rw[g3,g7,h3]
       |ok z=>
        obtain⟨r,m⟩:=z;rintro⟨g8,g9,g10,row,fac,g11,g12⟩;exact⟨by omega,g9,g10,row,fac,g11,by rw[g3,g7,g12];rfl⟩
  ·rw[fj,if_pos hi,He];exact⟨Int.le_refl _,hiN,λh=>absurd h hi,f.row,f.fac,rfl,rfl⟩
theorem RN(hrd:vA N rd){n:Nat}(ha:uI c N rd n):∀ (k:Nat) (i:Int) (f:Lv) (rest:List Lv),0<=i->i<=N->N-i<k->(i<N->gN (c i))->rest.length+n=1000 ->
  match lS c N (fj c N (bx c N rd n) (N.toNat+1) none) k (eU f).val i with
  |.error e=>qm (run c N rd i f rest)=.error e
  |.ok (r,j)=>i<=j/\j<=N/\(j<N->c j=124\/c j=41)/\∃ g:Lv,g.place=f.place/\g.alt=f.alt/\r=(eU g).val/\run c N rd i f rest=run c N rd j g rest:=by
 intro k
 induction k with
 |zero=>intro i f rest _ _ h;omega
 | succ k ih=>
  intro i f rest h0 hiN hk he hd;by_cases hi:i<N
  ·have go:∀ (mk:RT->RT->RT) (mkx:Rx->Rx->Rx),(∀ a b:RT,aX mkx a.val b.val=(mk a b).val)->(c i=38\/c i=45)->(∀ (m:RT) (g:Lv),g.meet=some m->g.sgn=c i->eU g=mk m ((rowOf g.row g.fac).getD .eps)) ->
     match (match fj c N (bx c N rd n) (N.toNat+1) none (i+1) with
      |.error e=>(.error e:Except (Int×Int) (RL×Int))
      |.ok (r,j)=>lS c N (fj c N (bx c N rd n) (N.toNat+1) none) k (aX mkx (eU f).val r) j) with
     |.error e=>qm (run c N rd i f rest)=.error e
     |.ok (r,j)=>i<=j/\j<=N/\(j<N->c j=124\/c j=41)/\∃ g:Lv,g.place=f.place/\g.alt=f.alt/\r=(eU g).val/\run c N rd i f rest=run c N rd j g rest:=by
    intro mk mkx hmk hc hmt;have hs:eW c N rd i f rest=.ok (i+1,{ mv f with sgn:=c i },rest):=by
     unfold eW;rw[if_neg (by unfold br;omega),if_neg (by omega),if_pos hc]
    have h1:=Gb hrd ha (N.toNat+1) (i+1) { mv f with sgn:=c i } rest (by omega) (by omega) (by omega) (λh=>absurd rfl h) hd;have hr:run c N rd i f rest=run c N rd (i+1) { mv f with sgn:=c i } rest:=by rw[gZ hrd h0 hi,hs]
    have e0:(rowOf ({ mv f with sgn:=c i }:Lv).row ({ mv f with sgn:=c i }:Lv).fac).map RT.val=none:=rfl;rw[e0]at h1;revert h1;cases fj c N (bx c N rd n) (N.toNat+1) none (i+1) with
    |error e=>intro h1;simp only at h1 ⊢;rw[hr];exact h1
    | ok z=>
     obtain⟨r,j⟩:=z;rintro⟨g1,g2,g3,row,fac,rfl,g4⟩;simp only;rw[hmk];have hg:mk (eU f) ((rowOf row fac).getD .eps)=eU { mv f with sgn:=c i,row:=row,fac:=fac }:=(hmt (eU f) { mv f with sgn:=c i,row:=row,fac:=fac } rfl rfl).symm;rw[hg]
     have h2:=ih j { mv f with sgn:=c i,row:=row,fac:=fac } rest (by omega) g2 (by omega) g3 hd;revert h2;cases lS c N (fj c N (bx c N rd n) (N.toNat+1) none) k (eU { mv f with sgn:=c i,row:=row,fac:=fac }).val j with
     |error e=>intro h2;simp only at h2 ⊢;rw[hr];exact (congrArg qm g4).trans h2
     |ok y=>
      obtain⟨r2,j2⟩:=y;rintro⟨g5,g6,g7,g,g8,g9,g10,g11⟩;exact⟨by omega,g6,g7,g,g8,g9,g10,by rw[hr];exact g4.trans g11⟩
   by_cases h38:c i=38
   ·rw[lS,if_neg (by omega),if_pos h38];exact go .and .and (λa b=>rfl) (.inl h38) λm g h1 h2=>by unfold eU;rw[h1,h2,h38];simp[lD]
   ·by_cases h45:c i=45
    ·rw[lS,if_neg (by omega),if_neg h38,if_pos h45];exact go .minus .minus (λa b=>rfl) (.inr h45) λm g h1 h2=>by unfold eU;rw[h1,h2,h45];simp[lD]
    ·rw[lS,if_neg (by omega),if_neg h38,if_neg h45];have:=he hi;exact⟨Int.le_refl _,hiN,λ_=>by unfold gN at this;omega,f,rfl,rfl,rfl,rfl⟩
  ·rw[lS,if_pos hi];exact⟨Int.le_refl _,hiN,λh=>absurd h hi,f,rfl,rfl,rfl,rfl⟩
theorem AZ(hrd:vA N rd){n:Nat}(ha:uI c N rd n)(i:Int)(f:Lv)(rest:List Lv)(h0:0<=i)(hiN:i<=N)(hd:rest.length+n=1000)(h1:f.meet=none)(h2:f.row=none)(h3:f.fac=none) :
  match lG c N (fj c N (bx c N rd n) (N.toNat+1) none) i with
  |.error e=>qm (run c N rd i f rest)=.error e
  |.ok (r,j)=>i<=j/\j<=N/\(j<N->c j=124\/c j=41)/\∃ g:Lv,g.place=f.place/\g.alt=f.alt/\r=(eU g).val/\run c N rd i f rest=run c N rd j g rest:=by
 have g:=Gb hrd ha (N.toNat+1) i f rest h0 hiN (by omega) (λh=>absurd h3 h) hd;have e0:(rowOf f.row f.fac).map RT.val=none:=by rw[h2,h3];rfl
 rw[e0]at g;unfold lG;revert g;cases fj c N (bx c N rd n) (N.toNat+1) none i with
 |error e=>exact λg=>g
 | ok z=>
  obtain⟨r,j⟩:=z;rintro⟨g1,g2,g3,row,fac,rfl,g4⟩;simp only;have hm:(rowOf row fac).getD .eps=eU { f with row:=row,fac:=fac }:=by unfold eU;rw[h1];rfl
  rw[hm];have h5:=RN hrd ha (N.toNat+1) j { f with row:=row,fac:=fac } rest (by omega) g2 (by omega) g3 hd;revert h5;cases lS c N (fj c N (bx c N rd n) (N.toNat+1) none) (N.toNat+1) (eU { f with row:=row,fac:=fac }).val j with
  |error e=>intro h5;exact (congrArg qm g4).trans h5
  |ok y=>
   obtain⟨r2,j2⟩:=y;rintro⟨g5,g6,g7,g,g8,g9,g10,g11⟩;exact⟨by omega,g6,g7,g,g8,g9,g10,g4.trans g11⟩
theorem XJ(hrd:vA N rd){n:Nat}(ha:uI c N rd n):∀ (k:Nat) (i:Int) (f:Lv) (rest:List Lv),0<=i->i<=N->N-i<k->(i<N->c i=124\/c i=41)->rest.length+n=1000 ->
  match Bi c N (lG c N (fj c N (bx c N rd n) (N.toNat+1) none)) k (jc f).val i with
  |.error e=>qm (run c N rd i f rest)=.error e
  |.ok (r,j)=>i<=j/\j<=N/\(j<N->c j=41)/\∃ g:Lv,g.place=f.place/\r=(jc g).val/\run c N rd i f rest=run c N rd j g rest:=by
 intro k
 induction k with
 |zero=>intro i f rest _ _ h;omega
 | succ k ih=>
  intro i f rest h0 hiN hk he hd;by_cases hi:i<N/\c i=124
  ·rw[Bi,if_pos hi];have hs:eW c N rd i f rest=.ok (i+1,rE f,rest):=by
    unfold eW;rw[if_neg (by unfold br;omega),if_pos hi.2]
   have hr:run c N rd i f rest=run c N rd (i+1) (rE f) rest:=by rw[gZ hrd h0 hi.1,hs]
   have h1:=AZ hrd ha (i+1) (rE f) rest (by omega) (by omega) hd rfl rfl rfl;revert h1;cases lG c N (fj c N (bx c N rd n) (N.toNat+1) none) (i+1) with
   |error e=>intro h1;simp only at h1 ⊢;rw[hr];exact h1
   | ok z=>
    obtain⟨r,j⟩:=z;rintro⟨g1,g2,g3,g,g4,g5,rfl,g6⟩;simp only;have e1:aX .alt (jc f).val (eU g).val=(jc g).val:=by
     have:jc g=.alt (jc f) (eU g):=by
      show VG g.alt (eU g)=_;rw[g5];rfl
     rw[this];rfl
    rw[e1];have h2:=ih j g rest (by omega) g2 (by omega) g3 hd;revert h2;cases Bi c N (lG c N (fj c N (bx c N rd n) (N.toNat+1) none)) k (jc g).val j with
    |error e=>intro h2;simp only at h2 ⊢;rw[hr,g6,h2]
    |ok y=>
     obtain⟨r2,j2⟩:=y;rintro⟨g7,g8,g9,g',g10,g11,g12⟩;exact⟨by omega,g8,g9,g',by rw[g10,g4];rfl,g11,by rw[hr,g6,g12]⟩
  ·rw[Bi,if_neg hi];exact⟨Int.le_refl _,hiN,λh=>by have:=he h;omega,f,rfl,rfl,rfl⟩
theorem EB(hrd:vA N rd){n:Nat}(ha:uI c N rd n)(i p:Int)(rest:List Lv)(h0:0<=i)(hiN:i<=N)(hd:rest.length+n=1000) :
  match xO c N (bx c N rd n) i with
  |.error e=>qm (run c N rd i (gP p) rest)=.error e
  |.ok (r,j)=>i<=j/\j<=N/\(j<N->c j=41)/\∃ g:Lv,g.place=p/\r=(jc g).val/\run c N rd i (gP p) rest=run c N rd j g rest:=by
 have h1:=AZ hrd ha i (gP p) rest h0 hiN hd rfl rfl rfl;unfold xO akq;revert h1;cases lG c N (fj c N (bx c N rd n) (N.toNat+1) none) i with
 |error e=>exact λh=>h
 | ok z=>
  obtain⟨r,j⟩:=z;rintro⟨g1,g2,g3,g,g4,g5,rfl,g6⟩;simp only;have e1:(eU g).val=(jc g).val:=by
   have:jc g=eU g:=by
    show VG g.alt (eU g)=_;rw[g5];rfl
   rw[this]
  rw[e1];have h2:=XJ hrd ha (N.toNat+1) j g rest (by omega) g2 (by omega) g3 hd;revert h2;cases Bi c N (lG c N (fj c N (bx c N rd n) (N.toNat+1) none)) (N.toNat+1) (jc g).val j with
  |error e=>intro h2;simp only at h2 ⊢;rw[g6,h2]
  |ok y=>
   obtain⟨r2,j2⟩:=y;rintro⟨g7,g8,g9,g',g10,g11,g12⟩;exact⟨by omega,g8,g9,g',by rw[g10,g4];rfl,g11,by rw[g6,g12]⟩
theorem J4(hrd:vA N rd)(i:Int)(f:Lv)(rest:List Lv)(h0:0<=i)(hi:i<N)(he:¬ gN (c i))(hp:¬ br (c i))(h40:c i≠40) :
  match sC rd i with
  |.error e=>qm (run c N rd i f rest)=.error e
  |.ok (r,j)=>i<j/\j<=N/\∃ t,r=RT.val t/\run c N rd i f rest=run c N rd j { eZ f with fac:=some t } rest:=by
 have hs:eW c N rd i f rest=match rd i with
  |.error e=>.error e
  |.ok (S,j)=>.ok (j,{ eZ f with fac:=some (.cls S) },rest):=by
  unfold gN at he;unfold eW;rw[if_neg hp,if_neg (by omega),if_neg (by omega),if_neg (by omega),if_neg h40]
 unfold sC;rw[gZ hrd h0 hi,hs];cases hS:rd i with
 |error e=>rfl
 |ok q=>
  obtain⟨S,j⟩:=q;have:=hrd i S j h0 hi hS;exact⟨this.1,this.2,.cls S,rfl,rfl⟩
theorem s7(hrd:vA N rd):∀ n,uI c N rd n:=by
 intro n
 induction n with
 | zero=>
  intro i f rest h0 hi he hp hd;by_cases h40:c i=40
  ·rw[bx,if_pos h40];simp only;rw[gZ hrd h0 hi];unfold eW;rw[if_neg hp,if_neg (by omega),if_neg (by omega),if_neg (by omega),if_pos h40,if_pos (by omega)];rfl
  ·rw[bx,if_neg h40];exact J4 hrd i f rest h0 hi he hp h40
 | succ n ih=>
  intro i f rest h0 hi he hp hd;by_cases h40:c i=40
  ·rw[bx,if_pos h40];have hs:eW c N rd i f rest=.ok (i+1,gP i,eZ f::rest):=by
    unfold eW;rw[if_neg hp,if_neg (by omega),if_neg (by omega),if_neg (by omega),if_pos h40,if_neg (by omega)]
   have hr:run c N rd i f rest=run c N rd (i+1) (gP i) (eZ f::rest):=by rw[gZ hrd h0 hi,hs]
   have h1:=EB hrd ih (i+1) i (eZ f::rest) (by omega) (by omega) (by simp only[List.length_cons];omega);revert h1;cases xO c N (bx c N rd n) (i+1) with
   |error e=>intro h1;simp only[vE]at h1 ⊢;rw[hr,h1]
   | ok z=>
    obtain⟨r,j⟩:=z;rintro⟨g1,g2,g3,g,g4,rfl,g5⟩;simp only[vE];by_cases hj:j<N
    ·rw[if_neg (by omega)];have h41:=g3 hj;have hs2:eW c N rd j g (eZ f::rest)=.ok (j+1,{ eZ f with fac:=some (jc g) },rest):=by
      unfold eW;rw[if_neg (by unfold br;omega),if_neg (by omega),if_neg (by omega),if_pos h41]
     refine⟨by omega,by omega,jc g,rfl,?_⟩;rw[hr,g5,gZ hrd (by omega) hj,hs2]
    ·rw[if_pos hj];simp only;rw[hr,g5,Pa hj];simp[qm,g4]
  ·rw[bx,if_neg h40];exact J4 hrd i f rest h0 hi he hp h40
def alV:Except (Int×Int) RT->Except (Int×Int) Rx
 |.error e=>.error e
 |.ok t=>.ok t.expand
theorem Sd(hrd:vA N rd)(hN:0<=N):AA c N rd=alV (iN c N rd):=by
 unfold AA iN;by_cases hb:1048576<N
 ·rw[if_pos hb,if_pos hb];rfl
 ·rw[if_neg hb,if_neg hb];have h1:=EB hrd (s7 (c:=c) hrd 1000) 0 (-1) [] (by omega) hN rfl;unfold alts;revert h1;cases xO c N (bx c N rd 1000) 0 with
  |error e=>intro h1;simp only at h1;rw[h1];rfl
  | ok z=>
   obtain⟨r,j⟩:=z;rintro⟨g1,g2,g3,g,g4,rfl,g5⟩;rw[g5];by_cases hj:j<N
   ·have h41:=g3 hj;have hs:eW c N rd j g []=.error (20,j):=by
     unfold eW;rw[if_neg (by unfold br;omega),if_neg (by omega),if_neg (by omega),if_pos h41]
    rw[gZ hrd (by omega) hj,hs];simp only[Ul];rw[if_pos hj];rfl
   ·rw[Pa hj];simp only[Ul,qm];rw[if_neg hj,if_neg (show ¬ ([]:List Lv)≠[] by simp)];show (if 2000<(jc g).sz then _ else _)=_;by_cases hs:2000<(jc g).sz
    ·rw[if_pos hs,if_pos hs];rfl
    ·rw[if_neg hs,if_neg hs];rfl
end
end
section
open Go.RowKit Go.LE Go.Proofs.Tryz
abbrev CS:=BitVec 256
def wd(S:CS)(j:Nat):Int:=((S.extractLsb' (64*j) 64).toNat:Int)
def l7(S:CS):List Value:=[.int .u64 (wd S 0),.int .u64 (wd S 1),.int .u64 (wd S 2),.int .u64 (wd S 3)]
theorem tD(x:BitVec 64):IntKind.u64.wrap ((x.toNat:Nat):Int)=((x.toNat:Nat):Int):=by
 have:=x.isLt;simp only[IntKind.wrap,IntKind.bits,IntKind.signed,Bool.false_and,Bool.false_eq_true,if_false,decide_false,show (2:Int) ^ 64=18446744073709551616 from rfl];omega
theorem jE(x:BitVec 64):BitVec.ofInt 64 ((x.toNat:Nat):Int)=x:=by simp
theorem alK(x y:BitVec 64):cw .or .u64 (x.toNat:Nat) (y.toNat:Nat)=((x ||| y).toNat:Nat):=by
 show IntKind.u64.wrap (((BitVec.ofInt 64 ((x.toNat:Nat):Int) ||| BitVec.ofInt 64 ((y.toNat:Nat):Int):BitVec 64).toNat:Nat):Int)=_;rw[jE,jE,tD]
theorem Vk(x y:BitVec 64):cw .and .u64 (x.toNat:Nat) (y.toNat:Nat)=((x &&& y).toNat:Nat):=by
 show IntKind.u64.wrap (((BitVec.ofInt 64 ((x.toNat:Nat):Int) &&& BitVec.ofInt 64 ((y.toNat:Nat):Int):BitVec 64).toNat:Nat):Int)=_;rw[jE,jE,tD]
theorem alI(x y:BitVec 64):cw .xor .u64 (x.toNat:Nat) (y.toNat:Nat)=((x ^^^ y).toNat:Nat):=by
 show IntKind.u64.wrap (((BitVec.ofInt 64 ((x.toNat:Nat):Int) ^^^ BitVec.ofInt 64 ((y.toNat:Nat):Int):BitVec 64).toNat:Nat):Int)=_;rw[jE,jE,tD]
theorem alk(S T:CS)(j:Nat):cw .or .u64 (wd S j) (wd T j)=wd (S ||| T) j:=by
 rw[wd,wd,alK,wd,BitVec.extractLsb'_or]
theorem ajK(S T:CS)(j:Nat):cw .and .u64 (wd S j) (wd T j)=wd (S &&& T) j:=by
 rw[wd,wd,Vk,wd,BitVec.extractLsb'_and]
theorem E4(S:CS)(j:Nat)(hj:j<4):cw .xor .u64 (if IntKind.u64.signed=true then -1 else IntKind.u64.max) (wd S j)=wd (~~~S) j:=by
 have e:(if IntKind.u64.signed=true then -1 else IntKind.u64.max)=(((BitVec.allOnes 64).toNat:Nat):Int):=by decide
 rw[e,wd,alI,wd]
 congr 2
 apply BitVec.eq_of_getLsbD_eq;intro i hi;have h2:64*j+i<256:=oM;rw[BitVec.getLsbD_xor,BitVec.getLsbD_allOnes,BitVec.getLsbD_extractLsb',BitVec.getLsbD_extractLsb',BitVec.getLsbD_not];simp[hi,h2]
def uW(S:CS)(b:Nat):CS:=S ||| (1#256 <<< b)
theorem tF(S:CS)(b i:Nat)(hb:b<256):(uW S b).getLsbD i=(S.getLsbD i||decide (i=b)):=by
 simp only[uW,BitVec.getLsbD_or,BitVec.getLsbD_shiftLeft,BitVec.getLsbD_one];by_cases hi:i=b
 ·subst hi;simp[hb]
 ·have h:¬(i<256/\b<=i/\i-b=0):=oM;by_cases h1:i<256<;>by_cases h2:i<b<;>simp[h1,h2,hi]<;>omega
theorem akW(b:Nat)(hb:b<64):IntKind.u64.wrap (1*2 ^ (min b 64))=(((1#64 <<< b).toNat:Nat):Int):=by
 rw[Nat.min_eq_left oM];have h:(1#64 <<< b).toNat=2 ^ b:=by
  rw[BitVec.toNat_shiftLeft,Nat.shiftLeft_eq];have:2 ^ b<2 ^ 64:=Nat.pow_lt_pow_right oM hb;simp;omega
 rw[<- tD,h];simp
theorem vj(S:CS)(b:Nat)(hb:b<256):cw .or .u64 (wd S (b / 64)) (IntKind.u64.wrap (1*2 ^ (min (b % 64) 64)))=wd (uW S b) (b / 64):=by
 rw[akW _ (Nat.mod_lt _ oM),wd,alK,wd]
 congr 2
 apply BitVec.eq_of_getLsbD_eq;intro i hi;have hdm:=Nat.div_add_mod b 64;rw[BitVec.getLsbD_or,BitVec.getLsbD_extractLsb',BitVec.getLsbD_extractLsb',tF _ _ _ hb,BitVec.getLsbD_shiftLeft,BitVec.getLsbD_one];have e:decide (64*(b / 64)+i=b)=decide (i=b % 64):=by rw[decide_eq_decide];omega
 rw[e];by_cases h1:i=b % 64
 ·subst h1;simp[hi]
 ·by_cases h2:i<b % 64<;>simp[hi,h1,h2]<;>omega
theorem UH(S:CS)(b j:Nat)(hb:b<256)(hj:j≠b / 64):wd (uW S b) j=wd S j:=by
 rw[wd,wd]
 congr 2
 apply BitVec.eq_of_getLsbD_eq;intro i hi;rw[BitVec.getLsbD_extractLsb',BitVec.getLsbD_extractLsb',tF _ _ _ hb];have:decide (64*j+i=b)=false:=by rw[decide_eq_false_iff_not];omega
 rw[this,Bool.or_false]
theorem acR(S:CS)(b:Nat)(hb:b<256):(l7 S).take (b / 64)++.int .u64 (wd (uW S b) (b / 64))::(l7 S).drop (b / 64+1)=l7 (uW S b):=by
 have hq:b / 64<4:=oM;have ne:∀ j,j≠b / 64->wd S j=wd (uW S b) j:=λj hj=>(UH S b j hb hj).symm
 generalize hqe:b / 64=q at *
 match q,hq with
 |0,_=>simp[l7,ne 1,ne 2,ne 3]
 |1,_=>simp[l7,ne 0,ne 2,ne 3]
 |2,_=>simp[l7,ne 0,ne 1,ne 3]
 |3,_=>simp[l7,ne 0,ne 1,ne 2]
theorem aji(S:CS)(b:Nat)(hb:b<256):decide (cw .and .u64 ((wd S (b / 64)).fdiv (2 ^ (min (b % 64) 64))) 1=1)=S.getLsbD b:=by
 have hm:b % 64<64:=Nat.mod_lt _ oM;rw[Nat.min_eq_left oM];have e1:(wd S (b / 64)).fdiv (2 ^ (b % 64))=(((S.extractLsb' (64*(b / 64)) 64) >>> (b % 64)).toNat:Nat):=by
  rw[wd,BitVec.toNat_ushiftRight,Nat.shiftRight_eq_div_pow];have:(2:Int) ^ (b % 64)=((2 ^ (b % 64):Nat):Int):=by simp
  rw[this,Int.fdiv_eq_ediv_of_nonneg _ (Int.natCast_nonneg _)];rfl
 rw[e1,show (1:Int)=(((1#64).toNat:Nat):Int) from rfl,Vk];rw[Bool.eq_iff_iff,decide_eq_true_eq];have hdm:=Nat.div_add_mod b 64;constructor
 ·intro h;have h' : (S.extractLsb' (64*(b / 64)) 64 >>> (b % 64)) &&& 1#64=1#64:=BitVec.eq_of_toNat_eq (by exact_mod_cast h);have:=congrArg (λx=>x.getLsbD 0) h';simp only[BitVec.getLsbD_and,BitVec.getLsbD_ushiftRight,BitVec.getLsbD_extractLsb',BitVec.getLsbD_one]at this;simpa [hm,hdm] using this
 ·intro h;have h' : (S.extractLsb' (64*(b / 64)) 64 >>> (b % 64)) &&& 1#64=1#64:=by
   apply BitVec.eq_of_getLsbD_eq;intro i hi;simp only[BitVec.getLsbD_and,BitVec.getLsbD_ushiftRight,BitVec.getLsbD_extractLsb',BitVec.getLsbD_one];by_cases h0:i=0
   ·subst h0;simp[hm,hdm,h]
   ·simp[h0]
  rw[h']
theorem sb(b:Nat):((b:Int)).fdiv 64=((b / 64:Nat):Int):=by
 rw[Int.fdiv_eq_ediv_of_nonneg _ oM];omega
theorem Jj(b:Nat)(hb:b<256):cw .and .u8 (b:Int) 63=((b % 64:Nat):Int):=by
 have:∀ b:Fin 256,cw .and .u8 ((b.val:Nat):Int) 63=((b.val % 64:Nat):Int):=by decide +kernel
 exact this ⟨b,hb⟩
theorem RF(b:Nat)(hb:b<256):cw .and .i64 (b:Int) 63=((b % 64:Nat):Int):=by
 have:∀ b:Fin 256,cw .and .i64 ((b.val:Nat):Int) 63=((b.val % 64:Nat):Int):=by decide +kernel
 exact this ⟨b,hb⟩
theorem iC(S:CS)(j:Nat)(hj:j<4):(List.map SV.v (l7 S)).getD j (.v undef)=.v (.int .u64 (wd S j)):=by
 match j,hj with
 |0,_=>rfl
 |1,_=>rfl
 |2,_=>rfl
 |3,_=>rfl
theorem ln(S:CS)(b:Nat)(hb:b<256):List.take (b / 64) (List.map SV.v (l7 S))++[SV.v (.int .u64 (wd (uW S b) (b / 64)))]++List.drop (b / 64+1) (List.map SV.v (l7 S))=List.map SV.v (l7 (uW S b)):=by
 rw[<- acR S b hb];simp
theorem Fz(S:CS):(List.map SV.v (l7 S)).length=4:=rfl
end
section
open Go.RowKit Go.LE Go.Proofs.Tryz
set_option maxRecDepth 10000
def Γ0:Env prog:=⟨λ_=>none,λ_=>none,λ_ _=>none⟩
def cC(S:CS):Value:=.agg (l7 S).toArray
theorem dW(S:CS):Value.agg (l7 S).toArray=cC S:=rfl
theorem l4(S:CS):(l7 S).length=4:=rfl
theorem mO(S:CS):List.take 4 ((l7 S).map SV.v)=(l7 S).map SV.v:=rfl
theorem nH(S:CS):List.drop 4 ((l7 S).map SV.v)=[]:=rfl
theorem ll(S:CS):dv ((l7 S).map SV.v)=some (l7 S):=rfl
theorem qx(S:CS):((l7 S).map SV.v).all di=true:=rfl
theorem Fl(E:Nat->Value)(S:CS):den E (.agg ((l7 S).map SV.v))=cC S:=rfl
theorem jt(S:CS):((l7 S).map SV.v).length=4:=rfl
theorem e8(S:CS):partsOf (.v (cC S))=(l7 S).map SV.v:=rfl
theorem WW(S:CS)(j i:Nat)(hi:i<64):(BitVec.ofInt 64 (wd S j)).getLsbD i=S.getLsbD (64*j+i):=by
 rw[wd,jE,BitVec.getLsbD_extractLsb'];simp[hi]
theorem cJ(S T:CS)(h:cC S=cC T):S=T:=by
 have h:(l7 S)=l7 T:=congrArg (λv=>match v with|Value.agg a=>a.toList|_=>[]) h;simp only[l7,List.cons.injEq,Value.int.injEq,true_and,and_true]at h;have e0:=h.1;have e1:=h.2.1;have e2:=h.2.2.1;have e3:=h.2.2.2;apply BitVec.eq_of_getLsbD_eq;intro i hi
 have key:∀ j,wd S j=wd T j->i / 64=j->S.getLsbD i=T.getLsbD i:=λj e hj=>by
  have h1:=WW S j (i % 64) oM;have h2:=WW T j (i % 64) oM;rw[e]at h1;have:64*j+i % 64=i:=oM;rw[this]at h1 h2;rw[<- h1,<- h2]
 have:i / 64=0\/i / 64=1\/i / 64=2\/i / 64=3:=oM;rcases this with h|h|h|h
 ·exact key 0 e0 h
 ·exact key 1 e1 h
 ·exact key 2 e2 h
 ·exact key 3 e3 h
def E3:=(aj @List.replicate_succ.{0} @List.replicate_zero.{0} @an @ab jk jn gR (aj ck cf b9 b8 ca cc cg (aj cd fu fh fy ft fB dc (aj df dh db cY c8 pJ qg (aj pB pA vS vX xv vM @cC.eq_1 (aa @alk @ajK))))))
theorem TT(S T:CS)(w:World):Calls prog 274 #[cC S,cC T] w λe w' => e=.returned (cC (S ||| T))/\ah w [] w' := by
 refine af (nt:=26) [.cell 4 309] func274 rfl rfl rfl ?_;refine vR Γ0 (aa E3 @l7.eq_1) ?_;refine vR Γ0 (aa E3 @l7.eq_1) ?_;refine wZ E3 ?_;exact λE=>rfl
theorem aci(S:CS)(w:World):Calls prog 224 #[cC S] w λe w' => e=.returned (cC (~~~S))/\ah w [] w' := by
 have h0:=E4 S 0 oM;have h1:=E4 S 1 oM;have h2:=E4 S 2 oM;have h3:=E4 S 3 oM;refine af (nt:=16) [.cell 2 309] func224 rfl rfl rfl ?_;refine vR Γ0 (aa E3 @l7.eq_1) ?_;refine vR Γ0 (ml E3 @l7.eq_1 h0 h1 h2 h3) ?_;refine wZ E3 ?_;exact λE=>rfl
theorem ab8(S:CS)(b:Nat)(hb:b<256)(w:World):Calls prog 225 #[cC S,.int .u8 b] w λe w' => e=.returned (.bool (S.getLsbD b))/\ah w [] w' := by
 have hq:b / 64<4:=oM;refine af (nt:=14) [.tmp 4] func225 rfl rfl rfl ?_;refine vR Γ0 E3 ?_
 refine Wp.pn Γ0 cj (by simp only[kp,Op.operands,Value.cells,σ0,σB,Nat.reduceEqDiff,Nat.reduceAdd,Nat.reduceMul,Nat.reduceLT,Nat.reduceLeDiff,Nat.reduceBEq,av,Int.reduceToNat,Int.reduceLT,Int.reduceLE,Nat.reduceDiv,Nat.reduceMod,Nat.reduceSub,Int.reducePow,Nat.reducePow,σP,σB3,E3,sb,Jj b hb,iC S _ hq,aji S b hb,Fz];exact rfl) rfl ?_ ?_
 ·exact oo
 refine wZ E3 ?_;exact λE=>rfl
def pL(lo:Nat):Nat->CS
 |0=>0
 |n+1=>uW (pL lo n) (lo+n)
def span(lo hi:Nat):CS:=pL lo (hi+1-lo)
theorem Dk(lo:Nat):∀ (n i:Nat),lo+n<=256->(pL lo n).getLsbD i=decide (lo<=i/\i<lo+n)
 |0,i,_=>by simp[pL]
 |n+1,i,h=>by
  rw[pL,tF _ _ _ oM,Dk lo n i oM,<- Bool.decide_or,decide_eq_decide];omega
theorem Hh(lo hi i:Nat)(h:hi<256):(span lo hi).getLsbD i=decide (lo<=i/\i<=hi):=by
 by_cases hl:lo<=hi
 ·rw[span,Dk _ _ _ oM,decide_eq_decide];omega
 ·rw[span,show hi+1-lo=0 by omega,pL];simp;omega
theorem zo:(l7 0).map SV.v=[SV.v (.int .u64 0),SV.v (.int .u64 0),SV.v (.int .u64 0),SV.v (.int .u64 0)]:=by
 simp[l7,wd]
def kq:=(aj @List.replicate_succ.{0} @List.replicate_zero.{0} @an @ab jk jn gR (aj ck cf b9 b8 ca cc cg (aj cd fu fh fy ft fB dc (aj df dh db cY c8 pJ qg (ur pB pA vS vX xv vM @cC.eq_1)))))
theorem WL(lo hi:Nat)(hl:lo<256)(hh:hi<256)(w:World):Calls prog 271 #[.int .u8 lo,.int .u8 hi] w λe w' => e=.returned (cC (span lo hi))/\ah w [] w' := by
 have w0:IntKind.i64.wrap (lo:Int)=lo:=ae oM oM;have w1:IntKind.i64.wrap (hi:Int)=hi:=ae oM oM;refine af (nt:=25) [.cell 4 309] func271 rfl rfl rfl ?_;refine vR Γ0 kq ?_;refine vR Γ0 kq ?_;refine Wp.seq (Wp.seq ?_);refine vr Γ0 (aa kq w0) ?_;refine Wp.block ?_
 refine Wp.loop (λj:Nat=>⟨2,bm [(1,.is (.v (.int .u8 hi))),(4,.is (.own 0 0)),(5,.is (.own 8 0)),(6,.is (.v (.int .i64 ((lo+j:Nat):Int))))],aY [(0,.cells 309 [.v (.int .u64 0),.v (.int .u64 0),.v (.int .u64 0),.v (.int .u64 0)]),(8,.cells 309 ((l7 (pL lo j)).map .v))]⟩)
  (λj=>j<=hi+1-lo) (λj=>hi+1-lo-j) 0 ?_ (Nat.zero_le _) ?_
 ·exact wM (λk=>.key k) (eS kq @pL.eq_1 @pL.eq_2 @zo)
 rintro j h1;have hr2:IntKind.i64.wrap ((lo+j:Nat):Int)=((lo+j:Nat):Int):=ae oM oM;refine Wp.seq ?_;refine vR Γ0 (aa kq w1) ?_;refine wC kq (λhc=>?_) (λhc=>?_)
 ·simp only[decide_eq_true_eq]at hc;have hb:lo+j<256:=oM;have hq:(lo+j) / 64<4:=oM;have wn:IntKind.i64.wrap (((lo+j:Nat):Int)+1)=((lo+(j+1):Nat):Int):=wW;refine wK ?_;refine Wp.seq (Wp.block ?_)
  refine Wp.abW Γ0 cj (by simp only[kp,Op.operands,Value.cells,σ0,σB,Nat.reduceEqDiff,Nat.reduceAdd,Nat.reduceMul,Nat.reduceLT,Nat.reduceLeDiff,Nat.reduceBEq,av,Int.reduceToNat,Int.reduceLT,Int.reduceLE,Nat.reduceDiv,Nat.reduceMod,Nat.reduceSub,Int.reducePow,Nat.reducePow,σP,σB3,kq,sb,RF _ hb,iC _ _ hq,vj _ _ hb,ln _ _ hb,Fz];exact rfl) rfl (by kernel_rfl) ?_ ?_
  ·exact oo
  refine qq ?_;refine vr Γ0 (aa kq wn) ?_;refine⟨j+1,oM,oM,?_⟩
  exact Le.mk (λk=>.key k) ⟨by simp[FV.keys,SV.keys,ay],by simp[aS.keys,ay,SV.keys,aB,aT]⟩ (by simp only[kp,Op.operands,Value.cells,σ0,σB,Nat.reduceEqDiff,Nat.reduceAdd,Nat.reduceMul,Nat.reduceLT,Nat.reduceLeDiff,Nat.reduceBEq,av,Int.reduceToNat,Int.reduceLT,Int.reduceLE,Nat.reduceDiv,Nat.reduceMod,Nat.reduceSub,Int.reducePow,Nat.reducePow,σP,σB3,kq,pL,sb,iC _ _ hq,vj _ _ hb,ln _ _ hb,LD,LC,fL,bS]<;>trivial) (by simp only[kp,Op.operands,Value.cells,σ0,σB,Nat.reduceEqDiff,Nat.reduceAdd,Nat.reduceMul,Nat.reduceLT,Nat.reduceLeDiff,Nat.reduceBEq,av,Int.reduceToNat,Int.reduceLT,Int.reduceLE,Nat.reduceDiv,Nat.reduceMod,Nat.reduceSub,Int.reducePow,Nat.reducePow,σP,σB3,kq,pL,sb,iC _ _ hq,vj _ _ hb,ln _ _ hb,xD,oF,gA,fV,gz,fL]<;>trivial) (by simp[eI]) sI
 ·simp only[decide_eq_false_iff_not]at hc;have hj:j=hi+1-lo:=oM;refine wE ?_;refine vR Γ0 (aa kq @l7.eq_1) ?_;refine wZ kq ?_;subst hj;exact λE=>rfl
def Ki(s:ByteArray):Nat->CS
 |0=>0
 |n+1=>uW (Ki s n) (bt s n).toNat
theorem fA(s:ByteArray)(i:Int):0<=bt s i/\bt s i<256:=by
 unfold bt;have:=(s.data[i.toNat]?.getD 0).toNat_lt;omega
theorem aiH(s:ByteArray)(hs:s.size<=140737488351232)(w:World):Calls prog 245 #[.string s] w λe w' => e=.returned (cC (Ki s s.size))/\ah w [] w' := by
 refine af (nt:=25) [.cell 2 309] func245 rfl rfl rfl ?_;refine vR Γ0 kq ?_;refine vR Γ0 kq ?_;refine Wp.seq ?_;refine vR Γ0 kq ?_;refine Wp.block ?_
 refine Wp.loop (λj:Nat=>⟨2,bm [(0,.is (.v (.string s))),(2,.is (.own 0 0)),(3,.is (.own 8 0)),(6,.is (.v (.int .i64 s.size))),(7,.is (.v (.int .i64 j)))],aY [(0,.cells 309 [.v (.int .u64 0),.v (.int .u64 0),.v (.int .u64 0),.v (.int .u64 0)]),(8,.cells 309 ((l7 (Ki s j)).map .v))]⟩)
  (λj=>j<=s.size) (λj=>s.size-j) 0 ?_ (Nat.zero_le _) ?_
 ·exact wM (λk=>.key k) (eS kq @Ki.eq_1 @Ki.eq_2 @zo)
 rintro j h1;refine vR Γ0 kq ?_;refine Wp.seq ?_;refine wC kq (λhc=>?_) (λhc=>?_)
 ·simp only[decide_eq_true_eq]at hc;have hj:j<s.size:=oM;obtain⟨b0,b1⟩:=fA s j;obtain⟨b,hbe⟩:=Int.eq_ofNat_of_zero_le b0;have hb:b<256:=oM;have hq:b / 64<4:=oM;have hof:Ki s (j+1)=uW (Ki s j) b:=by rw[Ki,hbe];rfl
  have wn:IntKind.i64.wrap ((j:Int)+1)=((j+1:Nat):Int):=wW;refine wK ?_;refine Wp.seq (Wp.block ?_);refine vR Γ0 kq ?_
  refine Wp.abW Γ0 cj (by simp only[kp,Op.operands,Value.cells,σ0,σB,Nat.reduceEqDiff,Nat.reduceAdd,Nat.reduceMul,Nat.reduceLT,Nat.reduceLeDiff,Nat.reduceBEq,av,Int.reduceToNat,Int.reduceLT,Int.reduceLE,Nat.reduceDiv,Nat.reduceMod,Nat.reduceSub,Int.reducePow,Nat.reducePow,σP,σB3,kq,hbe,sb,Jj _ hb,iC _ _ hq,vj _ _ hb,ln _ _ hb,Fz];exact rfl) rfl (by kernel_rfl) ?_ ?_
  ·exact oo
  refine qq ?_;refine vr Γ0 (aa kq wn) ?_;refine⟨j+1,oM,oM,?_⟩
  exact Le.mk (λk=>.key k) ⟨by simp[FV.keys,SV.keys,ay],by simp[aS.keys,ay,SV.keys,aB,aT]⟩ (by simp only[kp,Op.operands,Value.cells,σ0,σB,Nat.reduceEqDiff,Nat.reduceAdd,Nat.reduceMul,Nat.reduceLT,Nat.reduceLeDiff,Nat.reduceBEq,av,Int.reduceToNat,Int.reduceLT,Int.reduceLE,Nat.reduceDiv,Nat.reduceMod,Nat.reduceSub,Int.reducePow,Nat.reducePow,σP,σB3,kq,hof,hbe,sb,iC _ _ hq,vj _ _ hb,ln _ _ hb,LD,LC,fL,bS]<;>trivial) (by simp only[kp,Op.operands,Value.cells,σ0,σB,Nat.reduceEqDiff,Nat.reduceAdd,Nat.reduceMul,Nat.reduceLT,Nat.reduceLeDiff,Nat.reduceBEq,av,Int.reduceToNat,Int.reduceLT,Int.reduceLE,Nat.reduceDiv,Nat.reduceMod,Nat.reduceSub,Int.reducePow,Nat.reducePow,σP,σB3,kq,hof,hbe,sb,iC _ _ hq,vj _ _ hb,ln _ _ hb,xD,oF,gA,fV,gz,fL]<;>trivial) (by simp[eI]) sI
 ·simp only[decide_eq_false_iff_not]at hc;have hj:j=s.size:=oM;refine wE ?_;refine vR Γ0 (aa kq @l7.eq_1) ?_;refine wZ kq ?_;subst hj;exact λE=>rfl
def kn(s:ByteArray)(c:Int):Int:=Lib.indexByte s.data.toList c.toNat.toUInt8
def ixX:PV prog 231 where
 pre:=λ_ _=>λ| [.val (.string _),.val (.int .u8 _)]=>True|_=>False
 res:=λ_=>λ| [.val (.string s),.val (.int .u8 c)]=>.int .i64 (kn s c)|_=>undef
 ok:=by
  intro W w bs us as_ hk hu hp;split at hp
  ·rename_i s c
   match us,hu with
   |[u,v],hu=>
    obtain⟨rfl,rfl,_⟩:=hu;rw[run_callFunc_extern func231 (by kernel_rfl) (by kernel_rfl) (by kernel_rfl) (e:=Extern.BytealgIndexByte.indexByte) (by kernel_rfl),Lib.run_indexByteString];rfl
  ·exact hp.elim
theorem acW(W:World)(s:ByteArray)(c:Int):ixX.res W [.val (.string s),.val (.int .u8 c)]=.int .i64 (kn s c):=rfl
theorem agP(W:World)(bs:List Nat)(s:ByteArray)(c:Int):ixX.pre W bs [.val (.string s),.val (.int .u8 c)]=True:=rfl
noncomputable def Γ10:Env prog:=⟨λ| 231=>some ixX.spec|_=>none,λ| _=>none,λ_ _=>none⟩
theorem agu:Γ10.sp 231=some ixX.spec:=rfl
def agc:=(aj @List.replicate_succ.{0} @List.replicate_zero.{0} @an @ab jk jn gR (aj ck cf b9 b8 ca cc cg (aj cd fu fh fy ft fB dc (aj df dh db cY c8 WC aab (aj V9 aaC zl yK yS y5 Bb (aj AY AI AO Ar yQ PY OM (aj Qm OK QE PS PF Qh Pt (aj Qb Ow Oe OP @aG @al @ax (eS @aw @acW @agP agu)))))))))
theorem Su(s:ByteArray)(c:Int)(w:World):Calls prog 189 #[.string s,.int .u8 c] w λe w' => e=.returned (.int .i64 (kn s c))/\ah w [] w' := by
 refine af (nt:=8) [.tmp 4] func189 rfl rfl rfl ?_;refine vR Γ10 agc ?_;refine vR Γ10 agc ?_;refine wZ agc ?_;exact λE=>rfl
def OI:aM prog 189 where
 pre:=λW bs=>λ| [.val (.string s),.val (.int .u8 c)]=>True|_=>False
 res:=λW=>λ| [.val (.string s),.val (.int .u8 c)]=>.int .i64 (kn s c)|_=>undef
 enters:=call189
 ok:=by
  intro W w bs us as_ hk hu hp;split at hp
  ·rename_i s c
   match us,hu with
   |[u0,u1],hu=>
    obtain⟨rfl,rfl,_⟩:=hu;exact Su s c w
  ·exact hp.elim
theorem RC(W:World)(s:ByteArray)(c:Int):OI.res W [.val (.string s),.val (.int .u8 c)]=.int .i64 (kn s c):=rfl
theorem Uf(W:World)(bs:List Nat)(s:ByteArray)(c:Int):OI.pre W bs [.val (.string s),.val (.int .u8 c)]=(True):=rfl
noncomputable def Γ11:Env prog:=⟨λ| 189=>some OI.spec|_=>none,λ| _=>none,λ_ _=>none⟩
theorem aeW:Γ11.sp 189=some OI.spec:=rfl
def ae1:=(eS agc RC Uf aeW)
theorem aih(s:ByteArray)(c:Int)(w:World):Calls prog 138 #[.string s,.int .u8 c] w λe w' => e=.returned (.int .i64 (kn s c))/\ah w [] w' := by
 refine af (nt:=8) [.tmp 4] func138 rfl rfl rfl ?_;refine vR Γ11 ae1 ?_;refine vR Γ11 ae1 ?_;refine wZ ae1 ?_;exact λE=>rfl
def ixC:aM prog 138 where
 pre:=λW bs=>λ| [.val (.string s),.val (.int .u8 c)]=>True|_=>False
 res:=λW=>λ| [.val (.string s),.val (.int .u8 c)]=>.int .i64 (kn s c)|_=>undef
 enters:=call138
 ok:=by
  intro W w bs us as_ hk hu hp;split at hp
  ·rename_i s c
   match us,hu with
   |[u0,u1],hu=>
    obtain⟨rfl,rfl,_⟩:=hu;exact aih s c w
  ·exact hp.elim
theorem F9(W:World)(s:ByteArray)(c:Int):ixC.res W [.val (.string s),.val (.int .u8 c)]=.int .i64 (kn s c):=rfl
theorem FW(W:World)(bs:List Nat)(s:ByteArray)(c:Int):ixC.pre W bs [.val (.string s),.val (.int .u8 c)]=(True):=rfl
def Eu(s:ByteArray)(i:Int):List AV:=[.val (.string s),.val (.int .i64 i)]
def jP(i:Int):List PanicEntry:=[{ v:=.iface 39 (.agg #[.int .i64 10,.int .i64 i,.string ⟨#[]⟩]),recovered:=false }]
def Hq:=(bP ae1 @F9 @FW)
theorem Yl(s:ByteArray)(i:Int)(u:Value)(fp:List Nat)(w:World)(h0:0<=i)(ho:bC w u fp 375 (Eu s i))(hlt:∀ b∈fp,b<w.heap.size) :
  Calls prog 272 (#[u]++#[]) w λe w' => gM w u fp 375 e w' (.ret (.tuple #[.int .u8 (bt s i),.bool (decide (i<s.size))]) (Eu s i)):=by
 refine bg (nt:=23) #[] [.tmp 2,.tmp 3] (by show 2<=7;omega) ho hlt func272 rfl rfl rfl ?_;refine vR Γ11 (aa Hq @Eu.eq_1) ?_;refine Wp.seq ?_;refine Qw Γ11 Hq ?_;refine wC Hq (λhc=>?_) (λhc=>?_)
 ·simp only[decide_eq_true_eq]at hc;refine Qw Γ11 Hq ?_;refine wZ Hq ?_;exact⟨_,_,rfl,λE=>by rw[decide_eq_true hc];rfl,_,_,rfl,rfl,dE⟩
 ·simp only[decide_eq_false_iff_not]at hc;have hb:bt s i=0:=by
   unfold bt;rw[Array.getElem?_eq_none (by have:s.data.size=s.size:=rfl;omega)];rfl
  refine wK ?_;refine vR Γ11 Hq ?_;refine wZ Hq ?_;exact⟨_,_,rfl,λE=>by rw[decide_eq_false hc,hb];rfl,_,_,rfl,rfl,dE⟩
def pt:ed prog 272 where
 T:=375
 pre:=λW bs fs as_=>match fs,as_ with|[.val (.string s),.val (.int .i64 i)],[]=>0<=i|_,_=>False
 out:=λW fs as_=>match fs,as_ with|[.val (.string s),.val (.int .i64 i)],[]=>.ret (.tuple #[.int .u8 (bt s i),.bool (decide (i<s.size))]) (Eu s i)|_,_=>.pan [] undef
 enters:=call272
 ok:=by
  intro W w bs u fp us fs as_ hk ho hlt hmine hu hp;split at hp
  ·rename_i s i
   match us,hu with
   |[],_=>
    exact Yl s i u fp w hp ho hlt
  ·exact hp.elim
theorem vt(W:World)(s:ByteArray)(i:Int):pt.out W [.val (.string s),.val (.int .i64 i)] []=.ret (.tuple #[.int .u8 (bt s i),.bool (decide (i<s.size))]) (Eu s i):=rfl
theorem uF(W:World)(bs:List Nat)(s:ByteArray)(i:Int):pt.pre W bs [.val (.string s),.val (.int .i64 i)] []=(0<=i):=rfl
theorem Fp:pt.T=375:=rfl
def amD:=(eS Hq @vt @uF @Fp)
theorem Vc(s:ByteArray)(i j:Int)(u:Value)(fp:List Nat)(w:World)(ho:bC w u fp 375 (Eu s i))(hlt:∀ b∈fp,b<w.heap.size) :
  Calls prog 273 (#[u]++#[.int .i64 j]) w λe w' => gM w u fp 375 e w' (.pan (jP j) (.tuple #[])):=by
 refine bg (nt:=7) #[.int .i64 j] [] (by show 2<=7;omega) ho hlt func273 rfl rfl rfl ?_;refine Wp.q7 Γ11 cj (ev (aa amD @Eu.eq_1)) ?_ ?_
 ·exact oo
 refine qq ?_;exact⟨_,rfl⟩
def pP:ed prog 273 where
 T:=375
 pre:=λW bs fs as_=>match fs,as_ with|[.val (.string s),.val (.int .i64 i)],[.val (.int .i64 j)]=>True|_,_=>False
 out:=λW fs as_=>match fs,as_ with|[.val (.string s),.val (.int .i64 i)],[.val (.int .i64 j)]=>.pan (jP j) (.tuple #[])|_,_=>.pan [] undef
 enters:=call273
 ok:=by
  intro W w bs u fp us fs as_ hk ho hlt hmine hu hp;split at hp
  ·rename_i s i j
   match us,hu with
   |[u0],hu=>
    obtain⟨rfl,_⟩:=hu;exact Vc s i j u fp w ho hlt
  ·exact hp.elim
theorem CW(W:World)(s:ByteArray)(i:Int)(j:Int):pP.out W [.val (.string s),.val (.int .i64 i)] [.val (.int .i64 j)]=.pan (jP j) (.tuple #[]):=rfl
theorem Dt(W:World)(bs:List Nat)(s:ByteArray)(i:Int)(j:Int):pP.pre W bs [.val (.string s),.val (.int .i64 i)] [.val (.int .i64 j)]=(True):=rfl
theorem OE:pP.T=375:=rfl
noncomputable def Γ12:Env prog:=⟨λ| 138=>some ixC.spec|272=>some pt.spec|273=>some pP.spec|_=>none,λ| _=>none,λ_ _=>none⟩
theorem abt:Γ12.sp 138=some ixC.spec:=rfl
theorem agM:Γ12.sp 272=some pt.spec:=rfl
theorem af6:Γ12.sp 273=some pP.spec:=rfl
def fw:ByteArray:=⟨#[48,49,50,51,52,53,54,55,56,57,97,98,99,100,101,102]⟩
def Ab(s:ByteArray):Except Int (Int×Int)->BOut
 |.ok (b,j)=>.ret (.int .u8 b) (Eu s j)
 |.error j=>.pan (jP j) (.int .u8 0)
def iI(s:ByteArray)(i:Int):Except Int (Int×Int):=if i<s.size/\0<=kn fw (bt s i) then .ok (kn fw (bt s i),i+1) else .error i
theorem xZ(c:Int)(h0:0<=c)(h1:c<256):-1<=kn fw c/\kn fw c<16:=by
 obtain⟨n,rfl⟩:=Int.eq_ofNat_of_zero_le h0;have:∀ b:Fin 256,-1<=kn fw ((b.val:Nat):Int)/\kn fw ((b.val:Nat):Int)<16:=by decide +kernel
 exact this ⟨n,oM⟩
theorem eQ{n:Int}(h0:0<=n)(h1:n<256):IntKind.u8.wrap n=n:=by
 simp only[IntKind.wrap,IntKind.bits,IntKind.signed,Bool.false_and,Bool.false_eq_true,if_false,decide_false,show (2:Int) ^ 8=256 from rfl];omega
theorem Ov(s:ByteArray)(b j:Int):Ab s (.ok (b,j))=.ret (.int .u8 b) (Eu s j):=rfl
theorem zI(s:ByteArray)(j:Int):Ab s (.error j)=.pan (jP j) (.int .u8 0):=rfl
def rq:=(aj @List.replicate_succ.{0} @List.replicate_zero.{0} @an @ab jk jn gR (aj ck cf b9 b8 ca cc cg (aj cd fu fh fy ft fB dc (aj df dh db cY c8 PY OM (aj ahn ahS ahM ahT ahK ahR ahm (aj ahP ahF ahy Qm OK QE PS (aj PF Qh Pt Qb Ow Oe OP (aj @aG @al @ax @aw @F9 @FW @vt (aj @uF @Fp @CW @Dt @OE @Eu.eq_1 @jP.eq_1 (bP abt agM af6))))))))))
theorem ae2(s:ByteArray)(i:Int)(u:Value)(fp:List Nat)(w:World)(h0:0<=i)(hs:s.size<=140737488351232)(ho:bC w u fp 375 (Eu s i))(hlt:∀ b∈fp,b<w.heap.size) :
  Calls prog 276 (#[u]++#[]) w λe w' => gM w u fp 375 e w' (Ab s (iI s i)):=by
 obtain⟨b0,b1⟩:=fA s i;obtain⟨x0,x1⟩:=xZ _ b0 b1;refine bg (nt:=34) #[] [.tmp 2] (by show 2<=7;omega) ho hlt func276 rfl rfl rfl ?_;refine vR Γ12 rq ?_;refine wR Γ12 rq ?_ ?_
 ·simp[h0]
 refine vR Γ12 rq ?_;refine Wp.seq ?_;refine vR Γ12 rq ?_;refine wC rq (λhc=>?_) (λhc=>?_)
 ·have he:iI s i=.error i:=by
   rw[iI,if_neg];simp[fw]at hc ⊢;omega
  rw[he];refine Wp.q7 Γ12 cj (ev rq) ?_ ?_
  ·simp
  refine qq ?_;exact⟨_,rfl⟩
 ·have hi:i<s.size/\0<=kn fw (bt s i):=by
   simp[fw]at hc ⊢;omega
  have he:iI s i=.ok (kn fw (bt s i),i+1):=by rw[iI,if_pos hi]
  have w1:IntKind.i64.wrap (i+1)=i+1:=ae oM oM;have w2:IntKind.u8.wrap (kn fw (bt s i))=kn fw (bt s i):=eQ hi.2 oM;rw[he];refine wK ?_;refine vR Γ12 (aa rq w1) ?_;refine vR Γ12 (aa rq w2) ?_;refine wZ rq ?_
  exact⟨_,_,rfl,λE=>by simp only[den];rw[show kn fw (bt s i)=kn ⟨#[48,49,50,51,52,53,54,55,56,57,97,98,99,100,101,102]⟩ (bt s i) from rfl]at w2;exact congrArg _ w2,_,_,rfl,rfl,dE⟩
def WY:ed prog 276 where
 T:=375
 pre:=λW bs fs as_=>match fs,as_ with|[.val (.string s),.val (.int .i64 i)],[]=>0<=i/\s.size<=140737488351232|_,_=>False
 out:=λW fs as_=>match fs,as_ with|[.val (.string s),.val (.int .i64 i)],[]=>Ab s (iI s i)|_,_=>.pan [] undef
 enters:=call276
 ok:=by
  intro W w bs u fp us fs as_ hk ho hlt hmine hu hp;split at hp
  ·rename_i s i
   match us,hu with
   |[],_=>
    exact ae2 s i u fp w hp.1 hp.2 ho hlt
  ·exact hp.elim
theorem Za(W:World)(s:ByteArray)(i:Int):WY.out W [.val (.string s),.val (.int .i64 i)] []=Ab s (iI s i):=rfl
theorem Zj(W:World)(bs:List Nat)(s:ByteArray)(i:Int):WY.pre W bs [.val (.string s),.val (.int .i64 i)] []=(0<=i/\s.size<=140737488351232):=rfl
theorem ah8:WY.T=375:=rfl
noncomputable def qe:Env prog:=⟨λ| 138=>some ixC.spec|272=>some pt.spec|273=>some pP.spec|276=>some WY.spec|_=>none,λ| _=>none,λ_ _=>none⟩
theorem ac4:qe.sp 138=some ixC.spec:=rfl
theorem acQ:qe.sp 272=some pt.spec:=rfl
theorem adp:qe.sp 273=some pP.spec:=rfl
theorem aeU:qe.sp 276=some WY.spec:=rfl
def bB(W:World)(S:Nat->Prop):Prop:=S 4/\W.cell? ⟨4,0,none⟩=some (.int .u8 110)/\W.cell? ⟨4,0+1,none⟩=some (.int .u8 10)/\W.cell? ⟨4,0+1+1,none⟩=some (.int .u8 114)/\W.cell? ⟨4,0+1+1+1,none⟩=some (.int .u8 13) /\
 W.cell? ⟨4,0+1+1+1+1,none⟩=some (.int .u8 116)/\W.cell? ⟨4,0+1+1+1+1+1,none⟩=some (.int .u8 9)
theorem bB.mono{W W' : World}{S S' : Nat->Prop}(h:bB W S)(hs:cT W S W' S'):bB W' S' := by
 obtain⟨h0,h1,h2,h3,h4,h5,h6⟩:=h;have g:∀ o v,W.cell? ⟨4,o,none⟩=some v->W'.cell? ⟨4,o,none⟩=some v/\S' 4:=λo v hv=>by
  have:=XC.mono (b:=4) (o:=o) (v:=v) ⟨h0,hv⟩ hs;exact⟨this.2,this.1⟩
 exact⟨(g _ _ h1).2,(g _ _ h1).1,(g _ _ h2).1,(g _ _ h3).1,(g _ _ h4).1,(g _ _ h5).1,(g _ _ h6).1⟩
theorem bB.dU{W w:World}{bs fp:List Nat}(h:bB W (Out bs))(hk:ah W bs w)(hm:∀ b∈fp,W.heap.size<=b\/b∈bs):bB w (Out fp):=
 h.mono λb hb hs=>⟨hk.block b hb hs,λhb' => (hm b hb').elim (λg=>absurd g (Nat.not_le.2 hb)) hs⟩
def eK(s:ByteArray)(i:Int):Except Int (Int×Int):=
 if ¬ i<s.size then .error i
 else if bt s i=110 then .ok (10,i+1)
 else if bt s i=114 then .ok (13,i+1)
 else if bt s i=116 then .ok (9,i+1)
 else if bt s i=120 then
  match iI s (i+1) with
  |.error j=>.error j
  |.ok (h,j)=>match iI s j with
   |.error k=>.error k
   |.ok (l,k)=>.ok (16*h+l,k)
 else if (((bt s i<32\/126<bt s i)\/48<=bt s i/\bt s i<=57)\/97<=bt s i/\bt s i<=122)\/65<=bt s i/\bt s i<=90 then .error i
 else .ok (bt s i,i+1)
theorem tW{s:ByteArray}{i h j:Int}(he:iI s i=.ok (h,j))(h0:0<=i):0<=h/\h<16/\j=i+1/\i<s.size:=by
 rw[iI]at he;split at he
 ·rename_i hc;simp only[Except.ok.injEq,Prod.mk.injEq]at he;obtain⟨rfl,rfl⟩:=he;obtain⟨b0,b1⟩:=fA s i;have:=xZ _ b0 b1;exact⟨hc.2,this.2,rfl,hc.1⟩
 ·cases he
theorem aiw(h l:Int)(h0:0<=h)(h1:h<16)(l0:0<=l)(l1:l<16):cw .or .u8 (IntKind.u8.wrap (h*16)) l=16*h+l:=by
 obtain⟨n,rfl⟩:=Int.eq_ofNat_of_zero_le h0;obtain⟨m,rfl⟩:=Int.eq_ofNat_of_zero_le l0;have:∀ a b:Fin 16,cw .or .u8 (IntKind.u8.wrap (((a.val:Nat):Int)*16)) ((b.val:Nat):Int)=16*((a.val:Nat):Int)+((b.val:Nat):Int):=by decide +kernel
 exact this ⟨n,oM⟩ ⟨m,oM⟩
def bO:=(aj rq Za Zj ah8 @Ov @zI ac4 (bP acQ adp aeU))
theorem adN(s:ByteArray)(i:Int)(u:Value)(fp:List Nat)(w:World)(h0:0<=i)(hs:s.size<=140737488351232)(hg:bB w (Out fp))(ho:bC w u fp 375 (Eu s i))(hlt:∀ b∈fp,b<w.heap.size) :
  Calls prog 275 (#[u]++#[]) w λe w' => gM w u fp 375 e w' (Ab s (eK s i)):=by
 obtain⟨b0,b1⟩:=fA s i;obtain⟨g0,g1,g2,g3,g4,g5,g6⟩:=hg;have g0' : ¬ 4∈fp:=g0;refine bg (nt:=99) #[] [.tmp 2] (by show 2<=7;omega) ho hlt func275 rfl rfl rfl ?_;refine vR qe bO ?_;refine wR qe bO ?_ ?_
 ·simp[h0]
 refine Wp.seq ?_;refine vR qe bO ?_;refine wC bO (λhc=>?_) (λhc=>?_)
 ·simp at hc;have he:eK s i=.error i:=by rw[eK,if_pos oM]
  rw[he];refine Wp.q7 qe cj (ev bO) ?_ ?_
  ·simp
  refine qq ?_;exact⟨_,rfl⟩
 ·simp at hc;have hi:i<s.size:=oM;have w1:IntKind.i64.wrap (i+1)=i+1:=ae oM oM;refine wK ?_;refine Wp.seq ?_;refine wR qe (ur bO g1 g2 g3 g4 g5 g6) ?_ ?_
  ·simp[Out,g0',ay,SV.keys]
  refine Wp.block ?_
  refine Wp.loop (λk:Nat=>⟨40,bm [(0,.is (.own 0 0)),(3,.is (.v (.int .u8 (bt s i)))),(21,.is (.agg [.v (.int .u8 110),.v (.int .u8 10),.v (.int .u8 114),.v (.int .u8 13),.v (.int .u8 116),.v (.int .u8 9)])),(22,.is (.v (.int .i64 k)))],aY [(0,.cells 375 [.v (.string s),.v (.int .i64 i)])]⟩)
   (λk=>k<=3/\(0<k->bt s i≠110)/\(1<k->bt s i≠114)/\(2<k->bt s i≠116)) (λk=>3-k) 0 ?_ ⟨oM,oM,oM,oM⟩ ?_
  ·exact wM (λk=>.key k) bO
  rintro k ⟨k0,k1,k2,k3⟩;refine vR qe bO ?_;refine Wp.seq ?_;refine wC bO (λhc=>?_) (λhc=>?_)
  ·simp at hc;refine wK ?_;have hk3:k<3:=oM;have hcase:k=0\/k=1\/k=2:=oM;refine Wp.seq (Wp.block ?_);rcases hcase with rfl|rfl|rfl
   ·skip;refine vR qe bO ?_;refine vR qe bO ?_;refine wC bO (λhc=>?_) (λhc=>?_)
    ·simp at hc;have he:eK s i=.ok (10,i+1):=by rw[eK,if_neg oM,if_pos oM]
     rw[he];refine vR qe (aa bO w1) ?_;refine vR qe bO ?_;refine wZ bO ?_;exact⟨_,_,rfl,λE=>rfl,_,_,rfl,rfl,dE⟩
    ·simp at hc;refine wK ?_;refine vr qe bO ?_;refine⟨1,⟨oM,oM,oM,oM⟩,oM,?_⟩;exact wM (λk=>.key k) bO
   ·skip;refine vR qe bO ?_;refine vR qe bO ?_;refine wC bO (λhc=>?_) (λhc=>?_)
    ·simp at hc;have he:eK s i=.ok (13,i+1):=by rw[eK,if_neg oM,if_neg (k1 oM),if_pos oM]
     rw[he];refine vR qe (aa bO w1) ?_;refine vR qe bO ?_;refine wZ bO ?_;exact⟨_,_,rfl,λE=>rfl,_,_,rfl,rfl,dE⟩
    ·simp at hc;refine wK ?_;refine vr qe bO ?_;refine⟨2,⟨oM,oM,oM,oM⟩,oM,?_⟩;exact wM (λk=>.key k) bO
   ·skip;refine vR qe bO ?_;refine vR qe bO ?_;refine wC bO (λhc=>?_) (λhc=>?_)
    ·simp at hc;have he:eK s i=.ok (9,i+1):=by rw[eK,if_neg oM,if_neg (k1 oM),if_neg (k2 oM),if_pos oM]
     rw[he];refine vR qe (aa bO w1) ?_;refine vR qe bO ?_;refine wZ bO ?_;exact⟨_,_,rfl,λE=>rfl,_,_,rfl,rfl,dE⟩
    ·simp at hc;refine wK ?_;refine vr qe bO ?_;refine⟨3,⟨oM,oM,oM,oM⟩,oM,?_⟩;exact wM (λk=>.key k) bO
  ·simp at hc;have k33:k=3:=oM;subst k33;refine wE ?_;refine Wp.seq ?_;refine vR qe bO ?_;refine wC bO (λhc=>?_) (λhc=>?_)
   ·simp at hc;have he:eK s i=match iI s (i+1) with
      |.error j=>.error j
      |.ok (h,j)=>match iI s j with
       |.error k=>.error k
       |.ok (l,k)=>.ok (16*h+l,k):=by rw[eK,if_neg oM,if_neg oM,if_neg oM,if_neg oM,if_pos hc]
    refine vR qe (aa bO w1) ?_;cases h1:iI s (i+1) with
    |error j=>
     rw[he,h1];refine Wp.kF qe cj (ev (aa bO h1)) ?_ ?_
     ·simp[w1];omega
     refine qq ?_;exact⟨_,rfl⟩
    | ok p=>
     obtain⟨h,j⟩:=p;obtain⟨q0,q1,rfl,q3⟩:=tW h1 oM;refine wR qe (aa bO h1) ?_ ?_
     ·simp[w1];omega
     cases h2:iI s (i+1+1) with
     |error j=>
      rw[he,h1];simp only[h2];refine Wp.kF qe cj (ev (aa bO h2)) ?_ ?_
      ·simp[w1];omega
      refine qq ?_;exact⟨_,rfl⟩
     |ok p=>
      obtain⟨l,j⟩:=p;obtain⟨r0,r1,rfl,r3⟩:=tW h2 oM;rw[he,h1];simp only[h2];refine wR qe (aa bO h2) ?_ ?_
      ·simp[w1];omega
      refine wZ bO ?_;exact⟨_,_,rfl,λE=>by simp only[den];rw[aiw h l q0 q1 r0 r1],_,_,rfl,rfl,dE⟩
   ·simp at hc;refine wK ?_;refine Wp.seq ?_;refine vR qe bO ?_;refine wC bO (λhc=>?_) (λhc=>?_)
    ·simp at hc;have he:eK s i=.error i:=by rw[eK,if_neg oM,if_neg oM,if_neg oM,if_neg oM,if_neg (by assumption),if_pos hc]
     rw[he];refine Wp.q7 qe cj (ev bO) ?_ ?_
     ·exact oo
     refine qq ?_;exact⟨_,rfl⟩
    ·have hn:¬ ((((bt s i<32\/126<bt s i)\/48<=bt s i/\bt s i<=57)\/97<=bt s i/\bt s i<=122)\/65<=bt s i/\bt s i<=90):=by
      intro h;apply Bool.eq_false_iff.1 hc;simp;exact h
     have he:eK s i=.ok (bt s i,i+1):=by rw[eK,if_neg oM,if_neg oM,if_neg oM,if_neg oM,if_neg (by assumption),if_neg hn]
     rw[he];refine wK ?_;refine vR qe (aa bO w1) ?_;refine vR qe bO ?_;refine wZ bO ?_;exact⟨_,_,rfl,λE=>rfl,_,_,rfl,rfl,dE⟩
def ZZ:ed prog 275 where
 T:=375
 pre:=λW bs fs as_=>match fs,as_ with|[.val (.string s),.val (.int .i64 i)],[]=>0<=i/\s.size<=140737488351232/\bB W (Out bs)|_,_=>False
 out:=λW fs as_=>match fs,as_ with|[.val (.string s),.val (.int .i64 i)],[]=>Ab s (eK s i)|_,_=>.pan [] undef
 enters:=call275
 ok:=by
  intro W w bs u fp us fs as_ hk ho hlt hmine hu hp;split at hp
  ·rename_i s i
   match us,hu with
   |[],_=>
    exact adN s i u fp w hp.1 hp.2.1 (hp.2.2.dU hk hmine) ho hlt
  ·exact hp.elim
theorem Y5(W:World)(s:ByteArray)(i:Int):ZZ.out W [.val (.string s),.val (.int .i64 i)] []=Ab s (eK s i):=rfl
theorem V6(W:World)(bs:List Nat)(s:ByteArray)(i:Int):ZZ.pre W bs [.val (.string s),.val (.int .i64 i)] []=(0<=i/\s.size<=140737488351232/\bB W (Out bs)):=rfl
theorem aiT:ZZ.T=375:=rfl
noncomputable def P6:Env prog:=⟨λ| 138=>some ixC.spec|272=>some pt.spec|273=>some pP.spec|275=>some ZZ.spec|_=>none,λ| _=>none,λ_ _=>none⟩
theorem ae9:P6.sp 138=some ixC.spec:=rfl
theorem acu:P6.sp 272=some pt.spec:=rfl
theorem afe:P6.sp 273=some pP.spec:=rfl
theorem ab1:P6.sp 275=some ZZ.spec:=rfl
def eD(s:ByteArray)(i:Int)(q:ByteArray):Except Int (Int×Int):=
 if i<s.size/\bt s i=92 then eK s (i+1)
 else if ((¬ i<s.size\/bt s i<32)\/126<bt s i)\/0<=kn q (bt s i) then .error i
 else .ok (bt s i,i+1)
def mh:=(aj bO Y5 V6 aiT ae9 acu afe ab1)
theorem agw(s:ByteArray)(i:Int)(q:ByteArray)(u:Value)(fp:List Nat)(w:World)(h0:0<=i)(hs:s.size<=140737488351232)(hg:bB w (Out fp))(ho:bC w u fp 375 (Eu s i))(hlt:∀ b∈fp,b<w.heap.size) :
  Calls prog 270 (#[u]++#[.string q]) w λe w' => gM w u fp 375 e w' (Ab s (eD s i q)):=by
 obtain⟨b0,b1⟩:=fA s i;refine bg (nt:=56) #[.string q] [.tmp 4] (by show 2<=7;omega) ho hlt func270 rfl rfl rfl ?_;refine vR P6 mh ?_;refine wR P6 mh ?_ ?_
 ·simp[h0]
 refine Wp.seq ?_;refine vR P6 mh ?_;refine wC mh (λhc=>?_) (λhc=>?_)
 ·simp at hc;have w1:IntKind.i64.wrap (i+1)=i+1:=ae oM oM;have he:eD s i q=eK s (i+1):=by rw[eD,if_pos hc]
  rw[he];refine vR P6 (aa mh w1) ?_;cases h1:eK s (i+1) with
  |error j=>
   refine Wp.kF P6 cj (ev (aa mh h1)) ?_ ?_
   ·simp[w1,hs];exact⟨oM,hg⟩
   refine qq ?_;exact⟨_,rfl⟩
  |ok p=>
   obtain⟨b,j⟩:=p;refine wR P6 (aa mh h1) ?_ ?_
   ·simp[w1,hs];exact⟨oM,hg⟩
   refine wZ mh ?_;exact⟨_,_,rfl,λE=>rfl,_,_,rfl,rfl,dE⟩
 ·have hn:¬ (i<s.size/\bt s i=92):=λh=>by
   apply Bool.eq_false_iff.1 hc;simp;exact h
  refine wK ?_;refine Wp.seq ?_;refine vR P6 mh ?_;refine wC mh (λhc=>?_) (λhc=>?_)
  ·simp at hc;have he:eD s i q=.error i:=by
    rw[eD,if_neg hn,if_pos];omega
   rw[he];refine Wp.q7 P6 cj (ev mh) ?_ ?_
   ·simp
   refine qq ?_;exact⟨_,rfl⟩
  ·have hn' : ¬ (((¬ i<s.size\/bt s i<32)\/126<bt s i)\/0<=kn q (bt s i)):=λh=>by
    apply Bool.eq_false_iff.1 hc;simp;omega
   have he:eD s i q=.ok (bt s i,i+1):=by rw[eD,if_neg hn,if_neg hn']
   have w1:IntKind.i64.wrap (i+1)=i+1:=ae oM oM;rw[he];refine wK ?_;refine vR P6 (aa mh w1) ?_;refine vR P6 mh ?_;refine wZ mh ?_;exact⟨_,_,rfl,λE=>rfl,_,_,rfl,rfl,dE⟩
def LZ:ed prog 270 where
 T:=375
 pre:=λW bs fs as_=>match fs,as_ with|[.val (.string s),.val (.int .i64 i)],[.val (.string q)]=>0<=i/\s.size<=140737488351232/\bB W (Out bs)|_,_=>False
 out:=λW fs as_=>match fs,as_ with|[.val (.string s),.val (.int .i64 i)],[.val (.string q)]=>Ab s (eD s i q)|_,_=>.pan [] undef
 enters:=call270
 ok:=by
  intro W w bs u fp us fs as_ hk ho hlt hmine hu hp;split at hp
  ·rename_i s i q
   match us,hu with
   |[u0],hu=>
    obtain⟨rfl,_⟩:=hu;exact agw s i q u fp w hp.1 hp.2.1 (hp.2.2.dU hk hmine) ho hlt
  ·exact hp.elim
theorem U6(W:World)(s:ByteArray)(i:Int)(q:ByteArray):LZ.out W [.val (.string s),.val (.int .i64 i)] [.val (.string q)]=Ab s (eD s i q):=rfl
theorem WX(W:World)(bs:List Nat)(s:ByteArray)(i:Int)(q:ByteArray):LZ.pre W bs [.val (.string s),.val (.int .i64 i)] [.val (.string q)]=(0<=i/\s.size<=140737488351232/\bB W (Out bs)):=rfl
theorem ajm:LZ.T=375:=rfl
theorem agt{s:ByteArray}{i b j:Int}(he:eK s i=.ok (b,j))(h0:0<=i):0<=b/\b<256/\i<j/\j<=s.size:=by
 obtain⟨b0,b1⟩:=fA s i;rw[eK]at he;split at he
 ·cases he
 ·rename_i h1;split at he
  ·simp only[Except.ok.injEq,Prod.mk.injEq]at he;omega
  ·split at he
   ·simp only[Except.ok.injEq,Prod.mk.injEq]at he;omega
   ·split at he
    ·simp only[Except.ok.injEq,Prod.mk.injEq]at he;omega
    ·split at he
     ·cases h2:iI s (i+1) with
      |error k=>rw[h2]at he;cases he
      | ok p=>
       obtain⟨h,k⟩:=p;rw[h2]at he;obtain⟨q0,q1,q2,q3⟩:=tW h2 oM;simp only at he;cases h3:iI s k with
       |error k' => rw[h3]at he;cases he
       |ok p=>
        obtain⟨l,k'⟩:=p;rw[h3]at he;obtain⟨r0,r1,r2,r3⟩:=tW h3 oM;simp only[Except.ok.injEq,Prod.mk.injEq]at he;omega
     ·split at he
      ·cases he
      ·simp only[Except.ok.injEq,Prod.mk.injEq]at he;omega
theorem kO{s:ByteArray}{i b j:Int}{q:ByteArray}(he:eD s i q=.ok (b,j))(h0:0<=i):0<=b/\b<256/\i<j/\j<=s.size:=by
 obtain⟨b0,b1⟩:=fA s i;rw[eD]at he;split at he
 ·have:=agt he oM;omega
 ·split at he
  ·cases he
  ·simp only[Except.ok.injEq,Prod.mk.injEq]at he;omega
noncomputable def B6:aM prog 224 where
 pre:=λW bs=>λ| [.val y0]=>(match dec cC y0 with|some S=>True|_=>False)|_=>False
 res:=λW=>λ| [.val y0]=>(match dec cC y0 with|some S=>cC (~~~S)|_=>undef)|_=>undef
 enters:=call224
 ok:=by
  intro W w bs us as_ hk hu hp;split at hp
  ·rename_i y0;split at hp
   ·rename_i S h0
    match us,hu with
    |[u0],hu=>
     obtain⟨rfl,_⟩:=hu;obtain rfl:=gY h0
     try dsimp only
     try simp only[cN cJ]
     exact aci S w
   ·exact hp.elim
  ·exact hp.elim
theorem IK(W:World)(S:CS):B6.res W [.val (cC S)]=cC (~~~S):=by simp only[B6,cN cJ]
theorem IU(W:World)(bs:List Nat)(S:CS):B6.pre W bs [.val (cC S)]=(True):=by simp only[B6,cN cJ]
noncomputable def vx:aM prog 274 where
 pre:=λW bs=>λ| [.val y0,.val y1]=>(match dec cC y0,dec cC y1 with|some S,some T=>True|_,_=>False)|_=>False
 res:=λW=>λ| [.val y0,.val y1]=>(match dec cC y0,dec cC y1 with|some S,some T=>cC (S ||| T)|_,_=>undef)|_=>undef
 enters:=call274
 ok:=by
  intro W w bs us as_ hk hu hp;split at hp
  ·rename_i y0 y1;split at hp
   ·rename_i S T h0 h1
    match us,hu with
    |[u0,u1],hu=>
     obtain⟨rfl,rfl,_⟩:=hu;obtain rfl:=gY h0;obtain rfl:=gY h1
     try dsimp only
     try simp only[cN cJ]
     exact TT S T w
   ·exact hp.elim
  ·exact hp.elim
theorem LX(W:World)(S:CS)(T:CS):vx.res W [.val (cC S),.val (cC T)]=cC (S ||| T):=by simp only[vx,cN cJ]
theorem Mr(W:World)(bs:List Nat)(S:CS)(T:CS):vx.pre W bs [.val (cC S),.val (cC T)]=(True):=by simp only[vx,cN cJ]
def mg(lo hi:Int):CS:=span lo.toNat hi.toNat
def DV:aM prog 271 where
 pre:=λW bs=>λ| [.val (.int .u8 lo),.val (.int .u8 hi)]=>0<=lo/\lo<256/\0<=hi/\hi<256|_=>False
 res:=λW=>λ| [.val (.int .u8 lo),.val (.int .u8 hi)]=>cC (mg lo hi)|_=>undef
 enters:=call271
 ok:=by
  intro W w bs us as_ hk hu hp;split at hp
  ·rename_i lo hi
   match us,hu with
   |[u0,u1],hu=>
    obtain⟨rfl,rfl,_⟩:=hu;obtain⟨p0,p1,p2,p3⟩:=hp;have:=WL lo.toNat hi.toNat oM oM w;rwa [Int.toNat_of_nonneg p0,Int.toNat_of_nonneg p2]at this
  ·exact hp.elim
theorem TL(W:World)(lo:Int)(hi:Int):DV.res W [.val (.int .u8 lo),.val (.int .u8 hi)]=cC (mg lo hi):=rfl
theorem TU(W:World)(bs:List Nat)(lo:Int)(hi:Int):DV.pre W bs [.val (.int .u8 lo),.val (.int .u8 hi)]=(0<=lo/\lo<256/\0<=hi/\hi<256):=rfl
def ofC:aM prog 245 where
 pre:=λW bs=>λ| [.val (.string s)]=>s.size<=140737488351232|_=>False
 res:=λW=>λ| [.val (.string s)]=>cC (Ki s s.size)|_=>undef
 enters:=call245
 ok:=by
  intro W w bs us as_ hk hu hp;split at hp
  ·rename_i s
   match us,hu with
   |[u0],hu=>
    obtain⟨rfl,_⟩:=hu;exact aiH s hp w
  ·exact hp.elim
theorem ad5(W:World)(s:ByteArray):ofC.res W [.val (.string s)]=cC (Ki s s.size):=rfl
theorem af2(W:World)(bs:List Nat)(s:ByteArray):ofC.pre W bs [.val (.string s)]=(s.size<=140737488351232):=rfl
noncomputable def rl:Env prog:=⟨λ| 272=>some pt.spec|273=>some pP.spec|270=>some LZ.spec|224=>some B6.spec|274=>some vx.spec|271=>some DV.spec|245=>some ofC.spec|_=>none,λ| _=>none,λ_ _=>none⟩
theorem afb:rl.sp 272=some pt.spec:=rfl
theorem adX:rl.sp 273=some pP.spec:=rfl
theorem aee:rl.sp 270=some LZ.spec:=rfl
theorem afg:rl.sp 224=some B6.spec:=rfl
theorem ab7:rl.sp 274=some vx.spec:=rfl
theorem af4:rl.sp 271=some DV.spec:=rfl
theorem afC:rl.sp 245=some ofC.spec:=rfl
def mH:ByteArray:=⟨#[92,93,91,45,94,47]⟩
def vf(s:ByteArray):Nat->Int->CS->Except Int (CS×Int)
 |0,i,_=>.error i
 | n+1,i,a=>
  if i<s.size/\bt s i=93 then .ok (a,i+1) else
  match eD s i mH with
  |.error j=>.error j
  | .ok (lo,j)=>
   if j<s.size/\bt s j=45 then
    match eD s (j+1) mH with
    |.error k=>.error k
    |.ok (hi,k)=>if hi<lo then .error (j+1) else vf s n k (a ||| mg lo hi)
   else vf s n j (a ||| mg lo lo)
def QA(b:Bool)(a:CS):CS:=if b then ~~~a else a
def ji(s:ByteArray)(i:Int):Bool:=decide (i<s.size)&&decide (bt s i=94)
def vv(b:Bool):Except Int (CS×Int)->Except Int (CS×Int)
 |.error j=>.error j
 |.ok (a,j)=>.ok (QA b a,j)
def fi(s:ByteArray)(i:Int):Except Int (CS×Int):=vv (ji s i) (vf s (s.size+1) (if ji s i then i+1 else i) 0)
def Hm(s:ByteArray):Except Int (CS×Int)->BOut
 |.ok (a,j)=>.ret (cC a) (Eu s j)
 |.error j=>.pan (jP j) (cC 0)
theorem tV(s:ByteArray)(a:CS)(j:Int):Hm s (.ok (a,j))=.ret (cC a) (Eu s j):=rfl
theorem lL(s:ByteArray)(j:Int):Hm s (.error j)=.pan (jP j) (cC 0):=rfl
def cQ:=(aj @List.replicate_succ.{0} @List.replicate_zero.{0} @an @ab jk jn gR (aj ck cf b9 b8 ca cc cg (aj cd fu fh fy ft fB dc (aj df dh db cY c8 pJ qg (aj pB pA vS vX xv vM PY (aj OM Qm OK QE PS PF Qh (aj Pt Qb Ow Oe OP @aG @al (aj @ax @aw @vt @uF @Fp @CW @Dt (aj @OE @U6 @WX @ajm @Eu.eq_1 @jP.eq_1 @Ov (aj @zI @dW @l4 @mO @nH @ll @qx (aj @e8 @Fl @jt @List.drop_nil.{0} @IK @IU LX (aj Mr TL TU ad5 af2 afb adX (oA aee afg ab7 af4 afC)))))))))))))
theorem II(s:ByteArray)(i:Int)(u:Value)(fp:List Nat)(w:World)(h0:0<=i)(hs:s.size<=140737488351232)(hg:bB w (Out fp))(ho:bC w u fp 375 (Eu s i))(hlt:∀ b∈fp,b<w.heap.size) :
  Calls prog 269 (#[u]++#[]) w λe w' => gM w u fp 375 e w' (Hm s (fi s i)):=by
 obtain⟨b0,b1⟩:=fA s i;refine bg (nt:=90) #[] [.cell 2 309] (by show 2<=7;omega) ho hlt func269 rfl rfl rfl ?_;refine vR rl cQ ?_;refine vR rl cQ ?_;refine wR rl cQ ?_ ?_
 ·simp[h0]
 refine vR rl cQ ?_;generalize hi0:(if ji s i then i+1 else i)=i0;have hj0:0<=i0/\i0<=i+1:=by rw[<- hi0];split<;>omega
 generalize hR:vf s (s.size+1) i0 0=R;have hm:fi s i=vv (ji s i) R:=by rw[fi,hi0,hR]
 refine aV ⟨40,bm [(0,.is (.own 0 0)),(2,.is (.own 8 0)),(3,.is (.own 16 0)),(6,.is (.v (.bool (ji s i))))],aY [(0,.cells 375 [.v (.string s),.v (.int .i64 i0)]),(8,.cells 309 [.v (.int .u64 0),.v (.int .u64 0),.v (.int .u64 0),.v (.int .u64 0)]),(16,.cells 309 [.v (.int .u64 0),.v (.int .u64 0),.v (.int .u64 0),.v (.int .u64 0)])]⟩ ?_ ?_
 ·skip;refine vR rl cQ ?_;refine wC cQ (λhc=>?_) (λhc=>?_)
  ·have hcar:ji s i=true:=hc;rw[hcar]at hi0;simp only[if_true]at hi0;simp at hc;have w1:IntKind.i64.wrap (i+1)=i+1:=ae oM oM;refine vr rl (aa cQ w1) ?_;subst hi0;exact wM (λk=>.key k) (aa cQ @ji.eq_1)
  ·have hcar:ji s i=false:=hc;rw[hcar]at hi0;simp only[Bool.false_eq_true,if_false]at hi0;refine wK ?_;subst hi0;exact wM (λk=>.key k) (aa cQ @ji.eq_1)
 refine Wp.seq ?_;refine Wp.block ?_
 refine Wp.loop (λp:Nat×Int×CS=>⟨40,bm [(0,.is (.own 0 0)),(2,.is (.own 8 0)),(3,.is (.own 16 0)),(6,.is (.v (.bool (ji s i))))],aY [(0,.cells 375 [.v (.string s),.v (.int .i64 p.2.1)]),(8,.cells 309 [.v (.int .u64 0),.v (.int .u64 0),.v (.int .u64 0),.v (.int .u64 0)]),(16,.cells 309 ((l7 p.2.2).map .v))]⟩)
  (λp=>0<=p.2.1/\(s.size-p.2.1<p.1/\1<=p.1)/\vf s p.1 p.2.1 p.2.2=R) (λp=>p.1) (s.size+1,i0,0) ?_ ⟨hj0.1,by simp only;omega,hR⟩ ?_
 ·exact wM (λk=>.key k) (aa cQ @zo)
 rintro⟨n,i',a⟩ ⟨k0,⟨k1,k3⟩,k2⟩;simp only at k0 k1 k2;obtain⟨n,rfl⟩:∃ m,n=m+1:=⟨n-1,by simp only at k3;omega⟩;rw[vf]at k2;refine Wp.block ?_;refine Wp.seq ?_;refine wR rl cQ ?_ ?_
 ·simp[k0]
 refine vR rl cQ ?_;refine wC cQ (λhc=>?_) (λhc=>?_)
 ·simp at hc;have hR' : R=.ok (a,i' + 1):=by rw[<- k2,if_pos hc]
  have w1:IntKind.i64.wrap (i' + 1)=i' + 1:=ae oM oM;refine vR rl (aa cQ w1) ?_;refine wE ?_;refine Wp.seq ?_;refine vR rl cQ ?_;refine wC cQ (λhc=>?_) (λhc=>?_)
  ·have hcar:ji s i=true:=hc;rw[hm,hR',hcar,vv,tV];refine wR rl cQ ?_ ?_
   ·simp[l4]
   refine wZ cQ ?_;exact⟨_,_,rfl,rfl,_,_,rfl,rfl,dE⟩
  ·have hcar:ji s i=false:=hc;rw[hm,hR',hcar,vv,tV];refine wK ?_;refine wR rl cQ ?_ ?_
   ·simp[l4]
   refine wZ cQ ?_;exact⟨_,_,rfl,rfl,_,_,rfl,rfl,dE⟩
 ·have hn:¬ (i' < s.size/\bt s i' = 93):=λh=>by
   apply Bool.eq_false_iff.1 hc;simp;exact h
  rw[if_neg hn]at k2;refine wK ?_;cases h1:eD s i' mH with
  |error j=>
   rw[h1]at k2;simp only at k2;rw[mH]at h1;rw[hm,<- k2,vv,lL];refine Wp.kF rl cj (ev (aa cQ h1)) ?_ ?_
   ·simp[hs,hg];omega
   refine qq ?_;exact⟨_,rfl⟩
  | ok p=>
   obtain⟨lo,j⟩:=p;obtain⟨o0,o1,o2,o3⟩:=kO h1 k0;rw[h1]at k2;simp only at k2;rw[mH]at h1;refine wR rl (aa cQ h1) ?_ ?_
   ·simp[hs,hg];omega
   refine vR rl cQ ?_;refine Wp.seq ?_;refine wR rl cQ ?_ ?_
   ·simp;omega
   refine vR rl cQ ?_;refine wC cQ (λhc=>?_) (λhc=>?_)
   ·simp at hc;rw[if_pos hc]at k2;have w1:IntKind.i64.wrap (j+1)=j+1:=ae oM oM;refine vR rl (aa cQ w1) ?_;refine vR rl cQ ?_;cases h2:eD s (j+1) mH with
    |error l=>
     rw[h2]at k2;simp only at k2;rw[mH]at h2;rw[hm,<- k2,vv,lL];refine Wp.kF rl cj (ev (aa cQ h2)) ?_ ?_
     ·simp[hs,hg];omega
     refine qq ?_;exact⟨_,rfl⟩
    | ok p=>
     obtain⟨hi,l⟩:=p;obtain⟨r0,r1,r2,r3⟩:=kO h2 oM;rw[h2]at k2;simp only at k2;rw[mH]at h2;refine wR rl (aa cQ h2) ?_ ?_
     ·simp[hs,hg];omega
     refine vR rl cQ ?_;refine wC cQ (λhc=>?_) (λhc=>?_)
     ·simp at hc;rw[if_pos hc]at k2;rw[hm,<- k2,vv,lL];refine Wp.q7 rl cj (ev cQ) ?_ ?_
      ·exact oo
      refine qq ?_;exact⟨_,rfl⟩
     ·simp at hc;rw[if_neg oM]at k2;refine wK ?_;refine vZ rl cQ ?_ ?_
      ·omega
      refine⟨(n,l,a ||| mg lo hi),⟨by simp only;omega,by simp only;omega,k2⟩,by simp only;omega,?_⟩;exact wM (λk=>.key k) cQ
   ·have hn' : ¬ (j<s.size/\bt s j=45):=λh=>by
     apply Bool.eq_false_iff.1 hc;simp;exact h
    rw[if_neg hn']at k2;refine wK ?_;refine vZ rl cQ ?_ ?_
    ·omega
    refine⟨(n,j,a ||| mg lo lo),⟨by simp only;omega,by simp only;omega,k2⟩,by simp only;omega,?_⟩;exact wM (λk=>.key k) cQ
def qs:ed prog 269 where
 T:=375
 pre:=λW bs fs as_=>match fs,as_ with|[.val (.string s),.val (.int .i64 i)],[]=>0<=i/\s.size<=140737488351232/\bB W (Out bs)|_,_=>False
 out:=λW fs as_=>match fs,as_ with|[.val (.string s),.val (.int .i64 i)],[]=>Hm s (fi s i)|_,_=>.pan [] undef
 enters:=call269
 ok:=by
  intro W w bs u fp us fs as_ hk ho hlt hmine hu hp;split at hp
  ·rename_i s i
   match us,hu with
   |[],_=>
    exact II s i u fp w hp.1 hp.2.1 (hp.2.2.dU hk hmine) ho hlt
  ·exact hp.elim
theorem D7(W:World)(s:ByteArray)(i:Int):qs.out W [.val (.string s),.val (.int .i64 i)] []=Hm s (fi s i):=rfl
theorem Gk(W:World)(bs:List Nat)(s:ByteArray)(i:Int):qs.pre W bs [.val (.string s),.val (.int .i64 i)] []=(0<=i/\s.size<=140737488351232/\bB W (Out bs)):=rfl
theorem Lh:qs.T=375:=rfl
noncomputable def Gt:Env prog:=⟨λ| 270=>some LZ.spec|224=>some B6.spec|271=>some DV.spec|245=>some ofC.spec|269=>some qs.spec|_=>none,λ| _=>none,λ_ _=>none⟩
theorem agv:Gt.sp 270=some LZ.spec:=rfl
theorem af8:Gt.sp 224=some B6.spec:=rfl
theorem acD:Gt.sp 271=some DV.spec:=rfl
theorem acS:Gt.sp 245=some ofC.spec:=rfl
theorem acH:Gt.sp 269=some qs.spec:=rfl
def BI:ByteArray:=⟨#[40,41,91,93,123,125,124,38,45,42,43,63,46,92,47,94]⟩
def ad1:Except Int (Int×Int)->Except Int (CS×Int)
 |.error j=>.error j
 |.ok (b,j)=>.ok (mg b b,j)
def dZ(s:ByteArray)(i:Int):Except Int (CS×Int):=
 if bt s i=46 then .ok (~~~(Ki ⟨#[10]⟩ 1),i+1)
 else if bt s i=91 then fi s (i+1)
 else ad1 (eD s i BI)
def jm:=(aj cQ D7 Gk Lh @tV @lL agv (eS af8 acD acS acH))
theorem Xs(s:ByteArray)(i:Int)(u:Value)(fp:List Nat)(w:World)(h0:0<=i)(h1:i<s.size)(hs:s.size<=140737488351232)(hg:bB w (Out fp))(ho:bC w u fp 375 (Eu s i))(hlt:∀ b∈fp,b<w.heap.size) :
  Calls prog 268 (#[u]++#[]) w λe w' => gM w u fp 375 e w' (Hm s (dZ s i)):=by
 obtain⟨b0,b1⟩:=fA s i;have w1:IntKind.i64.wrap (i+1)=i+1:=ae oM oM;refine bg (nt:=42) #[] [.cell 2 309] (by show 2<=7;omega) ho hlt func268 rfl rfl rfl ?_;refine vR Gt jm ?_;refine Wp.seq ?_;refine Qw Gt jm ?_;refine vR Gt jm ?_;refine Wp.block ?_;refine vR Gt jm ?_;refine wC jm (λhc=>?_) (λhc=>?_)
 ·simp at hc;have he:dZ s i=.ok (~~~(Ki ⟨#[10]⟩ 1),i+1):=by rw[dZ,if_pos hc]
  rw[he,tV];refine vR Gt (aa jm w1) ?_;refine wR Gt jm ?_ ?_
  ·decide
  refine wZ jm ?_;exact⟨_,_,rfl,rfl,_,_,rfl,rfl,dE⟩
 ·simp at hc;have hc0:=hc;refine vR Gt jm ?_;refine wC jm (λhc=>?_) (λhc=>?_)
  ·simp at hc;have he:dZ s i=fi s (i+1):=by rw[dZ,if_neg hc0,if_pos hc]
   rw[he];refine vR Gt (aa jm w1) ?_;cases h2:fi s (i+1) with
   |error j=>
    refine Wp.kF Gt cj (ev (aa jm h2)) ?_ ?_
    ·simp[hs,hg];omega
    refine qq ?_;exact⟨_,rfl⟩
   |ok p=>
    obtain⟨a,j⟩:=p;refine wR Gt (aa jm h2) ?_ ?_
    ·simp[hs,hg];omega
    refine wZ jm ?_;exact⟨_,_,rfl,rfl,_,_,rfl,rfl,dE⟩
  ·simp at hc;have he:dZ s i=ad1 (eD s i BI):=by rw[dZ,if_neg hc0,if_neg hc]
   rw[he];refine wK ?_;cases h2:eD s i BI with
   |error j=>
    rw[BI]at h2;refine Wp.kF Gt cj (ev (aa jm h2)) ?_ ?_
    ·simp[hs,hg];omega
    refine qq ?_;exact⟨_,rfl⟩
   |ok p=>
    obtain⟨b,j⟩:=p;obtain⟨o0,o1,o2,o3⟩:=kO h2 h0;rw[BI]at h2;refine wR Gt (aa jm h2) ?_ ?_
    ·simp[hs,hg];omega
    refine wR Gt jm ?_ ?_
    ·omega
    refine wZ jm ?_;exact⟨_,_,rfl,rfl,_,_,rfl,rfl,dE⟩
def JA:ed prog 268 where
 T:=375
 pre:=λW bs fs as_=>match fs,as_ with|[.val (.string s),.val (.int .i64 i)],[]=>0<=i/\i<s.size/\s.size<=140737488351232/\bB W (Out bs)|_,_=>False
 out:=λW fs as_=>match fs,as_ with|[.val (.string s),.val (.int .i64 i)],[]=>Hm s (dZ s i)|_,_=>.pan [] undef
 enters:=call268
 ok:=by
  intro W w bs u fp us fs as_ hk ho hlt hmine hu hp;split at hp
  ·rename_i s i
   match us,hu with
   |[],_=>
    exact Xs s i u fp w hp.1 hp.2.1 hp.2.2.1 (hp.2.2.2.dU hk hmine) ho hlt
  ·exact hp.elim
theorem T9(W:World)(s:ByteArray)(i:Int):JA.out W [.val (.string s),.val (.int .i64 i)] []=Hm s (dZ s i):=rfl
theorem UB(W:World)(bs:List Nat)(s:ByteArray)(i:Int):JA.pre W bs [.val (.string s),.val (.int .i64 i)] []=(0<=i/\i<s.size/\s.size<=140737488351232/\bB W (Out bs)):=rfl
theorem ac5:JA.T=375:=rfl
noncomputable def Vo:Env prog:=⟨λ| 268=>some JA.spec|_=>none,λ| _=>none,λ_ _=>none⟩
theorem afZ:Vo.sp 268=some JA.spec:=rfl
def yh(c i:Int)(t:ByteArray):Value:=.agg #[.int .i64 c,.int .i64 i,.string t]
def fX:=(aj @List.replicate_succ.{0} @List.replicate_zero.{0} @an @ab jk jn BG (aj BH BJ gR ck cf b9 b8 (aj ca cc cg cd dc df dh (aj db cY c8 WC aab V9 aaC (aj zl yK yS y5 Bb AY AI (aj AO Ar yQ pJ qg pB pA (aj vS vX xv vM Qm OK QE (aj PS PF Qh Pt Qb Ow Oe (aj OP @aG @al @ax @aw @σR.eq_1 @σL.eq_1 (aj @pF.eq_1 @pF.eq_2 @zB.eq_1 @zB.eq_2 @Eu.eq_1 @T9 @UB (aj @ac5 @tV @lL @jP.eq_1 @dW @l4 @mO (aj @nH @ll @qx @e8 @Fl @jt @List.drop_nil.{0} afZ))))))))))))
noncomputable def YP:CatchC prog 267 where
 Ts:=[309,3,39]
 enters:=call267
 pre:=λvss pv=>(∃ a b c d e f g h,vss=[[a,b,c,d],[e],[f,g,h]])/\∃ c i t,pv=.iface 39 (yh c i t)
 out:=λvss pv=>[[.int .u64 0,.int .u64 0,.int .u64 0,.int .u64 0],[.int .i64 0],match pv with|.iface _ (.agg x)=>x.toList|_=>[]]
 bw:=λvss pv=>[cC 0,.int .i64 0,match pv with|.iface _ x=>x|_=>undef]
 vals_ok:=by
  rintro vss pv ⟨_,c,i,t,rfl⟩
  refine⟨.inl ⟨by simp only[kp,Op.operands,Value.cells,σ0,σB,Nat.reduceEqDiff,Nat.reduceAdd,Nat.reduceMul,Nat.reduceLT,Nat.reduceLeDiff,Nat.reduceBEq,av,Int.reduceToNat,Int.reduceLT,Int.reduceLE,Nat.reduceDiv,Nat.reduceMod,Nat.reduceSub,Int.reducePow,Nat.reducePow,σP,σB3,fX]<;>rfl,by simp only[kp,Op.operands,Value.cells,σ0,σB,Nat.reduceEqDiff,Nat.reduceAdd,Nat.reduceMul,Nat.reduceLT,Nat.reduceLeDiff,Nat.reduceBEq,av,Int.reduceToNat,Int.reduceLT,Int.reduceLE,Nat.reduceDiv,Nat.reduceMod,Nat.reduceSub,Int.reducePow,Nat.reducePow,σP,σB3,fX],?_⟩,.inr ⟨by simp only[kp,Op.operands,Value.cells,σ0,σB,Nat.reduceEqDiff,Nat.reduceAdd,Nat.reduceMul,Nat.reduceLT,Nat.reduceLeDiff,Nat.reduceBEq,av,Int.reduceToNat,Int.reduceLT,Int.reduceLE,Nat.reduceDiv,Nat.reduceMod,Nat.reduceSub,Int.reducePow,Nat.reducePow,σP,σB3,fX],rfl⟩,.inl ⟨by simp only[kp,Op.operands,Value.cells,σ0,σB,Nat.reduceEqDiff,Nat.reduceAdd,Nat.reduceMul,Nat.reduceLT,Nat.reduceLeDiff,Nat.reduceBEq,av,Int.reduceToNat,Int.reduceLT,Int.reduceLE,Nat.reduceDiv,Nat.reduceMod,Nat.reduceSub,Int.reducePow,Nat.reducePow,σP,σB3,fX]<;>rfl,by simp only[kp,Op.operands,Value.cells,σ0,σB,Nat.reduceEqDiff,Nat.reduceAdd,Nat.reduceMul,Nat.reduceLT,Nat.reduceLeDiff,Nat.reduceBEq,av,Int.reduceToNat,Int.reduceLT,Int.reduceLE,Nat.reduceDiv,Nat.reduceMod,Nat.reduceSub,Int.reducePow,Nat.reducePow,σP,σB3,fX],rfl⟩,trivial⟩
  rfl
 quiet:=λw us hl=>by
  match us,hl with
  | [u0,u1,u2],_=>
   refine sD (nt:=10) w _ func267 rfl rfl oM oM rfl ?_;refine vR Vo fX ?_;refine wC fX (λhc=>?_) (λhc=>?_)
   ·simp at hc
   ·refine wK ?_;simp only[kp,Op.operands,Value.cells,σ0,σB,Nat.reduceEqDiff,Nat.reduceAdd,Nat.reduceMul,Nat.reduceLT,Nat.reduceLeDiff,Nat.reduceBEq,av,Int.reduceToNat,Int.reduceLT,Int.reduceLE,Nat.reduceDiv,Nat.reduceMod,Nat.reduceSub,Int.reducePow,Nat.reducePow,σP,σB3,qE,jC,np,lz,fX]
    done
 caught:=λw us bl vss pv hl hn hlt hp=>by
  obtain⟨⟨a,b,c,d,e,f,g,h,rfl⟩,k,i,t,rfl⟩:=hp;have h3:=hl.len.1;refine ry (nt:=10) func267 rfl rfl oM oM ?_ hl hn hlt ?_ ?_
  ·rw[h3];rfl
  ·rw[h3];decide
  intro us _;refine vR Vo fX ?_;refine wC fX (λhc=>?_) (λhc=>?_)
  ·skip;refine vrD Vo (aa fX @yh.eq_1) ?_;refine wS fX ?_;exact⟨rfl,rfl,rfl,trivial⟩
  ·cases hc
def ri(c:Int)(a:CS)(j k:Int):Value:=.tuple #[cC a,.int .i64 j,yh c k ⟨#[]⟩]
def tN(s:ByteArray)(i:Int):Value:=
 if i<0\/s.size<=i then ri 2 0 0 0
 else match dZ s i with
  |.error j=>ri 10 0 0 j
  |.ok (a,j)=>ri 0 a j 0
theorem Vt(s:ByteArray)(i:Int)(w:World)(hs:s.size<=140737488351232)(hg:bB w (Out [])) :
  Calls prog 263 #[.string s,.int .i64 i] w λe w' => e=.returned (tN s i)/\ah w [] w' := by
 refine xp (nt:=31) func263 rfl rfl ?_;refine ma.seq' (rs:=[.cell 4 309,.cell 5 3,.cell 6 39]) rfl ?_;refine vr Vo fX ?_;refine ma.seq' (rs:=[.cell 4 309,.cell 5 3,.cell 6 39]) rfl ?_;refine vR Vo fX ?_;refine wC fX (λhc=>?_) (λhc=>?_)
 ·have hb:i<0\/s.size<=i:=by simpa using hc
  have he:tN s i=ri 2 0 0 0:=by rw[tN,if_pos hb]
  rw[he];refine vR Vo fX ?_;refine wZ fX ?_;exact λE=>rfl
 ·have hb:¬ (i<0\/s.size<=i):=λh=>by
   apply Bool.eq_false_iff.1 hc;simpa using h
  have he:tN s i=match dZ s i with
    |.error j=>ri 10 0 0 j
    |.ok (a,j)=>ri 0 a j 0:=by rw[tN,if_neg hb]
  refine wK ?_;refine ma.X8 (rs:=[.cell 4 309,.cell 5 3,.cell 6 39]) rfl YP [4,5,6] [0,8,16] rfl dE rfl dE rfl rfl ?_ ?_ λus hus=>?_
  ·rintro p hp;simp only[List.zip_cons_cons,List.zip_nil_right,List.mem_cons,List.not_mem_nil,or_false]at hp;rcases hp with rfl|rfl|rfl<;>rfl
  ·rintro k hk;simp only[List.mem_cons,List.not_mem_nil,or_false]at hk;rcases hk with rfl|rfl|rfl<;>exact⟨_,_,rfl⟩
  have hi:0<=i/\i<s.size:=oM;refine vR Vo fX ?_;cases h2:dZ s i with
  |error j=>
   rw[he,h2];refine Wp.kF Vo cj (ev (aa fX h2)) ?_ ?_
   ·simp[hs,hg];omega
   refine qq ?_;refine wS fX ?_;refine⟨.iface 39 (yh 10 j ⟨#[]⟩),[[.int .u64 0,.int .u64 0,.int .u64 0,.int .u64 0],[.int .i64 0],[.int .i64 0,.int .i64 0,.string ⟨#[]⟩]],rfl,⟨?_,?_,?_,?_,?_,?_,trivial⟩,⟨⟨_,_,_,_,_,_,_,_,rfl⟩,10,j,⟨#[]⟩,rfl⟩,λE=>rfl⟩
   all_goals rfl
  |ok p=>
   obtain⟨a,j⟩:=p;rw[he,h2];refine wR Vo (aa fX h2) ?_ ?_
   ·simp[hs,hg];omega
   refine Qw Vo fX ?_;refine wZ fX ?_;exact λE=>rfl
def aH:Rx->Value
 |.eps=>.iface 283 (.agg #[])
 |.cls S=>.iface 311 (cC S)
 |.cat a b=>.iface 281 (.agg #[aH a,aH b])
 |.alt a b=>.iface 284 (.agg #[aH a,aH b])
 |.star a=>.iface 279 (.agg #[aH a])
 |.and a b=>.iface 285 (.agg #[aH a,aH b])
 |.minus a b=>.iface 286 (.agg #[aH a,aH b])
theorem bZ(t:Rx):(aH t).oneCell' = true:=by cases t<;>rfl
theorem cO:∀ a b:Rx,aH a=aH b->a=b
 |.eps,b,h=>by cases b<;>simp_all [aH]
 |.cls S,b,h=>by
  cases b<;>simp[aH]at h;rw[cJ _ _ h]
 |.cat x y,b,h=>by
  cases b<;>simp[aH]at h;rw[cO x _ h.1,cO y _ h.2]
 |.alt x y,b,h=>by
  cases b<;>simp[aH]at h;rw[cO x _ h.1,cO y _ h.2]
 |.star x,b,h=>by
  cases b<;>simp[aH]at h;rw[cO x _ h]
 |.and x y,b,h=>by
  cases b<;>simp[aH]at h;rw[cO x _ h.1,cO y _ h.2]
 |.minus x y,b,h=>by
  cases b<;>simp[aH]at h;rw[cO x _ h.1,cO y _ h.2]
inductive Jn where
 |cat|alt|and|minus
def Jn.f:Jn->FuncId
 |.cat=>252
 |.alt=>181
 |.and=>217
 |.minus=>218
def Jn.mk:Jn->Rx->Rx->Rx
 |.cat=>.cat
 |.alt=>.alt
 |.and=>.and
 |.minus=>.minus
def Jn.T:Jn->TypeId
 |.cat=>281
 |.alt=>284
 |.and=>285
 |.minus=>286
def Jn.v(g:Jn):Value:=.func (.func g.f) #[] #[]
def oq(b:Nat):Value:=.pointer (some ⟨b,0,none⟩)
inductive bI (W:World) (S:Nat->Prop):Value->Rx->Prop where
 |leaf (b:Nat) (t:Rx):XC W S b 0 (aH t)->bI W S (.func (.func 259) #[] #[oq b]) t
 | join (g:Jn) (b5 b3 b4:Nat) (fa fb:Value) (ta tb:Rx):XC W S b5 0 g.v->XC W S b3 1 fa->XC W S b4 1 fb->bI W S fa ta->bI W S fb tb ->
   bI W S (.func (.func 220) #[] #[oq b5,oq b3,oq b4]) (g.mk ta tb)
 |star (b:Nat) (fa:Value) (ta:Rx):XC W S b 1 fa->bI W S fa ta->bI W S (.func (.func 264) #[] #[oq b]) (.star ta)
theorem bI.mono{W W' : World}{S S' : Nat->Prop}{v:Value}{t:Rx}(h:bI W S v t)(hs:cT W S W' S'):bI W' S' v t:=by
 induction h with
 |leaf b t h=>exact .leaf b t (h.mono hs)
 |join g b5 b3 b4 fa fb ta tb h1 h2 h3 _ _ ih1 ih2=>exact .join g b5 b3 b4 fa fb ta tb (h1.mono hs) (h2.mono hs) (h3.mono hs) ih1 ih2
 |star b fa ta h _ ih=>exact .star b fa ta (h.mono hs) ih
theorem bI.one{W:World}{S:Nat->Prop}{v:Value}{t:Rx}(h:bI W S v t):v.oneCell' = true:=by cases h<;>rfl
theorem HL{W:World}{S S' : Nat->Prop}{b o:Nat}{u v:Value}(h:XC W S b o u)(h' : XC W S' b o v):u=v:=Option.some.inj (h.2.symm.trans h'.2)
theorem bI.fn{W:World}{S S' : Nat->Prop}{v:Value}{t t' : Rx}(h:bI W S v t)(h' : bI W S' v t'):t=t' := by
 induction h generalizing t' with
 |leaf b t h=>
  cases h' with
  |leaf _ t' h2=>exact cO _ _ (HL h h2)
 | join g b5 b3 b4 fa fb ta tb h1 h2 h3 _ _ ih1 ih2=>
  cases h' with
  |join g' _ _ _ fa' fb' ta' tb' k1 k2 k3 k4 k5=>
   obtain rfl:=HL h2 k2;obtain rfl:=HL h3 k3;have hg:=HL h1 k1;rw[ih1 k4,ih2 k5];have:g=g' := by cases g<;>cases g' <;> simp[Jn.v,Jn.f]at hg<;>rfl
   rw[this]
 | star b fa ta h _ ih=>
  cases h' with
  |star _ fa' ta' k1 k2=>
   obtain rfl:=HL h k1;rw[ih k2]
def dT(r:RL):FK:=⟨λcs W S=>∃ fv,cs=[.int .i64 (r.1:Nat),fv]/\bI W S fv r.2,λhs ⟨fv,h1,h2⟩=>⟨fv,h1,h2.mono hs⟩⟩
def jg(r:RL)(fv:Value):Value:=.agg #[.int .i64 (r.1:Nat),fv]
theorem sE(r:RL)(fv:Value)(h:fv.oneCell' = true):Sh.two.val [.int .i64 (r.1:Nat),fv]=jg r fv:=by
 show Value.agg #[hv (.int .i64 (r.1:Nat)),hv fv]=_;rw[kD h];rfl
theorem lE{W:World}{S:Nat->Prop}{r:RL}{u:Value}(h:∃ cs,u=Sh.two.val cs/\(dT r).Φ cs W S):∃ fv,u=jg r fv/\bI W S fv r.2:=by
 obtain⟨cs,rfl,fv,rfl,h⟩:=h;exact⟨fv,sE r fv h.one,h⟩
theorem cq{W:World}{S:Nat->Prop}{r:RL}{fv:Value}(h:bI W S fv r.2):∃ cs,jg r fv=Sh.two.val cs/\(dT r).Φ cs W S:=
 ⟨_,(sE r fv h.one).symm,fv,rfl,h⟩
theorem ni{r:RL}{W1:World}{bs1:List Nat}{w:World}{S:Nat->Prop}{fv:Value}(hg:bI W1 (jl (eJ w S) bs1) fv r.2):Zu w S W1 bs1 (.agg [.v (.int .i64 (r.1:Nat)),.v fv]) (.fact Sh.two (dT r)):=
 ⟨[.int .i64 (r.1:Nat),fv],λE=>(sE r fv hg.one).symm,fv,rfl,hg⟩
theorem cK{W:World}{S:Nat->Prop}{r:RL}{cs:List Value}(h:(dT r).Φ cs W S):∃ fv,cs=[.int .i64 (r.1:Nat),fv]/\bI W S fv r.2/\hv fv=fv:=by
 obtain⟨fv,h1,h2⟩:=h;exact⟨fv,h1,h2,kD h2.one⟩
theorem jG(t:Rx):partsOf (.v (aH t))=[.v (aH t)]:=by cases t<;>rfl
def GG:=(aj @List.replicate_succ.{0} @List.replicate_zero.{0} @an @ab jk jn gR (aj ck cf b9 b8 vN wx wL (aj w7 Qg Qn PH tg s4 sR (aj sM tn ui Yz aa0 Xm YX (aj Xk VU Xq ZE U1 Ya Vh (aj aaf ZH V2 X9 VY ZD Oj (aj Qt Qi OC Pr Ox OZ VV (aj Ww ZL YW X7 Zz ZU aaA (aj Xo XG Xw VD Xx Z8 Vy (aj VE Xc VJ Y9 Ve Xy aax (aj WI WA Wa Vx UZ Ct C4 (aj C7 @aG @al @ax @aw @jG (λt=>kD (bZ t)) @bZ))))))))))))
theorem Vn(t:Rx)(w:World)(S:Nat->Prop):Calls prog 249 #[aH t] w λe w' => rh w S e w' (.fact Sh.two (dT (bY t))):=by
 refine jx (nt:=5) S [.cell 2 254] func249 rfl rfl rfl ?_;refine vR Γ0 GG ?_;refine vR Γ0 GG ?_;refine Wp.oz 0 (ev GG) (λE=>by simp only[au,den];exact rfl) λW1 bs1 b hx hb hn hc=>?_
 refine wZ GG ?_;exact⟨[_,_],λE=>rfl,_,rfl,.leaf b t ⟨⟨eJ.up w S b hn,hb⟩,cell_of hc 0 sI⟩⟩
def oC(t:Rx):rz prog 249 where
 kinds:=[none]
 pre:=λas_ _ _=>as_=[.val (aH t)]
 premono:=λ_ _ _ _ _ _ h=>h
 out:=λ_=>.fact Sh.two (dT (bY t))
 enters:=call249
 ok:=by
  intro w S us as_ hu hp;subst hp
  match us,hu with
  |[u],hu=>
   obtain⟨rfl,_⟩:=hu;exact Vn t w S
theorem Ky(n:Int)(w:World):Calls prog 219 #[.int .i64 n] w λe w' => e=.returned (.int .i64 (min n 2001))/\ah w [] w' := by
 refine af (nt:=5) [.tmp 2] func219 rfl rfl rfl ?_;refine vR Γ0 GG ?_;refine vR Γ0 GG ?_;refine wZ GG ?_;exact λE=>by simp only[den];congr 1;split<;>omega
def ym:aM prog 219 where
 pre:=λW bs=>λ| [.val (.int .i64 n)]=>True|_=>False
 res:=λW=>λ| [.val (.int .i64 n)]=>.int .i64 (min n 2001)|_=>undef
 enters:=call219
 ok:=by
  intro W w bs us as_ hk hu hp;split at hp
  ·rename_i n
   match us,hu with
   |[u0],hu=>
    obtain⟨rfl,_⟩:=hu;exact Ky n w
  ·exact hp.elim
theorem wF(W:World)(n:Int):ym.res W [.val (.int .i64 n)]=.int .i64 (min n 2001):=rfl
theorem vV(W:World)(bs:List Nat)(n:Int):ym.pre W bs [.val (.int .i64 n)]=(True):=rfl
noncomputable def Γ40:Env prog:=⟨λ| 219=>some ym.spec|_=>none,λ| _=>none,λ_ _=>none⟩
theorem OB:Γ40.sp 219=some ym.spec:=rfl
theorem Qk{a b:Nat}(ha:a<=2001)(hb:b<=2001):IntKind.i64.wrap (IntKind.i64.wrap (1+(a:Int))+(b:Int))=((1+a+b:Nat):Int):=by
 rw[ae (n:=1+(a:Int)) oM oM,ae oM oM];omega
theorem ly(n:Nat):min ((n:Nat):Int) 2001=((cG n:Nat):Int):=by unfold cG;omega
def yZ:=(eS GG @wF @vV @OB)
theorem Yb(g:Jn)(a b:RL)(fa fb:Value)(ha:a.1<=2001)(hb:b.1<=2001)(w:World)(S:Nat->Prop)(h1:bI w S fa a.2)(h2:bI w S fb b.2) :
  Calls prog 180 #[jg a fa,jg b fb,g.v] w λe w' => rh w S e w' (.fact Sh.two (dT (aX g.mk a b))):=by
 have ga:partsOf (.v (jg a fa))=[.v (.int .i64 (a.1:Nat)),.v fa]:=rfl;have gb:partsOf (.v (jg b fb))=[.v (.int .i64 (b.1:Nat)),.v fb]:=rfl;have gg:partsOf (.v g.v)=[.v g.v]:=rfl;have w1:=Qk ha hb;refine jx (nt:=16) S [.cell 6 254] func180 rfl rfl rfl ?_;refine vR Γ40 (eS yZ ga gb gg) ?_
 refine vR Γ40 (ml yZ ga gb gg w1 @ly) ?_;refine Wp.oz 0 (ev (eS yZ ga gb gg)) (λE=>by simp only[au,den,ga,gb,gg];exact rfl) λW1 bs1 b3 hx1 hb3 hn3 hc3=>?_
 refine Wp.oz 8 (ev (eS yZ ga gb gg)) (λE=>by simp only[au,den,ga,gb,gg];exact rfl) λW2 bs2 b4 hx2 hb4 hn4 hc4=>?_
 refine Wp.oz 16 (ev (eS yZ ga gb gg)) (λE=>by simp only[au,den,ga,gb,gg];exact rfl) λW3 bs3 b5 hx3 hb5 hn5 hc5=>?_
 refine wZ (ml yZ ga gb gg w1 @ly) ?_;have hx:=(hx1.trans hx2).trans hx3;have u0:=eJ.up w S;have u1:=u0.ext hx1;have u2:=u1.ext hx2;have s0:cT w S W3 (jl (eJ w S) bs3):=(eJ.lZ w S).trans (hx.Gu) (Nat.le_refl _)
 refine⟨[_,_],λE=>rfl,_,rfl,.join g b5 b3 b4 fa fb a.2 b.2 ⟨⟨u2 b5 hn5,hb5⟩,cell_of hc5 0 sI⟩ ?_ ?_ (h1.mono s0) (h2.mono s0)⟩
 ·exact XC.mono (XC.mono ⟨⟨u0 b3 hn3,hb3⟩,cell_of hc3 1 sI⟩ hx2.Gu) hx3.Gu
 ·exact XC.mono ⟨⟨u1 b4 hn4,hb4⟩,cell_of hc4 1 sI⟩ hx3.Gu
def je(g:Jn)(a b:RL):rz prog 180 where
 kinds:=[some (Sh.two,dT a),some (Sh.two,dT b),none]
 pre:=λas_ _ _=>(a.1<=2001/\b.1<=2001)/\∃ x y,as_=[x,y,.val g.v]
 premono:=λ_ _ _ _ _ _ h=>h
 out:=λ_=>.fact Sh.two (dT (aX g.mk a b))
 enters:=call180
 ok:=by
  intro w S us as_ hu hp;obtain⟨⟨ha,hb⟩,x,y,rfl⟩:=hp
  match us,hu with
  |[u1,u2,u3],hu=>
   obtain⟨h1,h2,rfl,_⟩:=hu;obtain⟨fa,rfl,h1'⟩:=lE h1;obtain⟨fb,rfl,h2'⟩:=lE h2;exact Yb g a b fa fb ha hb w S h1' h2'
theorem aaT(a:RL)(fa:Value)(ha:a.1<=2001)(w:World)(S:Nat->Prop)(h1:bI w S fa a.2) :
  Calls prog 260 #[jg a fa] w λe w' => rh w S e w' (.fact Sh.two (dT (gm a))):=by
 have ga:partsOf (.v (jg a fa))=[.v (.int .i64 (a.1:Nat)),.v fa]:=rfl;have w1:IntKind.i64.wrap (1+(a.1:Int))=((1+a.1:Nat):Int):=wW;refine jx (nt:=9) S [.cell 2 254] func260 rfl rfl rfl ?_;refine vR Γ40 (aa yZ ga) ?_;refine vR Γ40 (eS yZ ga w1 @ly) ?_
 refine Wp.oz 0 (ev (aa yZ ga)) (λE=>by simp only[au,den,ga];exact rfl) λW1 bs1 b3 hx1 hb3 hn3 hc3=>?_
 refine wZ (eS yZ ga w1 @ly) ?_;have s0:cT w S W1 (jl (eJ w S) bs1):=(eJ.lZ w S).trans (hx1.Gu) (Nat.le_refl _);exact⟨[_,_],λE=>rfl,_,rfl,.star b3 fa a.2 ⟨⟨eJ.up w S b3 hn3,hb3⟩,cell_of hc3 1 sI⟩ (h1.mono s0)⟩
def zX(a:RL):rz prog 260 where
 kinds:=[some (Sh.two,dT a)]
 pre:=λas_ _ _=>a.1<=2001/\∃ x,as_=[x]
 premono:=λ_ _ _ _ _ _ h=>h
 out:=λ_=>.fact Sh.two (dT (gm a))
 enters:=call260
 ok:=by
  intro w S us as_ hu hp;obtain⟨hp,x,rfl⟩:=hp
  match us,hu with
  |[u1],hu=>
   obtain⟨h1,_⟩:=hu;obtain⟨fa,rfl,h1'⟩:=lE h1;exact aaT a fa hp w S h1'
noncomputable def Γ41(G:Nat->Prop)(a:RL):Env prog:=⟨λ| 249=>some ((oC .eps).spec G)|180=>some ((je .alt a (bY .eps)).spec G)|_=>none,λ_=>none,λ_ _=>none⟩
theorem ad0(G:Nat->Prop)(a:RL):(Γ41 G a).sp 249=some ((oC .eps).spec G):=rfl
theorem ad7(G:Nat->Prop)(a:RL):(Γ41 G a).sp 180=some ((je .alt a (bY .eps)).spec G):=rfl
def afw:=(ur yZ @ig @oC.eq_1 @je.eq_1 @zX.eq_1 @ad0 @ad7)
theorem Sp(a:RL)(fa:Value)(ha:a.1<=2001)(w:World)(S:Nat->Prop)(h1:bI w S fa a.2) :
  Calls prog 261 #[jg a fa] w λe w' => rh w S e w' (.fact Sh.two (dT (bL a))):=by
 have ga:partsOf (.v (jg a fa))=[.v (.int .i64 (a.1:Nat)),.v fa]:=rfl;refine jx (nt:=8) S [.cell 2 254] func261 rfl rfl rfl ?_;refine vR Γ40 (aa afw ga) ?_;refine lf (Γ41 (eJ w S) a) (aa afw ga) ?_ ?_
 ·have u0:=eJ.up w S;exact⟨⟨rfl,u0⟩,⟨cq (h1.mono (eJ.lZ w S)),⟨ha,dE⟩,_,_,rfl⟩,u0⟩
 refine Wp.jh 48 (ev (aa afw ga)) (cT.refl _ _) λW1 bs1 cs hx1 hΦ=>?_
 obtain⟨fv,rfl,hg,hv1⟩:=cK hΦ;refine wZ (bP afw ga hv1) ?_;exact ni hg
def vy(a:RL):rz prog 261 where
 kinds:=[some (Sh.two,dT a)]
 pre:=λas_ _ _=>a.1<=2001/\∃ x,as_=[x]
 premono:=λ_ _ _ _ _ _ h=>h
 out:=λ_=>.fact Sh.two (dT (bL a))
 enters:=call261
 ok:=by
  intro w S us as_ hu hp;obtain⟨hp,x,rfl⟩:=hp
  match us,hu with
  |[u1],hu=>
   obtain⟨h1,_⟩:=hu;obtain⟨fa,rfl,h1'⟩:=lE h1;exact Sp a fa hp w S h1'
theorem rX(f:RL->RL):∀ (n:Nat) (x:RL),bH f (n+1) x=f (bH f n x)
 |0,x=>rfl
 |n+1,x=>by rw[bH,rX f n,<- bH]
theorem gh(mk:Rx->Rx->Rx)(a b:RL):(aX mk a b).1<=2001:=kW _
theorem pW(f:RL->RL)(hf:∀ x,(f x).1<=2001):∀ (n:Nat) (x:RL),x.1<=2001->(bH f n x).1<=2001
 |0,x,h=>h
 |n+1,x,h=>pW f hf n (f x) (hf x)
end
end Go.Proofs.YtnemkecffmdlnaaGreatDoor
