/-
 Part 3 of the proof (packed).
-/
import Derived.Test.YtnemkecffmdlnaaGreatDoorD2
import Derived.Shelf.Small.Strs
import Derived.Shelf.LaysM
import Derived.Shelf.Strconv.AtoiAll
import Derived.Shelf.Strings.Search1
import Derived.Shelf.Strings.Search2
import Derived.Shelf.Strings.Search3
import Derived.Shelf.Small.Wraps
import Derived.Shelf.Strings.Split
import Derived.Test.YtnemkecffmdlnaaGreatDoorProg
import Derived.Shelf.Strconv.Itoa3
import Derived.Lib.Bytealg
set_option linter.unusedSimpArgs false
set_option linter.unusedVariables false
set_option linter.defProp false
set_option maxHeartbeats 16000000
namespace Go.LE
section
open Go.RowKit
structure Sh where
 tm:Nat->SV
 g:∀ E k,den E (tm k)=den (λ_=>E k) (tm 0)
 k:∀ k,∀ j∈(tm k).keys,j=k
def Sh.val(s:Sh)(cs:List Value):Value:=den (λ_=>cW cs) (s.tm 0)
def Sh.one:Sh:=⟨λk=>.part k 0,λ_ _=>rfl,λk j hj=>by simpa [SV.keys] using hj⟩
def Sh.two:Sh:=⟨λk=>.agg [.part k 0,.part k 1],λ_ _=>rfl,λk j hj=>by simpa [SV.keys,al] using hj⟩
abbrev Kd:=Option (Sh×FK)
def sM:Option Value->Option (List Value)->Option (List Value)
 |some v,some vs=>some (v::vs)
 |_,_=>none
def func2(f:Fn):Option (List Value)->Option (List Value)->Option Value
 |some a,some c=>some (.func f a.toArray c.toArray)
 |_,_=>none
mutual
def cg:SV->Option Value
 |.v x=>some x
 |.agg l=>(fj l).map λvs=>.agg vs.toArray
 |.ifc t x=>(cg x).map (.iface t)
 |.fn f a c=>func2 f (fj a) (fj c)
 |_=>none
def fj:List SV->Option (List Value)
 |[]=>some []
 |x::r=>sM (cg x) (fj r)
end
mutual
theorem oU{E:Nat->Value}:∀ {x:SV} {v:Value},cg x=some v->den E x=v
 |.v x,v,h=>by simp only[cg,Option.some.injEq]at h;exact h
 |.own _ _,v,h=>by simp[cg]at h
 |.hd _,v,h=>by simp[cg]at h
 |.part _ _,v,h=>by simp[cg]at h
 |.tup _,v,h=>by simp[cg]at h
 |.agg l,v,h=>by
  simp only[cg,Option.map_eq_some_iff]at h;obtain⟨vs,h1,rfl⟩:=h;simp only[den,lD h1]
 |.ifc t x,v,h=>by
  simp only[cg,Option.map_eq_some_iff]at h;obtain⟨y,h1,rfl⟩:=h;simp only[den,oU h1]
 | .fn f a c,v,h=>by
  simp only[cg]at h;cases h1:fj a with
  |none=>rw[h1]at h;simp[func2]at h
  | some a' =>
   cases h2:fj c with
   |none=>rw[h1,h2]at h;simp[func2]at h
   |some c' =>
    rw[h1,h2]at h;simp only[func2,Option.some.injEq]at h;subst h;simp only[den,lD h1,lD h2]
theorem lD{E:Nat->Value}:∀ {l:List SV} {vs:List Value},fj l=some vs->ah E l=vs
 |[],vs,h=>by simp only[fj,Option.some.injEq]at h;subst h;rfl
 | x::r,vs,h=>by
  simp only[fj]at h;cases h1:cg x with
  |none=>rw[h1]at h;simp[sM]at h
  | some v' =>
   cases h2:fj r with
   |none=>rw[h1,h2]at h;simp[sM]at h
   |some vs' =>
    rw[h1,h2]at h;simp only[sM,Option.some.injEq]at h;subst h;simp only[ah,oU h1,lD h2]
end
def jy:SV->Option Nat
 |.part k _=>some k
 |.agg (.part k _::_)=>some k
 |_=>none
structure GV1 where
 p:Prop
 a:AV
 rs:List Nat
 cs:List Nat
structure GVL where
 p:Prop
 as_:List AV
 rs:List Nat
 cs:List Nat
def ace:Option (AV×List Nat)->GV1
 |some (a,r)=>⟨True,a,r,[]⟩
 |none=>⟨False,.val undef,[],[]⟩
def gvO(G:Nat->Prop)(W:World)(bs:List Nat)(sh:Sh)(Φ:FK)(x:SV)(k:Nat):Option aI->GV1
 |some (.obj d R)=>⟨x=sh.tm k/\d=[]/\R=iV G W bs Φ,.val undef,[k],[k]⟩
 |_=>⟨False,.val undef,[],[]⟩
def gvF(G:Nat->Prop)(W:World)(bs:List Nat)(h:Hp)(sh:Sh)(Φ:FK)(x:SV):Option Value->Option Nat->GV1
 |some v,_=>⟨∃ cs,v=sh.val cs/\Φ.Φ cs W (fi G bs),.val undef,[],[]⟩
 |none,some k=>gvO G W bs sh Φ x k (h k)
 |none,none=>⟨False,.val undef,[],[]⟩
def yd(G:Nat->Prop)(W:World)(bs:List Nat)(h:Hp):Kd->SV->GV1
 |none,x=>ace (bS h x)
 |some (sh,Φ),x=>gvF G W bs h sh Φ x (cg x) (jy x)
def gvC(a:GV1)(l:GVL):GVL:=⟨a.p/\l.p,a.a::l.as_,a.rs++l.rs,a.cs++l.cs⟩
def lh(G:Nat->Prop)(W:World)(bs:List Nat)(h:Hp):List Kd->List SV->GVL
 |[],[]=>⟨True,[],[],[]⟩
 |kd::ks,x::r=>gvC (yd G W bs h kd x) (lh G W bs h ks r)
 |_,_=>⟨False,[],[],[]⟩
def yP(w:World)(S:Nat->Prop):List Kd->List Value->List AV->Prop
 |[],[],[]=>True
 |none::ks,u::us,a::as_=>Ab w u a/\yP w S ks us as_
 |some (sh,Φ)::ks,u::us,_::as_=>(∃ cs,u=sh.val cs/\Φ.Φ cs w S)/\yP w S ks us as_
 |_,_,_=>False
section
variable {P:Program}{W:World}{bs:List Nat}{κ:Nat}{E:Nat->Value}{F:Nat->List Nat}{h:Nat->Option aI}{w:World}{K:Nat->Prop}{G:Nat->Prop}
def Im(w:World)(S:Nat->Prop)(u:Value)(a:AV):Kd->Prop
 |none=>Ab w u a
 |some (sh,Φ)=>∃ cs,u=sh.val cs/\Φ.Φ cs w S
theorem YG(hs:ab W bs E F h w){S:Nat->Prop}(hS:∀ b,b<W.heap.size->fi G bs b->S b){kd:Kd}{x:SV}(hp:(yd G W bs h kd x).p)(hc:∀ k∈(yd G W bs h kd x).cs,∀ b∈F k,S b) :
  Im w S (den E x) (yd G W bs h kd x).a kd:=by
 match kd with
 |none=>
  simp only[yd,Im]at hp ⊢;cases hv:bS h x with
  |none=>rw[hv]at hp;exact hp.elim
  |some q=>obtain⟨a,r⟩:=q;exact Ah hs hv
 | some (sh,Φ)=>
  simp only[yd,Im]at hp hc ⊢;cases hv:cg x with
  |some v=>
   rw[hv]at hp;obtain⟨cs,h1,h2⟩:=hp;exact⟨cs,by rw[oU hv,h1],Φ.mono (λb hb hr=>⟨hs.keeps.block b hb hr.2,hS b hb hr⟩) h2⟩
  | none=>
   rw[hv]at hp hc;cases hk:jy x with
   |none=>rw[hk]at hp;exact hp.elim
   | some k=>
    rw[hk]at hp hc;simp only[gvF]at hp hc;cases hkk:h k with
    |none=>rw[hkk]at hp;exact hp.elim
    | some e=>
     rw[hkk]at hp hc;cases e with
     |cells T vs=>exact hp.elim
     |row T s n vs=>exact hp.elim
     |obj d R=>
      obtain⟨hx,rfl,rfl⟩:=hp;obtain⟨⟨⟨hG,cs,h1,h2⟩,_⟩,_⟩:=hs.ent k _ hkk;refine⟨cs,?_,h2 w S (λb hb hr=>⟨hs.keeps.block b hb hr.2,hS b hb hr⟩) λb hb=>⟨rfl,hc k (by simp[gvO]) b hb⟩⟩;rw[hx,sh.g E k,h1];rfl
theorem Bz(hs:ab W bs E F h w){S:Nat->Prop}(hS:∀ b,b<W.heap.size->fi G bs b->S b):∀ {kds:List Kd} {l:List SV},(lh G W bs h kds l).p->(∀ k∈(lh G W bs h kds l).cs,∀ b∈F k,S b) ->
  yP w S kds (ah E l) (lh G W bs h kds l).as_
 |[],[],_,_=>trivial
 |[],_::_,hp,_=>hp.elim
 |_::_,[],hp,_=>hp.elim
 |kd::ks,x::r,hp,hc=>by
  have h1:=YG hs hS (kd:=kd) (x:=x) hp.1 (λk hk=>hc k (List.mem_append_left _ hk));have h2:=Bz hs hS (kds:=ks) (l:=r) hp.2 (λk hk=>hc k (List.mem_append_right _ hk));revert h1;cases kd with
  |none=>exact λh1=>⟨h1,h2⟩
  |some q=>exact λh1=>⟨h1,h2⟩
theorem Ws{h' : Hp}{kd:Kd}{x:SV}(hp:(yd G W bs h kd x).p)(hr:∀ k∈(yd G W bs h kd x).rs,h' k=h k):yd G W bs h' kd x=yd G W bs h kd x:=by
 match kd with
 | none=>
  simp only[yd]at hp hr ⊢;cases hv:bS h x with
  |none=>rw[hv]at hp;exact hp.elim
  |some q=>
   obtain⟨a,r⟩:=q;rw[hv]at hr;rw[yN hv hr]
 | some (sh,Φ)=>
  simp only[yd]at hp hr ⊢;cases hv:cg x with
  |some v=>rfl
  | none=>
   rw[hv]at hp hr;cases hk:jy x with
   |none=>rfl
   | some k=>
    rw[hk]at hp hr;simp only[gvF]at hp hr ⊢;cases hkk:h k with
    |none=>rw[hkk]at hp;exact hp.elim
    |some e=>
     rw[hkk]at hp hr;cases e with
     |cells T vs=>exact hp.elim
     |row T s n vs=>exact hp.elim
     |obj d R=>rw[hr k (by simp[gvO]),hkk]
theorem Av{h' : Hp}:∀ {kds:List Kd} {l:List SV},(lh G W bs h kds l).p->(∀ k∈(lh G W bs h kds l).rs,h' k=h k)->lh G W bs h' kds l=lh G W bs h kds l
 |[],[],_,_=>rfl
 |[],_::_,hp,_=>hp.elim
 |_::_,[],hp,_=>hp.elim
 |kd::ks,x::r,hp,hr=>by
  have hp' : (yd G W bs h kd x).p/\(lh G W bs h ks r).p:=hp;show gvC (yd G W bs h' kd x) (lh G W bs h' ks r)=gvC (yd G W bs h kd x) (lh G W bs h ks r);rw[Ws hp'.1 λk hk=>hr k (List.mem_append_left _ hk),Av hp'.2 λk hk=>hr k (List.mem_append_right _ hk)]
theorem Xy{kd:Kd}{x:SV}(hp:(yd G W bs h kd x).p):∀ k∈(yd G W bs h kd x).cs,∃ Φ,h k=some (.obj [] (iV G W bs Φ)):=by
 match kd with
 |none=>
  simp only[yd]at hp ⊢;cases hv:bS h x with
  |none=>rw[hv]at hp;exact hp.elim
  |some q=>intro k hk;cases hk
 | some (sh,Φ)=>
  simp only[yd]at hp ⊢;cases hv:cg x with
  |some v=>intro k hk;cases hk
  | none=>
   rw[hv]at hp;cases hk:jy x with
   |none=>rw[hk]at hp;exact hp.elim
   | some k=>
    rw[hk]at hp;simp only[gvF]at hp ⊢;cases hkk:h k with
    |none=>rw[hkk]at hp;exact hp.elim
    | some e=>
     rw[hkk]at hp;cases e with
     |cells T vs=>exact hp.elim
     |row T s n vs=>exact hp.elim
     |obj d R=>
      obtain⟨hx,rfl,rfl⟩:=hp;intro j hj;simp only[gvO,List.mem_singleton]at hj;subst hj;exact⟨Φ,hkk⟩
theorem p5:∀ {kds:List Kd} {l:List SV},(lh G W bs h kds l).p->∀ k∈(lh G W bs h kds l).cs,∃ Φ,h k=some (.obj [] (iV G W bs Φ))
 |[],[],_,k,hk=>by cases hk
 |[],_::_,hp,_,_=>hp.elim
 |_::_,[],hp,_,_=>hp.elim
 |kd::ks,x::r,hp,k,hk=>by
  rcases List.mem_append.1 hk with hk|hk
  ·exact Xy hp.1 k hk
  ·exact p5 hp.2 k hk
end
inductive FOut where
 |val (v:Value)
 |fact (sh:Sh) (Φ:FK)
 |pan (c:List PanicEntry) (v:Value)
def lT(w:World)(S:Nat->Prop)(e:Ending)(w' : World):FOut->Prop
 |.val v=>e=.returned v/\af w [] w'
 |.fact sh Φ=>∃ cs,e=.returned (sh.val cs)/\Φ.Φ cs w' (λb=>b<w.heap.size->S b)/\af w [] w'
 |.pan c _=>e=.panicked c/\af w [] w'
structure jw (P:Program)(f:FuncId) where
 kinds:List Kd
 pre:List AV->World->(Nat->Prop)->Prop
 premono:∀ as_ W S W' S',bV W S W' S' -> pre as_ W S->pre as_ W' S'
 out:List AV->FOut
 enters:∀ args w,(callFunc f args).run P w=.ok (.enter f args) w
 ok:∀ (w:World) (S:Nat->Prop) (us:List Value) (as_:List AV),yP w S kinds us as_->pre as_ w S->Calls P f us.toArray w λe w' => lT w S e w' (out as_)
def qc(G:Nat->Prop)(κ:Nat)(W:World)(bs:List Nat)(q:Prop)(rs cs:List Nat):FOut->R
 |.val v=>⟨q,.v v,[],none,[],rs⟩
 |.fact sh Φ=>⟨q/\Up G W bs,sh.tm (8*κ),db cs++[(8*κ,some (.obj [] (iV G W bs Φ)))],none,[],rs⟩
 |.pan c v=>⟨q,.v v,[],some c,[],rs⟩
def vo(G:Nat->Prop)(κ:Nat)(W:World)(bs:List Nat)(pre:List AV->World->(Nat->Prop)->Prop)(out:List AV->FOut)(g:GVL):R:=
 qc G κ W bs (g.p/\pre g.as_ W (fi G bs)) g.rs g.cs (out g.as_)
theorem PX{W w:World}{bs:List Nat}{G:Nat->Prop}{S:Nat->Prop}(hk:af W bs w)(hS:∀ b,b<W.heap.size->fi G bs b->S b):bV W (fi G bs) w S:=λb hb hr=>⟨hk.block b hb hr.2,hS b hb hr⟩
theorem zF{W w w' : World}{bs fp0 fp:List Nat}{G S Sn:Nat->Prop}{Φ:FK}{cs:List Value}(hk:af W bs w)(hkeep:af w fp0 w')
  (hΦ:Φ.Φ cs w' Sn) (hS:∀ b,S b->(b<W.heap.size/\fi G bs b)\/b∈fp) (hS0:∀ b,b<W.heap.size->fi G bs b->b∉fp0)
  (hn:∀ b,b<w'.heap.size->Sn b->(b<w.heap.size/\S b)\/b∈fp) (hG:∀ b∈fp,G b) :
  ∀ w3:World,(∀ b∈fp,w3.heap[b]?=w'.heap[b]?)->iV G W bs Φ [] (cW cs) fp w3:=by
 intro w3 h3;refine⟨hG,cs,rfl,λW₂ S₂ hold hnew=>Φ.mono (λb hb hg=>?_) hΦ⟩;have inFp:b∈fp->W₂.heap[b]?=w'.heap[b]?/\S₂ b:=λhb' => by
  obtain⟨g3,g4⟩:=hnew b hb';exact⟨by rw[g3,h3 b hb'],g4⟩
 rcases hn b hb hg with ⟨hb1,hb2⟩|hb'
 ·rcases hS b hb2 with ⟨g1,g2⟩|hb'
  ·obtain⟨g3,g4⟩:=hold b g1 g2;exact⟨by rw[g3,hkeep.block b hb1 (hS0 b g1 g2),hk.block b g1 g2.2],g4⟩
  ·exact inFp hb'
 ·exact inFp hb'
theorem nu{w w' : World}(hs:w.heap.size<=w'.heap.size)(b:Nat):b∈List.range' w.heap.size (w'.heap.size-w.heap.size) ↔ w.heap.size<=b/\b<w'.heap.size:=by
 rw[List.mem_range'_1];omega
def jw.spec{P:Program}{f:FuncId}(p:jw P f)(G:Nat->Prop):Spec P f where
 ev:=λW bs κ h args=>vo G κ W bs p.pre p.out (lh G W bs h p.kinds args)
 good:=λW bs κ E F h w K args hs hK hk hx hside=>by
  rw[p.enters];have hS:∀ b,b<W.heap.size->fi G bs b->(b<W.heap.size/\fi G bs b)\/∃ k∈(lh G W bs h p.kinds args).cs,b∈F k:=λb h1 h2=>.inl ⟨h1,h2⟩
  have call:(lh G W bs h p.kinds args).p->p.pre (lh G W bs h p.kinds args).as_ W (fi G bs)->Calls P f (ah E args).toArray w λe w' => lT w (λb=>(b<W.heap.size/\fi G bs b)\/∃ k∈(lh G W bs h p.kinds args).cs,b∈F k) e w' (p.out (lh G W bs h p.kinds args).as_):=λh1 h2=>
   p.ok w _ _ _ (Bz hs hS h1 λk hk b hb=>.inr ⟨k,hk,hb⟩) (p.premono _ _ _ _ _ (PX hs.keeps hS) h2)
  revert hside;unfold vo;cases hout:p.out (lh G W bs h p.kinds args).as_ with
  |val v=>
   rintro⟨h1,h2⟩;have hc:=call h1 h2;rw[hout]at hc;exact q8 hs hc rfl rfl rfl
  |pan c v=>
   rintro⟨h1,h2⟩;have hc:=call h1 h2;rw[hout]at hc;refine hc.mono λe w' he=>?_
   obtain⟨rfl,hkeep⟩:=he;exact⟨rfl,F,(hs.grow hkeep).drop λk e he=>by simpa [qc,dropKeys] using he⟩
  | fact sh Φ=>
   rintro⟨⟨h1,h2⟩,hup⟩;have hc:=call h1 h2;rw[hout]at hc;refine hc.mono λe w' he=>?_
   obtain⟨cs,rfl,hΦ,hkeep⟩:=he;have hobj:=p5 h1;have hK8:¬ K (8*κ):=hk _ oM;have hR:=zF (G:=G) (S:=λb=>(b<W.heap.size/\fi G bs b)\/∃ k∈(lh G W bs h p.kinds args).cs,b∈F k) (fp:=List.range' w.heap.size (w'.heap.size-w.heap.size)++(lh G W bs h p.kinds args).cs.flatMap F) hs.keeps hkeep hΦ
    (λb hb=>hb.elim .inl λ⟨k,hk,hbk⟩=>.inr (List.mem_append_right _ (List.mem_flatMap.2 ⟨k,hk,hbk⟩))) (λ_ _ _=>by simp)
    (λb hb hn=>by
     by_cases hbw:b<w.heap.size
     ·exact .inl ⟨hbw,hn hbw⟩
     ·exact .inr (List.mem_append_left _ ((nu hkeep.size b).2 ⟨oM,hb⟩)))
    (λb hb=>by
     rcases List.mem_append.1 hb with hb|hb
     ·exact hup b (.inl (Nat.le_trans hs.keeps.size ((nu hkeep.size b).1 hb).1))
     ·obtain⟨k,hk,hbk⟩:=List.mem_flatMap.1 hb
      obtain⟨Φ',hk'⟩:=hobj k hk
      exact (hs.ent k _ hk').1.1.1 b hbk)
   refine⟨rfl,a7 E (8*κ) (cW cs),a7 F (8*κ) (List.range' w.heap.size (w'.heap.size-w.heap.size)++(lh G W bs h p.kinds args).cs.flatMap F),λk hk' => aj _ _ λe=>hk' (by subst e;omega),?_,?_⟩
   ·simp only[qc];rw[sh.g,ai];rfl
   ·simp only[qc];have hne:∀ j x,h j=some x->j≠8*κ:=λj x hj e=>hK8 (e ▸ (hK j x hj).1)
    refine hs.lI hK (lh G W bs h p.kinds args).cs (a7 (λ_=>none) (8*κ) (some (.obj [] (iV G W bs Φ)))) (λj hj=>?_) (λj hj=>aj _ _ λe=>hK8 (e ▸ hj)) (λj e he=>?_) (λi j e e' hij hi hj b hb=>?_) (λj x hx hj=>aj _ _ (hne j x hx)) (λj=>?_) (hkeep.mono λb hb=>by cases hb)
    ·obtain⟨Φ',hj'⟩:=hobj j hj;exact⟨_,hj'⟩
    ·by_cases hj:j=8*κ
     ·subst hj;simp only[ai,Option.some.injEq]at he;subst he;rw[ai,ai];refine⟨⟨⟨hR w' λ_ _=>rfl,rfl⟩,hR⟩,λb hb=>?_,λb hb=>?_⟩
      ·rcases List.mem_append.1 hb with hb|hb
       ·exact .inr ((nu hkeep.size b).1 hb).1
       ·obtain⟨k,hk,hbk⟩:=List.mem_flatMap.1 hb;exact .inl ⟨k,hk,hbk⟩
      ·rcases List.mem_append.1 hb with hb|hb
       ·exact ((nu hkeep.size b).1 hb).2
       ·obtain⟨k,hk,hbk⟩:=List.mem_flatMap.1 hb;obtain⟨Φ',hk'⟩:=hobj k hk;exact Nat.lt_of_lt_of_le (hs.lt k _ hk' b hbk) hkeep.size
     ·rw[aj _ _ hj]at he;cases he
    ·by_cases hi' : i=8*κ
     ·by_cases hj' : j=8*κ
      ·exact absurd (hi'.trans hj'.symm) hij
      ·rw[aj _ _ hj']at hj;cases hj
     ·rw[aj _ _ hi']at hi;cases hi
    ·rw[bM];simp only[aO];by_cases hj:j=8*κ
     ·subst hj;simp[ai]
     ·rw[aj _ _ hj,aj _ _ hj,jg]
 keys:=λW bs κ h K args hK hx hside=>by
  revert hside;unfold vo;cases hout:p.out (lh G W bs h p.kinds args).as_ with
  |val v=>exact λ_=>aC.plain (λk hk=>by cases hk) rfl
  |pan c v=>exact λ_=>aC.plain (λk hk=>by cases hk) rfl
  | fact sh Φ=>
   rintro⟨⟨h1,h2⟩,hup⟩;refine⟨λk hk=>.inr (by rw[sh.k _ k hk];omega),λq hq=>?_⟩;simp only[qc,List.mem_append,List.mem_singleton,db,List.mem_map]at hq;rcases hq with ⟨j,hj,rfl⟩|rfl
   ·obtain⟨Φ',hj'⟩:=p5 h1 j hj;exact⟨.inl (hK j _ hj').1,λe he=>by cases he⟩
   ·refine⟨.inr (by simp only;omega),λe he k hk=>?_⟩;simp only[Option.some.injEq]at he;subst he;cases hk
 loc:=λW bs κ h h' args hside hr=>by
  have hp:(lh G W bs h p.kinds args).p:=by
   revert hside;unfold vo;cases p.out (lh G W bs h p.kinds args).as_ with
   |val v=>exact λh=>h.1
   |pan c v=>exact λh=>h.1
   |fact sh Φ=>exact λh=>h.1.1
  have hr' : ∀ k∈(lh G W bs h p.kinds args).rs,h' k=h k:=by
   revert hr;unfold vo;cases p.out (lh G W bs h p.kinds args).as_<;>exact λh=>h
  rw[Av hp hr']
theorem eA{P:Program}{f:FuncId}(p:jw P f)(G:Nat->Prop)(W:World)(bs:List Nat)(κ:Nat)(h:Hp)(l:List SV):(p.spec G).ev W bs κ h l=vo G κ W bs p.pre p.out (lh G W bs h p.kinds l):=rfl
end
section
open Go.RowKit
inductive GOut where
 |ret (v:Value) (fs:List AV)
 |fact (sh:Sh) (Φ:FK) (fs:List AV)
 |pan (c:List PanicEntry) (v:Value)
def zh(w:World)(S:Nat->Prop)(u:Value)(fp:List Nat)(T:TypeId)(e:Ending)(w' : World):GOut->Prop
 |.ret v fs=>e=.returned v/\(∃ fp',bJ w' u fp' T fs/\(∀ b∈fp',b∈fp\/w.heap.size<=b)/\∀ b∈fp',b<w'.heap.size)/\af w fp w'
 |.fact sh Φ fs=>∃ cs,e=.returned (sh.val cs)/\(∃ fp',bJ w' u fp' T fs/\(∀ b∈fp',b∈fp\/w.heap.size<=b)/\(∀ b∈fp',b<w'.heap.size)/\Φ.Φ cs w' (λb=>(b<w.heap.size->S b\/b∈fp)/\b∉fp'))/\af w fp w'
 |.pan c _=>e=.panicked c/\af w fp w'
structure zl (P:Program)(f:FuncId) where
 T:TypeId
 kinds:List Kd
 pre:List AV->List AV->World->(Nat->Prop)->Prop
 premono:∀ fs as_ W S W' S',bV W S W' S' -> pre fs as_ W S->pre fs as_ W' S'
 out:List AV->List AV->GOut
 enters:∀ args w,(callFunc f args).run P w=.ok (.enter f args) w
 ok:∀ (w:World) (S:Nat->Prop) (u:Value) (fp:List Nat) (us:List Value) (fs as_:List AV),bJ w u fp T fs->(∀ b∈fp,b<w.heap.size)->(∀ b∈fp,¬ S b)->yP w S kinds us as_->pre fs as_ w S ->
  Calls P f (u::us).toArray w λe w' => zh w S u fp T e w' (out fs as_)
def mc(G:Nat->Prop)(κ k:Nat)(T:TypeId)(W:World)(bs:List Nat)(q:Prop)(rs rs' cs:List Nat):GOut->R
 |.ret v fs=>⟨q/\(k::rs).Nodup/\(∀ j∈rs',j∉k::rs)/\fs.length<=7,.v v,db rs++(bZ (aT (8*κ) fs)++[(k,some (.cells T (aF (8*κ) fs)))]),none,[],k::(rs++rs')⟩
 | .fact sh Φ fs=>⟨q/\(k::rs).Nodup/\(∀ j∈rs',j∉k::rs)/\fs.length<=7/\Up G W bs,sh.tm (8*κ+7),
   db (rs++cs)++(bZ (aT (8*κ) fs)++[(k,some (.cells T (aF (8*κ) fs))),(8*κ+7,some (.obj [] (iV G W bs Φ)))]),none,[],k::(rs++rs')⟩
 |.pan c v=>⟨q/\(k::rs).Nodup/\(∀ j∈rs',j∉k::rs),.v v,[],some c,k::rs,k::(rs++rs')⟩
def wV(G:Nat->Prop)(κ k:Nat)(T T' : TypeId)(W:World)(bs:List Nat)(pre:List AV->List AV->World->(Nat->Prop)->Prop)(out:List AV->List AV->GOut)(g:GVL):Option (List AV×List Nat)->R
 |some (fs,rs)=>mc G κ k T W bs (T' = T/\g.p/\pre fs g.as_ W (fi G bs)) rs g.rs g.cs (out fs g.as_)
 |none=>.bad
def xz(G:Nat->Prop)(h:Hp)(κ k:Nat)(T:TypeId)(W:World)(bs:List Nat)(pre:List AV->List AV->World->(Nat->Prop)->Prop)(out:List AV->List AV->GOut)(g:GVL):Option aI->R
 |some (.cells T' vs)=>wV G κ k T T' W bs pre out g (ay h vs)
 |_=>.bad
def zx(G:Nat->Prop)(h:Hp)(κ:Nat)(T:TypeId)(W:World)(bs:List Nat)(kinds:List Kd)(pre:List AV->List AV->World->(Nat->Prop)->Prop)(out:List AV->List AV->GOut):List SV->R
 |.own k 0::rest=>xz G h κ k T W bs pre out (lh G W bs h kinds rest) (h k)
 |_=>.bad
section
variable {P:Program}{W:World}{bs:List Nat}{κ:Nat}{E:Nat->Value}{F:Nat->List Nat}{h:Nat->Option aI}{w:World}{K:Nat->Prop}{G:Nat->Prop}
theorem Lm{w' : World}{k:Nat}{T:TypeId}{vs:List SV}{fs fs' : List AV}{rs fp' ks' fpn:List Nat}{cs:List Value}{R:List Value->Value->List Nat->World->Prop}(hs:ab W bs E F h w)(hK:bp K h)(hk:∀ k,k / 8=κ->¬ K k)
  (hkk:h k=some (.cells T vs)) (hv:ay h vs=some (fs,rs)) (hlen:fs'.length<=7) (hn:(k::rs).Nodup) (hks:∀ j∈ks',∃ d R,h j=some (.obj d R))
  (ho:bJ w' (E k) fp' T fs') (h1:∀ b∈fp',b∈(k::rs).flatMap F\/w.heap.size<=b) (h2:∀ b∈fp',b<w'.heap.size)
  (hfn:∀ b∈fpn,b∉fp' /\ b<w'.heap.size/\((∃ j∈k::(rs++ks'),b∈F j)\/w.heap.size<=b)) (hR:∀ w3:World,(∀ b∈fpn,w3.heap[b]?=w'.heap[b]?)->R [] (cW cs) fpn w3)
  (hkeep:af w ((k::rs).flatMap F) w') :
  ∃ E' F',(∀ j,j / 8≠κ->E' j=E j)/\E' (8*κ+7)=cW cs/\ab W bs E' F' (aO h (db (rs++ks')++(bZ (aT (8*κ) fs')++[(k,some (.cells T (aF (8*κ) fs'))),(8*κ+7,some (.obj [] R))]))) w' := by
 obtain⟨b,us,hu,hb,hus,rfl,hnd⟩:=ho;have hl:=jx hus;have hKk:K k:=(hK k _ hkk).1;have hfr:∀ j,8*κ<=j->j<8*κ+8->¬ K j:=λj g1 g2=>hk j oM
 have hk7:k≠8*κ+7:=λe=>hfr k oM oM hKk
 have hkf:k<8*κ\/8*κ+8<=k:=by
  by_cases g1:k<8*κ
  ·exact .inl g1
  ·by_cases g2:8*κ+8<=k
   ·exact .inr g2
   ·exact absurd hKk (hfr k oM oM)
 have hE:∀ j,j / 8≠κ->a7 (iD (8*κ) us E) (8*κ+7) (cW cs) j=E j:=λj hj=>by
  rw[aj _ _ oM];exact kz oM
 have hsome:∀ p∈bZ (aT (8*κ) fs')++[(k,some (.cells T (aF (8*κ) fs'))),(8*κ+7,some (.obj [] R))],∃ e,p.2=some e:=λp hp=>by
  rcases List.mem_append.1 hp with hp|hp
  ·obtain⟨e,he,_⟩:=dZ.1 hp;exact⟨e,by rw[he]⟩
  ·simp at hp;rcases hp with rfl|rfl
   ·exact⟨_,rfl⟩
   ·exact⟨_,rfl⟩
 have hrow7:∀ j e,(j,e)∈aT (8*κ) fs' -> j≠8*κ+7:=λj e hm=>by
  have:=eL _ hm;simp only at this;omega
 have hNm:∀ j e,aO (λ_=>none) (bZ (aT (8*κ) fs')++[(k,some (.cells T (aF (8*κ) fs'))),(8*κ+7,some (.obj [] R))]) j=some e ->
   (j=k/\e=.cells T (aF (8*κ) fs'))\/(j=8*κ+7/\e=.obj [] R)\/(j≠k/\j≠8*κ+7/\(j,e)∈aT (8*κ) fs'):=λj e he=>by
  rw[bM]at he;simp only[aO]at he;by_cases hj7:j=8*κ+7
  ·subst hj7;rw[ai]at he;cases he;exact .inr (.inl ⟨rfl,rfl⟩)
  ·rw[aj _ _ hj7]at he;by_cases hj:j=k
   ·subst hj;rw[ai]at he;cases he;exact .inl ⟨rfl,rfl⟩
   ·rw[aj _ _ hj]at he;rcases iw (λ_=>(none:Option aI)) (k:=j) (u:=bZ (aT (8*κ) fs')) with ⟨x,hx,hx'⟩|⟨_,hx'⟩
    ·rw[hx']at he;subst he;obtain⟨e',h3,h4⟩:=dZ.1 hx;simp only[Prod.mk.injEq,true_and,Option.some.injEq]at h3;subst h3;exact .inr (.inr ⟨hj,hj7,h4⟩)
    ·rw[hx']at he;cases he
 have hNk:aO (λ_=>none) (bZ (aT (8*κ) fs')++[(k,some (.cells T (aF (8*κ) fs'))),(8*κ+7,some (.obj [] R))]) k=some (.cells T (aF (8*κ) fs')):=by
  rw[bM];simp only[aO];rw[aj _ _ hk7,ai]
 have hN7:aO (λ_=>none) (bZ (aT (8*κ) fs')++[(k,some (.cells T (aF (8*κ) fs'))),(8*κ+7,some (.obj [] R))]) (8*κ+7)=some (.obj [] R):=by
  rw[bM];simp[aO,ai]
 have hb' : b∉yc us fs' := (List.nodup_cons.1 hnd).1;have hnd' : (yc us fs').Nodup:=(List.nodup_cons.1 hnd).2;have own:∀ j∈k::(rs++ks'),∃ e,h j=some e:=λj hj=>by
  rcases List.mem_cons.1 hj with rfl|hj
  ·exact⟨_,hkk⟩
  ·rcases List.mem_append.1 hj with hj|hj
   ·exact (b7 hs hv).2 j hj
   ·obtain⟨d,R',h'⟩:=hks j hj;exact⟨_,h'⟩
 refine⟨a7 (iD (8*κ) us E) (8*κ+7) (cW cs),a7 (a7 (gI (8*κ) us fs' F) k [b]) (8*κ+7) fpn,hE,by rw[ai],?_⟩
 refine hs.lI hK (k::(rs++ks')) (aO (λ_=>none) (bZ (aT (8*κ) fs')++[(k,some (.cells T (aF (8*κ) fs'))),(8*κ+7,some (.obj [] R))])) own (λj hj=>hE j λe=>hk j e hj) (λj e he=>?_) (λi j e e' hij hi hj c hc=>?_) (λj x hx hj=>?_) (λj=>?_) ?_
 ·rcases hNm j e he with ⟨rfl,rfl⟩|⟨rfl,rfl⟩|⟨hjk,hj7,hm⟩
  ·rw[aj _ _ hk7,aj _ _ hk7,ai,kz oM];refine⟨⟨b,hu,rfl,?_⟩,λc hc=>?_,λc hc=>h2 c (by simp at hc;simp[hc])⟩
   ·rw[br (E' := iD (8*κ) us E) _ λi hi=>aj _ _ (by have:=cB i hi;omega),hH hus];exact hb
   ·simp only[List.mem_singleton]at hc;subst hc;rcases h1 c sI with g|g
    ·obtain⟨i,hi,hci⟩:=List.mem_flatMap.1 g
     exact .inl ⟨i, by rcases List.mem_cons.1 hi with hi|hi
                       ·exact List.mem_cons.2 (.inl hi)
                       ·exact List.mem_cons.2 (.inr (List.mem_append_left _ hi)),hci⟩
    ·exact .inr g
  ·rw[ai,ai];refine⟨⟨⟨hR w' λ_ _=>rfl,rfl⟩,hR⟩,λc hc=>(hfn c hc).2.2,λc hc=>(hfn c hc).2.1⟩
  ·rw[aj _ _ hj7,aj _ _ hj7,aj _ _ hjk];obtain⟨g1,g2⟩:=ji (E:=E) (F:=F) hus hm (iD (8*κ) us E);refine⟨gy (λi hi=>?_) g1,λc hc=>?_,λc hc=>h2 c (List.mem_cons_of_mem _ (g2 c hc))⟩
   ·rw[(eL _ hm).2.2]at hi;cases hi
   ·rcases h1 c (List.mem_cons_of_mem _ (g2 c hc)) with g|g
    ·obtain⟨i,hi,hci⟩:=List.mem_flatMap.1 g
     exact .inl ⟨i, by rcases List.mem_cons.1 hi with hi|hi
                       ·exact List.mem_cons.2 (.inl hi)
                       ·exact List.mem_cons.2 (.inr (List.mem_append_left _ hi)),hci⟩
    ·exact .inr g
 ·have hrowfp:∀ i e,i≠k->i≠8*κ+7->(i,e)∈aT (8*κ) fs' -> ∀ c∈a7 (a7 (gI (8*κ) us fs' F) k [b]) (8*κ+7) fpn i,c∈yc us fs' := λi e g1 g2 hm c hc=>by
   rw[aj _ _ g2,aj _ _ g1]at hc;exact cR hl hm c hc
  rcases hNm i e hi with ⟨rfl,rfl⟩|⟨rfl,rfl⟩|⟨hik,hi7,hmi⟩
  ·rw[aj _ _ hk7,ai]at hc;simp only[List.mem_singleton]at hc;subst hc;rcases hNm j e' hj with ⟨rfl,rfl⟩|⟨rfl,rfl⟩|⟨hjk,hj7,hmj⟩
   ·exact absurd rfl hij
   ·rw[ai];exact λhc' => (hfn c hc').1 sI
   ·exact λhc' => hb' (hrowfp j e' hjk hj7 hmj c hc')
  ·rw[ai]at hc;have hc1:=(hfn c hc).1;rcases hNm j e' hj with ⟨rfl,rfl⟩|⟨rfl,rfl⟩|⟨hjk,hj7,hmj⟩
   ·rw[aj _ _ hk7,ai];exact λhc' => hc1 (by simp at hc';simp[hc'])
   ·exact absurd rfl hij
   ·exact λhc' => hc1 (List.mem_cons_of_mem _ (hrowfp j e' hjk hj7 hmj c hc'))
  ·rcases hNm j e' hj with ⟨rfl,rfl⟩|⟨rfl,rfl⟩|⟨hjk,hj7,hmj⟩
   ·have:=hrowfp i e hik hi7 hmi c hc;rw[aj _ _ hk7,ai];intro hc';simp only[List.mem_singleton]at hc';subst hc';exact hb' this
   ·have:=hrowfp i e hik hi7 hmi c hc;rw[ai];exact λhc' => (hfn c hc').1 (List.mem_cons_of_mem _ this)
   ·rw[aj _ _ hi7,aj _ _ hik]at hc;rw[aj _ _ hj7,aj _ _ hjk];exact iy hnd' hmi hmj hl hij c hc
 ·have hjk:j≠k:=λe=>by rw[e,hNk]at hj;cases hj
  have hj7:j≠8*κ+7:=λe=>by rw[e,hN7]at hj;cases hj
  rw[aj _ _ hj7,aj _ _ hjk];have hKj:=(hK j x hx).1;by_cases g1:j<8*κ
  ·exact ic (.inl g1)
  ·by_cases g2:8*κ+8<=j
   ·exact ic (.inr oM)
   ·exact absurd hKj (hfr j oM oM)
 ·rw[bM,gM _ _ _ hsome,jg];cases hN:aO (λ_=>none) (bZ (aT (8*κ) fs')++[(k,some (.cells T (aF (8*κ) fs'))),(8*κ+7,some (.obj [] R))]) j with
  |some e=>rfl
  |none=>
   have hjk:j≠k:=λe=>by rw[e,hNk]at hN;cases hN
   simp[hjk]
 ·refine hkeep.mono λc hc=>?_
  obtain⟨i,hi,hci⟩:=List.mem_flatMap.1 hc;refine List.mem_flatMap.2 ⟨i,?_,hci⟩;rcases List.mem_cons.1 hi with hi|hi
  ·exact List.mem_cons.2 (.inl hi)
  ·exact List.mem_cons.2 (.inr (List.mem_append_left _ hi))
end
def zl.spec{P:Program}{f:FuncId}(p:zl P f)(G:Nat->Prop):Spec P f where
 ev:=λW bs κ h args=>zx G h κ p.T W bs p.kinds p.pre p.out args
 good:=λW bs κ E F h w K args hs hK hk hx hside=>by
  rw[p.enters];revert hside;unfold zx;split
  ·rename_i k rest;generalize hg:lh G W bs h p.kinds rest=g;cases hkk:h k with
   |none=>exact λhf=>hf.elim
   | some e=>
    cases e with
    |row T s n vs=>exact λhf=>hf.elim
    |obj d R=>exact λhf=>hf.elim
    | cells T' vs=>
     simp only[xz];cases hv:ay h vs with
     |none=>exact λhf=>hf.elim
     | some q=>
      obtain⟨fs,rs⟩:=q;simp only[wV];have hent:=hs.ent k _ hkk;obtain⟨b,hu,_,_⟩:=hent;have hden:den E (.own k 0)=E k:=by simp[den,hu,base,cy]
      have hobj:g.p->∀ j∈g.cs,∃ Φ,h j=some (.obj [] (iV G W bs Φ)):=λhp=>by rw[<- hg]at hp ⊢;exact p5 hp
      have hown:∀ j∈k::rs,∃ e,h j=some e/\∀ d R,e≠.obj d R:=λj hj=>by
       rcases List.mem_cons.1 hj with rfl|hj
       ·exact⟨_,hkk,λ_ _ e=>by cases e⟩
       ·obtain⟨T,s,n,us,h1⟩:=jM hv j hj;exact⟨_,h1,λ_ _ e=>by cases e⟩
      have cP:∀ c∈(k::rs).flatMap F,(∃ j∈k::rs,c∈F j)/\c<w.heap.size/\(W.heap.size<=c\/c∈bs):=λc hc=>by
       obtain⟨j,hj,hcj⟩:=List.mem_flatMap.1 hc;obtain⟨e,he,_⟩:=hown j hj;exact⟨⟨j,hj,hcj⟩,hs.lt j e he c hcj,hs.mine j e he c hcj⟩
      have hS0:∀ b,b<W.heap.size->fi G bs b->b∉(k::rs).flatMap F:=λb h1 h2 hb=>(cP b hb).2.2.elim (λg=>absurd g (Nat.not_le.2 h1)) h2.2
      have hS:∀ b,b<W.heap.size->fi G bs b->(b<W.heap.size/\fi G bs b)\/∃ j∈g.cs,b∈F j:=λb h1 h2=>.inl ⟨h1,h2⟩
      have hSf:g.p->∀ b∈(k::rs).flatMap F,¬ ((b<W.heap.size/\fi G bs b)\/∃ j∈g.cs,b∈F j):=λhp b hb hS=>by
       rcases hS with ⟨h1,h2⟩|⟨j,hj,hbj⟩
       ·exact hS0 b h1 h2 hb
       ·obtain⟨Φ,hj'⟩:=hobj hp j hj;obtain⟨i,hi,hbi⟩:=(cP b hb).1;obtain⟨e,he,hne⟩:=hown i hi;refine hs.apart i j e _ (λhij=>?_) he hj' b hbi hbj;rw[hij,hj']at he;exact hne _ _ (Option.some.inj he).symm
      have call:∀ hn:(k::rs).Nodup,T' = p.T->g.p->p.pre fs g.as_ W (fi G bs)->Calls P f (ah E (.own k 0::rest)).toArray w λe w' => zh w (λb=>(b<W.heap.size/\fi G bs b)\/∃ j∈g.cs,b∈F j) (E k) ((k::rs).flatMap F) p.T e w' (p.out fs g.as_):=λhn hT hp hpre=>by
       subst hT;have ho:=fW hs hkk hv hn;have hgs:=Bz hs hS (kds:=p.kinds) (l:=rest) (by rw[hg];exact hp) (by rw[hg];exact λj hj b hb=>.inr ⟨j,hj,hb⟩);rw[hg]at hgs;have:=p.ok w _ (E k) _ (ah E rest) fs g.as_ ho (λc hc=>(cP c hc).2.1) (hSf hp) hgs (p.premono _ _ _ _ _ _ (PX hs.keeps hS) hpre)
       simpa only[ah,hden] using this
      cases hout:p.out fs g.as_ with
      |ret v fs' =>
       simp only[mc];rintro⟨⟨hT,hp,hpre⟩,hn,hd,hlen⟩;have hc:=call hn hT hp hpre;rw[hout]at hc;subst hT;refine hc.mono λe w' he=>?_
       obtain⟨rfl,⟨fp',ho,h1,h2⟩,hkeep⟩:=he;obtain⟨E',F',hE',hs'⟩:=mA hs hK hk hkk hv oM hn ho h1 h2 hkeep;exact⟨rfl,E',F',hE',rfl,hs'⟩
      | fact sh Φ fs' =>
       simp only[mc];rintro⟨⟨hT,hp,hpre⟩,hn,hd,hlen,hup⟩;have hc:=call hn hT hp hpre;rw[hout]at hc;subst hT;refine hc.mono λe w' he=>?_
       obtain⟨cs,rfl,⟨fp',ho,h1,h2,hΦ⟩,hkeep⟩:=he;have hfn:∀ b,b∈(List.range' w.heap.size (w'.heap.size-w.heap.size)++(k::(rs++g.cs)).flatMap F).filter (·∉fp') ↔ ((w.heap.size<=b/\b<w'.heap.size)\/∃ j∈k::(rs++g.cs),b∈F j)/\b∉fp' := λb=>by
        simp only[List.mem_filter,List.mem_append,nu hkeep.size b,List.mem_flatMap,decide_eq_true_eq]
       have hown' : ∀ j∈k::(rs++g.cs),∃ e,h j=some e:=λj hj=>by
        rcases List.mem_cons.1 hj with rfl|hj
        ·exact⟨_,hkk⟩
        ·rcases List.mem_append.1 hj with hj|hj
         ·obtain⟨e,he,_⟩:=hown j (List.mem_cons_of_mem _ hj);exact⟨e,he⟩
         ·obtain⟨Φ',h'⟩:=hobj hp j hj;exact⟨_,h'⟩
       have hsub:∀ j∈k::rs,j∈k::(rs++g.cs):=λj hj=>by
        rcases List.mem_cons.1 hj with hj|hj
        ·exact List.mem_cons.2 (.inl hj)
        ·exact List.mem_cons.2 (.inr (List.mem_append_left _ hj))
       have hR:=zF (G:=G) (fp:=(List.range' w.heap.size (w'.heap.size-w.heap.size)++(k::(rs++g.cs)).flatMap F).filter (·∉fp')) (S:=λb=>((b<W.heap.size/\fi G bs b)\/∃ j∈g.cs,b∈F j)/\b∉fp') hs.keeps hkeep hΦ
        (λb hb=>hb.1.elim .inl λ⟨j,hj,hbj⟩=>.inr ((hfn b).2 ⟨.inr ⟨j,List.mem_cons.2 (.inr (List.mem_append_right _ hj)),hbj⟩,hb.2⟩)) hS0
        (λb hb hn=>by
         by_cases hbw:b<w.heap.size
         ·rcases hn.1 hbw with h3|h3
          ·exact .inl ⟨hbw,h3,hn.2⟩
          ·obtain⟨j,hj,hbj⟩:=(cP b h3).1
           exact .inr ((hfn b).2 ⟨.inr ⟨j,hsub j hj,hbj⟩,hn.2⟩)
         ·exact .inr ((hfn b).2 ⟨.inl ⟨oM,hb⟩,hn.2⟩))
        (λb hb=>by
         rcases ((hfn b).1 hb).1 with h3|⟨j,hj,hbj⟩
         ·exact hup b (.inl (Nat.le_trans hs.keeps.size h3.1))
         ·obtain⟨e,he⟩:=hown' j hj
          exact hup b (hs.mine j e he b hbj))
       obtain⟨E',F',hE',hE7,hs'⟩:=Lm (ks' := g.cs) (R:=iV G W bs Φ) (cs:=cs) hs hK hk hkk hv hlen hn (λj hj=>by obtain⟨Φ',h'⟩:=hobj hp j hj;exact⟨_,_,h'⟩) ho h1 h2
        (λb hb=>by
         obtain⟨h3,h4⟩:=(hfn b).1 hb
         refine⟨h4,?_,h3.elim (λh=>.inr h.1) .inl⟩
         rcases h3 with h3|⟨j,hj,hbj⟩
         ·exact h3.2
         ·obtain⟨e,he⟩:=hown' j hj
          exact Nat.lt_of_lt_of_le (hs.lt j e he b hbj) hkeep.size) hR hkeep
       refine⟨rfl,E',F',hE',?_,hs'⟩;rw[sh.g,hE7];rfl
      |pan c _=>
       simp only[mc];rintro⟨⟨hT,hp,hpre⟩,hn,hd⟩;have hc:=call hn hT hp hpre;rw[hout]at hc;refine hc.mono λe w' he=>?_
       obtain⟨rfl,hkeep⟩:=he;refine⟨rfl,F,?_⟩;refine hs.lI hK (k::rs) (λ_=>none) (λj hj=>?_) (λ_ _=>rfl) (λj e he=>by cases he) (λi j e e' _ he=>by cases he) (λ_ _ _ _=>rfl) (λj=>?_) hkeep
       ·obtain⟨e,he,_⟩:=hown j hj;exact⟨e,he⟩
       ·simp only[dropKeys]
  ·exact λhf=>hf.elim
 keys:=λW bs κ h K args hK hx hside=>by
  revert hside;unfold zx;split
  ·rename_i k rest;generalize hg:lh G W bs h p.kinds rest=g;cases hkk:h k with
   |none=>exact λhf=>hf.elim
   | some e=>
    cases e with
    |row T s n vs=>exact λhf=>hf.elim
    |obj d R=>exact λhf=>hf.elim
    | cells T' vs=>
     simp only[xz];cases hv:ay h vs with
     |none=>exact λhf=>hf.elim
     | some q=>
      obtain⟨fs,rs⟩:=q;simp only[wV];have hobj:g.p->∀ j∈g.cs,∃ Φ,h j=some (.obj [] (iV G W bs Φ)):=λhp=>by rw[<- hg]at hp ⊢;exact p5 hp
      have row:∀ fs' : List AV,fs'.length<=7->∀ q∈bZ (aT (8*κ) fs'),(K q.1\/q.1 / 8=κ)/\∀ e,q.2=some e->∀ j∈e.keys,K j\/j / 8=κ:=λfs' hlen q hq=>by
       obtain⟨e,h1,h2⟩:=dZ.1 hq;obtain⟨h3,h4⟩:=uc oM h2;refine⟨.inr h3,λe' he' j hj=>?_⟩;rw[h1]at he';simp only[Option.some.injEq]at he';subst he';rw[h4]at hj;cases hj
      have cel:∀ fs' : List AV,fs'.length<=7->(K k\/k / 8=κ)/\∀ e,some (aI.cells p.T (aF (8*κ) fs'))=some e->∀ j∈e.keys,K j\/j / 8=κ:=λfs' hlen=>by
       refine⟨.inl (hK k _ hkk).1,λe' he' j hj=>.inr ?_⟩;simp only[Option.some.injEq]at he';subst he';have:=cB j hj;omega
      cases hout:p.out fs g.as_ with
      | ret v fs' =>
       simp only[mc];rintro⟨_,hn,hd,hlen⟩;refine⟨λj hj=>(by cases hj),λq hq=>?_⟩;simp only[List.mem_append,List.mem_singleton]at hq;rcases hq with hq|hq|rfl
       ·simp only[db,List.mem_map]at hq;obtain⟨j,hj,rfl⟩:=hq;exact⟨.inl (qi hK hv j hj),λe he=>by cases he⟩
       ·exact row fs' hlen q hq
       ·exact cel fs' hlen
      | fact sh Φ fs' =>
       simp only[mc];rintro⟨⟨_,hp,_⟩,hn,hd,hlen,hup⟩;refine⟨λj hj=>.inr (by rw[sh.k _ j hj];omega),λq hq=>?_⟩;simp only[List.mem_append,List.mem_cons,List.not_mem_nil,or_false]at hq;rcases hq with hq|hq|rfl|rfl
       ·simp only[db,List.mem_map,List.mem_append]at hq;obtain⟨j,hj,rfl⟩:=hq;rcases hj with hj|hj
        ·exact⟨.inl (qi hK hv j hj),λe he=>by cases he⟩
        ·obtain⟨Φ',h'⟩:=hobj hp j hj;exact⟨.inl (hK j _ h').1,λe he=>by cases he⟩
       ·exact row fs' hlen q hq
       ·exact cel fs' hlen
       ·refine⟨.inr (by simp only;omega),λe he k hk=>?_⟩;simp only[Option.some.injEq]at he;subst he;cases hk
      |pan c _=>
       simp only[mc];rintro _;exact⟨λj hj=>(by cases hj),λq hq=>by cases hq⟩
  ·exact λhf=>hf.elim
 loc:=λW bs κ h h' args hside hr=>by
  revert hside hr;unfold zx;split
  ·rename_i k rest;generalize hg:lh G W bs h p.kinds rest=g;cases hkk:h k with
   |none=>exact λhf=>hf.elim
   | some e=>
    cases e with
    |row T s n vs=>exact λhf=>hf.elim
    |obj d R=>exact λhf=>hf.elim
    | cells T' vs=>
     simp only[xz];cases hv:ay h vs with
     |none=>exact λhf=>hf.elim
     | some q=>
      obtain⟨fs,rs⟩:=q;simp only[wV];intro hside hr;have hp:g.p:=by
       revert hside;cases p.out fs g.as_<;>exact λh=>h.1.2.1
      have hr' : ∀ j∈k::(rs++g.rs),h' j=h j:=by
       revert hr;cases p.out fs g.as_<;>exact λh=>h
      have e1:h' k=some (.cells T' vs):=by rw[hr' k sI,hkk]
      have e2:lh G W bs h' p.kinds rest=g:=by
       rw[<- hg];exact Av (by rw[hg];exact hp) (by rw[hg];exact λj hj=>hr' j (by simp[hj]))
      have e3:ay h' vs=some (fs,rs):=cm hv λj hj=>hr' j (by simp[hj])
      rw[e1,e2];simp only[xz,e3,wV]
  ·exact λhf=>hf.elim
theorem jP{P:Program}{f:FuncId}(p:zl P f)(G:Nat->Prop)(W:World)(bs:List Nat)(κ:Nat)(h:Hp)(l:List SV):(p.spec G).ev W bs κ h l=zx G h κ p.T W bs p.kinds p.pre p.out l:=rfl
def cl(w:World)(S:Nat->Prop):Nat->Prop:=λb=>b<w.heap.size->S b
def aG(w:World)(S:Nat->Prop)(fp:List Nat):Nat->Prop:=λb=>b<w.heap.size->S b\/b∈fp
theorem cl.up(w:World)(S:Nat->Prop):Up (cl w S) w []:=λb hb hlt=>by
 rcases hb with hb|hb
 ·omega
 ·cases hb
theorem aG.up(w:World)(S:Nat->Prop)(fp:List Nat):Up (aG w S fp) w fp:=λb hb hlt=>by
 rcases hb with hb|hb
 ·omega
 ·exact .inr hb
theorem cl.fe(w:World)(S:Nat->Prop):bV w S w (fi (cl w S) []):=λb hb hS=>⟨rfl,λ_=>hS,sI⟩
theorem aG.fe(w:World)(S:Nat->Prop)(fp:List Nat)(h:∀ b∈fp,¬ S b):bV w S w (fi (aG w S fp) fp):=λb hb hS=>⟨rfl,λ_=>.inl hS,λhf=>h b hf hS⟩
def PO(w:World)(S:Nat->Prop)(W' : World)(bs' : List Nat)(x:SV):FOut->Prop
 |.val v=>∀ E,den E x=v
 |.fact sh Φ=>∃ cs,(∀ E,den E x=sh.val cs)/\Φ.Φ cs W' (fi (cl w S) bs')
 |.pan _ _=>False
theorem eI{P:Program}{f:FuncId}{fn:Func}{c:Code}{args:Array Value}{w:World}{nt:Nat}{out:FOut}(S:Nat->Prop)(rs:List ResultVar)
  (hf:P.funcs[f]?=some fn) (hb:fn.body=some c) (hrs:fn.results.toList=rs) (hnt:args.size+(fn.ntmps-args.size)=nt)
  (h:Wp P w [] nt ⟨[],[]⟩ c (Fin P rs (λW' bs' x _=>PO w S W' bs' x out) (λc _=>∃ v,out=.pan c v)) (σ0 args.toList)) :
  Calls P f args w λe w' => lT w S e w' out:=by
 subst hrs;refine (mn hf hb (rC args hnt) h).mono λe w' he=>?_
 cases e with
 | returned u=>
  obtain⟨W',bs',E,F,x,h,hx,hok,rfl,hs,_⟩:=he;cases out with
  |val v=>exact⟨by rw[hok E],hx.dC hs.keeps⟩
  |fact sh Φ=>
   obtain⟨cs,hd,hΦ⟩:=hok;exact⟨cs,by rw[hd E],Φ.mono (λb hb hr=>⟨hs.keeps.block b hb hr.2,hr.1⟩) hΦ,hx.dC hs.keeps⟩
  |pan c v=>exact hok.elim
 |panicked c=>
  obtain⟨W',bs',E,F,h',hx,⟨v,rfl⟩,hs,_⟩:=he;exact⟨rfl,hx.dC hs.keeps⟩
 |outgrown=>exact he.elim
def Sw(w:World)(S:Nat->Prop)(fp:List Nat)(T:TypeId)(W' : World)(bs' : List Nat)(x:SV)(h:Hp):GOut->Prop
 |.ret v fs' => (∀ E,den E x=v)/\∃ vs ks,h 0=some (.cells T vs)/\ay h vs=some (fs',ks)/\(0::ks).Nodup
 |.fact sh Φ fs' => (∃ cs,(∀ E,den E x=sh.val cs)/\Φ.Φ cs W' (fi (aG w S fp) bs'))/\∃ vs ks,h 0=some (.cells T vs)/\ay h vs=some (fs',ks)/\(0::ks).Nodup
 |.pan _ _=>False
theorem gP{P:Program}{f:FuncId}{fn:Func}{c:Code}{w:World}{nt:Nat}{T:TypeId}{u:Value}{fp:List Nat}{fs:List AV}{out:GOut}(S:Nat->Prop)(us:Array Value)(rs:List ResultVar)
  (hlen:fs.length<=7) (ho:bJ w u fp T fs) (hlt:∀ b∈fp,b<w.heap.size)
  (hf:P.funcs[f]?=some fn) (hb:fn.body=some c) (hrs:fn.results.toList=rs) (hnt:us.size+1+(fn.ntmps-(us.size+1))=nt)
  (h:Wp P w fp nt ⟨[],[(0,u)]⟩ c (Fin P rs (λW' bs' x h=>Sw w S fp T W' bs' x h out) (λc _=>∃ v,out=.pan c v)) (σB T fs us.toList)) :
  Calls P f (#[u]++us) w λe w' => zh w S u fp T e w' out:=by
 subst hrs;have hsat:=vG (nt:=nt) (m:=fn.ntmps-(us.size+1)) us hlen ho hlt hnt;have hsz:(#[u]++us).size=us.size+1:=by simp;omega
 refine (mn hf hb (by rw[hsz];exact hsat) h).mono λe w' he=>?_
 cases e with
 | returned v' =>
  obtain⟨W',bs',E,F,x,h',hx,hok,rfl,hs,hp⟩:=he;have hs' := hs.back hx;have hE:E 0=u:=hp (0,u) sI
  have back:∀ {vs ks fs'},h' 0=some (.cells T vs)->ay h' vs=some (fs',ks)->(0::ks).Nodup->bJ w' u ((0::ks).flatMap F) T fs' /\ (∀ b∈(0::ks).flatMap F,b∈fp\/w.heap.size<=b)/\(∀ b∈(0::ks).flatMap F,b<w'.heap.size)/\∀ b∈(0::ks).flatMap F,W'.heap.size<=b\/b∈bs' := λ{vs ks fs'} h0 hv hn=>by
   have ho' := fW hs' h0 hv hn;rw[hE]at ho';have own:∀ b∈(0::ks).flatMap F,∃ j e,h' j=some e/\b∈F j:=λb hb=>by
    obtain⟨j,hj,hbj⟩:=List.mem_flatMap.1 hb;rcases List.mem_cons.1 hj with rfl|hj
    ·exact⟨_,_,h0,hbj⟩
    ·obtain⟨e,he⟩:=(b7 hs' hv).2 j hj;exact⟨_,e,he,hbj⟩
   refine⟨ho',λb hb=>?_,λb hb=>?_,λb hb=>?_⟩
   ·obtain⟨j,e,he,hbj⟩:=own b hb;exact (hs'.mine j e he b hbj).symm
   ·obtain⟨j,e,he,hbj⟩:=own b hb;exact hs'.lt j e he b hbj
   ·obtain⟨j,e,he,hbj⟩:=own b hb;exact hs.mine j e he b hbj
  cases out with
  |ret v fs' =>
   obtain⟨hd,vs,ks,h0,hv,hn⟩:=hok;obtain⟨g1,g2,g3,_⟩:=back h0 hv hn;exact⟨by rw[hd E],⟨_,g1,g2,g3⟩,hs'.keeps⟩
  |fact sh Φ fs' =>
   obtain⟨⟨cs,hd,hΦ⟩,vs,ks,h0,hv,hn⟩:=hok;obtain⟨g1,g2,g3,g4⟩:=back h0 hv hn;exact⟨cs,by rw[hd E],⟨_,g1,g2,g3,Φ.mono (λb hb hr=>⟨hs.keeps.block b hb hr.2,hr.1,λhf=>(g4 b hf).elim (λg=>absurd g (Nat.not_le.2 hb)) hr.2⟩) hΦ⟩,hs'.keeps⟩
  |pan c v=>exact hok.elim
 |panicked c=>
  obtain⟨W',bs',E,F,h',hx,⟨_,rfl⟩,hs,hp⟩:=he;exact⟨rfl,(hs.back hx).keeps⟩
 |outgrown=>exact he.elim
section
variable (G:Nat->Prop)(W:World)(bs:List Nat)(h:Hp)(κ k:Nat)(T T' : TypeId)
theorem Pu(x:Value):cg (.v x)=some x:=rfl
theorem Gm(k o:Nat):cg (.own k o)=none:=rfl
theorem Ny(k:Nat):cg (.hd k)=none:=rfl
theorem DF(k i:Nat):cg (.part k i)=none:=rfl
theorem HE(l:List SV):cg (.agg l)=(fj l).map λvs=>.agg vs.toArray:=rfl
theorem H6(t:TypeId)(x:SV):cg (.ifc t x)=(cg x).map (.iface t):=rfl
theorem L1(f:Fn)(a c:List SV):cg (.fn f a c)=func2 f (fj a) (fj c):=rfl
theorem GM:fj []=some []:=rfl
theorem D4(x:SV)(r:List SV):fj (x::r)=sM (cg x) (fj r):=rfl
theorem GK(v:Value)(vs:List Value):sM (some v) (some vs)=some (v::vs):=rfl
theorem GA(o:Option (List Value)):sM none o=none:=rfl
theorem CM(v:Value):sM (some v) none=none:=rfl
theorem H8(f:Fn)(a c:List Value):func2 f (some a) (some c)=some (.func f a.toArray c.toArray):=rfl
theorem yy(k i:Nat):jy (.part k i)=some k:=rfl
theorem Bk(k i:Nat)(r:List SV):jy (.agg (.part k i::r))=some k:=rfl
theorem Vn:lh G W bs h [] []=⟨True,[],[],[]⟩:=rfl
theorem QN(kd:Kd)(ks:List Kd)(x:SV)(r:List SV):lh G W bs h (kd::ks) (x::r)=gvC (yd G W bs h kd x) (lh G W bs h ks r):=rfl
theorem Tc(x:SV):yd G W bs h none x=ace (bS h x):=rfl
theorem RY(sh:Sh)(Φ:FK)(x:SV):yd G W bs h (some (sh,Φ)) x=gvF G W bs h sh Φ x (cg x) (jy x):=rfl
theorem L0(a:AV)(r:List Nat):ace (some (a,r))=⟨True,a,r,[]⟩:=rfl
theorem ad0(sh:Sh)(Φ:FK)(x:SV)(v:Value)(o:Option Nat):gvF G W bs h sh Φ x (some v) o=⟨∃ cs,v=sh.val cs/\Φ.Φ cs W (fi G bs),.val undef,[],[]⟩:=rfl
theorem adO(sh:Sh)(Φ:FK)(x:SV)(k:Nat):gvF G W bs h sh Φ x none (some k)=gvO G W bs sh Φ x k (h k):=rfl
theorem We(sh:Sh)(Φ:FK)(x:SV)(k:Nat)(d:List Value)(R:List Value->Value->List Nat->World->Prop):gvO G W bs sh Φ x k (some (.obj d R))=⟨x=sh.tm k/\d=[]/\R=iV G W bs Φ,.val undef,[k],[k]⟩:=rfl
theorem abk(p q:Prop)(a:AV)(as_:List AV)(r rs c cs:List Nat):gvC ⟨p,a,r,c⟩ ⟨q,as_,rs,cs⟩=⟨p/\q,a::as_,r++rs,c++cs⟩:=rfl
theorem Ox(pre:List AV->World->(Nat->Prop)->Prop)(out:List AV->FOut)(p:Prop)(as_:List AV)(rs cs:List Nat):vo G κ W bs pre out ⟨p,as_,rs,cs⟩=qc G κ W bs (p/\pre as_ W (fi G bs)) rs cs (out as_):=rfl
theorem NB(q:Prop)(rs cs:List Nat)(v:Value):qc G κ W bs q rs cs (.val v)=⟨q,.v v,[],none,[],rs⟩:=rfl
theorem Fx(q:Prop)(rs cs:List Nat)(sh:Sh)(Φ:FK):qc G κ W bs q rs cs (.fact sh Φ)=⟨q/\Up G W bs,sh.tm (8*κ),db cs++[(8*κ,some (.obj [] (iV G W bs Φ)))],none,[],rs⟩:=rfl
theorem NJ(q:Prop)(rs cs:List Nat)(c:List PanicEntry)(v:Value):qc G κ W bs q rs cs (.pan c v)=⟨q,.v v,[],some c,[],rs⟩:=rfl
theorem Lt(kinds:List Kd)(pre:List AV->List AV->World->(Nat->Prop)->Prop)(out:List AV->List AV->GOut)(rest:List SV):zx G h κ T W bs kinds pre out (.own k 0::rest)=xz G h κ k T W bs pre out (lh G W bs h kinds rest) (h k):=rfl
theorem E7(pre:List AV->List AV->World->(Nat->Prop)->Prop)(out:List AV->List AV->GOut)(g:GVL)(vs:List SV):xz G h κ k T W bs pre out g (some (.cells T' vs))=wV G κ k T T' W bs pre out g (ay h vs):=rfl
theorem Of(pre:List AV->List AV->World->(Nat->Prop)->Prop)(out:List AV->List AV->GOut)(p:Prop)(as_ fs:List AV)(rs cs rs0:List Nat):wV G κ k T T' W bs pre out ⟨p,as_,rs,cs⟩ (some (fs,rs0))=mc G κ k T W bs (T' = T/\p/\pre fs as_ W (fi G bs)) rs0 rs cs (out fs as_):=rfl
theorem Mw(q:Prop)(rs rs' cs:List Nat)(v:Value)(fs:List AV):mc G κ k T W bs q rs rs' cs (.ret v fs)=⟨q/\(k::rs).Nodup/\(∀ j∈rs',j∉k::rs)/\fs.length<=7,.v v,db rs++(bZ (aT (8*κ) fs)++[(k,some (.cells T (aF (8*κ) fs)))]),none,[],k::(rs++rs')⟩:=rfl
theorem Ii(q:Prop)(rs rs' cs:List Nat)(sh:Sh)(Φ:FK)(fs:List AV):mc G κ k T W bs q rs rs' cs (.fact sh Φ fs)=⟨q/\(k::rs).Nodup/\(∀ j∈rs',j∉k::rs)/\fs.length<=7/\Up G W bs,sh.tm (8*κ+7),db (rs++cs)++(bZ (aT (8*κ) fs)++[(k,some (.cells T (aF (8*κ) fs))),(8*κ+7,some (.obj [] (iV G W bs Φ)))]),none,[],k::(rs++rs')⟩:=rfl
theorem NG(q:Prop)(rs rs' cs:List Nat)(c:List PanicEntry)(v:Value):mc G κ k T W bs q rs rs' cs (.pan c v)=⟨q/\(k::rs).Nodup/\(∀ j∈rs',j∉k::rs),.v v,[],some c,k::rs,k::(rs++rs')⟩:=rfl
theorem abj(k:Nat):Sh.one.tm k=.part k 0:=rfl
theorem abY(k:Nat):Sh.two.tm k=.agg [.part k 0,.part k 1]:=rfl
end
def aeH:=aa @Pu <| aa @Gm <| aa @Ny <| aa @DF <| aa @HE <| aa @H6 <| aa @L1 <| aa @GM <| aa @D4 <| aa @GK <| aa @GA <| aa @CM <| aa @H8 <| aa @yy <| aa @Bk <| aa @Vn <| aa @QN <| aa @Tc <| aa @RY <| aa @L0 <| aa @ad0 <| aa @adO <| aa @We <| aa @abk <| aa @Ox <| aa @NB <| aa @Fx <| aa @NJ <| aa @Lt <| aa @E7 <| aa @Of <| aa @Mw <| aa @Ii <| aa @NG <| aa @abj <| aa @abY <| aa @eA @jP
theorem Ks{P:Program}{W:World}{bs:List Nat}{nt:Nat}{ds:Aux}{Q:jZ}{σ:St}{x y:Code}{ι:Type}(I:ι->St)(V:ι->World)(B:ι->List Nat)(ok:ι->Prop)
  (h1:Wp P W bs nt ds x (Th (λW' bs' σ1=>∃ p,ok p/\V p=W' /\ B p=bs' /\ Le W' bs' nt ds σ1 (I p)) Q) σ)
  (h2:∀ p,ok p->Ext W bs (V p) (B p)->Wp P (V p) (B p) nt ds y Q (I p)):Wp P W bs nt ds (.seq x y) Q σ:=λa w hs=>
 wp_seq (wp_mono (h1 a w hs) λe a' w' ⟨W',bs',σ1,he,hq,hs'⟩=>by
  cases e with
  |normal=>
   obtain⟨p,hp,rfl,rfl,hle⟩:=hq
   exact wp_mono (h2 p hp he a' w' (hle a' w' hs')) λe' a'' w'' hh=>nI he hh
  |_=>exact⟨W',bs',σ1,he,hq,hs'⟩)
structure zg (P:Program)(f:FuncId) where
 T:TypeId
 pre:World->List Nat->List AV->List AV->Prop
 res:World->List AV->List AV->Value
 enters:∀ args w,(callFunc f args).run P w=.ok (.enter f args) w
 ok:∀ (W w:World) (bs:List Nat) (u:Value) (fp:List Nat) (us:List Value) (fs as_:List AV),af W bs w->bJ w u fp T fs->eJ w us as_->pre W bs fs as_ ->
  Calls P f (u::us).toArray w λe w' => e=.returned (res W fs as_)/\af w [] w'
def wh(k:Nat)(T T' : TypeId)(pre:List AV->List AV->Prop)(res:List AV->List AV->Value)(as_:List AV)(rs' : List Nat):Option (List AV×List Nat)->R
 |some (fs,rs)=>⟨(T' = T/\(k::rs).Nodup)/\pre fs as_,.v (res fs as_),[],none,[],k::(rs++rs')⟩
 |none=>.bad
def u4(h:Hp)(k:Nat)(T:TypeId)(pre:List AV->List AV->Prop)(res:List AV->List AV->Value):Option aI->Option (List AV×List Nat)->R
 |some (.cells T' vs),some (as_,rs')=>wh k T T' pre res as_ rs' (ay h vs)
 |_,_=>.bad
def z7(h:Hp)(T:TypeId)(pre:List AV->List AV->Prop)(res:List AV->List AV->Value):List SV->R
 |.own k 0::rest=>u4 h k T pre res (h k) (ay h rest)
 |_=>.bad
def zg.spec{P:Program}{f:FuncId}(p:zg P f):Spec P f where
 ev:=λW bs κ h args=>z7 h p.T (p.pre W bs) (p.res W) args
 good:=λW bs κ E F h w K args hs hK hk hx hside=>by
  rw[p.enters];revert hside;unfold z7;split
  ·rename_i k rest;cases hkk:h k with
   |none=>exact λhf=>hf.elim
   | some e=>
    cases e with
    |row T s n vs=>exact λhf=>hf.elim
    |obj d R=>exact λhf=>hf.elim
    | cells T' vs=>
     cases hr:ay h rest with
     |none=>exact λhf=>hf.elim
     | some q=>
      obtain⟨as_,rs'⟩:=q;simp only[u4];cases hv:ay h vs with
      |none=>exact λhf=>hf.elim
      |some q=>
       obtain⟨fs,rs⟩:=q;simp only[wh];rintro⟨⟨rfl,hn⟩,hp⟩;have hent:=hs.ent k _ hkk;obtain⟨b,hu,_,_⟩:=hent;have hden:den E (.own k 0)=E k:=by simp[den,hu,base,cy]
       have ho:=fW hs hkk hv hn;have:=p.ok W w bs (E k) _ (ah E rest) fs as_ hs.keeps ho (di hs hr) hp;have e:ah E (.own k 0::rest)=E k::ah E rest:=by simp only[ah,hden]
       rw[e];exact q8 hs this rfl rfl rfl
  ·exact λhf=>hf.elim
 keys:=λW bs κ h K args hK hx hside=>by
  revert hside;unfold z7;split
  ·rename_i k rest;cases hkk:h k with
   |none=>exact λhf=>hf.elim
   | some e=>
    cases e with
    |row T s n vs=>exact λhf=>hf.elim
    |obj d R=>exact λhf=>hf.elim
    | cells T' vs=>
     cases hr:ay h rest with
     |none=>exact λhf=>hf.elim
     | some q=>
      obtain⟨as_,rs'⟩:=q;simp only[u4];cases hv:ay h vs with
      |none=>exact λhf=>hf.elim
      |some q=>
       obtain⟨fs,rs⟩:=q;simp only[wh];exact λ_=>aC.plain (λk hk=>by cases hk) rfl
  ·exact λhf=>hf.elim
 loc:=λW bs κ h h' args hside hr=>by
  revert hside hr;unfold z7;split
  ·rename_i k rest;cases hkk:h k with
   |none=>exact λhf=>hf.elim
   | some e=>
    cases e with
    |row T s n vs=>exact λhf=>hf.elim
    |obj d R=>exact λhf=>hf.elim
    | cells T' vs=>
     cases hrr:ay h rest with
     |none=>exact λhf=>hf.elim
     | some q=>
      obtain⟨as_,rs'⟩:=q;simp only[u4];cases hv:ay h vs with
      |none=>exact λhf=>hf.elim
      |some q=>
       obtain⟨fs,rs⟩:=q;simp only[wh];intro _ hr;have e1:h' k=some (.cells T' vs):=by rw[hr k sI,hkk]
       have e2:ay h' rest=some (as_,rs'):=cm hrr λj hj=>hr j (by simp[hj])
       have e3:ay h' vs=some (fs,rs):=cm hv λj hj=>hr j (by simp[hj])
       rw[e1,e2];simp only[u4,e3,wh]
  ·exact λhf=>hf.elim
section
variable (h:Hp)(k:Nat)(T T' : TypeId)(pre:List AV->List AV->Prop)(res:List AV->List AV->Value)
theorem Q0{P:Program}{f:FuncId}(p:zg P f)(W:World)(bs:List Nat)(κ:Nat)(h:Hp)(l:List SV):p.spec.ev W bs κ h l=z7 h p.T (p.pre W bs) (p.res W) l:=rfl
theorem K7(rest:List SV):z7 h T pre res (.own k 0::rest)=u4 h k T pre res (h k) (ay h rest):=rfl
theorem E5(vs:List SV)(as_:List AV)(rs' : List Nat):u4 h k T pre res (some (.cells T' vs)) (some (as_,rs'))=wh k T T' pre res as_ rs' (ay h vs):=rfl
theorem Hr(as_ fs:List AV)(rs' rs:List Nat):wh k T T' pre res as_ rs' (some (fs,rs))=⟨(T' = T/\(k::rs).Nodup)/\pre fs as_,.v (res fs as_),[],none,[],k::(rs++rs')⟩:=rfl
end
section
variable {P:Program}(κ:Nat)(h:Hp)(T:TypeId)
theorem A4(k:Nat)(ik:IntKind)(b:Int):dW P κ h T false true false [.hd k,.v (.int ik b)]=zA P κ k b (P.underlying T) (h k):=rfl
theorem HX(k:Nat)(b:Int)(e e' : TypeId)(s n:Nat)(vs:List SV):zA P κ k b (some (.slice e)) (some (.row e' s n vs))=rX κ k b e' s n vs (ts P e):=rfl
theorem Ew(k:Nat)(b:Int)(e s n s' : Nat)(vs:List SV):rX κ k b e s n vs (some s')=⟨s' = s/\0<=b/\b.toNat<=n,.hd (8*κ),[(k,none),(8*κ,some (.row e s b.toNat (vs.take (b.toNat*s))))],none,[],[k]⟩:=rfl
end
def ae1:=aa @A4 <| aa @HX @Ew
def aeQ:=aa @Q0 <| aa @K7 <| aa @E5 @Hr
theorem yH{w:World}{u:Value}{fp:List Nat}{T:TypeId}{fs:List AV}(h:bJ w u fp T fs):∃ b us,u=.pointer (some ⟨b,0,none⟩)/\eJ w us fs/\∀ j (hj:j<us.length),w.cell? ⟨b,j,none⟩=some us[j]:=by
 obtain⟨b,us,h1,h2,h3,_⟩:=h;exact⟨b,us,h1,h3,λj hj=>cell_of h2 j hj⟩
def uq(w:World)(u:Value)(fp:List Nat)(T:TypeId)(fs:List AV)(xs:List Value):Prop:=
 ∃ b us,u=.pointer (some ⟨b,0,none⟩)/\w.heap[b]?=some (.cells (us++xs).toArray T (0,0))/\eJ w us fs/\fp=b::yc us fs/\(b::yc us fs).Nodup
def Zk(w:World)(u:Value)(fp:List Nat)(T:TypeId)(xs:List Value)(e:Ending)(w' : World):BOut->Prop
 |.ret v fs=>e=.returned v/\(∃ fp',uq w' u fp' T fs xs/\(∀ b∈fp',b∈fp\/w.heap.size<=b)/\∀ b∈fp',b<w'.heap.size)/\af w fp w'
 |.pan c _=>e=.panicked c/\af w fp w'
structure RQ (P:Program)(f:FuncId) where
 T:TypeId
 m:Nat
 pre:World->List Nat->List AV->List AV->Prop
 out:World->List AV->List AV->BOut
 enters:∀ args w,(callFunc f args).run P w=.ok (.enter f args) w
 ok:∀ (W w:World) (bs:List Nat) (u:Value) (fp:List Nat) (us:List Value) (fs as_:List AV) (xs:List Value),af W bs w->uq w u fp T fs xs->(∀ b∈fp,b<w.heap.size)->(∀ b∈fp,W.heap.size<=b\/b∈bs)->eJ w us as_->pre W bs fs as_ ->
  Calls P f (u::us).toArray w λe w' => Zk w u fp T xs e w' (out W fs as_)
def uB(κ k:Nat)(T:TypeId)(ys:List SV)(pre:Prop)(rs rs' : List Nat):BOut->R
 |.ret v fs=>⟨pre/\(k::rs).Nodup/\(∀ j∈rs',j∉k::rs)/\fs.length<=8,.v v,db rs++(bZ (aT (8*κ) fs)++[(k,some (.cells T (aF (8*κ) fs++ys)))]),none,[],k::(rs++rs')⟩
 |.pan c v=>⟨pre/\(k::rs).Nodup/\(∀ j∈rs',j∉k::rs),.v v,[],some c,k::rs,k::(rs++rs')⟩
def xL(κ k:Nat)(T T' : TypeId)(ys:List SV)(pre:List AV->List AV->Prop)(out:List AV->List AV->BOut)(as_:List AV)(rs' : List Nat):Option (List AV×List Nat)->R
 |some (fs,rs)=>uB κ k T ys (T' = T/\pre fs as_) rs rs' (out fs as_)
 |none=>.bad
def xi(h:Hp)(κ k:Nat)(T:TypeId)(m:Nat)(pre:List AV->List AV->Prop)(out:List AV->List AV->BOut):Option aI->Option (List AV×List Nat)->R
 |some (.cells T' vs),some (as_,rs')=>xL κ k T T' (vs.drop m) pre out as_ rs' (ay h (vs.take m))
 |_,_=>.bad
def zO(h:Hp)(κ:Nat)(T:TypeId)(m:Nat)(pre:List AV->List AV->Prop)(out:List AV->List AV->BOut):List SV->R
 |.own k 0::rest=>xi h κ k T m pre out (h k) (ay h rest)
 |_=>.bad
section
variable {P:Program}{W:World}{bs:List Nat}{κ:Nat}{E:Nat->Value}{F:Nat->List Nat}{h:Nat->Option aI}{w:World}{K:Nat->Prop}
theorem Ch(hs:ab W bs E F h w){k:Nat}{T:TypeId}{vs ys:List SV}{fs:List AV}{rs:List Nat}(hk:h k=some (.cells T (vs++ys)))(hv:ay h vs=some (fs,rs))(hn:(k::rs).Nodup) :
  uq w (E k) ((k::rs).flatMap F) T fs (ah E ys):=by
 obtain⟨b,h1,h2,h3⟩:=hs.ent k _ hk;obtain⟨g1,g2⟩:=b7 hs hv;have hnd:=oS hs (ks:=k::rs) hn λj hj=>by
  rcases List.mem_cons.1 hj with rfl|hj
  ·exact⟨_,hk,λ_ _ e=>by cases e⟩
  ·obtain⟨T',s,n,us,h4⟩:=jM hv j hj;exact⟨_,h4,λ_ _ e=>by cases e⟩
 have hfp:(k::rs).flatMap F=b::yc (ah E vs) fs:=by
  rw[List.flatMap_cons,h2,g1];rfl
 refine⟨b,ah E vs,h1,by rw[h3,dz],di hs hv,hfp,by rw[<- hfp];exact hnd⟩
theorem LY{w' : World}{k:Nat}{T:TypeId}{vs ys:List SV}{fs fs' : List AV}{rs fp' : List Nat}(hs:ab W bs E F h w)(hK:bp K h)(hk:∀ k,k / 8=κ->¬ K k)
  (hkk:h k=some (.cells T (vs++ys))) (hv:ay h vs=some (fs,rs)) (hlen:fs'.length<=8) (hn:(k::rs).Nodup)
  (ho:uq w' (E k) fp' T fs' (ah E ys)) (h1:∀ b∈fp',b∈(k::rs).flatMap F\/w.heap.size<=b) (h2:∀ b∈fp',b<w'.heap.size) (hkeep:af w ((k::rs).flatMap F) w') :
  ∃ E' F',(∀ j,j / 8≠κ->E' j=E j)/\ab W bs E' F' (aO h (db rs++(bZ (aT (8*κ) fs')++[(k,some (.cells T (aF (8*κ) fs' ++ ys)))]))) w' := by
 obtain⟨b,us,hu,hb,hus,rfl,hnd⟩:=ho;have hl:=jx hus;have hKk:K k:=(hK k _ hkk).1;have hfr:∀ j,8*κ<=j->j<8*κ+8->¬ K j:=λj g1 g2=>hk j oM
 have hkf:k<8*κ\/8*κ+8<=k:=by
  by_cases g1:k<8*κ
  ·exact .inl g1
  ·by_cases g2:8*κ+8<=k
   ·exact .inr g2
   ·exact absurd hKk (hfr k oM oM)
 have hE:∀ j,j / 8≠κ->iD (8*κ) us E j=E j:=λj hj=>kz oM
 have hsome:∀ p∈bZ (aT (8*κ) fs')++[(k,some (.cells T (aF (8*κ) fs' ++ ys)))],∃ e,p.2=some e:=λp hp=>by
  rcases List.mem_append.1 hp with hp|hp
  ·obtain⟨e,he,_⟩:=dZ.1 hp;exact⟨e,by rw[he]⟩
  ·simp at hp;exact⟨_,by rw[hp]⟩
 have hNm:∀ j e,aO (λ_=>none) (bZ (aT (8*κ) fs')++[(k,some (.cells T (aF (8*κ) fs' ++ ys)))]) j=some e->(j=k/\e=.cells T (aF (8*κ) fs' ++ ys))\/(j≠k/\(j,e)∈aT (8*κ) fs'):=λj e he=>by
  rw[bM]at he;simp only[aO]at he;by_cases hj:j=k
  ·subst hj;rw[ai]at he;cases he;exact .inl ⟨rfl,rfl⟩
  ·rw[aj _ _ hj]at he;rcases iw (λ_=>(none:Option aI)) (k:=j) (u:=bZ (aT (8*κ) fs')) with ⟨x,hx,hx'⟩|⟨_,hx'⟩
   ·rw[hx']at he;subst he;obtain⟨e',h3,h4⟩:=dZ.1 hx;simp only[Prod.mk.injEq,true_and,Option.some.injEq]at h3;subst h3;exact .inr ⟨hj,h4⟩
   ·rw[hx']at he;cases he
 have hNk:aO (λ_=>none) (bZ (aT (8*κ) fs')++[(k,some (.cells T (aF (8*κ) fs' ++ ys)))]) k=some (.cells T (aF (8*κ) fs' ++ ys)):=by
  rw[bM];simp[aO,ai]
 have hb' : b∉yc us fs' := (List.nodup_cons.1 hnd).1;have hnd' : (yc us fs').Nodup:=(List.nodup_cons.1 hnd).2;refine⟨iD (8*κ) us E,a7 (gI (8*κ) us fs' F) k [b],hE,?_⟩
 refine hs.lI hK (k::rs) (aO (λ_=>none) (bZ (aT (8*κ) fs')++[(k,some (.cells T (aF (8*κ) fs' ++ ys)))])) (λj hj=>?_) (λj hj=>hE j λe=>hk j e hj) (λj e he=>?_) (λi j e e' hij hi hj c hc=>?_) (λj x hx hj=>?_) (λj=>?_) hkeep
 ·rcases List.mem_cons.1 hj with rfl|hj
  ·exact⟨_,hkk⟩
  ·exact (b7 hs hv).2 j hj
 ·rcases hNm j e he with ⟨rfl,rfl⟩|⟨hjk,hm⟩
  ·rw[ai,hE j λe=>hk j e hKk];refine⟨⟨b,hu,rfl,by rw[dz,hH hus,br (E' := E) ys λi hi=>hE i λe=>hk i e ((hK _ _ hkk).2 i (by simp only[aI.keys,aJ];exact List.mem_append_right _ hi))];exact hb⟩,λc hc=>?_,λc hc=>h2 c (by simp at hc;simp[hc])⟩;simp only[List.mem_singleton]at hc;subst hc
   rcases h1 c sI with g|g
   ·obtain⟨i,hi,hci⟩:=List.mem_flatMap.1 g;exact .inl ⟨i,hi,hci⟩
   ·exact .inr g
  ·rw[aj _ _ hjk];obtain⟨g1,g2⟩:=ji (E:=E) (F:=F) hus hm (iD (8*κ) us E);refine⟨g1,λc hc=>?_,λc hc=>h2 c (List.mem_cons_of_mem _ (g2 c hc))⟩;rcases h1 c (List.mem_cons_of_mem _ (g2 c hc)) with g|g
   ·obtain⟨i,hi,hci⟩:=List.mem_flatMap.1 g;exact .inl ⟨i,hi,hci⟩
   ·exact .inr g
 ·rcases hNm i e hi with ⟨rfl,rfl⟩|⟨hik,hmi⟩
  ·rcases hNm j e' hj with ⟨rfl,rfl⟩|⟨hjk,hmj⟩
   ·exact absurd rfl hij
   ·rw[ai]at hc;rw[aj _ _ hjk];simp only[List.mem_singleton]at hc;subst hc;exact λhc' => hb' (cR hl hmj c hc')
  ·rw[aj _ _ hik]at hc;rcases hNm j e' hj with ⟨rfl,rfl⟩|⟨hjk,hmj⟩
   ·rw[ai];intro hc';simp only[List.mem_singleton]at hc';subst hc';exact hb' (cR hl hmi c hc)
   ·rw[aj _ _ hjk];exact iy hnd' hmi hmj hl hij c hc
 ·have hjk:j≠k:=λe=>by rw[e,hNk]at hj;cases hj
  rw[aj _ _ hjk];have hKj:=(hK j x hx).1;by_cases g1:j<8*κ
  ·exact ic (.inl g1)
  ·by_cases g2:8*κ+8<=j
   ·exact ic (.inr oM)
   ·exact absurd hKj (hfr j oM oM)
 ·rw[bM,gM _ _ _ hsome,jg];cases hN:aO (λ_=>none) (bZ (aT (8*κ) fs')++[(k,some (.cells T (aF (8*κ) fs' ++ ys)))]) j with
  |some e=>rfl
  |none=>
   have hjk:j≠k:=λe=>by rw[e,hNk]at hN;cases hN
   simp[hjk]
end
def RQ.spec{P:Program}{f:FuncId}(p:RQ P f):Spec P f where
 ev:=λW bs κ h args=>zO h κ p.T p.m (p.pre W bs) (p.out W) args
 good:=λW bs κ E F h w K args hs hK hk hx hside=>by
  rw[p.enters];revert hside;unfold zO;split
  ·rename_i k rest;cases hkk:h k with
   |none=>exact λhf=>hf.elim
   | some e=>
    cases e with
    |row T s n vs=>exact λhf=>hf.elim
    |obj d R=>exact λhf=>hf.elim
    | cells T' vs=>
     cases hr:ay h rest with
     |none=>exact λhf=>hf.elim
     | some q=>
      obtain⟨as_,rs'⟩:=q;simp only[xi];have hsplit:vs=vs.take p.m++vs.drop p.m:=(List.take_append_drop _ _).symm;cases hv:ay h (vs.take p.m) with
      |none=>exact λhf=>hf.elim
      | some q=>
       obtain⟨fs,rs⟩:=q;simp only[xL];have hent:=hs.ent k _ hkk;obtain⟨b,hu,_,_⟩:=hent;have hden:den E (.own k 0)=E k:=by simp[den,hu,base,cy]
       have call:∀ hn:(k::rs).Nodup,T' = p.T->p.pre W bs fs as_->Calls P f (ah E (.own k 0::rest)).toArray w λe w' => Zk w (E k) ((k::rs).flatMap F) p.T (ah E (vs.drop p.m)) e w' (p.out W fs as_):=λhn hT hp=>by
        subst hT;have ho:=Ch hs (hsplit ▸ hkk) hv hn;have:=p.ok W w bs (E k) _ (ah E rest) fs as_ _ hs.keeps ho (λc hc=>?_) (λc hc=>?_) (di hs hr) hp
        ·simpa only[ah,hden] using this
        ·obtain⟨j,hj,hcj⟩:=List.mem_flatMap.1 hc;rcases List.mem_cons.1 hj with rfl|hj
         ·exact hs.lt _ _ hkk c hcj
         ·obtain⟨e,he⟩:=(b7 hs hv).2 j hj;exact hs.lt j e he c hcj
        ·obtain⟨j,hj,hcj⟩:=List.mem_flatMap.1 hc;rcases List.mem_cons.1 hj with rfl|hj
         ·exact hs.mine _ _ hkk c hcj
         ·obtain⟨e,he⟩:=(b7 hs hv).2 j hj;exact hs.mine j e he c hcj
       cases hout:p.out W fs as_ with
       |ret v fs' =>
        simp only[uB];rintro⟨⟨hT,hp⟩,hn,hd,hlen⟩;have hc:=call hn hT hp;rw[hout]at hc;subst hT;refine hc.mono λe w' he=>?_
        obtain⟨rfl,⟨fp',ho,h1,h2⟩,hkeep⟩:=he;obtain⟨E',F',hE',hs'⟩:=LY hs hK hk (hsplit ▸ hkk) hv hlen hn ho h1 h2 hkeep;exact⟨rfl,E',F',hE',rfl,hs'⟩
       | pan c _=>
        simp only[uB];rintro⟨⟨hT,hp⟩,hn,hd⟩;have hc:=call hn hT hp;rw[hout]at hc;refine hc.mono λe w' he=>?_
        obtain⟨rfl,hkeep⟩:=he;refine⟨rfl,F,?_⟩;refine hs.lI hK (k::rs) (λ_=>none) (λj hj=>?_) (λ_ _=>rfl) (λj e he=>by cases he) (λi j e e' _ he=>by cases he) (λ_ _ _ _=>rfl) (λj=>?_) hkeep
        ·rcases List.mem_cons.1 hj with rfl|hj
         ·exact⟨_,hkk⟩
         ·exact (b7 hs hv).2 j hj
        ·simp only[dropKeys]
  ·exact λhf=>hf.elim
 keys:=λW bs κ h K args hK hx hside=>by
  revert hside;unfold zO;split
  ·rename_i k rest;cases hkk:h k with
   |none=>exact λhf=>hf.elim
   | some e=>
    cases e with
    |row T s n vs=>exact λhf=>hf.elim
    |obj d R=>exact λhf=>hf.elim
    | cells T' vs=>
     cases hr:ay h rest with
     |none=>exact λhf=>hf.elim
     | some q=>
      obtain⟨as_,rs'⟩:=q;simp only[xi];have hsplit:vs=vs.take p.m++vs.drop p.m:=(List.take_append_drop _ _).symm;cases hv:ay h (vs.take p.m) with
      |none=>exact λhf=>hf.elim
      | some q=>
       obtain⟨fs,rs⟩:=q;simp only[xL];cases hout:p.out W fs as_ with
       | ret v fs' =>
        simp only[uB];rintro⟨_,hn,hd,hlen⟩;refine⟨λj hj=>(by cases hj),λq hq=>?_⟩;simp only[List.mem_append,List.mem_singleton]at hq;rcases hq with hq|hq|rfl
        ·simp only[db,List.mem_map]at hq;obtain⟨j,hj,rfl⟩:=hq;exact⟨.inl (qi hK hv j hj),λe he=>by cases he⟩
        ·obtain⟨e,h1,h2⟩:=dZ.1 hq;obtain⟨h3,h4⟩:=uc hlen h2;refine⟨.inr h3,λe' he' j hj=>?_⟩;rw[h1]at he';simp only[Option.some.injEq]at he';subst he';rw[h4]at hj;cases hj
        ·refine⟨.inl (hK k _ hkk).1,λe' he' j hj=>?_⟩;simp only[Option.some.injEq]at he';subst he';simp only[aI.keys,aJ,List.mem_append]at hj;rcases hj with hj|hj
         ·have:=cB j hj;exact .inr oM
         ·refine .inl ((hK k _ hkk).2 j ?_);simp only[aI.keys];rw[hsplit,aJ];exact List.mem_append_right _ hj
       |pan c _=>
        simp only[uB];rintro _;exact⟨λj hj=>(by cases hj),λq hq=>by cases hq⟩
  ·exact λhf=>hf.elim
 loc:=λW bs κ h h' args hside hr=>by
  revert hside hr;unfold zO;split
  ·rename_i k rest;cases hkk:h k with
   |none=>exact λhf=>hf.elim
   | some e=>
    cases e with
    |row T s n vs=>exact λhf=>hf.elim
    |obj d R=>exact λhf=>hf.elim
    | cells T' vs=>
     cases hrr:ay h rest with
     |none=>exact λhf=>hf.elim
     | some q=>
      obtain⟨as_,rs'⟩:=q;simp only[xi];have hsplit:vs=vs.take p.m++vs.drop p.m:=(List.take_append_drop _ _).symm;cases hv:ay h (vs.take p.m) with
      |none=>exact λhf=>hf.elim
      | some q=>
       obtain⟨fs,rs⟩:=q;simp only[xL];have key:∀ r:R,(∀ j∈r.reads,h' j=h j)->r.reads=k::(rs++rs')->h' k=some (.cells T' vs)/\ay h' rest=some (as_,rs')/\ay h' (vs.take p.m)=some (fs,rs):=λr hr he=>by
        rw[he]at hr;exact⟨by rw[hr k sI,hkk],cm hrr λj hj=>hr j (by simp[hj]),cm hv λj hj=>hr j (by simp[hj])⟩
       intro _ hr;obtain⟨g1,g2,g3⟩:=key _ hr (by cases p.out W fs as_<;>rfl);rw[g1,g2];simp only[xi,g3,xL]
  ·exact λhf=>hf.elim
section
variable (h:Hp)(κ k:Nat)(T T' : TypeId)(m:Nat)(pre:List AV->List AV->Prop)(out:List AV->List AV->BOut)
theorem TS{P:Program}{f:FuncId}(p:RQ P f)(W:World)(bs:List Nat)(κ:Nat)(h:Hp)(l:List SV):p.spec.ev W bs κ h l=zO h κ p.T p.m (p.pre W bs) (p.out W) l:=rfl
theorem Mf(rest:List SV):zO h κ T m pre out (.own k 0::rest)=xi h κ k T m pre out (h k) (ay h rest):=rfl
theorem E8(vs:List SV)(as_:List AV)(rs' : List Nat):xi h κ k T m pre out (some (.cells T' vs)) (some (as_,rs'))=xL κ k T T' (vs.drop m) pre out as_ rs' (ay h (vs.take m)):=rfl
theorem FM(ys:List SV)(as_:List AV)(rs' : List Nat)(fs:List AV)(rs:List Nat):xL κ k T T' ys pre out as_ rs' (some (fs,rs))=uB κ k T ys (T' = T/\pre fs as_) rs rs' (out fs as_):=rfl
theorem L5(ys:List SV)(q:Prop)(rs rs' : List Nat)(v:Value)(fs:List AV):uB κ k T ys q rs rs' (.ret v fs)=⟨q/\(k::rs).Nodup/\(∀ j∈rs',j∉k::rs)/\fs.length<=8,.v v,db rs++(bZ (aT (8*κ) fs)++[(k,some (.cells T (aF (8*κ) fs++ys)))]),none,[],k::(rs++rs')⟩:=rfl
end
def afd:=aa @TS <| aa @Mf <| aa @E8 <| aa @FM @L5
def σP(T:TypeId)(fs:List AV)(xs args:List Value):St:=⟨1,cL ((0,.is (.own 0 0))::sc args 1),cf ((0,.cells T (aF 1 fs++xs.map .v))::aT 1 fs)⟩
structure BA (P:Program)(f:FuncId) where
 T:TypeId
 pre:World->List Nat->List AV->List AV->Prop
 out:World->List AV->List AV->BOut
 enters:∀ args w,(callFunc f args).run P w=.ok (.enter f args) w
 ok:∀ (W w:World) (bs:List Nat) (u:Value) (fp:List Nat) (us:List Value) (fs as_:List AV),af W bs w->bJ w u fp T fs->(∀ b∈fp,b<w.heap.size)->(∀ b∈fp,W.heap.size<=b\/b∈bs)->eJ w us as_->pre W bs fs as_ ->
  Calls P f (us++[u]).toArray w λe w' => iQ w u fp T e w' (out W fs as_)
def kr(h:Hp)(κ:Nat)(T:TypeId)(pre:List AV->List AV->Prop)(out:List AV->List AV->BOut):List SV->R
 |[x,y,.own k 0]=>eX h κ k T pre out (h k) (ay h [x,y])
 |_=>.bad
theorem Bt(h:Hp)(κ k:Nat)(T:TypeId)(pre:List AV->List AV->Prop)(out:List AV->List AV->BOut)(x y:SV):kr h κ T pre out [x,y,.own k 0]=eX h κ k T pre out (h k) (ay h [x,y]):=by
 cases x<;>rfl
def BA.spec{P:Program}{f:FuncId}(p:BA P f):Spec P f where
 ev:=λW bs κ h args=>kr h κ p.T (p.pre W bs) (p.out W) args
 good:=λW bs κ E F h w K args hs hK hk hx hside=>by
  rw[p.enters];revert hside;unfold kr;split
  ·rename_i x y k;cases hkk:h k with
   |none=>exact λhf=>hf.elim
   | some e=>
    cases e with
    |row T s n vs=>exact λhf=>hf.elim
    |obj d R=>exact λhf=>hf.elim
    | cells T' vs=>
     cases hr:ay h [x,y] with
     |none=>exact λhf=>hf.elim
     | some q=>
      obtain⟨as_,rs'⟩:=q;simp only[eX];cases hv:ay h vs with
      |none=>exact λhf=>hf.elim
      | some q=>
       obtain⟨fs,rs⟩:=q;simp only[gF];have hent:=hs.ent k _ hkk;obtain⟨b,hu,_,_⟩:=hent;have hden:den E (.own k 0)=E k:=by simp[den,hu,base,cy]
       have call:∀ hn:(k::rs).Nodup,T' = p.T->p.pre W bs fs as_->Calls P f (ah E [x,y,.own k 0]).toArray w λe w' => iQ w (E k) ((k::rs).flatMap F) p.T e w' (p.out W fs as_):=λhn hT hp=>by
        subst hT;have ho:=fW hs hkk hv hn;have:=p.ok W w bs (E k) _ [den E x,den E y] fs as_ hs.keeps ho (λc hc=>?_) (λc hc=>?_) (di hs hr) hp
        ·simp only[ah,hden];exact this
        ·obtain⟨j,hj,hcj⟩:=List.mem_flatMap.1 hc;rcases List.mem_cons.1 hj with rfl|hj
         ·exact hs.lt _ _ hkk c hcj
         ·obtain⟨e,he⟩:=(b7 hs hv).2 j hj;exact hs.lt j e he c hcj
        ·obtain⟨j,hj,hcj⟩:=List.mem_flatMap.1 hc;rcases List.mem_cons.1 hj with rfl|hj
         ·exact hs.mine _ _ hkk c hcj
         ·obtain⟨e,he⟩:=(b7 hs hv).2 j hj;exact hs.mine j e he c hcj
       cases hout:p.out W fs as_ with
       |ret v fs' =>
        simp only[fL];rintro⟨⟨hT,hp⟩,hn,hd,hlen⟩;have hc:=call hn hT hp;rw[hout]at hc;subst hT;refine hc.mono λe w' he=>?_
        obtain⟨rfl,⟨fp',ho,h1,h2⟩,hkeep⟩:=he;obtain⟨E',F',hE',hs'⟩:=mA hs hK hk hkk hv hlen hn ho h1 h2 hkeep;exact⟨rfl,E',F',hE',rfl,hs'⟩
       | pan c _=>
        simp only[fL];rintro⟨⟨hT,hp⟩,hn,hd⟩;have hc:=call hn hT hp;rw[hout]at hc;refine hc.mono λe w' he=>?_
        obtain⟨rfl,hkeep⟩:=he;refine⟨rfl,F,?_⟩;refine hs.lI hK (k::rs) (λ_=>none) (λj hj=>?_) (λ_ _=>rfl) (λj e he=>by cases he) (λi j e e' _ he=>by cases he) (λ_ _ _ _=>rfl) (λj=>?_) hkeep
        ·rcases List.mem_cons.1 hj with rfl|hj
         ·exact⟨_,hkk⟩
         ·exact (b7 hs hv).2 j hj
        ·simp only[dropKeys]
  ·exact λhf=>hf.elim
 keys:=λW bs κ h K args hK hx hside=>by
  revert hside;unfold kr;split
  ·rename_i x y k;cases hkk:h k with
   |none=>exact λhf=>hf.elim
   | some e=>
    cases e with
    |row T s n vs=>exact λhf=>hf.elim
    |obj d R=>exact λhf=>hf.elim
    | cells T' vs=>
     cases hr:ay h [x,y] with
     |none=>exact λhf=>hf.elim
     | some q=>
      obtain⟨as_,rs'⟩:=q;simp only[eX];cases hv:ay h vs with
      |none=>exact λhf=>hf.elim
      | some q=>
       obtain⟨fs,rs⟩:=q;simp only[gF];cases hout:p.out W fs as_ with
       | ret v fs' =>
        simp only[fL];rintro⟨_,hn,hd,hlen⟩;refine⟨λj hj=>(by cases hj),λq hq=>?_⟩;simp only[List.mem_append,List.mem_singleton]at hq;rcases hq with hq|hq|rfl
        ·simp only[db,List.mem_map]at hq;obtain⟨j,hj,rfl⟩:=hq;exact⟨.inl (qi hK hv j hj),λe he=>by cases he⟩
        ·obtain⟨e,h1,h2⟩:=dZ.1 hq;obtain⟨h3,h4⟩:=uc hlen h2;refine⟨.inr h3,λe' he' j hj=>?_⟩;rw[h1]at he';simp only[Option.some.injEq]at he';subst he';rw[h4]at hj;cases hj
        ·refine⟨.inl (hK k _ hkk).1,λe' he' j hj=>.inr ?_⟩;simp only[Option.some.injEq]at he';subst he';have:=cB j hj;omega
       |pan c _=>
        simp only[fL];rintro _;exact⟨λj hj=>(by cases hj),λq hq=>by cases hq⟩
  ·exact λhf=>hf.elim
 loc:=λW bs κ h h' args hside hr=>by
  revert hside hr;unfold kr;split
  ·rename_i x y k;cases hkk:h k with
   |none=>exact λhf=>hf.elim
   | some e=>
    cases e with
    |row T s n vs=>exact λhf=>hf.elim
    |obj d R=>exact λhf=>hf.elim
    | cells T' vs=>
     cases hrr:ay h [x,y] with
     |none=>exact λhf=>hf.elim
     | some q=>
      obtain⟨as_,rs'⟩:=q;simp only[eX];cases hv:ay h vs with
      |none=>exact λhf=>hf.elim
      | some q=>
       obtain⟨fs,rs⟩:=q;simp only[gF];have key:∀ r:R,(∀ j∈r.reads,h' j=h j)->r.reads=k::(rs++rs')->h' k=some (.cells T' vs)/\ay h' [x,y]=some (as_,rs')/\ay h' vs=some (fs,rs):=λr hr he=>by
        rw[he]at hr;exact⟨by rw[hr k sI,hkk],cm hrr λj hj=>hr j (by simp[hj]),cm hv λj hj=>hr j (by simp[hj])⟩
       intro _ hr;obtain⟨g1,g2,g3⟩:=key _ hr (by cases p.out W fs as_<;>rfl);rw[g1,g2];simp only[eX,g3,gF]
  ·exact λhf=>hf.elim
theorem GY{P:Program}{f:FuncId}(p:BA P f)(W:World)(bs:List Nat)(κ:Nat)(h:Hp)(l:List SV):p.spec.ev W bs κ h l=kr h κ p.T (p.pre W bs) (p.out W) l:=rfl
def ae0:=aa @GY @Bt
def σB3(T:TypeId)(fs:List AV)(x y:Value):St:=⟨1,cL ((2,.is (.own 0 0))::sc [x,y] 0),cf ((0,.cells T (aF 1 fs))::aT 1 fs)⟩
section
variable {P:Program}{W:World}{bs:List Nat}{E:Nat->Value}{F:Nat->List Nat}{h:Hp}{w:World}
theorem CT(m:Nat->Src){H:List (Nat×aI)}(hs:ab W bs E F h w)(hh:td m h H)(hn:(dc m H).Nodup):ab W bs (lf E m) (j1 F m) (cf H) w:=by
 have at' : ∀ k e,cf H k=some e->lN m h k e:=λk e he=>ve hh _ (bK he)
 have key:∀ k e j,cf H k=some e->m k=.key j->h j=some (fP m e):=λk e j he hj=>by
  have:=at' k e he;simpa only[lN,hj] using this
 refine⟨λk e he=>?_,λk e he b hb=>?_,λk e he b hb=>?_,λk k' e e' hne he he' b hb=>?_,hs.keeps⟩
 ·cases hm:m k with
  |key j=>
   simp only[lf,j1,hm];exact wH (hs.ent j _ (key k e j he hm))
  | nil=>
   have:=at' k e he;simp only[lN,hm]at this;cases e with
   |row T s n vs=>
    obtain⟨h0,rfl,rfl⟩:=this;simp only[lf,j1,hm];exact⟨⟨by simp[ah],.inl ⟨rfl,rfl⟩⟩,rfl⟩
   |cells T vs=>exact this.elim
   |obj d R=>exact this.elim
 ·cases hm:m k with
  |key j=>simp only[j1,hm]at hb;exact hs.lt j _ (key k e j he hm) b hb
  |nil=>simp only[j1,hm]at hb;cases hb
 ·cases hm:m k with
  |key j=>simp only[j1,hm]at hb;exact hs.mine j _ (key k e j he hm) b hb
  |nil=>simp only[j1,hm]at hb;cases hb
 ·cases hm:m k with
  |nil=>simp only[j1,hm]at hb;cases hb
  | key i=>
   cases hm' : m k' with
   |nil=>simp only[j1,hm'];simp
   |key j=>
    simp only[j1,hm,hm']at hb ⊢;exact hs.apart i j _ _ (pd hn _ (bK he) _ (bK he') hne i j hm hm') (key k e i he hm) (key k' e' j he' hm') b hb
mutual
theorem vX{m:Nat->Src}{j:Nat}:∀ x:SV,j∈(fg m x).keys->∃ k∈x.keys,m k=.key j
 |.v x,h=>by simp[fg,SV.keys]at h
 |.own k o,h=>by
  simp only[fg]at h;cases hm:m k with
  |key i=>rw[hm]at h;simp[SV.keys]at h;exact⟨k,by simp[SV.keys],by rw[hm,h]⟩
  |nil=>rw[hm]at h;simp[SV.keys]at h
 |.hd k,h=>by
  simp only[fg]at h;cases hm:m k with
  |key i=>rw[hm]at h;simp[SV.keys]at h;exact⟨k,by simp[SV.keys],by rw[hm,h]⟩
  |nil=>rw[hm]at h;simp[SV.keys]at h
 |.agg l,h=>by
  simp only[fg,SV.keys]at h ⊢;exact ib l h
 |.tup l,h=>by
  simp only[fg,SV.keys]at h ⊢;exact ib l h
 |.ifc t x,h=>by
  simp only[fg,SV.keys]at h ⊢;exact vX x h
 |.part k i,h=>by
  simp only[fg]at h;cases hm:m k with
  |key i=>rw[hm]at h;simp[SV.keys]at h;exact⟨k,by simp[SV.keys],by rw[hm,h]⟩
  |nil=>rw[hm]at h;simp[SV.keys]at h
 | .fn f a c,h=>by
  simp only[fg,SV.keys,List.mem_append]at h ⊢;rcases h with h|h
  ·obtain⟨k,hk,hm⟩:=ib a h;exact⟨k,.inl hk,hm⟩
  ·obtain⟨k,hk,hm⟩:=ib c h;exact⟨k,.inr hk,hm⟩
theorem ib{m:Nat->Src}{j:Nat}:∀ l:List SV,j∈al (fz m l)->∃ k∈al l,m k=.key j
 |[],h=>by simp[fz,al]at h
 | x::r,h=>by
  simp only[fz,al,List.mem_append]at h ⊢;rcases h with h|h
  ·obtain⟨k,hk,hm⟩:=vX x h;exact⟨k,.inl hk,hm⟩
  ·obtain⟨k,hk,hm⟩:=ib r h;exact⟨k,.inr hk,hm⟩
end
theorem Ni{m:Nat->Src}{j:Nat}(e:aI)(h:j∈(fP m e).keys):∃ k∈e.keys,m k=.key j:=by
 cases e with
 |cells T vs=>exact ib vs h
 |row T s n vs=>exact ib vs h
 |obj d R=>cases h
theorem BE{m:Nat->Src}{u:Value}{fp:List Nat}{e:aI}(h:aZ (lf E m) u fp w e):aZ E u fp w (fP m e):=by
 cases e with
 |cells T vs=>simpa [aZ,fP,fy] using h
 |row T s n vs=>simpa [aZ,fP,fy] using h
 |obj d R=>exact h
def pF(κ:Nat)(m:List Nat)(k:Nat):Nat:=if k<8 then m.getD k 0 else 8*κ+(k-8)
def mp(κ:Nat)(m:List Nat)(k:Nat):Src:=.key (pF κ m k)
def fresh(k:Nat):Prop:=8<=k/\k<16
def jT(κ:Nat)(m:List Nat)(h:Hp):List (Nat×aI)->Prop
 |[]=>True
 |(k,e)::r=>h (pF κ m k)=some (fP (mp κ m) e)/\jT κ m h r
def ep(κ:Nat)(m:List Nat):List (Nat×aI)->List Nat
 |[]=>[]
 |(k,_)::r=>pF κ m k::ep κ m r
def fZ(κ:Nat)(m:List Nat):List (Nat×aI)->List (Nat×Option aI)
 |[]=>[]
 |(k,e)::r=>(pF κ m k,some (fP (mp κ m) e))::fZ κ m r
def sT(κ:Nat)(m:List Nat)(h:Hp)(args args' : List SV)(L L' : List (Nat×aI))(val:SV)(pre:Prop):R:=
 ⟨(args=fz (mp κ m) args' /\ jT κ m h L/\(ep κ m L).Nodup)/\pre,fg (mp κ m) val,db (ep κ m L)++fZ κ m L',none,[],ep κ m L⟩
theorem Jf{κ:Nat}{m:List Nat}:∀ {L:List (Nat×aI)},jT κ m h L->td (mp κ m) h L
 |[],_=>trivial
 |(k,e)::r,hl=>⟨hl.1,Jf hl.2⟩
theorem Es{κ:Nat}{m:List Nat}:∀ {L:List (Nat×aI)},dc (mp κ m) L=ep κ m L
 |[]=>rfl
 |(k,e)::r=>by
  simp only[dc,ep,mp,List.singleton_append];rw[<- Es (κ:=κ) (m:=m) (L:=r)]
theorem kV{κ:Nat}{m:List Nat}:∀ {L:List (Nat×aI)} {k:Nat} {e:aI},jT κ m h L->(k,e)∈L->h (pF κ m k)=some (fP (mp κ m) e)
 |(k0,e0)::r,k,e,hl,hm=>by
  rcases List.mem_cons.1 hm with hm|hm
  ·cases hm;exact hl.1
  ·exact kV hl.2 hm
theorem gX{κ:Nat}{m:List Nat}{j:Nat}:∀ {L:List (Nat×aI)},j∈ep κ m L ↔ ∃ p∈L,pF κ m p.1=j
 |[]=>by simp[ep]
 | (k,e)::r=>by
  simp only[ep,List.mem_cons,gX (L:=r)];constructor
  ·rintro (rfl|⟨p,hp,rfl⟩)
   ·exact⟨(k,e),.inl rfl,rfl⟩
   ·exact⟨p,.inr hp,rfl⟩
  ·rintro⟨p,rfl|hp,rfl⟩
   ·exact .inl rfl
   ·exact .inr ⟨p,hp,rfl⟩
theorem zZ{κ:Nat}{m:List Nat}:∀ {L:List (Nat×aI)},(ep κ m L).Nodup->∀ p∈L,∀ q∈L,pF κ m p.1=pF κ m q.1->p.1=q.1
 | (k,e)::r,hn,p,hp,q,hq,he=>by
  obtain⟨h1,h2⟩:=List.nodup_cons.1 hn;rcases List.mem_cons.1 hp with rfl|hp'
  ·rcases List.mem_cons.1 hq with rfl|hq'
   ·rfl
   ·exact absurd (gX.2 ⟨q,hq',he.symm⟩) h1
  ·rcases List.mem_cons.1 hq with rfl|hq'
   ·exact absurd (gX.2 ⟨p,hp',he⟩) h1
   ·exact zZ h2 p hp' q hq' he
theorem jo{κ:Nat}{m:List Nat}{q:Nat×Option aI}:∀ {L:List (Nat×aI)},q∈fZ κ m L ↔ ∃ p∈L,q=(pF κ m p.1,some (fP (mp κ m) p.2))
 |[]=>by simp[fZ]
 | (k,e)::r=>by
  simp only[fZ,List.mem_cons,jo (L:=r)];constructor
  ·rintro (rfl|⟨p,hp,rfl⟩)
   ·exact⟨(k,e),.inl rfl,rfl⟩
   ·exact⟨p,.inr hp,rfl⟩
  ·rintro⟨p,rfl|hp,rfl⟩
   ·exact .inl rfl
   ·exact .inr ⟨p,hp,rfl⟩
theorem JZ:∀ {L:List (Nat×aI)} {k:Nat} {e:aI},(L.map (·.1)).Nodup->(k,e)∈L->cf L k=some e
 | (k0,e0)::r,k,e,hn,hm=>by
  simp only[List.map_cons,List.nodup_cons]at hn;simp only[cf];rcases List.mem_cons.1 hm with hm|hm
  ·cases hm;rw[ai]
  ·have:k≠k0:=λe' => hn.1 (e' ▸ List.mem_map.2 ⟨_,hm,rfl⟩)
   rw[aj _ _ this];exact JZ hn.2 hm
end
structure qu (P:Program)(f:FuncId) where
 args:List SV
 L:List (Nat×aI)
 val:SV
 L' : List (Nat×aI)
 dC:List Nat
 pre:World->List Nat->Prop
 low:∀ p∈L,p.1<8
 kept:∀ k∈dC,∃ e,(k,e)∈L
 vk:∀ k∈val.keys,k∈dC\/fresh k
 lk:∀ p∈L',(p.1∈dC\/fresh p.1)/\∀ k∈p.2.keys,k∈dC\/fresh k
 nd:(L'.map (·.1)).Nodup
 enters:∀ args w,(callFunc f args).run P w=.ok (.enter f args) w
 ok:∀ (W w:World) (bs fp:List Nat) (E:Nat->Value) (F:Nat->List Nat),af W bs w->(∀ b∈fp,W.heap.size<=b\/b∈bs)->ab w fp E F (cf L) w->pre W bs ->
  Calls P f (ah E args).toArray w λe w' => ∃ E' F',e=.returned (den E' val)/\(∀ k∈dC,E' k=E k)/\ab w fp E' F' (cf L') w'
theorem nM{κ k:Nat}{m:List Nat}(h:fresh k):pF κ m k / 8=κ:=by
 obtain⟨h1,h2⟩:=h;unfold pF;rw[if_neg oM];omega
def qu.spec{P:Program}{f:FuncId}(p:qu P f)(m:List Nat):Spec P f where
 ev:=λW bs κ h args=>sT κ m h args p.args p.L p.L' p.val (p.pre W bs)
 good:=λW bs κ E F h w K args hs hK hk hx hside=>by
  rw[p.enters];obtain⟨⟨rfl,hl,hn⟩,hp⟩:=hside;have hmK:∀ k∈p.dC,K (pF κ m k):=λk hk' => by
   obtain⟨e,he⟩:=p.kept k hk';exact (hK _ _ (kV hl he)).1
  have h0:=CT (mp κ m) hs (Jf hl) (by rw[Es];exact hn);have h1:ab w ((ep κ m p.L).flatMap F) (lf E (mp κ m)) (j1 F (mp κ m)) (cf p.L) w:=⟨h0.ent,h0.lt,λk e he b hb=>.inr (List.mem_flatMap.2 ⟨pF κ m k,gX.2 ⟨_,bK he,rfl⟩,hb⟩),h0.apart,af.refl w _⟩
  have mine:∀ b∈(ep κ m p.L).flatMap F,W.heap.size<=b\/b∈bs:=λb hb=>by
   obtain⟨j,hj,hbj⟩:=List.mem_flatMap.1 hb;obtain⟨q,hq,rfl⟩:=gX.1 hj;exact hs.mine _ _ (kV hl hq) b hbj
  have S:∀ k,(k∈p.dC\/fresh k)->∀ k',(k' ∈ p.dC\/fresh k')->pF κ m k=pF κ m k' -> k=k' := λk h1 k' h2 he=>by
   rcases h1 with h1|h1
   ·rcases h2 with h2|h2
    ·obtain⟨e,hm⟩:=p.kept k h1;obtain⟨e',hm'⟩:=p.kept k' h2;exact zZ hn _ hm _ hm' he
    ·exact absurd (hmK k h1) (hk _ (by rw[he];exact nM h2))
   ·rcases h2 with h2|h2
    ·exact absurd (hmK k' h2) (hk _ (by rw[<- he];exact nM h1))
    ·obtain⟨a1,a2⟩:=h1;obtain⟨b1,b2⟩:=h2;unfold pF at he;rw[if_neg oM,if_neg oM]at he;omega
  simp only[sT,Good,lr];rw[fy];refine (p.ok W w bs _ _ _ hs.keeps mine h1 hp).mono λe w' he=>?_
  obtain⟨E',F',rfl,hE',hs'⟩:=he
  classical
  let bk:Nat->Option Nat:=λj=>if hj:∃ k,(k∈p.dC\/fresh k)/\pF κ m k=j then some hj.choose else none
  have bk1:∀ k,(k∈p.dC\/fresh k)->bk (pF κ m k)=some k:=λk hk' => by
   have hex:∃ k',(k' ∈ p.dC\/fresh k')/\pF κ m k' = pF κ m k:=⟨k,hk',rfl⟩;have:=hex.choose_spec;simp only[bk,dif_pos hex,Option.some.injEq];exact S _ this.1 _ hk' this.2
  have bk2:∀ j k,bk j=some k->(k∈p.dC\/fresh k)/\pF κ m k=j:=λj k hj=>by
   simp only[bk]at hj;split at hj
   ·rename_i hex;cases hj;exact hex.choose_spec
   ·cases hj
  let E2:Nat->Value:=λj=>match bk j with|some k=>E' k|none=>E j
  let F2:Nat->List Nat:=λj=>match bk j with|some k=>if k∈p.L'.map (·.1) then F' k else F j|none=>F j
  have e2:∀ k,(k∈p.dC\/fresh k)->E2 (pF κ m k)=E' k:=λk hk' => by simp only[E2,bk1 k hk']
  have agree:∀ j,j / 8≠κ->E2 j=E j:=λj hj=>by
   simp only[E2];cases hb:bk j with
   |none=>rfl
   |some k=>
    obtain⟨h2,rfl⟩:=bk2 j k hb;rcases h2 with h2|h2
    ·simp only;rw[hE' k h2];rfl
    ·exact absurd (nM h2) hj
  have src2:∀ k,(k∈p.dC\/fresh k)->lf E2 (mp κ m) k=E' k:=λk hk' => e2 k hk'
  refine⟨trivial,E2,F2,agree,?_,?_⟩
  ·rw[ke];exact kU _ λk hk' => (src2 k (p.vk k hk')).symm
  have hN:∀ j e,aO (λ_=>none) (fZ κ m p.L') j=some e->∃ q∈p.L',j=pF κ m q.1/\e=fP (mp κ m) q.2/\bk j=some q.1/\F2 j=F' q.1/\cf p.L' q.1=some q.2:=λj e he=>by
   rcases iw (λ_=>(none:Option aI)) (k:=j) (u:=fZ κ m p.L') with ⟨x,hx,hx'⟩|⟨_,hx'⟩
   ·rw[hx']at he;subst he;obtain⟨q,hq,hqe⟩:=jo.1 hx;simp only[Prod.mk.injEq,Option.some.injEq]at hqe;obtain⟨rfl,rfl⟩:=hqe;have hb:=bk1 q.1 (p.lk q hq).1;exact⟨q,hq,rfl,rfl,hb,by simp only[F2,hb];rw[if_pos (List.mem_map.2 ⟨q,hq,rfl⟩)],JZ p.nd hq⟩
   ·rw[hx']at he;cases he
  have hN0:∀ j,aO (λ_=>none) (fZ κ m p.L') j=none->F2 j=F j:=λj he=>by
   simp only[F2];cases hb:bk j with
   |none=>rfl
   | some k=>
    simp only;split
    ·rename_i hm;obtain⟨q,hq,rfl⟩:=List.mem_map.1 hm;obtain⟨_,rfl⟩:=bk2 j _ hb;rcases iw (λ_=>(none:Option aI)) (k:=pF κ m q.1) (u:=fZ κ m p.L') with ⟨x,hx,hx'⟩|⟨hx,_⟩
     ·rw[hx']at he;subst he;obtain⟨q',_,hqe⟩:=jo.1 hx;simp at hqe
     ·exact absurd (List.mem_map.2 ⟨_,jo.2 ⟨q,hq,rfl⟩,rfl⟩) hx
    ·rfl
  refine hs.lI hK (ep κ m p.L) (aO (λ_=>none) (fZ κ m p.L')) (λj hj=>?_) (λj hj=>agree j λe=>hk j e hj) (λj e he=>?_) (λi j e e' hij hi hj b hb=>?_) (λj x hx hj=>hN0 j hj) (λj=>?_) hs'.keeps
  ·obtain⟨q,hq,rfl⟩:=gX.1 hj;exact⟨_,kV hl hq⟩
  ·obtain⟨q,hq,rfl,rfl,hb,hF,hq'⟩:=hN j e he;rw[hF,e2 q.1 (p.lk q hq).1];refine⟨?_,λb hb=>?_,λb hb=>hs'.lt q.1 _ hq' b hb⟩
   ·refine BE ?_;exact gy (λk hk' => (src2 k ((p.lk q hq).2 k hk')).symm) (hs'.ent q.1 _ hq')
   ·rcases hs'.mine q.1 _ hq' b hb with g|g
    ·exact .inr g
    ·obtain⟨j,hj,hbj⟩:=List.mem_flatMap.1 g;exact .inl ⟨j,hj,hbj⟩
  ·obtain⟨q,hq,rfl,rfl,_,hF,hq'⟩:=hN i e hi;obtain⟨r,hr,rfl,rfl,_,hF',hr'⟩:=hN j e' hj;rw[hF]at hb;rw[hF'];exact hs'.apart q.1 r.1 _ _ (λe=>hij (by rw[e])) hq' hr' b hb
  ·have hsome:∀ q∈fZ κ m p.L',∃ e,q.2=some e:=λq hq=>by
    obtain⟨r,_,rfl⟩:=jo.1 hq;exact⟨_,rfl⟩
   rw[bM,gM _ _ _ hsome,jg];cases aO (λ_=>none) (fZ κ m p.L') j with
   |some e=>rfl
   |none=>rfl
 keys:=λW bs κ h K args hK hx hside=>by
  obtain⟨⟨rfl,hl,hn⟩,hp⟩:=hside;have hmK:∀ k,(k∈p.dC\/fresh k)->K (pF κ m k)\/pF κ m k / 8=κ:=λk hk' => by
   rcases hk' with hk'|hk'
   ·obtain⟨e,he⟩:=p.kept k hk';exact .inl (hK _ _ (kV hl he)).1
   ·exact .inr (nM hk')
  refine⟨λj hj=>?_,λq hq=>?_⟩
  ·obtain⟨k,hk,hm⟩:=vX _ hj;cases hm;exact hmK k (p.vk k hk)
  ·rcases List.mem_append.1 hq with hq|hq
   ·simp only[db,List.mem_map]at hq;obtain⟨j,hj,rfl⟩:=hq;obtain⟨r,hr,rfl⟩:=gX.1 hj;exact⟨.inl (hK _ _ (kV hl hr)).1,λe he=>by cases he⟩
   ·obtain⟨r,hr,rfl⟩:=jo.1 hq;refine⟨hmK _ (p.lk r hr).1,λe he j hj=>?_⟩;simp only[Option.some.injEq]at he;subst he;obtain⟨k,hk,hm⟩:=Ni _ hj;cases hm;exact hmK k ((p.lk r hr).2 k hk)
 loc:=λW bs κ h h' args hside hr=>by
  have:∀ L:List (Nat×aI),(∀ k∈ep κ m L,h' k=h k)->jT κ m h' L=jT κ m h L:=λL=>by
   induction L with
   |nil=>exact λ_=>rfl
   |cons q r ih=>
    intro hq;simp only[jT];rw[hq _ (by simp[ep]),ih λk hk=>hq k (by simp[ep,hk])]
  simp only[sT];rw[this p.L hr]
theorem qh{P:Program}{f:FuncId}(p:qu P f)(m:List Nat)(W:World)(bs:List Nat)(κ:Nat)(h:Hp)(l:List SV):(p.spec m).ev W bs κ h l=sT κ m h l p.args p.L p.L' p.val (p.pre W bs):=rfl
def jC:List SV->Nat->List (Nat×FV)
 |[],_=>[]
 |x::r,i=>(i,.is x)::jC r (i+1)
theorem zX(E:Nat->Value):∀ (l:List SV) (i t:Nat) (tm:Nat->Value),(∀ j (h:j<(ah E l).length),tm (i+j)=(ah E l)[j])->fits E (cL (jC l i) t) (tm t)
 |[],_,_,_,_=>trivial
 | x::r,i,t,tm,h=>by
  simp only[jC,cL,a7];split
  ·rename_i ht;subst ht;have:=h 0 (by simp[ah]);simpa [fits,ah] using this
  ·exact zX E r (i+1) t tm λj hj=>by
    have:=h (j+1) (by simp only[ah,List.length_cons];omega);rw[show i+1+j=i+(j+1) by omega];simpa [ah] using this
def I1(dC:List Nat)(val:SV)(L' : List (Nat×aI))(x:SV)(h:Hp):Prop:=∃ m:Nat->Src,x=fg m val/\td m h L' /\ (dc m L').Nodup/\∀ k∈dC,m k=.key k
theorem gO{P:Program}{f:FuncId}{fn:Func}{c:Code}{w:World}{fp:List Nat}{E:Nat->Value}{F:Nat->List Nat}{nt:Nat}{dC:List Nat}{args:List SV}{L L' : List (Nat×aI)}{val:SV}(rs:List ResultVar)
  (hs:ab w fp E F (cf L) w) (hkb:oz 1 (jC args 0) L) (hkp:∀ k∈dC,k<8)
  (hf:P.funcs[f]?=some fn) (hb:fn.body=some c) (hrs:fn.results.toList=rs) (hnt:args.length+(fn.ntmps-args.length)=nt)
  (h:Wp P w fp nt ⟨[],dC.map λk=>(k,E k)⟩ c (Fin P rs (λ_ _ x h' => I1 dC val L' x h') (λ_ _=>False)) ⟨1,cL (jC args 0),cf L⟩) :
  Calls P f (ah E args).toArray w λe w' => ∃ E' F',e=.returned (den E' val)/\(∀ k∈dC,E' k=E k)/\ab w fp E' F' (cf L') w' := by
 subst hrs;have hsz:(ah E args).toArray.size=args.length:=by simp[az]
 have hsat:Sat w fp nt ⟨[],dC.map λk=>(k,E k)⟩ ⟨1,cL (jC args 0),cf L⟩ { tmps:=(ah E args).toArray++Array.replicate (fn.ntmps-(ah E args).toArray.size) undef,defers:=[] } w:=by
  refine⟨⟨E,F,λt=>?_,hs,λp hp=>?_⟩,by simp[az];omega,rfl,λp hp=>?_,λt k hk=>?_,λk e he=>?_⟩
  ·refine zX E args 0 t (λt=>((ah E args).toArray++Array.replicate (fn.ntmps-(ah E args).toArray.size) undef).getD t undef) λj hj=>?_
   rw[Nat.zero_add,Array.getD_eq_getD_getElem?,Array.getElem?_append_left (by simpa using hj)];simp[List.getElem?_eq_getElem hj]
  ·obtain⟨k,_,rfl⟩:=List.mem_map.1 hp;rfl
  ·obtain⟨k,hk,rfl⟩:=List.mem_map.1 hp;have:=hkp k hk;show k / 8<1;omega
  ·rcases gN (L:=jC args 0) t with g|⟨p,hp,_,g⟩
   ·simp only[g]at hk;cases hk
   ·simp only[g]at hk;exact hkb.1 p hp k hk
  ·exact hkb.2 _ (bK he)
 refine (mn hf hb hsat h).mono λe w' he=>?_
 cases e with
 |returned v=>
  obtain⟨W',bs',E1,F1,x,h',hx,⟨m,rfl,hle,hn,hm⟩,rfl,hs1,hp⟩:=he;refine⟨lf E1 m,j1 F1 m,by rw[ke],λk hk=>?_,CT m (hs1.back hx) hle hn⟩;simp only[lf,hm k hk];exact hp (k,E k) (List.mem_map.2 ⟨k,hk,rfl⟩)
 |panicked c=>obtain⟨_,_,_,_,_,_,hf,_⟩:=he;exact hf.elim
 |outgrown=>exact he.elim
end
end Go.LE
namespace Go.Proofs.YtnemkecffmdlnaaGreatDoor
section
open Go.RowKit Go.LE
def mM:=(ak (oR (aa @if_true.{1} @if_false.{1}) (aa @List.toList_toArray.{0} @Option.isNone_none.{0}) (aa @Option.isNone_some.{0} @Option.isSome_none.{0}) (aa @Option.isSome_some.{0} @and_true) (aa @true_and @and_self) (aa @true_imp_iff @forall_const.{1})) (oR (aa @forall_const.{0} @List.append_nil.{0}) (aa @List.nil_append.{0} @List.cons_append.{0}) (aa @cond_true.{1} @cond_false.{1}) (aa @List.map_cons.{0,0} @List.map_nil.{0,0}) (aa @Bool.true_and @Bool.and_true) (aa @beq_false @beq_true)) (oR (aa @imp_self @implies_true.{1}) (aa @implies_true.{0} @Bool.cond_self.{1}) (aa @Option.bind_some.{0,0} @List.getElem?_toArray.{0}) (aa @List.getElem?_cons_zero.{0} @List.getElem?_cons_succ.{0}) (aa @List.length_cons.{0} @List.length_nil.{0}) (aa @List.getD_cons_zero.{0} @List.getD_cons_succ.{0})) (oR (aa @List.take_succ_cons.{0} @List.take_zero.{0}) (aa @List.drop_succ_cons.{0} @List.drop_zero.{0}) (aa @List.zip_cons_cons.{0,0} @List.zip_nil_right.{0,0}) (aa @Option.getD_some.{0} @List.all_cons.{0}) (aa @List.all_nil.{0} @Bool.cond_true_left) (aa @Bool.cond_false_right @Bool.cond_true_right)) (oR (aa @Bool.cond_false_left ev1) (aa ev2 ev3) (aa ev4 ev5) (aa ev6 ev7) (aa ev8 ev9) (aa @Option.map_some.{0,0} @List.not_mem_nil.{0})) (oR (aa @Int.toNat_natCast @Option.toArray_none.{0}) (aa @Option.toArray_some.{0} @List.append_toArray.{0}) (aa @Nat.add_zero @Nat.zero_add) (aa @decide_true @decide_false) (aa @Bool.not_true @Bool.not_false) (aa @List.flatten_cons.{0} @List.flatten_nil.{0})) (oR (aa @List.isEmpty_nil.{0} @ne_eq.{1}) (aa @not_true_eq_false @not_false_eq_true) (aa @Nat.mul_one @Nat.one_mul) (aa @Nat.zero_mul @Nat.sub_zero) (aa @ze @Array.getD_eq_getD_getElem?.{0}) (aa @List.size_toArray.{0} @acG)) (ak @aeC aeY aeH @Option.map_none.{0,0} aeQ ae1 afd ae0))
theorem ev{e p:Prop}(he:e)(h:e->p:=by intro he;simp only[mM,Op.operands,Value.cells,σ0,σB,Nat.reduceEqDiff,Nat.reduceAdd,Nat.reduceMul,Nat.reduceLT,Nat.reduceLeDiff,Nat.reduceBEq,ax,Int.reduceToNat,Int.reduceLT,Int.reduceLE,Nat.reduceDiv,Nat.reduceMod,Nat.reduceSub,Int.reducePow,Nat.reducePow,σP,σB3,he];exact rfl):p:=h he
section
variable {W:World}{bs:List Nat}{nt:Nat}{ds:Aux}{Q:jZ}{σ:St}{e q:Prop}{id:Nat}{ops:Array Oper}{y:Code}{side:Prop}{n:Nat}{φ:Fr}{h:Hp}{pans:List (Option (List PanicEntry))}{lost:List Nat}{fx:List (List Nat×List Nat)}
theorem wR(Γ:Env Tryz.prog)(he:e)(hs:side)(hQ:Wp Tryz.prog W bs nt ds y Q ⟨n,φ,h⟩)(hg:e->l8 Γ W bs nt ops ops.toList σ.n σ.φ σ.h=⟨side,n,φ,h,pans,lost,fx⟩:=by intro he;simp only[mM,Op.operands,Value.cells,σ0,σB,Nat.reduceEqDiff,Nat.reduceAdd,Nat.reduceMul,Nat.reduceLT,Nat.reduceLeDiff,Nat.reduceBEq,ax,Int.reduceToNat,Int.reduceLT,Int.reduceLE,Nat.reduceDiv,Nat.reduceMod,Nat.reduceSub,Int.reducePow,Nat.reducePow,σP,σB3,he];exact rfl)(hp:pans.all Option.isNone=true:=by rfl):Wp Tryz.prog W bs nt ds (.seq (.region id ops false) y) Q σ:=Wp.Uf Γ cr (hg he) hp hs hQ
theorem vR(Γ:Env Tryz.prog)(he:e)(hQ:Wp Tryz.prog W bs nt ds y Q ⟨n,φ,h⟩)(hg:e->l8 Γ W bs nt ops ops.toList σ.n σ.φ σ.h=⟨side,n,φ,h,pans,lost,fx⟩:=by intro he;simp only[mM,Op.operands,Value.cells,σ0,σB,Nat.reduceEqDiff,Nat.reduceAdd,Nat.reduceMul,Nat.reduceLT,Nat.reduceLeDiff,Nat.reduceBEq,ax,Int.reduceToNat,Int.reduceLT,Int.reduceLE,Nat.reduceDiv,Nat.reduceMod,Nat.reduceSub,Int.reducePow,Nat.reducePow,σP,σB3,he];exact rfl)(hp:pans.all Option.isNone=true:=by rfl)(hs:side:=by first|trivial|omega|exact⟨_,rfl⟩|(simp;done)|(unfold maxLen;omega)|(simp<;>omega)|(simp<;>unfold maxLen<;>omega)):Wp Tryz.prog W bs nt ds (.seq (.region id ops false) y) Q σ:=Wp.Uf Γ cr (hg he) hp hs hQ
theorem wr(Γ:Env Tryz.prog)(he:e)(hs:side)(hQ:q)(hg:e->l8 Γ W bs nt ops ops.toList σ.n σ.φ σ.h=⟨side,n,φ,h,pans,lost,fx⟩:=by intro he;simp only[mM,Op.operands,Value.cells,σ0,σB,Nat.reduceEqDiff,Nat.reduceAdd,Nat.reduceMul,Nat.reduceLT,Nat.reduceLeDiff,Nat.reduceBEq,ax,Int.reduceToNat,Int.reduceLT,Int.reduceLE,Nat.reduceDiv,Nat.reduceMod,Nat.reduceSub,Int.reducePow,Nat.reducePow,σP,σB3,he];exact rfl)(hp:pans.all Option.isNone=true:=by rfl)(t:q->Q .normal W bs ⟨n,φ,h⟩:=by intro hq;(with_reducible repeat (first|refine eV ?_|refine eU ?_|refine iX ?_|refine jb ?_|refine dA (by decide) ?_|refine lx ?_|refine lj ?_|refine gC ?_|refine gk ?_));exact hq):Wp Tryz.prog W bs nt ds (.region id ops false) Q σ:=Wp.Cm Γ cr (hg he) hp hs (t hQ)
theorem vr(Γ:Env Tryz.prog)(he:e)(hQ:q)(hg:e->l8 Γ W bs nt ops ops.toList σ.n σ.φ σ.h=⟨side,n,φ,h,pans,lost,fx⟩:=by intro he;simp only[mM,Op.operands,Value.cells,σ0,σB,Nat.reduceEqDiff,Nat.reduceAdd,Nat.reduceMul,Nat.reduceLT,Nat.reduceLeDiff,Nat.reduceBEq,ax,Int.reduceToNat,Int.reduceLT,Int.reduceLE,Nat.reduceDiv,Nat.reduceMod,Nat.reduceSub,Int.reducePow,Nat.reducePow,σP,σB3,he];exact rfl)(hp:pans.all Option.isNone=true:=by rfl)(hs:side:=by first|trivial|omega|exact⟨_,rfl⟩|(simp;done)|(unfold maxLen;omega)|(simp<;>omega)|(simp<;>unfold maxLen<;>omega))(t:q->Q .normal W bs ⟨n,φ,h⟩:=by intro hq;(with_reducible repeat (first|refine eV ?_|refine eU ?_|refine iX ?_|refine jb ?_|refine dA (by decide) ?_|refine lx ?_|refine lj ?_|refine gC ?_|refine gk ?_));exact hq):Wp Tryz.prog W bs nt ds (.region id ops false) Q σ:=Wp.Cm Γ cr (hg he) hp hs (t hQ)
theorem A0(Γ:Env Tryz.prog)(he:e)(hs:side)(hQ:Wp Tryz.prog W bs nt ds y Q ⟨n,φ,h⟩)(hg:e->l8 Γ W bs nt ops ops.toList σ.n σ.φ σ.h=⟨side,n,φ,h,pans,lost,fx⟩:=by intro he;simp only[mM,Op.operands,Value.cells,σ0,σB,Nat.reduceEqDiff,Nat.reduceAdd,Nat.reduceMul,Nat.reduceLT,Nat.reduceLeDiff,Nat.reduceBEq,ax,Int.reduceToNat,Int.reduceLT,Int.reduceLE,Nat.reduceDiv,Nat.reduceMod,Nat.reduceSub,Int.reducePow,Nat.reducePow,σP,σB3,he];exact rfl)(hp:pans.all Option.isNone=true:=by rfl)(hd:(lO ops&&lU ops fx)=true:=by kernel_rfl):Wp Tryz.prog W bs nt ds (.seq (.region id ops true) y) Q σ:=Wp.ZL Γ cr (hg he) hp hd hs hQ
theorem JM(Γ:Env Tryz.prog)(he:e)(hQ:Wp Tryz.prog W bs nt ds y Q ⟨n,φ,h⟩)(hg:e->l8 Γ W bs nt ops ops.toList σ.n σ.φ σ.h=⟨side,n,φ,h,pans,lost,fx⟩:=by intro he;simp only[mM,Op.operands,Value.cells,σ0,σB,Nat.reduceEqDiff,Nat.reduceAdd,Nat.reduceMul,Nat.reduceLT,Nat.reduceLeDiff,Nat.reduceBEq,ax,Int.reduceToNat,Int.reduceLT,Int.reduceLE,Nat.reduceDiv,Nat.reduceMod,Nat.reduceSub,Int.reducePow,Nat.reducePow,σP,σB3,he];exact rfl)(hp:pans.all Option.isNone=true:=by rfl)(hd:(lO ops&&lU ops fx)=true:=by kernel_rfl)(hs:side:=by first|trivial|omega|exact⟨_,rfl⟩|(simp;done)|(unfold maxLen;omega)|(simp<;>omega)|(simp<;>unfold maxLen<;>omega)):Wp Tryz.prog W bs nt ds (.seq (.region id ops true) y) Q σ:=Wp.ZL Γ cr (hg he) hp hd hs hQ
theorem Ft(Γ:Env Tryz.prog)(he:e)(hs:side)(hQ:q)(hg:e->l8 Γ W bs nt ops ops.toList σ.n σ.φ σ.h=⟨side,n,φ,h,pans,lost,fx⟩:=by intro he;simp only[mM,Op.operands,Value.cells,σ0,σB,Nat.reduceEqDiff,Nat.reduceAdd,Nat.reduceMul,Nat.reduceLT,Nat.reduceLeDiff,Nat.reduceBEq,ax,Int.reduceToNat,Int.reduceLT,Int.reduceLE,Nat.reduceDiv,Nat.reduceMod,Nat.reduceSub,Int.reducePow,Nat.reducePow,σP,σB3,he];exact rfl)(hp:pans.all Option.isNone=true:=by rfl)(hd:(lO ops&&lU ops fx)=true:=by kernel_rfl)(t:q->Q .normal W bs ⟨n,φ,h⟩:=by intro hq;(with_reducible repeat (first|refine eV ?_|refine eU ?_|refine iX ?_|refine jb ?_|refine dA (by decide) ?_|refine lx ?_|refine lj ?_|refine gC ?_|refine gk ?_));exact hq):Wp Tryz.prog W bs nt ds (.region id ops true) Q σ:=Wp.UX Γ cr (hg he) hp hd hs (t hQ)
theorem vrD(Γ:Env Tryz.prog)(he:e)(hQ:q)(hg:e->l8 Γ W bs nt ops ops.toList σ.n σ.φ σ.h=⟨side,n,φ,h,pans,lost,fx⟩:=by intro he;simp only[mM,Op.operands,Value.cells,σ0,σB,Nat.reduceEqDiff,Nat.reduceAdd,Nat.reduceMul,Nat.reduceLT,Nat.reduceLeDiff,Nat.reduceBEq,ax,Int.reduceToNat,Int.reduceLT,Int.reduceLE,Nat.reduceDiv,Nat.reduceMod,Nat.reduceSub,Int.reducePow,Nat.reducePow,σP,σB3,he];exact rfl)(hp:pans.all Option.isNone=true:=by rfl)(hd:(lO ops&&lU ops fx)=true:=by kernel_rfl)(hs:side:=by first|trivial|omega|exact⟨_,rfl⟩|(simp;done)|(unfold maxLen;omega)|(simp<;>omega)|(simp<;>unfold maxLen<;>omega))(t:q->Q .normal W bs ⟨n,φ,h⟩:=by intro hq;(with_reducible repeat (first|refine eV ?_|refine eU ?_|refine iX ?_|refine jb ?_|refine dA (by decide) ?_|refine lx ?_|refine lj ?_|refine gC ?_|refine gk ?_));exact hq):Wp Tryz.prog W bs nt ds (.region id ops true) Q σ:=Wp.UX Γ cr (hg he) hp hd hs (t hQ)
theorem wK(hQ:q)(t:q->Q .normal W bs σ:=by intro hq;(with_reducible repeat (first|refine eV ?_|refine eU ?_|refine iX ?_|refine jb ?_|refine dA (by decide) ?_|refine lx ?_|refine lj ?_|refine gC ?_|refine gk ?_));exact hq):Wp Tryz.prog W bs nt ds .skip Q σ:=Wp.skip (t hQ)
theorem wE{i:Nat}(hQ:q)(t:q->Q (.exit i) W bs σ:=by intro hq;(with_reducible repeat (first|refine eV ?_|refine eU ?_|refine iX ?_|refine jb ?_|refine dA (by decide) ?_|refine lx ?_|refine lj ?_|refine gC ?_|refine gk ?_));exact hq):Wp Tryz.prog W bs nt ds (.exit i) Q σ:=Wp.exit (t hQ)
theorem wT(hQ:q)(t:q->Q .ret W bs σ:=by intro hq;(with_reducible repeat (first|refine eV ?_|refine eU ?_|refine iX ?_|refine jb ?_|refine dA (by decide) ?_|refine lx ?_|refine lj ?_|refine gC ?_|refine gk ?_));exact hq):Wp Tryz.prog W bs nt ds .ret Q σ:=Wp.ret (t hQ)
theorem wZ(he:e)(hQ:q)(t:e->q->Q .ret W bs σ:=by intro he;intro hq;(with_reducible repeat (first|refine eV ?_|refine eU ?_|refine iX ?_|refine jb ?_|refine dA (by decide) ?_|refine lx ?_|refine lj ?_|refine gC ?_|refine gk ?_));simp only[mM,Op.operands,Value.cells,σ0,σB,Nat.reduceEqDiff,Nat.reduceAdd,Nat.reduceMul,Nat.reduceLT,Nat.reduceLeDiff,Nat.reduceBEq,ax,Int.reduceToNat,Int.reduceLT,Int.reduceLE,Nat.reduceDiv,Nat.reduceMod,Nat.reduceSub,Int.reducePow,Nat.reducePow,σP,σB3,nO,gW,kF,jr,he];exact hq):Wp Tryz.prog W bs nt ds .ret Q σ:=Wp.ret (t he hQ)
end
theorem wC{W:World}{bs:List Nat}{nt:Nat}{ds:Aux}{Q:jZ}{σ:St}{e:Prop}{c:Operand}{x y:Code}{b:Bool}{p:Prop}(he:e)(ht:b=true->Wp Tryz.prog W bs nt ds x Q σ)(hf:b=false->Wp Tryz.prog W bs nt ds y Q σ)(hc:e->lb σ.φ true c=(p,.v (.bool b)):=by intro he;simp only[mM,Op.operands,Value.cells,σ0,σB,Nat.reduceEqDiff,Nat.reduceAdd,Nat.reduceMul,Nat.reduceLT,Nat.reduceLeDiff,Nat.reduceBEq,ax,Int.reduceToNat,Int.reduceLT,Int.reduceLE,Nat.reduceDiv,Nat.reduceMod,Nat.reduceSub,Int.reducePow,Nat.reducePow,σP,σB3,he];exact rfl)(hp:p:=by trivial):Wp Tryz.prog W bs nt ds (.cond c x y) Q σ:=Wp.cond (hc he) hp ht hf
theorem wM{W:World}{bs:List Nat}{nt:Nat}{ds:Aux}{σ:St}{e:Prop}(m:Nat->Go.LE.Src)(he:e){n' : Nat}{L:List (Nat×FV)}{H:List (Nat×aI)}(hk:oz n' L H:=by exact⟨by simp[FV.keys,SV.keys,al],by simp[aI.keys,al,SV.keys,aA,aJ]⟩)(hf:e->Hv m σ.φ L:=by intro he;simp only[mM,Op.operands,Value.cells,σ0,σB,Nat.reduceEqDiff,Nat.reduceAdd,Nat.reduceMul,Nat.reduceLT,Nat.reduceLeDiff,Nat.reduceBEq,ax,Int.reduceToNat,Int.reduceLT,Int.reduceLE,Nat.reduceDiv,Nat.reduceMod,Nat.reduceSub,Int.reducePow,Nat.reducePow,σP,σB3,Hv,G1,fg,fc,he]<;>trivial)(hh:e->td m σ.h H:=by intro he;simp only[mM,Op.operands,Value.cells,σ0,σB,Nat.reduceEqDiff,Nat.reduceAdd,Nat.reduceMul,Nat.reduceLT,Nat.reduceLeDiff,Nat.reduceBEq,ax,Int.reduceToNat,Int.reduceLT,Int.reduceLE,Nat.reduceDiv,Nat.reduceMod,Nat.reduceSub,Int.reducePow,Nat.reducePow,σP,σB3,td,lN,fP,fV,fz,fg,he]<;>trivial)(hn:(dc m H).Nodup:=by simp[dc])(hpn:∀ p∈ds.pins,m p.1=.key p.1/\p.1 / 8<n' := by simp):Le W bs nt ds σ ⟨n',cL L,cf H⟩:=Le.mk m hk (hf he) (hh he) hn hpn
theorem wN{e:Prop}{dC:List Nat}{val x:SV}{L' : List (Nat×aI)}{h:Hp}(m:Nat->Go.LE.Src)(he:e)(hv:e->x=fg m val:=by intro he;first|rfl|simp only[mM,Op.operands,Value.cells,σ0,σB,Nat.reduceEqDiff,Nat.reduceAdd,Nat.reduceMul,Nat.reduceLT,Nat.reduceLeDiff,Nat.reduceBEq,ax,Int.reduceToNat,Int.reduceLT,Int.reduceLE,Nat.reduceDiv,Nat.reduceMod,Nat.reduceSub,Int.reducePow,Nat.reducePow,σP,σB3,fg,fz,he])(hh:e->td m h L' := by intro he;simp only[mM,Op.operands,Value.cells,σ0,σB,Nat.reduceEqDiff,Nat.reduceAdd,Nat.reduceMul,Nat.reduceLT,Nat.reduceLeDiff,Nat.reduceBEq,ax,Int.reduceToNat,Int.reduceLT,Int.reduceLE,Nat.reduceDiv,Nat.reduceMod,Nat.reduceSub,Int.reducePow,Nat.reducePow,σP,σB3,td,lN,fP,fV,fz,fg,he]<;>trivial)(hn:(dc m L').Nodup:=by simp[dc])(hk:∀ k∈dC,m k=.key k:=by simp):I1 dC val L' x h:=⟨m,hv he,hh he,hn,hk⟩
theorem wS{e p q:Prop}(he:e)(h:q)(t:e->q->p:=by intro he hq;simp only[mM,Op.operands,Value.cells,σ0,σB,Nat.reduceEqDiff,Nat.reduceAdd,Nat.reduceMul,Nat.reduceLT,Nat.reduceLeDiff,Nat.reduceBEq,ax,Int.reduceToNat,Int.reduceLT,Int.reduceLE,Nat.reduceDiv,Nat.reduceMod,Nat.reduceSub,Int.reducePow,Nat.reducePow,σP,σB3,nO,gW,kF,jr,he];exact hq):p:=t he h
theorem qq{p q:Prop}(h:q)(t:q->p:=by intro hq;(with_reducible repeat (first|refine eV ?_|refine eU ?_|refine iX ?_|refine jb ?_|refine dA (by decide) ?_|refine lx ?_|refine lj ?_|refine gC ?_|refine gk ?_));exact hq):p:=t h
theorem oo{p:Prop}(h:p:=by first|trivial|omega|exact⟨_,rfl⟩|(simp;done)|(unfold maxLen;omega)|(simp<;>omega)|(simp<;>unfold maxLen<;>omega)):p:=h
theorem wW{x y:Int}(h0:-9223372036854775808<=x:=by omega)(h1:x<=9223372036854775807:=by omega)(h:x=y:=by omega):IntKind.i64.wrap x=y:=(aH h0 h1).trans h
end
end Go.Proofs.YtnemkecffmdlnaaGreatDoor
namespace Go.Proofs
section
open Go.Shelf
def Tryz.CW:Go.Shelf.Ren:=⟨λ| 103=>80|210=>139|206=>190|n=>n,λ| 9=>9|4=>4|24=>103|3=>3|n=>n,λ| n=>n⟩
theorem Tryz.YR:Go.Proofs.Lays.n103 Tryz.prog Tryz.CW:={
 mixed:=by kernel_rfl
 f103:=Tryz.func80.trans (congrArg some (by kernel_rfl))
 f206:=Tryz.func190.trans (congrArg some (by kernel_rfl))
 f210:=Tryz.func139.trans (congrArg some (by kernel_rfl))
 t3:=Tryz.underlying3
 a3:=Tryz.isAgg3
 z3:=Tryz.sizeOf3
 v3:=Tryz.zeroValue3
 t4:=Tryz.underlying4
 a4:=Tryz.isAgg4
 z4:=Tryz.sizeOf4
 v4:=Tryz.zeroValue4
 t9:=Tryz.underlying9
 a9:=Tryz.isAgg9
 z9:=Tryz.sizeOf9
 v9:=Tryz.zeroValue9
 t24:=Tryz.underlying103
 a24:=Tryz.isAgg103
 z24:=Tryz.sizeOf103
 v24:=Tryz.zeroValue103 }
def Tryz.C7:Go.Shelf.Ren:=⟨λ| 104=>81|211=>140|207=>191|n=>n,λ| 9=>9|4=>4|24=>103|3=>3|n=>n,λ| n=>n⟩
theorem Tryz.Yo:Go.Proofs.Lays.n104 Tryz.prog Tryz.C7:={
 mixed:=by kernel_rfl
 f104:=Tryz.func81.trans (congrArg some (by kernel_rfl))
 f207:=Tryz.func191.trans (congrArg some (by kernel_rfl))
 f211:=Tryz.func140.trans (congrArg some (by kernel_rfl))
 t3:=Tryz.underlying3
 a3:=Tryz.isAgg3
 z3:=Tryz.sizeOf3
 v3:=Tryz.zeroValue3
 t4:=Tryz.underlying4
 a4:=Tryz.isAgg4
 z4:=Tryz.sizeOf4
 v4:=Tryz.zeroValue4
 t9:=Tryz.underlying9
 a9:=Tryz.isAgg9
 z9:=Tryz.sizeOf9
 v9:=Tryz.zeroValue9
 t24:=Tryz.underlying103
 a24:=Tryz.isAgg103
 z24:=Tryz.sizeOf103
 v24:=Tryz.zeroValue103 }
def Tryz.DD:Go.Shelf.Ren:=⟨λ| 143=>85|219=>144|217=>189|225=>197|224=>198|267=>199|266=>231|314=>242|n=>n,λ| 9=>9|3=>3|4=>4|5=>5|46=>158|146=>348|51=>335|n=>n,λ| 1=>1|n=>n⟩
theorem Tryz.YE:Go.Proofs.Lays.n143 Tryz.prog Tryz.DD:={
 mixed:=by kernel_rfl
 f143:=Tryz.func85.trans (congrArg some (by kernel_rfl))
 f217:=Tryz.func189.trans (congrArg some (by kernel_rfl))
 f219:=Tryz.func144.trans (congrArg some (by kernel_rfl))
 f224:=Tryz.func198.trans (congrArg some (by kernel_rfl))
 f225:=Tryz.func197.trans (congrArg some (by kernel_rfl))
 f266:=Tryz.func231.trans (congrArg some (by kernel_rfl))
 f267:=Tryz.func199.trans (congrArg some (by kernel_rfl))
 f314:=Tryz.func242.trans (congrArg some (by kernel_rfl))
 t3:=Tryz.underlying3
 a3:=Tryz.isAgg3
 z3:=Tryz.sizeOf3
 v3:=Tryz.zeroValue3
 t4:=Tryz.underlying4
 a4:=Tryz.isAgg4
 z4:=Tryz.sizeOf4
 v4:=Tryz.zeroValue4
 t5:=Tryz.underlying5
 a5:=Tryz.isAgg5
 z5:=Tryz.sizeOf5
 v5:=Tryz.zeroValue5
 t9:=Tryz.underlying9
 a9:=Tryz.isAgg9
 z9:=Tryz.sizeOf9
 v9:=Tryz.zeroValue9
 t46:=Tryz.underlying158
 a46:=Tryz.isAgg158
 z46:=Tryz.sizeOf158
 v46:=Tryz.zeroValue158
 t51:=Tryz.underlying335
 a51:=Tryz.isAgg335
 z51:=Tryz.sizeOf335
 v51:=Tryz.zeroValue335
 t146:=Tryz.underlying348
 a146:=Tryz.isAgg348
 z146:=Tryz.sizeOf348
 v146:=Tryz.zeroValue348
 g1:=by kernel_rfl }
def Tryz.Ea:Go.Shelf.Ren:=⟨λ| 146=>83|221=>142|268=>194|138=>195|143=>85|195=>238|197=>239|218=>240|219=>144|260=>258|217=>189|225=>197|224=>198|267=>199|266=>231|314=>242|n=>n,λ| 9=>9|31=>22|3=>3|4=>4|0=>0|105=>344|21=>21|5=>5|46=>158|119=>368|139=>371|138=>370|146=>348|51=>335|n=>n,λ| 1=>1|3=>9|4=>10|n=>n⟩
theorem Tryz.JH:Go.Proofs.Lays.n146 Tryz.prog Tryz.Ea:={
 mixed:=by kernel_rfl
 f138:=Tryz.func195.trans (congrArg some (by kernel_rfl))
 f143:=Tryz.func85.trans (congrArg some (by kernel_rfl))
 f146:=Tryz.func83.trans (congrArg some (by kernel_rfl))
 f195:=Tryz.func238.trans (congrArg some (by kernel_rfl))
 f197:=Tryz.func239.trans (congrArg some (by kernel_rfl))
 f217:=Tryz.func189.trans (congrArg some (by kernel_rfl))
 f218:=Tryz.func240.trans (congrArg some (by kernel_rfl))
 f219:=Tryz.func144.trans (congrArg some (by kernel_rfl))
 f221:=Tryz.func142.trans (congrArg some (by kernel_rfl))
 f224:=Tryz.func198.trans (congrArg some (by kernel_rfl))
 f225:=Tryz.func197.trans (congrArg some (by kernel_rfl))
 f260:=Tryz.func258.trans (congrArg some (by kernel_rfl))
 f266:=Tryz.func231.trans (congrArg some (by kernel_rfl))
 f267:=Tryz.func199.trans (congrArg some (by kernel_rfl))
 f268:=Tryz.func194.trans (congrArg some (by kernel_rfl))
 f314:=Tryz.func242.trans (congrArg some (by kernel_rfl))
 t0:=Tryz.underlying0
 a0:=Tryz.isAgg0
 z0:=Tryz.sizeOf0
 v0:=Tryz.zeroValue0
 t3:=Tryz.underlying3
 a3:=Tryz.isAgg3
 z3:=Tryz.sizeOf3
 v3:=Tryz.zeroValue3
 t4:=Tryz.underlying4
 a4:=Tryz.isAgg4
 z4:=Tryz.sizeOf4
 v4:=Tryz.zeroValue4
 t5:=Tryz.underlying5
 a5:=Tryz.isAgg5
 z5:=Tryz.sizeOf5
 v5:=Tryz.zeroValue5
 t9:=Tryz.underlying9
 a9:=Tryz.isAgg9
 z9:=Tryz.sizeOf9
 v9:=Tryz.zeroValue9
 t21:=Tryz.underlying21
 a21:=Tryz.isAgg21
 z21:=Tryz.sizeOf21
 v21:=Tryz.zeroValue21
 t31:=Tryz.underlying22
 a31:=Tryz.isAgg22
 z31:=Tryz.sizeOf22
 v31:=Tryz.zeroValue22
 t46:=Tryz.underlying158
 a46:=Tryz.isAgg158
 z46:=Tryz.sizeOf158
 v46:=Tryz.zeroValue158
 t51:=Tryz.underlying335
 a51:=Tryz.isAgg335
 z51:=Tryz.sizeOf335
 v51:=Tryz.zeroValue335
 t105:=Tryz.underlying344
 a105:=Tryz.isAgg344
 z105:=Tryz.sizeOf344
 v105:=Tryz.zeroValue344
 t119:=Tryz.underlying368
 a119:=Tryz.isAgg368
 z119:=Tryz.sizeOf368
 t138:=Tryz.underlying370
 a138:=Tryz.isAgg370
 z138:=Tryz.sizeOf370
 v138:=Tryz.zeroValue370
 t139:=Tryz.underlying371
 a139:=Tryz.isAgg371
 z139:=Tryz.sizeOf371
 v139:=Tryz.zeroValue371
 t146:=Tryz.underlying348
 a146:=Tryz.isAgg348
 z146:=Tryz.sizeOf348
 v146:=Tryz.zeroValue348
 g1:=by kernel_rfl
 g3:=by kernel_rfl
 g4:=by kernel_rfl }
def Tryz.BB:Go.Shelf.Ren:=⟨λ| 172=>143|244=>196|245=>193|247=>241|279=>234|280=>235|281=>236|282=>237|287=>192|316=>256|171=>39|205=>257|321=>232|322=>233|243=>76|246=>131|283=>183|284=>184|285=>185|286=>186|129=>227|317=>226|318=>228|319=>229|320=>230|337=>254|338=>255|n=>n,λ| 9=>9|3=>3|75=>93|76=>94|4=>4|5=>5|167=>339|37=>89|0=>0|85=>346|2=>2|168=>341|53=>203|175=>264|46=>158|210=>359|127=>162|145=>367|143=>365|21=>21|171=>313|173=>316|212=>334|51=>335|20=>20|213=>336|232=>363|233=>364|80=>100|n=>n,λ| 15=>5|16=>6|17=>3|18=>7|19=>8|n=>n⟩
theorem Tryz.xH:Go.Proofs.LaysC.n172 Tryz.prog Tryz.BB:={
 mixed:=by kernel_rfl
 f129:=Tryz.func227.trans (congrArg some (by kernel_rfl))
 f171:=Tryz.func39.trans (congrArg some (by kernel_rfl))
 f172:=Tryz.func143.trans (congrArg some (by kernel_rfl))
 f205:=Tryz.func257.trans (congrArg some (by kernel_rfl))
 f243:=Tryz.func76.trans (congrArg some (by kernel_rfl))
 f244:=Tryz.func196.trans (congrArg some (by kernel_rfl))
 f245:=Tryz.func193.trans (congrArg some (by kernel_rfl))
 f246:=Tryz.func131.trans (congrArg some (by kernel_rfl))
 f247:=Tryz.func241.trans (congrArg some (by kernel_rfl))
 f279:=Tryz.func234.trans (congrArg some (by kernel_rfl))
 f280:=Tryz.func235.trans (congrArg some (by kernel_rfl))
 f281:=Tryz.func236.trans (congrArg some (by kernel_rfl))
 f282:=Tryz.func237.trans (congrArg some (by kernel_rfl))
 f283:=Tryz.func183.trans (congrArg some (by kernel_rfl))
 f284:=Tryz.func184.trans (congrArg some (by kernel_rfl))
 f285:=Tryz.func185.trans (congrArg some (by kernel_rfl))
 f286:=Tryz.func186.trans (congrArg some (by kernel_rfl))
 f287:=Tryz.func192.trans (congrArg some (by kernel_rfl))
 f316:=Tryz.func256.trans (congrArg some (by kernel_rfl))
 f317:=Tryz.func226.trans (congrArg some (by kernel_rfl))
 f318:=Tryz.func228.trans (congrArg some (by kernel_rfl))
 f319:=Tryz.func229.trans (congrArg some (by kernel_rfl))
 f320:=Tryz.func230.trans (congrArg some (by kernel_rfl))
 f321:=Tryz.func232.trans (congrArg some (by kernel_rfl))
 f322:=Tryz.func233.trans (congrArg some (by kernel_rfl))
 f337:=Tryz.func254.trans (congrArg some (by kernel_rfl))
 f338:=Tryz.func255.trans (congrArg some (by kernel_rfl))
 t0:=Tryz.underlying0
 a0:=Tryz.isAgg0
 z0:=Tryz.sizeOf0
 v0:=Tryz.zeroValue0
 t2:=Tryz.underlying2
 a2:=Tryz.isAgg2
 z2:=Tryz.sizeOf2
 v2:=Tryz.zeroValue2
 t3:=Tryz.underlying3
 a3:=Tryz.isAgg3
 z3:=Tryz.sizeOf3
 v3:=Tryz.zeroValue3
 t4:=Tryz.underlying4
 a4:=Tryz.isAgg4
 z4:=Tryz.sizeOf4
 v4:=Tryz.zeroValue4
 t5:=Tryz.underlying5
 a5:=Tryz.isAgg5
 z5:=Tryz.sizeOf5
 v5:=Tryz.zeroValue5
 t9:=Tryz.underlying9
 a9:=Tryz.isAgg9
 z9:=Tryz.sizeOf9
 v9:=Tryz.zeroValue9
 t20:=Tryz.underlying20
 a20:=Tryz.isAgg20
 z20:=Tryz.sizeOf20
 v20:=Tryz.zeroValue20
 t21:=Tryz.underlying21
 a21:=Tryz.isAgg21
 z21:=Tryz.sizeOf21
 v21:=Tryz.zeroValue21
 t37:=Tryz.underlying89
 a37:=Tryz.isAgg89
 z37:=Tryz.sizeOf89
 v37:=Tryz.zeroValue89
 t46:=Tryz.underlying158
 a46:=Tryz.isAgg158
 z46:=Tryz.sizeOf158
 v46:=Tryz.zeroValue158
 t51:=Tryz.underlying335
 a51:=Tryz.isAgg335
 z51:=Tryz.sizeOf335
 v51:=Tryz.zeroValue335
 t53:=Tryz.underlying203
 a53:=Tryz.isAgg203
 z53:=Tryz.sizeOf203
 v53:=Tryz.zeroValue203
 t75:=Tryz.underlying93
 a75:=Tryz.isAgg93
 z75:=Tryz.sizeOf93
 v75:=Tryz.zeroValue93
 t76:=Tryz.underlying94
 a76:=Tryz.isAgg94
 z76:=Tryz.sizeOf94
 v76:=Tryz.zeroValue94
 t85:=Tryz.underlying346
 a85:=Tryz.isAgg346
 z85:=Tryz.sizeOf346
 v85:=Tryz.zeroValue346
 t127:=Tryz.underlying162
 a127:=Tryz.isAgg162
 z127:=Tryz.sizeOf162
 v127:=Tryz.zeroValue162
 t143:=Tryz.underlying365
 a143:=Tryz.isAgg365
 z143:=Tryz.sizeOf365
 v143:=Tryz.zeroValue365
 t145:=Tryz.underlying367
 a145:=Tryz.isAgg367
 z145:=Tryz.sizeOf367
 v145:=Tryz.zeroValue367
 t167:=Tryz.underlying339
 a167:=Tryz.isAgg339
 z167:=Tryz.sizeOf339
 v167:=Tryz.zeroValue339
 t168:=Tryz.underlying341
 a168:=Tryz.isAgg341
 z168:=Tryz.sizeOf341
 v168:=Tryz.zeroValue341
 t171:=Tryz.underlying313
 a171:=Tryz.isAgg313
 z171:=Tryz.sizeOf313
 v171:=Tryz.zeroValue313
 t173:=Tryz.underlying316
 a173:=Tryz.isAgg316
 z173:=Tryz.sizeOf316
 v173:=Tryz.zeroValue316
 t175:=Tryz.underlying264
 a175:=Tryz.isAgg264
 z175:=Tryz.sizeOf264
 v175:=Tryz.zeroValue264
 t210:=Tryz.underlying359
 a210:=Tryz.isAgg359
 z210:=Tryz.sizeOf359
 v210:=Tryz.zeroValue359
 t212:=Tryz.underlying334
 a212:=Tryz.isAgg334
 z212:=Tryz.sizeOf334
 v212:=Tryz.zeroValue334
 t213:=Tryz.underlying336
 a213:=Tryz.isAgg336
 z213:=Tryz.sizeOf336
 t232:=Tryz.underlying363
 a232:=Tryz.isAgg363
 z232:=Tryz.sizeOf363
 v232:=Tryz.zeroValue363
 t233:=Tryz.underlying364
 a233:=Tryz.isAgg364
 z233:=Tryz.sizeOf364
 v233:=Tryz.zeroValue364
 g15:=by kernel_rfl
 g16:=by kernel_rfl
 g17:=by kernel_rfl
 g18:=by kernel_rfl
 g19:=by kernel_rfl
 t80:=Tryz.underlying100
 a80:=Tryz.isAgg100
 z80:=Tryz.sizeOf100
 v80:=Tryz.zeroValue100
 i0:=by kernel_rfl
 i2:=by kernel_rfl
 i3:=by kernel_rfl
 i4:=by kernel_rfl
 i5:=by kernel_rfl
 i9:=by kernel_rfl
 i20:=by kernel_rfl
 i21:=by kernel_rfl
 i37:=by kernel_rfl
 i46:=by kernel_rfl
 i51:=by kernel_rfl
 i53:=by kernel_rfl
 i75:=by kernel_rfl
 i76:=by kernel_rfl
 i80:=by kernel_rfl
 i85:=by kernel_rfl
 i127:=by kernel_rfl
 i143:=by kernel_rfl
 i145:=by kernel_rfl
 i167:=by kernel_rfl
 i168:=by kernel_rfl
 i171:=by kernel_rfl
 i173:=by kernel_rfl
 i175:=by kernel_rfl
 i210:=by kernel_rfl
 i212:=by kernel_rfl
 i232:=by kernel_rfl
 i233:=by kernel_rfl
 m15:=by kernel_rfl
 m16:=by kernel_rfl
 m17:=by kernel_rfl
 m18:=by kernel_rfl
 m19:=by kernel_rfl
 c0:=by kernel_rfl
 c2:=by kernel_rfl
 c3:=by kernel_rfl
 c4:=by kernel_rfl
 c5:=by kernel_rfl
 c9:=by kernel_rfl
 c20:=by kernel_rfl
 c21:=by kernel_rfl
 c37:=by kernel_rfl
 c46:=by kernel_rfl
 c51:=by kernel_rfl
 c53:=by kernel_rfl
 c75:=by kernel_rfl
 c76:=by kernel_rfl
 c80:=by kernel_rfl
 c85:=by kernel_rfl
 c127:=by kernel_rfl
 c143:=by kernel_rfl
 c145:=by kernel_rfl
 c167:=by kernel_rfl
 c168:=by kernel_rfl
 c171:=by kernel_rfl
 c173:=by kernel_rfl
 c175:=by kernel_rfl
 c210:=by kernel_rfl
 c212:=by kernel_rfl
 c213:=by kernel_rfl
 c232:=by kernel_rfl
 c233:=by kernel_rfl }
def Tryz.Fi:Go.Shelf.Ren:=⟨λ| 171=>39|243=>76|246=>131|283=>183|284=>184|285=>185|286=>186|129=>227|317=>226|318=>228|319=>229|320=>230|337=>254|338=>255|n=>n,λ| 3=>3|9=>9|2=>2|4=>4|171=>313|0=>0|53=>203|37=>89|5=>5|173=>316|212=>334|51=>335|20=>20|213=>336|46=>158|232=>363|233=>364|n=>n,λ| 17=>3|18=>7|19=>8|n=>n⟩
theorem Tryz.Jr:Go.Proofs.LaysM.n171 Tryz.prog Tryz.Fi:={
 mixed:=by kernel_rfl
 f129:=Tryz.func227.trans (congrArg some (by kernel_rfl))
 f171:=Tryz.func39.trans (congrArg some (by kernel_rfl))
 f243:=Tryz.func76.trans (congrArg some (by kernel_rfl))
 f246:=Tryz.func131.trans (congrArg some (by kernel_rfl))
 f283:=Tryz.func183.trans (congrArg some (by kernel_rfl))
 f284:=Tryz.func184.trans (congrArg some (by kernel_rfl))
 f285:=Tryz.func185.trans (congrArg some (by kernel_rfl))
 f286:=Tryz.func186.trans (congrArg some (by kernel_rfl))
 f317:=Tryz.func226.trans (congrArg some (by kernel_rfl))
 f318:=Tryz.func228.trans (congrArg some (by kernel_rfl))
 f319:=Tryz.func229.trans (congrArg some (by kernel_rfl))
 f320:=Tryz.func230.trans (congrArg some (by kernel_rfl))
 f337:=Tryz.func254.trans (congrArg some (by kernel_rfl))
 f338:=Tryz.func255.trans (congrArg some (by kernel_rfl))
 t0:=Tryz.underlying0
 a0:=Tryz.isAgg0
 z0:=Tryz.sizeOf0
 v0:=Tryz.zeroValue0
 t2:=Tryz.underlying2
 a2:=Tryz.isAgg2
 z2:=Tryz.sizeOf2
 v2:=Tryz.zeroValue2
 t3:=Tryz.underlying3
 a3:=Tryz.isAgg3
 z3:=Tryz.sizeOf3
 v3:=Tryz.zeroValue3
 t4:=Tryz.underlying4
 a4:=Tryz.isAgg4
 z4:=Tryz.sizeOf4
 v4:=Tryz.zeroValue4
 t5:=Tryz.underlying5
 a5:=Tryz.isAgg5
 z5:=Tryz.sizeOf5
 v5:=Tryz.zeroValue5
 t9:=Tryz.underlying9
 a9:=Tryz.isAgg9
 z9:=Tryz.sizeOf9
 v9:=Tryz.zeroValue9
 t20:=Tryz.underlying20
 a20:=Tryz.isAgg20
 z20:=Tryz.sizeOf20
 v20:=Tryz.zeroValue20
 t37:=Tryz.underlying89
 a37:=Tryz.isAgg89
 z37:=Tryz.sizeOf89
 v37:=Tryz.zeroValue89
 t46:=Tryz.underlying158
 a46:=Tryz.isAgg158
 z46:=Tryz.sizeOf158
 v46:=Tryz.zeroValue158
 t51:=Tryz.underlying335
 a51:=Tryz.isAgg335
 z51:=Tryz.sizeOf335
 v51:=Tryz.zeroValue335
 t53:=Tryz.underlying203
 a53:=Tryz.isAgg203
 z53:=Tryz.sizeOf203
 v53:=Tryz.zeroValue203
 t171:=Tryz.underlying313
 a171:=Tryz.isAgg313
 z171:=Tryz.sizeOf313
 v171:=Tryz.zeroValue313
 t173:=Tryz.underlying316
 a173:=Tryz.isAgg316
 z173:=Tryz.sizeOf316
 v173:=Tryz.zeroValue316
 t212:=Tryz.underlying334
 a212:=Tryz.isAgg334
 z212:=Tryz.sizeOf334
 v212:=Tryz.zeroValue334
 t213:=Tryz.underlying336
 a213:=Tryz.isAgg336
 z213:=Tryz.sizeOf336
 t232:=Tryz.underlying363
 a232:=Tryz.isAgg363
 z232:=Tryz.sizeOf363
 v232:=Tryz.zeroValue363
 t233:=Tryz.underlying364
 a233:=Tryz.isAgg364
 z233:=Tryz.sizeOf364
 v233:=Tryz.zeroValue364
 g17:=by kernel_rfl
 g18:=by kernel_rfl
 g19:=by kernel_rfl
 i0:=by kernel_rfl
 i2:=by kernel_rfl
 i3:=by kernel_rfl
 i4:=by kernel_rfl
 i5:=by kernel_rfl
 i9:=by kernel_rfl
 i20:=by kernel_rfl
 i37:=by kernel_rfl
 i46:=by kernel_rfl
 i51:=by kernel_rfl
 i53:=by kernel_rfl
 i171:=by kernel_rfl
 i173:=by kernel_rfl
 i212:=by kernel_rfl
 i232:=by kernel_rfl
 i233:=by kernel_rfl
 m17:=by kernel_rfl
 m18:=by kernel_rfl
 m19:=by kernel_rfl }
end
end Go.Proofs
namespace Go.Proofs.YtnemkecffmdlnaaGreatDoor
section
inductive Rx where
 |eps
 |cls (S:BitVec 256)
 |cat (a b:Rx)
 |alt (a b:Rx)
 |star (a:Rx)
 |and (a b:Rx)
 |minus (a b:Rx)
abbrev RL:=Nat×Rx
def bR(n:Nat):Nat:=min n 2001
def aM(mk:Rx->Rx->Rx)(a b:RL):RL:=(bR (1+a.1+b.1),mk a.2 b.2)
def bw(t:Rx):RL:=(1,t)
def eF(a:RL):RL:=(bR (1+a.1),.star a.2)
def bj(a:RL):RL:=aM .alt a (bw .eps)
def ba(f:RL->RL):Nat->RL->RL
 |0,x=>x
 |n+1,x=>ba f n (f x)
def cq(a:RL)(m n:Int):RL:=
 if m=0/\n<0 then eF a
 else if m=0/\n=0 then bw .eps
 else if n<0 then aM .cat (ba (λx=>aM .cat x a) (m-1).toNat (if m=0 then bj a else a)) (eF a)
 else ba (λx=>aM .cat x (bj a)) (n-max m 1).toNat (ba (λx=>aM .cat x a) (m-1).toNat (if m=0 then bj a else a))
section
variable (c:Int->Int)(N:Int)(rd:Int->Except (Int×Int) (BitVec 256×Int))
def mm:Nat->Int->Int->Int×Int
 |0,n,i=>(n,i)
 |k+1,n,i=>if i<N/\48<=c i/\c i<=57 then mm k (10*n+(c i-48)) (i+1) else (n,i)
def kC(i:Int):Except (Int×Int) (Int×Int):=
 if (mm c N 3 0 i).2=i then .error (20,i) else .ok (mm c N 3 0 i)
def Ho(m j:Int):Except (Int×Int) (Int×Int):=
 if j<N/\c j=44 then (if ¬ j+1<N\/c (j+1)≠125 then kC c N (j+1) else .ok (-1,j+1)) else .ok (m,j)
def sx(m n j i:Int):Except (Int×Int) (Int×Int×Int):=
 if ¬ j<N\/c j≠125 then .error (20,j)
 else if 255<m\/255<n\/(0<=n/\n<m) then .error (22,i)
 else .ok (m,n,j+1)
def qL(i:Int):Except (Int×Int) (Int×Int×Int):=
 match kC c N (i+1) with
 |.error e=>.error e
 |.ok (m,j)=>match Ho c N m j with
  |.error e=>.error e
  |.ok (n,j)=>sx c N m n j i
def gR:Nat->RL->Int->Except (Int×Int) (RL×Int)
 |0,r,i=>.ok (r,i)
 | f+1,r,i=>
  if ¬ i<N then .ok (r,i)
  else if c i=42 then gR f (eF r) (i+1)
  else if c i=43 then gR f (aM .cat r (eF r)) (i+1)
  else if c i=63 then gR f (bj r) (i+1)
  else if c i=123 then
   match qL c N i with
   |.error e=>.error e
   |.ok (m,n,j)=>gR f (cq r m n) j
  else .ok (r,i)
def rA(o:Option RL):RL:=o.getD (bw .eps)
def vp(o:Option RL)(p:RL):RL:=match o with
 |none=>p
 |some x=>aM .cat x p
def e9(x:Int):Prop:=x=124\/x=38\/x=45\/x=41
def bf(x:Int):Prop:=x=42\/x=43\/x=63\/x=123
instance (x:Int):Decidable (e9 x):=by unfold e9;infer_instance
instance (x:Int):Decidable (bf x):=by unfold bf;infer_instance
def dS(atom:Int->Except (Int×Int) (RL×Int)):Nat->Option RL->Int->Except (Int×Int) (RL×Int)
 |0,o,i=>.ok (rA o,i)
 | f+1,o,i=>
  if ¬ i<N then .ok (rA o,i)
  else if e9 (c i) then .ok (rA o,i)
  else if bf (c i) then .error (20,i)
  else match atom i with
   |.error e=>.error e
   |.ok (a,j)=>match gR c N (N.toNat+1) a j with
    |.error e=>.error e
    |.ok (p,k)=>dS atom f (some (vp o p)) k
def jD(row:Int->Except (Int×Int) (RL×Int)):Nat->RL->Int->Except (Int×Int) (RL×Int)
 |0,o,i=>.ok (o,i)
 | f+1,o,i=>
  if ¬ i<N then .ok (o,i)
  else if c i=38 then match row (i+1) with
   |.error e=>.error e
   |.ok (r,j)=>jD row f (aM .and o r) j
  else if c i=45 then match row (i+1) with
   |.error e=>.error e
   |.ok (r,j)=>jD row f (aM .minus o r) j
  else .ok (o,i)
def jQ(row:Int->Except (Int×Int) (RL×Int))(i:Int):Except (Int×Int) (RL×Int):=
 match row i with
 |.error e=>.error e
 |.ok (r,j)=>jD c N row (N.toNat+1) r j
def x8(meet:Int->Except (Int×Int) (RL×Int)):Nat->RL->Int->Except (Int×Int) (RL×Int)
 |0,o,i=>.ok (o,i)
 | f+1,o,i=>
  if i<N/\c i=124 then match meet (i+1) with
   |.error e=>.error e
   |.ok (r,j)=>x8 meet f (aM .alt o r) j
  else .ok (o,i)
def aat(meet:Int->Except (Int×Int) (RL×Int))(i:Int):Except (Int×Int) (RL×Int):=
 match meet i with
 |.error e=>.error e
 |.ok (r,j)=>x8 c N meet (N.toNat+1) r j
def ti(atom:Int->Except (Int×Int) (RL×Int)):Int->Except (Int×Int) (RL×Int):=
 aat c N (jQ c N (dS c N atom (N.toNat+1) none))
def qd(i:Int):Except (Int×Int) (RL×Int):=match rd i with
 |.error e=>.error e
 |.ok (S,j)=>.ok (bw (.cls S),j)
def rQ(i:Int):Except (Int×Int) (RL×Int)->Except (Int×Int) (RL×Int)
 |.error e=>.error e
 |.ok (r,j)=>if ¬ j<N then .error (21,i) else .ok (r,j+1)
def aY:Nat->Int->Except (Int×Int) (RL×Int)
 |0,i=>if c i=40 then .error (23,i) else qd rd i
 |n+1,i=>if c i=40 then rQ N i (ti c N (aY n) (i+1)) else qd rd i
def alts(n:Nat):Int->Except (Int×Int) (RL×Int):=ti c N (aY c N rd n)
def MQ:Except (Int×Int) (RL×Int)->Except (Int×Int) Rx
 |.error e=>.error e
 |.ok (r,j)=>if j<N then .error (20,j) else if 2000<r.1 then .error (24,0) else .ok r.2
def xX:Except (Int×Int) Rx:=if 1048576<N then .error (1,0) else MQ N (alts c N rd 1000 0)
end
end
section
inductive RT where
 |eps
 |cls (S:BitVec 256)
 |cat (a b:RT)
 |alt (a b:RT)
 |and (a b:RT)
 |minus (a b:RT)
 |rep (a:RT) (m n:Int)
def iv(x:Rx)(m:Int)(k:Int):Rx:=if k<m then x else .alt x .eps
def eg(x:Rx)(m:Int):Nat->Int->Rx->Rx
 |0,_,w=>w
 |n+1,k,w=>eg x m n (k+1) (.cat w (iv x m k))
def nh(m:Int):Int:=if m=-2 then 1 else m
def iq(x:Rx)(m n:Int):Rx:=
 if n<0/\nh m=0 then .star x
 else if n=0 then .eps
 else if n<0 then .cat (eg x (nh m) (nh m-1).toNat 1 (iv x (nh m) 0)) (.star x)
 else eg x (nh m) (n-1).toNat 1 (iv x (nh m) 0)
def eG(a m n:Int):Int:=
 if m=-2 then a+1+a+1
 else if n<0/\m=0 then a+1
 else if n<0 then m*a+m-1+1+a+1
 else if n=0 then 1
 else if m=0 then n*(a+2)+n-1
 else m*a+m-1+(n-m)*(a+2+1)
def RT.expand:RT->Rx
 |.eps=>.eps
 |.cls S=>.cls S
 |.cat a b=>.cat a.expand b.expand
 |.alt a b=>.alt a.expand b.expand
 |.and a b=>.and a.expand b.expand
 |.minus a b=>.minus a.expand b.expand
 |.rep a m n=>iq a.expand m n
def RT.sz:RT->Nat
 |.eps=>1
 |.cls S=>1
 |.cat a b=>bR (1+a.sz+b.sz)
 |.alt a b=>bR (1+a.sz+b.sz)
 |.and a b=>bR (1+a.sz+b.sz)
 |.minus a b=>bR (1+a.sz+b.sz)
 |.rep a m n=>bR (eG a.sz m n).toNat
def RT.val(t:RT):RL:=(t.sz,t.expand)
theorem je(n:Nat):bR n<=2001:=by unfold bR;omega
theorem HW(a b:Nat):bR (1+bR a+b)=bR (1+a+b):=by unfold bR;omega
theorem G0(a b:Nat):bR (1+a+bR b)=bR (1+a+b):=by unfold bR;omega
theorem Bj{n:Nat}(h:n<=2001):bR n=n:=by unfold bR;omega
theorem kJ(y:RL):∀ (k:Nat) (s:Nat) (w:Rx),(ba (λx=>aM .cat x y) k (bR s,w)).1=bR (s+k*(1+y.1))
 |0,s,w=>by simp[ba]
 |k+1,s,w=>by
  show (ba (λx=>aM .cat x y) k (bR (1+bR s+y.1),.cat w y.2)).1=_;rw[HW,kJ y k,Nat.succ_mul]
  congr 1
  omega
theorem xY(x:Rx)(y:RL)(m:Int)(hy:y.2=x):∀ (n:Nat) (k:Int) (s:Nat) (w:Rx),k+n<=m->(ba (λz=>aM .cat z y) n (s,w)).2=eg x m n k w
 |0,k,s,w,_=>rfl
 |n+1,k,s,w,h=>by
  have hpx:iv x m k=y.2:=by rw[iv,if_pos (by omega),hy]
  show (ba (λz=>aM .cat z y) n (bR (1+s+y.1),.cat w y.2)).2=eg x m n (k+1) (.cat w (iv x m k));rw[hpx];exact xY x y m hy n (k+1) _ _ (by omega)
theorem vY(x:Rx)(y:RL)(m:Int)(hy:y.2=.alt x .eps):∀ (n:Nat) (k:Int) (s:Nat) (w:Rx),m<=k->(ba (λz=>aM .cat z y) n (s,w)).2=eg x m n k w
 |0,k,s,w,_=>rfl
 |n+1,k,s,w,h=>by
  have hpx:iv x m k=y.2:=by rw[iv,if_neg (by omega),hy]
  show (ba (λz=>aM .cat z y) n (bR (1+s+y.1),.cat w y.2)).2=eg x m n (k+1) (.cat w (iv x m k));rw[hpx];exact vY x y m hy n (k+1) _ _ (by omega)
theorem xG(x:Rx)(m:Int):∀ (a b:Nat) (k:Int) (w:Rx),eg x m (a+b) k w=eg x m b (k+a) (eg x m a k w)
 |0,b,k,w=>by simp[eg]
 |a+1,b,k,w=>by
  rw[Nat.succ_add];simp only[eg];rw[xG x m a b]
  congr 1
  omega
theorem uy(t:RT):eF t.val=(RT.rep t 0 (-1)).val:=by
 simp only[eF,RT.val,RT.sz,RT.expand,iq,nh,eG];simp
 congr 1
 omega
theorem wI(t:RT):aM .cat t.val (eF t.val)=(RT.rep t (-2) (-1)).val:=by
 simp only[eF,aM,RT.val,RT.sz,RT.expand,iq,nh,eG,eg,iv];simp[eg];rw[G0]
 congr 1
 omega
theorem zH(t:RT):bj t.val=(RT.rep t 0 1).val:=by
 simp only[bj,bw,eF,aM,RT.val,RT.sz,RT.expand,iq,nh,eG,eg,iv];simp[eg]
 congr 1
 omega
theorem Dd(p k s:Nat):bR (p+k*(1+bR s))=bR (p+k*(1+s)):=by
 by_cases h:s<=2001
 ·rw[Bj h]
 ·have e:bR s=2001:=by unfold bR;omega
  rw[e];cases k with
  |zero=>simp
  |succ k=>
   have h1:=Nat.succ_mul k (1+2001);have h2:=Nat.succ_mul k (1+s);unfold bR;rw[h1,h2];omega
theorem Ca{α β:Type}{x:α×β}{a:α}{b:β}(h1:x.1=a)(h2:x.2=b):x=(a,b):=by rw[<- h1,<- h2]
theorem rB(t:RT)(m n:Int)(h0:0<=m)(h1:n=-1\/(0<=n/\m<=n))(ht:t.sz<=2001):cq t.val m n=(RT.rep t m n).val:=by
 have hp:nh m=m:=by unfold nh;rw[if_neg (by omega)]
 have hm2:¬ m=-2:=by omega
 rcases h1 with rfl|⟨hn,hmn⟩
 ·by_cases hm:m=0
  ·subst hm;rw[<- uy];rfl
  ·obtain⟨a,rfl⟩:∃ a:Nat,m=(a:Int)+1:=⟨(m-1).toNat,by omega⟩;have e1:((a:Int)+1-1).toNat=a:=by omega
   have e2:cq t.val ((a:Int)+1) (-1)=aM .cat (ba (λx=>aM .cat x t.val) a t.val) (eF t.val):=by
    unfold cq;rw[if_neg (by omega),if_neg (by omega),if_pos (by omega),e1,if_neg hm]
   rw[e2];apply Ca
   ·show bR (1+(ba (λx=>aM .cat x t.val) a t.val).1+bR (1+t.sz))=bR (eG t.sz ((a:Int)+1) (-1)).toNat;have e3:(ba (λx=>aM .cat x t.val) a t.val).1=bR (t.sz+a*(1+t.sz)):=by
     have:=kJ t.val a t.sz t.expand;rw[Bj ht]at this;exact this
    have e4:eG t.sz ((a:Int)+1) (-1)=((1+(t.sz+a*(1+t.sz))+(1+t.sz):Nat):Int):=by
     unfold eG;rw[if_neg hm2,if_neg (by omega),if_pos (by omega)];have g1:((a:Int)+1)*(t.sz:Int)=(a:Int)*t.sz+t.sz:=by rw[Int.add_mul];omega
     have g2:a*(1+t.sz)=a+a*t.sz:=by rw[Nat.mul_add];omega
     rw[g1,g2];have g3:((a*t.sz:Nat):Int)=(a:Int)*t.sz:=by simp
     omega
    rw[e3,e4,HW,G0,Int.toNat_natCast]
   ·show Rx.cat (ba (λx=>aM .cat x t.val) a t.val).2 (.star t.expand)=iq t.expand ((a:Int)+1) (-1);unfold iq;rw[hp,if_neg (by omega),if_neg (by omega),if_pos (by omega),e1];have:=xY t.expand t.val ((a:Int)+1) rfl a 1 t.sz t.expand (by omega)
    rw[show iv t.expand ((a:Int)+1) 0=t.expand from by unfold iv;rw[if_pos (by omega)]];rw[<- this];rfl
 ·by_cases hm:m=0
  ·subst hm;by_cases hn0:n=0
   ·subst hn0;rfl
   ·obtain⟨b,rfl⟩:∃ b:Nat,n=(b:Int)+1:=⟨(n-1).toNat,by omega⟩;have e1:((b:Int)+1-max 0 1).toNat=b:=by omega
    have e2:cq t.val 0 ((b:Int)+1)=ba (λx=>aM .cat x (bj t.val)) b (bj t.val):=by
     unfold cq;rw[if_neg (by omega),if_neg (by omega),if_neg (by omega),e1,if_pos rfl];rfl
    rw[e2];apply Ca
    ·have e3:(ba (λx=>aM .cat x (bj t.val)) b (bj t.val)).1=bR ((t.sz+2)+b*(1+(t.sz+2))):=by
      have:=kJ (bj t.val) b (1+t.sz+1) (.alt t.expand .eps);rw[show (bj t.val).1=bR (t.sz+2) from by show bR (1+t.sz+1)=_;congr 1;omega,Dd]at this;rw[show 1+t.sz+1=t.sz+2 by omega]at this;rw[<- this];show (ba _ b (bR (1+t.sz+1),_)).1=_;rw[show 1+t.sz+1=t.sz+2 by omega];rfl
     have e4:eG t.sz 0 ((b:Int)+1)=(((t.sz+2)+b*(1+(t.sz+2)):Nat):Int):=by
      unfold eG;rw[if_neg (by omega),if_neg (by omega),if_neg (by omega),if_neg (by omega),if_pos rfl];have g1:((b:Int)+1)*((t.sz:Int)+2)=(b:Int)*t.sz+2*b+t.sz+2:=by rw[Int.add_mul,Int.mul_add];omega
      have g2:b*(1+(t.sz+2))=b*t.sz+3*b:=by rw[show 1+(t.sz+2)=t.sz+3 by omega,Nat.mul_add];omega
      rw[g1,g2];have g3:((b*t.sz:Nat):Int)=(b:Int)*t.sz:=by simp
      omega
     rw[e3];show _=bR (eG t.sz 0 ((b:Int)+1)).toNat;rw[e4,Int.toNat_natCast]
    ·show _=iq t.expand 0 ((b:Int)+1);unfold iq;rw[hp,if_neg (by omega),if_neg (by omega),if_neg (by omega),show ((b:Int)+1-1).toNat=b by omega];have:=vY t.expand (bj t.val) 0 rfl b 1 (bj t.val).1 (.alt t.expand .eps) (by omega)
     rw[show iv t.expand 0 0=.alt t.expand .eps from by unfold iv;rw[if_neg (by omega)]];rw[<- this];rfl
  ·obtain⟨a,rfl⟩:∃ a:Nat,m=(a:Int)+1:=⟨(m-1).toNat,by omega⟩;obtain⟨d,rfl⟩:∃ d:Nat,n=(a:Int)+1+d:=⟨(n-(a+1)).toNat,by omega⟩;have e1:((a:Int)+1-1).toNat=a:=by omega
   have e0:((a:Int)+1+d-max ((a:Int)+1) 1).toNat=d:=by omega
   have e2:cq t.val ((a:Int)+1) ((a:Int)+1+d)=ba (λx=>aM .cat x (bj t.val)) d (ba (λx=>aM .cat x t.val) a t.val):=by
    unfold cq;rw[if_neg (by omega),if_neg (by omega),if_neg (by omega),e0,e1,if_neg hm]
   have e3:(ba (λx=>aM .cat x t.val) a t.val).1=bR (t.sz+a*(1+t.sz)):=by
    have:=kJ t.val a t.sz t.expand;rw[Bj ht]at this;exact this
   have e5:(ba (λx=>aM .cat x t.val) a t.val).2=eg t.expand ((a:Int)+1) a 1 t.expand:=xY t.expand t.val ((a:Int)+1) rfl a 1 t.sz t.expand (by omega);have e6:ba (λx=>aM .cat x t.val) a t.val=(bR (t.sz+a*(1+t.sz)),eg t.expand ((a:Int)+1) a 1 t.expand):=Ca e3 e5;rw[e2,e6];apply Ca
   ·have e4:eG t.sz ((a:Int)+1) ((a:Int)+1+d)=((t.sz+a*(1+t.sz)+d*(1+(t.sz+2)):Nat):Int):=by
     unfold eG;rw[if_neg hm2,if_neg (by omega),if_neg (by omega),if_neg (by omega),if_neg hm];have g1:((a:Int)+1)*(t.sz:Int)=(a:Int)*t.sz+t.sz:=by rw[Int.add_mul];omega
     have g2:a*(1+t.sz)=a+a*t.sz:=by rw[Nat.mul_add];omega
     have g4:((a:Int)+1+d-((a:Int)+1))*((t.sz:Int)+2+1)=(d:Int)*t.sz+3*d:=by
      rw[show (a:Int)+1+d-((a:Int)+1)=d by omega,show (t.sz:Int)+2+1=t.sz+3 by omega,Int.mul_add];omega
     have g5:d*(1+(t.sz+2))=d*t.sz+3*d:=by rw[show 1+(t.sz+2)=t.sz+3 by omega,Nat.mul_add];omega
     rw[g1,g2,g4,g5];have g3:((a*t.sz:Nat):Int)=(a:Int)*t.sz:=by simp
     have g6:((d*t.sz:Nat):Int)=(d:Int)*t.sz:=by simp
     omega
    show _=bR (eG t.sz ((a:Int)+1) ((a:Int)+1+d)).toNat;rw[e4,Int.toNat_natCast,kJ];rw[show (bj t.val).1=bR (t.sz+2) from by show bR (1+t.sz+1)=_;congr 1;omega,Dd]
   ·show _=iq t.expand ((a:Int)+1) ((a:Int)+1+d);unfold iq;rw[hp,if_neg (by omega),if_neg (by omega),if_neg (by omega),show ((a:Int)+1+d-1).toNat=a+d by omega,xG];rw[show iv t.expand ((a:Int)+1) 0=t.expand from by unfold iv;rw[if_pos (by omega)]]
    exact vY t.expand (bj t.val) ((a:Int)+1) rfl d (1+a) _ _ (by omega)
theorem sQ(t:RT):t.sz<=2001:=by
 cases t<;>simp only[RT.sz]<;>first|exact je _|omega
end
section
structure Lv where
 place:Int
 alt:Option RT
 meet:Option RT
 sgn:Int
 row:Option RT
 fac:Option RT
def gi(i:Int):Lv:=⟨i,none,none,0,none,none⟩
def acU:Option RT->RT->RT
 |none,p=>p
 |some r,p=>.cat r p
def rowOf(row fac:Option RT):Option RT:=match fac with
 |none=>row
 |some p=>some (acU row p)
def dF(f:Lv):Lv:={ f with row:=rowOf f.row f.fac,fac:=none }
def jJ(meet:Option RT)(sgn:Int)(r:RT):RT:=match meet with
 |none=>r
 |some m=>if sgn=38 then .and m r else .minus m r
def j6(f:Lv):Lv:={ f with meet:=some (jJ f.meet f.sgn ((rowOf f.row f.fac).getD .eps)),row:=none,fac:=none }
def Od(alt:Option RT)(m:RT):RT:=match alt with
 |none=>m
 |some a=>.alt a m
def dy(f:Lv):RT:=jJ f.meet f.sgn ((rowOf f.row f.fac).getD .eps)
def gH(f:Lv):RT:=Od f.alt (dy f)
def rr(f:Lv):Lv:={ f with alt:=some (gH f),meet:=none,row:=none,fac:=none }
section
variable (c:Int->Int)(N:Int)(rd:Int->Except (Int×Int) (BitVec 256×Int))
def mR(i:Int)(f:Lv)(p:RT):Except (Int×Int) (Int×Lv):=
 if c i=42 then .ok (i+1,{ f with fac:=some (.rep p 0 (-1)) })
 else if c i=43 then .ok (i+1,{ f with fac:=some (.rep p (-2) (-1)) })
 else if c i=63 then .ok (i+1,{ f with fac:=some (.rep p 0 1) })
 else match qL c N i with
  |.error e=>.error e
  |.ok (m,n,j)=>.ok (j,{ f with fac:=some (.rep p m n) })
def dv(i:Int)(f:Lv)(rest:List Lv):Except (Int×Int) (Int×Lv×List Lv):=
 if bf (c i) then
  match f.fac with
  |none=>.error (20,i)
  |some p=>match mR c N i f p with
   |.error e=>.error e
   |.ok (j,g)=>.ok (j,g,rest)
 else if c i=124 then .ok (i+1,rr f,rest)
 else if c i=38\/c i=45 then .ok (i+1,{ j6 f with sgn:=c i },rest)
 else if c i=41 then
  match rest with
  |[]=>.error (20,i)
  |g::r=>.ok (i+1,{ g with fac:=some (gH f) },r)
 else if c i=40 then
  if 1000<rest.length+1 then .error (23,i) else .ok (i+1,gi i,dF f::rest)
 else match rd i with
  |.error e=>.error e
  |.ok (S,j)=>.ok (j,{ dF f with fac:=some (.cls S) },rest)
def runN:Nat->Int->Lv->List Lv->Except (Int×Int) (Lv×List Lv)
 |0,_,f,rest=>.ok (f,rest)
 | n+1,i,f,rest=>
  if i<N then match dv c N rd i f rest with
   |.error e=>.error e
   |.ok (j,g,r)=>runN n j g r
  else .ok (f,rest)
def run(i:Int)(f:Lv)(rest:List Lv):Except (Int×Int) (Lv×List Lv):=runN c N rd ((N-i).toNat+1) i f rest
def mV:Except (Int×Int) (Lv×List Lv)->Except (Int×Int) RT
 |.error e=>.error e
 |.ok (f,rest)=>if rest≠[] then .error (21,f.place) else if 2000<(gH f).sz then .error (24,0) else .ok (gH f)
def nD:Except (Int×Int) RT:=if 1048576<N then .error (1,0) else mV (run c N rd 0 (gi (-1)) [])
variable {c N rd}
def r8(N:Int)(rd:Int->Except (Int×Int) (BitVec 256×Int)):Prop:=∀ i S j,0<=i->i<N->rd i=.ok (S,j)->i<j/\j<=N
theorem Xg:∀ (k:Nat) (n i:Int),i<=(mm c N k n i).2/\((mm c N k n i).2<=N\/(mm c N k n i).2=i):=by
 intro k
 induction k with
 |zero=>intro n i;exact⟨Int.le_refl _,.inr rfl⟩
 | succ k ih=>
  intro n i;simp only[mm];split
  ·have:=ih (10*n+(c i-48)) (i+1);omega
  ·exact⟨Int.le_refl _,.inr rfl⟩
theorem uo{i n j:Int}(h:kC c N i=.ok (n,j)):i<j/\j<=N:=by
 have:=Xg (c:=c) (N:=N) 3 0 i;unfold kC at h;split at h
 ·cases h
 ·simp only[Except.ok.injEq]at h;rw[h]at this;rename_i hne;rw[h]at hne;simp only at this hne;omega
theorem Ar{i m n j:Int}(h:qL c N i=.ok (m,n,j)):i<j/\j<=N:=by
 unfold qL at h;cases h1:kC c N (i+1) with
 |error e=>rw[h1]at h;cases h
 | ok p=>
  obtain⟨m',j'⟩:=p;rw[h1]at h;simp only at h;have g1:=uo h1;cases h2:Ho c N m' j' with
  |error e=>rw[h2]at h;cases h
  | ok p=>
   obtain⟨n',j2⟩:=p;rw[h2]at h;simp only at h;have g2:j' <= j2/\j2<=N:=by
    unfold Ho at h2;split at h2
    ·split at h2
     ·have:=uo h2;omega
     ·simp only[Except.ok.injEq,Prod.mk.injEq]at h2;omega
    ·simp only[Except.ok.injEq,Prod.mk.injEq]at h2;omega
   unfold sx at h;split at h
   ·cases h
   ·split at h
    ·cases h
    ·simp only[Except.ok.injEq,Prod.mk.injEq]at h;omega
theorem P7{i m n j:Int}(h:qL c N i=.ok (m,n,j)):0<=m/\(n=-1\/(0<=n/\m<=n)):=by
 have nn:∀ (k:Nat) (n i:Int),0<=n->0<=(mm c N k n i).1:=by
  intro k
  induction k with
  |zero=>intro n i h;exact h
  |succ k ih=>
   intro n i h;simp only[mm];split
   ·exact ih _ _ (by omega)
   ·exact h
 have ne:∀ {i n j:Int},kC c N i=.ok (n,j)->0<=n:=λ{i n j} h=>by
  unfold kC at h;split at h
  ·cases h
  ·simp only[Except.ok.injEq]at h;have:=nn 3 0 i (by omega);rw[h]at this;exact this
 unfold qL at h;cases h1:kC c N (i+1) with
 |error e=>rw[h1]at h;cases h
 | ok p=>
  obtain⟨m',j'⟩:=p;rw[h1]at h;simp only at h;have g1:=ne h1;cases h2:Ho c N m' j' with
  |error e=>rw[h2]at h;cases h
  | ok p=>
   obtain⟨n',j2⟩:=p;rw[h2]at h;simp only at h;have g2:n' = -1\/0<=n' := by
    unfold Ho at h2;split at h2
    ·split at h2
     ·exact .inr (ne h2)
     ·simp only[Except.ok.injEq,Prod.mk.injEq]at h2;omega
    ·simp only[Except.ok.injEq,Prod.mk.injEq]at h2;omega
   unfold sx at h;split at h
   ·cases h
   ·split at h
    ·cases h
    ·simp only[Except.ok.injEq,Prod.mk.injEq]at h;obtain⟨rfl,rfl,_⟩:=h;omega
theorem DA(hrd:r8 N rd){i j:Int}{f g:Lv}{rest r:List Lv}(h0:0<=i)(hi:i<N)(h:dv c N rd i f rest=.ok (j,g,r)):i<j/\j<=N:=by
 unfold dv at h;split at h
 ·cases hf:f.fac with
  |none=>rw[hf]at h;cases h
  | some p=>
   rw[hf]at h;simp only at h;cases hp:mR c N i f p with
   |error e=>rw[hp]at h;cases h
   | ok q=>
    obtain⟨j',g'⟩:=q;rw[hp]at h;simp only[Except.ok.injEq,Prod.mk.injEq]at h;obtain⟨rfl,rfl,rfl⟩:=h;unfold mR at hp;split at hp
    ·simp only[Except.ok.injEq,Prod.mk.injEq]at hp;omega
    ·split at hp
     ·simp only[Except.ok.injEq,Prod.mk.injEq]at hp;omega
     ·split at hp
      ·simp only[Except.ok.injEq,Prod.mk.injEq]at hp;omega
      ·cases hb:qL c N i with
       |error e=>rw[hb]at hp;cases hp
       |ok q=>
        obtain⟨m,n,k⟩:=q;rw[hb]at hp;simp only[Except.ok.injEq,Prod.mk.injEq]at hp;have:=Ar hb;omega
 ·split at h
  ·simp only[Except.ok.injEq,Prod.mk.injEq]at h;omega
  ·split at h
   ·simp only[Except.ok.injEq,Prod.mk.injEq]at h;omega
   ·split at h
    ·cases rest with
     |nil=>cases h
     |cons g r=>simp only[Except.ok.injEq,Prod.mk.injEq]at h;omega
    ·split at h
     ·split at h
      ·cases h
      ·simp only[Except.ok.injEq,Prod.mk.injEq]at h;omega
     ·cases hS:rd i with
      |error e=>rw[hS]at h;cases h
      |ok q=>
       obtain⟨S,k⟩:=q;rw[hS]at h;simp only[Except.ok.injEq,Prod.mk.injEq]at h;have:=hrd i S k h0 hi hS;omega
theorem NP(hrd:r8 N rd):∀ (n m:Nat) (i:Int) (f:Lv) (rest:List Lv),0<=i->N-i<n->N-i<m->runN c N rd n i f rest=runN c N rd m i f rest:=by
 intro n
 induction n with
 |zero=>
  intro m i f rest h0 h1 h2;cases m with
  |zero=>rfl
  |succ m=>simp only[runN];rw[if_neg (by omega)]
 | succ n ih=>
  intro m i f rest h0 h1 h2;cases m with
  |zero=>simp only[runN];rw[if_neg (by omega)]
  | succ m=>
   simp only[runN];by_cases hi:i<N
   ·rw[if_pos hi,if_pos hi];cases hs:dv c N rd i f rest with
    |error e=>rfl
    |ok q=>
     obtain⟨j,g,r⟩:=q;have:=DA hrd h0 hi hs;exact ih m j g r (by omega) (by omega) (by omega)
   ·rw[if_neg hi,if_neg hi]
theorem Jv{i:Int}{f:Lv}{rest:List Lv}(hi:¬ i<N):run c N rd i f rest=.ok (f,rest):=by
 unfold run;simp only[runN];rw[if_neg hi]
theorem fH(hrd:r8 N rd){i:Int}{f:Lv}{rest:List Lv}(h0:0<=i)(hi:i<N):run c N rd i f rest=match dv c N rd i f rest with
  |.error e=>.error e
  |.ok (j,g,r)=>run c N rd j g r:=by
 unfold run;rw[runN,if_pos hi];cases hs:dv c N rd i f rest with
 |error e=>rfl
 |ok q=>
  obtain⟨j,g,r⟩:=q;have:=DA hrd h0 hi hs;exact NP hrd _ _ j g r (by omega) (by omega) (by omega)
theorem W5(hrd:r8 N rd):∀ (n:Nat) (i:Int) (p:RT) (f:Lv) (rest:List Lv),0<=i->i<=N->N-i<n->f.fac=some p ->
  match gR c N n p.val i with
  |.error e=>mV (run c N rd i f rest)=.error e
  |.ok (r,j)=>i<=j/\j<=N/\(j<N->¬ bf (c j))/\∃ q,r=RT.val q/\run c N rd i f rest=run c N rd j { f with fac:=some q } rest:=by
 intro n
 induction n with
 |zero=>intro i p f rest _ _ h;omega
 | succ n ih=>
  intro i p f rest h0 hiN hn hf;have same:f={ f with fac:=some p }:=by cases f;simp only at hf;subst hf;rfl
  have go:∀ (q:RT) (j:Int),i<j->j<=N->dv c N rd i f rest=.ok (j,{ f with fac:=some q },rest)->∀ res,gR c N (n+1) p.val i=res->gR c N n q.val j=res ->
    match res with
    |.error e=>mV (run c N rd i f rest)=.error e
    |.ok (r,j)=>i<=j/\j<=N/\(j<N->¬ bf (c j))/\∃ q,r=RT.val q/\run c N rd i f rest=run c N rd j { f with fac:=some q } rest:=by
   intro q j hij hjN hs res _ hr;have:=ih j q { f with fac:=some q } rest (by omega) hjN (by omega) rfl;rw[hr]at this;have hi:i<N:=by omega
   rw[fH hrd h0 hi,hs];cases res with
   |error e=>exact this
   |ok x=>
    obtain⟨r,k⟩:=x;obtain⟨g1,g2,g3,q',g4,g5⟩:=this;exact⟨by omega,g2,g3,q',g4,g5⟩
  by_cases hi:i<N
  ·have hP:∀ x,bf (c i)->mR c N i f p=x->dv c N rd i f rest=match x with|.error e=>.error e|.ok (j,g)=>.ok (j,g,rest):=λx hp hx=>by
    unfold dv;rw[if_pos hp,hf];simp only[hx]
   have hE:gR c N (n+1) p.val i=if c i=42 then gR c N n (eF p.val) (i+1)
     else if c i=43 then gR c N n (aM .cat p.val (eF p.val)) (i+1)
     else if c i=63 then gR c N n (bj p.val) (i+1)
     else if c i=123 then
      match qL c N i with
      |.error e=>.error e
      |.ok (m,n',j)=>gR c N n (cq p.val m n') j
     else .ok (p.val,i):=by
    rw[gR,if_neg (by omega)]
    all_goals rfl
   by_cases h42:c i=42
   ·rw[hE,if_pos h42,uy];exact go _ (i+1) (by omega) (by omega) (by rw[hP _ (by unfold bf;omega) rfl];unfold mR;rw[if_pos h42]) _ (by rw[hE,if_pos h42,uy]) rfl
   ·by_cases h43:c i=43
    ·rw[hE,if_neg h42,if_pos h43,wI];exact go _ (i+1) (by omega) (by omega) (by rw[hP _ (by unfold bf;omega) rfl];unfold mR;rw[if_neg h42,if_pos h43]) _ (by rw[hE,if_neg h42,if_pos h43,wI]) rfl
    ·by_cases h63:c i=63
     ·rw[hE,if_neg h42,if_neg h43,if_pos h63,zH];exact go _ (i+1) (by omega) (by omega) (by rw[hP _ (by unfold bf;omega) rfl];unfold mR;rw[if_neg h42,if_neg h43,if_pos h63]) _ (by rw[hE,if_neg h42,if_neg h43,if_pos h63,zH]) rfl
     ·by_cases h123:c i=123
      ·have hps:mR c N i f p=match qL c N i with
         |.error e=>.error e
         |.ok (m,n,j)=>.ok (j,{ f with fac:=some (.rep p m n) }):=by
        unfold mR;rw[if_neg h42,if_neg h43,if_neg h63]
       rw[hE,if_neg h42,if_neg h43,if_neg h63,if_pos h123];cases hb:qL c N i with
       |error e=>
        simp only;rw[fH hrd h0 hi,hP _ (by unfold bf;omega) hps,hb];rfl
       |ok x=>
        obtain⟨m,n',j⟩:=x;have g1:=Ar hb;obtain⟨g2,g3⟩:=P7 hb;simp only;rw[rB p m n' g2 g3 (sQ p)];exact go _ j g1.1 g1.2 (by rw[hP _ (by unfold bf;omega) hps,hb]) _ (by rw[hE,if_neg h42,if_neg h43,if_neg h63,if_pos h123,hb];simp only;rw[rB p m n' g2 g3 (sQ p)]) rfl
      ·rw[hE,if_neg h42,if_neg h43,if_neg h63,if_neg h123];exact⟨Int.le_refl _,by omega,λ_ hp=>by unfold bf at hp;omega,p,rfl,by rw[<- same]⟩
  ·rw[gR,if_pos hi];exact⟨Int.le_refl _,hiN,λh=>absurd h hi,p,rfl,by rw[<- same]⟩
def rU(c:Int->Int)(N:Int)(rd:Int->Except (Int×Int) (BitVec 256×Int))(n:Nat):Prop:=∀ (i:Int) (f:Lv) (rest:List Lv),0<=i->i<N->¬ e9 (c i)->¬ bf (c i)->rest.length+n=1000 ->
  match aY c N rd n i with
  |.error e=>mV (run c N rd i f rest)=.error e
  |.ok (r,j)=>i<j/\j<=N/\∃ t,r=RT.val t/\run c N rd i f rest=run c N rd j { dF f with fac:=some t } rest
theorem Db(o:Option RT):rA (o.map RT.val)=(o.getD .eps).val:=by cases o<;>rfl
theorem Tj(o:Option RT)(p:RT):vp (o.map RT.val) p.val=(acU o p).val:=by cases o<;>rfl
theorem AH(hrd:r8 N rd){n:Nat}(ha:rU c N rd n):∀ (k:Nat) (i:Int) (f:Lv) (rest:List Lv),0<=i->i<=N->N-i<k->(f.fac≠none->i<N->¬ bf (c i))->rest.length+n=1000 ->
  match dS c N (aY c N rd n) k ((rowOf f.row f.fac).map RT.val) i with
  |.error e=>mV (run c N rd i f rest)=.error e
  |.ok (r,j)=>i<=j/\j<=N/\(j<N->e9 (c j))/\∃ row fac,r=((rowOf row fac).getD .eps).val/\run c N rd i f rest=run c N rd j { f with row:=row,fac:=fac } rest:=by
 intro k
 induction k with
 |zero=>intro i f rest _ _ h;omega
 | succ k ih=>
  intro i f rest h0 hiN hk hp hd;by_cases hi:i<N
  ·by_cases he:e9 (c i)
   ·rw[dS,if_neg (by omega),if_pos he,Db];exact⟨Int.le_refl _,hiN,λ_=>he,f.row,f.fac,rfl,rfl⟩
   ·by_cases hps:bf (c i)
    ·rw[dS,if_neg (by omega),if_neg he,if_pos hps];have hf:f.fac=none:=by
      cases hf:f.fac with
      |none=>rfl
      |some p=>exact absurd hps (hp (by rw[hf];simp) hi)
     simp only;rw[fH hrd h0 hi];unfold dv;rw[if_pos hps,hf];rfl
    ·rw[dS,if_neg (by omega),if_neg he,if_neg hps];have h1:=ha i f rest h0 hi he hps hd;cases hA:aY c N rd n i with
     |error e=>rw[hA]at h1;exact h1
     | ok x=>
      obtain⟨a,j⟩:=x;rw[hA]at h1;obtain⟨g1,g2,t,rfl,g3⟩:=h1;have h2:=W5 (c:=c) hrd (N.toNat+1) j t { dF f with fac:=some t } rest (by omega) g2 (by omega) rfl;simp only;cases hR:gR c N (N.toNat+1) t.val j with
      |error e=>rw[hR]at h2;simp only at h2 ⊢;rw[g3,h2]
      | ok y=>
       obtain⟨p,l⟩:=y;rw[hR]at h2;obtain⟨g4,g5,g6,q,rfl,g7⟩:=h2;simp only;have h3:=ih l { dF f with fac:=some q } rest (by omega) g5 (by omega) (λ_=>g6) hd;have e1:some (vp ((rowOf f.row f.fac).map RT.val) q.val)=(rowOf (dF f).row (some q)).map RT.val:=by
        rw[Tj];rfl
       rw[e1];simp only at h3;revert h3;cases dS c N (aY c N rd n) k ((rowOf (dF f).row (some q)).map RT.val) l with
       |error e=>intro h3;simp only at h3 ⊢;rw[g3,g7,h3]
       |ok z=>
        obtain⟨r,m⟩:=z;rintro⟨g8,g9,g10,row,fac,g11,g12⟩;exact⟨by omega,g9,g10,row,fac,g11,by rw[g3,g7,g12];rfl⟩
  ·rw[dS,if_pos hi,Db];exact⟨Int.le_refl _,hiN,λh=>absurd h hi,f.row,f.fac,rfl,rfl⟩
theorem K0(hrd:r8 N rd){n:Nat}(ha:rU c N rd n):∀ (k:Nat) (i:Int) (f:Lv) (rest:List Lv),0<=i->i<=N->N-i<k->(i<N->e9 (c i))->rest.length+n=1000 ->
  match jD c N (dS c N (aY c N rd n) (N.toNat+1) none) k (dy f).val i with
  |.error e=>mV (run c N rd i f rest)=.error e
  |.ok (r,j)=>i<=j/\j<=N/\(j<N->c j=124\/c j=41)/\∃ g:Lv,g.place=f.place/\g.alt=f.alt/\r=(dy g).val/\run c N rd i f rest=run c N rd j g rest:=by
 intro k
 induction k with
 |zero=>intro i f rest _ _ h;omega
 | succ k ih=>
  intro i f rest h0 hiN hk he hd;by_cases hi:i<N
  ·have go:∀ (mk:RT->RT->RT) (mkx:Rx->Rx->Rx),(∀ a b:RT,aM mkx a.val b.val=(mk a b).val)->(c i=38\/c i=45)->(∀ (m:RT) (g:Lv),g.meet=some m->g.sgn=c i->dy g=mk m ((rowOf g.row g.fac).getD .eps)) ->
     match (match dS c N (aY c N rd n) (N.toNat+1) none (i+1) with
      |.error e=>(.error e:Except (Int×Int) (RL×Int))
      |.ok (r,j)=>jD c N (dS c N (aY c N rd n) (N.toNat+1) none) k (aM mkx (dy f).val r) j) with
     |.error e=>mV (run c N rd i f rest)=.error e
     |.ok (r,j)=>i<=j/\j<=N/\(j<N->c j=124\/c j=41)/\∃ g:Lv,g.place=f.place/\g.alt=f.alt/\r=(dy g).val/\run c N rd i f rest=run c N rd j g rest:=by
    intro mk mkx hmk hc hmt;have hs:dv c N rd i f rest=.ok (i+1,{ j6 f with sgn:=c i },rest):=by
     unfold dv;rw[if_neg (by unfold bf;omega),if_neg (by omega),if_pos hc]
    have h1:=AH hrd ha (N.toNat+1) (i+1) { j6 f with sgn:=c i } rest (by omega) (by omega) (by omega) (λh=>absurd rfl h) hd;have hr:run c N rd i f rest=run c N rd (i+1) { j6 f with sgn:=c i } rest:=by rw[fH hrd h0 hi,hs]
    have e0:(rowOf ({ j6 f with sgn:=c i }:Lv).row ({ j6 f with sgn:=c i }:Lv).fac).map RT.val=none:=rfl;rw[e0]at h1;revert h1;cases dS c N (aY c N rd n) (N.toNat+1) none (i+1) with
    |error e=>intro h1;simp only at h1 ⊢;rw[hr];exact h1
    | ok z=>
     obtain⟨r,j⟩:=z;rintro⟨g1,g2,g3,row,fac,rfl,g4⟩;simp only;rw[hmk];have hg:mk (dy f) ((rowOf row fac).getD .eps)=dy { j6 f with sgn:=c i,row:=row,fac:=fac }:=(hmt (dy f) { j6 f with sgn:=c i,row:=row,fac:=fac } rfl rfl).symm;rw[hg]
     have h2:=ih j { j6 f with sgn:=c i,row:=row,fac:=fac } rest (by omega) g2 (by omega) g3 hd;revert h2;cases jD c N (dS c N (aY c N rd n) (N.toNat+1) none) k (dy { j6 f with sgn:=c i,row:=row,fac:=fac }).val j with
     |error e=>intro h2;simp only at h2 ⊢;rw[hr];exact (congrArg mV g4).trans h2
     |ok y=>
      obtain⟨r2,j2⟩:=y;rintro⟨g5,g6,g7,g,g8,g9,g10,g11⟩;exact⟨by omega,g6,g7,g,g8,g9,g10,by rw[hr];exact g4.trans g11⟩
   by_cases h38:c i=38
   ·rw[jD,if_neg (by omega),if_pos h38];exact go .and .and (λa b=>rfl) (.inl h38) λm g h1 h2=>by unfold dy;rw[h1,h2,h38];simp[jJ]
   ·by_cases h45:c i=45
    ·rw[jD,if_neg (by omega),if_neg h38,if_pos h45];exact go .minus .minus (λa b=>rfl) (.inr h45) λm g h1 h2=>by unfold dy;rw[h1,h2,h45];simp[jJ]
    ·rw[jD,if_neg (by omega),if_neg h38,if_neg h45];have:=he hi;exact⟨Int.le_refl _,hiN,λ_=>by unfold e9 at this;omega,f,rfl,rfl,rfl,rfl⟩
  ·rw[jD,if_pos hi];exact⟨Int.le_refl _,hiN,λh=>absurd h hi,f,rfl,rfl,rfl,rfl⟩
theorem uO(hrd:r8 N rd){n:Nat}(ha:rU c N rd n)(i:Int)(f:Lv)(rest:List Lv)(h0:0<=i)(hiN:i<=N)(hd:rest.length+n=1000)(h1:f.meet=none)(h2:f.row=none)(h3:f.fac=none) :
  match jQ c N (dS c N (aY c N rd n) (N.toNat+1) none) i with
  |.error e=>mV (run c N rd i f rest)=.error e
  |.ok (r,j)=>i<=j/\j<=N/\(j<N->c j=124\/c j=41)/\∃ g:Lv,g.place=f.place/\g.alt=f.alt/\r=(dy g).val/\run c N rd i f rest=run c N rd j g rest:=by
 have g:=AH hrd ha (N.toNat+1) i f rest h0 hiN (by omega) (λh=>absurd h3 h) hd;have e0:(rowOf f.row f.fac).map RT.val=none:=by rw[h2,h3];rfl
 rw[e0]at g;unfold jQ;revert g;cases dS c N (aY c N rd n) (N.toNat+1) none i with
 |error e=>exact λg=>g
 | ok z=>
  obtain⟨r,j⟩:=z;rintro⟨g1,g2,g3,row,fac,rfl,g4⟩;simp only;have hm:(rowOf row fac).getD .eps=dy { f with row:=row,fac:=fac }:=by unfold dy;rw[h1];rfl
  rw[hm];have h5:=K0 hrd ha (N.toNat+1) j { f with row:=row,fac:=fac } rest (by omega) g2 (by omega) g3 hd;revert h5;cases jD c N (dS c N (aY c N rd n) (N.toNat+1) none) (N.toNat+1) (dy { f with row:=row,fac:=fac }).val j with
  |error e=>intro h5;exact (congrArg mV g4).trans h5
  |ok y=>
   obtain⟨r2,j2⟩:=y;rintro⟨g5,g6,g7,g,g8,g9,g10,g11⟩;exact⟨by omega,g6,g7,g,g8,g9,g10,g4.trans g11⟩
theorem O9(hrd:r8 N rd){n:Nat}(ha:rU c N rd n):∀ (k:Nat) (i:Int) (f:Lv) (rest:List Lv),0<=i->i<=N->N-i<k->(i<N->c i=124\/c i=41)->rest.length+n=1000 ->
  match x8 c N (jQ c N (dS c N (aY c N rd n) (N.toNat+1) none)) k (gH f).val i with
  |.error e=>mV (run c N rd i f rest)=.error e
  |.ok (r,j)=>i<=j/\j<=N/\(j<N->c j=41)/\∃ g:Lv,g.place=f.place/\r=(gH g).val/\run c N rd i f rest=run c N rd j g rest:=by
 intro k
 induction k with
 |zero=>intro i f rest _ _ h;omega
 | succ k ih=>
  intro i f rest h0 hiN hk he hd;by_cases hi:i<N/\c i=124
  ·rw[x8,if_pos hi];have hs:dv c N rd i f rest=.ok (i+1,rr f,rest):=by
    unfold dv;rw[if_neg (by unfold bf;omega),if_pos hi.2]
   have hr:run c N rd i f rest=run c N rd (i+1) (rr f) rest:=by rw[fH hrd h0 hi.1,hs]
   have h1:=uO hrd ha (i+1) (rr f) rest (by omega) (by omega) hd rfl rfl rfl;revert h1;cases jQ c N (dS c N (aY c N rd n) (N.toNat+1) none) (i+1) with
   |error e=>intro h1;simp only at h1 ⊢;rw[hr];exact h1
   | ok z=>
    obtain⟨r,j⟩:=z;rintro⟨g1,g2,g3,g,g4,g5,rfl,g6⟩;simp only;have e1:aM .alt (gH f).val (dy g).val=(gH g).val:=by
     have:gH g=.alt (gH f) (dy g):=by
      show Od g.alt (dy g)=_;rw[g5];rfl
     rw[this];rfl
    rw[e1];have h2:=ih j g rest (by omega) g2 (by omega) g3 hd;revert h2;cases x8 c N (jQ c N (dS c N (aY c N rd n) (N.toNat+1) none)) k (gH g).val j with
    |error e=>intro h2;simp only at h2 ⊢;rw[hr,g6,h2]
    |ok y=>
     obtain⟨r2,j2⟩:=y;rintro⟨g7,g8,g9,g',g10,g11,g12⟩;exact⟨by omega,g8,g9,g',by rw[g10,g4];rfl,g11,by rw[hr,g6,g12]⟩
  ·rw[x8,if_neg hi];exact⟨Int.le_refl _,hiN,λh=>by have:=he h;omega,f,rfl,rfl,rfl⟩
theorem Bu(hrd:r8 N rd){n:Nat}(ha:rU c N rd n)(i p:Int)(rest:List Lv)(h0:0<=i)(hiN:i<=N)(hd:rest.length+n=1000) :
  match ti c N (aY c N rd n) i with
  |.error e=>mV (run c N rd i (gi p) rest)=.error e
  |.ok (r,j)=>i<=j/\j<=N/\(j<N->c j=41)/\∃ g:Lv,g.place=p/\r=(gH g).val/\run c N rd i (gi p) rest=run c N rd j g rest:=by
 have h1:=uO hrd ha i (gi p) rest h0 hiN hd rfl rfl rfl;unfold ti aat;revert h1;cases jQ c N (dS c N (aY c N rd n) (N.toNat+1) none) i with
 |error e=>exact λh=>h
 | ok z=>
  obtain⟨r,j⟩:=z;rintro⟨g1,g2,g3,g,g4,g5,rfl,g6⟩;simp only;have e1:(dy g).val=(gH g).val:=by
   have:gH g=dy g:=by
    show Od g.alt (dy g)=_;rw[g5];rfl
   rw[this]
  rw[e1];have h2:=O9 hrd ha (N.toNat+1) j g rest (by omega) g2 (by omega) g3 hd;revert h2;cases x8 c N (jQ c N (dS c N (aY c N rd n) (N.toNat+1) none)) (N.toNat+1) (gH g).val j with
  |error e=>intro h2;simp only at h2 ⊢;rw[g6,h2]
  |ok y=>
   obtain⟨r2,j2⟩:=y;rintro⟨g7,g8,g9,g',g10,g11,g12⟩;exact⟨by omega,g8,g9,g',by rw[g10,g4];rfl,g11,by rw[g6,g12]⟩
theorem Dt(hrd:r8 N rd)(i:Int)(f:Lv)(rest:List Lv)(h0:0<=i)(hi:i<N)(he:¬ e9 (c i))(hp:¬ bf (c i))(h40:c i≠40) :
  match qd rd i with
  |.error e=>mV (run c N rd i f rest)=.error e
  |.ok (r,j)=>i<j/\j<=N/\∃ t,r=RT.val t/\run c N rd i f rest=run c N rd j { dF f with fac:=some t } rest:=by
 have hs:dv c N rd i f rest=match rd i with
  |.error e=>.error e
  |.ok (S,j)=>.ok (j,{ dF f with fac:=some (.cls S) },rest):=by
  unfold e9 at he;unfold dv;rw[if_neg hp,if_neg (by omega),if_neg (by omega),if_neg (by omega),if_neg h40]
 unfold qd;rw[fH hrd h0 hi,hs];cases hS:rd i with
 |error e=>rfl
 |ok q=>
  obtain⟨S,j⟩:=q;have:=hrd i S j h0 hi hS;exact⟨this.1,this.2,.cls S,rfl,rfl⟩
theorem qy(hrd:r8 N rd):∀ n,rU c N rd n:=by
 intro n
 induction n with
 | zero=>
  intro i f rest h0 hi he hp hd;by_cases h40:c i=40
  ·rw[aY,if_pos h40];simp only;rw[fH hrd h0 hi];unfold dv;rw[if_neg hp,if_neg (by omega),if_neg (by omega),if_neg (by omega),if_pos h40,if_pos (by omega)];rfl
  ·rw[aY,if_neg h40];exact Dt hrd i f rest h0 hi he hp h40
 | succ n ih=>
  intro i f rest h0 hi he hp hd;by_cases h40:c i=40
  ·rw[aY,if_pos h40];have hs:dv c N rd i f rest=.ok (i+1,gi i,dF f::rest):=by
    unfold dv;rw[if_neg hp,if_neg (by omega),if_neg (by omega),if_neg (by omega),if_pos h40,if_neg (by omega)]
   have hr:run c N rd i f rest=run c N rd (i+1) (gi i) (dF f::rest):=by rw[fH hrd h0 hi,hs]
   have h1:=Bu hrd ih (i+1) i (dF f::rest) (by omega) (by omega) (by simp only[List.length_cons];omega);revert h1;cases ti c N (aY c N rd n) (i+1) with
   |error e=>intro h1;simp only[rQ]at h1 ⊢;rw[hr,h1]
   | ok z=>
    obtain⟨r,j⟩:=z;rintro⟨g1,g2,g3,g,g4,rfl,g5⟩;simp only[rQ];by_cases hj:j<N
    ·rw[if_neg (by omega)];have h41:=g3 hj;have hs2:dv c N rd j g (dF f::rest)=.ok (j+1,{ dF f with fac:=some (gH g) },rest):=by
      unfold dv;rw[if_neg (by unfold bf;omega),if_neg (by omega),if_neg (by omega),if_pos h41]
     refine⟨by omega,by omega,gH g,rfl,?_⟩;rw[hr,g5,fH hrd (by omega) hj,hs2]
    ·rw[if_pos hj];simp only;rw[hr,g5,Jv hj];simp[mV,g4]
  ·rw[aY,if_neg h40];exact Dt hrd i f rest h0 hi he hp h40
def acH:Except (Int×Int) RT->Except (Int×Int) Rx
 |.error e=>.error e
 |.ok t=>.ok t.expand
theorem Lf(hrd:r8 N rd)(hN:0<=N):xX c N rd=acH (nD c N rd):=by
 unfold xX nD;by_cases hb:1048576<N
 ·rw[if_pos hb,if_pos hb];rfl
 ·rw[if_neg hb,if_neg hb];have h1:=Bu hrd (qy (c:=c) hrd 1000) 0 (-1) [] (by omega) hN rfl;unfold alts;revert h1;cases ti c N (aY c N rd 1000) 0 with
  |error e=>intro h1;simp only at h1;rw[h1];rfl
  | ok z=>
   obtain⟨r,j⟩:=z;rintro⟨g1,g2,g3,g,g4,rfl,g5⟩;rw[g5];by_cases hj:j<N
   ·have h41:=g3 hj;have hs:dv c N rd j g []=.error (20,j):=by
     unfold dv;rw[if_neg (by unfold bf;omega),if_neg (by omega),if_neg (by omega),if_pos h41]
    rw[fH hrd (by omega) hj,hs];simp only[MQ];rw[if_pos hj];rfl
   ·rw[Jv hj];simp only[MQ,mV];rw[if_neg hj,if_neg (show ¬ ([]:List Lv)≠[] by simp)];show (if 2000<(gH g).sz then _ else _)=_;by_cases hs:2000<(gH g).sz
    ·rw[if_pos hs,if_pos hs];rfl
    ·rw[if_neg hs,if_neg hs];rfl
end
end
section
open Go.RowKit Go.LE Go.Proofs.Tryz
abbrev CS:=BitVec 256
def wd(S:CS)(j:Nat):Int:=((S.extractLsb' (64*j) 64).toNat:Int)
def jU(S:CS):List Value:=[.int .u64 (wd S 0),.int .u64 (wd S 1),.int .u64 (wd S 2),.int .u64 (wd S 3)]
theorem qo(x:BitVec 64):IntKind.u64.wrap ((x.toNat:Nat):Int)=((x.toNat:Nat):Int):=by
 have:=x.isLt;simp only[IntKind.wrap,IntKind.bits,IntKind.signed,Bool.false_and,Bool.false_eq_true,if_false,decide_false,show (2:Int) ^ 64=18446744073709551616 from rfl];omega
theorem gS(x:BitVec 64):BitVec.ofInt 64 ((x.toNat:Nat):Int)=x:=by simp
theorem adk(x y:BitVec 64):bI .or .u64 (x.toNat:Nat) (y.toNat:Nat)=((x ||| y).toNat:Nat):=by
 show IntKind.u64.wrap (((BitVec.ofInt 64 ((x.toNat:Nat):Int) ||| BitVec.ofInt 64 ((y.toNat:Nat):Int):BitVec 64).toNat:Nat):Int)=_;rw[gS,gS,qo]
theorem QV(x y:BitVec 64):bI .and .u64 (x.toNat:Nat) (y.toNat:Nat)=((x &&& y).toNat:Nat):=by
 show IntKind.u64.wrap (((BitVec.ofInt 64 ((x.toNat:Nat):Int) &&& BitVec.ofInt 64 ((y.toNat:Nat):Int):BitVec 64).toNat:Nat):Int)=_;rw[gS,gS,qo]
theorem ad5(x y:BitVec 64):bI .xor .u64 (x.toNat:Nat) (y.toNat:Nat)=((x ^^^ y).toNat:Nat):=by
 show IntKind.u64.wrap (((BitVec.ofInt 64 ((x.toNat:Nat):Int) ^^^ BitVec.ofInt 64 ((y.toNat:Nat):Int):BitVec 64).toNat:Nat):Int)=_;rw[gS,gS,qo]
theorem acy(S T:CS)(j:Nat):bI .or .u64 (wd S j) (wd T j)=wd (S ||| T) j:=by
 rw[wd,wd,adk,wd,BitVec.extractLsb'_or]
theorem aaD(S T:CS)(j:Nat):bI .and .u64 (wd S j) (wd T j)=wd (S &&& T) j:=by
 rw[wd,wd,QV,wd,BitVec.extractLsb'_and]
theorem AO(S:CS)(j:Nat)(hj:j<4):bI .xor .u64 (if IntKind.u64.signed=true then -1 else IntKind.u64.max) (wd S j)=wd (~~~S) j:=by
 have e:(if IntKind.u64.signed=true then -1 else IntKind.u64.max)=(((BitVec.allOnes 64).toNat:Nat):Int):=by decide
 rw[e,wd,ad5,wd]
 congr 2
 apply BitVec.eq_of_getLsbD_eq;intro i hi;have h2:64*j+i<256:=oM;rw[BitVec.getLsbD_xor,BitVec.getLsbD_allOnes,BitVec.getLsbD_extractLsb',BitVec.getLsbD_extractLsb',BitVec.getLsbD_not];simp[hi,h2]
def tG(S:CS)(b:Nat):CS:=S ||| (1#256 <<< b)
theorem Dy(S:CS)(b i:Nat)(hb:b<256):(tG S b).getLsbD i=(S.getLsbD i||decide (i=b)):=by
 simp only[tG,BitVec.getLsbD_or,BitVec.getLsbD_shiftLeft,BitVec.getLsbD_one];by_cases hi:i=b
 ·subst hi;simp[hb]
 ·have h:¬(i<256/\b<=i/\i-b=0):=oM;by_cases h1:i<256<;>by_cases h2:i<b<;>simp[h1,h2,hi]<;>omega
theorem adZ(b:Nat)(hb:b<64):IntKind.u64.wrap (1*2 ^ (min b 64))=(((1#64 <<< b).toNat:Nat):Int):=by
 rw[Nat.min_eq_left oM];have h:(1#64 <<< b).toNat=2 ^ b:=by
  rw[BitVec.toNat_shiftLeft,Nat.shiftLeft_eq];have:2 ^ b<2 ^ 64:=Nat.pow_lt_pow_right oM hb;simp;omega
 rw[<- qo,h];simp
theorem qV(S:CS)(b:Nat)(hb:b<256):bI .or .u64 (wd S (b / 64)) (IntKind.u64.wrap (1*2 ^ (min (b % 64) 64)))=wd (tG S b) (b / 64):=by
 rw[adZ _ (Nat.mod_lt _ oM),wd,adk,wd]
 congr 2
 apply BitVec.eq_of_getLsbD_eq;intro i hi;have hdm:=Nat.div_add_mod b 64;rw[BitVec.getLsbD_or,BitVec.getLsbD_extractLsb',BitVec.getLsbD_extractLsb',Dy _ _ _ hb,BitVec.getLsbD_shiftLeft,BitVec.getLsbD_one];have e:decide (64*(b / 64)+i=b)=decide (i=b % 64):=by rw[decide_eq_decide];omega
 rw[e];by_cases h1:i=b % 64
 ·subst h1;simp[hi]
 ·by_cases h2:i<b % 64<;>simp[hi,h1,h2]<;>omega
theorem MN(S:CS)(b j:Nat)(hb:b<256)(hj:j≠b / 64):wd (tG S b) j=wd S j:=by
 rw[wd,wd]
 congr 2
 apply BitVec.eq_of_getLsbD_eq;intro i hi;rw[BitVec.getLsbD_extractLsb',BitVec.getLsbD_extractLsb',Dy _ _ _ hb];have:decide (64*j+i=b)=false:=by rw[decide_eq_false_iff_not];omega
 rw[this,Bool.or_false]
theorem XB(S:CS)(b:Nat)(hb:b<256):(jU S).take (b / 64)++.int .u64 (wd (tG S b) (b / 64))::(jU S).drop (b / 64+1)=jU (tG S b):=by
 have hq:b / 64<4:=oM;have ne:∀ j,j≠b / 64->wd S j=wd (tG S b) j:=λj hj=>(MN S b j hb hj).symm
 generalize hqe:b / 64=q at *
 match q,hq with
 |0,_=>simp[jU,ne 1,ne 2,ne 3]
 |1,_=>simp[jU,ne 0,ne 2,ne 3]
 |2,_=>simp[jU,ne 0,ne 1,ne 3]
 |3,_=>simp[jU,ne 0,ne 1,ne 2]
theorem aax(S:CS)(b:Nat)(hb:b<256):decide (bI .and .u64 ((wd S (b / 64)).fdiv (2 ^ (min (b % 64) 64))) 1=1)=S.getLsbD b:=by
 have hm:b % 64<64:=Nat.mod_lt _ oM;rw[Nat.min_eq_left oM];have e1:(wd S (b / 64)).fdiv (2 ^ (b % 64))=(((S.extractLsb' (64*(b / 64)) 64) >>> (b % 64)).toNat:Nat):=by
  rw[wd,BitVec.toNat_ushiftRight,Nat.shiftRight_eq_div_pow];have:(2:Int) ^ (b % 64)=((2 ^ (b % 64):Nat):Int):=by simp
  rw[this,Int.fdiv_eq_ediv_of_nonneg _ (Int.natCast_nonneg _)];rfl
 rw[e1,show (1:Int)=(((1#64).toNat:Nat):Int) from rfl,QV];rw[Bool.eq_iff_iff,decide_eq_true_eq];have hdm:=Nat.div_add_mod b 64;constructor
 ·intro h;have h' : (S.extractLsb' (64*(b / 64)) 64 >>> (b % 64)) &&& 1#64=1#64:=BitVec.eq_of_toNat_eq (by exact_mod_cast h);have:=congrArg (λx=>x.getLsbD 0) h';simp only[BitVec.getLsbD_and,BitVec.getLsbD_ushiftRight,BitVec.getLsbD_extractLsb',BitVec.getLsbD_one]at this;simpa [hm,hdm] using this
 ·intro h;have h' : (S.extractLsb' (64*(b / 64)) 64 >>> (b % 64)) &&& 1#64=1#64:=by
   apply BitVec.eq_of_getLsbD_eq;intro i hi;simp only[BitVec.getLsbD_and,BitVec.getLsbD_ushiftRight,BitVec.getLsbD_extractLsb',BitVec.getLsbD_one];by_cases h0:i=0
   ·subst h0;simp[hm,hdm,h]
   ·simp[h0]
  rw[h']
theorem pA(b:Nat):((b:Int)).fdiv 64=((b / 64:Nat):Int):=by
 rw[Int.fdiv_eq_ediv_of_nonneg _ oM];omega
theorem E4(b:Nat)(hb:b<256):bI .and .u8 (b:Int) 63=((b % 64:Nat):Int):=by
 have:∀ b:Fin 256,bI .and .u8 ((b.val:Nat):Int) 63=((b.val % 64:Nat):Int):=by decide +kernel
 exact this ⟨b,hb⟩
theorem L6(b:Nat)(hb:b<256):bI .and .i64 (b:Int) 63=((b % 64:Nat):Int):=by
 have:∀ b:Fin 256,bI .and .i64 ((b.val:Nat):Int) 63=((b.val % 64:Nat):Int):=by decide +kernel
 exact this ⟨b,hb⟩
theorem fX(S:CS)(j:Nat)(hj:j<4):(List.map SV.v (jU S)).getD j (.v undef)=.v (.int .u64 (wd S j)):=by
 match j,hj with
 |0,_=>rfl
 |1,_=>rfl
 |2,_=>rfl
 |3,_=>rfl
theorem jn(S:CS)(b:Nat)(hb:b<256):List.take (b / 64) (List.map SV.v (jU S))++[SV.v (.int .u64 (wd (tG S b) (b / 64)))]++List.drop (b / 64+1) (List.map SV.v (jU S))=List.map SV.v (jU (tG S b)):=by
 rw[<- XB S b hb];simp
theorem B8(S:CS):(List.map SV.v (jU S)).length=4:=rfl
end
section
open Go.RowKit Go.LE Go.Proofs.Tryz
set_option maxRecDepth 10000
def Γ0:Env prog:=⟨λ_=>none,λ_=>none,λ_ _=>none⟩
def bO(S:CS):Value:=.agg (jU S).toArray
theorem cQ(S:CS):Value.agg (jU S).toArray=bO S:=rfl
theorem jt(S:CS):(jU S).length=4:=rfl
theorem kB(S:CS):List.take 4 ((jU S).map SV.v)=(jU S).map SV.v:=rfl
theorem kM(S:CS):List.drop 4 ((jU S).map SV.v)=[]:=rfl
theorem jh(S:CS):cI ((jU S).map SV.v)=some (jU S):=rfl
theorem nN(S:CS):((jU S).map SV.v).all cp=true:=rfl
theorem A5(E:Nat->Value)(S:CS):den E (.agg ((jU S).map SV.v))=bO S:=rfl
theorem ie(S:CS):((jU S).map SV.v).length=4:=rfl
theorem dD(S:CS):partsOf (.v (bO S))=(jU S).map SV.v:=rfl
theorem Tq(S:CS)(j i:Nat)(hi:i<64):(BitVec.ofInt 64 (wd S j)).getLsbD i=S.getLsbD (64*j+i):=by
 rw[wd,gS,BitVec.getLsbD_extractLsb'];simp[hi]
theorem bW(S T:CS)(h:bO S=bO T):S=T:=by
 have h:(jU S)=jU T:=congrArg (λv=>match v with|Value.agg a=>a.toList|_=>[]) h;simp only[jU,List.cons.injEq,Value.int.injEq,true_and,and_true]at h;have e0:=h.1;have e1:=h.2.1;have e2:=h.2.2.1;have e3:=h.2.2.2;apply BitVec.eq_of_getLsbD_eq;intro i hi
 have key:∀ j,wd S j=wd T j->i / 64=j->S.getLsbD i=T.getLsbD i:=λj e hj=>by
  have h1:=Tq S j (i % 64) oM;have h2:=Tq T j (i % 64) oM;rw[e]at h1;have:64*j+i % 64=i:=oM;rw[this]at h1 h2;rw[<- h1,<- h2]
 have:i / 64=0\/i / 64=1\/i / 64=2\/i / 64=3:=oM;rcases this with h|h|h|h
 ·exact key 0 e0 h
 ·exact key 1 e1 h
 ·exact key 2 e2 h
 ·exact key 3 e3 h
def Bg:=(ak @List.replicate_succ.{0} @List.replicate_zero.{0} @aq @ae lP lM lA (ak dI dK dJ dG dr dt du (ak dq mJ mh mG mT mf fq (ak fu ft fh ff fm ov oQ (ak oN oP sD sX sE sH @bO.eq_1 (aa @acy @aaD))))))
theorem Lc(S T:CS)(w:World):Calls prog 274 #[bO S,bO T] w λe w' => e=.returned (bO (S ||| T))/\af w [] w' := by
 refine av (nt:=26) [.cell 4 309] func274 rfl rfl rfl ?_;refine vR Γ0 (aa Bg @jU.eq_1) ?_;refine vR Γ0 (aa Bg @jU.eq_1) ?_;refine wZ Bg ?_;exact λE=>rfl
theorem Yn(S:CS)(w:World):Calls prog 224 #[bO S] w λe w' => e=.returned (bO (~~~S))/\af w [] w' := by
 have h0:=AO S 0 oM;have h1:=AO S 1 oM;have h2:=AO S 2 oM;have h3:=AO S 3 oM;refine av (nt:=16) [.cell 2 309] func224 rfl rfl rfl ?_;refine vR Γ0 (aa Bg @jU.eq_1) ?_;refine vR Γ0 (oR Bg @jU.eq_1 h0 h1 h2 h3) ?_;refine wZ Bg ?_;exact λE=>rfl
theorem Xr(S:CS)(b:Nat)(hb:b<256)(w:World):Calls prog 225 #[bO S,.int .u8 b] w λe w' => e=.returned (.bool (S.getLsbD b))/\af w [] w' := by
 have hq:b / 64<4:=oM;refine av (nt:=14) [.tmp 4] func225 rfl rfl rfl ?_;refine vR Γ0 Bg ?_
 refine Wp.Uf Γ0 cr (by simp only[mM,Op.operands,Value.cells,σ0,σB,Nat.reduceEqDiff,Nat.reduceAdd,Nat.reduceMul,Nat.reduceLT,Nat.reduceLeDiff,Nat.reduceBEq,ax,Int.reduceToNat,Int.reduceLT,Int.reduceLE,Nat.reduceDiv,Nat.reduceMod,Nat.reduceSub,Int.reducePow,Nat.reducePow,σP,σB3,Bg,pA,E4 b hb,fX S _ hq,aax S b hb,B8];exact rfl) rfl ?_ ?_
 ·exact oo
 refine wZ Bg ?_;exact λE=>rfl
def vy(lo:Nat):Nat->CS
 |0=>0
 |n+1=>tG (vy lo n) (lo+n)
def span(lo hi:Nat):CS:=vy lo (hi+1-lo)
theorem xD:(jU 0).map SV.v=[SV.v (.int .u64 0),SV.v (.int .u64 0),SV.v (.int .u64 0),SV.v (.int .u64 0)]:=by
 simp[jU,wd]
def iM:=(ak @List.replicate_succ.{0} @List.replicate_zero.{0} @aq @ae lP lM lA (ak dI dK dJ dG dr dt du (ak dq mJ mh mG mT mf fq (ak fu ft fh ff fm ov oQ (NT oN oP sD sX sE sH @bO.eq_1)))))
theorem OR(lo hi:Nat)(hl:lo<256)(hh:hi<256)(w:World):Calls prog 271 #[.int .u8 lo,.int .u8 hi] w λe w' => e=.returned (bO (span lo hi))/\af w [] w' := by
 have w0:IntKind.i64.wrap (lo:Int)=lo:=aH oM oM;have w1:IntKind.i64.wrap (hi:Int)=hi:=aH oM oM;refine av (nt:=25) [.cell 4 309] func271 rfl rfl rfl ?_;refine vR Γ0 iM ?_;refine vR Γ0 iM ?_;refine Wp.seq (Wp.seq ?_);refine vr Γ0 (aa iM w0) ?_;refine Wp.block ?_
 refine Wp.loop (λj:Nat=>⟨2,cL [(1,.is (.v (.int .u8 hi))),(4,.is (.own 0 0)),(5,.is (.own 8 0)),(6,.is (.v (.int .i64 ((lo+j:Nat):Int))))],cf [(0,.cells 309 [.v (.int .u64 0),.v (.int .u64 0),.v (.int .u64 0),.v (.int .u64 0)]),(8,.cells 309 ((jU (vy lo j)).map .v))]⟩)
  (λj=>j<=hi+1-lo) (λj=>hi+1-lo-j) 0 ?_ (Nat.zero_le _) ?_
 ·exact wM (λk=>.key k) (iS iM @vy.eq_1 @vy.eq_2 @xD)
 rintro j h1;have hr2:IntKind.i64.wrap ((lo+j:Nat):Int)=((lo+j:Nat):Int):=aH oM oM;refine Wp.seq ?_;refine vR Γ0 (aa iM w1) ?_;refine wC iM (λhc=>?_) (λhc=>?_)
 ·simp only[decide_eq_true_eq]at hc;have hb:lo+j<256:=oM;have hq:(lo+j) / 64<4:=oM;have wn:IntKind.i64.wrap (((lo+j:Nat):Int)+1)=((lo+(j+1):Nat):Int):=wW;refine wK ?_;refine Wp.seq (Wp.block ?_)
  refine Wp.UX Γ0 cr (by simp only[mM,Op.operands,Value.cells,σ0,σB,Nat.reduceEqDiff,Nat.reduceAdd,Nat.reduceMul,Nat.reduceLT,Nat.reduceLeDiff,Nat.reduceBEq,ax,Int.reduceToNat,Int.reduceLT,Int.reduceLE,Nat.reduceDiv,Nat.reduceMod,Nat.reduceSub,Int.reducePow,Nat.reducePow,σP,σB3,iM,pA,L6 _ hb,fX _ _ hq,qV _ _ hb,jn _ _ hb,B8];exact rfl) rfl (by kernel_rfl) ?_ ?_
  ·exact oo
  refine qq ?_;refine vr Γ0 (aa iM wn) ?_;refine⟨j+1,oM,oM,?_⟩
  exact Le.mk (λk=>.key k) ⟨by simp[FV.keys,SV.keys,al],by simp[aI.keys,al,SV.keys,aA,aJ]⟩ (by simp only[mM,Op.operands,Value.cells,σ0,σB,Nat.reduceEqDiff,Nat.reduceAdd,Nat.reduceMul,Nat.reduceLT,Nat.reduceLeDiff,Nat.reduceBEq,ax,Int.reduceToNat,Int.reduceLT,Int.reduceLE,Nat.reduceDiv,Nat.reduceMod,Nat.reduceSub,Int.reducePow,Nat.reducePow,σP,σB3,iM,vy,pA,fX _ _ hq,qV _ _ hb,jn _ _ hb,Hv,G1,fg,fc]<;>trivial) (by simp only[mM,Op.operands,Value.cells,σ0,σB,Nat.reduceEqDiff,Nat.reduceAdd,Nat.reduceMul,Nat.reduceLT,Nat.reduceLeDiff,Nat.reduceBEq,ax,Int.reduceToNat,Int.reduceLT,Int.reduceLE,Nat.reduceDiv,Nat.reduceMod,Nat.reduceSub,Int.reducePow,Nat.reducePow,σP,σB3,iM,vy,pA,fX _ _ hq,qV _ _ hb,jn _ _ hb,td,lN,fP,fV,fz,fg]<;>trivial) (by simp[dc]) sI
 ·simp only[decide_eq_false_iff_not]at hc;have hj:j=hi+1-lo:=oM;refine wE ?_;refine vR Γ0 (aa iM @jU.eq_1) ?_;refine wZ iM ?_;subst hj;exact λE=>rfl
def NY(s:ByteArray):Nat->CS
 |0=>0
 |n+1=>tG (NY s n) (bt s n).toNat
theorem gm(s:ByteArray)(i:Int):0<=bt s i/\bt s i<256:=by
 unfold bt;have:=(s.data[i.toNat]?.getD 0).toNat_lt;omega
theorem aa1(s:ByteArray)(hs:s.size<=140737488351232)(w:World):Calls prog 245 #[.string s] w λe w' => e=.returned (bO (NY s s.size))/\af w [] w' := by
 refine av (nt:=25) [.cell 2 309] func245 rfl rfl rfl ?_;refine vR Γ0 iM ?_;refine vR Γ0 iM ?_;refine Wp.seq ?_;refine vR Γ0 iM ?_;refine Wp.block ?_
 refine Wp.loop (λj:Nat=>⟨2,cL [(0,.is (.v (.string s))),(2,.is (.own 0 0)),(3,.is (.own 8 0)),(6,.is (.v (.int .i64 s.size))),(7,.is (.v (.int .i64 j)))],cf [(0,.cells 309 [.v (.int .u64 0),.v (.int .u64 0),.v (.int .u64 0),.v (.int .u64 0)]),(8,.cells 309 ((jU (NY s j)).map .v))]⟩)
  (λj=>j<=s.size) (λj=>s.size-j) 0 ?_ (Nat.zero_le _) ?_
 ·exact wM (λk=>.key k) (iS iM @NY.eq_1 @NY.eq_2 @xD)
 rintro j h1;refine vR Γ0 iM ?_;refine Wp.seq ?_;refine wC iM (λhc=>?_) (λhc=>?_)
 ·simp only[decide_eq_true_eq]at hc;have hj:j<s.size:=oM;obtain⟨b0,b1⟩:=gm s j;obtain⟨b,hbe⟩:=Int.eq_ofNat_of_zero_le b0;have hb:b<256:=oM;have hq:b / 64<4:=oM;have hof:NY s (j+1)=tG (NY s j) b:=by rw[NY,hbe];rfl
  have wn:IntKind.i64.wrap ((j:Int)+1)=((j+1:Nat):Int):=wW;refine wK ?_;refine Wp.seq (Wp.block ?_);refine vR Γ0 iM ?_
  refine Wp.UX Γ0 cr (by simp only[mM,Op.operands,Value.cells,σ0,σB,Nat.reduceEqDiff,Nat.reduceAdd,Nat.reduceMul,Nat.reduceLT,Nat.reduceLeDiff,Nat.reduceBEq,ax,Int.reduceToNat,Int.reduceLT,Int.reduceLE,Nat.reduceDiv,Nat.reduceMod,Nat.reduceSub,Int.reducePow,Nat.reducePow,σP,σB3,iM,hbe,pA,E4 _ hb,fX _ _ hq,qV _ _ hb,jn _ _ hb,B8];exact rfl) rfl (by kernel_rfl) ?_ ?_
  ·exact oo
  refine qq ?_;refine vr Γ0 (aa iM wn) ?_;refine⟨j+1,oM,oM,?_⟩
  exact Le.mk (λk=>.key k) ⟨by simp[FV.keys,SV.keys,al],by simp[aI.keys,al,SV.keys,aA,aJ]⟩ (by simp only[mM,Op.operands,Value.cells,σ0,σB,Nat.reduceEqDiff,Nat.reduceAdd,Nat.reduceMul,Nat.reduceLT,Nat.reduceLeDiff,Nat.reduceBEq,ax,Int.reduceToNat,Int.reduceLT,Int.reduceLE,Nat.reduceDiv,Nat.reduceMod,Nat.reduceSub,Int.reducePow,Nat.reducePow,σP,σB3,iM,hof,hbe,pA,fX _ _ hq,qV _ _ hb,jn _ _ hb,Hv,G1,fg,fc]<;>trivial) (by simp only[mM,Op.operands,Value.cells,σ0,σB,Nat.reduceEqDiff,Nat.reduceAdd,Nat.reduceMul,Nat.reduceLT,Nat.reduceLeDiff,Nat.reduceBEq,ax,Int.reduceToNat,Int.reduceLT,Int.reduceLE,Nat.reduceDiv,Nat.reduceMod,Nat.reduceSub,Int.reducePow,Nat.reducePow,σP,σB3,iM,hof,hbe,pA,fX _ _ hq,qV _ _ hb,jn _ _ hb,td,lN,fP,fV,fz,fg]<;>trivial) (by simp[dc]) sI
 ·simp only[decide_eq_false_iff_not]at hc;have hj:j=s.size:=oM;refine wE ?_;refine vR Γ0 (aa iM @jU.eq_1) ?_;refine wZ iM ?_;subst hj;exact λE=>rfl
def vO(s:ByteArray)(c:Int):Int:=Lib.indexByte s.data.toList c.toNat.toUInt8
def Y6:Kp prog 231 where
 pre:=λ_ _=>λ| [.val (.string _),.val (.int .u8 _)]=>True|_=>False
 res:=λ_=>λ| [.val (.string s),.val (.int .u8 c)]=>.int .i64 (vO s c)|_=>undef
 ok:=by
  intro W w bs us as_ hk hu hp;split at hp
  ·rename_i s c
   match us,hu with
   |[u,v],hu=>
    obtain⟨rfl,rfl,_⟩:=hu;rw[run_callFunc_extern func231 (by kernel_rfl) (by kernel_rfl) (by kernel_rfl) (e:=Extern.BytealgIndexByte.indexByte) (by kernel_rfl),Lib.run_indexByteString];rfl
  ·exact hp.elim
theorem XA(W:World)(s:ByteArray)(c:Int):Y6.res W [.val (.string s),.val (.int .u8 c)]=.int .i64 (vO s c):=rfl
theorem U6(W:World)(bs:List Nat)(s:ByteArray)(c:Int):Y6.pre W bs [.val (.string s),.val (.int .u8 c)]=True:=rfl
noncomputable def Γ10:Env prog:=⟨λ| 231=>some Y6.spec|_=>none,λ| _=>none,λ_ _=>none⟩
theorem Ud:Γ10.sp 231=some Y6.spec:=rfl
def Yp:=(ak @List.replicate_succ.{0} @List.replicate_zero.{0} @aq @ae lP lM lA (ak dI dK dJ dG dr dt du (ak dq mJ mh mG mT mf fq (ak fu ft fh ff fm TM PY (ak Qf Ti vC vF vv uD uL (ak uA xM xm vS vU JY Ky (ak Kb JV Jh J4 JE Ju Jx (ak I0 Jk Kv Jz @a6 @aw @aD (iS @aE @XA @U6 Ud)))))))))
theorem Mg(s:ByteArray)(c:Int)(w:World):Calls prog 189 #[.string s,.int .u8 c] w λe w' => e=.returned (.int .i64 (vO s c))/\af w [] w' := by
 refine av (nt:=8) [.tmp 4] func189 rfl rfl rfl ?_;refine vR Γ10 Yp ?_;refine vR Γ10 Yp ?_;refine wZ Yp ?_;exact λE=>rfl
def Jm:bu prog 189 where
 pre:=λW bs=>λ| [.val (.string s),.val (.int .u8 c)]=>True|_=>False
 res:=λW=>λ| [.val (.string s),.val (.int .u8 c)]=>.int .i64 (vO s c)|_=>undef
 enters:=call189
 ok:=by
  intro W w bs us as_ hk hu hp;split at hp
  ·rename_i s c
   match us,hu with
   |[u0,u1],hu=>
    obtain⟨rfl,rfl,_⟩:=hu;exact Mg s c w
  ·exact hp.elim
theorem Ma(W:World)(s:ByteArray)(c:Int):Jm.res W [.val (.string s),.val (.int .u8 c)]=.int .i64 (vO s c):=rfl
theorem Lj(W:World)(bs:List Nat)(s:ByteArray)(c:Int):Jm.pre W bs [.val (.string s),.val (.int .u8 c)]=(True):=rfl
noncomputable def Zz:Env prog:=⟨λ| 189=>some Jm.spec|_=>none,λ| _=>none,λ_ _=>none⟩
theorem V4:Zz.sp 189=some Jm.spec:=rfl
def Xx:=(iS Yp Ma Lj V4)
theorem aam(s:ByteArray)(c:Int)(w:World):Calls prog 138 #[.string s,.int .u8 c] w λe w' => e=.returned (.int .i64 (vO s c))/\af w [] w' := by
 refine av (nt:=8) [.tmp 4] func138 rfl rfl rfl ?_;refine vR Zz Xx ?_;refine vR Zz Xx ?_;refine wZ Xx ?_;exact λE=>rfl
def T8:bu prog 138 where
 pre:=λW bs=>λ| [.val (.string s),.val (.int .u8 c)]=>True|_=>False
 res:=λW=>λ| [.val (.string s),.val (.int .u8 c)]=>.int .i64 (vO s c)|_=>undef
 enters:=call138
 ok:=by
  intro W w bs us as_ hk hu hp;split at hp
  ·rename_i s c
   match us,hu with
   |[u0,u1],hu=>
    obtain⟨rfl,rfl,_⟩:=hu;exact aam s c w
  ·exact hp.elim
theorem BU(W:World)(s:ByteArray)(c:Int):T8.res W [.val (.string s),.val (.int .u8 c)]=.int .i64 (vO s c):=rfl
theorem AF(W:World)(bs:List Nat)(s:ByteArray)(c:Int):T8.pre W bs [.val (.string s),.val (.int .u8 c)]=(True):=rfl
def A3(s:ByteArray)(i:Int):List AV:=[.val (.string s),.val (.int .i64 i)]
def il(i:Int):List PanicEntry:=[{ v:=.iface 39 (.agg #[.int .i64 10,.int .i64 i,.string ⟨#[]⟩]),recovered:=false }]
def CY:=(dx Xx @BU @AF)
theorem Rw(s:ByteArray)(i:Int)(u:Value)(fp:List Nat)(w:World)(h0:0<=i)(ho:bJ w u fp 375 (A3 s i))(hlt:∀ b∈fp,b<w.heap.size) :
  Calls prog 272 (#[u]++#[]) w λe w' => iQ w u fp 375 e w' (.ret (.tuple #[.int .u8 (bt s i),.bool (decide (i<s.size))]) (A3 s i)):=by
 refine bx (nt:=23) #[] [.tmp 2,.tmp 3] (by show 2<=7;omega) ho hlt func272 rfl rfl rfl ?_;refine vR Zz (aa CY @A3.eq_1) ?_;refine Wp.seq ?_;refine JM Zz CY ?_;refine wC CY (λhc=>?_) (λhc=>?_)
 ·simp only[decide_eq_true_eq]at hc;refine JM Zz CY ?_;refine wZ CY ?_;exact⟨_,_,rfl,λE=>by rw[decide_eq_true hc];rfl,_,_,rfl,rfl,dE⟩
 ·simp only[decide_eq_false_iff_not]at hc;have hb:bt s i=0:=by
   unfold bt;rw[Array.getElem?_eq_none (by have:s.data.size=s.size:=rfl;omega)];rfl
  refine wK ?_;refine vR Zz CY ?_;refine wZ CY ?_;exact⟨_,_,rfl,λE=>by rw[decide_eq_false hc,hb];rfl,_,_,rfl,rfl,dE⟩
def mo:eW prog 272 where
 T:=375
 pre:=λW bs fs as_=>match fs,as_ with|[.val (.string s),.val (.int .i64 i)],[]=>0<=i|_,_=>False
 out:=λW fs as_=>match fs,as_ with|[.val (.string s),.val (.int .i64 i)],[]=>.ret (.tuple #[.int .u8 (bt s i),.bool (decide (i<s.size))]) (A3 s i)|_,_=>.pan [] undef
 enters:=call272
 ok:=by
  intro W w bs u fp us fs as_ hk ho hlt hmine hu hp;split at hp
  ·rename_i s i
   match us,hu with
   |[],_=>
    exact Rw s i u fp w hp ho hlt
  ·exact hp.elim
theorem q5(W:World)(s:ByteArray)(i:Int):mo.out W [.val (.string s),.val (.int .i64 i)] []=.ret (.tuple #[.int .u8 (bt s i),.bool (decide (i<s.size))]) (A3 s i):=rfl
theorem ri(W:World)(bs:List Nat)(s:ByteArray)(i:Int):mo.pre W bs [.val (.string s),.val (.int .i64 i)] []=(0<=i):=rfl
theorem A2:mo.T=375:=rfl
def aeR:=(iS CY @q5 @ri @A2)
theorem OP(s:ByteArray)(i j:Int)(u:Value)(fp:List Nat)(w:World)(ho:bJ w u fp 375 (A3 s i))(hlt:∀ b∈fp,b<w.heap.size) :
  Calls prog 273 (#[u]++#[.int .i64 j]) w λe w' => iQ w u fp 375 e w' (.pan (il j) (.tuple #[])):=by
 refine bx (nt:=7) #[.int .i64 j] [] (by show 2<=7;omega) ho hlt func273 rfl rfl rfl ?_;refine Wp.om Zz cr (ev (aa aeR @A3.eq_1)) ?_ ?_
 ·exact oo
 refine qq ?_;exact⟨_,rfl⟩
def mD:eW prog 273 where
 T:=375
 pre:=λW bs fs as_=>match fs,as_ with|[.val (.string s),.val (.int .i64 i)],[.val (.int .i64 j)]=>True|_,_=>False
 out:=λW fs as_=>match fs,as_ with|[.val (.string s),.val (.int .i64 i)],[.val (.int .i64 j)]=>.pan (il j) (.tuple #[])|_,_=>.pan [] undef
 enters:=call273
 ok:=by
  intro W w bs u fp us fs as_ hk ho hlt hmine hu hp;split at hp
  ·rename_i s i j
   match us,hu with
   |[u0],hu=>
    obtain⟨rfl,_⟩:=hu;exact OP s i j u fp w ho hlt
  ·exact hp.elim
theorem zw(W:World)(s:ByteArray)(i:Int)(j:Int):mD.out W [.val (.string s),.val (.int .i64 i)] [.val (.int .i64 j)]=.pan (il j) (.tuple #[]):=rfl
theorem yR(W:World)(bs:List Nat)(s:ByteArray)(i:Int)(j:Int):mD.pre W bs [.val (.string s),.val (.int .i64 i)] [.val (.int .i64 j)]=(True):=rfl
theorem Jg:mD.T=375:=rfl
noncomputable def T0:Env prog:=⟨λ| 138=>some T8.spec|272=>some mo.spec|273=>some mD.spec|_=>none,λ| _=>none,λ_ _=>none⟩
theorem U3:T0.sp 138=some T8.spec:=rfl
theorem VV:T0.sp 272=some mo.spec:=rfl
theorem Yi:T0.sp 273=some mD.spec:=rfl
def sg:ByteArray:=⟨#[48,49,50,51,52,53,54,55,56,57,97,98,99,100,101,102]⟩
def ya(s:ByteArray):Except Int (Int×Int)->BOut
 |.ok (b,j)=>.ret (.int .u8 b) (A3 s j)
 |.error j=>.pan (il j) (.int .u8 0)
def mX(s:ByteArray)(i:Int):Except Int (Int×Int):=if i<s.size/\0<=vO sg (bt s i) then .ok (vO sg (bt s i),i+1) else .error i
theorem Kz(c:Int)(h0:0<=c)(h1:c<256):-1<=vO sg c/\vO sg c<16:=by
 obtain⟨n,rfl⟩:=Int.eq_ofNat_of_zero_le h0;have:∀ b:Fin 256,-1<=vO sg ((b.val:Nat):Int)/\vO sg ((b.val:Nat):Int)<16:=by decide +kernel
 exact this ⟨n,oM⟩
theorem pq{n:Int}(h0:0<=n)(h1:n<256):IntKind.u8.wrap n=n:=by
 simp only[IntKind.wrap,IntKind.bits,IntKind.signed,Bool.false_and,Bool.false_eq_true,if_false,decide_false,show (2:Int) ^ 8=256 from rfl];omega
theorem JK(s:ByteArray)(b j:Int):ya s (.ok (b,j))=.ret (.int .u8 b) (A3 s j):=rfl
theorem va(s:ByteArray)(j:Int):ya s (.error j)=.pan (il j) (.int .u8 0):=rfl
def oH:=(ak @List.replicate_succ.{0} @List.replicate_zero.{0} @aq @ae lP lM lA (ak dI dK dJ dG dr dt du (ak dq mJ mh mG mT mf fq (ak fu ft fh ff fm JY Ky (ak ZQ Zq Y4 Zg ZC Zv Y9 (ak ZN Ze ZD Kb JV Jh J4 (ak JE Ju Jx I0 Jk Kv Jz (ak @a6 @aw @aD @aE @BU @AF @q5 (ak @ri @A2 @zw @yR @Jg @A3.eq_1 @il.eq_1 (dx U3 VV Yi))))))))))
theorem WV(s:ByteArray)(i:Int)(u:Value)(fp:List Nat)(w:World)(h0:0<=i)(hs:s.size<=140737488351232)(ho:bJ w u fp 375 (A3 s i))(hlt:∀ b∈fp,b<w.heap.size) :
  Calls prog 276 (#[u]++#[]) w λe w' => iQ w u fp 375 e w' (ya s (mX s i)):=by
 obtain⟨b0,b1⟩:=gm s i;obtain⟨x0,x1⟩:=Kz _ b0 b1;refine bx (nt:=34) #[] [.tmp 2] (by show 2<=7;omega) ho hlt func276 rfl rfl rfl ?_;refine vR T0 oH ?_;refine wR T0 oH ?_ ?_
 ·simp[h0]
 refine vR T0 oH ?_;refine Wp.seq ?_;refine vR T0 oH ?_;refine wC oH (λhc=>?_) (λhc=>?_)
 ·have he:mX s i=.error i:=by
   rw[mX,if_neg];simp[sg]at hc ⊢;omega
  rw[he];refine Wp.om T0 cr (ev oH) ?_ ?_
  ·simp
  refine qq ?_;exact⟨_,rfl⟩
 ·have hi:i<s.size/\0<=vO sg (bt s i):=by
   simp[sg]at hc ⊢;omega
  have he:mX s i=.ok (vO sg (bt s i),i+1):=by rw[mX,if_pos hi]
  have w1:IntKind.i64.wrap (i+1)=i+1:=aH oM oM;have w2:IntKind.u8.wrap (vO sg (bt s i))=vO sg (bt s i):=pq hi.2 oM;rw[he];refine wK ?_;refine vR T0 (aa oH w1) ?_;refine vR T0 (aa oH w2) ?_;refine wZ oH ?_
  exact⟨_,_,rfl,λE=>by simp only[den];rw[show vO sg (bt s i)=vO ⟨#[48,49,50,51,52,53,54,55,56,57,97,98,99,100,101,102]⟩ (bt s i) from rfl]at w2;exact congrArg _ w2,_,_,rfl,rfl,dE⟩
def SW:eW prog 276 where
 T:=375
 pre:=λW bs fs as_=>match fs,as_ with|[.val (.string s),.val (.int .i64 i)],[]=>0<=i/\s.size<=140737488351232|_,_=>False
 out:=λW fs as_=>match fs,as_ with|[.val (.string s),.val (.int .i64 i)],[]=>ya s (mX s i)|_,_=>.pan [] undef
 enters:=call276
 ok:=by
  intro W w bs u fp us fs as_ hk ho hlt hmine hu hp;split at hp
  ·rename_i s i
   match us,hu with
   |[],_=>
    exact WV s i u fp w hp.1 hp.2 ho hlt
  ·exact hp.elim
theorem OI(W:World)(s:ByteArray)(i:Int):SW.out W [.val (.string s),.val (.int .i64 i)] []=ya s (mX s i):=rfl
theorem Qk(W:World)(bs:List Nat)(s:ByteArray)(i:Int):SW.pre W bs [.val (.string s),.val (.int .i64 i)] []=(0<=i/\s.size<=140737488351232):=rfl
theorem aaS:SW.T=375:=rfl
noncomputable def mE:Env prog:=⟨λ| 138=>some T8.spec|272=>some mo.spec|273=>some mD.spec|276=>some SW.spec|_=>none,λ| _=>none,λ_ _=>none⟩
theorem Ul:mE.sp 138=some T8.spec:=rfl
theorem VZ:mE.sp 272=some mo.spec:=rfl
theorem U4:mE.sp 273=some mD.spec:=rfl
theorem XL:mE.sp 276=some SW.spec:=rfl
def aV(W:World)(S:Nat->Prop):Prop:=S 4/\W.cell? ⟨4,0,none⟩=some (.int .u8 110)/\W.cell? ⟨4,0+1,none⟩=some (.int .u8 10)/\W.cell? ⟨4,0+1+1,none⟩=some (.int .u8 114)/\W.cell? ⟨4,0+1+1+1,none⟩=some (.int .u8 13) /\
 W.cell? ⟨4,0+1+1+1+1,none⟩=some (.int .u8 116)/\W.cell? ⟨4,0+1+1+1+1+1,none⟩=some (.int .u8 9)
theorem aV.mono{W W' : World}{S S' : Nat->Prop}(h:aV W S)(hs:bV W S W' S'):aV W' S' := by
 obtain⟨h0,h1,h2,h3,h4,h5,h6⟩:=h;have g:∀ o v,W.cell? ⟨4,o,none⟩=some v->W'.cell? ⟨4,o,none⟩=some v/\S' 4:=λo v hv=>by
  have:=XC.mono (b:=4) (o:=o) (v:=v) ⟨h0,hv⟩ hs;exact⟨this.2,this.1⟩
 exact⟨(g _ _ h1).2,(g _ _ h1).1,(g _ _ h2).1,(g _ _ h3).1,(g _ _ h4).1,(g _ _ h5).1,(g _ _ h6).1⟩
theorem aV.cP{W w:World}{bs fp:List Nat}(h:aV W (Out bs))(hk:af W bs w)(hm:∀ b∈fp,W.heap.size<=b\/b∈bs):aV w (Out fp):=
 h.mono λb hb hs=>⟨hk.block b hb hs,λhb' => (hm b hb').elim (λg=>absurd g (Nat.not_le.2 hb)) hs⟩
def jW(s:ByteArray)(i:Int):Except Int (Int×Int):=
 if ¬ i<s.size then .error i
 else if bt s i=110 then .ok (10,i+1)
 else if bt s i=114 then .ok (13,i+1)
 else if bt s i=116 then .ok (9,i+1)
 else if bt s i=120 then
  match mX s (i+1) with
  |.error j=>.error j
  |.ok (h,j)=>match mX s j with
   |.error k=>.error k
   |.ok (l,k)=>.ok (16*h+l,k)
 else if (((bt s i<32\/126<bt s i)\/48<=bt s i/\bt s i<=57)\/97<=bt s i/\bt s i<=122)\/65<=bt s i/\bt s i<=90 then .error i
 else .ok (bt s i,i+1)
theorem um{s:ByteArray}{i h j:Int}(he:mX s i=.ok (h,j))(h0:0<=i):0<=h/\h<16/\j=i+1/\i<s.size:=by
 rw[mX]at he;split at he
 ·rename_i hc;simp only[Except.ok.injEq,Prod.mk.injEq]at he;obtain⟨rfl,rfl⟩:=he;obtain⟨b0,b1⟩:=gm s i;have:=Kz _ b0 b1;exact⟨hc.2,this.2,rfl,hc.1⟩
 ·cases he
theorem Z4(h l:Int)(h0:0<=h)(h1:h<16)(l0:0<=l)(l1:l<16):bI .or .u8 (IntKind.u8.wrap (h*16)) l=16*h+l:=by
 obtain⟨n,rfl⟩:=Int.eq_ofNat_of_zero_le h0;obtain⟨m,rfl⟩:=Int.eq_ofNat_of_zero_le l0;have:∀ a b:Fin 16,bI .or .u8 (IntKind.u8.wrap (((a.val:Nat):Int)*16)) ((b.val:Nat):Int)=16*((a.val:Nat):Int)+((b.val:Nat):Int):=by decide +kernel
 exact this ⟨n,oM⟩ ⟨m,oM⟩
def bn:=(ak oH OI Qk aaS @JK @va Ul (dx VZ U4 XL))
theorem Wh(s:ByteArray)(i:Int)(u:Value)(fp:List Nat)(w:World)(h0:0<=i)(hs:s.size<=140737488351232)(hg:aV w (Out fp))(ho:bJ w u fp 375 (A3 s i))(hlt:∀ b∈fp,b<w.heap.size) :
  Calls prog 275 (#[u]++#[]) w λe w' => iQ w u fp 375 e w' (ya s (jW s i)):=by
 obtain⟨b0,b1⟩:=gm s i;obtain⟨g0,g1,g2,g3,g4,g5,g6⟩:=hg;have g0' : ¬ 4∈fp:=g0;refine bx (nt:=99) #[] [.tmp 2] (by show 2<=7;omega) ho hlt func275 rfl rfl rfl ?_;refine vR mE bn ?_;refine wR mE bn ?_ ?_
 ·simp[h0]
 refine Wp.seq ?_;refine vR mE bn ?_;refine wC bn (λhc=>?_) (λhc=>?_)
 ·simp at hc;have he:jW s i=.error i:=by rw[jW,if_pos oM]
  rw[he];refine Wp.om mE cr (ev bn) ?_ ?_
  ·simp
  refine qq ?_;exact⟨_,rfl⟩
 ·simp at hc;have hi:i<s.size:=oM;have w1:IntKind.i64.wrap (i+1)=i+1:=aH oM oM;refine wK ?_;refine Wp.seq ?_;refine wR mE (NT bn g1 g2 g3 g4 g5 g6) ?_ ?_
  ·simp[Out,g0',al,SV.keys]
  refine Wp.block ?_
  refine Wp.loop (λk:Nat=>⟨40,cL [(0,.is (.own 0 0)),(3,.is (.v (.int .u8 (bt s i)))),(21,.is (.agg [.v (.int .u8 110),.v (.int .u8 10),.v (.int .u8 114),.v (.int .u8 13),.v (.int .u8 116),.v (.int .u8 9)])),(22,.is (.v (.int .i64 k)))],cf [(0,.cells 375 [.v (.string s),.v (.int .i64 i)])]⟩)
   (λk=>k<=3/\(0<k->bt s i≠110)/\(1<k->bt s i≠114)/\(2<k->bt s i≠116)) (λk=>3-k) 0 ?_ ⟨oM,oM,oM,oM⟩ ?_
  ·exact wM (λk=>.key k) bn
  rintro k ⟨k0,k1,k2,k3⟩;refine vR mE bn ?_;refine Wp.seq ?_;refine wC bn (λhc=>?_) (λhc=>?_)
  ·simp at hc;refine wK ?_;have hk3:k<3:=oM;have hcase:k=0\/k=1\/k=2:=oM;refine Wp.seq (Wp.block ?_);rcases hcase with rfl|rfl|rfl
   ·skip;refine vR mE bn ?_;refine vR mE bn ?_;refine wC bn (λhc=>?_) (λhc=>?_)
    ·simp at hc;have he:jW s i=.ok (10,i+1):=by rw[jW,if_neg oM,if_pos oM]
     rw[he];refine vR mE (aa bn w1) ?_;refine vR mE bn ?_;refine wZ bn ?_;exact⟨_,_,rfl,λE=>rfl,_,_,rfl,rfl,dE⟩
    ·simp at hc;refine wK ?_;refine vr mE bn ?_;refine⟨1,⟨oM,oM,oM,oM⟩,oM,?_⟩;exact wM (λk=>.key k) bn
   ·skip;refine vR mE bn ?_;refine vR mE bn ?_;refine wC bn (λhc=>?_) (λhc=>?_)
    ·simp at hc;have he:jW s i=.ok (13,i+1):=by rw[jW,if_neg oM,if_neg (k1 oM),if_pos oM]
     rw[he];refine vR mE (aa bn w1) ?_;refine vR mE bn ?_;refine wZ bn ?_;exact⟨_,_,rfl,λE=>rfl,_,_,rfl,rfl,dE⟩
    ·simp at hc;refine wK ?_;refine vr mE bn ?_;refine⟨2,⟨oM,oM,oM,oM⟩,oM,?_⟩;exact wM (λk=>.key k) bn
   ·skip;refine vR mE bn ?_;refine vR mE bn ?_;refine wC bn (λhc=>?_) (λhc=>?_)
    ·simp at hc;have he:jW s i=.ok (9,i+1):=by rw[jW,if_neg oM,if_neg (k1 oM),if_neg (k2 oM),if_pos oM]
     rw[he];refine vR mE (aa bn w1) ?_;refine vR mE bn ?_;refine wZ bn ?_;exact⟨_,_,rfl,λE=>rfl,_,_,rfl,rfl,dE⟩
    ·simp at hc;refine wK ?_;refine vr mE bn ?_;refine⟨3,⟨oM,oM,oM,oM⟩,oM,?_⟩;exact wM (λk=>.key k) bn
  ·simp at hc;have k33:k=3:=oM;subst k33;refine wE ?_;refine Wp.seq ?_;refine vR mE bn ?_;refine wC bn (λhc=>?_) (λhc=>?_)
   ·simp at hc;have he:jW s i=match mX s (i+1) with
      |.error j=>.error j
      |.ok (h,j)=>match mX s j with
       |.error k=>.error k
       |.ok (l,k)=>.ok (16*h+l,k):=by rw[jW,if_neg oM,if_neg oM,if_neg oM,if_neg oM,if_pos hc]
    refine vR mE (aa bn w1) ?_;cases h1:mX s (i+1) with
    |error j=>
     rw[he,h1];refine Wp.iT mE cr (ev (aa bn h1)) ?_ ?_
     ·simp[w1];omega
     refine qq ?_;exact⟨_,rfl⟩
    | ok p=>
     obtain⟨h,j⟩:=p;obtain⟨q0,q1,rfl,q3⟩:=um h1 oM;refine wR mE (aa bn h1) ?_ ?_
     ·simp[w1];omega
     cases h2:mX s (i+1+1) with
     |error j=>
      rw[he,h1];simp only[h2];refine Wp.iT mE cr (ev (aa bn h2)) ?_ ?_
      ·simp[w1];omega
      refine qq ?_;exact⟨_,rfl⟩
     |ok p=>
      obtain⟨l,j⟩:=p;obtain⟨r0,r1,rfl,r3⟩:=um h2 oM;rw[he,h1];simp only[h2];refine wR mE (aa bn h2) ?_ ?_
      ·simp[w1];omega
      refine wZ bn ?_;exact⟨_,_,rfl,λE=>by simp only[den];rw[Z4 h l q0 q1 r0 r1],_,_,rfl,rfl,dE⟩
   ·simp at hc;refine wK ?_;refine Wp.seq ?_;refine vR mE bn ?_;refine wC bn (λhc=>?_) (λhc=>?_)
    ·simp at hc;have he:jW s i=.error i:=by rw[jW,if_neg oM,if_neg oM,if_neg oM,if_neg oM,if_neg (by assumption),if_pos hc]
     rw[he];refine Wp.om mE cr (ev bn) ?_ ?_
     ·exact oo
     refine qq ?_;exact⟨_,rfl⟩
    ·have hn:¬ ((((bt s i<32\/126<bt s i)\/48<=bt s i/\bt s i<=57)\/97<=bt s i/\bt s i<=122)\/65<=bt s i/\bt s i<=90):=by
      intro h;apply Bool.eq_false_iff.1 hc;simp;exact h
     have he:jW s i=.ok (bt s i,i+1):=by rw[jW,if_neg oM,if_neg oM,if_neg oM,if_neg oM,if_neg (by assumption),if_neg hn]
     rw[he];refine wK ?_;refine vR mE (aa bn w1) ?_;refine vR mE bn ?_;refine wZ bn ?_;exact⟨_,_,rfl,λE=>rfl,_,_,rfl,rfl,dE⟩
def Ov:eW prog 275 where
 T:=375
 pre:=λW bs fs as_=>match fs,as_ with|[.val (.string s),.val (.int .i64 i)],[]=>0<=i/\s.size<=140737488351232/\aV W (Out bs)|_,_=>False
 out:=λW fs as_=>match fs,as_ with|[.val (.string s),.val (.int .i64 i)],[]=>ya s (jW s i)|_,_=>.pan [] undef
 enters:=call275
 ok:=by
  intro W w bs u fp us fs as_ hk ho hlt hmine hu hp;split at hp
  ·rename_i s i
   match us,hu with
   |[],_=>
    exact Wh s i u fp w hp.1 hp.2.1 (hp.2.2.cP hk hmine) ho hlt
  ·exact hp.elim
theorem Pv(W:World)(s:ByteArray)(i:Int):Ov.out W [.val (.string s),.val (.int .i64 i)] []=ya s (jW s i):=rfl
theorem Rq(W:World)(bs:List Nat)(s:ByteArray)(i:Int):Ov.pre W bs [.val (.string s),.val (.int .i64 i)] []=(0<=i/\s.size<=140737488351232/\aV W (Out bs)):=rfl
theorem Z5:Ov.T=375:=rfl
noncomputable def J7:Env prog:=⟨λ| 138=>some T8.spec|272=>some mo.spec|273=>some mD.spec|275=>some Ov.spec|_=>none,λ| _=>none,λ_ _=>none⟩
theorem V3:J7.sp 138=some T8.spec:=rfl
theorem XI:J7.sp 272=some mo.spec:=rfl
theorem Vx:J7.sp 273=some mD.spec:=rfl
theorem Vv:J7.sp 275=some Ov.spec:=rfl
def kn(s:ByteArray)(i:Int)(q:ByteArray):Except Int (Int×Int):=
 if i<s.size/\bt s i=92 then jW s (i+1)
 else if ((¬ i<s.size\/bt s i<32)\/126<bt s i)\/0<=vO q (bt s i) then .error i
 else .ok (bt s i,i+1)
def kf:=(ak bn Pv Rq Z5 V3 XI Vx Vv)
theorem Ur(s:ByteArray)(i:Int)(q:ByteArray)(u:Value)(fp:List Nat)(w:World)(h0:0<=i)(hs:s.size<=140737488351232)(hg:aV w (Out fp))(ho:bJ w u fp 375 (A3 s i))(hlt:∀ b∈fp,b<w.heap.size) :
  Calls prog 270 (#[u]++#[.string q]) w λe w' => iQ w u fp 375 e w' (ya s (kn s i q)):=by
 obtain⟨b0,b1⟩:=gm s i;refine bx (nt:=56) #[.string q] [.tmp 4] (by show 2<=7;omega) ho hlt func270 rfl rfl rfl ?_;refine vR J7 kf ?_;refine wR J7 kf ?_ ?_
 ·simp[h0]
 refine Wp.seq ?_;refine vR J7 kf ?_;refine wC kf (λhc=>?_) (λhc=>?_)
 ·simp at hc;have w1:IntKind.i64.wrap (i+1)=i+1:=aH oM oM;have he:kn s i q=jW s (i+1):=by rw[kn,if_pos hc]
  rw[he];refine vR J7 (aa kf w1) ?_;cases h1:jW s (i+1) with
  |error j=>
   refine Wp.iT J7 cr (ev (aa kf h1)) ?_ ?_
   ·simp[w1,hs];exact⟨oM,hg⟩
   refine qq ?_;exact⟨_,rfl⟩
  |ok p=>
   obtain⟨b,j⟩:=p;refine wR J7 (aa kf h1) ?_ ?_
   ·simp[w1,hs];exact⟨oM,hg⟩
   refine wZ kf ?_;exact⟨_,_,rfl,λE=>rfl,_,_,rfl,rfl,dE⟩
 ·have hn:¬ (i<s.size/\bt s i=92):=λh=>by
   apply Bool.eq_false_iff.1 hc;simp;exact h
  refine wK ?_;refine Wp.seq ?_;refine vR J7 kf ?_;refine wC kf (λhc=>?_) (λhc=>?_)
  ·simp at hc;have he:kn s i q=.error i:=by
    rw[kn,if_neg hn,if_pos];omega
   rw[he];refine Wp.om J7 cr (ev kf) ?_ ?_
   ·simp
   refine qq ?_;exact⟨_,rfl⟩
  ·have hn' : ¬ (((¬ i<s.size\/bt s i<32)\/126<bt s i)\/0<=vO q (bt s i)):=λh=>by
    apply Bool.eq_false_iff.1 hc;simp;omega
   have he:kn s i q=.ok (bt s i,i+1):=by rw[kn,if_neg hn,if_neg hn']
   have w1:IntKind.i64.wrap (i+1)=i+1:=aH oM oM;rw[he];refine wK ?_;refine vR J7 (aa kf w1) ?_;refine vR J7 kf ?_;refine wZ kf ?_;exact⟨_,_,rfl,λE=>rfl,_,_,rfl,rfl,dE⟩
def Gq:eW prog 270 where
 T:=375
 pre:=λW bs fs as_=>match fs,as_ with|[.val (.string s),.val (.int .i64 i)],[.val (.string q)]=>0<=i/\s.size<=140737488351232/\aV W (Out bs)|_,_=>False
 out:=λW fs as_=>match fs,as_ with|[.val (.string s),.val (.int .i64 i)],[.val (.string q)]=>ya s (kn s i q)|_,_=>.pan [] undef
 enters:=call270
 ok:=by
  intro W w bs u fp us fs as_ hk ho hlt hmine hu hp;split at hp
  ·rename_i s i q
   match us,hu with
   |[u0],hu=>
    obtain⟨rfl,_⟩:=hu;exact Ur s i q u fp w hp.1 hp.2.1 (hp.2.2.cP hk hmine) ho hlt
  ·exact hp.elim
theorem ON(W:World)(s:ByteArray)(i:Int)(q:ByteArray):Gq.out W [.val (.string s),.val (.int .i64 i)] [.val (.string q)]=ya s (kn s i q):=rfl
theorem Sb(W:World)(bs:List Nat)(s:ByteArray)(i:Int)(q:ByteArray):Gq.pre W bs [.val (.string s),.val (.int .i64 i)] [.val (.string q)]=(0<=i/\s.size<=140737488351232/\aV W (Out bs)):=rfl
theorem aac:Gq.T=375:=rfl
theorem V7{s:ByteArray}{i b j:Int}(he:jW s i=.ok (b,j))(h0:0<=i):0<=b/\b<256/\i<j/\j<=s.size:=by
 obtain⟨b0,b1⟩:=gm s i;rw[jW]at he;split at he
 ·cases he
 ·rename_i h1;split at he
  ·simp only[Except.ok.injEq,Prod.mk.injEq]at he;omega
  ·split at he
   ·simp only[Except.ok.injEq,Prod.mk.injEq]at he;omega
   ·split at he
    ·simp only[Except.ok.injEq,Prod.mk.injEq]at he;omega
    ·split at he
     ·cases h2:mX s (i+1) with
      |error k=>rw[h2]at he;cases he
      | ok p=>
       obtain⟨h,k⟩:=p;rw[h2]at he;obtain⟨q0,q1,q2,q3⟩:=um h2 oM;simp only at he;cases h3:mX s k with
       |error k' => rw[h3]at he;cases he
       |ok p=>
        obtain⟨l,k'⟩:=p;rw[h3]at he;obtain⟨r0,r1,r2,r3⟩:=um h3 oM;simp only[Except.ok.injEq,Prod.mk.injEq]at he;omega
     ·split at he
      ·cases he
      ·simp only[Except.ok.injEq,Prod.mk.injEq]at he;omega
theorem nW{s:ByteArray}{i b j:Int}{q:ByteArray}(he:kn s i q=.ok (b,j))(h0:0<=i):0<=b/\b<256/\i<j/\j<=s.size:=by
 obtain⟨b0,b1⟩:=gm s i;rw[kn]at he;split at he
 ·have:=V7 he oM;omega
 ·split at he
  ·cases he
  ·simp only[Except.ok.injEq,Prod.mk.injEq]at he;omega
noncomputable def ye:bu prog 224 where
 pre:=λW bs=>λ| [.val y0]=>(match dec bO y0 with|some S=>True|_=>False)|_=>False
 res:=λW=>λ| [.val y0]=>(match dec bO y0 with|some S=>bO (~~~S)|_=>undef)|_=>undef
 enters:=call224
 ok:=by
  intro W w bs us as_ hk hu hp;split at hp
  ·rename_i y0;split at hp
   ·rename_i S h0
    match us,hu with
    |[u0],hu=>
     obtain⟨rfl,_⟩:=hu;obtain rfl:=ix h0
     try dsimp only
     try simp only[cG bW]
     exact Yn S w
   ·exact hp.elim
  ·exact hp.elim
theorem CI(W:World)(S:CS):ye.res W [.val (bO S)]=bO (~~~S):=by simp only[ye,cG bW]
theorem Fb(W:World)(bs:List Nat)(S:CS):ye.pre W bs [.val (bO S)]=(True):=by simp only[ye,cG bW]
noncomputable def rT:bu prog 274 where
 pre:=λW bs=>λ| [.val y0,.val y1]=>(match dec bO y0,dec bO y1 with|some S,some T=>True|_,_=>False)|_=>False
 res:=λW=>λ| [.val y0,.val y1]=>(match dec bO y0,dec bO y1 with|some S,some T=>bO (S ||| T)|_,_=>undef)|_=>undef
 enters:=call274
 ok:=by
  intro W w bs us as_ hk hu hp;split at hp
  ·rename_i y0 y1;split at hp
   ·rename_i S T h0 h1
    match us,hu with
    |[u0,u1],hu=>
     obtain⟨rfl,rfl,_⟩:=hu;obtain rfl:=ix h0;obtain rfl:=ix h1
     try dsimp only
     try simp only[cG bW]
     exact Lc S T w
   ·exact hp.elim
  ·exact hp.elim
theorem HF(W:World)(S:CS)(T:CS):rT.res W [.val (bO S),.val (bO T)]=bO (S ||| T):=by simp only[rT,cG bW]
theorem HY(W:World)(bs:List Nat)(S:CS)(T:CS):rT.pre W bs [.val (bO S),.val (bO T)]=(True):=by simp only[rT,cG bW]
def uW(lo hi:Int):CS:=span lo.toNat hi.toNat
def zq:bu prog 271 where
 pre:=λW bs=>λ| [.val (.int .u8 lo),.val (.int .u8 hi)]=>0<=lo/\lo<256/\0<=hi/\hi<256|_=>False
 res:=λW=>λ| [.val (.int .u8 lo),.val (.int .u8 hi)]=>bO (uW lo hi)|_=>undef
 enters:=call271
 ok:=by
  intro W w bs us as_ hk hu hp;split at hp
  ·rename_i lo hi
   match us,hu with
   |[u0,u1],hu=>
    obtain⟨rfl,rfl,_⟩:=hu;obtain⟨p0,p1,p2,p3⟩:=hp;have:=OR lo.toNat hi.toNat oM oM w;rwa [Int.toNat_of_nonneg p0,Int.toNat_of_nonneg p2]at this
  ·exact hp.elim
theorem NC(W:World)(lo:Int)(hi:Int):zq.res W [.val (.int .u8 lo),.val (.int .u8 hi)]=bO (uW lo hi):=rfl
theorem LP(W:World)(bs:List Nat)(lo:Int)(hi:Int):zq.pre W bs [.val (.int .u8 lo),.val (.int .u8 hi)]=(0<=lo/\lo<256/\0<=hi/\hi<256):=rfl
def ofC:bu prog 245 where
 pre:=λW bs=>λ| [.val (.string s)]=>s.size<=140737488351232|_=>False
 res:=λW=>λ| [.val (.string s)]=>bO (NY s s.size)|_=>undef
 enters:=call245
 ok:=by
  intro W w bs us as_ hk hu hp;split at hp
  ·rename_i s
   match us,hu with
   |[u0],hu=>
    obtain⟨rfl,_⟩:=hu;exact aa1 s hp w
  ·exact hp.elim
theorem X9(W:World)(s:ByteArray):ofC.res W [.val (.string s)]=bO (NY s s.size):=rfl
theorem Xl(W:World)(bs:List Nat)(s:ByteArray):ofC.pre W bs [.val (.string s)]=(s.size<=140737488351232):=rfl
noncomputable def oK:Env prog:=⟨λ| 272=>some mo.spec|273=>some mD.spec|270=>some Gq.spec|224=>some ye.spec|274=>some rT.spec|271=>some zq.spec|245=>some ofC.spec|_=>none,λ| _=>none,λ_ _=>none⟩
theorem YD:oK.sp 272=some mo.spec:=rfl
theorem X8:oK.sp 273=some mD.spec:=rfl
theorem X0:oK.sp 270=some Gq.spec:=rfl
theorem Uj:oK.sp 224=some ye.spec:=rfl
theorem Vd:oK.sp 274=some rT.spec:=rfl
theorem VE:oK.sp 271=some zq.spec:=rfl
theorem Xk:oK.sp 245=some ofC.spec:=rfl
def sn:ByteArray:=⟨#[92,93,91,45,94,47]⟩
def AN(s:ByteArray):Nat->Int->CS->Except Int (CS×Int)
 |0,i,_=>.error i
 | n+1,i,a=>
  if i<s.size/\bt s i=93 then .ok (a,i+1) else
  match kn s i sn with
  |.error j=>.error j
  | .ok (lo,j)=>
   if j<s.size/\bt s j=45 then
    match kn s (j+1) sn with
    |.error k=>.error k
    |.ok (hi,k)=>if hi<lo then .error (j+1) else AN s n k (a ||| uW lo hi)
   else AN s n j (a ||| uW lo lo)
def acL(b:Bool)(a:CS):CS:=if b then ~~~a else a
def pY(s:ByteArray)(i:Int):Bool:=decide (i<s.size)&&decide (bt s i=94)
def Eg(b:Bool):Except Int (CS×Int)->Except Int (CS×Int)
 |.error j=>.error j
 |.ok (a,j)=>.ok (acL b a,j)
def gl(s:ByteArray)(i:Int):Except Int (CS×Int):=Eg (pY s i) (AN s (s.size+1) (if pY s i then i+1 else i) 0)
def EN(s:ByteArray):Except Int (CS×Int)->BOut
 |.ok (a,j)=>.ret (bO a) (A3 s j)
 |.error j=>.pan (il j) (bO 0)
theorem qn(s:ByteArray)(a:CS)(j:Int):EN s (.ok (a,j))=.ret (bO a) (A3 s j):=rfl
theorem jL(s:ByteArray)(j:Int):EN s (.error j)=.pan (il j) (bO 0):=rfl
def bY:=(ak @List.replicate_succ.{0} @List.replicate_zero.{0} @aq @ae lP lM lA (ak dI dK dJ dG dr dt du (ak dq mJ mh mG mT mf fq (ak fu ft fh ff fm ov oQ (ak oN oP sD sX sE sH JY (ak Ky Kb JV Jh J4 JE Ju (ak Jx I0 Jk Kv Jz @a6 @aw (ak @aD @aE @q5 @ri @A2 @zw @yR (ak @Jg @ON @Sb @aac @A3.eq_1 @il.eq_1 @JK (ak @va @cQ @jt @kB @kM @jh @nN (ak @dD @A5 @ie @List.drop_nil.{0} @CI @Fb HF (ak HY NC LP X9 Xl YD X8 (ym X0 Uj Vd VE Xk)))))))))))))
theorem Er(s:ByteArray)(i:Int)(u:Value)(fp:List Nat)(w:World)(h0:0<=i)(hs:s.size<=140737488351232)(hg:aV w (Out fp))(ho:bJ w u fp 375 (A3 s i))(hlt:∀ b∈fp,b<w.heap.size) :
  Calls prog 269 (#[u]++#[]) w λe w' => iQ w u fp 375 e w' (EN s (gl s i)):=by
 obtain⟨b0,b1⟩:=gm s i;refine bx (nt:=90) #[] [.cell 2 309] (by show 2<=7;omega) ho hlt func269 rfl rfl rfl ?_;refine vR oK bY ?_;refine vR oK bY ?_;refine wR oK bY ?_ ?_
 ·simp[h0]
 refine vR oK bY ?_;generalize hi0:(if pY s i then i+1 else i)=i0;have hj0:0<=i0/\i0<=i+1:=by rw[<- hi0];split<;>omega
 generalize hR:AN s (s.size+1) i0 0=R;have hm:gl s i=Eg (pY s i) R:=by rw[gl,hi0,hR]
 refine dB ⟨40,cL [(0,.is (.own 0 0)),(2,.is (.own 8 0)),(3,.is (.own 16 0)),(6,.is (.v (.bool (pY s i))))],cf [(0,.cells 375 [.v (.string s),.v (.int .i64 i0)]),(8,.cells 309 [.v (.int .u64 0),.v (.int .u64 0),.v (.int .u64 0),.v (.int .u64 0)]),(16,.cells 309 [.v (.int .u64 0),.v (.int .u64 0),.v (.int .u64 0),.v (.int .u64 0)])]⟩ ?_ ?_
 ·skip;refine vR oK bY ?_;refine wC bY (λhc=>?_) (λhc=>?_)
  ·have hcar:pY s i=true:=hc;rw[hcar]at hi0;simp only[if_true]at hi0;simp at hc;have w1:IntKind.i64.wrap (i+1)=i+1:=aH oM oM;refine vr oK (aa bY w1) ?_;subst hi0;exact wM (λk=>.key k) (aa bY @pY.eq_1)
  ·have hcar:pY s i=false:=hc;rw[hcar]at hi0;simp only[Bool.false_eq_true,if_false]at hi0;refine wK ?_;subst hi0;exact wM (λk=>.key k) (aa bY @pY.eq_1)
 refine Wp.seq ?_;refine Wp.block ?_
 refine Wp.loop (λp:Nat×Int×CS=>⟨40,cL [(0,.is (.own 0 0)),(2,.is (.own 8 0)),(3,.is (.own 16 0)),(6,.is (.v (.bool (pY s i))))],cf [(0,.cells 375 [.v (.string s),.v (.int .i64 p.2.1)]),(8,.cells 309 [.v (.int .u64 0),.v (.int .u64 0),.v (.int .u64 0),.v (.int .u64 0)]),(16,.cells 309 ((jU p.2.2).map .v))]⟩)
  (λp=>0<=p.2.1/\(s.size-p.2.1<p.1/\1<=p.1)/\AN s p.1 p.2.1 p.2.2=R) (λp=>p.1) (s.size+1,i0,0) ?_ ⟨hj0.1,by simp only;omega,hR⟩ ?_
 ·exact wM (λk=>.key k) (aa bY @xD)
 rintro⟨n,i',a⟩ ⟨k0,⟨k1,k3⟩,k2⟩;simp only at k0 k1 k2;obtain⟨n,rfl⟩:∃ m,n=m+1:=⟨n-1,by simp only at k3;omega⟩;rw[AN]at k2;refine Wp.block ?_;refine Wp.seq ?_;refine wR oK bY ?_ ?_
 ·simp[k0]
 refine vR oK bY ?_;refine wC bY (λhc=>?_) (λhc=>?_)
 ·simp at hc;have hR' : R=.ok (a,i' + 1):=by rw[<- k2,if_pos hc]
  have w1:IntKind.i64.wrap (i' + 1)=i' + 1:=aH oM oM;refine vR oK (aa bY w1) ?_;refine wE ?_;refine Wp.seq ?_;refine vR oK bY ?_;refine wC bY (λhc=>?_) (λhc=>?_)
  ·have hcar:pY s i=true:=hc;rw[hm,hR',hcar,Eg,qn];refine wR oK bY ?_ ?_
   ·simp[jt]
   refine wZ bY ?_;exact⟨_,_,rfl,rfl,_,_,rfl,rfl,dE⟩
  ·have hcar:pY s i=false:=hc;rw[hm,hR',hcar,Eg,qn];refine wK ?_;refine wR oK bY ?_ ?_
   ·simp[jt]
   refine wZ bY ?_;exact⟨_,_,rfl,rfl,_,_,rfl,rfl,dE⟩
 ·have hn:¬ (i' < s.size/\bt s i' = 93):=λh=>by
   apply Bool.eq_false_iff.1 hc;simp;exact h
  rw[if_neg hn]at k2;refine wK ?_;cases h1:kn s i' sn with
  |error j=>
   rw[h1]at k2;simp only at k2;rw[sn]at h1;rw[hm,<- k2,Eg,jL];refine Wp.iT oK cr (ev (aa bY h1)) ?_ ?_
   ·simp[hs,hg];omega
   refine qq ?_;exact⟨_,rfl⟩
  | ok p=>
   obtain⟨lo,j⟩:=p;obtain⟨o0,o1,o2,o3⟩:=nW h1 k0;rw[h1]at k2;simp only at k2;rw[sn]at h1;refine wR oK (aa bY h1) ?_ ?_
   ·simp[hs,hg];omega
   refine vR oK bY ?_;refine Wp.seq ?_;refine wR oK bY ?_ ?_
   ·simp;omega
   refine vR oK bY ?_;refine wC bY (λhc=>?_) (λhc=>?_)
   ·simp at hc;rw[if_pos hc]at k2;have w1:IntKind.i64.wrap (j+1)=j+1:=aH oM oM;refine vR oK (aa bY w1) ?_;refine vR oK bY ?_;cases h2:kn s (j+1) sn with
    |error l=>
     rw[h2]at k2;simp only at k2;rw[sn]at h2;rw[hm,<- k2,Eg,jL];refine Wp.iT oK cr (ev (aa bY h2)) ?_ ?_
     ·simp[hs,hg];omega
     refine qq ?_;exact⟨_,rfl⟩
    | ok p=>
     obtain⟨hi,l⟩:=p;obtain⟨r0,r1,r2,r3⟩:=nW h2 oM;rw[h2]at k2;simp only at k2;rw[sn]at h2;refine wR oK (aa bY h2) ?_ ?_
     ·simp[hs,hg];omega
     refine vR oK bY ?_;refine wC bY (λhc=>?_) (λhc=>?_)
     ·simp at hc;rw[if_pos hc]at k2;rw[hm,<- k2,Eg,jL];refine Wp.om oK cr (ev bY) ?_ ?_
      ·exact oo
      refine qq ?_;exact⟨_,rfl⟩
     ·simp at hc;rw[if_neg oM]at k2;refine wK ?_;refine Ft oK bY ?_ ?_
      ·omega
      refine⟨(n,l,a ||| uW lo hi),⟨by simp only;omega,by simp only;omega,k2⟩,by simp only;omega,?_⟩;exact wM (λk=>.key k) bY
   ·have hn' : ¬ (j<s.size/\bt s j=45):=λh=>by
     apply Bool.eq_false_iff.1 hc;simp;exact h
    rw[if_neg hn']at k2;refine wK ?_;refine Ft oK bY ?_ ?_
    ·omega
    refine⟨(n,j,a ||| uW lo lo),⟨by simp only;omega,by simp only;omega,k2⟩,by simp only;omega,?_⟩;exact wM (λk=>.key k) bY
def mi:eW prog 269 where
 T:=375
 pre:=λW bs fs as_=>match fs,as_ with|[.val (.string s),.val (.int .i64 i)],[]=>0<=i/\s.size<=140737488351232/\aV W (Out bs)|_,_=>False
 out:=λW fs as_=>match fs,as_ with|[.val (.string s),.val (.int .i64 i)],[]=>EN s (gl s i)|_,_=>.pan [] undef
 enters:=call269
 ok:=by
  intro W w bs u fp us fs as_ hk ho hlt hmine hu hp;split at hp
  ·rename_i s i
   match us,hu with
   |[],_=>
    exact Er s i u fp w hp.1 hp.2.1 (hp.2.2.cP hk hmine) ho hlt
  ·exact hp.elim
theorem Ay(W:World)(s:ByteArray)(i:Int):mi.out W [.val (.string s),.val (.int .i64 i)] []=EN s (gl s i):=rfl
theorem AA(W:World)(bs:List Nat)(s:ByteArray)(i:Int):mi.pre W bs [.val (.string s),.val (.int .i64 i)] []=(0<=i/\s.size<=140737488351232/\aV W (Out bs)):=rfl
theorem FU:mi.T=375:=rfl
noncomputable def Cn:Env prog:=⟨λ| 270=>some Gq.spec|224=>some ye.spec|271=>some zq.spec|245=>some ofC.spec|269=>some mi.spec|_=>none,λ| _=>none,λ_ _=>none⟩
theorem Xi:Cn.sp 270=some Gq.spec:=rfl
theorem YO:Cn.sp 224=some ye.spec:=rfl
theorem UF:Cn.sp 271=some zq.spec:=rfl
theorem WN:Cn.sp 245=some ofC.spec:=rfl
theorem Vh:Cn.sp 269=some mi.spec:=rfl
def T6:ByteArray:=⟨#[40,41,91,93,123,125,124,38,45,42,43,63,46,92,47,94]⟩
def acd:Except Int (Int×Int)->Except Int (CS×Int)
 |.error j=>.error j
 |.ok (b,j)=>.ok (uW b b,j)
def gE(s:ByteArray)(i:Int):Except Int (CS×Int):=
 if bt s i=46 then .ok (~~~(NY ⟨#[10]⟩ 1),i+1)
 else if bt s i=91 then gl s (i+1)
 else acd (kn s i T6)
def gJ:=(ak bY Ay AA FU @qn @jL Xi (iS YO UF WN Vh))
theorem Qm(s:ByteArray)(i:Int)(u:Value)(fp:List Nat)(w:World)(h0:0<=i)(h1:i<s.size)(hs:s.size<=140737488351232)(hg:aV w (Out fp))(ho:bJ w u fp 375 (A3 s i))(hlt:∀ b∈fp,b<w.heap.size) :
  Calls prog 268 (#[u]++#[]) w λe w' => iQ w u fp 375 e w' (EN s (gE s i)):=by
 obtain⟨b0,b1⟩:=gm s i;have w1:IntKind.i64.wrap (i+1)=i+1:=aH oM oM;refine bx (nt:=42) #[] [.cell 2 309] (by show 2<=7;omega) ho hlt func268 rfl rfl rfl ?_;refine vR Cn gJ ?_;refine Wp.seq ?_;refine JM Cn gJ ?_;refine vR Cn gJ ?_;refine Wp.block ?_;refine vR Cn gJ ?_;refine wC gJ (λhc=>?_) (λhc=>?_)
 ·simp at hc;have he:gE s i=.ok (~~~(NY ⟨#[10]⟩ 1),i+1):=by rw[gE,if_pos hc]
  rw[he,qn];refine vR Cn (aa gJ w1) ?_;refine wR Cn gJ ?_ ?_
  ·decide
  refine wZ gJ ?_;exact⟨_,_,rfl,rfl,_,_,rfl,rfl,dE⟩
 ·simp at hc;have hc0:=hc;refine vR Cn gJ ?_;refine wC gJ (λhc=>?_) (λhc=>?_)
  ·simp at hc;have he:gE s i=gl s (i+1):=by rw[gE,if_neg hc0,if_pos hc]
   rw[he];refine vR Cn (aa gJ w1) ?_;cases h2:gl s (i+1) with
   |error j=>
    refine Wp.iT Cn cr (ev (aa gJ h2)) ?_ ?_
    ·simp[hs,hg];omega
    refine qq ?_;exact⟨_,rfl⟩
   |ok p=>
    obtain⟨a,j⟩:=p;refine wR Cn (aa gJ h2) ?_ ?_
    ·simp[hs,hg];omega
    refine wZ gJ ?_;exact⟨_,_,rfl,rfl,_,_,rfl,rfl,dE⟩
  ·simp at hc;have he:gE s i=acd (kn s i T6):=by rw[gE,if_neg hc0,if_neg hc]
   rw[he];refine wK ?_;cases h2:kn s i T6 with
   |error j=>
    rw[T6]at h2;refine Wp.iT Cn cr (ev (aa gJ h2)) ?_ ?_
    ·simp[hs,hg];omega
    refine qq ?_;exact⟨_,rfl⟩
   |ok p=>
    obtain⟨b,j⟩:=p;obtain⟨o0,o1,o2,o3⟩:=nW h2 h0;rw[T6]at h2;refine wR Cn (aa gJ h2) ?_ ?_
    ·simp[hs,hg];omega
    refine wR Cn gJ ?_ ?_
    ·omega
    refine wZ gJ ?_;exact⟨_,_,rfl,rfl,_,_,rfl,rfl,dE⟩
def EV:eW prog 268 where
 T:=375
 pre:=λW bs fs as_=>match fs,as_ with|[.val (.string s),.val (.int .i64 i)],[]=>0<=i/\i<s.size/\s.size<=140737488351232/\aV W (Out bs)|_,_=>False
 out:=λW fs as_=>match fs,as_ with|[.val (.string s),.val (.int .i64 i)],[]=>EN s (gE s i)|_,_=>.pan [] undef
 enters:=call268
 ok:=by
  intro W w bs u fp us fs as_ hk ho hlt hmine hu hp;split at hp
  ·rename_i s i
   match us,hu with
   |[],_=>
    exact Qm s i u fp w hp.1 hp.2.1 hp.2.2.1 (hp.2.2.2.cP hk hmine) ho hlt
  ·exact hp.elim
theorem Nk(W:World)(s:ByteArray)(i:Int):EV.out W [.val (.string s),.val (.int .i64 i)] []=EN s (gE s i):=rfl
theorem Mq(W:World)(bs:List Nat)(s:ByteArray)(i:Int):EV.pre W bs [.val (.string s),.val (.int .i64 i)] []=(0<=i/\i<s.size/\s.size<=140737488351232/\aV W (Out bs)):=rfl
theorem Wx:EV.T=375:=rfl
noncomputable def S0:Env prog:=⟨λ| 268=>some EV.spec|_=>none,λ| _=>none,λ_ _=>none⟩
theorem V0:S0.sp 268=some EV.spec:=rfl
def tK(c i:Int)(t:ByteArray):Value:=.agg #[.int .i64 c,.int .i64 i,.string t]
def eK:=(ak @List.replicate_succ.{0} @List.replicate_zero.{0} @aq @ae lP lM QW (ak Py OU lA dI dK dJ dG (ak dr dt du dq fq fu ft (ak fh ff fm TM PY Qf Ti (ak vC vF vv uD uL uA xM (ak xm vS vU ov oQ oN oP (ak sD sX sE sH Kb JV Jh (ak J4 JE Ju Jx I0 Jk Kv (ak Jz @a6 @aw @aD @aE @σR.eq_1 @σL.eq_1 (ak @mO.eq_1 @mO.eq_2 @xK.eq_1 @xK.eq_2 @A3.eq_1 @Nk @Mq (ak @Wx @qn @jL @il.eq_1 @cQ @jt @kB (ak @kM @jh @nN @dD @A5 @ie @List.drop_nil.{0} V0))))))))))))
noncomputable def Qd:CatchC prog 267 where
 Ts:=[309,3,39]
 enters:=call267
 pre:=λvss pv=>(∃ a b c d e f g h,vss=[[a,b,c,d],[e],[f,g,h]])/\∃ c i t,pv=.iface 39 (tK c i t)
 out:=λvss pv=>[[.int .u64 0,.int .u64 0,.int .u64 0,.int .u64 0],[.int .i64 0],match pv with|.iface _ (.agg x)=>x.toList|_=>[]]
 lY:=λvss pv=>[bO 0,.int .i64 0,match pv with|.iface _ x=>x|_=>undef]
 vals_ok:=by
  rintro vss pv ⟨_,c,i,t,rfl⟩
  refine⟨.inl ⟨by simp only[mM,Op.operands,Value.cells,σ0,σB,Nat.reduceEqDiff,Nat.reduceAdd,Nat.reduceMul,Nat.reduceLT,Nat.reduceLeDiff,Nat.reduceBEq,ax,Int.reduceToNat,Int.reduceLT,Int.reduceLE,Nat.reduceDiv,Nat.reduceMod,Nat.reduceSub,Int.reducePow,Nat.reducePow,σP,σB3,eK]<;>rfl,by simp only[mM,Op.operands,Value.cells,σ0,σB,Nat.reduceEqDiff,Nat.reduceAdd,Nat.reduceMul,Nat.reduceLT,Nat.reduceLeDiff,Nat.reduceBEq,ax,Int.reduceToNat,Int.reduceLT,Int.reduceLE,Nat.reduceDiv,Nat.reduceMod,Nat.reduceSub,Int.reducePow,Nat.reducePow,σP,σB3,eK],?_⟩,.inr ⟨by simp only[mM,Op.operands,Value.cells,σ0,σB,Nat.reduceEqDiff,Nat.reduceAdd,Nat.reduceMul,Nat.reduceLT,Nat.reduceLeDiff,Nat.reduceBEq,ax,Int.reduceToNat,Int.reduceLT,Int.reduceLE,Nat.reduceDiv,Nat.reduceMod,Nat.reduceSub,Int.reducePow,Nat.reducePow,σP,σB3,eK],rfl⟩,.inl ⟨by simp only[mM,Op.operands,Value.cells,σ0,σB,Nat.reduceEqDiff,Nat.reduceAdd,Nat.reduceMul,Nat.reduceLT,Nat.reduceLeDiff,Nat.reduceBEq,ax,Int.reduceToNat,Int.reduceLT,Int.reduceLE,Nat.reduceDiv,Nat.reduceMod,Nat.reduceSub,Int.reducePow,Nat.reducePow,σP,σB3,eK]<;>rfl,by simp only[mM,Op.operands,Value.cells,σ0,σB,Nat.reduceEqDiff,Nat.reduceAdd,Nat.reduceMul,Nat.reduceLT,Nat.reduceLeDiff,Nat.reduceBEq,ax,Int.reduceToNat,Int.reduceLT,Int.reduceLE,Nat.reduceDiv,Nat.reduceMod,Nat.reduceSub,Int.reducePow,Nat.reducePow,σP,σB3,eK],rfl⟩,trivial⟩
  rfl
 quiet:=λw us hl=>by
  match us,hl with
  | [u0,u1,u2],_=>
   refine qe (nt:=10) w _ func267 rfl rfl oM oM rfl ?_;refine vR S0 eK ?_;refine wC eK (λhc=>?_) (λhc=>?_)
   ·simp at hc
   ·refine wK ?_;simp only[mM,Op.operands,Value.cells,σ0,σB,Nat.reduceEqDiff,Nat.reduceAdd,Nat.reduceMul,Nat.reduceLT,Nat.reduceLeDiff,Nat.reduceBEq,ax,Int.reduceToNat,Int.reduceLT,Int.reduceLE,Nat.reduceDiv,Nat.reduceMod,Nat.reduceSub,Int.reducePow,Nat.reducePow,σP,σB3,nO,gW,kF,jr,eK]
    done
 caught:=λw us bl vss pv hl hn hlt hp=>by
  obtain⟨⟨a,b,c,d,e,f,g,h,rfl⟩,k,i,t,rfl⟩:=hp;have h3:=hl.len.1;refine oB (nt:=10) func267 rfl rfl oM oM ?_ hl hn hlt ?_ ?_
  ·rw[h3];rfl
  ·rw[h3];decide
  intro us _;refine vR S0 eK ?_;refine wC eK (λhc=>?_) (λhc=>?_)
  ·skip;refine vrD S0 (aa eK @tK.eq_1) ?_;refine wS eK ?_;exact⟨rfl,rfl,rfl,trivial⟩
  ·cases hc
def oD(c:Int)(a:CS)(j k:Int):Value:=.tuple #[bO a,.int .i64 j,tK c k ⟨#[]⟩]
def pJ(s:ByteArray)(i:Int):Value:=
 if i<0\/s.size<=i then oD 2 0 0 0
 else match gE s i with
  |.error j=>oD 10 0 0 j
  |.ok (a,j)=>oD 0 a j 0
theorem OT(s:ByteArray)(i:Int)(w:World)(hs:s.size<=140737488351232)(hg:aV w (Out [])) :
  Calls prog 263 #[.string s,.int .i64 i] w λe w' => e=.returned (pJ s i)/\af w [] w' := by
 refine sC (nt:=31) func263 rfl rfl ?_;refine jY.seq' (rs:=[.cell 4 309,.cell 5 3,.cell 6 39]) rfl ?_;refine vr S0 eK ?_;refine jY.seq' (rs:=[.cell 4 309,.cell 5 3,.cell 6 39]) rfl ?_;refine vR S0 eK ?_;refine wC eK (λhc=>?_) (λhc=>?_)
 ·have hb:i<0\/s.size<=i:=by simpa using hc
  have he:pJ s i=oD 2 0 0 0:=by rw[pJ,if_pos hb]
  rw[he];refine vR S0 eK ?_;refine wZ eK ?_;exact λE=>rfl
 ·have hb:¬ (i<0\/s.size<=i):=λh=>by
   apply Bool.eq_false_iff.1 hc;simpa using h
  have he:pJ s i=match gE s i with
    |.error j=>oD 10 0 0 j
    |.ok (a,j)=>oD 0 a j 0:=by rw[pJ,if_neg hb]
  refine wK ?_;refine jY.P9 (rs:=[.cell 4 309,.cell 5 3,.cell 6 39]) rfl Qd [4,5,6] [0,8,16] rfl dE rfl dE rfl rfl ?_ ?_ λus hus=>?_
  ·rintro p hp;simp only[List.zip_cons_cons,List.zip_nil_right,List.mem_cons,List.not_mem_nil,or_false]at hp;rcases hp with rfl|rfl|rfl<;>rfl
  ·rintro k hk;simp only[List.mem_cons,List.not_mem_nil,or_false]at hk;rcases hk with rfl|rfl|rfl<;>exact⟨_,_,rfl⟩
  have hi:0<=i/\i<s.size:=oM;refine vR S0 eK ?_;cases h2:gE s i with
  |error j=>
   rw[he,h2];refine Wp.iT S0 cr (ev (aa eK h2)) ?_ ?_
   ·simp[hs,hg];omega
   refine qq ?_;refine wS eK ?_;refine⟨.iface 39 (tK 10 j ⟨#[]⟩),[[.int .u64 0,.int .u64 0,.int .u64 0,.int .u64 0],[.int .i64 0],[.int .i64 0,.int .i64 0,.string ⟨#[]⟩]],rfl,⟨?_,?_,?_,?_,?_,?_,trivial⟩,⟨⟨_,_,_,_,_,_,_,_,rfl⟩,10,j,⟨#[]⟩,rfl⟩,λE=>rfl⟩
   all_goals rfl
  |ok p=>
   obtain⟨a,j⟩:=p;rw[he,h2];refine wR S0 (aa eK h2) ?_ ?_
   ·simp[hs,hg];omega
   refine JM S0 eK ?_;refine wZ eK ?_;exact λE=>rfl
def aB:Rx->Value
 |.eps=>.iface 283 (.agg #[])
 |.cls S=>.iface 311 (bO S)
 |.cat a b=>.iface 281 (.agg #[aB a,aB b])
 |.alt a b=>.iface 284 (.agg #[aB a,aB b])
 |.star a=>.iface 279 (.agg #[aB a])
 |.and a b=>.iface 285 (.agg #[aB a,aB b])
 |.minus a b=>.iface 286 (.agg #[aB a,aB b])
theorem bA(t:Rx):(aB t).oneCell' = true:=by cases t<;>rfl
theorem bX:∀ a b:Rx,aB a=aB b->a=b
 |.eps,b,h=>by cases b<;>simp_all [aB]
 |.cls S,b,h=>by
  cases b<;>simp[aB]at h;rw[bW _ _ h]
 |.cat x y,b,h=>by
  cases b<;>simp[aB]at h;rw[bX x _ h.1,bX y _ h.2]
 |.alt x y,b,h=>by
  cases b<;>simp[aB]at h;rw[bX x _ h.1,bX y _ h.2]
 |.star x,b,h=>by
  cases b<;>simp[aB]at h;rw[bX x _ h]
 |.and x y,b,h=>by
  cases b<;>simp[aB]at h;rw[bX x _ h.1,bX y _ h.2]
 |.minus x y,b,h=>by
  cases b<;>simp[aB]at h;rw[bX x _ h.1,bX y _ h.2]
inductive Jn where
 |cat|alt|and|minus
def Jn.f:Jn->FuncId
 |.cat=>252
 |.alt=>181
 |.and=>217
 |.minus=>218
def Jn.mk:Jn->Rx->Rx->Rx
 |.cat=>.cat
 |.alt=>.alt
 |.and=>.and
 |.minus=>.minus
def Jn.T:Jn->TypeId
 |.cat=>281
 |.alt=>284
 |.and=>285
 |.minus=>286
def Jn.v(g:Jn):Value:=.func (.func g.f) #[] #[]
def ly(b:Nat):Value:=.pointer (some ⟨b,0,none⟩)
inductive bg (W:World) (S:Nat->Prop):Value->Rx->Prop where
 |leaf (b:Nat) (t:Rx):XC W S b 0 (aB t)->bg W S (.func (.func 259) #[] #[ly b]) t
 | join (g:Jn) (b5 b3 b4:Nat) (fa fb:Value) (ta tb:Rx):XC W S b5 0 g.v->XC W S b3 1 fa->XC W S b4 1 fb->bg W S fa ta->bg W S fb tb ->
   bg W S (.func (.func 220) #[] #[ly b5,ly b3,ly b4]) (g.mk ta tb)
 |star (b:Nat) (fa:Value) (ta:Rx):XC W S b 1 fa->bg W S fa ta->bg W S (.func (.func 264) #[] #[ly b]) (.star ta)
theorem bg.mono{W W' : World}{S S' : Nat->Prop}{v:Value}{t:Rx}(h:bg W S v t)(hs:bV W S W' S'):bg W' S' v t:=by
 induction h with
 |leaf b t h=>exact .leaf b t (h.mono hs)
 |join g b5 b3 b4 fa fb ta tb h1 h2 h3 _ _ ih1 ih2=>exact .join g b5 b3 b4 fa fb ta tb (h1.mono hs) (h2.mono hs) (h3.mono hs) ih1 ih2
 |star b fa ta h _ ih=>exact .star b fa ta (h.mono hs) ih
theorem bg.one{W:World}{S:Nat->Prop}{v:Value}{t:Rx}(h:bg W S v t):v.oneCell' = true:=by cases h<;>rfl
theorem Ec{W:World}{S S' : Nat->Prop}{b o:Nat}{u v:Value}(h:XC W S b o u)(h' : XC W S' b o v):u=v:=Option.some.inj (h.2.symm.trans h'.2)
theorem bg.fn{W:World}{S S' : Nat->Prop}{v:Value}{t t' : Rx}(h:bg W S v t)(h' : bg W S' v t'):t=t' := by
 induction h generalizing t' with
 |leaf b t h=>
  cases h' with
  |leaf _ t' h2=>exact bX _ _ (Ec h h2)
 | join g b5 b3 b4 fa fb ta tb h1 h2 h3 _ _ ih1 ih2=>
  cases h' with
  |join g' _ _ _ fa' fb' ta' tb' k1 k2 k3 k4 k5=>
   obtain rfl:=Ec h2 k2;obtain rfl:=Ec h3 k3;have hg:=Ec h1 k1;rw[ih1 k4,ih2 k5];have:g=g' := by cases g<;>cases g' <;> simp[Jn.v,Jn.f]at hg<;>rfl
   rw[this]
 | star b fa ta h _ ih=>
  cases h' with
  |star _ fa' ta' k1 k2=>
   obtain rfl:=Ec h k1;rw[ih k2]
def cN(r:RL):FK:=⟨λcs W S=>∃ fv,cs=[.int .i64 (r.1:Nat),fv]/\bg W S fv r.2,λhs ⟨fv,h1,h2⟩=>⟨fv,h1,h2.mono hs⟩⟩
def gx(r:RL)(fv:Value):Value:=.agg #[.int .i64 (r.1:Nat),fv]
theorem qA(r:RL)(fv:Value)(h:fv.oneCell' = true):Sh.two.val [.int .i64 (r.1:Nat),fv]=gx r fv:=by
 show Value.agg #[hv (.int .i64 (r.1:Nat)),hv fv]=_;rw[jz h];rfl
theorem jv{W:World}{S:Nat->Prop}{r:RL}{u:Value}(h:∃ cs,u=Sh.two.val cs/\(cN r).Φ cs W S):∃ fv,u=gx r fv/\bg W S fv r.2:=by
 obtain⟨cs,rfl,fv,rfl,h⟩:=h;exact⟨fv,qA r fv h.one,h⟩
theorem bH{W:World}{S:Nat->Prop}{r:RL}{fv:Value}(h:bg W S fv r.2):∃ cs,gx r fv=Sh.two.val cs/\(cN r).Φ cs W S:=
 ⟨_,(qA r fv h.one).symm,fv,rfl,h⟩
theorem kQ{r:RL}{W1:World}{bs1:List Nat}{w:World}{S:Nat->Prop}{fv:Value}(hg:bg W1 (fi (cl w S) bs1) fv r.2):PO w S W1 bs1 (.agg [.v (.int .i64 (r.1:Nat)),.v fv]) (.fact Sh.two (cN r)):=
 ⟨[.int .i64 (r.1:Nat),fv],λE=>(qA r fv hg.one).symm,fv,rfl,hg⟩
theorem bT{W:World}{S:Nat->Prop}{r:RL}{cs:List Value}(h:(cN r).Φ cs W S):∃ fv,cs=[.int .i64 (r.1:Nat),fv]/\bg W S fv r.2/\hv fv=fv:=by
 obtain⟨fv,h1,h2⟩:=h;exact⟨fv,h1,h2,jz h2.one⟩
theorem hD(t:Rx):partsOf (.v (aB t))=[.v (aB t)]:=by cases t<;>rfl
def DO:=(ak @List.replicate_succ.{0} @List.replicate_zero.{0} @aq @ae lP lM lA (ak dI dK dJ dG sw sS sO (ak sN JF IN Je pM qs qm (ak pR qv pZ SU Sy QX RX (ak R2 On TL QA P6 Pm Tw (ak Tx Tt N8 Sg Po TB Jj (ak IW JT J0 Jo IL JX PM (ak S9 P5 Sv S4 Rs OL O3 (ak Ra RE Og Tm TP Qg Sj (ak SZ PU Pf SN Q4 Q5 Qi (ak Om SJ Ot QD Tg yK yS (ak yM @a6 @aw @aD @aE @hD (λt=>jz (bA t)) @bA))))))))))))
theorem SK(t:Rx)(w:World)(S:Nat->Prop):Calls prog 249 #[aB t] w λe w' => lT w S e w' (.fact Sh.two (cN (bw t))):=by
 refine eI (nt:=5) S [.cell 2 254] func249 rfl rfl rfl ?_;refine vR Γ0 DO ?_;refine vR Γ0 DO ?_;refine Wp.lV 0 (ev DO) (λE=>by simp only[ah,den];exact rfl) λW1 bs1 b hx hb hn hc=>?_
 refine wZ DO ?_;exact⟨[_,_],λE=>rfl,_,rfl,.leaf b t ⟨⟨cl.up w S b hn,hb⟩,cell_of hc 0 sI⟩⟩
def lW(t:Rx):jw prog 249 where
 kinds:=[none]
 pre:=λas_ _ _=>as_=[.val (aB t)]
 premono:=λ_ _ _ _ _ _ h=>h
 out:=λ_=>.fact Sh.two (cN (bw t))
 enters:=call249
 ok:=by
  intro w S us as_ hu hp;subst hp
  match us,hu with
  |[u],hu=>
   obtain⟨rfl,_⟩:=hu;exact SK t w S
theorem Iu(n:Int)(w:World):Calls prog 219 #[.int .i64 n] w λe w' => e=.returned (.int .i64 (min n 2001))/\af w [] w' := by
 refine av (nt:=5) [.tmp 2] func219 rfl rfl rfl ?_;refine vR Γ0 DO ?_;refine vR Γ0 DO ?_;refine wZ DO ?_;exact λE=>by simp only[den];congr 1;split<;>omega
def uu:bu prog 219 where
 pre:=λW bs=>λ| [.val (.int .i64 n)]=>True|_=>False
 res:=λW=>λ| [.val (.int .i64 n)]=>.int .i64 (min n 2001)|_=>undef
 enters:=call219
 ok:=by
  intro W w bs us as_ hk hu hp;split at hp
  ·rename_i n
   match us,hu with
   |[u0],hu=>
    obtain⟨rfl,_⟩:=hu;exact Iu n w
  ·exact hp.elim
theorem sY(W:World)(n:Int):uu.res W [.val (.int .i64 n)]=.int .i64 (min n 2001):=rfl
theorem sy(W:World)(bs:List Nat)(n:Int):uu.pre W bs [.val (.int .i64 n)]=(True):=rfl
noncomputable def Zi:Env prog:=⟨λ| 219=>some uu.spec|_=>none,λ| _=>none,λ_ _=>none⟩
theorem Ja:Zi.sp 219=some uu.spec:=rfl
theorem J8{a b:Nat}(ha:a<=2001)(hb:b<=2001):IntKind.i64.wrap (IntKind.i64.wrap (1+(a:Int))+(b:Int))=((1+a+b:Nat):Int):=by
 rw[aH (n:=1+(a:Int)) oM oM,aH oM oM];omega
theorem jm(n:Nat):min ((n:Nat):Int) 2001=((bR n:Nat):Int):=by unfold bR;omega
def wJ:=(iS DO @sY @sy @Ja)
theorem Rg(g:Jn)(a b:RL)(fa fb:Value)(ha:a.1<=2001)(hb:b.1<=2001)(w:World)(S:Nat->Prop)(h1:bg w S fa a.2)(h2:bg w S fb b.2) :
  Calls prog 180 #[gx a fa,gx b fb,g.v] w λe w' => lT w S e w' (.fact Sh.two (cN (aM g.mk a b))):=by
 have ga:partsOf (.v (gx a fa))=[.v (.int .i64 (a.1:Nat)),.v fa]:=rfl;have gb:partsOf (.v (gx b fb))=[.v (.int .i64 (b.1:Nat)),.v fb]:=rfl;have gg:partsOf (.v g.v)=[.v g.v]:=rfl;have w1:=J8 ha hb;refine eI (nt:=16) S [.cell 6 254] func180 rfl rfl rfl ?_;refine vR Zi (iS wJ ga gb gg) ?_
 refine vR Zi (oR wJ ga gb gg w1 @jm) ?_;refine Wp.lV 0 (ev (iS wJ ga gb gg)) (λE=>by simp only[ah,den,ga,gb,gg];exact rfl) λW1 bs1 b3 hx1 hb3 hn3 hc3=>?_
 refine Wp.lV 8 (ev (iS wJ ga gb gg)) (λE=>by simp only[ah,den,ga,gb,gg];exact rfl) λW2 bs2 b4 hx2 hb4 hn4 hc4=>?_
 refine Wp.lV 16 (ev (iS wJ ga gb gg)) (λE=>by simp only[ah,den,ga,gb,gg];exact rfl) λW3 bs3 b5 hx3 hb5 hn5 hc5=>?_
 refine wZ (oR wJ ga gb gg w1 @jm) ?_;have hx:=(hx1.trans hx2).trans hx3;have u0:=cl.up w S;have u1:=u0.ext hx1;have u2:=u1.ext hx2;have s0:bV w S W3 (fi (cl w S) bs3):=(cl.fe w S).trans (hx.Cm) (Nat.le_refl _)
 refine⟨[_,_],λE=>rfl,_,rfl,.join g b5 b3 b4 fa fb a.2 b.2 ⟨⟨u2 b5 hn5,hb5⟩,cell_of hc5 0 sI⟩ ?_ ?_ (h1.mono s0) (h2.mono s0)⟩
 ·exact XC.mono (XC.mono ⟨⟨u0 b3 hn3,hb3⟩,cell_of hc3 1 sI⟩ hx2.Cm) hx3.Cm
 ·exact XC.mono ⟨⟨u1 b4 hn4,hb4⟩,cell_of hc4 1 sI⟩ hx3.Cm
def gn(g:Jn)(a b:RL):jw prog 180 where
 kinds:=[some (Sh.two,cN a),some (Sh.two,cN b),none]
 pre:=λas_ _ _=>(a.1<=2001/\b.1<=2001)/\∃ x y,as_=[x,y,.val g.v]
 premono:=λ_ _ _ _ _ _ h=>h
 out:=λ_=>.fact Sh.two (cN (aM g.mk a b))
 enters:=call180
 ok:=by
  intro w S us as_ hu hp;obtain⟨⟨ha,hb⟩,x,y,rfl⟩:=hp
  match us,hu with
  |[u1,u2,u3],hu=>
   obtain⟨h1,h2,rfl,_⟩:=hu;obtain⟨fa,rfl,h1'⟩:=jv h1;obtain⟨fb,rfl,h2'⟩:=jv h2;exact Rg g a b fa fb ha hb w S h1' h2'
theorem Rc(a:RL)(fa:Value)(ha:a.1<=2001)(w:World)(S:Nat->Prop)(h1:bg w S fa a.2) :
  Calls prog 260 #[gx a fa] w λe w' => lT w S e w' (.fact Sh.two (cN (eF a))):=by
 have ga:partsOf (.v (gx a fa))=[.v (.int .i64 (a.1:Nat)),.v fa]:=rfl;have w1:IntKind.i64.wrap (1+(a.1:Int))=((1+a.1:Nat):Int):=wW;refine eI (nt:=9) S [.cell 2 254] func260 rfl rfl rfl ?_;refine vR Zi (aa wJ ga) ?_;refine vR Zi (iS wJ ga w1 @jm) ?_
 refine Wp.lV 0 (ev (aa wJ ga)) (λE=>by simp only[ah,den,ga];exact rfl) λW1 bs1 b3 hx1 hb3 hn3 hc3=>?_
 refine wZ (iS wJ ga w1 @jm) ?_;have s0:bV w S W1 (fi (cl w S) bs1):=(cl.fe w S).trans (hx1.Cm) (Nat.le_refl _);exact⟨[_,_],λE=>rfl,_,rfl,.star b3 fa a.2 ⟨⟨cl.up w S b3 hn3,hb3⟩,cell_of hc3 1 sI⟩ (h1.mono s0)⟩
def xr(a:RL):jw prog 260 where
 kinds:=[some (Sh.two,cN a)]
 pre:=λas_ _ _=>a.1<=2001/\∃ x,as_=[x]
 premono:=λ_ _ _ _ _ _ h=>h
 out:=λ_=>.fact Sh.two (cN (eF a))
 enters:=call260
 ok:=by
  intro w S us as_ hu hp;obtain⟨hp,x,rfl⟩:=hp
  match us,hu with
  |[u1],hu=>
   obtain⟨h1,_⟩:=hu;obtain⟨fa,rfl,h1'⟩:=jv h1;exact Rc a fa hp w S h1'
noncomputable def Γ41(G:Nat->Prop)(a:RL):Env prog:=⟨λ| 249=>some ((lW .eps).spec G)|180=>some ((gn .alt a (bw .eps)).spec G)|_=>none,λ_=>none,λ_ _=>none⟩
theorem V9(G:Nat->Prop)(a:RL):(Γ41 G a).sp 249=some ((lW .eps).spec G):=rfl
theorem XR(G:Nat->Prop)(a:RL):(Γ41 G a).sp 180=some ((gn .alt a (bw .eps)).spec G):=rfl
def VS:=(NT wJ @eA @lW.eq_1 @gn.eq_1 @xr.eq_1 @V9 @XR)
theorem KH(a:RL)(fa:Value)(ha:a.1<=2001)(w:World)(S:Nat->Prop)(h1:bg w S fa a.2) :
  Calls prog 261 #[gx a fa] w λe w' => lT w S e w' (.fact Sh.two (cN (bj a))):=by
 have ga:partsOf (.v (gx a fa))=[.v (.int .i64 (a.1:Nat)),.v fa]:=rfl;refine eI (nt:=8) S [.cell 2 254] func261 rfl rfl rfl ?_;refine vR Zi (aa VS ga) ?_;refine A0 (Γ41 (cl w S) a) (aa VS ga) ?_ ?_
 ·have u0:=cl.up w S;exact⟨⟨rfl,u0⟩,⟨bH (h1.mono (cl.fe w S)),⟨ha,dE⟩,_,_,rfl⟩,u0⟩
 refine Wp.gG 48 (ev (aa VS ga)) (bV.refl _ _) λW1 bs1 cs hx1 hΦ=>?_
 obtain⟨fv,rfl,hg,hv1⟩:=bT hΦ;refine wZ (dx VS ga hv1) ?_;exact kQ hg
def rK(a:RL):jw prog 261 where
 kinds:=[some (Sh.two,cN a)]
 pre:=λas_ _ _=>a.1<=2001/\∃ x,as_=[x]
 premono:=λ_ _ _ _ _ _ h=>h
 out:=λ_=>.fact Sh.two (cN (bj a))
 enters:=call261
 ok:=by
  intro w S us as_ hu hp;obtain⟨hp,x,rfl⟩:=hp
  match us,hu with
  |[u1],hu=>
   obtain⟨h1,_⟩:=hu;obtain⟨fa,rfl,h1'⟩:=jv h1;exact KH a fa hp w S h1'
theorem pf(f:RL->RL):∀ (n:Nat) (x:RL),ba f (n+1) x=f (ba f n x)
 |0,x=>rfl
 |n+1,x=>by rw[ba,pf f n,<- ba]
theorem eB(mk:Rx->Rx->Rx)(a b:RL):(aM mk a b).1<=2001:=je _
theorem mz(f:RL->RL)(hf:∀ x,(f x).1<=2001):∀ (n:Nat) (x:RL),x.1<=2001->(ba f n x).1<=2001
 |0,x,h=>h
 |n+1,x,h=>mz f hf n (f x) (hf x)
end
end Go.Proofs.YtnemkecffmdlnaaGreatDoor
