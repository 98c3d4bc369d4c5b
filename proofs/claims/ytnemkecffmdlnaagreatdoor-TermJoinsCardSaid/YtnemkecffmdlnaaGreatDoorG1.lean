/-
 Part 1 of the proof (packed).
-/
import Derived.WalkKit
import Derived.WalkLawsBesides
import Derived.WalkSpells
import Derived.Deep.AppendSrc
import Derived.Deep.Upon
import Derived.Laws.BytesString
import Derived.Orders
set_option linter.unusedSimpArgs false
set_option linter.unusedVariables false
set_option linter.defProp false
set_option maxHeartbeats 16000000
namespace Go.LE
section
theorem aa{a b:Prop}(xa:a)(xb:b):a/\b:=⟨xa,xb⟩
theorem bp{a b c:Prop}(xa:a)(xb:b)(xc:c):a/\b/\c:=⟨xa,xb,xc⟩
theorem fg{a b c d:Prop}(xa:a)(xb:b)(xc:c)(xd:d):a/\b/\c/\d:=⟨xa,xb,xc,xd⟩
theorem nu{a b c d e:Prop}(xa:a)(xb:b)(xc:c)(xd:d)(xe:e):a/\b/\c/\d/\e:=⟨xa,xb,xc,xd,xe⟩
theorem oQ{a b c d e f:Prop}(xa:a)(xb:b)(xc:c)(xd:d)(xe:e)(xf:f):a/\b/\c/\d/\e/\f:=⟨xa,xb,xc,xd,xe,xf⟩
theorem EL{a b c d e f g:Prop}(xa:a)(xb:b)(xc:c)(xd:d)(xe:e)(xf:f)(xg:g):a/\b/\c/\d/\e/\f/\g:=⟨xa,xb,xc,xd,xe,xf,xg⟩
theorem ae{a b c d e f g h:Prop}(xa:a)(xb:b)(xc:c)(xd:d)(xe:e)(xf:f)(xg:g)(xh:h):a/\b/\c/\d/\e/\f/\g/\h:=⟨xa,xb,xc,xd,xe,xf,xg,xh⟩
theorem oM{p:Prop}(h:p:=by omega):p:=h
theorem sI{p:Prop}(h:p:=by simp):p:=h
theorem dE{p:Prop}(h:p:=by decide):p:=h
open Go.RowKit
inductive SV where
 |v (x:Value)
 |own (k off:Nat)
 |hd (k:Nat)
 |agg (l:List SV)
 |tup (l:List SV)
 |nO (t:TypeId) (x:SV)
 |part (k i:Nat)
 |fn (f:Fn) (first cap:List SV)
def base:Value->Option Addr
 |.pointer (some a)=>some a
 |.slice (some a) _ _=>some a
 |_=>none
def dt:Option Addr->Nat->Value
 |some a,o=>.pointer (some ⟨a.block,a.off+o,none⟩)
 |none,_=>.nilIface
def hv(u:Value):Value:=if u.oneCell' then u else .nilIface
theorem HF(u:Value):(hv u).oneCell' = true:=by
 unfold hv;split
 ·assumption
 ·rfl
theorem fQ{u:Value}(h:u.oneCell' = true):hv u=u:=by simp[hv,h]
theorem ux{u:Value}(h:u.oneCell' = true):u.cells=#[u]:=by cases u<;>first|rfl|(simp[Value.oneCell']at h)
def LV:Value->Nat->Value
 |.iface _ (.agg cs),i=>cs.getD i .nilIface
 |_,_=>.nilIface
mutual
def den(E:Nat->Value):SV->Value
 |.v x=>x
 |.own k o=>dt (base (E k)) o
 |.hd k=>hv (E k)
 |.agg l=>.agg (ai E l).toArray
 |.tup l=>.tuple (ai E l).toArray
 |.nO t x=>.iface t (den E x)
 |.part k i=>hv (LV (E k) i)
 |.fn f a c=>.func f (ai E a).toArray (ai E c).toArray
def ai(E:Nat->Value):List SV->List Value
 |[]=>[]
 |x::r=>den E x::ai E r
end
mutual
def SV.keys:SV->List Nat
 |.v _=>[]
 |.own k _=>[k]
 |.hd k=>[k]
 |.agg l=>az l
 |.tup l=>az l
 |.nO _ x=>x.keys
 |.part k _=>[k]
 |.fn _ a c=>az a++az c
def az:List SV->List Nat
 |[]=>[]
 |x::r=>x.keys++az r
end
mutual
theorem o9{E E' : Nat->Value}:∀ x:SV,(∀ k∈x.keys,E k=E' k)->den E x=den E' x
 |.v _,_=>rfl
 |.own k o,h=>by simp only[den];rw[h k (by simp[SV.keys])]
 |.hd k,h=>by simp only[den];rw[h k (by simp[SV.keys])]
 |.agg l,h=>by simp only[den];rw[bE l (by simpa [SV.keys] using h)]
 |.tup l,h=>by simp only[den];rw[bE l (by simpa [SV.keys] using h)]
 |.nO t x,h=>by simp only[den];rw[o9 x (by simpa [SV.keys] using h)]
 |.part k i,h=>by simp only[den];rw[h k (by simp[SV.keys])]
 |.fn f a c,h=>by
  simp only[den];rw[bE a (λk hk=>h k (by simp[SV.keys,hk])),bE c (λk hk=>h k (by simp[SV.keys,hk]))]
theorem bE{E E' : Nat->Value}:∀ l:List SV,(∀ k∈az l,E k=E' k)->ai E l=ai E' l
 |[],_=>rfl
 |x::r,h=>by
  simp only[ai];rw[o9 x (λk hk=>h k (by simp[az,hk])),bE r (λk hk=>h k (by simp[az,hk]))]
end
theorem bC(E:Nat->Value):∀ l,ai E l=l.map (den E)
 |[]=>rfl
 |x::r=>by simp[ai,bC E r]
theorem cl{k:Nat}:∀ {l:List SV},k∈az l ↔ ∃ x∈l,k∈x.keys
 |[]=>by simp[az]
 |x::r=>by simp[az,cl (l:=r)]
theorem aH(E:Nat->Value)(l:List SV):(ai E l).length=l.length:=by simp[bC]
theorem aS(E:Nat->Value)(l:List Value):ai E (l.map SV.v)=l:=by simp[bC,Function.comp_def,den]
theorem aR(l:List Value):az (l.map SV.v)=[]:=by
 induction l with
 |nil=>rfl
 |cons x r ih=>simp[az,SV.keys,ih]
theorem eG(E:Nat->Value)(a b:List SV):ai E (a++b)=ai E a++ai E b:=by simp[bC]
theorem aU(a b:List SV):az (a++b)=az a++az b:=by
 induction a with
 |nil=>rfl
 |cons x r ih=>simp[az,ih]
inductive FV where
 |is (x:SV)
 |cnd (b:Bool) (x:SV)
 |any
def FV.keys:FV->List Nat
 |.is x=>x.keys
 |.cnd b x=>bif b then x.keys else []
 |.any=>[]
def fits(E:Nat->Value):FV->Value->Prop
 |.is x,u=>u=den E x
 |.cnd b x,u=>u=bif b then den E x else undef
 |.any,_=>True
theorem O4{E E' : Nat->Value}{f:FV}{u:Value}(h:∀ k∈f.keys,E k=E' k)(hf:fits E f u):fits E' f u:=by
 cases f with
 |is x=>simpa [fits,o9 x h] using hf
 |cnd b x=>
  cases b with
  |false=>exact hf
  |true=>simpa [fits,o9 x h] using hf
 |any=>trivial
inductive aZ where
 |cells (T:TypeId) (vs:List SV)
 |row (T:TypeId) (size n:Nat) (vs:List SV)
 |mp (ks:List ByteArray) (vs:List SV)
 |obj (d:List Value) (R:List Value->Value->List Nat->World->Prop)
def aZ.keys:aZ->List Nat
 |.cells _ vs=>az vs
 |.row _ _ _ vs=>az vs
 |.mp _ vs=>az vs
 |.obj _ _=>[]
def bA(E:Nat->Value)(u:Value)(fp:List Nat)(w:World):aZ->Prop
 |.cells T vs=>∃ b,u=.pointer (some ⟨b,0,none⟩)/\fp=[b]/\w.heap[b]?=some (.cells (ai E vs).toArray T (0,0))
 |.row T size n vs=>w.ownsRow 0 T size u n (ai E vs)/\fp=u.ownBlock.toList
 |.mp ks vs=>∃ b es c,u=.map (some b)/\fp=[b]/\w.heap[b]?=some (.map es c)/\es.toList.map (·.key)=ks.map .string/\es.toList.map (·.val)=ai E vs
 |.obj d R=>(R d u fp w/\u.oneCell' = true)/\∀ w' : World,(∀ b∈fp,w'.heap[b]?=w.heap[b]?)->R d u fp w'
theorem lT{E:Nat->Value}{u:Value}{fp:List Nat}{w w' : World}{e:aZ}(h:bA E u fp w e)(hl:∀ b∈fp,w'.heap[b]?=w.heap[b]?):bA E u fp w' e:=by
 cases e with
 |cells T vs=>
  obtain⟨b,h1,h2,h3⟩:=h;exact⟨b,h1,h2,by rw[hl b (by simp[h2])];exact h3⟩
 | row T size n vs=>
  obtain⟨⟨h1,h2⟩,h3⟩:=h;refine⟨⟨h1,?_⟩,h3⟩;rcases h2 with h2|⟨g,cap,cur,hv,hg,hh,r⟩
  ·exact .inl h2
  ·refine .inr ⟨g,cap,cur,hv,hg,?_,r⟩;rw[hl g (by rw[h3,hv];simp[Value.ownBlock])];exact hh
 |mp ks vs=>
  obtain⟨b,es,c,h1,h2,h3,h4⟩:=h;exact⟨b,es,c,h1,h2,by rw[hl b (by simp[h2])];exact h3,h4⟩
 |obj d R=>
  refine⟨⟨h.2 w' hl,h.1.2⟩,λw'' hl' => h.2 w'' λb hb=>(hl' b hb).trans (hl b hb)⟩
theorem cd{E:Nat->Value}{u:Value}{fp:List Nat}{w:World}{e:aZ}(h:bA E u fp w e):u.oneCell' = true:=by
 cases e with
 |cells T vs=>obtain⟨b,h1,_⟩:=h;rw[h1];rfl
 |row T size n vs=>rcases h.1.2 with ⟨h1,_⟩|⟨g,cap,cur,h1,_⟩<;>rw[h1]<;>rfl
 |mp ks vs=>obtain⟨b,es,c,h1,_⟩:=h;rw[h1];rfl
 |obj d R=>exact h.1.2
theorem gV{E E' : Nat->Value}{u:Value}{fp:List Nat}{w:World}{e:aZ}(hk:∀ k∈e.keys,E k=E' k)(h:bA E u fp w e):bA E' u fp w e:=by
 cases e with
 |cells T vs=>simpa [bA,bE vs hk] using h
 |row T size n vs=>simpa [bA,bE vs hk] using h
 |mp ks vs=>simpa [bA,bE vs hk] using h
 |obj d R=>exact h
structure an (W:World)(bs:List Nat)(w:World):Prop where
 os:w.os=W.os
 tape:w.tape=W.tape
 output:w.output=W.output
 size:W.heap.size<=w.heap.size
 block:∀ b,b<W.heap.size->b∉bs->w.heap[b]?=W.heap[b]?
theorem an.refl(W:World)(bs:List Nat):an W bs W:=⟨rfl,rfl,rfl,Nat.le_refl _,λ_ _ _=>rfl⟩
theorem an.below{W w:World}(h:an W [] w):Below W.heap.size W w:=⟨h.os,h.tape,h.output,h.size,λk hk=>h.block k hk sI⟩
theorem an.LH{W w:World}(h:Below W.heap.size W w):an W [] w:=⟨h.os,h.tape,h.output,h.size,λb hb _=>h.block b hb⟩
theorem an.mono{W w:World}{bs bs' : List Nat}(h:an W bs w)(hs:∀ b∈bs,b∈bs'):an W bs' w:=
 ⟨h.os,h.tape,h.output,h.size,λb hb hn=>h.block b hb λhm=>hn (hs b hm)⟩
theorem an.drop{W w:World}{bs bs' : List Nat}(h:an W bs' w)(hs:∀ b∈bs',b<W.heap.size->b∈bs):an W bs w:=
 ⟨h.os,h.tape,h.output,h.size,λb hb hn=>h.block b hb λhm=>hn (hs b hm hb)⟩
theorem an.trans{W w w' : World}{bs bs' : List Nat}(h:an W bs w)(h' : an w bs' w')(hs:∀ b∈bs',b<W.heap.size->b∈bs):an W bs w' :=
 ⟨h'.os.trans h.os,h'.tape.trans h.tape,h'.output.trans h.output,Nat.le_trans h.size h'.size,
  λb hb hn=>(h'.block b (Nat.lt_of_lt_of_le hb h.size) λhm=>hn (hs b hm hb)).trans (h.block b hb hn)⟩
structure aj (W:World)(bs:List Nat)(E:Nat->Value)(F:Nat->List Nat)(h:Nat->Option aZ)(w:World):Prop where
 ent:∀ k e,h k=some e->bA E (E k) (F k) w e
 lt:∀ k e,h k=some e->∀ b∈F k,b<w.heap.size
 mine:∀ k e,h k=some e->∀ b∈F k,W.heap.size<=b\/b∈bs
 apart:∀ k k' e e',k≠k' -> h k=some e->h k' = some e' -> ∀ b∈F k,b∉F k'
 keeps:an W bs w
def bu{α:Type}(f:Nat->α)(k:Nat)(x:α):Nat->α:=λj=>if j=k then x else f j
theorem ah{α:Type}(f:Nat->α)(k:Nat)(x:α):bu f k x k=x:=by simp[bu]
theorem al{α:Type}(f:Nat->α){k j:Nat}(x:α)(h:j≠k):bu f k x j=f j:=by simp[bu,h]
def ba{α:Type}(f:Nat->α):List (Nat×α)->Nat->α
 |[]=>f
 |(k,x)::r=>ba (bu f k x) r
end
section
open Go.RowKit
structure R where
 side:Prop
 val:SV
 bu:List (Nat×Option aZ):=[]
 pan:Option (List PanicEntry):=none
 pupd:List Nat:=[]
 reads:List Nat:=[]
def R.bad:R:={ side:=False,val:=.v undef }
def R.ok(x:SV):R:={ side:=True,val:=x }
def R.iC(p:Prop)(x:SV):R:={ side:=p,val:=x }
def R.new(k:Nat)(e:aZ)(x:SV):R:={ side:=True,val:=x,bu:=[(k,some e)] }
def dropKeys(h:Nat->Option aZ)(ks:List Nat):Nat->Option aZ:=λk=>if k∈ks then none else h k
def nk(κ:Nat):Nat:=8*κ
def oS(P:Program)(res:Result Next)(K:Value->World->Prop)(KP:List PanicEntry->World->Prop):Prop:=
 match res with
 |.ok (.value v) w' => K v w'
 |.ok .skip w' => K undef w'
 | .ok (.enter f args) w' => Calls P f args w' fun
   |.returned v,w'' => K v w''
   |.panicked c,w'' => KP c w''
   |.outgrown,_=>False
 |.halt (.panic v) w' => KP [{ v,recovered:=false }] w'
 |_=>False
theorem oS.mono{P:Program}{res:Result Next}{K K' : Value->World->Prop}{KP KP' : List PanicEntry->World->Prop}(h:oS P res K KP)
  (hk:∀ v w,K v w->K' v w) (hp:∀ c w,KP c w->KP' c w):oS P res K' KP' := by
 unfold oS at *;split at h
 ·exact hk _ _ h
 ·exact hk _ _ h
 ·exact h.mono λe w he=>by cases e<;>first|exact hk _ _ he|exact hp _ _ he|exact he
 ·exact hp _ _ h
 ·exact h.elim
theorem Ez{P:Program}{o:Oper}{a:Act}{w:World}{K:Act->World->Prop}{Q:Exit->Act->World->Prop}
  (h:oS P ((execOp a.eval o).run P w) (λv w' => K (a.put o.dst v) w') (λc w' => Q (.panic c) a w')):o.wp P a w K Q:=by
 unfold Oper.wp;unfold oS at h;split at h
 ·rename_i hr;rw[hr];exact h
 ·rename_i hr;rw[hr];exact h
 ·rename_i hr;rw[hr];exact h.mono λe w he=>by cases e<;>first|exact he|exact he.elim
 ·rename_i hr;rw[hr];exact h
 ·exact h.elim
def Good(P:Program)(W:World)(bs:List Nat)(κ:Nat)(E:Nat->Value)(h:Nat->Option aZ)(r:R)(res:Result Next):Prop:=
 oS P res
  (λv w' => r.pan=none/\∃ E' F',(∀ k,k / 8≠κ->E' k=E k)/\v=den E' r.val/\aj W bs E' F' (ba h r.bu) w')
  (λc w' => r.pan=some c/\∃ F',aj W bs E F' (dropKeys h r.pupd) w')
section
variable {P:Program}{W:World}{bs:List Nat}{κ:Nat}{E:Nat->Value}{F:Nat->List Nat}{h:Nat->Option aZ}{w:World}
theorem Good.pure{r:R}{v:Value}(hs:aj W bs E F h w)(hv:v=den E r.val)(hu:r.bu=[])(hp:r.pan=none) :
  Good P W bs κ E h r (.ok (.value v) w):=by
 simp only[Good,oS];exact⟨hp,E,F,λ_ _=>rfl,hv,by rw[hu];exact hs⟩
theorem Good.skip{r:R}(hs:aj W bs E F h w)(hv:r.val=.v undef)(hu:r.bu=[])(hp:r.pan=none) :
  Good P W bs κ E h r (.ok .skip w):=by
 simp only[Good,oS];exact⟨hp,E,F,λ_ _=>rfl,by rw[hv];rfl,by rw[hu];exact hs⟩
theorem aj.grow{w' : World}(hs:aj W bs E F h w)(hk:an w [] w'):aj W bs E F h w' := by
 refine⟨λk e he=>lT (hs.ent k e he) λb hb=>hk.block b (hs.lt k e he b hb) sI,λk e he b hb=>Nat.lt_of_lt_of_le (hs.lt k e he b hb) hk.size,hs.mine,hs.apart,?_⟩;exact hs.keeps.trans hk sI
theorem Py(κ j:Nat)(hj:j<8):(nk κ+j) / 8=κ:=by unfold nk;omega
theorem a6(κ:Nat):nk κ / 8=κ:=by unfold nk;omega
def bU(K:Nat->Prop)(h:Nat->Option aZ):Prop:=∀ k e,h k=some e->K k/\∀ j∈e.keys,K j
theorem aj.new{w' : World}{e:aZ}{u:Value}{fp:List Nat}{K:Nat->Prop}{k:Nat}(hs:aj W bs E F h w)(hK:bU K h)(hk:¬ K k)
  (he:bA (bu E k u) u fp w' e) (hfp:∀ b∈fp,w.heap.size<=b/\b<w'.heap.size) (hkeep:an w [] w') :
  aj W bs (bu E k u) (bu F k fp) (bu h k (some e)) w' := by
 have hne:∀ j x,h j=some x->j≠k:=λj x hj hjk=>hk (hjk ▸ (hK j x hj).1)
 have g:=hs.grow hkeep;constructor
 ·intro j x hj;by_cases hjk:j=k
  ·subst hjk;simp only[ah,Option.some.injEq]at hj ⊢;subst hj;exact he
  ·rw[al _ _ hjk]at hj;rw[al _ _ hjk,al _ _ hjk];exact gV (λi hi=>(al _ _ (show i≠k from λhik=>by subst hik;exact hk ((hK j x hj).2 i hi))).symm) (g.ent j x hj)
 ·intro j x hj b hb;by_cases hjk:j=k
  ·subst hjk;rw[ah]at hb;exact (hfp b hb).2
  ·rw[al _ _ hjk]at hj hb;exact g.lt j x hj b hb
 ·intro j x hj b hb;by_cases hjk:j=k
  ·subst hjk;rw[ah]at hb;exact .inl (Nat.le_trans hs.keeps.size (hfp b hb).1)
  ·rw[al _ _ hjk]at hj hb;exact g.mine j x hj b hb
 ·intro i j x y hij hi hj b hb;by_cases hik:i=k
  ·subst hik;rw[al _ _ (Ne.symm hij)]at hj ⊢;rw[ah]at hb;exact λhb' => by have h1:=hs.lt j y hj b hb';have h2:=(hfp b hb).1;omega
  ·rw[al _ _ hik]at hi hb;by_cases hjk:j=k
   ·subst hjk;rw[ah];exact λhb' => by have h1:=hs.lt i x hi b hb;have h2:=(hfp b hb').1;omega
   ·rw[al _ _ hjk]at hj ⊢;exact hs.apart i j x y hij hi hj b hb
 ·exact g.keeps
theorem aj.anb{w' : World}{e e' : aZ}{fp:List Nat}{k:Nat}(hs:aj W bs E F h w)(hk:h k=some e)
  (he:bA E (E k) fp w' e') (hfp:∀ b∈fp,b∈F k\/w.heap.size<=b) (hlt:∀ b∈fp,b<w'.heap.size) (hkeep:an w (F k) w') :
  aj W bs E (bu F k fp) (bu h k (some e')) w' := by
 have old:∀ j x,h j=some x->j≠k->∀ b∈F j,w'.heap[b]?=w.heap[b]?:=λj x hj hjk b hb=>
  hkeep.block b (hs.lt j x hj b hb) λhb' => hs.apart j k x e hjk hj hk b hb hb'
 constructor
 ·intro j x hj;by_cases hjk:j=k
  ·subst hjk;simp only[ah,Option.some.injEq]at hj ⊢;subst hj;exact he
  ·rw[al _ _ hjk]at hj;rw[al _ _ hjk];exact lT (hs.ent j x hj) (old j x hj hjk)
 ·intro j x hj b hb;by_cases hjk:j=k
  ·subst hjk;rw[ah]at hb;exact hlt b hb
  ·rw[al _ _ hjk]at hj hb;exact Nat.lt_of_lt_of_le (hs.lt j x hj b hb) hkeep.size
 ·intro j x hj b hb;by_cases hjk:j=k
  ·subst hjk;rw[ah]at hb;rcases hfp b hb with hb|hb
   ·exact hs.mine j e hk b hb
   ·exact .inl (Nat.le_trans hs.keeps.size hb)
  ·rw[al _ _ hjk]at hj hb;exact hs.mine j x hj b hb
 ·intro i j x y hij hi hj b hb;by_cases hik:i=k
  ·subst hik;rw[al _ _ (Ne.symm hij)]at hj ⊢;rw[ah]at hb;rcases hfp b hb with hb|hb
   ·exact hs.apart i j e y hij hk hj b hb
   ·exact λhb' => by have h1:=hs.lt j y hj b hb';omega
  ·rw[al _ _ hik]at hi hb;by_cases hjk:j=k
   ·subst hjk;rw[ah];intro hb';rcases hfp b hb' with hb'|hb'
    ·exact hs.apart i j x e hij hi hk b hb hb'
    ·have h1:=hs.lt i x hi b hb;omega
   ·rw[al _ _ hjk]at hj ⊢;exact hs.apart i j x y hij hi hj b hb
 ·exact hs.keeps.trans hkeep λb hb hlt' => (hs.mine k e hk b hb).resolve_left oM
theorem aj.drop{h' : Nat->Option aZ}(hs:aj W bs E F h w)(hd:∀ k e,h' k=some e->h k=some e):aj W bs E F h' w:=
 ⟨λk e he=>hs.ent k e (hd k e he),λk e he=>hs.lt k e (hd k e he),λk e he=>hs.mine k e (hd k e he),λk k' e e' hne he he' => hs.apart k k' e e' hne (hd k e he) (hd k' e' he'),hs.keeps⟩
end
def tz(P:Program)(T:TypeId):Option (List Value):=(P.info? T).bind λi=>i.zero.map λz=>z.cells.toList
def ts(P:Program)(T:TypeId):Option Nat:=(P.info? T).map (·.size)
def xq(P:Program)(T:TypeId):Option Nat:=(P.info? T).map (·.bytes)
def ta(P:Program)(T:TypeId):Option Bool:=(P.underlying T).map λ| .struct _=>true|.array _ _=>true|_=>false
def tf(P:Program)(S:TypeId)(f:Nat):Option (Nat×Nat×Bool):=
 match P.underlying S with
 |some (.struct fs)=>(fs[f]?).bind λd=>(ts P d.type).bind λs=>(ta P d.type).map λa=>(d.offset,s,a)
 |_=>none
section
variable {P:Program}{W:World}{bs:List Nat}{κ:Nat}{E:Nat->Value}{F:Nat->List Nat}{h:Nat->Option aZ}{w:World}{K:Nat->Prop}
theorem jN{T s:Nat}(ht:ts P T=some s)(w:World):(sizeOf T).run P w=.ok s w:=by
 obtain⟨i,hi,rfl⟩:=Option.map_eq_some_iff.1 ht;simp[sizeOf,typeInfo,hi]
theorem Io{T:TypeId}{a:Bool}(ht:ta P T=some a)(w:World):(isAgg T).run P w=.ok a w:=by
 obtain⟨d,hd,hda⟩:=Option.map_eq_some_iff.1 ht;subst hda;simp only[isAgg,Sem.run_bind,run_underlying hd,Result.andThen_ok];cases d<;>simp
theorem Ip{T:TypeId}{zs:List Value}(ht:tz P T=some zs):∃ z,z.cells.toList=zs/\∀ w:World,(zeroValue T).run P w=.ok z w:=by
 unfold tz at ht;cases hi:P.info? T with
 |none=>simp[hi]at ht
 | some i=>
  simp only[hi,Option.bind_some]at ht;cases hz:i.zero with
  |none=>simp[hz]at ht
  |some z=>
   simp only[hz,Option.map_some,Option.some.injEq]at ht;exact⟨z,ht,λw=>by simp[zeroValue,typeInfo,hi,hz]⟩
def partsOf:SV->List SV
 |.agg l=>l
 |.v x=>x.cells.toList.map .v
 |x=>[x]
theorem L6(a:Option Addr)(o:Nat):(dt a o).cells=#[dt a o]:=by cases a<;>rfl
theorem pY(E:Nat->Value)(x:SV):ai E (partsOf x)=(den E x).cells.toList:=by
 cases x with
 |agg l=>simp[partsOf,den,Value.cells]
 |v x=>simp[partsOf,den,aS]
 |own k o=>simp[partsOf,den,ai,L6]
 |hd k=>simp[partsOf,den,ai,ux (HF _)]
 |tup l=>rfl
 |nO t x=>rfl
 |part k i=>simp[partsOf,den,ai,ux (HF _)]
 |fn f a c=>rfl
theorem lU(x:SV):az (partsOf x)=x.keys:=by
 cases x<;>simp[partsOf,SV.keys,az,aR]
def dO:SV->Bool
 |.v x=>x.oneCell'
 |.agg _=>false
 |.tup _=>false
 |.own _ _=>true
 |.hd _=>true
 |.nO _ _=>true
 |.part _ _=>true
 |.fn _ _ _=>true
def jO(P:Program)(κ:Nat)(T:TypeId):R:=
 match tz P T with
 |some zs=>.new (nk κ) (.cells T (zs.map .v)) (.own (nk κ) 0)
 |none=>.bad
theorem nP(w:World)(o:Obj):an w [] (w.alloc o):=⟨rfl,rfl,rfl,sI,λb hb _=>Below.heap_alloc w o b hb⟩
theorem ae5(E:Nat->Value)(w:World)(T:TypeId)(vs:List SV)(cs:Array Value)(h:ai E vs=cs.toList) :
  bA E (.pointer (some ⟨w.heap.size,0,none⟩)) [w.heap.size] (w.alloc (.cells cs T)) (.cells T vs):=
 ⟨_,rfl,rfl,by rw[h];simpa using heap_alloc_new w (.cells cs T)⟩
theorem Gd{T:TypeId}{vs:List SV}{cs:Array Value}{j:Nat}(hj:j<8)(hs:aj W bs E F h w)(hK:bU K h)(hk:∀ k,k / 8=κ->¬ K k)(hv:∀ k∈az vs,K k)(hd:ai E vs=cs.toList) :
  aj W bs (bu E (nk κ+j) (.pointer (some ⟨w.heap.size,0,none⟩))) (bu F (nk κ+j) [w.heap.size]) (bu h (nk κ+j) (some (.cells T vs))) (w.alloc (.cells cs T)):=by
 have hnk:=hk _ (Py κ j hj);refine hs.new hK hnk (ae5 _ w T vs cs ?_) (λb hb=>?_) (nP w _)
 ·rw[<- hd];exact bE vs λi hk' => al _ _ λe=>hnk (e ▸ hv i hk')
 ·simp at hb;subst hb;simp
theorem GY{j:Nat}(hj:j<8)(u:Value):∀ k,k / 8≠κ->bu E (nk κ+j) u k=E k:=λ_ hk=>al _ _ λe=>hk (e ▸ Py κ j hj)
theorem Ob{T:TypeId}(hs:aj W bs E F h w)(hK:bU K h)(hk:∀ k,k / 8=κ->¬ K k)(hside:(jO P κ T).side) :
  Good P W bs κ E h (jO P κ T) ((do pure (.value (<- Instr.alloc T true (.tuple #[]))):Sem Next).run P w):=by
 cases hz:tz P T with
 |none=>simp[jO,hz,R.bad]at hside
 | some zs=>
  obtain⟨z,rfl,hrun⟩:=Ip hz;simp only[jO,hz];have:(do pure (.value (<- Instr.alloc T true (.tuple #[]))):Sem Next).run P w=.ok (.value (.pointer (some ⟨w.heap.size,0,none⟩))) (w.alloc (.cells z.cells T)):=by
   simp[Instr.alloc,hrun,newVar,newRow]
  rw[this];refine⟨rfl,_,_,GY (j:=0) oM _,?_,Gd (j:=0) oM hs hK hk (by simp[aR]) (by simp[aS])⟩;simp[R.new,den,ah,base,dt,nk]
def yV(κ:Nat)(T:TypeId):List SV->R
 |[x]=>.new (nk κ) (.cells T (partsOf x)) (.own (nk κ) 0)
 |_=>.bad
theorem YS{T:TypeId}{x:SV}(hs:aj W bs E F h w)(hK:bU K h)(hk:∀ k,k / 8=κ->¬ K k)(hx:∀ k∈x.keys,K k) :
  Good P W bs κ E h (yV κ T [x]) ((do pure (.value (<- Instr.box T (den E x))):Sem Next).run P w):=by
 have:(do pure (.value (<- Instr.box T (den E x))):Sem Next).run P w=.ok (.value (.pointer (some ⟨w.heap.size,0,none⟩))) (w.alloc (.cells (den E x).cells T)):=by
  simp[Instr.box,newVar,newRow]
 rw[this];refine⟨rfl,_,_,GY (j:=0) oM _,?_,Gd (j:=0) oM hs hK hk (by rw[lU];exact hx) (pY E x)⟩;simp[yV,R.new,den,ah,base,dt,nk]
def cc:Option aZ->Option (List SV)
 |some (.cells _ vs)=>some vs
 |some (.row _ _ _ vs)=>some vs
 |_=>none
def cv(W:World)(b:Nat):Nat->Nat->List SV
 |_,0=>[]
 |o,n+1=>.v ((W.cell? ⟨b,o,none⟩).getD undef)::cv W b (o+1) n
def fN(W:World)(b:Nat):Nat->Nat->Prop
 |_,0=>True
 |o,n+1=>(W.cell? ⟨b,o,none⟩).isSome=true/\fN W b (o+1) n
def dK(P:Program)(W:World)(bs:List Nat)(h:Nat->Option aZ)(T:TypeId):List SV->R
 |[.own k o]=>
  match ts P T,ta P T,cc (h k) with
  |some sz,some true,some vs=>{ side:=o+sz<=vs.length/\0<sz,val:=.agg ((vs.drop o).take sz),reads:=[k] }
  |some _,some false,some vs=>{ side:=o<vs.length,val:=vs.getD o (.v undef),reads:=[k] }
  |_,_,_=>.bad
 |[.v (.pointer (some ⟨b,o,none⟩))]=>
  match ts P T,ta P T with
  |some sz,some true=>{ side:=b∉bs/\fN W b o sz,val:=.agg (cv W b o sz) }
  |some _,some false=>{ side:=b∉bs/\(W.cell? ⟨b,o,none⟩).isSome=true,val:=.v ((W.cell? ⟨b,o,none⟩).getD undef) }
  |_,_=>.bad
 |_=>.bad
theorem iN{T sz:Nat}(hs:ts P T=some sz)(ha:ta P T=some true)(a:Addr)(cs:List Value)(hl:cs.length=sz)(h:∀ j v,cs[j]?=some v->w.cell? (a.add j)=some v) :
  (loadVar T a).run P w=.ok (.agg cs.toArray) w:=by
 subst hl;simp[loadVar,Io ha,jN hs,run_loadCells_list w a cs h]
theorem iO{T:TypeId}(ha:ta P T=some false)(a:Addr)(v:Value)(h:w.cell? a=some v) :
  (loadVar T a).run P w=.ok v w:=by
 simp[loadVar,Io ha,h]
theorem gW{k:Nat}{vs:List SV}(hs:aj W bs E F h w)(he:cc (h k)=some vs)(hne:0<vs.length) :
  ∃ b,base (E k)=some ⟨b,0,none⟩/\∀ j,j<vs.length->w.cell? ⟨b,j,none⟩=some ((ai E vs)[j]?.getD undef):=by
 cases hk:h k with
 |none=>simp[hk,cc]at he
 | some e=>
  have hent:=hs.ent k e hk;cases e with
  |obj d R=>simp[hk,cc]at he
  |mp ks us=>simp[hk,cc]at he
  |cells T us=>
   simp only[hk,cc,Option.some.injEq]at he;subst he;obtain⟨b,h1,_,h3⟩:=hent;refine⟨b,by rw[h1];rfl,λj hj=>?_⟩;have hj' : j<(ai E us).length:=by rw[aH];exact hj
   simp[World.cell?,h3,List.getElem?_eq_getElem hj']
  | row T size n us=>
   simp only[hk,cc,Option.some.injEq]at he;subst he;obtain⟨⟨hl,hor⟩,_⟩:=hent;rcases hor with ⟨h1,h2⟩|⟨g,cap,cur,h1,_,hh,_,_,hcs,htake⟩
   ·have:(ai E us).length=0:=by rw[hl,h2];simp
    rw[aH]at this;omega
   ·refine⟨g,by rw[h1];rfl,λj hj=>?_⟩;have hj' : j<(ai E us).length:=by rw[aH];exact hj
    have hcur:cur[j]?=(ai E us)[j]?:=by
     rw[<- htake,List.getElem?_take,if_pos oM];simp
    simp[World.cell?,hh,hcur,List.getElem?_eq_getElem hj']
theorem lZ:∀ (n o b:Nat),fN W b o n->ai E (cv W b o n)=(List.range n).map (λj=>(W.cell? ⟨b,o+j,none⟩).getD undef)/\∀ j,j<n->(W.cell? ⟨b,o+j,none⟩).isSome=true
 |0,_,_,_=>⟨rfl,λj hj=>by omega⟩
 | n+1,o,b,h=>by
  obtain⟨h1,h2⟩:=lZ n (o+1) b h.2;refine⟨?_,λj hj=>?_⟩
  ·simp only[cv,ai,den,h1,List.range_succ_eq_map,List.map_cons,List.map_map,Nat.add_zero,Function.comp_def]
   congr 1
   apply List.map_congr_left;intro j _;simp[Nat.add_assoc,Nat.add_comm 1 j]
  ·cases j with
   |zero=>exact h.1
   |succ j=>have:=h2 j oM;rwa [show o+(j+1)=o+1+j by omega]
theorem an.cell{b o:Nat}(hk:an W bs w)(hb:b∉bs)(hs:(W.cell? ⟨b,o,none⟩).isSome=true):w.cell? ⟨b,o,none⟩=some ((W.cell? ⟨b,o,none⟩).getD undef):=by
 obtain⟨v,hv⟩:=Option.isSome_iff_exists.1 hs;have hlt:=World.block_lt_of_cell? W _ hv;have:w.cell? ⟨b,o,none⟩=W.cell? ⟨b,o,none⟩:=World.cell?_of_block (hk.block b hlt hb);rw[this,hv];rfl
theorem tw(E:Nat->Value)(vs:List SV)(o:Nat):den E (vs.getD o (.v undef))=(ai E vs)[o]?.getD undef:=by
 rw[bC,List.getD_eq_getElem?_getD,List.getElem?_map];cases vs[o]?<;>rfl
theorem VQ{T:TypeId}{x:SV}(hs:aj W bs E F h w)(hside:(dK P W bs h T [x]).side) :
  Good P W bs κ E h (dK P W bs h T [x]) ((do pure (.value (<- Instr.loadAt T (den E x))):Sem Next).run P w):=by
 revert hside;unfold dK;split
 ·rename_i k o heq;simp only[List.cons.injEq,and_true]at heq;subst heq;split
  ·rename_i sz vs hsz hag hvs;rintro⟨hlen,hpos⟩;obtain⟨b,hb,hcells⟩:=gW hs hvs oM;have hrun:(loadVar T ⟨b,0+o,none⟩).run P w=.ok (.agg (((ai E vs).drop o).take sz).toArray) w:=by
    refine iN hsz hag _ _ (by simp[aH];omega) λj v hj=>?_
    have hjl:j<sz:=by
     have:=(List.getElem?_eq_some_iff.1 hj).1;simp at this;omega
    rw[Addr.add_lit,Nat.zero_add,hcells (o+j) oM];rw[List.getElem?_take,if_pos hjl,List.getElem?_drop]at hj;rw[hj];rfl
   rw[Nat.zero_add]at hrun;have:(do pure (.value (<- Instr.loadAt T (den E (.own k o)))):Sem Next).run P w=.ok (.value (.agg (((ai E vs).drop o).take sz).toArray)) w:=by
    simp only[den,hb,dt,Instr.loadAt,Instr.sureAddr];simp[hrun]
   rw[this];refine Good.pure hs ?_ rfl rfl;simp[den,bC,List.map_take,List.map_drop]
  ·rename_i sz vs hsz hag hvs;intro hlen;obtain⟨b,hb,hcells⟩:=gW hs hvs (Nat.zero_lt_of_lt hlen);have hrun:=iO (w:=w) hag ⟨b,0+o,none⟩ ((ai E vs)[o]?.getD undef) (by rw[Nat.zero_add];exact hcells o hlen);rw[Nat.zero_add]at hrun
   have:(do pure (.value (<- Instr.loadAt T (den E (.own k o)))):Sem Next).run P w=.ok (.value ((ai E vs)[o]?.getD undef)) w:=by
    simp only[den,hb,dt,Instr.loadAt,Instr.sureAddr];simp[hrun]
   rw[this];exact Good.pure hs (tw E vs o).symm rfl rfl
  ·exact λhf=>hf.elim
 ·rename_i b o heq;simp only[List.cons.injEq,and_true]at heq;subst heq;split
  ·rename_i sz hsz hag;rintro⟨hb,hthere⟩;obtain⟨_,hsome⟩:=lZ (E:=E) sz o b hthere;have hrun:(loadVar T ⟨b,o,none⟩).run P w=.ok (.agg (ai E (cv W b o sz)).toArray) w:=by
    refine iN hsz hag _ _ ?_ λj v hj=>?_
    ·have:ai E (cv W b o sz)=ai E (cv W b o sz):=rfl;have hl:∀ n o,(cv W b o n).length=n:=λn=>by induction n with|zero=>intro o;rfl|succ n ih=>intro o;simp[cv,ih]
     rw[aH,hl]
    ·have hd:ai E (cv W b o sz)=(List.range sz).map (λj=>(W.cell? ⟨b,o+j,none⟩).getD undef):=(lZ sz o b hthere).1;rw[hd]at hj;have hjl:j<sz:=by have:=(List.getElem?_eq_some_iff.1 hj).1;simpa using this
     rw[List.getElem?_map,List.getElem?_range hjl]at hj;simp only[Option.map_some,Option.some.injEq]at hj;subst hj;rw[Addr.add_lit];exact hs.keeps.cell hb (hsome j hjl)
   have:(do pure (.value (<- Instr.loadAt T (den E (.v (.pointer (some ⟨b,o,none⟩)))))):Sem Next).run P w=.ok (.value (.agg (ai E (cv W b o sz)).toArray)) w:=by
    simp only[den,Instr.loadAt,Instr.sureAddr];simp[hrun]
   rw[this];exact Good.pure hs rfl rfl rfl
  ·rename_i sz hsz hag;rintro⟨hb,hsome⟩;have hrun:=iO (w:=w) hag ⟨b,o,none⟩ _ (hs.keeps.cell hb hsome);have:(do pure (.value (<- Instr.loadAt T (den E (.v (.pointer (some ⟨b,o,none⟩)))))):Sem Next).run P w=.ok (.value ((W.cell? ⟨b,o,none⟩).getD undef)) w:=by
    simp only[den,Instr.loadAt,Instr.sureAddr];simp[hrun]
   rw[this];exact Good.pure hs rfl rfl rfl
  ·exact λhf=>hf.elim
 ·exact λhf=>hf.elim
end
section
variable {P:Program}{W:World}{bs:List Nat}{κ:Nat}{E:Nat->Value}{F:Nat->List Nat}{h:Nat->Option aZ}{w:World}{K:Nat->Prop}
def av(vs:List SV)(o:Nat)(ps:List SV):List SV:=vs.take o++ps++vs.drop (o+ps.length)
def sC:Option aZ->Nat->List SV->Option aZ
 |some (.cells T vs),o,ps=>some (.cells T (av vs o ps))
 |some (.row T s n vs),o,ps=>some (.row T s n (av vs o ps))
 |e,_,_=>e
def isC:Option aZ->Bool
 |some (.cells _ _)=>true
 |_=>false
def jQ(P:Program)(h:Nat->Option aZ)(T:TypeId):List SV->R
 |[.own k o,x]=>
  match ts P T,cc (h k) with
  |some sz,some vs=>{ side:=(partsOf x).length=sz/\o+sz<=vs.length/\(0<sz\/isC (h k)=true)/\(partsOf x).all dO=true,val:=.v undef,bu:=[(k,sC (h k) o (partsOf x))],reads:=[k] }
  |_,_=>.bad
 |_=>.bad
theorem Ww(a:Option Addr)(o:Nat):(dt a o).oneCell' = true:=by cases a<;>rfl
theorem yK(E:Nat->Value):∀ {x:SV},dO x=true->(den E x).oneCell' = true
 |.v x,hx=>hx
 |.agg _,hx=>by cases hx
 |.tup _,hx=>by cases hx
 |.own k o,_=>Ww _ _
 |.hd k,_=>HF _
 |.nO _ _,_=>rfl
 |.part _ _,_=>HF _
 |.fn _ _ _,_=>rfl
theorem kN(E:Nat->Value)(vs ps:List SV)(o:Nat):ai E (av vs o ps)=(ai E vs).take o++ai E ps++(ai E vs).drop (o+(ai E ps).length):=by
 simp[av,bC,List.map_take,List.map_drop]
theorem p7(w:World)(g:Nat)(cs:Array Value):an w [g] (w.setRow g cs):=
 ⟨rfl,rfl,rfl,sI,λb _ hn=>setRow_other w g b cs (by simpa using hn)⟩
theorem Q4{T:TypeId}{p x:SV}(hs:aj W bs E F h w)(hside:(jQ P h T [p,x]).side) :
  Good P W bs κ E h (jQ P h T [p,x]) ((do Instr.storeAt T (den E p) (den E x);pure .skip:Sem Next).run P w):=by
 revert hside;unfold jQ;split
 ·rename_i k o x' heq;simp only[List.cons.injEq,and_true]at heq;obtain⟨rfl,rfl⟩:=heq;split
  ·rename_i sz vs hsz hvs;rintro⟨hpl,hlen,hpos,hone⟩;have hone' : ∀ v∈ai E (partsOf x),v.oneCell' = true:=by
    intro v hv;rw[bC]at hv;obtain⟨y,hy,rfl⟩:=List.mem_map.1 hv;exact yK E (List.all_eq_true.1 hone y hy)
   have hcl:(den E x).cells.toList=ai E (partsOf x):=(pY E x).symm;have hcs:(den E x).cells.size=sz:=by rw[<- Array.length_toList,hcl,aH,hpl]
   cases hk:h k with
   |none=>simp[hk,cc]at hvs
   | some e=>
    have hent:=hs.ent k e hk;have key:∃ g cur T',base (E k)=some ⟨g,0,none⟩/\F k=[g]/\w.heap[g]?=some (.cells cur T' (0,0))/\o+sz<=cur.size /\
      ∀ w' : World,w'.heap[g]?=some (.cells (cur.toList.take o++ai E (partsOf x)++cur.toList.drop (o+sz)).toArray T' (0,0))->∃ e',sC (h k) o (partsOf x)=some e' /\ bA E (E k) [g] w' e' := by
     cases e with
     |obj d R=>simp[hk,cc]at hvs
     |mp ks us=>simp[hk,cc]at hvs
     |cells T' us=>
      simp only[hk,cc,Option.some.injEq]at hvs;subst hvs;obtain⟨b,h1,h2,h3⟩:=hent;refine⟨b,_,_,by rw[h1];rfl,h2,h3,by simp[aH];omega,λw' hw' => ⟨.cells T' (av us o (partsOf x)),by rw[hk];rfl,⟨b,h1,rfl,?_⟩⟩⟩;rw[hw',kN];simp[aH,hpl]
     | row T' size n us=>
      simp only[hk,cc,Option.some.injEq]at hvs;subst hvs;obtain⟨⟨hl,hor⟩,hf⟩:=hent;have hpos:0<sz:=hpos.resolve_right (by rw[hk];exact Bool.false_ne_true);rcases hor with ⟨h1,h2⟩|⟨g,cap,cur,h1,hb0,hh,hnc,hcm,hcs',htake⟩
      ·have:(ai E us).length=0:=by rw[hl,h2];simp
       rw[aH]at this;omega
      ·have hul:us.length=n*size:=by rw[<- hl,aH]
       have hnsz:n*size<=cap*size:=Nat.mul_le_mul_right _ hnc;refine⟨g,cur,_,by rw[h1];rfl,by rw[hf,h1];rfl,hh,oM,λw' hw' => ⟨.row T' size n (av us o (partsOf x)),by rw[hk];rfl,⟨⟨?_,.inr ⟨g,cap,_,h1,hb0,hw',hnc,hcm,?_,?_⟩⟩,by rw[h1];rfl⟩⟩⟩
       ·rw[kN];simp only[List.length_append,List.length_take,List.length_drop,aH,hpl];omega
       ·simp only[List.size_toArray,List.length_append,List.length_take,List.length_drop,aH,hpl,Array.length_toList];omega
       ·rw[kN,<- htake];simp only[aH,hpl];apply List.ext_getElem?;intro j;simp only[List.getElem?_take,List.getElem?_append,List.length_append,List.length_take,aH,hpl,List.getElem?_drop,Array.length_toList];by_cases hj1:j<n*size
        ·rw[if_pos hj1]
         repeat' split
         all_goals (first|rfl|omega|(congr 1;omega)|skip)
        ·rw[if_neg hj1]
         repeat' split
         all_goals (first|rfl|omega|skip)
    obtain⟨g,cur,T',hb,hF,hh,hle,hset⟩:=key;obtain⟨e',he',hsat⟩:=hset _ (setRow_heap w g cur _ T' _ hh);have hst:=run_storeCells_at P g o T' (ai E (partsOf x)) 0 cur w hh (by rw[aH,hpl];omega) hone'
    have:(do Instr.storeAt T (den E (.own k o)) (den E x);pure .skip:Sem Next).run P w=.ok .skip (w.setRow g (cur.toList.take o++ai E (partsOf x)++cur.toList.drop (o+sz)).toArray):=by
     simp only[den,hb,dt,Instr.storeAt,Instr.sureAddr,Nat.zero_add];simp only[Nat.add_zero,aH,hpl]at hst;simp[storeVar,hcs,jN hsz,hcl,hst]
    rw[this];rw[hk]at he';simp only[Good,oS,ba,he'];refine⟨trivial,E,_,λ_ _=>rfl,rfl,hs.anb hk hsat (λb hb=>by left;rw[hF];exact hb) (λb hb=>?_) ?_⟩
    ·simp at hb;subst hb;rw[size_setRow];exact (Array.getElem?_eq_some_iff.1 hh).1
    ·rw[hF];exact p7 w g _
  ·exact λhf=>hf.elim
 ·exact λhf=>hf.elim
end
section
variable {P:Program}{W:World}{bs:List Nat}{κ:Nat}{E:Nat->Value}{F:Nat->List Nat}{h:Nat->Option aZ}{w:World}{K:Nat->Prop}
theorem aA{r:R}{s:Sem Value}(hs:aj W bs E F h w)(hu:r.bu=[])(hp:r.pan=none)(hrun:s.run P w=.ok (den E r.val) w) :
  Good P W bs κ E h r ((do pure (.value (<- s)):Sem Next).run P w):=by
 have:(do pure (.value (<- s)):Sem Next).run P w=.ok (.value (den E r.val)) w:=by simp[hrun]
 rw[this];exact Good.pure hs rfl hu hp
def ct(P:Program)(h:Nat->Option aZ)(S:TypeId)(f:Nat):List SV->R
 |[.own k o]=>match tf P S f,cc (h k) with
  |some (off,sz,_),some vs=>{ side:=0<sz/\o<vs.length,val:=.own k (o+off),reads:=[k] }
  |_,_=>.bad
 |[.v (.pointer (some ⟨b,o,none⟩))]=>match tf P S f with
  |some (off,sz,_)=>.iC (0<sz) (.v (.pointer (some ⟨b,o+off,none⟩)))
  |none=>.bad
 |_=>.bad
theorem Di{S f off sz:Nat}{ag:Bool}(ht:tf P S f=some (off,sz,ag)):∃ (fs:Array Field) (d:Field),P.underlying S=some (.struct fs)/\fs[f]?=some d/\ts P d.type=some sz/\ta P d.type=some ag/\d.offset=off:=by
 unfold tf at ht;split at ht
 ·rename_i fs hu;obtain⟨d,hd,ht⟩:=Option.bind_eq_some_iff.1 ht;obtain⟨s,hs,ht⟩:=Option.bind_eq_some_iff.1 ht;obtain⟨a,ha,ht⟩:=Option.map_eq_some_iff.1 ht;simp only[Prod.mk.injEq]at ht;obtain⟨h1,h2,h3⟩:=ht;exact⟨fs,d,hu,hd,h2 ▸ hs,h3 ▸ ha,h1⟩
 ·cases ht
theorem Ak{S f off sz:Nat}{ag:Bool}(ht:tf P S f=some (off,sz,ag))(hpos:0<sz)(b o:Nat)(w:World) :
  (Instr.fieldAt S (.pointer (some ⟨b,o,none⟩)) f).run P w=.ok (.pointer (some ⟨b,o+off,none⟩)) w:=by
 obtain⟨fs,d,hu,hd,hts,hta,ho⟩:=Di ht;subst ho;have hne:sz≠0:=oM;have hadd:(⟨b,o,none⟩:Addr).add d.offset=⟨b,o+d.offset,none⟩:=by unfold Addr.add;split<;>simp_all
 simp[Instr.fieldAt,run_underlying hu,hd,Instr.sureAddr,fieldPlace,jN hts,hne,hadd]
theorem BO{S f:Nat}{x:SV}(hs:aj W bs E F h w)(hside:(ct P h S f [x]).side) :
  Good P W bs κ E h (ct P h S f [x]) ((do pure (.value (<- Instr.fieldAt S (den E x) f)):Sem Next).run P w):=by
 revert hside;unfold ct;split
 ·rename_i k o heq;simp only[List.cons.injEq,and_true]at heq;subst heq;split
  ·rename_i off sz ag vs ht hvs;rintro⟨hpos,hlt⟩;obtain⟨b,hb,_⟩:=gW hs hvs (Nat.zero_lt_of_lt hlt);refine aA hs rfl rfl ?_;simp only[den,hb,dt,Nat.zero_add];exact Ak ht hpos b o w
  ·exact λhf=>hf.elim
 ·rename_i b o heq;simp only[List.cons.injEq,and_true]at heq;subst heq;split
  ·rename_i off sz ag ht;intro hpos;refine aA hs rfl rfl ?_;simp only[den];exact Ak ht hpos b o w
  ·exact λhf=>hf.elim
 ·exact λhf=>hf.elim
def gi(ag:Bool)(off sz:Nat)(ps:List SV):R:=
 match ag with
 |true=>.iC (off+sz<=ps.length) (.agg ((ps.drop off).take sz))
 |false=>.iC (off<ps.length) (ps.getD off (.v undef))
def iG(P:Program)(S:TypeId)(f:Nat):List SV->R
 |[.agg l]=>match tf P S f with
  |some (off,sz,ag)=>gi ag off sz l
  |none=>.bad
 |[.v (.agg cs)]=>match tf P S f with
  |some (off,sz,ag)=>gi ag off sz (cs.toList.map .v)
  |none=>.bad
 |_=>.bad
theorem CY{T sz:Nat}{ag:Bool}(hts:ts P T=some sz)(hta:ta P T=some ag)(l:List SV)(off:Nat)(w:World)(E:Nat->Value)(hside:(gi ag off sz l).side) :
  (part T (ai E l).toArray off).run P w=.ok (den E (gi ag off sz l).val) w:=by
 cases ag with
 |true=>
  simp only[gi,R.iC]at hside ⊢;simp only[part,Sem.run_bind,Io hta,Result.andThen_ok,if_true,jN hts,Sem.run_pure,den]
  congr 2
  apply Array.ext';simp[bC,List.map_take,List.map_drop,Array.toList_extract,List.extract_eq_take_drop]
 |false=>
  simp only[gi,R.iC]at hside ⊢;have hl:off<(ai E l).length:=by rw[aH];exact hside
  rw[tw];simp[part,Io hta,List.getElem?_eq_getElem hl]
theorem dv(ag:Bool)(off sz:Nat)(l:List SV):(gi ag off sz l).bu=[]/\(gi ag off sz l).pan=none:=by cases ag<;>exact⟨rfl,rfl⟩
theorem OY{S f:Nat}{x:SV}(hs:aj W bs E F h w)(hside:(iG P S f [x]).side) :
  Good P W bs κ E h (iG P S f [x]) ((do pure (.value (<- Instr.field S (den E x) f)):Sem Next).run P w):=by
 revert hside;unfold iG;split
 ·rename_i l heq;simp only[List.cons.injEq,and_true]at heq;subst heq;split
  ·rename_i off sz ag ht;intro hside;obtain⟨fs,d,hu,hd,hts,hta,ho⟩:=Di ht;refine aA hs (dv _ _ _ _).1 (dv _ _ _ _).2 ?_;simp only[Instr.field,Sem.run_bind,run_underlying hu,Result.andThen_ok,hd,asAgg,den,Sem.run_pure,ho];exact CY hts hta l off w E hside
  ·exact λhf=>hf.elim
 ·rename_i cs heq;simp only[List.cons.injEq,and_true]at heq;subst heq;split
  ·rename_i off sz ag ht;intro hside;obtain⟨fs,d,hu,hd,hts,hta,ho⟩:=Di ht;refine aA hs (dv _ _ _ _).1 (dv _ _ _ _).2 ?_;have hr:=CY hts hta (cs.toList.map .v) off w E hside;rw[aS]at hr;simp only[Instr.field,Sem.run_bind,run_underlying hu,Result.andThen_ok,hd,asAgg,den,Sem.run_pure,ho];simpa using hr
  ·exact λhf=>hf.elim
 ·exact λhf=>hf.elim
def cS(i:Nat):List SV->R
 |[.tup l]=>.iC (i<l.length) (l.getD i (.v undef))
 |[.v (.tuple vs)]=>.iC (i<vs.size) (.v (vs.getD i undef))
 |_=>.bad
theorem Hx{i:Nat}{x:SV}(hs:aj W bs E F h w)(hside:(cS i [x]).side) :
  Good P W bs κ E h (cS i [x]) ((do pure (.value (<- Instr.extract (den E x) i)):Sem Next).run P w):=by
 revert hside;unfold cS;split
 ·rename_i l heq;simp only[List.cons.injEq,and_true]at heq;subst heq;intro hside;refine aA hs rfl rfl ?_;have hl:i<(ai E l).length:=by rw[aH];exact hside
  simp only[R.iC];rw[tw];simp[Instr.extract,den,List.getElem?_eq_getElem hl]
 ·rename_i vs heq;simp only[List.cons.injEq,and_true]at heq;subst heq;intro hside;refine aA hs rfl rfl ?_;have hl:i<vs.size:=hside;simp[Instr.extract,den,hl,R.iC]
 ·exact λhf=>hf.elim
def cu(op:BinOp)(k:IntKind)(a b:Int):Int:=
 let x:=BitVec.ofInt k.bits a
 let y:=BitVec.ofInt k.bits b
 k.wrap ((match op with|.and=>x &&& y|.or=>x ||| y|.xor=>x ^^^ y|_=>x &&& ~~~y).toNat:Int)
def EW(op:BinOp)(k:IntKind)(a b:Int):Prop×Value:=
 match op with
 |.add=>(True,.int k (k.wrap (a+b)))
 |.sub=>(True,.int k (k.wrap (a-b)))
 |.mul=>(True,.int k (k.wrap (a*b)))
 |.quo=>(b≠0,.int k (k.wrap (a.tdiv b)))
 |.rem=>(b≠0,.int k (a.tmod b))
 |.and=>(True,.int k (cu .and k a b))
 |.or=>(True,.int k (cu .or k a b))
 |.xor=>(True,.int k (cu .xor k a b))
 |.andNot=>(True,.int k (cu .andNot k a b))
 |.eql=>(True,.bool (decide (a=b)))
 |.neq=>(True,.bool (!decide (a=b)))
 |.lss=>(True,.bool (decide (a<b)))
 |.leq=>(True,.bool (decide (a<=b)))
 |.gtr=>(True,.bool (decide (b<a)))
 |.geq=>(True,.bool (decide (b<=a)))
 |.shl=>(False,undef)
 |.shr=>(False,undef)
def sD(op:BinOp)(k:IntKind)(a b:Int):Prop×Value:=
 match op with
 |.shl=>(0<=b,.int k (k.wrap (a*2 ^ (min b.toNat k.bits))))
 |_=>(0<=b,.int k (a.fdiv (2 ^ (min b.toNat k.bits))))
def Uu(op:BinOp)(a b:ByteArray):Prop×Value:=
 match op with
 |.add=>(a.size+b.size<=9223372036854775807,.string (a++b))
 |.eql=>(True,.bool (decide (a=b)))
 |.neq=>(True,.bool (!decide (a=b)))
 |.lss=>(True,.bool (Op.bytesLess a.toList b.toList))
 |.leq=>(True,.bool (Op.bytesLess a.toList b.toList||decide (a=b)))
 |.gtr=>(True,.bool (!(Op.bytesLess a.toList b.toList||decide (a=b))))
 |.geq=>(True,.bool (!Op.bytesLess a.toList b.toList))
 |_=>(False,undef)
structure EqSpec (P:Program)(T:TypeId) where
 f:List Value->List Value->Option Bool
 ok:∀ xs ys b (w:World),f xs ys=some b->(eqGuard .eql T (.tmp 0) (.tmp 0) (.agg xs.toArray) (.agg ys.toArray)).run P w=.ok () w/\(Op.equal T (.agg xs.toArray) (.agg ys.toArray)).run P w=.ok b w
def s7:SV->Option (List Value)
 |.v (.agg cs)=>some cs.toList
 |.agg l=>l.mapM λ| .v x=>some x|_=>none
 |_=>none
def a7(P:Program)(eqs:(T:TypeId)->Option (EqSpec P T))(op:BinOp)(T:TypeId):List SV->R
 |[.v (.int k a),.v (.int k' b)]=>
  match op with
  |.shl=>.iC (sD .shl k a b).1 (.v (sD .shl k a b).2)
  |.shr=>.iC (sD .shr k a b).1 (.v (sD .shr k a b).2)
  |op=>.iC (k=k' /\ (EW op k a b).1) (.v (EW op k a b).2)
 |[.v (.string a),.v (.string b)]=>.iC (Uu op a b).1 (.v (Uu op a b).2)
 |[.v (.bool a),.v (.bool b)]=>
  match op with
  |.eql=>.iC (P.underlying T=some .bool) (.v (.bool (a == b)))
  |.neq=>.iC (P.underlying T=some .bool) (.v (.bool (!(a == b))))
  |_=>.bad
 |[x,y]=>
  match op,s7 x,s7 y,eqs T with
  |.eql,some xs,some ys,some e=>.iC ((e.f xs ys).isSome=true) (.v (.bool ((e.f xs ys).getD false)))
  |.neq,some xs,some ys,some e=>.iC ((e.f xs ys).isSome=true) (.v (.bool (!(e.f xs ys).getD false)))
  |_,_,_,_=>.bad
 |_=>.bad
theorem KB(a b:ByteArray):(a.toList == b.toList)=decide (a=b):=by
 rw[Bool.eq_iff_iff];simp only[beq_iff_eq,decide_eq_true_eq];constructor
 ·intro hh;have:∀ x:ByteArray,x.toList=x.data.toList:=λx=>by exact ByteArray.toList_eq x
  rw[this,this]at hh;cases a;cases b;simpa using hh
 ·intro hh;rw[hh]
theorem abJ(op:BinOp)(T:TypeId)(k:IntKind)(a b:Int)(w:World)(h1:op≠.shl)(h2:op≠.shr)(hside:(EW op k a b).1) :
  (binOp op T (.int k a) (.int k b)).run P w=.ok (EW op k a b).2 w:=by
 cases op<;>first
  |exact absurd rfl h1
  |exact absurd rfl h2
  |(simp[binOp,EW,Op.intArith];done)
  |(simp[binOp,EW,Op.intBits,cu];done)
  |(simp only[EW]at hside;simp[binOp,EW,Op.intDiv,hside];done)
  |(simp only[binOp,EW,Op.intCmp,ne_eq,not_true_eq_false,if_false];first|rfl|(simp;done)|(simp only[Sem.run_pure,ite_false];congr 2;rw[Bool.eq_iff_iff];simp))
theorem jd(op:BinOp)(T:TypeId)(x y:Operand)(k:IntKind)(a:Int)(b:Value)(w:World):(eqGuard op T x y (.int k a) b).run P w=.ok () w:=by
 unfold eqGuard;cases op<;>simp
theorem fu(op:BinOp)(T:TypeId)(x y:Operand)(a:ByteArray)(b:Value)(w:World):(eqGuard op T x y (.string a) b).run P w=.ok () w:=by
 unfold eqGuard;cases op<;>simp
theorem gX(op:BinOp)(T:TypeId)(x y:Operand)(a:Bool)(b:Value)(w:World):(eqGuard op T x y (.bool a) b).run P w=.ok () w:=by
 unfold eqGuard;cases op<;>simp
theorem abK(op:BinOp)(T:TypeId)(a b:ByteArray)(w:World)(hside:(Uu op a b).1) :
  (binOp op T (.string a) (.string b)).run P w=.ok (Uu op a b).2 w:=by
 have he:=KB a b;cases op<;>first
  |(simp[binOp,Uu,Op.stringOp,he];done)
  |exact (id hside:False).elim
  |exact run_string_add_sum _ a b hside
theorem zY(op:BinOp)(T:TypeId)(x y x' y' : Operand)(a b:Value)(w:World)(h:(eqGuard .eql T x y a b).run P w=.ok () w)(ha:∃ cs,a=.agg cs):(eqGuard op T x' y' a b).run P w=.ok () w:=by
 obtain⟨cs,rfl⟩:=ha;cases b<;>cases op<;>first|(simp[eqGuard];done)|(simpa [eqGuard] using h)
theorem nm(E:Nat->Value){x:SV}{xs:List Value}(hx:s7 x=some xs):den E x=.agg xs.toArray:=by
 unfold s7 at hx;split at hx
 ·simp only[Option.some.injEq]at hx;subst hx;simp[den]
 ·rename_i l;simp only[den]
  congr 2
  induction l generalizing xs with
  |nil=>simp at hx;subst hx;rfl
  |cons y r ih=>
   rw[List.mapM_cons]at hx;obtain⟨a,ha,hx⟩:=Option.bind_eq_some_iff.1 hx;obtain⟨l',hl',hx⟩:=Option.bind_eq_some_iff.1 hx;simp at hx;subst hx;split at ha
   ·simp at ha;subst ha;simp[ai,den,ih hl']
   ·cases ha
 ·cases hx
theorem YR{eqs:(T:TypeId)->Option (EqSpec P T)}{op:BinOp}{T:TypeId}{o1 o2:Operand}{x y:SV}(hs:aj W bs E F h w)(hside:(a7 P eqs op T [x,y]).side) :
  Good P W bs κ E h (a7 P eqs op T [x,y]) ((do pure (.value (<- (do eqGuard op T o1 o2 (den E x) (den E y);binOp op T (den E x) (den E y)))):Sem Next).run P w):=by
 revert hside;unfold a7;split
 ·rename_i k a k' b heq;simp only[List.cons.injEq,and_true]at heq;obtain⟨rfl,rfl⟩:=heq;split
  ·intro hside;refine aA hs rfl rfl ?_;have h0:¬ b<0:=by simp only[R.iC,sD]at hside;omega
   simp only[R.iC,den,Sem.run_bind,jd,fu,gX,Result.andThen_ok];simp[binOp,Op.shift,h0,sD]
  ·intro hside;refine aA hs rfl rfl ?_;have h0:¬ b<0:=by simp only[R.iC,sD]at hside;omega
   simp only[R.iC,den,Sem.run_bind,jd,fu,gX,Result.andThen_ok];simp[binOp,Op.shift,h0,sD]
  ·rename_i h1 h2;rintro⟨rfl,hside⟩;refine aA hs rfl rfl ?_;simp only[R.iC,den,Sem.run_bind,jd,fu,gX,Result.andThen_ok];exact abJ op T k a b w (by intro e;exact h1 e) (by intro e;exact h2 e) hside
 ·rename_i a b heq;simp only[List.cons.injEq,and_true]at heq;obtain⟨rfl,rfl⟩:=heq;intro hside;refine aA hs rfl rfl ?_;simp only[R.iC,den,Sem.run_bind,jd,fu,gX,Result.andThen_ok];exact abK op T a b w hside
 ·rename_i a b heq;simp only[List.cons.injEq,and_true]at heq;obtain⟨rfl,rfl⟩:=heq;split
  ·intro hside;refine aA hs rfl rfl ?_;simp only[R.iC,den,Sem.run_bind,jd,fu,gX,Result.andThen_ok];exact run_eql_bool w T a b hside
  ·intro hside;refine aA hs rfl rfl ?_;simp only[R.iC,den,Sem.run_bind,jd,fu,gX,Result.andThen_ok];exact run_neq_bool w T a b hside
  ·exact λhf=>hf.elim
 ·rename_i x' y' _ _ _ heq;simp only[List.cons.injEq,and_true]at heq;obtain⟨rfl,rfl⟩:=heq;split
  ·rename_i xs ys e hx hy he;intro hside;obtain⟨b,hb⟩:=Option.isSome_iff_exists.1 hside;obtain⟨h1,h2⟩:=e.ok xs ys b w hb;refine aA hs rfl rfl ?_;rw[nm E hx,nm E hy];simp only[R.iC,den,Sem.run_bind,zY .eql T _ _ o1 o2 _ _ w h1 ⟨_,rfl⟩,Result.andThen_ok,binOp,h2,hb];rfl
  ·rename_i xs ys e hx hy he;intro hside;obtain⟨b,hb⟩:=Option.isSome_iff_exists.1 hside;obtain⟨h1,h2⟩:=e.ok xs ys b w hb;refine aA hs rfl rfl ?_;rw[nm E hx,nm E hy];simp only[R.iC,den,Sem.run_bind,zY .neq T _ _ o1 o2 _ _ w h1 ⟨_,rfl⟩,Result.andThen_ok,binOp,h2,hb];rfl
  ·exact λhf=>hf.elim
 ·exact λhf=>hf.elim
def xl(op:UnOp):List SV->R
 |[.v (.bool b)]=>match op with|.not=>.ok (.v (.bool (!b)))|_=>.bad
 |[.v (.int k n)]=>match op with
  |.neg=>.ok (.v (.int k (k.wrap (0-n))))
  |.xor=>.ok (.v (.int k (cu .xor k (if k.signed then -1 else k.max) n)))
  |_=>.bad
 |_=>.bad
theorem ahc{op:UnOp}{x:SV}(hs:aj W bs E F h w)(hside:(xl op [x]).side) :
  Good P W bs κ E h (xl op [x]) ((do pure (.value (<- Op.unary op (den E x))):Sem Next).run P w):=by
 revert hside;unfold xl;split
 ·rename_i b heq;simp only[List.cons.injEq,and_true]at heq;subst heq;split
  ·intro _;exact aA hs rfl rfl (by simp[R.ok,den,Op.unary])
  ·exact λhf=>hf.elim
 ·rename_i k n heq;simp only[List.cons.injEq,and_true]at heq;subst heq;split
  ·intro _;exact aA hs rfl rfl (by simp[R.ok,den,Op.unary,Op.intArith])
  ·intro _;exact aA hs rfl rfl (by simp[R.ok,den,Op.unary,Op.intBits,cu])
  ·exact λhf=>hf.elim
 ·exact λhf=>hf.elim
end
section
variable {P:Program}{W:World}{bs:List Nat}{κ:Nat}{E:Nat->Value}{F:Nat->List Nat}{h:Nat->Option aZ}{w:World}{K:Nat->Prop}
def fJ(P:Program)(src dst:TypeId):List SV->R
 |[.v (.int _ n)]=>match P.underlying src,P.underlying dst with
  |some _,some (.int k)=>.ok (.v (.int k (k.wrap n)))
  |_,_=>.bad
 |[.v (.string s)]=>match P.underlying src,P.underlying dst with
  |some .string,some .string=>.ok (.v (.string s))
  |_,_=>.bad
 |_=>.bad
theorem Hn{src dst:TypeId}{x:SV}(hs:aj W bs E F h w)(hside:(fJ P src dst [x]).side) :
  Good P W bs κ E h (fJ P src dst [x]) ((do pure (.value (<- convert src dst (den E x))):Sem Next).run P w):=by
 revert hside;unfold fJ;split
 ·rename_i k n heq;simp only[List.cons.injEq,and_true]at heq;subst heq;split
  ·rename_i d k' h1 h2;intro _;refine aA hs rfl rfl ?_;simp[R.ok,den,convert,run_underlying h1,run_underlying h2,Conv.intToInt]
  ·exact λhf=>hf.elim
 ·rename_i s heq;simp only[List.cons.injEq,and_true]at heq;subst heq;split
  ·rename_i h1 h2;intro _;refine aA hs rfl rfl ?_;simp[R.ok,den,convert,run_underlying h1,run_underlying h2]
  ·exact λhf=>hf.elim
 ·exact λhf=>hf.elim
def kF:Bool->Bool->List SV->Option (Option Int×Option Int)
 |true,true,[.v (.int _ a),.v (.int _ b)]=>some (some a,some b)
 |true,false,[.v (.int _ a)]=>some (some a,none)
 |false,true,[.v (.int _ b)]=>some (none,some b)
 |false,false,[]=>some (none,none)
 |_,_,_=>none
def pL(P:Program)(T:TypeId)(s:ByteArray)(a b:Int):R:=
 .iC (P.underlying T=some .string/\0<=a/\a<=b/\b<=s.size) (.v (.string (s.extract a.toNat b.toNat)))
def pM(P:Program)(T:TypeId)(ao:Option Addr)(n c:Nat)(a b:Int):R:=
 match P.underlying T with
 |some (.slice e)=>match ts P e with
  |some sz=>.iC (0<=a/\a<=b/\b<=c) (.v (.slice (if c=a.toNat then ao else ao.map (·.add (a.toNat*sz))) (b.toNat-a.toNat) (c-a.toNat)))
  |none=>.bad
 |_=>.bad
def dA(P:Program)(T:TypeId)(lo hi mx:Bool):List SV->R
 |.v (.string s)::rest=>match mx,kF lo hi rest with
  |false,some (a,b)=>pL P T s (a.getD 0) (b.getD s.size)
  |_,_=>.bad
 |.v (.slice ao n c)::rest=>match mx,kF lo hi rest with
  |false,some (a,b)=>pM P T ao n c (a.getD 0) (b.getD n)
  |_,_=>.bad
 |_=>.bad
def lG(l:List SV)(i:Nat)(E:Nat->Value):Option Value:=l[i]?.map (den E)
theorem lF(isSlice:Bool)(len cap:Nat){lo hi:Bool}{rest:List SV}{a b:Option Int}(ha:kF lo hi rest=some (a,b))(E:Nat->Value)
  (h0:0<=a.getD 0) (h1:a.getD 0<=b.getD len) (h2:b.getD len<=cap) (w:World) :
  (Instr.sliceBounds isSlice len cap (if lo then lG rest 0 E else none) (if hi then lG rest (if lo then 1 else 0) E else none) none).run P w=.ok ((a.getD 0).toNat,(b.getD len).toNat,cap) w:=by
 unfold kF at ha;split at ha<;>simp only[Option.some.injEq,Prod.mk.injEq,reduceCtorEq]at ha<;>obtain⟨rfl,rfl⟩:=ha <;>
  simp only[Option.getD_some,Option.getD_none]at h0 h1 h2 ⊢
 ·rename_i k x k' y;obtain⟨y,rfl⟩:=Int.eq_ofNat_of_zero_le (show 0<=y by omega);have e1:(0<=y/\y<=(cap:Int)):=⟨oM,h2⟩;have e2:(0<=x/\x<=(y:Int)):=⟨h0,h1⟩;have e1' : (y:Int)<=cap:=h2;simp[Instr.sliceBounds,lG,den,Instr.sliceBound,asIntOf,e1',e2,Int.natCast_nonneg]
  try omega
 ·rename_i k x;have e2:(0<=x/\x<=(len:Int)):=⟨h0,h1⟩;simp[Instr.sliceBounds,lG,den,Instr.sliceBound,asIntOf,e2]
 ·rename_i k y;have e1:(0<=y/\y<=(cap:Int)):=⟨oM,h2⟩;simp[Instr.sliceBounds,lG,den,Instr.sliceBound,asIntOf,e1]
 ·simp[Instr.sliceBounds]
theorem QY{T:TypeId}{lo hi mx:Bool}{x:SV}{rest:List SV}(hs:aj W bs E F h w)(hside:(dA P T lo hi mx (x::rest)).side) :
  Good P W bs κ E h (dA P T lo hi mx (x::rest)) ((do pure (.value (<- Instr.sliceAt T (den E x) (if lo then lG rest 0 E else none) (if hi then lG rest (if lo then 1 else 0) E else none) none)):Sem Next).run P w):=by
 revert hside;unfold dA;split
 ·rename_i s rest' heq;simp only[List.cons.injEq]at heq;obtain⟨rfl,rfl⟩:=heq;split
  ·rename_i a b hab;rintro⟨hu,h0,h1,h2⟩;refine aA hs rfl rfl ?_;have hb:=lF (P:=P) false s.size s.size hab E h0 h1 h2 w;simp only[Instr.sliceAt,Sem.run_bind,run_underlying hu,Result.andThen_ok,den,Instr.slice,Option.isSome_none,Bool.false_eq_true,if_false,hb,pL,R.iC,Sem.run_pure]
  ·exact λhf=>hf.elim
 ·rename_i ao n c rest' heq;simp only[List.cons.injEq]at heq;obtain⟨rfl,rfl⟩:=heq;split
  ·rename_i a b hab;unfold pM;split
   ·rename_i e hu;split
    ·rename_i sz hsz;rintro⟨h0,h1,h2⟩;refine aA hs rfl rfl ?_;have hb:=lF (P:=P) true n c hab E h0 h1 h2 w;simp only[Instr.sliceAt,Sem.run_bind,run_underlying hu,Result.andThen_ok,den,Instr.slice,hb,jN hsz,R.iC,Sem.run_pure]
    ·exact λhf=>hf.elim
   ·exact λhf=>hf.elim
  ·exact λhf=>hf.elim
 ·exact λhf=>hf.elim
def bt(s:ByteArray)(i:Int):Int:=((s.data[i.toNat]?.getD 0).toNat:Int)
def gH(P:Program)(T:TypeId):List SV->R
 |[.v (.string s),.v (.int _ i)]=>.iC (P.underlying T=some .string/\0<=i/\i<s.size) (.v (.int .u8 (bt s i)))
 | [.agg l,.v (.int _ i)]=>match P.underlying T with
  |some (.array n e)=>match ts P e,ta P e with
   |some sz,some ag=>{ gi ag (i.toNat*sz) sz l with side:=0<=i/\i<n/\(gi ag (i.toNat*sz) sz l).side }
   |_,_=>.bad
  |_=>.bad
 | [.v (.agg cs),.v (.int _ i)]=>match P.underlying T with
  |some (.array n e)=>match ts P e,ta P e with
   |some sz,some ag=>{ gi ag (i.toNat*sz) sz (cs.toList.map .v) with side:=0<=i/\i<n/\(gi ag (i.toNat*sz) sz (cs.toList.map .v)).side }
   |_,_=>.bad
  |_=>.bad
 |_=>.bad
theorem rr{T e n sz:Nat}{ag:Bool}(hu:P.underlying T=some (.array n e))(hsz:ts P e=some sz)(hag:ta P e=some ag)(l:List SV)(k:IntKind)(i:Int)(h0:0<=i)(h1:i<n)
  (hp:(gi ag (i.toNat*sz) sz l).side) (w:World):(Instr.index T (.agg (ai E l).toArray) (.int k i)).run P w=.ok (den E (gi ag (i.toNat*sz) sz l).val) w:=by
 have hi:0<=i/\i<(n:Int):=⟨h0,h1⟩;simp only[Instr.index,asIntOf,Sem.run_bind,Sem.run_pure,Result.andThen_ok,run_underlying hu,if_pos hi,jN hsz];exact CY hsz hag l _ w E hp
theorem Pf{T:TypeId}{x y:SV}(hs:aj W bs E F h w)(hside:(gH P T [x,y]).side) :
  Good P W bs κ E h (gH P T [x,y]) ((do pure (.value (<- Instr.index T (den E x) (den E y))):Sem Next).run P w):=by
 revert hside;unfold gH;split
 ·rename_i s k i heq;simp only[List.cons.injEq,and_true]at heq;obtain⟨rfl,rfl⟩:=heq;rintro⟨hu,h0,h1⟩;refine aA hs rfl rfl ?_;have hlt:i.toNat<s.size:=oM;have hd:i.toNat<s.data.size:=hlt;have hg:s[i.toNat]?=some (s[i.toNat]'hlt):=by rw[getElem?_pos]
  have hb:s.data[i.toNat]?=some (s[i.toNat]'hlt):=by rw[Array.getElem?_eq_getElem hd];rfl
  simp only[Instr.index,asIntOf,den,Sem.run_bind,Sem.run_pure,Result.andThen_ok,run_underlying hu,if_pos h0,hg,R.iC,bt,hb,Option.getD_some]
 ·rename_i l k i heq;simp only[List.cons.injEq,and_true]at heq;obtain⟨rfl,rfl⟩:=heq;split
  ·rename_i n e hu;split
   ·rename_i sz ag hsz hag;rintro⟨h0,h1,hp⟩;refine aA hs (dv _ _ _ _).1 (dv _ _ _ _).2 ?_;simp only[den];exact rr hu hsz hag l k i h0 h1 hp w
   ·exact λhf=>hf.elim
  ·exact λhf=>hf.elim
 ·rename_i cs k i heq;simp only[List.cons.injEq,and_true]at heq;obtain⟨rfl,rfl⟩:=heq;split
  ·rename_i n e hu;split
   ·rename_i sz ag hsz hag;rintro⟨h0,h1,hp⟩;refine aA hs (dv _ _ _ _).1 (dv _ _ _ _).2 ?_;have:=rr (E:=E) hu hsz hag (cs.toList.map .v) k i h0 h1 hp w;rw[aS]at this;simpa [den] using this
   ·exact λhf=>hf.elim
  ·exact λhf=>hf.elim
 ·exact λhf=>hf.elim
def bG(P:Program)(h:Nat->Option aZ)(T:TypeId):List SV->R
 |[.hd k,.v (.int _ i)]=>match P.underlying T,h k with
  |some (.slice e),some (.row _ size n _)=>{ side:=ts P e=some size/\0<=i/\i<n/\0<size,val:=.own k (i.toNat*size),reads:=[k] }
  |_,_=>.bad
 | [.own k o,.v (.int _ i)]=>match P.underlying T,cc (h k) with
  |some (.array n e),some vs=>match ts P e with
   |some sz=>{ side:=0<=i/\i<n/\1<n/\o<vs.length,val:=.own k (o+i.toNat*sz),reads:=[k] }
   |none=>.bad
  |_,_=>.bad
 | [.v (.slice (some ⟨b,o,none⟩) n _),.v (.int _ i)]=>match P.underlying T with
  |some (.slice e)=>match ts P e with
   |some sz=>.iC (0<=i/\i<n) (.v (.pointer (some ⟨b,o+i.toNat*sz,none⟩)))
   |none=>.bad
  |_=>.bad
 | [.v (.pointer (some ⟨b,o,none⟩)),.v (.int _ i)]=>match P.underlying T with
  |some (.array n e)=>match ts P e with
   |some sz=>.iC (0<=i/\i<n/\1<n) (.v (.pointer (some ⟨b,o+i.toNat*sz,none⟩)))
   |none=>.bad
  |_=>.bad
 |_=>.bad
theorem rI(b o n:Nat):(⟨b,o,none⟩:Addr).add n=⟨b,o+n,none⟩:=by unfold Addr.add;split<;>simp_all
theorem BZ{T:TypeId}{x y:SV}(hs:aj W bs E F h w)(hside:(bG P h T [x,y]).side) :
  Good P W bs κ E h (bG P h T [x,y]) ((do pure (.value (<- Instr.indexAt T (den E x) (den E y))):Sem Next).run P w):=by
 revert hside;unfold bG;split
 ·rename_i k kk i heq;simp only[List.cons.injEq,and_true]at heq;obtain⟨rfl,rfl⟩:=heq;split
  ·rename_i e T' size n vs hu hk;rintro⟨hsz,h0,h1,hpos⟩;refine aA hs rfl rfl ?_;obtain⟨⟨hl,hor⟩,_⟩:=hs.ent k _ hk;rcases hor with ⟨_,h2⟩|⟨g,cap,cur,hE,_,_,_,_,_,_⟩
   ·omega
   ·have hi:0<=i/\i<(n:Int):=⟨h0,h1⟩;have hvv:hv (E k)=Value.slice (some ⟨g,0,none⟩) n cap:=by rw[hE];rfl
    simp only[den,hvv];rw[hE];simp[Instr.indexAt,asIntOf,run_underlying hu,hi,jN hsz,rI,base,dt]
  ·exact λhf=>hf.elim
 ·rename_i k o kk i heq;simp only[List.cons.injEq,and_true]at heq;obtain⟨rfl,rfl⟩:=heq;split
  ·rename_i n e vs hu hvs;split
   ·rename_i sz hsz;rintro⟨h0,h1,hn,hlt⟩;obtain⟨b,hb,_⟩:=gW hs hvs (Nat.zero_lt_of_lt hlt);refine aA hs rfl rfl ?_;have hi:0<=i/\i<(n:Int):=⟨h0,h1⟩;simp[den,hb,dt,Instr.indexAt,asIntOf,run_underlying hu,Instr.sureAddr,hi,jN hsz,rI]
   ·exact λhf=>hf.elim
  ·exact λhf=>hf.elim
 ·rename_i b o n c kk i heq;simp only[List.cons.injEq,and_true]at heq;obtain⟨rfl,rfl⟩:=heq;split
  ·rename_i e hu;split
   ·rename_i sz hsz;rintro⟨h0,h1⟩;refine aA hs rfl rfl ?_;have hi:0<=i/\i<(n:Int):=⟨h0,h1⟩;simp[R.iC,den,Instr.indexAt,asIntOf,run_underlying hu,hi,jN hsz,rI]
   ·exact λhf=>hf.elim
  ·exact λhf=>hf.elim
 ·rename_i b o kk i heq;simp only[List.cons.injEq,and_true]at heq;obtain⟨rfl,rfl⟩:=heq;split
  ·rename_i n e hu;split
   ·rename_i sz hsz;rintro⟨h0,h1,hn⟩;refine aA hs rfl rfl ?_;have hi:0<=i/\i<(n:Int):=⟨h0,h1⟩;simp[R.iC,den,Instr.indexAt,asIntOf,run_underlying hu,Instr.sureAddr,hi,jN hsz,rI]
   ·exact λhf=>hf.elim
  ·exact λhf=>hf.elim
 ·exact λhf=>hf.elim
end
section
variable {P:Program}{W:World}{bs:List Nat}{κ:Nat}{E:Nat->Value}{F:Nat->List Nat}{h:Nat->Option aZ}{w:World}{K:Nat->Prop}
def oq(P:Program)(T:TypeId):List SV->R
 |[.v x]=>.iC (P.concrete T=true) (.v (.iface T x))
 |[x]=>match s7 x with
  |some vs=>.iC (P.concrete T=true) (.v (.iface T (.agg vs.toArray)))
  |none=>.iC (P.concrete T=true) (.nO T x)
 |_=>.bad
theorem aaB{T:TypeId}{x:SV}(hs:aj W bs E F h w)(hside:(oq P T [x]).side) :
  Good P W bs κ E h (oq P T [x]) ((do pure (.value (<- Instr.makeInterface T (den E x))):Sem Next).run P w):=by
 revert hside;unfold oq;split
 ·rename_i x' heq;simp only[List.cons.injEq,and_true]at heq;subst heq;intro hside;exact aA hs rfl rfl (run_makeInterface w T _ hside)
 ·rename_i x' _ heq;simp only[List.cons.injEq,and_true]at heq;subst heq;split
  ·rename_i vs hvs;intro hside;refine aA hs rfl rfl ?_;simp only[R.iC,den];rw[nm E hvs];exact run_makeInterface w T _ hside
  ·intro hside;exact aA hs rfl rfl (run_makeInterface w T _ hside)
 ·exact λhf=>hf.elim
def de(h:Nat->Option aZ):List SV->R
 |[.own k o]=>match cc (h k) with
  |some vs=>{ side:=o<vs.length,val:=.own k o,reads:=[k] }
  |none=>.bad
 |[.v (.pointer (some a))]=>.ok (.v (.pointer (some a)))
 |_=>.bad
theorem Fb{x:SV}{o:Oper}{ρ:Operand->Value}{X:Operand}(hop:o.op=.nilCheck X)(hρ:ρ X=den E x)(hs:aj W bs E F h w)(hside:(de h [x]).side) :
  Good P W bs κ E h (de h [x]) ((execOp ρ o).run P w):=by
 revert hside;unfold de;split
 ·rename_i k off heq;simp only[List.cons.injEq,and_true]at heq;subst heq;split
  ·rename_i vs hvs;intro hlt;obtain⟨b,hb,_⟩:=gW hs hvs (Nat.zero_lt_of_lt hlt);have:(execOp ρ o).run P w=.ok (.value (den E (.own k off))) w:=by simp[execOp,hop,hρ,den,hb,dt]
   rw[this];exact Good.pure hs rfl rfl rfl
  ·exact λhf=>hf.elim
 ·rename_i a heq;simp only[List.cons.injEq,and_true]at heq;subst heq;intro _;have:(execOp ρ o).run P w=.ok (.value (.pointer (some a))) w:=by simp[execOp,hop,hρ,den]
  rw[this];exact Good.pure hs rfl rfl rfl
 ·exact λhf=>hf.elim
def fw(place:Nat->Option (Nat×Nat))(cells:List SV):List (Nat×SV)->Option (List SV)
 |[]=>some cells
 |(i,x)::r=>match place i with
  |some (off,size)=>if (partsOf x).length=size/\off+size<=cells.length then fw place (av cells off (partsOf x)) r else none
  |none=>none
theorem AL(vs ps:List SV)(o:Nat)(h:o+ps.length<=vs.length):(av vs o ps).length=vs.length:=by
 simp[av];omega
theorem U5(l:List Value):∀ (cs:Array Value) (off j:Nat),off+j+l.length<=cs.size ->
  ((l.zipIdx j).foldl (λcs (x:Value×Nat)=>cs.setIfInBounds (off+x.2) x.1) cs)=(cs.toList.take (off+j)++l++cs.toList.drop (off+j+l.length)).toArray:=by
 induction l with
 |nil=>intro cs off j _;simp
 | cons x r ih=>
  intro cs off j hl;simp only[List.zipIdx_cons,List.foldl_cons,List.length_cons]at hl ⊢;rw[ih _ off (j+1) (by simp;omega)];apply Array.ext';simp only[Array.toList_setIfInBounds];have e1:off+(j+1)=off+j+1:=oM;rw[e1];have hlt:off+j<cs.toList.length:=by simp;omega
  have hs:cs.toList.set (off+j) x=cs.toList.take (off+j)++x::cs.toList.drop (off+j+1):=by
   rw[List.set_eq_take_append_cons_drop,if_pos hlt]
  have hlen:(cs.toList.take (off+j)).length=off+j:=by rw[List.length_take];omega
  rw[hs];have t1:List.take (off+j+1) (cs.toList.take (off+j)++x::cs.toList.drop (off+j+1))=cs.toList.take (off+j)++[x]:=by
   have:=List.take_length_add_append (l₁:=cs.toList.take (off+j)) (l₂:=x::cs.toList.drop (off+j+1)) 1;rw[hlen]at this;rw[this];rfl
  have t2:List.drop (off+j+1+r.length) (cs.toList.take (off+j)++x::cs.toList.drop (off+j+1))=cs.toList.drop (off+j+(r.length+1)):=by
   have:=List.drop_length_add_append (l₁:=cs.toList.take (off+j)) (l₂:=x::cs.toList.drop (off+j+1)) (1+r.length);rw[hlen]at this;rw[show off+j+1+r.length=off+j+(1+r.length) by omega,this,Nat.add_comm 1,List.drop_succ_cons,List.drop_drop]
   congr 1;omega
  rw[t1,t2];simp
theorem wx{place:Nat->Option (Nat×Nat)}(E:Nat->Value):∀ {ps:List (Nat×SV)} {cells out:List SV},fw place cells ps=some out ->
  Instr.fill place (ai E cells).toArray (ps.map λp=>(p.1,den E p.2))=some (ai E out).toArray
 |[],cells,out,hf=>by simp[fw]at hf;subst hf;rfl
 | (i,x)::r,cells,out,hf=>by
  unfold fw at hf;split at hf
  ·rename_i off size hpl;split at hf
   ·rename_i hc;have hcl:(den E x).cells.toList=ai E (partsOf x):=(pY E x).symm;have hcs:(den E x).cells.size=size:=by rw[<- Array.length_toList,hcl,aH,hc.1]
    have ih:=wx E hf;simp only[List.map_cons,Instr.fill,hpl];have hng:((den E x).cells.size≠size||off+(den E x).cells.size > (ai E cells).toArray.size)=false:=by
     simp[hcs,aH];omega
    rw[if_neg (by simp[hcs,aH];omega)];have hfo:=U5 (den E x).cells.toList (ai E cells).toArray off 0 (by rw[Array.length_toList,hcs];simp[aH];omega);have hz:(Array.foldl (λ(cs:Array Value) (x:Value×Nat)=>cs.setIfInBounds (off+x.2) x.1) (ai E cells).toArray (den E x).cells.zipIdx) =
      (ai E (av cells off (partsOf x))).toArray:=by
     rw[<- Array.foldl_toList,Array.toList_zipIdx,hfo,hcl,kN];simp[aH]
    rw[<- ih,<- hz]
   ·cases hf
  ·cases hf
def rD(P:Program)(S:TypeId):Option (List (Nat×Nat)):=
 match P.underlying S with
 |some (.struct fs)=>fs.toList.mapM λd=>(ts P d.type).map λs=>(d.offset,s)
 |_=>none
def iE(P:Program)(T:TypeId)(idx:List Nat)(args:List SV):R:=
 match tz P T,rD P T,P.underlying T with
 |some zs,some fl,some (.struct _)=>match fw (λi=>fl[i]?) (zs.map .v) (idx.zip args) with
  |some cells=>.ok (.agg cells)
  |none=>.bad
 | some zs,_,some (.array _ e)=>match ts P e with
  |some sz=>match fw (λi=>some (i*sz,sz)) (zs.map .v) (idx.zip args) with
   |some cells=>.ok (.agg cells)
   |none=>.bad
  |none=>.bad
 |_,_,_=>.bad
def dQ(P:Program)(κ:Nat)(T:TypeId)(len:Nat)(idx:List Nat)(args:List SV):R:=
 match P.underlying T with
 | some (.slice e)=>match ts P e,tz P e with
  |some sz,some zs=>match fw (λi=>some (i*sz,sz)) ((List.replicate len zs).flatten.map .v) (idx.zip args) with
   |some cells=>{ side:=len*sz<=16777216/\zs.length=sz/\0<sz,val:=.hd (nk κ),bu:=[(nk κ,some (.row e sz len cells))] }
   |none=>.bad
  |_,_=>.bad
 |_=>.bad
theorem uD{α β:Type}(f:α->Sem β)(g:α->Option β)(w:World)(hfg:∀ a b,g a=some b->(f a).run P w=.ok b w) :
  ∀ {l:List α} {r:List β},l.mapM g=some r->(l.mapM f).run P w=.ok r w
 |[],r,h=>by simp at h;subst h;simp
 |a::l,r,h=>by
  rw[List.mapM_cons]at h;obtain⟨b,hb,h⟩:=Option.bind_eq_some_iff.1 h;obtain⟨bs,hbs,h⟩:=Option.bind_eq_some_iff.1 h;simp at h;subst h;rw[List.mapM_cons];simp[hfg a b hb,uD f g w hfg hbs]
theorem NI{α β γ:Type}(f:β->γ)(l:List (α×β)):(l.map λp=>(p.1,f p.2))=(l.map (·.1)).zip ((l.map (·.2)).map f):=by
 induction l with
 |nil=>rfl
 |cons x r ih=>simp[ih]
theorem td(E:Nat->Value)(idx:List Nat)(args:List SV):((idx.zip args).map λp=>(p.1,den E p.2))=idx.zip (ai E args):=by
 induction idx generalizing args with
 |nil=>rfl
 |cons i r ih=>cases args with
  |nil=>rfl
  |cons a q=>simp[ai,ih]
theorem Oq{T:TypeId}{idx:List Nat}{args:List SV}(hs:aj W bs E F h w)(hside:(iE P T idx args).side) :
  Good P W bs κ E h (iE P T idx args) ((do pure (.value (<- Instr.build T (idx.zip (ai E args)).toArray)):Sem Next).run P w):=by
 revert hside;unfold iE;split
 ·rename_i zs fl fs hz hfl hu;split
  ·rename_i cells hf;intro _;refine aA hs rfl rfl ?_;obtain⟨z,rfl,hrun⟩:=Ip hz;unfold rD at hfl;simp only[hu]at hfl;have hm:=uD (P:=P) (λd:Field=>do pure (d.offset,<- sizeOf d.type)) (λd=>(ts P d.type).map λs=>(d.offset,s)) w (λd b hb=>by
    obtain⟨s,hs,rfl⟩:=Option.map_eq_some_iff.1 hb
    simp[jN hs]) hfl
   have hfd:=wx E hf;rw[aS,td]at hfd;have hm' : (fs.mapM (m:=Sem) λd:Field=>do pure (d.offset,<- sizeOf d.type)).run P w=.ok fl.toArray w:=by
    rw[Array.mapM_eq_mapM_toList];rw[Sem.run_map,hm];rfl
   simp only[Instr.build,Sem.run_bind,hrun,Result.andThen_ok,run_underlying hu,hm',R.ok,den];have hpl:(λ(x:Nat)=>fl.toArray[x]?)=λi=>fl[i]?:=by funext i;simp
   rw[hpl];simp only[Array.toArray_toList]at hfd;simp[hfd]
  ·exact λhf=>hf.elim
 ·rename_i zs _ n e hz hu;split
  ·rename_i sz hsz;split
   ·rename_i cells hf;intro _;refine aA hs rfl rfl ?_;obtain⟨z,rfl,hrun⟩:=Ip hz;have hfd:=wx E hf;rw[aS,td]at hfd;simp only[Array.toArray_toList]at hfd;simp only[Instr.build,Sem.run_bind,hrun,Result.andThen_ok,run_underlying hu,jN hsz,R.ok,den];simp[hfd]
   ·exact λhf=>hf.elim
  ·exact λhf=>hf.elim
 ·exact λhf=>hf.elim
theorem uz{place:Nat->Option (Nat×Nat)}:∀ {ps:List (Nat×SV)} {cells out:List SV},fw place cells ps=some out->out.length=cells.length
 |[],cells,out,hf=>by simp[fw]at hf;rw[hf]
 | (i,x)::r,cells,out,hf=>by
  unfold fw at hf;split at hf
  ·split at hf
   ·rename_i hc;rw[uz hf,AL _ _ _ oM]
   ·cases hf
  ·cases hf
theorem rQ{place:Nat->Option (Nat×Nat)}{k:Nat}:∀ {ps:List (Nat×SV)} {cells out:List SV},fw place cells ps=some out->k∈az out->k∈az cells\/k∈az (ps.map (·.2))
 |[],cells,out,hf,hk=>by simp[fw]at hf;subst hf;exact .inl hk
 | (i,x)::r,cells,out,hf,hk=>by
  unfold fw at hf;split at hf
  ·split at hf
   ·rename_i hc;rcases rQ hf hk with h1|h1
    ·rw[av,aU,aU,lU]at h1;have ht:∀ n,k∈az (cells.take n)->k∈az cells:=λn hn=>by
      obtain⟨y,hy,hky⟩:=cl.1 hn;exact cl.2 ⟨y,List.mem_of_mem_take hy,hky⟩
     have hd:∀ n,k∈az (cells.drop n)->k∈az cells:=λn hn=>by
      obtain⟨y,hy,hky⟩:=cl.1 hn;exact cl.2 ⟨y,List.mem_of_mem_drop hy,hky⟩
     simp only[List.mem_append]at h1;rcases h1 with (h1|h1)|h1
     ·exact .inl (ht _ h1)
     ·right;simp[az,h1]
     ·exact .inl (hd _ h1)
    ·right;simp[az,h1]
   ·cases hf
  ·cases hf
theorem Gr(zs:List Value)(sz len:Nat)(hz:zs.length=sz)(z:Array Value)(hzz:z.toList=zs):((Array.range (len*sz)).map (λi=>z[i % z.size]!)).toList=(List.replicate len zs).flatten:=by
 subst hz hzz
 induction len with
 |zero=>simp
 | succ n ih=>
  rw[List.replicate_succ',List.flatten_append,<- ih];simp only[Array.length_toList,Array.toList_map,Array.toList_range];rw[Nat.succ_mul,List.range_add,List.map_append]
  congr 1
  simp only[List.flatten_singleton,List.map_map];apply List.ext_getElem
  ·simp
  ·intro i h1 h2;simp only[List.getElem_map,List.getElem_range,Function.comp];have hi:i<z.size:=by simpa using h1
   rw[Nat.mul_add_mod_self_right,Nat.mod_eq_of_lt hi];simp[hi]
theorem Ax{T len:Nat}{idx:List Nat}{args:List SV}(hs:aj W bs E F h w)(hK:bU K h)(hk:∀ k,k / 8=κ->¬ K k)(hx:∀ k∈az args,K k)(hside:(dQ P κ T len idx args).side) :
  Good P W bs κ E h (dQ P κ T len idx args) ((do pure (.value (<- Instr.buildSlice T len (idx.zip (ai E args)).toArray)):Sem Next).run P w):=by
 revert hside;unfold dQ;split
 ·rename_i e hu;split
  ·rename_i sz zs hsz hz;split
   ·rename_i cells hf;rintro⟨hle,hzl,hpos⟩;obtain⟨z,hzz,hrun⟩:=Ip hz;have hfd:=wx E hf;rw[aS,td]at hfd;have hcl:cells.length=len*sz:=by
     rw[uz hf];simp[hzl]
    have hle' : ¬ len*sz > 2 ^ 24:=oM;have hrs:(do pure (.value (<- Instr.buildSlice T len (idx.zip (ai E args)).toArray)):Sem Next).run P w =
      .ok (.value (.slice (some ⟨w.heap.size,0,none⟩) len len)) (w.alloc (.cells (ai E cells).toArray e)):=by
     simp only[Instr.buildSlice,Sem.run_bind,run_underlying hu,Result.andThen_ok,jN hsz,if_neg hle'];by_cases h0:len*sz=0
     ·have hl0:len=0:=by
       rcases Nat.mul_eq_zero.1 h0 with h|h
       ·exact h
       ·omega
      rw[if_pos h0];simp only[Sem.run_bind,Sem.run_pure,Result.andThen_ok];have hc1:(Array.range (len*sz)).map (λx=>(#[]:Array Value)[x % (#[]:Array Value).size]!)=((List.replicate len zs).flatten).toArray:=by subst hl0;simp
      rw[hc1,hfd];simp[newRow]
     ·rw[if_neg h0];simp only[Sem.run_bind,Sem.run_pure,Result.andThen_ok,hrun];have hc1:(Array.range (len*sz)).map (λx=>z.cells[x % z.cells.size]!)=((List.replicate len zs).flatten).toArray:=by
       apply Array.ext';have:=Gr zs sz len hzl z.cells hzz;simpa using this
      rw[hc1,hfd];simp[newRow]
    rw[hrs];simp only[Good,oS];have hnk:=hk _ (Py κ 0 oM);simp only[Nat.add_zero]at hnk;have hkc:∀ k∈az cells,K k:=λk hkk=>by
     rcases rQ hf hkk with h1|h1
     ·rw[aR]at h1;cases h1
     ·refine hx k ?_;obtain⟨y,hy,hky⟩:=cl.1 h1;obtain⟨p,hp,rfl⟩:=List.mem_map.1 hy;exact cl.2 ⟨p.2,(List.of_mem_zip hp).2,hky⟩
    have hsz' : len<=16777216:=Nat.le_trans (Nat.le_mul_of_pos_right len hpos) hle;refine⟨trivial,bu E (nk κ) (.slice (some ⟨w.heap.size,0,none⟩) len len),bu F (nk κ) [w.heap.size],λk hkk=>al _ _ λe=>hkk (by subst e;exact a6 κ),?_,?_⟩
    ·simp[den,ah,hv,Value.oneCell']
    ·refine hs.new hK hnk ?_ (λb hb=>?_) (nP w _)
     ·have hd:ai (bu E (nk κ) (.slice (some ⟨w.heap.size,0,none⟩) len len)) cells=ai E cells:=bE cells λi hi=>al _ _ λe=>hnk (e ▸ hkc i hi)
      refine⟨⟨by rw[aH,hcl],.inr ⟨w.heap.size,len,(ai E cells).toArray,rfl,Nat.zero_le _,heap_alloc_new w _,Nat.le_refl _,?_,?_,?_⟩⟩,rfl⟩
      ·unfold maxLen;omega
      ·simp[aH,hcl]
      ·rw[hd];rw[List.take_of_length_le (by simp[aH,hcl])]
     ·simp at hb;subst hb;simp
   ·exact λhf=>hf.elim
  ·exact λhf=>hf.elim
 ·exact λhf=>hf.elim
def nT(P:Program)(κ:Nat)(T:TypeId):List SV->R
 | [.v (.int _ l),.v (.int _ c)]=>match P.underlying T with
  |some (.slice e)=>match ts P e,tz P e,xq P e with
   |some sz,some zs,some by_=>{ side:=0<=l/\l<=c/\(by_:Int)*c<=281474976710656/\c<=9223372036854775807/\zs.length=sz/\0<sz,val:=.hd (nk κ),bu:=[(nk κ,some (.row e sz l.toNat ((List.replicate l.toNat zs).flatten.map .v)))] }
   |_,_,_=>.bad
  |_=>.bad
 |_=>.bad
theorem wH{T:TypeId}{zs:List Value}{b:Nat}(hz:tz P T=some zs)(hb:xq P T=some b):∃ i z,P.info? T=some i/\i.zero=some z/\z.cells.toList=zs/\i.bytes=b/\ts P T=some i.size:=by
 unfold tz at hz;unfold xq at hb;cases hi:P.info? T with
 |none=>simp[hi]at hz
 | some i=>
  simp only[hi,Option.bind_some]at hz;cases hzz:i.zero with
  |none=>simp[hzz]at hz
  |some z=>
   simp only[hzz,Option.map_some,Option.some.injEq]at hz;simp only[hi,Option.map_some,Option.some.injEq]at hb;exact⟨i,z,rfl,hzz,hz,hb,by simp[ts,hi]⟩
theorem VR{T:TypeId}{x y:SV}(hs:aj W bs E F h w)(hK:bU K h)(hk:∀ k,k / 8=κ->¬ K k)(hside:(nT P κ T [x,y]).side) :
  Good P W bs κ E h (nT P κ T [x,y]) ((do pure (.value (<- Instr.makeSlice T (den E x) (den E y))):Sem Next).run P w):=by
 revert hside;unfold nT;split
 ·rename_i kl l kc c heq;simp only[List.cons.injEq,and_true]at heq;obtain⟨rfl,rfl⟩:=heq;split
  ·rename_i e hu;split
   ·rename_i sz zs by_ hsz hz hb;rintro⟨h0,hlc,hby,h63,hzl,hpos⟩;obtain⟨i,z,hi,hzz,hzs,hbi,hsi⟩:=wH hz hb;have hszi:i.size=sz:=by rw[hsz]at hsi;exact (Option.some.inj hsi).symm
    have hr:=run_make (P:=P) w T e i z hu hi hzz kl kc l c h0 hlc (by rw[hbi];exact hby) h63;have hrs:(do pure (.value (<- Instr.makeSlice T (den E (.v (.int kl l))) (den E (.v (.int kc c))))):Sem Next).run P w =
      .ok (.value (.slice (some ⟨w.heap.size,0,none⟩) l.toNat c.toNat)) (w.alloc (.cells (madeCells z.cells (c.toNat*i.size)) e)):=by
     simp only[den,Sem.run_bind,hr,Result.andThen_ok,Sem.run_pure]
    rw[hrs];simp only[Good,oS];have hnk:=hk _ (a6 κ);refine⟨trivial,bu E (nk κ) (.slice (some ⟨w.heap.size,0,none⟩) l.toNat c.toNat),bu F (nk κ) [w.heap.size],λk hkk=>al _ _ λe=>hkk (by subst e;exact a6 κ),?_,?_⟩
    ·simp[den,ah,hv,Value.oneCell']
    ·refine hs.new hK hnk ?_ (λb hb=>?_) (nP w _)
     ·rw[hszi];refine⟨⟨by rw[aS];simp[hzl],.inr ⟨w.heap.size,c.toNat,madeCells z.cells (c.toNat*sz),rfl,Nat.zero_le _,heap_alloc_new w _,oM,by unfold maxLen;omega,size_madeCells _ _,?_⟩⟩,rfl⟩;rw[aS];have:=Gr zs sz c.toNat hzl z.cells hzs;unfold madeCells;rw[this]
      have hcl:c.toNat=l.toNat+(c.toNat-l.toNat):=oM;have hll:((List.replicate l.toNat zs).flatten).length=l.toNat*sz:=by simp[hzl]
      rw[hcl,<- List.replicate_append_replicate,List.flatten_append,<- hll,List.take_left]
     ·simp at hb;subst hb;simp
   ·exact λhf=>hf.elim
  ·exact λhf=>hf.elim
 ·exact λhf=>hf.elim
def jP(P:Program)(h:Nat->Option aZ)(T:TypeId):List SV->R
 |[.v (.string s)]=>.iC (P.underlying T=some .string) (.v (.int .i64 s.size))
 |[.v (.slice _ n _)]=>.iC (∃ e,P.underlying T=some (.slice e)) (.v (.int .i64 n))
 |[.hd k]=>match h k with
  |some (.row _ _ n _)=>{ side:=∃ e,P.underlying T=some (.slice e),val:=.v (.int .i64 n),reads:=[k] }
  |_=>.bad
 |_=>.bad
theorem aae{T:TypeId}{tys:Array TypeId}{ty:TypeId}{x:SV}(hs:aj W bs E F h w)(ht:tys[0]?=some T)(hside:(jP P h T [x]).side) :
  Good P W bs κ E h (jP P h T [x]) ((do pure (.value (<- Builtin.len_ tys ty #[den E x])):Sem Next).run P w):=by
 revert hside;unfold jP;split
 ·rename_i s heq;simp only[List.cons.injEq,and_true]at heq;subst heq;intro hu;exact aA hs rfl rfl (by simp[Builtin.len_,ht,run_underlying hu,den,R.iC,goInt])
 ·rename_i a n c heq;simp only[List.cons.injEq,and_true]at heq;subst heq;rintro⟨e,hu⟩;exact aA hs rfl rfl (by simp[Builtin.len_,ht,run_underlying hu,den,R.iC,goInt])
 ·rename_i k heq;simp only[List.cons.injEq,and_true]at heq;subst heq;split
  ·rename_i T' size n vs hk;rintro⟨e,hu⟩;obtain⟨⟨hl,hor⟩,_⟩:=hs.ent k _ hk;have hE:∃ ao c,E k=.slice ao n c:=by
    rcases hor with ⟨h1,h2⟩|⟨g,cap,cur,h1,_⟩
    ·exact⟨none,0,by rw[h1,h2]⟩
    ·exact⟨_,_,h1⟩
   obtain⟨ao,c,hE⟩:=hE;refine aA hs rfl rfl ?_;simp[Builtin.len_,ht,run_underlying hu,den,hE,hv,Value.oneCell',goInt]
  ·exact λhf=>hf.elim
 ·exact λhf=>hf.elim
def foldI(f:Int->Int->Int):Int->List SV->Option Int
 |a,[]=>some a
 |a,.v (.int .i64 b)::r=>foldI f (f a b) r
 |_,_=>none
def uY:List SV->R
 |.v (.int .i64 a)::r=>match foldI (λx y=>if y<x then y else x) a r with|some m=>.ok (.v (.int .i64 m))|none=>.bad
 |_=>.bad
def sB:List SV->R
 |.v (.int .i64 a)::r=>match foldI (λx y=>if x<y then y else x) a r with|some m=>.ok (.v (.int .i64 m))|none=>.bad
 |_=>.bad
theorem FX(E:Nat->Value)(w:World):∀ {r:List SV} {a m:Int},foldI (λx y=>if y<x then y else x) a r=some m->((ai E r).foldlM Builtin.min2 (.int .i64 a)).run P w=.ok (.int .i64 m) w
 |[],a,m,hf=>by simp[foldI]at hf;subst hf;simp[ai]
 | x::r,a,m,hf=>by
  unfold foldI at hf;split at hf
  ·rename_i heq;cases heq
  ·rename_i a' b r' heq;simp only[List.cons.injEq]at heq;obtain⟨rfl,rfl⟩:=heq;simp only[ai,den,List.foldlM_cons,Builtin.min2,Sem.run_bind,Sem.run_pure,Result.andThen_ok];exact FX E w hf
  ·cases hf
theorem FW(E:Nat->Value)(w:World):∀ {r:List SV} {a m:Int},foldI (λx y=>if x<y then y else x) a r=some m->((ai E r).foldlM Builtin.max2 (.int .i64 a)).run P w=.ok (.int .i64 m) w
 |[],a,m,hf=>by simp[foldI]at hf;subst hf;simp[ai]
 | x::r,a,m,hf=>by
  unfold foldI at hf;split at hf
  ·rename_i heq;cases heq
  ·rename_i a' b r' heq;simp only[List.cons.injEq]at heq;obtain⟨rfl,rfl⟩:=heq;simp only[ai,den,List.foldlM_cons,Builtin.max2,Sem.run_bind,Sem.run_pure,Result.andThen_ok];exact FW E w hf
  ·cases hf
theorem aay{args:List SV}{tys:Array TypeId}{ty:TypeId}(hs:aj W bs E F h w)(hside:(uY args).side) :
  Good P W bs κ E h (uY args) ((do pure (.value (<- Builtin.min_ tys ty (ai E args).toArray)):Sem Next).run P w):=by
 revert hside;unfold uY;split
 ·rename_i a r;split
  ·rename_i m hm;intro _;refine aA hs rfl rfl ?_;simpa [Builtin.min_,ai,den,R.ok] using FX E w hm
  ·exact λhf=>hf.elim
 ·exact λhf=>hf.elim
theorem aat{args:List SV}{tys:Array TypeId}{ty:TypeId}(hs:aj W bs E F h w)(hside:(sB args).side) :
  Good P W bs κ E h (sB args) ((do pure (.value (<- Builtin.max_ tys ty (ai E args).toArray)):Sem Next).run P w):=by
 revert hside;unfold sB;split
 ·rename_i a r;split
  ·rename_i m hm;intro _;refine aA hs rfl rfl ?_;simpa [Builtin.max_,ai,den,R.ok] using FW E w hm
  ·exact λhf=>hf.elim
 ·exact λhf=>hf.elim
end
section
variable {P:Program}{W:World}{bs:List Nat}{κ:Nat}{E:Nat->Value}{F:Nat->List Nat}{h:Nat->Option aZ}{w:World}{K:Nat->Prop}
theorem aj.move{w' : World}{e e' : aZ}{u:Value}{fp:List Nat}{k q:Nat}(hs:aj W bs E F h w)(hK:bU K h)(hk:h k=some e)(hq:¬ K q)
  (he:bA (bu E q u) u fp w' e') (hfp:∀ b∈fp,b∈F k\/w.heap.size<=b) (hlt:∀ b∈fp,b<w'.heap.size) (hkeep:an w (F k) w') :
  aj W bs (bu E q u) (bu F q fp) (bu (bu h k none) q (some e')) w' := by
 have hne:k≠q:=λe=>hq (e ▸ (hK k _ hk).1)
 have old:∀ j x,bu h k none j=some x->h j=some x/\j≠k:=λj x hj=>by
  by_cases hjk:j=k
  ·subst hjk;rw[ah]at hj;cases hj
  ·rw[al _ _ hjk]at hj;exact⟨hj,hjk⟩
 have blk:∀ j x,h j=some x->j≠k->∀ b∈F j,w'.heap[b]?=w.heap[b]?:=λj x hj hjk b hb=>
  hkeep.block b (hs.lt j x hj b hb) λhb' => hs.apart j k x e hjk hj hk b hb hb'
 constructor
 ·intro j x hj;by_cases hjq:j=q
  ·subst hjq;simp only[ah,Option.some.injEq]at hj ⊢;subst hj;exact he
  ·rw[al _ _ hjq]at hj;obtain⟨hj,hjk⟩:=old j x hj;rw[al _ _ hjq,al _ _ hjq];refine gV (λi hi=>(al _ _ (show i≠q from λe=>hq (e ▸ (hK j x hj).2 i hi))).symm) (lT (hs.ent j x hj) (blk j x hj hjk))
 ·intro j x hj b hb;by_cases hjq:j=q
  ·subst hjq;rw[ah]at hb;exact hlt b hb
  ·rw[al _ _ hjq]at hj hb;obtain⟨hj,_⟩:=old j x hj;exact Nat.lt_of_lt_of_le (hs.lt j x hj b hb) hkeep.size
 ·intro j x hj b hb;by_cases hjq:j=q
  ·subst hjq;rw[ah]at hb;rcases hfp b hb with h1|h1
   ·exact hs.mine k e hk b h1
   ·exact .inl (Nat.le_trans hs.keeps.size h1)
  ·rw[al _ _ hjq]at hj hb;exact hs.mine j x (old j x hj).1 b hb
 ·intro i j x y hij hi hj b hb;by_cases hiq:i=q
  ·subst hiq;rw[al _ _ (Ne.symm hij)]at hj ⊢;obtain⟨hj,hjk⟩:=old j y hj;rw[ah]at hb;rcases hfp b hb with h1|h1
   ·exact hs.apart k j e y (Ne.symm hjk) hk hj b h1
   ·exact λhb' => by have:=hs.lt j y hj b hb';omega
  ·rw[al _ _ hiq]at hi hb;obtain⟨hi,hik⟩:=old i x hi;by_cases hjq:j=q
   ·subst hjq;rw[ah];intro hb';rcases hfp b hb' with h1|h1
    ·exact hs.apart i k x e hik hi hk b hb h1
    ·have:=hs.lt i x hi b hb;omega
   ·rw[al _ _ hjq]at hj ⊢;exact hs.apart i j x y hij hi (old j y hj).1 b hb
 ·exact hs.keeps.trans hkeep λb hb hlt' => (hs.mine k e hk b hb).resolve_left oM
theorem rq(t ty e:TypeId)(i:TypeInfo)(z:Value)(ht:P.underlying t=some (.slice e))(hi:P.info? e=some i)(hz:i.zero=some z)
  (hzs:z.cells.size=i.size) (hsz:0<i.size) (v:Value) (n:Nat) (xs:List Value) (hown:w.ownsRow 0 e i.size v n xs)
  (a:Addr) (m c:Nat) (news:List Value) (hl:news.length=m*i.size) (hnews:∀ j u,news[j]?=some u->w.cell? (a.add j)=some u) (h1:∀ u∈news,u.oneCell' = true)
  (h63:n+m<=maxLen) (hbytes:(n+m)*i.bytes<=140737488355328) (hm:0<m) :
  ∃ v' w',(Builtin.append_ #[t,t] ty #[v,.slice (some a) m c]).run P w=.ok v' w' /\ w'.ownsRow 0 e i.size v' (n+m) (xs++news)/\an w v.ownBlock.toList w' /\
   (v'.ownBlock=v.ownBlock\/v'.ownBlock=some w.heap.size)/\(∀ b∈v'.ownBlock.toList,b<w'.heap.size):=by
 have hsmall:n+m<=9223372036854775807:=by simp only[maxLen]at h63;omega
 have hlen:(xs++news).length=(n+m)*i.size:=by rw[List.length_append,hown.1,hl,Nat.add_mul]
 have grown:∀ (old:Nat),old<n+m ->
   (w.drew.alloc (.cells (xs.toArray++news.toArray++Builtin.zeroCells z.cells (grownCap w (n+m) old e-(n+m))) e)).ownsRow 0 e i.size
    (.slice (some ⟨w.heap.size,0,none⟩) (n+m) (grownCap w (n+m) old e)) (n+m) (xs++news) /\
   ∀ bl,an w bl (w.drew.alloc (.cells (xs.toArray++news.toArray++Builtin.zeroCells z.cells (grownCap w (n+m) old e-(n+m))) e)):=by
  intro old ho;have hge:=grownCap_ge w (n+m) old e;have hcm:grownCap w (n+m) old e<=maxLen:=grownCap_le_maxLen w (n+m) old e h63;refine⟨⟨hlen,.inr ⟨w.heap.size,_,_,rfl,Nat.zero_le _,heap_alloc_new w.drew _,hge,hcm,?_,?_⟩⟩,λbl=>⟨rfl,rfl,rfl,sI,λk hk _=>Below.heap_alloc w.drew _ k hk⟩⟩
  ·simp only[Array.size_append,List.size_toArray,size_zeroCells,hzs,hown.1,hl,<- Nat.add_mul]
   congr 1
   omega
  ·simp only[Array.toList_append,List.append_assoc];rw[<- List.append_assoc,<- hlen];exact List.take_left
 rcases hown.2 with ⟨rfl,rfl⟩|⟨g,cap,cur,rfl,hbg,hg,hnc,hcm,hcs,htake⟩
 ·have hx:xs=[]:=List.eq_nil_of_length_eq_zero (by simpa using hown.1);subst hx;have hr:=run_append_nil (P:=P) w t ty e i z ht hi hz a m c news hl hnews oM oM (by have hb:=hbytes;simp only[Nat.zero_add]at hb;omega);have hgr:=grown 0 oM
  simp only[Nat.zero_add,List.nil_append,Array.empty_append]at hgr ⊢;exact⟨_,_,hr,hgr.1,hgr.2 _,.inr rfl,by simp[Value.ownBlock]⟩
 ·by_cases hroom:n+m<=cap
  ·have hfit:n*i.size+news.length<=cur.size:=by rw[hl,hcs,<- Nat.add_mul];exact Nat.mul_le_mul_right _ hroom
   have hr:=run_append_room (P:=P) w t ty e i ht hi g n cap cur hg a m c news hl hnews h1 hroom hfit;refine⟨_,_,hr,⟨hlen,.inr ⟨g,cap,_,rfl,hbg,setRow_heap w g cur _ e _ hg,hroom,hcm,?_,?_⟩⟩,p7 w g _,.inl rfl,?_⟩
   ·simp only[List.size_toArray,List.length_append,List.length_take,List.length_drop,Array.length_toList];omega
   ·rw[htake,<- hlen];exact List.take_left
   ·simp[Value.ownBlock];exact (Array.getElem?_eq_some_iff.1 hg).1
  ·have holds:∀ j u,xs[j]?=some u->w.cell? ((⟨g,0,none⟩:Addr).add j)=some u:=hown.cells (g:=g) rfl;have hr:=run_append_grow (P:=P) w t ty e i z ht hi hz ⟨g,0,none⟩ n cap xs hown.1 holds a m c news hl hnews oM oM (growslice_fits oM hbytes);have hgr:=grown cap oM
   exact⟨_,_,hr,hgr.1,hgr.2 _,.inr rfl,by simp[Value.ownBlock]⟩
theorem uj(t tx ty e:TypeId)(i:TypeInfo)(ht:P.underlying t=some (.slice e))(hi:P.info? e=some i)
  (g sLen sCap:Nat) (cur:Array Value) (hg:w.heap[g]?=some (.cells cur e (0,0))) (x:Value) (m:Nat) (news:List Value) (hs:Src P i.size tx x m news w)
  (hroom:sLen+m<=sCap) (hfit:sLen*i.size+news.length<=cur.size) :
  (Builtin.append_ #[t,tx] ty #[.slice (some ⟨g,0,none⟩) sLen sCap,x]).run P w =
   .ok (.slice (some ⟨g,0,none⟩) (sLen+m) sCap) (w.setRow g (cur.toList.take (sLen*i.size)++news++cur.toList.drop (sLen*i.size+news.length)).toArray):=by
 have hst:=run_storeCells_at P g (sLen*i.size) e news 0 cur w hg (by simpa using hfit) hs.one;simp only[Nat.add_zero]at hst;rcases hs.kind with ⟨e',hk⟩|hk<;>simp[Builtin.append_,run_underlying ht,run_underlying hk,sizeOf,typeInfo,hi,hs.len,hroom,hs.cells,Addr.add_lit,hst]
theorem CW(t tx ty e:TypeId)(i:TypeInfo)(z:Value)(ht:P.underlying t=some (.slice e))(hi:P.info? e=some i)(hz:i.zero=some z)
  (hzs:z.cells.size=i.size) (v:Value) (n:Nat) (xs:List Value) (hown:w.ownsRow 0 e i.size v n xs)
  (x:Value) (m:Nat) (news:List Value) (hs:Src P i.size tx x m news w)
  (h63:n+m<=maxLen) (hbytes:(n+m)*i.bytes<=140737488355328) :
  ∃ v' w',(Builtin.append_ #[t,tx] ty #[v,x]).run P w=.ok v' w' /\ w'.ownsRow 0 e i.size v' (n+m) (xs++news)/\an w v.ownBlock.toList w' /\
   (v'.ownBlock=v.ownBlock\/v'.ownBlock=some w.heap.size)/\(∀ b∈v'.ownBlock.toList,b<w'.heap.size):=by
 have hsmall:n+m<=9223372036854775807:=by simp only[maxLen]at h63;omega
 have hl:=hs.newsLen;have hlen:(xs++news).length=(n+m)*i.size:=by rw[List.length_append,hown.1,hl,Nat.add_mul]
 have grown:∀ (old:Nat),old<n+m ->
   (w.drew.alloc (.cells ((xs++news).toArray++Builtin.zeroCells z.cells (grownCap w (n+m) old e-(n+m))) e)).ownsRow 0 e i.size
    (.slice (some ⟨w.heap.size,0,none⟩) (n+m) (grownCap w (n+m) old e)) (n+m) (xs++news) /\
   ∀ bl,an w bl (w.drew.alloc (.cells ((xs++news).toArray++Builtin.zeroCells z.cells (grownCap w (n+m) old e-(n+m))) e)):=by
  intro old ho;have hge:=grownCap_ge w (n+m) old e;have hcm:grownCap w (n+m) old e<=maxLen:=grownCap_le_maxLen w (n+m) old e h63;refine⟨⟨hlen,.inr ⟨w.heap.size,_,_,rfl,Nat.zero_le _,heap_alloc_new w.drew _,hge,hcm,?_,?_⟩⟩,λbl=>⟨rfl,rfl,rfl,sI,λk hk _=>Below.heap_alloc w.drew _ k hk⟩⟩
  ·simp only[Array.size_append,List.size_toArray,size_zeroCells,hzs,hlen,<- Nat.add_mul]
   congr 1
   omega
  ·rw[Array.toList_append,<- hlen];exact List.take_left
 rcases hown.2 with ⟨rfl,rfl⟩|⟨g,cap,cur,rfl,hbg,hg,hnc,hcm,hcs,htake⟩
 ·have hx:xs=[]:=List.eq_nil_of_length_eq_zero (by simpa using hown.1);subst hx;by_cases hm:m=0
  ·subst hm;have hn:news=[]:=List.eq_nil_of_length_eq_zero (by simpa using hl);subst hn;exact⟨_,_,run_append_nothing w t tx ty e i ht hi none 0 0 (Nat.le_refl _) x hs,hown,an.refl w _,.inl rfl,λb hb=>by cases hb⟩
  ·have hr:=run_append_grow_src (P:=P) w t tx ty e i z ht hi hz none 0 0 [] (run_firstCells_none w.drew i.size 0 0 0) x m news hs oM oM (growslice_fits oM (by simpa using hbytes));have hgr:=grown 0 oM;simp only[Nat.zero_add,List.nil_append]at hgr hr ⊢
   exact⟨_,_,hr,hgr.1,hgr.2 _,.inr rfl,by simp[Value.ownBlock]⟩
 ·by_cases hroom:n+m<=cap
  ·have hfit:n*i.size+news.length<=cur.size:=by rw[hl,hcs,<- Nat.add_mul];exact Nat.mul_le_mul_right _ hroom
   have hr:=uj (P:=P) (w:=w) t tx ty e i ht hi g n cap cur hg x m news hs hroom hfit;refine⟨_,_,hr,⟨hlen,.inr ⟨g,cap,_,rfl,hbg,setRow_heap w g cur _ e _ hg,hroom,hcm,?_,?_⟩⟩,p7 w g _,.inl rfl,?_⟩
   ·simp only[List.size_toArray,List.length_append,List.length_take,List.length_drop,Array.length_toList];omega
   ·rw[htake,<- hlen];exact List.take_left
   ·simp[Value.ownBlock];exact (Array.getElem?_eq_some_iff.1 hg).1
  ·have holds:∀ j u,xs[j]?=some u->w.cell? ((⟨g,0,none⟩:Addr).add j)=some u:=hown.cells (g:=g) rfl
   have hr:=run_append_grow_src (P:=P) w t tx ty e i z ht hi hz (some ⟨g,0,none⟩) n cap xs (run_firstCells_some w.drew i.size n _ n cap xs hown.1 (by simpa using holds)) x m news hs oM oM (growslice_fits oM hbytes);have hgr:=grown cap oM;exact⟨_,_,hr,hgr.1,hgr.2 _,.inr rfl,by simp[Value.ownBlock]⟩
def rowOf(h:Nat->Option aZ):SV->Option (List Nat×TypeId×Nat×Nat×List SV)
 |.hd k=>match h k with
  |some (.row T s n vs)=>some ([k],T,s,n,vs)
  |_=>none
 |_=>none
def gj(P:Program)(W:World)(bs:List Nat)(κ:Nat)(h:Nat->Option aZ)(tys:List TypeId):List SV->R
 | [.hd k,.hd j]=>match tys,h k,h j with
  |[T,T'],some (.row e sz n vs),some (.row _ sz' m us)=>match xq P e,tz P e with
   |some by_,some zs=>{ side:=T' = T/\P.underlying T=some (.slice e)/\ts P e=some sz/\zs.length=sz/\0<sz/\sz' = sz/\k≠j/\0<m/\n+m<=maxLen/\(n+m)*by_<=140737488355328/\us.all dO=true,val:=.hd (nk κ),bu:=[(k,none),(nk κ,some (.row e sz (n+m) (vs++us)))],reads:=[k,j] }
   |_,_=>.bad
  |_,_,_=>.bad
 | [.v (.slice none 0 0),.hd j]=>match tys,h j with
  | [T,T'],some (.row _ sz m us)=>match P.underlying T with
   |some (.slice e)=>match xq P e,tz P e with
    |some by_,some zs=>{ side:=T' = T/\ts P e=some sz/\zs.length=sz/\0<sz/\0<m/\m<=maxLen/\m*by_<=140737488355328/\us.all dO=true,val:=.hd (nk κ),bu:=[(nk κ,some (.row e sz m us))],reads:=[j] }
    |_,_=>.bad
   |_=>.bad
  |_,_=>.bad
 | [.hd k,.v (.slice ao m _)]=>match tys,h k with
  |[T,T'],some (.row e sz n vs)=>
   bif m == 0 then { side:=T' = T/\P.underlying T=some (.slice e)/\ts P e=some sz/\m=0,val:=.hd k,reads:=[k] }
   else match ao,xq P e,tz P e with
   |some ⟨b,o,none⟩,some by_,some zs=>{ side:=T' = T/\P.underlying T=some (.slice e)/\ts P e=some sz/\zs.length=sz/\(b∉bs/\fN W b o (m*sz))/\n+m<=maxLen/\(n+m)*by_<=140737488355328/\(cv W b o (m*sz)).all dO=true,val:=.hd (nk κ),bu:=[(k,none),(nk κ,some (.row e sz (n+m) (vs++cv W b o (m*sz))))],reads:=[k] }
   |_,_,_=>.bad
  |_,_=>.bad
 | [.hd k,.v (.string s)]=>match tys,h k with
  |[T,T'],some (.row e sz n vs)=>match xq P e,tz P e with
   |some by_,some zs=>{ side:=P.underlying T' = some .string/\P.underlying T=some (.slice e)/\ts P e=some sz/\zs.length=sz/\sz=1/\n+s.size<=maxLen/\(n+s.size)*by_<=140737488355328,val:=.hd (nk κ),bu:=[(k,none),(nk κ,some (.row e sz (n+s.size) (vs++(byteCells s).map .v)))],reads:=[k] }
   |_,_=>.bad
  |_,_=>.bad
 |_=>.bad
theorem Tb{j m sz:Nat}{T:TypeId}{us:List SV}(hs:aj W bs E F h w)(hj:h j=some (.row T sz m us))(hm:0<m)(hone:us.all dO=true) :
  ∃ (g c:Nat),hv (E j)=.slice (some ⟨g,0,none⟩) m c/\(ai E us).length=m*sz/\(∀ i u,(ai E us)[i]?=some u->w.cell? ((⟨g,0,none⟩:Addr).add i)=some u)/\∀ u∈ai E us,u.oneCell' = true:=by
 obtain⟨⟨hl,hor⟩,_⟩:=hs.ent j _ hj;rcases hor with ⟨_,h2⟩|⟨g,cap,cur,hE,_,hh,_,_,hcs,htake⟩
 ·omega
 ·refine⟨g,cap,by rw[hE];rfl,hl,λi u hi=>?_,λu hu=>?_⟩
  ·rw[rI,Nat.zero_add];have hlt:=(List.getElem?_eq_some_iff.1 hi).1;rw[<- htake,List.getElem?_take,if_pos oM]at hi;simp[World.cell?,hh];simpa using hi
  ·rw[bC]at hu;obtain⟨y,hy,rfl⟩:=List.mem_map.1 hu;exact yK E (List.all_eq_true.1 hone y hy)
theorem oL:∀ (n o b:Nat),az (cv W b o n)=[]
 |0,_,_=>rfl
 |n+1,o,b=>by simp[cv,az,SV.keys,oL n (o+1) b]
theorem Kh{k n m:Nat}{e T' TX ty:TypeId}{i:TypeInfo}{z x:Value}{vs us:List SV}{y:SV}(hs:aj W bs E F h w)(hK:bU K h)(hnk:¬ K (nk κ))(hkk:h k=some (.row e i.size n vs))
  (hus:∀ q∈az us,K q) (hu:P.underlying T' = some (.slice e)) (hi:P.info? e=some i) (hzz:i.zero=some z) (hzs:z.cells.size=i.size) (hy:den E y=x)
  (hsrc:Src P i.size TX x m (ai E us) w) (h63:n+m<=maxLen) (hbytes:(n+m)*i.bytes<=140737488355328) :
  Good P W bs κ E h { side:=True,val:=.hd (nk κ),bu:=[(k,none),(nk κ,some (.row e i.size (n+m) (vs++us)))],reads:=[k] } ((do pure (.value (<- Builtin.append_ [T',TX].toArray ty #[den E (.hd k),den E y])):Sem Next).run P w):=by
 obtain⟨hown,hF⟩:=hs.ent k _ hkk;have hEk:hv (E k)=E k:=fQ (cd (hs.ent k _ hkk));obtain⟨v',w',hrun,hown',hkeep,hblk,hlt⟩:=CW (P:=P) (w:=w) T' TX ty e i z hu hi hzz hzs _ n _ hown x m _ hsrc h63 hbytes
 have hrs:(do pure (.value (<- Builtin.append_ [T',TX].toArray ty #[den E (.hd k),den E y])):Sem Next).run P w=.ok (.value v') w' := by
  rw[hy];simp only[den,hEk,Sem.run_bind];simp[hrun]
 rw[hrs];simp only[Good,oS];refine⟨trivial,bu E (nk κ) v',bu F (nk κ) v'.ownBlock.toList,λq hq=>al _ _ λe=>hq (by subst e;exact a6 κ),?_,?_⟩
 ·have:hv v' = v' := fQ (cd (e:=.row e i.size (n+m) ((ai E vs++ai E us).map .v)) (E:=E) (w:=w') ⟨by rw[aS];exact hown',rfl⟩);simp[den,ah,this]
 ·simp only[ba];refine hs.move hK hkk hnk ?_ (λb hb=>?_) hlt ?_
  ·have hd:ai (bu E (nk κ) v') (vs++us)=ai E vs++ai E us:=by
    rw[eG]
    congr 1<;>refine bE _ λq hq=>al _ _ λe=>hnk (e ▸ ?_)
    ·exact (hK k _ hkk).2 q hq
    ·exact hus q hq
   exact⟨by rw[hd];exact hown',rfl⟩
  ·rw[hF];rcases hblk with h1|h1
   ·left;rw[<- h1];exact hb
   ·right;rw[h1]at hb;simp at hb;omega
  ·rw[hF];exact hkeep
theorem YF{tys:List TypeId}{ty:TypeId}{x y:SV}(hs:aj W bs E F h w)(hK:bU K h)(hk:∀ k,k / 8=κ->¬ K k)(hside:(gj P W bs κ h tys [x,y]).side) :
  Good P W bs κ E h (gj P W bs κ h tys [x,y]) ((do pure (.value (<- Builtin.append_ tys.toArray ty #[den E x,den E y])):Sem Next).run P w):=by
 have hnk:=hk _ (a6 κ);revert hside;unfold gj;split
 ·rename_i k j heq;simp only[List.cons.injEq,and_true]at heq;obtain⟨rfl,rfl⟩:=heq;split
  ·rename_i T T' e sz n vs T2 sz' m us hkk hjj;split
   ·rename_i by_ zs hb hz;rintro⟨rfl,hu,hsz,hzl,hpos,rfl,hkj,hm,h63,hbytes,hone⟩;obtain⟨i,z,hi,hzz,hzs,hbi,hsi⟩:=wH hz hb;have hszi:i.size=sz' := by rw[hsz]at hsi;exact (Option.some.inj hsi).symm
    subst hbi;obtain⟨g,c,hv1,hl,hc,h1⟩:=Tb hs hjj hm hone;obtain⟨hown,hF⟩:=hs.ent k _ hkk;have hEk:hv (E k)=E k:=fQ (cd (hs.ent k _ hkk));subst hszi
    obtain⟨v',w',hrun,hown',hkeep,hblk,hlt⟩:=rq (P:=P) T' ty e i z hu hi hzz (by rw[<- Array.length_toList,hzs,hzl]) hpos _ n _ hown ⟨g,0,none⟩ m c _ hl hc h1 h63 hbytes hm
    have hrs:(do pure (.value (<- Builtin.append_ [T',T'].toArray ty #[den E (.hd k),den E (.hd j)])):Sem Next).run P w=.ok (.value v') w' := by
     simp only[den,hEk,hv1,Sem.run_bind];simp[hrun]
    rw[hrs];simp only[Good,oS];refine⟨trivial,bu E (nk κ) v',bu F (nk κ) v'.ownBlock.toList,λq hq=>al _ _ λe=>hq (by subst e;exact a6 κ),?_,?_⟩
    ·have:hv v' = v' := fQ (cd (e:=.row e i.size (n+m) ((ai E vs++ai E us).map .v)) (E:=E) (w:=w') ⟨by rw[aS];exact hown',rfl⟩);simp[den,ah,this]
    ·simp only[ba];refine hs.move hK hkk hnk ?_ (λb hb=>?_) hlt ?_
     ·have hd:ai (bu E (nk κ) v') (vs++us)=ai E vs++ai E us:=by
       rw[eG]
       congr 1<;>refine bE _ λq hq=>al _ _ λe=>hnk (e ▸ ?_)
       ·exact (hK k _ hkk).2 q hq
       ·exact (hK j _ hjj).2 q hq
      exact⟨by rw[hd];exact hown',rfl⟩
     ·rw[hF];rcases hblk with h1|h1
      ·left;rw[<- h1];exact hb
      ·right;rw[h1]at hb;simp at hb;omega
     ·rw[hF];exact hkeep
   ·exact λhf=>hf.elim
  ·exact λhf=>hf.elim
 ·rename_i j heq;simp only[List.cons.injEq,and_true]at heq;obtain⟨rfl,rfl⟩:=heq;split
  ·rename_i T T' T2 sz m us hjj;split
   ·rename_i e hu;split
    ·rename_i by_ zs hb hz;rintro⟨rfl,hsz,hzl,hpos,hm,h63,hbytes,hone⟩;obtain⟨i,z,hi,hzz,hzs,hbi,hsi⟩:=wH hz hb;have hszi:i.size=sz:=by rw[hsz]at hsi;exact (Option.some.inj hsi).symm
     subst hbi;obtain⟨g,c,hv1,hl,hc,h1⟩:=Tb hs hjj hm hone;subst hszi;obtain⟨v',w',hrun,hown',hkeep,hblk,hlt⟩:=rq (P:=P) T' ty e i z hu hi hzz (by rw[<- Array.length_toList,hzs,hzl]) hpos _ 0 [] (World.ownsRow_nil w 0 e i.size) ⟨g,0,none⟩ m c _ hl hc h1 oM (by rw[Nat.zero_add];exact hbytes) hm
     have hrs:(do pure (.value (<- Builtin.append_ [T',T'].toArray ty #[den E (.v (.slice none 0 0)),den E (.hd j)])):Sem Next).run P w=.ok (.value v') w' := by
      simp only[den,hv1,Sem.run_bind];simp[hrun]
     rw[hrs];simp only[Nat.zero_add,List.nil_append]at hown';simp only[Good,oS];refine⟨trivial,bu E (nk κ) v',bu F (nk κ) v'.ownBlock.toList,λq hq=>al _ _ λe=>hq (by subst e;exact a6 κ),?_,?_⟩
     ·have:hv v' = v' := fQ (cd (e:=.row e i.size m ((ai E us).map .v)) (E:=E) (w:=w') ⟨by rw[aS];exact hown',rfl⟩);simp[den,ah,this]
     ·refine hs.new hK hnk ?_ (λb hb=>?_) hkeep
      ·have hd:ai (bu E (nk κ) v') us=ai E us:=bE _ λq hq=>al _ _ λe=>hnk (e ▸ (hK j _ hjj).2 q hq)
       exact⟨by rw[hd];exact hown',rfl⟩
      ·rcases hblk with h1|h1
       ·rw[h1]at hb;simp[Value.ownBlock]at hb
       ·refine⟨?_,hlt b hb⟩;rw[h1]at hb;simp at hb;omega
    ·exact λhf=>hf.elim
   ·exact λhf=>hf.elim
  ·exact λhf=>hf.elim
 ·rename_i k ao m c heq;simp only[List.cons.injEq,and_true]at heq;obtain⟨rfl,rfl⟩:=heq;split
  ·rename_i T T' e sz n vs hkk;cases hm0:(m == 0) with
   | true=>
    rintro⟨rfl,hu,hsz,rfl⟩;obtain⟨i,hi,hsi⟩:=Option.map_eq_some_iff.1 hsz;obtain⟨hown,hF⟩:=hs.ent k _ hkk;have hEk:hv (E k)=E k:=fQ (cd (hs.ent k _ hkk));have hsrc:Src P i.size T' (.slice ao 0 c) 0 [] w:=by
     cases ao with
     |none=>exact Src.ofNil w hu c
     |some a=>exact Src.ofSlice w hu a 0 c [] sI (λj u hj=>by cases hj) (λu hx=>by cases hx)
    refine aA hs rfl rfl ?_;rcases hown.2 with ⟨h1,_⟩|⟨g,cap,cur,h1,_,_,hnc,_⟩
    ·have:=run_append_nothing w T' T' ty e i hu hi none 0 0 (Nat.le_refl _) _ hsrc;have e1:den E (.hd k)=.slice none 0 0:=by simp only[den];rw[hEk,h1]
     show (Builtin.append_ #[T',T'] ty #[den E (.hd k),.slice ao 0 c]).run P w=.ok (den E (.hd k)) w;rw[e1];exact this
    ·have:=run_append_nothing w T' T' ty e i hu hi (some ⟨g,0,none⟩) n cap hnc _ hsrc;have e1:den E (.hd k)=.slice (some ⟨g,0,none⟩) n cap:=by simp only[den];rw[hEk,h1]
     show (Builtin.append_ #[T',T'] ty #[den E (.hd k),.slice ao 0 c]).run P w=.ok (den E (.hd k)) w;rw[e1];exact this
   | false=>
    simp only[cond_false];split
    ·rename_i b o by_ zs hb hz;rintro⟨rfl,hu,hsz,hzl,⟨hbn,hthere⟩,h63,hbytes,hone⟩;obtain⟨i,z,hi,hzz,hzs,hbi,hsi⟩:=wH hz hb;have hszi:i.size=sz:=by rw[hsz]at hsi;exact (Option.some.inj hsi).symm
     subst hbi;subst hszi;obtain⟨hd,hsome⟩:=lZ (E:=E) (m*i.size) o b hthere;have hxl:∀ n o,(cv W b o n).length=n:=λn=>by induction n with|zero=>intro o;rfl|succ n ih=>intro o;simp[cv,ih]
     have hsrc:Src P i.size T' (.slice (some ⟨b,o,none⟩) m c) m (ai E (cv W b o (m*i.size))) w:=by
      refine Src.ofSlice w hu _ m c _ (by rw[aH,hxl]) (λj u hj=>?_) (λu hx=>?_)
      ·rw[hd]at hj;have hjl:j<m*i.size:=by have:=(List.getElem?_eq_some_iff.1 hj).1;simpa using this
       rw[List.getElem?_map,List.getElem?_range hjl]at hj;simp only[Option.map_some,Option.some.injEq]at hj;subst hj;rw[Addr.add_lit];exact hs.keeps.cell hbn (hsome j hjl)
      ·rw[bC]at hx;obtain⟨y,hy,rfl⟩:=List.mem_map.1 hx;exact yK E (List.all_eq_true.1 hone y hy)
     exact Kh hs hK hnk hkk (λq hq=>by rw[oL]at hq;cases hq) hu hi hzz (by rw[<- Array.length_toList,hzs,hzl]) (by simp[den]) hsrc h63 hbytes
    ·exact λhf=>hf.elim
  ·exact λhf=>hf.elim
 ·rename_i k s heq;simp only[List.cons.injEq,and_true]at heq;obtain⟨rfl,rfl⟩:=heq;split
  ·rename_i T T' e sz n vs hkk;split
   ·rename_i by_ zs hb hz;rintro⟨hus,hu,hsz,hzl,hs1,h63,hbytes⟩;obtain⟨i,z,hi,hzz,hzs,hbi,hsi⟩:=wH hz hb;have hszi:i.size=sz:=by rw[hsz]at hsi;exact (Option.some.inj hsi).symm
    subst hbi;subst hszi;have hsrc:Src P i.size T' (.string s) s.size (ai E ((byteCells s).map .v)) w:=by
     rw[aS,hs1];exact Src.ofString w hus s
    exact Kh hs hK hnk hkk (λq hq=>by rw[aR]at hq;cases hq) hu hi hzz (by rw[<- Array.length_toList,hzs,hzl]) (by simp[den]) hsrc h63 hbytes
   ·exact λhf=>hf.elim
  ·exact λhf=>hf.elim
 ·exact λhf=>hf.elim
end
section
variable {P:Program}{W:World}{bs:List Nat}{κ:Nat}{E:Nat->Value}{F:Nat->List Nat}{h:Nat->Option aZ}{w:World}{K:Nat->Prop}
theorem aj.mD{w' : World}{E' : Nat->Value}{F' : Nat->List Nat}{h' : Nat->Option aZ}(hs:aj W bs E F h w)(hK:bU K h)(ks:List Nat)(N:Nat->Option aZ)
  (hks:∀ k∈ks,∃ e,h k=some e) (hEK:∀ j,K j->E' j=E j)
  (hN:∀ j e,N j=some e->bA E' (E' j) (F' j) w' e/\(∀ b∈F' j,(∃ k∈ks,b∈F k)\/w.heap.size<=b)/\∀ b∈F' j,b<w'.heap.size)
  (hap:∀ i j e e',i≠j->N i=some e->N j=some e' -> ∀ b∈F' i,b∉F' j)
  (hF:∀ j x,h j=some x->N j=none->F' j=F j)
  (hh:∀ j,h' j=match N j with|some e=>some e|none=>if j∈ks then none else h j)
  (hkeep:an w (ks.flatMap F) w'):aj W bs E' F' h' w' := by
 have old:∀ j x,h' j=some x->N j=some x\/(N j=none/\j∉ks/\h j=some x):=λj x hj=>by
  rw[hh]at hj;cases hn:N j with
  |some e=>rw[hn]at hj;exact .inl hj
  |none=>
   rw[hn]at hj;simp only at hj;split at hj
   ·cases hj
   ·rename_i hnk;exact .inr ⟨rfl,hnk,hj⟩
 have blk:∀ j x,h j=some x->j∉ks->∀ b∈F j,w'.heap[b]?=w.heap[b]?:=λj x hj hjk b hb=>
  hkeep.block b (hs.lt j x hj b hb) λhb' => by
   obtain⟨k,hk,hbk⟩:=List.mem_flatMap.1 hb';obtain⟨e,he⟩:=hks k hk;exact hs.apart j k x e (λe' => hjk (e' ▸ hk)) hj he b hb hbk
 constructor
 ·intro j x hj;rcases old j x hj with hn|⟨hn,hjk,hj'⟩
  ·exact (hN j x hn).1
  ·rw[hF j x hj' hn,hEK j (hK j x hj').1];exact gV (λi hi=>(hEK i ((hK j x hj').2 i hi)).symm) (lT (hs.ent j x hj') (blk j x hj' hjk))
 ·intro j x hj b hb;rcases old j x hj with hn|⟨hn,hjk,hj'⟩
  ·exact (hN j x hn).2.2 b hb
  ·rw[hF j x hj' hn]at hb;exact Nat.lt_of_lt_of_le (hs.lt j x hj' b hb) hkeep.size
 ·intro j x hj b hb;rcases old j x hj with hn|⟨hn,hjk,hj'⟩
  ·rcases (hN j x hn).2.1 b hb with ⟨k,hk,hbk⟩|hge
   ·obtain⟨e,he⟩:=hks k hk;exact hs.mine k e he b hbk
   ·exact .inl (Nat.le_trans hs.keeps.size hge)
  ·rw[hF j x hj' hn]at hb;exact hs.mine j x hj' b hb
 ·intro i j x y hij hi hj b hb;rcases old i x hi with hn|⟨hn,hik,hi'⟩
  ·rcases old j y hj with hn2|⟨hn2,hjk,hj'⟩
   ·exact hap i j x y hij hn hn2 b hb
   ·rw[hF j y hj' hn2];intro hb';rcases (hN i x hn).2.1 b hb with ⟨k,hk,hbk⟩|hge
    ·obtain⟨e,he⟩:=hks k hk;exact hs.apart j k y e (λe' => hjk (e' ▸ hk)) hj' he b hb' hbk
    ·have:=hs.lt j y hj' b hb';omega
  ·rw[hF i x hi' hn]at hb;rcases old j y hj with hn2|⟨hn2,hjk,hj'⟩
   ·intro hb';rcases (hN j y hn2).2.1 b hb' with ⟨k,hk,hbk⟩|hge
    ·obtain⟨e,he⟩:=hks k hk;exact hs.apart i k x e (λe' => hik (e' ▸ hk)) hi' he b hb hbk
    ·have:=hs.lt i x hi' b hb;omega
   ·rw[hF j y hj' hn2];exact hs.apart i j x y hij hi' hj' b hb
 ·refine hs.keeps.trans hkeep λb hb hlt=>?_
  obtain⟨k,hk,hbk⟩:=List.mem_flatMap.1 hb;obtain⟨e,he⟩:=hks k hk;exact (hs.mine k e he b hbk).resolve_left oM
end
def aQ(K:Nat->Prop)(κ:Nat)(r:R):Prop:=
 (∀ k∈r.val.keys,K k\/k / 8=κ)/\∀ p∈r.bu,(K p.1\/p.1 / 8=κ)/\∀ e,p.2=some e->∀ k∈e.keys,K k\/k / 8=κ
theorem aQ.plain{K:Nat->Prop}{κ:Nat}{r:R}(h:∀ k∈r.val.keys,K k)(hu:r.bu=[]):aQ K κ r:=
 ⟨λk hk=>.inl (h k hk),by rw[hu];simp⟩
structure Spec (P:Program)(f:FuncId) where
 ev:World->List Nat->Nat->(Nat->Option aZ)->List SV->R
 good:∀ (W:World) (bs:List Nat) (κ:Nat) (E:Nat->Value) (F:Nat->List Nat) (h:Nat->Option aZ) (w:World) (K:Nat->Prop) (args:List SV),
  aj W bs E F h w->bU K h->(∀ k,k / 8=κ->¬ K k)->(∀ k∈az args,K k)->(ev W bs κ h args).side ->
  Good P W bs κ E h (ev W bs κ h args) ((callFunc f (ai E args).toArray).run P w)
 keys:∀ (W:World) (bs:List Nat) (κ:Nat) (h:Nat->Option aZ) (K:Nat->Prop) (args:List SV),bU K h->(∀ k∈az args,K k)->(ev W bs κ h args).side->aQ K κ (ev W bs κ h args)
 loc:∀ (W:World) (bs:List Nat) (κ:Nat) (h h' : Nat->Option aZ) (args:List SV),(ev W bs κ h args).side->(∀ k∈(ev W bs κ h args).reads,h' k=h k)->ev W bs κ h' args=ev W bs κ h args
structure MethSpec (P:Program)(t:TypeId)(name:String) where
 f:FuncId
 ok:∀ v w,(method (P.types.size+Made.depth) t v name).run P w=.ok (f,v) w
structure Env (P:Program) where
 sp:(f:FuncId)->Option (Spec P f)
 eqs:(T:TypeId)->Option (EqSpec P T)
 mt:(t:TypeId)->(name:String)->Option (MethSpec P t name)
section
variable {P:Program}{W:World}{bs:List Nat}{κ:Nat}{E:Nat->Value}{F:Nat->List Nat}{h:Nat->Option aZ}{w:World}{K:Nat->Prop}(Γ:Env P)
def fz(W:World)(bs:List Nat)(κ:Nat)(h:Nat->Option aZ)(f:FuncId)(args:List SV):R:=
 match Γ.sp f with
 |some s=>s.ev W bs κ h args
 |none=>.bad
def lX(W:World)(bs:List Nat)(κ:Nat)(h:Nat->Option aZ):List SV->R
 |.fn (.func f) first cap::rest=>fz Γ W bs κ h f (first++rest++cap)
 |.v (.func (.func f) first cap)::rest=>fz Γ W bs κ h f (first.toList.map .v++rest++cap.toList.map .v)
 |_=>.bad
def aI(W:World)(bs:List Nat)(κ:Nat)(h:Nat->Option aZ)(name:String):List SV->R
 |.nO t x::rest=>match Γ.mt t name with
  |some m=>fz Γ W bs κ h m.f (x::rest)
  |none=>.bad
 |.v (.iface t x)::rest=>match Γ.mt t name with
  |some m=>fz Γ W bs κ h m.f (.v x::rest)
  |none=>.bad
 |_=>.bad
def isIface(P:Program)(T:TypeId):Option Bool:=(P.underlying T).map λ| .interface _=>true|_=>false
theorem z7{T:TypeId}(ht:isIface P T=some false):∃ d,P.underlying T=some d/\∀ ms,d≠.interface ms:=by
 obtain⟨d,hd,hda⟩:=Option.map_eq_some_iff.1 ht;exact⟨d,hd,λms e=>by subst e;simp at hda⟩
def je(P:Program)(T:TypeId):Option Bool:=(P.underlying T).map λ| .pointer _=>true|_=>false
theorem jE{T:TypeId}(ht:isIface P T=some true):∃ ms,P.underlying T=some (.interface ms):=by
 obtain⟨d,hd,hda⟩:=Option.map_eq_some_iff.1 ht;cases d<;>simp at hda;exact⟨_,hd⟩
theorem mn{T:TypeId}(ht:je P T=some true):∃ e,P.underlying T=some (.pointer e):=by
 obtain⟨d,hd,hda⟩:=Option.map_eq_some_iff.1 ht;cases d<;>simp at hda;exact⟨_,hd⟩
def lj:Operand->Bool
 |.const _=>true
 |_=>false
def ep(op:BinOp)(p:Prop)(b:Bool)(rd:List Nat):R:=match op with
 |.eql=>{ side:=p,val:=.v (.bool b),reads:=rd }
 |.neq=>{ side:=p,val:=.v (.bool (!b)),reads:=rd }
 |_=>.bad
def bR(P:Program)(eqs:(T:TypeId)->Option (EqSpec P T))(h:Nat->Option aZ)(op:BinOp)(T:TypeId)(X Y:Operand):List SV->R
 |[.v .nilIface,.v .nilIface]=>ep op (isIface P T=some true/\(lj X||lj Y)=true) true []
 |[.v .nilIface,.v (.iface _ _)]=>ep op (isIface P T=some true) false []
 |[.v (.iface _ _),.v .nilIface]=>ep op (isIface P T=some true) false []
 |[.v .nilIface,.nO _ _]=>ep op (isIface P T=some true) false []
 |[.nO _ _,.v .nilIface]=>ep op (isIface P T=some true) false []
 |[.v (.pointer none),.v (.pointer none)]=>ep op (je P T=some true) true []
 |[.v (.pointer none),.v (.pointer (some _))]=>ep op (je P T=some true) false []
 |[.v (.pointer (some _)),.v (.pointer none)]=>ep op (je P T=some true) false []
 |[.own k o,.v (.pointer none)]=>match cc (h k) with
  |some vs=>ep op (je P T=some true/\o<vs.length) false [k]
  |none=>.bad
 |[.v (.pointer none),.own k o]=>match cc (h k) with
  |some vs=>ep op (je P T=some true/\o<vs.length) false [k]
  |none=>.bad
 |l=>a7 P eqs op T l
theorem fV{T:TypeId}{a b:Value}{r:Bool}{op:BinOp}{X Y:Operand}(w:World)(hop:op=.eql\/op=.neq)
  (hg:(eqGuard op T X Y a b).run P w=.ok () w) (he:(Op.equal T a b).run P w=.ok r w) (h1:∀ k n,a≠.int k n) (h2:∀ k n,a≠.float k n) (h3:∀ k n m,a≠.complex k n m) (h4:∀ s,a≠.string s) :
  ((do eqGuard op T X Y a b;binOp op T a b):Sem Value).run P w=.ok (.bool (if op=.eql then r else !r)) w:=by
 rw[Sem.run_bind,hg];simp only[Result.andThen_ok];rcases hop with rfl|rfl
 ·cases a<;>first|exact absurd rfl (h1 _ _)|exact absurd rfl (h2 _ _)|exact absurd rfl (h3 _ _ _)|exact absurd rfl (h4 _)|(simp[binOp,he])
 ·cases a<;>first|exact absurd rfl (h1 _ _)|exact absurd rfl (h2 _ _)|exact absurd rfl (h3 _ _ _)|exact absurd rfl (h4 _)|(simp[binOp,he])
theorem eX{op:BinOp}{T:TypeId}{p:Prop}{b:Bool}{rd:List Nat}{X Y:Operand}{x y:Value}(hs:aj W bs E F h w)(hside:(ep op p b rd).side)
  (hr:p->∀ op,op=.eql\/op=.neq->((do eqGuard op T X Y x y;binOp op T x y):Sem Value).run P w=.ok (.bool (if op=.eql then b else !b)) w) :
  Good P W bs κ E h (ep op p b rd) ((do pure (.value (<- (do eqGuard op T X Y x y;binOp op T x y))):Sem Next).run P w):=by
 cases op<;>first
  |exact hside.elim
  | (refine aA hs rfl rfl ?_
     have:=hr hside .eql (.inl rfl)
     simpa [ep,den] using this)
  | (refine aA hs rfl rfl ?_
     have:=hr hside .neq (.inr rfl)
     simpa [ep,den] using this)
theorem E8{op:BinOp}{T:TypeId}{X Y:Operand}{w:World}(h:(lj X||lj Y)=true):(eqGuard op T X Y .nilIface .nilIface).run P w=.ok () w:=by
 cases X<;>cases Y<;>first|(cases h;done)|(cases op<;>simp[eqGuard])
theorem cZ{op:BinOp}{T:TypeId}{X Y:Operand}{w:World}{a b:Value}(h1:¬ (a=.nilIface/\b=.nilIface))(h2:∀ x,a≠.agg x):(eqGuard op T X Y a b).run P w=.ok () w:=by
 unfold eqGuard;cases (!(op matches .eql|.neq)) with
 |true=>rfl
 |false=>
  simp only[Bool.false_eq_true,if_false];split
  ·exact absurd ⟨rfl,rfl⟩ h1
  ·exact absurd rfl (h2 _)
  ·rfl
section
variable {T:TypeId}(w:World)
theorem lf{ms:Array (String×TypeId)}(hm:P.underlying T=some (.interface ms)):(Op.equal T .nilIface .nilIface).run P w=.ok true w:=by
 have:∀ d,(Op.equalIn (d+1) T .nilIface .nilIface).run P w=.ok true w:=λd=>by simp[Op.equalIn,run_underlying hm]
 exact this 9999
theorem ld{ms:Array (String×TypeId)}{t:TypeId}{x:Value}(hm:P.underlying T=some (.interface ms)):(Op.equal T .nilIface (.iface t x)).run P w=.ok false w:=by
 have:∀ d,(Op.equalIn (d+1) T .nilIface (.iface t x)).run P w=.ok false w:=λd=>by simp[Op.equalIn,run_underlying hm]
 exact this 9999
theorem lb{ms:Array (String×TypeId)}{t:TypeId}{x:Value}(hm:P.underlying T=some (.interface ms)):(Op.equal T (.iface t x) .nilIface).run P w=.ok false w:=by
 have:∀ d,(Op.equalIn (d+1) T (.iface t x) .nilIface).run P w=.ok false w:=λd=>by simp[Op.equalIn,run_underlying hm]
 exact this 9999
theorem iu{e:TypeId}{b:Option Addr}(hm:P.underlying T=some (.pointer e)):(Op.equal T (.pointer none) (.pointer b)).run P w=.ok b.isNone w:=by
 have:∀ d,(Op.equalIn (d+1) T (.pointer none) (.pointer b)).run P w=.ok b.isNone w:=λd=>by simp[Op.equalIn,run_underlying hm]
 exact this 9999
theorem ir{e:TypeId}{a:Addr}(hm:P.underlying T=some (.pointer e)):(Op.equal T (.pointer (some a)) (.pointer none)).run P w=.ok false w:=by
 have:∀ d,(Op.equalIn (d+1) T (.pointer (some a)) (.pointer none)).run P w=.ok false w:=λd=>by simp[Op.equalIn,run_underlying hm]
 exact this 9999
end
theorem Ut{eqs:(T:TypeId)->Option (EqSpec P T)}{op:BinOp}{T:TypeId}{X Y:Operand}{x y:SV}(hs:aj W bs E F h w)(hside:(bR P eqs h op T X Y [x,y]).side) :
  Good P W bs κ E h (bR P eqs h op T X Y [x,y]) ((do pure (.value (<- (do eqGuard op T X Y (den E x) (den E y);binOp op T (den E x) (den E y)))):Sem Next).run P w):=by
 revert hside;unfold bR;split
 ·rename_i heq;simp only[List.cons.injEq,and_true]at heq;obtain⟨rfl,rfl⟩:=heq;refine λhside=>eX hs hside λhp op hop=>fV w hop (E8 hp.2) ?_ (by simp[den]) (by simp[den]) (by simp[den]) (by simp[den])
  obtain⟨ms,hm⟩:=jE hp.1
  first|exact lf w hm|exact ld w hm|exact lb w hm|exact iu w hm|exact ir w hm
 ·rename_i heq;simp only[List.cons.injEq,and_true]at heq;obtain⟨rfl,rfl⟩:=heq;refine λhside=>eX hs hside λhp op hop=>fV w hop (cZ (by simp[den]) (by simp[den])) ?_ (by simp[den]) (by simp[den]) (by simp[den]) (by simp[den])
  obtain⟨ms,hm⟩:=jE hp
  first|exact lf w hm|exact ld w hm|exact lb w hm|exact iu w hm|exact ir w hm
 ·rename_i heq;simp only[List.cons.injEq,and_true]at heq;obtain⟨rfl,rfl⟩:=heq;refine λhside=>eX hs hside λhp op hop=>fV w hop (cZ (by simp[den]) (by simp[den])) ?_ (by simp[den]) (by simp[den]) (by simp[den]) (by simp[den])
  obtain⟨ms,hm⟩:=jE hp
  first|exact lf w hm|exact ld w hm|exact lb w hm|exact iu w hm|exact ir w hm
 ·rename_i heq;simp only[List.cons.injEq,and_true]at heq;obtain⟨rfl,rfl⟩:=heq;refine λhside=>eX hs hside λhp op hop=>fV w hop (cZ (by simp[den]) (by simp[den])) ?_ (by simp[den]) (by simp[den]) (by simp[den]) (by simp[den])
  obtain⟨ms,hm⟩:=jE hp
  first|exact lf w hm|exact ld w hm|exact lb w hm|exact iu w hm|exact ir w hm
 ·rename_i heq;simp only[List.cons.injEq,and_true]at heq;obtain⟨rfl,rfl⟩:=heq;refine λhside=>eX hs hside λhp op hop=>fV w hop (cZ (by simp[den]) (by simp[den])) ?_ (by simp[den]) (by simp[den]) (by simp[den]) (by simp[den])
  obtain⟨ms,hm⟩:=jE hp
  first|exact lf w hm|exact ld w hm|exact lb w hm|exact iu w hm|exact ir w hm
 ·rename_i heq;simp only[List.cons.injEq,and_true]at heq;obtain⟨rfl,rfl⟩:=heq;refine λhside=>eX hs hside λhp op hop=>fV w hop (cZ (by simp[den]) (by simp[den])) ?_ (by simp[den]) (by simp[den]) (by simp[den]) (by simp[den])
  obtain⟨ms,hm⟩:=mn hp
  first|exact lf w hm|exact ld w hm|exact lb w hm|exact iu w hm|exact ir w hm
 ·rename_i heq;simp only[List.cons.injEq,and_true]at heq;obtain⟨rfl,rfl⟩:=heq;refine λhside=>eX hs hside λhp op hop=>fV w hop (cZ (by simp[den]) (by simp[den])) ?_ (by simp[den]) (by simp[den]) (by simp[den]) (by simp[den])
  obtain⟨ms,hm⟩:=mn hp
  first|exact lf w hm|exact ld w hm|exact lb w hm|exact iu w hm|exact ir w hm
 ·rename_i heq;simp only[List.cons.injEq,and_true]at heq;obtain⟨rfl,rfl⟩:=heq;refine λhside=>eX hs hside λhp op hop=>fV w hop (cZ (by simp[den]) (by simp[den])) ?_ (by simp[den]) (by simp[den]) (by simp[den]) (by simp[den])
  obtain⟨ms,hm⟩:=mn hp
  first|exact lf w hm|exact ld w hm|exact lb w hm|exact iu w hm|exact ir w hm
 ·rename_i k off heq;simp only[List.cons.injEq,and_true]at heq;obtain⟨rfl,rfl⟩:=heq;split
  ·rename_i vs hvs;refine λhside=>eX hs hside λhp op hop=>?_
   obtain⟨b,hb,_⟩:=gW hs hvs (Nat.zero_lt_of_lt hp.2);obtain⟨ms,hm⟩:=mn hp.1;refine fV w hop (cZ (by simp[den]) (by simp[den,hb,dt])) ?_ (by simp[den,hb,dt]) (by simp[den,hb,dt]) (by simp[den,hb,dt]) (by simp[den,hb,dt]);simp only[den,hb,dt]
   first|exact iu w hm|exact ir w hm
  ·exact λhf=>hf.elim
 ·rename_i k off heq;simp only[List.cons.injEq,and_true]at heq;obtain⟨rfl,rfl⟩:=heq;split
  ·rename_i vs hvs;refine λhside=>eX hs hside λhp op hop=>?_
   obtain⟨b,hb,_⟩:=gW hs hvs (Nat.zero_lt_of_lt hp.2);obtain⟨ms,hm⟩:=mn hp.1;refine fV w hop (cZ (by simp[den]) (by simp[den])) ?_ (by simp[den]) (by simp[den]) (by simp[den]) (by simp[den]);simp only[den,hb,dt]
   first|exact iu w hm|exact ir w hm
  ·exact λhf=>hf.elim
 ·exact λhside=>YR hs hside
def y9(κ k:Nat)(b:Int)(e s n:Nat)(vs:List SV):Option Nat->R
 |some s' => { side:=s' = s/\0<=b/\b.toNat<=n,val:=.hd (nk κ),bu:=[(k,none),(nk κ,some (.row e s b.toNat (vs.take (b.toNat*s))))],reads:=[k] }
 |none=>.bad
def Gx(P:Program)(κ k:Nat)(b:Int):Option TypeDesc->Option aZ->R
 |some (.slice e),some (.row e' s n vs)=>y9 κ k b e' s n vs (ts P e)
 |_,_=>.bad
def agM(P:Program)(κ:Nat)(h:Nat->Option aZ)(T:TypeId)(k:Nat):Bool->Bool->List SV->R
 |false,true,[.v (.int _ b)]=>Gx P κ k b (P.underlying T) (h k)
 |_,_,_=>.bad
def agN(x:R):Bool->R
 |true=>.bad
 |false=>x
def fY(P:Program)(κ:Nat)(h:Nat->Option aZ)(T:TypeId)(lo hi mx:Bool):List SV->R
 |.hd k::r=>agN (agM P κ h T k lo hi r) mx
 |l=>dA P T lo hi mx l
theorem ML{T:TypeId}{lo hi mx:Bool}{x:SV}{rest:List SV}(hs:aj W bs E F h w)(hK:bU K h)(hkk:∀ k,k / 8=κ->¬ K k)(hside:(fY P κ h T lo hi mx (x::rest)).side) :
  Good P W bs κ E h (fY P κ h T lo hi mx (x::rest)) ((do pure (.value (<- Instr.sliceAt T (den E x) (if lo then lG rest 0 E else none) (if hi then lG rest (if lo then 1 else 0) E else none) none)):Sem Next).run P w):=by
 revert hside;unfold fY;split
 ·rename_i k r heq;obtain⟨rfl,rfl⟩:=List.cons.inj heq;cases mx with
  |true=>exact λhf=>hf.elim
  |false=>
  unfold agN agM;simp only;split
  ·rename_i ik b;unfold Gx;split
   ·rename_i e e' s n vs hu hk;unfold y9;split
    ·rename_i s' hsz;rintro⟨rfl,h0,h1⟩;obtain⟨⟨hl,hor⟩,hF⟩:=hs.ent k _ hk;have hKk:K k:=(hK k _ hk).1;have hne:k≠nk κ:=λe=>hkk k (by rw[e];exact a6 κ) hKk
     have hvl:vs.length=n*s' := by rw[<- aH E,hl]
     have hle:b.toNat*s' <= n*s' := Nat.mul_le_mul_right _ h1;have key:∀ (ao:Option Addr) (cap:Nat),E k=.slice ao n cap->n<=cap ->
       (w.ownsRow 0 e' s' (.slice ao b.toNat cap) b.toNat (ai E (vs.take (b.toNat*s'))))->(Value.slice ao b.toNat cap).ownBlock=(E k).ownBlock ->
       Good P W bs κ E h ({ side:=s' = s' /\ 0<=b/\b.toNat<=n,val:=.hd (nk κ),bu:=[(k,none),(nk κ,some (.row e' s' b.toNat (vs.take (b.toNat*s'))))],reads:=[k] }:R) ((do pure (.value (<- Instr.sliceAt T (den E (.hd k)) none (lG [.v (.int ik b)] 0 E) none)):Sem Next).run P w):=by
      intro ao cap hE hnc hown hob;have hv:den E (.hd k)=.slice ao n cap:=by simp[den,hE,hv,Value.oneCell']
      have hbc:b<=(cap:Int):=by
       have e1:(b.toNat:Int)=b:=Int.toNat_of_nonneg h0;rw[<- e1];exact Int.ofNat_le.2 (Nat.le_trans h1 hnc)
      have hb:=lF (P:=P) (lo:=false) (hi:=true) (rest:=[.v (.int ik b)]) (a:=none) (b:=some b) true n cap rfl E sI (by simpa using h0) (by simpa using hbc) w;have hA:(if cap=0 then ao else ao.map (·.add (0*s')))=ao:=by
       split
       ·rfl
       ·cases ao with
        |none=>rfl
        |some a=>simp[Addr.add]
      simp only[Bool.false_eq_true,if_false,if_true]at hb;rw[hv];simp only[Instr.sliceAt,Sem.run_bind,run_underlying hu,Result.andThen_ok,Instr.slice,hb,jN hsz,Sem.run_pure];simp only[Option.getD_none,Option.getD_some,show ((0:Int).toNat)=0 from rfl,Nat.sub_zero,hA,Good,oS]
      refine⟨trivial,bu E (nk κ) (.slice ao b.toNat cap),bu F (nk κ) (F k),λj hj=>al _ _ λe=>hj (by rw[e];exact a6 κ),?_,?_⟩
      ·simp[den,ah,LE.hv,Value.oneCell']
      ·refine hs.mD hK [k] (bu (λ_=>none) (nk κ) (some (.row e' s' b.toNat (vs.take (b.toNat*s'))))) (λj hj=>?_) (λj hj=>al _ _ λe=>hkk j (by rw[e];exact a6 κ) hj) (λj e he=>?_) (λi j e e' hij hi hj c hc=>?_) (λj x hx hj=>?_) (λj=>?_) (an.refl w _)
       ·simp at hj;subst hj;exact⟨_,hk⟩
       ·by_cases hj:j=nk κ
        ·subst hj;rw[ah]at he;obtain rfl:=Option.some.inj he;rw[ah,ah];refine⟨⟨?_,by rw[hF,hob]⟩,λc hc=>.inl ⟨k,sI,hc⟩,λc hc=>hs.lt k _ hk c hc⟩;have:ai (bu E (nk κ) (.slice ao b.toNat cap)) (vs.take (b.toNat*s'))=ai E (vs.take (b.toNat*s')):=bE _ λi hi=>al _ _ λe=>by
          have hiv:i∈az vs:=by
           obtain⟨y,hy,hiy⟩:=cl.1 hi;exact cl.2 ⟨y,List.mem_of_mem_take hy,hiy⟩
          exact hkk i (by rw[e];exact a6 κ) ((hK k _ hk).2 i hiv)
         rw[this];exact hown
        ·rw[al _ _ hj]at he;cases he
       ·by_cases hi' : i=nk κ
        ·by_cases hj' : j=nk κ
         ·exact absurd (hi'.trans hj'.symm) hij
         ·rw[al _ _ hj']at hj;cases hj
        ·rw[al _ _ hi']at hi;cases hi
       ·by_cases hj' : j=nk κ
        ·rw[hj',ah]at hj;cases hj
        ·exact al _ _ hj'
       ·simp only[ba];by_cases hj' : j=nk κ
        ·subst hj';rw[ah,ah]
        ·rw[al _ _ hj',al _ _ hj'];by_cases hjk:j=k
         ·subst hjk;simp[ah]
         ·rw[al _ _ hjk];simp[hjk]
     have hlen:(ai E (vs.take (b.toNat*s'))).length=b.toNat*s' := by
      rw[aH,List.length_take];omega
     rcases hor with ⟨hEk,hn⟩|⟨g,cap,cur,hEk,hb0,hh,hnc,hcm,hcs,htk⟩
     ·subst hn;have hb0:b.toNat=0:=oM;refine key none 0 hEk (Nat.le_refl _) ⟨hlen,.inl ⟨by rw[hb0],hb0⟩⟩ ?_;rw[hEk];rfl
     ·refine key _ cap hEk hnc ⟨hlen,.inr ⟨g,cap,cur,rfl,hb0,hh,oM,hcm,hcs,?_⟩⟩ ?_
      ·have:(cur.toList.take (n*s')).take (b.toNat*s')=ai E (vs.take (b.toNat*s')):=by
        rw[htk,bC,bC,List.map_take]
       rw[<- this,List.take_take,Nat.min_eq_left hle]
      ·rw[hEk];rfl
    ·exact λhf=>hf.elim
   ·exact λhf=>hf.elim
  ·exact λhf=>hf.elim
 ·exact λhside=>QY hs hside
def mg:List SV->Option (List Int)
 |[]=>some []
 |.v (.int .u8 n)::r=>(mg r).map (n::·)
 |_=>none
def fB(ns:List Int):ByteArray:=⟨(ns.map λn=>UInt8.ofNat n.toNat).toArray⟩
def cvB(P:Program)(k n:Nat):Option TypeDesc->Option TypeDesc->Option (List Int)->R
 |some (.slice e),some .string,some ns=>{ side:=P.underlying e=some (.int .u8)/\ns.length=n,val:=.v (.string (fB ns)),reads:=[k] }
 |_,_,_=>.bad
def cvH(P:Program)(src dst:TypeId)(k:Nat):Option aZ->R
 |some (.row _ 1 n vs)=>cvB P k n (P.underlying src) (P.underlying dst) (mg vs)
 |_=>.bad
def iF(P:Program)(h:Nat->Option aZ)(src dst:TypeId):List SV->R
 |[.hd k]=>cvH P src dst k (h k)
 |l=>fJ P src dst l
theorem BA(E:Nat->Value):∀ {vs:List SV} {ns:List Int},mg vs=some ns->ai E vs=ns.map (Value.int .u8)
 |[],ns,h=>by simp[mg]at h;subst h;rfl
 | x::r,ns,h=>by
  unfold mg at h;split at h
  ·rename_i heq;cases heq
  ·rename_i n r' heq;obtain⟨rfl,rfl⟩:=List.cons.inj heq;obtain⟨m,hm,rfl⟩:=Option.map_eq_some_iff.1 h;simp[ai,den,BA E hm]
  ·cases h
theorem Ay(ns:List Int):∀ s:ByteArray,ns.foldl (λr n=>r.push (UInt8.ofNat n.toNat)) s=⟨s.data++(ns.map λn=>UInt8.ofNat n.toNat).toArray⟩:=by
 induction ns with
 |nil=>intro s;simp
 |cons n r ih=>intro s;rw[List.foldl_cons,ih];simp[ByteArray.push]
theorem OL{src dst:TypeId}{x:SV}(hs:aj W bs E F h w)(hside:(iF P h src dst [x]).side) :
  Good P W bs κ E h (iF P h src dst [x]) ((do pure (.value (<- convert src dst (den E x))):Sem Next).run P w):=by
 revert hside;unfold iF;split
 ·rename_i k heq;simp only[List.cons.injEq,and_true]at heq;subst heq;cases hk:h k with
  |none=>exact λhf=>hf.elim
  | some e=>
   unfold cvH;split
   ·rename_i T n vs heq;obtain rfl:=Option.some.inj heq;unfold cvB;split
    ·rename_i e ns h1 h2 h3;rintro⟨h4,h5⟩;refine aA hs rfl rfl ?_;have hent:=hs.ent k _ hk;obtain⟨⟨hl,hor⟩,_⟩:=hent;have hd:=BA E h3;rw[hd]at hl hor;have fin:fB ns=ns.foldl (λr n=>r.push (UInt8.ofNat n.toNat)) ByteArray.empty:=by
      rw[Ay];simp[fB,ByteArray.empty,ByteArray.emptyWithCapacity];rfl
     rcases hor with ⟨hu,hn⟩|⟨g,cap,cur,hu,_,hh,hnc,_,hcs,htake⟩
     ·have:ns=[]:=by
       cases ns with
       |nil=>rfl
       |cons _ _=>simp at h5;omega
      subst this;have hv:den E (.hd k)=.slice none 0 0:=by simp[den,hu,hv,Value.oneCell']
      rw[hv,run_convert_bytes_string w src dst _ none 0 0 h1 h4 h2];simp[Conv.bytesToString,den,fB,ByteArray.empty,ByteArray.emptyWithCapacity];rfl
     ·have hv:den E (.hd k)=.slice (some ⟨g,0,none⟩) n cap:=by simp[den,hu,hv,Value.oneCell']
      rw[hv,run_convert_bytes_string w src dst _ _ n cap h1 h4 h2];have hlc:(loadCells ⟨g,0,none⟩ n).run P w=.ok (ns.map (Value.int .u8)).toArray w:=by
       have:=run_loadCells_list (P:=P) w ⟨g,0,none⟩ (ns.map (Value.int .u8)) (λj v hj=>by
        rw[Addr.add_lit,Nat.zero_add]
        have hjl:j<ns.length:=by
         have:=(List.getElem?_eq_some_iff.1 hj).1
         simpa using this
        rw[<- htake,List.getElem?_take,if_pos oM]at hj
        simp only[World.cell?,hh]
        simpa using hj)
       simpa [h5] using this
      rw[run_bytesToString w _ n cap ns hlc,fin];rfl
    ·exact λhf=>hf.elim
   ·exact λhf=>hf.elim
 ·exact λhside=>Hn hs hside
def rF(P:Program)(T:TypeId):Option Value:=(P.info? T).bind (·.zero)
theorem Iq{T:TypeId}{z:Value}(ht:rF P T=some z)(w:World):(zeroValue T).run P w=.ok z w:=by
 unfold rF at ht;cases hi:P.info? T with
 |none=>simp[hi]at ht
 |some i=>
  simp only[hi,Option.bind_some]at ht;simp[zeroValue,typeInfo,hi,ht]
def eC(P:Program)(T:TypeId)(ok:Bool):List SV->R
 | [.nO t x]=>match isIface P T,rF P T with
  |some false,some z=>
   match ok with
   |true=>.ok (if t=T then .tup [x,.v (.bool true)] else .tup [.v z,.v (.bool false)])
   |false=>.iC (t=T) x
  |_,_=>.bad
 | [.v (.iface t x)]=>match isIface P T,rF P T with
  |some false,some z=>
   match ok with
   |true=>.ok (if t=T then .tup [.v x,.v (.bool true)] else .tup [.v z,.v (.bool false)])
   |false=>.iC (t=T) (.v x)
  |_,_=>.bad
 | [.v .nilIface]=>match isIface P T,rF P T with
  |some false,some z=>
   match ok with
   |true=>.ok (.tup [.v z,.v (.bool false)])
   |false=>.bad
  |_,_=>.bad
 |_=>.bad
def afO(et:TypeId):Option TypeDesc->Option TypeId
 |some .string=>some et
 |_=>none
def HS(P:Program):Option TypeDesc->Option TypeId
 |some (.map kt et)=>afO et (P.underlying kt)
 |_=>none
theorem Lr{T et:TypeId}(hj:HS P (P.underlying T)=some et):∃ kt,P.underlying T=some (.map kt et)/\P.underlying kt=some .string:=by
 revert hj;unfold HS;split
 ·rename_i kt et' hu;unfold afO;split
  ·rename_i hk;intro he;cases he;exact⟨kt,hu,hk⟩
  ·intro he;cases he
 ·intro he;cases he
def Cc:List ByteArray->List SV->ByteArray->Option SV
 |k::ks,v::vs,s=>if k=s then some v else Cc ks vs s
 |_,_,_=>none
def Yi:Bool->Value->Option SV->SV
 |true,_,some x=>.tup [x,.v (.bool true)]
 |true,z,none=>.tup [.v z,.v (.bool false)]
 |false,_,some x=>x
 |false,z,none=>.v z
def lkE(k:Nat)(ok:Bool)(o:Option SV):Option Value->R
 |some z=>⟨True,Yi ok z o,[],none,[],[k]⟩
 |none=>.bad
def HM(P:Program)(k:Nat)(ok:Bool)(s:ByteArray):Option TypeId->Option aZ->R
 |some et,some (.mp ks vs)=>lkE k ok (Cc ks vs s) (rF P et)
 |_,_=>.bad
def jm(P:Program)(h:Nat->Option aZ)(T:TypeId)(ok:Bool):List SV->R
 |[.hd k,.v (.string s)]=>HM P k ok s (HS P (P.underlying T)) (h k)
 |_=>.bad
def upM(k:Nat)(s:ByteArray)(x:SV):Option TypeId->Option aZ->R
 |some _,some (.mp ks vs)=>⟨s∉ks,.v undef,[(k,some (.mp (ks++[s]) (vs++[x])))],none,[],[k]⟩
 |_,_=>.bad
def eD(P:Program)(h:Nat->Option aZ)(T:TypeId):List SV->R
 |[.hd k,.v (.string s),x]=>upM k s x (HS P (P.underlying T)) (h k)
 |_=>.bad
def kC(κ:Nat):List SV->R
 |[]=>.new (nk κ) (.mp [] []) (.hd (nk κ))
 |_=>.bad
theorem Lj{k:Nat}{s:ByteArray}{x:SV}:∀ {ks:List ByteArray} {vs:List SV},Cc ks vs s=some x->k∈x.keys->k∈az vs
 |[],_,h,_=>by simp[Cc]at h
 |_::_,[],h,_=>by simp[Cc]at h
 |a::ks,v::vs,h,hk=>by
  simp only[Cc]at h;simp only[az,List.mem_append];split at h
  ·cases h;exact .inl hk
  ·exact .inr (Lj h hk)
theorem aaj{k:Nat}{ok:Bool}{z:Value}{s:ByteArray}{ks:List ByteArray}{vs:List SV}(hk:k∈(Yi ok z (Cc ks vs s)).keys):k∈az vs:=by
 cases hl:Cc ks vs s with
 |none=>
  rw[hl]at hk;cases ok with
  |true=>simp[Yi,SV.keys,az]at hk
  |false=>simp[Yi,SV.keys]at hk
 |some x=>
  rw[hl]at hk;refine Lj hl ?_;cases ok with
  |true=>simpa [Yi,SV.keys,az] using hk
  |false=>simpa [Yi] using hk
theorem YM(a b:ByteArray):(a == b)=decide (a=b):=by
 cases a;cases b;rename_i x y;show (x == y)=_;by_cases h:x=y
 ·subst h;simp
 ·simp[h]
theorem uN{E:Nat->Value}{s:ByteArray}:∀ {ks:List ByteArray} {vs:List SV} {es:List MapEntry} {i:Nat},es.map (·.key)=ks.map .string->es.map (·.val)=ai E vs ->
  ∃ r,Instr.findNow .string (.string s) es i=some r/\r.map (·.2)=(Cc ks vs s).map (den E)
 |[],vs,es,i,h1,h2=>by
  simp at h1;subst h1;exact⟨none,rfl,by cases vs<;>rfl⟩
 |a::ks,vs,[],i,h1,h2=>by simp at h1
 |a::ks,[],e::es,i,h1,h2=>by simp[ai]at h2
 | a::ks,v::vs,e::es,i,h1,h2=>by
  simp only[List.map_cons,List.cons.injEq]at h1;simp only[List.map_cons,ai,List.cons.injEq]at h2;simp only[Instr.findNow,h1.1,Instr.sameNow,Cc];by_cases hs:a=s
  ·subst hs;simp[h2.1,YM]
  ·have hb:(s == a)=false:=by rw[YM];exact decide_eq_false λe=>hs e.symm
   rw[hb,if_neg hs];exact uN h1.2 h2.2
theorem HR{T:TypeId}(hs:aj W bs E F h w)(hK:bU K h)(hk:∀ k,k / 8=κ->¬ K k) :
  Good P W bs κ E h (kC κ []) ((do pure (.value (<- Instr.makeMap T none)):Sem Next).run P w):=by
 have hnk:=hk _ (a6 κ);have:(do pure (.value (<- Instr.makeMap T none)):Sem Next).run P w=.ok (.value (.map (some w.heap.size))) (w.alloc (.map #[] 0)):=by
  simp[Instr.makeMap]
 rw[this];refine⟨rfl,bu E (nk κ) (.map (some w.heap.size)),bu F (nk κ) [w.heap.size],λk hkk=>al _ _ λe=>hkk (by subst e;exact a6 κ),?_,?_⟩
 ·simp[kC,R.new,den,ah,hv,Value.oneCell']
 ·refine hs.new hK hnk ⟨w.heap.size,#[],0,rfl,rfl,heap_alloc_new w _,rfl,rfl⟩ (λb hb=>?_) (nP w _);simp at hb;subst hb;simp
theorem Lo{T:TypeId}{ok:Bool}{x y:SV}(hs:aj W bs E F h w)(hside:(jm P h T ok [x,y]).side) :
  Good P W bs κ E h (jm P h T ok [x,y]) ((do pure (.value (<- Instr.lookup T (den E x) (den E y) ok)):Sem Next).run P w):=by
 revert hside;unfold jm;split
 ·rename_i k s heq;simp only[List.cons.injEq,and_true]at heq;obtain⟨rfl,rfl⟩:=heq;unfold HM;split
  ·rename_i et ks vs hj hkk;unfold lkE;split
   ·rename_i z hz;intro _;obtain⟨kt,hu,hku⟩:=Lr hj;obtain⟨b,es,c,h1,_,h3,h4,h5⟩:=hs.ent k _ hkk;obtain⟨r,hr,hrr⟩:=uN (s:=s) (i:=0) h4 h5;have hg:(getObj b).run P w=.ok (.map es c) w:=by simp[getObj,Sem.run,h3]
    have hc:(Instr.checkKey es.isEmpty 10000 kt (.string s)).run P w=.ok () w:=by
     unfold Instr.checkKey;simp[run_underlying hku]
    have hf:(Instr.findKey kt (.string s) es.toList).run P w=.ok r w:=by
     simp[Instr.findKey,run_underlying hku,hr]
    refine aA hs rfl rfl ?_;simp only[den,h1,LE.hv,Value.oneCell',if_true,Instr.lookup,Sem.run_bind,run_underlying hu,Result.andThen_ok,hg,Sem.run_pure,hc,hf];cases r with
    | none=>
     have:Cc ks vs s=none:=by
      cases hl:Cc ks vs s with
      |none=>rfl
      |some x=>rw[hl]at hrr;cases hrr
     rw[this];cases ok<;>simp[Iq hz,Yi,den,ai]
    | some p=>
     obtain⟨i,v⟩:=p;obtain⟨x,hx,rfl⟩:∃ x,Cc ks vs s=some x/\v=den E x:=by
      cases hl:Cc ks vs s with
      |none=>rw[hl]at hrr;cases hrr
      |some x=>rw[hl]at hrr;exact⟨x,rfl,by simpa using hrr⟩
     rw[hx];cases ok<;>simp[Yi,den,ai]
   ·exact λhf=>hf.elim
  ·exact λhf=>hf.elim
 ·exact λhf=>hf.elim
theorem Lk{s:ByteArray}:∀ {ks:List ByteArray} {vs:List SV},s∉ks->Cc ks vs s=none
 |[],_,_=>by cases ‹List SV›<;>rfl
 |_::_,[],_=>rfl
 |a::ks,v::vs,hn=>by
  simp only[List.mem_cons,not_or]at hn;simp only[Cc];rw[if_neg λe=>hn.1 e.symm];exact Lk hn.2
theorem Ab{T:TypeId}{p q x:SV}(hs:aj W bs E F h w)(hside:(eD P h T [p,q,x]).side) :
  Good P W bs κ E h (eD P h T [p,q,x]) ((do Instr.mapUpdate T (den E p) (den E q) (den E x);pure .skip:Sem Next).run P w):=by
 revert hside;unfold eD;split
 ·rename_i k s x' heq;simp only[List.cons.injEq,and_true]at heq;obtain⟨rfl,rfl,rfl⟩:=heq;unfold upM;split
  ·rename_i et ks vs hj hkk;intro hn;obtain⟨kt,hu,hku⟩:=Lr hj;obtain⟨b,es,c,h1,h2,h3,h4,h5⟩:=hs.ent k _ hkk;obtain⟨r,hr,hrr⟩:=uN (s:=s) (i:=0) h4 h5;rw[Lk hn]at hrr;have:r=none:=by cases r with|none=>rfl|some p=>cases hrr
   subst this;have hg:(getObj b).run P w=.ok (.map es c) w:=by simp[getObj,Sem.run,h3]
   have hc:(Instr.checkKey false 10000 kt (.string s)).run P w=.ok () w:=by
    unfold Instr.checkKey;simp[run_underlying hku]
   have hf:(Instr.findKey kt (.string s) es.toList).run P w=.ok none w:=by
    simp[Instr.findKey,run_underlying hku,hr]
   have hst:∀ o,(setObj b o).run P w=.ok () { w with heap:=w.heap.setIfInBounds b o }:=λo=>by simp[setObj,Sem.run,h3]
   have hlt:b<w.heap.size:=(Array.getElem?_eq_some_iff.1 h3).1;have hrun:(do Instr.mapUpdate T (den E (.hd k)) (den E (.v (.string s))) (den E x);pure .skip:Sem Next).run P w=.ok .skip { w with heap:=w.heap.setIfInBounds b (.map (es.push { key:=.string s,val:=den E x,born:=c }) (c+1)) }:=by
    simp only[den,h1,LE.hv,Value.oneCell',if_true,Instr.mapUpdate,Sem.run_bind,run_underlying hu,Result.andThen_ok,hg,hc,hf,hst,Sem.run_pure]
   rw[hrun];simp only[Good,oS,ba];refine⟨trivial,E,bu F k [b],λ_ _=>rfl,rfl,?_⟩;refine hs.anb hkk ⟨b,es.push { key:=.string s,val:=den E x,born:=c },c+1,h1,rfl,by simp[Array.getElem?_setIfInBounds,hlt],?_,?_⟩ (λb' hb=>?_) (λb' hb=>?_) ⟨rfl,rfl,rfl,sI,λb' hb' hn' => ?_⟩
   ·simp[h4]
   ·simp[h5,eG,ai]
   ·left;rw[h2];exact hb
   ·simp at hb;subst hb;simpa using hlt
   ·rw[h2]at hn';have:b≠b' := λe=>hn' (by simp[e])
    simp[Array.getElem?_setIfInBounds,this]
  ·exact λhf=>hf.elim
 ·exact λhf=>hf.elim
def mC:List SV->R
 |[.v (.iface t x)]=>{ side:=True,val:=.v undef,pan:=some [{ v:=.iface t x,recovered:=false }] }
 |_=>.bad
def ew(W:World)(bs:List Nat)(κ:Nat)(h:Nat->Option aZ):Op->List SV->R
 |.move _,[x]=>.ok x
 |.assign _,[x]=>.ok x
 |.alloc T,[]=>jO P κ T
 |.box T _,args=>yV κ T args
 |.build T ps,args=>iE P T (ps.toList.map (·.1)) args
 |.buildSlice T n ps,args=>dQ P κ T n (ps.toList.map (·.1)) args
 |.load T _,args=>dK P W bs h T args
 |.store T _ _,args=>jQ P h T args
 |.nilCheck _,args=>de h args
 |.binOp op T X Y _,args=>bR P Γ.eqs h op T X Y args
 |.unOp op _ _,args=>xl op args
 |.convert s d _,args=>iF P h s d args
 |.makeInterface T _,args=>oq P T args
 |.makeFunc fn first _,args=>.ok (.fn fn (args.take first.size) (args.drop first.size))
 |.makeSlice T _ _,args=>nT P κ T args
 |.slice T _ lo hi mx,args=>fY P κ h T lo.isSome hi.isSome mx.isSome args
 |.fieldAddr S _ f,args=>ct P h S f args
 |.field S _ f,args=>iG P S f args
 |.indexAddr T _ _,args=>bG P h T args
 |.index T _ _,args=>gH P T args
 |.extract _ i,args=>cS i args
 |.typeAssert _ _ T ok,args=>eC P T ok args
 |.panic _,args=>mC args
 |.call { callee:=.builtin .len,args:=_,argTypes:=tys },args=>match tys.toList with
  |[T]=>jP P h T args
  |_=>.bad
 |.call { callee:=.builtin .append,args:=_,argTypes:=tys },args=>gj P W bs κ h tys.toList args
 |.call { callee:=.builtin .min,args:=_,argTypes:=_ },args=>uY args
 |.call { callee:=.builtin .max,args:=_,argTypes:=_ },args=>sB args
 |.call { callee:=.value _,args:=_,argTypes:=_ },args=>lX Γ W bs κ h args
 |.call { callee:=.invoke _ name,args:=_,argTypes:=_ },args=>aI Γ W bs κ h name args
 |.makeMap _ none,args=>kC κ args
 |.lookup T _ _ ok,args=>jm P h T ok args
 |.mapUpdate T _ _ _,args=>eD P h T args
 |.insert T _ _ _,args=>eD P h T args
 |_,_=>.bad
theorem tV{f:FuncId}{args:List SV}(hs:aj W bs E F h w)(hK:bU K h)(hk:∀ k,k / 8=κ->¬ K k)(hx:∀ k∈az args,K k)(hside:(fz Γ W bs κ h f args).side) :
  Good P W bs κ E h (fz Γ W bs κ h f args) ((callFunc f (ai E args).toArray).run P w):=by
 revert hside;unfold fz;split
 ·rename_i s hsp;intro hside;exact s.good W bs κ E F h w K args hs hK hk hx hside
 ·exact λhf=>hf.elim
theorem It{o:Oper}{ρ:Operand->Value}{fo:Operand}{as_:Array Operand}{tys:Array TypeId}{args:List SV}(hop:o.op=.call { callee:=.value fo,args:=as_,argTypes:=tys })
  (hρ:(fo::as_.toList).map ρ=ai E args) (hs:aj W bs E F h w) (hK:bU K h) (hk:∀ k,k / 8=κ->¬ K k) (hx:∀ k∈az args,K k) (hside:(lX Γ W bs κ h args).side) :
  Good P W bs κ E h (lX Γ W bs κ h args) ((execOp ρ o).run P w):=by
 revert hside;unfold lX;split
 ·rename_i f first cap rest
  intro hside;simp only[ai,List.map_cons,List.cons.injEq]at hρ;obtain⟨h1,h2⟩:=hρ;have harr:as_.map ρ=(ai E rest).toArray:=by apply Array.ext';simpa using h2
  have hx' : ∀ k∈az (first++rest++cap),K k:=λk hk=>hx k (by
   simp only[aU,List.mem_append]at hk
   simp only[az,SV.keys,List.mem_append]
   rcases hk with (hk|hk)|hk
   ·exact .inl (.inl hk)
   ·exact .inr hk
   ·exact .inl (.inr hk))
  have:=tV Γ (f:=f) hs hK hk hx' hside;rw[eG,eG]at this;simp only[execOp,hop,resolve,h1,den,Deferred.ofValue,Sem.run_bind,Sem.run_pure,Result.andThen_ok,invoke,harr];simpa using this
 ·rename_i f first cap rest
  intro hside;simp only[ai,List.map_cons,List.cons.injEq]at hρ;obtain⟨h1,h2⟩:=hρ;have harr:as_.map ρ=(ai E rest).toArray:=by apply Array.ext';simpa using h2
  have hx' : ∀ k∈az (first.toList.map .v++rest++cap.toList.map .v),K k:=λk hk=>hx k (by
   simp only[aU,List.mem_append,aR]at hk
   simp only[az,SV.keys,List.mem_append]
   rcases hk with (hk|hk)|hk
   ·cases hk
   ·exact .inr hk
   ·cases hk)
  have:=tV Γ (f:=f) hs hK hk hx' hside;rw[eG,eG,aS,aS]at this;have e2:(first.toList++ai E rest++cap.toList).toArray=first++(ai E rest).toArray++cap:=by apply Array.ext';simp
  rw[e2]at this;simp only[execOp,hop,resolve,h1,den,Deferred.ofValue,Sem.run_bind,Sem.run_pure,Result.andThen_ok,invoke,harr];exact this
 ·exact λhf=>hf.elim
theorem C4{o:Oper}{ρ:Operand->Value}{ro:Operand}{name:String}{as_:Array Operand}{tys:Array TypeId}{args:List SV}(hop:o.op=.call { callee:=.invoke ro name,args:=as_,argTypes:=tys })
  (hρ:(ro::as_.toList).map ρ=ai E args) (hs:aj W bs E F h w) (hK:bU K h) (hk:∀ k,k / 8=κ->¬ K k) (hx:∀ k∈az args,K k) (hside:(aI Γ W bs κ h name args).side) :
  Good P W bs κ E h (aI Γ W bs κ h name args) ((execOp ρ o).run P w):=by
 revert hside;unfold aI;split
 ·rename_i t x rest;split
  ·rename_i m hm;intro hside;simp only[ai,List.map_cons,List.cons.injEq]at hρ;obtain⟨h1,h2⟩:=hρ;have harr:as_.map ρ=(ai E rest).toArray:=by apply Array.ext';simpa using h2
   have:=tV Γ (f:=m.f) (args:=x::rest) hs hK hk (by simpa [az,SV.keys] using hx) hside;simp only[ai]at this;simp only[execOp,hop,resolve,h1,den,Sem.run_bind,Sem.run_pure,Result.andThen_ok,invoke,harr,callMethod];simp[m.ok,callMethod];simpa using this
  ·exact λhf=>hf.elim
 ·rename_i t x rest;split
  ·rename_i m hm;intro hside;simp only[ai,List.map_cons,List.cons.injEq]at hρ;obtain⟨h1,h2⟩:=hρ;have harr:as_.map ρ=(ai E rest).toArray:=by apply Array.ext';simpa using h2
   have:=tV Γ (f:=m.f) (args:=.v x::rest) hs hK hk (by simpa [az,SV.keys] using hx) hside;simp only[ai]at this;simp only[execOp,hop,resolve,h1,den,Sem.run_bind,Sem.run_pure,Result.andThen_ok,invoke,harr];simp[m.ok,callMethod];simpa [den] using this
  ·exact λhf=>hf.elim
 ·exact λhf=>hf.elim
theorem hH{T xT t:TypeId}{y z:Value}{ok:Bool}(hif:isIface P T=some false)(hz:rF P T=some z)(hok:ok=true\/t=T)(w:World) :
  (Instr.typeAssert (.iface t y) xT T ok).run P w=.ok (if t=T then (if ok then .tuple #[y,.bool true] else y) else .tuple #[z,.bool false]) w:=by
 obtain⟨d,hd,hdi⟩:=z7 hif;have hz' := Iq hz;by_cases ht:t=T
 ·subst ht;simp only[Instr.typeAssert,Sem.run_bind,run_underlying hd,Result.andThen_ok];cases d<;>first|exact absurd rfl (hdi _)|simp
 ·have hk:ok=true:=hok.resolve_right ht;subst hk;simp only[Instr.typeAssert,Sem.run_bind,run_underlying hd,Result.andThen_ok];cases d<;>first|exact absurd rfl (hdi _)|simp[ht,hz']
theorem CX{T xT:TypeId}{z:Value}(hif:isIface P T=some false)(hz:rF P T=some z)(w:World) :
  (Instr.typeAssert .nilIface xT T true).run P w=.ok (.tuple #[z,.bool false]) w:=by
 obtain⟨d,hd,hdi⟩:=z7 hif;have hz' := Iq hz;simp only[Instr.typeAssert,Sem.run_bind,run_underlying hd,Result.andThen_ok];cases d<;>first|exact absurd rfl (hdi _)|simp[hz']
theorem Kj{xT T:TypeId}{ok:Bool}{x:SV}(hs:aj W bs E F h w)(hside:(eC P T ok [x]).side) :
  Good P W bs κ E h (eC P T ok [x]) ((do pure (.value (<- Instr.typeAssert (den E x) xT T ok)):Sem Next).run P w):=by
 revert hside;unfold eC;split
 ·rename_i t y heq;simp only[List.cons.injEq,and_true]at heq;subst heq;split
  ·rename_i z hif hz;split
   ·intro _;refine aA hs rfl rfl ?_;simp only[R.ok,den];rw[hH hif hz (.inl rfl)];by_cases ht:t=T<;>simp[ht,den,ai]
   ·intro ht;refine aA hs rfl rfl ?_;have ht' : t=T:=ht;simp only[R.iC,den];rw[hH hif hz (.inr ht')];simp[ht']
  ·exact λhf=>hf.elim
 ·rename_i t y heq;simp only[List.cons.injEq,and_true]at heq;subst heq;split
  ·rename_i z hif hz;split
   ·intro _;refine aA hs rfl rfl ?_;simp only[R.ok,den];rw[hH hif hz (.inl rfl)];by_cases ht:t=T<;>simp[ht,den,ai]
   ·intro ht;refine aA hs rfl rfl ?_;have ht' : t=T:=ht;simp only[R.iC,den];rw[hH hif hz (.inr ht')];simp[ht']
  ·exact λhf=>hf.elim
 ·rename_i heq;simp only[List.cons.injEq,and_true]at heq;subst heq;split
  ·rename_i z hif hz;split
   ·intro _;refine aA hs rfl rfl ?_;simp only[R.ok,den];rw[CX hif hz];simp[ai,den]
   ·exact λhf=>hf.elim
  ·exact λhf=>hf.elim
 ·exact λhf=>hf.elim
theorem PO{x:SV}(hs:aj W bs E F h w)(hside:(mC [x]).side) :
  Good P W bs κ E h (mC [x]) ((do pure (.value (<- Instr.panic (den E x))):Sem Next).run P w):=by
 revert hside;unfold mC;split
 ·rename_i t y heq;simp only[List.cons.injEq,and_true]at heq;subst heq;intro _;have:(do pure (.value (<- Instr.panic (den E (.v (.iface t y))))):Sem Next).run P w=.halt (.panic (.iface t y)) w:=by simp[den,Instr.panic]
  rw[this];exact⟨rfl,F,hs.drop λk e he=>by simpa [dropKeys] using he⟩
 ·exact λhf=>hf.elim
theorem UL(E:Nat->Value)(l:List SV)(n:Nat):ai E (l.take n)=(ai E l).take n:=by simp[bC,List.map_take]
theorem UK(E:Nat->Value)(l:List SV)(n:Nat):ai E (l.drop n)=(ai E l).drop n:=by simp[bC,List.map_drop]
theorem Gg(ps:List (Nat×Operand))(ρ:Operand->Value):ps.map (λp=>(p.1,ρ p.2))=(ps.map (·.1)).zip ((ps.map (·.2)).map ρ):=NI ρ ps
theorem ab1(o:Oper)(ρ:Operand->Value)(args:List SV)(hρ:o.op.operands.toList.map ρ=ai E args)(hs:aj W bs E F h w)(hK:bU K h)(hk:∀ k,k / 8=κ->¬ K k)(hx:∀ k∈az args,K k)
  (hside:(ew Γ W bs κ h o.op args).side):Good P W bs κ E h (ew Γ W bs κ h o.op args) ((execOp ρ o).run P w):=by
 have one:∀ {x:SV} {X:Operand},o.op.operands.toList=[X]->args=[x]->ρ X=den E x:=λ{x X} h1 h2=>by
  rw[h1,h2]at hρ;simpa [ai] using hρ
 have len1:∀ {X:Operand},o.op.operands.toList=[X]->∃ x,args=[x]:=λ{X} h1=>by
  have:=congrArg List.length hρ;rw[h1,aH]at this;exact List.length_eq_one_iff.1 (by simpa using this.symm)
 have len2:∀ {X Y:Operand},o.op.operands.toList=[X,Y]->∃ x y,args=[x,y]/\ρ X=den E x/\ρ Y=den E y:=λ{X Y} h1=>by
  rw[h1]at hρ
  match args,hρ with
  |[x,y],hρ=>simp[ai]at hρ;exact⟨x,y,rfl,hρ.1,hρ.2⟩
  |[],hρ=>simp[ai]at hρ
  |[x],hρ=>simp[ai]at hρ
  |x::y::z::r,hρ=>simp[ai]at hρ
 have len3:∀ {X Y Z:Operand},o.op.operands.toList=[X,Y,Z]->∃ x y z,args=[x,y,z]/\ρ X=den E x/\ρ Y=den E y/\ρ Z=den E z:=λ{X Y Z} h1=>by
  rw[h1]at hρ
  match args,hρ with
  |[x,y,z],hρ=>simp[ai]at hρ;exact⟨x,y,z,rfl,hρ.1,hρ.2.1,hρ.2.2⟩
  |[],hρ=>simp[ai]at hρ
  |[x],hρ=>simp[ai]at hρ
  |[x,y],hρ=>simp[ai]at hρ
  |x::y::z::a::r,hρ=>simp[ai]at hρ
 generalize hop:o.op=op at *;cases op with
 |move X=>
  obtain⟨x,rfl⟩:=len1 (X:=X) rfl;simp only[ew]at hside ⊢;have:(execOp ρ o).run P w=.ok (.value (den E x)) w:=by simp[execOp,hop,one (X:=X) rfl rfl]
  rw[this];exact Good.pure hs rfl rfl rfl
 |assign X=>
  obtain⟨x,rfl⟩:=len1 (X:=X) rfl;simp only[ew]at hside ⊢;have:(execOp ρ o).run P w=.ok (.value (den E x)) w:=by simp[execOp,hop,one (X:=X) rfl rfl]
  rw[this];exact Good.pure hs rfl rfl rfl
 | alloc T=>
  have ha:args=[]:=by
   have:=congrArg List.length hρ;rw[aH]at this;exact List.eq_nil_of_length_eq_zero (by simpa [Op.operands] using this.symm)
  subst ha;simp only[ew]at hside ⊢;have:=Ob (E:=E) hs hK hk hside;simpa only[execOp,hop] using this
 |box T X=>
  obtain⟨x,rfl⟩:=len1 (X:=X) rfl;simp only[ew]at hside ⊢;have:=YS (P:=P) (T:=T) hs hK hk (λk hk=>hx k (by simpa [az] using hk));simpa only[execOp,hop,one (X:=X) rfl rfl] using this
 | build T ps=>
  simp only[ew]at hside ⊢;have:=Oq (E:=E) (κ:=κ) hs hside;have e:ps.map (λ(i,x)=>(i,ρ x))=((ps.toList.map (·.1)).zip (ai E args)).toArray:=by
   rw[<- hρ];apply Array.ext';simpa [Op.operands] using Gg ps.toList ρ
  simp only[execOp,hop,e];exact this
 | buildSlice T n ps=>
  simp only[ew]at hside ⊢;have:=Ax (E:=E) hs hK hk hx hside;have e:ps.map (λ(i,x)=>(i,ρ x))=((ps.toList.map (·.1)).zip (ai E args)).toArray:=by
   rw[<- hρ];apply Array.ext';simpa [Op.operands] using Gg ps.toList ρ
  simp only[execOp,hop,e];exact this
 |load T X=>
  obtain⟨x,rfl⟩:=len1 (X:=X) rfl;simp only[ew]at hside ⊢;have:=VQ (P:=P) (κ:=κ) hs hside;simpa only[execOp,hop,one (X:=X) rfl rfl] using this
 |store T X Y=>
  obtain⟨x,y,rfl,h1,h2⟩:=len2 (X:=X) (Y:=Y) rfl;simp only[ew]at hside ⊢;have:=Q4 (P:=P) (W:=W) (bs:=bs) (F:=F) (κ:=κ) (E:=E) hs hside;simpa only[execOp,hop,h1,h2] using this
 |nilCheck X=>
  obtain⟨x,rfl⟩:=len1 (X:=X) rfl;simp only[ew]at hside ⊢;exact Fb hop (one (X:=X) rfl rfl) hs hside
 |binOp op T X Y T2=>
  obtain⟨x,y,rfl,h1,h2⟩:=len2 (X:=X) (Y:=Y) rfl;simp only[ew]at hside ⊢;have:=Ut (E:=E) (κ:=κ) (X:=X) (Y:=Y) hs hside;simpa only[execOp,hop,h1,h2] using this
 |unOp op T X=>
  obtain⟨x,rfl⟩:=len1 (X:=X) rfl;simp only[ew]at hside ⊢;have:=ahc (P:=P) (E:=E) (κ:=κ) hs hside;simpa only[execOp,hop,one (X:=X) rfl rfl] using this
 |convert s d X=>
  obtain⟨x,rfl⟩:=len1 (X:=X) rfl;simp only[ew]at hside ⊢;have:=OL (P:=P) (E:=E) (κ:=κ) hs hside;simpa only[execOp,hop,one (X:=X) rfl rfl] using this
 |makeInterface T X=>
  obtain⟨x,rfl⟩:=len1 (X:=X) rfl;simp only[ew]at hside ⊢;have:=aaB (P:=P) (E:=E) (κ:=κ) hs hside;simpa only[execOp,hop,one (X:=X) rfl rfl] using this
 | makeFunc fn first cap=>
  simp only[ew]at hside ⊢;have h1:first.map ρ=(ai E (args.take first.size)).toArray:=by
   rw[UL,<- hρ];apply Array.ext';simp[Op.operands]
  have h2:cap.map ρ=(ai E (args.drop first.size)).toArray:=by
   rw[UK,<- hρ];apply Array.ext';simp[Op.operands]
  have:(execOp ρ o).run P w=.ok (.value (den E (.fn fn (args.take first.size) (args.drop first.size)))) w:=by
   simp[execOp,hop,h1,h2,den,Instr.makeFunc]
  rw[this];exact Good.pure hs rfl rfl rfl
 |makeSlice T X Y=>
  obtain⟨x,y,rfl,h1,h2⟩:=len2 (X:=X) (Y:=Y) rfl;simp only[ew]at hside ⊢;have:=VR (E:=E) hs hK hk hside;simpa only[execOp,hop,h1,h2] using this
 | slice T X lo hi mx=>
  simp only[ew]at hside ⊢;cases mx with
  | some m=>
   exfalso;revert hside;unfold fY;split
   ·exact λhf=>hf.elim
   unfold dA;split
   ·split
    ·rename_i e _;simp at e
    ·exact λhf=>hf.elim
   ·split
    ·rename_i e _;simp at e
    ·exact λhf=>hf.elim
   ·exact λhf=>hf.elim
  | none=>
   match args,hρ,hside with
   |[],hρ,hside=>simp[Op.operands,ai]at hρ
   | x::rest,hρ,hside=>
    have hg:=ML (P:=P) (E:=E) (κ:=κ) hs hK hk hside;have h1:ρ X=den E x:=by simp[Op.operands,ai]at hρ;exact hρ.1
    have h2:((lo.toList++hi.toList).map ρ)=ai E rest:=by
     simp[Op.operands,ai]at hρ;simpa using hρ.2
    have e1:lo.map ρ=(if lo.isSome then lG rest 0 E else none):=by
     cases lo with
     |none=>rfl
     |some a=>
      simp only[Option.isSome_some,if_true,lG];cases rest with
      |nil=>simp[ai]at h2
      |cons r rs=>simp[ai]at h2;simp[h2.1]
    have e2:hi.map ρ=(if hi.isSome then lG rest (if lo.isSome then 1 else 0) E else none):=by
     cases hi with
     |none=>rfl
     | some a=>
      simp only[Option.isSome_some,if_true,lG];cases lo with
      |none=>
       cases rest with
       |nil=>simp[ai]at h2
       |cons r rs=>simp[ai]at h2;simp[h2.1]
      |some b=>
       match rest,h2 with
       |[],h2=>simp[ai]at h2
       |[r],h2=>simp[ai]at h2
       |r::r' :: rs,h2=>simp[ai]at h2;simp[h2.2.1]
    have e3:execOp ρ o=(do pure (.value (<- Instr.sliceAt T (den E x) (if lo.isSome then lG rest 0 E else none) (if hi.isSome then lG rest (if lo.isSome then 1 else 0) E else none) none)):Sem Next):=by
     simp only[execOp,hop,h1,e1,e2,Option.map_none]
    rw[e3];exact hg
 |fieldAddr S X f=>
  obtain⟨x,rfl⟩:=len1 (X:=X) rfl;simp only[ew]at hside ⊢;have:=BO (P:=P) (E:=E) (κ:=κ) hs hside;simpa only[execOp,hop,one (X:=X) rfl rfl] using this
 |field S X f=>
  obtain⟨x,rfl⟩:=len1 (X:=X) rfl;simp only[ew]at hside ⊢;have:=OY (P:=P) (E:=E) (κ:=κ) hs hside;simpa only[execOp,hop,one (X:=X) rfl rfl] using this
 |indexAddr T X Y=>
  obtain⟨x,y,rfl,h1,h2⟩:=len2 (X:=X) (Y:=Y) rfl;simp only[ew]at hside ⊢;have:=BZ (P:=P) (E:=E) (κ:=κ) hs hside;simpa only[execOp,hop,h1,h2] using this
 |index T X Y=>
  obtain⟨x,y,rfl,h1,h2⟩:=len2 (X:=X) (Y:=Y) rfl;simp only[ew]at hside ⊢;have:=Pf (P:=P) (E:=E) (κ:=κ) hs hside;simpa only[execOp,hop,h1,h2] using this
 |extract X i=>
  obtain⟨x,rfl⟩:=len1 (X:=X) rfl;simp only[ew]at hside ⊢;have:=Hx (P:=P) (E:=E) (κ:=κ) hs hside;simpa only[execOp,hop,one (X:=X) rfl rfl] using this
 |typeAssert X xT T ok=>
  obtain⟨x,rfl⟩:=len1 (X:=X) rfl;simp only[ew]at hside ⊢;have:=Kj (P:=P) (E:=E) (κ:=κ) (xT:=xT) hs hside;simpa only[execOp,hop,one (X:=X) rfl rfl] using this
 | makeMap T r=>
  cases r with
  |some r=>simp only[ew]at hside;exact hside.elim
  | none=>
   have ha:args=[]:=by
    have:=congrArg List.length hρ;rw[aH]at this;exact List.eq_nil_of_length_eq_zero (by simpa [Op.operands] using this.symm)
   subst ha;simp only[ew]at hside ⊢;have:=HR (P:=P) (W:=W) (bs:=bs) (E:=E) (T:=T) hs hK hk;simpa only[execOp,hop,Option.map_none] using this
 |lookup T X Y ok=>
  obtain⟨x,y,rfl,h1,h2⟩:=len2 (X:=X) (Y:=Y) rfl;simp only[ew]at hside ⊢;have:=Lo (P:=P) (W:=W) (bs:=bs) (F:=F) (κ:=κ) (E:=E) hs hside;simpa only[execOp,hop,h1,h2] using this
 |mapUpdate T X Y Z=>
  obtain⟨x,y,z,rfl,h1,h2,h3⟩:=len3 (X:=X) (Y:=Y) (Z:=Z) rfl;simp only[ew]at hside ⊢;have:=Ab (P:=P) (W:=W) (bs:=bs) (F:=F) (κ:=κ) (E:=E) hs hside;simpa only[execOp,hop,h1,h2,h3] using this
 |insert T X Y Z=>
  obtain⟨x,y,z,rfl,h1,h2,h3⟩:=len3 (X:=X) (Y:=Y) (Z:=Z) rfl;simp only[ew]at hside ⊢;have:=Ab (P:=P) (W:=W) (bs:=bs) (F:=F) (κ:=κ) (E:=E) hs hside;simpa only[execOp,hop,h1,h2,h3] using this
 |panic X=>
  obtain⟨x,rfl⟩:=len1 (X:=X) rfl;simp only[ew]at hside ⊢;have:=PO (P:=P) (E:=E) (κ:=κ) hs hside;simpa only[execOp,hop,one (X:=X) rfl rfl] using this
 | call c=>
  obtain⟨callee,as_,tys⟩:=c;have hce:∀ b:Builtin,callee=.builtin b->as_.map ρ=(ai E args).toArray:=λb hb=>by
   subst hb;rw[<- hρ];apply Array.ext';simp[Op.operands,Call.operands]
  cases callee with
  |value fo=>
   simp only[ew]at hside ⊢;refine It Γ hop ?_ hs hK hk hx hside;rw[<- hρ];simp[Op.operands,Call.operands]
  |invoke ro name=>
   simp only[ew]at hside ⊢;refine C4 Γ hop ?_ hs hK hk hx hside;rw[<- hρ];simp[Op.operands,Call.operands]
  | builtin b=>
   have harr:=hce b rfl;cases b<;>simp only[ew]at hside ⊢<;>first|exact hside.elim|skip
   case append=>
    match args,hside,hρ with
    |[x,y],hside,hρ=>
     have:=YF (P:=P) (E:=E) (tys:=tys.toList) (ty:=o.type) hs hK hk hside;simp only[ai]at harr;simp only[execOp,hop,resolve,invoke,builtin,Sem.run_bind,Sem.run_pure,Result.andThen_ok,harr];simpa using this
    |[],hside,hρ=>simp[gj,R.bad]at hside
    |[x],hside,hρ=>simp[gj,R.bad]at hside
    |x::y::z::r,hside,hρ=>simp[gj,R.bad]at hside
   case len=>
    revert hside;split
    ·rename_i T hT;intro hside
     match args,hside,hρ with
     |[x],hside,hρ=>
      have ht:tys[0]?=some T:=by rw[<- Array.getElem?_toList,hT];rfl
      have:=aae (P:=P) (E:=E) (κ:=κ) (ty:=o.type) hs ht hside;simp only[ai]at harr;simp only[execOp,hop,resolve,invoke,builtin,Sem.run_bind,Sem.run_pure,Result.andThen_ok,harr];simpa using this
     |[],hside,hρ=>simp[jP,R.bad]at hside
     |x::y::r,hside,hρ=>cases x<;>simp[jP,R.bad]at hside
    ·exact λhf=>hf.elim
   case min=>
    have:=aay (P:=P) (E:=E) (κ:=κ) (tys:=tys) (ty:=o.type) hs hside;simp only[execOp,hop,resolve,invoke,builtin,Sem.run_bind,Sem.run_pure,Result.andThen_ok,harr];simpa using this
   case max=>
    have:=aat (P:=P) (E:=E) (κ:=κ) (tys:=tys) (ty:=o.type) hs hside;simp only[execOp,hop,resolve,invoke,builtin,Sem.run_bind,Sem.run_pure,Result.andThen_ok,harr];simpa using this
 |_=>simp only[ew]at hside;exact hside.elim
end
section
variable {P:Program}{W:World}{bs:List Nat}{κ:Nat}{h:Nat->Option aZ}{K:Nat->Prop}(Γ:Env P)
theorem p9{k n:Nat}{l:List SV}(hk:k∈az (l.take n)):k∈az l:=by
 obtain⟨y,hy,hky⟩:=cl.1 hk;exact cl.2 ⟨y,List.mem_of_mem_take hy,hky⟩
theorem p8{k n:Nat}{l:List SV}(hk:k∈az (l.drop n)):k∈az l:=by
 obtain⟨y,hy,hky⟩:=cl.1 hk;exact cl.2 ⟨y,List.mem_of_mem_drop hy,hky⟩
theorem yx{k n:Nat}{l:List SV}{x:Value}(hk:k∈(l.getD n (.v x)).keys):k∈az l:=by
 rw[List.getD_eq_getElem?_getD]at hk;cases hl:l[n]? with
 |none=>rw[hl]at hk;cases hk
 |some y=>rw[hl]at hk;exact cl.2 ⟨y,List.mem_of_getElem? hl,hk⟩
theorem uA{k o:Nat}{vs ps:List SV}(hk:k∈az (av vs o ps)):k∈az vs\/k∈az ps:=by
 rw[av,aU,aU]at hk;simp only[List.mem_append]at hk;rcases hk with (hk|hk)|hk
 ·exact .inl (p9 hk)
 ·exact .inr hk
 ·exact .inl (p8 hk)
theorem uK{k:Nat}{vs:List SV}(hK:bU K h)(hv:cc (h k)=some vs):K k/\∀ j∈az vs,K j:=by
 cases hk:h k with
 |none=>simp[hk,cc]at hv
 |some e=>
  have:=hK k e hk;cases e with
  |obj d R=>simp[hk,cc]at hv
  |mp ks us=>simp[hk,cc]at hv
  |cells T us=>simp[hk,cc]at hv;subst hv;exact this
  |row T s n us=>simp[hk,cc]at hv;subst hv;exact this
theorem At(W:World)(b:Nat):∀ o n,az (cv W b o n)=[]
 |_,0=>rfl
 |o,n+1=>by simp[cv,az,SV.keys,At W b (o+1) n]
theorem nR{ag:Bool}{off sz k:Nat}{l:List SV}(hk:k∈(gi ag off sz l).val.keys):k∈az l:=by
 cases ag with
 |true=>exact p8 (p9 hk)
 |false=>exact yx hk
theorem ade{k:Nat}{idx:List Nat}{args:List SV}(hk:k∈az ((idx.zip args).map (·.2))):k∈az args:=by
 obtain⟨y,hy,hky⟩:=cl.1 hk;obtain⟨p,hp,rfl⟩:=List.mem_map.1 hy;exact cl.2 ⟨p.2,(List.of_mem_zip hp).2,hky⟩
theorem ab2(op:Op)(args:List SV)(hK:bU K h)(hx:∀ k∈az args,K k)(hside:(ew Γ W bs κ h op args).side):aQ K κ (ew Γ W bs κ h op args):=by
 have nil:∀ {x:Value},∀ k∈(SV.v x).keys,K k:=λk hk=>by cases hk
 have hF:∀ f as_,(∀ k∈az as_,K k)->(fz Γ W bs κ h f as_).side->aQ K κ (fz Γ W bs κ h f as_):=λf as_ hxx hs=>by
  revert hs;unfold fz;split
  ·rename_i s _;exact λhs=>s.keys W bs κ h K as_ hK hxx hs
  ·exact λhf=>hf.elim
 have key:∀ (as_:List SV) (place:Nat->Option (Nat×Nat)) (zs:List Value) (idx:List Nat) (cells:List SV),(∀ k∈az as_,K k)->fw place (zs.map .v) (idx.zip as_)=some cells->∀ k∈az cells,K k:=λas_ place zs idx cells hxx hf k hk=>by
  rcases rQ hf hk with h1|h1
  ·rw[aR]at h1;cases h1
  ·exact hxx k (ade h1)
 unfold ew at *;split at hside
 ·exact aQ.plain (λk hk=>hx k (by simpa [az,R.ok] using hk)) rfl
 ·exact aQ.plain (λk hk=>hx k (by simpa [az,R.ok] using hk)) rfl
 ·revert hside;unfold jO;split
  ·intro _;refine⟨λk hk=>.inr ?_,λp hp=>?_⟩
   ·simp[R.new,SV.keys]at hk;subst hk;exact a6 κ
   ·simp[R.new]at hp;subst hp;refine⟨.inr (a6 κ),λe he k hk=>?_⟩;simp at he;subst he;simp[aZ.keys,aR]at hk
  ·exact λhf=>hf.elim
 ·revert hside;unfold yV;split
  ·rename_i x;intro _;refine⟨λk hk=>.inr ?_,λp hp=>?_⟩
   ·simp[R.new,SV.keys]at hk;subst hk;exact a6 κ
   ·simp[R.new]at hp;subst hp;refine⟨.inr (a6 κ),λe he k hk=>.inl (hx k ?_)⟩;simp at he;subst he;simp only[aZ.keys,lU]at hk;simpa [az] using hk
  ·exact λhf=>hf.elim
 ·revert hside;unfold iE;split
  ·split
   ·rename_i cells hf;exact λ_=>aQ.plain (λk hk=>key _ _ _ _ _ hx hf k (by simpa [R.ok,SV.keys] using hk)) rfl
   ·exact λhf=>hf.elim
  ·split
   ·split
    ·rename_i cells hf;exact λ_=>aQ.plain (λk hk=>key _ _ _ _ _ hx hf k (by simpa [R.ok,SV.keys] using hk)) rfl
    ·exact λhf=>hf.elim
   ·exact λhf=>hf.elim
  ·exact λhf=>hf.elim
 ·revert hside;unfold dQ;split
  ·split
   ·split
    ·rename_i cells hf;intro _;refine⟨λk hk=>.inr ?_,λp hp=>?_⟩
     ·simp[SV.keys]at hk;subst hk;exact a6 κ
     ·simp at hp;subst hp;refine⟨.inr (a6 κ),λe he k hk=>.inl ?_⟩;obtain rfl:=Option.some.inj he;exact key _ _ _ _ _ hx hf k hk
    ·exact λhf=>hf.elim
   ·exact λhf=>hf.elim
  ·exact λhf=>hf.elim
 ·revert hside;unfold dK;split
  ·split
   ·rename_i hvs;exact λ_=>aQ.plain (λk hk=>(uK hK hvs).2 k (p8 (p9 (by simpa [SV.keys] using hk)))) rfl
   ·rename_i hvs;exact λ_=>aQ.plain (λk hk=>(uK hK hvs).2 k (yx hk)) rfl
   ·exact λhf=>hf.elim
  ·split
   ·exact λ_=>aQ.plain (λk hk=>by simp[SV.keys,At]at hk) rfl
   ·exact λ_=>aQ.plain nil rfl
   ·exact λhf=>hf.elim
  ·exact λhf=>hf.elim
 ·revert hside;unfold jQ;split
  ·rename_i k o x;split
   ·rename_i sz vs hsz hvs;intro _;obtain⟨hk1,hk2⟩:=uK hK hvs;refine⟨λk hk=>(by cases hk),λp hp=>?_⟩;simp at hp;subst hp;refine⟨.inl hk1,λe he j hj=>.inl ?_⟩;have hxk:∀ j∈az (partsOf x),K j:=λj hj=>hx j (by rw[lU]at hj;simp[az,hj])
    cases hh:h k with
    |none=>simp[hh,cc]at hvs
    | some en=>
     cases en with
     |obj d R=>simp[hh,cc]at hvs
     |mp ks us=>simp[hh,cc]at hvs
     |cells T us=>
      simp[hh,sC]at he;subst he;simp[hh,cc]at hvs;subst hvs;rcases uA hj with h1|h1
      ·exact hk2 j h1
      ·exact hxk j h1
     |row T s n us=>
      simp[hh,sC]at he;subst he;simp[hh,cc]at hvs;subst hvs;rcases uA hj with h1|h1
      ·exact hk2 j h1
      ·exact hxk j h1
   ·exact λhf=>hf.elim
  ·exact λhf=>hf.elim
 ·revert hside;unfold de;split
  ·split
   ·exact λ_=>aQ.plain (by simpa [az] using hx) rfl
   ·exact λhf=>hf.elim
  ·exact λ_=>aQ.plain nil rfl
  ·exact λhf=>hf.elim
 ·revert hside;have er:∀ {op:BinOp} {p:Prop} {b:Bool} {rd:List Nat},(ep op p b rd).side->aQ K κ (ep op p b rd):=λ{op p b rd} hh=>by
   cases op<;>first|exact hh.elim|exact aQ.plain nil rfl
  unfold bR;split
  ·exact er
  ·exact er
  ·exact er
  ·exact er
  ·exact er
  ·exact er
  ·exact er
  ·exact er
  ·split
   ·exact er
   ·exact λhf=>hf.elim
  ·split
   ·exact er
   ·exact λhf=>hf.elim
  unfold a7;split
  ·split<;>exact λ_=>aQ.plain nil rfl
  ·exact λ_=>aQ.plain nil rfl
  ·split<;>first|exact λ_=>aQ.plain nil rfl|exact λhf=>hf.elim
  ·split<;>first|exact λ_=>aQ.plain nil rfl|exact λhf=>hf.elim
  ·exact λhf=>hf.elim
 ·revert hside;unfold xl;split
  ·split<;>first|exact λ_=>aQ.plain nil rfl|exact λhf=>hf.elim
  ·split<;>first|exact λ_=>aQ.plain nil rfl|exact λhf=>hf.elim
  ·exact λhf=>hf.elim
 ·revert hside;unfold iF;split
  ·rename_i k;unfold cvH;split
   ·unfold cvB;split
    ·exact λ_=>aQ.plain nil rfl
    ·exact λhf=>hf.elim
   ·exact λhf=>hf.elim
  unfold fJ;split
  ·split<;>first|exact λ_=>aQ.plain nil rfl|exact λhf=>hf.elim
  ·split<;>first|exact λ_=>aQ.plain nil rfl|exact λhf=>hf.elim
  ·exact λhf=>hf.elim
 ·revert hside;unfold oq;split
  ·exact λ_=>aQ.plain nil rfl
  ·split
   ·exact λ_=>aQ.plain nil rfl
   ·exact λ_=>aQ.plain (by simpa [az,R.iC,SV.keys] using hx) rfl
  ·exact λhf=>hf.elim
 ·rename_i first cap args
  refine aQ.plain (λk hk=>hx k ?_) rfl;simp only[R.ok,SV.keys,List.mem_append]at hk;rcases hk with hk|hk
  ·exact p9 hk
  ·exact p8 hk
 ·revert hside;unfold nT;split
  ·split
   ·split
    ·intro _;refine⟨λk hk=>.inr ?_,λp hp=>?_⟩
     ·simp[SV.keys]at hk;subst hk;exact a6 κ
     ·simp only[List.mem_singleton]at hp;subst hp;refine⟨.inr (a6 κ),λe he k hk=>?_⟩;obtain rfl:=Option.some.inj he;rw[aZ.keys,aR]at hk;cases hk
    ·exact λhf=>hf.elim
   ·exact λhf=>hf.elim
  ·exact λhf=>hf.elim
 ·revert hside;unfold fY;split
  ·rename_i mx args k r;cases hmx:mx.isSome with
   |true=>exact λhf=>hf.elim
   |false=>
   unfold agN agM;simp only;split
   ·unfold Gx;split
    ·rename_i e e' s n vs hu hkk;unfold y9;split
     ·intro _;refine⟨λj hj=>.inr (by simp only[SV.keys,List.mem_singleton]at hj;rw[hj];exact a6 κ),λq hq=>?_⟩;simp only[List.mem_cons,List.not_mem_nil,or_false]at hq;rcases hq with rfl|rfl
      ·exact⟨.inl (hK k _ hkk).1,λe he=>by cases he⟩
      ·refine⟨.inr (a6 κ),λe he j hj=>.inl ?_⟩;obtain rfl:=Option.some.inj he;obtain⟨y,hy,hiy⟩:=cl.1 hj;exact (hK k _ hkk).2 j (cl.2 ⟨y,List.mem_of_mem_take hy,hiy⟩)
     ·exact λhf=>hf.elim
    ·exact λhf=>hf.elim
   ·exact λhf=>hf.elim
  unfold dA;split
  ·split
   ·exact λ_=>aQ.plain nil rfl
   ·exact λhf=>hf.elim
  ·split
   ·unfold pM;split
    ·split
     ·exact λ_=>aQ.plain nil rfl
     ·exact λhf=>hf.elim
    ·exact λhf=>hf.elim
   ·exact λhf=>hf.elim
  ·exact λhf=>hf.elim
 ·revert hside;unfold ct;split
  ·split
   ·exact λ_=>aQ.plain (λk hk=>hx k (by simpa [az,SV.keys] using hk)) rfl
   ·exact λhf=>hf.elim
  ·split
   ·exact λ_=>aQ.plain nil rfl
   ·exact λhf=>hf.elim
  ·exact λhf=>hf.elim
 ·revert hside;unfold iG;split
  ·split
   ·exact λ_=>aQ.plain (λk hk=>hx k (by simpa [az,SV.keys] using nR hk)) (dv _ _ _ _).1
   ·exact λhf=>hf.elim
  ·split
   ·exact λ_=>aQ.plain (λk hk=>by have:=nR hk;rw[aR]at this;cases this) (dv _ _ _ _).1
   ·exact λhf=>hf.elim
  ·exact λhf=>hf.elim
 ·revert hside;unfold bG;split
  ·split
   ·exact λ_=>aQ.plain (λk hk=>hx k (by simpa [az,SV.keys] using hk)) rfl
   ·exact λhf=>hf.elim
  ·split
   ·split
    ·exact λ_=>aQ.plain (λk hk=>hx k (by simp[SV.keys]at hk;simp[az,SV.keys,hk])) rfl
    ·exact λhf=>hf.elim
   ·exact λhf=>hf.elim
  ·split
   ·split
    ·exact λ_=>aQ.plain nil rfl
    ·exact λhf=>hf.elim
   ·exact λhf=>hf.elim
  ·split
   ·split
    ·exact λ_=>aQ.plain nil rfl
    ·exact λhf=>hf.elim
   ·exact λhf=>hf.elim
  ·exact λhf=>hf.elim
 ·revert hside;unfold gH;split
  ·exact λ_=>aQ.plain nil rfl
  ·split
   ·split
    ·exact λ_=>aQ.plain (λk hk=>hx k (by simpa [az,SV.keys] using nR hk)) (dv _ _ _ _).1
    ·exact λhf=>hf.elim
   ·exact λhf=>hf.elim
  ·split
   ·split
    ·exact λ_=>aQ.plain (λk hk=>by have:=nR hk;rw[aR]at this;cases this) (dv _ _ _ _).1
    ·exact λhf=>hf.elim
   ·exact λhf=>hf.elim
  ·exact λhf=>hf.elim
 ·revert hside;unfold cS;split
  ·exact λ_=>aQ.plain (λk hk=>hx k (by simpa [az,SV.keys] using yx hk)) rfl
  ·exact λ_=>aQ.plain nil rfl
  ·exact λhf=>hf.elim
 ·revert hside;unfold eC;split
  ·rename_i t x;split
   ·split
    ·intro _;refine aQ.plain (λk hk=>hx k ?_) rfl;simp only[R.ok]at hk;split at hk<;>simp[SV.keys,az]at hk ⊢;exact hk
    ·exact λ_=>aQ.plain (λk hk=>hx k (by simpa [az,SV.keys,R.iC] using hk)) rfl
   ·exact λhf=>hf.elim
  ·split
   ·split
    ·intro _;refine aQ.plain (λk hk=>?_) rfl;simp only[R.ok]at hk;split at hk<;>simp[SV.keys,az]at hk
    ·exact λ_=>aQ.plain nil rfl
   ·exact λhf=>hf.elim
  ·split
   ·split
    ·exact λ_=>aQ.plain (λk hk=>by simp[R.ok,SV.keys,az]at hk) rfl
    ·exact λhf=>hf.elim
   ·exact λhf=>hf.elim
  ·exact λhf=>hf.elim
 ·revert hside;unfold mC;split
  ·exact λ_=>aQ.plain nil rfl
  ·exact λhf=>hf.elim
 ·split at hside
  ·revert hside;unfold jP;split
   ·exact λ_=>aQ.plain nil rfl
   ·exact λ_=>aQ.plain nil rfl
   ·split
    ·exact λ_=>aQ.plain nil rfl
    ·exact λhf=>hf.elim
   ·exact λhf=>hf.elim
  ·exact hside.elim
 ·revert hside;unfold gj;split
  ·rename_i k j;split
   ·rename_i hk hj;split
    ·intro _;refine⟨λq hq=>.inr ?_,λp hp=>?_⟩
     ·simp[SV.keys]at hq;subst hq;exact a6 κ
     ·simp at hp;rcases hp with rfl|rfl
      ·exact⟨.inl (hK _ _ hk).1,λe he=>by cases he⟩
      ·refine⟨.inr (a6 κ),λe he q hq=>.inl ?_⟩;simp at he;subst he;simp only[aZ.keys,aU,List.mem_append]at hq;rcases hq with hq|hq
       ·exact (hK _ _ hk).2 q hq
       ·exact (hK _ _ hj).2 q hq
    ·exact λhf=>hf.elim
   ·exact λhf=>hf.elim
  ·split
   ·rename_i hj;split
    ·split
     ·intro _;refine⟨λq hq=>.inr ?_,λp hp=>?_⟩
      ·simp[SV.keys]at hq;subst hq;exact a6 κ
      ·simp at hp;subst hp;refine⟨.inr (a6 κ),λe he q hq=>.inl ?_⟩;simp at he;subst he;exact (hK _ _ hj).2 q hq
     ·exact λhf=>hf.elim
    ·exact λhf=>hf.elim
   ·exact λhf=>hf.elim
  ·rename_i k ao m c;split
   ·rename_i hk;cases hm0:(m == 0) with
    |true=>
     simp only[cond_true];exact λ_=>aQ.plain (λq hq=>hx q (by simp[SV.keys]at hq;simp[az,SV.keys,hq])) rfl
    | false=>
     simp only[cond_false];split
     ·intro _;refine⟨λq hq=>.inr ?_,λp hp=>?_⟩
      ·simp[SV.keys]at hq;subst hq;exact a6 κ
      ·simp at hp;rcases hp with rfl|rfl
       ·exact⟨.inl (hK _ _ hk).1,λe he=>by cases he⟩
       ·refine⟨.inr (a6 κ),λe he q hq=>.inl ?_⟩;simp at he;subst he;simp only[aZ.keys,aU,List.mem_append,oL]at hq;rcases hq with hq|hq
        ·exact (hK _ _ hk).2 q hq
        ·cases hq
     ·exact λhf=>hf.elim
   ·exact λhf=>hf.elim
  ·split
   ·rename_i hk;split
    ·intro _;refine⟨λq hq=>.inr ?_,λp hp=>?_⟩
     ·simp[SV.keys]at hq;subst hq;exact a6 κ
     ·simp at hp;rcases hp with rfl|rfl
      ·exact⟨.inl (hK _ _ hk).1,λe he=>by cases he⟩
      ·refine⟨.inr (a6 κ),λe he q hq=>.inl ?_⟩;simp at he;subst he;simp only[aZ.keys,aU,List.mem_append,aR]at hq;rcases hq with hq|hq
       ·exact (hK _ _ hk).2 q hq
       ·cases hq
    ·exact λhf=>hf.elim
   ·exact λhf=>hf.elim
  ·exact λhf=>hf.elim
 ·revert hside;unfold uY;split
  ·split<;>first|exact λ_=>aQ.plain nil rfl|exact λhf=>hf.elim
  ·exact λhf=>hf.elim
 ·revert hside;unfold sB;split
  ·split<;>first|exact λ_=>aQ.plain nil rfl|exact λhf=>hf.elim
  ·exact λhf=>hf.elim
 ·revert hside;unfold lX;split
  ·refine λhs=>hF _ _ (λk hk=>hx k ?_) hs
   simp only[aU,List.mem_append]at hk;simp only[az,SV.keys,List.mem_append];rcases hk with (hk|hk)|hk
   ·exact .inl (.inl hk)
   ·exact .inr hk
   ·exact .inl (.inr hk)
  ·refine λhs=>hF _ _ (λk hk=>hx k ?_) hs
   simp only[aU,List.mem_append,aR]at hk;simp only[az,SV.keys,List.mem_append];rcases hk with (hk|hk)|hk
   ·cases hk
   ·exact .inr hk
   ·cases hk
  ·exact λhf=>hf.elim
 ·revert hside;unfold aI;split
  ·split
   ·exact λhs=>hF _ _ (by simpa [az,SV.keys] using hx) hs
   ·exact λhf=>hf.elim
  ·split
   ·exact λhs=>hF _ _ (by simpa [az,SV.keys] using hx) hs
   ·exact λhf=>hf.elim
  ·exact λhf=>hf.elim
 ·revert hside;unfold kC;split
  ·intro _;refine⟨λk hk=>.inr ?_,λp hp=>?_⟩
   ·simp[R.new,SV.keys]at hk;subst hk;exact a6 κ
   ·simp[R.new]at hp;subst hp;refine⟨.inr (a6 κ),λe he k hk=>?_⟩;simp at he;subst he;simp[aZ.keys,az]at hk
  ·exact λhf=>hf.elim
 ·revert hside;unfold jm;split
  ·rename_i k s;unfold HM;split
   ·rename_i et ks vs h1 h2;unfold lkE;split
    ·intro _;refine aQ.plain (λj hj=>?_) rfl;exact (hK k _ h2).2 j (aaj hj)
    ·exact λhf=>hf.elim
   ·exact λhf=>hf.elim
  ·exact λhf=>hf.elim
 ·revert hside;unfold eD;split
  ·rename_i k s x;unfold upM;split
   ·rename_i h1 h2;intro _;refine⟨λj hj=>(by cases hj),λp hp=>?_⟩;simp only[List.mem_singleton]at hp;subst hp;refine⟨.inl (hK k _ h2).1,λe he j hj=>.inl ?_⟩;obtain rfl:=Option.some.inj he;simp only[aZ.keys,aU,List.mem_append]at hj;rcases hj with hj|hj
    ·exact (hK k _ h2).2 j hj
    ·exact hx j (by simp only[az,SV.keys,List.mem_append,List.not_mem_nil,or_false,false_or]at hj ⊢;exact .inr hj)
   ·exact λhf=>hf.elim
  ·exact λhf=>hf.elim
 ·revert hside;unfold eD;split
  ·rename_i k s x;unfold upM;split
   ·rename_i h1 h2;intro _;refine⟨λj hj=>(by cases hj),λp hp=>?_⟩;simp only[List.mem_singleton]at hp;subst hp;refine⟨.inl (hK k _ h2).1,λe he j hj=>.inl ?_⟩;obtain rfl:=Option.some.inj he;simp only[aZ.keys,aU,List.mem_append]at hj;rcases hj with hj|hj
    ·exact (hK k _ h2).2 j hj
    ·exact hx j (by simp only[az,SV.keys,List.mem_append,List.not_mem_nil,or_false,false_or]at hj ⊢;exact .inr hj)
   ·exact λhf=>hf.elim
  ·exact λhf=>hf.elim
 ·exact hside.elim
theorem agJ(op:Op)(args:List SV)(h' : Nat->Option aZ)(hside:(ew Γ W bs κ h op args).side)(hr:∀ k∈(ew Γ W bs κ h op args).reads,h' k=h k) :
  ew Γ W bs κ h' op args=ew Γ W bs κ h op args:=by
 have hF:∀ f as_,(fz Γ W bs κ h f as_).side->(∀ k∈(fz Γ W bs κ h f as_).reads,h' k=h k)->fz Γ W bs κ h' f as_=fz Γ W bs κ h f as_:=λf as_=>by
  unfold fz;split
  ·rename_i s _;exact λhs hr=>s.loc W bs κ h h' as_ hs hr
  ·exact λhf=>hf.elim
 revert hside hr;unfold ew;split
 case h_7=>
  unfold dK;split
  ·rename_i k o;split
   ·rename_i h1 h2 h3;intro _ hr;have:=hr k sI;rw[this,h1,h2,h3]
   ·rename_i h1 h2 h3;intro _ hr;have:=hr k sI;rw[this,h1,h2,h3]
   ·exact λhf=>hf.elim
  ·exact λ_ _=>rfl
  ·exact λhf=>hf.elim
 case h_16 _ T _ lo hi mx=>
  unfold fY;split
  ·rename_i k r;cases mx.isSome with
   |true=>exact λhf=>hf.elim
   |false=>
   unfold agN agM;simp only;split
   ·rename_i ik b;cases hk:h k with
    |none=>
     cases P.underlying T with
     |none=>exact λhf=>hf.elim
     |some d=>cases d<;>exact λhf=>hf.elim
    | some e=>
     intro hs hr;have:h' k=h k:=by
      refine hr k ?_;revert hs;unfold Gx;split
      ·unfold y9;split
       ·exact λ_=>by simp
       ·exact λhf=>hf.elim
      ·exact λhf=>hf.elim
     rw[this,hk]
   ·exact λhf=>hf.elim
  ·exact λ_ _=>rfl
 case h_12=>
  unfold iF;split
  ·rename_i k;cases hk:h k with
   |none=>exact λhf=>hf.elim
   | some e=>
    cases hk' : (some e:Option aZ) with
    |none=>cases hk'
    | some e' =>
     obtain rfl:=Option.some.inj hk';intro hs hr;have:h' k=h k:=by
      refine hr k ?_;revert hs;unfold cvH;split
      ·unfold cvB;split
       ·exact λ_=>by simp
       ·exact λhf=>hf.elim
      ·exact λhf=>hf.elim
     rw[this,hk]
  ·exact λ_ _=>rfl
 case h_10 op T X Y T2 args=>
  unfold bR;have rd:∀ {op:BinOp} {p:Prop} {b:Bool} {k:Nat},(ep op p b [k]).side->(ep op p b [k]).reads=[k]:=λ{op p b k} hh=>by
   cases op<;>first|exact hh.elim|rfl
  split
  ·exact λ_ _=>rfl
  ·exact λ_ _=>rfl
  ·exact λ_ _=>rfl
  ·exact λ_ _=>rfl
  ·exact λ_ _=>rfl
  ·exact λ_ _=>rfl
  ·exact λ_ _=>rfl
  ·exact λ_ _=>rfl
  ·split
   ·rename_i h3;intro hs hr;rw[rd hs]at hr;rw[hr _ (List.mem_singleton.2 rfl),h3]
   ·exact λhf=>hf.elim
  ·split
   ·rename_i h3;intro hs hr;rw[rd hs]at hr;rw[hr _ (List.mem_singleton.2 rfl),h3]
   ·exact λhf=>hf.elim
  ·exact λ_ _=>rfl
 case h_8=>
  unfold jQ;split
  ·rename_i k o x;split
   ·rename_i h1 h2;intro _ hr;have:=hr k sI;rw[this,h1,h2]
   ·exact λhf=>hf.elim
  ·exact λhf=>hf.elim
 case h_9=>
  unfold de;split
  ·rename_i k o;split
   ·rename_i h1;intro _ hr;have:=hr k sI;rw[this,h1]
   ·exact λhf=>hf.elim
  ·exact λ_ _=>rfl
  ·exact λhf=>hf.elim
 case h_17=>
  unfold ct;split
  ·rename_i k o;split
   ·rename_i h1 h2;intro _ hr;have:=hr k sI;rw[this,h1,h2]
   ·exact λhf=>hf.elim
  ·exact λ_ _=>rfl
  ·exact λhf=>hf.elim
 case h_19=>
  unfold bG;split
  ·rename_i k _ _;split
   ·rename_i h1 h2;intro _ hr;have:=hr k sI;rw[this,h1,h2]
   ·exact λhf=>hf.elim
  ·rename_i k _ _ _;split
   ·rename_i h1 h2;split
    ·rename_i h3;intro _ hr;have:=hr k sI;rw[this,h1,h2];simp only[h3]
    ·exact λhf=>hf.elim
   ·exact λhf=>hf.elim
  ·exact λ_ _=>rfl
  ·exact λ_ _=>rfl
  ·exact λhf=>hf.elim
 case h_24=>
  split
  ·unfold jP;split
   ·exact λ_ _=>rfl
   ·exact λ_ _=>rfl
   ·rename_i k;split
    ·rename_i h1;intro _ hr;have:=hr k sI;rw[this,h1]
    ·exact λhf=>hf.elim
   ·exact λhf=>hf.elim
  ·exact λhf=>hf.elim
 case h_25=>
  unfold gj;split
  ·rename_i k j;split
   ·rename_i h1 h2 h3;split
    ·rename_i h4 h5;intro _ hr;have e1:=hr k sI;have e2:=hr j sI;rw[e1,e2];simp only[h1,h2,h3,h4,h5]
    ·exact λhf=>hf.elim
   ·exact λhf=>hf.elim
  ·rename_i j;split
   ·rename_i h1 h2;split
    ·rename_i h3;split
     ·rename_i h4 h5;intro _ hr;have e2:=hr j sI;rw[e2];simp only[h1,h2,h3,h4,h5]
     ·exact λhf=>hf.elim
    ·exact λhf=>hf.elim
   ·exact λhf=>hf.elim
  ·rename_i k ao m _;split
   ·rename_i h1 h2;cases hm0:(m == 0) with
    |true=>
     intro _ hr;have e1:=hr k sI;rw[e1];simp only[h1,h2,cond_true]
    | false=>
     simp only[cond_false];split
     ·rename_i h4 h5;intro _ hr;have e1:=hr k sI;rw[e1];simp only[h1,h2,h4,h5,cond_false]
     ·exact λhf=>hf.elim
   ·exact λhf=>hf.elim
  ·rename_i k _;split
   ·rename_i h1 h2;split
    ·rename_i h4 h5;intro _ hr;have e1:=hr k sI;rw[e1];simp only[h1,h2,h4,h5]
    ·exact λhf=>hf.elim
   ·exact λhf=>hf.elim
  ·exact λhf=>hf.elim
 case h_28=>
  unfold lX;split
  ·exact hF _ _
  ·exact hF _ _
  ·exact λhf=>hf.elim
 case h_29=>
  unfold aI;split
  ·split
   ·exact hF _ _
   ·exact λhf=>hf.elim
  ·split
   ·exact hF _ _
   ·exact λhf=>hf.elim
  ·exact λhf=>hf.elim
 case h_31=>
  unfold jm;split
  ·rename_i k s;unfold HM;split
   ·rename_i h1 h2;unfold lkE;split
    ·rename_i h3;intro _ hr;have:=hr k sI;rw[this];simp only[h1,h2,h3]
    ·exact λhf=>hf.elim
   ·exact λhf=>hf.elim
  ·exact λhf=>hf.elim
 case h_32=>
  unfold eD;split
  ·rename_i k s x;unfold upM;split
   ·rename_i h1 h2;intro _ hr;have:=hr k sI;rw[this];simp only[h1,h2]
   ·exact λhf=>hf.elim
  ·exact λhf=>hf.elim
 case h_33=>
  unfold eD;split
  ·rename_i k s x;unfold upM;split
   ·rename_i h1 h2;intro _ hr;have:=hr k sI;rw[this];simp only[h1,h2]
   ·exact λhf=>hf.elim
  ·exact λhf=>hf.elim
 all_goals exact λ_ _=>rfl
end
abbrev Fr:=Nat->FV
abbrev Hp:=Nat->Option aZ
def pQ(φ:Fr)(w:Bool):Operand->Prop×SV
 |.tmp t=>match φ t with
  |.is x=>(True,x)
  |.cnd b x=>(w=true->b=true,x)
  |.any=>(w=false,.v undef)
 |.const v=>(True,.v v)
 |.global g=>(True,.v (.pointer (some ⟨g,0,none⟩)))
 |.func f=>(True,.v (.func (.func f) #[] #[]))
def rv(φ:Fr)(w:Bool):List Operand->Prop×List SV
 |[]=>(True,[])
 |o::r=>((pQ φ w o).1/\(rv φ w r).1,(pQ φ w o).2::(rv φ w r).2)
def kp(φ:Fr)(ops:Array Oper):Option (Nat×Bool)->Prop×Bool
 |none=>(True,true)
 | some (j,want)=>match (ops[j]?).bind (·.dst) with
  |some d=>match φ d with
   |.is (.v (.bool b))=>(True,b == want)
   |.cnd c (.v (.bool b))=>(True,c&&(b == want))
   |_=>(False,false)
  |none=>(False,false)
def wY(unguarded:Bool)(w:Bool)(x:SV):FV:=match unguarded,w with
 |true,_=>.is x
 |false,w=>.cnd w x
def w7(c:Bool):SV->SV->SV
 |.v (.bool a),.v (.bool b)=>.v (.bool (bif c then a else b))
 |.v a,.v b=>.v (bif c then a else b)
 |x,y=>bif c then x else y
structure S where
 side:Prop
 fv:FV
 bu:List (Nat×Option aZ)
 pan:Option (List PanicEntry)
 pupd:List Nat
 reads:List Nat
 uk:List Nat
def cq{α:Type}(u:List (Nat×α)):List Nat:=u.map (·.1)
def step{P:Program}(Γ:Env P)(W:World)(bs:List Nat)(nt:Nat)(ops:Array Oper)(κ:Nat)(φ:Fr)(h:Hp)(o:Oper):S:=
 let g:=kp φ ops o.guard
 match o.op with
 | .pick c a b=>
  let ec:=pQ φ g.2 c
  match ec.2 with
  |.v (.bool cb)=>
   let ea:=pQ φ (g.2&&cb) a
   let eb:=pQ φ (g.2&&!cb) b
   { side:=g.1/\ec.1/\(cb=true->ea.1)/\(cb=false->eb.1)/\(∀ d,o.dst=some d->d<nt),fv:=wY o.guard.isNone g.2 (w7 cb ea.2 eb.2),bu:=[],pan:=none,pupd:=[],reads:=[],uk:=[] }
  |_=>{ side:=False,fv:=.any,bu:=[],pan:=none,pupd:=[],reads:=[],uk:=[] }
 |op=>
  let e:=rv φ g.2 op.operands.toList
  let r:=ew Γ W bs κ h op e.2
  { side:=g.1/\e.1/\(g.2=true->r.side)/\(∀ d,o.dst=some d->d<nt),fv:=wY o.guard.isNone g.2 r.val,bu:=bif g.2 then r.bu else [],pan:=bif g.2 then r.pan else none,pupd:=r.pupd,reads:=r.reads,uk:=cq r.bu }
def pD(φ:Fr)(d:Option Nat)(x:FV):Fr:=match d with
 |some d=>bu φ d x
 |none=>φ
section
variable {P:Program}{W:World}{bs:List Nat}{κ:Nat}{E:Nat->Value}{F:Nat->List Nat}{h:Hp}{w:World}{K:Nat->Prop}(Γ:Env P)
def jw(E:Nat->Value)(φ:Fr)(a:Act):Prop:=∀ t,fits E (φ t) (a.tmps.getD t undef)
theorem wh{φ:Fr}{a:Act}{x:Operand}{g:Bool}(hf:jw E φ a)(hg:g=true)(h1:(pQ φ g x).1):a.eval x=den E (pQ φ g x).2:=by
 subst hg;cases x with
 |tmp t=>
  have:=hf t;simp only[pQ]at h1 ⊢;simp only[Act.eval];revert h1 this;cases φ t with
  |is y=>intro h1 _;exact h1
  |cnd b y=>intro h1 h2;simp only[fits,h2 trivial,cond_true]at h1;exact h1
  |any=>intro _ hf;cases hf
 |const v=>rfl
 |global g=>rfl
 |func f=>simp[pQ,Act.eval,den,ai]
theorem Sm{φ:Fr}{a:Act}{g:Bool}(hf:jw E φ a)(hg:g=true):∀ {l:List Operand},(rv φ g l).1->l.map a.eval=ai E (rv φ g l).2
 |[],_=>rfl
 |x::r,h=>by simp only[rv]at h ⊢;simp only[List.map_cons,ai,wh hf hg h.1,Sm hf hg h.2]
theorem Hw{φ:Fr}{a:Act}{ops:Array Oper}{o:Oper}(hf:jw E φ a)(h1:(kp φ ops o.guard).1):Region.wanted o (yielded ops a.tmps)=(kp φ ops o.guard).2:=by
 unfold Region.wanted;cases hg:o.guard with
 |none=>rfl
 | some p=>
  obtain⟨j,want⟩:=p;rw[hg]at h1;simp only[kp]at h1 ⊢;unfold yielded;revert h1;cases hd:(ops[j]?).bind (·.dst) with
  |none=>exact λhf=>hf.elim
  | some d=>
   simp only[Option.bind_some];have hfd:=hf d;rw[Array.getD_eq_getD_getElem?]at hfd;split
   ·rename_i b hb;rw[hb]at hfd;simp only[fits,den]at hfd;intro _;cases ht:a.tmps[d]? with
    |none=>rw[ht]at hfd;cases hfd
    |some v=>rw[ht]at hfd;simp only[Option.getD_some]at hfd;subst hfd;cases b<;>cases want<;>rfl
   ·rename_i c b hb;rw[hb]at hfd;simp only[fits,den]at hfd;intro _;cases c with
    |true=>
     simp only[cond_true]at hfd;cases ht:a.tmps[d]? with
     |none=>rw[ht]at hfd;cases hfd
     |some v=>rw[ht]at hfd;simp only[Option.getD_some]at hfd;subst hfd;cases b<;>cases want<;>rfl
    |false=>
     simp only[cond_false]at hfd;cases ht:a.tmps[d]? with
     |none=>rfl
     |some v=>rw[ht]at hfd;simp only[Option.getD_some]at hfd;subst hfd;rfl
   ·exact λhf=>hf.elim
theorem jw.put{φ:Fr}{a:Act}{d:Option Nat}{x:FV}{v:Value}(hf:jw E φ a)(hd:∀ i,d=some i->i<a.tmps.size)(hx:fits E x v):jw E (pD φ d x) (a.put d v):=by
 cases d with
 |none=>exact hf
 | some i=>
  intro t;have hi:=hd i rfl;simp only[pD,Act.put];by_cases ht:t=i
  ·subst ht;rw[ah,Array.getD_eq_getD_getElem?,Array.getElem?_setIfInBounds_self_of_lt hi];exact hx
  ·rw[al _ _ ht,Array.getD_eq_getD_getElem?,Array.getElem?_setIfInBounds_ne (Ne.symm ht),<- Array.getD_eq_getD_getElem?];exact hf t
theorem jw.congr{E' : Nat->Value}{φ:Fr}{a:Act}(hf:jw E φ a)(hk:∀ t,∀ k∈(φ t).keys,E k=E' k):jw E' φ a:=λt=>O4 (hk t) (hf t)
theorem tK{ug g:Bool}{x:SV}{v:Value}(hu:ug=true->g=true)(hv:v=bif g then den E x else undef):fits E (wY ug g x) v:=by
 cases ug<;>cases g<;>simp[wY,fits]at *<;>exact hv
theorem yI{ug g:Bool}{x:SV}{k:Nat}(hu:ug=true->g=true)(hk:k∈(wY ug g x).keys):g=true/\k∈x.keys:=by
 cases ug<;>cases g<;>simp[wY,FV.keys]at *<;>exact hk
def n7(K:Nat->Prop)(φ:Fr):Prop:=∀ t,∀ k∈(φ t).keys,K k
theorem BN{φ:Fr}{g:Bool}{x:Operand}{k:Nat}(hF:n7 K φ)(hg:g=true)(h1:(pQ φ g x).1)(hk:k∈(pQ φ g x).2.keys):K k:=by
 subst hg;cases x with
 |tmp t=>
  have:=hF t k;simp only[pQ]at hk h1;revert hk this h1;cases φ t with
  |is y=>exact λth hk _=>th hk
  |cnd b y=>exact λth hk hb=>th (by simp only[FV.keys,hb trivial];exact hk)
  |any=>exact λ_ hk _=>by cases hk
 |const v=>cases hk
 |global g=>cases hk
 |func f=>simp[pQ,SV.keys,az]at hk
theorem BM{φ:Fr}{g:Bool}{k:Nat}(hF:n7 K φ)(hg:g=true):∀ {l:List Operand},(rv φ g l).1->k∈az (rv φ g l).2->K k
 |[],_,hk=>by cases hk
 |x::r,h1,hk=>by
  simp only[rv,az,List.mem_append]at hk h1;rcases hk with hk|hk
  ·exact BN hF hg h1.1 hk
  ·exact BM hF hg h1.2 hk
theorem UM(E:Nat->Value)(c:Bool)(x y:SV):den E (w7 c x y)=bif c then den E x else den E y:=by
 unfold w7;split<;>cases c<;>rfl
theorem PX{c:Bool}{x y:SV}{k:Nat}(hk:k∈(w7 c x y).keys):(c=true/\k∈x.keys)\/(c=false/\k∈y.keys):=by
 unfold w7 at hk;split at hk
 ·cases hk
 ·cases hk
 ·cases c
  ·exact .inr ⟨rfl,hk⟩
  ·exact .inl ⟨rfl,hk⟩
theorem agU{nt:Nat}{ops:Array Oper}{φ:Fr}{o:Oper}{a:Act}{i:Nat}(hi:ops[i]?=some o)(hF:jw E φ a)(hs:aj W bs E F h w)(hnt:a.tmps.size=nt)(hKF:n7 K φ)(hK:bU K h)(hk:∀ k,k / 8=κ->¬ K k)
  (hside:(step Γ W bs nt ops κ φ h o).side) {Q:Exit->Act->World->Prop} {next:Act->World->Prop}
  (hnext:(step Γ W bs nt ops κ φ h o).pan=none->∀ a' w' E' F',(∀ k,k / 8≠κ->E' k=E k)->jw E' (pD φ o.dst (step Γ W bs nt ops κ φ h o).fv) a' -> aj W bs E' F' (ba h (step Γ W bs nt ops κ φ h o).bu) w' -> a'.tmps.size=nt->a'.defers=a.defers->next a' w')
  (hpan:∀ c,(step Γ W bs nt ops κ φ h o).pan=some c->∀ w' F',aj W bs E F' (dropKeys h (step Γ W bs nt ops κ φ h o).pupd) w' -> Q (.panic c) a w') :
  wpOp P ops Q i next a w:=by
 have putsize:∀ v,(a.put o.dst v).tmps.size=a.tmps.size/\(a.put o.dst v).defers=a.defers:=λv=>by cases o.dst<;>simp[Act.put]
 unfold wpOp;simp only[hi];by_cases hpk:∃ c x y,o.op=.pick c x y
 ·obtain⟨c,x,y,hop⟩:=hpk;simp only[step,hop]at hside hnext hpan;revert hside hnext hpan;split
  ·rename_i cb hcb;rintro⟨hg,hc,ha,hb,hd⟩ hnext hpan;have hwant:=Hw hF hg;rw[hwant];cases hgv:(kp φ ops o.guard).2 with
   |false=>
    simp only[Bool.false_eq_true,if_false];refine hnext rfl (a.put o.dst undef) w E F (λ_ _=>rfl) (hF.put (λi hi=>hnt ▸ hd i hi) (tK (λh=>?_) (by rw[hgv];rfl))) hs (by rw[(putsize _).1,hnt]) (putsize _).2;cases hgd:o.guard with
    |none=>rw[hgd]at hgv;cases hgv
    |some p=>rw[hgd]at h;cases h
   | true=>
    simp only[if_true];left;refine Ez ?_;rw[hgv]at hc hcb;have hcv:a.eval c=.bool cb:=by rw[wh hF rfl hc,hcb];rfl
    have hval:(execOp a.eval o).run P w=.ok (.value (if cb then a.eval x else a.eval y)) w:=by
     simp[execOp,hop,hcv,asBool]
    rw[hval];simp only[oS];refine hnext rfl _ w E F (λ_ _=>rfl) (hF.put (λi hi=>hnt ▸ hd i hi) (tK (λ_=>by rw[hgv]) ?_)) hs (by rw[(putsize _).1,hnt]) (putsize _).2;rw[hgv,cond_true,UM];cases cb with
    |true=>rw[hgv]at ha;simp only[if_true,cond_true,Bool.and_self];exact wh hF rfl (ha rfl)
    |false=>rw[hgv]at hb;simp only[Bool.false_eq_true,if_false,cond_false,Bool.not_false,Bool.and_self];exact wh hF rfl (hb rfl)
  ·exact λhf=>hf.elim
 ·have hst:step Γ W bs nt ops κ φ h o={ side:=(kp φ ops o.guard).1/\(rv φ (kp φ ops o.guard).2 o.op.operands.toList).1/\((kp φ ops o.guard).2=true->(ew Γ W bs κ h o.op (rv φ (kp φ ops o.guard).2 o.op.operands.toList).2).side)/\(∀ d,o.dst=some d->d<nt),fv:=wY o.guard.isNone (kp φ ops o.guard).2 (ew Γ W bs κ h o.op (rv φ (kp φ ops o.guard).2 o.op.operands.toList).2).val,bu:=bif (kp φ ops o.guard).2 then (ew Γ W bs κ h o.op (rv φ (kp φ ops o.guard).2 o.op.operands.toList).2).bu else [],pan:=bif (kp φ ops o.guard).2 then (ew Γ W bs κ h o.op (rv φ (kp φ ops o.guard).2 o.op.operands.toList).2).pan else none,pupd:=(ew Γ W bs κ h o.op (rv φ (kp φ ops o.guard).2 o.op.operands.toList).2).pupd,reads:=(ew Γ W bs κ h o.op (rv φ (kp φ ops o.guard).2 o.op.operands.toList).2).reads,uk:=cq (ew Γ W bs κ h o.op (rv φ (kp φ ops o.guard).2 o.op.operands.toList).2).bu }:=by
   unfold step;split
   ·rename_i c x y hop;exact absurd ⟨c,x,y,hop⟩ hpk
   ·rfl
  rw[hst]at hside hnext hpan;obtain⟨hg,he,hr,hd⟩:=hside;have hwant:=Hw hF hg;rw[hwant];cases hgv:(kp φ ops o.guard).2 with
  |false=>
   simp only[Bool.false_eq_true,if_false];simp only[hgv,cond_false]at hnext;refine hnext trivial (a.put o.dst undef) w E F (λ_ _=>rfl) (hF.put (λi hi=>hnt ▸ hd i hi) (tK (λh=>?_) rfl)) hs (by rw[(putsize _).1,hnt]) (putsize _).2;cases hgd:o.guard with
   |none=>rw[hgd]at hgv;cases hgv
   |some p=>rw[hgd]at h;cases h
  | true=>
   simp only[if_true];left;refine Ez ?_;simp only[hgv,cond_true]at hnext hpan hr he;have hgood:=ab1 Γ o a.eval _ (Sm hF rfl he) hs hK hk (λk hk=>BM hKF rfl he hk) (hr trivial);refine oS.mono hgood (λv w' hv=>?_) (λc w' hc=>?_)
   ·obtain⟨hp,E',F',hE,hv,hs'⟩:=hv;refine hnext hp (a.put o.dst v) w' E' F' hE ((hF.congr λt k hkk=>(hE k λe=>hk k e (hKF t k hkk)).symm).put (λi hi=>hnt ▸ hd i hi) (tK (λ_=>rfl) hv)) hs' (by rw[(putsize _).1,hnt]) (putsize _).2
   ·obtain⟨hp,F',hs'⟩:=hc;exact hpan c hp w' F' hs'
end
theorem ac8{α:Type}(f:Nat->α){i j:Nat}(x y:α)(h:i≠j):bu (bu f i x) j y=bu (bu f j y) i x:=by
 funext k
 simp only[bu];split<;>split<;>first|rfl|(exfalso;omega)
theorem NA{α:Type}(f:Nat->α){i:Nat}(x:α):∀ {v:List (Nat×α)},i∉cq v->ba (bu f i x) v=bu (ba f v) i x
 |[],_=>rfl
 |(j,y)::r,h=>by
  simp only[cq,List.map_cons,List.mem_cons,not_or]at h;simp only[ba];rw[ac8 f x y h.1];exact NA (bu f j y) x (by simpa [cq] using h.2)
theorem GX{α:Type}(f:Nat->α):∀ {u v:List (Nat×α)},(∀ k∈cq u,k∉cq v)->ba (ba f u) v=ba (ba f v) u
 |[],v,_=>rfl
 |(i,x)::r,v,h=>by
  simp only[ba];rw[GX (bu f i x) (λk hk=>h k (by simp[cq]at hk ⊢;exact .inr hk)),NA f x (h i (by simp[cq]))]
theorem s6{α:Type}(f:Nat->α){k:Nat}:∀ {u:List (Nat×α)},k∉cq u->ba f u k=f k
 |[],_=>rfl
 |(i,x)::r,h=>by
  simp only[cq,List.map_cons,List.mem_cons,not_or]at h;simp only[ba];rw[s6 _ (by simpa [cq] using h.2),al _ _ h.1]
def bB{α:Type}:List (List (Nat×α))->Nat->(Nat->Bool)->(Nat->α)->(Nat->α)
 |[],_,_,f=>f
 |u::r,i,S,f=>bB r (i+1) S (if S i then ba f u else f)
theorem kh{α:Type}{k:Nat}:∀ {l:List (List (Nat×α))} {n:Nat} {S S' : Nat->Bool} {f f' : Nat->α},f k=f' k->(∀ i u,l[i]?=some u->k∈cq u->S (n+i)=S' (n+i))->bB l n S f k=bB l n S' f' k
 |[],_,_,_,_,_,hf,_=>hf
 | u::r,n,S,S',f,f',hf,h=>by
  simp only[bB];refine kh (l:=r) ?_ (λi v hi hk=>?_)
  ·by_cases hk:k∈cq u
   ·have h0:=h 0 u rfl hk;simp only[Nat.add_zero]at h0;rw[h0];split
    ·have:∀ (g g' : Nat->α) (u:List (Nat×α)),g k=g' k->ba g u k=ba g' u k:=by
      intro g g' u
      induction u generalizing g g' with
      |nil=>exact λh=>h
      |cons p q ih=>intro hg;simp only[ba];exact ih _ _ (by simp only[bu];split<;>first|rfl|exact hg)
     exact this _ _ _ hf
    ·exact hf
   ·have e1:(if S n then ba f u else f) k=f k:=by split;exact s6 f hk;rfl
    have e2:(if S' n then ba f' u else f') k=f' k:=by split;exact s6 f' hk;rfl
    rw[e1,e2,hf]
  ·have:=h (i+1) v (by simpa using hi) hk
   rwa [show n+(i+1)=n+1+i by omega]at this
theorem Fz{α:Type}{u:List (Nat×α)}:∀ {l:List (List (Nat×α))} {n:Nat} {S:Nat->Bool} {f:Nat->α},(∀ i v,l[i]?=some v->S (n+i)=true->∀ k∈cq u,k∉cq v)->bB l n S (ba f u)=ba (bB l n S f) u
 |[],_,_,_,_=>rfl
 | v::r,n,S,f,h=>by
  simp only[bB];have e:(if S n then ba (ba f u) v else ba f u)=ba (if S n then ba f v else f) u:=by
   split
   ·rename_i hS;exact GX f (h 0 v rfl (by simpa using hS))
   ·rfl
  rw[e];exact Fz (l:=r) λi v' hi hS=>h (i+1) v' (by simpa using hi) (by rwa [show n+(i+1)=n+1+i by omega])
theorem J9{α:Type}:∀ {l:List (List (Nat×α))} {n:Nat} {S S' : Nat->Bool} {f:Nat->α},(∀ i,n<=i->S i=S' i)->bB l n S f=bB l n S' f
 |[],_,_,_,_,_=>rfl
 |u::r,n,S,S',f,h=>by
  simp only[bB,h n (Nat.le_refl n)];exact J9 λi hi=>h i oM
theorem uH{α:Type}{u:List (Nat×α)}{j:Nat}:∀ {l:List (List (Nat×α))} {n:Nat} {S S' : Nat->Bool} {f:Nat->α},n<=j->l[j-n]?=some u->S j=false->S' j=true->(∀ i,i≠j->S' i=S i) ->
  (∀ i v,j<i->l[i-n]?=some v->S i=true->∀ k∈cq u,k∉cq v)->bB l n S' f=ba (bB l n S f) u
 |[],n,S,S',f,_,hu,_,_,_,_=>by simp at hu
 | v::r,n,S,S',f,hn,hu,hS,hS',hne,h=>by
  simp only[bB];by_cases hj:n=j
  ·subst hj;simp only[Nat.sub_self,List.getElem?_cons_zero,Option.some.injEq]at hu;subst hu;simp only[hS',hS,if_true,Bool.false_eq_true,if_false];rw[J9 (S:=S') (S' := S) λi hi=>hne i oM];refine Fz λi v' hi hSi=>h (n+1+i) v' oM ?_ hSi
   rw[show n+1+i-n=i+1 by omega];simpa using hi
  ·rw[hne n hj];refine uH oM ?_ hS hS' hne λi v' hji hi hSi=>h i v' hji ?_ hSi
   ·rw[show j-n=(j-(n+1))+1 by omega]at hu;simpa using hu
   ·rw[show i-n=(i-(n+1))+1 by omega];simpa using hi
inductive Reach (ops:Array Oper):Nat->Nat->Prop where
 |edge {i j:Nat} {o:Oper} {e:Edge} (ho:ops[j]?=some o) (he:e∈o.after) (hb:Region.binds .any e=true) (hi:e.on=i):Reach ops i j
 |trans {i m j:Nat}:Reach ops i m->Reach ops m j->Reach ops i j
theorem FY{α β:Type}(p:β->Prop)(f:β->α->β):∀ (l:List α) (b:β),p b->(∀ b a,a∈l->p b->p (f b a))->p (l.foldl f b)
 |[],b,hb,_=>hb
 |a::l,b,hb,h=>FY p f l (f b a) (h b a sI hb) λb' a' ha' => h b' a' (by simp[ha'])
theorem oV(ops:Array Oper):∀ (l:List Oper) (k:Nat) (acc:Array Nat),acc.size=k->(∀ j,l[j]?=ops[k+j]?)->(∀ i j,(acc.getD j 0).testBit i=true->Reach ops i j) ->
  ∀ i j,((l.foldl (λacc (o:Oper)=>acc.push (o.after.foldl (λs e=>if Region.binds .any e then s ||| 2 ^ e.on ||| acc.getD e.on 0 else s) 0)) acc).getD j 0).testBit i=true->Reach ops i j
 |[],k,acc,_,_,hacc=>hacc
 | o::l,k,acc,hsz,hl,hacc=>by
  simp only[List.foldl_cons];refine oV ops l (k+1) _ (by simp[hsz]) (λj=>by have:=hl (j+1);simp only[List.getElem?_cons_succ]at this;rw[this];congr 1;omega) ?_;intro i j hij;have ho:ops[k]?=some o:=by simpa using (hl 0).symm
  by_cases hjk:j=k
  ·subst hjk;rw[Array.getD_eq_getD_getElem?,<- hsz,Array.getElem?_push_size]at hij;simp only[Option.getD_some]at hij;rw[<- Array.foldl_toList]at hij
   have hinv:=FY (λs:Nat=>∀ i,s.testBit i=true->Reach ops i j) (λs e=>if Region.binds .any e then s ||| 2 ^ e.on ||| acc.getD e.on 0 else s) o.after.toList 0 sI (by
    intro s e he hs i hi
    split at hi
    ·rename_i hb
     simp only[Nat.testBit_or,Bool.or_eq_true]at hi
     have hedge:Reach ops e.on j:=.edge ho (by simpa using he) hb rfl
     rcases hi with (hi|hi)|hi
     ·exact hs i hi
     ·rw[Nat.testBit_two_pow]at hi
      simp at hi
      subst hi
      exact hedge
     ·exact .trans (hacc i e.on hi) hedge
    ·exact hs i hi)
   exact hinv i hij
  ·rw[Array.getD_eq_getD_getElem?,Array.getElem?_push]at hij;rw[if_neg oM,<- Array.getD_eq_getD_getElem?]at hij;exact hacc i j hij
theorem vS(ops:Array Oper)(i j:Nat)(h:((Region.before ops).getD j 0).testBit i=true):Reach ops i j:=by
 unfold Region.before at h;rw[<- Array.foldl_toList]at h;exact oV ops ops.toList 0 #[] rfl (λj=>by simp) sI i j h
theorem jL{ops:Array Oper}{S:Nat->Bool}(hS:∀ j o,ops[j]?=some o->S j=true->∀ e∈o.after,Region.binds .any e=true->S e.on=true){i j:Nat}(h:Reach ops i j):S j=true->S i=true:=by
 induction h with
 |edge ho he hb hi=>intro hj;subst hi;exact hS _ _ ho hj _ he hb
 |trans _ _ ih1 ih2=>exact λhj=>ih1 (ih2 hj)
section
variable {P:Program}{W:World}{bs:List Nat}{nt:Nat}{ops:Array Oper}{K:Nat->Prop}{κ:Nat}{φ φ' : Fr}{h h' : Hp}(Γ:Env P)
theorem fL{o:Oper}(hop:∀ c x y,o.op≠.pick c x y):step Γ W bs nt ops κ φ h o={ side:=(kp φ ops o.guard).1/\(rv φ (kp φ ops o.guard).2 o.op.operands.toList).1/\((kp φ ops o.guard).2=true->(ew Γ W bs κ h o.op (rv φ (kp φ ops o.guard).2 o.op.operands.toList).2).side)/\(∀ d,o.dst=some d->d<nt),fv:=wY o.guard.isNone (kp φ ops o.guard).2 (ew Γ W bs κ h o.op (rv φ (kp φ ops o.guard).2 o.op.operands.toList).2).val,bu:=bif (kp φ ops o.guard).2 then (ew Γ W bs κ h o.op (rv φ (kp φ ops o.guard).2 o.op.operands.toList).2).bu else [],pan:=bif (kp φ ops o.guard).2 then (ew Γ W bs κ h o.op (rv φ (kp φ ops o.guard).2 o.op.operands.toList).2).pan else none,pupd:=(ew Γ W bs κ h o.op (rv φ (kp φ ops o.guard).2 o.op.operands.toList).2).pupd,reads:=(ew Γ W bs κ h o.op (rv φ (kp φ ops o.guard).2 o.op.operands.toList).2).reads,uk:=cq (ew Γ W bs κ h o.op (rv φ (kp φ ops o.guard).2 o.op.operands.toList).2).bu }:=by
 unfold step;split
 ·rename_i c x y he;exact absurd he (hop c x y)
 ·rfl
theorem guard_true{o:Oper}(hn:o.guard.isNone=true):(kp φ ops o.guard).2=true:=by
 cases hg:o.guard with
 |none=>rfl
 |some p=>rw[hg]at hn;cases hn
theorem Gz{o:Oper}(hs:(step Γ W bs nt ops κ φ h o).side):(kp φ ops o.guard).1/\∀ d,o.dst=some d->d<nt:=by
 by_cases hp:∃ c x y,o.op=.pick c x y
 ·obtain⟨c,x,y,hop⟩:=hp;simp only[step,hop]at hs;revert hs;split
  ·exact λhs=>⟨hs.1,hs.2.2.2.2⟩
  ·exact λhs=>hs.elim
 ·rw[fL Γ λc x y e=>hp ⟨c,x,y,e⟩]at hs;exact⟨hs.1,hs.2.2.2⟩
theorem Xt{o:Oper}(hKF:n7 K φ)(hK:bU K h)(hs:(step Γ W bs nt ops κ φ h o).side) :
  (∀ k∈(step Γ W bs nt ops κ φ h o).fv.keys,K k\/k / 8=κ)/\∀ p∈(step Γ W bs nt ops κ φ h o).bu,(K p.1\/p.1 / 8=κ)/\∀ e,p.2=some e->∀ k∈e.keys,K k\/k / 8=κ:=by
 by_cases hp:∃ c x y,o.op=.pick c x y
 ·obtain⟨c,x,y,hop⟩:=hp;simp only[step,hop]at hs ⊢;revert hs;split
  ·rename_i cb hcb;rintro⟨hg,hc,ha,hb,hd⟩;refine⟨λk hk=>.inl ?_,sI⟩;obtain⟨hgt,hk⟩:=yI (λhn=>guard_true hn) hk;rw[hgt]at ha hb hk;rcases PX hk with ⟨hcb',hk⟩|⟨hcb',hk⟩
   ·subst hcb';exact BN hKF rfl (ha rfl) hk
   ·subst hcb';exact BN hKF rfl (hb rfl) hk
  ·exact λhs=>hs.elim
 ·rw[fL Γ λc x y e=>hp ⟨c,x,y,e⟩]at hs ⊢;obtain⟨hg,he,hr,hd⟩:=hs;simp only;cases hgv:(kp φ ops o.guard).2 with
  |false=>
   refine⟨λk hk=>?_,sI⟩;have:=yI (λhn=>by rw[guard_true hn]at hgv;cases hgv) hk;cases this.1
  |true=>
   rw[hgv]at he hr;have hok:=ab2 Γ o.op _ hK (λk hk=>BM hKF rfl he hk) (hr rfl);refine⟨λk hk=>hok.1 k (yI (λ_=>rfl) hk).2,λp hp=>hok.2 p (by simpa using hp)⟩
theorem FP{g:Bool}{x:Operand}(hx:∀ t,x=.tmp t->φ' t=φ t):pQ φ' g x=pQ φ g x:=by
 cases x with
 |tmp t=>simp only[pQ,hx t rfl]
 |const v=>rfl
 |global g=>rfl
 |func f=>rfl
theorem FO{g:Bool}:∀ {l:List Operand},(∀ t,Operand.tmp t∈l->φ' t=φ t)->rv φ' g l=rv φ g l
 |[],_=>rfl
 |x::r,hx=>by
  have e1:pQ φ' g x=pQ φ g x:=FP λt e=>hx t (by simp[e])
  have e2:rv φ' g r=rv φ g r:=FO (l:=r) λt e=>hx t (by simp[e])
  simp only[rv,e1,e2]
theorem UZ{g:Option (Nat×Bool)}(hx:∀ j w d,g=some (j,w)->(ops[j]?).bind (·.dst)=some d->φ' d=φ d):kp φ' ops g=kp φ ops g:=by
 cases g with
 |none=>rfl
 |some p=>
  simp only[kp];cases hd:(ops[p.1]?).bind (·.dst) with
  |none=>rfl
  |some d=>simp only[hx p.1 p.2 d rfl hd]
theorem Q1{o:Oper}(hφ:∀ t∈o.looksAt ops,φ' t=φ t)(hs:(step Γ W bs nt ops κ φ h o).side)(hh:∀ k∈(step Γ W bs nt ops κ φ h o).reads,h' k=h k) :
  kp φ' ops o.guard=kp φ ops o.guard/\((kp φ ops o.guard).2=true->step Γ W bs nt ops κ φ' h' o=step Γ W bs nt ops κ φ h o):=by
 have e1:kp φ' ops o.guard=kp φ ops o.guard:=UZ λj w d hg hd=>hφ d (List.mem_append_right _ (by simp[hg,hd]))
 have e2:∀ g,rv φ' g o.op.operands.toList=rv φ g o.op.operands.toList:=λg=>FO λt ht=>hφ t (List.mem_append_left _ (List.mem_filterMap.2 ⟨_,ht,rfl⟩))
 refine⟨e1,λhgt=>?_⟩;by_cases hp:∃ c x y,o.op=.pick c x y
 ·obtain⟨c,x,y,hop⟩:=hp;have e3:∀ g z,z∈[c,x,y]->pQ φ' g z=pQ φ g z:=λg z hz=>FP λt ht=>hφ t (List.mem_append_left _ (List.mem_filterMap.2 ⟨z,by rw[hop];simpa [Op.operands] using hz,by rw[ht]⟩))
  simp only[step,hop,e1,e3 _ c sI,e3 _ x sI,e3 _ y sI]
 ·have hn:∀ c x y,o.op≠.pick c x y:=λc x y e=>hp ⟨c,x,y,e⟩
  rw[fL Γ hn]at hs hh ⊢;rw[fL Γ hn];simp only[e1,e2]at *;rw[agJ Γ o.op _ h' (hs.2.2.1 hgt) hh]
def uO(o:Oper)(s:S):List (Nat×FV):=match o.dst with
 |some d=>[(d,s.fv)]
 |none=>[]
theorem tQ(φ:Fr)(o:Oper)(s:S):pD φ o.dst s.fv=ba φ (uO o s):=by
 unfold pD uO;cases o.dst<;>rfl
theorem kq{o:Oper}{s:S}{t:Nat}:t∈cq (uO o s) ↔ o.dst=some t:=by
 unfold uO;cases o.dst<;>simp[cq,eq_comm]
def tr(Γ:Env P)(W:World)(bs:List Nat)(nt:Nat)(ops:Array Oper):List Oper->Nat->Fr->Hp->List (Oper×S)
 |[],_,_,_=>[]
 |o::r,κ,φ,h=>(o,step Γ W bs nt ops κ φ h o)::tr Γ W bs nt ops r (κ+1) (pD φ o.dst (step Γ W bs nt ops κ φ h o).fv) (ba h (step Γ W bs nt ops κ φ h o).bu)
def vH(T:List (Oper×S)):List (List (Nat×FV)):=T.map λp=>uO p.1 p.2
def yu(T:List (Oper×S)):List (List (Nat×Option aZ)):=T.map λp=>p.2.bu
theorem rH{α:Type}:∀ {l:List (List (Nat×α))} {n:Nat} {S:Nat->Bool} {f:Nat->α},(∀ i,i<l.length->S (n+i)=false)->bB l n S f=f
 |[],_,_,_,_=>rfl
 |u::r,n,S,f,h=>by
  have h0:=h 0 sI;simp only[Nat.add_zero]at h0;simp only[bB,h0,Bool.false_eq_true,if_false];exact rH λi hi=>by have:=h (i+1) (by simp;omega);rwa [show n+(i+1)=n+1+i by omega]at this
theorem kQ:∀ (l:List Oper) (κ m:Nat) (φ:Fr) (h:Hp) (i:Nat) (o:Oper) (s:S),(tr Γ W bs nt ops l κ φ h)[i]?=some (o,s) ->
  l[i]?=some o/\s=step Γ W bs nt ops (κ+i) (bB (vH (tr Γ W bs nt ops l κ φ h)) m (λj=>decide (j<m+i)) φ) (bB (yu (tr Γ W bs nt ops l κ φ h)) m (λj=>decide (j<m+i)) h) o
 |[],_,_,_,_,_,_,_,hT=>by simp[tr]at hT
 |x::r,κ,m,φ,h,0,o,s,hT=>by
  simp only[tr,List.getElem?_cons_zero,Option.some.injEq,Prod.mk.injEq]at hT;obtain⟨rfl,rfl⟩:=hT;refine⟨rfl,?_⟩;rw[rH (λi _=>by simp),rH (λi _=>by simp)];rfl
 |x::r,κ,m,φ,h,i+1,o,s,hT=>by
  simp only[tr,List.getElem?_cons_succ]at hT;obtain⟨h1,h2⟩:=kQ r (κ+1) (m+1) _ _ i o s hT;refine⟨by simpa using h1,?_⟩;rw[h2];simp only[tr,vH,yu,List.map_cons,bB,show m<m+(i+1) by omega,decide_true,if_true,<- tQ];rw[show κ+1+i=κ+(i+1) by omega]
  congr 2<;>(funext j;simp only[decide_eq_decide];omega)
theorem qp:∀ (l:List Oper) (κ:Nat) (φ:Fr) (h:Hp),(tr Γ W bs nt ops l κ φ h).length=l.length
 |[],_,_,_=>rfl
 |x::r,κ,φ,h=>by simp[tr,qp r]
theorem I2{l:List Oper}{κ:Nat}{φ:Fr}{h:Hp}{i:Nat}{o:Oper}(ho:l[i]?=some o):∃ s,(tr Γ W bs nt ops l κ φ h)[i]?=some (o,s):=by
 have hi:i<(tr Γ W bs nt ops l κ φ h).length:=by rw[qp];exact (List.getElem?_eq_some_iff.1 ho).1
 obtain⟨o',s,hp⟩:∃ o' s,(tr Γ W bs nt ops l κ φ h)[i]=(o',s):=⟨_,_,rfl⟩;have hT:(tr Γ W bs nt ops l κ φ h)[i]?=some (o',s):=by rw[List.getElem?_eq_getElem hi,hp]
 have:=(kQ Γ l κ 0 φ h i o' s hT).1;rw[ho]at this;cases this;exact⟨s,hT⟩
def Y6(ops:Array Oper)(i j:Nat):Bool:=if i<j then ((Region.before ops).getD j 0).testBit i else ((Region.before ops).getD i 0).testBit j
def Cmp(ops:Array Oper)(i j:Nat):Prop:=(i<j->Reach ops i j)/\(j<i->Reach ops j i)
theorem oZ{i j:Nat}(h:Y6 ops i j=true):Cmp ops i j:=by
 unfold Y6 at h;split at h
 ·rename_i hij;exact⟨λ_=>vS ops i j h,λhji=>by omega⟩
 ·exact⟨λhij=>by omega,λ_=>vS ops j i h⟩
structure Draws (ops:Array Oper)(T:List (Oper×S)):Prop where
 edge:∀ j o,ops[j]?=some o->∀ e∈o.after,Region.binds .any e=true->e.on<j
 slot:∀ i j oi oj t,i≠j->ops[i]?=some oi->ops[j]?=some oj->oj.dst=some t->t∈oi.looksAt ops\/oi.dst=some t->Cmp ops i j
 heap:∀ i j oi oj si sj k,i≠j->T[i]?=some (oi,si)->T[j]?=some (oj,sj)->k∈cq sj.bu->k∈si.reads\/k∈cq si.bu->Cmp ops i j
end
structure Aux where
 defers:List Deferred
 pins:List (Nat×Value)
def Pn(ds:Aux)(E:Nat->Value):Prop:=∀ p∈ds.pins,E p.1=p.2
structure St where
 n:Nat
 φ:Fr
 h:Hp
structure Sat (W:World)(bs:List Nat)(nt:Nat)(ds:Aux)(σ:St)(a:Act)(w:World):Prop where
 ex:∃ E F,jw E σ.φ a/\aj W bs E F σ.h w/\Pn ds E
 size:a.tmps.size=nt
 defers:a.defers=ds.defers
 pk:∀ p∈ds.pins,p.1 / 8<σ.n
 fk:n7 (· / 8<σ.n) σ.φ
 hk:bU (· / 8<σ.n) σ.h
theorem lz{α:Type}(f:Nat->α){k:Nat}:∀ {u:List (Nat×α)},(∃ x,(k,x)∈u/\ba f u k=x)\/(k∉cq u/\ba f u k=f k):=by
 intro u
 induction u generalizing f with
 |nil=>exact .inr ⟨by simp[cq],rfl⟩
 | cons p r ih=>
  obtain⟨i,x⟩:=p;simp only[ba];rcases ih (bu f i x) with ⟨y,h1,h2⟩|⟨h1,h2⟩
  ·exact .inl ⟨y,by simp[h1],h2⟩
  ·by_cases hk:k=i
   ·subst hk;exact .inl ⟨x,sI,by rw[h2,ah]⟩
   ·refine .inr ⟨?_,by rw[h2,al _ _ hk]⟩;simp only[cq,List.map_cons,List.mem_cons,not_or]at h1 ⊢;exact⟨hk,by simpa [cq] using h1⟩
def uc(ops:Array Oper)(φ:Fr):Fr:=λt=>if ops.toList.any (λo=>o.dst == some t) then .any else φ t
section
variable {P:Program}{W:World}{bs:List Nat}{nt:Nat}{ds:Aux}{ops:Array Oper}(Γ:Env P)
theorem Xs{κ:Nat}{φ:Fr}{h:Hp}{o:Oper}(hg:(kp φ ops o.guard).2=false)(hs:(step Γ W bs nt ops κ φ h o).side) :
  (∃ x,(step Γ W bs nt ops κ φ h o).fv=.cnd false x)/\(step Γ W bs nt ops κ φ h o).bu=[]/\(step Γ W bs nt ops κ φ h o).pan=none:=by
 have hn:o.guard.isNone=false:=by
  cases hgn:o.guard.isNone with
  |false=>rfl
  |true=>rw[guard_true hgn]at hg;cases hg
 by_cases hp:∃ c x y,o.op=.pick c x y
 ·obtain⟨c,x,y,hop⟩:=hp;simp only[step,hop]at hs ⊢;revert hs;split
  ·intro _;rw[hg,hn];exact⟨⟨_,rfl⟩,rfl,rfl⟩
  ·exact λhs=>hs.elim
 ·rw[fL Γ λc x y e=>hp ⟨c,x,y,e⟩]at hs ⊢;simp only[hg,hn];exact⟨⟨_,rfl⟩,rfl,rfl⟩
def KS(n:Nat)(S:Nat->Bool)(k:Nat):Prop:=k / 8<n\/∃ j,S j=true/\k / 8=n+j
structure Inv (W:World)(bs:List Nat)(nt:Nat)(ds:Aux)(T:List (Oper×S))(σ:St)(S:Nat->Bool)(a:Act)(w:World):Prop where
 ex:∃ E F,jw E (bB (vH T) 0 S σ.φ) a/\aj W bs E F (bB (yu T) 0 S σ.h) w/\Pn ds E
 size:a.tmps.size=nt
 defers:a.defers=ds.defers
 fk:n7 (KS σ.n S) (bB (vH T) 0 S σ.φ)
 hk:bU (KS σ.n S) (bB (yu T) 0 S σ.h)
def uT(T:List (Oper×S)):List Nat:=T.flatMap λp=>p.2.uk++p.2.pupd
theorem IW{κ:Nat}{φ:Fr}{h:Hp}{o:Oper}{k:Nat}(hk:k∈cq (step Γ W bs nt ops κ φ h o).bu):k∈(step Γ W bs nt ops κ φ h o).uk:=by
 by_cases hp:∃ c x y,o.op=.pick c x y
 ·obtain⟨c,x,y,hop⟩:=hp;simp only[step,hop]at hk ⊢;split at hk<;>exact hk
 ·rw[fL Γ λc x y e=>hp ⟨c,x,y,e⟩]at hk ⊢;simp only at hk ⊢;revert hk;cases (kp φ ops o.guard).2 with
  |true=>exact λhk=>hk
  |false=>exact λhk=>by cases hk
theorem Sb{α:Type}{k:Nat}:∀ {l:List (List (Nat×α))} {n:Nat} {S:Nat->Bool} {f:Nat->α},(∀ u∈l,k∉cq u)->bB l n S f k=f k
 |[],_,_,_,_=>rfl
 |u::r,n,S,f,h=>by
  simp only[bB];rw[Sb λv hv=>h v (by simp[hv])];split
  ·exact s6 f (h u sI)
  ·rfl
theorem J8{α:Type}{k:Nat}:∀ {l:List (List (Nat×α))} {n:Nat} {S:Nat->Bool} {f:Nat->α},(∀ j u,l[j]?=some u->S (n+j)=true->k∉cq u)->bB l n S f k=f k
 |[],_,_,_,_=>rfl
 |u::r,n,S,f,h=>by
  simp only[bB];rw[J8 λj v hv hs=>h (j+1) v (by simpa using hv) (by rwa [show n+(j+1)=n+1+j by omega])];split
  ·rename_i hs;exact s6 f (h 0 u rfl (by simpa using hs))
  ·rfl
theorem one{σ:St}{Q:Exit->Act->World->Prop}{next:Act->World->Prop}{i:Nat}{o:Oper}{s:S}{S S' : Nat->Bool}{a:Act}{w:World}{L:List Nat}
  (hL:∀ j p,(tr Γ W bs nt ops ops.toList σ.n σ.φ σ.h)[j]?=some p->(S j=true\/j=i)->∀ k∈p.2.uk++p.2.pupd,k∈L)
  (hT:(tr Γ W bs nt ops ops.toList σ.n σ.φ σ.h)[i]?=some (o,s)) (hSi:S i=false) (hS'i:S' i=true) (hne:∀ j,j≠i->S' j=S j)
  (agr:∀ t∈o.looksAt ops,bB (vH (tr Γ W bs nt ops ops.toList σ.n σ.φ σ.h)) 0 S σ.φ t=bB (vH (tr Γ W bs nt ops ops.toList σ.n σ.φ σ.h)) 0 (λj=>decide (j<0+i)) σ.φ t)
  (agh:∀ k∈s.reads,bB (yu (tr Γ W bs nt ops ops.toList σ.n σ.φ σ.h)) 0 S σ.h k=bB (yu (tr Γ W bs nt ops ops.toList σ.n σ.φ σ.h)) 0 (λj=>decide (j<0+i)) σ.h k)
  (insf:∀ j v,i<j->(vH (tr Γ W bs nt ops ops.toList σ.n σ.φ σ.h))[j]?=some v->S j=true->∀ k∈cq (uO o s),k∉cq v)
  (insh:∀ j v,i<j->(yu (tr Γ W bs nt ops ops.toList σ.n σ.φ σ.h))[j]?=some v->S j=true->∀ k∈cq s.bu,k∉cq v)
  (I:Inv W bs nt ds (tr Γ W bs nt ops ops.toList σ.n σ.φ σ.h) σ S a w) (hside:s.side)
  (hnext:s.pan=none->∀ a' w',Inv W bs nt ds (tr Γ W bs nt ops ops.toList σ.n σ.φ σ.h) σ S' a' w' -> next a' w')
  (hpan:∀ c,s.pan=some c->∀ a' w',Sat W bs nt ds ⟨σ.n,uc ops σ.φ,dropKeys σ.h L⟩ a' w' -> Q (.panic c) a' w')
  (hσf:n7 (· / 8<σ.n) σ.φ) (hσh:bU (· / 8<σ.n) σ.h) (hσp:∀ p∈ds.pins,p.1 / 8<σ.n) :
  wpOp P ops Q i next a w:=by
 obtain⟨ho,hs⟩:=kQ Γ ops.toList σ.n 0 σ.φ σ.h i o s hT;rw[Array.getElem?_toList]at ho;have hfu:(vH (tr Γ W bs nt ops ops.toList σ.n σ.φ σ.h))[i]?=some (uO o s):=by simp[vH,hT]
 have hhu:(yu (tr Γ W bs nt ops ops.toList σ.n σ.φ σ.h))[i]?=some s.bu:=by simp[yu,hT]
 have ef:bB (vH (tr Γ W bs nt ops ops.toList σ.n σ.φ σ.h)) 0 S' σ.φ=ba (bB (vH (tr Γ W bs nt ops ops.toList σ.n σ.φ σ.h)) 0 S σ.φ) (uO o s):=
  uH (Nat.zero_le i) hfu hSi hS'i hne insf
 have eh:bB (yu (tr Γ W bs nt ops ops.toList σ.n σ.φ σ.h)) 0 S' σ.h=ba (bB (yu (tr Γ W bs nt ops ops.toList σ.n σ.φ σ.h)) 0 S σ.h) s.bu:=
  uH (Nat.zero_le i) hhu hSi hS'i hne insh
 obtain⟨⟨E,F,hf,hh,hpn⟩,hsz,hdf,hfk,hhk⟩:=I;have hsub:∀ k,KS σ.n S k->KS σ.n S' k:=λk hk=>hk.imp id λ⟨j,hj,e⟩=>⟨j,by
  by_cases hji:j=i
  ·subst hji;rw[hSi]at hj;cases hj
  ·rw[hne j hji];exact hj,e⟩
 have hown:∀ k,k / 8=σ.n+i->KS σ.n S' k:=λk hk=>.inr ⟨i,hS'i,hk⟩
 have hfresh:∀ k,k / 8=σ.n+i->¬ KS σ.n S k:=λk hk hK=>by
  rcases hK with hK|⟨j,hj,e⟩
  ·omega
  ·have:j=i:=oM;subst this;rw[hSi]at hj;cases hj
 have hkeys:(kp (bB (vH (tr Γ W bs nt ops ops.toList σ.n σ.φ σ.h)) 0 S σ.φ) ops o.guard).2=true->step Γ W bs nt ops (σ.n+i) (bB (vH (tr Γ W bs nt ops ops.toList σ.n σ.φ σ.h)) 0 S σ.φ) (bB (yu (tr Γ W bs nt ops ops.toList σ.n σ.φ σ.h)) 0 S σ.h) o=s ->
   n7 (KS σ.n S') (ba (bB (vH (tr Γ W bs nt ops ops.toList σ.n σ.φ σ.h)) 0 S σ.φ) (uO o s))/\bU (KS σ.n S') (ba (bB (yu (tr Γ W bs nt ops ops.toList σ.n σ.φ σ.h)) 0 S σ.h) s.bu):=by
  intro _ he;have hk:=Xt Γ (W:=W) (bs:=bs) (nt:=nt) (ops:=ops) (κ:=σ.n+i) (o:=o) hfk hhk (by rw[he];exact hside);rw[he]at hk;have conv:∀ k,KS σ.n S k\/k / 8=σ.n+i->KS σ.n S' k:=λk hk=>hk.elim (hsub k) (hown k)
  constructor
  ·intro t k hkt;rcases lz (bB (vH (tr Γ W bs nt ops ops.toList σ.n σ.φ σ.h)) 0 S σ.φ) (k:=t) (u:=uO o s) with ⟨x,hx,hx'⟩|⟨_,hx'⟩
   ·rw[hx']at hkt;have:x=s.fv:=by
     unfold uO at hx;cases hd:o.dst<;>simp[hd]at hx;exact hx.2
    subst this;exact conv k (hk.1 k hkt)
   ·rw[hx']at hkt;exact hsub k (hfk t k hkt)
  ·intro k e hke;rcases lz (bB (yu (tr Γ W bs nt ops ops.toList σ.n σ.φ σ.h)) 0 S σ.h) (k:=k) (u:=s.bu) with ⟨x,hx,hx'⟩|⟨_,hx'⟩
   ·rw[hx']at hke;have:=hk.2 _ hx;exact⟨conv k this.1,λj hj=>conv j (this.2 e hke j hj)⟩
   ·rw[hx']at hke;exact⟨hsub k (hhk k e hke).1,λj hj=>hsub j ((hhk k e hke).2 j hj)⟩
 have hag:=Q1 Γ (W:=W) (bs:=bs) (nt:=nt) (ops:=ops) (κ:=σ.n+i) (o:=o) (φ' := bB (vH (tr Γ W bs nt ops ops.toList σ.n σ.φ σ.h)) 0 S σ.φ) (h' := bB (yu (tr Γ W bs nt ops ops.toList σ.n σ.φ σ.h)) 0 S σ.h) agr (by rw[<- hs];exact hside) (by rw[<- hs];exact agh);rw[<- hs]at hag
 cases hgv:(kp (bB (vH (tr Γ W bs nt ops ops.toList σ.n σ.φ σ.h)) 0 S σ.φ) ops o.guard).2 with
 | true=>
  have he:=hag.2 (by rw[<- hag.1];exact hgv);have hk' := hkeys hgv he;refine agU Γ ho hf hh hsz hfk hhk hfresh (by rw[he];exact hside) (λhp a' w' E' F' hE hf' hh' hsz' hd' => hnext (by rw[he]at hp;exact hp) a' w' ?_) (λc hc w' F' hh' => hpan c (by rw[he]at hc;exact hc) a w' ?_)
  ·rw[he]at hf' hh';rw[tQ]at hf';exact⟨⟨E',F',by rw[ef];exact hf',by rw[eh];exact hh',λp hp=>(hE p.1 (by have:=hσp p hp;omega)).trans (hpn p hp)⟩,hsz',hd'.trans hdf,by rw[ef];exact hk'.1,by rw[eh];exact hk'.2⟩
  ·rw[he]at hh';have hTm:(o,s)∈tr Γ W bs nt ops ops.toList σ.n σ.φ σ.h:=List.mem_of_getElem? hT;refine⟨⟨E,F',?_,hh'.drop ?_,hpn⟩,hsz,hdf,hσp,?_,?_⟩
   ·intro t;simp only[uc];split
    ·trivial
    ·rename_i hnt;have:=hf t
     rwa [Sb]at this
     intro u hu;simp only[vH,List.mem_map]at hu;obtain⟨p,hp,rfl⟩:=hu;rw[kq];intro hd;obtain⟨jj,hjj⟩:=List.getElem?_of_mem hp;have:=(kQ Γ ops.toList σ.n 0 σ.φ σ.h jj p.1 p.2 hjj).1;exact hnt (List.any_eq_true.2 ⟨p.1,List.mem_of_getElem? this,by simp[hd]⟩)
   ·intro k e hke;simp only[dropKeys]at hke ⊢;split at hke
    ·cases hke
    ·rename_i hnk;rw[if_neg λhm=>hnk (hL i _ hT (.inr rfl) k (List.mem_append_right _ hm)),J8]
     ·exact hke
     ·intro jj u hu hSj hm;rw[Nat.zero_add]at hSj;simp only[yu,List.getElem?_map,Option.map_eq_some_iff]at hu;obtain⟨p,hjj,rfl⟩:=hu;have:=(kQ Γ ops.toList σ.n 0 σ.φ σ.h jj p.1 p.2 hjj).2;refine hnk (hL jj p hjj (.inl hSj) k (List.mem_append_left _ ?_));rw[this]at hm ⊢;exact IW Γ hm
   ·intro t k hk;simp only[uc]at hk;split at hk
    ·cases hk
    ·exact hσf t k hk
   ·intro k e hke;simp only[dropKeys]at hke;split at hke
    ·cases hke
    ·exact hσh k e hke
 | false=>
  have hgs:(kp (bB (vH (tr Γ W bs nt ops ops.toList σ.n σ.φ σ.h)) 0 S σ.φ) ops o.guard).1:=by
   rw[hag.1];rw[hs]at hside;exact (Gz Γ hside).1
  have hgv' := hgv;rw[hag.1]at hgv';have hidle:=Xs Γ (W:=W) (bs:=bs) (nt:=nt) (ops:=ops) (κ:=σ.n+i) (o:=o) (h:=bB (yu (tr Γ W bs nt ops ops.toList σ.n σ.φ σ.h)) 0 (λj=>decide (j<0+i)) σ.h) hgv' (by rw[<- hs];exact hside);rw[<- hs]at hidle;obtain⟨⟨x,hx⟩,hu,hpn0⟩:=hidle
  have hw:Region.wanted o (yielded ops a.tmps)=false:=by rw[Hw hf hgs,hgv]
  unfold wpOp;simp only[ho,hw,Bool.false_eq_true,if_false];have hdst:∀ d,o.dst=some d->d<a.tmps.size:=λd hd=>by
   rw[hsz];rw[hs]at hside;exact (Gz Γ hside).2 d hd
  refine hnext hpn0 _ _ ⟨⟨E,F,?_,?_,hpn⟩,?_,?_,?_,?_⟩
  ·rw[ef,<- tQ];exact hf.put hdst (by rw[hx];rfl)
  ·rw[eh,hu];exact hh
  ·rw[<- hsz];cases o.dst<;>simp[Act.put]
  ·rw[<- hdf];cases o.dst<;>simp[Act.put]
  ·rw[ef];intro t k hkt;rcases lz (bB (vH (tr Γ W bs nt ops ops.toList σ.n σ.φ σ.h)) 0 S σ.φ) (k:=t) (u:=uO o s) with ⟨y,hy,hy'⟩|⟨_,hy'⟩
   ·rw[hy']at hkt;have:y=s.fv:=by
     unfold uO at hy;cases hd:o.dst<;>simp[hd]at hy;exact hy.2
    subst this;rw[hx]at hkt;cases hkt
   ·rw[hy']at hkt;exact hsub k (hfk t k hkt)
  ·rw[eh,hu];intro k e hke;exact⟨hsub k (hhk k e hke).1,λj hj=>hsub j ((hhk k e hke).2 j hj)⟩
end
end
end Go.LE
