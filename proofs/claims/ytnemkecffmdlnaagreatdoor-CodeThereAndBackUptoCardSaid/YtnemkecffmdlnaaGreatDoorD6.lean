/-
 CodeThereAndBackUptoCardSaid: CodeThereAndBack returns true for every tape and text whose bulk is at most 1048576 together, and leaves them as they were; the listed tables are tied to the program's text.
-/
import Derived.Test.YtnemkecffmdlnaaGreatDoorD5
import Derived.Test.YtnemkecffmdlnaaGreatDoorCards
import Derived.Test.YtnemkecffmdlnaaGreatDoorTie
import Derived.WalkKit
import Derived.ProofKit
import Derived.OpenShut
import Derived.Deep.DeepHandedRow
import Derived.Lib.LaidTab
import Derived.Lib.LaidU8
import Derived.Lay
import Derived.Test.YtnemkecffmdlnaaGreatDoorRows
import Derived.JoinedCond
import Derived.Shelf.Vars
set_option linter.unusedSimpArgs false
set_option linter.unusedVariables false
set_option linter.defProp false
set_option maxHeartbeats 16000000
namespace Go.Proofs.YtnemkecffmdlnaaGreatDoor
section
open Go.RowKit Go.LE Go.Proofs.Tryz
set_option maxRecDepth 10000
theorem Dr{α β:Type}(g:α->List β)(hg:∀ a,(g a).length=4):∀ (l:List α) (i m:Nat),m<4->(l.flatMap g)[4*i+m]?=(l[i]?).bind λa=>(g a)[m]?
 |[],i,m,_=>by simp
 |a::l,0,m,hm=>by
  rw[List.flatMap_cons,Nat.mul_zero,Nat.zero_add,List.getElem?_append_left (by rw[hg];exact hm)];rfl
 |a::l,i+1,m,hm=>by
  rw[List.flatMap_cons,List.getElem?_append_right (by rw[hg];omega),hg,show 4*(i+1)+m-4=4*i+m by omega,Dr g hg l i m hm];rfl
theorem zJ{α β:Type}(g:α->List β)(hg:∀ a,(g a).length=4):∀ (l:List α) (i:Nat) (h:i<l.length),((l.flatMap g).drop (i*4)).take 4=g l[i]
 |a::l,0,_=>by
  rw[List.flatMap_cons,Nat.zero_mul,List.drop_zero,List.take_append_of_le_length (by rw[hg];exact Nat.le_refl _),List.take_of_length_le (by rw[hg];exact Nat.le_refl _)];rfl
 |a::l,i+1,h=>by
  have ih:=zJ g hg l i (by simpa using h);rw[List.flatMap_cons,show (i+1)*4=4+i*4 by omega,<- List.drop_drop,List.drop_append_of_le_length (by rw[hg];exact Nat.le_refl _),show (g a).drop 4=[] from List.drop_of_length_le (by rw[hg];exact Nat.le_refl _),List.nil_append];exact ih
def No(n:Nat):List Value:=[.string (dn n).1,.bool (dn n).2.1,.int .i64 (dn n).2.2.1,.int .i64 (dn n).2.2.2]
def oy:List Value:=(List.range 21).flatMap No
theorem se:oy.length=84:=rfl
theorem Sd:(List.map SV.v oy).length=84:=rfl
theorem KT{k:Nat}(hk:k<21):((List.map SV.v oy).drop (k*4)).take 4=(No k).map .v:=by
 unfold oy;rw[<- List.map_drop,<- List.map_take,zJ No (λ_=>rfl) (List.range 21) k (by simpa using hk)];rw[List.getElem_range]
theorem K4{W:World}{S:Nat->Prop}(h:c8 W S):bm W 0 0 84=List.map SV.v oy/\cA W 0 0 84=True:=by
 have key:=qP (w:=W) (b:=0) oy 0 λj hj=>by
  rw[se]at hj;obtain⟨h0,h1,h2,h3⟩:=h.2 (j / 4) oM;have hg:=Dr No (λ_=>rfl) (List.range 21) (j / 4) (j % 4) oM;rw[show 4*(j / 4)+j % 4=j by omega]at hg;have hr:(List.range 21)[j / 4]?=some (j / 4):=by rw[List.getElem?_range oM]
  rw[hr,Option.bind_some]at hg;have hv:oy[j]?=some (oy[j]'(by rw[se];exact hj)):=List.getElem?_eq_getElem _;have hv' : oy[j]?=(No (j / 4))[j % 4]?:=hg;rw[hv']at hv;rw[Nat.zero_add];have hm:j % 4=0\/j % 4=1\/j % 4=2\/j % 4=3:=oM;rcases hm with hm|hm|hm|hm
  ·rw[hm]at hv;rw[<- Option.some.inj hv];have e:j=j / 4*4:=oM
   conv=>lhs;rw[e]
   exact h0
  ·rw[hm]at hv;rw[<- Option.some.inj hv];have e:j=j / 4*4+1:=oM
   conv=>lhs;rw[e]
   exact h1
  ·rw[hm]at hv;rw[<- Option.some.inj hv];have e:j=j / 4*4+2:=oM
   conv=>lhs;rw[e]
   exact h2
  ·rw[hm]at hv;rw[<- Option.some.inj hv];have e:j=j / 4*4+3:=oM
   conv=>lhs;rw[e]
   exact h3
 rw[se]at key;exact⟨key.1,eq_true key.2⟩
theorem zi{W:World}{bs:List Nat}{ao:Option Addr}{t:ByteArray}{r:List ByteArray}(h:iK W (Out bs) ao (aS (t::r))):∃ b o,ao=some ⟨b,o,none⟩/\b∉bs/\W.cell? ⟨b,o,none⟩=some (.string t):=by
 rcases h with h|⟨b,o,rfl,hc⟩
 ·cases h
 ·obtain⟨h1,h2⟩:=hc 0 (by simp[aS]);exact⟨b,o,rfl,h1,h2⟩
theorem Tp{W:World}{bs:List Nat}{ao:Option Addr}{f:List ByteArray}{a c:Nat}(h:iK W (Out bs) ao (aS f))(hc:f.length<=c)(ha:a<=f.length):iK W (Out bs) (mK ao a 1 c) (aS (f.drop a)):=by
 have:=h.at (a:=a) (sz:=1) (c:=c) (n:=f.length) (by simp[aS]) hc ha;rw[Nat.mul_one]at this;have e:(aS f).drop a=aS (f.drop a):=by simp[aS,List.map_drop]
 rw[e]at this;exact this
theorem RM(l:List (Int×Int×Int×Int))(x y z u:Int):List.map SV.v (cM l)++[.v (.int .i64 x),.v (.int .i64 y),.v (.int .i64 z),.v (.int .i64 u)]=List.map SV.v (cM (l++[(x,y,z,u)])):=by
 unfold cM;rw[List.flatMap_append,List.map_append];rfl
def svS:ByteArray:=⟨#[115,118]⟩
def Jp:bu prog 85 where
 pre:=λW bs as_=>∃ t,as_=[.val (.string svS),.val (.string t)]/\(t=sB\/t=vB)/\eZ W (Out bs)
 res:=λW as_=>match as_ with
  |[_,.val (.string t)]=>.int .i64 (if t=sB then 0 else 1)
  |_=>undef
 enters:=call85
 ok:=by
  intro W w bs us as_ hk hu hp;obtain⟨t,rfl,ht,hl⟩:=hp
  match us,hu with
  | [x,y],hu=>
   obtain⟨rfl,rfl,_⟩:=hu;obtain⟨m,hm⟩:=(hl.cP hk (fp:=[]) sI).1.2;refine (Any.strings_Index Tryz.YE svS t m w dE hm).mono λe w' ⟨he,hw⟩=>⟨?_,by rw[hw];exact LE.af.refl _ _⟩
   rw[he];rcases ht with rfl|rfl
   ·have:Lib.index svS.data.toList sB.data.toList=0:=by decide +kernel
    rw[this];rfl
   ·have:Lib.index svS.data.toList vB.data.toList=1:=by decide +kernel
    rw[this];rfl
theorem Nh(W:World)(t:ByteArray):Jp.res W [.val (.string svS),.val (.string t)]=.int .i64 (if t=sB then 0 else 1):=rfl
theorem MF(W:World)(bs:List Nat)(t:ByteArray):Jp.pre W bs [.val (.string svS),.val (.string t)]=((t=sB\/t=vB)/\eZ W (Out bs)):=
 propext ⟨λ⟨t',h,h2⟩=>by
  cases h
  exact h2,λh=>⟨t,rfl,h⟩⟩
theorem YT{t:ByteArray}{k:Nat}(hk:k<21)(hno:∀ j<k,¬ (dn j).1=t)(h:(dn k).1=t):RN t=some k:=qS _ 21 k hk (λj hj=>by simpa using hno j hj) (by simpa using h)
theorem VJ{t:ByteArray}(hno:∀ j<21,¬ (dn j).1=t):RN t=none:=rY λi _ hi=>by simpa using hno i oM
def Iz(W:World)(bs:List Nat)(ao:Option Addr)(f:List ByteArray):Prop:=∃ b o t,ao=some ⟨b,o,none⟩/\b∉bs/\W.cell? ⟨b,o,none⟩=some (.string t)/\(∀ x r,f=x::r->t=x)/\iK W (Out bs) ao (aS f)
theorem Iz.rest{W:World}{bs:List Nat}{ao:Option Addr}{f:List ByteArray}{a:Nat}(h:Iz W bs ao f)(ha:a<=f.length):Iz W bs (mK ao a 1 f.length) (f.drop a):=by
 obtain⟨b,o,t,rfl,h1,h2,h3,h4⟩:=h;have h5:=Tp h4 (Nat.le_refl _) ha;by_cases he:f.length=a
 ·have hd:f.drop a=[]:=List.drop_of_length_le oM;rw[hd]at h5 ⊢;have hs:mK (some ⟨b,o,none⟩) a 1 f.length=some ⟨b,o,none⟩:=by unfold mK;rw[if_pos he]
  rw[hs]at h5 ⊢;exact⟨b,o,t,rfl,h1,h2,(λx r hx=>by cases hx),h5⟩
 ·have hs:mK (some ⟨b,o,none⟩) a 1 f.length=some ⟨b,o+a,none⟩:=by unfold mK;rw[if_neg he];simp[Addr.add]
  rw[hs]at h5 ⊢;have hlt:a<f.length:=oM;have hd:f.drop a=f[a]::f.drop (a+1):=List.drop_eq_getElem_cons hlt;rw[hd]at h5 ⊢;obtain⟨b',o',hb,g1,g2⟩:=zi h5;cases hb;exact⟨b,o+a,f[a],rfl,h1,g2,(λx r hx=>by cases hx;rfl),h5⟩
def adS(s:ByteArray):FK:=⟨λcs W S=>∃ b,cs=[.slice (some ⟨b,0,none⟩) (fU s).length (fU s).length]/\iK W S (some ⟨b,0,none⟩) (aS (fU s)),λhs ⟨b,h1,h2⟩=>⟨b,h1,h2.mono hs⟩⟩
theorem G7(w:World)(cs:Array Value)(T:TypeId)(j:Nat)(v:Value)(h:cs[j]?=some v):(w.alloc (.cells cs T)).cell? ⟨w.heap.size,j,none⟩=some v:=by
 have hh:(w.alloc (.cells cs T)).heap[w.heap.size]?=some (.cells cs T):=heap_alloc_new w (.cells cs T);simp only[World.cell?,hh];simpa using h
theorem F5(s:ByteArray)(hs:s.size<4294967281)(w:World)(S:Nat->Prop)(hl:eZ w S):Calls prog 83 #[.string s,.string ⟨#[32]⟩] w λe w' => lT w S e w' (.fact Sh.one (adS s)):=by
 obtain⟨m,hm⟩:=hl.1.2;refine (Any.strings_Split Tryz.JH (by kernel_rfl) s ⟨#[32]⟩ m w hs hm dE).mono λe w' ⟨he,hw⟩=>?_
 subst hw;refine⟨[.slice (some ⟨w.heap.size,0,none⟩) (fU s).length (fU s).length],?_,⟨w.heap.size,rfl,.inr ⟨w.heap.size,0,rfl,λj hj=>⟨λhlt=>absurd hlt oM,?_⟩⟩⟩,iB w _⟩
 ·rw[mZ];exact he
 ·rw[Nat.zero_add];refine G7 w _ 9 j _ ?_;rw[List.getElem?_toArray];exact List.getElem?_eq_getElem hj
def abd(s:ByteArray)(hs:s.size<4294967281):jw prog 83 where
 kinds:=[none,none]
 pre:=λas_ W S=>as_=[.val (.string s),.val (.string ⟨#[32]⟩)]/\eZ W S
 premono:=λas_ W S W' S' hs h=>⟨h.1,h.2.mono hs⟩
 out:=λ_=>.fact Sh.one (adS s)
 enters:=call83
 ok:=by
  intro w S us as_ hg hp;obtain⟨rfl,h1⟩:=hp
  match us,hg with
  |[x,y],hg=>
   obtain⟨rfl,rfl,_⟩:=hg;exact F5 s hs w S h1
noncomputable def ck(s:ByteArray)(hs:s.size<4294967281):Env prog:=⟨λ| 83=>some ((abd s hs).spec (λ_=>True))|84=>some zT.spec|39=>some so.spec|85=>some Jp.spec|_=>none,λ_=>none,λ_ _=>none⟩
theorem VF(s:ByteArray)(hs:s.size<4294967281):(ck s hs).sp 83=some ((abd s hs).spec (λ_=>True)):=rfl
theorem VO(s:ByteArray)(hs:s.size<4294967281):(ck s hs).sp 84=some zT.spec:=rfl
theorem Yw(s:ByteArray)(hs:s.size<4294967281):(ck s hs).sp 39=some so.spec:=rfl
theorem Vb(s:ByteArray)(hs:s.size<4294967281):(ck s hs).sp 85=some Jp.spec:=rfl
def aN:=(ak @List.replicate_succ.{0} @List.replicate_zero.{0} @aq @ae lP lM QW (ak Py OU ty5 ty6 ty7 ty8 lA (ak dI dK dJ dG dr dt du (ak dq fq fu ft fh ff fm (ak wA xW vm vT Cb Bw Az (ak B7 s6 tN sZ tu tp tO (ak tj tM s3 vb vP uN yb (ak vV u5 xo xZ mU TF Qa (ak nq mw mL my ma ml mg (ak nw nv mb mS mW Ex EF (ak Dl Dq RZ Tl PR Ql Q6 (ak Tn Oj Pd Sc TJ Sx Z1 (ak Z6 aai abh aav abU ab7 aaE (ak ZT abR aby aak aaN aae ZZ (ak aaP @a6 @aw @aD @aE @eA @N1.eq_1 (ak @aX @Sh.one.eq_1 @VF @VO @Yw @Vb @abd.eq_1 (oR @zt @zV @rD @rL @Nh @MF)))))))))))))))))
theorem J2:TW 54 fC:=by
 intro s r l u fp w hr hl ha ho hlt;have hs4:l.size<4294967281:=oM;obtain⟨⟨n1,n2,n3⟩,n4,n5⟩:=hr;have ffail:∀ {b},yi r.co.length l=(b,[])->fC r l=(b,r):=λh=>by
  unfold fC;rw[h];simp
 refine bx (nt:=122) #[.string l] [.tmp 4] (by show 7<=7;omega) ho hlt func54 rfl rfl rfl ?_;refine vR (ck l hs4) aN ?_;refine wR (ck l hs4) aN ?_ ?_
 ·exact⟨ha.2.2.mono λb _ h=>⟨rfl,trivial,h⟩,Up.true _ _⟩
 refine Wp.gG 24 (ev aN) (bV.refl _ _) λW1 bs1 cs hx hΦ=>?_
 obtain⟨b0,rfl,hF⟩:=hΦ;have hF:iK W1 (Out bs1) (some ⟨b0,0,none⟩) (aS (fU l)):=hF.out λb hb=>hb.2
 have ha1:ed W1 (Out bs1):=ha.mono hx.fe;have hsz:=Di l;have hln:=mZ l;cases hs:fU l with
 |nil=>rw[hs]at hln;simp at hln
 | cons a f0=>
  rw[hs]at hF hsz;obtain⟨b0',o0,hb0,hnb,x0⟩:=zi hF;cases hb0;have za:=hsz a sI;have hPS:Iz W1 bs1 (some ⟨b0,0,none⟩) (a::f0):=⟨b0,0,a,rfl,hnb,x0,(λx r hx=>by cases hx;rfl),hF⟩;cases f0 with
  | nil=>
   have hE:yi r.co.length l=(false,[]):=by unfold yi;rw[hs]
   rw[ffail hE];refine Wp.seq ?_;refine A0 (ck l hs4) (dx aN hs x0) ?_ ?_
   ·exact⟨⟨_,rfl⟩,λh=>by simp,λ_=>hnb,λ_=>⟨_,rfl⟩,λ_=>⟨⟨oM,oM⟩,ha1.2.1⟩⟩
   refine wC aN (λhc=>?_) (λhc=>?_)
   ·skip;refine vR (ck l hs4) aN ?_;refine wZ aN ?_;exact⟨_,_,rfl,λE=>rfl,_,_,rfl,(ev aN),dE⟩
   ·exact absurd hc sI
  | cons b f=>
   have hP2:=hPS.rest (a:=2) sI;simp only[List.drop_succ_cons,List.drop_zero,List.length_cons]at hP2;have x1:W1.cell? ⟨b0,1,none⟩=some (.string b):=by
    rcases hF with h|⟨b',o',h,hc⟩
    ·cases h
    ·cases h;exact (hc 1 (by simp[aS])).2
   refine Wp.seq ?_;refine A0 (ck l hs4) (dx aN hs x0) ?_ ?_
   ·exact⟨⟨_,rfl⟩,λh=>by omega,λ_=>hnb,λ_=>⟨_,rfl⟩,λ_=>⟨⟨oM,oM⟩,ha1.2.1⟩⟩
   refine wC aN (λhc=>?_) (λhc=>?_)
   ·have hne:¬ a=cx (r.co.length:Nat):=by
     simp at hc;rcases hc with hc|hc
     ·omega
     ·exact hc
    have hE:yi r.co.length l=(false,[]):=by unfold yi;rw[hs];simp only;rw[if_neg hne]
    rw[ffail hE];refine vR (ck l hs4) aN ?_;refine wZ aN ?_;exact⟨_,_,rfl,λE=>rfl,_,_,rfl,(ev aN),dE⟩
   have heq:a=cx (r.co.length:Nat):=by
    simp at hc;exact hc.2
   obtain⟨hX,hY⟩:=K4 ha1.1.1;refine wK ?_;refine Wp.seq ?_
   refine Wp.Uf (ck l hs4) cr (by simp only[mM,Op.operands,Value.cells,σ0,σB,Nat.reduceEqDiff,Nat.reduceAdd,Nat.reduceMul,Nat.reduceLT,Nat.reduceLeDiff,Nat.reduceBEq,ax,Int.reduceToNat,Int.reduceLT,Int.reduceLE,Nat.reduceDiv,Nat.reduceMod,Nat.reduceSub,Int.reducePow,Nat.reducePow,σP,σB3,aN,↓hX,↓hY];exact rfl) rfl ?_ ?_
   ·exact ha1.1.1.1
   refine Wp.block ?_
   refine Wp.loop (λk:Nat=>⟨60,cL [(0,.is (.own 0 0)),(5,.is (.v (.slice (some ⟨b0,0,none⟩) (f.length+1+1) (f.length+1+1)))),(31,.is (.agg (List.map SV.v oy))),(32,.is (.v (.int .i64 (k:Nat))))],cf [(0,.cells 112 [.hd 1,.hd 2,.hd 3,.v (.int .i64 r.src),.v (.int .i64 r.vw),.v (.string s),.v (.int .i64 (r.pl:Nat))]),(1,.row 9 1 r.ty.length ((aS r.ty).map .v)),(2,.row 9 1 r.tx.length ((aS r.tx).map .v)),(3,.row 50 4 r.co.length ((cM r.co).map .v))]⟩) (λk=>k<=21/\∀ j<k,¬ (dn j).1=b) (λk=>21-k) 0 ?_ ⟨oM,λj hj=>by omega⟩ ?_
   ·exact wM (λk=>.key k) aN (hk:=⟨by simp[FV.keys,SV.keys,al,aA],by simp[aI.keys,al,SV.keys,aA,aJ]⟩)
   rintro k ⟨hk,hno⟩;refine vR (ck l hs4) aN ?_;refine Wp.seq ?_;refine wC aN (λhc=>?_) (λhc=>?_)
   ·have hlt:k<21:=by
     simp at hc;omega
    have wk:IntKind.i64.wrap ((k:Int)+1)=((k+1:Nat):Int):=wW;have hP:=KT hlt;simp only[No,List.map_cons,List.map_nil]at hP;have hE0:(dn k).1=b->yi r.co.length l=match Y0 k f with
      |none=>(false,[])
      |some (x,f')=>(f'.isEmpty,[x]):=λh=>by
     unfold yi;rw[hs];simp only;rw[if_pos heq,YT hlt hno h];rfl
    have hXAB:=Q1 k f;have hab:=(nQ k hlt).2.1;generalize hsp:dn k=sp at *;obtain⟨wd,st,ua,ub⟩:=sp;simp only at hP hE0 hXAB hab;refine wK ?_;refine Wp.seq (Wp.block ?_);refine wR (ck l hs4) (dx aN @Sd hP) ?_ ?_
    ·omega
    refine Wp.seq ?_;refine A0 (ck l hs4) (aa aN x1) ?_ ?_
    ·exact⟨oM,hnb⟩
    refine wC aN (λhc=>?_) (λhc=>?_)
    ·have hne:¬ wd=b:=by simpa using hc
     refine wE ?_;refine vr (ck l hs4) (aa aN wk) ?_;refine⟨k+1,⟨oM,λj hj=>?_⟩,oM,?_⟩
     ·by_cases e:j=k
      ·rw[e,hsp];exact hne
      ·exact hno j oM
     ·exact wM (λk=>.key k) aN (hk:=⟨by simp[FV.keys,SV.keys,al,aA],by simp[aI.keys,al,SV.keys,aA,aJ]⟩)
    have hwd:wd=b:=by simpa using hc
    have hE:=hE0 hwd;rw[hXAB]at hE;clear hE0 hXAB hno hP;refine wK ?_;refine vR (ck l hs4) aN ?_;have hsz:∀ x∈f,x.size<=16000000:=λx hx=>Nat.le_trans (hsz x (by simp[hx])) hl
    have hl2:f.length+1+1-2=f.length:=oM;refine wR (ck l hs4) (aa aN hl2) ?_ ?_
    ·omega
    generalize mK (some ⟨b0,0,none⟩) 2 1 (f.length+1+1)=ao2 at *
    refine Wp.Il (σ' := ⟨100,cL [(0,.is (.own 0 0)),(5,.is (.v (.slice ao2 f.length f.length))),(7,.is (.own 24 0)),(8,.is (.own 16 0))],cf [(0,.cells 112 [.hd 1,.hd 2,.hd 3,.v (.int .i64 r.src),.v (.int .i64 r.vw),.v (.string s),.v (.int .i64 (r.pl:Nat))]),(1,.row 9 1 r.ty.length ((aS r.ty).map .v)),(2,.row 9 1 r.tx.length ((aS r.tx).map .v)),(3,.row 50 4 r.co.length ((cM r.co).map .v)),(16,.cells 50 [.v (.int .i64 (k:Nat)),.v (.int .i64 0),.v (.int .i64 0),.v (.int .i64 0)]),(24,.cells 160 [.v (.string wd),.v (.bool st),.v (.int .i64 ua),.v (.int .i64 ub)])]⟩) ?_ ?_
    ·exact wM (λk=>if k=16 then .key 592 else if k=24 then .key 504 else .key k) aN
    clear hPS x0 x1 hF;cases hK:T7 st f with
    | none=>
     rw[hK]at hE;rw[ffail hE];have hst:st=true:=by
      cases st with
      |false=>unfold T7 at hK;rw[if_neg sI]at hK;cases hK
      |true=>rfl
     subst hst;unfold T7 at hK;rw[if_pos rfl]at hK;obtain⟨b2,o2,t2,rfl,hn2,y2,y3,hF2⟩:=hP2;have hcond:f.length=0\/(¬ t2=sB/\¬ t2=vB):=by
      cases f with
      |nil=>left;rfl
      | cons x q=>
       right;obtain rfl:=y3 x q rfl;simp only at hK;refine⟨λe=>?_,λe=>?_⟩
       ·rw[if_pos e]at hK;cases hK
       ·by_cases e1:t2=sB
        ·rw[if_pos e1]at hK;cases hK
        ·rw[if_neg e1,if_pos e]at hK;cases hK
     refine Wp.seq ?_;refine vR (ck l hs4) aN ?_;refine wC aN (λhc=>?_) (λhc=>?_)
     ·refine Wp.seq ?_;refine wR (ck l hs4) (aa aN y2) ?_ ?_
      ·exact ⟨⟨_, rfl⟩, (fun h => by rcases Nat.eq_zero_or_pos f.length with h0|h0;· simp[h0]at h
                                     ·omega), fun _ => hn2, (fun h => by rcases Nat.eq_zero_or_pos f.length with h0|h0;· simp[h0]at h
                                                                         ·omega),λ_=>hn2⟩
      refine wC aN (λhc=>?_) (λhc=>?_)
      ·skip;refine vR (ck l hs4) aN ?_;refine wZ aN ?_;exact⟨_,_,rfl,λE=>rfl,_,_,rfl,(ev aN),dE⟩
      ·exfalso;have e1:(⟨#[115]⟩:ByteArray)=sB:=rfl;have e2:(⟨#[118]⟩:ByteArray)=vB:=rfl;rw[e1,e2]at hc;rcases hcond with h|⟨h1,h2⟩
       ·simp[h]at hc
       ·simp[h1,h2]at hc
     ·exact absurd hc sI
    | some q=>
     obtain⟨K,f1⟩:=q;rw[hK]at hE;simp only at hE;have hF1:(∀ x∈f1,x.size<=16000000)/\∃ ao1,Iz W1 bs1 ao1 f1/\(st=false->f1=f/\K=0/\ao1=ao2)/\(st=true->∃ t,f=t::f1/\((t=sB/\K=0)\/(t=vB/\¬ t=sB/\K=1))/\ao1=mK ao2 1 1 f.length):=by
      cases st with
      |false=>
       unfold T7 at hK;rw[if_neg sI]at hK;cases hK;exact⟨hsz,ao2,hP2,λ_=>⟨rfl,rfl,rfl⟩,λh=>by cases h⟩
      | true=>
       unfold T7 at hK;rw[if_pos rfl]at hK;cases f with
       |nil=>cases hK
       | cons t q=>
        simp only at hK;have hq:f1=q/\((t=sB/\K=0)\/(t=vB/\¬ t=sB/\K=1)):=by
         by_cases h1:t=sB
         ·rw[if_pos h1]at hK;cases hK;exact⟨rfl,.inl ⟨h1,rfl⟩⟩
         ·rw[if_neg h1]at hK;by_cases h2:t=vB
          ·rw[if_pos h2]at hK;cases hK;exact⟨rfl,.inr ⟨h2,h1,rfl⟩⟩
          ·rw[if_neg h2]at hK;cases hK
        obtain⟨rfl,hq⟩:=hq;have h3:=hP2.rest (a:=1) sI;simp only[List.drop_succ_cons,List.drop_zero]at h3;exact⟨λx hx=>hsz x (by simp[hx]),_,h3,(λh=>by cases h),λ_=>⟨t,rfl,hq,rfl⟩⟩
     obtain⟨hsz1,ao1,hP1,hst0,hst1⟩:=hF1
     refine dB ⟨200,cL [(0,.is (.own 0 0)),(5,.is (.v (.slice ao1 f1.length f1.length))),(7,.is (.own 24 0)),(8,.is (.own 16 0))],cf [(0,.cells 112 [.hd 1,.hd 2,.hd 3,.v (.int .i64 r.src),.v (.int .i64 r.vw),.v (.string s),.v (.int .i64 (r.pl:Nat))]),(1,.row 9 1 r.ty.length ((aS r.ty).map .v)),(2,.row 9 1 r.tx.length ((aS r.tx).map .v)),(3,.row 50 4 r.co.length ((cM r.co).map .v)),(16,.cells 50 [.v (.int .i64 (k:Nat)),.v (.int .i64 K),.v (.int .i64 0),.v (.int .i64 0)]),(24,.cells 160 [.v (.string wd),.v (.bool st),.v (.int .i64 ua),.v (.int .i64 ub)])]⟩ ?_ ?_
     ·skip;cases st with
      |false=>
       obtain⟨rfl,rfl,rfl⟩:=hst0 rfl;refine vR (ck l hs4) aN ?_;refine wC aN (λhc=>?_) (λhc=>?_)
       ·exact absurd hc sI
       refine wK ?_;exact wM (λk=>.key k) aN
      | true=>
       obtain⟨t,rfl,htK,rfl⟩:=hst1 rfl;obtain⟨b2,o2,t2,rfl,hn2,y2,y3,hF2⟩:=hP2;obtain rfl:=y3 t f1 rfl;have e1:(⟨#[115]⟩:ByteArray)=sB:=rfl;have e2:(⟨#[118]⟩:ByteArray)=vB:=rfl;have e3:(⟨#[115,118]⟩:ByteArray)=svS:=rfl;have ht:t2=sB\/t2=vB:=by
        rcases htK with h|h
        ·exact .inl h.1
        ·exact .inr h.1
       have hKi:(if t2=sB then (0:Int) else 1)=K:=by
        rcases htK with h|h
        ·rw[if_pos h.1,h.2]
        ·rw[if_neg h.2.1,h.2.2]
       have hl1:f1.length+1-1=f1.length:=oM;refine vR (ck l hs4) aN ?_;refine wC aN (λhc=>?_) (λhc=>?_)
       ·refine Wp.seq ?_;refine wR (ck l hs4) (iS aN y2 e1 e2) ?_ ?_
        ·exact⟨⟨_,rfl⟩,(λh=>by omega),(λ_=>hn2),(λh=>by omega),λ_=>hn2⟩
        refine wC aN (λhc=>?_) (λhc=>?_)
        ·exfalso;rcases ht with h|h
         ·simp[h]at hc;omega
         ·rw[h]at hc;simp at hc;omega
        refine wK ?_;refine wR (ck l hs4) (iS aN y2 e3 hKi) ?_ ?_
        ·exact⟨oM,hn2,ht,ha1.2.2⟩
        refine wr (ck l hs4) (aa aN hl1) ?_ ?_
        ·omega
        exact wM (λk=>.key k) (aa aN hl1)
       ·exact absurd hc sI
     refine Wp.seq ?_;refine vR (ck l hs4) aN ?_;refine Wp.block ?_
     refine Wp.loop (λp:Nat×List ByteArray×Option Addr×Int×Int=>⟨300,cL [(0,.is (.own 0 0)),(5,.is (.v (.slice p.2.2.1 p.2.1.length p.2.1.length))),(8,.is (.own 16 0)),(78,.is (.hd 32)),(79,.is (.v (.int .i64 2))),(80,.is (.v (.int .i64 (p.1:Nat))))],cf [(0,.cells 112 [.hd 1,.hd 2,.hd 3,.v (.int .i64 r.src),.v (.int .i64 r.vw),.v (.string s),.v (.int .i64 (r.pl:Nat))]),(1,.row 9 1 r.ty.length ((aS r.ty).map .v)),(2,.row 9 1 r.tx.length ((aS r.tx).map .v)),(3,.row 50 4 r.co.length ((cM r.co).map .v)),(16,.cells 50 [.v (.int .i64 (k:Nat)),.v (.int .i64 K),.v (.int .i64 p.2.2.2.1),.v (.int .i64 p.2.2.2.2)]),(32,.row 174 2 2 [.v (.int .i64 ua),.own 16 2,.v (.int .i64 ub),.own 16 3])]⟩)
      (λp=>p.1<=2/\Iz W1 bs1 p.2.2.1 p.2.1/\(∀ x∈p.2.1,x.size<=16000000)/\(p.1=0->p.2.1=f1/\p.2.2.2.1=0/\p.2.2.2.2=0)/\(p.1=1->Nv ua f1=some (p.2.2.2.1,p.2.1)/\p.2.2.2.2=0)/\(p.1=2->tI ua ub f1=some ((p.2.2.2.1,p.2.2.2.2),p.2.1))) (λp=>2-p.1) (0,f1,ao1,0,0) ?_ ⟨sI,hP1,hsz1,λ_=>⟨rfl,rfl,rfl⟩,λh=>by simp at h,λh=>by simp at h⟩ ?_
     ·exact wM (λk=>if k=32 then .key 1664 else .key k) (dx aN (show ((2:Nat):Int)=2 from rfl) (show ((0:Nat):Int)=0 from rfl))
     rintro⟨j,g,ao,A,B⟩ ⟨hj,hG,hgz,p0,p1,p2⟩;dsimp only at hj hG hgz p0 p1 p2 ⊢;refine vR (ck l hs4) aN ?_;refine Wp.seq ?_;refine wC aN (λhc=>?_) (λhc=>?_)
     ·have hj2:j<2:=by
       simp at hc;omega
      obtain⟨b3,o3,t3,rfl,hn3,v2,v3,hF3⟩:=hG;have hG:Iz W1 bs1 (some ⟨b3,o3,none⟩) g:=⟨b3,o3,t3,rfl,hn3,v2,v3,hF3⟩;have hjj:j=0\/j=1:=oM;refine wK ?_;refine Wp.seq (Wp.block ?_);rcases hjj with rfl|rfl
      ·clear p1 p2;have PJ0:=p0 rfl;refine vR (ck l hs4) aN ?_;refine Wp.seq ?_;refine vR (ck l hs4) aN ?_;refine wC aN (λhc=>?_) (λhc=>?_)
       ·have hu:ua=0:=by simpa using hc
        refine wE ?_;refine vr (ck l hs4) aN ?_;refine⟨(1,g,some ⟨b3,o3,none⟩,A,B),⟨sI,hG,hgz,λh=>by simp at h,?_,?_⟩,sI,?_⟩
        ·intro _;obtain⟨h1,h2,h3⟩:=PJ0;dsimp only;rw[hu,Cv,h1,h2];exact⟨rfl,h3⟩
        ·intro h;simp at h
        ·exact wM (λk=>.key k) aN
       have hu:¬ ua=0:=by simpa using hc
       refine wK ?_;refine Wp.seq ?_;refine vR (ck l hs4) aN ?_;refine wC aN (λhc=>?_) (λhc=>?_)
       ·have hg0:g=[]:=by
         have:g.length=0:=by simpa using hc
         exact List.eq_nil_of_length_eq_zero this
        have hE' : yi r.co.length l=(false,[]):=by
         rw[hE];obtain⟨h1,h2,h3⟩:=PJ0;rw[tI,<- h1,hg0,uh ua hu]
        rw[ffail hE'];refine vR (ck l hs4) aN ?_;refine wZ aN ?_;exact⟨_,_,rfl,λE=>rfl,_,_,rfl,(ev aN),dE⟩
       have hgp:0<g.length:=by
        have:¬ g.length=0:=by simpa using hc
        omega
       obtain⟨t,q,rfl⟩:∃ t q,g=t::q:=by
        cases g with
        |nil=>simp at hgp
        |cons t q=>exact⟨t,q,rfl⟩
       obtain rfl:=v3 t q rfl;have hzt:=hgz t3 sI;obtain⟨m1,m2⟩:=nG t3;have hNN:=I4 ua t3 q hu;refine wK ?_;refine wR (ck l hs4) (aa aN v2) ?_ ?_
       ·exact⟨oM,hn3,oM,ha1.2⟩
       refine Wp.seq ?_;refine vR (ck l hs4) aN ?_;refine wC aN (λhc=>?_) (λhc=>?_)
       ·have hno:¬ b9 t3=true:=by rw[<- m1];simpa using hc
        rw[if_neg hno]at hNN;have hE' : yi r.co.length l=(false,[]):=by
         rw[hE];obtain⟨h1,h2,h3⟩:=PJ0;rw[tI,<- h1,hNN]
        rw[ffail hE'];refine vR (ck l hs4) aN ?_;refine wZ aN ?_;exact⟨_,_,rfl,λE=>rfl,_,_,rfl,(ev aN),dE⟩
       have hyes:b9 t3=true:=by rw[<- m1];simpa using hc
       rw[if_pos hyes]at hNN;have hnv:=m2 hyes;have hl1:q.length+1-1=q.length:=oM;have hR3:=hG.rest (a:=1) sI;simp only[List.drop_succ_cons,List.drop_zero,List.length_cons]at hR3;refine wK ?_;refine vR (ck l hs4) aN ?_;refine wr (ck l hs4) (aa aN hl1) ?_ ?_
       ·omega
       refine vr (ck l hs4) aN ?_;refine⟨(1,q,mK (some ⟨b3,o3,none⟩) 1 1 (q.length+1),km t3,B),⟨sI,hR3,λx hx=>hgz x (by simp[hx]),λh=>by simp at h,?_,?_⟩,sI,?_⟩
       ·intro _;obtain⟨h1,h2,h3⟩:=PJ0;dsimp only;rw[<- h1,hNN];exact⟨rfl,h3⟩
       ·intro h;simp at h
       ·exact wM (λk=>.key k) (dx aN hl1 hnv)
      ·clear p0 p2;have PJ1:=p1 rfl;refine vR (ck l hs4) aN ?_;refine Wp.seq ?_;refine vR (ck l hs4) aN ?_;refine wC aN (λhc=>?_) (λhc=>?_)
       ·have hu:ub=0:=by simpa using hc
        refine wE ?_;refine vr (ck l hs4) aN ?_;refine⟨(2,g,some ⟨b3,o3,none⟩,A,B),⟨sI,hG,hgz,λh=>by simp at h,?_,?_⟩,sI,?_⟩
        ·intro h;simp at h
        ·intro _;obtain⟨h1,h2⟩:=PJ1;dsimp only;rw[tI,h1];simp only;rw[hu,Cv,h2]
        ·exact wM (λk=>.key k) aN
       have hu:¬ ub=0:=by simpa using hc
       refine wK ?_;refine Wp.seq ?_;refine vR (ck l hs4) aN ?_;refine wC aN (λhc=>?_) (λhc=>?_)
       ·have hg0:g=[]:=by
         have:g.length=0:=by simpa using hc
         exact List.eq_nil_of_length_eq_zero this
        have hE' : yi r.co.length l=(false,[]):=by
         rw[hE];obtain⟨h1,h2⟩:=PJ1;rw[tI,h1];simp only;rw[hg0,uh ub hu]
        rw[ffail hE'];refine vR (ck l hs4) aN ?_;refine wZ aN ?_;exact⟨_,_,rfl,λE=>rfl,_,_,rfl,(ev aN),dE⟩
       have hgp:0<g.length:=by
        have:¬ g.length=0:=by simpa using hc
        omega
       obtain⟨t,q,rfl⟩:∃ t q,g=t::q:=by
        cases g with
        |nil=>simp at hgp
        |cons t q=>exact⟨t,q,rfl⟩
       obtain rfl:=v3 t q rfl;have hzt:=hgz t3 sI;obtain⟨m1,m2⟩:=nG t3;have hNN:=I4 ub t3 q hu;refine wK ?_;refine wR (ck l hs4) (aa aN v2) ?_ ?_
       ·exact⟨oM,hn3,oM,ha1.2⟩
       refine Wp.seq ?_;refine vR (ck l hs4) aN ?_;refine wC aN (λhc=>?_) (λhc=>?_)
       ·have hno:¬ b9 t3=true:=by rw[<- m1];simpa using hc
        rw[if_neg hno]at hNN;have hE' : yi r.co.length l=(false,[]):=by
         rw[hE];obtain⟨h1,h2⟩:=PJ1;rw[tI,h1];simp only;rw[hNN]
        rw[ffail hE'];refine vR (ck l hs4) aN ?_;refine wZ aN ?_;exact⟨_,_,rfl,λE=>rfl,_,_,rfl,(ev aN),dE⟩
       have hyes:b9 t3=true:=by rw[<- m1];simpa using hc
       rw[if_pos hyes]at hNN;have hnv:=m2 hyes;have hl1:q.length+1-1=q.length:=oM;have hR3:=hG.rest (a:=1) sI;simp only[List.drop_succ_cons,List.drop_zero,List.length_cons]at hR3;refine wK ?_;refine vR (ck l hs4) aN ?_;refine wr (ck l hs4) (aa aN hl1) ?_ ?_
       ·omega
       refine vr (ck l hs4) aN ?_;refine⟨(2,q,mK (some ⟨b3,o3,none⟩) 1 1 (q.length+1),A,km t3),⟨sI,hR3,λx hx=>hgz x (by simp[hx]),λh=>by simp at h,?_,?_⟩,sI,?_⟩
       ·intro h;simp at h
       ·intro _;obtain⟨h1,h2⟩:=PJ1;dsimp only;rw[tI,h1];simp only;rw[hNN]
       ·exact wM (λk=>.key k) (dx aN hl1 hnv)
     ·have hj2:j=2:=by
       simp at hc;omega
      subst hj2;have hAB:=p2 rfl;rw[hAB]at hE;simp only at hE;have hfin:fC r l=(g.isEmpty,{ r with co:=r.co++[(((k:Nat):Int),K,A,B)] }):=by unfold fC;rw[hE]
      have e1:=RM r.co (k:Nat) K A B;have e2:(r.co++[(((k:Nat):Int),K,A,B)]).length=r.co.length+1:=by rw[List.length_append];rfl
      have e3:decide (((g.length:Nat):Int)=0)=g.isEmpty:=by cases g<;>simp<;>omega
      rw[hfin];refine wE ?_;refine A0 (ck l hs4) (aa aN e1) ?_ ?_
      ·exact⟨by unfold maxLen;omega,oM⟩
      refine vR (ck l hs4) (aa aN e3) ?_;refine wZ aN ?_;exact⟨_,_,rfl,λE=>rfl,_,_,rfl,(ev (aa aN e2)),dE⟩
   ·have hk' : k=21:=by
     simp at hc;omega
    subst hk';have hE:yi r.co.length l=(false,[]):=by
     unfold yi;rw[hs];simp only;rw[if_pos heq,VJ hno]
    rw[ffail hE];refine wE ?_;refine vR (ck l hs4) aN ?_;refine wZ aN ?_;exact⟨_,_,rfl,λE=>rfl,_,_,rfl,(ev aN),dE⟩
section
variable (s:ByteArray)(r:Rd)(l:ByteArray)
noncomputable def CJ:Env prog:=⟨λ| 79=>some (lL s r).spec|54=>some (tq 54 fC call54 J2 s r l).spec|_=>none,λ_=>none,λ_ _=>none⟩
theorem YK:(CJ s r l).sp 79=some (lL s r).spec:=rfl
theorem Yk:(CJ s r l).sp 54=some (tq 54 fC call54 J2 s r l).spec:=rfl
end
def oZ:=(ak @List.replicate_succ.{0} @List.replicate_zero.{0} @aq @ae lP lM lA (ak dI dK dJ dG dr dt du (ak dq fq fu ft fh ff fm (ak BG AB BI vA vZ nq mw (ak mL my ma ml mg nw nv (ak mb mS mW @a6 @aw @aD @aE (ak @xk.eq_1 @N1.eq_1 @jC.eq_1 @jC.eq_2 @aX @gf @fS (iS @YK @Yk @lL.eq_1 @tq.eq_1))))))))
theorem vd:IQ 54 fC:=by
 intro s r w fp E F hr ha hs;refine gO (nt:=29) [] hs ?_ ?_ func49 rfl rfl rfl ?_
 ·simp[oz,jC,xk,FV.keys,SV.keys,al,aI.keys,aA]
 ·simp
 refine Wp.block ?_;refine Wp.loop (λr' : Rd=>⟨10,cL [(0,.is (.own 0 0)),(1,.is (.fn (.func 54) [.own 0 0] []))],cf (xk 1 s r')⟩) (λr' => Iv s r' /\ lR fC s r' = lR fC s r) (λr' => s.size-r'.pl) r ?_ ⟨hr,rfl⟩ ?_
 ·simp only[xk];exact wM (λk=>.key k) oZ
 rintro r' ⟨hb,hg⟩;have hb' := hb;obtain⟨⟨n1,n2,n3⟩,n4,n5⟩:=hb;have hle:=im n4;have hst:=cS fC s r';refine Wp.block ?_;by_cases he:bh s r'.pl<s.size
 ·have hlin:jV s r'.pl=.tuple #[.string (cv s r'.pl),.bool true]:=by rw[jV,if_pos he]
  have hlz:(cv s r'.pl).size=bh s r'.pl-r'.pl:=eH _ _ _ hle.2;obtain⟨q1,q2,q3,q4⟩:=GD r' (cv s r'.pl);rw[if_pos he]at hst;generalize hl:cv s r'.pl=l at *;cases ht:fC r' l with
  | mk b r2=>
   rw[ht]at hst q1 q2 q3 q4;simp only at q1 q2 q3 q4;refine wR (CJ s r' l) (aa oZ hlin) ?_ ?_
   ·exact⟨dE,n4,oM⟩
   cases b with
   | false=>
    rw[if_neg sI]at hst;refine Wp.seq ?_;refine wR (CJ s r' l) (aa oZ ht) ?_ ?_
    ·exact⟨⟨⟨hb',oM⟩,ha⟩,dE,sI⟩
    refine wC oZ (λhc=>?_) (λhc=>?_)
    ·refine wZ oZ ?_;rw[<- hg,hst];exact wN (λk=>if k=8 then .key 176 else if k=9 then .key 177 else if k=10 then .key 178 else .key k) oZ
    ·exact absurd hc sI
   |true=>
    rw[if_pos rfl]at hst;have wz:IntKind.i64.wrap ((l.size:Int)+1)=((l.size+1:Nat):Int):=wW;have wa:IntKind.i64.wrap ((r2.pl:Int)+((l.size+1:Nat):Int))=((bh s r'.pl+1:Nat):Int):=wW;refine Wp.seq ?_;refine wR (CJ s r' l) (aa oZ ht) ?_ ?_
    ·exact⟨⟨⟨hb',oM⟩,ha⟩,dE,sI⟩
    refine wC oZ (λhc=>?_) (λhc=>?_)
    ·exact absurd hc sI
    refine wK ?_;refine vr (CJ s r' l) (dx oZ wz wa) ?_;refine⟨{ r2 with pl:=bh s r'.pl+1 },⟨⟨⟨by dsimp only;omega,by dsimp only;omega,by dsimp only;omega⟩,by dsimp only;omega,n5⟩,by rw[<- hst];exact hg⟩,by dsimp only;omega,?_⟩;simp only[xk]
    exact wM (λk=>if k=1 then .key 176 else if k=2 then .key 177 else if k=3 then .key 178 else .key k) oZ
 ·have hlin:jV s r'.pl=.tuple #[.string ⟨#[]⟩,.bool false]:=by rw[jV,if_neg he]
  rw[if_neg he]at hst;refine wR (CJ s r' dP) (aa oZ hlin) ?_ ?_
  ·exact⟨dE,n4,oM⟩
  refine Wp.seq ?_;refine wR (CJ s r' dP) oZ ?_ ?_
  ·exact λh=>by cases h
  refine wC oZ (λhc=>?_) (λhc=>?_)
  ·refine wZ oZ ?_;rw[<- hg,hst];exact wN (λk=>if k=8 then .key 1 else if k=9 then .key 2 else if k=10 then .key 3 else .key k) oZ
  ·exact absurd hc sI
def uF(k:Nat)(b:Bool)(s:ByteArray)(r:Rd):List (Nat×aI):=[(0,.cells 112 [.hd k,.hd (k+1),.hd (k+2),.v (.int .i64 r.src),.v (.int .i64 r.vw),.v (.string s),.v (.int .i64 (r.pl:Nat))]),(k,.row 9 1 r.ty.length ((aS r.ty).map .v)),(k+1,.row 9 1 r.tx.length ((aS r.tx).map .v)),(k+2,.row 50 4 r.co.length ((cM r.co).map .v)),(1,.cells 4 [.v (.bool b)]),(2,.cells 110 [.own 0 0])]
section
variable (s:ByteArray)(r:Rd)(l:ByteArray)
noncomputable def E6:Env prog:=⟨λ| 53=>some (tq 53 ew call53 I2 s r l).spec|_=>none,λ_=>none,λ_ _=>none⟩
theorem WE:(E6 s r l).sp 53=some (tq 53 ew call53 I2 s r l).spec:=rfl
end
def kv(b:Bool)(r:Rd)(l:ByteArray):Bool×Bool×Rd:=if b=true then (false,true,r) else ((ew r l).1,(ew r l).1,(ew r l).2)
def mH:=(ak @List.replicate_succ.{0} @List.replicate_zero.{0} @aq @ae lP lM lA (ak dI dK dJ dG dr dt du (ak dq fq fu ft fh ff fm (ak BG AB BI vA vZ nq mw (ak mL my ma ml mg nw nv (ak mb mS mW @a6 @aw @aD @aE (ak @qh @uF.eq_1 @N1.eq_1 @jC.eq_1 @jC.eq_2 @aX @gf (dx @fS @WE @tq.eq_1))))))))
theorem RF(b:Bool)(s:ByteArray)(r:Rd)(l:ByteArray)(w:World)(fp:List Nat)(E:Nat->Value)(F:Nat->List Nat)(hr:Iv s r)(hl:l.size<=16000000)(ha:ed w (Out fp))(hs:ab w fp E F (cf (uF 3 b s r)) w) :
  Calls prog 52 (ah E [.v (.string l),.own 1 0,.own 2 0]).toArray w λe w' => ∃ E' F',e=.returned (den E' (.v (.bool (kv b r l).1)))/\(∀ k∈[0,1,2],E' k=E k)/\ab w fp E' F' (cf (uF 8 (kv b r l).2.1 s (kv b r l).2.2)) w' := by
 refine gO (nt:=12) [.tmp 4] hs ?_ ?_ func52 rfl rfl rfl ?_
 ·simp[oz,jC,uF,FV.keys,SV.keys,al,aI.keys,aA]
 ·simp
 refine vR (E6 s r l) mH ?_;refine Wp.seq ?_;cases b with
 | true=>
  have e:kv true r l=(false,true,r):=by unfold kv;rw[if_pos rfl]
  rw[e];refine wR (E6 s r l) mH ?_ ?_
  ·exact λh=>by cases h
  refine wC mH (λhc=>?_) (λhc=>?_)
  ·skip;refine vR (E6 s r l) mH ?_;refine wZ mH ?_;exact wN (λk=>if k=8 then .key 3 else if k=9 then .key 4 else if k=10 then .key 5 else .key k) mH
  ·exact absurd hc sI
 | false=>
  have e:kv false r l=((ew r l).1,(ew r l).1,(ew r l).2):=by unfold kv;rw[if_neg sI]
  rw[e];cases ht:ew r l with
  | mk x r2=>
   refine wR (E6 s r l) (aa mH ht) ?_ ?_
   ·exact⟨⟨⟨hr,hl⟩,ha⟩,dE,sI⟩
   cases x with
   | false=>
    refine wC mH (λhc=>?_) (λhc=>?_)
    ·skip;refine vR (E6 s r l) mH ?_;refine wZ mH ?_;exact wN (λk=>if k=8 then .key 48 else if k=9 then .key 49 else if k=10 then .key 50 else .key k) mH
    ·exact absurd hc sI
   |true=>
    refine wC mH (λhc=>?_) (λhc=>?_)
    ·exact absurd hc sI
    refine wK ?_;refine vR (E6 s r l) mH ?_;refine vR (E6 s r l) mH ?_;refine wZ mH ?_;exact wN (λk=>if k=8 then .key 48 else if k=9 then .key 49 else if k=10 then .key 50 else .key k) mH
def Se(b:Bool)(s:ByteArray)(r:Rd)(l:ByteArray):qu prog 52 where
 args:=[.v (.string l),.own 1 0,.own 2 0]
 L:=uF 3 b s r
 val:=.v (.bool (kv b r l).1)
 L' := uF 8 (kv b r l).2.1 s (kv b r l).2.2
 dC:=[0,1,2]
 pre:=λW bs=>(Iv s r/\l.size<=16000000)/\ed W (Out bs)
 low:=by simp[uF]
 kept:=by simp[uF]
 vk:=by simp[SV.keys,al]
 lk:=by simp[uF,aI.keys,SV.keys,al,aA,fresh]
 nd:=by simp[uF]
 enters:=call52
 ok:=by
  intro W w bs fp E F hk hm hs hp;exact RF b s r l w fp E F hp.1.1 hp.1.2 (hp.2.cP hk hm) hs
section
variable (b:Bool)(s:ByteArray)(r:Rd)(l:ByteArray)
noncomputable def Eh:Env prog:=⟨λ| 79=>some (lL s r).spec|52=>some ((Se b s r l).spec [0,1,2,3,4,5])|_=>none,λ_=>none,λ_ _=>none⟩
theorem XH:(Eh b s r l).sp 79=some (lL s r).spec:=rfl
theorem Uu:(Eh b s r l).sp 52=some ((Se b s r l).spec [0,1,2,3,4,5]):=rfl
end
theorem abl(b:Bool)(r:Rd)(l:ByteArray):(kv b r l).2.2.pl=r.pl/\(kv b r l).2.2.ty.length<=r.ty.length+1/\(kv b r l).2.2.tx.length<=r.tx.length+1/\(kv b r l).2.2.co.length<=r.co.length+1:=by
 unfold kv;split
 ·exact⟨rfl,Nat.le_succ _,Nat.le_succ _,Nat.le_succ _⟩
 ·exact Tz r l
def px:=(ak mH @XH @Uu @lL.eq_1 @Se.eq_1 @sT.eq_1 @fz.eq_1 (ak @fz.eq_2 @fg.eq_1 @fg.eq_2 @fg.eq_3 @fg.eq_4 @fg.eq_5 @fg.eq_6 (ak @fg.eq_7 @fg.eq_8 @jT.eq_1 @jT.eq_2 @ep.eq_1 @ep.eq_2 @fZ.eq_1 (ak @fZ.eq_2 @fP.eq_1 @fP.eq_2 @fP.eq_3 @pF.eq_1 @mp.eq_1 @fV (aa @gf @fS)))))
theorem KZ(s:ByteArray)(r:Rd)(w:World)(fp:List Nat)(E:Nat->Value)(F:Nat->List Nat)(hr:Iv s r)(ha:ed w (Out fp))(hs:ab w fp E F (cf (uF 3 false s r)) w) :
  Calls prog 49 (ah E [.own 0 0,.fn (.func 52) [] [.own 1 0,.own 2 0]]).toArray w λe w' => ∃ E' F',e=.returned (den E' (.tup []))/\(∀ k∈[0,1,2],E' k=E k)/\ab w fp E' F' (cf (uF 8 (pE s r).1 s (pE s r).2)) w' := by
 refine gO (nt:=29) [] hs ?_ ?_ func49 rfl rfl rfl ?_
 ·simp[oz,jC,uF,FV.keys,SV.keys,al,aI.keys,aA]
 ·simp
 refine Wp.block ?_;refine Wp.loop (λq:Bool×Rd=>⟨10,cL [(0,.is (.own 0 0)),(1,.is (.fn (.func 52) [] [.own 1 0,.own 2 0]))],cf (uF 3 q.1 s q.2)⟩) (λq=>Iv s q.2/\((q.1=false/\q.2=r)\/(q.1=true/\pE s r=(true,q.2)))) (λq=>s.size-q.2.pl) (false,r) ?_ ⟨hr,.inl ⟨rfl,rfl⟩⟩ ?_
 ·simp only[uF];exact wM (λk=>.key k) px
 rintro⟨b,r'⟩ ⟨hb,hg⟩;dsimp only at hb hg ⊢;have hb' := hb;obtain⟨⟨n1,n2,n3⟩,n4,n5⟩:=hb;have hle:=im n4;refine Wp.block ?_;by_cases he:bh s r'.pl<s.size
 ·have hlin:jV s r'.pl=.tuple #[.string (cv s r'.pl),.bool true]:=by rw[jV,if_pos he]
  have hlz:(cv s r'.pl).size=bh s r'.pl-r'.pl:=eH _ _ _ hle.2;obtain⟨q1,q2,q3,q4⟩:=abl b r' (cv s r'.pl);have hon:b=false->pE s r' = if (ew r' (cv s r'.pl)).1=true then (true,{ (ew r' (cv s r'.pl)).2 with pl:=bh s r'.pl+1 }) else (false,(ew r' (cv s r'.pl)).2):=λ_=>by unfold pE;rw[if_pos he]
  have htk:b=true->kv b r' (cv s r'.pl)=(false,true,r'):=λh=>by unfold kv;rw[if_pos h]
  have htk0:b=false->kv b r' (cv s r'.pl)=((ew r' (cv s r'.pl)).1,(ew r' (cv s r'.pl)).1,(ew r' (cv s r'.pl)).2):=λh=>by unfold kv;rw[if_neg (by simp[h])]
  generalize hl:cv s r'.pl=l at *;cases ht:kv b r' l with
  | mk x q=>
   obtain⟨b2,r2⟩:=q;rw[ht]at q1 q2 q3 q4;simp only at q1 q2 q3 q4;refine wR (Eh b s r' l) (aa px hlin) ?_ ?_
   ·exact⟨dE,n4,oM⟩
   cases x with
   | false=>
    have hres:pE s r=(b2,r2):=by
     rcases hg with ⟨rfl,rfl⟩|⟨rfl,h⟩
     ·have h0:=htk0 rfl;rw[ht]at h0;rw[hon rfl];simp only[Prod.mk.injEq]at h0;rw[if_neg (by rw[<- h0.1];simp),<- h0.2.2,h0.2.1,<- h0.1]
     ·have h0:=htk rfl;rw[ht]at h0;simp only[Prod.mk.injEq]at h0;rw[h,h0.2.1,h0.2.2]
    refine Wp.seq ?_;refine wR (Eh b s r' l) (aa px ht) ?_ ?_
    ·exact⟨dE,⟨hb',oM⟩,ha⟩
    refine wC px (λhc=>?_) (λhc=>?_)
    ·refine wZ px ?_;rw[hres];exact wN (λk=>if k=8 then .key 176 else if k=9 then .key 177 else if k=10 then .key 178 else .key k) px
    ·exact absurd hc sI
   | true=>
    have hbf:b=false:=by
     cases b with
     |false=>rfl
     |true=>have h0:=htk rfl;rw[ht]at h0;cases h0
    have h0:=htk0 hbf;rw[ht]at h0;simp only[Prod.mk.injEq]at h0;obtain⟨h01,h02,h03⟩:=h0;have hb2:b2=true:=by rw[h02,<- h01]
    subst hb2;have hr' : r' = r:=by
     rcases hg with ⟨_,h⟩|⟨h,_⟩
     ·exact h
     ·rw[hbf]at h;cases h
    have hres:pE s r=(true,{ r2 with pl:=bh s r'.pl+1 }):=by
     rw[<- hr',hon hbf,if_pos h01.symm,<- h03]
    have wz:IntKind.i64.wrap ((l.size:Int)+1)=((l.size+1:Nat):Int):=wW;have wa:IntKind.i64.wrap ((r2.pl:Int)+((l.size+1:Nat):Int))=((bh s r'.pl+1:Nat):Int):=wW;refine Wp.seq ?_;refine wR (Eh b s r' l) (aa px ht) ?_ ?_
    ·exact⟨dE,⟨hb',oM⟩,ha⟩
    refine wC px (λhc=>?_) (λhc=>?_)
    ·exact absurd hc sI
    refine wK ?_;refine vr (Eh b s r' l) (dx px wz wa) ?_;refine⟨(true,{ r2 with pl:=bh s r'.pl+1 }),⟨⟨⟨by dsimp only;omega,by dsimp only;omega,by dsimp only;omega⟩,by dsimp only;omega,n5⟩,.inr ⟨rfl,hres⟩⟩,by dsimp only;omega,?_⟩;simp only[uF]
    exact wM (λk=>if k=3 then .key 176 else if k=4 then .key 177 else if k=5 then .key 178 else .key k) px
 ·have hlin:jV s r'.pl=.tuple #[.string ⟨#[]⟩,.bool false]:=by rw[jV,if_neg he]
  have hres:pE s r=(b,r'):=by
   rcases hg with ⟨rfl,rfl⟩|⟨rfl,h⟩
   ·unfold pE;rw[if_neg he]
   ·exact h
  refine wR (Eh b s r' dP) (aa px hlin) ?_ ?_
  ·exact⟨dE,n4,oM⟩
  refine Wp.seq ?_;refine wR (Eh b s r' dP) px ?_ ?_
  ·exact λh=>by cases h
  refine wC px (λhc=>?_) (λhc=>?_)
  ·refine wZ px ?_;rw[hres];exact wN (λk=>if k=8 then .key 3 else if k=9 then .key 4 else if k=10 then .key 5 else .key k) px
  ·exact absurd hc sI
def G5(s:ByteArray)(r:Rd):qu prog 49 where
 args:=[.own 0 0,.fn (.func 52) [] [.own 1 0,.own 2 0]]
 L:=uF 3 false s r
 val:=.tup []
 L' := uF 8 (pE s r).1 s (pE s r).2
 dC:=[0,1,2]
 pre:=λW bs=>Iv s r/\ed W (Out bs)
 low:=by simp[uF]
 kept:=by simp[uF]
 vk:=by simp[SV.keys,al]
 lk:=by simp[uF,aI.keys,SV.keys,al,aA,fresh]
 nd:=by simp[uF]
 enters:=call49
 ok:=by
  intro W w bs fp E F hk hm hs hp;exact KZ s r w fp E F hp.1 (hp.2.cP hk hm) hs
def GB(T k:Nat)(p:Pg):List (Nat×aI):=[(k,.row 9 1 p.ty.length ((aS p.ty).map .v)),(k+1,.row 9 1 p.tx.length ((aS p.tx).map .v)),(k+2,.row T 4 p.co.length ((cM p.co).map .v))]
def Y3(k:Nat)(p:Pg):SV:=.agg [.hd k,.hd (k+1),.hd (k+2),.v (.int .i64 p.src),.v (.int .i64 p.vw)]
theorem HO{W w:World}{fp:List Nat}{E:Nat->Value}{F:Nat->List Nat}{h:Hp}{k:Nat}{T:TypeId}{s n:Nat}{vs:List Value}(hs:ab W fp E F h w)(hk:h k=some (.row T s n (vs.map .v))):∃ ao c,den E (.hd k)=.slice ao n c/\kt w ao vs:=by
 obtain⟨ao,c,h1,h2,_⟩:=JR (bs' := []) hs hk (λb _=>by simp);refine⟨ao,c,?_,?_⟩
 ·show hv (E k)=_;rw[h1];rfl
 ·rw[an]at h2;exact h2.is
theorem Nx{W w:World}{fp:List Nat}{E:Nat->Value}{F:Nat->List Nat}{h:Hp}{T k:Nat}{p:Pg}(hs:ab W fp E F h w)(h0:h k=some (.row 9 1 p.ty.length ((aS p.ty).map .v)))(h1:h (k+1)=some (.row 9 1 p.tx.length ((aS p.tx).map .v)))(h2:h (k+2)=some (.row T 4 p.co.length ((cM p.co).map .v))) :
  ∃ a1 a2 a3 c1 c2 c3,den E (Y3 k p)=CD p a1 a2 a3 c1 c2 c3/\kt w a1 (aS p.ty)/\kt w a2 (aS p.tx)/\kt w a3 (cM p.co):=by
 obtain⟨a1,c1,e1,g1⟩:=HO hs h0;obtain⟨a2,c2,e2,g2⟩:=HO hs h1;obtain⟨a3,c3,e3,g3⟩:=HO hs h2;refine⟨a1,a2,a3,c1,c2,c3,?_,g1,g2,g3⟩;simp only[Y3,den,ah]at e1 e2 e3 ⊢;rw[e1,e2,e3]
theorem acD(T:Nat)(p:Pg):cf (GB T 0 p) 0=some (.row 9 1 p.ty.length ((aS p.ty).map .v)):=rfl
theorem ad6(T:Nat)(p:Pg):cf (GB T 0 p) (0+1)=some (.row 9 1 p.tx.length ((aS p.tx).map .v)):=rfl
theorem adq(T:Nat)(p:Pg):cf (GB T 0 p) (0+2)=some (.row T 4 p.co.length ((cM p.co).map .v)):=rfl
def ID(p:Pg)(hb:PgB p):qu prog 34 where
 args:=[Y3 0 p]
 L:=GB 50 0 p
 val:=.v (vN (fw p))
 L' := GB 50 0 p
 dC:=[0,1,2]
 pre:=λW bs=>c8 W (Out bs)
 low:=by simp[GB]
 kept:=by simp[GB]
 vk:=by simp[SV.keys]
 lk:=by simp[GB,aI.keys,aA]
 nd:=by simp[GB]
 enters:=call34
 ok:=by
  intro W w bs fp E F hk hm hs hp;obtain⟨a1,a2,a3,c1,c2,c3,he,g1,g2,g3⟩:=Nx hs (acD 50 p) (ad6 50 p) (adq 50 p);simp only[ah,he];exact (yY p a1 a2 a3 c1 c2 c3 w ⟨hb,g1,g2,g3⟩ (hp.cP hk sI)).mono λe w' ⟨h1,h2⟩=>⟨E,F,h1,λ_ _=>rfl,hs.grow h2⟩
theorem xO(s:ByteArray){tk:G9}(P:Rd->Prop)(h1:∀ r,P r->bh s r.pl<s.size->(tk r (cv s r.pl)).1=true->P { (tk r (cv s r.pl)).2 with pl:=bh s r.pl+1 })(r:Rd)(h:P r) :
  P (lR tk s r)\/∃ r',P r' /\ bh s r'.pl<s.size/\(tk r' (cv s r'.pl)).1=false/\lR tk s r=(tk r' (cv s r'.pl)).2:=by
 have key:∀ n r,P r->P (iI tk s n r)\/∃ r',P r' /\ bh s r'.pl<s.size/\(tk r' (cv s r'.pl)).1=false/\iI tk s n r=(tk r' (cv s r'.pl)).2:=by
  intro n
  induction n with
  |zero=>intro r h;exact .inl h
  | succ n ih=>
   intro r h;rw[iI];by_cases he:bh s r.pl<s.size
   ·rw[if_pos he];by_cases ht:(tk r (cv s r.pl)).1=true
    ·rw[if_pos ht];exact ih _ (h1 r h he ht)
    ·rw[if_neg ht];exact .inr ⟨r,h,he,by simpa using ht,rfl⟩
   ·rw[if_neg he];exact .inl h
 exact key _ r h
def Cp(s:ByteArray)(r:Rd):Prop:=Iv s r/\∀ t∈r.ty,t.size<=s.size
theorem R4(s:ByteArray){i:Nat}(hi:i<=s.size):(cv s i).size<=s.size:=by
 have:=im hi;unfold cv;rw[eH _ _ _ this.2];omega
theorem qg{s:ByteArray}{r r2:Rd}(h:Iv s r)(he:bh s r.pl<s.size)(q:r2.pl=r.pl/\r2.ty.length<=r.ty.length+1/\r2.tx.length<=r.tx.length+1/\r2.co.length<=r.co.length+1):Iv s { r2 with pl:=bh s r.pl+1 }:=by
 obtain⟨⟨n1,n2,n3⟩,n4,n5⟩:=h;have:=im n4;exact⟨⟨by dsimp only;omega,by dsimp only;omega,by dsimp only;omega⟩,by dsimp only;omega,n5⟩
theorem Jq{s:ByteArray}{r:Rd}(h:Cp s r):Cp s (lR dH s r):=by
 have key:∀ r,Cp s r->bh s r.pl<s.size->(dH r (cv s r.pl)).1=true->Cp s { (dH r (cv s r.pl)).2 with pl:=bh s r.pl+1 }:=λr h he ht=>by
  refine⟨qg h.1 he (TH r _),λt ht' => ?_⟩;have ht' : t∈(dH r (cv s r.pl)).2.ty:=ht';unfold dH at ht';split at ht'
  ·rcases List.mem_append.1 ht' with hh|hh
   ·exact h.2 t hh
   ·rw[List.mem_singleton.1 hh];have h1:=Jy (cY (cv s r.pl) bC) ur;have h2:=B5 (cv s r.pl) bC;have h3:=R4 s h.1.2.1;omega
  ·exact h.2 t ht'
 rcases xO s (tk:=dH) (Cp s) key r h with g|⟨r',g,he,ht,e⟩
 ·exact g
 ·rw[e];unfold dH at ht ⊢;split at ht
  ·cases ht
  ·rename_i hn;rw[if_neg hn];exact g
theorem Kl{s:ByteArray}{r:Rd}(h:Cp s r):Cp s (lR cX s r):=by
 have key:∀ r,Cp s r->bh s r.pl<s.size->(cX r (cv s r.pl)).1=true->Cp s { (cX r (cv s r.pl)).2 with pl:=bh s r.pl+1 }:=λr h he ht=>by
  refine⟨qg h.1 he (Px r _),λt ht' => ?_⟩;have ht' : t∈(cX r (cv s r.pl)).2.ty:=ht';unfold cX at ht';split at ht' <;> exact h.2 t ht'
 rcases xO s (tk:=cX) (Cp s) key r h with g|⟨r',g,he,ht,e⟩
 ·exact g
 ·rw[e];unfold cX at ht ⊢;split at ht
  ·cases ht
  ·rename_i hn;rw[if_neg hn];exact g
theorem ZB{s:ByteArray}{r:Rd}(h:Cp s r):Cp s (pE s r).2:=by
 obtain⟨q1,q2,q3,q4,_⟩:=Cj r (cv s r.pl);unfold pE;split
 ·rename_i he;split
  ·exact⟨qg h.1 he (Tz r _),λt ht=>h.2 t (by rw[<- q1];exact ht)⟩
  ·obtain⟨⟨n1,n2,n3⟩,n4,n5⟩:=h.1;exact⟨⟨⟨by rw[q1,q4];exact n1,by rw[q2,q4];exact n2,by rw[q3,q4];exact n3⟩,by rw[q4];exact n4,n5⟩,λt ht=>h.2 t (by rw[<- q1];exact ht)⟩
 ·exact h
def RdU(s:ByteArray)(r:Rd):Prop:=(r.ty.length<=r.pl+1/\r.tx.length<=r.pl+1/\r.co.length<=r.pl+1)/\r.pl<=s.size/\∀ t∈r.ty,t.size<=s.size
theorem Cp.u{s:ByteArray}{r:Rd}(h:Cp s r):RdU s r:=by
 obtain⟨⟨⟨n1,n2,n3⟩,n4,n5⟩,h2⟩:=h;exact⟨⟨oM,oM,oM⟩,n4,h2⟩
theorem Vo{s:ByteArray}{r:Rd}(h:Cp s r):RdU s (lR fC s r):=by
 rcases xO s (tk:=fC) (Cp s) (λr h he ht=>⟨qg h.1 he (GD r _),λt ht' => h.2 t ht'⟩) r h with g|⟨r',g,he,ht,e⟩
 ·exact g.u
 ·rw[e];obtain⟨q1,q2,q3,q4⟩:=GD r' (cv s r'.pl);obtain⟨⟨⟨n1,n2,n3⟩,n4,n5⟩,h2⟩:=g;exact⟨⟨oM,oM,oM⟩,oM,λt ht=>h2 t ht⟩
theorem OJ{s:ByteArray}(hs:s.size<=16000000):Cp s mu:=⟨⟨⟨Nat.zero_le _,Nat.zero_le _,Nat.zero_le _⟩,Nat.zero_le _,hs⟩,λt ht=>by cases ht⟩
theorem Zj{s:ByteArray}(hs:s.size<=16000000):Cp s (H4 s).2:=ZB (Kl (Jq (OJ hs)))
theorem ZP{s:ByteArray}(hs:s.size<=16000000):RdU s (j4 s):=by
 unfold j4;split
 ·exact Vo (Zj hs)
 ·exact (Zj hs).u
theorem ac5{s:ByteArray}(hs:s.size<=16000000):PgB (j4 s).pg:=by
 obtain⟨⟨n1,n2,n3⟩,n4,h2⟩:=ZP hs;exact⟨by show (j4 s).ty.length<=_;omega,by show (j4 s).tx.length<=_;omega,by show (j4 s).co.length<=_;omega,λt ht=>by have:=h2 t ht;omega⟩
section
variable (s:ByteArray)(r:Rd)(p:Pg)(hb:PgB p)
noncomputable def adw:Env prog:=⟨λ| 49=>some ((o7 50 dH wD s r).spec [24,25,26,27])|_=>none,λ_=>none,λ_ _=>none⟩
theorem VU:(adw s r).sp 49=some ((o7 50 dH wD s r).spec [24,25,26,27]):=rfl
noncomputable def ac9:Env prog:=⟨λ| 49=>some ((o7 51 cX uU s r).spec [24,25,26,27])|_=>none,λ_=>none,λ_ _=>none⟩
theorem Us:(ac9 s r).sp 49=some ((o7 51 cX uU s r).spec [24,25,26,27]):=rfl
noncomputable def adD:Env prog:=⟨λ| 49=>some ((o7 54 fC vd s r).spec [24,25,26,27])|_=>none,λ_=>none,λ_ _=>none⟩
theorem WW:(adD s r).sp 49=some ((o7 54 fC vd s r).spec [24,25,26,27]):=rfl
noncomputable def adv:Env prog:=⟨λ| 49=>some ((G5 s r).spec [24,32,16,25,26,27])|_=>none,λ_=>none,λ_ _=>none⟩
theorem US:(adv s r).sp 49=some ((G5 s r).spec [24,32,16,25,26,27]):=rfl
noncomputable def Wq:Env prog:=⟨λ| 34=>some ((ID p hb).spec [25,26,27])|_=>none,λ| 39=>some o8|_=>none,λ_ _=>none⟩
theorem VC:(Wq p hb).sp 34=some ((ID p hb).spec [25,26,27]):=rfl
theorem MG:(Wq p hb).eqs 39=some o8:=rfl
end
theorem Zl(z:Rd):z.pg.ty=z.ty:=rfl
theorem Y5(z:Rd):z.pg.tx=z.tx:=rfl
theorem Y2(z:Rd):z.pg.co=z.co:=rfl
theorem OM(z:Rd):z.pg.src=z.src:=rfl
theorem ZE(z:Rd):z.pg.vw=z.vw:=rfl
def lp(q:Int×Int×ByteArray):SV:=.agg [.v (.int .i64 q.1),.v (.int .i64 q.2.1),.v (.string q.2.2)]
def dm:=(ak @List.replicate_succ.{0} @List.replicate_zero.{0} @aq @ae lP lM lA (ak dI dK dJ dG dr dt du (ak dq fq fu ft fh ff fm (ak wA xW vm vT Cb Bw Az (ak B7 s6 tN sZ tu tp tO (ak tj tM s3 vC vF vv uD (ak uL uA xM xm vS vU vb (ak vP uN yb vV u5 xo xZ (ak mU BG AB BI nq mw mL (ak my ma ml mg nw nv mb (ak mS mW @a6 @aw @aD @aE @qh (ak @sT.eq_1 @fz.eq_1 @fz.eq_2 @fg.eq_1 @fg.eq_2 @fg.eq_3 @fg.eq_4 (ak @fg.eq_5 @fg.eq_6 @fg.eq_7 @fg.eq_8 @jT.eq_1 @jT.eq_2 @ep.eq_1 (ak @ep.eq_2 @fZ.eq_1 @fZ.eq_2 @fP.eq_1 @fP.eq_2 @fP.eq_3 @pF.eq_1 (ak @mp.eq_1 @fV @gf @fS @xk.eq_1 @uF.eq_1 @GB.eq_1 (ak @Y3.eq_1 @jC.eq_1 @jC.eq_2 @pn @vN.eq_1 @tK.eq_1 @fc.eq_1 (ak @VU @Us @WW @US @VC @MG @o7.eq_1 (aa @G5.eq_1 @ID.eq_1))))))))))))))))))
theorem FJ(s:ByteArray)(w:World)(fp:List Nat)(E:Nat->Value)(F:Nat->List Nat)(ha:ed w (Out fp))(hs:ab w fp E F (cf []) w)(hz:s.size<=9223372036854775807) :
  Calls prog 20 (ah E [.v (.string s)]).toArray w λe w' => ∃ E' F',e=.returned (den E' (.tup [Y3 8 (A6 s).1,lp (A6 s).2]))/\(∀ k∈([]:List Nat),E' k=E k)/\ab w fp E' F' (cf (GB 50 8 (A6 s).1)) w' := by
 refine gO (nt:=85) [.cell 2 29,.cell 3 39] hs ?_ ?_ func20 rfl rfl rfl ?_
 ·simp[oz,jC,FV.keys,SV.keys]
 ·simp
 refine vR Γ0 dm ?_;refine Wp.seq ?_;refine vR Γ0 dm ?_;refine wC dm (λhc=>?_) (λhc=>?_)
 ·have h8:8388608<s.size:=by
   simp at hc;omega
  have e:A6 s=(eu,1,0,dP):=by unfold A6;rw[if_pos h8]
  rw[e];refine vR Γ0 dm ?_;refine wZ dm ?_;exact wN (λk=>.nil) (oR dm @eu.eq_1 @dP.eq_1 @lp.eq_1 @aS.eq_1 @cM.eq_1)
 have h8:¬ 8388608<s.size:=by
  simp at hc;omega
 have hs16:s.size<=16000000:=oM;have t1:=Jq (OJ hs16);have t2:=Kl t1;have t3:=ZB t2;have tU:=ZP hs16;have tB:=ac5 hs16;have ecp:A6 s=if (H4 s).1=false\/(j4 s).pl<s.size then (eu,110,((j4 s).pl:Int),dP)
  else if (131072<(j4 s).ty.length\/131072<(j4 s).tx.length)\/131072<(j4 s).co.length then (eu,24,0,dP)
  else if fw (j4 s).pg=(0,0,dP) then ((j4 s).pg,0,0,dP) else (eu,fw (j4 s).pg):=by unfold A6;rw[if_neg h8]
 refine wK ?_;refine vR Γ0 dm ?_
 refine Wp.Il (σ' := ⟨60,cL [(0,.is (.v (.string s))),(2,.is (.own 0 0)),(3,.is (.own 8 0)),(4,.is (.own 16 0))],cf [(0,.cells 29 [.v fc,.v fc,.v fc,.v (.int .i64 0),.v (.int .i64 0)]),(8,.cells 39 [.v (.int .i64 0),.v (.int .i64 0),.v (.string ⟨#[]⟩)]),(16,.cells 110 [.own 24 0]),(24,.cells 112 [.hd 25,.hd 26,.hd 27,.v (.int .i64 mu.src),.v (.int .i64 mu.vw),.v (.string s),.v (.int .i64 (mu.pl:Nat))]),(25,.row 9 1 mu.ty.length ((aS mu.ty).map .v)),(26,.row 9 1 mu.tx.length ((aS mu.tx).map .v)),(27,.row 50 4 mu.co.length ((cM mu.co).map .v))]⟩) ?_ ?_
 ·exact wM (λk=>if k=0 then .key 8 else if k=8 then .key 16 else if k=16 then .key 72 else if k=24 then .key 64 else if k=25 then .nil else if k=26 then .nil else if k=27 then .nil else .key k) (oR dm @mu.eq_1 @aS.eq_1 @cM.eq_1 @List.flatMap_nil.{0,0} (show ((0:Nat):Int)=0 from rfl))
 refine wR (adw s mu) dm ?_ ?_
 ·exact⟨dE,(OJ hs16).1,ha⟩
 generalize hr1:lR dH s mu=r1 at *
 refine Wp.Il (σ' := ⟨90,cL [(0,.is (.v (.string s))),(2,.is (.own 0 0)),(3,.is (.own 8 0)),(4,.is (.own 16 0))],cf [(0,.cells 29 [.v fc,.v fc,.v fc,.v (.int .i64 0),.v (.int .i64 0)]),(8,.cells 39 [.v (.int .i64 0),.v (.int .i64 0),.v (.string ⟨#[]⟩)]),(16,.cells 110 [.own 24 0]),(24,.cells 112 [.hd 25,.hd 26,.hd 27,.v (.int .i64 r1.src),.v (.int .i64 r1.vw),.v (.string s),.v (.int .i64 (r1.pl:Nat))]),(25,.row 9 1 r1.ty.length ((aS r1.ty).map .v)),(26,.row 9 1 r1.tx.length ((aS r1.tx).map .v)),(27,.row 50 4 r1.co.length ((cM r1.co).map .v))]⟩) ?_ ?_
 ·exact wM (λk=>if k=25 then .key 504 else if k=26 then .key 505 else if k=27 then .key 506 else .key k) dm
 refine wR (ac9 s r1) dm ?_ ?_
 ·exact⟨dE,t1.1,ha⟩
 generalize hr2:lR cX s r1=r2 at *;refine vR Γ0 dm ?_
 refine Wp.Il (σ' := ⟨120,cL [(0,.is (.v (.string s))),(2,.is (.own 0 0)),(3,.is (.own 8 0)),(4,.is (.own 16 0)),(5,.is (.own 32 0))],cf [(0,.cells 29 [.v fc,.v fc,.v fc,.v (.int .i64 0),.v (.int .i64 0)]),(8,.cells 39 [.v (.int .i64 0),.v (.int .i64 0),.v (.string ⟨#[]⟩)]),(16,.cells 110 [.own 24 0]),(32,.cells 4 [.v (.bool false)]),(24,.cells 112 [.hd 25,.hd 26,.hd 27,.v (.int .i64 r2.src),.v (.int .i64 r2.vw),.v (.string s),.v (.int .i64 (r2.pl:Nat))]),(25,.row 9 1 r2.ty.length ((aS r2.ty).map .v)),(26,.row 9 1 r2.tx.length ((aS r2.tx).map .v)),(27,.row 50 4 r2.co.length ((cM r2.co).map .v))]⟩) ?_ ?_
 ·exact wM (λk=>if k=25 then .key 744 else if k=26 then .key 745 else if k=27 then .key 746 else if k=32 then .key 752 else .key k) dm
 refine wR (adv s r2) dm ?_ ?_
 ·exact⟨dE,t2.1,ha⟩
 have hM:H4 s=pE s r2:=by unfold H4;rw[hr1,hr2]
 rw[hM]at ecp;generalize hon:pE s r2=q at *;obtain⟨b,r3⟩:=q;simp only at t3 ecp;have hZ:j4 s=if b=true then lR fC s r3 else r3:=by unfold j4;rw[hM]
 refine Wp.Il (σ' := ⟨150,cL [(0,.is (.v (.string s))),(2,.is (.own 0 0)),(3,.is (.own 8 0)),(4,.is (.own 16 0)),(5,.is (.own 32 0))],cf [(0,.cells 29 [.v fc,.v fc,.v fc,.v (.int .i64 0),.v (.int .i64 0)]),(8,.cells 39 [.v (.int .i64 0),.v (.int .i64 0),.v (.string ⟨#[]⟩)]),(16,.cells 110 [.own 24 0]),(32,.cells 4 [.v (.bool b)]),(24,.cells 112 [.hd 25,.hd 26,.hd 27,.v (.int .i64 r3.src),.v (.int .i64 r3.vw),.v (.string s),.v (.int .i64 (r3.pl:Nat))]),(25,.row 9 1 r3.ty.length ((aS r3.ty).map .v)),(26,.row 9 1 r3.tx.length ((aS r3.tx).map .v)),(27,.row 50 4 r3.co.length ((cM r3.co).map .v))]⟩) ?_ ?_
 ·exact wM (λk=>if k=25 then .key 976 else if k=26 then .key 977 else if k=27 then .key 978 else .key k) dm
 refine dB ⟨200,cL [(0,.is (.v (.string s))),(2,.is (.own 0 0)),(3,.is (.own 8 0)),(4,.is (.own 16 0)),(5,.is (.own 32 0))],cf [(0,.cells 29 [.v fc,.v fc,.v fc,.v (.int .i64 0),.v (.int .i64 0)]),(8,.cells 39 [.v (.int .i64 0),.v (.int .i64 0),.v (.string ⟨#[]⟩)]),(16,.cells 110 [.own 24 0]),(32,.cells 4 [.v (.bool b)]),(24,.cells 112 [.hd 25,.hd 26,.hd 27,.v (.int .i64 (j4 s).src),.v (.int .i64 (j4 s).vw),.v (.string s),.v (.int .i64 ((j4 s).pl:Nat))]),(25,.row 9 1 (j4 s).ty.length ((aS (j4 s).ty).map .v)),(26,.row 9 1 (j4 s).tx.length ((aS (j4 s).tx).map .v)),(27,.row 50 4 (j4 s).co.length ((cM (j4 s).co).map .v))]⟩ ?_ ?_
 ·skip;refine vR Γ0 dm ?_;cases b with
  | true=>
   refine wC dm (λhc=>?_) (λhc=>?_)
   ·rw[if_pos rfl]at hZ;rw[hZ];refine wr (adD s r3) dm ?_ ?_
    ·exact⟨dE,t3.1,ha⟩
    exact wM (λk=>if k=25 then .key 1232 else if k=26 then .key 1233 else if k=27 then .key 1234 else .key k) dm
   ·exact absurd hc sI
  |false=>
   refine wC dm (λhc=>?_) (λhc=>?_)
   ·exact absurd hc sI
   rw[if_neg sI]at hZ;rw[hZ];refine wK ?_;exact wM (λk=>.key k) dm
 clear hZ;generalize j4 s=z at *;obtain⟨⟨m1,m2,m3⟩,m4,m5⟩:=tU;refine Wp.seq ?_;refine vR Γ0 dm ?_;refine wC dm (λhc=>?_) (λhc=>?_)
 ·have hbad:b=false\/z.pl<s.size:=by
   cases b with
   |false=>exact .inl rfl
   |true=>
    right;simpa using hc
  rw[if_pos hbad]at ecp;rw[ecp];refine JM Γ0 dm ?_;refine wZ dm ?_;exact wN (λk=>.nil) (oR dm @eu.eq_1 @dP.eq_1 @lp.eq_1 @aS.eq_1 @cM.eq_1)
 have hgood:¬ (b=false\/z.pl<s.size):=by
  cases b with
  |false=>simp at hc
  |true=>
   simp at hc;rintro (h|h)
   ·cases h
   ·omega
 rw[if_neg hgood]at ecp;clear hc;refine wK ?_;refine Wp.seq ?_;refine A0 Γ0 dm ?_ ?_
 ·exact⟨⟨_,rfl⟩,⟨_,rfl⟩,_,rfl⟩
 refine wC dm (λhc=>?_) (λhc=>?_)
 ·have h24:(131072<z.ty.length\/131072<z.tx.length)\/131072<z.co.length:=by
   simp only[decide_eq_true_eq]at hc;split at hc<;>split at hc<;>omega
  rw[if_pos h24]at ecp;rw[ecp];refine vR Γ0 dm ?_;refine wZ dm ?_;exact wN (λk=>.nil) (oR dm @eu.eq_1 @dP.eq_1 @lp.eq_1 @aS.eq_1 @cM.eq_1)
 have h24:¬ ((131072<z.ty.length\/131072<z.tx.length)\/131072<z.co.length):=by
  simp only[decide_eq_false_iff_not]at hc;split at hc<;>split at hc<;>omega
 rw[if_neg h24]at ecp;clear hc;refine wK ?_;refine Wp.seq ?_;refine wR (Wq z.pg tB) (oR dm @Zl @Y5 @Y2 @OM @ZE) ?_ ?_
 ·exact⟨dE,ha.1.1⟩
 generalize hrest:fw z.pg=rs at *;obtain⟨c,i,t⟩:=rs;refine vR (Wq z.pg tB) dm ?_;refine wC dm (λhc=>?_) (λhc=>?_)
 ·have hne:¬ (c,i,t)=(0,0,dP):=by
   intro h;simp only[Prod.mk.injEq]at h;obtain⟨rfl,rfl,rfl⟩:=h;simp[dP]at hc
  rw[if_neg hne]at ecp;rw[ecp];refine JM Γ0 dm ?_;refine wZ dm ?_;exact wN (λk=>.nil) (oR dm @eu.eq_1 @dP.eq_1 @lp.eq_1 @aS.eq_1 @cM.eq_1)
 ·have heq:(c,i,t)=(0,0,dP):=by
   simp at hc;obtain⟨⟨rfl,rfl⟩,rfl⟩:=hc;rfl
  rw[if_pos heq]at ecp;rw[ecp];refine wK ?_;refine vR Γ0 dm ?_;refine wZ dm ?_;exact wN (λk=>if k=8 then .key 25 else if k=9 then .key 26 else if k=10 then .key 27 else .key k) (ak dm @dP.eq_1 @lp.eq_1 @Zl @Y5 @Y2 @OM @ZE)
section
variable (l:ByteArray)(hl:l.size<=100000000)(p:Pg)(hb:PgB p)
end
def pS:=(ak @List.replicate_succ.{0} @List.replicate_zero.{0} @aq @ae lP lM lA (ak dI dK dJ dG dr dt du (ak dq fq fu ft fh ff fm (ak wA xW vm vT Cb Bw Az (ak B7 s6 tN sZ tu tp tO (ak tj tM s3 acA acS adB acW (ak aag aaz aa0 ZV aaT Z9 ZY (ak abz ab9 vb vP uN yb vV (ak u5 xo xZ mU Zr Zm ZR (ak Y7 Y1 ZI Zf Zs Za @a6 (dx @aw @aD @aE)))))))))))
theorem L8(l:List ByteArray)(a b:Option Addr)(c d:Nat)(hl:l.length<=140737488351232)(w:World)(ha:kt w a (aS l))(hb:kt w b (aS l)):Calls prog 35 #[.slice a l.length c,.slice b l.length d] w λe w' => e=.returned (.bool true)/\af w [] w' := by
 refine av (nt:=26) [.tmp 4] func35 rfl rfl rfl ?_;refine vR Γ0 pS ?_;refine Wp.seq ?_;refine vR Γ0 pS ?_;refine wC pS (λhc=>?_) (λhc=>?_)
 ·exact absurd hc sI
 refine wK ?_;refine Wp.seq ?_;refine vR Γ0 pS ?_;refine Wp.block ?_;refine Wp.loop (λk:Nat=>⟨20,cL [(0,.is (.v (.slice a l.length c))),(1,.is (.v (.slice b l.length d))),(5,.is (.v (.int .i64 (k:Nat))))],cf []⟩) (λk=>k<=l.length) (λk=>l.length-k) 0 ?_ (Nat.zero_le _) ?_
 ·exact wM (λk=>.key k) pS
 intro k hk;refine Wp.seq ?_;refine vR Γ0 pS ?_;refine wC pS (λhc=>?_) (λhc=>?_)
 ·have hlt:k<l.length:=by
   simp at hc;omega
  have wk:IntKind.i64.wrap ((k:Int)+1)=((k+1:Nat):Int):=wW;obtain⟨b1,o1,rfl,hx⟩:=mF ha hlt;obtain⟨b2,o2,rfl,hy⟩:=mF hb hlt;refine wK ?_;refine Wp.seq (Wp.block ?_);refine A0 Γ0 (dx pS hx hy) ?_ ?_
  ·omega
  refine wC pS (λhc=>?_) (λhc=>?_)
  ·exact absurd hc sI
  refine wK ?_;refine vr Γ0 (aa pS wk) ?_;refine⟨k+1,oM,oM,?_⟩;exact wM (λk=>.key k) pS
 ·refine wE ?_;refine vR Γ0 pS ?_;refine wZ pS ?_;exact λE=>rfl
def Hn:bu prog 35 where
 pre:=λW bs as_=>∃ (l:List ByteArray) (a b:Option Addr) (c d:Nat),as_=[.val (.slice a l.length c),.val (.slice b l.length d)]/\l.length<=140737488351232/\iK W (Out bs) a (aS l)/\iK W (Out bs) b (aS l)
 res:=λ_ _=>.bool true
 enters:=call35
 ok:=by
  intro W w bs us as_ hk hu hp;obtain⟨l,a,b,c,d,rfl,hl,h1,h2⟩:=hp
  match us,hu with
  |[x,y],hu=>
   obtain⟨rfl,rfl,_⟩:=hu;exact L8 l a b c d hl w (kI h1 hk) (kI h2 hk)
theorem Gi(W:World)(l:List AV):Hn.res W l=.bool true:=rfl
noncomputable def Wd:Env prog:=⟨λ| 35=>some Hn.spec|_=>none,λ| _=>none,λ_ _=>none⟩
theorem aaC:Wd.sp 35=some Hn.spec:=rfl
def qx:=(dx pS aaC @Gi)
theorem PI(p:Pg)(a1 a2 a3 b1 b2 b3:Option Addr)(c1 c2 c3 d1 d2 d3:Nat)(w:World)(hp:re p w a1 a2 a3)(hd:re p w b1 b2 b3):Calls prog 16 #[CD p a1 a2 a3 c1 c2 c3,CD p b1 b2 b3 d1 d2 d3] w λe w' => e=.returned (.bool true)/\af w [] w' := by
 have h3:=hp.l3;have hx:=hp.x;have hy:=hd.x;refine av (nt:=88) [.tmp 4] func16 rfl rfl rfl ?_;refine vR Wd qx ?_;refine Wp.seq ?_;refine wR Wd qx ?_ ?_
 ·exact⟨⟨p.ty,_,_,_,_,rfl,hp.l1,hx.1,hy.1⟩,⟨p.tx,_,_,_,_,rfl,hp.l2,hx.2.1,hy.2.1⟩,⟨_,rfl⟩,_,rfl⟩
 refine wC qx (λhc=>?_) (λhc=>?_)
 ·exact absurd hc sI
 refine wK ?_;refine Wp.seq ?_;refine vR Wd qx ?_;refine Wp.block ?_
 refine Wp.loop (λk:Nat=>⟨90,cL [(2,.is (.own 0 0)),(3,.is (.own 8 0)),(5,.is (.v (.int .i64 (k:Nat))))],cf [(0,.cells 29 [.v (.slice a1 p.ty.length c1),.v (.slice a2 p.tx.length c2),.v (.slice a3 p.co.length c3),.v (.int .i64 p.src),.v (.int .i64 p.vw)]),(8,.cells 35 [.v (.slice b1 p.ty.length d1),.v (.slice b2 p.tx.length d2),.v (.slice b3 p.co.length d3),.v (.int .i64 p.src),.v (.int .i64 p.vw)])]⟩) (λk=>k<=p.co.length) (λk=>p.co.length-k) 0 ?_ (Nat.zero_le _) ?_
 ·exact wM (λk=>.key k) qx
 intro k hk;refine Wp.seq ?_;refine vR Wd qx ?_;refine wC qx (λhc=>?_) (λhc=>?_)
 ·have hlt:k<p.co.length:=by
   simp at hc;omega
  have wk:IntKind.i64.wrap ((k:Int)+1)=((k+1:Nat):Int):=wW;obtain⟨b,o,rfl,x1,x2,x3,x4⟩:=kL hp.co hlt;obtain⟨b',o',rfl,y1,y2,y3,y4⟩:=kL hd.co hlt;generalize p.co[k]=x at *;refine wK ?_;refine Wp.seq (Wp.block ?_);refine A0 Wd (ak qx x1 x2 x3 x4 y1 y2 (aa y3 y4)) ?_ ?_
  ·omega
  refine vR Wd qx ?_;refine wC qx (λhc=>?_) (λhc=>?_)
  ·exact absurd hc sI
  refine wK ?_;refine vr Wd (aa qx wk) ?_;refine⟨k+1,oM,oM,?_⟩;exact wM (λk=>.key k) qx
 ·refine wE ?_;refine vR Wd qx ?_;refine wZ qx ?_;exact λE=>rfl
def Vf:bu prog 40 where
 pre:=λW bs as_=>(∃ n op k a b:Int,as_=[.val (.int .i64 n),.val (inV op k a b)]/\0<=n/\n<=9223372036854775807/\sR op k a b)/\c8 W (Out bs)/\da W (Out bs)
 res:=λ_ as_=>match as_ with
  |[.val (.int _ n),.val (.agg ins)]=>(match ins.toList with
   |[.int _ op,.int _ k,.int _ a,.int _ b]=>.string (gK n op k a b)
   |_=>undef)
  |_=>undef
 enters:=call40
 ok:=by
  intro W w bs us as_ hk hu hp;obtain⟨⟨n,op,k,a,b,rfl,h0,h1,hi⟩,hg,ht⟩:=hp
  match us,hu with
  |[x,y],hu=>
   obtain⟨rfl,rfl,_⟩:=hu;exact OY n op k a b h0 h1 hi w (hg.cP hk sI) (ht.cP hk sI)
section
variable (W:World)(bs:List Nat)(n op k a b:Int)
theorem Rj:Vf.pre W bs [.val (.int .i64 n),.val (.agg #[.int .i64 op,.int .i64 k,.int .i64 a,.int .i64 b])]=((0<=n/\n<=9223372036854775807/\sR op k a b)/\c8 W (Out bs)/\da W (Out bs)):=
 propext ⟨λ⟨⟨n',op',k',a',b',h,h0,h1,hi⟩,h2⟩=>by
  cases h
  exact⟨⟨h0,h1,hi⟩,h2⟩,λh=>⟨⟨n,op,k,a,b,rfl,h.1⟩,h.2⟩⟩
theorem Rm:Vf.res W [.val (.int .i64 n),.val (.agg #[.int .i64 op,.int .i64 k,.int .i64 a,.int .i64 b])]=.string (gK n op k a b):=rfl
end
theorem Nj(W:World)(bs:List Nat)(κ:Nat)(h:Hp)(l:List SV):Ir.ev W bs κ h l=SI h l:=rfl
theorem L4(W:World)(bs:List Nat)(κ:Nat)(h:Hp)(l:List SV):Gb.ev W bs κ h l=OG h l:=rfl
section
variable (p:Pg)(a1 a2 a3:Option Addr)(c1 c2 c3:Nat)(hb:PgB p)
noncomputable def qz:Env prog:=⟨λ| 15=>some (ja p a1 a2 a3 c1 c2 c3 hb).spec|36=>some Ir|38=>some AT.spec|39=>some so.spec|40=>some Vf.spec|41=>some Gb|_=>none,λ| 39=>some o8|_=>none,λ_ _=>none⟩
theorem aap:(qz p a1 a2 a3 c1 c2 c3 hb).sp 15=some (ja p a1 a2 a3 c1 c2 c3 hb).spec:=rfl
theorem abJ:(qz p a1 a2 a3 c1 c2 c3 hb).sp 36=some Ir:=rfl
theorem abt:(qz p a1 a2 a3 c1 c2 c3 hb).sp 38=some AT.spec:=rfl
theorem abZ:(qz p a1 a2 a3 c1 c2 c3 hb).sp 39=some so.spec:=rfl
theorem ab2:(qz p a1 a2 a3 c1 c2 c3 hb).sp 40=some Vf.spec:=rfl
theorem aaf:(qz p a1 a2 a3 c1 c2 c3 hb).sp 41=some Gb:=rfl
theorem QK:(qz p a1 a2 a3 c1 c2 c3 hb).eqs 39=some o8:=rfl
end
def eO:=(ak @List.replicate_succ.{0} @List.replicate_zero.{0} @aq @ae lP lM lA (ak dI dK dJ dG dr dt du (ak dq fq fu ft fh ff fm (ak wA xW vm vT Cb Bw Az (ak B7 s6 tN sZ tu tp tO (ak tj tM s3 vC vF vv uD (ak uL uA xM xm vS vU vb (ak vP uN yb vV u5 xo xZ (ak mU ad4 acr adh acw ady adR (ak ad3 aeb adV @a6 @aw @aD @aE (ak @pn @vN.eq_1 @tK.eq_1 @aap @abJ @abt @abZ (ak @ab2 @aaf @QK @ja.eq_1 @HD @FC @rD (ak @rL @Rj @Rm @Nj @L4 @kK @p4 (iS @SL @xJ @kE @qE))))))))))))))
theorem w5(p:Pg)(a1 a2 a3:Option Addr)(c1 c2 c3:Nat)(w:World)(hp:re p w a1 a2 a3)(hz:Ag p)(hg:c8 w (Out []))(he:aV w (Out []))(ht:da w (Out [])) :
  Calls prog 17 #[CD p a1 a2 a3 c1 c2 c3] w λe w' => e=.returned (.string (oW p))/\LE.af w [] w' := by
 have hx:=hp.x;have hb:=hz.b;refine av (nt:=68) [.tmp 2] func17 rfl rfl rfl ?_;refine vR (qz p a1 a2 a3 c1 c2 c3 hb) eO ?_;refine Wp.seq ?_;refine wR (qz p a1 a2 a3 c1 c2 c3 hb) eO ?_ ?_
 ·exact⟨hx,hg,he⟩
 refine wC eO (λhc=>?_) (λhc=>?_)
 ·have h:¬ fJ p=(0,0,⟨#[]⟩):=by
   intro h;rw[h]at hc;simp at hc
  have e:oW p=⟨#[]⟩:=by rw[oW,if_neg h]
  rw[e];refine vR (qz p a1 a2 a3 c1 c2 c3 hb) eO ?_;refine wZ eO ?_;exact λE=>rfl
 have h:fJ p=(0,0,⟨#[]⟩):=by
  simp at hc;exact Prod.ext hc.1.1 (Prod.ext hc.1.2 hc.2)
 have e:oW p=eo p:=by rw[oW,if_pos h]
 rw[e];obtain⟨_,hs,_⟩:=ru (congrArg Prod.fst h);have l1:=hz.l1;have l2:=hz.l2;have l3:=hz.l3;refine wK ?_;refine vR (qz p a1 a2 a3 c1 c2 c3 hb) eO ?_;refine vR (qz p a1 a2 a3 c1 c2 c3 hb) eO ?_;refine Wp.seq ?_;refine vR (qz p a1 a2 a3 c1 c2 c3 hb) eO ?_
 refine Wp.Il (Le.conv (k:=48) (e' := .obj [.string ⟨#[]⟩] lq) (by simp only[SB,if_true];rfl) (λE u fp w' h=>?_) (λj hj=>by cases hj)) ?_
 ·have:=v7 (xJ 91) rfl h;refine⟨⟨this,?_⟩,λw'' hl=>this.local hl⟩;obtain⟨_,b,_,_,_,hu,_⟩:=this;rw[hu];rfl
 refine Wp.block ?_
 refine Wp.loop (λk:Nat=>⟨40,cL [(1,.is (.own 0 0)),(3,.is (.own 48 0)),(4,.is (.fn (.func 36) [] [.own 48 0])),(17,.is (.v (.slice a1 p.ty.length c1))),(18,.is (.v (.int .i64 p.ty.length))),(19,.is (.v (.int .i64 (k:Nat))))],cf [(0,.cells 29 [.v (.slice a1 p.ty.length c1),.v (.slice a2 p.tx.length c2),.v (.slice a3 p.co.length c3),.v (.int .i64 p.src),.v (.int .i64 p.vw)]),(48,.obj [.string (gZ (pB p k))] lq)]⟩) (λk=>k<=p.ty.length) (λk=>p.ty.length-k) 0 ?_ (Nat.zero_le _) ?_
 ·exact wM (λk=>.key k) (aa eO (show gZ (pB p 0)=⟨#[]⟩ from rfl))
 rintro k hk;refine vR (qz p a1 a2 a3 c1 c2 c3 hb) eO ?_;refine Wp.seq ?_;refine wC eO (λhc=>?_) (λhc=>?_)
 ·have hlt:k<p.ty.length:=by
   simp at hc;omega
  have wk:IntKind.i64.wrap ((k:Int)+1)=((k+1:Nat):Int):=wW;obtain⟨b,o,hao,x1⟩:=mF hp.ty hlt;have hsn:=MV hlt;have hcat:=tP (JA hz k) (by rw[Fl hk];omega);have hst:(⟨#[116,121,112,101,32,47]⟩++p.ty[k]++⟨#[47]⟩:ByteArray).size=p.ty[k].size+7:=mj p.ty[k];have hs1:=hz.z1 _ (List.getElem_mem hlt)
  have z6:(⟨#[116,121,112,101,32,47]⟩:ByteArray).size=6:=rfl;have z1:(⟨#[47]⟩:ByteArray).size=1:=rfl;have e1:=la (pB p k) (s7 p.ty[k]);rw[<- hsn]at e1;have e2:s7 p.ty[k]=⟨#[116,121,112,101,32,47]⟩++p.ty[k]++⟨#[47]⟩:=rfl;generalize p.ty[k]=x at *;refine wK ?_;refine Wp.seq (Wp.block ?_)
  refine wR (qz p a1 a2 a3 c1 c2 c3 hb) (dx eO hao x1) ?_ ?_
  ·omega
  refine wr (qz p a1 a2 a3 c1 c2 c3 hb) eO ?_ ?_
  ·rw[ByteArray.size_append,ByteArray.size_append,ByteArray.size_append];omega
  refine vr (qz p a1 a2 a3 c1 c2 c3 hb) (aa eO wk) ?_;refine⟨k+1,oM,oM,?_⟩;exact wM (λk=>.key k) (iS eO e1 e2 hao)
 have hk' : k=p.ty.length:=by
  simp at hc;omega
 subst hk';rw[<- Nl];refine wE ?_;refine Wp.seq ?_;refine vR (qz p a1 a2 a3 c1 c2 c3 hb) eO ?_;refine Wp.block ?_
 refine Wp.loop (λk:Nat=>⟨100,cL [(1,.is (.own 0 0)),(3,.is (.own 48 0)),(4,.is (.fn (.func 36) [] [.own 48 0])),(30,.is (.v (.slice a2 p.tx.length c2))),(31,.is (.v (.int .i64 p.tx.length))),(32,.is (.v (.int .i64 (k:Nat))))],cf [(0,.cells 29 [.v (.slice a1 p.ty.length c1),.v (.slice a2 p.tx.length c2),.v (.slice a3 p.co.length c3),.v (.int .i64 p.src),.v (.int .i64 p.vw)]),(48,.obj [.string (gZ (lX p k))] lq)]⟩) (λk=>k<=p.tx.length) (λk=>p.tx.length-k) 0 ?_ (Nat.zero_le _) ?_
 ·exact wM (λk=>.key k) eO
 rintro k hk;refine vR (qz p a1 a2 a3 c1 c2 c3 hb) eO ?_;refine Wp.seq ?_;refine wC eO (λhc=>?_) (λhc=>?_)
 ·have hlt:k<p.tx.length:=by
   simp at hc;omega
  have wk:IntKind.i64.wrap ((k:Int)+1)=((k+1:Nat):Int):=wW;obtain⟨b,o,hao,x1⟩:=mF hp.tx hlt;have hsn:=KU hlt;have hcat:=tP (Cc hz k) (by rw[w7 hk];omega);have hst:(⟨#[116,101,120,116,32]⟩++cE p.tx[k]:ByteArray).size<=4*p.tx[k].size+7:=EP p.tx[k];have hs1:=hz.z2 _ (List.getElem_mem hlt)
  have e1:=la (lX p k) (ux p.tx[k]);rw[<- hsn]at e1;have e2:ux p.tx[k]=⟨#[116,101,120,116,32]⟩++cE p.tx[k]:=rfl;generalize p.tx[k]=x at *;refine wK ?_;refine Wp.seq (Wp.block ?_);refine wR (qz p a1 a2 a3 c1 c2 c3 hb) (dx eO hao x1) ?_ ?_
  ·omega
  refine wr (qz p a1 a2 a3 c1 c2 c3 hb) eO ?_ ?_
  ·have z5:(⟨#[116,101,120,116,32]⟩:ByteArray).size=5:=rfl;have:=zW x;exact⟨hs1,oM,oM⟩
  refine vr (qz p a1 a2 a3 c1 c2 c3 hb) (aa eO wk) ?_;refine⟨k+1,oM,oM,?_⟩;exact wM (λk=>.key k) (iS eO e1 e2 hao)
 have hk' : k=p.tx.length:=by
  simp at hc;omega
 subst hk';have hcat:=tP (Cc hz p.tx.length) (by rw[w7 (Nat.le_refl _)];omega);have e1:=la (lX p p.tx.length) (eY p.src p.vw);rw[<- KL]at e1;have hms:=u6 hs hb;refine wE ?_;refine A0 (qz p a1 a2 a3 c1 c2 c3 hb) eO ?_ ?_
 ·have z5:(⟨#[109,97,105,110,32]⟩:ByteArray).size=5:=rfl;have z1:(⟨#[32]⟩:ByteArray).size=1:=rfl;have:=hs.s0;have:=hs.s1;have:=hs.v0;have:=hs.v1;have:=eP hs.s0 oM;have:=eP hs.v0 oM;unfold eY at hms
  repeat rw[ByteArray.size_append]
  exact⟨⟨⟨oM,oM⟩,ht⟩,oM,oM,⟨⟨oM,oM⟩,ht⟩,oM,oM⟩
 refine Wp.seq ?_;refine vR (qz p a1 a2 a3 c1 c2 c3 hb) eO ?_;refine Wp.block ?_
 refine Wp.loop (λk:Nat=>⟨200,cL [(1,.is (.own 0 0)),(3,.is (.own 48 0)),(4,.is (.fn (.func 36) [] [.own 48 0])),(54,.is (.v (.slice a3 p.co.length c3))),(55,.is (.v (.int .i64 p.co.length))),(56,.is (.v (.int .i64 (k:Nat))))],cf [(0,.cells 29 [.v (.slice a1 p.ty.length c1),.v (.slice a2 p.tx.length c2),.v (.slice a3 p.co.length c3),.v (.int .i64 p.src),.v (.int .i64 p.vw)]),(48,.obj [.string (gZ (og p k))] lq)]⟩) (λk=>k<=p.co.length) (λk=>p.co.length-k) 0 ?_ (Nat.zero_le _) ?_
 ·exact wM (λk=>.key k) (dx eO e1 @eY.eq_1)
 rintro k hk;refine vR (qz p a1 a2 a3 c1 c2 c3 hb) eO ?_;refine Wp.seq ?_;refine wC eO (λhc=>?_) (λhc=>?_)
 ·have hlt:k<p.co.length:=by
   simp at hc;omega
  have wk:IntKind.i64.wrap ((k:Int)+1)=((k+1:Nat):Int):=wW;obtain⟨b,o,hao,x1,x2,x3,x4⟩:=kL hp.co hlt;have hsn:=Ld hlt;have hcat:=tP (JB hz hs hk) (by rw[vc];omega);have hin:=hs.ins hb k hlt;have hst:=wP (n:=k) oM oM hin;have e1:=la (og p k) (gK k p.co[k].1 p.co[k].2.1 p.co[k].2.2.1 p.co[k].2.2.2)
  rw[<- hsn]at e1;generalize p.co[k]=x at *;refine wK ?_;refine Wp.seq (Wp.block ?_);refine wR (qz p a1 a2 a3 c1 c2 c3 hb) (oR eO hao x1 x2 x3 x4) ?_ ?_
  ·omega
  refine wr (qz p a1 a2 a3 c1 c2 c3 hb) eO ?_ ?_
  ·exact⟨⟨⟨oM,oM,hin⟩,hg,ht⟩,oM⟩
  refine vr (qz p a1 a2 a3 c1 c2 c3 hb) (aa eO wk) ?_;refine⟨k+1,oM,oM,?_⟩;exact wM (λk=>.key k) (dx eO e1 hao)
 have hk' : k=p.co.length:=by
  simp at hc;omega
 subst hk';refine wE ?_;refine vR (qz p a1 a2 a3 c1 c2 c3 hb) eO ?_;refine wZ eO ?_;exact λE=>rfl
def pK:Pg:=⟨[⟨#[97,42]⟩],[],[(1,0,2,0),(0,0,0,0),(4,0,0,0),(2,0,0,0)],0,0⟩
theorem tyK:sq ⟨#[97,42]⟩=true:=by decide +kernel
theorem acI:fJ pK=(0,0,⟨#[]⟩):=by
 have h:fJ pK=fw pK:=by
  unfold fJ;rw[if_neg dE];rw[nr];intro i hi;have:i=0:=by simp[pK]at hi;omega
  subst this;show (!sq ⟨#[97,42]⟩)=false;rw[tyK];rfl
 rw[h];decide +kernel
def ae3:ByteArray:=⟨#[116,121,112,101,32,47,97,42,47,10,109,97,105,110,32,48,32,48,10,48,32,99,97,108,108,32,50,10,49,32,104,97,108,116,10,50,32,101,109,105,116,32,115,10,51,32,114,101,116,10]⟩
theorem ae9:oW pK=ae3:=by
 rw[oW,if_pos acI];decide +kernel
theorem VL:Ag pK:=⟨dE,dE,dE,dE,dE⟩
section
variable (a1 a2 a3:Option Addr)(c1 c2 c3:Nat)
def ob(p:Pg)(hz:Ag p):bu prog 17 where
 pre:=λW bs as_=>as_=[.val (CD p a1 a2 a3 c1 c2 c3)]/\BP p W (Out bs) a1 a2 a3/\c8 W (Out bs)/\aV W (Out bs)/\da W (Out bs)
 res:=λ_ _=>.string (oW p)
 enters:=call17
 ok:=by
  intro W w bs us as_ hk hu hp;obtain⟨rfl,h1,h2,h3,h4⟩:=hp
  match us,hu with
  |[x],hu=>
   obtain⟨rfl,_⟩:=hu;exact w5 p a1 a2 a3 c1 c2 c3 w (h1.ok hz.b hk) hz (h2.cP hk sI) (h3.cP hk sI) (h4.cP hk sI)
noncomputable def Γ99:Env prog:=⟨λ| 15=>some (ja pK a1 a2 a3 c1 c2 c3 VL.b).spec|17=>some (ob a1 a2 a3 c1 c2 c3 pK VL).spec|_=>none,λ| 39=>some o8|_=>none,λ_ _=>none⟩
theorem aaY:(Γ99 a1 a2 a3 c1 c2 c3).sp 15=some (ja pK a1 a2 a3 c1 c2 c3 VL.b).spec:=rfl
theorem aa9:(Γ99 a1 a2 a3 c1 c2 c3).sp 17=some (ob a1 a2 a3 c1 c2 c3 pK VL).spec:=rfl
theorem R1:(Γ99 a1 a2 a3 c1 c2 c3).eqs 39=some o8:=rfl
end
def Ns:=(ak @List.replicate_succ.{0} @List.replicate_zero.{0} @aq @ae lP lM QW (ak Py OU dr dt du dq fq (ak fu ft fh ff fm wA xW (ak vm vT Cb Bw Az B7 s6 (ak tN sZ tu tp tO tj tM (ak s3 vC vF vv uD uL uA (ak xM xm vS vU vb vP uN (ak yb vV u5 xo xZ mU @a6 (ak @aw @aD @aE @pn @vN.eq_1 @tK.eq_1 @aaY (iS @aa9 @R1 @ja.eq_1 @ob.eq_1))))))))))
theorem FP(w:World)(hg:c8 w (Out []))(he:aV w (Out []))(ht:da w (Out [])):Calls prog 11 #[] w λe w' => e=.returned (.bool true)/\LE.af w [] w' := by
 refine av (nt:=18) [.tmp 0] func11 rfl rfl rfl ?_;refine vR Γ0 Ns ?_;refine vR Γ0 Ns ?_;refine Wp.gz 8 (ev (aa Ns @an)) (λE=>by simp only[ah,den,an];exact rfl) λW1 bs1 ao1 d1 hx1 hs1 hd1=>?_
 refine Wp.gz 48 (ev (aa Ns @an)) (λE=>by simp only[ah,den,an];exact rfl) λW2 bs2 ao2 d2 hx2 hs2 hd2=>?_
 have r1:iK W2 (Out bs2) ao1 (aS pK.ty):=(hs1.out λb hb=>hb.out).mono hx2.fe;have r2:iK W2 (Out bs2) none (aS pK.tx):=.inl rfl;have r3:iK W2 (Out bs2) ao2 (cM pK.co):=hs2.out λb hb=>hb.out
 have g1:=(hg.mono hx1.fe).mono hx2.fe;have g2:=(he.mono hx1.fe).mono hx2.fe;have g3:=(ht.mono hx1.fe).mono hx2.fe;refine wR (Γ99 ao1 none ao2 d1 0 d2) (dx Ns @acI @ae9) ?_ ?_
 ·exact⟨⟨rfl,⟨r1,r2,r3⟩,g1,g2⟩,λ_=>⟨rfl,⟨r1,r2,r3⟩,g1,g2,g3⟩⟩
 refine wZ Ns ?_;exact λE=>rfl
theorem Hs{p:Pg}{W:World}{S:Nat->Prop}{u:Value}(h:∃ cs,u=Sh.AP.val cs/\(Zd p).Φ cs W S):∃ (b1 b2 b3:Option Addr) (d1 d2 d3:Nat),u=CD p b1 b2 b3 d1 d2 d3/\BP p W S b1 b2 b3:=by
 obtain⟨cs,rfl,b1,b2,b3,d1,d2,d3,rfl,h⟩:=h;exact⟨b1,b2,b3,d1,d2,d3,rfl,h⟩
theorem Gj{w:World}{S:Nat->Prop}{sh:Sh}{Φ:FK}{us:List Value}{as_:List AV}(h:yP w S [some (sh,Φ)] us as_):∃ x a,us=[x]/\as_=[a]/\∃ cs,x=sh.val cs/\Φ.Φ cs w S:=by
 rcases us with _|⟨x,us⟩
 ·exact h.elim
 rcases as_ with _|⟨a,as_⟩
 ·exact h.elim
 obtain⟨h1,h2⟩:=h;rcases us with _|⟨y,us⟩
 ·rcases as_ with _|⟨b,as_⟩
  ·exact⟨x,a,rfl,rfl,h1⟩
  ·exact h2.elim
 ·exact h2.elim
theorem IT{w:World}{S:Nat->Prop}(h:c8 w S):c8 w (Out []):=h.mono λb _ _=>⟨rfl,by simp[Out]⟩
theorem IM{w:World}{S:Nat->Prop}(h:aV w S):aV w (Out []):=h.mono λb _ _=>⟨rfl,by simp[Out]⟩
section
variable (p:Pg)(hb:PgB p)
def wG:jw prog 15 where
 kinds:=[some (Sh.AP,Zd p)]
 pre:=λ_ W S=>c8 W S/\aV W S
 premono:=λas_ W S W' S' hs h=>⟨h.1.mono hs,h.2.mono hs⟩
 out:=λ_=>.val (vN (fJ p))
 enters:=call15
 ok:=by
  intro w S us as_ hg hp;obtain⟨x,a,rfl,rfl,h1⟩:=Gj hg;obtain⟨b1,b2,b3,d1,d2,d3,rfl,hx⟩:=Hs h1;exact uQ p b1 b2 b3 d1 d2 d3 w (hx.is hb) (IT hp.1) (IM hp.2)
end
def A9:bu prog 11 where
 pre:=λW bs as_=>as_=[]/\c8 W (Out bs)/\aV W (Out bs)/\da W (Out bs)
 res:=λ_ _=>.bool true
 enters:=call11
 ok:=by
  intro W w bs us as_ hk hu hp;obtain⟨rfl,h1,h2,h3⟩:=hp
  match us,hu with
  |[],_=>exact FP w (h1.cP hk sI) (h2.cP hk sI) (h3.cP hk sI)
section
variable (p:Pg)(a1 a2 a3:Option Addr)(c1 c2 c3:Nat)(hb:PgB p)(hn:p.ty.length<=1048576/\p.tx.length<=1048576/\p.co.length<=1048576)(G:Nat->Prop)
end
theorem aab:(true ^^ true)=false:=rfl
def qk(s:ByteArray):qu prog 20 where
 args:=[.v (.string s)]
 L:=[]
 val:=.tup [Y3 8 (A6 s).1,lp (A6 s).2]
 L' := GB 50 8 (A6 s).1
 dC:=[]
 pre:=λW bs=>ed W (Out bs)/\s.size<=9223372036854775807
 low:=by simp
 kept:=by simp
 vk:=by intro k hk;right;simp[Y3,lp,SV.keys,al]at hk;unfold fresh;omega
 lk:=by intro p hp;simp only[GB,List.mem_cons,List.not_mem_nil,or_false]at hp;rcases hp with rfl|rfl|rfl<;>refine⟨.inr (by unfold fresh;omega),by simp[aI.keys,aA]⟩
 nd:=by simp[GB]
 enters:=call20
 ok:=by
  intro W w bs fp E F hk hm hs hp;exact FJ s w fp E F (hp.1.cP hk hm) hs hp.2
section
variable (s:ByteArray)(p:Pg)(hb:PgB p)
end
section
variable (p:Pg)(hz:Ag p)
def vJ:jw prog 17 where
 kinds:=[some (Sh.AP,Zd p)]
 pre:=λ_ W S=>c8 W S/\aV W S/\da W S
 premono:=λas_ W S W' S' hs h=>⟨h.1.mono hs,h.2.1.mono hs,h.2.2.mono hs⟩
 out:=λ_=>.val (.string (oW p))
 enters:=call17
 ok:=by
  intro w S us as_ hg hp;obtain⟨x,a,rfl,rfl,h1⟩:=Gj hg;obtain⟨b1,b2,b3,d1,d2,d3,rfl,hx⟩:=Hs h1;exact w5 p b1 b2 b3 d1 d2 d3 w (hx.is hz.b) hz (IT hp.1) (IM hp.2.1) (YP hp.2.2)
end
theorem Ag.n{p:Pg}(h:Ag p):p.ty.length<=1048576/\p.tx.length<=1048576/\p.co.length<=1048576:=⟨h.l1,h.l2,h.l3⟩
section
variable (p:Pg)(a1 a2 a3:Option Addr)(c1 c2 c3:Nat)(hz:Ag p)(G:Nat->Prop)
end
def BH(p:Pg)(b1 b2 b3:Option Addr)(d1 d2 d3:Nat)(hb:PgB p):jw prog 16 where
 kinds:=[none,some (Sh.AP,Zd p)]
 pre:=λas_ W S=>as_.head?=some (.val (CD p b1 b2 b3 d1 d2 d3))/\BP p W S b1 b2 b3
 premono:=λas_ W S W' S' hs h=>⟨h.1,h.2.mono hs⟩
 out:=λ_=>.val (.bool true)
 enters:=call16
 ok:=by
  intro w S us as_ hg hp;rcases us with _|⟨x,us⟩
  ·exact hg.elim
  rcases as_ with _|⟨a,as_⟩
  ·exact hg.elim
  obtain⟨h0,hg⟩:=hg;obtain⟨y,b,rfl,rfl,h2⟩:=Gj hg;obtain⟨e1,e2,e3,f1,f2,f3,rfl,hy⟩:=Hs h2;obtain⟨h1,hx⟩:=hp;obtain rfl:=Option.some.inj h1;obtain rfl:x=_:=h0;exact PI p b1 b2 b3 e1 e2 e3 d1 d2 d3 f1 f2 f3 w (hx.is hb) (hy.is hb)
section
variable (p:Pg)(a1 a2 a3:Option Addr)(c1 c2 c3:Nat)(hz:Ag p)(G:Nat->Prop)(s:ByteArray)(b1 b2 b3:Option Addr)(d1 d2 d3:Nat)
noncomputable def l5:Env prog:=⟨λ| 11=>some A9.spec|12=>some ((vE p a1 a2 a3 c1 c2 c3 hz.b hz.n).spec G)|14=>some ((aaB p a1 a2 a3 c1 c2 c3 hz.b hz.n).spec G)|15=>some ((wG p hz.b).spec G)|16=>some ((BH p b1 b2 b3 d1 d2 d3 hz.b).spec G)|17=>some ((vJ p hz).spec G)|20=>some ((qk s).spec [])|_=>none,λ| 39=>some o8|_=>none,λ_ _=>none⟩
theorem Yh:(l5 p a1 a2 a3 c1 c2 c3 hz G s b1 b2 b3 d1 d2 d3).sp 11=some A9.spec:=rfl
theorem WG:(l5 p a1 a2 a3 c1 c2 c3 hz G s b1 b2 b3 d1 d2 d3).sp 12=some ((vE p a1 a2 a3 c1 c2 c3 hz.b hz.n).spec G):=rfl
theorem Ux:(l5 p a1 a2 a3 c1 c2 c3 hz G s b1 b2 b3 d1 d2 d3).sp 14=some ((aaB p a1 a2 a3 c1 c2 c3 hz.b hz.n).spec G):=rfl
theorem VM:(l5 p a1 a2 a3 c1 c2 c3 hz G s b1 b2 b3 d1 d2 d3).sp 15=some ((wG p hz.b).spec G):=rfl
theorem Ua:(l5 p a1 a2 a3 c1 c2 c3 hz G s b1 b2 b3 d1 d2 d3).sp 16=some ((BH p b1 b2 b3 d1 d2 d3 hz.b).spec G):=rfl
theorem VB:(l5 p a1 a2 a3 c1 c2 c3 hz G s b1 b2 b3 d1 d2 d3).sp 17=some ((vJ p hz).spec G):=rfl
theorem VQ:(l5 p a1 a2 a3 c1 c2 c3 hz G s b1 b2 b3 d1 d2 d3).sp 20=some ((qk s).spec []):=rfl
theorem Nb:(l5 p a1 a2 a3 c1 c2 c3 hz G s b1 b2 b3 d1 d2 d3).eqs 39=some o8:=rfl
noncomputable def yA:Env prog:=⟨λ| 15=>some (ja p a1 a2 a3 c1 c2 c3 hz.b).spec|17=>some (ob a1 a2 a3 c1 c2 c3 p hz).spec|20=>some ((qk s).spec [])|_=>none,λ| 39=>some o8|_=>none,λ_ _=>none⟩
theorem UN:(yA p a1 a2 a3 c1 c2 c3 hz s).sp 15=some (ja p a1 a2 a3 c1 c2 c3 hz.b).spec:=rfl
theorem Yq:(yA p a1 a2 a3 c1 c2 c3 hz s).sp 17=some (ob a1 a2 a3 c1 c2 c3 p hz).spec:=rfl
theorem Ye:(yA p a1 a2 a3 c1 c2 c3 hz s).sp 20=some ((qk s).spec []):=rfl
theorem MB:(yA p a1 a2 a3 c1 c2 c3 hz s).eqs 39=some o8:=rfl
end
theorem PW(G:Nat->Prop)(W:World)(bs:List Nat)(sh:Sh)(Φ:FK)(x:SV)(k:Nat):gvO G W bs sh Φ x k none=⟨False,.val undef,[],[]⟩:=rfl
theorem GN:Ag eu:=⟨Nat.zero_le _,Nat.zero_le _,Nat.zero_le _,λs hs=>(List.not_mem_nil hs).elim,λs hs=>(List.not_mem_nil hs).elim⟩
def ei:=(ak @List.replicate_succ.{0} @List.replicate_zero.{0} @aq @ae lP lM lA (ak dI dK dJ dG dr dt du (ak dq fq fu ft fh ff fm (ak wA xW vm vT acv acF acT (ak ad2 acu acJ adg adp adt Cb (ak Bw Az B7 s6 tN sZ tu (ak tp tO tj tM s3 aag aaz (ak aa0 ZV aaT Z9 ZY abz ab9 (ak vC vF vv uD uL uA xM (ak xm vS vU ZU aad vb vP (ak uN yb vV u5 xo xZ mU (ak @a6 @aw @aD @aE @eA @qh @aab (ak @sT.eq_1 @fz.eq_1 @fz.eq_2 @fg.eq_1 @fg.eq_2 @fg.eq_3 @fg.eq_4 (ak @fg.eq_5 @fg.eq_6 @fg.eq_7 @fg.eq_8 @jT.eq_1 @jT.eq_2 @ep.eq_1 (ak @ep.eq_2 @fZ.eq_1 @fZ.eq_2 @fP.eq_1 @fP.eq_2 @fP.eq_3 @pF.eq_1 (ak @mp.eq_1 @fV @gf @fS @GB.eq_1 @Y3.eq_1 @jC.eq_1 (ak @jC.eq_2 @pn @lp.eq_1 @fc.eq_1 @vN.eq_1 @tK.eq_1 @Yh (ak @WG @Ux @VM @Ua @VB @VQ @Nb (ak @UN @Yq @Ye @MB @A9.eq_1 @vE.eq_1 @aaB.eq_1 (NT @wG.eq_1 @BH.eq_1 @vJ.eq_1 @qk.eq_1 @ja.eq_1 @ob.eq_1 @Sh.AP.eq_1))))))))))))))))))))
theorem Tv(p:Pg)(a1 a2 a3:Option Addr)(c1 c2 c3:Nat)(s:ByteArray)(hz:Ag p)(h1:s.size<=1048576)(w:World)(hp:re p w a1 a2 a3)(hl:ed w (Out [])) :
  Calls prog 6 #[CD p a1 a2 a3 c1 c2 c3,.string s] w λe w' => e=.returned (.bool true)/\LE.af w [] w' := by
 have hx:=hp.x;have u0:Up (λ_=>True) w []:=Up.true _ _;have Cm:bV w (Out []) w (fi (λ_=>True) []):=λb _ h=>⟨rfl,trivial,h⟩
 have hr:=hx.mono Cm;have hlr:=hl.mono Cm;refine av (nt:=87) [.tmp 4] func6 rfl rfl rfl ?_;refine vR (l5 p a1 a2 a3 c1 c2 c3 hz (λ_=>True) s none none none 0 0 0) ei ?_;refine Wp.seq ?_;refine wR (l5 p a1 a2 a3 c1 c2 c3 hz (λ_=>True) s none none none 0 0 0) ei ?_ ?_
 ·exact⟨hl.1.1,hl.1.2,hl.2.1⟩
 refine wC ei (λhc=>?_) (λhc=>?_)
 ·exact absurd hc sI
 refine wK ?_;refine wR (l5 p a1 a2 a3 c1 c2 c3 hz (λ_=>True) s none none none 0 0 0) ei ?_ ?_
 ·exact⟨hr,u0⟩
 refine wR (l5 p a1 a2 a3 c1 c2 c3 hz (λ_=>True) s none none none 0 0 0) ei ?_ ?_
 ·exact⟨hlr.1.1,hlr.1.2,hlr.2.1⟩
 refine dB ⟨100,cL [(1,.is (.v (.string s)))],cf []⟩ ?_ ?_
 ·skip;refine wR (l5 p a1 a2 a3 c1 c2 c3 hz (λ_=>True) s none none none 0 0 0) ei ?_ ?_
  ·exact⟨hlr.1.1,hlr.1.2⟩
  refine wC ei (λhc=>?_) (λhc=>?_)
  ·have h:fJ p=(0,0,⟨#[]⟩):=by
    simp at hc;exact Prod.ext hc.1.1 (Prod.ext hc.1.2 hc.2)
   have e:oW p=eo p:=by rw[oW,if_pos h]
   rw[e];obtain⟨_,hs,_⟩:=ru (congrArg Prod.fst h);have hsz:=Ac (eE p) (JB hz hs (Nat.le_refl _));have hln:(eE p).length=p.ty.length+p.tx.length+1+p.co.length:=vc p _;have n1:=hz.l1;have n2:=hz.l2;have n3:=hz.l3;rw[hln]at hsz;have hsz' : (eo p).size<=9223372036854775807:=by
    unfold eo;omega
   by_cases h8:(eo p).size<=8388608
   ·have hq:A6 (eo p)=(p,0,0,dP):=by rw[xI,Cx (congrArg Prod.fst h) h8]
    refine wR (l5 p a1 a2 a3 c1 c2 c3 hz (λ_=>True) (eo p) none none none 0 0 0) (aa ei hq) ?_ ?_
    ·exact⟨dE,hl,hsz'⟩
    refine Wp.gz 128 (ev (aa ei @an)) (λE=>by simp only[ah,den,an];exact rfl) λW1 bs1 b1 d1 hx1 hs1 hd1=>?_
    refine Wp.gz 129 (ev (aa ei @an)) (λE=>by simp only[ah,den,an];exact rfl) λW2 bs2 b2 d2 hx2 hs2 hd2=>?_
    refine Wp.gz 130 (ev (aa ei @an)) (λE=>by simp only[ah,den,an];exact rfl) λW3 bs3 b3 d3 hx3 hs3 hd3=>?_
    have hxx:=(hx1.trans hx2).trans hx3;have r1:=(hs1.out λb hb=>hb.out).mono (hx2.trans hx3).fe;have r2:=(hs2.out λb hb=>hb.out).mono hx3.fe;have r3:=hs3.out λb hb=>hb.out
    have regs:bV W3 (Out bs3) W3 (fi (λ_=>True) bs3):=λb _ h=>⟨rfl,trivial,h⟩
    have hr3:=(hx.mono hxx.fe).mono regs;have hv3:BP p W3 (fi (λ_=>True) bs3) b1 b2 b3:=BP.mono ⟨r1,r2,r3⟩ regs;have u3:Up (λ_=>True) W3 bs3:=Up.true _ _;have h8d:decide (((eo p).size:Int)<=8388608)=true:=decide_eq_true oM
    refine A0 (l5 p a1 a2 a3 c1 c2 c3 hz (λ_=>True) (eo p) b1 b2 b3 d1 d2 d3) (iS ei @Bool.false_xor h8d @dP.eq_1) ?_ ?_
    ·exact⟨⟨hr3,u3⟩,rfl,hv3⟩
    refine wC ei (λhc=>?_) (λhc=>?_)
    ·exact absurd hc sI
    refine wK ?_;exact wM (λk=>.key k) ei
   ·have hq:A6 (eo p)=(eu,1,0,dP):=by rw[A6,if_pos oM]
    have h8d:decide (((eo p).size:Int)<=8388608)=false:=decide_eq_false oM;refine wR (l5 p a1 a2 a3 c1 c2 c3 hz (λ_=>True) (eo p) none none none 0 0 0) (aa ei hq) ?_ ?_
    ·exact⟨dE,hl,hsz'⟩
    refine Wp.gz 128 (ev (aa ei @an)) (λE=>by simp only[ah,den,an];exact rfl) λW1 bs1 b1 d1 hx1 hs1 hd1=>?_
    refine Wp.gz 129 (ev (aa ei @an)) (λE=>by simp only[ah,den,an];exact rfl) λW2 bs2 b2 d2 hx2 hs2 hd2=>?_
    refine Wp.gz 130 (ev (aa ei @an)) (λE=>by simp only[ah,den,an];exact rfl) λW3 bs3 b3 d3 hx3 hs3 hd3=>?_
    refine JM (l5 p a1 a2 a3 c1 c2 c3 hz (λ_=>True) (eo p) b1 b2 b3 d1 d2 d3) (ak ei @Bool.false_xor h8d @dP.eq_1 @Bool.false_and @Bool.false_eq_true @false_implies (aa @PW @false_and)) ?_;refine wC ei (λhc=>?_) (λhc=>?_)
    ·exact absurd hc sI
    refine wK ?_;exact wM (λk=>.key k) ei
  ·have h:¬ fJ p=(0,0,⟨#[]⟩):=by
    intro h;rw[h]at hc;simp at hc
   have e:oW p=⟨#[]⟩:=by rw[oW,if_neg h]
   rw[e];refine vR (l5 p a1 a2 a3 c1 c2 c3 hz (λ_=>True) s none none none 0 0 0) ei ?_;refine wC ei (λhc=>?_) (λhc=>?_)
   ·exact absurd hc sI
   refine wK ?_;exact wM (λk=>.key k) ei
 have hps:=xI s;by_cases h0:(Cq s).2.1=0
 ·obtain⟨k1,k2⟩:=Dp h0;have k3:=QE h0;have hq:A6 s=((Cq s).1,0,0,dP):=by rw[hps,<- k3]
  generalize (Cq s).1=q at *;have hzq:Ag q:=TC (by rw[k2];exact h1);have hpr:oW q=s:=by rw[oW,if_pos (show fJ q=(0,0,⟨#[]⟩) from k1),k2]
  refine wR (yA q none none none 0 0 0 hzq s) (aa ei hq) ?_ ?_
  ·exact⟨dE,hl,oM⟩
  refine Wp.seq ?_;refine vR (yA q none none none 0 0 0 hzq s) (aa ei @dP.eq_1) ?_;refine wC ei (λhc=>?_) (λhc=>?_)
  ·exact absurd hc sI
  refine wK ?_;refine Wp.gz 808 (ev (aa ei @an)) (λE=>by simp only[ah,den,an];exact rfl) λW1 bs1 b1 d1 hx1 hs1 hd1=>?_
  refine Wp.gz 809 (ev (aa ei @an)) (λE=>by simp only[ah,den,an];exact rfl) λW2 bs2 b2 d2 hx2 hs2 hd2=>?_
  refine Wp.gz 810 (ev (aa ei @an)) (λE=>by simp only[ah,den,an];exact rfl) λW3 bs3 b3 d3 hx3 hs3 hd3=>?_
  have hxx:=(hx1.trans hx2).trans hx3;have r1:=(hs1.out λb hb=>hb.out).mono (hx2.trans hx3).fe;have r2:=(hs2.out λb hb=>hb.out).mono hx3.fe;have r3:=hs3.out λb hb=>hb.out
  have hl3:=hl.mono hxx.fe;refine wR (yA q b1 b2 b3 d1 d2 d3 hzq s) (dx ei hpr k1) ?_ ?_
  ·exact⟨⟨⟨r1,r2,r3⟩,hl3.1.1,hl3.1.2,hl3.2.1⟩,⟨r1,r2,r3⟩,hl3.1.1,hl3.1.2⟩
  refine wZ ei ?_;exact λE=>rfl
 ·have hn:(A6 s).1=eu:=by rw[hps];exact abT h0
  obtain⟨⟨c,i,t⟩,hq⟩:∃ r,A6 s=(eu,r):=⟨(A6 s).2,by rw[<- hn]⟩;have hc0:c≠0:=by
   rw[<- hps,hq]at h0;exact h0
  have hcd:decide (c=0)=false:=decide_eq_false hc0;refine wR (yA eu none none none 0 0 0 GN s) (aa ei hq) ?_ ?_
  ·exact⟨dE,hl,oM⟩
  refine Wp.seq ?_;refine vR (yA eu none none none 0 0 0 GN s) (aa ei hcd) ?_;refine wC ei (λhc=>?_) (λhc=>?_)
  rotate_left
  ·exact absurd hc sI
  refine wR (yA eu none none none 0 0 0 GN s) (aa ei @eu.eq_1) ?_ ?_
  ·exact⟨⟨_,rfl⟩,λ_=>⟨_,rfl⟩,λ_=>⟨_,rfl⟩⟩
  refine wZ ei ?_;exact λE=>rfl
end
section
open Go.ChangeShapes Go.WideShapes Go.ChangeAt Go.RowKit Go.LE
open Go.ChangeMaps (open_string shut_string)
set_option maxRecDepth 10000
theorem ae8:ownKnob Tryz.prog.godebug=none:=kR
theorem acQ:laidOutB Tryz.prog=true:=kR
theorem ac8:mapsRowed Tryz.prog=true:=kR
theorem ac3:((List.range Tryz.prog.types.size).all λt=>match Tryz.prog.underlying t with|some (.slice e)=>decide (0<Tryz.prog.cellsOf e)|_=>true)=true:=kR
theorem PK:Tryz.prog.cellsOf 9=1:=kR
theorem rv:Tryz.prog.cellsOf 3=1:=kR
theorem aaj:Tryz.prog.cellsOf 4=1:=kR
theorem PJ:Tryz.prog.cellsOf 5=1:=kR
theorem I8:Tryz.prog.cellsOf 22=1:=kR
theorem WQ:Tryz.prog.cellsOf 23=1:=kR
theorem Vw:Tryz.prog.cellsOf 82=4:=kR
theorem V2:Tryz.prog.cellsOf 25=5:=kR
theorem ET:Tryz.prog.cellsOf 156=1:=kR
theorem CH:Tryz.prog.cellsOf 160=4:=kR
theorem SH:Tryz.prog.cellsOf 203=1:=kR
theorem Pe:Tryz.prog.cellsOf 334=20:=kR
theorem Fh:Tryz.prog.cellsOf 355=2:=kR
section
variable {H:Type}{enc:TypeId×Value->H}
theorem Ob(d:DataW H):1<=Rows.uptoBulk d:=by
 cases d with
 |lit x=>cases x<;>simp[Rows.uptoBulk]
 |_=>simp[Rows.uptoBulk]
theorem DJ:∀ {l:List (DataW H)} {d:DataW H},d∈l->Rows.uptoBulk d<=Rows.uptoBulkAll l
 |x::r,d,h=>by
  simp only[Rows.uptoBulkAll];rcases List.mem_cons.1 h with rfl|h
  ·omega
  ·have:=DJ h;omega
theorem Cs:∀ (l:List (DataW H)),l.length<=Rows.uptoBulkAll l
 |[]=>by simp
 |x::r=>by
  simp only[Rows.uptoBulkAll,List.length_cons];have:=Cs r;have:=Ob x;omega
theorem uS{n:Nat}{d:DataW H}{D:Nat->DataW H}{rest:List (DataW H)}(hd:(n=0/\d=.nil)\/d=.slice ((List.range n).map D) rest)(hb:Rows.uptoBulk d<=1048576):n<=1048576/\∀ i,i<n->Rows.uptoBulk (D i)<=1048576:=by
 rcases hd with ⟨rfl,_⟩|hd
 ·exact⟨oM,λi hi=>by omega⟩
 ·rw[hd]at hb;simp only[Rows.uptoBulk]at hb;have h2:=Cs ((List.range n).map D);simp only[List.length_map,List.length_range]at h2;refine⟨oM,λi hi=>?_⟩;have h1:=DJ (List.mem_map_of_mem (f:=D) (List.mem_range.2 hi));omega
theorem xq{α:Type}{n:Nat}{C:Nat->List Value}{f:Nat->α}{g:α->List Value}(h:∀ i,i<n->C i=g (f i)):(List.range n).flatMap C=((List.range n).map f).flatMap g:=by
 have key:∀ k,k<=n->(List.range k).flatMap C=((List.range k).map f).flatMap g:=λk=>by
  induction k with
  |zero=>intro _;rfl
  |succ k ih=>
   intro hk;rw[List.range_succ,List.flatMap_append,ih oM,List.map_append,List.flatMap_append];simp[h k oM]
 exact key n (Nat.le_refl _)
theorem LI(l:List ByteArray):l.flatMap (λs=>[Value.string s])=aS l:=by
 induction l with
 |nil=>rfl
 |cons s r ih=>rw[List.flatMap_cons,ih];rfl
instance:Inhabited ByteArray:=⟨⟨#[]⟩⟩
theorem open_strs{W:World}{v:Value}{d:DataW H}{p:List MemPlace}(hok:∃ a len cap,v=.slice a len cap)(h:DataW.Trod enc Tryz.prog W 0 (λ_=>true) true 22 v d p)(hb:Rows.uptoBulk d<=1048576) :
  ∃ ao c,∃ l:List ByteArray,v=.slice ao l.length c/\kt W ao (aS l)/\l.length<=1048576/\∀ s∈l,s.size<=1048576:=by
 obtain⟨ao,n,c,m,C,D,rest,rfl,hd,hi,hs⟩:=yU Tryz.underlying22 PK hok h;obtain⟨hn,hbk⟩:=uS hd hb;have hE:∀ i,i<n->∃ s:ByteArray,C i=[.string s]/\D i=.lit (.string s.data.toList):=λi hin=>by
  obtain⟨h1,pl,h2⟩:=hi i hin;obtain⟨s,h3,h4,_⟩:=DataW.trod_string Tryz.underlying9 h2;exact⟨s,h3,congrArg Prod.fst h4⟩
 obtain⟨f,hf⟩:=Go.Deep.choose_lt hE;rw[xq (f:=f) (g:=λs=>[Value.string s]) λi hi=>(hf i hi).1,LI]at hs;refine⟨ao,c,(List.range n).map f,sI,hs,by simpa using hn,λs hs' => ?_⟩;obtain⟨i,hin,rfl⟩:=List.mem_map.1 hs';have hin:=List.mem_range.1 hin;have:=hbk i hin;rw[(hf i hin).2]at this
 simp only[Rows.uptoBulk,Array.length_toList]at this;have h2:(f i).size=(f i).data.size:=rfl;omega
theorem UQ{W:World}{m:Nat}{cs:List Value}{x:DataW H×List MemPlace}(h1:cs.length=4)(h2:DataW.trod enc Tryz.prog W 0 (λ_=>true) true m 82 cs=some x):∃ x:Int×Int×Int×Int,cs=T3 x:=by
 obtain⟨xs,k,_,_,_,hxl,hall⟩:=DataW.trod_struct Tryz.underlying82 h2;have e0:=hall 0 _ rfl;have e1:=hall 1 _ rfl;have e2:=hall 2 _ rfl;have e3:=hall 3 _ rfl;have hxl:xs.length=4:=hxl
 match xs,hxl,cs,h1 with
 |[y0,y1,y2,y3],_,[c0,c1,c2,c3],_=>
  obtain⟨z0,g0,_⟩:=DataW.trod_int (cs:=[c0]) Tryz.underlying3 (by simpa [rv] using e0);obtain⟨z1,g1,_⟩:=DataW.trod_int (cs:=[c1]) Tryz.underlying3 (by simpa [rv] using e1);obtain⟨z2,g2,_⟩:=DataW.trod_int (cs:=[c2]) Tryz.underlying3 (by simpa [rv] using e2)
  obtain⟨z3,g3,_⟩:=DataW.trod_int (cs:=[c3]) Tryz.underlying3 (by simpa [rv] using e3);simp only[List.cons.injEq,and_true]at g0 g1 g2 g3;exact⟨(z0,z1,z2,z3),by rw[g0,g1,g2,g3];rfl⟩
theorem Rt{W:World}{v:Value}{d:DataW H}{p:List MemPlace}(hok:∃ a len cap,v=.slice a len cap)(h:DataW.Trod enc Tryz.prog W 0 (λ_=>true) true 23 v d p)(hb:Rows.uptoBulk d<=1048576) :
  ∃ ao c,∃ l:List (Int×Int×Int×Int),v=.slice ao l.length c/\kt W ao (cM l)/\l.length<=1048576:=by
 obtain⟨ao,n,c,m,C,D,rest,rfl,hd,hi,hs⟩:=yU Tryz.underlying23 Vw hok h;obtain⟨hn,hbk⟩:=uS hd hb;have hE:∀ i,i<n->∃ x:Int×Int×Int×Int,C i=T3 x:=λi hin=>by
  obtain⟨h1,pl,h2⟩:=hi i hin;exact UQ h1 h2
 obtain⟨f,hf⟩:=Go.Deep.choose_lt hE;rw[xq (f:=f) (g:=T3) hf]at hs;exact⟨ao,c,(List.range n).map f,sI,hs,by simpa using hn⟩
theorem o5{W:World}{t e:TypeId}{n:Nat}{v:Value}{x:DataW H×List MemPlace}(ht:Tryz.prog.underlying t=some (.slice e))(h:DataW.trod enc Tryz.prog W 0 (λ_=>true) true n t [v]=some x):∃ a len cap,v=.slice a len cap:=by
 rcases Go.Deep.open_slice ht h with ⟨h1,h2⟩|⟨a',len',cap',m,n,D,Pl,h1,_⟩
 ·simp only[List.cons.injEq,and_true]at h1;exact⟨_,_,_,h1⟩
 ·simp only[List.cons.injEq,and_true]at h1;exact⟨_,_,_,h1⟩
theorem Lp{W:World}{b0:Nat}{v:Value}{d:DataW H}{p:List MemPlace}(hv:Value.okWide Tryz.prog W .any b0 25 v)(h:DataW.Trod enc Tryz.prog W 0 (λ_=>true) true 25 v d p)(hb:Rows.uptoBulk d<=1048576) :
  ∃ (p:Pg) (a1 a2 a3:Option Addr) (c1 c2 c3:Nat),v=CD p a1 a2 a3 c1 c2 c3/\re p W a1 a2 a3/\Ag p:=by
 obtain⟨cs,rfl,hsz⟩:=okWide_struct Tryz.underlying25 hv;rw[V2]at hsz;obtain⟨fuel,h⟩:=h;obtain⟨xs,k,_,hd,_,hxl,hall⟩:=DataW.trod_struct Tryz.underlying25 h;have e0:=hall 0 _ rfl;have e1:=hall 1 _ rfl;have e2:=hall 2 _ rfl;have e3:=hall 3 _ rfl;have e4:=hall 4 _ rfl;have hxl:xs.length=5:=hxl
 obtain⟨l,rfl⟩:∃ l:List Value,cs=l.toArray:=⟨cs.toList,rfl⟩;have hsz:l.length=5:=by simpa using hsz
 match xs,hxl,l,hsz with
 |[y0,y1,y2,y3,y4],_,[v0,v1,v2,v3,v4],_=>
  have t0:DataW.trod enc Tryz.prog W 0 (λ_=>true) true k 22 [v0]=some y0:=by simpa [I8,Value.cells] using e0
  have t1:DataW.trod enc Tryz.prog W 0 (λ_=>true) true k 22 [v1]=some y1:=by simpa [I8,Value.cells] using e1
  have t2:DataW.trod enc Tryz.prog W 0 (λ_=>true) true k 23 [v2]=some y2:=by simpa [WQ,Value.cells] using e2
  have t3:DataW.trod enc Tryz.prog W 0 (λ_=>true) true k 3 [v3]=some y3:=by simpa [rv,Value.cells] using e3
  have t4:DataW.trod enc Tryz.prog W 0 (λ_=>true) true k 3 [v4]=some y4:=by simpa [rv,Value.cells] using e4
  have hd:d=.agg [y0.1,y1.1,y2.1,y3.1,y4.1]:=congrArg Prod.fst hd;subst hd;simp only[Rows.uptoBulk,Rows.uptoBulkAll]at hb;obtain⟨a0,n0,m0,rfl⟩:=o5 Tryz.underlying22 t0;obtain⟨a1,n1,m1,rfl⟩:=o5 Tryz.underlying22 t1;obtain⟨a2,n2,m2,rfl⟩:=o5 Tryz.underlying23 t2
  obtain⟨z3,g3,_⟩:=DataW.trod_int Tryz.underlying3 t3;obtain⟨z4,g4,_⟩:=DataW.trod_int Tryz.underlying3 t4;simp only[List.cons.injEq,and_true]at g3 g4;obtain⟨b0,c0,l0,h0,s0,k0,q0⟩:=open_strs ⟨_,_,_,rfl⟩ (p:=y0.2) ⟨k,t0⟩ oM;obtain⟨b1,c1,l1,h1,s1,k1,q1⟩:=open_strs ⟨_,_,_,rfl⟩ (p:=y1.2) ⟨k,t1⟩ oM
  obtain⟨b2,c2,l2,h2,s2,k2⟩:=Rt ⟨_,_,_,rfl⟩ (p:=y2.2) ⟨k,t2⟩ oM;subst g3 g4;have hz:Ag ⟨l0,l1,l2,z3,z4⟩:=⟨k0,k1,k2,q0,q1⟩;exact⟨⟨l0,l1,l2,z3,z4⟩,b0,b1,b2,c0,c1,c2,by rw[h0,h1,h2],⟨hz.b,s0,s1,s2⟩,hz⟩
end
end
section
open Go.ChangeShapes Go.WideShapes Go.ChangeAt Go.RowKit Go.LE
set_option maxRecDepth 10000
theorem C8:Tryz.prog.globalNamed "loupe/code.shapes"=some 0:=kR
theorem Ou:Tryz.prog.globalNamed "loupe/class.escapes"=some 4:=kR
theorem ab3:(Tryz.prog.globals[0]?).map (·.type)=some 161:=kR
theorem ab8:(Tryz.prog.globals[3]?).map (·.type)=some 334:=kR
theorem abF:(Tryz.prog.globals[4]?).map (·.type)=some 356:=kR
theorem gV{W:World}{n:String}{g:Nat}{cs:Array Value}(hg:Tryz.prog.globalNamed n=some g)(h:W.var? Tryz.prog n=some cs)(i:Nat)(v:Value)(hi:cs.toList[i]?=some v):W.cell? ⟨g,i,none⟩=some v:=by
 unfold World.var? at h;rw[hg,Option.bind_some]at h;split at h
 ·rename_i cs' T fr hh;cases h;simp only[World.cell?,hh];rw[Array.getElem?_toList]at hi;simpa using hi
 ·cases h
theorem NR{W:World}(h:Lib.VarReads Tryz.prog W "internal/strconv.uint64pow10" Rows.laid_internal_strconv_uint64pow10):da W (Out []):=by
 obtain⟨g,t,cs,fuel,p,h1,h2,h3,h4⟩:=h;obtain rfl:=Option.some.inj (RV.symm.trans h1);obtain rfl:=Option.some.inj (ab8.symm.trans h2);have e:(Rows.laid_internal_strconv_uint64pow10:DataW Unit)=Lib.tabData .u64 Lib.pow10Tab:=rfl;rw[e]at h4
 have h5:=Lib.cells_of_tab Tryz.underlying334 Tryz.underlying203 SH Pe h4;refine⟨by simp[Out],?_⟩;show W.var? Tryz.prog _=_;rw[h3,<- h5]
theorem abD{l:List Value}{k:Nat}{x y:Value}(h:(l.drop k).take 2=[x,y]):l[k]?=some x/\l[k+1]?=some y:=by
 have h0:=congrArg (·[0]?) h;have h1:=congrArg (·[1]?) h;simp only[List.getElem?_take,List.getElem?_drop]at h0 h1;exact⟨by simpa using h0,by simpa using h1⟩
theorem V5{l:List Value}{k:Nat}{x y z u:Value}(h:(l.drop k).take 4=[x,y,z,u]):l[k]?=some x/\l[k+1]?=some y/\l[k+2]?=some z/\l[k+3]?=some u:=by
 have h0:=congrArg (·[0]?) h;have h1:=congrArg (·[1]?) h;have h2:=congrArg (·[2]?) h;have h3:=congrArg (·[3]?) h;simp only[List.getElem?_take,List.getElem?_drop]at h0 h1 h2 h3;exact⟨by simpa using h0,by simpa using h1,by simpa using h2,by simpa using h3⟩
theorem FI{W:World}{sp:Nat->Bool}{fuel:Nat}{cs:List Value}{a b:Int}{q:List MemPlace}(h:DataW.trod (λ_=>()) Tryz.prog W 0 sp false fuel 355 cs=some (.agg [.lit (.int .u8 a),.lit (.int .u8 b)],q)):cs=[.int .u8 a,.int .u8 b]:=
 Lib.ints_of_struct (zs:=[a,b]) Tryz.underlying355 (λi f hf=>by
  match i,hf with
  |0,hf=>cases hf;exact⟨Tryz.underlying5,rfl,PJ⟩
  |1,hf=>cases hf;exact⟨Tryz.underlying5,rfl,PJ⟩
  |i+2,hf=>cases hf) Fh h
theorem K8{W:World}(h:Lib.VarReads Tryz.prog W "loupe/class.escapes" Rows.laid_loupe_class_escapes):aV W (Out []):=by
 obtain⟨g,t,cs,fuel,p,h1,h2,h3,h4⟩:=h;obtain rfl:=Option.some.inj (Ou.symm.trans h1);obtain rfl:=Option.some.inj (abF.symm.trans h2)
 have key:∀ i (a b:Int),i<3->[(110,10),(114,13),(116,9)][i]?=some (a,b)->W.cell? ⟨4,i*2,none⟩=some (.int .u8 a)/\W.cell? ⟨4,i*2+1,none⟩=some (.int .u8 b):=λi a b hi hab=>by
  obtain⟨f',d,q,hd,ht⟩:=Lib.array_elem Tryz.underlying356 h4 i hi;rw[Fh]at ht;have e:d=.agg [.lit (.int .u8 a),.lit (.int .u8 b)]:=by
   match i,hi with
   |0,_=>cases hab;cases hd;rfl
   |1,_=>cases hab;cases hd;rfl
   |2,_=>cases hab;cases hd;rfl
  subst e;obtain⟨g1,g2⟩:=abD (FI ht);exact⟨gV Ou h3 _ _ g1,gV Ou h3 _ _ g2⟩
 have k0:=key 0 _ _ oM rfl;have k1:=key 1 _ _ oM rfl;have k2:=key 2 _ _ oM rfl;exact⟨by simp[Out],k0.1,k0.2,k1.1,k1.2,k2.1,k2.2⟩
theorem DN{W:World}{sp:Nat->Bool}{fuel:Nat}{cs:List Value}{s:ByteArray}{b:Bool}{a c:Int}{q:List MemPlace}
  (h:DataW.trod (λ_=>()) Tryz.prog W 0 sp false fuel 160 cs=some (.agg [.lit (.string s.data.toList),.lit (.bool b),.lit (.int .i64 a),.lit (.int .i64 c)],q)):cs=[.string s,.bool b,.int .i64 a,.int .i64 c]:=by
 obtain⟨xs,k,_,hd,hl,hxl,hall⟩:=DataW.trod_struct Tryz.underlying160 h;rw[CH]at hl;have e0:=hall 0 _ rfl;have e1:=hall 1 _ rfl;have e2:=hall 2 _ rfl;have e3:=hall 3 _ rfl;have hxl:xs.length=4:=hxl
 match xs,hxl,cs,hl with
 | [y0,y1,y2,y3],_,[c0,c1,c2,c3],_=>
  have hd:=congrArg Prod.fst hd;simp only[List.map_cons,List.map_nil,DataW.agg.injEq,List.cons.injEq,and_true]at hd;obtain⟨d0,d1,d2,d3⟩:=hd;obtain⟨z0,g0,f0,_⟩:=DataW.trod_string (cs:=[c0]) Tryz.underlying9 (by simpa [PK] using e0)
  obtain⟨z1,g1,f1⟩:=DataW.trod_bool (cs:=[c1]) Tryz.underlying4 (by simpa [aaj] using e1);obtain⟨z2,g2,f2,_⟩:=DataW.trod_int (cs:=[c2]) Tryz.underlying156 (by simpa [ET] using e2);obtain⟨z3,g3,f3,_⟩:=DataW.trod_int (cs:=[c3]) Tryz.underlying156 (by simpa [ET] using e3);rw[f0]at d0;rw[f1]at d1
  rw[f2]at d2;rw[f3]at d3;cases d1;cases d2;cases d3;simp only[DataW.lit.injEq,Lit.string.injEq]at d0;have d0:s=z0:=by
   rcases s with ⟨⟨l⟩⟩;rcases z0 with ⟨⟨l'⟩⟩;simp only at d0;rw[d0]
  subst d0;simp only[List.cons.injEq,and_true]at g0 g1 g2 g3;rw[g0,g1,g2,g3]
theorem Ei:(Rows.laid_loupe_code_shapes:DataW Unit)=.agg (Yg.map λs=>.agg [.lit (.string s.1.data.toList),.lit (.bool s.2.1),.lit (.int .i64 s.2.2.1),.lit (.int .i64 s.2.2.2)]):=rfl
theorem M4{W:World}(h:Lib.VarReads Tryz.prog W "loupe/code.shapes" Rows.laid_loupe_code_shapes):c8 W (Out []):=by
 obtain⟨g,t,cs,fuel,p,h1,h2,h3,h4⟩:=h;obtain rfl:=Option.some.inj (C8.symm.trans h1);obtain rfl:=Option.some.inj (ab3.symm.trans h2);rw[Ei]at h4;refine⟨by simp[Out],λn hn=>?_⟩;obtain⟨f',d,q,hd,ht⟩:=Lib.array_elem Tryz.underlying161 h4 n hn;rw[CH]at ht;have hl:Yg.length=21:=rfl
 rw[List.getElem?_map,List.getElem?_eq_getElem oM,Option.map_some,Option.some.injEq]at hd;subst hd;have hs:dn n=Yg[n]'oM:=by
  unfold dn;rw[List.getD_eq_getElem?_getD,List.getElem?_eq_getElem oM];rfl
 obtain⟨g1,g2,g3,g4⟩:=V5 (DN ht);rw[hs];exact⟨gV C8 h3 _ _ g1,gV C8 h3 _ _ g2,gV C8 h3 _ _ g3,gV C8 h3 _ _ g4⟩
end
end Go.Proofs.YtnemkecffmdlnaaGreatDoor
namespace Go.Proofs.YtnemkecffmdlnaaGreatDoor.codeThereAndBack
section
set_option maxRecDepth 100000
theorem k0:Rows.codeThereAndBackUptoRow.wf (OpenSpec.ofChange (Rows.OpenSpec.upto Rows.codeThereAndBackSpec).bare)=true:=by kernel_rfl
theorem k1:laidOutB Tryz.prog=true:=by kernel_rfl
theorem k2:mapsRowed Tryz.prog=true:=by kernel_rfl
theorem k3:Tryz.f6.params.all (Tryz.prog.readableRec ·)=true:=by kernel_rfl
theorem k4:namedTie Tryz.prog Rows.codeThereAndBackUptoRow.named (Rows.OpenSpec.upto Rows.codeThereAndBackSpec).bare.vars=true:=by kernel_rfl
theorem k5:(Rows.codeThereAndBackUptoRow.stops == [])=true:=by kernel_rfl
theorem k6:(Tryz.prog.stops == [])=true:=by kernel_rfl
theorem k7:(Rows.codeThereAndBackUptoRow.knobs == [])=true:=by kernel_rfl
theorem k8:(Tryz.prog.stopKnobs == [])=true:=by kernel_rfl
theorem k9:(Rows.codeThereAndBackUptoRow.inPlace == Tryz.prog.inPlace 6)=true:=by kernel_rfl
theorem k10:(Rows.codeThereAndBackUptoRow.unfollowed == Tryz.prog.unfollowed 6)=true:=by kernel_rfl
theorem k11:(Rows.codeThereAndBackUptoRow.recurses == Tryz.prog.recurses 6)=true:=by kernel_rfl
theorem k12:(Rows.codeThereAndBackUptoRow.named == Tryz.prog.varsNamed 6)=true:=by kernel_rfl
theorem k13:(Rows.codeThereAndBackUptoRow.maps == (Tryz.f6.params.toList++(Rows.OpenSpec.upto Rows.codeThereAndBackSpec).bare.plain.varTypes Tryz.prog).any (Tryz.prog.mapsRec ·))=true:=by kernel_rfl
theorem k14:(Rows.codeThereAndBackUptoRow.ifaces == (Tryz.f6.params.toList++(Rows.OpenSpec.upto Rows.codeThereAndBackSpec).bare.plain.varTypes Tryz.prog).any (Tryz.prog.ifacesRec ·))=true:=by kernel_rfl
theorem k15:(Rows.codeThereAndBackUptoRow.mapsOut == Tryz.prog.mapsAmong Tryz.f6.resultTypes.toList)=true:=by kernel_rfl
theorem k16:(Rows.codeThereAndBackUptoRow.loops == (Tryz.f6.params.toList++(Rows.OpenSpec.upto Rows.codeThereAndBackSpec).bare.plain.varTypes Tryz.prog).any (Tryz.prog.loopsFrom ·))=true:=by kernel_rfl
theorem k17:(Rows.codeThereAndBackUptoRow.wideKeys == (Tryz.f6.params.toList++(Rows.OpenSpec.upto Rows.codeThereAndBackSpec).bare.plain.varTypes Tryz.prog++Tryz.f6.resultTypes.toList).any (Tryz.prog.wideKeysFrom ·))=true:=by kernel_rfl
theorem k18:(Rows.OpenSpec.upto Rows.codeThereAndBackSpec).bare.vars.all (Tryz.prog.varReadable ·)=true:=by kernel_rfl
theorem k19:Tryz.f6.resultTypes.all (λt=>Tryz.prog.readableRec t&&decide (t<Tryz.prog.types.size))=true:=by kernel_rfl
theorem k20:(Rows.codeThereAndBackUptoRow.ifacesOut == Tryz.f6.resultTypes.toList.any (Tryz.prog.ifacesRec ·))=true:=by kernel_rfl
theorem k21:(Rows.codeThereAndBackUptoRow.loopsOut == Tryz.f6.resultTypes.toList.any (Tryz.prog.loopsFrom ·))=true:=by kernel_rfl
theorem k22:(Rows.codeThereAndBackUptoRow.plainKeys == Tryz.prog.plainKeys)=true:=by kernel_rfl
theorem k23:Rows.codeThereAndBackUptoRow.shortTexts.isNone=true:=by kernel_rfl
theorem k24:Tryz.prog.stopsHeard=true:=by kernel_rfl
theorem k25:Tryz.prog.mayEnter=true:=by kernel_rfl
theorem k26:(Rows.codeThereAndBackUptoRow.lifted == Tryz.prog.liftsFinal)=true:=by kernel_rfl
theorem k27:(Tryz.prog.make == some Rows.codeThereAndBackUptoRow.make)=true:=by kernel_rfl
theorem k28:(Rows.codeThereAndBackUptoRow.kinds == (if Rows.codeThereAndBackUptoRow.domain.isEmpty then [] else Tryz.f6.params.toList.map λt=>match Tryz.prog.underlying t with|some (.int k)=>some k|_=>none))=true:=by kernel_rfl
theorem k29:(Rows.codeThereAndBackUptoRow.pinned == Rows.codeThereAndBackUptoRow.pinnedBy)=true:=by kernel_rfl
theorem k30:(Rows.codeThereAndBackUptoRow.veiled == (Tryz.f6.params.toList++(Rows.OpenSpec.upto Rows.codeThereAndBackSpec).bare.plain.varTypes Tryz.prog++Tryz.f6.resultTypes.toList).any (Tryz.prog.veiledRec ·))=true:=by kernel_rfl
theorem k31:Rows.codeThereAndBackUptoRow.veiledFits Tryz.prog Tryz.f6.params.toList (Tryz.f6.params.toList++(Rows.OpenSpec.upto Rows.codeThereAndBackSpec).bare.plain.varTypes Tryz.prog++Tryz.f6.resultTypes.toList)=true:=by kernel_rfl
theorem facts:joinedFacts Tryz.prog 6 Tryz.f6 (Rows.OpenSpec.upto Rows.codeThereAndBackSpec).bare Rows.codeThereAndBackUptoRow=true:=by
 unfold joinedFacts;simp only[Bool.and_eq_true];exact⟨⟨⟨⟨⟨⟨⟨⟨⟨⟨⟨⟨⟨⟨⟨⟨⟨⟨⟨⟨⟨⟨⟨⟨⟨⟨⟨⟨⟨⟨⟨k0,k1⟩,k2⟩,k3⟩,k4⟩,k5⟩,k6⟩,k7⟩,k8⟩,k9⟩,k10⟩,k11⟩,k12⟩,k13⟩,k14⟩,k15⟩,k16⟩,k17⟩,k18⟩,k19⟩,k20⟩,k21⟩,k22⟩,k23⟩,k24⟩,k25⟩,k26⟩,k27⟩,k28⟩,k29⟩,k30⟩,k31⟩
end
section
open Go.ChangeShapes Go.WideShapes Go.ChangeAt Go.RowKit Go.LE
open Go.ChangeMaps (open_string shut_string)
set_option maxRecDepth 10000
theorem adb:Tryz.prog.globalNamed "strconv.ErrSyntax"=some 5:=by kernel_rfl
theorem adC:Tryz.prog.globalNamed "strconv.ErrRange"=some 6:=by kernel_rfl
theorem ab5:(Tryz.prog.globals[5]?).map (·.type)=some 93:=by kernel_rfl
theorem aaW:(Tryz.prog.globals[6]?).map (·.type)=some 93:=by kernel_rfl
theorem afc:((begin Tryz.prog (λ_ _=>0) default).world.heap[1]?).bind Obj.row?=some (#[.int .i64 0],3):=by kernel_rfl
theorem yI{W:World}{n nm:String}{g:Nat}{t:TypeId}{ms:Array (String×TypeId)}{d:DataW Unit}(hg:Tryz.prog.globalNamed n=some g)(ht:(Tryz.prog.globals[g]?).map (·.type)=some t)(hi:Tryz.prog.underlying t=some (.interface ms))(h:Lib.VarReads Tryz.prog W n (.iface nm d)):∃ u v,W.cell? ⟨g,0,none⟩=some (.iface u v):=by
 obtain⟨g',t',cs,fuel,p,h1,h2,h3,h4⟩:=h;obtain rfl:=Option.some.inj (hg.symm.trans h1);obtain rfl:=Option.some.inj (ht.symm.trans h2);have hc:=gV hg h3 0;cases fuel with
 |zero=>cases h4
 | succ fuel=>
  unfold DataW.trod at h4;rw[hi]at h4;generalize cs.toList=l at h4 hc;rcases l with _|⟨x,_|⟨y,l⟩⟩
  ·cases h4
  ·cases x with
   |iface u v=>exact⟨u,v,hc _ rfl⟩
   |nilIface=>simp at h4
   |_=>cases h4
  ·cases x<;>cases h4
theorem Sq(H:Type)(enc:TypeId×Value->H)(W:World)(base:Nat)(args:Array Value)(ds gs:List (DataW H))(before:List MemPlace)
  (hval:∀ (j:Nat) t v,Tryz.f6.params[j]?=some t->args[j]?=some v->Value.okWide Tryz.prog W .any base t v)
  (hW:DataW.Whole enc Tryz.prog Tryz.f6.params.toList Rows.codeThereAndBackSpec.vars false W args.toList ds gs before) (hL:laidMetH Tryz.prog Rows.codeThereAndBackUptoRow.laid W) (hk:Rows.uptoSmall H (ds++gs)=true) (hS:W.ShapedOpen Tryz.prog) :
  Calls Tryz.prog 6 args W λe W' => ∃ v,e=.returned v/\Rows.codeThereAndBackSpec.post enc Tryz.prog Tryz.f6 false true false false W args v W' := by
 have hW' := hW;obtain⟨p,q,hA0,hV,rfl,hfz,hnd⟩:=hW;have hA:DataW.TrodAll enc Tryz.prog W 0 (λ_=>true) true Tryz.f6.params.toList args.toList ds p:=hA0;rw[Tryz.params6]at hA hval;obtain⟨v0,vs0,d0,ds0,p0,q0,hargs,rfl,rfl,h0,r0⟩:=trodAll_cons hA
 obtain⟨v1,vs1,d1,ds1,p1,q1,rfl,rfl,rfl,h1,r1⟩:=trodAll_cons r0;obtain⟨rfl,rfl,rfl⟩:=trodAll_nil r1;obtain rfl:args=#[v0,v1]:=by cases args;simp_all
 obtain⟨rfl,rfl⟩:=trodVars_none hV;obtain⟨s,rfl,rfl,rfl,ha⟩:=open_string Tryz.underlying9 (hval 1 9 v1 rfl rfl) h1;have hbulk:Rows.uptoBulk d0<=1048576/\s.size<=1048576:=by
  have h:Rows.uptoBulkAll [d0,.lit (.string _)]<=1048576:=of_decide_eq_true hk;simp only[Rows.uptoBulkAll,Nat.add_zero,Rows.uptoBulk]at h;refine⟨by omega,?_⟩;have e:s.size=s.data.toList.length:=rfl;omega
 obtain⟨p,a1,a2,a3,c1,c2,c3,rfl,hp,hz⟩:=Lp (hval 0 25 v0 rfl rfl) h0 hbulk.1;have hL' : laidMet Tryz.prog Rows.codeThereAndBackUptoRow.laid W:=hL;have g1:=NR (Lib.laidMet.reads hL' (.tail _ (.tail _ (.head _))))
 have g2:=K8 (Lib.laidMet.reads hL' (.tail _ (.tail _ (.tail _ (.tail _ (.tail _ (.tail _ (.head _))))))));have g3:=M4 (Lib.laidMet.reads hL' (.tail _ (.tail _ (.tail _ (.tail _ (.tail _ (.tail _ (.tail _ (.head _)))))))))
 have g4:=yI adb ab5 Tryz.underlying93 (Lib.laidMet.reads hL' (.tail _ (.tail _ (.tail _ (.tail _ (.tail _ (.head _)))))));have g5:=yI adC aaW Tryz.underlying93 (Lib.laidMet.reads hL' (.tail _ (.tail _ (.tail _ (.tail _ (.head _))))))
 have g6:=cell_of_shapedOpen_int (P:=Tryz.prog) (g:=1) (t:=3) (k:=.i64) hS (of_decide_eq_true (by kernel_rfl)) afc (by kernel_rfl) (by kernel_rfl) (by kernel_rfl) Tryz.underlying3;have gL:eZ W (Out []):=⟨⟨by simp[Out],g6⟩,⟨by simp[Out],g4⟩,by simp[Out],g5⟩
 refine (Tv p a1 a2 a3 c1 c2 c3 s hz hbulk.2 W hp ⟨⟨g3,g2⟩,g1,gL⟩).mono λe W' ⟨he,hkp⟩=>?_
 subst he;exact⟨_,rfl,SS acQ ac8 ac3 (by kernel_rfl) (tb:=4) rfl Tryz.underlying4 rfl hW' rfl rfl rfl hkp⟩
noncomputable def rS(os:Os):World:=World.laidAll Tryz.prog os Rows.codeThereAndBackUptoRow.laid
def Wg:Array Value:=#[.agg #[.slice none 0 0,.slice none 0 0,.slice none 0 0,.int .i64 0,.int .i64 0],.string .empty]
theorem QT(os:Os):laidMet Tryz.prog Rows.codeThereAndBackUptoRow.laid ((rS os).forCall (λ_ _=>0) ⟨#[],Wg,[]⟩).memory:=
 laidMet_laidAll _ (by kernel_rfl) (by kernel_rfl)
theorem reads(os:Os){H:Type}(enc:TypeId×Value->H):∃ places,DataW.whole enc Tryz.prog ((rS os).forCall (λ_ _=>0) ⟨#[],Wg,[]⟩).memory Tryz.f6.params.toList Rows.codeThereAndBackSpec.vars false Wg.toList 8=some ([.agg [.nil,.nil,.nil,.lit (.int .i64 0),.lit (.int .i64 0)],.lit (.string [])],[],places):=
 ⟨[],by kernel_rfl⟩
set_option maxRecDepth 100000 in
theorem lifted(os:Os)(started:os.Started)(H:Type)(enc:TypeId×Value->H)(F:Stop.Interp) :
  ReturnsInHanded {} Tryz.checked os 6 .any ((Rows.OpenSpec.upto Rows.codeThereAndBackSpec).preRow enc Tryz.prog Tryz.f6 Rows.codeThereAndBackUptoRow.domain false Rows.codeThereAndBackUptoRow.laid) (((Rows.OpenSpec.upto Rows.codeThereAndBackSpec).at F).post enc Tryz.prog Tryz.f6 false true false false):=by
 obtain⟨places,hx⟩:=reads os enc;refine returnsInHanded_of_row (C:=Tryz.checked) (s:=Rows.OpenSpec.upto Rows.codeThereAndBackSpec) ae8 started (by kernel_rfl) Tryz.func6
  (witness_row_at (enc:=enc) (C:=Tryz.checked) false (rS os) Wg (World.laidAll_os _ _ _) (by kernel_rfl) (by kernel_rfl) (by kernel_rfl)
   (OpenSpec.preRow_of_cond 8 hx (by kernel_rfl) (λk hk=>by cases hk;kernel_rfl) (by kernel_rfl) (QT os))) ?_
 intro W base args ds gs before hval hW _ hcond _ hL hS _;exact Sq H enc W base args ds gs before hval hW hL (hcond _ rfl) hS
theorem said:Rows.CodeThereAndBackUptoSaid:=
 OpenClaim.holds_of_cond 6 Tryz.f6 rfl rfl rfl rfl rfl rfl rfl ⟨rfl,rfl,rfl,rfl,rfl⟩ rfl rfl rfl rfl rfl (by kernel_rfl) Tryz.func6 facts
  (of_decide_eq_true (by kernel_rfl)) (by unfold Func.isWrapper;first|(rw[if_pos (by decide +kernel)];kernel_rfl)|(rw[if_neg (by decide +kernel)];exact⟨rfl,rfl⟩))
  (λos started H enc _ F=>by rw[OpenClaim.pre_eq_preRow];exact lifted os started H enc F)
theorem plain(f:FuncId)(fn:Func)(hf:Tryz.pinned.checked.prog.funcNamed "loupe/loupelaw20.CodeThereAndBack"=some f)(hfn:Tryz.pinned.checked.prog.funcs[f]?=some fn) :
  true=Tryz.pinned.checked.prog.looks []/\∀ (j:Nat) t,fn.params[j]?=some t->Tryz.pinned.checked.prog.wantsStandIn t=false:=by
 obtain rfl:f=6:=Option.some.inj ((show Tryz.prog.funcNamed "loupe/loupelaw20.CodeThereAndBack"=some 6 by kernel_rfl).symm.trans hf) |>.symm;obtain rfl:fn=Tryz.f6:=(Option.some.inj (Tryz.func6.symm.trans hfn)).symm;refine⟨by kernel_rfl,λj t ht=>?_⟩;rw[Tryz.params6]at ht
 rcases (by simpa using Array.mem_of_getElem? ht:t=25\/t=9) with rfl|rfl
 ·exact (show Tryz.prog.wantsStandIn 25=false by kernel_rfl)
 ·exact (show Tryz.prog.wantsStandIn 9=false by kernel_rfl)
theorem proved:Rows.CodeThereAndBackUptoCardSaid:=
 Claim7.holds_tied_plain_at .later [] _ _ _ _ said (λ_ h=>by cases h) (by kernel_rfl) (λ_ h=>by cases h) codeThereAndBackUpto_row_tie rfl ⟨rfl,rfl⟩ (by kernel_rfl) rfl plain (by kernel_rfl)
end
end Go.Proofs.YtnemkecffmdlnaaGreatDoor.codeThereAndBack
