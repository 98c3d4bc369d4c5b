/-
 Part 5 of the proof (packed).
-/
import Derived.Test.YtnemkecffmdlnaaGreatDoorD4
import Derived.Shelf.Strings.Builder1
import Derived.Shelf.RegionOpenPlain
import Derived.Lib.IndexBytes
import Derived.Shelf.Small.Strs
import Derived.Shelf.Strconv.ToError
import Derived.Shelf.LaysC
import Derived.Test.YtnemkecffmdlnaaGreatDoorProg
import Derived.Handy
import Derived.Lib.ConvBytes
import Derived.Lib.Hide
import Derived.Laws.Strings3
import Derived.Laws.Closers25
import Derived.Laws.Closers25b
set_option linter.unusedSimpArgs false
set_option linter.unusedVariables false
set_option linter.defProp false
set_option maxHeartbeats 16000000
namespace Go.Proofs.YtnemkecffmdlnaaGreatDoor
section
open Go.RowKit Go.LE Go.Proofs.Tryz
set_option maxRecDepth 10000
section
variable {c:Int->Int}{N:Int}{rd:Int->Except (Int×Int) (BitVec 256×Int)}(hrd:∀ i e,rd i=.error e->e.1≠0)
include hrd
theorem GR{i:Int}{ar:List Nd}{f:Fm}{rest:List Fm}{e:Int×Int}(h:wB c N rd i ar f rest=.error e):e.1≠0:=by
 unfold wB at h;split at h
 ·split at h
  ·cases h;show (20:Int)≠0;omega
  ·unfold PV at h;split at h
   ·rename_i e1 hm;cases h;by_cases h1:c i=123
    ·rw[abc h1]at hm;exact Qs hm
    ·rw[aaM h1]at hm;cases hm
   ·cases h
 ·split at h
  ·cases h
  ·split at h
   ·cases h
   ·split at h
    ·unfold ad8 at h;split at h
     ·cases h;show (20:Int)≠0;omega
     ·cases h
    ·split at h
     ·split at h
      ·cases h;show (23:Int)≠0;omega
      ·cases h
     ·unfold Pa at h;split at h
      ·rename_i e1 hm;cases h;exact hrd _ _ hm
      ·cases h
theorem zI:∀ (n:Nat) (i:Int) (ar:List Nd) (f:Fm) (rest:List Fm) (e:Int×Int),Fc c N rd n i ar f rest=.error e->e.1≠0
 |0,i,ar,f,rest,e,h=>by cases h
 | n+1,i,ar,f,rest,e,h=>by
  rw[Fc]at h;split at h
  ·split at h
   ·rename_i e1 hs;cases h;exact GR hrd hs
   ·exact zI n _ _ _ _ e h
  ·cases h
theorem D6{e:Int×Int}(h:rk c N rd=.error e):e.1≠0:=by
 unfold rk at h;split at h
 ·cases h;show (1:Int)≠0;omega
 ·unfold aaa at h;split at h
  ·rename_i e1 hr;cases h;exact zI hrd _ _ _ _ _ _ hr
  ·split at h
   ·cases h;show (21:Int)≠0;omega
   ·split at h
    ·cases h;show (24:Int)≠0;omega
    ·cases h
end
theorem K1{s:ByteArray}{c p:Int}(h:Qx s=.error (c,p)):c≠0:=by
 have hd:nD (bt s) s.size (kp s)=.error (c,p):=h;have h1:=zd (c:=bt s) (N:=s.size) (rd:=kp s) oM;rw[hd]at h1;cases h2:rk (bt s) s.size (kp s) with
 | error e=>
  rw[h2]at h1;have he:(c,p)=e:=h1;have:=D6 (rd:=kp s) (λi e hi=>by
   unfold kp at hi
   split at hi
   ·cases hi;show (10:Int)≠0;omega
   ·cases hi) h2
  rw[<- he]at this;exact this
 |ok q=>rw[h2]at h1;exact h1.elim
theorem R0{P:Program}{eqs:(T:TypeId)->Option (EqSpec P T)}(h:Hp)(T:TypeId)(X Y:Operand)(b:ByteArray):bz P eqs h .eql T X Y [.v undef,.v (.string b)]=.bad:=rfl
theorem Hy(W:World):j7.res W [.val .nilIface]=undef:=by
 have hn:dec aB .nilIface=none:=by
  unfold dec;rw[dif_neg];rintro⟨t,ht⟩;cases t<;>cases ht
 simp only[j7,hn]
noncomputable def Zo:Env prog:=⟨λ| 71=>some AM.spec|72=>some j7.spec|_=>none,λ| 39=>some o8|_=>none,λ_ _=>none⟩
theorem aaq:Zo.sp 71=some AM.spec:=rfl
theorem abA:Zo.sp 72=some j7.spec:=rfl
theorem RR:Zo.eqs 39=some o8:=rfl
def Hx:=(ak @List.replicate_succ.{0} @List.replicate_zero.{0} @aq @ae lP lM lA (ak dI dK dJ dG dr dt du (ak dq fq fu ft fh ff fm (ak vC vF vv uD uL uA xM (ak xm vS vU ac2 adP adU acY (ak adI acR adG acX sw sS sO (ak sN ad9 adi @a6 @aw @aD @aE (ak @Ip @F6 @CL @CA @pn @dD @cQ (ak @hD @bA @R0 @bad_eq @Hy aaq abA RR)))))))))
theorem Np(s:ByteArray)(w:World)(hs:s.size<=140737488351232)(hg:aV w (Out [])):Calls prog 33 #[.string s] w λe w' => e=.returned (.bool (sq s))/\af w [] w' := by
 refine av (nt:=19) [.tmp 2] func33 rfl rfl rfl ?_;refine vR Zo Hx ?_;cases hd:Qx s with
 |error q=>
  obtain⟨c,p⟩:=q;have hp:oC s=.error (c,p):=by rw[zr,hd];rfl
  have hne:=K1 hd;have ht:sq s=false:=by rw[sq,hd]
  rw[ht];refine wR Zo (ym Hx hp @pC.eq_1 @pC.eq_2 @tK.eq_1) ?_ ?_
  ·exact⟨hs,hg⟩
  refine wR Zo (aa Hx hne) ?_ ?_
  ·simp
  refine wZ Hx ?_;exact λE=>rfl
 |ok t=>
  have hp:oC s=.ok t.expand:=by rw[zr,hd];rfl
  have hsz:=GQ hd;have ht:sq s=decide (cc t.expand=s):=by rw[sq,hd]
  rw[ht];refine wR Zo (ym Hx hp @pC.eq_1 @pC.eq_2 @tK.eq_1) ?_ ?_
  ·exact⟨hs,hg⟩
  refine wR Zo Hx ?_ ?_
  ·exact λ_=>⟨oM,hg⟩
  refine wZ Hx ?_;exact λE=>rfl
def nx:bu prog 33 where
 pre:=λW bs=>λ| [.val (.string s)]=>s.size<=140737488351232/\aV W (Out bs)|_=>False
 res:=λW=>λ| [.val (.string s)]=>.bool (sq s)|_=>undef
 enters:=call33
 ok:=by
  intro W w bs us as_ hk hu hp;split at hp
  ·rename_i s
   match us,hu with
   |[u0],hu=>
    obtain⟨rfl,_⟩:=hu;exact Np s w hp.1 (hp.2.cP hk sI)
  ·exact hp.elim
theorem uK(W:World)(s:ByteArray):nx.res W [.val (.string s)]=.bool (sq s):=rfl
theorem wY(W:World)(bs:List Nat)(s:ByteArray):nx.pre W bs [.val (.string s)]=(s.size<=140737488351232/\aV W (Out bs)):=rfl
structure Pg where
 ty:List ByteArray
 tx:List ByteArray
 co:List (Int×Int×Int×Int)
 src:Int
 vw:Int
def aS(l:List ByteArray):List Value:=l.map .string
def T3(x:Int×Int×Int×Int):List Value:=[.int .i64 x.1,.int .i64 x.2.1,.int .i64 x.2.2.1,.int .i64 x.2.2.2]
def cM(l:List (Int×Int×Int×Int)):List Value:=l.flatMap T3
theorem QB(l:List (Int×Int×Int×Int)):(cM l).length=l.length*4:=by
 induction l with
 |nil=>rfl
 |cons d r ih=>
  have:cM (d::r)=T3 d++cM r:=rfl;rw[this,List.length_append,ih,List.length_cons];show 4+_=_;omega
theorem EU:∀ (l:List (Int×Int×Int×Int)) (k j:Nat) (hk:k<l.length),j<4->(cM l)[k*4+j]?=(T3 l[k])[j]?
 |d::r,0,j,hk,hj=>by
  have:cM (d::r)=T3 d++cM r:=rfl;rw[this,List.getElem?_append_left (by show 0*4+j<4;omega),Nat.zero_mul,Nat.zero_add];rfl
 |d::r,k+1,j,hk,hj=>by
  have:cM (d::r)=T3 d++cM r:=rfl;rw[this,List.getElem?_append_right (by show 4<=_;omega),show (k+1)*4+j-(T3 d).length=k*4+j by show _-4=_;omega];exact EU r k j (by simpa using hk) hj
theorem mF{w:World}{ao:Option Addr}{l:List ByteArray}(h:kt w ao (aS l)){k:Nat}(hk:k<l.length):∃ b o,ao=some ⟨b,o,none⟩/\w.cell? ⟨b,o+k,none⟩=some (.string l[k]):=by
 rcases h with h|⟨b,o,rfl,hc⟩
 ·have h0:l=[]:=by simpa [aS] using h
  subst h0;cases hk
 ·refine⟨b,o,rfl,?_⟩;have:=hc k (by simpa [aS] using hk);rw[this];simp[aS]
theorem kL{w:World}{ao:Option Addr}{l:List (Int×Int×Int×Int)}(h:kt w ao (cM l)){k:Nat}(hk:k<l.length):∃ b o,ao=some ⟨b,o,none⟩/\w.cell? ⟨b,o+k*4,none⟩=some (.int .i64 l[k].1) /\
  w.cell? ⟨b,o+k*4+1,none⟩=some (.int .i64 l[k].2.1)/\w.cell? ⟨b,o+k*4+1+1,none⟩=some (.int .i64 l[k].2.2.1)/\w.cell? ⟨b,o+k*4+1+1+1,none⟩=some (.int .i64 l[k].2.2.2):=by
 have hl:=QB l;rcases h with h|⟨b,o,rfl,hc⟩
 ·rw[h]at hl;simp at hl;omega
 ·have key:∀ j (hj:j<4) (v:Value),(T3 l[k])[j]?=some v->w.cell? ⟨b,o+k*4+j,none⟩=some v:=λj hj v hv=>by
   have h1:=hc (k*4+j) oM;have h2:=EU l k j hk hj;rw[hv,List.getElem?_eq_getElem oM]at h2;rw[<- Nat.add_assoc]at h1;rw[h1];exact h2
  exact⟨b,o,rfl,key 0 oM _ rfl,key 1 oM _ rfl,key 2 oM _ rfl,key 3 oM _ rfl⟩
def ct(P:Nat->Bool):Nat->Nat->Option Nat
 |0,_=>none
 |k+1,j=>bif P j then some j else ct P k (j+1)
theorem qS(P:Nat->Bool)(n j:Nat)(hj:j<n)(h:∀ i<j,P i=false)(hp:P j=true):ct P n 0=some j:=by
 have key:∀ k i,i+k=n->i<=j->ct P k i=some j:=by
  intro k
  induction k with
  |zero=>intro i h1 h2;omega
  | succ k ih=>
   intro i h1 h2;unfold ct;by_cases e:i=j
   ·subst e;rw[hp];rfl
   ·rw[h i oM];exact ih (i+1) oM oM
 exact key n 0 oM (Nat.zero_le _)
theorem nr(P:Nat->Bool)(n:Nat)(h:∀ i<n,P i=false):ct P n 0=none:=by
 have key:∀ k i,i+k=n->ct P k i=none:=by
  intro k
  induction k with
  |zero=>intro i h1;rfl
  |succ k ih=>
   intro i h1;unfold ct;rw[h i oM];exact ih (i+1) oM
 exact key n 0 oM
section
variable (p:Pg)
def uJ(i:Nat):Bool:=!sq (p.ty.getD i ⟨#[]⟩)
def Bx(i:Nat):Bool:=!qf p.ty.length p.tx.length p.co.length (p.co.getD i (0,0,0,0)).1 (p.co.getD i (0,0,0,0)).2.1 (p.co.getD i (0,0,0,0)).2.2.1 (p.co.getD i (0,0,0,0)).2.2.2
def kY:ByteArray:=⟨#[109,97,105,110]⟩
def fw:Int×Int×ByteArray:=
 if (!rh p.src p.ty.length||!rh p.vw p.ty.length)=true then (111,0,kY)
 else match ct (Bx p) p.co.length 0 with
  |some i=>(111,i,⟨#[]⟩)
  |none=>(0,0,⟨#[]⟩)
def fJ:Int×Int×ByteArray:=
 if (131072<p.ty.length\/131072<p.tx.length)\/131072<p.co.length then (24,0,⟨#[]⟩)
 else match ct (uJ p) p.ty.length 0 with
  |some i=>(110,i,⟨#[]⟩)
  |none=>fw p
structure PgB:Prop where
 l1:p.ty.length<=140737488351232
 l2:p.tx.length<=140737488351232
 l3:p.co.length<=140737488351232
 sz:∀ s∈p.ty,s.size<=140737488351232
structure re (w:World)(a1 a2 a3:Option Addr):Prop extends PgB p where
 ty:kt w a1 (aS p.ty)
 tx:kt w a2 (aS p.tx)
 co:kt w a3 (cM p.co)
def BP(W:World)(S:Nat->Prop)(a1 a2 a3:Option Addr):Prop:=iK W S a1 (aS p.ty)/\iK W S a2 (aS p.tx)/\iK W S a3 (cM p.co)
theorem BP.ok{p:Pg}{W w:World}{bs:List Nat}{a1 a2 a3:Option Addr}(h:BP p W (Out bs) a1 a2 a3)(hb:PgB p)(hk:af W bs w):re p w a1 a2 a3:=
 ⟨hb,kI h.1 hk,kI h.2.1 hk,kI h.2.2 hk⟩
theorem re.x{p:Pg}{w:World}{a1 a2 a3:Option Addr}(h:re p w a1 a2 a3):BP p w (Out []) a1 a2 a3:=
 ⟨(iK.RD h.ty).out λ_ _=>by simp[Out],(iK.RD h.tx).out λ_ _=>by simp[Out],(iK.RD h.co).out λ_ _=>by simp[Out]⟩
abbrev CD (a1 a2 a3:Option Addr)(c1 c2 c3:Nat):Value:=pgV a1 a2 a3 p.ty.length p.tx.length p.co.length c1 c2 c3 p.src p.vw
def vN(q:Int×Int×ByteArray):Value:=tK q.1 q.2.1 q.2.2
end
theorem aeU(n1 n2 n3:Nat)(n:Int):od n1 n2 n3 2 n=rh n n1:=rfl
noncomputable def yL:Env prog:=⟨λ| 33=>some nx.spec|73=>some zU.spec|74=>some A1.spec|_=>none,λ| _=>none,λ_ _=>none⟩
theorem abn:yL.sp 33=some nx.spec:=rfl
theorem abC:yL.sp 73=some zU.spec:=rfl
theorem abw:yL.sp 74=some A1.spec:=rfl
def lz:=(ak @List.replicate_succ.{0} @List.replicate_zero.{0} @aq @ae lP lM lA (ak dI dK dJ dG dr dt du (ak dq fq fu ft fh ff fm (ak wA xW vm vT Cb Bw Az (ak B7 s6 tN sZ tu tp tO (ak tj tM s3 vC vF vv uD (ak uL uA xM xm vS vU vb (ak vP uN yb vV u5 xo xZ (ak mU Ex EF Dl Dq @a6 @aw (ak @aD @aE @zk @yT @Hc @FH @uK (ym @wY @pn abn abC abw)))))))))))
theorem yY(p:Pg)(a1 a2 a3:Option Addr)(c1 c2 c3:Nat)(w:World)(hp:re p w a1 a2 a3)(hg:c8 w (Out [])):Calls prog 34 #[CD p a1 a2 a3 c1 c2 c3] w λe w' => e=.returned (vN (fw p))/\af w [] w' := by
 have h3:=hp.l3;refine av (nt:=34) [.cell 2 39] func34 rfl rfl rfl ?_;refine vR yL lz ?_;refine Wp.seq ?_;refine vR yL (aa lz @aeU) ?_;refine wC lz (λhc=>?_) (λhc=>?_)
 ·have e:fw p=(111,0,kY):=by rw[fw,if_pos hc]
  rw[e];refine vR yL lz ?_;refine wZ lz ?_;exact λE=>rfl
 have e0:fw p=match ct (Bx p) p.co.length 0 with
  |some i=>(111,(i:Int),⟨#[]⟩)
  |none=>(0,0,⟨#[]⟩):=by rw[fw,if_neg (by rw[hc];simp)]
 rw[e0];refine wK ?_;refine Wp.seq ?_;refine vR yL lz ?_;refine Wp.block ?_
 refine Wp.loop (λk:Nat=>⟨40,cL [(1,.is (.own 0 0)),(2,.is (.own 8 0)),(19,.is (.v (.slice a3 p.co.length c3))),(20,.is (.v (.int .i64 p.co.length))),(21,.is (.v (.int .i64 (k:Nat))))],cf [(0,.cells 29 [.v (.slice a1 p.ty.length c1),.v (.slice a2 p.tx.length c2),.v (.slice a3 p.co.length c3),.v (.int .i64 p.src),.v (.int .i64 p.vw)]),(8,.cells 39 [.v (.int .i64 0),.v (.int .i64 0),.v (.string ⟨#[]⟩)])]⟩) (λk=>k<=p.co.length/\∀ i<k,Bx p i=false) (λk=>p.co.length-k) 0 ?_ ⟨Nat.zero_le _,λi h=>by omega⟩ ?_
 ·exact wM (λk=>.key k) lz
 rintro k ⟨hk,hn⟩;refine vR yL lz ?_;refine Wp.seq ?_;refine wC lz (λhc=>?_) (λhc=>?_)
 ·have hlt:k<p.co.length:=by
   simp at hc;omega
  have wk:IntKind.i64.wrap ((k:Int)+1)=((k+1:Nat):Int):=wW;obtain⟨b,o,rfl,x1,x2,x3,x4⟩:=kL hp.co hlt;have hbad:Bx p k=!qf p.ty.length p.tx.length p.co.length p.co[k].1 p.co[k].2.1 p.co[k].2.2.1 p.co[k].2.2.2:=by
   rw[Bx,List.getD_eq_getElem?_getD,List.getElem?_eq_getElem hlt];rfl
  generalize p.co[k]=x at *;refine wK ?_;refine Wp.seq (Wp.block ?_);refine wR yL (ym lz x1 x2 x3 x4) ?_ ?_
  ·omega
  refine wR yL lz ?_ ?_
  ·exact hg
  refine wC lz (λhc=>?_) (λhc=>?_)
  ·rw[qS (Bx p) p.co.length k hlt hn (hbad.trans hc)];refine vR yL lz ?_;refine wZ lz ?_;exact λE=>rfl
  ·refine wK ?_;refine vr yL (aa lz wk) ?_;refine⟨k+1,⟨oM,λi hi=>?_⟩,oM,?_⟩
   ·by_cases h:i=k
    ·rw[h];exact hbad.trans hc
    ·exact hn i oM
   ·exact wM (λk=>.key k) lz
 ·have hk' : k=p.co.length:=by
   simp at hc;omega
  rw[nr (Bx p) p.co.length (by rw[<- hk'];exact hn)];refine wE ?_;refine vR yL lz ?_;refine wZ lz ?_;exact λE=>rfl
section
variable (p:Pg)(a1 a2 a3:Option Addr)(c1 c2 c3:Nat)(hb:PgB p)
def FB:bu prog 34 where
 pre:=λW bs as_=>as_=[.val (CD p a1 a2 a3 c1 c2 c3)]/\BP p W (Out bs) a1 a2 a3/\c8 W (Out bs)
 res:=λ_ _=>vN (fw p)
 enters:=call34
 ok:=by
  intro W w bs us as_ hk hu hp;obtain⟨rfl,h1,h2⟩:=hp
  match us,hu with
  |[x],hu=>
   obtain⟨rfl,_⟩:=hu;exact yY p a1 a2 a3 c1 c2 c3 w (h1.ok hb hk) (h2.cP hk sI)
noncomputable def Γ92:Env prog:=⟨λ| 33=>some nx.spec|34=>some (FB p a1 a2 a3 c1 c2 c3 hb).spec|_=>none,λ_=>none,λ_ _=>none⟩
theorem Z7:(Γ92 p a1 a2 a3 c1 c2 c3 hb).sp 33=some nx.spec:=rfl
theorem abX:(Γ92 p a1 a2 a3 c1 c2 c3 hb).sp 34=some (FB p a1 a2 a3 c1 c2 c3 hb).spec:=rfl
end
theorem Gs(q:Int×Int×ByteArray):partsOf (.v (vN q))=[.v (.int .i64 q.1),.v (.int .i64 q.2.1),.v (.string q.2.2)]:=rfl
def lZ:=(ym lz @Z7 @abX @FB.eq_1 @Gs)
theorem uQ(p:Pg)(a1 a2 a3:Option Addr)(c1 c2 c3:Nat)(w:World)(hp:re p w a1 a2 a3)(hg:c8 w (Out []))(he:aV w (Out [])):Calls prog 15 #[CD p a1 a2 a3 c1 c2 c3] w λe w' => e=.returned (vN (fJ p))/\af w [] w' := by
 have hx:=hp.x;have hb:=hp.toPgB;have h1:=hp.l1;refine av (nt:=33) [.cell 2 39] func15 rfl rfl rfl ?_;refine vR yL lZ ?_;refine Wp.seq ?_;refine wR yL lZ ?_ ?_
 ·exact⟨⟨_,rfl⟩,⟨_,rfl⟩,_,rfl⟩
 refine wC lZ (λhc=>?_) (λhc=>?_)
 ·have h:(131072<p.ty.length\/131072<p.tx.length)\/131072<p.co.length:=by
   simp at hc;omega
  have e:fJ p=(24,0,⟨#[]⟩):=by rw[fJ,if_pos h]
  rw[e];refine vR yL lZ ?_;refine wZ lZ ?_;exact λE=>rfl
 have h:¬ ((131072<p.ty.length\/131072<p.tx.length)\/131072<p.co.length):=by
  simp at hc;omega
 have e0:fJ p=match ct (uJ p) p.ty.length 0 with
  |some i=>(110,(i:Int),⟨#[]⟩)
  |none=>fw p:=by rw[fJ,if_neg h]
 rw[e0];refine wK ?_;refine Wp.seq ?_;refine vR yL lZ ?_;refine Wp.block ?_
 refine Wp.loop (λk:Nat=>⟨40,cL [(1,.is (.own 0 0)),(2,.is (.own 8 0)),(18,.is (.v (.slice a1 p.ty.length c1))),(19,.is (.v (.int .i64 p.ty.length))),(20,.is (.v (.int .i64 (k:Nat))))],cf [(0,.cells 29 [.v (.slice a1 p.ty.length c1),.v (.slice a2 p.tx.length c2),.v (.slice a3 p.co.length c3),.v (.int .i64 p.src),.v (.int .i64 p.vw)]),(8,.cells 39 [.v (.int .i64 0),.v (.int .i64 0),.v (.string ⟨#[]⟩)])]⟩) (λk=>k<=p.ty.length/\∀ i<k,uJ p i=false) (λk=>p.ty.length-k) 0 ?_ ⟨Nat.zero_le _,λi h=>by omega⟩ ?_
 ·exact wM (λk=>.key k) lZ
 rintro k ⟨hk,hn⟩;refine vR yL lZ ?_;refine Wp.seq ?_;refine wC lZ (λhc=>?_) (λhc=>?_)
 ·have hlt:k<p.ty.length:=by
   simp at hc;omega
  have wk:IntKind.i64.wrap ((k:Int)+1)=((k+1:Nat):Int):=wW;obtain⟨b,o,rfl,x1⟩:=mF hp.ty hlt;have hsz:=hp.sz _ (List.getElem_mem hlt);have hbad:uJ p k=!sq p.ty[k]:=by
   rw[uJ,List.getD_eq_getElem?_getD,List.getElem?_eq_getElem hlt];rfl
  generalize p.ty[k]=x at *;refine wK ?_;refine Wp.seq (Wp.block ?_);refine wR (Γ92 p (some ⟨b,o,none⟩) a2 a3 c1 c2 c3 hb) (aa lZ x1) ?_ ?_
  ·omega
  refine wR (Γ92 p (some ⟨b,o,none⟩) a2 a3 c1 c2 c3 hb) lZ ?_ ?_
  ·exact⟨hsz,he⟩
  refine wC lZ (λhc=>?_) (λhc=>?_)
  ·rw[qS (uJ p) p.ty.length k hlt hn (hbad.trans hc)];refine vR yL lZ ?_;refine wZ lZ ?_;exact λE=>rfl
  ·refine wK ?_;refine vr yL (aa lZ wk) ?_;refine⟨k+1,⟨oM,λi hi=>?_⟩,oM,?_⟩
   ·by_cases h:i=k
    ·rw[h];exact hbad.trans hc
    ·exact hn i oM
   ·exact wM (λk=>.key k) lZ
 ·have hk' : k=p.ty.length:=by
   simp at hc;omega
  rw[nr (uJ p) p.ty.length (by rw[<- hk'];exact hn)];refine wE ?_;refine wR (Γ92 p a1 a2 a3 c1 c2 c3 hb) lZ ?_ ?_
  ·exact⟨hx,hg⟩
  refine wZ lZ ?_;exact λE=>rfl
def ja(p:Pg)(a1 a2 a3:Option Addr)(c1 c2 c3:Nat)(hb:PgB p):bu prog 15 where
 pre:=λW bs as_=>as_=[.val (CD p a1 a2 a3 c1 c2 c3)]/\BP p W (Out bs) a1 a2 a3/\c8 W (Out bs)/\aV W (Out bs)
 res:=λ_ _=>vN (fJ p)
 enters:=call15
 ok:=by
  intro W w bs us as_ hk hu hp;obtain⟨rfl,h1,h2,h3⟩:=hp
  match us,hu with
  |[x],hu=>
   obtain⟨rfl,_⟩:=hu;exact uQ p a1 a2 a3 c1 c2 c3 w (h1.ok hb hk) (h2.cP hk sI) (h3.cP hk sI)
structure sR (op k a b:Int):Prop where
 op0:0<=op
 op1:op<21
 kk:k=0\/((dn op.toNat).2.1=true/\k=1)
 a0:0<=a
 a1:a<=9223372036854775807
 b0:0<=b
 b1:b<=9223372036854775807
theorem SX{n1 n2 n3:Nat}{u n:Int}(h:od n1 n2 n3 u n=true)(h1:n1<=140737488351232)(h2:n2<=140737488351232)(h3:n3<=140737488351232):0<=n/\n<=9223372036854775807:=by
 unfold od at h
 repeat' split at h
 all_goals first
  |(simp[rh]at h;omega)
  |(simp at h;omega)
theorem sR.of{n1 n2 n3:Nat}{op k a b:Int}(h:qf n1 n2 n3 op k a b=true)(h1:n1<=140737488351232)(h2:n2<=140737488351232)(h3:n3<=140737488351232):sR op k a b:=by
 unfold qf at h;simp only[Bool.and_eq_true,Bool.or_eq_true,decide_eq_true_eq]at h;obtain⟨⟨⟨o0,o1⟩,hk⟩,ha,hb⟩:=h;have ha:=SX ha h1 h2 h3;have hb:=SX hb h1 h2 h3;exact⟨o0,o1,hk,ha.1,ha.2,hb.1,hb.2⟩
def Co(k:Int):ByteArray:=if k=0 then ⟨#[115]⟩ else ⟨#[118]⟩
def DT(n:Int)(wd:ByteArray):ByteArray:=cx n++⟨#[32]⟩++wd
def IJ(st:Bool)(k:Int)(o:ByteArray):ByteArray:=bif st then o++(⟨#[32]⟩++Co k) else o
def y9(u a:Int)(o:ByteArray):ByteArray:=if u=0 then o else o++(⟨#[32]⟩++cx a)
def gK(n op k a b:Int):ByteArray:=y9 (dn op.toNat).2.2.2 b (y9 (dn op.toNat).2.2.1 a (IJ (dn op.toNat).2.1 k (DT n (dn op.toNat).1)))
theorem CZ{n:Int}{wd:ByteArray}(h0:0<=n)(h1:n<=9223372036854775807)(hw:wd.size<=5):(DT n wd).size<=25:=by
 have:=eP h0 h1;have e:(⟨#[32]⟩:ByteArray).size=1:=rfl;unfold DT;rw[ByteArray.size_append,ByteArray.size_append,e];omega
theorem D2(st:Bool)(k:Int)(o:ByteArray):(IJ st k o).size<=o.size+2:=by
 have e:(⟨#[32]⟩:ByteArray).size=1:=rfl;have e2:(Co k).size=1:=by unfold Co;split<;>rfl
 cases st
 ·show o.size<=_;omega
 ·show (o++(⟨#[32]⟩++Co k)).size<=_;rw[ByteArray.size_append,ByteArray.size_append,e,e2];omega
theorem u9{u a:Int}{o:ByteArray}(h0:0<=a)(h1:a<=9223372036854775807):(y9 u a o).size<=o.size+20:=by
 have:=eP h0 h1;have e:(⟨#[32]⟩:ByteArray).size=1:=rfl;unfold y9;split
 ·omega
 ·rw[ByteArray.size_append,ByteArray.size_append,e];omega
theorem DM(m:Nat)(hm:m<21):(dn m).1.size<=5:=by
 have:∀ b:Fin 21,(dn b.val).1.size<=5:=by decide +kernel
 exact this ⟨m,hm⟩
theorem wP{n op k a b:Int}(h0:0<=n)(h1:n<=9223372036854775807)(hi:sR op k a b):(gK n op k a b).size<=67:=by
 have g1:=CZ (wd:=(dn op.toNat).1) h0 h1 (DM _ (by have:=hi.op0;have:=hi.op1;omega));have g2:=D2 (dn op.toNat).2.1 k (DT n (dn op.toNat).1);have g3:=u9 (u:=(dn op.toNat).2.2.1) (o:=IJ (dn op.toNat).2.1 k (DT n (dn op.toNat).1)) hi.a0 hi.a1
 have g4:=u9 (u:=(dn op.toNat).2.2.2) (o:=y9 (dn op.toNat).2.2.1 a (IJ (dn op.toNat).2.1 k (DT n (dn op.toNat).1))) hi.b0 hi.b1;unfold gK;omega
noncomputable def NU:Env prog:=⟨λ| 39=>some so.spec|_=>none,λ| _=>none,λ_ _=>none⟩
theorem aaZ:NU.sp 39=some so.spec:=rfl
def jX:=(ak @List.replicate_succ.{0} @List.replicate_zero.{0} @aq @ae lP lM lA (ak dI dK dJ dG dr dt du (ak dq fq fu ft fh ff fm (ak vb vP uN yb vV u5 xo (ak xZ mU Ex EF Dl Dq RZ (ak Tl PR Ql Q6 Tn Oj Pd (ak Sc TJ Sx @a6 @aw @aD @aE (dx @rD @rL aaZ))))))))
theorem OY(n op k a b:Int)(h0:0<=n)(h1:n<=9223372036854775807)(hi:sR op k a b)(w:World)(hg:c8 w (Out []))(ht:da w (Out [])):Calls prog 40 #[.int .i64 n,inV op k a b] w λe w' => e=.returned (.string (gK n op k a b))/\LE.af w [] w' := by
 obtain⟨o0,o1,hk,a0,a1,b0,b1⟩:=hi;obtain⟨m,rfl⟩:=Int.eq_ofNat_of_zero_le o0;obtain⟨g1,g2,g3,g4⟩:=hg.2 m oM;unfold gK;rw[Int.toNat_natCast]at hk ⊢;have hwd:=DM m oM;have hnn:=eP h0 h1;have hna:=eP a0 a1;have hnb:=eP b0 b1;have z32:(⟨#[32]⟩:ByteArray).size=1:=rfl
 have zsv:∀ k,(Co k).size=1:=λk=>by unfold Co;split<;>rfl
 have z2:(⟨#[115,118]⟩:ByteArray).size=2:=rfl;generalize (dn m).1=wd at *;generalize (dn m).2.1=st at *;generalize (dn m).2.2.1=u1 at *;generalize (dn m).2.2.2=u2 at *;refine av (nt:=47) [.tmp 4] func40 rfl rfl rfl ?_;refine vR NU jX ?_;refine wR NU (ym jX g1 g2 g3 g4) ?_ ?_
 ·omega
 refine A0 NU jX ?_ ?_
 ·exact⟨⟨⟨h0,h1⟩,ht⟩,by rw[z32];omega,by rw[ByteArray.size_append,z32];omega⟩
 have f1:=CZ (wd:=wd) h0 h1 hwd;have f2:=D2 st k (DT n wd);have f3:=u9 (u:=u1) (o:=IJ st k (DT n wd)) a0 a1
 refine dB ⟨60,cL [(3,.is (.own 0 0)),(5,.is (.own 48 0)),(6,.is (.v (.string (IJ st k (DT n wd)))))],cf [(0,.cells 50 [.v (.int .i64 m),.v (.int .i64 k),.v (.int .i64 a),.v (.int .i64 b)]),(48,.cells 160 [.v (.string wd),.v (.bool st),.v (.int .i64 u1),.v (.int .i64 u2)])]⟩ ?_ ?_
 ·skip;refine vR NU jX ?_;refine wC jX (λhc=>?_) (λhc=>?_)
  ·rcases hk with rfl|⟨_,rfl⟩
   ·have e2:IJ st 0 (DT n wd)=cx n++⟨#[32]⟩++wd++(⟨#[32]⟩++Co 0):=by rw[hc];rfl
    have e3:(⟨#[115,118]⟩:ByteArray).extract 0 1=Co 0:=by decide +kernel
    have w1:IntKind.i64.wrap (0+1)=1:=by decide +kernel
    refine wr NU (dx jX w1 e3) ?_ ?_
    ·rw[ByteArray.size_append,ByteArray.size_append,ByteArray.size_append,z2,z32,zsv];exact⟨dE,oM,oM⟩
    exact wM (λk=>.key k) (aa jX e2)
   ·have e2:IJ st 1 (DT n wd)=cx n++⟨#[32]⟩++wd++(⟨#[32]⟩++Co 1):=by rw[hc];rfl
    have e3:(⟨#[115,118]⟩:ByteArray).extract 1 2=Co 1:=by decide +kernel
    have w1:IntKind.i64.wrap (1+1)=2:=by decide +kernel
    refine wr NU (dx jX w1 e3) ?_ ?_
    ·rw[ByteArray.size_append,ByteArray.size_append,ByteArray.size_append,z2,z32,zsv];exact⟨dE,oM,oM⟩
    exact wM (λk=>.key k) (aa jX e2)
  ·have e2:IJ st k (DT n wd)=cx n++⟨#[32]⟩++wd:=by rw[hc];rfl
   refine wK ?_;exact wM (λk=>.key k) (aa jX e2)
 generalize IJ st k (DT n wd)=o2 at *
 refine dB ⟨100,cL [(3,.is (.own 0 0)),(5,.is (.own 48 0)),(6,.is (.v (.string (y9 u1 a o2))))],cf [(0,.cells 50 [.v (.int .i64 m),.v (.int .i64 k),.v (.int .i64 a),.v (.int .i64 b)]),(48,.cells 160 [.v (.string wd),.v (.bool st),.v (.int .i64 u1),.v (.int .i64 u2)])]⟩ ?_ ?_
 ·skip;refine vR NU jX ?_;refine wC jX (λhc=>?_) (λhc=>?_)
  ·have e2:y9 u1 a o2=o2++(⟨#[32]⟩++cx a):=by rw[y9,if_neg (by simpa using hc)]
   refine wr NU jX ?_ ?_
   ·exact⟨⟨⟨a0,a1⟩,ht⟩,by rw[z32];omega,by rw[ByteArray.size_append,z32];omega⟩
   exact wM (λk=>.key k) (aa jX e2)
  ·have e2:y9 u1 a o2=o2:=by rw[y9,if_pos (by simpa using hc)]
   refine wK ?_;exact wM (λk=>.key k) (aa jX e2)
 generalize y9 u1 a o2=o3 at *
 refine dB ⟨140,cL [(3,.is (.own 0 0)),(5,.is (.own 48 0)),(6,.is (.v (.string (y9 u2 b o3))))],cf [(0,.cells 50 [.v (.int .i64 m),.v (.int .i64 k),.v (.int .i64 a),.v (.int .i64 b)]),(48,.cells 160 [.v (.string wd),.v (.bool st),.v (.int .i64 u1),.v (.int .i64 u2)])]⟩ ?_ ?_
 ·skip;refine vR NU jX ?_;refine wC jX (λhc=>?_) (λhc=>?_)
  ·have e2:y9 u2 b o3=o3++(⟨#[32]⟩++cx b):=by rw[y9,if_neg (by simpa using hc)]
   refine wr NU jX ?_ ?_
   ·exact⟨⟨⟨b0,b1⟩,ht⟩,by rw[z32];omega,by rw[ByteArray.size_append,z32];omega⟩
   exact wM (λk=>.key k) (aa jX e2)
  ·have e2:y9 u2 b o3=o3:=by rw[y9,if_pos (by simpa using hc)]
   refine wK ?_;exact wM (λk=>.key k) (aa jX e2)
 refine vR NU jX ?_;refine wZ jX ?_;exact λE=>rfl
end
section
open Go.RowKit
set_option maxRecDepth 10000
theorem Z0:liesAt Tryz.prog Tryz.prog.depth 91 (2 / Tryz.prog.cellsOf 91) 0 91 1=true:=by kernel_rfl
theorem RW:(Tryz.prog.info? 91).map (·.size)=some 2:=by kernel_rfl
theorem acK:(Tryz.prog.info? 5).map (λi=>(i.zero,i.size,i.bytes))=some (some (.int .u8 0),1,1):=by kernel_rfl
theorem w4(b:Nat)(w:World)(h0:w.cell? ⟨b,0,none⟩=some (.pointer (some ⟨b,0,none⟩))) :
  Calls Tryz.prog 75 #[.pointer (some ⟨b,0,none⟩)] w λe w' => e=.returned (.tuple #[])/\w' = w:=by
 obtain⟨j,hj,_⟩:=Option.map_eq_some_iff.1 RW
 go_enter Tryz.func75,Tryz.ntmps75
 go_wp2
 rw[Lib.run_neq_ptr_same w _ Tryz.underlying88 hj]
 go_wp2
 go_end0
 exact⟨rfl,rfl⟩
theorem s5(b:Nat)(w:World)(h0:w.cell? ⟨b,0,none⟩=some (.pointer none))(hsh:w.shape? b=some (91,2))(hfz:w.frozen? ⟨b,0,none⟩=false) :
  Calls Tryz.prog 75 #[.pointer (some ⟨b,0,none⟩)] w λe w' => e=.returned (.tuple #[])/\w' = w.setCell ⟨b,0,none⟩ (.pointer (some ⟨b,0,none⟩)):=by
 obtain⟨j,hj,hjs⟩:=Option.map_eq_some_iff.1 RW
 go_enter Tryz.func75,Tryz.ntmps75
 go_wp2
 rw[Lib.run_to_unsafe w ⟨b,0,none⟩ Tryz.underlying88 Tryz.underlying257 hj (by rw[hjs];decide) hsh (Nat.zero_lt_succ 1)];simp only[Result.andThen];rw[Oper.upon_value]
 go_wp2
 rw[run_callFunc_extern Tryz.func130 (by kernel_rfl) (by kernel_rfl) (by kernel_rfl) (e:=Extern.AbiNoEscape.same) (by kernel_rfl)];rw[Lib.run_noEscape];simp only[Result.andThen];rw[Oper.upon_value]
 go_wp2
 rw[Lib.run_from_unsafe w ⟨b,0,none⟩ Tryz.underlying257 Tryz.underlying88 hj hsh Z0];simp only[Result.andThen];rw[Oper.upon_value]
 go_wp2
 go_end0
 exact⟨rfl,rfl⟩
theorem oL{w:World}{b:Nat}{T:TypeId}{x y:Value}(h:w.heap[b]?=some (.cells #[x,y] T (0,0)))(i:Nat)(v:Value):(w.setCell ⟨b,i,none⟩ v).heap[b]?=some (.cells (#[x,y].setIfInBounds i v) T (0,0)):=by
 have hlt:b<w.heap.size:=(Array.getElem?_eq_some_iff.1 h).1;have h' : w.heap[b]=.cells #[x,y] T (0,0):=(Array.getElem?_eq_some_iff.1 h).2;show (w.heap.modify b _)[b]?=_;rw[Array.getElem?_eq_getElem (by simpa using hlt),Array.getElem_modify_self,h'];rfl
theorem kh{w:World}(a:Addr)(v:Value)(k:Nat)(hk:k≠a.block):(w.setCell a v).heap[k]?=w.heap[k]?:=Below.heap_setCell w a v k hk
theorem yk(b:Nat)(p v:Value)(w:World)(hbk:w.heap[b]?=some (.cells #[p,v] 91 (0,0)))(hp:p=.pointer none\/p=.pointer (some ⟨b,0,none⟩)) :
  Calls Tryz.prog 75 #[.pointer (some ⟨b,0,none⟩)] w λe w' => e=.returned (.tuple #[])/\w'.heap[b]?=some (.cells #[.pointer (some ⟨b,0,none⟩),v] 91 (0,0))/\w'.heap.size=w.heap.size/\LE.af w [b] w' := by
 rcases hp with rfl|rfl
 ·refine (s5 b w (by rw[Lib.cell_of_heap hbk];rfl) (by simp[World.shape?,hbk]) (Lib.frozen_of_heap hbk 0)).mono ?_;rintro e w' ⟨rfl,rfl⟩;exact⟨rfl,oL hbk 0 _,by simp,⟨rfl,rfl,rfl,by simp,λk _ hk=>kh _ _ k (by simpa using hk)⟩⟩
 ·refine (w4 b w (by rw[Lib.cell_of_heap hbk];rfl)).mono ?_;rintro e w' ⟨rfl,rfl⟩;exact⟨rfl,hbk,rfl,LE.af.refl _ _⟩
theorem rl{w:World}(t u ty e:TypeId)(i:TypeInfo)(ht:Tryz.prog.underlying t=some (.slice e))(hu:Tryz.prog.underlying u=some .string)(hi:Tryz.prog.info? e=some i)(hz:i.zero=some (.int .u8 0))
  (hsize:i.size=1) (hby:i.bytes=1) (v:Value) (n:Nat) (xs:List Value) (hown:w.ownsRow 0 e 1 v n xs) (s:ByteArray) (h63:n+s.size<=maxLen) (hbytes:n+s.size<=140737488355328) :
  ∃ v' w',(Builtin.append_ #[t,u] ty #[v,.string s]).run Tryz.prog w=.ok v' w' /\ w'.ownsRow 0 e 1 v' (n+s.size) (xs++Lib.strCells s)/\w.grownBy w' v.ownBlock /\
   (v'.ownBlock=v.ownBlock\/v'.ownBlock=some w.heap.size):=by
 obtain⟨v',w',hr,h1,h2,h3⟩:=Lib.run_append_own_string (P:=Tryz.prog) w 0 t u ty e i ht hu hi hz hsize hby v n xs hown s h63 hbytes (Nat.zero_le _);refine⟨v',w',hr,h1,h2,?_⟩;have hxl:xs.length=n:=by simpa using hown.1
 rcases hown.2 with ⟨rfl,rfl⟩|⟨g,cap,cur,rfl,hbg,hg,hnc,hcm,hcs,htake⟩
 ·by_cases hm:s.size=0
  ·rw[h3.2 ⟨rfl,hm⟩];exact .inl rfl
  ·have hr2:=run_append_nil_string (P:=Tryz.prog) w t u ty e i (.int .u8 0) ht hu hi hz s (by omega) (by simp only[maxLen]at h63;omega) (by rw[hby];omega);rw[hr]at hr2;cases hr2;exact .inr rfl
 ·by_cases hroom:n+s.size<=cap
  ·have hr2:=Lib.run_append_room_string (P:=Tryz.prog) w t u ty e i ht hu hi hsize g n cap cur hg s hroom (by rw[hcs];omega);rw[hr]at hr2;cases hr2;exact .inl rfl
  ·have holds:∀ j u,xs[j]?=some u->w.cell? ((⟨g,0,none⟩:Addr).add j)=some u:=hown.cells (g:=g) rfl
   have hr2:=Lib.run_append_grow_string (P:=Tryz.prog) w t u ty e i (.int .u8 0) ht hu hi hz ⟨g,0,none⟩ n cap xs (by rw[hsize];simpa using hxl) holds s (by omega) (by simp only[maxLen]at h63;omega) (by rw[hby];exact growslice_fits (by omega) (by omega));rw[hr]at hr2;cases hr2;exact .inr rfl
theorem oc{ops:Array Oper}{rest:List Oper}{o:Oper}{a:Act}{w:World}{Q:Exit->Act->World->Prop}(hgd:o.guard=none)(sl x:Operand)(t u:TypeId)
  (ho:o.op=.call { callee:=.builtin .append,args:=#[sl,x],argTypes:=#[t,u] })
  (e:TypeId) (i:TypeInfo) (ht:Tryz.prog.underlying t=some (.slice e)) (hu:Tryz.prog.underlying u=some .string) (hi:Tryz.prog.info? e=some i) (hz:i.zero=some (.int .u8 0))
  (hsize:i.size=1) (hby:i.bytes=1)
  (v:Value) (n:Nat) (xs:List Value) (hs:a.eval sl=v) (hown:w.ownsRow 0 e 1 v n xs) (s:ByteArray) (hx:a.eval x=.string s)
  (h63:n+s.size<=maxLen) (hbytes:n+s.size<=140737488355328)
  (h:∀ v' w',w'.ownsRow 0 e 1 v' (n+s.size) (xs++Lib.strCells s)->w.grownBy w' v.ownBlock->(v'.ownBlock=v.ownBlock\/v'.ownBlock=some w.heap.size)->wpList Tryz.prog ops Q rest (a.put o.dst v') w'):wpList Tryz.prog ops Q (o::rest) a w:=by
 refine wpList_plain hgd λK hK=>?_
 obtain⟨v',w',hr,h2,h3,h4⟩:=rl (w:=w) t u o.type e i ht hu hi hz hsize hby v n xs hown s h63 hbytes;unfold Oper.wp execOp;simp only[ho,resolve,invoke,builtin,Sem.run_bind,Sem.run_pure,Result.andThen_ok,List.map_toArray,List.map_cons,List.map_nil,hs,hx,hr];exact hK _ _ (h v' w' h2 h3 h4)
def lq(d:List Value)(u:Value)(fp:List Nat)(w:World):Prop:=
 ∃ s b v p,d=[.string s]/\u=.pointer (some ⟨b,0,none⟩)/\fp=b::v.ownBlock.toList/\w.heap[b]?=some (.cells #[p,v] 91 (0,0))/\w.ownsRow 0 5 1 v s.size (Lib.strCells s)/\v.ownBlock≠some b /\
  (p=.pointer none\/p=.pointer (some ⟨b,0,none⟩))
theorem lq.local{d:List Value}{u:Value}{fp:List Nat}{w w' : World}(h:lq d u fp w)(hl:∀ b∈fp,w'.heap[b]?=w.heap[b]?):lq d u fp w' := by
 obtain⟨s,b,v,p,h1,h2,h3,h4,h5,h6,h7⟩:=h;refine⟨s,b,v,p,h1,h2,h3,by rw[hl b (by simp[h3])];exact h4,⟨h5.1,?_⟩,h6,h7⟩;rcases h5.2 with h|⟨g,cap,cur,hv,hb,hg,r⟩
 ·exact .inl h
 ·exact .inr ⟨g,cap,cur,hv,hb,by rw[hl g (by rw[h3,hv];simp[Value.ownBlock])];exact hg,r⟩
theorem Pr{w:World}{v:Value}{n:Nat}{xs:List Value}(h:w.ownsRow 0 5 1 v n xs):∀ g,v.ownBlock=some g->g<w.heap.size:=by
 intro g hg;rcases h.2 with ⟨rfl,_⟩|⟨g',cap,cur,rfl,_,hh,_⟩
 ·cases hg
 ·cases hg;exact (Array.getElem?_eq_some_iff.1 hh).1
theorem tw(u:Value)(fp:List Nat)(s0 s:ByteArray)(w:World)(h:lq [.string s0] u fp w)(hlen:s0.size+s.size<=140737488355328) :
  Calls Tryz.prog 37 #[u,.string s] w λe w' => ∃ fp',e=.returned (.tuple #[.int .i64 s.size,.nilIface])/\lq [.string (s0++s)] u fp' w' /\ (∀ b∈fp',b∈fp\/w.heap.size<=b)/\(∀ b∈fp',b<w'.heap.size)/\LE.af w fp w' := by
 obtain⟨s0',b,v,p,hd,rfl,rfl,hbk,hown,hne,hp⟩:=h;cases hd;obtain⟨i0,hi,hz0,hz1,hz2⟩:=info_parts acK;have hbs:(Lib.strCells s0).length=s0.size:=Lib.strCells_length s0;have hcc:=yk b p v w hbk hp
 go_enter Tryz.func37,Tryz.ntmps37
 go_wp2_with (refine hcc.mono ?_)
 rintro e w1 ⟨rfl,hbk1,hs1,hk1⟩;have hg1:∀ g,v.ownBlock=some g->w1.heap[g]?=w.heap[g]?:=λg hg=>hk1.block g (Pr hown g hg) (by rintro h;simp at h;subst h;exact hne hg)
 have hown1:w1.ownsRow 0 5 1 v s0.size (Lib.strCells s0):=by
  refine⟨hown.1,?_⟩;rcases hown.2 with h|⟨g,cap,cur,hv,hb,hg,r⟩
  ·exact .inl h
  ·exact .inr ⟨g,cap,cur,hv,hb,by rw[hg1 g (by rw[hv];rfl)];exact hg,r⟩
 have c0:w1.cell? ⟨b,0,none⟩=some (.pointer (some ⟨b,0,none⟩)):=by rw[Lib.cell_of_heap hbk1];rfl
 have c1:w1.cell? ⟨b,1,none⟩=some v:=by rw[Lib.cell_of_heap hbk1];rfl
 clear hg1 hcc
 go_wp2_with (at_builtin;refine oc rfl _ _ 89 9 rfl 5 i0 Tryz.underlying89 Tryz.underlying9 hi hz0 hz1 hz2 _ _ _ rfl hown1 s rfl ?c3 ?c4 ?_)
 case c3=>unfold maxLen;omega
 case c4=>omega
 intro v' w2 hown' hgrow htold;have hlt:b<w1.heap.size:=(Array.getElem?_eq_some_iff.1 hbk1).1;have hb2:w2.heap[b]?=some (.cells #[.pointer (some ⟨b,0,none⟩),v] 91 (0,0)):=by
  rw[hgrow.block b hlt (λe=>hne e.symm)];exact hbk1
 have d0:w2.cell? ⟨b,0,none⟩=some (.pointer (some ⟨b,0,none⟩)):=by rw[Lib.cell_of_heap hb2];rfl
 have d1:w2.cell? ⟨b,1,none⟩=some v:=by rw[Lib.cell_of_heap hb2];rfl
 have f1:w2.frozen? ⟨b,1,none⟩=false:=Lib.frozen_of_heap hb2 1;obtain⟨ao,n',cap,rfl⟩:∃ ao n' cap,v' = .slice ao n' cap:=by
  rcases hown'.2 with ⟨hv,_⟩|⟨g,cap,cur,hv,_⟩
  ·exact⟨_,_,_,hv⟩
  ·exact⟨_,_,_,hv⟩
 have hgs:=hgrow.size;have hne' : (Value.slice ao n' cap).ownBlock≠some b:=by
  rcases htold with h|h
  ·rw[h];exact hne
  ·rw[h];rintro h;cases h;omega
 have hkeep:LE.af w (b::v.ownBlock.toList) (w2.setCell ⟨b,1,none⟩ (.slice ao n' cap)):=by
  refine⟨hgrow.os.trans hk1.os,hgrow.tape.trans hk1.tape,hgrow.output.trans hk1.output,by simp;omega,λk hk hkn=>?_⟩;simp only[List.mem_cons,not_or]at hkn;rw[kh _ _ k hkn.1,hgrow.block k (by omega) (by rintro h;exact hkn.2 (by rw[<- h];simp)),hk1.block k hk (by simpa using hkn.1)]
 go_wp2
 go_ret2
 refine⟨b::(Value.slice ao n' cap).ownBlock.toList,rfl,?_,λk hk=>?_,λk hk=>?_,hkeep⟩
 ·refine⟨s0++s,b,.slice ao n' cap,_,rfl,rfl,rfl,oL hb2 1 _,?_,hne',.inr rfl⟩;have e1:Lib.strCells (s0++s)=Lib.strCells s0++Lib.strCells s:=by simp[Lib.strCells,ByteArray.data_append]
  have e2:(s0++s).size=s0.size+s.size:=ByteArray.size_append;rw[e1,e2];refine⟨hown'.1,?_⟩;rcases hown'.2 with h|⟨g,c,cur,hv,hb,hg,r⟩
  ·exact .inl h
  ·refine .inr ⟨g,c,cur,hv,hb,?_,r⟩;rw[kh _ _ g (by rintro h;rw[hv]at hne';exact hne' (by rw[h];rfl))];exact hg
 ·simp only[List.mem_cons]at hk ⊢;rcases hk with rfl|hk
  ·exact .inl (.inl rfl)
  ·rcases htold with h|h
   ·rw[h]at hk;exact .inl (.inr hk)
   ·rw[h]at hk;simp at hk;right;omega
 ·simp only[List.mem_cons]at hk;rcases hk with rfl|hk
  ·simp;omega
  ·have:=Pr hown' k (by simpa using hk);simpa using this
end
section
open Go.RowKit
theorem pz(w:World)(bs:List Nat):LE.af w bs w.drew:=⟨rfl,rfl,rfl,Nat.le_refl _,λ_ _ _=>rfl⟩
theorem Al(w:World)(g n:Nat):LE.af w [g] (w.drew.freeze ⟨g,0,none⟩ n):=by
 unfold World.freeze;split
 ·exact pz w _
 ·refine⟨rfl,rfl,rfl,by simp,λk hk hkn=>?_⟩;have hne:g≠k:=λe=>hkn (by simp[e])
  show (w.drew.heap.modify g _)[k]?=_;rw[Array.getElem?_modify,if_neg hne];rfl
theorem Ff(b g cap:Nat)(p:Value)(cur:Array Value)(l:List UInt8)(w:World)(hbk:w.heap[b]?=some (.cells #[p,.slice (some ⟨g,0,none⟩) l.length cap] 91 (0,0)))(h0:l≠[])
  (hg:w.heap[g]?=some (.cells cur 5 (0,0))) (hcm:cap<=maxLen) (hcs:cur.size=cap) (hlc:l.length<=cap) (hcells:∀ j x,l[j]?=some x->w.cell? ⟨g,j,none⟩=some (.int .u8 x.toNat)) :
  Calls Tryz.prog 41 #[.pointer (some ⟨b,0,none⟩)] w λe w' => e=.returned (.string ⟨l.toArray⟩)/\LE.af w [g] w' := by
 have hl0:l.length≠0:=by simpa using h0
 have c1:w.drew.cell? ⟨b,1,none⟩=some (.slice (some ⟨g,0,none⟩) l.length cap):=by
  have:w.drew.heap[b]?=some (.cells #[p,.slice (some ⟨g,0,none⟩) l.length cap] 91 (0,0)):=hbk;rw[Lib.cell_of_heap this];rfl
 have hSD:(Builtin.unsafeSliceData_ #[89] 162 #[.slice (some ⟨g,0,none⟩) l.length cap]).run Tryz.prog w.drew=.ok (.pointer (some ⟨g,0,none⟩)) w.drew:=
  Lib.run_unsafeSliceData_row _ _ _ _ _ _ (by omega)
 have hUS:(Builtin.unsafeString_ #[162,3] 9 #[.pointer (some ⟨g,0,none⟩),.int .i64 l.length]).run Tryz.prog w.drew=.ok (.string ⟨l.toArray⟩) (w.drew.freeze ⟨g,0,none⟩ l.length):=by
  refine Lib.run_unsafeString_row w.drew 162 3 9 5 Tryz.underlying162 (by kernel_rfl) g cur.size (by have hg' : w.drew.heap[g]?=some (.cells cur 5 (0,0)):=hg;simp[World.shape?,hg']) l h0 (by omega) (by unfold maxLen at hcm;omega) ?_;intro j x hx;rw[Addr.add_lit,Nat.zero_add];exact hcells j x hx
 clear hcells;have mixed:=cr
 go_enter Tryz.func41,Tryz.ntmps41
 go_wp2
 go_region_o
 all_goals (go_wp2;go_ret;exact⟨rfl,Al w g _⟩)
theorem FW(b:Nat)(p:Value)(w:World)(hbk:w.heap[b]?=some (.cells #[p,.slice none 0 0] 91 (0,0))) :
  Calls Tryz.prog 41 #[.pointer (some ⟨b,0,none⟩)] w λe w' => e=.returned (.string ⟨#[]⟩)/\LE.af w [] w' := by
 have hUS:=λ(W:World) (q:Option Addr)=>Lib.run_unsafeString_none (P:=Tryz.prog) W 162 3 9 q
 have c1:w.drew.cell? ⟨b,1,none⟩=some (.slice none 0 0):=by
  have:w.drew.heap[b]?=some (.cells #[p,.slice none 0 0] 91 (0,0)):=hbk;rw[Lib.cell_of_heap this];rfl
 have hSD:(Builtin.unsafeSliceData_ #[89] 162 #[.slice none 0 0]).run Tryz.prog w.drew=.ok (.pointer none) w.drew:=rfl;have mixed:=cr
 go_enter Tryz.func41,Tryz.ntmps41
 go_wp2
 go_region_o
 all_goals (go_wp2;go_ret;exact⟨rfl,pz w _⟩)
theorem yD(b g:Nat)(p:Value)(cur:Array Value)(w:World)(hbk:w.heap[b]?=some (.cells #[p,.slice (some ⟨g,0,none⟩) 0 0] 91 (0,0)))(hg:w.heap[g]?=some (.cells cur 5 (0,0))) :
  Calls Tryz.prog 41 #[.pointer (some ⟨b,0,none⟩)] w λe w' => e=.returned (.string ⟨#[]⟩)/\LE.af w [] w' := by
 have hUS:=λ(W:World) (q:Option Addr)=>Lib.run_unsafeString_none (P:=Tryz.prog) W 162 3 9 q
 have hlt:b<w.heap.size:=(Array.getElem?_eq_some_iff.1 hbk).1;have c1:w.drew.cell? ⟨b,1,none⟩=some (.slice (some ⟨g,0,none⟩) 0 0):=by
  have:w.drew.heap[b]?=some (.cells #[p,.slice (some ⟨g,0,none⟩) 0 0] 91 (0,0)):=hbk;rw[Lib.cell_of_heap this];rfl
 have hSD:(Builtin.unsafeSliceData_ #[89] 162 #[.slice (some ⟨g,0,none⟩) 0 0]).run Tryz.prog w.drew=.ok (.pointer (some ⟨w.drew.heap.size,0,none⟩)) (w.drew.alloc (.view ⟨g,0,none⟩ 5)):=
  Lib.run_unsafeSliceData_zero w.drew _ _ 5 Tryz.underlying162 ⟨g,0,none⟩ 0 (5,cur.size) (by have hg' : w.drew.heap[g]?=some (.cells cur 5 (0,0)):=hg;simp[World.shape?,hg'])
 have c2:(w.drew.alloc (.view ⟨g,0,none⟩ 5)).cell? ⟨b,1,none⟩=some (.slice (some ⟨g,0,none⟩) 0 0):=by
  have:(w.drew.alloc (.view ⟨g,0,none⟩ 5)).heap[b]?=_:=(Lib.alloc_old w.drew _ b hlt).trans hbk;rw[Lib.cell_of_heap this];rfl
 have c3:(w.alloc (.view ⟨g,0,none⟩ 5)).drew.cell? ⟨b,1,none⟩=some (.slice (some ⟨g,0,none⟩) 0 0):=c2;have c0:w.cell? ⟨b,1,none⟩=some (.slice (some ⟨g,0,none⟩) 0 0):=c1;have mixed:=cr
 go_enter Tryz.func41,Tryz.ntmps41
 go_wp2
 go_region_o
 all_goals (go_wp2;go_ret;exact⟨rfl,⟨rfl,rfl,rfl,by simp,λk hk _=>Lib.alloc_old w.drew _ k hk⟩⟩)
theorem CV(b g cap:Nat)(p:Value)(w:World)(hc0:cap≠0)(hbk:w.heap[b]?=some (.cells #[p,.slice (some ⟨g,0,none⟩) 0 cap] 91 (0,0))) :
  Calls Tryz.prog 41 #[.pointer (some ⟨b,0,none⟩)] w λe w' => e=.returned (.string ⟨#[]⟩)/\LE.af w [] w' := by
 have hUS:=λ(W:World) (q:Option Addr)=>Lib.run_unsafeString_none (P:=Tryz.prog) W 162 3 9 q
 have c1:w.drew.cell? ⟨b,1,none⟩=some (.slice (some ⟨g,0,none⟩) 0 cap):=by
  have:w.drew.heap[b]?=some (.cells #[p,.slice (some ⟨g,0,none⟩) 0 cap] 91 (0,0)):=hbk;rw[Lib.cell_of_heap this];rfl
 have hSD:(Builtin.unsafeSliceData_ #[89] 162 #[.slice (some ⟨g,0,none⟩) 0 cap]).run Tryz.prog w.drew=.ok (.pointer (some ⟨g,0,none⟩)) w.drew:=
  Lib.run_unsafeSliceData_row _ _ _ _ _ _ hc0
 clear hc0;have mixed:=cr
 go_enter Tryz.func41,Tryz.ntmps41
 go_wp2
 go_region_o
 all_goals (go_wp2;go_ret;exact⟨rfl,pz w _⟩)
theorem GF(u:Value)(fp:List Nat)(s:ByteArray)(w:World)(h:lq [.string s] u fp w) :
  Calls Tryz.prog 41 #[u] w λe w' => e=.returned (.string s)/\LE.af w fp w' := by
 obtain⟨s',b,v,p,hd,rfl,rfl,hbk,hown,hne,hp⟩:=h;cases hd;rcases s with ⟨⟨l⟩⟩;have hsz:(ByteArray.mk ⟨l⟩).size=l.length:=rfl;rw[hsz]at hown;rcases hown.2 with ⟨rfl,hz⟩|⟨g,cap,cur,rfl,hbg,hg,hnc,hcm,hcs,htake⟩
 ·have hl:l=[]:=List.eq_nil_of_length_eq_zero hz;subst hl;exact (FW b p w hbk).mono λe w' ⟨h1,h2⟩=>⟨h1,h2.mono (by simp)⟩
 ·by_cases hl:l=[]
  ·subst hl;by_cases hc:cap=0
   ·subst hc;exact (yD b g p cur w hbk hg).mono λe w' ⟨h1,h2⟩=>⟨h1,h2.mono (by simp)⟩
   ·exact (CV b g cap p w hc hbk).mono λe w' ⟨h1,h2⟩=>⟨h1,h2.mono (by simp)⟩
  ·refine (Ff b g cap p cur l w hbk hl hg hcm (by rw[hcs];omega) hnc λj x hx=>?_).mono λe w' ⟨h1,h2⟩=>⟨h1,h2.mono (by simp[Value.ownBlock])⟩
   have:=hown.cells (g:=g) rfl j (.int .u8 x.toNat) (by simp[Lib.strCells,hx])
   rwa [Addr.add_lit,Nat.zero_add]at this
end
section
open Go.RowKit Go.LE Go.Proofs.Tryz
def AI:ByteArray:=⟨#[10]⟩
theorem tR(t:ByteArray):(t++AI).size=t.size+1:=by rw[ByteArray.size_append];rfl
theorem PT(u:Value)(fp:List Nat)(s0 s:ByteArray)(w:World)(h:lq [.string s0] u fp w)(hlen:s0.size+s.size+1<=140737488355328) :
  Calls prog 36 #[.string s,u] w λe w' => ∃ fp',e=.returned (.tuple #[])/\lq [.string (s0++(s++AI))] u fp' w' /\ (∀ b∈fp',b∈fp\/w.heap.size<=b)/\(∀ b∈fp',b<w'.heap.size)/\LE.af w fp w' := by
 have hw:=tw u fp s0 (s++AI) w h (by rw[tR];omega)
 go_enter func36,Tryz.ntmps36
 go_wp2_with (refine hw.mono ?_)
 rintro e w1 ⟨fp',rfl,h1,h2,h3,h4⟩
 go_wp2
 go_end0
 exact⟨fp',rfl,h1,h2,h3,h4⟩
def s4:Option aI->Option (ByteArray×Prop)
 |some (.obj [.string s] R)=>some (s,R=lq)
 |some (.cells T [.v (.pointer none),.v (.slice none 0 0)])=>some (⟨#[]⟩,T=91)
 |_=>none
theorem v7{E:Nat->Value}{u:Value}{fp:List Nat}{w:World}{e:aI}{s:ByteArray}{p:Prop}(h:s4 (some e)=some (s,p))(hp:p)(he:aZ E u fp w e):lq [.string s] u fp w:=by
 unfold s4 at h;split at h
 ·rename_i s' R heq;cases h;cases heq;subst hp;exact he.1.1
 ·rename_i T heq;cases h;cases heq;subst hp;obtain⟨b,rfl,rfl,hh⟩:=he;exact⟨_,b,.slice none 0 0,.pointer none,rfl,rfl,rfl,hh,World.ownsRow_nil w 0 5 1,by simp[Value.ownBlock],.inl rfl⟩
 ·cases h
def wsK(k:Nat)(t:ByteArray):Option (ByteArray×Prop)->R
 |some (s,p)=>⟨p/\s.size+t.size+1<=140737488355328,.tup [],[(k,some (.obj [.string (s++(t++AI))] lq))],none,[],[k]⟩
 |none=>.bad
def SI(h:Hp):List SV->R
 |[.v (.string t),.own k 0]=>wsK k t (s4 (h k))
 |_=>.bad
theorem kK(h:Hp)(k:Nat)(t:ByteArray):SI h [.v (.string t),.own k 0]=wsK k t (s4 (h k)):=rfl
theorem p4(k:Nat)(t s:ByteArray)(p:Prop):wsK k t (some (s,p))=⟨p/\s.size+t.size+1<=140737488355328,.tup [],[(k,some (.obj [.string (s++(t++AI))] lq))],none,[],[k]⟩:=rfl
theorem SL(s:ByteArray)(R:List Value->Value->List Nat->World->Prop):s4 (some (.obj [.string s] R))=some (s,R=lq):=rfl
theorem xJ(T:TypeId):s4 (some (.cells T [.v (.pointer none),.v (.slice none 0 0)]))=some (⟨#[]⟩,T=91):=rfl
theorem EH{E:Nat->Value}{k:Nat}{w:World}{fp:List Nat}{d:List Value}(h:lq d (E k) fp w):den E (.own k 0)=E k:=by
 obtain⟨_,b,_,_,_,hu,_⟩:=h;simp[den,hu,base,cy]
theorem xx{h:Hp}{args:List SV}(hs:(SI h args).side):∃ k t s p,args=[.v (.string t),.own k 0]/\s4 (h k)=some (s,p)/\p/\s.size+t.size+1<=140737488355328:=by
 unfold SI at hs;split at hs
 ·rename_i t k;cases hb:s4 (h k) with
  |none=>rw[hb]at hs;exact hs.elim
  |some q=>
   obtain⟨s,p⟩:=q;rw[hb]at hs;exact⟨k,t,s,p,rfl,hb,hs.1,hs.2⟩
 ·exact hs.elim
def Ir:LE.Spec prog 36 where
 ev:=λ_ _ _ h args=>SI h args
 good:=by
  intro W bs κ E F h w K args hs hK hk hx hside;rw[call36];obtain⟨k,t,s,p,rfl,hb,hp,hlen⟩:=xx hside;rw[kK,hb,p4];cases hkk:h k with
  |none=>rw[hkk]at hb;cases hb
  | some e=>
   rw[hkk]at hb;have hB:=v7 hb hp (hs.ent k e hkk);have hargs:(ah E [.v (.string t),.own k 0]).toArray=#[.string t,E k]:=by
    show #[.string t,den E (.own k 0)]=_;rw[EH hB]
   rw[hargs];refine Cw (e' := .obj [.string (s++(t++AI))] lq) hs hkk ((PT (E k) (F k) s t w hB hlen).mono λen w' he=>?_) rfl rfl;obtain⟨fp',rfl,h1,h2,h3,h4⟩:=he;refine⟨_,fp',rfl,⟨⟨h1,?_⟩,λw'' hl=>h1.local hl⟩,h2,h3,h4,?_⟩
   ·obtain⟨_,b,_,_,_,hu,_⟩:=h1;rw[hu];rfl
   ·simp[den,ah]
 keys:=by
  intro W bs κ h K args hK hx hside;obtain⟨k,t,s,p,rfl,hb,hp,hlen⟩:=xx hside;rw[kK,hb,p4];refine⟨λj hj=>by simp[SV.keys,al]at hj,λq hq=>?_⟩;simp only[List.mem_singleton]at hq;subst hq;exact⟨.inl (hx k (by simp[al,SV.keys])),λe he j hj=>by simp at he;subst he;cases hj⟩
 loc:=by
  intro W bs κ h h' args hside hr;obtain⟨k,t,s,p,rfl,hb,hp,hlen⟩:=xx hside;rw[kK,hb,p4]at hr;rw[kK,kK,hr k sI]
def stK(k:Nat):Option (ByteArray×Prop)->R
 |some (s,p)=>⟨p,.v (.string s),[(k,none)],none,[],[k]⟩
 |none=>.bad
def OG(h:Hp):List SV->R
 |[.own k 0]=>stK k (s4 (h k))
 |_=>.bad
theorem kE(h:Hp)(k:Nat):OG h [.own k 0]=stK k (s4 (h k)):=rfl
theorem qE(k:Nat)(s:ByteArray)(p:Prop):stK k (some (s,p))=⟨p,.v (.string s),[(k,none)],none,[],[k]⟩:=rfl
theorem wQ{h:Hp}{args:List SV}(hs:(OG h args).side):∃ k s p,args=[.own k 0]/\s4 (h k)=some (s,p)/\p:=by
 unfold OG at hs;split at hs
 ·rename_i k;cases hb:s4 (h k) with
  |none=>rw[hb]at hs;exact hs.elim
  |some q=>
   obtain⟨s,p⟩:=q;rw[hb]at hs;exact⟨k,s,p,rfl,hb,hs⟩
 ·exact hs.elim
def Gb:LE.Spec prog 41 where
 ev:=λ_ _ _ h args=>OG h args
 good:=by
  intro W bs κ E F h w K args hs hK hk hx hside;rw[call41];obtain⟨k,s,p,rfl,hb,hp⟩:=wQ hside;rw[kE,hb,qE];cases hkk:h k with
  |none=>rw[hkk]at hb;cases hb
  |some e=>
   rw[hkk]at hb;have hB:=v7 hb hp (hs.ent k e hkk);have hargs:(ah E [.own k 0]).toArray=#[E k]:=by simp only[ah,EH hB]
   rw[hargs];refine (GF (E k) (F k) s w hB).mono λen w' he=>?_
   obtain⟨rfl,hkeep⟩:=he;exact⟨rfl,E,F,λ_ _=>rfl,rfl,hs.aeM hkk hkeep⟩
 keys:=by
  intro W bs κ h K args hK hx hside;obtain⟨k,s,p,rfl,hb,hp⟩:=wQ hside;rw[kE,hb,qE];refine⟨λj hj=>by simp[SV.keys]at hj,λq hq=>?_⟩;simp only[List.mem_singleton]at hq;subst hq;exact⟨.inl (hx k (by simp[al,SV.keys])),λe he=>by cases he⟩
 loc:=by
  intro W bs κ h h' args hside hr;obtain⟨k,s,p,rfl,hb,hp⟩:=wQ hside;rw[kE,hb,qE]at hr;rw[kE,kE,hr k sI]
def s7(t:ByteArray):ByteArray:=⟨#[116,121,112,101,32,47]⟩++t++⟨#[47]⟩
def ux(t:ByteArray):ByteArray:=⟨#[116,101,120,116,32]⟩++cE t
def eY(s v:Int):ByteArray:=⟨#[109,97,105,110,32]⟩++cx s++⟨#[32]⟩++cx v
def N3(p:Pg)(i:Nat):ByteArray:=gK i (p.co.getD i (0,0,0,0)).1 (p.co.getD i (0,0,0,0)).2.1 (p.co.getD i (0,0,0,0)).2.2.1 (p.co.getD i (0,0,0,0)).2.2.2
def pB(p:Pg)(k:Nat):List ByteArray:=(p.ty.take k).map s7
def lX(p:Pg)(k:Nat):List ByteArray:=pB p p.ty.length++(p.tx.take k).map ux
def og(p:Pg)(k:Nat):List ByteArray:=(lX p p.tx.length++[eY p.src p.vw])++(List.range k).map (N3 p)
def eE(p:Pg):List ByteArray:=og p p.co.length
def gZ(l:List ByteArray):ByteArray:=l.foldl (λo s=>o++(s++AI)) ⟨#[]⟩
theorem la(l:List ByteArray)(s:ByteArray):gZ (l++[s])=gZ l++(s++AI):=by simp[gZ]
def eo(p:Pg):ByteArray:=gZ (eE p)
def oW(p:Pg):ByteArray:=if fJ p=(0,0,⟨#[]⟩) then eo p else ⟨#[]⟩
theorem MV{p:Pg}{k:Nat}(hk:k<p.ty.length):pB p (k+1)=pB p k++[s7 p.ty[k]]:=by
 rw[pB,List.take_succ_eq_append_getElem hk,List.map_append];rfl
theorem Nl(p:Pg):lX p 0=pB p p.ty.length:=by rw[lX,List.take_zero,List.map_nil,List.append_nil]
theorem KU{p:Pg}{k:Nat}(hk:k<p.tx.length):lX p (k+1)=lX p k++[ux p.tx[k]]:=by
 rw[lX,List.take_succ_eq_append_getElem hk,List.map_append,<- List.append_assoc];rfl
theorem KL(p:Pg):og p 0=lX p p.tx.length++[eY p.src p.vw]:=by rw[og];simp
theorem Cd{p:Pg}{k:Nat}(hk:k<p.co.length):N3 p k=gK k p.co[k].1 p.co[k].2.1 p.co[k].2.2.1 p.co[k].2.2.2:=by
 rw[N3,List.getD_eq_getElem?_getD,List.getElem?_eq_getElem hk];rfl
theorem Ld{p:Pg}{k:Nat}(hk:k<p.co.length):og p (k+1)=og p k++[gK k p.co[k].1 p.co[k].2.1 p.co[k].2.2.1 p.co[k].2.2.2]:=by
 rw[og,List.range_succ,List.map_append,<- List.append_assoc,<- Cd hk];rfl
theorem Fl{p:Pg}{k:Nat}(hk:k<=p.ty.length):(pB p k).length=k:=by rw[pB,List.length_map,List.length_take];omega
theorem w7{p:Pg}{k:Nat}(hk:k<=p.tx.length):(lX p k).length=p.ty.length+k:=by rw[lX,List.length_append,Fl (Nat.le_refl _),List.length_map,List.length_take];omega
theorem vc(p:Pg)(k:Nat):(og p k).length=p.ty.length+p.tx.length+1+k:=by
 rw[og,List.length_append,List.length_append,w7 (Nat.le_refl _),List.length_map,List.length_range];rfl
def TY(l:List ByteArray):Prop:=∀ s∈l,s.size<=4194399
theorem Ac:∀ l:List ByteArray,TY l->(gZ l).size<=l.length*4194400:=by
 intro l
 suffices h:∀ (l:List ByteArray) (o:ByteArray),TY l->(l.foldl (λo s=>o++(s++AI)) o).size<=o.size+l.length*4194400 by
  intro hl;have:=h l ⟨#[]⟩ hl;have e:(⟨#[]⟩:ByteArray).size=0:=rfl;rw[e]at this;unfold gZ;omega
 intro l
 induction l with
 |nil=>intro o _;simp
 |cons s r ih=>
  intro o hl;have h1:=ih (o++(s++AI)) λx hx=>hl x (List.mem_cons_of_mem _ hx)
  have h2:=hl s (List.mem_cons_self ..);rw[ByteArray.size_append,tR]at h1;rw[List.foldl_cons,List.length_cons];omega
structure Ag (p:Pg):Prop where
 l1:p.ty.length<=1048576
 l2:p.tx.length<=1048576
 l3:p.co.length<=1048576
 z1:∀ s∈p.ty,s.size<=1048576
 z2:∀ s∈p.tx,s.size<=1048576
theorem Ag.b{p:Pg}(h:Ag p):PgB p:=⟨by have:=h.l1;omega,by have:=h.l2;omega,by have:=h.l3;omega,λs hs=>by have:=h.z1 s hs;omega⟩
theorem mj(t:ByteArray):(s7 t).size=t.size+7:=by
 have e1:(⟨#[116,121,112,101,32,47]⟩:ByteArray).size=6:=rfl;have e2:(⟨#[47]⟩:ByteArray).size=1:=rfl;unfold s7;rw[ByteArray.size_append,ByteArray.size_append,e1,e2];omega
theorem EP(t:ByteArray):(ux t).size<=4*t.size+7:=by
 have e1:(⟨#[116,101,120,116,32]⟩:ByteArray).size=5:=rfl;have:=zW t;unfold ux;rw[ByteArray.size_append,e1];omega
structure PgS (p:Pg):Prop where
 s0:0<=p.src
 s1:p.src<p.ty.length
 v0:0<=p.vw
 v1:p.vw<p.ty.length
 ty:∀ (i:Nat) (h:i<p.ty.length),sq p.ty[i]=true
 co:∀ (i:Nat) (h:i<p.co.length),qf p.ty.length p.tx.length p.co.length p.co[i].1 p.co[i].2.1 p.co[i].2.2.1 p.co[i].2.2.2=true
theorem o6(P:Nat->Bool):∀ k j,ct P k j=none->∀ i,j<=i->i<j+k->P i=false
 |0,j,_,i,h1,h2=>by omega
 | k+1,j,h,i,h1,h2=>by
  unfold ct at h;cases hp:P j with
  |true=>rw[hp]at h;cases h
  |false=>
   rw[hp]at h;by_cases e:i=j
   ·rw[e];exact hp
   ·exact o6 P k (j+1) h i oM oM
theorem ru{p:Pg}(h:(fJ p).1=0):fJ p=(0,0,⟨#[]⟩)/\PgS p/\p.ty.length<=131072/\p.tx.length<=131072/\p.co.length<=131072:=by
 unfold fJ at h ⊢;split at h
 ·cases h
 ·rename_i h0;cases ht:ct (uJ p) p.ty.length 0 with
  |some i=>rw[ht]at h;cases h
  | none=>
   rw[ht]at h;rw[if_neg h0];dsimp only at h ⊢;unfold fw at h ⊢;split at h
   ·cases h
   ·rename_i hw;cases hc:ct (Bx p) p.co.length 0 with
    |some i=>rw[hc]at h;cases h
    | none=>
     rw[if_neg hw];have g1:=o6 _ _ _ ht;have g2:=o6 _ _ _ hc;simp[rh]at hw;refine⟨rfl,⟨oM,oM,oM,oM,λi hi=>?_,λi hi=>?_⟩,oM,oM,oM⟩
     ·have:=g1 i oM oM;rw[uJ,List.getD_eq_getElem?_getD,List.getElem?_eq_getElem hi]at this;simpa using this
     ·have:=g2 i oM oM;rw[Bx,List.getD_eq_getElem?_getD,List.getElem?_eq_getElem hi]at this;simpa using this
theorem PgS.ins{p:Pg}(h:PgS p)(hb:PgB p)(i:Nat)(hi:i<p.co.length):sR p.co[i].1 p.co[i].2.1 p.co[i].2.2.1 p.co[i].2.2.2:=sR.of (h.co i hi) hb.l1 hb.l2 hb.l3
theorem u6{p:Pg}(h:PgS p)(hz:PgB p):(eY p.src p.vw).size<=44:=by
 have e1:(⟨#[109,97,105,110,32]⟩:ByteArray).size=5:=rfl;have e2:(⟨#[32]⟩:ByteArray).size=1:=rfl;have:=h.s1;have:=h.v1;have:=hz.l1;have:=eP h.s0 oM;have:=eP h.v0 oM;unfold eY;rw[ByteArray.size_append,ByteArray.size_append,ByteArray.size_append,e1,e2];omega
theorem TY.app{l m:List ByteArray}(h:TY l)(h' : TY m):TY (l++m):=λs hs=>(List.mem_append.1 hs).elim (h s) (h' s)
theorem JA{p:Pg}(hz:Ag p)(k:Nat):TY (pB p k):=λs hs=>by
 obtain⟨t,ht,rfl⟩:=List.mem_map.1 hs;have:=hz.z1 t (List.mem_of_mem_take ht);rw[mj];omega
theorem Cc{p:Pg}(hz:Ag p)(k:Nat):TY (lX p k):=(JA hz _).app λs hs=>by
 obtain⟨t,ht,rfl⟩:=List.mem_map.1 hs;have:=hz.z2 t (List.mem_of_mem_take ht);have:=EP t;omega
theorem JB{p:Pg}(hz:Ag p)(h:PgS p){k:Nat}(hk:k<=p.co.length):TY (og p k):=by
 refine ((Cc hz _).app λs hs=>?_).app λs hs=>?_
 ·rw[List.mem_singleton.1 hs];have:=u6 h hz.b;omega
 ·obtain⟨i,hi,rfl⟩:=List.mem_map.1 hs;have hi' : i<p.co.length:=by have:=List.mem_range.1 hi;omega
  rw[Cd hi'];have:=hz.l3;have:=wP (n:=i) oM oM (h.ins hz.b i hi');omega
theorem tP{l:List ByteArray}(h:TY l)(hl:l.length<=3145729):(gZ l).size<=13194645717600:=by
 have:=Ac l h;omega
end
section
open Go.RowKit Go.LE Go.Proofs.Tryz
set_option maxRecDepth 10000
def AT:bu prog 38 where
 pre:=λW bs=>λ| [.val (.string s)]=>s.size<=1048576|_=>False
 res:=λW=>λ| [.val (.string s)]=>.string (cE s)|_=>undef
 enters:=call38
 ok:=by
  intro W w bs us as_ hk hu hp;split at hp
  ·rename_i s
   match us,hu with
   |[u0],hu=>
    obtain⟨rfl,_⟩:=hu;exact Nr s hp w
  ·exact hp.elim
theorem HD(W:World)(s:ByteArray):AT.res W [.val (.string s)]=.string (cE s):=rfl
theorem FC(W:World)(bs:List Nat)(s:ByteArray):AT.pre W bs [.val (.string s)]=(s.size<=1048576):=rfl
def Sh.AP:Sh:=⟨λk=>.agg [.part k 0,.part k 1,.part k 2,.part k 3,.part k 4],λ_ _=>rfl,λk j hj=>by simpa [SV.keys,al] using hj⟩
def prΦ(p:Pg)(cs:List Value)(W:World)(S:Nat->Prop):Prop:=∃ (b1 b2 b3:Option Addr) (d1 d2 d3:Nat),cs=[.slice b1 p.ty.length d1,.slice b2 p.tx.length d2,.slice b3 p.co.length d3,.int .i64 p.src,.int .i64 p.vw]/\BP p W S b1 b2 b3
theorem BP.mono{p:Pg}{W W' : World}{S S' : Nat->Prop}{a1 a2 a3:Option Addr}(h:BP p W S a1 a2 a3)(hs:bV W S W' S'):BP p W' S' a1 a2 a3:=⟨h.1.mono hs,h.2.1.mono hs,h.2.2.mono hs⟩
def Zd(p:Pg):FK:=⟨λcs W S=>prΦ p cs W S,λhs ⟨b1,b2,b3,d1,d2,d3,h1,h2⟩=>⟨b1,b2,b3,d1,d2,d3,h1,h2.mono hs⟩⟩
theorem Nq{W:World}{S:Nat->Prop}{ao:Option Addr}{vs:List Value}{n sz:Nat}(h:iK W S ao vs)(hl:n*sz=vs.length)(hne:vs≠[]):∃ b o,ao=some ⟨b,o,none⟩/\S b/\bm W b o (n*sz)=List.map SV.v vs/\cA W b o (n*sz)=True:=by
 rcases h with h|⟨b,o,rfl,hc⟩
 ·exact absurd h hne
 ·have h0:=hc 0 (by cases vs with|nil=>exact absurd rfl hne|cons=>simp);have:=qP (w:=W) (b:=b) vs o λj hj=>(hc j hj).2
  rw[hl];exact⟨b,o,rfl,h0.1,this.1,eq_true this.2⟩
theorem SG(l:List ByteArray):(aS l).length=l.length:=by simp[aS]
theorem acC(l:List Value)(h:∀ v∈l,v.oneCell' = true):(List.map SV.v l).all cp=true:=by
 rw[List.all_eq_true];intro x hx;obtain⟨v,hv,rfl⟩:=List.mem_map.1 hx;exact h v hv
theorem qD(l:List ByteArray):(List.map SV.v (aS l)).all cp=true:=acC _ λv hv=>by
 obtain⟨s,_,rfl⟩:=List.mem_map.1 hv;rfl
theorem yZ(l:List (Int×Int×Int×Int))(k:Nat)(hk:k<l.length):List.map SV.v (cM (l.take k))++[.v (.int .i64 l[k].1),.v (.int .i64 l[k].2.1),.v (.int .i64 l[k].2.2.1),.v (.int .i64 l[k].2.2.2)]=List.map SV.v (cM (l.take (k+1))):=by
 rw[List.take_succ_eq_append_getElem hk];unfold cM;rw[List.flatMap_append,List.map_append];rfl
theorem nU{α:Type}{l:List α}(h:l=[]):(l.length == 0)=true:=by subst h;rfl
theorem qB{α:Type}{l:List α}(h:l≠[]):(l.length == 0)=false:=by
 cases l with
 |nil=>exact absurd rfl h
 |cons x r=>rfl
theorem tT{G:Nat->Prop}{W W' : World}{bs bs' : List Nat}{ao:Option Addr}{vs:List Value}(hu:Up G W bs)(h:iK W' (ZA W bs bs') ao vs):iK W' (fi G bs') ao vs:=h.out λb hb=>⟨hu b hb.2,hb.1⟩
theorem BJ{G:Nat->Prop}{W W' : World}{bs bs' : List Nat}(hx:Ext W bs W' bs'):bV W (fi G bs) W' (fi G bs'):=λb hb hr=>⟨(hx.fe b hb hr.2).1,hr.1,(hx.fe b hb hr.2).2⟩
theorem tS{W:World}{ao:Option Addr}{l:List ByteArray}(h:iK W (Out []) ao (aS l))(hne:l≠[]):∃ b o,ao=some ⟨b,o,none⟩/\bm W b o l.length=List.map SV.v (aS l)/\cA W b o l.length=True:=by
 obtain⟨b,o,h1,_,h2,h3⟩:=Nq (n:=l.length) (sz:=1) h (by rw[SG];omega) (by intro h0;apply hne;simpa [aS] using h0);rw[Nat.mul_one]at h2 h3;exact⟨b,o,h1,h2,h3⟩
def eC:=(ak @List.replicate_succ.{0} @List.replicate_zero.{0} @aq @ae lP lM QW (ak Py OU lA dI dK dJ dG (ak dr dt du dq fq fu ft (ak fh ff fm wA xW vm vT (ak aeX ae2 aeI afa acv acF acT (ak ad2 acu acJ adg adp adt Cb (ak Bw Az B7 s6 tN sZ tu (ak tp tO tj tM s3 acA acS (ak adB acW aag aaz aa0 ZV aaT (ak Z9 ZY abz ab9 vb vP uN (ak yb vV u5 xo xZ mU adj (ak ac0 ac6 ada aec adl acs adn (ak adK Zr Zm ZR Y7 Y1 ZI (NT Zf Zs Za @a6 @aw @aD @aE))))))))))))))
theorem CP(p:Pg)(a1 a2 a3:Option Addr)(c1 c2 c3:Nat)(w:World)(S:Nat->Prop)(h1:p.ty.length<=1048576)(h2:p.tx.length<=1048576)(h3:p.co.length<=1048576)(hp:re p w a1 a2 a3) :
  Calls prog 12 #[CD p a1 a2 a3 c1 c2 c3] w λe w' => lT w S e w' (.fact Sh.AP (Zd p)):=by
 have hx:=hp.x;refine eI (nt:=46) S [.cell 2 29] func12 rfl rfl rfl ?_;refine vR Γ0 eC ?_
 refine dB ⟨60,cL [(1,.is (.own 0 0)),(2,.is (.own 8 0)),(3,.is (.own 16 0))],cf [(0,.cells 25 [.v (.slice a1 p.ty.length c1),.v (.slice a2 p.tx.length c2),.v (.slice a3 p.co.length c3),.v (.int .i64 p.src),.v (.int .i64 p.vw)]),(8,.cells 29 [.v (.slice none 0 0),.v (.slice none 0 0),.v (.slice none 0 0),.v (.int .i64 0),.v (.int .i64 0)]),(16,.cells 29 [.hd 17,.hd 18,.v (.slice none 0 0),.v (.int .i64 p.src),.v (.int .i64 p.vw)]),(17,.row 9 1 p.ty.length (List.map SV.v (aS p.ty))),(18,.row 9 1 p.tx.length (List.map SV.v (aS p.tx)))]⟩ ?_ ?_
 ·by_cases e1:p.ty=[]
  ·by_cases e2:p.tx=[]
   ·have k1:=nU e1;have k2:=nU e2;refine Ft Γ0 (dx eC k1 k2) ?_ ?_
    ·exact⟨by rw[e1];rfl,by rw[e2];rfl⟩
    exact wM (λk=>if k=16 then .key 120 else if k=17 then .key 16 else if k=18 then .key 48 else .key k) (iS eC e1 e2 @aS.eq_1)
   ·have k1:=nU e1;have k2:=qB e2;obtain⟨b2,o2,rfl,x2,y2⟩:=tS hx.2.1 e2;refine Ft Γ0 (ym eC k1 k2 x2 y2) ?_ ?_
    ·exact⟨by rw[e1];rfl,by unfold maxLen;omega,oM,qD _⟩
    exact wM (λk=>if k=16 then .key 120 else if k=17 then .key 16 else if k=18 then .key 72 else .key k) (iS eC e1 @aS.eq_1 @j9)
  ·by_cases e2:p.tx=[]
   ·have k1:=qB e1;have k2:=nU e2;obtain⟨b1,o1,rfl,x1,y1⟩:=tS hx.1 e1;refine Ft Γ0 (ym eC k1 k2 x1 y1) ?_ ?_
    ·exact⟨⟨by unfold maxLen;omega,oM,qD _⟩,by rw[e2];rfl⟩
    exact wM (λk=>if k=16 then .key 120 else if k=17 then .key 40 else if k=18 then .key 48 else .key k) (iS eC e2 @aS.eq_1 @j9)
   ·have k1:=qB e1;have k2:=qB e2;obtain⟨b1,o1,rfl,x1,y1⟩:=tS hx.1 e1;obtain⟨b2,o2,rfl,x2,y2⟩:=tS hx.2.1 e2;refine Ft Γ0 (NT eC k1 k2 x1 y1 x2 y2) ?_ ?_
    ·exact⟨⟨by unfold maxLen;omega,oM,qD _⟩,by unfold maxLen;omega,oM,qD _⟩
    exact wM (λk=>if k=16 then .key 120 else if k=17 then .key 40 else if k=18 then .key 72 else .key k) eC
 refine Wp.seq ?_;refine vR Γ0 eC ?_;refine Wp.block ?_
 refine Wp.loop (λk:Nat=>⟨80,cL [(1,.is (.own 0 0)),(2,.is (.own 8 0)),(3,.is (.own 16 0)),(4,.is (.v (.int .i64 (k:Nat))))],cf [(0,.cells 25 [.v (.slice a1 p.ty.length c1),.v (.slice a2 p.tx.length c2),.v (.slice a3 p.co.length c3),.v (.int .i64 p.src),.v (.int .i64 p.vw)]),(8,.cells 29 [.v (.slice none 0 0),.v (.slice none 0 0),.v (.slice none 0 0),.v (.int .i64 0),.v (.int .i64 0)]),(16,.cells 29 [.hd 17,.hd 18,.hd 19,.v (.int .i64 p.src),.v (.int .i64 p.vw)]),(17,.row 9 1 p.ty.length (List.map SV.v (aS p.ty))),(18,.row 9 1 p.tx.length (List.map SV.v (aS p.tx))),(19,.row 50 4 k (List.map SV.v (cM (p.co.take k))))]⟩) (λk=>k<=p.co.length) (λk=>p.co.length-k) 0 ?_ (Nat.zero_le _) ?_
 ·exact wM (λk=>if k=19 then .nil else .key k) (iS eC @j9 @cM.eq_1 @List.flatMap_nil.{0,0})
 intro k hk;refine Wp.seq ?_;refine vR Γ0 eC ?_;refine wC eC (λhc=>?_) (λhc=>?_)
 ·have hlt:k<p.co.length:=by
   simp at hc;omega
  have wk:IntKind.i64.wrap ((k:Int)+1)=((k+1:Nat):Int):=wW;obtain⟨b,o,rfl,x1,x2,x3,x4⟩:=kL hp.co hlt;have hsn:=yZ p.co k hlt;refine wK ?_;refine Wp.seq (Wp.block ?_);refine wR Γ0 (ym eC x1 x2 x3 x4) ?_ ?_
  ·omega
  refine wr Γ0 (aa eC hsn) ?_ ?_
  ·exact⟨by unfold maxLen;omega,oM⟩
  refine vr Γ0 (aa eC wk) ?_;refine⟨k+1,oM,oM,?_⟩;exact wM (λk=>if k=19 then .key 832 else .key k) eC
 ·have hk' : k=p.co.length:=by
   simp at hc;omega
  subst hk';rw[List.take_length];have up:=cl.up w S;refine wE ?_;refine Wp.gz 17 (ev (aa eC @an)) (λE=>by simp only[ah,den,an];exact rfl) λW1 bs1 ao1 d1 hx1 hs1 hd1=>?_
  refine Wp.gz 18 (ev (aa eC @an)) (λE=>by simp only[ah,den,an];exact rfl) λW2 bs2 ao2 d2 hx2 hs2 hd2=>?_
  refine Wp.gz 19 (ev (aa eC @an)) (λE=>by simp only[ah,den,an];exact rfl) λW3 bs3 ao3 d3 hx3 hs3 hd3=>?_
  have r1:iK W3 (fi (cl w S) bs3) ao1 (aS p.ty):=((tT up hs1).mono (BJ hx2)).mono (BJ hx3);have r2:iK W3 (fi (cl w S) bs3) ao2 (aS p.tx):=(tT (up.ext hx1) hs2).mono (BJ hx3);have r3:iK W3 (fi (cl w S) bs3) ao3 (cM p.co):=tT ((up.ext hx1).ext hx2) hs3;refine vR Γ0 eC ?_;refine wZ eC ?_
  exact⟨[.slice ao1 p.ty.length d1,.slice ao2 p.tx.length d2,.slice ao3 p.co.length d3,.int .i64 p.src,.int .i64 p.vw],λE=>rfl,ao1,ao2,ao3,d1,d2,d3,rfl,r1,r2,r3⟩
theorem J5{w W1:World}{bs1:List Nat}{S:Nat->Prop}{ao:Option Addr}{vs:List Value}(h:iK w S ao vs)(hx:Ext w [] W1 bs1):iK W1 (fi (cl w S) bs1) ao vs:=
 h.mono λb hb hs=>⟨(hx.fe b hb (by simp[Out])).1,λ_=>hs,(hx.fe b hb (by simp[Out])).2⟩
theorem YH(p:Pg)(a1 a2 a3:Option Addr)(c1 c2 c3:Nat)(w:World)(S:Nat->Prop)(h3:p.co.length<=1048576)(hp:re p w a1 a2 a3)(hpx:BP p w S a1 a2 a3) :
  Calls prog 14 #[CD p a1 a2 a3 c1 c2 c3] w λe w' => lT w S e w' (.fact Sh.AP (Zd p)):=by
 refine eI (nt:=42) S [.cell 2 35] func14 rfl rfl rfl ?_;refine vR Γ0 eC ?_;refine vR Γ0 eC ?_;refine Wp.seq ?_;refine vR Γ0 eC ?_;refine Wp.block ?_
 refine Wp.loop (λk:Nat=>⟨80,cL [(1,.is (.own 0 0)),(2,.is (.own 8 0)),(3,.is (.own 16 0)),(4,.is (.v (.int .i64 (k:Nat))))],cf [(0,.cells 25 [.v (.slice a1 p.ty.length c1),.v (.slice a2 p.tx.length c2),.v (.slice a3 p.co.length c3),.v (.int .i64 p.src),.v (.int .i64 p.vw)]),(8,.cells 35 [.v (.slice none 0 0),.v (.slice none 0 0),.v (.slice none 0 0),.v (.int .i64 0),.v (.int .i64 0)]),(16,.cells 35 [.v (.slice a1 p.ty.length c1),.v (.slice a2 p.tx.length c2),.hd 19,.v (.int .i64 p.src),.v (.int .i64 p.vw)]),(19,.row 85 4 k (List.map SV.v (cM (p.co.take k))))]⟩) (λk=>k<=p.co.length) (λk=>p.co.length-k) 0 ?_ (Nat.zero_le _) ?_
 ·exact wM (λk=>if k=16 then .key 88 else if k=19 then .nil else .key k) (iS eC @j9 @cM.eq_1 @List.flatMap_nil.{0,0})
 intro k hk;refine Wp.seq ?_;refine vR Γ0 eC ?_;refine wC eC (λhc=>?_) (λhc=>?_)
 ·have hlt:k<p.co.length:=by
   simp at hc;omega
  have wk:IntKind.i64.wrap ((k:Int)+1)=((k+1:Nat):Int):=wW;obtain⟨b,o,rfl,x1,x2,x3,x4⟩:=kL hp.co hlt;have hsn:=yZ p.co k hlt;refine wK ?_;refine Wp.seq (Wp.block ?_);refine wR Γ0 (ym eC x1 x2 x3 x4) ?_ ?_
  ·omega
  refine wr Γ0 (aa eC hsn) ?_ ?_
  ·exact⟨by unfold maxLen;omega,oM⟩
  refine vr Γ0 (aa eC wk) ?_;refine⟨k+1,oM,oM,?_⟩;exact wM (λk=>if k=19 then .key 832 else .key k) eC
 ·have hk' : k=p.co.length:=by
   simp at hc;omega
  subst hk';rw[List.take_length];have up:=cl.up w S;refine wE ?_;refine Wp.gz 19 (ev (aa eC @an)) (λE=>by simp only[ah,den,an];exact rfl) λW1 bs1 ao3 d3 hx1 hs3 hd3=>?_
  have r3:iK W1 (fi (cl w S) bs1) ao3 (cM p.co):=tT up hs3;refine vR Γ0 eC ?_;refine wZ eC ?_;exact⟨[.slice a1 p.ty.length c1,.slice a2 p.tx.length c2,.slice ao3 p.co.length d3,.int .i64 p.src,.int .i64 p.vw],λE=>rfl,a1,a2,ao3,c1,c2,d3,rfl,J5 hpx.1 hx1,J5 hpx.2.1 hx1,r3⟩
theorem BP.is{p:Pg}{w:World}{S:Nat->Prop}{a1 a2 a3:Option Addr}(h:BP p w S a1 a2 a3)(hb:PgB p):re p w a1 a2 a3:=⟨hb,h.1.is,h.2.1.is,h.2.2.is⟩
section
variable (p:Pg)(a1 a2 a3:Option Addr)(c1 c2 c3:Nat)(hb:PgB p)(hn:p.ty.length<=1048576/\p.tx.length<=1048576/\p.co.length<=1048576)
def vE:jw prog 12 where
 kinds:=[none]
 pre:=λas_ W S=>as_=[.val (CD p a1 a2 a3 c1 c2 c3)]/\BP p W S a1 a2 a3
 premono:=λas_ W S W' S' hs h=>⟨h.1,h.2.mono hs⟩
 out:=λ_=>.fact Sh.AP (Zd p)
 enters:=call12
 ok:=by
  intro w S us as_ hg hp;obtain⟨rfl,h1⟩:=hp
  match us,hg with
  |[x],hg=>
   obtain⟨rfl,_⟩:=hg;exact CP p a1 a2 a3 c1 c2 c3 w S hn.1 hn.2.1 hn.2.2 (h1.is hb)
def aaB:jw prog 14 where
 kinds:=[none]
 pre:=λas_ W S=>as_=[.val (CD p a1 a2 a3 c1 c2 c3)]/\BP p W S a1 a2 a3
 premono:=λas_ W S W' S' hs h=>⟨h.1,h.2.mono hs⟩
 out:=λ_=>.fact Sh.AP (Zd p)
 enters:=call14
 ok:=by
  intro w S us as_ hg hp;obtain⟨rfl,h1⟩:=hp
  match us,hg with
  |[x],hg=>
   obtain⟨rfl,_⟩:=hg;exact YH p a1 a2 a3 c1 c2 c3 w S hn.2.2 (h1.is hb) h1
end
section
variable (W:World)(bs:List Nat)(n op k a b:Int)
end
theorem zB(l:List ByteArray)(s:ByteArray):List.map SV.v (aS l)++[.v (.string s)]=List.map SV.v (aS (l++[s])):=by simp[aS]
section
variable (p:Pg)(a1 a2 a3:Option Addr)(c1 c2 c3:Nat)(hz:Ag p)(hs:PgS p)
end
def iN(s:ByteArray):Nat->List ByteArray×Nat
 |0=>([],0)
 |k+1=>if k=s.size\/bt s k=32 then ((iN s k).1++[s.extract (iN s k).2 k],k+1) else iN s k
def gY(s:ByteArray):List ByteArray:=(iN s (s.size+1)).1
theorem I9(s:ByteArray):∀ k,(iN s k).2<=k/\(iN s k).1.length<=k
 |0=>⟨Nat.le_refl _,Nat.le_refl _⟩
 | k+1=>by
  have ih:=I9 s k;unfold iN;split
  ·simp only[List.length_append,List.length_cons,List.length_nil];omega
  ·omega
def NX(c:UInt8):Prop:=48<=c.toNat/\c.toNat<=57
def pr:Nat->List UInt8->Nat
 |a,[]=>a
 |a,c::r=>pr (a*10+(c.toNat-48)) r
theorem nH:∀ (l:List UInt8) (a:Nat) (c:UInt8),pr a (l++[c])=pr a l*10+(c.toNat-48)
 |[],a,c=>rfl
 |x::r,a,c=>nH r _ c
theorem J3:∀ (l:List UInt8) (a:Nat),a<=pr a l
 |[],a=>Nat.le_refl _
 |c::r,a=>Nat.le_trans oM (J3 r (a*10+(c.toNat-48)))
theorem Zw:∀ (l:List UInt8) (a k:Nat),(∀ c∈l,NX c)->a<10 ^ k->k+l.length<=18->Lib.parseUint10 a l=.ok (pr a l)/\pr a l<10 ^ (k+l.length)
 |[],a,k,_,h,_=>⟨rfl,h⟩
 | c::r,a,k,hd,h,hk=>by
  obtain⟨c1,c2⟩:=hd c sI;simp only[List.length_cons]at hk ⊢;have h17:10 ^ k<=100000000000000000:=Nat.le_trans (Nat.pow_le_pow_right (n:=10) dE (show k<=17 by omega)) dE;have hlt:a*10+(c.toNat-48)<10 ^ (k+1):=by
   rw[Nat.pow_succ];omega
  obtain⟨e1,e2⟩:=Zw r (a*10+(c.toNat-48)) (k+1) (λx hx=>hd x (by simp[hx])) hlt oM;simp only[Lib.parseUint10];rw[if_pos ⟨c1,c2⟩,if_neg oM,if_neg oM];exact⟨e1,by rw[show k+(r.length+1)=k+1+r.length by omega];exact e2⟩
theorem Ku{k:Nat}(h:k<10):(UInt8.ofNat (48+k)).toNat=48+k:=by
 rw[UInt8.toNat_ofNat'];exact Nat.mod_eq_of_lt oM
theorem Jc{c:UInt8}(h:NX c):UInt8.ofNat (48+(c.toNat-48))=c:=by
 obtain⟨h1,h2⟩:=h;rw[show 48+(c.toNat-48)=c.toNat by omega,UInt8.ofNat_toNat]
def nz(l:List UInt8):Prop:=l.length=1\/∀ c r,l=c::r->c.toNat≠48
theorem II:∀ (n:Nat) (l:List UInt8),l.length=n+1->(∀ c∈l,NX c)->nz l->Lib.decDigits (pr 0 l)=l:=by
 intro n
 induction n with
 | zero=>
  intro l hl hd _
  match l,hl with
  |[c],_=>
   have hc:=hd c sI;have hc' := hc;obtain⟨c1,c2⟩:=hc;show Lib.decDigits (0*10+(c.toNat-48))=[c];rw[CF oM,show (0*10+(c.toNat-48)) % 10=c.toNat-48 by omega,Jc hc']
 | succ n ih=>
  intro l hl hd hn;rcases List.eq_nil_or_concat l with rfl|⟨l',c,hlc⟩
  ·simp at hl
  ·rw[List.concat_eq_append]at hlc;subst hlc;have hl' : l'.length=n+1:=by simpa using hl
   have hc:=hd c sI;have hc' := hc;obtain⟨c1,c2⟩:=hc;have hn0:=hn.resolve_left oM;obtain⟨x,r,rfl⟩:∃ x r,l' = x::r:=by
    cases l' with
    |nil=>simp at hl'
    |cons x r=>exact⟨x,r,rfl⟩
   have hx:=hn0 x (r++[c]) rfl;obtain⟨x1,x2⟩:=hd x sI;have hge:=J3 r (0*10+(x.toNat-48));have hpos:1<=pr 0 (x::r):=Nat.le_trans oM hge;have e:=ih (x::r) hl' (λy hy=>hd y (List.mem_append_left _ hy)) (.inr λy q hy=>by cases hy;exact hx);rw[nH];generalize pr 0 (x::r)=u at *
   rw[Ej oM,show (u*10+(c.toNat-48)) / 10=u by omega,show (u*10+(c.toNat-48)) % 10=c.toNat-48 by omega,Jc hc',e]
theorem ue:∀ (n u:Nat),u<n->(∀ c∈Lib.decDigits u,NX c)/\Lib.decDigits u≠[]/\nz (Lib.decDigits u)/\pr 0 (Lib.decDigits u)=u
 |0,u,h=>by omega
 | n+1,u,h=>by
  by_cases h1:u<10
  ·rw[CF h1];have hd:=Ku (k:=u % 10) oM;refine⟨λc hc=>?_,sI,.inl rfl,?_⟩
   ·rw[List.mem_singleton.1 hc];unfold NX;omega
   ·show 0*10+((UInt8.ofNat (48+u % 10)).toNat-48)=u;rw[hd];omega
  ·obtain⟨g1,g2,g3,g4⟩:=ue n (u / 10) oM;have hd:=Ku (k:=u % 10) oM;rw[Ej h1];refine⟨λc hc=>?_,sI,.inr λc r hc=>?_,?_⟩
   ·rcases List.mem_append.1 hc with hc|hc
    ·exact g1 c hc
    ·rw[List.mem_singleton.1 hc];unfold NX;omega
   ·generalize Lib.decDigits (u / 10)=l at *;cases l with
    |nil=>exact absurd rfl g2
    | cons x q=>
     simp only[List.cons_append,List.cons.injEq]at hc;obtain⟨rfl,_⟩:=hc;rcases g3 with g3|g3
     ·have:q=[]:=by simpa using g3
      subst this;have g4:0*10+(x.toNat-48)=u / 10:=g4;omega
     ·exact g3 x q rfl
   ·rw[nH,g4,hd];omega
theorem de(s:ByteArray){k:Nat}(h:k<s.data.toList.length):bt s (k:Nat)=(s.data.toList[k].toNat:Int):=by
 have h' : k<s.data.size:=by simpa using h
 unfold bt;rw[Int.toNat_natCast,Array.getElem?_eq_getElem h'];simp
theorem D3(s:ByteArray):∀ k,(∀ c∈s.data.toList.take k,NX c)->k<=s.data.toList.length->Wf s k=(pr 0 (s.data.toList.take k):Nat)
 |0,_,_=>rfl
 |k+1,hd,hk=>by
  have hlt:k<s.data.toList.length:=oM;rw[List.take_succ_eq_append_getElem hlt]at hd ⊢;obtain⟨c1,c2⟩:=hd s.data.toList[k] sI;have ih:=D3 s k (λc hc=>hd c (List.mem_append_left _ hc)) oM;show 10*Wf s k+(bt s k-48)=_;rw[ih,nH,de s hlt];omega
theorem mC(s:ByteArray):b9 s=true ↔ s.data.toList≠[]/\s.data.toList.length<=9/\nz s.data.toList/\∀ c∈s.data.toList,NX c:=by
 have hz:s.size=s.data.toList.length:=Lib.size_eq s;unfold b9;simp only[Bool.and_eq_true,decide_eq_true_eq,Bool.not_eq_true',Bool.and_eq_false_iff,decide_eq_false_iff_not,List.all_eq_true,List.mem_range,adz];rw[hz];constructor
 ·rintro⟨⟨⟨h1,h2⟩,h3⟩,h4⟩;refine⟨λh=>by rw[h]at h1;simp at h1,h2,?_,λc hc=>?_⟩
  ·rcases h3 with h3|h3
   ·right;intro c r hcr hc;apply h3;have:=de s (k:=0) oM;simp only[hcr,List.getElem_cons_zero]at this;rw[show ((0:Nat):Int)=0 from rfl]at this;rw[this,hc];rfl
   ·left;omega
  ·obtain⟨i,hi,rfl⟩:=List.getElem_of_mem hc;have h5:=h4 i hi;rw[de s hi]at h5;unfold NX;omega
 ·rintro⟨h1,h2,h3,h4⟩;have hp:0<s.data.toList.length:=List.length_pos_iff.2 h1;refine⟨⟨⟨hp,h2⟩,?_⟩,λi hi=>?_⟩
  ·rcases h3 with h3|h3
   ·right;omega
   ·left;have:=de s (k:=0) hp;rw[show ((0:Nat):Int)=0 from rfl]at this;rw[this];obtain⟨x,r,hxr⟩:∃ x r,s.data.toList=x::r:=by
     cases hl:s.data.toList with
     |nil=>exact absurd hl h1
     |cons x r=>exact⟨x,r,rfl⟩
    have h5:=h3 x r hxr;simp only[hxr,List.getElem_cons_zero];omega
  ·rw[de s hi];obtain⟨g1,g2⟩:=h4 _ (List.getElem_mem hi);omega
theorem BX(s:ByteArray):(⟨s.data.toList.toArray⟩:ByteArray)=s:=by
 rcases s with ⟨⟨l⟩⟩;rfl
theorem Bd{s:ByteArray}(h:b9 s=true):km s=(pr 0 s.data.toList:Nat):=by
 obtain⟨h1,h2,h3,h4⟩:=(mC s).1 h;rw[km,if_pos h];have e:=D3 s s.data.toList.length (λc hc=>h4 c (List.mem_of_mem_take hc)) (Nat.le_refl _);rw[List.take_length]at e;rw[Lib.size_eq s,e]
theorem nG(s:ByteArray):fY s=b9 s/\(b9 s=true->o4 s=km s):=by
 have hz:s.size=s.data.toList.length:=Lib.size_eq s;have fwd:fY s=true->b9 s=true:=λh=>by
  unfold fY at h;simp only[Bool.and_eq_true,decide_eq_true_eq]at h;obtain⟨h1,h2⟩:=h;split at h2
  ·rename_i v hv;simp only[Bool.and_eq_true,decide_eq_true_eq]at h2;obtain⟨h2,h3⟩:=h2;obtain⟨m,rfl⟩:=Int.eq_ofNat_of_zero_le h3;rw[nf]at h2;have hl:s.data.toList=Lib.decDigits m:=by rw[<- h2]
   obtain⟨g1,g2,g3,_⟩:=ue (m+1) m oM;rw[mC,hl];exact⟨g2,by rw[<- hl];omega,g3,g1⟩
  ·cases h2
 have bwd:b9 s=true->fY s=true/\o4 s=km s:=λh=>by
  have hv:=Bd h;obtain⟨h1,h2,h3,h4⟩:=(mC s).1 h;obtain⟨c,r,hcr⟩:∃ c r,s.data.toList=c::r:=by
   cases hl:s.data.toList with
   |nil=>exact absurd hl h1
   |cons c r=>exact⟨c,r,rfl⟩
  obtain⟨c1,c2⟩:=h4 c (by rw[hcr];simp);obtain⟨e1,e2⟩:=Zw s.data.toList 0 0 h4 dE oM;have e3:pr 0 s.data.toList<1000000000:=Nat.lt_of_lt_of_le e2 (Nat.le_trans (Nat.pow_le_pow_right (n:=10) dE (show 0+s.data.toList.length<=9 by omega)) dE)
  have ha:Lib.atoiAll s.data.toList=.ok ((pr 0 s.data.toList:Nat):Int):=by
   have hp:=Lib.atoiAll_plain c r oM oM;rw[<- hcr]at hp;rw[hp,Lib.parseMag,if_neg h1,e1];simp only[Lib.signless];rw[if_neg oM]
  have hd:=II (s.data.toList.length-1) s.data.toList (by have:=List.length_pos_iff.2 h1;omega) h4 h3;refine⟨?_,?_⟩
  ·unfold fY;rw[ha,decide_eq_true oM,Bool.true_and];simp only[Bool.and_eq_true,decide_eq_true_eq];refine⟨?_,oM⟩;rw[nf,hd,BX]
  ·rw[o4,if_pos oM,B1,ha,hv]
 refine⟨?_,λh=>(bwd h).2⟩;cases h:b9 s with
 |true=>exact (bwd h).1
 |false=>
  cases h' : fY s with
  |false=>rfl
  |true=>rw[fwd h']at h;cases h
def rm(p:List UInt8):List (List UInt8)->List (List UInt8)
 |[]=>[p]
 |h::t=>(p++h)::t
def iG:List UInt8->List (List UInt8)
 |[]=>[[]]
 |c::r=>if c.toNat=32 then []::iG r else rm [c] (iG r)
theorem uf:∀ l,iG l≠[]
 |[]=>by simp[iG]
 |c::r=>by
  unfold iG;split
  ·simp
  ·cases iG r<;>simp[rm]
theorem Jt{X:List (List UInt8)}(h:X≠[]):rm [] X=X:=by
 cases X with
 |nil=>exact absurd rfl h
 |cons x r=>rfl
theorem Wa(p q:List UInt8)(X:List (List UInt8)):rm p (rm q X)=rm (p++q) X:=by
 cases X<;>simp[rm]
theorem rI:∀ l:List UInt8,(∀ c∈l,c.toNat≠32)->iG l=[l]
 |[],_=>rfl
 |c::r,h=>by
  rw[iG,if_neg (h c sI),rI r λx hx=>h x (by simp[hx])];rfl
theorem xt:∀ (a r:List UInt8),(∀ c∈a,c.toNat≠32)->∀ c:UInt8,c.toNat=32->iG (a++c::r)=a::iG r
 |[],r,_,c,hc=>by rw[List.nil_append,iG,if_pos hc]
 |x::a,r,h,c,hc=>by
  rw[List.cons_append,iG,if_neg (h x sI),xt a r (λy hy=>h y (by simp[hy])) c hc];rfl
theorem bE(s:ByteArray)(a b:Nat):(s.extract a b).data.toList=(s.data.toList.drop a).take (b-a):=by
 rcases s with ⟨⟨l⟩⟩;simp[List.drop_take]
theorem Da(s:ByteArray):∀ k,k<=s.data.toList.length->iG s.data.toList=(iN s k).1.map (λb=>b.data.toList)++rm ((s.data.toList.drop (iN s k).2).take (k-(iN s k).2)) (iG (s.data.toList.drop k))
 |0,_=>by
  show iG s.data.toList=[]++rm ((s.data.toList.drop 0).take (0-0)) (iG (s.data.toList.drop 0));simp[Jt (uf _)]
 | k+1,hk=>by
  have hlt:k<s.data.toList.length:=oM;have ih:=Da s k oM;have hb:=de s hlt;have hf:=(I9 s k).1;have hne:k≠s.size:=by rw[Lib.size_eq s];omega
  have hdr:s.data.toList.drop k=s.data.toList[k]::s.data.toList.drop (k+1):=List.drop_eq_getElem_cons hlt;rw[hdr]at ih;by_cases h:bt s k=32
  ·have e:iN s (k+1)=((iN s k).1++[s.extract (iN s k).2 k],k+1):=by rw[iN,if_pos (.inr h)]
   rw[e];simp only[List.map_append,List.map_cons,List.map_nil,bE,Nat.sub_self,List.take_zero,List.append_assoc,List.cons_append,List.nil_append];rw[Jt (uf _),ih,iG,if_pos oM];simp[rm]
  ·have e:iN s (k+1)=iN s k:=by rw[iN,if_neg (by rintro (g|g);exact hne g;exact h g)]
   rw[e,ih,iG,if_neg oM,Wa]
   congr 2
   have hlen:k-(iN s k).2<(s.data.toList.drop (iN s k).2).length:=by rw[List.length_drop];omega
   rw[show k+1-(iN s k).2=(k-(iN s k).2)+1 by omega,List.take_succ_eq_append_getElem hlen]
   congr 2
   rw[List.getElem_drop]
   congr 1
   omega
theorem sd(s:ByteArray):(gY s).map (λb=>b.data.toList)=iG s.data.toList:=by
 have h:=Da s s.data.toList.length (Nat.le_refl _);have e:iN s (s.size+1)=((iN s s.size).1++[s.extract (iN s s.size).2 s.size],s.size+1):=by rw[iN,if_pos (.inl rfl)]
 rw[gY,e];rw[<- Lib.size_eq s]at h;rw[h];simp only[List.map_append,List.map_cons,List.map_nil,bE];rw[Lib.size_eq s,List.drop_length];simp[iG,rm]
theorem Fk:∀ (l:List UInt8) (c:UInt8),Lib.indexByte l c=-1->c∉l
 |[],c,_=>by simp
 | b::l,c,h=>by
  unfold Lib.indexByte at h;have hge:=Lib.indexByte_ge l c;split at h
  ·omega
  ·rename_i hb;split at h
   ·rename_i h1;have:=Fk l c (by simpa using h1);simp only[List.mem_cons,not_or];exact⟨λe=>hb (by simp[e]),this⟩
   ·omega
theorem EM:∀ (l:List UInt8) (c:UInt8) (i:Nat),Lib.indexByte l c=i->i<l.length/\l=l.take i++c::l.drop (i+1)/\c∉l.take i
 |[],c,i,h=>by simp only[Lib.indexByte]at h;omega
 | b::l,c,i,h=>by
  unfold Lib.indexByte at h;have hge:=Lib.indexByte_ge l c;split at h
  ·rename_i hb;have hi:i=0:=oM;subst hi;have:b=c:=by simpa using hb
   subst this;simp
  ·rename_i hb;split at h
   ·omega
   ·rename_i h0;have h0:Lib.indexByte l c≠-1:=by simpa using h0
    obtain⟨j,hj⟩:∃ j,i=j+1:=⟨i-1,oM⟩;subst hj;obtain⟨h1,h2,h3⟩:=EM l c j oM;refine⟨by simp;omega,?_,?_⟩
    ·simp only[List.take_succ_cons,List.cons_append,List.drop_succ_cons,List.cons.injEq,true_and];exact h2
    ·simp only[List.take_succ_cons,List.mem_cons,not_or];exact⟨λe=>hb (by simp[e]),h3⟩
theorem Kf:∀ (n:Nat) (s:ByteArray),s.size<n->(fU s).map (λb=>b.data.toList)=iG s.data.toList
 |0,s,h=>by omega
 | n+1,s,h=>by
  have hone:=Lib.one s ⟨#[32]⟩ rfl;have hc:(((((⟨#[32]⟩:ByteArray)[0]'dE).toNat:Nat):Int)).toNat.toUInt8=(32:UInt8):=rfl;rcases Lib.indexB_cases s ⟨#[32]⟩ with hm|⟨i,hi,hle⟩
  ·rw[fU,Lib.countB_miss s _ hm,Lib.splitB_zero];rw[hone]at hm;have hno:(32:UInt8)∉s.data.toList:=Fk _ 32 hm;rw[List.map_cons,List.map_nil,rI _ λc hc' he=>hno (((UInt8.toNat_inj (a:=c) (b:=32)).1 he) ▸ hc')]
  ·have hsz:(⟨#[32]⟩:ByteArray).size=1:=rfl;rw[fU,Lib.countB_hit s _ i dE hi,Nat.add_comm 1,Lib.splitB_hit _ _ _ s i hi,hsz];have hss:s.size=s.data.toList.length:=Lib.size_eq s;have ih:=Kf n (s.extract (i+1) s.size) (by rw[ByteArray.size_extract];omega);rw[fU]at ih;rw[List.map_cons,ih];rw[hone]at hi
   obtain⟨h1,h2,h3⟩:=EM _ 32 i hi
   conv=>rhs;rw[h2]
   rw[xt _ _ (λc hc' he=>h3 (((UInt8.toNat_inj (a:=c) (b:=32)).1 he) ▸ hc')) _ rfl];rw[bE,bE,hss];simp only[Nat.add_zero,List.drop_zero,Nat.sub_zero]
   congr 2
   rw[List.take_of_length_le (by rw[List.length_drop];omega)]
theorem ee{a b:ByteArray}(h:a.data.toList=b.data.toList):a=b:=by
 rw[<- BX a,<- BX b,h]
theorem wF(s:ByteArray):fU s=gY s:=by
 have h:(fU s).map (λb=>b.data.toList)=(gY s).map (λb=>b.data.toList):=(Kf (s.size+1) s oM).trans (sd s).symm;exact List.map_inj_right (f:=λb:ByteArray=>b.data.toList) (λa b h=>ee h) |>.1 h
def acZ(c:Int):Bool:=(decide (c=95)||(decide (97<=c)&&decide (c<=122)))||(decide (65<=c)&&decide (c<=90))
def adA(c:Int):Bool:=decide (48<=c)&&decide (c<=57)
def aaw(c:Int):Bool:=decide (32<=c)&&decide (c<=126)
def XP(c:Int):Int:=if adA c=true then c-48 else if (decide (97<=c)&&decide (c<=102))=true then c-97+10 else -1
def aeZ:ByteArray:=⟨#[61,59,40,41,123,125,44,124,38,45,46,126,42,43,63]⟩
def ae4(c:Int):Bool:=(List.range 15).any λi=>decide (bt aeZ i=c)
def adH(c:Int)(b:Bool):Bool:=if c=10 then false else if c=35 then true else b
def aex(c:Int)(b:Bool):Bool:=(((!b&&!decide (c=32))&&!decide (c=9))&&!decide (c=10))&&!decide (c=13)
def adW(s:ByteArray):Nat->Bool->Nat->Nat
 |0,_,i=>i
 |n+1,b,i=>if aex (bt s i) (adH (bt s i) b)=true then i else adW s n (adH (bt s i) b) (i+1)
def adf(s:ByteArray)(i:Nat):Nat:=adW s (s.size-i) false i
theorem eH(s:ByteArray)(i j:Nat)(hj:j<=s.size):(s.extract i j).size=j-i:=by
 rw[ByteArray.size_extract];omega
theorem AQ(s:ByteArray)(i j k:Nat)(hj:j<=s.size)(hk:k<j-i):bt (s.extract i j) (k:Nat)=bt s ((i+k:Nat):Int):=by
 unfold bt;simp only[Int.toNat_natCast,ByteArray.data_extract,Array.getElem?_extract];rw[if_pos (by have:s.size=s.data.size:=rfl;omega)]
theorem eR(s t:ByteArray)(i:Nat):bt (s++t) (i:Nat)=if i<s.size then bt s (i:Nat) else bt t ((i-s.size:Nat):Int):=by
 unfold bt;simp only[Int.toNat_natCast,ByteArray.data_append];have hs:s.data.size=s.size:=rfl;split
 ·rename_i h;rw[Array.getElem?_append_left oM]
 ·rename_i h;rw[Array.getElem?_append_right oM,hs]
theorem JI{l:List Int}(h:∀ c∈l,0<=c/\c<256){j:Nat}(hj:j<l.length):bt (b6 l) (j:Nat)=l[j]:=by
 obtain⟨h0,h1⟩:=h _ (List.getElem_mem hj);unfold bt b6;rw[Int.toNat_natCast];simp only[List.getElem?_toArray,List.getElem?_map,List.getElem?_eq_getElem hj,Option.map_some,Option.getD_some,UInt8.toNat_ofNat'];rw[Nat.mod_eq_of_lt oM];omega
theorem tW(s:ByteArray)(k:Nat)(hk:k<s.size):s.extract 0 k++b6 [bt s (k:Nat)]=s.extract 0 (k+1):=by
 have hk' : k<s.data.toList.length:=by rw[Array.length_toList];exact hk
 apply ByteArray.ext;apply Array.ext';rw[ByteArray.data_append,Array.toList_append];have e1:∀ n,(s.extract 0 n).data.toList=s.data.toList.take n:=λn=>by
  rcases s with ⟨⟨l⟩⟩;simp
 have e3:(b6 [bt s (k:Nat)]).data.toList=[s.data.toList[k]]:=by
  unfold b6 bt;rw[Int.toNat_natCast,<- Array.getElem?_toList,List.getElem?_eq_getElem hk'];simp
 rw[e1,e1,e3,List.take_succ_eq_append_getElem hk']
theorem ng{s:ByteArray}:s.extract 0 s.size=s:=by
 rcases s with ⟨⟨l⟩⟩;apply ByteArray.ext;apply Array.ext';simp[ByteArray.size]
def BD(c:Int):Option Int:=if 48<=c/\c<=57 then some (c-48) else if 97<=c/\c<=102 then some (c-87) else if 65<=c/\c<=70 then some (c-55) else none
def ki(p:ByteArray):Option Int:=
 if p.size=0 then none
 else match BD (bt p (0:Nat)) with
  |none=>none
  |some a=>if p.size=1 then some a else match BD (bt p (1:Nat)) with
   |none=>none
   |some b=>some (16*a+b)
def tX(s:ByteArray):Nat->Nat->ByteArray->Option ByteArray
 |0,_,o=>some o
 | n+1,i,o=>
  if i<s.size then
   if bt s (i:Nat)=92/\i+1<s.size then
    if bt s ((i+1:Nat):Int)=110 then tX s n (i+2) (o++b6 [10])
    else if bt s ((i+1:Nat):Int)=114 then tX s n (i+2) (o++b6 [13])
    else if bt s ((i+1:Nat):Int)=116 then tX s n (i+2) (o++b6 [9])
    else if bt s ((i+1:Nat):Int)=120 then match ki (s.extract (i+2) (min (i+4) s.size)) with
     |some v=>tX s n (i+4) (o++b6 [v])
     |none=>none
    else tX s n (i+2) (o++b6 [bt s ((i+1:Nat):Int)])
   else tX s n (i+1) (o++b6 [bt s (i:Nat)])
  else some o
def Wz(q:ByteArray):Bool:=(decide (2<=q.size)&&decide (bt q 0=34))&&decide (bt q ((q.size:Int)-1)=34)
def pO(q:ByteArray):ByteArray:=q.extract 1 (q.size-1)
def fE(q:ByteArray):ByteArray×Bool:=
 if Wz q=true then match tX (pO q) (pO q).size 0 ⟨#[]⟩ with
  |none=>(⟨#[]⟩,false)
  |some o=>(o,decide (cE o=q))
 else (⟨#[]⟩,false)
theorem DY(c:Int)(h0:0<=c)(h1:c<256):∀ x∈cF c,0<=x/\x<256:=by
 have hh:∀ b:Fin 16,0<=bt ot ((b.val:Nat):Int)/\bt ot ((b.val:Nat):Int)<256:=by decide +kernel
 have h2:∀ d:Int,0<=d->d<16->0<=bt ot d/\bt ot d<256:=λd a b=>by
  obtain⟨m,rfl⟩:=Int.eq_ofNat_of_zero_le a;exact hh ⟨m,oM⟩
 have h3:=h2 (c / 16) oM oM;have h4:=h2 (c % 16) oM oM;unfold cF;intro x hx
 repeat' split at hx
 all_goals simp only[List.mem_cons,List.not_mem_nil,or_false]at hx
 all_goals omega
theorem kD(y:ByteArray)(k:Nat):(bB y (k+1)).size=(bB y k).size+(cF (bt y (k:Nat))).length:=by
 show (bB y k++b6 (cF (bt y k))).size=_;rw[ByteArray.size_append,b8]
theorem kZ(y:ByteArray):∀ k,1<=(bB y k).size
 |0=>Nat.le_refl _
 |k+1=>by rw[kD];have:=kZ y k;omega
theorem jk(y:ByteArray){k:Nat}:∀ m,(bB y k).size<=(bB y (k+m)).size
 |0=>Nat.le_refl _
 |m+1=>by
  have:=jk y (k:=k) m;rw[show k+(m+1)=k+m+1 by omega,kD];omega
theorem xE(y:ByteArray){k i:Nat}(hi:i<(bB y k).size):∀ m,bt (bB y (k+m)) (i:Nat)=bt (bB y k) (i:Nat)
 |0=>rfl
 |m+1=>by
  have h:=jk y (k:=k) m;show bt (bB y (k+m)++b6 (cF (bt y (k+m:Nat)))) (i:Nat)=_;rw[eR,if_pos oM];exact xE y hi m
theorem xu(y:ByteArray):(cE y).size=(bB y y.size).size+1:=by
 unfold cE;rw[ByteArray.size_append,b8];rfl
theorem abx(y:ByteArray){k j:Nat}(hk:k<y.size)(hj:j<(cF (bt y (k:Nat))).length):bt (cE y) (((bB y k).size+j:Nat):Int)=(cF (bt y (k:Nat)))[j]:=by
 obtain⟨c0,c1⟩:=pQ y k;have hl:=kD y k;have hm:=jk y (k:=k+1) (y.size-(k+1));have hp:=xE y (k:=k+1) (i:=(bB y k).size+j) oM (y.size-(k+1));rw[show k+1+(y.size-(k+1))=y.size by omega]at hm hp;unfold cE;rw[eR,if_pos oM,hp];show bt (bB y k++b6 (cF (bt y k))) (((bB y k).size+j:Nat):Int)=_
 rw[eR,if_neg oM,show (bB y k).size+j-(bB y k).size=j by omega];exact JI (DY _ c0 c1) hj
theorem OF(y:ByteArray){k j:Nat}(hk:k<y.size)(hj:j<(cF (bt y (k:Nat))).length):bt (pO (cE y)) (((bB y k).size-1+j:Nat):Int)=(cF (bt y (k:Nat)))[j]:=by
 have hl:=kD y k;have hm:=jk y (k:=k+1) (y.size-(k+1));rw[show k+1+(y.size-(k+1))=y.size by omega]at hm;have h1:=kZ y k;have he:=xu y;unfold pO;rw[AQ _ _ _ _ oM oM,show 1+((bB y k).size-1+j)=(bB y k).size+j by omega];exact abx y hk hj
theorem JC(y:ByteArray):(pO (cE y)).size=(bB y y.size).size-1:=by
 have he:=xu y;have h1:=kZ y y.size;unfold pO;rw[eH _ _ _ oM];omega
theorem IZ(y:ByteArray):Wz (cE y)=true:=by
 have he:=xu y;have h1:=kZ y y.size;have hp:=xE y (k:=0) (i:=0) (by show 0<(b6 [34]).size;decide) y.size;rw[Nat.zero_add]at hp;have h0:bt (cE y) ((0:Nat):Int)=34:=by
  unfold cE;rw[eR,if_pos oM,hp];rfl
 have hz:bt (cE y) (((bB y y.size).size:Nat):Int)=34:=by
  unfold cE;rw[eR,if_neg oM,Nat.sub_self];rfl
 unfold Wz;simp only[Bool.and_eq_true,decide_eq_true_eq];refine⟨⟨oM,h0⟩,?_⟩;rw[he,show (((bB y y.size).size+1:Nat):Int)-1=(((bB y y.size).size:Nat):Int) by omega];exact hz
theorem uG:∀ b:Fin 256,(cF ((b.val:Nat):Int)=[((b.val:Nat):Int)]/\((b.val:Nat):Int)≠92) \/
  (∃ d:Fin 256,cF ((b.val:Nat):Int)=[92,((d.val:Nat):Int)]/\((d.val=110/\b.val=10)\/(d.val=114/\b.val=13)\/(d.val=116/\b.val=9)\/(d.val=b.val/\d.val≠110/\d.val≠114/\d.val≠116/\d.val≠120))) \/
  (∃ d e:Fin 256,cF ((b.val:Nat):Int)=[92,120,((d.val:Nat):Int),((e.val:Nat):Int)]/\∃ x y:Fin 16,BD ((d.val:Nat):Int)=some ((x.val:Nat):Int)/\BD ((e.val:Nat):Int)=some ((y.val:Nat):Int)/\16*x.val+y.val=b.val):=by
 have hx:∀ x:Fin 16,BD (bt ot ((x.val:Nat):Int))=some ((x.val:Nat):Int):=by decide +kernel
 have hb:∀ x:Fin 16,0<=bt ot ((x.val:Nat):Int)/\bt ot ((x.val:Nat):Int)<256:=by decide +kernel
 intro b;obtain⟨b,hlt⟩:=b;simp only;unfold cF;split
 ·rename_i h;right;left;exact⟨⟨b,hlt⟩,rfl,.inr (.inr (.inr ⟨rfl,by dsimp only;omega,by dsimp only;omega,by dsimp only;omega,by dsimp only;omega⟩))⟩
 ·rename_i h;split
  ·left;exact⟨rfl,λe=>h (.inr e)⟩
  ·split
   ·rename_i g;right;left;exact⟨⟨110,oM⟩,rfl,.inl ⟨rfl,oM⟩⟩
   ·split
    ·rename_i g;right;left;exact⟨⟨114,oM⟩,rfl,.inr (.inl ⟨rfl,oM⟩)⟩
    ·split
     ·rename_i g;right;left;exact⟨⟨116,oM⟩,rfl,.inr (.inr (.inl ⟨rfl,oM⟩))⟩
     ·right;right;have e1:((b:Nat):Int) / 16=((b / 16:Nat):Int):=oM;have e2:((b:Nat):Int) % 16=((b % 16:Nat):Int):=oM;obtain⟨p0,p1⟩:=hb ⟨b / 16,oM⟩;obtain⟨q0,q1⟩:=hb ⟨b % 16,oM⟩;have r1:=hx ⟨b / 16,oM⟩;have r2:=hx ⟨b % 16,oM⟩;simp only at p0 p1 q0 q1 r1 r2;rw[e1,e2]
      obtain⟨d,hd⟩:=Int.eq_ofNat_of_zero_le p0;obtain⟨e,he⟩:=Int.eq_ofNat_of_zero_le q0;rw[hd]at p1 r1 ⊢;rw[he]at q1 r2 ⊢;exact⟨⟨d,oM⟩,⟨e,oM⟩,rfl,⟨b / 16,oM⟩,⟨b % 16,oM⟩,r1,r2,by dsimp only;omega⟩
theorem aah(y:ByteArray):∀ (m k n:Nat),k+m=y.size->(pO (cE y)).size<=(bB y k).size-1+n->tX (pO (cE y)) n ((bB y k).size-1) (y.extract 0 k)=some y:=by
 have hin:=JC y;intro m
 induction m with
 |zero=>
  intro k n hk hn;have hk' : k=y.size:=oM;subst hk';rw[ng];cases n with
  |zero=>rfl
  |succ n=>rw[tX,if_neg oM]
 | succ m ih=>
  intro k n hk hn;have hlt:k<y.size:=oM;obtain⟨c0,c1⟩:=pQ y k;obtain⟨b,hb⟩:=Int.eq_ofNat_of_zero_le c0;have hl:=kD y k;have h1:=kZ y k;have hm:=jk y (k:=k+1) (y.size-(k+1));rw[show k+1+(y.size-(k+1))=y.size by omega]at hm;have hat:=λj (hj:j<(cF (bt y (k:Nat))).length)=>OF y hlt hj
  have ho:=tW y k hlt;have ih:=λn h=>ih (k+1) n oM h
  rw[hl]at hm ih;rw[<- ho]at ih;generalize hP:(bB y k).size-1=P at *;rw[show (bB y k).size=P+1 by omega]at hm ih;have hk4:=uG ⟨b,oM⟩;simp only at hk4;rw[<- hb]at hk4;generalize bt y (k:Nat)=c at *;generalize y.extract 0 k=o at *;generalize hI:pO (cE y)=s at *
  rcases hk4 with ⟨e,hne⟩|⟨⟨d,hd⟩,e,hcs⟩|⟨⟨d,hd⟩,⟨f,hf⟩,e,⟨x,hx⟩,⟨z,hz⟩,g1,g2,g3⟩
  ·rw[e]at hat hm ih;have a0:=hat 0 sI;simp only[List.getElem_cons_zero,Nat.add_zero,List.length_cons,List.length_nil]at a0 hm ih;obtain⟨n,rfl⟩:∃ n',n=n' + 1:=⟨n-1,oM⟩;rw[tX,if_pos oM,if_neg (by rw[a0];exact λh=>hne h.1),a0];exact ih n oM
  ·simp only at e hcs;rw[e]at hat hm ih;have a0:=hat 0 sI;have a1:=hat 1 sI;simp only[List.getElem_cons_zero,List.getElem_cons_succ,Nat.add_zero,List.length_cons,List.length_nil]at a0 a1 hm ih;obtain⟨n,rfl⟩:∃ n',n=n' + 1:=⟨n-1,oM⟩;rw[tX,if_pos oM,if_pos ⟨a0,oM⟩,a1];have ih' := ih n oM
   rw[show P+1+(0+1+1)-1=P+2 by omega]at ih';rcases hcs with ⟨rfl,hh⟩|⟨rfl,hh⟩|⟨rfl,hh⟩|⟨hh,n1,n2,n3,n4⟩
   ·rw[if_pos oM];rw[hb,hh]at ih';exact ih'
   ·rw[if_neg oM,if_pos oM];rw[hb,hh]at ih';exact ih'
   ·rw[if_neg oM,if_neg oM,if_pos oM];rw[hb,hh]at ih';exact ih'
   ·rw[if_neg oM,if_neg oM,if_neg oM,if_neg oM];rw[hb,<- hh]at ih';exact ih'
  ·simp only at e g1 g2 g3;rw[e]at hat hm ih;have a0:=hat 0 sI;have a1:=hat 1 sI;have a2:=hat 2 sI;have a3:=hat 3 sI;simp only[List.getElem_cons_zero,List.getElem_cons_succ,Nat.add_zero,List.length_cons,List.length_nil]at a0 a1 a2 a3 hm ih;obtain⟨n,rfl⟩:∃ n',n=n' + 1:=⟨n-1,oM⟩;have ih' := ih n oM
   rw[show P+1+(0+1+1+1+1)-1=P+4 by omega]at ih';have hmin:min (P+4) s.size=P+4:=oM;have hs:(s.extract (P+2) (P+4)).size=2:=by rw[eH _ _ _ oM];omega
   have b0:=AQ s (P+2) (P+4) 0 oM oM;have b1:=AQ s (P+2) (P+4) 1 oM oM;rw[show P+2+0=P+2 by omega,a2]at b0;rw[show P+2+1=P+3 by omega,a3]at b1;have hN:ki (s.extract (P+2) (P+4))=some c:=by
    unfold ki;rw[hs,if_neg oM,b0,g1];simp only;rw[if_neg oM,b1,g2];simp only[Option.some.injEq];omega
   rw[tX,if_pos oM,if_pos ⟨a0,oM⟩,a1,if_neg oM,if_neg oM,if_neg oM,if_pos rfl,hmin,hN];exact ih'
theorem Xo(y:ByteArray):fE (cE y)=(y,true):=by
 have h:=aah y y.size 0 (pO (cE y)).size oM oM;have e:(bB y 0).size-1=0:=rfl;have e0:y.extract 0 0=⟨#[]⟩:=by apply ByteArray.ext;apply Array.ext';simp
 rw[e,e0]at h;unfold fE;rw[if_pos (IZ y),h];simp
theorem SE{q:ByteArray}(h:(fE q).2=true):q=cE (fE q).1:=by
 unfold fE at h ⊢;split at h
 ·rename_i hq;rw[if_pos hq];cases ho:tX (pO q) (pO q).size 0 ⟨#[]⟩ with
  |none=>rw[ho]at h;simp at h
  |some o=>
   rw[ho]at h;simp only[decide_eq_true_eq]at h ⊢;exact h.symm
 ·simp at h
def dP:ByteArray:=⟨#[]⟩
abbrev Tk:=Int×Nat×ByteArray
abbrev Pc:=ByteArray×Nat×Int×Nat
def qtN(s:ByteArray)(i:Nat):Nat->Nat->ByteArray->Pc
 |0,_,_=>(dP,0,51,i)
 | n+1,k,o=>
  if k<s.size then
   if bt s (k:Nat)=34 then (o,k+1,0,0)
   else if aaw (bt s (k:Nat))=false then (dP,0,50,k)
   else if ¬ bt s (k:Nat)=92 then qtN s i n (k+1) (o++b6 [bt s (k:Nat)])
   else if ¬ k+1<s.size then (dP,0,51,i)
   else if bt s ((k+1:Nat):Int)=110 then qtN s i n (k+2) (o++b6 [10])
   else if bt s ((k+1:Nat):Int)=114 then qtN s i n (k+2) (o++b6 [13])
   else if bt s ((k+1:Nat):Int)=116 then qtN s i n (k+2) (o++b6 [9])
   else if bt s ((k+1:Nat):Int)=34\/bt s ((k+1:Nat):Int)=92 then qtN s i n (k+2) (o++b6 [bt s ((k+1:Nat):Int)])
   else if bt s ((k+1:Nat):Int)=120 then
    if ¬ k+2<s.size then (dP,0,51,i)
    else if XP (bt s ((k+2:Nat):Int))<0 then (dP,0,50,k+2)
    else if ¬ k+3<s.size then (dP,0,51,i)
    else if XP (bt s ((k+3:Nat):Int))<0 then (dP,0,50,k+3)
    else qtN s i n (k+4) (o++b6 [16*XP (bt s ((k+2:Nat):Int))+XP (bt s ((k+3:Nat):Int))])
   else (dP,0,50,k+1)
  else (dP,0,51,i)
def qtE(s:ByteArray)(i:Nat):Pc:=qtN s i (s.size-(i+1)) (i+1) dP
def rxN(s:ByteArray)(i:Nat):Nat->Nat->Pc
 |0,_=>(dP,0,52,i)
 | n+1,k=>
  if k<s.size then
   if aaw (bt s (k:Nat))=false then (dP,0,50,k)
   else if bt s (k:Nat)=47 then (s.extract (i+1) k,k+1,0,0)
   else if bt s (k:Nat)=92 then
    if k+1<s.size/\aaw (bt s ((k+1:Nat):Int))=false then (dP,0,50,k+1)
    else rxN s i n (k+2)
   else rxN s i n (k+1)
  else (dP,0,52,i)
def rxE(s:ByteArray)(i:Nat):Pc:=rxN s i (s.size-(i+1)) (i+1)
def nmB(c:Int):Bool:=acZ c||adA c
def nmN(s:ByteArray):Nat->Nat->Nat
 |0,k=>k
 |n+1,k=>if k<s.size then if nmB (bt s (k:Nat))=true then nmN s n (k+1) else k else k
def nmE(s:ByteArray)(i:Nat):Nat:=nmN s (s.size-(i+1)) (i+1)
def SY(s:ByteArray)(i:Nat):Tk×Nat×Int×Nat:=
 if acZ (bt s (i:Nat))=true then
  if 32<nmE s i-i then ((0,0,dP),0,1,i) else ((1,i,s.extract i (nmE s i)),nmE s i,0,0)
 else if bt s (i:Nat)=34 then ((2,i,(qtE s i).1),(qtE s i).2.1,(qtE s i).2.2.1,(qtE s i).2.2.2)
 else if bt s (i:Nat)=47 then ((3,i,(rxE s i).1),(rxE s i).2.1,(rxE s i).2.2.1,(rxE s i).2.2.2)
 else if ae4 (bt s (i:Nat))=true then ((4,i,s.extract i (i+1)),i+1,0,0)
 else if bt s (i:Nat)=62/\i+1<s.size/\bt s ((i+1:Nat):Int)=62 then ((4,i,⟨#[62,62]⟩),i+2,0,0)
 else ((0,0,dP),0,50,i)
def scN(s:ByteArray):Nat->Nat->List Tk->List Tk×Int×Nat
 |0,i,l=>(l++[(0,s.size,dP)],0,0)
 | n+1,i,l=>
  if i<s.size then
   if (SY s i).2.2.1=0 then scN s n (adf s (SY s i).2.1) (l++[(SY s i).1]) else ([],(SY s i).2.2.1,(SY s i).2.2.2)
  else (l++[(0,s.size,dP)],0,0)
def Zh(s:ByteArray):List Tk×Int×Nat:=if 4096<s.size then ([],1,0) else scN s s.size (adf s 0) []
def onT(p:ByteArray):Option ByteArray:=match (Zh p).1 with
 |[t0,_]=>if (Zh p).2.1=0/\t0.1=2/\t0.2.2.size=1 then some t0.2.2 else none
 |_=>none
def pcL(s:ByteArray)(i:Nat):Nat:=if bt s (i:Nat)=92 then if i+1<s.size/\bt s ((i+1:Nat):Int)=120 then 4 else 2 else 1
def pcQ(p:ByteArray):ByteArray:=⟨#[34]⟩++p++⟨#[34]⟩
def urN(s:ByteArray):Nat->Nat->ByteArray->Option ByteArray
 |0,_,o=>some o
 | n+1,i,o=>
  if i<s.size then
   if s.size<i+pcL s i then none
   else match onT (pcQ (s.extract i (i+pcL s i))) with
    |some t=>urN s n (i+pcL s i) (o++t)
    |none=>none
  else some o
def rE(q:ByteArray):ByteArray×Bool:=
 if Wz q=true then match urN (pO q) (pO q).size 0 ⟨#[]⟩ with
  |none=>(⟨#[]⟩,false)
  |some o=>(o,decide (cE o=q))
 else (⟨#[]⟩,false)
theorem abB:∀ b:Fin 256,onT (pcQ (b6 (cF ((b.val:Nat):Int))))=some (b6 [((b.val:Nat):Int)]):=by decide +kernel
theorem aas{s t:ByteArray}(hs:s.size=t.size)(h:∀ i:Nat,i<s.size->bt s (i:Nat)=bt t (i:Nat)):s=t:=by
 apply ByteArray.ext;apply Array.ext hs;intro i h1 h2;have:=h i h1;simp only[bt,Int.toNat_natCast,Array.getElem?_eq_getElem h1,Array.getElem?_eq_getElem h2,Option.getD_some]at this;exact UInt8.toNat_inj.1 oM
theorem Z2(y:ByteArray):∀ (m k n:Nat),k+m=y.size->(pO (cE y)).size<=(bB y k).size-1+n->urN (pO (cE y)) n ((bB y k).size-1) (y.extract 0 k)=some y:=by
 have hin:=JC y;intro m
 induction m with
 |zero=>
  intro k n hk hn;have hk' : k=y.size:=oM;subst hk';rw[ng];cases n with
  |zero=>rfl
  |succ n=>rw[urN,if_neg oM]
 | succ m ih=>
  intro k n hk hn;have hlt:k<y.size:=oM;obtain⟨c0,c1⟩:=pQ y k;obtain⟨b,hb⟩:=Int.eq_ofNat_of_zero_le c0;have hl:=kD y k;have h1:=kZ y k;have hm:=jk y (k:=k+1) (y.size-(k+1));rw[show k+1+(y.size-(k+1))=y.size by omega]at hm;have hat:=λj (hj:j<(cF (bt y (k:Nat))).length)=>OF y hlt hj
  have ho:=tW y k hlt;have hlow:=DY _ c0 c1;have ih:=λn h=>ih (k+1) n oM h
  rw[hl]at hm ih;rw[<- ho]at ih;generalize hP:(bB y k).size-1=P at *;rw[show (bB y k).size=P+1 by omega]at hm ih;have hk4:=uG ⟨b,oM⟩;have hq:=abB ⟨b,oM⟩;simp only at hk4 hq;rw[<- hb]at hk4 hq;generalize bt y (k:Nat)=c at *;generalize y.extract 0 k=o at *;generalize hI:pO (cE y)=s at *
  have hlen:1<=(cF c).length/\pcL s P=(cF c).length:=by
   rcases hk4 with ⟨e,hne⟩|⟨⟨d,hd⟩,e,hcs⟩|⟨⟨d,hd⟩,⟨f,hf⟩,e,_⟩
   ·rw[e]at hat hm ⊢;have a0:=hat 0 sI;simp only[List.getElem_cons_zero,Nat.add_zero]at a0;exact⟨sI,by rw[pcL,if_neg (by rw[a0];exact hne)];rfl⟩
   ·simp only at e hcs;rw[e]at hat hm ⊢;have a0:=hat 0 sI;have a1:=hat 1 sI;simp only[List.getElem_cons_zero,List.getElem_cons_succ,Nat.add_zero]at a0 a1;refine⟨sI,?_⟩;rw[pcL,if_pos a0,if_neg (by rw[a1];omega)];rfl
   ·simp only at e;rw[e]at hat hm ⊢;have a0:=hat 0 sI;have a1:=hat 1 sI;simp only[List.getElem_cons_zero,List.getElem_cons_succ,Nat.add_zero,List.length_cons,List.length_nil]at a0 a1 hm;refine⟨sI,?_⟩;rw[pcL,if_pos a0,if_pos ⟨oM,a1⟩];rfl
  obtain⟨hl1,hl2⟩:=hlen;have hpc:s.extract P (P+(cF c).length)=b6 (cF c):=by
   have hz:(s.extract P (P+(cF c).length)).size=(cF c).length:=by rw[eH _ _ _ oM];omega
   refine aas (by rw[hz,b8]) λi hi=>?_
   rw[hz]at hi;rw[AQ _ _ _ _ oM oM,hat i hi,JI hlow hi]
  obtain⟨n,rfl⟩:∃ n',n=n' + 1:=⟨n-1,oM⟩;rw[urN,if_pos oM,hl2,if_neg oM,hpc,hq];have ih' := ih n oM;rw[show P+1+(cF c).length-1=P+(cF c).length by omega]at ih';exact ih'
theorem Ap(y:ByteArray):rE (cE y)=(y,true):=by
 have h:=Z2 y y.size 0 (pO (cE y)).size oM oM;have e:(bB y 0).size-1=0:=rfl;have e0:y.extract 0 0=⟨#[]⟩:=by apply ByteArray.ext;apply Array.ext';simp
 rw[e,e0]at h;unfold rE;rw[if_pos (IZ y),h];simp
theorem DG{q:ByteArray}(h:(rE q).2=true):q=cE (rE q).1:=by
 unfold rE at h ⊢;split at h
 ·rename_i hq;rw[if_pos hq];cases ho:urN (pO q) (pO q).size 0 ⟨#[]⟩ with
  |none=>rw[ho]at h;simp at h
  |some o=>
   rw[ho]at h;simp only[decide_eq_true_eq]at h ⊢;exact h.symm
 ·simp at h
theorem Ru(q:ByteArray):(rE q).2=(fE q).2/\((fE q).2=true->(rE q).1=(fE q).1):=by
 cases h:(fE q).2 with
 |true=>
  have e:=SE h;have h2:=Ap (fE q).1;rw[<- e]at h2;exact⟨by rw[h2],λ_=>by rw[h2]⟩
 | false=>
  refine⟨?_,λh=>by cases h⟩;cases h' : (rE q).2 with
  |false=>rfl
  |true=>
   have e:=DG h';have h2:=Xo (rE q).1;rw[<- e]at h2;rw[h2]at h;cases h
structure Rd where
 ty:List ByteArray
 tx:List ByteArray
 co:List (Int×Int×Int×Int)
 src:Int
 vw:Int
 pl:Nat
def Rd.pg(r:Rd):Pg:=⟨r.ty,r.tx,r.co,r.src,r.vw⟩
def oe(s:ByteArray):Nat->Nat->Nat
 |0,i=>i
 |n+1,i=>if bt s (i:Nat)=10 then i else oe s n (i+1)
def bh(s:ByteArray)(i:Nat):Nat:=oe s (s.size-i) i
theorem uw(s:ByteArray):∀ n i,i<=oe s n i/\oe s n i<=i+n
 |0,i=>⟨Nat.le_refl _,Nat.le_refl _⟩
 |n+1,i=>by
  unfold oe;split
  ·omega
  ·have:=uw s n (i+1);omega
theorem im{s:ByteArray}{i:Nat}(h:i<=s.size):i<=bh s i/\bh s i<=s.size:=by
 have:=uw s (s.size-i) i;unfold bh;omega
def cv(s:ByteArray)(i:Nat):ByteArray:=s.extract i (bh s i)
def bC:ByteArray:=⟨#[116,121,112,101,32,47]⟩
def df:ByteArray:=⟨#[116,101,120,116,32]⟩
def ur:ByteArray:=⟨#[47]⟩
abbrev G9:=Rd->ByteArray->Bool×Rd
def xV(l:ByteArray):Bool:=(l7 l bC&&wL (cY l bC) ur)&&sq (nA (cY l bC) ur)
def dH:G9:=λr l=>if xV l=true then (true,{ r with ty:=r.ty++[nA (cY l bC) ur] }) else (false,r)
def yp(l:ByteArray):Bool:=l7 l df&&(fE (cY l df)).2
def cX:G9:=λr l=>if yp l=true then (true,{ r with tx:=r.tx++[(fE (cY l df)).1] }) else (false,r)
def ew:G9:=λr l=>match fU l with
 |[a,b,c]=>if a=kY then (fY b&&fY c,{ r with src:=o4 b,vw:=o4 c }) else (false,r)
 |_=>(false,r)
def sB:ByteArray:=⟨#[115]⟩
def vB:ByteArray:=⟨#[118]⟩
def T7(st:Bool)(f:List ByteArray):Option (Int×List ByteArray):=
 if st=true then match f with
  |[]=>none
  |t::r=>if t=sB then some (0,r) else if t=vB then some (1,r) else none
 else some (0,f)
def Nv(u:Int)(f:List ByteArray):Option (Int×List ByteArray):=
 if u=0 then some (0,f) else match f with
  |[]=>none
  |t::r=>if fY t=true then some (o4 t,r) else none
def Y0(m:Nat)(f:List ByteArray):Option ((Int×Int×Int×Int)×List ByteArray):=
 match T7 (dn m).2.1 f with
 |none=>none
 | some (k,f1)=>match Nv (dn m).2.2.1 f1 with
  |none=>none
  |some (x,f2)=>match Nv (dn m).2.2.2 f2 with
   |none=>none
   |some (y,f3)=>some (((m:Nat),k,x,y),f3)
def RN(t:ByteArray):Option Nat:=ct (λm=>decide ((dn m).1=t)) 21 0
def yi(n:Nat)(l:ByteArray):Bool×List (Int×Int×Int×Int):=
 match fU l with
 | a::b::f=>if a=cx (n:Nat) then match RN b with
   |none=>(false,[])
   |some m=>match Y0 m f with
    |none=>(false,[])
    |some (x,f')=>(f'.isEmpty,[x])
  else (false,[])
 |_=>(false,[])
def fC:G9:=λr l=>((yi r.co.length l).1,{ r with co:=r.co++(yi r.co.length l).2 })
def iI(tk:G9)(s:ByteArray):Nat->Rd->Rd
 |0,r=>r
 |n+1,r=>if bh s r.pl<s.size then if (tk r (cv s r.pl)).1=true then iI tk s n { (tk r (cv s r.pl)).2 with pl:=bh s r.pl+1 } else (tk r (cv s r.pl)).2 else r
def lR(tk:G9)(s:ByteArray)(r:Rd):Rd:=iI tk s (s.size-r.pl) r
def pE(s:ByteArray)(r:Rd):Bool×Rd:=
 if bh s r.pl<s.size then if (ew r (cv s r.pl)).1=true then (true,{ (ew r (cv s r.pl)).2 with pl:=bh s r.pl+1 }) else (false,(ew r (cv s r.pl)).2) else (false,r)
def mu:Rd:=⟨[],[],[],0,0,0⟩
def H4(s:ByteArray):Bool×Rd:=pE s (lR cX s (lR dH s mu))
def j4(s:ByteArray):Rd:=if (H4 s).1=true then lR fC s (H4 s).2 else (H4 s).2
def eu:Pg:=⟨[],[],[],0,0⟩
def A6(s:ByteArray):Pg×Int×Int×ByteArray:=
 if 8388608<s.size then (eu,1,0,dP)
 else if (H4 s).1=false\/(j4 s).pl<s.size then (eu,110,(j4 s).pl,dP)
 else if (131072<(j4 s).ty.length\/131072<(j4 s).tx.length)\/131072<(j4 s).co.length then (eu,24,0,dP)
 else if fw (j4 s).pg=(0,0,dP) then ((j4 s).pg,0,0,dP) else (eu,fw (j4 s).pg)
def lJ(l:ByteArray):Bool:=((gh l bC&&decide (6<l.size))&&decide (bt l ((l.size:Int)-1)=47))&&sq (l.extract 6 (l.size-1))
def oO(l:ByteArray):Bool:=gh l df&&(rE (yu l)).2
def riN(u:ByteArray)(f:List ByteArray):Nat->Nat->Bool->Int×Int×Int->Option (Int×Int×Int)
 |0,_,_,x=>some x
 | n+1,i,fst,x=>
  if i<u.size then
   if bt u (i:Nat)=107 then
    if f.getD i dP=sB then riN u f n (i+1) fst x
    else if f.getD i dP=vB then riN u f n (i+1) fst (1,x.2)
    else none
   else if b9 (f.getD i dP)=true then
    riN u f n (i+1) false (if fst=true then (x.1,km (f.getD i dP),x.2.2) else (x.1,x.2.1,km (f.getD i dP)))
   else none
  else some x
def vh(t:ByteArray):Option Nat:=ct (λm=>decide ((dR (m:Nat)).1=t)) 21 0
def QJ(n:Nat)(l:ByteArray):Option (Int×Int×Int×Int):=
 match gY l with
 | a::b::f=>if a=cx (n:Nat) then match vh b with
   |none=>none
   | some m=>if f.length=(dR (m:Nat)).2.size then match riN (dR (m:Nat)).2 f (dR (m:Nat)).2.size 0 true (0,0,0) with
     |none=>none
     |some x=>some ((m:Nat),x)
    else none
  else none
 |_=>none
def pw(l:ByteArray):Option (ByteArray×ByteArray):=match gY l with
 |[a,b,c]=>if a=kY then some (b,c) else none
 |_=>none
def qM(g:Nat)(r:Rd)(l:ByteArray):Option (Nat×Rd):=
 if (decide (g=0)&&lJ l)=true then some (0,{ r with ty:=r.ty++[l.extract 6 (l.size-1)] })
 else if (decide (g<=1)&&oO l)=true then some (1,{ r with tx:=r.tx++[(rE (yu l)).1] })
 else if (decide (g<=1)&&(pw l).isSome)=true then match pw l with
  |none=>none
  |some (b,c)=>if (b9 b&&b9 c)=true then some (2,{ r with src:=km b,vw:=km c }) else none
 else if g=2 then match QJ r.co.length l with
  |none=>none
  |some x=>some (2,{ r with co:=r.co++[x] })
 else none
def Aq(s:ByteArray):Nat->Nat->Rd->Except Nat (Nat×Rd)
 |0,g,r=>.ok (g,r)
 | n+1,g,r=>
  if r.pl<s.size then
   match qM g r (cv s r.pl) with
   |none=>.error r.pl
   |some (g',r')=>if bh s r.pl<s.size then Aq s n g' { r' with pl:=bh s r.pl+1 } else .error r.pl
  else .ok (g,r)
def Cq(s:ByteArray):Pg×Int×Int×ByteArray:=
 if 8388608<s.size then (eu,1,0,dP)
 else match Aq s s.size 0 mu with
  |.error i=>(eu,110,i,dP)
  |.ok (g,r)=>if g<2 then (eu,110,s.size,dP)
   else if (fJ r.pg).1=0 then (r.pg,0,0,dP) else (eu,fJ r.pg)
theorem nT(s p:ByteArray):l7 s p=gh s p:=by
 rw[Bool.eq_iff_iff];unfold l7 Lib.hasPrefix gh;rw[List.isPrefixOf_iff_prefix,List.prefix_iff_eq_take];simp only[Bool.and_eq_true,decide_eq_true_eq];have e:(s.extract 0 p.size).data.toList=s.data.toList.take p.data.toList.length:=by
  rw[bE,List.drop_zero,Nat.sub_zero,Lib.size_eq p]
 constructor
 ·intro h;refine⟨?_,ee (by rw[e];exact h.symm)⟩;have:=congrArg List.length h;rw[List.length_take]at this;rw[Lib.size_eq s,Lib.size_eq p];omega
 ·rintro⟨h1,h2⟩;rw[<- e,h2]
theorem sb{s p:ByteArray}(h:l7 s p=true):(cY s p).data.toList=s.data.toList.drop p.data.toList.length:=by
 unfold cY Lib.trimPrefix;rw[if_pos (show Lib.hasPrefix s.data.toList p.data.toList=true from h)]
theorem MW(t:ByteArray):wL t ur=true ↔ 0<t.size/\bt t ((t.size:Int)-1)=47:=by
 unfold wL Lib.hasSuffix;rw[List.isSuffixOf_iff_suffix,List.suffix_iff_eq_drop];have hl:ur.data.toList=[47]:=rfl;rw[hl,Lib.size_eq t];have hz:([47]:List UInt8).length=1:=rfl;rw[hz];constructor
 ·intro h;have hp:0<t.data.toList.length:=by
   have:=congrArg List.length h;rw[List.length_drop]at this;simp only[List.length_cons,List.length_nil]at this;omega
  refine⟨hp,?_⟩;rw[List.drop_eq_getElem_cons oM]at h;simp only[List.cons.injEq]at h;have hb:=de t (k:=t.data.toList.length-1) oM;rw[show ((t.data.toList.length:Nat):Int)-1=((t.data.toList.length-1:Nat):Int) by omega,hb,<- h.1];rfl
 ·rintro⟨hp,hb⟩;rw[show ((t.data.toList.length:Nat):Int)-1=((t.data.toList.length-1:Nat):Int) by omega,de t oM]at hb;rw[List.drop_eq_getElem_cons oM,show t.data.toList.length-1+1=t.data.toList.length by omega,List.drop_length]
  congr 1
  apply UInt8.toNat_inj.1;have:(47:UInt8).toNat=47:=rfl;omega
theorem WT(l:ByteArray):xV l=lJ l/\(xV l=true->nA (cY l bC) ur=l.extract 6 (l.size-1)):=by
 have hl:bC.data.toList.length=6:=rfl;have body:l7 l bC=true->wL (cY l bC) ur=true->nA (cY l bC) ur=l.extract 6 (l.size-1):=λh1 h2=>by
  apply ee;unfold nA Lib.trimSuffix;rw[if_pos (show Lib.hasSuffix (cY l bC).data.toList ur.data.toList=true from h2),bE];show (cY l bC).data.toList.take ((cY l bC).data.toList.length-1)=_;rw[sb h1,hl,List.length_drop,Lib.size_eq l]
  congr 1
 have key:(l7 l bC&&wL (cY l bC) ur)=((gh l bC&&decide (6<l.size))&&decide (bt l ((l.size:Int)-1)=47)):=by
  rw[nT];cases h1:gh l bC with
  |false=>rfl
  | true=>
   have h1' : l7 l bC=true:=by rw[nT];exact h1
   rw[Bool.true_and,Bool.true_and,Bool.eq_iff_iff,MW];simp only[Bool.and_eq_true,decide_eq_true_eq];have hc:=sb h1';have hcl:(cY l bC).size=l.size-6:=by rw[Lib.size_eq,hc,hl,List.length_drop,<- Lib.size_eq l]
   rw[hcl];constructor
   ·rintro⟨g1,g2⟩;refine⟨oM,?_⟩;rw[show ((l.size-6:Nat):Int)-1=((l.size-7:Nat):Int) by omega,de _ (by rw[hc,hl,List.length_drop,<- Lib.size_eq l];omega)]at g2;rw[show (l.size:Int)-1=((l.size-1:Nat):Int) by omega,de l (by rw[<- Lib.size_eq l];omega)];simp only[hc,hl,List.getElem_drop]at g2;rw[<- g2]
    congr 3
    omega
   ·rintro⟨g1,g2⟩;refine⟨oM,?_⟩;rw[show ((l.size-6:Nat):Int)-1=((l.size-7:Nat):Int) by omega,de _ (by rw[hc,hl,List.length_drop,<- Lib.size_eq l];omega)];rw[show (l.size:Int)-1=((l.size-1:Nat):Int) by omega,de l (by rw[<- Lib.size_eq l];omega)]at g2;simp only[hc,hl,List.getElem_drop];rw[<- g2]
    congr 3
    omega
 constructor
 ·unfold xV lJ;rw[<- key];cases h1:l7 l bC with
  |false=>simp only[Bool.false_and]
  |true=>
   cases h2:wL (cY l bC) ur with
   |false=>simp only[Bool.and_false,Bool.false_and]
   |true=>rw[body h1 h2]
 ·intro h;unfold xV at h;simp only[Bool.and_eq_true]at h;exact body h.1.1 h.1.2
theorem JW(l:ByteArray):yp l=oO l/\(yp l=true->(fE (cY l df)).1=(rE (yu l)).1):=by
 have hl:df.data.toList.length=5:=rfl;have haft:l7 l df=true->cY l df=yu l:=λh=>by
  have h5:5<=l.size:=by
   rw[nT]at h;unfold gh at h;simp only[Bool.and_eq_true,decide_eq_true_eq]at h;exact h.1
  apply ee;rw[sb h,hl,yu,if_neg oM,bE,List.take_of_length_le];rw[List.length_drop,<- Lib.size_eq l];omega
 unfold yp oO;rw[<- nT];cases h:l7 l df with
 |false=>exact⟨rfl,λh=>by cases h⟩
 |true=>
  rw[haft h,Bool.true_and,Bool.true_and];obtain⟨h1,h2⟩:=Ru (yu l);exact⟨h1.symm,λh=>(h2 h).symm⟩
theorem Cj(r:Rd)(l:ByteArray):(ew r l).2.ty=r.ty/\(ew r l).2.tx=r.tx/\(ew r l).2.co=r.co/\(ew r l).2.pl=r.pl/\match pw l with
  |none=>(ew r l).1=false
  |some (b,c)=>(ew r l).1=(b9 b&&b9 c)/\((b9 b&&b9 c)=true->(ew r l).2={ r with src:=km b,vw:=km c }):=by
 unfold ew pw;rw[wF];rcases gY l with _|⟨a,_|⟨b,_|⟨c,_|⟨d,f⟩⟩⟩⟩
 ·exact⟨rfl,rfl,rfl,rfl,rfl⟩
 ·exact⟨rfl,rfl,rfl,rfl,rfl⟩
 ·exact⟨rfl,rfl,rfl,rfl,rfl⟩
 ·by_cases h:a=kY
  ·simp only[if_pos h];obtain⟨e1,e2⟩:=nG b;obtain⟨e3,e4⟩:=nG c;rw[e1,e3];refine⟨trivial,trivial,trivial,trivial,by first|trivial|rfl,λhb=>?_⟩;rw[Bool.and_eq_true]at hb;rw[e2 hb.1,e4 hb.2]
  ·simp only[if_neg h];exact⟨trivial,trivial,trivial,trivial,by first|trivial|rfl⟩
 ·exact⟨rfl,rfl,rfl,rfl,rfl⟩
def l9:List Bool->List ByteArray->Bool->Int×Int×Int->Option (Int×Int×Int)
 |[],[],_,x=>some x
 |true::ks,t::f,fst,x=>if t=sB then l9 ks f fst x else if t=vB then l9 ks f fst (1,x.2) else none
 |false::ks,t::f,fst,x=>if b9 t=true then l9 ks f false (if fst=true then (x.1,km t,x.2.2) else (x.1,x.2.1,km t)) else none
 |_,_,_,_=>none
def N2(u:ByteArray):List Bool:=u.data.toList.map λc=>decide (c.toNat=107)
def FN(x:ByteArray×Bool×Int×Int):List Bool:=(if x.2.1=true then [true] else [])++((if x.2.2.1=0 then [] else [false])++(if x.2.2.2=0 then [] else [false]))
theorem nQ(m:Nat)(hm:m<21):N2 (dR (m:Nat)).2=FN (dn m)/\((dn m).2.2.2≠0->(dn m).2.2.1≠0)/\(dR (m:Nat)).1=(dn m).1:=by
 have h:∀ b:Fin 21,N2 (dR ((b.val:Nat):Int)).2=FN (dn b.val)/\((dn b.val).2.2.2≠0->(dn b.val).2.2.1≠0)/\(dR ((b.val:Nat):Int)).1=(dn b.val).1:=by decide +kernel
 exact h ⟨m,hm⟩
theorem zR(u:ByteArray)(f:List ByteArray)(hf:f.length=u.data.toList.length):∀ (n i:Nat) (fst:Bool) (x:Int×Int×Int),i+n=u.data.toList.length->riN u f n i fst x=l9 ((N2 u).drop i) (f.drop i) fst x
 |0,i,fst,x,h=>by
  have h1:(N2 u).drop i=[]:=List.drop_eq_nil_of_le (by simp only[N2,List.length_map];omega);have h2:f.drop i=[]:=List.drop_eq_nil_of_le oM;rw[h1,h2];rfl
 |n+1,i,fst,x,h=>by
  have hlt:i<u.data.toList.length:=oM;have hk:i<(N2 u).length:=by simp only[N2,List.length_map];omega
  have hfl:i<f.length:=oM;have hsz:i<u.size:=by rw[Lib.size_eq];omega
  have hg:f.getD i dP=f[i]:=by rw[List.getD_eq_getElem?_getD,List.getElem?_eq_getElem hfl];rfl
  have hkd:(N2 u)[i]=decide (u.data.toList[i].toNat=107):=by simp[N2]
  have hb:=de u hlt;rw[riN,if_pos hsz,List.drop_eq_getElem_cons hk,List.drop_eq_getElem_cons hfl,hg,hkd];by_cases h107:u.data.toList[i].toNat=107
  ·rw[if_pos oM,decide_eq_true h107,l9,zR u f hf n (i+1) _ _ oM,zR u f hf n (i+1) _ _ oM]
  ·rw[if_neg oM,decide_eq_false h107,l9,zR u f hf n (i+1) _ _ oM]
theorem I4(u:Int)(t:ByteArray)(r:List ByteArray)(hu:¬ u=0):Nv u (t::r)=if b9 t=true then some (km t,r) else none:=by
 obtain⟨e1,e2⟩:=nG t;unfold Nv;rw[if_neg hu];simp only;rw[e1];by_cases h:b9 t=true
 ·rw[if_pos h,if_pos h,e2 h]
 ·rw[if_neg h,if_neg h]
theorem Cv(f:List ByteArray):Nv 0 f=some (0,f):=by unfold Nv;rw[if_pos rfl]
theorem uh(u:Int)(hu:¬ u=0):Nv u []=none:=by unfold Nv;rw[if_neg hu]
def AX{α:Type}:Option (α×List ByteArray)->Option α
 |some (x,f)=>if f.isEmpty=true then some x else none
 |none=>none
def tI(a b:Int)(f:List ByteArray):Option ((Int×Int)×List ByteArray):=match Nv a f with
 |none=>none
 |some (x,f2)=>match Nv b f2 with
  |none=>none
  |some (y,f3)=>some ((x,y),f3)
theorem vz(a b:Int)(hab:b≠0->a≠0)(k:Int)(f:List ByteArray):(AX (tI a b f)).map (λp=>(k,p.1,p.2))=l9 ((if a=0 then [] else [false])++(if b=0 then [] else [false])) f true (k,0,0):=by
 by_cases ha:a=0
 ·have hb:b=0:=Decidable.byContradiction λh=>hab h ha
  subst ha;subst hb;rw[if_pos rfl,tI,Cv];simp only[Cv];cases f with
  |nil=>rfl
  |cons t r=>rfl
 ·rw [if_neg ha,tI];cases f with
  |nil=>rw[uh a ha];rfl
  | cons t r=>
   rw[I4 a t r ha,List.singleton_append,l9];by_cases ht:b9 t=true
   ·rw[if_pos ht,if_pos ht];simp only;by_cases hb:b=0
    ·subst hb;rw[Cv,if_pos rfl];simp only[if_true];cases r with
     |nil=>rfl
     |cons t2 r2=>rfl
    ·rw[if_neg hb];simp only[if_true];cases r with
     |nil=>rw[uh b hb];rfl
     | cons t2 r2=>
      rw[I4 b t2 r2 hb,l9];by_cases ht2:b9 t2=true
      ·rw[if_pos ht2,if_pos ht2];cases r2 with
       |nil=>rfl
       |cons t3 r3=>rfl
      ·rw[if_neg ht2,if_neg ht2];rfl
   ·rw[if_neg ht,if_neg ht];rfl
theorem Q1(m:Nat)(f:List ByteArray):Y0 m f=match T7 (dn m).2.1 f with
  |none=>none
  |some (k,f1)=>match tI (dn m).2.2.1 (dn m).2.2.2 f1 with
   |none=>none
   |some (p,f3)=>some (((m:Nat),k,p.1,p.2),f3):=by
 unfold Y0 tI;cases T7 (dn m).2.1 f with
 |none=>rfl
 | some q=>
  obtain⟨k,f1⟩:=q;simp only;cases Nv (dn m).2.2.1 f1 with
  |none=>rfl
  |some q=>
   obtain⟨x,f2⟩:=q;simp only;cases Nv (dn m).2.2.2 f2 with
   |none=>rfl
   |some q=>rfl
theorem AS(m:Nat)(k:Int)(o:Option ((Int×Int)×List ByteArray)):AX (match o with
   |none=>none
   |some (p,f3)=>some ((((m:Nat):Int),k,p.1,p.2),f3))=((AX o).map (λp=>(k,p.1,p.2))).map λx=>(((m:Nat):Int),x):=by
 cases o with
 |none=>rfl
 |some q=>
  obtain⟨p,f3⟩:=q;simp only[AX];split<;>rfl
theorem UW(m:Nat)(hm:m<21)(f:List ByteArray):AX (Y0 m f)=(l9 (FN (dn m)) f true (0,0,0)).map λx=>(((m:Nat):Int),x):=by
 obtain⟨_,hab,_⟩:=nQ m hm;rw[Q1];generalize dn m=sp at *;obtain⟨w,st,a,b⟩:=sp;simp only[FN]at hab ⊢;cases st with
 |false=>
  unfold T7;rw[if_neg sI,if_neg sI,List.nil_append,<- vz a b hab 0 f];exact AS m 0 _
 | true=>
  unfold T7;rw[if_pos rfl,if_pos rfl];cases f with
  |nil=>rfl
  | cons t r=>
   rw[List.singleton_append,l9];simp only;by_cases h1:t=sB
   ·rw[if_pos h1,if_pos h1,<- vz a b hab 0 r];exact AS m 0 _
   ·rw[if_neg h1,if_neg h1];by_cases h2:t=vB
    ·rw[if_pos h2,if_pos h2,<- vz a b hab 1 r];exact AS m 1 _
    ·rw[if_neg h2,if_neg h2];rfl
theorem tZ:∀ (ks:List Bool) (f:List ByteArray) (fst:Bool) (x:Int×Int×Int),f.length≠ks.length->l9 ks f fst x=none
 |[],[],_,_,h=>absurd rfl h
 |[],t::f,_,_,_=>rfl
 |true::ks,[],_,_,_=>rfl
 |false::ks,[],_,_,_=>rfl
 |true::ks,t::f,fst,x,h=>by
  have h' : f.length≠ks.length:=λe=>h (by simp[e])
  rw[l9,tZ ks f _ _ h',tZ ks f _ _ h'];split
  ·rfl
  ·split<;>rfl
 |false::ks,t::f,fst,x,h=>by
  have h' : f.length≠ks.length:=λe=>h (by simp[e])
  rw[l9,tZ ks f _ _ h'];split<;>rfl
theorem Wm(t:ByteArray):RN t=vh t:=by
 unfold RN vh;have:∀ n j,j+n<=21->ct (λm=>decide ((dn m).1=t)) n j=ct (λm=>decide ((dR (m:Nat)).1=t)) n j:=by
  intro n
  induction n with
  |zero=>intro j _;rfl
  |succ n ih=>
   intro j hj;unfold ct;rw[(nQ j oM).2.2,ih (j+1) oM]
 exact this 21 0 oM
theorem rM{P:Nat->Bool}:∀ {n j m:Nat},ct P n j=some m->m<j+n/\P m=true
 |0,j,m,h=>by cases h
 | n+1,j,m,h=>by
  unfold ct at h;cases hp:P j with
  |true=>
   rw[hp]at h;cases h;exact⟨oM,hp⟩
  |false=>
   rw[hp]at h;obtain⟨h1,h2⟩:=rM h;exact⟨oM,h2⟩
theorem X6(n:Nat)(l:ByteArray):match QJ n l with
  |some x=>yi n l=(true,[x])
  |none=>(yi n l).1=false:=by
 unfold QJ yi;rw[wF];rcases gY l with _|⟨a,_|⟨b,f⟩⟩
 ·rfl
 ·rfl
 ·simp only;by_cases ha:a=cx (n:Nat)
  ·rw [if_pos ha,if_pos ha,Wm];cases hop:vh b with
   |none=>rfl
   | some m=>
    have hm:m<21:=by
     have:=(rM hop).1;omega
    simp only;have hx:=UW m hm f;obtain⟨hk,_,_⟩:=nQ m hm;have hkl:(FN (dn m)).length=(dR (m:Nat)).2.size:=by rw[<- hk,N2,List.length_map,<- Lib.size_eq]
    by_cases hlen:f.length=(dR (m:Nat)).2.size
    ·rw[if_pos hlen,zR _ f (by rw[hlen,Lib.size_eq]) _ 0 _ _ (by rw[Lib.size_eq];omega),List.drop_zero,List.drop_zero,hk];cases hr:l9 (FN (dn m)) f true (0,0,0) with
     | none=>
      rw[hr]at hx;cases hc:Y0 m f with
      |none=>rfl
      |some q=>
       obtain⟨x,f'⟩:=q;rw[hc]at hx;simp only[AX,Option.map_none]at hx;simp only;cases f' with
       |nil=>simp at hx
       |cons _ _=>rfl
     | some y=>
      rw[hr]at hx;cases hc:Y0 m f with
      |none=>rw[hc]at hx;simp[AX]at hx
      | some q=>
       obtain⟨x,f'⟩:=q;rw[hc]at hx;simp only[AX,Option.map_some]at hx;cases f' with
       |nil=>
        simp only[List.isEmpty_nil,if_true,Option.some.injEq]at hx;subst hx;rfl
       |cons _ _=>simp at hx
    ·rw[if_neg hlen];have hr:=tZ (FN (dn m)) f true (0,0,0) (by rw[hkl];exact hlen);rw[hr]at hx;cases hc:Y0 m f with
     |none=>rfl
     |some q=>
      obtain⟨x,f'⟩:=q;rw[hc]at hx;simp only[AX,Option.map_none]at hx;simp only;cases f' with
      |nil=>simp at hx
      |cons _ _=>rfl
  ·rw[if_neg ha,if_neg ha]
theorem js{s:ByteArray}{i:Nat}(h:s.size<=i):bh s i=i:=by
 unfold bh;rw[show s.size-i=0 by omega];rfl
theorem ry(s:ByteArray)(i:Nat):i<=bh s i:=(uw s (s.size-i) i).1
theorem y5(tk:G9)(s:ByteArray):∀ (n m:Nat) (r:Rd),s.size<=r.pl+n->s.size<=r.pl+m->iI tk s n r=iI tk s m r
 |0,0,r,_,_=>rfl
 |0,m+1,r,h,_=>by
  rw[iI,iI,if_neg (by rw[js oM];omega)]
 |n+1,0,r,_,h=>by
  rw[iI,iI,if_neg (by rw[js oM];omega)]
 |n+1,m+1,r,h1,h2=>by
  have hg:=ry s r.pl;rw[iI,iI,y5 tk s n m _ (by dsimp only;omega) (by dsimp only;omega)]
theorem cS(tk:G9)(s:ByteArray)(r:Rd):lR tk s r=if bh s r.pl<s.size then if (tk r (cv s r.pl)).1=true then lR tk s { (tk r (cv s r.pl)).2 with pl:=bh s r.pl+1 } else (tk r (cv s r.pl)).2 else r:=by
 have hg:=ry s r.pl;by_cases h:r.pl<s.size
 ·obtain⟨k,hk⟩:∃ k,s.size-r.pl=k+1:=⟨s.size-r.pl-1,oM⟩;unfold lR;rw[hk,iI];rw[y5 tk s k (s.size-(bh s r.pl+1)) _ (by dsimp only;omega) (by dsimp only;omega)]
 ·have hk:s.size-r.pl=0:=oM;unfold lR;rw[hk,iI,if_neg oM]
theorem Ck(P:Rd->Prop){tk:G9}(h1:∀ r l q,P r->P { (tk r l).2 with pl:=q })(h2:∀ r l,P r->P (tk r l).2)(s:ByteArray)(r:Rd)(h:P r):P (lR tk s r):=by
 have key:∀ n r,P r->P (iI tk s n r):=by
  intro n
  induction n with
  |zero=>intro r h;exact h
  | succ n ih=>
   intro r h;rw[iI];split
   ·split
    ·exact ih _ (h1 _ _ _ h)
    ·exact h2 _ _ h
   ·exact h
 exact key _ r h
def yC(s:ByteArray)(r:Rd):Pg×Int×Int×ByteArray:=
 if r.pl<s.size then (eu,110,r.pl,dP) else if (fJ r.pg).1=0 then (r.pg,0,0,dP) else (eu,fJ r.pg)
def rO(s:ByteArray)(r:Rd):Pg×Int×Int×ByteArray:=
 if (pE s r).1=true then yC s (lR fC s (pE s r).2) else (eu,110,(pE s r).2.pl,dP)
def SC(s:ByteArray):Except Nat (Nat×Rd)->Pg×Int×Int×ByteArray
 |.error i=>(eu,110,i,dP)
 |.ok (g,r)=>if g<2 then (eu,110,s.size,dP) else if (fJ r.pg).1=0 then (r.pg,0,0,dP) else (eu,fJ r.pg)
theorem JG(r:Rd)(l:ByteArray):qM 2 r l=match QJ r.co.length l with
  |none=>none
  |some x=>some (2,{ r with co:=r.co++[x] }):=by
 unfold qM;rw[if_neg sI,if_neg sI,if_neg sI,if_pos rfl]
 all_goals cases QJ r.co.length l<;>rfl
theorem TK(s:ByteArray):∀ (n:Nat) (r:Rd),s.size<=r.pl+n->SC s (Aq s n 2 r)=yC s (lR fC s r)
 |0,r,h=>by
  rw[cS,if_neg (by rw[js oM];omega)];unfold yC;rw[if_neg oM];rfl
 | n+1,r,h=>by
  have hg:=ry s r.pl;rw[Aq,cS];by_cases hp:r.pl<s.size
  ·rw[if_pos hp,JG];have hc:=X6 r.co.length (cv s r.pl);cases hr:QJ r.co.length (cv s r.pl) with
   | none=>
    rw[hr]at hc;simp only at hc ⊢;have e:yC s (if bh s r.pl<s.size then if (fC r (cv s r.pl)).1=true then lR fC s { (fC r (cv s r.pl)).2 with pl:=bh s r.pl+1 } else (fC r (cv s r.pl)).2 else r)=(eu,110,(r.pl:Int),dP):=by
     have h1:(fC r (cv s r.pl)).1=false:=hc;rw[h1];split
     ·rw[if_neg sI];unfold yC;rw[if_pos (show (fC r (cv s r.pl)).2.pl<s.size from hp)];rfl
     ·unfold yC;rw[if_pos hp]
    rw[e];rfl
   | some x=>
    rw[hr]at hc;simp only at hc ⊢;have h1:(fC r (cv s r.pl))=(true,{ r with co:=r.co++[x] }):=by unfold fC;rw[hc]
    rw[h1];by_cases he:bh s r.pl<s.size
    ·rw[if_pos he,if_pos he,if_pos rfl];exact TK s n _ (by dsimp only;omega)
    ·rw[if_neg he,if_neg he];unfold yC;rw[if_pos hp];rfl
  ·rw[if_neg hp,if_neg oM];unfold yC;rw[if_neg hp];rfl
def goR(s:ByteArray)(n:Nat)(r:Rd):Option (Nat×Rd)->Except Nat (Nat×Rd)
 |none=>.error r.pl
 |some (g',r')=>if bh s r.pl<s.size then Aq s n g' { r' with pl:=bh s r.pl+1 } else .error r.pl
theorem R6(s:ByteArray)(n g:Nat)(r:Rd):Aq s (n+1) g r=if r.pl<s.size then goR s n r (qM g r (cv s r.pl)) else .ok (g,r):=by
 rw[Aq];split
 ·cases qM g r (cv s r.pl) with
  |none=>rfl
  |some q=>rfl
 ·rfl
theorem Ae(s:ByteArray)(n:Nat)(r:Rd)(hp:r.pl<s.size)(h:s.size<=r.pl+(n+1))(x:Option (Nat×Rd))
  (hx:x=if (pw (cv s r.pl)).isSome=true then match pw (cv s r.pl) with
   |none=>none
   |some (b,c)=>if (b9 b&&b9 c)=true then some (2,{ r with src:=km b,vw:=km c }) else none
   else none) :
  SC s (goR s n r x)=rO s r:=by
 have hg:=ry s r.pl;obtain⟨m1,m2,m3,m4,m5⟩:=Cj r (cv s r.pl);have bad:(ew r (cv s r.pl)).1=false->rO s r=(eu,110,(r.pl:Int),dP):=λhb=>by
  have e:(pE s r).1=false/\(pE s r).2.pl=r.pl:=by
   unfold pE;rw[hb];split
   ·rw[if_neg sI];exact⟨rfl,m4⟩
   ·exact⟨rfl,rfl⟩
  unfold rO;rw[if_neg (by rw[e.1];simp),e.2]
 subst hx;cases hr:pw (cv s r.pl) with
 |none=>
  rw[hr]at m5;simp only[Option.isSome_none,Bool.false_eq_true,if_false];rw[bad m5];rfl
 | some q=>
  obtain⟨b,c⟩:=q;rw[hr]at m5;simp only[Option.isSome_some,if_true]at m5 ⊢;obtain⟨m5,m6⟩:=m5;by_cases hbc:(b9 b&&b9 c)=true
  ·rw[if_pos hbc];rw[hbc]at m5;simp only[goR];have m6:=m6 hbc;by_cases he:bh s r.pl<s.size
   ·rw[if_pos he,TK s n _ (by dsimp only;omega)];unfold rO pE;rw[if_pos he,if_pos m5,if_pos rfl,m6]
   ·rw[if_neg he];unfold rO pE;rw[if_neg he,if_neg sI];rfl
  ·rw[if_neg hbc];have:(ew r (cv s r.pl)).1=false:=by rw[m5];simpa using hbc
   rw[bad this];rfl
theorem qH{s:ByteArray}{r:Rd}(h:r.pl=s.size):rO s r=(eu,110,(s.size:Int),dP):=by
 have he:¬ bh s r.pl<s.size:=by rw[js oM];omega
 unfold rO pE;rw[if_neg he,if_neg sI];simp only[h]
theorem Pb(s:ByteArray):∀ (n:Nat) (r:Rd),r.pl<=s.size->s.size<=r.pl+n->SC s (Aq s n 1 r)=rO s (lR cX s r)
 |0,r,h0,h=>by
  rw[cS,if_neg (by rw[js oM];omega),qH oM];rfl
 | n+1,r,h0,h=>by
  have hg:=ry s r.pl;rw[R6,cS];by_cases hp:r.pl<s.size
  ·have hle:=im h0;rw[if_pos hp];obtain⟨t1,t2⟩:=JW (cv s r.pl);by_cases hx:yp (cv s r.pl)=true
   ·have e1:qM 1 r (cv s r.pl)=some (1,{ r with tx:=r.tx++[(fE (cY (cv s r.pl) df)).1] }):=by
     unfold qM;rw[if_neg sI,if_pos (by rw[<- t1,hx];rfl),t2 hx]
    have e2:cX r (cv s r.pl)=(true,{ r with tx:=r.tx++[(fE (cY (cv s r.pl) df)).1] }):=by unfold cX;rw[if_pos hx]
    rw[e1,e2];simp only[goR];by_cases he:bh s r.pl<s.size
    ·rw[if_pos he,if_pos he,if_pos trivial];exact Pb s n _ (by dsimp only;omega) (by dsimp only;omega)
    ·rw[if_neg he,if_neg he];unfold rO pE;rw[if_neg he,if_neg sI];rfl
   ·have e2:cX r (cv s r.pl)=(false,r):=by unfold cX;rw[if_neg hx]
    have e3:(if bh s r.pl<s.size then if (cX r (cv s r.pl)).1=true then lR cX s { (cX r (cv s r.pl)).2 with pl:=bh s r.pl+1 } else (cX r (cv s r.pl)).2 else r)=r:=by
     rw[e2];split
     ·rw[if_neg sI]
     ·rfl
    rw[e3];refine Ae s n r hp h _ ?_;unfold qM;rw[if_neg sI,if_neg (by rw[<- t1];simpa using hx)];cases hr:pw (cv s r.pl) with
    |none=>simp
    |some q=>
     obtain⟨b,c⟩:=q;simp
  ·rw[if_neg hp,if_neg oM,qH oM];rfl
theorem PH(s:ByteArray):∀ (n:Nat) (r:Rd),r.pl<=s.size->s.size<=r.pl+n->SC s (Aq s n 0 r)=rO s (lR cX s (lR dH s r))
 |0,r,h0,h=>by
  rw[cS dH,if_neg (by rw[js oM];omega),cS,if_neg (by rw[js oM];omega),qH oM];rfl
 | n+1,r,h0,h=>by
  have hg:=ry s r.pl;rw[R6,cS dH];by_cases hp:r.pl<s.size
  ·have hle:=im h0;rw[if_pos hp];obtain⟨y1,y2⟩:=WT (cv s r.pl);obtain⟨t1,t2⟩:=JW (cv s r.pl);by_cases hy:xV (cv s r.pl)=true
   ·have e1:qM 0 r (cv s r.pl)=some (0,{ r with ty:=r.ty++[nA (cY (cv s r.pl) bC) ur] }):=by
     unfold qM;rw[if_pos (by rw[<- y1,hy];rfl),y2 hy]
    have e2:dH r (cv s r.pl)=(true,{ r with ty:=r.ty++[nA (cY (cv s r.pl) bC) ur] }):=by unfold dH;rw[if_pos hy]
    rw[e1,e2];simp only[goR];by_cases he:bh s r.pl<s.size
    ·rw[if_pos he,if_pos he,if_pos trivial];exact PH s n _ (by dsimp only;omega) (by dsimp only;omega)
    ·rw[if_neg he,if_neg he,cS,if_neg he];unfold rO pE;rw[if_neg he,if_neg sI];rfl
   ·have e2:dH r (cv s r.pl)=(false,r):=by unfold dH;rw[if_neg hy]
    have e3:(if bh s r.pl<s.size then if (dH r (cv s r.pl)).1=true then lR dH s { (dH r (cv s r.pl)).2 with pl:=bh s r.pl+1 } else (dH r (cv s r.pl)).2 else r)=r:=by
     rw[e2];split
     ·rw[if_neg sI]
     ·rfl
    rw[e3];by_cases hx:yp (cv s r.pl)=true
    ·have e1:qM 0 r (cv s r.pl)=some (1,{ r with tx:=r.tx++[(fE (cY (cv s r.pl) df)).1] }):=by
      unfold qM;rw[if_neg (by rw[<- y1];simpa using hy),if_pos (by rw[<- t1,hx];rfl),t2 hx]
     have e2:cX r (cv s r.pl)=(true,{ r with tx:=r.tx++[(fE (cY (cv s r.pl) df)).1] }):=by unfold cX;rw[if_pos hx]
     rw[e1,cS,e2];simp only[goR];by_cases he:bh s r.pl<s.size
     ·rw[if_pos he,if_pos he,if_pos trivial];exact Pb s n _ (by dsimp only;omega) (by dsimp only;omega)
     ·rw[if_neg he,if_neg he];unfold rO pE;rw[if_neg he,if_neg sI];rfl
    ·have e2:cX r (cv s r.pl)=(false,r):=by unfold cX;rw[if_neg hx]
     have e3:lR cX s r=r:=by
      rw[cS,e2];split
      ·rw[if_neg sI]
      ·rfl
     rw[e3];refine Ae s n r hp h _ ?_;unfold qM;rw[if_neg (by rw[<- y1];simpa using hy),if_neg (by rw[<- t1];simpa using hx)];cases hr:pw (cv s r.pl) with
     |none=>simp
     |some q=>
      obtain⟨b,c⟩:=q;simp
  ·rw[if_neg hp,if_neg oM,cS,if_neg oM,qH oM];rfl
def iP(r:Rd):Prop:=∀ t∈r.ty,sq t=true
theorem Oc(s:ByteArray)(r:Rd)(h:iP r):iP (lR dH s r):=by
 have key:∀ r l,iP r->∀ t∈(dH r l).2.ty,sq t=true:=λr l h t ht=>by
  unfold dH at ht;split at ht
  ·rename_i hy;rcases List.mem_append.1 ht with ht|ht
   ·exact h t ht
   ·rw[List.mem_singleton.1 ht];unfold xV at hy;rw[Bool.and_eq_true]at hy;exact hy.2
  ·exact h t ht
 exact Ck iP (λr l q h=>key r l h) key s r h
theorem TQ(s:ByteArray)(r:Rd)(h:iP r):iP (lR cX s r):=by
 have key:∀ r l,iP r->∀ t∈(cX r l).2.ty,sq t=true:=λr l h t ht=>by
  unfold cX at ht;split at ht<;>exact h t ht
 exact Ck iP (λr l q h=>key r l h) key s r h
theorem Qz(s:ByteArray)(r:Rd)(h:iP r):iP (lR fC s r):=Ck iP (λr l q h=>h) (λr l h=>h) s r h
theorem QL(s:ByteArray)(r:Rd)(h:iP r):iP (pE s r).2:=by
 have key:∀ l,(ew r l).2.ty=r.ty:=λl=>(Cj r l).1
 unfold pE;split
 ·split
  ·intro t ht;exact h t (by rw[<- key (cv s r.pl)];exact ht)
  ·intro t ht;exact h t (by rw[<- key (cv s r.pl)];exact ht)
 ·exact h
theorem rY{P:Nat->Bool}:∀ {n j:Nat},(∀ i,j<=i->i<j+n->P i=false)->ct P n j=none
 |0,j,_=>rfl
 |n+1,j,h=>by
  unfold ct;rw[h j oM oM,cond_false];exact rY λi h1 h2=>h i oM oM
theorem Qr{r:Rd}(h:iP r):fJ r.pg=if (131072<r.ty.length\/131072<r.tx.length)\/131072<r.co.length then (24,0,dP) else fw r.pg:=by
 have hb:ct (uJ r.pg) r.pg.ty.length 0=none:=rY λi _ hi=>by
  have hi' : i<r.ty.length:=by have:r.pg.ty=r.ty:=rfl;rw[this]at hi;omega
  unfold uJ;rw[List.getD_eq_getElem?_getD,show r.pg.ty=r.ty from rfl,List.getElem?_eq_getElem hi',Option.getD_some,h _ (List.getElem_mem hi')];rfl
 unfold fJ;rw[hb];rfl
theorem rF(p:Pg):(fw p).1=0 ↔ fw p=(0,0,dP):=by
 constructor
 ·unfold fw;split
  ·intro h;cases h
  ·split
   ·intro h;cases h
   ·intro _;rfl
 ·intro h;rw[h]
theorem VT(s:ByteArray):Cq s=if 8388608<s.size then (eu,1,0,dP) else SC s (Aq s s.size 0 mu):=by
 unfold Cq;split
 ·rfl
 ·cases Aq s s.size 0 mu with
  |error i=>rfl
  |ok q=>rfl
theorem xI(s:ByteArray):A6 s=Cq s:=by
 rw[VT];unfold A6;by_cases h8:8388608<s.size
 ·rw[if_pos h8,if_pos h8]
 ·rw[if_neg h8,if_neg h8];have h0:=PH s s.size mu (Nat.zero_le _) (by show s.size<=0+s.size;omega);have ha:iP (j4 s):=by
   have h1:iP (H4 s).2:=QL s _ (TQ s _ (Oc s _ (λt ht=>by cases ht)));unfold j4;split
   ·exact Qz s _ h1
   ·exact h1
  have hc:=Qr ha;rw[h0];unfold rO;show _=if (H4 s).1=true then yC s (lR fC s (H4 s).2) else (eu,110,((H4 s).2.pl:Int),dP);by_cases hm:(H4 s).1=true
  ·have hz:j4 s=lR fC s (H4 s).2:=by unfold j4;rw[if_pos hm]
   rw[if_pos hm,<- hz];unfold yC;by_cases hp:(j4 s).pl<s.size
   ·rw[if_pos (.inr hp),if_pos hp]
   ·rw[if_neg (by rintro (g|g);rw[g]at hm;cases hm;exact hp g),if_neg hp,hc];by_cases h24:(131072<(j4 s).ty.length\/131072<(j4 s).tx.length)\/131072<(j4 s).co.length
    ·rw[if_pos h24,if_pos h24,if_neg sI]
    ·rw[if_neg h24,if_neg h24];by_cases hr:fw (j4 s).pg=(0,0,dP)
     ·rw[if_pos hr,if_pos ((rF _).2 hr)]
     ·rw[if_neg hr,if_neg λg=>hr ((rF _).1 g)]
  ·have hz:j4 s=(H4 s).2:=by unfold j4;rw[if_neg hm]
   rw[if_neg hm,hz,if_pos (.inl (by simpa using hm))]
def ox:List (List UInt8)->List UInt8
 |[]=>[]
 |[a]=>a
 |a::b::r=>a++32::ox (b::r)
theorem S7(p:List UInt8):∀ X:List (List UInt8),X≠[]->ox (rm p X)=p++ox X
 |[],h=>absurd rfl h
 |[a],_=>rfl
 |a::b::r,_=>by simp[rm,ox]
theorem Cy:∀ l:List UInt8,ox (iG l)=l
 |[]=>rfl
 | c::r=>by
  have ih:=Cy r;unfold iG;split
  ·rename_i h;have hc:c=32:=UInt8.toNat_inj.1 h;cases hs:iG r with
   |nil=>exact absurd hs (uf r)
   |cons a t=>
    rw[hs]at ih;show []++32::ox (a::t)=c::r;rw[ih,hc];rfl
  ·rw[S7 _ _ (uf r),ih];rfl
def ZH:ByteArray:=⟨#[32]⟩
def tF:List ByteArray->ByteArray
 |[]=>dP
 |[a]=>a
 |a::b::r=>a++(ZH++tF (b::r))
theorem q7:∀ l:List ByteArray,(tF l).data.toList=ox (l.map λb=>b.data.toList)
 |[]=>rfl
 |[a]=>rfl
 |a::b::r=>by
  have ih:=q7 (b::r);simp only[List.map_cons]at ih ⊢;show (a++(ZH++tF (b::r))).data.toList=a.data.toList++32::ox (b.data.toList::List.map (λb=>b.data.toList) r);rw[ByteArray.data_append,Array.toList_append,ByteArray.data_append,Array.toList_append,ih];rfl
theorem y8(s:ByteArray):tF (gY s)=s:=ee (by rw[q7,sd,Cy])
theorem OV(n:Nat):Lib.itoa (n:Int)=Lib.decDigits n:=by
 unfold Lib.itoa;rw[if_neg oM];simp
theorem qb{t:ByteArray}(h:b9 t=true):cx (km t)=t:=by
 obtain⟨h1,h2,h3,h4⟩:=(mC t).1 h;have hl:t.data.toList.length=(t.data.toList.length-1)+1:=by
  have:=List.length_pos_iff.2 h1;omega
 have hd:=II (t.data.toList.length-1) t.data.toList hl h4 h3;rw[Bd h];apply ee;show Lib.itoa ((pr 0 t.data.toList:Nat):Int)=t.data.toList;rw[OV,hd]
theorem Pk{b:ByteArray}{m:Nat}(h:vh b=some m):m<21/\(dR (m:Nat)).1=b:=by
 have:=rM h;simp only[decide_eq_true_eq]at this;exact⟨oM,this.2⟩
def kW(st:Bool)(ua ub:Int)(x:Int×Int×Int):List ByteArray:=(if st=true then [Co x.1] else [])++((if ua=0 then [] else [cx x.2.1])++(if ub=0 then [] else [cx x.2.2]))
theorem PE(w:ByteArray)(st:Bool)(ua ub:Int)(hab:ub≠0->ua≠0)(f:List ByteArray)(x:Int×Int×Int)(h:l9 (FN (w,st,ua,ub)) f true (0,0,0)=some x) :
  f=kW st ua ub x/\(x.1=0\/(st=true/\x.1=1))/\(ua=0->x.2.1=0)/\(ub=0->x.2.2=0):=by
 have hab2:∀ (f:List ByteArray) (k:Int) (x:Int×Int×Int),l9 ((if ua=0 then [] else [false])++(if ub=0 then [] else [false])) f true (k,0,0)=some x ->
   f=((if ua=0 then [] else [cx x.2.1])++(if ub=0 then [] else [cx x.2.2]))/\x.1=k/\(ua=0->x.2.1=0)/\(ub=0->x.2.2=0):=by
  intro f k x h;by_cases ha:ua=0
  ·have hb:ub=0:=by
    by_cases hb:ub=0
    ·exact hb
    ·exact absurd ha (hab hb)
   simp only[ha,hb,if_true,List.append_nil]at h ⊢;cases f with
   |nil=>simp only[l9,Option.some.injEq]at h;subst h;exact⟨rfl,rfl,λ_=>rfl,λ_=>rfl⟩
   |cons t f=>simp[l9]at h
  ·by_cases hb:ub=0
   ·simp only[ha,hb,if_true,if_false,List.append_nil]at h ⊢
    match f,h with
    |[],h=>simp[l9]at h
    | [t],h=>
     simp only[l9]at h;split at h
     ·rename_i ho;simp only[Option.some.injEq]at h;subst h;exact⟨by simp[qb ho],rfl,λh=>h.elim,λ_=>rfl⟩
     ·cases h
    |t::u::f,h=>
     simp only[l9]at h;split at h<;>cases h
   ·simp only[ha,hb,if_false,List.cons_append,List.nil_append]at h ⊢
    match f,h with
    |[],h=>simp[l9]at h
    |[t],h=>
     simp only[l9]at h;split at h<;>cases h
    | [t,u],h=>
     simp only[l9]at h;split at h
     ·rename_i ho;split at h
      ·rename_i ho2;simp only[Option.some.injEq]at h;subst h;exact⟨by simp[qb ho,qb ho2],rfl,λh=>h.elim,λh=>h.elim⟩
      ·cases h
     ·cases h
    |t::u::v::f,h=>
     simp only[l9]at h;split at h
     ·split at h<;>cases h
     ·cases h
 cases st with
 |false=>
  simp only[FN,kW,Bool.false_eq_true,if_false,List.nil_append]at h ⊢;obtain⟨h1,h2,h3,h4⟩:=hab2 f 0 x h;exact⟨h1,.inl h2,h3,h4⟩
 | true=>
  simp only[FN,kW,if_true,List.cons_append,List.nil_append]at h ⊢;cases f with
  |nil=>simp[l9]at h
  | cons t f=>
   simp only[l9]at h;split at h
   ·rename_i ht;obtain⟨h1,h2,h3,h4⟩:=hab2 f 0 x h;exact⟨by rw[h1,ht];simp[Co,h2,sB],.inl h2,h3,h4⟩
   ·split at h
    ·rename_i ht;obtain⟨h1,h2,h3,h4⟩:=hab2 f 1 x h;exact⟨by rw[h1,ht];simp[Co,h2,vB],.inr ⟨trivial,h2⟩,h3,h4⟩
    ·cases h
theorem Mk{n:Nat}{l:ByteArray}{x:Int×Int×Int×Int}(h:QJ n l=some x):l=gK n x.1 x.2.1 x.2.2.1 x.2.2.2:=by
 have hc:=y8 l;unfold QJ at h;rcases hp:gY l with _|⟨a,_|⟨b,f⟩⟩
 ·rw[hp]at h;cases h
 ·rw[hp]at h;cases h
 rw[hp]at h hc;simp only at h;split at h
 ·rename_i ha;cases hr:vh b with
  |none=>rw[hr]at h;cases h
  | some m=>
   rw[hr]at h;simp only at h;obtain⟨hm,hw⟩:=Pk hr;obtain⟨k1,k2,k3⟩:=nQ m hm;split at h
   ·rename_i hf;have hfl:f.length=(dR (m:Nat)).2.data.toList.length:=by rw[hf,Lib.size_eq]
    rw[zR _ f hfl _ 0 true (0,0,0) (by rw[Lib.size_eq];omega),List.drop_zero,List.drop_zero,k1]at h;rw[hw]at k3;generalize hsp:dn m=sp at *;obtain⟨wd,st,ua,ub⟩:=sp;cases hy:l9 (FN (wd,st,ua,ub)) f true (0,0,0) with
    |none=>rw[hy]at h;cases h
    |some y=>
     rw[hy]at h;simp only[Option.some.injEq]at h;subst h;obtain⟨h1,_,_,_⟩:=PE wd st ua ub k2 f y hy;rw[<- hc,ha,k3,h1];unfold gK;simp only[Int.toNat_natCast,hsp];unfold kW y9 IJ DT;cases st<;>by_cases e1:ua=0<;>by_cases e2:ub=0<;>simp[e1,e2,tF,ZH,ByteArray.append_assoc]
   ·cases h
 ·cases h
theorem U7{l:ByteArray}(h:lJ l=true):s7 (l.extract 6 (l.size-1))=l:=by
 unfold lJ gh at h;simp only[Bool.and_eq_true,decide_eq_true_eq]at h;obtain⟨⟨⟨⟨h1,h2⟩,h3⟩,h4⟩,_⟩:=h;have e6:bC.size=6:=rfl;rw[e6]at h1 h2;have h5:=tW l (l.size-1) oM;have hc:((l.size-1:Nat):Int)=(l.size:Int)-1:=oM;rw[hc,h4,show l.size-1+1=l.size by omega,ng]at h5;unfold s7
 have e7:(⟨#[116,121,112,101,32,47]⟩:ByteArray)=l.extract 0 6:=h2.symm;have e8:l.extract 0 6++l.extract 6 (l.size-1)=l.extract 0 (l.size-1):=by
  apply ee;rw[ByteArray.data_append,Array.toList_append,bE,bE,bE];simp only[List.drop_zero,Nat.sub_zero];rw[<- List.take_append_drop 6 (List.take (l.size-1) l.data.toList),List.take_take,List.drop_take,Nat.min_eq_left oM]
 rw[e7,e8];exact h5
theorem WM{l:ByteArray}(h:oO l=true):ux (rE (yu l)).1=l:=by
 unfold oO gh at h;simp only[Bool.and_eq_true,decide_eq_true_eq]at h;obtain⟨⟨h1,h2⟩,h3⟩:=h;have e5:df.size=5:=rfl;rw[e5]at h1 h2;unfold ux;rw[<- DG h3];have e7:(⟨#[116,101,120,116,32]⟩:ByteArray)=l.extract 0 5:=h2.symm;rw[e7,yu,if_neg oM];apply ee;rw[ByteArray.data_append,Array.toList_append,bE,bE]
 simp only[List.drop_zero,Nat.sub_zero];rw[List.take_of_length_le (l:=List.drop 5 l.data.toList) (by rw[List.length_drop,<- Lib.size_eq];omega),List.take_append_drop]
theorem YI{l b c:ByteArray}(h:pw l=some (b,c))(h2:(b9 b&&b9 c)=true):eY (km b) (km c)=l:=by
 have hc:=y8 l;unfold pw at h;simp only[Bool.and_eq_true]at h2;split at h
 ·rename_i a b' c' hp;split at h
  ·rename_i ha;cases h;rw[hp,ha]at hc;rw[<- hc];unfold eY;have e:(⟨#[109,97,105,110,32]⟩:ByteArray)=kY++ZH:=by apply ee;rfl
   rw[qb h2.1,qb h2.2,e];simp[tF,ZH,ByteArray.append_assoc]
  ·cases h
 ·cases h
def yt(g:Nat)(r:Rd):List ByteArray:=(r.ty.map s7++r.tx.map ux)++(if g=2 then eY r.src r.vw::(List.range r.co.length).map (N3 r.pg) else [])
def stG(g:Nat)(r:Rd):Prop:=g<=2/\(g=0->r.tx=[])/\(g<=1->r.co=[])
theorem Q3{g g' : Nat}{r r' : Rd}{l:ByteArray}(hg:stG g r)(h:qM g r l=some (g',r')):stG g' r' /\ r'.pl=r.pl/\yt g' r' = yt g r++[l]:=by
 obtain⟨h2,htx,hco⟩:=hg;unfold qM at h;split at h
 ·rename_i hA;simp only[Bool.and_eq_true,decide_eq_true_eq]at hA;cases h;obtain⟨rfl,hA⟩:=hA;refine⟨⟨oM,λ_=>htx rfl,λ_=>hco oM⟩,rfl,?_⟩;unfold yt;simp only[htx rfl,List.map_append,List.map_cons,List.map_nil,List.append_nil,U7 hA];simp
 ·split at h
  ·rename_i hB;simp only[Bool.and_eq_true,decide_eq_true_eq]at hB;cases h;refine⟨⟨oM,λh=>by omega,λ_=>hco hB.1⟩,rfl,?_⟩;unfold yt;have hg2:¬ g=2:=oM;simp only[List.map_append,List.map_cons,List.map_nil,WM hB.2,hg2,if_false,List.append_nil];simp
  ·split at h
   ·rename_i hC;simp only[Bool.and_eq_true,decide_eq_true_eq]at hC;split at h
    ·cases h
    ·rename_i b c hm;split at h
     ·rename_i hok;cases h;refine⟨⟨oM,λh=>by omega,λh=>by omega⟩,rfl,?_⟩;unfold yt;have hg2:¬ g=2:=oM;simp only[hco hC.1,YI hm hok,hg2,if_false,if_true,List.length_nil,List.range_zero,List.map_nil,List.append_nil]
     ·cases h
   ·split at h
    ·rename_i hg2;subst hg2;split at h
     ·cases h
     ·rename_i x hx;cases h;refine⟨⟨oM,λh=>by omega,λh=>by omega⟩,rfl,?_⟩;have e1:∀ i,i<r.co.length->N3 (Rd.pg { r with co:=r.co++[x] }) i=N3 r.pg i:=λi hi=>by
       unfold N3 Rd.pg;simp only[List.getD_eq_getElem?_getD,List.getElem?_append_left hi]
      have e2:N3 (Rd.pg { r with co:=r.co++[x] }) r.co.length=l:=by
       unfold N3 Rd.pg;simp only[List.getD_eq_getElem?_getD,List.getElem?_append_right (Nat.le_refl _),Nat.sub_self,List.getElem?_cons_zero,Option.getD_some];exact (Mk hx).symm
      have e3:(List.range r.co.length).map (N3 (Rd.pg { r with co:=r.co++[x] }))=(List.range r.co.length).map (N3 r.pg):=List.map_congr_left λi hi=>e1 i (List.mem_range.1 hi)
      unfold yt;simp only[if_true,List.length_append,List.length_cons,List.length_nil,List.range_succ,List.map_append,List.map_cons,List.map_nil,Nat.zero_add,e2,e3];simp
    ·cases h
theorem JP(s:ByteArray):∀ n i,oe s n i<i+n->bt s (oe s n i:Nat)=10
 |0,i,h=>by unfold oe at h;omega
 | n+1,i,h=>by
  unfold oe at h ⊢;split
  ·rename_i hh;exact hh
  ·rename_i hh;rw[if_neg hh]at h;exact JP s n (i+1) oM
theorem Tb(s:ByteArray){i e:Nat}(h1:i<=e)(h2:e<s.size)(hb:bt s (e:Nat)=10):s.extract 0 (e+1)=s.extract 0 i++(s.extract i e++AI):=by
 rw[<- tW s e h2,hb,<- ByteArray.append_assoc]
 congr 1
 apply ee;rw[ByteArray.data_append,Array.toList_append,bE,bE,bE];simp only[List.drop_zero,Nat.sub_zero];rw[<- List.take_append_drop i (List.take e s.data.toList),List.take_take,List.drop_take,Nat.min_eq_left h1]
theorem yW(s:ByteArray):∀ (n g:Nat) (r:Rd) (g' : Nat) (r' : Rd),stG g r->s.size<=r.pl+n->r.pl<=s.size->s.extract 0 r.pl=gZ (yt g r)->Aq s n g r=.ok (g',r')->stG g' r' /\ s=gZ (yt g' r')
 |0,g,r,g',r',hg,hn,hp,hc,h=>by
  cases h;rw[show r.pl=s.size by omega,ng]at hc;exact⟨hg,hc⟩
 | n+1,g,r,g',r',hg,hn,hp,hc,h=>by
  rw[Aq]at h;split at h
  ·rename_i hlt;split at h
   ·cases h
   ·rename_i g1 r1 hr;split at h
    ·rename_i he;obtain⟨k1,k2,k3⟩:=Q3 hg hr;have hle:=im hp;have hb:bt s (bh s r.pl:Nat)=10:=JP s _ _ (by
      show bh s r.pl<_
      omega)
     have hg1:stG g1 { r1 with pl:=bh s r.pl+1 }:=k1;refine yW s n g1 _ g' r' hg1 (by dsimp only;omega) (by dsimp only;omega) ?_ h;show s.extract 0 (bh s r.pl+1)=gZ (yt g1 r1);rw[k3,la,<- hc,Tb s hle.1 he hb];rfl
    ·cases h
  ·cases h;rw[show r.pl=s.size by omega,ng]at hc;exact⟨hg,hc⟩
theorem S6{p:Pg}(h:(fJ p).1=0):fJ p=(0,0,dP):=by
 unfold fJ at h ⊢;split at h
 ·simp at h
 ·rename_i h1;rw[if_neg h1];split at h
  ·simp at h
  ·exact (rF p).1 h
theorem Dp{s:ByteArray}(h:(Cq s).2.1=0):fJ (Cq s).1=(0,0,dP)/\eo (Cq s).1=s:=by
 unfold Cq at h ⊢;split at h
 ·simp at h
 ·rename_i h8;rw[if_neg h8];cases hd:Aq s s.size 0 mu with
  |error i=>rw[hd]at h;simp at h
  | ok q=>
   obtain⟨g,r⟩:=q;rw[hd]at h;simp only at h ⊢;obtain⟨k1,k2⟩:=yW s s.size 0 mu g r ⟨oM,λ_=>rfl,λ_=>rfl⟩ (by show s.size<=0+s.size;omega) (Nat.zero_le _) (by
    show s.extract 0 0=⟨#[]⟩
    apply ByteArray.ext;apply Array.ext';simp) hd
   split at h
   ·simp at h
   ·rename_i hg;rw[if_neg hg];split at h
    ·rename_i hc;rw[if_pos hc];have hg2:g=2:=by have:=k1.1;omega
     subst hg2;refine⟨?_,?_⟩
     ·exact S6 hc
     ·refine Eq.trans ?_ k2.symm;unfold eo eE og lX pB yt Rd.pg;simp only[List.take_length,if_true,List.append_assoc,List.cons_append,List.nil_append]
    ·rename_i hc;exact absurd h hc
def nn(s:ByteArray):Prop:=∀ c∈s.data.toList,c.toNat≠10
theorem bF{a b:ByteArray}(ha:nn a)(hb:nn b):nn (a++b):=λc hc=>by
 rw[ByteArray.data_append,Array.toList_append,List.mem_append]at hc;exact hc.elim (ha c) (hb c)
theorem zN{b:Nat}(h:b<=256)(q:Bool):nn (ow (b:Nat) q):=by
 have key:∀ b:Fin 257,∀ q:Bool,(ow ((b.val:Nat):Int) q).data.toList.all (λc=>decide (c.toNat≠10))=true:=by decide +kernel
 have:=key ⟨b,oM⟩ q;rw[List.all_eq_true]at this;exact λc hc=>of_decide_eq_true (this c hc)
theorem cV(l:List UInt8)(h:l.all (λc=>decide (c.toNat≠10))=true):nn ⟨l.toArray⟩:=λc hc=>by
 rw[List.all_eq_true]at h;exact of_decide_eq_true (h c (by simpa using hc))
theorem XO{o:ByteArray}{b e:Nat}(ho:nn o)(hb:b<=256)(he:e<=256):nn (EG o b e):=by
 unfold EG;have hd:nn oE:=cV _ dE;split
 ·split
  ·exact bF (bF (bF ho (zN hb _)) hd) (zN he _)
  ·exact bF (bF ho (zN hb _)) (zN he _)
 ·exact bF ho (zN hb _)
theorem Cf(T:CS){o:ByteArray}(ho:nn o):∀ b,b<=256->nn (dw T o b)
 |0,_=>ho
 | b+1,h=>by
  have ih:=Cf T ho b oM;unfold dw;split
  ·have:=(Kj T b oM).2;exact XO ih oM oM
  ·exact ih
theorem VK(S:CS):nn (kb S):=by
 unfold kb;split
 ·have:=(BV S 256 0).2;exact zN (by unfold tt;omega) _
 ·split
  ·exact bF (Cf _ (cV _ dE) _ (Nat.le_refl _)) (cV _ dE)
  ·exact bF (Cf _ (cV _ dE) _ (Nat.le_refl _)) (cV _ dE)
theorem lv{r n:Int}{s:ByteArray}(h:nn s):nn (ni r n s):=by
 unfold ni;split
 ·exact bF (bF (cV _ dE) h) (cV _ dE)
 ·exact h
theorem ig:∀ t:Rx,nn (cc t)
 |.eps=>cV _ dE
 |.cls S=>VK S
 |.cat a b=>bF (lv (ig a)) (lv (ig b))
 |.alt a b=>bF (bF (lv (ig a)) (cV _ dE)) (lv (ig b))
 |.star a=>bF (lv (ig a)) (cV _ dE)
 |.and a b=>bF (bF (lv (ig a)) (cV _ dE)) (lv (ig b))
 |.minus a b=>bF (bF (lv (ig a)) (cV _ dE)) (lv (ig b))
theorem ade{s:ByteArray}(h:sq s=true):nn s:=by
 unfold sq at h;split at h
 ·rename_i t ht;rw[<- of_decide_eq_true h];exact ig _
 ·cases h
theorem abH{t:ByteArray}(h:sq t=true):nn (s7 t):=bF (bF (cV _ dE) (ade h)) (cV _ dE)
theorem Vu:∀ b:Fin 256,(b6 (cF ((b.val:Nat):Int))).data.toList.all (λc=>decide (c.toNat≠10))=true:=by decide +kernel
theorem JS(s:ByteArray):∀ k,k<=s.size->nn (bB s k)
 |0,_=>cV _ dE
 |k+1,h=>by
  have ih:=JS s k oM;obtain⟨c0,c1⟩:=pQ s k;obtain⟨b,hb⟩:=Int.eq_ofNat_of_zero_le c0;have hq:=Vu ⟨b,oM⟩;simp only at hq;rw[<- hb,List.all_eq_true]at hq;show nn (bB s k++b6 (cF (bt s (k:Nat))));exact bF ih λc hc=>of_decide_eq_true (hq c hc)
theorem ab1(s:ByteArray):nn (cE s):=by
 unfold cE;exact bF (JS s _ (Nat.le_refl _)) (cV _ dE)
theorem aaJ(s:ByteArray):nn (ux s):=bF (cV _ dE) (ab1 s)
theorem O4{n:Int}(h:0<=n):∀ c∈(cx n).data.toList,NX c:=by
 obtain⟨m,rfl⟩:=Int.eq_ofNat_of_zero_le h;rw[nf];exact (ue (m+1) m oM).1
theorem BF{n:Int}(h:0<=n):nn (cx n):=λc hc=>by
 have:=O4 h c hc;unfold NX at this;omega
theorem Ok{s v:Int}(hs:0<=s)(hv:0<=v):nn (eY s v):=bF (bF (bF (cV _ dE) (BF hs)) (cV _ dE)) (BF hv)
def nb(s:ByteArray):Prop:=∀ c∈s.data.toList,c.toNat≠32
theorem vg{n:Int}(h:0<=n):nb (cx n):=λc hc=>by
 have:=O4 h c hc;unfold NX at this;omega
theorem R9(l:List UInt8)(h:l.all (λc=>decide (c.toNat≠32))=true):nb ⟨l.toArray⟩:=λc hc=>by
 rw[List.all_eq_true]at h;exact of_decide_eq_true (h c (by simpa using hc))
theorem CN:∀ l:List (List UInt8),l≠[]->(∀ x∈l,∀ c∈x,c.toNat≠32)->iG (ox l)=l
 |[],h,_=>absurd rfl h
 |[a],_,h=>rI a (h a sI)
 |a::b::r,_,h=>by
  have ih:=CN (b::r) sI λx hx=>h x (List.mem_cons_of_mem _ hx)
  show iG (a++32::ox (b::r))=_;rw[xt a _ (h a sI) 32 rfl,ih]
theorem Oe:∀ l m:List ByteArray,l.map (λb=>b.data.toList)=m.map (λb=>b.data.toList)->l=m
 |[],[],_=>rfl
 |[],_::_,h=>by cases h
 |_::_,[],h=>by cases h
 |a::l,b::m,h=>by
  simp only[List.map_cons,List.cons.injEq]at h;rw[ee h.1,Oe l m h.2]
theorem zo(l:List ByteArray)(h:l≠[])(hb:∀ x∈l,nb x):gY (tF l)=l:=by
 have h1:=sd (tF l);rw[q7,CN _ (by simpa using h) (λx hx=>by
  obtain⟨y,hy,rfl⟩:=List.mem_map.1 hx
  exact hb y hy)]at h1
 exact Oe _ _ h1
theorem p8{n:Int}(h0:0<=n)(h1:n<1000000000):b9 (cx n)=true/\km (cx n)=n:=by
 obtain⟨m,rfl⟩:=Int.eq_ofNat_of_zero_le h0;obtain⟨d1,d2,d3,d4⟩:=ue (m+1) m oM;have hl:(cx (m:Int)).data.toList=Lib.decDigits m:=by rw[nf]
 have h:b9 (cx (m:Int))=true:=by
  rw[mC,hl];exact⟨d2,by rw[Lib.decDigits_length];exact po 8 m oM,d3,d1⟩
 exact⟨h,by rw[Bd h,hl,d4]⟩
theorem UE{s v:Int}(hs:0<=s)(hv:0<=v):pw (eY s v)=some (cx s,cx v):=by
 have e:eY s v=tF [kY,cx s,cx v]:=by
  unfold eY;have e:(⟨#[109,97,105,110,32]⟩:ByteArray)=kY++ZH:=by apply ee;rfl
  rw[e];simp[tF,ZH,ByteArray.append_assoc]
 have hp:gY (eY s v)=[kY,cx s,cx v]:=by
  rw[e];refine zo _ sI λx hx=>?_
  simp only[List.mem_cons,List.not_mem_nil,or_false]at hx;rcases hx with rfl|rfl|rfl
  ·exact R9 _ dE
  ·exact vg hs
  ·exact vg hv
 unfold pw;rw[hp];simp
theorem Rh(w:ByteArray)(st:Bool)(ua ub:Int)(hab:ub≠0->ua≠0)(k a b:Int)(hk:k=0\/(st=true/\k=1))(ha:0<=a/\a<1000000000)(hb:0<=b/\b<1000000000)(ea:ua=0->a=0)(eb:ub=0->b=0) :
  l9 (FN (w,st,ua,ub)) (kW st ua ub (k,a,b)) true (0,0,0)=some (k,a,b)/\(kW st ua ub (k,a,b)).length=(FN (w,st,ua,ub)).length:=by
 obtain⟨n1,n2⟩:=p8 ha.1 ha.2;obtain⟨n3,n4⟩:=p8 hb.1 hb.2;have hvs:¬ vB=sB:=by decide
 have hsv0:Co 0=sB:=rfl;have hsv1:Co 1=vB:=rfl;have key:∀ k:Int,l9 ((if ua=0 then [] else [false])++(if ub=0 then [] else [false])) ((if ua=0 then [] else [cx a])++(if ub=0 then [] else [cx b])) true (k,0,0)=some (k,a,b):=by
  intro k;by_cases e1:ua=0
  ·have e2:ub=0:=by
    by_cases e2:ub=0
    ·exact e2
    ·exact absurd e1 (hab e2)
   simp[e1,e2,l9,ea e1,eb e2]
  ·by_cases e2:ub=0
   ·simp[e1,e2,l9,n1,n2,eb e2]
   ·simp[e1,e2,l9,n1,n2,n3,n4]
 have hlen:((if ua=0 then [] else [cx a])++(if ub=0 then [] else [cx b]):List ByteArray).length=((if ua=0 then [] else [false])++(if ub=0 then [] else [false]):List Bool).length:=by
  by_cases e1:ua=0<;>by_cases e2:ub=0<;>simp[e1,e2]
 cases st with
 | false=>
  have hk0:k=0:=by
   rcases hk with h|h
   ·exact h
   ·cases h.1
  subst hk0;simp only[FN,kW,Bool.false_eq_true,if_false,List.nil_append];exact⟨key 0,hlen⟩
 | true=>
  simp only[FN,kW,if_true,List.cons_append,List.nil_append,List.length_cons,hlen,and_true];rcases hk with rfl|⟨_,rfl⟩
  ·rw[hsv0,l9,if_pos rfl];exact key 0
  ·rw[hsv1,l9,if_neg hvs,if_pos rfl];exact key 1
theorem OB:∀ m:Fin 21,vh (dR ((m.val:Nat):Int)).1=some m.val:=by decide +kernel
theorem UR:∀ m:Fin 21,(dR ((m.val:Nat):Int)).1.data.toList.all (λc=>decide (c.toNat≠32))=true:=by decide +kernel
theorem Mp{n m:Nat}{k a b:Int}(hm:m<21)(hk:k=0\/((dn m).2.1=true/\k=1))(ha:0<=a/\a<1000000000)(hb:0<=b/\b<1000000000)(ea:(dn m).2.2.1=0->a=0)(eb:(dn m).2.2.2=0->b=0) :
  QJ n (gK n (m:Nat) k a b)=some (((m:Nat):Int),k,a,b):=by
 obtain⟨k1,k2,k3⟩:=nQ m hm;have hr:=OB ⟨m,hm⟩;have hw:=UR ⟨m,hm⟩;simp only at hr hw;rw[k3]at hr hw;have hlu:(N2 (dR (m:Nat)).2).length=(dR (m:Nat)).2.size:=by rw[N2,List.length_map,Lib.size_eq]
 rw[k1]at hlu;generalize hu:(dR (m:Nat)).2=u at *;generalize hsp:dn m=sp at *;obtain⟨wd,st,ua,ub⟩:=sp;dsimp only at *;obtain⟨r1,r2⟩:=Rh wd st ua ub k2 k a b hk ha hb ea eb;have e:gK n (m:Nat) k a b=tF (cx n::wd::kW st ua ub (k,a,b)):=by
  unfold gK;simp only[Int.toNat_natCast,hsp];unfold kW y9 IJ DT;cases st<;>by_cases e1:ua=0<;>by_cases e2:ub=0<;>simp[e1,e2,tF,ZH,ByteArray.append_assoc]
 have hp:gY (gK n (m:Nat) k a b)=cx n::wd::kW st ua ub (k,a,b):=by
  rw[e];refine zo _ sI λx hx=>?_
  rcases List.mem_cons.1 hx with rfl|hx
  ·exact vg oM
  rcases List.mem_cons.1 hx with rfl|hx
  ·rw[List.all_eq_true]at hw;exact λc hc=>of_decide_eq_true (hw c hc)
  unfold kW at hx;rcases List.mem_append.1 hx with hx|hx
  ·split at hx
   ·rw[List.mem_singleton.1 hx];unfold Co;split<;>exact R9 _ dE
   ·cases hx
  ·rcases List.mem_append.1 hx with hx|hx
   ·split at hx
    ·cases hx
    ·rw[List.mem_singleton.1 hx];exact vg ha.1
   ·split at hx
    ·cases hx
    ·rw[List.mem_singleton.1 hx];exact vg hb.1
 have hfl:(kW st ua ub (k,a,b)).length=u.data.toList.length:=by rw[r2,hlu,Lib.size_eq]
 unfold QJ;rw[hp];simp only;rw[if_pos trivial,hr];simp only;rw[hu,if_pos (by rw[hfl,Lib.size_eq]),zR u _ hfl _ 0 true (0,0,0) (by rw[Lib.size_eq];omega),List.drop_zero,List.drop_zero,k1,r1]
theorem VI{s p:ByteArray}(h:gh s p=true){i:Nat}(hi:i<p.data.toList.length):s.data.toList[i]?=p.data.toList[i]?:=by
 unfold gh at h;simp only[Bool.and_eq_true,decide_eq_true_eq]at h;obtain⟨h1,h2⟩:=h;have e:p.data.toList=s.data.toList.take p.size:=by
  have h3:=congrArg (λb=>b.data.toList) h2;simp only[bE,List.drop_zero,Nat.sub_zero]at h3;exact h3.symm
 rw[e,List.getElem?_take,if_pos (by rw[Lib.size_eq];exact hi)]
theorem Ba{s p:ByteArray}(i:Nat)(hi:i<p.data.toList.length)(h:s.data.toList[i]?≠p.data.toList[i]?):gh s p=false:=by
 cases hs:gh s p with
 |false=>rfl
 |true=>exact absurd (VI hs hi) h
theorem EA(p q:ByteArray):gh (p++q) p=true:=by
 unfold gh;have h:(p++q).extract 0 p.size=p:=by
  apply ee;rw[bE,ByteArray.data_append,Array.toList_append,List.drop_zero,Nat.sub_zero,Lib.size_eq,List.take_left'];rfl
 rw[h,decide_eq_true (by rw[ByteArray.size_append];omega),decide_eq_true rfl];rfl
theorem C2(x:ByteArray):(ux x).data.toList=[116,101,120,116,32]++(cE x).data.toList:=by
 unfold ux;rw[ByteArray.data_append,Array.toList_append]
theorem aaA(x:ByteArray):lJ (ux x)=false:=by
 have h:gh (ux x) bC=false:=Ba 1 dE (by rw[C2];simp[bC]);unfold lJ;rw[h];rfl
theorem To(x:ByteArray):yu (ux x)=cE x:=by
 have hz:(ux x).size=5+(cE x).size:=by
  have e:(⟨#[116,101,120,116,32]⟩:ByteArray).size=5:=rfl;unfold ux;rw[ByteArray.size_append,e]
 unfold yu;rw[if_neg oM];apply ee;have e:List.drop 5 ([116,101,120,116,32]++(cE x).data.toList)=(cE x).data.toList:=rfl;rw[bE,C2,e,List.take_of_length_le (by rw[<- Lib.size_eq];omega)]
theorem abI(x:ByteArray):oO (ux x)=true:=by
 unfold oO;rw[To,Ap];have h:gh (ux x) df=true:=EA df (cE x);rw[h];rfl
theorem w6(s v:Int):∃ r,(eY s v).data.toList=[109,97,105,110,32]++r:=by
 unfold eY;simp only[ByteArray.data_append,Array.toList_append,List.append_assoc];exact⟨_,rfl⟩
theorem abi(s v:Int):lJ (eY s v)=false:=by
 obtain⟨r,hr⟩:=w6 s v;have h:gh (eY s v) bC=false:=Ba 0 dE (by rw[hr];simp[bC]);unfold lJ;rw[h];rfl
theorem abu(s v:Int):oO (eY s v)=false:=by
 obtain⟨r,hr⟩:=w6 s v;have h:gh (eY s v) df=false:=Ba 0 dE (by rw[hr];simp[df]);unfold oO;rw[h];rfl
theorem Kr(t:ByteArray):(s7 t).extract 6 ((s7 t).size-1)=t:=by
 have hz:=mj t;apply ee;rw[bE,hz];have e:(s7 t).data.toList=[116,121,112,101,32,47]++(t.data.toList++[47]):=by
  unfold s7;rw[ByteArray.data_append,Array.toList_append,ByteArray.data_append,Array.toList_append,List.append_assoc]
 have e2:List.drop 6 ([116,121,112,101,32,47]++(t.data.toList++[47]))=t.data.toList++[47]:=rfl;rw[e,e2,show t.size+7-1-6=t.data.toList.length by rw[<- Lib.size_eq];omega,List.take_left' rfl]
theorem aar{t:ByteArray}(h:sq t=true):lJ (s7 t)=true:=by
 have hz:=mj t;have h1:gh (s7 t) bC=true:=by
  have e:s7 t=bC++(t++ur):=by unfold s7;rw[ByteArray.append_assoc];rfl
  rw[e];exact EA _ _
 have h2:bt (s7 t) (((s7 t).size:Int)-1)=47:=by
  have e:((s7 t).size:Int)-1=((t.size+6:Nat):Int):=oM;have e6:(⟨#[116,121,112,101,32,47]⟩:ByteArray).size=6:=rfl;rw[e];unfold s7;rw[eR,if_neg (by rw[ByteArray.size_append,e6];omega),ByteArray.size_append,e6,show t.size+6-(6+t.size)=0 by omega];rfl
 unfold lJ;rw[h1,h2,Kr,h,decide_eq_true oM];rfl
theorem aal(r:Rd){t:ByteArray}(h:sq t=true):qM 0 r (s7 t)=some (0,{ r with ty:=r.ty++[t] }):=by
 unfold qM;rw[if_pos (by rw[aar h];rfl),Kr]
theorem abQ{g:Nat}(hg:g<=1)(r:Rd)(x:ByteArray):qM g r (ux x)=some (1,{ r with tx:=r.tx++[x] }):=by
 unfold qM;rw[if_neg (by rw[aaA];simp),if_pos (by rw[abI];simp[hg]),To,Ap]
theorem acg{g:Nat}(hg:g<=1)(r:Rd){s v:Int}(hs:0<=s/\s<1000000000)(hv:0<=v/\v<1000000000):qM g r (eY s v)=some (2,{ r with src:=s,vw:=v }):=by
 obtain⟨n1,n2⟩:=p8 hs.1 hs.2;obtain⟨n3,n4⟩:=p8 hv.1 hv.2;unfold qM;rw[if_neg (by rw[abi];simp),if_neg (by rw[abu];simp),UE hs.1 hv.1,if_pos (by simp[hg])];simp only;rw[if_pos (by rw[n1,n3];rfl),n2,n4]
theorem aan(g:Nat)(r:Rd)(l:ByteArray)(q:Nat):qM g { r with pl:=q } l=(qM g r l).map λp=>(p.1,{ p.2 with pl:=q }):=by
 unfold qM;dsimp only;by_cases h1:(decide (g=0)&&lJ l)=true
 ·rw[if_pos h1,if_pos h1];rfl
 rw[if_neg h1,if_neg h1];by_cases h2:(decide (g<=1)&&oO l)=true
 ·rw[if_pos h2,if_pos h2];rfl
 rw[if_neg h2,if_neg h2];by_cases h3:(decide (g<=1)&&(pw l).isSome)=true
 ·rw[if_pos h3,if_pos h3];cases pw l with
  |none=>rfl
  |some bc=>
   obtain⟨b,c⟩:=bc;simp only;by_cases h4:(b9 b&&b9 c)=true
   ·rw[if_pos h4,if_pos h4];rfl
   ·rw[if_neg h4,if_neg h4];rfl
 rw[if_neg h3,if_neg h3];by_cases h4:g=2
 ·rw[if_pos h4,if_pos h4];cases QJ r.co.length l with
  |none=>rfl
  |some x=>rfl
 ·rw[if_neg h4,if_neg h4];rfl
def vK:Nat->Rd->List ByteArray->Option (Nat×Rd)
 |g,r,[]=>some (g,r)
 |g,r,l::ls=>match qM g r l with
  |none=>none
  |some p=>vK p.1 p.2 ls
theorem pL:∀ (a b:List ByteArray) (g:Nat) (r:Rd),vK g r (a++b)=match vK g r a with
  |none=>none
  |some p=>vK p.1 p.2 b
 |[],b,g,r=>rfl
 |l::a,b,g,r=>by
  rw[List.cons_append,vK,vK];cases qM g r l with
  |none=>rfl
  |some p=>exact pL a b p.1 p.2
theorem QG:∀ (ls:List ByteArray) (g:Nat) (r:Rd) (q:Nat),vK g { r with pl:=q } ls=(vK g r ls).map λp=>(p.1,{ p.2 with pl:=q })
 |[],g,r,q=>rfl
 |l::ls,g,r,q=>by
  rw[vK,vK,aan];cases qM g r l with
  |none=>rfl
  |some p=>exact QG ls p.1 p.2 q
theorem qY:∀ (l:List ByteArray) (o:ByteArray),l.foldl (λo s=>o++(s++AI)) o=o++gZ l
 |[],o=>by
  show o=o++⟨#[]⟩;apply ee;rw[ByteArray.data_append,Array.toList_append];simp
 |s::l,o=>by
  have h:gZ (s::l)=((⟨#[]⟩:ByteArray)++(s++AI))++gZ l:=qY l _;rw[List.foldl_cons,qY l,h,ByteArray.append_assoc]
  congr 1
theorem qU(s:ByteArray)(l:List ByteArray):gZ (s::l)=(s++AI)++gZ l:=by
 have h:gZ (s::l)=((⟨#[]⟩:ByteArray)++(s++AI))++gZ l:=qY l _;rw[h]
 congr 1
theorem Js(s:ByteArray)(e:Nat)(hb:bt s (e:Nat)=10):∀ n i,i<=e->e<i+n->(∀ j,i<=j->j<e->bt s (j:Nat)≠10)->oe s n i=e
 |0,i,h1,h2,_=>by omega
 | n+1,i,h1,h2,h3=>by
  unfold oe;by_cases he:i=e
  ·rw[he,if_pos hb]
  ·rw[if_neg (h3 i (Nat.le_refl _) oM)];exact Js s e hb n (i+1) oM oM λj hj=>h3 j oM
theorem Vg{s pre l rest:ByteArray}(hs:s=pre++((l++AI)++rest))(hl:nn l):bh s pre.size=pre.size+l.size/\cv s pre.size=l/\pre.size+l.size<s.size:=by
 have hnl:AI.size=1:=rfl;have hz:s.size=pre.size+(l.size+1+rest.size):=by rw[hs,ByteArray.size_append,ByteArray.size_append,ByteArray.size_append,hnl]
 have hb:∀ j,j<=l.size->bt s ((pre.size+j:Nat):Int)=if j<l.size then bt l (j:Nat) else 10:=by
  intro j hj;rw[hs,eR,if_neg oM,show pre.size+j-pre.size=j by omega,eR,if_pos (by rw[ByteArray.size_append,hnl];omega),eR];by_cases h:j<l.size
  ·rw[if_pos h,if_pos h]
  ·rw[if_neg h,if_neg h,show j-l.size=0 by omega];rfl
 have he:bh s pre.size=pre.size+l.size:=by
  refine Js s _ (by rw[hb _ (Nat.le_refl _),if_neg oM]) _ _ oM oM λj h1 h2=>?_
  have h:=hb (j-pre.size) oM;rw[show pre.size+(j-pre.size)=j by omega,if_pos oM]at h;rw[h,de l (by rw[<- Lib.size_eq];omega)];have:=hl _ (List.getElem_mem (l:=l.data.toList) (n:=j-pre.size) (by rw[<- Lib.size_eq];omega));omega
 refine⟨he,?_,oM⟩;unfold cv;rw[he];apply ee;rw[bE,hs];simp only[ByteArray.data_append,Array.toList_append]
 rw[show pre.size=pre.data.toList.length from Lib.size_eq pre,List.drop_left' rfl,show pre.data.toList.length+l.size-pre.data.toList.length=l.data.toList.length by rw[<- Lib.size_eq l];omega,List.append_assoc,List.take_left' rfl]
theorem DW(s:ByteArray):∀ (ls:List ByteArray) (n g:Nat) (r:Rd) (g' : Nat) (r' : Rd) (pre:ByteArray),s=pre++gZ ls->r.pl=pre.size->(∀ l∈ls,nn l)->s.size<=r.pl+n->vK g r ls=some (g',r')->∃ q,Aq s n g r=.ok (g',{ r' with pl:=q })
 |[],n,g,r,g',r',pre,hs,hp,hl,hn,h=>by
  cases h;have h0:(gZ []).size=0:=rfl;have hz:s.size=r.pl:=by rw[hs,ByteArray.size_append,h0,hp];rfl
  refine⟨r.pl,?_⟩;cases n with
  |zero=>rfl
  |succ n=>rw[Aq,if_neg oM]
 | l::ls,n,g,r,g',r',pre,hs,hp,hl,hn,h=>by
  rw[qU]at hs;obtain⟨h1,h2,h3⟩:=Vg hs (hl l (List.mem_cons_self ..));obtain⟨n,rfl⟩:∃ n',n=n' + 1:=⟨n-1,oM⟩;rw[vK]at h;cases hr:qM g r l with
  |none=>rw[hr]at h;cases h
  | some p=>
   obtain⟨g1,r1⟩:=p;rw[hr]at h;simp only at h;rw[Aq,if_pos oM,hp,h2,hr];simp only;rw[h1,if_pos h3];have hnl:AI.size=1:=rfl;obtain⟨q,hq⟩:=DW s ls n g1 { r1 with pl:=pre.size+l.size+1 } g' { r' with pl:=pre.size+l.size+1 } (pre++(l++AI)) (by rw[hs];simp only[ByteArray.append_assoc]) (by
    show pre.size+l.size+1=_
    rw[ByteArray.size_append,ByteArray.size_append,hnl];omega) (λx hx=>hl x (List.mem_cons_of_mem _ hx)) (by dsimp only;omega) (by rw[QG,h];rfl)
   exact⟨q,hq⟩
theorem OQ:∀ (ts:List ByteArray) (r:Rd),(∀ t∈ts,sq t=true)->vK 0 r (ts.map s7)=some (0,{ r with ty:=r.ty++ts })
 |[],r,_=>by simp[vK]
 |t::ts,r,h=>by
  rw[List.map_cons,vK,aal r (h t (List.mem_cons_self ..))];simp only;rw[OQ ts _ λx hx=>h x (List.mem_cons_of_mem _ hx)];simp
theorem TN:∀ (xs:List ByteArray) (g:Nat) (r:Rd),g<=1->∃ g',g' <= 1/\vK g r (xs.map ux)=some (g',{ r with tx:=r.tx++xs })
 |[],g,r,hg=>⟨g,hg,by simp[vK]⟩
 |x::xs,g,r,hg=>by
  obtain⟨g',h1,h2⟩:=TN xs 1 { r with tx:=r.tx++[x] } oM;refine⟨g',h1,?_⟩;rw[List.map_cons,vK,abQ hg];simp only;rw[h2];simp
theorem tY{n1 n2 n3:Nat}{u n:Int}(h:od n1 n2 n3 u n=true)(h1:n1<=131072)(h2:n2<=131072)(h3:n3<=131072):(0<=n/\n<1000000000)/\(u=0->n=0):=by
 unfold od at h
 repeat' split at h
 all_goals first
  |(simp[rh]at h;exact⟨oM,λhu=>by omega⟩)
  |(simp at h;exact⟨oM,λ_=>h⟩)
theorem Sf{p:Pg}(hs:PgS p)(h1:p.ty.length<=131072)(h2:p.tx.length<=131072)(h3:p.co.length<=131072)(r:Rd)(hr:r.co=[]):∀ k,k<=p.co.length->vK 2 r ((List.range k).map (N3 p))=some (2,{ r with co:=p.co.take k })
 |0,_=>by
  rw[List.take_zero,<- hr];rfl
 | k+1,hk=>by
  have ih:=Sf hs h1 h2 h3 r hr k oM;have hlt:k<p.co.length:=oM;have hc:=hs.co k hlt;rw[List.range_succ,List.map_append,pL,ih];simp only[List.map_cons,List.map_nil];rw[vK,JG];have hl:({ r with co:=p.co.take k }:Rd).co.length=k:=by
   show (p.co.take k).length=k;rw[List.length_take];omega
  rw[hl,Cd hlt,List.take_succ_eq_append_getElem hlt];generalize p.co[k]=x at *;obtain⟨o,kk,a,b⟩:=x;dsimp only at hc ⊢;unfold qf at hc;simp only[Bool.and_eq_true,Bool.or_eq_true,decide_eq_true_eq]at hc;obtain⟨⟨⟨o0,o1⟩,hkk⟩,ha,hb⟩:=hc;obtain⟨m,rfl⟩:=Int.eq_ofNat_of_zero_le o0
  rw[Int.toNat_natCast]at hkk ha hb;obtain⟨a1,a2⟩:=tY ha h1 h2 h3;obtain⟨b1,b2⟩:=tY hb h1 h2 h3;rw[Mp oM hkk a1 b1 a2 b2];rfl
theorem acb:∀ m:Fin 21,(dn m.val).1.data.toList.all (λc=>decide (c.toNat≠10))=true:=by decide +kernel
theorem QO{n m:Nat}{k a b:Int}(hm:m<21)(ha:0<=a)(hb:0<=b):nn (gK n (m:Nat) k a b):=by
 have hw:nn (dn m).1:=λc hc=>by
  have h:=acb ⟨m,hm⟩;rw[List.all_eq_true]at h;exact of_decide_eq_true (h c hc)
 have hsp:nn ⟨#[32]⟩:=cV _ dE;have hsv:nn (Co k):=by unfold Co;split<;>exact cV _ dE
 have h1:nn (DT n (dn m).1):=bF (bF (BF oM) hsp) hw;have h2:nn (IJ (dn m).2.1 k (DT n (dn m).1)):=by
  unfold IJ;cases (dn m).2.1
  ·exact h1
  ·exact bF h1 (bF hsp hsv)
 have h3:∀ (u x:Int) (o:ByteArray),0<=x->nn o->nn (y9 u x o):=λu x o hx ho=>by
  unfold y9;split
  ·exact ho
  ·exact bF ho (bF hsp (BF hx))
 unfold gK;rw[Int.toNat_natCast];exact h3 _ _ _ hb (h3 _ _ _ ha h2)
theorem Cx{p:Pg}(hc:(fJ p).1=0)(h8:(eo p).size<=8388608):Cq (eo p)=(p,0,0,dP):=by
 obtain⟨hz,hs,l1,l2,l3⟩:=ru hc;have hsm:=hs.s1;have hvm:=hs.v1;have bs:0<=p.src/\p.src<1000000000:=⟨hs.s0,oM⟩;have bv:0<=p.vw/\p.vw<1000000000:=⟨hs.v0,oM⟩;have hty:∀ t∈p.ty,sq t=true:=λt ht=>by
  obtain⟨i,hi,rfl⟩:=List.getElem_of_mem ht;exact hs.ty i hi
 obtain⟨g1,hg1,e1⟩:=TN p.tx 0 { mu with ty:=p.ty } oM;have e0:=OQ p.ty mu hty;have ez:({ mu with ty:=mu.ty++p.ty }:Rd)={ mu with ty:=p.ty }:=rfl;rw[ez]at e0;have ey:({ ({ mu with ty:=p.ty }:Rd) with tx:=({ mu with ty:=p.ty }:Rd).tx++p.tx }:Rd)={ mu with ty:=p.ty,tx:=p.tx }:=rfl;rw[ey]at e1
 have e2:=acg hg1 { mu with ty:=p.ty,tx:=p.tx } bs bv;have e3:=Sf hs l1 l2 l3 { mu with ty:=p.ty,tx:=p.tx,src:=p.src,vw:=p.vw } rfl p.co.length (Nat.le_refl _);rw[List.take_length]at e3;have hL:vK 0 mu (eE p)=some (2,{ mu with ty:=p.ty,tx:=p.tx,src:=p.src,vw:=p.vw,co:=p.co }):=by
  unfold eE og lX pB;rw[List.take_length,List.take_length,pL,pL,pL,e0];simp only;rw[e1];simp only;rw[vK,e2];simp only[vK];exact e3
 have hnn:∀ l∈eE p,nn l:=by
  intro l hl;unfold eE og lX pB at hl;rw[List.take_length,List.take_length]at hl;rcases List.mem_append.1 hl with hl|hl
  ·rcases List.mem_append.1 hl with hl|hl
   ·rcases List.mem_append.1 hl with hl|hl
    ·obtain⟨t,ht,rfl⟩:=List.mem_map.1 hl;exact abH (hty t ht)
    ·obtain⟨t,ht,rfl⟩:=List.mem_map.1 hl;exact aaJ t
   ·rw[List.mem_singleton.1 hl];exact Ok bs.1 bv.1
  ·obtain⟨k,hk,rfl⟩:=List.mem_map.1 hl;have hlt:k<p.co.length:=List.mem_range.1 hk;have hi:=hs.co k hlt;rw[Cd hlt];generalize p.co[k]=x at *;obtain⟨o,kk,a,b⟩:=x;dsimp only at hi ⊢;unfold qf at hi;simp only[Bool.and_eq_true,Bool.or_eq_true,decide_eq_true_eq]at hi;obtain⟨⟨⟨o0,o1⟩,hkk⟩,ha,hb⟩:=hi
   obtain⟨m,rfl⟩:=Int.eq_ofNat_of_zero_le o0;exact QO oM (tY ha l1 l2 l3).1.1 (tY hb l1 l2 l3).1.1
 obtain⟨q,hq⟩:=DW (eo p) (eE p) (eo p).size 0 mu 2 _ ⟨#[]⟩ (by
  show eo p=⟨#[]⟩++gZ (eE p)
  apply ee
  rw[ByteArray.data_append,Array.toList_append]
  simp[eo]) rfl hnn (by show _<=0+_;omega) hL
 unfold Cq;rw[if_neg oM,hq];simp only;rw[if_neg oM];have hpg:Rd.pg { ty:=p.ty,tx:=p.tx,co:=p.co,src:=p.src,vw:=p.vw,pl:=q }=p:=rfl;rw[if_pos (by rw[hpg];exact hc),hpg]
end
section
open Go.RowKit Go.LE Go.Proofs.Tryz
theorem vj:∀ {l:List ByteArray} {s:ByteArray},s∈l->s.size+1<=(gZ l).size
 | x::l,s,h=>by
  rw[qU,ByteArray.size_append,tR];rcases List.mem_cons.1 h with rfl|h
  ·omega
  ·have:=vj h;omega
theorem ER:∀ l:List ByteArray,l.length<=(gZ l).size
 |[]=>Nat.zero_le _
 |x::l=>by
  rw[qU,ByteArray.size_append,tR,List.length_cons];have:=ER l;omega
theorem TA(c:Int):1<=(cF c).length:=by
 unfold cF
 repeat' split
 all_goals simp
theorem I3(s:ByteArray):∀ k,k<=(bB s k).size
 |0=>Nat.zero_le _
 |k+1=>by
  show _<=(bB s k++b6 (cF (bt s k))).size;rw[ByteArray.size_append,b8];have:=I3 s k;have:=TA (bt s k);omega
theorem abq(s:ByteArray):s.size<=(ux s).size:=by
 have:=I3 s s.size;unfold ux cE;rw[ByteArray.size_append,ByteArray.size_append];omega
theorem TC{p:Pg}(h:(eo p).size<=1048576):Ag p:=by
 have hl:=ER (eE p);have hn:(eE p).length=p.ty.length+p.tx.length+1+p.co.length:=vc p _;have he:eo p=gZ (eE p):=rfl;rw[<- he,hn]at hl;refine⟨oM,oM,oM,λs hs=>?_,λs hs=>?_⟩
 ·have hm:s7 s∈eE p:=by
   unfold eE og lX pB;rw[List.take_length];exact List.mem_append_left _ (List.mem_append_left _ (List.mem_append_left _ (List.mem_map.2 ⟨s,hs,rfl⟩)))
  have:=vj hm;rw[<- he,mj]at this;omega
 ·have hm:ux s∈eE p:=by
   unfold eE og lX;rw[List.take_length];exact List.mem_append_left _ (List.mem_append_left _ (List.mem_append_right _ (List.mem_map.2 ⟨s,hs,rfl⟩)))
  have:=vj hm;have:=abq s;rw[<- he]at *;omega
theorem abT{s:ByteArray}(h:(Cq s).2.1≠0):(Cq s).1=eu:=by
 unfold Cq at h ⊢;split
 ·rfl
 ·rename_i h8;rw[if_neg h8]at h;cases hd:Aq s s.size 0 mu with
  |error i=>rfl
  | ok q=>
   obtain⟨g,r⟩:=q;rw[hd]at h;simp only at h ⊢;split
   ·rfl
   ·rename_i hg;rw[if_neg hg]at h;split
    ·rename_i hc;rw[if_pos hc]at h;exact absurd rfl h
    ·rfl
theorem QE{s:ByteArray}(h:(Cq s).2.1=0):(Cq s).2=(0,0,dP):=by
 unfold Cq at h ⊢;split
 ·rename_i h8;rw[if_pos h8]at h;cases h
 ·rename_i h8;rw[if_neg h8]at h;cases hd:Aq s s.size 0 mu with
  |error i=>rw[hd]at h;cases h
  | ok q=>
   obtain⟨g,r⟩:=q;rw[hd]at h;simp only at h ⊢;split
   ·rename_i hg;rw[if_pos hg]at h;cases h
   ·rename_i hg;rw[if_neg hg]at h;split
    ·rfl
    ·rename_i hc;rw[if_neg hc]at h;exact absurd h hc
theorem ZU:ts prog 47=some 1:=kR
theorem aad:ta prog 47=some false:=kR
theorem BG:ts prog 51=some 1:=kR
theorem AB:ta prog 51=some false:=kR
theorem BI:tz prog 51=some [Value.nilFunc]:=kR
theorem vA:ts prog 103=some 1:=kR
theorem vZ:ta prog 103=some false:=kR
theorem TF:ts prog 106=some 1:=kR
theorem Qa:ta prog 106=some false:=kR
theorem nq:ts prog 110=some 1:=kR
theorem mw:ta prog 110=some false:=kR
theorem mL:tz prog 110=some [Value.pointer none]:=kR
theorem my:jH prog 110=some true:=kR
theorem ma:Program.underlying prog 110=some (.pointer 112):=kR
theorem ml:ts prog 112=some 7:=kR
theorem mg:ta prog 112=some true:=kR
theorem nw:tz prog 112=some [Value.slice none 0 0,Value.slice none 0 0,Value.slice none 0 0,Value.int IntKind.i64 0,Value.int IntKind.i64 0,Value.string { data:=#[] },Value.int IntKind.i64 0]:=kR
theorem nv:pI prog 112=some [(0,5),(5,1),(6,1)]:=kR
theorem mb:tf prog 112 0=some (0,5,true):=kR
theorem mS:tf prog 112 1=some (5,1,false):=kR
theorem mW:tf prog 112 2=some (6,1,false):=kR
theorem Z1:ts prog 173=some 1:=kR
theorem Z6:ta prog 173=some false:=kR
theorem aai:tz prog 173=some [Value.pointer none]:=kR
theorem abh:jH prog 173=some true:=kR
theorem aav:Program.underlying prog 173=some (.pointer 3):=kR
theorem abU:ts prog 174=some 2:=kR
theorem ab7:ta prog 174=some true:=kR
theorem aaE:qI prog 174=some 16:=kR
theorem ZT:tz prog 174=some [Value.int IntKind.i64 0,Value.pointer none]:=kR
theorem abR:pI prog 174=some [(0,1),(1,1)]:=kR
theorem aby:tf prog 174 0=some (0,1,false):=kR
theorem aak:tf prog 174 1=some (1,1,false):=kR
theorem aaN:ts prog 175=some 1:=kR
theorem aae:ta prog 175=some false:=kR
theorem ZZ:tz prog 175=some [Value.slice none 0 0]:=kR
theorem aaP:Program.underlying prog 175=some (.slice 174):=kR
theorem Ri:ts prog 264=some 1:=kR
theorem TR:ta prog 264=some false:=kR
end
section
open Go.RowKit Go.LE Go.Proofs.Tryz
set_option maxRecDepth 10000
end
end Go.Proofs.YtnemkecffmdlnaaGreatDoor
namespace Go.Proofs
section
open Go.Shelf
def Tryz.ED:Go.Shelf.Ren:=⟨λ| 137=>138|217=>189|266=>231|n=>n,λ| 9=>9|5=>5|3=>3|n=>n,λ| n=>n⟩
theorem Tryz.Xc:Go.Proofs.Lays.n137 Tryz.prog Tryz.ED:={
 mixed:=by kernel_rfl
 f137:=Tryz.func138.trans (congrArg some (by kernel_rfl))
 f217:=Tryz.func189.trans (congrArg some (by kernel_rfl))
 f266:=Tryz.func231.trans (congrArg some (by kernel_rfl))
 t3:=Tryz.underlying3
 a3:=Tryz.isAgg3
 z3:=Tryz.sizeOf3
 v3:=Tryz.zeroValue3
 t5:=Tryz.underlying5
 a5:=Tryz.isAgg5
 z5:=Tryz.sizeOf5
 v5:=Tryz.zeroValue5
 t9:=Tryz.underlying9
 a9:=Tryz.isAgg9
 z9:=Tryz.sizeOf9
 v9:=Tryz.zeroValue9 }
def Tryz.Bi:Go.Shelf.Ren:=⟨λ| 245=>193|279=>234|280=>235|281=>236|282=>237|316=>256|171=>39|205=>257|243=>76|246=>131|283=>183|284=>184|285=>185|286=>186|129=>227|317=>226|318=>228|319=>229|320=>230|337=>254|338=>255|n=>n,λ| 9=>9|3=>3|75=>93|167=>339|4=>4|168=>341|210=>359|37=>89|0=>0|127=>162|145=>367|143=>365|2=>2|171=>313|53=>203|5=>5|173=>316|212=>334|51=>335|20=>20|213=>336|46=>158|232=>363|233=>364|80=>100|n=>n,λ| 15=>5|16=>6|17=>3|18=>7|19=>8|n=>n⟩
theorem Tryz.Pj:Go.Proofs.LaysC.n245 Tryz.prog Tryz.Bi:={
 mixed:=by kernel_rfl
 f129:=Tryz.func227.trans (congrArg some (by kernel_rfl))
 f171:=Tryz.func39.trans (congrArg some (by kernel_rfl))
 f205:=Tryz.func257.trans (congrArg some (by kernel_rfl))
 f243:=Tryz.func76.trans (congrArg some (by kernel_rfl))
 f245:=Tryz.func193.trans (congrArg some (by kernel_rfl))
 f246:=Tryz.func131.trans (congrArg some (by kernel_rfl))
 f279:=Tryz.func234.trans (congrArg some (by kernel_rfl))
 f280:=Tryz.func235.trans (congrArg some (by kernel_rfl))
 f281:=Tryz.func236.trans (congrArg some (by kernel_rfl))
 f282:=Tryz.func237.trans (congrArg some (by kernel_rfl))
 f283:=Tryz.func183.trans (congrArg some (by kernel_rfl))
 f284:=Tryz.func184.trans (congrArg some (by kernel_rfl))
 f285:=Tryz.func185.trans (congrArg some (by kernel_rfl))
 f286:=Tryz.func186.trans (congrArg some (by kernel_rfl))
 f316:=Tryz.func256.trans (congrArg some (by kernel_rfl))
 f317:=Tryz.func226.trans (congrArg some (by kernel_rfl))
 f318:=Tryz.func228.trans (congrArg some (by kernel_rfl))
 f319:=Tryz.func229.trans (congrArg some (by kernel_rfl))
 f320:=Tryz.func230.trans (congrArg some (by kernel_rfl))
 f337:=Tryz.func254.trans (congrArg some (by kernel_rfl))
 f338:=Tryz.func255.trans (congrArg some (by kernel_rfl))
 t0:=Tryz.underlying0
 a0:=Tryz.isAgg0
 z0:=Tryz.sizeOf0
 v0:=Tryz.zeroValue0
 t2:=Tryz.underlying2
 a2:=Tryz.isAgg2
 z2:=Tryz.sizeOf2
 v2:=Tryz.zeroValue2
 t3:=Tryz.underlying3
 a3:=Tryz.isAgg3
 z3:=Tryz.sizeOf3
 v3:=Tryz.zeroValue3
 t4:=Tryz.underlying4
 a4:=Tryz.isAgg4
 z4:=Tryz.sizeOf4
 v4:=Tryz.zeroValue4
 t5:=Tryz.underlying5
 a5:=Tryz.isAgg5
 z5:=Tryz.sizeOf5
 v5:=Tryz.zeroValue5
 t9:=Tryz.underlying9
 a9:=Tryz.isAgg9
 z9:=Tryz.sizeOf9
 v9:=Tryz.zeroValue9
 t20:=Tryz.underlying20
 a20:=Tryz.isAgg20
 z20:=Tryz.sizeOf20
 v20:=Tryz.zeroValue20
 t37:=Tryz.underlying89
 a37:=Tryz.isAgg89
 z37:=Tryz.sizeOf89
 v37:=Tryz.zeroValue89
 t46:=Tryz.underlying158
 a46:=Tryz.isAgg158
 z46:=Tryz.sizeOf158
 v46:=Tryz.zeroValue158
 t51:=Tryz.underlying335
 a51:=Tryz.isAgg335
 z51:=Tryz.sizeOf335
 v51:=Tryz.zeroValue335
 t53:=Tryz.underlying203
 a53:=Tryz.isAgg203
 z53:=Tryz.sizeOf203
 v53:=Tryz.zeroValue203
 t75:=Tryz.underlying93
 a75:=Tryz.isAgg93
 z75:=Tryz.sizeOf93
 v75:=Tryz.zeroValue93
 t127:=Tryz.underlying162
 a127:=Tryz.isAgg162
 z127:=Tryz.sizeOf162
 v127:=Tryz.zeroValue162
 t143:=Tryz.underlying365
 a143:=Tryz.isAgg365
 z143:=Tryz.sizeOf365
 v143:=Tryz.zeroValue365
 t145:=Tryz.underlying367
 a145:=Tryz.isAgg367
 z145:=Tryz.sizeOf367
 v145:=Tryz.zeroValue367
 t167:=Tryz.underlying339
 a167:=Tryz.isAgg339
 z167:=Tryz.sizeOf339
 v167:=Tryz.zeroValue339
 t168:=Tryz.underlying341
 a168:=Tryz.isAgg341
 z168:=Tryz.sizeOf341
 v168:=Tryz.zeroValue341
 t171:=Tryz.underlying313
 a171:=Tryz.isAgg313
 z171:=Tryz.sizeOf313
 v171:=Tryz.zeroValue313
 t173:=Tryz.underlying316
 a173:=Tryz.isAgg316
 z173:=Tryz.sizeOf316
 v173:=Tryz.zeroValue316
 t210:=Tryz.underlying359
 a210:=Tryz.isAgg359
 z210:=Tryz.sizeOf359
 v210:=Tryz.zeroValue359
 t212:=Tryz.underlying334
 a212:=Tryz.isAgg334
 z212:=Tryz.sizeOf334
 v212:=Tryz.zeroValue334
 t213:=Tryz.underlying336
 a213:=Tryz.isAgg336
 z213:=Tryz.sizeOf336
 t232:=Tryz.underlying363
 a232:=Tryz.isAgg363
 z232:=Tryz.sizeOf363
 v232:=Tryz.zeroValue363
 t233:=Tryz.underlying364
 a233:=Tryz.isAgg364
 z233:=Tryz.sizeOf364
 v233:=Tryz.zeroValue364
 g15:=by kernel_rfl
 g16:=by kernel_rfl
 g17:=by kernel_rfl
 g18:=by kernel_rfl
 g19:=by kernel_rfl
 t80:=Tryz.underlying100
 a80:=Tryz.isAgg100
 z80:=Tryz.sizeOf100
 v80:=Tryz.zeroValue100
 i0:=by kernel_rfl
 i2:=by kernel_rfl
 i3:=by kernel_rfl
 i4:=by kernel_rfl
 i5:=by kernel_rfl
 i9:=by kernel_rfl
 i20:=by kernel_rfl
 i37:=by kernel_rfl
 i46:=by kernel_rfl
 i51:=by kernel_rfl
 i53:=by kernel_rfl
 i75:=by kernel_rfl
 i80:=by kernel_rfl
 i127:=by kernel_rfl
 i143:=by kernel_rfl
 i145:=by kernel_rfl
 i167:=by kernel_rfl
 i168:=by kernel_rfl
 i171:=by kernel_rfl
 i173:=by kernel_rfl
 i210:=by kernel_rfl
 i212:=by kernel_rfl
 i232:=by kernel_rfl
 i233:=by kernel_rfl
 m15:=by kernel_rfl
 m16:=by kernel_rfl
 m17:=by kernel_rfl
 m18:=by kernel_rfl
 m19:=by kernel_rfl
 c0:=by kernel_rfl
 c2:=by kernel_rfl
 c3:=by kernel_rfl
 c4:=by kernel_rfl
 c5:=by kernel_rfl
 c9:=by kernel_rfl
 c20:=by kernel_rfl
 c37:=by kernel_rfl
 c46:=by kernel_rfl
 c51:=by kernel_rfl
 c53:=by kernel_rfl
 c75:=by kernel_rfl
 c80:=by kernel_rfl
 c127:=by kernel_rfl
 c143:=by kernel_rfl
 c145:=by kernel_rfl
 c167:=by kernel_rfl
 c168:=by kernel_rfl
 c171:=by kernel_rfl
 c173:=by kernel_rfl
 c210:=by kernel_rfl
 c212:=by kernel_rfl
 c213:=by kernel_rfl
 c232:=by kernel_rfl
 c233:=by kernel_rfl }
end
end Go.Proofs
namespace Go.Proofs.YtnemkecffmdlnaaGreatDoor
section
open Go.RowKit Go.LE Go.Proofs.Tryz
set_option maxRecDepth 10000
def Rf(c:Int):Int:=bits .or .u8 c 32
def vH(c:Nat):Option Nat:=if 48<=c/\c<=57 then some (c-48) else if 97<=Rf c/\Rf c<=102 then some (Rf c-87).toNat else none
def iY:Nat->List UInt8->Option Nat
 |acc,[]=>some acc
 |acc,c::r=>match vH c.toNat with
  |none=>none
  |some d=>iY (acc*16+d) r
def aca:Option Nat->Value
 |some v=>.tuple #[.int .u64 (v:Nat),.nilIface]
 |none=>.tuple #[.int .u64 0,.iface 339 (.int .i64 2)]
set_option maxRecDepth 100000 in
theorem Fw(t:ByteArray)(hne:t.size≠0)(h2:t.size<=2)(w:World) :
  Calls prog 192 #[.string t,.int .i64 16,.int .i64 8] w λe w' => e=.returned (aca (iY 0 t.data.toList))/\w' = Lib.bytesWorld w 5 t:=by
 have hemp:t.toList.isEmpty=false:=by
  rw[<- decide_eq_emptyBytes];exact decide_eq_false (λh=>hne (by rw[h];rfl))
 have hcv:=Lib.run_convert_string_bytes (P:=prog) w 9 89 5 t (u:=.string) Tryz.underlying9 Tryz.underlying89 Tryz.underlying5;have hB:∀ j,j<t.size->(Lib.bytesWorld w 5 t).cell? ⟨w.heap.size,j,none⟩=some (.int .u8 (t.data.toList.getD j 0).toNat):=λj hj=>Lib.bytesWorld_cell w 5 t j hj
 obtain⟨W1,hW1⟩:∃ W1,W1=Lib.bytesWorld w 5 t:=⟨_,rfl⟩;rw[<- hW1]at hcv hB ⊢;clear hW1;obtain⟨bs,hL⟩:∃ bs,bs=t.data.toList:=⟨_,rfl⟩;have hLn:bs.length=t.size:=by rw[hL,Lib.size_eq]
 rw[<- hL]at hB ⊢;clear hL;have hmv:IntKind.u64.wrap (IntKind.u64.wrap 256-1)=255:=by
  rw[IntKind.wrap_u64,IntKind.wrap_u64];decide
 go_enter func192,Tryz.ntmps192
 go_wp2
 go_loop [12,13,101] (λvu vn vi=>∃ (k acc:Nat) (a:Int),vu=.bool false/\vn=.int .u64 a/\vi=.int .i64 k/\k<=t.size/\Hid (a=(acc:Int)/\((k=0->acc=0)/\(k<=1->acc<=15)/\acc<=255)/\iY 0 bs=iY acc (bs.drop k)))
  (λ_ _ vi=>t.size-(intOf vi).toNat)
 case atStart=>exact⟨0,0,0,rfl,rfl,rfl,oM,rfl,⟨λ_=>rfl,oM,oM⟩,rfl⟩
 case round=>
  obtain⟨k,acc,a,rfl,rfl,rfl,hk,hh⟩:=hrel;obtain⟨ha,⟨hacc0,hacc1,hacc⟩,hdec⟩:=hh.out;clear hh;have a0:0<=a:=oM;have a1:a<=255:=oM;by_cases hkn:k<t.size
  ·have hc:=hB k hkn;have hdrop:bs.drop k=bs[k]'oM::bs.drop (k+1):=List.drop_eq_getElem_cons oM;have hget:bs.getD k 0=bs[k]'oM:=by simp[List.getD,List.getElem?_eq_getElem (show k<bs.length by omega)]
   have a15:a<=15:=oM;rw[hdrop]at hdec;rw[hget]at hc;generalize bs[k]'oM=c at hc hdec;have hc256:c.toNat<256:=c.toNat_lt;clear hB hdrop hget;by_cases hdig:48<=c.toNat/\c.toNat<=57
   ·obtain⟨hd0,hd1⟩:=hdig;have hF:iY acc (c::bs.drop (k+1))=iY (acc*16+(c.toNat-48)) (bs.drop (k+1)):=by simp[iY,vH,hd0,hd1]
    have HN:Hid (a*16+((c.toNat:Int)-48)=((acc*16+(c.toNat-48):Nat):Int)/\((k+1=0->acc*16+(c.toNat-48)=0)/\(k+1<=1->acc*16+(c.toNat-48)<=15)/\acc*16+(c.toNat-48)<=255)/\iY 0 bs=iY (acc*16+(c.toNat-48)) (bs.drop (k+1))):=Lib.hid ⟨oM,⟨oM,oM,oM⟩,hdec.trans hF⟩;have iov:a*16+((c.toNat:Int)-48)<=255:=oM
    clear hacc0 hacc1 hacc hF hdec ha
    go_wp2
    refine⟨⟨k+1,acc*16+(c.toNat-48),a*16+((c.toNat:Int)-48),rfl,(by first|rfl|(congr 1;omega)),(by first|rfl|(congr 1;omega)),oM,HN⟩,by simp[intOf];omega⟩
   ·have hv0:=bits_lo_u8 .or (c.toNat:Int) 32;have hv1:=bits_hi_u8 .or (c.toNat:Int) 32;have hu0:=bits_lo_u8 .or 95 32;have hu1:=bits_hi_u8 .or 95 32;by_cases hlet:97<=bits .or .u8 (c.toNat:Int) 32/\bits .or .u8 (c.toNat:Int) 32<=102
    ·obtain⟨hl0,hl1⟩:=hlet;have hF:iY acc (c::bs.drop (k+1))=iY (acc*16+(bits .or .u8 (c.toNat:Int) 32-87).toNat) (bs.drop (k+1)):=by
      have e:vH c.toNat=some (bits .or .u8 (c.toNat:Int) 32-87).toNat:=by
       unfold vH Rf;rw[if_neg hdig,if_pos ⟨hl0,hl1⟩]
      simp only[iY,e]
     obtain⟨d,hd⟩:∃ d,d=bits .or .u8 (c.toNat:Int) 32:=⟨_,rfl⟩;rw[<- hd]at hF hv0 hv1 hl0 hl1
     have HN:Hid (a*16+(d-97+10)=((acc*16+(d-87).toNat:Nat):Int)/\((k+1=0->acc*16+(d-87).toNat=0)/\(k+1<=1->acc*16+(d-87).toNat<=15)/\acc*16+(d-87).toNat<=255)/\iY 0 bs=iY (acc*16+(d-87).toNat) (bs.drop (k+1))):=Lib.hid ⟨oM,⟨oM,oM,oM⟩,hdec.trans hF⟩;have iov:a*16+(d-97+10)<=255:=oM
     have h95:c.toNat≠95:=λe=>by
      rw[e]at hd;have:bits .or .u8 ((95:Nat):Int) 32=127:=by decide +kernel
      omega
     clear hacc0 hacc1 hacc hF hdec ha;rw[hd]at hv0 hv1 hl0 hl1 iov;subst hd
     go_wp2
     all_goals refine⟨⟨k+1,acc*16+(bits .or .u8 (c.toNat:Int) 32-87).toNat,a*16+(bits .or .u8 (c.toNat:Int) 32-97+10),rfl,(by first|rfl|(congr 1;omega)),(by first|rfl|(congr 1;omega)),oM,HN⟩,by simp[intOf];omega⟩
    ·have hF:iY acc (c::bs.drop (k+1))=none:=by
      have e:vH c.toNat=none:=by
       unfold vH Rf;rw[if_neg hdig,if_neg hlet]
      simp only[iY,e]
     rw[hF]at hdec;clear hacc0 hacc1 hacc hF ha
     go_wp2
     all_goals go_ret2
     all_goals first|exact⟨rfl,rfl⟩|exact⟨by rw[hdec];rfl,rfl⟩
  ·have hkk:k=t.size:=oM;subst hkk;have hF:iY acc (bs.drop t.size)=some acc:=by rw[List.drop_eq_nil_of_le oM];rfl
   rw[hF]at hdec;subst ha;clear hacc0 hacc1 hacc hF a0 a1
   go_wp2
   go_ret2
   first|exact⟨rfl,rfl⟩|exact⟨by rw[hdec];rfl,rfl⟩
theorem ab4:∀ c:Fin 256,BD ((c.val:Nat):Int)=(vH c.val).map λn=>((n:Nat):Int):=by decide +kernel
theorem Ic(c:UInt8):BD ((c.toNat:Nat):Int)=(vH c.toNat).map λn=>((n:Nat):Int):=ab4 ⟨c.toNat,c.toNat_lt⟩
theorem SM(p:ByteArray)(h0:p.size≠0)(h2:p.size<=2):ki p=(iY 0 p.data.toList).map λn=>((n:Nat):Int):=by
 have hz:=Lib.size_eq p;have hb:=λk hk=>de p (k:=k) hk
 unfold ki;rw[if_neg h0];generalize p.data.toList=l at *;rcases l with _|⟨a,_|⟨b,_|⟨c,r⟩⟩⟩
 ·simp only[List.length_nil,List.length_cons]at hz;omega
 ·have b0:=hb 0 sI;simp only[List.getElem_cons_zero]at b0;rw[b0,Ic,hz];simp only[iY];cases vH a.toNat with
  |none=>rfl
  |some d=>simp
 ·have b0:=hb 0 sI;have b1:=hb 1 sI;simp only[List.getElem_cons_zero,List.getElem_cons_succ]at b0 b1;rw[b0,b1,Ic,Ic,hz];simp only[iY];cases vH a.toNat with
  |none=>rfl
  | some d=>
   simp only[Option.map_some];rw[if_neg sI];cases vH b.toNat with
   |none=>rfl
   |some e=>
    simp only[Option.map_some,Option.some.injEq];omega
 ·simp only[List.length_nil,List.length_cons]at hz;omega
theorem Ha(w:World):Calls prog 192 #[.string ⟨#[]⟩,.int .i64 16,.int .i64 8] w λe w' => e=.returned (aca none)/\w' = w:=by
 go_enter func192,Tryz.ntmps192
 go_wp2
 go_ret2
 exact⟨rfl,rfl⟩
theorem Ev(p:ByteArray)(h2:p.size<=2)(w:World):Calls prog 192 #[.string p,.int .i64 16,.int .i64 8] w λe w' => e=.returned (aca (if p.size=0 then none else iY 0 p.data.toList))/\Below w.heap.size w w' := by
 by_cases h0:p.size=0
 ·have hp:p=⟨#[]⟩:=by
   apply ByteArray.ext;exact Array.eq_empty_of_size_eq_zero h0
  subst hp;exact (Ha w).mono λe w' ⟨he,hw⟩=>⟨he,by rw[hw];exact Below.refl _ _⟩
 ·rw[if_neg h0];exact (Fw p h0 h2 w).mono λe w' ⟨he,hw⟩=>⟨he,by rw[hw];exact Lib.bytesWorld_below _ _ _⟩
def N4(p:ByteArray)(h2:p.size<=2)(v:Nat)(hv:ki p=some (v:Int)):bu prog 192 where
 pre:=λW bs as_=>as_=[.val (.string p),.val (.int .i64 16),.val (.int .i64 8)]
 res:=λ_ _=>.tuple #[.int .u64 (v:Nat),.nilIface]
 enters:=call192
 ok:=by
  intro W w bs us as_ hk hu hp;subst hp
  match us,hu with
  | [x,y,z],hu=>
   obtain⟨rfl,rfl,rfl,_⟩:=hu;refine (Ev p h2 w).mono λe w' ⟨he,hw⟩=>⟨?_,LE.af.jE hw⟩
   have h0:p.size≠0:=λh=>by unfold ki at hv;rw[if_pos h]at hv;cases hv
   rw[SM p h0 h2]at hv;rw[if_neg h0]at he;cases hm:iY 0 p.data.toList with
   |none=>rw[hm]at hv;cases hv
   |some u=>
    rw[hm]at hv he;simp only[Option.map_some,Option.some.injEq]at hv;have:u=v:=oM;subst this;exact he
section
variable (p:ByteArray)(h2:p.size<=2)(v:Nat)(hv:ki p=some (v:Int))
noncomputable def N9:Env prog:=⟨λ| 192=>some (N4 p h2 v hv).spec|_=>none,λ_=>none,λ_ _=>none⟩
theorem Oi:(N9 p h2 v hv).sp 192=some (N4 p h2 v hv).spec:=rfl
end
def Mj:=(ak @List.replicate_succ.{0} @List.replicate_zero.{0} @aq @ae lA dI dK (ak dJ dG dr dt du dq fq (ak fu ft fh ff fm Oo PD (ak RH Q2 ov oQ oN oP Ri (NT TR @a6 @aw @aD @aE @Oi @N4.eq_1)))))
theorem Mv(p:ByteArray)(h2:p.size<=2)(v:Nat)(hv:ki p=some (v:Int))(w:World):Calls prog 141 #[.string p,.int .i64 16,.int .i64 8] w λe w' => e=.returned (.tuple #[.int .u64 (v:Nat),.nilIface])/\LE.af w [] w' := by
 refine av (nt:=26) [.tmp 6,.tmp 7] func141 rfl rfl rfl ?_;refine vR (N9 p h2 v hv) Mj ?_;refine vR (N9 p h2 v hv) Mj ?_;refine Wp.seq ?_;refine vR (N9 p h2 v hv) Mj ?_;refine wC Mj (λhc=>?_) (λhc=>?_)
 ·exact absurd hc sI
 refine wK ?_;refine vR (N9 p h2 v hv) Mj ?_;refine wZ Mj ?_;exact λE=>rfl
def Rz(p:ByteArray)(h2:p.size<=2)(v:Nat)(hv:ki p=some (v:Int)):bu prog 141 where
 pre:=λW bs as_=>as_=[.val (.string p),.val (.int .i64 16),.val (.int .i64 8)]
 res:=λ_ _=>.tuple #[.int .u64 (v:Nat),.nilIface]
 enters:=call141
 ok:=by
  intro W w bs us as_ hk hu hp;subst hp
  match us,hu with
  |[x,y,z],hu=>
   obtain⟨rfl,rfl,rfl,_⟩:=hu;exact Mv p h2 v hv w
def PG:ByteArray:=⟨#[80,97,114,115,101,85,105,110,116]⟩
theorem Gh(p:ByteArray)(h2:p.size<=2)(hn:ki p=none)(ev:Value)(w:World)(hv:w.cell? ⟨5,0,none⟩=some ev)(hev:ev=.nilIface\/∃ te pe,ev=.iface te pe) :
  Calls prog 141 #[.string p,.int .i64 16,.int .i64 8] w λe w' => ∃ N,e=.returned (.tuple #[.int .u64 0,.iface 341 (.pointer (some ⟨N,0,none⟩))])/\w.heap.size<=N/\w'.heap[N]?=some (.cells #[.string PG,.string p,ev] 359 (0,0))/\Below w.heap.size w w' := by
 have hG:5<w.heap.size:=Lib.lt_of_cell hv;have hm:(if p.size=0 then none else iY 0 p.data.toList)=none:=by
  by_cases h0:p.size=0
  ·rw[if_pos h0]
  ·rw[if_neg h0];rw[SM p h0 h2]at hn;cases h:iY 0 p.data.toList with
   |none=>rfl
   |some v=>rw[h]at hn;cases hn
 have hI:=Ev p h2 w;rw[hm]at hI;have hI:Calls prog 192 #[.string p,.int .i64 16,.int .i64 8] w λe w' => e=.returned (.tuple #[.int .u64 0,.iface 339 (.int .i64 2)])/\Below w.heap.size w w' := hI
 clear hm
 go_enter func141,Tryz.ntmps141
 go_wp2_with (go_at_call 192;refine hI.mono ?_)
 rintro e W1 ⟨rfl,hb1⟩;have hv1:W1.cell? ⟨5,0,none⟩=some ev:=(hb1.cell (show (⟨5,0,none⟩:Addr).block<w.heap.size from hG)).trans hv
 go_wp2_with (go_at_call 193;refine (Any.strconv_toError_syntax Tryz.Pj ⟨#[80,97,114,115,101,85,105,110,116]⟩ p 16 8 ev _ oM ?_ hev).mono ?_)
 ·exact hv1
 rintro e W2 ⟨N,rfl,g1,g2,g3⟩
 go_wp2
 go_ret2
 exact⟨N,rfl,Nat.le_trans hb1.size g1,g2,hb1.trans (g3.mono hb1.size)⟩
def Ge(p:ByteArray)(h2:p.size<=2)(hn:ki p=none)(ev:Value):qu prog 141 where
 args:=[.v (.string p),.v (.int .i64 16),.v (.int .i64 8)]
 L:=[]
 val:=.tup [.v (.int .u64 0),.ifc 341 (.own 8 0)]
 L' := [(8,.cells 359 [.v (.string PG),.v (.string p),.v ev])]
 dC:=[]
 pre:=λW bs=>(5∉bs/\W.cell? ⟨5,0,none⟩=some ev)/\∃ t v,ev=.iface t v
 low:=by simp
 kept:=by simp
 vk:=by simp[SV.keys,al,fresh]
 lk:=by simp[aI.keys,SV.keys,al,fresh]
 nd:=by simp
 enters:=call141
 ok:=by
  intro W w bs fp E F hk hm hs hp;obtain⟨⟨h5,hc⟩,t,v,rfl⟩:=hp;have hc' : w.cell? ⟨5,0,none⟩=some (.iface t v):=by
   have:=hk.cell h5 (by rw[hc];rfl);rw[this,hc];rfl
  refine (Gh p h2 hn (.iface t v) w hc' (.inr ⟨t,v,rfl⟩)).mono ?_;rintro e w' ⟨N,rfl,g1,g2,g3⟩;have hN:N<w'.heap.size:=by
   refine Decidable.byContradiction λh=>?_
   rw[Array.getElem?_eq_none oM]at g2;cases g2
  refine⟨λ_=>.pointer (some ⟨N,0,none⟩),λ_=>[N],rfl,sI,?_,?_,?_,?_,(LE.af.jE g3).mono sI⟩
  ·intro k e he;have:=bK he;simp only[List.mem_singleton,Prod.mk.injEq]at this;obtain⟨rfl,rfl⟩:=this;exact⟨N,rfl,rfl,g2⟩
  ·intro k e he b hb;rw[List.mem_singleton.1 hb];exact hN
  ·intro k e he b hb;rw[List.mem_singleton.1 hb];exact .inl g1
  ·intro k k' e e' hne he he';have h1:=bK he;have h2:=bK he';simp only[List.mem_singleton,Prod.mk.injEq]at h1 h2;exact absurd (h1.1.trans h2.1.symm) hne
def N1(s:ByteArray)(r:Rd):List AV:=[.row 9 1 r.ty.length (aS r.ty),.row 9 1 r.tx.length (aS r.tx),.row 50 4 r.co.length (cM r.co),.val (.int .i64 r.src),.val (.int .i64 r.vw),.val (.string s),.val (.int .i64 (r.pl:Nat))]
theorem YW(s:ByteArray)(c:Int)(w:World):Calls prog 138 #[.string s,.int .u8 c] w λe w' => e=.returned (.int .i64 (Lib.indexByte s.data.toList c.toNat.toUInt8))/\LE.af w [] w' :=
 (Any.strings_IndexByte Tryz.Xc s c w).mono λe w' ⟨he,hw⟩=>⟨he,by rw[hw];exact LE.af.refl w []⟩
def Wi:bu prog 138 where
 pre:=λW bs=>λ| [.val (.string s),.val (.int .u8 c)]=>True|_=>False
 res:=λW=>λ| [.val (.string s),.val (.int .u8 c)]=>.int .i64 (Lib.indexByte s.data.toList c.toNat.toUInt8)|_=>undef
 enters:=call138
 ok:=by
  intro W w bs us as_ hk hu hp;split at hp
  ·rename_i s c
   match us,hu with
   |[u0,u1],hu=>
    obtain⟨rfl,rfl,_⟩:=hu;exact YW s c w
  ·exact hp.elim
theorem Tf(W:World)(s:ByteArray)(c:Int):Wi.res W [.val (.string s),.val (.int .u8 c)]=.int .i64 (Lib.indexByte s.data.toList c.toNat.toUInt8):=rfl
theorem QS(W:World)(bs:List Nat)(s:ByteArray)(c:Int):Wi.pre W bs [.val (.string s),.val (.int .u8 c)]=(True):=rfl
theorem EW(s:ByteArray):∀ (n i:Nat),i+n=s.size->Lib.indexByte (s.data.toList.drop i) 10=if oe s n i<s.size then ((oe s n i-i:Nat):Int) else -1
 |0,i,h=>by
  have hd:s.data.toList.drop i=[]:=List.drop_eq_nil_of_le (by rw[<- Lib.size_eq];omega);rw[hd,oe,if_neg oM];rfl
 | n+1,i,h=>by
  have hlt:i<s.data.toList.length:=by rw[<- Lib.size_eq];omega
  have hb:=de s hlt;have ih:=EW s n (i+1) oM;have hg:=(uw s n (i+1)).1;rw[List.drop_eq_getElem_cons hlt,Lib.indexByte,oe];by_cases h10:bt s (i:Nat)=10
  ·have hc:s.data.toList[i]=10:=UInt8.toNat_inj.1 (by have:(10:UInt8).toNat=10:=rfl;omega);rw[if_pos h10,if_pos (by simp[hc]),if_pos oM];simp
  ·have hc:¬ s.data.toList[i]=10:=λe=>h10 (by rw[hb,e];rfl)
   rw[if_neg h10,if_neg (by simpa using hc),ih];by_cases he:oe s n (i+1)<s.size
   ·rw[if_pos he,if_pos he,if_neg (by simp<;>omega)];omega
   ·rw[if_neg he,if_neg he];rfl
theorem Wn{s:ByteArray}{i:Nat}(hi:i<=s.size):Lib.indexByte (s.extract i s.size).data.toList 10=if bh s i<s.size then ((bh s i-i:Nat):Int) else -1:=by
 have h:=EW s (s.size-i) i oM;have e:(s.extract i s.size).data.toList=s.data.toList.drop i:=by
  rw[bE,List.take_of_length_le (by rw[List.length_drop,<- Lib.size_eq];omega)]
 rw[e,h];rfl
def jV(s:ByteArray)(i:Nat):Value:=if bh s i<s.size then .tuple #[.string (cv s i),.bool true] else .tuple #[.string ⟨#[]⟩,.bool false]
theorem KC{w:World}{u:Value}{fp:List Nat}{s:ByteArray}{r:Rd}(h:bJ w u fp 112 (N1 s r)) :
  ∃ b,u=.pointer (some ⟨b,0,none⟩)/\w.cell? ⟨b,5,none⟩=some (.string s)/\w.cell? ⟨b,6,none⟩=some (.int .i64 (r.pl:Nat)):=by
 obtain⟨b,us,h1,h2,h3⟩:=yH h
 match us,h2 with
 |[x0,x1,x2,x3,x4,x5,x6],h2=>
  obtain⟨_,_,_,_,_,rfl,rfl,_⟩:=h2;exact⟨b,h1,h3 5 sI,h3 6 sI⟩
noncomputable def Dh:Env prog:=⟨λ| 138=>some Wi.spec|_=>none,λ| _=>none,λ_ _=>none⟩
theorem Oa:Dh.sp 138=some Wi.spec:=rfl
def vl:=(ak @List.replicate_succ.{0} @List.replicate_zero.{0} @aq @ae lP lM lA (ak dI dK dJ dG dr dt du (ak dq mJ mh mG mT mf fq (ak fu ft fh ff fm nq mw (ak mL my ma ml mg nw nv (ak mb mS mW @a6 @aw @aD @aE (dx Tf QS Oa)))))))
theorem Gz(s:ByteArray)(i b:Nat)(w:World)(hi:i<=s.size)(hs:s.size<=16777216)(g1:w.cell? ⟨b,5,none⟩=some (.string s))(g2:w.cell? ⟨b,6,none⟩=some (.int .i64 (i:Nat))) :
  Calls prog 79 #[.pointer (some ⟨b,0,none⟩)] w λe w' => e=.returned (jV s i)/\af w [] w' := by
 have hx:Lib.indexByte (s.extract i s.size).data.toList (Nat.toUInt8 10)=_:=Wn hi;have hle:=im hi;refine av (nt:=32) [.tmp 2,.tmp 3] func79 rfl rfl rfl ?_;refine vR Dh vl ?_;by_cases he:bh s i<s.size
 ·have e:jV s i=.tuple #[.string (s.extract i (bh s i)),.bool true]:=by rw[jV,if_pos he];rfl
  rw[if_pos he]at hx;have ha:IntKind.i64.wrap ((i:Int)+((bh s i-i:Nat):Int))=((bh s i:Nat):Int):=wW;rw[e];generalize bh s i=j at *;refine JM Dh (iS vl g1 g2 hx) ?_;refine Wp.seq ?_;refine vR Dh vl ?_;refine wC vl (λhc=>?_) (λhc=>?_)
  ·exact absurd hc sI
  refine wK ?_;refine JM Dh (iS vl g1 g2 ha) ?_;refine wZ vl ?_;exact λE=>rfl
 ·have e:jV s i=.tuple #[.string ⟨#[]⟩,.bool false]:=by rw[jV,if_neg he]
  rw[if_neg he]at hx;rw[e];refine JM Dh (iS vl g1 g2 hx) ?_;refine Wp.seq ?_;refine vR Dh vl ?_;refine wC vl (λhc=>?_) (λhc=>?_)
  ·skip;refine vR Dh vl ?_;refine wZ vl ?_;exact λE=>rfl
  ·exact absurd hc sI
def lL(s:ByteArray)(r:Rd):zg prog 79 where
 T:=112
 pre:=λW bs fs as_=>fs=N1 s r/\as_=[]/\r.pl<=s.size/\s.size<=16777216
 res:=λW fs as_=>jV s r.pl
 enters:=call79
 ok:=by
  intro W w bs u fp us fs as_ hk ho hu hp;obtain⟨rfl,rfl,h1,h2⟩:=hp
  match us,hu with
  |[],_=>
   obtain⟨b,rfl,g1,g2⟩:=KC ho;exact Gz s r.pl b w h1 h2 g1 g2
def ed(W:World)(S:Nat->Prop):Prop:=(c8 W S/\aV W S)/\da W S/\eZ W S
theorem ed.mono{W W' : World}{S S' : Nat->Prop}(h:ed W S)(hs:bV W S W' S'):ed W' S' := ⟨⟨h.1.1.mono hs,h.1.2.mono hs⟩,h.2.1.mono hs,h.2.2.mono hs⟩
theorem ed.cP{W w:World}{bs fp:List Nat}(h:ed W (Out bs))(hk:LE.af W bs w)(hm:∀ b∈fp,W.heap.size<=b\/b∈bs):ed w (Out fp):=
 h.mono λb hb hs=>⟨hk.block b hb hs,λhb' => (hm b hb').elim (λg=>absurd g (Nat.not_le.2 hb)) hs⟩
def Iv(s:ByteArray)(r:Rd):Prop:=(r.ty.length<=r.pl/\r.tx.length<=r.pl/\r.co.length<=r.pl)/\r.pl<=s.size/\s.size<=16000000
def TW(g:FuncId)(tk:G9):Prop:=∀ (s:ByteArray) (r:Rd) (l:ByteArray) (u:Value) (fp:List Nat) (w:World),Iv s r->l.size<=16000000->ed w (Out fp)->bJ w u fp 112 (N1 s r)->(∀ b∈fp,b<w.heap.size) ->
 Calls prog g (#[u]++#[.string l]) w λe w' => iQ w u fp 112 e w' (.ret (.bool (tk r l).1) (N1 s (tk r l).2))
theorem B5(s p:ByteArray):(cY s p).size<=s.size:=by
 rw[Lib.size_eq,Lib.size_eq s];unfold cY Lib.trimPrefix;split
 ·show (s.data.toList.drop _).length<=_;rw[List.length_drop];omega
 ·exact Nat.le_refl _
theorem Jy(s p:ByteArray):(nA s p).size<=s.size:=by
 rw[Lib.size_eq,Lib.size_eq s];unfold nA Lib.trimSuffix;split
 ·show (s.data.toList.take _).length<=_;rw[List.length_take];omega
 ·exact Nat.le_refl _
noncomputable def mB:Env prog:=⟨λ| 33=>some nx.spec|80=>some zK.spec|81=>some IY.spec|_=>none,λ| _=>none,λ_ _=>none⟩
theorem Xm:mB.sp 33=some nx.spec:=rfl
theorem W7:mB.sp 80=some zK.spec:=rfl
theorem Uw:mB.sp 81=some IY.spec:=rfl
def rp:=(ak @List.replicate_succ.{0} @List.replicate_zero.{0} @aq @ae lP lM QW (ak Py OU lA dI dK dJ dG (ak dr dt du dq fq fu ft (ak fh ff fm wA xW vm vT (ak s6 tN sZ tu tp tO tj (ak tM s3 vA vZ TF Qa nq (ak mw mL my ma ml mg nw (ak nv mb mS mW @a6 @aw @aD (ak @aE @N1.eq_1 Xm W7 Uw @uK @wY (iS @zC @zM @LR @MS))))))))))
theorem IS:TW 50 dH:=by
 intro s r l u fp w hr hl ha ho hlt;obtain⟨⟨n1,n2,n3⟩,n4,n5⟩:=hr;have hc1:=B5 l bC;have hc2:=Jy (cY l bC) ur;have hT:(⟨#[116,121,112,101,32,47]⟩:ByteArray)=bC:=rfl;have hS:(⟨#[47]⟩:ByteArray)=ur:=rfl;refine bx (nt:=41) #[.string l] [.tmp 4] (by show 7<=7;omega) ho hlt func50 rfl rfl rfl ?_
 refine vR mB rp ?_;refine vR mB (aa rp hT) ?_;refine wR mB (aa rp hS) ?_ ?_
 ·omega
 refine Wp.seq ?_;refine wR mB rp ?_ ?_
 ·intro h;exact⟨oM,ha.1.2⟩
 refine wC rp (λhc=>?_) (λhc=>?_)
 ·have h:xV l=false:=by
   unfold xV;revert hc;generalize l7 l bC=a;generalize wL (cY l bC) ur=b;generalize sq (nA (cY l bC) ur)=c;cases a<;>cases b<;>cases c<;>simp
  have e:dH r l=(false,r):=by unfold dH;rw[if_neg (by simp[h])]
  rw[e];refine vR mB rp ?_;refine wZ rp ?_;exact⟨_,_,rfl,λE=>rfl,_,_,rfl,(ev (aa rp @aX)),dE⟩
 ·have h:xV l=true:=by
   unfold xV;revert hc;generalize l7 l bC=a;generalize wL (cY l bC) ur=b;generalize sq (nA (cY l bC) ur)=c;cases a<;>cases b<;>cases c<;>simp
  have e:dH r l=(true,{ r with ty:=r.ty++[nA (cY l bC) ur] }):=by unfold dH;rw[if_pos h]
  have e1:=zB r.ty (nA (cY l bC) ur);have e2:(r.ty++[nA (cY l bC) ur]).length=r.ty.length+1:=by rw[List.length_append];rfl
  rw[e];refine wK ?_;refine wR mB (aa rp e1) ?_ ?_
  ·exact⟨by unfold maxLen;omega,oM⟩
  refine vR mB rp ?_;refine wZ rp ?_;exact⟨_,_,rfl,λE=>rfl,_,_,rfl,(ev (dx rp @aX e2)),dE⟩
def Z8(s:ByteArray)(hs:s.size<4294967281):Jl prog 83 where
 pre:=λW bs as_=>as_=[.val (.string s),.val (.string ⟨#[32]⟩)]/\eZ W (Out bs)
 T:=9
 s:=1
 n:=λ_ _=>(fU s).length
 vs:=λ_ _=>aS (fU s)
 tm:=λ_ _ x=>x
 g:=λ_ _ v=>v
 tmg:=λ_ _ _ _=>rfl
 tmk:=λ_ _ _ _ h=>h
 enters:=call83
 ok:=by
  intro W w bs us as_ hk hu hp;obtain⟨rfl,hp⟩:=hp
  match us,hu with
  |[x,y],hu=>
   obtain⟨rfl,rfl,_⟩:=hu;exact Nn s hs w (hp.cP hk sI)
noncomputable def Qt(s:ByteArray)(hs:s.size<4294967281):Env prog:=⟨λ| 83=>some (Z8 s hs).spec|84=>some zT.spec|_=>none,λ_=>none,λ_ _=>none⟩
theorem UT(s:ByteArray)(hs:s.size<4294967281):(Qt s hs).sp 83=some (Z8 s hs).spec:=rfl
theorem UG(s:ByteArray)(hs:s.size<4294967281):(Qt s hs).sp 84=some zT.spec:=rfl
theorem Di(s:ByteArray):∀ x∈fU s,x.size<=s.size:=by
 have key:∀ (k:Nat) (s:ByteArray),∀ x∈Lib.splitB ⟨#[32]⟩ 0 k s,x.size<=s.size:=by
  intro k
  induction k with
  |zero=>
   intro s x hx;rw[Lib.splitB_zero]at hx;rw[List.mem_singleton.1 hx];exact Nat.le_refl _
  | succ k ih=>
   intro s x hx;rcases Lib.indexB_cases s ⟨#[32]⟩ with hm|⟨i,hi,hle⟩
   ·rw[Lib.splitB_miss _ _ _ s hm]at hx;rw[List.mem_singleton.1 hx];exact Nat.le_refl _
   ·rw[Lib.splitB_hit _ _ _ s i hi]at hx;rcases List.mem_cons.1 hx with rfl|hx
    ·rw[ByteArray.size_extract];omega
    ·have:=ih _ x hx;rw[ByteArray.size_extract]at this;omega
 exact key _ s
def l6:=(oR rp @UT @UG @Z8.eq_1 @zt @zV)
theorem I2:TW 53 ew:=by
 intro s r l u fp w hr hl ha ho hlt;have hs4:l.size<4294967281:=oM;have hM:(⟨#[109,97,105,110]⟩:ByteArray)=kY:=rfl;refine bx (nt:=45) #[.string l] [.tmp 4] (by show 7<=7;omega) ho hlt func53 rfl rfl rfl ?_;refine vR mB l6 ?_;refine wR (Qt l hs4) l6 ?_ ?_
 ·exact ha.2.2
 refine Wp.seq ?_;have hsz:=Di l;by_cases h3:(fU l).length=3
 ·obtain⟨a,b,c,hs⟩:∃ a b c,fU l=[a,b,c]:=by
   match hs:fU l,h3 with
   |[a,b,c],_=>exact⟨a,b,c,rfl⟩
  have e0:ew r l=if a=kY then (fY b&&fY c,{ r with src:=o4 b,vw:=o4 c }) else (false,r):=by unfold ew;rw[hs]
  rw[hs]at hsz;have zb:=hsz b sI;have zc:=hsz c sI;rw[e0];refine wR mB (iS l6 hs @aS.eq_1 hM) ?_ ?_
  ·exact⟨⟨_,rfl⟩,λ_=>by simp⟩
  refine wC l6 (λhc=>?_) (λhc=>?_)
  ·have h:¬ a=kY:=by simpa using hc
   rw[if_neg h];refine vR mB l6 ?_;refine wZ l6 ?_;exact⟨_,_,rfl,λE=>rfl,_,_,rfl,(ev (aa l6 @aX)),dE⟩
  ·have h:a=kY:=by simpa using hc
   rw[if_pos h];refine wK ?_;refine vR mB l6 ?_;refine wR (Qt l hs4) (dx l6 hs @aS.eq_1) ?_ ?_
   ·exact⟨by first|trivial|omega|exact⟨_,rfl⟩|simp,oM,ha.2⟩
   refine wR (Qt l hs4) (dx l6 hs @aS.eq_1) ?_ ?_
   ·exact⟨by first|trivial|omega|exact⟨_,rfl⟩|simp,oM,ha.2⟩
   refine vR mB l6 ?_;refine wZ l6 ?_;exact⟨_,_,rfl,λE=>rfl,_,_,rfl,(ev (aa l6 @aX)),dE⟩
 ·have e0:ew r l=(false,r):=by
   unfold ew;split
   ·rename_i a b c h;rw[h]at h3;exact absurd rfl h3
   ·rfl
  obtain⟨a,f,hs⟩:∃ a f,fU l=a::f:=by
   have:=mZ l;cases h:fU l with
   |nil=>rw[h]at this;simp at this
   |cons a f=>exact⟨a,f,rfl⟩
  rw[hs,List.length_cons]at h3;have h3' : decide (((f.length+1:Nat):Int)=3)=false:=by simp;omega
  rw[e0];refine wR mB (iS l6 hs @aS.eq_1 h3') ?_ ?_
  ·exact⟨⟨_,rfl⟩,(λh=>by cases h),λh=>by cases h⟩
  refine wC l6 (λhc=>?_) (λhc=>?_)
  ·skip;refine vR mB l6 ?_;refine wZ l6 ?_;exact⟨_,_,rfl,λE=>rfl,_,_,rfl,(ev (aa l6 @aX)),dE⟩
  ·exact absurd hc sI
def qN(s:ByteArray)(i:Nat):Int×Nat:=
 if bt s (i:Nat)=92/\i+1<s.size then
  if bt s ((i+1:Nat):Int)=110 then (10,i+1)
  else if bt s ((i+1:Nat):Int)=114 then (13,i+1)
  else if bt s ((i+1:Nat):Int)=116 then (9,i+1)
  else if bt s ((i+1:Nat):Int)=120 then ((ki (s.extract (i+2) (min (i+4) s.size))).getD 0,i+3)
  else (bt s ((i+1:Nat):Int),i+1)
 else (bt s (i:Nat),i)
def uqX(s:ByteArray)(i:Nat):Prop:=(bt s (i:Nat)=92/\i+1<s.size)/\bt s ((i+1:Nat):Int)=120/\ki (s.extract (i+2) (min (i+4) s.size))=none
theorem QZ{s:ByteArray}{n i:Nat}{o:ByteArray}(hi:i<s.size)(hx:¬ uqX s i):tX s (n+1) i o=tX s n ((qN s i).2+1) (o++b6 [(qN s i).1]):=by
 rw[tX,if_pos hi,qN];by_cases h:bt s (i:Nat)=92/\i+1<s.size
 ·rw [if_pos h,if_pos h];by_cases h1:bt s ((i+1:Nat):Int)=110
  ·rw[if_pos h1,if_pos h1]
  ·rw[if_neg h1,if_neg h1];by_cases h2:bt s ((i+1:Nat):Int)=114
   ·rw[if_pos h2,if_pos h2]
   ·rw[if_neg h2,if_neg h2];by_cases h3:bt s ((i+1:Nat):Int)=116
    ·rw[if_pos h3,if_pos h3]
    ·rw[if_neg h3,if_neg h3];by_cases h4:bt s ((i+1:Nat):Int)=120
     ·rw[if_pos h4,if_pos h4];cases hn:ki (s.extract (i+2) (min (i+4) s.size)) with
      |none=>exact absurd ⟨h,h4,hn⟩ hx
      |some v=>rfl
     ·rw[if_neg h4,if_neg h4]
 ·rw[if_neg h,if_neg h]
theorem XM{s:ByteArray}{n i:Nat}{o:ByteArray}(hi:i<s.size)(hx:uqX s i):tX s (n+1) i o=none:=by
 obtain⟨h,h4,hn⟩:=hx;rw[tX,if_pos hi,if_pos h,if_neg oM,if_neg oM,if_neg oM,if_pos h4,hn]
theorem Ko{c a:Int}(h:BD c=some a):0<=a/\a<16:=by
 unfold BD at h
 repeat' split at h
 all_goals first|(cases h;omega)|cases h
theorem I5{p:ByteArray}{a:Int}(h:ki p=some a):0<=a/\a<256:=by
 unfold ki at h;split at h
 ·cases h
 ·split at h
  ·cases h
  ·rename_i x hx;have h1:=Ko hx;split at h
   ·cases h;omega
   ·split at h
    ·cases h
    ·rename_i y hy;have h2:=Ko hy;cases h;omega
theorem abK(s:ByteArray)(i:Nat):(0<=(qN s i).1/\(qN s i).1<256)/\i<=(qN s i).2/\(qN s i).2<=i+3:=by
 have h0:=pQ s i;have h1:=pQ s ((i+1:Nat):Int);unfold qN
 repeat' split
 all_goals simp only
 all_goals try omega
 cases hn:ki (s.extract (i+2) (min (i+4) s.size)) with
 |none=>simp only[Option.getD_none];omega
 |some v=>
  have:=I5 hn;simp only[Option.getD_some];omega
def uj:bu prog 38 where
 pre:=λW bs as_=>∃ s,as_=[.val (.string s)]/\s.size<=16777216
 res:=λ_ as_=>match as_ with
  |[.val (.string s)]=>.string (cE s)
  |_=>undef
 enters:=call38
 ok:=by
  intro W w bs us as_ hk hu hp;obtain⟨s,rfl,h1⟩:=hp
  match us,hu with
  |[x],hu=>
   obtain⟨rfl,_⟩:=hu;exact zY s h1 w
theorem Cz(W:World)(bs:List Nat)(s:ByteArray):uj.pre W bs [.val (.string s)]=(s.size<=16777216):=
 propext ⟨λ⟨s',h,h2⟩=>by
  cases h
  exact h2,λh=>⟨s,rfl,h⟩⟩
theorem EC(W:World)(s:ByteArray):uj.res W [.val (.string s)]=.string (cE s):=rfl
noncomputable def et:Env prog:=⟨λ| 38=>some uj.spec|_=>none,λ| _=>none,λ_ _=>none⟩
theorem Xv:et.sp 38=some uj.spec:=rfl
section
variable (p:ByteArray)(h2:p.size<=2)(v:Nat)(hv:ki p=some (v:Int))(hn:ki p=none)(ev:Value)
noncomputable def acB:Env prog:=⟨λ| 141=>some (Rz p h2 v hv).spec|_=>none,λ_=>none,λ_ _=>none⟩
theorem Qp:(acB p h2 v hv).sp 141=some (Rz p h2 v hv).spec:=rfl
noncomputable def acV:Env prog:=⟨λ| 141=>some ((Ge p h2 hn ev).spec [])|_=>none,λ_=>none,λ_ _=>none⟩
theorem Qv:(acV p h2 hn ev).sp 141=some ((Ge p h2 hn ev).spec []):=rfl
end
def bL:=(ak @List.replicate_succ.{0} @List.replicate_zero.{0} @aq @ae QW Py OU (ak lA dI dK dJ dG dr dt (ak du dq mJ mh mG mT mf (ak fq fu ft fh ff fm PC (ak Ry Ty SD Oo PD RH Q2 (ak ov oQ oN oP Ri TR @a6 (ak @aw @aD @aE @pT @u7 @zu @qh (ak Xv @Qp @Qv @Rz.eq_1 @Ge.eq_1 @Cz @EC (ak @sT.eq_1 @fz.eq_1 @fz.eq_2 @fg.eq_1 @fg.eq_2 @fg.eq_3 @fg.eq_4 (ak @fg.eq_5 @fg.eq_6 @fg.eq_7 @fg.eq_8 @jT.eq_1 @jT.eq_2 @ep.eq_1 (ak @ep.eq_2 @fZ.eq_1 @fZ.eq_2 @fP.eq_1 @fP.eq_2 @fP.eq_3 @pF.eq_1 (aa @mp.eq_1 @gf))))))))))))
theorem UY(q:ByteArray)(hq:q.size<=16000000)(w:World)(hl:eZ w (Out [])):Calls prog 82 #[.string q] w λe w' => e=.returned (.tuple #[.string (fE q).1,.bool (fE q).2])/\af w [] w' := by
 obtain⟨_,⟨_,t5,v5,h5⟩,_⟩:=hl;have wq:IntKind.i64.wrap ((q.size:Int)-1)=(q.size:Int)-1:=aH oM oM;refine av (nt:=93) [.tmp 2,.tmp 3] func82 rfl rfl rfl ?_;refine vR et bL ?_;refine Wp.seq ?_;refine wR et (aa bL wq) ?_ ?_
 ·refine⟨λh=>?_,λh=>?_⟩
  ·simp at h;omega
  ·simp at h;omega
 refine wC bL (λhc=>?_) (λhc=>?_)
 ·have h:Wz q=false:=by
   unfold Wz;simp only[Bool.or_eq_true,Bool.not_eq_true',decide_eq_true_eq,decide_eq_false_iff_not]at hc;simp only[Bool.and_eq_false_iff,decide_eq_false_iff_not];rcases hc with (hc|hc)|hc
   ·exact .inl (.inl oM)
   ·exact .inl (.inr hc)
   ·exact .inr hc
  have e:fE q=(⟨#[]⟩,false):=by unfold fE;rw[if_neg (by simp[h])]
  rw[e];refine vR et bL ?_;refine wZ bL ?_;exact λE=>rfl
 have h:Wz q=true:=by
  unfold Wz;simp only[Bool.or_eq_false_iff,Bool.not_eq_false',decide_eq_false_iff_not,decide_eq_true_eq]at hc;simp only[Bool.and_eq_true,decide_eq_true_eq];exact⟨⟨oM,hc.1.2⟩,hc.2⟩
 have h2q:2<=q.size:=by
  unfold Wz at h;simp only[Bool.and_eq_true,decide_eq_true_eq]at h;exact h.1.1
 have hin:(pO q).size=q.size-2:=by unfold pO;rw[eH _ _ _ oM];omega
 have eq0:fE q=match tX (pO q) (pO q).size 0 ⟨#[]⟩ with
  |none=>(⟨#[]⟩,false)
  |some o=>(o,decide (cE o=q)):=by
  unfold fE;rw[if_pos h]
  all_goals cases tX (pO q) (pO q).size 0 ⟨#[]⟩<;>rfl
 have hex:q.extract 1 ((q.size:Int)-1).toNat=pO q:=by unfold pO;congr 1;omega
 generalize hS:pO q=s at *;refine wK ?_;refine vR et bL ?_;refine wR et (dx bL wq hex) ?_ ?_
 ·omega
 refine Wp.seq ?_;refine vR et bL ?_;refine Wp.block ?_
 refine Wp.loop (λp:Nat×Nat×ByteArray=>⟨20,cL [(0,.is (.v (.string q))),(4,.is (.hd 19)),(5,.is (.v (.string s))),(6,.is (.v (.int .i64 (p.2.1:Nat))))],cf [(19,.row 5 1 p.2.2.size ((byteCells p.2.2).map .v))]⟩) (λp=>p.2.1<=s.size+3/\p.2.2.size<=p.2.1/\s.size<=p.2.1+p.1/\tX s p.1 p.2.1 p.2.2=tX s s.size 0 ⟨#[]⟩) (λp=>p.1) (s.size,0,⟨#[]⟩) ?_ ⟨Nat.zero_le _,Nat.le_refl _,by show s.size<=0+s.size;omega,rfl⟩ ?_
 ·exact wM (λk=>if k=19 then .nil else .key k) (dx bL (show (⟨#[]⟩:ByteArray).size=0 from rfl) (show byteCells ⟨#[]⟩=[] from rfl))
 rintro⟨n,i,o⟩ ⟨g1,g2,g3,g4⟩;dsimp only at g1 g2 g3 g4 ⊢;refine Wp.seq ?_;refine vR et bL ?_;refine wC bL (λhc=>?_) (λhc=>?_)
 ·have hlt:i<s.size:=by
   simp at hc;omega
  obtain⟨n,rfl⟩:∃ n',n=n' + 1:=⟨n-1,oM⟩;obtain⟨⟨c0,c1⟩,c2,c3⟩:=abK s i;have wi:IntKind.i64.wrap ((i:Int)+1)=((i+1:Nat):Int):=wW;have ha:=rf o [(qN s i).1] (λc hc=>by rw[List.mem_singleton.1 hc];exact⟨c0,c1⟩);have hz:(o++b6 [(qN s i).1]).size=o.size+1:=by rw[ByteArray.size_append,b8];rfl
  simp only[List.map_cons,List.map_nil]at ha;have wi2:IntKind.i64.wrap (((i+1:Nat):Int)+1)=((i+2:Nat):Int):=wW;have wi3:IntKind.i64.wrap (((i+1:Nat):Int)+2)=((i+3:Nat):Int):=wW;have wi4:IntKind.i64.wrap (((i+1:Nat):Int)+3)=((i+4:Nat):Int):=wW
  have hmin:(if ((s.size:Nat):Int)<((i+4:Nat):Int) then ((s.size:Nat):Int) else ((i+4:Nat):Int))=((min (i+4) s.size:Nat):Int):=by split<;>omega
  refine wK ?_;refine Wp.seq (Wp.block ?_);refine wR et bL ?_ ?_
  ·omega
  by_cases hx:uqX s i
  ·have hbad:=XM (n:=n) (o:=o) hlt hx;rw[g4]at hbad;rw[hbad]at eq0;rw[eq0];obtain⟨hb,h120,hn⟩:=hx;have hp2:(s.extract (i+2) (min (i+4) s.size)).size<=2:=by rw[eH _ _ _ oM];omega
   refine Wp.seq ?_;refine vR et (aa bL wi) ?_;refine wC bL (λhc=>?_) (λhc=>?_)
   ·skip;refine vR et (aa bL wi) ?_;refine wR et bL ?_ ?_
    ·omega
    refine vR et bL ?_;refine Wp.block ?_;refine vR et bL ?_;refine wC bL (λhc=>?_) (λhc=>?_)
    ·exfalso;have:bt s ((i+1:Nat):Int)=110:=by simpa using hc
     omega
    clear hc;refine vR et bL ?_;refine wC bL (λhc=>?_) (λhc=>?_)
    ·exfalso;have:bt s ((i+1:Nat):Int)=114:=by simpa using hc
     omega
    clear hc;refine vR et bL ?_;refine wC bL (λhc=>?_) (λhc=>?_)
    ·exfalso;have:bt s ((i+1:Nat):Int)=116:=by simpa using hc
     omega
    clear hc;refine vR et bL ?_;refine wC bL (λhc=>?_) (λhc=>?_)
    ·skip;refine wR (acV (s.extract (i+2) (min (i+4) s.size)) hp2 hn (.iface t5 v5)) (iS bL wi2 wi4 hmin) ?_ ?_
     ·refine⟨⟨oM,oM,oM⟩,?_⟩;simp[h5]
     refine Wp.seq ?_;refine vR et bL ?_;refine wC bL (λhc=>?_) (λhc=>?_)
     ·skip;refine vR et bL ?_;refine wZ bL ?_;exact λE=>rfl
     ·exact absurd hc sI
    ·exfalso;have:¬ bt s ((i+1:Nat):Int)=120:=by simpa using hc
     omega
   ·exfalso;simp only[Bool.and_eq_false_iff,decide_eq_false_iff_not]at hc;rcases hc with hc|hc
    ·exact hc hb.1
    ·have:=hb.2;omega
  have hst:=QZ (n:=n) (o:=o) hlt hx;rw[g4]at hst;have wj:IntKind.i64.wrap (((qN s i).2:Int)+1)=(((qN s i).2+1:Nat):Int):=wW
  refine dB ⟨60,cL [(0,.is (.v (.string q))),(4,.is (.hd 19)),(5,.is (.v (.string s))),(6,.is (.v (.int .i64 ((qN s i).2:Nat)))),(7,.is (.v (.int .u8 (qN s i).1)))],cf [(19,.row 5 1 o.size ((byteCells o).map .v))]⟩ ?_ ?_
  ·skip;refine vR et (aa bL wi) ?_;refine wC bL (λhc=>?_) (λhc=>?_)
   ·have hb:bt s (i:Nat)=92/\i+1<s.size:=by
     simp only[Bool.and_eq_true,decide_eq_true_eq]at hc;omega
    clear hc;refine vR et (aa bL wi) ?_;refine wR et bL ?_ ?_
    ·omega
    refine vR et bL ?_;refine Wp.block ?_;refine vR et bL ?_;refine wC bL (λhc=>?_) (λhc=>?_)
    ·have h1:bt s ((i+1:Nat):Int)=110:=by simpa using hc
     have e:qN s i=(10,i+1):=by rw[qN,if_pos hb,if_pos h1]
     rw[e];refine vr et bL ?_;exact wM (λk=>.key k) bL
    have h1:¬ bt s ((i+1:Nat):Int)=110:=by simpa using hc
    clear hc;refine vR et bL ?_;refine wC bL (λhc=>?_) (λhc=>?_)
    ·have h2:bt s ((i+1:Nat):Int)=114:=by simpa using hc
     have e:qN s i=(13,i+1):=by rw[qN,if_pos hb,if_neg h1,if_pos h2]
     rw[e];refine vr et bL ?_;exact wM (λk=>.key k) bL
    have h2:¬ bt s ((i+1:Nat):Int)=114:=by simpa using hc
    clear hc;refine vR et bL ?_;refine wC bL (λhc=>?_) (λhc=>?_)
    ·have h3:bt s ((i+1:Nat):Int)=116:=by simpa using hc
     have e:qN s i=(9,i+1):=by rw[qN,if_pos hb,if_neg h1,if_neg h2,if_pos h3]
     rw[e];refine vr et bL ?_;exact wM (λk=>.key k) bL
    have h3:¬ bt s ((i+1:Nat):Int)=116:=by simpa using hc
    clear hc;refine vR et bL ?_;refine wC bL (λhc=>?_) (λhc=>?_)
    ·have h4:bt s ((i+1:Nat):Int)=120:=by simpa using hc
     clear hc;have hp2:(s.extract (i+2) (min (i+4) s.size)).size<=2:=by rw[eH _ _ _ oM];omega
     cases hn:ki (s.extract (i+2) (min (i+4) s.size)) with
     |none=>exact absurd ⟨hb,h4,hn⟩ hx
     |some v=>
      obtain⟨v0,v1⟩:=I5 hn;obtain⟨v,rfl⟩:=Int.eq_ofNat_of_zero_le v0;have e:qN s i=((v:Int),i+3):=by rw[qN,if_pos hb,if_neg h1,if_neg h2,if_neg h3,if_pos h4,hn];rfl
      have wv:IntKind.u8.wrap (v:Int)=(v:Int):=pq v0 v1;rw[e];refine wR (acB (s.extract (i+2) (min (i+4) s.size)) hp2 v hn) (iS bL wi2 wi4 hmin) ?_ ?_
      ·exact⟨oM,oM,oM⟩
      refine Wp.seq ?_;refine vR et bL ?_;refine wC bL (λhc=>?_) (λhc=>?_)
      ·exact absurd hc sI
      refine wK ?_;refine vR et (aa bL wv) ?_;refine vr et (aa bL wi3) ?_;exact wM (λk=>.key k) bL
    have h4:¬ bt s ((i+1:Nat):Int)=120:=by simpa using hc
    have e:qN s i=(bt s ((i+1:Nat):Int),i+1):=by rw[qN,if_pos hb,if_neg h1,if_neg h2,if_neg h3,if_neg h4]
    rw[e];refine wK ?_;exact wM (λk=>.key k) bL
   ·have hb:¬ (bt s (i:Nat)=92/\i+1<s.size):=by
     simp only[Bool.and_eq_false_iff,decide_eq_false_iff_not]at hc;omega
    have e:qN s i=(bt s (i:Nat),i):=by rw[qN,if_neg hb]
    rw[e];refine wK ?_;exact wM (λk=>.key k) bL
  refine wr et (aa bL ha) ?_ ?_
  ·exact⟨by unfold maxLen;omega,oM⟩
  refine vr et (aa bL wj) ?_;refine⟨(n,(qN s i).2+1,o++b6 [(qN s i).1]),⟨by dsimp only;omega,by dsimp only;omega,by dsimp only;omega,by dsimp only;exact hst.symm⟩,by dsimp only;omega,?_⟩;exact wM (λk=>if k=19 then .key 504 else .key k) (aa bL hz)
 ·have hge:s.size<=i:=by
   simp at hc;omega
  have hv:tX s s.size 0 ⟨#[]⟩=some o:=by
   rw[<- g4];cases n with
   |zero=>rfl
   |succ n=>rw[tX,if_neg oM]
  rw[hv]at eq0;rw[eq0];refine wE ?_;refine A0 et bL ?_ ?_
  ·exact⟨pt _,pt _,oM⟩
  refine wZ bL ?_;exact λE=>rfl
def YL(tk:G9):Prop:=∀ r l,(tk r l).2.pl=r.pl/\(tk r l).2.ty.length<=r.ty.length+1/\(tk r l).2.tx.length<=r.tx.length+1/\(tk r l).2.co.length<=r.co.length+1
theorem TH:YL dH:=λr l=>by
 unfold dH;split
 ·refine⟨rfl,?_,Nat.le_succ _,Nat.le_succ _⟩;simp
 ·exact⟨rfl,Nat.le_succ _,Nat.le_succ _,Nat.le_succ _⟩
theorem Px:YL cX:=λr l=>by
 unfold cX;split
 ·refine⟨rfl,Nat.le_succ _,?_,Nat.le_succ _⟩;simp
 ·exact⟨rfl,Nat.le_succ _,Nat.le_succ _,Nat.le_succ _⟩
theorem Tz:YL ew:=λr l=>by
 unfold ew
 repeat' split
 all_goals exact⟨rfl,Nat.le_succ _,Nat.le_succ _,Nat.le_succ _⟩
theorem WL(n:Nat)(l:ByteArray):(yi n l).2.length<=1:=by
 unfold yi
 repeat' split
 all_goals simp
theorem GD:YL fC:=λr l=>by
 refine⟨rfl,Nat.le_succ _,Nat.le_succ _,?_⟩;show (r.co++(yi r.co.length l).2).length<=_;have:=WL r.co.length l;rw[List.length_append];omega
def tq(g:FuncId)(tk:G9)(hen:∀ args w,(callFunc g args).run prog w=.ok (.enter g args) w)(h:TW g tk)(s:ByteArray)(r:Rd)(l:ByteArray):eW prog g where
 T:=112
 pre:=λW bs fs as_=>(fs=N1 s r/\as_=[.val (.string l)])/\(Iv s r/\l.size<=16000000)/\ed W (Out bs)
 out:=λW fs as_=>.ret (.bool (tk r l).1) (N1 s (tk r l).2)
 enters:=hen
 ok:=by
  intro W w bs u fp us fs as_ hk ho hlt hmine hu hp;obtain⟨⟨rfl,rfl⟩,⟨h1,h2⟩,h3⟩:=hp
  match us,hu with
  |[x],hu=>
   obtain⟨rfl,_⟩:=hu;exact h s r l u fp w h1 h2 (h3.cP hk hmine) ho hlt
def xk(k:Nat)(s:ByteArray)(r:Rd):List (Nat×aI):=[(0,.cells 112 [.hd k,.hd (k+1),.hd (k+2),.v (.int .i64 r.src),.v (.int .i64 r.vw),.v (.string s),.v (.int .i64 (r.pl:Nat))]),(k,.row 9 1 r.ty.length ((aS r.ty).map .v)),(k+1,.row 9 1 r.tx.length ((aS r.tx).map .v)),(k+2,.row 50 4 r.co.length ((cM r.co).map .v))]
def IQ(g:FuncId)(tk:G9):Prop:=∀ (s:ByteArray) (r:Rd) (w:World) (fp:List Nat) (E:Nat->Value) (F:Nat->List Nat),Iv s r->ed w (Out fp)->ab w fp E F (cf (xk 1 s r)) w ->
 Calls prog 49 (ah E [.own 0 0,.fn (.func g) [.own 0 0] []]).toArray w λe w' => ∃ E' F',e=.returned (den E' (.tup []))/\(∀ k∈[0],E' k=E k)/\ab w fp E' F' (cf (xk 8 s (lR tk s r))) w'
def o7(g:FuncId)(tk:G9)(h:IQ g tk)(s:ByteArray)(r:Rd):qu prog 49 where
 args:=[.own 0 0,.fn (.func g) [.own 0 0] []]
 L:=xk 1 s r
 val:=.tup []
 L' := xk 8 s (lR tk s r)
 dC:=[0]
 pre:=λW bs=>Iv s r/\ed W (Out bs)
 low:=by simp[xk]
 kept:=by simp[xk]
 vk:=by simp[SV.keys,al]
 lk:=by simp[xk,aI.keys,SV.keys,al,aA,fresh]
 nd:=by simp[xk]
 enters:=call49
 ok:=by
  intro W w bs fp E F hk hm hs hp;exact h s r w fp E F hp.1 (hp.2.cP hk hm) hs
def VH:bu prog 82 where
 pre:=λW bs=>λ| [.val (.string q)]=>q.size<=16000000/\eZ W (Out bs)|_=>False
 res:=λW=>λ| [.val (.string q)]=>.tuple #[.string (fE q).1,.bool (fE q).2]|_=>undef
 enters:=call82
 ok:=by
  intro W w bs us as_ hk hu hp;split at hp
  ·rename_i q
   match us,hu with
   |[u0],hu=>
    obtain⟨rfl,_⟩:=hu;exact UY q hp.1 w (hp.2.cP hk sI)
  ·exact hp.elim
theorem RA(W:World)(q:ByteArray):VH.res W [.val (.string q)]=.tuple #[.string (fE q).1,.bool (fE q).2]:=rfl
theorem S1(W:World)(bs:List Nat)(q:ByteArray):VH.pre W bs [.val (.string q)]=(q.size<=16000000/\eZ W (Out bs)):=rfl
noncomputable def BS:Env prog:=⟨λ| 80=>some zK.spec|82=>some VH.spec|_=>none,λ| _=>none,λ_ _=>none⟩
theorem XT:BS.sp 80=some zK.spec:=rfl
theorem WA:BS.sp 82=some VH.spec:=rfl
def tJ:=(ak @List.replicate_succ.{0} @List.replicate_zero.{0} @aq @ae lP lM QW (ak Py OU dr dt du dq fq (ak fu ft fh ff fm wA xW (ak vm vT s6 tN sZ tu tp (ak tO tj tM s3 vA vZ nq (ak mw mL my ma ml mg nw (ak nv mb mS mW @a6 @aw @aD (ak @aE @N1.eq_1 RA S1 XT WA @zC @zM))))))))
theorem Ke:TW 51 cX:=by
 intro s r l u fp w hr hl ha ho hlt;obtain⟨⟨n1,n2,n3⟩,n4,n5⟩:=hr;have hc1:=B5 l df;have hT:(⟨#[116,101,120,116,32]⟩:ByteArray)=df:=rfl;refine bx (nt:=37) #[.string l] [.tmp 4] (by show 7<=7;omega) ho hlt func51 rfl rfl rfl ?_;refine vR BS tJ ?_;refine vR BS (aa tJ hT) ?_;refine wR BS tJ ?_ ?_
 ·exact⟨oM,ha.2.2⟩
 refine Wp.seq ?_;refine vR BS tJ ?_;refine wC tJ (λhc=>?_) (λhc=>?_)
 ·have h:yp l=false:=by
   unfold yp;revert hc;generalize l7 l df=a;generalize (fE (cY l df)).2=b;cases a<;>cases b<;>simp
  have e:cX r l=(false,r):=by unfold cX;rw[if_neg (by simp[h])]
  rw[e];refine vR BS tJ ?_;refine wZ tJ ?_;exact⟨_,_,rfl,λE=>rfl,_,_,rfl,(ev (aa tJ @aX)),dE⟩
 ·have h:yp l=true:=by
   unfold yp;revert hc;generalize l7 l df=a;generalize (fE (cY l df)).2=b;cases a<;>cases b<;>simp
  have e:cX r l=(true,{ r with tx:=r.tx++[(fE (cY l df)).1] }):=by unfold cX;rw[if_pos h]
  have e1:=zB r.tx (fE (cY l df)).1;have e2:(r.tx++[(fE (cY l df)).1]).length=r.tx.length+1:=by rw[List.length_append];rfl
  rw[e];refine wK ?_;refine wR BS (aa tJ e1) ?_ ?_
  ·exact⟨by unfold maxLen;omega,oM⟩
  refine vR BS tJ ?_;refine wZ tJ ?_;exact⟨_,_,rfl,λE=>rfl,_,_,rfl,(ev (dx tJ @aX e2)),dE⟩
section
variable (s:ByteArray)(r:Rd)(l:ByteArray)
noncomputable def E3:Env prog:=⟨λ| 79=>some (lL s r).spec|50=>some (tq 50 dH call50 IS s r l).spec|_=>none,λ_=>none,λ_ _=>none⟩
theorem XW:(E3 s r l).sp 79=some (lL s r).spec:=rfl
theorem YB:(E3 s r l).sp 50=some (tq 50 dH call50 IS s r l).spec:=rfl
end
def oh:=(ak @List.replicate_succ.{0} @List.replicate_zero.{0} @aq @ae lP lM lA (ak dI dK dJ dG dr dt du (ak dq fq fu ft fh ff fm (ak BG AB BI vA vZ nq mw (ak mL my ma ml mg nw nv (ak mb mS mW @a6 @aw @aD @aE (ak @xk.eq_1 @N1.eq_1 @jC.eq_1 @jC.eq_2 @aX @gf @fS (iS @XW @YB @lL.eq_1 @tq.eq_1))))))))
theorem wD:IQ 50 dH:=by
 intro s r w fp E F hr ha hs;refine gO (nt:=29) [] hs ?_ ?_ func49 rfl rfl rfl ?_
 ·simp[oz,jC,xk,FV.keys,SV.keys,al,aI.keys,aA]
 ·simp
 refine Wp.block ?_;refine Wp.loop (λr' : Rd=>⟨10,cL [(0,.is (.own 0 0)),(1,.is (.fn (.func 50) [.own 0 0] []))],cf (xk 1 s r')⟩) (λr' => Iv s r' /\ lR dH s r' = lR dH s r) (λr' => s.size-r'.pl) r ?_ ⟨hr,rfl⟩ ?_
 ·simp only[xk];exact wM (λk=>.key k) oh
 rintro r' ⟨hb,hg⟩;have hb' := hb;obtain⟨⟨n1,n2,n3⟩,n4,n5⟩:=hb;have hle:=im n4;have hst:=cS dH s r';refine Wp.block ?_;by_cases he:bh s r'.pl<s.size
 ·have hlin:jV s r'.pl=.tuple #[.string (cv s r'.pl),.bool true]:=by rw[jV,if_pos he]
  have hlz:(cv s r'.pl).size=bh s r'.pl-r'.pl:=eH _ _ _ hle.2;obtain⟨q1,q2,q3,q4⟩:=TH r' (cv s r'.pl);rw[if_pos he]at hst;generalize hl:cv s r'.pl=l at *;cases ht:dH r' l with
  | mk b r2=>
   rw[ht]at hst q1 q2 q3 q4;simp only at q1 q2 q3 q4;refine wR (E3 s r' l) (aa oh hlin) ?_ ?_
   ·exact⟨dE,n4,oM⟩
   cases b with
   | false=>
    rw[if_neg sI]at hst;refine Wp.seq ?_;refine wR (E3 s r' l) (aa oh ht) ?_ ?_
    ·exact⟨⟨⟨hb',oM⟩,ha⟩,dE,sI⟩
    refine wC oh (λhc=>?_) (λhc=>?_)
    ·refine wZ oh ?_;rw[<- hg,hst];exact wN (λk=>if k=8 then .key 176 else if k=9 then .key 177 else if k=10 then .key 178 else .key k) oh
    ·exact absurd hc sI
   |true=>
    rw[if_pos rfl]at hst;have wz:IntKind.i64.wrap ((l.size:Int)+1)=((l.size+1:Nat):Int):=wW;have wa:IntKind.i64.wrap ((r2.pl:Int)+((l.size+1:Nat):Int))=((bh s r'.pl+1:Nat):Int):=wW;refine Wp.seq ?_;refine wR (E3 s r' l) (aa oh ht) ?_ ?_
    ·exact⟨⟨⟨hb',oM⟩,ha⟩,dE,sI⟩
    refine wC oh (λhc=>?_) (λhc=>?_)
    ·exact absurd hc sI
    refine wK ?_;refine vr (E3 s r' l) (dx oh wz wa) ?_;refine⟨{ r2 with pl:=bh s r'.pl+1 },⟨⟨⟨by dsimp only;omega,by dsimp only;omega,by dsimp only;omega⟩,by dsimp only;omega,n5⟩,by rw[<- hst];exact hg⟩,by dsimp only;omega,?_⟩;simp only[xk]
    exact wM (λk=>if k=1 then .key 176 else if k=2 then .key 177 else if k=3 then .key 178 else .key k) oh
 ·have hlin:jV s r'.pl=.tuple #[.string ⟨#[]⟩,.bool false]:=by rw[jV,if_neg he]
  rw[if_neg he]at hst;refine wR (E3 s r' dP) (aa oh hlin) ?_ ?_
  ·exact⟨dE,n4,oM⟩
  refine Wp.seq ?_;refine wR (E3 s r' dP) oh ?_ ?_
  ·exact λh=>by cases h
  refine wC oh (λhc=>?_) (λhc=>?_)
  ·refine wZ oh ?_;rw[<- hg,hst];exact wN (λk=>if k=8 then .key 1 else if k=9 then .key 2 else if k=10 then .key 3 else .key k) oh
  ·exact absurd hc sI
section
variable (s:ByteArray)(r:Rd)(l:ByteArray)
noncomputable def Ed:Env prog:=⟨λ| 79=>some (lL s r).spec|51=>some (tq 51 cX call51 Ke s r l).spec|_=>none,λ_=>none,λ_ _=>none⟩
theorem Wo:(Ed s r l).sp 79=some (lL s r).spec:=rfl
theorem U8:(Ed s r l).sp 51=some (tq 51 cX call51 Ke s r l).spec:=rfl
end
def ph:=(ym oh @Wo @U8 @lL.eq_1 @tq.eq_1)
theorem uU:IQ 51 cX:=by
 intro s r w fp E F hr ha hs;refine gO (nt:=29) [] hs ?_ ?_ func49 rfl rfl rfl ?_
 ·simp[oz,jC,xk,FV.keys,SV.keys,al,aI.keys,aA]
 ·simp
 refine Wp.block ?_;refine Wp.loop (λr' : Rd=>⟨10,cL [(0,.is (.own 0 0)),(1,.is (.fn (.func 51) [.own 0 0] []))],cf (xk 1 s r')⟩) (λr' => Iv s r' /\ lR cX s r' = lR cX s r) (λr' => s.size-r'.pl) r ?_ ⟨hr,rfl⟩ ?_
 ·simp only[xk];exact wM (λk=>.key k) ph
 rintro r' ⟨hb,hg⟩;have hb' := hb;obtain⟨⟨n1,n2,n3⟩,n4,n5⟩:=hb;have hle:=im n4;have hst:=cS cX s r';refine Wp.block ?_;by_cases he:bh s r'.pl<s.size
 ·have hlin:jV s r'.pl=.tuple #[.string (cv s r'.pl),.bool true]:=by rw[jV,if_pos he]
  have hlz:(cv s r'.pl).size=bh s r'.pl-r'.pl:=eH _ _ _ hle.2;obtain⟨q1,q2,q3,q4⟩:=Px r' (cv s r'.pl);rw[if_pos he]at hst;generalize hl:cv s r'.pl=l at *;cases ht:cX r' l with
  | mk b r2=>
   rw[ht]at hst q1 q2 q3 q4;simp only at q1 q2 q3 q4;refine wR (Ed s r' l) (aa ph hlin) ?_ ?_
   ·exact⟨dE,n4,oM⟩
   cases b with
   | false=>
    rw[if_neg sI]at hst;refine Wp.seq ?_;refine wR (Ed s r' l) (aa ph ht) ?_ ?_
    ·exact⟨⟨⟨hb',oM⟩,ha⟩,dE,sI⟩
    refine wC ph (λhc=>?_) (λhc=>?_)
    ·refine wZ ph ?_;rw[<- hg,hst];exact wN (λk=>if k=8 then .key 176 else if k=9 then .key 177 else if k=10 then .key 178 else .key k) ph
    ·exact absurd hc sI
   |true=>
    rw[if_pos rfl]at hst;have wz:IntKind.i64.wrap ((l.size:Int)+1)=((l.size+1:Nat):Int):=wW;have wa:IntKind.i64.wrap ((r2.pl:Int)+((l.size+1:Nat):Int))=((bh s r'.pl+1:Nat):Int):=wW;refine Wp.seq ?_;refine wR (Ed s r' l) (aa ph ht) ?_ ?_
    ·exact⟨⟨⟨hb',oM⟩,ha⟩,dE,sI⟩
    refine wC ph (λhc=>?_) (λhc=>?_)
    ·exact absurd hc sI
    refine wK ?_;refine vr (Ed s r' l) (dx ph wz wa) ?_;refine⟨{ r2 with pl:=bh s r'.pl+1 },⟨⟨⟨by dsimp only;omega,by dsimp only;omega,by dsimp only;omega⟩,by dsimp only;omega,n5⟩,by rw[<- hst];exact hg⟩,by dsimp only;omega,?_⟩;simp only[xk]
    exact wM (λk=>if k=1 then .key 176 else if k=2 then .key 177 else if k=3 then .key 178 else .key k) ph
 ·have hlin:jV s r'.pl=.tuple #[.string ⟨#[]⟩,.bool false]:=by rw[jV,if_neg he]
  rw[if_neg he]at hst;refine wR (Ed s r' dP) (aa ph hlin) ?_ ?_
  ·exact⟨dE,n4,oM⟩
  refine Wp.seq ?_;refine wR (Ed s r' dP) ph ?_ ?_
  ·exact λh=>by cases h
  refine wC ph (λhc=>?_) (λhc=>?_)
  ·refine wZ ph ?_;rw[<- hg,hst];exact wN (λk=>if k=8 then .key 1 else if k=9 then .key 2 else if k=10 then .key 3 else .key k) ph
  ·exact absurd hc sI
end
end Go.Proofs.YtnemkecffmdlnaaGreatDoor
