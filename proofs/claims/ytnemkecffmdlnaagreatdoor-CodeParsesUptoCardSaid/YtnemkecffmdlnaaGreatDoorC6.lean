/-
 Part 6 of the proof (packed).
-/
import Derived.Test.YtnemkecffmdlnaaGreatDoorC5
import Derived.Shelf.Strings.Builder1
import Derived.Shelf.RegionOpenPlain
import Derived.Lib.IndexBytes
set_option linter.unusedSimpArgs false
set_option linter.unusedVariables false
set_option linter.defProp false
set_option maxHeartbeats 16000000
namespace Go.Proofs.YtnemkecffmdlnaaGreatDoor
section
open Go.RowKit Go.LE Go.Proofs.Tryz
set_option maxRecDepth 10000
noncomputable def B7:Env prog:=⟨λ| 138=>some ixC.spec|_=>none,λ| _=>none,λ_ _=>none⟩
theorem afo:B7.sp 138=some ixC.spec:=rfl
theorem F4:∀ n:Fin 256,let b:=((n.val:Nat):Int);let h:ByteArray:=⟨#[48,49,50,51,52,53,54,55,56,57,97,98,99,100,101,102]⟩;
  let x:=h.extract (b.fdiv 16).toNat (IntKind.u8.wrap (b.fdiv 16+1)).toNat;let y:=h.extract (cw .and .u8 b 15).toNat (IntKind.u8.wrap (cw .and .u8 b 15+1)).toNat;
  (0<=b.fdiv 16/\b.fdiv 16<=IntKind.u8.wrap (b.fdiv 16+1)/\IntKind.u8.wrap (b.fdiv 16+1)<=16)/\(0<=cw .and .u8 b 15/\cw .and .u8 b 15<=IntKind.u8.wrap (cw .and .u8 b 15+1)/\IntKind.u8.wrap (cw .and .u8 b 15+1)<=16) /\
  (x.size=1/\y.size=1)/\(⟨#[92,120]⟩:ByteArray)++x++y=⟨#[92,120,hxD (b / 16),hxD (b % 16)]⟩:=by decide +kernel
def cX:=(aj @List.replicate_succ.{0} @List.replicate_zero.{0} @an @ab jo jl BH (aj BJ BG gS ca cc b9 cg (aj cf cj cd ck fu fE fj (aj fz fw dc dh cZ db c8 (aj dd xj wP wB v8 ahA ahq (aj ahu ahp ahX ahs ahN ahz ahU (aj ahJ @aG @al @ay @ax @EG @FX afo)))))))
theorem GW(b:Int)(q:ByteArray)(h0:0<=b)(h1:b<256)(w:World)(hg:bB w (Out [])):Calls prog 223 #[.int .u8 b,.string q] w λe w' => e=.returned (.string (ly b (kW q b)))/\ah w [] w' := by
 obtain⟨g0,g1,g2,g3,g4,g5,g6⟩:=hg;refine af (nt:=54) [.tmp 4] func223 rfl rfl rfl ?_;refine vR B7 cX ?_;refine Wp.seq ?_;refine vR B7 (uv cX g1 g2 g3 g4 g5 g6) ?_;refine Wp.block ?_
 refine Wp.loop (λk:Nat=>⟨40,bm [(0,.is (.v (.int .u8 b))),(1,.is (.v (.string q))),(7,.is (.agg [.v (.int .u8 110),.v (.int .u8 10),.v (.int .u8 114),.v (.int .u8 13),.v (.int .u8 116),.v (.int .u8 9)])),(8,.is (.v (.int .i64 k)))],aY []⟩)
  (λk=>k<=3/\(0<k->b≠10)/\(1<k->b≠13)/\(2<k->b≠9)) (λk=>3-k) 0 ?_ ⟨oM,oM,oM,oM⟩ ?_
 ·exact wM (λk=>.key k) cX
 rintro k ⟨k0,k1,k2,k3⟩;refine vR B7 cX ?_;refine Wp.seq ?_;refine wC cX (λhc=>?_) (λhc=>?_)
 ·simp at hc;refine wK ?_;have hk3:k<3:=oM;have hcase:k=0\/k=1\/k=2:=oM;refine Wp.seq (Wp.block ?_);rcases hcase with rfl|rfl|rfl
  ·skip;refine vR B7 cX ?_;refine vR B7 cX ?_;refine wC cX (λhc=>?_) (λhc=>?_)
   ·have hb:b=10:=by simp at hc;omega
    have he:ly b (kW q b)=⟨#[92,110]⟩:=by rw[ly,if_pos hb]
    rw[he];refine wR B7 cX ?_ ?_
    ·show 1+1<=9223372036854775807;omega
    refine wZ cX ?_;exact λE=>rfl
   ·have hb:¬ b=10:=by simp at hc;omega
    refine wK ?_;refine vr B7 cX ?_;refine⟨1,⟨oM,λ_=>hb,oM,oM⟩,oM,?_⟩;exact wM (λk=>.key k) cX
  ·skip;refine vR B7 cX ?_;refine vR B7 cX ?_;refine wC cX (λhc=>?_) (λhc=>?_)
   ·have hb:b=13:=by simp at hc;omega
    have he:ly b (kW q b)=⟨#[92,114]⟩:=by rw[ly,if_neg (k1 oM),if_pos hb]
    rw[he];refine wR B7 cX ?_ ?_
    ·show 1+1<=9223372036854775807;omega
    refine wZ cX ?_;exact λE=>rfl
   ·have hb:¬ b=13:=by simp at hc;omega
    refine wK ?_;refine vr B7 cX ?_;refine⟨2,⟨oM,λ_=>k1 oM,λ_=>hb,oM⟩,oM,?_⟩;exact wM (λk=>.key k) cX
  ·skip;refine vR B7 cX ?_;refine vR B7 cX ?_;refine wC cX (λhc=>?_) (λhc=>?_)
   ·have hb:b=9:=by simp at hc;omega
    have he:ly b (kW q b)=⟨#[92,116]⟩:=by rw[ly,if_neg (k1 oM),if_neg (k2 oM),if_pos hb]
    rw[he];refine wR B7 cX ?_ ?_
    ·show 1+1<=9223372036854775807;omega
    refine wZ cX ?_;exact λE=>rfl
   ·have hb:¬ b=9:=by simp at hc;omega
    refine wK ?_;refine vr B7 cX ?_;refine⟨3,⟨oM,λ_=>k1 oM,λ_=>k2 oM,λ_=>hb⟩,oM,?_⟩;exact wM (λk=>.key k) cX
 ·have hk:k=3:=by
   simp at hc;omega
  have n10:=k1 oM;have n13:=k2 oM;have n9:=k3 oM;refine wE ?_;refine Wp.seq (Wp.block ?_);refine vR B7 cX ?_;refine wC cX (λhc=>?_) (λhc=>?_)
  ·have h:b<32\/126<b:=by simpa using hc
   have e:ly b (kW q b)=⟨#[92,120,hxD (b / 16),hxD (b % 16)]⟩:=by rw[ly,if_neg n10,if_neg n13,if_neg n9,if_pos h]
   rw[e];obtain⟨n,rfl⟩:=Int.eq_ofNat_of_zero_le h0;obtain⟨f1,f2,⟨f3,f4⟩,f5⟩:=F4 ⟨n,oM⟩;simp only at f1 f2 f3 f4 f5;refine kO B7 cX ?_ ?_
   ·refine⟨f1,?_,f2,?_⟩
    ·rw[f3];show 2+1<=9223372036854775807;omega
    ·rw[f4,ByteArray.size_append,f3];show 2+1+1<=9223372036854775807;omega
   refine wZ cX ?_;exact λE=>congrArg Value.string f5
  have n32:¬ (b<32\/126<b):=by simpa using hc
  refine vR B7 cX ?_;refine wC cX (λhc=>?_) (λhc=>?_)
  ·have hi:kW q b=true:=by rw[kW];simpa using hc
   have e:ly b (kW q b)=⟨#[92,b.toNat.toUInt8]⟩:=by rw[ly,if_neg n10,if_neg n13,if_neg n9,if_neg n32,if_pos hi]
   rw[e];refine wR B7 cX ?_ ?_
   ·show 1+1<=9223372036854775807;omega
   refine wZ cX ?_;exact λE=>rfl
  ·have hi:¬ kW q b=true:=by rw[kW];simpa using hc
   have e:ly b (kW q b)=⟨#[b.toNat.toUInt8]⟩:=by rw[ly,if_neg n10,if_neg n13,if_neg n9,if_neg n32,if_neg hi]
   rw[e];refine wK ?_;refine vR B7 cX ?_;refine wZ cX ?_;exact λE=>rfl
def tS:aM prog 223 where
 pre:=λW bs=>λ| [.val (.int .u8 b),.val (.string q)]=>(0<=b/\b<256)/\bB W (Out bs)|_=>False
 res:=λW=>λ| [.val (.int .u8 b),.val (.string q)]=>.string (ly b (kW q b))|_=>undef
 enters:=call223
 ok:=by
  intro W w bs us as_ hk hu hp;split at hp
  ·rename_i b q
   match us,hu with
   |[u0,u1],hu=>
    obtain⟨rfl,rfl,_⟩:=hu;exact GW b q hp.1.1 hp.1.2 w (hp.2.dW hk sI)
  ·exact hp.elim
theorem Ec(W:World)(b:Int)(q:ByteArray):tS.res W [.val (.int .u8 b),.val (.string q)]=.string (ly b (kW q b)):=rfl
theorem FE(W:World)(bs:List Nat)(b:Int)(q:ByteArray):tS.pre W bs [.val (.int .u8 b),.val (.string q)]=((0<=b/\b<256)/\bB W (Out bs)):=rfl
noncomputable def sy:Env prog:=⟨λ| 221=>some qZ.spec|222=>some uU.spec|223=>some tS.spec|224=>some Ci.spec|225=>some vQ.spec|_=>none,λ| _=>none,λ_ _=>none⟩
theorem agS:sy.sp 221=some qZ.spec:=rfl
theorem agJ:sy.sp 222=some uU.spec:=rfl
theorem aem:sy.sp 223=some tS.spec:=rfl
theorem agQ:sy.sp 224=some Ci.spec:=rfl
theorem abC:sy.sp 225=some vQ.spec:=rfl
attribute [local simp] aA
theorem Kg(S:CS)(h1:kb S≠1):∃ (T:CS) (pre:ByteArray),iB S=dn T pre 256++QQ/\pre.size<=2/\(T,pre)=(if 128<kb S then (~~~S,Bw) else (S,zI)):=by
 by_cases h:128<kb S
 ·exact⟨~~~S,Bw,by rw[iB,if_neg h1,if_pos h],dE,by rw[if_pos h]⟩
 ·exact⟨S,zI,by rw[iB,if_neg h1,if_neg h],dE,by rw[if_neg h]⟩
def bP:=(aj @List.replicate_succ.{0} @List.replicate_zero.{0} @an @ab jo jl gS (aj ca cc b9 cg cf cj cd (aj ck fu fE fj fz fw dc (aj dh cZ db c8 dd pF o6 (aj px oZ w9 xp xm vS PL (aj OS @aG @al @ay @ax @vV @wY (aj @Mz @LR @Ec @FE @Io @HO @Cp (aj @C2 @jC @np @nG @ll @qX @ais (mh @aiu agS agJ aem agQ abC)))))))))
theorem RM(S:CS)(w:World)(hg:bB w (Out [])):Calls prog 182 #[cC S] w λe w' => e=.returned (.string (iB S))/\ah w [] w' := by
 refine af (nt:=67) [.tmp 2] func182 rfl rfl rfl ?_;refine vR sy (aa bP @e8) ?_;refine vR sy (aa bP @dX) ?_;refine Wp.seq ?_;refine vR sy bP ?_;refine wC bP (λhc=>?_) (λhc=>?_)
 ·have h1:kb S=1:=by simp at hc;omega
  have hl:=Oh S 256 0;obtain⟨b0,hb0,hb1⟩:=XD S h1;have hlt:AN S<256:=by
   have hx:∀ k j,j+k=256->j<=b0->F7 S k j<256:=by
    intro k
    induction k with
    |zero=>intro j h1 h2;omega
    | succ k ih=>
     intro j h1 h2;unfold F7;split
     ·omega
     ·rename_i hn;refine ih (j+1) oM ?_;by_cases he:j=b0
      ·rw[he]at hn;exact absurd hb1 hn
      ·omega
   exact hx 256 0 rfl (Nat.zero_le _)
  have e:iB S=ly (AN S) (kW BK (AN S)):=by rw[iB,if_pos h1]
  rw[e];refine wR sy (aa bP @dX) ?_ ?_
  ·exact⟨b0,hb0,hb1⟩
  refine wR sy bP ?_ ?_
  ·exact⟨⟨oM,oM⟩,hg⟩
  refine wZ bP ?_;exact λE=>rfl
 have h1:kb S≠1:=by simp at hc;omega
 obtain⟨T,pre,he,hpre,hp⟩:=Kg S h1;rw[he];refine wK ?_;refine vR sy bP ?_;refine aW ⟨60,bm [(1,.is (.own 0 0)),(6,.is (.v (.string pre)))],aY [(0,.cells 309 ((l7 T).map .v))]⟩ ?_ ?_
 ·skip;refine vR sy bP ?_;refine wC bP (λhc=>?_) (λhc=>?_)
  ·have h:128<kb S:=by simp at hc;omega
   rw[if_pos h,Prod.mk.injEq]at hp;obtain⟨rfl,rfl⟩:=hp;refine vR sy bP ?_;refine vr sy (bQ bP @dX @e8) ?_;exact wM (λk=>.key k) bP
  ·have h:¬ 128<kb S:=by simp at hc;omega
   rw[if_neg h,Prod.mk.injEq]at hp;obtain⟨rfl,rfl⟩:=hp;refine wK ?_;exact wM (λk=>.key k) bP
 clear hp;refine Wp.seq ?_;refine vR sy bP ?_;refine Wp.block ?_
 refine Wp.loop (λb:Nat=>⟨70,bm [(1,.is (.own 0 0)),(6,.is (.v (.string (dn T pre b)))),(7,.is (.v (.int .i64 (b:Nat))))],aY [(0,.cells 309 ((l7 T).map .v))]⟩) (λb=>b<=256/\(b=0\/T.getLsbD (b-1)=false\/T.getLsbD b=false)) (λb=>256-b) 0 ?_ ⟨Nat.zero_le _,.inl rfl⟩ ?_
 ·exact wM (λk=>.key k) bP
 rintro b ⟨hb,hinv⟩;refine Wp.seq ?_;refine vR sy bP ?_;refine wC bP (λhc=>?_) (λhc=>?_)
 ·have hlt:b<256:=by
   simp at hc;omega
  have wj:IntKind.i64.wrap ((b:Int)+1)=((b+1:Nat):Int):=wW;have wu:IntKind.u8.wrap (b:Int)=(b:Int):=eS oM oM;have hsz:=jE T pre b;refine wK ?_;refine Wp.seq (Wp.block ?_);refine Wp.seq ?_;refine wR sy (bQ bP wu @dX) ?_ ?_
  ·omega
  refine wC bP (λhc=>?_) (λhc=>?_)
  ·have hTb:T.getLsbD b=false:=by simpa using hc
   have hs:UQ T b=false:=by rw[UQ,hTb];rfl
   have e:dn T pre (b+1)=dn T pre b:=by rw[dn,if_neg (by rw[hs];simp)]
   refine wE ?_;refine vr sy (aa bP wj) ?_;refine⟨b+1,⟨oM,.inr (.inl hTb)⟩,oM,?_⟩;rw[e];exact wM (λk=>.key k) bP
  have hTb:T.getLsbD b=true:=by simpa using hc
  have hs:UQ T b=true:=by
   rw[UQ,hTb,Bool.true_and];rcases hinv with h|h|h
   ·subst h;rfl
   ·rw[h];simp
   ·rw[hTb]at h;cases h
  have hbd:=Ps T b hlt;have e:dn T pre (b+1)=NK (dn T pre b) b (kv T b):=by rw[dn,if_pos hs]
  have e2:dn T pre (kv T b+1)=dn T pre (b+1):=NX T pre b hlt hTb _ oM (Nat.le_refl _);have hout:T.getLsbD (kv T b+1)=false:=by
   by_cases h:kv T b<255
   ·exact XM T b hlt h
   ·exact BitVec.getLsbD_of_ge _ _ oM
  obtain⟨m,hm⟩:∃ m,kv T b=m:=⟨_,rfl⟩;generalize hO:dn T pre b=O at *;rw[hm]at hbd e e2 hout;rw[e]at e2;refine wK ?_;refine vR sy bP ?_
  refine aW ⟨120,bm [(1,.is (.own 0 0)),(6,.is (.v (.string O))),(7,.is (.v (.int .i64 (b:Nat)))),(8,.is (.v (.int .i64 (m:Nat))))],aY [(0,.cells 309 ((l7 T).map .v))]⟩ ?_ ?_
  ·skip;refine Wp.block ?_;refine Wp.loop (λk:Nat=>⟨100,bm [(1,.is (.own 0 0)),(6,.is (.v (.string O))),(7,.is (.v (.int .i64 (b:Nat)))),(8,.is (.v (.int .i64 (k:Nat))))],aY [(0,.cells 309 ((l7 T).map .v))]⟩) (λk=>(b<=k/\k<256)/\kv T b=kv T k) (λk=>256-k) b ?_ ⟨⟨Nat.le_refl _,hlt⟩,rfl⟩ ?_
   ·exact wM (λk=>.key k) bP
   rintro k ⟨⟨hk1,hk⟩,hke⟩;have wk:IntKind.i64.wrap ((k:Int)+1)=((k+1:Nat):Int):=wW;have fin:(k<255->T.getLsbD (k+1)=false)->k=m:=λh=>by
    have:=CK T k h;omega
   by_cases hbk:k<255
   ·have hd:decide ((k:Int)<255)=true:=by simp;omega
    have wu:IntKind.u8.wrap ((k+1:Nat):Int)=((k+1:Nat):Int):=eS oM oM;refine Wp.seq ?_;refine wR sy (oy bP wk hd wu @dX) ?_ ?_
    ·omega
    refine wC bP (λhc=>?_) (λhc=>?_)
    ·refine wK ?_;refine Wp.block ?_;refine vr sy (aa bP wk) ?_;refine⟨k+1,⟨⟨oM,oM⟩,by rw[hke];exact DS T k hbk hc⟩,oM,?_⟩;exact wM (λk=>.key k) bP
    ·refine wE ?_;have hf:=fin λ_=>hc
     subst hf;exact wM (λk=>.key k) bP
   ·have hd:decide ((k:Int)<255)=false:=by simp;omega
    refine Wp.seq ?_;refine wR sy (eT bP wk hd @dX) ?_ ?_
    ·simp
    refine wC bP (λhc=>?_) (λhc=>?_)
    ·exact absurd hc sI
    ·refine wE ?_;have hf:=fin λh=>absurd h hbk
     subst hf;exact wM (λk=>.key k) bP
  have wm:IntKind.u8.wrap ((m:Nat):Int)=((m:Nat):Int):=eS oM oM;have wm1:IntKind.i64.wrap ((m:Int)+1)=((m+1:Nat):Int):=wW;have hb1:=lZ b (kW mH b);have hb2:=lZ ((m:Nat):Int) (kW mH ((m:Nat):Int));rw[QP]at e2;refine wR sy (aa bP wu) ?_ ?_
  ·exact⟨⟨⟨oM,oM⟩,hg⟩,oM⟩
  have hO1:(O++ly b (kW mH b)).size<=2400:=by rw[ByteArray.size_append];omega
  generalize O++ly b (kW mH b)=O1 at *;refine aW ⟨150,bm [(1,.is (.own 0 0)),(6,.is (.v (.string (if b+1<m then O1++oA else O1)))),(7,.is (.v (.int .i64 (b:Nat)))),(8,.is (.v (.int .i64 (m:Nat))))],aY [(0,.cells 309 ((l7 T).map .v))]⟩ ?_ ?_
  ·skip;refine vR sy (aa bP wj) ?_;refine wC bP (λhc=>?_) (λhc=>?_)
   ·have h:b+1<m:=by simp at hc;omega
    rw[if_pos h];refine wr sy bP ?_ ?_
    ·show O1.size+1<=_;omega
    exact wM (λk=>.key k) bP
   ·have h:¬ b+1<m:=by simp at hc;omega
    rw[if_neg h];refine wK ?_;exact wM (λk=>.key k) bP
  have hO2:(if b+1<m then O1++oA else O1).size<=2401:=by
   split
   ·rw[ByteArray.size_append];show O1.size+1<=2401;omega
   ·omega
  generalize (if b+1<m then O1++oA else O1)=O2 at *;refine aW ⟨170,bm [(1,.is (.own 0 0)),(6,.is (.v (.string (dn T pre (m+1))))),(8,.is (.v (.int .i64 (m:Nat))))],aY [(0,.cells 309 ((l7 T).map .v))]⟩ ?_ ?_
  ·skip;refine vR sy bP ?_;refine wC bP (λhc=>?_) (λhc=>?_)
   ·have h:b<m:=by simp at hc;omega
    rw[if_pos h]at e2;rw[e2];refine wr sy (aa bP wm) ?_ ?_
    ·exact⟨⟨⟨oM,oM⟩,hg⟩,oM⟩
    exact wM (λk=>.key k) bP
   ·have h:¬ b<m:=by simp at hc;omega
    rw[if_neg h]at e2;rw[e2];refine wK ?_;exact wM (λk=>.key k) bP
  refine vr sy bP ?_;refine vr sy (aa bP wm1) ?_;refine⟨m+1,⟨oM,.inr (.inr hout)⟩,oM,?_⟩;exact wM (λk=>.key k) bP
 ·have hb' : b=256:=by
   simp at hc;omega
  subst hb';have hsz:=jE T pre 256;refine wE ?_;refine wR sy bP ?_ ?_
  ·show (dn T pre 256).size+1<=_;omega
  refine wZ bP ?_;exact λE=>rfl
noncomputable def vp:aM prog 182 where
 pre:=λW bs=>λ| [.val y0]=>(match dec cC y0 with|some S=>bB W (Out bs)|_=>False)|_=>False
 res:=λW=>λ| [.val y0]=>(match dec cC y0 with|some S=>.string (iB S)|_=>undef)|_=>undef
 enters:=call182
 ok:=by
  intro W w bs us as_ hk hu hp;split at hp
  ·rename_i y0;split at hp
   ·rename_i S h0
    match us,hu with
    |[u0],hu=>
     obtain⟨rfl,_⟩:=hu;obtain rfl:=gX h0
     try dsimp only
     try simp only[cN cL]
     exact RM S w (hp.dW hk sI)
   ·exact hp.elim
  ·exact hp.elim
theorem ND(W:World)(S:CS):vp.res W [.val (cC S)]=.string (iB S):=by simp only[vp,cN cL]
theorem Lq(W:World)(bs:List Nat)(S:CS):vp.pre W bs [.val (cC S)]=(bB W (Out bs)):=by simp only[vp,cN cL]
theorem Q8{ar:List Nd}{f:Fm}(h:¬ f.row<0):kr ar f=(ar,f):=by rw[kr,if_neg h]
theorem MX(ar:List Nd)(f:Fm):(kr (aF ar f).1 (aF ar f).2).1.length<=ar.length+1:=by
 by_cases h1:f.fac<0
 ·rw[aF,if_pos h1];exact sR ar f
 ·by_cases h2:f.row<0
  ·rw[aF,if_neg h1,if_pos h2];exact sR ar _
  ·rw[aF,if_neg h1,if_neg h2,Q8 (by show ¬ (ar.length:Int)<0;omega)];simp
theorem A7(ar:List Nd)(f:Fm):(gk ar f).1.length<=ar.length+2:=by
 have h1:=MX ar f;have h3:=DB (kr (aF ar f).1 (aF ar f).2).1 (kr (aF ar f).1 (aF ar f).2).2;unfold gk;omega
theorem qs(ar:List Nd)(f:Fm):(aP ar f).1.length<=ar.length+3:=by
 have h1:=A7 ar f;unfold aP vZ;split
 ·simp only;omega
 ·simp only[List.length_append,List.length_cons,List.length_nil];omega
def kP(s:ByteArray):Except (Int×Int) RT:=iM (bt s) s.size (gU s)
def pN:Except (Int×Int) RT->Nat
 |.ok t=>aI t.expand
 |.error _=>0
def pV:Except (Int×Int) RT->List Value
 |.ok t=>dC (eD 0 t.expand)
 |.error _=>[]
def pG:Except (Int×Int) RT->Value->Value
 |.ok t,v=>.tuple #[.agg #[v,.int .i64 ((aI t.expand-1:Nat):Int)],.int .i64 0,.int .i64 0]
 |.error (c,p),v=>.tuple #[.agg #[v,.int .i64 0],.int .i64 c,.int .i64 p]
theorem Cc:dN prog 64 [] []=⟨True,.agg [.v (.slice none 0 0),.v (.int .i64 0)],[],none,[],[]⟩:=kR
theorem BQ:dN prog 232 [] []=⟨True,.agg [.v (.slice none 0 0),.v (.slice none 0 0)],[],none,[],[]⟩:=kR
theorem Ra{P:Program}{T e:TypeId}{sz:Nat}{zs:List Value}(κ:Nat)(x:SV)(l:List SV)(hp:partsOf x=l)(h1:P.underlying T=some (.slice e))(h2:ts P e=some sz)(h3:tz P e=some zs)(h4:zs.length=sz)(h5:sz<=16777216)(h6:0<sz)(h7:l.length=sz) :
  bz P κ T 1 [0] [x]=⟨True,.hd (8*κ),[(8*κ,some (.row e sz 1 l))],none,[],[]⟩:=by
 have hf:dG (λi=>some (i*sz,sz)) ((List.replicate 1 zs).flatten.map .v) ([0].zip [x])=some l:=by
  simp only[List.zip_cons_cons,List.zip_nil_right,dG,hp,Nat.zero_mul,Nat.zero_add];rw[if_pos ⟨h7,by simp[h4]⟩];simp[av,h7,<- h4]
 unfold bz;simp only[h1,h2,h3,hf]
 congr 1
 exact eq_true ⟨oM,h4,h6⟩
theorem aad(κ:Nat)(f:Fm):bz prog κ 230 1 [0] [.v (.agg f.bw.toArray)]=⟨True,.hd (8*κ),[(8*κ,some (.row 234 6 1 (f.bw.map .v)))],none,[],[]⟩:=
 Ra (e:=234) (sz:=6) (zs:=[.int .i64 0,.int .i64 0,.int .i64 0,.int .u8 0,.int .i64 0,.int .i64 0]) κ _ _ rfl (by kernel_rfl) (by kernel_rfl) (by kernel_rfl) rfl oM oM rfl
def Ir(s:ByteArray):Except (Int×Int) (List Nd×Fm×List Fm):=rI (bt s) s.size (gU s) (s.size+1) 0 [] (kC (-1)) []
theorem o7{s:ByteArray}{e:Int×Int}(hb:¬ 1048576<(s.size:Int))(h:Ir s=.error e):kP s=.error e:=by
 have h1:=nr (c:=bt s) (N:=s.size) (rd:=gU s) oM;have h2:ku (bt s) s.size (gU s)=.error e:=by
  rw[ku,if_neg hb];have:rI (bt s) s.size (gU s) ((s.size:Int).toNat+1) 0 [] (kC (-1)) []=.error e:=h;rw[this];rfl
 rw[h2]at h1;show iM _ _ _=_;cases h3:iM (bt s) s.size (gU s) with
 |error e' => rw[h3]at h1;simp only at h1;rw[h1]
 |ok t=>rw[h3]at h1;exact h1.elim
theorem IG{s:ByteArray}{ar:List Nd}{f:Fm}{rest:List Fm}(hb:¬ 1048576<(s.size:Int))(h:Ir s=.ok (ar,f,rest)):kP s=match D5 (.ok (ar,f,rest)) with
  |.error e=>.error e
  |.ok _=>kP s:=by
 have h1:=nr (c:=bt s) (N:=s.size) (rd:=gU s) oM;have h2:ku (bt s) s.size (gU s)=D5 (.ok (ar,f,rest)):=by
  rw[ku,if_neg hb];have:rI (bt s) s.size (gU s) ((s.size:Int).toNat+1) 0 [] (kC (-1)) []=.ok (ar,f,rest):=h;rw[this]
 rw[h2]at h1;cases h4:D5 (.ok (ar,f,rest)) with
 |error e=>
  rw[h4]at h1;show iM _ _ _=_;cases h3:iM (bt s) s.size (gU s) with
  |error e' => rw[h3]at h1;simp only at h1;rw[h1]
  |ok t=>rw[h3]at h1;exact h1.elim
 |ok q=>rfl
theorem agp{s:ByteArray}{ar:List Nd}{f:Fm}{rest:List Fm}(h:Ir s=.ok (ar,f,rest)):∃ ts t,AR (aP ar f).1 ts/\0<=(aP ar f).2.alt/\ts[(aP ar f).2.alt.toNat]?=some t:=by
 have hm:∀ o:Int,o=-1->OD [] o none:=λo h=>by show o<0;omega
 have h1:=Gd (c:=bt s) (N:=s.size) (rd:=gU s) (s.size+1) 0 [] [] (kC (-1)) (gK (-1)) [] [] .nil ⟨rfl,hm _ rfl,hm _ rfl,rfl,hm _ rfl,hm _ rfl⟩ trivial;have h2:rI (bt s) s.size (gU s) (s.size+1) 0 [] (kC (-1)) []=.ok (ar,f,rest):=h;rw[h2]at h1
 cases h3:runN (bt s) s.size (gU s) (s.size+1) 0 (gK (-1)) [] with
 |error e=>rw[h3]at h1;exact h1.elim
 |ok p=>
  obtain⟨L,Ls⟩:=p;rw[h3]at h1;obtain⟨ts,ha,hf,hr⟩:=h1;obtain⟨l,a1,f1⟩:=qR ha hf;have h2:=f1.alt;rw[show (rY L).alt=some (iT L) from rfl]at h2;exact⟨_,_,a1,h2.1,h2.2⟩
theorem af7{s:ByteArray}{ar:List Nd}{f:Fm}(hb:¬ 1048576<(s.size:Int))(h:Ir s=.ok (ar,f,[]))(hz:¬ 2000<(oG (aP ar f).1).getD (aP ar f).2.alt.toNat 0) :
  ∃ ts t,kP s=.ok t/\AR (aP ar f).1 ts/\0<=(aP ar f).2.alt/\(aP ar f).2.alt<(aP ar f).1.length/\ts[(aP ar f).2.alt.toNat]?=some t/\aI t.expand<=2000:=by
 have h1:=nr (c:=bt s) (N:=s.size) (rd:=gU s) oM;have h2:ku (bt s) s.size (gU s)=.ok ((aP ar f).1,(aP ar f).2.alt):=by
  rw[ku,if_neg hb];have:rI (bt s) s.size (gU s) ((s.size:Int).toNat+1) 0 [] (kC (-1)) []=.ok (ar,f,[]):=h;rw[this,D5,if_neg (show ¬ ([]:List Fm)≠[] by simp),if_neg hz]
 rw[h2]at h1;cases h3:iM (bt s) s.size (gU s) with
 |error e' => rw[h3]at h1;exact h1.elim
 | ok t=>
  rw[h3]at h1;obtain⟨ts,a1,a2,a3⟩:=h1;have hlt:(aP ar f).2.alt.toNat<ts.length:=(List.getElem?_eq_some_iff.1 a3).1;have hle:=a1.len;have e1:(oG (aP ar f).1).getD (aP ar f).2.alt.toNat 0=(t.sz:Int):=by
   rw[YL a1,List.getD_eq_getElem?_getD,List.getElem?_map,a3];rfl
  rw[e1]at hz;exact⟨ts,t,h3,a1,a2,oM,a3,a1.small (List.mem_of_getElem? a3) oM⟩
theorem UM{s:ByteArray}{ar:List Nd}{f:Fm}{rest:List Fm}(hb:¬ 1048576<(s.size:Int))(h:Ir s=.ok (ar,f,rest))(hr:rest≠[]):kP s=.error (21,f.place):=by
 have h1:=IG hb h;rw[D5,if_pos hr]at h1;exact h1
theorem X1{s:ByteArray}{ar:List Nd}{f:Fm}(hb:¬ 1048576<(s.size:Int))(h:Ir s=.ok (ar,f,[]))(hz:2000<(oG (aP ar f).1).getD (aP ar f).2.alt.toNat 0):kP s=.error (24,0):=by
 have h1:=IG hb h;rw[D5,if_neg (show ¬ ([]:List Fm)≠[] by simp),if_pos hz]at h1;exact h1
theorem H0{c:Int->Int}{N i:Int}{e:Int×Int}(h:oq c N i=.error e):e.1≠0:=by
 have hn:∀ i e,iK c N i=.error e->e.1≠0:=λi e h=>by
  unfold iK at h;split at h
  ·cases h;show (20:Int)≠0;omega
  ·cases h
 have hu:∀ m i e,Br c N m i=.error e->e.1≠0:=λm i e h=>by
  unfold Br at h;split at h
  ·split at h
   ·exact hn _ _ h
   ·cases h
  ·cases h
 unfold oq at h;cases h1:iK c N (i+1) with
 |error e1=>rw[h1]at h;cases h;exact hn _ _ h1
 | ok p=>
  rw[h1]at h;simp only at h;cases h2:Br c N p.1 p.2 with
  |error e2=>rw[h2]at h;cases h;exact hu _ _ _ h2
  | ok q=>
   rw[h2]at h;simp only at h;unfold mU at h;split at h
   ·cases h;show (20:Int)≠0;omega
   ·split at h
    ·cases h;show (22:Int)≠0;omega
    ·cases h
theorem FW{c:Int->Int}{N i:Int}(h:c i≠123):UR c N i=.ok (if c i=43 then -2 else 0,if c i=63 then 1 else -1,i+1):=by
 unfold UR;by_cases h1:c i=43
 ·rw[if_pos h1,if_pos h1,if_neg oM]
 ·rw[if_neg h1,if_neg h1];by_cases h2:c i=63
  ·rw[if_pos h2,if_pos h2]
  ·rw[if_neg h2,if_neg h2,if_neg h]
theorem FJ{c:Int->Int}{N i:Int}(h:c i=123):UR c N i=oq c N i:=by
 unfold UR;rw[if_neg oM,if_neg oM,if_pos h]
theorem aiQ{c:Int->Int}{N i m n j:Int}(hi:i<N)(h:UR c N i=.ok (m,n,j)):i<j/\j<=N:=by
 by_cases h1:c i=123
 ·rw[FJ h1]at h;exact Bo h
 ·rw[FW h1]at h;simp only[Except.ok.injEq,Prod.mk.injEq]at h;omega
theorem EN(a m n:Int):dN prog 243 [0,2,4,5] [.v (.int .i64 7),.v (.int .i64 a),.v (.int .i64 m),.v (.int .i64 n)]=⟨True,.agg ((⟨7,0,a,0,m,n⟩:Nd).bw.map .v),[],none,[],[]⟩:=by
 kernel_rfl
theorem Fu:s5 []=[]:=rfl
theorem aaR(pre:List Fm)(f:Fm):s5 (pre++[f])=s5 pre++f.bw:=by simp[s5]
theorem Dd(pre:List Fm)(f:Fm):List.map SV.v (s5 (pre++[f]))=List.map SV.v (s5 pre)++[.v (.int .i64 f.place),.v (.int .i64 f.alt),.v (.int .i64 f.meet),.v (.int .u8 f.sgn),.v (.int .i64 f.row),.v (.int .i64 f.fac)]:=by rw[aaR,eM]
theorem ace(m n j:Int):YC (.ok (m,n,j))=.tuple #[.int .i64 m,.int .i64 n,.int .i64 j,.int .i64 0,.int .i64 0]:=rfl
theorem Ye(c j:Int):YC (.error (c,j))=.tuple #[.int .i64 0,.int .i64 0,.int .i64 0,.int .i64 c,.int .i64 j]:=rfl
theorem Lg(S:CS):partsOf (.v (mX S))=List.map SV.v (gA S.getLsbD):=rfl
noncomputable def L3(ar:List Nd)(pre:List Fm)(f:Fm):Env prog:=⟨λ| 116=>some C5.spec|118=>some sL.spec|119=>some (L5 ar pre f).spec|120=>some (DV ar pre f).spec|121=>some (stC 121 aF call121 nT ar pre f).spec|122=>some Fi.spec|_=>none,λ_=>none,λ_ _=>none⟩
theorem afx(ar:List Nd)(pre:List Fm)(f:Fm):(L3 ar pre f).sp 116=some C5.spec:=rfl
theorem agx(ar:List Nd)(pre:List Fm)(f:Fm):(L3 ar pre f).sp 118=some sL.spec:=rfl
theorem adQ(ar:List Nd)(pre:List Fm)(f:Fm):(L3 ar pre f).sp 119=some (L5 ar pre f).spec:=rfl
theorem acr(ar:List Nd)(pre:List Fm)(f:Fm):(L3 ar pre f).sp 120=some (DV ar pre f).spec:=rfl
theorem agb(ar:List Nd)(pre:List Fm)(f:Fm):(L3 ar pre f).sp 121=some (stC 121 aF call121 nT ar pre f).spec:=rfl
theorem abK(ar:List Nd)(pre:List Fm)(f:Fm):(L3 ar pre f).sp 122=some Fi.spec:=rfl
noncomputable def Γ74(ar:List Nd):Env prog:=⟨λ| 123=>some (Ly ar).spec|_=>none,λ_=>none,λ_ _=>none⟩
theorem ag0(ar:List Nd):(Γ74 ar).sp 123=some (Ly ar).spec:=rfl
section
variable (ar:List Nd)(ts:List RT)(ao:Option Addr)(c n:Nat)
noncomputable def Γ75(h:kn ar ts ao c n):Env prog:=⟨λ| 124=>some (rM ar ao c 124 call124 (below n) (US ts) h).spec|_=>none,λ_=>none,λ_ _=>none⟩
theorem adM(h:kn ar ts ao c n):(Γ75 ar ts ao c n h).sp 124=some (rM ar ao c 124 call124 (below n) (US ts) h).spec:=rfl
end
abbrev Bm (n:Nat):Prop:=∀ (t:Rx) (need:Int) (w:World),dp t<n->aI t<=4000000->bB w (Out [])->Calls prog 129 #[aH t,.int .i64 need] w λe w' => e=.returned (.string (Gu t need))/\ah w [] w'
noncomputable def JS(n:Nat)(h:Bm n):aM prog 129 where
 pre:=λW bs as_=>∃ (t:Rx) (need:Int),as_=[.val (aH t),.val (.int .i64 need)]/\dp t<n/\aI t<=4000000/\bB W (Out bs)
 res:=λ_ as_=>match as_ with
  |[.val v,.val (.int _ need)]=>(match dec aH v with
   |some t=>.string (Gu t need)
   |_=>undef)
  |_=>undef
 enters:=call129
 ok:=by
  intro W w bs us as_ hk hu hp;obtain⟨t,need,rfl,h1,h2,h3⟩:=hp
  match us,hu with
  |[x,y],hu=>
   obtain⟨rfl,rfl,_⟩:=hu;simp only[cN cO];exact h t need w h1 h2 (h3.dW hk sI)
section
variable (n:Nat)(h:Bm n)
theorem UC(W:World)(bs:List Nat)(t:Rx)(need:Int):(JS n h).pre W bs [.val (aH t),.val (.int .i64 need)]=(dp t<n/\aI t<=4000000/\bB W (Out bs)):=by
 apply propext;constructor
 ·rintro⟨t',need',h1,h2⟩;simp only[List.cons.injEq,AV.val.injEq,Value.int.injEq,true_and,and_true]at h1;obtain⟨h1,rfl⟩:=h1;obtain rfl:=cO _ _ h1;exact h2
 ·exact λh=>⟨t,need,rfl,h⟩
theorem SD(W:World)(t:Rx)(need:Int):(JS n h).res W [.val (aH t),.val (.int .i64 need)]=.string (Gu t need):=by
 simp only[JS,cN cO]
noncomputable def kq:Env prog:=⟨λ| 129=>some (JS n h).spec|182=>some vp.spec|_=>none,λ_=>none,λ_ _=>none⟩
theorem acC:(kq n h).sp 129=some (JS n h).spec:=rfl
theorem aeH:(kq n h).sp 182=some vp.spec:=rfl
end
def bf:=(aj @List.replicate_succ.{0} @List.replicate_zero.{0} @an @ab jo jl gS (aj ca cc b9 cg cf cj cd (aj ck dc dh cZ db c8 dd (aj vY vX vN wU pF o6 px (aj oZ Wf ZW Xu Zi YD UZ (aj YK Zz aa0 Vr ZB Zc YN (aj Xr Y1 aaX aaU P2 Qt Pa (aj OY Pm Ov PY Zu Wm Xv (aj Zf aat Yi ZS ZX Xt Y3 (aj Vj U1 YT WN V6 aaZ aae (aj aaH aap VA Xp XJ Yg X7 (aj Wu Y5 VF w9 xp xm vS (aj ahY ahW aht ahE ahB ahC ahx (aj ahR @aG @al @ay @ax @ND @Lq (aj @jC @np @nG @ll @qX @jy @bZ (mh @e8 @dX @acC @aeH @UC @SD))))))))))))))))
theorem SE(n:Nat)(h:Bm n):Bm (n+1):=by
 intro t need w hdp hsz hg;have hbs:=dB t;refine af (nt:=82) [.tmp 4] func129 rfl rfl rfl ?_;refine vR (kq n h) bf ?_;refine vR (kq n h) bf ?_;refine aW ⟨200,bm [(1,.is (.v (.int .i64 need))),(5,.is (.v (.string (cq t)))),(6,.is (.v (.int .i64 (u9 t))))],aY []⟩ ?_ ?_
 ·skip;refine vR (kq n h) bf ?_;refine Wp.block ?_;cases t with
  |eps=>
   have hv:aH (.eps)=_:=rfl;unfold aH;refine vR (kq n h) bf ?_;refine wC bf (λhc=>?_) (λhc=>?_)
   rotate_left
   ·exact absurd hc sI
   refine wR (kq n h) bf ?_ ?_
   ·first|trivial|simp
   refine vr (kq n h) bf ?_;exact wM (λk=>.key k) bf
  |cls S=>
   have hv:aH (.cls S)=_:=rfl;unfold aH;refine vR (kq n h) bf ?_;refine wC bf (λhc=>?_) (λhc=>?_)
   ·exact absurd hc sI
   refine vR (kq n h) bf ?_;refine wC bf (λhc=>?_) (λhc=>?_)
   rotate_left
   ·exact absurd hc sI
   refine wR (kq n h) bf ?_ ?_
   ·first|trivial|simp
   refine wr (kq n h) bf ?_ ?_
   ·exact hg
   exact wM (λk=>.key k) bf
  |alt a b=>
   have hd:dp a+dp b+1<n+1:=hdp;have hz:aI a+aI b+1<=4000000:=hsz;have s1:=cV a 0;have s2:=cV b 1;have hv:aH (.alt a b)=_:=rfl;unfold aH;refine vR (kq n h) bf ?_;refine wC bf (λhc=>?_) (λhc=>?_)
   ·exact absurd hc sI
   refine vR (kq n h) bf ?_;refine wC bf (λhc=>?_) (λhc=>?_)
   ·exact absurd hc sI
   refine vR (kq n h) bf ?_;refine wC bf (λhc=>?_) (λhc=>?_)
   rotate_left
   ·exact absurd hc sI
   refine wR (kq n h) bf ?_ ?_
   ·rw[Bool.and_eq_true];exact⟨bZ a,bZ b⟩
   refine xv (kq n h) bf ?_ ?_
   ·exact⟨⟨oM,oM,hg⟩,by show _+1<=_;omega,⟨oM,oM,hg⟩,by rw[ByteArray.size_append];show _+1+_<=_;omega⟩
   exact wM (λk=>.key k) bf
  |and a b=>
   have hd:dp a+dp b+1<n+1:=hdp;have hz:aI a+aI b+1<=4000000:=hsz;have s1:=cV a 1;have s2:=cV b 2;have hv:aH (.and a b)=_:=rfl;unfold aH;refine vR (kq n h) bf ?_;refine wC bf (λhc=>?_) (λhc=>?_)
   ·exact absurd hc sI
   refine vR (kq n h) bf ?_;refine wC bf (λhc=>?_) (λhc=>?_)
   ·exact absurd hc sI
   refine vR (kq n h) bf ?_;refine wC bf (λhc=>?_) (λhc=>?_)
   ·exact absurd hc sI
   refine vR (kq n h) bf ?_;refine wC bf (λhc=>?_) (λhc=>?_)
   rotate_left
   ·exact absurd hc sI
   refine wR (kq n h) bf ?_ ?_
   ·rw[Bool.and_eq_true];exact⟨bZ a,bZ b⟩
   refine xv (kq n h) bf ?_ ?_
   ·exact⟨⟨oM,oM,hg⟩,by show _+1<=_;omega,⟨oM,oM,hg⟩,by rw[ByteArray.size_append];show _+1+_<=_;omega⟩
   exact wM (λk=>.key k) bf
  |minus a b=>
   have hd:dp a+dp b+1<n+1:=hdp;have hz:aI a+aI b+1<=4000000:=hsz;have s1:=cV a 1;have s2:=cV b 2;have hv:aH (.minus a b)=_:=rfl;unfold aH;refine vR (kq n h) bf ?_;refine wC bf (λhc=>?_) (λhc=>?_)
   ·exact absurd hc sI
   refine vR (kq n h) bf ?_;refine wC bf (λhc=>?_) (λhc=>?_)
   ·exact absurd hc sI
   refine vR (kq n h) bf ?_;refine wC bf (λhc=>?_) (λhc=>?_)
   ·exact absurd hc sI
   refine vR (kq n h) bf ?_;refine wC bf (λhc=>?_) (λhc=>?_)
   ·exact absurd hc sI
   refine vR (kq n h) bf ?_;refine wC bf (λhc=>?_) (λhc=>?_)
   rotate_left
   ·exact absurd hc sI
   refine wR (kq n h) bf ?_ ?_
   ·rw[Bool.and_eq_true];exact⟨bZ a,bZ b⟩
   refine xv (kq n h) bf ?_ ?_
   ·exact⟨⟨oM,oM,hg⟩,by show _+1<=_;omega,⟨oM,oM,hg⟩,by rw[ByteArray.size_append];show _+1+_<=_;omega⟩
   exact wM (λk=>.key k) bf
  |cat a b=>
   have hd:dp a+dp b+1<n+1:=hdp;have hz:aI a+aI b+1<=4000000:=hsz;have s1:=cV a 2;have s2:=cV b 3;have hv:aH (.cat a b)=_:=rfl;unfold aH;refine vR (kq n h) bf ?_;refine wC bf (λhc=>?_) (λhc=>?_)
   ·exact absurd hc sI
   refine vR (kq n h) bf ?_;refine wC bf (λhc=>?_) (λhc=>?_)
   ·exact absurd hc sI
   refine vR (kq n h) bf ?_;refine wC bf (λhc=>?_) (λhc=>?_)
   ·exact absurd hc sI
   refine vR (kq n h) bf ?_;refine wC bf (λhc=>?_) (λhc=>?_)
   ·exact absurd hc sI
   refine vR (kq n h) bf ?_;refine wC bf (λhc=>?_) (λhc=>?_)
   ·exact absurd hc sI
   refine vR (kq n h) bf ?_;refine wC bf (λhc=>?_) (λhc=>?_)
   rotate_left
   ·exact absurd hc sI
   refine wR (kq n h) bf ?_ ?_
   ·rw[Bool.and_eq_true];exact⟨bZ a,bZ b⟩
   refine xv (kq n h) bf ?_ ?_
   ·exact⟨⟨oM,oM,hg⟩,⟨oM,oM,hg⟩,oM⟩
   exact wM (λk=>.key k) bf
  |star a=>
   have hd:dp a+1<n+1:=hdp;have hz:aI a+1<=4000000:=hsz;have s1:=cV a 3;have hv:aH (.star a)=_:=rfl;unfold aH;refine vR (kq n h) bf ?_;refine wC bf (λhc=>?_) (λhc=>?_)
   ·exact absurd hc sI
   refine vR (kq n h) bf ?_;refine wC bf (λhc=>?_) (λhc=>?_)
   ·exact absurd hc sI
   refine vR (kq n h) bf ?_;refine wC bf (λhc=>?_) (λhc=>?_)
   ·exact absurd hc sI
   refine vR (kq n h) bf ?_;refine wC bf (λhc=>?_) (λhc=>?_)
   ·exact absurd hc sI
   refine vR (kq n h) bf ?_;refine wC bf (λhc=>?_) (λhc=>?_)
   ·exact absurd hc sI
   refine vR (kq n h) bf ?_;refine wC bf (λhc=>?_) (λhc=>?_)
   ·exact absurd hc sI
   refine vR (kq n h) bf ?_;refine wC bf (λhc=>?_) (λhc=>?_)
   rotate_left
   ·exact absurd hc sI
   refine wR (kq n h) bf ?_ ?_
   ·exact bZ a
   refine wr (kq n h) bf ?_ ?_
   ·exact⟨⟨oM,oM,hg⟩,by show _+1<=_;omega⟩
   exact wM (λk=>.key k) bf
 refine Wp.seq ?_;refine vR (kq n h) bf ?_;refine wC bf (λhc=>?_) (λhc=>?_)
 ·have hlt:u9 t<need:=by simpa using hc
  have e:Gu t need=lpB++cq t++rpB:=by rw[Gu,qc,if_pos hlt]
  rw[e];refine wR (kq n h) bf ?_ ?_
  ·refine⟨?_,?_⟩
   ·show 1+_<=_;omega
   ·rw[ByteArray.size_append];show 1+_+1<=_;omega
  refine wZ bf ?_;exact λE=>rfl
 ·have hlt:¬ u9 t<need:=by simpa using hc
  have e:Gu t need=cq t:=by rw[Gu,qc,if_neg hlt]
  rw[e];refine wK ?_;refine vR (kq n h) bf ?_;refine wZ bf ?_;exact λE=>rfl
theorem Bq:∀ n,Bm n
 |0=>λt _ _ h=>absurd h (Nat.not_lt_zero _)
 |n+1=>SE n (Bq n)
theorem aaJ(t:Rx):Gu t 0=cq t:=by
 rw[Gu,qc,if_neg];cases t<;>simp[u9]
theorem N4(t:Rx)(w:World)(hsz:aI t<=4000000)(hg:bB w (Out [])):Calls prog 72 #[aH t] w λe w' => e=.returned (.string (cq t))/\ah w [] w' := by
 refine af (nt:=5) [.tmp 2] func72 rfl rfl rfl ?_;refine vR (kq (dp t+1) (Bq _)) bf ?_;refine wR (kq (dp t+1) (Bq _)) (aa bf @aaJ) ?_ ?_
 ·exact⟨oM,hsz,hg⟩
 refine wZ bf ?_;exact λE=>rfl
noncomputable def mj:aM prog 72 where
 pre:=λW bs=>λ| [.val y0]=>(match dec aH y0 with|some t=>aI t<=4000000/\bB W (Out bs)|_=>False)|_=>False
 res:=λW=>λ| [.val y0]=>(match dec aH y0 with|some t=>.string (cq t)|_=>undef)|_=>undef
 enters:=call72
 ok:=by
  intro W w bs us as_ hk hu hp;split at hp
  ·rename_i y0;split at hp
   ·rename_i t h0
    match us,hu with
    |[u0],hu=>
     obtain⟨rfl,_⟩:=hu;obtain rfl:=gX h0
     try dsimp only
     try simp only[cN cO]
     exact N4 t w hp.1 (hp.2.dW hk sI)
   ·exact hp.elim
  ·exact hp.elim
theorem JP(W:World)(t:Rx):mj.res W [.val (aH t)]=.string (cq t):=by simp only[mj,cN cO]
theorem J1(W:World)(bs:List Nat)(t:Rx):mj.pre W bs [.val (aH t)]=(aI t<=4000000/\bB W (Out bs)):=by simp only[mj,cN cO]
theorem AW{s:ByteArray}{t:RT}(h:kP s=.ok t):aI t.expand<=2000:=by
 have hd:iM (bt s) s.size (gU s)=.ok t:=h;have h1:=nr (c:=bt s) (N:=s.size) (rd:=gU s) oM;have hz:t.sz<=2000:=by
  unfold iM at hd;split at hd
  ·cases hd
  ·unfold py at hd;split at hd
   ·cases hd
   ·split at hd
    ·cases hd
    ·split at hd
     ·cases hd
     ·simp only[Except.ok.injEq]at hd;rename_i hn;rw[<- hd];omega
 rw[hd]at h1;cases h2:ku (bt s) s.size (gU s) with
 |error e=>rw[h2]at h1;exact h1.elim
 |ok q=>
  rw[h2]at h1;obtain⟨ts,a1,a2,a3⟩:=h1;exact a1.small (List.mem_of_getElem? a3) hz
theorem DU(s:ByteArray):rm s=alX (kP s):=S9 (wV s) oM
def uq(s:ByteArray):Bool:=match kP s with
 |.ok t=>decide (cq t.expand=s)
 |.error _=>false
def om(n m:Int):Bool:=decide (0<=n)&&decide (n<m)
def ac3:=(aj @List.replicate_succ.{0} @List.replicate_zero.{0} @an @ab jo jl gS (aj ca cc b9 cg cf cj cd (aj ck dc dh cZ db c8 dd (aj sk ss se rO Jq GS Hl (aj Hc zy zK zP Bc A3 Bu (aj AF Bs An B4 B9 B3 BM (aj B2 BN Cl Ce ry Kh H9 (mh Ka Ic @aG @al @ay @ax))))))))
theorem NW(n m:Int)(w:World):Calls prog 31 #[.int .i64 n,.int .i64 m] w λe w' => e=.returned (.bool (om n m))/\ah w [] w' := by
 refine af (nt:=12) [.tmp 4] func31 rfl rfl rfl ?_;refine vR Γ0 ac3 ?_;refine vR Γ0 ac3 ?_;refine wZ ac3 ?_;exact λE=>rfl
def qY:aM prog 31 where
 pre:=λW bs=>λ| [.val (.int .i64 n),.val (.int .i64 m)]=>True|_=>False
 res:=λW=>λ| [.val (.int .i64 n),.val (.int .i64 m)]=>.bool (om n m)|_=>undef
 enters:=call31
 ok:=by
  intro W w bs us as_ hk hu hp;split at hp
  ·rename_i n m
   match us,hu with
   |[u0,u1],hu=>
    obtain⟨rfl,rfl,_⟩:=hu;exact NW n m w
  ·exact hp.elim
theorem pZ(W:World)(n:Int)(m:Int):qY.res W [.val (.int .i64 n),.val (.int .i64 m)]=.bool (om n m):=rfl
theorem qm(W:World)(bs:List Nat)(n:Int)(m:Int):qY.pre W bs [.val (.int .i64 n),.val (.int .i64 m)]=(True):=rfl
def dq(op:Int):ByteArray×ByteArray:=
 if op=0 then (⟨#[104,97,108,116]⟩,⟨#[]⟩)
 else if op=1 then (⟨#[99,97,108,108]⟩,⟨#[97]⟩)
 else if op=2 then (⟨#[114,101,116]⟩,⟨#[]⟩)
 else if op=3 then (⟨#[106,117,109,112]⟩,⟨#[97]⟩)
 else if op=4 then (⟨#[101,109,105,116]⟩,⟨#[107]⟩)
 else if op=5 then (⟨#[100,114,111,112]⟩,⟨#[107]⟩)
 else if op=6 then (⟨#[116,101,120,116]⟩,⟨#[120]⟩)
 else if op=7 then (⟨#[112,117,115,104]⟩,⟨#[107,120]⟩)
 else if op=8 then (⟨#[100,117,112]⟩,⟨#[107]⟩)
 else if op=9 then (⟨#[102,108,105,112]⟩,⟨#[107]⟩)
 else if op=10 then (⟨#[109,111,118,101]⟩,⟨#[107]⟩)
 else if op=11 then (⟨#[111,112,101,110]⟩,⟨#[]⟩)
 else if op=12 then (⟨#[116,97,107,101]⟩,⟨#[107]⟩)
 else if op=13 then (⟨#[108,111,119,101,114]⟩,⟨#[107]⟩)
 else if op=14 then (⟨#[99,117,116]⟩,⟨#[107,116,116]⟩)
 else if op=15 then (⟨#[105,110]⟩,⟨#[107,116,97]⟩)
 else if op=16 then (⟨#[99,104,117,110,107]⟩,⟨#[107,116]⟩)
 else if op=17 then (⟨#[109,111,114,101]⟩,⟨#[97]⟩)
 else if op=18 then (⟨#[122,105,112]⟩,⟨#[]⟩)
 else if op=19 then (⟨#[97,108,105,103,110]⟩,⟨#[97,97]⟩)
 else if op=20 then (⟨#[112,108,97,110]⟩,⟨#[97,97]⟩)
 else (⟨#[]⟩,⟨#[]⟩)
def bc:=(bQ ac3 @pZ @qm)
theorem Ws(op:Int)(w:World):Calls prog 70 #[.int .i64 op] w λe w' => e=.returned (.tuple #[.string (dq op).1,.string (dq op).2])/\ah w [] w' := by
 refine af (nt:=47) [.tmp 2,.tmp 3] func70 rfl rfl rfl ?_;refine vR Γ0 bc ?_;refine Wp.seq ?_;refine vR Γ0 bc ?_;refine Wp.block ?_;unfold dq;refine vR Γ0 bc ?_;refine wC bc (λhc=>?_) (λhc=>?_)
 ·have h:op=0:=by simpa using hc
  rw[if_pos h];refine vR Γ0 bc ?_;refine wZ bc ?_;exact λE=>rfl
 rw[if_neg (show ¬ op=0 by simpa using hc)];clear hc;refine vR Γ0 bc ?_;refine wC bc (λhc=>?_) (λhc=>?_)
 ·have h:op=1:=by simpa using hc
  rw[if_pos h];refine vR Γ0 bc ?_;refine wZ bc ?_;exact λE=>rfl
 rw[if_neg (show ¬ op=1 by simpa using hc)];clear hc;refine vR Γ0 bc ?_;refine wC bc (λhc=>?_) (λhc=>?_)
 ·have h:op=2:=by simpa using hc
  rw[if_pos h];refine vR Γ0 bc ?_;refine wZ bc ?_;exact λE=>rfl
 rw[if_neg (show ¬ op=2 by simpa using hc)];clear hc;refine vR Γ0 bc ?_;refine wC bc (λhc=>?_) (λhc=>?_)
 ·have h:op=3:=by simpa using hc
  rw[if_pos h];refine vR Γ0 bc ?_;refine wZ bc ?_;exact λE=>rfl
 rw[if_neg (show ¬ op=3 by simpa using hc)];clear hc;refine vR Γ0 bc ?_;refine wC bc (λhc=>?_) (λhc=>?_)
 ·have h:op=4:=by simpa using hc
  rw[if_pos h];refine vR Γ0 bc ?_;refine wZ bc ?_;exact λE=>rfl
 rw[if_neg (show ¬ op=4 by simpa using hc)];clear hc;refine vR Γ0 bc ?_;refine wC bc (λhc=>?_) (λhc=>?_)
 ·have h:op=5:=by simpa using hc
  rw[if_pos h];refine vR Γ0 bc ?_;refine wZ bc ?_;exact λE=>rfl
 rw[if_neg (show ¬ op=5 by simpa using hc)];clear hc;refine vR Γ0 bc ?_;refine wC bc (λhc=>?_) (λhc=>?_)
 ·have h:op=6:=by simpa using hc
  rw[if_pos h];refine vR Γ0 bc ?_;refine wZ bc ?_;exact λE=>rfl
 rw[if_neg (show ¬ op=6 by simpa using hc)];clear hc;refine vR Γ0 bc ?_;refine wC bc (λhc=>?_) (λhc=>?_)
 ·have h:op=7:=by simpa using hc
  rw[if_pos h];refine vR Γ0 bc ?_;refine wZ bc ?_;exact λE=>rfl
 rw[if_neg (show ¬ op=7 by simpa using hc)];clear hc;refine vR Γ0 bc ?_;refine wC bc (λhc=>?_) (λhc=>?_)
 ·have h:op=8:=by simpa using hc
  rw[if_pos h];refine vR Γ0 bc ?_;refine wZ bc ?_;exact λE=>rfl
 rw[if_neg (show ¬ op=8 by simpa using hc)];clear hc;refine vR Γ0 bc ?_;refine wC bc (λhc=>?_) (λhc=>?_)
 ·have h:op=9:=by simpa using hc
  rw[if_pos h];refine vR Γ0 bc ?_;refine wZ bc ?_;exact λE=>rfl
 rw[if_neg (show ¬ op=9 by simpa using hc)];clear hc;refine vR Γ0 bc ?_;refine wC bc (λhc=>?_) (λhc=>?_)
 ·have h:op=10:=by simpa using hc
  rw[if_pos h];refine vR Γ0 bc ?_;refine wZ bc ?_;exact λE=>rfl
 rw[if_neg (show ¬ op=10 by simpa using hc)];clear hc;refine vR Γ0 bc ?_;refine wC bc (λhc=>?_) (λhc=>?_)
 ·have h:op=11:=by simpa using hc
  rw[if_pos h];refine vR Γ0 bc ?_;refine wZ bc ?_;exact λE=>rfl
 rw[if_neg (show ¬ op=11 by simpa using hc)];clear hc;refine vR Γ0 bc ?_;refine wC bc (λhc=>?_) (λhc=>?_)
 ·have h:op=12:=by simpa using hc
  rw[if_pos h];refine vR Γ0 bc ?_;refine wZ bc ?_;exact λE=>rfl
 rw[if_neg (show ¬ op=12 by simpa using hc)];clear hc;refine vR Γ0 bc ?_;refine wC bc (λhc=>?_) (λhc=>?_)
 ·have h:op=13:=by simpa using hc
  rw[if_pos h];refine vR Γ0 bc ?_;refine wZ bc ?_;exact λE=>rfl
 rw[if_neg (show ¬ op=13 by simpa using hc)];clear hc;refine vR Γ0 bc ?_;refine wC bc (λhc=>?_) (λhc=>?_)
 ·have h:op=14:=by simpa using hc
  rw[if_pos h];refine vR Γ0 bc ?_;refine wZ bc ?_;exact λE=>rfl
 rw[if_neg (show ¬ op=14 by simpa using hc)];clear hc;refine vR Γ0 bc ?_;refine wC bc (λhc=>?_) (λhc=>?_)
 ·have h:op=15:=by simpa using hc
  rw[if_pos h];refine vR Γ0 bc ?_;refine wZ bc ?_;exact λE=>rfl
 rw[if_neg (show ¬ op=15 by simpa using hc)];clear hc;refine vR Γ0 bc ?_;refine wC bc (λhc=>?_) (λhc=>?_)
 ·have h:op=16:=by simpa using hc
  rw[if_pos h];refine vR Γ0 bc ?_;refine wZ bc ?_;exact λE=>rfl
 rw[if_neg (show ¬ op=16 by simpa using hc)];clear hc;refine vR Γ0 bc ?_;refine wC bc (λhc=>?_) (λhc=>?_)
 ·have h:op=17:=by simpa using hc
  rw[if_pos h];refine vR Γ0 bc ?_;refine wZ bc ?_;exact λE=>rfl
 rw[if_neg (show ¬ op=17 by simpa using hc)];clear hc;refine vR Γ0 bc ?_;refine wC bc (λhc=>?_) (λhc=>?_)
 ·have h:op=18:=by simpa using hc
  rw[if_pos h];refine vR Γ0 bc ?_;refine wZ bc ?_;exact λE=>rfl
 rw[if_neg (show ¬ op=18 by simpa using hc)];clear hc;refine vR Γ0 bc ?_;refine wC bc (λhc=>?_) (λhc=>?_)
 ·have h:op=19:=by simpa using hc
  rw[if_pos h];refine vR Γ0 bc ?_;refine wZ bc ?_;exact λE=>rfl
 rw[if_neg (show ¬ op=19 by simpa using hc)];clear hc;refine vR Γ0 bc ?_;refine wC bc (λhc=>?_) (λhc=>?_)
 ·have h:op=20:=by simpa using hc
  rw[if_pos h];refine vR Γ0 bc ?_;refine wZ bc ?_;exact λE=>rfl
 rw[if_neg (show ¬ op=20 by simpa using hc)];clear hc;refine wK ?_;refine vR Γ0 bc ?_;refine wZ bc ?_;exact λE=>rfl
def DQ:aM prog 70 where
 pre:=λW bs=>λ| [.val (.int .i64 op)]=>True|_=>False
 res:=λW=>λ| [.val (.int .i64 op)]=>.tuple #[.string (dq op).1,.string (dq op).2]|_=>undef
 enters:=call70
 ok:=by
  intro W w bs us as_ hk hu hp;split at hp
  ·rename_i op
   match us,hu with
   |[u0],hu=>
    obtain⟨rfl,_⟩:=hu;exact Ws op w
  ·exact hp.elim
theorem uM(W:World)(op:Int):DQ.res W [.val (.int .i64 op)]=.tuple #[.string (dq op).1,.string (dq op).2]:=rfl
theorem uw(W:World)(bs:List Nat)(op:Int):DQ.pre W bs [.val (.int .i64 op)]=(True):=rfl
abbrev pgV (a1 a2 a3:Option Addr)(n1 n2 n3 c1 c2 c3:Nat)(s v:Int):Value:=.agg #[.slice a1 n1 c1,.slice a2 n2 c2,.slice a3 n3 c3,.int .i64 s,.int .i64 v]
def sT(n1 n2 n3:Nat)(u n:Int):Bool:=if u=1 then om n n3 else if u=2 then om n n1 else if u=3 then om n n2 else decide (n=0)
def jX:=(bQ bc @uM @uw)
theorem Vw(a1 a2 a3:Option Addr)(n1 n2 n3 c1 c2 c3:Nat)(s v u n:Int)(w:World):Calls prog 73 #[pgV a1 a2 a3 n1 n2 n3 c1 c2 c3 s v,.int .i64 u,.int .i64 n] w λe w' => e=.returned (.bool (sT n1 n2 n3 u n))/\ah w [] w' := by
 refine af (nt:=33) [.tmp 6] func73 rfl rfl rfl ?_;refine vR Γ0 jX ?_;refine vR Γ0 jX ?_;by_cases hu:u=1\/u=2\/u=3
 ·obtain⟨m,hm⟩:∃ m:Nat,m=if u=1 then n3 else if u=2 then n1 else n2:=⟨_,rfl⟩;have e:sT n1 n2 n3 u n=om n m:=by
   rw[sT];rcases hu with h|h|h
   ·rw[hm,if_pos h,if_pos h]
   ·rw[hm,if_neg oM,if_pos h,if_neg oM,if_pos h]
   ·rw[hm,if_neg oM,if_neg oM,if_pos h,if_neg oM,if_neg oM]
  rw[e];refine aW ⟨60,bm [(2,.is (.v (.int .i64 n))),(7,.is (.v (.int .i64 (m:Nat))))],aY []⟩ ?_ ?_
  ·skip;refine vR Γ0 jX ?_;refine Wp.block ?_;refine vR Γ0 jX ?_;refine wC jX (λhc=>?_) (λhc=>?_)
   ·have h:u=1:=by simpa using hc
    rw[if_pos h]at hm;subst hm;refine vr Γ0 jX ?_;exact wM (λk=>.key k) jX
   have n1' : ¬ u=1:=by simpa using hc
   rw[if_neg n1']at hm;refine vR Γ0 jX ?_;refine wC jX (λhc=>?_) (λhc=>?_)
   ·have h:u=2:=by simpa using hc
    rw[if_pos h]at hm;subst hm;refine vr Γ0 jX ?_;exact wM (λk=>.key k) jX
   have n2' : ¬ u=2:=by simpa using hc
   rw[if_neg n2']at hm;refine vR Γ0 jX ?_;refine wC jX (λhc=>?_) (λhc=>?_)
   ·subst hm;refine vr Γ0 jX ?_;exact wM (λk=>.key k) jX
   ·exact absurd (by omega:u=3) (by simpa using hc)
  refine vR Γ0 jX ?_;refine wZ jX ?_;exact λE=>rfl
 ·have e:sT n1 n2 n3 u n=decide (n=0):=by rw[sT,if_neg oM,if_neg oM,if_neg oM]
  rw[e];refine Wp.seq ?_;refine vR Γ0 jX ?_;refine Wp.block ?_;refine vR Γ0 jX ?_;refine wC jX (λhc=>?_) (λhc=>?_)
  ·exact absurd (.inl (by simpa using hc)) hu
  refine vR Γ0 jX ?_;refine wC jX (λhc=>?_) (λhc=>?_)
  ·exact absurd (.inr (.inl (by simpa using hc))) hu
  refine vR Γ0 jX ?_;refine wC jX (λhc=>?_) (λhc=>?_)
  ·exact absurd (.inr (.inr (by simpa using hc))) hu
  refine vR Γ0 jX ?_;refine wZ jX ?_;exact λE=>rfl
def Dz:aM prog 73 where
 pre:=λW bs as_=>∃ (a1 a2 a3:Option Addr) (n1 n2 n3 c1 c2 c3:Nat) (s v u n:Int),as_=[.val (pgV a1 a2 a3 n1 n2 n3 c1 c2 c3 s v),.val (.int .i64 u),.val (.int .i64 n)]
 res:=λ_ as_=>match as_ with
  |[.val (.agg arr),.val (.int _ u),.val (.int _ n)]=>(match arr.toList with
   |[.slice _ n1 _,.slice _ n2 _,.slice _ n3 _,_,_]=>.bool (sT n1 n2 n3 u n)
   |_=>undef)
  |_=>undef
 enters:=call73
 ok:=by
  intro W w bs us as_ hk hu hp;obtain⟨a1,a2,a3,n1,n2,n3,c1,c2,c3,s,v,u,n,rfl⟩:=hp
  match us,hu with
  |[x,y,z],hu=>
   obtain⟨rfl,rfl,rfl,_⟩:=hu;exact Vw a1 a2 a3 n1 n2 n3 c1 c2 c3 s v u n w
section
variable (W:World)(bs:List Nat)(a1 a2 a3:Option Addr)(n1 n2 n3 c1 c2 c3:Nat)(s v u n:Int)
theorem CM:Dz.pre W bs [.val (.agg #[.slice a1 n1 c1,.slice a2 n2 c2,.slice a3 n3 c3,.int .i64 s,.int .i64 v]),.val (.int .i64 u),.val (.int .i64 n)]=True:=eq_true ⟨a1,a2,a3,n1,n2,n3,c1,c2,c3,s,v,u,n,rfl⟩
theorem Dj:Dz.res W [.val (.agg #[.slice a1 n1 c1,.slice a2 n2 c2,.slice a3 n3 c3,.int .i64 s,.int .i64 v]),.val (.int .i64 u),.val (.int .i64 n)]=.bool (sT n1 n2 n3 u n):=rfl
end
def acx:List (ByteArray×Bool×Int×Int):=[(⟨#[104,97,108,116]⟩,false,0,0),(⟨#[99,97,108,108]⟩,false,1,0),(⟨#[114,101,116]⟩,false,0,0),(⟨#[106,117,109,112]⟩,false,1,0),(⟨#[101,109,105,116]⟩,true,0,0),(⟨#[100,114,111,112]⟩,true,0,0),(⟨#[116,101,120,116]⟩,false,3,0),(⟨#[112,117,115,104]⟩,true,3,0),(⟨#[100,117,112]⟩,true,0,0),(⟨#[102,108,105,112]⟩,true,0,0),(⟨#[109,111,118,101]⟩,true,0,0),(⟨#[111,112,101,110]⟩,false,0,0),(⟨#[116,97,107,101]⟩,true,0,0),(⟨#[108,111,119,101,114]⟩,true,0,0),(⟨#[99,117,116]⟩,true,2,2),(⟨#[105,110]⟩,true,2,1),(⟨#[99,104,117,110,107]⟩,true,2,0),(⟨#[109,111,114,101]⟩,false,1,0),(⟨#[122,105,112]⟩,false,0,0),(⟨#[97,108,105,103,110]⟩,false,1,1),(⟨#[112,108,97,110]⟩,false,1,1)]
def gq(n:Nat):ByteArray×Bool×Int×Int:=acx.getD n (⟨#[]⟩,false,0,0)
def fS(W:World)(S:Nat->Prop):Prop:=S 0/\∀ n<21,W.cell? ⟨0,n*4,none⟩=some (.string (gq n).1)/\W.cell? ⟨0,n*4+1,none⟩=some (.bool (gq n).2.1)/\W.cell? ⟨0,n*4+2,none⟩=some (.int .i64 (gq n).2.2.1)/\W.cell? ⟨0,n*4+3,none⟩=some (.int .i64 (gq n).2.2.2)
theorem fS.mono{W W' : World}{S S' : Nat->Prop}(h:fS W S)(hs:cT W S W' S'):fS W' S' := by
 obtain⟨h0,h1⟩:=h;have g:∀ o v,W.cell? ⟨0,o,none⟩=some v->W'.cell? ⟨0,o,none⟩=some v/\S' 0:=λo v hv=>by
  have:=XC.mono (b:=0) (o:=o) (v:=v) ⟨h0,hv⟩ hs;exact⟨this.2,this.1⟩
 refine⟨(g _ _ (h1 0 oM).1).2,λn hn=>?_⟩;obtain⟨a,b,c,d⟩:=h1 n hn;exact⟨(g _ _ a).1,(g _ _ b).1,(g _ _ c).1,(g _ _ d).1⟩
theorem fS.dW{W w:World}{bs fp:List Nat}(h:fS W (Out bs))(hk:ah W bs w)(hm:∀ b∈fp,W.heap.size<=b\/b∈bs):fS w (Out fp):=
 h.mono λb hb hs=>⟨hk.block b hb hs,λhb' => (hm b hb').elim (λg=>absurd g (Nat.not_le.2 hb)) hs⟩
def nZ(n1 n2 n3:Nat)(op k a b:Int):Bool:=
 decide (0<=op/\op<21)&&(decide (k=0)||((gq op.toNat).2.1&&decide (k=1)))&&(sT n1 n2 n3 (gq op.toNat).2.2.1 a&&sT n1 n2 n3 (gq op.toNat).2.2.2 b)
abbrev inV (op k a b:Int):Value:=.agg #[.int .i64 op,.int .i64 k,.int .i64 a,.int .i64 b]
noncomputable def Γ89:Env prog:=⟨λ| 73=>some Dz.spec|_=>none,λ| _=>none,λ_ _=>none⟩
theorem ai4:Γ89.sp 73=some Dz.spec:=rfl
def xM:=(aj @List.replicate_succ.{0} @List.replicate_zero.{0} @an @ab jo jl gS (aj ca cc b9 cg cf cj cd (aj ck zy zK zP Bc A3 Bu (aj AF Bs An B4 B9 B3 BM (aj B2 BN Cl Ce ry Kh H9 (aj Ka Ic VR Yt ZI W6 WC (aj aab XW XK V4 X4 Wd @aG (mh @al @ay @ax @Dj @CM ai4))))))))
theorem UP(a1 a2 a3:Option Addr)(n1 n2 n3 c1 c2 c3:Nat)(s v op k a b:Int)(w:World)(hg:fS w (Out [])):Calls prog 74 #[pgV a1 a2 a3 n1 n2 n3 c1 c2 c3 s v,inV op k a b] w λe w' => e=.returned (.bool (nZ n1 n2 n3 op k a b))/\ah w [] w' := by
 refine af (nt:=45) [.tmp 4] func74 rfl rfl rfl ?_;refine vR Γ89 xM ?_;refine Wp.seq ?_;refine vR Γ89 xM ?_;refine wC xM (λhc=>?_) (λhc=>?_)
 ·have h:¬ (0<=op/\op<21):=by simp at hc;omega
  have e:nZ n1 n2 n3 op k a b=false:=by rw[nZ,decide_eq_false h];rfl
  rw[e];refine vR Γ89 xM ?_;refine wZ xM ?_;exact λE=>rfl
 have h:0<=op/\op<21:=by simp at hc;omega
 obtain⟨n,rfl⟩:=Int.eq_ofNat_of_zero_le h.1;obtain⟨g1,g2,g3,g4⟩:=hg.2 n oM;refine wK ?_;refine wR Γ89 (oy xM g1 g2 g3 g4) ?_ ?_
 ·omega
 have hs:nZ n1 n2 n3 n k a b=((decide (k=0)||((gq n).2.1&&decide (k=1)))&&(sT n1 n2 n3 (gq n).2.2.1 a&&sT n1 n2 n3 (gq n).2.2.2 b)):=by
  rw[nZ,decide_eq_true h,Bool.true_and,Int.toNat_natCast]
 rw[hs];generalize (gq n).2.1=st at *;generalize (gq n).2.2.1=u1 at *;generalize (gq n).2.2.2=u2 at *;have hk:(decide (k=0)||(st&&decide (k=1)))=!(!decide (k=0)&&(!st||!decide (k=1))):=by
  cases st<;>cases decide (k=0)<;>cases decide (k=1)<;>rfl
 rw[hk];refine Wp.seq ?_;refine vR Γ89 xM ?_;refine wC xM (λhc=>?_) (λhc=>?_)
 ·rw[hc];refine vR Γ89 xM ?_;refine wZ xM ?_;exact λE=>rfl
 ·rw[hc];refine wK ?_;refine vR Γ89 xM ?_;refine wZ xM ?_;exact λE=>rfl
def EK:aM prog 74 where
 pre:=λW bs as_=>(∃ (a1 a2 a3:Option Addr) (n1 n2 n3 c1 c2 c3:Nat) (s v op k a b:Int),as_=[.val (pgV a1 a2 a3 n1 n2 n3 c1 c2 c3 s v),.val (inV op k a b)])/\fS W (Out bs)
 res:=λ_ as_=>match as_ with
  |[.val (.agg arr),.val (.agg ins)]=>(match arr.toList,ins.toList with
   |[.slice _ n1 _,.slice _ n2 _,.slice _ n3 _,_,_],[.int _ op,.int _ k,.int _ a,.int _ b]=>.bool (nZ n1 n2 n3 op k a b)
   |_,_=>undef)
  |_=>undef
 enters:=call74
 ok:=by
  intro W w bs us as_ hk hu hp;obtain⟨⟨a1,a2,a3,n1,n2,n3,c1,c2,c3,s,v,op,k,a,b,rfl⟩,hg⟩:=hp
  match us,hu with
  |[x,y],hu=>
   obtain⟨rfl,rfl,_⟩:=hu;exact UP a1 a2 a3 n1 n2 n3 c1 c2 c3 s v op k a b w (hg.dW hk sI)
section
variable (W:World)(bs:List Nat)(a1 a2 a3:Option Addr)(n1 n2 n3 c1 c2 c3:Nat)(s v op k a b:Int)
theorem MC:EK.pre W bs [.val (.agg #[.slice a1 n1 c1,.slice a2 n2 c2,.slice a3 n3 c3,.int .i64 s,.int .i64 v]),.val (.agg #[.int .i64 op,.int .i64 k,.int .i64 a,.int .i64 b])]=fS W (Out bs):=
 propext ⟨λh=>h.2,λh=>⟨⟨a1,a2,a3,n1,n2,n3,c1,c2,c3,s,v,op,k,a,b,rfl⟩,h⟩⟩
theorem N5:EK.res W [.val (.agg #[.slice a1 n1 c1,.slice a2 n2 c2,.slice a3 n3 c3,.int .i64 s,.int .i64 v]),.val (.agg #[.int .i64 op,.int .i64 k,.int .i64 a,.int .i64 b])]=.bool (nZ n1 n2 n3 op k a b):=rfl
end
section
variable (n1 n2 n3:Nat)
def okQ(c v:Int):Bool:=if c=120 then om v n2 else if c=116 then om v n1 else om v n3
def Db(q:ByteArray)(i v:Int):Bool:=if (q.size:Int)<=i then decide (v=0) else okQ n1 n2 n3 (bt q i) v
def Df(q:ByteArray)(a b:Int):Bool:=Db n1 n2 n3 q 0 a&&Db n1 n2 n3 q 1 b
def isK(q:ByteArray):Bool:=decide (0<(q.size:Int))&&decide (bt q 0=107)
def Su(ww q:ByteArray)(k a b:Int):Bool:=
 !decide (ww=⟨#[]⟩)&&(bif isK q then (decide (k=0)||decide (k=1))&&Df n1 n2 n3 (q.extract 1 q.size) a b else decide (k=0)&&Df n1 n2 n3 q a b)
theorem S4(op:Int)(h:¬ (0<=op/\op<21)):dq op=(⟨#[]⟩,⟨#[]⟩):=by
 unfold dq;rw[if_neg (show ¬ op=0 by omega)];rw[if_neg (show ¬ op=1 by omega)];rw[if_neg (show ¬ op=2 by omega)];rw[if_neg (show ¬ op=3 by omega)];rw[if_neg (show ¬ op=4 by omega)];rw[if_neg (show ¬ op=5 by omega)];rw[if_neg (show ¬ op=6 by omega)];rw[if_neg (show ¬ op=7 by omega)]
 rw[if_neg (show ¬ op=8 by omega)];rw[if_neg (show ¬ op=9 by omega)];rw[if_neg (show ¬ op=10 by omega)];rw[if_neg (show ¬ op=11 by omega)];rw[if_neg (show ¬ op=12 by omega)];rw[if_neg (show ¬ op=13 by omega)];rw[if_neg (show ¬ op=14 by omega)];rw[if_neg (show ¬ op=15 by omega)]
 rw[if_neg (show ¬ op=16 by omega)];rw[if_neg (show ¬ op=17 by omega)];rw[if_neg (show ¬ op=18 by omega)];rw[if_neg (show ¬ op=19 by omega)];rw[if_neg (show ¬ op=20 by omega)]
theorem akj(op k a b:Int):Su n1 n2 n3 (dq op).1 (dq op).2 k a b=nZ n1 n2 n3 op k a b:=by
 by_cases h:0<=op/\op<21
 ·obtain⟨n,rfl⟩:=Int.eq_ofNat_of_zero_le h.1;have hn:n<21:=oM;unfold Su nZ;generalize decide (k=0)=x;generalize decide (k=1)=y
  match n,hn with
  |0,_=>cases x<;>cases y<;>rfl
  |1,_=>cases x<;>cases y<;>rfl
  |2,_=>cases x<;>cases y<;>rfl
  |3,_=>cases x<;>cases y<;>rfl
  |4,_=>cases x<;>cases y<;>rfl
  |5,_=>cases x<;>cases y<;>rfl
  |6,_=>cases x<;>cases y<;>rfl
  |7,_=>cases x<;>cases y<;>rfl
  |8,_=>cases x<;>cases y<;>rfl
  |9,_=>cases x<;>cases y<;>rfl
  |10,_=>cases x<;>cases y<;>rfl
  |11,_=>cases x<;>cases y<;>rfl
  |12,_=>cases x<;>cases y<;>rfl
  |13,_=>cases x<;>cases y<;>rfl
  |14,_=>cases x<;>cases y<;>rfl
  |15,_=>cases x<;>cases y<;>rfl
  |16,_=>cases x<;>cases y<;>rfl
  |17,_=>cases x<;>cases y<;>rfl
  |18,_=>cases x<;>cases y<;>rfl
  |19,_=>cases x<;>cases y<;>rfl
  |20,_=>cases x<;>cases y<;>rfl
 ·rw[S4 op h,nZ,decide_eq_false h];rfl
end
noncomputable def nM:Env prog:=⟨λ| 31=>some qY.spec|70=>some DQ.spec|_=>none,λ| _=>none,λ_ _=>none⟩
theorem ah2:nM.sp 31=some qY.spec:=rfl
theorem ajq:nM.sp 70=some DQ.spec:=rfl
def bF:=(aj @List.replicate_succ.{0} @List.replicate_zero.{0} @an @ab jo jl ty5 (aj ty6 ty7 ty8 gS ca cc b9 (aj cg cf cj cd ck fu fE (aj fj fz fw dc dh cZ db (aj c8 dd sk ss se rO aex (aj agK af5 ae4 aaQ aan Yl U9 (aj Wt Yh VK Zn Xw HM JG (aj HK Kf G7 IY JH Ja GX (aj ahG aho OU OW Ql OI @aG (aj @al @ay @ax @uM @uw @pZ @qm (aa ah2 ajq)))))))))))
theorem Me(a1 a2 a3:Option Addr)(n1 n2 n3 c1 c2 c3:Nat)(s v op k a b:Int)(w:World):Calls prog 32 #[pgV a1 a2 a3 n1 n2 n3 c1 c2 c3 s v,inV op k a b] w λe w' => e=.returned (.bool (nZ n1 n2 n3 op k a b))/\ah w [] w' := by
 rw[<- akj];refine af (nt:=91) [.tmp 4] func32 rfl rfl rfl ?_;refine vR nM bF ?_;refine vR nM bF ?_;generalize (dq op).1=ww at *;generalize (dq op).2=q at *;refine Wp.seq ?_;refine vR nM bF ?_;refine wC bF (λhc=>?_) (λhc=>?_)
 ·have h:ww=⟨#[]⟩:=by simpa using hc
  have e:Su n1 n2 n3 ww q k a b=false:=by rw[Su,decide_eq_true h];rfl
  rw[e];refine vR nM bF ?_;refine wZ bF ?_;exact λE=>rfl
 have h:¬ ww=⟨#[]⟩:=by simpa using hc
 have e0:Su n1 n2 n3 ww q k a b=(bif isK q then (decide (k=0)||decide (k=1))&&Df n1 n2 n3 (q.extract 1 q.size) a b else decide (k=0)&&Df n1 n2 n3 q a b):=by rw[Su,decide_eq_false h];rfl
 rw[e0];refine wK ?_;have hcut:∀ R:Bool,(R=(bif isK q then (decide (k=0)||decide (k=1))&&Df n1 n2 n3 (q.extract 1 q.size) a b else decide (k=0)&&Df n1 n2 n3 q a b))->(∃ q',R=Df n1 n2 n3 q' a b)\/R=false:=λR hR=>by
  cases hk:isK q with
  |true=>
   rw[hk,cond_true]at hR;cases hx:(decide (k=0)||decide (k=1)) with
   |true=>rw[hx,Bool.true_and]at hR;exact .inl ⟨_,hR⟩
   |false=>rw[hx,Bool.false_and]at hR;exact .inr hR
  |false=>
   rw[hk,cond_false]at hR;cases hx:decide (k=0) with
   |true=>rw[hx,Bool.true_and]at hR;exact .inl ⟨_,hR⟩
   |false=>rw[hx,Bool.false_and]at hR;exact .inr hR
 clear hcut;generalize hR:(bif isK q then (decide (k=0)||decide (k=1))&&Df n1 n2 n3 (q.extract 1 q.size) a b else decide (k=0)&&Df n1 n2 n3 q a b)=R
 refine kK (λq' : ByteArray=>⟨60,bm [(2,.is (.own 0 0)),(3,.is (.own 8 0)),(6,.is (.v (.string q')))],aY [(0,.cells 35 [.v (.slice a1 n1 c1),.v (.slice a2 n2 c2),.v (.slice a3 n3 c3),.v (.int .i64 s),.v (.int .i64 v)]),(8,.cells 85 [.v (.int .i64 op),.v (.int .i64 k),.v (.int .i64 a),.v (.int .i64 b)])]⟩) (λ_=>w) (λ_=>[]) (λq' => R=Df n1 n2 n3 q' a b) ?_ ?_
 ·skip;refine vR nM bF ?_;refine wC bF (λhc=>?_) (λhc=>?_)
  ·have hk:isK q=true:=hc;rw[hk,cond_true]at hR;have hq:0<(q.size:Int):=by
    rw[isK,Bool.and_eq_true]at hk;simpa using hk.1
   refine Wp.seq ?_;refine vR nM bF ?_;refine wC bF (λhc=>?_) (λhc=>?_)
   ·have hx:(decide (k=0)||decide (k=1))=false:=by
     simp at hc ⊢;omega
    rw[hx,Bool.false_and]at hR;subst hR;refine vR nM bF ?_;refine wZ bF ?_;exact λE=>rfl
   ·have hx:(decide (k=0)||decide (k=1))=true:=by
     simp at hc ⊢;omega
    rw[hx,Bool.true_and]at hR;refine wK ?_;refine wr nM bF ?_ ?_
    ·omega
    refine⟨q.extract 1 q.size,hR.symm,rfl,rfl,?_⟩;exact wM (λk=>.key k) bF
  ·have hk:isK q=false:=hc;rw[hk,cond_false]at hR;refine vR nM bF ?_;refine wC bF (λhc=>?_) (λhc=>?_)
   ·have hx:decide (k=0)=false:=by simpa using hc
    rw[hx,Bool.false_and]at hR;subst hR;refine vR nM bF ?_;refine wZ bF ?_;exact λE=>rfl
   ·have hx:decide (k=0)=true:=by simpa using hc
    rw[hx,Bool.true_and]at hR;refine wK ?_;refine⟨q,hR.symm,rfl,rfl,?_⟩;exact wM (λk=>.key k) bF
 clear hR e0 h;refine λq' hq' _=>?_
 subst hq';refine vR nM bF ?_;refine Wp.seq ?_;refine vR nM bF ?_;refine Wp.block ?_
 refine Wp.loop (λi:Nat=>⟨90,bm [(2,.is (.own 0 0)),(6,.is (.v (.string q'))),(7,.is (.hd 24)),(8,.is (.v (.int .i64 ((i:Nat)))))],aY [(0,.cells 35 [.v (.slice a1 n1 c1),.v (.slice a2 n2 c2),.v (.slice a3 n3 c3),.v (.int .i64 s),.v (.int .i64 v)]),(24,.row 3 1 2 [.v (.int .i64 a),.v (.int .i64 b)])]⟩) (λi=>i<=2/\(1<=i->Db n1 n2 n3 q' 0 a=true)/\(2<=i->Db n1 n2 n3 q' 1 b=true)) (λi=>2-i) 0 ?_ ⟨oM,oM,oM⟩ ?_
 ·exact wM (λk=>if k=24 then .key 512 else .key k) bF
 rintro i ⟨hi,h1,h2⟩;refine Wp.seq ?_;refine vR nM bF ?_;refine wC bF (λhc=>?_) (λhc=>?_)
 ·have hlt2:i<2:=by
   simp at hc;omega
  clear hc;have hcase:i=0\/i=1:=oM;rcases hcase with rfl|rfl
  ·refine wK ?_;refine Wp.seq (Wp.block ?_);refine Wp.seq ?_;refine vR nM bF ?_;refine wC bF (λhc=>?_) (λhc=>?_)
   ·have hle:(q'.size:Int)<=0:=by simpa using hc
    refine Wp.seq ?_;refine vR nM bF ?_;refine wC bF (λhc=>?_) (λhc=>?_)
    ·have hv:Db n1 n2 n3 q' 0 a=false:=by rw[Db,if_pos hle];simpa using hc
     have e:Df n1 n2 n3 q' a b=false:=by rw[Df,hv];rfl
     rw[e];refine vR nM bF ?_;refine wZ bF ?_;exact λE=>rfl
    ·have hv:Db n1 n2 n3 q' 0 a=true:=by rw[Db,if_pos hle];simpa using hc
     refine wK ?_;refine wE ?_;refine vr nM bF ?_;refine⟨1,⟨oM,λ_=>hv,oM⟩,oM,?_⟩;exact wM (λk=>.key k) bF
   have hlt:¬ (q'.size:Int)<=0:=by simpa using hc
   have ho:Db n1 n2 n3 q' 0 a=okQ n1 n2 n3 (bt q' 0) a:=by rw[Db,if_neg hlt]
   refine wK ?_;refine kO nM bF ?_ ?_
   ·simp
   refine aW ⟨150,bm [(2,.is (.own 0 0)),(6,.is (.v (.string q'))),(7,.is (.hd 24)),(8,.is (.v (.int .i64 (0)))),(9,.is (.v (.bool (if bt q' 0=116 then om a n1 else om a n3))))],aY [(0,.cells 35 [.v (.slice a1 n1 c1),.v (.slice a2 n2 c2),.v (.slice a3 n3 c3),.v (.int .i64 s),.v (.int .i64 v)]),(24,.row 3 1 2 [.v (.int .i64 a),.v (.int .i64 b)])]⟩ ?_ ?_
   ·skip;refine wR nM bF ?_ ?_
    ·omega
    refine wC bF (λhc=>?_) (λhc=>?_)
    ·have h6:bt q' 0=116:=by simpa using hc
     rw[if_pos h6];refine xv nM bF ?_ ?_
     ·simp
     exact wM (λk=>.key k) bF
    ·have h6:¬ bt q' 0=116:=by simpa using hc
     rw[if_neg h6];refine wK ?_;exact wM (λk=>.key k) bF
   refine aW ⟨200,bm [(2,.is (.own 0 0)),(6,.is (.v (.string q'))),(7,.is (.hd 24)),(8,.is (.v (.int .i64 (0)))),(9,.is (.v (.bool (okQ n1 n2 n3 (bt q' 0) a))))],aY [(0,.cells 35 [.v (.slice a1 n1 c1),.v (.slice a2 n2 c2),.v (.slice a3 n3 c3),.v (.int .i64 s),.v (.int .i64 v)]),(24,.row 3 1 2 [.v (.int .i64 a),.v (.int .i64 b)])]⟩ ?_ ?_
   ·skip;refine wR nM bF ?_ ?_
    ·omega
    refine wC bF (λhc=>?_) (λhc=>?_)
    ·have h6:bt q' 0=120:=by simpa using hc
     rw[okQ,if_pos h6];refine xv nM bF ?_ ?_
     ·simp
     exact wM (λk=>.key k) bF
    ·have h6:¬ bt q' 0=120:=by simpa using hc
     rw[okQ,if_neg h6];refine wK ?_;exact wM (λk=>.key k) bF
   rw[<- ho];refine vR nM bF ?_;refine wC bF (λhc=>?_) (λhc=>?_)
   ·have hv:Db n1 n2 n3 q' 0 a=false:=by simpa using hc
    have e:Df n1 n2 n3 q' a b=false:=by rw[Df,hv];rfl
    rw[e];refine vR nM bF ?_;refine wZ bF ?_;exact λE=>rfl
   ·have hv:Db n1 n2 n3 q' 0 a=true:=by simpa using hc
    refine wK ?_;refine vr nM bF ?_;refine⟨1,⟨oM,λ_=>hv,oM⟩,oM,?_⟩;exact wM (λk=>.key k) bF
  ·refine wK ?_;refine Wp.seq (Wp.block ?_);refine Wp.seq ?_;refine vR nM bF ?_;refine wC bF (λhc=>?_) (λhc=>?_)
   ·have hle:(q'.size:Int)<=1:=by simpa using hc
    refine Wp.seq ?_;refine vR nM bF ?_;refine wC bF (λhc=>?_) (λhc=>?_)
    ·have hv:Db n1 n2 n3 q' 1 b=false:=by rw[Db,if_pos hle];simpa using hc
     have e:Df n1 n2 n3 q' a b=false:=by rw[Df,hv,Bool.and_false]
     rw[e];refine vR nM bF ?_;refine wZ bF ?_;exact λE=>rfl
    ·have hv:Db n1 n2 n3 q' 1 b=true:=by rw[Db,if_pos hle];simpa using hc
     refine wK ?_;refine wE ?_;refine vr nM bF ?_;refine⟨2,⟨oM,λ_=>h1 oM,λ_=>hv⟩,oM,?_⟩;exact wM (λk=>.key k) bF
   have hlt:¬ (q'.size:Int)<=1:=by simpa using hc
   have ho:Db n1 n2 n3 q' 1 b=okQ n1 n2 n3 (bt q' 1) b:=by rw[Db,if_neg hlt]
   refine wK ?_;refine kO nM bF ?_ ?_
   ·simp
   refine aW ⟨150,bm [(2,.is (.own 0 0)),(6,.is (.v (.string q'))),(7,.is (.hd 24)),(8,.is (.v (.int .i64 (1)))),(9,.is (.v (.bool (if bt q' 1=116 then om b n1 else om b n3))))],aY [(0,.cells 35 [.v (.slice a1 n1 c1),.v (.slice a2 n2 c2),.v (.slice a3 n3 c3),.v (.int .i64 s),.v (.int .i64 v)]),(24,.row 3 1 2 [.v (.int .i64 a),.v (.int .i64 b)])]⟩ ?_ ?_
   ·skip;refine wR nM bF ?_ ?_
    ·omega
    refine wC bF (λhc=>?_) (λhc=>?_)
    ·have h6:bt q' 1=116:=by simpa using hc
     rw[if_pos h6];refine xv nM bF ?_ ?_
     ·simp
     exact wM (λk=>.key k) bF
    ·have h6:¬ bt q' 1=116:=by simpa using hc
     rw[if_neg h6];refine wK ?_;exact wM (λk=>.key k) bF
   refine aW ⟨200,bm [(2,.is (.own 0 0)),(6,.is (.v (.string q'))),(7,.is (.hd 24)),(8,.is (.v (.int .i64 (1)))),(9,.is (.v (.bool (okQ n1 n2 n3 (bt q' 1) b))))],aY [(0,.cells 35 [.v (.slice a1 n1 c1),.v (.slice a2 n2 c2),.v (.slice a3 n3 c3),.v (.int .i64 s),.v (.int .i64 v)]),(24,.row 3 1 2 [.v (.int .i64 a),.v (.int .i64 b)])]⟩ ?_ ?_
   ·skip;refine wR nM bF ?_ ?_
    ·omega
    refine wC bF (λhc=>?_) (λhc=>?_)
    ·have h6:bt q' 1=120:=by simpa using hc
     rw[okQ,if_pos h6];refine xv nM bF ?_ ?_
     ·simp
     exact wM (λk=>.key k) bF
    ·have h6:¬ bt q' 1=120:=by simpa using hc
     rw[okQ,if_neg h6];refine wK ?_;exact wM (λk=>.key k) bF
   rw[<- ho];refine vR nM bF ?_;refine wC bF (λhc=>?_) (λhc=>?_)
   ·have hv:Db n1 n2 n3 q' 1 b=false:=by simpa using hc
    have e:Df n1 n2 n3 q' a b=false:=by rw[Df,hv,Bool.and_false]
    rw[e];refine vR nM bF ?_;refine wZ bF ?_;exact λE=>rfl
   ·have hv:Db n1 n2 n3 q' 1 b=true:=by simpa using hc
    refine wK ?_;refine vr nM bF ?_;refine⟨2,⟨oM,λ_=>h1 oM,λ_=>hv⟩,oM,?_⟩;exact wM (λk=>.key k) bF
 ·have hi2:i=2:=by
   simp at hc;omega
  have e:Df n1 n2 n3 q' a b=true:=by rw[Df,h1 oM,h2 oM];rfl
  rw[e];refine wE ?_;refine vR nM bF ?_;refine wZ bF ?_;exact λE=>rfl
def yb:aM prog 32 where
 pre:=λW bs as_=>∃ (a1 a2 a3:Option Addr) (n1 n2 n3 c1 c2 c3:Nat) (s v op k a b:Int),as_=[.val (pgV a1 a2 a3 n1 n2 n3 c1 c2 c3 s v),.val (inV op k a b)]
 res:=λ_ as_=>match as_ with
  |[.val (.agg arr),.val (.agg ins)]=>(match arr.toList,ins.toList with
   |[.slice _ n1 _,.slice _ n2 _,.slice _ n3 _,_,_],[.int _ op,.int _ k,.int _ a,.int _ b]=>.bool (nZ n1 n2 n3 op k a b)
   |_,_=>undef)
  |_=>undef
 enters:=call32
 ok:=by
  intro W w bs us as_ hk hu hp;obtain⟨a1,a2,a3,n1,n2,n3,c1,c2,c3,s,v,op,k,a,b,rfl⟩:=hp
  match us,hu with
  |[x,y],hu=>
   obtain⟨rfl,rfl,_⟩:=hu;exact Me a1 a2 a3 n1 n2 n3 c1 c2 c3 s v op k a b w
section
variable (W:World)(bs:List Nat)(a1 a2 a3:Option Addr)(n1 n2 n3 c1 c2 c3:Nat)(s v op k a b:Int)
theorem G3:yb.pre W bs [.val (.agg #[.slice a1 n1 c1,.slice a2 n2 c2,.slice a3 n3 c3,.int .i64 s,.int .i64 v]),.val (.agg #[.int .i64 op,.int .i64 k,.int .i64 a,.int .i64 b])]=True:=
 eq_true ⟨a1,a2,a3,n1,n2,n3,c1,c2,c3,s,v,op,k,a,b,rfl⟩
theorem GY:yb.res W [.val (.agg #[.slice a1 n1 c1,.slice a2 n2 c2,.slice a3 n3 c3,.int .i64 s,.int .i64 v]),.val (.agg #[.int .i64 op,.int .i64 k,.int .i64 a,.int .i64 b])]=.bool (nZ n1 n2 n3 op k a b):=rfl
end
noncomputable def Γ71:Env prog:=⟨λ| 116=>some C5.spec|_=>none,λ| _=>none,λ_ _=>none⟩
theorem adp:Γ71.sp 116=some C5.spec:=rfl
noncomputable def jB:Env prog:=⟨λ| 117=>some ud.spec|_=>none,λ| _=>none,λ_ _=>none⟩
theorem acZ:jB.sp 117=some ud.spec:=rfl
def aS:=(aj jo jl BH BJ BG gS ca (aj cc b9 cg cf cj cd ck (aj fu fE fj fz fw dc dh (aj cZ db c8 dd wA vP wX (aj tg Aw y5 zr yL Bz yZ (aj OU OW Ql OI Pv Qh Qo (aj Oj Ok WY Xa Y6 VU P4 (aj QL Oq PI Of Pl O5 PS (aj Qq OX OJ Pt OT Pj Qz (aj Pd OR Yk We Z7 aaz Vv (aj alj akJ Dn Ct Dl DL tR (aj wx wF tn xq xt xw wJ (aj vW xi wO alM alQ Ie Hj (aj ID G6 Ht @aG @al @ay @ax (aj @CG @Dc @eM @MA @FY @Fq @yf (aj @zW @tA @Ay @uC @List.append_assoc.{0} @aad @tQ (aj @sS @EN @tJ @Cc @BQ @Ln @Nq (aj @tu @tV @FI @Gi @L5.eq_1 @DV.eq_1 @stC.eq_1 (aj @FQ.eq_1 @afx @agx @adQ @acr @agb @abK (aj @aB @eN @mK @dL @lS @ni @mv (aj @iP @Lg @ag0 @adM @Ly.eq_1 @EX @s4 (mh @sH @qy @qU @yp adp acZ))))))))))))))))))))))
theorem Mv(s:ByteArray)(hs:s.size<=140737488351232)(w:World):Calls prog 69 #[.string s] w λe w' =>
   ∃ u fp,e=.returned (pG (kP s) u)/\(∀ E',a6 E' u fp w' (.row 243 261 (pN (kP s)) ((pV (kP s)).map .v)))/\(∀ b∈fp,w.heap.size<=b/\b<w'.heap.size)/\ah w [] w' := by
 refine mm (nt:=310) (pG (kP s)) [.cell 2 64,.tmp 3,.tmp 4] func69 rfl rfl rfl ?_;refine vR jB aS ?_;refine Wp.seq ?_;refine vR jB aS ?_;refine wC aS (λhc=>?_) (λhc=>?_)
 ·have hb:1048576<(s.size:Int):=by simpa using hc
  have he:kP s=.error (1,0):=by rw[kP,iM,if_pos hb]
  rw[he];refine vR jB aS ?_;refine wZ aS ?_;exact⟨.v bI,⟨dE,.inr ⟨rfl,rfl,rfl⟩⟩,λE=>rfl⟩
 have hb:¬ 1048576<(s.size:Int):=by simpa using hc
 refine wK ?_;refine vR jB aS ?_;refine kO Γ71 aS ?_ ?_
 ·exact⟨dE,rfl⟩
 refine vR jB aS ?_;generalize hR:Ir s=R;refine Wp.seq (Wp.block ?_)
 refine Wp.loop (λp:Int×List Nd×Fm×List Fm=>⟨25,bm [(0,.is (.v (.string s))),(2,.is (.own 0 0)),(5,.is (.own 56 0)),(6,.is (.v (.int .i64 p.1)))],aY [(0,.cells 64 [.v (.slice none 0 0),.v (.int .i64 0)]),(56,.cells 232 [.hd 57,.hd 58]),(57,.row 243 261 p.2.1.length (List.map SV.v (dC p.2.1))),(58,.row 234 6 (p.2.2.2.length+1) (List.map SV.v (s5 p.2.2.2++p.2.2.1.bw)))]⟩)
  (λp=>(0<=p.1/\p.1<=s.size)/\(p.2.1.length:Int)<=3*p.1/\p.2.2.2.length<=1000/\∃ n:Nat,s.size-p.1<n/\rI (bt s) s.size (gU s) n p.1 p.2.1 p.2.2.1 p.2.2.2.reverse=R) (λp=>(s.size-p.1).toNat) (0,[],kC (-1),[]) ?_
  ⟨⟨Int.le_refl _,oM⟩,sI,sI,s.size+1,by simp only;omega,hR⟩ ?_
 ·exact wM (λk=>if k=57 then .nil else if k=58 then .key 128 else .key k) aS
 rintro⟨i,ar,f,pre⟩ ⟨⟨h0,hi⟩,hl,hp,n,hn,hrun⟩;simp only at h0 hi hl hp hn hrun;have wp:=yw pre oM;obtain⟨n,rfl⟩:∃ m,n=m+1:=⟨n-1,oM⟩;rw[rI]at hrun;refine Wp.seq ?_;refine vR jB aS ?_;refine wC aS (λhc=>?_) (λhc=>?_)
 ·have hlt:i<s.size:=by simpa using hc
  rw[if_pos hlt]at hrun;have w1:IntKind.i64.wrap (i+1)=i+1:=ae oM oM;refine wK ?_;refine Wp.block ?_;refine wR jB aS ?_ ?_
  ·omega
  refine kO jB (aa aS wp) ?_ ?_
  ·exact⟨⟨_,rfl⟩,oM,oM⟩
  refine Wp.seq ?_;refine vR jB aS ?_;refine wC aS (λhc=>?_) (λhc=>?_)
  ·have hpo:br (bt s i):=by simpa [zN] using hc
   refine Wp.seq ?_;refine wR jB aS ?_ ?_
   ·omega
   refine wC aS (λhc=>?_) (λhc=>?_)
   ·have hf:f.fac<0:=by simpa using hc
    have hst:oL (bt s) s.size (gU s) i ar f pre.reverse=.error (20,i):=by rw[oL,if_pos hpo,if_pos hf]
    rw[hst]at hrun;have he:=o7 hb (hR.trans hrun.symm);rw[he];refine vR jB aS ?_;refine wZ aS ?_;exact⟨.v bI,⟨dE,.inr ⟨rfl,rfl,rfl⟩⟩,λE=>rfl⟩
   have hf:¬ f.fac<0:=by simpa using hc
   have hst:oL (bt s) s.size (gU s) i ar f pre.reverse=II (bt s) s.size i ar f pre.reverse:=by rw[oL,if_pos hpo,if_neg hf]
   rw[hst,II]at hrun;refine wK ?_;refine vR jB (aa aS w1) ?_
   refine aW ⟨100,bm [(0,.is (.v (.string s))),(2,.is (.own 0 0)),(5,.is (.own 56 0)),(6,.is (.v (.int .i64 (i)))),(7,.is (.v (.int .u8 (bt s i)))),(8,.is (.own 58 (pre.length*6))),(9,.is (.v (.int .i64 (if bt s i=43 then -2 else 0)))),(10,.is (.v (.int .i64 (-1)))),(11,.is (.v (.int .i64 (i+1))))],aY [(0,.cells 64 [.v (.slice none 0 0),.v (.int .i64 0)]),(56,.cells 232 [.hd 57,.hd 58]),(57,.row 243 261 ar.length (List.map SV.v (dC ar))),(58,.row 234 6 (pre.length+1) (List.map SV.v (s5 pre++f.bw)))]⟩ ?_ ?_
   ·skip;refine vR jB aS ?_;refine wC aS (λhc=>?_) (λhc=>?_)
    ·have h43:bt s i=43:=by simpa using hc
     rw[if_pos h43];refine vr jB aS ?_;exact wM (λk=>.key k) (aa aS @cl)
    ·have h43:¬ bt s i=43:=by simpa using hc
     rw[if_neg h43];refine wK ?_;exact wM (λk=>.key k) (aa aS @cl)
   refine aW ⟨110,bm [(0,.is (.v (.string s))),(2,.is (.own 0 0)),(5,.is (.own 56 0)),(6,.is (.v (.int .i64 (i)))),(7,.is (.v (.int .u8 (bt s i)))),(8,.is (.own 58 (pre.length*6))),(9,.is (.v (.int .i64 (if bt s i=43 then -2 else 0)))),(10,.is (.v (.int .i64 (if bt s i=63 then 1 else -1)))),(11,.is (.v (.int .i64 (i+1))))],aY [(0,.cells 64 [.v (.slice none 0 0),.v (.int .i64 0)]),(56,.cells 232 [.hd 57,.hd 58]),(57,.row 243 261 ar.length (List.map SV.v (dC ar))),(58,.row 234 6 (pre.length+1) (List.map SV.v (s5 pre++f.bw)))]⟩ ?_ ?_
   ·skip;refine vR jB aS ?_;refine wC aS (λhc=>?_) (λhc=>?_)
    ·have h63:bt s i=63:=by simpa using hc
     rw[if_pos h63];refine vr jB aS ?_;exact wM (λk=>.key k) (aa aS @cl)
    ·have h63:¬ bt s i=63:=by simpa using hc
     rw[if_neg h63];refine wK ?_;exact wM (λk=>.key k) (aa aS @cl)
   cases hm:UR (bt s) s.size i with
   |error e=>
    obtain⟨ec,ep⟩:=e;have h123:bt s i=123:=Classical.byContradiction λh=>by rw[FW h]at hm;cases hm
    rw[hm]at hrun;rw[FJ h123]at hm;have hne:=H0 hm;have he:=o7 hb (hR.trans hrun.symm);rw[he];refine Wp.seq ?_;refine vR jB aS ?_;refine wC aS (λhc=>?_) (λhc=>?_)
    rotate_left
    ·exact absurd h123 (by simpa using hc)
    refine vR jB aS ?_;refine wR (L3 ar pre f) (bQ aS hm @Ye) ?_ ?_
    ·omega
    refine vR jB aS ?_;refine wC aS (λhc=>?_) (λhc=>?_)
    rotate_left
    ·exact absurd (by simpa using hc) hne
    refine vR jB aS ?_;refine wZ aS ?_;exact⟨.v bI,⟨dE,.inr ⟨rfl,rfl,rfl⟩⟩,λE=>rfl⟩
   | ok q=>
    obtain⟨m,k,j⟩:=q;rw[hm]at hrun;have hgt:=aiQ hlt hm
    refine aW ⟨150,bm [(0,.is (.v (.string s))),(2,.is (.own 0 0)),(5,.is (.own 56 0)),(6,.is (.v (.int .i64 (i)))),(8,.is (.own 58 (pre.length*6))),(9,.is (.v (.int .i64 (m)))),(10,.is (.v (.int .i64 (k)))),(11,.is (.v (.int .i64 (j))))],aY [(0,.cells 64 [.v (.slice none 0 0),.v (.int .i64 0)]),(56,.cells 232 [.hd 57,.hd 58]),(57,.row 243 261 ar.length (List.map SV.v (dC ar))),(58,.row 234 6 (pre.length+1) (List.map SV.v (s5 pre++f.bw)))]⟩ ?_ ?_
    ·skip;refine vR jB aS ?_;refine wC aS (λhc=>?_) (λhc=>?_)
     ·have h123:bt s i=123:=by simpa using hc
      rw[FJ h123]at hm;refine vR jB aS ?_;refine wR (L3 ar pre f) (bQ aS hm @ace) ?_ ?_
      ·omega
      refine vR jB aS ?_;refine wC aS (λhc=>?_) (λhc=>?_)
      ·exact absurd hc dE
      refine wK ?_;exact wM (λk=>.key k) (aa aS @cl)
     ·have h123:¬ bt s i=123:=by simpa using hc
      rw[FW h123]at hm;simp only[Except.ok.injEq,Prod.mk.injEq]at hm;obtain⟨rfl,rfl,rfl⟩:=hm;refine wK ?_;exact wM (λk=>.key k) (aa aS @cl)
    refine kO jB aS ?_ ?_
    ·exact⟨oM,oM,oM,by simp[qO],by unfold maxLen;omega,oM,Nd.ej _⟩
    have wl:IntKind.i64.wrap (((ar.length+1:Nat):Int)-1)=((ar.length:Nat):Int):=wW;refine wR jB (aa aS wl) ?_ ?_
    ·exact⟨⟨_,rfl⟩,oM,oM,oM⟩
    refine vR jB aS ?_;refine wE ?_;refine⟨(j,ar++[⟨7,0,f.fac,0,m,k⟩],{ f with fac:=ar.length },pre),⟨⟨oM,oM⟩,by simp only[List.length_append,List.length_singleton];omega,hp,n,oM,hrun⟩,by simp only;omega,?_⟩;exact wM (λk=>if k=57 then .key 1304 else .key k) (eT aS @vD @eM @cl)
  have hpo:¬ br (bt s i):=by simpa [zN] using hc
  rw[oL,if_neg hpo]at hrun;refine wK ?_;refine Wp.seq ?_;refine vR jB aS ?_;refine wC aS (λhc=>?_) (λhc=>?_)
  ·have h124:bt s i=124:=by simpa using hc
   rw[if_pos h124]at hrun;have hcl:=qs ar f;refine wR (L3 ar pre f) aS ?_ ?_
   ·exact⟨⟨rfl,oM,oM⟩,dE,sI⟩
   refine vR jB (aa aS w1) ?_;refine wE ?_;refine⟨(i+1,(aP ar f).1,(aP ar f).2,pre),⟨⟨oM,oM⟩,by simp only;omega,hp,n,oM,hrun⟩,by simp only;omega,?_⟩;exact wM (λk=>if k=57 then .key 400 else if k=58 then .key 401 else .key k) (bQ aS @eM @cl)
  have h124:¬ bt s i=124:=by simpa using hc
  rw[if_neg h124]at hrun;refine wK ?_;refine Wp.seq ?_;refine vR jB aS ?_;refine wC aS (λhc=>?_) (λhc=>?_)
  ·have h2:bt s i=38\/bt s i=45:=by simpa using hc
   rw[if_pos h2]at hrun;have hcl:=A7 ar f;refine wR (L3 ar pre f) aS ?_ ?_
   ·exact⟨⟨rfl,oM,oM⟩,dE,sI⟩
   refine kO jB (aa aS wp) ?_ ?_
   ·exact⟨⟨_,rfl⟩,⟨oM,oM⟩,oM,oM⟩
   refine vR jB (aa aS w1) ?_;refine wE ?_;refine⟨(i+1,(gk ar f).1,{ (gk ar f).2 with sgn:=bt s i },pre),⟨⟨oM,oM⟩,by simp only;omega,hp,n,oM,hrun⟩,by simp only;omega,?_⟩;exact wM (λk=>if k=57 then .key 448 else if k=58 then .key 449 else .key k) (bQ aS @eM @cl)
  have h2:¬ (bt s i=38\/bt s i=45):=by simpa using hc
  rw[if_neg h2]at hrun;refine wK ?_;refine Wp.seq ?_;refine vR jB aS ?_;refine wC aS (λhc=>?_) (λhc=>?_)
  ·have h41:bt s i=41:=by simpa using hc
   rw[if_pos h41]at hrun;refine Wp.seq ?_;refine vR jB aS ?_;refine wC aS (λhc=>?_) (λhc=>?_)
   ·have hp0:pre=[]:=by
     have:pre.length=0:=by simp at hc;omega
     exact List.eq_nil_of_length_eq_zero this
    subst hp0;have he:=o7 hb (hR.trans hrun.symm);rw[he];refine vR jB aS ?_;refine wZ aS ?_;exact⟨.v bI,⟨dE,.inr ⟨rfl,rfl,rfl⟩⟩,λE=>rfl⟩
   have hp0:pre≠[]:=by
    rintro rfl;simp at hc
   obtain⟨pre,g,rfl⟩:∃ pre' g,pre=pre' ++ [g]:=⟨pre.dropLast,pre.getLast hp0,(List.dropLast_concat_getLast hp0).symm⟩;have hcl:=qs ar f;rw[List.reverse_append,List.reverse_singleton,List.singleton_append,aiH]at hrun;have hp' : pre.length+1<=1000:=by simpa using hp
   have wg:IntKind.i64.wrap (((pre++[g]).length:Int)-1)=((pre.length:Nat):Int):=by rw[List.length_append,List.length_singleton,ae oM oM];omega
   refine wK ?_;refine wR (L3 ar (pre++[g]) f) aS ?_ ?_
   ·exact⟨⟨rfl,oM,oM⟩,dE,sI⟩
   refine kO jB (aa aS wp) ?_ ?_
   ·exact⟨⟨_,rfl⟩,⟨oM,oM⟩,oM,oM⟩
   refine kO jB (aa aS wp) ?_ ?_
   ·exact⟨⟨_,rfl⟩,oM,oM⟩
   refine kO jB (bQ aS @Dd wg) ?_ ?_
   ·exact⟨⟨_,rfl⟩,⟨oM,by simp only[List.length_append,List.length_singleton];omega⟩,oM,oM⟩
   refine vR jB (aa aS w1) ?_;refine wE ?_;refine⟨(i+1,(aP ar f).1,{ g with fac:=(aP ar f).2.alt },pre),⟨⟨oM,oM⟩,by simp only;omega,by show pre.length<=1000;omega,n,oM,hrun⟩,by simp only;omega,?_⟩
   exact wM (λk=>if k=57 then .key 512 else if k=58 then .key 720 else .key k) (oy aS @eM @List.length_append.{0} @List.length_singleton.{0} @cl)
  have h41:¬ bt s i=41:=by simpa using hc
  rw[if_neg h41]at hrun;refine wK ?_;have hse:=pO ar f;refine wR (L3 ar pre f) aS ?_ ?_
  ·exact⟨⟨rfl,oM,oM⟩,dE,sI⟩
  refine Wp.seq ?_;refine vR jB aS ?_;refine wC aS (λhc=>?_) (λhc=>?_)
  ·have h40:bt s i=40:=by simpa using hc
   rw[if_pos h40,List.length_reverse]at hrun;refine Wp.seq ?_;refine vR jB aS ?_;refine wC aS (λhc=>?_) (λhc=>?_)
   ·have hd:1000<pre.length+1:=by simp at hc;omega
    rw[if_pos hd]at hrun;have he:=o7 hb (hR.trans hrun.symm);rw[he];refine vR jB aS ?_;refine wZ aS ?_;exact⟨.v bI,⟨dE,.inr ⟨rfl,rfl,rfl⟩⟩,λE=>rfl⟩
   have hd:¬ 1000<pre.length+1:=by simp at hc;omega
   rw[if_neg hd]at hrun;refine wK ?_;refine kO Γ71 aS ?_ ?_
   ·exact⟨by unfold maxLen;omega,oM,rfl⟩
   refine vR jB (aa aS w1) ?_;refine wE ?_;refine⟨(i+1,(aF ar f).1,kC i,pre++[(aF ar f).2]),⟨⟨oM,oM⟩,by simp only;omega,by simp only[List.length_append,List.length_singleton];omega,n,oM,by simp only[List.reverse_append,List.reverse_singleton,List.singleton_append];exact hrun⟩,by simp only;omega,?_⟩
   exact wM (λk=>if k=57 then .key 464 else if k=58 then .key 600 else .key k) (mh aS @eM @Dd @List.length_append.{0} @List.length_singleton.{0} @cl)
  have h40:¬ bt s i=40:=by simpa using hc
  rw[if_neg h40,QA]at hrun;refine wK ?_;cases hit:ei s i with
  |error j=>
   have hrd:gU s i=.error (10,j):=by rw[gU,hit]
   rw[hrd]at hrun;have he:=o7 hb (hR.trans hrun.symm);rw[he];refine wR (L3 ar pre f) (eT aS hit @rdV.eq_1 @rdV.eq_2) ?_ ?_
   ·omega
   refine Wp.seq ?_;refine vR jB aS ?_;refine wC aS (λhc=>?_) (λhc=>?_)
   rotate_left
   ·exact absurd hc dE
   refine vR jB aS ?_;refine wZ aS ?_;exact⟨.v bI,⟨dE,.inr ⟨rfl,rfl,rfl⟩⟩,λE=>rfl⟩
  |ok q=>
   obtain⟨S,j⟩:=q;have hrd:gU s i=.ok (S,j):=by rw[gU,hit]
   rw[hrd]at hrun;have hgt:=Bn hit h0 hlt;refine wR (L3 ar pre f) (eT aS hit @rdV.eq_1 @rdV.eq_2) ?_ ?_
   ·omega
   refine Wp.seq ?_;refine vR jB aS ?_;refine wC aS (λhc=>?_) (λhc=>?_)
   ·exact absurd hc dE
   refine wK ?_;refine kO jB aS ?_ ?_
   ·exact⟨by simp[qO],by unfold maxLen;omega,oM,Nd.ej _⟩
   have wl:IntKind.i64.wrap ((((aF ar f).1.length+1:Nat):Int)-1)=(((aF ar f).1.length:Nat):Int):=wW;refine kO jB (bQ aS wp wl) ?_ ?_
   ·exact⟨⟨_,rfl⟩,⟨_,rfl⟩,⟨oM,oM⟩,oM,oM⟩
   refine vr jB aS ?_;refine⟨(j,(aF ar f).1++[⟨1,S,0,0,0,0⟩],{ (aF ar f).2 with fac:=(aF ar f).1.length },pre),⟨⟨oM,oM⟩,by simp only[List.length_append,List.length_singleton];omega,hp,n,oM,hrun⟩,by simp only;omega,?_⟩
   exact wM (λk=>if k=57 then .key 672 else if k=58 then .key 465 else .key k) (eT aS @vD @eM @cl)
 ·have hN:¬ i<s.size:=by simpa using hc
  rw[if_neg hN]at hrun;have hrq:Ir s=.ok (ar,f,pre.reverse):=hR.trans hrun.symm;refine wE ?_;refine Wp.seq ?_;refine vR jB aS ?_;refine wC aS (λhc=>?_) (λhc=>?_)
  ·have hpn:pre.reverse≠[]:=by
    intro h;have:=congrArg List.length h;simp at this;subst this;simp at hc
   rw[UM hb hrq hpn];refine kO jB (aa aS wp) ?_ ?_
   ·exact⟨⟨_,rfl⟩,⟨oM,oM⟩,oM⟩
   refine wZ aS ?_;exact⟨.v bI,⟨dE,.inr ⟨rfl,rfl,rfl⟩⟩,λE=>rfl⟩
  have hp0:pre=[]:=by
   have:pre.length=0:=by simp at hc;omega
   exact List.eq_nil_of_length_eq_zero this
  subst hp0;have hcl:=qs ar f;obtain⟨ts0,t0,a1,a2,a3⟩:=agp hrq;have hlt0:(aP ar f).2.alt.toNat<ts0.length:=(List.getElem?_eq_some_iff.1 a3).1;have hle0:=a1.len;refine wK ?_;refine wR (L3 ar [] f) aS ?_ ?_
  ·exact⟨⟨rfl,oM⟩,dE,sI⟩
  refine wR jB (aa aS @Fu) ?_ ?_
  ·decide
  refine Wp.seq ?_;refine wR (Γ74 (aP ar f).1) (eT aS @Fu @Pr (EO (oG (aP ar f).1) (aP ar f).2.alt.toNat (by rw[my];omega))) ?_ ?_
  ·exact⟨⟨⟨_,rfl,rfl,rfl,rfl⟩,a1.ok,oM⟩,⟨oM,oM⟩,by rw[my];omega⟩
  refine wC aS (λhc=>?_) (λhc=>?_)
  ·have hz:2000<(oG (aP ar f).1).getD (aP ar f).2.alt.toNat 0:=by simpa using hc
   rw[X1 hb hrq hz];refine vR jB aS ?_;refine wZ aS ?_;exact⟨.v bI,⟨dE,.inr ⟨rfl,rfl,rfl⟩⟩,λE=>rfl⟩
  have hz:¬ 2000<(oG (aP ar f).1).getD (aP ar f).2.alt.toNat 0:=by simpa using hc
  obtain⟨ts,t,hd,b1,b2,b3,b4,b5⟩:=af7 hb hrq hz;rw[hd];refine wK ?_;refine Wp.sM 288 (ev (aa aS @aJ)) (λE=>by simp only[au,den,aJ];exact rfl) λW1 bs1 ao c1 hx1 hs1 hc1=>?_
  have htt:ts.getD (aP ar f).2.alt.toNat .eps=t:=by rw[List.getD_eq_getElem?_getD,b4];rfl
  rw[<- htt]at b5 ⊢;have hout:gJ W1 (Out bs1) ao (dC (aP ar f).1):=hs1.out λb hb=>hb.out
  refine aW ⟨100,bm [(2,.is (.own 0 0)),(5,.is (.own 56 0)),(19,.is (.v (.int .i64 (aP ar f).2.alt))),(20,.is (.own 64 0))],aY [(0,.cells 64 [.v (.slice none 0 0),.v (.int .i64 0)]),(56,.cells 232 [.v (.slice ao (aP ar f).1.length c1),.hd 58]),(58,.row 234 6 1 (List.map SV.v ((aP ar f).2.bw))),(64,.cells 64 [.hd 65,.v (.int .i64 0)]),(65,.row 243 261 0 [])]⟩ ?_ ?_
  ·skip;refine vr jB aS ?_;exact wM (λk=>if k=58 then .key 289 else if k=64 then .key 432 else if k=65 then .nil else .key k) (eT aS @eM @Fu @Fm.bw.eq_1)
  refine wR (Γ75 (aP ar f).1 ts ao c1 _ (H3 (aP ar f).1 ts ao c1 b1 (aP ar f).1.length (Nat.le_refl _))) aS ?_ ?_
  ·exact⟨⟨⟨[],rfl,rfl⟩,⟨b2,oM⟩,oM,hout⟩,dE,sI⟩
  refine vR jB aS ?_;refine wZ aS ?_;exact⟨_,⟨dE,.inl ⟨_,rfl,rfl⟩⟩,λE=>rfl⟩
section
variable {c:Int->Int}{N:Int}{rd:Int->Except (Int×Int) (BitVec 256×Int)}(hrd:∀ i e,rd i=.error e->e.1≠0)
include hrd
theorem NS{i:Int}{ar:List Nd}{f:Fm}{rest:List Fm}{e:Int×Int}(h:oL c N rd i ar f rest=.error e):e.1≠0:=by
 unfold oL at h;split at h
 ·split at h
  ·cases h;show (20:Int)≠0;omega
  ·unfold II at h;split at h
   ·rename_i e1 hm;cases h;by_cases h1:c i=123
    ·rw[FJ h1]at hm;exact H0 hm
    ·rw[FW h1]at hm;cases hm
   ·cases h
 ·split at h
  ·cases h
  ·split at h
   ·cases h
   ·split at h
    ·unfold aiH at h;split at h
     ·cases h;show (20:Int)≠0;omega
     ·cases h
    ·split at h
     ·split at h
      ·cases h;show (23:Int)≠0;omega
      ·cases h
     ·unfold QA at h;split at h
      ·rename_i e1 hm;cases h;exact hrd _ _ hm
      ·cases h
theorem C9:∀ (n:Nat) (i:Int) (ar:List Nd) (f:Fm) (rest:List Fm) (e:Int×Int),rI c N rd n i ar f rest=.error e->e.1≠0
 |0,i,ar,f,rest,e,h=>by cases h
 | n+1,i,ar,f,rest,e,h=>by
  rw[rI]at h;split at h
  ·split at h
   ·rename_i e1 hs;cases h;exact NS hrd hs
   ·exact C9 n _ _ _ _ e h
  ·cases h
theorem Gz{e:Int×Int}(h:ku c N rd=.error e):e.1≠0:=by
 unfold ku at h;split at h
 ·cases h;show (1:Int)≠0;omega
 ·unfold D5 at h;split at h
  ·rename_i e1 hr;cases h;exact C9 hrd _ _ _ _ _ _ hr
  ·split at h
   ·cases h;show (21:Int)≠0;omega
   ·split at h
    ·cases h;show (24:Int)≠0;omega
    ·cases h
end
theorem Dx{s:ByteArray}{c p:Int}(h:kP s=.error (c,p)):c≠0:=by
 have hd:iM (bt s) s.size (gU s)=.error (c,p):=h;have h1:=nr (c:=bt s) (N:=s.size) (rd:=gU s) oM;rw[hd]at h1;cases h2:ku (bt s) s.size (gU s) with
 | error e=>
  rw[h2]at h1;have he:(c,p)=e:=h1;have:=Gz (rd:=gU s) (λi e hi=>by
   unfold gU at hi
   split at hi
   ·cases hi;show (10:Int)≠0;omega
   ·cases hi) h2
  rw[<- he]at this;exact this
 |ok q=>rw[h2]at h1;exact h1.elim
theorem YF{P:Program}{eqs:(T:TypeId)->Option (EqSpec P T)}(h:Hp)(T:TypeId)(X Y:Operand)(b:ByteArray):bE P eqs h .eql T X Y [.v undef,.v (.string b)]=.bad:=rfl
theorem M5(W:World):mj.res W [.val .nilIface]=undef:=by
 have hn:dec aH .nilIface=none:=by
  unfold dec;rw[dif_neg];rintro⟨t,ht⟩;cases t<;>cases ht
 simp only[mj,hn]
noncomputable def Γ85:Env prog:=⟨λ| 71=>some Gb.spec|72=>some mj.spec|_=>none,λ| 39=>some ux|_=>none,λ_ _=>none⟩
theorem ain:Γ85.sp 71=some Gb.spec:=rfl
theorem ako:Γ85.sp 72=some mj.spec:=rfl
theorem ZG:Γ85.eqs 39=some ux:=rfl
def GR:=(aj @List.replicate_succ.{0} @List.replicate_zero.{0} @an @ab jo jl gS (aj ca cc b9 cg cf cj cd (aj ck dc dh cZ db c8 dd (aj zQ AI zz zD zd A6 yU (aj AD Am AM Aw y5 zr yL (aj Bz yZ akX ak9 vY vX vN (aj wU ak5 ak0 @aG @al @ay @ax (aj @MT @Mf @JP @J1 @su @e8 @dX (aj @jy @bZ @YF @bad_eq @M5 ain ako ZG)))))))))
theorem Tv(s:ByteArray)(w:World)(hs:s.size<=140737488351232)(hg:bB w (Out [])):Calls prog 33 #[.string s] w λe w' => e=.returned (.bool (uq s))/\ah w [] w' := by
 refine af (nt:=19) [.tmp 2] func33 rfl rfl rfl ?_;refine vR Γ85 GR ?_;cases hd:kP s with
 |error q=>
  obtain⟨c,p⟩:=q;have hp:rm s=.error (c,p):=by rw[DU,hd];rfl
  have hne:=Dx hd;have ht:uq s=false:=by rw[uq,hd]
  rw[ht];refine wR Γ85 (oy GR hp @rH.eq_1 @rH.eq_2 @xZ.eq_1) ?_ ?_
  ·exact⟨hs,hg⟩
  refine wR Γ85 (aa GR hne) ?_ ?_
  ·simp
  refine wZ GR ?_;exact λE=>rfl
 |ok t=>
  have hp:rm s=.ok t.expand:=by rw[DU,hd];rfl
  have hsz:=AW hd;have ht:uq s=decide (cq t.expand=s):=by rw[uq,hd]
  rw[ht];refine wR Γ85 (oy GR hp @rH.eq_1 @rH.eq_2 @xZ.eq_1) ?_ ?_
  ·exact⟨hs,hg⟩
  refine wR Γ85 GR ?_ ?_
  ·exact λ_=>⟨oM,hg⟩
  refine wZ GR ?_;exact λE=>rfl
def qu:aM prog 33 where
 pre:=λW bs=>λ| [.val (.string s)]=>s.size<=140737488351232/\bB W (Out bs)|_=>False
 res:=λW=>λ| [.val (.string s)]=>.bool (uq s)|_=>undef
 enters:=call33
 ok:=by
  intro W w bs us as_ hk hu hp;split at hp
  ·rename_i s
   match us,hu with
   |[u0],hu=>
    obtain⟨rfl,_⟩:=hu;exact Tv s w hp.1 (hp.2.dW hk sI)
  ·exact hp.elim
theorem sn(W:World)(s:ByteArray):qu.res W [.val (.string s)]=.bool (uq s):=rfl
theorem rN(W:World)(bs:List Nat)(s:ByteArray):qu.pre W bs [.val (.string s)]=(s.size<=140737488351232/\bB W (Out bs)):=rfl
def pT:Except (Int×Int) RT->SV->SV
 |.ok t,x=>.tup [.agg [x,.v (.int .i64 ((aI t.expand-1:Nat):Int))],.v (.int .i64 0),.v (.int .i64 0)]
 |.error (c,p),x=>.tup [.agg [x,.v (.int .i64 0)],.v (.int .i64 c),.v (.int .i64 p)]
def FU(s:ByteArray):vO prog 69 where
 pre:=λW bs as_=>as_=[.val (.string s)]/\s.size<=140737488351232
 T:=243
 s:=261
 n:=λ_ _=>pN (kP s)
 vs:=λ_ _=>pV (kP s)
 tm:=λ_ _ x=>pT (kP s) x
 g:=λ_ _ v=>pG (kP s) v
 tmg:=λ_ _ E x=>by cases kP s with|ok t=>rfl|error q=>rfl
 tmk:=λ_ _ x k hk=>by
  cases hd:kP s with
  |ok t=>rw[hd]at hk;simpa [pT,SV.keys,aw] using hk
  |error q=>rw[hd]at hk;simpa [pT,SV.keys,aw] using hk
 enters:=call69
 ok:=by
  intro W w bs us as_ hk hu hp;obtain⟨rfl,h1⟩:=hp
  match us,hu with
  |[u],hu=>
   obtain⟨rfl,_⟩:=hu;exact Mv s h1 w
noncomputable def Γ86(s:ByteArray):Env prog:=⟨λ| 69=>some (FU s).spec|_=>none,λ_=>none,λ_ _=>none⟩
theorem ah5(s:ByteArray):(Γ86 s).sp 69=some (FU s).spec:=rfl
noncomputable def Γ87(l:List Nd)(ao:Option Addr)(c:Nat)(i:Nat)(t:Rx)(hsz:aI t<=4000000)(ht:oU l i t):Env prog:=⟨λ| 60=>some (yd l ao c i t hsz ht).spec|_=>none,λ_=>none,λ_ _=>none⟩
theorem aiJ(l:List Nd)(ao:Option Addr)(c:Nat)(i:Nat)(t:Rx)(hsz:aI t<=4000000)(ht:oU l i t):(Γ87 l ao c i t hsz ht).sp 60=some (yd l ao c i t hsz ht).spec:=rfl
theorem ab5:aI .eps<=4000000:=by decide
theorem aci:oU [cm 0 0 0] 0 .eps:=⟨_,rfl,rfl⟩
noncomputable def WD:aM prog 60:=yd [cm 0 0 0] none 0 0 .eps ab5 aci
noncomputable def Γ88:Env prog:=⟨λ| 60=>some WD.spec|_=>none,λ_=>none,λ_ _=>none⟩
theorem ajW:Γ88.sp 60=some WD.spec:=rfl
theorem SS(W:World)(l:List AV):WD.res W l=.string (cq .eps):=rfl
def Ep:=(aj GR @sn @rN @ah5 @aiJ @FU.eq_1 @yd.eq_1 (aa @ajW @SS))
theorem Uo(s:ByteArray)(w:World)(hs:s.size<=140737488351232):Calls prog 30 #[.string s] w λe w' => e=.returned (.bool (uq s))/\ah w [] w' := by
 refine af (nt:=20) [.tmp 2] func30 rfl rfl rfl ?_;refine vR Γ85 Ep ?_;cases hd:kP s with
 |error q=>
  obtain⟨c,p⟩:=q;have hne:=Dx hd;have ht:uq s=false:=by rw[uq,hd]
  rw[ht];refine wR (Γ86 s) (aj Ep hd @pN.eq_1 @pN.eq_2 @pV.eq_1 @pV.eq_2 @pT.eq_1 @pT.eq_2) ?_ ?_
  ·exact hs
  refine Wp.sM 16 (ev Ep) (λE=>by simp only[au,den,List.map_nil];exact rfl) λW1 bs1 ao c1 hx1 hs1 hc1=>?_
  refine wR Γ88 (aa Ep hne) ?_ ?_
  ·simp
  refine wZ Ep ?_;exact λE=>rfl
 | ok t=>
  have hsz:=AW hd;have ht:uq s=decide (cq t.expand=s):=by rw[uq,hd]
  have hit:oU (eD 0 t.expand) (aI t.expand-1) t.expand:=by
   have:=ajE t.expand [] [];simpa using this
  have hll:=gC t.expand 0;rw[ht];refine wR (Γ86 s) (aj Ep hd @pN.eq_1 @pN.eq_2 @pV.eq_1 @pV.eq_2 @pT.eq_1 @pT.eq_2) ?_ ?_
  ·exact hs
  refine Wp.sM 16 (ev (aa Ep @aJ)) (λE=>by simp only[au,den,aJ];exact rfl) λW1 bs1 ao c1 hx1 hs1 hc1=>?_
  have hout:gJ W1 (Out bs1) ao (dC (eD 0 t.expand)):=hs1.out λb hb=>hb.out
  refine wR (Γ87 (eD 0 t.expand) ao c1 (aI t.expand-1) t.expand oM hit) Ep ?_ ?_
  ·exact⟨by rw[hll],hout⟩
  refine wZ Ep ?_;exact λE=>rfl
def uN:aM prog 30 where
 pre:=λW bs=>λ| [.val (.string s)]=>s.size<=140737488351232|_=>False
 res:=λW=>λ| [.val (.string s)]=>.bool (uq s)|_=>undef
 enters:=call30
 ok:=by
  intro W w bs us as_ hk hu hp;split at hp
  ·rename_i s
   match us,hu with
   |[u0],hu=>
    obtain⟨rfl,_⟩:=hu;exact Uo s w hp
  ·exact hp.elim
theorem AG(W:World)(s:ByteArray):uN.res W [.val (.string s)]=.bool (uq s):=rfl
theorem zX(W:World)(bs:List Nat)(s:ByteArray):uN.pre W bs [.val (.string s)]=(s.size<=140737488351232):=rfl
structure Pg where
 ty:List ByteArray
 tx:List ByteArray
 co:List (Int×Int×Int×Int)
 src:Int
 vw:Int
def aE(l:List ByteArray):List Value:=l.map .string
def inL(x:Int×Int×Int×Int):List Value:=[.int .i64 x.1,.int .i64 x.2.1,.int .i64 x.2.2.1,.int .i64 x.2.2.2]
def cn(l:List (Int×Int×Int×Int)):List Value:=l.flatMap inL
theorem sJ(l:List (Int×Int×Int×Int)):(cn l).length=l.length*4:=by
 induction l with
 |nil=>rfl
 |cons d r ih=>
  have:cn (d::r)=inL d++cn r:=rfl;rw[this,List.length_append,ih,List.length_cons];show 4+_=_;omega
theorem GQ:∀ (l:List (Int×Int×Int×Int)) (k j:Nat) (hk:k<l.length),j<4->(cn l)[k*4+j]?=(inL l[k])[j]?
 |d::r,0,j,hk,hj=>by
  have:cn (d::r)=inL d++cn r:=rfl;rw[this,List.getElem?_append_left (by show 0*4+j<4;omega),Nat.zero_mul,Nat.zero_add];rfl
 |d::r,k+1,j,hk,hj=>by
  have:cn (d::r)=inL d++cn r:=rfl;rw[this,List.getElem?_append_right (by show 4<=_;omega),show (k+1)*4+j-(inL d).length=k*4+j by show _-4=_;omega];exact GQ r k j (by simpa using hk) hj
theorem mT{w:World}{ao:Option Addr}{l:List ByteArray}(h:kZ w ao (aE l)){k:Nat}(hk:k<l.length):∃ b o,ao=some ⟨b,o,none⟩/\w.cell? ⟨b,o+k,none⟩=some (.string l[k]):=by
 rcases h with h|⟨b,o,rfl,hc⟩
 ·have h0:l=[]:=by simpa [aE] using h
  subst h0;cases hk
 ·refine⟨b,o,rfl,?_⟩;have:=hc k (by simpa [aE] using hk);rw[this];simp[aE]
theorem pz{w:World}{ao:Option Addr}{l:List (Int×Int×Int×Int)}(h:kZ w ao (cn l)){k:Nat}(hk:k<l.length):∃ b o,ao=some ⟨b,o,none⟩/\w.cell? ⟨b,o+k*4,none⟩=some (.int .i64 l[k].1) /\
  w.cell? ⟨b,o+k*4+1,none⟩=some (.int .i64 l[k].2.1)/\w.cell? ⟨b,o+k*4+1+1,none⟩=some (.int .i64 l[k].2.2.1)/\w.cell? ⟨b,o+k*4+1+1+1,none⟩=some (.int .i64 l[k].2.2.2):=by
 have hl:=sJ l;rcases h with h|⟨b,o,rfl,hc⟩
 ·rw[h]at hl;simp at hl;omega
 ·have key:∀ j (hj:j<4) (v:Value),(inL l[k])[j]?=some v->w.cell? ⟨b,o+k*4+j,none⟩=some v:=λj hj v hv=>by
   have h1:=hc (k*4+j) oM;have h2:=GQ l k j hk hj;rw[hv,List.getElem?_eq_getElem oM]at h2;rw[<- Nat.add_assoc]at h1;rw[h1];exact h2
  exact⟨b,o,rfl,key 0 oM _ rfl,key 1 oM _ rfl,key 2 oM _ rfl,key 3 oM _ rfl⟩
def cS(P:Nat->Bool):Nat->Nat->Option Nat
 |0,_=>none
 |k+1,j=>bif P j then some j else cS P k (j+1)
theorem lh(P:Nat->Bool)(n j:Nat)(hj:j<n)(h:∀ i<j,P i=false)(hp:P j=true):cS P n 0=some j:=by
 have key:∀ k i,i+k=n->i<=j->cS P k i=some j:=by
  intro k
  induction k with
  |zero=>intro i h1 h2;omega
  | succ k ih=>
   intro i h1 h2;unfold cS;by_cases e:i=j
   ·subst e;rw[hp];rfl
   ·rw[h i oM];exact ih (i+1) oM oM
 exact key n 0 oM (Nat.zero_le _)
theorem iG(P:Nat->Bool)(n:Nat)(h:∀ i<n,P i=false):cS P n 0=none:=by
 have key:∀ k i,i+k=n->cS P k i=none:=by
  intro k
  induction k with
  |zero=>intro i h1;rfl
  |succ k ih=>
   intro i h1;unfold cS;rw[h i oM];exact ih (i+1) oM
 exact key n 0 oM
section
variable (p:Pg)
def oQ(i:Nat):Bool:=!uq (p.ty.getD i ⟨#[]⟩)
def sq(i:Nat):Bool:=!nZ p.ty.length p.tx.length p.co.length (p.co.getD i (0,0,0,0)).1 (p.co.getD i (0,0,0,0)).2.1 (p.co.getD i (0,0,0,0)).2.2.1 (p.co.getD i (0,0,0,0)).2.2.2
def oF:ByteArray:=⟨#[109,97,105,110]⟩
def eW:Int×Int×ByteArray:=
 if (!om p.src p.ty.length||!om p.vw p.ty.length)=true then (111,0,oF)
 else match cS (sq p) p.co.length 0 with
  |some i=>(111,i,⟨#[]⟩)
  |none=>(0,0,⟨#[]⟩)
def ie:Int×Int×ByteArray:=
 if (131072<p.ty.length\/131072<p.tx.length)\/131072<p.co.length then (24,0,⟨#[]⟩)
 else match cS (oQ p) p.ty.length 0 with
  |some i=>(110,i,⟨#[]⟩)
  |none=>eW p
structure PgB:Prop where
 l1:p.ty.length<=140737488351232
 l2:p.tx.length<=140737488351232
 l3:p.co.length<=140737488351232
 sz:∀ s∈p.ty,s.size<=140737488351232
structure Ch (w:World)(a1 a2 a3:Option Addr):Prop extends PgB p where
 ty:kZ w a1 (aE p.ty)
 tx:kZ w a2 (aE p.tx)
 co:kZ w a3 (cn p.co)
def Vn(W:World)(S:Nat->Prop)(a1 a2 a3:Option Addr):Prop:=gJ W S a1 (aE p.ty)/\gJ W S a2 (aE p.tx)/\gJ W S a3 (cn p.co)
theorem Vn.ok{p:Pg}{W w:World}{bs:List Nat}{a1 a2 a3:Option Addr}(h:Vn p W (Out bs) a1 a2 a3)(hb:PgB p)(hk:ah W bs w):Ch p w a1 a2 a3:=
 ⟨hb,gy h.1 hk,gy h.2.1 hk,gy h.2.2 hk⟩
theorem Ch.x{p:Pg}{w:World}{a1 a2 a3:Option Addr}(h:Ch p w a1 a2 a3):Vn p w (Out []) a1 a2 a3:=
 ⟨(gJ.oH h.ty).out λ_ _=>by simp[Out],(gJ.oH h.tx).out λ_ _=>by simp[Out],(gJ.oH h.co).out λ_ _=>by simp[Out]⟩
abbrev prV (a1 a2 a3:Option Addr)(c1 c2 c3:Nat):Value:=pgV a1 a2 a3 p.ty.length p.tx.length p.co.length c1 c2 c3 p.src p.vw
def EY(q:Int×Int×ByteArray):Value:=xZ q.1 q.2.1 q.2.2
end
theorem amD(n1 n2 n3:Nat)(n:Int):sT n1 n2 n3 2 n=om n n1:=rfl
noncomputable def CT:Env prog:=⟨λ| 33=>some qu.spec|73=>some Dz.spec|74=>some EK.spec|_=>none,λ| _=>none,λ_ _=>none⟩
theorem ajh:CT.sp 33=some qu.spec:=rfl
theorem aiI:CT.sp 73=some Dz.spec:=rfl
theorem aiR:CT.sp 74=some EK.spec:=rfl
def nX:=(aj @List.replicate_succ.{0} @List.replicate_zero.{0} @an @ab jo jl gS (aj ca cc b9 cg cf cj cd (aj ck dc dh cZ db c8 dd (aj sk ss se rO Jq GS Hl (aj Hc zy zK zP Bc A3 Bu (aj AF Bs An zQ AI zz zD (aj zd A6 yU AD Am AM B4 (aj B9 B3 BM B2 BN Cl Ce (aj ry Kh H9 Ka Ic @aG @al (aj @ay @ax @Dj @CM @N5 @MC @sn (oy @rN @su ajh aiI aiR)))))))))))
theorem Dy(p:Pg)(a1 a2 a3:Option Addr)(c1 c2 c3:Nat)(w:World)(hp:Ch p w a1 a2 a3)(hg:fS w (Out [])):Calls prog 34 #[prV p a1 a2 a3 c1 c2 c3] w λe w' => e=.returned (EY (eW p))/\ah w [] w' := by
 have h3:=hp.l3;refine af (nt:=34) [.cell 2 39] func34 rfl rfl rfl ?_;refine vR CT nX ?_;refine Wp.seq ?_;refine vR CT (aa nX @amD) ?_;refine wC nX (λhc=>?_) (λhc=>?_)
 ·have e:eW p=(111,0,oF):=by rw[eW,if_pos hc]
  rw[e];refine vR CT nX ?_;refine wZ nX ?_;exact λE=>rfl
 have e0:eW p=match cS (sq p) p.co.length 0 with
  |some i=>(111,(i:Int),⟨#[]⟩)
  |none=>(0,0,⟨#[]⟩):=by rw[eW,if_neg (by rw[hc];simp)]
 rw[e0];refine wK ?_;refine Wp.seq ?_;refine vR CT nX ?_;refine Wp.block ?_
 refine Wp.loop (λk:Nat=>⟨40,bm [(1,.is (.own 0 0)),(2,.is (.own 8 0)),(19,.is (.v (.slice a3 p.co.length c3))),(20,.is (.v (.int .i64 p.co.length))),(21,.is (.v (.int .i64 (k:Nat))))],aY [(0,.cells 29 [.v (.slice a1 p.ty.length c1),.v (.slice a2 p.tx.length c2),.v (.slice a3 p.co.length c3),.v (.int .i64 p.src),.v (.int .i64 p.vw)]),(8,.cells 39 [.v (.int .i64 0),.v (.int .i64 0),.v (.string ⟨#[]⟩)])]⟩) (λk=>k<=p.co.length/\∀ i<k,sq p i=false) (λk=>p.co.length-k) 0 ?_ ⟨Nat.zero_le _,λi h=>by omega⟩ ?_
 ·exact wM (λk=>.key k) nX
 rintro k ⟨hk,hn⟩;refine vR CT nX ?_;refine Wp.seq ?_;refine wC nX (λhc=>?_) (λhc=>?_)
 ·have hlt:k<p.co.length:=by
   simp at hc;omega
  have wk:IntKind.i64.wrap ((k:Int)+1)=((k+1:Nat):Int):=wW;obtain⟨b,o,rfl,x1,x2,x3,x4⟩:=pz hp.co hlt;have hbad:sq p k=!nZ p.ty.length p.tx.length p.co.length p.co[k].1 p.co[k].2.1 p.co[k].2.2.1 p.co[k].2.2.2:=by
   rw[sq,List.getD_eq_getElem?_getD,List.getElem?_eq_getElem hlt];rfl
  generalize p.co[k]=x at *;refine wK ?_;refine Wp.seq (Wp.block ?_);refine wR CT (oy nX x1 x2 x3 x4) ?_ ?_
  ·omega
  refine wR CT nX ?_ ?_
  ·exact hg
  refine wC nX (λhc=>?_) (λhc=>?_)
  ·rw[lh (sq p) p.co.length k hlt hn (hbad.trans hc)];refine vR CT nX ?_;refine wZ nX ?_;exact λE=>rfl
  ·refine wK ?_;refine vr CT (aa nX wk) ?_;refine⟨k+1,⟨oM,λi hi=>?_⟩,oM,?_⟩
   ·by_cases h:i=k
    ·rw[h];exact hbad.trans hc
    ·exact hn i oM
   ·exact wM (λk=>.key k) nX
 ·have hk' : k=p.co.length:=by
   simp at hc;omega
  rw[iG (sq p) p.co.length (by rw[<- hk'];exact hn)];refine wE ?_;refine vR CT nX ?_;refine wZ nX ?_;exact λE=>rfl
section
variable (p:Pg)(a1 a2 a3:Option Addr)(c1 c2 c3:Nat)(hb:PgB p)
def MM:aM prog 34 where
 pre:=λW bs as_=>as_=[.val (prV p a1 a2 a3 c1 c2 c3)]/\Vn p W (Out bs) a1 a2 a3/\fS W (Out bs)
 res:=λ_ _=>EY (eW p)
 enters:=call34
 ok:=by
  intro W w bs us as_ hk hu hp;obtain⟨rfl,h1,h2⟩:=hp
  match us,hu with
  |[x],hu=>
   obtain⟨rfl,_⟩:=hu;exact Dy p a1 a2 a3 c1 c2 c3 w (h1.ok hb hk) (h2.dW hk sI)
noncomputable def Γ92:Env prog:=⟨λ| 33=>some qu.spec|34=>some (MM p a1 a2 a3 c1 c2 c3 hb).spec|_=>none,λ_=>none,λ_ _=>none⟩
theorem ajp:(Γ92 p a1 a2 a3 c1 c2 c3 hb).sp 33=some qu.spec:=rfl
theorem aim:(Γ92 p a1 a2 a3 c1 c2 c3 hb).sp 34=some (MM p a1 a2 a3 c1 c2 c3 hb).spec:=rfl
end
theorem Nn(q:Int×Int×ByteArray):partsOf (.v (EY q))=[.v (.int .i64 q.1),.v (.int .i64 q.2.1),.v (.string q.2.2)]:=rfl
def oS:=(oy nX @ajp @aim @MM.eq_1 @Nn)
theorem KA(p:Pg)(a1 a2 a3:Option Addr)(c1 c2 c3:Nat)(w:World)(hp:Ch p w a1 a2 a3)(hg:fS w (Out []))(he:bB w (Out [])):Calls prog 15 #[prV p a1 a2 a3 c1 c2 c3] w λe w' => e=.returned (EY (ie p))/\ah w [] w' := by
 have hx:=hp.x;have hb:=hp.toPgB;have h1:=hp.l1;refine af (nt:=33) [.cell 2 39] func15 rfl rfl rfl ?_;refine vR CT oS ?_;refine Wp.seq ?_;refine wR CT oS ?_ ?_
 ·exact⟨⟨_,rfl⟩,⟨_,rfl⟩,_,rfl⟩
 refine wC oS (λhc=>?_) (λhc=>?_)
 ·have h:(131072<p.ty.length\/131072<p.tx.length)\/131072<p.co.length:=by
   simp at hc;omega
  have e:ie p=(24,0,⟨#[]⟩):=by rw[ie,if_pos h]
  rw[e];refine vR CT oS ?_;refine wZ oS ?_;exact λE=>rfl
 have h:¬ ((131072<p.ty.length\/131072<p.tx.length)\/131072<p.co.length):=by
  simp at hc;omega
 have e0:ie p=match cS (oQ p) p.ty.length 0 with
  |some i=>(110,(i:Int),⟨#[]⟩)
  |none=>eW p:=by rw[ie,if_neg h]
 rw[e0];refine wK ?_;refine Wp.seq ?_;refine vR CT oS ?_;refine Wp.block ?_
 refine Wp.loop (λk:Nat=>⟨40,bm [(1,.is (.own 0 0)),(2,.is (.own 8 0)),(18,.is (.v (.slice a1 p.ty.length c1))),(19,.is (.v (.int .i64 p.ty.length))),(20,.is (.v (.int .i64 (k:Nat))))],aY [(0,.cells 29 [.v (.slice a1 p.ty.length c1),.v (.slice a2 p.tx.length c2),.v (.slice a3 p.co.length c3),.v (.int .i64 p.src),.v (.int .i64 p.vw)]),(8,.cells 39 [.v (.int .i64 0),.v (.int .i64 0),.v (.string ⟨#[]⟩)])]⟩) (λk=>k<=p.ty.length/\∀ i<k,oQ p i=false) (λk=>p.ty.length-k) 0 ?_ ⟨Nat.zero_le _,λi h=>by omega⟩ ?_
 ·exact wM (λk=>.key k) oS
 rintro k ⟨hk,hn⟩;refine vR CT oS ?_;refine Wp.seq ?_;refine wC oS (λhc=>?_) (λhc=>?_)
 ·have hlt:k<p.ty.length:=by
   simp at hc;omega
  have wk:IntKind.i64.wrap ((k:Int)+1)=((k+1:Nat):Int):=wW;obtain⟨b,o,rfl,x1⟩:=mT hp.ty hlt;have hsz:=hp.sz _ (List.getElem_mem hlt);have hbad:oQ p k=!uq p.ty[k]:=by
   rw[oQ,List.getD_eq_getElem?_getD,List.getElem?_eq_getElem hlt];rfl
  generalize p.ty[k]=x at *;refine wK ?_;refine Wp.seq (Wp.block ?_);refine wR (Γ92 p (some ⟨b,o,none⟩) a2 a3 c1 c2 c3 hb) (aa oS x1) ?_ ?_
  ·omega
  refine wR (Γ92 p (some ⟨b,o,none⟩) a2 a3 c1 c2 c3 hb) oS ?_ ?_
  ·exact⟨hsz,he⟩
  refine wC oS (λhc=>?_) (λhc=>?_)
  ·rw[lh (oQ p) p.ty.length k hlt hn (hbad.trans hc)];refine vR CT oS ?_;refine wZ oS ?_;exact λE=>rfl
  ·refine wK ?_;refine vr CT (aa oS wk) ?_;refine⟨k+1,⟨oM,λi hi=>?_⟩,oM,?_⟩
   ·by_cases h:i=k
    ·rw[h];exact hbad.trans hc
    ·exact hn i oM
   ·exact wM (λk=>.key k) oS
 ·have hk' : k=p.ty.length:=by
   simp at hc;omega
  rw[iG (oQ p) p.ty.length (by rw[<- hk'];exact hn)];refine wE ?_;refine wR (Γ92 p a1 a2 a3 c1 c2 c3 hb) oS ?_ ?_
  ·exact⟨hx,hg⟩
  refine wZ oS ?_;exact λE=>rfl
def qP(p:Pg)(a1 a2 a3:Option Addr)(c1 c2 c3:Nat)(hb:PgB p):aM prog 15 where
 pre:=λW bs as_=>as_=[.val (prV p a1 a2 a3 c1 c2 c3)]/\Vn p W (Out bs) a1 a2 a3/\fS W (Out bs)/\bB W (Out bs)
 res:=λ_ _=>EY (ie p)
 enters:=call15
 ok:=by
  intro W w bs us as_ hk hu hp;obtain⟨rfl,h1,h2,h3⟩:=hp
  match us,hu with
  |[x],hu=>
   obtain⟨rfl,_⟩:=hu;exact KA p a1 a2 a3 c1 c2 c3 w (h1.ok hb hk) (h2.dW hk sI) (h3.dW hk sI)
structure wo (op k a b:Int):Prop where
 op0:0<=op
 op1:op<21
 kk:k=0\/((gq op.toNat).2.1=true/\k=1)
 a0:0<=a
 a1:a<=9223372036854775807
 b0:0<=b
 b1:b<=9223372036854775807
theorem ZL{n1 n2 n3:Nat}{u n:Int}(h:sT n1 n2 n3 u n=true)(h1:n1<=140737488351232)(h2:n2<=140737488351232)(h3:n3<=140737488351232):0<=n/\n<=9223372036854775807:=by
 unfold sT at h
 repeat' split at h
 all_goals first
  |(simp[om]at h;omega)
  |(simp at h;omega)
theorem wo.of{n1 n2 n3:Nat}{op k a b:Int}(h:nZ n1 n2 n3 op k a b=true)(h1:n1<=140737488351232)(h2:n2<=140737488351232)(h3:n3<=140737488351232):wo op k a b:=by
 unfold nZ at h;simp only[Bool.and_eq_true,Bool.or_eq_true,decide_eq_true_eq]at h;obtain⟨⟨⟨o0,o1⟩,hk⟩,ha,hb⟩:=h;have ha:=ZL ha h1 h2 h3;have hb:=ZL hb h1 h2 h3;exact⟨o0,o1,hk,ha.1,ha.2,hb.1,hb.2⟩
def svB(k:Int):ByteArray:=if k=0 then ⟨#[115]⟩ else ⟨#[118]⟩
def Q5(n:Int)(wd:ByteArray):ByteArray:=fZ n++⟨#[32]⟩++wd
def l2E(st:Bool)(k:Int)(o:ByteArray):ByteArray:=bif st then o++(⟨#[32]⟩++svB k) else o
def Kj(u a:Int)(o:ByteArray):ByteArray:=if u=0 then o else o++(⟨#[32]⟩++fZ a)
def rn(n op k a b:Int):ByteArray:=Kj (gq op.toNat).2.2.2 b (Kj (gq op.toNat).2.2.1 a (l2E (gq op.toNat).2.1 k (Q5 n (gq op.toNat).1)))
theorem Jx{n:Int}{wd:ByteArray}(h0:0<=n)(h1:n<=9223372036854775807)(hw:wd.size<=5):(Q5 n wd).size<=25:=by
 have:=eK h0 h1;have e:(⟨#[32]⟩:ByteArray).size=1:=rfl;unfold Q5;rw[ByteArray.size_append,ByteArray.size_append,e];omega
theorem JY(st:Bool)(k:Int)(o:ByteArray):(l2E st k o).size<=o.size+2:=by
 have e:(⟨#[32]⟩:ByteArray).size=1:=rfl;have e2:(svB k).size=1:=by unfold svB;split<;>rfl
 cases st
 ·show o.size<=_;omega
 ·show (o++(⟨#[32]⟩++svB k)).size<=_;rw[ByteArray.size_append,ByteArray.size_append,e,e2];omega
theorem Ax{u a:Int}{o:ByteArray}(h0:0<=a)(h1:a<=9223372036854775807):(Kj u a o).size<=o.size+20:=by
 have:=eK h0 h1;have e:(⟨#[32]⟩:ByteArray).size=1:=rfl;unfold Kj;split
 ·omega
 ·rw[ByteArray.size_append,ByteArray.size_append,e];omega
theorem Jl(m:Nat)(hm:m<21):(gq m).1.size<=5:=by
 have:∀ b:Fin 21,(gq b.val).1.size<=5:=by decide +kernel
 exact this ⟨m,hm⟩
theorem yW{n op k a b:Int}(h0:0<=n)(h1:n<=9223372036854775807)(hi:wo op k a b):(rn n op k a b).size<=67:=by
 have g1:=Jx (wd:=(gq op.toNat).1) h0 h1 (Jl _ (by have:=hi.op0;have:=hi.op1;omega));have g2:=JY (gq op.toNat).2.1 k (Q5 n (gq op.toNat).1);have g3:=Ax (u:=(gq op.toNat).2.2.1) (o:=l2E (gq op.toNat).2.1 k (Q5 n (gq op.toNat).1)) hi.a0 hi.a1
 have g4:=Ax (u:=(gq op.toNat).2.2.2) (o:=Kj (gq op.toNat).2.2.1 a (l2E (gq op.toNat).2.1 k (Q5 n (gq op.toNat).1))) hi.b0 hi.b1;unfold rn;omega
noncomputable def UW:Env prog:=⟨λ| 39=>some w8.spec|_=>none,λ| _=>none,λ_ _=>none⟩
theorem ajA:UW.sp 39=some w8.spec:=rfl
def mc:=(aj @List.replicate_succ.{0} @List.replicate_zero.{0} @an @ab jo jl gS (aj ca cc b9 cg cf cj cd (aj ck dc dh cZ db c8 dd (aj B4 B9 B3 BM B2 BN Cl (aj Ce ry Kh H9 Ka Ic VR (aj Yt ZI W6 WC aab XW XK (aj V4 X4 Wd @aG @al @ay @ax (bQ @qV @qB ajA))))))))
theorem aaO(n op k a b:Int)(h0:0<=n)(h1:n<=9223372036854775807)(hi:wo op k a b)(w:World)(hg:fS w (Out []))(ht:fC w (Out [])):Calls prog 40 #[.int .i64 n,inV op k a b] w λe w' => e=.returned (.string (rn n op k a b))/\LE.ah w [] w' := by
 obtain⟨o0,o1,hk,a0,a1,b0,b1⟩:=hi;obtain⟨m,rfl⟩:=Int.eq_ofNat_of_zero_le o0;obtain⟨g1,g2,g3,g4⟩:=hg.2 m oM;unfold rn;rw[Int.toNat_natCast]at hk ⊢;have hwd:=Jl m oM;have hnn:=eK h0 h1;have hna:=eK a0 a1;have hnb:=eK b0 b1;have z32:(⟨#[32]⟩:ByteArray).size=1:=rfl
 have zsv:∀ k,(svB k).size=1:=λk=>by unfold svB;split<;>rfl
 have z2:(⟨#[115,118]⟩:ByteArray).size=2:=rfl;generalize (gq m).1=wd at *;generalize (gq m).2.1=st at *;generalize (gq m).2.2.1=u1 at *;generalize (gq m).2.2.2=u2 at *;refine af (nt:=47) [.tmp 4] func40 rfl rfl rfl ?_;refine vR UW mc ?_;refine wR UW (oy mc g1 g2 g3 g4) ?_ ?_
 ·omega
 refine kO UW mc ?_ ?_
 ·exact⟨⟨⟨h0,h1⟩,ht⟩,by rw[z32];omega,by rw[ByteArray.size_append,z32];omega⟩
 have f1:=Jx (wd:=wd) h0 h1 hwd;have f2:=JY st k (Q5 n wd);have f3:=Ax (u:=u1) (o:=l2E st k (Q5 n wd)) a0 a1
 refine aW ⟨60,bm [(3,.is (.own 0 0)),(5,.is (.own 48 0)),(6,.is (.v (.string (l2E st k (Q5 n wd)))))],aY [(0,.cells 50 [.v (.int .i64 m),.v (.int .i64 k),.v (.int .i64 a),.v (.int .i64 b)]),(48,.cells 160 [.v (.string wd),.v (.bool st),.v (.int .i64 u1),.v (.int .i64 u2)])]⟩ ?_ ?_
 ·skip;refine vR UW mc ?_;refine wC mc (λhc=>?_) (λhc=>?_)
  ·rcases hk with rfl|⟨_,rfl⟩
   ·have e2:l2E st 0 (Q5 n wd)=fZ n++⟨#[32]⟩++wd++(⟨#[32]⟩++svB 0):=by rw[hc];rfl
    have e3:(⟨#[115,118]⟩:ByteArray).extract 0 1=svB 0:=by decide +kernel
    have w1:IntKind.i64.wrap (0+1)=1:=by decide +kernel
    refine wr UW (bQ mc w1 e3) ?_ ?_
    ·rw[ByteArray.size_append,ByteArray.size_append,ByteArray.size_append,z2,z32,zsv];exact⟨dE,oM,oM⟩
    exact wM (λk=>.key k) (aa mc e2)
   ·have e2:l2E st 1 (Q5 n wd)=fZ n++⟨#[32]⟩++wd++(⟨#[32]⟩++svB 1):=by rw[hc];rfl
    have e3:(⟨#[115,118]⟩:ByteArray).extract 1 2=svB 1:=by decide +kernel
    have w1:IntKind.i64.wrap (1+1)=2:=by decide +kernel
    refine wr UW (bQ mc w1 e3) ?_ ?_
    ·rw[ByteArray.size_append,ByteArray.size_append,ByteArray.size_append,z2,z32,zsv];exact⟨dE,oM,oM⟩
    exact wM (λk=>.key k) (aa mc e2)
  ·have e2:l2E st k (Q5 n wd)=fZ n++⟨#[32]⟩++wd:=by rw[hc];rfl
   refine wK ?_;exact wM (λk=>.key k) (aa mc e2)
 generalize l2E st k (Q5 n wd)=o2 at *
 refine aW ⟨100,bm [(3,.is (.own 0 0)),(5,.is (.own 48 0)),(6,.is (.v (.string (Kj u1 a o2))))],aY [(0,.cells 50 [.v (.int .i64 m),.v (.int .i64 k),.v (.int .i64 a),.v (.int .i64 b)]),(48,.cells 160 [.v (.string wd),.v (.bool st),.v (.int .i64 u1),.v (.int .i64 u2)])]⟩ ?_ ?_
 ·skip;refine vR UW mc ?_;refine wC mc (λhc=>?_) (λhc=>?_)
  ·have e2:Kj u1 a o2=o2++(⟨#[32]⟩++fZ a):=by rw[Kj,if_neg (by simpa using hc)]
   refine wr UW mc ?_ ?_
   ·exact⟨⟨⟨a0,a1⟩,ht⟩,by rw[z32];omega,by rw[ByteArray.size_append,z32];omega⟩
   exact wM (λk=>.key k) (aa mc e2)
  ·have e2:Kj u1 a o2=o2:=by rw[Kj,if_pos (by simpa using hc)]
   refine wK ?_;exact wM (λk=>.key k) (aa mc e2)
 generalize Kj u1 a o2=o3 at *
 refine aW ⟨140,bm [(3,.is (.own 0 0)),(5,.is (.own 48 0)),(6,.is (.v (.string (Kj u2 b o3))))],aY [(0,.cells 50 [.v (.int .i64 m),.v (.int .i64 k),.v (.int .i64 a),.v (.int .i64 b)]),(48,.cells 160 [.v (.string wd),.v (.bool st),.v (.int .i64 u1),.v (.int .i64 u2)])]⟩ ?_ ?_
 ·skip;refine vR UW mc ?_;refine wC mc (λhc=>?_) (λhc=>?_)
  ·have e2:Kj u2 b o3=o3++(⟨#[32]⟩++fZ b):=by rw[Kj,if_neg (by simpa using hc)]
   refine wr UW mc ?_ ?_
   ·exact⟨⟨⟨b0,b1⟩,ht⟩,by rw[z32];omega,by rw[ByteArray.size_append,z32];omega⟩
   exact wM (λk=>.key k) (aa mc e2)
  ·have e2:Kj u2 b o3=o3:=by rw[Kj,if_pos (by simpa using hc)]
   refine wK ?_;exact wM (λk=>.key k) (aa mc e2)
 refine vR UW mc ?_;refine wZ mc ?_;exact λE=>rfl
end
section
open Go.RowKit
set_option maxRecDepth 10000
theorem ajM:liesAt Tryz.prog Tryz.prog.depth 91 (2 / Tryz.prog.cellsOf 91) 0 91 1=true:=by kernel_rfl
theorem VC:(Tryz.prog.info? 91).map (·.size)=some 2:=by kernel_rfl
theorem al4:(Tryz.prog.info? 5).map (λi=>(i.zero,i.size,i.bytes))=some (some (.int .u8 0),1,1):=by kernel_rfl
theorem zv(b:Nat)(w:World)(h0:w.cell? ⟨b,0,none⟩=some (.pointer (some ⟨b,0,none⟩))) :
  Calls Tryz.prog 75 #[.pointer (some ⟨b,0,none⟩)] w λe w' => e=.returned (.tuple #[])/\w' = w:=by
 obtain⟨j,hj,_⟩:=Option.map_eq_some_iff.1 VC
 go_enter Tryz.func75,Tryz.ntmps75
 go_wp2
 rw[Lib.run_neq_ptr_same w _ Tryz.underlying88 hj]
 go_wp2
 go_end0
 exact⟨rfl,rfl⟩
theorem xK(b:Nat)(w:World)(h0:w.cell? ⟨b,0,none⟩=some (.pointer none))(hsh:w.shape? b=some (91,2))(hfz:w.frozen? ⟨b,0,none⟩=false) :
  Calls Tryz.prog 75 #[.pointer (some ⟨b,0,none⟩)] w λe w' => e=.returned (.tuple #[])/\w' = w.setCell ⟨b,0,none⟩ (.pointer (some ⟨b,0,none⟩)):=by
 obtain⟨j,hj,hjs⟩:=Option.map_eq_some_iff.1 VC
 go_enter Tryz.func75,Tryz.ntmps75
 go_wp2
 rw[Lib.run_to_unsafe w ⟨b,0,none⟩ Tryz.underlying88 Tryz.underlying257 hj (by rw[hjs];decide) hsh (Nat.zero_lt_succ 1)];simp only[Result.andThen];rw[Oper.upon_value]
 go_wp2
 rw[run_callFunc_extern Tryz.func130 (by kernel_rfl) (by kernel_rfl) (by kernel_rfl) (e:=Extern.AbiNoEscape.same) (by kernel_rfl)];rw[Lib.run_noEscape];simp only[Result.andThen];rw[Oper.upon_value]
 go_wp2
 rw[Lib.run_from_unsafe w ⟨b,0,none⟩ Tryz.underlying257 Tryz.underlying88 hj hsh ajM];simp only[Result.andThen];rw[Oper.upon_value]
 go_wp2
 go_end0
 exact⟨rfl,rfl⟩
theorem rB{w:World}{b:Nat}{T:TypeId}{x y:Value}(h:w.heap[b]?=some (.cells #[x,y] T (0,0)))(i:Nat)(v:Value):(w.setCell ⟨b,i,none⟩ v).heap[b]?=some (.cells (#[x,y].setIfInBounds i v) T (0,0)):=by
 have hlt:b<w.heap.size:=(Array.getElem?_eq_some_iff.1 h).1;have h' : w.heap[b]=.cells #[x,y] T (0,0):=(Array.getElem?_eq_some_iff.1 h).2;show (w.heap.modify b _)[b]?=_;rw[Array.getElem?_eq_getElem (by simpa using hlt),Array.getElem_modify_self,h'];rfl
theorem mF{w:World}(a:Addr)(v:Value)(k:Nat)(hk:k≠a.block):(w.setCell a v).heap[k]?=w.heap[k]?:=Below.heap_setCell w a v k hk
theorem Ca(b:Nat)(p v:Value)(w:World)(hbk:w.heap[b]?=some (.cells #[p,v] 91 (0,0)))(hp:p=.pointer none\/p=.pointer (some ⟨b,0,none⟩)) :
  Calls Tryz.prog 75 #[.pointer (some ⟨b,0,none⟩)] w λe w' => e=.returned (.tuple #[])/\w'.heap[b]?=some (.cells #[.pointer (some ⟨b,0,none⟩),v] 91 (0,0))/\w'.heap.size=w.heap.size/\LE.ah w [b] w' := by
 rcases hp with rfl|rfl
 ·refine (xK b w (by rw[Lib.cell_of_heap hbk];rfl) (by simp[World.shape?,hbk]) (Lib.frozen_of_heap hbk 0)).mono ?_;rintro e w' ⟨rfl,rfl⟩;exact⟨rfl,rB hbk 0 _,by simp,⟨rfl,rfl,rfl,by simp,λk _ hk=>mF _ _ k (by simpa using hk)⟩⟩
 ·refine (zv b w (by rw[Lib.cell_of_heap hbk];rfl)).mono ?_;rintro e w' ⟨rfl,rfl⟩;exact⟨rfl,hbk,rfl,LE.ah.refl _ _⟩
theorem vM{w:World}(t u ty e:TypeId)(i:TypeInfo)(ht:Tryz.prog.underlying t=some (.slice e))(hu:Tryz.prog.underlying u=some .string)(hi:Tryz.prog.info? e=some i)(hz:i.zero=some (.int .u8 0))
  (hsize:i.size=1) (hby:i.bytes=1) (v:Value) (n:Nat) (xs:List Value) (hown:w.ownsRow 0 e 1 v n xs) (s:ByteArray) (h63:n+s.size<=maxLen) (hbytes:n+s.size<=140737488355328) :
  ∃ v' w',(Builtin.append_ #[t,u] ty #[v,.string s]).run Tryz.prog w=.ok v' w' /\ w'.ownsRow 0 e 1 v' (n+s.size) (xs++Lib.strCells s)/\w.grownBy w' v.ownBlock /\
   (v'.ownBlock=v.ownBlock\/v'.ownBlock=some w.heap.size):=by
 obtain⟨v',w',hr,h1,h2,h3⟩:=Lib.run_append_own_string (P:=Tryz.prog) w 0 t u ty e i ht hu hi hz hsize hby v n xs hown s h63 hbytes (Nat.zero_le _);refine⟨v',w',hr,h1,h2,?_⟩;have hxl:xs.length=n:=by simpa using hown.1
 rcases hown.2 with ⟨rfl,rfl⟩|⟨g,cap,cur,rfl,hbg,hg,hnc,hcm,hcs,htake⟩
 ·by_cases hm:s.size=0
  ·rw[h3.2 ⟨rfl,hm⟩];exact .inl rfl
  ·have hr2:=run_append_nil_string (P:=Tryz.prog) w t u ty e i (.int .u8 0) ht hu hi hz s (by omega) (by simp only[maxLen]at h63;omega) (by rw[hby];omega);rw[hr]at hr2;cases hr2;exact .inr rfl
 ·by_cases hroom:n+s.size<=cap
  ·have hr2:=Lib.run_append_room_string (P:=Tryz.prog) w t u ty e i ht hu hi hsize g n cap cur hg s hroom (by rw[hcs];omega);rw[hr]at hr2;cases hr2;exact .inl rfl
  ·have holds:∀ j u,xs[j]?=some u->w.cell? ((⟨g,0,none⟩:Addr).add j)=some u:=hown.cells (g:=g) rfl
   have hr2:=Lib.run_append_grow_string (P:=Tryz.prog) w t u ty e i (.int .u8 0) ht hu hi hz ⟨g,0,none⟩ n cap xs (by rw[hsize];simpa using hxl) holds s (by omega) (by simp only[maxLen]at h63;omega) (by rw[hby];exact growslice_fits (by omega) (by omega));rw[hr]at hr2;cases hr2;exact .inr rfl
theorem rf{ops:Array Oper}{rest:List Oper}{o:Oper}{a:Act}{w:World}{Q:Exit->Act->World->Prop}(hgd:o.guard=none)(sl x:Operand)(t u:TypeId)
  (ho:o.op=.call { callee:=.builtin .append,args:=#[sl,x],argTypes:=#[t,u] })
  (e:TypeId) (i:TypeInfo) (ht:Tryz.prog.underlying t=some (.slice e)) (hu:Tryz.prog.underlying u=some .string) (hi:Tryz.prog.info? e=some i) (hz:i.zero=some (.int .u8 0))
  (hsize:i.size=1) (hby:i.bytes=1)
  (v:Value) (n:Nat) (xs:List Value) (hs:a.eval sl=v) (hown:w.ownsRow 0 e 1 v n xs) (s:ByteArray) (hx:a.eval x=.string s)
  (h63:n+s.size<=maxLen) (hbytes:n+s.size<=140737488355328)
  (h:∀ v' w',w'.ownsRow 0 e 1 v' (n+s.size) (xs++Lib.strCells s)->w.grownBy w' v.ownBlock->(v'.ownBlock=v.ownBlock\/v'.ownBlock=some w.heap.size)->wpList Tryz.prog ops Q rest (a.put o.dst v') w'):wpList Tryz.prog ops Q (o::rest) a w:=by
 refine wpList_plain hgd λK hK=>?_
 obtain⟨v',w',hr,h2,h3,h4⟩:=vM (w:=w) t u o.type e i ht hu hi hz hsize hby v n xs hown s h63 hbytes;unfold Oper.wp execOp;simp only[ho,resolve,invoke,builtin,Sem.run_bind,Sem.run_pure,Result.andThen_ok,List.map_toArray,List.map_cons,List.map_nil,hs,hx,hr];exact hK _ _ (h v' w' h2 h3 h4)
def nV(d:List Value)(u:Value)(fp:List Nat)(w:World):Prop:=
 ∃ s b v p,d=[.string s]/\u=.pointer (some ⟨b,0,none⟩)/\fp=b::v.ownBlock.toList/\w.heap[b]?=some (.cells #[p,v] 91 (0,0))/\w.ownsRow 0 5 1 v s.size (Lib.strCells s)/\v.ownBlock≠some b /\
  (p=.pointer none\/p=.pointer (some ⟨b,0,none⟩))
theorem nV.local{d:List Value}{u:Value}{fp:List Nat}{w w' : World}(h:nV d u fp w)(hl:∀ b∈fp,w'.heap[b]?=w.heap[b]?):nV d u fp w' := by
 obtain⟨s,b,v,p,h1,h2,h3,h4,h5,h6,h7⟩:=h;refine⟨s,b,v,p,h1,h2,h3,by rw[hl b (by simp[h3])];exact h4,⟨h5.1,?_⟩,h6,h7⟩;rcases h5.2 with h|⟨g,cap,cur,hv,hb,hg,r⟩
 ·exact .inl h
 ·exact .inr ⟨g,cap,cur,hv,hb,by rw[hl g (by rw[h3,hv];simp[Value.ownBlock])];exact hg,r⟩
theorem WM{w:World}{v:Value}{n:Nat}{xs:List Value}(h:w.ownsRow 0 5 1 v n xs):∀ g,v.ownBlock=some g->g<w.heap.size:=by
 intro g hg;rcases h.2 with ⟨rfl,_⟩|⟨g',cap,cur,rfl,_,hh,_⟩
 ·cases hg
 ·cases hg;exact (Array.getElem?_eq_some_iff.1 hh).1
theorem xU(u:Value)(fp:List Nat)(s0 s:ByteArray)(w:World)(h:nV [.string s0] u fp w)(hlen:s0.size+s.size<=140737488355328) :
  Calls Tryz.prog 37 #[u,.string s] w λe w' => ∃ fp',e=.returned (.tuple #[.int .i64 s.size,.nilIface])/\nV [.string (s0++s)] u fp' w' /\ (∀ b∈fp',b∈fp\/w.heap.size<=b)/\(∀ b∈fp',b<w'.heap.size)/\LE.ah w fp w' := by
 obtain⟨s0',b,v,p,hd,rfl,rfl,hbk,hown,hne,hp⟩:=h;cases hd;obtain⟨i0,hi,hz0,hz1,hz2⟩:=info_parts al4;have hbs:(Lib.strCells s0).length=s0.size:=Lib.strCells_length s0;have hcc:=Ca b p v w hbk hp
 go_enter Tryz.func37,Tryz.ntmps37
 go_wp2_with (refine hcc.mono ?_)
 rintro e w1 ⟨rfl,hbk1,hs1,hk1⟩;have hg1:∀ g,v.ownBlock=some g->w1.heap[g]?=w.heap[g]?:=λg hg=>hk1.block g (WM hown g hg) (by rintro h;simp at h;subst h;exact hne hg)
 have hown1:w1.ownsRow 0 5 1 v s0.size (Lib.strCells s0):=by
  refine⟨hown.1,?_⟩;rcases hown.2 with h|⟨g,cap,cur,hv,hb,hg,r⟩
  ·exact .inl h
  ·exact .inr ⟨g,cap,cur,hv,hb,by rw[hg1 g (by rw[hv];rfl)];exact hg,r⟩
 have c0:w1.cell? ⟨b,0,none⟩=some (.pointer (some ⟨b,0,none⟩)):=by rw[Lib.cell_of_heap hbk1];rfl
 have c1:w1.cell? ⟨b,1,none⟩=some v:=by rw[Lib.cell_of_heap hbk1];rfl
 clear hg1 hcc
 go_wp2_with (at_builtin;refine rf rfl _ _ 89 9 rfl 5 i0 Tryz.underlying89 Tryz.underlying9 hi hz0 hz1 hz2 _ _ _ rfl hown1 s rfl ?c3 ?c4 ?_)
 case c3=>unfold maxLen;omega
 case c4=>omega
 intro v' w2 hown' hgrow htold;have hlt:b<w1.heap.size:=(Array.getElem?_eq_some_iff.1 hbk1).1;have hb2:w2.heap[b]?=some (.cells #[.pointer (some ⟨b,0,none⟩),v] 91 (0,0)):=by
  rw[hgrow.block b hlt (λe=>hne e.symm)];exact hbk1
 have d0:w2.cell? ⟨b,0,none⟩=some (.pointer (some ⟨b,0,none⟩)):=by rw[Lib.cell_of_heap hb2];rfl
 have d1:w2.cell? ⟨b,1,none⟩=some v:=by rw[Lib.cell_of_heap hb2];rfl
 have f1:w2.frozen? ⟨b,1,none⟩=false:=Lib.frozen_of_heap hb2 1;obtain⟨ao,n',cap,rfl⟩:∃ ao n' cap,v' = .slice ao n' cap:=by
  rcases hown'.2 with ⟨hv,_⟩|⟨g,cap,cur,hv,_⟩
  ·exact⟨_,_,_,hv⟩
  ·exact⟨_,_,_,hv⟩
 have hgs:=hgrow.size;have hne' : (Value.slice ao n' cap).ownBlock≠some b:=by
  rcases htold with h|h
  ·rw[h];exact hne
  ·rw[h];rintro h;cases h;omega
 have hkeep:LE.ah w (b::v.ownBlock.toList) (w2.setCell ⟨b,1,none⟩ (.slice ao n' cap)):=by
  refine⟨hgrow.os.trans hk1.os,hgrow.tape.trans hk1.tape,hgrow.output.trans hk1.output,by simp;omega,λk hk hkn=>?_⟩;simp only[List.mem_cons,not_or]at hkn;rw[mF _ _ k hkn.1,hgrow.block k (by omega) (by rintro h;exact hkn.2 (by rw[<- h];simp)),hk1.block k hk (by simpa using hkn.1)]
 go_wp2
 go_ret2
 refine⟨b::(Value.slice ao n' cap).ownBlock.toList,rfl,?_,λk hk=>?_,λk hk=>?_,hkeep⟩
 ·refine⟨s0++s,b,.slice ao n' cap,_,rfl,rfl,rfl,rB hb2 1 _,?_,hne',.inr rfl⟩;have e1:Lib.strCells (s0++s)=Lib.strCells s0++Lib.strCells s:=by simp[Lib.strCells,ByteArray.data_append]
  have e2:(s0++s).size=s0.size+s.size:=ByteArray.size_append;rw[e1,e2];refine⟨hown'.1,?_⟩;rcases hown'.2 with h|⟨g,c,cur,hv,hb,hg,r⟩
  ·exact .inl h
  ·refine .inr ⟨g,c,cur,hv,hb,?_,r⟩;rw[mF _ _ g (by rintro h;rw[hv]at hne';exact hne' (by rw[h];rfl))];exact hg
 ·simp only[List.mem_cons]at hk ⊢;rcases hk with rfl|hk
  ·exact .inl (.inl rfl)
  ·rcases htold with h|h
   ·rw[h]at hk;exact .inl (.inr hk)
   ·rw[h]at hk;simp at hk;right;omega
 ·simp only[List.mem_cons]at hk;rcases hk with rfl|hk
  ·simp;omega
  ·have:=WM hown' k (by simpa using hk);simpa using this
end
section
open Go.RowKit
theorem rZ(w:World)(bs:List Nat):LE.ah w bs w.drew:=⟨rfl,rfl,rfl,Nat.le_refl _,λ_ _ _=>rfl⟩
theorem D9(w:World)(g n:Nat):LE.ah w [g] (w.drew.freeze ⟨g,0,none⟩ n):=by
 unfold World.freeze;split
 ·exact rZ w _
 ·refine⟨rfl,rfl,rfl,by simp,λk hk hkn=>?_⟩;have hne:g≠k:=λe=>hkn (by simp[e])
  show (w.drew.heap.modify g _)[k]?=_;rw[Array.getElem?_modify,if_neg hne];rfl
theorem J5(b g cap:Nat)(p:Value)(cur:Array Value)(l:List UInt8)(w:World)(hbk:w.heap[b]?=some (.cells #[p,.slice (some ⟨g,0,none⟩) l.length cap] 91 (0,0)))(h0:l≠[])
  (hg:w.heap[g]?=some (.cells cur 5 (0,0))) (hcm:cap<=maxLen) (hcs:cur.size=cap) (hlc:l.length<=cap) (hcells:∀ j x,l[j]?=some x->w.cell? ⟨g,j,none⟩=some (.int .u8 x.toNat)) :
  Calls Tryz.prog 41 #[.pointer (some ⟨b,0,none⟩)] w λe w' => e=.returned (.string ⟨l.toArray⟩)/\LE.ah w [g] w' := by
 have hl0:l.length≠0:=by simpa using h0
 have c1:w.drew.cell? ⟨b,1,none⟩=some (.slice (some ⟨g,0,none⟩) l.length cap):=by
  have:w.drew.heap[b]?=some (.cells #[p,.slice (some ⟨g,0,none⟩) l.length cap] 91 (0,0)):=hbk;rw[Lib.cell_of_heap this];rfl
 have hSD:(Builtin.unsafeSliceData_ #[89] 162 #[.slice (some ⟨g,0,none⟩) l.length cap]).run Tryz.prog w.drew=.ok (.pointer (some ⟨g,0,none⟩)) w.drew:=
  Lib.run_unsafeSliceData_row _ _ _ _ _ _ (by omega)
 have hUS:(Builtin.unsafeString_ #[162,3] 9 #[.pointer (some ⟨g,0,none⟩),.int .i64 l.length]).run Tryz.prog w.drew=.ok (.string ⟨l.toArray⟩) (w.drew.freeze ⟨g,0,none⟩ l.length):=by
  refine Lib.run_unsafeString_row w.drew 162 3 9 5 Tryz.underlying162 (by kernel_rfl) g cur.size (by have hg' : w.drew.heap[g]?=some (.cells cur 5 (0,0)):=hg;simp[World.shape?,hg']) l h0 (by omega) (by unfold maxLen at hcm;omega) ?_;intro j x hx;rw[Addr.add_lit,Nat.zero_add];exact hcells j x hx
 clear hcells;have mixed:=b8
 go_enter Tryz.func41,Tryz.ntmps41
 go_wp2
 go_region_o
 all_goals (go_wp2;go_ret;exact⟨rfl,D9 w g _⟩)
theorem LG(b:Nat)(p:Value)(w:World)(hbk:w.heap[b]?=some (.cells #[p,.slice none 0 0] 91 (0,0))) :
  Calls Tryz.prog 41 #[.pointer (some ⟨b,0,none⟩)] w λe w' => e=.returned (.string ⟨#[]⟩)/\LE.ah w [] w' := by
 have hUS:=λ(W:World) (q:Option Addr)=>Lib.run_unsafeString_none (P:=Tryz.prog) W 162 3 9 q
 have c1:w.drew.cell? ⟨b,1,none⟩=some (.slice none 0 0):=by
  have:w.drew.heap[b]?=some (.cells #[p,.slice none 0 0] 91 (0,0)):=hbk;rw[Lib.cell_of_heap this];rfl
 have hSD:(Builtin.unsafeSliceData_ #[89] 162 #[.slice none 0 0]).run Tryz.prog w.drew=.ok (.pointer none) w.drew:=rfl;have mixed:=b8
 go_enter Tryz.func41,Tryz.ntmps41
 go_wp2
 go_region_o
 all_goals (go_wp2;go_ret;exact⟨rfl,rZ w _⟩)
theorem Cg(b g:Nat)(p:Value)(cur:Array Value)(w:World)(hbk:w.heap[b]?=some (.cells #[p,.slice (some ⟨g,0,none⟩) 0 0] 91 (0,0)))(hg:w.heap[g]?=some (.cells cur 5 (0,0))) :
  Calls Tryz.prog 41 #[.pointer (some ⟨b,0,none⟩)] w λe w' => e=.returned (.string ⟨#[]⟩)/\LE.ah w [] w' := by
 have hUS:=λ(W:World) (q:Option Addr)=>Lib.run_unsafeString_none (P:=Tryz.prog) W 162 3 9 q
 have hlt:b<w.heap.size:=(Array.getElem?_eq_some_iff.1 hbk).1;have c1:w.drew.cell? ⟨b,1,none⟩=some (.slice (some ⟨g,0,none⟩) 0 0):=by
  have:w.drew.heap[b]?=some (.cells #[p,.slice (some ⟨g,0,none⟩) 0 0] 91 (0,0)):=hbk;rw[Lib.cell_of_heap this];rfl
 have hSD:(Builtin.unsafeSliceData_ #[89] 162 #[.slice (some ⟨g,0,none⟩) 0 0]).run Tryz.prog w.drew=.ok (.pointer (some ⟨w.drew.heap.size,0,none⟩)) (w.drew.alloc (.view ⟨g,0,none⟩ 5)):=
  Lib.run_unsafeSliceData_zero w.drew _ _ 5 Tryz.underlying162 ⟨g,0,none⟩ 0 (5,cur.size) (by have hg' : w.drew.heap[g]?=some (.cells cur 5 (0,0)):=hg;simp[World.shape?,hg'])
 have c2:(w.drew.alloc (.view ⟨g,0,none⟩ 5)).cell? ⟨b,1,none⟩=some (.slice (some ⟨g,0,none⟩) 0 0):=by
  have:(w.drew.alloc (.view ⟨g,0,none⟩ 5)).heap[b]?=_:=(Lib.alloc_old w.drew _ b hlt).trans hbk;rw[Lib.cell_of_heap this];rfl
 have c3:(w.alloc (.view ⟨g,0,none⟩ 5)).drew.cell? ⟨b,1,none⟩=some (.slice (some ⟨g,0,none⟩) 0 0):=c2;have c0:w.cell? ⟨b,1,none⟩=some (.slice (some ⟨g,0,none⟩) 0 0):=c1;have mixed:=b8
 go_enter Tryz.func41,Tryz.ntmps41
 go_wp2
 go_region_o
 all_goals (go_wp2;go_ret;exact⟨rfl,⟨rfl,rfl,rfl,by simp,λk hk _=>Lib.alloc_old w.drew _ k hk⟩⟩)
theorem GI(b g cap:Nat)(p:Value)(w:World)(hc0:cap≠0)(hbk:w.heap[b]?=some (.cells #[p,.slice (some ⟨g,0,none⟩) 0 cap] 91 (0,0))) :
  Calls Tryz.prog 41 #[.pointer (some ⟨b,0,none⟩)] w λe w' => e=.returned (.string ⟨#[]⟩)/\LE.ah w [] w' := by
 have hUS:=λ(W:World) (q:Option Addr)=>Lib.run_unsafeString_none (P:=Tryz.prog) W 162 3 9 q
 have c1:w.drew.cell? ⟨b,1,none⟩=some (.slice (some ⟨g,0,none⟩) 0 cap):=by
  have:w.drew.heap[b]?=some (.cells #[p,.slice (some ⟨g,0,none⟩) 0 cap] 91 (0,0)):=hbk;rw[Lib.cell_of_heap this];rfl
 have hSD:(Builtin.unsafeSliceData_ #[89] 162 #[.slice (some ⟨g,0,none⟩) 0 cap]).run Tryz.prog w.drew=.ok (.pointer (some ⟨g,0,none⟩)) w.drew:=
  Lib.run_unsafeSliceData_row _ _ _ _ _ _ hc0
 clear hc0;have mixed:=b8
 go_enter Tryz.func41,Tryz.ntmps41
 go_wp2
 go_region_o
 all_goals (go_wp2;go_ret;exact⟨rfl,rZ w _⟩)
theorem Nu(u:Value)(fp:List Nat)(s:ByteArray)(w:World)(h:nV [.string s] u fp w) :
  Calls Tryz.prog 41 #[u] w λe w' => e=.returned (.string s)/\LE.ah w fp w' := by
 obtain⟨s',b,v,p,hd,rfl,rfl,hbk,hown,hne,hp⟩:=h;cases hd;rcases s with ⟨⟨l⟩⟩;have hsz:(ByteArray.mk ⟨l⟩).size=l.length:=rfl;rw[hsz]at hown;rcases hown.2 with ⟨rfl,hz⟩|⟨g,cap,cur,rfl,hbg,hg,hnc,hcm,hcs,htake⟩
 ·have hl:l=[]:=List.eq_nil_of_length_eq_zero hz;subst hl;exact (LG b p w hbk).mono λe w' ⟨h1,h2⟩=>⟨h1,h2.mono (by simp)⟩
 ·by_cases hl:l=[]
  ·subst hl;by_cases hc:cap=0
   ·subst hc;exact (Cg b g p cur w hbk hg).mono λe w' ⟨h1,h2⟩=>⟨h1,h2.mono (by simp)⟩
   ·exact (GI b g cap p w hc hbk).mono λe w' ⟨h1,h2⟩=>⟨h1,h2.mono (by simp)⟩
  ·refine (J5 b g cap p cur l w hbk hl hg hcm (by rw[hcs];omega) hnc λj x hx=>?_).mono λe w' ⟨h1,h2⟩=>⟨h1,h2.mono (by simp[Value.ownBlock])⟩
   have:=hown.cells (g:=g) rfl j (.int .u8 x.toNat) (by simp[Lib.strCells,hx])
   rwa [Addr.add_lit,Nat.zero_add]at this
end
section
open Go.RowKit Go.LE Go.Proofs.Tryz
def nlB:ByteArray:=⟨#[10]⟩
theorem On(t:ByteArray):(t++nlB).size=t.size+1:=by rw[ByteArray.size_append];rfl
theorem Vy(u:Value)(fp:List Nat)(s0 s:ByteArray)(w:World)(h:nV [.string s0] u fp w)(hlen:s0.size+s.size+1<=140737488355328) :
  Calls prog 36 #[.string s,u] w λe w' => ∃ fp',e=.returned (.tuple #[])/\nV [.string (s0++(s++nlB))] u fp' w' /\ (∀ b∈fp',b∈fp\/w.heap.size<=b)/\(∀ b∈fp',b<w'.heap.size)/\LE.ah w fp w' := by
 have hw:=xU u fp s0 (s++nlB) w h (by rw[On];omega)
 go_enter func36,Tryz.ntmps36
 go_wp2_with (refine hw.mono ?_)
 rintro e w1 ⟨fp',rfl,h1,h2,h3,h4⟩
 go_wp2
 go_end0
 exact⟨fp',rfl,h1,h2,h3,h4⟩
def xR:Option aT->Option (ByteArray×Prop)
 |some (.obj [.string s] R)=>some (s,R=nV)
 |some (.cells T [.v (.pointer none),.v (.slice none 0 0)])=>some (⟨#[]⟩,T=91)
 |_=>none
theorem yT{E:Nat->Value}{u:Value}{fp:List Nat}{w:World}{e:aT}{s:ByteArray}{p:Prop}(h:xR (some e)=some (s,p))(hp:p)(he:a6 E u fp w e):nV [.string s] u fp w:=by
 unfold xR at h;split at h
 ·rename_i s' R heq;cases h;cases heq;subst hp;exact he.1.1
 ·rename_i T heq;cases h;cases heq;subst hp;obtain⟨b,rfl,rfl,hh⟩:=he;exact⟨_,b,.slice none 0 0,.pointer none,rfl,rfl,rfl,hh,World.ownsRow_nil w 0 5 1,by simp[Value.ownBlock],.inl rfl⟩
 ·cases h
def wsK(k:Nat)(t:ByteArray):Option (ByteArray×Prop)->R
 |some (s,p)=>⟨p/\s.size+t.size+1<=140737488355328,.tup [],[(k,some (.obj [.string (s++(t++nlB))] nV))],none,[],[k]⟩
 |none=>.bad
def XP(h:Hp):List SV->R
 |[.v (.string t),.own k 0]=>wsK k t (xR (h k))
 |_=>.bad
theorem mS(h:Hp)(k:Nat)(t:ByteArray):XP h [.v (.string t),.own k 0]=wsK k t (xR (h k)):=rfl
theorem s7(k:Nat)(t s:ByteArray)(p:Prop):wsK k t (some (s,p))=⟨p/\s.size+t.size+1<=140737488355328,.tup [],[(k,some (.obj [.string (s++(t++nlB))] nV))],none,[],[k]⟩:=rfl
theorem Ys(s:ByteArray)(R:List Value->Value->List Nat->World->Prop):xR (some (.obj [.string s] R))=some (s,R=nV):=rfl
theorem Ab(T:TypeId):xR (some (.cells T [.v (.pointer none),.v (.slice none 0 0)]))=some (⟨#[]⟩,T=91):=rfl
theorem Ho{E:Nat->Value}{k:Nat}{w:World}{fp:List Nat}{d:List Value}(h:nV d (E k) fp w):den E (.own k 0)=E k:=by
 obtain⟨_,b,_,_,_,hu,_⟩:=h;simp[den,hu,base,di]
theorem Ag{h:Hp}{args:List SV}(hs:(XP h args).side):∃ k t s p,args=[.v (.string t),.own k 0]/\xR (h k)=some (s,p)/\p/\s.size+t.size+1<=140737488355328:=by
 unfold XP at hs;split at hs
 ·rename_i t k;cases hb:xR (h k) with
  |none=>rw[hb]at hs;exact hs.elim
  |some q=>
   obtain⟨s,p⟩:=q;rw[hb]at hs;exact⟨k,t,s,p,rfl,hb,hs.1,hs.2⟩
 ·exact hs.elim
def NR:LE.Spec prog 36 where
 ev:=λ_ _ _ h args=>XP h args
 good:=by
  intro W bs κ E F h w K args hs hK hk hx hside;rw[call36];obtain⟨k,t,s,p,rfl,hb,hp,hlen⟩:=Ag hside;rw[mS,hb,s7];cases hkk:h k with
  |none=>rw[hkk]at hb;cases hb
  | some e=>
   rw[hkk]at hb;have hB:=yT hb hp (hs.ent k e hkk);have hargs:(au E [.v (.string t),.own k 0]).toArray=#[.string t,E k]:=by
    show #[.string t,den E (.own k 0)]=_;rw[Ho hB]
   rw[hargs];refine GB (e' := .obj [.string (s++(t++nlB))] nV) hs hkk ((Vy (E k) (F k) s t w hB hlen).mono λen w' he=>?_) rfl rfl;obtain⟨fp',rfl,h1,h2,h3,h4⟩:=he;refine⟨_,fp',rfl,⟨⟨h1,?_⟩,λw'' hl=>h1.local hl⟩,h2,h3,h4,?_⟩
   ·obtain⟨_,b,_,_,_,hu,_⟩:=h1;rw[hu];rfl
   ·simp[den,au]
 keys:=by
  intro W bs κ h K args hK hx hside;obtain⟨k,t,s,p,rfl,hb,hp,hlen⟩:=Ag hside;rw[mS,hb,s7];refine⟨λj hj=>by simp[SV.keys,aw]at hj,λq hq=>?_⟩;simp only[List.mem_singleton]at hq;subst hq;exact⟨.inl (hx k (by simp[aw,SV.keys])),λe he j hj=>by simp at he;subst he;cases hj⟩
 loc:=by
  intro W bs κ h h' args hside hr;obtain⟨k,t,s,p,rfl,hb,hp,hlen⟩:=Ag hside;rw[mS,hb,s7]at hr;rw[mS,mS,hr k sI]
def stK(k:Nat):Option (ByteArray×Prop)->R
 |some (s,p)=>⟨p,.v (.string s),[(k,none)],none,[],[k]⟩
 |none=>.bad
def Wz(h:Hp):List SV->R
 |[.own k 0]=>stK k (xR (h k))
 |_=>.bad
theorem nu(h:Hp)(k:Nat):Wz h [.own k 0]=stK k (xR (h k)):=rfl
theorem tw(k:Nat)(s:ByteArray)(p:Prop):stK k (some (s,p))=⟨p,.v (.string s),[(k,none)],none,[],[k]⟩:=rfl
theorem Aa{h:Hp}{args:List SV}(hs:(Wz h args).side):∃ k s p,args=[.own k 0]/\xR (h k)=some (s,p)/\p:=by
 unfold Wz at hs;split at hs
 ·rename_i k;cases hb:xR (h k) with
  |none=>rw[hb]at hs;exact hs.elim
  |some q=>
   obtain⟨s,p⟩:=q;rw[hb]at hs;exact⟨k,s,p,rfl,hb,hs⟩
 ·exact hs.elim
def KZ:LE.Spec prog 41 where
 ev:=λ_ _ _ h args=>Wz h args
 good:=by
  intro W bs κ E F h w K args hs hK hk hx hside;rw[call41];obtain⟨k,s,p,rfl,hb,hp⟩:=Aa hside;rw[nu,hb,tw];cases hkk:h k with
  |none=>rw[hkk]at hb;cases hb
  |some e=>
   rw[hkk]at hb;have hB:=yT hb hp (hs.ent k e hkk);have hargs:(au E [.own k 0]).toArray=#[E k]:=by simp only[au,Ho hB]
   rw[hargs];refine (Nu (E k) (F k) s w hB).mono λen w' he=>?_
   obtain⟨rfl,hkeep⟩:=he;exact⟨rfl,E,F,λ_ _=>rfl,rfl,hs.amz hkk hkeep⟩
 keys:=by
  intro W bs κ h K args hK hx hside;obtain⟨k,s,p,rfl,hb,hp⟩:=Aa hside;rw[nu,hb,tw];refine⟨λj hj=>by simp[SV.keys]at hj,λq hq=>?_⟩;simp only[List.mem_singleton]at hq;subst hq;exact⟨.inl (hx k (by simp[aw,SV.keys])),λe he=>by cases he⟩
 loc:=by
  intro W bs κ h h' args hside hr;obtain⟨k,s,p,rfl,hb,hp⟩:=Aa hside;rw[nu,hb,tw]at hr;rw[nu,nu,hr k sI]
def tyL(t:ByteArray):ByteArray:=⟨#[116,121,112,101,32,47]⟩++t++⟨#[47]⟩
def txL(t:ByteArray):ByteArray:=⟨#[116,101,120,116,32]⟩++dS t
def By(s v:Int):ByteArray:=⟨#[109,97,105,110,32]⟩++fZ s++⟨#[32]⟩++fZ v
def coL(p:Pg)(i:Nat):ByteArray:=rn i (p.co.getD i (0,0,0,0)).1 (p.co.getD i (0,0,0,0)).2.1 (p.co.getD i (0,0,0,0)).2.2.1 (p.co.getD i (0,0,0,0)).2.2.2
def yR(p:Pg)(k:Nat):List ByteArray:=(p.ty.take k).map tyL
def vz(p:Pg)(k:Nat):List ByteArray:=yR p p.ty.length++(p.tx.take k).map txL
def yS(p:Pg)(k:Nat):List ByteArray:=(vz p p.tx.length++[By p.src p.vw])++(List.range k).map (coL p)
def ah7(p:Pg):List ByteArray:=yS p p.co.length
def zG(l:List ByteArray):ByteArray:=l.foldl (λo s=>o++(s++nlB)) ⟨#[]⟩
theorem qx(l:List ByteArray)(s:ByteArray):zG (l++[s])=zG l++(s++nlB):=by simp[zG]
def ahD(p:Pg):ByteArray:=zG (ah7 p)
def Jf(p:Pg):ByteArray:=if ie p=(0,0,⟨#[]⟩) then ahD p else ⟨#[]⟩
theorem Sf{p:Pg}{k:Nat}(hk:k<p.ty.length):yR p (k+1)=yR p k++[tyL p.ty[k]]:=by
 rw[yR,List.take_succ_eq_append_getElem hk,List.map_append];rfl
theorem T4(p:Pg):vz p 0=yR p p.ty.length:=by rw[vz,List.take_zero,List.map_nil,List.append_nil]
theorem Si{p:Pg}{k:Nat}(hk:k<p.tx.length):vz p (k+1)=vz p k++[txL p.tx[k]]:=by
 rw[vz,List.take_succ_eq_append_getElem hk,List.map_append,<- List.append_assoc];rfl
theorem Se(p:Pg):yS p 0=vz p p.tx.length++[By p.src p.vw]:=by rw[yS];simp
theorem Vx{p:Pg}{k:Nat}(hk:k<p.co.length):coL p k=rn k p.co[k].1 p.co[k].2.1 p.co[k].2.2.1 p.co[k].2.2.2:=by
 rw[coL,List.getD_eq_getElem?_getD,List.getElem?_eq_getElem hk];rfl
theorem RN{p:Pg}{k:Nat}(hk:k<p.co.length):yS p (k+1)=yS p k++[rn k p.co[k].1 p.co[k].2.1 p.co[k].2.2.1 p.co[k].2.2.2]:=by
 rw[yS,List.range_succ,List.map_append,<- List.append_assoc,<- Vx hk];rfl
theorem Hf{p:Pg}{k:Nat}(hk:k<=p.ty.length):(yR p k).length=k:=by rw[yR,List.length_map,List.length_take];omega
theorem AB{p:Pg}{k:Nat}(hk:k<=p.tx.length):(vz p k).length=p.ty.length+k:=by rw[vz,List.length_append,Hf (Nat.le_refl _),List.length_map,List.length_take];omega
theorem VX(p:Pg)(k:Nat):(yS p k).length=p.ty.length+p.tx.length+1+k:=by
 rw[yS,List.length_append,List.length_append,AB (Nat.le_refl _),List.length_map,List.length_range];rfl
def SmL(l:List ByteArray):Prop:=∀ s∈l,s.size<=4194399
theorem RC:∀ l:List ByteArray,SmL l->(zG l).size<=l.length*4194400:=by
 intro l
 suffices h:∀ (l:List ByteArray) (o:ByteArray),SmL l->(l.foldl (λo s=>o++(s++nlB)) o).size<=o.size+l.length*4194400 by
  intro hl;have:=h l ⟨#[]⟩ hl;have e:(⟨#[]⟩:ByteArray).size=0:=rfl;rw[e]at this;unfold zG;omega
 intro l
 induction l with
 |nil=>intro o _;simp
 |cons s r ih=>
  intro o hl;have h1:=ih (o++(s++nlB)) λx hx=>hl x (List.mem_cons_of_mem _ hx)
  have h2:=hl s (List.mem_cons_self ..);rw[ByteArray.size_append,On]at h1;rw[List.foldl_cons,List.length_cons];omega
structure PgZ (p:Pg):Prop where
 l1:p.ty.length<=1048576
 l2:p.tx.length<=1048576
 l3:p.co.length<=1048576
 z1:∀ s∈p.ty,s.size<=1048576
 z2:∀ s∈p.tx,s.size<=1048576
theorem PgZ.b{p:Pg}(h:PgZ p):PgB p:=⟨by have:=h.l1;omega,by have:=h.l2;omega,by have:=h.l3;omega,λs hs=>by have:=h.z1 s hs;omega⟩
theorem JM(t:ByteArray):(tyL t).size=t.size+7:=by
 have e1:(⟨#[116,121,112,101,32,47]⟩:ByteArray).size=6:=rfl;have e2:(⟨#[47]⟩:ByteArray).size=1:=rfl;unfold tyL;rw[ByteArray.size_append,ByteArray.size_append,e1,e2];omega
theorem H8(t:ByteArray):(txL t).size<=4*t.size+7:=by
 have e1:(⟨#[116,101,120,116,32]⟩:ByteArray).size=5:=rfl;have:=Cs t;unfold txL;rw[ByteArray.size_append,e1];omega
structure PgS (p:Pg):Prop where
 s0:0<=p.src
 s1:p.src<p.ty.length
 v0:0<=p.vw
 v1:p.vw<p.ty.length
 ty:∀ (i:Nat) (h:i<p.ty.length),uq p.ty[i]=true
 co:∀ (i:Nat) (h:i<p.co.length),nZ p.ty.length p.tx.length p.co.length p.co[i].1 p.co[i].2.1 p.co[i].2.2.1 p.co[i].2.2.2=true
theorem sg(P:Nat->Bool):∀ k j,cS P k j=none->∀ i,j<=i->i<j+k->P i=false
 |0,j,_,i,h1,h2=>by omega
 | k+1,j,h,i,h1,h2=>by
  unfold cS at h;cases hp:P j with
  |true=>rw[hp]at h;cases h
  |false=>
   rw[hp]at h;by_cases e:i=j
   ·rw[e];exact hp
   ·exact sg P k (j+1) h i oM oM
theorem RU{p:Pg}(h:(ie p).1=0):ie p=(0,0,⟨#[]⟩)/\PgS p/\p.ty.length<=131072/\p.tx.length<=131072/\p.co.length<=131072:=by
 unfold ie at h ⊢;split at h
 ·cases h
 ·rename_i h0;cases ht:cS (oQ p) p.ty.length 0 with
  |some i=>rw[ht]at h;cases h
  | none=>
   rw[ht]at h;rw[if_neg h0];dsimp only at h ⊢;unfold eW at h ⊢;split at h
   ·cases h
   ·rename_i hw;cases hc:cS (sq p) p.co.length 0 with
    |some i=>rw[hc]at h;cases h
    | none=>
     rw[if_neg hw];have g1:=sg _ _ _ ht;have g2:=sg _ _ _ hc;simp[om]at hw;refine⟨rfl,⟨oM,oM,oM,oM,λi hi=>?_,λi hi=>?_⟩,oM,oM,oM⟩
     ·have:=g1 i oM oM;rw[oQ,List.getD_eq_getElem?_getD,List.getElem?_eq_getElem hi]at this;simpa using this
     ·have:=g2 i oM oM;rw[sq,List.getD_eq_getElem?_getD,List.getElem?_eq_getElem hi]at this;simpa using this
theorem PgS.ins{p:Pg}(h:PgS p)(hb:PgB p)(i:Nat)(hi:i<p.co.length):wo p.co[i].1 p.co[i].2.1 p.co[i].2.2.1 p.co[i].2.2.2:=wo.of (h.co i hi) hb.l1 hb.l2 hb.l3
theorem yH{p:Pg}(h:PgS p)(hz:PgB p):(By p.src p.vw).size<=44:=by
 have e1:(⟨#[109,97,105,110,32]⟩:ByteArray).size=5:=rfl;have e2:(⟨#[32]⟩:ByteArray).size=1:=rfl;have:=h.s1;have:=h.v1;have:=hz.l1;have:=eK h.s0 oM;have:=eK h.v0 oM;unfold By;rw[ByteArray.size_append,ByteArray.size_append,ByteArray.size_append,e1,e2];omega
theorem SmL.app{l m:List ByteArray}(h:SmL l)(h' : SmL m):SmL (l++m):=λs hs=>(List.mem_append.1 hs).elim (h s) (h' s)
theorem Ol{p:Pg}(hz:PgZ p)(k:Nat):SmL (yR p k):=λs hs=>by
 obtain⟨t,ht,rfl⟩:=List.mem_map.1 hs;have:=hz.z1 t (List.mem_of_mem_take ht);rw[JM];omega
theorem FF{p:Pg}(hz:PgZ p)(k:Nat):SmL (vz p k):=(Ol hz _).app λs hs=>by
 obtain⟨t,ht,rfl⟩:=List.mem_map.1 hs;have:=hz.z2 t (List.mem_of_mem_take ht);have:=H8 t;omega
theorem acE{p:Pg}(hz:PgZ p)(h:PgS p){k:Nat}(hk:k<=p.co.length):SmL (yS p k):=by
 refine ((FF hz _).app λs hs=>?_).app λs hs=>?_
 ·rw[List.mem_singleton.1 hs];have:=yH h hz.b;omega
 ·obtain⟨i,hi,rfl⟩:=List.mem_map.1 hs;have hi' : i<p.co.length:=by have:=List.mem_range.1 hi;omega
  rw[Vx hi'];have:=hz.l3;have:=yW (n:=i) oM oM (h.ins hz.b i hi');omega
theorem yz{l:List ByteArray}(h:SmL l)(hl:l.length<=3145729):(zG l).size<=13194645717600:=by
 have:=RC l h;omega
end
section
open Go.RowKit Go.LE Go.Proofs.Tryz
set_option maxRecDepth 10000
theorem Nb:∀ b:Fin 256,(0<=IntKind.u8.wrap (((b.val:Nat):Int).tdiv 16)/\IntKind.u8.wrap (((b.val:Nat):Int).tdiv 16)<16)/\(0<=((b.val:Nat):Int).tmod 16/\((b.val:Nat):Int).tmod 16<16) /\
  IntKind.u8.wrap (((b.val:Nat):Int).tdiv 16)=((b.val:Nat):Int) / 16/\((b.val:Nat):Int).tmod 16=((b.val:Nat):Int) % 16:=by decide +kernel
def cU:=(aj @List.replicate_succ.{0} @List.replicate_zero.{0} @an @ab BH BJ BG (aj ty5 ty6 ty7 ty8 gS ca cc (aj b9 cg cf cj cd ck fu (aj fE fj fz fw dc dh cZ (aj db c8 dd xj wP wB v8 (uv @aG @al @ay @ax @gu @js @ln))))))
theorem LB(s:ByteArray)(hs:s.size<=16777216)(w:World):Calls prog 61 #[.string s] w λe w' => e=.returned (.string (dS s))/\ah w [] w' := by
 refine af (nt:=69) [.tmp 2] func61 rfl rfl rfl ?_;have hxe:(⟨#[48,49,50,51,52,53,54,55,56,57,97,98,99,100,101,102]⟩:ByteArray)=kx:=rfl;refine vR Γ0 cU ?_;refine vR Γ0 cU ?_;refine vR Γ0 cU ?_;refine vR Γ0 cU ?_;refine Wp.seq ?_;refine vR Γ0 cU ?_;refine Wp.block ?_
 refine Wp.loop (λk:Nat=>⟨20,bm [(0,.is (.v (.string s))),(3,.is (.hd 8)),(4,.is (.v (.string kx))),(5,.is (.v (.int .i64 (k:Nat))))],aY [(8,.row 5 1 (bq s k).size ((byteCells (bq s k)).map .v))]⟩) (λk=>k<=s.size) (λk=>s.size-k) 0 ?_ (Nat.zero_le _) ?_
 ·exact wM (λk=>if k=8 then .key 32 else .key k) (aa cU hxe)
 rintro k hk;refine Wp.seq ?_;refine vR Γ0 cU ?_;refine wC cU (λhc=>?_) (λhc=>?_)
 ·have hlt:k<s.size:=by
   simp at hc;omega
  obtain⟨c0,c1⟩:=jq s k;have hq:=lj s k;have ha:=λl hl=>dY (bq s k) l hl
  have hb:bq s (k+1)=bq s k++bK (cW (bt s k)):=rfl;have wk:IntKind.i64.wrap ((k:Int)+1)=((k+1:Nat):Int):=wW;refine wK ?_
  refine aW ⟨20,bm [(0,.is (.v (.string s))),(3,.is (.hd 8)),(4,.is (.v (.string kx))),(5,.is (.v (.int .i64 (k:Nat))))],aY [(8,.row 5 1 (bq s (k+1)).size ((byteCells (bq s (k+1))).map .v))]⟩ ?_ ?_
  ·refine Wp.block ?_;refine wR Γ0 cU ?_ ?_
   ·first|omega|exact⟨oM,oM⟩
   refine vR Γ0 cU ?_;refine wC cU (λhc=>?_) (λhc=>?_)
   ·have hv:bt s k=10:=by simpa using hc
    have e0:cW (bt s k)=[92,110]:=by rw[cW,if_neg oM,if_neg oM,if_pos hv]
    rw[e0]at hb;have e1:=ha _ (λc (hc:c∈[92,110])=>by simp at hc;omega);rw[<- hb]at e1;simp only[List.map_cons,List.map_nil]at e1;have e2:(bq s (k+1)).size=(bq s k).size+2:=by rw[hb,ByteArray.size_append,aU];rfl
    refine wr Γ0 cU ?_ ?_
    ·exact by unfold maxLen;omega
    exact wM (λk=>if k=8 then .key 256 else .key k) (bQ cU e1 e2)
   have n2:¬ bt s k=10:=by simpa using hc
   refine vR Γ0 cU ?_;refine wC cU (λhc=>?_) (λhc=>?_)
   ·have hv:bt s k=13:=by simpa using hc
    have e0:cW (bt s k)=[92,114]:=by rw[cW,if_neg oM,if_neg oM,if_neg n2,if_pos hv]
    rw[e0]at hb;have e1:=ha _ (λc (hc:c∈[92,114])=>by simp at hc;omega);rw[<- hb]at e1;simp only[List.map_cons,List.map_nil]at e1;have e2:(bq s (k+1)).size=(bq s k).size+2:=by rw[hb,ByteArray.size_append,aU];rfl
    refine wr Γ0 cU ?_ ?_
    ·exact by unfold maxLen;omega
    exact wM (λk=>if k=8 then .key 272 else .key k) (bQ cU e1 e2)
   have n3:¬ bt s k=13:=by simpa using hc
   refine vR Γ0 cU ?_;refine wC cU (λhc=>?_) (λhc=>?_)
   ·have hv:bt s k=9:=by simpa using hc
    have e0:cW (bt s k)=[92,116]:=by rw[cW,if_neg oM,if_neg oM,if_neg n2,if_neg n3,if_pos hv]
    rw[e0]at hb;have e1:=ha _ (λc (hc:c∈[92,116])=>by simp at hc;omega);rw[<- hb]at e1;simp only[List.map_cons,List.map_nil]at e1;have e2:(bq s (k+1)).size=(bq s k).size+2:=by rw[hb,ByteArray.size_append,aU];rfl
    refine wr Γ0 cU ?_ ?_
    ·exact by unfold maxLen;omega
    exact wM (λk=>if k=8 then .key 288 else .key k) (bQ cU e1 e2)
   have n4:¬ bt s k=9:=by simpa using hc
   refine vR Γ0 cU ?_;refine wC cU (λhc=>?_) (λhc=>?_)
   ·have hv:bt s k<32\/126<bt s k:=by simpa using hc
    have e0:cW (bt s k)=[92,120,bt kx (bt s k / 16),bt kx (bt s k % 16)]:=by rw[cW,if_neg oM,if_neg oM,if_neg n2,if_neg n3,if_neg n4]
    obtain⟨x,hx⟩:=Int.eq_ofNat_of_zero_le c0;have x1:x<256:=oM;obtain⟨f1,f2,f3,f4⟩:=Nb ⟨x,x1⟩;simp only at f1 f2 f3 f4;rw[hx]at e0;rw[hx,e0]at hb;have b1:=jq kx ((x:Int) / 16);have b2:=jq kx ((x:Int) % 16)
    have e1:=ha _ (λc (hc:c∈[92,120,bt kx ((x:Int) / 16),bt kx ((x:Int) % 16)])=>by simp at hc;omega);rw[<- hb]at e1;simp only[List.map_cons,List.map_nil]at e1;have e2:(bq s (k+1)).size=(bq s k).size+4:=by rw[hb,ByteArray.size_append,aU];rfl
    refine xv Γ0 (oy cU hx f3 f4 hxe) ?_ ?_
    ·rw[f3]at f1;rw[f4]at f2;exact⟨oM,f1,oM,f2,by unfold maxLen;omega,oM⟩
    exact wM (λk=>if k=8 then .key 400 else .key k) (uv cU hx f3 f4 hxe e1 e2)
   have n5:¬ (bt s k<32\/126<bt s k):=by simpa using hc
   refine Wp.seq ?_;refine vR Γ0 cU ?_;refine wC cU (λhc=>?_) (λhc=>?_)
   ·have hv:bt s k=34\/bt s k=92:=by simpa using hc
    have e0:cW (bt s k)=[92,bt s k]:=by rw[cW,if_pos hv]
    rw[e0]at hb;have e1:=ha _ (λc (hc:c∈[92,bt s k])=>by simp at hc;omega);rw[<- hb]at e1;simp only[List.map_cons,List.map_nil]at e1;have e2:(bq s (k+1)).size=(bq s k).size+2:=by rw[hb,ByteArray.size_append,aU];rfl
    refine wr Γ0 cU ?_ ?_
    ·exact by unfold maxLen;omega
    refine wr Γ0 cU ?_ ?_
    ·exact by unfold maxLen;omega
    exact wM (λk=>if k=8 then .key 424 else .key k) (oy cU e1 e2 @List.append_assoc.{0} @Nat.add_assoc)
   ·have n6:¬ (bt s k=34\/bt s k=92):=by simpa using hc
    refine wK ?_;have hw:32<=bt s k/\bt s k<=126:=oM;have e0:cW (bt s k)=[bt s k]:=by rw[cW,if_neg n6,if_pos hw]
    rw[e0]at hb;have e1:=ha _ (λc (hc:c∈[bt s k])=>by simp at hc;omega);rw[<- hb]at e1;simp only[List.map_cons,List.map_nil]at e1;have e2:(bq s (k+1)).size=(bq s k).size+1:=by rw[hb,ByteArray.size_append,aU];rfl
    refine wr Γ0 cU ?_ ?_
    ·exact by unfold maxLen;omega
    exact wM (λk=>if k=8 then .key 392 else .key k) (bQ cU e1 e2)
  refine wr Γ0 (aa cU wk) ?_ ?_
  ·first|trivial|omega
  refine⟨k+1,hlt,oM,?_⟩;exact wM (λk=>.key k) cU
 ·have hk' : k=s.size:=by
   simp at hc;omega
  subst hk';have ha:=dY (bq s s.size) [34] (λc hc=>by simp at hc;omega);simp only[List.map_cons,List.map_nil]at ha;have hq:=lj s s.size;have e2:(dS s).size=(bq s s.size).size+1:=by rw[dS,ByteArray.size_append,aU];rfl
  refine wE ?_;refine wR Γ0 (aa cU ha) ?_ ?_
  ·exact⟨by unfold maxLen;omega,oM⟩
  refine wR Γ0 (aa cU ha) ?_ ?_
  ·exact by rw[iA,<- dS,e2]
  refine wZ cU ?_;exact λE=>rfl
def DZ:aM prog 38 where
 pre:=λW bs=>λ| [.val (.string s)]=>s.size<=1048576|_=>False
 res:=λW=>λ| [.val (.string s)]=>.string (dS s)|_=>undef
 enters:=call38
 ok:=by
  intro W w bs us as_ hk hu hp;split at hp
  ·rename_i s
   match us,hu with
   |[u0],hu=>
    obtain⟨rfl,_⟩:=hu;exact Ua s hp w
  ·exact hp.elim
theorem LU(W:World)(s:ByteArray):DZ.res W [.val (.string s)]=.string (dS s):=rfl
theorem K2(W:World)(bs:List Nat)(s:ByteArray):DZ.pre W bs [.val (.string s)]=(s.size<=1048576):=rfl
noncomputable def EL:Env prog:=⟨λ| 30=>some uN.spec|31=>some qY.spec|32=>some yb.spec|_=>none,λ| _=>none,λ_ _=>none⟩
theorem akk:EL.sp 30=some uN.spec:=rfl
theorem akf:EL.sp 31=some qY.spec:=rfl
theorem ajk:EL.sp 32=some yb.spec:=rfl
def YU(q:Int×Int×ByteArray):Value:=.tuple #[.int .i64 q.1,.int .i64 q.2.1,.string q.2.2]
def ib:=(aj @List.replicate_succ.{0} @List.replicate_zero.{0} @an @ab jo jl gS (aj ca cc b9 cg cf cj cd (aj ck dc dh cZ db c8 dd (aj sk ss se rO aex agK af5 (aj ae4 aaQ aan Yl U9 Wt Yh (aj VK Zn Xw HM JG HK Kf (aj G7 IY JH Ja GX @aG @al (aj @ay @ax @pZ @qm @GY @G3 @AG (eT @zX akk akf ajk)))))))))
theorem Lp(p:Pg)(a1 a2 a3:Option Addr)(c1 c2 c3:Nat)(w:World)(hp:Ch p w a1 a2 a3):Calls prog 13 #[prV p a1 a2 a3 c1 c2 c3] w λe w' => e=.returned (YU (ie p))/\ah w [] w' := by
 have h1:=hp.l1;have h3:=hp.l3;refine af (nt:=70) [.tmp 2,.tmp 3,.tmp 4] func13 rfl rfl rfl ?_;refine vR EL ib ?_;refine Wp.seq ?_;refine wR EL ib ?_ ?_
 ·exact⟨⟨_,rfl⟩,λ_=>⟨_,rfl⟩,λ_=>⟨_,rfl⟩⟩
 refine wC ib (λhc=>?_) (λhc=>?_)
 ·have h:(131072<p.ty.length\/131072<p.tx.length)\/131072<p.co.length:=by
   simp at hc;omega
  have e:ie p=(24,0,⟨#[]⟩):=by rw[ie,if_pos h]
  rw[e];refine vR EL ib ?_;refine wZ ib ?_;exact λE=>rfl
 have h:¬ ((131072<p.ty.length\/131072<p.tx.length)\/131072<p.co.length):=by
  simp at hc;omega
 have e0:ie p=match cS (oQ p) p.ty.length 0 with
  |some i=>(110,(i:Int),⟨#[]⟩)
  |none=>eW p:=by rw[ie,if_neg h];all_goals rfl
 rw[e0];refine wK ?_;refine kK (λ_:Unit=>⟨100,bm [(1,.is (.own 0 0))],aY [(0,.cells 35 [.v (.slice a1 p.ty.length c1),.v (.slice a2 p.tx.length c2),.v (.slice a3 p.co.length c3),.v (.int .i64 p.src),.v (.int .i64 p.vw)])]⟩) (λ_=>w) (λ_=>[]) (λ_=>cS (oQ p) p.ty.length 0=none) ?_ ?_
 ·skip;refine vR EL ib ?_;refine Wp.block ?_
  refine Wp.loop (λk:Nat=>⟨40,bm [(1,.is (.own 0 0)),(5,.is (.v (.int .i64 (k:Nat))))],aY [(0,.cells 35 [.v (.slice a1 p.ty.length c1),.v (.slice a2 p.tx.length c2),.v (.slice a3 p.co.length c3),.v (.int .i64 p.src),.v (.int .i64 p.vw)])]⟩) (λk=>k<=p.ty.length/\∀ i<k,oQ p i=false) (λk=>p.ty.length-k) 0 ?_ ⟨Nat.zero_le _,λi h=>by omega⟩ ?_
  ·exact wM (λk=>.key k) ib
  rintro k ⟨hk,hn⟩;refine Wp.seq ?_;refine vR EL ib ?_;refine wC ib (λhc=>?_) (λhc=>?_)
  ·have hlt:k<p.ty.length:=by
    simp at hc;omega
   have wk:IntKind.i64.wrap ((k:Int)+1)=((k+1:Nat):Int):=wW;obtain⟨b,o,rfl,x1⟩:=mT hp.ty hlt;have hsz:=hp.sz _ (List.getElem_mem hlt);have hbad:oQ p k=!uq p.ty[k]:=by
    rw[oQ,List.getD_eq_getElem?_getD,List.getElem?_eq_getElem hlt];rfl
   generalize p.ty[k]=x at *;refine wK ?_;refine Wp.seq (Wp.block ?_);refine wR EL (aa ib x1) ?_ ?_
   ·exact⟨oM,hsz⟩
   refine wC ib (λhc=>?_) (λhc=>?_)
   ·rw[lh (oQ p) p.ty.length k hlt hn (hbad.trans hc)];refine vR EL ib ?_;refine wZ ib ?_;exact λE=>rfl
   ·refine wK ?_;refine vr EL (aa ib wk) ?_;refine⟨k+1,⟨oM,λi hi=>?_⟩,oM,?_⟩
    ·by_cases h:i=k
     ·rw[h];exact hbad.trans hc
     ·exact hn i oM
    ·exact wM (λk=>.key k) ib
  ·have hk' : k=p.ty.length:=by
    simp at hc;omega
   refine wE ?_;refine⟨(),iG (oQ p) p.ty.length (by rw[<- hk'];exact hn),rfl,rfl,?_⟩;exact wM (λk=>.key k) ib
 refine λ_ hnone _=>?_
 rw[hnone];refine Wp.seq ?_;refine wR EL ib ?_ ?_
 ·exact⟨⟨_,rfl⟩,λ_=>⟨_,rfl⟩⟩
 refine wC ib (λhc=>?_) (λhc=>?_)
 ·have e:eW p=(111,0,oF):=by rw[eW,if_pos hc]
  rw[e];refine vR EL ib ?_;refine wZ ib ?_;exact λE=>rfl
 have e1:eW p=match cS (sq p) p.co.length 0 with
  |some i=>(111,(i:Int),⟨#[]⟩)
  |none=>(0,0,⟨#[]⟩):=by rw[eW,if_neg (by rw[hc];simp)];all_goals rfl
 rw[e1];refine wK ?_;refine Wp.seq ?_;refine vR EL ib ?_;refine Wp.block ?_
 refine Wp.loop (λk:Nat=>⟨140,bm [(1,.is (.own 0 0)),(6,.is (.v (.int .i64 (k:Nat))))],aY [(0,.cells 35 [.v (.slice a1 p.ty.length c1),.v (.slice a2 p.tx.length c2),.v (.slice a3 p.co.length c3),.v (.int .i64 p.src),.v (.int .i64 p.vw)])]⟩) (λk=>k<=p.co.length/\∀ i<k,sq p i=false) (λk=>p.co.length-k) 0 ?_ ⟨Nat.zero_le _,λi h=>by omega⟩ ?_
 ·exact wM (λk=>.key k) ib
 rintro k ⟨hk,hn⟩;refine Wp.seq ?_;refine vR EL ib ?_;refine wC ib (λhc=>?_) (λhc=>?_)
 ·have hlt:k<p.co.length:=by
   simp at hc;omega
  have wk:IntKind.i64.wrap ((k:Int)+1)=((k+1:Nat):Int):=wW;obtain⟨b,o,rfl,x1,x2,x3,x4⟩:=pz hp.co hlt;have hbad:sq p k=!nZ p.ty.length p.tx.length p.co.length p.co[k].1 p.co[k].2.1 p.co[k].2.2.1 p.co[k].2.2.2:=by
   rw[sq,List.getD_eq_getElem?_getD,List.getElem?_eq_getElem hlt];rfl
  generalize p.co[k]=x at *;refine wK ?_;refine Wp.seq (Wp.block ?_);refine kO EL (oy ib x1 x2 x3 x4) ?_ ?_
  ·omega
  refine wC ib (λhc=>?_) (λhc=>?_)
  ·rw[lh (sq p) p.co.length k hlt hn (hbad.trans hc)];refine vR EL ib ?_;refine wZ ib ?_;exact λE=>rfl
  ·refine wK ?_;refine vr EL (aa ib wk) ?_;refine⟨k+1,⟨oM,λi hi=>?_⟩,oM,?_⟩
   ·by_cases h:i=k
    ·rw[h];exact hbad.trans hc
    ·exact hn i oM
   ·exact wM (λk=>.key k) ib
 ·have hk' : k=p.co.length:=by
   simp at hc;omega
  rw[iG (sq p) p.co.length (by rw[<- hk'];exact hn)];refine wE ?_;refine vR EL ib ?_;refine wZ ib ?_;exact λE=>rfl
theorem Vn.mono{p:Pg}{W W' : World}{S S' : Nat->Prop}{a1 a2 a3:Option Addr}(h:Vn p W S a1 a2 a3)(hs:cT W S W' S'):Vn p W' S' a1 a2 a3:=⟨h.1.mono hs,h.2.1.mono hs,h.2.2.mono hs⟩
theorem Vn.is{p:Pg}{w:World}{S:Nat->Prop}{a1 a2 a3:Option Addr}(h:Vn p w S a1 a2 a3)(hb:PgB p):Ch p w a1 a2 a3:=⟨hb,h.1.is,h.2.1.is,h.2.2.is⟩
section
variable (p:Pg)(a1 a2 a3:Option Addr)(c1 c2 c3:Nat)(hb:PgB p)(hn:p.ty.length<=1048576/\p.tx.length<=1048576/\p.co.length<=1048576)
end
section
variable (W:World)(bs:List Nat)(n op k a b:Int)
end
theorem mW(l:List ByteArray)(s:ByteArray):List.map SV.v (aE l)++[.v (.string s)]=List.map SV.v (aE (l++[s])):=by simp[aE]
section
variable (p:Pg)(a1 a2 a3:Option Addr)(c1 c2 c3:Nat)(hz:PgZ p)(hs:PgS p)
end
def eF(s:ByteArray):Nat->List ByteArray×Nat
 |0=>([],0)
 |k+1=>if k=s.size\/bt s k=32 then ((eF s k).1++[s.extract (eF s k).2 k],k+1) else eF s k
def gQ(s:ByteArray):List ByteArray:=(eF s (s.size+1)).1
theorem Ea(s:ByteArray):∀ k,(eF s k).2<=k/\(eF s k).1.length<=k
 |0=>⟨Nat.le_refl _,Nat.le_refl _⟩
 | k+1=>by
  have ih:=Ea s k;unfold eF;split
  ·simp only[List.length_append,List.length_cons,List.length_nil];omega
  ·omega
def mV:=(aj @List.replicate_succ.{0} @List.replicate_zero.{0} @an @ab BH BJ BG (aj gS ca cc b9 cg cf cj (aj cd ck fu fE fj fz fw (aj dc dh cZ db c8 dd sk (uv ss se rO @aG @al @ay @ax)))))
theorem UL(s:ByteArray)(hs:s.size<=100000000)(w:World):Calls prog 46 #[.string s] w λe w' =>
  ∃ u fp,e=.returned u/\(∀ E',a6 E' u fp w' (.row 9 1 (gQ s).length ((aE (gQ s)).map .v)))/\(∀ b∈fp,w.heap.size<=b/\b<w'.heap.size)/\LE.ah w [] w' := by
 refine mm (nt:=32) id [.tmp 2] func46 rfl rfl rfl ?_;refine vR Γ0 mV ?_;refine vR Γ0 mV ?_;refine vR Γ0 mV ?_;refine Wp.seq ?_;refine vR Γ0 mV ?_;refine Wp.block ?_
 refine Wp.loop (λk:Nat=>⟨20,bm [(0,.is (.v (.string s))),(3,.is (.hd 19)),(4,.is (.v (.int .i64 ((eF s k).2:Nat)))),(5,.is (.v (.int .i64 (k:Nat))))],aY [(19,.row 9 1 (eF s k).1.length (List.map SV.v (aE (eF s k).1)))]⟩) (λk=>k<=s.size+1) (λk=>s.size+1-k) 0 ?_ (Nat.zero_le _) ?_
 ·exact wM (λk=>if k=19 then .nil else .key k) (eT mV @eF.eq_1 @eF.eq_2 @aE.eq_1)
 rintro k hk;refine Wp.seq ?_;refine vR Γ0 mV ?_;refine wC mV (λhc=>?_) (λhc=>?_)
 ·have hle:k<=s.size:=by
   simp at hc;omega
  have wk:IntKind.i64.wrap ((k:Int)+1)=((k+1:Nat):Int):=wW;obtain⟨p1,p2⟩:=Ea s k;refine wK ?_;refine Wp.seq (Wp.block ?_)
  refine aW ⟨40,bm [(0,.is (.v (.string s))),(3,.is (.hd 19)),(4,.is (.v (.int .i64 ((eF s k).2:Nat)))),(5,.is (.v (.int .i64 (k:Nat)))),(21,.is (.v (.bool (decide (k=s.size\/bt s k=32)))))],aY [(19,.row 9 1 (eF s k).1.length (List.map SV.v (aE (eF s k).1)))]⟩ ?_ ?_
  ·by_cases h:k=s.size
   ·have e1:decide ((k:Int)=(s.size:Int))=true:=by simp;omega
    have e2:decide (k=s.size\/bt s k=32)=true:=by rw[decide_eq_true_eq];exact .inl h
    refine wr Γ0 (aa mV e1) ?_ ?_
    ·exact λh=>by cases h
    exact wM (λk=>.key k) (aa mV e2)
   ·have e1:decide ((k:Int)=(s.size:Int))=false:=by simp;omega
    have e2:decide (k=s.size\/bt s k=32)=decide (bt s k=32):=by simp[h]
    refine wr Γ0 (aa mV e1) ?_ ?_
    ·omega
    exact wM (λk=>.key k) (aa mV e2)
  refine wC mV (λhc=>?_) (λhc=>?_)
  ·have h:k=s.size\/bt s k=32:=by simpa using hc
   have e0:eF s (k+1)=((eF s k).1++[s.extract (eF s k).2 k],k+1):=by rw[eF,if_pos h]
   have e1:=mW (eF s k).1 (s.extract (eF s k).2 k);refine wR Γ0 mV ?_ ?_
   ·exact⟨⟨oM,oM,oM⟩,by unfold maxLen;omega,oM⟩
   refine vr Γ0 (aa mV wk) ?_;refine vr Γ0 (aa mV wk) ?_;refine⟨k+1,oM,oM,?_⟩;rw[e0];exact wM (λk=>if k=19 then .key 368 else .key k) (bQ mV e1 @List.length_append.{0})
  ·have h:¬ (k=s.size\/bt s k=32):=by simpa using hc
   have e0:eF s (k+1)=eF s k:=by rw[eF,if_neg h]
   refine wK ?_;refine vr Γ0 (aa mV wk) ?_;refine⟨k+1,oM,oM,?_⟩;rw[e0];exact wM (λk=>.key k) mV
 ·have hk' : k=s.size+1:=by
   simp at hc;omega
  subst hk';refine wE ?_;refine vR Γ0 mV ?_;refine wZ mV ?_;exact⟨_,⟨dE,.inl ⟨_,rfl,rfl⟩⟩,λE=>rfl⟩
def uF(s:ByteArray)(hs:s.size<=100000000):vO prog 46 where
 pre:=λW bs as_=>as_=[.val (.string s)]
 T:=9
 s:=1
 n:=λ_ _=>(gQ s).length
 vs:=λ_ _=>aE (gQ s)
 tm:=λ_ _ x=>x
 g:=λ_ _ v=>v
 tmg:=λ_ _ _ _=>rfl
 tmk:=λ_ _ _ _ h=>h
 enters:=call46
 ok:=by
  intro W w bs us as_ hk hu hp;subst hp
  match us,hu with
  |[x],hu=>
   obtain⟨rfl,_⟩:=hu;exact UL s hs w
def dgT(c:UInt8):Prop:=48<=c.toNat/\c.toNat<=57
def tF:Nat->List UInt8->Nat
 |a,[]=>a
 |a,c::r=>tF (a*10+(c.toNat-48)) r
theorem qz:∀ (l:List UInt8) (a:Nat) (c:UInt8),tF a (l++[c])=tF a l*10+(c.toNat-48)
 |[],a,c=>rfl
 |x::r,a,c=>qz r _ c
theorem Qb:∀ (l:List UInt8) (a:Nat),a<=tF a l
 |[],a=>Nat.le_refl _
 |c::r,a=>Nat.le_trans oM (Qb r (a*10+(c.toNat-48)))
theorem ahP:∀ (l:List UInt8) (a k:Nat),(∀ c∈l,dgT c)->a<10 ^ k->k+l.length<=18->Lib.parseUint10 a l=.ok (tF a l)/\tF a l<10 ^ (k+l.length)
 |[],a,k,_,h,_=>⟨rfl,h⟩
 | c::r,a,k,hd,h,hk=>by
  obtain⟨c1,c2⟩:=hd c sI;simp only[List.length_cons]at hk ⊢;have h17:10 ^ k<=100000000000000000:=Nat.le_trans (Nat.pow_le_pow_right (n:=10) dE (show k<=17 by omega)) dE;have hlt:a*10+(c.toNat-48)<10 ^ (k+1):=by
   rw[Nat.pow_succ];omega
  obtain⟨e1,e2⟩:=ahP r (a*10+(c.toNat-48)) (k+1) (λx hx=>hd x (by simp[hx])) hlt oM;simp only[Lib.parseUint10];rw[if_pos ⟨c1,c2⟩,if_neg oM,if_neg oM];exact⟨e1,by rw[show k+(r.length+1)=k+1+r.length by omega];exact e2⟩
theorem Po{k:Nat}(h:k<10):(UInt8.ofNat (48+k)).toNat=48+k:=by
 rw[UInt8.toNat_ofNat'];exact Nat.mod_eq_of_lt oM
theorem O6{c:UInt8}(h:dgT c):UInt8.ofNat (48+(c.toNat-48))=c:=by
 obtain⟨h1,h2⟩:=h;rw[show 48+(c.toNat-48)=c.toNat by omega,UInt8.ofNat_toNat]
def nz(l:List UInt8):Prop:=l.length=1\/∀ c r,l=c::r->c.toNat≠48
theorem agZ:∀ (n:Nat) (l:List UInt8),l.length=n+1->(∀ c∈l,dgT c)->nz l->Lib.decDigits (tF 0 l)=l:=by
 intro n
 induction n with
 | zero=>
  intro l hl hd _
  match l,hl with
  |[c],_=>
   have hc:=hd c sI;have hc' := hc;obtain⟨c1,c2⟩:=hc;show Lib.decDigits (0*10+(c.toNat-48))=[c];rw[Ad oM,show (0*10+(c.toNat-48)) % 10=c.toNat-48 by omega,O6 hc']
 | succ n ih=>
  intro l hl hd hn;rcases List.eq_nil_or_concat l with rfl|⟨l',c,hlc⟩
  ·simp at hl
  ·rw[List.concat_eq_append]at hlc;subst hlc;have hl' : l'.length=n+1:=by simpa using hl
   have hc:=hd c sI;have hc' := hc;obtain⟨c1,c2⟩:=hc;have hn0:=hn.resolve_left oM;obtain⟨x,r,rfl⟩:∃ x r,l' = x::r:=by
    cases l' with
    |nil=>simp at hl'
    |cons x r=>exact⟨x,r,rfl⟩
   have hx:=hn0 x (r++[c]) rfl;obtain⟨x1,x2⟩:=hd x sI;have hge:=Qb r (0*10+(x.toNat-48));have hpos:1<=tF 0 (x::r):=Nat.le_trans oM hge;have e:=ih (x::r) hl' (λy hy=>hd y (List.mem_append_left _ hy)) (.inr λy q hy=>by cases hy;exact hx);rw[qz];generalize tF 0 (x::r)=u at *
   rw[sF oM,show (u*10+(c.toNat-48)) / 10=u by omega,show (u*10+(c.toNat-48)) % 10=c.toNat-48 by omega,O6 hc',e]
theorem P6:∀ (n u:Nat),u<n->(∀ c∈Lib.decDigits u,dgT c)/\Lib.decDigits u≠[]/\nz (Lib.decDigits u)/\tF 0 (Lib.decDigits u)=u
 |0,u,h=>by omega
 | n+1,u,h=>by
  by_cases h1:u<10
  ·rw[Ad h1];have hd:=Po (k:=u % 10) oM;refine⟨λc hc=>?_,sI,.inl rfl,?_⟩
   ·rw[List.mem_singleton.1 hc];unfold dgT;omega
   ·show 0*10+((UInt8.ofNat (48+u % 10)).toNat-48)=u;rw[hd];omega
  ·obtain⟨g1,g2,g3,g4⟩:=P6 n (u / 10) oM;have hd:=Po (k:=u % 10) oM;rw[sF h1];refine⟨λc hc=>?_,sI,.inr λc r hc=>?_,?_⟩
   ·rcases List.mem_append.1 hc with hc|hc
    ·exact g1 c hc
    ·rw[List.mem_singleton.1 hc];unfold dgT;omega
   ·generalize Lib.decDigits (u / 10)=l at *;cases l with
    |nil=>exact absurd rfl g2
    | cons x q=>
     simp only[List.cons_append,List.cons.injEq]at hc;obtain⟨rfl,_⟩:=hc;rcases g3 with g3|g3
     ·have:q=[]:=by simpa using g3
      subst this;have g4:0*10+(x.toNat-48)=u / 10:=g4;omega
     ·exact g3 x q rfl
   ·rw[qz,g4,hd];omega
theorem fh(s:ByteArray){k:Nat}(h:k<s.data.toList.length):bt s (k:Nat)=(s.data.toList[k].toNat:Int):=by
 have h' : k<s.data.size:=by simpa using h
 unfold bt;rw[Int.toNat_natCast,Array.getElem?_eq_getElem h'];simp
theorem Hw(s:ByteArray):∀ k,(∀ c∈s.data.toList.take k,dgT c)->k<=s.data.toList.length->qe s k=(tF 0 (s.data.toList.take k):Nat)
 |0,_,_=>rfl
 |k+1,hd,hk=>by
  have hlt:k<s.data.toList.length:=oM;rw[List.take_succ_eq_append_getElem hlt]at hd ⊢;obtain⟨c1,c2⟩:=hd s.data.toList[k] sI;have ih:=Hw s k (λc hc=>hd c (List.mem_append_left _ hc)) oM;show 10*qe s k+(bt s k-48)=_;rw[ih,qz,fh s hlt];omega
theorem Az(s:ByteArray):bT s=true ↔ s.data.toList≠[]/\s.data.toList.length<=9/\nz s.data.toList/\∀ c∈s.data.toList,dgT c:=by
 have hz:s.size=s.data.toList.length:=Lib.size_eq s;unfold bT;simp only[Bool.and_eq_true,decide_eq_true_eq,Bool.not_eq_true',Bool.and_eq_false_iff,decide_eq_false_iff_not,List.all_eq_true,List.mem_range,J6];rw[hz];constructor
 ·rintro⟨⟨⟨h1,h2⟩,h3⟩,h4⟩;refine⟨λh=>by rw[h]at h1;simp at h1,h2,?_,λc hc=>?_⟩
  ·rcases h3 with h3|h3
   ·right;intro c r hcr hc;apply h3;have:=fh s (k:=0) oM;simp only[hcr,List.getElem_cons_zero]at this;rw[show ((0:Nat):Int)=0 from rfl]at this;rw[this,hc];rfl
   ·left;omega
  ·obtain⟨i,hi,rfl⟩:=List.getElem_of_mem hc;have h5:=h4 i hi;rw[fh s hi]at h5;unfold dgT;omega
 ·rintro⟨h1,h2,h3,h4⟩;have hp:0<s.data.toList.length:=List.length_pos_iff.2 h1;refine⟨⟨⟨hp,h2⟩,?_⟩,λi hi=>?_⟩
  ·rcases h3 with h3|h3
   ·right;omega
   ·left;have:=fh s (k:=0) hp;rw[show ((0:Nat):Int)=0 from rfl]at this;rw[this];obtain⟨x,r,hxr⟩:∃ x r,s.data.toList=x::r:=by
     cases hl:s.data.toList with
     |nil=>exact absurd hl h1
     |cons x r=>exact⟨x,r,rfl⟩
    have h5:=h3 x r hxr;simp only[hxr,List.getElem_cons_zero];omega
  ·rw[fh s hi];obtain⟨g1,g2⟩:=h4 _ (List.getElem_mem hi);omega
theorem Fc(s:ByteArray):(⟨s.data.toList.toArray⟩:ByteArray)=s:=by
 rcases s with ⟨⟨l⟩⟩;rfl
theorem agc{s:ByteArray}(h:bT s=true):iJ s=(tF 0 s.data.toList:Nat):=by
 obtain⟨h1,h2,h3,h4⟩:=(Az s).1 h;rw[iJ,if_pos h];have e:=Hw s s.data.toList.length (λc hc=>h4 c (List.mem_of_mem_take hc)) (Nat.le_refl _);rw[List.take_length]at e;rw[Lib.size_eq s,e]
theorem o8(s:ByteArray):iD s=bT s/\(bT s=true->rG s=iJ s):=by
 have hz:s.size=s.data.toList.length:=Lib.size_eq s;have fwd:iD s=true->bT s=true:=λh=>by
  unfold iD at h;simp only[Bool.and_eq_true,decide_eq_true_eq]at h;obtain⟨h1,h2⟩:=h;split at h2
  ·rename_i v hv;simp only[Bool.and_eq_true,decide_eq_true_eq]at h2;obtain⟨h2,h3⟩:=h2;obtain⟨m,rfl⟩:=Int.eq_ofNat_of_zero_le h3;rw[tp]at h2;have hl:s.data.toList=Lib.decDigits m:=by rw[<- h2]
   obtain⟨g1,g2,g3,_⟩:=P6 (m+1) m oM;rw[Az,hl];exact⟨g2,by rw[<- hl];omega,g3,g1⟩
  ·cases h2
 have bwd:bT s=true->iD s=true/\rG s=iJ s:=λh=>by
  have hv:=agc h;obtain⟨h1,h2,h3,h4⟩:=(Az s).1 h;obtain⟨c,r,hcr⟩:∃ c r,s.data.toList=c::r:=by
   cases hl:s.data.toList with
   |nil=>exact absurd hl h1
   |cons c r=>exact⟨c,r,rfl⟩
  obtain⟨c1,c2⟩:=h4 c (by rw[hcr];simp);obtain⟨e1,e2⟩:=ahP s.data.toList 0 0 h4 dE oM;have e3:tF 0 s.data.toList<1000000000:=Nat.lt_of_lt_of_le e2 (Nat.le_trans (Nat.pow_le_pow_right (n:=10) dE (show 0+s.data.toList.length<=9 by omega)) dE)
  have ha:Lib.atoiAll s.data.toList=.ok ((tF 0 s.data.toList:Nat):Int):=by
   have hp:=Lib.atoiAll_plain c r oM oM;rw[<- hcr]at hp;rw[hp,Lib.parseMag,if_neg h1,e1];simp only[Lib.signless];rw[if_neg oM]
  have hd:=agZ (s.data.toList.length-1) s.data.toList (by have:=List.length_pos_iff.2 h1;omega) h4 h3;refine⟨?_,?_⟩
  ·unfold iD;rw[ha,decide_eq_true oM,Bool.true_and];simp only[Bool.and_eq_true,decide_eq_true_eq];refine⟨?_,oM⟩;rw[tp,hd,Fc]
  ·rw[rG,if_pos oM,Fb,ha,hv]
 refine⟨?_,λh=>(bwd h).2⟩;cases h:bT s with
 |true=>exact (bwd h).1
 |false=>
  cases h' : iD s with
  |false=>rfl
  |true=>rw[fwd h']at h;cases h
def AU(p:List UInt8):List (List UInt8)->List (List UInt8)
 |[]=>[p]
 |h::t=>(p++h)::t
def mB:List UInt8->List (List UInt8)
 |[]=>[[]]
 |c::r=>if c.toNat=32 then []::mB r else AU [c] (mB r)
theorem Pu:∀ l,mB l≠[]
 |[]=>by simp[mB]
 |c::r=>by
  unfold mB;split
  ·simp
  ·cases mB r<;>simp[AU]
theorem P5{X:List (List UInt8)}(h:X≠[]):AU [] X=X:=by
 cases X with
 |nil=>exact absurd rfl h
 |cons x r=>rfl
theorem afQ(p q:List UInt8)(X:List (List UInt8)):AU p (AU q X)=AU (p++q) X:=by
 cases X<;>simp[AU]
theorem CX:∀ l:List UInt8,(∀ c∈l,c.toNat≠32)->mB l=[l]
 |[],_=>rfl
 |c::r,h=>by
  rw[mB,if_neg (h c sI),CX r λx hx=>h x (by simp[hx])];rfl
theorem Ke:∀ (a r:List UInt8),(∀ c∈a,c.toNat≠32)->∀ c:UInt8,c.toNat=32->mB (a++c::r)=a::mB r
 |[],r,_,c,hc=>by rw[List.nil_append,mB,if_pos hc]
 |x::a,r,h,c,hc=>by
  rw[List.cons_append,mB,if_neg (h x sI),Ke a r (λy hy=>h y (by simp[hy])) c hc];rfl
theorem j9(s:ByteArray)(a b:Nat):(s.extract a b).data.toList=(s.data.toList.drop a).take (b-a):=by
 rcases s with ⟨⟨l⟩⟩;simp[List.drop_take]
theorem GU(s:ByteArray):∀ k,k<=s.data.toList.length->mB s.data.toList=(eF s k).1.map (λb=>b.data.toList)++AU ((s.data.toList.drop (eF s k).2).take (k-(eF s k).2)) (mB (s.data.toList.drop k))
 |0,_=>by
  show mB s.data.toList=[]++AU ((s.data.toList.drop 0).take (0-0)) (mB (s.data.toList.drop 0));simp[P5 (Pu _)]
 | k+1,hk=>by
  have hlt:k<s.data.toList.length:=oM;have ih:=GU s k oM;have hb:=fh s hlt;have hf:=(Ea s k).1;have hne:k≠s.size:=by rw[Lib.size_eq s];omega
  have hdr:s.data.toList.drop k=s.data.toList[k]::s.data.toList.drop (k+1):=List.drop_eq_getElem_cons hlt;rw[hdr]at ih;by_cases h:bt s k=32
  ·have e:eF s (k+1)=((eF s k).1++[s.extract (eF s k).2 k],k+1):=by rw[eF,if_pos (.inr h)]
   rw[e];simp only[List.map_append,List.map_cons,List.map_nil,j9,Nat.sub_self,List.take_zero,List.append_assoc,List.cons_append,List.nil_append];rw[P5 (Pu _),ih,mB,if_pos oM];simp[AU]
  ·have e:eF s (k+1)=eF s k:=by rw[eF,if_neg (by rintro (g|g);exact hne g;exact h g)]
   rw[e,ih,mB,if_neg oM,afQ]
   congr 2
   have hlen:k-(eF s k).2<(s.data.toList.drop (eF s k).2).length:=by rw[List.length_drop];omega
   rw[show k+1-(eF s k).2=(k-(eF s k).2)+1 by omega,List.take_succ_eq_append_getElem hlen]
   congr 2
   rw[List.getElem_drop]
   congr 1
   omega
theorem Uh(s:ByteArray):(gQ s).map (λb=>b.data.toList)=mB s.data.toList:=by
 have h:=GU s s.data.toList.length (Nat.le_refl _);have e:eF s (s.size+1)=((eF s s.size).1++[s.extract (eF s s.size).2 s.size],s.size+1):=by rw[eF,if_pos (.inl rfl)]
 rw[gQ,e];rw[<- Lib.size_eq s]at h;rw[h];simp only[List.map_append,List.map_cons,List.map_nil,j9];rw[Lib.size_eq s,List.drop_length];simp[mB,AU]
theorem I2:∀ (l:List UInt8) (c:UInt8),Lib.indexByte l c=-1->c∉l
 |[],c,_=>by simp
 | b::l,c,h=>by
  unfold Lib.indexByte at h;have hge:=Lib.indexByte_ge l c;split at h
  ·omega
  ·rename_i hb;split at h
   ·rename_i h1;have:=I2 l c (by simpa using h1);simp only[List.mem_cons,not_or];exact⟨λe=>hb (by simp[e]),this⟩
   ·omega
theorem Jd:∀ (l:List UInt8) (c:UInt8) (i:Nat),Lib.indexByte l c=i->i<l.length/\l=l.take i++c::l.drop (i+1)/\c∉l.take i
 |[],c,i,h=>by simp only[Lib.indexByte]at h;omega
 | b::l,c,i,h=>by
  unfold Lib.indexByte at h;have hge:=Lib.indexByte_ge l c;split at h
  ·rename_i hb;have hi:i=0:=oM;subst hi;have:b=c:=by simpa using hb
   subst this;simp
  ·rename_i hb;split at h
   ·omega
   ·rename_i h0;have h0:Lib.indexByte l c≠-1:=by simpa using h0
    obtain⟨j,hj⟩:∃ j,i=j+1:=⟨i-1,oM⟩;subst hj;obtain⟨h1,h2,h3⟩:=Jd l c j oM;refine⟨by simp;omega,?_,?_⟩
    ·simp only[List.take_succ_cons,List.cons_append,List.drop_succ_cons,List.cons.injEq,true_and];exact h2
    ·simp only[List.take_succ_cons,List.mem_cons,not_or];exact⟨λe=>hb (by simp[e]),h3⟩
theorem Pz:∀ (n:Nat) (s:ByteArray),s.size<n->(iq s).map (λb=>b.data.toList)=mB s.data.toList
 |0,s,h=>by omega
 | n+1,s,h=>by
  have hone:=Lib.one s ⟨#[32]⟩ rfl;have hc:(((((⟨#[32]⟩:ByteArray)[0]'dE).toNat:Nat):Int)).toNat.toUInt8=(32:UInt8):=rfl;rcases Lib.indexB_cases s ⟨#[32]⟩ with hm|⟨i,hi,hle⟩
  ·rw[iq,Lib.countB_miss s _ hm,Lib.splitB_zero];rw[hone]at hm;have hno:(32:UInt8)∉s.data.toList:=I2 _ 32 hm;rw[List.map_cons,List.map_nil,CX _ λc hc' he=>hno (((UInt8.toNat_inj (a:=c) (b:=32)).1 he) ▸ hc')]
  ·have hsz:(⟨#[32]⟩:ByteArray).size=1:=rfl;rw[iq,Lib.countB_hit s _ i dE hi,Nat.add_comm 1,Lib.splitB_hit _ _ _ s i hi,hsz];have hss:s.size=s.data.toList.length:=Lib.size_eq s;have ih:=Pz n (s.extract (i+1) s.size) (by rw[ByteArray.size_extract];omega);rw[iq]at ih;rw[List.map_cons,ih];rw[hone]at hi
   obtain⟨h1,h2,h3⟩:=Jd _ 32 i hi
   conv=>rhs;rw[h2]
   rw[Ke _ _ (λc hc' he=>h3 (((UInt8.toNat_inj (a:=c) (b:=32)).1 he) ▸ hc')) _ rfl];rw[j9,j9,hss];simp only[Nat.add_zero,List.drop_zero,Nat.sub_zero]
   congr 2
   rw[List.take_of_length_le (by rw[List.length_drop];omega)]
theorem DY{a b:ByteArray}(h:a.data.toList=b.data.toList):a=b:=by
 rw[<- Fc a,<- Fc b,h]
theorem ot(s:ByteArray):iq s=gQ s:=by
 have h:(iq s).map (λb=>b.data.toList)=(gQ s).map (λb=>b.data.toList):=(Pz (s.size+1) s oM).trans (Uh s).symm;exact List.map_inj_right (f:=λb:ByteArray=>b.data.toList) (λa b h=>DY h) |>.1 h
theorem ah4:∀ c:Fin 256,Fg ((c.val:Nat):Int)=(A2 c.val).map λn=>((n:Nat):Int):=by decide +kernel
theorem LM(c:UInt8):Fg ((c.toNat:Nat):Int)=(A2 c.toNat).map λn=>((n:Nat):Int):=ah4 ⟨c.toNat,c.toNat_lt⟩
theorem YS(p:ByteArray)(h0:p.size≠0)(h2:p.size<=2):mD p=(kS 0 p.data.toList).map λn=>((n:Nat):Int):=by
 have hz:=Lib.size_eq p;have hb:=λk hk=>fh p (k:=k) hk
 unfold mD;rw[if_neg h0];generalize p.data.toList=l at *;rcases l with _|⟨a,_|⟨b,_|⟨c,r⟩⟩⟩
 ·simp only[List.length_nil,List.length_cons]at hz;omega
 ·have b0:=hb 0 sI;simp only[List.getElem_cons_zero]at b0;rw[b0,LM,hz];simp only[kS];cases A2 a.toNat with
  |none=>rfl
  |some d=>simp
 ·have b0:=hb 0 sI;have b1:=hb 1 sI;simp only[List.getElem_cons_zero,List.getElem_cons_succ]at b0 b1;rw[b0,b1,LM,LM,hz];simp only[kS];cases A2 a.toNat with
  |none=>rfl
  | some d=>
   simp only[Option.map_some];rw[if_neg sI];cases A2 b.toNat with
   |none=>rfl
   |some e=>
    simp only[Option.map_some,Option.some.injEq];omega
 ·simp only[List.length_nil,List.length_cons]at hz;omega
theorem NZ(w:World):Calls prog 192 #[.string ⟨#[]⟩,.int .i64 16,.int .i64 8] w λe w' => e=.returned (akr none)/\w' = w:=by
 go_enter func192,Tryz.ntmps192
 go_wp2
 go_ret2
 exact⟨rfl,rfl⟩
theorem J7(p:ByteArray)(h2:p.size<=2)(w:World):Calls prog 192 #[.string p,.int .i64 16,.int .i64 8] w λe w' => e=.returned (akr (if p.size=0 then none else kS 0 p.data.toList))/\Below w.heap.size w w' := by
 by_cases h0:p.size=0
 ·have hp:p=⟨#[]⟩:=by
   apply ByteArray.ext;exact Array.eq_empty_of_size_eq_zero h0
  subst hp;exact (NZ w).mono λe w' ⟨he,hw⟩=>⟨he,by rw[hw];exact Below.refl _ _⟩
 ·rw[if_neg h0];exact (KF p h0 h2 w).mono λe w' ⟨he,hw⟩=>⟨he,by rw[hw];exact Lib.bytesWorld_below _ _ _⟩
def Wo(p:ByteArray)(h2:p.size<=2)(v:Nat)(hv:mD p=some (v:Int)):aM prog 192 where
 pre:=λW bs as_=>as_=[.val (.string p),.val (.int .i64 16),.val (.int .i64 8)]
 res:=λ_ _=>.tuple #[.int .u64 (v:Nat),.nilIface]
 enters:=call192
 ok:=by
  intro W w bs us as_ hk hu hp;subst hp
  match us,hu with
  | [x,y,z],hu=>
   obtain⟨rfl,rfl,rfl,_⟩:=hu;refine (J7 p h2 w).mono λe w' ⟨he,hw⟩=>⟨?_,LE.ah.lL hw⟩
   have h0:p.size≠0:=λh=>by unfold mD at hv;rw[if_pos h]at hv;cases hv
   rw[YS p h0 h2]at hv;rw[if_neg h0]at he;cases hm:kS 0 p.data.toList with
   |none=>rw[hm]at hv;cases hv
   |some u=>
    rw[hm]at hv he;simp only[Option.map_some,Option.some.injEq]at hv;have:u=v:=oM;subst this;exact he
section
variable (p:ByteArray)(h2:p.size<=2)(v:Nat)(hv:mD p=some (v:Int))
noncomputable def aaL:Env prog:=⟨λ| 192=>some (Wo p h2 v hv).spec|_=>none,λ_=>none,λ_ _=>none⟩
theorem XB:(aaL p h2 v hv).sp 192=some (Wo p h2 v hv).spec:=rfl
end
def RB:=(aj @List.replicate_succ.{0} @List.replicate_zero.{0} @an @ab gS ca cc (aj b9 cg cf cj cd ck dc (aj dh cZ db c8 dd V2 aaB (aj aaj aaD pF o6 px oZ WO (uv Zy @aG @al @ay @ax @XB @Wo.eq_1)))))
theorem TY(p:ByteArray)(h2:p.size<=2)(v:Nat)(hv:mD p=some (v:Int))(w:World):Calls prog 141 #[.string p,.int .i64 16,.int .i64 8] w λe w' => e=.returned (.tuple #[.int .u64 (v:Nat),.nilIface])/\LE.ah w [] w' := by
 refine af (nt:=26) [.tmp 6,.tmp 7] func141 rfl rfl rfl ?_;refine vR (aaL p h2 v hv) RB ?_;refine vR (aaL p h2 v hv) RB ?_;refine Wp.seq ?_;refine vR (aaL p h2 v hv) RB ?_;refine wC RB (λhc=>?_) (λhc=>?_)
 ·exact absurd hc sI
 refine wK ?_;refine vR (aaL p h2 v hv) RB ?_;refine wZ RB ?_;exact λE=>rfl
def Yu(p:ByteArray)(h2:p.size<=2)(v:Nat)(hv:mD p=some (v:Int)):aM prog 141 where
 pre:=λW bs as_=>as_=[.val (.string p),.val (.int .i64 16),.val (.int .i64 8)]
 res:=λ_ _=>.tuple #[.int .u64 (v:Nat),.nilIface]
 enters:=call141
 ok:=by
  intro W w bs us as_ hk hu hp;subst hp
  match us,hu with
  |[x,y,z],hu=>
   obtain⟨rfl,rfl,rfl,_⟩:=hu;exact TY p h2 v hv w
def Zh:ByteArray:=⟨#[80,97,114,115,101,85,105,110,116]⟩
theorem Ob(p:ByteArray)(h2:p.size<=2)(hn:mD p=none)(ev:Value)(w:World)(hv:w.cell? ⟨5,0,none⟩=some ev)(hev:ev=.nilIface\/∃ te pe,ev=.iface te pe) :
  Calls prog 141 #[.string p,.int .i64 16,.int .i64 8] w λe w' => ∃ N,e=.returned (.tuple #[.int .u64 0,.iface 341 (.pointer (some ⟨N,0,none⟩))])/\w.heap.size<=N/\w'.heap[N]?=some (.cells #[.string Zh,.string p,ev] 359 (0,0))/\Below w.heap.size w w' := by
 have hG:5<w.heap.size:=Lib.lt_of_cell hv;have hm:(if p.size=0 then none else kS 0 p.data.toList)=none:=by
  by_cases h0:p.size=0
  ·rw[if_pos h0]
  ·rw[if_neg h0];rw[YS p h0 h2]at hn;cases h:kS 0 p.data.toList with
   |none=>rfl
   |some v=>rw[h]at hn;cases hn
 have hI:=J7 p h2 w;rw[hm]at hI;have hI:Calls prog 192 #[.string p,.int .i64 16,.int .i64 8] w λe w' => e=.returned (.tuple #[.int .u64 0,.iface 339 (.int .i64 2)])/\Below w.heap.size w w' := hI
 clear hm
 go_enter func141,Tryz.ntmps141
 go_wp2_with (go_at_call 192;refine hI.mono ?_)
 rintro e W1 ⟨rfl,hb1⟩;have hv1:W1.cell? ⟨5,0,none⟩=some ev:=(hb1.cell (show (⟨5,0,none⟩:Addr).block<w.heap.size from hG)).trans hv
 go_wp2_with (go_at_call 193;refine (Any.strconv_toError_syntax Tryz.YB ⟨#[80,97,114,115,101,85,105,110,116]⟩ p 16 8 ev _ oM ?_ hev).mono ?_)
 ·exact hv1
 rintro e W2 ⟨N,rfl,g1,g2,g3⟩
 go_wp2
 go_ret2
 exact⟨N,rfl,Nat.le_trans hb1.size g1,g2,hb1.trans (g3.mono hb1.size)⟩
def Nw(p:ByteArray)(h2:p.size<=2)(hn:mD p=none)(ev:Value):mo prog 141 where
 args:=[.v (.string p),.v (.int .i64 16),.v (.int .i64 8)]
 L:=[]
 val:=.tup [.v (.int .u64 0),.ifc 341 (.own 8 0)]
 L' := [(8,.cells 359 [.v (.string Zh),.v (.string p),.v ev])]
 eo:=[]
 pre:=λW bs=>(5∉bs/\W.cell? ⟨5,0,none⟩=some ev)/\∃ t v,ev=.iface t v
 low:=by simp
 kept:=by simp
 vk:=by simp[SV.keys,aw,fresh]
 lk:=by simp[aT.keys,SV.keys,aw,fresh]
 nd:=by simp
 enters:=call141
 ok:=by
  intro W w bs fp E F hk hm hs hp;obtain⟨⟨h5,hc⟩,t,v,rfl⟩:=hp;have hc' : w.cell? ⟨5,0,none⟩=some (.iface t v):=by
   have:=hk.cell h5 (by rw[hc];rfl);rw[this,hc];rfl
  refine (Ob p h2 hn (.iface t v) w hc' (.inr ⟨t,v,rfl⟩)).mono ?_;rintro e w' ⟨N,rfl,g1,g2,g3⟩;have hN:N<w'.heap.size:=by
   refine Decidable.byContradiction λh=>?_
   rw[Array.getElem?_eq_none oM]at g2;cases g2
  refine⟨λ_=>.pointer (some ⟨N,0,none⟩),λ_=>[N],rfl,sI,?_,?_,?_,?_,(LE.ah.lL g3).mono sI⟩
  ·intro k e he;have:=cz he;simp only[List.mem_singleton,Prod.mk.injEq]at this;obtain⟨rfl,rfl⟩:=this;exact⟨N,rfl,rfl,g2⟩
  ·intro k e he b hb;rw[List.mem_singleton.1 hb];exact hN
  ·intro k e he b hb;rw[List.mem_singleton.1 hb];exact .inl g1
  ·intro k k' e e' hne he he';have h1:=cz he;have h2:=cz he';simp only[List.mem_singleton,Prod.mk.injEq]at h1 h2;exact absurd (h1.1.trans h2.1.symm) hne
structure Rd where
 ty:List ByteArray
 tx:List ByteArray
 co:List (Int×Int×Int×Int)
 src:Int
 vw:Int
 pl:Nat
def Rd.pg(r:Rd):Pg:=⟨r.ty,r.tx,r.co,r.src,r.vw⟩
def xB(s:ByteArray):Nat->Nat->Nat
 |0,i=>i
 |n+1,i=>if bt s (i:Nat)=10 then i else xB s n (i+1)
def bL(s:ByteArray)(i:Nat):Nat:=xB s (s.size-i) i
theorem xY(s:ByteArray):∀ n i,i<=xB s n i/\xB s n i<=i+n
 |0,i=>⟨Nat.le_refl _,Nat.le_refl _⟩
 |n+1,i=>by
  unfold xB;split
  ·omega
  ·have:=xY s n (i+1);omega
theorem jR{s:ByteArray}{i:Nat}(h:i<=s.size):i<=bL s i/\bL s i<=s.size:=by
 have:=xY s (s.size-i) i;unfold bL;omega
def dt(s:ByteArray)(i:Nat):ByteArray:=s.extract i (bL s i)
def cH:ByteArray:=⟨#[116,121,112,101,32,47]⟩
def fR:ByteArray:=⟨#[116,101,120,116,32]⟩
def yB:ByteArray:=⟨#[47]⟩
abbrev L1:=Rd->ByteArray->Bool×Rd
def zY(l:ByteArray):Bool:=(oP l cH&&Be (eu l cH) yB)&&uq (p8 (eu l cH) yB)
def fc:L1:=λr l=>if zY l=true then (true,{ r with ty:=r.ty++[p8 (eu l cH) yB] }) else (false,r)
def Cj(l:ByteArray):Bool:=oP l fR&&(gV (eu l fR)).2
def eA:L1:=λr l=>if Cj l=true then (true,{ r with tx:=r.tx++[(gV (eu l fR)).1] }) else (false,r)
def fT:L1:=λr l=>match iq l with
 |[a,b,c]=>if a=oF then (iD b&&iD c,{ r with src:=rG b,vw:=rG c }) else (false,r)
 |_=>(false,r)
def sB:ByteArray:=⟨#[115]⟩
def vB:ByteArray:=⟨#[118]⟩
def cdK(st:Bool)(f:List ByteArray):Option (Int×List ByteArray):=
 if st=true then match f with
  |[]=>none
  |t::r=>if t=sB then some (0,r) else if t=vB then some (1,r) else none
 else some (0,f)
def UH(u:Int)(f:List ByteArray):Option (Int×List ByteArray):=
 if u=0 then some (0,f) else match f with
  |[]=>none
  |t::r=>if iD t=true then some (rG t,r) else none
def cdX(m:Nat)(f:List ByteArray):Option ((Int×Int×Int×Int)×List ByteArray):=
 match cdK (gq m).2.1 f with
 |none=>none
 | some (k,f1)=>match UH (gq m).2.2.1 f1 with
  |none=>none
  |some (x,f2)=>match UH (gq m).2.2.2 f2 with
   |none=>none
   |some (y,f3)=>some (((m:Nat),k,x,y),f3)
def V5(t:ByteArray):Option Nat:=cS (λm=>decide ((gq m).1=t)) 21 0
def B5(n:Nat)(l:ByteArray):Bool×List (Int×Int×Int×Int):=
 match iq l with
 | a::b::f=>if a=fZ (n:Nat) then match V5 b with
   |none=>(false,[])
   |some m=>match cdX m f with
    |none=>(false,[])
    |some (x,f')=>(f'.isEmpty,[x])
  else (false,[])
 |_=>(false,[])
def gW:L1:=λr l=>((B5 r.co.length l).1,{ r with co:=r.co++(B5 r.co.length l).2 })
def jS(tk:L1)(s:ByteArray):Nat->Rd->Rd
 |0,r=>r
 |n+1,r=>if bL s r.pl<s.size then if (tk r (dt s r.pl)).1=true then jS tk s n { (tk r (dt s r.pl)).2 with pl:=bL s r.pl+1 } else (tk r (dt s r.pl)).2 else r
def oJ(tk:L1)(s:ByteArray)(r:Rd):Rd:=jS tk s (s.size-r.pl) r
def sx(s:ByteArray)(r:Rd):Bool×Rd:=
 if bL s r.pl<s.size then if (fT r (dt s r.pl)).1=true then (true,{ (fT r (dt s r.pl)).2 with pl:=bL s r.pl+1 }) else (false,(fT r (dt s r.pl)).2) else (false,r)
def xQ:Rd:=⟨[],[],[],0,0,0⟩
def Nj(s:ByteArray):Bool×Rd:=sx s (oJ eA s (oJ fc s xQ))
def me(s:ByteArray):Rd:=if (Nj s).1=true then oJ gW s (Nj s).2 else (Nj s).2
def eE:Pg:=⟨[],[],[],0,0⟩
def q6(s:ByteArray):Pg×Int×Int×ByteArray:=
 if 8388608<s.size then (eE,1,0,dJ)
 else if (Nj s).1=false\/(me s).pl<s.size then (eE,110,(me s).pl,dJ)
 else if (131072<(me s).ty.length\/131072<(me s).tx.length)\/131072<(me s).co.length then (eE,24,0,dJ)
 else if eW (me s).pg=(0,0,dJ) then ((me s).pg,0,0,dJ) else (eE,eW (me s).pg)
def J0(l:ByteArray):Bool:=((kI l cH&&decide (6<l.size))&&decide (bt l ((l.size:Int)-1)=47))&&uq (l.extract 6 (l.size-1))
def GO(l:ByteArray):Bool:=kI l fR&&(jI (oT l)).2
def TO(u:ByteArray)(f:List ByteArray):Nat->Nat->Bool->Int×Int×Int->Option (Int×Int×Int)
 |0,_,_,x=>some x
 | n+1,i,fst,x=>
  if i<u.size then
   if bt u (i:Nat)=107 then
    if f.getD i dJ=sB then TO u f n (i+1) fst x
    else if f.getD i dJ=vB then TO u f n (i+1) fst (1,x.2)
    else none
   else if bT (f.getD i dJ)=true then
    TO u f n (i+1) false (if fst=true then (x.1,iJ (f.getD i dJ),x.2.2) else (x.1,x.2.1,iJ (f.getD i dJ)))
   else none
  else some x
def pr(t:ByteArray):Option Nat:=cS (λm=>decide ((dq (m:Nat)).1=t)) 21 0
def Bp(n:Nat)(l:ByteArray):Option (Int×Int×Int×Int):=
 match gQ l with
 | a::b::f=>if a=fZ (n:Nat) then match pr b with
   |none=>none
   | some m=>if f.length=(dq (m:Nat)).2.size then match TO (dq (m:Nat)).2 f (dq (m:Nat)).2.size 0 true (0,0,0) with
     |none=>none
     |some x=>some ((m:Nat),x)
    else none
  else none
 |_=>none
def vc(l:ByteArray):Option (ByteArray×ByteArray):=match gQ l with
 |[a,b,c]=>if a=oF then some (b,c) else none
 |_=>none
def Mi(g:Nat)(r:Rd)(l:ByteArray):Option (Nat×Rd):=
 if (decide (g=0)&&J0 l)=true then some (0,{ r with ty:=r.ty++[l.extract 6 (l.size-1)] })
 else if (decide (g<=1)&&GO l)=true then some (1,{ r with tx:=r.tx++[(jI (oT l)).1] })
 else if (decide (g<=1)&&(vc l).isSome)=true then match vc l with
  |none=>none
  |some (b,c)=>if (bT b&&bT c)=true then some (2,{ r with src:=iJ b,vw:=iJ c }) else none
 else if g=2 then match Bp r.co.length l with
  |none=>none
  |some x=>some (2,{ r with co:=r.co++[x] })
 else none
def Gx(s:ByteArray):Nat->Nat->Rd->Except Nat (Nat×Rd)
 |0,g,r=>.ok (g,r)
 | n+1,g,r=>
  if r.pl<s.size then
   match Mi g r (dt s r.pl) with
   |none=>.error r.pl
   |some (g',r')=>if bL s r.pl<s.size then Gx s n g' { r' with pl:=bL s r.pl+1 } else .error r.pl
  else .ok (g,r)
def JD(s:ByteArray):Pg×Int×Int×ByteArray:=
 if 8388608<s.size then (eE,1,0,dJ)
 else match Gx s s.size 0 xQ with
  |.error i=>(eE,110,i,dJ)
  |.ok (g,r)=>if g<2 then (eE,110,s.size,dJ)
   else if (ie r.pg).1=0 then (r.pg,0,0,dJ) else (eE,ie r.pg)
def UY(s:ByteArray)(r:Rd):List AV:=[.row 9 1 r.ty.length (aE r.ty),.row 9 1 r.tx.length (aE r.tx),.row 50 4 r.co.length (cn r.co),.val (.int .i64 r.src),.val (.int .i64 r.vw),.val (.string s),.val (.int .i64 (r.pl:Nat))]
theorem agy(s:ByteArray)(c:Int)(w:World):Calls prog 138 #[.string s,.int .u8 c] w λe w' => e=.returned (.int .i64 (Lib.indexByte s.data.toList c.toNat.toUInt8))/\LE.ah w [] w' :=
 (Any.strings_IndexByte Tryz.acG s c w).mono λe w' ⟨he,hw⟩=>⟨he,by rw[hw];exact LE.ah.refl w []⟩
def aeG:aM prog 138 where
 pre:=λW bs=>λ| [.val (.string s),.val (.int .u8 c)]=>True|_=>False
 res:=λW=>λ| [.val (.string s),.val (.int .u8 c)]=>.int .i64 (Lib.indexByte s.data.toList c.toNat.toUInt8)|_=>undef
 enters:=call138
 ok:=by
  intro W w bs us as_ hk hu hp;split at hp
  ·rename_i s c
   match us,hu with
   |[u0,u1],hu=>
    obtain⟨rfl,rfl,_⟩:=hu;exact agy s c w
  ·exact hp.elim
theorem WX(W:World)(s:ByteArray)(c:Int):aeG.res W [.val (.string s),.val (.int .u8 c)]=.int .i64 (Lib.indexByte s.data.toList c.toNat.toUInt8):=rfl
theorem aaF(W:World)(bs:List Nat)(s:ByteArray)(c:Int):aeG.pre W bs [.val (.string s),.val (.int .u8 c)]=(True):=rfl
theorem Jc(s:ByteArray):∀ (n i:Nat),i+n=s.size->Lib.indexByte (s.data.toList.drop i) 10=if xB s n i<s.size then ((xB s n i-i:Nat):Int) else -1
 |0,i,h=>by
  have hd:s.data.toList.drop i=[]:=List.drop_eq_nil_of_le (by rw[<- Lib.size_eq];omega);rw[hd,xB,if_neg oM];rfl
 | n+1,i,h=>by
  have hlt:i<s.data.toList.length:=by rw[<- Lib.size_eq];omega
  have hb:=fh s hlt;have ih:=Jc s n (i+1) oM;have hg:=(xY s n (i+1)).1;rw[List.drop_eq_getElem_cons hlt,Lib.indexByte,xB];by_cases h10:bt s (i:Nat)=10
  ·have hc:s.data.toList[i]=10:=UInt8.toNat_inj.1 (by have:(10:UInt8).toNat=10:=rfl;omega);rw[if_pos h10,if_pos (by simp[hc]),if_pos oM];simp
  ·have hc:¬ s.data.toList[i]=10:=λe=>h10 (by rw[hb,e];rfl)
   rw[if_neg h10,if_neg (by simpa using hc),ih];by_cases he:xB s n (i+1)<s.size
   ·rw[if_pos he,if_pos he,if_neg (by simp<;>omega)];omega
   ·rw[if_neg he,if_neg he];rfl
theorem agw{s:ByteArray}{i:Nat}(hi:i<=s.size):Lib.indexByte (s.extract i s.size).data.toList 10=if bL s i<s.size then ((bL s i-i:Nat):Int) else -1:=by
 have h:=Jc s (s.size-i) i oM;have e:(s.extract i s.size).data.toList=s.data.toList.drop i:=by
  rw[j9,List.take_of_length_le (by rw[List.length_drop,<- Lib.size_eq];omega)]
 rw[e,h];rfl
def l8(s:ByteArray)(i:Nat):Value:=if bL s i<s.size then .tuple #[.string (dt s i),.bool true] else .tuple #[.string ⟨#[]⟩,.bool false]
theorem Td{w:World}{u:Value}{fp:List Nat}{s:ByteArray}{r:Rd}(h:bC w u fp 112 (UY s r)) :
  ∃ b,u=.pointer (some ⟨b,0,none⟩)/\w.cell? ⟨b,5,none⟩=some (.string s)/\w.cell? ⟨b,6,none⟩=some (.int .i64 (r.pl:Nat)):=by
 obtain⟨b,us,h1,h2,h3⟩:=DH h
 match us,h2 with
 |[x0,x1,x2,x3,x4,x5,x6],h2=>
  obtain⟨_,_,_,_,_,rfl,rfl,_⟩:=h2;exact⟨b,h1,h3 5 sI,h3 6 sI⟩
noncomputable def I9:Env prog:=⟨λ| 138=>some aeG.spec|_=>none,λ| _=>none,λ_ _=>none⟩
theorem aaM:I9.sp 138=some aeG.spec:=rfl
def z7:=(aj @List.replicate_succ.{0} @List.replicate_zero.{0} @an @ab jo jl gS (aj ca cc b9 cg cf cj cd (aj ck fu fE fj fz fw dc (aj dh cZ db c8 dd pw pU (aj pY po pD oX pQ pf qf (aj pW pc ql @aG @al @ay @ax (bQ WX aaF aaM)))))))
theorem Lo(s:ByteArray)(i b:Nat)(w:World)(hi:i<=s.size)(hs:s.size<=16777216)(g1:w.cell? ⟨b,5,none⟩=some (.string s))(g2:w.cell? ⟨b,6,none⟩=some (.int .i64 (i:Nat))) :
  Calls prog 79 #[.pointer (some ⟨b,0,none⟩)] w λe w' => e=.returned (l8 s i)/\ah w [] w' := by
 have hx:Lib.indexByte (s.extract i s.size).data.toList (Nat.toUInt8 10)=_:=agw hi;have hle:=jR hi;refine af (nt:=32) [.tmp 2,.tmp 3] func79 rfl rfl rfl ?_;refine vR I9 z7 ?_;by_cases he:bL s i<s.size
 ·have e:l8 s i=.tuple #[.string (s.extract i (bL s i)),.bool true]:=by rw[l8,if_pos he];rfl
  rw[if_pos he]at hx;have ha:IntKind.i64.wrap ((i:Int)+((bL s i-i:Nat):Int))=((bL s i:Nat):Int):=wW;rw[e];generalize bL s i=j at *;refine Qr I9 (eT z7 g1 g2 hx) ?_;refine Wp.seq ?_;refine vR I9 z7 ?_;refine wC z7 (λhc=>?_) (λhc=>?_)
  ·exact absurd hc sI
  refine wK ?_;refine Qr I9 (eT z7 g1 g2 ha) ?_;refine wZ z7 ?_;exact λE=>rfl
 ·have e:l8 s i=.tuple #[.string ⟨#[]⟩,.bool false]:=by rw[l8,if_neg he]
  rw[if_neg he]at hx;rw[e];refine Qr I9 (eT z7 g1 g2 hx) ?_;refine Wp.seq ?_;refine vR I9 z7 ?_;refine wC z7 (λhc=>?_) (λhc=>?_)
  ·skip;refine vR I9 z7 ?_;refine wZ z7 ?_;exact λE=>rfl
  ·exact absurd hc sI
def oz(s:ByteArray)(r:Rd):Cw prog 79 where
 T:=112
 pre:=λW bs fs as_=>fs=UY s r/\as_=[]/\r.pl<=s.size/\s.size<=16777216
 res:=λW fs as_=>l8 s r.pl
 enters:=call79
 ok:=by
  intro W w bs u fp us fs as_ hk ho hu hp;obtain⟨rfl,rfl,h1,h2⟩:=hp
  match us,hu with
  |[],_=>
   obtain⟨b,rfl,g1,g2⟩:=Td ho;exact Lo s r.pl b w h1 h2 g1 g2
def fQ(W:World)(S:Nat->Prop):Prop:=(fS W S/\bB W S)/\fC W S/\gM W S
theorem fQ.mono{W W' : World}{S S' : Nat->Prop}(h:fQ W S)(hs:cT W S W' S'):fQ W' S' := ⟨⟨h.1.1.mono hs,h.1.2.mono hs⟩,h.2.1.mono hs,h.2.2.mono hs⟩
theorem fQ.dW{W w:World}{bs fp:List Nat}(h:fQ W (Out bs))(hk:LE.ah W bs w)(hm:∀ b∈fp,W.heap.size<=b\/b∈bs):fQ w (Out fp):=
 h.mono λb hb hs=>⟨hk.block b hb hs,λhb' => (hm b hb').elim (λg=>absurd g (Nat.not_le.2 hb)) hs⟩
def Ni(s:ByteArray)(r:Rd):Prop:=(r.ty.length<=r.pl/\r.tx.length<=r.pl/\r.co.length<=r.pl)/\r.pl<=s.size/\s.size<=16000000
def Wq(g:FuncId)(tk:L1):Prop:=∀ (s:ByteArray) (r:Rd) (l:ByteArray) (u:Value) (fp:List Nat) (w:World),Ni s r->l.size<=16000000->fQ w (Out fp)->bC w u fp 112 (UY s r)->(∀ b∈fp,b<w.heap.size) ->
 Calls prog g (#[u]++#[.string l]) w λe w' => gN w u fp 112 e w' (.ret (.bool (tk r l).1) (UY s (tk r l).2))
theorem Eg(s p:ByteArray):(eu s p).size<=s.size:=by
 rw[Lib.size_eq,Lib.size_eq s];unfold eu Lib.trimPrefix;split
 ·show (s.data.toList.drop _).length<=_;rw[List.length_drop];omega
 ·exact Nat.le_refl _
theorem Oc(s p:ByteArray):(p8 s p).size<=s.size:=by
 rw[Lib.size_eq,Lib.size_eq s];unfold p8 Lib.trimSuffix;split
 ·show (s.data.toList.take _).length<=_;rw[List.length_take];omega
 ·exact Nat.le_refl _
noncomputable def qv:Env prog:=⟨λ| 33=>some qu.spec|80=>some C3.spec|81=>some QI.spec|_=>none,λ| _=>none,λ_ _=>none⟩
theorem ac1:qv.sp 33=some qu.spec:=rfl
theorem aev:qv.sp 80=some C3.spec:=rfl
theorem abO:qv.sp 81=some QI.spec:=rfl
def uZ:=(aj @List.replicate_succ.{0} @List.replicate_zero.{0} @an @ab jo jl BH (aj BJ BG gS ca cc b9 cg (aj cf cj cd ck dc dh cZ (aj db c8 dd sk ss se rO (aj zy zK zP Bc A3 Bu AF (aj Bs An vC u5 D8 EJ pw (aj pU pY po pD oX pQ pf (aj qf pW pc ql @aG @al @ay (aj @ax @UY.eq_1 ac1 aev abO @sn @rN (eT @Cq @C8 @Uj @UG))))))))))
theorem OC:Wq 50 fc:=by
 intro s r l u fp w hr hl ha ho hlt;obtain⟨⟨n1,n2,n3⟩,n4,n5⟩:=hr;have hc1:=Eg l cH;have hc2:=Oc (eu l cH) yB;have hT:(⟨#[116,121,112,101,32,47]⟩:ByteArray)=cH:=rfl;have hS:(⟨#[47]⟩:ByteArray)=yB:=rfl;refine bh (nt:=41) #[.string l] [.tmp 4] (by show 7<=7;omega) ho hlt func50 rfl rfl rfl ?_
 refine vR qv uZ ?_;refine vR qv (aa uZ hT) ?_;refine wR qv (aa uZ hS) ?_ ?_
 ·omega
 refine Wp.seq ?_;refine wR qv uZ ?_ ?_
 ·intro h;exact⟨oM,ha.1.2⟩
 refine wC uZ (λhc=>?_) (λhc=>?_)
 ·have h:zY l=false:=by
   unfold zY;revert hc;generalize oP l cH=a;generalize Be (eu l cH) yB=b;generalize uq (p8 (eu l cH) yB)=c;cases a<;>cases b<;>cases c<;>simp
  have e:fc r l=(false,r):=by unfold fc;rw[if_neg (by simp[h])]
  rw[e];refine vR qv uZ ?_;refine wZ uZ ?_;exact⟨_,_,rfl,λE=>rfl,_,_,rfl,(ev (aa uZ @aB)),dE⟩
 ·have h:zY l=true:=by
   unfold zY;revert hc;generalize oP l cH=a;generalize Be (eu l cH) yB=b;generalize uq (p8 (eu l cH) yB)=c;cases a<;>cases b<;>cases c<;>simp
  have e:fc r l=(true,{ r with ty:=r.ty++[p8 (eu l cH) yB] }):=by unfold fc;rw[if_pos h]
  have e1:=mW r.ty (p8 (eu l cH) yB);have e2:(r.ty++[p8 (eu l cH) yB]).length=r.ty.length+1:=by rw[List.length_append];rfl
  rw[e];refine wK ?_;refine wR qv (aa uZ e1) ?_ ?_
  ·exact⟨by unfold maxLen;omega,oM⟩
  refine vR qv uZ ?_;refine wZ uZ ?_;exact⟨_,_,rfl,λE=>rfl,_,_,rfl,(ev (bQ uZ @aB e2)),dE⟩
def ajc(s:ByteArray)(hs:s.size<4294967281):vO prog 83 where
 pre:=λW bs as_=>as_=[.val (.string s),.val (.string ⟨#[32]⟩)]/\gM W (Out bs)
 T:=9
 s:=1
 n:=λ_ _=>(iq s).length
 vs:=λ_ _=>aE (iq s)
 tm:=λ_ _ x=>x
 g:=λ_ _ v=>v
 tmg:=λ_ _ _ _=>rfl
 tmk:=λ_ _ _ _ h=>h
 enters:=call83
 ok:=by
  intro W w bs us as_ hk hu hp;obtain⟨rfl,hp⟩:=hp
  match us,hu with
  |[x,y],hu=>
   obtain⟨rfl,rfl,_⟩:=hu;exact SF s hs w (hp.dW hk sI)
noncomputable def aaT(s:ByteArray)(hs:s.size<4294967281):Env prog:=⟨λ| 83=>some (ajc s hs).spec|84=>some Cr.spec|_=>none,λ_=>none,λ_ _=>none⟩
theorem adu(s:ByteArray)(hs:s.size<4294967281):(aaT s hs).sp 83=some (ajc s hs).spec:=rfl
theorem agE(s:ByteArray)(hs:s.size<4294967281):(aaT s hs).sp 84=some Cr.spec:=rfl
theorem HB(s:ByteArray):∀ x∈iq s,x.size<=s.size:=by
 have key:∀ (k:Nat) (s:ByteArray),∀ x∈Lib.splitB ⟨#[32]⟩ 0 k s,x.size<=s.size:=by
  intro k
  induction k with
  |zero=>
   intro s x hx;rw[Lib.splitB_zero]at hx;rw[List.mem_singleton.1 hx];exact Nat.le_refl _
  | succ k ih=>
   intro s x hx;rcases Lib.indexB_cases s ⟨#[32]⟩ with hm|⟨i,hi,hle⟩
   ·rw[Lib.splitB_miss _ _ _ s hm]at hx;rw[List.mem_singleton.1 hx];exact Nat.le_refl _
   ·rw[Lib.splitB_hit _ _ _ s i hi]at hx;rcases List.mem_cons.1 hx with rfl|hx
    ·rw[ByteArray.size_extract];omega
    ·have:=ih _ x hx;rw[ByteArray.size_extract]at this;omega
 exact key _ s
def oR:=(mh uZ @adu @agE @ajc.eq_1 @C0 @Cx)
theorem Oo:Wq 53 fT:=by
 intro s r l u fp w hr hl ha ho hlt;have hs4:l.size<4294967281:=oM;have hM:(⟨#[109,97,105,110]⟩:ByteArray)=oF:=rfl;refine bh (nt:=45) #[.string l] [.tmp 4] (by show 7<=7;omega) ho hlt func53 rfl rfl rfl ?_;refine vR qv oR ?_;refine wR (aaT l hs4) oR ?_ ?_
 ·exact ha.2.2
 refine Wp.seq ?_;have hsz:=HB l;by_cases h3:(iq l).length=3
 ·obtain⟨a,b,c,hs⟩:∃ a b c,iq l=[a,b,c]:=by
   match hs:iq l,h3 with
   |[a,b,c],_=>exact⟨a,b,c,rfl⟩
  have e0:fT r l=if a=oF then (iD b&&iD c,{ r with src:=rG b,vw:=rG c }) else (false,r):=by unfold fT;rw[hs]
  rw[hs]at hsz;have zb:=hsz b sI;have zc:=hsz c sI;rw[e0];refine wR qv (eT oR hs @aE.eq_1 hM) ?_ ?_
  ·exact⟨⟨_,rfl⟩,λ_=>by simp⟩
  refine wC oR (λhc=>?_) (λhc=>?_)
  ·have h:¬ a=oF:=by simpa using hc
   rw[if_neg h];refine vR qv oR ?_;refine wZ oR ?_;exact⟨_,_,rfl,λE=>rfl,_,_,rfl,(ev (aa oR @aB)),dE⟩
  ·have h:a=oF:=by simpa using hc
   rw[if_pos h];refine wK ?_;refine vR qv oR ?_;refine wR (aaT l hs4) (bQ oR hs @aE.eq_1) ?_ ?_
   ·exact⟨by first|trivial|omega|exact⟨_,rfl⟩|simp,oM,ha.2⟩
   refine wR (aaT l hs4) (bQ oR hs @aE.eq_1) ?_ ?_
   ·exact⟨by first|trivial|omega|exact⟨_,rfl⟩|simp,oM,ha.2⟩
   refine vR qv oR ?_;refine wZ oR ?_;exact⟨_,_,rfl,λE=>rfl,_,_,rfl,(ev (aa oR @aB)),dE⟩
 ·have e0:fT r l=(false,r):=by
   unfold fT;split
   ·rename_i a b c h;rw[h]at h3;exact absurd rfl h3
   ·rfl
  obtain⟨a,f,hs⟩:∃ a f,iq l=a::f:=by
   have:=lW l;cases h:iq l with
   |nil=>rw[h]at this;simp at this
   |cons a f=>exact⟨a,f,rfl⟩
  rw[hs,List.length_cons]at h3;have h3' : decide (((f.length+1:Nat):Int)=3)=false:=by simp;omega
  rw[e0];refine wR qv (eT oR hs @aE.eq_1 h3') ?_ ?_
  ·exact⟨⟨_,rfl⟩,(λh=>by cases h),λh=>by cases h⟩
  refine wC oR (λhc=>?_) (λhc=>?_)
  ·skip;refine vR qv oR ?_;refine wZ oR ?_;exact⟨_,_,rfl,λE=>rfl,_,_,rfl,(ev (aa oR @aB)),dE⟩
  ·exact absurd hc sI
def uu(s:ByteArray)(i:Nat):Int×Nat:=
 if bt s (i:Nat)=92/\i+1<s.size then
  if bt s ((i+1:Nat):Int)=110 then (10,i+1)
  else if bt s ((i+1:Nat):Int)=114 then (13,i+1)
  else if bt s ((i+1:Nat):Int)=116 then (9,i+1)
  else if bt s ((i+1:Nat):Int)=120 then ((mD (s.extract (i+2) (min (i+4) s.size))).getD 0,i+3)
  else (bt s ((i+1:Nat):Int),i+1)
 else (bt s (i:Nat),i)
def uqX(s:ByteArray)(i:Nat):Prop:=(bt s (i:Nat)=92/\i+1<s.size)/\bt s ((i+1:Nat):Int)=120/\mD (s.extract (i+2) (min (i+4) s.size))=none
theorem Vc{s:ByteArray}{n i:Nat}{o:ByteArray}(hi:i<s.size)(hx:¬ uqX s i):yl s (n+1) i o=yl s n ((uu s i).2+1) (o++bK [(uu s i).1]):=by
 rw[yl,if_pos hi,uu];by_cases h:bt s (i:Nat)=92/\i+1<s.size
 ·rw [if_pos h,if_pos h];by_cases h1:bt s ((i+1:Nat):Int)=110
  ·rw[if_pos h1,if_pos h1]
  ·rw[if_neg h1,if_neg h1];by_cases h2:bt s ((i+1:Nat):Int)=114
   ·rw[if_pos h2,if_pos h2]
   ·rw[if_neg h2,if_neg h2];by_cases h3:bt s ((i+1:Nat):Int)=116
    ·rw[if_pos h3,if_pos h3]
    ·rw[if_neg h3,if_neg h3];by_cases h4:bt s ((i+1:Nat):Int)=120
     ·rw[if_pos h4,if_pos h4];cases hn:mD (s.extract (i+2) (min (i+4) s.size)) with
      |none=>exact absurd ⟨h,h4,hn⟩ hx
      |some v=>rfl
     ·rw[if_neg h4,if_neg h4]
 ·rw[if_neg h,if_neg h]
theorem ahj{s:ByteArray}{n i:Nat}{o:ByteArray}(hi:i<s.size)(hx:uqX s i):yl s (n+1) i o=none:=by
 obtain⟨h,h4,hn⟩:=hx;rw[yl,if_pos hi,if_pos h,if_neg oM,if_neg oM,if_neg oM,if_pos h4,hn]
theorem Od{c a:Int}(h:Fg c=some a):0<=a/\a<16:=by
 unfold Fg at h
 repeat' split at h
 all_goals first|(cases h;omega)|cases h
theorem Ot{p:ByteArray}{a:Int}(h:mD p=some a):0<=a/\a<256:=by
 unfold mD at h;split at h
 ·cases h
 ·split at h
  ·cases h
  ·rename_i x hx;have h1:=Od hx;split at h
   ·cases h;omega
   ·split at h
    ·cases h
    ·rename_i y hy;have h2:=Od hy;cases h;omega
theorem aix(s:ByteArray)(i:Nat):(0<=(uu s i).1/\(uu s i).1<256)/\i<=(uu s i).2/\(uu s i).2<=i+3:=by
 have h0:=jq s i;have h1:=jq s ((i+1:Nat):Int);unfold uu
 repeat' split
 all_goals simp only
 all_goals try omega
 cases hn:mD (s.extract (i+2) (min (i+4) s.size)) with
 |none=>simp only[Option.getD_none];omega
 |some v=>
  have:=Ot hn;simp only[Option.getD_some];omega
def yh:aM prog 38 where
 pre:=λW bs as_=>∃ s,as_=[.val (.string s)]/\s.size<=16777216
 res:=λ_ as_=>match as_ with
  |[.val (.string s)]=>.string (dS s)
  |_=>undef
 enters:=call38
 ok:=by
  intro W w bs us as_ hk hu hp;obtain⟨s,rfl,h1⟩:=hp
  match us,hu with
  |[x],hu=>
   obtain⟨rfl,_⟩:=hu;exact Di s h1 w
theorem GJ(W:World)(bs:List Nat)(s:ByteArray):yh.pre W bs [.val (.string s)]=(s.size<=16777216):=
 propext ⟨λ⟨s',h,h2⟩=>by
  cases h
  exact h2,λh=>⟨s,rfl,h⟩⟩
theorem HC(W:World)(s:ByteArray):yh.res W [.val (.string s)]=.string (dS s):=rfl
noncomputable def fW:Env prog:=⟨λ| 38=>some yh.spec|_=>none,λ| _=>none,λ_ _=>none⟩
theorem ael:fW.sp 38=some yh.spec:=rfl
section
variable (p:ByteArray)(h2:p.size<=2)(v:Nat)(hv:mD p=some (v:Int))(hn:mD p=none)(ev:Value)
noncomputable def al6:Env prog:=⟨λ| 141=>some (Yu p h2 v hv).spec|_=>none,λ_=>none,λ_ _=>none⟩
theorem Yc:(al6 p h2 v hv).sp 141=some (Yu p h2 v hv).spec:=rfl
noncomputable def alh:Env prog:=⟨λ| 141=>some ((Nw p h2 hn ev).spec [])|_=>none,λ_=>none,λ_ _=>none⟩
theorem ZU:(alh p h2 hn ev).sp 141=some ((Nw p h2 hn ev).spec []):=rfl
end
def cB:=(aj @List.replicate_succ.{0} @List.replicate_zero.{0} @an @ab BH BJ BG (aj gS ca cc b9 cg cf cj (aj cd ck fu fE fj fz fw (aj dc dh cZ db c8 dd xj (aj wP wB v8 V2 aaB aaj aaD (aj pF o6 px oZ WO Zy @aG (aj @al @ay @ax @gu @js @ln @o4 (aj ael @Yc @ZU @Yu.eq_1 @Nw.eq_1 @GJ @HC (aj @qk.eq_1 @fV.eq_1 @fV.eq_2 @eZ.eq_1 @eZ.eq_2 @eZ.eq_3 @eZ.eq_4 (aj @eZ.eq_5 @eZ.eq_6 @eZ.eq_7 @eZ.eq_8 @kg.eq_1 @kg.eq_2 @eV.eq_1 (aj @eV.eq_2 @gO.eq_1 @gO.eq_2 @fU.eq_1 @fU.eq_2 @fU.eq_3 @sb.eq_1 (aa @mp.eq_1 @gF))))))))))))
theorem aby(q:ByteArray)(hq:q.size<=16000000)(w:World)(hl:gM w (Out [])):Calls prog 82 #[.string q] w λe w' => e=.returned (.tuple #[.string (gV q).1,.bool (gV q).2])/\ah w [] w' := by
 obtain⟨_,⟨_,t5,v5,h5⟩,_⟩:=hl;have wq:IntKind.i64.wrap ((q.size:Int)-1)=(q.size:Int)-1:=ae oM oM;refine af (nt:=93) [.tmp 2,.tmp 3] func82 rfl rfl rfl ?_;refine vR fW cB ?_;refine Wp.seq ?_;refine wR fW (aa cB wq) ?_ ?_
 ·refine⟨λh=>?_,λh=>?_⟩
  ·simp at h;omega
  ·simp at h;omega
 refine wC cB (λhc=>?_) (λhc=>?_)
 ·have h:P0 q=false:=by
   unfold P0;simp only[Bool.or_eq_true,Bool.not_eq_true',decide_eq_true_eq,decide_eq_false_iff_not]at hc;simp only[Bool.and_eq_false_iff,decide_eq_false_iff_not];rcases hc with (hc|hc)|hc
   ·exact .inl (.inl oM)
   ·exact .inl (.inr hc)
   ·exact .inr hc
  have e:gV q=(⟨#[]⟩,false):=by unfold gV;rw[if_neg (by simp[h])]
  rw[e];refine vR fW cB ?_;refine wZ cB ?_;exact λE=>rfl
 have h:P0 q=true:=by
  unfold P0;simp only[Bool.or_eq_false_iff,Bool.not_eq_false',decide_eq_false_iff_not,decide_eq_true_eq]at hc;simp only[Bool.and_eq_true,decide_eq_true_eq];exact⟨⟨oM,hc.1.2⟩,hc.2⟩
 have h2q:2<=q.size:=by
  unfold P0 at h;simp only[Bool.and_eq_true,decide_eq_true_eq]at h;exact h.1.1
 have hin:(oK q).size=q.size-2:=by unfold oK;rw[dD _ _ _ oM];omega
 have eq0:gV q=match yl (oK q) (oK q).size 0 ⟨#[]⟩ with
  |none=>(⟨#[]⟩,false)
  |some o=>(o,decide (dS o=q)):=by
  unfold gV;rw[if_pos h];cases yl (oK q) (oK q).size 0 ⟨#[]⟩<;>rfl
 have hex:q.extract 1 ((q.size:Int)-1).toNat=oK q:=by unfold oK;congr 1;omega
 generalize hS:oK q=s at *;refine wK ?_;refine vR fW cB ?_;refine wR fW (bQ cB wq hex) ?_ ?_
 ·omega
 refine Wp.seq ?_;refine vR fW cB ?_;refine Wp.block ?_
 refine Wp.loop (λp:Nat×Nat×ByteArray=>⟨20,bm [(0,.is (.v (.string q))),(4,.is (.hd 19)),(5,.is (.v (.string s))),(6,.is (.v (.int .i64 (p.2.1:Nat))))],aY [(19,.row 5 1 p.2.2.size ((byteCells p.2.2).map .v))]⟩) (λp=>p.2.1<=s.size+3/\p.2.2.size<=p.2.1/\s.size<=p.2.1+p.1/\yl s p.1 p.2.1 p.2.2=yl s s.size 0 ⟨#[]⟩) (λp=>p.1) (s.size,0,⟨#[]⟩) ?_ ⟨Nat.zero_le _,Nat.le_refl _,by show s.size<=0+s.size;omega,rfl⟩ ?_
 ·exact wM (λk=>if k=19 then .nil else .key k) (bQ cB (show (⟨#[]⟩:ByteArray).size=0 from rfl) (show byteCells ⟨#[]⟩=[] from rfl))
 rintro⟨n,i,o⟩ ⟨g1,g2,g3,g4⟩;dsimp only at g1 g2 g3 g4 ⊢;refine Wp.seq ?_;refine vR fW cB ?_;refine wC cB (λhc=>?_) (λhc=>?_)
 ·have hlt:i<s.size:=by
   simp at hc;omega
  obtain⟨n,rfl⟩:∃ n',n=n' + 1:=⟨n-1,oM⟩;obtain⟨⟨c0,c1⟩,c2,c3⟩:=aix s i;have wi:IntKind.i64.wrap ((i:Int)+1)=((i+1:Nat):Int):=wW;have ha:=dY o [(uu s i).1] (λc hc=>by rw[List.mem_singleton.1 hc];exact⟨c0,c1⟩);have hz:(o++bK [(uu s i).1]).size=o.size+1:=by rw[ByteArray.size_append,aU];rfl
  simp only[List.map_cons,List.map_nil]at ha;have wi2:IntKind.i64.wrap (((i+1:Nat):Int)+1)=((i+2:Nat):Int):=wW;have wi3:IntKind.i64.wrap (((i+1:Nat):Int)+2)=((i+3:Nat):Int):=wW;have wi4:IntKind.i64.wrap (((i+1:Nat):Int)+3)=((i+4:Nat):Int):=wW
  have hmin:(if ((s.size:Nat):Int)<((i+4:Nat):Int) then ((s.size:Nat):Int) else ((i+4:Nat):Int))=((min (i+4) s.size:Nat):Int):=by split<;>omega
  refine wK ?_;refine Wp.seq (Wp.block ?_);refine wR fW cB ?_ ?_
  ·omega
  by_cases hx:uqX s i
  ·have hbad:=ahj (n:=n) (o:=o) hlt hx;rw[g4]at hbad;rw[hbad]at eq0;rw[eq0];obtain⟨hb,h120,hn⟩:=hx;have hp2:(s.extract (i+2) (min (i+4) s.size)).size<=2:=by rw[dD _ _ _ oM];omega
   refine Wp.seq ?_;refine vR fW (aa cB wi) ?_;refine wC cB (λhc=>?_) (λhc=>?_)
   ·skip;refine vR fW (aa cB wi) ?_;refine wR fW cB ?_ ?_
    ·omega
    refine vR fW cB ?_;refine Wp.block ?_;refine vR fW cB ?_;refine wC cB (λhc=>?_) (λhc=>?_)
    ·exfalso;have:bt s ((i+1:Nat):Int)=110:=by simpa using hc
     omega
    clear hc;refine vR fW cB ?_;refine wC cB (λhc=>?_) (λhc=>?_)
    ·exfalso;have:bt s ((i+1:Nat):Int)=114:=by simpa using hc
     omega
    clear hc;refine vR fW cB ?_;refine wC cB (λhc=>?_) (λhc=>?_)
    ·exfalso;have:bt s ((i+1:Nat):Int)=116:=by simpa using hc
     omega
    clear hc;refine vR fW cB ?_;refine wC cB (λhc=>?_) (λhc=>?_)
    ·skip;refine wR (alh (s.extract (i+2) (min (i+4) s.size)) hp2 hn (.iface t5 v5)) (eT cB wi2 wi4 hmin) ?_ ?_
     ·refine⟨⟨oM,oM,oM⟩,?_⟩;simp[h5]
     refine Wp.seq ?_;refine vR fW cB ?_;refine wC cB (λhc=>?_) (λhc=>?_)
     ·skip;refine vR fW cB ?_;refine wZ cB ?_;exact λE=>rfl
     ·exact absurd hc sI
    ·exfalso;have:¬ bt s ((i+1:Nat):Int)=120:=by simpa using hc
     omega
   ·exfalso;simp only[Bool.and_eq_false_iff,decide_eq_false_iff_not]at hc;rcases hc with hc|hc
    ·exact hc hb.1
    ·have:=hb.2;omega
  have hst:=Vc (n:=n) (o:=o) hlt hx;rw[g4]at hst;have wj:IntKind.i64.wrap (((uu s i).2:Int)+1)=(((uu s i).2+1:Nat):Int):=wW
  refine aW ⟨60,bm [(0,.is (.v (.string q))),(4,.is (.hd 19)),(5,.is (.v (.string s))),(6,.is (.v (.int .i64 ((uu s i).2:Nat)))),(7,.is (.v (.int .u8 (uu s i).1)))],aY [(19,.row 5 1 o.size ((byteCells o).map .v))]⟩ ?_ ?_
  ·skip;refine vR fW (aa cB wi) ?_;refine wC cB (λhc=>?_) (λhc=>?_)
   ·have hb:bt s (i:Nat)=92/\i+1<s.size:=by
     simp only[Bool.and_eq_true,decide_eq_true_eq]at hc;omega
    clear hc;refine vR fW (aa cB wi) ?_;refine wR fW cB ?_ ?_
    ·omega
    refine vR fW cB ?_;refine Wp.block ?_;refine vR fW cB ?_;refine wC cB (λhc=>?_) (λhc=>?_)
    ·have h1:bt s ((i+1:Nat):Int)=110:=by simpa using hc
     have e:uu s i=(10,i+1):=by rw[uu,if_pos hb,if_pos h1]
     rw[e];refine vr fW cB ?_;exact wM (λk=>.key k) cB
    have h1:¬ bt s ((i+1:Nat):Int)=110:=by simpa using hc
    clear hc;refine vR fW cB ?_;refine wC cB (λhc=>?_) (λhc=>?_)
    ·have h2:bt s ((i+1:Nat):Int)=114:=by simpa using hc
     have e:uu s i=(13,i+1):=by rw[uu,if_pos hb,if_neg h1,if_pos h2]
     rw[e];refine vr fW cB ?_;exact wM (λk=>.key k) cB
    have h2:¬ bt s ((i+1:Nat):Int)=114:=by simpa using hc
    clear hc;refine vR fW cB ?_;refine wC cB (λhc=>?_) (λhc=>?_)
    ·have h3:bt s ((i+1:Nat):Int)=116:=by simpa using hc
     have e:uu s i=(9,i+1):=by rw[uu,if_pos hb,if_neg h1,if_neg h2,if_pos h3]
     rw[e];refine vr fW cB ?_;exact wM (λk=>.key k) cB
    have h3:¬ bt s ((i+1:Nat):Int)=116:=by simpa using hc
    clear hc;refine vR fW cB ?_;refine wC cB (λhc=>?_) (λhc=>?_)
    ·have h4:bt s ((i+1:Nat):Int)=120:=by simpa using hc
     clear hc;have hp2:(s.extract (i+2) (min (i+4) s.size)).size<=2:=by rw[dD _ _ _ oM];omega
     cases hn:mD (s.extract (i+2) (min (i+4) s.size)) with
     |none=>exact absurd ⟨hb,h4,hn⟩ hx
     |some v=>
      obtain⟨v0,v1⟩:=Ot hn;obtain⟨v,rfl⟩:=Int.eq_ofNat_of_zero_le v0;have e:uu s i=((v:Int),i+3):=by rw[uu,if_pos hb,if_neg h1,if_neg h2,if_neg h3,if_pos h4,hn];rfl
      have wv:IntKind.u8.wrap (v:Int)=(v:Int):=eS v0 v1;rw[e];refine wR (al6 (s.extract (i+2) (min (i+4) s.size)) hp2 v hn) (eT cB wi2 wi4 hmin) ?_ ?_
      ·exact⟨oM,oM,oM⟩
      refine Wp.seq ?_;refine vR fW cB ?_;refine wC cB (λhc=>?_) (λhc=>?_)
      ·exact absurd hc sI
      refine wK ?_;refine vR fW (aa cB wv) ?_;refine vr fW (aa cB wi3) ?_;exact wM (λk=>.key k) cB
    have h4:¬ bt s ((i+1:Nat):Int)=120:=by simpa using hc
    have e:uu s i=(bt s ((i+1:Nat):Int),i+1):=by rw[uu,if_pos hb,if_neg h1,if_neg h2,if_neg h3,if_neg h4]
    rw[e];refine wK ?_;exact wM (λk=>.key k) cB
   ·have hb:¬ (bt s (i:Nat)=92/\i+1<s.size):=by
     simp only[Bool.and_eq_false_iff,decide_eq_false_iff_not]at hc;omega
    have e:uu s i=(bt s (i:Nat),i):=by rw[uu,if_neg hb]
    rw[e];refine wK ?_;exact wM (λk=>.key k) cB
  refine wr fW (aa cB ha) ?_ ?_
  ·exact⟨by unfold maxLen;omega,oM⟩
  refine vr fW (aa cB wj) ?_;refine⟨(n,(uu s i).2+1,o++bK [(uu s i).1]),⟨by dsimp only;omega,by dsimp only;omega,by dsimp only;omega,by dsimp only;exact hst.symm⟩,by dsimp only;omega,?_⟩;exact wM (λk=>if k=19 then .key 504 else .key k) (aa cB hz)
 ·have hge:s.size<=i:=by
   simp at hc;omega
  have hv:yl s s.size 0 ⟨#[]⟩=some o:=by
   rw[<- g4];cases n with
   |zero=>rfl
   |succ n=>rw[yl,if_neg oM]
  rw[hv]at eq0;rw[eq0];refine wE ?_;refine kO fW cB ?_ ?_
  ·exact⟨iA _,iA _,oM⟩
  refine wZ cB ?_;exact λE=>rfl
def YA(s:ByteArray):vO prog 78 where
 pre:=λW bs as_=>as_=[.val (.string s)]/\s.size<=9223372036854775807
 T:=168
 s:=3
 n:=λ_ _=>(gn s).1.length
 vs:=λ_ _=>Kk (gn s).1
 tm:=λ_ _ x=>.tup [x,.v (.int .i64 (gn s).2.1),.v (.int .i64 ((gn s).2.2:Nat))]
 g:=λ_ _ v=>.tuple #[v,.int .i64 (gn s).2.1,.int .i64 ((gn s).2.2:Nat)]
 tmg:=λ_ _ E x=>rfl
 tmk:=λ_ _ x k hk=>by simpa [SV.keys,aw] using hk
 enters:=call78
 ok:=by
  intro W w bs us as_ hk hu hp;obtain⟨rfl,h1⟩:=hp
  match us,hu with
  |[u],hu=>
   obtain⟨rfl,_⟩:=hu;exact X3 s w h1
noncomputable def akL(s:ByteArray):Env prog:=⟨λ| 78=>some (YA s).spec|_=>none,λ_=>none,λ_ _=>none⟩
theorem adB(s:ByteArray):(akL s).sp 78=some (YA s).spec:=rfl
def sV:aM prog 61 where
 pre:=λW bs as_=>∃ s,as_=[.val (.string s)]/\s.size<=16777216
 res:=λ_ as_=>match as_ with
  |[.val (.string s)]=>.string (dS s)
  |_=>undef
 enters:=call61
 ok:=by
  intro W w bs us as_ hk hu hp;obtain⟨s,rfl,h1⟩:=hp
  match us,hu with
  |[x],hu=>
   obtain⟨rfl,_⟩:=hu;exact LB s h1 w
theorem Fz(W:World)(bs:List Nat)(s:ByteArray):sV.pre W bs [.val (.string s)]=(s.size<=16777216):=
 propext ⟨λ⟨s',h,h2⟩=>by
  cases h
  exact h2,λh=>⟨s,rfl,h⟩⟩
theorem DX(W:World)(s:ByteArray):sV.res W [.val (.string s)]=.string (dS s):=rfl
noncomputable def gG:Env prog:=⟨λ| 61=>some sV.spec|_=>none,λ| _=>none,λ_ _=>none⟩
theorem abJ:gG.sp 61=some sV.spec:=rfl
theorem BS(h:Nat->Option aT)(T:TypeId)(X Y:Operand)(k:IntKind)(a:Int):bE prog gG.eqs h .neq T X Y [.v undef,.v (.int k a)]=R.bad:=by
 simp only[bE,aV,gG];rfl
theorem JN(b:Bool):sN true (.v (.bool b)) (.v undef)=.v (.bool b):=rfl
theorem alN:decide (((0:Nat):Int)=2)=false:=by decide
theorem FO(h:Nat->Option aT)(T:TypeId):iR prog h T [.v undef]=R.bad:=rfl
theorem Tt{t:ByteArray}(h:t.size=1):t=bK [bt t 0]:=by
 have h1:=Gh t 0 oM;have e0:t.extract 0 0=⟨#[]⟩:=by apply ByteArray.ext;apply Array.ext';simp
 have e1:t.extract 0 (0+1)=t:=by rw[show 0+1=t.size by omega];exact zL
 rw[e0,e1]at h1;refine h1.symm.trans ?_;apply ByteArray.ext;apply Array.ext';simp[bK]
theorem ah1(s:ByteArray)(i:Nat):1<=sw s i/\sw s i<=4:=by
 unfold sw;split
 ·split<;>omega
 ·omega
def cG:=(aj @List.replicate_succ.{0} @List.replicate_zero.{0} @an @ab jo jl BH (aj BJ BG gS ca cc b9 cg (aj cf cj cd ck fu fE fj (aj fz fw dc dh cZ db c8 (aj dd xj wP wB v8 Z0 Xd (aj aaK X2 ajm aju Z5 Z8 Zs (aj Y2 Yb aaE aaC VJ @aG @al (aj @ay @ax @gu @js @ln abJ @JN (aj @FO @BS @R.bad.eq_1 @List.getD_nil.{0} @adB @YA.eq_1 @Fz @DX)))))))))
theorem Xl(q:ByteArray)(hq:q.size<=16000000)(w:World):Calls prog 44 #[.string q] w λe w' => e=.returned (.tuple #[.string (jI q).1,.bool (jI q).2])/\ah w [] w' := by
 have wq:IntKind.i64.wrap ((q.size:Int)-1)=(q.size:Int)-1:=ae oM oM;refine af (nt:=111) [.tmp 2,.tmp 3] func44 rfl rfl rfl ?_;refine vR gG cG ?_;refine Wp.seq ?_;refine wR gG (aa cG wq) ?_ ?_
 ·refine⟨λh=>?_,λh=>?_⟩
  ·simp at h;omega
  ·simp at h;omega
 refine wC cG (λhc=>?_) (λhc=>?_)
 ·have h:P0 q=false:=by
   unfold P0;simp only[Bool.or_eq_true,Bool.not_eq_true',decide_eq_true_eq,decide_eq_false_iff_not]at hc;simp only[Bool.and_eq_false_iff,decide_eq_false_iff_not];rcases hc with (hc|hc)|hc
   ·exact .inl (.inl oM)
   ·exact .inl (.inr hc)
   ·exact .inr hc
  have e:jI q=(⟨#[]⟩,false):=by unfold jI;rw[if_neg (by simp[h])]
  rw[e];refine vR gG cG ?_;refine wZ cG ?_;exact λE=>rfl
 have h:P0 q=true:=by
  unfold P0;simp only[Bool.or_eq_false_iff,Bool.not_eq_false',decide_eq_false_iff_not,decide_eq_true_eq]at hc;simp only[Bool.and_eq_true,decide_eq_true_eq];exact⟨⟨oM,hc.1.2⟩,hc.2⟩
 have h2q:2<=q.size:=by
  unfold P0 at h;simp only[Bool.and_eq_true,decide_eq_true_eq]at h;exact h.1.1
 have hin:(oK q).size=q.size-2:=by unfold oK;rw[dD _ _ _ oM];omega
 have eq0:jI q=match Hn (oK q) (oK q).size 0 ⟨#[]⟩ with
  |none=>(⟨#[]⟩,false)
  |some o=>(o,decide (dS o=q)):=by
  unfold jI;rw[if_pos h];cases Hn (oK q) (oK q).size 0 ⟨#[]⟩<;>rfl
 have hex:q.extract 1 ((q.size:Int)-1).toNat=oK q:=by unfold oK;congr 1;omega
 generalize hS:oK q=s at *;refine wK ?_;refine wR gG (bQ cG wq hex) ?_ ?_
 ·omega
 refine vR gG cG ?_;refine Wp.seq ?_;refine vR gG cG ?_;refine Wp.block ?_
 refine Wp.loop (λp:Nat×Nat×ByteArray=>⟨20,bm [(0,.is (.v (.string q))),(4,.is (.v (.string s))),(5,.is (.hd 19)),(6,.is (.v (.int .i64 (p.2.1:Nat))))],aY [(19,.row 5 1 p.2.2.size ((byteCells p.2.2).map .v))]⟩) (λp=>p.2.1<=s.size/\p.2.2.size<=p.2.1/\s.size<=p.2.1+p.1/\Hn s p.1 p.2.1 p.2.2=Hn s s.size 0 ⟨#[]⟩) (λp=>p.1) (s.size,0,⟨#[]⟩) ?_ ⟨Nat.zero_le _,Nat.le_refl _,by show s.size<=0+s.size;omega,rfl⟩ ?_
 ·exact wM (λk=>if k=19 then .nil else .key k) (bQ cG (show (⟨#[]⟩:ByteArray).size=0 from rfl) (show byteCells ⟨#[]⟩=[] from rfl))
 rintro⟨n,i,o⟩ ⟨g1,g2,g3,g4⟩;dsimp only at g1 g2 g3 g4 ⊢;refine Wp.seq ?_;refine vR gG cG ?_;refine wC cG (λhc=>?_) (λhc=>?_)
 ·have hlt:i<s.size:=by
   simp at hc;omega
  obtain⟨n,rfl⟩:∃ n',n=n' + 1:=⟨n-1,oM⟩;have wi:IntKind.i64.wrap ((i:Int)+1)=((i+1:Nat):Int):=wW;obtain⟨p1,p4⟩:=ah1 s i;have hst:=g4;rw[Hn,if_pos hlt]at hst;refine wK ?_;refine Wp.block ?_;refine vR gG cG ?_
  refine aW ⟨60,bm [(0,.is (.v (.string q))),(4,.is (.v (.string s))),(5,.is (.hd 19)),(6,.is (.v (.int .i64 (i:Nat)))),(7,.is (.v (.int .i64 (sw s i:Nat))))],aY [(19,.row 5 1 o.size ((byteCells o).map .v))]⟩ ?_ ?_
  ·skip;refine wR gG cG ?_ ?_
   ·omega
   refine wC cG (λhc=>?_) (λhc=>?_)
   ·have hb:bt s (i:Nat)=92:=by simpa using hc
    clear hc;refine vR gG cG ?_;by_cases hx:i+1<s.size
    ·have e1:decide (((i+1:Nat):Int)<((s.size:Nat):Int))=true:=by simp;omega
     refine wR gG (bQ cG wi e1) ?_ ?_
     ·omega
     refine wC cG (λhc=>?_) (λhc=>?_)
     ·have hb1:bt s ((i+1:Nat):Int)=120:=by simpa using hc
      have e:sw s i=4:=by rw[sw,if_pos hb,if_pos ⟨hx,hb1⟩]
      rw[e];refine vr gG cG ?_;exact wM (λk=>.key k) cG
     ·have hb1:¬ bt s ((i+1:Nat):Int)=120:=by simpa using hc
      have e:sw s i=2:=by rw[sw,if_pos hb,if_neg λg=>hb1 g.2]
      rw[e];refine wK ?_;exact wM (λk=>.key k) cG
    ·have e1:decide (((i+1:Nat):Int)<((s.size:Nat):Int))=false:=by simp;omega
     have e:sw s i=2:=by rw[sw,if_pos hb,if_neg λg=>hx g.1]
     rw[e];refine wR gG (bQ cG wi e1) ?_ ?_
     ·exact nofun
     refine wC cG (λhc=>?_) (λhc=>?_)
     ·exact absurd hc sI
     refine wK ?_;exact wM (λk=>.key k) cG
   ·have hb:¬ bt s (i:Nat)=92:=by simpa using hc
    have e:sw s i=1:=by rw[sw,if_neg hb]
    rw[e];refine wK ?_;exact wM (λk=>.key k) cG
  have wp:IntKind.i64.wrap ((i:Int)+(sw s i:Nat))=((i+sw s i:Nat):Int):=wW;refine Wp.seq ?_;refine vR gG (aa cG wp) ?_;refine wC cG (λhc=>?_) (λhc=>?_)
  ·have h:s.size<i+sw s i:=by
    simp at hc;omega
   rw[if_pos h]at hst;rw[<- hst]at eq0;rw[eq0];refine vR gG cG ?_;refine wZ cG ?_;exact λE=>rfl
  have hle:i+sw s i<=s.size:=by
   simp at hc;omega
  rw[if_neg oM]at hst;clear hc;have hxz:(s.extract i (i+sw s i)).size=sw s i:=by rw[dD _ _ _ hle];omega
  have h34:(⟨#[34]⟩:ByteArray).size=1:=rfl;have hz:(pcQ (s.extract i (i+sw s i))).size<=6:=by
   unfold pcQ;rw[ByteArray.size_append,ByteArray.size_append,hxz,h34];omega
  have hpq:⟨#[34]⟩++s.extract i (i+sw s i)++⟨#[34]⟩=pcQ (s.extract i (i+sw s i)):=rfl;generalize hP:pcQ (s.extract i (i+sw s i))=P at *;refine wK ?_;refine wR (akL P) (bQ cG wp hpq) ?_ ?_
  ·exact⟨oM,by rw[h34,hxz];omega,by rw[ByteArray.size_append,h34,hxz];omega⟩
  have hon:onT P=match (gn P).1 with
   |[t0,_]=>if (gn P).2.1=0/\t0.1=2/\t0.2.2.size=1 then some t0.2.2 else none
   |_=>none:=rfl
  generalize gn P=sc at *;obtain⟨l,e,at_⟩:=sc;dsimp only at hon ⊢;by_cases he:e=0
  ·subst he;by_cases hl2:l.length=2
   ·obtain⟨⟨tk,ta,tt⟩,t1,rfl⟩:∃ t0 t1,l=[t0,t1]:=by
     match l,hl2 with
     |[t0,t1],_=>exact⟨t0,t1,rfl⟩
    obtain⟨uk,ua,ut⟩:=t1;dsimp only at hon;have hrow:Kk [(tk,ta,tt),(uk,ua,ut)]=[.int .i64 tk,.int .i64 (ta:Nat),.string tt,.int .i64 uk,.int .i64 (ua:Nat),.string ut]:=rfl;by_cases hk:tk=2
    ·subst hk;by_cases ht:tt.size=1
     ·have ha:=dY o [bt tt 0] (λc hc=>by rw[List.mem_singleton.1 hc];exact jq tt 0);have hy:(o++tt).size=o.size+1:=by rw[ByteArray.size_append,ht]
      rw[<- Tt ht]at ha;simp only[List.map_cons,List.map_nil]at ha;rw[if_pos ⟨rfl,rfl,ht⟩]at hon;rw[hon]at hst;simp only at hst;refine Wp.seq ?_;refine wR gG (bQ cG hrow ht) ?_ ?_
      ·exact⟨⟨_,rfl⟩,λ_=>by decide⟩
      refine wC cG (λhc=>?_) (λhc=>?_)
      ·exact absurd hc sI
      refine wK ?_;refine wR gG (aa cG ha) ?_ ?_
      ·exact⟨dE,oM,by unfold maxLen;omega,oM⟩
      refine vr gG (aa cG wp) ?_;refine⟨(n,i+sw s i,o++tt),⟨by dsimp only;omega,by dsimp only;omega,by dsimp only;omega,hst⟩,by dsimp only;omega,?_⟩;exact wM (λk=>if k=19 then .key 888 else .key k) (aa cG hy)
     ·have hb:none=Hn s s.size 0 ⟨#[]⟩:=by
       rw[if_neg λg=>ht g.2.2]at hon;rw[hon]at hst;exact hst
      rw[<- hb]at eq0;rw[eq0];refine Wp.seq ?_;refine wR gG (bQ cG hrow ht) ?_ ?_
      ·exact⟨⟨_,rfl⟩,λ_=>by decide⟩
      refine wC cG (λhc=>?_) (λhc=>?_)
      ·skip;refine vR gG cG ?_;refine wZ cG ?_;exact λE=>rfl
      ·exact absurd hc (by simp;omega)
    ·have hb:none=Hn s s.size 0 ⟨#[]⟩:=by
      rw[if_neg λg=>hk g.2.1]at hon;rw[hon]at hst;exact hst
     have ek:decide (tk=2)=false:=decide_eq_false hk;rw[<- hb]at eq0;rw[eq0];refine Wp.seq ?_;refine wR gG (eT cG hrow hk ek) ?_ ?_
     ·exact⟨⟨_,rfl⟩,λ_=>by decide,nofun⟩
     refine wC cG (λhc=>?_) (λhc=>?_)
     ·skip;refine vR gG cG ?_;refine wZ cG ?_;exact λE=>rfl
     ·exact absurd hc sI
   ·have hb:none=Hn s s.size 0 ⟨#[]⟩:=by
     have hn:onT P=none:=by
       rw[hon]
       match l,hl2 with
       |[],_=>rfl
       |[a],_=>rfl
       |[a,b],h=>exact absurd rfl h
       |a::b::c::d,_=>rfl
     rw[hn]at hst;exact hst
    skip;rw[<- hb]at eq0;rw[eq0];rcases l with _|⟨⟨tk,ta,tt⟩,l⟩
    ·skip;refine Wp.seq ?_;refine wR gG (bQ cG alN (show Kk []=[] from rfl)) ?_ ?_
     ·exact⟨⟨_,rfl⟩,nofun,nofun,nofun,nofun,nofun,nofun⟩
     refine wC cG (λhc=>?_) (λhc=>?_)
     ·skip;refine vR gG cG ?_;refine wZ cG ?_;exact λE=>rfl
     ·exact absurd hc sI
    ·have hrow:Kk ((tk,ta,tt)::l)=.int .i64 tk::.int .i64 (ta:Nat)::.string tt::Kk l:=rfl;have el:decide (((l.length+1:Nat):Int)=2)=false:=by
      have:¬ l.length+1=2:=hl2;simp;omega
     refine Wp.seq ?_;refine wR gG (bQ cG el hrow) ?_ ?_
     ·exact⟨⟨_,rfl⟩,nofun,nofun,nofun,nofun,nofun,nofun⟩
     refine wC cG (λhc=>?_) (λhc=>?_)
     ·skip;refine vR gG cG ?_;refine wZ cG ?_;exact λE=>rfl
     ·exact absurd hc sI
  ·have hb:none=Hn s s.size 0 ⟨#[]⟩:=by
    have hn:onT P=none:=by
      rw[hon]
      match l with
      |[]=>rfl
      |[a]=>rfl
      |[a,b]=>exact if_neg λg=>he g.1
      |a::b::c::d=>rfl
    rw[hn]at hst;exact hst
   have ee:decide (e=0)=false:=decide_eq_false he;rw[<- hb]at eq0;rw[eq0];rcases l with _|⟨⟨tk,ta,tt⟩,l⟩
   ·skip;refine Wp.seq ?_;refine wR gG (bQ cG ee (show Kk []=[] from rfl)) ?_ ?_
    ·exact⟨nofun,nofun,nofun,nofun,nofun,nofun,nofun⟩
    refine wC cG (λhc=>?_) (λhc=>?_)
    ·skip;refine vR gG cG ?_;refine wZ cG ?_;exact λE=>rfl
    ·exact absurd hc sI
   ·have hrow:Kk ((tk,ta,tt)::l)=.int .i64 tk::.int .i64 (ta:Nat)::.string tt::Kk l:=rfl;refine Wp.seq ?_;refine wR gG (bQ cG ee hrow) ?_ ?_
    ·exact⟨nofun,nofun,nofun,nofun,nofun,nofun,nofun⟩
    refine wC cG (λhc=>?_) (λhc=>?_)
    ·skip;refine vR gG cG ?_;refine wZ cG ?_;exact λE=>rfl
    ·exact absurd hc sI
 ·have hge:s.size<=i:=by
   simp at hc;omega
  have hv:Hn s s.size 0 ⟨#[]⟩=some o:=by
   rw[<- g4];cases n with
   |zero=>rfl
   |succ n=>rw[Hn,if_neg oM]
  rw[hv]at eq0;rw[eq0];refine wE ?_;refine kO gG cG ?_ ?_
  ·exact⟨iA _,iA _,oM⟩
  refine wZ cG ?_;exact λE=>rfl
end
end Go.Proofs.YtnemkecffmdlnaaGreatDoor
