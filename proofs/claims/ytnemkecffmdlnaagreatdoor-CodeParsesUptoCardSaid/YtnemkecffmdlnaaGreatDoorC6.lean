/-
 Part 6 of the proof (packed).
-/
import Derived.Test.YtnemkecffmdlnaaGreatDoorC5
import Derived.Shelf.Strings.Builder1
import Derived.Shelf.RegionOpenPlain
import Derived.Lib.IndexBytes
set_option linter.unusedSimpArgs false
set_option linter.unusedVariables false
set_option linter.defProp false
set_option maxHeartbeats 16000000
namespace Go.Proofs.YtnemkecffmdlnaaGreatDoor
section
open Go.RowKit Go.LE Go.Proofs.Tryz
set_option maxRecDepth 10000
noncomputable def sw:Env prog:=⟨λ| 221=>some qL.spec|222=>some vq.spec|223=>some sT.spec|224=>some B6.spec|225=>some xm.spec|_=>none,λ| _=>none,λ_ _=>none⟩
theorem ac7:sw.sp 221=some qL.spec:=rfl
theorem ade:sw.sp 222=some vq.spec:=rfl
theorem afS:sw.sp 223=some sT.spec:=rfl
theorem afR:sw.sp 224=some B6.spec:=rfl
theorem afV:sw.sp 225=some xm.spec:=rfl
attribute [local simp] aB
theorem JY(S:CS)(h1:j1 S≠1):∃ (T:CS) (pre:ByteArray),iD S=dm T pre 256++PC/\pre.size<=2/\(T,pre)=(if 128<j1 S then (~~~S,zV) else (S,AX)):=by
 by_cases h:128<j1 S
 ·exact⟨~~~S,zV,by rw[iD,if_neg h1,if_pos h],dE,by rw[if_pos h]⟩
 ·exact⟨S,AX,by rw[iD,if_neg h1,if_neg h],dE,by rw[if_neg h]⟩
def bM:=(aj @List.replicate_succ.{0} @List.replicate_zero.{0} @an @ab jk jn gR (aj ck cf b9 b8 ca cc cg (aj cd fu fh fy ft fB dc (aj df dh db cY c8 pJ qg (aj pB pA vS vX xv vM PY (aj OM @aG @al @ax @aw @wX @wJ (aj @Ld @Kq @F4 @ES @IK @IU @Cu (aj @CX @jt @mO @nH @ll @qx @akh (ml @ajc ac7 ade afS afR afV)))))))))
theorem Uk(S:CS)(w:World)(hg:bB w (Out [])):Calls prog 182 #[cC S] w λe w' => e=.returned (.string (iD S))/\ah w [] w' := by
 refine af (nt:=67) [.tmp 2] func182 rfl rfl rfl ?_;refine vR sw (aa bM @e8) ?_;refine vR sw (aa bM @dW) ?_;refine Wp.seq ?_;refine vR sw bM ?_;refine wC bM (λhc=>?_) (λhc=>?_)
 ·have h1:j1 S=1:=by simp at hc;omega
  have hl:=P4 S 256 0;obtain⟨b0,hb0,hb1⟩:=X3 S h1;have hlt:Af S<256:=by
   have hx:∀ k j,j+k=256->j<=b0->EO S k j<256:=by
    intro k
    induction k with
    |zero=>intro j h1 h2;omega
    | succ k ih=>
     intro j h1 h2;unfold EO;split
     ·omega
     ·rename_i hn;refine ih (j+1) oM ?_;by_cases he:j=b0
      ·rw[he]at hn;exact absurd hb1 hn
      ·omega
   exact hx 256 0 rfl (Nat.zero_le _)
  have e:iD S=lh (Af S) (kQ BI (Af S)):=by rw[iD,if_pos h1]
  rw[e];refine wR sw (aa bM @dW) ?_ ?_
  ·exact⟨b0,hb0,hb1⟩
  refine wR sw bM ?_ ?_
  ·exact⟨⟨oM,oM⟩,hg⟩
  refine wZ bM ?_;exact λE=>rfl
 have h1:j1 S≠1:=by simp at hc;omega
 obtain⟨T,pre,he,hpre,hp⟩:=JY S h1;rw[he];refine wK ?_;refine vR sw bM ?_;refine aV ⟨60,bm [(1,.is (.own 0 0)),(6,.is (.v (.string pre)))],aY [(0,.cells 309 ((l7 T).map .v))]⟩ ?_ ?_
 ·skip;refine vR sw bM ?_;refine wC bM (λhc=>?_) (λhc=>?_)
  ·have h:128<j1 S:=by simp at hc;omega
   rw[if_pos h,Prod.mk.injEq]at hp;obtain⟨rfl,rfl⟩:=hp;refine vR sw bM ?_;refine vr sw (bP bM @dW @e8) ?_;exact wM (λk=>.key k) bM
  ·have h:¬ 128<j1 S:=by simp at hc;omega
   rw[if_neg h,Prod.mk.injEq]at hp;obtain⟨rfl,rfl⟩:=hp;refine wK ?_;exact wM (λk=>.key k) bM
 clear hp;refine Wp.seq ?_;refine vR sw bM ?_;refine Wp.block ?_
 refine Wp.loop (λb:Nat=>⟨70,bm [(1,.is (.own 0 0)),(6,.is (.v (.string (dm T pre b)))),(7,.is (.v (.int .i64 (b:Nat))))],aY [(0,.cells 309 ((l7 T).map .v))]⟩) (λb=>b<=256/\(b=0\/T.getLsbD (b-1)=false\/T.getLsbD b=false)) (λb=>256-b) 0 ?_ ⟨Nat.zero_le _,.inl rfl⟩ ?_
 ·exact wM (λk=>.key k) bM
 rintro b ⟨hb,hinv⟩;refine Wp.seq ?_;refine vR sw bM ?_;refine wC bM (λhc=>?_) (λhc=>?_)
 ·have hlt:b<256:=by
   simp at hc;omega
  have wj:IntKind.i64.wrap ((b:Int)+1)=((b+1:Nat):Int):=wW;have wu:IntKind.u8.wrap (b:Int)=(b:Int):=eQ oM oM;have hsz:=jM T pre b;refine wK ?_;refine Wp.seq (Wp.block ?_);refine Wp.seq ?_;refine wR sw (bP bM wu @dW) ?_ ?_
  ·omega
  refine wC bM (λhc=>?_) (λhc=>?_)
  ·have hTb:T.getLsbD b=false:=by simpa using hc
   have hs:UY T b=false:=by rw[UY,hTb];rfl
   have e:dm T pre (b+1)=dm T pre b:=by rw[dm,if_neg (by rw[hs];simp)]
   refine wE ?_;refine vr sw (aa bM wj) ?_;refine⟨b+1,⟨oM,.inr (.inl hTb)⟩,oM,?_⟩;rw[e];exact wM (λk=>.key k) bM
  have hTb:T.getLsbD b=true:=by simpa using hc
  have hs:UY T b=true:=by
   rw[UY,hTb,Bool.true_and];rcases hinv with h|h|h
   ·subst h;rfl
   ·rw[h];simp
   ·rw[hTb]at h;cases h
  have hbd:=ON T b hlt;have e:dm T pre (b+1)=KY (dm T pre b) b (kx T b):=by rw[dm,if_pos hs]
  have e2:dm T pre (kx T b+1)=dm T pre (b+1):=Lk T pre b hlt hTb _ oM (Nat.le_refl _);have hout:T.getLsbD (kx T b+1)=false:=by
   by_cases h:kx T b<255
   ·exact Xe T b hlt h
   ·exact BitVec.getLsbD_of_ge _ _ oM
  obtain⟨m,hm⟩:∃ m,kx T b=m:=⟨_,rfl⟩;generalize hO:dm T pre b=O at *;rw[hm]at hbd e e2 hout;rw[e]at e2;refine wK ?_;refine vR sw bM ?_
  refine aV ⟨120,bm [(1,.is (.own 0 0)),(6,.is (.v (.string O))),(7,.is (.v (.int .i64 (b:Nat)))),(8,.is (.v (.int .i64 (m:Nat))))],aY [(0,.cells 309 ((l7 T).map .v))]⟩ ?_ ?_
  ·skip;refine Wp.block ?_;refine Wp.loop (λk:Nat=>⟨100,bm [(1,.is (.own 0 0)),(6,.is (.v (.string O))),(7,.is (.v (.int .i64 (b:Nat)))),(8,.is (.v (.int .i64 (k:Nat))))],aY [(0,.cells 309 ((l7 T).map .v))]⟩) (λk=>(b<=k/\k<256)/\kx T b=kx T k) (λk=>256-k) b ?_ ⟨⟨Nat.le_refl _,hlt⟩,rfl⟩ ?_
   ·exact wM (λk=>.key k) bM
   rintro k ⟨⟨hk1,hk⟩,hke⟩;have wk:IntKind.i64.wrap ((k:Int)+1)=((k+1:Nat):Int):=wW;have fin:(k<255->T.getLsbD (k+1)=false)->k=m:=λh=>by
    have:=Dn T k h;omega
   by_cases hbk:k<255
   ·have hd:decide ((k:Int)<255)=true:=by simp;omega
    have wu:IntKind.u8.wrap ((k+1:Nat):Int)=((k+1:Nat):Int):=eQ oM oM;refine Wp.seq ?_;refine wR sw (oA bM wk hd wu @dW) ?_ ?_
    ·omega
    refine wC bM (λhc=>?_) (λhc=>?_)
    ·refine wK ?_;refine Wp.block ?_;refine vr sw (aa bM wk) ?_;refine⟨k+1,⟨⟨oM,oM⟩,by rw[hke];exact C3 T k hbk hc⟩,oM,?_⟩;exact wM (λk=>.key k) bM
    ·refine wE ?_;have hf:=fin λ_=>hc
     subst hf;exact wM (λk=>.key k) bM
   ·have hd:decide ((k:Int)<255)=false:=by simp;omega
    refine Wp.seq ?_;refine wR sw (eS bM wk hd @dW) ?_ ?_
    ·simp
    refine wC bM (λhc=>?_) (λhc=>?_)
    ·exact absurd hc sI
    ·refine wE ?_;have hf:=fin λh=>absurd h hbk
     subst hf;exact wM (λk=>.key k) bM
  have wm:IntKind.u8.wrap ((m:Nat):Int)=((m:Nat):Int):=eQ oM oM;have wm1:IntKind.i64.wrap ((m:Int)+1)=((m+1:Nat):Int):=wW;have hb1:=lQ b (kQ mH b);have hb2:=lQ ((m:Nat):Int) (kQ mH ((m:Nat):Int));rw[PE]at e2;refine wR sw (aa bM wu) ?_ ?_
  ·exact⟨⟨⟨oM,oM⟩,hg⟩,oM⟩
  have hO1:(O++lh b (kQ mH b)).size<=2400:=by rw[ByteArray.size_append];omega
  generalize O++lh b (kQ mH b)=O1 at *;refine aV ⟨150,bm [(1,.is (.own 0 0)),(6,.is (.v (.string (if b+1<m then O1++ow else O1)))),(7,.is (.v (.int .i64 (b:Nat)))),(8,.is (.v (.int .i64 (m:Nat))))],aY [(0,.cells 309 ((l7 T).map .v))]⟩ ?_ ?_
  ·skip;refine vR sw (aa bM wj) ?_;refine wC bM (λhc=>?_) (λhc=>?_)
   ·have h:b+1<m:=by simp at hc;omega
    rw[if_pos h];refine wr sw bM ?_ ?_
    ·show O1.size+1<=_;omega
    exact wM (λk=>.key k) bM
   ·have h:¬ b+1<m:=by simp at hc;omega
    rw[if_neg h];refine wK ?_;exact wM (λk=>.key k) bM
  have hO2:(if b+1<m then O1++ow else O1).size<=2401:=by
   split
   ·rw[ByteArray.size_append];show O1.size+1<=2401;omega
   ·omega
  generalize (if b+1<m then O1++ow else O1)=O2 at *;refine aV ⟨170,bm [(1,.is (.own 0 0)),(6,.is (.v (.string (dm T pre (m+1))))),(8,.is (.v (.int .i64 (m:Nat))))],aY [(0,.cells 309 ((l7 T).map .v))]⟩ ?_ ?_
  ·skip;refine vR sw bM ?_;refine wC bM (λhc=>?_) (λhc=>?_)
   ·have h:b<m:=by simp at hc;omega
    rw[if_pos h]at e2;rw[e2];refine wr sw (aa bM wm) ?_ ?_
    ·exact⟨⟨⟨oM,oM⟩,hg⟩,oM⟩
    exact wM (λk=>.key k) bM
   ·have h:¬ b<m:=by simp at hc;omega
    rw[if_neg h]at e2;rw[e2];refine wK ?_;exact wM (λk=>.key k) bM
  refine vr sw bM ?_;refine vr sw (aa bM wm1) ?_;refine⟨m+1,⟨oM,.inr (.inr hout)⟩,oM,?_⟩;exact wM (λk=>.key k) bM
 ·have hb' : b=256:=by
   simp at hc;omega
  subst hb';have hsz:=jM T pre 256;refine wE ?_;refine wR sw bM ?_ ?_
  ·show (dm T pre 256).size+1<=_;omega
  refine wZ bM ?_;exact λE=>rfl
noncomputable def vp:aM prog 182 where
 pre:=λW bs=>λ| [.val y0]=>(match dec cC y0 with|some S=>bB W (Out bs)|_=>False)|_=>False
 res:=λW=>λ| [.val y0]=>(match dec cC y0 with|some S=>.string (iD S)|_=>undef)|_=>undef
 enters:=call182
 ok:=by
  intro W w bs us as_ hk hu hp;split at hp
  ·rename_i y0;split at hp
   ·rename_i S h0
    match us,hu with
    |[u0],hu=>
     obtain⟨rfl,_⟩:=hu;obtain rfl:=gY h0
     try dsimp only
     try simp only[cN cJ]
     exact Uk S w (hp.dU hk sI)
   ·exact hp.elim
  ·exact hp.elim
theorem MC(W:World)(S:CS):vp.res W [.val (cC S)]=.string (iD S):=by simp only[vp,cN cJ]
theorem M7(W:World)(bs:List Nat)(S:CS):vp.pre W bs [.val (cC S)]=(bB W (Out bs)):=by simp only[vp,cN cJ]
theorem Sj{ar:List Nd}{f:Fm}(h:¬ f.row<0):kr ar f=(ar,f):=by rw[kr,if_neg h]
theorem Mb(ar:List Nd)(f:Fm):(kr (aF ar f).1 (aF ar f).2).1.length<=ar.length+1:=by
 by_cases h1:f.fac<0
 ·rw[aF,if_pos h1];exact sO ar f
 ·by_cases h2:f.row<0
  ·rw[aF,if_neg h1,if_pos h2];exact sO ar _
  ·rw[aF,if_neg h1,if_neg h2,Sj (by show ¬ (ar.length:Int)<0;omega)];simp
theorem y9(ar:List Nd)(f:Fm):(fW ar f).1.length<=ar.length+2:=by
 have h1:=Mb ar f;have h3:=CA (kr (aF ar f).1 (aF ar f).2).1 (kr (aF ar f).1 (aF ar f).2).2;unfold fW;omega
theorem pc(ar:List Nd)(f:Fm):(aP ar f).1.length<=ar.length+3:=by
 have h1:=y9 ar f;unfold aP vO;split
 ·simp only;omega
 ·simp only[List.length_append,List.length_cons,List.length_nil];omega
def kL(s:ByteArray):Except (Int×Int) RT:=iN (bt s) s.size (gU s)
def pN:Except (Int×Int) RT->Nat
 |.ok t=>aI t.expand
 |.error _=>0
def pV:Except (Int×Int) RT->List Value
 |.ok t=>dD (eA 0 t.expand)
 |.error _=>[]
def pG:Except (Int×Int) RT->Value->Value
 |.ok t,v=>.tuple #[.agg #[v,.int .i64 ((aI t.expand-1:Nat):Int)],.int .i64 0,.int .i64 0]
 |.error (c,p),v=>.tuple #[.agg #[v,.int .i64 0],.int .i64 c,.int .i64 p]
theorem BM:dO prog 64 [] []=⟨True,.agg [.v (.slice none 0 0),.v (.int .i64 0)],[],none,[],[]⟩:=kR
theorem Cd:dO prog 232 [] []=⟨True,.agg [.v (.slice none 0 0),.v (.slice none 0 0)],[],none,[],[]⟩:=kR
theorem QU{P:Program}{T e:TypeId}{sz:Nat}{zs:List Value}(κ:Nat)(x:SV)(l:List SV)(hp:partsOf x=l)(h1:P.underlying T=some (.slice e))(h2:ts P e=some sz)(h3:tz P e=some zs)(h4:zs.length=sz)(h5:sz<=16777216)(h6:0<sz)(h7:l.length=sz) :
  bz P κ T 1 [0] [x]=⟨True,.hd (8*κ),[(8*κ,some (.row e sz 1 l))],none,[],[]⟩:=by
 have hf:dH (λi=>some (i*sz,sz)) ((List.replicate 1 zs).flatten.map .v) ([0].zip [x])=some l:=by
  simp only[List.zip_cons_cons,List.zip_nil_right,dH,hp,Nat.zero_mul,Nat.zero_add];rw[if_pos ⟨h7,by simp[h4]⟩];simp[av,h7,<- h4]
 unfold bz;simp only[h1,h2,h3,hf]
 congr 1
 exact eq_true ⟨oM,h4,h6⟩
theorem Wb(κ:Nat)(f:Fm):bz prog κ 230 1 [0] [.v (.agg f.bw.toArray)]=⟨True,.hd (8*κ),[(8*κ,some (.row 234 6 1 (f.bw.map .v)))],none,[],[]⟩:=
 QU (e:=234) (sz:=6) (zs:=[.int .i64 0,.int .i64 0,.int .i64 0,.int .u8 0,.int .i64 0,.int .i64 0]) κ _ _ rfl (by kernel_rfl) (by kernel_rfl) (by kernel_rfl) rfl oM oM rfl
def Jd(s:ByteArray):Except (Int×Int) (List Nd×Fm×List Fm):=rY (bt s) s.size (gU s) (s.size+1) 0 [] (kH (-1)) []
theorem pz{s:ByteArray}{e:Int×Int}(hb:¬ 1048576<(s.size:Int))(h:Jd s=.error e):kL s=.error e:=by
 have h1:=nF (c:=bt s) (N:=s.size) (rd:=gU s) oM;have h2:ky (bt s) s.size (gU s)=.error e:=by
  rw[ky,if_neg hb];have:rY (bt s) s.size (gU s) ((s.size:Int).toNat+1) 0 [] (kH (-1)) []=.error e:=h;rw[this];rfl
 rw[h2]at h1;show iN _ _ _=_;cases h3:iN (bt s) s.size (gU s) with
 |error e' => rw[h3]at h1;simp only at h1;rw[h1]
 |ok t=>rw[h3]at h1;exact h1.elim
theorem I8{s:ByteArray}{ar:List Nd}{f:Fm}{rest:List Fm}(hb:¬ 1048576<(s.size:Int))(h:Jd s=.ok (ar,f,rest)):kL s=match Gr (.ok (ar,f,rest)) with
  |.error e=>.error e
  |.ok _=>kL s:=by
 have h1:=nF (c:=bt s) (N:=s.size) (rd:=gU s) oM;have h2:ky (bt s) s.size (gU s)=Gr (.ok (ar,f,rest)):=by
  rw[ky,if_neg hb];have:rY (bt s) s.size (gU s) ((s.size:Int).toNat+1) 0 [] (kH (-1)) []=.ok (ar,f,rest):=h;rw[this]
 rw[h2]at h1;cases h4:Gr (.ok (ar,f,rest)) with
 |error e=>
  rw[h4]at h1;show iN _ _ _=_;cases h3:iN (bt s) s.size (gU s) with
  |error e' => rw[h3]at h1;simp only at h1;rw[h1]
  |ok t=>rw[h3]at h1;exact h1.elim
 |ok q=>rfl
theorem acq{s:ByteArray}{ar:List Nd}{f:Fm}{rest:List Fm}(h:Jd s=.ok (ar,f,rest)):∃ ts t,AR (aP ar f).1 ts/\0<=(aP ar f).2.alt/\ts[(aP ar f).2.alt.toNat]?=some t:=by
 have hm:∀ o:Int,o=-1->OD [] o none:=λo h=>by show o<0;omega
 have h1:=Gm (c:=bt s) (N:=s.size) (rd:=gU s) (s.size+1) 0 [] [] (kH (-1)) (gP (-1)) [] [] .nil ⟨rfl,hm _ rfl,hm _ rfl,rfl,hm _ rfl,hm _ rfl⟩ trivial;have h2:rY (bt s) s.size (gU s) (s.size+1) 0 [] (kH (-1)) []=.ok (ar,f,rest):=h;rw[h2]at h1
 cases h3:runN (bt s) s.size (gU s) (s.size+1) 0 (gP (-1)) [] with
 |error e=>rw[h3]at h1;exact h1.elim
 |ok p=>
  obtain⟨L,Ls⟩:=p;rw[h3]at h1;obtain⟨ts,ha,hf,hr⟩:=h1;obtain⟨l,a1,f1⟩:=qz ha hf;have h2:=f1.alt;rw[show (rE L).alt=some (jc L) from rfl]at h2;exact⟨_,_,a1,h2.1,h2.2⟩
theorem agi{s:ByteArray}{ar:List Nd}{f:Fm}(hb:¬ 1048576<(s.size:Int))(h:Jd s=.ok (ar,f,[]))(hz:¬ 2000<(oE (aP ar f).1).getD (aP ar f).2.alt.toNat 0) :
  ∃ ts t,kL s=.ok t/\AR (aP ar f).1 ts/\0<=(aP ar f).2.alt/\(aP ar f).2.alt<(aP ar f).1.length/\ts[(aP ar f).2.alt.toNat]?=some t/\aI t.expand<=2000:=by
 have h1:=nF (c:=bt s) (N:=s.size) (rd:=gU s) oM;have h2:ky (bt s) s.size (gU s)=.ok ((aP ar f).1,(aP ar f).2.alt):=by
  rw[ky,if_neg hb];have:rY (bt s) s.size (gU s) ((s.size:Int).toNat+1) 0 [] (kH (-1)) []=.ok (ar,f,[]):=h;rw[this,Gr,if_neg (show ¬ ([]:List Fm)≠[] by simp),if_neg hz]
 rw[h2]at h1;cases h3:iN (bt s) s.size (gU s) with
 |error e' => rw[h3]at h1;exact h1.elim
 | ok t=>
  rw[h3]at h1;obtain⟨ts,a1,a2,a3⟩:=h1;have hlt:(aP ar f).2.alt.toNat<ts.length:=(List.getElem?_eq_some_iff.1 a3).1;have hle:=a1.len;have e1:(oE (aP ar f).1).getD (aP ar f).2.alt.toNat 0=(t.sz:Int):=by
   rw[W9 a1,List.getD_eq_getElem?_getD,List.getElem?_map,a3];rfl
  rw[e1]at hz;exact⟨ts,t,h3,a1,a2,oM,a3,a1.small (List.mem_of_getElem? a3) oM⟩
theorem TW{s:ByteArray}{ar:List Nd}{f:Fm}{rest:List Fm}(hb:¬ 1048576<(s.size:Int))(h:Jd s=.ok (ar,f,rest))(hr:rest≠[]):kL s=.error (21,f.place):=by
 have h1:=I8 hb h;rw[Gr,if_pos hr]at h1;exact h1
theorem VZ{s:ByteArray}{ar:List Nd}{f:Fm}(hb:¬ 1048576<(s.size:Int))(h:Jd s=.ok (ar,f,[]))(hz:2000<(oE (aP ar f).1).getD (aP ar f).2.alt.toNat 0):kL s=.error (24,0):=by
 have h1:=I8 hb h;rw[Gr,if_neg (show ¬ ([]:List Fm)≠[] by simp),if_pos hz]at h1;exact h1
theorem IQ{c:Int->Int}{N i:Int}{e:Int×Int}(h:ot c N i=.error e):e.1≠0:=by
 have hn:∀ i e,iL c N i=.error e->e.1≠0:=λi e h=>by
  unfold iL at h;split at h
  ·cases h;show (20:Int)≠0;omega
  ·cases h
 have hu:∀ m i e,A7 c N m i=.error e->e.1≠0:=λm i e h=>by
  unfold A7 at h;split at h
  ·split at h
   ·exact hn _ _ h
   ·cases h
  ·cases h
 unfold ot at h;cases h1:iL c N (i+1) with
 |error e1=>rw[h1]at h;cases h;exact hn _ _ h1
 | ok p=>
  rw[h1]at h;simp only at h;cases h2:A7 c N p.1 p.2 with
  |error e2=>rw[h2]at h;cases h;exact hu _ _ _ h2
  | ok q=>
   rw[h2]at h;simp only at h;unfold nG at h;split at h
   ·cases h;show (20:Int)≠0;omega
   ·split at h
    ·cases h;show (22:Int)≠0;omega
    ·cases h
theorem ER{c:Int->Int}{N i:Int}(h:c i≠123):UR c N i=.ok (if c i=43 then -2 else 0,if c i=63 then 1 else -1,i+1):=by
 unfold UR;by_cases h1:c i=43
 ·rw[if_pos h1,if_pos h1,if_neg oM]
 ·rw[if_neg h1,if_neg h1];by_cases h2:c i=63
  ·rw[if_pos h2,if_pos h2]
  ·rw[if_neg h2,if_neg h2,if_neg h]
theorem EF{c:Int->Int}{N i:Int}(h:c i=123):UR c N i=ot c N i:=by
 unfold UR;rw[if_neg oM,if_neg oM,if_pos h]
theorem ail{c:Int->Int}{N i m n j:Int}(hi:i<N)(h:UR c N i=.ok (m,n,j)):i<j/\j<=N:=by
 by_cases h1:c i=123
 ·rw[EF h1]at h;exact zL h
 ·rw[ER h1]at h;simp only[Except.ok.injEq,Prod.mk.injEq]at h;omega
theorem DZ(a m n:Int):dO prog 243 [0,2,4,5] [.v (.int .i64 7),.v (.int .i64 a),.v (.int .i64 m),.v (.int .i64 n)]=⟨True,.agg ((⟨7,0,a,0,m,n⟩:Nd).bw.map .v),[],none,[],[]⟩:=by
 kernel_rfl
theorem D3:tE []=[]:=rfl
theorem X6(pre:List Fm)(f:Fm):tE (pre++[f])=tE pre++f.bw:=by simp[tE]
theorem Dm(pre:List Fm)(f:Fm):List.map SV.v (tE (pre++[f]))=List.map SV.v (tE pre)++[.v (.int .i64 f.place),.v (.int .i64 f.alt),.v (.int .i64 f.meet),.v (.int .u8 f.sgn),.v (.int .i64 f.row),.v (.int .i64 f.fac)]:=by rw[X6,eL]
theorem ahf(m n j:Int):ZC (.ok (m,n,j))=.tuple #[.int .i64 m,.int .i64 n,.int .i64 j,.int .i64 0,.int .i64 0]:=rfl
theorem XT(c j:Int):ZC (.error (c,j))=.tuple #[.int .i64 0,.int .i64 0,.int .i64 0,.int .i64 c,.int .i64 j]:=rfl
theorem M8(S:CS):partsOf (.v (nj S))=List.map SV.v (gI S.getLsbD):=rfl
noncomputable def L3(ar:List Nd)(pre:List Fm)(f:Fm):Env prog:=⟨λ| 116=>some DL.spec|118=>some sS.spec|119=>some (MF ar pre f).spec|120=>some (Cx ar pre f).spec|121=>some (stC 121 aF call121 nN ar pre f).spec|122=>some DX.spec|_=>none,λ_=>none,λ_ _=>none⟩
theorem agA(ar:List Nd)(pre:List Fm)(f:Fm):(L3 ar pre f).sp 116=some DL.spec:=rfl
theorem adG(ar:List Nd)(pre:List Fm)(f:Fm):(L3 ar pre f).sp 118=some sS.spec:=rfl
theorem afo(ar:List Nd)(pre:List Fm)(f:Fm):(L3 ar pre f).sp 119=some (MF ar pre f).spec:=rfl
theorem aeE(ar:List Nd)(pre:List Fm)(f:Fm):(L3 ar pre f).sp 120=some (Cx ar pre f).spec:=rfl
theorem acf(ar:List Nd)(pre:List Fm)(f:Fm):(L3 ar pre f).sp 121=some (stC 121 aF call121 nN ar pre f).spec:=rfl
theorem adH(ar:List Nd)(pre:List Fm)(f:Fm):(L3 ar pre f).sp 122=some DX.spec:=rfl
noncomputable def Γ74(ar:List Nd):Env prog:=⟨λ| 123=>some (KX ar).spec|_=>none,λ_=>none,λ_ _=>none⟩
theorem adV(ar:List Nd):(Γ74 ar).sp 123=some (KX ar).spec:=rfl
section
variable (ar:List Nd)(ts:List RT)(ao:Option Addr)(c n:Nat)
noncomputable def Γ75(h:jZ ar ts ao c n):Env prog:=⟨λ| 124=>some (su ar ao c 124 call124 (below n) (UX ts) h).spec|_=>none,λ_=>none,λ_ _=>none⟩
theorem ag6(h:jZ ar ts ao c n):(Γ75 ar ts ao c n h).sp 124=some (su ar ao c 124 call124 (below n) (UX ts) h).spec:=rfl
end
abbrev Be (n:Nat):Prop:=∀ (t:Rx) (need:Int) (w:World),dp t<n->aI t<=4000000->bB w (Out [])->Calls prog 129 #[aH t,.int .i64 need] w λe w' => e=.returned (.string (Gv t need))/\ah w [] w'
noncomputable def Gw(n:Nat)(h:Be n):aM prog 129 where
 pre:=λW bs as_=>∃ (t:Rx) (need:Int),as_=[.val (aH t),.val (.int .i64 need)]/\dp t<n/\aI t<=4000000/\bB W (Out bs)
 res:=λ_ as_=>match as_ with
  |[.val v,.val (.int _ need)]=>(match dec aH v with
   |some t=>.string (Gv t need)
   |_=>undef)
  |_=>undef
 enters:=call129
 ok:=by
  intro W w bs us as_ hk hu hp;obtain⟨t,need,rfl,h1,h2,h3⟩:=hp
  match us,hu with
  |[x,y],hu=>
   obtain⟨rfl,rfl,_⟩:=hu;simp only[cN cO];exact h t need w h1 h2 (h3.dU hk sI)
section
variable (n:Nat)(h:Be n)
theorem RR(W:World)(bs:List Nat)(t:Rx)(need:Int):(Gw n h).pre W bs [.val (aH t),.val (.int .i64 need)]=(dp t<n/\aI t<=4000000/\bB W (Out bs)):=by
 apply propext;constructor
 ·rintro⟨t',need',h1,h2⟩;simp only[List.cons.injEq,AV.val.injEq,Value.int.injEq,true_and,and_true]at h1;obtain⟨h1,rfl⟩:=h1;obtain rfl:=cO _ _ h1;exact h2
 ·exact λh=>⟨t,need,rfl,h⟩
theorem S2(W:World)(t:Rx)(need:Int):(Gw n h).res W [.val (aH t),.val (.int .i64 need)]=.string (Gv t need):=by
 simp only[Gw,cN cO]
noncomputable def km:Env prog:=⟨λ| 129=>some (Gw n h).spec|182=>some vp.spec|_=>none,λ_=>none,λ_ _=>none⟩
theorem abU:(km n h).sp 129=some (Gw n h).spec:=rfl
theorem adA:(km n h).sp 182=some vp.spec:=rfl
end
def bh:=(aj @List.replicate_succ.{0} @List.replicate_zero.{0} @an @ab jk jn gR (aj ck cf b9 b8 ca cc cg (aj cd dc df dh db cY c8 (aj vN wx wL w7 pJ qg pB (aj pA Yz aa0 Xm YX Xk VU (aj Xq ZE U1 Ya Vh aaf ZH (aj V2 X9 VY ZD Oj Qt Qi (aj OC Pr Ox OZ VV Ww ZL (aj YW X7 Zz ZU aaA Xo XG (aj Xw VD Xx Z8 Vy VE Xc (aj VJ Y9 Ve Xy aax WI WA (aj Wa Vx UZ vS vX xv vM (aj ahH ahl aht ahY ahQ ahx ahV (aj ahI @aG @al @ax @aw @MC @M7 (aj @jt @mO @nH @ll @qx @jG @bZ (ml @e8 @dW @abU @adA @RR @S2))))))))))))))))
theorem R8(n:Nat)(h:Be n):Be (n+1):=by
 intro t need w hdp hsz hg;have hbs:=dB t;refine af (nt:=82) [.tmp 4] func129 rfl rfl rfl ?_;refine vR (km n h) bh ?_;refine vR (km n h) bh ?_;refine aV ⟨200,bm [(1,.is (.v (.int .i64 need))),(5,.is (.v (.string (cr t)))),(6,.is (.v (.int .i64 (vc t))))],aY []⟩ ?_ ?_
 ·skip;refine vR (km n h) bh ?_;refine Wp.block ?_;cases t with
  |eps=>
   have hv:aH (.eps)=_:=rfl;unfold aH;refine vR (km n h) bh ?_;refine wC bh (λhc=>?_) (λhc=>?_)
   rotate_left
   ·exact absurd hc sI
   refine wR (km n h) bh ?_ ?_
   ·first|trivial|simp
   refine vr (km n h) bh ?_;exact wM (λk=>.key k) bh
  |cls S=>
   have hv:aH (.cls S)=_:=rfl;unfold aH;refine vR (km n h) bh ?_;refine wC bh (λhc=>?_) (λhc=>?_)
   ·exact absurd hc sI
   refine vR (km n h) bh ?_;refine wC bh (λhc=>?_) (λhc=>?_)
   rotate_left
   ·exact absurd hc sI
   refine wR (km n h) bh ?_ ?_
   ·first|trivial|simp
   refine wr (km n h) bh ?_ ?_
   ·exact hg
   exact wM (λk=>.key k) bh
  |alt a b=>
   have hd:dp a+dp b+1<n+1:=hdp;have hz:aI a+aI b+1<=4000000:=hsz;have s1:=cV a 0;have s2:=cV b 1;have hv:aH (.alt a b)=_:=rfl;unfold aH;refine vR (km n h) bh ?_;refine wC bh (λhc=>?_) (λhc=>?_)
   ·exact absurd hc sI
   refine vR (km n h) bh ?_;refine wC bh (λhc=>?_) (λhc=>?_)
   ·exact absurd hc sI
   refine vR (km n h) bh ?_;refine wC bh (λhc=>?_) (λhc=>?_)
   rotate_left
   ·exact absurd hc sI
   refine wR (km n h) bh ?_ ?_
   ·rw[Bool.and_eq_true];exact⟨bZ a,bZ b⟩
   refine vZ (km n h) bh ?_ ?_
   ·exact⟨⟨oM,oM,hg⟩,by show _+1<=_;omega,⟨oM,oM,hg⟩,by rw[ByteArray.size_append];show _+1+_<=_;omega⟩
   exact wM (λk=>.key k) bh
  |and a b=>
   have hd:dp a+dp b+1<n+1:=hdp;have hz:aI a+aI b+1<=4000000:=hsz;have s1:=cV a 1;have s2:=cV b 2;have hv:aH (.and a b)=_:=rfl;unfold aH;refine vR (km n h) bh ?_;refine wC bh (λhc=>?_) (λhc=>?_)
   ·exact absurd hc sI
   refine vR (km n h) bh ?_;refine wC bh (λhc=>?_) (λhc=>?_)
   ·exact absurd hc sI
   refine vR (km n h) bh ?_;refine wC bh (λhc=>?_) (λhc=>?_)
   ·exact absurd hc sI
   refine vR (km n h) bh ?_;refine wC bh (λhc=>?_) (λhc=>?_)
   rotate_left
   ·exact absurd hc sI
   refine wR (km n h) bh ?_ ?_
   ·rw[Bool.and_eq_true];exact⟨bZ a,bZ b⟩
   refine vZ (km n h) bh ?_ ?_
   ·exact⟨⟨oM,oM,hg⟩,by show _+1<=_;omega,⟨oM,oM,hg⟩,by rw[ByteArray.size_append];show _+1+_<=_;omega⟩
   exact wM (λk=>.key k) bh
  |minus a b=>
   have hd:dp a+dp b+1<n+1:=hdp;have hz:aI a+aI b+1<=4000000:=hsz;have s1:=cV a 1;have s2:=cV b 2;have hv:aH (.minus a b)=_:=rfl;unfold aH;refine vR (km n h) bh ?_;refine wC bh (λhc=>?_) (λhc=>?_)
   ·exact absurd hc sI
   refine vR (km n h) bh ?_;refine wC bh (λhc=>?_) (λhc=>?_)
   ·exact absurd hc sI
   refine vR (km n h) bh ?_;refine wC bh (λhc=>?_) (λhc=>?_)
   ·exact absurd hc sI
   refine vR (km n h) bh ?_;refine wC bh (λhc=>?_) (λhc=>?_)
   ·exact absurd hc sI
   refine vR (km n h) bh ?_;refine wC bh (λhc=>?_) (λhc=>?_)
   rotate_left
   ·exact absurd hc sI
   refine wR (km n h) bh ?_ ?_
   ·rw[Bool.and_eq_true];exact⟨bZ a,bZ b⟩
   refine vZ (km n h) bh ?_ ?_
   ·exact⟨⟨oM,oM,hg⟩,by show _+1<=_;omega,⟨oM,oM,hg⟩,by rw[ByteArray.size_append];show _+1+_<=_;omega⟩
   exact wM (λk=>.key k) bh
  |cat a b=>
   have hd:dp a+dp b+1<n+1:=hdp;have hz:aI a+aI b+1<=4000000:=hsz;have s1:=cV a 2;have s2:=cV b 3;have hv:aH (.cat a b)=_:=rfl;unfold aH;refine vR (km n h) bh ?_;refine wC bh (λhc=>?_) (λhc=>?_)
   ·exact absurd hc sI
   refine vR (km n h) bh ?_;refine wC bh (λhc=>?_) (λhc=>?_)
   ·exact absurd hc sI
   refine vR (km n h) bh ?_;refine wC bh (λhc=>?_) (λhc=>?_)
   ·exact absurd hc sI
   refine vR (km n h) bh ?_;refine wC bh (λhc=>?_) (λhc=>?_)
   ·exact absurd hc sI
   refine vR (km n h) bh ?_;refine wC bh (λhc=>?_) (λhc=>?_)
   ·exact absurd hc sI
   refine vR (km n h) bh ?_;refine wC bh (λhc=>?_) (λhc=>?_)
   rotate_left
   ·exact absurd hc sI
   refine wR (km n h) bh ?_ ?_
   ·rw[Bool.and_eq_true];exact⟨bZ a,bZ b⟩
   refine vZ (km n h) bh ?_ ?_
   ·exact⟨⟨oM,oM,hg⟩,⟨oM,oM,hg⟩,oM⟩
   exact wM (λk=>.key k) bh
  |star a=>
   have hd:dp a+1<n+1:=hdp;have hz:aI a+1<=4000000:=hsz;have s1:=cV a 3;have hv:aH (.star a)=_:=rfl;unfold aH;refine vR (km n h) bh ?_;refine wC bh (λhc=>?_) (λhc=>?_)
   ·exact absurd hc sI
   refine vR (km n h) bh ?_;refine wC bh (λhc=>?_) (λhc=>?_)
   ·exact absurd hc sI
   refine vR (km n h) bh ?_;refine wC bh (λhc=>?_) (λhc=>?_)
   ·exact absurd hc sI
   refine vR (km n h) bh ?_;refine wC bh (λhc=>?_) (λhc=>?_)
   ·exact absurd hc sI
   refine vR (km n h) bh ?_;refine wC bh (λhc=>?_) (λhc=>?_)
   ·exact absurd hc sI
   refine vR (km n h) bh ?_;refine wC bh (λhc=>?_) (λhc=>?_)
   ·exact absurd hc sI
   refine vR (km n h) bh ?_;refine wC bh (λhc=>?_) (λhc=>?_)
   rotate_left
   ·exact absurd hc sI
   refine wR (km n h) bh ?_ ?_
   ·exact bZ a
   refine wr (km n h) bh ?_ ?_
   ·exact⟨⟨oM,oM,hg⟩,by show _+1<=_;omega⟩
   exact wM (λk=>.key k) bh
 refine Wp.seq ?_;refine vR (km n h) bh ?_;refine wC bh (λhc=>?_) (λhc=>?_)
 ·have hlt:vc t<need:=by simpa using hc
  have e:Gv t need=lpB++cr t++rpB:=by rw[Gv,qv,if_pos hlt]
  rw[e];refine wR (km n h) bh ?_ ?_
  ·refine⟨?_,?_⟩
   ·show 1+_<=_;omega
   ·rw[ByteArray.size_append];show 1+_+1<=_;omega
  refine wZ bh ?_;exact λE=>rfl
 ·have hlt:¬ vc t<need:=by simpa using hc
  have e:Gv t need=cr t:=by rw[Gv,qv,if_neg hlt]
  rw[e];refine wK ?_;refine vR (km n h) bh ?_;refine wZ bh ?_;exact λE=>rfl
theorem yL:∀ n,Be n
 |0=>λt _ _ h=>absurd h (Nat.not_lt_zero _)
 |n+1=>R8 n (yL n)
theorem XB(t:Rx):Gv t 0=cr t:=by
 rw[Gv,qv,if_neg];cases t<;>simp[vc]
theorem Nb(t:Rx)(w:World)(hsz:aI t<=4000000)(hg:bB w (Out [])):Calls prog 72 #[aH t] w λe w' => e=.returned (.string (cr t))/\ah w [] w' := by
 refine af (nt:=5) [.tmp 2] func72 rfl rfl rfl ?_;refine vR (km (dp t+1) (yL _)) bh ?_;refine wR (km (dp t+1) (yL _)) (aa bh @XB) ?_ ?_
 ·exact⟨oM,hsz,hg⟩
 refine wZ bh ?_;exact λE=>rfl
noncomputable def mw:aM prog 72 where
 pre:=λW bs=>λ| [.val y0]=>(match dec aH y0 with|some t=>aI t<=4000000/\bB W (Out bs)|_=>False)|_=>False
 res:=λW=>λ| [.val y0]=>(match dec aH y0 with|some t=>.string (cr t)|_=>undef)|_=>undef
 enters:=call72
 ok:=by
  intro W w bs us as_ hk hu hp;split at hp
  ·rename_i y0;split at hp
   ·rename_i t h0
    match us,hu with
    |[u0],hu=>
     obtain⟨rfl,_⟩:=hu;obtain rfl:=gY h0
     try dsimp only
     try simp only[cN cO]
     exact Nb t w hp.1 (hp.2.dU hk sI)
   ·exact hp.elim
  ·exact hp.elim
theorem Ka(W:World)(t:Rx):mw.res W [.val (aH t)]=.string (cr t):=by simp only[mw,cN cO]
theorem G0(W:World)(bs:List Nat)(t:Rx):mw.pre W bs [.val (aH t)]=(aI t<=4000000/\bB W (Out bs)):=by simp only[mw,cN cO]
theorem yP{s:ByteArray}{t:RT}(h:kL s=.ok t):aI t.expand<=2000:=by
 have hd:iN (bt s) s.size (gU s)=.ok t:=h;have h1:=nF (c:=bt s) (N:=s.size) (rd:=gU s) oM;have hz:t.sz<=2000:=by
  unfold iN at hd;split at hd
  ·cases hd
  ·unfold qm at hd;split at hd
   ·cases hd
   ·split at hd
    ·cases hd
    ·split at hd
     ·cases hd
     ·simp only[Except.ok.injEq]at hd;rename_i hn;rw[<- hd];omega
 rw[hd]at h1;cases h2:ky (bt s) s.size (gU s) with
 |error e=>rw[h2]at h1;exact h1.elim
 |ok q=>
  rw[h2]at h1;obtain⟨ts,a1,a2,a3⟩:=h1;exact a1.small (List.mem_of_getElem? a3) hz
theorem Dl(s:ByteArray):rB s=alV (kL s):=Sd (w8 s) oM
def uq(s:ByteArray):Bool:=match kL s with
 |.ok t=>decide (cr t.expand=s)
 |.error _=>false
def ou(n m:Int):Bool:=decide (0<=n)&&decide (n<m)
def acP:=(aj @List.replicate_succ.{0} @List.replicate_zero.{0} @an @ab jk jn gR (aj ck cf b9 b8 ca cc cg (aj cd dc df dh db cY c8 (aj rD sq rV rQ GS HG Hl (aj HX yW yM zA yI Bv Ad (aj yG Bj zK BZ Cf Ce Cb (aj Cg Ck B9 Cj rn G4 Ib (ml H9 GW @aG @al @ax @aw))))))))
theorem Kn(n m:Int)(w:World):Calls prog 31 #[.int .i64 n,.int .i64 m] w λe w' => e=.returned (.bool (ou n m))/\ah w [] w' := by
 refine af (nt:=12) [.tmp 4] func31 rfl rfl rfl ?_;refine vR Γ0 acP ?_;refine vR Γ0 acP ?_;refine wZ acP ?_;exact λE=>rfl
def q5:aM prog 31 where
 pre:=λW bs=>λ| [.val (.int .i64 n),.val (.int .i64 m)]=>True|_=>False
 res:=λW=>λ| [.val (.int .i64 n),.val (.int .i64 m)]=>.bool (ou n m)|_=>undef
 enters:=call31
 ok:=by
  intro W w bs us as_ hk hu hp;split at hp
  ·rename_i n m
   match us,hu with
   |[u0,u1],hu=>
    obtain⟨rfl,rfl,_⟩:=hu;exact Kn n m w
  ·exact hp.elim
theorem o9(W:World)(n:Int)(m:Int):q5.res W [.val (.int .i64 n),.val (.int .i64 m)]=.bool (ou n m):=rfl
theorem po(W:World)(bs:List Nat)(n:Int)(m:Int):q5.pre W bs [.val (.int .i64 n),.val (.int .i64 m)]=(True):=rfl
def dj(op:Int):ByteArray×ByteArray:=
 if op=0 then (⟨#[104,97,108,116]⟩,⟨#[]⟩)
 else if op=1 then (⟨#[99,97,108,108]⟩,⟨#[97]⟩)
 else if op=2 then (⟨#[114,101,116]⟩,⟨#[]⟩)
 else if op=3 then (⟨#[106,117,109,112]⟩,⟨#[97]⟩)
 else if op=4 then (⟨#[101,109,105,116]⟩,⟨#[107]⟩)
 else if op=5 then (⟨#[100,114,111,112]⟩,⟨#[107]⟩)
 else if op=6 then (⟨#[116,101,120,116]⟩,⟨#[120]⟩)
 else if op=7 then (⟨#[112,117,115,104]⟩,⟨#[107,120]⟩)
 else if op=8 then (⟨#[100,117,112]⟩,⟨#[107]⟩)
 else if op=9 then (⟨#[102,108,105,112]⟩,⟨#[107]⟩)
 else if op=10 then (⟨#[109,111,118,101]⟩,⟨#[107]⟩)
 else if op=11 then (⟨#[111,112,101,110]⟩,⟨#[]⟩)
 else if op=12 then (⟨#[116,97,107,101]⟩,⟨#[107]⟩)
 else if op=13 then (⟨#[108,111,119,101,114]⟩,⟨#[107]⟩)
 else if op=14 then (⟨#[99,117,116]⟩,⟨#[107,116,116]⟩)
 else if op=15 then (⟨#[105,110]⟩,⟨#[107,116,97]⟩)
 else if op=16 then (⟨#[99,104,117,110,107]⟩,⟨#[107,116]⟩)
 else if op=17 then (⟨#[109,111,114,101]⟩,⟨#[97]⟩)
 else if op=18 then (⟨#[122,105,112]⟩,⟨#[]⟩)
 else if op=19 then (⟨#[97,108,105,103,110]⟩,⟨#[97,97]⟩)
 else if op=20 then (⟨#[112,108,97,110]⟩,⟨#[97,97]⟩)
 else (⟨#[]⟩,⟨#[]⟩)
def bf:=(bP acP @o9 @po)
theorem aam(op:Int)(w:World):Calls prog 70 #[.int .i64 op] w λe w' => e=.returned (.tuple #[.string (dj op).1,.string (dj op).2])/\ah w [] w' := by
 refine af (nt:=47) [.tmp 2,.tmp 3] func70 rfl rfl rfl ?_;refine vR Γ0 bf ?_;refine Wp.seq ?_;refine vR Γ0 bf ?_;refine Wp.block ?_;unfold dj;refine vR Γ0 bf ?_;refine wC bf (λhc=>?_) (λhc=>?_)
 ·have h:op=0:=by simpa using hc
  rw[if_pos h];refine vR Γ0 bf ?_;refine wZ bf ?_;exact λE=>rfl
 rw[if_neg (show ¬ op=0 by simpa using hc)];clear hc;refine vR Γ0 bf ?_;refine wC bf (λhc=>?_) (λhc=>?_)
 ·have h:op=1:=by simpa using hc
  rw[if_pos h];refine vR Γ0 bf ?_;refine wZ bf ?_;exact λE=>rfl
 rw[if_neg (show ¬ op=1 by simpa using hc)];clear hc;refine vR Γ0 bf ?_;refine wC bf (λhc=>?_) (λhc=>?_)
 ·have h:op=2:=by simpa using hc
  rw[if_pos h];refine vR Γ0 bf ?_;refine wZ bf ?_;exact λE=>rfl
 rw[if_neg (show ¬ op=2 by simpa using hc)];clear hc;refine vR Γ0 bf ?_;refine wC bf (λhc=>?_) (λhc=>?_)
 ·have h:op=3:=by simpa using hc
  rw[if_pos h];refine vR Γ0 bf ?_;refine wZ bf ?_;exact λE=>rfl
 rw[if_neg (show ¬ op=3 by simpa using hc)];clear hc;refine vR Γ0 bf ?_;refine wC bf (λhc=>?_) (λhc=>?_)
 ·have h:op=4:=by simpa using hc
  rw[if_pos h];refine vR Γ0 bf ?_;refine wZ bf ?_;exact λE=>rfl
 rw[if_neg (show ¬ op=4 by simpa using hc)];clear hc;refine vR Γ0 bf ?_;refine wC bf (λhc=>?_) (λhc=>?_)
 ·have h:op=5:=by simpa using hc
  rw[if_pos h];refine vR Γ0 bf ?_;refine wZ bf ?_;exact λE=>rfl
 rw[if_neg (show ¬ op=5 by simpa using hc)];clear hc;refine vR Γ0 bf ?_;refine wC bf (λhc=>?_) (λhc=>?_)
 ·have h:op=6:=by simpa using hc
  rw[if_pos h];refine vR Γ0 bf ?_;refine wZ bf ?_;exact λE=>rfl
 rw[if_neg (show ¬ op=6 by simpa using hc)];clear hc;refine vR Γ0 bf ?_;refine wC bf (λhc=>?_) (λhc=>?_)
 ·have h:op=7:=by simpa using hc
  rw[if_pos h];refine vR Γ0 bf ?_;refine wZ bf ?_;exact λE=>rfl
 rw[if_neg (show ¬ op=7 by simpa using hc)];clear hc;refine vR Γ0 bf ?_;refine wC bf (λhc=>?_) (λhc=>?_)
 ·have h:op=8:=by simpa using hc
  rw[if_pos h];refine vR Γ0 bf ?_;refine wZ bf ?_;exact λE=>rfl
 rw[if_neg (show ¬ op=8 by simpa using hc)];clear hc;refine vR Γ0 bf ?_;refine wC bf (λhc=>?_) (λhc=>?_)
 ·have h:op=9:=by simpa using hc
  rw[if_pos h];refine vR Γ0 bf ?_;refine wZ bf ?_;exact λE=>rfl
 rw[if_neg (show ¬ op=9 by simpa using hc)];clear hc;refine vR Γ0 bf ?_;refine wC bf (λhc=>?_) (λhc=>?_)
 ·have h:op=10:=by simpa using hc
  rw[if_pos h];refine vR Γ0 bf ?_;refine wZ bf ?_;exact λE=>rfl
 rw[if_neg (show ¬ op=10 by simpa using hc)];clear hc;refine vR Γ0 bf ?_;refine wC bf (λhc=>?_) (λhc=>?_)
 ·have h:op=11:=by simpa using hc
  rw[if_pos h];refine vR Γ0 bf ?_;refine wZ bf ?_;exact λE=>rfl
 rw[if_neg (show ¬ op=11 by simpa using hc)];clear hc;refine vR Γ0 bf ?_;refine wC bf (λhc=>?_) (λhc=>?_)
 ·have h:op=12:=by simpa using hc
  rw[if_pos h];refine vR Γ0 bf ?_;refine wZ bf ?_;exact λE=>rfl
 rw[if_neg (show ¬ op=12 by simpa using hc)];clear hc;refine vR Γ0 bf ?_;refine wC bf (λhc=>?_) (λhc=>?_)
 ·have h:op=13:=by simpa using hc
  rw[if_pos h];refine vR Γ0 bf ?_;refine wZ bf ?_;exact λE=>rfl
 rw[if_neg (show ¬ op=13 by simpa using hc)];clear hc;refine vR Γ0 bf ?_;refine wC bf (λhc=>?_) (λhc=>?_)
 ·have h:op=14:=by simpa using hc
  rw[if_pos h];refine vR Γ0 bf ?_;refine wZ bf ?_;exact λE=>rfl
 rw[if_neg (show ¬ op=14 by simpa using hc)];clear hc;refine vR Γ0 bf ?_;refine wC bf (λhc=>?_) (λhc=>?_)
 ·have h:op=15:=by simpa using hc
  rw[if_pos h];refine vR Γ0 bf ?_;refine wZ bf ?_;exact λE=>rfl
 rw[if_neg (show ¬ op=15 by simpa using hc)];clear hc;refine vR Γ0 bf ?_;refine wC bf (λhc=>?_) (λhc=>?_)
 ·have h:op=16:=by simpa using hc
  rw[if_pos h];refine vR Γ0 bf ?_;refine wZ bf ?_;exact λE=>rfl
 rw[if_neg (show ¬ op=16 by simpa using hc)];clear hc;refine vR Γ0 bf ?_;refine wC bf (λhc=>?_) (λhc=>?_)
 ·have h:op=17:=by simpa using hc
  rw[if_pos h];refine vR Γ0 bf ?_;refine wZ bf ?_;exact λE=>rfl
 rw[if_neg (show ¬ op=17 by simpa using hc)];clear hc;refine vR Γ0 bf ?_;refine wC bf (λhc=>?_) (λhc=>?_)
 ·have h:op=18:=by simpa using hc
  rw[if_pos h];refine vR Γ0 bf ?_;refine wZ bf ?_;exact λE=>rfl
 rw[if_neg (show ¬ op=18 by simpa using hc)];clear hc;refine vR Γ0 bf ?_;refine wC bf (λhc=>?_) (λhc=>?_)
 ·have h:op=19:=by simpa using hc
  rw[if_pos h];refine vR Γ0 bf ?_;refine wZ bf ?_;exact λE=>rfl
 rw[if_neg (show ¬ op=19 by simpa using hc)];clear hc;refine vR Γ0 bf ?_;refine wC bf (λhc=>?_) (λhc=>?_)
 ·have h:op=20:=by simpa using hc
  rw[if_pos h];refine vR Γ0 bf ?_;refine wZ bf ?_;exact λE=>rfl
 rw[if_neg (show ¬ op=20 by simpa using hc)];clear hc;refine wK ?_;refine vR Γ0 bf ?_;refine wZ bf ?_;exact λE=>rfl
def DC:aM prog 70 where
 pre:=λW bs=>λ| [.val (.int .i64 op)]=>True|_=>False
 res:=λW=>λ| [.val (.int .i64 op)]=>.tuple #[.string (dj op).1,.string (dj op).2]|_=>undef
 enters:=call70
 ok:=by
  intro W w bs us as_ hk hu hp;split at hp
  ·rename_i op
   match us,hu with
   |[u0],hu=>
    obtain⟨rfl,_⟩:=hu;exact aam op w
  ·exact hp.elim
theorem ve(W:World)(op:Int):DC.res W [.val (.int .i64 op)]=.tuple #[.string (dj op).1,.string (dj op).2]:=rfl
theorem vG(W:World)(bs:List Nat)(op:Int):DC.pre W bs [.val (.int .i64 op)]=(True):=rfl
abbrev pgV (a1 a2 a3:Option Addr)(n1 n2 n3 c1 c2 c3:Nat)(s v:Int):Value:=.agg #[.slice a1 n1 c1,.slice a2 n2 c2,.slice a3 n3 c3,.int .i64 s,.int .i64 v]
def sZ(n1 n2 n3:Nat)(u n:Int):Bool:=if u=1 then ou n n3 else if u=2 then ou n n1 else if u=3 then ou n n2 else decide (n=0)
def kj:=(bP bf @ve @vG)
theorem ZG(a1 a2 a3:Option Addr)(n1 n2 n3 c1 c2 c3:Nat)(s v u n:Int)(w:World):Calls prog 73 #[pgV a1 a2 a3 n1 n2 n3 c1 c2 c3 s v,.int .i64 u,.int .i64 n] w λe w' => e=.returned (.bool (sZ n1 n2 n3 u n))/\ah w [] w' := by
 refine af (nt:=33) [.tmp 6] func73 rfl rfl rfl ?_;refine vR Γ0 kj ?_;refine vR Γ0 kj ?_;by_cases hu:u=1\/u=2\/u=3
 ·obtain⟨m,hm⟩:∃ m:Nat,m=if u=1 then n3 else if u=2 then n1 else n2:=⟨_,rfl⟩;have e:sZ n1 n2 n3 u n=ou n m:=by
   rw[sZ];rcases hu with h|h|h
   ·rw[hm,if_pos h,if_pos h]
   ·rw[hm,if_neg oM,if_pos h,if_neg oM,if_pos h]
   ·rw[hm,if_neg oM,if_neg oM,if_pos h,if_neg oM,if_neg oM]
  rw[e];refine aV ⟨60,bm [(2,.is (.v (.int .i64 n))),(7,.is (.v (.int .i64 (m:Nat))))],aY []⟩ ?_ ?_
  ·skip;refine vR Γ0 kj ?_;refine Wp.block ?_;refine vR Γ0 kj ?_;refine wC kj (λhc=>?_) (λhc=>?_)
   ·have h:u=1:=by simpa using hc
    rw[if_pos h]at hm;subst hm;refine vr Γ0 kj ?_;exact wM (λk=>.key k) kj
   have n1' : ¬ u=1:=by simpa using hc
   rw[if_neg n1']at hm;refine vR Γ0 kj ?_;refine wC kj (λhc=>?_) (λhc=>?_)
   ·have h:u=2:=by simpa using hc
    rw[if_pos h]at hm;subst hm;refine vr Γ0 kj ?_;exact wM (λk=>.key k) kj
   have n2' : ¬ u=2:=by simpa using hc
   rw[if_neg n2']at hm;refine vR Γ0 kj ?_;refine wC kj (λhc=>?_) (λhc=>?_)
   ·subst hm;refine vr Γ0 kj ?_;exact wM (λk=>.key k) kj
   ·exact absurd (by omega:u=3) (by simpa using hc)
  refine vR Γ0 kj ?_;refine wZ kj ?_;exact λE=>rfl
 ·have e:sZ n1 n2 n3 u n=decide (n=0):=by rw[sZ,if_neg oM,if_neg oM,if_neg oM]
  rw[e];refine Wp.seq ?_;refine vR Γ0 kj ?_;refine Wp.block ?_;refine vR Γ0 kj ?_;refine wC kj (λhc=>?_) (λhc=>?_)
  ·exact absurd (.inl (by simpa using hc)) hu
  refine vR Γ0 kj ?_;refine wC kj (λhc=>?_) (λhc=>?_)
  ·exact absurd (.inr (.inl (by simpa using hc))) hu
  refine vR Γ0 kj ?_;refine wC kj (λhc=>?_) (λhc=>?_)
  ·exact absurd (.inr (.inr (by simpa using hc))) hu
  refine vR Γ0 kj ?_;refine wZ kj ?_;exact λE=>rfl
def Cv:aM prog 73 where
 pre:=λW bs as_=>∃ (a1 a2 a3:Option Addr) (n1 n2 n3 c1 c2 c3:Nat) (s v u n:Int),as_=[.val (pgV a1 a2 a3 n1 n2 n3 c1 c2 c3 s v),.val (.int .i64 u),.val (.int .i64 n)]
 res:=λ_ as_=>match as_ with
  |[.val (.agg arr),.val (.int _ u),.val (.int _ n)]=>(match arr.toList with
   |[.slice _ n1 _,.slice _ n2 _,.slice _ n3 _,_,_]=>.bool (sZ n1 n2 n3 u n)
   |_=>undef)
  |_=>undef
 enters:=call73
 ok:=by
  intro W w bs us as_ hk hu hp;obtain⟨a1,a2,a3,n1,n2,n3,c1,c2,c3,s,v,u,n,rfl⟩:=hp
  match us,hu with
  |[x,y,z],hu=>
   obtain⟨rfl,rfl,rfl,_⟩:=hu;exact ZG a1 a2 a3 n1 n2 n3 c1 c2 c3 s v u n w
section
variable (W:World)(bs:List Nat)(a1 a2 a3:Option Addr)(n1 n2 n3 c1 c2 c3:Nat)(s v u n:Int)
theorem DF:Cv.pre W bs [.val (.agg #[.slice a1 n1 c1,.slice a2 n2 c2,.slice a3 n3 c3,.int .i64 s,.int .i64 v]),.val (.int .i64 u),.val (.int .i64 n)]=True:=eq_true ⟨a1,a2,a3,n1,n2,n3,c1,c2,c3,s,v,u,n,rfl⟩
theorem DG:Cv.res W [.val (.agg #[.slice a1 n1 c1,.slice a2 n2 c2,.slice a3 n3 c3,.int .i64 s,.int .i64 v]),.val (.int .i64 u),.val (.int .i64 n)]=.bool (sZ n1 n2 n3 u n):=rfl
end
def abr:List (ByteArray×Bool×Int×Int):=[(⟨#[104,97,108,116]⟩,false,0,0),(⟨#[99,97,108,108]⟩,false,1,0),(⟨#[114,101,116]⟩,false,0,0),(⟨#[106,117,109,112]⟩,false,1,0),(⟨#[101,109,105,116]⟩,true,0,0),(⟨#[100,114,111,112]⟩,true,0,0),(⟨#[116,101,120,116]⟩,false,3,0),(⟨#[112,117,115,104]⟩,true,3,0),(⟨#[100,117,112]⟩,true,0,0),(⟨#[102,108,105,112]⟩,true,0,0),(⟨#[109,111,118,101]⟩,true,0,0),(⟨#[111,112,101,110]⟩,false,0,0),(⟨#[116,97,107,101]⟩,true,0,0),(⟨#[108,111,119,101,114]⟩,true,0,0),(⟨#[99,117,116]⟩,true,2,2),(⟨#[105,110]⟩,true,2,1),(⟨#[99,104,117,110,107]⟩,true,2,0),(⟨#[109,111,114,101]⟩,false,1,0),(⟨#[122,105,112]⟩,false,0,0),(⟨#[97,108,105,103,110]⟩,false,1,1),(⟨#[112,108,97,110]⟩,false,1,1)]
def gn(n:Nat):ByteArray×Bool×Int×Int:=abr.getD n (⟨#[]⟩,false,0,0)
def fR(W:World)(S:Nat->Prop):Prop:=S 0/\∀ n<21,W.cell? ⟨0,n*4,none⟩=some (.string (gn n).1)/\W.cell? ⟨0,n*4+1,none⟩=some (.bool (gn n).2.1)/\W.cell? ⟨0,n*4+2,none⟩=some (.int .i64 (gn n).2.2.1)/\W.cell? ⟨0,n*4+3,none⟩=some (.int .i64 (gn n).2.2.2)
theorem fR.mono{W W' : World}{S S' : Nat->Prop}(h:fR W S)(hs:cT W S W' S'):fR W' S' := by
 obtain⟨h0,h1⟩:=h;have g:∀ o v,W.cell? ⟨0,o,none⟩=some v->W'.cell? ⟨0,o,none⟩=some v/\S' 0:=λo v hv=>by
  have:=XC.mono (b:=0) (o:=o) (v:=v) ⟨h0,hv⟩ hs;exact⟨this.2,this.1⟩
 refine⟨(g _ _ (h1 0 oM).1).2,λn hn=>?_⟩;obtain⟨a,b,c,d⟩:=h1 n hn;exact⟨(g _ _ a).1,(g _ _ b).1,(g _ _ c).1,(g _ _ d).1⟩
theorem fR.dU{W w:World}{bs fp:List Nat}(h:fR W (Out bs))(hk:ah W bs w)(hm:∀ b∈fp,W.heap.size<=b\/b∈bs):fR w (Out fp):=
 h.mono λb hb hs=>⟨hk.block b hb hs,λhb' => (hm b hb').elim (λg=>absurd g (Nat.not_le.2 hb)) hs⟩
def nP(n1 n2 n3:Nat)(op k a b:Int):Bool:=
 decide (0<=op/\op<21)&&(decide (k=0)||((gn op.toNat).2.1&&decide (k=1)))&&(sZ n1 n2 n3 (gn op.toNat).2.2.1 a&&sZ n1 n2 n3 (gn op.toNat).2.2.2 b)
abbrev inV (op k a b:Int):Value:=.agg #[.int .i64 op,.int .i64 k,.int .i64 a,.int .i64 b]
noncomputable def Γ89:Env prog:=⟨λ| 73=>some Cv.spec|_=>none,λ| _=>none,λ_ _=>none⟩
theorem aio:Γ89.sp 73=some Cv.spec:=rfl
def xP:=(aj @List.replicate_succ.{0} @List.replicate_zero.{0} @an @ab jk jn gR (aj ck cf b9 b8 ca cc cg (aj cd yW yM zA yI Bv Ad (aj yG Bj zK BZ Cf Ce Cb (aj Cg Ck B9 Cj rn G4 Ib (aj H9 GW Yj aak Vu W5 aaN (aj ZP Xz Xh aaQ aaU Wj @aG (ml @al @ax @aw @DG @DF aio))))))))
theorem S5(a1 a2 a3:Option Addr)(n1 n2 n3 c1 c2 c3:Nat)(s v op k a b:Int)(w:World)(hg:fR w (Out [])):Calls prog 74 #[pgV a1 a2 a3 n1 n2 n3 c1 c2 c3 s v,inV op k a b] w λe w' => e=.returned (.bool (nP n1 n2 n3 op k a b))/\ah w [] w' := by
 refine af (nt:=45) [.tmp 4] func74 rfl rfl rfl ?_;refine vR Γ89 xP ?_;refine Wp.seq ?_;refine vR Γ89 xP ?_;refine wC xP (λhc=>?_) (λhc=>?_)
 ·have h:¬ (0<=op/\op<21):=by simp at hc;omega
  have e:nP n1 n2 n3 op k a b=false:=by rw[nP,decide_eq_false h];rfl
  rw[e];refine vR Γ89 xP ?_;refine wZ xP ?_;exact λE=>rfl
 have h:0<=op/\op<21:=by simp at hc;omega
 obtain⟨n,rfl⟩:=Int.eq_ofNat_of_zero_le h.1;obtain⟨g1,g2,g3,g4⟩:=hg.2 n oM;refine wK ?_;refine wR Γ89 (oA xP g1 g2 g3 g4) ?_ ?_
 ·omega
 have hs:nP n1 n2 n3 n k a b=((decide (k=0)||((gn n).2.1&&decide (k=1)))&&(sZ n1 n2 n3 (gn n).2.2.1 a&&sZ n1 n2 n3 (gn n).2.2.2 b)):=by
  rw[nP,decide_eq_true h,Bool.true_and,Int.toNat_natCast]
 rw[hs];generalize (gn n).2.1=st at *;generalize (gn n).2.2.1=u1 at *;generalize (gn n).2.2.2=u2 at *;have hk:(decide (k=0)||(st&&decide (k=1)))=!(!decide (k=0)&&(!st||!decide (k=1))):=by
  cases st<;>cases decide (k=0)<;>cases decide (k=1)<;>rfl
 rw[hk];refine Wp.seq ?_;refine vR Γ89 xP ?_;refine wC xP (λhc=>?_) (λhc=>?_)
 ·rw[hc];refine vR Γ89 xP ?_;refine wZ xP ?_;exact λE=>rfl
 ·rw[hc];refine wK ?_;refine vR Γ89 xP ?_;refine wZ xP ?_;exact λE=>rfl
def Fh:aM prog 74 where
 pre:=λW bs as_=>(∃ (a1 a2 a3:Option Addr) (n1 n2 n3 c1 c2 c3:Nat) (s v op k a b:Int),as_=[.val (pgV a1 a2 a3 n1 n2 n3 c1 c2 c3 s v),.val (inV op k a b)])/\fR W (Out bs)
 res:=λ_ as_=>match as_ with
  |[.val (.agg arr),.val (.agg ins)]=>(match arr.toList,ins.toList with
   |[.slice _ n1 _,.slice _ n2 _,.slice _ n3 _,_,_],[.int _ op,.int _ k,.int _ a,.int _ b]=>.bool (nP n1 n2 n3 op k a b)
   |_,_=>undef)
  |_=>undef
 enters:=call74
 ok:=by
  intro W w bs us as_ hk hu hp;obtain⟨⟨a1,a2,a3,n1,n2,n3,c1,c2,c3,s,v,op,k,a,b,rfl⟩,hg⟩:=hp
  match us,hu with
  |[x,y],hu=>
   obtain⟨rfl,rfl,_⟩:=hu;exact S5 a1 a2 a3 n1 n2 n3 c1 c2 c3 s v op k a b w (hg.dU hk sI)
section
variable (W:World)(bs:List Nat)(a1 a2 a3:Option Addr)(n1 n2 n3 c1 c2 c3:Nat)(s v op k a b:Int)
theorem KQ:Fh.pre W bs [.val (.agg #[.slice a1 n1 c1,.slice a2 n2 c2,.slice a3 n3 c3,.int .i64 s,.int .i64 v]),.val (.agg #[.int .i64 op,.int .i64 k,.int .i64 a,.int .i64 b])]=fR W (Out bs):=
 propext ⟨λh=>h.2,λh=>⟨⟨a1,a2,a3,n1,n2,n3,c1,c2,c3,s,v,op,k,a,b,rfl⟩,h⟩⟩
theorem Lm:Fh.res W [.val (.agg #[.slice a1 n1 c1,.slice a2 n2 c2,.slice a3 n3 c3,.int .i64 s,.int .i64 v]),.val (.agg #[.int .i64 op,.int .i64 k,.int .i64 a,.int .i64 b])]=.bool (nP n1 n2 n3 op k a b):=rfl
end
section
variable (n1 n2 n3:Nat)
def okQ(c v:Int):Bool:=if c=120 then ou v n2 else if c=116 then ou v n1 else ou v n3
def DK(q:ByteArray)(i v:Int):Bool:=if (q.size:Int)<=i then decide (v=0) else okQ n1 n2 n3 (bt q i) v
def Dd(q:ByteArray)(a b:Int):Bool:=DK n1 n2 n3 q 0 a&&DK n1 n2 n3 q 1 b
def isK(q:ByteArray):Bool:=decide (0<(q.size:Int))&&decide (bt q 0=107)
def Uw(ww q:ByteArray)(k a b:Int):Bool:=
 !decide (ww=⟨#[]⟩)&&(bif isK q then (decide (k=0)||decide (k=1))&&Dd n1 n2 n3 (q.extract 1 q.size) a b else decide (k=0)&&Dd n1 n2 n3 q a b)
theorem Ux(op:Int)(h:¬ (0<=op/\op<21)):dj op=(⟨#[]⟩,⟨#[]⟩):=by
 unfold dj;rw[if_neg (show ¬ op=0 by omega)];rw[if_neg (show ¬ op=1 by omega)];rw[if_neg (show ¬ op=2 by omega)];rw[if_neg (show ¬ op=3 by omega)];rw[if_neg (show ¬ op=4 by omega)];rw[if_neg (show ¬ op=5 by omega)];rw[if_neg (show ¬ op=6 by omega)];rw[if_neg (show ¬ op=7 by omega)]
 rw[if_neg (show ¬ op=8 by omega)];rw[if_neg (show ¬ op=9 by omega)];rw[if_neg (show ¬ op=10 by omega)];rw[if_neg (show ¬ op=11 by omega)];rw[if_neg (show ¬ op=12 by omega)];rw[if_neg (show ¬ op=13 by omega)];rw[if_neg (show ¬ op=14 by omega)];rw[if_neg (show ¬ op=15 by omega)]
 rw[if_neg (show ¬ op=16 by omega)];rw[if_neg (show ¬ op=17 by omega)];rw[if_neg (show ¬ op=18 by omega)];rw[if_neg (show ¬ op=19 by omega)];rw[if_neg (show ¬ op=20 by omega)]
theorem ajM(op k a b:Int):Uw n1 n2 n3 (dj op).1 (dj op).2 k a b=nP n1 n2 n3 op k a b:=by
 by_cases h:0<=op/\op<21
 ·obtain⟨n,rfl⟩:=Int.eq_ofNat_of_zero_le h.1;have hn:n<21:=oM;unfold Uw nP;generalize decide (k=0)=x;generalize decide (k=1)=y
  match n,hn with
  |0,_=>cases x<;>cases y<;>rfl
  |1,_=>cases x<;>cases y<;>rfl
  |2,_=>cases x<;>cases y<;>rfl
  |3,_=>cases x<;>cases y<;>rfl
  |4,_=>cases x<;>cases y<;>rfl
  |5,_=>cases x<;>cases y<;>rfl
  |6,_=>cases x<;>cases y<;>rfl
  |7,_=>cases x<;>cases y<;>rfl
  |8,_=>cases x<;>cases y<;>rfl
  |9,_=>cases x<;>cases y<;>rfl
  |10,_=>cases x<;>cases y<;>rfl
  |11,_=>cases x<;>cases y<;>rfl
  |12,_=>cases x<;>cases y<;>rfl
  |13,_=>cases x<;>cases y<;>rfl
  |14,_=>cases x<;>cases y<;>rfl
  |15,_=>cases x<;>cases y<;>rfl
  |16,_=>cases x<;>cases y<;>rfl
  |17,_=>cases x<;>cases y<;>rfl
  |18,_=>cases x<;>cases y<;>rfl
  |19,_=>cases x<;>cases y<;>rfl
  |20,_=>cases x<;>cases y<;>rfl
 ·rw[Ux op h,nP,decide_eq_false h];rfl
end
noncomputable def nJ:Env prog:=⟨λ| 31=>some q5.spec|70=>some DC.spec|_=>none,λ| _=>none,λ_ _=>none⟩
theorem aju:nJ.sp 31=some q5.spec:=rfl
theorem aiu:nJ.sp 70=some DC.spec:=rfl
def bF:=(aj @List.replicate_succ.{0} @List.replicate_zero.{0} @an @ab jk jn ty5 (aj ty6 ty7 ty8 gR ck cf b9 (aj b8 ca cc cg cd fu fh (aj fy ft fB dc df dh db (aj cY c8 rD sq rV rQ ac0 (aj aev adb aex Xt Ws Wd aaH (aj ZB Zi Yc aai Vj JT HR (aj Jf H4 JB JL GL ID I2 (aj ahO ahq Po QH P0 OL @aG (aj @al @ax @aw @ve @vG @o9 @po (aa aju aiu)))))))))))
theorem KZ(a1 a2 a3:Option Addr)(n1 n2 n3 c1 c2 c3:Nat)(s v op k a b:Int)(w:World):Calls prog 32 #[pgV a1 a2 a3 n1 n2 n3 c1 c2 c3 s v,inV op k a b] w λe w' => e=.returned (.bool (nP n1 n2 n3 op k a b))/\ah w [] w' := by
 rw[<- ajM];refine af (nt:=91) [.tmp 4] func32 rfl rfl rfl ?_;refine vR nJ bF ?_;refine vR nJ bF ?_;generalize (dj op).1=ww at *;generalize (dj op).2=q at *;refine Wp.seq ?_;refine vR nJ bF ?_;refine wC bF (λhc=>?_) (λhc=>?_)
 ·have h:ww=⟨#[]⟩:=by simpa using hc
  have e:Uw n1 n2 n3 ww q k a b=false:=by rw[Uw,decide_eq_true h];rfl
  rw[e];refine vR nJ bF ?_;refine wZ bF ?_;exact λE=>rfl
 have h:¬ ww=⟨#[]⟩:=by simpa using hc
 have e0:Uw n1 n2 n3 ww q k a b=(bif isK q then (decide (k=0)||decide (k=1))&&Dd n1 n2 n3 (q.extract 1 q.size) a b else decide (k=0)&&Dd n1 n2 n3 q a b):=by rw[Uw,decide_eq_false h];rfl
 rw[e0];refine wK ?_;have hcut:∀ R:Bool,(R=(bif isK q then (decide (k=0)||decide (k=1))&&Dd n1 n2 n3 (q.extract 1 q.size) a b else decide (k=0)&&Dd n1 n2 n3 q a b))->(∃ q',R=Dd n1 n2 n3 q' a b)\/R=false:=λR hR=>by
  cases hk:isK q with
  |true=>
   rw[hk,cond_true]at hR;cases hx:(decide (k=0)||decide (k=1)) with
   |true=>rw[hx,Bool.true_and]at hR;exact .inl ⟨_,hR⟩
   |false=>rw[hx,Bool.false_and]at hR;exact .inr hR
  |false=>
   rw[hk,cond_false]at hR;cases hx:decide (k=0) with
   |true=>rw[hx,Bool.true_and]at hR;exact .inl ⟨_,hR⟩
   |false=>rw[hx,Bool.false_and]at hR;exact .inr hR
 clear hcut;generalize hR:(bif isK q then (decide (k=0)||decide (k=1))&&Dd n1 n2 n3 (q.extract 1 q.size) a b else decide (k=0)&&Dd n1 n2 n3 q a b)=R
 refine kP (λq' : ByteArray=>⟨60,bm [(2,.is (.own 0 0)),(3,.is (.own 8 0)),(6,.is (.v (.string q')))],aY [(0,.cells 35 [.v (.slice a1 n1 c1),.v (.slice a2 n2 c2),.v (.slice a3 n3 c3),.v (.int .i64 s),.v (.int .i64 v)]),(8,.cells 85 [.v (.int .i64 op),.v (.int .i64 k),.v (.int .i64 a),.v (.int .i64 b)])]⟩) (λ_=>w) (λ_=>[]) (λq' => R=Dd n1 n2 n3 q' a b) ?_ ?_
 ·skip;refine vR nJ bF ?_;refine wC bF (λhc=>?_) (λhc=>?_)
  ·have hk:isK q=true:=hc;rw[hk,cond_true]at hR;have hq:0<(q.size:Int):=by
    rw[isK,Bool.and_eq_true]at hk;simpa using hk.1
   refine Wp.seq ?_;refine vR nJ bF ?_;refine wC bF (λhc=>?_) (λhc=>?_)
   ·have hx:(decide (k=0)||decide (k=1))=false:=by
     simp at hc ⊢;omega
    rw[hx,Bool.false_and]at hR;subst hR;refine vR nJ bF ?_;refine wZ bF ?_;exact λE=>rfl
   ·have hx:(decide (k=0)||decide (k=1))=true:=by
     simp at hc ⊢;omega
    rw[hx,Bool.true_and]at hR;refine wK ?_;refine wr nJ bF ?_ ?_
    ·omega
    refine⟨q.extract 1 q.size,hR.symm,rfl,rfl,?_⟩;exact wM (λk=>.key k) bF
  ·have hk:isK q=false:=hc;rw[hk,cond_false]at hR;refine vR nJ bF ?_;refine wC bF (λhc=>?_) (λhc=>?_)
   ·have hx:decide (k=0)=false:=by simpa using hc
    rw[hx,Bool.false_and]at hR;subst hR;refine vR nJ bF ?_;refine wZ bF ?_;exact λE=>rfl
   ·have hx:decide (k=0)=true:=by simpa using hc
    rw[hx,Bool.true_and]at hR;refine wK ?_;refine⟨q,hR.symm,rfl,rfl,?_⟩;exact wM (λk=>.key k) bF
 clear hR e0 h;refine λq' hq' _=>?_
 subst hq';refine vR nJ bF ?_;refine Wp.seq ?_;refine vR nJ bF ?_;refine Wp.block ?_
 refine Wp.loop (λi:Nat=>⟨90,bm [(2,.is (.own 0 0)),(6,.is (.v (.string q'))),(7,.is (.hd 24)),(8,.is (.v (.int .i64 ((i:Nat)))))],aY [(0,.cells 35 [.v (.slice a1 n1 c1),.v (.slice a2 n2 c2),.v (.slice a3 n3 c3),.v (.int .i64 s),.v (.int .i64 v)]),(24,.row 3 1 2 [.v (.int .i64 a),.v (.int .i64 b)])]⟩) (λi=>i<=2/\(1<=i->DK n1 n2 n3 q' 0 a=true)/\(2<=i->DK n1 n2 n3 q' 1 b=true)) (λi=>2-i) 0 ?_ ⟨oM,oM,oM⟩ ?_
 ·exact wM (λk=>if k=24 then .key 512 else .key k) bF
 rintro i ⟨hi,h1,h2⟩;refine Wp.seq ?_;refine vR nJ bF ?_;refine wC bF (λhc=>?_) (λhc=>?_)
 ·have hlt2:i<2:=by
   simp at hc;omega
  clear hc;have hcase:i=0\/i=1:=oM;rcases hcase with rfl|rfl
  ·refine wK ?_;refine Wp.seq (Wp.block ?_);refine Wp.seq ?_;refine vR nJ bF ?_;refine wC bF (λhc=>?_) (λhc=>?_)
   ·have hle:(q'.size:Int)<=0:=by simpa using hc
    refine Wp.seq ?_;refine vR nJ bF ?_;refine wC bF (λhc=>?_) (λhc=>?_)
    ·have hv:DK n1 n2 n3 q' 0 a=false:=by rw[DK,if_pos hle];simpa using hc
     have e:Dd n1 n2 n3 q' a b=false:=by rw[Dd,hv];rfl
     rw[e];refine vR nJ bF ?_;refine wZ bF ?_;exact λE=>rfl
    ·have hv:DK n1 n2 n3 q' 0 a=true:=by rw[DK,if_pos hle];simpa using hc
     refine wK ?_;refine wE ?_;refine vr nJ bF ?_;refine⟨1,⟨oM,λ_=>hv,oM⟩,oM,?_⟩;exact wM (λk=>.key k) bF
   have hlt:¬ (q'.size:Int)<=0:=by simpa using hc
   have ho:DK n1 n2 n3 q' 0 a=okQ n1 n2 n3 (bt q' 0) a:=by rw[DK,if_neg hlt]
   refine wK ?_;refine lf nJ bF ?_ ?_
   ·simp
   refine aV ⟨150,bm [(2,.is (.own 0 0)),(6,.is (.v (.string q'))),(7,.is (.hd 24)),(8,.is (.v (.int .i64 (0)))),(9,.is (.v (.bool (if bt q' 0=116 then ou a n1 else ou a n3))))],aY [(0,.cells 35 [.v (.slice a1 n1 c1),.v (.slice a2 n2 c2),.v (.slice a3 n3 c3),.v (.int .i64 s),.v (.int .i64 v)]),(24,.row 3 1 2 [.v (.int .i64 a),.v (.int .i64 b)])]⟩ ?_ ?_
   ·skip;refine wR nJ bF ?_ ?_
    ·omega
    refine wC bF (λhc=>?_) (λhc=>?_)
    ·have h6:bt q' 0=116:=by simpa using hc
     rw[if_pos h6];refine vZ nJ bF ?_ ?_
     ·simp
     exact wM (λk=>.key k) bF
    ·have h6:¬ bt q' 0=116:=by simpa using hc
     rw[if_neg h6];refine wK ?_;exact wM (λk=>.key k) bF
   refine aV ⟨200,bm [(2,.is (.own 0 0)),(6,.is (.v (.string q'))),(7,.is (.hd 24)),(8,.is (.v (.int .i64 (0)))),(9,.is (.v (.bool (okQ n1 n2 n3 (bt q' 0) a))))],aY [(0,.cells 35 [.v (.slice a1 n1 c1),.v (.slice a2 n2 c2),.v (.slice a3 n3 c3),.v (.int .i64 s),.v (.int .i64 v)]),(24,.row 3 1 2 [.v (.int .i64 a),.v (.int .i64 b)])]⟩ ?_ ?_
   ·skip;refine wR nJ bF ?_ ?_
    ·omega
    refine wC bF (λhc=>?_) (λhc=>?_)
    ·have h6:bt q' 0=120:=by simpa using hc
     rw[okQ,if_pos h6];refine vZ nJ bF ?_ ?_
     ·simp
     exact wM (λk=>.key k) bF
    ·have h6:¬ bt q' 0=120:=by simpa using hc
     rw[okQ,if_neg h6];refine wK ?_;exact wM (λk=>.key k) bF
   rw[<- ho];refine vR nJ bF ?_;refine wC bF (λhc=>?_) (λhc=>?_)
   ·have hv:DK n1 n2 n3 q' 0 a=false:=by simpa using hc
    have e:Dd n1 n2 n3 q' a b=false:=by rw[Dd,hv];rfl
    rw[e];refine vR nJ bF ?_;refine wZ bF ?_;exact λE=>rfl
   ·have hv:DK n1 n2 n3 q' 0 a=true:=by simpa using hc
    refine wK ?_;refine vr nJ bF ?_;refine⟨1,⟨oM,λ_=>hv,oM⟩,oM,?_⟩;exact wM (λk=>.key k) bF
  ·refine wK ?_;refine Wp.seq (Wp.block ?_);refine Wp.seq ?_;refine vR nJ bF ?_;refine wC bF (λhc=>?_) (λhc=>?_)
   ·have hle:(q'.size:Int)<=1:=by simpa using hc
    refine Wp.seq ?_;refine vR nJ bF ?_;refine wC bF (λhc=>?_) (λhc=>?_)
    ·have hv:DK n1 n2 n3 q' 1 b=false:=by rw[DK,if_pos hle];simpa using hc
     have e:Dd n1 n2 n3 q' a b=false:=by rw[Dd,hv,Bool.and_false]
     rw[e];refine vR nJ bF ?_;refine wZ bF ?_;exact λE=>rfl
    ·have hv:DK n1 n2 n3 q' 1 b=true:=by rw[DK,if_pos hle];simpa using hc
     refine wK ?_;refine wE ?_;refine vr nJ bF ?_;refine⟨2,⟨oM,λ_=>h1 oM,λ_=>hv⟩,oM,?_⟩;exact wM (λk=>.key k) bF
   have hlt:¬ (q'.size:Int)<=1:=by simpa using hc
   have ho:DK n1 n2 n3 q' 1 b=okQ n1 n2 n3 (bt q' 1) b:=by rw[DK,if_neg hlt]
   refine wK ?_;refine lf nJ bF ?_ ?_
   ·simp
   refine aV ⟨150,bm [(2,.is (.own 0 0)),(6,.is (.v (.string q'))),(7,.is (.hd 24)),(8,.is (.v (.int .i64 (1)))),(9,.is (.v (.bool (if bt q' 1=116 then ou b n1 else ou b n3))))],aY [(0,.cells 35 [.v (.slice a1 n1 c1),.v (.slice a2 n2 c2),.v (.slice a3 n3 c3),.v (.int .i64 s),.v (.int .i64 v)]),(24,.row 3 1 2 [.v (.int .i64 a),.v (.int .i64 b)])]⟩ ?_ ?_
   ·skip;refine wR nJ bF ?_ ?_
    ·omega
    refine wC bF (λhc=>?_) (λhc=>?_)
    ·have h6:bt q' 1=116:=by simpa using hc
     rw[if_pos h6];refine vZ nJ bF ?_ ?_
     ·simp
     exact wM (λk=>.key k) bF
    ·have h6:¬ bt q' 1=116:=by simpa using hc
     rw[if_neg h6];refine wK ?_;exact wM (λk=>.key k) bF
   refine aV ⟨200,bm [(2,.is (.own 0 0)),(6,.is (.v (.string q'))),(7,.is (.hd 24)),(8,.is (.v (.int .i64 (1)))),(9,.is (.v (.bool (okQ n1 n2 n3 (bt q' 1) b))))],aY [(0,.cells 35 [.v (.slice a1 n1 c1),.v (.slice a2 n2 c2),.v (.slice a3 n3 c3),.v (.int .i64 s),.v (.int .i64 v)]),(24,.row 3 1 2 [.v (.int .i64 a),.v (.int .i64 b)])]⟩ ?_ ?_
   ·skip;refine wR nJ bF ?_ ?_
    ·omega
    refine wC bF (λhc=>?_) (λhc=>?_)
    ·have h6:bt q' 1=120:=by simpa using hc
     rw[okQ,if_pos h6];refine vZ nJ bF ?_ ?_
     ·simp
     exact wM (λk=>.key k) bF
    ·have h6:¬ bt q' 1=120:=by simpa using hc
     rw[okQ,if_neg h6];refine wK ?_;exact wM (λk=>.key k) bF
   rw[<- ho];refine vR nJ bF ?_;refine wC bF (λhc=>?_) (λhc=>?_)
   ·have hv:DK n1 n2 n3 q' 1 b=false:=by simpa using hc
    have e:Dd n1 n2 n3 q' a b=false:=by rw[Dd,hv,Bool.and_false]
    rw[e];refine vR nJ bF ?_;refine wZ bF ?_;exact λE=>rfl
   ·have hv:DK n1 n2 n3 q' 1 b=true:=by simpa using hc
    refine wK ?_;refine vr nJ bF ?_;refine⟨2,⟨oM,λ_=>h1 oM,λ_=>hv⟩,oM,?_⟩;exact wM (λk=>.key k) bF
 ·have hi2:i=2:=by
   simp at hc;omega
  have e:Dd n1 n2 n3 q' a b=true:=by rw[Dd,h1 oM,h2 oM];rfl
  rw[e];refine wE ?_;refine vR nJ bF ?_;refine wZ bF ?_;exact λE=>rfl
def yb:aM prog 32 where
 pre:=λW bs as_=>∃ (a1 a2 a3:Option Addr) (n1 n2 n3 c1 c2 c3:Nat) (s v op k a b:Int),as_=[.val (pgV a1 a2 a3 n1 n2 n3 c1 c2 c3 s v),.val (inV op k a b)]
 res:=λ_ as_=>match as_ with
  |[.val (.agg arr),.val (.agg ins)]=>(match arr.toList,ins.toList with
   |[.slice _ n1 _,.slice _ n2 _,.slice _ n3 _,_,_],[.int _ op,.int _ k,.int _ a,.int _ b]=>.bool (nP n1 n2 n3 op k a b)
   |_,_=>undef)
  |_=>undef
 enters:=call32
 ok:=by
  intro W w bs us as_ hk hu hp;obtain⟨a1,a2,a3,n1,n2,n3,c1,c2,c3,s,v,op,k,a,b,rfl⟩:=hp
  match us,hu with
  |[x,y],hu=>
   obtain⟨rfl,rfl,_⟩:=hu;exact KZ a1 a2 a3 n1 n2 n3 c1 c2 c3 s v op k a b w
section
variable (W:World)(bs:List Nat)(a1 a2 a3:Option Addr)(n1 n2 n3 c1 c2 c3:Nat)(s v op k a b:Int)
theorem JD:yb.pre W bs [.val (.agg #[.slice a1 n1 c1,.slice a2 n2 c2,.slice a3 n3 c3,.int .i64 s,.int .i64 v]),.val (.agg #[.int .i64 op,.int .i64 k,.int .i64 a,.int .i64 b])]=True:=
 eq_true ⟨a1,a2,a3,n1,n2,n3,c1,c2,c3,s,v,op,k,a,b,rfl⟩
theorem H7:yb.res W [.val (.agg #[.slice a1 n1 c1,.slice a2 n2 c2,.slice a3 n3 c3,.int .i64 s,.int .i64 v]),.val (.agg #[.int .i64 op,.int .i64 k,.int .i64 a,.int .i64 b])]=.bool (nP n1 n2 n3 op k a b):=rfl
end
noncomputable def Γ71:Env prog:=⟨λ| 116=>some DL.spec|_=>none,λ| _=>none,λ_ _=>none⟩
theorem aco:Γ71.sp 116=some DL.spec:=rfl
noncomputable def jD:Env prog:=⟨λ| 117=>some sG.spec|_=>none,λ| _=>none,λ_ _=>none⟩
theorem adm:jD.sp 117=some sG.spec:=rfl
def aR:=(aj jk jn BG BH BJ gR ck (aj cf b9 b8 ca cc cg cd (aj fu fh fy ft fB dc df (aj dh db cY c8 xi vU xj (aj tK yX AW Aa Al A5 AB (aj Po QH P0 OL Pq PQ OR (aj Ot OS Zx ZA Yp aae Pz (aj Pm QP QI PZ Oc QG O6 (aj Qj PN Qu Oi PM P7 P5 (aj PX PK U4 WN Wk WJ Wu (aj alS alM DT Dq DD Cq sK (aj wP wU sF vY wV xn vW (aj wA wO w6 alT alW I6 HK (aj GF Kc Ji @aG @al @ax @aw (aj @CE @CG @eL @LY @EL @E7 @yv (aj @z8 @tj @Bp @uJ @List.append_assoc.{0} @Wb @ti (aj @sH @DZ @tP @BM @Cd @MX @N4 (aj @tc @tC @FD @EN @MF.eq_1 @Cx.eq_1 @stC.eq_1 (aj @EE.eq_1 @agA @adG @afo @aeE @acf @adH (aj @aA @eN @mP @dN @lO @nv @mm (aj @iX @M8 @adV @ag6 @KX.eq_1 @E6 @tZ (ml @tH @qH @qN @yl aco adm))))))))))))))))))))))
theorem K9(s:ByteArray)(hs:s.size<=140737488351232)(w:World):Calls prog 69 #[.string s] w λe w' =>
   ∃ u fp,e=.returned (pG (kL s) u)/\(∀ E',a6 E' u fp w' (.row 243 261 (pN (kL s)) ((pV (kL s)).map .v)))/\(∀ b∈fp,w.heap.size<=b/\b<w'.heap.size)/\ah w [] w' := by
 refine mq (nt:=310) (pG (kL s)) [.cell 2 64,.tmp 3,.tmp 4] func69 rfl rfl rfl ?_;refine vR jD aR ?_;refine Wp.seq ?_;refine vR jD aR ?_;refine wC aR (λhc=>?_) (λhc=>?_)
 ·have hb:1048576<(s.size:Int):=by simpa using hc
  have he:kL s=.error (1,0):=by rw[kL,iN,if_pos hb]
  rw[he];refine vR jD aR ?_;refine wZ aR ?_;exact⟨.v bS,⟨dE,.inr ⟨rfl,rfl,rfl⟩⟩,λE=>rfl⟩
 have hb:¬ 1048576<(s.size:Int):=by simpa using hc
 refine wK ?_;refine vR jD aR ?_;refine lf Γ71 aR ?_ ?_
 ·exact⟨dE,rfl⟩
 refine vR jD aR ?_;generalize hR:Jd s=R;refine Wp.seq (Wp.block ?_)
 refine Wp.loop (λp:Int×List Nd×Fm×List Fm=>⟨25,bm [(0,.is (.v (.string s))),(2,.is (.own 0 0)),(5,.is (.own 56 0)),(6,.is (.v (.int .i64 p.1)))],aY [(0,.cells 64 [.v (.slice none 0 0),.v (.int .i64 0)]),(56,.cells 232 [.hd 57,.hd 58]),(57,.row 243 261 p.2.1.length (List.map SV.v (dD p.2.1))),(58,.row 234 6 (p.2.2.2.length+1) (List.map SV.v (tE p.2.2.2++p.2.2.1.bw)))]⟩)
  (λp=>(0<=p.1/\p.1<=s.size)/\(p.2.1.length:Int)<=3*p.1/\p.2.2.2.length<=1000/\∃ n:Nat,s.size-p.1<n/\rY (bt s) s.size (gU s) n p.1 p.2.1 p.2.2.1 p.2.2.2.reverse=R) (λp=>(s.size-p.1).toNat) (0,[],kH (-1),[]) ?_
  ⟨⟨Int.le_refl _,oM⟩,sI,sI,s.size+1,by simp only;omega,hR⟩ ?_
 ·exact wM (λk=>if k=57 then .nil else if k=58 then .key 128 else .key k) aR
 rintro⟨i,ar,f,pre⟩ ⟨⟨h0,hi⟩,hl,hp,n,hn,hrun⟩;simp only at h0 hi hl hp hn hrun;have wp:=ya pre oM;obtain⟨n,rfl⟩:∃ m,n=m+1:=⟨n-1,oM⟩;rw[rY]at hrun;refine Wp.seq ?_;refine vR jD aR ?_;refine wC aR (λhc=>?_) (λhc=>?_)
 ·have hlt:i<s.size:=by simpa using hc
  rw[if_pos hlt]at hrun;have w1:IntKind.i64.wrap (i+1)=i+1:=ae oM oM;refine wK ?_;refine Wp.block ?_;refine wR jD aR ?_ ?_
  ·omega
  refine lf jD (aa aR wp) ?_ ?_
  ·exact⟨⟨_,rfl⟩,oM,oM⟩
  refine Wp.seq ?_;refine vR jD aR ?_;refine wC aR (λhc=>?_) (λhc=>?_)
  ·have hpo:br (bt s i):=by simpa [Ay] using hc
   refine Wp.seq ?_;refine wR jD aR ?_ ?_
   ·omega
   refine wC aR (λhc=>?_) (λhc=>?_)
   ·have hf:f.fac<0:=by simpa using hc
    have hst:oy (bt s) s.size (gU s) i ar f pre.reverse=.error (20,i):=by rw[oy,if_pos hpo,if_pos hf]
    rw[hst]at hrun;have he:=pz hb (hR.trans hrun.symm);rw[he];refine vR jD aR ?_;refine wZ aR ?_;exact⟨.v bS,⟨dE,.inr ⟨rfl,rfl,rfl⟩⟩,λE=>rfl⟩
   have hf:¬ f.fac<0:=by simpa using hc
   have hst:oy (bt s) s.size (gU s) i ar f pre.reverse=J6 (bt s) s.size i ar f pre.reverse:=by rw[oy,if_pos hpo,if_neg hf]
   rw[hst,J6]at hrun;refine wK ?_;refine vR jD (aa aR w1) ?_
   refine aV ⟨100,bm [(0,.is (.v (.string s))),(2,.is (.own 0 0)),(5,.is (.own 56 0)),(6,.is (.v (.int .i64 (i)))),(7,.is (.v (.int .u8 (bt s i)))),(8,.is (.own 58 (pre.length*6))),(9,.is (.v (.int .i64 (if bt s i=43 then -2 else 0)))),(10,.is (.v (.int .i64 (-1)))),(11,.is (.v (.int .i64 (i+1))))],aY [(0,.cells 64 [.v (.slice none 0 0),.v (.int .i64 0)]),(56,.cells 232 [.hd 57,.hd 58]),(57,.row 243 261 ar.length (List.map SV.v (dD ar))),(58,.row 234 6 (pre.length+1) (List.map SV.v (tE pre++f.bw)))]⟩ ?_ ?_
   ·skip;refine vR jD aR ?_;refine wC aR (λhc=>?_) (λhc=>?_)
    ·have h43:bt s i=43:=by simpa using hc
     rw[if_pos h43];refine vr jD aR ?_;exact wM (λk=>.key k) (aa aR @cm)
    ·have h43:¬ bt s i=43:=by simpa using hc
     rw[if_neg h43];refine wK ?_;exact wM (λk=>.key k) (aa aR @cm)
   refine aV ⟨110,bm [(0,.is (.v (.string s))),(2,.is (.own 0 0)),(5,.is (.own 56 0)),(6,.is (.v (.int .i64 (i)))),(7,.is (.v (.int .u8 (bt s i)))),(8,.is (.own 58 (pre.length*6))),(9,.is (.v (.int .i64 (if bt s i=43 then -2 else 0)))),(10,.is (.v (.int .i64 (if bt s i=63 then 1 else -1)))),(11,.is (.v (.int .i64 (i+1))))],aY [(0,.cells 64 [.v (.slice none 0 0),.v (.int .i64 0)]),(56,.cells 232 [.hd 57,.hd 58]),(57,.row 243 261 ar.length (List.map SV.v (dD ar))),(58,.row 234 6 (pre.length+1) (List.map SV.v (tE pre++f.bw)))]⟩ ?_ ?_
   ·skip;refine vR jD aR ?_;refine wC aR (λhc=>?_) (λhc=>?_)
    ·have h63:bt s i=63:=by simpa using hc
     rw[if_pos h63];refine vr jD aR ?_;exact wM (λk=>.key k) (aa aR @cm)
    ·have h63:¬ bt s i=63:=by simpa using hc
     rw[if_neg h63];refine wK ?_;exact wM (λk=>.key k) (aa aR @cm)
   cases hm:UR (bt s) s.size i with
   |error e=>
    obtain⟨ec,ep⟩:=e;have h123:bt s i=123:=Classical.byContradiction λh=>by rw[ER h]at hm;cases hm
    rw[hm]at hrun;rw[EF h123]at hm;have hne:=IQ hm;have he:=pz hb (hR.trans hrun.symm);rw[he];refine Wp.seq ?_;refine vR jD aR ?_;refine wC aR (λhc=>?_) (λhc=>?_)
    rotate_left
    ·exact absurd h123 (by simpa using hc)
    refine vR jD aR ?_;refine wR (L3 ar pre f) (bP aR hm @XT) ?_ ?_
    ·omega
    refine vR jD aR ?_;refine wC aR (λhc=>?_) (λhc=>?_)
    rotate_left
    ·exact absurd (by simpa using hc) hne
    refine vR jD aR ?_;refine wZ aR ?_;exact⟨.v bS,⟨dE,.inr ⟨rfl,rfl,rfl⟩⟩,λE=>rfl⟩
   | ok q=>
    obtain⟨m,k,j⟩:=q;rw[hm]at hrun;have hgt:=ail hlt hm
    refine aV ⟨150,bm [(0,.is (.v (.string s))),(2,.is (.own 0 0)),(5,.is (.own 56 0)),(6,.is (.v (.int .i64 (i)))),(8,.is (.own 58 (pre.length*6))),(9,.is (.v (.int .i64 (m)))),(10,.is (.v (.int .i64 (k)))),(11,.is (.v (.int .i64 (j))))],aY [(0,.cells 64 [.v (.slice none 0 0),.v (.int .i64 0)]),(56,.cells 232 [.hd 57,.hd 58]),(57,.row 243 261 ar.length (List.map SV.v (dD ar))),(58,.row 234 6 (pre.length+1) (List.map SV.v (tE pre++f.bw)))]⟩ ?_ ?_
    ·skip;refine vR jD aR ?_;refine wC aR (λhc=>?_) (λhc=>?_)
     ·have h123:bt s i=123:=by simpa using hc
      rw[EF h123]at hm;refine vR jD aR ?_;refine wR (L3 ar pre f) (bP aR hm @ahf) ?_ ?_
      ·omega
      refine vR jD aR ?_;refine wC aR (λhc=>?_) (λhc=>?_)
      ·exact absurd hc dE
      refine wK ?_;exact wM (λk=>.key k) (aa aR @cm)
     ·have h123:¬ bt s i=123:=by simpa using hc
      rw[ER h123]at hm;simp only[Except.ok.injEq,Prod.mk.injEq]at hm;obtain⟨rfl,rfl,rfl⟩:=hm;refine wK ?_;exact wM (λk=>.key k) (aa aR @cm)
    refine lf jD aR ?_ ?_
    ·exact⟨oM,oM,oM,by simp[qK],by unfold maxLen;omega,oM,Nd.ej _⟩
    have wl:IntKind.i64.wrap (((ar.length+1:Nat):Int)-1)=((ar.length:Nat):Int):=wW;refine wR jD (aa aR wl) ?_ ?_
    ·exact⟨⟨_,rfl⟩,oM,oM,oM⟩
    refine vR jD aR ?_;refine wE ?_;refine⟨(j,ar++[⟨7,0,f.fac,0,m,k⟩],{ f with fac:=ar.length },pre),⟨⟨oM,oM⟩,by simp only[List.length_append,List.length_singleton];omega,hp,n,oM,hrun⟩,by simp only;omega,?_⟩;exact wM (λk=>if k=57 then .key 1304 else .key k) (eS aR @vC @eL @cm)
  have hpo:¬ br (bt s i):=by simpa [Ay] using hc
  rw[oy,if_neg hpo]at hrun;refine wK ?_;refine Wp.seq ?_;refine vR jD aR ?_;refine wC aR (λhc=>?_) (λhc=>?_)
  ·have h124:bt s i=124:=by simpa using hc
   rw[if_pos h124]at hrun;have hcl:=pc ar f;refine wR (L3 ar pre f) aR ?_ ?_
   ·exact⟨⟨rfl,oM,oM⟩,dE,sI⟩
   refine vR jD (aa aR w1) ?_;refine wE ?_;refine⟨(i+1,(aP ar f).1,(aP ar f).2,pre),⟨⟨oM,oM⟩,by simp only;omega,hp,n,oM,hrun⟩,by simp only;omega,?_⟩;exact wM (λk=>if k=57 then .key 400 else if k=58 then .key 401 else .key k) (bP aR @eL @cm)
  have h124:¬ bt s i=124:=by simpa using hc
  rw[if_neg h124]at hrun;refine wK ?_;refine Wp.seq ?_;refine vR jD aR ?_;refine wC aR (λhc=>?_) (λhc=>?_)
  ·have h2:bt s i=38\/bt s i=45:=by simpa using hc
   rw[if_pos h2]at hrun;have hcl:=y9 ar f;refine wR (L3 ar pre f) aR ?_ ?_
   ·exact⟨⟨rfl,oM,oM⟩,dE,sI⟩
   refine lf jD (aa aR wp) ?_ ?_
   ·exact⟨⟨_,rfl⟩,⟨oM,oM⟩,oM,oM⟩
   refine vR jD (aa aR w1) ?_;refine wE ?_;refine⟨(i+1,(fW ar f).1,{ (fW ar f).2 with sgn:=bt s i },pre),⟨⟨oM,oM⟩,by simp only;omega,hp,n,oM,hrun⟩,by simp only;omega,?_⟩;exact wM (λk=>if k=57 then .key 448 else if k=58 then .key 449 else .key k) (bP aR @eL @cm)
  have h2:¬ (bt s i=38\/bt s i=45):=by simpa using hc
  rw[if_neg h2]at hrun;refine wK ?_;refine Wp.seq ?_;refine vR jD aR ?_;refine wC aR (λhc=>?_) (λhc=>?_)
  ·have h41:bt s i=41:=by simpa using hc
   rw[if_pos h41]at hrun;refine Wp.seq ?_;refine vR jD aR ?_;refine wC aR (λhc=>?_) (λhc=>?_)
   ·have hp0:pre=[]:=by
     have:pre.length=0:=by simp at hc;omega
     exact List.eq_nil_of_length_eq_zero this
    subst hp0;have he:=pz hb (hR.trans hrun.symm);rw[he];refine vR jD aR ?_;refine wZ aR ?_;exact⟨.v bS,⟨dE,.inr ⟨rfl,rfl,rfl⟩⟩,λE=>rfl⟩
   have hp0:pre≠[]:=by
    rintro rfl;simp at hc
   obtain⟨pre,g,rfl⟩:∃ pre' g,pre=pre' ++ [g]:=⟨pre.dropLast,pre.getLast hp0,(List.dropLast_concat_getLast hp0).symm⟩;have hcl:=pc ar f;rw[List.reverse_append,List.reverse_singleton,List.singleton_append,aix]at hrun;have hp' : pre.length+1<=1000:=by simpa using hp
   have wg:IntKind.i64.wrap (((pre++[g]).length:Int)-1)=((pre.length:Nat):Int):=by rw[List.length_append,List.length_singleton,ae oM oM];omega
   refine wK ?_;refine wR (L3 ar (pre++[g]) f) aR ?_ ?_
   ·exact⟨⟨rfl,oM,oM⟩,dE,sI⟩
   refine lf jD (aa aR wp) ?_ ?_
   ·exact⟨⟨_,rfl⟩,⟨oM,oM⟩,oM,oM⟩
   refine lf jD (aa aR wp) ?_ ?_
   ·exact⟨⟨_,rfl⟩,oM,oM⟩
   refine lf jD (bP aR @Dm wg) ?_ ?_
   ·exact⟨⟨_,rfl⟩,⟨oM,by simp only[List.length_append,List.length_singleton];omega⟩,oM,oM⟩
   refine vR jD (aa aR w1) ?_;refine wE ?_;refine⟨(i+1,(aP ar f).1,{ g with fac:=(aP ar f).2.alt },pre),⟨⟨oM,oM⟩,by simp only;omega,by show pre.length<=1000;omega,n,oM,hrun⟩,by simp only;omega,?_⟩
   exact wM (λk=>if k=57 then .key 512 else if k=58 then .key 720 else .key k) (oA aR @eL @List.length_append.{0} @List.length_singleton.{0} @cm)
  have h41:¬ bt s i=41:=by simpa using hc
  rw[if_neg h41]at hrun;refine wK ?_;have hse:=pS ar f;refine wR (L3 ar pre f) aR ?_ ?_
  ·exact⟨⟨rfl,oM,oM⟩,dE,sI⟩
  refine Wp.seq ?_;refine vR jD aR ?_;refine wC aR (λhc=>?_) (λhc=>?_)
  ·have h40:bt s i=40:=by simpa using hc
   rw[if_pos h40,List.length_reverse]at hrun;refine Wp.seq ?_;refine vR jD aR ?_;refine wC aR (λhc=>?_) (λhc=>?_)
   ·have hd:1000<pre.length+1:=by simp at hc;omega
    rw[if_pos hd]at hrun;have he:=pz hb (hR.trans hrun.symm);rw[he];refine vR jD aR ?_;refine wZ aR ?_;exact⟨.v bS,⟨dE,.inr ⟨rfl,rfl,rfl⟩⟩,λE=>rfl⟩
   have hd:¬ 1000<pre.length+1:=by simp at hc;omega
   rw[if_neg hd]at hrun;refine wK ?_;refine lf Γ71 aR ?_ ?_
   ·exact⟨by unfold maxLen;omega,oM,rfl⟩
   refine vR jD (aa aR w1) ?_;refine wE ?_;refine⟨(i+1,(aF ar f).1,kH i,pre++[(aF ar f).2]),⟨⟨oM,oM⟩,by simp only;omega,by simp only[List.length_append,List.length_singleton];omega,n,oM,by simp only[List.reverse_append,List.reverse_singleton,List.singleton_append];exact hrun⟩,by simp only;omega,?_⟩
   exact wM (λk=>if k=57 then .key 464 else if k=58 then .key 600 else .key k) (ml aR @eL @Dm @List.length_append.{0} @List.length_singleton.{0} @cm)
  have h40:¬ bt s i=40:=by simpa using hc
  rw[if_neg h40,OU]at hrun;refine wK ?_;cases hit:dZ s i with
  |error j=>
   have hrd:gU s i=.error (10,j):=by rw[gU,hit]
   rw[hrd]at hrun;have he:=pz hb (hR.trans hrun.symm);rw[he];refine wR (L3 ar pre f) (eS aR hit @rdV.eq_1 @rdV.eq_2) ?_ ?_
   ·omega
   refine Wp.seq ?_;refine vR jD aR ?_;refine wC aR (λhc=>?_) (λhc=>?_)
   rotate_left
   ·exact absurd hc dE
   refine vR jD aR ?_;refine wZ aR ?_;exact⟨.v bS,⟨dE,.inr ⟨rfl,rfl,rfl⟩⟩,λE=>rfl⟩
  |ok q=>
   obtain⟨S,j⟩:=q;have hrd:gU s i=.ok (S,j):=by rw[gU,hit]
   rw[hrd]at hrun;have hgt:=BC hit h0 hlt;refine wR (L3 ar pre f) (eS aR hit @rdV.eq_1 @rdV.eq_2) ?_ ?_
   ·omega
   refine Wp.seq ?_;refine vR jD aR ?_;refine wC aR (λhc=>?_) (λhc=>?_)
   ·exact absurd hc dE
   refine wK ?_;refine lf jD aR ?_ ?_
   ·exact⟨by simp[qK],by unfold maxLen;omega,oM,Nd.ej _⟩
   have wl:IntKind.i64.wrap ((((aF ar f).1.length+1:Nat):Int)-1)=(((aF ar f).1.length:Nat):Int):=wW;refine lf jD (bP aR wp wl) ?_ ?_
   ·exact⟨⟨_,rfl⟩,⟨_,rfl⟩,⟨oM,oM⟩,oM,oM⟩
   refine vr jD aR ?_;refine⟨(j,(aF ar f).1++[⟨1,S,0,0,0,0⟩],{ (aF ar f).2 with fac:=(aF ar f).1.length },pre),⟨⟨oM,oM⟩,by simp only[List.length_append,List.length_singleton];omega,hp,n,oM,hrun⟩,by simp only;omega,?_⟩
   exact wM (λk=>if k=57 then .key 672 else if k=58 then .key 465 else .key k) (eS aR @vC @eL @cm)
 ·have hN:¬ i<s.size:=by simpa using hc
  rw[if_neg hN]at hrun;have hrq:Jd s=.ok (ar,f,pre.reverse):=hR.trans hrun.symm;refine wE ?_;refine Wp.seq ?_;refine vR jD aR ?_;refine wC aR (λhc=>?_) (λhc=>?_)
  ·have hpn:pre.reverse≠[]:=by
    intro h;have:=congrArg List.length h;simp at this;subst this;simp at hc
   rw[TW hb hrq hpn];refine lf jD (aa aR wp) ?_ ?_
   ·exact⟨⟨_,rfl⟩,⟨oM,oM⟩,oM⟩
   refine wZ aR ?_;exact⟨.v bS,⟨dE,.inr ⟨rfl,rfl,rfl⟩⟩,λE=>rfl⟩
  have hp0:pre=[]:=by
   have:pre.length=0:=by simp at hc;omega
   exact List.eq_nil_of_length_eq_zero this
  subst hp0;have hcl:=pc ar f;obtain⟨ts0,t0,a1,a2,a3⟩:=acq hrq;have hlt0:(aP ar f).2.alt.toNat<ts0.length:=(List.getElem?_eq_some_iff.1 a3).1;have hle0:=a1.len;refine wK ?_;refine wR (L3 ar [] f) aR ?_ ?_
  ·exact⟨⟨rfl,oM⟩,dE,sI⟩
  refine wR jD (aa aR @D3) ?_ ?_
  ·decide
  refine Wp.seq ?_;refine wR (Γ74 (aP ar f).1) (eS aR @D3 @OQ (Fg (oE (aP ar f).1) (aP ar f).2.alt.toNat (by rw[mu];omega))) ?_ ?_
  ·exact⟨⟨⟨_,rfl,rfl,rfl,rfl⟩,a1.ok,oM⟩,⟨oM,oM⟩,by rw[mu];omega⟩
  refine wC aR (λhc=>?_) (λhc=>?_)
  ·have hz:2000<(oE (aP ar f).1).getD (aP ar f).2.alt.toNat 0:=by simpa using hc
   rw[VZ hb hrq hz];refine vR jD aR ?_;refine wZ aR ?_;exact⟨.v bS,⟨dE,.inr ⟨rfl,rfl,rfl⟩⟩,λE=>rfl⟩
  have hz:¬ 2000<(oE (aP ar f).1).getD (aP ar f).2.alt.toNat 0:=by simpa using hc
  obtain⟨ts,t,hd,b1,b2,b3,b4,b5⟩:=agi hb hrq hz;rw[hd];refine wK ?_;refine Wp.tI 288 (ev (aa aR @aJ)) (λE=>by simp only[au,den,aJ];exact rfl) λW1 bs1 ao c1 hx1 hs1 hc1=>?_
  have htt:ts.getD (aP ar f).2.alt.toNat .eps=t:=by rw[List.getD_eq_getElem?_getD,b4];rfl
  rw[<- htt]at b5 ⊢;have hout:gO W1 (Out bs1) ao (dD (aP ar f).1):=hs1.out λb hb=>hb.out
  refine aV ⟨100,bm [(2,.is (.own 0 0)),(5,.is (.own 56 0)),(19,.is (.v (.int .i64 (aP ar f).2.alt))),(20,.is (.own 64 0))],aY [(0,.cells 64 [.v (.slice none 0 0),.v (.int .i64 0)]),(56,.cells 232 [.v (.slice ao (aP ar f).1.length c1),.hd 58]),(58,.row 234 6 1 (List.map SV.v ((aP ar f).2.bw))),(64,.cells 64 [.hd 65,.v (.int .i64 0)]),(65,.row 243 261 0 [])]⟩ ?_ ?_
  ·skip;refine vr jD aR ?_;exact wM (λk=>if k=58 then .key 289 else if k=64 then .key 432 else if k=65 then .nil else .key k) (eS aR @eL @D3 @Fm.bw.eq_1)
  refine wR (Γ75 (aP ar f).1 ts ao c1 _ (J7 (aP ar f).1 ts ao c1 b1 (aP ar f).1.length (Nat.le_refl _))) aR ?_ ?_
  ·exact⟨⟨⟨[],rfl,rfl⟩,⟨b2,oM⟩,oM,hout⟩,dE,sI⟩
  refine vR jD aR ?_;refine wZ aR ?_;exact⟨_,⟨dE,.inl ⟨_,rfl,rfl⟩⟩,λE=>rfl⟩
section
variable {c:Int->Int}{N:Int}{rd:Int->Except (Int×Int) (BitVec 256×Int)}(hrd:∀ i e,rd i=.error e->e.1≠0)
include hrd
theorem Nf{i:Int}{ar:List Nd}{f:Fm}{rest:List Fm}{e:Int×Int}(h:oy c N rd i ar f rest=.error e):e.1≠0:=by
 unfold oy at h;split at h
 ·split at h
  ·cases h;show (20:Int)≠0;omega
  ·unfold J6 at h;split at h
   ·rename_i e1 hm;cases h;by_cases h1:c i=123
    ·rw[EF h1]at hm;exact IQ hm
    ·rw[ER h1]at hm;cases hm
   ·cases h
 ·split at h
  ·cases h
  ·split at h
   ·cases h
   ·split at h
    ·unfold aix at h;split at h
     ·cases h;show (20:Int)≠0;omega
     ·cases h
    ·split at h
     ·split at h
      ·cases h;show (23:Int)≠0;omega
      ·cases h
     ·unfold OU at h;split at h
      ·rename_i e1 hm;cases h;exact hrd _ _ hm
      ·cases h
theorem Di:∀ (n:Nat) (i:Int) (ar:List Nd) (f:Fm) (rest:List Fm) (e:Int×Int),rY c N rd n i ar f rest=.error e->e.1≠0
 |0,i,ar,f,rest,e,h=>by cases h
 | n+1,i,ar,f,rest,e,h=>by
  rw[rY]at h;split at h
  ·split at h
   ·rename_i e1 hs;cases h;exact Nf hrd hs
   ·exact Di n _ _ _ _ e h
  ·cases h
theorem JJ{e:Int×Int}(h:ky c N rd=.error e):e.1≠0:=by
 unfold ky at h;split at h
 ·cases h;show (1:Int)≠0;omega
 ·unfold Gr at h;split at h
  ·rename_i e1 hr;cases h;exact Di hrd _ _ _ _ _ _ hr
  ·split at h
   ·cases h;show (21:Int)≠0;omega
   ·split at h
    ·cases h;show (24:Int)≠0;omega
    ·cases h
end
theorem Cw{s:ByteArray}{c p:Int}(h:kL s=.error (c,p)):c≠0:=by
 have hd:iN (bt s) s.size (gU s)=.error (c,p):=h;have h1:=nF (c:=bt s) (N:=s.size) (rd:=gU s) oM;rw[hd]at h1;cases h2:ky (bt s) s.size (gU s) with
 | error e=>
  rw[h2]at h1;have he:(c,p)=e:=h1;have:=JJ (rd:=gU s) (λi e hi=>by
   unfold gU at hi
   split at hi
   ·cases hi;show (10:Int)≠0;omega
   ·cases hi) h2
  rw[<- he]at this;exact this
 |ok q=>rw[h2]at h1;exact h1.elim
theorem aar{P:Program}{eqs:(T:TypeId)->Option (EqSpec P T)}(h:Hp)(T:TypeId)(X Y:Operand)(b:ByteArray):bE P eqs h .eql T X Y [.v undef,.v (.string b)]=.bad:=rfl
theorem Nc(W:World):mw.res W [.val .nilIface]=undef:=by
 have hn:dec aH .nilIface=none:=by
  unfold dec;rw[dif_neg];rintro⟨t,ht⟩;cases t<;>cases ht
 simp only[mw,hn]
noncomputable def Γ85:Env prog:=⟨λ| 71=>some D8.spec|72=>some mw.spec|_=>none,λ| 39=>some vJ|_=>none,λ_ _=>none⟩
theorem ajU:Γ85.sp 71=some D8.spec:=rfl
theorem aik:Γ85.sp 72=some mw.spec:=rfl
theorem Xr:Γ85.eqs 39=some vJ:=rfl
def I9:=(aj @List.replicate_succ.{0} @List.replicate_zero.{0} @an @ab jk jn gR (aj ck cf b9 b8 ca cc cg (aj cd dc df dh db cY c8 (aj zl yK yS y5 Bb AY AI (aj AO Ar yQ yX AW Aa Al (aj A5 AB alJ al5 vN wx wL (aj w7 akR ak8 @aG @al @ax @aw (aj @Ln @MV @Ka @G0 @se @e8 @dW (aj @jG @bZ @aar @bad_eq @Nc ajU aik Xr)))))))))
theorem Sv(s:ByteArray)(w:World)(hs:s.size<=140737488351232)(hg:bB w (Out [])):Calls prog 33 #[.string s] w λe w' => e=.returned (.bool (uq s))/\ah w [] w' := by
 refine af (nt:=19) [.tmp 2] func33 rfl rfl rfl ?_;refine vR Γ85 I9 ?_;cases hd:kL s with
 |error q=>
  obtain⟨c,p⟩:=q;have hp:rB s=.error (c,p):=by rw[Dl,hd];rfl
  have hne:=Cw hd;have ht:uq s=false:=by rw[uq,hd]
  rw[ht];refine wR Γ85 (oA I9 hp @rZ.eq_1 @rZ.eq_2 @yh.eq_1) ?_ ?_
  ·exact⟨hs,hg⟩
  refine wR Γ85 (aa I9 hne) ?_ ?_
  ·simp
  refine wZ I9 ?_;exact λE=>rfl
 |ok t=>
  have hp:rB s=.ok t.expand:=by rw[Dl,hd];rfl
  have hsz:=yP hd;have ht:uq s=decide (cr t.expand=s):=by rw[uq,hd]
  rw[ht];refine wR Γ85 (oA I9 hp @rZ.eq_1 @rZ.eq_2 @yh.eq_1) ?_ ?_
  ·exact⟨hs,hg⟩
  refine wR Γ85 I9 ?_ ?_
  ·exact λ_=>⟨oM,hg⟩
  refine wZ I9 ?_;exact λE=>rfl
def ql:aM prog 33 where
 pre:=λW bs=>λ| [.val (.string s)]=>s.size<=140737488351232/\bB W (Out bs)|_=>False
 res:=λW=>λ| [.val (.string s)]=>.bool (uq s)|_=>undef
 enters:=call33
 ok:=by
  intro W w bs us as_ hk hu hp;split at hp
  ·rename_i s
   match us,hu with
   |[u0],hu=>
    obtain⟨rfl,_⟩:=hu;exact Sv s w hp.1 (hp.2.dU hk sI)
  ·exact hp.elim
theorem rO(W:World)(s:ByteArray):ql.res W [.val (.string s)]=.bool (uq s):=rfl
theorem rG(W:World)(bs:List Nat)(s:ByteArray):ql.pre W bs [.val (.string s)]=(s.size<=140737488351232/\bB W (Out bs)):=rfl
def pT:Except (Int×Int) RT->SV->SV
 |.ok t,x=>.tup [.agg [x,.v (.int .i64 ((aI t.expand-1:Nat):Int))],.v (.int .i64 0),.v (.int .i64 0)]
 |.error (c,p),x=>.tup [.agg [x,.v (.int .i64 0)],.v (.int .i64 c),.v (.int .i64 p)]
def El(s:ByteArray):xu prog 69 where
 pre:=λW bs as_=>as_=[.val (.string s)]/\s.size<=140737488351232
 T:=243
 s:=261
 n:=λ_ _=>pN (kL s)
 vs:=λ_ _=>pV (kL s)
 tm:=λ_ _ x=>pT (kL s) x
 g:=λ_ _ v=>pG (kL s) v
 tmg:=λ_ _ E x=>by cases kL s with|ok t=>rfl|error q=>rfl
 tmk:=λ_ _ x k hk=>by
  cases hd:kL s with
  |ok t=>rw[hd]at hk;simpa [pT,SV.keys,ay] using hk
  |error q=>rw[hd]at hk;simpa [pT,SV.keys,ay] using hk
 enters:=call69
 ok:=by
  intro W w bs us as_ hk hu hp;obtain⟨rfl,h1⟩:=hp
  match us,hu with
  |[u],hu=>
   obtain⟨rfl,_⟩:=hu;exact K9 s h1 w
noncomputable def Γ86(s:ByteArray):Env prog:=⟨λ| 69=>some (El s).spec|_=>none,λ_=>none,λ_ _=>none⟩
theorem aiL(s:ByteArray):(Γ86 s).sp 69=some (El s).spec:=rfl
noncomputable def Γ87(l:List Nd)(ao:Option Addr)(c:Nat)(i:Nat)(t:Rx)(hsz:aI t<=4000000)(ht:oW l i t):Env prog:=⟨λ| 60=>some (x9 l ao c i t hsz ht).spec|_=>none,λ_=>none,λ_ _=>none⟩
theorem aiQ(l:List Nd)(ao:Option Addr)(c:Nat)(i:Nat)(t:Rx)(hsz:aI t<=4000000)(ht:oW l i t):(Γ87 l ao c i t hsz ht).sp 60=some (x9 l ao c i t hsz ht).spec:=rfl
theorem aeg:aI .eps<=4000000:=by decide
theorem aeJ:oW [cl 0 0 0] 0 .eps:=⟨_,rfl,rfl⟩
noncomputable def aah:aM prog 60:=x9 [cl 0 0 0] none 0 0 .eps aeg aeJ
noncomputable def Γ88:Env prog:=⟨λ| 60=>some aah.spec|_=>none,λ_=>none,λ_ _=>none⟩
theorem ajF:Γ88.sp 60=some aah.spec:=rfl
theorem Ra(W:World)(l:List AV):aah.res W l=.string (cr .eps):=rfl
def EP:=(aj I9 @rO @rG @aiL @aiQ @El.eq_1 @x9.eq_1 (aa @ajF @Ra))
theorem Te(s:ByteArray)(w:World)(hs:s.size<=140737488351232):Calls prog 30 #[.string s] w λe w' => e=.returned (.bool (uq s))/\ah w [] w' := by
 refine af (nt:=20) [.tmp 2] func30 rfl rfl rfl ?_;refine vR Γ85 EP ?_;cases hd:kL s with
 |error q=>
  obtain⟨c,p⟩:=q;have hne:=Cw hd;have ht:uq s=false:=by rw[uq,hd]
  rw[ht];refine wR (Γ86 s) (aj EP hd @pN.eq_1 @pN.eq_2 @pV.eq_1 @pV.eq_2 @pT.eq_1 @pT.eq_2) ?_ ?_
  ·exact hs
  refine Wp.tI 16 (ev EP) (λE=>by simp only[au,den,List.map_nil];exact rfl) λW1 bs1 ao c1 hx1 hs1 hc1=>?_
  refine wR Γ88 (aa EP hne) ?_ ?_
  ·simp
  refine wZ EP ?_;exact λE=>rfl
 | ok t=>
  have hsz:=yP hd;have ht:uq s=decide (cr t.expand=s):=by rw[uq,hd]
  have hit:oW (eA 0 t.expand) (aI t.expand-1) t.expand:=by
   have:=ajr t.expand [] [];simpa using this
  have hll:=gp t.expand 0;rw[ht];refine wR (Γ86 s) (aj EP hd @pN.eq_1 @pN.eq_2 @pV.eq_1 @pV.eq_2 @pT.eq_1 @pT.eq_2) ?_ ?_
  ·exact hs
  refine Wp.tI 16 (ev (aa EP @aJ)) (λE=>by simp only[au,den,aJ];exact rfl) λW1 bs1 ao c1 hx1 hs1 hc1=>?_
  have hout:gO W1 (Out bs1) ao (dD (eA 0 t.expand)):=hs1.out λb hb=>hb.out
  refine wR (Γ87 (eA 0 t.expand) ao c1 (aI t.expand-1) t.expand oM hit) EP ?_ ?_
  ·exact⟨by rw[hll],hout⟩
  refine wZ EP ?_;exact λE=>rfl
def u5:aM prog 30 where
 pre:=λW bs=>λ| [.val (.string s)]=>s.size<=140737488351232|_=>False
 res:=λW=>λ| [.val (.string s)]=>.bool (uq s)|_=>undef
 enters:=call30
 ok:=by
  intro W w bs us as_ hk hu hp;split at hp
  ·rename_i s
   match us,hu with
   |[u0],hu=>
    obtain⟨rfl,_⟩:=hu;exact Te s w hp
  ·exact hp.elim
theorem zi(W:World)(s:ByteArray):u5.res W [.val (.string s)]=.bool (uq s):=rfl
theorem zC(W:World)(bs:List Nat)(s:ByteArray):u5.pre W bs [.val (.string s)]=(s.size<=140737488351232):=rfl
structure Pg where
 ty:List ByteArray
 tx:List ByteArray
 co:List (Int×Int×Int×Int)
 src:Int
 vw:Int
def aE(l:List ByteArray):List Value:=l.map .string
def inL(x:Int×Int×Int×Int):List Value:=[.int .i64 x.1,.int .i64 x.2.1,.int .i64 x.2.2.1,.int .i64 x.2.2.2]
def cn(l:List (Int×Int×Int×Int)):List Value:=l.flatMap inL
theorem tw(l:List (Int×Int×Int×Int)):(cn l).length=l.length*4:=by
 induction l with
 |nil=>rfl
 |cons d r ih=>
  have:cn (d::r)=inL d++cn r:=rfl;rw[this,List.length_append,ih,List.length_cons];show 4+_=_;omega
theorem Ic:∀ (l:List (Int×Int×Int×Int)) (k j:Nat) (hk:k<l.length),j<4->(cn l)[k*4+j]?=(inL l[k])[j]?
 |d::r,0,j,hk,hj=>by
  have:cn (d::r)=inL d++cn r:=rfl;rw[this,List.getElem?_append_left (by show 0*4+j<4;omega),Nat.zero_mul,Nat.zero_add];rfl
 |d::r,k+1,j,hk,hj=>by
  have:cn (d::r)=inL d++cn r:=rfl;rw[this,List.getElem?_append_right (by show 4<=_;omega),show (k+1)*4+j-(inL d).length=k*4+j by show _-4=_;omega];exact Ic r k j (by simpa using hk) hj
theorem nh{w:World}{ao:Option Addr}{l:List ByteArray}(h:kJ w ao (aE l)){k:Nat}(hk:k<l.length):∃ b o,ao=some ⟨b,o,none⟩/\w.cell? ⟨b,o+k,none⟩=some (.string l[k]):=by
 rcases h with h|⟨b,o,rfl,hc⟩
 ·have h0:l=[]:=by simpa [aE] using h
  subst h0;cases hk
 ·refine⟨b,o,rfl,?_⟩;have:=hc k (by simpa [aE] using hk);rw[this];simp[aE]
theorem pq{w:World}{ao:Option Addr}{l:List (Int×Int×Int×Int)}(h:kJ w ao (cn l)){k:Nat}(hk:k<l.length):∃ b o,ao=some ⟨b,o,none⟩/\w.cell? ⟨b,o+k*4,none⟩=some (.int .i64 l[k].1) /\
  w.cell? ⟨b,o+k*4+1,none⟩=some (.int .i64 l[k].2.1)/\w.cell? ⟨b,o+k*4+1+1,none⟩=some (.int .i64 l[k].2.2.1)/\w.cell? ⟨b,o+k*4+1+1+1,none⟩=some (.int .i64 l[k].2.2.2):=by
 have hl:=tw l;rcases h with h|⟨b,o,rfl,hc⟩
 ·rw[h]at hl;simp at hl;omega
 ·have key:∀ j (hj:j<4) (v:Value),(inL l[k])[j]?=some v->w.cell? ⟨b,o+k*4+j,none⟩=some v:=λj hj v hv=>by
   have h1:=hc (k*4+j) oM;have h2:=Ic l k j hk hj;rw[hv,List.getElem?_eq_getElem oM]at h2;rw[<- Nat.add_assoc]at h1;rw[h1];exact h2
  exact⟨b,o,rfl,key 0 oM _ rfl,key 1 oM _ rfl,key 2 oM _ rfl,key 3 oM _ rfl⟩
def cS(P:Nat->Bool):Nat->Nat->Option Nat
 |0,_=>none
 |k+1,j=>bif P j then some j else cS P k (j+1)
theorem lu(P:Nat->Bool)(n j:Nat)(hj:j<n)(h:∀ i<j,P i=false)(hp:P j=true):cS P n 0=some j:=by
 have key:∀ k i,i+k=n->i<=j->cS P k i=some j:=by
  intro k
  induction k with
  |zero=>intro i h1 h2;omega
  | succ k ih=>
   intro i h1 h2;unfold cS;by_cases e:i=j
   ·subst e;rw[hp];rfl
   ·rw[h i oM];exact ih (i+1) oM oM
 exact key n 0 oM (Nat.zero_le _)
theorem iH(P:Nat->Bool)(n:Nat)(h:∀ i<n,P i=false):cS P n 0=none:=by
 have key:∀ k i,i+k=n->cS P k i=none:=by
  intro k
  induction k with
  |zero=>intro i h1;rfl
  |succ k ih=>
   intro i h1;unfold cS;rw[h i oM];exact ih (i+1) oM
 exact key n 0 oM
section
variable (p:Pg)
def oR(i:Nat):Bool:=!uq (p.ty.getD i ⟨#[]⟩)
def rW(i:Nat):Bool:=!nP p.ty.length p.tx.length p.co.length (p.co.getD i (0,0,0,0)).1 (p.co.getD i (0,0,0,0)).2.1 (p.co.getD i (0,0,0,0)).2.2.1 (p.co.getD i (0,0,0,0)).2.2.2
def oN:ByteArray:=⟨#[109,97,105,110]⟩
def eX:Int×Int×ByteArray:=
 if (!ou p.src p.ty.length||!ou p.vw p.ty.length)=true then (111,0,oN)
 else match cS (rW p) p.co.length 0 with
  |some i=>(111,i,⟨#[]⟩)
  |none=>(0,0,⟨#[]⟩)
def gW:Int×Int×ByteArray:=
 if (131072<p.ty.length\/131072<p.tx.length)\/131072<p.co.length then (24,0,⟨#[]⟩)
 else match cS (oR p) p.ty.length 0 with
  |some i=>(110,i,⟨#[]⟩)
  |none=>eX p
structure PgB:Prop where
 l1:p.ty.length<=140737488351232
 l2:p.tx.length<=140737488351232
 l3:p.co.length<=140737488351232
 sz:∀ s∈p.ty,s.size<=140737488351232
structure Ci (w:World)(a1 a2 a3:Option Addr):Prop extends PgB p where
 ty:kJ w a1 (aE p.ty)
 tx:kJ w a2 (aE p.tx)
 co:kJ w a3 (cn p.co)
def PgX(W:World)(S:Nat->Prop)(a1 a2 a3:Option Addr):Prop:=gO W S a1 (aE p.ty)/\gO W S a2 (aE p.tx)/\gO W S a3 (cn p.co)
theorem PgX.ok{p:Pg}{W w:World}{bs:List Nat}{a1 a2 a3:Option Addr}(h:PgX p W (Out bs) a1 a2 a3)(hb:PgB p)(hk:ah W bs w):Ci p w a1 a2 a3:=
 ⟨hb,gH h.1 hk,gH h.2.1 hk,gH h.2.2 hk⟩
theorem Ci.x{p:Pg}{w:World}{a1 a2 a3:Option Addr}(h:Ci p w a1 a2 a3):PgX p w (Out []) a1 a2 a3:=
 ⟨(gO.oJ h.ty).out λ_ _=>by simp[Out],(gO.oJ h.tx).out λ_ _=>by simp[Out],(gO.oJ h.co).out λ_ _=>by simp[Out]⟩
abbrev prV (a1 a2 a3:Option Addr)(c1 c2 c3:Nat):Value:=pgV a1 a2 a3 p.ty.length p.tx.length p.co.length c1 c2 c3 p.src p.vw
def Gc(q:Int×Int×ByteArray):Value:=yh q.1 q.2.1 q.2.2
end
theorem amO(n1 n2 n3:Nat)(n:Int):sZ n1 n2 n3 2 n=ou n n1:=rfl
noncomputable def CZ:Env prog:=⟨λ| 33=>some ql.spec|73=>some Cv.spec|74=>some Fh.spec|_=>none,λ| _=>none,λ_ _=>none⟩
theorem aie:CZ.sp 33=some ql.spec:=rfl
theorem ajf:CZ.sp 73=some Cv.spec:=rfl
theorem aiF:CZ.sp 74=some Fh.spec:=rfl
def nT:=(aj @List.replicate_succ.{0} @List.replicate_zero.{0} @an @ab jk jn gR (aj ck cf b9 b8 ca cc cg (aj cd dc df dh db cY c8 (aj rD sq rV rQ GS HG Hl (aj HX yW yM zA yI Bv Ad (aj yG Bj zK zl yK yS y5 (aj Bb AY AI AO Ar yQ BZ (aj Cf Ce Cb Cg Ck B9 Cj (aj rn G4 Ib H9 GW @aG @al (aj @ax @aw @DG @DF @Lm @KQ @rO (oA @rG @se aie ajf aiF)))))))))))
theorem DH(p:Pg)(a1 a2 a3:Option Addr)(c1 c2 c3:Nat)(w:World)(hp:Ci p w a1 a2 a3)(hg:fR w (Out [])):Calls prog 34 #[prV p a1 a2 a3 c1 c2 c3] w λe w' => e=.returned (Gc (eX p))/\ah w [] w' := by
 have h3:=hp.l3;refine af (nt:=34) [.cell 2 39] func34 rfl rfl rfl ?_;refine vR CZ nT ?_;refine Wp.seq ?_;refine vR CZ (aa nT @amO) ?_;refine wC nT (λhc=>?_) (λhc=>?_)
 ·have e:eX p=(111,0,oN):=by rw[eX,if_pos hc]
  rw[e];refine vR CZ nT ?_;refine wZ nT ?_;exact λE=>rfl
 have e0:eX p=match cS (rW p) p.co.length 0 with
  |some i=>(111,(i:Int),⟨#[]⟩)
  |none=>(0,0,⟨#[]⟩):=by rw[eX,if_neg (by rw[hc];simp)]
 rw[e0];refine wK ?_;refine Wp.seq ?_;refine vR CZ nT ?_;refine Wp.block ?_
 refine Wp.loop (λk:Nat=>⟨40,bm [(1,.is (.own 0 0)),(2,.is (.own 8 0)),(19,.is (.v (.slice a3 p.co.length c3))),(20,.is (.v (.int .i64 p.co.length))),(21,.is (.v (.int .i64 (k:Nat))))],aY [(0,.cells 29 [.v (.slice a1 p.ty.length c1),.v (.slice a2 p.tx.length c2),.v (.slice a3 p.co.length c3),.v (.int .i64 p.src),.v (.int .i64 p.vw)]),(8,.cells 39 [.v (.int .i64 0),.v (.int .i64 0),.v (.string ⟨#[]⟩)])]⟩) (λk=>k<=p.co.length/\∀ i<k,rW p i=false) (λk=>p.co.length-k) 0 ?_ ⟨Nat.zero_le _,λi h=>by omega⟩ ?_
 ·exact wM (λk=>.key k) nT
 rintro k ⟨hk,hn⟩;refine vR CZ nT ?_;refine Wp.seq ?_;refine wC nT (λhc=>?_) (λhc=>?_)
 ·have hlt:k<p.co.length:=by
   simp at hc;omega
  have wk:IntKind.i64.wrap ((k:Int)+1)=((k+1:Nat):Int):=wW;obtain⟨b,o,rfl,x1,x2,x3,x4⟩:=pq hp.co hlt;have hbad:rW p k=!nP p.ty.length p.tx.length p.co.length p.co[k].1 p.co[k].2.1 p.co[k].2.2.1 p.co[k].2.2.2:=by
   rw[rW,List.getD_eq_getElem?_getD,List.getElem?_eq_getElem hlt];rfl
  generalize p.co[k]=x at *;refine wK ?_;refine Wp.seq (Wp.block ?_);refine wR CZ (oA nT x1 x2 x3 x4) ?_ ?_
  ·omega
  refine wR CZ nT ?_ ?_
  ·exact hg
  refine wC nT (λhc=>?_) (λhc=>?_)
  ·rw[lu (rW p) p.co.length k hlt hn (hbad.trans hc)];refine vR CZ nT ?_;refine wZ nT ?_;exact λE=>rfl
  ·refine wK ?_;refine vr CZ (aa nT wk) ?_;refine⟨k+1,⟨oM,λi hi=>?_⟩,oM,?_⟩
   ·by_cases h:i=k
    ·rw[h];exact hbad.trans hc
    ·exact hn i oM
   ·exact wM (λk=>.key k) nT
 ·have hk' : k=p.co.length:=by
   simp at hc;omega
  rw[iH (rW p) p.co.length (by rw[<- hk'];exact hn)];refine wE ?_;refine vR CZ nT ?_;refine wZ nT ?_;exact λE=>rfl
section
variable (p:Pg)(a1 a2 a3:Option Addr)(c1 c2 c3:Nat)(hb:PgB p)
def Kv:aM prog 34 where
 pre:=λW bs as_=>as_=[.val (prV p a1 a2 a3 c1 c2 c3)]/\PgX p W (Out bs) a1 a2 a3/\fR W (Out bs)
 res:=λ_ _=>Gc (eX p)
 enters:=call34
 ok:=by
  intro W w bs us as_ hk hu hp;obtain⟨rfl,h1,h2⟩:=hp
  match us,hu with
  |[x],hu=>
   obtain⟨rfl,_⟩:=hu;exact DH p a1 a2 a3 c1 c2 c3 w (h1.ok hb hk) (h2.dU hk sI)
noncomputable def Γ92:Env prog:=⟨λ| 33=>some ql.spec|34=>some (Kv p a1 a2 a3 c1 c2 c3 hb).spec|_=>none,λ_=>none,λ_ _=>none⟩
theorem ajy:(Γ92 p a1 a2 a3 c1 c2 c3 hb).sp 33=some ql.spec:=rfl
theorem ajV:(Γ92 p a1 a2 a3 c1 c2 c3 hb).sp 34=some (Kv p a1 a2 a3 c1 c2 c3 hb).spec:=rfl
end
theorem Mm(q:Int×Int×ByteArray):partsOf (.v (Gc q))=[.v (.int .i64 q.1),.v (.int .i64 q.2.1),.v (.string q.2.2)]:=rfl
def oT:=(oA nT @ajy @ajV @Kv.eq_1 @Mm)
theorem Nt(p:Pg)(a1 a2 a3:Option Addr)(c1 c2 c3:Nat)(w:World)(hp:Ci p w a1 a2 a3)(hg:fR w (Out []))(he:bB w (Out [])):Calls prog 15 #[prV p a1 a2 a3 c1 c2 c3] w λe w' => e=.returned (Gc (gW p))/\ah w [] w' := by
 have hx:=hp.x;have hb:=hp.toPgB;have h1:=hp.l1;refine af (nt:=33) [.cell 2 39] func15 rfl rfl rfl ?_;refine vR CZ oT ?_;refine Wp.seq ?_;refine wR CZ oT ?_ ?_
 ·exact⟨⟨_,rfl⟩,⟨_,rfl⟩,_,rfl⟩
 refine wC oT (λhc=>?_) (λhc=>?_)
 ·have h:(131072<p.ty.length\/131072<p.tx.length)\/131072<p.co.length:=by
   simp at hc;omega
  have e:gW p=(24,0,⟨#[]⟩):=by rw[gW,if_pos h]
  rw[e];refine vR CZ oT ?_;refine wZ oT ?_;exact λE=>rfl
 have h:¬ ((131072<p.ty.length\/131072<p.tx.length)\/131072<p.co.length):=by
  simp at hc;omega
 have e0:gW p=match cS (oR p) p.ty.length 0 with
  |some i=>(110,(i:Int),⟨#[]⟩)
  |none=>eX p:=by rw[gW,if_neg h]
 rw[e0];refine wK ?_;refine Wp.seq ?_;refine vR CZ oT ?_;refine Wp.block ?_
 refine Wp.loop (λk:Nat=>⟨40,bm [(1,.is (.own 0 0)),(2,.is (.own 8 0)),(18,.is (.v (.slice a1 p.ty.length c1))),(19,.is (.v (.int .i64 p.ty.length))),(20,.is (.v (.int .i64 (k:Nat))))],aY [(0,.cells 29 [.v (.slice a1 p.ty.length c1),.v (.slice a2 p.tx.length c2),.v (.slice a3 p.co.length c3),.v (.int .i64 p.src),.v (.int .i64 p.vw)]),(8,.cells 39 [.v (.int .i64 0),.v (.int .i64 0),.v (.string ⟨#[]⟩)])]⟩) (λk=>k<=p.ty.length/\∀ i<k,oR p i=false) (λk=>p.ty.length-k) 0 ?_ ⟨Nat.zero_le _,λi h=>by omega⟩ ?_
 ·exact wM (λk=>.key k) oT
 rintro k ⟨hk,hn⟩;refine vR CZ oT ?_;refine Wp.seq ?_;refine wC oT (λhc=>?_) (λhc=>?_)
 ·have hlt:k<p.ty.length:=by
   simp at hc;omega
  have wk:IntKind.i64.wrap ((k:Int)+1)=((k+1:Nat):Int):=wW;obtain⟨b,o,rfl,x1⟩:=nh hp.ty hlt;have hsz:=hp.sz _ (List.getElem_mem hlt);have hbad:oR p k=!uq p.ty[k]:=by
   rw[oR,List.getD_eq_getElem?_getD,List.getElem?_eq_getElem hlt];rfl
  generalize p.ty[k]=x at *;refine wK ?_;refine Wp.seq (Wp.block ?_);refine wR (Γ92 p (some ⟨b,o,none⟩) a2 a3 c1 c2 c3 hb) (aa oT x1) ?_ ?_
  ·omega
  refine wR (Γ92 p (some ⟨b,o,none⟩) a2 a3 c1 c2 c3 hb) oT ?_ ?_
  ·exact⟨hsz,he⟩
  refine wC oT (λhc=>?_) (λhc=>?_)
  ·rw[lu (oR p) p.ty.length k hlt hn (hbad.trans hc)];refine vR CZ oT ?_;refine wZ oT ?_;exact λE=>rfl
  ·refine wK ?_;refine vr CZ (aa oT wk) ?_;refine⟨k+1,⟨oM,λi hi=>?_⟩,oM,?_⟩
   ·by_cases h:i=k
    ·rw[h];exact hbad.trans hc
    ·exact hn i oM
   ·exact wM (λk=>.key k) oT
 ·have hk' : k=p.ty.length:=by
   simp at hc;omega
  rw[iH (oR p) p.ty.length (by rw[<- hk'];exact hn)];refine wE ?_;refine wR (Γ92 p a1 a2 a3 c1 c2 c3 hb) oT ?_ ?_
  ·exact⟨hx,hg⟩
  refine wZ oT ?_;exact λE=>rfl
def qS(p:Pg)(a1 a2 a3:Option Addr)(c1 c2 c3:Nat)(hb:PgB p):aM prog 15 where
 pre:=λW bs as_=>as_=[.val (prV p a1 a2 a3 c1 c2 c3)]/\PgX p W (Out bs) a1 a2 a3/\fR W (Out bs)/\bB W (Out bs)
 res:=λ_ _=>Gc (gW p)
 enters:=call15
 ok:=by
  intro W w bs us as_ hk hu hp;obtain⟨rfl,h1,h2,h3⟩:=hp
  match us,hu with
  |[x],hu=>
   obtain⟨rfl,_⟩:=hu;exact Nt p a1 a2 a3 c1 c2 c3 w (h1.ok hb hk) (h2.dU hk sI) (h3.dU hk sI)
structure wo (op k a b:Int):Prop where
 op0:0<=op
 op1:op<21
 kk:k=0\/((gn op.toNat).2.1=true/\k=1)
 a0:0<=a
 a1:a<=9223372036854775807
 b0:0<=b
 b1:b<=9223372036854775807
theorem Y4{n1 n2 n3:Nat}{u n:Int}(h:sZ n1 n2 n3 u n=true)(h1:n1<=140737488351232)(h2:n2<=140737488351232)(h3:n3<=140737488351232):0<=n/\n<=9223372036854775807:=by
 unfold sZ at h
 repeat' split at h
 all_goals first
  |(simp[ou]at h;omega)
  |(simp at h;omega)
theorem wo.of{n1 n2 n3:Nat}{op k a b:Int}(h:nP n1 n2 n3 op k a b=true)(h1:n1<=140737488351232)(h2:n2<=140737488351232)(h3:n3<=140737488351232):wo op k a b:=by
 unfold nP at h;simp only[Bool.and_eq_true,Bool.or_eq_true,decide_eq_true_eq]at h;obtain⟨⟨⟨o0,o1⟩,hk⟩,ha,hb⟩:=h;have ha:=Y4 ha h1 h2 h3;have hb:=Y4 hb h1 h2 h3;exact⟨o0,o1,hk,ha.1,ha.2,hb.1,hb.2⟩
def svB(k:Int):ByteArray:=if k=0 then ⟨#[115]⟩ else ⟨#[118]⟩
def R9(n:Int)(wd:ByteArray):ByteArray:=gl n++⟨#[32]⟩++wd
def l2E(st:Bool)(k:Int)(o:ByteArray):ByteArray:=bif st then o++(⟨#[32]⟩++svB k) else o
def Kk(u a:Int)(o:ByteArray):ByteArray:=if u=0 then o else o++(⟨#[32]⟩++gl a)
def rj(n op k a b:Int):ByteArray:=Kk (gn op.toNat).2.2.2 b (Kk (gn op.toNat).2.2.1 a (l2E (gn op.toNat).2.1 k (R9 n (gn op.toNat).1)))
theorem JM{n:Int}{wd:ByteArray}(h0:0<=n)(h1:n<=9223372036854775807)(hw:wd.size<=5):(R9 n wd).size<=25:=by
 have:=eP h0 h1;have e:(⟨#[32]⟩:ByteArray).size=1:=rfl;unfold R9;rw[ByteArray.size_append,ByteArray.size_append,e];omega
theorem Ht(st:Bool)(k:Int)(o:ByteArray):(l2E st k o).size<=o.size+2:=by
 have e:(⟨#[32]⟩:ByteArray).size=1:=rfl;have e2:(svB k).size=1:=by unfold svB;split<;>rfl
 cases st
 ·show o.size<=_;omega
 ·show (o++(⟨#[32]⟩++svB k)).size<=_;rw[ByteArray.size_append,ByteArray.size_append,e,e2];omega
theorem A6{u a:Int}{o:ByteArray}(h0:0<=a)(h1:a<=9223372036854775807):(Kk u a o).size<=o.size+20:=by
 have:=eP h0 h1;have e:(⟨#[32]⟩:ByteArray).size=1:=rfl;unfold Kk;split
 ·omega
 ·rw[ByteArray.size_append,ByteArray.size_append,e];omega
theorem Iq(m:Nat)(hm:m<21):(gn m).1.size<=5:=by
 have:∀ b:Fin 21,(gn b.val).1.size<=5:=by decide +kernel
 exact this ⟨m,hm⟩
theorem AT{n op k a b:Int}(h0:0<=n)(h1:n<=9223372036854775807)(hi:wo op k a b):(rj n op k a b).size<=67:=by
 have g1:=JM (wd:=(gn op.toNat).1) h0 h1 (Iq _ (by have:=hi.op0;have:=hi.op1;omega));have g2:=Ht (gn op.toNat).2.1 k (R9 n (gn op.toNat).1);have g3:=A6 (u:=(gn op.toNat).2.2.1) (o:=l2E (gn op.toNat).2.1 k (R9 n (gn op.toNat).1)) hi.a0 hi.a1
 have g4:=A6 (u:=(gn op.toNat).2.2.2) (o:=Kk (gn op.toNat).2.2.1 a (l2E (gn op.toNat).2.1 k (R9 n (gn op.toNat).1))) hi.b0 hi.b1;unfold rj;omega
noncomputable def UU:Env prog:=⟨λ| 39=>some w5.spec|_=>none,λ| _=>none,λ_ _=>none⟩
theorem ajX:UU.sp 39=some w5.spec:=rfl
def mc:=(aj @List.replicate_succ.{0} @List.replicate_zero.{0} @an @ab jk jn gR (aj ck cf b9 b8 ca cc cg (aj cd dc df dh db cY c8 (aj BZ Cf Ce Cb Cg Ck B9 (aj Cj rn G4 Ib H9 GW Yj (aj aak Vu W5 aaN ZP Xz Xh (aj aaQ aaU Wj @aG @al @ax @aw (bP @qT @qR ajX))))))))
theorem Vg(n op k a b:Int)(h0:0<=n)(h1:n<=9223372036854775807)(hi:wo op k a b)(w:World)(hg:fR w (Out []))(ht:fC w (Out [])):Calls prog 40 #[.int .i64 n,inV op k a b] w λe w' => e=.returned (.string (rj n op k a b))/\LE.ah w [] w' := by
 obtain⟨o0,o1,hk,a0,a1,b0,b1⟩:=hi;obtain⟨m,rfl⟩:=Int.eq_ofNat_of_zero_le o0;obtain⟨g1,g2,g3,g4⟩:=hg.2 m oM;unfold rj;rw[Int.toNat_natCast]at hk ⊢;have hwd:=Iq m oM;have hnn:=eP h0 h1;have hna:=eP a0 a1;have hnb:=eP b0 b1;have z32:(⟨#[32]⟩:ByteArray).size=1:=rfl
 have zsv:∀ k,(svB k).size=1:=λk=>by unfold svB;split<;>rfl
 have z2:(⟨#[115,118]⟩:ByteArray).size=2:=rfl;generalize (gn m).1=wd at *;generalize (gn m).2.1=st at *;generalize (gn m).2.2.1=u1 at *;generalize (gn m).2.2.2=u2 at *;refine af (nt:=47) [.tmp 4] func40 rfl rfl rfl ?_;refine vR UU mc ?_;refine wR UU (oA mc g1 g2 g3 g4) ?_ ?_
 ·omega
 refine lf UU mc ?_ ?_
 ·exact⟨⟨⟨h0,h1⟩,ht⟩,by rw[z32];omega,by rw[ByteArray.size_append,z32];omega⟩
 have f1:=JM (wd:=wd) h0 h1 hwd;have f2:=Ht st k (R9 n wd);have f3:=A6 (u:=u1) (o:=l2E st k (R9 n wd)) a0 a1
 refine aV ⟨60,bm [(3,.is (.own 0 0)),(5,.is (.own 48 0)),(6,.is (.v (.string (l2E st k (R9 n wd)))))],aY [(0,.cells 50 [.v (.int .i64 m),.v (.int .i64 k),.v (.int .i64 a),.v (.int .i64 b)]),(48,.cells 160 [.v (.string wd),.v (.bool st),.v (.int .i64 u1),.v (.int .i64 u2)])]⟩ ?_ ?_
 ·skip;refine vR UU mc ?_;refine wC mc (λhc=>?_) (λhc=>?_)
  ·rcases hk with rfl|⟨_,rfl⟩
   ·have e2:l2E st 0 (R9 n wd)=gl n++⟨#[32]⟩++wd++(⟨#[32]⟩++svB 0):=by rw[hc];rfl
    have e3:(⟨#[115,118]⟩:ByteArray).extract 0 1=svB 0:=by decide +kernel
    have w1:IntKind.i64.wrap (0+1)=1:=by decide +kernel
    refine wr UU (bP mc w1 e3) ?_ ?_
    ·rw[ByteArray.size_append,ByteArray.size_append,ByteArray.size_append,z2,z32,zsv];exact⟨dE,oM,oM⟩
    exact wM (λk=>.key k) (aa mc e2)
   ·have e2:l2E st 1 (R9 n wd)=gl n++⟨#[32]⟩++wd++(⟨#[32]⟩++svB 1):=by rw[hc];rfl
    have e3:(⟨#[115,118]⟩:ByteArray).extract 1 2=svB 1:=by decide +kernel
    have w1:IntKind.i64.wrap (1+1)=2:=by decide +kernel
    refine wr UU (bP mc w1 e3) ?_ ?_
    ·rw[ByteArray.size_append,ByteArray.size_append,ByteArray.size_append,z2,z32,zsv];exact⟨dE,oM,oM⟩
    exact wM (λk=>.key k) (aa mc e2)
  ·have e2:l2E st k (R9 n wd)=gl n++⟨#[32]⟩++wd:=by rw[hc];rfl
   refine wK ?_;exact wM (λk=>.key k) (aa mc e2)
 generalize l2E st k (R9 n wd)=o2 at *
 refine aV ⟨100,bm [(3,.is (.own 0 0)),(5,.is (.own 48 0)),(6,.is (.v (.string (Kk u1 a o2))))],aY [(0,.cells 50 [.v (.int .i64 m),.v (.int .i64 k),.v (.int .i64 a),.v (.int .i64 b)]),(48,.cells 160 [.v (.string wd),.v (.bool st),.v (.int .i64 u1),.v (.int .i64 u2)])]⟩ ?_ ?_
 ·skip;refine vR UU mc ?_;refine wC mc (λhc=>?_) (λhc=>?_)
  ·have e2:Kk u1 a o2=o2++(⟨#[32]⟩++gl a):=by rw[Kk,if_neg (by simpa using hc)]
   refine wr UU mc ?_ ?_
   ·exact⟨⟨⟨a0,a1⟩,ht⟩,by rw[z32];omega,by rw[ByteArray.size_append,z32];omega⟩
   exact wM (λk=>.key k) (aa mc e2)
  ·have e2:Kk u1 a o2=o2:=by rw[Kk,if_pos (by simpa using hc)]
   refine wK ?_;exact wM (λk=>.key k) (aa mc e2)
 generalize Kk u1 a o2=o3 at *
 refine aV ⟨140,bm [(3,.is (.own 0 0)),(5,.is (.own 48 0)),(6,.is (.v (.string (Kk u2 b o3))))],aY [(0,.cells 50 [.v (.int .i64 m),.v (.int .i64 k),.v (.int .i64 a),.v (.int .i64 b)]),(48,.cells 160 [.v (.string wd),.v (.bool st),.v (.int .i64 u1),.v (.int .i64 u2)])]⟩ ?_ ?_
 ·skip;refine vR UU mc ?_;refine wC mc (λhc=>?_) (λhc=>?_)
  ·have e2:Kk u2 b o3=o3++(⟨#[32]⟩++gl b):=by rw[Kk,if_neg (by simpa using hc)]
   refine wr UU mc ?_ ?_
   ·exact⟨⟨⟨b0,b1⟩,ht⟩,by rw[z32];omega,by rw[ByteArray.size_append,z32];omega⟩
   exact wM (λk=>.key k) (aa mc e2)
  ·have e2:Kk u2 b o3=o3:=by rw[Kk,if_pos (by simpa using hc)]
   refine wK ?_;exact wM (λk=>.key k) (aa mc e2)
 refine vR UU mc ?_;refine wZ mc ?_;exact λE=>rfl
end
section
open Go.RowKit
set_option maxRecDepth 10000
theorem aj2:liesAt Tryz.prog Tryz.prog.depth 91 (2 / Tryz.prog.cellsOf 91) 0 91 1=true:=by kernel_rfl
theorem YH:(Tryz.prog.info? 91).map (·.size)=some 2:=by kernel_rfl
theorem alg:(Tryz.prog.info? 5).map (λi=>(i.zero,i.size,i.bytes))=some (some (.int .u8 0),1,1):=by kernel_rfl
theorem zY(b:Nat)(w:World)(h0:w.cell? ⟨b,0,none⟩=some (.pointer (some ⟨b,0,none⟩))) :
  Calls Tryz.prog 75 #[.pointer (some ⟨b,0,none⟩)] w λe w' => e=.returned (.tuple #[])/\w' = w:=by
 obtain⟨j,hj,_⟩:=Option.map_eq_some_iff.1 YH
 go_enter Tryz.func75,Tryz.ntmps75
 go_wp2
 rw[Lib.run_neq_ptr_same w _ Tryz.underlying88 hj]
 go_wp2
 go_end0
 exact⟨rfl,rfl⟩
theorem xE(b:Nat)(w:World)(h0:w.cell? ⟨b,0,none⟩=some (.pointer none))(hsh:w.shape? b=some (91,2))(hfz:w.frozen? ⟨b,0,none⟩=false) :
  Calls Tryz.prog 75 #[.pointer (some ⟨b,0,none⟩)] w λe w' => e=.returned (.tuple #[])/\w' = w.setCell ⟨b,0,none⟩ (.pointer (some ⟨b,0,none⟩)):=by
 obtain⟨j,hj,hjs⟩:=Option.map_eq_some_iff.1 YH
 go_enter Tryz.func75,Tryz.ntmps75
 go_wp2
 rw[Lib.run_to_unsafe w ⟨b,0,none⟩ Tryz.underlying88 Tryz.underlying257 hj (by rw[hjs];decide) hsh (Nat.zero_lt_succ 1)];simp only[Result.andThen];rw[Oper.upon_value]
 go_wp2
 rw[run_callFunc_extern Tryz.func130 (by kernel_rfl) (by kernel_rfl) (by kernel_rfl) (e:=Extern.AbiNoEscape.same) (by kernel_rfl)];rw[Lib.run_noEscape];simp only[Result.andThen];rw[Oper.upon_value]
 go_wp2
 rw[Lib.run_from_unsafe w ⟨b,0,none⟩ Tryz.underlying257 Tryz.underlying88 hj hsh aj2];simp only[Result.andThen];rw[Oper.upon_value]
 go_wp2
 go_end0
 exact⟨rfl,rfl⟩
theorem rr{w:World}{b:Nat}{T:TypeId}{x y:Value}(h:w.heap[b]?=some (.cells #[x,y] T (0,0)))(i:Nat)(v:Value):(w.setCell ⟨b,i,none⟩ v).heap[b]?=some (.cells (#[x,y].setIfInBounds i v) T (0,0)):=by
 have hlt:b<w.heap.size:=(Array.getElem?_eq_some_iff.1 h).1;have h' : w.heap[b]=.cells #[x,y] T (0,0):=(Array.getElem?_eq_some_iff.1 h).2;show (w.heap.modify b _)[b]?=_;rw[Array.getElem?_eq_getElem (by simpa using hlt),Array.getElem_modify_self,h'];rfl
theorem mB{w:World}(a:Addr)(v:Value)(k:Nat)(hk:k≠a.block):(w.setCell a v).heap[k]?=w.heap[k]?:=Below.heap_setCell w a v k hk
theorem B8(b:Nat)(p v:Value)(w:World)(hbk:w.heap[b]?=some (.cells #[p,v] 91 (0,0)))(hp:p=.pointer none\/p=.pointer (some ⟨b,0,none⟩)) :
  Calls Tryz.prog 75 #[.pointer (some ⟨b,0,none⟩)] w λe w' => e=.returned (.tuple #[])/\w'.heap[b]?=some (.cells #[.pointer (some ⟨b,0,none⟩),v] 91 (0,0))/\w'.heap.size=w.heap.size/\LE.ah w [b] w' := by
 rcases hp with rfl|rfl
 ·refine (xE b w (by rw[Lib.cell_of_heap hbk];rfl) (by simp[World.shape?,hbk]) (Lib.frozen_of_heap hbk 0)).mono ?_;rintro e w' ⟨rfl,rfl⟩;exact⟨rfl,rr hbk 0 _,by simp,⟨rfl,rfl,rfl,by simp,λk _ hk=>mB _ _ k (by simpa using hk)⟩⟩
 ·refine (zY b w (by rw[Lib.cell_of_heap hbk];rfl)).mono ?_;rintro e w' ⟨rfl,rfl⟩;exact⟨rfl,hbk,rfl,LE.ah.refl _ _⟩
theorem uS{w:World}(t u ty e:TypeId)(i:TypeInfo)(ht:Tryz.prog.underlying t=some (.slice e))(hu:Tryz.prog.underlying u=some .string)(hi:Tryz.prog.info? e=some i)(hz:i.zero=some (.int .u8 0))
  (hsize:i.size=1) (hby:i.bytes=1) (v:Value) (n:Nat) (xs:List Value) (hown:w.ownsRow 0 e 1 v n xs) (s:ByteArray) (h63:n+s.size<=maxLen) (hbytes:n+s.size<=140737488355328) :
  ∃ v' w',(Builtin.append_ #[t,u] ty #[v,.string s]).run Tryz.prog w=.ok v' w' /\ w'.ownsRow 0 e 1 v' (n+s.size) (xs++Lib.strCells s)/\w.grownBy w' v.ownBlock /\
   (v'.ownBlock=v.ownBlock\/v'.ownBlock=some w.heap.size):=by
 obtain⟨v',w',hr,h1,h2,h3⟩:=Lib.run_append_own_string (P:=Tryz.prog) w 0 t u ty e i ht hu hi hz hsize hby v n xs hown s h63 hbytes (Nat.zero_le _);refine⟨v',w',hr,h1,h2,?_⟩;have hxl:xs.length=n:=by simpa using hown.1
 rcases hown.2 with ⟨rfl,rfl⟩|⟨g,cap,cur,rfl,hbg,hg,hnc,hcm,hcs,htake⟩
 ·by_cases hm:s.size=0
  ·rw[h3.2 ⟨rfl,hm⟩];exact .inl rfl
  ·have hr2:=run_append_nil_string (P:=Tryz.prog) w t u ty e i (.int .u8 0) ht hu hi hz s (by omega) (by simp only[maxLen]at h63;omega) (by rw[hby];omega);rw[hr]at hr2;cases hr2;exact .inr rfl
 ·by_cases hroom:n+s.size<=cap
  ·have hr2:=Lib.run_append_room_string (P:=Tryz.prog) w t u ty e i ht hu hi hsize g n cap cur hg s hroom (by rw[hcs];omega);rw[hr]at hr2;cases hr2;exact .inl rfl
  ·have holds:∀ j u,xs[j]?=some u->w.cell? ((⟨g,0,none⟩:Addr).add j)=some u:=hown.cells (g:=g) rfl
   have hr2:=Lib.run_append_grow_string (P:=Tryz.prog) w t u ty e i (.int .u8 0) ht hu hi hz ⟨g,0,none⟩ n cap xs (by rw[hsize];simpa using hxl) holds s (by omega) (by simp only[maxLen]at h63;omega) (by rw[hby];exact growslice_fits (by omega) (by omega));rw[hr]at hr2;cases hr2;exact .inr rfl
theorem rf{ops:Array Oper}{rest:List Oper}{o:Oper}{a:Act}{w:World}{Q:Exit->Act->World->Prop}(hgd:o.guard=none)(sl x:Operand)(t u:TypeId)
  (ho:o.op=.call { callee:=.builtin .append,args:=#[sl,x],argTypes:=#[t,u] })
  (e:TypeId) (i:TypeInfo) (ht:Tryz.prog.underlying t=some (.slice e)) (hu:Tryz.prog.underlying u=some .string) (hi:Tryz.prog.info? e=some i) (hz:i.zero=some (.int .u8 0))
  (hsize:i.size=1) (hby:i.bytes=1)
  (v:Value) (n:Nat) (xs:List Value) (hs:a.eval sl=v) (hown:w.ownsRow 0 e 1 v n xs) (s:ByteArray) (hx:a.eval x=.string s)
  (h63:n+s.size<=maxLen) (hbytes:n+s.size<=140737488355328)
  (h:∀ v' w',w'.ownsRow 0 e 1 v' (n+s.size) (xs++Lib.strCells s)->w.grownBy w' v.ownBlock->(v'.ownBlock=v.ownBlock\/v'.ownBlock=some w.heap.size)->wpList Tryz.prog ops Q rest (a.put o.dst v') w'):wpList Tryz.prog ops Q (o::rest) a w:=by
 refine wpList_plain hgd λK hK=>?_
 obtain⟨v',w',hr,h2,h3,h4⟩:=uS (w:=w) t u o.type e i ht hu hi hz hsize hby v n xs hown s h63 hbytes;unfold Oper.wp execOp;simp only[ho,resolve,invoke,builtin,Sem.run_bind,Sem.run_pure,Result.andThen_ok,List.map_toArray,List.map_cons,List.map_nil,hs,hx,hr];exact hK _ _ (h v' w' h2 h3 h4)
def n8(d:List Value)(u:Value)(fp:List Nat)(w:World):Prop:=
 ∃ s b v p,d=[.string s]/\u=.pointer (some ⟨b,0,none⟩)/\fp=b::v.ownBlock.toList/\w.heap[b]?=some (.cells #[p,v] 91 (0,0))/\w.ownsRow 0 5 1 v s.size (Lib.strCells s)/\v.ownBlock≠some b /\
  (p=.pointer none\/p=.pointer (some ⟨b,0,none⟩))
theorem n8.local{d:List Value}{u:Value}{fp:List Nat}{w w' : World}(h:n8 d u fp w)(hl:∀ b∈fp,w'.heap[b]?=w.heap[b]?):n8 d u fp w' := by
 obtain⟨s,b,v,p,h1,h2,h3,h4,h5,h6,h7⟩:=h;refine⟨s,b,v,p,h1,h2,h3,by rw[hl b (by simp[h3])];exact h4,⟨h5.1,?_⟩,h6,h7⟩;rcases h5.2 with h|⟨g,cap,cur,hv,hb,hg,r⟩
 ·exact .inl h
 ·exact .inr ⟨g,cap,cur,hv,hb,by rw[hl g (by rw[h3,hv];simp[Value.ownBlock])];exact hg,r⟩
theorem Vb{w:World}{v:Value}{n:Nat}{xs:List Value}(h:w.ownsRow 0 5 1 v n xs):∀ g,v.ownBlock=some g->g<w.heap.size:=by
 intro g hg;rcases h.2 with ⟨rfl,_⟩|⟨g',cap,cur,rfl,_,hh,_⟩
 ·cases hg
 ·cases hg;exact (Array.getElem?_eq_some_iff.1 hh).1
theorem xQ(u:Value)(fp:List Nat)(s0 s:ByteArray)(w:World)(h:n8 [.string s0] u fp w)(hlen:s0.size+s.size<=140737488355328) :
  Calls Tryz.prog 37 #[u,.string s] w λe w' => ∃ fp',e=.returned (.tuple #[.int .i64 s.size,.nilIface])/\n8 [.string (s0++s)] u fp' w' /\ (∀ b∈fp',b∈fp\/w.heap.size<=b)/\(∀ b∈fp',b<w'.heap.size)/\LE.ah w fp w' := by
 obtain⟨s0',b,v,p,hd,rfl,rfl,hbk,hown,hne,hp⟩:=h;cases hd;obtain⟨i0,hi,hz0,hz1,hz2⟩:=info_parts alg;have hbs:(Lib.strCells s0).length=s0.size:=Lib.strCells_length s0;have hcc:=B8 b p v w hbk hp
 go_enter Tryz.func37,Tryz.ntmps37
 go_wp2_with (refine hcc.mono ?_)
 rintro e w1 ⟨rfl,hbk1,hs1,hk1⟩;have hg1:∀ g,v.ownBlock=some g->w1.heap[g]?=w.heap[g]?:=λg hg=>hk1.block g (Vb hown g hg) (by rintro h;simp at h;subst h;exact hne hg)
 have hown1:w1.ownsRow 0 5 1 v s0.size (Lib.strCells s0):=by
  refine⟨hown.1,?_⟩;rcases hown.2 with h|⟨g,cap,cur,hv,hb,hg,r⟩
  ·exact .inl h
  ·exact .inr ⟨g,cap,cur,hv,hb,by rw[hg1 g (by rw[hv];rfl)];exact hg,r⟩
 have c0:w1.cell? ⟨b,0,none⟩=some (.pointer (some ⟨b,0,none⟩)):=by rw[Lib.cell_of_heap hbk1];rfl
 have c1:w1.cell? ⟨b,1,none⟩=some v:=by rw[Lib.cell_of_heap hbk1];rfl
 clear hg1 hcc
 go_wp2_with (at_builtin;refine rf rfl _ _ 89 9 rfl 5 i0 Tryz.underlying89 Tryz.underlying9 hi hz0 hz1 hz2 _ _ _ rfl hown1 s rfl ?c3 ?c4 ?_)
 case c3=>unfold maxLen;omega
 case c4=>omega
 intro v' w2 hown' hgrow htold;have hlt:b<w1.heap.size:=(Array.getElem?_eq_some_iff.1 hbk1).1;have hb2:w2.heap[b]?=some (.cells #[.pointer (some ⟨b,0,none⟩),v] 91 (0,0)):=by
  rw[hgrow.block b hlt (λe=>hne e.symm)];exact hbk1
 have d0:w2.cell? ⟨b,0,none⟩=some (.pointer (some ⟨b,0,none⟩)):=by rw[Lib.cell_of_heap hb2];rfl
 have d1:w2.cell? ⟨b,1,none⟩=some v:=by rw[Lib.cell_of_heap hb2];rfl
 have f1:w2.frozen? ⟨b,1,none⟩=false:=Lib.frozen_of_heap hb2 1;obtain⟨ao,n',cap,rfl⟩:∃ ao n' cap,v' = .slice ao n' cap:=by
  rcases hown'.2 with ⟨hv,_⟩|⟨g,cap,cur,hv,_⟩
  ·exact⟨_,_,_,hv⟩
  ·exact⟨_,_,_,hv⟩
 have hgs:=hgrow.size;have hne' : (Value.slice ao n' cap).ownBlock≠some b:=by
  rcases htold with h|h
  ·rw[h];exact hne
  ·rw[h];rintro h;cases h;omega
 have hkeep:LE.ah w (b::v.ownBlock.toList) (w2.setCell ⟨b,1,none⟩ (.slice ao n' cap)):=by
  refine⟨hgrow.os.trans hk1.os,hgrow.tape.trans hk1.tape,hgrow.output.trans hk1.output,by simp;omega,λk hk hkn=>?_⟩;simp only[List.mem_cons,not_or]at hkn;rw[mB _ _ k hkn.1,hgrow.block k (by omega) (by rintro h;exact hkn.2 (by rw[<- h];simp)),hk1.block k hk (by simpa using hkn.1)]
 go_wp2
 go_ret2
 refine⟨b::(Value.slice ao n' cap).ownBlock.toList,rfl,?_,λk hk=>?_,λk hk=>?_,hkeep⟩
 ·refine⟨s0++s,b,.slice ao n' cap,_,rfl,rfl,rfl,rr hb2 1 _,?_,hne',.inr rfl⟩;have e1:Lib.strCells (s0++s)=Lib.strCells s0++Lib.strCells s:=by simp[Lib.strCells,ByteArray.data_append]
  have e2:(s0++s).size=s0.size+s.size:=ByteArray.size_append;rw[e1,e2];refine⟨hown'.1,?_⟩;rcases hown'.2 with h|⟨g,c,cur,hv,hb,hg,r⟩
  ·exact .inl h
  ·refine .inr ⟨g,c,cur,hv,hb,?_,r⟩;rw[mB _ _ g (by rintro h;rw[hv]at hne';exact hne' (by rw[h];rfl))];exact hg
 ·simp only[List.mem_cons]at hk ⊢;rcases hk with rfl|hk
  ·exact .inl (.inl rfl)
  ·rcases htold with h|h
   ·rw[h]at hk;exact .inl (.inr hk)
   ·rw[h]at hk;simp at hk;right;omega
 ·simp only[List.mem_cons]at hk;rcases hk with rfl|hk
  ·simp;omega
  ·have:=Vb hown' k (by simpa using hk);simpa using this
end
section
open Go.RowKit
theorem sg(w:World)(bs:List Nat):LE.ah w bs w.drew:=⟨rfl,rfl,rfl,Nat.le_refl _,λ_ _ _=>rfl⟩
theorem Gg(w:World)(g n:Nat):LE.ah w [g] (w.drew.freeze ⟨g,0,none⟩ n):=by
 unfold World.freeze;split
 ·exact sg w _
 ·refine⟨rfl,rfl,rfl,by simp,λk hk hkn=>?_⟩;have hne:g≠k:=λe=>hkn (by simp[e])
  show (w.drew.heap.modify g _)[k]?=_;rw[Array.getElem?_modify,if_neg hne];rfl
theorem Hw(b g cap:Nat)(p:Value)(cur:Array Value)(l:List UInt8)(w:World)(hbk:w.heap[b]?=some (.cells #[p,.slice (some ⟨g,0,none⟩) l.length cap] 91 (0,0)))(h0:l≠[])
  (hg:w.heap[g]?=some (.cells cur 5 (0,0))) (hcm:cap<=maxLen) (hcs:cur.size=cap) (hlc:l.length<=cap) (hcells:∀ j x,l[j]?=some x->w.cell? ⟨g,j,none⟩=some (.int .u8 x.toNat)) :
  Calls Tryz.prog 41 #[.pointer (some ⟨b,0,none⟩)] w λe w' => e=.returned (.string ⟨l.toArray⟩)/\LE.ah w [g] w' := by
 have hl0:l.length≠0:=by simpa using h0
 have c1:w.drew.cell? ⟨b,1,none⟩=some (.slice (some ⟨g,0,none⟩) l.length cap):=by
  have:w.drew.heap[b]?=some (.cells #[p,.slice (some ⟨g,0,none⟩) l.length cap] 91 (0,0)):=hbk;rw[Lib.cell_of_heap this];rfl
 have hSD:(Builtin.unsafeSliceData_ #[89] 162 #[.slice (some ⟨g,0,none⟩) l.length cap]).run Tryz.prog w.drew=.ok (.pointer (some ⟨g,0,none⟩)) w.drew:=
  Lib.run_unsafeSliceData_row _ _ _ _ _ _ (by omega)
 have hUS:(Builtin.unsafeString_ #[162,3] 9 #[.pointer (some ⟨g,0,none⟩),.int .i64 l.length]).run Tryz.prog w.drew=.ok (.string ⟨l.toArray⟩) (w.drew.freeze ⟨g,0,none⟩ l.length):=by
  refine Lib.run_unsafeString_row w.drew 162 3 9 5 Tryz.underlying162 (by kernel_rfl) g cur.size (by have hg' : w.drew.heap[g]?=some (.cells cur 5 (0,0)):=hg;simp[World.shape?,hg']) l h0 (by omega) (by unfold maxLen at hcm;omega) ?_;intro j x hx;rw[Addr.add_lit,Nat.zero_add];exact hcells j x hx
 clear hcells;have mixed:=cj
 go_enter Tryz.func41,Tryz.ntmps41
 go_wp2
 go_region_o
 all_goals (go_wp2;go_ret;exact⟨rfl,Gg w g _⟩)
theorem Lp(b:Nat)(p:Value)(w:World)(hbk:w.heap[b]?=some (.cells #[p,.slice none 0 0] 91 (0,0))) :
  Calls Tryz.prog 41 #[.pointer (some ⟨b,0,none⟩)] w λe w' => e=.returned (.string ⟨#[]⟩)/\LE.ah w [] w' := by
 have hUS:=λ(W:World) (q:Option Addr)=>Lib.run_unsafeString_none (P:=Tryz.prog) W 162 3 9 q
 have c1:w.drew.cell? ⟨b,1,none⟩=some (.slice none 0 0):=by
  have:w.drew.heap[b]?=some (.cells #[p,.slice none 0 0] 91 (0,0)):=hbk;rw[Lib.cell_of_heap this];rfl
 have hSD:(Builtin.unsafeSliceData_ #[89] 162 #[.slice none 0 0]).run Tryz.prog w.drew=.ok (.pointer none) w.drew:=rfl;have mixed:=cj
 go_enter Tryz.func41,Tryz.ntmps41
 go_wp2
 go_region_o
 all_goals (go_wp2;go_ret;exact⟨rfl,sg w _⟩)
theorem B4(b g:Nat)(p:Value)(cur:Array Value)(w:World)(hbk:w.heap[b]?=some (.cells #[p,.slice (some ⟨g,0,none⟩) 0 0] 91 (0,0)))(hg:w.heap[g]?=some (.cells cur 5 (0,0))) :
  Calls Tryz.prog 41 #[.pointer (some ⟨b,0,none⟩)] w λe w' => e=.returned (.string ⟨#[]⟩)/\LE.ah w [] w' := by
 have hUS:=λ(W:World) (q:Option Addr)=>Lib.run_unsafeString_none (P:=Tryz.prog) W 162 3 9 q
 have hlt:b<w.heap.size:=(Array.getElem?_eq_some_iff.1 hbk).1;have c1:w.drew.cell? ⟨b,1,none⟩=some (.slice (some ⟨g,0,none⟩) 0 0):=by
  have:w.drew.heap[b]?=some (.cells #[p,.slice (some ⟨g,0,none⟩) 0 0] 91 (0,0)):=hbk;rw[Lib.cell_of_heap this];rfl
 have hSD:(Builtin.unsafeSliceData_ #[89] 162 #[.slice (some ⟨g,0,none⟩) 0 0]).run Tryz.prog w.drew=.ok (.pointer (some ⟨w.drew.heap.size,0,none⟩)) (w.drew.alloc (.view ⟨g,0,none⟩ 5)):=
  Lib.run_unsafeSliceData_zero w.drew _ _ 5 Tryz.underlying162 ⟨g,0,none⟩ 0 (5,cur.size) (by have hg' : w.drew.heap[g]?=some (.cells cur 5 (0,0)):=hg;simp[World.shape?,hg'])
 have c2:(w.drew.alloc (.view ⟨g,0,none⟩ 5)).cell? ⟨b,1,none⟩=some (.slice (some ⟨g,0,none⟩) 0 0):=by
  have:(w.drew.alloc (.view ⟨g,0,none⟩ 5)).heap[b]?=_:=(Lib.alloc_old w.drew _ b hlt).trans hbk;rw[Lib.cell_of_heap this];rfl
 have c3:(w.alloc (.view ⟨g,0,none⟩ 5)).drew.cell? ⟨b,1,none⟩=some (.slice (some ⟨g,0,none⟩) 0 0):=c2;have c0:w.cell? ⟨b,1,none⟩=some (.slice (some ⟨g,0,none⟩) 0 0):=c1;have mixed:=cj
 go_enter Tryz.func41,Tryz.ntmps41
 go_wp2
 go_region_o
 all_goals (go_wp2;go_ret;exact⟨rfl,⟨rfl,rfl,rfl,by simp,λk hk _=>Lib.alloc_old w.drew _ k hk⟩⟩)
theorem Im(b g cap:Nat)(p:Value)(w:World)(hc0:cap≠0)(hbk:w.heap[b]?=some (.cells #[p,.slice (some ⟨g,0,none⟩) 0 cap] 91 (0,0))) :
  Calls Tryz.prog 41 #[.pointer (some ⟨b,0,none⟩)] w λe w' => e=.returned (.string ⟨#[]⟩)/\LE.ah w [] w' := by
 have hUS:=λ(W:World) (q:Option Addr)=>Lib.run_unsafeString_none (P:=Tryz.prog) W 162 3 9 q
 have c1:w.drew.cell? ⟨b,1,none⟩=some (.slice (some ⟨g,0,none⟩) 0 cap):=by
  have:w.drew.heap[b]?=some (.cells #[p,.slice (some ⟨g,0,none⟩) 0 cap] 91 (0,0)):=hbk;rw[Lib.cell_of_heap this];rfl
 have hSD:(Builtin.unsafeSliceData_ #[89] 162 #[.slice (some ⟨g,0,none⟩) 0 cap]).run Tryz.prog w.drew=.ok (.pointer (some ⟨g,0,none⟩)) w.drew:=
  Lib.run_unsafeSliceData_row _ _ _ _ _ _ hc0
 clear hc0;have mixed:=cj
 go_enter Tryz.func41,Tryz.ntmps41
 go_wp2
 go_region_o
 all_goals (go_wp2;go_ret;exact⟨rfl,sg w _⟩)
theorem NS(u:Value)(fp:List Nat)(s:ByteArray)(w:World)(h:n8 [.string s] u fp w) :
  Calls Tryz.prog 41 #[u] w λe w' => e=.returned (.string s)/\LE.ah w fp w' := by
 obtain⟨s',b,v,p,hd,rfl,rfl,hbk,hown,hne,hp⟩:=h;cases hd;rcases s with ⟨⟨l⟩⟩;have hsz:(ByteArray.mk ⟨l⟩).size=l.length:=rfl;rw[hsz]at hown;rcases hown.2 with ⟨rfl,hz⟩|⟨g,cap,cur,rfl,hbg,hg,hnc,hcm,hcs,htake⟩
 ·have hl:l=[]:=List.eq_nil_of_length_eq_zero hz;subst hl;exact (Lp b p w hbk).mono λe w' ⟨h1,h2⟩=>⟨h1,h2.mono (by simp)⟩
 ·by_cases hl:l=[]
  ·subst hl;by_cases hc:cap=0
   ·subst hc;exact (B4 b g p cur w hbk hg).mono λe w' ⟨h1,h2⟩=>⟨h1,h2.mono (by simp)⟩
   ·exact (Im b g cap p w hc hbk).mono λe w' ⟨h1,h2⟩=>⟨h1,h2.mono (by simp)⟩
  ·refine (Hw b g cap p cur l w hbk hl hg hcm (by rw[hcs];omega) hnc λj x hx=>?_).mono λe w' ⟨h1,h2⟩=>⟨h1,h2.mono (by simp[Value.ownBlock])⟩
   have:=hown.cells (g:=g) rfl j (.int .u8 x.toNat) (by simp[Lib.strCells,hx])
   rwa [Addr.add_lit,Nat.zero_add]at this
end
section
open Go.RowKit Go.LE Go.Proofs.Tryz
def nlB:ByteArray:=⟨#[10]⟩
theorem QR(t:ByteArray):(t++nlB).size=t.size+1:=by rw[ByteArray.size_append];rfl
theorem Vi(u:Value)(fp:List Nat)(s0 s:ByteArray)(w:World)(h:n8 [.string s0] u fp w)(hlen:s0.size+s.size+1<=140737488355328) :
  Calls prog 36 #[.string s,u] w λe w' => ∃ fp',e=.returned (.tuple #[])/\n8 [.string (s0++(s++nlB))] u fp' w' /\ (∀ b∈fp',b∈fp\/w.heap.size<=b)/\(∀ b∈fp',b<w'.heap.size)/\LE.ah w fp w' := by
 have hw:=xQ u fp s0 (s++nlB) w h (by rw[QR];omega)
 go_enter func36,Tryz.ntmps36
 go_wp2_with (refine hw.mono ?_)
 rintro e w1 ⟨fp',rfl,h1,h2,h3,h4⟩
 go_wp2
 go_end0
 exact⟨fp',rfl,h1,h2,h3,h4⟩
def xM:Option aS->Option (ByteArray×Prop)
 |some (.obj [.string s] R)=>some (s,R=n8)
 |some (.cells T [.v (.pointer none),.v (.slice none 0 0)])=>some (⟨#[]⟩,T=91)
 |_=>none
theorem BF{E:Nat->Value}{u:Value}{fp:List Nat}{w:World}{e:aS}{s:ByteArray}{p:Prop}(h:xM (some e)=some (s,p))(hp:p)(he:a6 E u fp w e):n8 [.string s] u fp w:=by
 unfold xM at h;split at h
 ·rename_i s' R heq;cases h;cases heq;subst hp;exact he.1.1
 ·rename_i T heq;cases h;cases heq;subst hp;obtain⟨b,rfl,rfl,hh⟩:=he;exact⟨_,b,.slice none 0 0,.pointer none,rfl,rfl,rfl,hh,World.ownsRow_nil w 0 5 1,by simp[Value.ownBlock],.inl rfl⟩
 ·cases h
def wsK(k:Nat)(t:ByteArray):Option (ByteArray×Prop)->R
 |some (s,p)=>⟨p/\s.size+t.size+1<=140737488355328,.tup [],[(k,some (.obj [.string (s++(t++nlB))] n8))],none,[],[k]⟩
 |none=>.bad
def Vv(h:Hp):List SV->R
 |[.v (.string t),.own k 0]=>wsK k t (xM (h k))
 |_=>.bad
theorem mL(h:Hp)(k:Nat)(t:ByteArray):Vv h [.v (.string t),.own k 0]=wsK k t (xM (h k)):=rfl
theorem ud(k:Nat)(t s:ByteArray)(p:Prop):wsK k t (some (s,p))=⟨p/\s.size+t.size+1<=140737488355328,.tup [],[(k,some (.obj [.string (s++(t++nlB))] n8))],none,[],[k]⟩:=rfl
theorem XU(s:ByteArray)(R:List Value->Value->List Nat->World->Prop):xM (some (.obj [.string s] R))=some (s,R=n8):=rfl
theorem yY(T:TypeId):xM (some (.cells T [.v (.pointer none),.v (.slice none 0 0)]))=some (⟨#[]⟩,T=91):=rfl
theorem Hx{E:Nat->Value}{k:Nat}{w:World}{fp:List Nat}{d:List Value}(h:n8 d (E k) fp w):den E (.own k 0)=E k:=by
 obtain⟨_,b,_,_,_,hu,_⟩:=h;simp[den,hu,base,dq]
theorem yJ{h:Hp}{args:List SV}(hs:(Vv h args).side):∃ k t s p,args=[.v (.string t),.own k 0]/\xM (h k)=some (s,p)/\p/\s.size+t.size+1<=140737488355328:=by
 unfold Vv at hs;split at hs
 ·rename_i t k;cases hb:xM (h k) with
  |none=>rw[hb]at hs;exact hs.elim
  |some q=>
   obtain⟨s,p⟩:=q;rw[hb]at hs;exact⟨k,t,s,p,rfl,hb,hs.1,hs.2⟩
 ·exact hs.elim
def Mi:LE.Spec prog 36 where
 ev:=λ_ _ _ h args=>Vv h args
 good:=by
  intro W bs κ E F h w K args hs hK hk hx hside;rw[call36];obtain⟨k,t,s,p,rfl,hb,hp,hlen⟩:=yJ hside;rw[mL,hb,ud];cases hkk:h k with
  |none=>rw[hkk]at hb;cases hb
  | some e=>
   rw[hkk]at hb;have hB:=BF hb hp (hs.ent k e hkk);have hargs:(au E [.v (.string t),.own k 0]).toArray=#[.string t,E k]:=by
    show #[.string t,den E (.own k 0)]=_;rw[Hx hB]
   rw[hargs];refine Jh (e' := .obj [.string (s++(t++nlB))] n8) hs hkk ((Vi (E k) (F k) s t w hB hlen).mono λen w' he=>?_) rfl rfl;obtain⟨fp',rfl,h1,h2,h3,h4⟩:=he;refine⟨_,fp',rfl,⟨⟨h1,?_⟩,λw'' hl=>h1.local hl⟩,h2,h3,h4,?_⟩
   ·obtain⟨_,b,_,_,_,hu,_⟩:=h1;rw[hu];rfl
   ·simp[den,au]
 keys:=by
  intro W bs κ h K args hK hx hside;obtain⟨k,t,s,p,rfl,hb,hp,hlen⟩:=yJ hside;rw[mL,hb,ud];refine⟨λj hj=>by simp[SV.keys,ay]at hj,λq hq=>?_⟩;simp only[List.mem_singleton]at hq;subst hq;exact⟨.inl (hx k (by simp[ay,SV.keys])),λe he j hj=>by simp at he;subst he;cases hj⟩
 loc:=by
  intro W bs κ h h' args hside hr;obtain⟨k,t,s,p,rfl,hb,hp,hlen⟩:=yJ hside;rw[mL,hb,ud]at hr;rw[mL,mL,hr k sI]
def stK(k:Nat):Option (ByteArray×Prop)->R
 |some (s,p)=>⟨p,.v (.string s),[(k,none)],none,[],[k]⟩
 |none=>.bad
def V3(h:Hp):List SV->R
 |[.own k 0]=>stK k (xM (h k))
 |_=>.bad
theorem nc(h:Hp)(k:Nat):V3 h [.own k 0]=stK k (xM (h k)):=rfl
theorem sQ(k:Nat)(s:ByteArray)(p:Prop):stK k (some (s,p))=⟨p,.v (.string s),[(k,none)],none,[],[k]⟩:=rfl
theorem Bq{h:Hp}{args:List SV}(hs:(V3 h args).side):∃ k s p,args=[.own k 0]/\xM (h k)=some (s,p)/\p:=by
 unfold V3 at hs;split at hs
 ·rename_i k;cases hb:xM (h k) with
  |none=>rw[hb]at hs;exact hs.elim
  |some q=>
   obtain⟨s,p⟩:=q;rw[hb]at hs;exact⟨k,s,p,rfl,hb,hs⟩
 ·exact hs.elim
def Ll:LE.Spec prog 41 where
 ev:=λ_ _ _ h args=>V3 h args
 good:=by
  intro W bs κ E F h w K args hs hK hk hx hside;rw[call41];obtain⟨k,s,p,rfl,hb,hp⟩:=Bq hside;rw[nc,hb,sQ];cases hkk:h k with
  |none=>rw[hkk]at hb;cases hb
  |some e=>
   rw[hkk]at hb;have hB:=BF hb hp (hs.ent k e hkk);have hargs:(au E [.own k 0]).toArray=#[E k]:=by simp only[au,Hx hB]
   rw[hargs];refine (NS (E k) (F k) s w hB).mono λen w' he=>?_
   obtain⟨rfl,hkeep⟩:=he;exact⟨rfl,E,F,λ_ _=>rfl,rfl,hs.amP hkk hkeep⟩
 keys:=by
  intro W bs κ h K args hK hx hside;obtain⟨k,s,p,rfl,hb,hp⟩:=Bq hside;rw[nc,hb,sQ];refine⟨λj hj=>by simp[SV.keys]at hj,λq hq=>?_⟩;simp only[List.mem_singleton]at hq;subst hq;exact⟨.inl (hx k (by simp[ay,SV.keys])),λe he=>by cases he⟩
 loc:=by
  intro W bs κ h h' args hside hr;obtain⟨k,s,p,rfl,hb,hp⟩:=Bq hside;rw[nc,hb,sQ]at hr;rw[nc,nc,hr k sI]
def tyL(t:ByteArray):ByteArray:=⟨#[116,121,112,101,32,47]⟩++t++⟨#[47]⟩
def txL(t:ByteArray):ByteArray:=⟨#[116,101,120,116,32]⟩++dR t
def Aw(s v:Int):ByteArray:=⟨#[109,97,105,110,32]⟩++gl s++⟨#[32]⟩++gl v
def coL(p:Pg)(i:Nat):ByteArray:=rj i (p.co.getD i (0,0,0,0)).1 (p.co.getD i (0,0,0,0)).2.1 (p.co.getD i (0,0,0,0)).2.2.1 (p.co.getD i (0,0,0,0)).2.2.2
def zJ(p:Pg)(k:Nat):List ByteArray:=(p.ty.take k).map tyL
def vd(p:Pg)(k:Nat):List ByteArray:=zJ p p.ty.length++(p.tx.take k).map txL
def z7(p:Pg)(k:Nat):List ByteArray:=(vd p p.tx.length++[Aw p.src p.vw])++(List.range k).map (coL p)
def aid(p:Pg):List ByteArray:=z7 p p.co.length
def zN(l:List ByteArray):ByteArray:=l.foldl (λo s=>o++(s++nlB)) ⟨#[]⟩
theorem qY(l:List ByteArray)(s:ByteArray):zN (l++[s])=zN l++(s++nlB):=by simp[zN]
def ahN(p:Pg):ByteArray:=zN (aid p)
def Ii(p:Pg):ByteArray:=if gW p=(0,0,⟨#[]⟩) then ahN p else ⟨#[]⟩
theorem Rs{p:Pg}{k:Nat}(hk:k<p.ty.length):zJ p (k+1)=zJ p k++[tyL p.ty[k]]:=by
 rw[zJ,List.take_succ_eq_append_getElem hk,List.map_append];rfl
theorem Rf(p:Pg):vd p 0=zJ p p.ty.length:=by rw[vd,List.take_zero,List.map_nil,List.append_nil]
theorem Tv{p:Pg}{k:Nat}(hk:k<p.tx.length):vd p (k+1)=vd p k++[txL p.tx[k]]:=by
 rw[vd,List.take_succ_eq_append_getElem hk,List.map_append,<- List.append_assoc];rfl
theorem Sb(p:Pg):z7 p 0=vd p p.tx.length++[Aw p.src p.vw]:=by rw[z7];simp
theorem aaz{p:Pg}{k:Nat}(hk:k<p.co.length):coL p k=rj k p.co[k].1 p.co[k].2.1 p.co[k].2.2.1 p.co[k].2.2.2:=by
 rw[coL,List.getD_eq_getElem?_getD,List.getElem?_eq_getElem hk];rfl
theorem Rk{p:Pg}{k:Nat}(hk:k<p.co.length):z7 p (k+1)=z7 p k++[rj k p.co[k].1 p.co[k].2.1 p.co[k].2.2.1 p.co[k].2.2.2]:=by
 rw[z7,List.range_succ,List.map_append,<- List.append_assoc,<- aaz hk];rfl
theorem It{p:Pg}{k:Nat}(hk:k<=p.ty.length):(zJ p k).length=k:=by rw[zJ,List.length_map,List.length_take];omega
theorem yU{p:Pg}{k:Nat}(hk:k<=p.tx.length):(vd p k).length=p.ty.length+k:=by rw[vd,List.length_append,It (Nat.le_refl _),List.length_map,List.length_take];omega
theorem WE(p:Pg)(k:Nat):(z7 p k).length=p.ty.length+p.tx.length+1+k:=by
 rw[z7,List.length_append,List.length_append,yU (Nat.le_refl _),List.length_map,List.length_range];rfl
def SmL(l:List ByteArray):Prop:=∀ s∈l,s.size<=4194399
theorem TS:∀ l:List ByteArray,SmL l->(zN l).size<=l.length*4194400:=by
 intro l
 suffices h:∀ (l:List ByteArray) (o:ByteArray),SmL l->(l.foldl (λo s=>o++(s++nlB)) o).size<=o.size+l.length*4194400 by
  intro hl;have:=h l ⟨#[]⟩ hl;have e:(⟨#[]⟩:ByteArray).size=0:=rfl;rw[e]at this;unfold zN;omega
 intro l
 induction l with
 |nil=>intro o _;simp
 |cons s r ih=>
  intro o hl;have h1:=ih (o++(s++nlB)) λx hx=>hl x (List.mem_cons_of_mem _ hx)
  have h2:=hl s (List.mem_cons_self ..);rw[ByteArray.size_append,QR]at h1;rw[List.foldl_cons,List.length_cons];omega
structure PgZ (p:Pg):Prop where
 l1:p.ty.length<=1048576
 l2:p.tx.length<=1048576
 l3:p.co.length<=1048576
 z1:∀ s∈p.ty,s.size<=1048576
 z2:∀ s∈p.tx,s.size<=1048576
theorem PgZ.b{p:Pg}(h:PgZ p):PgB p:=⟨by have:=h.l1;omega,by have:=h.l2;omega,by have:=h.l3;omega,λs hs=>by have:=h.z1 s hs;omega⟩
theorem JG(t:ByteArray):(tyL t).size=t.size+7:=by
 have e1:(⟨#[116,121,112,101,32,47]⟩:ByteArray).size=6:=rfl;have e2:(⟨#[47]⟩:ByteArray).size=1:=rfl;unfold tyL;rw[ByteArray.size_append,ByteArray.size_append,e1,e2];omega
theorem Iu(t:ByteArray):(txL t).size<=4*t.size+7:=by
 have e1:(⟨#[116,101,120,116,32]⟩:ByteArray).size=5:=rfl;have:=C2 t;unfold txL;rw[ByteArray.size_append,e1];omega
structure PgS (p:Pg):Prop where
 s0:0<=p.src
 s1:p.src<p.ty.length
 v0:0<=p.vw
 v1:p.vw<p.ty.length
 ty:∀ (i:Nat) (h:i<p.ty.length),uq p.ty[i]=true
 co:∀ (i:Nat) (h:i<p.co.length),nP p.ty.length p.tx.length p.co.length p.co[i].1 p.co[i].2.1 p.co[i].2.2.1 p.co[i].2.2.2=true
theorem rH(P:Nat->Bool):∀ k j,cS P k j=none->∀ i,j<=i->i<j+k->P i=false
 |0,j,_,i,h1,h2=>by omega
 | k+1,j,h,i,h1,h2=>by
  unfold cS at h;cases hp:P j with
  |true=>rw[hp]at h;cases h
  |false=>
   rw[hp]at h;by_cases e:i=j
   ·rw[e];exact hp
   ·exact rH P k (j+1) h i oM oM
theorem Ue{p:Pg}(h:(gW p).1=0):gW p=(0,0,⟨#[]⟩)/\PgS p/\p.ty.length<=131072/\p.tx.length<=131072/\p.co.length<=131072:=by
 unfold gW at h ⊢;split at h
 ·cases h
 ·rename_i h0;cases ht:cS (oR p) p.ty.length 0 with
  |some i=>rw[ht]at h;cases h
  | none=>
   rw[ht]at h;rw[if_neg h0];dsimp only at h ⊢;unfold eX at h ⊢;split at h
   ·cases h
   ·rename_i hw;cases hc:cS (rW p) p.co.length 0 with
    |some i=>rw[hc]at h;cases h
    | none=>
     rw[if_neg hw];have g1:=rH _ _ _ ht;have g2:=rH _ _ _ hc;simp[ou]at hw;refine⟨rfl,⟨oM,oM,oM,oM,λi hi=>?_,λi hi=>?_⟩,oM,oM,oM⟩
     ·have:=g1 i oM oM;rw[oR,List.getD_eq_getElem?_getD,List.getElem?_eq_getElem hi]at this;simpa using this
     ·have:=g2 i oM oM;rw[rW,List.getD_eq_getElem?_getD,List.getElem?_eq_getElem hi]at this;simpa using this
theorem PgS.ins{p:Pg}(h:PgS p)(hb:PgB p)(i:Nat)(hi:i<p.co.length):wo p.co[i].1 p.co[i].2.1 p.co[i].2.2.1 p.co[i].2.2.2:=wo.of (h.co i hi) hb.l1 hb.l2 hb.l3
theorem zp{p:Pg}(h:PgS p)(hz:PgB p):(Aw p.src p.vw).size<=44:=by
 have e1:(⟨#[109,97,105,110,32]⟩:ByteArray).size=5:=rfl;have e2:(⟨#[32]⟩:ByteArray).size=1:=rfl;have:=h.s1;have:=h.v1;have:=hz.l1;have:=eP h.s0 oM;have:=eP h.v0 oM;unfold Aw;rw[ByteArray.size_append,ByteArray.size_append,ByteArray.size_append,e1,e2];omega
theorem SmL.app{l m:List ByteArray}(h:SmL l)(h' : SmL m):SmL (l++m):=λs hs=>(List.mem_append.1 hs).elim (h s) (h' s)
theorem OT{p:Pg}(hz:PgZ p)(k:Nat):SmL (zJ p k):=λs hs=>by
 obtain⟨t,ht,rfl⟩:=List.mem_map.1 hs;have:=hz.z1 t (List.mem_of_mem_take ht);rw[JG];omega
theorem EV{p:Pg}(hz:PgZ p)(k:Nat):SmL (vd p k):=(OT hz _).app λs hs=>by
 obtain⟨t,ht,rfl⟩:=List.mem_map.1 hs;have:=hz.z2 t (List.mem_of_mem_take ht);have:=Iu t;omega
theorem aek{p:Pg}(hz:PgZ p)(h:PgS p){k:Nat}(hk:k<=p.co.length):SmL (z7 p k):=by
 refine ((EV hz _).app λs hs=>?_).app λs hs=>?_
 ·rw[List.mem_singleton.1 hs];have:=zp h hz.b;omega
 ·obtain⟨i,hi,rfl⟩:=List.mem_map.1 hs;have hi' : i<p.co.length:=by have:=List.mem_range.1 hi;omega
  rw[aaz hi'];have:=hz.l3;have:=AT (n:=i) oM oM (h.ins hz.b i hi');omega
theorem yk{l:List ByteArray}(h:SmL l)(hl:l.length<=3145729):(zN l).size<=13194645717600:=by
 have:=TS l h;omega
end
section
open Go.RowKit Go.LE Go.Proofs.Tryz
set_option maxRecDepth 10000
theorem LO:∀ b:Fin 256,(0<=IntKind.u8.wrap (((b.val:Nat):Int).tdiv 16)/\IntKind.u8.wrap (((b.val:Nat):Int).tdiv 16)<16)/\(0<=((b.val:Nat):Int).tmod 16/\((b.val:Nat):Int).tmod 16<16) /\
  IntKind.u8.wrap (((b.val:Nat):Int).tdiv 16)=((b.val:Nat):Int) / 16/\((b.val:Nat):Int).tmod 16=((b.val:Nat):Int) % 16:=by decide +kernel
def cU:=(aj @List.replicate_succ.{0} @List.replicate_zero.{0} @an @ab BG BH BJ (aj ty5 ty6 ty7 ty8 gR ck cf (aj b9 b8 ca cc cg cd fu (aj fh fy ft fB dc df dh (aj db cY c8 xw wG wD vP (ur @aG @al @ax @aw @gD @jz @lg))))))
theorem NP(s:ByteArray)(hs:s.size<=16777216)(w:World):Calls prog 61 #[.string s] w λe w' => e=.returned (.string (dR s))/\ah w [] w' := by
 refine af (nt:=69) [.tmp 2] func61 rfl rfl rfl ?_;have hxe:(⟨#[48,49,50,51,52,53,54,55,56,57,97,98,99,100,101,102]⟩:ByteArray)=kt:=rfl;refine vR Γ0 cU ?_;refine vR Γ0 cU ?_;refine vR Γ0 cU ?_;refine vR Γ0 cU ?_;refine Wp.seq ?_;refine vR Γ0 cU ?_;refine Wp.block ?_
 refine Wp.loop (λk:Nat=>⟨20,bm [(0,.is (.v (.string s))),(3,.is (.hd 8)),(4,.is (.v (.string kt))),(5,.is (.v (.int .i64 (k:Nat))))],aY [(8,.row 5 1 (bq s k).size ((byteCells (bq s k)).map .v))]⟩) (λk=>k<=s.size) (λk=>s.size-k) 0 ?_ (Nat.zero_le _) ?_
 ·exact wM (λk=>if k=8 then .key 32 else .key k) (aa cU hxe)
 rintro k hk;refine Wp.seq ?_;refine vR Γ0 cU ?_;refine wC cU (λhc=>?_) (λhc=>?_)
 ·have hlt:k<s.size:=by
   simp at hc;omega
  obtain⟨c0,c1⟩:=jo s k;have hq:=lv s k;have ha:=λl hl=>dX (bq s k) l hl
  have hb:bq s (k+1)=bq s k++bJ (cW (bt s k)):=rfl;have wk:IntKind.i64.wrap ((k:Int)+1)=((k+1:Nat):Int):=wW;refine wK ?_
  refine aV ⟨20,bm [(0,.is (.v (.string s))),(3,.is (.hd 8)),(4,.is (.v (.string kt))),(5,.is (.v (.int .i64 (k:Nat))))],aY [(8,.row 5 1 (bq s (k+1)).size ((byteCells (bq s (k+1))).map .v))]⟩ ?_ ?_
  ·refine Wp.block ?_;refine wR Γ0 cU ?_ ?_
   ·first|omega|exact⟨oM,oM⟩
   refine vR Γ0 cU ?_;refine wC cU (λhc=>?_) (λhc=>?_)
   ·have hv:bt s k=10:=by simpa using hc
    have e0:cW (bt s k)=[92,110]:=by rw[cW,if_neg oM,if_neg oM,if_pos hv]
    rw[e0]at hb;have e1:=ha _ (λc (hc:c∈[92,110])=>by simp at hc;omega);rw[<- hb]at e1;simp only[List.map_cons,List.map_nil]at e1;have e2:(bq s (k+1)).size=(bq s k).size+2:=by rw[hb,ByteArray.size_append,aU];rfl
    refine wr Γ0 cU ?_ ?_
    ·exact by unfold maxLen;omega
    exact wM (λk=>if k=8 then .key 256 else .key k) (bP cU e1 e2)
   have n2:¬ bt s k=10:=by simpa using hc
   refine vR Γ0 cU ?_;refine wC cU (λhc=>?_) (λhc=>?_)
   ·have hv:bt s k=13:=by simpa using hc
    have e0:cW (bt s k)=[92,114]:=by rw[cW,if_neg oM,if_neg oM,if_neg n2,if_pos hv]
    rw[e0]at hb;have e1:=ha _ (λc (hc:c∈[92,114])=>by simp at hc;omega);rw[<- hb]at e1;simp only[List.map_cons,List.map_nil]at e1;have e2:(bq s (k+1)).size=(bq s k).size+2:=by rw[hb,ByteArray.size_append,aU];rfl
    refine wr Γ0 cU ?_ ?_
    ·exact by unfold maxLen;omega
    exact wM (λk=>if k=8 then .key 272 else .key k) (bP cU e1 e2)
   have n3:¬ bt s k=13:=by simpa using hc
   refine vR Γ0 cU ?_;refine wC cU (λhc=>?_) (λhc=>?_)
   ·have hv:bt s k=9:=by simpa using hc
    have e0:cW (bt s k)=[92,116]:=by rw[cW,if_neg oM,if_neg oM,if_neg n2,if_neg n3,if_pos hv]
    rw[e0]at hb;have e1:=ha _ (λc (hc:c∈[92,116])=>by simp at hc;omega);rw[<- hb]at e1;simp only[List.map_cons,List.map_nil]at e1;have e2:(bq s (k+1)).size=(bq s k).size+2:=by rw[hb,ByteArray.size_append,aU];rfl
    refine wr Γ0 cU ?_ ?_
    ·exact by unfold maxLen;omega
    exact wM (λk=>if k=8 then .key 288 else .key k) (bP cU e1 e2)
   have n4:¬ bt s k=9:=by simpa using hc
   refine vR Γ0 cU ?_;refine wC cU (λhc=>?_) (λhc=>?_)
   ·have hv:bt s k<32\/126<bt s k:=by simpa using hc
    have e0:cW (bt s k)=[92,120,bt kt (bt s k / 16),bt kt (bt s k % 16)]:=by rw[cW,if_neg oM,if_neg oM,if_neg n2,if_neg n3,if_neg n4]
    obtain⟨x,hx⟩:=Int.eq_ofNat_of_zero_le c0;have x1:x<256:=oM;obtain⟨f1,f2,f3,f4⟩:=LO ⟨x,x1⟩;simp only at f1 f2 f3 f4;rw[hx]at e0;rw[hx,e0]at hb;have b1:=jo kt ((x:Int) / 16);have b2:=jo kt ((x:Int) % 16)
    have e1:=ha _ (λc (hc:c∈[92,120,bt kt ((x:Int) / 16),bt kt ((x:Int) % 16)])=>by simp at hc;omega);rw[<- hb]at e1;simp only[List.map_cons,List.map_nil]at e1;have e2:(bq s (k+1)).size=(bq s k).size+4:=by rw[hb,ByteArray.size_append,aU];rfl
    refine vZ Γ0 (oA cU hx f3 f4 hxe) ?_ ?_
    ·rw[f3]at f1;rw[f4]at f2;exact⟨oM,f1,oM,f2,by unfold maxLen;omega,oM⟩
    exact wM (λk=>if k=8 then .key 400 else .key k) (ur cU hx f3 f4 hxe e1 e2)
   have n5:¬ (bt s k<32\/126<bt s k):=by simpa using hc
   refine Wp.seq ?_;refine vR Γ0 cU ?_;refine wC cU (λhc=>?_) (λhc=>?_)
   ·have hv:bt s k=34\/bt s k=92:=by simpa using hc
    have e0:cW (bt s k)=[92,bt s k]:=by rw[cW,if_pos hv]
    rw[e0]at hb;have e1:=ha _ (λc (hc:c∈[92,bt s k])=>by simp at hc;omega);rw[<- hb]at e1;simp only[List.map_cons,List.map_nil]at e1;have e2:(bq s (k+1)).size=(bq s k).size+2:=by rw[hb,ByteArray.size_append,aU];rfl
    refine wr Γ0 cU ?_ ?_
    ·exact by unfold maxLen;omega
    refine wr Γ0 cU ?_ ?_
    ·exact by unfold maxLen;omega
    exact wM (λk=>if k=8 then .key 424 else .key k) (oA cU e1 e2 @List.append_assoc.{0} @Nat.add_assoc)
   ·have n6:¬ (bt s k=34\/bt s k=92):=by simpa using hc
    refine wK ?_;have hw:32<=bt s k/\bt s k<=126:=oM;have e0:cW (bt s k)=[bt s k]:=by rw[cW,if_neg n6,if_pos hw]
    rw[e0]at hb;have e1:=ha _ (λc (hc:c∈[bt s k])=>by simp at hc;omega);rw[<- hb]at e1;simp only[List.map_cons,List.map_nil]at e1;have e2:(bq s (k+1)).size=(bq s k).size+1:=by rw[hb,ByteArray.size_append,aU];rfl
    refine wr Γ0 cU ?_ ?_
    ·exact by unfold maxLen;omega
    exact wM (λk=>if k=8 then .key 392 else .key k) (bP cU e1 e2)
  refine wr Γ0 (aa cU wk) ?_ ?_
  ·first|trivial|omega
  refine⟨k+1,hlt,oM,?_⟩;exact wM (λk=>.key k) cU
 ·have hk' : k=s.size:=by
   simp at hc;omega
  subst hk';have ha:=dX (bq s s.size) [34] (λc hc=>by simp at hc;omega);simp only[List.map_cons,List.map_nil]at ha;have hq:=lv s s.size;have e2:(dR s).size=(bq s s.size).size+1:=by rw[dR,ByteArray.size_append,aU];rfl
  refine wE ?_;refine wR Γ0 (aa cU ha) ?_ ?_
  ·exact⟨by unfold maxLen;omega,oM⟩
  refine wR Γ0 (aa cU ha) ?_ ?_
  ·exact by rw[iz,<- dR,e2]
  refine wZ cU ?_;exact λE=>rfl
def FA:aM prog 38 where
 pre:=λW bs=>λ| [.val (.string s)]=>s.size<=1048576|_=>False
 res:=λW=>λ| [.val (.string s)]=>.string (dR s)|_=>undef
 enters:=call38
 ok:=by
  intro W w bs us as_ hk hu hp;split at hp
  ·rename_i s
   match us,hu with
   |[u0],hu=>
    obtain⟨rfl,_⟩:=hu;exact SR s hp w
  ·exact hp.elim
theorem KD(W:World)(s:ByteArray):FA.res W [.val (.string s)]=.string (dR s):=rfl
theorem Kw(W:World)(bs:List Nat)(s:ByteArray):FA.pre W bs [.val (.string s)]=(s.size<=1048576):=rfl
noncomputable def E5:Env prog:=⟨λ| 30=>some u5.spec|31=>some q5.spec|32=>some yb.spec|_=>none,λ| _=>none,λ_ _=>none⟩
theorem aj3:E5.sp 30=some u5.spec:=rfl
theorem aiM:E5.sp 31=some q5.spec:=rfl
theorem ajt:E5.sp 32=some yb.spec:=rfl
def XE(q:Int×Int×ByteArray):Value:=.tuple #[.int .i64 q.1,.int .i64 q.2.1,.string q.2.2]
def gV:=(aj @List.replicate_succ.{0} @List.replicate_zero.{0} @an @ab jk jn gR (aj ck cf b9 b8 ca cc cg (aj cd dc df dh db cY c8 (aj rD sq rV rQ ac0 aev adb (aj aex Xt Ws Wd aaH ZB Zi (aj Yc aai Vj JT HR Jf H4 (aj JB JL GL ID I2 @aG @al (aj @ax @aw @o9 @po @H7 @JD @zi (eS @zC aj3 aiM ajt)))))))))
theorem NQ(p:Pg)(a1 a2 a3:Option Addr)(c1 c2 c3:Nat)(w:World)(hp:Ci p w a1 a2 a3):Calls prog 13 #[prV p a1 a2 a3 c1 c2 c3] w λe w' => e=.returned (XE (gW p))/\ah w [] w' := by
 have h1:=hp.l1;have h3:=hp.l3;refine af (nt:=70) [.tmp 2,.tmp 3,.tmp 4] func13 rfl rfl rfl ?_;refine vR E5 gV ?_;refine Wp.seq ?_;refine wR E5 gV ?_ ?_
 ·exact⟨⟨_,rfl⟩,λ_=>⟨_,rfl⟩,λ_=>⟨_,rfl⟩⟩
 refine wC gV (λhc=>?_) (λhc=>?_)
 ·have h:(131072<p.ty.length\/131072<p.tx.length)\/131072<p.co.length:=by
   simp at hc;omega
  have e:gW p=(24,0,⟨#[]⟩):=by rw[gW,if_pos h]
  rw[e];refine vR E5 gV ?_;refine wZ gV ?_;exact λE=>rfl
 have h:¬ ((131072<p.ty.length\/131072<p.tx.length)\/131072<p.co.length):=by
  simp at hc;omega
 have e0:gW p=match cS (oR p) p.ty.length 0 with
  |some i=>(110,(i:Int),⟨#[]⟩)
  |none=>eX p:=by rw[gW,if_neg h];all_goals rfl
 rw[e0];refine wK ?_;refine kP (λ_:Unit=>⟨100,bm [(1,.is (.own 0 0))],aY [(0,.cells 35 [.v (.slice a1 p.ty.length c1),.v (.slice a2 p.tx.length c2),.v (.slice a3 p.co.length c3),.v (.int .i64 p.src),.v (.int .i64 p.vw)])]⟩) (λ_=>w) (λ_=>[]) (λ_=>cS (oR p) p.ty.length 0=none) ?_ ?_
 ·skip;refine vR E5 gV ?_;refine Wp.block ?_
  refine Wp.loop (λk:Nat=>⟨40,bm [(1,.is (.own 0 0)),(5,.is (.v (.int .i64 (k:Nat))))],aY [(0,.cells 35 [.v (.slice a1 p.ty.length c1),.v (.slice a2 p.tx.length c2),.v (.slice a3 p.co.length c3),.v (.int .i64 p.src),.v (.int .i64 p.vw)])]⟩) (λk=>k<=p.ty.length/\∀ i<k,oR p i=false) (λk=>p.ty.length-k) 0 ?_ ⟨Nat.zero_le _,λi h=>by omega⟩ ?_
  ·exact wM (λk=>.key k) gV
  rintro k ⟨hk,hn⟩;refine Wp.seq ?_;refine vR E5 gV ?_;refine wC gV (λhc=>?_) (λhc=>?_)
  ·have hlt:k<p.ty.length:=by
    simp at hc;omega
   have wk:IntKind.i64.wrap ((k:Int)+1)=((k+1:Nat):Int):=wW;obtain⟨b,o,rfl,x1⟩:=nh hp.ty hlt;have hsz:=hp.sz _ (List.getElem_mem hlt);have hbad:oR p k=!uq p.ty[k]:=by
    rw[oR,List.getD_eq_getElem?_getD,List.getElem?_eq_getElem hlt];rfl
   generalize p.ty[k]=x at *;refine wK ?_;refine Wp.seq (Wp.block ?_);refine wR E5 (aa gV x1) ?_ ?_
   ·exact⟨oM,hsz⟩
   refine wC gV (λhc=>?_) (λhc=>?_)
   ·rw[lu (oR p) p.ty.length k hlt hn (hbad.trans hc)];refine vR E5 gV ?_;refine wZ gV ?_;exact λE=>rfl
   ·refine wK ?_;refine vr E5 (aa gV wk) ?_;refine⟨k+1,⟨oM,λi hi=>?_⟩,oM,?_⟩
    ·by_cases h:i=k
     ·rw[h];exact hbad.trans hc
     ·exact hn i oM
    ·exact wM (λk=>.key k) gV
  ·have hk' : k=p.ty.length:=by
    simp at hc;omega
   refine wE ?_;refine⟨(),iH (oR p) p.ty.length (by rw[<- hk'];exact hn),rfl,rfl,?_⟩;exact wM (λk=>.key k) gV
 refine λ_ hnone _=>?_
 rw[hnone];refine Wp.seq ?_;refine wR E5 gV ?_ ?_
 ·exact⟨⟨_,rfl⟩,λ_=>⟨_,rfl⟩⟩
 refine wC gV (λhc=>?_) (λhc=>?_)
 ·have e:eX p=(111,0,oN):=by rw[eX,if_pos hc]
  rw[e];refine vR E5 gV ?_;refine wZ gV ?_;exact λE=>rfl
 have e1:eX p=match cS (rW p) p.co.length 0 with
  |some i=>(111,(i:Int),⟨#[]⟩)
  |none=>(0,0,⟨#[]⟩):=by rw[eX,if_neg (by rw[hc];simp)];all_goals rfl
 rw[e1];refine wK ?_;refine Wp.seq ?_;refine vR E5 gV ?_;refine Wp.block ?_
 refine Wp.loop (λk:Nat=>⟨140,bm [(1,.is (.own 0 0)),(6,.is (.v (.int .i64 (k:Nat))))],aY [(0,.cells 35 [.v (.slice a1 p.ty.length c1),.v (.slice a2 p.tx.length c2),.v (.slice a3 p.co.length c3),.v (.int .i64 p.src),.v (.int .i64 p.vw)])]⟩) (λk=>k<=p.co.length/\∀ i<k,rW p i=false) (λk=>p.co.length-k) 0 ?_ ⟨Nat.zero_le _,λi h=>by omega⟩ ?_
 ·exact wM (λk=>.key k) gV
 rintro k ⟨hk,hn⟩;refine Wp.seq ?_;refine vR E5 gV ?_;refine wC gV (λhc=>?_) (λhc=>?_)
 ·have hlt:k<p.co.length:=by
   simp at hc;omega
  have wk:IntKind.i64.wrap ((k:Int)+1)=((k+1:Nat):Int):=wW;obtain⟨b,o,rfl,x1,x2,x3,x4⟩:=pq hp.co hlt;have hbad:rW p k=!nP p.ty.length p.tx.length p.co.length p.co[k].1 p.co[k].2.1 p.co[k].2.2.1 p.co[k].2.2.2:=by
   rw[rW,List.getD_eq_getElem?_getD,List.getElem?_eq_getElem hlt];rfl
  generalize p.co[k]=x at *;refine wK ?_;refine Wp.seq (Wp.block ?_);refine lf E5 (oA gV x1 x2 x3 x4) ?_ ?_
  ·omega
  refine wC gV (λhc=>?_) (λhc=>?_)
  ·rw[lu (rW p) p.co.length k hlt hn (hbad.trans hc)];refine vR E5 gV ?_;refine wZ gV ?_;exact λE=>rfl
  ·refine wK ?_;refine vr E5 (aa gV wk) ?_;refine⟨k+1,⟨oM,λi hi=>?_⟩,oM,?_⟩
   ·by_cases h:i=k
    ·rw[h];exact hbad.trans hc
    ·exact hn i oM
   ·exact wM (λk=>.key k) gV
 ·have hk' : k=p.co.length:=by
   simp at hc;omega
  rw[iH (rW p) p.co.length (by rw[<- hk'];exact hn)];refine wE ?_;refine vR E5 gV ?_;refine wZ gV ?_;exact λE=>rfl
theorem PgX.mono{p:Pg}{W W' : World}{S S' : Nat->Prop}{a1 a2 a3:Option Addr}(h:PgX p W S a1 a2 a3)(hs:cT W S W' S'):PgX p W' S' a1 a2 a3:=⟨h.1.mono hs,h.2.1.mono hs,h.2.2.mono hs⟩
theorem PgX.is{p:Pg}{w:World}{S:Nat->Prop}{a1 a2 a3:Option Addr}(h:PgX p w S a1 a2 a3)(hb:PgB p):Ci p w a1 a2 a3:=⟨hb,h.1.is,h.2.1.is,h.2.2.is⟩
section
variable (p:Pg)(a1 a2 a3:Option Addr)(c1 c2 c3:Nat)(hb:PgB p)(hn:p.ty.length<=1048576/\p.tx.length<=1048576/\p.co.length<=1048576)
end
section
variable (W:World)(bs:List Nat)(n op k a b:Int)
end
theorem mN(l:List ByteArray)(s:ByteArray):List.map SV.v (aE l)++[.v (.string s)]=List.map SV.v (aE (l++[s])):=by simp[aE]
section
variable (p:Pg)(a1 a2 a3:Option Addr)(c1 c2 c3:Nat)(hz:PgZ p)(hs:PgS p)
end
def eE(s:ByteArray):Nat->List ByteArray×Nat
 |0=>([],0)
 |k+1=>if k=s.size\/bt s k=32 then ((eE s k).1++[s.extract (eE s k).2 k],k+1) else eE s k
def gQ(s:ByteArray):List ByteArray:=(eE s (s.size+1)).1
theorem Em(s:ByteArray):∀ k,(eE s k).2<=k/\(eE s k).1.length<=k
 |0=>⟨Nat.le_refl _,Nat.le_refl _⟩
 | k+1=>by
  have ih:=Em s k;unfold eE;split
  ·simp only[List.length_append,List.length_cons,List.length_nil];omega
  ·omega
def mQ:=(aj @List.replicate_succ.{0} @List.replicate_zero.{0} @an @ab BG BH BJ (aj gR ck cf b9 b8 ca cc (aj cg cd fu fh fy ft fB (aj dc df dh db cY c8 rD (ur sq rV rQ @aG @al @ax @aw)))))
theorem R2(s:ByteArray)(hs:s.size<=100000000)(w:World):Calls prog 46 #[.string s] w λe w' =>
  ∃ u fp,e=.returned u/\(∀ E',a6 E' u fp w' (.row 9 1 (gQ s).length ((aE (gQ s)).map .v)))/\(∀ b∈fp,w.heap.size<=b/\b<w'.heap.size)/\LE.ah w [] w' := by
 refine mq (nt:=32) id [.tmp 2] func46 rfl rfl rfl ?_;refine vR Γ0 mQ ?_;refine vR Γ0 mQ ?_;refine vR Γ0 mQ ?_;refine Wp.seq ?_;refine vR Γ0 mQ ?_;refine Wp.block ?_
 refine Wp.loop (λk:Nat=>⟨20,bm [(0,.is (.v (.string s))),(3,.is (.hd 19)),(4,.is (.v (.int .i64 ((eE s k).2:Nat)))),(5,.is (.v (.int .i64 (k:Nat))))],aY [(19,.row 9 1 (eE s k).1.length (List.map SV.v (aE (eE s k).1)))]⟩) (λk=>k<=s.size+1) (λk=>s.size+1-k) 0 ?_ (Nat.zero_le _) ?_
 ·exact wM (λk=>if k=19 then .nil else .key k) (eS mQ @eE.eq_1 @eE.eq_2 @aE.eq_1)
 rintro k hk;refine Wp.seq ?_;refine vR Γ0 mQ ?_;refine wC mQ (λhc=>?_) (λhc=>?_)
 ·have hle:k<=s.size:=by
   simp at hc;omega
  have wk:IntKind.i64.wrap ((k:Int)+1)=((k+1:Nat):Int):=wW;obtain⟨p1,p2⟩:=Em s k;refine wK ?_;refine Wp.seq (Wp.block ?_)
  refine aV ⟨40,bm [(0,.is (.v (.string s))),(3,.is (.hd 19)),(4,.is (.v (.int .i64 ((eE s k).2:Nat)))),(5,.is (.v (.int .i64 (k:Nat)))),(21,.is (.v (.bool (decide (k=s.size\/bt s k=32)))))],aY [(19,.row 9 1 (eE s k).1.length (List.map SV.v (aE (eE s k).1)))]⟩ ?_ ?_
  ·by_cases h:k=s.size
   ·have e1:decide ((k:Int)=(s.size:Int))=true:=by simp;omega
    have e2:decide (k=s.size\/bt s k=32)=true:=by rw[decide_eq_true_eq];exact .inl h
    refine wr Γ0 (aa mQ e1) ?_ ?_
    ·exact λh=>by cases h
    exact wM (λk=>.key k) (aa mQ e2)
   ·have e1:decide ((k:Int)=(s.size:Int))=false:=by simp;omega
    have e2:decide (k=s.size\/bt s k=32)=decide (bt s k=32):=by simp[h]
    refine wr Γ0 (aa mQ e1) ?_ ?_
    ·omega
    exact wM (λk=>.key k) (aa mQ e2)
  refine wC mQ (λhc=>?_) (λhc=>?_)
  ·have h:k=s.size\/bt s k=32:=by simpa using hc
   have e0:eE s (k+1)=((eE s k).1++[s.extract (eE s k).2 k],k+1):=by rw[eE,if_pos h]
   have e1:=mN (eE s k).1 (s.extract (eE s k).2 k);refine wR Γ0 mQ ?_ ?_
   ·exact⟨⟨oM,oM,oM⟩,by unfold maxLen;omega,oM⟩
   refine vr Γ0 (aa mQ wk) ?_;refine vr Γ0 (aa mQ wk) ?_;refine⟨k+1,oM,oM,?_⟩;rw[e0];exact wM (λk=>if k=19 then .key 368 else .key k) (bP mQ e1 @List.length_append.{0})
  ·have h:¬ (k=s.size\/bt s k=32):=by simpa using hc
   have e0:eE s (k+1)=eE s k:=by rw[eE,if_neg h]
   refine wK ?_;refine vr Γ0 (aa mQ wk) ?_;refine⟨k+1,oM,oM,?_⟩;rw[e0];exact wM (λk=>.key k) mQ
 ·have hk' : k=s.size+1:=by
   simp at hc;omega
  subst hk';refine wE ?_;refine vR Γ0 mQ ?_;refine wZ mQ ?_;exact⟨_,⟨dE,.inl ⟨_,rfl,rfl⟩⟩,λE=>rfl⟩
def vD(s:ByteArray)(hs:s.size<=100000000):xu prog 46 where
 pre:=λW bs as_=>as_=[.val (.string s)]
 T:=9
 s:=1
 n:=λ_ _=>(gQ s).length
 vs:=λ_ _=>aE (gQ s)
 tm:=λ_ _ x=>x
 g:=λ_ _ v=>v
 tmg:=λ_ _ _ _=>rfl
 tmk:=λ_ _ _ _ h=>h
 enters:=call46
 ok:=by
  intro W w bs us as_ hk hu hp;subst hp
  match us,hu with
  |[x],hu=>
   obtain⟨rfl,_⟩:=hu;exact R2 s hs w
def dgT(c:UInt8):Prop:=48<=c.toNat/\c.toNat<=57
def sW:Nat->List UInt8->Nat
 |a,[]=>a
 |a,c::r=>sW (a*10+(c.toNat-48)) r
theorem qP:∀ (l:List UInt8) (a:Nat) (c:UInt8),sW a (l++[c])=sW a l*10+(c.toNat-48)
 |[],a,c=>rfl
 |x::r,a,c=>qP r _ c
theorem P3:∀ (l:List UInt8) (a:Nat),a<=sW a l
 |[],a=>Nat.le_refl _
 |c::r,a=>Nat.le_trans oM (P3 r (a*10+(c.toNat-48)))
theorem ahG:∀ (l:List UInt8) (a k:Nat),(∀ c∈l,dgT c)->a<10 ^ k->k+l.length<=18->Lib.parseUint10 a l=.ok (sW a l)/\sW a l<10 ^ (k+l.length)
 |[],a,k,_,h,_=>⟨rfl,h⟩
 | c::r,a,k,hd,h,hk=>by
  obtain⟨c1,c2⟩:=hd c sI;simp only[List.length_cons]at hk ⊢;have h17:10 ^ k<=100000000000000000:=Nat.le_trans (Nat.pow_le_pow_right (n:=10) dE (show k<=17 by omega)) dE;have hlt:a*10+(c.toNat-48)<10 ^ (k+1):=by
   rw[Nat.pow_succ];omega
  obtain⟨e1,e2⟩:=ahG r (a*10+(c.toNat-48)) (k+1) (λx hx=>hd x (by simp[hx])) hlt oM;simp only[Lib.parseUint10];rw[if_pos ⟨c1,c2⟩,if_neg oM,if_neg oM];exact⟨e1,by rw[show k+(r.length+1)=k+1+r.length by omega];exact e2⟩
theorem Pd{k:Nat}(h:k<10):(UInt8.ofNat (48+k)).toNat=48+k:=by
 rw[UInt8.toNat_ofNat'];exact Nat.mod_eq_of_lt oM
theorem Pf{c:UInt8}(h:dgT c):UInt8.ofNat (48+(c.toNat-48))=c:=by
 obtain⟨h1,h2⟩:=h;rw[show 48+(c.toNat-48)=c.toNat by omega,UInt8.ofNat_toNat]
def nz(l:List UInt8):Prop:=l.length=1\/∀ c r,l=c::r->c.toNat≠48
theorem aeq:∀ (n:Nat) (l:List UInt8),l.length=n+1->(∀ c∈l,dgT c)->nz l->Lib.decDigits (sW 0 l)=l:=by
 intro n
 induction n with
 | zero=>
  intro l hl hd _
  match l,hl with
  |[c],_=>
   have hc:=hd c sI;have hc' := hc;obtain⟨c1,c2⟩:=hc;show Lib.decDigits (0*10+(c.toNat-48))=[c];rw[Ap oM,show (0*10+(c.toNat-48)) % 10=c.toNat-48 by omega,Pf hc']
 | succ n ih=>
  intro l hl hd hn;rcases List.eq_nil_or_concat l with rfl|⟨l',c,hlc⟩
  ·simp at hl
  ·rw[List.concat_eq_append]at hlc;subst hlc;have hl' : l'.length=n+1:=by simpa using hl
   have hc:=hd c sI;have hc' := hc;obtain⟨c1,c2⟩:=hc;have hn0:=hn.resolve_left oM;obtain⟨x,r,rfl⟩:∃ x r,l' = x::r:=by
    cases l' with
    |nil=>simp at hl'
    |cons x r=>exact⟨x,r,rfl⟩
   have hx:=hn0 x (r++[c]) rfl;obtain⟨x1,x2⟩:=hd x sI;have hge:=P3 r (0*10+(x.toNat-48));have hpos:1<=sW 0 (x::r):=Nat.le_trans oM hge;have e:=ih (x::r) hl' (λy hy=>hd y (List.mem_append_left _ hy)) (.inr λy q hy=>by cases hy;exact hx);rw[qP];generalize sW 0 (x::r)=u at *
   rw[td oM,show (u*10+(c.toNat-48)) / 10=u by omega,show (u*10+(c.toNat-48)) % 10=c.toNat-48 by omega,Pf hc',e]
theorem Ou:∀ (n u:Nat),u<n->(∀ c∈Lib.decDigits u,dgT c)/\Lib.decDigits u≠[]/\nz (Lib.decDigits u)/\sW 0 (Lib.decDigits u)=u
 |0,u,h=>by omega
 | n+1,u,h=>by
  by_cases h1:u<10
  ·rw[Ap h1];have hd:=Pd (k:=u % 10) oM;refine⟨λc hc=>?_,sI,.inl rfl,?_⟩
   ·rw[List.mem_singleton.1 hc];unfold dgT;omega
   ·show 0*10+((UInt8.ofNat (48+u % 10)).toNat-48)=u;rw[hd];omega
  ·obtain⟨g1,g2,g3,g4⟩:=Ou n (u / 10) oM;have hd:=Pd (k:=u % 10) oM;rw[td h1];refine⟨λc hc=>?_,sI,.inr λc r hc=>?_,?_⟩
   ·rcases List.mem_append.1 hc with hc|hc
    ·exact g1 c hc
    ·rw[List.mem_singleton.1 hc];unfold dgT;omega
   ·generalize Lib.decDigits (u / 10)=l at *;cases l with
    |nil=>exact absurd rfl g2
    | cons x q=>
     simp only[List.cons_append,List.cons.injEq]at hc;obtain⟨rfl,_⟩:=hc;rcases g3 with g3|g3
     ·have:q=[]:=by simpa using g3
      subst this;have g4:0*10+(x.toNat-48)=u / 10:=g4;omega
     ·exact g3 x q rfl
   ·rw[qP,g4,hd];omega
theorem ff(s:ByteArray){k:Nat}(h:k<s.data.toList.length):bt s (k:Nat)=(s.data.toList[k].toNat:Int):=by
 have h' : k<s.data.size:=by simpa using h
 unfold bt;rw[Int.toNat_natCast,Array.getElem?_eq_getElem h'];simp
theorem Jt(s:ByteArray):∀ k,(∀ c∈s.data.toList.take k,dgT c)->k<=s.data.toList.length->qh s k=(sW 0 (s.data.toList.take k):Nat)
 |0,_,_=>rfl
 |k+1,hd,hk=>by
  have hlt:k<s.data.toList.length:=oM;rw[List.take_succ_eq_append_getElem hlt]at hd ⊢;obtain⟨c1,c2⟩:=hd s.data.toList[k] sI;have ih:=Jt s k (λc hc=>hd c (List.mem_append_left _ hc)) oM;show 10*qh s k+(bt s k-48)=_;rw[ih,qP,ff s hlt];omega
theorem An(s:ByteArray):bR s=true ↔ s.data.toList≠[]/\s.data.toList.length<=9/\nz s.data.toList/\∀ c∈s.data.toList,dgT c:=by
 have hz:s.size=s.data.toList.length:=Lib.size_eq s;unfold bR;simp only[Bool.and_eq_true,decide_eq_true_eq,Bool.not_eq_true',Bool.and_eq_false_iff,decide_eq_false_iff_not,List.all_eq_true,List.mem_range,GB];rw[hz];constructor
 ·rintro⟨⟨⟨h1,h2⟩,h3⟩,h4⟩;refine⟨λh=>by rw[h]at h1;simp at h1,h2,?_,λc hc=>?_⟩
  ·rcases h3 with h3|h3
   ·right;intro c r hcr hc;apply h3;have:=ff s (k:=0) oM;simp only[hcr,List.getElem_cons_zero]at this;rw[show ((0:Nat):Int)=0 from rfl]at this;rw[this,hc];rfl
   ·left;omega
  ·obtain⟨i,hi,rfl⟩:=List.getElem_of_mem hc;have h5:=h4 i hi;rw[ff s hi]at h5;unfold dgT;omega
 ·rintro⟨h1,h2,h3,h4⟩;have hp:0<s.data.toList.length:=List.length_pos_iff.2 h1;refine⟨⟨⟨hp,h2⟩,?_⟩,λi hi=>?_⟩
  ·rcases h3 with h3|h3
   ·right;omega
   ·left;have:=ff s (k:=0) hp;rw[show ((0:Nat):Int)=0 from rfl]at this;rw[this];obtain⟨x,r,hxr⟩:∃ x r,s.data.toList=x::r:=by
     cases hl:s.data.toList with
     |nil=>exact absurd hl h1
     |cons x r=>exact⟨x,r,rfl⟩
    have h5:=h3 x r hxr;simp only[hxr,List.getElem_cons_zero];omega
  ·rw[ff s hi];obtain⟨g1,g2⟩:=h4 _ (List.getElem_mem hi);omega
theorem D1(s:ByteArray):(⟨s.data.toList.toArray⟩:ByteArray)=s:=by
 rcases s with ⟨⟨l⟩⟩;rfl
theorem agX{s:ByteArray}(h:bR s=true):iK s=(sW 0 s.data.toList:Nat):=by
 obtain⟨h1,h2,h3,h4⟩:=(An s).1 h;rw[iK,if_pos h];have e:=Jt s s.data.toList.length (λc hc=>h4 c (List.mem_of_mem_take hc)) (Nat.le_refl _);rw[List.take_length]at e;rw[Lib.size_eq s,e]
theorem pf(s:ByteArray):iE s=bR s/\(bR s=true->rT s=iK s):=by
 have hz:s.size=s.data.toList.length:=Lib.size_eq s;have fwd:iE s=true->bR s=true:=λh=>by
  unfold iE at h;simp only[Bool.and_eq_true,decide_eq_true_eq]at h;obtain⟨h1,h2⟩:=h;split at h2
  ·rename_i v hv;simp only[Bool.and_eq_true,decide_eq_true_eq]at h2;obtain⟨h2,h3⟩:=h2;obtain⟨m,rfl⟩:=Int.eq_ofNat_of_zero_le h3;rw[sL]at h2;have hl:s.data.toList=Lib.decDigits m:=by rw[<- h2]
   obtain⟨g1,g2,g3,_⟩:=Ou (m+1) m oM;rw[An,hl];exact⟨g2,by rw[<- hl];omega,g3,g1⟩
  ·cases h2
 have bwd:bR s=true->iE s=true/\rT s=iK s:=λh=>by
  have hv:=agX h;obtain⟨h1,h2,h3,h4⟩:=(An s).1 h;obtain⟨c,r,hcr⟩:∃ c r,s.data.toList=c::r:=by
   cases hl:s.data.toList with
   |nil=>exact absurd hl h1
   |cons c r=>exact⟨c,r,rfl⟩
  obtain⟨c1,c2⟩:=h4 c (by rw[hcr];simp);obtain⟨e1,e2⟩:=ahG s.data.toList 0 0 h4 dE oM;have e3:sW 0 s.data.toList<1000000000:=Nat.lt_of_lt_of_le e2 (Nat.le_trans (Nat.pow_le_pow_right (n:=10) dE (show 0+s.data.toList.length<=9 by omega)) dE)
  have ha:Lib.atoiAll s.data.toList=.ok ((sW 0 s.data.toList:Nat):Int):=by
   have hp:=Lib.atoiAll_plain c r oM oM;rw[<- hcr]at hp;rw[hp,Lib.parseMag,if_neg h1,e1];simp only[Lib.signless];rw[if_neg oM]
  have hd:=aeq (s.data.toList.length-1) s.data.toList (by have:=List.length_pos_iff.2 h1;omega) h4 h3;refine⟨?_,?_⟩
  ·unfold iE;rw[ha,decide_eq_true oM,Bool.true_and];simp only[Bool.and_eq_true,decide_eq_true_eq];refine⟨?_,oM⟩;rw[sL,hd,D1]
  ·rw[rT,if_pos oM,FE,ha,hv]
 refine⟨?_,λh=>(bwd h).2⟩;cases h:bR s with
 |true=>exact (bwd h).1
 |false=>
  cases h' : iE s with
  |false=>rfl
  |true=>rw[fwd h']at h;cases h
def zT(p:List UInt8):List (List UInt8)->List (List UInt8)
 |[]=>[p]
 |h::t=>(p++h)::t
def mz:List UInt8->List (List UInt8)
 |[]=>[[]]
 |c::r=>if c.toNat=32 then []::mz r else zT [c] (mz r)
theorem O7:∀ l,mz l≠[]
 |[]=>by simp[mz]
 |c::r=>by
  unfold mz;split
  ·simp
  ·cases mz r<;>simp[zT]
theorem PI{X:List (List UInt8)}(h:X≠[]):zT [] X=X:=by
 cases X with
 |nil=>exact absurd rfl h
 |cons x r=>rfl
theorem agQ(p q:List UInt8)(X:List (List UInt8)):zT p (zT q X)=zT (p++q) X:=by
 cases X<;>simp[zT]
theorem DW:∀ l:List UInt8,(∀ c∈l,c.toNat≠32)->mz l=[l]
 |[],_=>rfl
 |c::r,h=>by
  rw[mz,if_neg (h c sI),DW r λx hx=>h x (by simp[hx])];rfl
theorem Jl:∀ (a r:List UInt8),(∀ c∈a,c.toNat≠32)->∀ c:UInt8,c.toNat=32->mz (a++c::r)=a::mz r
 |[],r,_,c,hc=>by rw[List.nil_append,mz,if_pos hc]
 |x::a,r,h,c,hc=>by
  rw[List.cons_append,mz,if_neg (h x sI),Jl a r (λy hy=>h y (by simp[hy])) c hc];rfl
theorem ka(s:ByteArray)(a b:Nat):(s.extract a b).data.toList=(s.data.toList.drop a).take (b-a):=by
 rcases s with ⟨⟨l⟩⟩;simp[List.drop_take]
theorem Ha(s:ByteArray):∀ k,k<=s.data.toList.length->mz s.data.toList=(eE s k).1.map (λb=>b.data.toList)++zT ((s.data.toList.drop (eE s k).2).take (k-(eE s k).2)) (mz (s.data.toList.drop k))
 |0,_=>by
  show mz s.data.toList=[]++zT ((s.data.toList.drop 0).take (0-0)) (mz (s.data.toList.drop 0));simp[PI (O7 _)]
 | k+1,hk=>by
  have hlt:k<s.data.toList.length:=oM;have ih:=Ha s k oM;have hb:=ff s hlt;have hf:=(Em s k).1;have hne:k≠s.size:=by rw[Lib.size_eq s];omega
  have hdr:s.data.toList.drop k=s.data.toList[k]::s.data.toList.drop (k+1):=List.drop_eq_getElem_cons hlt;rw[hdr]at ih;by_cases h:bt s k=32
  ·have e:eE s (k+1)=((eE s k).1++[s.extract (eE s k).2 k],k+1):=by rw[eE,if_pos (.inr h)]
   rw[e];simp only[List.map_append,List.map_cons,List.map_nil,ka,Nat.sub_self,List.take_zero,List.append_assoc,List.cons_append,List.nil_append];rw[PI (O7 _),ih,mz,if_pos oM];simp[zT]
  ·have e:eE s (k+1)=eE s k:=by rw[eE,if_neg (by rintro (g|g);exact hne g;exact h g)]
   rw[e,ih,mz,if_neg oM,agQ]
   congr 2
   have hlen:k-(eE s k).2<(s.data.toList.drop (eE s k).2).length:=by rw[List.length_drop];omega
   rw[show k+1-(eE s k).2=(k-(eE s k).2)+1 by omega,List.take_succ_eq_append_getElem hlen]
   congr 2
   rw[List.getElem_drop]
   congr 1
   omega
theorem Si(s:ByteArray):(gQ s).map (λb=>b.data.toList)=mz s.data.toList:=by
 have h:=Ha s s.data.toList.length (Nat.le_refl _);have e:eE s (s.size+1)=((eE s s.size).1++[s.extract (eE s s.size).2 s.size],s.size+1):=by rw[eE,if_pos (.inl rfl)]
 rw[gQ,e];rw[<- Lib.size_eq s]at h;rw[h];simp only[List.map_append,List.map_cons,List.map_nil,ka];rw[Lib.size_eq s,List.drop_length];simp[mz,zT]
theorem Gx:∀ (l:List UInt8) (c:UInt8),Lib.indexByte l c=-1->c∉l
 |[],c,_=>by simp
 | b::l,c,h=>by
  unfold Lib.indexByte at h;have hge:=Lib.indexByte_ge l c;split at h
  ·omega
  ·rename_i hb;split at h
   ·rename_i h1;have:=Gx l c (by simpa using h1);simp only[List.mem_cons,not_or];exact⟨λe=>hb (by simp[e]),this⟩
   ·omega
theorem JI:∀ (l:List UInt8) (c:UInt8) (i:Nat),Lib.indexByte l c=i->i<l.length/\l=l.take i++c::l.drop (i+1)/\c∉l.take i
 |[],c,i,h=>by simp only[Lib.indexByte]at h;omega
 | b::l,c,i,h=>by
  unfold Lib.indexByte at h;have hge:=Lib.indexByte_ge l c;split at h
  ·rename_i hb;have hi:i=0:=oM;subst hi;have:b=c:=by simpa using hb
   subst this;simp
  ·rename_i hb;split at h
   ·omega
   ·rename_i h0;have h0:Lib.indexByte l c≠-1:=by simpa using h0
    obtain⟨j,hj⟩:∃ j,i=j+1:=⟨i-1,oM⟩;subst hj;obtain⟨h1,h2,h3⟩:=JI l c j oM;refine⟨by simp;omega,?_,?_⟩
    ·simp only[List.take_succ_cons,List.cons_append,List.drop_succ_cons,List.cons.injEq,true_and];exact h2
    ·simp only[List.take_succ_cons,List.mem_cons,not_or];exact⟨λe=>hb (by simp[e]),h3⟩
theorem Qa:∀ (n:Nat) (s:ByteArray),s.size<n->(iu s).map (λb=>b.data.toList)=mz s.data.toList
 |0,s,h=>by omega
 | n+1,s,h=>by
  have hone:=Lib.one s ⟨#[32]⟩ rfl;have hc:(((((⟨#[32]⟩:ByteArray)[0]'dE).toNat:Nat):Int)).toNat.toUInt8=(32:UInt8):=rfl;rcases Lib.indexB_cases s ⟨#[32]⟩ with hm|⟨i,hi,hle⟩
  ·rw[iu,Lib.countB_miss s _ hm,Lib.splitB_zero];rw[hone]at hm;have hno:(32:UInt8)∉s.data.toList:=Gx _ 32 hm;rw[List.map_cons,List.map_nil,DW _ λc hc' he=>hno (((UInt8.toNat_inj (a:=c) (b:=32)).1 he) ▸ hc')]
  ·have hsz:(⟨#[32]⟩:ByteArray).size=1:=rfl;rw[iu,Lib.countB_hit s _ i dE hi,Nat.add_comm 1,Lib.splitB_hit _ _ _ s i hi,hsz];have hss:s.size=s.data.toList.length:=Lib.size_eq s;have ih:=Qa n (s.extract (i+1) s.size) (by rw[ByteArray.size_extract];omega);rw[iu]at ih;rw[List.map_cons,ih];rw[hone]at hi
   obtain⟨h1,h2,h3⟩:=JI _ 32 i hi
   conv=>rhs;rw[h2]
   rw[Jl _ _ (λc hc' he=>h3 (((UInt8.toNat_inj (a:=c) (b:=32)).1 he) ▸ hc')) _ rfl];rw[ka,ka,hss];simp only[Nat.add_zero,List.drop_zero,Nat.sub_zero]
   congr 2
   rw[List.take_of_length_le (by rw[List.length_drop];omega)]
theorem FQ{a b:ByteArray}(h:a.data.toList=b.data.toList):a=b:=by
 rw[<- D1 a,<- D1 b,h]
theorem nQ(s:ByteArray):iu s=gQ s:=by
 have h:(iu s).map (λb=>b.data.toList)=(gQ s).map (λb=>b.data.toList):=(Qa (s.size+1) s oM).trans (Si s).symm;exact List.map_inj_right (f:=λb:ByteArray=>b.data.toList) (λa b h=>FQ h) |>.1 h
theorem ajG:∀ c:Fin 256,Ey ((c.val:Nat):Int)=(Bc c.val).map λn=>((n:Nat):Int):=by decide +kernel
theorem NG(c:UInt8):Ey ((c.toNat:Nat):Int)=(Bc c.toNat).map λn=>((n:Nat):Int):=ajG ⟨c.toNat,c.toNat_lt⟩
theorem V7(p:ByteArray)(h0:p.size≠0)(h2:p.size<=2):mC p=(kS 0 p.data.toList).map λn=>((n:Nat):Int):=by
 have hz:=Lib.size_eq p;have hb:=λk hk=>ff p (k:=k) hk
 unfold mC;rw[if_neg h0];generalize p.data.toList=l at *;rcases l with _|⟨a,_|⟨b,_|⟨c,r⟩⟩⟩
 ·simp only[List.length_nil,List.length_cons]at hz;omega
 ·have b0:=hb 0 sI;simp only[List.getElem_cons_zero]at b0;rw[b0,NG,hz];simp only[kS];cases Bc a.toNat with
  |none=>rfl
  |some d=>simp
 ·have b0:=hb 0 sI;have b1:=hb 1 sI;simp only[List.getElem_cons_zero,List.getElem_cons_succ]at b0 b1;rw[b0,b1,NG,NG,hz];simp only[kS];cases Bc a.toNat with
  |none=>rfl
  | some d=>
   simp only[Option.map_some];rw[if_neg sI];cases Bc b.toNat with
   |none=>rfl
   |some e=>
    simp only[Option.map_some,Option.some.injEq];omega
 ·simp only[List.length_nil,List.length_cons]at hz;omega
theorem KI(w:World):Calls prog 192 #[.string ⟨#[]⟩,.int .i64 16,.int .i64 8] w λe w' => e=.returned (ah2 none)/\w' = w:=by
 go_enter func192,Tryz.ntmps192
 go_wp2
 go_ret2
 exact⟨rfl,rfl⟩
theorem IG(p:ByteArray)(h2:p.size<=2)(w:World):Calls prog 192 #[.string p,.int .i64 16,.int .i64 8] w λe w' => e=.returned (ah2 (if p.size=0 then none else kS 0 p.data.toList))/\Below w.heap.size w w' := by
 by_cases h0:p.size=0
 ·have hp:p=⟨#[]⟩:=by
   apply ByteArray.ext;exact Array.eq_empty_of_size_eq_zero h0
  subst hp;exact (KI w).mono λe w' ⟨he,hw⟩=>⟨he,by rw[hw];exact Below.refl _ _⟩
 ·rw[if_neg h0];exact (Ku p h0 h2 w).mono λe w' ⟨he,hw⟩=>⟨he,by rw[hw];exact Lib.bytesWorld_below _ _ _⟩
def aaw(p:ByteArray)(h2:p.size<=2)(v:Nat)(hv:mC p=some (v:Int)):aM prog 192 where
 pre:=λW bs as_=>as_=[.val (.string p),.val (.int .i64 16),.val (.int .i64 8)]
 res:=λ_ _=>.tuple #[.int .u64 (v:Nat),.nilIface]
 enters:=call192
 ok:=by
  intro W w bs us as_ hk hu hp;subst hp
  match us,hu with
  | [x,y,z],hu=>
   obtain⟨rfl,rfl,rfl,_⟩:=hu;refine (IG p h2 w).mono λe w' ⟨he,hw⟩=>⟨?_,LE.ah.lU hw⟩
   have h0:p.size≠0:=λh=>by unfold mC at hv;rw[if_pos h]at hv;cases hv
   rw[V7 p h0 h2]at hv;rw[if_neg h0]at he;cases hm:kS 0 p.data.toList with
   |none=>rw[hm]at hv;cases hv
   |some u=>
    rw[hm]at hv he;simp only[Option.map_some,Option.some.injEq]at hv;have:u=v:=oM;subst this;exact he
section
variable (p:ByteArray)(h2:p.size<=2)(v:Nat)(hv:mC p=some (v:Int))
noncomputable def aaI:Env prog:=⟨λ| 192=>some (aaw p h2 v hv).spec|_=>none,λ_=>none,λ_ _=>none⟩
theorem YY:(aaI p h2 v hv).sp 192=some (aaw p h2 v hv).spec:=rfl
end
def T7:=(aj @List.replicate_succ.{0} @List.replicate_zero.{0} @an @ab gR ck cf (aj b9 b8 ca cc cg cd dc (aj df dh db cY c8 Wn Vd (aj XK aap pJ qg pB pA ZR (ur Zk @aG @al @ax @aw @YY @aaw.eq_1)))))
theorem UK(p:ByteArray)(h2:p.size<=2)(v:Nat)(hv:mC p=some (v:Int))(w:World):Calls prog 141 #[.string p,.int .i64 16,.int .i64 8] w λe w' => e=.returned (.tuple #[.int .u64 (v:Nat),.nilIface])/\LE.ah w [] w' := by
 refine af (nt:=26) [.tmp 6,.tmp 7] func141 rfl rfl rfl ?_;refine vR (aaI p h2 v hv) T7 ?_;refine vR (aaI p h2 v hv) T7 ?_;refine Wp.seq ?_;refine vR (aaI p h2 v hv) T7 ?_;refine wC T7 (λhc=>?_) (λhc=>?_)
 ·exact absurd hc sI
 refine wK ?_;refine vR (aaI p h2 v hv) T7 ?_;refine wZ T7 ?_;exact λE=>rfl
def aaK(p:ByteArray)(h2:p.size<=2)(v:Nat)(hv:mC p=some (v:Int)):aM prog 141 where
 pre:=λW bs as_=>as_=[.val (.string p),.val (.int .i64 16),.val (.int .i64 8)]
 res:=λ_ _=>.tuple #[.int .u64 (v:Nat),.nilIface]
 enters:=call141
 ok:=by
  intro W w bs us as_ hk hu hp;subst hp
  match us,hu with
  |[x,y,z],hu=>
   obtain⟨rfl,rfl,rfl,_⟩:=hu;exact UK p h2 v hv w
def aaS:ByteArray:=⟨#[80,97,114,115,101,85,105,110,116]⟩
theorem M4(p:ByteArray)(h2:p.size<=2)(hn:mC p=none)(ev:Value)(w:World)(hv:w.cell? ⟨5,0,none⟩=some ev)(hev:ev=.nilIface\/∃ te pe,ev=.iface te pe) :
  Calls prog 141 #[.string p,.int .i64 16,.int .i64 8] w λe w' => ∃ N,e=.returned (.tuple #[.int .u64 0,.iface 341 (.pointer (some ⟨N,0,none⟩))])/\w.heap.size<=N/\w'.heap[N]?=some (.cells #[.string aaS,.string p,ev] 359 (0,0))/\Below w.heap.size w w' := by
 have hG:5<w.heap.size:=Lib.lt_of_cell hv;have hm:(if p.size=0 then none else kS 0 p.data.toList)=none:=by
  by_cases h0:p.size=0
  ·rw[if_pos h0]
  ·rw[if_neg h0];rw[V7 p h0 h2]at hn;cases h:kS 0 p.data.toList with
   |none=>rfl
   |some v=>rw[h]at hn;cases hn
 have hI:=IG p h2 w;rw[hm]at hI;have hI:Calls prog 192 #[.string p,.int .i64 16,.int .i64 8] w λe w' => e=.returned (.tuple #[.int .u64 0,.iface 339 (.int .i64 2)])/\Below w.heap.size w w' := hI
 clear hm
 go_enter func141,Tryz.ntmps141
 go_wp2_with (go_at_call 192;refine hI.mono ?_)
 rintro e W1 ⟨rfl,hb1⟩;have hv1:W1.cell? ⟨5,0,none⟩=some ev:=(hb1.cell (show (⟨5,0,none⟩:Addr).block<w.heap.size from hG)).trans hv
 go_wp2_with (go_at_call 193;refine (Any.strconv_toError_syntax Tryz.Vm ⟨#[80,97,114,115,101,85,105,110,116]⟩ p 16 8 ev _ oM ?_ hev).mono ?_)
 ·exact hv1
 rintro e W2 ⟨N,rfl,g1,g2,g3⟩
 go_wp2
 go_ret2
 exact⟨N,rfl,Nat.le_trans hb1.size g1,g2,hb1.trans (g3.mono hb1.size)⟩
def NC(p:ByteArray)(h2:p.size<=2)(hn:mC p=none)(ev:Value):mr prog 141 where
 args:=[.v (.string p),.v (.int .i64 16),.v (.int .i64 8)]
 L:=[]
 val:=.tup [.v (.int .u64 0),.ifc 341 (.own 8 0)]
 L' := [(8,.cells 359 [.v (.string aaS),.v (.string p),.v ev])]
 eg:=[]
 pre:=λW bs=>(5∉bs/\W.cell? ⟨5,0,none⟩=some ev)/\∃ t v,ev=.iface t v
 low:=by simp
 kept:=by simp
 vk:=by simp[SV.keys,ay,fresh]
 lk:=by simp[aS.keys,SV.keys,ay,fresh]
 nd:=by simp
 enters:=call141
 ok:=by
  intro W w bs fp E F hk hm hs hp;obtain⟨⟨h5,hc⟩,t,v,rfl⟩:=hp;have hc' : w.cell? ⟨5,0,none⟩=some (.iface t v):=by
   have:=hk.cell h5 (by rw[hc];rfl);rw[this,hc];rfl
  refine (M4 p h2 hn (.iface t v) w hc' (.inr ⟨t,v,rfl⟩)).mono ?_;rintro e w' ⟨N,rfl,g1,g2,g3⟩;have hN:N<w'.heap.size:=by
   refine Decidable.byContradiction λh=>?_
   rw[Array.getElem?_eq_none oM]at g2;cases g2
  refine⟨λ_=>.pointer (some ⟨N,0,none⟩),λ_=>[N],rfl,sI,?_,?_,?_,?_,(LE.ah.lU g3).mono sI⟩
  ·intro k e he;have:=cB he;simp only[List.mem_singleton,Prod.mk.injEq]at this;obtain⟨rfl,rfl⟩:=this;exact⟨N,rfl,rfl,g2⟩
  ·intro k e he b hb;rw[List.mem_singleton.1 hb];exact hN
  ·intro k e he b hb;rw[List.mem_singleton.1 hb];exact .inl g1
  ·intro k k' e e' hne he he';have h1:=cB he;have h2:=cB he';simp only[List.mem_singleton,Prod.mk.injEq]at h1 h2;exact absurd (h1.1.trans h2.1.symm) hne
structure Rd where
 ty:List ByteArray
 tx:List ByteArray
 co:List (Int×Int×Int×Int)
 src:Int
 vw:Int
 pl:Nat
def Rd.pg(r:Rd):Pg:=⟨r.ty,r.tx,r.co,r.src,r.vw⟩
def xF(s:ByteArray):Nat->Nat->Nat
 |0,i=>i
 |n+1,i=>if bt s (i:Nat)=10 then i else xF s n (i+1)
def bK(s:ByteArray)(i:Nat):Nat:=xF s (s.size-i) i
theorem ye(s:ByteArray):∀ n i,i<=xF s n i/\xF s n i<=i+n
 |0,i=>⟨Nat.le_refl _,Nat.le_refl _⟩
 |n+1,i=>by
  unfold xF;split
  ·omega
  ·have:=ye s n (i+1);omega
theorem jO{s:ByteArray}{i:Nat}(h:i<=s.size):i<=bK s i/\bK s i<=s.size:=by
 have:=ye s (s.size-i) i;unfold bK;omega
def dt(s:ByteArray)(i:Nat):ByteArray:=s.extract i (bK s i)
def cH:ByteArray:=⟨#[116,121,112,101,32,47]⟩
def fQ:ByteArray:=⟨#[116,101,120,116,32]⟩
def AN:ByteArray:=⟨#[47]⟩
abbrev Lt:=Rd->ByteArray->Bool×Rd
def zv(l:ByteArray):Bool:=(oQ l cH&&Bx (ez l cH) AN)&&uq (pd (ez l cH) AN)
def eY:Lt:=λr l=>if zv l=true then (true,{ r with ty:=r.ty++[pd (ez l cH) AN] }) else (false,r)
def B3(l:ByteArray):Bool:=oQ l fQ&&(ib (ez l fQ)).2
def eo:Lt:=λr l=>if B3 l=true then (true,{ r with tx:=r.tx++[(ib (ez l fQ)).1] }) else (false,r)
def fT:Lt:=λr l=>match iu l with
 |[a,b,c]=>if a=oN then (iE b&&iE c,{ r with src:=rT b,vw:=rT c }) else (false,r)
 |_=>(false,r)
def sB:ByteArray:=⟨#[115]⟩
def vB:ByteArray:=⟨#[118]⟩
def cdK(st:Bool)(f:List ByteArray):Option (Int×List ByteArray):=
 if st=true then match f with
  |[]=>none
  |t::r=>if t=sB then some (0,r) else if t=vB then some (1,r) else none
 else some (0,f)
def TD(u:Int)(f:List ByteArray):Option (Int×List ByteArray):=
 if u=0 then some (0,f) else match f with
  |[]=>none
  |t::r=>if iE t=true then some (rT t,r) else none
def cdX(m:Nat)(f:List ByteArray):Option ((Int×Int×Int×Int)×List ByteArray):=
 match cdK (gn m).2.1 f with
 |none=>none
 | some (k,f1)=>match TD (gn m).2.2.1 f1 with
  |none=>none
  |some (x,f2)=>match TD (gn m).2.2.2 f2 with
   |none=>none
   |some (y,f3)=>some (((m:Nat),k,x,y),f3)
def aav(t:ByteArray):Option Nat:=cS (λm=>decide ((gn m).1=t)) 21 0
def BL(n:Nat)(l:ByteArray):Bool×List (Int×Int×Int×Int):=
 match iu l with
 | a::b::f=>if a=gl (n:Nat) then match aav b with
   |none=>(false,[])
   |some m=>match cdX m f with
    |none=>(false,[])
    |some (x,f')=>(f'.isEmpty,[x])
  else (false,[])
 |_=>(false,[])
def ia:Lt:=λr l=>((BL r.co.length l).1,{ r with co:=r.co++(BL r.co.length l).2 })
def j6(tk:Lt)(s:ByteArray):Nat->Rd->Rd
 |0,r=>r
 |n+1,r=>if bK s r.pl<s.size then if (tk r (dt s r.pl)).1=true then j6 tk s n { (tk r (dt s r.pl)).2 with pl:=bK s r.pl+1 } else (tk r (dt s r.pl)).2 else r
def oL(tk:Lt)(s:ByteArray)(r:Rd):Rd:=j6 tk s (s.size-r.pl) r
def sx(s:ByteArray)(r:Rd):Bool×Rd:=
 if bK s r.pl<s.size then if (fT r (dt s r.pl)).1=true then (true,{ (fT r (dt s r.pl)).2 with pl:=bK s r.pl+1 }) else (false,(fT r (dt s r.pl)).2) else (false,r)
def xS:Rd:=⟨[],[],[],0,0,0⟩
def Lz(s:ByteArray):Bool×Rd:=sx s (oL eo s (oL eY s xS))
def l8(s:ByteArray):Rd:=if (Lz s).1=true then oL ia s (Lz s).2 else (Lz s).2
def eG:Pg:=⟨[],[],[],0,0⟩
def q8(s:ByteArray):Pg×Int×Int×ByteArray:=
 if 8388608<s.size then (eG,1,0,dJ)
 else if (Lz s).1=false\/(l8 s).pl<s.size then (eG,110,(l8 s).pl,dJ)
 else if (131072<(l8 s).ty.length\/131072<(l8 s).tx.length)\/131072<(l8 s).co.length then (eG,24,0,dJ)
 else if eX (l8 s).pg=(0,0,dJ) then ((l8 s).pg,0,0,dJ) else (eG,eX (l8 s).pg)
def Ip(l:ByteArray):Bool:=((kz l cH&&decide (6<l.size))&&decide (bt l ((l.size:Int)-1)=47))&&uq (l.extract 6 (l.size-1))
def Jb(l:ByteArray):Bool:=kz l fQ&&(jr (oO l)).2
def T3(u:ByteArray)(f:List ByteArray):Nat->Nat->Bool->Int×Int×Int->Option (Int×Int×Int)
 |0,_,_,x=>some x
 | n+1,i,fst,x=>
  if i<u.size then
   if bt u (i:Nat)=107 then
    if f.getD i dJ=sB then T3 u f n (i+1) fst x
    else if f.getD i dJ=vB then T3 u f n (i+1) fst (1,x.2)
    else none
   else if bR (f.getD i dJ)=true then
    T3 u f n (i+1) false (if fst=true then (x.1,iK (f.getD i dJ),x.2.2) else (x.1,x.2.1,iK (f.getD i dJ)))
   else none
  else some x
def qu(t:ByteArray):Option Nat:=cS (λm=>decide ((dj (m:Nat)).1=t)) 21 0
def yN(n:Nat)(l:ByteArray):Option (Int×Int×Int×Int):=
 match gQ l with
 | a::b::f=>if a=gl (n:Nat) then match qu b with
   |none=>none
   | some m=>if f.length=(dj (m:Nat)).2.size then match T3 (dj (m:Nat)).2 f (dj (m:Nat)).2.size 0 true (0,0,0) with
     |none=>none
     |some x=>some ((m:Nat),x)
    else none
  else none
 |_=>none
def uC(l:ByteArray):Option (ByteArray×ByteArray):=match gQ l with
 |[a,b,c]=>if a=oN then some (b,c) else none
 |_=>none
def LF(g:Nat)(r:Rd)(l:ByteArray):Option (Nat×Rd):=
 if (decide (g=0)&&Ip l)=true then some (0,{ r with ty:=r.ty++[l.extract 6 (l.size-1)] })
 else if (decide (g<=1)&&Jb l)=true then some (1,{ r with tx:=r.tx++[(jr (oO l)).1] })
 else if (decide (g<=1)&&(uC l).isSome)=true then match uC l with
  |none=>none
  |some (b,c)=>if (bR b&&bR c)=true then some (2,{ r with src:=iK b,vw:=iK c }) else none
 else if g=2 then match yN r.co.length l with
  |none=>none
  |some x=>some (2,{ r with co:=r.co++[x] })
 else none
def Gs(s:ByteArray):Nat->Nat->Rd->Except Nat (Nat×Rd)
 |0,g,r=>.ok (g,r)
 | n+1,g,r=>
  if r.pl<s.size then
   match LF g r (dt s r.pl) with
   |none=>.error r.pl
   |some (g',r')=>if bK s r.pl<s.size then Gs s n g' { r' with pl:=bK s r.pl+1 } else .error r.pl
  else .ok (g,r)
def G2(s:ByteArray):Pg×Int×Int×ByteArray:=
 if 8388608<s.size then (eG,1,0,dJ)
 else match Gs s s.size 0 xS with
  |.error i=>(eG,110,i,dJ)
  |.ok (g,r)=>if g<2 then (eG,110,s.size,dJ)
   else if (gW r.pg).1=0 then (r.pg,0,0,dJ) else (eG,gW r.pg)
def UT(s:ByteArray)(r:Rd):List AV:=[.row 9 1 r.ty.length (aE r.ty),.row 9 1 r.tx.length (aE r.tx),.row 50 4 r.co.length (cn r.co),.val (.int .i64 r.src),.val (.int .i64 r.vw),.val (.string s),.val (.int .i64 (r.pl:Nat))]
theorem abA(s:ByteArray)(c:Int)(w:World):Calls prog 138 #[.string s,.int .u8 c] w λe w' => e=.returned (.int .i64 (Lib.indexByte s.data.toList c.toNat.toUInt8))/\LE.ah w [] w' :=
 (Any.strings_IndexByte Tryz.adt s c w).mono λe w' ⟨he,hw⟩=>⟨he,by rw[hw];exact LE.ah.refl w []⟩
def afl:aM prog 138 where
 pre:=λW bs=>λ| [.val (.string s),.val (.int .u8 c)]=>True|_=>False
 res:=λW=>λ| [.val (.string s),.val (.int .u8 c)]=>.int .i64 (Lib.indexByte s.data.toList c.toNat.toUInt8)|_=>undef
 enters:=call138
 ok:=by
  intro W w bs us as_ hk hu hp;split at hp
  ·rename_i s c
   match us,hu with
   |[u0,u1],hu=>
    obtain⟨rfl,rfl,_⟩:=hu;exact abA s c w
  ·exact hp.elim
theorem YD(W:World)(s:ByteArray)(c:Int):afl.res W [.val (.string s),.val (.int .u8 c)]=.int .i64 (Lib.indexByte s.data.toList c.toNat.toUInt8):=rfl
theorem V1(W:World)(bs:List Nat)(s:ByteArray)(c:Int):afl.pre W bs [.val (.string s),.val (.int .u8 c)]=(True):=rfl
theorem I1(s:ByteArray):∀ (n i:Nat),i+n=s.size->Lib.indexByte (s.data.toList.drop i) 10=if xF s n i<s.size then ((xF s n i-i:Nat):Int) else -1
 |0,i,h=>by
  have hd:s.data.toList.drop i=[]:=List.drop_eq_nil_of_le (by rw[<- Lib.size_eq];omega);rw[hd,xF,if_neg oM];rfl
 | n+1,i,h=>by
  have hlt:i<s.data.toList.length:=by rw[<- Lib.size_eq];omega
  have hb:=ff s hlt;have ih:=I1 s n (i+1) oM;have hg:=(ye s n (i+1)).1;rw[List.drop_eq_getElem_cons hlt,Lib.indexByte,xF];by_cases h10:bt s (i:Nat)=10
  ·have hc:s.data.toList[i]=10:=UInt8.toNat_inj.1 (by have:(10:UInt8).toNat=10:=rfl;omega);rw[if_pos h10,if_pos (by simp[hc]),if_pos oM];simp
  ·have hc:¬ s.data.toList[i]=10:=λe=>h10 (by rw[hb,e];rfl)
   rw[if_neg h10,if_neg (by simpa using hc),ih];by_cases he:xF s n (i+1)<s.size
   ·rw[if_pos he,if_pos he,if_neg (by simp<;>omega)];omega
   ·rw[if_neg he,if_neg he];rfl
theorem agd{s:ByteArray}{i:Nat}(hi:i<=s.size):Lib.indexByte (s.extract i s.size).data.toList 10=if bK s i<s.size then ((bK s i-i:Nat):Int) else -1:=by
 have h:=I1 s (s.size-i) i oM;have e:(s.extract i s.size).data.toList=s.data.toList.drop i:=by
  rw[ka,List.take_of_length_le (by rw[List.length_drop,<- Lib.size_eq];omega)]
 rw[e,h];rfl
def mb(s:ByteArray)(i:Nat):Value:=if bK s i<s.size then .tuple #[.string (dt s i),.bool true] else .tuple #[.string ⟨#[]⟩,.bool false]
theorem RS{w:World}{u:Value}{fp:List Nat}{s:ByteArray}{r:Rd}(h:bC w u fp 112 (UT s r)) :
  ∃ b,u=.pointer (some ⟨b,0,none⟩)/\w.cell? ⟨b,5,none⟩=some (.string s)/\w.cell? ⟨b,6,none⟩=some (.int .i64 (r.pl:Nat)):=by
 obtain⟨b,us,h1,h2,h3⟩:=DN h
 match us,h2 with
 |[x0,x1,x2,x3,x4,x5,x6],h2=>
  obtain⟨_,_,_,_,_,rfl,rfl,_⟩:=h2;exact⟨b,h1,h3 5 sI,h3 6 sI⟩
noncomputable def G5:Env prog:=⟨λ| 138=>some afl.spec|_=>none,λ| _=>none,λ_ _=>none⟩
theorem Z6:G5.sp 138=some afl.spec:=rfl
def zq:=(aj @List.replicate_succ.{0} @List.replicate_zero.{0} @an @ab jk jn gR (aj ck cf b9 b8 ca cc cg (aj cd fu fh fy ft fB dc (aj df dh db cY c8 o5 pY (aj pw pZ pQ p6 pC o4 qf (aj pO o7 qd @aG @al @ax @aw (bP YD V1 Z6)))))))
theorem Nk(s:ByteArray)(i b:Nat)(w:World)(hi:i<=s.size)(hs:s.size<=16777216)(g1:w.cell? ⟨b,5,none⟩=some (.string s))(g2:w.cell? ⟨b,6,none⟩=some (.int .i64 (i:Nat))) :
  Calls prog 79 #[.pointer (some ⟨b,0,none⟩)] w λe w' => e=.returned (mb s i)/\ah w [] w' := by
 have hx:Lib.indexByte (s.extract i s.size).data.toList (Nat.toUInt8 10)=_:=agd hi;have hle:=jO hi;refine af (nt:=32) [.tmp 2,.tmp 3] func79 rfl rfl rfl ?_;refine vR G5 zq ?_;by_cases he:bK s i<s.size
 ·have e:mb s i=.tuple #[.string (s.extract i (bK s i)),.bool true]:=by rw[mb,if_pos he];rfl
  rw[if_pos he]at hx;have ha:IntKind.i64.wrap ((i:Int)+((bK s i-i:Nat):Int))=((bK s i:Nat):Int):=wW;rw[e];generalize bK s i=j at *;refine Qw G5 (eS zq g1 g2 hx) ?_;refine Wp.seq ?_;refine vR G5 zq ?_;refine wC zq (λhc=>?_) (λhc=>?_)
  ·exact absurd hc sI
  refine wK ?_;refine Qw G5 (eS zq g1 g2 ha) ?_;refine wZ zq ?_;exact λE=>rfl
 ·have e:mb s i=.tuple #[.string ⟨#[]⟩,.bool false]:=by rw[mb,if_neg he]
  rw[if_neg he]at hx;rw[e];refine Qw G5 (eS zq g1 g2 hx) ?_;refine Wp.seq ?_;refine vR G5 zq ?_;refine wC zq (λhc=>?_) (λhc=>?_)
  ·skip;refine vR G5 zq ?_;refine wZ zq ?_;exact λE=>rfl
  ·exact absurd hc sI
def ox(s:ByteArray)(r:Rd):Dx prog 79 where
 T:=112
 pre:=λW bs fs as_=>fs=UT s r/\as_=[]/\r.pl<=s.size/\s.size<=16777216
 res:=λW fs as_=>mb s r.pl
 enters:=call79
 ok:=by
  intro W w bs u fp us fs as_ hk ho hu hp;obtain⟨rfl,rfl,h1,h2⟩:=hp
  match us,hu with
  |[],_=>
   obtain⟨b,rfl,g1,g2⟩:=RS ho;exact Nk s r.pl b w h1 h2 g1 g2
def fP(W:World)(S:Nat->Prop):Prop:=(fR W S/\bB W S)/\fC W S/\gJ W S
theorem fP.mono{W W' : World}{S S' : Nat->Prop}(h:fP W S)(hs:cT W S W' S'):fP W' S' := ⟨⟨h.1.1.mono hs,h.1.2.mono hs⟩,h.2.1.mono hs,h.2.2.mono hs⟩
theorem fP.dU{W w:World}{bs fp:List Nat}(h:fP W (Out bs))(hk:LE.ah W bs w)(hm:∀ b∈fp,W.heap.size<=b\/b∈bs):fP w (Out fp):=
 h.mono λb hb hs=>⟨hk.block b hb hs,λhb' => (hm b hb').elim (λg=>absurd g (Nat.not_le.2 hb)) hs⟩
def Lo(s:ByteArray)(r:Rd):Prop:=(r.ty.length<=r.pl/\r.tx.length<=r.pl/\r.co.length<=r.pl)/\r.pl<=s.size/\s.size<=16000000
def U3(g:FuncId)(tk:Lt):Prop:=∀ (s:ByteArray) (r:Rd) (l:ByteArray) (u:Value) (fp:List Nat) (w:World),Lo s r->l.size<=16000000->fP w (Out fp)->bC w u fp 112 (UT s r)->(∀ b∈fp,b<w.heap.size) ->
 Calls prog g (#[u]++#[.string l]) w λe w' => gM w u fp 112 e w' (.ret (.bool (tk r l).1) (UT s (tk r l).2))
theorem FH(s p:ByteArray):(ez s p).size<=s.size:=by
 rw[Lib.size_eq,Lib.size_eq s];unfold ez Lib.trimPrefix;split
 ·show (s.data.toList.drop _).length<=_;rw[List.length_drop];omega
 ·exact Nat.le_refl _
theorem O5(s p:ByteArray):(pd s p).size<=s.size:=by
 rw[Lib.size_eq,Lib.size_eq s];unfold pd Lib.trimSuffix;split
 ·show (s.data.toList.take _).length<=_;rw[List.length_take];omega
 ·exact Nat.le_refl _
noncomputable def qc:Env prog:=⟨λ| 33=>some ql.spec|80=>some Ds.spec|81=>some PU.spec|_=>none,λ| _=>none,λ_ _=>none⟩
theorem acg:qc.sp 33=some ql.spec:=rfl
theorem abo:qc.sp 80=some Ds.spec:=rfl
theorem agW:qc.sp 81=some PU.spec:=rfl
def uN:=(aj @List.replicate_succ.{0} @List.replicate_zero.{0} @an @ab jk jn BG (aj BH BJ gR ck cf b9 b8 (aj ca cc cg cd dc df dh (aj db cY c8 rD sq rV rQ (aj yW yM zA yI Bv Ad yG (aj Bj zK uR vz Gp Fv o5 (aj pY pw pZ pQ p6 pC o4 (aj qf pO o7 qd @aG @al @ax (aj @aw @UT.eq_1 acg abo agW @rO @rG (eS @Cz @Df @TQ @TN))))))))))
theorem On:U3 50 eY:=by
 intro s r l u fp w hr hl ha ho hlt;obtain⟨⟨n1,n2,n3⟩,n4,n5⟩:=hr;have hc1:=FH l cH;have hc2:=O5 (ez l cH) AN;have hT:(⟨#[116,121,112,101,32,47]⟩:ByteArray)=cH:=rfl;have hS:(⟨#[47]⟩:ByteArray)=AN:=rfl;refine bg (nt:=41) #[.string l] [.tmp 4] (by show 7<=7;omega) ho hlt func50 rfl rfl rfl ?_
 refine vR qc uN ?_;refine vR qc (aa uN hT) ?_;refine wR qc (aa uN hS) ?_ ?_
 ·omega
 refine Wp.seq ?_;refine wR qc uN ?_ ?_
 ·intro h;exact⟨oM,ha.1.2⟩
 refine wC uN (λhc=>?_) (λhc=>?_)
 ·have h:zv l=false:=by
   unfold zv;revert hc;generalize oQ l cH=a;generalize Bx (ez l cH) AN=b;generalize uq (pd (ez l cH) AN)=c;cases a<;>cases b<;>cases c<;>simp
  have e:eY r l=(false,r):=by unfold eY;rw[if_neg (by simp[h])]
  rw[e];refine vR qc uN ?_;refine wZ uN ?_;exact⟨_,_,rfl,λE=>rfl,_,_,rfl,(ev (aa uN @aA)),dE⟩
 ·have h:zv l=true:=by
   unfold zv;revert hc;generalize oQ l cH=a;generalize Bx (ez l cH) AN=b;generalize uq (pd (ez l cH) AN)=c;cases a<;>cases b<;>cases c<;>simp
  have e:eY r l=(true,{ r with ty:=r.ty++[pd (ez l cH) AN] }):=by unfold eY;rw[if_pos h]
  have e1:=mN r.ty (pd (ez l cH) AN);have e2:(r.ty++[pd (ez l cH) AN]).length=r.ty.length+1:=by rw[List.length_append];rfl
  rw[e];refine wK ?_;refine wR qc (aa uN e1) ?_ ?_
  ·exact⟨by unfold maxLen;omega,oM⟩
  refine vR qc uN ?_;refine wZ uN ?_;exact⟨_,_,rfl,λE=>rfl,_,_,rfl,(ev (bP uN @aA e2)),dE⟩
def aiy(s:ByteArray)(hs:s.size<4294967281):xu prog 83 where
 pre:=λW bs as_=>as_=[.val (.string s),.val (.string ⟨#[32]⟩)]/\gJ W (Out bs)
 T:=9
 s:=1
 n:=λ_ _=>(iu s).length
 vs:=λ_ _=>aE (iu s)
 tm:=λ_ _ x=>x
 g:=λ_ _ v=>v
 tmg:=λ_ _ _ _=>rfl
 tmk:=λ_ _ _ _ h=>h
 enters:=call83
 ok:=by
  intro W w bs us as_ hk hu hp;obtain⟨rfl,hp⟩:=hp
  match us,hu with
  |[x,y],hu=>
   obtain⟨rfl,rfl,_⟩:=hu;exact Q1 s hs w (hp.dU hk sI)
noncomputable def Zw(s:ByteArray)(hs:s.size<4294967281):Env prog:=⟨λ| 83=>some (aiy s hs).spec|84=>some DO.spec|_=>none,λ_=>none,λ_ _=>none⟩
theorem afE(s:ByteArray)(hs:s.size<4294967281):(Zw s hs).sp 83=some (aiy s hs).spec:=rfl
theorem ady(s:ByteArray)(hs:s.size<4294967281):(Zw s hs).sp 84=some DO.spec:=rfl
theorem GX(s:ByteArray):∀ x∈iu s,x.size<=s.size:=by
 have key:∀ (k:Nat) (s:ByteArray),∀ x∈Lib.splitB ⟨#[32]⟩ 0 k s,x.size<=s.size:=by
  intro k
  induction k with
  |zero=>
   intro s x hx;rw[Lib.splitB_zero]at hx;rw[List.mem_singleton.1 hx];exact Nat.le_refl _
  | succ k ih=>
   intro s x hx;rcases Lib.indexB_cases s ⟨#[32]⟩ with hm|⟨i,hi,hle⟩
   ·rw[Lib.splitB_miss _ _ _ s hm]at hx;rw[List.mem_singleton.1 hx];exact Nat.le_refl _
   ·rw[Lib.splitB_hit _ _ _ s i hi]at hx;rcases List.mem_cons.1 hx with rfl|hx
    ·rw[ByteArray.size_extract];omega
    ·have:=ih _ x hx;rw[ByteArray.size_extract]at this;omega
 exact key _ s
def oS:=(ml uN @afE @ady @aiy.eq_1 @C8 @Dj)
theorem OH:U3 53 fT:=by
 intro s r l u fp w hr hl ha ho hlt;have hs4:l.size<4294967281:=oM;have hM:(⟨#[109,97,105,110]⟩:ByteArray)=oN:=rfl;refine bg (nt:=45) #[.string l] [.tmp 4] (by show 7<=7;omega) ho hlt func53 rfl rfl rfl ?_;refine vR qc oS ?_;refine wR (Zw l hs4) oS ?_ ?_
 ·exact ha.2.2
 refine Wp.seq ?_;have hsz:=GX l;by_cases h3:(iu l).length=3
 ·obtain⟨a,b,c,hs⟩:∃ a b c,iu l=[a,b,c]:=by
   match hs:iu l,h3 with
   |[a,b,c],_=>exact⟨a,b,c,rfl⟩
  have e0:fT r l=if a=oN then (iE b&&iE c,{ r with src:=rT b,vw:=rT c }) else (false,r):=by unfold fT;rw[hs]
  rw[hs]at hsz;have zb:=hsz b sI;have zc:=hsz c sI;rw[e0];refine wR qc (eS oS hs @aE.eq_1 hM) ?_ ?_
  ·exact⟨⟨_,rfl⟩,λ_=>by simp⟩
  refine wC oS (λhc=>?_) (λhc=>?_)
  ·have h:¬ a=oN:=by simpa using hc
   rw[if_neg h];refine vR qc oS ?_;refine wZ oS ?_;exact⟨_,_,rfl,λE=>rfl,_,_,rfl,(ev (aa oS @aA)),dE⟩
  ·have h:a=oN:=by simpa using hc
   rw[if_pos h];refine wK ?_;refine vR qc oS ?_;refine wR (Zw l hs4) (bP oS hs @aE.eq_1) ?_ ?_
   ·exact⟨by first|trivial|omega|exact⟨_,rfl⟩|simp,oM,ha.2⟩
   refine wR (Zw l hs4) (bP oS hs @aE.eq_1) ?_ ?_
   ·exact⟨by first|trivial|omega|exact⟨_,rfl⟩|simp,oM,ha.2⟩
   refine vR qc oS ?_;refine wZ oS ?_;exact⟨_,_,rfl,λE=>rfl,_,_,rfl,(ev (aa oS @aA)),dE⟩
 ·have e0:fT r l=(false,r):=by
   unfold fT;split
   ·rename_i a b c h;rw[h]at h3;exact absurd rfl h3
   ·rfl
  obtain⟨a,f,hs⟩:∃ a f,iu l=a::f:=by
   have:=lC l;cases h:iu l with
   |nil=>rw[h]at this;simp at this
   |cons a f=>exact⟨a,f,rfl⟩
  rw[hs,List.length_cons]at h3;have h3' : decide (((f.length+1:Nat):Int)=3)=false:=by simp;omega
  rw[e0];refine wR qc (eS oS hs @aE.eq_1 h3') ?_ ?_
  ·exact⟨⟨_,rfl⟩,(λh=>by cases h),λh=>by cases h⟩
  refine wC oS (λhc=>?_) (λhc=>?_)
  ·skip;refine vR qc oS ?_;refine wZ oS ?_;exact⟨_,_,rfl,λE=>rfl,_,_,rfl,(ev (aa oS @aA)),dE⟩
  ·exact absurd hc sI
def uo(s:ByteArray)(i:Nat):Int×Nat:=
 if bt s (i:Nat)=92/\i+1<s.size then
  if bt s ((i+1:Nat):Int)=110 then (10,i+1)
  else if bt s ((i+1:Nat):Int)=114 then (13,i+1)
  else if bt s ((i+1:Nat):Int)=116 then (9,i+1)
  else if bt s ((i+1:Nat):Int)=120 then ((mC (s.extract (i+2) (min (i+4) s.size))).getD 0,i+3)
  else (bt s ((i+1:Nat):Int),i+1)
 else (bt s (i:Nat),i)
def uqX(s:ByteArray)(i:Nat):Prop:=(bt s (i:Nat)=92/\i+1<s.size)/\bt s ((i+1:Nat):Int)=120/\mC (s.extract (i+2) (min (i+4) s.size))=none
theorem Xl{s:ByteArray}{n i:Nat}{o:ByteArray}(hi:i<s.size)(hx:¬ uqX s i):yw s (n+1) i o=yw s n ((uo s i).2+1) (o++bJ [(uo s i).1]):=by
 rw[yw,if_pos hi,uo];by_cases h:bt s (i:Nat)=92/\i+1<s.size
 ·rw [if_pos h,if_pos h];by_cases h1:bt s ((i+1:Nat):Int)=110
  ·rw[if_pos h1,if_pos h1]
  ·rw[if_neg h1,if_neg h1];by_cases h2:bt s ((i+1:Nat):Int)=114
   ·rw[if_pos h2,if_pos h2]
   ·rw[if_neg h2,if_neg h2];by_cases h3:bt s ((i+1:Nat):Int)=116
    ·rw[if_pos h3,if_pos h3]
    ·rw[if_neg h3,if_neg h3];by_cases h4:bt s ((i+1:Nat):Int)=120
     ·rw[if_pos h4,if_pos h4];cases hn:mC (s.extract (i+2) (min (i+4) s.size)) with
      |none=>exact absurd ⟨h,h4,hn⟩ hx
      |some v=>rfl
     ·rw[if_neg h4,if_neg h4]
 ·rw[if_neg h,if_neg h]
theorem afh{s:ByteArray}{n i:Nat}{o:ByteArray}(hi:i<s.size)(hx:uqX s i):yw s (n+1) i o=none:=by
 obtain⟨h,h4,hn⟩:=hx;rw[yw,if_pos hi,if_pos h,if_neg oM,if_neg oM,if_neg oM,if_pos h4,hn]
theorem Pu{c a:Int}(h:Ey c=some a):0<=a/\a<16:=by
 unfold Ey at h
 repeat' split at h
 all_goals first|(cases h;omega)|cases h
theorem Qr{p:ByteArray}{a:Int}(h:mC p=some a):0<=a/\a<256:=by
 unfold mC at h;split at h
 ·cases h
 ·split at h
  ·cases h
  ·rename_i x hx;have h1:=Pu hx;split at h
   ·cases h;omega
   ·split at h
    ·cases h
    ·rename_i y hy;have h2:=Pu hy;cases h;omega
theorem aic(s:ByteArray)(i:Nat):(0<=(uo s i).1/\(uo s i).1<256)/\i<=(uo s i).2/\(uo s i).2<=i+3:=by
 have h0:=jo s i;have h1:=jo s ((i+1:Nat):Int);unfold uo
 repeat' split
 all_goals simp only
 all_goals try omega
 cases hn:mC (s.extract (i+2) (min (i+4) s.size)) with
 |none=>simp only[Option.getD_none];omega
 |some v=>
  have:=Qr hn;simp only[Option.getD_some];omega
def yp:aM prog 38 where
 pre:=λW bs as_=>∃ s,as_=[.val (.string s)]/\s.size<=16777216
 res:=λ_ as_=>match as_ with
  |[.val (.string s)]=>.string (dR s)
  |_=>undef
 enters:=call38
 ok:=by
  intro W w bs us as_ hk hu hp;obtain⟨s,rfl,h1⟩:=hp
  match us,hu with
  |[x],hu=>
   obtain⟨rfl,_⟩:=hu;exact Db s h1 w
theorem IW(W:World)(bs:List Nat)(s:ByteArray):yp.pre W bs [.val (.string s)]=(s.size<=16777216):=
 propext ⟨λ⟨s',h,h2⟩=>by
  cases h
  exact h2,λh=>⟨s,rfl,h⟩⟩
theorem J0(W:World)(s:ByteArray):yp.res W [.val (.string s)]=.string (dR s):=rfl
noncomputable def fS:Env prog:=⟨λ| 38=>some yp.spec|_=>none,λ| _=>none,λ_ _=>none⟩
theorem abN:fS.sp 38=some yp.spec:=rfl
section
variable (p:ByteArray)(h2:p.size<=2)(v:Nat)(hv:mC p=some (v:Int))(hn:mC p=none)(ev:Value)
noncomputable def alN:Env prog:=⟨λ| 141=>some (aaK p h2 v hv).spec|_=>none,λ_=>none,λ_ _=>none⟩
theorem Zn:(alN p h2 v hv).sp 141=some (aaK p h2 v hv).spec:=rfl
noncomputable def alz:Env prog:=⟨λ| 141=>some ((NC p h2 hn ev).spec [])|_=>none,λ_=>none,λ_ _=>none⟩
theorem XS:(alz p h2 hn ev).sp 141=some ((NC p h2 hn ev).spec []):=rfl
end
def cz:=(aj @List.replicate_succ.{0} @List.replicate_zero.{0} @an @ab BG BH BJ (aj gR ck cf b9 b8 ca cc (aj cg cd fu fh fy ft fB (aj dc df dh db cY c8 xw (aj wG wD vP Wn Vd XK aap (aj pJ qg pB pA ZR Zk @aG (aj @al @ax @aw @gD @jz @lg @o8 (aj abN @Zn @XS @aaK.eq_1 @NC.eq_1 @IW @J0 (aj @qt.eq_1 @gz.eq_1 @gz.eq_2 @fL.eq_1 @fL.eq_2 @fL.eq_3 @fL.eq_4 (aj @fL.eq_5 @fL.eq_6 @fL.eq_7 @fL.eq_8 @jV.eq_1 @jV.eq_2 @eV.eq_1 (aj @eV.eq_2 @gK.eq_1 @gK.eq_2 @gA.eq_1 @gA.eq_2 @gA.eq_3 @rC.eq_1 (aa @mp.eq_1 @gE))))))))))))
theorem ag3(q:ByteArray)(hq:q.size<=16000000)(w:World)(hl:gJ w (Out [])):Calls prog 82 #[.string q] w λe w' => e=.returned (.tuple #[.string (ib q).1,.bool (ib q).2])/\ah w [] w' := by
 obtain⟨_,⟨_,t5,v5,h5⟩,_⟩:=hl;have wq:IntKind.i64.wrap ((q.size:Int)-1)=(q.size:Int)-1:=ae oM oM;refine af (nt:=93) [.tmp 2,.tmp 3] func82 rfl rfl rfl ?_;refine vR fS cz ?_;refine Wp.seq ?_;refine wR fS (aa cz wq) ?_ ?_
 ·refine⟨λh=>?_,λh=>?_⟩
  ·simp at h;omega
  ·simp at h;omega
 refine wC cz (λhc=>?_) (λhc=>?_)
 ·have h:PL q=false:=by
   unfold PL;simp only[Bool.or_eq_true,Bool.not_eq_true',decide_eq_true_eq,decide_eq_false_iff_not]at hc;simp only[Bool.and_eq_false_iff,decide_eq_false_iff_not];rcases hc with (hc|hc)|hc
   ·exact .inl (.inl oM)
   ·exact .inl (.inr hc)
   ·exact .inr hc
  have e:ib q=(⟨#[]⟩,false):=by unfold ib;rw[if_neg (by simp[h])]
  rw[e];refine vR fS cz ?_;refine wZ cz ?_;exact λE=>rfl
 have h:PL q=true:=by
  unfold PL;simp only[Bool.or_eq_false_iff,Bool.not_eq_false',decide_eq_false_iff_not,decide_eq_true_eq]at hc;simp only[Bool.and_eq_true,decide_eq_true_eq];exact⟨⟨oM,hc.1.2⟩,hc.2⟩
 have h2q:2<=q.size:=by
  unfold PL at h;simp only[Bool.and_eq_true,decide_eq_true_eq]at h;exact h.1.1
 have hin:(oD q).size=q.size-2:=by unfold oD;rw[dF _ _ _ oM];omega
 have eq0:ib q=match yw (oD q) (oD q).size 0 ⟨#[]⟩ with
  |none=>(⟨#[]⟩,false)
  |some o=>(o,decide (dR o=q)):=by
  unfold ib;rw[if_pos h];cases yw (oD q) (oD q).size 0 ⟨#[]⟩<;>rfl
 have hex:q.extract 1 ((q.size:Int)-1).toNat=oD q:=by unfold oD;congr 1;omega
 generalize hS:oD q=s at *;refine wK ?_;refine vR fS cz ?_;refine wR fS (bP cz wq hex) ?_ ?_
 ·omega
 refine Wp.seq ?_;refine vR fS cz ?_;refine Wp.block ?_
 refine Wp.loop (λp:Nat×Nat×ByteArray=>⟨20,bm [(0,.is (.v (.string q))),(4,.is (.hd 19)),(5,.is (.v (.string s))),(6,.is (.v (.int .i64 (p.2.1:Nat))))],aY [(19,.row 5 1 p.2.2.size ((byteCells p.2.2).map .v))]⟩) (λp=>p.2.1<=s.size+3/\p.2.2.size<=p.2.1/\s.size<=p.2.1+p.1/\yw s p.1 p.2.1 p.2.2=yw s s.size 0 ⟨#[]⟩) (λp=>p.1) (s.size,0,⟨#[]⟩) ?_ ⟨Nat.zero_le _,Nat.le_refl _,by show s.size<=0+s.size;omega,rfl⟩ ?_
 ·exact wM (λk=>if k=19 then .nil else .key k) (bP cz (show (⟨#[]⟩:ByteArray).size=0 from rfl) (show byteCells ⟨#[]⟩=[] from rfl))
 rintro⟨n,i,o⟩ ⟨g1,g2,g3,g4⟩;dsimp only at g1 g2 g3 g4 ⊢;refine Wp.seq ?_;refine vR fS cz ?_;refine wC cz (λhc=>?_) (λhc=>?_)
 ·have hlt:i<s.size:=by
   simp at hc;omega
  obtain⟨n,rfl⟩:∃ n',n=n' + 1:=⟨n-1,oM⟩;obtain⟨⟨c0,c1⟩,c2,c3⟩:=aic s i;have wi:IntKind.i64.wrap ((i:Int)+1)=((i+1:Nat):Int):=wW;have ha:=dX o [(uo s i).1] (λc hc=>by rw[List.mem_singleton.1 hc];exact⟨c0,c1⟩);have hz:(o++bJ [(uo s i).1]).size=o.size+1:=by rw[ByteArray.size_append,aU];rfl
  simp only[List.map_cons,List.map_nil]at ha;have wi2:IntKind.i64.wrap (((i+1:Nat):Int)+1)=((i+2:Nat):Int):=wW;have wi3:IntKind.i64.wrap (((i+1:Nat):Int)+2)=((i+3:Nat):Int):=wW;have wi4:IntKind.i64.wrap (((i+1:Nat):Int)+3)=((i+4:Nat):Int):=wW
  have hmin:(if ((s.size:Nat):Int)<((i+4:Nat):Int) then ((s.size:Nat):Int) else ((i+4:Nat):Int))=((min (i+4) s.size:Nat):Int):=by split<;>omega
  refine wK ?_;refine Wp.seq (Wp.block ?_);refine wR fS cz ?_ ?_
  ·omega
  by_cases hx:uqX s i
  ·have hbad:=afh (n:=n) (o:=o) hlt hx;rw[g4]at hbad;rw[hbad]at eq0;rw[eq0];obtain⟨hb,h120,hn⟩:=hx;have hp2:(s.extract (i+2) (min (i+4) s.size)).size<=2:=by rw[dF _ _ _ oM];omega
   refine Wp.seq ?_;refine vR fS (aa cz wi) ?_;refine wC cz (λhc=>?_) (λhc=>?_)
   ·skip;refine vR fS (aa cz wi) ?_;refine wR fS cz ?_ ?_
    ·omega
    refine vR fS cz ?_;refine Wp.block ?_;refine vR fS cz ?_;refine wC cz (λhc=>?_) (λhc=>?_)
    ·exfalso;have:bt s ((i+1:Nat):Int)=110:=by simpa using hc
     omega
    clear hc;refine vR fS cz ?_;refine wC cz (λhc=>?_) (λhc=>?_)
    ·exfalso;have:bt s ((i+1:Nat):Int)=114:=by simpa using hc
     omega
    clear hc;refine vR fS cz ?_;refine wC cz (λhc=>?_) (λhc=>?_)
    ·exfalso;have:bt s ((i+1:Nat):Int)=116:=by simpa using hc
     omega
    clear hc;refine vR fS cz ?_;refine wC cz (λhc=>?_) (λhc=>?_)
    ·skip;refine wR (alz (s.extract (i+2) (min (i+4) s.size)) hp2 hn (.iface t5 v5)) (eS cz wi2 wi4 hmin) ?_ ?_
     ·refine⟨⟨oM,oM,oM⟩,?_⟩;simp[h5]
     refine Wp.seq ?_;refine vR fS cz ?_;refine wC cz (λhc=>?_) (λhc=>?_)
     ·skip;refine vR fS cz ?_;refine wZ cz ?_;exact λE=>rfl
     ·exact absurd hc sI
    ·exfalso;have:¬ bt s ((i+1:Nat):Int)=120:=by simpa using hc
     omega
   ·exfalso;simp only[Bool.and_eq_false_iff,decide_eq_false_iff_not]at hc;rcases hc with hc|hc
    ·exact hc hb.1
    ·have:=hb.2;omega
  have hst:=Xl (n:=n) (o:=o) hlt hx;rw[g4]at hst;have wj:IntKind.i64.wrap (((uo s i).2:Int)+1)=(((uo s i).2+1:Nat):Int):=wW
  refine aV ⟨60,bm [(0,.is (.v (.string q))),(4,.is (.hd 19)),(5,.is (.v (.string s))),(6,.is (.v (.int .i64 ((uo s i).2:Nat)))),(7,.is (.v (.int .u8 (uo s i).1)))],aY [(19,.row 5 1 o.size ((byteCells o).map .v))]⟩ ?_ ?_
  ·skip;refine vR fS (aa cz wi) ?_;refine wC cz (λhc=>?_) (λhc=>?_)
   ·have hb:bt s (i:Nat)=92/\i+1<s.size:=by
     simp only[Bool.and_eq_true,decide_eq_true_eq]at hc;omega
    clear hc;refine vR fS (aa cz wi) ?_;refine wR fS cz ?_ ?_
    ·omega
    refine vR fS cz ?_;refine Wp.block ?_;refine vR fS cz ?_;refine wC cz (λhc=>?_) (λhc=>?_)
    ·have h1:bt s ((i+1:Nat):Int)=110:=by simpa using hc
     have e:uo s i=(10,i+1):=by rw[uo,if_pos hb,if_pos h1]
     rw[e];refine vr fS cz ?_;exact wM (λk=>.key k) cz
    have h1:¬ bt s ((i+1:Nat):Int)=110:=by simpa using hc
    clear hc;refine vR fS cz ?_;refine wC cz (λhc=>?_) (λhc=>?_)
    ·have h2:bt s ((i+1:Nat):Int)=114:=by simpa using hc
     have e:uo s i=(13,i+1):=by rw[uo,if_pos hb,if_neg h1,if_pos h2]
     rw[e];refine vr fS cz ?_;exact wM (λk=>.key k) cz
    have h2:¬ bt s ((i+1:Nat):Int)=114:=by simpa using hc
    clear hc;refine vR fS cz ?_;refine wC cz (λhc=>?_) (λhc=>?_)
    ·have h3:bt s ((i+1:Nat):Int)=116:=by simpa using hc
     have e:uo s i=(9,i+1):=by rw[uo,if_pos hb,if_neg h1,if_neg h2,if_pos h3]
     rw[e];refine vr fS cz ?_;exact wM (λk=>.key k) cz
    have h3:¬ bt s ((i+1:Nat):Int)=116:=by simpa using hc
    clear hc;refine vR fS cz ?_;refine wC cz (λhc=>?_) (λhc=>?_)
    ·have h4:bt s ((i+1:Nat):Int)=120:=by simpa using hc
     clear hc;have hp2:(s.extract (i+2) (min (i+4) s.size)).size<=2:=by rw[dF _ _ _ oM];omega
     cases hn:mC (s.extract (i+2) (min (i+4) s.size)) with
     |none=>exact absurd ⟨hb,h4,hn⟩ hx
     |some v=>
      obtain⟨v0,v1⟩:=Qr hn;obtain⟨v,rfl⟩:=Int.eq_ofNat_of_zero_le v0;have e:uo s i=((v:Int),i+3):=by rw[uo,if_pos hb,if_neg h1,if_neg h2,if_neg h3,if_pos h4,hn];rfl
      have wv:IntKind.u8.wrap (v:Int)=(v:Int):=eQ v0 v1;rw[e];refine wR (alN (s.extract (i+2) (min (i+4) s.size)) hp2 v hn) (eS cz wi2 wi4 hmin) ?_ ?_
      ·exact⟨oM,oM,oM⟩
      refine Wp.seq ?_;refine vR fS cz ?_;refine wC cz (λhc=>?_) (λhc=>?_)
      ·exact absurd hc sI
      refine wK ?_;refine vR fS (aa cz wv) ?_;refine vr fS (aa cz wi3) ?_;exact wM (λk=>.key k) cz
    have h4:¬ bt s ((i+1:Nat):Int)=120:=by simpa using hc
    have e:uo s i=(bt s ((i+1:Nat):Int),i+1):=by rw[uo,if_pos hb,if_neg h1,if_neg h2,if_neg h3,if_neg h4]
    rw[e];refine wK ?_;exact wM (λk=>.key k) cz
   ·have hb:¬ (bt s (i:Nat)=92/\i+1<s.size):=by
     simp only[Bool.and_eq_false_iff,decide_eq_false_iff_not]at hc;omega
    have e:uo s i=(bt s (i:Nat),i):=by rw[uo,if_neg hb]
    rw[e];refine wK ?_;exact wM (λk=>.key k) cz
  refine wr fS (aa cz ha) ?_ ?_
  ·exact⟨by unfold maxLen;omega,oM⟩
  refine vr fS (aa cz wj) ?_;refine⟨(n,(uo s i).2+1,o++bJ [(uo s i).1]),⟨by dsimp only;omega,by dsimp only;omega,by dsimp only;omega,by dsimp only;exact hst.symm⟩,by dsimp only;omega,?_⟩;exact wM (λk=>if k=19 then .key 504 else .key k) (aa cz hz)
 ·have hge:s.size<=i:=by
   simp at hc;omega
  have hv:yw s s.size 0 ⟨#[]⟩=some o:=by
   rw[<- g4];cases n with
   |zero=>rfl
   |succ n=>rw[yw,if_neg oM]
  rw[hv]at eq0;rw[eq0];refine wE ?_;refine lf fS cz ?_ ?_
  ·exact⟨iz _,iz _,oM⟩
  refine wZ cz ?_;exact λE=>rfl
def Va(s:ByteArray):xu prog 78 where
 pre:=λW bs as_=>as_=[.val (.string s)]/\s.size<=9223372036854775807
 T:=168
 s:=3
 n:=λ_ _=>(fU s).1.length
 vs:=λ_ _=>Kl (fU s).1
 tm:=λ_ _ x=>.tup [x,.v (.int .i64 (fU s).2.1),.v (.int .i64 ((fU s).2.2:Nat))]
 g:=λ_ _ v=>.tuple #[v,.int .i64 (fU s).2.1,.int .i64 ((fU s).2.2:Nat)]
 tmg:=λ_ _ E x=>rfl
 tmk:=λ_ _ x k hk=>by simpa [SV.keys,ay] using hk
 enters:=call78
 ok:=by
  intro W w bs us as_ hk hu hp;obtain⟨rfl,h1⟩:=hp
  match us,hu with
  |[u],hu=>
   obtain⟨rfl,_⟩:=hu;exact Vf s w h1
noncomputable def akK(s:ByteArray):Env prog:=⟨λ| 78=>some (Va s).spec|_=>none,λ_=>none,λ_ _=>none⟩
theorem ab9(s:ByteArray):(akK s).sp 78=some (Va s).spec:=rfl
def tG:aM prog 61 where
 pre:=λW bs as_=>∃ s,as_=[.val (.string s)]/\s.size<=16777216
 res:=λ_ as_=>match as_ with
  |[.val (.string s)]=>.string (dR s)
  |_=>undef
 enters:=call61
 ok:=by
  intro W w bs us as_ hk hu hp;obtain⟨s,rfl,h1⟩:=hp
  match us,hu with
  |[x],hu=>
   obtain⟨rfl,_⟩:=hu;exact NP s h1 w
theorem D4(W:World)(bs:List Nat)(s:ByteArray):tG.pre W bs [.val (.string s)]=(s.size<=16777216):=
 propext ⟨λ⟨s',h,h2⟩=>by
  cases h
  exact h2,λh=>⟨s,rfl,h⟩⟩
theorem Fj(W:World)(s:ByteArray):tG.res W [.val (.string s)]=.string (dR s):=rfl
noncomputable def gG:Env prog:=⟨λ| 61=>some tG.spec|_=>none,λ| _=>none,λ_ _=>none⟩
theorem afI:gG.sp 61=some tG.spec:=rfl
theorem Ca(h:Nat->Option aS)(T:TypeId)(X Y:Operand)(k:IntKind)(a:Int):bE prog gG.eqs h .neq T X Y [.v undef,.v (.int k a)]=R.bad:=by
 simp only[bE,aW,gG];rfl
theorem HP(b:Bool):uc true (.v (.bool b)) (.v undef)=.v (.bool b):=rfl
theorem alF:decide (((0:Nat):Int)=2)=false:=by decide
theorem FB(h:Nat->Option aS)(T:TypeId):jb prog h T [.v undef]=R.bad:=rfl
theorem So{t:ByteArray}(h:t.size=1):t=bJ [bt t 0]:=by
 have h1:=Fw t 0 oM;have e0:t.extract 0 0=⟨#[]⟩:=by apply ByteArray.ext;apply Array.ext';simp
 have e1:t.extract 0 (0+1)=t:=by rw[show 0+1=t.size by omega];exact yB
 rw[e0,e1]at h1;refine h1.symm.trans ?_;apply ByteArray.ext;apply Array.ext';simp[bJ]
theorem ah3(s:ByteArray)(i:Nat):1<=sy s i/\sy s i<=4:=by
 unfold sy;split
 ·split<;>omega
 ·omega
def cF:=(aj @List.replicate_succ.{0} @List.replicate_zero.{0} @an @ab jk jn BG (aj BH BJ gR ck cf b9 b8 (aj ca cc cg cd fu fh fy (aj ft fB dc df dh db cY (aj c8 xw wG wD vP Z0 Y3 (aj Yg ZO ajE aj5 XH W7 XY (aj aay WU Wt WM XV @aG @al (aj @ax @aw @gD @jz @lg afI @HP (aj @FB @Ca @R.bad.eq_1 @List.getD_nil.{0} @ab9 @Va.eq_1 @D4 @Fj)))))))))
theorem Wz(q:ByteArray)(hq:q.size<=16000000)(w:World):Calls prog 44 #[.string q] w λe w' => e=.returned (.tuple #[.string (jr q).1,.bool (jr q).2])/\ah w [] w' := by
 have wq:IntKind.i64.wrap ((q.size:Int)-1)=(q.size:Int)-1:=ae oM oM;refine af (nt:=111) [.tmp 2,.tmp 3] func44 rfl rfl rfl ?_;refine vR gG cF ?_;refine Wp.seq ?_;refine wR gG (aa cF wq) ?_ ?_
 ·refine⟨λh=>?_,λh=>?_⟩
  ·simp at h;omega
  ·simp at h;omega
 refine wC cF (λhc=>?_) (λhc=>?_)
 ·have h:PL q=false:=by
   unfold PL;simp only[Bool.or_eq_true,Bool.not_eq_true',decide_eq_true_eq,decide_eq_false_iff_not]at hc;simp only[Bool.and_eq_false_iff,decide_eq_false_iff_not];rcases hc with (hc|hc)|hc
   ·exact .inl (.inl oM)
   ·exact .inl (.inr hc)
   ·exact .inr hc
  have e:jr q=(⟨#[]⟩,false):=by unfold jr;rw[if_neg (by simp[h])]
  rw[e];refine vR gG cF ?_;refine wZ cF ?_;exact λE=>rfl
 have h:PL q=true:=by
  unfold PL;simp only[Bool.or_eq_false_iff,Bool.not_eq_false',decide_eq_false_iff_not,decide_eq_true_eq]at hc;simp only[Bool.and_eq_true,decide_eq_true_eq];exact⟨⟨oM,hc.1.2⟩,hc.2⟩
 have h2q:2<=q.size:=by
  unfold PL at h;simp only[Bool.and_eq_true,decide_eq_true_eq]at h;exact h.1.1
 have hin:(oD q).size=q.size-2:=by unfold oD;rw[dF _ _ _ oM];omega
 have eq0:jr q=match Jq (oD q) (oD q).size 0 ⟨#[]⟩ with
  |none=>(⟨#[]⟩,false)
  |some o=>(o,decide (dR o=q)):=by
  unfold jr;rw[if_pos h];cases Jq (oD q) (oD q).size 0 ⟨#[]⟩<;>rfl
 have hex:q.extract 1 ((q.size:Int)-1).toNat=oD q:=by unfold oD;congr 1;omega
 generalize hS:oD q=s at *;refine wK ?_;refine wR gG (bP cF wq hex) ?_ ?_
 ·omega
 refine vR gG cF ?_;refine Wp.seq ?_;refine vR gG cF ?_;refine Wp.block ?_
 refine Wp.loop (λp:Nat×Nat×ByteArray=>⟨20,bm [(0,.is (.v (.string q))),(4,.is (.v (.string s))),(5,.is (.hd 19)),(6,.is (.v (.int .i64 (p.2.1:Nat))))],aY [(19,.row 5 1 p.2.2.size ((byteCells p.2.2).map .v))]⟩) (λp=>p.2.1<=s.size/\p.2.2.size<=p.2.1/\s.size<=p.2.1+p.1/\Jq s p.1 p.2.1 p.2.2=Jq s s.size 0 ⟨#[]⟩) (λp=>p.1) (s.size,0,⟨#[]⟩) ?_ ⟨Nat.zero_le _,Nat.le_refl _,by show s.size<=0+s.size;omega,rfl⟩ ?_
 ·exact wM (λk=>if k=19 then .nil else .key k) (bP cF (show (⟨#[]⟩:ByteArray).size=0 from rfl) (show byteCells ⟨#[]⟩=[] from rfl))
 rintro⟨n,i,o⟩ ⟨g1,g2,g3,g4⟩;dsimp only at g1 g2 g3 g4 ⊢;refine Wp.seq ?_;refine vR gG cF ?_;refine wC cF (λhc=>?_) (λhc=>?_)
 ·have hlt:i<s.size:=by
   simp at hc;omega
  obtain⟨n,rfl⟩:∃ n',n=n' + 1:=⟨n-1,oM⟩;have wi:IntKind.i64.wrap ((i:Int)+1)=((i+1:Nat):Int):=wW;obtain⟨p1,p4⟩:=ah3 s i;have hst:=g4;rw[Jq,if_pos hlt]at hst;refine wK ?_;refine Wp.block ?_;refine vR gG cF ?_
  refine aV ⟨60,bm [(0,.is (.v (.string q))),(4,.is (.v (.string s))),(5,.is (.hd 19)),(6,.is (.v (.int .i64 (i:Nat)))),(7,.is (.v (.int .i64 (sy s i:Nat))))],aY [(19,.row 5 1 o.size ((byteCells o).map .v))]⟩ ?_ ?_
  ·skip;refine wR gG cF ?_ ?_
   ·omega
   refine wC cF (λhc=>?_) (λhc=>?_)
   ·have hb:bt s (i:Nat)=92:=by simpa using hc
    clear hc;refine vR gG cF ?_;by_cases hx:i+1<s.size
    ·have e1:decide (((i+1:Nat):Int)<((s.size:Nat):Int))=true:=by simp;omega
     refine wR gG (bP cF wi e1) ?_ ?_
     ·omega
     refine wC cF (λhc=>?_) (λhc=>?_)
     ·have hb1:bt s ((i+1:Nat):Int)=120:=by simpa using hc
      have e:sy s i=4:=by rw[sy,if_pos hb,if_pos ⟨hx,hb1⟩]
      rw[e];refine vr gG cF ?_;exact wM (λk=>.key k) cF
     ·have hb1:¬ bt s ((i+1:Nat):Int)=120:=by simpa using hc
      have e:sy s i=2:=by rw[sy,if_pos hb,if_neg λg=>hb1 g.2]
      rw[e];refine wK ?_;exact wM (λk=>.key k) cF
    ·have e1:decide (((i+1:Nat):Int)<((s.size:Nat):Int))=false:=by simp;omega
     have e:sy s i=2:=by rw[sy,if_pos hb,if_neg λg=>hx g.1]
     rw[e];refine wR gG (bP cF wi e1) ?_ ?_
     ·exact nofun
     refine wC cF (λhc=>?_) (λhc=>?_)
     ·exact absurd hc sI
     refine wK ?_;exact wM (λk=>.key k) cF
   ·have hb:¬ bt s (i:Nat)=92:=by simpa using hc
    have e:sy s i=1:=by rw[sy,if_neg hb]
    rw[e];refine wK ?_;exact wM (λk=>.key k) cF
  have wp:IntKind.i64.wrap ((i:Int)+(sy s i:Nat))=((i+sy s i:Nat):Int):=wW;refine Wp.seq ?_;refine vR gG (aa cF wp) ?_;refine wC cF (λhc=>?_) (λhc=>?_)
  ·have h:s.size<i+sy s i:=by
    simp at hc;omega
   rw[if_pos h]at hst;rw[<- hst]at eq0;rw[eq0];refine vR gG cF ?_;refine wZ cF ?_;exact λE=>rfl
  have hle:i+sy s i<=s.size:=by
   simp at hc;omega
  rw[if_neg oM]at hst;clear hc;have hxz:(s.extract i (i+sy s i)).size=sy s i:=by rw[dF _ _ _ hle];omega
  have h34:(⟨#[34]⟩:ByteArray).size=1:=rfl;have hz:(pcQ (s.extract i (i+sy s i))).size<=6:=by
   unfold pcQ;rw[ByteArray.size_append,ByteArray.size_append,hxz,h34];omega
  have hpq:⟨#[34]⟩++s.extract i (i+sy s i)++⟨#[34]⟩=pcQ (s.extract i (i+sy s i)):=rfl;generalize hP:pcQ (s.extract i (i+sy s i))=P at *;refine wK ?_;refine wR (akK P) (bP cF wp hpq) ?_ ?_
  ·exact⟨oM,by rw[h34,hxz];omega,by rw[ByteArray.size_append,h34,hxz];omega⟩
  have hon:onT P=match (fU P).1 with
   |[t0,_]=>if (fU P).2.1=0/\t0.1=2/\t0.2.2.size=1 then some t0.2.2 else none
   |_=>none:=rfl
  generalize fU P=sc at *;obtain⟨l,e,at_⟩:=sc;dsimp only at hon ⊢;by_cases he:e=0
  ·subst he;by_cases hl2:l.length=2
   ·obtain⟨⟨tk,ta,tt⟩,t1,rfl⟩:∃ t0 t1,l=[t0,t1]:=by
     match l,hl2 with
     |[t0,t1],_=>exact⟨t0,t1,rfl⟩
    obtain⟨uk,ua,ut⟩:=t1;dsimp only at hon;have hrow:Kl [(tk,ta,tt),(uk,ua,ut)]=[.int .i64 tk,.int .i64 (ta:Nat),.string tt,.int .i64 uk,.int .i64 (ua:Nat),.string ut]:=rfl;by_cases hk:tk=2
    ·subst hk;by_cases ht:tt.size=1
     ·have ha:=dX o [bt tt 0] (λc hc=>by rw[List.mem_singleton.1 hc];exact jo tt 0);have hy:(o++tt).size=o.size+1:=by rw[ByteArray.size_append,ht]
      rw[<- So ht]at ha;simp only[List.map_cons,List.map_nil]at ha;rw[if_pos ⟨rfl,rfl,ht⟩]at hon;rw[hon]at hst;simp only at hst;refine Wp.seq ?_;refine wR gG (bP cF hrow ht) ?_ ?_
      ·exact⟨⟨_,rfl⟩,λ_=>by decide⟩
      refine wC cF (λhc=>?_) (λhc=>?_)
      ·exact absurd hc sI
      refine wK ?_;refine wR gG (aa cF ha) ?_ ?_
      ·exact⟨dE,oM,by unfold maxLen;omega,oM⟩
      refine vr gG (aa cF wp) ?_;refine⟨(n,i+sy s i,o++tt),⟨by dsimp only;omega,by dsimp only;omega,by dsimp only;omega,hst⟩,by dsimp only;omega,?_⟩;exact wM (λk=>if k=19 then .key 888 else .key k) (aa cF hy)
     ·have hb:none=Jq s s.size 0 ⟨#[]⟩:=by
       rw[if_neg λg=>ht g.2.2]at hon;rw[hon]at hst;exact hst
      rw[<- hb]at eq0;rw[eq0];refine Wp.seq ?_;refine wR gG (bP cF hrow ht) ?_ ?_
      ·exact⟨⟨_,rfl⟩,λ_=>by decide⟩
      refine wC cF (λhc=>?_) (λhc=>?_)
      ·skip;refine vR gG cF ?_;refine wZ cF ?_;exact λE=>rfl
      ·exact absurd hc (by simp;omega)
    ·have hb:none=Jq s s.size 0 ⟨#[]⟩:=by
      rw[if_neg λg=>hk g.2.1]at hon;rw[hon]at hst;exact hst
     have ek:decide (tk=2)=false:=decide_eq_false hk;rw[<- hb]at eq0;rw[eq0];refine Wp.seq ?_;refine wR gG (eS cF hrow hk ek) ?_ ?_
     ·exact⟨⟨_,rfl⟩,λ_=>by decide,nofun⟩
     refine wC cF (λhc=>?_) (λhc=>?_)
     ·skip;refine vR gG cF ?_;refine wZ cF ?_;exact λE=>rfl
     ·exact absurd hc sI
   ·have hb:none=Jq s s.size 0 ⟨#[]⟩:=by
     have hn:onT P=none:=by
       rw[hon]
       match l,hl2 with
       |[],_=>rfl
       |[a],_=>rfl
       |[a,b],h=>exact absurd rfl h
       |a::b::c::d,_=>rfl
     rw[hn]at hst;exact hst
    skip;rw[<- hb]at eq0;rw[eq0];rcases l with _|⟨⟨tk,ta,tt⟩,l⟩
    ·skip;refine Wp.seq ?_;refine wR gG (bP cF alF (show Kl []=[] from rfl)) ?_ ?_
     ·exact⟨⟨_,rfl⟩,nofun,nofun,nofun,nofun,nofun,nofun⟩
     refine wC cF (λhc=>?_) (λhc=>?_)
     ·skip;refine vR gG cF ?_;refine wZ cF ?_;exact λE=>rfl
     ·exact absurd hc sI
    ·have hrow:Kl ((tk,ta,tt)::l)=.int .i64 tk::.int .i64 (ta:Nat)::.string tt::Kl l:=rfl;have el:decide (((l.length+1:Nat):Int)=2)=false:=by
      have:¬ l.length+1=2:=hl2;simp;omega
     refine Wp.seq ?_;refine wR gG (bP cF el hrow) ?_ ?_
     ·exact⟨⟨_,rfl⟩,nofun,nofun,nofun,nofun,nofun,nofun⟩
     refine wC cF (λhc=>?_) (λhc=>?_)
     ·skip;refine vR gG cF ?_;refine wZ cF ?_;exact λE=>rfl
     ·exact absurd hc sI
  ·have hb:none=Jq s s.size 0 ⟨#[]⟩:=by
    have hn:onT P=none:=by
      rw[hon]
      match l with
      |[]=>rfl
      |[a]=>rfl
      |[a,b]=>exact if_neg λg=>he g.1
      |a::b::c::d=>rfl
    rw[hn]at hst;exact hst
   have ee:decide (e=0)=false:=decide_eq_false he;rw[<- hb]at eq0;rw[eq0];rcases l with _|⟨⟨tk,ta,tt⟩,l⟩
   ·skip;refine Wp.seq ?_;refine wR gG (bP cF ee (show Kl []=[] from rfl)) ?_ ?_
    ·exact⟨nofun,nofun,nofun,nofun,nofun,nofun,nofun⟩
    refine wC cF (λhc=>?_) (λhc=>?_)
    ·skip;refine vR gG cF ?_;refine wZ cF ?_;exact λE=>rfl
    ·exact absurd hc sI
   ·have hrow:Kl ((tk,ta,tt)::l)=.int .i64 tk::.int .i64 (ta:Nat)::.string tt::Kl l:=rfl;refine Wp.seq ?_;refine wR gG (bP cF ee hrow) ?_ ?_
    ·exact⟨nofun,nofun,nofun,nofun,nofun,nofun,nofun⟩
    refine wC cF (λhc=>?_) (λhc=>?_)
    ·skip;refine vR gG cF ?_;refine wZ cF ?_;exact λE=>rfl
    ·exact absurd hc sI
 ·have hge:s.size<=i:=by
   simp at hc;omega
  have hv:Jq s s.size 0 ⟨#[]⟩=some o:=by
   rw[<- g4];cases n with
   |zero=>rfl
   |succ n=>rw[Jq,if_neg oM]
  rw[hv]at eq0;rw[eq0];refine wE ?_;refine lf gG cF ?_ ?_
  ·exact⟨iz _,iz _,oM⟩
  refine wZ cF ?_;exact λE=>rfl
theorem qJ(s p:ByteArray):oQ s p=kz s p:=by
 rw[Bool.eq_iff_iff];unfold oQ Lib.hasPrefix kz;rw[List.isPrefixOf_iff_prefix,List.prefix_iff_eq_take];simp only[Bool.and_eq_true,decide_eq_true_eq];have e:(s.extract 0 p.size).data.toList=s.data.toList.take p.data.toList.length:=by
  rw[ka,List.drop_zero,Nat.sub_zero,Lib.size_eq p]
 constructor
 ·intro h;refine⟨?_,FQ (by rw[e];exact h.symm)⟩;have:=congrArg List.length h;rw[List.length_take]at this;rw[Lib.size_eq s,Lib.size_eq p];omega
 ·rintro⟨h1,h2⟩;rw[<- e,h2]
theorem uT{s p:ByteArray}(h:oQ s p=true):(ez s p).data.toList=s.data.toList.drop p.data.toList.length:=by
 unfold ez Lib.trimPrefix;rw[if_pos (show Lib.hasPrefix s.data.toList p.data.toList=true from h)]
theorem Un(t:ByteArray):Bx t AN=true ↔ 0<t.size/\bt t ((t.size:Int)-1)=47:=by
 unfold Bx Lib.hasSuffix;rw[List.isSuffixOf_iff_suffix,List.suffix_iff_eq_drop];have hl:AN.data.toList=[47]:=rfl;rw[hl,Lib.size_eq t];have hz:([47]:List UInt8).length=1:=rfl;rw[hz];constructor
 ·intro h;have hp:0<t.data.toList.length:=by
   have:=congrArg List.length h;rw[List.length_drop]at this;simp only[List.length_cons,List.length_nil]at this;omega
  refine⟨hp,?_⟩;rw[List.drop_eq_getElem_cons oM]at h;simp only[List.cons.injEq]at h;have hb:=ff t (k:=t.data.toList.length-1) oM;rw[show ((t.data.toList.length:Nat):Int)-1=((t.data.toList.length-1:Nat):Int) by omega,hb,<- h.1];rfl
 ·rintro⟨hp,hb⟩;rw[show ((t.data.toList.length:Nat):Int)-1=((t.data.toList.length-1:Nat):Int) by omega,ff t oM]at hb;rw[List.drop_eq_getElem_cons oM,show t.data.toList.length-1+1=t.data.toList.length by omega,List.drop_length]
  congr 1
  apply UInt8.toNat_inj.1;have:(47:UInt8).toNat=47:=rfl;omega
theorem ac6(l:ByteArray):zv l=Ip l/\(zv l=true->pd (ez l cH) AN=l.extract 6 (l.size-1)):=by
 have hl:cH.data.toList.length=6:=rfl;have body:oQ l cH=true->Bx (ez l cH) AN=true->pd (ez l cH) AN=l.extract 6 (l.size-1):=λh1 h2=>by
  apply FQ;unfold pd Lib.trimSuffix;rw[if_pos (show Lib.hasSuffix (ez l cH).data.toList AN.data.toList=true from h2),ka];show (ez l cH).data.toList.take ((ez l cH).data.toList.length-1)=_;rw[uT h1,hl,List.length_drop,Lib.size_eq l]
  congr 1
 have key:(oQ l cH&&Bx (ez l cH) AN)=((kz l cH&&decide (6<l.size))&&decide (bt l ((l.size:Int)-1)=47)):=by
  rw[qJ];cases h1:kz l cH with
  |false=>rfl
  | true=>
   have h1' : oQ l cH=true:=by rw[qJ];exact h1
   rw[Bool.true_and,Bool.true_and,Bool.eq_iff_iff,Un];simp only[Bool.and_eq_true,decide_eq_true_eq];have hc:=uT h1';have hcl:(ez l cH).size=l.size-6:=by rw[Lib.size_eq,hc,hl,List.length_drop,<- Lib.size_eq l]
   rw[hcl];constructor
   ·rintro⟨g1,g2⟩;refine⟨oM,?_⟩;rw[show ((l.size-6:Nat):Int)-1=((l.size-7:Nat):Int) by omega,ff _ (by rw[hc,hl,List.length_drop,<- Lib.size_eq l];omega)]at g2;rw[show (l.size:Int)-1=((l.size-1:Nat):Int) by omega,ff l (by rw[<- Lib.size_eq l];omega)];simp only[hc,hl,List.getElem_drop]at g2;rw[<- g2]
    congr 3
    omega
   ·rintro⟨g1,g2⟩;refine⟨oM,?_⟩;rw[show ((l.size-6:Nat):Int)-1=((l.size-7:Nat):Int) by omega,ff _ (by rw[hc,hl,List.length_drop,<- Lib.size_eq l];omega)];rw[show (l.size:Int)-1=((l.size-1:Nat):Int) by omega,ff l (by rw[<- Lib.size_eq l];omega)]at g2;simp only[hc,hl,List.getElem_drop];rw[<- g2]
    congr 3
    omega
 constructor
 ·unfold zv Ip;rw[<- key];cases h1:oQ l cH with
  |false=>simp only[Bool.false_and]
  |true=>
   cases h2:Bx (ez l cH) AN with
   |false=>simp only[Bool.and_false,Bool.false_and]
   |true=>rw[body h1 h2]
 ·intro h;unfold zv at h;simp only[Bool.and_eq_true]at h;exact body h.1.1 h.1.2
theorem O4(l:ByteArray):B3 l=Jb l/\(B3 l=true->(ib (ez l fQ)).1=(jr (oO l)).1):=by
 have hl:fQ.data.toList.length=5:=rfl;have haft:oQ l fQ=true->ez l fQ=oO l:=λh=>by
  have h5:5<=l.size:=by
   rw[qJ]at h;unfold kz at h;simp only[Bool.and_eq_true,decide_eq_true_eq]at h;exact h.1
  apply FQ;rw[uT h,hl,oO,if_neg oM,ka,List.take_of_length_le];rw[List.length_drop,<- Lib.size_eq l];omega
 unfold B3 Jb;rw[<- qJ];cases h:oQ l fQ with
 |false=>exact⟨rfl,λh=>by cases h⟩
 |true=>
  rw[haft h,Bool.true_and,Bool.true_and];obtain⟨h1,h2⟩:=Vr (oO l);exact⟨h1.symm,λh=>(h2 h).symm⟩
theorem FO(r:Rd)(l:ByteArray):(fT r l).2.ty=r.ty/\(fT r l).2.tx=r.tx/\(fT r l).2.co=r.co/\(fT r l).2.pl=r.pl/\match uC l with
  |none=>(fT r l).1=false
  |some (b,c)=>(fT r l).1=(bR b&&bR c)/\((bR b&&bR c)=true->(fT r l).2={ r with src:=iK b,vw:=iK c }):=by
 unfold fT uC;rw[nQ];rcases gQ l with _|⟨a,_|⟨b,_|⟨c,_|⟨d,f⟩⟩⟩⟩
 ·exact⟨rfl,rfl,rfl,rfl,rfl⟩
 ·exact⟨rfl,rfl,rfl,rfl,rfl⟩
 ·exact⟨rfl,rfl,rfl,rfl,rfl⟩
 ·by_cases h:a=oN
  ·simp only[if_pos h];obtain⟨e1,e2⟩:=pf b;obtain⟨e3,e4⟩:=pf c;rw[e1,e3];refine⟨trivial,trivial,trivial,trivial,by first|trivial|rfl,λhb=>?_⟩;rw[Bool.and_eq_true]at hb;rw[e2 hb.1,e4 hb.2]
  ·simp only[if_neg h];exact⟨trivial,trivial,trivial,trivial,by first|trivial|rfl⟩
 ·exact⟨rfl,rfl,rfl,rfl,rfl⟩
def M5:List Bool->List ByteArray->Bool->Int×Int×Int->Option (Int×Int×Int)
 |[],[],_,x=>some x
 |true::ks,t::f,fst,x=>if t=sB then M5 ks f fst x else if t=vB then M5 ks f fst (1,x.2) else none
 |false::ks,t::f,fst,x=>if bR t=true then M5 ks f false (if fst=true then (x.1,iK t,x.2.2) else (x.1,x.2.1,iK t)) else none
 |_,_,_,_=>none
def kdU(u:ByteArray):List Bool:=u.data.toList.map λc=>decide (c.toNat=107)
def kdS(x:ByteArray×Bool×Int×Int):List Bool:=(if x.2.1=true then [true] else [])++((if x.2.2.1=0 then [] else [false])++(if x.2.2.2=0 then [] else [false]))
theorem yo(m:Nat)(hm:m<21):kdU (dj (m:Nat)).2=kdS (gn m)/\((gn m).2.2.2≠0->(gn m).2.2.1≠0)/\(dj (m:Nat)).1=(gn m).1:=by
 have h:∀ b:Fin 21,kdU (dj ((b.val:Nat):Int)).2=kdS (gn b.val)/\((gn b.val).2.2.2≠0->(gn b.val).2.2.1≠0)/\(dj ((b.val:Nat):Int)).1=(gn b.val).1:=by decide +kernel
 exact h ⟨m,hm⟩
theorem Qx(u:ByteArray)(f:List ByteArray)(hf:f.length=u.data.toList.length):∀ (n i:Nat) (fst:Bool) (x:Int×Int×Int),i+n=u.data.toList.length->T3 u f n i fst x=M5 ((kdU u).drop i) (f.drop i) fst x
 |0,i,fst,x,h=>by
  have h1:(kdU u).drop i=[]:=List.drop_eq_nil_of_le (by simp only[kdU,List.length_map];omega);have h2:f.drop i=[]:=List.drop_eq_nil_of_le oM;rw[h1,h2];rfl
 |n+1,i,fst,x,h=>by
  have hlt:i<u.data.toList.length:=oM;have hk:i<(kdU u).length:=by simp only[kdU,List.length_map];omega
  have hfl:i<f.length:=oM;have hsz:i<u.size:=by rw[Lib.size_eq];omega
  have hg:f.getD i dJ=f[i]:=by rw[List.getD_eq_getElem?_getD,List.getElem?_eq_getElem hfl];rfl
  have hkd:(kdU u)[i]=decide (u.data.toList[i].toNat=107):=by simp[kdU]
  have hb:=ff u hlt;rw[T3,if_pos hsz,List.drop_eq_getElem_cons hk,List.drop_eq_getElem_cons hfl,hg,hkd];by_cases h107:u.data.toList[i].toNat=107
  ·rw[if_pos oM,decide_eq_true h107,M5,Qx u f hf n (i+1) _ _ oM,Qx u f hf n (i+1) _ _ oM]
  ·rw[if_neg oM,decide_eq_false h107,M5,Qx u f hf n (i+1) _ _ oM]
theorem Qv(u:Int)(t:ByteArray)(r:List ByteArray)(hu:¬ u=0):TD u (t::r)=if bR t=true then some (iK t,r) else none:=by
 obtain⟨e1,e2⟩:=pf t;unfold TD;rw[if_neg hu];simp only;rw[e1];by_cases h:bR t=true
 ·rw[if_pos h,if_pos h,e2 h]
 ·rw[if_neg h,if_neg h]
theorem IC(f:List ByteArray):TD 0 f=some (0,f):=by unfold TD;rw[if_pos rfl]
theorem yd(u:Int)(hu:¬ u=0):TD u []=none:=by unfold TD;rw[if_neg hu]
def EY{α:Type}:Option (α×List ByteArray)->Option α
 |some (x,f)=>if f.isEmpty=true then some x else none
 |none=>none
def xC(a b:Int)(f:List ByteArray):Option ((Int×Int)×List ByteArray):=match TD a f with
 |none=>none
 |some (x,f2)=>match TD b f2 with
  |none=>none
  |some (y,f3)=>some ((x,y),f3)
theorem Aj(a b:Int)(hab:b≠0->a≠0)(k:Int)(f:List ByteArray):(EY (xC a b f)).map (λp=>(k,p.1,p.2))=M5 ((if a=0 then [] else [false])++(if b=0 then [] else [false])) f true (k,0,0):=by
 by_cases ha:a=0
 ·have hb:b=0:=Decidable.byContradiction λh=>hab h ha
  subst ha;subst hb;rw[if_pos rfl,xC,IC];simp only[IC];cases f with
  |nil=>rfl
  |cons t r=>rfl
 ·rw [if_neg ha,xC];cases f with
  |nil=>rw[yd a ha];rfl
  | cons t r=>
   rw[Qv a t r ha,List.singleton_append,M5];by_cases ht:bR t=true
   ·rw[if_pos ht,if_pos ht];simp only;by_cases hb:b=0
    ·subst hb;rw[IC,if_pos rfl];simp only[if_true];cases r with
     |nil=>rfl
     |cons t2 r2=>rfl
    ·rw[if_neg hb];simp only[if_true];cases r with
     |nil=>rw[yd b hb];rfl
     | cons t2 r2=>
      rw[Qv b t2 r2 hb,M5];by_cases ht2:bR t2=true
      ·rw[if_pos ht2,if_pos ht2];cases r2 with
       |nil=>rfl
       |cons t3 r3=>rfl
      ·rw[if_neg ht2,if_neg ht2];rfl
   ·rw[if_neg ht,if_neg ht];rfl
theorem aaY(m:Nat)(f:List ByteArray):cdX m f=match cdK (gn m).2.1 f with
  |none=>none
  |some (k,f1)=>match xC (gn m).2.2.1 (gn m).2.2.2 f1 with
   |none=>none
   |some (p,f3)=>some (((m:Nat),k,p.1,p.2),f3):=by
 unfold cdX xC;cases cdK (gn m).2.1 f with
 |none=>rfl
 | some q=>
  obtain⟨k,f1⟩:=q;simp only;cases TD (gn m).2.2.1 f1 with
  |none=>rfl
  |some q=>
   obtain⟨x,f2⟩:=q;simp only;cases TD (gn m).2.2.2 f2 with
   |none=>rfl
   |some q=>rfl
theorem Fi(m:Nat)(k:Int)(o:Option ((Int×Int)×List ByteArray)):EY (match o with
   |none=>none
   |some (p,f3)=>some ((((m:Nat):Int),k,p.1,p.2),f3))=((EY o).map (λp=>(k,p.1,p.2))).map λx=>(((m:Nat):Int),x):=by
 cases o with
 |none=>rfl
 |some q=>
  obtain⟨p,f3⟩:=q;simp only[EY];split<;>rfl
theorem ag8(m:Nat)(hm:m<21)(f:List ByteArray):EY (cdX m f)=(M5 (kdS (gn m)) f true (0,0,0)).map λx=>(((m:Nat):Int),x):=by
 obtain⟨_,hab,_⟩:=yo m hm;rw[aaY];generalize gn m=sp at *;obtain⟨w,st,a,b⟩:=sp;simp only[kdS]at hab ⊢;cases st with
 |false=>
  unfold cdK;rw[if_neg sI,if_neg sI,List.nil_append,<- Aj a b hab 0 f];exact Fi m 0 _
 | true=>
  unfold cdK;rw[if_pos rfl,if_pos rfl];cases f with
  |nil=>rfl
  | cons t r=>
   rw[List.singleton_append,M5];simp only;by_cases h1:t=sB
   ·rw[if_pos h1,if_pos h1,<- Aj a b hab 0 r];exact Fi m 0 _
   ·rw[if_neg h1,if_neg h1];by_cases h2:t=vB
    ·rw[if_pos h2,if_pos h2,<- Aj a b hab 1 r];exact Fi m 1 _
    ·rw[if_neg h2,if_neg h2];rfl
theorem x7:∀ (ks:List Bool) (f:List ByteArray) (fst:Bool) (x:Int×Int×Int),f.length≠ks.length->M5 ks f fst x=none
 |[],[],_,_,h=>absurd rfl h
 |[],t::f,_,_,_=>rfl
 |true::ks,[],_,_,_=>rfl
 |false::ks,[],_,_,_=>rfl
 |true::ks,t::f,fst,x,h=>by
  have h' : f.length≠ks.length:=λe=>h (by simp[e])
  rw[M5,x7 ks f _ _ h',x7 ks f _ _ h'];split
  ·rfl
  ·split<;>rfl
 |false::ks,t::f,fst,x,h=>by
  have h' : f.length≠ks.length:=λe=>h (by simp[e])
  rw[M5,x7 ks f _ _ h'];split<;>rfl
theorem ab3(t:ByteArray):aav t=qu t:=by
 unfold aav qu;have:∀ n j,j+n<=21->cS (λm=>decide ((gn m).1=t)) n j=cS (λm=>decide ((dj (m:Nat)).1=t)) n j:=by
  intro n
  induction n with
  |zero=>intro j _;rfl
  |succ n ih=>
   intro j hj;unfold cS;rw[(yo j oM).2.2,ih (j+1) oM]
 exact this 21 0 oM
theorem C6{P:Nat->Bool}:∀ {n j m:Nat},cS P n j=some m->m<j+n/\P m=true
 |0,j,m,h=>by cases h
 | n+1,j,m,h=>by
  unfold cS at h;cases hp:P j with
  |true=>
   rw[hp]at h;cases h;exact⟨oM,hp⟩
  |false=>
   rw[hp]at h;obtain⟨h1,h2⟩:=C6 h;exact⟨oM,h2⟩
theorem acr(n:Nat)(l:ByteArray):match yN n l with
  |some x=>BL n l=(true,[x])
  |none=>(BL n l).1=false:=by
 unfold yN BL;rw[nQ];rcases gQ l with _|⟨a,_|⟨b,f⟩⟩
 ·rfl
 ·rfl
 ·simp only;by_cases ha:a=gl (n:Nat)
  ·rw [if_pos ha,if_pos ha,ab3];cases hop:qu b with
   |none=>rfl
   | some m=>
    have hm:m<21:=by
     have:=(C6 hop).1;omega
    simp only;have hx:=ag8 m hm f;obtain⟨hk,_,_⟩:=yo m hm;have hkl:(kdS (gn m)).length=(dj (m:Nat)).2.size:=by rw[<- hk,kdU,List.length_map,<- Lib.size_eq]
    by_cases hlen:f.length=(dj (m:Nat)).2.size
    ·rw[if_pos hlen,Qx _ f (by rw[hlen,Lib.size_eq]) _ 0 _ _ (by rw[Lib.size_eq];omega),List.drop_zero,List.drop_zero,hk];cases hr:M5 (kdS (gn m)) f true (0,0,0) with
     | none=>
      rw[hr]at hx;cases hc:cdX m f with
      |none=>rfl
      |some q=>
       obtain⟨x,f'⟩:=q;rw[hc]at hx;simp only[EY,Option.map_none]at hx;simp only;cases f' with
       |nil=>simp at hx
       |cons _ _=>rfl
     | some y=>
      rw[hr]at hx;cases hc:cdX m f with
      |none=>rw[hc]at hx;simp[EY]at hx
      | some q=>
       obtain⟨x,f'⟩:=q;rw[hc]at hx;simp only[EY,Option.map_some]at hx;cases f' with
       |nil=>
        simp only[List.isEmpty_nil,if_true,Option.some.injEq]at hx;subst hx;rfl
       |cons _ _=>simp at hx
    ·rw[if_neg hlen];have hr:=x7 (kdS (gn m)) f true (0,0,0) (by rw[hkl];exact hlen);rw[hr]at hx;cases hc:cdX m f with
     |none=>rfl
     |some q=>
      obtain⟨x,f'⟩:=q;rw[hc]at hx;simp only[EY,Option.map_none]at hx;simp only;cases f' with
      |nil=>simp at hx
      |cons _ _=>rfl
  ·rw[if_neg ha,if_neg ha]
end
end Go.Proofs.YtnemkecffmdlnaaGreatDoor
