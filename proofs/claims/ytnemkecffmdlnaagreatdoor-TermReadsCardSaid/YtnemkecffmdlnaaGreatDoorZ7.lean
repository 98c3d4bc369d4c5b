/-
 Part 7 of the proof (packed).
-/
import Derived.Test.YtnemkecffmdlnaaGreatDoorZ6
set_option linter.unusedSimpArgs false
set_option linter.unusedVariables false
set_option linter.defProp false
set_option maxHeartbeats 16000000
noncomputable section
namespace Go.Proofs.YtnemkecffmdlnaaGreatDoor
section
open Go Go.RowKit Go.LE
set_option maxRecDepth 10000
variable{t:cl}{W:ar}{bs:aD}(p:pN)
def ahW{s:ao}(h:vK s=.ok t):l3 t:=by
 unfold vK at h;split at h
 ·cases h
 ·rename_i p hp;exact ax0 (NV hp) h
def Ob(p:pN):py Tryz.prog 27 where
 kinds:=[none]
 pre:=λaj W S=>∃v,aj=[.val v]/\Bq W S v p/\(HJ p/\p.1.length<=4097)/\gl W S
 gA:=λaj W S aO bz V ⟨v,D,O,B,aU⟩=>⟨v,D,O.mono V,B,aU.mono V⟩
 out:=λ_=>Kq (Br p)
 enters:=Tryz.call27
 ok:=by
  intro w S us aj hu hp;obtain⟨v,rfl,D,⟨O,B⟩,aU⟩:=hp
  match us,hu with
  |[u],hu=>obtain⟨rfl,_⟩:=hu;exact ayM p u w S D O B aU
def azq(v:aM)(W:ar)(S:aY):(Ob p).pre [v] W S=(Bq W S v p/\(HJ p/\p.1.length<=4097)/\gl W S):=by
 apply propext;constructor
 ·rintro⟨eT,D,O⟩;cases D;exact O
 ·exact λh=>⟨v,rfl,h⟩
theorem azr(aj:List br):(Ob p).out aj=Kq (Br p):=rfl
theorem azs:(Ob p).kinds=[none]:=rfl
section
variable (G:aY)(s:ao)(p:pN)
def De:Env Tryz.prog:=⟨λ| 28=>some ((Xp s).spec G)|27=>some ((Ob p).spec G)|_=>none,λ| 39=>some tm|_=>none,λ_ _=>none⟩
theorem azt:(De G s p).sp 28=some ((Xp s).spec G):=rfl
theorem azu:(De G s p).sp 27=some ((Ob p).spec G):=rfl
theorem azv:(De G s p).eqs 39=some tm:=rfl
end
def pS:=(aT (ch ez @w2 @yj @azt @azu @azv @M5 @Xp.eq_1) (ch @afy @Xm @azq @azr @azs @Sb @HM @b5.Hv.eq_1) (I @ix.eq_1 @Bi.eq_1))
def azw(s:ao)(w:ar)(S:aY)(V:s.size<=9223372036854775807)(aK:nX w S)(he:gl w S):Calls Tryz.prog 22 #[s] w λe M=>oO w S e M (Kq (vK s)):=by
 have cf:=b1.up w S;have iS:=aK.mono (b1.ep w S);have cv:=he.mono (b1.ep w S);refine ue (nt:=19) S [.tmp 2,.cell 3 39] Tryz.func22 ?_;refine aA aa pS ?_;cases bo:rv s with
 |error e=>
  obtain⟨c,j⟩:=e;have Kv:decide (c=0)=false:=yJ (ay0 bo);have aZ:vK s=.error (c,(j:Nat)):=by unfold vK;rw[bo]
  rw[aZ,HM];refine aL (De (b1 w S) s ([],.nil)) (I pS bo) ?_ ?_
  ·exact⟨V,iS⟩
  refine bk (De (b1 w S) s ([],.nil)) (I pS Kv) ?_;refine fu (Γ:=aa) trivial pS ?_;skip;refine hs aa pS ?_;exact bE pS
 |ok p=>
  have aZ:vK s=Br p:=by unfold vK;rw[bo]
  rw[aZ];refine aL (De (b1 w S) s p) (I pS bo) ?_ ?_
  ·exact⟨⟨V,iS⟩,cf⟩
  refine ae.dt 24 (aJ pS) (bT.refl _ _) λcy ck cs bD la=>?_
  obtain⟨v,rfl,au⟩:=la;have Ao:LE.au v=v:=au.au;have cT:=cf.ext bD;have bg:=cv.mono bD.cc;refine bk (De (b1 w S) s p) (I pS Ao) ?_;refine bk aa pS ?_;cases gf:Br p with
  |error e=>
   obtain⟨c,j⟩:=e;rw[HM];refine aL (De (b1 w S) s p) (aT pS gf Ao) ?_ ?_
   ·exact⟨au,⟨NV bo,XX bo⟩,bg⟩
   exact bE pS
  |ok t=>
   rw[Sb];refine aL (De (b1 w S) s p) (aT pS gf Ao) ?_ ?_
   ·exact⟨⟨au,⟨NV bo,XX bo⟩,bg⟩,cT⟩
   refine ae.dt 112 (aJ pS) (bT.refl _ _) λcL c7 cs cq hg=>?_
   obtain⟨v2,rfl,gY⟩:=hg;have ahX:LE.au v2=v2:=gY.au;refine bf (I pS ahX) ?_;exact⟨[v2,.int .i64 0,.int .i64 0,.string ⟨#[]⟩],λE=>(Xk ahX).symm,v2,rfl,gY⟩
abbrev Kw (s:ao):py Tryz.prog 22:=Jg (λW S=>s.size<=9223372036854775807/\nX W S/\gl W S) (λ_ _ _ _ V h=>⟨h.1,h.2.1.mono V,h.2.2.mono V⟩) Tryz.call22 λw S hp=>azw s w S hp.1 hp.2.1 hp.2.2
def azx(w:ar):cQ 59 #[.nilIface] w (.string ⟨#[]⟩):=by refine cB (nt:=260) [.tmp 2] Tryz.func59 ?_;refine lv aa pS ?_;refine Je aa pS ?_;exact bE pS
def azy(w:ar):cQ 58 #[.nilIface] w (.int .i64 0):=by refine cB (nt:=105) [.tmp 2] Tryz.func58 ?_;refine lv aa pS ?_;refine y9 aa pS ?_;exact bE pS
abbrev ahY:cV Tryz.prog 59:=Mo (λW bs=>True) Tryz.call59 λW w bs ad hp=>azx w
abbrev ahZ:cV Tryz.prog 58:=Mo (λW bs=>True) Tryz.call58 λW w bs ad hp=>azy w
abbrev aEt:Env Tryz.prog:=a7 ahY.spec (a7 ahZ.spec aa)
section
variable (t:cl)
abbrev azz:Env Tryz.prog:=a7 ((Sj (jm t+1) (ahV _)).spec) aa
end
def Sl:=(de pS @ahY.eq_1 @ahZ.eq_1 @ahO @ahP)
def azA(t:cl)(v:aM)(w:ar)(au:dB w (Out []) v t)(V:z1 t)(aK:HO w (Out [])):cQ 25 #[v] w (.string (iZ t)):=by
 have kx:jl w v=t:=lG au;refine cB (nt:=5) [.tmp 2] Tryz.func25 ?_;refine aA aa Sl ?_;refine aL (azz t) (I Sl kx) ?_ ?_
 ·exact⟨t,au,V,Dz _,aK⟩
 exact bE Sl
def Kx:cV Tryz.prog 25 where
 pre:=λW bs aj=>∃v t,aj=[.val v]/\dB W (Out bs) v t/\z1 t/\HO W (Out bs)
 res:=λW aj=>match aj with
  |[.val v]=>.string (iZ (jl W v))
  |_=>undef
 enters:=Tryz.call25
 ok:=by
  intro W w bs us aj ad hu hp;obtain⟨v,t,rfl,D,O,B⟩:=hp
  match us,hu with
  |[x],hu=>obtain⟨rfl,_⟩:=hu;simp only[lG D];exact azA t x w (D.mono λb Z aE=>⟨ad.block b Z aE,by simp[Out]⟩) O ⟨B.1.km ad bq,B.2.km ad bq⟩
def ah0(W:ar)(bs:aD)(v:aM):Kx.pre W bs [.val v]=∃t,dB W (Out bs) v t/\z1 t/\HO W (Out bs):=by
 apply propext;constructor
 ·rintro⟨eT,t,D,O⟩;cases D;exact⟨t,O⟩
 ·exact λ⟨t,O⟩=>⟨v,t,rfl,O⟩
theorem ah1(W:ar)(v:aM):Kx.res W [.val v]=.string (iZ (jl W v)):=rfl
def E9:ByteArray:=⟨#[99,111,112,121,40,47,97,42,47,41,46,105,110,115,40,34,120,34,41]⟩
def Yc:ByteArray:=⟨#[99,97,116,64,49,48,40,99,111,112,121,64,48,40,47,97,42,47,41,44,105,110,115,64,49,49,40,34,120,34,41,41]⟩
def azB:∃t,vK E9=.ok t/\k7 t=4/\sJ t=10/\iZ t=Yc/\dK t=6:=by
 have h:(match vK E9 with
  |.ok t=>decide (k7 t=4/\sJ t=10/\iZ t=Yc/\dK t=6)
  |.error _=>false)=true:=by decide +kernel
 cases bo:vK E9 with
 |error e=>rw[bo]at h;cases h
 |ok t=>rw[bo]at h;exact⟨t,rfl,tR h⟩
section
variable (G:aY)(s:ao)
def Fa:Env Tryz.prog:=⟨λ| 22=>some ((Kw s).spec G)|25=>some Kx.spec|24=>some C9.spec|f=>Bx f,λ| 39=>some tm|_=>none,w9⟩
theorem azC:(Fa G s).sp 22=some ((Kw s).spec G):=rfl
theorem azD:(Fa G s).sp 25=some Kx.spec:=rfl
theorem azE:(Fa G s).sp 24=some C9.spec:=rfl
theorem azF:(Fa G s).eqs 39=some tm:=rfl
def azG{κ:Nat}{hh:ca}{v:aM}(h:dB W (Out bs) v t)(aV:gC t):hN (Fa G s) W bs κ hh "Kind" [.v v]=⟨True,(k7 t),[],none,[],[]⟩:=
 ahJ rfl (λf s aW=>by
  unfold Bx at aW
  split at aW<;>cases aW<;>rfl) h aV
def azH{κ:Nat}{hh:ca}{v:aM}(h:dB W (Out bs) v t)(aV:gC t):hN (Fa G s) W bs κ hh "Place" [.v v]=⟨True,(sJ t),[],none,[],[]⟩:=
 X2 rfl (λf s aW=>by
  unfold Bx at aW
  split at aW<;>cases aW<;>rfl) h aV
end
def Df(W:ar)(S:aY):Prop:=nX W S/\HO W S
theorem Df.mono{W aO:World}{S bz:Nat->Prop}(h:Df W S)(V:bT W S aO bz):Df aO bz := ⟨h.1.mono V,h.2.1.mono V,h.2.2.mono V⟩
def dB.out{G:aY}{v:aM}(h:dB W (bw G bs) v t):dB W (Out bs) v t:=h.mono λb _ Z=>⟨rfl,Z.2⟩
def Oc:=(ch Sl @dH.eq_29 @azC @azD @azE @azF @Kw.eq_1 (b3 @ah0 @ah1 @R7 @R8))
def azI(w:ar)(aK:Df w (Out [])):cQ 21 #[] w (.bool true):=by
 have cc:bT w (Out []) w (bw (λ_=>True) []):=λb _ h=>⟨rfl,trivial,h⟩
 have aI:=aK.mono cc;have cf:oi (λ_=>True) w []:=oi.true _ _;obtain⟨t,D,O,B,aU,bn⟩:=azB;have bp:=ahW D;refine cB (nt:=34) [.tmp 0] Tryz.func21 ?_;refine aA aa Oc ?_;have bg:(⟨#[99,111,112,121,40,47,97,42,47,41,46,105,110,115,40,34,120,34,41]⟩:ao)=E9:=rfl
 have bN:(⟨#[99,97,116,64,49,48,40,99,111,112,121,64,48,40,47,97,42,47,41,44,105,110,115,64,49,49,40,34,120,34,41,41]⟩:ao)=Yc:=rfl;refine aL (Fa (λ_=>True) E9) (aT Oc D bg) ?_ ?_
 ·exact⟨⟨aq,aI.1,aI.2.1⟩,cf⟩
 refine ae.dt 8 (aJ Oc) (bT.refl _ _) λcy ck cs bD la=>?_
 obtain⟨v,rfl,au⟩:=la;have cg:dB cy (Out ck) v t:=au.out;have kx:jl cy v=t:=lG au;have CI:Df cy (Out ck):=(aI.mono bD.cc).mono λb _ Z=>⟨rfl,Z.2⟩
 have Ao:LE.au v=v:=au.au;have oj:=λκ hh=>azG (λ_=>True) E9 (κ:=κ) (hh:=hh) cg bp.1
 have pl:=λκ hh=>azH (λ_=>True) E9 (κ:=κ) (hh:=hh) cg bp.1
 obtain⟨k,u,rfl⟩:=au.iface;refine aL (Fa (λ_=>True) E9) (ch Oc oj pl kx Ao O B (aT aU bn bN)) ?_ ?_
 ·exact⟨λ_=>⟨t,cg,bp,CI.2⟩,λ_=>⟨t,cg,by have:=bp.2;unfold l2;omega⟩⟩
 exact bE Oc
abbrev Yd:cV Tryz.prog 21:=Mo (λW bs=>Df W (Out bs)) Tryz.call21 λW w bs ad hp=>azI w (hp.mono λb Z aE=>⟨ad.block b Z aE,by simp[Out]⟩)
end
section
open Go Go.ChangeShapes Go.WideShapes Go.ChangeAt Go.RowKit Go.LE
set_option maxRecDepth 10000
def ah2:Tryz.prog.globalNamed "loupe/syntax.ranks"=some 2:=mN
def azJ:(Tryz.prog.globals[2]?).map (·.type)=some 288:=mN
def azK:((begin Tryz.prog (λ_ _=>0) default).world.heap[1]?).bind Obj.row?=some (#[.int .i64 0],3):=mN
def azL{W:ar}(h:Lib.VarReads Tryz.prog W "loupe/syntax.ranks" Rows.laid_loupe_syntax_ranks):NN W (Out []):=by
 obtain⟨g,t,cs,fuel,p,D,O,B,aU⟩:=h;obtain rfl:=qZ (ah2.symm.trans D);obtain rfl:=qZ (azJ.symm.trans O);have e:(Rows.laid_loupe_syntax_ranks:DataW Unit)=.agg ((List.range 5).map λi=>.lit (.string (mX i).data.toList)):=rfl;rw[e]at aU
 have key:∀i,i<5->W.cell? ⟨2,i,none⟩=some (.string (mX i)):=λi hi=>by
  obtain⟨xw,d,q,ak,aV⟩:=Lib.array_elem Tryz.underlying288 aU i hi;rw[au6]at aV;rw[yG,Tp hi,FD,qo]at ak;subst ak;obtain⟨z0,g0,f0,_⟩:=DataW.trod_string Tryz.underlying9 aV;simp only[ll,DataW.lit.injEq,Lit.string.injEq]at f0
  obtain⟨f0,_⟩:=f0;have d0:mX i=z0:=by generalize mX i=s at f0;rcases s with⟨⟨l⟩⟩;rcases z0 with⟨⟨kU⟩⟩;simp only at f0;rw[f0]
  rw[d0];have g1:=fZ (·[0]?) g0;simp only[Ig,Lb,OM]at g1;refine WN ah2 B i _ ?_;simpa using g1
 exact⟨by simp[Out],key 0 U,key 1 U,key 2 U,key 3 U,key 4 U⟩
def azM{W:ar}(bp:W.ShapedOpen Tryz.prog):J2 W (Out []):=by have g6:=cell_of_shapedOpen_int (P:=Tryz.prog) (g:=1) (t:=3) (k:=.i64) bp (tR (by kernel_rfl)) azK (by kernel_rfl) (by kernel_rfl) (by kernel_rfl) Tryz.underlying3;exact⟨by simp[Out],g6⟩
end
section
open Go Go.RowKit Go.LE
set_option maxRecDepth 10000
variable{k:Nat}{q:di}{s:ao}{W:ar}{cs az:aX}{fp:aD}
def jo(s:ao):Int:=
 if s=⟨#[124]⟩ then 0
 else if s=⟨#[38]⟩\/s=⟨#[45]⟩ then 1
 else if s=⟨#[62,62]⟩ then 2
 else if s=⟨#[126]⟩ then 3
 else if s=⟨#[46]⟩ then 4
 else -1
def Od:Nat->ByteArray
 |0=>⟨#[99,111,112,121]⟩
 |1=>⟨#[107,101,121]⟩
 |2=>⟨#[105,110,115]⟩
 |3=>⟨#[105,100]⟩
 |_=>⟨#[102,111,108,100]⟩
def Oe:Nat->ByteArray
 |0=>⟨#[100,101,108]⟩
 |1=>⟨#[108,101,102,116]⟩
 |2=>⟨#[114,105,103,104,116]⟩
 |_=>⟨#[100,101,102,97,117,108,116]⟩
def azN(h:k<5):[ag.v (.string ⟨#[99,111,112,121]⟩),ag.v (.string ⟨#[107,101,121]⟩),ag.v (.string ⟨#[105,110,115]⟩),ag.v (.string ⟨#[105,100]⟩),ag.v (.string ⟨#[102,111,108,100]⟩)].getD k (ag.v undef)=ag.v (.string (Od k)):=by
 match k,h with
 |0,_=>rfl
 |1,_=>rfl
 |2,_=>rfl
 |3,_=>rfl
 |4,_=>rfl
def azO(h:k<4):[ag.v (.string ⟨#[100,101,108]⟩),ag.v (.string ⟨#[108,101,102,116]⟩),ag.v (.string ⟨#[114,105,103,104,116]⟩),ag.v (.string ⟨#[100,101,102,97,117,108,116]⟩)].getD k (ag.v undef)=ag.v (.string (Oe k)):=by
 match k,h with
 |0,_=>rfl
 |1,_=>rfl
 |2,_=>rfl
 |3,_=>rfl
def azP(h:k<5)(V:Od k=s):ed s=1:=by
 subst V
 match k,h with
 |0,_=>decide
 |1,_=>decide
 |2,_=>decide
 |3,_=>decide
 |4,_=>decide
def azQ(h:k<4)(V:Oe k=s):ed s=2:=by
 subst V
 match k,h with
 |0,_=>decide
 |1,_=>decide
 |2,_=>decide
 |3,_=>decide
def azR(dY:∀i<5,¬Od i=s)(AD:∀i<4,¬Oe i=s):ed s=if s=⟨#[110,111,114,109]⟩ then 3 else if s=⟨#[108,101,116]⟩ then -1 else 0:=by
 have cf:=dY 0 U;have cT:=dY 1 U;have eO:=dY 2 U;have tk:=dY 3 U;have Ky:=dY 4 U;have v0:=AD 0 U;have v1:=AD 1 U;have v2:=AD 2 U;have v3:=AD 3 U;unfold ed
 rw[ab (by intro h;rcases h with h|h|h|h|h<;>first|exact cf h.symm|exact cT h.symm|exact eO h.symm|exact tk h.symm|exact Ky h.symm),ab (by intro h;rcases h with h|h|h|h<;>first|exact v0 h.symm|exact v1 h.symm|exact v2 h.symm|exact v3 h.symm)]
def gD:=(b3 @Fy @K8 @Ch @DZ)
def azS(s:ao)(w:ar):cQ 86 #[s] w (.int .i64 (ed s)):=by
 refine cB (nt:=37) [.tmp 2] Tryz.func86 ?_;refine y9 aa gD ?_
 refine ae.loop (λk:Nat=>⟨6,bK [(0,s),(3,.is (.ak 8)),(4,.is (.ak 24)),(5,k)],bA [(8,.row 9 1 5 [ag.v (.string ⟨#[99,111,112,121]⟩),ag.v (.string ⟨#[107,101,121]⟩),ag.v (.string ⟨#[105,110,115]⟩),ag.v (.string ⟨#[105,100]⟩),ag.v (.string ⟨#[102,111,108,100]⟩)]),(24,.row 9 1 4 [ag.v (.string ⟨#[100,101,108]⟩),ag.v (.string ⟨#[108,101,102,116]⟩),ag.v (.string ⟨#[114,105,103,104,116]⟩),ag.v (.string ⟨#[100,101,102,97,117,108,116]⟩)])]⟩) (λk=>k<=5/\∀i<k,¬Od i=s) (λk=>5-k) 0 ?_ ⟨ef _,λ_ h=>absurd h (wb _)⟩ ?_
 ·exact bh (I gD @gq)
 rintro k ⟨ad,jI⟩;refine ae.seq ?_;refine aR aa gD ?_ ?_<;>intro J
 ·have ax:k<5:=bt J
  have Ye:=azN ax;have dM:=fK k;refine a1 ?_;refine ae.seq (ae.block ?_);refine aL aa (I gD Ye) ?_ ?_
  ·first|exact⟨_,rfl⟩|omega|exact⟨U,U⟩|exact⟨U,λ_=>by omega⟩
  refine bC gD ?_ ?_<;>intro J
  ·have he:=azP ax (aC J);refine aA aa gD ?_;refine bf gD ?_;intro E;rw[he];rfl
  ·have aE:¬Od k=s:=aC J
   refine a1 ?_;refine bY aa (I gD dM) ?_;refine⟨k+1,⟨U,λi hi=>by
    by_cases h:i<k
    ·exact jI i h
    ·obtain rfl:i=k:=U
     exact aE⟩,U,?_⟩
   exact bh gD
 ·have Ht:k=5:=bt J
  subst Ht;refine c6 ?_;have dY:=jI;clear jI ad;refine dL aa gD ?_
  refine ae.loop (λk:Nat=>⟨30,bK [(0,s),(3,.is (.ak 8)),(4,.is (.ak 24)),(6,k)],bA [(8,.row 9 1 5 [ag.v (.string ⟨#[99,111,112,121]⟩),ag.v (.string ⟨#[107,101,121]⟩),ag.v (.string ⟨#[105,110,115]⟩),ag.v (.string ⟨#[105,100]⟩),ag.v (.string ⟨#[102,111,108,100]⟩)]),(24,.row 9 1 4 [ag.v (.string ⟨#[100,101,108]⟩),ag.v (.string ⟨#[108,101,102,116]⟩),ag.v (.string ⟨#[114,105,103,104,116]⟩),ag.v (.string ⟨#[100,101,102,97,117,108,116]⟩)])]⟩) (λk=>k<=4/\∀i<k,¬Oe i=s) (λk=>4-k) 0 ?_ ⟨ef _,λ_ h=>absurd h (wb _)⟩ ?_
  ·exact bh (I gD @gq)
  rintro k ⟨ad,jI⟩;refine ae.seq ?_;refine aR aa gD ?_ ?_<;>intro J
  ·have ax:k<4:=bt J
   have Ye:=azO ax;have dM:=fK k;refine a1 ?_;refine ae.seq (ae.block ?_);refine aL aa (I gD Ye) ?_ ?_
   ·first|exact⟨_,rfl⟩|omega|exact⟨U,U⟩|exact⟨U,λ_=>by omega⟩
   refine bC gD ?_ ?_<;>intro J
   ·have he:=azQ ax (aC J);refine aA aa gD ?_;refine bf gD ?_;intro E;rw[he];rfl
   ·have aE:¬Oe k=s:=aC J
    refine a1 ?_;refine bY aa (I gD dM) ?_;refine⟨k+1,⟨U,λi hi=>by
     by_cases h:i<k
     ·exact jI i h
     ·obtain rfl:i=k:=U
      exact aE⟩,U,?_⟩
    exact bh gD
  ·have Ht:k=4:=bt J
   subst Ht;refine c6 ?_;have AD:=jI;have aZ:=azR dY AD;refine ae.seq ?_;refine aR aa gD ?_ ?_<;>intro J
   ·have D:s=⟨#[110,111,114,109]⟩:=aC J
    refine aA aa gD ?_;refine bf gD ?_;intro E;rw[aZ,al D];rfl
   have D:¬s=⟨#[110,111,114,109]⟩:=aC J
   clear J;refine a1 ?_;refine ae.seq ?_;refine aR aa gD ?_ ?_<;>intro J
   ·have O:s=⟨#[108,101,116]⟩:=aC J
    refine aA aa gD ?_;refine bf gD ?_;intro E;rw[aZ,ab D,al O];rfl
   have O:¬s=⟨#[108,101,116]⟩:=aC J
   refine bk aa gD ?_;refine bf gD ?_;intro E;rw[aZ,ab D,ab O];rfl
def azT(s:ao)(w:ar):cQ 147 #[s] w (.int .i64 (jo s)):=by
 refine cB (nt:=15) [.tmp 2] Tryz.func147 ?_;refine gJ aa gD ?_;refine aR aa gD ?_ ?_<;>intro J
 ·have A:s=⟨#[124]⟩:=aC J
  refine aA aa gD ?_;refine bf gD ?_;intro E;rw[jo,al A];rfl
 have A:¬s=⟨#[124]⟩:=aC J
 clear J;refine ae.seq ?_;refine aR aa gD ?_ ?_<;>intro J
 ·have D:s=⟨#[38]⟩:=aC J
  refine a1 ?_;refine bC gD ?_ ?_<;>intro J
  ·clear J;refine aA aa gD ?_;refine bf gD ?_;intro E;rw[jo,ab A,al (.inl D)];rfl
  ·exact absurd D (aC J)
 have D:¬s=⟨#[38]⟩:=aC J
 clear J;refine bY aa gD ?_;refine bC gD ?_ ?_<;>intro J
 ·have O:s=⟨#[45]⟩:=aC J
  refine aA aa gD ?_;refine bf gD ?_;intro E;rw[jo,ab A,al (.inr O)];rfl
 have O:¬s=⟨#[45]⟩:=aC J
 clear J;refine aR aa gD ?_ ?_<;>intro J
 ·have B:s=⟨#[62,62]⟩:=aC J
  refine aA aa gD ?_;refine bf gD ?_;intro E;rw[jo,ab A,ab (by rintro (h|h);exact D h;exact O h),al B];rfl
 have B:¬s=⟨#[62,62]⟩:=aC J
 clear J;refine aR aa gD ?_ ?_<;>intro J
 ·have aU:s=⟨#[126]⟩:=aC J
  refine aA aa gD ?_;refine bf gD ?_;intro E;rw[jo,ab A,ab (by rintro (h|h);exact D h;exact O h),ab B,al aU];rfl
 have aU:¬s=⟨#[126]⟩:=aC J
 clear J;refine aR aa gD ?_ ?_<;>intro J
 ·have bn:s=⟨#[46]⟩:=aC J
  refine aA aa gD ?_;refine bf gD ?_;intro E;rw[jo,ab A,ab (by rintro (h|h);exact D h;exact O h),ab B,ab aU,al bn];rfl
 have bn:¬s=⟨#[46]⟩:=aC J
 clear J;refine bk aa gD ?_;refine bf gD ?_;intro E;rw[jo,ab A,ab (by rintro (h|h);exact D h;exact O h),ab B,ab aU,ab bn];rfl
def Yf:cV Tryz.prog 86 where
 pre:=λW bs aj=>∃s:ByteArray,aj=[.val (.string s)]
 res:=λ_ aj=>match aj with
  |[.val (.string s)]=>.int .i64 (ed s)
  |_=>undef
 enters:=Tryz.call86
 ok:=by
  intro W w bs us aj ad hu hp;obtain⟨s,rfl⟩:=hp
  match us,hu with
  |[x],hu=>obtain⟨rfl,_⟩:=hu;exact azS s w
def azU(W:ar)(bs:aD)(s:ao):Yf.pre W bs [.val (.string s)]=True:=DF ⟨s,rfl⟩
theorem azV(W:ar)(s:ao):Yf.res W [.val (.string s)]=.int .i64 (ed s):=rfl
def Yg:cV Tryz.prog 147 where
 pre:=λW bs aj=>∃s:ByteArray,aj=[.val (.string s)]
 res:=λ_ aj=>match aj with
  |[.val (.string s)]=>.int .i64 (jo s)
  |_=>undef
 enters:=Tryz.call147
 ok:=by
  intro W w bs us aj ad hu hp;obtain⟨s,rfl⟩:=hp
  match us,hu with
  |[x],hu=>obtain⟨rfl,_⟩:=hu;exact azT s w
def ah3(W:ar)(bs:aD)(s:ao):Yg.pre W bs [.val (.string s)]=True:=DF ⟨s,rfl⟩
theorem ah4(W:ar)(s:ao):Yg.res W [.val (.string s)]=.int .i64 (jo s):=rfl
structure fY where
 k:Nat
 at_:Nat
 t:ByteArray
 ps:List Nat
structure b6 where
 r:List bH
 op:Int
 a8:Int
 at_:Nat
 aH:List fY
variable{σ:b6}
def hB(e:Int)(σ:b6):b6:=if σ.a8=0 then{ σ with a8:=e,at_:=(aF σ.r).2.1 } else σ
def lb(m:ao)(σ:b6):Bool:=decide (σ.a8=0)&&dI σ.r m
def bI(σ:b6):b6:={ σ with r:=σ.r.tail }
def cJ(m:ao)(σ:b6):b6:=
 if lb m σ=true then
  if m=er\/m=gx then if σ.op=64 then hB 23 σ else{ bI σ with op:=σ.op+1 }
  else if m=fG\/m=jD then{ bI σ with op:=σ.op-1 }
  else bI σ
 else hB 60 σ
def kf(k a:Nat)(t:ao)(ps:aD)(σ:b6):b6:={ σ with aH:=σ.aH++[⟨k,a,t,ps⟩] }
def xb(W:ar)(S:aY)(v:aM)(ps:aD):Prop:=∃ay c,v=.slice ay ps.length c/\b0 W S ay (ps.map λi=>.int .i64 (i:Nat))/\ps.length<=c
theorem xb.mono{W aO:World}{S bz:Nat->Prop}{v:aM}{ps:aD}(h:xb W S v ps)(V:bT W S aO bz):xb aO bz v ps:=by obtain⟨ay,c,D,O,B⟩:=h;exact⟨ay,c,D,O.mono V,B⟩
def xb.nil(W:ar)(S:aY):xb W S (.slice none 0 0) []:=⟨none,0,rfl,.inl rfl,eo _⟩
def gR(W:ar)(S:aY):List Value->List fY->Prop
 |[],[]=>True
 |k::a::t::p::r,aH::pd=>k=.int .i64 (aH.k:Nat)/\a=.int .i64 (aH.at_:Nat)/\t=.string aH.t/\xb W S p aH.ps/\gR W S r pd
 |_,_=>False
theorem gR.mono{W aO:World}{S bz:Nat->Prop}(V:bT W S aO bz):∀{cs:aX} {pd:List fY},gR W S cs pd->gR aO bz cs pd
 |[],[],_=>trivial
 |k::a::t::p::r,aH::pd,h=>⟨h.1,h.2.1,h.2.2.1,h.2.2.2.1.mono V,h.2.2.2.2.mono V⟩
 |[],_::_,h=>h.elim
 |[_],_,h=>by cases ‹List fY›<;>exact h.elim
 |[_,_],_,h=>by cases ‹List fY›<;>exact h.elim
 |[_,_,_],_,h=>by cases ‹List fY›<;>exact h.elim
 |_::_::_::_::_,[],h=>h.elim
theorem gR.len{W:ar}{S:aY}:∀{cs:aX} {pd:List fY},gR W S cs pd->cs.length=pd.length*4
 |[],[],_=>rfl
 |k::a::t::p::r,aH::pd,h=>by have:=gR.len h.2.2.2.2;simp only[l9,this];omega
 |[],_::_,h=>h.elim
 |[_],_,h=>by cases ‹List fY›<;>exact h.elim
 |[_,_],_,h=>by cases ‹List fY›<;>exact h.elim
 |[_,_,_],_,h=>by cases ‹List fY›<;>exact h.elim
 |_::_::_::_::_,[],h=>h.elim
def gR.au{W:ar}{S:aY}:∀{cs:aX} {pd:List fY},gR W S cs pd->∀c∈cs,LE.au c=c
 |[],[],_=>λc J=>by cases J
 |k::a::t::p::r,aH::pd,h=>by
  obtain⟨rfl,rfl,rfl,⟨ay,c,rfl,_⟩,bn⟩:=h;have:=gR.au bn;intro x aB;simp only[gG]at aB;rcases aB with rfl|rfl|rfl|rfl|aB
  ·rfl
  ·rfl
  ·rfl
  ·rfl
  ·exact this x aB
 |[],_::_,h=>h.elim
 |[_],_,h=>by cases ‹List fY›<;>exact h.elim
 |[_,_],_,h=>by cases ‹List fY›<;>exact h.elim
 |[_,_,_],_,h=>by cases ‹List fY›<;>exact h.elim
 |_::_::_::_::_,[],h=>h.elim
def gR.add{W:ar}{S:aY}{aH:fY}{p:aM}(hp:xb W S p aH.ps):∀{cs:aX} {pd:List fY},gR W S cs pd->gR W S (cs++[.int .i64 (aH.k:Nat),.int .i64 (aH.at_:Nat),.string aH.t,p]) (pd++[aH])
 |[],[],_=>⟨rfl,rfl,rfl,hp,trivial⟩
 |k::a::t::mf :: r,xc :: pd,h=>⟨h.1,h.2.1,h.2.2.1,h.2.2.2.1,gR.add hp h.2.2.2.2⟩
 |[],_::_,h=>h.elim
 |[_],_,h=>by cases ‹List fY›<;>exact h.elim
 |[_,_],_,h=>by cases ‹List fY›<;>exact h.elim
 |[_,_,_],_,h=>by cases ‹List fY›<;>exact h.elim
 |_::_::_::_::_,[],h=>h.elim
def Yh(pd:List fY):lr where
 Φ:=λcs W S=>gR W S cs pd
 mono:=λV h=>h.mono V
def Yi(ps:aD):lr where
 Φ:=λcs W S=>∃v,cs=[v]/\xb W S v ps
 mono:=λV ⟨v,D,O⟩=>⟨v,D,O.mono V⟩
def sR(q:di)(σ:b6)(cs az:aX)(m:Nat)(b2:Int):List br:=[.val (.slice (some ⟨q.b,q.o,none⟩) q.L.length q.c),(q.L.length-σ.r.length:Nat),σ.op,σ.a8,σ.at_,.row 181 4 σ.aH.length cs,.row 123 3 m az,b2]
def HQ(q:di)(σ:b6)(az:aX)(m:Nat)(b2:Int):List hZ:=[.eg (.val (.slice (some ⟨q.b,q.o,none⟩) q.L.length q.c)),.eg (.val (.int .i64 (q.L.length-σ.r.length:Nat))),.eg (.val (.int .i64 σ.op)),.eg (.val (.int .i64 σ.a8)),.eg (.val (.int .i64 (σ.at_:Nat))),.D3 181 4 σ.aH.length (σ.aH.length*4),.eg (.row 123 3 m az),.eg (.val (.int .i64 b2))]
theorem xd(q:di)(σ:b6)(cs az:aX)(m:Nat)(b2:Int):px cs (HQ q σ az m b2)=sR q σ cs az m b2:=rfl
def xe{S:aY}{m:Nat}{b2:Int}(h:gR W S cs σ.aH):IU cs (HQ q σ az m b2):=by
 refine .inr ⟨λx aB=>?_,h.au⟩;simp only[HQ,gG,tS,uX]at aB;rcases aB with rfl|rfl|rfl|rfl|rfl|rfl|rfl|rfl
 ·trivial
 ·trivial
 ·trivial
 ·trivial
 ·trivial
 ·exact h.len
 ·trivial
 ·trivial
def b6.st(q:di)(σ:b6)(W:ar)(S:aY):Prop:=q.st W S σ.r/\(-(q.L.length-σ.r.length:Int)<=σ.op/\σ.op<=64)/\q.L.length<=100000
theorem b6.st.mono{W aO:World}{S bz:Nat->Prop}(h:σ.st q W S)(V:bT W S aO bz):σ.st q aO bz := ⟨h.1.oF V,h.2⟩
def Fb{S:aY}{b o:Nat}{L r:List bH}(h:b0 W S (some ⟨b,o,none⟩) (iH L))(aI:r <:+ L)(eL:r≠[]):
  W.cell? ⟨b,o+(L.length-r.length)*3,none⟩=some (.int .i64 (aF r).1)/\W.cell? ⟨b,o+(L.length-r.length)*3+1,none⟩=some (.int .i64 ((aF r).2.1:Nat))/\W.cell? ⟨b,o+(L.length-r.length)*3+2,none⟩=some (.string (aF r).2.2):=by
 rw[Nat.mul_comm];exact W7 h aI eL
def b6.st.Yj{w:ar}(h:σ.st q w (Out fp)):¬q.b∈fp:=by
 obtain⟨⟨D,O,B⟩,_⟩:=h;have aN:=B.pos;have hle:=O.length_le;rcases D.1 with h|⟨p6,u7,he,aB⟩
 ·have:=ER q.L;rw[h]at this;simp at this;omega
 ·cases he;exact(aB 0 (by rw[ER];omega)).1
def vS:=(I ez @sR.eq_1)
def azW(q:di)(σ:b6)(cs az:aX)(m:Nat)(b2:Int)(e:Int)(u:aM)(fp:aD)(w:ar)(z:σ.st q w (Out fp))(H:eH w u fp 178 (sR q σ cs az m b2))(ax:∀b∈fp,b<w.heap.size) :
  Calls Tryz.prog 87 (#[u]++#[.int .i64 e]) w λx M=>h0 w u fp 178 x M (.ret (.int .i64 0) (sR q (hB e σ) cs az m b2)):=by
 have jv:=z.Yj;obtain⟨⟨D,O,B⟩,_⟩:=z;obtain⟨ee,fh,gO⟩:=Fb D.1 O B.ne;refine jP (nt:=28) [.tmp 4] H ax Tryz.func87 ?_;refine dL aa vS ?_;have sd:=O.length_le;have kS:=B.pos;refine bC vS ?_ ?_<;>intro J
 ·have he:σ.a8=0:=aC J
  rw[hB,al he];refine aA aa vS ?_;refine iP aa (I vS fh) ?_ ?_
  ·exact⟨U,jv⟩
  refine aA aa vS ?_;refine bf vS ?_;exact eC (I vS @bQ)
 have he:¬σ.a8=0:=aC J
 rw[hB,ab he];refine bk aa vS ?_;refine bf vS ?_;exact eC (I vS @bQ)
abbrev Sm (q:di)(σ:b6)(cs az:aX)(m:Nat)(b2:Int):iO Tryz.prog 87 where
 T:=178
 pre:=λW bs fs aj=>(fs=sR q σ cs az m b2/\∃c,aj=[.val (.int .i64 c)])/\σ.st q W (Out bs)
 out:=λW fs aj=>match aj with
  |[.val (.int _ c)]=>.ret (.int .i64 0) (sR q (hB c σ) cs az m b2)
  |_=>.b7 [] undef
 enters:=Tryz.call87
 ok:=by
  intro W w bs u fp us fs aj ad H ax fi hu hp;obtain⟨⟨rfl,c,rfl⟩,D⟩:=hp
  match us,hu with
  |[x],hu=>obtain⟨rfl,_⟩:=hu;exact azW q σ cs az m b2 c u fp w (D.mono λb Z V=>⟨ad.block b Z V,λdO=>(fi b dO).elim (λg=>absurd g (rG.2 Z)) V⟩) H ax
def azX{w:ar}{u:aM}{m:Nat}{b2:Int}(h:eH w u fp 178 (sR q σ cs az m b2)):
  ∃b,u=.pointer (some ⟨b,0,none⟩)/\w.cell? ⟨b,0,none⟩=some (.slice (some ⟨q.b,q.o,none⟩) q.L.length q.c)/\w.cell? ⟨b,0+1,none⟩=some (.int .i64 (q.L.length-σ.r.length:Nat))/\w.cell? ⟨b,0+3,none⟩=some (.int .i64 σ.a8):=by
 obtain⟨b,us,D,O,B⟩:=Qb h
 match us,O with
 |[dw,ee,fh,gO,Hp,Kz,Sn,So],O=>obtain⟨rfl,rfl,rfl,rfl,_⟩:=O;exact⟨b,D,B 0 bq,B 1 bq,B 3 bq⟩
def azY(q:di)(σ:b6)(mk:ao)(b:Nat)(w:ar)(z:σ.st q w (Out []))(g0:w.cell? ⟨b,0,none⟩=some (.slice (some ⟨q.b,q.o,none⟩) q.L.length q.c))(g1:w.cell? ⟨b,0+1,none⟩=some (.int .i64 (q.L.length-σ.r.length:Nat)))(g3:w.cell? ⟨b,0+3,none⟩=some (.int .i64 σ.a8)) :
  cQ 145 #[.pointer (some ⟨b,0,none⟩),mk] w (.bool (lb mk σ)):=by
 have jv:=z.Yj;obtain⟨⟨D,O,B⟩,_⟩:=z;obtain⟨ee,fh,gO⟩:=Fb D.1 O B.ne;have sd:=O.length_le;have kS:=B.pos;refine cB (nt:=39) [.tmp 4] Tryz.func145 ?_;refine aA aa vS ?_;refine dh aa (eI vS g0 g1 g3 ee gO) ?_ ?_
 ·exact⟨λ_=>by omega,λ_=>by omega⟩
 refine bf vS ?_;intro E;unfold lb dI;rw[<- Bool.and_assoc];rfl
abbrev Sp (q:di)(σ:b6)(cs az:aX)(m:Nat)(b2:Int):y1 Tryz.prog 145 where
 T:=178
 pre:=λW bs fs aj=>(fs=sR q σ cs az m b2/\∃mk,aj=[.val (.string mk)])/\σ.st q W (Out bs)
 res:=λW fs aj=>match aj with
  |[.val (.string mk)]=>.bool (lb mk σ)
  |_=>undef
 enters:=Tryz.call145
 ok:=by
  intro W w bs u fp us fs aj ad H hu hp;obtain⟨⟨rfl,mk,rfl⟩,D⟩:=hp
  match us,hu with
  |[x],hu=>obtain⟨rfl,_⟩:=hu;obtain⟨b,rfl,g0,g1,g3⟩:=azX H;exact azY q σ mk b w (D.mono λb Z V=>⟨ad.block b Z V,by simp[Out]⟩) g0 g1 g3
section
variable (q:di)(σ:b6)(cs az:aX)(m:Nat)(b2:Int)
abbrev Yk:Env Tryz.prog:=a7 ((Sm q σ cs az m b2).spec) (a7 ((Sp q σ cs az m b2).spec) aa)
end
theorem b6.st.next{q:di}{σ:b6}{W:ar}{S:aY}(h:σ.st q W S)(ad:(aF σ.r).1≠0):(bI σ).st q W S/\(q.L.length-(bI σ).r.length=q.L.length-σ.r.length+1)/\0<σ.r.length/\σ.r.length<=q.L.length:=by
 obtain⟨⟨D,O,B⟩,⟨aU,bn⟩,cA⟩:=h;have aE:=Left.next B ad
 have hle:=O.length_le;have kS:=B.pos;have aV:=FC (l:=σ.r);have aI:(bI σ).r=σ.r.tail:=rfl;have H:(bI σ).op=σ.op:=rfl;refine⟨⟨⟨D,aE.2.1.trans O,aE.1⟩,⟨?_,?_⟩,cA⟩,?_,kS,hle⟩
 ·rw[H,aI];omega
 ·rw[H];exact bn
 ·rw[aI];omega
def Sq{m:ao}(h:lb m σ=true):(aF σ.r).1≠0/\σ.a8=0:=by unfold lb dI at h;simp at h;omega
def nc:=(aT vS @Sm.eq_1 @Sp.eq_1)
def azZ(q:di)(σ:b6)(cs az:aX)(m:Nat)(b2:Int)(mk:ao)(u:aM)(fp:aD)(w:ar)(z:σ.st q w (Out fp))(H:eH w u fp 178 (sR q σ cs az m b2))(ax:∀b∈fp,b<w.heap.size) :
  Calls Tryz.prog 88 (#[u]++#[.string mk]) w λx M=>h0 w u fp 178 x M (.ret (.tuple #[]) (sR q (cJ mk σ) cs az m b2)):=by
 refine jP (nt:=57) [] H ax Tryz.func88 ?_;refine ae.seq ?_;refine aL (Yk q σ cs az m b2) nc ?_ ?_
 ·exact⟨aq,⟨_,rfl⟩,z⟩
 refine bC nc ?_ ?_<;>intro J
 ·have hm:¬lb mk σ=true:=aC J
  rw[cJ,ab hm];refine aL (Yk q σ cs az m b2) nc ?_ ?_
  ·exact⟨⟨⟨_,rfl⟩,z⟩,aq,λ_ h=>h.elim⟩
  refine bf nc ?_;exact eC (I nc @bQ)
 have hm:lb mk σ=true:=aC J
 clear J;obtain⟨ad,he⟩:=Sq hm;obtain⟨ek,dE,eY,n3⟩:=z.next ad
 obtain⟨eh,lU⟩:=z.2.1;have eX:=z.2.2;have fS:=iv (((q.L.length-σ.r.length:Nat):Int)+1) ((q.L.length-(bI σ).r.length:Nat):Int);have iF:=iv (((q.L.length-(bI σ).r.length:Nat):Int)-1) ((q.L.length-σ.r.length:Nat):Int)
 have w0:=dv (σ.op+1);have wp:=dv (σ.op-1);rw[cJ,al hm];refine dL aa (I nc fS) ?_;refine aR aa nc ?_ ?_<;>intro J
 ·have D:mk=er\/mk=gx:=by simpa [er,gx] using J
  clear J;rw[al D];refine ae.seq ?_;refine aR aa nc ?_ ?_<;>intro J
  ·have O:σ.op=64:=aC J
   rw[al O];refine aA aa (I nc iF) ?_;refine aL (Yk q σ cs az m b2) nc ?_ ?_
   ·exact⟨⟨⟨_,rfl⟩,z⟩,aq,λ_ h=>h.elim⟩
   refine bf nc ?_;exact eC (I nc @bQ)
  have O:¬σ.op=64:=aC J
  clear J;rw[ab O];refine a1 ?_;refine bY aa (I nc w0) ?_;have B:¬(mk=fG\/mk=jD):=by intro h;rcases D with rfl|rfl<;>rcases h with h|h<;>exact absurd h aq
  refine aR aa nc ?_ ?_<;>intro J
  ·exact absurd (by simpa [fG,jD] using J) B
  refine a1 ?_;refine jQ nc ?_;exact eC (I nc @bQ)
 have D:¬(mk=er\/mk=gx):=by simp[er,gx]at J ⊢;exact J
 clear J;rw[ab D];refine a1 ?_;refine aR aa nc ?_ ?_<;>intro J
 ·have B:mk=fG\/mk=jD:=by simpa [fG,jD] using J
  rw[al B];refine bY aa (I nc wp) ?_;refine jQ nc ?_;exact eC (I nc @bQ)
 have B:¬(mk=fG\/mk=jD):=by simp[fG,jD]at J ⊢;exact J
 rw[ab B];refine a1 ?_;refine jQ nc ?_;exact eC (I nc @bQ)
abbrev ah5 (q:di)(σ:b6)(cs az:aX)(m:Nat)(b2:Int):iO Tryz.prog 88 where
 T:=178
 pre:=λW bs fs aj=>(fs=sR q σ cs az m b2/\∃mk,aj=[.val (.string mk)])/\σ.st q W (Out bs)
 out:=λW fs aj=>match aj with
  |[.val (.string mk)]=>.ret (.tuple #[]) (sR q (cJ mk σ) cs az m b2)
  |_=>.b7 [] undef
 enters:=Tryz.call88
 ok:=by
  intro W w bs u fp us fs aj ad H ax fi hu hp;obtain⟨⟨rfl,mk,rfl⟩,D⟩:=hp
  match us,hu with
  |[x],hu=>obtain⟨rfl,_⟩:=hu;exact azZ q σ cs az m b2 mk u fp w (D.mono λb Z V=>⟨ad.block b Z V,λdO=>(fi b dO).elim (λg=>absurd g (rG.2 Z)) V⟩) H ax
def ah6(k a:Nat)(t:ao)(ps:aD)(σ:b6):(kf k a t ps σ).aH.length=σ.aH.length+1:=by simp[kf]
def az0(q:di)(σ:b6)(cs az:aX)(m:Nat)(b2:Int)(k a:Nat)(t:ao)(ps:aD)(pv:aM)(u:aM)(fp:aD)(w:ar)(S:aY)(su:gR w S cs σ.aH)(D1:xb w S pv ps)(hlen:σ.aH.length<1000000)(H:eH w u fp 178 (sR q σ cs az m b2))(ax:∀b∈fp,b<w.heap.size)(bp:∀b∈fp,¬S b) :
  Calls Tryz.prog 148 (#[u]++#[.int .i64 (k:Nat),.int .i64 (a:Nat),.string t,pv]) w λx M=>sx w S u fp 178 x M (.fact (b5.sv (.int .i64 (σ.aH.length:Nat))) (Yh (kf k a t ps σ).aH) (HQ q (kf k a t ps σ) az m b2)):=by
 have ah7:=(su.add (aH:=⟨k,a,t,ps⟩) D1).mono (aP.ep w S fp bp);obtain⟨ay,c,rfl,Eg,aEu⟩:=D1;have wn:=iv (((σ.aH.length+1:Nat):Int)-1) ((σ.aH.length:Nat):Int);refine nm (nt:=34) S [.tmp 10] H ax Tryz.func148 ?_;refine aA aa nc ?_;refine aL aa nc ?_ ?_
 ·exact⟨by unfold maxLen;omega,U⟩
 refine aA aa (I nc wn) ?_;refine bf (eI nc @bZ.eq_1 @bZ.eq_2 @bZ.eq_3 @xd @ah6) ?_;refine⟨cs++[.int .i64 (k:Nat),.int .i64 (a:Nat),.string t,.slice ay ps.length c],⟨λE=>rfl,xe (by exact ah7),by exact ah7⟩,_,_,rfl,(aJ (b3 nc @oz @bQ @ah6)),aq⟩
abbrev ah8 (q:di)(σ:b6)(cs az:aX)(m:Nat)(b2:Int)(k a:Nat)(t:ao)(ps:aD):vl Tryz.prog 148 where
 T:=178
 kinds:=[none,none,none,some (b5.one,Yi ps)]
 pre:=λfs aj W S=>(fs=sR q σ cs az m b2/\aj=[.val (.int .i64 (k:Nat)),.val (.int .i64 (a:Nat)),.val (.string t),.val undef])/\gR W S cs σ.aH/\σ.aH.length<1000000
 gA:=λ_ _ _ _ _ _ V h=>⟨h.1,h.2.1.mono V,h.2.2⟩
 dC:=λ_ _ _=>True
 rT:=λ_ _ _ _ _ _ _=>trivial
 out:=λfs aj=>.fact (b5.sv (.int .i64 (σ.aH.length:Nat))) (Yh (kf k a t ps σ).aH) (HQ q (kf k a t ps σ) az m b2)
 enters:=Tryz.call148
 ok:=by
  intro w S u fp us fs aj H ax bp aK hp _ _;obtain⟨⟨rfl,rfl⟩,D,O⟩:=hp
  match us,aK with
  |[x,y,aE7,v],aK=>
   obtain⟨rfl,rfl,rfl,⟨q7,rfl,eT,rfl,au⟩,_⟩:=aK;have he:b5.one.val [eT]=eT:=by obtain⟨ay,c,rfl,_⟩:=au;rfl
   rw[he];exact az0 q σ cs az m b2 k a t ps eT u fp w S D au O H ax bp
def Of(ps:aD):ab3 (Yi ps) ps.length (ps.map λi=>.int .i64 (i:Nat)):=λW S ay c h J=>⟨_,rfl,ay,c,rfl,h,J⟩
end
section
open Go Go.RowKit Go.LE
variable{σ:b6}{m:ao}{n a:Nat}
abbrev ld:=b6->Nat×b6
def yw(k a:Nat)(t:ao)(ps:aD)(σ:b6):Nat×b6:=(σ.aH.length,kf k a t ps σ)
def uG(sub:ld):Nat->Nat->List Nat->b6->List Nat×b6
 |0,_,ps,σ=>(ps,σ)
 |n+1,k,ps,σ=>
  if σ.a8=0 then
   let p:=sub (if 0<k then cJ mB σ else σ)
   uG sub n (k+1) (ps++[p.1]) p.2
  else(ps,σ)
def Og(sub:ld)(σ:b6):Nat×b6:=
 let p:=uG sub (ed (aF σ.r).2.2).toNat 0 [] (cJ er (bI σ))
 yw 4 (aF σ.r).2.1 (aF σ.r).2.2 p.1 (cJ fG p.2)
def HR(sub:ld)(σ:b6):Nat×b6:=
 if ed (aF σ.r).2.2<0 then(0,hB 60 σ)
 else if ed (aF σ.r).2.2=0 then yw 1 (aF σ.r).2.1 (aF σ.r).2.2 [] (bI σ)
 else Og sub σ
def Sr(sub:ld)(σ:b6):Nat×b6:=
 let p:=sub (cJ er σ)
 (p.1,cJ fG p.2)
def Ss(sub:ld)(σ:b6):Nat×b6:=
 let p:=sub (cJ gx σ)
 yw 5 (aF σ.r).2.1 ⟨#[]⟩ [p.1] (cJ jD p.2)
def lf(sub:ld)(σ:b6):Nat×b6:=
 if σ.a8=0 then
  if(aF σ.r).1=2 then yw 2 (aF σ.r).2.1 (aF σ.r).2.2 [] (bI σ)
  else if(aF σ.r).1=3 then yw 3 (aF σ.r).2.1 (aF σ.r).2.2 [] (bI σ)
  else if(aF σ.r).1=1 then HR sub σ
  else if lb er σ=true then Sr sub σ
  else if lb gx σ=true then Ss sub σ
  else(0,hB 60 σ)
 else(0,σ)
def yx:Nat->Nat->b6->Nat×b6
 |0,a,σ=>(a,σ)
 |n+1,a,σ=>
  if((lb ny σ||lb pK σ)||lb Hq σ)=true then yx n σ.aH.length (bI (kf 6 (aF σ.r).2.1 (aF σ.r).2.2 [a] σ))
  else(a,σ)
def qT(sub:ld)(σ:b6):Nat×b6:=yx (lf sub σ).2.r.length (lf sub σ).1 (lf sub σ).2
def xf(sub:Int->ld)(jJ:Int):Nat->Nat->b6->Nat×b6
 |0,a,σ=>(a,σ)
 |n+1,a,σ=>
  if σ.a8=0/\(aF σ.r).1=4/\¬jo (aF σ.r).2.2<jJ then
   let p:=sub (jo (aF σ.r).2.2+1) (bI σ)
   xf sub jJ n p.2.aH.length (kf 7 (aF σ.r).2.1 (aF σ.r).2.2 [a,p.1] p.2)
  else(a,σ)
def hD:Nat->Int->ld
 |0,_,σ=>(0,σ)
 |n+1,jJ,σ=>xf (hD n) jJ (qT (hD n 0) σ).2.r.length (qT (hD n 0) σ).1 (qT (hD n 0) σ).2
theorem St(h:¬σ.a8=0):lb m σ=false:=by unfold lb;rw[yJ h];rfl
theorem ah9(h:¬σ.a8=0):yx n a σ=(a,σ):=by
 cases n with
 |zero=>rfl
 |succ n=>rw[yx,St h,St h,St h];rfl
theorem Su{sub:Int->ld}{jJ:Int}(h:¬σ.a8=0):xf sub jJ n a σ=(a,σ):=by
 cases n with
 |zero=>rfl
 |succ n=>rw[xf,ab (λg=>h g.1)]
def Yl{sub:ld}(h:¬σ.a8=0):qT sub σ=(0,σ):=by
 have:lf sub σ=(0,σ):=by rw[lf,ab h]
 rw[qT,this];exact ah9 h
def Oh{jJ:Int}(h:¬σ.a8=0):hD n jJ σ=(0,σ):=by
 cases n with
 |zero=>rfl
 |succ n=>rw[hD,Yl h];exact Su h
def By(σ:b6):Int:=(σ.aH.length+σ.r.length:Nat)-(if σ.a8=0 then 0 else 1)
structure cX (σ cd:b6)(d:Int):Prop where
 fo:ij cd.r
 pT:cd.r <:+ σ.r
 ND:σ.op-(σ.r.length-cd.r.length:Int)<=cd.op
 Sv:σ.op<=64->cd.op<=64
 KA:By cd <= By σ+d
theorem cX.refl(h:ij σ.r):cX σ σ 0:=⟨h,FB _,U,id,U⟩
theorem cX.trans{a b c:b6}{d e:Int}(h:cX a b d)(g:cX b c e):cX a c (d+e):=by have D:=h.ND;have O:=g.ND;have B:=h.KA;have aU:=g.KA;exact⟨g.fo,g.pT.trans h.pT,U,λx=>g.Sv (h.Sv x),U⟩
def cX.le{a b:b6}{d e:Int}(h:cX a b d)(ak:d<=e):cX a b e:=⟨h.fo,h.pT,h.ND,h.Sv,by have:=h.KA;omega⟩
def cX.fail(e:Int)(he:e≠0)(h:ij σ.r):cX σ (hB e σ) 0:=by
 unfold hB;split
 ·rename_i A;refine⟨h,FB _,bq,id,?_⟩;unfold By;rw[ab he,al A];simp only;omega
 ·exact cX.refl h
def cX.az1(e:Int)(he:e≠0)(h:ij σ.r)(A:σ.a8=0):cX σ (hB e σ) (-1):=by rw[hB,al A];refine⟨h,FB _,bq,id,?_⟩;unfold By;rw[ab he,al A];simp only;omega
theorem cX.next{σ:b6}(h:ij σ.r)(ad:(aF σ.r).1≠0):cX σ (bI σ) (-1):=by
 have aE:=Left.next h ad
 have aV:=FC (l:=σ.r);have hp:=h.pos;refine⟨aE.1,aE.2.1,?_,id,?_⟩
 ·show σ.op-(σ.r.length-σ.r.tail.length:Int)<=σ.op;omega
 ·unfold By bI;simp only;omega
def cX.add{k a:Nat}{t:ao}{ps:aD}(h:ij σ.r):cX σ (kf k a t ps σ) 1:=by refine⟨h,FB _,by simp[kf],id,?_⟩;unfold By kf;simp only[ec,sX];omega
def cX.aia{v:Int}(h:ij σ.r)(ad:(aF σ.r).1≠0)(D:σ.op-1<=v)(O:σ.op<=64->v<=64):cX σ { bI σ with op:=v } (-1):=by
 have aE:=cX.next h ad
 have aV:=FC (l:=σ.r);have hp:=h.pos;refine⟨aE.fo,aE.pT,?_,O,aE.KA⟩;show σ.op-(σ.r.length-σ.r.tail.length:Int)<=v;omega
def cX.Oi(h:ij σ.r)(hm:lb m σ=true):cX σ (cJ m σ) (-1):=by
 obtain⟨ad,he⟩:=Sq hm;rw[cJ,al hm];split
 ·split
  ·exact cX.az1 23 aq h he
  ·exact cX.aia h ad U (λg=>by omega)
 ·split
  ·exact cX.aia h ad U (λg=>by omega)
  ·exact cX.next h ad
def cX.want(h:ij σ.r):cX σ (cJ m σ) 0:=by
 by_cases hm:lb m σ=true
 ·exact(cX.Oi h hm).le U
 ·rw[cJ,ab hm];exact cX.fail 60 aq h
def gn(f:ld):Prop:=∀σ,ij σ.r->cX σ (f σ).2 0
def gn.args{sub:ld}(V:gn sub):∀(n k:Nat) (ps:aD) (σ:b6),ij σ.r->cX σ (uG sub n k ps σ).2 0
 |0,k,ps,σ,h=>cX.refl h
 |n+1,k,ps,σ,h=>by
  rw[uG];split
  ·have D:cX σ (if 0<k then cJ mB σ else σ) 0:=by
    split
    ·exact cX.want h
    ·exact cX.refl h
   have O:=V _ D.fo;have B:=gn.args V n (k+1) (ps++[(sub (if 0<k then cJ mB σ else σ)).1]) _ O.fo;exact((D.trans O).trans B).le U
  ·exact cX.refl h
def gn.atom{sub:ld}(V:gn sub):gn (lf sub):=by
 intro σ h;unfold lf;split
 rotate_left
 ·exact cX.refl h
 rename_i he;split
 ·rename_i ad;have D:=cX.next h U
  exact(D.trans (cX.add D.fo)).le U
 split
 ·rename_i ad;have D:=cX.next h U
  exact(D.trans (cX.add D.fo)).le U
 split
 ·rename_i ad;unfold HR;split
  ·exact cX.fail 60 aq h
  have D:=cX.next h U
  split
  ·exact(D.trans (cX.add D.fo)).le U
  ·have O:=D.trans (cX.want (m:=er) D.fo);have B:=O.trans (gn.args V (ed (aF σ.r).2.2).toNat 0 [] _ O.fo);have aU:=B.trans (cX.want (m:=fG) B.fo);exact(aU.trans (cX.add aU.fo)).le U
 split
 ·rename_i hm;have D:=cX.Oi h hm;have O:=D.trans (V _ D.fo);exact(O.trans (cX.want (m:=fG) O.fo)).le U
 split
 ·rename_i hm;have D:=cX.Oi h hm;have O:=D.trans (V _ D.fo);have B:=O.trans (cX.want (m:=jD) O.fo);exact(B.trans (cX.add B.fo)).le U
 ·exact cX.fail 60 aq h
def gn.pop:∀(n a:Nat) (σ:b6),ij σ.r->cX σ (yx n a σ).2 0
 |0,a,σ,h=>cX.refl h
 |n+1,a,σ,h=>by
  rw[yx];split
  ·rename_i hm;have ad:(aF σ.r).1≠0:=by
    simp only[wa]at hm;rcases hm with(hm|hm)|hm<;>exact(Sq hm).1
   have D:=cX.add (k:=6) (a:=(aF σ.r).2.1) (t:=(aF σ.r).2.2) (ps:=[a]) h;have O:=D.trans (cX.next D.fo ad);exact(O.trans (gn.pop n _ _ O.fo)).le U
  ·exact cX.refl h
def gn.post{sub:ld}(V:gn sub):gn (qT sub):=λσ h=>by have D:=gn.atom V σ h;exact(D.trans (gn.pop _ _ _ D.fo)).le U
def gn.aib{sub:Int->ld}(V:∀k,gn (sub k))(jJ:Int):∀(n a:Nat) (σ:b6),ij σ.r->cX σ (xf sub jJ n a σ).2 0
 |0,a,σ,h=>cX.refl h
 |n+1,a,σ,h=>by
  rw[xf];split
  ·rename_i hm;have D:=cX.next h U
   have O:=D.trans (V (jo (aF σ.r).2.2+1) _ D.fo);have B:=O.trans (cX.add (k:=7) (a:=(aF σ.r).2.1) (t:=(aF σ.r).2.2) (ps:=[a,(sub (jo (aF σ.r).2.2+1) (bI σ)).1]) O.fo);exact(B.trans (gn.aib V jJ n _ _ B.fo)).le U
  ·exact cX.refl h
def gn.qb:∀(n:Nat) (jJ:Int),gn (hD n jJ)
 |0,jJ=>λσ h=>cX.refl h
 |n+1,jJ=>λσ h=>by have D:=gn.post (gn.qb n 0) σ h;exact(D.trans (gn.aib (gn.qb n) jJ _ _ _ D.fo)).le U
def b6.ok(q:di)(σ:b6)(W:ar)(S:aY):Prop:=σ.st q W S/\By σ<=q.L.length
theorem b6.ok.mono{q:di}{σ:b6}{W aO:World}{S bz:Nat->Prop}(h:σ.ok q W S)(V:bT W S aO bz):σ.ok q aO bz := ⟨h.1.mono V,h.2⟩
def b6.ok.lt{q:di}{W:ar}{S:aY}(h:σ.ok q W S):σ.aH.length<1000000:=by have D:=h.2;have O:=h.1.2.2;unfold By at D;split at D<;>omega
def b6.st.mG{q:di}{σ cd:b6}{W:ar}{S:aY}{d:Int}(h:σ.st q W S)(g:cX σ cd d):cd.st q W S:=by obtain⟨⟨D,O,B⟩,⟨aU,bn⟩,cA⟩:=h;have mP:=O.length_le;have lT:=g.pT.length_le;have:=g.ND;exact⟨⟨D,g.pT.trans O,g.fo⟩,⟨U,g.Sv bn⟩,cA⟩
def b6.ok.mG{q:di}{σ cd:b6}{W:ar}{S:aY}{d:Int}(h:σ.ok q W S)(g:cX σ cd d)(ak:d<=0):cd.ok q W S:=⟨h.1.mG g,by have:=h.2;have:=g.KA;omega⟩
end
section
open Go Go.RowKit Go.LE
set_option maxRecDepth 10000
variable{W:ar}{cs:aX}{bs:aD}(s:ao)
def Ym(q:di)(p:Nat×b6)(az:aX)(m:Nat)(b2:Int):j7:=.fact (b5.sv (.int .i64 (p.1:Nat))) (Yh p.2.aH) (HQ q p.2 az m b2)
def vT(f:dr)(args:aX)(F:ld)(P:b6->Prop):Prop:=∀(q:di) (σ:b6) (cs az:aX) (m:Nat) (b2:Int) (u:aM) (fp:aD) (w:ar) (S:aY),P σ->σ.ok q w S->gR w S cs σ.aH->eH w u fp 178 (sR q σ cs az m b2)->(∀b∈fp,b<w.heap.size)->(∀b∈fp,¬S b) ->
 Calls Tryz.prog f (#[u]++args.toArray) w λx M=>sx w S u fp 178 x M (Ym q (F σ) az m b2)
def Oj:List Value->List sw
 |[]=>[]
 |_::r=>none::Oj r
def Ok:List Value->List br
 |[]=>[]
 |v::r=>.val v::Ok r
def aic{w:ar}{S:aY}:∀{args us:aX},Cm w S (Oj args) us (Ok args)->us=args
 |[],[],_=>rfl
 |a::r,u::us,h=>by obtain⟨D,O⟩:=h;rw[aic O];exact fZ (·::r) D
 |[],_::_,h=>h.elim
 |_::_,[],h=>h.elim
abbrev Sw (f:dr)(args:aX)(F:ld)(P:b6->Prop)(he:∀args w,(callFunc f args).run Tryz.prog w=.ok (.enter f args) w)(h:vT f args F P)(q:di)(σ:b6)(cs az:aX)(m:Nat)(b2:Int):vl Tryz.prog f where
 T:=178
 kinds:=Oj args
 pre:=λfs aj W S=>(fs=sR q σ cs az m b2/\aj=Ok args)/\(P σ/\σ.ok q W S)/\gR W S cs σ.aH
 gA:=λ_ _ _ _ _ _ V h=>⟨h.1,⟨h.2.1.1,h.2.1.2.mono V⟩,h.2.2.mono V⟩
 dC:=λ_ _ _=>True
 rT:=λ_ _ _ _ _ _ _=>trivial
 out:=λfs aj=>Ym q (F σ) az m b2
 enters:=he
 ok:=by intro w S u fp us fs aj H ax bp aK hp _ _;obtain⟨⟨rfl,rfl⟩,⟨D,O⟩,B⟩:=hp;rw[aic aK];have:=h q σ cs az m b2 u fp w S D O B H ax bp;simpa using this
def n2(N:Nat)(σ:b6):Prop:=σ.a8=0->σ.r.length<=N
section
variable (G:aY)(q:di)(σ:b6)(cs az:aX)(m:Nat)(b2:Int)
abbrev se:Env Tryz.prog:=a7 Yf.spec (a7 ((Sm q σ cs az m b2).spec) (a7 ((ah5 q σ cs az m b2).spec) (a7 ((Sp q σ cs az m b2).spec) aa)))
abbrev HS(k a:Nat)(t:ao)(ps:aD):Env Tryz.prog:=a7 ((ah8 q σ cs az m b2 k a t ps).spec G) aa
abbrev KB(v:Int)(F:ld)(P:b6->Prop)(h:vT 89 [.int .i64 v] F P):Env Tryz.prog:=a7 ((Sw 89 [.int .i64 v] F P Tryz.call89 h q σ cs az m b2).spec G) aa
end
def KC(e:Int)(σ:b6):(hB e σ).aH=σ.aH:=by unfold hB;split<;>rfl
def aid(e:Int)(σ:b6):(hB e σ).aH.length=σ.aH.length:=by rw[KC]
def yy(k:ao)(σ:b6):(cJ k σ).aH=σ.aH:=by
 unfold cJ
 repeat' split
 all_goals first|rfl|exact KC _ _
def b6.st.out{q:di}{σ:b6}{w:ar}{G:aY}(h:σ.st q w (bw G bs)):σ.st q w (Out bs):=h.mono λb _ Z=>⟨rfl,Z.2⟩
def b6.st.KD{q:di}{σ:b6}{w:ar}{G:aY}(h:σ.st q w (bw G bs)):¬q.b∈bs:=(h.mono λb _ Z=>⟨rfl,Z.2⟩:σ.st q w (Out bs)).Yj
def uH{K:Nat}{aH:List fY}{S:aY}(h:gR W S cs aH):nk K (nj cs) (AJ K (aH.length*4))=cs.map .v:=by rw[<- h.len];exact afF h.au
def uI(ps:aD):List Value:=ps.map λi=>.int .i64 (i:Nat)
structure Yn where
 W:World
 bs:List Nat
 cs:List Value
 ps:List Nat
 σ:b6
 k:Nat
 n:Nat
def Yo:=(aT (ch ez @w2 @yj @b5.sv.eq_1 @Sm.eq_1 @ah5.eq_1 @Sp.eq_1 @ah8.eq_1) (ch @Sw.eq_1 @Oj.eq_1 @Oj.eq_2 @Ok.eq_1 @Ok.eq_2 @azU @azV @sR.eq_1) (I @HQ.eq_1 @Ym.eq_1))
def et:=Yo
def aie(sub:ld)(aZ:gn sub)(N:Nat)(cb:N≠0->vT 89 [.int .i64 0] sub (n2 (N-1))):vT 200 [] (lf sub) (n2 N):=by
 intro q σ cs az m b2 u fp w S lQ bW su H ax bp;have cf:=aP.up w S fp;have kO:=bW.mono (aP.ep w S fp bp);have vU:=su.mono (aP.ep w S fp bp);have jv:=kO.1.KD;obtain⟨⟨D,O,B⟩,_⟩:=kO.1;obtain⟨ee,fh,gO⟩:=Fb D.1 O B.ne;have sd:=O.length_le;have kS:=B.pos
 refine nm (nt:=138) S [.tmp 2] H ax Tryz.func200 ?_;refine bk aa et ?_;refine aR aa et ?_ ?_<;>intro J
 ·have he:¬σ.a8=0:=aC J
  have bo:lf sub σ=(0,σ):=by rw[lf,ab he]
  rw[bo];refine aA aa et ?_;refine bf (de et @bZ.eq_1 @bZ.eq_2 @bZ.eq_3 @xd) ?_;exact⟨cs,⟨λE=>rfl,xe (by exact vU),by exact vU⟩,_,_,rfl,(aJ (I et @bQ)),aq⟩
 have he:σ.a8=0:=aC J
 clear J;have hle:=lQ he;have db:N≠0:=U;have cb:=cb db;refine a1 ?_;refine dh aa (b3 et ee fh gO) ?_ ?_
 ·exact⟨U,jv⟩
 refine ae.seq ?_;refine aR aa et ?_ ?_<;>intro J
 ·have ad:(aF σ.r).1=2:=aC J
  have bo:lf sub σ=yw 2 (aF σ.r).2.1 (aF σ.r).2.2 [] (bI σ):=by rw[lf,al he,al ad]
  rw[bo];obtain⟨ek,dE,eY,n3⟩:=kO.1.next U
  have qR:=kO.mG (cX.next kO.1.1.2.2 U) U;have fS:IntKind.i64.wrap (((q.L.length-σ.r.length:Nat):Int)+1)=((q.L.length-(bI σ).r.length:Nat):Int):=by have:=kO.1.2.2;rw[gb U U];omega
  refine aA aa (I et fS) ?_;refine aL (HS (aP w S fp) q (bI σ) cs az m b2 2 (aF σ.r).2.1 (aF σ.r).2.2 []) et ?_ ?_
  ·exact⟨⟨⟨[_],rfl,_,rfl,xb.nil _ _⟩,⟨rfl,rfl⟩,vU,qR.lt⟩,aq,λ_ h=>h.elim,cf⟩
  refine ae.dt 287 (aJ et) (bT.refl _ _) λcy ck hn bD la=>?_
  have eQ:=uH (K:=287) la;refine bf (eI et @bZ.eq_1 @bZ.eq_2 @bZ.eq_3 @xd eQ) ?_;exact⟨hn,⟨λE=>rfl,xe (by exact la),by exact la⟩,_,_,rfl,(aJ (aT et @bQ eQ)),aq⟩
 have sE:¬(aF σ.r).1=2:=aC J
 clear J;refine a1 ?_;refine ae.seq ?_;refine aR aa et ?_ ?_<;>intro J
 ·have ad:(aF σ.r).1=3:=aC J
  have bo:lf sub σ=yw 3 (aF σ.r).2.1 (aF σ.r).2.2 [] (bI σ):=by rw[lf,al he,ab sE,al ad]
  rw[bo];obtain⟨ek,dE,eY,n3⟩:=kO.1.next U
  have qR:=kO.mG (cX.next kO.1.1.2.2 U) U;have fS:IntKind.i64.wrap (((q.L.length-σ.r.length:Nat):Int)+1)=((q.L.length-(bI σ).r.length:Nat):Int):=by have:=kO.1.2.2;rw[gb U U];omega
  refine aA aa (I et fS) ?_;refine aL (HS (aP w S fp) q (bI σ) cs az m b2 3 (aF σ.r).2.1 (aF σ.r).2.2 []) et ?_ ?_
  ·exact⟨⟨⟨[_],rfl,_,rfl,xb.nil _ _⟩,⟨rfl,rfl⟩,vU,qR.lt⟩,aq,λ_ h=>h.elim,cf⟩
  refine ae.dt 311 (aJ et) (bT.refl _ _) λcy ck hn bD la=>?_
  have eQ:=uH (K:=311) la;refine bf (eI et @bZ.eq_1 @bZ.eq_2 @bZ.eq_3 @xd eQ) ?_;exact⟨hn,⟨λE=>rfl,xe (by exact la),by exact la⟩,_,_,rfl,(aJ (aT et @bQ eQ)),aq⟩
 have wF:¬(aF σ.r).1=3:=aC J
 clear J;refine a1 ?_;refine ae.seq ?_;refine aR aa et ?_ ?_<;>intro J
 ·have ad:(aF σ.r).1=1:=aC J
  clear J;have fP:lf sub σ=HR sub σ:=by rw[lf,al he,ab sE,ab wF,al ad]
  refine bk (se q σ cs az m b2) et ?_;refine aR aa et ?_ ?_<;>intro J
  ·have bo:lf sub σ=(0,hB 60 σ):=by
    rw[fP,HR,al (aC J)]
   rw[bo];refine aL (se q σ cs az m b2) et ?_ ?_
   ·exact⟨⟨⟨_,rfl⟩,kO.1.out⟩,aq,λ_ h=>h.elim⟩
   refine bf (de et @bZ.eq_1 @bZ.eq_2 @bZ.eq_3 @xd) ?_;have Ol:gR w (bw (aP w S fp) fp) cs (hB 60 σ).aH:=by rw[KC];exact vU
   exact⟨cs,⟨λE=>rfl,xe (by exact Ol),by exact Ol⟩,_,_,rfl,(aJ (aT et @bQ aid)),aq⟩
  have Gv:¬ed (aF σ.r).2.2<0:=aC J
  clear J;refine a1 ?_;obtain⟨ek,dE,eY,n3⟩:=kO.1.next U
  have qR:=kO.mG (cX.next kO.1.1.2.2 U) U;have fS:IntKind.i64.wrap (((q.L.length-σ.r.length:Nat):Int)+1)=((q.L.length-(bI σ).r.length:Nat):Int):=by have:=kO.1.2.2;rw[gb U U];omega
  refine bk aa (I et fS) ?_;refine aR aa et ?_ ?_<;>intro J
  ·have bx:ed (aF σ.r).2.2=0:=aC J
   have bo:lf sub σ=yw 1 (aF σ.r).2.1 (aF σ.r).2.2 [] (bI σ):=by rw[fP,HR,ab Gv,al bx]
   rw[bo];refine aL (HS (aP w S fp) q (bI σ) cs az m b2 1 (aF σ.r).2.1 (aF σ.r).2.2 []) et ?_ ?_
   ·exact⟨⟨⟨[_],rfl,_,rfl,xb.nil _ _⟩,⟨rfl,rfl⟩,vU,qR.lt⟩,aq,λ_ h=>h.elim,cf⟩
   refine ae.dt 399 (aJ et) (bT.refl _ _) λcy ck hn bD la=>?_
   have eQ:=uH (K:=399) la;refine bf (eI et @bZ.eq_1 @bZ.eq_2 @bZ.eq_3 @xd eQ) ?_;exact⟨hn,⟨λE=>rfl,xe (by exact la),by exact la⟩,_,_,rfl,(aJ (aT et @bQ eQ)),aq⟩
  have bx:¬ed (aF σ.r).2.2=0:=aC J
  clear J;have hC:lf sub σ=Og sub σ:=by rw[fP,HR,ab Gv,ab bx]
  refine bk aa et ?_;refine aL (se q (bI σ) cs az m b2) et ?_ ?_
  ·exact⟨⟨⟨rfl,_,rfl⟩,qR.1.out⟩,aq,λ_ h=>h.elim⟩
  have Xg:=Xf (aF σ.r).2.2;obtain⟨aE3,Yp⟩:=l7 (show 0<=ed (aF σ.r).2.2 by omega);have Kp:(⟨#[40]⟩:ao)=er:=rfl;have cp:(⟨#[41]⟩:ao)=fG:=rfl;have az2:(⟨#[44]⟩:ao)=mB:=rfl;have Dg:=qR.mG (cX.want (m:=er) qR.1.1.2.2) U
  have Sx:=(cX.want (m:=er) qR.1.1.2.2).pT.length_le;have Om:gR w (bw (aP w S fp) fp) cs (cJ er (bI σ)).aH:=by rw[yy];exact vU
  have az3:Og sub σ=yw 4 (aF σ.r).2.1 (aF σ.r).2.2 (uG sub aE3 0 [] (cJ er (bI σ))).1 (cJ fG (uG sub aE3 0 [] (cJ er (bI σ))).2):=by unfold Og;rw[Yp];rfl
  rw[hC,az3];rw[Yp]at Xg;generalize dW:uG sub aE3 0 [] (cJ er (bI σ))=R;refine dL aa et ?_
  refine ae.q4 (λp:Yn=>⟨60,bK [(0,.is (.own 0 0)),(3,.is (.own 4 0)),(4,aE3),(5,.is (.ak 5)),(6,p.k)],bA [(0,.cells 178 [.v (.slice (some ⟨q.b,q.o,none⟩) q.L.length q.c),(q.L.length-p.σ.r.length:Nat),p.σ.op,p.σ.a8,p.σ.at_,.ak 1,.ak 2,b2]),(1,.row 181 4 p.σ.aH.length (p.cs.map .v)),(2,.row 123 3 m (az.map .v)),(4,.cells 168 [.v (.int .i64 (aF σ.r).1),((aF σ.r).2.1),.v (.string (aF σ.r).2.2)]),(5,.row 3 1 p.ps.length ((uI p.ps).map .v))]⟩)
   Yn.W Yn.bs (λp=>p.σ.ok q p.W (bw (aP w S fp) p.bs)/\gR p.W (bw (aP w S fp) p.bs) p.cs p.σ.aH/\p.σ.r.length<σ.r.length/\(p.ps.length=p.k/\p.k+p.n=aE3)/\uG sub p.n p.k p.ps p.σ=R) (λp=>p.n) ⟨w,fp,cs,[],cJ er (bI σ),0,aE3⟩ rfl rfl ?_ ⟨Dg,Om,by dsimp only;omega,⟨rfl,lM aE3⟩,dW⟩ ?_
  ·exact b8 (λk=>if k=1 then .key 373 else if k=2 then .key 374 else if k=4 then .key 136 else if k=5 then .nil else .key k) (eI et @gq Yp Kp @uI.eq_1 @yy)
  rintro⟨cy,ck,hn,ps,bB,k,n⟩ ⟨n5,z6,aif,⟨DU,Gm⟩,cu⟩ bD;simp only at n5 z6 aif DU Gm cu bD;dsimp only;have cT:=cf.ext bD;refine ae.seq ?_;refine aR aa et ?_ ?_<;>intro J
  ·have gN:k<aE3/\bB.a8=0:=aC J
   clear J;obtain⟨gN,Fc⟩:=gN;obtain⟨n,rfl⟩:∃m,n=m+1:=⟨n-1,U⟩;rw[uG,al Fc]at cu;have dM:=fK k;refine a1 ?_;refine ae.seq (ae.block ?_)
   refine rb (λ_:Unit=>⟨80,bK [(0,.is (.own 0 0)),(3,.is (.own 4 0)),(4,aE3),(5,.is (.ak 5)),(6,k)],bA [(0,.cells 178 [.v (.slice (some ⟨q.b,q.o,none⟩) q.L.length q.c),(q.L.length-(if 0<k then cJ mB bB else bB).r.length:Nat),.v (.int .i64 (if 0<k then cJ mB bB else bB).op),.v (.int .i64 (if 0<k then cJ mB bB else bB).a8),((if 0<k then cJ mB bB else bB).at_:Nat),.ak 1,.ak 2,b2]),(1,.row 181 4 (if 0<k then cJ mB bB else bB).aH.length (hn.map .v)),(2,.row 123 3 m (az.map .v)),(4,.cells 168 [.v (.int .i64 (aF σ.r).1),((aF σ.r).2.1),.v (.string (aF σ.r).2.2)]),(5,.row 3 1 ps.length ((uI ps).map .v))]⟩) (λ_=>cy) (λ_=>ck) (λ_=>True) ?_ ?_
   ·skip;refine aR aa et ?_ ?_<;>intro J
    ·have xP:0<k:=by
      simp at J;exact J
     refine wr (se q bB hn az m b2) et ?_ ?_
     ·exact⟨⟨⟨_,rfl⟩,n5.1.out⟩,aq,λ_ h=>h.elim⟩
     refine⟨(),trivial,rfl,rfl,?_⟩;exact b8 (λk=>if k=1 then .key 589 else if k=2 then .key 590 else .key k) (b3 et (Vw xP) az2 @yy)
    ·have xP:¬0<k:=bt J
     refine a1 ?_;refine⟨(),trivial,rfl,rfl,?_⟩;exact bh (I et (Qo xP))
   rintro - - RR;have rP:cX bB (if 0<k then cJ mB bB else bB) 0:=by
    split
    ·exact cX.want n5.1.1.2.2
    ·exact cX.refl n5.1.1.2.2
   have Yq:gR cy (bw (aP w S fp) ck) hn (if 0<k then cJ mB bB else bB).aH:=by
    split
    ·rw[yy];exact z6
    ·exact z6
   generalize(if 0<k then cJ mB bB else bB)=Ck at *;have yz:=n5.mG rP U;have aih:=rP.pT.length_le;have HF:=aZ Ck yz.1.1.2.2;have vV:=yz.mG HF U;have az4:=HF.pT.length_le;simp only at cu;generalize bo:sub Ck=F at *;obtain⟨a,qU⟩:=F;simp only at cu HF vV az4;refine ae.more ?_
   refine wr (KB (aP w S fp) q Ck hn az m b2 0 sub (n2 (N-1)) cb) (I et bo) ?_ ?_
   ·exact⟨⟨⟨⟨λ_=>by omega,yz⟩,Yq⟩,aq,(λ_ h=>h.elim),cT⟩,by unfold maxLen;omega,U⟩
   refine pw ?_;refine eZ.dt 663 (aJ et) (bT.refl _ _) λe0 eu n7 du e1=>?_
   have eQ:=uH (K:=663) e1;refine eZ.here ?_;refine kG ?_;refine bY aa (aT et dM eQ) ?_;have em:List.map ag.v (uI ps)++[.v (.int .i64 (a:Nat))]=List.map ag.v (uI (ps++[a])):=by simp[uI]
   have el:(ps++[a]).length=ps.length+1:=by simp
   refine⟨⟨e0,eu,n7,ps++[a],qU,k+1,n⟩,⟨vV.mono du.cc,e1,by dsimp only;omega,⟨by dsimp only;omega,by dsimp only;omega⟩,cu⟩,by dsimp only;omega,rfl,rfl,?_⟩;exact b8 (λk=>if k=1 then .key 661 else if k=2 then .key 662 else if k=5 then .key 672 else .key k) (b3 et em el eQ)
  ·have kd:R=(ps,bB):=by
    rw[<- cu];cases n with
    |zero=>rfl
    |succ n=>rw[uG,ab];intro h;simp[h]at J;omega
   subst kd;clear J cu;have az5:=cX.want (m:=fG) n5.1.1.2.2;have KE:=n5.mG az5 U;have az6:gR cy (bw (aP w S fp) ck) hn (cJ fG bB).aH:=by rw[yy];exact z6
   refine c6 ?_;refine aL (se q bB hn az m b2) (I et cp) ?_ ?_
   ·exact⟨⟨⟨_,rfl⟩,n5.1.out⟩,aq,λ_ h=>h.elim⟩
   refine aL (HS (aP w S fp) q (cJ fG bB) hn az m b2 4 (aF σ.r).2.1 (aF σ.r).2.2 ps) (I et cp) ?_ ?_
   ·exact⟨⟨Of ps,rfl,az6,KE.lt⟩,aq,aq,cT⟩
   refine ae.dt 631 (aJ et) (bT.refl _ _) λcL c7 h9 cq hg=>?_
   have eQ:=uH (K:=631) hg;refine bf (eI et @bZ.eq_1 @bZ.eq_2 @bZ.eq_3 @xd eQ) ?_;exact⟨h9,⟨λE=>rfl,xe (by exact hg),by exact hg⟩,_,_,rfl,(aJ (aT et @bQ eQ)),aq⟩
 have gN:¬(aF σ.r).1=1:=aC J
 clear J;refine a1 ?_;refine ae.seq ?_;refine aL (se q σ cs az m b2) et ?_ ?_
 ·exact⟨aq,⟨_,rfl⟩,kO.1.out⟩
 refine bC et ?_ ?_<;>intro J
 ·have bo:lf sub σ=Sr sub σ:=by rw[lf,al he,ab sE,ab wF,ab gN,al (show lb er σ=true from J)]
  have hm:lb er σ=true:=J;have bg:(⟨#[40]⟩:ao)=er:=rfl;have bN:(⟨#[41]⟩:ao)=fG:=rfl;have s1:=cX.Oi kO.1.1.2.2 hm;have Dg:=kO.mG s1 U;have Sx:n2 (N-1) (cJ er σ):=by
   intro A;unfold cJ at A ⊢;rw[al hm]at A ⊢;have aV:=FC (l:=σ.r);split at A<;>rename_i g1
   ·rw[al g1];split at A<;>rename_i g2
    ·unfold hB at A;rw[al he]at A;exact absurd A (show¬(23:Int)=0 by decide)
    ·rw[ab g2];show σ.r.tail.length<=_;omega
   ·exact absurd (by first|exact .inl rfl|exact .inr rfl) g1
  have Om:gR w (bw (aP w S fp) fp) cs (cJ er σ).aH:=by rw[yy];exact vU
  have s2:=aZ _ Dg.1.1.2.2;have hK:=Dg.mG s2 U;rw[bo];unfold Sr;generalize ta:sub (cJ er σ)=F at *;obtain⟨a,qU⟩:=F;simp only at s2 hK ⊢;have EV:=cX.want (m:=fG) hK.1.1.2.2;have n5:=hK.mG EV U;refine aL (se q σ cs az m b2) (I et bg) ?_ ?_
  ·exact⟨⟨⟨_,rfl⟩,kO.1.out⟩,aq,λ_ h=>h.elim⟩
  refine aL (KB (aP w S fp) q (cJ er σ) cs az m b2 0 sub (n2 (N-1)) cb) (I et ta) ?_ ?_
  ·exact⟨⟨⟨Sx,Dg⟩,Om⟩,aq,(λ_ h=>h.elim),cf⟩
  refine ae.dt 271 (aJ et) (bT.refl _ _) λcy ck hn bD la=>?_
  have eQ:=uH (K:=271) la;have cT:=cf.ext bD;have Yr := hK.mono bD.cc;have aii := n5.mono bD.cc;refine aL (se q qU hn az m b2) (aT et bN eQ) ?_ ?_
  ·exact⟨⟨⟨_,rfl⟩,Yr.1.out⟩,aq,λ_ h=>h.elim⟩
  have z6:gR cy (bw (aP w S fp) ck) hn (cJ fG qU).aH:=by rw[yy];exact la
  refine aA aa et ?_;refine bf (de et @bZ.eq_1 @bZ.eq_2 @bZ.eq_3 @xd) ?_;exact⟨hn,⟨λE=>rfl,xe (by exact z6),by exact z6⟩,_,_,rfl,(aJ (I et @bQ)),aq⟩
 have En:¬lb er σ=true:=by intro h;exact absurd (h.symm.trans J) aq
 clear J;refine a1 ?_;refine ae.seq ?_;refine aL (se q σ cs az m b2) et ?_ ?_
 ·exact⟨aq,⟨_,rfl⟩,kO.1.out⟩
 refine bC et ?_ ?_<;>intro J
 ·have bo:lf sub σ=Ss sub σ:=by rw[lf,al he,ab sE,ab wF,ab gN,ab En,al (show lb gx σ=true from J)]
  have hm:lb gx σ=true:=J;have bg:(⟨#[123]⟩:ao)=gx:=rfl;have bN:(⟨#[125]⟩:ao)=jD:=rfl;have s1:=cX.Oi kO.1.1.2.2 hm;have Dg:=kO.mG s1 U;have Sx:n2 (N-1) (cJ gx σ):=by
   intro A;unfold cJ at A ⊢;rw[al hm]at A ⊢;have aV:=FC (l:=σ.r);split at A<;>rename_i g1
   ·rw[al g1];split at A<;>rename_i g2
    ·unfold hB at A;rw[al he]at A;exact absurd A (show¬(23:Int)=0 by decide)
    ·rw[ab g2];show σ.r.tail.length<=_;omega
   ·exact absurd (by first|exact .inl rfl|exact .inr rfl) g1
  have Om:gR w (bw (aP w S fp) fp) cs (cJ gx σ).aH:=by rw[yy];exact vU
  have s2:=aZ _ Dg.1.1.2.2;have hK:=Dg.mG s2 U;rw[bo];unfold Ss;generalize ta:sub (cJ gx σ)=F at *;obtain⟨a,qU⟩:=F;simp only at s2 hK ⊢;have EV:=cX.want (m:=jD) hK.1.1.2.2;have n5:=hK.mG EV U;refine aL (se q σ cs az m b2) (I et bg) ?_ ?_
  ·exact⟨⟨⟨_,rfl⟩,kO.1.out⟩,aq,λ_ h=>h.elim⟩
  refine aL (KB (aP w S fp) q (cJ gx σ) cs az m b2 0 sub (n2 (N-1)) cb) (I et ta) ?_ ?_
  ·exact⟨⟨⟨Sx,Dg⟩,Om⟩,aq,(λ_ h=>h.elim),cf⟩
  refine ae.dt 287 (aJ et) (bT.refl _ _) λcy ck hn bD la=>?_
  have eQ:=uH (K:=287) la;have cT:=cf.ext bD;have Yr := hK.mono bD.cc;have aii := n5.mono bD.cc;refine aL (se q qU hn az m b2) (aT et bN eQ) ?_ ?_
  ·exact⟨⟨⟨_,rfl⟩,Yr.1.out⟩,aq,λ_ h=>h.elim⟩
  have z6:gR cy (bw (aP w S fp) ck) hn (cJ jD qU).aH:=by rw[yy];exact la
  refine aL (HS (aP w S fp) q (cJ jD qU) hn az m b2 5 (aF σ.r).2.1 ⟨#[]⟩ [a]) et ?_ ?_
  ·exact⟨⟨Of [a],rfl,z6,aii.lt⟩,aq,aq,cT⟩
  refine ae.dt 359 (aJ et) (bT.refl _ _) λcL c7 h9 cq hg=>?_
  have aij:=uH (K:=359) hg;refine bf (eI et @bZ.eq_1 @bZ.eq_2 @bZ.eq_3 @xd aij) ?_;exact⟨h9,⟨λE=>rfl,xe (by exact hg),by exact hg⟩,_,_,rfl,(aJ (aT et @bQ aij)),aq⟩
 have Mr:¬lb gx σ=true:=by intro h;exact absurd (h.symm.trans J) aq
 clear J;refine a1 ?_;have bo:lf sub σ=(0,hB 60 σ):=by rw[lf,al he,ab sE,ab wF,ab gN,ab En,ab Mr]
 rw[bo];refine aL (se q σ cs az m b2) et ?_ ?_
 ·exact⟨⟨⟨_,rfl⟩,kO.1.out⟩,aq,λ_ h=>h.elim⟩
 refine bf (de et @bZ.eq_1 @bZ.eq_2 @bZ.eq_3 @xd) ?_;have Ol:gR w (bw (aP w S fp) fp) cs (hB 60 σ).aH:=by rw[KC];exact vU
 exact⟨cs,⟨λE=>rfl,xe (by exact Ol),by exact Ol⟩,_,_,rfl,(aJ (aT et @bQ aid)),aq⟩
section
variable (G:aY)(q:di)(σ:b6)(cs az:aX)(m:Nat)(b2:Int)
abbrev az7(F:ld)(P:b6->Prop)(h:vT 200 [] F P):Env Tryz.prog:=a7 ((Sw 200 [] F P Tryz.call200 h q σ cs az m b2).spec G) aa
abbrev az8(F:ld)(P:b6->Prop)(h:vT 146 [] F P):Env Tryz.prog:=a7 ((Sw 146 [] F P Tryz.call146 h q σ cs az m b2).spec G) aa
abbrev az9:Env Tryz.prog:=a7 Yg.spec aa
end
structure KF where
 W:World
 bs:List Nat
 cs:List Value
 a:Nat
 σ:b6
 n:Nat
def aik:-1<=jo s/\jo s<=4:=by
 unfold jo
 repeat' split
 all_goals exact⟨aq,aq⟩
def jZ:=(aT Yo @ah3 @ah4)
def ail(sub:ld)(aZ:gn sub)(N:Nat)(cb:vT 200 [] (lf sub) (n2 N)):vT 146 [] (qT sub) (n2 N):=by
 intro q σ cs az m b2 u fp w S lQ bW su H ax bp;have cf:=aP.up w S fp;have kO:=bW.mono (aP.ep w S fp bp);have vU:=su.mono (aP.ep w S fp bp);have iS:=gn.atom aZ σ kO.1.1.2.2;have qR:=kO.mG iS U;unfold qT;generalize bo:lf sub σ=F at *;obtain⟨a0,Dh⟩:=F;simp only at iS qR ⊢
 refine nm (nt:=50) S [.tmp 2] H ax Tryz.func146 ?_;refine aA aa jZ ?_;refine aL (az7 (aP w S fp) q σ cs az m b2 (lf sub) (n2 N) cb) (I jZ bo) ?_ ?_
 ·exact⟨⟨⟨lQ,kO⟩,vU⟩,aq,(λ_ h=>h.elim),cf⟩
 refine ae.dt 31 (aJ jZ) (bT.refl _ _) λmg qy Sy ff On=>?_
 have Ys:=uH (K:=31) On;have Jv:=cf.ext ff;generalize dW:yx Dh.r.length a0 Dh=R;refine ae.seq (ae.block ?_)
 refine ae.q4 (λp:KF=>⟨10,bK [(0,.is (.own 0 0)),(3,p.a)],bA [(0,.cells 178 [.v (.slice (some ⟨q.b,q.o,none⟩) q.L.length q.c),(q.L.length-p.σ.r.length:Nat),p.σ.op,p.σ.a8,p.σ.at_,.ak 1,.ak 2,b2]),(1,.row 181 4 p.σ.aH.length (p.cs.map .v)),(2,.row 123 3 m (az.map .v))]⟩)
  KF.W KF.bs (λp=>p.σ.ok q p.W (bw (aP w S fp) p.bs)/\gR p.W (bw (aP w S fp) p.bs) p.cs p.σ.aH/\p.σ.r.length<=p.n/\yx p.n p.a p.σ=R) (λp=>p.n) ⟨mg,qy,Sy,a0,Dh,Dh.r.length⟩ rfl rfl ?_ ⟨qR.mono ff.cc,On,eo _,dW⟩ ?_
 ·exact b8 (λk=>if k=1 then .key 29 else if k=2 then .key 30 else .key k) (I jZ Ys)
 rintro⟨cy,ck,hn,a,bB,n⟩ ⟨hK,tC,aE,cu⟩ bD;simp only at hK tC aE cu bD;dsimp only;have cT:=Jv.ext bD;have bg:(⟨#[42]⟩:ao)=ny:=rfl;have bN:(⟨#[43]⟩:ao)=pK:=rfl;have dQ:(⟨#[63]⟩:ao)=Hq:=rfl;refine ae.seq ?_;refine aL (se q bB hn az m b2) (b3 jZ bg bN dQ) ?_ ?_
 ·exact⟨⟨aq,⟨_,rfl⟩,hK.1.out⟩,λ_=>⟨aq,⟨_,rfl⟩,hK.1.out⟩,λ_=>⟨aq,⟨_,rfl⟩,hK.1.out⟩⟩
 refine bC jZ ?_ ?_<;>intro J
 ·have hm:((lb ny bB||lb pK bB)||lb Hq bB)=true:=J;clear J;have ad:(aF bB.r).1≠0:=by
   have hm:=hm;simp only[wa]at hm;rcases hm with(hm|hm)|hm<;>exact(Sq hm).1
  obtain⟨ek,dE,eY,n3⟩:=hK.1.next ad
  have jv:=hK.1.KD;obtain⟨⟨D,O,B⟩,_⟩:=hK.1;obtain⟨ee,fh,gO⟩:=Fb D.1 O B.ne;obtain⟨n,rfl⟩:∃k,n=k+1:=⟨n-1,U⟩;rw[yx,al hm]at cu;have aim:=cX.add (k:=6) (a:=(aF bB.r).2.1) (t:=(aF bB.r).2.2) (ps:=[a]) hK.1.1.2.2;have HT:=cX.next aim.fo ad
  have n5:=hK.mG (aim.trans HT) U;have aN:=hK.1.2.2;have fS:IntKind.i64.wrap (((q.L.length-(kf 6 (aF bB.r).2.1 (aF bB.r).2.2 [a] bB).r.length:Nat):Int)+1)=((q.L.length-(bI (kf 6 (aF bB.r).2.1 (aF bB.r).2.2 [a] bB)).r.length:Nat):Int):=by have bg:(kf 6 (aF bB.r).2.1 (aF bB.r).2.2 [a] bB).r=bB.r:=rfl;have bN:(bI (kf 6 (aF bB.r).2.1 (aF bB.r).2.2 [a] bB)).r=(bI bB).r:=rfl;rw[bg,bN,gb U U];omega
  refine a1 ?_;refine ae.block ?_;refine dh (HS (aP w S fp) q bB hn az m b2 6 (aF bB.r).2.1 (aF bB.r).2.2 [a]) (b3 jZ ee fh gO) ?_ ?_
  ·exact⟨U,jv,U,jv,⟨Of [a],rfl,tC,hK.lt⟩,aq,aq,cT⟩
  refine ae.dt 367 (aJ jZ) (bT.refl _ _) λe0 eu n7 du e1=>?_
  have eQ:=uH (K:=367) e1;refine bY aa (aT jZ fS eQ) ?_;refine⟨⟨e0,eu,n7,bB.aH.length,bI (kf 6 (aF bB.r).2.1 (aF bB.r).2.2 [a] bB),n⟩,⟨n5.mono du.cc,e1,?_,cu⟩,by dsimp only;omega,rfl,rfl,?_⟩
  ·show(bI bB).r.length<=n;omega
  ·exact b8 (λk=>if k=1 then .key 365 else if k=2 then .key 366 else .key k) (I jZ eQ)
 ·have hm:¬((lb ny bB||lb pK bB)||lb Hq bB)=true:=by
   intro h;exact absurd (h.symm.trans J) aq
  clear J;have kd:R=(a,bB):=by
   rw[<- cu];cases n with
   |zero=>rfl
   |succ n=>rw[yx,ab hm]
  subst kd;refine c6 ?_;refine aA aa jZ ?_;refine bf (de jZ @bZ.eq_1 @bZ.eq_2 @bZ.eq_3 @xd) ?_;exact⟨hn,⟨λE=>rfl,xe (by exact tC),by exact tC⟩,_,_,rfl,(aJ (I jZ @bQ)),aq⟩
def ain(sub:Int->ld)(aZ:∀k,gn (sub k))(N:Nat)(jJ:Int)(wK:0<=jJ)(aEv:jJ<=5)(aAa:vT 146 [] (qT (sub 0)) (n2 N))(Oo:N≠0->∀k,0<=k->k<=5->vT 89 [.int .i64 k] (sub k) (n2 (N-1))) :
  vT 89 [.int .i64 jJ] (λσ=>xf sub jJ (qT (sub 0) σ).2.r.length (qT (sub 0) σ).1 (qT (sub 0) σ).2) (n2 N):=by
 intro q σ cs az m b2 u fp w S lQ bW su H ax bp;have cf:=aP.up w S fp;have kO:=bW.mono (aP.ep w S fp bp);have vU:=su.mono (aP.ep w S fp bp);have iS:=gn.post (aZ 0) σ kO.1.1.2.2;have qR:=kO.mG iS U;have r6:n2 N (qT (sub 0) σ).2:=by
  intro h;by_cases he:σ.a8=0
  ·have:=lQ he;have:=iS.pT.length_le;omega
  ·rw[Yl he]at h;exact absurd h he
 dsimp only;generalize bo:qT (sub 0) σ=F at *;obtain⟨a0,Dh⟩:=F;simp only at iS qR r6 ⊢;refine nm (nt:=78) S [.tmp 4] H ax Tryz.func89 ?_;refine aA aa jZ ?_;refine aL (az8 (aP w S fp) q σ cs az m b2 (qT (sub 0)) (n2 N) aAa) (I jZ bo) ?_ ?_
 ·exact⟨⟨⟨lQ,kO⟩,vU⟩,aq,(λ_ h=>h.elim),cf⟩
 refine ae.dt 31 (aJ jZ) (bT.refl _ _) λmg qy Sy ff On=>?_
 have Ys:=uH (K:=31) On;have Jv:=cf.ext ff;generalize dW:xf sub jJ Dh.r.length a0 Dh=R;refine ae.seq (ae.block ?_)
 refine ae.q4 (λp:KF=>⟨10,bK [(0,.is (.own 0 0)),(1,jJ),(5,p.a)],bA [(0,.cells 178 [.v (.slice (some ⟨q.b,q.o,none⟩) q.L.length q.c),(q.L.length-p.σ.r.length:Nat),p.σ.op,p.σ.a8,p.σ.at_,.ak 1,.ak 2,b2]),(1,.row 181 4 p.σ.aH.length (p.cs.map .v)),(2,.row 123 3 m (az.map .v))]⟩)
  KF.W KF.bs (λp=>p.σ.ok q p.W (bw (aP w S fp) p.bs)/\gR p.W (bw (aP w S fp) p.bs) p.cs p.σ.aH/\(p.σ.r.length<=p.n/\n2 N p.σ)/\xf sub jJ p.n p.a p.σ=R) (λp=>p.n) ⟨mg,qy,Sy,a0,Dh,Dh.r.length⟩ rfl rfl ?_ ⟨qR.mono ff.cc,On,⟨eo _,r6⟩,dW⟩ ?_
 ·exact b8 (λk=>if k=1 then .key 29 else if k=2 then .key 30 else .key k) (I jZ Ys)
 rintro⟨cy,ck,hn,a,bB,n⟩ ⟨hK,tC,⟨aE,RQ⟩,cu⟩ bD;simp only at hK tC aE RQ cu bD;dsimp only;have cT:=Jv.ext bD;have jv:=hK.1.KD;obtain⟨⟨D,O,B⟩,_⟩:=hK.1;obtain⟨ee,fh,gO⟩:=Fb D.1 O B.ne;have sd:=O.length_le;have kS:=B.pos
 have fin:∀hm:¬(bB.a8=0/\(aF bB.r).1=4/\¬jo (aF bB.r).2.2<jJ),R=(a,bB):=λhm=>by
  rw[<- cu];cases n with
  |zero=>rfl
  |succ n=>rw[xf,ab hm]
 refine ae.seq ?_;refine dh aa (b3 jZ ee fh gO) ?_ ?_
 ·exact⟨λ_=>by omega,λ_=>jv⟩
 refine bC jZ ?_ ?_<;>intro J
 ·have hm:bB.a8=0/\(aF bB.r).1=4:=aC J
  clear J;obtain⟨he,wR⟩:=hm;have ad:(aF bB.r).1≠0:=U;have hle:=RQ he;have Oo:=Oo U;obtain⟨aEw,aEx⟩:=aik (aF bB.r).2.2;refine a1 ?_;refine ae.block ?_;refine dh aa (b3 jZ ee fh gO) ?_ ?_
  ·exact⟨U,jv⟩
  refine bk az9 jZ ?_;refine aR aa jZ ?_ ?_<;>intro J
  ·have KG:jo (aF bB.r).2.2<jJ:=aC J
   have kd:=fin λh=>h.2.2 KG
   subst kd;refine aA aa jZ ?_;refine bf (de jZ @bZ.eq_1 @bZ.eq_2 @bZ.eq_3 @xd) ?_;exact⟨hn,⟨λE=>rfl,xe (by exact tC),by exact tC⟩,_,_,rfl,(aJ (I jZ @bQ)),aq⟩
  have KG:¬jo (aF bB.r).2.2<jJ:=aC J
  clear J fin;have Oo:=Oo (jo (aF bB.r).2.2+1) U U;have aAb:=dv (jo (aF bB.r).2.2+1);obtain⟨n,rfl⟩:∃k,n=k+1:=⟨n-1,U⟩;rw[xf,al ⟨he,wR,KG⟩]at cu;obtain⟨ek,dE,eY,n3⟩:=hK.1.next ad
  have HT:=cX.next hK.1.1.2.2 ad
  have n5:=hK.mG HT U;have z6:gR cy (bw (aP w S fp) ck) hn (bI bB).aH:=tC;have aN:=hK.1.2.2;have fS:IntKind.i64.wrap (((q.L.length-bB.r.length:Nat):Int)+1)=((q.L.length-(bI bB).r.length:Nat):Int):=by rw[gb U U];omega
  have aAc:n2 (N-1) (bI bB):=λ_=>by omega
  have Sz:=aZ (jo (aF bB.r).2.2+1) _ n5.1.1.2.2;have aih:=Sz.pT.length_le;refine a1 ?_;refine dh aa (b3 jZ ee fh gO) ?_ ?_
  ·exact⟨U,jv⟩
  refine aA aa (I jZ fS) ?_;simp only at cu;have yz:=hK.mG (HT.trans Sz) U;have Sk:=(HT.trans Sz).trans (cX.add (k:=7) (a:=(aF bB.r).2.1) (t:=(aF bB.r).2.2) (ps:=[a,(sub (jo (aF bB.r).2.2+1) (bI bB)).1]) Sz.fo);have vV:=hK.mG Sk U;generalize ta:sub (jo (aF bB.r).2.2+1) (bI bB)=aAd at *
  obtain⟨b,qU⟩:=aAd;simp only at cu yz vV Sk aih;refine aL (KB (aP w S fp) q (bI bB) hn az m b2 (jo (aF bB.r).2.2+1) (sub (jo (aF bB.r).2.2+1)) (n2 (N-1)) Oo) (aT jZ aAb ta) ?_ ?_
  ·exact⟨⟨rfl,⟨aAc,n5⟩,z6⟩,aq,(λ_ h=>h.elim),cT⟩
  refine ae.dt 567 (aJ jZ) (bT.refl _ _) λcL c7 h9 cq hg=>?_
  have eQ:=uH (K:=567) hg;have eO:=cT.ext cq;have aAe := yz.mono cq.cc;refine ae.more ?_;refine wr (HS (aP w S fp) q qU h9 az m b2 7 (aF bB.r).2.1 (aF bB.r).2.2 [a,b]) (I jZ eQ) ?_ ?_
  ·exact⟨⟨Of [a,b],rfl,hg,aAe.lt⟩,aq,aq,eO⟩
  refine pw ?_;refine eZ.dt 631 (aJ jZ) (bT.refl _ _) λe0 eu n7 du e1=>?_
  have aAf:=uH (K:=631) e1;refine eZ.here ?_;refine kG ?_;refine⟨⟨e0,eu,n7,qU.aH.length,kf 7 (aF bB.r).2.1 (aF bB.r).2.2 [a,b] qU,n⟩,⟨(vV.mono cq.cc).mono du.cc,e1,⟨?_,λh=>?_⟩,cu⟩,by dsimp only;omega,rfl,rfl,?_⟩
  ·show qU.r.length<=n;omega
  ·show qU.r.length<=N;omega
  ·exact b8 (λk=>if k=1 then .key 629 else if k=2 then .key 630 else .key k) (I jZ aAf)
 ·have hm:¬(bB.a8=0/\(aF bB.r).1=4):=by
   intro h;simp[h.1,h.2]at J
  have kd:=fin λh=>hm ⟨h.1,h.2.1⟩
  subst kd;refine c6 ?_;refine aA aa jZ ?_;refine bf (de jZ @bZ.eq_1 @bZ.eq_2 @bZ.eq_3 @xd) ?_;exact⟨hn,⟨λE=>rfl,xe (by exact tC),by exact tC⟩,_,_,rfl,(aJ (I jZ @bQ)),aq⟩
def Yt:∀(N:Nat) (jJ:Int),0<=jJ->jJ<=5->vT 89 [.int .i64 jJ] (hD N jJ) (n2 N)
 |0,jJ,A,bn=>by
  have vk:vT 146 [] (qT (hD 0 0)) (n2 0):=ail _ (gn.qb 0 0) 0 (aie _ (gn.qb 0 0) 0 λh=>absurd rfl h);have:=ain (hD 0) (gn.qb 0) 0 jJ A bn vk λh=>absurd rfl h
  intro q σ cs az m b2 u fp w S lQ bW su H ax bp;have he:¬σ.a8=0:=λhe=>by have D:=lQ he;have O:=bW.1.1.2.2.pos;omega
  have O:=this q σ cs az m b2 u fp w S lQ bW su H ax bp;simp only[Yl he,Su he]at O;rw[Oh he];exact O
 |N+1,jJ,A,bn=>by have V:=Yt N;have vk:vT 146 [] (qT (hD N 0)) (n2 (N+1)):=ail _ (gn.qb N 0) (N+1) (aie _ (gn.qb N 0) (N+1) λ_=>V 0 U U);exact ain (hD N) (gn.qb N) (N+1) jJ A bn vk λ_ k GM aAg=>V k GM aAg
structure nE where
 at_:Nat
 xA:ByteArray
 b:Nat
def tD(aFb:Nat):Nat->List nE->b6->List nE×b6
 |0,l,σ=>(l,σ)
 |n+1,l,σ=>
  if σ.a8=0/\(aF σ.r).1=1/\(aF σ.r).2.2=ET then
   if(aF (bI σ).r).1=1/\ed (aF (bI σ).r).2.2=0 then
    let p:=hD aFb 0 (cJ ru (bI (bI σ)))
    tD aFb n (l++[⟨(aF (bI σ).r).2.1,(aF (bI σ).r).2.2,p.1⟩]) (cJ tz p.2)
   else(l,hB 60 (bI σ))
  else(l,σ)
def l5(σ:b6):b6:=if σ.a8=0/\¬(aF σ.r).1=0 then hB 60 σ else σ
def tE(L:List bH):b6:=⟨L,0,0,0,[]⟩
def tF(L:List bH):List nE×Nat×b6:=
 let p:=tD L.length L.length [] (tE L)
 let m:=hD L.length 0 p.2
 (p.1,m.1,l5 m.2)
def Fe(s:ao):Except (Int×Nat) (List fY×List nE×Nat):=
 if(cZ s).2.1=0 then
  if(tF (cZ s).1).2.2.a8=0 then .ok ((tF (cZ s).1).2.2.aH,(tF (cZ s).1).1,(tF (cZ s).1).2.1)
  else .error ((tF (cZ s).1).2.2.a8,(tF (cZ s).1).2.2.at_)
 else .error ((cZ s).2.1,(cZ s).2.2)
def oK(l:List nE):List Value:=l.flatMap λd=>[.int .i64 (d.at_:Nat),.string d.xA,.int .i64 (d.b:Nat)]
def aAh(l:List nE)(d:nE):oK (l++[d])=oK l++[.int .i64 (d.at_:Nat),.string d.xA,.int .i64 (d.b:Nat)]:=by unfold oK;rw[OQ];rfl
def gn.prog(aFb:Nat):∀(n:Nat) (l:List nE) (σ:b6),ij σ.r->cX σ (tD aFb n l σ).2 0
 |0,l,σ,h=>cX.refl h
 |n+1,l,σ,h=>by
  rw[tD];split
  ·rename_i A;have D:=cX.next h U
   split
   ·rename_i ad;have O:=D.trans (cX.next D.fo U);have B:=O.trans (cX.want (m:=ru) O.fo);have aU:=B.trans (gn.qb aFb 0 _ B.fo);have bn:=aU.trans (cX.want (m:=tz) aU.fo);exact(bn.trans (gn.prog aFb n _ _ bn.fo)).le U
   ·exact(D.trans (cX.fail 60 aq D.fo)).le U
  ·exact cX.refl h
def aAi(aH:List fY)(l:List nE):lr where
 Φ:=λcs W S=>∃dy ay c xg fE,cs=[.slice ay aH.length c,.slice xg l.length fE]/\b0 W S ay dy/\gR W S dy aH/\aH.length<=c/\b0 W S xg (oK l)/\l.length<=fE
 mono:=λV ⟨dy,ay,c,xg,fE,D,O,B,aU,bn,cA⟩=>⟨dy,ay,c,xg,fE,D,O.mono V,B.mono V,aU,bn.mono V,cA⟩
abbrev aio:IL Tryz.prog 78 where
 pre:=λW bs aj=>aj=[.val (.string s)]/\s.size<=9223372036854775807
 T:=168
 s:=3
 n:=λ_ _=>(cZ s).1.length
 vs:=λ_ _=>iH (cZ s).1
 fV:=λ_ _ x=>.iK [x,.v (.int .i64 (cZ s).2.1),((cZ s).2.2)]
 g:=λ_ _ v=>.tuple #[v,.int .i64 (cZ s).2.1,((cZ s).2.2)]
 IM:=λ_ _ E x=>rfl
 IN:=λ_ _ x k ad=>by simpa [ag.keys,cP] using ad
 enters:=Tryz.call78
 ok:=by
  intro W w bs us aj ad hu hp;obtain⟨rfl,D⟩:=hp
  match us,hu with
  |[u],hu=>obtain⟨rfl,_⟩:=hu;exact avC s w D
section
variable (G:aY)(s:ao)(q:di)(σ:b6)(cs az:aX)(m:Nat)(b2:Int)
abbrev aAj:Env Tryz.prog:=a7 ((aio s).spec) aa
end
def b5.prog(b2 a8 at_:Int):b5:=⟨λk=>.iK [.agg [.part k 0,.part k 1,b2],a8,at_],λ_ _=>rfl,λk j Y=>by simpa [ag.keys,cP] using Y⟩
def z7(s:ao):Except (Int×Nat) (List fY×List nE×Nat)->ud
 |.error (e,a)=>.val (.tuple #[.agg #[.slice none 0 0,.slice none 0 0,(0:Int)],e,a])
 |.ok (aH,l,b2)=>.fact (b5.prog (b2:Nat) 0 0) (aAi aH l)
def aAk(σ:b6):(l5 σ).aH=σ.aH:=by
 unfold l5;split
 ·exact KC _ _
 ·rfl
structure KH where
 W:World
 bs:List Nat
 cs:List Value
 l:List nE
 σ:b6
 n:Nat
def ja:=(b3 Yo @ah3 @ah4 @aio.eq_1)
def aAl(V:s.size<=9223372036854775807)(w:ar)(S:aY):Calls Tryz.prog 55 #[s] w λe M=>oO w S e M (z7 s (Fe s)):=by
 have hlen:=RU s;have cf:=b1.up w S;refine ue (nt:=178) S [.cell 2 117,.tmp 3,.tmp 4] Tryz.func55 ?_;refine aA aa ja ?_;refine aL (aAj s) ja ?_ ?_
 ·exact V
 refine ae.seq ?_;refine aR aa ja ?_ ?_<;>intro J
 ·have he:¬(cZ s).2.1=0:=aC J
  have bo:Fe s=.error ((cZ s).2.1,(cZ s).2.2):=by rw[Fe,ab he]
  rw[bo];refine aA aa ja ?_;exact bE (aT ja @z7.eq_1 @z7.eq_2)
 have he:(cZ s).2.1=0:=aC J
 clear J;refine a1 ?_;have aZ:=W5 he;have RV:Fe s=if(tF (cZ s).1).2.2.a8=0 then .ok ((tF (cZ s).1).2.2.aH,(tF (cZ s).1).1,(tF (cZ s).1).2.1) else .error ((tF (cZ s).1).2.2.a8,(tF (cZ s).1).2.2.at_):=by rw[Fe,al he];all_goals rfl
 rw[RV];clear RV;generalize gi:(cZ s).1=L at *;refine ae.rQ 32 (aJ (I ja @gr)) (λE=>by simp only[ba,den,gr];exact rfl) λcy ck ay c bD e7 zJ=>?_
 have cT:=cf.ext bD;have sI:b0 cy (bw (b1 w S) ck) ay (iH L):=e7.out λb Z=>⟨cf b Z.2,Z.1⟩
 obtain⟨b,o,rfl⟩:∃b o,ay=some ⟨b,o,none⟩:=by
  rcases sI with h|⟨b,o,rfl,_⟩
  ·have:=ER L;rw[h]at this;have:=aZ.pos;simp at *;omega
  ·exact⟨b,o,rfl⟩
 have z:(di.mk b o c L).st cy (bw (b1 w S) ck) L:=⟨⟨sI,zJ,by dsimp only;omega⟩,FB _,aZ⟩;have qR:(tE L).ok ⟨b,o,c,L⟩ cy (bw (b1 w S) ck):=⟨⟨z,⟨by simp[tE],by simp[tE]⟩,by dsimp only;omega⟩,by simp[By,tE]⟩;refine aA aa ja ?_;unfold tF;generalize dW:tD L.length L.length [] (tE L)=R
 refine rb (λp:KH=>⟨140,bK [(2,.is (.own 0 0)),(8,.is (.own 3 0))],bA [(0,.cells 117 [.v (.slice none 0 0),.v (.slice none 0 0),(0:Int)]),(3,.cells 178 [.v (.slice (some ⟨b,o,none⟩) L.length c),(L.length-p.σ.r.length:Nat),p.σ.op,p.σ.a8,p.σ.at_,.ak 1,.ak 2,(0:Int)]),(1,.row 181 4 p.σ.aH.length (p.cs.map .v)),(2,.row 123 3 p.l.length ((oK p.l).map .v))]⟩) KH.W KH.bs (λp=>p.σ.ok ⟨b,o,c,L⟩ p.W (bw (b1 w S) p.bs)/\gR p.W (bw (b1 w S) p.bs) p.cs p.σ.aH/\R=(p.l,p.σ)/\p.l.length<=L.length) ?_ ?_
 ·refine ae.block ?_
  refine ae.q4 (λp:KH=>⟨20,bK [(2,.is (.own 0 0)),(8,.is (.own 3 0))],bA [(0,.cells 117 [.v (.slice none 0 0),.v (.slice none 0 0),(0:Int)]),(3,.cells 178 [.v (.slice (some ⟨b,o,none⟩) L.length c),(L.length-p.σ.r.length:Nat),p.σ.op,p.σ.a8,p.σ.at_,.ak 1,.ak 2,(0:Int)]),(1,.row 181 4 p.σ.aH.length (p.cs.map .v)),(2,.row 123 3 p.l.length ((oK p.l).map .v))]⟩)
   KH.W KH.bs (λp=>p.σ.ok ⟨b,o,c,L⟩ p.W (bw (b1 w S) p.bs)/\gR p.W (bw (b1 w S) p.bs) p.cs p.σ.aH/\(p.σ.r.length<=p.n/\p.l.length+p.n<=L.length)/\tD L.length p.n p.l p.σ=R) (λp=>p.n) ⟨cy,ck,[],[],tE L,L.length⟩ rfl rfl ?_ ⟨qR,trivial,⟨eo _,bq⟩,dW⟩ ?_
  ·exact b8 (λk=>if k=1 then .nil else if k=2 then .nil else if k=3 then .key 128 else .key k) (b3 ja @tE.eq_1 @FF @oK.eq_1)
  rintro⟨cL,c7,h9,l,bB,n⟩ ⟨hK,tC,⟨aE,JH⟩,cu⟩ cq;simp only at hK tC aE JH cu cq;dsimp only;have eO:=cT.ext cq;have jv:=hK.1.KD;obtain⟨⟨D,O,B⟩,_⟩:=hK.1;obtain⟨ee,fh,gO⟩:=Fb D.1 O B.ne;simp only at O ee fh gO jv;have sd:=O.length_le;have kS:=B.pos
  have aAm:(⟨#[108,101,116]⟩:ao)=ET:=rfl;refine ae.seq ?_;refine dh aa (de ja ee fh gO aAm) ?_ ?_
  ·exact⟨λ_=>by omega,λ_=>jv,λ_=>by omega,λ_=>jv⟩
  refine bC ja ?_ ?_<;>intro J
  ·have hm:bB.a8=0/\(aF bB.r).1=1/\(aF bB.r).2.2=ET:=by
    simp only[ob,oa]at J;exact⟨J.1.1,J.1.2,J.2⟩
   clear J;have ad:(aF bB.r).1≠0:=U;obtain⟨ek,dE,eY,n3⟩:=hK.1.next ad
   obtain⟨⟨m0,m2,m3⟩,_⟩:=ek;obtain⟨vp,Oq,y3⟩:=Fb m0.1 m2 m3.ne;have aN:=hK.1.2.2;simp only at dE n3 aN m2 vp Oq y3;have HT:=cX.next hK.1.1.2.2 ad
   have n5:=hK.mG HT U;have SA:=n5.1.KD;simp only at SA;have aif:=m2.length_le;have aEy:=m3.pos;obtain⟨n,rfl⟩:∃k,n=k+1:=⟨n-1,U⟩;rw[tD,al hm]at cu;have fS:IntKind.i64.wrap (((L.length-bB.r.length:Nat):Int)+1)=((L.length-(bI bB).r.length:Nat):Int):=by rw[gb U U];omega
   refine dL aa (I ja fS) ?_;refine dh aa (b3 ja vp Oq y3) ?_ ?_
   ·exact⟨U,SA,U,SA⟩
   refine ae.seq ?_;refine dh (se ⟨b,o,c,L⟩ (bI bB) h9 (oK l) l.length 0) (b3 ja vp Oq y3) ?_ ?_
   ·exact⟨U,SA⟩
   refine bC ja ?_ ?_<;>intro J
   ·have Z:¬((aF (bI bB).r).1=1/\ed (aF (bI bB).r).2.2=0):=by
     intro h;simp[h.1,h.2]at J
    rw[ab Z]at cu;have aAn:=cX.fail 60 aq n5.1.1.2.2;have yz:=n5.mG aAn U;have Yq:gR cL (bw (b1 w S) c7) h9 (hB 60 (bI bB)).aH:=by rw[KC];exact tC
    refine aL (se ⟨b,o,c,L⟩ (bI bB) h9 (oK l) l.length 0) ja ?_ ?_
    ·exact⟨⟨⟨rfl,_,rfl⟩,n5.1.out⟩,aq,λ_ h=>h.elim⟩
    refine c6 ?_;refine⟨⟨cL,c7,h9,l,hB 60 (bI bB),0⟩,⟨yz,Yq,cu.symm,by dsimp only;omega⟩,rfl,rfl,?_⟩;exact b8 (λk=>if k=1 then .key 845 else if k=2 then .key 846 else .key k) ja
   have Z:(aF (bI bB).r).1=1/\ed (aF (bI bB).r).2.2=0:=aC J
   clear J;rw[al Z]at cu;have wF:(aF (bI bB).r).1≠0:=U;obtain⟨z0,JW,z2,z3⟩:=n5.1.next wF
   simp only at JW z3;have aAo:=cX.next n5.1.1.2.2 wF
   have yz:=n5.mG aAo U;have aip:=cX.want (m:=ru) yz.1.1.2.2;have vV:=yz.mG aip U;have aAp:gR cL (bw (b1 w S) c7) h9 (cJ ru (bI (bI bB))).aH:=by rw[yy];exact tC
   have aiq:=gn.qb L.length 0 _ vV.1.1.2.2;have KE:=vV.mG aiq U;have aAq:n2 L.length (cJ ru (bI (bI bB))):=λ_=>vV.1.1.2.1.length_le
   have Va:=aip.pT.length_le;have aAr:=aiq.pT.length_le;have bg:(⟨#[61]⟩:ao)=ru:=rfl;have bN:(⟨#[59]⟩:ao)=tz:=rfl;have JY:IntKind.i64.wrap (((L.length-(bI bB).r.length:Nat):Int)+1)=((L.length-(bI (bI bB)).r.length:Nat):Int):=by rw[gb U U];omega
   simp only at cu;generalize bo:hD L.length 0 (cJ ru (bI (bI bB)))=F at *;obtain⟨a,air⟩:=F;simp only at cu KE aAr;have ais:=cX.want (m:=tz) KE.1.1.2.2;have aAs:=KE.mG ais U;have aEz:=ais.pT.length_le;refine bk aa (I ja JY) ?_
   refine aL (se ⟨b,o,c,L⟩ (bI (bI bB)) h9 (oK l) l.length 0) (I ja bg) ?_ ?_
   ·exact⟨⟨⟨rfl,_,rfl⟩,yz.1.out⟩,aq,λ_ h=>h.elim⟩
   refine aL (KB (b1 w S) ⟨b,o,c,L⟩ (cJ ru (bI (bI bB))) h9 (oK l) l.length 0 0 (hD L.length 0) (n2 L.length) (Yt L.length 0 aq aq)) (I ja bo) ?_ ?_
   ·exact⟨⟨⟨aAq,vV⟩,aAp⟩,aq,(λ_ h=>h.elim),eO⟩
   refine ae.dt 927 (aJ ja) (bT.refl _ _) λe0 eu n7 du e1=>?_
   have eQ:=uH (K:=927) e1;have aAt := KE.mono du.cc;refine aL (se ⟨b,o,c,L⟩ air n7 (oK l) l.length 0) (aT ja bN eQ) ?_ ?_
   ·exact⟨⟨⟨_,rfl⟩,aAt.1.out⟩,aq,λ_ h=>h.elim⟩
   refine iP aa ja ?_ ?_
   ·exact⟨by unfold maxLen;omega,U⟩
   have em:List.map ag.v (oK l)++[.v (.int .i64 ((aF (bI bB).r).2.1:Nat)),.v (.string (aF (bI bB).r).2.2),.v (.int .i64 (a:Nat))]=List.map ag.v (oK (l++[⟨(aF (bI bB).r).2.1,(aF (bI bB).r).2.2,a⟩])):=by rw[aAh,sY];rfl
   have el:(l++[(⟨(aF (bI bB).r).2.1,(aF (bI bB).r).2.2,a⟩:nE)]).length=l.length+1:=by simp
   refine⟨⟨e0,eu,n7,l++[⟨(aF (bI bB).r).2.1,(aF (bI bB).r).2.2,a⟩],cJ tz air,n⟩,⟨aAs.mono du.cc,by dsimp only;rw[yy];exact e1,⟨by dsimp only;omega,by dsimp only;rw[el];omega⟩,cu⟩,by dsimp only;omega,rfl,rfl,?_⟩
   exact b8 (λk=>if k=1 then .key 957 else if k=2 then .key 1024 else .key k) (de ja em el eQ @yy)
  ·have hm:¬(bB.a8=0/\(aF bB.r).1=1/\(aF bB.r).2.2=ET):=by
    rintro⟨D,O,B⟩;simp[D,O,B]at J
   have kd:R=(l,bB):=by
    rw[<- cu];cases n with
    |zero=>rfl
    |succ n=>rw[tD,ab hm]
   refine c6 ?_;refine⟨⟨cL,c7,h9,l,bB,0⟩,⟨hK,tC,kd,by dsimp only;omega⟩,rfl,rfl,?_⟩;exact bh ja
 rintro⟨GN,GO,Yu,l,Ff,n4⟩ ⟨Ot,ait,rfl,aAu⟩ xX;simp only at Ot ait aAu xX;dsimp only;have Ky:=cT.ext xX;have aAv:n2 L.length Ff:=λ_=>Ot.1.1.2.1.length_le
 have aiu:=gn.qb L.length 0 _ Ot.1.1.2.2;have Yv:=Ot.mG aiu U;obtain⟨b2,lg,bo⟩:∃a cd,hD L.length 0 Ff=(a,cd):=⟨_,_,rfl⟩;rw[bo]at aiu Yv;simp only at Yv
 have ta:z7 s (if(l5 (hD L.length 0 Ff).2).a8=0 then .ok ((l5 (hD L.length 0 Ff).2).aH,l,(hD L.length 0 Ff).1) else .error ((l5 (hD L.length 0 Ff).2).a8,(l5 (hD L.length 0 Ff).2).at_))=z7 s (if(l5 lg).a8=0 then .ok ((l5 lg).aH,l,b2) else .error ((l5 lg).a8,(l5 lg).at_)):=by simp only[bo]
 rw[ta];refine aL (KB (b1 w S) ⟨b,o,c,L⟩ Ff Yu (oK l) l.length 0 0 (hD L.length 0) (n2 L.length) (Yt L.length 0 aq aq)) (I ja bo) ?_ ?_
 ·exact⟨⟨⟨aAv,Ot⟩,ait⟩,aq,(λ_ h=>h.elim),Ky⟩
 refine ae.dt 1143 (aJ ja) (bT.refl _ _) λOu Ov Bz C7 Ow=>?_
 have SB:=uH (K:=1143) Ow;have SC:=Ky.ext C7;have vV:=Yv.mono C7.cc;have jv:=vV.1.KD;obtain⟨⟨D,O,B⟩,_⟩:=vV.1;obtain⟨ee,fh,gO⟩:=Fb D.1 O B.ne;simp only at O ee fh gO jv;have sd:=O.length_le;have kS:=B.pos;have aAw:gR Ou (bw (b1 w S) Ov) Bz (l5 lg).aH:=by rw[aAk];exact Ow
 refine rb (λ_:Unit=>⟨200,bK [(2,.is (.own 0 0)),(8,.is (.own 3 0))],bA [(0,.cells 117 [.v (.slice none 0 0),.v (.slice none 0 0),(0:Int)]),(3,.cells 178 [.v (.slice (some ⟨b,o,none⟩) L.length c),(L.length-(l5 lg).r.length:Nat),.v (.int .i64 (l5 lg).op),.v (.int .i64 (l5 lg).a8),((l5 lg).at_),.ak 1,.ak 2,b2]),(1,.row 181 4 (l5 lg).aH.length (Bz.map .v)),(2,.row 123 3 l.length ((oK l).map .v))]⟩) (λ_=>Ou) (λ_=>Ov) (λ_=>True) ?_ ?_
 ·skip;refine dh aa (de ja ee fh gO SB) ?_ ?_
  ·exact⟨λ_=>by omega,λ_=>jv⟩
  refine bC ja ?_ ?_<;>intro J
  ·have hm:lg.a8=0/\¬(aF lg.r).1=0:=aC J
   refine wr (se ⟨b,o,c,L⟩ lg Bz (oK l) l.length (b2:Nat)) (I ja SB) ?_ ?_
   ·exact⟨⟨⟨_,rfl⟩,vV.1.out⟩,aq,λ_ h=>h.elim⟩
   have Yw:l5 lg=hB 60 lg:=al hm;refine⟨(),trivial,rfl,rfl,?_⟩;exact b8 (λk=>if k=1 then .key 1341 else if k=2 then .key 1342 else .key k) (aT ja Yw SB)
  ·have hm:¬(lg.a8=0/\¬(aF lg.r).1=0):=by
    rintro⟨g1,g2⟩;simp[g1,g2]at J
   have Yw:l5 lg=lg:=ab hm;refine a1 ?_;refine⟨(),trivial,rfl,rfl,?_⟩;exact b8 (λk=>if k=1 then .key 1141 else if k=2 then .key 1142 else .key k) (aT ja Yw SB)
 rintro - - aEA;refine ae.seq ?_;refine aR aa ja ?_ ?_<;>intro J
 ·have Yx:¬(l5 lg).a8=0:=aC J
  rw[ab Yx];refine hs aa ja ?_;exact bE (aT ja @z7.eq_1 @z7.eq_2)
 have Yx:(l5 lg).a8=0:=aC J
 rw[al Yx];refine a1 ?_;refine ae.rQ 1 (aJ (I ja @gr)) (λE=>by simp only[ba,den,gr];exact rfl) λYy Yz HU uw SD YA aiv=>?_
 refine ae.rQ 2 (aJ (I ja @gr)) (λE=>by simp only[ba,den,gr];exact rfl) λaAx aAy YB rY aiw aAz aAA=>?_
 have aAB:=SC.ext SD;have g6:b0 Yy (bw (b1 w S) Yz) HU Bz:=YA.out λb Z=>⟨SC b Z.2,Z.1⟩
 have g7:b0 aAx (bw (b1 w S) aAy) YB (oK l):=aAz.out λb Z=>⟨aAB b Z.2,Z.1⟩
 refine aA aa ja ?_;refine bf (aT ja @z7.eq_1 @z7.eq_2) ?_;exact⟨[.slice HU (l5 lg).aH.length uw,.slice YB l.length rY],λE=>rfl,Bz,HU,uw,YB,rY,rfl,g6.mono aiw.cc,(aAw.mono SD.cc).mono aiw.cc,aiv,g7,aAA⟩
abbrev aix (s:ao):py Tryz.prog 55:=Jg (λW S=>s.size<=9223372036854775807) (λ_ _ _ _ _ h=>h) Tryz.call55 λw S hp=>aAl s hp w S
section
variable (l:List bj)(ay:dj)(c:Nat)(r:Int)
abbrev tG (l:List bj)(ay:dj)(c:Nat)(r:Int)(i:Nat)(n:Nat):Prop:=∀w,qx w ay (cw l)->cQ 201 #[Bd ay l.length c r,i] w (.int .i64 (n:Nat))
def YC(x y a b:Nat)(aQ:tG l ay c r x a)(Z:tG l ay c r y b):cV Tryz.prog 201 where
 pre:=λW bs aj=>(∃i:Nat,aj=[.val (Bd ay l.length c r),.val (.int .i64 (i:Nat))]/\(i=x\/i=y))/\b0 W (Out bs) ay (cw l)
 res:=λ_ aj=>match aj with
  |[_,.val (.int _ i)]=>.int .i64 ((if i=x then a else b:Nat):Nat)
  |_=>undef
 enters:=Tryz.call201
 ok:=by
  intro W w bs us aj ad hu hp;obtain⟨⟨i,rfl,hi⟩,D⟩:=hp
  match us,hu with
  |[u,v],hu=>
   obtain⟨rfl,rfl,_⟩:=hu;by_cases aB:i=x
   ·subst aB;have:=aQ w (CQ D ad);simpa using this
   ·have cG:i=y:=hi.resolve_left aB;subst cG;have:=Z w (CQ D ad);have aAC:¬((i:Nat):Int)=(x:Int):=U;simpa [aAC] using this
def aAD(W:ar)(bs:aD)(x y a b:Nat)(aQ:tG l ay c r x a)(Z:tG l ay c r y b)(i:Nat):(YC l ay c r x y a b aQ Z).pre W bs [.val (Bd ay l.length c r),.val (.int .i64 (i:Nat))]=((i=x\/i=y)/\b0 W (Out bs) ay (cw l)):=by
 apply propext;constructor
 ·rintro⟨⟨kp,h,D⟩,O⟩;simp at h;have h:i=kp := U;subst h;exact⟨D,O⟩
 ·exact λh=>⟨⟨i,rfl,h.1⟩,h.2⟩
theorem aAE(W:ar)(x y a b:Nat)(aQ:tG l ay c r x a)(Z:tG l ay c r y b)(v:br)(k:IntKind)(i:Int):(YC l ay c r x y a b aQ Z).res W [v,.val (.int k i)]=.int .i64 ((if i=x then a else b:Nat):Nat):=rfl
abbrev YD(x y a b:Nat)(aQ:tG l ay c r x a)(Z:tG l ay c r y b):Env Tryz.prog:=a7 ((YC l ay c r x y a b aQ Z).spec) aa
def pU:=(b3 (ch va vb vc @qa @pr.eq_1 @pt @qd @No) (ch @Np @Nq @Nr @Ns @JK @Nn @Rc @Rf) (ch @Rd @bQ @vv @A4 @zq @vx @Ro @aAD) @aAE)
def aiy(i:Nat)(d:bj)(ak:l[i]?=some d)(cm:d.op<2):tG l ay c r i 1:=by
 intro w V;obtain⟨hi,ak⟩:=kC.1 ak;have jV:b0 w (Out []) ay (cw l):=(b0.s8 V).out λ_ _=>by simp[Out]
 obtain⟨vB,o,rfl,Z,bD,cq⟩:=x9 jV hi;rw[ak]at bD;refine cB (nt:=32) [.tmp 4] Tryz.func201 ?_;refine aA aa pU ?_;refine ae.s7 aa bX (xQ pU (I bD cq)) rfl ?_ ?_
 ·exact⟨U,bq,bj.pG d⟩
 refine ae.seq ?_;refine aR aa pU ?_ ?_<;>intro J
 ·skip;refine aA aa pU ?_;exact bE pU
 ·exfalso;simp at J;omega
def aAF(i x n:Nat)(d:bj)(ak:l[i]?=some d)(cm:d.op=4)(oc:d.a=x)(aE:n<=4000000)(cb:tG l ay c r x n):tG l ay c r i (n+1):=by
 intro w V;obtain⟨hi,ak⟩:=kC.1 ak;have jV:b0 w (Out []) ay (cw l):=(b0.s8 V).out λ_ _=>by simp[Out]
 obtain⟨vB,o,rfl,Z,bD,cq⟩:=x9 jV hi;rw[ak]at bD;have wn:=iv (1+(n:Int)) ((n+1:Nat):Int);refine cB (nt:=32) [.tmp 4] Tryz.func201 ?_;refine aA aa pU ?_;refine ae.s7 aa bX (xQ pU (I bD cq)) rfl ?_ ?_
 ·exact⟨U,bq,bj.pG d⟩
 refine bk aa (I pU cm) ?_;refine dL aa pU ?_;refine aA aa (I pU cm) ?_;refine fu (Γ:=aa) trivial pU ?_;skip;refine aL (YD l (some ⟨vB,o,none⟩) c r x x n n cb cb) (aT pU oc wn) ?_ ?_
 ·exact jV
 exact bE pU
def SE(i x y n m:Nat)(d:bj)(ak:l[i]?=some d)(Hs:¬d.op<2)(aAG:¬d.op=4)(oc:d.a=x)(zm:d.b=y)(Rt:x<y)(aE:n+m<=4000000)(cb:tG l ay c r x n)(gj:tG l ay c r y m):tG l ay c r i (n+m+1):=by
 intro w V;obtain⟨hi,ak⟩:=kC.1 ak;have jV:b0 w (Out []) ay (cw l):=(b0.s8 V).out λ_ _=>by simp[Out]
 obtain⟨vB,o,rfl,Z,bD,cq⟩:=x9 jV hi;rw[ak]at bD;have wn:=iv (1+(n:Int)) ((n+1:Nat):Int);have wS:=iv (((n+1:Nat):Int)+(m:Int)) ((n+m+1:Nat):Int);have eL:¬((y:Nat):Int)=((x:Nat):Int):=U;refine cB (nt:=32) [.tmp 4] Tryz.func201 ?_;refine aA aa pU ?_
 refine ae.s7 aa bX (xQ pU (I bD cq)) rfl ?_ ?_
 ·exact⟨U,bq,bj.pG d⟩
 refine ae.seq ?_;refine aR aa pU ?_ ?_<;>intro J
 ·exact absurd (aC J) Hs
 clear J;refine a1 ?_;refine ae.seq ?_;refine aR aa pU ?_ ?_<;>intro J
 ·exact absurd (aC J) aAG
 refine a1 ?_;refine dh (YD l (some ⟨vB,o,none⟩) c r x y n m cb gj) (eI pU oc zm wn wS (Qo eL)) ?_ ?_
 ·exact⟨jV,.inr trivial,jV⟩
 exact bE pU
def BA:∀(t:bm) (i:Nat),aG t<=4000000->fl l i t->tG l ay c r i (aG t)
 |.bV,i,_,⟨d,D,O⟩=>aiy l ay c r i d D U
 |.cls S,i,_,⟨d,D,O,_⟩=>aiy l ay c r i d D U
 |.star a,i,bx,⟨d,x,D,O,B,aU⟩=>by have BZ:aG a+1<=4000000:=bx;exact aAF l ay c r i x (aG a) d D O B U (BA a x U aU)
 |.cat a b,i,bx,⟨d,x,y,D,O,B,aU,bn,cA,c1⟩=>by have BZ:aG a+aG b+1<=4000000:=bx;exact SE l ay c r i x y (aG a) (aG b) d D U U B aU bn U (BA a x U cA) (BA b y U c1)
 |.alt a b,i,bx,⟨d,x,y,D,O,B,aU,bn,cA,c1⟩=>by have BZ:aG a+aG b+1<=4000000:=bx;exact SE l ay c r i x y (aG a) (aG b) d D U U B aU bn U (BA a x U cA) (BA b y U c1)
 |.and a b,i,bx,⟨d,x,y,D,O,B,aU,bn,cA,c1⟩=>by have BZ:aG a+aG b+1<=4000000:=bx;exact SE l ay c r i x y (aG a) (aG b) d D U U B aU bn U (BA a x U cA) (BA b y U c1)
 |.minus a b,i,bx,⟨d,x,y,D,O,B,aU,bn,cA,c1⟩=>by have BZ:aG a+aG b+1<=4000000:=bx;exact SE l ay c r i x y (aG a) (aG b) d D U U B aU bn U (BA a x U cA) (BA b y U c1)
def aAH(i n:Nat)(cb:tG l ay c i i n)(w:ar)(V:qx w ay (cw l)):cQ 149 #[Bd ay l.length c i] w (.int .i64 (n:Nat)):=by
 have jV:b0 w (Out []) ay (cw l):=(b0.s8 V).out λ_ _=>by simp[Out]
 refine cB (nt:=7) [.tmp 2] Tryz.func149 ?_;refine aA aa pU ?_;refine aL (YD l ay c i i i n n cb cb) pU ?_ ?_
 ·exact jV
 exact bE pU
end
def Di(s:ao):Bool:=decide (s=(⟨#[99,111,112,121]⟩:ao)\/s=(⟨#[107,101,121]⟩:ao)\/s=(⟨#[105,100]⟩:ao)\/s=(⟨#[102,111,108,100]⟩:ao))
def gE(s:ao):ByteArray:=
 if Di s=true then⟨#[114]⟩
 else if s=(⟨#[105,110,115]⟩:ao) then⟨#[116]⟩
 else if s=(⟨#[100,101,108]⟩:ao) then⟨#[114,116]⟩
 else if s=(⟨#[110,111,114,109]⟩:ao) then⟨#[114,116,116]⟩
 else if s=(⟨#[108,101,102,116]⟩:ao) then⟨#[113,108]⟩
 else if s=(⟨#[114,105,103,104,116]⟩:ao) then⟨#[108,113]⟩
 else⟨#[108,116]⟩
def lh:=ez
def aAI(w:ar):cQ 154 #[s] w (.string (gE s)):=by
 refine cB (nt:=19) [.tmp 2] Tryz.func154 ?_;refine gJ aa lh ?_;refine rb (λ_:Unit=>⟨20,bK [(0,s),(3,s),(4,(Di s))],bA []⟩) (λ_=>w) (λ_=>[]) (λ_=>True) ?_ ?_
 ·skip;refine aR aa lh ?_ ?_<;>intro J
  ·have A:s=(⟨#[99,111,112,121]⟩:ao):=aC J
   have aW:Di s=true:=nJ (.inl A);refine a1 ?_;refine⟨(),trivial,rfl,rfl,?_⟩;exact bh (aT lh aW A)
  have A:¬s=(⟨#[99,111,112,121]⟩:ao):=aC J
  clear J;refine aR aa lh ?_ ?_<;>intro J
  ·have D:s=(⟨#[107,101,121]⟩:ao):=aC J
   have aW:Di s=true:=nJ (.inr (.inl D));refine a1 ?_;refine⟨(),trivial,rfl,rfl,?_⟩;exact bh (aT lh aW D)
  have D:¬s=(⟨#[107,101,121]⟩:ao):=aC J
  clear J;refine aR aa lh ?_ ?_<;>intro J
  ·have O:s=(⟨#[105,100]⟩:ao):=aC J
   have aW:Di s=true:=nJ (.inr (.inr (.inl O)));refine a1 ?_;refine⟨(),trivial,rfl,rfl,?_⟩;exact bh (aT lh aW O)
  have O:¬s=(⟨#[105,100]⟩:ao):=aC J
  clear J;refine bY aa lh ?_;have aW:Di s=decide (s=(⟨#[102,111,108,100]⟩:ao)):=by unfold Di;rw[uV];exact⟨λh=>(h.resolve_left A |>.resolve_left D).resolve_left O,λh=>.inr (.inr (.inr h))⟩
  refine⟨(),trivial,rfl,rfl,?_⟩;exact bh (I lh aW)
 rintro - - aB;refine bC lh ?_ ?_<;>intro J
 ·have h:Di s=true:=J;refine aA aa lh ?_;refine bf lh ?_;intro E;rw[gE,al h];rfl
 have A:¬Di s=true:=by intro h;exact absurd (h.symm.trans J) aq
 clear J;refine aR aa lh ?_ ?_<;>intro J
 ·have g0:s=(⟨#[105,110,115]⟩:ao):=aC J
  refine aA aa lh ?_;refine bf lh ?_;intro E;rw[gE,ab A,al g0];rfl
 have g0:¬s=(⟨#[105,110,115]⟩:ao):=aC J
 clear J;refine aR aa lh ?_ ?_<;>intro J
 ·have g1:s=(⟨#[100,101,108]⟩:ao):=aC J
  refine aA aa lh ?_;refine bf lh ?_;intro E;rw[gE,ab A,ab g0,al g1];rfl
 have g1:¬s=(⟨#[100,101,108]⟩:ao):=aC J
 clear J;refine aR aa lh ?_ ?_<;>intro J
 ·have g2:s=(⟨#[110,111,114,109]⟩:ao):=aC J
  refine aA aa lh ?_;refine bf lh ?_;intro E;rw[gE,ab A,ab g0,ab g1,al g2];rfl
 have g2:¬s=(⟨#[110,111,114,109]⟩:ao):=aC J
 clear J;refine aR aa lh ?_ ?_<;>intro J
 ·have g3:s=(⟨#[108,101,102,116]⟩:ao):=aC J
  refine aA aa lh ?_;refine bf lh ?_;intro E;rw[gE,ab A,ab g0,ab g1,ab g2,al g3];rfl
 have g3:¬s=(⟨#[108,101,102,116]⟩:ao):=aC J
 clear J;refine aR aa lh ?_ ?_<;>intro J
 ·have g4:s=(⟨#[114,105,103,104,116]⟩:ao):=aC J
  refine aA aa lh ?_;refine bf lh ?_;intro E;rw[gE,ab A,ab g0,ab g1,ab g2,ab g3,al g4];rfl
 have g4:¬s=(⟨#[114,105,103,104,116]⟩:ao):=aC J
 clear J;refine bk aa lh ?_;refine bf lh ?_;intro E;rw[gE,ab A,ab g0,ab g1,ab g2,ab g3,ab g4];rfl
abbrev YE:cV Tryz.prog 154 where
 pre:=λW bs aj=>∃s:ByteArray,aj=[.val (.string s)]
 res:=λ_ aj=>match aj with
  |[.val (.string s)]=>.string (gE s)
  |_=>undef
 enters:=Tryz.call154
 ok:=by
  intro W w bs us aj ad hu hp;obtain⟨s,rfl⟩:=hp
  match us,hu with
  |[x],hu=>obtain⟨rfl,_⟩:=hu;exact aAI s w
def aAJ(k:Int)(op:ao)(a:Int)(w:ar):cQ 90 #[k,op,a] w (.agg #[k,op,a,.slice none 0 0,(0:Int),.string ⟨#[]⟩,.string ⟨#[]⟩,(-1:Int),(-1:Int),(-1:Int),(0:Int)]):=by refine cB (nt:=11) [.cell 6 66] Tryz.func90 ?_;refine bk aa lh ?_;exact bE lh
abbrev KI:cV Tryz.prog 90 where
 pre:=λW bs aj=>∃(k:Int) (op:ao) (a:Int),aj=[.val (.int .i64 k),.val (.string op),.val (.int .i64 a)]
 res:=λ_ aj=>match aj with
  |[.val (.int _ k),.val (.string op),.val (.int _ a)]=>.agg #[k,op,a,.slice none 0 0,(0:Int),.string ⟨#[]⟩,.string ⟨#[]⟩,(-1:Int),(-1:Int),(-1:Int),(0:Int)]
  |_=>undef
 enters:=Tryz.call90
 ok:=by
  intro W w bs us aj ad hu hp;obtain⟨k,op,a,rfl⟩:=hp
  match us,hu with
  |[x,y,aE7],hu=>obtain⟨rfl,rfl,rfl,_⟩:=hu;exact aAJ k op a w
structure cF where
 k:Nat
 op:ByteArray
 at_:Int
 cO:Option bm
 t:ByteArray
 dA:ByteArray
 a:Int
 b:Int
 q:Int
 aw:Nat
structure bc where
 ai:List cF
 a8:Int
 at_:Int
def cY(e p:Int)(σ:bc):bc:=if σ.a8=0 then{ σ with a8:=e,at_:=p } else σ
def qV(W:ar)(S:aY)(n r:aM):Option bm->Prop
 |none=>n=.slice none 0 0/\r=.int .i64 0
 |some t=>∃(l:List bj) (ay:dj) (c i:Nat),n=.slice ay l.length c/\r=.int .i64 (i:Nat)/\b0 W S ay (cw l)/\fl l i t/\l.length<=c/\l.length=aG t
theorem qV.mono{W aO:World}{S bz:Nat->Prop}{n r:aM}{x:Option bm}(h:qV W S n r x)(V:bT W S aO bz):qV aO bz n r x:=by
 cases x with
 |none=>exact h
 |some t=>obtain⟨l,ay,c,i,D,O,B,aU⟩:=h;exact⟨l,ay,c,i,D,O,B.mono V,aU⟩
def qV.one{S:aY}{n r:aM}{x:Option bm}(h:qV W S n r x):LE.au n=n/\LE.au r=r:=by
 cases x with
 |none=>obtain⟨rfl,rfl⟩:=h;exact⟨rfl,rfl⟩
 |some t=>obtain⟨l,ay,c,i,rfl,rfl,_⟩:=h;exact⟨rfl,rfl⟩
def fb(d:cF)(n r:aM):List Value:=[.int .i64 (d.k:Nat),.string d.op,.int .i64 d.at_,n,r,.string d.t,.string d.dA,.int .i64 d.a,.int .i64 d.b,.int .i64 d.q,.int .i64 (d.aw:Nat)]
inductive fq (W:ar) (S:aY):List Value->List cF->Prop
 |nil:fq W S [] []
 |snoc (cs:aX) (az:List cF) (d:cF) (n r:aM):fq W S cs az->qV W S n r d.cO->fq W S (cs++fb d n r) (az++[d])
theorem fq.mono{W aO:World}{S bz:Nat->Prop}(V:bT W S aO bz){cs:aX}{az:List cF}(h:fq W S cs az):fq aO bz cs az:=by
 induction h with
 |nil=>exact .nil
 |snoc cs az d n r D O bb=>exact .snoc cs az d n r bb (O.mono V)
theorem fq.len{S:aY}{az:List cF}(h:fq W S cs az):cs.length=az.length*11:=by
 induction h with
 |nil=>rfl
 |snoc cs az d n r D O bb=>simp only[ec,bb,fb,l9,uW];omega
def fq.au{S:aY}{az:List cF}(h:fq W S cs az):∀c∈cs,LE.au c=c:=by
 induction h with
 |nil=>intro c J;cases J
 |snoc cs az d n r D O bb=>
  obtain⟨g1,g2⟩:=O.one;intro c J;rcases hq.1 J with J|J
  ·exact bb c J
  ·simp only[fb,gG,tS,uX]at J;rcases J with rfl|rfl|rfl|rfl|rfl|rfl|rfl|rfl|rfl|rfl|rfl
   ·rfl
   ·rfl
   ·rfl
   ·exact g1
   ·exact g2
   ·rfl
   ·rfl
   ·rfl
   ·rfl
   ·rfl
   ·rfl
def YF(az:List cF):lr where
 Φ:=λcs W S=>fq W S cs az
 mono:=λV h=>h.mono V
def kP(σ:bc)(cs:aX)(rt:Int):List br:=[.row 66 11 σ.ai.length cs,.val (.int .i64 rt),.val (.int .i64 σ.a8),.val (.int .i64 σ.at_)]
def Fg(σ:bc)(rt:Int):List hZ:=[.D3 66 11 σ.ai.length (σ.ai.length*11),.eg (.val (.int .i64 rt)),.eg (.val (.int .i64 σ.a8)),.eg (.val (.int .i64 σ.at_))]
theorem lH(σ:bc)(cs:aX)(rt:Int):px cs (Fg σ rt)=kP σ cs rt:=rfl
def lI{S:aY}{σ:bc}{rt:Int}(h:fq W S cs σ.ai):IU cs (Fg σ rt):=by
 refine .inr ⟨λx aB=>?_,h.au⟩;simp only[Fg,gG,tS,uX]at aB;rcases aB with rfl|rfl|rfl|rfl
 ·exact h.len
 ·trivial
 ·trivial
 ·trivial
def BB:=(I ez @kP.eq_1)
def aAK(σ:bc)(cs:aX)(rt e p:Int)(u:aM)(fp:aD)(w:ar)(H:eH w u fp 59 (kP σ cs rt))(ax:∀b∈fp,b<w.heap.size) :
  Calls Tryz.prog 56 (#[u]++#[.int .i64 e,.int .i64 p]) w λx M=>h0 w u fp 59 x M (.ret (.int .i64 0) (kP (cY e p σ) cs rt)):=by
 refine jP (nt:=20) [.tmp 6] H ax Tryz.func56 ?_;refine bk aa BB ?_;refine aR aa BB ?_ ?_<;>intro J
 ·have he:σ.a8=0:=aC J
  rw[cY,al he];refine aA aa BB ?_;refine bY aa BB ?_;refine aA aa BB ?_;refine bf BB ?_;exact eC (I BB @bQ)
 have he:¬σ.a8=0:=aC J
 rw[cY,ab he];refine bk aa BB ?_;refine bf BB ?_;exact eC (I BB @bQ)
abbrev SF (σ:bc)(cs:aX)(rt:Int):iO Tryz.prog 56 where
 T:=59
 pre:=λW bs fs aj=>fs=kP σ cs rt/\∃e p,aj=[.val (.int .i64 e),.val (.int .i64 p)]
 out:=λW fs aj=>match aj with
  |[.val (.int _ e),.val (.int _ p)]=>.ret (.int .i64 0) (kP (cY e p σ) cs rt)
  |_=>.b7 [] undef
 enters:=Tryz.call56
 ok:=by
  intro W w bs u fp us fs aj ad H ax fi hu hp;obtain⟨rfl,e,p,rfl⟩:=hp
  match us,hu with
  |[x,y],hu=>obtain⟨rfl,rfl,_⟩:=hu;exact aAK σ cs rt e p u fp w H ax
end
section
open Go Go.RowKit Go.LE
def fU:bO->Nat
 |.name _ _=>1
 |.text _ _=>1
 |.rx _ _=>1
 |.call _ _ l=>fU l+1
 |.keyed _ x=>fU x+1
 |.unary _ _ x=>fU x+1
 |.binary _ _ x y=>fU x+fU y+1
 |.nil=>0
 |.cons x l=>fU x+fU l
mutual
def e2(aH:List fY):bO->Nat->Prop
 |.name a s,i=>aH[i]?=some ⟨1,a,s,[]⟩
 |.text a s,i=>aH[i]?=some ⟨2,a,s,[]⟩
 |.rx a s,i=>aH[i]?=some ⟨3,a,s,[]⟩
 |.call a w l,i=>∃fQ,aH[i]?=some ⟨4,a,w,fQ⟩/\hT aH l fQ
 |.keyed a x,i=>∃p,aH[i]?=some ⟨5,a,⟨#[]⟩,[p]⟩/\e2 aH x p
 |.unary a op x,i=>∃p,aH[i]?=some ⟨6,a,op,[p]⟩/\e2 aH x p
 |.binary a op x y,i=>∃p q,aH[i]?=some ⟨7,a,op,[p,q]⟩/\e2 aH x p/\e2 aH y q
 |.nil,_=>False
 |.cons _ _,_=>False
def hT(aH:List fY):bO->List Nat->Prop
 |.cons x l,ps=>∃p r,ps=p::r/\e2 aH x p/\hT aH l r
 |.nil,ps=>ps=[]
 |.name _ _,_=>False
 |.text _ _,_=>False
 |.rx _ _,_=>False
 |.call _ _ _,_=>False
 |.keyed _ _,_=>False
 |.unary _ _ _,_=>False
 |.binary _ _ _ _,_=>False
end
theorem z8{α:Type}{l kU:List α}(h:l <+: kU){i:Nat}{d:α}(ak:l[i]?=some d):kU[i]?=some d:=by
 obtain⟨m,rfl⟩:=h
 grind
theorem aiz{aH xc:List fY}(h:aH <+: xc)(x:bO):(∀i,e2 aH x i->e2 xc x i)/\(∀ps,hT aH x ps->hT xc x ps):=by
 induction x with
 |name a s=>exact⟨λi hi=>by grind [z8,e2],λps hp=>by trivial⟩
 |text a s=>exact⟨λi hi=>by grind [z8,e2],λps hp=>by trivial⟩
 |rx a s=>exact⟨λi hi=>by grind [z8,e2],λps hp=>by trivial⟩
 |call a w l bb=>exact⟨λi hi=>by simp only[e2]at hi ⊢;obtain⟨fQ,D,O⟩:=hi;grind [z8],λps hp=>by trivial⟩
 |keyed a x bb=>exact⟨λi hi=>by simp only[e2]at hi ⊢;obtain⟨p,D,O⟩:=hi;grind [z8],λps hp=>by trivial⟩
 |unary a op x bb=>exact⟨λi hi=>by simp only[e2]at hi ⊢;obtain⟨p,D,O⟩:=hi;grind [z8],λps hp=>by trivial⟩
 |binary a op x y Ox SG=>exact⟨λi hi=>by simp only[e2]at hi ⊢;obtain⟨p,q,D,O,B⟩:=hi;grind [z8],λps hp=>by trivial⟩
 |nil=>grind [e2,hT]
 |cons x l Ox aEB=>grind [e2,hT]
theorem e2.pre{aH xc:List fY}{x:bO}{i:Nat}(aB:e2 aH x i)(h:aH <+: xc):e2 xc x i:=(aiz h x).1 i aB
theorem hT.pre{aH xc:List fY}{x:bO}{ps:aD}(aB:hT aH x ps)(h:aH <+: xc):hT xc x ps:=(aiz h x).2 ps aB
theorem hT.Bp{aH:List fY}{x:bO}{i:Nat}(aB:e2 aH x i):∀(l:bO) (ps:aD),hT aH l ps->hT aH (vF l x) (ps++[i]):=by
 intro l
 induction l with
 |cons y l _ bb=>grind [hT,vF]
 |nil=>grind [hT,vF]
 |_=>grind [hT]
def aAL:∀b:Fin 256,rr ⟨#[UInt8.ofNat b.val]⟩=jo ⟨#[UInt8.ofNat b.val]⟩:=by decide +kernel
def aAM{q:ao}(h:q.size=1):rr q=jo q:=by
 obtain⟨⟨l⟩⟩:=q
 match l,h with
 |[b],_=>have:=aAL ⟨b.toNat,b.toNat_lt⟩;simpa using this
theorem aAN:rr ⟨#[62,62]⟩=jo ⟨#[62,62]⟩:=by rfl
abbrev Fh (r:List bH):Prop:=∀t∈r,t.1=4->rr t.2.2=jo t.2.2
theorem aAO(s:ao)(i:Nat)(hi:i<s.size)(h:(dT s i).1.1=4):rr (dT s i).1.2.2=jo (dT s i).1.2.2:=by
 unfold dT at h ⊢
 repeat' (split at h<;>rename_i hh<;>(first|rw[al hh]|rw[ab hh]))
 all_goals first
  |(exfalso;revert h;dsimp only;decide)
  |exact aAN
  |(refine aAM ?_;show(s.extract _ _).size=1;rw[OO];omega)
theorem aiA(s:ao):∀n i l,Fh l->Fh (o0 s n i l).1
 |0,i,l,aN=>λt aV h=>by grind [o0]
 |n+1,i,l,aN=>by
  rw[o0];split
  ·rename_i hi;split
   ·refine aiA s n _ _ λt aV h=>?_
    grind [aAO]
   simp
  grind
def aAP(s:ao):Fh (cZ s).1:=by
 unfold cZ;split
 ·trivial
 ·exact aiA s _ _ _ (λt aV h=>by cases aV)
theorem Fh.pT{r bG:List bH}(h:Fh r)(V:bG <:+ r):Fh bG:=by grind
theorem aiB{r:List bH}(h:Fh r)(ad:(aF r).1=4):rr (aF r).2.2=jo (aF r).2.2:=by induction r<;>grind [aF]
def yA(atom:List bH->cW):Nat->bO->List bH->cW
 |0,a,r=>.ok (a,r)
 |j+1,a,r=>match yA atom j a r with
  |.error e=>.error e
  |.ok (cn,bG)=>oE (pM atom j) (4-(j:Nat)) bG.length cn bG
theorem aiC(atom:List bH->cW)(r:List bH):∀j,pM atom j r=match pL atom r with
  |.error e=>.error e
  |.ok (a,bG)=>yA atom j a bG
 |0=>by
  show pL atom r=_
  grind [yA]
 |j+1=>by
  show tx (pM atom j) (4-((j:Nat):Int)) r=_;unfold tx;rw[aiC atom r j]
  grind [yA]
def BC(j:Nat)(r:List bH):Prop:=∀i,i<j->¬((aF r).1=4/\rr (aF r).2.2=4-((i:Nat):Int))
theorem aAQ{sub:List bH->cW}{mA:Int}{a:bO}{r:List bH}(h:¬((aF r).1=4/\rr (aF r).2.2=mA)):∀n,oE sub mA n a r=.ok (a,r)
 |0=>rfl
 |n+1=>by rw[oE,ab h]
theorem SH{atom:List bH->cW}{a:bO}{r:List bH}:∀{j},BC j r->yA atom j a r=.ok (a,r)
 |0,_=>rfl
 |j+1,h=>by
  rw[yA,SH λi hi=>h i U]
  grind [aAQ,BC]
theorem aiD{sub:List bH->cW}(bJ:o3 sub 1){mA:Int}:∀n jh a r,ij r->r.length<=n->r.length<=jh -> oE sub mA n a r=oE sub mA jh a r
 |0,jh,a,r,aI,h,_=>by grind [ij.pos]
 |n+1,0,a,r,aI,_,h=>by grind [ij.pos]
 |n+1,jh+1,a,r,aI,h,bu=>by
  rw[oE,oE];by_cases J:(aF r).1=4/\rr (aF r).2.2=mA
  ·rw[al J,al J];have D:=Left.next aI U
   have mP:=D.2.2;cases V:sub r.tail with
   |error e=>rfl
   |ok p=>obtain⟨b,bG⟩:=p;have O:=bJ _ D.1 _ _ V;have lT:=O.2.2;exact aiD bJ n jh _ _ O.1 U U
  grind
theorem aiE{sub:List bH->cW}(bJ:o3 sub 1){j:Nat}(bp:∀r,ij r->∀a bG,sub r=.ok (a,bG)->BC j bG):∀n a r,ij r->BC j r->r.length<=n->∀b bG,oE sub (4-((j:Nat):Int)) n a r=.ok (b,bG)->BC (j+1) bG
 |0,a,r,aI,V,aE,b,bG,he=>by grind [ij.pos]
 |n+1,a,r,aI,V,aE,b,bG,he=>by
  rw[oE]at he;by_cases J:(aF r).1=4/\rr (aF r).2.2=4-((j:Nat):Int)
  ·rw[al J]at he;have D:=Left.next aI U
   have mP:=D.2.2;cases Oy:sub r.tail with
   |error e=>simp_all
   |ok p=>obtain⟨c,cE⟩:=p;rw[Oy]at he;have O:=bJ _ D.1 _ _ Oy;have lT:=O.2.2;exact aiE bJ bp n _ _ O.1 (bp _ D.1 _ _ Oy) U _ _ he
  grind [BC]
theorem YG{atom:List bH->cW}(bJ:o3 atom 1):∀j r,ij r->∀a bG,pM atom j r=.ok (a,bG)->BC j bG
 |0,r,aI,a,bG,he=>λi hi=>by omega
 |j+1,r,aI,a,bG,he=>by
  have ma:tx (pM atom j) (4-((j:Nat):Int)) r=.ok (a,bG):=he;unfold tx at ma;cases V:pM atom j r with
  |error e=>simp_all
  |ok p=>obtain⟨b,cE⟩:=p;rw[V]at ma;have O:=CW bJ j _ aI _ _ V;exact aiE (CW bJ j) (λr aI a bG=>YG bJ j r aI a bG) _ _ _ O.1 (YG bJ j r aI _ _ V) (eo _) _ _ ma
theorem aiF{atom:List bH->cW}(bJ:o3 atom 1){k:Nat}{x:bO}{r:List bH}(aI:ij r)(V:BC k r)(J:(aF r).1=4/\rr (aF r).2.2=4-((k:Nat):Int)):∀j,k<j->yA atom j x r=match pM atom k r.tail with
  |.error e=>.error e
  |.ok (b,bG)=>yA atom j (.binary (aF r).2.1 (aF r).2.2 x b) bG
 |0,h=>by omega
 |j+1,h=>by
  rcases Lf k j with ad|ad
  ·rw[yA,aiF bJ aI V J j ad];cases pM atom k r.tail with
   |error e=>rfl
   |ok p=>rfl
  ·obtain rfl:k=j:=U;have D:=Left.next aI U
   have mP:=D.2.2;rw[yA,SH V];show oE (pM atom k) (4-((k:Nat):Int)) r.length x r=_;obtain⟨n,aE⟩:∃n,r.length=n+1:=⟨r.length-1,U⟩;rw[aE,oE,al J];cases Oy:pM atom k r.tail with
   |error e=>rfl
   |ok p=>
    obtain⟨b,bG⟩:=p;have O:=CW bJ k _ D.1 _ _ Oy;have lT:=O.2.2
    grind [SH,YG,aiD,CW,yA,Left]
structure jK (m:Nat)(σ:b6):Prop where
 a8:σ.a8=0
 fo:ij σ.r
 vi:Fh σ.r
 op:σ.op=64-(m:Int)
def kg(c:Nat)(σ:b6)(q:Nat×b6):cW->Prop
 |.ok (x,bG)=>q.2.a8=0/\q.2.r=bG/\q.2.op=σ.op/\σ.aH <+: q.2.aH/\e2 q.2.aH x q.1/\σ.aH.length+fU x<=q.2.aH.length+c
 |.error (e,a)=>e≠0/\q.2.a8=e/\q.2.at_=a
def jK.of{m:Nat}{σ cd:b6}{d:Int}(h:jK m σ)(V:cX σ cd d)(he:cd.a8=0)(H:cd.op=σ.op):jK m cd := ⟨he,V.fo,h.vi.pT V.pT,H.trans h.op⟩
theorem kg.from_{c fE:Nat}{σ cd:b6}{q:Nat×b6}{e:cW}(h:kg c cd q e)(H:cd.op=σ.op)(aE:σ.aH <+: cd.aH)(J:σ.aH.length+c<=cd.aH.length+fE):kg fE σ q e:=by
 cases e with
 |error p=>exact h
 |ok p=>grind [kg]
theorem Dj{σ:b6}(h:σ.a8=0)(m:ao):lb m σ=dI σ.r m:=by simp_all [lb]
theorem Fi{σ:b6}(h:σ.a8=0)(e:Int):(hB e σ).a8=e/\(hB e σ).at_=(aF σ.r).2.1:=by simp_all [hB]
theorem aAR{σ:b6}(h:¬σ.a8=0)(e:Int):hB e σ=σ:=by rw[hB,ab h]
theorem Fj{σ:b6}(h:¬σ.a8=0)(m:ao):cJ m σ=σ:=by grind [St,aAR,cJ]
theorem YH{sub:ld}{n k:Nat}{ps:aD}{σ:b6}(h:¬σ.a8=0):uG sub n k ps σ=(ps,σ):=by fun_induction uG<;>grind
theorem YI{σ:b6}(h:σ.a8=0){b:ao}(Z:dI σ.r b=true)(D:¬(b=er\/b=gx))(O:¬(b=fG\/b=jD)):cJ b σ=bI σ:=by grind [Dj,cJ]
theorem KJ{σ:b6}(h:σ.a8=0){b:ao}(Z:dI σ.r b=false):cJ b σ=hB 60 σ:=by grind [Dj,cJ]
theorem aiG{σ:b6}(h:σ.a8=0){b:ao}(Z:dI σ.r b=true)(D:b=er\/b=gx):cJ b σ=if σ.op=64 then hB 23 σ else{ bI σ with op:=σ.op+1 }:=by grind [Dj,cJ]
theorem aAS{σ:b6}(h:σ.a8=0){b:ao}(Z:dI σ.r b=true)(D:¬(b=er\/b=gx))(O:b=fG\/b=jD):cJ b σ={ bI σ with op:=σ.op-1 }:=by grind [Dj,cJ]
theorem jK.next{m:Nat}{σ:b6}(h:jK m σ)(ad:(aF σ.r).1≠0):jK m (bI σ):=h.of (cX.next h.fo ad) h.a8 rfl
def SI(N:Nat)(m:Nat)(sub:ld)(aFb:Option (List bH->cW)):Prop:=(gn sub/\∀σ,¬σ.a8=0->sub σ=(0,σ))/\((m=0/\aFb=none)\/∃k ex,m=k+1/\aFb=some ex/\∀σ,jK k σ->σ.r.length<=N->kg 0 σ (sub σ) (ex σ.r))
theorem YJ{N m:Nat}{sub:ld}{aFb:Option (List bH->cW)}(fv:SI N m sub aFb){σ:b6}(h:jK m σ)(db:σ.r.length<=N+1){b:ao}(Z:b=er\/b=gx)(go:(List bH->cW)->List bH->cW) :
  (∃c a,lE aFb σ.r b go=.error (c,a)/\c≠0/\(cJ b σ).a8=c/\(cJ b σ).at_=a) \/
  (∃k ex,lE aFb σ.r b go=go ex σ.r.tail/\(cJ b σ)={ bI σ with op:=σ.op+1 }/\jK k (cJ b σ)/\m=k+1/\(cJ b σ).r.length<=N/\∀σ,jK k σ->σ.r.length<=N->kg 0 σ (sub σ) (ex σ.r)):=by
 obtain⟨aZ,yB⟩:=fv;cases hm:dI σ.r b with
 |false=>obtain⟨f1,f2⟩:=Fi h.a8 60;exact .inl ⟨60,(aF σ.r).2.1,by simp_all [lE],aq,by rw[KJ h.a8 hm,f1],by rw[KJ h.a8 hm,f2]⟩
 |true=>
  have ad:=r4 hm;rcases yB with⟨rfl,rfl⟩|⟨k,ex,rfl,rfl,cb⟩
  ·obtain⟨f1,f2⟩:=Fi h.a8 23;have H:σ.op=64:=by grind [jK.op]
   have hw:cJ b σ=hB 23 σ:=by grind [aiG,jK.a8]
   exact .inl ⟨23,(aF σ.r).2.1,by simp_all [lE],aq,by rw[hw,f1],by rw[hw,f2]⟩
  ·have H:¬σ.op=64:=by grind [jK.op]
   have hw:cJ b σ={ bI σ with op:=σ.op+1 }:=by grind [aiG,jK.a8]
   have aE:=Left.next h.fo ad
   have aN:=aE.2.2;refine .inr ⟨k,ex,by simp_all [lE],hw,?_,rfl,?_,cb⟩
   ·rw[hw];exact⟨h.a8,aE.1,h.vi.pT aE.2.1,by grind [jK.op]⟩
   grind [bI]
theorem YK{σ:b6}(h:σ.a8=0){b:ao}(Z:b=fG\/b=jD):if dI σ.r b=true then cJ b σ={ bI σ with op:=σ.op-1 } else(cJ b σ).a8=60/\(cJ b σ).at_=(aF σ.r).2.1:=by
 have D:¬(b=er\/b=gx):=by grind [er,gx,fG,jD]
 split
 ·rename_i hm
  grind [aAS]
 ·rename_i hm
  grind [KJ,Fi]
def Dk(c:Nat)(σ:b6)(q:List Nat×b6):cW->Prop
 |.ok (x,bG)=>q.2.a8=0/\q.2.r=bG/\q.2.op=σ.op/\σ.aH <+: q.2.aH/\hT q.2.aH x q.1/\σ.aH.length+fU x<=q.2.aH.length+c
 |.error (e,a)=>e≠0/\q.2.a8=e/\q.2.at_=a
theorem Dk.from_{c fE:Nat}{σ cd:b6}{q:List Nat×b6}{e:cW}(h:Dk c cd q e)(H:cd.op=σ.op)(aE:σ.aH <+: cd.aH)(J:σ.aH.length+c<=cd.aH.length+fE):Dk fE σ q e:=by
 cases e with
 |error p=>exact h
 |ok p=>grind [Dk]
def aiH:¬(mB=er\/mB=gx)/\¬(mB=fG\/mB=jD):=by decide
theorem aAT{aH:List fY}:∀(l:bO) (ps:aD) (x:bO),hT aH l ps->fU (vF l x)=fU l+fU x:=by
 intro l
 induction l with
 |cons y l _ bb=>grind [hT,fU,vF]
 |nil=>grind [fU,vF]
 |_=>grind [hT]
theorem aiI{N m:Nat}{sub:ld}{ex:List bH->cW}(aZ:gn sub)(Kt:∀σ,¬σ.a8=0->sub σ=(0,σ))(cb:∀σ,jK m σ->σ.r.length<=N->kg 0 σ (sub σ) (ex σ.r)):∀(n k:Nat) (ps:aD) (l:bO) (σ:b6),jK m σ->σ.r.length<=N->hT σ.aH l ps->Dk (fU l) σ (uG sub n k ps σ) (ql ex n k l σ.r)
 |0,k,ps,l,σ,h,db,aN=>⟨h.a8,rfl,rfl,TA _,aN,eo _⟩
 |n+1,k,ps,l,σ,h,db,aN=>by
  rw[uG,al h.a8,ql];by_cases J:0<k/\dI σ.r mB=false
  ·obtain⟨f1,f2⟩:=Fi h.a8 60;have hw:cJ mB σ=hB 60 σ:=KJ h.a8 J.2;have he:¬(hB 60 σ).a8=0:=U
   grind [YH,Dk]
  ·rw[ab J];have step:∀bB,jK m bB->bB.r.length<=N->bB.op=σ.op->σ.aH <+: bB.aH->Dk (fU l) σ (uG sub n (k+1) (ps++[(sub bB).1]) (sub bB).2) (match ex bB.r with
     |.error e=>.error e
     |.ok (a,bG)=>ql ex n (k+1) (vF l a) bG):=by
    intro bB D fP qM kq;have V:=aZ bB D.fo;have aQ:=cb bB D fP;cases aB:ex bB.r with
    |error e=>
     obtain⟨c,a⟩:=e;rw[aB]at aQ;obtain⟨eM,a2,a3⟩:=aQ;have he:¬(sub bB).2.a8=0:=U
     grind [YH,Dk]
    |ok p=>obtain⟨x,bG⟩:=p;rw[aB]at aQ;obtain⟨eM,rfl,a3,a4,a5,aEC⟩:=aQ;have O:=D.of V eM a3;have lT:=V.pT.length_le;exact(aiI aZ Kt cb n (k+1) _ _ _ O U (hT.Bp a5 l ps (aN.pre (kq.trans a4)))).from_ (a3.trans qM) (kq.trans a4) (by grind [aAT])
   by_cases ad:0<k
   ·have hm:dI σ.r mB=true:=by
     simp_all
    have hw:cJ mB σ=bI σ:=YI h.a8 hm aiH.1 aiH.2;rw[al ad,al ad,hw];have aE:=Left.next h.fo (r4 hm)
    grind [jK.next,r4,bI]
   grind
def Dl{k a:Nat}{t:ao}{ps:aD}{σ:b6}:σ.aH <+: (kf k a t ps σ).aH:=⟨_,rfl⟩
theorem add_get{k a:Nat}{t:ao}{ps:aD}{σ:b6}:(kf k a t ps σ).aH[σ.aH.length]?=some ⟨k,a,t,ps⟩:=by grind [kf]
def YL{m:Nat}{σ:b6}(h:jK m σ)(ad:(aF σ.r).1≠0)(k a:Nat)(t:ao)(x:bO)(aB:∀aH i,aH[i]?=some ⟨k,a,t,[]⟩->e2 aH x i)(bD:fU x=1):kg 0 σ (yw k a t [] (bI σ)) (.ok (x,σ.r.tail)):=⟨h.a8,rfl,rfl,Dl,aB _ _ add_get,by rw[bD];show _<=(σ.aH++[_]).length+0;simp⟩
theorem aAU{σ bB:b6}{ps:aD}{e:cW}{b:ao}(Z:b=fG\/b=jD)(H:bB.op=σ.op+1)(aE:σ.aH <+: bB.aH)(p:List Nat×b6)(h:Dk 0 bB p e)(f:bO->bO)(aAV:∀x,fU (f x)=fU x+1)(k a:Nat)(t:ao)(aW:∀aH x i ps,aH[i]?=some ⟨k,a,t,ps⟩->hT aH x ps->e2 aH (f x) i):kg 0 σ (yw k a t p.1 (cJ b p.2)) (iy b f e):=by
 cases e with
 |error q=>obtain⟨c,j⟩:=q;obtain⟨D,O,B⟩:=h;have he:¬p.2.a8=0:=U;rw[Fj he];trivial
 |ok q=>
  obtain⟨x,bG⟩:=q;obtain⟨D,rfl,B,aU,bn,cA⟩:=h;have J:=YK D Z;have vR:=aE.length_le;show kg 0 σ _ (if dI p.2.r b=true then(.ok (f x,p.2.r.tail):cW) else .error (60,(aF p.2.r).2.1));split
  ·rename_i hm;rw[al hm]at J;rw[J];exact⟨D,rfl,by show p.2.op-1=σ.op;omega,(aE.trans aU).trans Dl,aW _ _ _ _ add_get (bn.pre Dl),by rw[aAV];show _<=(p.2.aH++[_]).length+0;grind⟩
  ·rename_i hm;rw[ab hm]at J;trivial
theorem aAW{N m:Nat}{sub:ld}{aFb:Option (List bH->cW)}(fv:SI N m sub aFb)(σ:b6)(h:jK m σ)(db:σ.r.length<=N+1):kg 0 σ (lf sub σ) (mC aFb σ.r):=by
 have aZ:=fv.1.1;have Kt:=fv.1.2;unfold lf mC;rw[al h.a8];split
 ·rename_i ad;exact YL h U _ _ _ _ (λaH i hi=>by trivial) rfl
 split
 ·rename_i ad;exact YL h U _ _ _ _ (λaH i hi=>by trivial) rfl
 rename_i sE wF;by_cases gN:(aF σ.r).1=1
 ·rw[al gN];unfold HR;by_cases aQ:ed (aF σ.r).2.2<0
  ·obtain⟨f1,f2⟩:=Fi h.a8 60;rw[al aQ,ab (λg=>by omega),ab (λg=>by omega)]
   grind [kg,dI]
  rw[ab aQ];by_cases YM:ed (aF σ.r).2.2=0
  ·rw[al YM,ab (λg=>by omega),al ⟨gN,YM⟩];exact YL h U _ _ _ _ (λaH i hi=>by trivial) rfl
  rw[ab YM,al ⟨gN,U⟩];unfold Og;have aE:=h.next U
  have aN:=Left.next h.fo (show(aF σ.r).1≠0 by omega)
  have X3:=aN.2.2;rcases YJ fv aE (by grind [bI]) (.inl rfl) (λex bG=>iy fG (.call (aF σ.r).2.1 (aF σ.r).2.2) (ql ex (ed (aF σ.r).2.2).toNat 0 .nil bG)) with⟨c,a,g1,g2,g3,g4⟩|⟨k,ex,g1,g2,g3,g4,g5,g6⟩
  ·have YN:lE aFb σ.r.tail er (λex bG=>iy fG (.call (aF σ.r).2.1 (aF σ.r).2.2) (ql ex (ed (aF σ.r).2.2).toNat 0 .nil bG))=.error (c,a):=g1;rw[YN];have he:¬(cJ er (bI σ)).a8=0:=U;simp only[YH he,Fj he];trivial
  ·have YN:lE aFb σ.r.tail er (λex bG=>iy fG (.call (aF σ.r).2.1 (aF σ.r).2.2) (ql ex (ed (aF σ.r).2.2).toNat 0 .nil bG))=iy fG (.call (aF σ.r).2.1 (aF σ.r).2.2) (ql ex (ed (aF σ.r).2.2).toNat 0 .nil σ.r.tail.tail):=g1;rw[YN];have bg:(cJ er (bI σ)).r=σ.r.tail.tail:=by rw[g2]<;>rfl
   have bN:(cJ er (bI σ)).aH=σ.aH:=by rw[g2]<;>rfl
   have dQ:(cJ er (bI σ)).op=σ.op+1:=by rw[g2]<;>rfl
   have aQ:=aiI aZ Kt g6 (ed (aF σ.r).2.2).toNat 0 [] .nil _ g3 g5 (by rfl);rw[bg]at aQ;exact aAU (ps:=[]) (.inl rfl) dQ (by simp_all) _ aQ (.call (aF σ.r).2.1 (aF σ.r).2.2) (λ_=>rfl) _ _ _ λaH x i ps D O=>by simp_all [e2]
 ·rw [ab gN,ab (show¬((aF σ.r).1=1/\0<ed (aF σ.r).2.2) from λg=>gN g.1),ab (show¬((aF σ.r).1=1/\ed (aF σ.r).2.2=0) from λg=>gN g.1),Dj h.a8,Dj h.a8];by_cases hp:dI σ.r er=true
  ·have dE:dI σ.r gx=false:=by
    grind [dI,gx,er]
   rw[al hp,dE,ab aq,al hp];unfold Sr;rcases YJ fv h db (.inl rfl) (λex bG=>iy fG id (ex bG)) with⟨c,a,g1,g2,g3,g4⟩|⟨k,ex,g1,g2,g3,g4,g5,g6⟩
   ·rw[g1];have he:¬(cJ er σ).a8=0:=U
    grind [Fj,kg]
   ·rw[g1];have bg:(cJ er σ).r=σ.r.tail:=by rw[g2]<;>rfl
    have bN:(cJ er σ).aH=σ.aH:=by rw[g2]<;>rfl
    have dQ:(cJ er σ).op=σ.op+1:=by simp_all
    have aQ:=g6 _ g3 g5;rw[bg]at aQ;show kg 0 σ ((sub (cJ er σ)).1,cJ fG (sub (cJ er σ)).2) _;cases aB:ex σ.r.tail with
    |error q=>
     obtain⟨c,j⟩:=q;rw[aB]at aQ;obtain⟨D,O,B⟩:=aQ;have he:¬(sub (cJ er σ)).2.a8=0:=U
     grind [Fj,kg,iy]
    |ok q=>
     obtain⟨x,bG⟩:=q;rw[aB]at aQ;obtain⟨D,rfl,B,aU,bn,cA⟩:=aQ;have J:=YK D (b:=fG) (.inl rfl);show kg 0 σ _ (if dI (sub (cJ er σ)).2.r fG=true then(.ok (id x,(sub (cJ er σ)).2.r.tail):cW) else .error (60,(aF (sub (cJ er σ)).2.r).2.1));split
     ·rename_i hm;rw[al hm]at J;rw[J]
      grind [kg,bI]
     grind [kg]
  ·have kl:dI σ.r er=false:=aC hp
   rw[kl,ab aq];by_cases z:dI σ.r gx=true
   ·rw [al z,al z];unfold Ss;rcases YJ fv h db (.inr rfl) (λex bG=>iy jD (.keyed (aF σ.r).2.1) (ex bG)) with⟨c,a,g1,g2,g3,g4⟩|⟨k,ex,g1,g2,g3,g4,g5,g6⟩
    ·rw[g1];have he:¬(cJ gx σ).a8=0:=U;simp only[Kt _ he,Fj he];trivial
    ·rw[g1];have bg:(cJ gx σ).r=σ.r.tail:=by rw[g2]<;>rfl
     have bN:(cJ gx σ).aH=σ.aH:=by rw[g2]<;>rfl
     have dQ:(cJ gx σ).op=σ.op+1:=by simp_all
     have aQ:=g6 _ g3 g5;rw[bg]at aQ;show kg 0 σ (yw 5 (aF σ.r).2.1 ⟨#[]⟩ [(sub (cJ gx σ)).1] (cJ jD (sub (cJ gx σ)).2)) _;cases aB:ex σ.r.tail with
     |error q=>obtain⟨c,j⟩:=q;rw[aB]at aQ;obtain⟨D,O,B⟩:=aQ;have he:¬(sub (cJ gx σ)).2.a8=0:=U;rw[Fj he];trivial
     |ok q=>
      obtain⟨x,bG⟩:=q;rw[aB]at aQ;obtain⟨D,rfl,B,aU,bn,cA⟩:=aQ;have J:=YK D (b:=jD) (.inr rfl);show kg 0 σ _ (if dI (sub (cJ gx σ)).2.r jD=true then(.ok (.keyed (aF σ.r).2.1 x,(sub (cJ gx σ)).2.r.tail):cW) else .error (60,(aF (sub (cJ gx σ)).2.r).2.1));split
      ·rename_i hm;rw[al hm]at J;rw[J];rw[bN]at aU cA;refine⟨D,rfl,by show(sub (cJ gx σ)).2.op-1=σ.op;omega,aU.trans Dl,?_,?_⟩
       ·simp only[e2];exact⟨_,add_get,bn.pre Dl⟩
       ·show _+(fU x+1)<=((sub (cJ gx σ)).2.aH++[_]).length+0
        grind
      ·rename_i hm;rw[ab hm]at J;trivial
   ·have s6:dI σ.r gx=false:=aC z
    grind [jK.a8,kg,hB]
theorem aiJ{m:Nat}:∀(n a:Nat) (σ:b6) (x:bO),jK m σ->e2 σ.aH x a->kg (fU x) σ (yx n a σ) (.ok (vE n x σ.r))
 |0,a,σ,x,h,aB=>⟨h.a8,rfl,rfl,TA _,aB,eo _⟩
 |n+1,a,σ,x,h,aB=>by
  rw[yx,vE,Dj h.a8,Dj h.a8,Dj h.a8];split
  ·rename_i J;have ad:(aF σ.r).1≠0:=by
    grind [r4]
   have D:jK m (bI (kf 6 (aF σ.r).2.1 (aF σ.r).2.2 [a] σ)):=jK.next (σ:=kf 6 (aF σ.r).2.1 (aF σ.r).2.2 [a] σ) ⟨h.a8,h.fo,h.vi,h.op⟩ ad
   have:=aiJ n σ.aH.length (bI (kf 6 (aF σ.r).2.1 (aF σ.r).2.2 [a] σ)) (.unary (aF σ.r).2.1 (aF σ.r).2.2 x) D (by grind [e2.pre,e2,bI,kf]);exact this.from_ rfl Dl (by grind [fU,bI,kf])
  grind [jK.a8,kg]
theorem aAX{N m:Nat}{sub:ld}{aFb:Option (List bH->cW)}(fv:SI N m sub aFb)(σ:b6)(h:jK m σ)(db:σ.r.length<=N+1):kg 0 σ (qT sub σ) (pL (mC aFb) σ.r):=by
 have aQ:=aAW fv σ h db;have V:=gn.atom fv.1.1 σ h.fo;unfold qT pL;cases aB:mC aFb σ.r with
 |error e=>
  obtain⟨c,a⟩:=e;rw[aB]at aQ;obtain⟨D,O,B⟩:=aQ;have he:¬(lf sub σ).2.a8=0:=U
  grind [ah9,kg]
 |ok p=>obtain⟨x,bG⟩:=p;rw[aB]at aQ;obtain⟨D,rfl,B,aU,bn,cA⟩:=aQ;exact(aiJ _ _ _ x (h.of V D B) bn).from_ B aU cA
theorem aiK{N m:Nat}{sub:Int->ld}{atom:List bH->cW}(bJ:o3 atom 1)(aZ:∀k,gn (sub k))(cb:∀k:Nat,k<=4->∀σ,jK m σ->σ.r.length<=N->kg 0 σ (sub (5-(k:Nat)) σ) (pM atom k σ.r))(j:Nat)(Y:j<=5):∀(n a:Nat) (x:bO) (σ:b6),jK m σ->σ.r.length<=N+1->σ.r.length<=n->e2 σ.aH x a->kg (fU x) σ (xf sub (5-(j:Nat)) n a σ) (yA atom j x σ.r)
 |0,a,x,σ,h,db,aE,aB=>by have:=h.fo.pos;omega
 |n+1,a,x,σ,h,db,aE,aB=>by
  obtain⟨eW,cR⟩:=aik (aF σ.r).2.2;rw[xf];by_cases J:σ.a8=0/\(aF σ.r).1=4/\¬jo (aF σ.r).2.2<5-((j:Nat):Int)
  ·rw[al J];obtain⟨_,zj,VR⟩:=J;have aI:=aiB h.vi zj;obtain⟨k,ad⟩:∃k:Nat,jo (aF σ.r).2.2=4-((k:Nat):Int):=⟨(4-jo (aF σ.r).2.2).toNat,U⟩;have aai:k<j:=U;have hX:BC k σ.r:=λi hi hh=>by
    omega
   have bg:jo (aF σ.r).2.2+1=5-((k:Nat):Int):=U;have hd:(aF σ.r).1≠0:=U;have D:=h.next hd
   have aN:=(Left.next h.fo hd).2.2;have aQ:=cb k U (bI σ) D (by grind [bI]);have V:=aZ (5-((k:Nat):Int)) (bI σ) D.fo;rw[aiF bJ h.fo hX ⟨zj,by rw[aI,ad]⟩ j aai,bg];have bN:(bI σ).r=σ.r.tail:=rfl;rw[bN]at aQ;cases cq:pM atom k σ.r.tail with
   |error e=>
    obtain⟨c,p⟩:=e;rw[cq]at aQ;obtain⟨g1,g2,g3⟩:=aQ;have he:¬(kf 7 (aF σ.r).2.1 (aF σ.r).2.2 [a,(sub (5-((k:Nat):Int)) (bI σ)).1] (sub (5-((k:Nat):Int)) (bI σ)).2).a8=0:=by grind [kf]
    grind [Su,kg,kf]
   |ok p=>
    obtain⟨b,bG⟩:=p;rw[cq]at aQ;obtain⟨g1,g2,g3,g4,g5,g6⟩:=aQ;have O:=D.of V g1 g3;have lT:=V.pT.length_le;rw[bN]at lT;have B:jK m (kf 7 (aF σ.r).2.1 (aF σ.r).2.2 [a,(sub (5-((k:Nat):Int)) (bI σ)).1] (sub (5-((k:Nat):Int)) (bI σ)).2):=⟨O.a8,O.fo,O.vi,O.op⟩
    have SJ:σ.aH <+: (sub (5-((k:Nat):Int)) (bI σ)).2.aH:=g4;have:=aiK bJ aZ cb j Y n (sub (5-((k:Nat):Int)) (bI σ)).2.aH.length (.binary (aF σ.r).2.1 (aF σ.r).2.2 x b) _ B (by grind [kf]) (by grind [kf]) (by simp only[e2];exact⟨a,_,add_get,(aB.pre SJ).pre Dl,g5.pre Dl⟩)
    have dQ:(kf 7 (aF σ.r).2.1 (aF σ.r).2.2 [a,(sub (5-((k:Nat):Int)) (bI σ)).1] (sub (5-((k:Nat):Int)) (bI σ)).2).r=bG := g2;rw[dQ]at this;have g6:σ.aH.length+fU b<=(sub (5-((k:Nat):Int)) (bI σ)).2.aH.length+0:=g6;exact this.from_ g3 (SJ.trans Dl) (by grind [fU,kf])
  ·rw[ab J];have hX:BC j σ.r:=λi hi hh=>by
    have aI:=aiB h.vi hh.1;have:=hh.2
    grind [jK.a8]
   grind [SH,jK.a8,kg]
theorem SK:∀(n m j:Nat) (σ:b6),j<=5->jK m σ->σ.r.length<=n->kg 0 σ (hD n (5-((j:Nat):Int)) σ) (pM (o2 m) j σ.r)
 |0,m,j,σ,Y,h,aE=>by have:=h.fo.pos;omega
 |n+1,m,j,σ,Y,h,aE=>by
  have yB:∃aFb,o2 m=mC aFb/\SI n m (hD n 0) aFb:=by
   cases m with
   |zero=>exact⟨none,rfl,⟨gn.qb n 0,λσ h=>Oh h⟩,.inl ⟨rfl,rfl⟩⟩
   |succ k=>exact⟨some (uz (o2 k)),rfl,⟨gn.qb n 0,λσ h=>Oh h⟩,.inr ⟨k,_,rfl,rfl,λσ D O=>SK n k 5 σ (eo _) D O⟩⟩
  obtain⟨aFb,aAY,aiL⟩:=yB;have hp:=aAX aiL σ h aE;have V:=gn.post aiL.1.1 σ h.fo;rw[aiC,hD];rw[<- aAY]at hp;cases aB:pL (o2 m) σ.r with
  |error e=>
   obtain⟨c,p⟩:=e;rw[aB]at hp;obtain⟨g1,g2,g3⟩:=hp;have he:¬(qT (hD n 0) σ).2.a8=0:=U
   grind [Su,kg]
  |ok p=>obtain⟨x,bG⟩:=p;rw[aB]at hp;obtain⟨g1,rfl,g3,g4,g5,g6⟩:=hp;have lT:=V.pT.length_le;exact(aiK (J1 m) (gn.qb n) (λk ad σ D O=>SK n m k σ U D O) j Y _ _ x _ (h.of V g1 g3) U (eo _) g5).from_ g3 g4 g6
def sf(aH:List fY):List nE->List (Nat×ByteArray×bO)->Prop
 |[],[]=>True
 |d::l,e::r=>(d.at_=e.1/\d.xA=e.2.1/\e2 aH e.2.2 d.b)/\sf aH l r
 |_,_=>False
theorem sf.pre{aH xc:List fY}(h:aH <+: xc):∀{l:List nE} {r:List (Nat×ByteArray×bO)},sf aH l r->sf xc l r
 |[],[],_=>trivial
 |d::l,e::r,g=>⟨⟨g.1.1,g.1.2.1,g.1.2.2.pre h⟩,sf.pre h g.2⟩
 |[],_::_,g=>g.elim
 |_::_,[],g=>g.elim
def sf.Bp{aH:List fY}{d:nE}{e:Nat×ByteArray×bO}(h:d.at_=e.1/\d.xA=e.2.1/\e2 aH e.2.2 d.b):∀{l:List nE} {r:List (Nat×ByteArray×bO)},sf aH l r->sf aH (l++[d]) (r++[e])
 |[],[],_=>⟨h,trivial⟩
 |d::l,e::r,g=>⟨g.1,sf.Bp h g.2⟩
 |[],_::_,g=>g.elim
 |_::_,[],g=>g.elim
def Oz(aFb:Nat)(p:List nE×b6):List nE×Nat×b6:=(p.1,(hD aFb 0 p.2).1,l5 (hD aFb 0 p.2).2)
def BD:List (Nat×ByteArray×bO)->Nat
 |[]=>0
 |e::r=>fU e.2.2+BD r
def aiM(e:Nat×ByteArray×bO):∀r,BD (r++[e])=BD r+fU e.2.2
 |[]=>by simp_all [BD]
 |d::r=>by simp only[OX,BD,aiM e r];omega
def KK(f:List nE×Nat×b6):Except (Int×Nat) (pN×List bH)->Prop
 |.ok ((az,x),_)=>f.2.2.a8=0/\sf f.2.2.aH f.1 az/\e2 f.2.2.aH x f.2.1/\BD az+fU x<=f.2.2.aH.length
 |.error (c,a)=>c≠0/\f.2.2.a8=c/\f.2.2.at_=a
theorem SL{aFb:Nat}{p:List nE×b6}{c:Int}{a:Nat}(h:c≠0)(D:p.2.a8=c)(O:p.2.at_=a):KK (Oz aFb p) (.error (c,a)):=by
 have he:¬p.2.a8=0:=U;unfold Oz;rw[Oh he]
 grind [KK,l5]
def aiN:¬(ru=er\/ru=gx)/\¬(ru=fG\/ru=jD):=by decide
def aiO:¬(tz=er\/tz=gx)/\¬(tz=fG\/tz=jD):=by decide
theorem aiP(aFb:Nat):∀(n:Nat) (l:List nE) (az:List (Nat×ByteArray×bO)) (σ:b6),jK 64 σ->sf σ.aH l az/\BD az<=σ.aH.length->σ.r.length<=n->σ.r.length<=aFb->KK (Oz aFb (tD aFb n l σ)) (r3 (uz (o2 64)) n az σ.r)
 |0,l,az,σ,h,ak,aE,yB=>by have:=h.fo.pos;omega
 |n+1,l,az,σ,h,ak,aE,yB=>by
  rw[tD,r3];by_cases aN:(aF σ.r).1=1/\(aF σ.r).2.2=ET
  ·have ad:(aF σ.r).1≠0:=U;have D:=h.next ad
   have mP:=(Left.next h.fo ad).2.2;rw[al ⟨h.a8,aN⟩,al aN];by_cases hm:(aF (bI σ).r).1=1/\ed (aF (bI σ).r).2.2=0
   ·have gN:(aF (bI σ).r).1≠0:=U;have O:=D.next gN
    have lT:=(Left.next D.fo gN).2.2;have rK:¬(¬(aF σ.r.tail).1=1\/¬ed (aF σ.r.tail).2.2=0):=λg=>g.elim (λg=>g hm.1) (λg=>g hm.2)
    have bg:(bI σ).r=σ.r.tail:=rfl;have bN:(bI (bI σ)).r=σ.r.tail.tail:=rfl;rw[al hm,ab rK];cases z:dI σ.r.tail.tail ru with
    |false=>
     rw[al rfl];obtain⟨f1,f2⟩:=Fi O.a8 60;have hw:cJ ru (bI (bI σ))=hB 60 (bI (bI σ)):=KJ O.a8 z;have he:¬(hB 60 (bI (bI σ))).a8=0:=U;simp only[hw,Oh he,Fj he]
     have:tD aFb n (l++[⟨(aF (bI σ).r).2.1,(aF (bI σ).r).2.2,0⟩]) (hB 60 (bI (bI σ)))=(l++[⟨(aF (bI σ).r).2.1,(aF (bI σ).r).2.2,0⟩],hB 60 (bI (bI σ))):=by
      cases n with
      |zero=>rfl
      |succ n=>grind [tD]
     grind [SL]
    |true=>
     rw[ab aq];have sE:(aF (bI (bI σ)).r).1≠0:=r4 z;have B:=O.next sE
     have xL:=(Left.next O.fo sE).2.2;have hw:cJ ru (bI (bI σ))=bI (bI (bI σ)):=YI O.a8 z aiN.1 aiN.2;rw[bg]at lT;rw[bN]at xL;have aQ:kg 0 _ (hD aFb 0 (bI (bI (bI σ)))) (uz (o2 64) σ.r.tail.tail.tail):=SK aFb 64 5 _ (eo _) B (by grind [bI]);have V:=gn.qb aFb 0 _ B.fo;rw[hw]
     have stop:∀(kU:List nE) (cd:b6),¬cd.a8=0->tD aFb n kU cd=(kU,cd):=λkU cd he=>by fun_induction tD<;>grind
     cases aB:uz (o2 64) σ.r.tail.tail.tail with
     |error e=>
      obtain⟨c,p⟩:=e;rw[aB]at aQ;obtain⟨g1,g2,g3⟩:=aQ;have he:¬(hD aFb 0 (bI (bI (bI σ)))).2.a8=0:=U
      grind [Fj,SL]
     |ok p=>
      obtain⟨x,bG⟩:=p;rw[aB]at aQ;obtain⟨g1,g2,g3,g4,g5,g6⟩:=aQ;have aU:=B.of V g1 g3;have Qa:=V.pT.length_le;have aED:(hD aFb 0 (bI (bI (bI σ)))).2.r.length<=σ.r.tail.tail.tail.length:=Qa;have SJ:σ.aH <+: (hD aFb 0 (bI (bI (bI σ)))).2.aH:=g4;dsimp only;cases qc:dI bG tz with
      |false=>
       rw[al rfl];rw[<- g2]at qc;obtain⟨f1,f2⟩:=Fi aU.a8 60;have x7:cJ tz (hD aFb 0 (bI (bI (bI σ)))).2=hB 60 (hD aFb 0 (bI (bI (bI σ)))).2:=KJ aU.a8 qc;have he:¬(hB 60 (hD aFb 0 (bI (bI (bI σ)))).2).a8=0:=U
       grind [SL]
      |true=>
       rw[ab aq];rw[<- g2]at qc;have wR:=r4 qc;have x7:cJ tz (hD aFb 0 (bI (bI (bI σ)))).2=bI (hD aFb 0 (bI (bI (bI σ)))).2:=YI aU.a8 qc aiO.1 aiO.2;have bn:=aU.next wR
       have Va:=(Left.next aU.fo wR).2.2;rw[x7,<- g2];exact aiP aFb n _ _ (bI (hD aFb 0 (bI (bI (bI σ)))).2) bn ⟨sf.Bp ⟨rfl,rfl,g5⟩ (ak.1.pre SJ),by
        rw[aiM]
        grind [bI]⟩ (by grind [bI]) (by grind [bI])
   ·have rK:¬(aF σ.r.tail).1=1\/¬ed (aF σ.r.tail).2.2=0:=by
     grind [bI]
    grind [jK.a8,SL,bI,hB]
  ·rw[ab (λg=>aN g.2),ab aN];have aQ:kg 0 σ (hD aFb 0 σ) (uz (o2 64) σ.r):=SK aFb 64 5 σ (eo _) h yB;have V:=gn.qb aFb 0 _ h.fo;unfold Oz;dsimp only;cases aB:uz (o2 64) σ.r with
   |error e=>grind [KK,l5,kg]
   |ok p=>
    obtain⟨x,bG⟩:=p;rw[aB]at aQ;obtain⟨g1,g2,g3,g4,g5,g6⟩:=aQ;dsimp only;by_cases A:(aF bG).1=0
    ·rw[al A];have aZ:l5 (hD aFb 0 σ).2=(hD aFb 0 σ).2:=ab λg=>g.2 (by simp_all)
     rw[aZ];exact⟨g1,ak.1.pre g4,g5,by grind⟩
    ·rw[ab A];have aZ:l5 (hD aFb 0 σ).2=hB 60 (hD aFb 0 σ).2:=al ⟨g1,by simp_all⟩
     grind [Fi,KK]
theorem aiQ(s:ao):match rv s with
  |.error (c,a)=>c≠0/\Fe s=.error (c,a)
  |.ok (az,x)=>∃aH l b2,Fe s=.ok (aH,l,b2)/\sf aH l az/\e2 aH x b2/\BD az+fU x<=4097:=by
 unfold rv Fe;by_cases A:(cZ s).2.1=0
 ·rw[al A,al A];have h:jK 64 (tE (cZ s).1):=⟨rfl,W5 A,aAP s,rfl⟩;have aQ:=aiP (cZ s).1.length (cZ s).1.length [] [] (tE (cZ s).1) h ⟨trivial,ef _⟩ (eo _) (eo _);have bg:Oz (cZ s).1.length (tD (cZ s).1.length (cZ s).1.length [] (tE (cZ s).1))=tF (cZ s).1:=rfl
  have bN:(tE (cZ s).1).r=(cZ s).1:=rfl;rw[bg,bN]at aQ;cases aB:r3 (uz (o2 64)) (cZ s).1.length [] (cZ s).1 with
  |error e=>grind [KK]
  |ok p=>
   obtain⟨⟨az,x⟩,bG⟩:=p;rw[aB]at aQ;obtain⟨g1,g2,g3,g4⟩:=aQ;dsimp only;rw[al g1];refine⟨_,_,_,rfl,g2,g3,xp g4 ?_⟩;have qe:=gn.prog (cZ s).1.length (cZ s).1.length [] (tE (cZ s).1) h.fo;have oP:=qe.trans (gn.qb (cZ s).1.length 0 _ qe.fo)
   have zf:cX (tE (cZ s).1) (tF (cZ s).1).2.2 0:=by
    have e:(tF (cZ s).1).2.2=l5 (hD (cZ s).1.length 0 (tD (cZ s).1.length (cZ s).1.length [] (tE (cZ s).1)).2).2:=rfl;rw[e];unfold l5;split
    ·exact(oP.trans (cX.fail 60 aq oP.fo)).le U
    trivial
   have aAZ:=zf.KA;have aEE:=RU s;unfold By at aAZ
   grind [tE]
 simp_all
end
section
open Go Go.RowKit Go.LE
set_option maxRecDepth 10000
def OA:cF:=⟨0,⟨#[]⟩,0,none,⟨#[]⟩,⟨#[]⟩,-1,-1,-1,0⟩
def b9(ai:List cF)(i:Nat):cF:=ai.getD i OA
def hU(k:Nat)(op:ao)(p:Int):cF:=⟨k,op,p,none,⟨#[]⟩,⟨#[]⟩,-1,-1,-1,0⟩
def kA(ai:List cF)(i:Int):Nat:=if 0<=i then(b9 ai i.toNat).aw else 0
def qn(d:cF)(ai:List cF):Nat:=
 if d.k=1 then fJ d.t
 else if d.k=2 then eA d.cO
 else 1+eA d.cO+(if d.op=fX\/d.op=fB then fJ d.t else 0)+kA ai d.a+kA ai d.b+kA ai d.q
def kB(d:cF)(σ:bc):Nat×bc:=(σ.ai.length,{ σ with ai:=σ.ai++[{ d with aw:=qn d σ.ai }] })
def xh(p:Int)(r:bm)(σ:bc):Nat×bc:=kB { hU 2 ⟨#[]⟩ p with cO:=some r } σ
def pe(k:Nat)(op:ao)(p a b:Int)(σ:bc):Nat×bc:=kB { hU k op p with a:=a,b:=b } σ
def yC(ai:List cF)(i:Nat):Option bm:=if(b9 ai i).k=1 then some (r7 (b9 ai i).t) else if(b9 ai i).k=2 then(b9 ai i).cO else none
def KL(op:ao)(n:bm):bm:=if op=ny then .star n else if op=pK then .cat n (.star n) else .alt n .bV
def HV(p:Int)(σ:bc):Nat×bc:=kB { hU 4 iX p with cO:=some .bV } σ
def BE(p:Int)(op:ao)(a:Nat)(σ:bc):Nat×bc:=match yC σ.ai a with
 |some n=>xh p (KL op n) σ
 |none=>
  if op=ny then pe (b9 σ.ai a).k eD p a (-1) σ
  else if(b9 σ.ai a).k=4 then
   if op=pK then pe 4 l1 p a (pe 4 eD p a (-1) σ).1 (pe 4 eD p a (-1) σ).2
   else pe 4 o6 p a (HV p σ).1 (HV p σ).2
  else(0,cY 72 p σ)
def Aa(p:Int)(op:ao)(a b:Nat)(σ:bc):Nat×bc:=
 if(b9 σ.ai a).k=(b9 σ.ai b).k/\(gm op=1\/gm op=2\/((b9 σ.ai a).k=4/\0<gm op)) then pe (b9 σ.ai a).k (oG (gm op)) p a b σ
 else(0,cY 72 p σ)
def nF(p:Int)(op:ao)(a b:Nat)(σ:bc):Nat×bc:=match yC σ.ai a,yC σ.ai b with
 |some x,some y=>match rz op x y with
  |some r=>xh p r σ
  |none=>(0,cY 72 p σ)
 |_,_=>Aa p op a b σ
def sS(c:Int)(k a:Nat)(ai:List cF)(t:cF):Option cF:=
 if c=114 then match yC ai a with
  |some r=>some { t with cO:=some r }
  |none=>none
 else if c=116 then if(b9 ai a).k=1 then some (if k=2 then{ t with dA:=(b9 ai a).t } else{ t with t:=(b9 ai a).t }) else none
 else if c=113 then if(b9 ai a).k=3 then some { t with q:=a } else none
 else if(b9 ai a).k=4 then some { t with a:=a } else none
def uJ(w:ao)(ai:List cF):List Nat->Nat->cF->Except Nat cF
 |[],_,t=>.ok t
 |a::r,k,t=>match sS (af w (k:Nat)) k a ai t with
  |some eU=>uJ w ai r (k+1) eU
  |none=>.error k
def nG(p:Int)(w:ao)(fy:aD)(ps:aD)(σ:bc):Nat×bc:=
 match uJ (gE w) σ.ai ps 0 (hU (if w=jE\/w=ke\/w=fB then 3 else 4) w p) with
 |.ok t=>kB t σ
 |.error k=>(0,cY 72 (fy.getD k 0:Nat) σ)
def Fk(p:Int)(a:Nat)(σ:bc):Nat×bc:=if(b9 σ.ai a).k=4 then pe 4 nA p a (-1) σ else(0,cY 72 p σ)
def sT(p:Int)(q:Nat×bc):Nat×bc:=if q.2.a8=0/\2000<(b9 q.2.ai q.1).aw then(0,cY 24 p q.2) else q
abbrev kh:=List (ByteArray×Nat)
def vW:kh->ByteArray->Option Nat
 |[],_=>none
 |(k,i)::r,s=>if k=s then some i else vW r s
def Fl(bd:kh)(a:Nat)(s:ao)(σ:bc):Nat×bc:=match vW bd s with
 |some i=>(i,σ)
 |none=>(0,cY 70 (a:Nat) σ)
def Fm(a:Nat)(s:ao)(σ:bc):Nat×bc:=match vt s with
 |.ok r=>xh (a:Nat) r σ
 |.error (c,j)=>(0,cY c (IntKind.i64.wrap ((a:Nat)+1+j)) σ)
def HW(q:Nat×bc)(f:Nat->bc->Nat×bc):Nat×bc:=if q.2.a8=0 then f q.1 q.2 else(0,q.2)
mutual
def eR(bd:kh):bO->bc->Nat×bc
 |.name a s,σ=>if σ.a8=0 then Fl bd a s σ else(0,σ)
 |.text a s,σ=>if σ.a8=0 then kB { hU 1 ⟨#[]⟩ (a:Nat) with t:=s } σ else(0,σ)
 |.rx a s,σ=>if σ.a8=0 then Fm a s σ else(0,σ)
 |.keyed a x,σ=>if σ.a8=0 then HW (eR bd x σ) λi σ=>sT (a:Nat) (Fk (a:Nat) i σ) else(0,σ)
 |.unary a op x,σ=>if σ.a8=0 then HW (eR bd x σ) λi σ=>sT (a:Nat) (BE (a:Nat) op i σ) else(0,σ)
 |.binary a op x y,σ=>if σ.a8=0 then HW (eR bd y (eR bd x σ).2) λj cd=>sT (a:Nat) (nF (a:Nat) op (eR bd x σ).1 j cd) else(0,σ)
 |.call a w l,σ=>if σ.a8=0 then
   if(jb bd l σ).2.a8=0 then sT (a:Nat) (nG (a:Nat) w (eb l) (jb bd l σ).1 (jb bd l σ).2) else(0,(jb bd l σ).2)
  else(0,σ)
 |.nil,σ=>(0,σ)
 |.cons _ _,σ=>(0,σ)
def jb(bd:kh):bO->bc->List Nat×bc
 |.cons x l,σ=>((eR bd x σ).1::(jb bd l (eR bd x σ).2).1,(jb bd l (eR bd x σ).2).2)
 |.nil,σ=>([],σ)
 |.name _ _,σ=>([],σ)
 |.text _ _,σ=>([],σ)
 |.rx _ _,σ=>([],σ)
 |.call _ _ _,σ=>([],σ)
 |.keyed _ _,σ=>([],σ)
 |.unary _ _ _,σ=>([],σ)
 |.binary _ _ _ _,σ=>([],σ)
end
def SM(op:ao):Bool:=decide ((((((op=iX\/op=nZ)\/op=nz)\/op=fX)\/op=mZ)\/op=na)\/op=nB)
def SN(op:ao):Bool:=decide ((op=jE\/op=ke)\/op=fB)
def KM(op:ao):Bool:=decide (op=eD\/op=nA)
def qW(ai:List cF):jW->Int->Prop
 |.nil,j=>j=-1
 |.mk p op n to dA x y,j=>∃(d:cF) (i:Nat),(j=(i:Nat)/\ai[i]?=some d)/\(d.k=3/\d.op=op/\d.at_=(p:Nat)/\d.cO=n/\d.t=to/\d.dA=dA)/\(qW ai x d.a/\qW ai y d.b)/\d.aw=fO (.mk p op n to dA x y)/\SM op=false/\(KM op=false\/y=.nil)
def tH(ai:List cF):k6->Int->Prop
 |.nil,j=>j=-1
 |.mk p op n cx q x y,j=>∃(d:cF) (i:Nat),(j=(i:Nat)/\ai[i]?=some d)/\(d.k=4/\d.op=op/\d.at_=(p:Nat)/\d.cO=n/\d.t=cx)/\(qW ai q d.q/\tH ai x d.a/\tH ai y d.b)/\d.aw=hz (.mk p op n cx q x y)/\SN op=false/\(KM op=false\/y=.nil)
def en(ai:List cF):cl->Nat->Prop
 |.text p s,i=>∃d,ai[i]?=some d/\d.k=1/\d.at_=(p:Nat)/\d.t=s/\d.aw=fJ s/\d.cO=none
 |.rx p r,i=>∃d,ai[i]?=some d/\d.k=2/\d.at_=(p:Nat)/\d.cO=some r/\d.aw=aG r
 |.canon c,i=>c≠.nil/\qW ai c (i:Nat)
 |.lens l,i=>l≠.nil/\tH ai l (i:Nat)
theorem qW.pre{ai vX:List cF}(h:ai <+: vX):∀{c:jW} {j:Int},qW ai c j->qW vX c j:=by
 intro c
 induction c with
 |nil=>exact λg=>g
 |mk p op n to dA x y Ox SG=>
  rintro j ⟨d,i,⟨D,O⟩,B,⟨aU,bn⟩,cA⟩
  grind [z8,qW]
theorem tH.pre{ai vX:List cF}(h:ai <+: vX):∀{c:k6} {j:Int},tH ai c j->tH vX c j:=by
 intro c
 induction c with
 |nil=>exact λg=>g
 |mk p op n cx q x y Ox SG=>
  rintro j ⟨d,i,⟨D,O⟩,B,⟨aU,bn,cA⟩,c1⟩
  grind [z8,qW.pre,tH]
theorem en.pre{ai vX:List cF}(h:ai <+: vX){t:cl}{i:Nat}(g:en ai t i):en vX t i:=by
 cases t with
 |text p s=>obtain⟨d,D,O⟩:=g;grind [z8,en]
 |rx p r=>obtain⟨d,D,O⟩:=g;grind [z8,en]
 |canon c=>exact⟨g.1,g.2.pre h⟩
 |lens l=>exact⟨g.1,g.2.pre h⟩
theorem Ab{ai:List cF}{i:Nat}{d:cF}(h:ai[i]?=some d):b9 ai i=d:=by simp_all [b9]
theorem en.aH{ai:List cF}{t:cl}{i:Nat}(g:en ai t i):i<ai.length/\ai[i]?=some (b9 ai i)/\(b9 ai i).k=k7 t/\(b9 ai i).at_=(sJ t:Nat)/\(b9 ai i).aw=dK t/\(k7 t=1->(b9 ai i).cO=none)/\(k7 t=2->(b9 ai i).cO≠none):=by
 have key:∀d:cF,ai[i]?=some d->d.k=k7 t/\d.at_=(sJ t:Nat)/\d.aw=dK t/\(k7 t=1->d.cO=none)/\(k7 t=2->d.cO≠none)->i<ai.length/\ai[i]?=some (b9 ai i)/\(b9 ai i).k=k7 t/\(b9 ai i).at_=(sJ t:Nat)/\(b9 ai i).aw=dK t/\(k7 t=1->(b9 ai i).cO=none)/\(k7 t=2->(b9 ai i).cO≠none):=λd ak h=>by grind [b9]
 cases t with
 |text p s=>grind [k7,sJ,dK,en]
 |rx p r=>grind [k7,sJ,dK,en]
 |canon c=>
  obtain⟨A,D⟩:=g;cases c with
  |nil=>trivial
  |mk p op n to dA x y=>grind [k7,sJ,dK,qW]
 |lens l=>
  obtain⟨A,D⟩:=g;cases l with
  |nil=>trivial
  |mk p op n cx q x y=>grind [k7,sJ,dK,tH]
theorem en.as{ai:List cF}{t:cl}{i:Nat}(g:en ai t i):yC ai i=fa t:=by
 obtain⟨_,_,ad,_⟩:=g.aH;unfold yC;rw[ad];cases t with
 |text p s=>grind [fa,en]
 |rx p r=>grind [fa,en]
 |canon c=>rfl
 |lens l=>rfl
theorem en.cx{ai:List cF}{p:Nat}{s:ao}{i:Nat}(g:en ai (.text p s) i):(b9 ai i).t=s:=by grind [b9,en]
def ey(σ:bc)(p:Nat×bc):n1->Prop
 |.ok t=>p.2.a8=0/\σ.ai <+: p.2.ai/\en p.2.ai t p.1
 |.error (c,a)=>c≠0/\p.2.a8=c/\p.2.at_=a
def aiR{σ:bc}(h:σ.a8=0)(e p:Int):(cY e p σ).a8=e/\(cY e p σ).at_=p:=by simp_all [cY]
theorem uK{σ:bc}(h:σ.a8=0)(a:Nat):ey σ (0,cY 72 (a:Nat) σ) (lF a):=by grind [ey,cY,lF]
def Dm(d:cF)(σ:bc):σ.ai <+: (kB d σ).2.ai:=⟨_,rfl⟩
theorem SO(d:cF)(σ:bc):(kB d σ).2.ai[(kB d σ).1]?=some { d with aw:=qn d σ.ai }:=by grind [kB]
theorem YO{ai:List cF}{c:jW}{j:Int}(h:qW ai c j):kA ai j=fO c:=by
 cases c with
 |nil=>grind [kA,fO,qW]
 |mk p op n to dA x y=>
  obtain⟨d,i,⟨rfl,O⟩,_,_,bn,_⟩:=h
  grind [Ab,kA]
theorem aiS{ai:List cF}{c:k6}{j:Int}(h:tH ai c j):kA ai j=hz c:=by
 cases c with
 |nil=>grind [kA,hz,tH]
 |mk p op n cx q x y=>
  obtain⟨d,i,⟨rfl,O⟩,_,_,bn,_⟩:=h
  grind [Ab,kA]
theorem YP{σ:bc}(h:σ.a8=0)(a:Nat)(r:bm):ey σ (xh (a:Nat) r σ) (.ok (.rx a r)):=⟨h,Dm _ _,⟨_,SO _ _,rfl,rfl,rfl,rfl⟩⟩
theorem uL{σ:bc}(h:σ.a8=0){d:cF}{p:Nat}{op:ao}{n:Option bm}{cx:ao}{q:jW}{x y:k6}(ak:d.k=4/\d.op=op/\d.at_=(p:Nat)/\d.cO=n/\d.t=cx)(z:qW σ.ai q d.q)(aB:tH σ.ai x d.a)(cG:tH σ.ai y d.b)(cm:SN op=false)(bx:KM op=false\/y=.nil:=by first|exact .inr rfl|exact .inl (by decide)):ey σ (kB d σ) (.ok (.lens (.mk p op n cx q x y))):=by
 refine⟨h,Dm _ _,(λh=>by cases h),?_⟩;refine⟨_,_,⟨rfl,SO _ _⟩,ak,⟨z.pre (Dm _ _),aB.pre (Dm _ _),cG.pre (Dm _ _)⟩,?_,cm,bx⟩;obtain⟨D,rfl,B,rfl,rfl⟩:=ak;have aE:¬d.op=fB:=λg=>by grind [SN]
 show qn d σ.ai=_;rw[qn,ab U,ab U,aiS aB,aiS cG,YO z,hz]
 grind
theorem SP{σ:bc}(h:σ.a8=0){d:cF}{p:Nat}{op:ao}{n:Option bm}{to dA:ao}{x y:jW}(ak:d.k=3/\d.op=op/\d.at_=(p:Nat)/\d.cO=n/\d.t=to/\d.dA=dA)(z:d.q=-1)(aB:qW σ.ai x d.a)(cG:qW σ.ai y d.b)(cm:SM op=false)(bx:KM op=false\/y=.nil:=by first|exact .inr rfl|exact .inl (by decide)):ey σ (kB d σ) (.ok (.canon (.mk p op n to dA x y))):=by
 refine⟨h,Dm _ _,(λh=>by cases h),?_⟩;refine⟨_,_,⟨rfl,SO _ _⟩,ak,⟨aB.pre (Dm _ _),cG.pre (Dm _ _)⟩,?_,cm,bx⟩;obtain⟨D,rfl,B,rfl,rfl,rfl⟩:=ak;have aE:¬d.op=fX:=λg=>by grind [SM]
 show qn d σ.ai=_;have e:kA σ.ai d.q=0:=by rw[z];rfl
 rw[qn,ab U,ab U,YO aB,YO cG,e,fO]
 grind
theorem ey.from_{σ cd:bc}{p:Nat×bc}{e:n1}(h:ey cd p e)(aE:σ.ai <+: cd.ai):ey σ p e:=by
 cases e with
 |error q=>exact h
 |ok t=>grind [ey]
theorem SQ{σ:bc}{a:Nat}{p:Nat×bc}{e:n1}(h:ey σ p e):ey σ (sT (a:Nat) p) (cI e (nb a)):=by
 cases e with
 |error q=>grind [ey,sT,cI]
 |ok t=>
  obtain⟨D,O,B⟩:=h;obtain⟨_,_,_,_,bx,_⟩:=B.aH;show ey σ (sT (a:Nat) p) (nb a t);unfold sT nb
  grind [ey,cY]
theorem aA0{σ:bc}(h:σ.a8=0)(p:Nat)(op:ao){t:cl}{a:Nat}(aV:en σ.ai t a):ey σ (BE (p:Nat) op a σ) (pP p op t):=by
 obtain⟨_,_,ad,_⟩:=aV.aH;unfold BE pP;rw[aV.as,ad];cases aE:fa t with
 |some n=>exact YP h p _
 |none=>
  cases t with
  |text p s=>cases aE
  |rx p s=>cases aE
  |canon c=>
   have B:¬k7 (.canon c)=4:=show¬(3:Nat)=4 by decide
   dsimp only;by_cases g:op=ny
   ·rw[al g,al g];exact SP (d:={ hU 3 eD (p:Nat) with a:=(a:Nat),b:=-1 }) h ⟨rfl,rfl,rfl,rfl,rfl,rfl⟩ rfl aV.2 rfl aq
   grind [uK]
  |lens l=>
   have aU:k7 (.lens l)=4:=rfl;dsimp only;by_cases g:op=ny
   ·rw[al g,al g];exact uL (d:={ hU 4 eD (p:Nat) with a:=(a:Nat),b:=-1 }) h ⟨rfl,rfl,rfl,rfl,rfl⟩ rfl aV.2 rfl aq
   ·rw[ab g,ab g,al aU];by_cases g2:op=pK
    ·rw[al g2,al g2];obtain⟨D,O,B⟩:=uL (op:=eD) (n:=none) (cx:=⟨#[]⟩) (d:={ hU 4 eD (p:Nat) with a:=(a:Nat),b:=-1 }) (y:=.nil) (q:=.nil) h ⟨rfl,rfl,rfl,rfl,rfl⟩ rfl aV.2 rfl aq
     exact(uL (op:=l1) (n:=none) (cx:=⟨#[]⟩) (q:=.nil) (σ:=(pe 4 eD (p:Nat) a (-1) σ).2) (d:={ hU 4 l1 (p:Nat) with a:=(a:Nat),b:=(pe 4 eD (p:Nat) a (-1) σ).1 }) D ⟨rfl,rfl,rfl,rfl,rfl⟩ rfl (aV.2.pre O) B.2 aq).from_ O
    ·rw[ab g2,ab g2];obtain⟨D,O,B⟩:=uL (op:=iX) (n:=some .bV) (cx:=⟨#[]⟩) (d:={ hU 4 iX (p:Nat) with cO:=some .bV }) (x:=.nil) (y:=.nil) (q:=.nil) h ⟨rfl,rfl,rfl,rfl,rfl⟩ rfl rfl rfl aq
     exact(uL (op:=o6) (n:=none) (cx:=⟨#[]⟩) (q:=.nil) (σ:=(HV (p:Nat) σ).2) (d:={ hU 4 o6 (p:Nat) with a:=(a:Nat),b:=(HV (p:Nat) σ).1 }) D ⟨rfl,rfl,rfl,rfl,rfl⟩ rfl (aV.2.pre O) B.2 aq).from_ O
def aA1:∀k,k<=4->SN (oG k)=false/\SM (oG k)=false/\KM (oG k)=false:=by decide
theorem aiT{σ:bc}(h:σ.a8=0)(p:Nat)(op:ao){t u:cl}{a b:Nat}(aV:en σ.ai t a)(hu:en σ.ai u b)(jI:¬(k7 t<=2/\k7 u<=2)):ey σ (Aa (p:Nat) op a b σ) (jk p op t u):=by
 obtain⟨_,_,ad,_⟩:=aV.aH;obtain⟨_,_,e4,_⟩:=hu.aH;obtain⟨hY,j3,ns⟩:=aA1 (gm op) (ags op);unfold Aa;rw[ad,e4];have dV:∀a b:Nat,Nat.beq a b=false->¬a=b:=λa b h e=>by simp_all
 cases t with
 |text q s=>
  cases u with
  |text=>grind [en]
  |rx=>grind [en]
  |canon c=>rw[ab (λg=>dV _ _ rfl g.1)];exact uK h p
  |lens l=>rw[ab (λg=>dV _ _ rfl g.1)];exact uK h p
 |rx q s=>
  cases u with
  |text=>grind [en]
  |rx=>grind [en]
  |canon c=>rw[ab (λg=>dV _ _ rfl g.1)];exact uK h p
  |lens l=>rw[ab (λg=>dV _ _ rfl g.1)];exact uK h p
 |canon c=>
  cases u with
  |text=>rw[ab (λg=>dV _ _ rfl g.1)];exact uK h p
  |rx=>rw[ab (λg=>dV _ _ rfl g.1)];exact uK h p
  |lens l=>rw[ab (λg=>dV _ _ rfl g.1)];exact uK h p
  |canon fE =>
   show ey σ _ (if gm op=1\/gm op=2 then .ok (.canon (.mk p (oG (gm op)) none ⟨#[]⟩ ⟨#[]⟩ c fE)) else lF p);by_cases g:gm op=1\/gm op=2
   ·rw[al g,al ⟨rfl,g.elim .inl λg=>.inr (.inl g)⟩];exact SP (d:={ hU 3 (oG (gm op)) (p:Nat) with a:=(a:Nat),b:=(b:Nat) }) h ⟨rfl,rfl,rfl,rfl,rfl,rfl⟩ rfl aV.2 hu.2 j3 (.inl ns)
   grind [ey,k7,cY,lF]
 |lens l=>
  cases u with
  |text=>rw[ab (λg=>dV _ _ rfl g.1)];exact uK h p
  |rx=>rw[ab (λg=>dV _ _ rfl g.1)];exact uK h p
  |canon c=>rw[ab (λg=>dV _ _ rfl g.1)];exact uK h p
  |lens kU =>
   show ey σ _ (if 0<gm op then .ok (.lens (.mk p (oG (gm op)) none ⟨#[]⟩ .nil l kU)) else lF p);by_cases g:0<gm op
   ·rw[al g,al ⟨rfl,.inr (.inr ⟨rfl,g⟩)⟩];exact uL (d:={ hU 4 (oG (gm op)) (p:Nat) with a:=(a:Nat),b:=(b:Nat) }) h ⟨rfl,rfl,rfl,rfl,rfl⟩ rfl aV.2 hu.2 hY (.inl ns)
   grind [ey,cY,lF]
theorem aA2{t:cl}{n:bm}(h:fa t=some n):k7 t<=2:=by
 cases t with
 |text=>grind [k7]
 |rx=>grind [k7]
 |canon=>cases h
 |lens=>cases h
theorem aiU{t:cl}(h:fa t=none):¬k7 t<=2:=by
 cases t with
 |text=>cases h
 |rx=>cases h
 |canon=>grind [k7]
 |lens=>grind [k7]
theorem aA3{a:Nat}{op:ao}{t u:cl}(h:k7 t<=2):jk a op t u=lF a:=by
 cases t with
 |text=>rfl
 |rx=>rfl
 |canon=>trivial
 |lens=>trivial
theorem aA4{σ:bc}(h:σ.a8=0)(p:Nat)(op:ao){t u:cl}{a b:Nat}(aV:en σ.ai t a)(hu:en σ.ai u b):ey σ (nF (p:Nat) op a b σ) (vJ p op t u):=by
 unfold nF vJ;rw[aV.as,hu.as];cases aE:fa t with
 |none=>exact aiT h p op aV hu λg=>aiU aE g.1
 |some x=>
  cases hm:fa u with
  |none=>exact aiT h p op aV hu λg=>aiU hm g.2
  |some y=>
   dsimp only;cases rz op x y with
   |some r=>grind [YP]
   |none=>grind [aA3,aA2,uK]
theorem aA5{σ:bc}(h:σ.a8=0)(p:Nat){t:cl}{a:Nat}(aV:en σ.ai t a):ey σ (Fk (p:Nat) a σ) (zL p t):=by
 obtain⟨_,_,ad,_⟩:=aV.aH;unfold Fk;rw[ad];cases t with
 |text q s=>exact uK h p
 |rx q r=>exact uK h p
 |canon c=>exact uK h p
 |lens l=>exact uL (d:={ hU 4 nA (p:Nat) with a:=(a:Nat),b:=-1 }) h ⟨rfl,rfl,rfl,rfl,rfl⟩ rfl aV.2 rfl aq
def vY(ai:List cF):List cl->List Nat->Prop
 |[],[]=>True
 |t::ah,i::is=>en ai t i/\vY ai ah is
 |_,_=>False
theorem HX{σ:bc}(h:σ.a8=0)(c p:Int)(J:c≠0):ey σ (0,cY c p σ) (.error (c,p)):=by grind [ey,cY]
theorem KN{ai:List cF}{t:cl}{a:Nat}(aV:en ai t a)(k:Nat)(d:cF):sS 114 k a ai d=match fa t with
  |some r=>some { d with cO:=some r }
  |none=>none:=by
 grind [en.as,sS]
theorem OB{ai:List cF}{t:cl}{a:Nat}(aV:en ai t a)(k:Nat)(d:cF):sS 116 k a ai d=match t with
  |.text _ s=>some (if k=2 then{ d with dA:=s } else{ d with t:=s })
  |_=>none:=by
 obtain⟨_,_,ad,_⟩:=aV.aH;rw[sS,ab aq,al rfl,ad];cases t with
 |text p s=>grind [en]
 |rx=>rfl
 |canon=>rfl
 |lens=>rfl
def aiV{ai:List cF}{t:cl}{a:Nat}(aV:en ai t a)(k:Nat)(d:cF):sS 113 k a ai d=match t with
  |.canon _=>some { d with q:=(a:Nat) }
  |_=>none:=by
 obtain⟨_,_,ad,_⟩:=aV.aH;rw[sS,ab aq,ab aq,al rfl,ad];cases t<;>rfl
def YQ{ai:List cF}{t:cl}{a:Nat}(aV:en ai t a)(k:Nat)(d:cF):sS 108 k a ai d=match t with
  |.lens _=>some { d with a:=(a:Nat) }
  |_=>none:=by
 obtain⟨_,_,ad,_⟩:=aV.aH;rw[sS,ab aq,ab aq,ab aq,ad];cases t<;>rfl
theorem aiW{w:ao}(h:0<ed w):(((w=jE\/w=ke)\/(w=iX\/w=nZ))\/w=fX)/\ed w=1\/(w=nz\/w=mZ\/w=na\/w=nB)/\ed w=2\/w=fB/\ed w=3:=by grind [jE,ke,iX,nZ,fX,ed,nz,mZ,na,nB,fB]
theorem aA6{ai:List cF}{ah:List cl}{ps:aD}(h:vY ai ah ps)(aN:ah.length=1):∃t a,ah=[t]/\ps=[a]/\en ai t a:=by fun_induction vY<;>grind [vY]
theorem aA7{ai:List cF}{ah:List cl}{ps:aD}(h:vY ai ah ps)(aN:ah.length=2):∃t u a b,ah=[t,u]/\ps=[a,b]/\en ai t a/\en ai u b:=by
 match ah,ps,h,aN with
 |[t,u],[a,b],h,_=>grind [vY]
theorem aA8{ai:List cF}{ah:List cl}{ps:aD}(h:vY ai ah ps)(aN:ah.length=3):∃t u v a b c,ah=[t,u,v]/\ps=[a,b,c]/\en ai t a/\en ai u b/\en ai v c:=by
 match ah,ps,h,aN with
 |[t,u,v],[a,b,c],h,_=>grind [vY]
theorem aA9{σ:bc}(h:σ.a8=0)(p:Nat){w:ao}{ah:List cl}{ps:aD}(fy:aD)(kD:vY σ.ai ah ps)(hw:0<ed w)(hlen:ah.length=(ed w).toNat):ey σ (nG (p:Nat) w fy ps σ) (ev p w ah fy):=by
 have eh:∀x:UInt8,af ⟨#[x]⟩ ((0:Nat):Int)=x.toNat:=λx=>rfl
 have lU:∀x y:UInt8,af ⟨#[x,y]⟩ ((0:Nat):Int)=x.toNat/\af ⟨#[x,y]⟩ ((0+1:Nat):Int)=y.toNat:=λx y=>⟨rfl,rfl⟩
 have eX:∀x y aE7:UInt8,af ⟨#[x,y,aE7]⟩ ((0:Nat):Int)=x.toNat/\af ⟨#[x,y,aE7]⟩ ((0+1:Nat):Int)=y.toNat/\af ⟨#[x,y,aE7]⟩ ((0+1+1:Nat):Int)=aE7.toNat:=λx y aE7=>⟨rfl,rfl,rfl⟩
 rcases aiW hw with⟨g,e⟩|⟨g,e⟩|⟨rfl,e⟩
 ·rw[e]at hlen;obtain⟨t,a,rfl,rfl,aV⟩:=aA6 kD hlen;rcases g with(g|g)|rfl
  ·have bg:nG (p:Nat) w fy [a] σ=match(match fa t with
     |some r=>some ({ hU 3 w (p:Nat) with cO:=some r }:cF)
     |none=>none) with
    |some eU=>kB eU σ
    |none=>(0,cY 72 (fy.getD 0 0:Nat) σ):=by
    have V:gE w=⟨#[114]⟩:=by rcases g with rfl|rfl<;>decide
    have ad:(if w=jE\/w=ke\/w=fB then 3 else 4)=3:=al (g.elim .inl λg=>.inr (.inl g));unfold nG;rw[V,ad];simp only[uJ];rw[(eh 114)];rw[show((114:UInt8).toNat:Int)=114 from rfl,KN aV]
    grind
   rw[bg,ev,al g];show ey σ _ (cI (match fa t with|some r=>.ok r|none=>.error (72,((fy.getD 0 0:Nat):Int))) _);cases aE:fa t with
   |none=>grind [ey,cY,cI]
   |some r=>exact SP (d:={ hU 3 w (p:Nat) with cO:=some r }) h ⟨rfl,rfl,rfl,rfl,rfl,rfl⟩ rfl rfl rfl (by rcases g with rfl|rfl<;>decide)
  ·have bg:nG (p:Nat) w fy [a] σ=match(match fa t with
     |some r=>some ({ hU 4 w (p:Nat) with cO:=some r }:cF)
     |none=>none) with
    |some eU=>kB eU σ
    |none=>(0,cY 72 (fy.getD 0 0:Nat) σ):=by
    have V:gE w=⟨#[114]⟩:=by rcases g with rfl|rfl<;>decide
    have ad:(if w=jE\/w=ke\/w=fB then 3 else 4)=4:=ab (by rcases g with rfl|rfl<;>decide);unfold nG;rw[V,ad];simp only[uJ];rw[(eh 114)];rw[show((114:UInt8).toNat:Int)=114 from rfl,KN aV]
    grind
   have bN:ev p w [t] fy=cI (r8 [t] fy 0) λn=>.ok (.lens (.mk p w (some n) ⟨#[]⟩ .nil .nil .nil)):=by rcases g with rfl|rfl<;>rw[ev,ab aq,ab aq,ab aq,ab aq,al aq]
   rw[bg,bN];show ey σ _ (cI (match fa t with|some r=>.ok r|none=>.error (72,((fy.getD 0 0:Nat):Int))) _);cases aE:fa t with
   |none=>grind [ey,cY,cI]
   |some r=>exact uL (d:={ hU 4 w (p:Nat) with cO:=some r }) h ⟨rfl,rfl,rfl,rfl,rfl⟩ rfl rfl rfl (by rcases g with rfl|rfl<;>decide)
  ·have bg:nG (p:Nat) fX fy [a] σ=match(match t with
     |.text _ s=>some ({ hU 4 fX (p:Nat) with t:=s }:cF)
     |_=>none) with
    |some eU=>kB eU σ
    |none=>(0,cY 72 (fy.getD 0 0:Nat) σ):=by
    have V:gE fX=⟨#[116]⟩:=by decide
    unfold nG;rw[V,ab aq];simp only[uJ];rw[(eh 116)];rw[show((116:UInt8).toNat:Int)=116 from rfl,OB aV];cases t<;>rfl
   rw[bg,ev,ab aq,ab aq,ab aq,al rfl];cases t with
   |text q s=>exact uL (d:={ hU 4 fX (p:Nat) with t:=s }) h ⟨rfl,rfl,rfl,rfl,rfl⟩ rfl rfl rfl aq
   |rx=>grind [ey,cY,cI,jF]
   |canon=>grind [ey,cY,cI,jF]
   |lens=>grind [ey,cY,cI,jF]
 ·rw [e]at hlen;obtain⟨t,u,a,b,rfl,rfl,aV,hu⟩:=aA7 kD hlen;rcases g with rfl|rfl|rfl|rfl
  ·have bg:nG (p:Nat) nz fy [a,b] σ=match fa t with
     |none=>(0,cY 72 (fy.getD 0 0:Nat) σ)
     |some r=>match u with
      |.text _ s=>kB ({ hU 4 nz (p:Nat) with cO:=some r,t:=s }:cF) σ
      |_=>(0,cY 72 (fy.getD 1 0:Nat) σ):=by
    have V:gE nz=⟨#[114,116]⟩:=by decide
    unfold nG;rw[V,ab aq];simp only[uJ];rw[(lU 114 116).1,(lU 114 116).2];rw[show((114:UInt8).toNat:Int)=114 from rfl,show((116:UInt8).toNat:Int)=116 from rfl,KN aV];cases fa t with
    |none=>rfl
    |some r=>dsimp only;rw[OB hu];cases u<;>rfl
   rw[bg,ev,ab aq,ab aq,al rfl];show ey σ _ (cI (match fa t with|some r=>.ok r|none=>.error (72,((fy.getD 0 0:Nat):Int))) _);cases aE:fa t with
   |none=>grind [ey,cY,cI]
   |some r=>
    cases u with
    |text q s=>exact uL (d:={ hU 4 nz (p:Nat) with cO:=some r,t:=s }) h ⟨rfl,rfl,rfl,rfl,rfl⟩ rfl rfl rfl aq
    |rx=>grind [ey,cY,cI,jF]
    |canon=>grind [ey,cY,cI,jF]
    |lens=>grind [ey,cY,cI,jF]
  ·have bg:nG (p:Nat) mZ fy [a,b] σ=match t with
     |.canon _=>(match u with
      |.lens _=>kB ({ hU 4 mZ (p:Nat) with q:=(a:Nat),a:=(b:Nat) }:cF) σ
      |_=>(0,cY 72 (fy.getD 1 0:Nat) σ))
     |_=>(0,cY 72 (fy.getD 0 0:Nat) σ):=by
    have V:gE mZ=⟨#[113,108]⟩:=by decide
    unfold nG;rw[V,ab aq];simp only[uJ];rw[(lU 113 108).1,(lU 113 108).2];rw[show((113:UInt8).toNat:Int)=113 from rfl,show((108:UInt8).toNat:Int)=108 from rfl,aiV aV];cases t with
    |text=>rfl
    |rx=>rfl
    |lens=>rfl
    |canon c=>dsimp only;rw[YQ hu];cases u<;>rfl
   rw[bg,ev,ab aq,ab aq,ab aq,ab aq,ab aq,al rfl];cases t with
   |text=>grind [ey,cY,cI,o7]
   |rx=>grind [ey,cY,cI,o7]
   |lens=>grind [ey,cY,cI,o7]
   |canon c=>
    cases u with
    |lens l=>exact uL (d:={ hU 4 mZ (p:Nat) with q:=(a:Nat),a:=(b:Nat) }) h ⟨rfl,rfl,rfl,rfl,rfl⟩ aV.2 hu.2 rfl aq
    |text=>grind [ey,cY,cI,o7,k8]
    |rx=>grind [ey,cY,cI,o7,k8]
    |canon=>grind [HX,cI,o7,k8]
  ·have bg:nG (p:Nat) na fy [a,b] σ=match t with
     |.lens _=>(match u with
      |.canon _=>kB ({ hU 4 na (p:Nat) with a:=(a:Nat),q:=(b:Nat) }:cF) σ
      |_=>(0,cY 72 (fy.getD 1 0:Nat) σ))
     |_=>(0,cY 72 (fy.getD 0 0:Nat) σ):=by
    have V:gE na=⟨#[108,113]⟩:=by decide
    unfold nG;rw[V,ab aq];simp only[uJ];rw[(lU 108 113).1,(lU 108 113).2];rw[show((113:UInt8).toNat:Int)=113 from rfl,show((108:UInt8).toNat:Int)=108 from rfl,YQ aV];cases t with
    |text=>rfl
    |rx=>rfl
    |canon=>rfl
    |lens c=>dsimp only;rw[aiV hu];cases u<;>rfl
   rw[bg,ev,ab aq,ab aq,ab aq,ab aq,ab aq,ab aq,al rfl];cases t with
   |text=>grind [ey,cY,cI,k8]
   |rx=>grind [ey,cY,cI,k8]
   |canon=>grind [ey,cY,cI,k8]
   |lens c=>
    cases u with
    |canon l=>exact uL (d:={ hU 4 na (p:Nat) with a:=(a:Nat),q:=(b:Nat) }) h ⟨rfl,rfl,rfl,rfl,rfl⟩ hu.2 aV.2 rfl aq
    |text=>exact HX h 72 _ aq
    |rx=>exact HX h 72 _ aq
    |lens=>grind [HX,cI,k8,o7]
  ·have bg:nG (p:Nat) nB fy [a,b] σ=match t with
     |.lens _=>(match u with
      |.text _ s=>kB ({ hU 4 nB (p:Nat) with a:=(a:Nat),t:=s }:cF) σ
      |_=>(0,cY 72 (fy.getD 1 0:Nat) σ))
     |_=>(0,cY 72 (fy.getD 0 0:Nat) σ):=by
    have V:gE nB=⟨#[108,116]⟩:=by decide
    unfold nG;rw[V,ab aq];simp only[uJ];rw[(lU 108 116).1,(lU 108 116).2];rw[show((116:UInt8).toNat:Int)=116 from rfl,show((108:UInt8).toNat:Int)=108 from rfl,YQ aV];cases t with
    |text=>rfl
    |rx=>rfl
    |canon=>rfl
    |lens c=>dsimp only;rw[OB hu];cases u<;>rfl
   rw[bg,ev,ab aq,ab aq,ab aq,ab aq,ab aq,ab aq,ab aq,al rfl];cases t with
   |text=>grind [ey,cY,cI,k8]
   |rx=>grind [ey,cY,cI,k8]
   |canon=>grind [ey,cY,cI,k8]
   |lens c=>
    cases u with
    |text q s=>exact uL (d:={ hU 4 nB (p:Nat) with a:=(a:Nat),t:=s }) h ⟨rfl,rfl,rfl,rfl,rfl⟩ rfl aV.2 rfl aq
    |canon=>grind [HX,cI,k8,jF]
    |rx=>grind [ey,cY,cI,k8,jF]
    |lens=>grind [HX,cI,k8,jF]
 ·rw [e]at hlen;obtain⟨t,u,v,a,b,c,rfl,rfl,aV,hu,au⟩:=aA8 kD hlen;have bg:nG (p:Nat) fB fy [a,b,c] σ=match fa t with
    |none=>(0,cY 72 (fy.getD 0 0:Nat) σ)
    |some r=>match u with
     |.text _ s=>(match v with
      |.text _ hf=>kB ({ hU 3 fB (p:Nat) with cO:=some r,t:=s,dA:=hf }:cF) σ
      |_=>(0,cY 72 (fy.getD 2 0:Nat) σ))
     |_=>(0,cY 72 (fy.getD 1 0:Nat) σ):=by
   have V:gE fB=⟨#[114,116,116]⟩:=by decide
   unfold nG;rw[V,al aq];simp only[uJ];rw[(eX 114 116 116).1,(eX 114 116 116).2.1,(eX 114 116 116).2.2];rw[show((114:UInt8).toNat:Int)=114 from rfl,show((116:UInt8).toNat:Int)=116 from rfl,KN aV];cases fa t with
   |none=>rfl
   |some r=>
    dsimp only;rw[OB hu];cases u with
    |rx=>rfl
    |canon=>rfl
    |lens=>rfl
    |text q s=>dsimp only;rw[OB au];cases v<;>rfl
  rw[bg,ev,ab aq,al rfl];show ey σ _ (cI (match fa t with|some r=>.ok r|none=>.error (72,((fy.getD 0 0:Nat):Int))) _);cases aE:fa t with
  |none=>grind [ey,cY,cI]
  |some r=>
   cases u with
   |rx=>grind [ey,cY,cI,jF]
   |canon=>grind [ey,cY,cI,jF]
   |lens=>grind [ey,cY,cI,jF]
   |text q s=>
    cases v with
    |rx=>simp_all [ey,cY,cI,jF]
    |canon=>simp_all [ey,cY,cI,jF]
    |lens=>simp_all [ey,cY,cI,jF]
    |text Vv hf=>exact SP (d:={ hU 3 fB (p:Nat) with cO:=some r,t:=s,dA:=hf }) h ⟨rfl,rfl,rfl,rfl,rfl,rfl⟩ rfl rfl rfl aq
def n8(ai:List cF):kh->dN->Prop
 |[],[]=>True
 |(k,i)::r,(eS,t)::v=>(k=eS/\en ai t i)/\n8 ai r v
 |_,_=>False
theorem n8.pre{ai vX:List cF}(h:ai <+: vX):∀{bd:kh} {v:dN},n8 ai bd v->n8 vX bd v
 |[],[],_=>trivial
 |(k,i)::r,(eS,t)::v,g=>⟨⟨g.1.1,g.1.2.pre h⟩,n8.pre h g.2⟩
 |[],_::_,g=>g.elim
 |_::_,[],g=>g.elim
def n8.Bp{ai:List cF}{s:ao}{i:Nat}{t:cl}(h:en ai t i):∀{bd:kh} {v:dN},n8 ai bd v->n8 ai (bd++[(s,i)]) (v++[(s,t)])
 |[],[],_=>⟨⟨rfl,h⟩,trivial⟩
 |(k,i)::r,(eS,t)::v,g=>⟨g.1,n8.Bp h g.2⟩
 |[],_::_,g=>g.elim
 |_::_,[],g=>g.elim
theorem YR{ai:List cF}{s:ao}:∀{bd:kh} {v:dN},n8 ai bd v->match rA v s with
  |none=>vW bd s=none
  |some t=>∃i,vW bd s=some i/\en ai t i
 |[],[],_=>rfl
 |(k,i)::r,(eS,t)::v,g=>by
  obtain⟨⟨rfl,g1⟩,g2⟩:=g;have bb:=YR (s:=s) g2
  grind [rA,vW]
 |[],_::_,g=>g.elim
 |_::_,[],g=>g.elim
def SR(σ:bc)(p:List Nat×bc):Except (Int×Int) (List cl)->Prop
 |.ok ah=>p.2.a8=0/\σ.ai <+: p.2.ai/\vY p.2.ai ah p.1
 |.error (c,a)=>c≠0/\p.2.a8=c/\p.2.at_=a
theorem vY.pre{ai vX:List cF}(h:ai <+: vX):∀{ah:List cl} {ps:aD},vY ai ah ps->vY vX ah ps
 |[],[],_=>trivial
 |_::_,_::_,g=>⟨g.1.pre h,vY.pre h g.2⟩
 |[],_::_,g=>g.elim
 |_::_,[],g=>g.elim
theorem Fo(bd:kh)(x:bO):∀σ:bc,¬σ.a8=0->eR bd x σ=(0,σ):=by induction x<;>grind [eR]
theorem aBa(bd:kh)(x:bO):∀σ:bc,¬σ.a8=0->(jb bd x σ).2=σ:=by
 induction x with
 |cons x l _ bb=>
  intro σ h
  grind [Fo,jb]
 |_=>grind [jb]
theorem YS{σ:bc}{q:Nat×bc}{e:n1}{f:Nat->bc->Nat×bc}{g:cl->n1}(h:ey σ q e)(aW:∀t,e=.ok t->en q.2.ai t q.1->ey q.2 (f q.1 q.2) (g t)):ey σ (HW q f) (cI e g):=by
 cases e with
 |error p=>grind [ey,HW,cI]
 |ok t=>obtain⟨D,O,B⟩:=h;rw[HW,al D];exact(aW t rfl B).from_ O
theorem aBb(v:dN)(l:bO):∀ah,qK v l=.ok ah->ah.length=sa l:=by fun_induction sa<;>grind [qK]
theorem SS(aH:List fY)(v:dN)(bd:kh)(x:bO):dZ x->(∀i,e2 aH x i->∀σ:bc,σ.a8=0->n8 σ.ai bd v->ey σ (eR bd x σ) (dk v x))/\(∀ps,hT aH x ps->∀σ:bc,σ.a8=0->n8 σ.ai bd v->SR σ (jb bd x σ) (qK v x)):=by
 induction x with
 |name a s=>
  refine λaB=>⟨λi hi σ h he=>?_,λps hp=>by trivial⟩
  have aN:=YR (s:=s) he;simp only[eR,dk];rw[al h,Fl]
  grind [ey,cY]
 |text a s=>
  refine λaB=>⟨λi hi σ h he=>?_,λps hp=>by trivial⟩
  simp only[eR,dk];rw[al h];exact⟨h,Dm _ _,⟨_,SO _ _,rfl,rfl,rfl,rfl,rfl⟩⟩
 |rx a s=>
  refine λaB=>⟨λi hi σ h he=>?_,λps hp=>by trivial⟩
  simp only[eR,dk];rw[al h,Fm];cases hp:vt s with
  |ok r=>grind [YP]
  |error e=>
   obtain⟨c,j⟩:=e
   grind [HX,ay1]
 |keyed a x bb=>
  refine λaB=>⟨λi hi σ h he=>?_,λps hp=>by trivial⟩
  simp only[dZ]at aB;simp only[e2]at hi;obtain⟨p,_,hi⟩:=hi;simp only[eR,dk];rw[al h];refine YS ((bb aB.2).1 _ hi σ h he) λt aV bJ=>?_
  have D:=(bb aB.2).1 _ hi σ h he
  grind [SQ,aA5,ey]
 |unary a op x bb=>
  refine λaB=>⟨λi hi σ h he=>?_,λps hp=>by trivial⟩
  simp only[dZ]at aB;simp only[e2]at hi;obtain⟨p,_,hi⟩:=hi;simp only[eR,dk];rw[al h];refine YS ((bb aB.2.2).1 _ hi σ h he) λt aV bJ=>?_
  have D:=(bb aB.2.2).1 _ hi σ h he
  grind [SQ,aA0,ey]
 |binary a op x y iz zS=>
  refine λaB=>⟨λi hi σ h he=>?_,λps hp=>by trivial⟩
  simp only[dZ]at aB;simp only[e2]at hi;obtain⟨p,q,_,hi,Y⟩:=hi;simp only[eR,dk];rw[al h];have D:=(iz aB.2.2.1).1 _ hi σ h he;cases hm:dk v x with
  |error e=>
   obtain⟨c,j⟩:=e;rw[hm]at D;obtain⟨g1,g2,g3⟩:=D;have eL:¬(eR bd x σ).2.a8=0:=by rw[g2];exact g1
   grind [Fo,HW,ey,cI]
  |ok t=>
   rw[hm]at D;obtain⟨g1,g2,g3⟩:=D;have O:=(zS aB.2.2.2).1 _ Y (eR bd x σ).2 g1 (he.pre g2);refine ey.from_ (cd := (eR bd x σ).2) ?_ g2;refine YS (g:=λu=>cI (vJ a op t u) (nb a)) O λu hu dY=>?_
   grind [SQ,aA4,en.pre,ey]
 |call a w l bb=>
  refine λaB=>⟨λi hi σ h he=>?_,λps hp=>by trivial⟩
  simp only[dZ]at aB;simp only[e2]at hi;obtain⟨fQ,_,hi⟩:=hi;simp only[eR,dk];rw[al h];have D:=(bb aB.2.2.2.2).2 _ hi σ h he;cases hm:qK v l with
  |error e=>
   obtain⟨c,j⟩:=e;rw[hm]at D;obtain⟨g1,g2,g3⟩:=D
   grind [ey]
  |ok ah=>rw[hm]at D;obtain⟨g1,g2,g3⟩:=D;rw[al g1];have hlen:=aBb v l ah hm;exact(SQ (aA9 g1 a (eb l) g3 aB.2.2.1 U)).from_ g2
 |nil=>exact λaB=>⟨λi hi=>by trivial,λps hp σ h he=>by simp only[jb,qK];exact⟨h,TA _,trivial⟩⟩
 |cons x l iz R1=>
  refine λaB=>⟨λi hi=>by trivial,λps hp σ h he=>?_⟩
  simp only[dZ]at aB;simp only[hT]at hp;obtain⟨p,r,_,Jx,Eg⟩:=hp;have D:=(iz aB.1).1 _ Jx σ h he;simp only[jb,qK];cases hm:dk v x with
  |error e=>
   obtain⟨c,j⟩:=e;rw[hm]at D;obtain⟨g1,g2,g3⟩:=D;have eL:¬(eR bd x σ).2.a8=0:=by rw[g2];exact g1
   show SR σ _ (.error (c,j));have:=aBa bd l _ eL
   grind [SR]
  |ok t=>
   rw[hm]at D;obtain⟨g1,g2,g3⟩:=D;have O:=(R1 aB.2).2 _ Eg (eR bd x σ).2 g1 (he.pre g2);dsimp only;cases aE:qK v l with
   |error e=>grind [SR]
   |ok ah=>rw[aE]at O;obtain⟨e8,dz,kn⟩:=O;exact⟨e8,g2.trans dz,g3.pre dz,kn⟩
def Ac(bd:kh)(a:Nat)(s:ao)(σ:bc):bc:=match vW bd s with
 |some _=>cY 71 (a:Nat) σ
 |none=>σ
def sU:List (Nat×ByteArray×bO)->kh->bc->kh×bc
 |[],bd,σ=>(bd,σ)
 |(a,s,x)::r,bd,σ=>if σ.a8=0 then sU r (bd++[(s,(eR bd x (Ac bd a s σ)).1)]) (eR bd x (Ac bd a s σ)).2 else(bd,σ)
def ye:bc:=⟨[],0,0⟩
def uM(p:pN):Nat×bc:=eR (sU p.1 [] ye).1 p.2 (sU p.1 [] ye).2
def SU(s:ao):Except (Int×Int) (List cF×Nat):=match rv s with
 |.error (c,a)=>.error (c,(a:Nat))
 |.ok p=>if(uM p).2.a8=0 then .ok ((uM p).2.ai,(uM p).1) else .error ((uM p).2.a8,(uM p).2.at_)
theorem YT(l:List (Nat×ByteArray×bO))(bd:kh)(σ:bc)(h:¬σ.a8=0):sU l bd σ=(bd,σ):=by fun_induction sU<;>grind
theorem aiX(aH:List fY):∀(az:List (Nat×ByteArray×bO)) (l:List nE) (v:dN) (bd:kh) (σ:bc),sf aH l az->(∀d∈az,HI d)->σ.a8=0->n8 σ.ai bd v->match yn v az with
  |.error (c,a)=>c≠0/\(sU az bd σ).2.a8=c/\(sU az bd σ).2.at_=a
  |.ok u=>(sU az bd σ).2.a8=0/\n8 (sU az bd σ).2.ai (sU az bd σ).1 u
 |[],l,v,bd,σ,ak,bW,h,he=>⟨h,he⟩
 |(a,s,x)::r,[],v,bd,σ,ak,bW,h,he=>ak.elim
 |(a,s,x)::r,d::l,v,bd,σ,ak,bW,h,he=>by
  obtain⟨⟨_,_,aB⟩,ak⟩:=ak;have aN:=YR (s:=s) he;have H:=bW _ (List.mem_cons_self ..);rw[yn,sU,al h];unfold Ac;cases aV:rA v s with
  |some t=>
   rw[aV]at aN;obtain⟨j,D,_⟩:=aN;obtain⟨f1,f2⟩:=aiR h 71 (a:Nat);have eL:¬(cY 71 (a:Nat) σ).a8=0:=by rw[f1];decide
   grind [Fo,YT]
  |none=>
   rw[aV]at aN;have Z2:vW bd s=none:=aN;rw[Z2];dsimp only;have D:=(SS aH v bd x H.2.2).1 _ aB σ h he;cases hm:dk v x with
   |error e=>
    obtain⟨c,j⟩:=e;rw[hm]at D;obtain⟨g1,g2,g3⟩:=D;have eL:¬(eR bd x σ).2.a8=0:=by rw[g2];exact g1
    grind [YT]
   |ok t=>rw[hm]at D;obtain⟨g1,g2,g3⟩:=D;exact aiX aH r l (v++[(s,t)]) (bd++[(s,(eR bd x σ).1)]) (eR bd x σ).2 ak (λd ak=>bW d (Ie _ ak)) g1 (n8.Bp g3 (he.pre g2))
theorem aBc(s:ao):match vK s with
  |.error (c,a)=>c≠0/\SU s=.error (c,a)
  |.ok t=>∃ai i,SU s=.ok (ai,i)/\en ai t i:=by
 unfold vK SU;have hp:=aiQ s;cases V:rv s with
 |error e=>simp_all
 |ok p=>
  obtain⟨az,x⟩:=p;rw[V]at hp;obtain⟨aH,l,b2,_,D,O,_⟩:=hp;obtain⟨hY,j3⟩:=NV V;have ak:=aiX aH az l [] [] ye D hY rfl trivial;dsimp only;unfold Br uM;dsimp only;cases au:yn [] az with
  |error e=>
   obtain⟨c,a⟩:=e;rw[au]at ak;obtain⟨g1,g2,g3⟩:=ak;have eL:¬(sU az [] ye).2.a8=0:=by rw[g2];exact g1
   grind [Fo]
  |ok v=>
   rw[au]at ak;obtain⟨g1,g2⟩:=ak;have B:=(SS aH v _ x j3).1 _ O _ g1 g2;dsimp only;cases hm:dk v x with
   |error e=>
    obtain⟨c,a⟩:=e;rw[hm]at B;obtain⟨e8,dz,kn⟩:=B
    simp_all
   |ok t=>
    rw[hm]at B;obtain⟨e8,dz,kn⟩:=B
    grind
end
section
open Go Go.RowKit Go.LE
set_option maxRecDepth 10000
variable{l:List bj}{i:Nat}{W:ar}{cs:aX}{o:Option bm}(s:ao)
theorem join_cons(x y:ao)(r:List ByteArray):iY (x::y::r)=x++n0++iY (y::r):=by unfold iY Lib.join;apply DB;simp
def tI:Option bm->ByteArray
 |none=>⟨#[]⟩
 |some r=>zK++iG r++zK
theorem SV{n:Option bm}(h:n≠none):tI n=hA n:=by
 cases n with
 |none=>trivial
 |some r=>rfl
def yD(d:cF):ByteArray:=if d.k=1 then C0 else if d.k=2 then C1 else d.op
def l6(sub:Int->ByteArray)(d:cF):ByteArray:=
 if d.k=1 then e9 d.t
 else if d.k=2 then tI d.cO
 else if d.op=iX\/d.op=nZ\/d.op=jE\/d.op=ke then tI d.cO
 else if d.op=nz then tI d.cO++n0++e9 d.t
 else if d.op=fB then tI d.cO++n0++e9 d.t++n0++e9 d.dA
 else if d.op=fX then e9 d.t
 else if d.op=mZ then sub d.q++n0++sub d.a
 else if d.op=na then sub d.a++n0++sub d.q
 else if d.op=nB then sub d.a++n0++e9 d.t
 else if d.b<0 then sub d.a
 else sub d.a++n0++sub d.b
def j0(ai:List cF):Nat->Int->ByteArray
 |0,_=>⟨#[]⟩
 |n+1,i=>yD (b9 ai i.toNat)++Hw++wW (b9 ai i.toNat).at_++Hx++l6 (j0 ai n) (b9 ai i.toNat)++Hy
theorem YU(ai:List cF)(c:jW):∀(n:Nat) (j:Int),qW ai c j->c≠.nil->o9 c->zO c<n->j0 ai n j=gQ c:=by
 induction c with
 |nil=>simp
 |mk p op aH to dA x y Ox SG=>
  rintro (_|n) j ⟨d,i,⟨rfl,ak⟩,⟨ad,H,aQ,aI,aV,Z⟩,⟨aB,cG⟩,V,aN,bx⟩ A bW aE
  ·trivial
  have e:b9 ai ((i:Nat):Int).toNat=d:=by grind [Ab]
  obtain⟨_,_,_,_,YV,OC,hw⟩:=bW;simp only[zO]at aE;have cm:¬((((((op=iX\/op=nZ)\/op=nz)\/op=fX)\/op=mZ)\/op=na)\/op=nB):=qY aN;rw[j0,e,yD,l6,ad,H,aQ,aI,aV,Z,ab aq,ab aq,ab aq,ab aq,gQ];by_cases D:op=jE\/op=ke
  ·rw[NW (.inl D)]at hw;rw[al (.inr (.inr D)),al D,SV hw,gy,uD]
  ·by_cases O:op=fB
   ·subst O;rw[NW (.inr rfl)]at hw
    grind [SV,join_cons,uD,ByteArray.append_assoc,gy]
   ·rw[ab (λg=>g.elim (λg=>cm (.inl (.inl (.inl (.inl (.inl (.inl g)))))) ) λg=>g.elim (λg=>cm (.inl (.inl (.inl (.inl (.inl (.inr g))))))) D),ab (λg=>cm (.inl (.inl (.inl (.inl (.inr g)))))),ab O,ab (λg=>cm (.inl (.inl (.inl (.inr g))))),ab (λg=>cm (.inl (.inl (.inr g)))),ab (λg=>cm (.inl (.inr g))),ab (λg=>cm (.inr g)),ab D,ab O]
    by_cases B:op=eD
    ·subst B;rw[XH]at hw;have aiY:y=.nil:=bx.resolve_left aq
     grind [uD,gy,qW]
    ·rw[zR,ab (λg=>g.elim D O),ab B]at hw;have Ai:¬d.b<0:=by
      cases y with
      |nil=>simp_all
      |mk=>grind [qW]
     grind [join_cons,uD,gy]
theorem aBd(ai:List cF)(l:k6):∀(n:Nat) (j:Int),tH ai l j->l≠.nil->pb l->Bt l<n->j0 ai n j=eB l:=by
 induction l with
 |nil=>simp
 |mk p op aH cx q x y Ox SG=>
  rintro (_|n) j ⟨d,i,⟨rfl,ak⟩,⟨ad,H,aQ,aI,aV⟩,⟨z,aB,cG⟩,V,aN,bx⟩ A bW aE
  ·trivial
  have e:b9 ai ((i:Nat):Int).toNat=d:=by grind [Ab]
  obtain⟨_,_,_,aBe,YV,OC,hw⟩:=bW;simp only[Bt]at aE;have cm:¬((op=jE\/op=ke)\/op=fB):=qY aN;have hid:¬op=jE:=λg=>cm (.inl (.inl g))
  have BR:¬op=ke:=λg=>cm (.inl (.inr g))
  have jI:¬op=fB:=λg=>cm (.inr g)
  rw[j0,e,yD,l6,ad,H,aQ,aI,aV,ab aq,ab aq,ab aq,ab aq,ab jI,eB];by_cases D:op=iX\/op=nZ
  ·rw[NX (.inl D)]at hw;rw[al (D.elim .inl λg=>.inr (.inl g)),al D,SV hw,gy,uD]
  rw[ab (λg=>g.elim (λg=>D (.inl g)) λg=>g.elim (λg=>D (.inr g)) λg=>g.elim hid BR),ab D];by_cases O:op=nz
  ·subst O;rw[NX (.inr rfl)]at hw
   grind [SV,join_cons,uD,gy]
  rw[ab O,ab O];by_cases B:op=fX
  ·grind [uD,gy]
  rw[ab B,ab B];by_cases aU:op=mZ
  ·subst aU;rw[NY (.inl rfl)]at hw
   grind [join_cons,uD,YU,gy,mZ,eD,nA]
  rw[ab aU];by_cases bn:op=na
  ·subst bn;rw[NY (.inr rfl)]at hw
   grind [join_cons,uD,YU,gy,na,eD,nA]
  rw[ab bn];by_cases cA:op=nB
  ·subst cA;rw[Kk (.inr rfl)]at hw
   grind [join_cons,uD,gy,nB,eD,nA]
  rw[ab cA];by_cases c1:op=eD\/op=nA
  ·rw[Kk (.inl c1)]at hw;have aiY:y=.nil:=bx.resolve_left (by
    grind [KM])
   subst aiY;have cG:d.b=-1:=cG
   grind [uD,gy]
  ·rw[qN,ab (λg=>g.elim D O),ab B,ab (λg=>g.elim c1 cA),ab (λg=>g.elim aU bn)]at hw;have Ai:¬d.b<0:=by
    cases y with
    |nil=>simp_all
    |mk=>grind [tH]
   grind [join_cons,uD,gy]
theorem aiZ{ai:List cF}{t:cl}(h:en ai t i)(bW:gC t){n:Nat}(aE:jm t<n):j0 ai n (i:Nat)=iZ t:=by
 cases t with
 |text p s=>
  obtain⟨d,ak,D,O,B,_⟩:=h;obtain⟨n,rfl⟩:∃m,n=m+1:=⟨n-1,U⟩
  grind [Ab,uD,j0,yD,l6,iZ,gy]
 |rx p r=>obtain⟨d,ak,D,O,B,_⟩:=h;obtain⟨n,rfl⟩:∃m,n=m+1:=⟨n-1,U⟩;rw[j0,kR,Ab ak,yD,l6,D,O,B,ab aq,al rfl,ab aq,al rfl,iZ,gy,uD];rfl
 |canon c=>grind [YU,iZ,en,gC,jm]
 |lens l=>grind [aBd,iZ,en,gC,jm]
def b5.cO:b5:=⟨λk=>.agg [.part k 0,.part k 1],λ_ _=>rfl,λk j Y=>by simpa [ag.keys,cP] using Y⟩
def xi(o:Option bm):lr where
 Φ:=λcs W S=>∃n r,cs=[n,r]/\qV W S n r o
 mono:=λV ⟨n,r,D,O⟩=>⟨n,r,D,O.mono V⟩
def pV:Nat->List bj
 |0=>[]
 |k+1=>dq 0 (ry s (k+1))
def YW(S:dc):bj:=⟨1,S,0,0,0,0⟩
def SW(s:ao):∀k,aG (ry s (k+1))=2*k+1
 |0=>rfl
 |k+1=>by show aG (ry s (k+1))+1+1=_;rw[SW s k];omega
def aBf(k:Nat):(pV s k).length=2*k-1:=by
 cases k with
 |zero=>rfl
 |succ k=>show(dq 0 (ry s (k+1))).length=_;rw[uv,SW];omega
theorem aBg:pV s 1=pV s 0++[YW (qg (s.extract 0 (0+1)) 1)]:=rfl
def aBh(k:Nat):pV s (k+2)=pV s (k+1)++[YW (qg (s.extract (k+1) (k+1+1)) 1)]++[fT 2 ((2*k:Nat):Int) ((2*k+1:Nat):Int)]:=by
 show dq 0 (ry s (k+1))++(dq (0+aG (ry s (k+1))) (NR s (k+1))++[fT 2 ((0+aG (ry s (k+1))-1:Nat):Int) ((0+aG (ry s (k+1))+aG (NR s (k+1))-1:Nat):Int)])=_;rw[SW,mJ];have bg:(0+(2*k+1)-1:Nat)=2*k:=U;have bN:(0+(2*k+1)+aG (NR s (k+1))-1:Nat)=2*k+1:=by show 0+(2*k+1)+1-1=_;omega
 rw[bg,bN];rfl
def aBi(k b:Nat)(ad:k<s.size)(Z:af s (k:Nat)=(b:Nat))(aEF:b<256):dS (λi=>if i=b then true else false)=dS (qg (s.extract k (k+1)) 1).getLsbD:=by
 refine QO λi hi=>?_
 have e:af (s.extract k (k+1)) ((0:Nat):Int)=af s (k:Nat):=by rw[NG _ _ _ _ U U];rfl
 rw[qg,qg,e,Z,kR,My _ _ _ U];simp
 done
def aBj:s3 Tryz.prog 243 [0] [.v (.int .i64 0)]=⟨True,.agg ((fT 0 0 0).df.map .v),[],none,[],[]⟩:=by kernel_rfl
abbrev YX:Env Tryz.prog:=a7 Q4.spec aa
def HY(l:List bj)(d:bj):(l++[d]).length=l.length+1:=by simp
def n9:=(aT (ch va vb vc @qa @pr.eq_1 @pt @qd @QR) (ch @Re @JC @JD @G1 @vv @A4 @G2 @zq) (aT @bQ @vx @aBj))
def aBk(V:s.size<=4096)(w:ar)(S:aY):Calls Tryz.prog 153 #[s] w λe M=>oO w S e M (.fact b5.cO (xi (some (r7 s)))):=by
 have cf:=b1.up w S;refine ue (nt:=48) S [.cell 2 64] Tryz.func153 ?_;refine aA aa n9 ?_;refine fR ⟨6,bK [(0,s),(2,.is (.own 0 0)),(3,.is (.own 8 0))],bA [(0,.cells 64 [.v (.slice none 0 0),(0:Int)]),(8,.cells 64 [.ak 9,(0:Int)]),(9,.row 243 261 0 [])]⟩ ?_ ?_
 ·skip;refine bY aa n9 ?_;exact b8 (λk=>if k=9 then .nil else .key k) n9
 refine ae.seq ?_;refine aR aa n9 ?_ ?_<;>intro J
 ·have A:s=⟨#[]⟩:=aC J
  subst A;refine aL aa n9 ?_ ?_
  ·exact⟨by simp[A3],by unfold maxLen;omega,bj.pG _⟩
  refine ae.rQ 96 (aJ (I n9 @gr)) (λE=>by simp only[ba,den,gr];exact rfl) λcy ck ay d bD e7 zJ=>?_
  refine aA aa n9 ?_;refine bf n9 ?_;exact⟨[.slice ay 1 d,.int .i64 0],λE=>rfl,_,_,rfl,[fT 0 0 0],ay,d,0,rfl,rfl,by rw[x5];exact NJ cf e7,⟨_,rfl,rfl⟩,zJ,rfl⟩
 have eL:¬s=⟨#[]⟩:=aC J
 clear J;have kS:0<s.size:=by
  cases h:s.size with
  |zero=>exact absurd (DB (Zx h)) eL
  |succ n=>omega
 refine gJ aa n9 ?_
 refine ae.loop (λk:Nat=>⟨20,bK [(0,s),(2,.is (.own 0 0)),(3,.is (.own 8 0)),(4,k)],bA [(0,.cells 64 [.v (.slice none 0 0),(0:Int)]),(8,.cells 64 [.ak 9,(2*k-2:Nat)]),(9,.row 243 261 (pV s k).length ((cw (pV s k)).map .v))]⟩) (λk=>k<=s.size) (λk=>s.size-k) 0 ?_ (ef _) ?_
 ·have cv:(pV s 0).length=0:=rfl;have bg:cw (pV s 0)=[]:=rfl;have bN:((2*0-2:Nat):Int)=0:=rfl;exact bh (de n9 cv bg bN @gq)
 rintro k ad;have hlen:=aBf s k;refine ae.seq ?_;refine aR aa n9 ?_ ?_<;>intro J
 ·have ax:k<s.size:=bt J
  clear J;obtain⟨lx,eh⟩:=vo s k;obtain⟨b,El⟩:=l7 lx;have Z:b<256:=U;have CE:=dv ((b:Nat):Int);have dM:=fK k;have Ln:=aBi s k b ax El Z
  have wl:=iv ((((pV s k).length+1:Nat):Int)-1) (((pV s k).length:Nat):Int);refine gJ aa n9 ?_;refine aL aa (de n9 El CE (λgW CK=>M7 gW b CK Z) Ln) ?_ ?_
  ·first|trivial|omega
  refine aL aa n9 ?_ ?_
  ·exact⟨by simp[A3],by unfold maxLen;omega,U,bj.pG _⟩
  refine ae.seq ?_;refine aR aa n9 ?_ ?_<;>intro J
  ·have gN:0<k:=bt J
   obtain⟨j,rfl⟩:∃j,k=j+1:=⟨k-1,U⟩;clear J;have bg:((2*(j+1)-2:Nat):Int)=((2*j:Nat):Int):=U;have bN:(((pV s (j+1)).length:Nat):Int)=((2*j+1:Nat):Int):=by rw[hlen];omega
   have ai0:=aBh s j;have wS:IntKind.i64.wrap ((((pV s (j+1)).length+1+1:Nat):Int)-1)=((2*(j+1+1)-2:Nat):Int):=by rw[gb U U,hlen];omega
   refine wr YX (b3 n9 wl bg bN) ?_ ?_
   ·exact⟨⟨_,rfl⟩,⟨pV s (j+1)++[YW (qg (s.extract (j+1) (j+1+1)) 1)],rfl,(HY _ _).symm,by rw[HY];omega⟩,aq,bq⟩
   refine bY aa (I n9 wS) ?_;refine bY aa (I n9 dM) ?_;have dQ:(pV s (j+1+1)).length=(pV s (j+1)).length+1+1:=by rw[ai0,HY,HY]
   refine⟨j+1+1,U,U,?_⟩;exact b8 (λk=>if k=9 then .key 376 else .key k) (de n9 ai0 @k1 @x5 @HY)
  ·have GM:k=0:=bt J
   subst GM;clear J;have wS:IntKind.i64.wrap ((((pV s 0).length+1:Nat):Int)-1)=((2*(0+1)-2:Nat):Int):=wl;have xu:=aBg s;refine a1 ?_;refine bY aa (I n9 wS) ?_;refine bY aa (I n9 dM) ?_;refine⟨0+1,U,U,?_⟩;exact b8 (λk=>if k=9 then .key 288 else .key k) (aT n9 xu @HY)
 ·have e4:k=s.size:=bt J
  subst e4;refine c6 ?_;refine ae.rQ 9 (aJ (I n9 @gr)) (λE=>by simp only[ba,den,gr];exact rfl) λcy ck ay d bD e7 zJ=>?_
  refine aA aa n9 ?_;refine bf n9 ?_;obtain⟨n,aE⟩:∃n,s.size=n+1:=⟨s.size-1,U⟩;have aN:pV s s.size=dq 0 (r7 s):=by unfold r7;rw[aE];rfl
  have bx:aG (r7 s)=(pV s s.size).length:=by rw[aN,uv]
  have hit:fl (pV s s.size) (2*s.size-2) (r7 s):=by
   have:=aew (r7 s) [] [];simp only[O0,yI,uW]at this;rw[aN];have e:0+aG (r7 s)-1=2*s.size-2:=by rw[bx];omega
   rw[<- e];exact this
  exact⟨[.slice ay (pV s s.size).length d,.int .i64 ((2*s.size-2:Nat):Int)],λE=>rfl,_,_,rfl,pV s s.size,ay,d,2*s.size-2,rfl,rfl,NJ cf e7,hit,zJ,bx.symm⟩
abbrev HZ (s:ao):py Tryz.prog 153:=Jg (λW S=>s.size<=4096) (λ_ _ _ _ _ h=>h) Tryz.call153 λw S hp=>aBk s hp w S
def nd(k:Nat)(d:bj):bj:={ d with a:=if 2<=d.op then IntKind.i64.wrap (d.a+(k:Nat)) else d.a,b:=if 2<=d.op/\d.op≠4 then IntKind.i64.wrap (d.b+(k:Nat)) else d.b }
def vZ(op:Int)(x y:bm):bm:=if op=2 then .cat x y else if op=3 then .alt x y else if op=5 then .and x y else .minus x y
def OD(op:Int)(x y:bm):aG (vZ op x y)=aG x+aG y+1:=by
 unfold vZ
 repeat' split
 all_goals rfl
theorem fl.app(m:List bj):∀{t:bm} {i:Nat},fl l i t->fl (l++m) i t:=by
 have get:∀{i:Nat} {d:bj},l[i]?=some d->(l++m)[i]?=some d:=λh=>by obtain⟨hi,_⟩:=kC.1 h;rw[BL hi];exact h
 intro t
 induction t with
 |bV=>rintro i ⟨d,D,O⟩;exact⟨d,get D,O⟩
 |cls S=>rintro i ⟨d,D,O⟩;exact⟨d,get D,O⟩
 |star a bb=>rintro i ⟨d,x,D,O,B,aU⟩;exact⟨d,x,get D,O,B,bb aU⟩
 |cat a b uN uO=>rintro i ⟨d,x,y,D,O,B,aU,bn,cA,c1⟩;exact⟨d,x,y,get D,O,B,aU,bn,uN cA,uO c1⟩
 |alt a b uN uO=>rintro i ⟨d,x,y,D,O,B,aU,bn,cA,c1⟩;exact⟨d,x,y,get D,O,B,aU,bn,uN cA,uO c1⟩
 |and a b uN uO=>rintro i ⟨d,x,y,D,O,B,aU,bn,cA,c1⟩;exact⟨d,x,y,get D,O,B,aU,bn,uN cA,uO c1⟩
 |minus a b uN uO=>rintro i ⟨d,x,y,D,O,B,aU,bn,cA,c1⟩;exact⟨d,x,y,get D,O,B,aU,bn,uN cA,uO c1⟩
def fl.lt{t:bm}(h:fl l i t):i<l.length:=by obtain⟨d,D,_⟩:=h.op;exact(kC.1 D).1
def fl.eE(p:List bj)(aN:l.length<=4000000)(hp:p.length<=4000000):∀{t:bm} {i:Nat},fl l i t->fl (p++l.map (nd p.length)) (i+p.length) t:=by
 have get:∀{i:Nat} {d:bj},l[i]?=some d->(p++l.map (nd p.length))[i+p.length]?=some (nd p.length d):=λ{i d} h=>by rw[Dv U,Ij,yG,h];rfl
 have wr:∀{x:Nat},x<l.length->IntKind.i64.wrap ((x:Int)+(p.length:Nat))=((x+p.length:Nat):Int):=λaB=>by rw[gb U U];omega
 have two:∀{d:bj} {x y:Nat} {a b:bm},2<=d.op/\d.op≠4->d.a=x->d.b=y->fl l x a->fl l y b->(nd p.length d).op=d.op/\(nd p.length d).a=((x+p.length:Nat):Int)/\(nd p.length d).b=((y+p.length:Nat):Int):=λ{d x y a b} H aB cG aQ Z=>by
  refine⟨rfl,?_,?_⟩
  ·show(if 2<=d.op then IntKind.i64.wrap (d.a+(p.length:Nat)) else d.a)=_;rw[al H.1,aB,wr aQ.lt]
  ·show(if 2<=d.op/\d.op≠4 then IntKind.i64.wrap (d.b+(p.length:Nat)) else d.b)=_;rw[al H,cG,wr Z.lt]
 intro t
 induction t with
 |bV=>rintro i ⟨d,D,O⟩;exact⟨_,get D,O⟩
 |cls S=>rintro i ⟨d,D,O⟩;exact⟨_,get D,O⟩
 |star a bb=>rintro i ⟨d,x,D,O,B,aU⟩;refine⟨_,x+p.length,get D,O,?_,bb aU⟩;show(if 2<=d.op then IntKind.i64.wrap (d.a+(p.length:Nat)) else d.a)=_;rw[al U,B,wr aU.lt]
 |cat a b uN uO=>rintro i ⟨d,x,y,D,O,B,aU,bn,cA,c1⟩;obtain⟨g1,g2,g3⟩:=two U B aU cA c1;exact⟨_,x+p.length,y+p.length,get D,g1.trans O,g2,g3,U,uN cA,uO c1⟩
 |alt a b uN uO=>rintro i ⟨d,x,y,D,O,B,aU,bn,cA,c1⟩;obtain⟨g1,g2,g3⟩:=two U B aU cA c1;exact⟨_,x+p.length,y+p.length,get D,g1.trans O,g2,g3,U,uN cA,uO c1⟩
 |and a b uN uO=>rintro i ⟨d,x,y,D,O,B,aU,bn,cA,c1⟩;obtain⟨g1,g2,g3⟩:=two U B aU cA c1;exact⟨_,x+p.length,y+p.length,get D,g1.trans O,g2,g3,U,uN cA,uO c1⟩
 |minus a b uN uO=>rintro i ⟨d,x,y,D,O,B,aU,bn,cA,c1⟩;obtain⟨g1,g2,g3⟩:=two U B aU cA c1;exact⟨_,x+p.length,y+p.length,get D,g1.trans O,g2,g3,U,uN cA,uO c1⟩
def fl.star{x:bm}(h:fl l i x):fl (l++[fT 4 (i:Nat) 0]) l.length (.star x):=⟨fT 4 (i:Nat) 0,i,bq,rfl,rfl,h.app _⟩
def fl.join{l m:List bj}{i j:Nat}{x y:bm}(h:fl l i x)(g:fl m j y)(aN:l.length<=4000000)(hm:m.length<=4000000){op:Int}(cm:op=2\/op=3\/op=5\/op=6):fl (l++m.map (nd l.length)++[fT op (i:Nat) ((j+l.length:Nat):Int)]) (l.length+m.length) (vZ op x y):=by
 have e:(l++m.map (nd l.length)++[fT op (i:Nat) ((j+l.length:Nat):Int)])[l.length+m.length]?=some (fT op (i:Nat) ((j+l.length:Nat):Int)):=by rw[Dv bq];simp
 have D:fl (l++m.map (nd l.length)++[fT op (i:Nat) ((j+l.length:Nat):Int)]) i x:=(h.app _).app _;have O:fl (l++m.map (nd l.length)++[fT op (i:Nat) ((j+l.length:Nat):Int)]) (j+l.length) y:=(g.eE l hm aN).app _;have hi:=h.lt;rcases cm with rfl|rfl|rfl|rfl
 ·exact⟨_,i,j+l.length,e,rfl,rfl,rfl,U,D,O⟩
 ·exact⟨_,i,j+l.length,e,rfl,rfl,rfl,U,D,O⟩
 ·exact⟨_,i,j+l.length,e,rfl,rfl,rfl,U,D,O⟩
 ·exact⟨_,i,j+l.length,e,rfl,rfl,rfl,U,D,O⟩
def ai1(l:List bj):(List.map ag.v (cw l)).all jq=true:=by
 induction l with
 |nil=>rfl
 |cons d r bb=>have:cw (d::r)=d.df++cw r:=rfl;rw[this,sY,List.all_append,bj.pG,bb];rfl
def ai2(h:0<l.length):cw l≠[]:=λe=>by have:=Na l;rw[e]at this;simp at this;omega
def BF:=(b3 (ch va vb vc @qa @pr.eq_1 @pt @qd @QR) (ch @Re @JC @JD @No @Np @Nq @Nr @Ns) (ch @JK @Nn @Rc @Rf @Rd @bQ @vv @A4) (aT @zq @vx @Ro))
def aBl(l:List bj)(ay:dj)(c i:Nat)(x:bm)(aB:fl l i x)(aN:l.length=aG x)(bx:aG x<=100000)(w:ar)(S:aY)(V:b0 w S ay (cw l)) :
  Calls Tryz.prog 152 #[(4:Int),.agg #[.slice ay l.length c,i],.agg #[.slice none 0 0,(0:Int)]] w λe M=>oO w S e M (.fact b5.cO (xi (some (.star x)))):=by
 have cf:=b1.up w S;have IH:=V.mono (b1.ep w S);have kS:=qF x;obtain⟨b,o,rfl,Z,jr,rk⟩:=ae1 IH (n:=l.length) (aw:=261) (Na l).symm (ai2 U);have eL:(l.length==0)=false:=ae2 λh=>by rw[h]at aN;simp at aN;omega
 refine ue (nt:=71) S [.cell 6 64] Tryz.func152 ?_;refine aA aa BF ?_
 refine fR ⟨8,bK [(0,(4:Int)),(4,.is (.own 0 0)),(5,.is (.own 8 0)),(6,.is (.own 16 0)),(7,.is (.own 24 0))],bA [(0,.cells 64 [.v (.slice (some ⟨b,o,none⟩) l.length c),i]),(8,.cells 64 [.v (.slice none 0 0),(0:Int)]),(16,.cells 64 [.v (.slice none 0 0),(0:Int)]),(24,.cells 64 [.ak 25,(0:Int)]),(25,.row 243 261 0 [])]⟩ ?_ ?_
 ·skip;refine bY aa BF ?_;exact b8 (λk=>if k=25 then .nil else .key k) BF
 refine aL aa (b3 BF eL jr rk) ?_ ?_
 ·exact⟨bq,by unfold maxLen;omega,U,ai1 l⟩
 refine dL aa BF ?_;skip;refine aL YX BF ?_ ?_
 ·exact⟨⟨l,rfl,rfl,U⟩,aq,bq⟩
 refine ae.rQ 152 (aJ (I BF @gr)) (λE=>by simp only[ba,den,gr];exact rfl) λcy ck ay d bD e7 zJ=>?_
 refine aA aa BF ?_;refine bf BF ?_;rw[<- x5,<- k1]at e7
 exact⟨[.slice ay (l.length+1) d,.int .i64 (l.length:Nat)],λE=>rfl,_,_,rfl,l++[fT 4 (i:Nat) 0],ay,d,l.length,by rw[ec];rfl,rfl,NJ cf e7,aB.star,by rw[ec];exact zJ,by rw[ec];show l.length+1=aG x+1;omega⟩
def aBm(d:bj)(x:Int):List.take 257 (List.map ag.v d.df)++[ag.v (.int .i64 x)]++List.drop (257+1) (List.map ag.v d.df)=List.map ag.v ({ d with a:=x }:bj).df:=by
 have e:List.map ag.v d.df=(ag.v (.int .i64 d.op)::List.map ag.v (dS d.set.getLsbD))++[.v (.int .i64 d.a),.v (.int .i64 d.b),.v (.int .i64 d.m),.v (.int .i64 d.n)]:=by simp[bj.df]
 have aN:(ag.v (.int .i64 d.op)::List.map ag.v (dS d.set.getLsbD)).length=257:=by simp[A3]
 rw[e,O2 aN,List.drop_append,aN];have cv:List.drop (257+1) (ag.v (.int .i64 d.op)::List.map ag.v (dS d.set.getLsbD))=[]:=K5 (by rw[aN];omega);rw[cv];simp[bj.df]
def aBn(d:bj)(x:Int):List.take 258 (List.map ag.v d.df)++[ag.v (.int .i64 x)]++List.drop (258+1) (List.map ag.v d.df)=List.map ag.v ({ d with b:=x }:bj).df:=by
 have e:List.map ag.v d.df=(ag.v (.int .i64 d.op)::(List.map ag.v (dS d.set.getLsbD)++[.v (.int .i64 d.a)]))++[.v (.int .i64 d.b),.v (.int .i64 d.m),.v (.int .i64 d.n)]:=by simp[bj.df]
 have aN:(ag.v (.int .i64 d.op)::(List.map ag.v (dS d.set.getLsbD)++[ag.v (.int .i64 d.a)])).length=258:=by simp[A3]
 rw[e,O2 aN,List.drop_append,aN];have cv:List.drop (258+1) (ag.v (.int .i64 d.op)::(List.map ag.v (dS d.set.getLsbD)++[ag.v (.int .i64 d.a)]))=[]:=K5 (by rw[aN];omega);rw[cv];simp[bj.df]
def aBo(m:List bj)(f:bj->bj)(k:Nat)(ad:k<m.length):(m.take (k+1)).map f=(m.take k).map f++[f m[k]]:=by rw[Te ad,sY];rfl
def pf:=(aT BF @aBm @aBn)
def aBp(op:Int)(cm:op=2\/op=3\/op=5\/op=6)(l:List bj)(ay:dj)(c i:Nat)(x:bm)(aB:fl l i x)(aN:l.length=aG x)(bx:aG x<=100000)(m:List bj)(xg:Option Addr)(fE j:Nat)(y:bm)(cG:fl m j y)(hm:m.length=aG y)(BZ:aG y<=100000)(w:ar)(S:aY)(V:b0 w S ay (cw l))(ds:b0 w S xg (cw m)) :
  Calls Tryz.prog 152 #[op,.agg #[.slice ay l.length c,i],.agg #[.slice xg m.length fE,j]] w λe M=>oO w S e M (.fact b5.cO (xi (some (vZ op x y)))):=by
 have cf:=b1.up w S;have IH:=V.mono (b1.ep w S);have e7:=ds.mono (b1.ep w S);have kS:=qF x;have BP:=cG.lt;have aU:¬op=4:=U;obtain⟨b,o,rfl,Z,jr,rk⟩:=ae1 IH (n:=l.length) (aw:=261) (Na l).symm (ai2 U);have eL:(l.length==0)=false:=ae2 λh=>by rw[h]at aN;simp at aN;omega
 refine ue (nt:=71) S [.cell 6 64] Tryz.func152 ?_;refine aA aa pf ?_
 refine fR ⟨8,bK [(0,op),(4,.is (.own 0 0)),(5,.is (.own 8 0)),(6,.is (.own 16 0)),(7,.is (.own 24 0))],bA [(0,.cells 64 [.v (.slice (some ⟨b,o,none⟩) l.length c),i]),(8,.cells 64 [.v (.slice xg m.length fE),j]),(16,.cells 64 [.v (.slice none 0 0),(0:Int)]),(24,.cells 64 [.ak 25,(0:Int)]),(25,.row 243 261 0 [])]⟩ ?_ ?_
 ·skip;refine bY aa pf ?_;exact b8 (λk=>if k=25 then .nil else .key k) pf
 refine aL aa (b3 pf eL jr rk) ?_ ?_
 ·exact⟨bq,by unfold maxLen;omega,U,ai1 l⟩
 refine ae.seq ?_;refine aR aa pf ?_ ?_<;>intro J
 ·exact absurd (aC J) aU
 clear J;refine ti aa pf ?_
 refine ae.loop (λk:Nat=>⟨40,bK [(0,op),(4,.is (.own 0 0)),(5,.is (.own 8 0)),(6,.is (.own 16 0)),(7,.is (.own 24 0)),(8,l.length),(9,k)],bA [(0,.cells 64 [.v (.slice (some ⟨b,o,none⟩) l.length c),i]),(8,.cells 64 [.v (.slice xg m.length fE),j]),(16,.cells 64 [.v (.slice none 0 0),(0:Int)]),(24,.cells 64 [.ak 25,(0:Int)]),(25,.row 243 261 (l.length+k) ((cw (l++(m.take k).map (nd l.length))).map .v))]⟩) (λk=>k<=m.length) (λk=>m.length-k) 0 ?_ (ef _) ?_
 ·exact b8 (λk=>if k=25 then .key 96 else .key k) (I pf @gq)
 rintro k ad;refine ae.seq ?_;refine aR aa pf ?_ ?_<;>intro J
 ·have ax:k<m.length:=bt J
  clear J;obtain⟨lU,j3,rfl,uo,bD,cq⟩:=x9 e7 ax;have aBq:=aBo m (nd l.length) k ax;have dM:=fK k;generalize ak:m[k]=d at *;refine a1 ?_;refine ae.seq (ae.block ?_);refine ae.s7 aa bX (xQ pf (I bD cq)) rfl ?_ ?_
  ·exact⟨U,bq,bj.pG d⟩
  refine fR ⟨80,bK [(0,op),(4,.is (.own 0 0)),(5,.is (.own 8 0)),(6,.is (.own 16 0)),(7,.is (.own 24 0)),(8,l.length),(9,k),(10,.is (.own 400 0))],bA [(0,.cells 64 [.v (.slice (some ⟨b,o,none⟩) l.length c),i]),(8,.cells 64 [.v (.slice (some ⟨lU,j3,none⟩) m.length fE),j]),(16,.cells 64 [.v (.slice none 0 0),(0:Int)]),(24,.cells 64 [.ak 25,(0:Int)]),(25,.row 243 261 (l.length+k) ((cw (l++(m.take k).map (nd l.length))).map .v)),(400,.cells 243 ((nd l.length d).df.map .v))]⟩ ?_ ?_
  ·skip;refine aR aa pf ?_ ?_<;>intro J
   ·have O:2<=d.op:=aC J
    clear J;refine aA aa pf ?_;refine aR aa pf ?_ ?_<;>intro J
    ·have aU:d.op≠4:=aC J
     have e:nd l.length d={ d with a:=IntKind.i64.wrap (d.a+(l.length:Nat)),b:=IntKind.i64.wrap (d.b+(l.length:Nat)) }:=by unfold nd;rw[al O,al ⟨O,aU⟩]
     refine bY aa pf ?_;exact bh (I pf e)
    ·have aU:d.op=4:=aC J
     have e:nd l.length d={ d with a:=IntKind.i64.wrap (d.a+(l.length:Nat)) }:=by unfold nd;rw[al O,ab (λg=>g.2 aU)]
     refine a1 ?_;exact bh (I pf e)
   ·have O:¬2<=d.op:=aC J
    have e:nd l.length d=d:=by unfold nd;rw[ab O,ab (λg=>O g.1)]
    refine a1 ?_;exact bh (I pf e)
  have db:=bj.pG (nd l.length d);have cb:cw (l++(m.take (k+1)).map (nd l.length))=cw (l++(m.take k).map (nd l.length))++(nd l.length d).df:=by rw[aBq,<- mJ,adN]
  generalize nd l.length d=RI at *;refine wr aa pf ?_ ?_
  ·exact⟨bq,by unfold maxLen;omega,U,db⟩
  refine bY aa (I pf dM) ?_;refine⟨k+1,U,U,?_⟩;exact b8 (λk=>if k=25 then .key 672 else .key k) (aT pf cb @sY)
 ·have e4:k=m.length:=bt J
  subst e4;have aV:m.take m.length=m:=Tz;have iF:=iv ((j:Int)+(l.length:Nat)) ((j+l.length:Nat):Int);refine c6 ?_;refine aL YX (aT pf iF aV) ?_ ?_
  ·exact⟨⟨_,rfl,bq,by rw[ec,lL];omega⟩,aq,bq⟩
  refine ae.rQ 416 (aJ (I pf @gr)) (λE=>by simp only[ba,den,gr];exact rfl) λcy ck ay d bD e7 zJ=>?_
  refine aA aa pf ?_;refine bf pf ?_;rw[<- x5,<- k1]at e7;have hlen:(l++m.map (nd l.length)++[fT op (i:Nat) ((j+l.length:Nat):Int)]).length=l.length+m.length+1:=by rw[HY,ec,lL]
  exact⟨[.slice ay (l.length+m.length+1) d,.int .i64 (l.length+m.length:Nat)],λE=>rfl,_,_,rfl,l++m.map (nd l.length)++[fT op (i:Nat) ((j+l.length:Nat):Int)],ay,d,l.length+m.length,by rw[hlen],rfl,NJ cf e7,aB.join cG U U cm,by rw[hlen];exact zJ,by rw[hlen,OD];omega⟩
abbrev ai3 (x:bm):py Tryz.prog 152 where
 kinds:=[none,some (b5.cO,xi (some x)),none]
 pre:=λaj W S=>aj=[.val (.int .i64 4),.val undef,.val (.agg #[.slice none 0 0,.int .i64 0])]/\aG x<=100000
 gA:=λ_ _ _ _ _ _ h=>h
 out:=λ_=>.fact b5.cO (xi (some (.star x)))
 enters:=Tryz.call152
 ok:=by
  intro w S us aj aK hp;obtain⟨rfl,bx⟩:=hp
  match us,aK with
  |[cf,cT,eO],aK=>obtain⟨rfl,⟨cs,rfl,n,r,rfl,l,ay,c,i,rfl,rfl,D,O,B,aU⟩,rfl,_⟩:=aK;exact aBl l ay c i x O aU bx w S D
abbrev ai4 (op:Int)(x y:bm):py Tryz.prog 152 where
 kinds:=[none,some (b5.cO,xi (some x)),some (b5.cO,xi (some y))]
 pre:=λaj W S=>aj=[.val (.int .i64 op),.val undef,.val undef]/\(op=2\/op=3\/op=5\/op=6)/\aG x<=100000/\aG y<=100000
 gA:=λ_ _ _ _ _ _ h=>h
 out:=λ_=>.fact b5.cO (xi (some (vZ op x y)))
 enters:=Tryz.call152
 ok:=by
  intro w S us aj aK hp;obtain⟨rfl,cm,bx,BZ⟩:=hp
  match us,aK with
  |[cf,cT,eO],aK=>obtain⟨rfl,⟨cs,rfl,n,r,rfl,l,ay,c,i,rfl,rfl,D,O,B,aU⟩,⟨q7,rfl,jh,bG,rfl,kU,xg,fE,kp,rfl,rfl,g1,g2,g3,g4⟩,_⟩:=aK;exact aBp op cm l ay c i x O aU bx kU xg fE kp y g2 g4 BZ w S D g1
def YY:aG (r7 s)=fJ s:=by
 unfold r7 fJ;cases h:s.size with
 |zero=>rfl
 |succ n=>rw[SW];omega
abbrev YZ (t:bm):py Tryz.prog 149 where
 kinds:=[some (b5.cO,xi (some t))]
 pre:=λaj W S=>aj=[.val undef]/\aG t<=4000000
 gA:=λ_ _ _ _ _ _ h=>h
 out:=λ_=>.val (.int .i64 (aG t:Nat))
 enters:=Tryz.call149
 ok:=by
  intro w S us aj aK hp;obtain⟨rfl,bx⟩:=hp
  match us,aK with
  |[x],aK=>obtain⟨⟨cs,rfl,n,r,rfl,l,ay,c,i,rfl,rfl,D,O,B⟩,_⟩:=aK;exact aAH l ay c i (aG t) (BA l ay c i t i bx O) w D.is
section
variable (G:aY)(s:ao)(t:bm)
abbrev aBr:Env Tryz.prog:=a7 ((HZ s).spec G) (a7 ((YZ t).spec G) aa)
end
def SX:=(I (ch ez va vb vc @b5.cO.eq_1 @YE.eq_1 @KI.eq_1 @YZ.eq_1) @HZ.eq_1)
def aBs(V:s.size<=4096)(w:ar):cQ 150 #[s] w (.int .i64 (fJ s:Nat)):=by
 have bx:aG (r7 s)<=4000000:=by rw[YY];unfold fJ;omega
 refine cB (nt:=6) [.tmp 2] Tryz.func150 ?_;refine aA aa SX ?_;refine aL (aBr (λ_=>True) s (r7 s)) SX ?_ ?_
 ·exact⟨⟨V,oi.true _ _⟩,bx⟩
 refine bf SX ?_;rw[YY];exact λE=>rfl
abbrev aBt:cV Tryz.prog 150:=kH (λ| [.val (.string s)]=>some (s)|_=>none) (λav W bs=>av.size<=4096) Tryz.call150 λav W w bs ad hp=>aBs av hp w
def fq.get{S:aY}{az:List cF}(h:fq W S cs az):∀i,i<az.length->∃n r,qV W S n r (b9 az i).cO/\∀j,j<11->cs[i*11+j]?=(fb (b9 az i) n r)[j]?:=by
 induction h with
 |nil=>intro i hi;cases hi
 |snoc cs az d n r D O bb=>
  intro i hi;have aN:=D.len;rw[ec,sX]at hi;by_cases ax:i<az.length
  ·obtain⟨jh,bG,g1,g2⟩:=bb i ax;have e:b9 (az++[d]) i=b9 az i:=by
    unfold b9;rw[mI,mI,BL ax]
   rw[e];exact⟨jh,bG,g1,λj Y=>by rw[BL U];exact g2 j Y⟩
  ·obtain rfl:i=az.length:=U;have e:b9 (az++[d]) az.length=d:=by
    unfold b9;rw[mI];simp
   rw[e];exact⟨n,r,O,λj Y=>by rw[Dv U,aN,ZE]⟩
def uP{v:aM}(h:cs[i]?=some v):(List.map ag.v cs).getD i (.v undef)=.v v:=by rw[mI,yG,h];rfl
def tJ{S:aY}{n r:aM}(h:qV W S n r o):∃cs,Value.agg #[n,r]=b5.cO.val cs/\(xi o).Φ cs W S:=by refine⟨[n,r],?_,n,r,rfl,h⟩;show Value.agg #[n,r]=Value.agg #[LE.au n,LE.au r];rw[h.one.1,h.one.2]
theorem qV.zg{S:aY}{n r:aM}(h:qV W S n r o):(jq (.v n)&&jq (.v r))=true:=by
 cases o with
 |none=>obtain⟨rfl,rfl⟩:=h;rfl
 |some t=>obtain⟨l,ay,c,i,rfl,rfl,_⟩:=h;rfl
theorem H0(d:cF)(σ:bc):(kB d σ).2.ai.length=σ.ai.length+1:=by simp[kB]
def Fp(ai:List cF)(j:Int):Prop:=-1<=j/\j<ai.length/\kA ai j<=100000
structure tK (d:cF)(ai:List cF):Prop where
 len:ai.length<1000000
 cx:d.t.size<=4096
 cO:eA d.cO<=100000
 e8:1<=d.k/\d.k<=4
 dz:d.k=2->d.cO≠none
 a:Fp ai d.a
 b:Fp ai d.b
 q:Fp ai d.q
section
variable (G:aY)(t:bm)
abbrev Y0:Env Tryz.prog:=a7 ((YZ t).spec G) (a7 aBt.spec aa)
end
def gF:=(I SX @kP.eq_1)
def aBu(d:cF)(n r:aM)(σ:bc)(cs:aX)(rt:Int)(u:aM)(fp:aD)(w:ar)(S:aY)(bW:tK d σ.ai)(hj:qV w S n r d.cO)(jn:fq w S cs σ.ai)(H:eH w u fp 59 (kP σ cs rt))(ax:∀b∈fp,b<w.heap.size)(bp:∀b∈fp,¬S b) :
  Calls Tryz.prog 91 (#[u]++#[.agg (fb d n r).toArray]) w λx M=>h0 w u fp 59 x M (.ret (.int .i64 (σ.ai.length:Nat)) (kP (kB d σ).2 (cs++fb { d with aw:=qn d σ.ai } n r) rt)):=by
 obtain⟨hY,j3,ns,Dd,Ku,Y1,Y2,ai5⟩:=bW;have bx:qn d σ.ai<=1000000:=by
  have D:=Y1.2.2;have O:=Y2.2.2;have B:=ai5.2.2;have aU:fJ d.t<=8192:=by unfold fJ;omega
  unfold qn
  repeat' split
  all_goals omega
 refine jP (nt:=109) [.tmp 4] H ax Tryz.func91 ?_;refine aA aa (I gF @fb.eq_1) ?_;refine aA aa gF ?_;have aBv:IntKind.i64.wrap (2*(d.t.size:Nat))=2*((d.t.size:Nat):Int):=gb U U;have aBw:=dv (2*((d.t.size:Nat):Int)-1)
 refine fR ⟨40,bK [(0,.is (.own 0 0)),(3,.is (.own 8 0)),(5,(if d.k=1 then fJ d.t else 1:Nat))],bA [(0,.cells 59 [.ak 1,rt,σ.a8,σ.at_]),(1,.row 66 11 σ.ai.length (cs.map .v)),(8,.cells 66 ((fb d n r).map .v))]⟩ ?_ ?_
 ·skip;refine aR aa gF ?_ ?_<;>intro J
  ·have D:d.k=1:=bt J
   clear J;refine aA aa (aT gF aBv aBw) ?_;refine aR aa gF ?_ ?_<;>intro J
   ·have A:d.t=⟨#[]⟩:=aC J
    have e:(((if d.k=1 then fJ d.t else 1:Nat)):Int)=1:=by rw[al D,A];rfl
    refine bY aa gF ?_;exact bh (aT gF @fb.eq_1 e)
   ·have A:¬d.t=⟨#[]⟩:=aC J
    have hp:0<d.t.size:=by
     cases h:d.t.size with
     |zero=>exact absurd (DB (Zx h)) A
     |succ n=>omega
    have e:(((if d.k=1 then fJ d.t else 1:Nat)):Int)=2*((d.t.size:Nat):Int)-1:=by rw[al D];unfold fJ;omega
    refine a1 ?_;exact bh (aT gF @fb.eq_1 e)
  ·have D:¬d.k=1:=bt J
   have e:(((if d.k=1 then fJ d.t else 1:Nat)):Int)=1:=by rw[ab D];rfl
   refine a1 ?_;exact bh (aT gF @fb.eq_1 e)
 refine fR ⟨80,bK [(0,.is (.own 0 0)),(3,.is (.own 8 0)),(5,(if d.k=1 then fJ d.t else if d.k=2 then eA d.cO else 1:Nat))],bA [(0,.cells 59 [.ak 1,rt,σ.a8,σ.at_]),(1,.row 66 11 σ.ai.length (cs.map .v)),(8,.cells 66 ((fb d n r).map .v))]⟩ ?_ ?_
 ·skip;refine aA aa (I gF @fb.eq_1) ?_;refine bC gF ?_ ?_<;>intro J
  ·have O:d.k=2:=bt J
   clear J;have D:¬d.k=1:=U;cases aI:d.cO with
   |none=>exact absurd aI (Ku O)
   |some t=>
    rw[aI]at hj ns;have SY := hj.mono (aP.ep w S fp bp);obtain⟨g1,g2⟩:=hj.one;have e:(((if d.k=1 then fJ d.t else if d.k=2 then eA (some t) else 1:Nat)):Int)=(aG t:Nat):=by rw[ab D,al O];rfl
    have aBx:aG t<=4000000:=by have:aG t<=100000:=ns;omega
    refine wr (Y0 (aP w S fp) t) gF ?_ ?_
    ·exact⟨tJ SY,aBx⟩
    exact bh (aT gF @fb.eq_1 e)
  ·have O:¬d.k=2:=bt J
   have e:(((if d.k=1 then fJ d.t else if d.k=2 then eA d.cO else 1:Nat)):Int)=((if d.k=1 then fJ d.t else 1:Nat):Int):=by rw[ab O]
   refine a1 ?_;exact bh (aT gF @fb.eq_1 e)
 refine fR ⟨120,bK [(0,.is (.own 0 0)),(3,.is (.own 8 0)),(5,(qn d σ.ai:Nat))],bA [(0,.cells 59 [.ak 1,rt,σ.a8,σ.at_]),(1,.row 66 11 σ.ai.length (cs.map .v)),(8,.cells 66 ((fb d n r).map .v))]⟩ ?_ ?_
 ·skip;refine aA aa (I gF @fb.eq_1) ?_;refine bC gF ?_ ?_<;>intro J
  rotate_left
  ·have O:¬2<d.k:=bt J
   have e:((qn d σ.ai:Nat):Int)=((if d.k=1 then fJ d.t else if d.k=2 then eA d.cO else 1:Nat):Int):=by
    unfold qn;by_cases D:d.k=1
    ·rw[al D,al D]
    ·rw[ab D,ab D,al U,al U]
   refine a1 ?_;exact bh (aT gF @fb.eq_1 e)
  have O:2<d.k:=bt J
  clear J;have cb:((if d.k=1 then fJ d.t else if d.k=2 then eA d.cO else 1:Nat):Int)=1:=by rw[ab U,ab U];rfl
  generalize(if d.k=1 then fJ d.t else if d.k=2 then eA d.cO else 1)=aE3 at *
  refine fR ⟨160,bK [(0,.is (.own 0 0)),(3,.is (.own 8 0)),(5,(1+eA d.cO:Nat))],bA [(0,.cells 59 [.ak 1,rt,σ.a8,σ.at_]),(1,.row 66 11 σ.ai.length (cs.map .v)),(8,.cells 66 ((fb d n r).map .v))]⟩ ?_ ?_
  ·skip;cases aI:d.cO with
   |none=>rw[aI]at hj;obtain⟨rfl,rfl⟩:=hj;refine aA aa (I gF @fb.eq_1) ?_;refine bk aa gF ?_;have e:(((1+eA none:Nat)):Int)=1:=rfl;exact bh (b3 gF @fb.eq_1 e cb)
   |some t=>
    rw[aI]at hj ns;have SY := hj.mono (aP.ep w S fp bp);have aBy:=SY;obtain⟨l,ay,c,i,rfl,rfl,g1,g2,g3,g4⟩:=SY;have hp:=qF t;have B:aG t<=100000:=ns;have dp:IntKind.i64.wrap (1+((aG t:Nat):Int))=(((1+eA (some t):Nat)):Int):=by rw[gb U U];rfl
    refine aA aa (I gF @fb.eq_1) ?_;refine bC gF ?_ ?_<;>intro J
    ·skip;refine wr (Y0 (aP w S fp) t) (aT gF cb dp) ?_ ?_
     ·exact⟨tJ aBy,U⟩
     exact bh (I gF @fb.eq_1)
    ·exfalso;rw[uT]at J;omega
  refine fR ⟨200,bK [(0,.is (.own 0 0)),(3,.is (.own 8 0)),(5,(1+eA d.cO+(if d.op=fX\/d.op=fB then fJ d.t else 0):Nat))],bA [(0,.cells 59 [.ak 1,rt,σ.a8,σ.at_]),(1,.row 66 11 σ.ai.length (cs.map .v)),(8,.cells 66 ((fb d n r).map .v))]⟩ ?_ ?_
  ·skip;refine aA aa (b3 gF @fb.eq_1 (show(⟨#[105,110,115]⟩:ao)=fX from rfl) (show(⟨#[110,111,114,109]⟩:ao)=fB from rfl)) ?_;refine bC gF ?_ ?_<;>intro J
   ·have h:d.op=fX\/d.op=fB:=aC J
    have aV:fJ d.t<=8192:=by unfold fJ;omega
    have dp:IntKind.i64.wrap (((1+eA d.cO:Nat):Int)+((fJ d.t:Nat):Int))=((1+eA d.cO+(if d.op=fX\/d.op=fB then fJ d.t else 0):Nat):Int):=by rw[gb U U,al h];omega
    refine wr (Y0 (aP w S fp) .bV) (I gF dp) ?_ ?_
    ·exact j3
    exact bh (I gF @fb.eq_1)
   ·have h:¬(d.op=fX\/d.op=fB):=by
     intro h;rcases h with h|h<;>simp[h]at J
    have e:((1+eA d.cO+(if d.op=fX\/d.op=fB then fJ d.t else 0):Nat):Int)=((1+eA d.cO:Nat):Int):=by rw[ab h];rfl
    refine a1 ?_;exact bh (aT gF @fb.eq_1 e)
  have gj:1+eA d.cO+(if d.op=fX\/d.op=fB then fJ d.t else 0)<=200000:=by
   have:fJ d.t<=8192:=by unfold fJ;omega
   split<;>omega
  have OE:qn d σ.ai=1+eA d.cO+(if d.op=fX\/d.op=fB then fJ d.t else 0)+kA σ.ai d.a+kA σ.ai d.b+kA σ.ai d.q:=by unfold qn;rw[ab U,ab U]
  rw[OE];clear OE bx;generalize 1+eA d.cO+(if d.op=fX\/d.op=fB then fJ d.t else 0)=aFe at *
  refine fR ⟨240,bK [(0,.is (.own 0 0)),(3,.is (.own 8 0)),(5,(aFe+kA σ.ai d.a:Nat))],bA [(0,.cells 59 [.ak 1,rt,σ.a8,σ.at_]),(1,.row 66 11 σ.ai.length (cs.map .v)),(8,.cells 66 ((fb d n r).map .v))]⟩ ?_ ?_
  ·skip;refine aA aa (I gF @fb.eq_1) ?_;refine bC gF ?_ ?_<;>intro J
   ·obtain⟨k,ad⟩:∃k:Nat,d.a=(k:Nat):=⟨d.a.toNat,by simp at J;omega⟩;obtain⟨qe,oP,zf⟩:=Y1;rw[ad]at oP zf J ⊢;have hi:k<σ.ai.length:=U;obtain⟨eY,cE,_,ea⟩:=jn.get k hi;have ji:=uP (ea 10 U);have e:kA σ.ai ((k:Nat):Int)=(b9 σ.ai k).aw:=by rw[kA,al U,kR]
    rw[e]at zf ⊢;have dp:IntKind.i64.wrap (((aFe:Nat):Int)+(((b9 σ.ai k).aw:Nat):Int))=((aFe+(b9 σ.ai k).aw:Nat):Int):=by rw[gb U U];omega
    refine iP aa (aT gF dp ji) ?_ ?_
    ·exact⟨⟨U,U⟩,by rw[lL,jn.len];omega,by rw[lL,jn.len];omega⟩
    exact bh (aT gF @fb.eq_1 ad)
   ·have ai6:d.a<0:=bt J
    have e:kA σ.ai d.a=0:=by rw[kA,ab U]
    rw[e];refine a1 ?_;exact bh (I gF @fb.eq_1)
  have aEG:aFe+kA σ.ai d.a<=300000:=by have:=Y1.2.2;omega
  generalize aFe+kA σ.ai d.a=OF at *
  refine fR ⟨280,bK [(0,.is (.own 0 0)),(3,.is (.own 8 0)),(5,(OF+kA σ.ai d.b:Nat))],bA [(0,.cells 59 [.ak 1,rt,σ.a8,σ.at_]),(1,.row 66 11 σ.ai.length (cs.map .v)),(8,.cells 66 ((fb d n r).map .v))]⟩ ?_ ?_
  ·skip;refine aA aa (I gF @fb.eq_1) ?_;refine bC gF ?_ ?_<;>intro J
   ·obtain⟨k,ad⟩:∃k:Nat,d.b=(k:Nat):=⟨d.b.toNat,by simp at J;omega⟩;obtain⟨qe,oP,zf⟩:=Y2;rw[ad]at oP zf J ⊢;have hi:k<σ.ai.length:=U;obtain⟨eY,cE,_,ea⟩:=jn.get k hi;have ji:=uP (ea 10 U);have e:kA σ.ai ((k:Nat):Int)=(b9 σ.ai k).aw:=by rw[kA,al U,kR]
    rw[e]at zf ⊢;have dp:IntKind.i64.wrap (((OF:Nat):Int)+(((b9 σ.ai k).aw:Nat):Int))=((OF+(b9 σ.ai k).aw:Nat):Int):=by rw[gb U U];omega
    refine iP aa (aT gF dp ji) ?_ ?_
    ·exact⟨⟨U,U⟩,by rw[lL,jn.len];omega,by rw[lL,jn.len];omega⟩
    exact bh (aT gF @fb.eq_1 ad)
   ·have ai6:d.b<0:=bt J
    have e:kA σ.ai d.b=0:=by rw[kA,ab U]
    rw[e];refine a1 ?_;exact bh (I gF @fb.eq_1)
  have aEH:OF+kA σ.ai d.b<=400000:=by have:=Y2.2.2;omega
  generalize OF+kA σ.ai d.b=ai7 at *;refine aA aa (I gF @fb.eq_1) ?_;refine bC gF ?_ ?_<;>intro J
  ·obtain⟨k,ad⟩:∃k:Nat,d.q=(k:Nat):=⟨d.q.toNat,by simp at J;omega⟩;obtain⟨qe,oP,zf⟩:=ai5;rw[ad]at oP zf J ⊢;have hi:k<σ.ai.length:=U;obtain⟨eY,cE,_,ea⟩:=jn.get k hi;have ji:=uP (ea 10 U);have e:kA σ.ai ((k:Nat):Int)=(b9 σ.ai k).aw:=by rw[kA,al U,kR]
   rw[e]at zf ⊢;have dp:IntKind.i64.wrap (((ai7:Nat):Int)+(((b9 σ.ai k).aw:Nat):Int))=((ai7+(b9 σ.ai k).aw:Nat):Int):=by rw[gb U U];omega
   refine iP aa (aT gF dp ji) ?_ ?_
   ·exact⟨⟨U,U⟩,by rw[lL,jn.len];omega,by rw[lL,jn.len];omega⟩
   exact bh (aT gF @fb.eq_1 ad)
  ·have ai6:d.q<0:=bt J
   have e:kA σ.ai d.q=0:=by rw[kA,ab U]
   rw[e];refine a1 ?_;exact bh (I gF @fb.eq_1)
 have wl:=iv (((σ.ai.length+1:Nat):Int)-1) ((σ.ai.length:Nat):Int);obtain⟨g1,g2⟩:=hj.one;refine aA aa (I gF @fb.eq_1) ?_;refine dh aa gF ?_ ?_
 ·exact⟨by unfold maxLen;omega,U,hj.zg⟩
 refine aA aa (I gF wl) ?_;refine bf gF ?_;exact eC (de gF @oz @bQ @fb.eq_1 H0)
abbrev OG (d:cF)(n r:aM)(σ:bc)(cs:aX)(rt:Int):iO Tryz.prog 91:=AP 59 (λW bs=>tK d σ.ai/\qV W (Out bs) n r d.cO/\fq W (Out bs) cs σ.ai) Tryz.call91 λW w bs u fp ad hp H ax fi=>aBu d n r σ cs rt u fp w (Out fp) hp.1 (hp.2.1.mono (JI ad fi)) (hp.2.2.mono (JI ad fi)) H ax (λb Z h=>h Z)
end
end Go.Proofs.YtnemkecffmdlnaaGreatDoor
