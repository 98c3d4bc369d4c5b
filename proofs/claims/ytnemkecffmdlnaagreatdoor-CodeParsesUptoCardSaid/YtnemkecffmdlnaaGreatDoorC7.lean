/-
 CodeParsesUptoCardSaid: CodeParses returns true for every tape whose bulk is at most 1048576, and leaves it as it was; the listed tables are tied to the program's text.
-/
import Derived.Test.YtnemkecffmdlnaaGreatDoorC6
import Derived.Test.YtnemkecffmdlnaaGreatDoorCards
import Derived.Test.YtnemkecffmdlnaaGreatDoorTie
import Derived.WalkKit
import Derived.ProofKit
import Derived.OpenShut
import Derived.Deep.DeepHandedRow
import Derived.Lib.LaidTab
import Derived.Lib.LaidU8
import Derived.Lay
import Derived.Test.YtnemkecffmdlnaaGreatDoorRows
import Derived.JoinedCond
import Derived.Shelf.Vars
set_option linter.unusedSimpArgs false
set_option linter.unusedVariables false
set_option linter.defProp false
set_option maxHeartbeats 16000000
namespace Go.Proofs.YtnemkecffmdlnaaGreatDoor
section
open Go.RowKit Go.LE Go.Proofs.Tryz
set_option maxRecDepth 10000
theorem lP{s:ByteArray}{i:Nat}(h:s.size<=i):bK s i=i:=by
 unfold bK;rw[show s.size-i=0 by omega];rfl
theorem vh(s:ByteArray)(i:Nat):i<=bK s i:=(ye s (s.size-i) i).1
theorem Cr(tk:Lt)(s:ByteArray):∀ (n m:Nat) (r:Rd),s.size<=r.pl+n->s.size<=r.pl+m->j6 tk s n r=j6 tk s m r
 |0,0,r,_,_=>rfl
 |0,m+1,r,h,_=>by
  rw[j6,j6,if_neg (by rw[lP oM];omega)]
 |n+1,0,r,_,h=>by
  rw[j6,j6,if_neg (by rw[lP oM];omega)]
 |n+1,m+1,r,h1,h2=>by
  have hg:=vh s r.pl;rw[j6,j6,Cr tk s n m _ (by dsimp only;omega) (by dsimp only;omega)]
theorem dY(tk:Lt)(s:ByteArray)(r:Rd):oL tk s r=if bK s r.pl<s.size then if (tk r (dt s r.pl)).1=true then oL tk s { (tk r (dt s r.pl)).2 with pl:=bK s r.pl+1 } else (tk r (dt s r.pl)).2 else r:=by
 have hg:=vh s r.pl;by_cases h:r.pl<s.size
 ·obtain⟨k,hk⟩:∃ k,s.size-r.pl=k+1:=⟨s.size-r.pl-1,oM⟩;unfold oL;rw[hk,j6];rw[Cr tk s k (s.size-(bK s r.pl+1)) _ (by dsimp only;omega) (by dsimp only;omega)]
 ·have hk:s.size-r.pl=0:=oM;unfold oL;rw[hk,j6,if_neg oM]
theorem FL(P:Rd->Prop){tk:Lt}(h1:∀ r l q,P r->P { (tk r l).2 with pl:=q })(h2:∀ r l,P r->P (tk r l).2)(s:ByteArray)(r:Rd)(h:P r):P (oL tk s r):=by
 have key:∀ n r,P r->P (j6 tk s n r):=by
  intro n
  induction n with
  |zero=>intro r h;exact h
  | succ n ih=>
   intro r h;rw[j6];split
   ·split
    ·exact ih _ (h1 _ _ _ h)
    ·exact h2 _ _ h
   ·exact h
 exact key _ r h
def BR(s:ByteArray)(r:Rd):Pg×Int×Int×ByteArray:=
 if r.pl<s.size then (eG,110,r.pl,dJ) else if (gW r.pg).1=0 then (r.pg,0,0,dJ) else (eG,gW r.pg)
def vb(s:ByteArray)(r:Rd):Pg×Int×Int×ByteArray:=
 if (sx s r).1=true then BR s (oL ia s (sx s r).2) else (eG,110,(sx s r).2.pl,dJ)
def Y8(s:ByteArray):Except Nat (Nat×Rd)->Pg×Int×Int×ByteArray
 |.error i=>(eG,110,i,dJ)
 |.ok (g,r)=>if g<2 then (eG,110,s.size,dJ) else if (gW r.pg).1=0 then (r.pg,0,0,dJ) else (eG,gW r.pg)
theorem abD(r:Rd)(l:ByteArray):LF 2 r l=match yN r.co.length l with
  |none=>none
  |some x=>some (2,{ r with co:=r.co++[x] }):=by
 unfold LF;rw[if_neg sI,if_neg sI,if_neg sI,if_pos rfl];cases yN r.co.length l<;>rfl
theorem Zg(s:ByteArray):∀ (n:Nat) (r:Rd),s.size<=r.pl+n->Y8 s (Gs s n 2 r)=BR s (oL ia s r)
 |0,r,h=>by
  rw[dY,if_neg (by rw[lP oM];omega)];unfold BR;rw[if_neg oM];rfl
 | n+1,r,h=>by
  have hg:=vh s r.pl;rw[Gs,dY];by_cases hp:r.pl<s.size
  ·rw[if_pos hp,abD];have hc:=acr r.co.length (dt s r.pl);cases hr:yN r.co.length (dt s r.pl) with
   | none=>
    rw[hr]at hc;simp only at hc ⊢;have e:BR s (if bK s r.pl<s.size then if (ia r (dt s r.pl)).1=true then oL ia s { (ia r (dt s r.pl)).2 with pl:=bK s r.pl+1 } else (ia r (dt s r.pl)).2 else r)=(eG,110,(r.pl:Int),dJ):=by
     have h1:(ia r (dt s r.pl)).1=false:=hc;rw[h1];split
     ·rw[if_neg sI];unfold BR;rw[if_pos (show (ia r (dt s r.pl)).2.pl<s.size from hp)];rfl
     ·unfold BR;rw[if_pos hp]
    rw[e];rfl
   | some x=>
    rw[hr]at hc;simp only at hc ⊢;have h1:(ia r (dt s r.pl))=(true,{ r with co:=r.co++[x] }):=by unfold ia;rw[hc]
    rw[h1];by_cases he:bK s r.pl<s.size
    ·rw[if_pos he,if_pos he,if_pos rfl];exact Zg s n _ (by dsimp only;omega)
    ·rw[if_neg he,if_neg he];unfold BR;rw[if_pos hp];rfl
  ·rw[if_neg hp,if_neg oM];unfold BR;rw[if_neg hp];rfl
def goR(s:ByteArray)(n:Nat)(r:Rd):Option (Nat×Rd)->Except Nat (Nat×Rd)
 |none=>.error r.pl
 |some (g',r')=>if bK s r.pl<s.size then Gs s n g' { r' with pl:=bK s r.pl+1 } else .error r.pl
theorem Z3(s:ByteArray)(n g:Nat)(r:Rd):Gs s (n+1) g r=if r.pl<s.size then goR s n r (LF g r (dt s r.pl)) else .ok (g,r):=by
 rw[Gs];split
 ·cases LF g r (dt s r.pl) with
  |none=>rfl
  |some q=>rfl
 ·rfl
theorem CQ(s:ByteArray)(n:Nat)(r:Rd)(hp:r.pl<s.size)(h:s.size<=r.pl+(n+1))(x:Option (Nat×Rd))
  (hx:x=if (uC (dt s r.pl)).isSome=true then match uC (dt s r.pl) with
   |none=>none
   |some (b,c)=>if (bR b&&bR c)=true then some (2,{ r with src:=iK b,vw:=iK c }) else none
   else none) :
  Y8 s (goR s n r x)=vb s r:=by
 have hg:=vh s r.pl;obtain⟨m1,m2,m3,m4,m5⟩:=FO r (dt s r.pl);have bad:(fT r (dt s r.pl)).1=false->vb s r=(eG,110,(r.pl:Int),dJ):=λhb=>by
  have e:(sx s r).1=false/\(sx s r).2.pl=r.pl:=by
   unfold sx;rw[hb];split
   ·rw[if_neg sI];exact⟨rfl,m4⟩
   ·exact⟨rfl,rfl⟩
  unfold vb;rw[if_neg (by rw[e.1];simp),e.2]
 subst hx;cases hr:uC (dt s r.pl) with
 |none=>
  rw[hr]at m5;simp only[Option.isSome_none,Bool.false_eq_true,if_false];rw[bad m5];rfl
 | some q=>
  obtain⟨b,c⟩:=q;rw[hr]at m5;simp only[Option.isSome_some,if_true]at m5 ⊢;obtain⟨m5,m6⟩:=m5;by_cases hbc:(bR b&&bR c)=true
  ·rw[if_pos hbc];rw[hbc]at m5;simp only[goR];have m6:=m6 hbc;by_cases he:bK s r.pl<s.size
   ·rw[if_pos he,Zg s n _ (by dsimp only;omega)];unfold vb sx;rw[if_pos he,if_pos m5,if_pos rfl,m6]
   ·rw[if_neg he];unfold vb sx;rw[if_neg he,if_neg sI];rfl
  ·rw[if_neg hbc];have:(fT r (dt s r.pl)).1=false:=by rw[m5];simpa using hbc
   rw[bad this];rfl
theorem uf{s:ByteArray}{r:Rd}(h:r.pl=s.size):vb s r=(eG,110,(s.size:Int),dJ):=by
 have he:¬ bK s r.pl<s.size:=by rw[lP oM];omega
 unfold vb sx;rw[if_neg he,if_neg sI];simp only[h]
theorem VI(s:ByteArray):∀ (n:Nat) (r:Rd),r.pl<=s.size->s.size<=r.pl+n->Y8 s (Gs s n 1 r)=vb s (oL eo s r)
 |0,r,h0,h=>by
  rw[dY,if_neg (by rw[lP oM];omega),uf oM];rfl
 | n+1,r,h0,h=>by
  have hg:=vh s r.pl;rw[Z3,dY];by_cases hp:r.pl<s.size
  ·have hle:=jO h0;rw[if_pos hp];obtain⟨t1,t2⟩:=O4 (dt s r.pl);by_cases hx:B3 (dt s r.pl)=true
   ·have e1:LF 1 r (dt s r.pl)=some (1,{ r with tx:=r.tx++[(ib (ez (dt s r.pl) fQ)).1] }):=by
     unfold LF;rw[if_neg sI,if_pos (by rw[<- t1,hx];rfl),t2 hx]
    have e2:eo r (dt s r.pl)=(true,{ r with tx:=r.tx++[(ib (ez (dt s r.pl) fQ)).1] }):=by unfold eo;rw[if_pos hx]
    rw[e1,e2];simp only[goR];by_cases he:bK s r.pl<s.size
    ·rw[if_pos he,if_pos he,if_pos trivial];exact VI s n _ (by dsimp only;omega) (by dsimp only;omega)
    ·rw[if_neg he,if_neg he];unfold vb sx;rw[if_neg he,if_neg sI];rfl
   ·have e2:eo r (dt s r.pl)=(false,r):=by unfold eo;rw[if_neg hx]
    have e3:(if bK s r.pl<s.size then if (eo r (dt s r.pl)).1=true then oL eo s { (eo r (dt s r.pl)).2 with pl:=bK s r.pl+1 } else (eo r (dt s r.pl)).2 else r)=r:=by
     rw[e2];split
     ·rw[if_neg sI]
     ·rfl
    rw[e3];refine CQ s n r hp h _ ?_;unfold LF;rw[if_neg sI,if_neg (by rw[<- t1];simpa using hx)];cases hr:uC (dt s r.pl) with
    |none=>simp
    |some q=>
     obtain⟨b,c⟩:=q;simp
  ·rw[if_neg hp,if_neg oM,uf oM];rfl
theorem WO(s:ByteArray):∀ (n:Nat) (r:Rd),r.pl<=s.size->s.size<=r.pl+n->Y8 s (Gs s n 0 r)=vb s (oL eo s (oL eY s r))
 |0,r,h0,h=>by
  rw[dY eY,if_neg (by rw[lP oM];omega),dY,if_neg (by rw[lP oM];omega),uf oM];rfl
 | n+1,r,h0,h=>by
  have hg:=vh s r.pl;rw[Z3,dY eY];by_cases hp:r.pl<s.size
  ·have hle:=jO h0;rw[if_pos hp];obtain⟨y1,y2⟩:=ac6 (dt s r.pl);obtain⟨t1,t2⟩:=O4 (dt s r.pl);by_cases hy:zv (dt s r.pl)=true
   ·have e1:LF 0 r (dt s r.pl)=some (0,{ r with ty:=r.ty++[pd (ez (dt s r.pl) cH) AN] }):=by
     unfold LF;rw[if_pos (by rw[<- y1,hy];rfl),y2 hy]
    have e2:eY r (dt s r.pl)=(true,{ r with ty:=r.ty++[pd (ez (dt s r.pl) cH) AN] }):=by unfold eY;rw[if_pos hy]
    rw[e1,e2];simp only[goR];by_cases he:bK s r.pl<s.size
    ·rw[if_pos he,if_pos he,if_pos trivial];exact WO s n _ (by dsimp only;omega) (by dsimp only;omega)
    ·rw[if_neg he,if_neg he,dY,if_neg he];unfold vb sx;rw[if_neg he,if_neg sI];rfl
   ·have e2:eY r (dt s r.pl)=(false,r):=by unfold eY;rw[if_neg hy]
    have e3:(if bK s r.pl<s.size then if (eY r (dt s r.pl)).1=true then oL eY s { (eY r (dt s r.pl)).2 with pl:=bK s r.pl+1 } else (eY r (dt s r.pl)).2 else r)=r:=by
     rw[e2];split
     ·rw[if_neg sI]
     ·rfl
    rw[e3];by_cases hx:B3 (dt s r.pl)=true
    ·have e1:LF 0 r (dt s r.pl)=some (1,{ r with tx:=r.tx++[(ib (ez (dt s r.pl) fQ)).1] }):=by
      unfold LF;rw[if_neg (by rw[<- y1];simpa using hy),if_pos (by rw[<- t1,hx];rfl),t2 hx]
     have e2:eo r (dt s r.pl)=(true,{ r with tx:=r.tx++[(ib (ez (dt s r.pl) fQ)).1] }):=by unfold eo;rw[if_pos hx]
     rw[e1,dY,e2];simp only[goR];by_cases he:bK s r.pl<s.size
     ·rw[if_pos he,if_pos he,if_pos trivial];exact VI s n _ (by dsimp only;omega) (by dsimp only;omega)
     ·rw[if_neg he,if_neg he];unfold vb sx;rw[if_neg he,if_neg sI];rfl
    ·have e2:eo r (dt s r.pl)=(false,r):=by unfold eo;rw[if_neg hx]
     have e3:oL eo s r=r:=by
      rw[dY,e2];split
      ·rw[if_neg sI]
      ·rfl
     rw[e3];refine CQ s n r hp h _ ?_;unfold LF;rw[if_neg (by rw[<- y1];simpa using hy),if_neg (by rw[<- t1];simpa using hx)];cases hr:uC (dt s r.pl) with
     |none=>simp
     |some q=>
      obtain⟨b,c⟩:=q;simp
  ·rw[if_neg hp,if_neg oM,dY,if_neg oM,uf oM];rfl
def kI(r:Rd):Prop:=∀ t∈r.ty,uq t=true
theorem V4(s:ByteArray)(r:Rd)(h:kI r):kI (oL eY s r):=by
 have key:∀ r l,kI r->∀ t∈(eY r l).2.ty,uq t=true:=λr l h t ht=>by
  unfold eY at ht;split at ht
  ·rename_i hy;rcases List.mem_append.1 ht with ht|ht
   ·exact h t ht
   ·rw[List.mem_singleton.1 ht];unfold zv at hy;rw[Bool.and_eq_true]at hy;exact hy.2
  ·exact h t ht
 exact FL kI (λr l q h=>key r l h) key s r h
theorem YS(s:ByteArray)(r:Rd)(h:kI r):kI (oL eo s r):=by
 have key:∀ r l,kI r->∀ t∈(eo r l).2.ty,uq t=true:=λr l h t ht=>by
  unfold eo at ht;split at ht<;>exact h t ht
 exact FL kI (λr l q h=>key r l h) key s r h
theorem Vl(s:ByteArray)(r:Rd)(h:kI r):kI (oL ia s r):=FL kI (λr l q h=>h) (λr l h=>h) s r h
theorem ZK(s:ByteArray)(r:Rd)(h:kI r):kI (sx s r).2:=by
 have key:∀ l,(fT r l).2.ty=r.ty:=λl=>(FO r l).1
 unfold sx;split
 ·split
  ·intro t ht;exact h t (by rw[<- key (dt s r.pl)];exact ht)
  ·intro t ht;exact h t (by rw[<- key (dt s r.pl)];exact ht)
 ·exact h
theorem uP{P:Nat->Bool}:∀ {n j:Nat},(∀ i,j<=i->i<j+n->P i=false)->cS P n j=none
 |0,j,_=>rfl
 |n+1,j,h=>by
  unfold cS;rw[h j oM oM,cond_false];exact uP λi h1 h2=>h i oM oM
theorem aaR{r:Rd}(h:kI r):gW r.pg=if (131072<r.ty.length\/131072<r.tx.length)\/131072<r.co.length then (24,0,dJ) else eX r.pg:=by
 have hb:cS (oR r.pg) r.pg.ty.length 0=none:=uP λi _ hi=>by
  have hi' : i<r.ty.length:=by have:r.pg.ty=r.ty:=rfl;rw[this]at hi;omega
  unfold oR;rw[List.getD_eq_getElem?_getD,show r.pg.ty=r.ty from rfl,List.getElem?_eq_getElem hi',Option.getD_some,h _ (List.getElem_mem hi')];rfl
 unfold gW;rw[hb];rfl
theorem C5(p:Pg):(eX p).1=0 ↔ eX p=(0,0,dJ):=by
 constructor
 ·unfold eX;split
  ·intro h;cases h
  ·split
   ·intro h;cases h
   ·intro _;rfl
 ·intro h;rw[h]
theorem afp(s:ByteArray):G2 s=if 8388608<s.size then (eG,1,0,dJ) else Y8 s (Gs s s.size 0 xS):=by
 unfold G2;split
 ·rfl
 ·cases Gs s s.size 0 xS with
  |error i=>rfl
  |ok q=>rfl
theorem N6(s:ByteArray):q8 s=G2 s:=by
 rw[afp];unfold q8;by_cases h8:8388608<s.size
 ·rw[if_pos h8,if_pos h8]
 ·rw[if_neg h8,if_neg h8];have h0:=WO s s.size xS (Nat.zero_le _) (by show s.size<=0+s.size;omega);have ha:kI (l8 s):=by
   have h1:kI (Lz s).2:=ZK s _ (YS s _ (V4 s _ (λt ht=>by cases ht)));unfold l8;split
   ·exact Vl s _ h1
   ·exact h1
  have hc:=aaR ha;rw[h0];unfold vb;show _=if (Lz s).1=true then BR s (oL ia s (Lz s).2) else (eG,110,((Lz s).2.pl:Int),dJ);by_cases hm:(Lz s).1=true
  ·have hz:l8 s=oL ia s (Lz s).2:=by unfold l8;rw[if_pos hm]
   rw[if_pos hm,<- hz];unfold BR;by_cases hp:(l8 s).pl<s.size
   ·rw[if_pos (.inr hp),if_pos hp]
   ·rw[if_neg (by rintro (g|g);rw[g]at hm;cases hm;exact hp g),if_neg hp,hc];by_cases h24:(131072<(l8 s).ty.length\/131072<(l8 s).tx.length)\/131072<(l8 s).co.length
    ·rw[if_pos h24,if_pos h24,if_neg sI]
    ·rw[if_neg h24,if_neg h24];by_cases hr:eX (l8 s).pg=(0,0,dJ)
     ·rw[if_pos hr,if_pos ((C5 _).2 hr)]
     ·rw[if_neg hr,if_neg λg=>hr ((C5 _).1 g)]
  ·have hz:l8 s=(Lz s).2:=by unfold l8;rw[if_neg hm]
   rw[if_neg hm,hz,if_pos (.inl (by simpa using hm))]
def Qc:aM prog 44 where
 pre:=λW bs=>λ| [.val (.string q)]=>q.size<=16000000|_=>False
 res:=λW=>λ| [.val (.string q)]=>.tuple #[.string (jr q).1,.bool (jr q).2]|_=>undef
 enters:=call44
 ok:=by
  intro W w bs us as_ hk hu hp;split at hp
  ·rename_i q
   match us,hu with
   |[u0],hu=>
    obtain⟨rfl,_⟩:=hu;exact Wz q hp w
  ·exact hp.elim
theorem Cp(W:World)(q:ByteArray):Qc.res W [.val (.string q)]=.tuple #[.string (jr q).1,.bool (jr q).2]:=rfl
theorem Dc(W:World)(bs:List Nat)(q:ByteArray):Qc.pre W bs [.val (.string q)]=(q.size<=16000000):=rfl
noncomputable def eC(s:ByteArray)(hs:s.size<=100000000):Env prog:=⟨λ| 46=>some (vD s hs).spec|62=>some O9.spec|70=>some DC.spec|47=>some Rl.spec|_=>none,λ_=>none,λ_ _=>none⟩
theorem abO(s:ByteArray)(hs:s.size<=100000000):(eC s hs).sp 46=some (vD s hs).spec:=rfl
theorem acs(s:ByteArray)(hs:s.size<=100000000):(eC s hs).sp 62=some O9.spec:=rfl
theorem aeD(s:ByteArray)(hs:s.size<=100000000):(eC s hs).sp 70=some DC.spec:=rfl
theorem aeV(s:ByteArray)(hs:s.size<=100000000):(eC s hs).sp 47=some Rl.spec:=rfl
def riV(o:Option (Int×Int×Int×Int)):Value:=match o with
 |none=>.tuple #[.agg #[.int .i64 0,.int .i64 0,.int .i64 0,.int .i64 0],.bool false]
 |some x=>.tuple #[.agg #[.int .i64 x.1,.int .i64 x.2.1,.int .i64 x.2.2.1,.int .i64 x.2.2.2],.bool true]
theorem XA:∀ k:Fin 21,(dj ((k.val:Nat):Int)).2.size<=3:=by decide +kernel
def cv:=(aj @List.replicate_succ.{0} @List.replicate_zero.{0} @an @ab jk jn gR (aj ck cf b9 b8 ca cc cg (aj cd fu fh fy ft fB dc (aj df dh db cY c8 rD sq (aj rV rQ JT HR Jf H4 JB (aj JL GL ID I2 Gp Fv ahO (aj ahq @aG @al @ax @aw @gD @jz (aj @lg @Cp @Dc @abO @acs @aeD @aeV (ur @vD.eq_1 @TE @RQ @ve @vG @Ia @Hd)))))))))
theorem XL(l:ByteArray)(n:Nat)(hs:l.size<=100000000)(hn:n<=9223372036854775807)(w:World):Calls prog 48 #[.string l,.int .i64 (n:Nat)] w λe w' => e=.returned (riV (yN n l))/\ah w [] w' := by
 refine af (nt:=93) [.cell 4 85,.tmp 5] func48 rfl rfl rfl ?_;refine vR (eC l hs) cv ?_;refine vR (eC l hs) cv ?_;have hnil:∀ {x:Option (Int×Int×Int×Int)},x=none->riV x=.tuple #[.agg #[.int .i64 0,.int .i64 0,.int .i64 0,.int .i64 0],.bool false]:=λh=>by rw[h];rfl
 have hln:1<=(gQ l).length:=by rw[<- nQ,lC];omega
 rcases hp:gQ l with _|⟨a,_|⟨b,f⟩⟩
 ·rw[hp]at hln;simp at hln
 ·have hE:yN n l=none:=by unfold yN;rw[hp]
  rw[hnil hE];refine Wp.seq ?_;refine lf (eC l hs) (aa cv @aE.eq_1) ?_ ?_
  ·exact⟨⟨_,rfl⟩,λ_=>by decide,λ_=>⟨oM,oM⟩⟩
  refine wC cv (λhc=>?_) (λhc=>?_)
  ·skip;refine vR (eC l hs) cv ?_;refine wZ cv ?_;exact λE=>rfl
  ·exact absurd hc sI
 ·have hrow:aE (a::b::f)=.string a::.string b::aE f:=rfl;refine Wp.seq ?_;refine lf (eC l hs) (aa cv hrow) ?_ ?_
  ·exact⟨⟨_,rfl⟩,λ_=>by omega,λ_=>by omega,λ_=>⟨oM,oM⟩⟩
  refine wC cv (λhc=>?_) (λhc=>?_)
  ·have hne:¬ a=gl (n:Nat):=by
    simp at hc;rcases hc with hc|hc
    ·omega
    ·exact hc
   have hE:yN n l=none:=by unfold yN;rw[hp];simp only;rw[if_neg hne]
   rw[hnil hE];refine vR (eC l hs) cv ?_;refine wZ cv ?_;exact λE=>rfl
  have heq:a=gl (n:Nat):=by
   simp at hc;exact hc.2
  have hE0:qu b=none->yN n l=none:=λh=>by unfold yN;rw[hp];simp only;rw[if_pos heq,h]
  have hE1:∀ m,qu b=some m->¬ f.length=(dj (m:Nat)).2.size->yN n l=none:=λm h h1=>by unfold yN;rw[hp];simp only;rw[if_pos heq,h];simp only;rw[if_neg h1]
  have hE2:∀ m,qu b=some m->f.length=(dj (m:Nat)).2.size->T3 (dj (m:Nat)).2 f (dj (m:Nat)).2.size 0 true (0,0,0)=none->yN n l=none:=λm h h1 h2=>by unfold yN;rw[hp];simp only;rw[if_pos heq,h];simp only;rw[if_pos h1,h2]
  have hE3:∀ m x,qu b=some m->f.length=(dj (m:Nat)).2.size->T3 (dj (m:Nat)).2 f (dj (m:Nat)).2.size 0 true (0,0,0)=some x->yN n l=some (((m:Nat):Int),x):=λm x h h1 h2=>by unfold yN;rw[hp];simp only;rw[if_pos heq,h];simp only;rw[if_pos h1,h2]
  clear hc;refine wK ?_;refine Wp.seq ?_;refine vR (eC l hs) cv ?_;refine Wp.block ?_
  refine Wp.loop (λk:Nat=>⟨60,bm [(4,.is (.own 4 0)),(6,.is (.hd 19)),(7,.is (.v (.int .i64 (k:Nat))))],aY [(4,.cells 85 [.v (.int .i64 0),.v (.int .i64 0),.v (.int .i64 0),.v (.int .i64 0)]),(19,.row 9 1 (f.length+1+1) ((aE (a::b::f)).map .v))]⟩) (λk=>k<=21/\∀ j<k,¬ (dj (j:Nat)).1=b) (λk=>21-k) 0 ?_ ⟨oM,λj hj=>by omega⟩ ?_
  ·exact wM (λk=>if k=4 then .key 0 else if k=19 then .key 24 else .key k) (aa cv hrow)
  rintro k ⟨hk,hno⟩;refine Wp.seq ?_;refine vR (eC l hs) cv ?_;refine wC cv (λhc=>?_) (λhc=>?_)
  ·have hlt:k<21:=by
    simp at hc;omega
   have wk:IntKind.i64.wrap ((k:Int)+1)=((k+1:Nat):Int):=wW;have hus:=XA ⟨k,hlt⟩;simp only at hus;refine wK ?_;refine Wp.seq (Wp.block ?_);refine vR (eC l hs) cv ?_;have hO:(dj (k:Nat)).1=b->qu b=some k:=λh=>by
    unfold qu;refine lu _ _ _ hlt (λi hi=>by simp only[decide_eq_false_iff_not];exact hno i hi) (by simp only[decide_eq_true_eq];exact h)
   have hO2:=λh=>(aa (hE1 k (hO h)) (aa (hE2 k (hO h)) λx=>hE3 k x (hO h)))
   clear hO hE1 hE2 hE3 hE0;generalize hwu:dj (k:Nat)=wu at *;obtain⟨wd,u⟩:=wu;dsimp only at hO2 hus ⊢;have w2:IntKind.i64.wrap (2+(u.size:Int))=((u.size+2:Nat):Int):=wW;refine Wp.seq ?_;refine wR (eC l hs) (aa cv hrow) ?_ ?_
   ·exact⟨oM,oM⟩
   refine wC cv (λhc=>?_) (λhc=>?_)
   ·have hne:¬ wd=b:=by simpa using hc
    refine wE ?_;refine vr (eC l hs) (aa cv wk) ?_;refine⟨k+1,⟨oM,λj hj=>?_⟩,oM,?_⟩
    ·by_cases e:j=k
     ·rw[e,hwu];exact hne
     ·exact hno j oM
    ·exact wM (λk=>.key k) cv
   have hwd:wd=b:=by simpa using hc
   obtain⟨e1,e2,e3⟩:=hO2 hwd;clear hO2 hc;refine wK ?_;refine vR (eC l hs) cv ?_;refine Wp.seq ?_;refine vR (eC l hs) (aa cv w2) ?_;refine wC cv (λhc=>?_) (λhc=>?_)
   ·have h:¬ f.length=u.size:=by
     simp at hc;omega
    rw[hnil (e1 h)];refine vR (eC l hs) cv ?_;refine wZ cv ?_;exact λE=>rfl
   have hfl:f.length=u.size:=by
    simp at hc;omega
   have e2:=e2 hfl;have e3:=λx=>e3 x hfl
   clear e1 hc;refine wK ?_;refine vR (eC l hs) cv ?_;refine Wp.seq ?_;refine vR (eC l hs) cv ?_;refine Wp.block ?_
   refine Wp.loop (λp:Nat×Nat×Bool×Int×Int×Int=>⟨60,bm [(4,.is (.own 4 0)),(6,.is (.hd 19)),(9,.is (.v (.string u))),(10,.is (.own 10 0)),(11,.is (.v (.bool p.2.2.1))),(12,.is (.v (.int .i64 (p.2.1:Nat))))],aY [(4,.cells 85 [.v (.int .i64 0),.v (.int .i64 0),.v (.int .i64 0),.v (.int .i64 0)]),(10,.cells 85 [.v (.int .i64 (k:Nat)),.v (.int .i64 p.2.2.2.1),.v (.int .i64 p.2.2.2.2.1),.v (.int .i64 p.2.2.2.2.2)]),(19,.row 9 1 (f.length+1+1) ((aE (a::b::f)).map .v))]⟩) (λp=>p.2.1<=u.size/\u.size<=p.2.1+p.1/\T3 u f p.1 p.2.1 p.2.2.1 p.2.2.2=T3 u f u.size 0 true (0,0,0)) (λp=>p.1) (u.size,0,true,0,0,0) ?_ ⟨by dsimp only;omega,by dsimp only;omega,rfl⟩ ?_
   ·exact wM (λk=>if k=10 then .key 608 else .key k) (bP cv hrow (show ((0:Nat):Int)=0 from rfl))
   rintro⟨m,i,fst,x0,x1,x2⟩ ⟨g1,g2,g3⟩;dsimp only at g1 g2 g3 ⊢;refine Wp.seq ?_;refine vR (eC l hs) cv ?_;refine wC cv (λhc=>?_) (λhc=>?_)
   ·have hlt:i<u.size:=by
     simp at hc;omega
    obtain⟨m,rfl⟩:∃ m',m=m' + 1:=⟨m-1,oM⟩;rw[T3,if_pos hlt]at g3;have wi:IntKind.i64.wrap ((i:Int)+1)=((i+1:Nat):Int):=wW;have wi2:IntKind.i64.wrap (2+(i:Int))=((i+2:Nat):Int):=wW;have hix:(List.map SV.v (aE (a::b::f))).getD (i+2) (.v undef)=.v (.string (f.getD i dJ)):=by
     have hi:i<f.length:=oM;rw[hrow];simp[aE,List.getElem?_eq_getElem hi]
    clear hc;refine wK ?_;refine Wp.seq (Wp.block ?_);refine wR (eC l hs) (bP cv wi2 hix) ?_ ?_
    ·refine⟨⟨oM,oM⟩,?_⟩;rw[List.length_map,hrow];simp only[List.length_cons,aE,List.length_map];omega
    generalize f.getD i dJ=t at *;refine Wp.seq ?_;refine wR (eC l hs) cv ?_ ?_
    ·omega
    refine wC cv (λhc=>?_) (λhc=>?_)
    ·have hk7:bt u (i:Nat)=107:=by simpa using hc
     rw[if_pos hk7]at g3;clear hc;refine Wp.seq ?_;refine vR (eC l hs) cv ?_;refine wC cv (λhc=>?_) (λhc=>?_)
     ·have hts:¬ t=sB/\¬ t=vB:=by simpa [sB,vB] using hc
      rw[if_neg hts.1,if_neg hts.2]at g3;rw[hnil (e2 g3.symm)];refine vR (eC l hs) cv ?_;refine wZ cv ?_;exact λE=>rfl
     have hts:t=sB\/t=vB:=by
      by_cases h1:t=sB
      ·exact .inl h1
      ·by_cases h2:t=vB
       ·exact .inr h2
       ·have h1' : ¬ t=(⟨#[115]⟩:ByteArray):=h1;have h2' : ¬ t=(⟨#[118]⟩:ByteArray):=h2;exact absurd hc (by simp[h1',h2'])
     clear hc;refine wK ?_;by_cases hv:t=vB
     ·have hns:¬ t=sB:=by rw[hv];decide
      rw[if_neg hns,if_pos hv]at g3;refine Wp.seq ?_;refine vR (eC l hs) cv ?_;refine wC cv (λhc=>?_) (λhc=>?_)
      ·skip;refine vr (eC l hs) cv ?_;refine wE ?_;refine vr (eC l hs) (aa cv wi) ?_;refine⟨(m,i+1,fst,1,x1,x2),⟨by dsimp only;omega,by dsimp only;omega,g3⟩,by dsimp only;omega,?_⟩;exact wM (λk=>.key k) cv
      ·exact absurd hc (by rw[hv];decide)
     ·have hss:t=sB:=hts.resolve_right hv;rw[if_pos hss]at g3;refine Wp.seq ?_;refine vR (eC l hs) cv ?_;refine wC cv (λhc=>?_) (λhc=>?_)
      ·exact absurd hc (by rw[hss];decide)
      refine wK ?_;refine wE ?_;refine vr (eC l hs) (aa cv wi) ?_;refine⟨(m,i+1,fst,x0,x1,x2),⟨by dsimp only;omega,by dsimp only;omega,g3⟩,by dsimp only;omega,?_⟩;exact wM (λk=>.key k) cv
    have hk7:¬ bt u (i:Nat)=107:=by simpa using hc
    rw[if_neg hk7]at g3;clear hc;refine wK ?_;refine vR (eC l hs) cv ?_;refine Wp.seq ?_;refine vR (eC l hs) cv ?_;refine wC cv (λhc=>?_) (λhc=>?_)
    ·have ho:¬ bR t=true:=by simpa using hc
     rw[if_neg ho]at g3;rw[hnil (e2 g3.symm)];refine vR (eC l hs) cv ?_;refine wZ cv ?_;exact λE=>rfl
    have ho:bR t=true:=by simpa using hc
    rw[if_pos ho]at g3;clear hc;refine wK ?_;refine Wp.seq ?_;refine vR (eC l hs) cv ?_;refine wC cv (λhc=>?_) (λhc=>?_)
    ·have hf:fst=true:=hc;subst hf;refine vr (eC l hs) cv ?_;refine vr (eC l hs) cv ?_;refine vr (eC l hs) (aa cv wi) ?_;refine⟨(m,i+1,false,x0,iK t,x2),⟨by dsimp only;omega,by dsimp only;omega,g3⟩,by dsimp only;omega,?_⟩;exact wM (λk=>.key k) cv
    ·have hf:fst=false:=hc;subst hf;refine vr (eC l hs) cv ?_;refine vr (eC l hs) cv ?_;refine vr (eC l hs) (aa cv wi) ?_;refine⟨(m,i+1,false,x0,x1,iK t),⟨by dsimp only;omega,by dsimp only;omega,g3⟩,by dsimp only;omega,?_⟩;exact wM (λk=>.key k) cv
   ·have hge:u.size<=i:=by
     simp at hc;omega
    have hv:T3 u f u.size 0 true (0,0,0)=some (x0,x1,x2):=by
     rw[<- g3];cases m with
     |zero=>rfl
     |succ m=>rw[T3,if_neg oM]
    rw[e3 _ hv];refine wE ?_;refine vR (eC l hs) cv ?_;refine wZ cv ?_;exact λE=>rfl
  ·have hge:21<=k:=by
    simp at hc;omega
   have hv:qu b=none:=iH _ _ λi hi=>by simp only[decide_eq_false_iff_not];exact hno i oM
   rw[hnil (hE0 hv)];refine wE ?_;refine vR (eC l hs) cv ?_;refine wZ cv ?_;exact λE=>rfl
def acy(tk:Lt):Prop:=∀ r l,(tk r l).2.pl=r.pl/\(tk r l).2.ty.length<=r.ty.length+1/\(tk r l).2.tx.length<=r.tx.length+1/\(tk r l).2.co.length<=r.co.length+1
theorem XO:acy eY:=λr l=>by
 unfold eY;split
 ·refine⟨rfl,?_,Nat.le_succ _,Nat.le_succ _⟩;simp
 ·exact⟨rfl,Nat.le_succ _,Nat.le_succ _,Nat.le_succ _⟩
theorem YT:acy eo:=λr l=>by
 unfold eo;split
 ·refine⟨rfl,Nat.le_succ _,?_,Nat.le_succ _⟩;simp
 ·exact⟨rfl,Nat.le_succ _,Nat.le_succ _,Nat.le_succ _⟩
theorem Zv:acy fT:=λr l=>by
 unfold fT
 repeat' split
 all_goals exact⟨rfl,Nat.le_succ _,Nat.le_succ _,Nat.le_succ _⟩
theorem afr(n:Nat)(l:ByteArray):(BL n l).2.length<=1:=by
 unfold BL
 repeat' split
 all_goals simp
theorem LP:acy ia:=λr l=>by
 refine⟨rfl,Nat.le_succ _,Nat.le_succ _,?_⟩;show (r.co++(BL r.co.length l).2).length<=_;have:=afr r.co.length l;rw[List.length_append];omega
def xV(g:FuncId)(tk:Lt)(hen:∀ args w,(callFunc g args).run prog w=.ok (.enter g args) w)(h:U3 g tk)(s:ByteArray)(r:Rd)(l:ByteArray):ed prog g where
 T:=112
 pre:=λW bs fs as_=>(fs=UT s r/\as_=[.val (.string l)])/\(Lo s r/\l.size<=16000000)/\fP W (Out bs)
 out:=λW fs as_=>.ret (.bool (tk r l).1) (UT s (tk r l).2)
 enters:=hen
 ok:=by
  intro W w bs u fp us fs as_ hk ho hlt hmine hu hp;obtain⟨⟨rfl,rfl⟩,⟨h1,h2⟩,h3⟩:=hp
  match us,hu with
  |[x],hu=>
   obtain⟨rfl,_⟩:=hu;exact h s r l u fp w h1 h2 (h3.dU hk hmine) ho hlt
def ze(k:Nat)(s:ByteArray)(r:Rd):List (Nat×aS):=[(0,.cells 112 [.hd k,.hd (k+1),.hd (k+2),.v (.int .i64 r.src),.v (.int .i64 r.vw),.v (.string s),.v (.int .i64 (r.pl:Nat))]),(k,.row 9 1 r.ty.length ((aE r.ty).map .v)),(k+1,.row 9 1 r.tx.length ((aE r.tx).map .v)),(k+2,.row 50 4 r.co.length ((cn r.co).map .v))]
def Qs(g:FuncId)(tk:Lt):Prop:=∀ (s:ByteArray) (r:Rd) (w:World) (fp:List Nat) (E:Nat->Value) (F:Nat->List Nat),Lo s r->fP w (Out fp)->ai w fp E F (aY (ze 1 s r)) w ->
 Calls prog 49 (au E [.own 0 0,.fn (.func g) [.own 0 0] []]).toArray w λe w' => ∃ E' F',e=.returned (den E' (.tup []))/\(∀ k∈[0],E' k=E k)/\ai w fp E' F' (aY (ze 8 s (oL tk s r))) w'
def rR(g:FuncId)(tk:Lt)(h:Qs g tk)(s:ByteArray)(r:Rd):mr prog 49 where
 args:=[.own 0 0,.fn (.func g) [.own 0 0] []]
 L:=ze 1 s r
 val:=.tup []
 L' := ze 8 s (oL tk s r)
 eg:=[0]
 pre:=λW bs=>Lo s r/\fP W (Out bs)
 low:=by simp[ze]
 kept:=by simp[ze]
 vk:=by simp[SV.keys,ay]
 lk:=by simp[ze,aS.keys,SV.keys,ay,aB,fresh]
 nd:=by simp[ze]
 enters:=call49
 ok:=by
  intro W w bs fp E F hk hm hs hp;exact h s r w fp E F hp.1 (hp.2.dU hk hm) hs
def aet:aM prog 82 where
 pre:=λW bs=>λ| [.val (.string q)]=>q.size<=16000000/\gJ W (Out bs)|_=>False
 res:=λW=>λ| [.val (.string q)]=>.tuple #[.string (ib q).1,.bool (ib q).2]|_=>undef
 enters:=call82
 ok:=by
  intro W w bs us as_ hk hu hp;split at hp
  ·rename_i q
   match us,hu with
   |[u0],hu=>
    obtain⟨rfl,_⟩:=hu;exact ag3 q hp.1 w (hp.2.dU hk sI)
  ·exact hp.elim
theorem Z5(W:World)(q:ByteArray):aet.res W [.val (.string q)]=.tuple #[.string (ib q).1,.bool (ib q).2]:=rfl
theorem aaq(W:World)(bs:List Nat)(q:ByteArray):aet.pre W bs [.val (.string q)]=(q.size<=16000000/\gJ W (Out bs)):=rfl
noncomputable def En:Env prog:=⟨λ| 80=>some Ds.spec|82=>some aet.spec|_=>none,λ| _=>none,λ_ _=>none⟩
theorem ae4:En.sp 80=some Ds.spec:=rfl
theorem adK:En.sp 82=some aet.spec:=rfl
def xG:=(aj @List.replicate_succ.{0} @List.replicate_zero.{0} @an @ab jk jn BG (aj BH BJ ca cc cg cd dc (aj df dh db cY c8 rD sq (aj rV rQ yW yM zA yI Bv (aj Ad yG Bj zK uR vz o5 (aj pY pw pZ pQ p6 pC o4 (aj qf pO o7 qd @aG @al @ax (aj @aw @UT.eq_1 Z5 aaq ae4 adK @Cz @Df))))))))
theorem QN:U3 51 eo:=by
 intro s r l u fp w hr hl ha ho hlt;obtain⟨⟨n1,n2,n3⟩,n4,n5⟩:=hr;have hc1:=FH l fQ;have hT:(⟨#[116,101,120,116,32]⟩:ByteArray)=fQ:=rfl;refine bg (nt:=37) #[.string l] [.tmp 4] (by show 7<=7;omega) ho hlt func51 rfl rfl rfl ?_;refine vR En xG ?_;refine vR En (aa xG hT) ?_;refine wR En xG ?_ ?_
 ·exact⟨oM,ha.2.2⟩
 refine Wp.seq ?_;refine vR En xG ?_;refine wC xG (λhc=>?_) (λhc=>?_)
 ·have h:B3 l=false:=by
   unfold B3;revert hc;generalize oQ l fQ=a;generalize (ib (ez l fQ)).2=b;cases a<;>cases b<;>simp
  have e:eo r l=(false,r):=by unfold eo;rw[if_neg (by simp[h])]
  rw[e];refine vR En xG ?_;refine wZ xG ?_;exact⟨_,_,rfl,λE=>rfl,_,_,rfl,(ev (aa xG @aA)),dE⟩
 ·have h:B3 l=true:=by
   unfold B3;revert hc;generalize oQ l fQ=a;generalize (ib (ez l fQ)).2=b;cases a<;>cases b<;>simp
  have e:eo r l=(true,{ r with tx:=r.tx++[(ib (ez l fQ)).1] }):=by unfold eo;rw[if_pos h]
  have e1:=mN r.tx (ib (ez l fQ)).1;have e2:(r.tx++[(ib (ez l fQ)).1]).length=r.tx.length+1:=by rw[List.length_append];rfl
  rw[e];refine wK ?_;refine wR En (aa xG e1) ?_ ?_
  ·exact⟨by unfold maxLen;omega,oM⟩
  refine vR En xG ?_;refine wZ xG ?_;exact⟨_,_,rfl,λE=>rfl,_,_,rfl,(ev (bP xG @aA e2)),dE⟩
section
variable (s:ByteArray)(r:Rd)(l:ByteArray)
noncomputable def I5:Env prog:=⟨λ| 79=>some (ox s r).spec|50=>some (xV 50 eY call50 On s r l).spec|_=>none,λ_=>none,λ_ _=>none⟩
theorem acn:(I5 s r l).sp 79=some (ox s r).spec:=rfl
theorem acT:(I5 s r l).sp 50=some (xV 50 eY call50 On s r l).spec:=rfl
end
def q9:=(aj @List.replicate_succ.{0} @List.replicate_zero.{0} @an @ab jk jn gR (aj ck cf b9 b8 ca cc cg (aj cd dc df dh db cY c8 (aj FT F7 D2 uR vz o5 pY (aj pw pZ pQ p6 pC o4 qf (aj pO o7 qd @aG @al @ax @aw (aj @ze.eq_1 @UT.eq_1 @jU.eq_1 @jU.eq_2 @aA @gE @fY (eS @acn @acT @ox.eq_1 @xV.eq_1))))))))
theorem zS:Qs 50 eY:=by
 intro s r w fp E F hr ha hs;refine iA (nt:=29) [] hs ?_ ?_ func49 rfl rfl rfl ?_
 ·simp[pU,jU,ze,FV.keys,SV.keys,ay,aS.keys,aB]
 ·simp
 refine Wp.block ?_;refine Wp.loop (λr' : Rd=>⟨10,bm [(0,.is (.own 0 0)),(1,.is (.fn (.func 50) [.own 0 0] []))],aY (ze 1 s r')⟩) (λr' => Lo s r' /\ oL eY s r' = oL eY s r) (λr' => s.size-r'.pl) r ?_ ⟨hr,rfl⟩ ?_
 ·simp only[ze];exact wM (λk=>.key k) q9
 rintro r' ⟨hb,hg⟩;have hb' := hb;obtain⟨⟨n1,n2,n3⟩,n4,n5⟩:=hb;have hle:=jO n4;have hst:=dY eY s r';refine Wp.block ?_;by_cases he:bK s r'.pl<s.size
 ·have hlin:mb s r'.pl=.tuple #[.string (dt s r'.pl),.bool true]:=by rw[mb,if_pos he]
  have hlz:(dt s r'.pl).size=bK s r'.pl-r'.pl:=dF _ _ _ hle.2;obtain⟨q1,q2,q3,q4⟩:=XO r' (dt s r'.pl);rw[if_pos he]at hst;generalize hl:dt s r'.pl=l at *;cases ht:eY r' l with
  | mk b r2=>
   rw[ht]at hst q1 q2 q3 q4;simp only at q1 q2 q3 q4;refine wR (I5 s r' l) (aa q9 hlin) ?_ ?_
   ·exact⟨dE,n4,oM⟩
   cases b with
   | false=>
    rw[if_neg sI]at hst;refine Wp.seq ?_;refine wR (I5 s r' l) (aa q9 ht) ?_ ?_
    ·exact⟨⟨⟨hb',oM⟩,ha⟩,dE,sI⟩
    refine wC q9 (λhc=>?_) (λhc=>?_)
    ·refine wZ q9 ?_;rw[<- hg,hst];exact wN (λk=>if k=8 then .key 176 else if k=9 then .key 177 else if k=10 then .key 178 else .key k) q9
    ·exact absurd hc sI
   |true=>
    rw[if_pos rfl]at hst;have wz:IntKind.i64.wrap ((l.size:Int)+1)=((l.size+1:Nat):Int):=wW;have wa:IntKind.i64.wrap ((r2.pl:Int)+((l.size+1:Nat):Int))=((bK s r'.pl+1:Nat):Int):=wW;refine Wp.seq ?_;refine wR (I5 s r' l) (aa q9 ht) ?_ ?_
    ·exact⟨⟨⟨hb',oM⟩,ha⟩,dE,sI⟩
    refine wC q9 (λhc=>?_) (λhc=>?_)
    ·exact absurd hc sI
    refine wK ?_;refine vr (I5 s r' l) (bP q9 wz wa) ?_;refine⟨{ r2 with pl:=bK s r'.pl+1 },⟨⟨⟨by dsimp only;omega,by dsimp only;omega,by dsimp only;omega⟩,by dsimp only;omega,n5⟩,by rw[<- hst];exact hg⟩,by dsimp only;omega,?_⟩;simp only[ze]
    exact wM (λk=>if k=1 then .key 176 else if k=2 then .key 177 else if k=3 then .key 178 else .key k) q9
 ·have hlin:mb s r'.pl=.tuple #[.string ⟨#[]⟩,.bool false]:=by rw[mb,if_neg he]
  rw[if_neg he]at hst;refine wR (I5 s r' dJ) (aa q9 hlin) ?_ ?_
  ·exact⟨dE,n4,oM⟩
  refine Wp.seq ?_;refine wR (I5 s r' dJ) q9 ?_ ?_
  ·exact λh=>by cases h
  refine wC q9 (λhc=>?_) (λhc=>?_)
  ·refine wZ q9 ?_;rw[<- hg,hst];exact wN (λk=>if k=8 then .key 1 else if k=9 then .key 2 else if k=10 then .key 3 else .key k) q9
  ·exact absurd hc sI
section
variable (s:ByteArray)(r:Rd)(l:ByteArray)
noncomputable def JS:Env prog:=⟨λ| 79=>some (ox s r).spec|51=>some (xV 51 eo call51 QN s r l).spec|_=>none,λ_=>none,λ_ _=>none⟩
theorem acZ:(JS s r l).sp 79=some (ox s r).spec:=rfl
theorem afG:(JS s r l).sp 51=some (xV 51 eo call51 QN s r l).spec:=rfl
end
def sv:=(oA q9 @acZ @afG @ox.eq_1 @xV.eq_1)
theorem AQ:Qs 51 eo:=by
 intro s r w fp E F hr ha hs;refine iA (nt:=29) [] hs ?_ ?_ func49 rfl rfl rfl ?_
 ·simp[pU,jU,ze,FV.keys,SV.keys,ay,aS.keys,aB]
 ·simp
 refine Wp.block ?_;refine Wp.loop (λr' : Rd=>⟨10,bm [(0,.is (.own 0 0)),(1,.is (.fn (.func 51) [.own 0 0] []))],aY (ze 1 s r')⟩) (λr' => Lo s r' /\ oL eo s r' = oL eo s r) (λr' => s.size-r'.pl) r ?_ ⟨hr,rfl⟩ ?_
 ·simp only[ze];exact wM (λk=>.key k) sv
 rintro r' ⟨hb,hg⟩;have hb' := hb;obtain⟨⟨n1,n2,n3⟩,n4,n5⟩:=hb;have hle:=jO n4;have hst:=dY eo s r';refine Wp.block ?_;by_cases he:bK s r'.pl<s.size
 ·have hlin:mb s r'.pl=.tuple #[.string (dt s r'.pl),.bool true]:=by rw[mb,if_pos he]
  have hlz:(dt s r'.pl).size=bK s r'.pl-r'.pl:=dF _ _ _ hle.2;obtain⟨q1,q2,q3,q4⟩:=YT r' (dt s r'.pl);rw[if_pos he]at hst;generalize hl:dt s r'.pl=l at *;cases ht:eo r' l with
  | mk b r2=>
   rw[ht]at hst q1 q2 q3 q4;simp only at q1 q2 q3 q4;refine wR (JS s r' l) (aa sv hlin) ?_ ?_
   ·exact⟨dE,n4,oM⟩
   cases b with
   | false=>
    rw[if_neg sI]at hst;refine Wp.seq ?_;refine wR (JS s r' l) (aa sv ht) ?_ ?_
    ·exact⟨⟨⟨hb',oM⟩,ha⟩,dE,sI⟩
    refine wC sv (λhc=>?_) (λhc=>?_)
    ·refine wZ sv ?_;rw[<- hg,hst];exact wN (λk=>if k=8 then .key 176 else if k=9 then .key 177 else if k=10 then .key 178 else .key k) sv
    ·exact absurd hc sI
   |true=>
    rw[if_pos rfl]at hst;have wz:IntKind.i64.wrap ((l.size:Int)+1)=((l.size+1:Nat):Int):=wW;have wa:IntKind.i64.wrap ((r2.pl:Int)+((l.size+1:Nat):Int))=((bK s r'.pl+1:Nat):Int):=wW;refine Wp.seq ?_;refine wR (JS s r' l) (aa sv ht) ?_ ?_
    ·exact⟨⟨⟨hb',oM⟩,ha⟩,dE,sI⟩
    refine wC sv (λhc=>?_) (λhc=>?_)
    ·exact absurd hc sI
    refine wK ?_;refine vr (JS s r' l) (bP sv wz wa) ?_;refine⟨{ r2 with pl:=bK s r'.pl+1 },⟨⟨⟨by dsimp only;omega,by dsimp only;omega,by dsimp only;omega⟩,by dsimp only;omega,n5⟩,by rw[<- hst];exact hg⟩,by dsimp only;omega,?_⟩;simp only[ze]
    exact wM (λk=>if k=1 then .key 176 else if k=2 then .key 177 else if k=3 then .key 178 else .key k) sv
 ·have hlin:mb s r'.pl=.tuple #[.string ⟨#[]⟩,.bool false]:=by rw[mb,if_neg he]
  rw[if_neg he]at hst;refine wR (JS s r' dJ) (aa sv hlin) ?_ ?_
  ·exact⟨dE,n4,oM⟩
  refine Wp.seq ?_;refine wR (JS s r' dJ) sv ?_ ?_
  ·exact λh=>by cases h
  refine wC sv (λhc=>?_) (λhc=>?_)
  ·refine wZ sv ?_;rw[<- hg,hst];exact wN (λk=>if k=8 then .key 1 else if k=9 then .key 2 else if k=10 then .key 3 else .key k) sv
  ·exact absurd hc sI
theorem H6{α β:Type}(g:α->List β)(hg:∀ a,(g a).length=4):∀ (l:List α) (i m:Nat),m<4->(l.flatMap g)[4*i+m]?=(l[i]?).bind λa=>(g a)[m]?
 |[],i,m,_=>by simp
 |a::l,0,m,hm=>by
  rw[List.flatMap_cons,Nat.mul_zero,Nat.zero_add,List.getElem?_append_left (by rw[hg];exact hm)];rfl
 |a::l,i+1,m,hm=>by
  rw[List.flatMap_cons,List.getElem?_append_right (by rw[hg];omega),hg,show 4*(i+1)+m-4=4*i+m by omega,H6 g hg l i m hm];rfl
theorem Du{α β:Type}(g:α->List β)(hg:∀ a,(g a).length=4):∀ (l:List α) (i:Nat) (h:i<l.length),((l.flatMap g).drop (i*4)).take 4=g l[i]
 |a::l,0,_=>by
  rw[List.flatMap_cons,Nat.zero_mul,List.drop_zero,List.take_append_of_le_length (by rw[hg];exact Nat.le_refl _),List.take_of_length_le (by rw[hg];exact Nat.le_refl _)];rfl
 |a::l,i+1,h=>by
  have ih:=Du g hg l i (by simpa using h);rw[List.flatMap_cons,show (i+1)*4=4+i*4 by omega,<- List.drop_drop,List.drop_append_of_le_length (by rw[hg];exact Nat.le_refl _),show (g a).drop 4=[] from List.drop_of_length_le (by rw[hg];exact Nat.le_refl _),List.nil_append];exact ih
def Uu(n:Nat):List Value:=[.string (gn n).1,.bool (gn n).2.1,.int .i64 (gn n).2.2.1,.int .i64 (gn n).2.2.2]
def rA:List Value:=(List.range 21).flatMap Uu
theorem uL:rA.length=84:=rfl
theorem aas:(List.map SV.v rA).length=84:=rfl
theorem S6{k:Nat}(hk:k<21):((List.map SV.v rA).drop (k*4)).take 4=(Uu k).map .v:=by
 unfold rA;rw[<- List.map_drop,<- List.map_take,Du Uu (λ_=>rfl) (List.range 21) k (by simpa using hk)];rw[List.getElem_range]
theorem RY{W:World}{S:Nat->Prop}(h:fR W S):bU W 0 0 84=List.map SV.v rA/\dL W 0 0 84=True:=by
 have key:=u6 (w:=W) (b:=0) rA 0 λj hj=>by
  rw[uL]at hj;obtain⟨h0,h1,h2,h3⟩:=h.2 (j / 4) oM;have hg:=H6 Uu (λ_=>rfl) (List.range 21) (j / 4) (j % 4) oM;rw[show 4*(j / 4)+j % 4=j by omega]at hg;have hr:(List.range 21)[j / 4]?=some (j / 4):=by rw[List.getElem?_range oM]
  rw[hr,Option.bind_some]at hg;have hv:rA[j]?=some (rA[j]'(by rw[uL];exact hj)):=List.getElem?_eq_getElem _;have hv' : rA[j]?=(Uu (j / 4))[j % 4]?:=hg;rw[hv']at hv;rw[Nat.zero_add];have hm:j % 4=0\/j % 4=1\/j % 4=2\/j % 4=3:=oM;rcases hm with hm|hm|hm|hm
  ·rw[hm]at hv;rw[<- Option.some.inj hv];have e:j=j / 4*4:=oM
   conv=>lhs;rw[e]
   exact h0
  ·rw[hm]at hv;rw[<- Option.some.inj hv];have e:j=j / 4*4+1:=oM
   conv=>lhs;rw[e]
   exact h1
  ·rw[hm]at hv;rw[<- Option.some.inj hv];have e:j=j / 4*4+2:=oM
   conv=>lhs;rw[e]
   exact h2
  ·rw[hm]at hv;rw[<- Option.some.inj hv];have e:j=j / 4*4+3:=oM
   conv=>lhs;rw[e]
   exact h3
 rw[uL]at key;exact⟨key.1,eq_true key.2⟩
theorem Dr{W:World}{bs:List Nat}{ao:Option Addr}{t:ByteArray}{r:List ByteArray}(h:gO W (Out bs) ao (aE (t::r))):∃ b o,ao=some ⟨b,o,none⟩/\b∉bs/\W.cell? ⟨b,o,none⟩=some (.string t):=by
 rcases h with h|⟨b,o,rfl,hc⟩
 ·cases h
 ·obtain⟨h1,h2⟩:=hc 0 (by simp[aE]);exact⟨b,o,rfl,h1,h2⟩
theorem Vw{W:World}{bs:List Nat}{ao:Option Addr}{f:List ByteArray}{a c:Nat}(h:gO W (Out bs) ao (aE f))(hc:f.length<=c)(ha:a<=f.length):gO W (Out bs) (p7 ao a 1 c) (aE (f.drop a)):=by
 have:=h.at (a:=a) (sz:=1) (c:=c) (n:=f.length) (by simp[aE]) hc ha;rw[Nat.mul_one]at this;have e:(aE f).drop a=aE (f.drop a):=by simp[aE,List.map_drop]
 rw[e]at this;exact this
theorem JO(l:List (Int×Int×Int×Int))(x y z u:Int):List.map SV.v (cn l)++[.v (.int .i64 x),.v (.int .i64 y),.v (.int .i64 z),.v (.int .i64 u)]=List.map SV.v (cn (l++[(x,y,z,u)])):=by
 unfold cn;rw[List.flatMap_append,List.map_append];rfl
def svS:ByteArray:=⟨#[115,118]⟩
def Od:aM prog 85 where
 pre:=λW bs as_=>∃ t,as_=[.val (.string svS),.val (.string t)]/\(t=sB\/t=vB)/\gJ W (Out bs)
 res:=λW as_=>match as_ with
  |[_,.val (.string t)]=>.int .i64 (if t=sB then 0 else 1)
  |_=>undef
 enters:=call85
 ok:=by
  intro W w bs us as_ hk hu hp;obtain⟨t,rfl,ht,hl⟩:=hp
  match us,hu with
  | [x,y],hu=>
   obtain⟨rfl,rfl,_⟩:=hu;obtain⟨m,hm⟩:=(hl.dU hk (fp:=[]) sI).1.2;refine (Any.strings_Index Tryz.acV svS t m w dE hm).mono λe w' ⟨he,hw⟩=>⟨?_,by rw[hw];exact LE.ah.refl _ _⟩
   rw[he];rcases ht with rfl|rfl
   ·have:Lib.index svS.data.toList sB.data.toList=0:=by decide +kernel
    rw[this];rfl
   ·have:Lib.index svS.data.toList vB.data.toList=1:=by decide +kernel
    rw[this];rfl
theorem Ud(W:World)(t:ByteArray):Od.res W [.val (.string svS),.val (.string t)]=.int .i64 (if t=sB then 0 else 1):=rfl
theorem Tt(W:World)(bs:List Nat)(t:ByteArray):Od.pre W bs [.val (.string svS),.val (.string t)]=((t=sB\/t=vB)/\gJ W (Out bs)):=
 propext ⟨λ⟨t',h,h2⟩=>by
  cases h
  exact h2,λh=>⟨t,rfl,h⟩⟩
theorem acE{t:ByteArray}{k:Nat}(hk:k<21)(hno:∀ j<k,¬ (gn j).1=t)(h:(gn k).1=t):aav t=some k:=lu _ 21 k hk (λj hj=>by simpa using hno j hj) (by simpa using h)
theorem afm{t:ByteArray}(hno:∀ j<21,¬ (gn j).1=t):aav t=none:=uP λi _ hi=>by simpa using hno i oM
def KC(W:World)(bs:List Nat)(ao:Option Addr)(f:List ByteArray):Prop:=∃ b o t,ao=some ⟨b,o,none⟩/\b∉bs/\W.cell? ⟨b,o,none⟩=some (.string t)/\(∀ x r,f=x::r->t=x)/\gO W (Out bs) ao (aE f)
theorem KC.rest{W:World}{bs:List Nat}{ao:Option Addr}{f:List ByteArray}{a:Nat}(h:KC W bs ao f)(ha:a<=f.length):KC W bs (p7 ao a 1 f.length) (f.drop a):=by
 obtain⟨b,o,t,rfl,h1,h2,h3,h4⟩:=h;have h5:=Vw h4 (Nat.le_refl _) ha;by_cases he:f.length=a
 ·have hd:f.drop a=[]:=List.drop_of_length_le oM;rw[hd]at h5 ⊢;have hs:p7 (some ⟨b,o,none⟩) a 1 f.length=some ⟨b,o,none⟩:=by unfold p7;rw[if_pos he]
  rw[hs]at h5 ⊢;exact⟨b,o,t,rfl,h1,h2,(λx r hx=>by cases hx),h5⟩
 ·have hs:p7 (some ⟨b,o,none⟩) a 1 f.length=some ⟨b,o+a,none⟩:=by unfold p7;rw[if_neg he];simp[Addr.add]
  rw[hs]at h5 ⊢;have hlt:a<f.length:=oM;have hd:f.drop a=f[a]::f.drop (a+1):=List.drop_eq_getElem_cons hlt;rw[hd]at h5 ⊢;obtain⟨b',o',hb,g1,g2⟩:=Dr h5;cases hb;exact⟨b,o+a,f[a],rfl,h1,g2,(λx r hx=>by cases hx;rfl),h5⟩
def akY(s:ByteArray):FK:=⟨λcs W S=>∃ b,cs=[.slice (some ⟨b,0,none⟩) (iu s).length (iu s).length]/\gO W S (some ⟨b,0,none⟩) (aE (iu s)),λhs ⟨b,h1,h2⟩=>⟨b,h1,h2.mono hs⟩⟩
theorem KM(w:World)(cs:Array Value)(T:TypeId)(j:Nat)(v:Value)(h:cs[j]?=some v):(w.alloc (.cells cs T)).cell? ⟨w.heap.size,j,none⟩=some v:=by
 have hh:(w.alloc (.cells cs T)).heap[w.heap.size]?=some (.cells cs T):=heap_alloc_new w (.cells cs T);simp only[World.cell?,hh];simpa using h
theorem Mp(s:ByteArray)(hs:s.size<4294967281)(w:World)(S:Nat->Prop)(hl:gJ w S):Calls prog 83 #[.string s,.string ⟨#[32]⟩] w λe w' => rh w S e w' (.fact Sh.one (akY s)):=by
 obtain⟨m,hm⟩:=hl.1.2;refine (Any.strings_Split Tryz.P9 (by kernel_rfl) s ⟨#[32]⟩ m w hs hm dE).mono λe w' ⟨he,hw⟩=>?_
 subst hw;refine⟨[.slice (some ⟨w.heap.size,0,none⟩) (iu s).length (iu s).length],?_,⟨w.heap.size,rfl,.inr ⟨w.heap.size,0,rfl,λj hj=>⟨λhlt=>absurd hlt oM,?_⟩⟩⟩,j9 w _⟩
 ·rw[lC];exact he
 ·rw[Nat.zero_add];refine KM w _ 9 j _ ?_;rw[List.getElem?_toArray];exact List.getElem?_eq_getElem hj
def aip(s:ByteArray)(hs:s.size<4294967281):rz prog 83 where
 kinds:=[none,none]
 pre:=λas_ W S=>as_=[.val (.string s),.val (.string ⟨#[32]⟩)]/\gJ W S
 premono:=λas_ W S W' S' hs h=>⟨h.1,h.2.mono hs⟩
 out:=λ_=>.fact Sh.one (akY s)
 enters:=call83
 ok:=by
  intro w S us as_ hg hp;obtain⟨rfl,h1⟩:=hp
  match us,hg with
  |[x,y],hg=>
   obtain⟨rfl,rfl,_⟩:=hg;exact Mp s hs w S h1
noncomputable def dr(s:ByteArray)(hs:s.size<4294967281):Env prog:=⟨λ| 83=>some ((aip s hs).spec (λ_=>True))|84=>some DO.spec|39=>some w5.spec|85=>some Od.spec|_=>none,λ_=>none,λ_ _=>none⟩
theorem aew(s:ByteArray)(hs:s.size<4294967281):(dr s hs).sp 83=some ((aip s hs).spec (λ_=>True)):=rfl
theorem ab6(s:ByteArray)(hs:s.size<4294967281):(dr s hs).sp 84=some DO.spec:=rfl
theorem ado(s:ByteArray)(hs:s.size<4294967281):(dr s hs).sp 39=some w5.spec:=rfl
theorem afM(s:ByteArray)(hs:s.size<4294967281):(dr s hs).sp 85=some Od.spec:=rfl
def a7:=(aj @List.replicate_succ.{0} @List.replicate_zero.{0} @an @ab jk jn BG (aj BH BJ ty5 ty6 ty7 ty8 gR (aj ck cf b9 b8 ca cc cg (aj cd dc df dh db cY c8 (aj rD sq rV rQ GS HG Hl (aj HX yW yM zA yI Bv Ad (aj yG Bj zK BZ Cf Ce Cb (aj Cg Ck B9 Cj rn Gp Fv (aj o5 pY pw pZ pQ p6 pC (aj o4 qf pO o7 qd G4 Ib (aj H9 GW Yj aak Vu W5 aaN (aj ZP Xz Xh aaQ aaU Wj ai0 (aj aiW ajR ajB akd akc ajY aiR (aj ajL aii akl ajQ akn akb aj0 (aj aia @aG @al @ax @aw @ig @UT.eq_1 (aj @aA @Sh.one.eq_1 @aew @ab6 @ado @afM @aip.eq_1 (ml @C8 @Dj @qT @qR @Ud @Tt)))))))))))))))))
theorem PG:U3 54 ia:=by
 intro s r l u fp w hr hl ha ho hlt;have hs4:l.size<4294967281:=oM;obtain⟨⟨n1,n2,n3⟩,n4,n5⟩:=hr;have ffail:∀ {b},BL r.co.length l=(b,[])->ia r l=(b,r):=λh=>by
  unfold ia;rw[h];simp
 refine bg (nt:=122) #[.string l] [.tmp 4] (by show 7<=7;omega) ho hlt func54 rfl rfl rfl ?_;refine vR (dr l hs4) a7 ?_;refine wR (dr l hs4) a7 ?_ ?_
 ·exact⟨ha.2.2.mono λb _ h=>⟨rfl,trivial,h⟩,Up.true _ _⟩
 refine Wp.jh 24 (ev a7) (cT.refl _ _) λW1 bs1 cs hx hΦ=>?_
 obtain⟨b0,rfl,hF⟩:=hΦ;have hF:gO W1 (Out bs1) (some ⟨b0,0,none⟩) (aE (iu l)):=hF.out λb hb=>hb.2
 have ha1:fP W1 (Out bs1):=ha.mono hx.lZ;have hsz:=GX l;have hln:=lC l;cases hs:iu l with
 |nil=>rw[hs]at hln;simp at hln
 | cons a f0=>
  rw[hs]at hF hsz;obtain⟨b0',o0,hb0,hnb,x0⟩:=Dr hF;cases hb0;have za:=hsz a sI;have hPS:KC W1 bs1 (some ⟨b0,0,none⟩) (a::f0):=⟨b0,0,a,rfl,hnb,x0,(λx r hx=>by cases hx;rfl),hF⟩;cases f0 with
  | nil=>
   have hE:BL r.co.length l=(false,[]):=by unfold BL;rw[hs]
   rw[ffail hE];refine Wp.seq ?_;refine lf (dr l hs4) (bP a7 hs x0) ?_ ?_
   ·exact⟨⟨_,rfl⟩,λh=>by simp,λ_=>hnb,λ_=>⟨_,rfl⟩,λ_=>⟨⟨oM,oM⟩,ha1.2.1⟩⟩
   refine wC a7 (λhc=>?_) (λhc=>?_)
   ·skip;refine vR (dr l hs4) a7 ?_;refine wZ a7 ?_;exact⟨_,_,rfl,λE=>rfl,_,_,rfl,(ev a7),dE⟩
   ·exact absurd hc sI
  | cons b f=>
   have hP2:=hPS.rest (a:=2) sI;simp only[List.drop_succ_cons,List.drop_zero,List.length_cons]at hP2;have x1:W1.cell? ⟨b0,1,none⟩=some (.string b):=by
    rcases hF with h|⟨b',o',h,hc⟩
    ·cases h
    ·cases h;exact (hc 1 (by simp[aE])).2
   refine Wp.seq ?_;refine lf (dr l hs4) (bP a7 hs x0) ?_ ?_
   ·exact⟨⟨_,rfl⟩,λh=>by omega,λ_=>hnb,λ_=>⟨_,rfl⟩,λ_=>⟨⟨oM,oM⟩,ha1.2.1⟩⟩
   refine wC a7 (λhc=>?_) (λhc=>?_)
   ·have hne:¬ a=gl (r.co.length:Nat):=by
     simp at hc;rcases hc with hc|hc
     ·omega
     ·exact hc
    have hE:BL r.co.length l=(false,[]):=by unfold BL;rw[hs];simp only;rw[if_neg hne]
    rw[ffail hE];refine vR (dr l hs4) a7 ?_;refine wZ a7 ?_;exact⟨_,_,rfl,λE=>rfl,_,_,rfl,(ev a7),dE⟩
   have heq:a=gl (r.co.length:Nat):=by
    simp at hc;exact hc.2
   obtain⟨hX,hY⟩:=RY ha1.1.1;refine wK ?_;refine Wp.seq ?_
   refine Wp.pn (dr l hs4) cj (by simp only[kp,Op.operands,Value.cells,σ0,σB,Nat.reduceEqDiff,Nat.reduceAdd,Nat.reduceMul,Nat.reduceLT,Nat.reduceLeDiff,Nat.reduceBEq,av,Int.reduceToNat,Int.reduceLT,Int.reduceLE,Nat.reduceDiv,Nat.reduceMod,Nat.reduceSub,Int.reducePow,Nat.reducePow,σP,σB3,a7,↓hX,↓hY];exact rfl) rfl ?_ ?_
   ·exact ha1.1.1.1
   refine Wp.block ?_
   refine Wp.loop (λk:Nat=>⟨60,bm [(0,.is (.own 0 0)),(5,.is (.v (.slice (some ⟨b0,0,none⟩) (f.length+1+1) (f.length+1+1)))),(31,.is (.agg (List.map SV.v rA))),(32,.is (.v (.int .i64 (k:Nat))))],aY [(0,.cells 112 [.hd 1,.hd 2,.hd 3,.v (.int .i64 r.src),.v (.int .i64 r.vw),.v (.string s),.v (.int .i64 (r.pl:Nat))]),(1,.row 9 1 r.ty.length ((aE r.ty).map .v)),(2,.row 9 1 r.tx.length ((aE r.tx).map .v)),(3,.row 50 4 r.co.length ((cn r.co).map .v))]⟩) (λk=>k<=21/\∀ j<k,¬ (gn j).1=b) (λk=>21-k) 0 ?_ ⟨oM,λj hj=>by omega⟩ ?_
   ·exact wM (λk=>.key k) a7 (hk:=⟨by simp[FV.keys,SV.keys,ay,aB],by simp[aS.keys,ay,SV.keys,aB,aT]⟩)
   rintro k ⟨hk,hno⟩;refine vR (dr l hs4) a7 ?_;refine Wp.seq ?_;refine wC a7 (λhc=>?_) (λhc=>?_)
   ·have hlt:k<21:=by
     simp at hc;omega
    have wk:IntKind.i64.wrap ((k:Int)+1)=((k+1:Nat):Int):=wW;have hP:=S6 hlt;simp only[Uu,List.map_cons,List.map_nil]at hP;have hE0:(gn k).1=b->BL r.co.length l=match cdX k f with
      |none=>(false,[])
      |some (x,f')=>(f'.isEmpty,[x]):=λh=>by
     unfold BL;rw[hs];simp only;rw[if_pos heq,acE hlt hno h];rfl
    have hXAB:=aaY k f;have hab:=(yo k hlt).2.1;generalize hsp:gn k=sp at *;obtain⟨wd,st,ua,ub⟩:=sp;simp only at hP hE0 hXAB hab;refine wK ?_;refine Wp.seq (Wp.block ?_);refine wR (dr l hs4) (bP a7 @aas hP) ?_ ?_
    ·omega
    refine Wp.seq ?_;refine lf (dr l hs4) (aa a7 x1) ?_ ?_
    ·exact⟨oM,hnb⟩
    refine wC a7 (λhc=>?_) (λhc=>?_)
    ·have hne:¬ wd=b:=by simpa using hc
     refine wE ?_;refine vr (dr l hs4) (aa a7 wk) ?_;refine⟨k+1,⟨oM,λj hj=>?_⟩,oM,?_⟩
     ·by_cases e:j=k
      ·rw[e,hsp];exact hne
      ·exact hno j oM
     ·exact wM (λk=>.key k) a7 (hk:=⟨by simp[FV.keys,SV.keys,ay,aB],by simp[aS.keys,ay,SV.keys,aB,aT]⟩)
    have hwd:wd=b:=by simpa using hc
    have hE:=hE0 hwd;rw[hXAB]at hE;clear hE0 hXAB hno hP;refine wK ?_;refine vR (dr l hs4) a7 ?_;have hsz:∀ x∈f,x.size<=16000000:=λx hx=>Nat.le_trans (hsz x (by simp[hx])) hl
    have hl2:f.length+1+1-2=f.length:=oM;refine wR (dr l hs4) (aa a7 hl2) ?_ ?_
    ·omega
    generalize p7 (some ⟨b0,0,none⟩) 2 1 (f.length+1+1)=ao2 at *
    refine Wp.IX (σ' := ⟨100,bm [(0,.is (.own 0 0)),(5,.is (.v (.slice ao2 f.length f.length))),(7,.is (.own 24 0)),(8,.is (.own 16 0))],aY [(0,.cells 112 [.hd 1,.hd 2,.hd 3,.v (.int .i64 r.src),.v (.int .i64 r.vw),.v (.string s),.v (.int .i64 (r.pl:Nat))]),(1,.row 9 1 r.ty.length ((aE r.ty).map .v)),(2,.row 9 1 r.tx.length ((aE r.tx).map .v)),(3,.row 50 4 r.co.length ((cn r.co).map .v)),(16,.cells 50 [.v (.int .i64 (k:Nat)),.v (.int .i64 0),.v (.int .i64 0),.v (.int .i64 0)]),(24,.cells 160 [.v (.string wd),.v (.bool st),.v (.int .i64 ua),.v (.int .i64 ub)])]⟩) ?_ ?_
    ·exact wM (λk=>if k=16 then .key 592 else if k=24 then .key 504 else .key k) a7
    clear hPS x0 x1 hF;cases hK:cdK st f with
    | none=>
     rw[hK]at hE;rw[ffail hE];have hst:st=true:=by
      cases st with
      |false=>unfold cdK at hK;rw[if_neg sI]at hK;cases hK
      |true=>rfl
     subst hst;unfold cdK at hK;rw[if_pos rfl]at hK;obtain⟨b2,o2,t2,rfl,hn2,y2,y3,hF2⟩:=hP2;have hcond:f.length=0\/(¬ t2=sB/\¬ t2=vB):=by
      cases f with
      |nil=>left;rfl
      | cons x q=>
       right;obtain rfl:=y3 x q rfl;simp only at hK;refine⟨λe=>?_,λe=>?_⟩
       ·rw[if_pos e]at hK;cases hK
       ·by_cases e1:t2=sB
        ·rw[if_pos e1]at hK;cases hK
        ·rw[if_neg e1,if_pos e]at hK;cases hK
     refine Wp.seq ?_;refine vR (dr l hs4) a7 ?_;refine wC a7 (λhc=>?_) (λhc=>?_)
     ·refine Wp.seq ?_;refine wR (dr l hs4) (aa a7 y2) ?_ ?_
      ·exact ⟨⟨_, rfl⟩, (fun h => by rcases Nat.eq_zero_or_pos f.length with h0|h0;· simp[h0]at h
                                     ·omega), fun _ => hn2, (fun h => by rcases Nat.eq_zero_or_pos f.length with h0|h0;· simp[h0]at h
                                                                         ·omega),λ_=>hn2⟩
      refine wC a7 (λhc=>?_) (λhc=>?_)
      ·skip;refine vR (dr l hs4) a7 ?_;refine wZ a7 ?_;exact⟨_,_,rfl,λE=>rfl,_,_,rfl,(ev a7),dE⟩
      ·exfalso;have e1:(⟨#[115]⟩:ByteArray)=sB:=rfl;have e2:(⟨#[118]⟩:ByteArray)=vB:=rfl;rw[e1,e2]at hc;rcases hcond with h|⟨h1,h2⟩
       ·simp[h]at hc
       ·simp[h1,h2]at hc
     ·exact absurd hc sI
    | some q=>
     obtain⟨K,f1⟩:=q;rw[hK]at hE;simp only at hE;have hF1:(∀ x∈f1,x.size<=16000000)/\∃ ao1,KC W1 bs1 ao1 f1/\(st=false->f1=f/\K=0/\ao1=ao2)/\(st=true->∃ t,f=t::f1/\((t=sB/\K=0)\/(t=vB/\¬ t=sB/\K=1))/\ao1=p7 ao2 1 1 f.length):=by
      cases st with
      |false=>
       unfold cdK at hK;rw[if_neg sI]at hK;cases hK;exact⟨hsz,ao2,hP2,λ_=>⟨rfl,rfl,rfl⟩,λh=>by cases h⟩
      | true=>
       unfold cdK at hK;rw[if_pos rfl]at hK;cases f with
       |nil=>cases hK
       | cons t q=>
        simp only at hK;have hq:f1=q/\((t=sB/\K=0)\/(t=vB/\¬ t=sB/\K=1)):=by
         by_cases h1:t=sB
         ·rw[if_pos h1]at hK;cases hK;exact⟨rfl,.inl ⟨h1,rfl⟩⟩
         ·rw[if_neg h1]at hK;by_cases h2:t=vB
          ·rw[if_pos h2]at hK;cases hK;exact⟨rfl,.inr ⟨h2,h1,rfl⟩⟩
          ·rw[if_neg h2]at hK;cases hK
        obtain⟨rfl,hq⟩:=hq;have h3:=hP2.rest (a:=1) sI;simp only[List.drop_succ_cons,List.drop_zero]at h3;exact⟨λx hx=>hsz x (by simp[hx]),_,h3,(λh=>by cases h),λ_=>⟨t,rfl,hq,rfl⟩⟩
     obtain⟨hsz1,ao1,hP1,hst0,hst1⟩:=hF1
     refine aV ⟨200,bm [(0,.is (.own 0 0)),(5,.is (.v (.slice ao1 f1.length f1.length))),(7,.is (.own 24 0)),(8,.is (.own 16 0))],aY [(0,.cells 112 [.hd 1,.hd 2,.hd 3,.v (.int .i64 r.src),.v (.int .i64 r.vw),.v (.string s),.v (.int .i64 (r.pl:Nat))]),(1,.row 9 1 r.ty.length ((aE r.ty).map .v)),(2,.row 9 1 r.tx.length ((aE r.tx).map .v)),(3,.row 50 4 r.co.length ((cn r.co).map .v)),(16,.cells 50 [.v (.int .i64 (k:Nat)),.v (.int .i64 K),.v (.int .i64 0),.v (.int .i64 0)]),(24,.cells 160 [.v (.string wd),.v (.bool st),.v (.int .i64 ua),.v (.int .i64 ub)])]⟩ ?_ ?_
     ·skip;cases st with
      |false=>
       obtain⟨rfl,rfl,rfl⟩:=hst0 rfl;refine vR (dr l hs4) a7 ?_;refine wC a7 (λhc=>?_) (λhc=>?_)
       ·exact absurd hc sI
       refine wK ?_;exact wM (λk=>.key k) a7
      | true=>
       obtain⟨t,rfl,htK,rfl⟩:=hst1 rfl;obtain⟨b2,o2,t2,rfl,hn2,y2,y3,hF2⟩:=hP2;obtain rfl:=y3 t f1 rfl;have e1:(⟨#[115]⟩:ByteArray)=sB:=rfl;have e2:(⟨#[118]⟩:ByteArray)=vB:=rfl;have e3:(⟨#[115,118]⟩:ByteArray)=svS:=rfl;have ht:t2=sB\/t2=vB:=by
        rcases htK with h|h
        ·exact .inl h.1
        ·exact .inr h.1
       have hKi:(if t2=sB then (0:Int) else 1)=K:=by
        rcases htK with h|h
        ·rw[if_pos h.1,h.2]
        ·rw[if_neg h.2.1,h.2.2]
       have hl1:f1.length+1-1=f1.length:=oM;refine vR (dr l hs4) a7 ?_;refine wC a7 (λhc=>?_) (λhc=>?_)
       ·refine Wp.seq ?_;refine wR (dr l hs4) (eS a7 y2 e1 e2) ?_ ?_
        ·exact⟨⟨_,rfl⟩,(λh=>by omega),(λ_=>hn2),(λh=>by omega),λ_=>hn2⟩
        refine wC a7 (λhc=>?_) (λhc=>?_)
        ·exfalso;rcases ht with h|h
         ·simp[h]at hc;omega
         ·rw[h]at hc;simp at hc;omega
        refine wK ?_;refine wR (dr l hs4) (eS a7 y2 e3 hKi) ?_ ?_
        ·exact⟨oM,hn2,ht,ha1.2.2⟩
        refine wr (dr l hs4) (aa a7 hl1) ?_ ?_
        ·omega
        exact wM (λk=>.key k) (aa a7 hl1)
       ·exact absurd hc sI
     refine Wp.seq ?_;refine vR (dr l hs4) a7 ?_;refine Wp.block ?_
     refine Wp.loop (λp:Nat×List ByteArray×Option Addr×Int×Int=>⟨300,bm [(0,.is (.own 0 0)),(5,.is (.v (.slice p.2.2.1 p.2.1.length p.2.1.length))),(8,.is (.own 16 0)),(78,.is (.hd 32)),(79,.is (.v (.int .i64 2))),(80,.is (.v (.int .i64 (p.1:Nat))))],aY [(0,.cells 112 [.hd 1,.hd 2,.hd 3,.v (.int .i64 r.src),.v (.int .i64 r.vw),.v (.string s),.v (.int .i64 (r.pl:Nat))]),(1,.row 9 1 r.ty.length ((aE r.ty).map .v)),(2,.row 9 1 r.tx.length ((aE r.tx).map .v)),(3,.row 50 4 r.co.length ((cn r.co).map .v)),(16,.cells 50 [.v (.int .i64 (k:Nat)),.v (.int .i64 K),.v (.int .i64 p.2.2.2.1),.v (.int .i64 p.2.2.2.2)]),(32,.row 174 2 2 [.v (.int .i64 ua),.own 16 2,.v (.int .i64 ub),.own 16 3])]⟩)
      (λp=>p.1<=2/\KC W1 bs1 p.2.2.1 p.2.1/\(∀ x∈p.2.1,x.size<=16000000)/\(p.1=0->p.2.1=f1/\p.2.2.2.1=0/\p.2.2.2.2=0)/\(p.1=1->TD ua f1=some (p.2.2.2.1,p.2.1)/\p.2.2.2.2=0)/\(p.1=2->xC ua ub f1=some ((p.2.2.2.1,p.2.2.2.2),p.2.1))) (λp=>2-p.1) (0,f1,ao1,0,0) ?_ ⟨sI,hP1,hsz1,λ_=>⟨rfl,rfl,rfl⟩,λh=>by simp at h,λh=>by simp at h⟩ ?_
     ·exact wM (λk=>if k=32 then .key 1664 else .key k) (bP a7 (show ((2:Nat):Int)=2 from rfl) (show ((0:Nat):Int)=0 from rfl))
     rintro⟨j,g,ao,A,B⟩ ⟨hj,hG,hgz,p0,p1,p2⟩;dsimp only at hj hG hgz p0 p1 p2 ⊢;refine vR (dr l hs4) a7 ?_;refine Wp.seq ?_;refine wC a7 (λhc=>?_) (λhc=>?_)
     ·have hj2:j<2:=by
       simp at hc;omega
      obtain⟨b3,o3,t3,rfl,hn3,v2,v3,hF3⟩:=hG;have hG:KC W1 bs1 (some ⟨b3,o3,none⟩) g:=⟨b3,o3,t3,rfl,hn3,v2,v3,hF3⟩;have hjj:j=0\/j=1:=oM;refine wK ?_;refine Wp.seq (Wp.block ?_);rcases hjj with rfl|rfl
      ·clear p1 p2;have PJ0:=p0 rfl;refine vR (dr l hs4) a7 ?_;refine Wp.seq ?_;refine vR (dr l hs4) a7 ?_;refine wC a7 (λhc=>?_) (λhc=>?_)
       ·have hu:ua=0:=by simpa using hc
        refine wE ?_;refine vr (dr l hs4) a7 ?_;refine⟨(1,g,some ⟨b3,o3,none⟩,A,B),⟨sI,hG,hgz,λh=>by simp at h,?_,?_⟩,sI,?_⟩
        ·intro _;obtain⟨h1,h2,h3⟩:=PJ0;dsimp only;rw[hu,IC,h1,h2];exact⟨rfl,h3⟩
        ·intro h;simp at h
        ·exact wM (λk=>.key k) a7
       have hu:¬ ua=0:=by simpa using hc
       refine wK ?_;refine Wp.seq ?_;refine vR (dr l hs4) a7 ?_;refine wC a7 (λhc=>?_) (λhc=>?_)
       ·have hg0:g=[]:=by
         have:g.length=0:=by simpa using hc
         exact List.eq_nil_of_length_eq_zero this
        have hE' : BL r.co.length l=(false,[]):=by
         rw[hE];obtain⟨h1,h2,h3⟩:=PJ0;rw[xC,<- h1,hg0,yd ua hu]
        rw[ffail hE'];refine vR (dr l hs4) a7 ?_;refine wZ a7 ?_;exact⟨_,_,rfl,λE=>rfl,_,_,rfl,(ev a7),dE⟩
       have hgp:0<g.length:=by
        have:¬ g.length=0:=by simpa using hc
        omega
       obtain⟨t,q,rfl⟩:∃ t q,g=t::q:=by
        cases g with
        |nil=>simp at hgp
        |cons t q=>exact⟨t,q,rfl⟩
       obtain rfl:=v3 t q rfl;have hzt:=hgz t3 sI;obtain⟨m1,m2⟩:=pf t3;have hNN:=Qv ua t3 q hu;refine wK ?_;refine wR (dr l hs4) (aa a7 v2) ?_ ?_
       ·exact⟨oM,hn3,oM,ha1.2⟩
       refine Wp.seq ?_;refine vR (dr l hs4) a7 ?_;refine wC a7 (λhc=>?_) (λhc=>?_)
       ·have hno:¬ bR t3=true:=by rw[<- m1];simpa using hc
        rw[if_neg hno]at hNN;have hE' : BL r.co.length l=(false,[]):=by
         rw[hE];obtain⟨h1,h2,h3⟩:=PJ0;rw[xC,<- h1,hNN]
        rw[ffail hE'];refine vR (dr l hs4) a7 ?_;refine wZ a7 ?_;exact⟨_,_,rfl,λE=>rfl,_,_,rfl,(ev a7),dE⟩
       have hyes:bR t3=true:=by rw[<- m1];simpa using hc
       rw[if_pos hyes]at hNN;have hnv:=m2 hyes;have hl1:q.length+1-1=q.length:=oM;have hR3:=hG.rest (a:=1) sI;simp only[List.drop_succ_cons,List.drop_zero,List.length_cons]at hR3;refine wK ?_;refine vR (dr l hs4) a7 ?_;refine wr (dr l hs4) (aa a7 hl1) ?_ ?_
       ·omega
       refine vr (dr l hs4) a7 ?_;refine⟨(1,q,p7 (some ⟨b3,o3,none⟩) 1 1 (q.length+1),iK t3,B),⟨sI,hR3,λx hx=>hgz x (by simp[hx]),λh=>by simp at h,?_,?_⟩,sI,?_⟩
       ·intro _;obtain⟨h1,h2,h3⟩:=PJ0;dsimp only;rw[<- h1,hNN];exact⟨rfl,h3⟩
       ·intro h;simp at h
       ·exact wM (λk=>.key k) (bP a7 hl1 hnv)
      ·clear p0 p2;have PJ1:=p1 rfl;refine vR (dr l hs4) a7 ?_;refine Wp.seq ?_;refine vR (dr l hs4) a7 ?_;refine wC a7 (λhc=>?_) (λhc=>?_)
       ·have hu:ub=0:=by simpa using hc
        refine wE ?_;refine vr (dr l hs4) a7 ?_;refine⟨(2,g,some ⟨b3,o3,none⟩,A,B),⟨sI,hG,hgz,λh=>by simp at h,?_,?_⟩,sI,?_⟩
        ·intro h;simp at h
        ·intro _;obtain⟨h1,h2⟩:=PJ1;dsimp only;rw[xC,h1];simp only;rw[hu,IC,h2]
        ·exact wM (λk=>.key k) a7
       have hu:¬ ub=0:=by simpa using hc
       refine wK ?_;refine Wp.seq ?_;refine vR (dr l hs4) a7 ?_;refine wC a7 (λhc=>?_) (λhc=>?_)
       ·have hg0:g=[]:=by
         have:g.length=0:=by simpa using hc
         exact List.eq_nil_of_length_eq_zero this
        have hE' : BL r.co.length l=(false,[]):=by
         rw[hE];obtain⟨h1,h2⟩:=PJ1;rw[xC,h1];simp only;rw[hg0,yd ub hu]
        rw[ffail hE'];refine vR (dr l hs4) a7 ?_;refine wZ a7 ?_;exact⟨_,_,rfl,λE=>rfl,_,_,rfl,(ev a7),dE⟩
       have hgp:0<g.length:=by
        have:¬ g.length=0:=by simpa using hc
        omega
       obtain⟨t,q,rfl⟩:∃ t q,g=t::q:=by
        cases g with
        |nil=>simp at hgp
        |cons t q=>exact⟨t,q,rfl⟩
       obtain rfl:=v3 t q rfl;have hzt:=hgz t3 sI;obtain⟨m1,m2⟩:=pf t3;have hNN:=Qv ub t3 q hu;refine wK ?_;refine wR (dr l hs4) (aa a7 v2) ?_ ?_
       ·exact⟨oM,hn3,oM,ha1.2⟩
       refine Wp.seq ?_;refine vR (dr l hs4) a7 ?_;refine wC a7 (λhc=>?_) (λhc=>?_)
       ·have hno:¬ bR t3=true:=by rw[<- m1];simpa using hc
        rw[if_neg hno]at hNN;have hE' : BL r.co.length l=(false,[]):=by
         rw[hE];obtain⟨h1,h2⟩:=PJ1;rw[xC,h1];simp only;rw[hNN]
        rw[ffail hE'];refine vR (dr l hs4) a7 ?_;refine wZ a7 ?_;exact⟨_,_,rfl,λE=>rfl,_,_,rfl,(ev a7),dE⟩
       have hyes:bR t3=true:=by rw[<- m1];simpa using hc
       rw[if_pos hyes]at hNN;have hnv:=m2 hyes;have hl1:q.length+1-1=q.length:=oM;have hR3:=hG.rest (a:=1) sI;simp only[List.drop_succ_cons,List.drop_zero,List.length_cons]at hR3;refine wK ?_;refine vR (dr l hs4) a7 ?_;refine wr (dr l hs4) (aa a7 hl1) ?_ ?_
       ·omega
       refine vr (dr l hs4) a7 ?_;refine⟨(2,q,p7 (some ⟨b3,o3,none⟩) 1 1 (q.length+1),A,iK t3),⟨sI,hR3,λx hx=>hgz x (by simp[hx]),λh=>by simp at h,?_,?_⟩,sI,?_⟩
       ·intro h;simp at h
       ·intro _;obtain⟨h1,h2⟩:=PJ1;dsimp only;rw[xC,h1];simp only;rw[hNN]
       ·exact wM (λk=>.key k) (bP a7 hl1 hnv)
     ·have hj2:j=2:=by
       simp at hc;omega
      subst hj2;have hAB:=p2 rfl;rw[hAB]at hE;simp only at hE;have hfin:ia r l=(g.isEmpty,{ r with co:=r.co++[(((k:Nat):Int),K,A,B)] }):=by unfold ia;rw[hE]
      have e1:=JO r.co (k:Nat) K A B;have e2:(r.co++[(((k:Nat):Int),K,A,B)]).length=r.co.length+1:=by rw[List.length_append];rfl
      have e3:decide (((g.length:Nat):Int)=0)=g.isEmpty:=by cases g<;>simp<;>omega
      rw[hfin];refine wE ?_;refine lf (dr l hs4) (aa a7 e1) ?_ ?_
      ·exact⟨by unfold maxLen;omega,oM⟩
      refine vR (dr l hs4) (aa a7 e3) ?_;refine wZ a7 ?_;exact⟨_,_,rfl,λE=>rfl,_,_,rfl,(ev (aa a7 e2)),dE⟩
   ·have hk' : k=21:=by
     simp at hc;omega
    subst hk';have hE:BL r.co.length l=(false,[]):=by
     unfold BL;rw[hs];simp only;rw[if_pos heq,afm hno]
    rw[ffail hE];refine wE ?_;refine vR (dr l hs4) a7 ?_;refine wZ a7 ?_;exact⟨_,_,rfl,λE=>rfl,_,_,rfl,(ev a7),dE⟩
section
variable (s:ByteArray)(r:Rd)(l:ByteArray)
noncomputable def IJ:Env prog:=⟨λ| 79=>some (ox s r).spec|54=>some (xV 54 ia call54 PG s r l).spec|_=>none,λ_=>none,λ_ _=>none⟩
theorem agf:(IJ s r l).sp 79=some (ox s r).spec:=rfl
theorem abP:(IJ s r l).sp 54=some (xV 54 ia call54 PG s r l).spec:=rfl
end
def rF:=(aj @List.replicate_succ.{0} @List.replicate_zero.{0} @an @ab jk jn gR (aj ck cf b9 b8 ca cc cg (aj cd dc df dh db cY c8 (aj FT F7 D2 uR vz o5 pY (aj pw pZ pQ p6 pC o4 qf (aj pO o7 qd @aG @al @ax @aw (aj @ze.eq_1 @UT.eq_1 @jU.eq_1 @jU.eq_2 @aA @gE @fY (eS @agf @abP @ox.eq_1 @xV.eq_1))))))))
theorem A3:Qs 54 ia:=by
 intro s r w fp E F hr ha hs;refine iA (nt:=29) [] hs ?_ ?_ func49 rfl rfl rfl ?_
 ·simp[pU,jU,ze,FV.keys,SV.keys,ay,aS.keys,aB]
 ·simp
 refine Wp.block ?_;refine Wp.loop (λr' : Rd=>⟨10,bm [(0,.is (.own 0 0)),(1,.is (.fn (.func 54) [.own 0 0] []))],aY (ze 1 s r')⟩) (λr' => Lo s r' /\ oL ia s r' = oL ia s r) (λr' => s.size-r'.pl) r ?_ ⟨hr,rfl⟩ ?_
 ·simp only[ze];exact wM (λk=>.key k) rF
 rintro r' ⟨hb,hg⟩;have hb' := hb;obtain⟨⟨n1,n2,n3⟩,n4,n5⟩:=hb;have hle:=jO n4;have hst:=dY ia s r';refine Wp.block ?_;by_cases he:bK s r'.pl<s.size
 ·have hlin:mb s r'.pl=.tuple #[.string (dt s r'.pl),.bool true]:=by rw[mb,if_pos he]
  have hlz:(dt s r'.pl).size=bK s r'.pl-r'.pl:=dF _ _ _ hle.2;obtain⟨q1,q2,q3,q4⟩:=LP r' (dt s r'.pl);rw[if_pos he]at hst;generalize hl:dt s r'.pl=l at *;cases ht:ia r' l with
  | mk b r2=>
   rw[ht]at hst q1 q2 q3 q4;simp only at q1 q2 q3 q4;refine wR (IJ s r' l) (aa rF hlin) ?_ ?_
   ·exact⟨dE,n4,oM⟩
   cases b with
   | false=>
    rw[if_neg sI]at hst;refine Wp.seq ?_;refine wR (IJ s r' l) (aa rF ht) ?_ ?_
    ·exact⟨⟨⟨hb',oM⟩,ha⟩,dE,sI⟩
    refine wC rF (λhc=>?_) (λhc=>?_)
    ·refine wZ rF ?_;rw[<- hg,hst];exact wN (λk=>if k=8 then .key 176 else if k=9 then .key 177 else if k=10 then .key 178 else .key k) rF
    ·exact absurd hc sI
   |true=>
    rw[if_pos rfl]at hst;have wz:IntKind.i64.wrap ((l.size:Int)+1)=((l.size+1:Nat):Int):=wW;have wa:IntKind.i64.wrap ((r2.pl:Int)+((l.size+1:Nat):Int))=((bK s r'.pl+1:Nat):Int):=wW;refine Wp.seq ?_;refine wR (IJ s r' l) (aa rF ht) ?_ ?_
    ·exact⟨⟨⟨hb',oM⟩,ha⟩,dE,sI⟩
    refine wC rF (λhc=>?_) (λhc=>?_)
    ·exact absurd hc sI
    refine wK ?_;refine vr (IJ s r' l) (bP rF wz wa) ?_;refine⟨{ r2 with pl:=bK s r'.pl+1 },⟨⟨⟨by dsimp only;omega,by dsimp only;omega,by dsimp only;omega⟩,by dsimp only;omega,n5⟩,by rw[<- hst];exact hg⟩,by dsimp only;omega,?_⟩;simp only[ze]
    exact wM (λk=>if k=1 then .key 176 else if k=2 then .key 177 else if k=3 then .key 178 else .key k) rF
 ·have hlin:mb s r'.pl=.tuple #[.string ⟨#[]⟩,.bool false]:=by rw[mb,if_neg he]
  rw[if_neg he]at hst;refine wR (IJ s r' dJ) (aa rF hlin) ?_ ?_
  ·exact⟨dE,n4,oM⟩
  refine Wp.seq ?_;refine wR (IJ s r' dJ) rF ?_ ?_
  ·exact λh=>by cases h
  refine wC rF (λhc=>?_) (λhc=>?_)
  ·refine wZ rF ?_;rw[<- hg,hst];exact wN (λk=>if k=8 then .key 1 else if k=9 then .key 2 else if k=10 then .key 3 else .key k) rF
  ·exact absurd hc sI
def AG(k:Nat)(b:Bool)(s:ByteArray)(r:Rd):List (Nat×aS):=[(0,.cells 112 [.hd k,.hd (k+1),.hd (k+2),.v (.int .i64 r.src),.v (.int .i64 r.vw),.v (.string s),.v (.int .i64 (r.pl:Nat))]),(k,.row 9 1 r.ty.length ((aE r.ty).map .v)),(k+1,.row 9 1 r.tx.length ((aE r.tx).map .v)),(k+2,.row 50 4 r.co.length ((cn r.co).map .v)),(1,.cells 4 [.v (.bool b)]),(2,.cells 110 [.own 0 0])]
section
variable (s:ByteArray)(r:Rd)(l:ByteArray)
noncomputable def IB:Env prog:=⟨λ| 53=>some (xV 53 fT call53 OH s r l).spec|_=>none,λ_=>none,λ_ _=>none⟩
theorem abK:(IB s r l).sp 53=some (xV 53 fT call53 OH s r l).spec:=rfl
end
def mW(b:Bool)(r:Rd)(l:ByteArray):Bool×Bool×Rd:=if b=true then (false,true,r) else ((fT r l).1,(fT r l).1,(fT r l).2)
def oZ:=(aj @List.replicate_succ.{0} @List.replicate_zero.{0} @an @ab jk jn gR (aj ck cf b9 b8 ca cc cg (aj cd dc df dh db cY c8 (aj FT F7 D2 uR vz o5 pY (aj pw pZ pQ p6 pC o4 qf (aj pO o7 qd @aG @al @ax @aw (aj @o8 @AG.eq_1 @UT.eq_1 @jU.eq_1 @jU.eq_2 @aA @gE (bP @fY @abK @xV.eq_1))))))))
theorem Yn(b:Bool)(s:ByteArray)(r:Rd)(l:ByteArray)(w:World)(fp:List Nat)(E:Nat->Value)(F:Nat->List Nat)(hr:Lo s r)(hl:l.size<=16000000)(ha:fP w (Out fp))(hs:ai w fp E F (aY (AG 3 b s r)) w) :
  Calls prog 52 (au E [.v (.string l),.own 1 0,.own 2 0]).toArray w λe w' => ∃ E' F',e=.returned (den E' (.v (.bool (mW b r l).1)))/\(∀ k∈[0,1,2],E' k=E k)/\ai w fp E' F' (aY (AG 8 (mW b r l).2.1 s (mW b r l).2.2)) w' := by
 refine iA (nt:=12) [.tmp 4] hs ?_ ?_ func52 rfl rfl rfl ?_
 ·simp[pU,jU,AG,FV.keys,SV.keys,ay,aS.keys,aB]
 ·simp
 refine vR (IB s r l) oZ ?_;refine Wp.seq ?_;cases b with
 | true=>
  have e:mW true r l=(false,true,r):=by unfold mW;rw[if_pos rfl]
  rw[e];refine wR (IB s r l) oZ ?_ ?_
  ·exact λh=>by cases h
  refine wC oZ (λhc=>?_) (λhc=>?_)
  ·skip;refine vR (IB s r l) oZ ?_;refine wZ oZ ?_;exact wN (λk=>if k=8 then .key 3 else if k=9 then .key 4 else if k=10 then .key 5 else .key k) oZ
  ·exact absurd hc sI
 | false=>
  have e:mW false r l=((fT r l).1,(fT r l).1,(fT r l).2):=by unfold mW;rw[if_neg sI]
  rw[e];cases ht:fT r l with
  | mk x r2=>
   refine wR (IB s r l) (aa oZ ht) ?_ ?_
   ·exact⟨⟨⟨hr,hl⟩,ha⟩,dE,sI⟩
   cases x with
   | false=>
    refine wC oZ (λhc=>?_) (λhc=>?_)
    ·skip;refine vR (IB s r l) oZ ?_;refine wZ oZ ?_;exact wN (λk=>if k=8 then .key 48 else if k=9 then .key 49 else if k=10 then .key 50 else .key k) oZ
    ·exact absurd hc sI
   |true=>
    refine wC oZ (λhc=>?_) (λhc=>?_)
    ·exact absurd hc sI
    refine wK ?_;refine vR (IB s r l) oZ ?_;refine vR (IB s r l) oZ ?_;refine wZ oZ ?_;exact wN (λk=>if k=8 then .key 48 else if k=9 then .key 49 else if k=10 then .key 50 else .key k) oZ
def WR(b:Bool)(s:ByteArray)(r:Rd)(l:ByteArray):mr prog 52 where
 args:=[.v (.string l),.own 1 0,.own 2 0]
 L:=AG 3 b s r
 val:=.v (.bool (mW b r l).1)
 L' := AG 8 (mW b r l).2.1 s (mW b r l).2.2
 eg:=[0,1,2]
 pre:=λW bs=>(Lo s r/\l.size<=16000000)/\fP W (Out bs)
 low:=by simp[AG]
 kept:=by simp[AG]
 vk:=by simp[SV.keys,ay]
 lk:=by simp[AG,aS.keys,SV.keys,ay,aB,fresh]
 nd:=by simp[AG]
 enters:=call52
 ok:=by
  intro W w bs fp E F hk hm hs hp;exact Yn b s r l w fp E F hp.1.1 hp.1.2 (hp.2.dU hk hm) hs
section
variable (b:Bool)(s:ByteArray)(r:Rd)(l:ByteArray)
noncomputable def IA:Env prog:=⟨λ| 79=>some (ox s r).spec|52=>some ((WR b s r l).spec [0,1,2,3,4,5])|_=>none,λ_=>none,λ_ _=>none⟩
theorem aga:(IA b s r l).sp 79=some (ox s r).spec:=rfl
theorem aff:(IA b s r l).sp 52=some ((WR b s r l).spec [0,1,2,3,4,5]):=rfl
end
theorem aiO(b:Bool)(r:Rd)(l:ByteArray):(mW b r l).2.2.pl=r.pl/\(mW b r l).2.2.ty.length<=r.ty.length+1/\(mW b r l).2.2.tx.length<=r.tx.length+1/\(mW b r l).2.2.co.length<=r.co.length+1:=by
 unfold mW;split
 ·exact⟨rfl,Nat.le_succ _,Nat.le_succ _,Nat.le_succ _⟩
 ·exact Zv r l
def rP:=(aj oZ @aga @aff @ox.eq_1 @WR.eq_1 @qt.eq_1 @gz.eq_1 (aj @gz.eq_2 @fL.eq_1 @fL.eq_2 @fL.eq_3 @fL.eq_4 @fL.eq_5 @fL.eq_6 (aj @fL.eq_7 @fL.eq_8 @jV.eq_1 @jV.eq_2 @eV.eq_1 @eV.eq_2 @gK.eq_1 (aj @gK.eq_2 @gA.eq_1 @gA.eq_2 @gA.eq_3 @rC.eq_1 @mp.eq_1 @fV (aa @gE @fY)))))
theorem TM(s:ByteArray)(r:Rd)(w:World)(fp:List Nat)(E:Nat->Value)(F:Nat->List Nat)(hr:Lo s r)(ha:fP w (Out fp))(hs:ai w fp E F (aY (AG 3 false s r)) w) :
  Calls prog 49 (au E [.own 0 0,.fn (.func 52) [] [.own 1 0,.own 2 0]]).toArray w λe w' => ∃ E' F',e=.returned (den E' (.tup []))/\(∀ k∈[0,1,2],E' k=E k)/\ai w fp E' F' (aY (AG 8 (sx s r).1 s (sx s r).2)) w' := by
 refine iA (nt:=29) [] hs ?_ ?_ func49 rfl rfl rfl ?_
 ·simp[pU,jU,AG,FV.keys,SV.keys,ay,aS.keys,aB]
 ·simp
 refine Wp.block ?_;refine Wp.loop (λq:Bool×Rd=>⟨10,bm [(0,.is (.own 0 0)),(1,.is (.fn (.func 52) [] [.own 1 0,.own 2 0]))],aY (AG 3 q.1 s q.2)⟩) (λq=>Lo s q.2/\((q.1=false/\q.2=r)\/(q.1=true/\sx s r=(true,q.2)))) (λq=>s.size-q.2.pl) (false,r) ?_ ⟨hr,.inl ⟨rfl,rfl⟩⟩ ?_
 ·simp only[AG];exact wM (λk=>.key k) rP
 rintro⟨b,r'⟩ ⟨hb,hg⟩;dsimp only at hb hg ⊢;have hb' := hb;obtain⟨⟨n1,n2,n3⟩,n4,n5⟩:=hb;have hle:=jO n4;refine Wp.block ?_;by_cases he:bK s r'.pl<s.size
 ·have hlin:mb s r'.pl=.tuple #[.string (dt s r'.pl),.bool true]:=by rw[mb,if_pos he]
  have hlz:(dt s r'.pl).size=bK s r'.pl-r'.pl:=dF _ _ _ hle.2;obtain⟨q1,q2,q3,q4⟩:=aiO b r' (dt s r'.pl);have hon:b=false->sx s r' = if (fT r' (dt s r'.pl)).1=true then (true,{ (fT r' (dt s r'.pl)).2 with pl:=bK s r'.pl+1 }) else (false,(fT r' (dt s r'.pl)).2):=λ_=>by unfold sx;rw[if_pos he]
  have htk:b=true->mW b r' (dt s r'.pl)=(false,true,r'):=λh=>by unfold mW;rw[if_pos h]
  have htk0:b=false->mW b r' (dt s r'.pl)=((fT r' (dt s r'.pl)).1,(fT r' (dt s r'.pl)).1,(fT r' (dt s r'.pl)).2):=λh=>by unfold mW;rw[if_neg (by simp[h])]
  generalize hl:dt s r'.pl=l at *;cases ht:mW b r' l with
  | mk x q=>
   obtain⟨b2,r2⟩:=q;rw[ht]at q1 q2 q3 q4;simp only at q1 q2 q3 q4;refine wR (IA b s r' l) (aa rP hlin) ?_ ?_
   ·exact⟨dE,n4,oM⟩
   cases x with
   | false=>
    have hres:sx s r=(b2,r2):=by
     rcases hg with ⟨rfl,rfl⟩|⟨rfl,h⟩
     ·have h0:=htk0 rfl;rw[ht]at h0;rw[hon rfl];simp only[Prod.mk.injEq]at h0;rw[if_neg (by rw[<- h0.1];simp),<- h0.2.2,h0.2.1,<- h0.1]
     ·have h0:=htk rfl;rw[ht]at h0;simp only[Prod.mk.injEq]at h0;rw[h,h0.2.1,h0.2.2]
    refine Wp.seq ?_;refine wR (IA b s r' l) (aa rP ht) ?_ ?_
    ·exact⟨dE,⟨hb',oM⟩,ha⟩
    refine wC rP (λhc=>?_) (λhc=>?_)
    ·refine wZ rP ?_;rw[hres];exact wN (λk=>if k=8 then .key 176 else if k=9 then .key 177 else if k=10 then .key 178 else .key k) rP
    ·exact absurd hc sI
   | true=>
    have hbf:b=false:=by
     cases b with
     |false=>rfl
     |true=>have h0:=htk rfl;rw[ht]at h0;cases h0
    have h0:=htk0 hbf;rw[ht]at h0;simp only[Prod.mk.injEq]at h0;obtain⟨h01,h02,h03⟩:=h0;have hb2:b2=true:=by rw[h02,<- h01]
    subst hb2;have hr' : r' = r:=by
     rcases hg with ⟨_,h⟩|⟨h,_⟩
     ·exact h
     ·rw[hbf]at h;cases h
    have hres:sx s r=(true,{ r2 with pl:=bK s r'.pl+1 }):=by
     rw[<- hr',hon hbf,if_pos h01.symm,<- h03]
    have wz:IntKind.i64.wrap ((l.size:Int)+1)=((l.size+1:Nat):Int):=wW;have wa:IntKind.i64.wrap ((r2.pl:Int)+((l.size+1:Nat):Int))=((bK s r'.pl+1:Nat):Int):=wW;refine Wp.seq ?_;refine wR (IA b s r' l) (aa rP ht) ?_ ?_
    ·exact⟨dE,⟨hb',oM⟩,ha⟩
    refine wC rP (λhc=>?_) (λhc=>?_)
    ·exact absurd hc sI
    refine wK ?_;refine vr (IA b s r' l) (bP rP wz wa) ?_;refine⟨(true,{ r2 with pl:=bK s r'.pl+1 }),⟨⟨⟨by dsimp only;omega,by dsimp only;omega,by dsimp only;omega⟩,by dsimp only;omega,n5⟩,.inr ⟨rfl,hres⟩⟩,by dsimp only;omega,?_⟩;simp only[AG]
    exact wM (λk=>if k=3 then .key 176 else if k=4 then .key 177 else if k=5 then .key 178 else .key k) rP
 ·have hlin:mb s r'.pl=.tuple #[.string ⟨#[]⟩,.bool false]:=by rw[mb,if_neg he]
  have hres:sx s r=(b,r'):=by
   rcases hg with ⟨rfl,rfl⟩|⟨rfl,h⟩
   ·unfold sx;rw[if_neg he]
   ·exact h
  refine wR (IA b s r' dJ) (aa rP hlin) ?_ ?_
  ·exact⟨dE,n4,oM⟩
  refine Wp.seq ?_;refine wR (IA b s r' dJ) rP ?_ ?_
  ·exact λh=>by cases h
  refine wC rP (λhc=>?_) (λhc=>?_)
  ·refine wZ rP ?_;rw[hres];exact wN (λk=>if k=8 then .key 3 else if k=9 then .key 4 else if k=10 then .key 5 else .key k) rP
  ·exact absurd hc sI
def Km(s:ByteArray)(r:Rd):mr prog 49 where
 args:=[.own 0 0,.fn (.func 52) [] [.own 1 0,.own 2 0]]
 L:=AG 3 false s r
 val:=.tup []
 L' := AG 8 (sx s r).1 s (sx s r).2
 eg:=[0,1,2]
 pre:=λW bs=>Lo s r/\fP W (Out bs)
 low:=by simp[AG]
 kept:=by simp[AG]
 vk:=by simp[SV.keys,ay]
 lk:=by simp[AG,aS.keys,SV.keys,ay,aB,fresh]
 nd:=by simp[AG]
 enters:=call49
 ok:=by
  intro W w bs fp E F hk hm hs hp;exact TM s r w fp E F hp.1 (hp.2.dU hk hm) hs
def qA(T k:Nat)(p:Pg):List (Nat×aS):=[(k,.row 9 1 p.ty.length ((aE p.ty).map .v)),(k+1,.row 9 1 p.tx.length ((aE p.tx).map .v)),(k+2,.row T 4 p.co.length ((cn p.co).map .v))]
def Mz(k:Nat)(p:Pg):SV:=.agg [.hd k,.hd (k+1),.hd (k+2),.v (.int .i64 p.src),.v (.int .i64 p.vw)]
theorem Lq{W w:World}{fp:List Nat}{E:Nat->Value}{F:Nat->List Nat}{h:Hp}{k:Nat}{T:TypeId}{s n:Nat}{vs:List Value}(hs:ai W fp E F h w)(hk:h k=some (.row T s n (vs.map .v))):∃ ao c,den E (.hd k)=.slice ao n c/\kJ w ao vs:=by
 obtain⟨ao,c,h1,h2,_⟩:=Qo (bs' := []) hs hk (λb _=>by simp);refine⟨ao,c,?_,?_⟩
 ·show hv (E k)=_;rw[h1];rfl
 ·rw[aJ]at h2;exact h2.is
theorem qZ{W w:World}{fp:List Nat}{E:Nat->Value}{F:Nat->List Nat}{h:Hp}{T k:Nat}{p:Pg}(hs:ai W fp E F h w)(h0:h k=some (.row 9 1 p.ty.length ((aE p.ty).map .v)))(h1:h (k+1)=some (.row 9 1 p.tx.length ((aE p.tx).map .v)))(h2:h (k+2)=some (.row T 4 p.co.length ((cn p.co).map .v))) :
  ∃ a1 a2 a3 c1 c2 c3,den E (Mz k p)=prV p a1 a2 a3 c1 c2 c3/\kJ w a1 (aE p.ty)/\kJ w a2 (aE p.tx)/\kJ w a3 (cn p.co):=by
 obtain⟨a1,c1,e1,g1⟩:=Lq hs h0;obtain⟨a2,c2,e2,g2⟩:=Lq hs h1;obtain⟨a3,c3,e3,g3⟩:=Lq hs h2;refine⟨a1,a2,a3,c1,c2,c3,?_,g1,g2,g3⟩;simp only[Mz,den,au]at e1 e2 e3 ⊢;rw[e1,e2,e3]
theorem ahp(T:Nat)(p:Pg):aY (qA T 0 p) 0=some (.row 9 1 p.ty.length ((aE p.ty).map .v)):=rfl
theorem ahv(T:Nat)(p:Pg):aY (qA T 0 p) (0+1)=some (.row 9 1 p.tx.length ((aE p.tx).map .v)):=rfl
theorem ahw(T:Nat)(p:Pg):aY (qA T 0 p) (0+2)=some (.row T 4 p.co.length ((cn p.co).map .v)):=rfl
def LB(p:Pg)(hb:PgB p):mr prog 34 where
 args:=[Mz 0 p]
 L:=qA 50 0 p
 val:=.v (Gc (eX p))
 L' := qA 50 0 p
 eg:=[0,1,2]
 pre:=λW bs=>fR W (Out bs)
 low:=by simp[qA]
 kept:=by simp[qA]
 vk:=by simp[SV.keys]
 lk:=by simp[qA,aS.keys,aB]
 nd:=by simp[qA]
 enters:=call34
 ok:=by
  intro W w bs fp E F hk hm hs hp;obtain⟨a1,a2,a3,c1,c2,c3,he,g1,g2,g3⟩:=qZ hs (ahp 50 p) (ahv 50 p) (ahw 50 p);simp only[au,he];exact (DH p a1 a2 a3 c1 c2 c3 w ⟨hb,g1,g2,g3⟩ (hp.dU hk sI)).mono λe w' ⟨h1,h2⟩=>⟨E,F,h1,λ_ _=>rfl,hs.grow h2⟩
theorem yR(s:ByteArray){tk:Lt}(P:Rd->Prop)(h1:∀ r,P r->bK s r.pl<s.size->(tk r (dt s r.pl)).1=true->P { (tk r (dt s r.pl)).2 with pl:=bK s r.pl+1 })(r:Rd)(h:P r) :
  P (oL tk s r)\/∃ r',P r' /\ bK s r'.pl<s.size/\(tk r' (dt s r'.pl)).1=false/\oL tk s r=(tk r' (dt s r'.pl)).2:=by
 have key:∀ n r,P r->P (j6 tk s n r)\/∃ r',P r' /\ bK s r'.pl<s.size/\(tk r' (dt s r'.pl)).1=false/\j6 tk s n r=(tk r' (dt s r'.pl)).2:=by
  intro n
  induction n with
  |zero=>intro r h;exact .inl h
  | succ n ih=>
   intro r h;rw[j6];by_cases he:bK s r.pl<s.size
   ·rw[if_pos he];by_cases ht:(tk r (dt s r.pl)).1=true
    ·rw[if_pos ht];exact ih _ (h1 r h he ht)
    ·rw[if_neg ht];exact .inr ⟨r,h,he,by simpa using ht,rfl⟩
   ·rw[if_neg he];exact .inl h
 exact key _ r h
def BX(s:ByteArray)(r:Rd):Prop:=Lo s r/\∀ t∈r.ty,t.size<=s.size
theorem JC(s:ByteArray){i:Nat}(hi:i<=s.size):(dt s i).size<=s.size:=by
 have:=jO hi;unfold dt;rw[dF _ _ _ this.2];omega
theorem qb{s:ByteArray}{r r2:Rd}(h:Lo s r)(he:bK s r.pl<s.size)(q:r2.pl=r.pl/\r2.ty.length<=r.ty.length+1/\r2.tx.length<=r.tx.length+1/\r2.co.length<=r.co.length+1):Lo s { r2 with pl:=bK s r.pl+1 }:=by
 obtain⟨⟨n1,n2,n3⟩,n4,n5⟩:=h;have:=jO n4;exact⟨⟨by dsimp only;omega,by dsimp only;omega,by dsimp only;omega⟩,by dsimp only;omega,n5⟩
theorem Pv{s:ByteArray}{r:Rd}(h:BX s r):BX s (oL eY s r):=by
 have key:∀ r,BX s r->bK s r.pl<s.size->(eY r (dt s r.pl)).1=true->BX s { (eY r (dt s r.pl)).2 with pl:=bK s r.pl+1 }:=λr h he ht=>by
  refine⟨qb h.1 he (XO r _),λt ht' => ?_⟩;have ht' : t∈(eY r (dt s r.pl)).2.ty:=ht';unfold eY at ht';split at ht'
  ·rcases List.mem_append.1 ht' with hh|hh
   ·exact h.2 t hh
   ·rw[List.mem_singleton.1 hh];have h1:=O5 (ez (dt s r.pl) cH) AN;have h2:=FH (dt s r.pl) cH;have h3:=JC s h.1.2.1;omega
  ·exact h.2 t ht'
 rcases yR s (tk:=eY) (BX s) key r h with g|⟨r',g,he,ht,e⟩
 ·exact g
 ·rw[e];unfold eY at ht ⊢;split at ht
  ·cases ht
  ·rename_i hn;rw[if_neg hn];exact g
theorem Pj{s:ByteArray}{r:Rd}(h:BX s r):BX s (oL eo s r):=by
 have key:∀ r,BX s r->bK s r.pl<s.size->(eo r (dt s r.pl)).1=true->BX s { (eo r (dt s r.pl)).2 with pl:=bK s r.pl+1 }:=λr h he ht=>by
  refine⟨qb h.1 he (YT r _),λt ht' => ?_⟩;have ht' : t∈(eo r (dt s r.pl)).2.ty:=ht';unfold eo at ht';split at ht' <;> exact h.2 t ht'
 rcases yR s (tk:=eo) (BX s) key r h with g|⟨r',g,he,ht,e⟩
 ·exact g
 ·rw[e];unfold eo at ht ⊢;split at ht
  ·cases ht
  ·rename_i hn;rw[if_neg hn];exact g
theorem ahB{s:ByteArray}{r:Rd}(h:BX s r):BX s (sx s r).2:=by
 obtain⟨q1,q2,q3,q4,_⟩:=FO r (dt s r.pl);unfold sx;split
 ·rename_i he;split
  ·exact⟨qb h.1 he (Zv r _),λt ht=>h.2 t (by rw[<- q1];exact ht)⟩
  ·obtain⟨⟨n1,n2,n3⟩,n4,n5⟩:=h.1;exact⟨⟨⟨by rw[q1,q4];exact n1,by rw[q2,q4];exact n2,by rw[q3,q4];exact n3⟩,by rw[q4];exact n4,n5⟩,λt ht=>h.2 t (by rw[<- q1];exact ht)⟩
 ·exact h
def RdU(s:ByteArray)(r:Rd):Prop:=(r.ty.length<=r.pl+1/\r.tx.length<=r.pl+1/\r.co.length<=r.pl+1)/\r.pl<=s.size/\∀ t∈r.ty,t.size<=s.size
theorem BX.u{s:ByteArray}{r:Rd}(h:BX s r):RdU s r:=by
 obtain⟨⟨⟨n1,n2,n3⟩,n4,n5⟩,h2⟩:=h;exact⟨⟨oM,oM,oM⟩,n4,h2⟩
theorem adT{s:ByteArray}{r:Rd}(h:BX s r):RdU s (oL ia s r):=by
 rcases yR s (tk:=ia) (BX s) (λr h he ht=>⟨qb h.1 he (LP r _),λt ht' => h.2 t ht'⟩) r h with g|⟨r',g,he,ht,e⟩
 ·exact g.u
 ·rw[e];obtain⟨q1,q2,q3,q4⟩:=LP r' (dt s r'.pl);obtain⟨⟨⟨n1,n2,n3⟩,n4,n5⟩,h2⟩:=g;exact⟨⟨oM,oM,oM⟩,oM,λt ht=>h2 t ht⟩
theorem Qd{s:ByteArray}(hs:s.size<=16000000):BX s xS:=⟨⟨⟨Nat.zero_le _,Nat.zero_le _,Nat.zero_le _⟩,Nat.zero_le _,hs⟩,λt ht=>by cases ht⟩
theorem ahA{s:ByteArray}(hs:s.size<=16000000):BX s (Lz s).2:=ahB (Pj (Pv (Qd hs)))
theorem ahW{s:ByteArray}(hs:s.size<=16000000):RdU s (l8 s):=by
 unfold l8;split
 ·exact adT (ahA hs)
 ·exact (ahA hs).u
theorem ahJ{s:ByteArray}(hs:s.size<=16000000):PgB (l8 s).pg:=by
 obtain⟨⟨n1,n2,n3⟩,n4,h2⟩:=ahW hs;exact⟨by show (l8 s).ty.length<=_;omega,by show (l8 s).tx.length<=_;omega,by show (l8 s).co.length<=_;omega,λt ht=>by have:=h2 t ht;omega⟩
section
variable (s:ByteArray)(r:Rd)(p:Pg)(hb:PgB p)
noncomputable def akM:Env prog:=⟨λ| 49=>some ((rR 50 eY zS s r).spec [24,25,26,27])|_=>none,λ_=>none,λ_ _=>none⟩
theorem afY:(akM s r).sp 49=some ((rR 50 eY zS s r).spec [24,25,26,27]):=rfl
noncomputable def alm:Env prog:=⟨λ| 49=>some ((rR 51 eo AQ s r).spec [24,25,26,27])|_=>none,λ_=>none,λ_ _=>none⟩
theorem ahe:(alm s r).sp 49=some ((rR 51 eo AQ s r).spec [24,25,26,27]):=rfl
noncomputable def alA:Env prog:=⟨λ| 49=>some ((rR 54 ia A3 s r).spec [24,25,26,27])|_=>none,λ_=>none,λ_ _=>none⟩
theorem acU:(alA s r).sp 49=some ((rR 54 ia A3 s r).spec [24,25,26,27]):=rfl
noncomputable def akU:Env prog:=⟨λ| 49=>some ((Km s r).spec [24,32,16,25,26,27])|_=>none,λ_=>none,λ_ _=>none⟩
theorem acx:(akU s r).sp 49=some ((Km s r).spec [24,32,16,25,26,27]):=rfl
noncomputable def adk:Env prog:=⟨λ| 34=>some ((LB p hb).spec [25,26,27])|_=>none,λ| 39=>some vJ|_=>none,λ_ _=>none⟩
theorem abz:(adk p hb).sp 34=some ((LB p hb).spec [25,26,27]):=rfl
theorem RH:(adk p hb).eqs 39=some vJ:=rfl
end
theorem QQ(z:Rd):z.pg.ty=z.ty:=rfl
theorem PO(z:Rd):z.pg.tx=z.tx:=rfl
theorem OY(z:Rd):z.pg.co=z.co:=rfl
theorem Fb(z:Rd):z.pg.src=z.src:=rfl
theorem Pk(z:Rd):z.pg.vw=z.vw:=rfl
def om(q:Int×Int×ByteArray):SV:=.agg [.v (.int .i64 q.1),.v (.int .i64 q.2.1),.v (.string q.2.2)]
def eT:=(aj @List.replicate_succ.{0} @List.replicate_zero.{0} @an @ab jk jn gR (aj ck cf b9 b8 ca cc cg (aj cd dc df dh db cY c8 (aj rD sq rV rQ GS HG Hl (aj HX yW yM zA yI Bv Ad (aj yG Bj zK zl yK yS y5 (aj Bb AY AI AO Ar yQ BZ (aj Cf Ce Cb Cg Ck B9 Cj (aj rn FT F7 D2 o5 pY pw (aj pZ pQ p6 pC o4 qf pO (aj o7 qd @aG @al @ax @aw @o8 (aj @qt.eq_1 @gz.eq_1 @gz.eq_2 @fL.eq_1 @fL.eq_2 @fL.eq_3 @fL.eq_4 (aj @fL.eq_5 @fL.eq_6 @fL.eq_7 @fL.eq_8 @jV.eq_1 @jV.eq_2 @eV.eq_1 (aj @eV.eq_2 @gK.eq_1 @gK.eq_2 @gA.eq_1 @gA.eq_2 @gA.eq_3 @rC.eq_1 (aj @mp.eq_1 @fV @gE @fY @ze.eq_1 @AG.eq_1 @qA.eq_1 (aj @Mz.eq_1 @jU.eq_1 @jU.eq_2 @se @Gc.eq_1 @yh.eq_1 @bS.eq_1 (aj @afY @ahe @acU @acx @abz @RH @rR.eq_1 (aa @Km.eq_1 @LB.eq_1))))))))))))))))))
theorem NV(s:ByteArray)(w:World)(fp:List Nat)(E:Nat->Value)(F:Nat->List Nat)(ha:fP w (Out fp))(hs:ai w fp E F (aY []) w)(hz:s.size<=9223372036854775807) :
  Calls prog 20 (au E [.v (.string s)]).toArray w λe w' => ∃ E' F',e=.returned (den E' (.tup [Mz 8 (q8 s).1,om (q8 s).2]))/\(∀ k∈([]:List Nat),E' k=E k)/\ai w fp E' F' (aY (qA 50 8 (q8 s).1)) w' := by
 refine iA (nt:=85) [.cell 2 29,.cell 3 39] hs ?_ ?_ func20 rfl rfl rfl ?_
 ·simp[pU,jU,FV.keys,SV.keys]
 ·simp
 refine vR Γ0 eT ?_;refine Wp.seq ?_;refine vR Γ0 eT ?_;refine wC eT (λhc=>?_) (λhc=>?_)
 ·have h8:8388608<s.size:=by
   simp at hc;omega
  have e:q8 s=(eG,1,0,dJ):=by unfold q8;rw[if_pos h8]
  rw[e];refine vR Γ0 eT ?_;refine wZ eT ?_;exact wN (λk=>.nil) (ml eT @eG.eq_1 @dJ.eq_1 @om.eq_1 @aE.eq_1 @cn.eq_1)
 have h8:¬ 8388608<s.size:=by
  simp at hc;omega
 have hs16:s.size<=16000000:=oM;have t1:=Pv (Qd hs16);have t2:=Pj t1;have t3:=ahB t2;have tU:=ahW hs16;have tB:=ahJ hs16;have ecp:q8 s=if (Lz s).1=false\/(l8 s).pl<s.size then (eG,110,((l8 s).pl:Int),dJ)
  else if (131072<(l8 s).ty.length\/131072<(l8 s).tx.length)\/131072<(l8 s).co.length then (eG,24,0,dJ)
  else if eX (l8 s).pg=(0,0,dJ) then ((l8 s).pg,0,0,dJ) else (eG,eX (l8 s).pg):=by unfold q8;rw[if_neg h8]
 refine wK ?_;refine vR Γ0 eT ?_
 refine Wp.IX (σ' := ⟨60,bm [(0,.is (.v (.string s))),(2,.is (.own 0 0)),(3,.is (.own 8 0)),(4,.is (.own 16 0))],aY [(0,.cells 29 [.v bS,.v bS,.v bS,.v (.int .i64 0),.v (.int .i64 0)]),(8,.cells 39 [.v (.int .i64 0),.v (.int .i64 0),.v (.string ⟨#[]⟩)]),(16,.cells 110 [.own 24 0]),(24,.cells 112 [.hd 25,.hd 26,.hd 27,.v (.int .i64 xS.src),.v (.int .i64 xS.vw),.v (.string s),.v (.int .i64 (xS.pl:Nat))]),(25,.row 9 1 xS.ty.length ((aE xS.ty).map .v)),(26,.row 9 1 xS.tx.length ((aE xS.tx).map .v)),(27,.row 50 4 xS.co.length ((cn xS.co).map .v))]⟩) ?_ ?_
 ·exact wM (λk=>if k=0 then .key 8 else if k=8 then .key 16 else if k=16 then .key 72 else if k=24 then .key 64 else if k=25 then .nil else if k=26 then .nil else if k=27 then .nil else .key k) (ml eT xS @aE.eq_1 @cn.eq_1 @List.flatMap_nil.{0,0} (show ((0:Nat):Int)=0 from rfl))
 refine wR (akM s xS) eT ?_ ?_
 ·exact⟨dE,(Qd hs16).1,ha⟩
 generalize hr1:oL eY s xS=r1 at *
 refine Wp.IX (σ' := ⟨90,bm [(0,.is (.v (.string s))),(2,.is (.own 0 0)),(3,.is (.own 8 0)),(4,.is (.own 16 0))],aY [(0,.cells 29 [.v bS,.v bS,.v bS,.v (.int .i64 0),.v (.int .i64 0)]),(8,.cells 39 [.v (.int .i64 0),.v (.int .i64 0),.v (.string ⟨#[]⟩)]),(16,.cells 110 [.own 24 0]),(24,.cells 112 [.hd 25,.hd 26,.hd 27,.v (.int .i64 r1.src),.v (.int .i64 r1.vw),.v (.string s),.v (.int .i64 (r1.pl:Nat))]),(25,.row 9 1 r1.ty.length ((aE r1.ty).map .v)),(26,.row 9 1 r1.tx.length ((aE r1.tx).map .v)),(27,.row 50 4 r1.co.length ((cn r1.co).map .v))]⟩) ?_ ?_
 ·exact wM (λk=>if k=25 then .key 504 else if k=26 then .key 505 else if k=27 then .key 506 else .key k) eT
 refine wR (alm s r1) eT ?_ ?_
 ·exact⟨dE,t1.1,ha⟩
 generalize hr2:oL eo s r1=r2 at *;refine vR Γ0 eT ?_
 refine Wp.IX (σ' := ⟨120,bm [(0,.is (.v (.string s))),(2,.is (.own 0 0)),(3,.is (.own 8 0)),(4,.is (.own 16 0)),(5,.is (.own 32 0))],aY [(0,.cells 29 [.v bS,.v bS,.v bS,.v (.int .i64 0),.v (.int .i64 0)]),(8,.cells 39 [.v (.int .i64 0),.v (.int .i64 0),.v (.string ⟨#[]⟩)]),(16,.cells 110 [.own 24 0]),(32,.cells 4 [.v (.bool false)]),(24,.cells 112 [.hd 25,.hd 26,.hd 27,.v (.int .i64 r2.src),.v (.int .i64 r2.vw),.v (.string s),.v (.int .i64 (r2.pl:Nat))]),(25,.row 9 1 r2.ty.length ((aE r2.ty).map .v)),(26,.row 9 1 r2.tx.length ((aE r2.tx).map .v)),(27,.row 50 4 r2.co.length ((cn r2.co).map .v))]⟩) ?_ ?_
 ·exact wM (λk=>if k=25 then .key 744 else if k=26 then .key 745 else if k=27 then .key 746 else if k=32 then .key 752 else .key k) eT
 refine wR (akU s r2) eT ?_ ?_
 ·exact⟨dE,t2.1,ha⟩
 have hM:Lz s=sx s r2:=by unfold Lz;rw[hr1,hr2]
 rw[hM]at ecp;generalize hon:sx s r2=q at *;obtain⟨b,r3⟩:=q;simp only at t3 ecp;have hZ:l8 s=if b=true then oL ia s r3 else r3:=by unfold l8;rw[hM]
 refine Wp.IX (σ' := ⟨150,bm [(0,.is (.v (.string s))),(2,.is (.own 0 0)),(3,.is (.own 8 0)),(4,.is (.own 16 0)),(5,.is (.own 32 0))],aY [(0,.cells 29 [.v bS,.v bS,.v bS,.v (.int .i64 0),.v (.int .i64 0)]),(8,.cells 39 [.v (.int .i64 0),.v (.int .i64 0),.v (.string ⟨#[]⟩)]),(16,.cells 110 [.own 24 0]),(32,.cells 4 [.v (.bool b)]),(24,.cells 112 [.hd 25,.hd 26,.hd 27,.v (.int .i64 r3.src),.v (.int .i64 r3.vw),.v (.string s),.v (.int .i64 (r3.pl:Nat))]),(25,.row 9 1 r3.ty.length ((aE r3.ty).map .v)),(26,.row 9 1 r3.tx.length ((aE r3.tx).map .v)),(27,.row 50 4 r3.co.length ((cn r3.co).map .v))]⟩) ?_ ?_
 ·exact wM (λk=>if k=25 then .key 976 else if k=26 then .key 977 else if k=27 then .key 978 else .key k) eT
 refine aV ⟨200,bm [(0,.is (.v (.string s))),(2,.is (.own 0 0)),(3,.is (.own 8 0)),(4,.is (.own 16 0)),(5,.is (.own 32 0))],aY [(0,.cells 29 [.v bS,.v bS,.v bS,.v (.int .i64 0),.v (.int .i64 0)]),(8,.cells 39 [.v (.int .i64 0),.v (.int .i64 0),.v (.string ⟨#[]⟩)]),(16,.cells 110 [.own 24 0]),(32,.cells 4 [.v (.bool b)]),(24,.cells 112 [.hd 25,.hd 26,.hd 27,.v (.int .i64 (l8 s).src),.v (.int .i64 (l8 s).vw),.v (.string s),.v (.int .i64 ((l8 s).pl:Nat))]),(25,.row 9 1 (l8 s).ty.length ((aE (l8 s).ty).map .v)),(26,.row 9 1 (l8 s).tx.length ((aE (l8 s).tx).map .v)),(27,.row 50 4 (l8 s).co.length ((cn (l8 s).co).map .v))]⟩ ?_ ?_
 ·skip;refine vR Γ0 eT ?_;cases b with
  | true=>
   refine wC eT (λhc=>?_) (λhc=>?_)
   ·rw[if_pos rfl]at hZ;rw[hZ];refine wr (alA s r3) eT ?_ ?_
    ·exact⟨dE,t3.1,ha⟩
    exact wM (λk=>if k=25 then .key 1232 else if k=26 then .key 1233 else if k=27 then .key 1234 else .key k) eT
   ·exact absurd hc sI
  |false=>
   refine wC eT (λhc=>?_) (λhc=>?_)
   ·exact absurd hc sI
   rw[if_neg sI]at hZ;rw[hZ];refine wK ?_;exact wM (λk=>.key k) eT
 clear hZ;generalize l8 s=z at *;obtain⟨⟨m1,m2,m3⟩,m4,m5⟩:=tU;refine Wp.seq ?_;refine vR Γ0 eT ?_;refine wC eT (λhc=>?_) (λhc=>?_)
 ·have hbad:b=false\/z.pl<s.size:=by
   cases b with
   |false=>exact .inl rfl
   |true=>
    right;simpa using hc
  rw[if_pos hbad]at ecp;rw[ecp];refine Qw Γ0 eT ?_;refine wZ eT ?_;exact wN (λk=>.nil) (ml eT @eG.eq_1 @dJ.eq_1 @om.eq_1 @aE.eq_1 @cn.eq_1)
 have hgood:¬ (b=false\/z.pl<s.size):=by
  cases b with
  |false=>simp at hc
  |true=>
   simp at hc;rintro (h|h)
   ·cases h
   ·omega
 rw[if_neg hgood]at ecp;clear hc;refine wK ?_;refine Wp.seq ?_;refine lf Γ0 eT ?_ ?_
 ·exact⟨⟨_,rfl⟩,⟨_,rfl⟩,_,rfl⟩
 refine wC eT (λhc=>?_) (λhc=>?_)
 ·have h24:(131072<z.ty.length\/131072<z.tx.length)\/131072<z.co.length:=by
   simp only[decide_eq_true_eq]at hc;split at hc<;>split at hc<;>omega
  rw[if_pos h24]at ecp;rw[ecp];refine vR Γ0 eT ?_;refine wZ eT ?_;exact wN (λk=>.nil) (ml eT @eG.eq_1 @dJ.eq_1 @om.eq_1 @aE.eq_1 @cn.eq_1)
 have h24:¬ ((131072<z.ty.length\/131072<z.tx.length)\/131072<z.co.length):=by
  simp only[decide_eq_false_iff_not]at hc;split at hc<;>split at hc<;>omega
 rw[if_neg h24]at ecp;clear hc;refine wK ?_;refine Wp.seq ?_;refine wR (adk z.pg tB) (ml eT @QQ @PO @OY @Fb @Pk) ?_ ?_
 ·exact⟨dE,ha.1.1⟩
 generalize hrest:eX z.pg=rs at *;obtain⟨c,i,t⟩:=rs;refine vR (adk z.pg tB) eT ?_;refine wC eT (λhc=>?_) (λhc=>?_)
 ·have hne:¬ (c,i,t)=(0,0,dJ):=by
   intro h;simp only[Prod.mk.injEq]at h;obtain⟨rfl,rfl,rfl⟩:=h;simp[dJ]at hc
  rw[if_neg hne]at ecp;rw[ecp];refine Qw Γ0 eT ?_;refine wZ eT ?_;exact wN (λk=>.nil) (ml eT @eG.eq_1 @dJ.eq_1 @om.eq_1 @aE.eq_1 @cn.eq_1)
 ·have heq:(c,i,t)=(0,0,dJ):=by
   simp at hc;obtain⟨⟨rfl,rfl⟩,rfl⟩:=hc;rfl
  rw[if_pos heq]at ecp;rw[ecp];refine wK ?_;refine vR Γ0 eT ?_;refine wZ eT ?_;exact wN (λk=>if k=8 then .key 25 else if k=9 then .key 26 else if k=10 then .key 27 else .key k) (aj eT @dJ.eq_1 @om.eq_1 @QQ @PO @OY @Fb @Pk)
def Ol:aM prog 48 where
 pre:=λW bs as_=>∃ (l:ByteArray) (n:Nat),as_=[.val (.string l),.val (.int .i64 (n:Nat))]/\l.size<=100000000/\n<=9223372036854775807
 res:=λ_ as_=>match as_ with
  |[.val (.string l),.val (.int _ n)]=>riV (yN n.toNat l)
  |_=>undef
 enters:=call48
 ok:=by
  intro W w bs us as_ hk hu hp;obtain⟨s,i,rfl,h1,h2⟩:=hp
  match us,hu with
  |[x,y],hu=>
   obtain⟨rfl,rfl,_⟩:=hu;exact XL s i h1 h2 w
theorem Td(W:World)(bs:List Nat)(l:ByteArray)(n:Nat):Ol.pre W bs [.val (.string l),.val (.int .i64 (n:Nat))]=(l.size<=100000000/\n<=9223372036854775807):=
 propext ⟨λ⟨s',i',h,h2⟩=>by
  simp only[List.cons.injEq,AV.val.injEq,Value.string.injEq,Value.int.injEq,true_and,and_true]at h
  obtain⟨rfl,h⟩:=h
  obtain rfl:n=i' := oM
  exact h2,λh=>⟨l,n,rfl,h⟩⟩
theorem Rm(W:World)(l:ByteArray)(n:Nat):Ol.res W [.val (.string l),.val (.int .i64 (n:Nat))]=riV (yN n l):=by
 show riV (yN ((n:Int)).toNat l)=_;rw[Int.toNat_natCast]
def Ek(p:Pg)(hb:PgB p):mr prog 13 where
 args:=[Mz 0 p]
 L:=qA 85 0 p
 val:=.v (XE (gW p))
 L' := qA 85 0 p
 eg:=[0,1,2]
 pre:=λW bs=>True
 low:=by simp[qA]
 kept:=by simp[qA]
 vk:=by simp[SV.keys]
 lk:=by simp[qA,aS.keys,aB]
 nd:=by simp[qA]
 enters:=call13
 ok:=by
  intro W w bs fp E F hk hm hs hp;obtain⟨a1,a2,a3,c1,c2,c3,he,g1,g2,g3⟩:=qZ hs (ahp 85 p) (ahv 85 p) (ahw 85 p);simp only[au,he];exact (NQ p a1 a2 a3 c1 c2 c3 w ⟨hb,g1,g2,g3⟩).mono λe w' ⟨h1,h2⟩=>⟨E,F,h1,λ_ _=>rfl,hs.grow h2⟩
section
variable (l:ByteArray)(hl:l.size<=100000000)(p:Pg)(hb:PgB p)
noncomputable def rK:Env prog:=⟨λ| 43=>some yf.spec|30=>some u5.spec|45=>some Fo.spec|44=>some Qc.spec|46=>some (vD l hl).spec|47=>some Rl.spec|48=>some Ol.spec|_=>none,λ_=>none,λ_ _=>none⟩
theorem ahg:(rK l hl).sp 43=some yf.spec:=rfl
theorem adi:(rK l hl).sp 30=some u5.spec:=rfl
theorem age:(rK l hl).sp 45=some Fo.spec:=rfl
theorem afX:(rK l hl).sp 44=some Qc.spec:=rfl
theorem afc:(rK l hl).sp 46=some (vD l hl).spec:=rfl
theorem afW:(rK l hl).sp 47=some Rl.spec:=rfl
theorem adS:(rK l hl).sp 48=some Ol.spec:=rfl
noncomputable def alq:Env prog:=⟨λ| 13=>some ((Ek p hb).spec [25,26,27])|_=>none,λ_=>none,λ_ _=>none⟩
theorem aeL:(alq p hb).sp 13=some ((Ek p hb).spec [25,26,27]):=rfl
end
theorem tM{s:ByteArray}{r r2:Rd}(h:BX s r)(he:bK s r.pl<s.size)(q:r2.pl=r.pl/\r2.ty.length<=r.ty.length+1/\r2.tx.length<=r.tx.length+1/\r2.co.length<=r.co.length+1)(ht:∀ t∈r2.ty,t.size<=s.size):BX s { r2 with pl:=bK s r.pl+1 }:=⟨qb h.1 he q,ht⟩
def aO:=(aj @List.replicate_succ.{0} @List.replicate_zero.{0} @an @ab jk jn BG (aj BH BJ gR ck cf b9 b8 (aj ca cc cg cd fu fh fy (aj ft fB dc df dh db cY (aj c8 rD sq rV rQ amF amr (aj ac0 aev adb aex Xt Ws Wd (aj aaH ZB Zi Yc aai Vj JT (aj HR Jf H4 JB JL GL ID (aj I2 uR vz Gp Fv ah6 ajz (aj @aG @al @ax @aw @o8 @qt.eq_1 @gz.eq_1 (aj @gz.eq_2 @fL.eq_1 @fL.eq_2 @fL.eq_3 @fL.eq_4 @fL.eq_5 @fL.eq_6 (aj @fL.eq_7 @fL.eq_8 @jV.eq_1 @jV.eq_2 @eV.eq_1 @eV.eq_2 @gK.eq_1 (aj @gK.eq_2 @gA.eq_1 @gA.eq_2 @gA.eq_3 @rC.eq_1 @mp.eq_1 @fV (aj @gE @fY @qA.eq_1 @Mz.eq_1 @jU.eq_1 @jU.eq_2 @bS.eq_1 (aj @ahg @adi @age @afX @afc @afW @adS (aj @aeL @Ek.eq_1 @vD.eq_1 @xq @v8 @zi @zC (aj @At @y8 @Cp @Dc @Ia @Hd @Rm @Td)))))))))))))))))
theorem Ee(s:ByteArray)(w:World)(fp:List Nat)(E:Nat->Value)(F:Nat->List Nat)(hs:ai w fp E F (aY []) w)(hz:s.size<=9223372036854775807) :
  Calls prog 19 (au E [.v (.string s)]).toArray w λe w' => ∃ E' F',e=.returned (den E' (.tup [Mz 8 (G2 s).1,.v (.int .i64 (G2 s).2.1),.v (.int .i64 (G2 s).2.2.1),.v (.string (G2 s).2.2.2)]))/\(∀ k∈([]:List Nat),E' k=E k)/\ai w fp E' F' (aY (qA 85 8 (G2 s).1)) w' := by
 refine iA (nt:=194) [.cell 2 35,.tmp 3,.tmp 4,.tmp 5] hs ?_ ?_ func19 rfl rfl rfl ?_
 ·simp[pU,jU,FV.keys,SV.keys]
 ·simp
 refine vR Γ0 aO ?_;refine Wp.seq ?_;refine vR Γ0 aO ?_;refine wC aO (λhc=>?_) (λhc=>?_)
 ·have h8:8388608<s.size:=by
   simp at hc;omega
  have e:G2 s=(eG,1,0,dJ):=by unfold G2;rw[if_pos h8]
  rw[e];refine vR Γ0 aO ?_;refine wZ aO ?_;exact wN (λk=>.nil) (oA aO @eG.eq_1 @dJ.eq_1 @aE.eq_1 @cn.eq_1)
 have h8:¬ 8388608<s.size:=by
  simp at hc;omega
 have edp:G2 s=match Gs s s.size 0 xS with
  |.error i=>(eG,110,(i:Int),dJ)
  |.ok (g,r)=>if g<2 then (eG,110,(s.size:Int),dJ)
   else if (gW r.pg).1=0 then (r.pg,0,0,dJ) else (eG,gW r.pg):=by
  unfold G2;rw[if_neg h8];cases Gs s s.size 0 xS<;>rfl
 have hs16:s.size<=16000000:=oM;clear hc;refine wK ?_;refine vR Γ0 aO ?_;refine vR Γ0 aO ?_;refine vR Γ0 aO ?_;refine Wp.seq (Wp.block ?_)
 refine Wp.loop (λp:Nat×Nat×Rd=>⟨60,bm [(0,.is (.v (.string s))),(2,.is (.own 0 0)),(6,.is (.own 8 0)),(7,.is (.v (.int .i64 (p.2.1:Nat)))),(8,.is (.v (.int .i64 (p.2.2.pl:Nat))))],aY [(0,.cells 35 [.v bS,.v bS,.v bS,.v (.int .i64 0),.v (.int .i64 0)]),(8,.cells 35 [.hd 25,.hd 26,.hd 27,.v (.int .i64 p.2.2.src),.v (.int .i64 p.2.2.vw)]),(25,.row 9 1 p.2.2.ty.length ((aE p.2.2.ty).map .v)),(26,.row 9 1 p.2.2.tx.length ((aE p.2.2.tx).map .v)),(27,.row 85 4 p.2.2.co.length ((cn p.2.2.co).map .v))]⟩) (λp=>s.size<=p.2.2.pl+p.1/\BX s p.2.2/\p.2.1<=2/\Gs s p.1 p.2.1 p.2.2=Gs s s.size 0 xS) (λp=>p.1) (s.size,0,xS) ?_ ⟨by dsimp only[xS];omega,Qd hs16,by dsimp only;omega,rfl⟩ ?_
 ·exact wM (λk=>if k=0 then .key 8 else if k=8 then .key 64 else if k=25 then .nil else if k=26 then .nil else if k=27 then .nil else .key k) (ml aO xS @aE.eq_1 @cn.eq_1 @List.flatMap_nil.{0,0} (show ((0:Nat):Int)=0 from rfl))
 rintro⟨n,g,r⟩ ⟨g1,gT,g2,g4⟩;dsimp only at g1 gT g2 g4 ⊢;have gB:=gT;obtain⟨⟨⟨b1,b2,b3⟩,b4,b5⟩,b6⟩:=gB;refine Wp.seq ?_;refine vR Γ0 aO ?_;refine wC aO (λhc=>?_) (λhc=>?_)
 ·have hlt:r.pl<s.size:=by
   simp at hc;omega
  obtain⟨n,rfl⟩:∃ n',n=n' + 1:=⟨n-1,oM⟩;rw[Gs,if_pos hlt]at g4;clear hc;have hel:=jO (Nat.le_of_lt hlt);have hll:=JC s (Nat.le_of_lt hlt);refine wK ?_;refine Wp.block ?_;refine vR Γ0 aO ?_
  refine aV ⟨120,bm [(0,.is (.v (.string s))),(2,.is (.own 0 0)),(6,.is (.own 8 0)),(7,.is (.v (.int .i64 (g:Nat)))),(8,.is (.v (.int .i64 (r.pl:Nat)))),(9,.is (.v (.int .i64 (bK s r.pl:Nat))))],aY [(0,.cells 35 [.v bS,.v bS,.v bS,.v (.int .i64 0),.v (.int .i64 0)]),(8,.cells 35 [.hd 25,.hd 26,.hd 27,.v (.int .i64 r.src),.v (.int .i64 r.vw)]),(25,.row 9 1 r.ty.length ((aE r.ty).map .v)),(26,.row 9 1 r.tx.length ((aE r.tx).map .v)),(27,.row 85 4 r.co.length ((cn r.co).map .v))]⟩ ?_ ?_
  ·skip;refine Wp.block ?_
   refine Wp.loop (λp:Nat×Nat=>⟨100,bm [(0,.is (.v (.string s))),(2,.is (.own 0 0)),(6,.is (.own 8 0)),(7,.is (.v (.int .i64 (g:Nat)))),(8,.is (.v (.int .i64 (r.pl:Nat)))),(9,.is (.v (.int .i64 (p.2:Nat))))],aY [(0,.cells 35 [.v bS,.v bS,.v bS,.v (.int .i64 0),.v (.int .i64 0)]),(8,.cells 35 [.hd 25,.hd 26,.hd 27,.v (.int .i64 r.src),.v (.int .i64 r.vw)]),(25,.row 9 1 r.ty.length ((aE r.ty).map .v)),(26,.row 9 1 r.tx.length ((aE r.tx).map .v)),(27,.row 85 4 r.co.length ((cn r.co).map .v))]⟩) (λp=>p.2+p.1=s.size/\xF s p.1 p.2=bK s r.pl) (λp=>p.1) (s.size-r.pl,r.pl) ?_ ⟨by dsimp only;omega,rfl⟩ ?_
   ·exact wM (λk=>.key k) aO
   rintro⟨m,j⟩ ⟨k1,k2⟩;dsimp only at k1 k2 ⊢;refine Wp.seq ?_;by_cases hj:j<s.size
   ·have e1:decide ((j:Int)<((s.size:Nat):Int))=true:=by simp;omega
    have wj:IntKind.i64.wrap ((j:Int)+1)=((j+1:Nat):Int):=wW;obtain⟨m,rfl⟩:∃ m',m=m' + 1:=⟨m-1,oM⟩;rw[xF]at k2;refine wR Γ0 (aa aO e1) ?_ ?_
    ·omega
    refine wC aO (λhc=>?_) (λhc=>?_)
    ·have hb:¬ bt s (j:Nat)=10:=by simpa using hc
     rw[if_neg hb]at k2;refine wK ?_;refine Wp.block ?_;refine vr Γ0 (aa aO wj) ?_;refine⟨(m,j+1),⟨by dsimp only;omega,k2⟩,by dsimp only;omega,?_⟩;exact wM (λk=>.key k) aO
    have hb:bt s (j:Nat)=10:=by simpa using hc
    rw[if_pos hb]at k2;refine wE ?_;rw[<- k2];exact wM (λk=>.key k) aO
   ·have e1:decide ((j:Int)<((s.size:Nat):Int))=false:=by simp;omega
    have k3:j=bK s r.pl:=by
     rw[<- k2];obtain rfl:m=0:=oM;rfl
    refine wR Γ0 (aa aO e1) ?_ ?_
    ·exact λh=>by cases h
    refine wC aO (λhc=>?_) (λhc=>?_)
    ·exact absurd hc sI
    refine wE ?_;rw[<- k3];exact wM (λk=>.key k) aO
  generalize he:bK s r.pl=e at *;have hln:s.extract r.pl e=dt s r.pl:=by unfold dt;rw[he]
  generalize hL:dt s r.pl=l at *;have hl8:l.size<=100000000:=oM;have wl:IntKind.i64.wrap ((l.size:Int)-1)=(l.size:Int)-1:=ae oM oM;have htb:(⟨#[116,121,112,101,32,47]⟩:ByteArray)=cH:=rfl;have hxb:(⟨#[116,101,120,116,32]⟩:ByteArray)=fQ:=rfl;have hmb:(⟨#[109,97,105,110]⟩:ByteArray)=oN:=rfl
  have hll2:l.size<=16000000:=oM;refine wR Γ0 (aa aO hln) ?_ ?_
  ·omega
  refine vR Γ0 aO ?_;refine Wp.seq ?_;refine wR (rK l hl8) (bP aO wl htb) ?_ ?_
  ·refine⟨λh=>?_,λh=>?_,λh=>?_⟩
   ·simp at h;omega
   ·simp at h;omega
   ·simp at h;rw[dF _ _ _ oM];omega
  have hex:((l.size:Int)-1).toNat=l.size-1:=oM;have hA:((((decide ((g:Int)=0)&&kz l cH)&&decide (6<(l.size:Int)))&&decide (bt l ((l.size:Int)-1)=47))&&uq (l.extract 6 ((l.size:Int)-1).toNat))=(decide (g=0)&&Ip l):=by
   have d6:decide ((6:Int)<(l.size:Int))=decide (6<l.size):=decide_eq_decide.2 oM;rw[Ip,hex,d6];simp[Bool.and_assoc]
  refine wC aO (λhc=>?_) (λhc=>?_)
  ·have hcA:=hc;rw[hA]at hcA;rw[LF,if_pos hcA]at g4;simp only at g4;have h0:g=0/\6<l.size:=by
    simp at hc;omega
   have ha:=mN r.ty (l.extract 6 (l.size-1));have hz1:(r.ty++[l.extract 6 (l.size-1)]).length=r.ty.length+1:=by rw[List.length_append];rfl
   obtain⟨rfl,h6⟩:=h0;clear hc;refine vZ Γ0 (eS aO wl hex ha) ?_ ?_
   ·exact⟨oM,by unfold maxLen;omega,oM⟩
   by_cases he2:e<s.size
   ·rw[if_pos he2]at g4;have de:decide ((e:Int)<((s.size:Nat):Int))=true:=by simp;omega
    have we:IntKind.i64.wrap ((e:Int)+1)=((e+1:Nat):Int):=wW;refine Wp.seq ?_;refine vR Γ0 (aa aO de) ?_;refine wC aO (λhc=>?_) (λhc=>?_)
    ·exact absurd hc sI
    refine wK ?_;refine vr Γ0 (aa aO we) ?_
    have hnx:=tM (r2:={ r with ty:=r.ty++[l.extract 6 (l.size-1)] }) gT (by rw[he];exact he2) ⟨rfl,by dsimp only;first|omega|(rw[List.length_append];exact Nat.le_refl _),by dsimp only;first|omega|(rw[List.length_append];exact Nat.le_refl _),by dsimp only;first|omega|(rw[List.length_append];exact Nat.le_refl _)⟩ (λt ht=>by rcases List.mem_append.1 ht with h|h<;>first|exact b6 t h|(rw[List.mem_singleton.1 h,dF _ _ _ oM];omega))
    rw[he]at hnx;refine⟨(n,0,{ { r with ty:=r.ty++[l.extract 6 (l.size-1)] } with pl:=e+1 }),⟨by dsimp only;omega,hnx,by dsimp only;omega,g4⟩,by dsimp only;omega,?_⟩;exact wM (λk=>if k=25 then .key 1320 else .key k) (aa aO hz1)
   ·rw[if_neg he2]at g4;have de:decide ((e:Int)<((s.size:Nat):Int))=false:=by simp;omega
    rw[<- g4]at edp;simp only at edp;rw[edp];refine Wp.seq ?_;refine vR Γ0 (aa aO de) ?_;refine wC aO (λhc=>?_) (λhc=>?_)
    ·skip;refine vR Γ0 aO ?_;refine wZ aO ?_;exact wN (λk=>.nil) (oA aO @eG.eq_1 @dJ.eq_1 @aE.eq_1 @cn.eq_1)
    ·exact absurd hc sI
  have hcA:=hc;rw[hA]at hcA;rw[LF,if_neg (by rw[hcA];simp)]at g4;clear hc;refine wR (rK l hl8) aO ?_ ?_
  ·have hza:(oO l).size<=l.size:=by
    unfold oO;split
    ·exact Nat.zero_le _
    ·rw[dF _ _ _ (Nat.le_refl _)];omega
   omega
  refine vR (rK l hl8) (aa aO hxb) ?_;have hB:((decide ((g:Int)<=1)&&kz l fQ)&&(jr (oO l)).2)=(decide (g<=1)&&Jb l):=by
   rw[Jb,<- Bool.and_assoc]
   congr 2
   simp;omega
  refine wC aO (λhc=>?_) (λhc=>?_)
  ·have hcB:=hc;rw[hB]at hcB;rw[if_pos hcB]at g4;simp only at g4;have ha:=mN r.tx (jr (oO l)).1;have hz1:(r.tx++[(jr (oO l)).1]).length=r.tx.length+1:=by rw[List.length_append];rfl
   clear hc;refine vR Γ0 aO ?_;refine wr Γ0 (aa aO ha) ?_ ?_
   ·exact⟨by unfold maxLen;omega,oM⟩
   by_cases he2:e<s.size
   ·rw[if_pos he2]at g4;have de:decide ((e:Int)<((s.size:Nat):Int))=true:=by simp;omega
    have we:IntKind.i64.wrap ((e:Int)+1)=((e+1:Nat):Int):=wW;refine Wp.seq ?_;refine vR Γ0 (aa aO de) ?_;refine wC aO (λhc=>?_) (λhc=>?_)
    ·exact absurd hc sI
    refine wK ?_;refine vr Γ0 (aa aO we) ?_
    have hnx:=tM (r2:={ r with tx:=r.tx++[(jr (oO l)).1] }) gT (by rw[he];exact he2) ⟨rfl,by dsimp only;first|omega|(rw[List.length_append];exact Nat.le_refl _),by dsimp only;first|omega|(rw[List.length_append];exact Nat.le_refl _),by dsimp only;first|omega|(rw[List.length_append];exact Nat.le_refl _)⟩ b6
    rw[he]at hnx;refine⟨(n,1,{ { r with tx:=r.tx++[(jr (oO l)).1] } with pl:=e+1 }),⟨by dsimp only;omega,hnx,by dsimp only;omega,g4⟩,by dsimp only;omega,?_⟩;exact wM (λk=>if k=26 then .key 1432 else .key k) (bP aO hz1 (show ((1:Nat):Int)=1 from rfl))
   ·rw[if_neg he2]at g4;have de:decide ((e:Int)<((s.size:Nat):Int))=false:=by simp;omega
    rw[<- g4]at edp;simp only at edp;rw[edp];refine Wp.seq ?_;refine vR Γ0 (aa aO de) ?_;refine wC aO (λhc=>?_) (λhc=>?_)
    ·skip;refine vR Γ0 aO ?_;refine wZ aO ?_;exact wN (λk=>.nil) (oA aO @eG.eq_1 @dJ.eq_1 @aE.eq_1 @cn.eq_1)
    ·exact absurd hc sI
  have hcB:=hc;rw[hB]at hcB;rw[if_neg (by rw[hcB];simp)]at g4;clear hc;have hln1:1<=(gQ l).length:=by rw[<- nQ,lC];omega
  rcases hp:gQ l with _|⟨a,t⟩
  ·rw[hp]at hln1;simp at hln1
  have hrow:aE (a::t)=.string a::aE t:=rfl;refine vR (rK l hl8) (aa aO hp) ?_;refine wR Γ0 (bP aO hrow hmb) ?_ ?_
  ·exact⟨λ_=>⟨_,rfl⟩,λ_=>by omega,λ_=>by omega⟩
  refine wC aO (λhc=>?_) (λhc=>?_)
  ·have hm:g<=1/\t.length=2/\a=oN:=by
    simp only[Bool.and_eq_true,decide_eq_true_eq]at hc;exact⟨oM,oM,hc.2⟩
   obtain⟨hg1,ht2,rfl⟩:=hm;obtain⟨b,c,rfl⟩:∃ b c,t=[b,c]:=by
    match t,ht2 with
    |[b,c],_=>exact⟨b,c,rfl⟩
   have hrm:uC l=some (b,c):=by unfold uC;rw[hp];simp
   rw[hrm,if_pos (by simp;omega)]at g4;simp only at g4;clear hc;refine wR (rK l hl8) (bP aO hrow @aE.eq_1) ?_ ?_
   ·decide
   refine wR (rK l hl8) (bP aO hrow @aE.eq_1) ?_ ?_
   ·decide
   refine vR Γ0 aO ?_;refine vR Γ0 aO ?_;refine vr Γ0 aO ?_;by_cases hok:(bR b&&bR c)=true
   ·have hb1:bR b=true/\bR c=true:=by simpa using hok
    rw[if_pos hok]at g4;simp only at g4;by_cases he2:e<s.size
    ·rw[if_pos he2]at g4;have de:decide ((e:Int)<((s.size:Nat):Int))=true:=by simp;omega
     have we:IntKind.i64.wrap ((e:Int)+1)=((e+1:Nat):Int):=wW;refine Wp.seq ?_;refine vR Γ0 (eS aO de hb1.1 hb1.2) ?_;refine wC aO (λhc=>?_) (λhc=>?_)
     ·exact absurd hc sI
     refine wK ?_;refine vr Γ0 (aa aO we) ?_
     have hnx:=tM (r2:={ r with src:=iK b,vw:=iK c }) gT (by rw[he];exact he2) ⟨rfl,by dsimp only;first|omega|(rw[List.length_append];exact Nat.le_refl _),by dsimp only;first|omega|(rw[List.length_append];exact Nat.le_refl _),by dsimp only;first|omega|(rw[List.length_append];exact Nat.le_refl _)⟩ b6
     rw[he]at hnx;refine⟨(n,2,{ { r with src:=iK b,vw:=iK c } with pl:=e+1 }),⟨by dsimp only;omega,hnx,by dsimp only;omega,g4⟩,by dsimp only;omega,?_⟩;exact wM (λk=>.key k) (aa aO (show ((2:Nat):Int)=2 from rfl))
    ·rw[if_neg he2]at g4;have de:decide ((e:Int)<((s.size:Nat):Int))=false:=by simp;omega
     rw[<- g4]at edp;simp only at edp;rw[edp];refine Wp.seq ?_;refine vR Γ0 (eS aO de hb1.1 hb1.2) ?_;refine wC aO (λhc=>?_) (λhc=>?_)
     ·skip;refine vR Γ0 aO ?_;refine wZ aO ?_;exact wN (λk=>.nil) (oA aO @eG.eq_1 @dJ.eq_1 @aE.eq_1 @cn.eq_1)
     ·exact absurd hc sI
   ·have hb1:∀ x,((x&&bR b)&&bR c)=false:=λx=>by
     rw[Bool.and_assoc,eq_false_of_ne_true hok,Bool.and_false]
    rw[if_neg hok]at g4;rw[<- g4]at edp;simp only at edp;rw[edp];refine Wp.seq ?_;refine vR Γ0 (aa aO hb1) ?_;refine wC aO (λhc=>?_) (λhc=>?_)
    ·skip;refine vR Γ0 aO ?_;refine wZ aO ?_;exact wN (λk=>.nil) (oA aO @eG.eq_1 @dJ.eq_1 @aE.eq_1 @cn.eq_1)
    ·exact absurd hc sI
  have hC:¬ (decide (g<=1)&&(uC l).isSome)=true:=by
   intro h;simp only[Bool.and_eq_true,decide_eq_true_eq]at h;obtain⟨h1,h2⟩:=h;unfold uC at h2;rw[hp]at h2;rcases t with _|⟨b,_|⟨c,_|⟨d,t⟩⟩⟩
   ·cases h2
   ·cases h2
   ·simp only at h2;split at h2
    ·rename_i ha;subst ha;simp at hc;omega
    ·cases h2
   ·cases h2
  rw[if_neg hC]at g4;clear hc hC;cases hx:yN r.co.length l with
  | none=>
   rw[hx]at g4;simp only[ite_self]at g4;refine wR (rK l hl8) (eS aO hx @riV.eq_1 @riV.eq_2) ?_ ?_
   ·exact⟨⟨_,rfl⟩,hl8,oM⟩
   refine vR Γ0 aO ?_;refine wC aO (λhc=>?_) (λhc=>?_)
   ·exact absurd hc sI
   refine vr Γ0 aO ?_;rw[<- g4]at edp;simp only at edp;rw[edp];refine Wp.seq ?_;refine vR Γ0 aO ?_;refine wC aO (λhc=>?_) (λhc=>?_)
   ·skip;refine vR Γ0 aO ?_;refine wZ aO ?_;exact wN (λk=>.nil) (oA aO @eG.eq_1 @dJ.eq_1 @aE.eq_1 @cn.eq_1)
   ·exact absurd hc sI
  | some x=>
   obtain⟨xo,xk,xa,xb⟩:=x;rw[hx]at g4;refine wR (rK l hl8) (eS aO hx @riV.eq_1 @riV.eq_2) ?_ ?_
   ·exact⟨⟨_,rfl⟩,hl8,oM⟩
   by_cases hg2:g=2
   ·subst hg2;rw[if_pos rfl]at g4;simp only at g4;have ha:=JO r.co xo xk xa xb;have hz1:(r.co++[(xo,xk,xa,xb)]).length=r.co.length+1:=by rw[List.length_append];rfl
    refine vR Γ0 aO ?_;refine wC aO (λhc=>?_) (λhc=>?_)
    ·skip;refine wr Γ0 (aa aO ha) ?_ ?_
     ·exact⟨by unfold maxLen;omega,oM⟩
     by_cases he2:e<s.size
     ·rw[if_pos he2]at g4;have de:decide ((e:Int)<((s.size:Nat):Int))=true:=by simp;omega
      have we:IntKind.i64.wrap ((e:Int)+1)=((e+1:Nat):Int):=wW;refine Wp.seq ?_;refine vR Γ0 (aa aO de) ?_;refine wC aO (λhc=>?_) (λhc=>?_)
      ·exact absurd hc sI
      refine wK ?_;refine vr Γ0 (aa aO we) ?_
      have hnx:=tM (r2:={ r with co:=r.co++[(xo,xk,xa,xb)] }) gT (by rw[he];exact he2) ⟨rfl,by dsimp only;first|omega|(rw[List.length_append];exact Nat.le_refl _),by dsimp only;first|omega|(rw[List.length_append];exact Nat.le_refl _),by dsimp only;first|omega|(rw[List.length_append];exact Nat.le_refl _)⟩ b6
      rw[he]at hnx;refine⟨(n,2,{ { r with co:=r.co++[(xo,xk,xa,xb)] } with pl:=e+1 }),⟨by dsimp only;omega,hnx,by dsimp only;omega,g4⟩,by dsimp only;omega,?_⟩;exact wM (λk=>if k=27 then .key 1680 else .key k) (aa aO hz1)
     ·rw[if_neg he2]at g4;have de:decide ((e:Int)<((s.size:Nat):Int))=false:=by simp;omega
      rw[<- g4]at edp;simp only at edp;rw[edp];refine Wp.seq ?_;refine vR Γ0 (aa aO de) ?_;refine wC aO (λhc=>?_) (λhc=>?_)
      ·skip;refine vR Γ0 aO ?_;refine wZ aO ?_;exact wN (λk=>.nil) (oA aO @eG.eq_1 @dJ.eq_1 @aE.eq_1 @cn.eq_1)
      ·exact absurd hc sI
    ·exact absurd hc sI
   ·rw[if_neg hg2]at g4;have dg:decide ((g:Int)=2)=false:=by simp;omega
    refine vR Γ0 (aa aO dg) ?_;refine wC aO (λhc=>?_) (λhc=>?_)
    ·exact absurd hc sI
    refine vr Γ0 aO ?_;rw[<- g4]at edp;simp only at edp;rw[edp];refine Wp.seq ?_;refine vR Γ0 aO ?_;refine wC aO (λhc=>?_) (λhc=>?_)
    ·skip;refine vR Γ0 aO ?_;refine wZ aO ?_;exact wN (λk=>.nil) (oA aO @eG.eq_1 @dJ.eq_1 @aE.eq_1 @cn.eq_1)
    ·exact absurd hc sI
 ·have hge:s.size<=r.pl:=by
   simp at hc;omega
  have hv:Gs s s.size 0 xS=.ok (g,r):=by
   rw[<- g4];cases n with
   |zero=>rfl
   |succ n=>rw[Gs,if_neg oM]
  rw[hv]at edp;simp only at edp;have tB:PgB r.pg:=⟨by show r.ty.length<=_;omega,by show r.tx.length<=_;omega,by show r.co.length<=_;omega,λt ht=>by have:=b6 t ht;omega⟩;clear hc;refine wE ?_;refine Wp.seq ?_;refine vR Γ0 aO ?_;refine wC aO (λhc=>?_) (λhc=>?_)
  ·have h2:g<2:=by
    simp at hc;omega
   rw[if_pos h2]at edp;rw[edp];refine vR Γ0 aO ?_;refine wZ aO ?_;exact wN (λk=>.nil) (oA aO @eG.eq_1 @dJ.eq_1 @aE.eq_1 @cn.eq_1)
  have h2:¬ g<2:=by
   simp at hc;omega
  rw[if_neg h2]at edp;clear hc;refine wK ?_;refine wR (alq r.pg tB) (ur aO @QQ @PO @OY @Fb @Pk @XE.eq_1) ?_ ?_
  ·decide
  generalize hck:gW r.pg=q at *;obtain⟨c,i,t⟩:=q;dsimp only at edp;refine Wp.seq ?_;refine vR Γ0 aO ?_;refine wC aO (λhc=>?_) (λhc=>?_)
  ·have hne:¬ c=0:=by simpa using hc
   rw[if_neg hne]at edp;rw[edp];refine vR Γ0 aO ?_;refine wZ aO ?_;exact wN (λk=>.nil) (oA aO @eG.eq_1 @dJ.eq_1 @aE.eq_1 @cn.eq_1)
  have heq:c=0:=by simpa using hc
  rw[if_pos heq]at edp;rw[edp];refine wK ?_;refine vR Γ0 aO ?_;refine wZ aO ?_;exact wN (λk=>if k=8 then .key 25 else if k=9 then .key 26 else if k=10 then .key 27 else .key k) (ur aO @dJ.eq_1 @QQ @PO @OY @Fb @Pk)
def sJ:=(aj @List.replicate_succ.{0} @List.replicate_zero.{0} @an @ab jk jn gR (aj ck cf b9 b8 ca cc cg (aj cd dc df dh db cY c8 (aj rD sq rV rQ GS HG Hl (aj HX yW yM zA yI Bv Ad (aj yG Bj zK ac0 aev adb aex (aj Xt Ws Wd aaH ZB Zi Yc (aj aai Vj BZ Cf Ce Cb Cg (aj Ck B9 Cj rn JT HR Jf (aj H4 JB JL GL ID I2 @aG (bP @al @ax @aw)))))))))))
theorem Q4(l:List ByteArray)(a b:Option Addr)(c d:Nat)(hl:l.length<=140737488351232)(w:World)(ha:kJ w a (aE l))(hb:kJ w b (aE l)):Calls prog 35 #[.slice a l.length c,.slice b l.length d] w λe w' => e=.returned (.bool true)/\ah w [] w' := by
 refine af (nt:=26) [.tmp 4] func35 rfl rfl rfl ?_;refine vR Γ0 sJ ?_;refine Wp.seq ?_;refine vR Γ0 sJ ?_;refine wC sJ (λhc=>?_) (λhc=>?_)
 ·exact absurd hc sI
 refine wK ?_;refine Wp.seq ?_;refine vR Γ0 sJ ?_;refine Wp.block ?_;refine Wp.loop (λk:Nat=>⟨20,bm [(0,.is (.v (.slice a l.length c))),(1,.is (.v (.slice b l.length d))),(5,.is (.v (.int .i64 (k:Nat))))],aY []⟩) (λk=>k<=l.length) (λk=>l.length-k) 0 ?_ (Nat.zero_le _) ?_
 ·exact wM (λk=>.key k) sJ
 intro k hk;refine Wp.seq ?_;refine vR Γ0 sJ ?_;refine wC sJ (λhc=>?_) (λhc=>?_)
 ·have hlt:k<l.length:=by
   simp at hc;omega
  have wk:IntKind.i64.wrap ((k:Int)+1)=((k+1:Nat):Int):=wW;obtain⟨b1,o1,rfl,hx⟩:=nh ha hlt;obtain⟨b2,o2,rfl,hy⟩:=nh hb hlt;refine wK ?_;refine Wp.seq (Wp.block ?_);refine lf Γ0 (bP sJ hx hy) ?_ ?_
  ·omega
  refine wC sJ (λhc=>?_) (λhc=>?_)
  ·exact absurd hc sI
  refine wK ?_;refine vr Γ0 (aa sJ wk) ?_;refine⟨k+1,oM,oM,?_⟩;exact wM (λk=>.key k) sJ
 ·refine wE ?_;refine vR Γ0 sJ ?_;refine wZ sJ ?_;exact λE=>rfl
def Mu:aM prog 35 where
 pre:=λW bs as_=>∃ (l:List ByteArray) (a b:Option Addr) (c d:Nat),as_=[.val (.slice a l.length c),.val (.slice b l.length d)]/\l.length<=140737488351232/\gO W (Out bs) a (aE l)/\gO W (Out bs) b (aE l)
 res:=λ_ _=>.bool true
 enters:=call35
 ok:=by
  intro W w bs us as_ hk hu hp;obtain⟨l,a,b,c,d,rfl,hl,h1,h2⟩:=hp
  match us,hu with
  |[x,y],hu=>
   obtain⟨rfl,rfl,_⟩:=hu;exact Q4 l a b c d hl w (gH h1 hk) (gH h2 hk)
theorem N0(W:World)(l:List AV):Mu.res W l=.bool true:=rfl
noncomputable def Γ94:Env prog:=⟨λ| 35=>some Mu.spec|_=>none,λ| _=>none,λ_ _=>none⟩
theorem air:Γ94.sp 35=some Mu.spec:=rfl
def tQ:=(bP sJ air @N0)
theorem WG(p:Pg)(a1 a2 a3 b1 b2 b3:Option Addr)(c1 c2 c3 d1 d2 d3:Nat)(w:World)(hp:Ci p w a1 a2 a3)(hd:Ci p w b1 b2 b3):Calls prog 16 #[prV p a1 a2 a3 c1 c2 c3,prV p b1 b2 b3 d1 d2 d3] w λe w' => e=.returned (.bool true)/\ah w [] w' := by
 have h3:=hp.l3;have hx:=hp.x;have hy:=hd.x;refine af (nt:=88) [.tmp 4] func16 rfl rfl rfl ?_;refine vR Γ94 tQ ?_;refine Wp.seq ?_;refine wR Γ94 tQ ?_ ?_
 ·exact⟨⟨p.ty,_,_,_,_,rfl,hp.l1,hx.1,hy.1⟩,⟨p.tx,_,_,_,_,rfl,hp.l2,hx.2.1,hy.2.1⟩,⟨_,rfl⟩,_,rfl⟩
 refine wC tQ (λhc=>?_) (λhc=>?_)
 ·exact absurd hc sI
 refine wK ?_;refine Wp.seq ?_;refine vR Γ94 tQ ?_;refine Wp.block ?_
 refine Wp.loop (λk:Nat=>⟨90,bm [(2,.is (.own 0 0)),(3,.is (.own 8 0)),(5,.is (.v (.int .i64 (k:Nat))))],aY [(0,.cells 29 [.v (.slice a1 p.ty.length c1),.v (.slice a2 p.tx.length c2),.v (.slice a3 p.co.length c3),.v (.int .i64 p.src),.v (.int .i64 p.vw)]),(8,.cells 35 [.v (.slice b1 p.ty.length d1),.v (.slice b2 p.tx.length d2),.v (.slice b3 p.co.length d3),.v (.int .i64 p.src),.v (.int .i64 p.vw)])]⟩) (λk=>k<=p.co.length) (λk=>p.co.length-k) 0 ?_ (Nat.zero_le _) ?_
 ·exact wM (λk=>.key k) tQ
 intro k hk;refine Wp.seq ?_;refine vR Γ94 tQ ?_;refine wC tQ (λhc=>?_) (λhc=>?_)
 ·have hlt:k<p.co.length:=by
   simp at hc;omega
  have wk:IntKind.i64.wrap ((k:Int)+1)=((k+1:Nat):Int):=wW;obtain⟨b,o,rfl,x1,x2,x3,x4⟩:=pq hp.co hlt;obtain⟨b',o',rfl,y1,y2,y3,y4⟩:=pq hd.co hlt;generalize p.co[k]=x at *;refine wK ?_;refine Wp.seq (Wp.block ?_);refine lf Γ94 (aj tQ x1 x2 x3 x4 y1 y2 (aa y3 y4)) ?_ ?_
  ·omega
  refine vR Γ94 tQ ?_;refine wC tQ (λhc=>?_) (λhc=>?_)
  ·exact absurd hc sI
  refine wK ?_;refine vr Γ94 (aa tQ wk) ?_;refine⟨k+1,oM,oM,?_⟩;exact wM (λk=>.key k) tQ
 ·refine wE ?_;refine vR Γ94 tQ ?_;refine wZ tQ ?_;exact λE=>rfl
def afu:aM prog 40 where
 pre:=λW bs as_=>(∃ n op k a b:Int,as_=[.val (.int .i64 n),.val (inV op k a b)]/\0<=n/\n<=9223372036854775807/\wo op k a b)/\fR W (Out bs)/\fC W (Out bs)
 res:=λ_ as_=>match as_ with
  |[.val (.int _ n),.val (.agg ins)]=>(match ins.toList with
   |[.int _ op,.int _ k,.int _ a,.int _ b]=>.string (rj n op k a b)
   |_=>undef)
  |_=>undef
 enters:=call40
 ok:=by
  intro W w bs us as_ hk hu hp;obtain⟨⟨n,op,k,a,b,rfl,h0,h1,hi⟩,hg,ht⟩:=hp
  match us,hu with
  |[x,y],hu=>
   obtain⟨rfl,rfl,_⟩:=hu;exact Vg n op k a b h0 h1 hi w (hg.dU hk sI) (ht.dU hk sI)
section
variable (W:World)(bs:List Nat)(n op k a b:Int)
theorem ZN:afu.pre W bs [.val (.int .i64 n),.val (.agg #[.int .i64 op,.int .i64 k,.int .i64 a,.int .i64 b])]=((0<=n/\n<=9223372036854775807/\wo op k a b)/\fR W (Out bs)/\fC W (Out bs)):=
 propext ⟨λ⟨⟨n',op',k',a',b',h,h0,h1,hi⟩,h2⟩=>by
  cases h
  exact⟨⟨h0,h1,hi⟩,h2⟩,λh=>⟨⟨n,op,k,a,b,rfl,h.1⟩,h.2⟩⟩
theorem aaD:afu.res W [.val (.int .i64 n),.val (.agg #[.int .i64 op,.int .i64 k,.int .i64 a,.int .i64 b])]=.string (rj n op k a b):=rfl
end
theorem QW(W:World)(bs:List Nat)(κ:Nat)(h:Hp)(l:List SV):Mi.ev W bs κ h l=Vv h l:=rfl
theorem Tm(W:World)(bs:List Nat)(κ:Nat)(h:Hp)(l:List SV):Ll.ev W bs κ h l=V3 h l:=rfl
section
variable (p:Pg)(a1 a2 a3:Option Addr)(c1 c2 c3:Nat)(hb:PgB p)
noncomputable def tT:Env prog:=⟨λ| 15=>some (qS p a1 a2 a3 c1 c2 c3 hb).spec|36=>some Mi|38=>some FA.spec|39=>some w5.spec|40=>some afu.spec|41=>some Ll|_=>none,λ| 39=>some vJ|_=>none,λ_ _=>none⟩
theorem ajT:(tT p a1 a2 a3 c1 c2 c3 hb).sp 15=some (qS p a1 a2 a3 c1 c2 c3 hb).spec:=rfl
theorem ajJ:(tT p a1 a2 a3 c1 c2 c3 hb).sp 36=some Mi:=rfl
theorem ai8:(tT p a1 a2 a3 c1 c2 c3 hb).sp 38=some FA.spec:=rfl
theorem akf:(tT p a1 a2 a3 c1 c2 c3 hb).sp 39=some w5.spec:=rfl
theorem ajs:(tT p a1 a2 a3 c1 c2 c3 hb).sp 40=some afu.spec:=rfl
theorem ajA:(tT p a1 a2 a3 c1 c2 c3 hb).sp 41=some Ll:=rfl
theorem ZV:(tT p a1 a2 a3 c1 c2 c3 hb).eqs 39=some vJ:=rfl
end
def gr:=(aj @List.replicate_succ.{0} @List.replicate_zero.{0} @an @ab jk jn gR (aj ck cf b9 b8 ca cc cg (aj cd dc df dh db cY c8 (aj rD sq rV rQ GS HG Hl (aj HX yW yM zA yI Bv Ad (aj yG Bj zK zl yK yS y5 (aj Bb AY AI AO Ar yQ BZ (aj Cf Ce Cb Cg Ck B9 Cj (aj rn alZ akN akJ alR alP alH (aj al4 ak6 alx @aG @al @ax @aw (aj @se @Gc.eq_1 @yh.eq_1 @ajT @ajJ @ai8 @akf (aj @ajs @ajA @ZV @qS.eq_1 @KD @Kw @qT (aj @qR @ZN @aaD @QW @Tm @mL @ud (eS @XU @yY @nc @sQ))))))))))))))
theorem N8(p:Pg)(a1 a2 a3:Option Addr)(c1 c2 c3:Nat)(w:World)(hp:Ci p w a1 a2 a3)(hz:PgZ p)(hg:fR w (Out []))(he:bB w (Out []))(ht:fC w (Out [])) :
  Calls prog 17 #[prV p a1 a2 a3 c1 c2 c3] w λe w' => e=.returned (.string (Ii p))/\LE.ah w [] w' := by
 have hx:=hp.x;have hb:=hz.b;refine af (nt:=68) [.tmp 2] func17 rfl rfl rfl ?_;refine vR (tT p a1 a2 a3 c1 c2 c3 hb) gr ?_;refine Wp.seq ?_;refine wR (tT p a1 a2 a3 c1 c2 c3 hb) gr ?_ ?_
 ·exact⟨hx,hg,he⟩
 refine wC gr (λhc=>?_) (λhc=>?_)
 ·have h:¬ gW p=(0,0,⟨#[]⟩):=by
   intro h;rw[h]at hc;simp at hc
  have e:Ii p=⟨#[]⟩:=by rw[Ii,if_neg h]
  rw[e];refine vR (tT p a1 a2 a3 c1 c2 c3 hb) gr ?_;refine wZ gr ?_;exact λE=>rfl
 have h:gW p=(0,0,⟨#[]⟩):=by
  simp at hc;exact Prod.ext hc.1.1 (Prod.ext hc.1.2 hc.2)
 have e:Ii p=ahN p:=by rw[Ii,if_pos h]
 rw[e];obtain⟨_,hs,_⟩:=Ue (congrArg Prod.fst h);have l1:=hz.l1;have l2:=hz.l2;have l3:=hz.l3;refine wK ?_;refine vR (tT p a1 a2 a3 c1 c2 c3 hb) gr ?_;refine vR (tT p a1 a2 a3 c1 c2 c3 hb) gr ?_;refine Wp.seq ?_;refine vR (tT p a1 a2 a3 c1 c2 c3 hb) gr ?_
 refine Wp.IX (Le.conv (k:=48) (e' := .obj [.string ⟨#[]⟩] n8) (by simp only[WH,if_true];rfl) (λE u fp w' h=>?_) (λj hj=>by cases hj)) ?_
 ·have:=BF (yY 91) rfl h;refine⟨⟨this,?_⟩,λw'' hl=>this.local hl⟩;obtain⟨_,b,_,_,_,hu,_⟩:=this;rw[hu];rfl
 refine Wp.block ?_
 refine Wp.loop (λk:Nat=>⟨40,bm [(1,.is (.own 0 0)),(3,.is (.own 48 0)),(4,.is (.fn (.func 36) [] [.own 48 0])),(17,.is (.v (.slice a1 p.ty.length c1))),(18,.is (.v (.int .i64 p.ty.length))),(19,.is (.v (.int .i64 (k:Nat))))],aY [(0,.cells 29 [.v (.slice a1 p.ty.length c1),.v (.slice a2 p.tx.length c2),.v (.slice a3 p.co.length c3),.v (.int .i64 p.src),.v (.int .i64 p.vw)]),(48,.obj [.string (zN (zJ p k))] n8)]⟩) (λk=>k<=p.ty.length) (λk=>p.ty.length-k) 0 ?_ (Nat.zero_le _) ?_
 ·exact wM (λk=>.key k) (aa gr (show zN (zJ p 0)=⟨#[]⟩ from rfl))
 rintro k hk;refine vR (tT p a1 a2 a3 c1 c2 c3 hb) gr ?_;refine Wp.seq ?_;refine wC gr (λhc=>?_) (λhc=>?_)
 ·have hlt:k<p.ty.length:=by
   simp at hc;omega
  have wk:IntKind.i64.wrap ((k:Int)+1)=((k+1:Nat):Int):=wW;obtain⟨b,o,hao,x1⟩:=nh hp.ty hlt;have hsn:=Rs hlt;have hcat:=yk (OT hz k) (by rw[It hk];omega);have hst:(⟨#[116,121,112,101,32,47]⟩++p.ty[k]++⟨#[47]⟩:ByteArray).size=p.ty[k].size+7:=JG p.ty[k];have hs1:=hz.z1 _ (List.getElem_mem hlt)
  have z6:(⟨#[116,121,112,101,32,47]⟩:ByteArray).size=6:=rfl;have z1:(⟨#[47]⟩:ByteArray).size=1:=rfl;have e1:=qY (zJ p k) (tyL p.ty[k]);rw[<- hsn]at e1;have e2:tyL p.ty[k]=⟨#[116,121,112,101,32,47]⟩++p.ty[k]++⟨#[47]⟩:=rfl;generalize p.ty[k]=x at *;refine wK ?_;refine Wp.seq (Wp.block ?_)
  refine wR (tT p a1 a2 a3 c1 c2 c3 hb) (bP gr hao x1) ?_ ?_
  ·omega
  refine wr (tT p a1 a2 a3 c1 c2 c3 hb) gr ?_ ?_
  ·rw[ByteArray.size_append,ByteArray.size_append,ByteArray.size_append];omega
  refine vr (tT p a1 a2 a3 c1 c2 c3 hb) (aa gr wk) ?_;refine⟨k+1,oM,oM,?_⟩;exact wM (λk=>.key k) (eS gr e1 e2 hao)
 have hk' : k=p.ty.length:=by
  simp at hc;omega
 subst hk';rw[<- Rf];refine wE ?_;refine Wp.seq ?_;refine vR (tT p a1 a2 a3 c1 c2 c3 hb) gr ?_;refine Wp.block ?_
 refine Wp.loop (λk:Nat=>⟨100,bm [(1,.is (.own 0 0)),(3,.is (.own 48 0)),(4,.is (.fn (.func 36) [] [.own 48 0])),(30,.is (.v (.slice a2 p.tx.length c2))),(31,.is (.v (.int .i64 p.tx.length))),(32,.is (.v (.int .i64 (k:Nat))))],aY [(0,.cells 29 [.v (.slice a1 p.ty.length c1),.v (.slice a2 p.tx.length c2),.v (.slice a3 p.co.length c3),.v (.int .i64 p.src),.v (.int .i64 p.vw)]),(48,.obj [.string (zN (vd p k))] n8)]⟩) (λk=>k<=p.tx.length) (λk=>p.tx.length-k) 0 ?_ (Nat.zero_le _) ?_
 ·exact wM (λk=>.key k) gr
 rintro k hk;refine vR (tT p a1 a2 a3 c1 c2 c3 hb) gr ?_;refine Wp.seq ?_;refine wC gr (λhc=>?_) (λhc=>?_)
 ·have hlt:k<p.tx.length:=by
   simp at hc;omega
  have wk:IntKind.i64.wrap ((k:Int)+1)=((k+1:Nat):Int):=wW;obtain⟨b,o,hao,x1⟩:=nh hp.tx hlt;have hsn:=Tv hlt;have hcat:=yk (EV hz k) (by rw[yU hk];omega);have hst:(⟨#[116,101,120,116,32]⟩++dR p.tx[k]:ByteArray).size<=4*p.tx[k].size+7:=Iu p.tx[k];have hs1:=hz.z2 _ (List.getElem_mem hlt)
  have e1:=qY (vd p k) (txL p.tx[k]);rw[<- hsn]at e1;have e2:txL p.tx[k]=⟨#[116,101,120,116,32]⟩++dR p.tx[k]:=rfl;generalize p.tx[k]=x at *;refine wK ?_;refine Wp.seq (Wp.block ?_);refine wR (tT p a1 a2 a3 c1 c2 c3 hb) (bP gr hao x1) ?_ ?_
  ·omega
  refine wr (tT p a1 a2 a3 c1 c2 c3 hb) gr ?_ ?_
  ·have z5:(⟨#[116,101,120,116,32]⟩:ByteArray).size=5:=rfl;have:=C2 x;exact⟨hs1,oM,oM⟩
  refine vr (tT p a1 a2 a3 c1 c2 c3 hb) (aa gr wk) ?_;refine⟨k+1,oM,oM,?_⟩;exact wM (λk=>.key k) (eS gr e1 e2 hao)
 have hk' : k=p.tx.length:=by
  simp at hc;omega
 subst hk';have hcat:=yk (EV hz p.tx.length) (by rw[yU (Nat.le_refl _)];omega);have e1:=qY (vd p p.tx.length) (Aw p.src p.vw);rw[<- Sb]at e1;have hms:=zp hs hb;refine wE ?_;refine lf (tT p a1 a2 a3 c1 c2 c3 hb) gr ?_ ?_
 ·have z5:(⟨#[109,97,105,110,32]⟩:ByteArray).size=5:=rfl;have z1:(⟨#[32]⟩:ByteArray).size=1:=rfl;have:=hs.s0;have:=hs.s1;have:=hs.v0;have:=hs.v1;have:=eP hs.s0 oM;have:=eP hs.v0 oM;unfold Aw at hms
  repeat rw[ByteArray.size_append]
  exact⟨⟨⟨oM,oM⟩,ht⟩,oM,oM,⟨⟨oM,oM⟩,ht⟩,oM,oM⟩
 refine Wp.seq ?_;refine vR (tT p a1 a2 a3 c1 c2 c3 hb) gr ?_;refine Wp.block ?_
 refine Wp.loop (λk:Nat=>⟨200,bm [(1,.is (.own 0 0)),(3,.is (.own 48 0)),(4,.is (.fn (.func 36) [] [.own 48 0])),(54,.is (.v (.slice a3 p.co.length c3))),(55,.is (.v (.int .i64 p.co.length))),(56,.is (.v (.int .i64 (k:Nat))))],aY [(0,.cells 29 [.v (.slice a1 p.ty.length c1),.v (.slice a2 p.tx.length c2),.v (.slice a3 p.co.length c3),.v (.int .i64 p.src),.v (.int .i64 p.vw)]),(48,.obj [.string (zN (z7 p k))] n8)]⟩) (λk=>k<=p.co.length) (λk=>p.co.length-k) 0 ?_ (Nat.zero_le _) ?_
 ·exact wM (λk=>.key k) (bP gr e1 @Aw.eq_1)
 rintro k hk;refine vR (tT p a1 a2 a3 c1 c2 c3 hb) gr ?_;refine Wp.seq ?_;refine wC gr (λhc=>?_) (λhc=>?_)
 ·have hlt:k<p.co.length:=by
   simp at hc;omega
  have wk:IntKind.i64.wrap ((k:Int)+1)=((k+1:Nat):Int):=wW;obtain⟨b,o,hao,x1,x2,x3,x4⟩:=pq hp.co hlt;have hsn:=Rk hlt;have hcat:=yk (aek hz hs hk) (by rw[WE];omega);have hin:=hs.ins hb k hlt;have hst:=AT (n:=k) oM oM hin;have e1:=qY (z7 p k) (rj k p.co[k].1 p.co[k].2.1 p.co[k].2.2.1 p.co[k].2.2.2)
  rw[<- hsn]at e1;generalize p.co[k]=x at *;refine wK ?_;refine Wp.seq (Wp.block ?_);refine wR (tT p a1 a2 a3 c1 c2 c3 hb) (ml gr hao x1 x2 x3 x4) ?_ ?_
  ·omega
  refine wr (tT p a1 a2 a3 c1 c2 c3 hb) gr ?_ ?_
  ·exact⟨⟨⟨oM,oM,hin⟩,hg,ht⟩,oM⟩
  refine vr (tT p a1 a2 a3 c1 c2 c3 hb) (aa gr wk) ?_;refine⟨k+1,oM,oM,?_⟩;exact wM (λk=>.key k) (bP gr e1 hao)
 have hk' : k=p.co.length:=by
  simp at hc;omega
 subst hk';refine wE ?_;refine vR (tT p a1 a2 a3 c1 c2 c3 hb) gr ?_;refine wZ gr ?_;exact λE=>rfl
def pK:Pg:=⟨[⟨#[97,42]⟩],[],[(1,0,2,0),(0,0,0,0),(4,0,0,0),(2,0,0,0)],0,0⟩
theorem tyK:uq ⟨#[97,42]⟩=true:=by decide +kernel
theorem al7:gW pK=(0,0,⟨#[]⟩):=by
 have h:gW pK=eX pK:=by
  unfold gW;rw[if_neg dE];rw[iH];intro i hi;have:i=0:=by simp[pK]at hi;omega
  subst this;show (!uq ⟨#[97,42]⟩)=false;rw[tyK];rfl
 rw[h];decide +kernel
def amz:ByteArray:=⟨#[116,121,112,101,32,47,97,42,47,10,109,97,105,110,32,48,32,48,10,48,32,99,97,108,108,32,50,10,49,32,104,97,108,116,10,50,32,101,109,105,116,32,115,10,51,32,114,101,116,10]⟩
theorem amX:Ii pK=amz:=by
 rw[Ii,if_pos al7];decide +kernel
theorem aen:PgZ pK:=⟨dE,dE,dE,dE,dE⟩
section
variable (a1 a2 a3:Option Addr)(c1 c2 c3:Nat)
def Gh(p:Pg)(hz:PgZ p):aM prog 17 where
 pre:=λW bs as_=>as_=[.val (prV p a1 a2 a3 c1 c2 c3)]/\PgX p W (Out bs) a1 a2 a3/\fR W (Out bs)/\bB W (Out bs)/\fC W (Out bs)
 res:=λ_ _=>.string (Ii p)
 enters:=call17
 ok:=by
  intro W w bs us as_ hk hu hp;obtain⟨rfl,h1,h2,h3,h4⟩:=hp
  match us,hu with
  |[x],hu=>
   obtain⟨rfl,_⟩:=hu;exact N8 p a1 a2 a3 c1 c2 c3 w (h1.ok hz.b hk) hz (h2.dU hk sI) (h3.dU hk sI) (h4.dU hk sI)
noncomputable def Γ99:Env prog:=⟨λ| 15=>some (qS pK a1 a2 a3 c1 c2 c3 aen.b).spec|17=>some (Gh a1 a2 a3 c1 c2 c3 pK aen).spec|_=>none,λ| 39=>some vJ|_=>none,λ_ _=>none⟩
theorem ajS:(Γ99 a1 a2 a3 c1 c2 c3).sp 15=some (qS pK a1 a2 a3 c1 c2 c3 aen.b).spec:=rfl
theorem aje:(Γ99 a1 a2 a3 c1 c2 c3).sp 17=some (Gh a1 a2 a3 c1 c2 c3 pK aen).spec:=rfl
theorem aaX:(Γ99 a1 a2 a3 c1 c2 c3).eqs 39=some vJ:=rfl
end
def To:=(aj @List.replicate_succ.{0} @List.replicate_zero.{0} @an @ab jk jn BG (aj BH BJ ca cc cg cd dc (aj df dh db cY c8 rD sq (aj rV rQ GS HG Hl HX yW (aj yM zA yI Bv Ad yG Bj (aj zK zl yK yS y5 Bb AY (aj AI AO Ar yQ BZ Cf Ce (aj Cb Cg Ck B9 Cj rn @aG (aj @al @ax @aw @se @Gc.eq_1 @yh.eq_1 @ajS (eS @aje @aaX @qS.eq_1 @Gh.eq_1))))))))))
theorem MM(w:World)(hg:fR w (Out []))(he:bB w (Out []))(ht:fC w (Out [])):Calls prog 11 #[] w λe w' => e=.returned (.bool true)/\LE.ah w [] w' := by
 refine af (nt:=18) [.tmp 0] func11 rfl rfl rfl ?_;refine vR Γ0 To ?_;refine vR Γ0 To ?_;refine Wp.tI 8 (ev (aa To @aJ)) (λE=>by simp only[au,den,aJ];exact rfl) λW1 bs1 ao1 d1 hx1 hs1 hd1=>?_
 refine Wp.tI 48 (ev (aa To @aJ)) (λE=>by simp only[au,den,aJ];exact rfl) λW2 bs2 ao2 d2 hx2 hs2 hd2=>?_
 have r1:gO W2 (Out bs2) ao1 (aE pK.ty):=(hs1.out λb hb=>hb.out).mono hx2.lZ;have r2:gO W2 (Out bs2) none (aE pK.tx):=.inl rfl;have r3:gO W2 (Out bs2) ao2 (cn pK.co):=hs2.out λb hb=>hb.out
 have g1:=(hg.mono hx1.lZ).mono hx2.lZ;have g2:=(he.mono hx1.lZ).mono hx2.lZ;have g3:=(ht.mono hx1.lZ).mono hx2.lZ;refine wR (Γ99 ao1 none ao2 d1 0 d2) (bP To @al7 @amX) ?_ ?_
 ·exact⟨⟨rfl,⟨r1,r2,r3⟩,g1,g2⟩,λ_=>⟨rfl,⟨r1,r2,r3⟩,g1,g2,g3⟩⟩
 refine wZ To ?_;exact λE=>rfl
section
variable (p:Pg)(hb:PgB p)
end
def ET:aM prog 11 where
 pre:=λW bs as_=>as_=[]/\fR W (Out bs)/\bB W (Out bs)/\fC W (Out bs)
 res:=λ_ _=>.bool true
 enters:=call11
 ok:=by
  intro W w bs us as_ hk hu hp;obtain⟨rfl,h1,h2,h3⟩:=hp
  match us,hu with
  |[],_=>exact MM w (h1.dU hk sI) (h2.dU hk sI) (h3.dU hk sI)
section
variable (p:Pg)(a1 a2 a3:Option Addr)(c1 c2 c3:Nat)(hb:PgB p)(hn:p.ty.length<=1048576/\p.tx.length<=1048576/\p.co.length<=1048576)(G:Nat->Prop)
end
def ZQ{P:Program}{f:FuncId}(p:mr P f)(g:List SV->List Nat):LE.Spec P f where
 ev:=λW bs κ h args=>qt κ (g args) h args p.args p.L p.L' p.val (p.pre W bs)
 good:=λW bs κ E F h w K args=>(p.spec (g args)).good W bs κ E F h w K args
 keys:=λW bs κ h K args=>(p.spec (g args)).keys W bs κ h K args
 loc:=λW bs κ h h' args=>(p.spec (g args)).loc W bs κ h h' args
theorem Xu{P:Program}{f:FuncId}(p:mr P f)(g:List SV->List Nat)(W:World)(bs:List Nat)(κ:Nat)(h:Hp)(args:List SV):(ZQ p g).ev W bs κ h args=qt κ (g args) h args p.args p.L p.L' p.val (p.pre W bs):=rfl
def Zl:List SV->List Nat
 |[.agg [.hd a,.hd b,.hd c,_,_],.agg [.hd d,.hd e,.hd f,_,_]]=>[a,b,c,d,e,f]
 |_=>[]
theorem Yv(a b c d e f:Nat)(x y z u:SV):Zl [.agg [.hd a,.hd b,.hd c,x,y],.agg [.hd d,.hd e,.hd f,z,u]]=[a,b,c,d,e,f]:=rfl
theorem ait:(true ^^ true)=false:=rfl
theorem FU:PgB eG:=⟨dE,dE,dE,λt ht=>by cases ht⟩
theorem ja(s:ByteArray):PgB (q8 s).1:=by
 unfold q8;split
 ·exact FU
 ·rename_i h;have hB:=ahJ (s:=s) oM;split
  ·exact FU
  ·split
   ·exact FU
   ·split
    ·exact hB
    ·exact FU
def Gd(s:ByteArray):mr prog 20 where
 args:=[.v (.string s)]
 L:=[]
 val:=.tup [Mz 8 (q8 s).1,om (q8 s).2]
 L' := qA 50 8 (q8 s).1
 eg:=[]
 pre:=λW bs=>fP W (Out bs)/\s.size<=9223372036854775807
 low:=by simp
 kept:=by simp
 vk:=by intro k hk;right;simp[Mz,om,SV.keys,ay]at hk;unfold fresh;omega
 lk:=by intro p hp;simp only[qA,List.mem_cons,List.not_mem_nil,or_false]at hp;rcases hp with rfl|rfl|rfl<;>refine⟨.inr (by unfold fresh;omega),by simp[aS.keys,aB]⟩
 nd:=by simp[qA]
 enters:=call20
 ok:=by
  intro W w bs fp E F hk hm hs hp;exact NV s w fp E F (hp.1.dU hk hm) hs hp.2
def Eg(s:ByteArray):mr prog 19 where
 args:=[.v (.string s)]
 L:=[]
 val:=.tup [Mz 8 (G2 s).1,.v (.int .i64 (G2 s).2.1),.v (.int .i64 (G2 s).2.2.1),.v (.string (G2 s).2.2.2)]
 L' := qA 85 8 (G2 s).1
 eg:=[]
 pre:=λW bs=>s.size<=9223372036854775807
 low:=by simp
 kept:=by simp
 vk:=by intro k hk;right;simp[Mz,SV.keys,ay]at hk;unfold fresh;omega
 lk:=by intro p hp;simp only[qA,List.mem_cons,List.not_mem_nil,or_false]at hp;rcases hp with rfl|rfl|rfl<;>refine⟨.inr (by unfold fresh;omega),by simp[aS.keys,aB]⟩
 nd:=by simp[qA]
 enters:=call19
 ok:=by
  intro W w bs fp E F hk hm hs hp;exact Ee s w fp E F hs hp
def Z2(p:Pg)(hb:PgB p):mr prog 16 where
 args:=[Mz 0 p,Mz 3 p]
 L:=qA 50 0 p++qA 85 3 p
 val:=.v (.bool true)
 L' := qA 50 0 p++qA 85 3 p
 eg:=[0,1,2,3,4,5]
 pre:=λW bs=>True
 low:=by simp[qA]
 kept:=by simp[qA]
 vk:=by simp[SV.keys]
 lk:=by simp[qA,aS.keys,aB]
 nd:=by simp[qA]
 enters:=call16
 ok:=by
  intro W w bs fp E F hk hm hs hp;obtain⟨a1,a2,a3,c1,c2,c3,he,g1,g2,g3⟩:=qZ (T:=50) (k:=0) (p:=p) hs rfl rfl rfl;obtain⟨b1,b2,b3,d1,d2,d3,he',k1,k2,k3⟩:=qZ (T:=85) (k:=3) (p:=p) hs rfl rfl rfl;simp only[au,he,he']
  exact (WG p a1 a2 a3 b1 b2 b3 c1 c2 c3 d1 d2 d3 w ⟨hb,g1,g2,g3⟩ ⟨hb,k1,k2,k3⟩).mono λe w' ⟨h1,h2⟩=>⟨E,F,h1,λ_ _=>rfl,hs.grow h2⟩
section
variable (s:ByteArray)(p:Pg)(hb:PgB p)
noncomputable def j7:Env prog:=⟨λ| 11=>some ET.spec|20=>some ((Gd s).spec [])|19=>some ((Eg s).spec [])|16=>some (ZQ (Z2 p hb) Zl)|_=>none,λ| 39=>some vJ|_=>none,λ_ _=>none⟩
theorem agl:(j7 s p hb).sp 11=some ET.spec:=rfl
theorem ahh:(j7 s p hb).sp 20=some ((Gd s).spec []):=rfl
theorem adE:(j7 s p hb).sp 19=some ((Eg s).spec []):=rfl
theorem adh:(j7 s p hb).sp 16=some (ZQ (Z2 p hb) Zl):=rfl
theorem UF:(j7 s p hb).eqs 39=some vJ:=rfl
end
def fM:=(aj @List.replicate_succ.{0} @List.replicate_zero.{0} @an @ab jk jn gR (aj ck cf b9 b8 ca cc cg (aj cd dc df dh db cY c8 (aj rD sq rV rQ GS HG Hl (aj HX yW yM zA yI Bv Ad (aj yG Bj zK Xt Ws Wd aaH (aj ZB Zi Yc aai Vj zl yK (aj yS y5 Bb AY AI AO Ar (aj yQ aim ain aj6 aj4 BZ Cf (aj Ce Cb Cg Ck B9 Cj rn (aj @aG @al @ax @aw @o8 @Xu @Yv (aj @ait @qt.eq_1 @gz.eq_1 @gz.eq_2 @fL.eq_1 @fL.eq_2 @fL.eq_3 (aj @fL.eq_4 @fL.eq_5 @fL.eq_6 @fL.eq_7 @fL.eq_8 @jV.eq_1 @jV.eq_2 (aj @eV.eq_1 @eV.eq_2 @gK.eq_1 @gK.eq_2 @gA.eq_1 @gA.eq_2 @gA.eq_3 (aj @rC.eq_1 @mp.eq_1 @fV @gE @fY @qA.eq_1 @Mz.eq_1 (aj @jU.eq_1 @jU.eq_2 @se @om.eq_1 @bS.eq_1 @agl @ahh (ur @adE @adh @UF @ET.eq_1 @Gd.eq_1 @Eg.eq_1 @Z2.eq_1)))))))))))))))))
theorem MG(s:ByteArray)(w:World)(hl:fP w (Out []))(hz:s.size<=9223372036854775807):Calls prog 5 #[.string s] w λe w' => e=.returned (.bool true)/\ah w [] w' := by
 have hps:=N6 s;refine af (nt:=109) [.tmp 2] func5 rfl rfl rfl ?_;refine vR (j7 s (q8 s).1 (ja s)) fM ?_;refine Wp.seq ?_;refine wR (j7 s (q8 s).1 (ja s)) fM ?_ ?_
 ·exact⟨hl.1.1,hl.1.2,hl.2.1⟩
 refine wC fM (λhc=>?_) (λhc=>?_)
 ·exact absurd hc sI
 refine wK ?_;refine wR (j7 s (q8 s).1 (ja s)) fM ?_ ?_
 ·exact⟨dE,hz⟩
 refine vR (j7 s (q8 s).1 (ja s)) fM ?_;refine wR (j7 s (q8 s).1 (ja s)) fM ?_ ?_
 ·exact⟨dE,hl,hz⟩
 refine wR (j7 s (q8 s).1 (ja s)) fM ?_ ?_
 ·exact⟨dE,hl,hz⟩
 rw[<- hps];have hB:=ja s;have hB' := hB;generalize hq:q8 s=q at *;obtain⟨p,c,i,t⟩:=q;dsimp only at hB hB' ⊢;obtain⟨m1,m2,m3,_⟩:=hB'
 refine Wp.IX (σ' := ⟨60,bm [(0,.is (.v (.string s))),(3,.is (.own 3 0)),(10,.is (.own 10 0)),(7,.is (.own 7 0)),(8,.is (.own 8 0)),(9,.is (.own 9 0)),(11,.is (.own 11 0))],aY [(3,.cells 35 [.hd 20,.hd 21,.hd 22,.v (.int .i64 p.src),.v (.int .i64 p.vw)]),(10,.cells 29 [.hd 40,.hd 41,.hd 42,.v (.int .i64 p.src),.v (.int .i64 p.vw)]),(20,.row 9 1 p.ty.length ((aE p.ty).map .v)),(21,.row 9 1 p.tx.length ((aE p.tx).map .v)),(22,.row 85 4 p.co.length ((cn p.co).map .v)),(40,.row 9 1 p.ty.length ((aE p.ty).map .v)),(41,.row 9 1 p.tx.length ((aE p.tx).map .v)),(42,.row 50 4 p.co.length ((cn p.co).map .v)),(8,.cells 29 [.hd 30,.hd 31,.hd 32,.v (.int .i64 p.src),.v (.int .i64 p.vw)]),(7,.cells 39 [.v (.int .i64 c),.v (.int .i64 i),.v (.string t)]),(9,.cells 39 [.v (.int .i64 c),.v (.int .i64 i),.v (.string t)]),(11,.cells 39 [.v (.int .i64 c),.v (.int .i64 i),.v (.string t)]),(30,.row 9 1 p.ty.length ((aE p.ty).map .v)),(31,.row 9 1 p.tx.length ((aE p.tx).map .v)),(32,.row 50 4 p.co.length ((cn p.co).map .v))]⟩) ?_ ?_
 ·exact wM (λk=>if k=3 then .key 80 else if k=7 then .key 152 else if k=8 then .key 208 else if k=9 then .key 216 else if k=10 then .key 280 else if k=11 then .key 288 else if k=20 then .key 32 else if k=21 then .key 33 else if k=22 then .key 34 else if k=40 then .key 248 else if k=41 then .key 249 else if k=42 then .key 250 else if k=30 then .key 176 else if k=31 then .key 177 else if k=32 then .key 178 else .key k) fM
 refine Wp.seq ?_;refine wR (j7 s p hB) fM ?_ ?_
 ·decide
 refine wC fM (λhc=>?_) (λhc=>?_)
 ·exact absurd hc sI
 refine wK ?_
 refine aV ⟨212,bm [(0,.is (.v (.string s))),(3,.is (.own 3 0)),(10,.is (.own 10 0)),(8,.is (.own 8 0))],aY [(3,.cells 35 [.hd 20,.hd 21,.hd 22,.v (.int .i64 p.src),.v (.int .i64 p.vw)]),(10,.cells 29 [.hd 40,.hd 41,.hd 42,.v (.int .i64 p.src),.v (.int .i64 p.vw)]),(20,.row 9 1 p.ty.length ((aE p.ty).map .v)),(21,.row 9 1 p.tx.length ((aE p.tx).map .v)),(22,.row 85 4 p.co.length ((cn p.co).map .v)),(40,.row 9 1 p.ty.length ((aE p.ty).map .v)),(41,.row 9 1 p.tx.length ((aE p.tx).map .v)),(42,.row 50 4 p.co.length ((cn p.co).map .v)),(8,.cells 29 [.hd 30,.hd 31,.hd 32,.v (.int .i64 p.src),.v (.int .i64 p.vw)]),(30,.row 9 1 p.ty.length ((aE p.ty).map .v)),(31,.row 9 1 p.tx.length ((aE p.tx).map .v))]⟩ ?_ ?_
 ·skip;refine vR (j7 s (q8 s).1 (ja s)) fM ?_;refine Wp.block ?_
  refine Wp.loop (λq:Nat×List Value=>⟨112,bm [(0,.is (.v (.string s))),(3,.is (.own 3 0)),(10,.is (.own 10 0)),(8,.is (.own 8 0)),(12,.is (.v (.int .i64 (q.1:Nat))))],aY [(3,.cells 35 [.hd 20,.hd 21,.hd 22,.v (.int .i64 p.src),.v (.int .i64 p.vw)]),(10,.cells 29 [.hd 40,.hd 41,.hd 42,.v (.int .i64 p.src),.v (.int .i64 p.vw)]),(20,.row 9 1 p.ty.length ((aE p.ty).map .v)),(21,.row 9 1 p.tx.length ((aE p.tx).map .v)),(22,.row 85 4 p.co.length ((cn p.co).map .v)),(40,.row 9 1 p.ty.length ((aE p.ty).map .v)),(41,.row 9 1 p.tx.length ((aE p.tx).map .v)),(42,.row 50 4 p.co.length ((cn p.co).map .v)),(8,.cells 29 [.hd 30,.hd 31,.hd 32,.v (.int .i64 p.src),.v (.int .i64 p.vw)]),(30,.row 9 1 p.ty.length ((aE p.ty).map .v)),(31,.row 9 1 p.tx.length ((aE p.tx).map .v)),(32,.row 50 4 p.co.length (q.2.map .v))]⟩) (λq=>q.1<=p.co.length/\q.2.length=p.co.length*4) (λq=>p.co.length-q.1) (0,cn p.co) ?_ ⟨Nat.zero_le _,by dsimp only;first|exact tw _|(simp[aE])⟩ ?_
  ·exact wM (λk=>.key k) fM
  rintro⟨k,vs⟩ ⟨h1,h2⟩;dsimp only at h1 h2 ⊢;refine Wp.seq ?_;refine vR (j7 s (q8 s).1 (ja s)) fM ?_;refine wC fM (λhc=>?_) (λhc=>?_)
  ·have hlt:k<p.co.length:=by
    simp at hc;omega
   have wk:IntKind.i64.wrap ((k:Int)+1)=((k+1:Nat):Int):=wW;have wn:IntKind.i64.wrap (-(k:Int))=-(k:Int):=by rw[ae oM oM]
   obtain⟨vs',hv⟩:∃ x:List Value,x=vs.take (k*4)++[ (.int .i64 99),  (.int .i64 0),  (.int .i64 (IntKind.i64.wrap (0-(k:Int)))),  (.int .i64 0)]++vs.drop (k*4+4):=⟨_,rfl⟩
   have hR:List.take (k*4) (List.map SV.v vs)++[.v (.int .i64 99),.v (.int .i64 0),.v (.int .i64 (IntKind.i64.wrap (0-(k:Int)))),.v (.int .i64 0)]++List.drop (k*4+4) (List.map SV.v vs)=List.map SV.v vs' := by simp only[hv,List.map_append,List.map_take,List.map_drop,List.map_cons,List.map_nil]
   refine wK ?_;refine Wp.seq (Wp.block ?_);refine wr (j7 s (q8 s).1 (ja s)) (bP fM wn hR) ?_ ?_
   ·exact⟨⟨oM,oM⟩,by rw[List.length_map];omega⟩
   refine vr (j7 s (q8 s).1 (ja s)) (aa fM wk) ?_;refine⟨(k+1,vs'),⟨by dsimp only;omega,?_⟩,by dsimp only;omega,?_⟩
   ·dsimp only;simp only[hv,List.length_append,List.length_take,List.length_drop,List.length_cons,List.length_nil,List.length_set];omega
   ·exact wM (λk=>.key k) fM
  ·refine wE ?_;exact wM (λk=>.key k) fM
 refine aV ⟨213,bm [(0,.is (.v (.string s))),(3,.is (.own 3 0)),(10,.is (.own 10 0)),(8,.is (.own 8 0))],aY [(3,.cells 35 [.hd 20,.hd 21,.hd 22,.v (.int .i64 p.src),.v (.int .i64 p.vw)]),(10,.cells 29 [.hd 40,.hd 41,.hd 42,.v (.int .i64 p.src),.v (.int .i64 p.vw)]),(20,.row 9 1 p.ty.length ((aE p.ty).map .v)),(21,.row 9 1 p.tx.length ((aE p.tx).map .v)),(22,.row 85 4 p.co.length ((cn p.co).map .v)),(40,.row 9 1 p.ty.length ((aE p.ty).map .v)),(41,.row 9 1 p.tx.length ((aE p.tx).map .v)),(42,.row 50 4 p.co.length ((cn p.co).map .v)),(8,.cells 29 [.hd 30,.hd 31,.hd 32,.v (.int .i64 p.src),.v (.int .i64 p.vw)]),(31,.row 9 1 p.tx.length ((aE p.tx).map .v))]⟩ ?_ ?_
 ·skip;refine vR (j7 s (q8 s).1 (ja s)) fM ?_;refine Wp.block ?_
  refine Wp.loop (λq:Nat×List Value=>⟨113,bm [(0,.is (.v (.string s))),(3,.is (.own 3 0)),(10,.is (.own 10 0)),(8,.is (.own 8 0)),(13,.is (.v (.int .i64 (q.1:Nat))))],aY [(3,.cells 35 [.hd 20,.hd 21,.hd 22,.v (.int .i64 p.src),.v (.int .i64 p.vw)]),(10,.cells 29 [.hd 40,.hd 41,.hd 42,.v (.int .i64 p.src),.v (.int .i64 p.vw)]),(20,.row 9 1 p.ty.length ((aE p.ty).map .v)),(21,.row 9 1 p.tx.length ((aE p.tx).map .v)),(22,.row 85 4 p.co.length ((cn p.co).map .v)),(40,.row 9 1 p.ty.length ((aE p.ty).map .v)),(41,.row 9 1 p.tx.length ((aE p.tx).map .v)),(42,.row 50 4 p.co.length ((cn p.co).map .v)),(8,.cells 29 [.hd 30,.hd 31,.hd 32,.v (.int .i64 p.src),.v (.int .i64 p.vw)]),(31,.row 9 1 p.tx.length ((aE p.tx).map .v)),(30,.row 9 1 p.ty.length (q.2.map .v))]⟩) (λq=>q.1<=p.ty.length/\q.2.length=p.ty.length*1) (λq=>p.ty.length-q.1) (0,aE p.ty) ?_ ⟨Nat.zero_le _,by dsimp only;first|exact tw _|(simp[aE])⟩ ?_
  ·exact wM (λk=>.key k) fM
  rintro⟨k,vs⟩ ⟨h1,h2⟩;dsimp only at h1 h2 ⊢;refine Wp.seq ?_;refine vR (j7 s (q8 s).1 (ja s)) fM ?_;refine wC fM (λhc=>?_) (λhc=>?_)
  ·have hlt:k<p.ty.length:=by
    simp at hc;omega
   have wk:IntKind.i64.wrap ((k:Int)+1)=((k+1:Nat):Int):=wW;have wn:IntKind.i64.wrap (-(k:Int))=-(k:Int):=by rw[ae oM oM]
   obtain⟨vs',hv⟩:∃ x:List Value,x=vs.take (k)++[ (.string ⟨#[115,112,111,105,108,116]⟩)]++vs.drop (k+1):=⟨_,rfl⟩
   have hR:List.take (k) (List.map SV.v vs)++[.v (.string ⟨#[115,112,111,105,108,116]⟩)]++List.drop (k+1) (List.map SV.v vs)=List.map SV.v vs' := by simp only[hv,List.map_append,List.map_take,List.map_drop,List.map_cons,List.map_nil]
   refine wK ?_;refine Wp.seq (Wp.block ?_);refine wr (j7 s (q8 s).1 (ja s)) (bP fM wn hR) ?_ ?_
   ·exact⟨⟨oM,oM⟩,by rw[List.length_map];omega⟩
   refine vr (j7 s (q8 s).1 (ja s)) (aa fM wk) ?_;refine⟨(k+1,vs'),⟨by dsimp only;omega,?_⟩,by dsimp only;omega,?_⟩
   ·dsimp only;simp only[hv,List.length_append,List.length_take,List.length_drop,List.length_cons,List.length_nil,List.length_set];omega
   ·exact wM (λk=>.key k) fM
  ·refine wE ?_;exact wM (λk=>.key k) fM
 refine aV ⟨214,bm [(0,.is (.v (.string s))),(3,.is (.own 3 0)),(10,.is (.own 10 0)),(8,.is (.own 8 0))],aY [(3,.cells 35 [.hd 20,.hd 21,.hd 22,.v (.int .i64 p.src),.v (.int .i64 p.vw)]),(10,.cells 29 [.hd 40,.hd 41,.hd 42,.v (.int .i64 p.src),.v (.int .i64 p.vw)]),(20,.row 9 1 p.ty.length ((aE p.ty).map .v)),(21,.row 9 1 p.tx.length ((aE p.tx).map .v)),(22,.row 85 4 p.co.length ((cn p.co).map .v)),(40,.row 9 1 p.ty.length ((aE p.ty).map .v)),(41,.row 9 1 p.tx.length ((aE p.tx).map .v)),(42,.row 50 4 p.co.length ((cn p.co).map .v)),(8,.cells 29 [.hd 30,.hd 31,.hd 32,.v (.int .i64 p.src),.v (.int .i64 p.vw)])]⟩ ?_ ?_
 ·skip;refine vR (j7 s (q8 s).1 (ja s)) fM ?_;refine Wp.block ?_
  refine Wp.loop (λq:Nat×List Value=>⟨114,bm [(0,.is (.v (.string s))),(3,.is (.own 3 0)),(10,.is (.own 10 0)),(8,.is (.own 8 0)),(14,.is (.v (.int .i64 (q.1:Nat))))],aY [(3,.cells 35 [.hd 20,.hd 21,.hd 22,.v (.int .i64 p.src),.v (.int .i64 p.vw)]),(10,.cells 29 [.hd 40,.hd 41,.hd 42,.v (.int .i64 p.src),.v (.int .i64 p.vw)]),(20,.row 9 1 p.ty.length ((aE p.ty).map .v)),(21,.row 9 1 p.tx.length ((aE p.tx).map .v)),(22,.row 85 4 p.co.length ((cn p.co).map .v)),(40,.row 9 1 p.ty.length ((aE p.ty).map .v)),(41,.row 9 1 p.tx.length ((aE p.tx).map .v)),(42,.row 50 4 p.co.length ((cn p.co).map .v)),(8,.cells 29 [.hd 30,.hd 31,.hd 32,.v (.int .i64 p.src),.v (.int .i64 p.vw)]),(31,.row 9 1 p.tx.length (q.2.map .v))]⟩) (λq=>q.1<=p.tx.length/\q.2.length=p.tx.length*1) (λq=>p.tx.length-q.1) (0,aE p.tx) ?_ ⟨Nat.zero_le _,by dsimp only;first|exact tw _|(simp[aE])⟩ ?_
  ·exact wM (λk=>.key k) fM
  rintro⟨k,vs⟩ ⟨h1,h2⟩;dsimp only at h1 h2 ⊢;refine Wp.seq ?_;refine vR (j7 s (q8 s).1 (ja s)) fM ?_;refine wC fM (λhc=>?_) (λhc=>?_)
  ·have hlt:k<p.tx.length:=by
    simp at hc;omega
   have wk:IntKind.i64.wrap ((k:Int)+1)=((k+1:Nat):Int):=wW;have wn:IntKind.i64.wrap (-(k:Int))=-(k:Int):=by rw[ae oM oM]
   obtain⟨vs',hv⟩:∃ x:List Value,x=vs.take (k)++[ (.string ⟨#[115,112,111,105,108,116]⟩)]++vs.drop (k+1):=⟨_,rfl⟩
   have hR:List.take (k) (List.map SV.v vs)++[.v (.string ⟨#[115,112,111,105,108,116]⟩)]++List.drop (k+1) (List.map SV.v vs)=List.map SV.v vs' := by simp only[hv,List.map_append,List.map_take,List.map_drop,List.map_cons,List.map_nil]
   refine wK ?_;refine Wp.seq (Wp.block ?_);refine wr (j7 s (q8 s).1 (ja s)) (bP fM wn hR) ?_ ?_
   ·exact⟨⟨oM,oM⟩,by rw[List.length_map];omega⟩
   refine vr (j7 s (q8 s).1 (ja s)) (aa fM wk) ?_;refine⟨(k+1,vs'),⟨by dsimp only;omega,?_⟩,by dsimp only;omega,?_⟩
   ·dsimp only;simp only[hv,List.length_append,List.length_take,List.length_drop,List.length_cons,List.length_nil,List.length_set];omega
   ·exact wM (λk=>.key k) fM
  ·refine wE ?_;exact wM (λk=>.key k) fM
 refine wR (j7 s p hB) (aa fM hq) ?_ ?_
 ·exact⟨dE,hl,hz⟩
 refine wR (j7 s p hB) fM ?_ ?_
 ·decide
 refine wZ fM ?_;exact λE=>rfl
end
section
open Go.ChangeShapes Go.WideShapes Go.ChangeAt Go.RowKit Go.LE
open Go.ChangeMaps (open_string shut_string)
set_option maxRecDepth 10000
theorem amJ:ownKnob Tryz.prog.godebug=none:=kR
theorem alU:laidOutB Tryz.prog=true:=kR
theorem alj:mapsRowed Tryz.prog=true:=kR
theorem akP:((List.range Tryz.prog.types.size).all λt=>match Tryz.prog.underlying t with|some (.slice e)=>decide (0<Tryz.prog.cellsOf e)|_=>true)=true:=kR
theorem ai1:Tryz.prog.cellsOf 9=1:=kR
theorem ajZ:Tryz.prog.cellsOf 4=1:=kR
theorem Yr:Tryz.prog.cellsOf 5=1:=kR
theorem G8:Tryz.prog.cellsOf 156=1:=kR
theorem JQ:Tryz.prog.cellsOf 160=4:=kR
theorem Xb:Tryz.prog.cellsOf 203=1:=kR
theorem Wl:Tryz.prog.cellsOf 334=20:=kR
theorem JE:Tryz.prog.cellsOf 355=2:=kR
section
variable {H:Type}{enc:TypeId×Value->H}
instance:Inhabited ByteArray:=⟨⟨#[]⟩⟩
end
end
section
open Go.ChangeShapes Go.WideShapes Go.ChangeAt Go.RowKit Go.LE
set_option maxRecDepth 10000
theorem Hb:Tryz.prog.globalNamed "loupe/code.shapes"=some 0:=kR
theorem Yq:Tryz.prog.globalNamed "loupe/class.escapes"=some 4:=kR
theorem aiB:(Tryz.prog.globals[0]?).map (·.type)=some 161:=kR
theorem ai3:(Tryz.prog.globals[3]?).map (·.type)=some 334:=kR
theorem aiG:(Tryz.prog.globals[4]?).map (·.type)=some 356:=kR
theorem jB{W:World}{n:String}{g:Nat}{cs:Array Value}(hg:Tryz.prog.globalNamed n=some g)(h:W.var? Tryz.prog n=some cs)(i:Nat)(v:Value)(hi:cs.toList[i]?=some v):W.cell? ⟨g,i,none⟩=some v:=by
 unfold World.var? at h;rw[hg,Option.bind_some]at h;split at h
 ·rename_i cs' T fr hh;cases h;simp only[World.cell?,hh];rw[Array.getElem?_toList]at hi;simpa using hi
 ·cases h
theorem SJ{W:World}(h:Lib.VarReads Tryz.prog W "internal/strconv.uint64pow10" Rows.laid_internal_strconv_uint64pow10):fC W (Out []):=by
 obtain⟨g,t,cs,fuel,p,h1,h2,h3,h4⟩:=h;obtain rfl:=Option.some.inj (ZX.symm.trans h1);obtain rfl:=Option.some.inj (ai3.symm.trans h2);have e:(Rows.laid_internal_strconv_uint64pow10:DataW Unit)=Lib.tabData .u64 Lib.pow10Tab:=rfl;rw[e]at h4
 have h5:=Lib.cells_of_tab Tryz.underlying334 Tryz.underlying203 Xb Wl h4;refine⟨by simp[Out],?_⟩;show W.var? Tryz.prog _=_;rw[h3,<- h5]
theorem ai5{l:List Value}{k:Nat}{x y:Value}(h:(l.drop k).take 2=[x,y]):l[k]?=some x/\l[k+1]?=some y:=by
 have h0:=congrArg (·[0]?) h;have h1:=congrArg (·[1]?) h;simp only[List.getElem?_take,List.getElem?_drop]at h0 h1;exact⟨by simpa using h0,by simpa using h1⟩
theorem ack{l:List Value}{k:Nat}{x y z u:Value}(h:(l.drop k).take 4=[x,y,z,u]):l[k]?=some x/\l[k+1]?=some y/\l[k+2]?=some z/\l[k+3]?=some u:=by
 have h0:=congrArg (·[0]?) h;have h1:=congrArg (·[1]?) h;have h2:=congrArg (·[2]?) h;have h3:=congrArg (·[3]?) h;simp only[List.getElem?_take,List.getElem?_drop]at h0 h1 h2 h3;exact⟨by simpa using h0,by simpa using h1,by simpa using h2,by simpa using h3⟩
theorem Li{W:World}{sp:Nat->Bool}{fuel:Nat}{cs:List Value}{a b:Int}{q:List MemPlace}(h:DataW.trod (λ_=>()) Tryz.prog W 0 sp false fuel 355 cs=some (.agg [.lit (.int .u8 a),.lit (.int .u8 b)],q)):cs=[.int .u8 a,.int .u8 b]:=
 Lib.ints_of_struct (zs:=[a,b]) Tryz.underlying355 (λi f hf=>by
  match i,hf with
  |0,hf=>cases hf;exact⟨Tryz.underlying5,rfl,Yr⟩
  |1,hf=>cases hf;exact⟨Tryz.underlying5,rfl,Yr⟩
  |i+2,hf=>cases hf) JE h
theorem Q5{W:World}(h:Lib.VarReads Tryz.prog W "loupe/class.escapes" Rows.laid_loupe_class_escapes):bB W (Out []):=by
 obtain⟨g,t,cs,fuel,p,h1,h2,h3,h4⟩:=h;obtain rfl:=Option.some.inj (Yq.symm.trans h1);obtain rfl:=Option.some.inj (aiG.symm.trans h2)
 have key:∀ i (a b:Int),i<3->[(110,10),(114,13),(116,9)][i]?=some (a,b)->W.cell? ⟨4,i*2,none⟩=some (.int .u8 a)/\W.cell? ⟨4,i*2+1,none⟩=some (.int .u8 b):=λi a b hi hab=>by
  obtain⟨f',d,q,hd,ht⟩:=Lib.array_elem Tryz.underlying356 h4 i hi;rw[JE]at ht;have e:d=.agg [.lit (.int .u8 a),.lit (.int .u8 b)]:=by
   match i,hi with
   |0,_=>cases hab;cases hd;rfl
   |1,_=>cases hab;cases hd;rfl
   |2,_=>cases hab;cases hd;rfl
  subst e;obtain⟨g1,g2⟩:=ai5 (Li ht);exact⟨jB Yq h3 _ _ g1,jB Yq h3 _ _ g2⟩
 have k0:=key 0 _ _ oM rfl;have k1:=key 1 _ _ oM rfl;have k2:=key 2 _ _ oM rfl;exact⟨by simp[Out],k0.1,k0.2,k1.1,k1.2,k2.1,k2.2⟩
theorem Ir{W:World}{sp:Nat->Bool}{fuel:Nat}{cs:List Value}{s:ByteArray}{b:Bool}{a c:Int}{q:List MemPlace}
  (h:DataW.trod (λ_=>()) Tryz.prog W 0 sp false fuel 160 cs=some (.agg [.lit (.string s.data.toList),.lit (.bool b),.lit (.int .i64 a),.lit (.int .i64 c)],q)):cs=[.string s,.bool b,.int .i64 a,.int .i64 c]:=by
 obtain⟨xs,k,_,hd,hl,hxl,hall⟩:=DataW.trod_struct Tryz.underlying160 h;rw[JQ]at hl;have e0:=hall 0 _ rfl;have e1:=hall 1 _ rfl;have e2:=hall 2 _ rfl;have e3:=hall 3 _ rfl;have hxl:xs.length=4:=hxl
 match xs,hxl,cs,hl with
 | [y0,y1,y2,y3],_,[c0,c1,c2,c3],_=>
  have hd:=congrArg Prod.fst hd;simp only[List.map_cons,List.map_nil,DataW.agg.injEq,List.cons.injEq,and_true]at hd;obtain⟨d0,d1,d2,d3⟩:=hd;obtain⟨z0,g0,f0,_⟩:=DataW.trod_string (cs:=[c0]) Tryz.underlying9 (by simpa [ai1] using e0)
  obtain⟨z1,g1,f1⟩:=DataW.trod_bool (cs:=[c1]) Tryz.underlying4 (by simpa [ajZ] using e1);obtain⟨z2,g2,f2,_⟩:=DataW.trod_int (cs:=[c2]) Tryz.underlying156 (by simpa [G8] using e2);obtain⟨z3,g3,f3,_⟩:=DataW.trod_int (cs:=[c3]) Tryz.underlying156 (by simpa [G8] using e3);rw[f0]at d0;rw[f1]at d1
  rw[f2]at d2;rw[f3]at d3;cases d1;cases d2;cases d3;simp only[DataW.lit.injEq,Lit.string.injEq]at d0;have d0:s=z0:=by
   rcases s with ⟨⟨l⟩⟩;rcases z0 with ⟨⟨l'⟩⟩;simp only at d0;rw[d0]
  subst d0;simp only[List.cons.injEq,and_true]at g0 g1 g2 g3;rw[g0,g1,g2,g3]
theorem GR:(Rows.laid_loupe_code_shapes:DataW Unit)=.agg (abr.map λs=>.agg [.lit (.string s.1.data.toList),.lit (.bool s.2.1),.lit (.int .i64 s.2.2.1),.lit (.int .i64 s.2.2.2)]):=rfl
theorem Sz{W:World}(h:Lib.VarReads Tryz.prog W "loupe/code.shapes" Rows.laid_loupe_code_shapes):fR W (Out []):=by
 obtain⟨g,t,cs,fuel,p,h1,h2,h3,h4⟩:=h;obtain rfl:=Option.some.inj (Hb.symm.trans h1);obtain rfl:=Option.some.inj (aiB.symm.trans h2);rw[GR]at h4;refine⟨by simp[Out],λn hn=>?_⟩;obtain⟨f',d,q,hd,ht⟩:=Lib.array_elem Tryz.underlying161 h4 n hn;rw[JQ]at ht;have hl:abr.length=21:=rfl
 rw[List.getElem?_map,List.getElem?_eq_getElem oM,Option.map_some,Option.some.injEq]at hd;subst hd;have hs:gn n=abr[n]'oM:=by
  unfold gn;rw[List.getD_eq_getElem?_getD,List.getElem?_eq_getElem oM];rfl
 obtain⟨g1,g2,g3,g4⟩:=ack (Ir ht);rw[hs];exact⟨jB Hb h3 _ _ g1,jB Hb h3 _ _ g2,jB Hb h3 _ _ g3,jB Hb h3 _ _ g4⟩
end
end Go.Proofs.YtnemkecffmdlnaaGreatDoor
namespace Go.Proofs.YtnemkecffmdlnaaGreatDoor.codeParses
section
set_option maxRecDepth 100000
theorem k0:Rows.codeParsesUptoRow.wf (OpenSpec.ofChange (Rows.OpenSpec.upto Rows.codeParsesSpec).bare)=true:=by kernel_rfl
theorem k1:laidOutB Tryz.prog=true:=by kernel_rfl
theorem k2:mapsRowed Tryz.prog=true:=by kernel_rfl
theorem k3:Tryz.f5.params.all (Tryz.prog.readableRec ·)=true:=by kernel_rfl
theorem k4:namedTie Tryz.prog Rows.codeParsesUptoRow.named (Rows.OpenSpec.upto Rows.codeParsesSpec).bare.vars=true:=by kernel_rfl
theorem k5:(Rows.codeParsesUptoRow.stops == [])=true:=by kernel_rfl
theorem k6:(Tryz.prog.stops == [])=true:=by kernel_rfl
theorem k7:(Rows.codeParsesUptoRow.knobs == [])=true:=by kernel_rfl
theorem k8:(Tryz.prog.stopKnobs == [])=true:=by kernel_rfl
theorem k9:(Rows.codeParsesUptoRow.inPlace == Tryz.prog.inPlace 5)=true:=by kernel_rfl
theorem k10:(Rows.codeParsesUptoRow.unfollowed == Tryz.prog.unfollowed 5)=true:=by kernel_rfl
theorem k11:(Rows.codeParsesUptoRow.recurses == Tryz.prog.recurses 5)=true:=by kernel_rfl
theorem k12:(Rows.codeParsesUptoRow.named == Tryz.prog.varsNamed 5)=true:=by kernel_rfl
theorem k13:(Rows.codeParsesUptoRow.maps == (Tryz.f5.params.toList++(Rows.OpenSpec.upto Rows.codeParsesSpec).bare.plain.varTypes Tryz.prog).any (Tryz.prog.mapsRec ·))=true:=by kernel_rfl
theorem k14:(Rows.codeParsesUptoRow.ifaces == (Tryz.f5.params.toList++(Rows.OpenSpec.upto Rows.codeParsesSpec).bare.plain.varTypes Tryz.prog).any (Tryz.prog.ifacesRec ·))=true:=by kernel_rfl
theorem k15:(Rows.codeParsesUptoRow.mapsOut == Tryz.prog.mapsAmong Tryz.f5.resultTypes.toList)=true:=by kernel_rfl
theorem k16:(Rows.codeParsesUptoRow.loops == (Tryz.f5.params.toList++(Rows.OpenSpec.upto Rows.codeParsesSpec).bare.plain.varTypes Tryz.prog).any (Tryz.prog.loopsFrom ·))=true:=by kernel_rfl
theorem k17:(Rows.codeParsesUptoRow.wideKeys == (Tryz.f5.params.toList++(Rows.OpenSpec.upto Rows.codeParsesSpec).bare.plain.varTypes Tryz.prog++Tryz.f5.resultTypes.toList).any (Tryz.prog.wideKeysFrom ·))=true:=by kernel_rfl
theorem k18:(Rows.OpenSpec.upto Rows.codeParsesSpec).bare.vars.all (Tryz.prog.varReadable ·)=true:=by kernel_rfl
theorem k19:Tryz.f5.resultTypes.all (λt=>Tryz.prog.readableRec t&&decide (t<Tryz.prog.types.size))=true:=by kernel_rfl
theorem k20:(Rows.codeParsesUptoRow.ifacesOut == Tryz.f5.resultTypes.toList.any (Tryz.prog.ifacesRec ·))=true:=by kernel_rfl
theorem k21:(Rows.codeParsesUptoRow.loopsOut == Tryz.f5.resultTypes.toList.any (Tryz.prog.loopsFrom ·))=true:=by kernel_rfl
theorem k22:(Rows.codeParsesUptoRow.plainKeys == Tryz.prog.plainKeys)=true:=by kernel_rfl
theorem k23:Rows.codeParsesUptoRow.shortTexts.isNone=true:=by kernel_rfl
theorem k24:Tryz.prog.stopsHeard=true:=by kernel_rfl
theorem k25:Tryz.prog.mayEnter=true:=by kernel_rfl
theorem k26:(Rows.codeParsesUptoRow.lifted == Tryz.prog.liftsFinal)=true:=by kernel_rfl
theorem k27:(Tryz.prog.make == some Rows.codeParsesUptoRow.make)=true:=by kernel_rfl
theorem k28:(Rows.codeParsesUptoRow.kinds == (if Rows.codeParsesUptoRow.domain.isEmpty then [] else Tryz.f5.params.toList.map λt=>match Tryz.prog.underlying t with|some (.int k)=>some k|_=>none))=true:=by kernel_rfl
theorem k29:(Rows.codeParsesUptoRow.pinned == Rows.codeParsesUptoRow.pinnedBy)=true:=by kernel_rfl
theorem k30:(Rows.codeParsesUptoRow.veiled == (Tryz.f5.params.toList++(Rows.OpenSpec.upto Rows.codeParsesSpec).bare.plain.varTypes Tryz.prog++Tryz.f5.resultTypes.toList).any (Tryz.prog.veiledRec ·))=true:=by kernel_rfl
theorem k31:Rows.codeParsesUptoRow.veiledFits Tryz.prog Tryz.f5.params.toList (Tryz.f5.params.toList++(Rows.OpenSpec.upto Rows.codeParsesSpec).bare.plain.varTypes Tryz.prog++Tryz.f5.resultTypes.toList)=true:=by kernel_rfl
theorem facts:joinedFacts Tryz.prog 5 Tryz.f5 (Rows.OpenSpec.upto Rows.codeParsesSpec).bare Rows.codeParsesUptoRow=true:=by
 unfold joinedFacts;simp only[Bool.and_eq_true];exact⟨⟨⟨⟨⟨⟨⟨⟨⟨⟨⟨⟨⟨⟨⟨⟨⟨⟨⟨⟨⟨⟨⟨⟨⟨⟨⟨⟨⟨⟨⟨k0,k1⟩,k2⟩,k3⟩,k4⟩,k5⟩,k6⟩,k7⟩,k8⟩,k9⟩,k10⟩,k11⟩,k12⟩,k13⟩,k14⟩,k15⟩,k16⟩,k17⟩,k18⟩,k19⟩,k20⟩,k21⟩,k22⟩,k23⟩,k24⟩,k25⟩,k26⟩,k27⟩,k28⟩,k29⟩,k30⟩,k31⟩
end
section
open Go.ChangeShapes Go.WideShapes Go.ChangeAt Go.RowKit Go.LE
open Go.ChangeMaps (open_string shut_string)
set_option maxRecDepth 10000
theorem alL:Tryz.prog.globalNamed "strconv.ErrSyntax"=some 5:=by kernel_rfl
theorem ak9:Tryz.prog.globalNamed "strconv.ErrRange"=some 6:=by kernel_rfl
theorem akg:(Tryz.prog.globals[5]?).map (·.type)=some 93:=by kernel_rfl
theorem akr:(Tryz.prog.globals[6]?).map (·.type)=some 93:=by kernel_rfl
theorem amV:((begin Tryz.prog (λ_ _=>0) default).world.heap[1]?).bind Obj.row?=some (#[.int .i64 0],3):=by kernel_rfl
theorem Dw{W:World}{n nm:String}{g:Nat}{t:TypeId}{ms:Array (String×TypeId)}{d:DataW Unit}(hg:Tryz.prog.globalNamed n=some g)(ht:(Tryz.prog.globals[g]?).map (·.type)=some t)(hi:Tryz.prog.underlying t=some (.interface ms))(h:Lib.VarReads Tryz.prog W n (.iface nm d)):∃ u v,W.cell? ⟨g,0,none⟩=some (.iface u v):=by
 obtain⟨g',t',cs,fuel,p,h1,h2,h3,h4⟩:=h;obtain rfl:=Option.some.inj (hg.symm.trans h1);obtain rfl:=Option.some.inj (ht.symm.trans h2);have hc:=jB hg h3 0;cases fuel with
 |zero=>cases h4
 | succ fuel=>
  unfold DataW.trod at h4;rw[hi]at h4;generalize cs.toList=l at h4 hc;rcases l with _|⟨x,_|⟨y,l⟩⟩
  ·cases h4
  ·cases x with
   |iface u v=>exact⟨u,v,hc _ rfl⟩
   |nilIface=>simp at h4
   |_=>cases h4
  ·cases x<;>cases h4
theorem aaE(H:Type)(enc:TypeId×Value->H)(W:World)(base:Nat)(args:Array Value)(ds gs:List (DataW H))(before:List MemPlace)
  (hval:∀ (j:Nat) t v,Tryz.f5.params[j]?=some t->args[j]?=some v->Value.okWide Tryz.prog W .any base t v)
  (hW:DataW.Whole enc Tryz.prog Tryz.f5.params.toList Rows.codeParsesSpec.vars false W args.toList ds gs before) (hL:laidMetH Tryz.prog Rows.codeParsesUptoRow.laid W) (hk:Rows.uptoSmall H (ds++gs)=true) (hS:W.ShapedOpen Tryz.prog) :
  Calls Tryz.prog 5 args W λe W' => ∃ v,e=.returned v/\Rows.codeParsesSpec.post enc Tryz.prog Tryz.f5 false true false false W args v W' := by
 have hW' := hW;obtain⟨p,q,hA0,hV,rfl,hfz,hnd⟩:=hW;have hA:DataW.TrodAll enc Tryz.prog W 0 (λ_=>true) true Tryz.f5.params.toList args.toList ds p:=hA0;rw[Tryz.params5]at hA hval;obtain⟨v0,vs0,d0,ds0,p0,q0,hargs,rfl,rfl,h0,r0⟩:=trodAll_cons hA;obtain⟨rfl,rfl,rfl⟩:=trodAll_nil r0
 obtain rfl:args=#[v0]:=by cases args;simp_all
 obtain⟨rfl,rfl⟩:=trodVars_none hV;obtain⟨s,rfl,rfl,rfl,ha⟩:=open_string Tryz.underlying9 (hval 0 9 v0 rfl rfl) h0;have hL' : laidMet Tryz.prog Rows.codeParsesUptoRow.laid W:=hL;have g1:=SJ (Lib.laidMet.reads hL' (.tail _ (.tail _ (.head _))))
 have g2:=Q5 (Lib.laidMet.reads hL' (.tail _ (.tail _ (.tail _ (.tail _ (.tail _ (.tail _ (.head _))))))));have g3:=Sz (Lib.laidMet.reads hL' (.tail _ (.tail _ (.tail _ (.tail _ (.tail _ (.tail _ (.tail _ (.head _)))))))))
 have g4:=Dw alL akg Tryz.underlying93 (Lib.laidMet.reads hL' (.tail _ (.tail _ (.tail _ (.tail _ (.tail _ (.head _)))))));have g5:=Dw ak9 akr Tryz.underlying93 (Lib.laidMet.reads hL' (.tail _ (.tail _ (.tail _ (.tail _ (.head _))))))
 have g6:=cell_of_shapedOpen_int (P:=Tryz.prog) (g:=1) (t:=3) (k:=.i64) hS (of_decide_eq_true (by kernel_rfl)) amV (by kernel_rfl) (by kernel_rfl) (by kernel_rfl) Tryz.underlying3;have gL:gJ W (Out []):=⟨⟨by simp[Out],g6⟩,⟨by simp[Out],g4⟩,by simp[Out],g5⟩
 refine (MG s W ⟨⟨g3,g2⟩,g1,gL⟩ (by unfold maxLen at ha;omega)).mono λe W' ⟨he,hkp⟩=>?_
 subst he;exact⟨_,rfl,YI alU alj akP (by kernel_rfl) (tb:=4) rfl Tryz.underlying4 rfl hW' rfl rfl rfl hkp⟩
noncomputable def u7(os:Os):World:=World.laidAll Tryz.prog os Rows.codeParsesUptoRow.laid
def acX:Array Value:=#[.string .empty]
theorem XR(os:Os):laidMet Tryz.prog Rows.codeParsesUptoRow.laid ((u7 os).forCall (λ_ _=>0) ⟨#[],acX,[]⟩).memory:=
 laidMet_laidAll _ (by kernel_rfl) (by kernel_rfl)
theorem reads(os:Os){H:Type}(enc:TypeId×Value->H):∃ places,DataW.whole enc Tryz.prog ((u7 os).forCall (λ_ _=>0) ⟨#[],acX,[]⟩).memory Tryz.f5.params.toList Rows.codeParsesSpec.vars false acX.toList 8=some ([.lit (.string [])],[],places):=
 ⟨[],by kernel_rfl⟩
set_option maxRecDepth 100000 in
theorem lifted(os:Os)(started:os.Started)(H:Type)(enc:TypeId×Value->H)(F:Stop.Interp) :
  ReturnsInHanded {} Tryz.checked os 5 .any ((Rows.OpenSpec.upto Rows.codeParsesSpec).preRow enc Tryz.prog Tryz.f5 Rows.codeParsesUptoRow.domain false Rows.codeParsesUptoRow.laid) (((Rows.OpenSpec.upto Rows.codeParsesSpec).at F).post enc Tryz.prog Tryz.f5 false true false false):=by
 obtain⟨places,hx⟩:=reads os enc;refine returnsInHanded_of_row (C:=Tryz.checked) (s:=Rows.OpenSpec.upto Rows.codeParsesSpec) amJ started (by kernel_rfl) Tryz.func5
  (witness_row_at (enc:=enc) (C:=Tryz.checked) false (u7 os) acX (World.laidAll_os _ _ _) (by kernel_rfl) (by kernel_rfl) (by kernel_rfl)
   (OpenSpec.preRow_of_cond 8 hx (by kernel_rfl) (λk hk=>by cases hk;kernel_rfl) (by kernel_rfl) (XR os))) ?_
 intro W base args ds gs before hval hW _ hcond _ hL hS _;exact aaE H enc W base args ds gs before hval hW hL (hcond _ rfl) hS
theorem said:Rows.CodeParsesUptoSaid:=
 OpenClaim.holds_of_cond 5 Tryz.f5 rfl rfl rfl rfl rfl rfl rfl ⟨rfl,rfl,rfl,rfl,rfl⟩ rfl rfl rfl rfl rfl (by kernel_rfl) Tryz.func5 facts
  (of_decide_eq_true (by kernel_rfl)) (by unfold Func.isWrapper;first|(rw[if_pos (by decide +kernel)];kernel_rfl)|(rw[if_neg (by decide +kernel)];exact⟨rfl,rfl⟩))
  (λos started H enc _ F=>by rw[OpenClaim.pre_eq_preRow];exact lifted os started H enc F)
theorem plain(f:FuncId)(fn:Func)(hf:Tryz.pinned.checked.prog.funcNamed "loupe/loupelaw20.CodeParses"=some f)(hfn:Tryz.pinned.checked.prog.funcs[f]?=some fn) :
  true=Tryz.pinned.checked.prog.looks []/\∀ (j:Nat) t,fn.params[j]?=some t->Tryz.pinned.checked.prog.wantsStandIn t=false:=by
 obtain rfl:f=5:=Option.some.inj ((show Tryz.prog.funcNamed "loupe/loupelaw20.CodeParses"=some 5 by kernel_rfl).symm.trans hf) |>.symm;obtain rfl:fn=Tryz.f5:=(Option.some.inj (Tryz.func5.symm.trans hfn)).symm;refine⟨by kernel_rfl,λj t ht=>?_⟩;rw[Tryz.params5]at ht;obtain rfl:t=9:=by simpa using Array.mem_of_getElem? ht
 exact (show Tryz.prog.wantsStandIn 9=false by kernel_rfl)
theorem proved:Rows.CodeParsesUptoCardSaid:=
 Claim7.holds_tied_plain_at .later [] _ _ _ _ said (λ_ h=>by cases h) (by kernel_rfl) (λ_ h=>by cases h) codeParsesUpto_row_tie rfl ⟨rfl,rfl⟩ (by kernel_rfl) rfl plain (by kernel_rfl)
end
end Go.Proofs.YtnemkecffmdlnaaGreatDoor.codeParses
