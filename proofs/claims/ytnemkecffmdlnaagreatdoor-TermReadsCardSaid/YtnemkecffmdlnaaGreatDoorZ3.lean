/-
 Part 3 of the proof (packed).
-/
import Derived.Test.YtnemkecffmdlnaaGreatDoorZ2
import Derived.Lib.Bytealg
set_option linter.unusedSimpArgs false
set_option linter.unusedVariables false
set_option linter.defProp false
set_option maxHeartbeats 16000000
noncomputable section
namespace Go.Proofs.YtnemkecffmdlnaaGreatDoor
section
structure dX where
 place:Int
 alt:Option bU
 meet:Option bU
 gV:Int
 row:Option bU
 cM:Option bU
def ou(i:Int):dX:=⟨i,none,none,0,none,none⟩
def acU:Option bU->bU->bU
 |none,p=>p
 |some r,p=>.cat r p
def rowOf(row cM:Option bU):Option bU:=match cM with
 |none=>row
 |some p=>some (acU row p)
def uh(f:dX):dX:={ f with row:=rowOf f.row f.cM,cM:=none }
def zb(meet:Option bU)(gV:Int)(r:bU):bU:=match meet with
 |none=>r
 |some m=>if gV=38 then .and m r else .minus m r
def wD(f:dX):dX:={ f with meet:=some (zb f.meet f.gV ((rowOf f.row f.cM).getD .bV)),row:=none,cM:=none }
def VC(alt:Option bU)(m:bU):bU:=match alt with
 |none=>m
 |some a=>.alt a m
def oS(f:dX):bU:=zb f.meet f.gV ((rowOf f.row f.cM).getD .bV)
def ov(f:dX):bU:=VC f.alt (oS f)
def Gx(f:dX):dX:={ f with alt:=some (ov f),meet:=none,row:=none,cM:=none }
section
variable (c:Int->Int)(N:Int)(rd:Int->Except (Int×Int) (BitVec 256×Int))
def zc(i:Int)(f:dX)(p:bU):Except (Int×Int) (Int×dX):=
 if c i=42 then .ok (i+1,{ f with cM:=some (.rep p 0 (-1)) })
 else if c i=43 then .ok (i+1,{ f with cM:=some (.rep p (-2) (-1)) })
 else if c i=63 then .ok (i+1,{ f with cM:=some (.rep p 0 1) })
 else match jR c N i with
  |.error e=>.error e
  |.ok (m,n,j)=>.ok (j,{ f with cM:=some (.rep p m n) })
def nr(i:Int)(f:dX)(rest:List dX):Except (Int×Int) (Int×dX×List dX):=
 if ic (c i) then
  match f.cM with
  |none=>.error (20,i)
  |some p=>match zc c N i f p with
   |.error e=>.error e
   |.ok (j,g)=>.ok (j,g,rest)
 else if c i=124 then .ok (i+1,Gx f,rest)
 else if c i=38\/c i=45 then .ok (i+1,{ wD f with gV:=c i },rest)
 else if c i=41 then
  match rest with
  |[]=>.error (20,i)
  |g::r=>.ok (i+1,{ g with cM:=some (ov f) },r)
 else if c i=40 then
  if 1000<rest.length+1 then .error (23,i) else .ok (i+1,ou i,uh f::rest)
 else match rd i with
  |.error e=>.error e
  |.ok (S,j)=>.ok (j,{ uh f with cM:=some (.cls S) },rest)
def runN:Nat->Int->dX->List dX->Except (Int×Int) (dX×List dX)
 |0,_,f,rest=>.ok (f,rest)
 |n+1,i,f,rest=>
  if i<N then match nr c N rd i f rest with
   |.error e=>.error e
   |.ok (j,g,r)=>runN n j g r
  else .ok (f,rest)
def run(i:Int)(f:dX)(rest:List dX):Except (Int×Int) (dX×List dX):=runN c N rd ((N-i).toNat+1) i f rest
def rf:Except (Int×Int) (dX×List dX)->Except (Int×Int) bU
 |.error e=>.error e
 |.ok (f,rest)=>if rest≠[] then .error (21,f.place) else if 2000<(ov f).aw then .error (24,0) else .ok (ov f)
def AR:Except (Int×Int) bU:=if 1048576<N then .error (1,0) else rf (run c N rd 0 (ou (-1)) [])
variable {c N rd}
def vn(N:Int)(rd:Int->Except (Int×Int) (BitVec 256×Int)):Prop:=∀i S j,0<=i->i<N->rd i=.ok (S,j)->i<j/\j<=N
theorem acV:∀(k:Nat) (n i:Int),i<=(mm c N k n i).2/\((mm c N k n i).2<=N\/(mm c N k n i).2=i):=by
 intro k
 induction k with
 |zero=>grind [mm]
 |succ k bb=>grind [mm]
theorem Qr{i n j:Int}(h:np c N i=.ok (n,j)):i<j/\j<=N:=by
 have:=acV (c:=c) (N:=N) 3 0 i
 grind [np]
theorem Ms{i m n j:Int}(h:jR c N i=.ok (m,n,j)):i<j/\j<=N:=by
 unfold jR at h;cases D:np c N (i+1) with
 |error e=>simp_all
 |ok p=>
  obtain⟨Mt,AS⟩:=p;rw[D]at h;simp only at h;have g1:=Qr D;cases O:qz c N Mt AS with
  |error e=>simp_all
  |ok p=>
   obtain⟨jh,zd⟩:=p;rw[O]at h;simp only at h;have g2:AS <= zd/\zd<=N:=by
    unfold qz at O;split at O
    ·split at O
     ·have:=Qr O;omega
     grind
    simp_all
   grind [wA]
theorem acW{i m n j:Int}(h:jR c N i=.ok (m,n,j)):0<=m/\(n=-1\/(0<=n/\m<=n)):=by
 have nP:∀(k:Nat) (n i:Int),0<=n->0<=(mm c N k n i).1:=by
  intro k
  induction k with
  |zero=>grind [mm]
  |succ k bb=>grind [mm]
 have ne:∀{i n j:Int},np c N i=.ok (n,j)->0<=n:=λ{i n j} h=>by grind [np]
 unfold jR at h;cases D:np c N (i+1) with
 |error e=>simp_all
 |ok p=>
  obtain⟨Mt,AS⟩:=p;rw[D]at h
  grind [qz,wA]
theorem acX(iD:vn N rd){i j:Int}{f g:dX}{rest r:List dX}(A:0<=i)(hi:i<N)(h:nr c N rd i f rest=.ok (j,g,r)):i<j/\j<=N:=by
 unfold nr at h;split at h
 ·cases aW:f.cM with
  |none=>simp_all
  |some p=>
   rw[aW]at h;simp only at h;cases hp:zc c N i f p with
   |error e=>simp_all
   |ok q=>
    obtain⟨AS,Ax⟩:=q;rw[hp]at h;simp only[ng,ll]at h;obtain⟨rfl,rfl,rfl⟩:=h;unfold zc at hp;split at hp
    ·grind
    ·split at hp
     ·grind
     ·split at hp
      ·grind
      ·cases Z:jR c N i with
       |error e=>simp_all
       |ok q=>obtain⟨m,n,k⟩:=q;rw[Z]at hp;simp only[ng,ll]at hp;have:=Ms Z;omega
 grind [vn]
theorem aqb(iD:vn N rd):∀(n m:Nat) (i:Int) (f:dX) (rest:List dX),0<=i->N-i<n->N-i<m->runN c N rd n i f rest=runN c N rd m i f rest:=by
 intro n
 induction n with
 |zero=>
  intro m i f rest A D O;cases m with
  |zero=>rfl
  |succ m=>grind [runN]
 |succ n bb=>
  intro m i f rest A D O;cases m with
  |zero=>grind
  |succ m=>
   simp only[runN];by_cases hi:i<N
   ·rw[al hi,al hi];cases V:nr c N rd i f rest with
    |error e=>rfl
    |ok q=>
     obtain⟨j,g,r⟩:=q;have:=acX iD A hi V
     grind
   grind
theorem acY{i:Int}{f:dX}{rest:List dX}(hi:¬i<N):run c N rd i f rest=.ok (f,rest):=by grind [run,runN]
theorem AT(iD:vn N rd){i:Int}{f:dX}{rest:List dX}(A:0<=i)(hi:i<N):run c N rd i f rest=match nr c N rd i f rest with
  |.error e=>.error e
  |.ok (j,g,r)=>run c N rd j g r:=by
 unfold run;rw[runN,al hi];cases V:nr c N rd i f rest with
 |error e=>rfl
 |ok q=>
  obtain⟨j,g,r⟩:=q;have:=acX iD A hi V
  grind [aqb]
theorem aqc(iD:vn N rd):∀(n:Nat) (i:Int) (p:bU) (f:dX) (rest:List dX),0<=i->i<=N->N-i<n->f.cM=some p ->
  match nq c N n p.val i with
  |.error e=>rf (run c N rd i f rest)=.error e
  |.ok (r,j)=>i<=j/\j<=N/\(j<N->¬ic (c j))/\∃q,r=bU.val q/\run c N rd i f rest=run c N rd j { f with cM:=some q } rest:=by
 intro n
 induction n with
 |zero=>omega
 |succ n bb=>
  intro i p f rest A ui aE aW;have same:f={ f with cM:=some p }:=by cases f;simp_all
  have go:∀(q:bU) (j:Int),i<j->j<=N->nr c N rd i f rest=.ok (j,{ f with cM:=some q },rest)->∀res,nq c N (n+1) p.val i=res->nq c N n q.val j=res ->
    match res with
    |.error e=>rf (run c N rd i f rest)=.error e
    |.ok (r,j)=>i<=j/\j<=N/\(j<N->¬ic (c j))/\∃q,r=bU.val q/\run c N rd i f rest=run c N rd j { f with cM:=some q } rest:=by
   intro q j lN aqd V res _ aI;have:=bb j q { f with cM:=some q } rest (by omega) aqd (by omega) rfl;rw[aI]at this;have hi:i<N:=by omega
   rw[AT iD A hi,V]
   grind
  by_cases hi:i<N
  ·have lQ:∀x,ic (c i)->zc c N i f p=x->nr c N rd i f rest=match x with|.error e=>.error e|.ok (j,g)=>.ok (j,g,rest):=λx hp aB=>by
    unfold nr
    grind
   have aZ:nq c N (n+1) p.val i=if c i=42 then nq c N n (qf p.val) (i+1)
     else if c i=43 then nq c N n (eV .cat p.val (qf p.val)) (i+1)
     else if c i=63 then nq c N n (jx p.val) (i+1)
     else if c i=123 then
      match jR c N i with
      |.error e=>.error e
      |.ok (m,jh,j)=>nq c N n (nO p.val m jh) j
     else .ok (p.val,i):=by
    grind [nq]
   by_cases Mu:c i=42
   ·grind [acQ,ic,zc]
   ·by_cases Ct:c i=43
    ·grind [acR,ic,zc]
    ·by_cases pk:c i=63
     ·grind [aqa,ic,zc]
     ·by_cases xS:c i=123
      ·have D1:zc c N i f p=match jR c N i with
         |.error e=>.error e
         |.ok (m,n,j)=>.ok (j,{ f with cM:=some (.rep p m n) }):=by
        grind [zc]
       rw[aZ,ab Mu,ab Ct,ab pk,al xS];cases Z:jR c N i with
       |error e=>grind [AT,ic,rf]
       |ok x=>
        obtain⟨m,jh,j⟩:=x;have g1:=Ms Z;obtain⟨g2,g3⟩:=acW Z
        grind [acT,Gw,ic]
      grind [ic]
  grind [nq]
def Jj(c:Int->Int)(N:Int)(rd:Int->Except (Int×Int) (BitVec 256×Int))(n:Nat):Prop:=∀(i:Int) (f:dX) (rest:List dX),0<=i->i<N->¬pB (c i)->¬ic (c i)->rest.length+n=1000 ->
  match gv c N rd n i with
  |.error e=>rf (run c N rd i f rest)=.error e
  |.ok (r,j)=>i<j/\j<=N/\∃t,r=bU.val t/\run c N rd i f rest=run c N rd j { uh f with cM:=some t } rest
theorem acZ(o:Option bU):wB (o.map bU.val)=(o.getD .bV).val:=by cases o<;>rfl
def aqe(o:Option bU)(p:bU):za (o.map bU.val) p.val=(acU o p).val:=by cases o<;>rfl
theorem VD(iD:vn N rd){n:Nat}(aQ:Jj c N rd n):∀(k:Nat) (i:Int) (f:dX) (rest:List dX),0<=i->i<=N->N-i<k->(f.cM≠none->i<N->¬ic (c i))->rest.length+n=1000 ->
  match j8 c N (gv c N rd n) k ((rowOf f.row f.cM).map bU.val) i with
  |.error e=>rf (run c N rd i f rest)=.error e
  |.ok (r,j)=>i<=j/\j<=N/\(j<N->pB (c j))/\∃row cM,r=((rowOf row cM).getD .bV).val/\run c N rd i f rest=run c N rd j { f with row:=row,cM:=cM } rest:=by
 intro k
 induction k with
 |zero=>omega
 |succ k bb=>
  intro i f rest A ui ad hp ak;by_cases hi:i<N
  ·by_cases he:pB (c i)
   ·grind [acZ,j8]
   ·by_cases D1:ic (c i)
    ·rw[j8,ab (by omega),ab he,al D1];have aW:f.cM=none:=by
      simp_all
     simp only;rw[AT iD A hi]
     simp_all [nr,rf]
    ·rw[j8,ab (by omega),ab he,ab D1];have D:=aQ i f rest A hi he D1 ak;cases cb:gv c N rd n i with
     |error e=>simp_all
     |ok x=>
      obtain⟨a,j⟩:=x;rw[cb]at D;obtain⟨g1,g2,t,rfl,g3⟩:=D;have O:=aqc (c:=c) iD (N.toNat+1) j t { uh f with cM:=some t } rest (by omega) g2 (by omega) rfl;simp only;cases dW:nq c N (N.toNat+1) t.val j with
      |error e=>simp_all
      |ok y=>
       obtain⟨p,l⟩:=y;rw[dW]at O;obtain⟨g4,g5,g6,q,rfl,g7⟩:=O;simp only;have B:=bb l { uh f with cM:=some q } rest (by omega) g5 (by omega) (λ_=>g6) ak;have bg:some (za ((rowOf f.row f.cM).map bU.val) q.val)=(rowOf (uh f).row (some q)).map bU.val:=by rw[aqe];rfl
       rw[bg]
       grind [uh]
  ·rw[j8,al hi,acZ]
   grind
theorem aqf(iD:vn N rd){n:Nat}(aQ:Jj c N rd n):∀(k:Nat) (i:Int) (f:dX) (rest:List dX),0<=i->i<=N->N-i<k->(i<N->pB (c i))->rest.length+n=1000 ->
  match wC c N (j8 c N (gv c N rd n) (N.toNat+1) none) k (oS f).val i with
  |.error e=>rf (run c N rd i f rest)=.error e
  |.ok (r,j)=>i<=j/\j<=N/\(j<N->c j=124\/c j=41)/\∃g:dX,g.place=f.place/\g.alt=f.alt/\r=(oS g).val/\run c N rd i f rest=run c N rd j g rest:=by
 intro k
 induction k with
 |zero=>omega
 |succ k bb=>
  intro i f rest A ui ad he ak;by_cases hi:i<N
  ·have go:∀(mk:bU->bU->bU) (VE:bm->bm->bm),(∀a b:bU,eV VE a.val b.val=(mk a b).val)->(c i=38\/c i=45)->(∀(m:bU) (g:dX),g.meet=some m->g.gV=c i->oS g=mk m ((rowOf g.row g.cM).getD .bV)) ->
     match(match j8 c N (gv c N rd n) (N.toNat+1) none (i+1) with
      |.error e=>(.error e:Except (Int×Int) (cH×Int))
      |.ok (r,j)=>wC c N (j8 c N (gv c N rd n) (N.toNat+1) none) k (eV VE (oS f).val r) j) with
     |.error e=>rf (run c N rd i f rest)=.error e
     |.ok (r,j)=>i<=j/\j<=N/\(j<N->c j=124\/c j=41)/\∃g:dX,g.place=f.place/\g.alt=f.alt/\r=(oS g).val/\run c N rd i f rest=run c N rd j g rest:=by
    intro mk VE Mv J aqg;have V:nr c N rd i f rest=.ok (i+1,{ wD f with gV:=c i },rest):=by
     unfold nr
     grind [ic]
    have D:=VD iD aQ (N.toNat+1) (i+1) { wD f with gV:=c i } rest (by omega) (by omega) (by omega) (λh=>absurd rfl h) ak;have aI:run c N rd i f rest=run c N rd (i+1) { wD f with gV:=c i } rest:=by grind [AT]
    have cv:(rowOf ({ wD f with gV:=c i }:dX).row ({ wD f with gV:=c i }:dX).cM).map bU.val=none:=rfl;rw[cv]at D;revert D;cases j8 c N (gv c N rd n) (N.toNat+1) none (i+1) with
    |error e=>simp_all
    |ok aE7=>
     obtain⟨r,j⟩:=aE7;rintro⟨g1,g2,g3,row,cM,rfl,g4⟩;simp only;rw[Mv];have aK:mk (oS f) ((rowOf row cM).getD .bV)=oS { wD f with gV:=c i,row:=row,cM:=cM }:=(aqg (oS f) { wD f with gV:=c i,row:=row,cM:=cM } rfl rfl).symm;rw[aK]
     grind [wD]
   by_cases Gy:c i=38
   ·rw[wC,ab (by omega),al Gy];exact go .and .and (λa b=>rfl) (.inl Gy) λm g D O=>by simp_all [oS,zb]
   ·by_cases AU:c i=45
    ·rw[wC,ab (by omega),ab Gy,al AU];exact go .minus .minus (λa b=>rfl) (.inr AU) λm g D O=>by simp_all [oS,zb]
    grind [wC,pB]
  grind [wC]
theorem VF(iD:vn N rd){n:Nat}(aQ:Jj c N rd n)(i:Int)(f:dX)(rest:List dX)(A:0<=i)(ui:i<=N)(ak:rest.length+n=1000)(D:f.meet=none)(O:f.row=none)(B:f.cM=none) :
  match vm c N (j8 c N (gv c N rd n) (N.toNat+1) none) i with
  |.error e=>rf (run c N rd i f rest)=.error e
  |.ok (r,j)=>i<=j/\j<=N/\(j<N->c j=124\/c j=41)/\∃g:dX,g.place=f.place/\g.alt=f.alt/\r=(oS g).val/\run c N rd i f rest=run c N rd j g rest:=by
 have g:=VD iD aQ (N.toNat+1) i f rest A ui (by omega) (λh=>absurd B h) ak;have cv:(rowOf f.row f.cM).map bU.val=none:=by grind [rowOf]
 rw[cv]at g;unfold vm;revert g;cases j8 c N (gv c N rd n) (N.toNat+1) none i with
 |error e=>simp
 |ok aE7=>
  obtain⟨r,j⟩:=aE7;rintro⟨g1,g2,g3,row,cM,rfl,g4⟩;simp only;have hm:(rowOf row cM).getD .bV=oS { f with row:=row,cM:=cM }:=by unfold oS;rw[D];rfl
  rw[hm];have bn:=aqf iD aQ (N.toNat+1) j { f with row:=row,cM:=cM } rest (by omega) g2 (by omega) g3 ak
  grind
theorem aqh(iD:vn N rd){n:Nat}(aQ:Jj c N rd n):∀(k:Nat) (i:Int) (f:dX) (rest:List dX),0<=i->i<=N->N-i<k->(i<N->c i=124\/c i=41)->rest.length+n=1000 ->
  match AQ c N (vm c N (j8 c N (gv c N rd n) (N.toNat+1) none)) k (ov f).val i with
  |.error e=>rf (run c N rd i f rest)=.error e
  |.ok (r,j)=>i<=j/\j<=N/\(j<N->c j=41)/\∃g:dX,g.place=f.place/\r=(ov g).val/\run c N rd i f rest=run c N rd j g rest:=by
 intro k
 induction k with
 |zero=>omega
 |succ k bb=>
  intro i f rest A ui ad he ak;by_cases hi:i<N/\c i=124
  ·rw[AQ,al hi];have V:nr c N rd i f rest=.ok (i+1,Gx f,rest):=by
    simp_all [nr,ic]
   have aI:run c N rd i f rest=run c N rd (i+1) (Gx f) rest:=by grind [AT]
   have D:=VF iD aQ (i+1) (Gx f) rest (by omega) (by omega) ak rfl rfl rfl;revert D;cases vm c N (j8 c N (gv c N rd n) (N.toNat+1) none) (i+1) with
   |error e=>simp_all
   |ok aE7=>
    obtain⟨r,j⟩:=aE7;rintro⟨g1,g2,g3,g,g4,g5,rfl,g6⟩;simp only;have bg:eV .alt (ov f).val (oS g).val=(ov g).val:=by
     have:ov g=.alt (ov f) (oS g):=by show VC g.alt (oS g)=_;rw[g5];rfl
     rw[this];rfl
    rw[bg];have O:=bb j g rest (by omega) g2 (by omega) g3 ak;revert O;cases AQ c N (vm c N (j8 c N (gv c N rd n) (N.toNat+1) none)) k (ov g).val j with
    |error e=>simp_all
    |ok y=>obtain⟨cE,zd⟩:=y;rintro⟨g7,g8,g9,Ax,g10,g11,g12⟩;exact⟨by omega,g8,g9,Ax,by rw[g10,g4];rfl,g11,by simp_all⟩
  grind [AQ]
theorem VG(iD:vn N rd){n:Nat}(aQ:Jj c N rd n)(i p:Int)(rest:List dX)(A:0<=i)(ui:i<=N)(ak:rest.length+n=1000) :
  match xR c N (gv c N rd n) i with
  |.error e=>rf (run c N rd i (ou p) rest)=.error e
  |.ok (r,j)=>i<=j/\j<=N/\(j<N->c j=41)/\∃g:dX,g.place=p/\r=(ov g).val/\run c N rd i (ou p) rest=run c N rd j g rest:=by
 have D:=VF iD aQ i (ou p) rest A ui ak rfl rfl rfl;unfold xR Vy;revert D;cases vm c N (j8 c N (gv c N rd n) (N.toNat+1) none) i with
 |error e=>simp
 |ok aE7=>
  obtain⟨r,j⟩:=aE7;rintro⟨g1,g2,g3,g,g4,g5,rfl,g6⟩;simp only;have bg:(oS g).val=(ov g).val:=by
   have:ov g=oS g:=by grind [VC,ov,ou]
   rw[this]
  rw[bg];have O:=aqh iD aQ (N.toNat+1) j g rest (by omega) g2 (by omega) g3 ak
  grind [ou]
def ac0(iD:vn N rd)(i:Int)(f:dX)(rest:List dX)(A:0<=i)(hi:i<N)(he:¬pB (c i))(hp:¬ic (c i))(oT:c i≠40) :
  match Cr rd i with
  |.error e=>rf (run c N rd i f rest)=.error e
  |.ok (r,j)=>i<j/\j<=N/\∃t,r=bU.val t/\run c N rd i f rest=run c N rd j { uh f with cM:=some t } rest:=by
 have V:nr c N rd i f rest=match rd i with
  |.error e=>.error e
  |.ok (S,j)=>.ok (j,{ uh f with cM:=some (.cls S) },rest):=by
  simp_all [pB,nr]
 unfold Cr;rw[AT iD A hi,V];cases bp:rd i with
 |error e=>rfl
 |ok q=>obtain⟨S,j⟩:=q;have:=iD i S j A hi bp;exact⟨this.1,this.2,.cls S,rfl,rfl⟩
theorem Mw(iD:vn N rd):∀n,Jj c N rd n:=by
 intro n
 induction n with
 |zero=>
  intro i f rest A hi he hp ak;by_cases oT:c i=40
  ·rw[gv,al oT];simp only;rw[AT iD A hi]
   simp_all [nr,rf]
  ·rw[gv,ab oT];exact ac0 iD i f rest A hi he hp oT
 |succ n bb=>
  intro i f rest A hi he hp ak;by_cases oT:c i=40
  ·rw[gv,al oT];have V:nr c N rd i f rest=.ok (i+1,ou i,uh f::rest):=by
    unfold nr
    grind
   have aI:run c N rd i f rest=run c N rd (i+1) (ou i) (uh f::rest):=by grind [AT]
   have D:=VG iD bb (i+1) i (uh f::rest) (by omega) (by omega) (by grind);revert D;cases xR c N (gv c N rd n) (i+1) with
   |error e=>grind [Jh]
   |ok aE7=>
    obtain⟨r,j⟩:=aE7;rintro⟨g1,g2,g3,g,g4,rfl,g5⟩;simp only[Jh];by_cases Y:j<N
    ·rw[ab (by omega)];have AV:=g3 Y;have rP:nr c N rd j g (uh f::rest)=.ok (j+1,{ uh f with cM:=some (ov g) },rest):=by
      simp_all [nr,ic]
     grind [AT]
    grind [acY,rf]
  ·rw[gv,ab oT];exact ac0 iD i f rest A hi he hp oT
def Cu:Except (Int×Int) bU->Except (Int×Int) bm
 |.error e=>.error e
 |.ok t=>.ok t.expand
theorem aqi(iD:vn N rd)(db:0<=N):Mp c N rd=Cu (AR c N rd):=by
 unfold Mp AR;by_cases Z:1048576<N
 ·grind [Cu]
 ·rw[ab Z,ab Z];have D:=VG iD (Mw (c:=c) iD 1000) 0 (-1) [] (by omega) db rfl;unfold alts;revert D;cases xR c N (gv c N rd 1000) 0 with
  |error e=>grind [Gu,Cu]
  |ok aE7=>
   obtain⟨r,j⟩:=aE7;rintro⟨g1,g2,g3,g,g4,rfl,g5⟩;rw[g5];by_cases Y:j<N
   ·have AV:=g3 Y;have V:nr c N rd j g []=.error (20,j):=by
     simp_all [nr,ic]
    grind [AT,Gu,Cu,rf]
   ·rw[acY Y]
    grind [Gu,bU.val,Cu,rf]
end
end
section
open Go.RowKit Go.LE Go.Proofs.Tryz
abbrev dc:=BitVec 256
def wd(S:dc)(j:Nat):Int:=((S.extractLsb' (64*j) 64).toNat:Int)
def hv(S:dc):List Value:=[.int .u64 (wd S 0),.int .u64 (wd S 1),.int .u64 (wd S 2),.int .u64 (wd S 3)]
def Mx(x:BitVec 64):IntKind.u64.wrap ((x.toNat:Nat):Int)=((x.toNat:Nat):Int):=by have:=x.isLt;simp only[IntKind.wrap,IntKind.bits,IntKind.signed,O6,xo,wc,TI,show(2:Int)^64=18446744073709551616 from rfl];omega
def Gz(x:BitVec 64):BitVec.ofInt 64 ((x.toNat:Nat):Int)=x:=by simp
def ac1(x y:BitVec 64):ia .or .u64 (x.toNat:Nat) (y.toNat:Nat)=((x ||| y).toNat:Nat):=by show IntKind.u64.wrap (((BitVec.ofInt 64 ((x.toNat:Nat):Int) ||| BitVec.ofInt 64 ((y.toNat:Nat):Int):BitVec 64).toNat:Nat):Int)=_;rw[Gz,Gz,Mx]
def VH(x y:BitVec 64):ia .and .u64 (x.toNat:Nat) (y.toNat:Nat)=((x &&& y).toNat:Nat):=by show IntKind.u64.wrap (((BitVec.ofInt 64 ((x.toNat:Nat):Int) &&& BitVec.ofInt 64 ((y.toNat:Nat):Int):BitVec 64).toNat:Nat):Int)=_;rw[Gz,Gz,Mx]
def aqj(x y:BitVec 64):ia .xor .u64 (x.toNat:Nat) (y.toNat:Nat)=((x ^^^ y).toNat:Nat):=by show IntKind.u64.wrap (((BitVec.ofInt 64 ((x.toNat:Nat):Int) ^^^ BitVec.ofInt 64 ((y.toNat:Nat):Int):BitVec 64).toNat:Nat):Int)=_;rw[Gz,Gz,Mx]
def aqk(S T:dc)(j:Nat):ia .or .u64 (wd S j) (wd T j)=wd (S ||| T) j:=by rw[wd,wd,ac1,wd,BitVec.extractLsb'_or]
def aql(S T:dc)(j:Nat):ia .and .u64 (wd S j) (wd T j)=wd (S &&& T) j:=by rw[wd,wd,VH,wd,BitVec.extractLsb'_and]
def Qs(S:dc)(j:Nat)(Y:j<4):ia .xor .u64 (if IntKind.u64.signed=true then -1 else IntKind.u64.max) (wd S j)=wd (~~~S) j:=by
 have e:(if IntKind.u64.signed=true then -1 else IntKind.u64.max)=(((BitVec.allOnes 64).toNat:Nat):Int):=by decide
 rw[e,wd,aqj,wd]
 congr 2
 apply Ic;intro i hi;have O:64*j+i<256:=U;rw[BitVec.getLsbD_xor,BitVec.getLsbD_allOnes,Ae,Ae,OR];simp[hi,O]
def wE(S:dc)(b:Nat):dc:=S ||| (1#256 <<< b)
def My(S:dc)(b i:Nat)(Z:b<256):(wE S b).getLsbD i=(S.getLsbD i||decide (i=b)):=by
 simp only[wE,Tv,ZC,OS];by_cases hi:i=b
 ·subst hi;simp[Z]
 ·have h:¬(i<256/\b<=i/\i-b=0):=U;by_cases D:i<256<;>by_cases O:i<b<;>simp[D,O,hi]<;>omega
def aqm(b:Nat)(Z:b<64):IntKind.u64.wrap (1*2^(min b 64))=(((1#64 <<< b).toNat:Nat):Int):=by
 rw[Nat.min_eq_left U];have h:(1#64 <<< b).toNat=2^b:=by rw[BitVec.toNat_shiftLeft,Nat.shiftLeft_eq];have:2^b<2^64:=Nat.pow_lt_pow_right U Z;simp;omega
 rw[<- Mx,h];simp
def Qt(S:dc)(b:Nat)(Z:b<256):ia .or .u64 (wd S (b/64)) (IntKind.u64.wrap (1*2^(min (b%64) 64)))=wd (wE S b) (b/64):=by
 rw[aqm _ (Nat.mod_lt _ U),wd,ac1,wd]
 congr 2
 apply Ic;intro i hi;have VI:=Nat.div_add_mod b 64;rw[Tv,Ae,Ae,My _ _ _ Z,ZC,OS];have e:decide (64*(b/64)+i=b)=decide (i=b%64):=by rw[uV];omega
 rw[e];by_cases D:i=b%64
 ·subst D;simp[hi]
 ·by_cases O:i<b%64<;>simp[hi,D,O]<;>omega
def aqn(S:dc)(b j:Nat)(Z:b<256)(Y:j≠b/64):wd (wE S b) j=wd S j:=by
 rw[wd,wd]
 congr 2
 apply Ic;intro i hi;rw[Ae,Ae,My _ _ _ Z];have:decide (64*j+i=b)=false:=by rw[uT];omega
 rw[this,Bool.or_false]
def aqo(S:dc)(b:Nat)(Z:b<256):(hv S).take (b/64)++.int .u64 (wd (wE S b) (b/64))::(hv S).drop (b/64+1)=hv (wE S b):=by
 have z:b/64<4:=U;have ne:∀j,j≠b/64->wd S j=wd (wE S b) j:=λj Y=>(aqn S b j Z Y).symm
 generalize Mn:b/64=q at *
 match q,z with
 |0,_=>simp[hv,ne 1,ne 2,ne 3]
 |1,_=>simp[hv,ne 0,ne 2,ne 3]
 |2,_=>simp[hv,ne 0,ne 1,ne 3]
 |3,_=>simp[hv,ne 0,ne 1,ne 2]
def aqp(S:dc)(b:Nat)(Z:b<256):decide (ia .and .u64 ((wd S (b/64)).fdiv (2^(min (b%64) 64))) 1=1)=S.getLsbD b:=by
 have hm:b%64<64:=Nat.mod_lt _ U;rw[Nat.min_eq_left U];have bg:(wd S (b/64)).fdiv (2^(b%64))=(((S.extractLsb' (64*(b/64)) 64) >>> (b%64)).toNat:Nat):=by
  rw[wd,BitVec.toNat_ushiftRight,Nat.shiftRight_eq_div_pow];have:(2:Int)^(b%64)=((2^(b%64):Nat):Int):=by simp
  rw[this,Th _ (Tr _)];rfl
 rw[bg,show(1:Int)=(((1#64).toNat:Nat):Int) from rfl,VH];rw[TB,oa];have VI:=Nat.div_add_mod b 64;constructor
 ·intro h;have bu:(S.extractLsb' (64*(b/64)) 64 >>> (b%64)) &&& 1#64=1#64:=BitVec.eq_of_toNat_eq (by exact_mod_cast h);have:=fZ (λx=>x.getLsbD 0) bu;simp only[BitVec.getLsbD_and,ZA,Ae,OS]at this;simpa [hm,VI] using this
 ·intro h;have bu:(S.extractLsb' (64*(b/64)) 64 >>> (b%64)) &&& 1#64=1#64:=by
   apply Ic;intro i hi;simp only[BitVec.getLsbD_and,ZA,Ae,OS];by_cases A:i=0
   ·subst A;simp[hm,VI,h]
   ·simp[A]
  rw[bu]
def Mz(b:Nat):((b:Int)).fdiv 64=((b/64:Nat):Int):=by rw[Th _ U];omega
def ac2(b:Nat)(Z:b<256):ia .and .u8 (b:Int) 63=((b%64:Nat):Int):=by
 have:∀b:Fin 256,ia .and .u8 ((b.val:Nat):Int) 63=((b.val%64:Nat):Int):=by decide +kernel
 exact this ⟨b,Z⟩
def aqq(b:Nat)(Z:b<256):ia .and .i64 (b:Int) 63=((b%64:Nat):Int):=by
 have:∀b:Fin 256,ia .and .i64 ((b.val:Nat):Int) 63=((b.val%64:Nat):Int):=by decide +kernel
 exact this ⟨b,Z⟩
def Jk(S:dc)(j:Nat)(Y:j<4):(List.map ag.v (hv S)).getD j (.v undef)=.v (.int .u64 (wd S j)):=by
 match j,Y with
 |0,_=>rfl
 |1,_=>rfl
 |2,_=>rfl
 |3,_=>rfl
def Qu(S:dc)(b:Nat)(Z:b<256):List.take (b/64) (List.map ag.v (hv S))++[ag.v (.int .u64 (wd (wE S b) (b/64)))]++List.drop (b/64+1) (List.map ag.v (hv S))=List.map ag.v (hv (wE S b)):=by rw[<- aqo S b Z];simp
theorem VJ(S:dc):(List.map ag.v (hv S)).length=4:=rfl
end
section
open Go.RowKit Go.LE Go.Proofs.Tryz
set_option maxRecDepth 10000
variable{W:ar}{s:ao}
def aa:Env prog:=⟨λ_=>none,λ_=>none,λ_ _=>none⟩
def jS(S:dc):Value:=.agg (hv S).toArray
theorem uj(S:dc):Value.agg (hv S).toArray=jS S:=rfl
theorem MA(S:dc):(hv S).length=4:=rfl
theorem GA(S:dc):List.take 4 ((hv S).map ag.v)=(hv S).map ag.v:=rfl
theorem GB(S:dc):List.drop 4 ((hv S).map ag.v)=[]:=rfl
theorem GC(S:dc):jO ((hv S).map ag.v)=some (hv S):=rfl
theorem GD(S:dc):((hv S).map ag.v).all jq=true:=rfl
theorem VK(E:dF)(S:dc):den E (.agg ((hv S).map ag.v))=jS S:=rfl
theorem GF(S:dc):((hv S).map ag.v).length=4:=rfl
theorem xT(S:dc):partsOf (.v (jS S))=(hv S).map ag.v:=rfl
def ac3(S:dc)(j i:Nat)(hi:i<64):(BitVec.ofInt 64 (wd S j)).getLsbD i=S.getLsbD (64*j+i):=by rw[wd,Gz,Ae];simp[hi]
def MB(S T:dc)(h:jS S=jS T):S=T:=by
 have h:(hv S)=hv T:=fZ (λv=>match v with|Value.agg a=>a.toList|_=>[]) h;simp only[hv,pZ,Value.int.injEq,yL,we]at h;have cv:=h.1;have bg:=h.2.1;have bN:=h.2.2.1;have dQ:=h.2.2.2;apply Ic;intro i hi
 have key:∀j,wd S j=wd T j->i/64=j->S.getLsbD i=T.getLsbD i:=λj e Y=>by have D:=ac3 S j (i%64) U;have O:=ac3 T j (i%64) U;rw[e]at D;have:64*j+i%64=i:=U;rw[this]at D O;rw[<- D,<- O]
 have:i/64=0\/i/64=1\/i/64=2\/i/64=3:=U;rcases this with h|h|h|h
 ·exact key 0 cv h
 ·exact key 1 bg h
 ·exact key 2 bN h
 ·exact key 3 dQ h
def Ej:=(hV @Fy @K8 @Ch @DZ @jS.eq_1 @aqk @aql)
def aqr(S T:dc)(w:ar):cQ 274 #[jS S,jS T] w (jS (S ||| T)):=by refine cB (nt:=26) [.cell 4 309] func274 ?_;refine bk aa (I Ej @hv.eq_1) ?_;exact bE Ej
def aqs(S:dc)(w:ar):cQ 224 #[jS S] w (jS (~~~S)):=by have A:=Qs S 0 U;have D:=Qs S 1 U;have O:=Qs S 2 U;have B:=Qs S 3 U;refine cB (nt:=16) [.cell 2 309] func224 ?_;refine aA aa (I Ej @hv.eq_1) ?_;refine aA aa (eI Ej @hv.eq_1 A D O B) ?_;exact bE Ej
def aqt(S:dc)(b:Nat)(Z:b<256)(w:ar):cQ 225 #[jS S,.int .u8 b] w (.bool (S.getLsbD b)):=by have z:b/64<4:=U;refine cB (nt:=14) [.tmp 4] func225 ?_;refine aA aa Ej ?_;refine aA aa (eI Ej @Mz (ac2 b Z) (Jk S _ z) (aqp S b Z) @VJ) ?_;exact bE Ej
def ze(lo:Nat):Nat->dc
 |0=>0
 |n+1=>wE (ze lo n) (lo+n)
def span(lo hi:Nat):dc:=ze lo (hi+1-lo)
def ac4(lo:Nat):∀(n i:Nat),lo+n<=256->(ze lo n).getLsbD i=decide (lo<=i/\i<lo+n)
 |0,i,_=>by simp[ze]
 |n+1,i,h=>by rw[ze,My _ _ _ U,ac4 lo n i U,<- O7,uV];omega
def ac5(lo hi i:Nat)(h:hi<256):(span lo hi).getLsbD i=decide (lo<=i/\i<=hi):=by
 by_cases aN:lo<=hi
 ·rw[span,ac4 _ _ _ U,uV];omega
 ·rw[span,show hi+1-lo=0 by omega,ze];simp;omega
def VL:(hv 0).map ag.v=[ag.v (.int .u64 0),ag.v (.int .u64 0),ag.v (.int .u64 0),ag.v (.int .u64 0)]:=by simp[hv,wd]
def qB:=(de @Fy @K8 @Ch @DZ @jS.eq_1)
def aqu(lo hi:Nat)(aN:lo<256)(hh:hi<256)(w:ar):cQ 271 #[.int .u8 lo,.int .u8 hi] w (jS (span lo hi)):=by
 have y8:IntKind.i64.wrap (lo:Int)=lo:=gb U U;have dp:IntKind.i64.wrap (hi:Int)=hi:=gb U U;refine cB (nt:=25) [.cell 4 309] func271 ?_;refine bk aa qB ?_;refine ae.seq (ae.seq ?_);refine bY aa (I qB y8) ?_;refine ae.block ?_
 refine ae.loop (λj:Nat=>⟨2,bK [(1,.is (.v (.int .u8 hi))),(4,.is (.own 0 0)),(5,.is (.own 8 0)),(6,(lo+j:Nat))],bA [(0,.cells 309 [.v (.int .u64 0),.v (.int .u64 0),.v (.int .u64 0),.v (.int .u64 0)]),(8,.cells 309 ((hv (ze lo j)).map .v))]⟩)
  (λj=>j<=hi+1-lo) (λj=>hi+1-lo-j) 0 ?_ (ef _) ?_
 ·exact bh (b3 qB @ze.eq_1 @ze.eq_2 @VL)
 rintro j D;have Ek:=dv ((lo+j:Nat):Int);refine bk aa (I qB dp) ?_;refine bC qB ?_ ?_<;>intro J
 ·simp only[oa]at J;have Z:lo+j<256:=U;have z:(lo+j)/64<4:=U;have wn:=iv (((lo+j:Nat):Int)+1) ((lo+(j+1):Nat):Int);refine a1 ?_;refine ae.seq (ae.block ?_);refine AM aa (hV qB @Mz (aqq _ Z) (λgW=>Jk gW _ z) (λgW=>Qt gW _ Z) (λgW=>Qu gW _ Z) @VJ) ?_
  refine bY aa (I qB wn) ?_;refine⟨j+1,U,U,?_⟩;exact bh (hV qB @ze.eq_1 @ze.eq_2 @Mz (λgW=>Jk gW _ z) (λgW=>Qt gW _ Z) (λgW=>Qu gW _ Z))
 ·simp only[uT]at J;have Y:j=hi+1-lo:=U;refine c6 ?_;refine aA aa (I qB @hv.eq_1) ?_;refine bf qB ?_;subst Y;exact λE=>rfl
def qg(s:ao):Nat->dc
 |0=>0
 |n+1=>wE (qg s n) (af s n).toNat
def vo(s:ao)(i:Int):0<=af s i/\af s i<256:=by unfold af;have:=(s.data[i.toNat]?.getD 0).toNat_lt;omega
def aqv(s:ao)(V:s.size<=140737488351232)(w:ar):cQ 245 #[s] w (jS (qg s s.size)):=by
 refine cB (nt:=25) [.cell 2 309] func245 ?_;refine ti aa qB ?_
 refine ae.loop (λj:Nat=>⟨2,bK [(0,s),(2,.is (.own 0 0)),(3,.is (.own 8 0)),(6,s.size),(7,j)],bA [(0,.cells 309 [.v (.int .u64 0),.v (.int .u64 0),.v (.int .u64 0),.v (.int .u64 0)]),(8,.cells 309 ((hv (qg s j)).map .v))]⟩)
  (λj=>j<=s.size) (λj=>s.size-j) 0 ?_ (ef _) ?_
 ·exact bh (b3 qB @qg.eq_1 @qg.eq_2 @VL)
 rintro j D;refine bk aa qB ?_;refine bC qB ?_ ?_<;>intro J
 ·simp only[oa]at J;have Y:j<s.size:=U;obtain⟨lx,eh⟩:=vo s j;obtain⟨b,El⟩:=l7 lx;have Z:b<256:=U;have z:b/64<4:=U;have aqw:qg s (j+1)=wE (qg s j) b:=by rw[qg,El];rfl
  have wn:=fK j;refine gJ aa qB ?_;refine AM aa (ch qB El @Mz (ac2 _ Z) (λgW=>Jk gW _ z) (λgW=>Qt gW _ Z) (λgW=>Qu gW _ Z) @VJ) ?_;refine bY aa (I qB wn) ?_;refine⟨j+1,U,U,?_⟩
  exact bh (hV qB aqw El @Mz (λgW=>Jk gW _ z) (λgW=>Qt gW _ Z) (λgW=>Qu gW _ Z))
 ·simp only[uT]at J;have Y:j=s.size:=U;refine c6 ?_;refine aA aa (I qB @hv.eq_1) ?_;refine bf qB ?_;subst Y;exact λE=>rfl
def h2(s:ao)(c:Int):Int:=Lib.indexByte s.data.toList c.toNat.toUInt8
abbrev PT:Qc prog 231 where
 pre:=λ_ _=>λ| [.val (.string _),.val (.int .u8 _)]=>True|_=>False
 res:=λ_=>λ| [.val (.string s),.val (.int .u8 c)]=>.int .i64 (h2 s c)|_=>undef
 ok:=by
  intro W w bs us aj ad hu hp;split at hp
  ·rename_i s c
   match us,hu with
   |[u,v],hu=>obtain⟨rfl,rfl,_⟩:=hu;rw[run_callFunc_extern func231 (by kernel_rfl) (by kernel_rfl) (by kernel_rfl) (e:=Extern.BytealgIndexByte.indexByte) (by kernel_rfl),Lib.run_indexByteString];rfl
  ·exact hp.elim
abbrev aqx:Env prog:=a7 PT.spec aa
def ez:=(ch @Fy @K8 @Ch @DZ @qa @pr.eq_1 @pt @qd)
def VM:=ez
def aqy(s:ao)(c:Int)(w:ar):cQ 189 #[s,.int .u8 c] w (.int .i64 (h2 s c)):=by refine cB (nt:=8) [.tmp 4] func189 ?_;refine bk aqx VM ?_;exact bE VM
abbrev aqz:cV prog 189:=oR (λ| [.val (.string s),.val (.int .u8 c)]=>some (s,c)|_=>none) call189 λav w=>aqy av.1 av.2 w
abbrev Jl:Env prog:=a7 aqz.spec aa
def AW:=VM
def aqA(s:ao)(c:Int)(w:ar):cQ 138 #[s,.int .u8 c] w (.int .i64 (h2 s c)):=by refine cB (nt:=8) [.tmp 4] func138 ?_;refine bk Jl AW ?_;exact bE AW
abbrev Qv:cV prog 138:=oR (λ| [.val (.string s),.val (.int .u8 c)]=>some (s,c)|_=>none) call138 λav w=>aqA av.1 av.2 w
def sz(s:ao)(i:Int):List br:=[.val (.string s),.val (.int .i64 i)]
def Em(i:Int):List PanicEntry:=[{ v:=.iface 39 (.agg #[.int .i64 10,.int .i64 i,.string ⟨#[]⟩]),recovered:=false }]
def aqB(s:ao)(i:Int)(u:aM)(fp:aD)(w:ar)(A:0<=i)(H:eH w u fp 375 (sz s i))(ax:∀b∈fp,b<w.heap.size) :
  Calls prog 272 (#[u]++#[]) w λe M=>h0 w u fp 375 e M (.ret (.tuple #[.int .u8 (af s i),(decide (i<s.size))]) (sz s i)):=by
 refine jP (nt:=23) [.tmp 2,.tmp 3] H ax func272 ?_;refine bk Jl (I AW @sz.eq_1) ?_;refine hs Jl AW ?_;refine bC AW ?_ ?_<;>intro J
 ·simp only[oa]at J;refine hs Jl AW ?_;refine bf AW ?_;exact⟨_,_,rfl,λE=>by rw[nJ J];rfl,_,_,rfl,rfl,aq⟩
 ·simp only[uT]at J;have Z:af s i=0:=by
   unfold af;rw[ON (by have:s.data.size=s.size:=rfl;omega)];rfl
  refine bk Jl AW ?_;refine bf AW ?_;exact⟨_,_,rfl,λE=>by rw[yJ J,Z];rfl,_,_,rfl,rfl,aq⟩
abbrev Qw:iO prog 272:=sy 375 (λ| [.val (.string s),.val (.int .i64 i)],[]=>some (s,i)|_,_=>none) (λav W bs=>0<=av.2) call272 λav W w bs u fp ad hp H ax fi=>aqB av.1 av.2 u fp w hp H ax
def aqC(s:ao)(i j:Int)(u:aM)(fp:aD)(w:ar)(H:eH w u fp 375 (sz s i))(ax:∀b∈fp,b<w.heap.size) :
  Calls prog 273 (#[u]++#[.int .i64 j]) w λe M=>h0 w u fp 375 e M (.b7 (Em j) (.tuple #[])):=by
 refine jP (nt:=7) [] H ax func273 ?_;refine ae.gz Jl bX (aJ (I AW @sz.eq_1)) ?_ ?_
 ·exact ot
 exact cC
abbrev Qx:iO prog 273:=sy 375 (λ| [.val (.string s),.val (.int .i64 i)],[.val (.int .i64 j)]=>some (s,i,j)|_,_=>none) (λav W bs=>True) call273 λav W w bs u fp ad hp H ax fi=>aqC av.1 av.2.1 av.2.2 u fp w H ax
abbrev GG:Env prog:=a7 Qv.spec (a7 Qw.spec (a7 Qx.spec aa))
def ko:ByteArray:=⟨#[48,49,50,51,52,53,54,55,56,57,97,98,99,100,101,102]⟩
def MC(s:ao):Except Int (Int×Int)->j7
 |.ok (b,j)=>.ret (.int .u8 b) (sz s j)
 |.error j=>.b7 (Em j) (.int .u8 0)
def mn(s:ao)(i:Int):Except Int (Int×Int):=if i<s.size/\0<=h2 ko (af s i) then .ok (h2 ko (af s i),i+1) else .error i
def Qy(c:Int)(A:0<=c)(D:c<256):-1<=h2 ko c/\h2 ko c<16:=by
 obtain⟨n,rfl⟩:=l7 A;have:∀b:Fin 256,-1<=h2 ko ((b.val:Nat):Int)/\h2 ko ((b.val:Nat):Int)<16:=by decide +kernel
 exact this ⟨n,U⟩
def rh{n:Int}(A:0<=n)(D:n<256):IntKind.u8.wrap n=n:=by simp only[IntKind.wrap,IntKind.bits,IntKind.signed,O6,xo,wc,TI,show(2:Int)^8=256 from rfl];omega
theorem ac6(s:ao)(b j:Int):MC s (.ok (b,j))=.ret (.int .u8 b) (sz s j):=rfl
theorem ac7(s:ao)(j:Int):MC s (.error j)=.b7 (Em j) (.int .u8 0):=rfl
def Cv:=(aT ez @sz.eq_1 @Em.eq_1)
def aqD(s:ao)(i:Int)(u:aM)(fp:aD)(w:ar)(A:0<=i)(V:s.size<=140737488351232)(H:eH w u fp 375 (sz s i))(ax:∀b∈fp,b<w.heap.size) :
  Calls prog 276 (#[u]++#[]) w λe M=>h0 w u fp 375 e M (MC s (mn s i)):=by
 obtain⟨lx,eh⟩:=vo s i;obtain⟨dw,ee⟩:=Qy _ lx eh;refine jP (nt:=34) [.tmp 2] H ax func276 ?_;refine aA GG Cv ?_;refine aL GG Cv ?_ ?_
 ·simp[A]
 refine bk GG Cv ?_;refine aR GG Cv ?_ ?_<;>intro J
 ·have he:mn s i=.error i:=by
   rw[mn,ab];simp[ko]at J ⊢;omega
  rw[he];refine ae.gz GG bX (aJ Cv) ?_ ?_
  ·simp
  exact cC
 ·have hi:i<s.size/\0<=h2 ko (af s i):=by
   simp[ko]at J ⊢;omega
  have he:mn s i=.ok (h2 ko (af s i),i+1):=by rw[mn,al hi]
  have dp:=dv (i+1);have kI:IntKind.u8.wrap (h2 ko (af s i))=h2 ko (af s i):=rh hi.2 U;rw[he];refine bk GG (I Cv dp) ?_;refine aA GG (I Cv kI) ?_;refine bf Cv ?_
  exact⟨_,_,rfl,λE=>by simp only[den];rw[show h2 ko (af s i)=h2 ⟨#[48,49,50,51,52,53,54,55,56,57,97,98,99,100,101,102]⟩ (af s i) from rfl]at kI;exact fZ _ kI,_,_,rfl,rfl,aq⟩
abbrev aqE:iO prog 276:=sy 375 (λ| [.val (.string s),.val (.int .i64 i)],[]=>some (s,i)|_,_=>none) (λav W bs=>0<=av.2/\av.1.size<=140737488351232) call276 λav W w bs u fp ad hp H ax fi=>aqD av.1 av.2 u fp w hp.1 hp.2 H ax
abbrev kZ:Env prog:=a7 Qv.spec (a7 Qw.spec (a7 Qx.spec (a7 aqE.spec aa)))
def gl(W:ar)(S:aY):Prop:=S 4/\W.cell? ⟨4,0,none⟩=some (.int .u8 110)/\W.cell? ⟨4,0+1,none⟩=some (.int .u8 10)/\W.cell? ⟨4,0+1+1,none⟩=some (.int .u8 114)/\W.cell? ⟨4,0+1+1+1,none⟩=some (.int .u8 13) /\
 W.cell? ⟨4,0+1+1+1+1,none⟩=some (.int .u8 116)/\W.cell? ⟨4,0+1+1+1+1+1,none⟩=some (.int .u8 9)
theorem gl.mono{W aO:World}{S bz:Nat->Prop}(h:gl W S)(V:bT W S aO bz):gl aO bz:=by
 obtain⟨A,D,O,B,aU,bn,cA⟩:=h;have g:∀o v,W.cell? ⟨4,o,none⟩=some v->aO.cell? ⟨4,o,none⟩=some v/\bz 4:=λo v au=>by have:=gd.mono (b:=4) (o:=o) (v:=v) ⟨A,au⟩ V;exact⟨this.2,this.1⟩
 exact⟨(g _ _ D).2,(g _ _ D).1,(g _ _ O).1,(g _ _ B).1,(g _ _ aU).1,(g _ _ bn).1,(g _ _ cA).1⟩
def gl.km{W w:ar}{bs fp:aD}(h:gl W (Out bs))(ad:cr W bs w)(hm:∀b∈fp,W.heap.size<=b\/b∈bs):gl w (Out fp):=h.mono λb Z V=>⟨ad.block b Z V,λdO=>(hm b dO).elim (λg=>absurd g (rG.2 Z)) V⟩
def iE(s:ao)(i:Int):Except Int (Int×Int):=
 if¬i<s.size then .error i
 else if af s i=110 then .ok (10,i+1)
 else if af s i=114 then .ok (13,i+1)
 else if af s i=116 then .ok (9,i+1)
 else if af s i=120 then
  match mn s (i+1) with
  |.error j=>.error j
  |.ok (h,j)=>match mn s j with
   |.error k=>.error k
   |.ok (l,k)=>.ok (16*h+l,k)
 else if(((af s i<32\/126<af s i)\/48<=af s i/\af s i<=57)\/97<=af s i/\af s i<=122)\/65<=af s i/\af s i<=90 then .error i
 else .ok (af s i,i+1)
def MD{i h j:Int}(he:mn s i=.ok (h,j))(A:0<=i):0<=h/\h<16/\j=i+1/\i<s.size:=by
 rw[mn]at he;split at he
 ·rename_i J;simp only[ng,ll]at he;obtain⟨rfl,rfl⟩:=he;obtain⟨lx,eh⟩:=vo s i;have:=Qy _ lx eh;exact⟨J.2,this.2,rfl,J.1⟩
 ·cases he
def aqF(h l:Int)(A:0<=h)(D:h<16)(aqG:0<=l)(mP:l<16):ia .or .u8 (IntKind.u8.wrap (h*16)) l=16*h+l:=by
 obtain⟨n,rfl⟩:=l7 A;obtain⟨m,rfl⟩:=l7 aqG;have:∀a b:Fin 16,ia .or .u8 (IntKind.u8.wrap (((a.val:Nat):Int)*16)) ((b.val:Nat):Int)=16*((a.val:Nat):Int)+((b.val:Nat):Int):=by decide +kernel
 exact this ⟨n,U⟩ ⟨m,U⟩
def h3:=(aT Cv @ac6 @ac7)
def aqH(s:ao)(i:Int)(u:aM)(fp:aD)(w:ar)(A:0<=i)(V:s.size<=140737488351232)(aK:gl w (Out fp))(H:eH w u fp 375 (sz s i))(ax:∀b∈fp,b<w.heap.size) :
  Calls prog 275 (#[u]++#[]) w λe M=>h0 w u fp 375 e M (MC s (iE s i)):=by
 obtain⟨lx,eh⟩:=vo s i;obtain⟨g0,g1,g2,g3,g4,g5,g6⟩:=aK;have aqI:¬4∈fp:=g0;refine jP (nt:=99) [.tmp 2] H ax func275 ?_;refine aA kZ h3 ?_;refine aL kZ h3 ?_ ?_
 ·simp[A]
 refine ae.seq ?_;refine aR kZ h3 ?_ ?_<;>intro J
 ·simp at J;have he:iE s i=.error i:=by rw[iE,al U]
  rw[he];refine ae.gz kZ bX (aJ h3) ?_ ?_
  ·simp
  exact cC
 ·simp at J;have hi:i<s.size:=U;have dp:=dv (i+1);refine a1 ?_;refine ae.seq ?_;refine aL kZ (hV h3 g1 g2 g3 g4 g5 g6) ?_ ?_
  ·simp[Out,aqI,cP,ag.keys]
  refine ae.block ?_
  refine ae.loop (λk:Nat=>⟨40,bK [(0,.is (.own 0 0)),(3,.is (.v (.int .u8 (af s i)))),(21,.is (.agg [.v (.int .u8 110),.v (.int .u8 10),.v (.int .u8 114),.v (.int .u8 13),.v (.int .u8 116),.v (.int .u8 9)])),(22,k)],bA [(0,.cells 375 [s,i])]⟩)
   (λk=>k<=3/\(0<k->af s i≠110)/\(1<k->af s i≠114)/\(2<k->af s i≠116)) (λk=>3-k) 0 ?_ ⟨U,U,U,U⟩ ?_
  ·exact bh h3
  rintro k ⟨pA,e8,dz,kn⟩;refine bk kZ h3 ?_;refine bC h3 ?_ ?_<;>intro J
  ·simp at J;refine a1 ?_;have wF:k<3:=U;have VN:k=0\/k=1\/k=2:=U;refine ae.seq (ae.block ?_);rcases VN with rfl|rfl|rfl
   ·skip;refine aA kZ h3 ?_;refine aR kZ h3 ?_ ?_<;>intro J
    ·simp at J;have he:iE s i=.ok (10,i+1):=by rw[iE,ab U,al U]
     rw[he];refine aA kZ (I h3 dp) ?_;refine aA kZ h3 ?_;refine bf h3 ?_;exact⟨_,_,rfl,λE=>rfl,_,_,rfl,rfl,aq⟩
    ·simp at J;refine a1 ?_;refine bY kZ h3 ?_;refine⟨1,⟨U,U,U,U⟩,U,?_⟩;exact bh h3
   ·skip;refine aA kZ h3 ?_;refine aR kZ h3 ?_ ?_<;>intro J
    ·simp at J;have he:iE s i=.ok (13,i+1):=by rw[iE,ab U,ab (e8 U),al U]
     rw[he];refine aA kZ (I h3 dp) ?_;refine aA kZ h3 ?_;refine bf h3 ?_;exact⟨_,_,rfl,λE=>rfl,_,_,rfl,rfl,aq⟩
    ·simp at J;refine a1 ?_;refine bY kZ h3 ?_;refine⟨2,⟨U,U,U,U⟩,U,?_⟩;exact bh h3
   ·skip;refine aA kZ h3 ?_;refine aR kZ h3 ?_ ?_<;>intro J
    ·simp at J;have he:iE s i=.ok (9,i+1):=by rw[iE,ab U,ab (e8 U),ab (dz U),al U]
     rw[he];refine aA kZ (I h3 dp) ?_;refine aA kZ h3 ?_;refine bf h3 ?_;exact⟨_,_,rfl,λE=>rfl,_,_,rfl,rfl,aq⟩
    ·simp at J;refine a1 ?_;refine bY kZ h3 ?_;refine⟨3,⟨U,U,U,U⟩,U,?_⟩;exact bh h3
  ·simp at J;have aqJ:k=3:=U;subst aqJ;refine c6 ?_;refine ae.seq ?_;refine aR kZ h3 ?_ ?_<;>intro J
   ·simp at J;have he:iE s i=match mn s (i+1) with
      |.error j=>.error j
      |.ok (h,j)=>match mn s j with
       |.error k=>.error k
       |.ok (l,k)=>.ok (16*h+l,k):=by rw[iE,ab U,ab U,ab U,ab U,al J]
    refine aA kZ (I h3 dp) ?_;cases D:mn s (i+1) with
    |error j=>
     rw[he,D];refine ae.fe kZ bX (aJ (I h3 D)) ?_ ?_
     ·simp[dp];omega
     exact cC
    |ok p=>
     obtain⟨h,j⟩:=p;obtain⟨eN,gK,rfl,ji⟩:=MD D U;refine aL kZ (I h3 D) ?_ ?_
     ·simp[dp];omega
     cases O:mn s (i+1+1) with
     |error j=>
      rw[he,D];simp only[O];refine ae.fe kZ bX (aJ (I h3 O)) ?_ ?_
      ·simp[dp];omega
      exact cC
     |ok p=>
      obtain⟨l,j⟩:=p;obtain⟨eW,cR,rfl,sr⟩:=MD O U;rw[he,D];simp only[O];refine aL kZ (I h3 O) ?_ ?_
      ·simp[dp];omega
      refine bf h3 ?_;exact⟨_,_,rfl,λE=>by simp only[den];rw[aqF h l eN gK eW cR],_,_,rfl,rfl,aq⟩
   ·simp at J;refine a1 ?_;refine ae.seq ?_;refine aR kZ h3 ?_ ?_<;>intro J
    ·simp at J;have he:iE s i=.error i:=by rw[iE,ab U,ab U,ab U,ab U,ab (by assumption),al J]
     rw[he];refine ae.gz kZ bX (aJ h3) ?_ ?_
     ·exact ot
     exact cC
    ·have aE:¬((((af s i<32\/126<af s i)\/48<=af s i/\af s i<=57)\/97<=af s i/\af s i<=122)\/65<=af s i/\af s i<=90):=by
      intro h;apply pY.1 J;simp;exact h
     have he:iE s i=.ok (af s i,i+1):=by rw[iE,ab U,ab U,ab U,ab U,ab (by assumption),ab aE]
     rw[he];refine bk kZ (I h3 dp) ?_;refine aA kZ h3 ?_;refine bf h3 ?_;exact⟨_,_,rfl,λE=>rfl,_,_,rfl,rfl,aq⟩
abbrev aqK:iO prog 275:=sy 375 (λ| [.val (.string s),.val (.int .i64 i)],[]=>some (s,i)|_,_=>none) (λav W bs=>0<=av.2/\av.1.size<=140737488351232/\gl W (Out bs)) call275 λav W w bs u fp ad hp H ax fi=>aqH av.1 av.2 u fp w hp.1 hp.2.1 (hp.2.2.km ad fi) H ax
abbrev AX:Env prog:=a7 Qv.spec (a7 Qw.spec (a7 Qx.spec (a7 aqK.spec aa)))
def iQ(s:ao)(i:Int)(q:ao):Except Int (Int×Int):=
 if i<s.size/\af s i=92 then iE s (i+1)
 else if((¬i<s.size\/af s i<32)\/126<af s i)\/0<=h2 q (af s i) then .error i
 else .ok (af s i,i+1)
def xU:=h3
def aqL(s:ao)(i:Int)(q:ao)(u:aM)(fp:aD)(w:ar)(A:0<=i)(V:s.size<=140737488351232)(aK:gl w (Out fp))(H:eH w u fp 375 (sz s i))(ax:∀b∈fp,b<w.heap.size) :
  Calls prog 270 (#[u]++#[.string q]) w λe M=>h0 w u fp 375 e M (MC s (iQ s i q)):=by
 obtain⟨lx,eh⟩:=vo s i;refine jP (nt:=56) [.tmp 4] H ax func270 ?_;refine aA AX xU ?_;refine aL AX xU ?_ ?_
 ·simp[A]
 refine ae.seq ?_;refine aR AX xU ?_ ?_<;>intro J
 ·simp at J;have dp:=dv (i+1);have he:iQ s i q=iE s (i+1):=by rw[iQ,al J]
  rw[he];refine aA AX (I xU dp) ?_;cases D:iE s (i+1) with
  |error j=>
   refine ae.fe AX bX (aJ (I xU D)) ?_ ?_
   ·simp[dp,V];exact⟨U,aK⟩
   exact cC
  |ok p=>obtain⟨b,j⟩:=p;refine aA AX (I xU D) ?_;refine bf xU ?_;exact⟨_,_,rfl,λE=>rfl,_,_,rfl,rfl,aq⟩
 ·have aE:¬(i<s.size/\af s i=92):=λh=>by
   apply pY.1 J;simp;exact h
  refine a1 ?_;refine ae.seq ?_;refine aR AX xU ?_ ?_<;>intro J
  ·simp at J;have he:iQ s i q=.error i:=by
    rw[iQ,ab aE,al];omega
   rw[he];refine ae.gz AX bX (aJ xU) ?_ ?_
   ·simp
   exact cC
  ·have iM:¬(((¬i<s.size\/af s i<32)\/126<af s i)\/0<=h2 q (af s i)):=λh=>by
    apply pY.1 J;simp;omega
   have he:iQ s i q=.ok (af s i,i+1):=by rw[iQ,ab aE,ab iM]
   have dp:=dv (i+1);rw[he];refine bk AX (I xU dp) ?_;refine aA AX xU ?_;refine bf xU ?_;exact⟨_,_,rfl,λE=>rfl,_,_,rfl,rfl,aq⟩
abbrev ac8:iO prog 270:=sy 375 (λ| [.val (.string s),.val (.int .i64 i)],[.val (.string q)]=>some (s,i,q)|_,_=>none) (λav W bs=>0<=av.2.1/\av.1.size<=140737488351232/\gl W (Out bs)) call270 λav W w bs u fp ad hp H ax fi=>aqL av.1 av.2.1 av.2.2 u fp w hp.1 hp.2.1 (hp.2.2.km ad fi) H ax
def aqM{i b j:Int}(he:iE s i=.ok (b,j))(A:0<=i):0<=b/\b<256/\i<j/\j<=s.size:=by
 obtain⟨lx,eh⟩:=vo s i;rw[iE]at he;split at he
 ·cases he
 ·rename_i D;split at he
  ·simp only[ng,ll]at he;omega
  ·split at he
   ·simp only[ng,ll]at he;omega
   ·split at he
    ·simp only[ng,ll]at he;omega
    ·split at he
     ·cases O:mn s (i+1) with
      |error k=>rw[O]at he;cases he
      |ok p=>
       obtain⟨h,k⟩:=p;rw[O]at he;obtain⟨eN,gK,ea,ji⟩:=MD O U;simp only at he;cases B:mn s k with
       |error eS=>rw[B]at he;cases he
       |ok p=>obtain⟨l,eS⟩:=p;rw[B]at he;obtain⟨eW,cR,cE,sr⟩:=MD B U;simp only[ng,ll]at he;omega
     ·split at he
      ·cases he
      ·simp only[ng,ll]at he;omega
def Cw{i b j:Int}{q:ao}(he:iQ s i q=.ok (b,j))(A:0<=i):0<=b/\b<256/\i<j/\j<=s.size:=by
 obtain⟨lx,eh⟩:=vo s i;rw[iQ]at he;split at he
 ·have:=aqM he U;omega
 ·split at he
  ·cases he
  ·simp only[ng,ll]at he;omega
abbrev VO:cV prog 224:=oR (λ| [.val mo]=>dec jS mo|_=>none) call224 λav w=>aqs av w
abbrev aqN:cV prog 274:=oR (λ| [.val mo,.val vp]=>(dec jS mo).bind λS=>(dec jS vp).map λT=>(S,T)|_=>none) call274 λav w=>aqr av.1 av.2 w
def wG(lo hi:Int):dc:=span lo.toNat hi.toNat
abbrev ac9:cV prog 271:=kH (λ| [.val (.int .u8 lo),.val (.int .u8 hi)]=>some (lo,hi)|_=>none) (λav W bs=>0<=av.1/\av.1<256/\0<=av.2/\av.2<256) call271 (e:=λav=>#[.int .u8 av.1,.int .u8 av.2]) (res:=λav=>jS (wG av.1 av.2)) λav W w bs ad hp=>by obtain⟨lo,hi⟩:=av;try dsimp only at hp;obtain⟨j5,qe,oP,zf⟩:=hp;have:=aqu lo.toNat hi.toNat U U w;rwa [OP j5,OP oP]at this
abbrev VP:cV prog 245:=kH (λ| [.val (.string s)]=>some (s)|_=>none) (λav W bs=>av.size<=140737488351232) call245 λav W w bs ad hp=>aqv av hp w
abbrev ow:Env prog:=a7 Qw.spec (a7 Qx.spec (a7 ac8.spec (a7 VO.spec (a7 aqN.spec (a7 ac9.spec (a7 VP.spec aa))))))
def iw:ByteArray:=⟨#[92,93,91,45,94,47]⟩
def wH(s:ao):Nat->Int->dc->Except Int (dc×Int)
 |0,i,_=>.error i
 |n+1,i,a=>
  if i<s.size/\af s i=93 then .ok (a,i+1) else
  match iQ s i iw with
  |.error j=>.error j
  |.ok (lo,j)=>
   if j<s.size/\af s j=45 then
    match iQ s (j+1) iw with
    |.error k=>.error k
    |.ok (hi,k)=>if hi<lo then .error (j+1) else wH s n k (a ||| wG lo hi)
   else wH s n j (a ||| wG lo lo)
def Qz(b:Bool)(a:dc):dc:=if b then ~~~a else a
def mq(s:ao)(i:Int):Bool:=decide (i<s.size)&&decide (af s i=94)
def wI(b:Bool):Except Int (dc×Int)->Except Int (dc×Int)
 |.error j=>.error j
 |.ok (a,j)=>.ok (Qz b a,j)
def AY(s:ao)(i:Int):Except Int (dc×Int):=wI (mq s i) (wH s (s.size+1) (if mq s i then i+1 else i) 0)
def QA(s:ao):Except Int (dc×Int)->j7
 |.ok (a,j)=>.ret (jS a) (sz s j)
 |.error j=>.b7 (Em j) (jS 0)
theorem ME(s:ao)(a:dc)(j:Int):QA s (.ok (a,j))=.ret (jS a) (sz s j):=rfl
theorem MF(s:ao)(j:Int):QA s (.error j)=.b7 (Em j) (jS 0):=rfl
def kJ:=(I (ch ez @sz.eq_1 @Em.eq_1 @ac6 @ac7 @uj @MA @GA) (ch @GB @GC @GD @xT @VK @GF @TG (uf MB)))
def aqO(s:ao)(i:Int)(u:aM)(fp:aD)(w:ar)(A:0<=i)(V:s.size<=140737488351232)(aK:gl w (Out fp))(H:eH w u fp 375 (sz s i))(ax:∀b∈fp,b<w.heap.size) :
  Calls prog 269 (#[u]++#[]) w λe M=>h0 w u fp 375 e M (QA s (AY s i)):=by
 obtain⟨lx,eh⟩:=vo s i;refine jP (nt:=90) [.cell 2 309] H ax func269 ?_;refine bk ow kJ ?_;refine aL ow kJ ?_ ?_
 ·simp[A]
 refine aA ow kJ ?_;generalize kk:(if mq s i then i+1 else i)=i0;have IF:0<=i0/\i0<=i+1:=by rw[<- kk];split<;>omega
 generalize dW:wH s (s.size+1) i0 0=R;have hm:AY s i=wI (mq s i) R:=by rw[AY,kk,dW]
 refine fR ⟨40,bK [(0,.is (.own 0 0)),(2,.is (.own 8 0)),(3,.is (.own 16 0)),(6,(mq s i))],bA [(0,.cells 375 [s,i0]),(8,.cells 309 [.v (.int .u64 0),.v (.int .u64 0),.v (.int .u64 0),.v (.int .u64 0)]),(16,.cells 309 [.v (.int .u64 0),.v (.int .u64 0),.v (.int .u64 0),.v (.int .u64 0)])]⟩ ?_ ?_
 ·skip;refine aR ow kJ ?_ ?_<;>intro J
  ·have uk:mq s i=true:=J;rw[uk]at kk;simp only[wg]at kk;simp at J;have dp:=dv (i+1);refine bY ow (I kJ dp) ?_;subst kk;exact bh (I kJ @mq.eq_1)
  ·have uk:mq s i=false:=J;rw[uk]at kk;simp only[xo,wc]at kk;refine a1 ?_;subst kk;exact bh (I kJ @mq.eq_1)
 refine ae.seq ?_;refine ae.block ?_
 refine ae.loop (λp:Nat×Int×dc=>⟨40,bK [(0,.is (.own 0 0)),(2,.is (.own 8 0)),(3,.is (.own 16 0)),(6,(mq s i))],bA [(0,.cells 375 [s,p.2.1]),(8,.cells 309 [.v (.int .u64 0),.v (.int .u64 0),.v (.int .u64 0),.v (.int .u64 0)]),(16,.cells 309 ((hv p.2.2).map .v))]⟩)
  (λp=>0<=p.2.1/\(s.size-p.2.1<p.1/\1<=p.1)/\wH s p.1 p.2.1 p.2.2=R) (λp=>p.1) (s.size+1,i0,0) ?_ ⟨IF.1,by simp only;omega,dW⟩ ?_
 ·exact bh (I kJ @VL)
 rintro⟨n,kp,a⟩ ⟨pA,⟨e8,kn⟩,dz⟩;simp only at pA e8 dz;obtain⟨n,rfl⟩:∃m,n=m+1:=⟨n-1,by simp only at kn;omega⟩;rw[wH]at dz;refine ae.block ?_;refine ae.seq ?_;refine aL ow kJ ?_ ?_
 ·simp[pA]
 refine aR ow kJ ?_ ?_<;>intro J
 ·simp at J;have dd:R=.ok (a,kp+1):=by rw[<- dz,al J]
  have dp:=dv (kp+1);refine aA ow (I kJ dp) ?_;refine c6 ?_;refine ae.seq ?_;refine aR ow kJ ?_ ?_<;>intro J
  ·have uk:mq s i=true:=J;rw[hm,dd,uk,wI,ME];refine aL ow kJ ?_ ?_
   ·simp[MA]
   refine bf kJ ?_;exact⟨_,_,rfl,rfl,_,_,rfl,rfl,aq⟩
  ·have uk:mq s i=false:=J;rw[hm,dd,uk,wI,ME];refine a1 ?_;refine aL ow kJ ?_ ?_
   ·simp[MA]
   refine bf kJ ?_;exact⟨_,_,rfl,rfl,_,_,rfl,rfl,aq⟩
 ·have aE:¬(kp < s.size/\af s kp=93):=λh=>by
   apply pY.1 J;simp;exact h
  rw[ab aE]at dz;refine a1 ?_;cases D:iQ s kp iw with
  |error j=>
   rw[D]at dz;simp only at dz;rw[iw]at D;rw[hm,<- dz,wI,MF];refine ae.fe ow bX (aJ (I kJ D)) ?_ ?_
   ·simp[V,aK];omega
   exact cC
  |ok p=>
   obtain⟨lo,j⟩:=p;obtain⟨Jm,hY,j3,ns⟩:=Cw D pA;rw[D]at dz;simp only at dz;rw[iw]at D;refine aA ow (I kJ D) ?_;refine bk ow kJ ?_;refine aL ow kJ ?_ ?_
   ·simp;omega
   refine aR ow kJ ?_ ?_<;>intro J
   ·simp at J;rw[al J]at dz;have dp:=dv (j+1);refine aA ow (I kJ dp) ?_;refine aA ow kJ ?_;cases O:iQ s (j+1) iw with
    |error l=>
     rw[O]at dz;simp only at dz;rw[iw]at O;rw[hm,<- dz,wI,MF];refine ae.fe ow bX (aJ (I kJ O)) ?_ ?_
     ·simp[V,aK];omega
     exact cC
    |ok p=>
     obtain⟨hi,l⟩:=p;obtain⟨eW,cR,cE,sr⟩:=Cw O U;rw[O]at dz;simp only at dz;rw[iw]at O;refine aA ow (I kJ O) ?_;refine aR ow kJ ?_ ?_<;>intro J
     ·simp at J;rw[al J]at dz;rw[hm,<- dz,wI,MF];refine ae.gz ow bX (aJ kJ) ?_ ?_
      ·exact ot
      exact cC
     ·simp at J;rw[ab U]at dz;refine a1 ?_;refine iP ow kJ ?_ ?_
      ·omega
      refine⟨(n,l,a ||| wG lo hi),⟨by simp only;omega,by simp only;omega,dz⟩,by simp only;omega,?_⟩;exact bh kJ
   ·have iM:¬(j<s.size/\af s j=45):=λh=>by
     apply pY.1 J;simp;exact h
    rw[ab iM]at dz;refine a1 ?_;refine iP ow kJ ?_ ?_
    ·omega
    refine⟨(n,j,a ||| wG lo lo),⟨by simp only;omega,by simp only;omega,dz⟩,by simp only;omega,?_⟩;exact bh kJ
abbrev aqP:iO prog 269:=sy 375 (λ| [.val (.string s),.val (.int .i64 i)],[]=>some (s,i)|_,_=>none) (λav W bs=>0<=av.2/\av.1.size<=140737488351232/\gl W (Out bs)) call269 λav W w bs u fp ad hp H ax fi=>aqO av.1 av.2 u fp w hp.1 hp.2.1 (hp.2.2.km ad fi) H ax
abbrev wJ:Env prog:=a7 ac8.spec (a7 VO.spec (a7 ac9.spec (a7 VP.spec (a7 aqP.spec aa))))
def qC:ByteArray:=⟨#[40,41,91,93,123,125,124,38,45,42,43,63,46,92,47,94]⟩
def zg:Except Int (Int×Int)->Except Int (dc×Int)
 |.error j=>.error j
 |.ok (b,j)=>.ok (wG b b,j)
def nQ(s:ao)(i:Int):Except Int (dc×Int):=
 if af s i=46 then .ok (~~~(qg ⟨#[10]⟩ 1),i+1)
 else if af s i=91 then AY s (i+1)
 else zg (iQ s i qC)
def tj:=(aT kJ @ME @MF)
def aqQ(s:ao)(i:Int)(u:aM)(fp:aD)(w:ar)(A:0<=i)(D:i<s.size)(V:s.size<=140737488351232)(aK:gl w (Out fp))(H:eH w u fp 375 (sz s i))(ax:∀b∈fp,b<w.heap.size) :
  Calls prog 268 (#[u]++#[]) w λe M=>h0 w u fp 375 e M (QA s (nQ s i)):=by
 obtain⟨lx,eh⟩:=vo s i;have dp:=dv (i+1);refine jP (nt:=42) [.cell 2 309] H ax func268 ?_;refine bk wJ tj ?_;refine hs wJ tj ?_;refine bk wJ tj ?_;refine aR wJ tj ?_ ?_<;>intro J
 ·simp at J;have he:nQ s i=.ok (~~~(qg ⟨#[10]⟩ 1),i+1):=by rw[nQ,al J]
  rw[he,ME];refine aA wJ (I tj dp) ?_;refine aL wJ tj ?_ ?_
  ·decide
  refine bf tj ?_;exact⟨_,_,rfl,rfl,_,_,rfl,rfl,aq⟩
 ·simp at J;have gX:=J;refine aR wJ tj ?_ ?_<;>intro J
  ·simp at J;have he:nQ s i=AY s (i+1):=by rw[nQ,ab gX,al J]
   rw[he];refine aA wJ (I tj dp) ?_;cases O:AY s (i+1) with
   |error j=>
    refine ae.fe wJ bX (aJ (I tj O)) ?_ ?_
    ·simp[V,aK];omega
    exact cC
   |ok p=>obtain⟨a,j⟩:=p;refine aA wJ (I tj O) ?_;refine bf tj ?_;exact⟨_,_,rfl,rfl,_,_,rfl,rfl,aq⟩
  ·simp at J;have he:nQ s i=zg (iQ s i qC):=by rw[nQ,ab gX,ab J]
   rw[he];refine a1 ?_;cases O:iQ s i qC with
   |error j=>
    rw[qC]at O;refine ae.fe wJ bX (aJ (I tj O)) ?_ ?_
    ·simp[V,aK];omega
    exact cC
   |ok p=>
    obtain⟨b,j⟩:=p;obtain⟨Jm,hY,j3,ns⟩:=Cw O A;rw[qC]at O;refine aA wJ (I tj O) ?_;refine aL wJ tj ?_ ?_
    ·omega
    refine bf tj ?_;exact⟨_,_,rfl,rfl,_,_,rfl,rfl,aq⟩
abbrev aqR:iO prog 268:=sy 375 (λ| [.val (.string s),.val (.int .i64 i)],[]=>some (s,i)|_,_=>none) (λav W bs=>0<=av.2/\av.2<av.1.size/\av.1.size<=140737488351232/\gl W (Out bs)) call268 λav W w bs u fp ad hp H ax fi=>aqQ av.1 av.2 u fp w hp.1 hp.2.1 hp.2.2.1 (hp.2.2.2.km ad fi) H ax
abbrev AZ:Env prog:=a7 aqR.spec aa
def ix(c i:Int)(t:ao):Value:=.agg #[c,i,t]
def qD:=(aT (ch ez @Gr.eq_1 @Cq.eq_1 @ug.eq_1 @ug.eq_2 @y7.eq_1 @y7.eq_2 @sz.eq_1) (ch @ME @MF @Em.eq_1 @uj @MA @GA @GB @GC) (de @GD @xT @VK @GF @TG))
def aqS:Ec prog 267 where
 bc:=[309,3,39]
 enters:=call267
 pre:=λdG pv=>(∃a b c d e f g h,dG=[[a,b,c,d],[e],[f,g,h]])/\∃c i t,pv=.iface 39 (ix c i t)
 out:=λdG pv=>[[.int .u64 0,.int .u64 0,.int .u64 0,.int .u64 0],[.int .i64 0],match pv with|.iface _ (.agg x)=>x.toList|_=>[]]
 df:=λdG pv=>[jS 0,.int .i64 0,match pv with|.iface _ x=>x|_=>undef]
 Mj:=by rintro dG pv ⟨_,c,i,t,rfl⟩;refine⟨.inl ⟨(kX qD),(kX qD),?_⟩,.inr ⟨(kX qD),rfl⟩,.inl ⟨(kX qD),(kX qD),rfl⟩,trivial⟩;rfl
 quiet:=λw us aN=>by
  match us,aN with
  |[cf,cT,eO],_=>
   refine Qi (nt:=10) w _ func267 rfl rfl U U rfl ?_;refine dL AZ qD ?_
   simp only[wz,Op.operands,Value.cells,qw,nN,Nat.reduceEqDiff,Nat.reduceAdd,Nat.reduceMul,Nat.reduceLT,Nat.reduceLeDiff,Nat.reduceBEq,kT,Int.reduceToNat,Int.reduceLT,Int.reduceLE,Nat.reduceDiv,Nat.reduceMod,Nat.reduceSub,Int.reducePow,Nat.reducePow,Gc,Gd,nn.eq_2,nn.eq_3,qD]
   done
 Mk:=λw us fr dG pv aN aE ax hp=>by
  obtain⟨⟨a,b,c,d,e,f,g,h,rfl⟩,k,i,t,rfl⟩:=hp;have B:=aN.len.1;refine Qk (nt:=10) func267 rfl rfl U U ?_ aN aE ax ?_ ?_
  ·rw[B];rfl
  ·rw[B];decide
  intro us _;refine aR AZ qD ?_ ?_<;>intro J
  ·skip;refine AM AZ (I qD @ix.eq_1) ?_;refine jQ qD ?_;exact⟨rfl,rfl,rfl,trivial⟩
  ·cases J
def A0(c:Int)(a:dc)(j k:Int):Value:=.tuple #[jS a,j,ix c k ⟨#[]⟩]
def GH(s:ao)(i:Int):Value:=
 if i<0\/s.size<=i then A0 2 0 0 0
 else match nQ s i with
  |.error j=>A0 10 0 0 j
  |.ok (a,j)=>A0 0 a j 0
def aqT(s:ao)(i:Int)(w:ar)(V:s.size<=140737488351232)(aK:gl w (Out [])) :
  cQ 263 #[s,i] w (GH s i):=by
 refine acA (nt:=31) func263 rfl rfl ?_;refine kW.seq' (rs:=[.cell 4 309,.cell 5 3,.cell 6 39]) rfl ?_;refine bY AZ qD ?_;refine kW.seq' (rs:=[.cell 4 309,.cell 5 3,.cell 6 39]) rfl ?_;refine aR AZ qD ?_ ?_<;>intro J
 ·have Z:i<0\/s.size<=i:=aC J
  have he:GH s i=A0 2 0 0 0:=by rw[GH,al Z]
  rw[he];refine aA AZ qD ?_;exact bE qD
 ·have Z:¬(i<0\/s.size<=i):=λh=>by
   apply pY.1 J;simpa using h
  have he:GH s i=match nQ s i with
    |.error j=>A0 10 0 0 j
    |.ok (a,j)=>A0 0 a j 0:=by rw[GH,ab Z]
  refine a1 ?_;refine kW.Ql (rs:=[.cell 4 309,.cell 5 3,.cell 6 39]) rfl aqS [4,5,6] [0,8,16] rfl aq rfl aq rfl rfl ?_ ?_ λus DO=>?_
  ·rintro p hp;simp only[Ih,Ii,gG,tS,uX]at hp;rcases hp with rfl|rfl|rfl<;>rfl
  ·rintro k ad;simp only[gG,tS,uX]at ad;rcases ad with rfl|rfl|rfl<;>exact⟨_,_,rfl⟩
  have hi:0<=i/\i<s.size:=U;refine aA AZ qD ?_;cases O:nQ s i with
  |error j=>
   rw[he,O];refine ae.fe AZ bX (aJ (I qD O)) ?_ ?_
   ·simp[V,aK];omega
   refine kG ?_;refine jQ (I qD @nn.eq_3) ?_;refine⟨.iface 39 (ix 10 j ⟨#[]⟩),[[.int .u64 0,.int .u64 0,.int .u64 0,.int .u64 0],[.int .i64 0],[.int .i64 0,.int .i64 0,.string ⟨#[]⟩]],rfl,⟨?_,?_,?_,?_,?_,?_,trivial⟩,⟨⟨_,_,_,_,_,_,_,_,rfl⟩,10,j,⟨#[]⟩,rfl⟩,λE=>rfl⟩
   all_goals rfl
  |ok p=>
   obtain⟨a,j⟩:=p;rw[he,O];refine aL AZ (I qD O) ?_ ?_
   ·simp[V,aK];omega
   refine hs AZ qD ?_;exact bE (I qD @nn.eq_2)
def cz:bm->Value
 |.bV=>.iface 283 (.agg #[])
 |.cls S=>.iface 311 (jS S)
 |.cat a b=>.iface 281 (.agg #[cz a,cz b])
 |.alt a b=>.iface 284 (.agg #[cz a,cz b])
 |.star a=>.iface 279 (.agg #[cz a])
 |.and a b=>.iface 285 (.agg #[cz a,cz b])
 |.minus a b=>.iface 286 (.agg #[cz a,cz b])
def iR(t:bm):(cz t).oneCell'=true:=by cases t<;>rfl
def pD:∀a b:bm,cz a=cz b->a=b
 |.bV,b,h=>by cases b<;>simp_all [cz]
 |.cls S,b,h=>by cases b<;>simp[cz]at h;rw[MB _ _ h]
 |.cat x y,b,h=>by cases b<;>simp[cz]at h;rw[pD x _ h.1,pD y _ h.2]
 |.alt x y,b,h=>by cases b<;>simp[cz]at h;rw[pD x _ h.1,pD y _ h.2]
 |.star x,b,h=>by cases b<;>simp[cz]at h;rw[pD x _ h]
 |.and x y,b,h=>by cases b<;>simp[cz]at h;rw[pD x _ h.1,pD y _ h.2]
 |.minus x y,b,h=>by cases b<;>simp[cz]at h;rw[pD x _ h.1,pD y _ h.2]
inductive ox where
 |cat|alt|and|minus
def ox.f:ox->FuncId
 |.cat=>252
 |.alt=>181
 |.and=>217
 |.minus=>218
def ox.mk:ox->bm->bm->bm
 |.cat=>.cat
 |.alt=>.alt
 |.and=>.and
 |.minus=>.minus
def ox.T:ox->TypeId
 |.cat=>281
 |.alt=>284
 |.and=>285
 |.minus=>286
def ox.v(g:ox):Value:=.func (.func g.f) #[] #[]
def ri(b:Nat):Value:=.pointer (some ⟨b,0,none⟩)
inductive gL (W:ar) (S:aY):Value->bm->Prop where
 |leaf (b:Nat) (t:bm):gd W S b 0 (cz t)->gL W S (.func (.func 259) #[] #[ri b]) t
 |join (g:ox) (rV eX nR:Nat) (dD lV:aM) (bM tb:bm):gd W S rV 0 g.v->gd W S eX 1 dD->gd W S nR 1 lV->gL W S dD bM->gL W S lV tb ->
   gL W S (.func (.func 220) #[] #[ri rV,ri eX,ri nR]) (g.mk bM tb)
 |star (b:Nat) (dD:aM) (bM:bm):gd W S b 1 dD->gL W S dD bM->gL W S (.func (.func 264) #[] #[ri b]) (.star bM)
theorem gL.mono{W aO:World}{S bz:Nat->Prop}{v:aM}{t:bm}(h:gL W S v t)(V:bT W S aO bz):gL aO bz v t:=by
 induction h with
 |leaf b t h=>exact .leaf b t (h.mono V)
 |join g rV eX nR dD lV bM tb D O B _ _ VQ zh=>exact .join g rV eX nR dD lV bM tb (D.mono V) (O.mono V) (B.mono V) VQ zh
 |star b dD bM h _ bb=>exact .star b dD bM (h.mono V) bb
def gL.one{S:aY}{v:aM}{t:bm}(h:gL W S v t):v.oneCell'=true:=by cases h<;>rfl
def MG{S bz:Nat->Prop}{b o:Nat}{u v:aM}(h:gd W S b o u)(bu:gd W bz b o v):u=v:=qZ (h.2.symm.trans bu.2)
def gL.fn{S bz:Nat->Prop}{v:aM}{t eU:bm}(h:gL W S v t)(bu:gL W bz v eU):t=eU:=by
 induction h generalizing eU with
 |leaf b t h=>
  cases bu with
  |leaf _ eU O=>exact pD _ _ (MG h O)
 |join g rV eX nR dD lV bM tb D O B _ _ VQ zh=>
  cases bu with
  |join Ax _ _ _ aqU aDX aqV aDY e8 dz kn om te=>
   obtain rfl:=MG O dz;obtain rfl:=MG B kn;have aK:=MG D e8;rw[VQ om,zh te];have:g=Ax:=by cases g<;>cases Ax <;> simp[ox.v,ox.f]at aK<;>rfl
   rw[this]
 |star b dD bM h _ bb=>
  cases bu with
  |star _ aqU aqV e8 dz=>obtain rfl:=MG h e8;rw[bb dz]
def nS(r:cH):lr:=⟨λcs W S=>∃cS,cs=[.int .i64 (r.1:Nat),cS]/\gL W S cS r.2,λV ⟨cS,D,O⟩=>⟨cS,D,O.mono V⟩⟩
def sA(r:cH)(cS:aM):Value:=.agg #[r.1,cS]
def QB(r:cH)(cS:aM)(h:cS.oneCell'=true):b5.two.val [.int .i64 (r.1:Nat),cS]=sA r cS:=by show Value.agg #[au (.int .i64 (r.1:Nat)),au cS]=_;rw[qq h];rfl
def GI{S:aY}{r:cH}{u:aM}(h:∃cs,u=b5.two.val cs/\(nS r).Φ cs W S):∃cS,u=sA r cS/\gL W S cS r.2:=by obtain⟨cs,rfl,cS,rfl,h⟩:=h;exact⟨cS,QB r cS h.one,h⟩
def qh{S:aY}{r:cH}{cS:aM}(h:gL W S cS r.2):∃cs,sA r cS=b5.two.val cs/\(nS r).Φ cs W S:=⟨_,(QB r cS h.one).symm,cS,rfl,h⟩
def MH{r:cH}{cy:ar}{ck:aD}{w:ar}{S:aY}{cS:aM}(aK:gL cy (bw (b1 w S) ck) cS r.2):Mc w S cy ck (.agg [r.1,cS]) (.fact b5.two (nS r)):=⟨[.int .i64 (r.1:Nat),cS],λE=>(QB r cS aK.one).symm,cS,rfl,aK⟩
def oU{S:aY}{r:cH}{cs:aX}(h:(nS r).Φ cs W S):∃cS,cs=[.int .i64 (r.1:Nat),cS]/\gL W S cS r.2/\au cS=cS:=by obtain⟨cS,D,O⟩:=h;exact⟨cS,D,O,qq O.one⟩
def vq(t:bm):partsOf (.v (cz t))=[.v (cz t)]:=by cases t<;>rfl
def Jn:=(b3 ez @vq (λt=>qq (iR t)) @iR)
def aqW(t:bm)(w:ar)(S:aY):Calls prog 249 #[cz t] w λe M=>oO w S e M (.fact b5.two (nS (ht t))):=by
 refine ue (nt:=5) S [.cell 2 254] func249 ?_;refine bk aa Jn ?_;refine ae.jt 0 (aJ Jn) (λE=>by simp only[ba,den];exact rfl) λcy ck b aB Z aE J=>?_
 refine bf Jn ?_;exact⟨[_,_],λE=>rfl,_,rfl,.leaf b t ⟨⟨b1.up w S b aE,Z⟩,cell_of J 0 bq⟩⟩
abbrev Cx (t:bm):py prog 249:=Jg (λ_ _=>True) (λ_ _ _ _ _ h=>h) call249 λw S hp=>aqW t w S
def aqX(n:Int)(w:ar):cQ 219 #[n] w (.int .i64 (min n 2001)):=by refine cB (nt:=5) [.tmp 2] func219 ?_;refine bk aa Jn ?_;refine bf Jn ?_;exact λE=>by simp only[den];congr 1;split<;>omega
abbrev aqY:cV prog 219:=oR (λ| [.val (.int .i64 n)]=>some (n)|_=>none) call219 λav w=>aqX av w
abbrev GJ:Env prog:=a7 aqY.spec aa
def ada{a b:Nat}(aQ:a<=2001)(Z:b<=2001):IntKind.i64.wrap (IntKind.i64.wrap (1+(a:Int))+(b:Int))=((1+a+b:Nat):Int):=by rw[gb (n:=1+(a:Int)) U U,gb U U];omega
def Jo(n:Nat):min ((n:Nat):Int) 2001=((fz n:Nat):Int):=by unfold fz;omega
def zi:=Jn
def aqZ(g:ox)(a b:cH)(dD lV:aM)(aQ:a.1<=2001)(Z:b.1<=2001)(w:ar)(S:aY)(D:gL w S dD a.2)(O:gL w S lV b.2) :
  Calls prog 180 #[sA a dD,sA b lV,g.v] w λe M=>oO w S e M (.fact b5.two (nS (eV g.mk a b))):=by
 have fj:partsOf (.v (sA a dD))=[.v (.int .i64 (a.1:Nat)),.v dD]:=rfl;have rj:partsOf (.v (sA b lV))=[.v (.int .i64 (b.1:Nat)),.v lV]:=rfl;have Cy:partsOf (.v g.v)=[.v g.v]:=rfl;have dp:=ada aQ Z;refine ue (nt:=16) S [.cell 6 254] func180 ?_;refine aA GJ (b3 zi fj rj Cy) ?_
 refine aA GJ (eI zi fj rj Cy dp @Jo) ?_;refine ae.jt 0 (aJ (b3 zi fj rj Cy)) (λE=>by simp only[ba,den,fj,rj,Cy];exact rfl) λcy ck eX bD nu nv nw=>?_
 refine ae.jt 8 (aJ (b3 zi fj rj Cy)) (λE=>by simp only[ba,den,fj,rj,Cy];exact rfl) λcL c7 nR cq GK MI zj=>?_
 refine ae.jt 16 (aJ (b3 zi fj rj Cy)) (λE=>by simp only[ba,den,fj,rj,Cy];exact rfl) λe0 eu rV du adb ade VR=>?_
 refine bf (eI zi fj rj Cy dp @Jo) ?_;have aB:=(bD.trans cq).trans du;have cf:=b1.up w S;have cT:=cf.ext bD;have eO:=cT.ext cq;have iS:bT w S e0 (bw (b1 w S) eu):=(b1.ep w S).trans (aB.cc) (eo _)
 refine⟨[_,_],λE=>rfl,_,rfl,.join g rV eX nR dD lV a.2 b.2 ⟨⟨eO rV ade,adb⟩,cell_of VR 0 bq⟩ ?_ ?_ (D.mono iS) (O.mono iS)⟩
 ·exact gd.mono (gd.mono ⟨⟨cf eX nv,nu⟩,cell_of nw 1 bq⟩ cq.cc) du.cc
 ·exact gd.mono ⟨⟨cT nR MI,GK⟩,cell_of zj 1 bq⟩ du.cc
abbrev xV (g:ox)(a b:cH):py prog 180 where
 kinds:=[some (b5.two,nS a),some (b5.two,nS b),none]
 pre:=λaj _ _=>(a.1<=2001/\b.1<=2001)/\∃x y,aj=[x,y,.val g.v]
 gA:=λ_ _ _ _ _ _ h=>h
 out:=λ_=>.fact b5.two (nS (eV g.mk a b))
 enters:=call180
 ok:=by
  intro w S us aj hu hp;obtain⟨⟨aQ,Z⟩,x,y,rfl⟩:=hp
  match us,hu with
  |[cT,eO,tk],hu=>obtain⟨D,O,rfl,_⟩:=hu;obtain⟨dD,rfl,pE⟩:=GI D;obtain⟨lV,rfl,GL⟩:=GI O;exact aqZ g a b dD lV aQ Z w S pE GL
def aq0(a:cH)(dD:aM)(aQ:a.1<=2001)(w:ar)(S:aY)(D:gL w S dD a.2) :
  Calls prog 260 #[sA a dD] w λe M=>oO w S e M (.fact b5.two (nS (qf a))):=by
 have fj:partsOf (.v (sA a dD))=[.v (.int .i64 (a.1:Nat)),.v dD]:=rfl;have dp:=iv (1+(a.1:Int)) ((1+a.1:Nat):Int);refine ue (nt:=9) S [.cell 2 254] func260 ?_;refine aA GJ (I zi fj) ?_;refine aA GJ (b3 zi fj dp @Jo) ?_
 refine ae.jt 0 (aJ (I zi fj)) (λE=>by simp only[ba,den,fj];exact rfl) λcy ck eX bD nu nv nw=>?_
 refine bf (b3 zi fj dp @Jo) ?_;have iS:bT w S cy (bw (b1 w S) ck):=(b1.ep w S).trans (bD.cc) (eo _);exact⟨[_,_],λE=>rfl,_,rfl,.star eX dD a.2 ⟨⟨b1.up w S eX nv,nu⟩,cell_of nw 1 bq⟩ (D.mono iS)⟩
abbrev MJ (a:cH):py prog 260 where
 kinds:=[some (b5.two,nS a)]
 pre:=λaj _ _=>a.1<=2001/\∃x,aj=[x]
 gA:=λ_ _ _ _ _ _ h=>h
 out:=λ_=>.fact b5.two (nS (qf a))
 enters:=call260
 ok:=by
  intro w S us aj hu hp;obtain⟨hp,x,rfl⟩:=hp
  match us,hu with
  |[cT],hu=>obtain⟨D,_⟩:=hu;obtain⟨dD,rfl,pE⟩:=GI D;exact aq0 a dD hp w S pE
abbrev aq1(G:aY)(a:cH):Env prog:=a7 ((Cx .bV).spec G) (a7 ((xV .alt a (ht .bV)).spec G) aa)
def QC:=(b3 zi @Cx.eq_1 @xV.eq_1 @MJ.eq_1)
def aq2(a:cH)(dD:aM)(aQ:a.1<=2001)(w:ar)(S:aY)(D:gL w S dD a.2) :
  Calls prog 261 #[sA a dD] w λe M=>oO w S e M (.fact b5.two (nS (jx a))):=by
 have fj:partsOf (.v (sA a dD))=[.v (.int .i64 (a.1:Nat)),.v dD]:=rfl;refine ue (nt:=8) S [.cell 2 254] func261 ?_;refine aA GJ (I QC fj) ?_;refine dh (aq1 (b1 w S) a) (I QC fj) ?_ ?_
 ·have cf:=b1.up w S;exact⟨⟨rfl,cf⟩,⟨qh (D.mono (b1.ep w S)),⟨aQ,aq⟩,_,_,rfl⟩,cf⟩
 refine ae.dt 48 (aJ (I QC fj)) (bT.refl _ _) λcy ck cs bD dR=>?_
 obtain⟨cS,rfl,aK,dP⟩:=oU dR;refine bf (aT QC fj dP) ?_;exact MH aK
abbrev QD (a:cH):py prog 261 where
 kinds:=[some (b5.two,nS a)]
 pre:=λaj _ _=>a.1<=2001/\∃x,aj=[x]
 gA:=λ_ _ _ _ _ _ h=>h
 out:=λ_=>.fact b5.two (nS (jx a))
 enters:=call261
 ok:=by
  intro w S us aj hu hp;obtain⟨hp,x,rfl⟩:=hp
  match us,hu with
  |[cT],hu=>obtain⟨D,_⟩:=hu;obtain⟨dD,rfl,pE⟩:=GI D;exact aq2 a dD hp w S pE
def VS(f:cH->cH):∀(n:Nat) (x:cH),gk f (n+1) x=f (gk f n x)
 |0,x=>rfl
 |n+1,x=>by rw[gk,VS f n,<- gk]
def zk(mk:bm->bm->bm)(a b:cH):(eV mk a b).1<=2001:=Cs _
def MK(f:cH->cH)(aW:∀x,(f x).1<=2001):∀(n:Nat) (x:cH),x.1<=2001->(gk f n x).1<=2001
 |0,x,h=>h
 |n+1,x,h=>MK f aW n (f x) (aW x)
abbrev Jp(G:aY)(x y a:cH):Env prog:=a7 ((Cx .bV).spec G) (a7 ((xV .cat x y).spec G) (a7 ((MJ a).spec G) (a7 ((QD a).spec G) aa)))
def ML(a:cH):(qf a).1<=2001:=Cs _
def MM(a:cH):(jx a).1<=2001:=Cs _
structure xW where
 W:World
 bs:List Nat
 j4:Value
 j:Nat
def j9:=(de ez @Cx.eq_1 @xV.eq_1 @MJ.eq_1 @QD.eq_1)
def aq3(a:cH)(m n:Int)(dD:aM)(aQ:a.1<=2001)(BU:0<=m)(En:m<=255)(Gv:-1<=n)(kq:n<=255)(w:ar)(S:aY)(D:gL w S dD a.2) :
  Calls prog 266 #[sA a dD,m,n] w λe M=>oO w S e M (.fact b5.two (nS (nO a m n))):=by
 have fj:partsOf (.v (sA a dD))=[.v (.int .i64 (a.1:Nat)),.v dD]:=rfl;have cf:=b1.up w S;have g0:=D.mono (b1.ep w S);refine ue (nt:=55) S [.cell 6 254] func266 ?_;refine bk aa (I j9 fj) ?_;refine aR aa j9 ?_ ?_<;>intro J
 ·have yU:m=0/\n<0:=aC J
  have dW:nO a m n=qf a:=by rw[nO,al yU]
  rw[dW];refine aL (Jp (b1 w S) a a a) (I j9 fj) ?_ ?_
  ·exact⟨⟨qh g0,aQ,_,rfl⟩,cf⟩
  refine ae.dt 72 (aJ (I j9 fj)) (bT.refl _ _) λcy ck cs bD dR=>?_
  obtain⟨cS,rfl,aK,dP⟩:=oU dR;refine bf (aT j9 fj dP) ?_;exact MH aK
 ·have jr:¬(m=0/\n<0):=aC J
  refine a1 ?_;refine ae.seq ?_;refine aR aa j9 ?_ ?_<;>intro J
  ·have yU:m=0/\n=0:=aC J
   have dW:nO a m n=ht .bV:=by rw[nO,ab jr,al yU]
   rw[dW];refine aL (Jp (b1 w S) a a a) (I j9 fj) ?_ ?_
   ·exact⟨rfl,cf⟩
   refine ae.dt 128 (aJ (I j9 fj)) (bT.refl _ _) λcy ck cs bD dR=>?_
   obtain⟨cS,rfl,aK,dP⟩:=oU dR;refine bf (aT j9 fj dP) ?_;exact MH aK
  ·have rk:¬(m=0/\n=0):=aC J
   refine a1 ?_;refine aL aa (I j9 fj) ?_ ?_
   ·exact D.one
   refine aA aa j9 ?_;generalize wK:(if m=0 then jx a else a)=eW;have aq4:eW.1<=2001:=by rw[<- wK];split;exact MM a;exact aQ
   refine rb (λp:xW=>⟨20,bK [(1,m),(2,n),(3,.is (.own 0 0)),(6,.is (.own 8 0)),(7,.is (.own 120 0)),(8,(1:Int))],bA [(0,.cells 254 [a.1,dD]),(8,.cells 254 [(0:Int),.v .nilFunc]),(120,.cells 254 [eW.1,p.j4])]⟩) xW.W xW.bs
    (λp=>gL p.W (bw (b1 w S) p.bs) p.j4 eW.2) ?_ ?_
   ·skip;refine aR aa j9 ?_ ?_<;>intro J
    ·have hm:m=0:=aC J
     rw[al hm]at wK;subst wK;refine ae.more ?_;refine wr (Jp (b1 w S) a a a) (I j9 fj) ?_ ?_
     ·exact⟨⟨qh g0,aQ,_,rfl⟩,cf⟩
     refine pw ?_;refine eZ.dt 168 (aJ (I j9 fj)) (bT.refl _ _) λcy ck cs bD dR=>?_
     obtain⟨cS,rfl,aK,dP⟩:=oU dR;refine eZ.here ?_;refine kG ?_;refine⟨⟨cy,ck,cS,0⟩,aK,rfl,rfl,?_⟩;exact bh (aT j9 fj dP)
    ·have hm:¬m=0:=aC J
     rw[ab hm]at wK;subst wK;refine a1 ?_;refine⟨⟨w,[],dD,0⟩,g0,rfl,rfl,?_⟩;exact bh (I j9 fj)
   rintro⟨mg,qy,j4,Jq⟩ BR ff;simp only at BR ff;dsimp only;have cu:nO a m n=if n<0 then eV .cat (gk (λx=>eV .cat x a) (m-1).toNat eW) (qf a) else gk (λx=>eV .cat x (jx a)) (n-max m 1).toNat (gk (λx=>eV .cat x a) (m-1).toNat eW):=by rw[nO,ab jr,ab rk,wK]
   have hO:∀k,(gk (λx=>eV .cat x a) k eW).1<=2001:=λk=>MK _ (λx=>zk _ _ _) k eW aq4
   refine ae.seq (ae.block ?_)
   refine ae.q4 (λp:xW=>⟨23,bK [(1,m),(2,n),(3,.is (.own 0 0)),(6,.is (.own 8 0)),(7,.is (.own 120 0)),(8,.is (.v (.int .i64 ((p.j:Nat)+1))))],bA [(0,.cells 254 [a.1,dD]),(8,.cells 254 [(0:Int),.v .nilFunc]),(120,.cells 254 [((gk (λx=>eV .cat x a) p.j eW).1:Nat),p.j4])]⟩)
    xW.W xW.bs (λp=>p.j<=(m-1).toNat/\gL p.W (bw (b1 w S) p.bs) p.j4 (gk (λx=>eV .cat x a) p.j eW).2) (λp=>(m-1).toNat-p.j) ⟨mg,qy,j4,0⟩ rfl rfl ?_ ⟨ef _,BR⟩ ?_
   ·exact bh (de j9 @gk.eq_1 @gk.eq_2 @gq @Int.zero_add)
   rintro⟨cy,ck,aq5,j⟩ ⟨Y,MN⟩ bD;simp only at Y MN bD;dsimp only;have zl:=ff.trans bD;have cT:=cf.ext zl;have g1:=g0.mono zl.cc;refine ae.seq ?_;refine aR aa j9 ?_ ?_<;>intro J
   ·have Us:(j:Int)+1<m:=aC J
    refine a1 ?_;refine ae.seq (ae.block ?_);refine ae.more ?_;refine wr (Jp (b1 w S) (gk (λx=>eV .cat x a) j eW) a a) (I j9 fj) ?_ ?_
    ·exact⟨⟨⟨qh MN,qh g1⟩,⟨hO j,aQ⟩,_,_,rfl⟩,cT⟩
    refine pw ?_;refine eZ.dt 224 (aJ (I j9 fj)) (bT.refl _ _) λcL c7 cs cq dR=>?_
    obtain⟨cS,rfl,aK,dP⟩:=oU dR;refine eZ.here ?_;refine kG ?_;have wn:=iv ((j:Int)+1+1) (((j+1:Nat):Int)+1);have e:gk (λx=>eV .cat x a) (j+1) eW=eV ox.cat.mk (gk (λx=>eV .cat x a) j eW) a:=VS _ _ _;refine bY aa (I j9 wn) ?_
    refine⟨⟨cL,c7,cS,j+1⟩,⟨by simp only;omega,by simp only;rw[e];exact aK⟩,by simp only;omega,rfl,rfl,?_⟩;exact bh (b3 j9 fj dP e)
   ·have Us:¬(j:Int)+1<m:=aC J
    have hW:j=(m-1).toNat:=U;generalize MO:gk (λx=>eV .cat x a) (m-1).toNat eW=cR at cu;have adf:cR.1<=2001:=by rw[<- MO];exact hO _
    rw[hW,MO]at MN;rw[hW,MO];refine c6 ?_;refine ae.seq ?_;refine aR aa j9 ?_ ?_<;>intro J
    ·have aE:n<0:=aC J
     rw[cu,al aE];refine dh (Jp (b1 w S) cR (qf a) a) (I j9 fj) ?_ ?_
     ·exact⟨⟨⟨qh g1,aQ,_,rfl⟩,cT⟩,⟨qh MN,⟨adf,ML a⟩,_,_,rfl⟩,cT⟩
     refine ae.dt 248 (aJ (I j9 fj)) (bT.refl _ _) λcL c7 cs cq dR=>?_
     obtain⟨cS,rfl,aK,dP⟩:=oU dR;refine bf (aT j9 fj dP) ?_;exact MH aK
    ·have aE:¬n<0:=aC J
     rw[cu,ab aE];have GM:((j:Nat):Int)+1=max m 1:=U;have VT:∀k,(gk (λx=>eV .cat x (jx a)) k cR).1<=2001:=λk=>MK _ (λx=>zk _ _ _) k cR adf
     refine a1 ?_;rw[<- hW]at *;refine ae.seq (ae.block ?_)
     refine ae.q4 (λp:xW=>⟨28,bK [(2,n),(3,.is (.own 0 0)),(6,.is (.own 8 0)),(7,.is (.own 120 0)),(8,.is (.v (.int .i64 (((j:Nat):Int)+1+(p.j:Nat)))))],bA [(0,.cells 254 [a.1,dD]),(8,.cells 254 [(0:Int),.v .nilFunc]),(120,.cells 254 [((gk (λx=>eV .cat x (jx a)) p.j cR).1:Nat),p.j4])]⟩)
      xW.W xW.bs (λp=>p.j<=(n-max m 1).toNat/\gL p.W (bw (b1 w S) p.bs) p.j4 (gk (λx=>eV .cat x (jx a)) p.j cR).2) (λp=>(n-max m 1).toNat-p.j) ⟨cy,ck,aq5,0⟩ rfl rfl ?_ ⟨ef _,MN⟩ ?_
     ·exact bh (de j9 @gk.eq_1 @gk.eq_2 @gq @O8)
     rintro⟨e0,eu,adg,i⟩ ⟨hi,QE⟩ du;simp only at hi QE du;dsimp only;have tk:=cT.ext du;have g3:=g1.mono du.cc;refine ae.seq ?_;refine aR aa j9 ?_ ?_<;>intro J
     ·have aq6:(j:Int)+1+i<n:=aC J
      refine a1 ?_;refine ae.seq (ae.block ?_);refine ae.more ?_;refine iP (Jp (b1 w S) (gk (λx=>eV .cat x (jx a)) i cR) (jx a) a) (I j9 fj) ?_ ?_
      ·exact⟨⟨⟨qh g3,aQ,_,rfl⟩,tk⟩,⟨qh QE,⟨VT i,MM a⟩,_,_,rfl⟩,tk⟩
      refine pw ?_;refine eZ.dt 272 (aJ (I j9 fj)) (bT.refl _ _) λGN GO cs xX dR=>?_
      obtain⟨cS,rfl,aK,dP⟩:=oU dR;refine eZ.here ?_;refine kG ?_;have wn:=iv ((j:Int)+1+i+1) ((j:Int)+1+((i+1:Nat):Int));have e:gk (λx=>eV .cat x (jx a)) (i+1) cR=eV ox.cat.mk (gk (λx=>eV .cat x (jx a)) i cR) (jx a):=VS _ _ _;refine bY aa (I j9 wn) ?_
      refine⟨⟨GN,GO,cS,i+1⟩,⟨by simp only;omega,by simp only;rw[e];exact aK⟩,by simp only;omega,rfl,rfl,?_⟩;exact bh (b3 j9 fj dP e)
     ·have aq6:¬(j:Int)+1+i<n:=aC J
      have lq:i=(n-max m 1).toNat:=U;refine c6 ?_;refine aL aa j9 ?_ ?_
      ·exact QE.one
      refine bf j9 ?_;rw[<- lq];exact MH QE
abbrev aq7 (a:cH):py prog 266 where
 kinds:=[some (b5.two,nS a),none,none]
 pre:=λaj _ _=>a.1<=2001/\∃x m n,aj=[x,.val (.int .i64 m),.val (.int .i64 n)]/\0<=m/\m<=255/\-1<=n/\n<=255
 gA:=λ_ _ _ _ _ _ h=>h
 out:=fun
  |[_,.val (.int .i64 m),.val (.int .i64 n)]=>.fact b5.two (nS (nO a m n))
  |_=>.val undef
 enters:=call266
 ok:=by
  intro w S us aj hu hp;obtain⟨aQ,x,m,n,rfl,hp⟩:=hp
  match us,hu with
  |[cT,eO,tk],hu=>obtain⟨D,rfl,rfl,_⟩:=hu;obtain⟨dD,rfl,pE⟩:=GI D;exact aq3 a m n dD aQ hp.1 hp.2.1 hp.2.2.1 hp.2.2.2 w S pE
def two(g:ox)(x y:aM):Value:=.iface g.T (.agg #[x,y])
def aq8(g:ox)(a b:bm):two g (cz a) (cz b)=cz (g.mk a b):=by cases g<;>rfl
def Cz:=(b3 ez @vq (λt=>qq (iR t)) @iR)
def aq9(a b:bm)(w:ar):cQ 252 #[cz a,cz b] w (two .cat (cz a) (cz b)):=by refine cB (nt:=9) [.tmp 4] func252 ?_;refine bk aa Cz ?_;exact bE Cz
def ara(a b:bm)(w:ar):cQ 181 #[cz a,cz b] w (two .alt (cz a) (cz b)):=by refine cB (nt:=9) [.tmp 4] func181 ?_;refine bk aa Cz ?_;exact bE Cz
def arb(a b:bm)(w:ar):cQ 217 #[cz a,cz b] w (two .and (cz a) (cz b)):=by refine cB (nt:=9) [.tmp 4] func217 ?_;refine bk aa Cz ?_;exact bE Cz
def arc(a b:bm)(w:ar):cQ 218 #[cz a,cz b] w (two .minus (cz a) (cz b)):=by refine cB (nt:=9) [.tmp 4] func218 ?_;refine bk aa Cz ?_;exact bE Cz
def ard:∀(g:ox) (a b:bm) (w:ar),Calls prog g.f #[cz a,cz b] w λe M=>e=.returned (two g (cz a) (cz b))/\cr w [] M
 |.cat,a,b,w=>aq9 a b w
 |.alt,a,b,w=>ara a b w
 |.and,a,b,w=>arb a b w
 |.minus,a,b,w=>arc a b w
def arf:∀(g:ox) args w,(callFunc g.f args).run prog w=.ok (.enter g.f args) w
 |.cat=>call252
 |.alt=>call181
 |.and=>call217
 |.minus=>call218
abbrev MP (g:ox):cV prog g.f where
 pre:=λW bs aj=>∃a b,aj=[.val (cz a),.val (cz b)]
 res:=λW=>λ| [.val x,.val y]=>two g x y|_=>undef
 enters:=arf g
 ok:=by
  rintro W w bs us _ ad hu ⟨a,b,rfl⟩
  match us,hu with
  |[u,v],hu=>obtain⟨rfl,rfl,_⟩:=hu;exact ard g a b w
def ka:bm->Nat
 |.bV=>0
 |.cls _=>0
 |.cat a b=>ka a+ka b+1
 |.alt a b=>ka a+ka b+1
 |.star a=>ka a+1
 |.and a b=>ka a+ka b+1
 |.minus a b=>ka a+ka b+1
def arh(g:ox)(a b:bm):ka (g.mk a b)=ka a+ka b+1:=by cases g<;>rfl
def Jr(f:dr):Prop:=f=259\/f=220\/f=264
def gL.shape{S:aY}{v:aM}{t:bm}(h:gL W S v t):∃f cap,v=.func (.func f) #[] cap/\Jr f:=by
 cases h with
 |leaf=>exact⟨_,_,rfl,.inl rfl⟩
 |join=>exact⟨_,_,rfl,.inr (.inl rfl)⟩
 |star=>exact⟨_,_,rfl,.inr (.inr rfl)⟩
def ari{f:dr}(h:Jr f):∀args w,(callFunc f args).run prog w=.ok (.enter f args) w:=by
 rcases h with rfl|rfl|rfl
 ·exact call259
 ·exact call220
 ·exact call264
def CA(n:Nat):Prop:=∀f cap w S t,gL w S (.func (.func f) #[] cap) t->ka t<n->Calls prog f cap w λe M=>e=.returned (cz t)/\cr w [] M
open Classical in
def VU(W:ar)(f:dr)(aj:List br):Value:=if h:∃(cap:aX) (t:bm),aj=cap.map .val/\gL W (λ_=>True) (.func (.func f) #[] cap.toArray) t then cz h.choose_spec.choose else undef
def arj{l m:aX}(h:l.map br.val=m.map .val):l=m:=by have:=fZ (List.map λ| br.val v=>v|_=>undef) h;simpa [Fz] using this
def MQ{W:ar}{S:aY}{f:dr}{cap:aX}{t:bm}(h:gL W S (.func (.func f) #[] cap.toArray) t):VU W f (cap.map .val)=cz t:=by
 have D:=h.mono (bz := λ_=>True) (aO := W) λb _ _=>⟨rfl,trivial⟩
 have hex:∃(c:aX) (t:bm),cap.map br.val=c.map .val/\gL W (λ_=>True) (.func (.func f) #[] c.toArray) t:=⟨cap,t,rfl,D⟩;rw[VU,dif_pos hex];obtain⟨g1,g2⟩:=hex.choose_spec.choose_spec;have key:∀(c:aX) (eU:bm),cap=c->gL W (λ_=>True) (.func (.func f) #[] c.toArray) eU -> eU=t:=by rintro _ eU rfl aK;exact(D.fn aK).symm
 rw[key _ _ (arj g1) g2]
def adh{w:ar}:∀{us cap:aX},pq w us (cap.map .val)->us=cap
 |[],[],_=>rfl
 |u::us,c::cap,h=>by rw[h.1,adh h.2]
 |[],_::_,h=>h.elim
 |_::_,[],h=>h.elim
abbrev VV (n:Nat)(bb:CA n)(f:dr)(aW:Jr f):cV prog f where
 pre:=λW bs aj=>∃(cap:aX) (t:bm),aj=cap.map .val/\gL W (Out bs) (.func (.func f) #[] cap.toArray) t/\ka t<n
 res:=λW aj=>VU W f aj
 enters:=ari aW
 ok:=by rintro W w bs us _ ad hu ⟨cap,t,rfl,aK,ak⟩;rw[MQ aK,adh hu];exact bb f _ w (Out bs) t (aK.mono ad.ep) ak
open Classical in
def VW(n:Nat)(bb:CA n)(f:dr):Option (Go.LE.Spec prog f):=if aW:Jr f then some (VV n bb f aW).spec else none
def ark(n:Nat)(bb:CA n)(f:dr)(aW:Jr f):VW n bb f=some (VV n bb f aW).spec:=dif_pos aW
def MR(n:Nat)(bb:CA n):Env prog:=⟨λ| 252=>some (MP .cat).spec|181=>some (MP .alt).spec|217=>some (MP .and).spec|218=>some (MP .minus).spec|f=>VW n bb f,λ_=>none,λ_ _=>none⟩
def arl(n:Nat)(bb:CA n)(g:ox):(MR n bb).sp g.f=some (MP g).spec:=by cases g<;>rfl
def QF(n:Nat)(bb:CA n)(f:dr)(aW:Jr f):(MR n bb).sp f=some (VV n bb f aW).spec:=by rw[<- ark];rcases aW with rfl|rfl|rfl<;>rfl
def QG(h:ca):∀l:List Value,e6 h (l.map .v)=some (l.map .val,[])
 |[]=>rfl
 |x::r=>by rw[fc,e6.eq_2,QG h r];rfl
def VX{W:ar}{S:aY}{v:aM}{t:bm}(h:gL W S v t):gL W (Out []) v t:=h.mono λb _ _=>⟨rfl,by simp[Out]⟩
def CB:=(I Cz @arl)
def arn(b:Nat)(t:bm)(w:ar)(S:aY)(h:gd w S b 0 (cz t)):cQ 259 #[ri b] w (cz t):=by have D:w.cell? ⟨b,0,none⟩=some (cz t):=h.2;refine cB (nt:=3) [.tmp 1] func259 ?_;refine aA aa (I CB @ri.eq_1) ?_;refine aA aa (aT CB @ri.eq_1 D) ?_;exact bE CB
def aro(n:Nat)(bb:CA n)(b:Nat)(dD:aM)(bM:bm)(w:ar)(S:aY)(h:gd w S b 1 dD)(aK:gL w S dD bM)(ak:ka bM<n) :
  cQ 264 #[ri b] w (cz (.star bM)):=by
 have D:w.cell? ⟨b,0+1,none⟩=some dD:=by rw[lM];exact h.2
 obtain⟨f,cap,rfl,aW⟩:=aK.shape;obtain⟨cap,rfl⟩:∃l:List Value,cap=l.toArray:=⟨cap.toList,bq⟩;have aI:=MQ aK;have V:=QF n bb f aW;refine cB (nt:=7) [.tmp 1] func264 ?_;refine aA aa (I CB @ri.eq_1) ?_;refine aL (MR n bb) (eI CB @ri.eq_1 D V aI @QG) ?_ ?_
 ·exact⟨cap,bM,rfl,VX aK,ak⟩
 exact bE CB
def arp(n:Nat)(bb:CA n)(g:ox)(rV eX nR:Nat)(dD lV:aM)(bM tb:bm)(w:ar)(S:aY)(bn:gd w S rV 0 g.v)(B:gd w S eX 1 dD)(aU:gd w S nR 1 lV)
  (VY:gL w S dD bM) (VZ:gL w S lV tb) (oc:ka bM<n) (zm:ka tb<n) :
  cQ 220 #[ri rV,ri eX,ri nR] w (cz (g.mk bM tb)):=by
 have g5:w.cell? ⟨rV,0,none⟩=some (.func (.func g.f) #[] #[]):=bn.2;have g3:w.cell? ⟨eX,0+1,none⟩=some dD:=by rw[lM];exact B.2
 have g4:w.cell? ⟨nR,0+1,none⟩=some lV:=by rw[lM];exact aU.2
 obtain⟨f,cap,rfl,aW⟩:=VY.shape;obtain⟨cap,rfl⟩:∃l:List Value,cap=l.toArray:=⟨cap.toList,bq⟩;obtain⟨xw,QH,rfl,Um⟩:=VZ.shape;obtain⟨QH,rfl⟩:∃l:List Value,QH=l.toArray:=⟨QH.toList,bq⟩;have aI:=MQ VY;have V:=QF n bb f aW;have xO := MQ VZ;have ds := QF n bb xw Um
 refine cB (nt:=12) [.tmp 3] func220 ?_;refine aA aa (I CB @ri.eq_1) ?_;refine dh (MR n bb) (ch CB @ri.eq_1 g5 g3 g4 V ds (aT aI xO @QG)) ?_ ?_
 ·exact⟨⟨cap,bM,rfl,VX VY,oc⟩,⟨QH,tb,rfl,VX VZ,zm⟩,bM,tb,rfl⟩
 refine bf CB ?_;exact λE=>aq8 g bM tb
def QI:∀n,CA n
 |0=>λ_ _ _ _ _ _ h=>by omega
 |n+1=>by
  have bb:=QI n;intro f cap w S t h ak;cases h with
  |leaf b t h=>exact arn b t w S h
  |join g rV eX nR dD lV bM tb bn B aU aQ Z=>rw[arh]at ak;exact arp n bb g rV eX nR dD lV bM tb w S bn B aU aQ Z U U
  |star b dD bM h aQ=>have:ka bM+1<n+1:=ak;exact aro n bb b dD bM w S h aQ U
end
section
open Go.RowKit Go.LE Go.Proofs.Tryz
set_option maxRecDepth 10000
variable{i j:Int}{s q:ao}{m:Nat}{fp:aD}
def pF(s:ao)(i:Int)(d:Nat)(op:aX):List br:=[.val (.string s),.val (.int .i64 i),.row 3 1 d op]
def jy(c i:Int):List PanicEntry:=[{ v:=.iface 39 (ix c i ⟨#[]⟩),recovered:=false }]
def arq(A:0<=i)(h:¬i<s.size):af s i=0:=by unfold af;rw[ON (by have:s.data.size=s.size:=rfl;omega)];rfl
def adi{w:ar}{u:aM}{d:Nat}{op:aX}(h:eH w u fp 251 (pF s i d op)):
  ∃b,u=.pointer (some ⟨b,0,none⟩)/\w.cell? ⟨b,0,none⟩=some (.string s)/\w.cell? ⟨b,0+1,none⟩=some (.int .i64 i):=by
 obtain⟨b,us,D,O,B⟩:=Qb h
 match us,O with
 |[x,y,aE7],O=>obtain⟨rfl,rfl,_,_⟩:=O;exact⟨b,D,B 0 bq,B 1 bq⟩
def xY:=(hV @Fy @K8 @Ch @DZ @pF.eq_1 @ix.eq_1 @jy.eq_1)
def ars(s:ao)(i:Int)(b:Nat)(w:ar)(g1:w.cell? ⟨b,0,none⟩=some (.string s))(g2:w.cell? ⟨b,0+1,none⟩=some (.int .i64 i)) :
  cQ 127 #[.pointer (some ⟨b,0,none⟩)] w (.bool (decide ((s.size:Int)<=i))):=by
 refine cB (nt:=13) [.tmp 2] func127 ?_;refine aA aa xY ?_;refine hs aa (aT xY g1 g2) ?_;exact bE xY
abbrev zn:y1 prog 127 where
 T:=251
 pre:=λW bs fs aj=>match fs,aj with|[.val (.string s),.val (.int .i64 i),.row 3 1 d op],[]=>True|_,_=>False
 res:=λW fs aj=>match fs,aj with|[.val (.string s),.val (.int .i64 i),.row 3 1 d op],[]=>.bool (decide ((s.size:Int)<=i))|_,_=>undef
 enters:=call127
 ok:=by
  intro W w bs u fp us fs aj ad H hu hp;split at hp
  ·rename_i s i d op
   match us,hu with
   |[],_=>obtain⟨b,rfl,g1,g2⟩:=adi H;exact ars s i b w g1 g2
  ·exact hp.elim
def art(s:ao)(i:Int)(b:Nat)(w:ar)(A:0<=i)(g1:w.cell? ⟨b,0,none⟩=some (.string s))(g2:w.cell? ⟨b,0+1,none⟩=some (.int .i64 i)) :
  cQ 179 #[.pointer (some ⟨b,0,none⟩)] w (.int .u8 (af s i)):=by
 refine cB (nt:=22) [.tmp 2] func179 ?_;refine bk aa xY ?_;refine hs aa (aT xY g1 g2) ?_;refine bC xY ?_ ?_<;>intro J
 ·have hi:i<s.size:=aC J
  refine hs aa (aT xY g1 g2) ?_;exact bE xY
 ·have hi:¬i<s.size:=aC J
  rw[arq A hi];refine bk aa xY ?_;exact bE xY
abbrev CC:y1 prog 179 where
 T:=251
 pre:=λW bs fs aj=>match fs,aj with|[.val (.string s),.val (.int .i64 i),.row 3 1 d op],[]=>0<=i|_,_=>False
 res:=λW fs aj=>match fs,aj with|[.val (.string s),.val (.int .i64 i),.row 3 1 d op],[]=>.int .u8 (af s i)|_,_=>undef
 enters:=call179
 ok:=by
  intro W w bs u fp us fs aj ad H hu hp;split at hp
  ·rename_i s i d op
   match us,hu with
   |[],_=>obtain⟨b,rfl,g1,g2⟩:=adi H;exact art s i b w hp g1 g2
  ·exact hp.elim
def aru(s:ao)(i:Int)(d:Nat)(op:aX)(c j:Int)(u:aM)(fp:aD)(w:ar)(H:eH w u fp 251 (pF s i d op))(ax:∀b∈fp,b<w.heap.size) :
  Calls prog 128 (#[u]++#[.int .i64 c,.int .i64 j]) w λe M=>h0 w u fp 251 e M (.b7 (jy c j) (.tuple #[])):=by
 refine jP (nt:=10) [] H ax func128 ?_;refine ae.gz aa bX (aJ xY) ?_ ?_
 ·exact ot
 exact cC
abbrev GP:iO prog 128:=sy 251 (λ| [.val (.string s),.val (.int .i64 i),.row 3 1 d op],[.val (.int .i64 c),.val (.int .i64 j)]=>some (s,i,d,op,c,j)|_,_=>none) (λav W bs=>True) call128 λav W w bs u fp ad hp H ax fi=>aru av.1 av.2.1 av.2.2.1 av.2.2.2.1 av.2.2.2.2.1 av.2.2.2.2.2 u fp w H ax
abbrev Eo:Env prog:=a7 zn.spec (a7 CC.spec (a7 GP.spec aa))
def V0(s:ao)(d:Nat)(op:aX):Except (Int×Int) (Int×Int)->j7
 |.ok (n,j)=>.ret (.int .i64 n) (pF s j d op)
 |.error (c,j)=>.b7 (jy c j) (.int .i64 0)
theorem adj(s:ao)(d:Nat)(op:aX)(n j:Int):V0 s d op (.ok (n,j))=.ret (.int .i64 n) (pF s j d op):=rfl
theorem adk(s:ao)(d:Nat)(op:aX)(c j:Int):V0 s d op (.error (c,j))=.b7 (jy c j) (.int .i64 0):=rfl
def V1(c:Int->Int)(N:Int)(k:Nat)(n i:Int)(h:¬(i<N/\48<=c i/\c i<=57)):mm c N k n i=(n,i):=by
 cases k with
 |zero=>rfl
 |succ k=>rw[mm,ab h]
def bd:Nat->Int
 |0=>999
 |1=>99
 |2=>9
 |_=>0
def QJ(k:Nat):bd k<=999:=by
 match k with
 |0=>simp[bd]
 |1=>simp[bd]
 |2=>simp[bd]
 |n+3=>simp[bd]
def QK{k:Nat}(ad:k+1<=3):10*bd (k+1)+9<=bd k:=by
 match k,ad with
 |0,_=>simp[bd]
 |1,_=>simp[bd]
 |2,_=>simp[bd]
def wL:=xY
def arv(s:ao)(i:Int)(d:Nat)(op:aX)(u:aM)(fp:aD)(w:ar)(A:0<=i)(hO:i<=s.size)(V:s.size<=140737488351232)(H:eH w u fp 251 (pF s i d op))(ax:∀b∈fp,b<w.heap.size) :
  Calls prog 265 (#[u]++#[]) w λe M=>h0 w u fp 251 e M (V0 s d op (np (af s) s.size i)):=by
 refine jP (nt:=58) [.tmp 2] H ax func265 ?_;refine aA Eo wL ?_;refine hs Eo wL ?_;generalize dW:mm (af s) s.size 3 0 i=R;have rO:=dv (i+3);refine ae.seq (ae.block ?_)
 refine ae.loop (λp:Nat×Int=>⟨20,bK [(0,.is (.own 0 0)),(3,p.2),(4,i)],bA [(0,.cells 251 [s,.v (.int .i64 (i+(3-(p.1:Nat)))),.ak 3]),(3,.row 3 1 d (op.map .v))]⟩)
  (λp=>p.1<=3/\(0<=p.2/\p.2<=bd p.1)/\i+(3-(p.1:Nat))<=s.size/\mm (af s) s.size p.1 p.2 (i+(3-(p.1:Nat)))=R) (λp=>p.1) (3,0) ?_ ⟨bq,by simp[bd],by simpa using hO,by simpa using dW⟩ ?_
 ·exact bh (b3 wL @TJ @O8 (show(3:Int)-((3:Nat):Int)=0 from rfl))
 rintro⟨k,n⟩ ⟨ad,⟨Gv,kq⟩,hi,dd⟩;simp only at ad Gv kq hi dd;have MS:=QJ k;refine ae.seq ?_;refine aL Eo (I wL rO) ?_ ?_
 ·exact⟨aq,λ_=>⟨aq,U⟩,λ_=>⟨aq,U⟩⟩
 refine bC wL ?_ ?_<;>intro J
 ·simp only[ob,OU,oa,uT]at J;obtain⟨⟨⟨D,O⟩,B⟩,aU⟩:=J;obtain⟨k,rfl⟩:∃j,k=j+1:=⟨k-1,U⟩;rw[mm,al ⟨U,B,aU⟩]at dd;have hX:=QK ad;generalize um:i+(3-((k+1:Nat):Int))=at_ at *;have CD:=dv (10*n)
  have CE:IntKind.u8.wrap (af s at_-48)=af s at_-48:=rh U U;have wM:=dv (af s at_-48);have wd:=dv (10*n+(af s at_-48));have MT:=iv (at_+1) (i+(3-((k:Nat):Int)));refine a1 ?_;refine ae.block ?_
  refine aL Eo (de wL CD CE wM wd) ?_ ?_
  ·exact⟨aq,U⟩
  refine bY Eo (I wL MT) ?_;refine⟨(k,10*n+(af s at_-48)),⟨by simp only;omega,⟨by simp only;omega,by simp only;omega⟩,by simp only;omega,by simp only;rw[show i+(3-(k:Int))=at_+1 by omega];exact dd⟩,by simp only;omega,?_⟩;exact bh wL
 ·have hX:¬((i+(3-(k:Int))<s.size/\i+(3-(k:Int))<i+3/\48<=af s (i+(3-(k:Int))))/\af s (i+(3-(k:Int)))<=57):=λh=>by
   apply pY.1 J;simp;omega
  have wN:R=(n,i+(3-(k:Int))):=by
   rw[<- dd];cases k with
   |zero=>rfl
   |succ k=>exact V1 _ _ _ _ _ (λh=>hX ⟨⟨h.1,U,h.2.1⟩,h.2.2⟩)
  have he:np (af s) s.size i=if R.2=i then .error (20,i) else .ok R:=by rw[np,dW]
  rw[he,wN];refine c6 ?_;refine ae.seq ?_;refine aR Eo wL ?_ ?_<;>intro J
  ·have D:i+(3-(k:Int))=i:=aC J
   rw[al D,adk];refine ae.gz Eo bX (aJ (I wL D)) ?_ ?_
   ·exact⟨aq,bq⟩
   exact cC
  ·have D:¬i+(3-(k:Int))=i:=aC J
   rw[ab D,adj];refine bk Eo wL ?_;refine bf wL ?_;exact eC (I wL @bQ)
abbrev arw:iO prog 265:=sy 251 (λ| [.val (.string s),.val (.int .i64 i),.row 3 1 d op],[]=>some (s,i,d,op)|_,_=>none) (λav W bs=>0<=av.2.1/\av.2.1<=av.1.size/\av.1.size<=140737488351232) call265 λav W w bs u fp ad hp H ax fi=>arv av.1 av.2.1 av.2.2.1 av.2.2.2 u fp w hp.1 hp.2.1 hp.2.2 H ax
def A1{r:cH}{cy:ar}{ck fp:aD}{w:ar}{S:aY}{cS:aM}{T:a6}{h:ca}{vs:List ag}{fx:List hZ}{ks:aD}(aK:gL cy (bw (aP w S fp) ck) cS r.2)
  (A:h 0=some (.cells T vs)) (au:e6 h vs=some (px [.int .i64 (r.1:Nat),cS] fx,ks)) (aE:(0::ks).Nodup) (hp:∀x∈fx,∃a,x=.eg a:=by simp):bZ w S fp T cy ck (.agg [r.1,cS]) h (.fact b5.two (nS r) fx):=
 bZ.plain [.int .i64 (r.1:Nat),cS] ⟨λE=>(QB r cS aK.one).symm,cS,rfl,aK⟩ A au aE hp
abbrev xZ(G:aY)(a:cH):Env prog:=a7 zn.spec (a7 CC.spec (a7 GP.spec (a7 arw.spec (a7 ((aq7 a).spec G) aa))))
def MU:Value:=.agg #[(0:Int),.nilFunc]
def QL(a:cH)(s:ao)(d:Nat)(op:aX):Except (Int×Int) (Int×Int×Int)->j7
 |.ok (m,n,j)=>.fact b5.two (nS (nO a m n)) ((pF s j d op).map .eg)
 |.error (c,j)=>.b7 (jy c j) MU
def adl{c:Int->Int}{N i n j:Int}(h:np c N i=.ok (n,j)):0<=n/\n<=999:=by
 have key:∀(k:Nat) (n i:Int),k<=3->0<=n->n<=bd k->0<=(mm c N k n i).1/\(mm c N k n i).1<=999:=by
  intro k
  induction k with
  |zero=>intro n i _ A D;exact⟨A,D⟩
  |succ k bb=>
   intro n i ad A D;rw[mm];split
   ·rename_i h;have:=QK ad;exact bb _ _ U U U
   ·have:=QJ (k+1);exact⟨A,by simp only;omega⟩
 unfold np at h;split at h
 ·cases h
 ·simp only[ng]at h;have:=key 3 0 i (eo _) U (by simp[bd]);rw[h]at this;exact this
def kr:=(eI ez @pF.eq_1 @ix.eq_1 @jy.eq_1 @adj @adk)
def arx(s:ao)(i:Int)(d:Nat)(op:aX)(a:cH)(dD:aM)(aQ:a.1<=2001)(u:aM)(fp:aD)(w:ar)(S:aY)(A:0<=i)(hO:i<s.size)(V:s.size<=140737488351232)
  (H:eH w u fp 251 (pF s i d op)) (ax:∀b∈fp,b<w.heap.size) (bp:∀b∈fp,¬S b) (D:gL w S dD a.2) :
  Calls prog 262 (#[u]++#[sA a dD]) w λe M=>sx w S u fp 251 e M (QL a s d op (jR (af s) s.size i)):=by
 have fj:partsOf (.v (sA a dD))=[.v (.int .i64 (a.1:Nat)),.v dD]:=rfl;have cf:=aP.up w S fp;have g0:=D.mono (aP.ep w S fp bp);have dp:=dv (i+1);refine nm (nt:=88) S [.cell 4 254] H ax func262 ?_;refine aA aa (I kr fj) ?_;refine aA aa kr ?_;refine aA aa (I kr dp) ?_
 cases db:np (af s) s.size (i+1) with
 |error e=>
  obtain⟨c,j⟩:=e;have he:jR (af s) s.size i=.error (c,j):=by rw[jR,db]
  rw[he];refine ae.fe (xZ (aP w S fp) a) bX (aJ (aT kr db dp)) ?_ ?_
  ·exact mQ V
  exact cC
 |ok p=>
  obtain⟨m,j⟩:=p;have Y:=Qr db;have hm:=adl db;refine aL (xZ (aP w S fp) a) (aT kr db dp) ?_ ?_
  ·exact mQ V
  refine aA aa kr ?_;have iF:=dv (j+1);have Z:∀n k,qz (af s) s.size m j=.ok (n,k)->jR (af s) s.size i=wA (af s) s.size m n k i:=λn k h=>by rw[jR,db];simp only[h]
  cases dY:qz (af s) s.size m j with
  |error e=>
   obtain⟨c,k⟩:=e;have he:jR (af s) s.size i=.error (c,k):=by rw[jR,db];simp only[dY]
   rw[he];rw[qz]at dY;split at dY
   ·rename_i CF;split at dY
    ·rename_i wO;refine ae.seq ?_;refine aL (xZ (aP w S fp) a) kr ?_ ?_
     ·exact mQ V
     refine bC kr ?_ ?_<;>intro J
     ·skip;refine aA aa (I kr iF) ?_;refine aA aa kr ?_;refine aL (xZ (aP w S fp) a) kr ?_ ?_
      ·exact mQ V
      refine bC kr ?_ ?_<;>intro J
      ·skip;refine ae.gz (xZ (aP w S fp) a) bX (aJ (I kr dY)) ?_ ?_
       ·exact mQ V
       exact cC
      ·exfalso;apply pY.1 J;simp;omega
     ·exfalso;apply pY.1 J;simp;omega
    ·cases dY
   ·cases dY
  |ok q=>
   obtain⟨n,k⟩:=q;have El:=Z n k dY
   refine fR ⟨60,bK [(0,.is (.own 0 0)),(3,.is (.own 8 0)),(4,.is (.own 16 0)),(5,i),(6,m),(7,n)],bA [(0,.cells 251 [s,k,.ak 3]),(3,.row 3 1 d (op.map .v)),(8,.cells 254 [a.1,dD]),(16,.cells 254 [(0:Int),.v .nilFunc])]⟩ ?_ ?_
   ·skip;refine aL (xZ (aP w S fp) a) kr ?_ ?_
    ·exact mQ V
    refine bC kr ?_ ?_<;>intro J
    ·have CF:j<s.size/\af s j=44:=bt J
     rw[qz,al CF]at dY;refine aA aa (I kr iF) ?_;refine aA aa kr ?_;refine aL (xZ (aP w S fp) a) kr ?_ ?_
     ·exact mQ V
     refine bC kr ?_ ?_<;>intro J
     ·have wO:¬j+1<s.size\/af s (j+1)≠125:=bt J
      rw[al wO]at dY;refine wr (xZ (aP w S fp) a) (I kr dY) ?_ ?_
      ·exact mQ V
      exact b8 (λx=>if x=3 then .key 370 else .key x) kr
     ·have wO:¬(¬j+1<s.size\/af s (j+1)≠125):=bt J
      rw[ab wO]at dY;simp only[ng,ll]at dY;obtain⟨rfl,rfl⟩:=dY;refine a1 ?_;exact b8 (λx=>if x=3 then .key 138 else .key x) kr
    ·have CF:¬(j<s.size/\af s j=44):=λh=>by
      apply pY.1 J;simp;omega
     rw[qz,ab CF]at dY;simp only[ng,ll]at dY;obtain⟨rfl,rfl⟩:=dY;refine a1 ?_;exact b8 (λx=>if x=3 then .key 138 else .key x) kr
   ·have ad:j<=k/\k<=s.size/\-1<=n/\n<=999:=by
     rw[qz]at dY;split at dY
     ·split at dY
      ·have:=Qr dY;have:=adl dY;omega
      ·simp only[ng,ll]at dY;omega
     ·simp only[ng,ll]at dY;omega
    have dM:=dv (k+1);rw[El];refine ae.seq ?_;refine aL (xZ (aP w S fp) a) kr ?_ ?_
    ·exact mQ V
    refine bC kr ?_ ?_<;>intro J
    ·have O:¬k<s.size\/af s k≠125:=bt J
     rw[wA,al O];refine ae.gz (xZ (aP w S fp) a) bX (aJ kr) ?_ ?_
     ·exact mQ V
     exact cC
    ·have O:¬(¬k<s.size\/af s k≠125):=λh=>by
      apply pY.1 J;simp;omega
     rw[wA,ab O];refine dL aa (I kr dM) ?_;refine aR aa kr ?_ ?_<;>intro J
     ·have B:255<m\/255<n\/0<=n/\n<m:=bt J
      rw[al B];refine ae.gz (xZ (aP w S fp) a) bX (aJ kr) ?_ ?_
      ·exact mQ V
      exact cC
     ·have B:¬(255<m\/255<n\/0<=n/\n<m):=λh=>by
       apply pY.1 J;simp;omega
      rw[ab B];refine a1 ?_;refine aL (xZ (aP w S fp) a) kr ?_ ?_
      ·exact⟨⟨qh g0,aQ,_,_,_,rfl,U,U,U,U⟩,cf⟩
      refine ae.dt 744 (aJ (I kr fj)) (bT.refl _ _) λcy ck cs bD dR=>?_
      obtain⟨cS,rfl,aK,dP⟩:=oU dR;refine bf (aT kr fj dP) ?_;exact A1 aK rfl ((aJ (I kr @bQ))) aq
abbrev ary (a:cH):y2 prog 262 where
 T:=251
 kinds:=[some (b5.two,nS a)]
 pre:=λfs aj W S=>∃s i d op x,fs=pF s i d op/\aj=[x]/\a.1<=2001/\0<=i/\i<s.size/\s.size<=140737488351232
 gA:=λ_ _ _ _ _ _ _ h=>h
 out:=λfs aj=>match fs with
  |[.val (.string s),.val (.int .i64 i),.row 3 1 d op]=>QL a s d op (jR (af s) s.size i)
  |_=>.b7 [] undef
 enters:=call262
 ok:=by
  intro w S u fp us fs aj H ax bp hu hp;obtain⟨s,i,d,op,x,rfl,rfl,aQ,A,hi,V⟩:=hp
  match us,hu with
  |[cT],hu=>obtain⟨D,_⟩:=hu;obtain⟨dD,rfl,pE⟩:=GI D;exact arx s i d op a dD aQ u fp w S A hi V H ax bp pE
theorem arz(a:cH)(s:ao)(d:Nat)(op:aX)(m n j:Int):QL a s d op (.ok (m,n,j))=.fact b5.two (nS (nO a m n)) ((pF s j d op).map .eg):=rfl
theorem arA(a:cH)(s:ao)(d:Nat)(op:aX)(c j:Int):QL a s d op (.error (c,j))=.b7 (jy c j) MU:=rfl
abbrev GQ(G:aY)(a:cH):Env prog:=a7 zn.spec (a7 CC.spec (a7 ((MJ a).spec G) (a7 ((xV .cat a (qf a)).spec G) (a7 ((QD a).spec G) (a7 ((ary a).spec G) aa)))))
def Js(s:ao)(d:Nat)(op:aX):Except (Int×Int) (cH×Int)->j7
 |.ok (r,j)=>.fact b5.two (nS r) ((pF s j d op).map .eg)
 |.error (c,j)=>.b7 (jy c j) MU
theorem Jt(s:ao)(d:Nat)(op:aX)(r:cH)(j:Int):Js s d op (.ok (r,j))=.fact b5.two (nS r) ((pF s j d op).map .eg):=rfl
theorem sB(s:ao)(d:Nat)(op:aX)(c j:Int):Js s d op (.error (c,j))=.b7 (jy c j) MU:=rfl
def adm(a:cH)(m n:Int)(aQ:a.1<=2001):(nO a m n).1<=2001:=by
 have D:(if m=0 then jx a else a).1<=2001:=by split;exact MM a;exact aQ
 unfold nO;split
 ·exact ML a
 ·split
  ·decide
  ·split
   ·exact zk _ _ _
   ·exact MK _ (λx=>zk _ _ _) _ _ (MK _ (λx=>zk _ _ _) _ _ D)
structure CG where
 W:World
 bs:List Nat
 j4:Value
 r:cH
 i:Int
 n:Nat
def k0:=(I (ch ez @pF.eq_1 @ix.eq_1 @jy.eq_1 @MJ.eq_1 @xV.eq_1 @QD.eq_1 @arz) @arA)
def arB(s:ao)(i0:Int)(d:Nat)(op:aX)(a:cH)(dD:aM)(aQ:a.1<=2001)(u:aM)(fp:aD)(w:ar)(S:aY)(A:0<=i0)(hO:i0<=s.size)(V:s.size<=140737488351232)
  (H:eH w u fp 251 (pF s i0 d op)) (ax:∀b∈fp,b<w.heap.size) (bp:∀b∈fp,¬S b) (D:gL w S dD a.2) :
  Calls prog 250 (#[u]++#[sA a dD]) w λe M=>sx w S u fp 251 e M (Js s d op (nq (af s) s.size ((s.size:Int).toNat+1) a i0)):=by
 have fj:partsOf (.v (sA a dD))=[.v (.int .i64 (a.1:Nat)),.v dD]:=rfl;have cf:=aP.up w S fp;have g0:=D.mono (aP.ep w S fp bp);generalize dW:nq (af s) s.size ((s.size:Int).toNat+1) a i0=R;refine nm (nt:=38) S [.cell 4 254] H ax func250 ?_;refine dL aa (I k0 fj) ?_
 refine ae.q4 (λp:CG=>⟨5,bK [(0,.is (.own 0 0)),(3,.is (.own 8 0)),(4,.is (.own 16 0))],bA [(0,.cells 251 [s,p.i,.ak 3]),(3,.row 3 1 d (op.map .v)),(8,.cells 254 [p.r.1,p.j4]),(16,.cells 254 [(0:Int),.v .nilFunc])]⟩)
  CG.W CG.bs (λp=>(0<=p.i/\p.i<=s.size)/\p.r.1<=2001/\((s.size:Int)-p.i<p.n/\1<=p.n)/\gL p.W (bw (aP w S fp) p.bs) p.j4 p.r.2/\nq (af s) s.size p.n p.r p.i=R) (λp=>p.n) ⟨w,fp,dD,a,i0,(s.size:Int).toNat+1⟩ rfl rfl ?_ ⟨⟨A,hO⟩,aQ,⟨by simp only;omega,by simp only;omega⟩,g0,dW⟩ ?_
 ·exact b8 (λx=>.key x) (I k0 fj)
 rintro⟨cy,ck,j4,r,i,n⟩ ⟨⟨kk,ui⟩,aI,⟨aE,kq⟩,aK,dd⟩ bD;simp only at kk ui aI aE kq aK dd bD;dsimp only;obtain⟨n,rfl⟩:∃m,n=m+1:=⟨n-1,U⟩;have cT:=cf.ext bD;refine ae.seq ?_;refine aL (GQ (aP w S fp) r) k0 ?_ ?_
 ·exact mQ V
 refine bC k0 ?_ ?_<;>intro J
 ·have hi:i<s.size:=bt J
  rw[nq,ab U]at dd;have fS:=dv (i+1);refine a1 ?_;refine ae.block ?_;refine ae.seq ?_;refine aL (GQ (aP w S fp) r) k0 ?_ ?_
  ·exact mQ V
  refine ae.block ?_;refine aR aa k0 ?_ ?_<;>intro J
  ·have Mu:af s i=42:=aC J
   rw[al Mu]at dd;refine ae.more ?_;refine wr (GQ (aP w S fp) r) k0 ?_ ?_
   ·exact⟨⟨qh aK,aI,_,rfl⟩,cT⟩
   refine pw ?_;refine eZ.dt 104 (aJ k0) (bT.refl _ _) λcL c7 cs cq dR=>?_
   obtain⟨cS,rfl,mr,gY⟩:=oU dR;refine eZ.here ?_;refine kG ?_;refine bY aa (I k0 fS) ?_;refine⟨⟨cL,c7,cS,qf r,i+1,n⟩,⟨by simp only;omega,ML r,by simp only;omega,mr,dd⟩,by simp only;omega,rfl,rfl,?_⟩;exact b8 (λx=>.key x) (I k0 gY)
  ·have Mu:¬af s i=42:=aC J
   rw[ab Mu]at dd;refine aR aa k0 ?_ ?_<;>intro J
   ·have Ct:af s i=43:=aC J
    rw[al Ct]at dd;refine ae.more ?_;refine iP (GQ (aP w S fp) r) k0 ?_ ?_
    ·exact⟨⟨⟨qh aK,aI,_,rfl⟩,cT⟩,⟨qh aK,⟨aI,ML r⟩,_,_,rfl⟩,cT⟩
    refine pw ?_;refine eZ.dt 136 (aJ k0) (bT.refl _ _) λcL c7 cs cq dR=>?_
    obtain⟨cS,rfl,mr,gY⟩:=oU dR;refine eZ.here ?_;refine kG ?_;refine bY aa (I k0 fS) ?_;refine⟨⟨cL,c7,cS,eV .cat r (qf r),i+1,n⟩,⟨by simp only;omega,zk _ _ _,by simp only;omega,mr,dd⟩,by simp only;omega,rfl,rfl,?_⟩;exact b8 (λx=>.key x) (I k0 gY)
   ·have Ct:¬af s i=43:=aC J
    rw[ab Ct]at dd;refine aR aa k0 ?_ ?_<;>intro J
    ·have pk:af s i=63:=aC J
     rw[al pk]at dd;refine ae.more ?_;refine wr (GQ (aP w S fp) r) k0 ?_ ?_
     ·exact⟨⟨qh aK,aI,_,rfl⟩,cT⟩
     refine pw ?_;refine eZ.dt 136 (aJ k0) (bT.refl _ _) λcL c7 cs cq dR=>?_
     obtain⟨cS,rfl,mr,gY⟩:=oU dR;refine eZ.here ?_;refine kG ?_;refine bY aa (I k0 fS) ?_;refine⟨⟨cL,c7,cS,jx r,i+1,n⟩,⟨by simp only;omega,MM r,by simp only;omega,mr,dd⟩,by simp only;omega,rfl,rfl,?_⟩;exact b8 (λx=>.key x) (I k0 gY)
    ·have pk:¬af s i=63:=aC J
     rw[ab pk]at dd;refine aR aa k0 ?_ ?_<;>intro J
     ·have xS:af s i=123:=aC J
      rw[al xS]at dd;cases gj:jR (af s) s.size i with
      |error e=>
       obtain⟨c,j⟩:=e;rw[gj]at dd;simp only at dd;rw[<- dd,sB];refine ae.fe (GQ (aP w S fp) r) bX (aJ (I k0 gj)) ?_ ?_
       ·exact⟨⟨qh aK,_,_,_,_,_,rfl,rfl,aI,kk,hi,V⟩,aq,bq⟩
       exact cC
      |ok q=>
       obtain⟨m,k,j⟩:=q;rw[gj]at dd;simp only at dd;have Y:=Ms gj;refine aL (GQ (aP w S fp) r) (I k0 gj) ?_ ?_
       ·exact⟨⟨qh aK,_,_,_,_,_,rfl,rfl,aI,kk,hi,V⟩,aq,bq,cT⟩
       refine ae.dt 167 (aJ k0) (bT.refl _ _) λcL c7 cs cq dR=>?_
       obtain⟨cS,rfl,mr,gY⟩:=oU dR;refine c6 ?_;refine⟨⟨cL,c7,cS,nO r m k,j,n⟩,⟨by simp only;omega,adm _ _ _ aI,by simp only;omega,mr,dd⟩,by simp only;omega,rfl,rfl,?_⟩;exact b8 (λx=>if x=3 then .key 162 else .key x) (I k0 gY)
     ·have xS:¬af s i=123:=aC J
      rw[ab xS]at dd;refine aL aa k0 ?_ ?_
      ·exact aK.one
      refine bf k0 ?_;rw[<- dd];exact A1 aK rfl ((aJ (I k0 @bQ))) aq
 ·have hi:¬i<s.size:=bt J
  rw[nq,al hi]at dd;refine c6 ?_;refine aL aa k0 ?_ ?_
  ·exact aK.one
  refine bf k0 ?_;rw[<- dd];exact A1 aK rfl ((aJ (I k0 @bQ))) aq
abbrev arC (a:cH):y2 prog 250 where
 T:=251
 kinds:=[some (b5.two,nS a)]
 pre:=λfs aj W S=>∃s i d op x,fs=pF s i d op/\aj=[x]/\a.1<=2001/\0<=i/\i<=s.size/\s.size<=140737488351232
 gA:=λ_ _ _ _ _ _ _ h=>h
 out:=λfs aj=>match fs with
  |[.val (.string s),.val (.int .i64 i),.row 3 1 d op]=>Js s d op (nq (af s) s.size ((s.size:Int).toNat+1) a i)
  |_=>.b7 [] undef
 enters:=call250
 ok:=by
  intro w S u fp us fs aj H ax bp hu hp;obtain⟨s,i,d,op,x,rfl,rfl,aQ,A,hi,V⟩:=hp
  match us,hu with
  |[cT],hu=>obtain⟨D,_⟩:=hu;obtain⟨dD,rfl,pE⟩:=GI D;exact arB s i d op a dD aQ u fp w S A hi V H ax bp pE
def fg(s:ao)(i:Int):Except (Int×Int) (BitVec 256×Int):=match nQ s i with
 |.error j=>.error (10,j)
 |.ok (a,j)=>.ok (a,j)
def MV(f:dr)(E:ByteArray->Int->Except (Int×Int) (cH×Int))(fL:ByteArray->Int->Prop)(n:Nat):Prop:=
 ∀(s:ao) (i:Int) (d:Nat) (op:aX) (u:aM) (fp:aD) (w:ar) (S:aY),d+n=1000->op.length=d->0<=i->fL s i->s.size<=140737488351232->gl w S ->
  eH w u fp 251 (pF s i d op)->(∀b∈fp,b<w.heap.size)->(∀b∈fp,¬S b) ->
  Calls prog f (#[u]++#[]) w λe M=>sx w S u fp 251 e M (Js s d op (E s i))
abbrev MW (n:Nat):Prop:=MV 251 (λs i=>gv (af s) s.size (fg s) n i) (λs i=>i<s.size) n
abbrev Ju (n:Nat):Prop:=MV 216 (λs i=>j8 (af s) s.size (gv (af s) s.size (fg s) n) ((s.size:Int).toNat+1) none i) (λs i=>i<=s.size) n
abbrev MX (n:Nat):Prop:=MV 178 (λs i=>vm (af s) s.size (j8 (af s) s.size (gv (af s) s.size (fg s) n) ((s.size:Int).toNat+1) none) i) (λs i=>i<=s.size) n
abbrev MY (n:Nat):Prop:=MV 126 (λs i=>xR (af s) s.size (gv (af s) s.size (fg s) n) i) (λs i=>i<=s.size) n
abbrev CH (f:dr)(E:ByteArray->Int->Except (Int×Int) (cH×Int))(fL:ByteArray->Int->Prop)(n:Nat)(ly:∀args w,(callFunc f args).run prog w=.ok (.enter f args) w)(h:MV f E fL n):y2 prog f where
 T:=251
 kinds:=[]
 pre:=λfs aj W S=>(∃s i d op,fs=pF s i d op/\d+n=1000/\op.length=d/\0<=i/\fL s i/\s.size<=140737488351232)/\gl W S/\aj=[]
 gA:=λ_ _ _ _ _ _ V h=>⟨h.1,h.2.1.mono V,h.2.2⟩
 out:=λfs aj=>match fs with
  |[.val (.string s),.val (.int .i64 i),.row 3 1 d op]=>Js s d op (E s i)
  |_=>.b7 [] undef
 enters:=ly
 ok:=by
  intro w S u fp us fs aj H ax bp hu hp;obtain⟨⟨s,i,d,op,rfl,D,O,B,aU,bn⟩,cA,rfl⟩:=hp
  match us,hu with
  |[],_=>exact h s i d op u fp w S D O B aU bn cA H ax bp
abbrev Ep(G:aY)(n:Nat)(h:MW n)(a x y:cH):Env prog:=a7 zn.spec (a7 CC.spec (a7 GP.spec (a7 ((Cx .bV).spec G) (a7 ((xV .cat x y).spec G) (a7 ((arC a).spec G) (a7 ((CH _ _ _ n call251 h).spec G) aa))))))
section
variable (G:aY)(n:Nat)(h:MW n)(a x y:cH)
end
def V2{s:ao}:∀{n:Nat} {i:Int} {a b:dc} {j:Int},wH s n i a=.ok (b,j)->0<=i->i<j/\j<=s.size
 |0,i,a,b,j,h,_=>by cases h
 |n+1,i,a,b,j,h,A=>by
  rw[wH]at h;split at h
  ·simp only[ng,ll]at h;omega
  ·cases D:iQ s i iw with
   |error e=>rw[D]at h;cases h
   |ok p=>
    obtain⟨lo,k⟩:=p;rw[D]at h;simp only at h;have g1:=Cw D A;split at h
    ·cases O:iQ s (k+1) iw with
     |error e=>rw[O]at h;cases h
     |ok p=>
      obtain⟨hi,l⟩:=p;rw[O]at h;simp only at h;have g2:=Cw O U;split at h
      ·cases h
      ·have:=V2 h U;omega
    ·have:=V2 h U;omega
def V3{a:dc}(h:nQ s i=.ok (a,j))(A:0<=i)(D:i<s.size):i<j/\j<=s.size:=by
 rw[nQ]at h;split at h
 ·simp only[ng,ll]at h;omega
 ·split at h
  ·rw[AY]at h;cases hm:wH s (s.size+1) (if mq s (i+1) then i+1+1 else i+1) 0 with
   |error e=>rw[hm]at h;cases h
   |ok p=>
    obtain⟨b,k⟩:=p;rw[hm]at h;simp only[wI,ng,ll]at h;have:=V2 hm (by split<;>omega);have hle:i+1<=(if mq s (i+1) then i+1+1 else i+1):=by split<;>omega
    omega
  ·cases O:iQ s i qC with
   |error e=>rw[O]at h;cases h
   |ok p=>obtain⟨b,k⟩:=p;rw[O]at h;simp only[zg,ng,ll]at h;have:=Cw O A;omega
def Er(s:ao):vn s.size (fg s):=λi S j A D h=>by
 rw[fg]at h;cases O:nQ s i with
 |error e=>rw[O]at h;cases h
 |ok p=>obtain⟨a,k⟩:=p;rw[O]at h;simp only[ng,ll]at h;have:=V3 O A D;omega
def arD{n:Nat}(aE:n<=1000){r:cH}(A:0<=i)(hi:i<s.size)(he:¬pB (af s i))(hp:¬ic (af s i))(h:gv (af s) s.size (fg s) n i=.ok (r,j)):i<j/\j<=s.size/\r.1<=2001:=by have:=Mw (c:=af s) (Er s) n i (ou 0) (List.replicate (1000-n) (ou 0)) A hi he hp (by simp;omega);rw[h]at this;obtain⟨D,O,t,rfl,_⟩:=this;exact⟨D,O,Gw t⟩
def MZ{s:ao}:∀{n:Nat} {r bG:cH} {i j:Int},nq (af s) s.size n r i=.ok (bG,j)->i<=s.size->r.1<=2001->i<=j/\j<=s.size/\bG.1<=2001
 |0,r,bG,i,j,h,hi,aI=>by simp only[nq,ng,ll]at h;obtain⟨rfl,rfl⟩:=h;exact⟨Lg _,hi,aI⟩
 |n+1,r,bG,i,j,h,hi,aI=>by
  rw[nq]at h;split at h
  ·simp only[ng,ll]at h;obtain⟨rfl,rfl⟩:=h;exact⟨Lg _,hi,aI⟩
  ·split at h
   ·have:=MZ h U (ML _);exact⟨U,this.2⟩
   ·split at h
    ·have:=MZ h U (zk _ _ _);exact⟨U,this.2⟩
    ·split at h
     ·have:=MZ h U (MM _);exact⟨U,this.2⟩
     ·split at h
      ·cases gj:jR (af s) s.size i with
       |error e=>rw[gj]at h;cases h
       |ok q=>obtain⟨m,k,l⟩:=q;rw[gj]at h;have aN:=Ms gj;have:=MZ h U (adm _ _ _ aI);exact⟨U,this.2⟩
      ·simp only[ng,ll]at h;obtain⟨rfl,rfl⟩:=h;exact⟨Lg _,hi,aI⟩
def arE(o:Option cH)(p:cH)(hp:p.1<=2001):(za o p).1<=2001:=by
 cases o with
 |none=>exact hp
 |some x=>exact zk _ _ _
structure V4 where
 W:World
 bs:List Nat
 j4:Value
 o:Option cH
 i:Int
 n:Nat
def hP:=(ch ez @pF.eq_1 @ix.eq_1 @jy.eq_1 @Cx.eq_1 @xV.eq_1 @Jt @sB)
def adn(n:Nat)(cb:MW n):Ju n:=by
 intro s i0 d op u fp w S wP cm A hO V GR H ax bp;have cf:=aP.up w S fp;have cv:=GR.mono (aP.ep w S fp bp);dsimp only;generalize dW:j8 (af s) s.size (gv (af s) s.size (fg s) n) ((s.size:Int).toNat+1) none i0=R;refine nm (nt:=41) S [.cell 2 254] H ax func216 ?_;refine aA aa hP ?_
 refine aL (Ep (aP w S fp) n cb (ht .bV) (ht .bV) (ht .bV)) hP ?_ ?_
 ·exact⟨rfl,cf⟩
 refine ae.dt 32 (aJ hP) (bT.refl _ _) λmg qy cs ff dR=>?_
 obtain⟨cS,rfl,aK,dP⟩:=oU dR;have Jv:=cf.ext ff;refine ae.seq (ae.block ?_)
 refine ae.q4 (λp:V4=>⟨10,bK [(0,.is (.own 0 0)),(2,.is (.own 8 0)),(3,.is (.own 40 0)),(4,p.o.isSome)],bA [(0,.cells 251 [s,p.i,.ak 3]),(3,.row 3 1 d (op.map .v)),(8,.cells 254 [(0:Int),.v .nilFunc]),(40,.cells 254 [((wB p.o).1),p.j4])]⟩)
  V4.W V4.bs (λp=>(0<=p.i/\p.i<=s.size)/\(wB p.o).1<=2001/\((s.size:Int)-p.i<p.n/\1<=p.n)/\gL p.W (bw (aP w S fp) p.bs) p.j4 (wB p.o).2/\j8 (af s) s.size (gv (af s) s.size (fg s) n) p.n p.o p.i=R) (λp=>p.n) ⟨mg,qy,cS,none,i0,(s.size:Int).toNat+1⟩ rfl rfl ?_ ⟨⟨A,hO⟩,by show 1<=2001;omega,⟨by simp only;omega,by simp only;omega⟩,aK,dW⟩ ?_
 ·exact b8 (λx=>.key x) (de hP dP @wB.eq_1 @ht.eq_1 @Tw)
 rintro⟨cy,ck,j4,o,i,k⟩ ⟨⟨kk,ui⟩,aI,⟨aE,kq⟩,aK,dd⟩ bD;simp only at kk ui aI aE kq aK dd bD;dsimp only;obtain⟨k,rfl⟩:∃m,k=m+1:=⟨k-1,U⟩;have zl:=ff.trans bD;have cT:=cf.ext zl;have bg:=cv.mono zl.cc;refine ae.seq ?_
 refine aL (Ep (aP w S fp) n cb (ht .bV) (ht .bV) (ht .bV)) hP ?_ ?_
 ·exact mQ V
 refine bC hP ?_ ?_<;>intro J
 ·have hi:i<s.size:=bt J
  rw[j8,ab U]at dd;refine a1 ?_;refine ae.block ?_;refine ae.seq ?_;refine aL (Ep (aP w S fp) n cb (ht .bV) (ht .bV) (ht .bV)) hP ?_ ?_
  ·exact mQ V
  refine ae.block ?_
  refine fR ⟨30,bK [(0,.is (.own 0 0)),(2,.is (.own 8 0)),(3,.is (.own 40 0)),(4,o.isSome),(13,.is (.v (.int .u8 (af s i)))),(14,.is (.v (.bool (decide (pB (af s i))))))],bA [(0,.cells 251 [s,i,.ak 3]),(3,.row 3 1 d (op.map .v)),(8,.cells 254 [(0:Int),.v .nilFunc]),(40,.cells 254 [((wB o).1),j4])]⟩ ?_ ?_
  ·skip;refine aR aa hP ?_ ?_<;>intro J
   ·have e:decide (pB (af s i))=true:=nJ (show pB (af s i) from .inl (aC J));refine a1 ?_;exact b8 (λx=>.key x) (aT hP J e)
   ·have jr:=J;refine aR aa hP ?_ ?_<;>intro J
    ·have e:decide (pB (af s i))=true:=nJ (show pB (af s i) from .inr (.inl (aC J)));refine a1 ?_;exact b8 (λx=>.key x) (aT hP J e)
    ·have rk:=J;refine aR aa hP ?_ ?_<;>intro J
     ·have e:decide (pB (af s i))=true:=nJ (show pB (af s i) from .inr (.inr (.inl (aC J))));refine a1 ?_;exact b8 (λx=>.key x) (aT hP J e)
     ·have e:decide (pB (af s i))=decide (af s i=41):=by
       have g1:¬af s i=124:=aC jr
       have g2:¬af s i=38:=aC rk
       have g3:¬af s i=45:=aC J
       rw[uV];unfold pB;omega
      refine bY aa hP ?_;exact b8 (λx=>.key x) (I hP e)
  refine bC hP ?_ ?_<;>intro J
  ·have he:pB (af s i):=aC J
   rw[al he]at dd;refine aL aa hP ?_ ?_
   ·exact aK.one
   refine bf hP ?_;rw[<- dd];exact A1 aK rfl ((aJ (I hP @bQ))) aq
  ·have he:¬pB (af s i):=aC J
   rw[ab he]at dd
   refine fR ⟨50,bK [(0,.is (.own 0 0)),(2,.is (.own 8 0)),(3,.is (.own 40 0)),(4,o.isSome),(20,.is (.v (.bool (decide (ic (af s i))))))],bA [(0,.cells 251 [s,i,.ak 3]),(3,.row 3 1 d (op.map .v)),(8,.cells 254 [(0:Int),.v .nilFunc]),(40,.cells 254 [((wB o).1),j4])]⟩ ?_ ?_
   ·skip;refine aR aa hP ?_ ?_<;>intro J
    ·have e:decide (ic (af s i))=true:=nJ (show ic (af s i) from .inl (aC J));refine a1 ?_;exact b8 (λx=>.key x) (aT hP J e)
    ·have jr:=J;refine aR aa hP ?_ ?_<;>intro J
     ·have e:decide (ic (af s i))=true:=nJ (show ic (af s i) from .inr (.inl (aC J)));refine a1 ?_;exact b8 (λx=>.key x) (aT hP J e)
     ·have rk:=J;refine aR aa hP ?_ ?_<;>intro J
      ·have e:decide (ic (af s i))=true:=nJ (show ic (af s i) from .inr (.inr (.inl (aC J))));refine a1 ?_;exact b8 (λx=>.key x) (aT hP J e)
      ·have e:decide (ic (af s i))=decide (af s i=123):=by
        have g1:¬af s i=42:=aC jr
        have g2:¬af s i=43:=aC rk
        have g3:¬af s i=63:=aC J
        rw[uV];unfold ic;omega
       refine bY aa hP ?_;exact b8 (λx=>.key x) (I hP e)
   refine bC hP ?_ ?_<;>intro J
   ·have hp:ic (af s i):=aC J
    rw[al hp]at dd;rw[<- dd,sB];refine ae.gz (Ep (aP w S fp) n cb (ht .bV) (ht .bV) (ht .bV)) bX (aJ hP) ?_ ?_
    ·exact mQ V
    exact cC
   ·have hp:¬ic (af s i):=aC J
    rw[ab hp]at dd;refine a1 ?_;cases Jw:gv (af s) s.size (fg s) n i with
    |error e=>
     obtain⟨c,j⟩:=e;rw[Jw]at dd;simp only at dd;rw[<- dd,sB];refine ae.fe (Ep (aP w S fp) n cb (ht .bV) (ht .bV) (ht .bV)) bX (aJ (I hP Jw)) ?_ ?_
     ·exact⟨⟨⟨_,_,_,_,rfl,wP,cm,kk,hi,V⟩,bg⟩,aq,bq⟩
     exact cC
    |ok q=>
     obtain⟨a,j⟩:=q;have aQ:=arD U kk hi he hp Jw;rw[Jw]at dd;simp only at dd;cases M0:nq (af s) s.size ((s.size:Int).toNat+1) a j with
     |error e=>
      obtain⟨c,l⟩:=e;rw[M0]at dd;simp only at dd;rw[<- dd,sB];have M1 := M0;rw[kR]at M1;refine ae.fe (Ep (aP w S fp) n cb a (ht .bV) (ht .bV)) bX (aJ (aT hP Jw M1)) ?_ ?_
      ·exact⟨⟨⟨⟨_,_,_,_,rfl,wP,cm,kk,hi,V⟩,bg⟩,aq,bq,cT⟩,⟨_,_,_,_,_,rfl,rfl,aQ.2.2,U,aQ.2.1,V⟩,aq,bq⟩
      exact cC
     |ok q=>
      obtain⟨p,l⟩:=q;have Jx:=MZ M0 aQ.2.1 aQ.2.2;rw[M0]at dd;simp only at dd;have M1 := M0;rw[kR]at M1;refine aA (Ep (aP w S fp) n cb a (ht .bV) (ht .bV)) (aT hP Jw M1) ?_;refine ae.dt 431 (aJ hP) (bT.refl _ _) λcL c7 cs cq dR=>?_
      obtain⟨arF,rfl,mr,gY⟩:=oU dR;have arG:=aK.mono cq.cc;have eO:=cT.ext cq
      refine rb (λoP:xW=>⟨70,bK [(0,.is (.own 0 0)),(2,.is (.own 8 0)),(3,.is (.own 40 0)),(5,.is (.own 432 0))],bA [(0,.cells 251 [s,l,.ak 3]),(3,.row 3 1 d (op.map .v)),(8,.cells 254 [(0:Int),.v .nilFunc]),(40,.cells 254 [((wB o).1),j4]),(432,.cells 254 [((za o p).1),oP.j4])]⟩) xW.W xW.bs
       (λoP=>gL oP.W (bw (aP w S fp) oP.bs) oP.j4 (za o p).2) ?_ ?_
      ·skip;refine aR aa hP ?_ ?_<;>intro J
       ·obtain⟨x,rfl⟩:=Dx.1 J;refine ae.more ?_;refine wr (Ep (aP w S fp) n cb a x p) (aT hP gY @wB.eq_1) ?_ ?_
        ·exact⟨⟨⟨qh arG,qh mr⟩,⟨aI,Jx.2.2⟩,_,_,rfl⟩,eO⟩
        refine pw ?_;refine eZ.dt 472 (aJ (I hP gY)) (bT.refl _ _) λe0 eu cs du e1=>?_
        obtain⟨arH,rfl,mR,mS⟩:=oU e1;refine eZ.here ?_;refine kG ?_;refine⟨⟨e0,eu,arH,0⟩,mR,rfl,rfl,?_⟩;exact b8 (λx=>if x=3 then .key 426 else .key x) (de hP gY mS @za.eq_1 @za.eq_2)
       ·have nT:o=none:=by cases o with|none=>rfl|some x=>cases J
        subst nT;refine a1 ?_;refine⟨⟨cL,c7,arF,0⟩,mr,rfl,rfl,?_⟩;exact b8 (λx=>if x=3 then .key 426 else .key x) (b3 hP gY @za.eq_1 @za.eq_2)
      rintro⟨e0,eu,adg,arI⟩ mR du;simp only at mR du;dsimp only;refine wr aa hP ?_ ?_
      ·exact mR.one
      refine⟨⟨e0,eu,adg,some (za o p),l,k⟩,⟨by simp only;omega,arE o p Jx.2.2,by simp only;omega,mR,dd⟩,by simp only;omega,rfl,rfl,?_⟩;exact b8 (λx=>.key x) (I hP @wB.eq_1)
 ·have hi:¬i<s.size:=bt J
  rw[j8,al hi]at dd;refine c6 ?_;refine aL aa hP ?_ ?_
  ·exact aK.one
  refine bf hP ?_;rw[<- dd];exact A1 aK rfl ((aJ (I hP @bQ))) aq
abbrev M3(G:aY)(n:Nat)(h:Ju n)(x y:cH):Env prog:=a7 zn.spec (a7 CC.spec (a7 ((xV .and x y).spec G) (a7 ((CH _ _ _ n call216 h).spec G) aa)))
abbrev arJ(G:aY)(n:Nat)(h:Ju n)(x y:cH):Env prog:=a7 zn.spec (a7 CC.spec (a7 ((xV .minus x y).spec G) (a7 ((CH _ _ _ n call216 h).spec G) aa)))
abbrev QM(G:aY)(n:Nat)(h:MX n)(x y:cH):Env prog:=a7 zn.spec (a7 CC.spec (a7 ((xV .alt x y).spec G) (a7 ((CH _ _ _ n call178 h).spec G) aa)))
def ado:lr:=⟨λ_ _ _=>True,λ_ _=>trivial⟩
def GS:=(hV ez @pF.eq_1 @ix.eq_1 @jy.eq_1 @xV.eq_1 @Jt @sB)
def arK(vr zo:Nat)(dD lV g:aM)(aQ:vr<=2001)(Z:zo<=2001)(D:dD.oneCell'=true)(O:lV.oneCell'=true)(B:g.oneCell'=true)(aK:partsOf (.v g)=[.v g])(w:ar)(S:aY) :
  Calls prog 180 #[.agg #[vr,dD],.agg #[zo,lV],g] w λe M=>oO w S e M (.fact b5.two ado):=by
 have fj:partsOf (.v (.agg #[vr,dD]))=[.v (.int .i64 (vr:Nat)),.v dD]:=rfl;have rj:partsOf (.v (.agg #[zo,lV]))=[.v (.int .i64 (zo:Nat)),.v lV]:=rfl;have dp:=ada aQ Z;refine ue (nt:=16) S [.cell 6 254] func180 ?_;refine aA GJ (b3 GS fj rj aK) ?_
 refine aA GJ (eI GS fj rj aK dp @Jo) ?_;refine ae.jt 0 (aJ (b3 GS fj rj aK)) (λE=>by simp only[ba,den,fj,rj,aK];exact rfl) λcy ck eX bD nu nv nw=>?_
 refine ae.jt 8 (aJ (b3 GS fj rj aK)) (λE=>by simp only[ba,den,fj,rj,aK];exact rfl) λcL c7 nR cq GK MI zj=>?_
 refine ae.jt 16 (aJ (b3 GS fj rj aK)) (λE=>by simp only[ba,den,fj,rj,aK];exact rfl) λe0 eu rV du adb ade VR=>?_
 refine bf (eI GS fj rj aK dp @Jo) ?_;exact⟨[.int .i64 ((fz (1+vr+zo):Nat):Int),.func (.func 220) #[] #[ri rV,ri eX,ri nR]],λE=>rfl,trivial⟩
abbrev V5:py prog 180 where
 kinds:=[none,none,none]
 pre:=λaj _ _=>∃(vr zo:Nat) (dD lV:aM) (g:ox),aj=[.val (.agg #[.int .i64 (vr:Nat),dD]),.val (.agg #[.int .i64 (zo:Nat),lV]),.val g.v]/\vr<=2001/\zo<=2001/\dD.oneCell'=true/\lV.oneCell'=true
 gA:=λ_ _ _ _ _ _ h=>h
 out:=λ_=>.fact b5.two ado
 enters:=call180
 ok:=by
  intro w S us aj hu hp;obtain⟨vr,zo,dD,lV,g,rfl,aQ,Z,D,O⟩:=hp
  match us,hu with
  |[cT,eO,tk],hu=>obtain⟨rfl,rfl,rfl,_⟩:=hu;exact arK vr zo dD lV g.v aQ Z D O rfl rfl w S
abbrev adp(G:aY)(n:Nat)(h:Ju n):Env prog:=a7 (V5.spec G) (a7 ((CH _ _ _ n call216 h).spec G) aa)
abbrev arL(G:aY)(n:Nat)(h:MX n):Env prog:=a7 (V5.spec G) (a7 ((CH _ _ _ n call178 h).spec G) aa)
section
variable (G:aY)(n:Nat)(h:Ju n)(bu:MX n)(x y:cH)
end
def V6(hm:m<=1000){r:cH}(A:0<=i)(hi:i<=s.size)(h:j8 (af s) s.size (gv (af s) s.size (fg s) m) ((s.size:Int).toNat+1) none i=.ok (r,j)):i<=j/\j<=s.size/\r.1<=2001:=by have:=VD (Er s) (Mw (c:=af s) (Er s) m) ((s.size:Int).toNat+1) i (ou 0) (List.replicate (1000-m) (ou 0)) A hi U (λh=>absurd rfl h) (by simp;omega);have cv:(rowOf (ou 0).row (ou 0).cM).map bU.val=none:=rfl;rw[cv,h]at this;obtain⟨D,O,_,row,cM,rfl,_⟩:=this;exact⟨D,O,Gw _⟩
def adq(hm:m<=1000){r:cH}(A:0<=i)(hi:i<=s.size)(h:vm (af s) s.size (j8 (af s) s.size (gv (af s) s.size (fg s) m) ((s.size:Int).toNat+1) none) i=.ok (r,j)):i<=j/\j<=s.size/\r.1<=2001:=by have:=VF (Er s) (Mw (c:=af s) (Er s) m) i (ou 0) (List.replicate (1000-m) (ou 0)) A hi (by simp;omega) rfl rfl rfl;rw[h]at this;obtain⟨D,O,_,g,_,_,rfl,_⟩:=this;exact⟨D,O,Gw _⟩
def adr(hm:m<=1000){r:cH}(A:0<=i)(hi:i<=s.size)(h:xR (af s) s.size (gv (af s) s.size (fg s) m) i=.ok (r,j)):i<=j/\j<=s.size/\r.1<=2001/\(j<s.size->af s j=41):=by have:=VG (Er s) (Mw (c:=af s) (Er s) m) i 0 (List.replicate (1000-m) (ou 0)) A hi (by simp;omega);rw[h]at this;obtain⟨D,O,B,g,_,rfl,_⟩:=this;exact⟨D,O,Gw _,B⟩
def ig:=(aT GS @V5.eq_1 @MU.eq_1)
def ads(n:Nat)(cb:Ju n):MX n:=by
 intro s i0 d op u fp w S wP cm A hO V GR H ax bp;have cf:=aP.up w S fp;have cv:=GR.mono (aP.ep w S fp bp);dsimp only;unfold vm;refine nm (nt:=39) S [.cell 2 254] H ax func178 ?_;refine aA aa ig ?_;cases bo:j8 (af s) s.size (gv (af s) s.size (fg s) n) ((s.size:Int).toNat+1) none i0 with
 |error e=>
  obtain⟨c,j⟩:=e;simp only;rw[sB];have wx := bo;rw[kR]at wx;refine ae.fe (M3 (aP w S fp) n cb (ht .bV) (ht .bV)) bX (aJ (I ig wx)) ?_ ?_
  ·exact⟨⟨⟨_,_,_,_,rfl,wP,cm,A,hO,V⟩,cv⟩,aq,bq⟩
  exact cC
 |ok q=>
  obtain⟨eW,Jq⟩:=q;simp only;have wK:=V6 U A hO bo;have wx := bo;rw[kR]at wx;generalize dW:wC (af s) s.size (j8 (af s) s.size (gv (af s) s.size (fg s) n) ((s.size:Int).toNat+1) none) ((s.size:Int).toNat+1) eW Jq=R
  refine aA (M3 (aP w S fp) n cb (ht .bV) (ht .bV)) (I ig wx) ?_;refine ae.dt 31 (aJ ig) (bT.refl _ _) λmg qy cs ff dR=>?_
  obtain⟨cS,rfl,aK,dP⟩:=oU dR;have Jv:=cf.ext ff;refine ae.seq (ae.block ?_)
  refine ae.q4 (λp:CG=>⟨10,bK [(0,.is (.own 0 0)),(2,.is (.own 8 0)),(3,.is (.own 32 0))],bA [(0,.cells 251 [s,p.i,.ak 3]),(3,.row 3 1 d (op.map .v)),(8,.cells 254 [(0:Int),.v .nilFunc]),(32,.cells 254 [p.r.1,p.j4])]⟩)
   CG.W CG.bs (λp=>(0<=p.i/\p.i<=s.size)/\p.r.1<=2001/\((s.size:Int)-p.i<p.n/\1<=p.n)/\gL p.W (bw (aP w S fp) p.bs) p.j4 p.r.2/\wC (af s) s.size (j8 (af s) s.size (gv (af s) s.size (fg s) n) ((s.size:Int).toNat+1) none) p.n p.r p.i=R) (λp=>p.n) ⟨mg,qy,cS,eW,Jq,(s.size:Int).toNat+1⟩ rfl rfl ?_ ⟨⟨by simp only;omega,wK.2.1⟩,wK.2.2,⟨by simp only;omega,by simp only;omega⟩,aK,dW⟩ ?_
  ·exact b8 (λx=>if x=3 then .key 26 else .key x) (I ig dP)
  rintro⟨cy,ck,j4,r,i,k⟩ ⟨⟨kk,ui⟩,aI,⟨aE,kq⟩,aK,dd⟩ bD;simp only at kk ui aI aE kq aK dd bD;dsimp only;obtain⟨k,rfl⟩:∃m,k=m+1:=⟨k-1,U⟩;have zl:=ff.trans bD;have cT:=cf.ext zl;have bg:=cv.mono zl.cc;refine ae.seq ?_;refine aL (M3 (aP w S fp) n cb (ht .bV) (ht .bV)) ig ?_ ?_
  ·exact mQ V
  refine bC ig ?_ ?_<;>intro J
  ·have hi:i<s.size:=bt J
   rw[wC,ab U]at dd;refine a1 ?_;refine ae.block ?_;refine aL (M3 (aP w S fp) n cb (ht .bV) (ht .bV)) ig ?_ ?_
   ·exact mQ V
   refine ae.block ?_;refine aR aa ig ?_ ?_<;>intro J
   ·have Gy:af s i=38:=aC J
    rw[al Gy]at dd;have fS:=dv (i+1);refine aA aa (I ig fS) ?_;cases gf:j8 (af s) s.size (gv (af s) s.size (fg s) n) ((s.size:Int).toNat+1) none (i+1) with
    |error e=>
     obtain⟨c,j⟩:=e;rw[gf]at dd;simp only at dd;rw[<- dd,sB];have sC := gf;rw[kR]at sC;refine ae.xC (adp (aP w S fp) n cb) bX (aJ (aT ig sC fS)) rfl (by kernel_rfl) ?_ ?_
     ·exact⟨⟨⟨⟨_,_,_,_,rfl,wP,cm,U,U,V⟩,bg⟩,aq,bq⟩,⟨r.1,0,j4,.nilFunc,.and,rfl,aI,U,aK.one,rfl⟩,cT⟩
     exact cC
    |ok q=>
     obtain⟨cE,zd⟩:=q;rw[gf]at dd;simp only at dd;have Ek:=V6 U U U gf;have sC := gf;rw[kR]at sC;refine ae.more ?_;refine iP (M3 (aP w S fp) n cb r cE) (aT ig sC fS) ?_ ?_
     ·exact⟨⟨⟨⟨_,_,_,_,rfl,wP,cm,U,U,V⟩,bg⟩,aq,bq,cT⟩,⟨qh aK,⟨aI,Ek.2.2⟩,_,_,rfl⟩,cT⟩
     refine pw ?_;refine eZ.dt 224 (aJ ig) (bT.refl _ _) λcL c7 cs cq hg=>?_
     obtain⟨M4,rfl,mr,gY⟩:=oU hg;refine eZ.here ?_;refine kG ?_;refine⟨⟨cL,c7,M4,eV .and r cE,zd,k⟩,⟨by simp only;omega,zk _ _ _,by simp only;omega,mr,dd⟩,by simp only;omega,rfl,rfl,?_⟩;exact b8 (λx=>if x=3 then .key 218 else .key x) (I ig gY)
   ·have Gy:¬af s i=38:=aC J
    rw[ab Gy]at dd;refine aR aa ig ?_ ?_<;>intro J
    ·have AU:af s i=45:=aC J
     rw[al AU]at dd;have fS:=dv (i+1);refine aA aa (I ig fS) ?_;cases gf:j8 (af s) s.size (gv (af s) s.size (fg s) n) ((s.size:Int).toNat+1) none (i+1) with
     |error e=>
      obtain⟨c,j⟩:=e;rw[gf]at dd;simp only at dd;rw[<- dd,sB];have sC := gf;rw[kR]at sC;refine ae.xC (adp (aP w S fp) n cb) bX (aJ (aT ig sC fS)) rfl (by kernel_rfl) ?_ ?_
      ·exact⟨⟨⟨⟨_,_,_,_,rfl,wP,cm,U,U,V⟩,bg⟩,aq,bq⟩,⟨r.1,0,j4,.nilFunc,.minus,rfl,aI,U,aK.one,rfl⟩,cT⟩
      exact cC
     |ok q=>
      obtain⟨cE,zd⟩:=q;rw[gf]at dd;simp only at dd;have Ek:=V6 U U U gf;have sC := gf;rw[kR]at sC;refine ae.more ?_;refine iP (arJ (aP w S fp) n cb r cE) (aT ig sC fS) ?_ ?_
      ·exact⟨⟨⟨⟨_,_,_,_,rfl,wP,cm,U,U,V⟩,bg⟩,aq,bq,cT⟩,⟨qh aK,⟨aI,Ek.2.2⟩,_,_,rfl⟩,cT⟩
      refine pw ?_;refine eZ.dt 240 (aJ ig) (bT.refl _ _) λcL c7 cs cq hg=>?_
      obtain⟨M4,rfl,mr,gY⟩:=oU hg;refine eZ.here ?_;refine kG ?_;refine⟨⟨cL,c7,M4,eV .minus r cE,zd,k⟩,⟨by simp only;omega,zk _ _ _,by simp only;omega,mr,dd⟩,by simp only;omega,rfl,rfl,?_⟩;exact b8 (λx=>if x=3 then .key 234 else .key x) (I ig gY)
    ·have AU:¬af s i=45:=aC J
     rw[ab AU]at dd;refine aL aa ig ?_ ?_
     ·exact aK.one
     refine bf ig ?_;rw[<- dd];exact A1 aK rfl ((aJ (I ig @bQ))) aq
  ·have hi:¬i<s.size:=bt J
   rw[wC,al hi]at dd;refine c6 ?_;refine aL aa ig ?_ ?_
   ·exact aK.one
   refine bf ig ?_;rw[<- dd];exact A1 aK rfl ((aJ (I ig @bQ))) aq
def adt(n:Nat)(cb:MX n):MY n:=by
 intro s i0 d op u fp w S wP cm A hO V GR H ax bp;have cf:=aP.up w S fp;have cv:=GR.mono (aP.ep w S fp bp);dsimp only;unfold xR Vy;refine nm (nt:=26) S [.cell 2 254] H ax func126 ?_;refine aA aa ig ?_
 cases bo:vm (af s) s.size (j8 (af s) s.size (gv (af s) s.size (fg s) n) ((s.size:Int).toNat+1) none) i0 with
 |error e=>
  obtain⟨c,j⟩:=e;simp only;rw[sB];have wx := bo;rw[kR]at wx;refine ae.fe (QM (aP w S fp) n cb (ht .bV) (ht .bV)) bX (aJ (I ig wx)) ?_ ?_
  ·exact⟨⟨⟨_,_,_,_,rfl,wP,cm,A,hO,V⟩,cv⟩,aq,bq⟩
  exact cC
 |ok q=>
  obtain⟨eW,Jq⟩:=q;simp only;have wK:=adq U A hO bo;have wx := bo;rw[kR]at wx;generalize dW:AQ (af s) s.size (vm (af s) s.size (j8 (af s) s.size (gv (af s) s.size (fg s) n) ((s.size:Int).toNat+1) none)) ((s.size:Int).toNat+1) eW Jq=R
  refine aA (QM (aP w S fp) n cb (ht .bV) (ht .bV)) (I ig wx) ?_;refine ae.dt 31 (aJ ig) (bT.refl _ _) λmg qy cs ff dR=>?_
  obtain⟨cS,rfl,aK,dP⟩:=oU dR;have Jv:=cf.ext ff;refine ae.seq (ae.block ?_)
  refine ae.q4 (λp:CG=>⟨10,bK [(0,.is (.own 0 0)),(2,.is (.own 8 0)),(3,.is (.own 32 0))],bA [(0,.cells 251 [s,p.i,.ak 3]),(3,.row 3 1 d (op.map .v)),(8,.cells 254 [(0:Int),.v .nilFunc]),(32,.cells 254 [p.r.1,p.j4])]⟩)
   CG.W CG.bs (λp=>(0<=p.i/\p.i<=s.size)/\p.r.1<=2001/\((s.size:Int)-p.i<p.n/\1<=p.n)/\gL p.W (bw (aP w S fp) p.bs) p.j4 p.r.2/\AQ (af s) s.size (vm (af s) s.size (j8 (af s) s.size (gv (af s) s.size (fg s) n) ((s.size:Int).toNat+1) none)) p.n p.r p.i=R) (λp=>p.n) ⟨mg,qy,cS,eW,Jq,(s.size:Int).toNat+1⟩ rfl rfl ?_ ⟨⟨by simp only;omega,wK.2.1⟩,wK.2.2,⟨by simp only;omega,by simp only;omega⟩,aK,dW⟩ ?_
  ·exact b8 (λx=>if x=3 then .key 26 else .key x) (I ig dP)
  rintro⟨cy,ck,j4,r,i,k⟩ ⟨⟨kk,ui⟩,aI,⟨aE,kq⟩,aK,dd⟩ bD;simp only at kk ui aI aE kq aK dd bD;dsimp only;obtain⟨k,rfl⟩:∃m,k=m+1:=⟨k-1,U⟩;have zl:=ff.trans bD;have cT:=cf.ext zl;have bg:=cv.mono zl.cc;refine ae.seq ?_;refine aL (QM (aP w S fp) n cb (ht .bV) (ht .bV)) ig ?_ ?_
  ·exact mQ V
  refine bC ig ?_ ?_<;>intro J
  ·have hi:i<s.size/\af s i=124:=bt J
   rw[AQ,al hi]at dd;refine a1 ?_;refine ae.block ?_;have fS:=dv (i+1);refine aA aa (I ig fS) ?_;cases gf:vm (af s) s.size (j8 (af s) s.size (gv (af s) s.size (fg s) n) ((s.size:Int).toNat+1) none) (i+1) with
   |error e=>
    obtain⟨c,j⟩:=e;rw[gf]at dd;simp only at dd;rw[<- dd,sB];have sC := gf;rw[kR]at sC;refine ae.xC (arL (aP w S fp) n cb) bX (aJ (aT ig sC fS)) rfl (by kernel_rfl) ?_ ?_
    ·exact⟨⟨⟨⟨_,_,_,_,rfl,wP,cm,U,U,V⟩,bg⟩,aq,bq⟩,⟨r.1,0,j4,.nilFunc,.alt,rfl,aI,U,aK.one,rfl⟩,cT⟩
    exact cC
   |ok q=>
    obtain⟨cE,zd⟩:=q;rw[gf]at dd;simp only at dd;have Ek:=adq U U U gf;have sC := gf;rw[kR]at sC;refine ae.more ?_;refine iP (QM (aP w S fp) n cb r cE) (aT ig sC fS) ?_ ?_
    ·exact⟨⟨⟨⟨_,_,_,_,rfl,wP,cm,U,U,V⟩,bg⟩,aq,bq,cT⟩,⟨qh aK,⟨aI,Ek.2.2⟩,_,_,rfl⟩,cT⟩
    refine pw ?_;refine eZ.dt 232 (aJ ig) (bT.refl _ _) λcL c7 cs cq hg=>?_
    obtain⟨M4,rfl,mr,gY⟩:=oU hg;refine eZ.here ?_;refine kG ?_;refine⟨⟨cL,c7,M4,eV .alt r cE,zd,k⟩,⟨by simp only;omega,zk _ _ _,by simp only;omega,mr,dd⟩,by simp only;omega,rfl,rfl,?_⟩;exact b8 (λx=>if x=3 then .key 226 else .key x) (I ig gY)
  ·have hi:¬(i<s.size/\af s i=124):=λh=>by
    apply pY.1 J;simp;omega
   rw[AQ,ab hi]at dd;refine c6 ?_;refine aL aa ig ?_ ?_
   ·exact aK.one
   refine bf ig ?_;rw[<- dd];exact A1 aK rfl ((aJ (I ig @bQ))) aq
def tm:rJ prog 39 where
 f:=λxs ys=>match xs,ys with
  |[.int .i64 a,.int .i64 b,.string s],[.int .i64 cn,.int .i64 p6,.string hf]=>some (decide (a=cn)&&decide (b=p6)&&decide (s=hf))
  |_,_=>none
 ok:=by
  intro xs ys b w h;split at h
  ·rename_i a b s cn p6 hf;cases h;refine⟨?_,?_⟩
   ·simp[eqGuard,go_sem,Tryz.eqGuardType39]
   ·simp only[Op.equal,Op.maxDepth,run_equalIn_agg w 9999 39 _ _ Tryz.underlying39 Tryz.stoodInHeld39];have e:s.toList=hf.toList ↔ s=hf:=by
     have:=Z0 s hf;rw[TB]at this;simpa using this
    simp[go_sem,e];by_cases D:a=cn <;> by_cases O:b=p6 <;> by_cases B:s=hf <;> simp[D,O,B]
  ·cases h
theorem M5(a b cn p6:Int)(s hf:ByteArray):tm.f [.int .i64 a,.int .i64 b,.string s] [.int .i64 cn,.int .i64 p6,.string hf]=some (decide (a=cn)&&decide (b=p6)&&decide (s=hf)):=rfl
abbrev adu:cV prog 263:=kH (λ| [.val (.string s),.val (.int .i64 i)]=>some (s,i)|_=>none) (λav W bs=>av.1.size<=140737488351232/\gl W (Out bs)) call263 λav W w bs ad hp=>aqT av.1 av.2 w hp.1 (hp.2.km ad bq)
def tn(G:aY)(t:bm):Env prog:=⟨λ| 127=>some zn.spec|179=>some CC.spec|128=>some GP.spec|263=>some adu.spec|249=>some ((Cx t).spec G)|_=>none,λ| 39=>some tm|_=>none,λ_ _=>none⟩
abbrev adv(G:aY)(n:Nat)(h:MY n):Env prog:=a7 ((CH _ _ _ n call126 h).spec G) aa
section
variable (G:aY)(t:bm)(n:Nat)(h:MY n)
theorem arM:(tn G t).sp 127=some zn.spec:=rfl
theorem arN:(tn G t).sp 179=some CC.spec:=rfl
theorem arO:(tn G t).sp 128=some GP.spec:=rfl
theorem arP:(tn G t).sp 263=some adu.spec:=rfl
theorem arQ:(tn G t).sp 249=some ((Cx t).spec G):=rfl
theorem arR:(tn G t).eqs 39=some tm:=rfl
end
def lz:=(aT (ch ez @pF.eq_1 @ix.eq_1 @jy.eq_1 @Cx.eq_1 @Jt @sB @uj) (ch @MA @GA @GB @GC @GD @xT @VK @GF) (ch @TG @arM @arN @arO @arP @arQ @arR @M5))
def adw(n:Nat)(cb:∀m,n=m+1->MY m):MW n:=by
 intro s i d op u fp w S wP cm A hi V GR H ax bp;have cf:=aP.up w S fp;have cv:=GR.mono (aP.ep w S fp bp);have aDZ:gl w (Out fp):=cv.mono λb _ Z=>⟨rfl,Z.2⟩
 dsimp only;have fS:=dv (i+1);refine nm (nt:=108) S [.cell 2 254] H ax func251 ?_;refine bk aa lz ?_;refine aL (tn (aP w S fp) .bV) lz ?_ ?_
 ·exact mQ V
 refine bC lz ?_ ?_<;>intro J
 ·have oT:¬af s i=40:=aC J
  have gi:gv (af s) s.size (fg s) n i=Cr (fg s) i:=by
   cases n with
   |zero=>rw[gv,ab oT]
   |succ n=>rw[gv,ab oT]
  rw[gi];have hj:GH s i=match nQ s i with
    |.error j=>A0 10 0 0 j
    |.ok (a,j)=>A0 0 a j 0:=by
   rw[GH,ab U]
   all_goals cases nQ s i<;>rfl
  cases fv:nQ s i with
  |error j=>
   rw[fv]at hj;simp only[A0]at hj;have aZ:Cr (fg s) i=.error (10,j):=by rw[Cr,fg,fv]
   rw[aZ,sB];refine hs (tn (aP w S fp) .bV) (I lz hj) ?_;refine ae.seq ?_;refine aL (tn (aP w S fp) .bV) (I lz hj) ?_ ?_
   ·exact mQ V
   refine bC lz ?_ ?_<;>intro J
   ·skip;refine ae.gz (tn (aP w S fp) .bV) bX (aJ (I lz hj)) ?_ ?_
    ·exact mQ V
    exact cC
   ·exfalso;simp at J
  |ok q=>
   obtain⟨a,j⟩:=q;have Y:=V3 fv A hi;rw[fv]at hj;simp only[A0]at hj;have aZ:Cr (fg s) i=.ok (ht (.cls a),j):=by rw[Cr,fg,fv]
   rw[aZ,Jt];refine hs (tn (aP w S fp) .bV) (I lz hj) ?_;refine ae.seq ?_;refine aL (tn (aP w S fp) .bV) (I lz hj) ?_ ?_
   ·exact mQ V
   refine bC lz ?_ ?_<;>intro J
   ·exfalso;simp at J
   ·refine a1 ?_;refine aA aa lz ?_;refine aL (tn (aP w S fp) (.cls a)) lz ?_ ?_
    ·exact⟨rfl,cf⟩
    refine ae.dt 272 (aJ lz) (bT.refl _ _) λcy ck cs bD dR=>?_
    obtain⟨cS,rfl,aK,dP⟩:=oU dR;refine bf (I lz dP) ?_;exact A1 aK rfl ((aJ (I lz @bQ))) aq
 ·have oT:af s i=40:=aC J
  refine a1 ?_;refine ae.seq ?_;refine aR aa lz ?_ ?_<;>intro J
  ·have ak:1000<=d:=bt J
   obtain rfl:n=0:=U;rw[gv,al oT,sB];refine ae.gz (tn (aP w S fp) .bV) bX (aJ lz) ?_ ?_
   ·exact mQ V
   exact cC
  ·have ak:¬1000<=d:=bt J
   obtain⟨n,rfl⟩:∃m,n=m+1:=⟨n-1,U⟩;have adx := cb n rfl;rw[gv,al oT];refine a1 ?_;have Lk:List.map ag.v op++[ag.v (.int .i64 i)]=List.map ag.v (op++[.int .i64 i]):=by simp
   refine dh aa lz ?_ ?_
   ·unfold maxLen;omega
   refine aA aa (I lz fS) ?_;have hlen:(op++[Value.int .i64 i]).length=d+1:=by simp[cm]
   cases bo:xR (af s) s.size (gv (af s) s.size (fg s) n) (i+1) with
   |error e=>
    obtain⟨c,j⟩:=e;rw[Jh,sB];refine ae.fe (adv (aP w S fp) n adx) bX (aJ (b3 lz bo fS Lk)) ?_ ?_
    ·exact⟨⟨⟨_,_,_,_,rfl,U,hlen,U,U,V⟩,cv⟩,aq,bq⟩
    exact cC
   |ok q=>
    obtain⟨r,j⟩:=q;have aI:=adr U U U bo;have wd:=iv (((d+1:Nat):Int)-1) ((d:Nat):Int);have As:List.take d (List.map ag.v (op++[Value.int .i64 i]))=List.map ag.v op:=by rw[<- K6,<- cm,TE]
    have GU:(List.map ag.v (op++[Value.int .i64 i])).getD d (.v undef)=.v (.int .i64 i):=by rw[<- cm];simp
    refine aA (adv (aP w S fp) n adx) (b3 lz bo fS Lk) ?_;refine ae.dt 279 (aJ lz) (bT.refl _ _) λcy ck cs bD dR=>?_
    obtain⟨cS,rfl,aK,dP⟩:=oU dR;refine ae.seq ?_;refine aL (tn (aP w S fp) .bV) (I lz Lk) ?_ ?_
    ·exact mQ V
    refine bC lz ?_ ?_<;>intro J
    ·have Y:¬j<s.size:=bt J
     rw[Jh,al Y,sB];refine ae.xC (tn (aP w S fp) .bV) bX (aJ (b3 lz Lk wd GU)) rfl (by kernel_rfl) ?_ ?_
     ·exact⟨⟨_,rfl⟩,⟨U,U⟩,by simp[cm],aq,bq⟩
     exact cC
    ·have Y:j<s.size:=bt J
     have iF:=dv (j+1);rw[Jh,ab U,Jt];refine bk aa (I lz iF) ?_;refine hs aa (aT lz wd As) ?_;refine aL aa (I lz dP) ?_ ?_
     ·exact aK.one
     refine bf (I lz dP) ?_;exact A1 aK rfl ((aJ (I lz @bQ))) aq
def levels:∀n,MW n
 |0=>adw 0 λm h=>by omega
 |n+1=>adw (n+1) λm h=>by obtain rfl:n=m:=U;exact adt n (ads n (adn n (levels n)))
def ady(n:Nat):MY n:=adt n (ads n (adn n (levels n)))
def GV(G:aY):Env prog:=⟨λ| 127=>some zn.spec|128=>some GP.spec|126=>some ((CH _ _ _ 1000 call126 (ady 1000)).spec G)|f=>VW 0 (QI 0) f,λ_=>none,λ_ _=>none⟩
theorem arS(G:aY):(GV G).sp 127=some zn.spec:=rfl
theorem arT(G:aY):(GV G).sp 128=some GP.spec:=rfl
theorem arU(G:aY):(GV G).sp 126=some ((CH _ _ _ 1000 call126 (ady 1000)).spec G):=rfl
def mu:=(I (ch ez @pF.eq_1 @ix.eq_1 @jy.eq_1 @Jt @sB @Gr.eq_1 @Cq.eq_1) (hV @ug.eq_1 @ug.eq_2 @y7.eq_1 @y7.eq_2 @arS @arT @arU))
def arV:Ec prog 125 where
 bc:=[151,39]
 enters:=call125
 pre:=λdG pv=>(∃a f g h,dG=[[a],[f,g,h]])/\∃c i t,pv=.iface 39 (ix c i t)
 out:=λdG pv=>[[.nilIface],match pv with|.iface _ (.agg x)=>x.toList|_=>[]]
 df:=λdG pv=>[.nilIface,match pv with|.iface _ x=>x|_=>undef]
 Mj:=by rintro dG pv ⟨_,c,i,t,rfl⟩;refine⟨.inr ⟨(kX mu),rfl⟩,.inl ⟨(kX mu),(kX mu),rfl⟩,trivial⟩
 quiet:=λw us aN=>by
  match us,aN with
  |[cf,cT],_=>
   refine Qi (nt:=8) w _ func125 rfl rfl U U rfl ?_;refine dL aa mu ?_
   simp only[wz,Op.operands,Value.cells,qw,nN,Nat.reduceEqDiff,Nat.reduceAdd,Nat.reduceMul,Nat.reduceLT,Nat.reduceLeDiff,Nat.reduceBEq,kT,Int.reduceToNat,Int.reduceLT,Int.reduceLE,Nat.reduceDiv,Nat.reduceMod,Nat.reduceSub,Int.reducePow,Nat.reducePow,Gc,Gd,nn.eq_2,nn.eq_3,mu]
   done
 Mk:=λw us fr dG pv aN aE ax hp=>by
  obtain⟨⟨a,f,g,h,rfl⟩,k,i,t,rfl⟩:=hp;have B:=aN.len.1;refine Qk (nt:=8) func125 rfl rfl U U ?_ aN aE ax ?_ ?_
  ·rw[B];rfl
  ·rw[B];decide
  intro us _;refine aR aa mu ?_ ?_<;>intro J
  ·skip;refine AM aa (I mu @ix.eq_1) ?_;refine jQ mu ?_;exact⟨rfl,rfl,trivial⟩
  ·cases J
def vt(s:ao):Except (Int×Int) bm:=Mp (af s) s.size (fg s)
def M6:Except (Int×Int) bm->Value
 |.ok t=>.tuple #[cz t,ix 0 0 ⟨#[]⟩]
 |.error (c,j)=>.tuple #[.nilIface,ix c j ⟨#[]⟩]
def arW(s:ao)(w:ar)(V:s.size<=140737488351232)(aK:gl w (Out [])) :
  cQ 71 #[s] w (M6 (vt s)):=by
 have cf:oi (λ_=>True) w []:=oi.true _ _;have cv:gl w (bw (λ_=>True) []):=aK.mono λb _ Z=>⟨rfl,trivial,Z⟩
 refine acA (nt:=33) func71 rfl rfl ?_;refine kW.seq' (rs:=[.cell 2 151,.cell 3 39]) rfl ?_;refine bY aa mu ?_;refine kW.seq' (rs:=[.cell 2 151,.cell 3 39]) rfl ?_;refine aR aa mu ?_ ?_<;>intro J
 ·have Z:1048576<(s.size:Int):=aC J
  have he:vt s=.error (1,0):=by rw[vt,Mp,al Z]
  rw[he];refine aA aa mu ?_;exact bE mu
 ·have Z:¬1048576<(s.size:Int):=aC J
  have he:vt s=Gu s.size (alts (af s) s.size (fg s) 1000 0):=by rw[vt,Mp,ab Z]
  refine a1 ?_;refine kW.Ql (rs:=[.cell 2 151,.cell 3 39]) rfl arV [2,3] [0,8] rfl aq rfl aq rfl rfl ?_ ?_ λus DO=>?_
  ·rintro p hp;simp only[Ih,Ii,gG,tS,uX]at hp;rcases hp with rfl|rfl<;>rfl
  ·rintro k ad;simp only[gG,tS,uX]at ad;rcases ad with rfl|rfl<;>exact⟨_,_,rfl⟩
  refine aA aa mu ?_
  match us,DO with
  |[adz,adA],_=>
  refine ae.xB (cd := ⟨20,bK [(2,.is (.own 0 0)),(3,.is (.own 8 0)),(4,.is (.own 72 0))],bA [(0,.cells 151 [.v .nilIface]),(8,.cells 39 [(0:Int),(0:Int),.v (.string ⟨#[]⟩)]),(72,.cells 251 [s,(0:Int),.ak 88]),(88,.row 3 1 0 [])]⟩) ?_ ?_
  ·exact b8 (λx=>if x=88 then .nil else .key x) mu
  have Jy:alts (af s) s.size (fg s) 1000 0=xR (af s) s.size (gv (af s) s.size (fg s) 1000) 0:=rfl;rw[Jy]at he;cases bo:xR (af s) s.size (gv (af s) s.size (fg s) 1000) 0 with
  |error e=>
   obtain⟨c,j⟩:=e;rw[bo]at he;simp only[Gu]at he;rw[he];refine ae.fe (GV (λ_=>True)) bX (aJ (I mu bo)) ?_ ?_
   ·exact⟨⟨⟨_,_,_,_,rfl,rfl,rfl,U,bq,V⟩,cv⟩,aq,bq⟩
   refine kG ?_;refine jQ (I mu @nn.eq_3) ?_;refine⟨.iface 39 (ix c j ⟨#[]⟩),[[.nilIface],[.int .i64 0,.int .i64 0,.string ⟨#[]⟩]],rfl,⟨?_,?_,?_,?_,trivial⟩,⟨⟨_,_,_,_,rfl⟩,c,j,⟨#[]⟩,rfl⟩,λE=>rfl⟩
   all_goals rfl
  |ok q=>
   obtain⟨r,j⟩:=q;have aI:=adr (s:=s) (m:=1000) U U bq bo;rw[bo]at he;simp only[Gu]at he;refine aL (GV (λ_=>True)) (I mu bo) ?_ ?_
   ·exact⟨⟨⟨_,_,_,_,rfl,rfl,rfl,U,bq,V⟩,cv⟩,aq,bq,cf⟩
   refine ae.dt 175 (aJ mu) (bT.refl _ _) λcy ck cs bD dR=>?_
   obtain⟨cS,rfl,CI,dP⟩:=oU dR;refine ae.seq ?_;refine aL (GV (λ_=>True)) mu ?_ ?_
   ·exact mQ V
   refine bC mu ?_ ?_<;>intro J
   ·have Y:j<s.size:=bt J
    rw[al Y]at he;rw[he];refine ae.gz (GV (λ_=>True)) bX (aJ mu) ?_ ?_
    ·exact mQ V
    refine kG ?_;refine jQ (I mu @nn.eq_3) ?_;refine⟨.iface 39 (ix 20 j ⟨#[]⟩),[[.nilIface],[.int .i64 0,.int .i64 0,.string ⟨#[]⟩]],rfl,⟨?_,?_,?_,?_,trivial⟩,⟨⟨_,_,_,_,rfl⟩,20,j,⟨#[]⟩,rfl⟩,λE=>rfl⟩
    all_goals rfl
   ·have Y:¬j<s.size:=bt J
    rw[ab Y]at he;refine dL aa (I mu dP) ?_;refine bC mu ?_ ?_<;>intro J
    ·have bx:2000<r.1:=bt J
     rw[al bx]at he;rw[he];refine aA aa mu ?_;exact bE (I mu @nn.eq_2)
    ·have bx:¬2000<r.1:=bt J
     rw[ab bx]at he;rw[he];obtain⟨f,cap,rfl,aW⟩:=CI.shape;obtain⟨cap,rfl⟩:∃l:List Value,cap=l.toArray:=⟨cap.toList,bq⟩;have DN:=MQ CI;have LB:=QF (ka r.2+1) (QI _) f aW;refine a1 ?_;refine aL (MR (ka r.2+1) (QI _)) (hV mu LB DN @QG dP @vq @iR) ?_ ?_
     ·exact⟨⟨cap,r.2,rfl,CI.mono λb _ h=>⟨rfl,h.2⟩,U⟩,iR _⟩
     exact bE (de mu @nn.eq_2 @vq @iR (λgW=>qq (iR gW)))
abbrev adB:cV prog 71:=kH (λ| [.val (.string s)]=>some (s)|_=>none) (λav W bs=>av.size<=140737488351232/\gl W (Out bs)) call71 λav W w bs ad hp=>arW av w hp.1 (hp.2.km ad bq)
def hR(q:ao)(b:Int):Bool:=decide (0<=h2 q b)
def GW(q:ao)(b:Int):Bool:=(List.range q.size).any λj=>decide (af q (j:Int)=b)
def arX{b:Int}{j:Nat}(Y:j<q.size)(h:af q j=b):GW q b=true:=Ty.2 ⟨j,yK.2 Y,nJ h⟩
def arY{b:Int}(h:∀j:Nat,j<q.size->af q j≠b):GW q b=false:=List.any_eq_false.2 λj Y=>by simpa using h j (yK.1 Y)
def zp:=ez
def arZ(q:ao)(b:Int)(w:ar)(V:q.size<=140737488351232):cQ 244 #[q,.int .u8 b] w (.bool (GW q b)):=by
 refine cB (nt:=17) [.tmp 4] func244 ?_;refine gJ aa zp ?_;refine ae.loop (λj:Nat=>⟨2,bK [(0,q),(1,.is (.v (.int .u8 b))),(5,j)],bA []⟩) (λj=>j<=q.size/\∀i:Nat,i<j->af q i≠b) (λj=>q.size-j) 0 ?_ ⟨ef _,λi h=>by omega⟩ ?_
 ·exact bh zp
 rintro j ⟨Y,aE⟩;refine ae.seq ?_;refine aR aa zp ?_ ?_<;>intro J
 ·have ax:j<q.size:=bt J
  refine a1 ?_;refine ae.seq (ae.block ?_);refine aR aa zp ?_ ?_<;>intro J
  ·have Z:af q j=b:=aC J
   rw[arX ax Z];refine aA aa zp ?_;exact bE zp
  ·have Z:¬af q j=b:=aC J
   have iF:=fK j;refine a1 ?_;refine bY aa (I zp iF) ?_;refine⟨j+1,⟨U,λi hi=>?_⟩,U,?_⟩
   ·by_cases h:i=j
    ·rw[h];exact Z
    ·exact aE i U
   ·exact bh zp
 ·have ax:¬j<q.size:=bt J
  rw[arY λi hi=>aE i U];refine c6 ?_;refine aA aa zp ?_;exact bE zp
abbrev ar0:cV prog 244:=kH (λ| [.val (.string q),.val (.int .u8 b)]=>some (q,b)|_=>none) (λav W bs=>av.1.size<=140737488351232) call244 λav W w bs ad hp=>arZ av.1 av.2 w hp
abbrev QN:Env prog:=a7 ar0.spec aa
def ar1{b:Int}(A:0<=b)(D:b<256):GW qC b=hR qC b:=by
 obtain⟨n,rfl⟩:=l7 A;have:∀b:Fin 256,GW qC ((b.val:Nat):Int)=hR qC ((b.val:Nat):Int):=by decide +kernel
 exact this ⟨n,U⟩
def ar2{b:Int}(A:0<=b)(D:b<256):GW iw b=hR iw b:=by
 obtain⟨n,rfl⟩:=l7 A;have:∀b:Fin 256,GW iw ((b.val:Nat):Int)=hR iw ((b.val:Nat):Int):=by decide +kernel
 exact this ⟨n,U⟩
theorem ar3:(⟨#[40,41,91,93,123,125,124,38,45,42,43,63,46,92,47,94]⟩:ao)=qC:=rfl
theorem ar4:(⟨#[92,93,91,45,94,47]⟩:ao)=iw:=rfl
def tp:=zp
def ar5(b:Int)(A:0<=b)(D:b<256)(w:ar):cQ 205 #[.int .u8 b] w (.bool (hR qC b)):=by
 rw[<- ar1 A D];refine cB (nt:=5) [.tmp 2] func205 ?_;refine aA QN tp ?_;refine aL QN tp ?_ ?_
 ·decide
 exact bE tp
def ar6(b:Int)(A:0<=b)(D:b<256)(w:ar):cQ 206 #[.int .u8 b] w (.bool (hR iw b)):=by
 rw[<- ar2 A D];refine cB (nt:=5) [.tmp 2] func206 ?_;refine aA QN tp ?_;refine aL QN tp ?_ ?_
 ·decide
 exact bE tp
abbrev adC:cV prog 205:=kH (λ| [.val (.int .u8 b)]=>some (b)|_=>none) (λav W bs=>0<=av/\av<256) call205 λav W w bs ad hp=>ar5 av hp.1 hp.2 w
abbrev adD:cV prog 206:=kH (λ| [.val (.int .u8 b)]=>some (b)|_=>none) (λav W bs=>0<=av/\av<256) call206 λav W w bs ad hp=>ar6 av hp.1 hp.2 w
def ar7{c:Int}(A:0<=c)(D:c<256):h2 ko c=if 48<=c/\c<=57 then c-48 else if 97<=c/\c<=102 then c-97+10 else -1:=by
 obtain⟨n,rfl⟩:=l7 A;have:∀c:Fin 256,h2 ko ((c.val:Nat):Int)=if 48<=((c.val:Nat):Int)/\((c.val:Nat):Int)<=57 then((c.val:Nat):Int)-48 else if 97<=((c.val:Nat):Int)/\((c.val:Nat):Int)<=102 then((c.val:Nat):Int)-97+10 else -1:=by decide +kernel
 exact this ⟨n,U⟩
def ar8(c:Int)(A:0<=c)(D:c<256)(w:ar):cQ 214 #[.int .u8 c] w (.int .i64 (h2 ko c)):=by
 rw[ar7 A D];refine cB (nt:=22) [.tmp 2] func214 ?_;refine bk aa tp ?_;refine aR aa tp ?_ ?_<;>intro J
 ·have ak:48<=c/\c<=57:=aC J
  have dp:IntKind.u8.wrap (c-48)=c-48:=rh U U;have kI:=dv (c-48);rw[al ak];refine aA aa (aT tp dp kI) ?_;exact bE tp
 ·have ak:¬(48<=c/\c<=57):=aC J
  rw[ab ak];refine a1 ?_;refine ae.seq ?_;refine aR aa tp ?_ ?_<;>intro J
  ·have sD:97<=c/\c<=102:=aC J
   have dp:IntKind.u8.wrap (c-97)=c-97:=rh U U;have kI:=dv (c-97);have rO:=dv (c-97+10);rw[al sD];refine aA aa (b3 tp dp kI rO) ?_;exact bE tp
  ·have sD:¬(97<=c/\c<=102):=aC J
   rw[ab sD];refine bk aa tp ?_;exact bE tp
abbrev ar9:cV prog 214:=kH (λ| [.val (.int .u8 c)]=>some (c)|_=>none) (λav W bs=>0<=av/\av<256) call214 λav W w bs ad hp=>ar8 av hp.1 hp.2 w
abbrev kK:Env prog:=a7 adC.spec (a7 adD.spec (a7 ar9.spec aa))
def V7:Except Int (Int×Int)->Value
 |.ok (b,j)=>.tuple #[.int .u8 b,j,(-1:Int)]
 |.error j=>.tuple #[.int .u8 0,(0:Int),j]
theorem GX(b j:Int):V7 (.ok (b,j))=.tuple #[.int .u8 b,j,(-1:Int)]:=rfl
theorem Jz(j:Int):V7 (.error j)=.tuple #[.int .u8 0,(0:Int),j]:=rfl
def vu(inner:Bool):ByteArray:=bif inner then iw else qC
def gB:=tp
def asa(s:ao)(i:Int)(inner:Bool)(A:0<=i)(hi:i<=s.size)(V:s.size<=140737488351232)(w:ar) :
  cQ 174 #[s,i,inner] w (V7 (iQ s i (vu inner))):=by
 obtain⟨lx,eh⟩:=vo s i;refine cB (nt:=144) [.tmp 6,.tmp 7,.tmp 8] func174 ?_;refine bk kK gB ?_;refine aR kK gB ?_ ?_<;>intro J
 ·have db:¬i<s.size:=bt J
  obtain rfl:i=s.size:=U;have he:iQ s s.size (vu inner)=.error s.size:=by rw[iQ,ab U,al U]
  rw[he,Jz];refine aA kK gB ?_;exact bE gB
 ·have db:i<s.size:=bt J
  have dp:=dv (i+1);have kI:=dv (i+2);refine dL kK gB ?_;refine aR kK gB ?_ ?_<;>intro J
  ·have A2:¬af s i=92:=aC J
   have aZ:iQ s i (vu inner)=if(af s i<32\/126<af s i)\/0<=h2 (vu inner) (af s i) then .error i else .ok (af s i,i+1):=by
    rw[iQ,ab U];by_cases h:(af s i<32\/126<af s i)\/0<=h2 (vu inner) (af s i)
    ·rw[al h,al U]
    ·rw[ab h,ab U]
   refine aA kK gB ?_;refine fR ⟨60,bK [(0,s),(1,i),(9,.is (.v (.int .u8 (af s i)))),(10,.is (.v (.bool (decide (af s i<32)||decide (126<af s i)||hR (vu inner) (af s i)))))],bA []⟩ ?_ ?_
   ·skip;refine aR kK gB ?_ ?_<;>intro J
    ·subst J;refine wr kK gB ?_ ?_
     ·exact λ_=>⟨lx,eh⟩
     exact bh (I gB @vu.eq_1)
    ·subst J;refine wr kK gB ?_ ?_
     ·exact λ_=>⟨lx,eh⟩
     exact bh (I gB @vu.eq_1)
   refine ae.seq ?_;refine aR kK gB ?_ ?_<;>intro J
   ·have Z:(af s i<32\/126<af s i)\/0<=h2 (vu inner) (af s i):=by simpa [hR] using J
    rw[aZ,al Z,Jz];refine aA kK gB ?_;exact bE gB
   ·have Z:¬((af s i<32\/126<af s i)\/0<=h2 (vu inner) (af s i)):=λh=>by
     apply pY.1 J;simpa [hR] using h
    rw[aZ,ab Z,GX];refine bk kK (I gB dp) ?_;exact bE gB
  ·have A2:af s i=92:=aC J
   have aZ:iQ s i (vu inner)=iE s (i+1):=by rw[iQ,al ⟨db,A2⟩]
   rw[aZ];obtain⟨c0,hx⟩:=vo s (i+1);refine dL kK (I gB dp) ?_;refine bC gB ?_ ?_<;>intro J
   ·have wQ:¬i+1<s.size:=bt J
    have he:iE s (i+1)=.error s.size:=by rw[iE,al wQ,show i+1=(s.size:Int) by omega]
    rw[he,Jz];refine aA kK gB ?_;exact bE gB
   ·have wQ:i+1<s.size:=bt J
    refine a1 ?_;refine aL kK (I gB dp) ?_ ?_
    ·omega
    refine ae.seq ?_;refine aR kK gB ?_ ?_<;>intro J
    ·have CJ:af s (i+1)=110:=aC J
     have GY:i+1+1=i+2:=U;have he:iE s (i+1)=.ok (10,i+2):=by rw[iE,ab U,al CJ,GY]
     rw[he,GX];refine aA kK (I gB kI) ?_;exact bE gB
    ·have CJ:¬af s (i+1)=110:=aC J
     refine a1 ?_;refine ae.seq ?_;refine aR kK gB ?_ ?_<;>intro J
     ·have Es:af s (i+1)=114:=aC J
      have GY:i+1+1=i+2:=U;have he:iE s (i+1)=.ok (13,i+2):=by rw[iE,ab U,ab CJ,al Es,GY]
      rw[he,GX];refine aA kK (I gB kI) ?_;exact bE gB
     ·have Es:¬af s (i+1)=114:=aC J
      refine a1 ?_;refine ae.seq ?_;refine aR kK gB ?_ ?_<;>intro J
      ·have GZ:af s (i+1)=116:=aC J
       have GY:i+1+1=i+2:=U;have he:iE s (i+1)=.ok (9,i+2):=by rw[iE,ab U,ab CJ,ab Es,al GZ,GY]
       rw[he,GX];refine aA kK (I gB kI) ?_;exact bE gB
      ·have GZ:¬af s (i+1)=116:=aC J
       refine a1 ?_;refine ae.seq ?_;refine aR kK gB ?_ ?_<;>intro J
       ·have Et:af s (i+1)=120:=aC J
        have q8:iE s (i+1)=match mn s (i+1+1) with
          |.error j=>.error j
          |.ok (h,j)=>match mn s j with
           |.error k=>.error k
           |.ok (l,k)=>.ok (16*h+l,k):=by
         rw[iE,ab U,ab CJ,ab Es,ab GZ,al Et]
         all_goals rcases mn s (i+1+1) with j|⟨h,j⟩<;>first|rfl|(cases mn s j<;>rfl)
        have F7:∀p:Int,mn s p=if p<s.size/\0<=h2 ko (af s p) then .ok (h2 ko (af s p),p+1) else .error p:=λp=>rfl
        have G0:∀p:Int,0<=af s p/\af s p<256:=λp=>vo s p
        refine dL kK gB ?_;refine ae.loop (λk:Nat=>⟨90,bK [(0,s),(1,i),(11,k)],bA []⟩) (λk=>(2<=k/\k<=4)/\∀m:Nat,2<=m->m<k->i+m<s.size/\0<=h2 ko (af s (i+m))) (λk=>4-k) 2 ?_ ⟨⟨U,U⟩,λm D O=>by omega⟩ ?_
        ·exact bh gB
        rintro k ⟨⟨sE,wR⟩,ad⟩;have dM:IntKind.i64.wrap (i+(k:Int))=i+k:=gb U U;refine ae.seq ?_;refine aR kK gB ?_ ?_<;>intro J
        ·have wF:k<4:=bt J
         obtain⟨d0,d1⟩:=G0 (i+k);refine gJ kK (I gB dM) ?_;refine bC gB ?_ ?_<;>intro J
         ·have Z:¬(i+k<s.size/\0<=h2 ko (af s (i+k))):=bt J
          have aB:mn s (i+k)=.error (i+k):=by rw[F7,ab Z]
          have he:iE s (i+1)=.error (i+k):=by
           have asb:k=2\/k=3:=U;rcases asb with rfl|rfl
           ·rw[q8,show i+1+1=i+((2:Nat):Int) by omega,aB]
           ·have O:=ad 2 U U;have cq:mn s (i+((2:Nat):Int))=.ok (h2 ko (af s (i+((2:Nat):Int))),i+((3:Nat):Int)):=by rw[F7,al O,show i+((2:Nat):Int)+1=i+((3:Nat):Int) by omega]
            rw[q8,show i+1+1=i+((2:Nat):Int) by omega,cq];simp only[aB]
          rw[he,Jz];refine aA kK (I gB dM) ?_;exact bE gB
         ·have Z:i+k<s.size/\0<=h2 ko (af s (i+k)):=bt J
          have asc:=fK k;refine a1 ?_;refine bY kK (I gB asc) ?_;refine⟨k+1,⟨⟨U,U⟩,λm D O=>?_⟩,U,?_⟩
          ·by_cases h:m=k
           ·rw[h];exact Z
           ·exact ad m D U
          ·exact bh gB
        ·have wF:k=4:=bt J
         subst wF;have g2:=ad 2 U U;have g3:=ad 3 U U;have lT:=Qy _ (G0 (i+((2:Nat):Int))).1 (G0 (i+((2:Nat):Int))).2;have xL:=Qy _ (G0 (i+((3:Nat):Int))).1 (G0 (i+((3:Nat):Int))).2;have cE:=G0 (i+2);have sr:=G0 (i+3);have rO:=dv (i+3)
         have asd:=dv (i+4);rw[show((2:Nat):Int)=2 from rfl]at g2 lT;rw[show((3:Nat):Int)=3 from rfl]at g3 xL;have cq:mn s (i+2)=.ok (h2 ko (af s (i+2)),i+3):=by rw[F7,al g2,show i+2+1=i+3 by omega]
         have du:mn s (i+3)=.ok (h2 ko (af s (i+3)),i+4):=by rw[F7,al g3,show i+3+1=i+4 by omega]
         have he:iE s (i+1)=.ok (16*h2 ko (af s (i+2))+h2 ko (af s (i+3)),i+4):=by rw[q8,show i+1+1=i+2 by omega,cq];simp only[du]
         have CD:=dv (16*h2 ko (af s (i+2)));have CE:=dv (16*h2 ko (af s (i+2))+h2 ko (af s (i+3)))
         have wM:IntKind.u8.wrap (16*h2 ko (af s (i+2))+h2 ko (af s (i+3)))=16*h2 ko (af s (i+2))+h2 ko (af s (i+3)):=rh U U;rw[he,GX];refine c6 ?_;refine dh kK (hV gB kI rO asd CD CE wM) ?_ ?_
         ·omega
         exact bE gB
       ·have Et:¬af s (i+1)=120:=aC J
        refine dL kK gB ?_;refine aR kK gB ?_ ?_<;>intro J
        ·have Z:(((af s (i+1)<32\/126<af s (i+1))\/48<=af s (i+1)/\af s (i+1)<=57)\/97<=af s (i+1)/\af s (i+1)<=122)\/65<=af s (i+1)/\af s (i+1)<=90:=bt J
         have he:iE s (i+1)=.error (i+1):=by rw[iE,ab U,ab CJ,ab Es,ab GZ,ab Et,al Z]
         rw[he,Jz];refine aA kK (I gB dp) ?_;exact bE gB
        ·have Z:¬((((af s (i+1)<32\/126<af s (i+1))\/48<=af s (i+1)/\af s (i+1)<=57)\/97<=af s (i+1)/\af s (i+1)<=122)\/65<=af s (i+1)/\af s (i+1)<=90):=λh=>by
          apply pY.1 J;simp;omega
         have GY:i+1+1=i+2:=U;have he:iE s (i+1)=.ok (af s (i+1),i+2):=by rw[iE,ab U,ab CJ,ab Es,ab GZ,ab Et,ab Z,GY]
         rw[he,GX];refine bk kK (I gB kI) ?_;exact bE gB
def dS(f:Nat->Bool):List Value:=(List.range 256).map λi=>.bool (f i)
def A3(f:Nat->Bool):(dS f).length=256:=by simp[dS]
def vv(f:Nat->Bool):(List.map ag.v (dS f)).length=256:=by simp[dS]
def QO{f g:Nat->Bool}(h:∀i,i<256->f i=g i):dS f=dS g:=K7 λi hi=>by rw[h i (yK.1 hi)]
def G1:List.replicate 256 (Value.bool false)=dS λ_=>false:=by simp[dS,List.map_const']
def Eu(f:Nat->Bool)(i:Nat)(hi:i<256):(List.map ag.v (dS f)).getD i (.v undef)=.v (.bool (f i)):=by simp[dS,mI,hi]
def M7(f:Nat->Bool)(i:Nat)(b:Bool)(hi:i<256):List.take i (List.map ag.v (dS f))++[ag.v (.bool b)]++List.drop (i+1) (List.map ag.v (dS f))=List.map ag.v (dS λk=>if k=i then b else f k):=by
 apply Tx
 ·simp[dS];omega
 ·intro n D O;simp only[lL,dS,List.length_range]at O;by_cases aE:n<i
  ·rw[Fx (by simp[dS];omega),Fx (by simp[dS];omega)];simp[dS,show¬n=i by omega]
  ·by_cases JA:n=i
   ·subst JA;rw[Fx (by simp[dS];omega),K4 (by simp[dS];omega)];simp[dS]
   ·rw[K4 (by simp[dS];omega)];simp[dS,JA]
    congr 3
    omega
def A4(f:Nat->Bool):List.take 256 (List.map ag.v (dS f))=List.map ag.v (dS f):=ZG (by rw[vv];omega)
def G2(f:Nat->Bool):List.drop 256 (List.map ag.v (dS f))=[]:=K5 (by rw[vv];omega)
def zq(f:Nat->Bool):(List.map ag.v (dS f)).all jq=true:=by rw[FA];intro x aB;obtain⟨v,au,rfl⟩:=qp.1 aB;obtain⟨i,_,rfl⟩:=qp.1 au;rfl
def vw(S:dc):Value:=.agg (dS S.getLsbD).toArray
def QP(f:Nat->Bool):Value:=.agg (dS f).toArray
def vx(E:dF)(f:Nat->Bool):den E (.agg ((dS f).map ag.v))=QP f:=by simp only[den,gr,QP]
def V8{f:Nat->Bool}{S:dc}(h:∀i,i<256->f i=S.getLsbD i):QP f=vw S:=by rw[QP,QO h];rfl
abbrev ase:cV prog 174:=kH (λ| [.val (.string s),.val (.int .i64 i),.val (.bool inner)]=>some (s,i,inner)|_=>none) (λav W bs=>0<=av.2.1/\av.2.1<=av.1.size/\av.1.size<=140737488351232) call174 λav W w bs ad hp=>asa av.1 av.2.1 av.2.2 hp.1 hp.2.1 hp.2.2 w
abbrev JB:Env prog:=a7 ase.spec aa
def M8:Except Int (dc×Int)->Value
 |.ok (a,j)=>.tuple #[vw a,j,(0:Int),(0:Int)]
 |.error j=>.tuple #[vw 0,(0:Int),(10:Int),j]
def asf(i:Nat)(hi:i<256):(~~~(qg ⟨#[10]⟩ 1)).getLsbD i=decide (i≠10):=by
 have h:qg ⟨#[10]⟩ 1=wE 0 10:=by decide
 rw[OR,h,My _ _ _ U];simp[hi]
def adE(h:mn s i=.error j):j=i:=by
 rw[mn]at h;split at h
 ·cases h
 ·exact(Im h).symm
def asg(h:iE s i=.error j)(A:0<=i):0<=j:=by
 rw[iE]at h;split at h
 ·obtain rfl:=Im h;exact A
 ·split at h
  ·cases h
  ·split at h
   ·cases h
   ·split at h
    ·cases h
    ·split at h
     ·cases O:mn s (i+1) with
      |error k=>rw[O]at h;obtain rfl:=Im h;have:=adE O;omega
      |ok p=>
       obtain⟨a,k⟩:=p;have g:=MD O U;rw[O]at h;simp only at h;cases B:mn s k with
       |error l=>rw[B]at h;obtain rfl:=Im h;have:=adE B;omega
       |ok p=>rw[B]at h;cases h
     ·split at h
      ·obtain rfl:=Im h;exact A
      ·cases h
def V9(h:iQ s i q=.error j)(A:0<=i):0<=j:=by
 rw[iQ]at h;split at h
 ·exact asg h U
 ·split at h
  ·obtain rfl:=Im h;exact A
  ·cases h
structure ash where
 n:Nat
 i:Int
 a:dc
def asi(a:dc)(lo hi:Int)(A:0<=lo)(O:0<=hi)(D:hi<256)(k:Nat)(ad:k<256):(a ||| wG lo hi).getLsbD k=(a.getLsbD k||(decide (lo<=k)&&decide ((k:Int)<=hi))):=by
 rw[Tv,wG,ac5 _ _ _ U,<- O3]
 congr 1
 rw[uV];omega
def ej:=(I (ch @Ch @DZ @qa @pr.eq_1 @pt @qd @G1 @vv) (hV @A4 @G2 @zq @bQ @vx @GX @Jz))
def asj(s:ao)(i:Int)(A:0<=i)(hi:i<s.size)(V:s.size<=140737488351232)(w:ar) :
  cQ 122 #[s,i] w (M8 (nQ s i)):=by
 have bx:∀E,den E (.agg ((dS λ_=>false).map ag.v))=vw 0:=λE=>by rw[vx];exact V8 λi _=>by simp
 have dp:=dv (i+1);refine cB (nt:=157) [.cell 4 241,.tmp 5,.tmp 6,.tmp 7] func122 ?_;refine dL aa ej ?_;refine aR aa ej ?_ ?_<;>intro J
 ·exfalso;simp at J;omega
 ·refine a1 ?_;refine ae.seq ?_;refine aR aa ej ?_ ?_<;>intro J
  ·have QQ:af s i=46:=aC J
   have fv:nQ s i=.ok (~~~(qg ⟨#[10]⟩ 1),i+1):=by rw[nQ,al QQ]
   rw[fv];refine dL aa ej ?_
   refine ae.loop (λj:Nat=>⟨20,bK [(0,s),(1,i),(4,.is (.own 0 0)),(8,.is (.own 32 0)),(9,j)],bA [(0,.cells 241 ((dS λ_=>false).map .v)),(32,.cells 241 ((dS λk=>decide (k<j)&&decide (k≠10)).map .v))]⟩) (λj=>j<=256) (λj=>256-j) 0 ?_ (ef _) ?_
   ·exact b8 (λx=>.key x) (aT ej @wb @O6)
   rintro j Y;refine ae.seq ?_;refine aR aa ej ?_ ?_<;>intro J
   ·have ax:j<256:=bt J
    have iF:=fK j;refine a1 ?_;refine ae.seq (ae.block ?_);refine wr aa (I ej (λgW CK=>M7 gW j CK ax)) ?_ ?_
    ·omega
    refine bY aa (I ej iF) ?_;have e:(λk=>if k=j then !decide ((j:Int)=10) else decide (k<j)&&decide (¬k=10))=λk=>decide (k<j+1)&&decide (¬k=10):=by
     funext k
     by_cases ad:k=j
     ·subst ad;rw[al rfl,nJ (show k<k+1 by omega),FE,<- decide_not,uV];omega
     ·rw[ab ad]
      congr 1
      rw[uV];omega
    refine⟨j+1,U,U,?_⟩;exact b8 (λx=>.key x) (I ej e)
   ·have ax:j=256:=bt J
    subst ax;refine c6 ?_;refine aA aa (I ej dp) ?_;refine bf ej ?_;intro E;show Value.tuple #[den E (.agg _),.int .i64 (i+1),.int .i64 0,.int .i64 0]=_;rw[vx,V8 (S := ~~~(qg ⟨#[10]⟩ 1)) λk ad=>by rw[asf k ad,nJ ad,FE]];rfl
  ·have QQ:¬af s i=46:=aC J
   refine a1 ?_;refine ae.seq ?_;refine aR aa ej ?_ ?_<;>intro J
   ·have Wa:¬af s i=91:=aC J
    have fv:nQ s i=zg (iQ s i qC):=by rw[nQ,ab QQ,ab Wa]
    rw[fv];have Z:iQ s i (vu false)=iQ s i qC:=rfl;cases cg:iQ s i qC with
    |error j=>
     have Y:(0:Int)<=j:=V9 cg A;refine aL JB (aT ej Z cg) ?_ ?_
     ·exact⟨U,U,V⟩
     refine ae.seq ?_;refine aR aa ej ?_ ?_<;>intro J
     ·skip;refine aA aa ej ?_;refine bf ej ?_;intro E;show Value.tuple #[den E (.agg _),.int .i64 0,.int .i64 10,.int .i64 j]=_;rw[bx];rfl
     ·exfalso;simp at J;omega
    |ok q=>
     obtain⟨b,j⟩:=q;have mv:=Cw cg A;refine aL JB (aT ej Z cg) ?_ ?_
     ·exact⟨U,U,V⟩
     refine ae.seq ?_;refine aR aa ej ?_ ?_<;>intro J
     ·exfalso;simp at J
     ·obtain⟨c,rfl⟩:=l7 mv.1;have wM:=dv ((c:Nat):Int);refine a1 ?_;refine aL aa (aT ej wM (λgW CK=>M7 gW c CK (show c<256 by omega))) ?_ ?_
      ·omega
      refine aA aa ej ?_;refine bf ej ?_;intro E;show Value.tuple #[den E (.agg _),.int .i64 j,.int .i64 0,.int .i64 0]=_;rw[vx,V8 (S:=wG (c:Int) (c:Int)) λk ad=>by
       rw[wG,ac5 _ _ _ U]
       by_cases h:k=c
       ·rw[al h,h];simp
       ·rw[ab h,eq_comm,uT];omega]
      rfl
   ·have Wa:af s i=91:=aC J
    have fv:nQ s i=AY s (i+1):=by rw[nQ,ab QQ,al Wa]
    rw[fv];refine bk aa (I ej dp) ?_;refine aL aa ej ?_ ?_
    ·simp;omega
    generalize kk:(if mq s (i+1) then i+1+1 else i+1)=i0;have IF:0<=i0/\i0<=s.size:=by
     rw[<- kk];split
     ·rename_i h;simp[mq]at h;omega
     ·omega
    generalize dW:wH s (s.size+1) i0 0=R;have hm:AY s (i+1)=wI (mq s (i+1)) R:=by rw[AY,kk,dW]
    rw[hm];refine fR ⟨40,bK [(0,s),(4,.is (.own 0 0)),(8,.is (.own 32 0)),(13,i0),(14,.is (.v (.bool (mq s (i+1)))))],bA [(0,.cells 241 ((dS λ_=>false).map .v)),(32,.cells 241 ((dS λ_=>false).map .v))]⟩ ?_ ?_
    ·skip;refine aR aa ej ?_ ?_<;>intro J
     ·have uk:mq s (i+1)=true:=J;rw[uk]at kk;simp only[wg]at kk;subst kk;have kI:=dv (i+1+1);refine bY aa (I ej kI) ?_;exact b8 (λx=>.key x) (I ej @mq.eq_1)
     ·have uk:mq s (i+1)=false:=J;rw[uk]at kk;simp only[xo,wc]at kk;subst kk;refine a1 ?_;exact b8 (λx=>.key x) (I ej @mq.eq_1)
    have cv:(0:dc).getLsbD=λ_=>false:=by funext k;simp
    refine ae.seq (ae.block ?_);refine ae.loop (λp:ash=>⟨50,bK [(0,s),(4,.is (.own 0 0)),(8,.is (.own 32 0)),(13,p.i),(14,.is (.v (.bool (mq s (i+1)))))],bA [(0,.cells 241 ((dS λ_=>false).map .v)),(32,.cells 241 ((dS p.a.getLsbD).map .v))]⟩)
     (λp=>(0<=p.i/\p.i<=s.size)/\(s.size-p.i<p.n/\1<=p.n)/\wH s p.n p.i p.a=R) (λp=>p.n) ⟨s.size+1,i0,0⟩ ?_ ⟨IF,⟨by simp only;omega,by simp only;omega⟩,dW⟩ ?_
    ·exact b8 (λx=>.key x) (I ej cv)
    rintro⟨n,kp,a⟩ ⟨⟨pA,om⟩,⟨e8,kn⟩,dz⟩;simp only at pA e8 dz kn om;dsimp only;obtain⟨n,rfl⟩:∃m,n=m+1:=⟨n-1,U⟩;rw[wH]at dz;refine ae.seq ?_;refine aL aa ej ?_ ?_
    ·simp;omega
    refine bC ej ?_ ?_<;>intro J
    ·have aE:¬(kp < s.size/\af s kp=93):=bt J
     rw[ab aE]at dz;refine a1 ?_;refine ae.block ?_;have Z:iQ s kp (vu true)=iQ s kp iw:=rfl;cases D:iQ s kp iw with
     |error j=>
      have Y:=V9 D pA;rw[D]at dz;simp only at dz;rw[<- dz,wI];refine aL JB (aT ej Z D) ?_ ?_
      ·exact⟨pA,om,V⟩
      refine ae.seq ?_;refine aR aa ej ?_ ?_<;>intro J
      ·skip;refine aA aa ej ?_;refine bf ej ?_;intro E;show Value.tuple #[den E (.agg _),.int .i64 0,.int .i64 10,.int .i64 j]=_;rw[bx];rfl
      ·exfalso;simp at J;omega
     |ok p=>
      obtain⟨lo,j⟩:=p;obtain⟨Jm,hY,j3,ns⟩:=Cw D pA;rw[D]at dz;simp only at dz;refine aL JB (aT ej Z D) ?_ ?_
      ·exact⟨pA,om,V⟩
      refine ae.seq ?_;refine aR aa ej ?_ ?_<;>intro J
      ·exfalso;simp at J
      ·refine a1 ?_;refine bk aa ej ?_
       refine rb (λp:Int×Int=>⟨110,bK [(0,s),(4,.is (.own 0 0)),(8,.is (.own 32 0)),(13,p.2),(14,.is (.v (.bool (mq s (i+1))))),(15,.is (.v (.int .u8 lo))),(18,.is (.v (.int .u8 p.1)))],bA [(0,.cells 241 ((dS λ_=>false).map .v)),(32,.cells 241 ((dS a.getLsbD).map .v))]⟩) (λ_=>w) (λ_=>[])
        (λp=>(0<=p.1/\p.1<256)/\(kp < p.2/\p.2<=s.size)/\wH s n p.2 (a ||| wG lo p.1)=R) ?_ ?_
       ·skip;refine aL aa ej ?_ ?_
        ·simp;omega
        refine bC ej ?_ ?_<;>intro J
        ·have AU:j<s.size/\af s j=45:=bt J
         rw[al AU]at dz;have iF:=dv (j+1);have uo:iQ s (j+1) (vu true)=iQ s (j+1) iw:=rfl;refine aA aa (I ej iF) ?_;cases O:iQ s (j+1) iw with
         |error l=>
          have aN:=V9 O U;rw[O]at dz;simp only at dz;rw[<- dz,wI];refine aL JB (aT ej uo O) ?_ ?_
          ·exact⟨U,U,V⟩
          refine ae.seq ?_;refine aR aa ej ?_ ?_<;>intro J
          ·skip;refine aA aa ej ?_;refine bf ej ?_;intro E;show Value.tuple #[den E (.agg _),.int .i64 0,.int .i64 10,.int .i64 l]=_;rw[bx];rfl
          ·exfalso;simp at J;omega
         |ok q=>
          obtain⟨lq,l⟩:=q;obtain⟨eN,gK,ea,ji⟩:=Cw O U;rw[O]at dz;simp only at dz;refine aL JB (aT ej uo O) ?_ ?_
          ·exact⟨U,U,V⟩
          refine ae.seq ?_;refine aR aa ej ?_ ?_<;>intro J
          ·exfalso;simp at J
          ·refine a1 ?_;refine ae.seq ?_;refine aR aa ej ?_ ?_<;>intro J
           ·have ax:lq < lo:=aC J
            rw[al ax]at dz;rw[<- dz,wI];refine aA aa ej ?_;refine bf ej ?_;intro E;show Value.tuple #[den E (.agg _),.int .i64 0,.int .i64 10,.int .i64 (j+1)]=_;rw[bx];rfl
           ·have ax:¬lq < lo:=aC J
            rw[ab ax]at dz;refine a1 ?_;refine bY aa ej ?_;refine⟨(lq,l),⟨⟨eN,gK⟩,⟨by simp only;omega,ji⟩,dz⟩,rfl,rfl,?_⟩;exact b8 (λx=>.key x) ej
        ·have AU:¬(j<s.size/\af s j=45):=λh=>by
          apply pY.1 J;simp;exact h
         rw[ab AU]at dz;refine a1 ?_;refine⟨(lo,j),⟨⟨Jm,hY⟩,⟨by simp only;omega,ns⟩,dz⟩,rfl,rfl,?_⟩;exact b8 (λx=>.key x) ej
       rintro⟨lq,AS⟩ ⟨⟨eN,gK⟩,⟨ea,ji⟩,tq⟩ _;simp only at eN gK ea ji tq;dsimp only;obtain⟨lo,rfl⟩:=l7 Jm;obtain⟨lq,rfl⟩:=l7 eN;have wl:=dv ((lo:Nat):Int)
       have asl:=dv ((lq:Nat):Int);refine bk aa (I ej wl) ?_
       refine ae.loop (λm:Nat=>⟨120,bK [(0,s),(4,.is (.own 0 0)),(8,.is (.own 32 0)),(13,AS),(14,.is (.v (.bool (mq s (i+1))))),(18,.is (.v (.int .u8 (lq:Nat)))),(20,(lo+m:Nat))],bA [(0,.cells 241 ((dS λ_=>false).map .v)),(32,.cells 241 ((dS λk=>a.getLsbD k||(decide (lo<=k)&&decide (k<lo+m))).map .v))]⟩)
        (λm=>m<=lq+1-lo) (λm=>lq+1-lo-m) 0 ?_ (ef _) ?_
       ·have e:(λk=>a.getLsbD k||(decide (lo<=k)&&decide (k<lo+0)))=a.getLsbD:=by
         funext k
         have:(decide (lo<=k)&&decide (k<lo+0))=false:=by rw[<- O3,uT];omega
         rw[this,Bool.or_false]
        rw[e];exact b8 (λx=>.key x) ej
       rintro m rK;refine bk aa (I ej asl) ?_;refine bC ej ?_ ?_<;>intro J
       ·have ax:lo+m<=lq:=by
         simp at J;omega
        have wS:=iv (((lo+m:Nat):Int)+1) ((lo+(m+1):Nat):Int);refine a1 ?_;refine ae.seq (ae.block ?_);refine wr aa (I ej (λgW CK=>M7 gW (lo+m) CK (show lo+m<256 by omega))) ?_ ?_
        ·omega
        refine bY aa (I ej wS) ?_;have e:(λk=>if k=lo+m then true else a.getLsbD k||(decide (lo<=k)&&decide (k<lo+m)))=λk=>a.getLsbD k||(decide (lo<=k)&&decide (k<lo+(m+1))):=by
         funext k
         by_cases ad:k=lo+m
         ·rw[al ad,nJ (show lo<=k by omega),nJ (show k<lo+(m+1) by omega)];simp
         ·rw[ab ad]
          congr 2
          rw[uV];omega
        refine⟨m+1,U,U,?_⟩;exact b8 (λx=>.key x) (I ej e)
       ·have ax:¬lo+m<=lq:=by
         simp at J;omega
        have e:dS (λk=>a.getLsbD k||(decide (lo<=k)&&decide (k<lo+m)))=dS (a ||| wG (lo:Int) (lq:Int)).getLsbD:=QO λk ad=>by
         rw[asi a _ _ U U U k ad]
         congr 1
         rw[<- O3,<- O3,uV];omega
        refine c6 ?_;refine⟨⟨n,AS,a ||| wG (lo:Int) (lq:Int)⟩,⟨⟨by simp only;omega,ji⟩,⟨by simp only;omega,by simp only;omega⟩,tq⟩,by simp only;omega,?_⟩;exact b8 (λx=>.key x) (I ej e)
    ·have aE:kp < s.size/\af s kp=93:=bt J
     rw[al aE]at dz;have fS:=dv (kp+1);refine c6 ?_;refine fR ⟨90,bK [(4,.is (.own 0 0)),(8,.is (.own 32 0)),(13,kp)],bA [(0,.cells 241 ((dS λ_=>false).map .v)),(32,.cells 241 ((dS (Qz (mq s (i+1)) a).getLsbD).map .v))]⟩ ?_ ?_
     ·skip;refine aR aa ej ?_ ?_<;>intro J
      ·have uk:mq s (i+1)=true:=J;rw[uk];refine bk aa ej ?_
       refine ae.loop (λm:Nat=>⟨80,bK [(4,.is (.own 0 0)),(8,.is (.own 32 0)),(13,kp),(21,m)],bA [(0,.cells 241 ((dS λ_=>false).map .v)),(32,.cells 241 ((dS λk=>if k<m then !a.getLsbD k else a.getLsbD k).map .v))]⟩)
        (λm=>m<=256) (λm=>256-m) 0 ?_ (ef _) ?_
       ·have e:(λk=>if k<0 then !a.getLsbD k else a.getLsbD k)=a.getLsbD:=by
         funext k
         rw[ab U]
        rw[e];exact b8 (λx=>.key x) ej
       rintro m rK;refine ae.seq ?_;refine aR aa ej ?_ ?_<;>intro J
       ·have ax:m<256:=bt J
        have wS:=fK m;refine a1 ?_;refine ae.seq (ae.block ?_);refine wr aa (aT ej (λgW CK=>M7 gW m CK ax) (λgW=>Eu gW m ax)) ?_ ?_
        ·omega
        refine bY aa (I ej wS) ?_;have e:(λk=>if k=m then !(if m<m then !a.getLsbD m else a.getLsbD m) else if k<m then !a.getLsbD k else a.getLsbD k)=λk=>if k<m+1 then !a.getLsbD k else a.getLsbD k:=by
         funext k
         by_cases ad:k=m
         ·subst ad;rw[al rfl,ab U,al U]
         ·rw[ab ad];by_cases h:k<m
          ·rw[al h,al U]
          ·rw[ab h,ab U]
        refine⟨m+1,U,U,?_⟩;exact b8 (λx=>.key x) (I ej e)
       ·have ax:m=256:=bt J
        subst ax;have e:dS (λk=>if k<256 then !a.getLsbD k else a.getLsbD k)=dS (Qz true a).getLsbD:=QO λk ad=>by rw[al ad];show _=(~~~a).getLsbD k;rw[OR];simp[ad]
        refine c6 ?_;exact b8 (λx=>.key x) (I ej e)
      ·have uk:mq s (i+1)=false:=J;rw[uk];refine a1 ?_;exact b8 (λx=>.key x) (aT ej @Qz.eq_1 @xo)
     rw[<- dz,wI];refine aA aa (I ej fS) ?_;refine bf ej ?_;intro E;show Value.tuple #[den E (.agg _),.int .i64 (kp+1),.int .i64 0,.int .i64 0]=_;rw[vx];rfl
abbrev asm:cV prog 122:=kH (λ| [.val (.string s),.val (.int .i64 i)]=>some (s,i)|_=>none) (λav W bs=>0<=av.2/\av.2<av.1.size/\av.1.size<=140737488351232) call122 λav W w bs ad hp=>asj av.1 av.2 hp.1 hp.2.1 hp.2.2 w
def A5(s:ao)(i:Int):Bool:=(decide (i<s.size)&&decide (48<=af s i))&&decide (af s i<=57)
def Ev:=(hV va vb vc @qa @pr.eq_1 @pt @qd)
def asn(s:ao)(i:Int)(A:0<=i)(w:ar):cQ 172 #[s,i] w (.bool (A5 s i)):=by refine cB (nt:=21) [.tmp 4] func172 ?_;refine bk aa Ev ?_;exact bE Ev
abbrev aso:cV prog 172:=kH (λ| [.val (.string s),.val (.int .i64 i)]=>some (s,i)|_=>none) (λav W bs=>0<=av.2) call172 λav W w bs ad hp=>asn av.1 av.2 hp w
def M9(c:Int):Bool:=decide (ic c)
def asp(c:Int)(w:ar):cQ 117 #[.int .u8 c] w (.bool (M9 c)):=by
 have e:M9 c=(((decide (c=42)||decide (c=43))||decide (c=63))||decide (c=123)):=by rw[M9,<- O7,<- O7,<- O7,uV];unfold ic;omega
 rw[e];refine cB (nt:=17) [.tmp 2] func117 ?_;refine bk aa Ev ?_;exact bE Ev
abbrev asq:cV prog 117:=oR (λ| [.val (.int .u8 c)]=>some (c)|_=>none) call117 λav w=>asp av w
structure cD where
 place:Int
 alt:Int
 meet:Int
 gV:Int
 row:Int
 cM:Int
def cD.df(f:cD):List Value:=[.int .i64 f.place,.int .i64 f.alt,.int .i64 f.meet,.int .u8 f.gV,.int .i64 f.row,.int .i64 f.cM]
def zr(i:Int):cD:=⟨i,-1,-1,0,-1,-1⟩
def asr(i:Int)(w:ar):cQ 116 #[i] w (.agg (zr i).df.toArray):=by refine cB (nt:=5) [.cell 2 234] func116 ?_;refine aA aa Ev ?_;refine aA aa (I Ev @Ch) ?_;exact bE Ev
abbrev adF:cV prog 116:=oR (λ| [.val (.int .i64 i)]=>some (i)|_=>none) call116 λav w=>asr av w
structure bj where
 op:Int
 set:dc
 a:Int
 b:Int
 m:Int
 n:Int
def bj.df(d:bj):List Value:=.int .i64 d.op::(dS d.set.getLsbD++[.int .i64 d.a,.int .i64 d.b,.int .i64 d.m,.int .i64 d.n])
def cw(l:List bj):List Value:=l.flatMap bj.df
def bj.CL(d:bj):d.df.length=261:=by simp[bj.df,A3]
def Na(l:List bj):(cw l).length=l.length*261:=by
 induction l with
 |nil=>rfl
 |cons d r bb=>have:cw (d::r)=d.df++cw r:=rfl;rw[this,ec,bb,bj.CL,l9];omega
def fT(op a b:Int):bj:=⟨op,0,a,b,0,0⟩
def QR(op a b:Int):s3 prog 243 [0,2,3] [.v (.int .i64 op),.v (.int .i64 a),.v (.int .i64 b)]=⟨True,.agg ((fT op a b).df.map .v),[],none,[],[]⟩:=by kernel_rfl
def ass{P:bR}{T e:a6}{aw:Nat}{zs:aX}(κ:Nat)(l:List ag)(D:P.underlying T=some (.slice e))(O:ah P e=some aw)(B:ct P e=some zs)(aU:zs.length=aw)(bn:aw<=16777216)(cA:0<aw)(c1:l.length=aw) :
  wk P κ T 1 [0] [.agg l]=⟨True,.ak (8*κ),[(8*κ,some (.row e aw 1 l))],none,[],[]⟩:=by
 have hp:partsOf (.agg l)=l:=rfl;have aW:qt (λi=>some (i*aw,aw)) ((List.replicate 1 zs).flatten.map .v) ([0].zip [.agg l])=some l:=by simp only[Ih,Ii,qt,hp,Nat.zero_mul,lM];rw[al ⟨c1,by simp[aU]⟩];simp[kT,c1,<- aU]
 unfold wk;simp only[D,O,B,aW]
 congr 1
 exact DF ⟨U,aU,cA⟩
def JC(κ:Nat)(d:bj):wk prog κ 62 1 [0] [.agg (d.df.map .v)]=⟨True,.ak (8*κ),[(8*κ,some (.row 243 261 1 (d.df.map .v)))],none,[],[]⟩:=ass κ _ va vb vc bq U U (by rw[lL,bj.CL])
def JD(l:List bj)(d:bj):List.map ag.v (cw l)++List.map ag.v d.df=List.map ag.v (cw (l++[d])):=by simp[cw]
def adG(l:List bj)(d:bj):l.length+1=(l++[d]).length:=by simp
def bj.pG(d:bj):(List.map ag.v d.df).all jq=true:=by show(List.map ag.v (Value.int .i64 d.op::(dS d.set.getLsbD++[.int .i64 d.a,.int .i64 d.b,.int .i64 d.m,.int .i64 d.n]))).all jq=true;rw[fc,List.all_cons,sY,List.all_append,zq];rfl
def Nb:=(ch Ev @G1 @vv @A4 @G2 @zq @bQ (b3 @vx @QR @JC @JD))
def ast(l:List bj)(op a b:Int)(xs:aX)(u:aM)(fp:aD)(w:ar)(aN:l.length<=4000000)(H:L3 w u fp 232 [.row 243 261 l.length (cw l)] xs)(ax:∀b∈fp,b<w.heap.size) :
  Calls prog 173 (#[u]++#[.int .i64 op,.int .i64 a,.int .i64 b]) w λe M=>Vb w u fp 232 xs e M (.ret (.int .i64 (l.length:Nat)) [.row 243 261 (l++[fT op a b]).length (cw (l++[fT op a b]))]):=by
 rw[<- adG];refine aoh (nt:=28) [.tmp 8] H ax func173 ?_;refine aA aa Nb ?_;refine aL aa Nb ?_ ?_
 ·exact⟨U,U,U,⟨by simp[A3],by unfold maxLen;omega,U,bj.pG _⟩,U⟩
 have dp:=iv (((l.length+1:Nat):Int)-1) ((l.length:Nat):Int);refine aA aa (I Nb dp) ?_;refine bf Nb ?_;exact⟨_,_,rfl,λE=>rfl,[_],_,rfl,(aJ (I Nb @bQ)),aq⟩
abbrev Wb:I4 prog 173 where
 T:=232
 m:=1
 pre:=λW bs fs aj=>match fs,aj with|[.row 243 261 n vs],[.val (.int .i64 op),.val (.int .i64 a),.val (.int .i64 b)]=>∃l:List bj,vs=cw l/\n=l.length/\l.length<=4000000|_,_=>False
 out:=λW fs aj=>match fs,aj with|[.row 243 261 n vs],[.val (.int .i64 op),.val (.int .i64 a),.val (.int .i64 b)]=>.ret (.int .i64 (n:Nat)) [.row 243 261 (n+1) (vs++(fT op a b).df)]|_,_=>.b7 [] undef
 enters:=call173
 ok:=by
  intro W w bs u fp us fs aj xs ad H ax fi hu hp;split at hp
  ·rename_i n vs op a b
   match us,hu with
   |[cf,cT,eO],hu=>obtain⟨rfl,rfl,rfl,_⟩:=hu;obtain⟨l,rfl,rfl,aN⟩:=hp;have:=ast l op a b xs u fp w aN H ax;rw[<- adG]at this;rw[show cw l++(fT op a b).df=cw (l++[fT op a b]) by simp[cw]];exact this
  ·exact hp.elim
end
section
def gg(X:List bj)(f:cD):List bj×cD:=
 if f.cM<0 then(X,f)
 else if f.row<0 then(X,{ f with row:=f.cM,cM:=-1 })
 else(X++[fT 2 f.row f.cM],{ f with row:=X.length,cM:=-1 })
def oy(X:List bj)(f:cD):List bj×cD:=if f.row<0 then(X++[fT 0 0 0],{ f with row:=X.length }) else(X,f)
def wT(X:List bj)(f:cD):List bj×cD:=
 if f.meet<0 then(X,{ f with meet:=f.row,row:=-1 })
 else if f.gV=38 then(X++[fT 5 f.meet f.row],{ f with meet:=X.length,row:=-1 })
 else(X++[fT 6 f.meet f.row],{ f with meet:=X.length,row:=-1 })
def qi(X:List bj)(f:cD):List bj×cD:=wT (oy (gg X f).1 (gg X f).2).1 (oy (gg X f).1 (gg X f).2).2
def Ew(X:List bj)(f:cD):List bj×cD:=
 if f.alt<0 then(X,{ f with alt:=f.meet,meet:=-1 })
 else(X++[fT 3 f.alt f.meet],{ f with alt:=X.length,meet:=-1 })
def fM(X:List bj)(f:cD):List bj×cD:=Ew (qi X f).1 (qi X f).2
def x0(m n:Int):Prop:=(m=-2/\n=-1)\/(0<=m/\m<=255/\n<=255/\(n=-1\/(0<=n/\m<=n)))
inductive qE (ah:List bU):bj->bU->Prop where
 |bV (d:bj):d.op=0->d.set=0->qE ah d .bV
 |cls (d:bj):d.op=1->qE ah d (.cls d.set)
 |cat (d:bj) (a b:bU):d.op=2->0<=d.a->ah[d.a.toNat]?=some a->0<=d.b->ah[d.b.toNat]?=some b->qE ah d (.cat a b)
 |alt (d:bj) (a b:bU):d.op=3->0<=d.a->ah[d.a.toNat]?=some a->0<=d.b->ah[d.b.toNat]?=some b->qE ah d (.alt a b)
 |and (d:bj) (a b:bU):d.op=5->0<=d.a->ah[d.a.toNat]?=some a->0<=d.b->ah[d.b.toNat]?=some b->qE ah d (.and a b)
 |minus (d:bj) (a b:bU):d.op=6->0<=d.a->ah[d.a.toNat]?=some a->0<=d.b->ah[d.b.toNat]?=some b->qE ah d (.minus a b)
 |rep (d:bj) (a:bU):d.op=7->0<=d.a->ah[d.a.toNat]?=some a->x0 d.m d.n->qE ah d (.rep a d.m d.n)
inductive jT:List bj->List bU->Prop where
 |nil:jT [] []
 |snoc {X ah d t}:jT X ah->qE ah d t->jT (X++[d]) (ah++[t])
theorem jT.len{X:List bj}{ah:List bU}(h:jT X ah):ah.length=X.length:=by
 induction h with
 |nil=>rfl
 |snoc _ _ bb=>simp[bb]
def lA(ah:List bU)(x:Int):Option bU->Prop
 |none=>x<0
 |some t=>0<=x/\ah[x.toNat]?=some t
theorem lA.app{ah:List bU}{x:Int}{o:Option bU}(h:lA ah x o)(l:List bU):lA (ah++l) x o:=by
 cases o with
 |none=>exact h
 |some t=>refine⟨h.1,?_⟩;rw[BL (kC.1 h.2).1];exact h.2
def lA.last{X:List bj}{ah:List bU}(h:jT X ah)(t:bU):lA (ah++[t]) X.length (some t):=by refine⟨by omega,?_⟩;rw[kR,<- h.len];simp
structure rl (ah:List bU)(f:cD)(L:dX):Prop where
 place:f.place=L.place
 alt:lA ah f.alt L.alt
 meet:lA ah f.meet L.meet
 gV:f.gV=L.gV
 row:lA ah f.row L.row
 cM:lA ah f.cM L.cM
theorem rl.app{ah:List bU}{f:cD}{L:dX}(h:rl ah f L)(l:List bU):rl (ah++l) f L:=⟨h.place,h.alt.app l,h.meet.app l,h.gV,h.row.app l,h.cM.app l⟩
def wU(ah:List bU):List cD->List dX->Prop
 |[],[]=>True
 |f::r,L::s=>rl ah f L/\wU ah r s
 |_,_=>False
theorem wU.app{ah:List bU}:∀{r:List cD} {s:List dX},wU ah r s->∀l,wU (ah++l) r s
 |[],[],_,_=>trivial
 |[],_::_,h,_=>h.elim
 |_::_,[],h,_=>h.elim
 |f::r,L::s,h,l=>⟨h.1.app l,wU.app h.2 l⟩
theorem wU.len{ah:List bU}:∀{r:List cD} {s:List dX},wU ah r s->r.length=s.length
 |[],[],_=>rfl
 |[],_::_,h=>h.elim
 |_::_,[],h=>h.elim
 |f::r,L::s,h=>by rw[l9,l9,wU.len h.2]
def Wc{X:List bj}{ah:List bU}{f:cD}{L:dX}(aQ:jT X ah)(h:rl ah f L):∃l,jT (gg X f).1 (ah++l)/\rl (ah++l) (gg X f).2 (uh L):=by
 unfold gg;cases aW:L.cM with
 |none=>
  have D:=h.cM;rw[aW]at D;have O:f.cM<0:=D;rw[al O];refine⟨[],by simpa using aQ,?_⟩;rw[yI];refine⟨h.place,h.alt,h.meet,h.gV,?_,?_⟩
  ·show lA ah f.row (rowOf L.row L.cM);rw[aW];exact h.row
  ·exact O
 |some p=>
  have D:=h.cM;rw[aW]at D;have asu:¬f.cM<0:=by have:=D.1;omega
  rw[ab asu];cases aI:L.row with
  |none=>
   have B:=h.row;rw[aI]at B;have aU:f.row<0:=B;rw[al aU];refine⟨[],by simpa using aQ,?_⟩;rw[yI];refine⟨h.place,h.alt,h.meet,h.gV,?_,?_⟩
   ·show lA ah f.cM (rowOf L.row L.cM);rw[aW,aI];exact D
   ·show(-1:Int)<0;omega
  |some r=>
   have B:=h.row;rw[aI]at B;have aU:¬f.row<0:=by have:=B.1;omega
   rw[ab aU];refine⟨[.cat r p],.snoc aQ (.cat _ r p rfl B.1 B.2 D.1 D.2),?_⟩;refine⟨h.place,h.alt.app _,h.meet.app _,h.gV,?_,?_⟩
   ·show lA _ (X.length:Int) (rowOf L.row L.cM);rw[aW,aI];exact lA.last aQ _
   ·show(-1:Int)<0;omega
def asv{X:List bj}{ah:List bU}{f:cD}{L:dX}(aQ:jT X ah)(h:rl ah f L):∃l,jT (oy X f).1 (ah++l)/\rl (ah++l) (oy X f).2 { L with row:=some (L.row.getD .bV) }:=by
 unfold oy;cases aI:L.row with
 |none=>have B:=h.row;rw[aI]at B;have aU:f.row<0:=B;rw[al aU];exact⟨[.bV],.snoc aQ (.bV _ rfl rfl),h.place,h.alt.app _,h.meet.app _,h.gV,lA.last aQ _,h.cM.app _⟩
 |some r=>
  have B:=h.row;rw[aI]at B;have aU:¬f.row<0:=by have:=B.1;omega
  rw[ab aU];refine⟨[],by simpa using aQ,?_⟩;rw[yI];exact⟨h.place,h.alt,h.meet,h.gV,B,h.cM⟩
def asw{X:List bj}{ah:List bU}{f:cD}{L:dX}{r:bU}(aQ:jT X ah)(h:rl ah f L)(aI:L.row=some r):∃l,jT (wT X f).1 (ah++l)/\rl (ah++l) (wT X f).2 { L with meet:=some (zb L.meet L.gV r),row:=none }:=by
 have B:=h.row;rw[aI]at B;unfold wT;cases hm:L.meet with
 |none=>have D:=h.meet;rw[hm]at D;have O:f.meet<0:=D;rw[al O];refine⟨[],by simpa using aQ,?_⟩;rw[yI];exact⟨h.place,h.alt,B,h.gV,(by show(-1:Int)<0;omega),h.cM⟩
 |some m=>
  have D:=h.meet;rw[hm]at D;have O:¬f.meet<0:=by have:=D.1;omega
  rw[ab O];by_cases V:f.gV=38
  ·rw[al V];refine⟨[.and m r],.snoc aQ (.and _ m r rfl D.1 D.2 B.1 B.2),h.place,h.alt.app _,?_,h.gV,(by show(-1:Int)<0;omega),h.cM.app _⟩;show lA _ (X.length:Int) (some (zb (some m) L.gV r));rw[show zb (some m) L.gV r=.and m r by simp[zb,<- h.gV,V]];exact lA.last aQ _
  ·rw[ab V];refine⟨[.minus m r],.snoc aQ (.minus _ m r rfl D.1 D.2 B.1 B.2),h.place,h.alt.app _,?_,h.gV,(by show(-1:Int)<0;omega),h.cM.app _⟩;show lA _ (X.length:Int) (some (zb (some m) L.gV r));rw[show zb (some m) L.gV r=.minus m r by simp[zb,<- h.gV,V]];exact lA.last aQ _
def adH{X:List bj}{ah:List bU}{f:cD}{L:dX}(aQ:jT X ah)(h:rl ah f L):∃l,jT (qi X f).1 (ah++l)/\rl (ah++l) (qi X f).2 (wD L):=by
 obtain⟨mP,eM,f1⟩:=Wc aQ h;obtain⟨lT,a2,f2⟩:=asv eM f1;obtain⟨xL,a3,f3⟩:=asw a2 f2 rfl;refine⟨mP++lT++xL,?_,?_⟩
 ·rw[<- mJ,<- mJ];exact a3
 ·rw[<- mJ,<- mJ];exact f3
def QS{X:List bj}{ah:List bU}{f:cD}{L:dX}(aQ:jT X ah)(h:rl ah f L):∃l,jT (fM X f).1 (ah++l)/\rl (ah++l) (fM X f).2 (Gx L):=by
 obtain⟨mP,eM,f1⟩:=adH aQ h;have hm:(wD L).meet=some (oS L):=rfl;have D:=f1.meet;rw[hm]at D;unfold fM Ew;cases Jy:L.alt with
 |none=>have O:=f1.alt;rw[show(wD L).alt=L.alt from rfl,Jy]at O;have B:(qi X f).2.alt<0:=O;rw[al B];refine⟨mP,eM,f1.place,?_,(by show(-1:Int)<0;omega),f1.gV,f1.row,f1.cM⟩;show lA _ _ (some (ov L));rw[show ov L=oS L by unfold ov;rw[Jy];rfl];exact D
 |some a=>
  have O:=f1.alt;rw[show(wD L).alt=L.alt from rfl,Jy]at O;have B:¬(qi X f).2.alt<0:=by have:=O.1;omega
  rw[ab B];refine⟨mP++[.alt a (oS L)],?_,?_⟩
  ·rw[<- mJ];exact .snoc eM (.alt _ _ _ rfl O.1 O.2 D.1 D.2)
  ·rw[<- mJ];refine⟨f1.place,?_,(by show(-1:Int)<0;omega),f1.gV,f1.row.app _,f1.cM.app _⟩;show lA _ _ (some (ov L));rw[show ov L=.alt a (oS L) by unfold ov;rw[Jy];rfl];exact lA.last eM _
end
section
section
variable (c:Int->Int)(N:Int)(rd:Int->Except (Int×Int) (BitVec 256×Int))
def x1(i:Int):Except (Int×Int) (Int×Int×Int):=if c i=43 then .ok (-2,-1,i+1) else if c i=63 then .ok (0,1,i+1) else if c i=123 then jR c N i else .ok (0,-1,i+1)
def Nc(i:Int)(X:List bj)(f:cD)(rest:List cD):Except (Int×Int) (Int×List bj×cD×List cD):=
 match x1 c N i with
 |.error e=>.error e
 |.ok (m,n,j)=>.ok (j,X++[⟨7,0,f.cM,0,m,n⟩],{ f with cM:=X.length },rest)
def Wd(i:Int)(X:List bj)(f:cD):List cD->Except (Int×Int) (Int×List bj×cD×List cD)
 |[]=>.error (20,i)
 |g::r=>.ok (i+1,(fM X f).1,{ g with cM:=(fM X f).2.alt },r)
def QT(i:Int)(X:List bj)(f:cD)(rest:List cD):Except (Int×Int) (Int×List bj×cD×List cD):=
 match rd i with
 |.error e=>.error e
 |.ok (S,j)=>.ok (j,(gg X f).1++[⟨1,S,0,0,0,0⟩],{ (gg X f).2 with cM:=(gg X f).1.length },rest)
def zt(i:Int)(X:List bj)(f:cD)(rest:List cD):Except (Int×Int) (Int×List bj×cD×List cD):=
 if ic (c i) then(if f.cM<0 then .error (20,i) else Nc c N i X f rest)
 else if c i=124 then .ok (i+1,(fM X f).1,(fM X f).2,rest)
 else if c i=38\/c i=45 then .ok (i+1,(qi X f).1,{ (qi X f).2 with gV:=c i },rest)
 else if c i=41 then Wd i X f rest
 else if c i=40 then
  if 1000<rest.length+1 then .error (23,i) else .ok (i+1,(gg X f).1,zr i,(gg X f).2::rest)
 else QT rd i X f rest
def x2:Nat->Int->List bj->cD->List cD->Except (Int×Int) (List bj×cD×List cD)
 |0,_,X,f,rest=>.ok (X,f,rest)
 |n+1,i,X,f,rest=>
  if i<N then match zt c N rd i X f rest with
   |.error e=>.error e
   |.ok (j,We,g,r)=>x2 n j We g r
  else .ok (X,f,rest)
end
def jz(aE7:List Int)(d:bj):Int:=
 if d.op=0\/d.op=1 then 1
 else if d.op=7 then re (aE7.getD d.a.toNat 0) d.m d.n
 else 1+aE7.getD d.a.toNat 0+aE7.getD d.b.toNat 0
def uq(aE7:List Int)(d:bj):Int:=if 2001<jz aE7 d then 2001 else jz aE7 d
def iT(X:List bj):List Int:=X.foldl (λaE7 d=>aE7++[uq aE7 d]) []
def Ex:Except (Int×Int) (List bj×cD×List cD)->Except (Int×Int) (List bj×Int)
 |.error e=>.error e
 |.ok (X,f,rest)=>if rest≠[] then .error (21,f.place)
  else if 2000<(iT (fM X f).1).getD (fM X f).2.alt.toNat 0 then .error (24,0) else .ok ((fM X f).1,(fM X f).2.alt)
def zu(c:Int->Int)(N:Int)(rd:Int->Except (Int×Int) (BitVec 256×Int)):Except (Int×Int) (List bj×Int):=if 1048576<N then .error (1,0) else Ex (x2 c N rd (N.toNat+1) 0 [] (zr (-1)) [])
theorem asx{c:Int->Int}{N i m n j:Int}(h:jR c N i=.ok (m,n,j)):m<=255/\n<=255:=by
 unfold jR at h
 grind [wA]
theorem asy{c:Int->Int}{N i m n j:Int}(h:x1 c N i=.ok (m,n,j)):x0 m n:=by
 unfold x1 at h;unfold x0;split at h
 ·simp_all
 ·split at h
  ·grind
  ·split at h
   ·have D:=acW h;have O:=asx h;omega
   grind
section
variable {c:Int->Int}{N:Int}{rd:Int->Except (Int×Int) (BitVec 256×Int)}
def JE(ah:List bU):Except (Int×Int) (Int×dX×List dX)->Except (Int×Int) (Int×List bj×cD×List cD)->Prop
 |.error e,.error dn=>e=dn
 |.ok (j,L,sF),.ok (AS,X,f,r)=>j=AS/\∃l,jT X (ah++l)/\rl (ah++l) f L/\wU (ah++l) r sF
 |_,_=>False
theorem asz{i:Int}{L:dX}{p:bU}(hp:ic (c i)):zc c N i L p=match x1 c N i with
  |.error e=>.error e
  |.ok (m,n,j)=>.ok (j,{ L with cM:=some (.rep p m n) }):=by
 grind [zc,x1,ic]
theorem asA{i:Int}{X:List bj}{ah:List bU}{f:cD}{L:dX}{rest:List cD}{sF:List dX}(aQ:jT X ah)(aW:rl ah f L)(aI:wU ah rest sF):JE ah (nr c N rd i L sF) (zt c N rd i X f rest):=by
 unfold nr zt;by_cases hp:ic (c i)
 ·rw[al hp,al hp];cases gi:L.cM with
  |none=>
   have D:=aW.cM
   grind [JE,lA]
  |some p=>
   have D:=aW.cM;rw[gi]at D;have O:¬f.cM<0:=by grind [lA]
   rw[ab O];simp only[asz hp,Nc];cases hm:x1 c N i with
   |error e=>rfl
   |ok q=>obtain⟨m,n,j⟩:=q;refine⟨rfl,[.rep p m n],.snoc aQ (.rep ⟨7,0,f.cM,0,m,n⟩ p rfl D.1 D.2 (asy hm)),⟨aW.place,aW.alt.app _,aW.meet.app _,aW.gV,aW.row.app _,lA.last aQ _⟩,aI.app _⟩
 ·rw [ab hp,ab hp];by_cases Ey:c i=124
  ·rw[al Ey,al Ey];obtain⟨l,eM,f1⟩:=QS aQ aW
   grind [wU.app,JE]
  ·rw [ab Ey,ab Ey];by_cases O:c i=38\/c i=45
   ·rw[al O,al O];obtain⟨l,eM,f1⟩:=adH aQ aW;exact⟨rfl,l,eM,⟨f1.place,f1.alt,f1.meet,rfl,f1.row,f1.cM⟩,aI.app l⟩
   ·rw [ab O,ab O];by_cases AV:c i=41
    ·rw[al AV,al AV]
     match rest,sF,aI with
     |[],[],_=>rfl
     |g::r,aFb::asB,aI=>obtain⟨l,eM,f1⟩:=QS aQ aW;have g1:=aI.1.app l;exact⟨rfl,l,eM,⟨g1.place,g1.alt,g1.meet,g1.gV,g1.row,f1.alt⟩,aI.2.app l⟩
    ·rw[ab AV,ab AV];by_cases oT:c i=40
     ·rw[al oT,al oT,aI.len];by_cases ak:1000<sF.length+1
      ·grind [JE]
      ·rw[ab ak,ab ak];obtain⟨l,eM,f1⟩:=Wc aQ aW;have hm:∀o:Int,o=-1->lA (ah++l) o none:=λo h=>by show o<0;omega
       exact⟨rfl,l,eM,⟨rfl,hm _ rfl,hm _ rfl,rfl,hm _ rfl,hm _ rfl⟩,f1,aI.app l⟩
     ·rw[ab oT,ab oT];unfold QT;cases bp:rd i with
      |error e=>rfl
      |ok q=>
       obtain⟨S,j⟩:=q;obtain⟨l,eM,f1⟩:=Wc aQ aW;refine⟨rfl,l++[.cls S],?_,?_,?_⟩
       ·rw[<- mJ];exact .snoc eM (.cls ⟨1,S,0,0,0,0⟩ rfl)
       ·rw[<- mJ];exact⟨f1.place,f1.alt.app _,f1.meet.app _,f1.gV,f1.row.app _,lA.last eM _⟩
       ·exact aI.app _
def JF:Except (Int×Int) (dX×List dX)->Except (Int×Int) (List bj×cD×List cD)->Prop
 |.error e,.error dn=>e=dn
 |.ok (L,sF),.ok (X,f,r)=>∃ah,jT X ah/\rl ah f L/\wU ah r sF
 |_,_=>False
theorem Wf:∀(n:Nat) (i:Int) (X:List bj) (ah:List bU) (f:cD) (L:dX) (rest:List cD) (sF:List dX),jT X ah->rl ah f L->wU ah rest sF->JF (runN c N rd n i L sF) (x2 c N rd n i X f rest)
 |0,i,X,ah,f,L,rest,sF,aQ,aW,aI=>⟨ah,aQ,aW,aI⟩
 |n+1,i,X,ah,f,L,rest,sF,aQ,aW,aI=>by
  rw[runN,x2];by_cases hi:i<N
  ·rw[al hi,al hi];have D:=asA (c:=c) (N:=N) (rd:=rd) (i:=i) aQ aW aI;revert D;cases nr c N rd i L sF with
   |error e=>grind [JE,JF]
   |ok p=>
    obtain⟨j,jw,asC⟩:=p;cases zt c N rd i X f rest with
    |error dn=>grind [JE]
    |ok q=>obtain⟨AS,We,xw,bG⟩:=q;rintro⟨rfl,l,eM,f1,cR⟩;exact Wf n j We _ xw jw bG asC eM f1 cR
  grind [JF]
end
def adI{a m n:Int}(aQ:0<=a)(h:x0 m n):0<=re a m n:=by
 unfold x0 at h;unfold re;split
 ·omega
 ·split
  ·omega
  ·split
   ·have:0<=m*a:=Ld (by omega) aQ;omega
   ·split
    ·omega
    ·split
     ·have:0<=n*(a+2):=Ld (by omega) (by omega);omega
     ·have D:0<=m*a:=Ld (by omega) aQ;have O:0<=(n-m)*(a+2+1):=Ld (by omega) (by omega);omega
theorem asD{ah:List bU}{d:bj}{t:bU}(h:qE ah d t):uq (ah.map λt=>(t.aw:Int)) d=(t.aw:Int):=by
 have at':∀(x:Int) (a:bU),ah[x.toNat]?=some a->(ah.map λt=>(t.aw:Int)).getD x.toNat 0=(a.aw:Int):=λx a aB=>by simp_all
 have cap:∀v:Nat,(if(2001:Int)<(v:Int) then(2001:Int) else(v:Int))=((fz v:Nat):Int):=λv=>by grind [fz]
 cases h with
 |bV A _=>
  have au:jz (ah.map λt=>(t.aw:Int)) d=((1:Nat):Int):=by grind [jz]
  rw[uq,au,cap];rfl
 |cls A=>
  have au:jz (ah.map λt=>(t.aw:Int)) d=((1:Nat):Int):=by grind [jz]
  rw[uq,au,cap];rfl
 |cat a b A D O B aU=>
  have au:jz (ah.map λt=>(t.aw:Int)) d=((1+a.aw+b.aw:Nat):Int):=by simp_all [jz]
  rw[uq,au,cap];rfl
 |alt a b A D O B aU=>
  have au:jz (ah.map λt=>(t.aw:Int)) d=((1+a.aw+b.aw:Nat):Int):=by simp_all [jz]
  rw[uq,au,cap];rfl
 |and a b A D O B aU=>
  have au:jz (ah.map λt=>(t.aw:Int)) d=((1+a.aw+b.aw:Nat):Int):=by simp_all [jz]
  rw[uq,au,cap];rfl
 |minus a b A D O B aU=>
  have au:jz (ah.map λt=>(t.aw:Int)) d=((1+a.aw+b.aw:Nat):Int):=by simp_all [jz]
  rw[uq,au,cap];rfl
 |rep a A D O B=>
  have aE:=adI (a:=(a.aw:Int)) (by omega) B;obtain⟨v,au⟩:=l7 aE;have bx:jz (ah.map λt=>(t.aw:Int)) d=((v:Nat):Int):=by simp_all [jz]
  grind [uq,bU.aw]
theorem adJ{X:List bj}{ah:List bU}(h:jT X ah):iT X=ah.map λt=>(t.aw:Int):=by
 induction h with
 |nil=>rfl
 |snoc aQ aE bb=>grind [asD,iT]
theorem Nd{c:Int->Int}{N:Int}{rd:Int->Except (Int×Int) (BitVec 256×Int)}(db:0<=N):match AR c N rd,zu c N rd with
  |.error e,.error dn=>e=dn
  |.ok t,.ok (X,x)=>∃ah,jT X ah/\0<=x/\ah[x.toNat]?=some t
  |_,_=>False:=by
 unfold AR zu;by_cases Z:1048576<N
 ·simp_all
 ·rw [ab Z,ab Z];have hm:∀o:Int,o=-1->lA [] o none:=λo h=>by show o<0;omega
  have D:=Wf (c:=c) (N:=N) (rd:=rd) (N.toNat+1) 0 [] [] (zr (-1)) (ou (-1)) [] [] .nil ⟨rfl,hm _ rfl,hm _ rfl,rfl,hm _ rfl,hm _ rfl⟩ trivial;have e:run c N rd 0 (ou (-1)) []=runN c N rd (N.toNat+1) 0 (ou (-1)) []:=by simp_all [run]
  rw[e];revert D;cases runN c N rd (N.toNat+1) 0 (ou (-1)) [] with
  |error e=>
   cases x2 c N rd (N.toNat+1) 0 [] (zr (-1)) [] with
   |error dn=>exact λh=>h
   |ok q=>grind [JF]
  |ok p=>
   obtain⟨L,sF⟩:=p;cases x2 c N rd (N.toNat+1) 0 [] (zr (-1)) [] with
   |error dn=>grind [JF]
   |ok q=>
    obtain⟨X,f,r⟩:=q;rintro⟨ah,aQ,aW,aI⟩;simp only[rf,Ex]
    match r,sF,aI with
    |g::r,aFb::asB,aI=>grind [rl.place]
    |[],[],_=>
     rw[ab (show¬([]:List dX)≠[] by simp),ab (show¬([]:List cD)≠[] by simp)];obtain⟨l,eM,f1⟩:=QS aQ aW;have O:=f1.alt;rw[show(Gx L).alt=some (ov L) from rfl]at O;have B:(iT (fM X f).1).getD (fM X f).2.alt.toNat 0=((ov L).aw:Int):=by rw[adJ eM,mI,yG,O.2];rfl
     grind [lA]
end
section
open Go.RowKit Go.LE Go.Proofs.Tryz
set_option maxRecDepth 10000
def lW(l:List cD):List Value:=l.flatMap cD.df
def asE(l:List cD):(lW l).length=l.length*6:=by
 induction l with
 |nil=>rfl
 |cons d r bb=>have:lW (d::r)=d.df++lW r:=rfl;rw[this,ec,bb,l9];show 6+_=_;omega
def ur(X:List bj)(pre:List cD)(f:cD):List br:=[.row 243 261 X.length (cw X),.row 234 6 (pre.length+1) (lW pre++f.df)]
def QU(X:List bj)(d:bj)(pre:List cD)(f:cD):ur (X++[d]) pre f=[.row 243 261 (X.length+1) (cw X++d.df),.row 234 6 (pre.length+1) (lW pre++f.df)]:=by simp[ur,cw]
def zv(pre:List cD)(f:cD):List.map ag.v (lW pre++f.df)=List.map ag.v (lW pre)++[.v (.int .i64 f.place),.v (.int .i64 f.alt),.v (.int .i64 f.meet),.v (.int .u8 f.gV),.v (.int .i64 f.row),.v (.int .i64 f.cM)]:=by rw[sY];rfl
section
variable (pre:List cD)(aFe:List ag)(d:ag)(j:Nat)
def QV:(List.map ag.v (lW pre)).length=pre.length*6:=by rw[lL,asE]
def Wg:(List.map ag.v (lW pre)++aFe).length=pre.length*6+aFe.length:=by rw[ec,QV]
def QW:(List.map ag.v (lW pre)++aFe).getD (pre.length*6+j) d=aFe.getD j d:=by rw[mI,mI,<- QV,Dv U,ZE]
def Wh:(List.map ag.v (lW pre)++aFe).getD (pre.length*6) d=aFe.getD 0 d:=QW pre aFe d 0
def QX:List.take (pre.length*6+j) (List.map ag.v (lW pre)++aFe)=List.map ag.v (lW pre)++List.take j aFe:=by rw[<- QV,List.take_length_add_append]
def Wi:List.take (pre.length*6) (List.map ag.v (lW pre)++aFe)=List.map ag.v (lW pre):=by have:=QX pre aFe 0;simpa using this
def Nf:List.drop (pre.length*6+j) (List.map ag.v (lW pre)++aFe)=List.drop j aFe:=by rw[<- QV,Zy]
def Wj:List.drop (pre.length*6+j+1) (List.map ag.v (lW pre)++aFe)=List.drop (j+1) aFe:=Nf pre aFe (j+1)
def Wk:List.drop (pre.length*6+1) (List.map ag.v (lW pre)++aFe)=List.drop 1 aFe:=Nf pre aFe 1
end
def oz(aE3:aX)(aFe:List ag):jO (List.map ag.v aE3++aFe)=(jO aFe).map (aE3++·):=by
 induction aE3 with
 |nil=>simp
 |cons x r bb=>simp[jO,bb,Option.map_map,Fz]
def QY(pre:List cD)(h:pre.length<=2000):IntKind.i64.wrap (((pre.length+1:Nat):Int)-1)=((pre.length:Nat):Int):=by rw[gb U U];omega
abbrev Ng:Env prog:=a7 Wb.spec aa
def vy:=(I (ch @qa @pr.eq_1 @pt @qd @zv @Wg @QW @Wh) (hV @QX @Wi @Nf @Wj @Wk @mJ @oz))
def adK(X:List bj)(pre:List cD)(f:cD)(u:aM)(fp:aD)(w:ar)(aN:X.length<=4000000)(hp:pre.length<=2000)(H:eH w u fp 232 (ur X pre f))(ax:∀b∈fp,b<w.heap.size) :
  Calls prog 121 (#[u]++#[]) w λe M=>h0 w u fp 232 e M (.ret (.tuple #[]) (ur (gg X f).1 pre (gg X f).2)):=by
 have wp:=QY pre hp;refine jP (nt:=47) [] H ax func121 ?_;refine hs aa (aT vy @ur.eq_1 wp) ?_;refine ae.seq ?_;refine aL aa vy ?_ ?_
 ·omega
 refine bC vy ?_ ?_<;>intro J
 ·have aW:f.cM<0:=aC J
  have he:gg X f=(X,f):=by rw[gg,al aW]
  rw[he];refine bf vy ?_;exact eC (aT vy @bQ @oz)
 ·have aW:¬f.cM<0:=aC J
  refine a1 ?_;refine ae.seq ?_;refine aR aa vy ?_ ?_<;>intro J
  ·have aI:f.row<0:=aC J
   have he:gg X f=(X,{ f with row:=f.cM,cM:=-1 }):=by rw[gg,ab aW,al aI]
   rw[he];refine wr aa vy ?_ ?_
   ·omega
   refine wr aa vy ?_ ?_
   ·omega
   refine jQ vy ?_;exact eC (aT vy @bQ @oz)
  ·have aI:¬f.row<0:=aC J
   have he:gg X f=(X++[fT 2 f.row f.cM],{ f with row:=X.length,cM:=-1 }):=by rw[gg,ab aW,ab aI]
   rw[he,QU];refine AM Ng vy ?_;refine wr aa vy ?_ ?_
   ·omega
   refine jQ vy ?_;exact eC (aT vy @bQ @oz)
def QZ(f:dr)(g:List bj->cD->List bj×cD)(ly:∀args w,(callFunc f args).run prog w=.ok (.enter f args) w)
  (h:∀ (X:List bj) (pre:List cD) (x3:cD) (u:aM) (fp:aD) (w:ar),X.length<=4000000->pre.length<=2000->eH w u fp 232 (ur X pre x3)->(∀ b∈fp,b<w.heap.size) ->
   Calls prog f (#[u]++#[]) w λe M=>h0 w u fp 232 e M (.ret (.tuple #[]) (ur (g X x3).1 pre (g X x3).2))) (X:List bj) (pre:List cD) (x3:cD):iO prog f where
 T:=232
 pre:=λ_ _ fs aj=>(fs=ur X pre x3/\aj=[])/\X.length<=4000000/\pre.length<=2000
 out:=λ_ _ _=>.ret (.tuple #[]) (ur (g X x3).1 pre (g X x3).2)
 enters:=ly
 ok:=by
  intro W w bs u fp us fs aj ad H ax fi hu hp;obtain⟨⟨rfl,rfl⟩,D,O⟩:=hp
  match us,hu with
  |[],_=>exact h X pre x3 u fp w D O H ax
end
end Go.Proofs.YtnemkecffmdlnaaGreatDoor
