/-
 Part 2 of the proof (packed).
-/
import Derived.Test.YtnemkecffmdlnaaGreatDoorZ1
import Derived.Test.YtnemkecffmdlnaaGreatDoorProg
import Derived.WalkKit
import Derived.ProofKit
import Derived.OpenShut
import Derived.JoinedCond
import Derived.Lib.SmallJoins
import Derived.ReadAgain
import Derived.Deep.Slices
import Derived.Deep.Strs
import Derived.Defers
import Derived.Recover
import Derived.Shelf.LaysM
import Derived.Shelf.Strconv.Itoa3
set_option linter.unusedSimpArgs false
set_option linter.unusedVariables false
set_option linter.defProp false
set_option maxHeartbeats 16000000
noncomputable section
namespace Go.LE
section
open Go.RowKit
variable{P:bR}{W:ar}{bs:aD}{σ:eG}{rs:List ResultVar}
section
variable {P:bR}{W:ar}{bs:aD}{κ:Nat}{h:ca}
def IP(q1:List (Nat×Nat))(cells:List ag)(l:List (Nat×ag)):Option (List ag):=qt (λi=>q1[i]?) cells l
def abF(q1:List (Nat×Nat))(cells:List ag)(r:List (Nat×ag))(x:ag):Option (Nat×Nat)->Option (List ag)
 |some (off,size)=>if(partsOf x).length=size/\off+size<=cells.length then IP q1 (kT cells off (partsOf x)) r else none
 |none=>none
theorem abG(q1:List (Nat×Nat))(cells:List ag):IP q1 cells []=some cells:=rfl
theorem amU(q1:List (Nat×Nat))(cells:List ag)(i:Nat)(x:ag)(r:List (Nat×ag)):IP q1 cells ((i,x)::r)=abF q1 cells r x (q1[i]?):=by rfl
def amV(q1:List (Nat×Nat))(cells:List ag)(r:List (Nat×ag))(x:ag)(off size:Nat) :
  abF q1 cells r x (some (off,size))=if(partsOf x).length=size/\off+size<=cells.length then IP q1 (kT cells off (partsOf x)) r else none:=rfl
def LZ:Option (List ag)->R
 |some cells=>⟨True,.agg cells,[],none,[],[]⟩
 |none=>.bad
def UI(idx:aD)(args:List ag):Option (List Value)->Option (List (Nat×Nat))->R
 |some zs,some q1=>LZ (IP q1 (zs.map .v) (idx.zip args))
 |_,_=>.bad
def Ch(T:a6)(idx:aD)(args:List ag)(V:(gT P T).isSome=true):s3 P T idx args=UI idx args (ct P T) (gT P T):=by
 have hu:∃fs,P.underlying T=some (.struct fs):=by grind [gT]
 obtain⟨fs,hu⟩:=hu;obtain⟨q1,Pr⟩:=Dx.1 V;unfold s3 UI
 grind [R.ok,LZ,IP]
def Gb(aw:Nat)(cells:List ag)(l:List (Nat×ag)):Option (List ag):=qt (λi=>some (i*aw,aw)) cells l
theorem amW(aw:Nat)(cells:List ag):Gb aw cells []=some cells:=rfl
def amX(aw:Nat)(cells:List ag)(i:Nat)(x:ag)(r:List (Nat×ag)) :
  Gb aw cells ((i,x)::r)=if(partsOf x).length=aw/\i*aw+aw<=cells.length then Gb aw (kT cells (i*aw) (partsOf x)) r else none:=rfl
def UJ(κ:Nat)(e:a6)(aw len:Nat)(p:Prop):Option (List ag)->R
 |some cells=>⟨p,.ak (8*κ),[(8*κ,some (.row e aw len cells))],none,[],[]⟩
 |none=>.bad
def abH(κ:Nat)(e:a6)(len:Nat)(idx:aD)(args:List ag):Option Nat->Option (List Value)->R
 |some aw,some zs=>UJ κ e aw len (len*aw<=16777216/\zs.length=aw/\0<aw) (Gb aw ((List.replicate len zs).flatten.map .v) (idx.zip args))
 |_,_=>.bad
def amY(e:a6)(len:Nat)(idx:aD)(args:List ag)(aw:Nat)(zs:aX) :
  abH κ e len idx args (some aw) (some zs)=UJ κ e aw len (len*aw<=16777216/\zs.length=aw/\0<aw) (Gb aw ((List.replicate len zs).flatten.map .v) (idx.zip args)):=rfl
def abI(P:bR)(κ:Nat)(len:Nat)(idx:aD)(args:List ag):Option TypeDesc->R
 |some (.slice e)=>abH κ e len idx args (ah P e) (ct P e)
 |_=>.bad
theorem DZ(T:a6)(len:Nat)(idx:aD)(args:List ag):wk P κ T len idx args=abI P κ len idx args (P.underlying T):=by rfl
def PV(P:bR)(κ k j:Nat)(tys:List TypeId):Option bL->Option bL->R
 |some (.row e aw n vs),some (.row _ yQ m us)=>match tys,ln P e,ct P e with
  |[T,c8],some by_,some zs=>⟨c8=T/\P.underlying T=some (.slice e)/\ah P e=some aw/\zs.length=aw/\0<aw/\yQ=aw/\k≠j/\0<m/\n+m<=maxLen/\(n+m)*by_<=140737488355328/\us.all jq=true,.ak (8*κ),[(k,none),(8*κ,some (.row e aw (n+m) (vs++us)))],none,[],[k,j]⟩
  |_,_,_=>.bad
 |_,_=>.bad
def amZ(tys:List TypeId)(k j:Nat):tZ P W bs κ h tys [.ak k,.ak j]=PV P κ k j tys (h k) (h j):=by
 simp only[tZ];unfold PV
 grind [dV]
def UK(P:bR)(κ k j:Nat)(T c8 e aw n yQ m:Nat)(vs us:List ag):Option Nat->Option (List Value)->R
 |some by_,some zs=>⟨c8=T/\P.underlying T=some (.slice e)/\ah P e=some aw/\zs.length=aw/\0<aw/\yQ=aw/\k≠j/\0<m/\n+m<=maxLen/\(n+m)*by_<=140737488355328/\us.all jq=true,.ak (8*κ),[(k,none),(8*κ,some (.row e aw (n+m) (vs++us)))],none,[],[k,j]⟩
 |_,_=>.bad
def am0(k j:Nat)(T c8 e dn:TypeId)(aw n yQ m:Nat)(vs us:List ag) :
  PV P κ k j [T,c8] (some (.row e aw n vs)) (some (.row dn yQ m us))=UK P κ k j T c8 e aw n yQ m vs us (ln P e) (ct P e):=by
 simp only[PV,UK]
 grind
def am1(k j:Nat)(T c8 e aw n yQ m:Nat)(vs us:List ag)(by_:Nat)(zs:aX) :
  UK P κ k j T c8 e aw n yQ m vs us (some by_) (some zs)=⟨c8=T/\P.underlying T=some (.slice e)/\ah P e=some aw/\zs.length=aw/\0<aw/\yQ=aw/\k≠j/\0<m/\n+m<=maxLen/\(n+m)*by_<=140737488355328/\us.all jq=true,.ak (8*κ),[(k,none),(8*κ,some (.row e aw (n+m) (vs++us)))],none,[],[k,j]⟩:=rfl
def UL(P:bR)(κ j:Nat)(T c8:TypeId):Option TypeDesc->Option bL->R
 |some (.slice e),some (.row _ aw m us)=>match ln P e,ct P e with
  |some by_,some zs=>⟨c8=T/\ah P e=some aw/\zs.length=aw/\0<aw/\0<m/\m<=maxLen/\m*by_<=140737488355328/\us.all jq=true,.ak (8*κ),[(8*κ,some (.row e aw m us))],none,[],[j]⟩
  |_,_=>.bad
 |_,_=>.bad
def UM(κ k:Nat)(T c8 e:a6)(aw n m:Nat)(vs us:List ag)(P:bR)(q:Prop):Option Nat->Option (List Value)->R
 |some by_,some zs=>⟨c8=T/\P.underlying T=some (.slice e)/\ah P e=some aw/\zs.length=aw/\q/\n+m<=maxLen/\(n+m)*by_<=140737488355328/\us.all jq=true,.ak (8*κ),[(k,none),(8*κ,some (.row e aw (n+m) (vs++us)))],none,[],[k]⟩
 |_,_=>.bad
def PW(P:bR)(W:ar)(bs:aD)(κ k:Nat)(ay:dj)(m:Nat)(T c8:TypeId):Bool->Option bL->R
 |true,some (.row e aw n vs)=>⟨c8=T/\P.underlying T=some (.slice e)/\ah P e=some aw/\m=0,.ak k,[],none,[],[k]⟩
 |false,some (.row e aw n vs)=>(match ay with
  |some ⟨b,o,none⟩=>UM κ k T c8 e aw n m vs (mb W b o (m*aw)) P (b∉bs/\p2 W b o (m*aw)) (ln P e) (ct P e)
  |_=>.bad)
 |_,_=>.bad
def am2(T c8:TypeId)(k m c:Nat)(ay:dj):tZ P W bs κ h [T,c8] [.ak k,.v (.slice ay m c)]=PW P W bs κ k ay m T c8 (m==0) (h k):=by
 simp only[tZ];unfold PW;rcases h k with _|e
 ·simp
 ·cases e with
  |row e aw n vs=>
   cases(m==0) with
   |true=>rfl
   |false=>
    simp only[BN];rcases ay with _|⟨b,o,_|s⟩
    ·rfl
    ·simp only[UM]
     grind [dV]
    ·rfl
  |_=>simp
def UN(P:bR)(κ k:Nat)(s:ao)(T c8:TypeId):Option bL->R
 |some (.row e aw n vs)=>(match ln P e,ct P e with
  |some by_,some zs=>⟨P.underlying c8=some .string/\P.underlying T=some (.slice e)/\ah P e=some aw/\zs.length=aw/\aw=1/\n+s.size<=maxLen/\(n+s.size)*by_<=140737488355328,.ak (8*κ),[(k,none),(8*κ,some (.row e aw (n+s.size) (vs++(byteCells s).map .v)))],none,[],[k]⟩
  |_,_=>.bad)
 |_=>.bad
def am3(T c8:TypeId)(k:Nat)(s:ao):tZ P W bs κ h [T,c8] [.ak k,.v (.string s)]=UN P κ k s T c8 (h k):=by
 simp only[tZ];unfold UN
 grind [dV]
def abJ(κ k:Nat)(s:ao)(P:bR)(T c8 e:a6)(aw n:Nat)(vs:List ag):Option Nat->Option (List Value)->R
 |some by_,some zs=>⟨P.underlying c8=some .string/\P.underlying T=some (.slice e)/\ah P e=some aw/\zs.length=aw/\aw=1/\n+s.size<=maxLen/\(n+s.size)*by_<=140737488355328,.ak (8*κ),[(k,none),(8*κ,some (.row e aw (n+s.size) (vs++(byteCells s).map .v)))],none,[],[k]⟩
 |_,_=>.bad
theorem am4(k:Nat)(s:ao)(T c8 e:a6)(aw n:Nat)(vs:List ag):UN P κ k s T c8 (some (.row e aw n vs))=abJ κ k s P T c8 e aw n vs (ln P e) (ct P e):=by rfl
def am5(T c8:TypeId)(j:Nat):tZ P W bs κ h [T,c8] [.v (.slice none 0 0),.ak j]=UL P κ j T c8 (P.underlying T) (h j):=by
 simp only[tZ];unfold UL
 grind [dV]
def abK(P:bR)(κ j:Nat)(T c8 e aw m:Nat)(us:List ag):Option Nat->Option (List Value)->R
 |some by_,some zs=>⟨c8=T/\ah P e=some aw/\zs.length=aw/\0<aw/\0<m/\m<=maxLen/\m*by_<=140737488355328/\us.all jq=true,.ak (8*κ),[(8*κ,some (.row e aw m us))],none,[],[j]⟩
 |_,_=>.bad
def am6(j:Nat)(T c8 e dn:TypeId)(aw m:Nat)(us:List ag) :
  UL P κ j T c8 (some (.slice e)) (some (.row dn aw m us))=abK P κ j T c8 e aw m us (ln P e) (ct P e):=by
 rfl
def am7(j:Nat)(T c8 e aw m:Nat)(us:List ag)(by_:Nat)(zs:aX) :
  abK P κ j T c8 e aw m us (some by_) (some zs)=⟨c8=T/\ah P e=some aw/\zs.length=aw/\0<aw/\0<m/\m<=maxLen/\m*by_<=140737488355328/\us.all jq=true,.ak (8*κ),[(8*κ,some (.row e aw m us))],none,[],[j]⟩:=rfl
end
theorem gb{n:Int}(D:-9223372036854775808<=n)(O:n<=9223372036854775807):IntKind.i64.wrap n=n:=by simp only[IntKind.wrap,IntKind.bits,IntKind.signed,FE,oa,show(2:Int)^(64-1)=9223372036854775808 from rfl,show(2:Int)^64=18446744073709551616 from rfl];omega
theorem am8(W:ar)(b o:Nat):mb W b o 1=[.v ((W.cell? ⟨b,o,none⟩).getD undef)]:=rfl
theorem am9(W:ar)(b o:Nat):mb W b o 2=[.v ((W.cell? ⟨b,o,none⟩).getD undef),.v ((W.cell? ⟨b,o+1,none⟩).getD undef)]:=rfl
theorem ana(W:ar)(b o:Nat):mb W b o 3=[.v ((W.cell? ⟨b,o,none⟩).getD undef),.v ((W.cell? ⟨b,o+1,none⟩).getD undef),.v ((W.cell? ⟨b,o+2,none⟩).getD undef)]:=rfl
theorem anb(W:ar)(b o:Nat):mb W b o 4=[.v ((W.cell? ⟨b,o,none⟩).getD undef),.v ((W.cell? ⟨b,o+1,none⟩).getD undef),.v ((W.cell? ⟨b,o+2,none⟩).getD undef),.v ((W.cell? ⟨b,o+3,none⟩).getD undef)]:=rfl
def anc(W:ar)(b o:Nat):p2 W b o 1=((W.cell? ⟨b,o,none⟩).isSome=true):=by simp[p2]
def ane(W:ar)(b o:Nat):p2 W b o 2=((W.cell? ⟨b,o,none⟩).isSome=true/\(W.cell? ⟨b,o+1,none⟩).isSome=true):=by simp[p2]
def anf(W:ar)(b o:Nat):p2 W b o 3=((W.cell? ⟨b,o,none⟩).isSome=true/\(W.cell? ⟨b,o+1,none⟩).isSome=true/\(W.cell? ⟨b,o+2,none⟩).isSome=true):=by simp[p2]
def ang(W:ar)(b o:Nat):p2 W b o 4=((W.cell? ⟨b,o,none⟩).isSome=true/\(W.cell? ⟨b,o+1,none⟩).isSome=true/\(W.cell? ⟨b,o+2,none⟩).isSome=true/\(W.cell? ⟨b,o+3,none⟩).isSome=true):=by simp[p2]
def anh(e dn:TypeId):((some (TypeDesc.slice e):Option TypeDesc)=some (.slice dn))=(e=dn):=by simp
def ani(e:a6):(∃dn,(some (TypeDesc.slice e):Option TypeDesc)=some (.slice dn))=True:=by simp
theorem anj(i:Nat)(vs:hE):xv i [.v (.tuple vs)]=⟨i<vs.size,.v (vs.getD i undef),[],none,[],[]⟩:=rfl
def ank(b:Builtin)(aj:Array Operand)(tys:Array TypeId):Call.operands { callee:=.builtin b,args:=aj,argTypes:=tys }=aj:=by simp[Call.operands]
def anl(f:Operand)(aj:Array Operand)(tys:Array TypeId):(Call.operands { callee:=.value f,args:=aj,argTypes:=tys }).toList=f::aj.toList:=by simp[Call.operands]
def anm(f:Operand)(n:String)(aj:Array Operand)(tys:Array TypeId):(Call.operands { callee:=.invoke f n,args:=aj,argTypes:=tys }).toList=f::aj.toList:=by simp[Call.operands]
def pr{f:dr}(W:ar)(bs:aD)(κ:Nat)(h:ca)(l:List ag):Option (Spec P f)->R
 |some s=>s.aJ W bs κ h l
 |none=>.bad
theorem qa{κ:Nat}{h:ca}(Γ:Env P)(f:dr)(l:List ag):iL Γ W bs κ h f l=pr W bs κ h l (Γ.sp f):=by rfl
theorem pt{f:dr}(p:cV P f)(W:ar)(bs:aD)(κ:Nat)(h:ca)(l:List ag):p.spec.aJ W bs κ h l=Ga p.pre p.res W bs (e6 h l):=rfl
theorem ann{f:dr}(p:IL P f)(W:ar)(bs:aD)(κ:Nat)(h:ca)(l:List ag):p.spec.aJ W bs κ h l=LY κ p.T p.s p.pre p.n p.vs p.fV W bs (e6 h l):=rfl
theorem ano(r:ResultVar)(l:List ResultVar):ni P W bs σ (r::l)=UA (Cg P W bs σ r) (ni P W bs σ l):=rfl
def abL:eJ->Prop×ag
 |.is x=>(True,x)
 |.oL b x=>(b=true,x)
 |.any=>(False,.v undef)
theorem anp(t:Nat):Cg P W bs σ (.tmp t)=abL (σ.φ t):=by rfl
def UO(P:bR)(W:ar)(bs:aD)(h:ca)(T:a6):eJ->Prop×ag
 |.is (.own k o)=>abM (u0 P W bs h T [.own k o])
 |_=>(False,.v undef)
where abM (r:R):Prop×ag:=(r.side,r.val)
theorem anq(side:Prop)(val:ag)(u:List (Nat×Option bL))(b7:Option (List PanicEntry))(iq reads:aD):UO.abM ⟨side,val,u,b7,iq,reads⟩=(side,val):=rfl
theorem anr(t:Nat)(T:a6):Cg P W bs σ (.cell t T)=UO P W bs σ.h T (σ.φ t):=by rfl
theorem ans(x y:ag)(l:List ag):yV (x::y::l)=.iK (x::y::l):=rfl
def UP(R:World->List Nat->ag->ca->Prop)(W:ar)(bs:aD)(h:ca)(x:Prop×List ag):Prop:=x.1/\R W bs (yV x.2) h
theorem Gc{R:World->List Nat->ag->ca->Prop}{yW:List PanicEntry->ca->Prop}:Fin P rs R yW .ret W bs σ=UP R W bs σ.h (ni P W bs σ rs):=rfl
theorem Gd{R:World->List Nat->ag->ca->Prop}{yW:List PanicEntry->ca->Prop}:Fin P rs R yW .normal W bs σ=UP R W bs σ.h (ni P W bs σ rs):=rfl
theorem ant(R:World->List Nat->ag->ca->Prop)(W:ar)(bs:aD)(h:ca)(p:Prop)(l:List ag):UP R W bs h (p,l)=(p/\R W bs (yV l) h):=rfl
end
section
def anu:=(I @e6.eq_1 (I @e6.eq_2 (I @rN.eq_1 (I @rN.eq_2 (I @rN.eq_3 (I @po.eq_1 (I @abC.eq_1 (I @bQ (I @Ga.eq_1 (I @amT (I @uc.eq_1 @uc.eq_2)))))))))))
def anv:=(I @am2 (I @PW.eq_1 (I @PW.eq_2 (I @UM.eq_1 (I @am3 (I @am4 (I @abJ.eq_1 (I @abG (I @amU (I @amV (I @LZ.eq_1 (I @UI.eq_1 (I @amW (I @amX (I @UJ.eq_1 (I @amY (I @abI.eq_1 (I @abG (I @amZ (I @am0 (I @am1 (I @am5 (I @am6 (I @am7 (I @am8 (I @am9 (I @ana (I @anb (I @anc (I @ane (I @anf (I @ang (I @anh (I @ani (I @anj (I @ank (I @anl (I @anm (I @qa (I @pr.eq_1 (I @pt (I @ann (I @ni.eq_1 (I @ano (I @anp (I @abL.eq_1 (I @anr (I @UO.eq_1 (I @anq (I @yV.eq_1 (I @ans (I @Gc (I @Gd @ant)))))))))))))))))))))))))))))))))))))))))))))))))))))
end
end Go.LE
namespace Go.Proofs.YtnemkecffmdlnaaGreatDoor
section
def mN{p:Prop}(h:p:=by kernel_rfl):p:=h
open Go.RowKit Go.LE Go.Proofs.Tryz
def bX:prog.follows .mixedOrders=true:=mN
def va:Program.underlying prog 62=some (.slice 243):=mN
def vb:ah prog 243=some 261:=mN
def vc:ct prog 243=some ([Value.int IntKind.i64 0]++(List.replicate 256 (Value.bool false))++[Value.int IntKind.i64 0]++[Value.int IntKind.i64 0]++[Value.int IntKind.i64 0]++[Value.int IntKind.i64 0]):=mN
end
end Go.Proofs.YtnemkecffmdlnaaGreatDoor
namespace Go.LE
section
open Go.RowKit
variable{W aO :ar}{bs bl :aD}{vs:aX}{ay:dj}{P:bR}
def qx(w:ar)(ay:dj)(vs:aX):Prop:=vs=[]\/∃b o,ay=some ⟨b,o,none⟩/\∀j (h:j<vs.length),w.cell? ⟨b,o+j,none⟩=some vs[j]
def UQ(W:ar)(bs:aD)(aw n:Nat)(vs:aX):br->Prop
 |.row _ s m us=>s=aw/\m=n/\us=vs
 |.val (.slice ay m _)=>m=n/\vs.length=n*aw/\(vs=[]\/∃b o,ay=some ⟨b,o,none⟩/\b∉bs/\∀j (h:j<vs.length),W.cell? ⟨b,o+j,none⟩=some vs[j])
 |_=>False
def anw{W w:ar}{aw n:Nat}{a:br}{u:aM}(ad:cr W bs w)(hu:xG w u a)(h:UQ W bs aw n vs a):∃ay c,u=.slice ay n c/\qx w ay vs:=by
 cases a with
 |mp ks us=>exact h.elim
 |row T s m us=>
  obtain⟨rfl,rfl,rfl⟩:=h;obtain⟨aN,h⟩:=hu;rcases h with⟨rfl,rfl⟩|⟨g,cap,cur,rfl,_,hh,_,_,bP,As⟩
  ·grind [qx]
  ·refine⟨some ⟨g,0,none⟩,cap,rfl,.inr ⟨g,0,rfl,λj Y=>?_⟩⟩;rw[lM];have hW:j<m*s:=U;have:us[j]?=cur[j]?:=by grind
   simp only[World.cell?,hh]
   simp_all
 |val v=>
  cases v with
  |slice ay m c=>
   obtain⟨rfl,aN,h⟩:=h;cases hu;refine⟨ay,c,rfl,?_⟩;rcases h with h|⟨b,o,rfl,Z,J⟩
   ·exact .inl h
   ·refine .inr ⟨b,o,rfl,λj Y=>?_⟩;have:=J j Y
    grind [cr.cell]
  |_=>exact h.elim
def qv.conv{nt:Nat}{az:jN}{σ:eG}{k:Nat}{e dn:bL}(ad:σ.h k=some e)(he:∀E u fp w,e3 E u fp w e->e3 E u fp w dn)(aDS:∀j∈dn.keys,j∈e.keys):
  qv W bs nt az σ ⟨σ.n,σ.φ,bF σ.h k (some dn)⟩:=by
 rintro a w ⟨⟨E,F,iN,V,hp⟩,D,O,B,aU,bn⟩;have old:∀j x,bF σ.h k (some dn) j=some x->∃y,σ.h j=some y/\((j=k/\x=dn)\/x=y):=λj x Y=>by grind [bF]
 refine⟨⟨E,F,iN,⟨λj x Y=>?_,λj x Y=>?_,λj x Y=>?_,λi j x y lN hi Y=>?_,V.keeps⟩,hp⟩,D,O,B,aU,λj x Y=>?_⟩
 ·obtain⟨y,cG,h⟩:=old j x Y;rcases h with⟨rfl,rfl⟩|rfl
  ·rw[ad]at cG;cases cG;exact he _ _ _ _ (V.hc j e ad)
  ·exact V.hc j x cG
 ·obtain⟨y,cG,_⟩:=old j x Y;exact V.lt j y cG
 ·obtain⟨y,cG,_⟩:=old j x Y;exact V.nK j y cG
 ·obtain⟨sZ,p7,_⟩:=old i x hi;obtain⟨FM,PX,_⟩:=old j y Y;exact V.apart i j sZ FM lN p7 PX
 grind [ki]
def bT(W:ar)(S:aY)(aO:World)(bz:Nat->Prop):Prop:=∀b,b<W.heap.size->S b->aO.heap[b]?=W.heap[b]?/\bz b
theorem bT.refl(W:ar)(S:aY):bT W S W S:=by grind [bT]
theorem bT.trans{W aO s5:World}{S bz abN:Nat->Prop}(h:bT W S aO bz)(bu:bT aO bz s5 abN)(bP:W.heap.size<=aO.heap.size):bT W S s5 abN:=by grind [bT]
def Out(bs:aD):Nat->Prop:=λb=>b∉bs
def Ext.ep(h:Ext W bs aO bl):bT W (Out bs) aO (Out bl):=λb Z V=>⟨h.keeps.block b Z V,λdO=>(h.sub b dO).elim (λD=>by omega) V⟩
def cr.ep{W w:ar}(h:cr W bs w):bT W (Out bs) w (Out bs):=λb Z V=>⟨h.block b Z V,V⟩
def gd(W:ar)(S:aY)(b o:Nat)(v:aM):Prop:=S b/\W.cell? ⟨b,o,none⟩=some v
theorem gd.mono{S bz:Nat->Prop}{b o:Nat}{v:aM}(h:gd W S b o v)(V:bT W S aO bz):gd aO bz b o v:=by
 have ax:=World.block_lt_of_cell? W _ h.2;obtain⟨D,O⟩:=V b ax h.1
 grind [World.cell?_of_block,gd]
def b0(W:ar)(S:aY)(ay:dj)(vs:aX):Prop:=vs=[]\/∃b o,ay=some ⟨b,o,none⟩/\∀j (h:j<vs.length),gd W S b (o+j) vs[j]
theorem b0.mono{W aO:World}{S bz:Nat->Prop}{ay:dj}{vs:aX}(h:b0 W S ay vs)(V:bT W S aO bz):b0 aO bz ay vs:=by
 rcases h with h|⟨b,o,D,O⟩
 ·exact .inl h
 ·exact .inr ⟨b,o,D,λj Y=>(O j Y).mono V⟩
def b0.is{S:aY}(h:b0 W S ay vs):qx W ay vs:=by
 rcases h with h|⟨b,o,D,O⟩
 all_goals grind [qx,gd]
def b0.s8(h:qx W ay vs):b0 W (λ_=>True) ay vs:=by
 rcases h with h|⟨b,o,D,O⟩
 ·exact .inl h
 ·exact .inr ⟨b,o,D,λj Y=>⟨trivial,O j Y⟩⟩
def b0.out{S bz:Nat->Prop}(h:b0 W S ay vs)(V:∀b,S b->bz b):b0 W bz ay vs:=h.mono λb _ Z=>⟨rfl,V b Z⟩
def b0.eg{aw n c:Nat}(h:b0 W (Out bs) ay vs)(aN:vs.length=n*aw):UQ W bs aw n vs (.val (.slice ay n c)):=by
 refine⟨rfl,aN,?_⟩;rcases h with h|⟨b,o,D,O⟩
 ·exact .inl h
 ·by_cases au:vs=[]
  ·exact .inl au
  ·refine .inr ⟨b,o,D,(O 0 (List.length_pos_iff.2 au)).1,λj Y=>(O j Y).2⟩
def b0.take{S:aY}{vs ws:aX}(h:b0 W S ay (vs++ws)):b0 W S ay vs:=by
 rcases h with h|⟨b,o,D,O⟩
 ·simp_all [b0]
 ·refine .inr ⟨b,o,D,λj Y=>?_⟩;have:=O j (by simp;omega)
  simp_all
def fR{nt:Nat}{az:jN}{Q:og}{σ:eG}{x y:Code}(cd:eG)(D:ae P W bs nt az x (yT (λaO bl bB=>qv aO bl nt az bB cd) Q) σ)(O:ae P W bs nt az y Q cd):
  ae P W bs nt az (.seq x y) Q σ:=λa w V=>
 wp_seq (wp_mono (D a w V) λe cn M ⟨aO,bl,bB,he,z,ds⟩=>by
  cases e with
  |normal=>exact O cn M (Sat.back he (z cn M ds))
  |_=>trivial)
def D0(W:ar)(bs bl:List Nat):Nat->Prop:=λb=>b∉bl/\(W.heap.size<=b\/b∈bs)
def D0.out{b:Nat}(h:D0 W bs bl b):Out bl b:=h.1
def anx{E:dF}{F:lK}{h:ca}{k:Nat}{T:a6}{s n:Nat}{vs:List ag}(V:an W bs E F h aO)(ad:h k=some (.row T s n vs))(Z:∀b∈F k,b∉bl):
  ∃ay c,E k=.slice ay n c/\b0 aO (D0 W bs bl) ay (ba E vs)/\n<=c:=by
 obtain⟨⟨aN,h⟩,bo⟩:=V.hc k _ ad;rcases h with⟨D,rfl⟩|⟨g,cap,cur,D,_,hh,tW,_,bP,As⟩
 ·grind [b0]
 ·have aK:g∈F k:=by rw[bo,D];simp[Value.ownBlock]
  refine⟨some ⟨g,0,none⟩,cap,D,.inr ⟨g,0,rfl,λj Y=>⟨⟨Z g aK,V.nK k _ ad g aK⟩,?_⟩⟩,tW⟩;rw[lM];have hW:j<n*s:=U;have:(ba E vs)[j]?=cur[j]?:=by grind
  simp only[World.cell?,hh]
  simp_all
theorem b0.grow{S:aY}(h:b0 aO (D0 W [] bl) ay vs):b0 aO (λb=>(b<W.heap.size->S b)/\b∉bl) ay vs:=h.out λb Z=>⟨λax=>absurd (Z.2.resolve_right bq) (rG.2 ax),Z.1⟩
def nj(cs:aX):Value:=.iface 0 (.agg cs.toArray)
def UR(cs:aX)(i:Nat):Pa (nj cs) i=cs.getD i .nilIface:=by simp_all [Pa,nj]
def Grow(w:ar)(S:aY):Nat->Prop:=λb=>b<w.heap.size->S b
def PY(W:ar)(bs:aD)(Φ:List Value->World->(Nat->Prop)->Prop):List Value->Value->List Nat->World->Prop:=λ_ u fp w=>∃cs,u=nj cs/\∀AH AI,(∀b,b<W.heap.size->b∉bs->AH.heap[b]?=W.heap[b]?/\AI b)->(∀b∈fp,AH.heap[b]?=w.heap[b]?/\AI b)->Φ cs AH AI
structure US (P:bR)(f:dr) where
 pre:List br->World->(Nat->Prop)->Prop
 fV:Nat->ag
 Φ:List br->List Value->World->(Nat->Prop)->Prop
 gA:∀aj W S aO bz,bT W S aO bz -> pre aj W S->pre aj aO bz
 mono:∀aj cs W S aO bz,bT W S aO bz -> Φ aj cs W S->Φ aj cs aO bz
 IM:∀E k,den E (fV k)=den (λ_=>E k) (fV 0)
 IN:∀k,∀j∈(fV k).keys,j=k
 enters:∀args w,(callFunc f args).run P w=.ok (.enter f args) w
 ok:∀(w:ar) (S:aY) (us:aX) (aj:List br),pq w us aj->pre aj w S->Calls P f us.toArray w λe M=>∃cs,e=.returned (den (λ_=>nj cs) (fV 0))/\Φ aj cs M (Grow w S)/\cr w [] M
def Old(W:ar)(bs:aD):Nat->Prop:=λb=>b<W.heap.size/\b∉bs
def L0(κ:Nat)(pre:List br->World->(Nat->Prop)->Prop)(fV:Nat->ag)(Φ:List br->List Value->World->(Nat->Prop)->Prop)(W:ar)(bs:aD):Option (List br×List Nat)->R
 |some (aj,rs)=>⟨pre aj W (Out bs),fV (8*κ),[(8*κ,some (.obj [] (PY W bs (Φ aj))))],none,[],rs⟩
 |none=>.bad
def US.spec{f:dr}(p:US P f):Spec P f where
 aJ:=λW bs κ h args=>L0 κ p.pre p.fV p.Φ W bs (e6 h args)
 Ar:=λW bs κ E F h w K args V cj ad aB aS=>by
  rw[p.enters];cases au:e6 h args with
  |none=>rw[au]at aS;exact aS.elim
  |some q=>
   obtain⟨aj,rs⟩:=q;rw[au]at aS;have A:bT W (Out bs) w (Old W bs):=λb Z ds=>⟨V.keeps.block b Z ds,Z,ds⟩
   refine abn V cj ad (e:=.obj [] (PY W bs (p.Φ aj))) ((p.ok w (Old W bs) _ aj (IJ V au) (p.gA aj _ _ _ _ A aS)).mono λe M he=>?_) rfl rfl;obtain⟨cs,rfl,dR,hr⟩:=he;have Ci:∀b,b∈List.range' w.heap.size (M.heap.size-w.heap.size) ↔ w.heap.size<=b/\b<M.heap.size:=λb=>by rw[List.mem_range'_1];have:=hr.size;omega
   have dW:∀rO:World,(∀b∈List.range' w.heap.size (M.heap.size-w.heap.size),rO.heap[b]?=M.heap[b]?)->PY W bs (p.Φ aj) [] (nj cs) (List.range' w.heap.size (M.heap.size-w.heap.size)) rO:=by
    intro rO B;refine⟨cs,rfl,λAH AI hold ft=>p.mono aj cs M (Grow w (Old W bs)) AH AI (λb Z aK=>?_) dR⟩;by_cases IQ:b<w.heap.size
    ·obtain⟨g1,g2⟩:=aK IQ;obtain⟨g3,g4⟩:=hold b g1 g2;exact⟨by rw[g3,hr.block b IQ bq,V.keeps.block b g1 g2],g4⟩
    ·have dO := (Ci b).2 ⟨U,Z⟩;obtain⟨g3,g4⟩:=ft b dO;exact⟨by rw[g3,B b dO],g4⟩
   refine⟨_,nj cs,List.range' w.heap.size (M.heap.size-w.heap.size),rfl,λcK=>⟨⟨dW M λ_ _=>rfl,rfl⟩,dW⟩,λb Z=>(Ci b).1 Z,hr,?_⟩;simp only[L0];rw[p.IM (bF E (dV κ) (nj cs)),dV,iB]
 keys:=λW bs κ h K args cj aB aS=>by
  cases au:e6 h args with
  |none=>rw[au]at aS;exact aS.elim
  |some q=>
   obtain⟨aj,rs⟩:=q;refine⟨λk ad=>.inr ?_,λq z=>?_⟩
   ·rw[p.IN _ k ad];exact tU κ
   ·simp only[L0,l8]at z;subst z;refine⟨.inr (tU κ),λe he k ad=>?_⟩;simp only[qo]at he;subst he;cases ad
 loc:=λW bs κ h bu args aS aI=>by
  cases au:e6 h args with
  |none=>rw[au]at aS;exact aS.elim
  |some q=>obtain⟨aj,rs⟩:=q;rw[au]at aI;rw[IK au aI]
theorem anz{f:dr}(p:US P f)(W:ar)(bs:aD)(κ:Nat)(h:ca)(l:List ag):p.spec.aJ W bs κ h l=L0 κ p.pre p.fV p.Φ W bs (e6 h l):=rfl
def anA(κ:Nat)(pre:List br->World->(Nat->Prop)->Prop)(fV:Nat->ag)(Φ:List br->List Value->World->(Nat->Prop)->Prop)(W:ar)(bs:aD)(aj:List br)(rs:aD) :
  L0 κ pre fV Φ W bs (some (aj,rs))=⟨pre aj W (Out bs),fV (8*κ),[(8*κ,some (.obj [] (PY W bs (Φ aj))))],none,[],rs⟩:=rfl
def PZ(m:Nat->Src)(l:aX):mM m (l.map .v)=l.map .v:=by
 induction l with
 |nil=>rfl
 |cons x r bb=>simp[mM,gU,bb]
def vd(m:Nat->Src)(a b:List ag):mM m (a++b)=mM m a++mM m b:=by induction a<;>grind [mM]
section
variable {P:bR}{κ:Nat}{h:ca}
def abO(κ:Nat)(e:a6)(l c:Int):Option Nat->Option (List Value)->Option Nat->R
 |some aw,some zs,some by_=>⟨0<=l/\l<=c/\(by_:Int)*c<=281474976710656/\c<=9223372036854775807/\zs.length=aw/\0<aw,.ak (8*κ),[(8*κ,some (.row e aw l.toNat ((List.replicate l.toNat zs).flatten.map .v)))],none,[],[]⟩
 |_,_,_=>.bad
def abP(P:bR)(κ:Nat)(l c:Int):Option TypeDesc->R
 |some (.slice e)=>abO κ e l c (ah P e) (ct P e) (ln P e)
 |_=>.bad
theorem anB(T:a6)(k eS:IntKind)(l c:Int):FR P κ T [.v (.int k l),.v (.int eS c)]=abP P κ l c (P.underlying T):=by rfl
def Ge(ay:dj)(a aw c:Nat):Option Addr:=if c=a then ay else ay.map (·.add (a*aw))
def abQ(ay:dj)(aw c:Nat):Ge ay 0 aw c=ay:=by
 unfold Ge;split
 ·rfl
 ·cases ay<;>simp[Addr.add]
def b0.at{W:ar}{S:aY}{ay:dj}{vs:aX}{a aw c n:Nat}(h:b0 W S ay vs)(aN:vs.length=n*aw)(aE:n<=c)(aQ:a<=n):b0 W S (Ge ay a aw c) (vs.drop (a*aw)):=by
 unfold Ge;split
 ·grind [b0]
 ·rcases h with h|⟨b,o,rfl,O⟩
  ·grind [b0]
  ·refine .inr ⟨b,o+a*aw,?_,λj Y=>?_⟩
   ·simp only[FD,Addr.add,qo];simp
   grind
def abR(ay:dj)(c:Nat)(a b:Int):Option Nat->R
 |some aw=>⟨0<=a/\a<=b/\b<=c,.v (.slice (Ge ay a.toNat aw c) (b.toNat-a.toNat) (c-a.toNat)),[],none,[],[]⟩
 |none=>.bad
def P0(P:bR)(ay:dj)(c:Nat)(a b:Int):Option TypeDesc->R
 |some (.slice e)=>abR ay c a b (ah P e)
 |_=>.bad
theorem anC(T:a6)(ay:dj)(n c:Nat)(k eS:IntKind)(a b:Int):tX P T true true false [.v (.slice ay n c),.v (.int k a),.v (.int eS b)]=P0 P ay c a b (P.underlying T):=by rfl
theorem anD(T:a6)(ay:dj)(n c:Nat)(k:IntKind)(a:Int):tX P T true false false [.v (.slice ay n c),.v (.int k a)]=P0 P ay c a n (P.underlying T):=by rfl
theorem anE(T:a6)(ay:dj)(n c:Nat)(k:IntKind)(b:Int):tX P T false true false [.v (.slice ay n c),.v (.int k b)]=P0 P ay c 0 b (P.underlying T):=by rfl
end
end
section
def anF:=(I @anB (I @abP.eq_1 (I @abO.eq_1 (I @abQ (I @P0.eq_1 (I @abR.eq_1 (I @anC (I @anD (I @anE (I @anz @anA))))))))))
end
section
open Go.ChangeShapes Go.WideShapes Go.ChangeAt Go.RowKit
variable{s:ChangeSpec}
section
variable {aE9:Type}{enc:TypeId×Value->aE9}{P:bR}
def anG{f:Func}{apart fresh handsOn again:Bool}{W aO:World}{args:hE}{v:aM}{az gs:List (DataW aE9)}{before pa pv:List MemPlace}
  (ve:DataW.Whole enc P f.params.toList s.vars apart W args.toList az gs before)
  (P1:∀(b:Nat) (sp:Nat->Bool) (ak:Bool),DataW.TrodAll enc P aO b sp ak f.resultTypes.toList (v.resultList f.resultTypes.size) (s.fn aE9 (az++gs)).results [])
  (Gf:∀sp:Nat->Bool,(∀p∈before,sp p.block=true)->DataW.TrodAll enc P aO 0 sp true f.params.toList args.toList (s.fn aE9 (az++gs)).args pa)
  (abS:∀sp:Nat->Bool,(∀p∈before,sp p.block=true)->DataW.TrodVars enc P aO sp s.vars (s.fn aE9 (az++gs)).vars pv)
  (D1:before=pa++pv) (ad:W.keptBut aO (·∈before)) (UT:∀a,a.block<W.heap.size->aO.frozen? a=W.frozen? a)
  (bW:∀(j:Nat) (t:a6) (r:aM),f.resultTypes[j]?=some t->(v.resultList f.resultTypes.size)[j]?=some r->Value.okWide P aO .any 0 t r) :
  s.post enc P f apart fresh handsOn again W args v aO:=by
 have ax:=ve.lt;have hold:∀p∈before,(λb=>decide (b<W.heap.size)) p.block=true:=λp hp=>by simp_all
 refine⟨az,gs,before,[],pa,pv,ve,P1 _ _ _,Gf _ hold,abS _ hold,World.keptBut_mono (λp hp=>⟨hp,?_⟩) ad,λ_=>?_⟩
 ·simp_all
 ·obtain⟨_,_,_,_,_,bx,aE⟩:=ve;refine⟨bW,_,_,([]++pa)++pv,⟨[]++pa,pv,trodAll_append (Gf _ (λ_ _=>rfl)) (P1 _ _ _),abS _ (λ_ _=>rfl),rfl,?_,?_⟩,?_⟩
  ·intro b off hp;have kl:MemPlace.cell b off∈before:=by simp_all
   rw[UT _ (ax _ kl)];exact bx b off kl
  all_goals simp_all
def abT{W aO:World}:∀{ah:List TypeId} {vs:aX} {az:List (DataW aE9)} {ps:List MemPlace},DataW.TrodAll enc P W 0 (λ_=>true) true ah vs az ps->(∀p∈ps,W.sameAt aO p)->DataW.TrodAll enc P aO 0 (λ_=>true) true ah vs az ps
 |[],[],[],_,h,_=>h
 |t::ah,v::vs,d::az,ps,⟨p,q,D,O,e⟩,V=>by subst e;obtain⟨n,aE⟩:=D;exact⟨p,q,⟨n,DataW.trod_carry n _ _ _ aE (λx aB=>V x (xn _ aB))⟩,abT O (λx aB=>V x (sh _ aB)),rfl⟩
def anH{f:Func}{tb:a6}(aN:laidOutB P=true)(hm:mapsRowed P=true)
  (aW:((List.range P.types.size).all λt=>match P.underlying t with|some (.slice e)=>decide (0<P.cellsOf e)|_=>true)=true)
  (bJ:f.params.all (λt=>decide (t<P.types.size))=true) (abU:f.resultTypes=#[tb]) (Z:P.underlying tb=some .bool) (p3:s.vars=[]) {W aO:World} {args:hE} {az gs:List (DataW aE9)} {before:List MemPlace}
  (ve:DataW.Whole enc P f.params.toList s.vars false W args.toList az gs before) (P1:(s.fn aE9 (az++gs)).results=[.lit (.bool true)]) (Gf:(s.fn aE9 (az++gs)).args=az) (au:(s.fn aE9 (az++gs)).vars=[])
  (ad:cr W [] aO):s.post enc P f false true false false W args (.bool true) aO:=by
 have dO := ad.below;have P2 := ve;obtain⟨p,q,cb,AD,rfl,UT,su⟩:=ve;have ax:=P2.lt;have z:q=[]:=by grind [trodVars_none]
 subst z;refine anG (pa:=p) (pv:=[]) P2 (λ_ _ _=>?_) (λsp LB=>?_) (λsp LB=>?_) rfl (dO.frame _) (λPO ax=>dO.frozen ax) ?_
 ·rw[abU,P1];exact trodAll_cons_mk (shut_bool Z _) trodAll_mk0
 ·rw[Gf];refine DataW.TrodAll.respare (kids_rows aN hm) (slices_full_of P aW) (λt aV=>?_) (abT cb λx aB=>dO.same (ax x (aC aB))) (λx aB=>LB x (aC aB));rw[Array.all_eq_true]at bJ;obtain⟨i,hi,he⟩:=Array.mem_iff_getElem.1 (Array.mem_toList_iff.1 aV)
  grind
 ·rw[p3,au];rfl
 ·exact ok_one abU rfl (okWide_bool_mk Z _)
end
end
section
open Go.RowKit
mutual
def kV(k:Nat)(u:aM):ag->ag
 |.v x=>.v x
 |.own j o=>bif j==k then .v (p0 (base u) o) else .own j o
 |.ak j=>bif j==k then .v (au u) else .ak j
 |.agg l=>.agg (nk k u l)
 |.iK l=>.iK (nk k u l)
 |.jL t x=>.jL t (kV k u x)
 |.part j i=>bif j==k then .v (au (Pa u i)) else .part j i
 |.fn f a c=>.fn f (nk k u a) (nk k u c)
def nk(k:Nat)(u:aM):List ag->List ag
 |[]=>[]
 |x::r=>kV k u x::nk k u r
end
mutual
theorem P3{E:dF}{k:Nat}:∀x:ag,den E (kV k (E k) x)=den E x
 |.v x=>rfl
 |.own j o=>by
  simp only[kV];by_cases Y:j=k
  ·subst Y;simp[den]
  ·have:(j==k)=false:=by simp[Y]
   simp[this]
 |.ak j=>by
  simp only[kV];by_cases Y:j=k
  ·subst Y;simp[den]
  ·have:(j==k)=false:=by simp[Y]
   simp[this]
 |.agg l=>by simp only[kV,den];rw[D2 l]
 |.iK l=>by simp only[kV,den];rw[D2 l]
 |.jL t x=>by simp only[kV,den];rw[P3 x]
 |.part j i=>by
  simp only[kV];by_cases Y:j=k
  ·subst Y;simp[den]
  ·have:(j==k)=false:=by simp[Y]
   simp[this]
 |.fn f a c=>by simp only[kV,den];rw[D2 a,D2 c]
theorem D2{E:dF}{k:Nat}:∀l:List ag,ba E (nk k (E k) l)=ba E l
 |[]=>rfl
 |x::r=>by simp only[nk,ba];rw[P3 x,D2 r]
end
mutual
theorem L1{k:Nat}{u:aM}{j:Nat}:∀x:ag,j∈(kV k u x).keys->j∈x.keys/\j≠k
 |.v x,h=>by simp[kV,ag.keys]at h
 |.own i o,h=>by
  simp only[kV]at h;by_cases hi:i=k
  ·subst hi;simp[ag.keys]at h
  ·have:(i==k)=false:=by simp[hi]
   simp only[this,BN,ag.keys,l8]at h ⊢;exact⟨h,h▸hi⟩
 |.ak i,h=>by
  simp only[kV]at h;by_cases hi:i=k
  ·subst hi;simp[ag.keys]at h
  ·have:(i==k)=false:=by simp[hi]
   simp only[this,BN,ag.keys,l8]at h ⊢;exact⟨h,h▸hi⟩
 |.agg l,h=>by simp only[kV,ag.keys]at h ⊢;exact yY l h
 |.iK l,h=>by simp only[kV,ag.keys]at h ⊢;exact yY l h
 |.jL t x,h=>by simp only[kV,ag.keys]at h ⊢;exact L1 x h
 |.part i o,h=>by
  simp only[kV]at h;by_cases hi:i=k
  ·subst hi;simp[ag.keys]at h
  ·have:(i==k)=false:=by simp[hi]
   simp only[this,BN,ag.keys,l8]at h ⊢;exact⟨h,h▸hi⟩
 |.fn f a c,h=>by
  simp only[kV,ag.keys,hq]at h ⊢;rcases h with h|h
  ·exact⟨.inl (yY a h).1,(yY a h).2⟩
  ·exact⟨.inr (yY c h).1,(yY c h).2⟩
theorem yY{k:Nat}{u:aM}{j:Nat}:∀l:List ag,j∈cP (nk k u l)->j∈cP l/\j≠k
 |[],h=>by simp[nk,cP]at h
 |x::r,h=>by
  simp only[nk,cP,hq]at h ⊢;rcases h with h|h
  ·exact⟨.inl (L1 x h).1,(L1 x h).2⟩
  ·exact⟨.inr (yY r h).1,(yY r h).2⟩
end
def Cj(k:Nat)(u:aM):eJ->eJ
 |.is x=>.is (kV k u x)
 |.oL b x=>.oL b (kV k u x)
 |.any=>.any
def lS(k:Nat)(u:aM):bL->bL
 |.cells T vs=>.cells T (nk k u vs)
 |.row T s n vs=>.row T s n (nk k u vs)
 |.mp ks vs=>.mp ks (nk k u vs)
 |.obj d R=>.obj d R
def xH(k:Nat)(u:aM)(φ:Fr):Fr:=λt=>Cj k u (φ t)
def vf(k:Nat)(u:aM)(h:ca):ca:=λj=>bif j==k then none else(h j).map (lS k u)
def anI{E:dF}{k:Nat}{f:eJ}{u:aM}(h:fits E f u):fits E (Cj k (E k) f) u:=by
 cases f with
 |is x=>grind [P3,Cj,fits]
 |oL b x=>grind [P3,Cj,fits]
 |any=>trivial
def anJ{k:Nat}{u:aM}{f:eJ}{j:Nat}(h:j∈(Cj k u f).keys):j∈f.keys/\j≠k:=by
 cases f with
 |is x=>exact L1 x h
 |oL b x=>grind [L1,eJ.keys,Cj]
 |any=>cases h
def anK{E:dF}{k:Nat}{e:bL}{u:aM}{fp:aD}{w:ar}(h:e3 E u fp w e):e3 E u fp w (lS k (E k) e):=by
 cases e with
 |cells T vs=>grind [D2,lS,e3]
 |row T s n vs=>grind [D2,lS,e3]
 |mp ks vs=>grind [D2,lS,e3]
 |obj d R=>exact h
def anL{k:Nat}{u:aM}{e:bL}{j:Nat}(h:j∈(lS k u e).keys):j∈e.keys/\j≠k:=by
 cases e with
 |cells T vs=>exact yY vs h
 |row T s n vs=>exact yY vs h
 |mp ks vs=>exact yY vs h
 |obj d R=>cases h
def IS{k:Nat}{u:aM}{h:ca}{j:Nat}{e:bL}(hh:vf k u h j=some e):j≠k/\∃cv,h j=some cv/\e=lS k u cv:=by
 unfold vf at hh;by_cases Y:j=k
 ·simp_all
 ·have:(j==k)=false:=by simp[Y]
  rw[this,BN,ph]at hh
  grind
def Sat.L2{W:ar}{bs:aD}{nt:Nat}{az:jN}{σ:eG}{a:Act}{w:ar}(k:Nat)(lp:Sat W bs nt az σ a w) :
  ∃E F bl,Ext W bs w bl/\an W bs E F σ.h w/\(∀e,σ.h k=some e->∀b∈F k,b∉bl)/\Sat w bl nt az ⟨σ.n,xH k (E k) σ.φ,vf k (E k) σ.h⟩ a w:=by
 classical
 obtain⟨⟨E,F,iN,V,hp⟩,bP,rM,DU,B2,xy⟩:=lp;have Ci:∃bl:List Nat,∀b,b∈bl ↔ ∃j e,j≠k/\σ.h j=some e/\b∈F j:=by
  refine⟨(List.range (8*σ.n)).flatMap λj=>if j=k\/σ.h j=none then [] else F j,λb=>?_⟩;rw[sj];constructor
  ·rintro⟨j,_,Z⟩;split at Z
   ·cases Z
   ·rename_i aE;have D:j≠k:=λe=>aE (.inl e)
    have O:σ.h j≠none:=λe=>aE (.inr e)
    obtain⟨e,he⟩:=Option.ne_none_iff_exists'.1 O
    grind
  grind [ki]
 obtain⟨bl,Ci⟩:=Ci;have aB:Ext W bs w bl := ⟨V.keeps,λb Z=>by
  obtain⟨j,e,_,he,iu⟩:=(Ci b).1 Z
  exact V.nK j e he b iu⟩
 refine⟨E,F,bl,aB,V,λe he b Z dO => ?_,?_⟩
 ·obtain⟨j,bN,Y,anM,iu⟩:=(Ci b).1 dO;exact V.apart k j e bN (Ne.symm Y) he anM b Z iu
 ·refine⟨⟨E,F,λt=>anI (iN t),⟨λj e he=>?_,λj e he b Z=>?_,λj e he b Z=>?_,λi j e dn lN hi Y b Z=>?_,cr.refl w _⟩,hp⟩,bP,rM,DU,λt j Y=>B2 t j (anJ Y).1,λj e he=>?_⟩
  ·obtain⟨Y,cv,D,rfl⟩:=IS he;exact anK (V.hc j cv D)
  ·obtain⟨Y,cv,D,rfl⟩:=IS he;exact V.lt j cv D b Z
  ·obtain⟨Y,cv,D,rfl⟩:=IS he;grind
  ·obtain⟨_,cv,D,rfl⟩:=IS hi;obtain⟨_,bg,O,rfl⟩:=IS Y;exact V.apart i j cv bg lN D O b Z
  ·obtain⟨Y,cv,D,rfl⟩:=IS he;exact⟨(xy j cv D).1,λi hi=>(xy j cv D).2 i (anL hi).1⟩
def s9(nt:Nat)(az:jN)(aE5:World->List Nat->eG->Prop):Prop:=∀W bs σ,(∀a w,Sat W bs nt az σ a w->∃aO bl cd,Ext W bs aO bl/\aE5 aO bl cd/\Sat aO bl nt az cd a w)->aE5 W bs σ
def ae.Gg{P:bR}{nt:Nat}{az:jN}{c:Code}{Q:og}:s9 nt az (λW bs σ=>ae P W bs nt az c Q σ):=λW bs σ h a w V=>by obtain⟨aO,bl,cd,aB,q8,ds⟩:=h a w V;exact wp_mono (q8 a w ds) λdn cn M xz=>Ut aB xz
def eZ(nt:Nat)(az:jN)(W:ar)(bs:aD)(σ:eG)(Q:World->List Nat->eG->Prop):Prop:=∀a w,Sat W bs nt az σ a w->∃aO bl cd,Ext W bs aO bl/\Q aO bl cd/\Sat aO bl nt az cd a w
def eZ.Gg{nt:Nat}{az:jN}{Q:World->List Nat->eG->Prop}:s9 nt az (λW bs σ=>eZ nt az W bs σ Q):=λW bs σ h a w V=>by
 obtain⟨aO,bl,cd,aB,q8,ds⟩:=h a w V;obtain⟨cL,c7,Ck,cq,z,rP⟩:=q8 a w ds
 grind [Ext.trans]
def eZ.here{nt:Nat}{az:jN}{Q:World->List Nat->eG->Prop}{W:ar}{bs:aD}{σ:eG}(h:Q W bs σ):eZ nt az W bs σ Q:=λa w V=>⟨W,bs,σ,Ext.refl W bs,h,V⟩
def abV(nt:Nat)(az:jN)(Q:og):og
 |.normal,W,bs,σ=>eZ nt az W bs σ (Q .normal)
 |e,W,bs,σ=>Q e W bs σ
def pw{nt:Nat}{az:jN}{Q:og}{W:ar}{bs:aD}{σ:eG}(h:eZ nt az W bs σ (Q .normal)):abV nt az Q .normal W bs σ:=h
def ae.more{P:bR}{W:ar}{bs:aD}{nt:Nat}{az:jN}{c:Code}{Q:og}{σ:eG}(h:ae P W bs nt az c (abV nt az Q) σ):ae P W bs nt az c Q σ:=λa w V=>
 wp_mono (h a w V) λe cn M ⟨aO,bl,cd,he,z,ds⟩=>by
  cases e with
  |normal=>
   obtain⟨cL,c7,Ck,cq,oh,rP⟩:=z cn M ds
   grind [Ext.trans]
  |_=>trivial
section
variable {nt:Nat}{az:jN}{aE5:World->List Nat->eG->Prop}{W:ar}{bs:aD}{σ:eG}
def s9.L2(q8:s9 nt az aE5)(k:Nat)
  (h:∀aO bl E F,Ext W bs aO bl -> an W bs E F σ.h aO -> (∀e,σ.h k=some e->∀b∈F k,b∉bl)->aE5 aO bl ⟨σ.n,xH k (E k) σ.φ,vf k (E k) σ.h⟩):aE5 W bs σ:=
 q8 W bs σ λa w V=>by
  obtain⟨E,F,bl,aB,hh,Z,ds⟩:=V.L2 k
  grind
end
structure lr where
 Φ:List Value->World->(Nat->Prop)->Prop
 mono:∀{cs:aX} {W:ar} {S:aY} {aO:World} {bz:Nat->Prop},bT W S aO bz -> Φ cs W S->Φ cs aO bz
def bw(G:aY)(bs:aD):Nat->Prop:=λb=>G b/\b∉bs
def bw.out{G:aY}{bs:aD}{b:Nat}(h:bw G bs b):Out bs b:=h.2
def oi(G:aY)(W:ar)(bs:aD):Prop:=∀b,W.heap.size<=b\/b∈bs->G b
def oi.ext{G:aY}{W aO:World}{bs bl:List Nat}(h:oi G W bs)(aB:Ext W bs aO bl):oi G aO bl := λb Z=>Z.elim (λD=>h b (.inl (xp aB.keeps.size D))) λD=>h b (aB.sub b D)
def oi.true(W:ar)(bs:aD):oi (λ_=>True) W bs:=λ_ _=>trivial
theorem Ext.cc{G:aY}{W aO:World}{bs bl:List Nat}(h:Ext W bs aO bl):bT W (bw G bs) aO (bw G bl):=λb Z V=>⟨h.keeps.block b Z V.2,V.1,λdO=>(h.sub b dO).elim (λD=>absurd D (rG.2 Z)) V.2⟩
def wv(G:aY)(W:ar)(bs:aD)(Φ:lr):List Value->Value->List Nat->World->Prop:=λ_ u fp w=>(∀b∈fp,G b)/\∃cs,u=nj cs/\∀AH AI,(∀b,b<W.heap.size->bw G bs b->AH.heap[b]?=W.heap[b]?/\AI b)->(∀b∈fp,AH.heap[b]?=w.heap[b]?/\AI b)->Φ.Φ cs AH AI
section
variable {nt:Nat}{az:jN}{aE5:World->List Nat->eG->Prop}{W:ar}{bs:aD}{σ:eG}
def s9.dt(q8:s9 nt az aE5)(k:Nat){G:aY}{mg:ar}{qy:aD}{Φ:lr}(ad:σ.h k=some (.obj [] (wv G mg qy Φ)))(A:bT mg (bw G qy) W (bw G bs))
  (h:∀aO bl cs,Ext W bs aO bl -> Φ.Φ cs aO (bw G bl)->aE5 aO bl ⟨σ.n,xH k (nj cs) σ.φ,vf k (nj cs) σ.h⟩):aE5 W bs σ:=by
 refine q8.L2 k λaO bl E F aB V Z=>?_
 obtain⟨⟨⟨ta,cs,D,O⟩,_⟩,_⟩:=V.hc k _ ad;rw[D];refine h aO bl cs aB (O aO (bw G bl) (λb ax aI=>?_) λb qs=>⟨rfl,ta b qs,Z _ ad b qs⟩);obtain⟨g1,g2⟩:=A b ax aI;have anN:b<W.heap.size:=by grind
 obtain⟨g3,g4⟩:=aB.cc b anN g2
 simp_all
def s9.jt(q8:s9 nt az aE5)(k:Nat){T:a6}{vs:List ag}{us:aX}(ad:σ.h k=some (.cells T vs))(au:∀E,ba E vs=us)
  (h:∀aO bl b,Ext W bs aO bl -> b∉bl -> (W.heap.size<=b\/b∈bs)->aO.heap[b]?=some (.cells us.toArray T (0,0))->aE5 aO bl ⟨σ.n,xH k (.pointer (some ⟨b,0,none⟩)) σ.φ,vf k (.pointer (some ⟨b,0,none⟩)) σ.h⟩):aE5 W bs σ:=by
 refine q8.L2 k λaO bl E F aB V Z=>?_
 obtain⟨b,D,O,B⟩:=V.hc k _ ad;rw[D];have abW:b∈F k:=by rw[O];simp
 exact h aO bl b aB (Z _ ad b abW) (V.nK k _ ad b abW) (by rw[B,au E])
def s9.rQ(q8:s9 nt az aE5)(k:Nat){T:a6}{s n:Nat}{vs:List ag}{us:aX}(ad:σ.h k=some (.row T s n vs))(au:∀E,ba E vs=us)
  (h:∀aO bl ay fE,Ext W bs aO bl -> b0 aO (D0 W bs bl) ay us->n<=fE -> aE5 aO bl ⟨σ.n,xH k (.slice ay n fE) σ.φ,vf k (.slice ay n fE) σ.h⟩):aE5 W bs σ:=by
 refine q8.L2 k λaO bl E F aB V Z=>?_
 obtain⟨ay,fE,D,O,B⟩:=anx V ad λb qs=>Z _ ad b qs
 simp_all
end
section
variable {P:bR}{W:ar}{bs:aD}{nt:Nat}{az:jN}{c:Code}{Q:og}{σ:eG}
def ae.dt(k:Nat){G:aY}{mg:ar}{qy:aD}{Φ:lr}(ad:σ.h k=some (.obj [] (wv G mg qy Φ)))(A:bT mg (bw G qy) W (bw G bs))
  (h:∀aO bl cs,Ext W bs aO bl -> Φ.Φ cs aO (bw G bl)->ae P aO bl nt az c Q ⟨σ.n,xH k (nj cs) σ.φ,vf k (nj cs) σ.h⟩):ae P W bs nt az c Q σ:=
 s9.dt ae.Gg k ad A h
def ae.jt(k:Nat){T:a6}{vs:List ag}{us:aX}(ad:σ.h k=some (.cells T vs))(au:∀E,ba E vs=us)
  (h:∀aO bl b,Ext W bs aO bl -> b∉bl -> (W.heap.size<=b\/b∈bs)->aO.heap[b]?=some (.cells us.toArray T (0,0))->ae P aO bl nt az c Q ⟨σ.n,xH k (.pointer (some ⟨b,0,none⟩)) σ.φ,vf k (.pointer (some ⟨b,0,none⟩)) σ.h⟩):ae P W bs nt az c Q σ:=
 s9.jt ae.Gg k ad au h
def ae.rQ(k:Nat){T:a6}{s n:Nat}{vs:List ag}{us:aX}(ad:σ.h k=some (.row T s n vs))(au:∀E,ba E vs=us)
  (h:∀aO bl ay fE,Ext W bs aO bl -> b0 aO (D0 W bs bl) ay us->n<=fE -> ae P aO bl nt az c Q ⟨σ.n,xH k (.slice ay n fE) σ.φ,vf k (.slice ay n fE) σ.h⟩):ae P W bs nt az c Q σ:=
 s9.rQ ae.Gg k ad au h
variable {R:World->List Nat->eG->Prop}
def eZ.dt(k:Nat){G:aY}{mg:ar}{qy:aD}{Φ:lr}(ad:σ.h k=some (.obj [] (wv G mg qy Φ)))(A:bT mg (bw G qy) W (bw G bs))
  (h:∀aO bl cs,Ext W bs aO bl -> Φ.Φ cs aO (bw G bl)->eZ nt az aO bl ⟨σ.n,xH k (nj cs) σ.φ,vf k (nj cs) σ.h⟩ R):eZ nt az W bs σ R:=
 s9.dt eZ.Gg k ad A h
def eZ.jt(k:Nat){T:a6}{vs:List ag}{us:aX}(ad:σ.h k=some (.cells T vs))(au:∀E,ba E vs=us)
  (h:∀aO bl b,Ext W bs aO bl -> b∉bl -> (W.heap.size<=b\/b∈bs)->aO.heap[b]?=some (.cells us.toArray T (0,0))->eZ nt az aO bl ⟨σ.n,xH k (.pointer (some ⟨b,0,none⟩)) σ.φ,vf k (.pointer (some ⟨b,0,none⟩)) σ.h⟩ R):eZ nt az W bs σ R:=
 s9.jt eZ.Gg k ad au h
def eZ.rQ(k:Nat){T:a6}{s n:Nat}{vs:List ag}{us:aX}(ad:σ.h k=some (.row T s n vs))(au:∀E,ba E vs=us)
  (h:∀aO bl ay fE,Ext W bs aO bl -> b0 aO (D0 W bs bl) ay us->n<=fE -> eZ nt az aO bl ⟨σ.n,xH k (.slice ay n fE) σ.φ,vf k (.slice ay n fE) σ.h⟩ R):eZ nt az W bs σ R:=
 s9.rQ eZ.Gg k ad au h
end
def cell_of{W:ar}{b:Nat}{us:aX}{T:a6}(h:W.heap[b]?=some (.cells us.toArray T (0,0)))(j:Nat)(Y:j<us.length):W.cell? ⟨b,j,none⟩=some us[j]:=by simp only[World.cell?,h];simp
def rR(k:Nat)(u:aM)(l:aX):nk k u (l.map .v)=l.map .v:=by
 induction l with
 |nil=>rfl
 |cons x r bb=>simp[nk,kV,bb]
def anO(k:Nat)(u:aM)(a b:List ag):nk k u (a++b)=nk k u a++nk k u b:=by induction a<;>grind [nk]
theorem anP(k:IntKind)(n:Int):au (.int k n)=.int k n:=rfl
theorem anQ(b:Bool):au (.bool b)=.bool b:=rfl
theorem anR(s:ao):au (.string s)=.string s:=rfl
theorem anS(f:Fn)(a c:hE):au (.func f a c)=.func f a c:=rfl
theorem anT(ay:dj)(n c:Nat):au (.slice ay n c)=.slice ay n c:=rfl
theorem anU(a:dj):au (.pointer a)=.pointer a:=rfl
theorem anV(t:a6)(x:aM):au (.iface t x)=.iface t x:=rfl
def anW:=I @xH.eq_1 <| I @vf.eq_1 <| I @Cj.eq_1 <| I @Cj.eq_2 <| I @Cj.eq_3 <| I @lS.eq_1 <| I @lS.eq_2 <| I @lS.eq_4 <| I @kV.eq_1 <| I @kV.eq_2 <| I @kV.eq_3 <| I @kV.eq_7 <| I @kV.eq_4 <| I @kV.eq_5 <| I @kV.eq_6 <| I @kV.eq_8 <| I @nk.eq_1 <| I @nk.eq_2 <| I @rR <| I @anO <| I @anP <| I @anQ <| I @anR <| I @anS <| I @anT <| I @anU <| I @anV <| I @base.eq_1 <| I @base.eq_2 <| I @p0.eq_1 @UR
end
section
open Go.RowKit
variable{k:Nat}{fs:List br}{rs:aD}(cs:aX)
def rS:List Value->List br->List Nat
 |u::us,a::aj=>DY u a++rS us aj
 |_,_=>[]
def partAt(w:ar)(u:aM)(us xs:aX)(fp:aD)(T:a6)(fs:List br):Prop:=∃b,u=.pointer (some ⟨b,0,none⟩)/\w.heap[b]?=some (.cells (us++xs).toArray T (0,0))/\pq w us fs/\fp=b::rS us fs/\fp.Nodup
abbrev IT (w:ar)(u:aM)(us:aX):=partAt w u us []
def eH(w:ar)(u:aM)(fp:aD)(T:a6)(fs:List br):Prop:=∃us,IT w u us fp T fs
def L3(w:ar)(u:aM)(fp:aD)(T:a6)(fs:List br)(xs:aX):Prop:=∃us,partAt w u us xs fp T fs
section
variable {P:bR}{W:ar}{bs:aD}{κ:Nat}{E:dF}{F:lK}{h:Nat->Option bL}{w M:World}{K:aY}
theorem P4:∀{l:List ag} {aj:List br} {r:aD},e6 h l=some (aj,r)->∀k∈r,∃e,h k=some e/\∀d R,e≠.obj d R
 |[],_,_,au=>by grind [e6]
 |x::l,_,_,au=>by
  obtain⟨a,yX,bs,AA,D,O,rfl,rfl⟩:=LX au;intro j Y;rcases hq.1 Y with Y|Y
  ·rcases II D with⟨rfl,_⟩|⟨k,e,rfl,rfl,ad,eL,_⟩
   all_goals simp_all
  ·exact P4 O j Y
theorem abX(V:an W bs E F h w):∀{l:List ag} {aj:List br} {r:aD},e6 h l=some (aj,r)->rS (ba E l) aj=r.flatMap F
 |[],_,_,au=>by cases au;rfl
 |x::l,_,_,au=>by
  obtain⟨a,yX,bs,AA,D,O,rfl,rfl⟩:=LX au;have g1:=abX V O;rcases II D with⟨rfl,⟨v,rfl,_⟩,_⟩|⟨k,e,rfl,rfl,ad,eL,hi⟩
  ·exact g1
  ·have he:=V.hc k e ad
   grind [qq,yN,ba,rS,den]
def anX{u:aM}{fp:aD}{e:bL}(aZ:∀d R,e≠.obj d R)(h:e3 E u fp w e):fp.Nodup:=by
 cases e with
 |cells T vs=>grind [e3]
 |row T s n vs=>grind [e3]
 |mp ks vs=>grind [e3]
 |obj d R=>simp_all
theorem abY(V:an W bs E F h w):∀{ks:aD},ks.Nodup->(∀k∈ks,∃e,h k=some e/\∀d R,e≠.obj d R)->(ks.flatMap F).Nodup
 |[],_,_=>by simp
 |k::r,aE,he=>by
  rw[OT,Tu];obtain⟨e,D,O⟩:=he k bq;refine⟨anX O (V.hc k e D),abY V (DA.1 aE).2 (λj Y=>he j (by simp[Y])),λb Z c J aas=>?_⟩;subst aas;obtain⟨j,Y,iu⟩:=sj.1 J;obtain⟨bN,B,_⟩:=he j (by simp[Y])
  exact V.apart k j e bN (λdn=>(DA.1 aE).1 (dn▸Y)) D B b Z iu
theorem UU{T:a6}{us vs:List ag}(ad:h k=some (.cells T us))(au:e6 h vs=some (fs,rs)):∀j∈k::rs,∃e,h j=some e/\∀d R,e≠.obj d R:=λj Y=>by
 rcases gG.1 Y with rfl|Y
 ·simp_all
 grind [P4]
def abZ(V:an W bs E F h w){T:a6}{vs ys:List ag}(ad:h k=some (.cells T (vs++ys)))(au:e6 h vs=some (fs,rs))(aE:(k::rs).Nodup):
  partAt w (E k) (ba E vs) (ba E ys) ((k::rs).flatMap F) T fs:=by
 obtain⟨b,D,O,B⟩:=V.hc k _ ad
 grind [xq,IJ,abY,UU,abX,partAt]
def anY(V:an W bs E F h w){T:a6}{vs ys:List ag}(ad:h k=some (.cells T (vs++ys)))(au:e6 h vs=some (fs,rs))(H:partAt M (E k) (ba E vs) (ba E ys) ((k::rs).flatMap F) T fs):
  ∀j∈k::rs,∀e,h j=some e->e3 E (E j) (F j) M e:=by
 obtain⟨b,D,O,_⟩:=V.hc k _ ad;obtain⟨p6,g1,g2,g3,_⟩:=H;have rows:∀{l:List ag} {aj:List br} {r:aD},e6 h l=some (aj,r)->pq M (ba E l) aj->∀k∈r,∀e,h k=some e->e3 E (E k) (F k) M e:=by
  intro l
  induction l with
  |nil=>grind [e6]
  |cons x l bb=>
   intro _ _ au aQ;obtain⟨a,yX,bs,AA,D,O,rfl,rfl⟩:=LX au;intro k ad e he;rcases hq.1 ad with ad|ad
   ·rcases II D with⟨rfl,_⟩|⟨eS,dn,rfl,rfl,e4,_,hi⟩
    ·cases ad
    ·obtain rfl:=l8.1 ad;rw[e4]at he;cases he;have hold:=V.hc k e e4;have:=aQ.1
     grind [qq,yN,den]
   grind [ba,pq]
 intro j Y e he
 grind [xq,e3]
inductive hZ where
 |eg (a:br)
 |D3 (T:a6) (s n m:Nat)
def hZ.inst:hZ->br
 |.eg a=>a
 |.D3 T s n _=>.row T s n cs
def px(cs:aX)(fx:List hZ):List br:=fx.map (hZ.inst cs)
def hZ.fit:hZ->Prop
 |.eg _=>True
 |.D3 _ _ _ m=>cs.length=m
def AJ(K m:Nat):List ag:=(List.range m).map (.part K)
def hZ.cell(k:Nat):hZ->ag
 |.eg (.val v)=>.v v
 |_=>.ak k
def hZ.hc(K:Nat):hZ->Option bL
 |.eg (.val _)=>none
 |.eg (.row T s n vs)=>some (.row T s n (vs.map .v))
 |.eg (.mp ks vs)=>some (.mp ks (vs.map .v))
 |.D3 T s n m=>some (.row T s n (AJ K m))
def oM:Nat->List hZ->List ag
 |_,[]=>[]
 |k,x::r=>x.cell k::oM (k+1) r
def ab0(k:Nat)(l:List (Nat×bL)):Option bL->List (Nat×bL)
 |some e=>(k,e)::l
 |none=>l
def j6(K:Nat):Nat->List hZ->List (Nat×bL)
 |_,[]=>[]
 |k,x::r=>ab0 k (j6 K (k+1) r) (x.hc K)
abbrev Gh (k:Nat)(fs:List br):List ag:=oM k (fs.map .eg)
abbrev Gi (k:Nat)(fs:List br):List (Nat×bL):=j6 0 k (fs.map .eg)
def Fits(cs:aX)(fx:List hZ):Prop:=(∀x∈fx,x.fit cs)/\∀c∈cs,au c=c
abbrev IU (cs:aX)(fx:List hZ):Prop:=(∀x∈fx,∃a,x=.eg a)\/Fits cs fx
def tc(l:List (Nat×bL)):List (Nat×Option bL):=l.map λp=>(p.1,some p.2)
def vg(rs:aD):List (Nat×Option bL):=rs.map λj=>(j,none)
theorem ab1{cs:aX}(h:∀c∈cs,au c=c):(List.range cs.length).map (λi=>au (cs.getD i .nilIface))=cs:=by
 apply Tx
 all_goals simp_all
theorem anZ{K:Nat}{cs:aX}(aZ:E K=nj cs)(h:∀c∈cs,au c=c):ba E (AJ K cs.length)=cs:=by rw[q0,AJ,DC];simp only[Fz,den,aZ,UR,ab1 h]
def an0{K m:Nat}:∀j∈cP (AJ K m),j=K:=λj Y=>by
 obtain⟨x,aB,Y⟩:=sn.1 Y
 grind [AJ,ag.keys]
def hZ.cases(K k:Nat)(cs:aX)(x:hZ):(∃v,x=.eg (.val v))\/∃e,x.hc K=some e/\x.cell k=.ak k/\(∀j∈e.keys,j=K/\∀a,x≠.eg a) /\
  ∀E u w,((∃a,x=.eg a)\/x.fit cs/\E K=nj cs/\∀c∈cs,au c=c)->xG w u (x.inst cs)->e3 E u (DY u (x.inst cs)) w e:=by
 match x with
 |.eg (.val v)=>simp
 |.eg (.row T s n vs)=>exact .inr ⟨_,rfl,rfl,by simp[bL.keys,so],λE u w _ h=>⟨by rw[gr];exact h,rfl⟩⟩
 |.eg (.mp ks vs)=>exact .inr ⟨_,rfl,rfl,by simp[bL.keys,so],λE u w _ h=>PU.2 ⟨by rw[gr];exact h,rfl⟩⟩
 |.D3 T s n m=>
  refine .inr ⟨_,rfl,rfl,λj Y=>⟨an0 j Y,bq⟩,λE u w J h=>?_⟩;obtain⟨rfl,D,O⟩:=J.resolve_left bq
  grind [anZ,e3,DY,inst,xG]
def low:Nat->List hZ->Prop
 |_,[]=>True
 |0,x::r=>match x,r with
  |.eg (.val _),[]=>True
  |_,_=>False
 |n+1,_::r=>low n r
theorem ab2(n:Nat):low n []=True:=by grind [low]
theorem an1(n:Nat)(x:hZ)(r:List hZ):low (n+1) (x::r)=low n r:=rfl
def UW{x:hZ}{r:List hZ}(h:low 0 (x::r)):∃v,x=.eg (.val v)/\r=[]:=by
 match x,r,h with
 |.eg (.val v),[],_=>simp
def UX:∀{n:Nat} {fx:List hZ},fx.length<=n->low n fx
 |n,[],_=>by grind [ab2]
 |n+1,x::r,h=>UX (n:=n) (fx:=r) (aC h)
def Gj{K:Nat}:∀{k:Nat} {fx:List hZ},∀p∈j6 K k fx,k<=p.1/\(∀n,low n fx->p.1<k+n)/\∀j∈p.2.keys,j=K/\∃x∈fx,∀a,x≠.eg a
 |_,[],p,hp=>by cases hp
 |k,x::r,p,hp=>by
  rw[j6]at hp;have bb:=Gj (K:=K) (k:=k+1) (fx:=r) p;have step:p∈j6 K (k+1) r->k<=p.1/\(∀n,low n (x::r)->p.1<k+n)/\∀j∈p.2.keys,j=K/\∃y∈x::r,∀a,y≠.eg a:=λhp=>by
   obtain⟨D,O,B⟩:=bb hp;refine⟨U,λn aE=>?_,λj Y=>⟨(B j Y).1,by grind⟩⟩;cases n with
   |zero=>obtain⟨v,rfl,rfl⟩:=UW aE;cases hp
   |succ n=>grind [low]
  rcases x.cases K k [] with⟨v,rfl⟩|⟨e,D,_,B,_⟩
  ·exact step hp
  ·rw[D]at hp;rcases gG.1 hp with rfl|hp
   ·refine⟨eo _,λn aE=>?_,λj Y=>⟨(B j Y).1,x,bq,(B j Y).2⟩⟩;cases n with
    |zero=>obtain⟨v,rfl,rfl⟩:=UW aE;cases D
    |succ n=>omega
   grind
def UY{K:Nat}:∀{k:Nat} {fx:List hZ},∀j∈cP (oM k fx),∃e,(j,e)∈j6 K k fx
 |_,[],j,Y=>by cases Y
 |k,x::r,j,Y=>by
  simp only[oM,cP,hq]at Y;rw[j6];have bb:=UY (K:=K) (k:=k+1) (fx:=r) j;rcases x.cases K k [] with⟨v,rfl⟩|⟨e,D,O,_⟩
  all_goals grind [ab0,hZ.hc,ag.keys,hZ.cell]
def an.L4(V:an W bs E F h w)(ks:aD)(yO:∀k∈ks,∃e,h k=some e)(hr:cr w (ks.flatMap F) M):an W bs E F (λj=>if j∈ks then none else h j) M :=V.Ip (K:=λ_=>True) (λ_ _ _=>⟨trivial,λ_ _=>trivial⟩) ks (λ_=>none) yO (λ_ _=>rfl) (λ_ _ h=>by cases h) (λ_ _ _ _ _ h=>by cases h) (λ_ _ _ _=>rfl) (λ_=>rfl) hr
def an.add{e:bL}{u:aM}{fp:aD}{q:Nat}(V:an W bs E F h w)(z:∀j x,h j=some x->j≠q/\(q∈x.keys->u=E q))(he:e3 (bF E q u) u fp w e)
  (Z:∀b∈fp,b<w.heap.size/\(W.heap.size<=b\/b∈bs)/\∀j x,h j=some x->b∉F j):an W bs (bF E q u) (bF F q fp) (bF h q (some e)) w:=by
 have old:∀{j x},bF h q (some e) j=some x->(j=q/\x=e)\/(j≠q/\h j=some x):=λ{j x} Y=>by grind [bF]
 refine⟨λj x Y=>?_,λj x Y b iu=>?_,λj x Y b iu=>?_,λi j x y lN hi Y b kj=>?_,V.keeps⟩
 ·rcases old Y with⟨rfl,rfl⟩|⟨AK,hW⟩
  ·rwa [iB,iB]
  ·rw[hF _ _ AK,hF _ _ AK];refine TL (λi hi=>?_) (V.hc j x hW)
   grind [bF]
 ·rcases old Y with⟨rfl,rfl⟩|⟨AK,hW⟩
  ·grind [iB]
  ·rw[hF _ _ AK]at iu;exact V.lt j x hW b iu
 ·rcases old Y with⟨rfl,rfl⟩|⟨AK,hW⟩
  ·grind [iB]
  ·rw[hF _ _ AK]at iu;exact V.nK j x hW b iu
 ·rcases old hi with⟨rfl,rfl⟩|⟨an2,lq⟩
  ·grind [bF]
  ·rw[hF _ _ an2]at kj;rcases old Y with⟨rfl,rfl⟩|⟨AK,hW⟩
   ·grind [iB]
   ·rw[hF _ _ AK];exact V.apart i j x y lN lq hW b kj
def P5{K:Nat}{cs:aX}:∀{n k:Nat} {us:aX} {fx:List hZ} {h:ca} {E:dF} {F:lK},low n fx->an W bs E F h w->((∀x∈fx,∃a,x=.eg a)\/(K<k\/k+n<=K)/\E K=nj cs/\Fits cs fx)->pq w us (px cs fx)->(rS us (px cs fx)).Nodup ->
  (∀b∈rS us (px cs fx),b<w.heap.size/\(W.heap.size<=b\/b∈bs)/\∀j x,h j=some x->b∉F j)->(∀j x,h j=some x->(j<k\/k+n<=j)/\∀i∈x.keys,i<k\/k+n<=i) ->
  ∃cK fC,(∀j,j<k\/k+n<=j->cK j=E j/\fC j=F j)/\an W bs cK fC (dJ h (tc (j6 K k fx))) w/\ba cK (oM k fx)=us/\∀p∈j6 K k fx,∀b∈fC p.1,b∈rS us (px cs fx)
 |_,_,[],[],_,E,F,_,V,_,_,_,_,_=>⟨E,F,λ_ _=>⟨rfl,rfl⟩,V,rfl,λ_ hp=>by cases hp⟩
 |_,_,[],_::_,_,_,_,_,_,_,aQ,_,_,_=>aQ.elim
 |_,_,_::_,[],_,_,_,_,_,_,aQ,_,_,_=>aQ.elim
 |0,k,u::us,x::fx,h,E,F,aN,V,_,aQ,_,_,_=>by
  obtain⟨v,rfl,rfl⟩:=UW aN;obtain⟨rfl,UZ⟩:=aQ;cases us with
  |nil=>exact⟨E,F,λ_ _=>⟨rfl,rfl⟩,V,rfl,λ_ hp=>by cases hp⟩
  |cons y us=>trivial
 |n+1,k,u::us,x::fx,h,E,F,aN,V,cj,aQ,aE,Z,hh=>by
  obtain⟨an3,UZ⟩:xG w u (x.inst cs)/\pq w us (px cs fx):=aQ;have iM:(DY u (x.inst cs)++rS us (px cs fx)).Nodup:=aE;rw[Tu]at iM;have aN:low n fx:=aN;rcases x.cases K k cs with⟨v,rfl⟩|⟨e,D,O,B,aU⟩
  ·obtain⟨cK,fC,g1,g2,g3,g4⟩:=P5 (n:=n) (k:=k+1) (us:=us) (K:=K) aN V (cj.imp (λh y cG=>h y (by simp[cG])) λh=>⟨U,h.2.1,λy cG=>h.2.2.1 y (by simp[cG]),h.2.2.2⟩) UZ iM.2.1 (λb Cl=>Z b (sh _ Cl)) λj y Y=>⟨by grind,λi hi=>by grind⟩
   refine⟨cK,fC,λj Y=>g1 j U,g2,?_,λp hp b Cl=>sh _ (g4 p hp b Cl)⟩;rw[oM,ba,g3]
   grind [den,hZ.cell,xG,hZ.inst]
  ·have L5:(∃a,x=.eg a)\/(K<k\/k+(n+1)<=K)/\x.fit cs/\E K=nj cs/\∀c∈cs,au c=c:=cj.imp (λh=>h x bq) λh=>⟨h.1,h.2.2.1 x bq,h.2.1,h.2.2.2⟩
   have he:=aU (bF E k u) u w (L5.imp id λh=>⟨h.2.1,by grind [hF],h.2.2.2⟩) an3;have e7:=V.add (q:=k) (λj y Y=>⟨by grind,λhi=>by grind⟩) he λb Cl=>Z b (xn _ Cl)
   have old:∀{j y},bF h k (some e) j=some y->(j=k/\y=e)\/(j≠k/\h j=some y):=λ{j y} Y=>by
    by_cases rH:j=k
    ·subst rH;rw[iB]at Y;simp_all
    ·rw[hF _ _ rH]at Y;simp_all
   obtain⟨cK,fC,g1,g2,g3,g4⟩:=P5 (n:=n) (k:=k+1) (us:=us) (K:=K) aN e7 (cj.imp (λh y cG=>h y (by simp[cG])) λh=>⟨U,by grind [hF],λy cG=>h.2.2.1 y (by simp[cG]),h.2.2.2⟩) UZ iM.2.1 (λb Cl=>⟨(Z b (sh _ Cl)).1,(Z b (sh _ Cl)).2.1,λj y Y=>by
     grind [bF,rS,px]⟩) λj y Y=>by
     grind
   have an4:=g1 k U;rw[iB,iB]at an4;refine⟨cK,fC,λj Y=>by have:=g1 j U;grind [hF],?_,?_,λp hp b Cl=>?_⟩
   ·rw[j6,D];exact g2
   ·grind [qq,yN,oM,ba,den]
   ·rw[j6,D]at hp;rcases gG.1 hp with rfl|hp
    all_goals grind [rS,px]
end
structure b5 where
 fV:Nat->ag
 g:∀E k,den E (fV k)=den (λ_=>E k) (fV 0)
 k:∀k,∀j∈(fV k).keys,j=k
def b5.val(s:b5)(cs:aX):Value:=den (λ_=>nj cs) (s.fV 0)
def b5.one:b5:=⟨λk=>.part k 0,λ_ _=>rfl,λk j Y=>by simpa [ag.keys] using Y⟩
def b5.two:b5:=⟨λk=>.agg [.part k 0,.part k 1],λ_ _=>rfl,λk j Y=>by simpa [ag.keys,cP] using Y⟩
def b5.sv(v:aM):b5:=⟨λ_=>.v v,λ_ _=>rfl,λk j Y=>by cases Y⟩
abbrev sw:=Option (b5×lr)
def P6:Option Value->Option (List Value)->Option (List Value)
 |some v,some vs=>some (v::vs)
 |_,_=>none
def func2(f:Fn):Option (List Value)->Option (List Value)->Option Value
 |some a,some c=>some (.func f a.toArray c.toArray)
 |_,_=>none
mutual
def q9:ag->Option Value
 |.v x=>some x
 |.agg l=>(yZ l).map λvs=>.agg vs.toArray
 |.jL t x=>(q9 x).map (.iface t)
 |.fn f a c=>func2 f (yZ a) (yZ c)
 |_=>none
def yZ:List ag->Option (List Value)
 |[]=>some []
 |x::r=>P6 (q9 x) (yZ r)
end
mutual
def P7{E:dF}:∀{x:ag} {v:aM},q9 x=some v->den E x=v
 |.v x,v,h=>by cases h;rfl
 |.own _ _,v,h|.ak _,v,h|.part _ _,v,h|.iK _,v,h=>by simp[q9]at h
 |.agg l,v,h=>by simp only[q9,ph]at h;obtain⟨vs,D,rfl⟩:=h;simp only[den,P8 D]
 |.jL t x,v,h=>by simp only[q9,ph]at h;obtain⟨y,D,rfl⟩:=h;simp only[den,P7 D]
 |.fn f a c,v,h=>by simp only[q9]at h;cases D:yZ a<;>cases O:yZ c<;>rw[D,O]at h<;>cases h;simp only[den,P8 D,P8 O]
def P8{E:dF}:∀{l:List ag} {vs:aX},yZ l=some vs->ba E l=vs
 |[],vs,h=>by cases h;rfl
 |x::r,vs,h=>by simp only[yZ]at h;cases D:q9 x<;>cases O:yZ r<;>rw[D,O]at h<;>cases h;simp only[ba,P7 D,P8 O]
end
def L6:ag->Option Nat
 |.ak k=>some k
 |.part k _=>some k
 |.agg (.part k _::_)=>some k
 |_=>none
structure IV where
 p:Prop
 a:br
 rs:List Nat
 cs:List Nat
structure D4 where
 p:Prop
 aj:List br
 rs:List Nat
 cs:List Nat
def ab3(Φ:lr)(n:Nat)(vs:aX):Prop:=∀W S ay c,b0 W S ay vs->n<=c->Φ.Φ [.slice ay n c] W S
def IW:Option (br×List Nat)->IV
 |some (a,r)=>⟨True,a,r,[]⟩
 |none=>⟨False,.val undef,[],[]⟩
def L7(eE:b5)(Φ:lr)(n:Nat)(x:ag)(k:Nat):Option (List Value)->IV
 |some vs=>⟨x=.ak k/\eE=b5.one/\ab3 Φ n vs,.val undef,[k],[k]⟩
 |none=>⟨False,.val undef,[],[]⟩
def Gk(G:aY)(W:ar)(bs:aD)(eE:b5)(Φ:lr)(x:ag)(k:Nat):Option bL->IV
 |some (.obj d R)=>⟨x=eE.fV k/\d=[]/\R=wv G W bs Φ,.val undef,[k],[k]⟩
 |some (.row _ _ n us)=>L7 eE Φ n x k (jO us)
 |_=>⟨False,.val undef,[],[]⟩
def L8(G:aY)(W:ar)(bs:aD)(h:ca)(eE:b5)(Φ:lr)(x:ag):Option Value->Option Nat->IV
 |some v,_=>⟨∃cs,v=eE.val cs/\Φ.Φ cs W (bw G bs),.val undef,[],[]⟩
 |none,some k=>Gk G W bs eE Φ x k (h k)
 |none,none=>⟨False,.val undef,[],[]⟩
def vh(G:aY)(W:ar)(bs:aD)(h:ca):sw->ag->IV
 |none,x=>IW (rN h x)
 |some (eE,Φ),x=>L8 G W bs h eE Φ x (q9 x) (L6 x)
def U0(a:IV)(l:D4):D4:=⟨a.p/\l.p,a.a::l.aj,a.rs++l.rs,a.cs++l.cs⟩
def lu(G:aY)(W:ar)(bs:aD)(h:ca):List sw->List ag->D4
 |[],[]=>⟨True,[],[],[]⟩
 |[],x::r=>U0 (IW (rN h x)) (lu G W bs h [] r)
 |oj::ks,x::r=>U0 (vh G W bs h oj x) (lu G W bs h ks r)
 |_::_,[]=>⟨False,[],[],[]⟩
def ab4(w:ar)(S:aY)(u:aM)(a:br):sw->Prop
 |none=>xG w u a
 |some (eE,Φ)=>∃cs,u=eE.val cs/\Φ.Φ cs w S
def Cm(w:ar)(S:aY):List sw->List Value->List br->Prop
 |[],us,aj=>pq w us aj
 |oj::ks,u::us,a::aj=>ab4 w S u a oj/\Cm w S ks us aj
 |_,_,_=>False
section
variable {P:bR}{W:ar}{bs:aD}{κ:Nat}{E:dF}{F:lK}{h:Nat->Option bL}{w M:World}{K:aY}{G:aY}
def an5{k:Nat}{T:a6}{s n:Nat}{vs:List ag}{S:aY}(V:an W bs E F h w)(ad:h k=some (.row T s n vs))(J:∀b∈F k,S b) :
  ∃ay c,au (E k)=.slice ay n c/\n<=c/\b0 w S ay (ba E vs):=by
 obtain⟨⟨aN,tV⟩,bo⟩:=V.hc k _ ad;rcases tV with⟨hu,rfl⟩|⟨g,cap,cur,hu,_,hh,tW,_,Ag,DI⟩
 ·exact⟨none,0,by rw[hu];rfl,eo _,.inl (K2 (by rw[aN];simp))⟩
 ·refine⟨_,cap,by rw[hu];rfl,tW,.inr ⟨g,0,rfl,λj Y=>⟨J g (by rw[bo,hu];simp[Value.ownBlock]),?_⟩⟩⟩;have:cur[j]?=(ba E vs)[j]?:=by
   grind
  simp[World.cell?,hh,this,uS Y]
structure D5 (G:aY)(W:ar)(bs:aD)(h:ca)(rs cs:aD)(sat:(Nat->Value)->(Nat->List Nat)->World->(Nat->Prop)->Prop)(loc:ca->Prop):Prop where
 own:∀k∈rs,∃e,h k=some e
 sub:∀k∈cs,k∈rs
 loc:∀bu,(∀k∈rs,bu k=h k)->loc bu
 sat:∀{E F w S},an W bs E F h w->(∀b,b<W.heap.size->bw G bs b->S b)->(∀k∈cs,∀b∈F k,S b)->sat E F w S
def ab5(oj:sw)(x:ag)(hp:(vh G W bs h oj x).p):D5 G W bs h (vh G W bs h oj x).rs (vh G W bs h oj x).cs
  (λE F w S=>ab4 w S (den E x) (vh G W bs h oj x).a oj/\∀b∈DY (den E x) (vh G W bs h oj x).a,∃j∈(vh G W bs h oj x).rs,b∈F j) (λbu=>vh G W bs bu oj x=vh G W bs h oj x):=by
 match oj with
 |none=>
  simp only[vh]at hp ⊢;cases au:rN h x with
  |none=>grind [IW]
  |some q=>
   obtain⟨a,r⟩:=q;refine⟨λk ad=>?_,λk ad=>(by cases ad),λbu aI=>by rw[abE au aI],λ{E F w S} V _ _=>⟨abD V au,λb Z=>?_⟩⟩
   all_goals rcases II au with⟨rfl,⟨v,rfl,_⟩,_⟩|⟨eS,e,rfl,rfl,e4,_,hi⟩
   ·cases ad
   ·grind [IW]
   ·cases Z
   ·have he:=V.hc eS e e4
    grind [qq,yN,den,IW]
 |some (eE,Φ)=>
  simp only[vh]at hp ⊢;cases au:q9 x with
  |some v=>rw[au]at hp;obtain⟨cs,D,O⟩:=hp;exact⟨λk ad=>(by cases ad),λk ad=>ad,λ_ _=>rfl,λV bp _=>⟨⟨cs,by rw[P7 au,D],Φ.mono (λb Z aI=>⟨V.keeps.block b Z aI.2,bp b Z aI⟩) O⟩,λb Z=>(by cases Z)⟩⟩
  |none=>
   rw[au]at hp;cases ad:L6 x with
   |none=>grind [L8]
   |some k=>
    rw[ad]at hp;simp only[L8]at hp ⊢;cases hd:h k with
    |none=>grind [Gk]
    |some e=>
     rw[hd]at hp;have own:∀j∈[k],∃e,h j=some e:=λj Y=>by simp_all
     cases e with
     |cells T vs=>exact hp.elim
     |mp ks vs=>exact hp.elim
     |row T s n us=>
      simp only[Gk]at hp ⊢;cases hu:jO us with
      |none=>grind [L7]
      |some vs=>rw[hu]at hp;obtain⟨rfl,rfl,aW⟩:=hp;refine⟨own,λ_ h=>h,λbu aI=>by simp_all [L7],λ{E F w S} V bp J=>⟨?_,λb Z=>(by cases Z)⟩⟩;obtain⟨ay,c,D,O,B⟩:=an5 (S:=S) V hd (J k (by simp[L7]));rw[LW hu]at B;exact⟨[.slice ay n c],by trivial,aW w S ay c B O⟩
     |obj d R=>
      obtain⟨aB,rfl,rfl⟩:=hp;refine⟨own,λ_ h=>h,λbu aI=>by simp_all [Gk],λ{E F w S} V bp J=>⟨?_,λb Z=>(by cases Z)⟩⟩;obtain⟨⟨⟨ta,cs,D,O⟩,_⟩,_⟩:=V.hc k _ hd;refine⟨cs,?_,O w S (λb Z aI=>⟨V.keeps.block b Z aI.2,bp b Z aI⟩) λb Z=>⟨rfl,J k (by simp[Gk]) b Z⟩⟩
      grind [b5.g,b5.val]
def D5.cons{rs cs mO q7:List Nat}{s1 s2 s:(Nat->Value)->(Nat->List Nat)->World->(Nat->Prop)->Prop}{mP lT l:ca->Prop}(D:D5 G W bs h rs cs s1 mP)(O:D5 G W bs h mO q7 s2 lT)
  (V:∀E F w S,s1 E F w S->s2 E F w S->s E F w S) (aN:∀bu,mP bu -> lT bu -> l bu):D5 G W bs h (rs++mO) (cs++q7) s l:=
 ⟨λk ad=>(hq.1 ad).elim (D.own k) (O.own k),λk ad=>(hq.1 ad).elim (λh=>xn _ (D.sub k h)) λh=>sh _ (O.sub k h),
  λbu aI=>aN bu (D.loc bu λk ad=>aI k (xn _ ad)) (O.loc bu λk ad=>aI k (sh _ ad)),
  λds bp J=>V _ _ _ _ (D.sat ds bp λk ad=>J k (xn _ ad)) (O.sat ds bp λk ad=>J k (sh _ ad))⟩
def D6:∀(Cn:List sw) (l:List ag),(lu G W bs h Cn l).p->D5 G W bs h (lu G W bs h Cn l).rs (lu G W bs h Cn l).cs
  (λE F w S=>Cm w S Cn (ba E l) (lu G W bs h Cn l).aj/\∀b∈rS (ba E l) (lu G W bs h Cn l).aj,∃j∈(lu G W bs h Cn l).rs,b∈F j) (λbu=>lu G W bs bu Cn l=lu G W bs h Cn l)
 |[],[],_=>⟨λk ad=>(by cases ad),λk ad=>ad,λ_ _=>rfl,λ_ _ _=>⟨trivial,λb Z=>(by cases Z)⟩⟩
 |_::_,[],hp=>hp.elim
 |[],x::r,hp=>by
  refine D5.cons (ab5 (G:=G) none x hp.1) (D6 [] r hp.2) (λE F w S D O=>⟨⟨D.1,O.1⟩,λb Z=>?_⟩) λbu D O=>?_
  ·exact(hq.1 Z).elim (λZ=>by obtain⟨j,Y,h⟩:=D.2 b Z;exact⟨j,xn _ Y,h⟩) λZ=>by obtain⟨j,Y,h⟩:=O.2 b Z;exact⟨j,sh _ Y,h⟩
  grind [vh,lu]
 |oj::ks,x::r,hp=>by
  refine D5.cons (ab5 oj x hp.1) (D6 ks r hp.2) (λE F w S D O=>⟨⟨D.1,O.1⟩,λb Z=>?_⟩) λbu D O=>?_
  ·exact(hq.1 Z).elim (λZ=>by obtain⟨j,Y,h⟩:=D.2 b Z;exact⟨j,xn _ Y,h⟩) λZ=>by obtain⟨j,Y,h⟩:=O.2 b Z;exact⟨j,sh _ Y,h⟩
  simp_all [lu]
def IX{α:Type}(f:Nat->α):∀(a b:List (Nat×α)),dJ f (a++b)=dJ (dJ f a) b
 |[],_=>rfl
 |(k,x)::r,b=>by simp only[OX,dJ];exact IX _ r b
def U1{α:Type}{f g:Nat->α}{j:Nat}:∀{u:List (Nat×α)},f j=g j->dJ f u j=dJ g u j
 |[],h=>h
 |(k,x)::r,h=>U1 (u:=r) (by simp_all [bF])
def IY(h:ca):∀(rs:aD) (j:Nat),dJ h (vg rs) j=if j∈rs then none else h j
 |[],j=>by rfl
 |k::r,j=>by
  show dJ (bF h k none) (vg r) j=_;rw[IY _ r]
  grind [bF]
def ab6{l:List (Nat×bL)}{j:Nat}(h:j∈gu (tc l)):∃e,(j,e)∈l:=by simpa [gu,tc] using h
def ab7{n K:Nat}{cs:aX}{fx:List hZ}{u:aM}{us xs:aX}{ys:List ag}{fp:aD}{T:a6}{q k:Nat}{h:ca}{E:dF}{F:lK}(aN:low n fx)(V:an W bs E F h w)(cj:(∀x∈fx,∃a,x=.eg a)\/(K<k\/k+n<=K)/\K≠q/\E K=nj cs/\Fits cs fx)
  (H:partAt w u us xs fp T (px cs fx)) (Z:∀b∈fp,b<w.heap.size/\(W.heap.size<=b\/b∈bs)/\∀j x,h j=some x->b∉F j) (hh:∀j x,h j=some x->(j<k\/k+n<=j)/\∀i∈x.keys,i<k\/k+n<=i) (z:(q<k\/k+n<=q)/\∀j x,h j=some x->j≠q) (hu:u=E q)
  (cG:∀cK,(∀j,j<k\/k+n<=j->cK j=E j)->ba cK ys=xs) :
  ∃cK fC,(∀j,j<k\/k+n<=j->cK j=E j)/\an W bs cK fC (bF (dJ h (tc (j6 K k fx))) q (some (.cells T (oM k fx++ys)))) w:=by
 obtain⟨b,aDT,IQ,aQ,rfl,su⟩:=H;obtain⟨dO,ab8⟩:=DA.1 su;obtain⟨cK,fC,g1,g2,g3,g4⟩:=P5 aN V (cj.imp id λh=>⟨h.1,h.2.2⟩) aQ ab8 (λc J=>Z c (Ie _ J)) hh;have vi:∀p∈j6 K k fx,k<=p.1/\p.1<k+n/\(q∉p.2.keys):=λp hp=>by
  obtain⟨D,O,B⟩:=Gj p hp
  grind
 have old:∀{j x},dJ h (tc (j6 K k fx)) j=some x->(j,x)∈j6 K k fx\/(h j=some x/\(j<k\/k+n<=j)):=λ{j x} Y=>by
  rcases LL h (k:=j) (u:=tc (j6 K k fx)) with⟨y,cG,PX⟩|⟨_,PX⟩<;>rw[PX]at Y
  all_goals grind [tc]
 have U2:cK q=E q:=(g1 q z.1).1;have:=g2.add (e:=.cells T (oM k fx++ys)) (u:=cK q) (fp:=[b]) (q:=q) (λj x Y=>?_) ?_ λc J=>?_
 ·grind [bF]
 ·grind
 ·have e:bF cK q (cK q)=cK := funext λj=>by simp_all [bF]
  rw[e];exact⟨b,by simp_all,rfl,by rw[xq,g3,cG cK λj Y=>(g1 j Y).1];exact IQ⟩
 ·obtain rfl:=l8.1 J;obtain⟨D,O,B⟩:=Z c bq;refine⟨D,O,λj x Y=>?_⟩;rcases old Y with hm|⟨Y,rH⟩
  ·exact λJ=>dO (g4 _ hm c J)
  simp_all
end
inductive j7 where
 |ret (v:aM) (fs:List br)
 |fact (eE:b5) (Φ:lr) (fx:List hZ)
 |b7 (c:List PanicEntry) (v:aM)
inductive vj where
 |o (o:j7)
 |same (v:aM)
 |xI (eE:b5) (Φ:lr)
def D7(w:ar)(S:aY)(u:aM)(xs:aX)(fp:aD)(T:a6)(e:Ending)(M:World):j7->Prop
 |.ret v ju=>e=.returned v/\(∃mh,L3 M u mh T ju xs/\(∀b∈mh,b∈fp\/w.heap.size<=b)/\∀b∈mh,b<M.heap.size)/\cr w fp M
 |.fact eE Φ fx=>∃cs,e=.returned (eE.val cs)/\IU cs fx/\(∃mh,L3 M u mh T (px cs fx) xs/\(∀b∈mh,b∈fp\/w.heap.size<=b)/\(∀b∈mh,b<M.heap.size)/\Φ.Φ cs M (λb=>(b<w.heap.size->S b\/b∈fp)/\b∉mh))/\cr w fp M
 |.b7 c _=>e=.panicked c/\cr w fp M
def IZ(w:ar)(S:aY)(u:aM)(us xs:aX)(fp:aD)(T:a6)(fs:List br)(e:Ending)(M:World):vj->Prop
 |.o o=>D7 w S u xs fp T e M o
 |.same v=>e=.returned v/\partAt M u us xs fp T fs/\cr w fp M
 |.xI eE Φ=>∃cs,e=.returned (eE.val cs)/\partAt M u us xs fp T fs/\Φ.Φ cs M (λb=>(b<w.heap.size->S b\/b∈fp)/\b∉fp)/\cr w fp M
structure D8 (P:bR)(f:dr) where
 n:Nat:=0
 m:Option Nat:=none
 T:TypeId
 kinds:List sw:=[]
 pre:World->List Nat->List br->List br->World->(Nat->Prop)->Prop
 gA:∀{W bs fs aj w S M bz},bT w S M bz -> pre W bs fs aj w S->pre W bs fs aj M bz
 dC:List br->World->(Nat->Prop)->Prop:=λ_ _ _=>True
 rT:∀{aj w S M bz},bT w S M bz -> dC aj w S->dC aj M bz
 out:World->List br->List br->vj
 enters:∀args w,(callFunc f args).run P w=.ok (.enter f args) w
 ok:∀(W w:ar) (bs:aD) (S:aY) (u:aM) (us xs:aX) (fp:aD) (vs:aX) (fs aj:List br),cr W bs w->(∀b∈fp,W.heap.size<=b\/b∈bs)->(m=none->xs=[])->partAt w u us xs fp T fs->(∀b∈fp,b<w.heap.size)->(∀b∈fp,¬S b)->Cm w S kinds vs aj->pre W bs fs aj w S->dC aj w (Out fp)->(∀b∈rS vs aj,b∉fp) ->
  Calls P f (vs.take n++u::vs.drop n).toArray w λe M=>IZ w S u us xs fp T fs e M (out W fs aj)
def Gl:Option Nat->List ag->List ag×List ag
 |none,vs=>(vs,[])
 |some m,vs=>(vs.take m,vs.drop m)
def apart(rs l:aD):Prop:=∀j∈rs,j∉l
def td(G:aY)(κ k:Nat)(T:a6)(ys:List ag)(W:ar)(bs:aD)(q:Prop)(rs mO cs:aD):vj->R
 |.o (.ret v fs)=>⟨q/\(k::rs).Nodup/\(∀j∈mO,j∉k::rs)/\fs.length<=8,.v v,vg rs++(tc (j6 0 (8*κ) (fs.map .eg))++[(k,some (.cells T (oM (8*κ) (fs.map .eg)++ys)))]),none,[],k::(rs++mO)⟩
 |.o (.fact eE Φ fx)=>⟨q/\(k::rs).Nodup/\(∀j∈mO,j∉k::rs)/\low 7 fx/\oi G W bs,eE.fV (8*κ+7),
   vg (rs++cs)++(tc (j6 (8*κ+7) (8*κ) fx)++[(k,some (.cells T (oM (8*κ) fx++ys))),(8*κ+7,some (.obj [] (wv G W bs Φ)))]),none,[],k::(rs++mO)⟩
 |.o (.b7 c v)=>⟨q/\(k::rs).Nodup/\(∀j∈mO,j∉k::rs),.v v,[],some c,k::rs,k::(rs++mO)⟩
 |.same v=>⟨(k::rs).Nodup/\apart mO (k::rs)/\q,.v v,[],none,[],k::(rs++mO)⟩
 |.xI eE Φ=>⟨q/\(k::rs).Nodup/\(∀j∈mO,j∉k::rs)/\oi G W bs,eE.fV (8*κ+7),vg cs++[(8*κ+7,some (.obj [] (wv G W bs Φ)))],none,[],k::(rs++mO)⟩
section
variable (G:aY)(W:ar)(bs:aD)(h:ca)(κ:Nat)(m:Option Nat)(T:a6)(pre:World->List Nat->List br->List br->World->(Nat->Prop)->Prop)(dC:List br->World->(Nat->Prop)->Prop)(out:World->List br->List br->vj)
def oN(k:Nat)(c8:TypeId)(ys:List ag)(g:D4):Option (List br×List Nat)->R
 |some (fs,rs)=>td G κ k T ys W bs (c8=T/\g.p/\pre W bs fs g.aj W (bw G bs)/\dC g.aj W (Out bs)) rs g.rs g.cs (out W fs g.aj)
 |none=>.bad
def I0(k:Nat)(g:D4):Option bL->R
 |some (.cells c8 vs)=>oN G W bs κ T pre dC out k c8 (Gl m vs).2 g (e6 h (Gl m vs).1)
 |_=>.bad
def ab9(kinds:List sw)(a:List ag):List ag->R
 |.own k 0::r=>I0 G W bs h κ m T pre dC out k (lu G W bs h kinds (a++r)) (h k)
 |_=>.bad
def xJ(n:Nat)(kinds:List sw)(l:List ag):R:=ab9 G W bs h κ m T pre dC out kinds (l.take n) (l.drop n)
end
section
variable {P:bR}{W:ar}{bs:aD}{κ:Nat}{E:dF}{F:lK}{h:ca}{w M:World}{K:aY}{G:aY}
def U3{D:ca}{q:Nat}{fp mh ks:aD}{cs:aX}{Φ:lr}{aca:aY}(V:an W bs E F D M)(ad:cr W bs w)(hr:cr w fp M)(z:∀j x,D j=some x->j≠q/\q∉x.keys)(Lv:oi G W bs)
  (Z:∀b,(∃j∈ks,b∈F j)\/w.heap.size<=b->b∉mh -> (W.heap.size<=b\/b∈bs)/\∀j x,D j=some x->b∉F j)
  (dR:Φ.Φ cs M aca) (aE:∀b,b<M.heap.size->aca b->(b<W.heap.size/\bw G bs b/\b∉fp)\/(((∃j∈ks,b∈F j)\/w.heap.size<=b)/\b∉mh)) :
  ∃L9,(∀b∈L9,b∉mh)/\an W bs (bF E q (nj cs)) (bF F q L9) (bF D q (some (.obj [] (wv G W bs Φ)))) M:=by
 classical
 have aW:∀b,b∈(List.range M.heap.size).filter (λb=>((∃j∈ks,b∈F j)\/w.heap.size<=b)/\b∉mh) ↔ b<M.heap.size/\((∃j∈ks,b∈F j)\/w.heap.size<=b)/\b∉mh := λb=>by simp
 have dW:∀rO:World,(∀b∈(List.range M.heap.size).filter (λb=>((∃j∈ks,b∈F j)\/w.heap.size<=b)/\b∉mh),rO.heap[b]?=M.heap[b]?)->wv G W bs Φ [] (nj cs) ((List.range M.heap.size).filter (λb=>((∃j∈ks,b∈F j)\/w.heap.size<=b)/\b∉mh)) rO:=λrO B=>
  ⟨λb U4=>Lv b (Z b ((aW b).1 U4).2.1 ((aW b).1 U4).2.2).1,cs,rfl,λAH AI hold ft=>Φ.mono (λb ax an6=>by
   rcases aE b ax an6 with⟨g1,g2,g3⟩|g
   ·obtain⟨g4,g5⟩:=hold b g1 g2
    grind [cr.block,bw]
   simp_all) dR⟩
 refine⟨_,λb Z=>((aW b).1 Z).2.2,V.add (λj x Y=>⟨(z j x Y).1,λhi=>absurd hi (z j x Y).2⟩) ⟨⟨dW M λ_ _=>rfl,rfl⟩,dW⟩ λb U4=>?_⟩
 simp_all
theorem an7(m:Option Nat)(vs:List ag):(Gl m vs).1++(Gl m vs).2=vs:=by cases m<;>simp[Gl]
def U5{m:Option Nat}{T:a6}{pre:World->List Nat->List br->List br->World->(Nat->Prop)->Prop}{dC:List br->World->(Nat->Prop)->Prop}{out:World->List br->List br->vj}{n:Nat}{kinds:List sw}{l:List ag}
  (aS:(xJ G W bs h κ m T pre dC out n kinds l).side):∃k r c8 vs ys fs rs,l.drop n=.own k 0::r/\h k=some (.cells c8 (vs++ys))/\e6 h vs=some (fs,rs)/\(m=none->ys=[]) /\
   ∀bu,bu k=h k->e6 bu vs=some (fs,rs)->lu G W bs bu kinds (l.take n++r)=lu G W bs h kinds (l.take n++r) ->
    xJ G W bs bu κ m T pre dC out n kinds l=oN G W bs κ T pre dC out k c8 ys (lu G W bs h kinds (l.take n++r)) (some (fs,rs)):=by
 unfold xJ ab9 at aS ⊢;split at aS
 ·rename_i k r aN;simp only[aN];unfold I0 at aS ⊢;split at aS
  ·rename_i c8 vs ad;cases au:e6 h (Gl m vs).1 with
   |none=>grind [oN,R.bad]
   |some q=>
    refine⟨k,r,c8,_,(Gl m vs).2,q.1,q.2,rfl,by grind [an7],au,λe=>by subst e;rfl,λbu D O B=>?_⟩
    simp_all
  trivial
 trivial
def U6{k:Nat}{T:a6}{ys:List ag}{q:Prop}{rs mO cs:aD}{o:vj}(V:(td G κ k T ys W bs q rs mO cs o).side):q/\(k::rs).Nodup/\∀j∈mO,j∉k::rs:=by
 rcases o with o|_|_
 ·cases o<;>exact⟨V.1,V.2.1,by grind [td]⟩
 ·exact⟨V.2.2,V.1,V.2.1⟩
 grind [td]
end
def D8.spec{P:bR}{f:dr}(p:D8 P f)(G:aY):Spec P f where
 aJ:=λW bs κ h l=>xJ G W bs h κ p.m p.T p.pre p.dC p.out p.n p.kinds l
 Ar:=λW bs κ E F h w K l V cj ad aB aS=>by
  rw[p.enters];obtain⟨k,r,c8,vs,ys,fs,rs,ak,hd,au,hm,bx⟩:=U5 aS;rw[bx h rfl au rfl]at aS ⊢;simp only[oN]at aS ⊢;have aFb:=D6 (G:=G) (W:=W) (bs:=bs) (h:=h) p.kinds (l.take p.n++r);generalize lu G W bs h p.kinds (l.take p.n++r)=g at *;obtain⟨⟨rfl,hp,B4,vk⟩,aE,an8⟩:=U6 aS;have aFb:=aFb hp
  have own:=UU hd au;have km:∀c∈(k::rs).flatMap F,c<w.heap.size/\(W.heap.size<=c\/c∈bs):=λc J=>by obtain⟨j,Y,acb⟩:=sj.1 J;obtain⟨e,he,_⟩:=own j Y;exact⟨V.lt j e he c acb,V.nK j e he c acb⟩
  have apart:∀j∈g.rs,∀b∈F j,b∉(k::rs).flatMap F:=λj Y b Z J=>by obtain⟨i,hi,kj⟩:=sj.1 J;obtain⟨e,he,_⟩:=own i hi;obtain⟨dn,ma⟩:=aFb.own j Y;exact V.apart j i dn e (λe=>an8 j Y (e▸hi)) ma he b Z kj
  have acd:∀b,b<W.heap.size->bw G bs b->b∉(k::rs).flatMap F:=λb D O Z=>(km b Z).2.elim (λg=>absurd g (rG.2 D)) O.2
  obtain⟨lp,an9⟩:=aFb.sat (S:=λb=>(b<W.heap.size/\bw G bs b)\/∃j∈g.cs,b∈F j) V (λb D O=>.inl ⟨D,O⟩) λj Y b Z=>.inr ⟨j,Y,Z⟩
  have hle:p.n<=l.length:=Nat.le_of_not_lt λh=>by rw[List.drop_eq_nil_of_le (Nat.le_of_lt h)]at ak;cases ak
  have Gf:(ba E (l.take p.n++r)).take p.n++E k::(ba E (l.take p.n++r)).drop p.n=ba E l:=by
   have aZ:den E (.own k 0)=E k:=by obtain⟨b,hu,_⟩:=V.hc k _ hd;simp[den,hu,base,p0]
   have D:(ba E (l.take p.n)).length=p.n:=by rw[pj,Il];omega
   conv=>rhs;rw[<- List.take_append_drop p.n l,ak,xq,ba,aZ]
   rw[xq,O2 D,List.drop_left' D]
  have call:=p.ok W w bs (λb=>(b<W.heap.size/\bw G bs b)\/∃j∈g.cs,b∈F j) (E k) (ba E vs) (ba E ys) _ _ fs g.aj V.keeps (λb Z=>(km b Z).2) (λe=>by rw[hm e];rfl) (abZ V hd au aE) (λb Z=>(km b Z).1)
   (λb Z bp=>by
    rcases bp with⟨D,O⟩|⟨j,Y,iu⟩
    ·exact acd b D O Z
    ·exact apart j (aFb.sub j Y) b iu Z)
   lp (p.gA (λb Z aI=>⟨V.keeps.block b Z aI.2,.inl ⟨Z,aI⟩⟩) B4) (p.rT (λb Z aI=>⟨V.keeps.block b Z aI,λaW=>(km b aW).2.elim (λg=>absurd g (rG.2 Z)) aI⟩) vk)
   (λb Z=>by obtain⟨j,Y,h⟩:=an9 b Z;exact apart j Y b h)
  rw[Gf]at call;have y0:∀j,K j->j<8*κ\/8*κ+8<=j:=λj Y=>by
   by_cases h:j/8=κ
   ·exact absurd Y (ad j h)
   ·omega
  have ra:∀{ks:aD} {j x},(if j∈ks then none else h j)=some x->h j=some x/\j∉ks:=λ{ks j x} Y=>by
   split at Y
   ·cases Y
   ·exact⟨Y,‹_›⟩
  have L5:=cj k _ hd;have ace:∀cK:Nat->Value,(∀j,j<8*κ\/8*κ+7<=j->j/8≠κ->cK j=E j)->ba cK ys=ba E ys:=λcK he=>wj _ λj Y=>by have Y:=y0 j (L5.2 j (by rw[bL.keys,uY];exact sh _ Y));exact he j U U
  have I1:∀j∈k::(rs++g.cs),∃e,h j=some e:=λj Y=>by
   rcases gG.1 Y with rfl|Y
   ·exact⟨_,hd⟩
   ·rcases hq.1 Y with Y|Y
    ·obtain⟨e,he,_⟩:=own j (Ie _ Y);exact⟨e,he⟩
    ·exact aFb.own j (aFb.sub j Y)
  have loose:∀{ks:aD} {b},(∀j∈ks,∃e,h j=some e)->((∃j∈ks,b∈F j)\/w.heap.size<=b)->(W.heap.size<=b\/b∈bs)/\∀j x,(if j∈ks then none else h j)=some x->b∉F j:=λ{ks b} H Z=>by
   rcases Z with⟨i,hi,kj⟩|Z
   ·obtain⟨e,he⟩:=H i hi;exact⟨V.nK i e he b kj,λj x Y iu=>V.apart j i x e (λe=>(ra Y).2 (e▸hi)) (ra Y).1 he b iu kj⟩
   ·exact⟨.inl (xp V.keeps.size Z),λj x Y iu=>by have:=V.lt j x (ra Y).1 b iu;omega⟩
  have acf:∀{b M} {mh:List Nat},cr w ((k::rs).flatMap F) M -> ((b<w.heap.size->((b<W.heap.size/\bw G bs b)\/∃j∈g.cs,b∈F j)\/b∈(k::rs).flatMap F)/\b∉mh)->(b<W.heap.size/\bw G bs b/\b∉(k::rs).flatMap F)\/(((∃j∈k::(rs++g.cs),b∈F j)\/w.heap.size<=b)/\b∉mh):=λ{b M mh} _ Z=>by
   by_cases ax:b<w.heap.size
   ·rcases Z.1 ax with(⟨D,O⟩|⟨j,Y,iu⟩)|aW
    ·exact .inl ⟨D,O,acd b D O⟩
    ·exact .inr ⟨.inl ⟨j,by simp[Y],iu⟩,Z.2⟩
    ·obtain⟨j,Y,iu⟩:=sj.1 aW;exact .inr ⟨.inl ⟨j,by simp only[gG,hq]at Y ⊢;exact Y.imp id .inl,iu⟩,Z.2⟩
   ·exact .inr ⟨.inr U,Z.2⟩
  have same:∀{M},partAt M (E k) (ba E vs) (ba E ys) ((k::rs).flatMap F) p.T fs->cr w ((k::rs).flatMap F) M -> an W bs E F h M := λH hr=>by
   have N:∀{j e},(if j∈k::rs then h j else none)=some e->j∈k::rs/\h j=some e:=λ{j e} he=>by
    split at he
    ·exact⟨‹_›,he⟩
    ·cases he
   refine V.Ip cj (k::rs) (λj=>if j∈k::rs then h j else none) (λj Y=>by obtain⟨e,he,_⟩:=own j Y;exact⟨e,he⟩) (λ_ _=>rfl) (λj e he=>⟨anY V hd au H j (N he).1 e (N he).2,λb Z=>.inl ⟨j,(N he).1,Z⟩,λb Z=>La (V.lt j e (N he).2 b Z) hr.size⟩) (λi j e dn lN hi Y=>V.apart i j e dn lN (N hi).2 (N Y).2) (λ_ _ _ _=>rfl) (λj=>?_) hr
   split
   ·rename_i e he;exact(N he).2
   ·rename_i he;split
    ·rename_i hm;rwa [al hm]at he
    ·rfl
  rcases jv:p.out W fs g.aj with(⟨v,ju⟩|⟨eE,Φ,fx⟩|⟨c,v⟩)|v|⟨eE,Φ⟩
  ·rw[jv]at call aS;refine call.mono λe M he=>?_
   obtain⟨rfl,⟨mh,⟨aoa,H⟩,D,O⟩,hr⟩:=he;have acg:∀j∈k::rs,∃e,h j=some e:=λj Y=>by obtain⟨e,he,_⟩:=own j Y;exact⟨e,he⟩
   have hi:px [] (ju.map .eg)=ju:=by simp[px,Fz,hZ.inst]
   obtain⟨cK,fC,I2,ds⟩:=ab7 (n:=8) (K:=0) (cs:=[]) (ys:=ys) (k:=8*κ) (q:=k) (fx:=ju.map .eg) (UX (by simpa using aS.2.2.2)) (V.L4 (k::rs) acg hr) (.inl λx aB=>by obtain⟨a,_,rfl⟩:=qp.1 aB;exact⟨a,rfl⟩)
    (by rw[hi];exact H) (λb Z=>⟨O b Z,loose acg ((D b Z).imp (λh=>sj.1 h) id)⟩) (λj x Y=>⟨y0 j (cj j x (ra Y).1).1,λi hi=>y0 i ((cj j x (ra Y).1).2 i hi)⟩) ⟨y0 k L5.1,λj x Y e=>(ra Y).2 (by simp[e])⟩ rfl (λcK he=>ace cK λj Y rH=>he j U)
   refine⟨rfl,cK,fC,λj Y=>I2 j U,rfl,ds.drop λj e he=>?_⟩;simp only[td,IX,dJ]at he;by_cases Y:j=k
   ·subst Y;rw[iB]at he ⊢;exact he
   ·rw[hF _ _ Y]at he ⊢;rw[<- he];exact U1 (by rw[IY];simp[Y])
  ·rw[jv]at call aS;obtain⟨_,_,_,ach,Lv⟩:=aS;refine call.mono λe M he=>?_
   obtain⟨cs,rfl,Gm,⟨mh,⟨aoa,H⟩,D,O,dR⟩,hr⟩:=he;have sub:∀{b},b∈(k::rs).flatMap F->∃j∈k::(rs++g.cs),b∈F j:=λZ=>by obtain⟨j,Y,iu⟩:=sj.1 Z;exact⟨j,by simp only[gG,hq]at Y ⊢;exact Y.imp id .inl,iu⟩
   have c1:∀j x,(if j∈k::(rs++g.cs) then none else h j)=some x->j≠8*κ+7/\8*κ+7∉x.keys:=λj x Y=>⟨by have:=y0 j (cj j x (ra Y).1).1;omega,λhi=>by have:=y0 _ ((cj j x (ra Y).1).2 _ hi);omega⟩
   obtain⟨L9,U7,e7⟩:=U3 (ks:=k::(rs++g.cs)) (q:=8*κ+7) (mh := mh) (V.L4 _ I1 (hr.mono λb Z=>sj.2 (sub Z))) V.keeps hr c1 Lv (λb Z _=>loose I1 Z) dR λb _ Z=>acf hr Z
   have old:∀{j x},bF (λj=>if j∈k::(rs++g.cs) then none else h j) (8*κ+7) (some (.obj [] (wv G W bs Φ))) j=some x->(j=8*κ+7/\x=.obj [] (wv G W bs Φ))\/(j≠8*κ+7/\h j=some x/\j∉k::(rs++g.cs)):=λ{j x} Y=>by
    by_cases e:j=8*κ+7
    ·subst e;rw[iB]at Y;cases Y;exact .inl ⟨rfl,rfl⟩
    ·rw[hF _ _ e]at Y;exact .inr ⟨e,ra Y⟩
   have IE:=y0 k L5.1;obtain⟨cK,fC,I2,ds⟩:=ab7 (n:=7) (K:=8*κ+7) (cs:=cs) (ys:=ys) (k:=8*κ) (q:=k) ach e7 (Gm.imp id λh=>⟨U,U,iB _ _ _,h⟩) H
    (λb Z=>⟨O b Z,(loose I1 ((D b Z).imp sub id)).1,λj x Y=>by
     rcases old Y with⟨rfl,rfl⟩|⟨e,B,aU⟩
     ·rw[iB];exact λh=>U7 b h Z
     ·rw[hF _ _ e];exact(loose I1 ((D b Z).imp sub id)).2 j x (by rw[ab aU];exact B)⟩)
    (λj x Y=>by
     rcases old Y with⟨rfl,rfl⟩|⟨e,B,_⟩
     ·exact⟨U,λi hi=>by cases hi⟩
     ·exact⟨by have:=y0 j (cj j x B).1;omega,λi hi=>by have:=y0 i ((cj j x B).2 i hi);omega⟩)
    ⟨U,λj x Y=>by
     rcases old Y with⟨rfl,rfl⟩|⟨e,_,aU⟩
     ·omega
     ·exact λe=>aU (by simp[e])⟩ (hF _ _ U).symm λcK he=>ace cK λj Y rH=>by rw[he j U,hF _ _ U]
   refine⟨rfl,cK,fC,λj Y=>by rw[I2 j U,hF _ _ U],?_,ds.drop λj e he=>?_⟩
   ·simp only[td];rw[eE.g,I2 _ U,iB];rfl
   ·simp only[td,IX,dJ]at he;by_cases c1:j=8*κ+7
    ·subst c1;rw[iB]at he;rw[hF _ _ U,F2 _ λhm=>by obtain⟨e,hm⟩:=ab6 hm;have:=(Gj _ hm).2.1 7 ach;simp only at this;omega,iB];exact he
    ·rw[hF _ _ c1]at he;by_cases Y:j=k
     ·subst Y;rw[iB]at he ⊢;exact he
     ·rw[hF _ _ Y]at he ⊢;rw[<- he];exact U1 (by rw[hF _ _ c1,IY];simp[Y])
  ·rw[jv]at call;refine call.mono λe M he=>?_
   obtain⟨rfl,hr⟩:=he;exact⟨rfl,F,V.L4 (k::rs) (λj Y=>by obtain⟨e,he,_⟩:=own j Y;exact⟨e,he⟩) hr⟩
  ·rw[jv]at call;refine call.mono λe M he=>?_
   obtain⟨rfl,H,hr⟩:=he;exact⟨rfl,E,F,λ_ _=>rfl,rfl,same H hr⟩
  ·rw [jv]at call aS;refine call.mono λe M he=>?_
   obtain⟨cs,rfl,H,dR,hr⟩:=he
   obtain⟨L9,_,e7⟩:=U3 (ks:=k::(rs++g.cs)) (q:=8*κ+7) (mh := (k::rs).flatMap F) ((same H hr).L4 g.cs (λj Y=>aFb.own j (aFb.sub j Y)) (cr.refl M _)) V.keeps hr (λj x Y=>⟨by have:=y0 j (cj j x (ra Y).1).1;omega,λhi=>by have:=y0 _ ((cj j x (ra Y).1).2 _ hi);omega⟩) aS.2.2.2
    (λb Z aW=>⟨(loose I1 Z).1,λj x Y iu=>by
     by_cases rH:j∈k::rs
     ·exact aW (sj.2 ⟨j,rH,iu⟩)
     ·refine(loose I1 Z).2 j x ?_ iu
      rw[ab]
      ·exact(ra Y).1
      ·simp only[gG,hq]at rH ⊢
       exact λh=>h.elim (λh=>rH (.inl h)) λh=>h.elim (λh=>rH (.inr h)) (ra Y).2⟩) dR λb _ Z=>acf hr Z
   refine⟨rfl,_,_,λj Y=>hF _ _ λe=>Y (by rw[e];omega),?_,e7.drop λj e he=>?_⟩
   ·simp only[td];rw[eE.g,iB];rfl
   ·simp only[td,IX,dJ]at he;by_cases c1:j=8*κ+7
    ·subst c1;rw[iB]at he ⊢;exact he
    ·rw[hF _ _ c1]at he ⊢;rw[<- he,IY]
 keys:=λW bs κ h K l cj aB aS=>by
  obtain⟨k,r,c8,vs,ys,fs,rs,ak,hd,au,hm,bx⟩:=U5 aS;rw[bx h rfl au rfl]at aS ⊢;simp only[oN]at aS ⊢;have aFb:=D6 (G:=G) (W:=W) (bs:=bs) (h:=h) p.kinds (l.take p.n++r);generalize lu G W bs h p.kinds (l.take p.n++r)=g at *;obtain⟨⟨_,hp,_⟩,_⟩:=U6 aS;have aFb:=aFb hp
  have U8:∀{ks:aD},(∀j∈ks,∃e,h j=some e)->∀q∈vg ks,(K q.1\/q.1/8=κ)/\∀e,q.2=some e->∀j∈e.keys,K j\/j/8=κ:=λH q z=>by obtain⟨j,Y,rfl⟩:=qp.1 z;obtain⟨e,he⟩:=H j Y;exact⟨.inl (cj j e he).1,λe he=>by cases he⟩
  have vi:∀j∈rs,∃e,h j=some e:=λj Y=>by obtain⟨e,he,_⟩:=P4 au j Y;exact⟨e,he⟩
  have aci:∀j∈g.cs,∃e,h j=some e:=λj Y=>aFb.own j (aFb.sub j Y)
  have row:∀{n Ma fx},n<=8->low n fx->(Ma=8*κ+7\/∀x∈fx,∃a,x=.eg a)->∀q∈tc (j6 Ma (8*κ) fx)++[(k,some (.cells p.T (oM (8*κ) fx++ys)))],(K q.1\/q.1/8=κ)/\∀e,q.2=some e->∀j∈e.keys,K j\/j/8=κ:=λ{n Ma fx} aE aN aob q z=>by
   have vi:∀{j e},(j,e)∈j6 Ma (8*κ) fx->j/8=κ/\∀i∈e.keys,i/8=κ:=λhm=>by
    obtain⟨D,O,B⟩:=Gj _ hm;have:=O n aN;refine⟨by simp only at *;omega,λi hi=>?_⟩;obtain⟨rfl,x,aB,eL⟩:=B i hi;have:=aob.resolve_right λh=>by obtain⟨a,e⟩:=h x aB;exact eL a e
    omega
   rcases hq.1 z with z|z
   ·obtain⟨p,hp,rfl⟩:=qp.1 z;exact⟨.inr (vi hp).1,λe he j Y=>by cases he;exact .inr ((vi hp).2 j Y)⟩
   ·obtain rfl:=l8.1 z;refine⟨.inl (cj k _ hd).1,λe he j Y=>?_⟩;cases he;rw[bL.keys,uY]at Y;rcases hq.1 Y with Y|Y
    ·obtain⟨e,hm⟩:=UY (K:=Ma) j Y;exact .inr (vi hm).1
    ·exact .inl ((cj k _ hd).2 j (by rw[bL.keys,uY];exact sh _ Y))
  have obj:∀{Φ:lr},∀q∈[(8*κ+7,some (bL.obj [] (wv G W bs Φ)))],(K q.1\/q.1/8=κ)/\∀e,q.2=some e->∀j∈e.keys,K j\/j/8=κ:=λq z=>by obtain rfl:=l8.1 z;exact⟨.inr (by simp only;omega),λe he j Y=>by cases he;cases Y⟩
  have fV:∀{eE:b5},∀j∈(eE.fV (8*κ+7)).keys,K j\/j/8=κ:=λ{eE} j Y=>.inr (by rw[eE.k _ j Y];omega)
  rcases jv:p.out W fs g.aj with(⟨v,ju⟩|⟨eE,Φ,fx⟩|⟨c,v⟩)|v|⟨eE,Φ⟩<;>rw[jv]at aS
  ·exact⟨λj Y=>(by cases Y),λq z=>(hq.1 z).elim (U8 vi q) (row (n:=8) (fx:=ju.map .eg) (eo _) (UX (by simpa using aS.2.2.2)) (.inr λx aB=>by obtain⟨a,_,rfl⟩:=qp.1 aB;exact⟨a,rfl⟩) q)⟩
  ·refine⟨fV,λq z=>?_⟩;have aN:=aS.2.2.2.1;simp only[td]at z;rw[show ∀a b:Nat×Option bL,[a,b]=[a]++[b] from λ_ _=>rfl,<- mJ,<- mJ,mJ (vg _)]at z;rcases hq.1 z with z|z
   ·exact(hq.1 z).elim (U8 (λj Y=>(hq.1 Y).elim (vi j) (aci j)) q) (row U aN (.inl rfl) q)
   ·exact obj q z
  ·exact⟨λj Y=>(by cases Y),λq z=>(by cases z)⟩
  ·exact⟨λj Y=>(by cases Y),λq z=>(by cases z)⟩
  ·exact⟨fV,λq z=>(hq.1 z).elim (U8 aci q) (obj q)⟩
 loc:=λW bs κ h bu l aS aI=>by
  obtain⟨k,r,c8,vs,ys,fs,rs,ak,hd,au,hm,bx⟩:=U5 aS;have cv:=bx h rfl au rfl;rw[cv]at aS aI;simp only[oN]at aS aI;have aFb:=D6 p.kinds (l.take p.n++r) (U6 aS).1.2.1;have aI:∀j∈k::(rs++(lu G W bs h p.kinds (l.take p.n++r)).rs),bu j=h j:=by revert aI;rcases p.out W fs (lu G W bs h p.kinds (l.take p.n++r)).aj with(_|_|_)|_|_<;>exact λh=>h
  exact(bx bu (aI k bq) (IK au λj Y=>aI j (by simp[Y])) (aFb.loc bu λj Y=>aI j (by simp[Y]))).trans cv.symm
def aP(w:ar)(S:aY)(fp:aD):Nat->Prop:=λb=>b<w.heap.size->S b\/b∈fp
def aP.up(w:ar)(S:aY)(fp:aD):oi (aP w S fp) w fp:=by grind [oi,aP]
def aP.ep(w:ar)(S:aY)(fp:aD)(h:∀b∈fp,¬S b):bT w S w (bw (aP w S fp) fp):=by grind [bT,bw,aP]
def nN(n:Nat)(T:a6)(fs:List br)(xs args:aX):eG:=⟨1,bK ((n,.is (.own 0 0))::(uc (args.take n) 0++uc (args.drop n) (n+1))),bA ((0,.cells T (oM 1 (fs.map .eg)++xs.map .v))::j6 0 1 (fs.map .eg))⟩
def Gn(w:ar)(S:aY)(us:aX)(xs:aX)(fp:aD)(T:a6)(fs:List br)(pins:List (Nat×Value))(aO:World)(bl:List Nat)(x:ag)(h:ca)(o:vj):Prop:=
 ∃vs ks ju,h 0=some (.cells T (vs++xs.map .v))/\e6 h vs=some (ju,ks)/\(0::ks).Nodup /\
  let same:=ju=fs/\∀E,(∀j e,h j=some e->au (E j)=E j)->(∀p∈pins,E p.1=p.2)->ba E vs=us
  match o with
  |.o (.ret v gs)=>ju=gs/\∀E,den E x=v
  |.o (.fact eE Φ fx)=>∃cs,ju=px cs fx/\(∀E,den E x=eE.val cs)/\IU cs fx/\Φ.Φ cs aO (bw (aP w S fp) bl)
  |.same v=>same/\∀E,den E x=v
  |.xI eE Φ=>∃cs,same/\(∀E,den E x=eE.val cs)/\Φ.Φ cs aO (bw (aP w S fp) bl)
  |.o (.b7 _ _)=>False
def aoc{L:List (Nat×eJ)}{p:Nat×eJ->Prop}{t:Nat}(h:∀q∈L,q.1=t->p q):bK L t=.any\/∃q∈L,q.1=t/\bK L t=q.2/\p q:=by
 rcases F9 (L:=L) t with D|⟨q,D,O,B⟩
 all_goals grind
def P9:∀{l:aX} {i:Nat} {q:Nat×eJ},q∈uc l i->∃j y,l[j]?=some y/\q=(i+j,.is (.v y))
 |x::r,i,q,z=>by
  rcases gG.1 z with rfl|z
  ·simp
  ·obtain⟨j,y,h,rfl⟩:=P9 z;exact⟨j+1,y,h,by grind⟩
def aod{w:ar}{nt m:Nat}{T:a6}{fs:List br}{u:aM}{us xs:aX}{fp:aD}{pins:List (Nat×Value)}(n:Nat)(aj:aX)(aN:low 7 (fs.map .eg))(H:partAt w u us xs fp T fs)(ax:∀b∈fp,b<w.heap.size)
  (hp:∀p∈pins,p.1/8<1) (U9:∀E F,E 0=u->ba E (Gh 1 fs)=us->an w fp E F (bA ((0,.cells T (Gh 1 fs++xs.map .v))::Gi 1 fs)) w->∀p∈pins,E p.1=p.2) (aE:n<=aj.length) (jM:aj.length+1+m=nt) :
  Sat w fp nt ⟨[],pins⟩ (nN n T fs xs aj) { tmps:=(aj.take n++u::aj.drop n).toArray++Array.replicate m undef,defers:=[] } w:=by
 obtain⟨b,hu,IQ,aQ,rfl,su⟩:=H;obtain⟨dO,ab8⟩:=DA.1 su;have hi:px [] (fs.map .eg)=fs:=by simp[px,Fz,hZ.inst]
 obtain⟨E,F,g1,g2,g3,g4⟩:=P5 (bs:=b::rS us fs) (W:=w) (w:=w) (n:=7) (k:=1) (K:=0) (cs:=[]) (us:=us) (fx:=fs.map .eg) (h:=λ_=>none) (E:=λ_=>u) (F:=λ_=>[]) aN ⟨λ_ _ h=>(by cases h),λ_ _ h=>(by cases h),λ_ _ h=>(by cases h),λ_ _ _ _ _ h=>(by cases h),cr.refl w _⟩
  (.inl λx aB=>by grind) (by simp_all) (by simp_all) (by simp_all) (λ_ _ h=>by cases h)
 have cv:E 0=u:=(g1 0 U).1;have row:∀{j e},bA (Gi 1 fs) j=some e->(j,e)∈Gi 1 fs/\1<=j/\j<8/\e.keys=[]:=λ{j e} Y=>by
  have hm:=xE Y;obtain⟨D,O,B⟩:=Gj _ hm;refine⟨hm,D,by grind,List.eq_nil_iff_forall_not_mem.2 λi hi=>?_⟩
  grind
 have old:∀{j e},bA ((0,.cells T (Gh 1 fs++xs.map .v))::Gi 1 fs) j=some e->(j=0/\e=.cells T (Gh 1 fs++xs.map .v))\/bA (Gi 1 fs) j=some e:=λ{j e} Y=>by
  simp only[bA]at Y;by_cases h:j=0
  ·subst h;rw[iB]at Y;simp_all
  ·rw[hF _ _ h]at Y;exact .inr Y
 have rows:an w (b::rS us fs) E F (bA (Gi 1 fs)) w:=g2.drop λj e Y=>by
  have:∀{L:List (Nat×bL)} {f:ca},bA L j=some e->L.Pairwise (·.1<·.1)->dJ f (tc L) j=some e:=λ{L}=>by
   induction L with
   |nil=>grind [bA]
   |cons p r bb=>
    intro f h hp;obtain⟨D,O⟩:=List.pairwise_cons.1 hp;simp only[bA]at h;by_cases e:j=p.1
    ·subst e;rw[iB]at h;show dJ (bF f p.1 (some p.2)) (tc r) p.1=_;rw[F2 _ λhm=>by obtain⟨e,hm⟩:=ab6 hm;grind,iB,h]
    ·rw[hF _ _ e]at h;exact bb h O
  refine this Y ?_;have aoe:∀{fx:List hZ} {k:Nat},(j6 0 k fx).Pairwise (·.1<·.1):=λ{fx}=>by
   induction fx with
   |nil=>simp_all [j6]
   |cons x r bb=>
    intro k;rw[j6];cases x.hc 0 with
    |none=>exact bb
    |some e=>exact List.pairwise_cons.2 ⟨λp hp=>(Gj p hp).1,bb⟩
  exact aoe
 have V:=rows.add (e:=.cells T (Gh 1 fs++xs.map .v)) (u:=E 0) (fp:=[b]) (q:=0) (λj x Y=>⟨by grind,λ_=>rfl⟩) ⟨b,cv.trans hu,rfl,by
   rw[show bF E 0 (E 0)=E from funext λj=>by grind [bF],xq,g3,gr];exact IQ⟩ λc J=>by
   obtain rfl:=l8.1 J;exact⟨ax c bq,.inr bq,λj x Y J=>dO (hi▸g4 _ (row Y).1 c J)⟩
 rw[show bF E 0 (E 0)=E from funext λj=>by grind [bF]]at V;refine⟨⟨E,_,λt=>?_,V,U9 E _ cv g3 V⟩,by simp;omega,rfl,hp,λt k ad=>?_,λj e he=>?_⟩
 ·show fits E (bK _ t) _;refine(aoc (L:=(n,.is (.own 0 0))::(uc (aj.take n) 0++uc (aj.drop n) (n+1))) (t:=t) (p:=λq=>∃x,q.2=.is x/\(aj.take n++u::aj.drop n)[t]?=some (den E x)) λq z aV=>?_).elim (λh=>by grind [fits]) λ⟨q,_,_,h,x,aB,cG⟩=>?_
  ·subst aV;simp only[gG,hq]at z;rcases z with rfl|z|z
   ·simp_all [den,base,p0]
   ·obtain⟨j,y,Y,rfl⟩:=P9 z
    grind [den]
   ·obtain⟨j,y,Y,rfl⟩:=P9 z
    grind [List.getElem?_append_right,den]
  ·rw[h,aB];rw[tQ,OL (by grind),ZL,cG];rfl
 ·show k/8<1;rcases F9 (L:=(n,.is (.own 0 0))::(uc (aj.take n) 0++uc (aj.drop n) (n+1))) t with h|⟨q,z,_,h⟩
  ·simp only[nN,h]at ad;cases ad
  ·simp only[nN,h]at ad;simp only[gG,hq]at z;rcases z with rfl|z|z
   ·simp_all [eJ.keys,ag.keys]
   all_goals(obtain⟨j,y,_,rfl⟩:=P9 z;cases ad)
 ·rcases old he with⟨rfl,rfl⟩|he
  ·refine⟨by grind [nN],λi hi=>?_⟩;rw[bL.keys,uY,so,yI]at hi;obtain⟨e,hm⟩:=UY (K:=0) i hi;have:=(Gj _ hm).2.1 7 aN
   grind [nN]
  ·obtain⟨_,D,O,B⟩:=row he
   simp_all [nN]
def Mb{P:bR}{f:dr}{fn:Func}{c:Code}{w:ar}{nt:Nat}{T:a6}{u:aM}{us xs:aX}{fp:aD}{fs:List br}{out:vj}{pins:List (Nat×Value)}(n:Nat)(S:aY)(aj:aX)(rs:List ResultVar)
  (aN:low 7 (fs.map .eg)) (H:partAt w u us xs fp T fs) (ax:∀b∈fp,b<w.heap.size) (DU:∀p∈(0,u)::pins,p.1/8<1) (U9:∀E F,E 0=u->ba E (Gh 1 fs)=us->an w fp E F (bA ((0,.cells T (Gh 1 fs++xs.map .v))::Gi 1 fs)) w->∀p∈pins,E p.1=p.2)
  (aE:n<=aj.length) (aW:P.funcs[f]?=some fn) (Z:fn.body=some c) (hM:fn.results.toList=rs) (jM:aj.length+1+(fn.ntmps-(aj.length+1))=nt)
  {acj:World->List Nat->ag->ca->Prop} {ack:List PanicEntry->ca->Prop} (h:ae P w fp nt ⟨[],(0,u)::pins⟩ c (Fin P rs acj ack) (nN n T fs xs aj)) (z:∀aO bl x h,acj aO bl x h->Gn w S us xs fp T fs ((0,u)::pins) aO bl x h out) (hp:∀c h,ack c h->∃v,out=.o (.b7 c v)) :
  Calls P f (aj.take n++u::aj.drop n).toArray w λe M=>IZ w S u us xs fp T fs e M out:=by
 subst hM;have bP:(aj.take n++u::aj.drop n).toArray.size=aj.length+1:=by simp;omega
 refine(LQ aW Z (by rw[bP];exact aod n aj aN H ax DU (λE F D O B p hp=>by
  rcases gG.1 hp with rfl|hp
  ·exact D
  ·exact U9 E F D O B p hp) aE jM) h).mono λe M he=>?_
 cases e with
 |returned eT =>
  obtain⟨aO,bl,E,F,x,bu,aB,aI,rfl,V,hp⟩:=he;obtain⟨vs,ks,ju,A,au,su,bW⟩:=z _ _ _ _ aI;have ds := V.back aB;have xK := abZ ds A au su;rw[show E 0=u from hp (0,u) bq,gr]at xK;have own:∀b∈(0::ks).flatMap F,(b∈fp\/w.heap.size<=b)/\b<M.heap.size/\(aO.heap.size<=b\/b∈bl):=λb Z=>by obtain⟨j,Y,iu⟩:=sj.1 Z;obtain⟨e,he,_⟩:=UU A au j Y;exact⟨(ds.nK j e he b iu).symm,ds.lt j e he b iu,V.nK j e he b iu⟩
  have qb:∀{b},b<aO.heap.size->bw (aP w S fp) bl b->M.heap[b]?=aO.heap[b]?/\(b<w.heap.size->S b\/b∈fp)/\b∉(0::ks).flatMap F:=λZ aI=>⟨V.keeps.block _ Z aI.2,aI.1,λaW=>(own _ aW).2.2.elim (λg=>absurd g (rG.2 Z)) aI.2⟩
  have same:(ju=fs/\∀E,(∀j e,bu j=some e->LE.au (E j)=E j)->(∀p∈(0,u)::pins,E p.1=p.2)->ba E vs=us)->partAt M u us xs fp T fs/\(0::ks).flatMap F=fp:=λ⟨bg,bN⟩=>by subst bg;rw[bN E (λj e he=>qq (yN (V.hc j e he))) hp]at xK;obtain⟨b,e8,dz,kn,om,te⟩:=H;obtain⟨p6,mP,lT,xL,Qa,Va⟩:=xK;rw[e8]at mP;cases mP;exact⟨⟨b,e8,lT,xL,om,te⟩,by rw[Qa,om]⟩
  rcases out with(⟨v,gs⟩|⟨eE,Φ,fx⟩|⟨c,v⟩)|v|⟨eE,Φ⟩
  ·obtain⟨rfl,ak⟩:=bW;exact⟨by rw[ak E],⟨_,⟨_,xK⟩,λb Z=>(own b Z).1,λb Z=>(own b Z).2.1⟩,ds.keeps⟩
  ·obtain⟨cs,rfl,ak,Gm,dR⟩:=bW;exact⟨cs,by rw[ak E],Gm,⟨_,⟨_,xK⟩,λb Z=>(own b Z).1,λb Z=>(own b Z).2.1,Φ.mono (λb Z aI=>qb Z aI) dR⟩,ds.keeps⟩
  ·exact bW.elim
  ·exact⟨by rw[bW.2 E],(same bW.1).1,ds.keeps⟩
  ·obtain⟨cs,qc,ak,dR⟩:=bW;obtain⟨g1,g2⟩:=same qc;exact⟨cs,by rw[ak E],g1,Φ.mono (λb Z aI=>by have:=qb Z aI;rwa [g2]at this) dR,ds.keeps⟩
 |panicked c=>obtain⟨aO,bl,E,F,bu,aB,aI,V,kl⟩:=he;obtain⟨_,rfl⟩:=hp _ _ aI;exact⟨rfl,(V.back aB).keeps⟩
 |outgrown=>exact he.elim
end
section
open Go.RowKit
variable{us:hE}{P:bR}(w:ar)
abbrev sx (w:ar)(S:aY)(u:aM):=D7 w S u []
abbrev Vb (w:ar)(u:aM)(fp:aD)(T:a6)(xs:aX):=D7 w (λ_=>False) u xs fp T
abbrev h0 (w:ar)(u:aM):=D7 w (λ_=>False) u []
abbrev I3 (w:ar)(S:aY)(u:aM)(us:aX):=IZ w S u us []
section
variable {P:bR}{f:dr}{w M:World}{S:aY}{u:aM}{us xs:aX}{fp:aD}{T:a6}{fs:List br}{e:Ending}
theorem D7.mono{o:j7}(h:D7 w (λ_=>False) u xs fp T e M o):D7 w S u xs fp T e M o:=by
 cases o with
 |fact eE Φ fx=>obtain⟨cs,D,O,⟨mh,g1,g2,g3,g4⟩,B⟩:=h;exact⟨cs,D,O,⟨mh,g1,g2,g3,Φ.mono (λb Z aI=>⟨rfl,λaN=>(aI.1 aN).imp False.elim id,aI.2⟩) g4⟩,B⟩
 |_=>exact h
def aof(H:partAt w u us xs fp T fs)(ax:∀b∈fp,b<w.heap.size)(ad:cr w [] M):partAt M u us xs fp T fs:=by
 obtain⟨b,D,O,B,rfl,bn⟩:=H;have aN:∀c∈b::rS us fs,M.heap[c]?=w.heap[c]?:=λc J=>ad.block c (ax c J) bq
 refine⟨b,D,by simp_all,?_,rfl,bn⟩;have key:∀{us:aX} {fs:List br},pq w us fs->(∀c∈rS us fs,M.heap[c]?=w.heap[c]?)->pq M us fs:=λ{us}=>by
  induction us with
  |nil=>grind [pq]
  |cons x r bb=>
   intro fs h aN;cases fs with
   |nil=>exact h
   |cons a s=>
    refine⟨?_,bb h.2 λc J=>aN c (sh _ J)⟩;have aN:=λc J=>aN c (xn _ J)
    cases a with
    |val v=>exact h.1
    |row T s n vs=>
     have:=Pb (E:=λ_=>undef) (fp:=x.ownBlock.toList) (e:=.row T s n (vs.map .v)) ⟨by rw[gr];exact h.1,rfl⟩ aN
     grind [gr,e3,xG]
    |mp ks vs=>
     have:=Pb (E:=λ_=>undef) (PU.2 ⟨by rw[gr];exact h.1,rfl⟩:e3 _ x _ w (.mp ks (vs.map .v))) aN
     grind [PU,gr,xG]
 simp_all
def Qb(h:eH w u fp T fs):∃b us,u=.pointer (some ⟨b,0,none⟩)/\pq w us fs/\∀j (Y:j<us.length),w.cell? ⟨b,j,none⟩=some us[j]:=by obtain⟨us,b,D,O,B,_⟩:=h;rw[yI]at O;exact⟨b,us,D,B,λj Y=>cell_of O j Y⟩
def acm{a:br}(h:IT w u us fp T [a]):∃y,us=[y]:=by
 obtain⟨b,_,_,B,_⟩:=h
 match us,B with
 |[y],_=>simp
end
structure Gp (n:Nat)(P:bR)(f:dr) where
 T:TypeId
 pre:World->List Nat->List br->List br->Prop
 out:World->List br->List br->j7
 enters:∀args w,(callFunc f args).run P w=.ok (.enter f args) w
 ok:∀(W w:ar) (bs:aD) (u:aM) (fp:aD) (us:aX) (fs aj:List br),cr W bs w->eH w u fp T fs->(∀b∈fp,b<w.heap.size)->(∀b∈fp,W.heap.size<=b\/b∈bs)->pq w us aj->pre W bs fs aj ->
  Calls P f (us.take n++u::us.drop n).toArray w λe M=>h0 w u fp T e M (out W fs aj)
abbrev iO:=Gp 0
abbrev aog:=Gp 2
structure I4 (P:bR)(f:dr) where
 T:TypeId
 m:Nat
 pre:World->List Nat->List br->List br->Prop
 out:World->List br->List br->j7
 enters:∀args w,(callFunc f args).run P w=.ok (.enter f args) w
 ok:∀(W w:ar) (bs:aD) (u:aM) (fp:aD) (us:aX) (fs aj:List br) (xs:aX),cr W bs w->L3 w u fp T fs xs->(∀b∈fp,b<w.heap.size)->(∀b∈fp,W.heap.size<=b\/b∈bs)->pq w us aj->pre W bs fs aj ->
  Calls P f (u::us).toArray w λe M=>Vb w u fp T xs e M (out W fs aj)
structure y1 (P:bR)(f:dr) where
 T:TypeId
 pre:World->List Nat->List br->List br->Prop
 res:World->List br->List br->Value
 enters:∀args w,(callFunc f args).run P w=.ok (.enter f args) w
 ok:∀(W w:ar) (bs:aD) (u:aM) (fp:aD) (us:aX) (fs aj:List br),cr W bs w->eH w u fp T fs->pq w us aj->pre W bs fs aj ->
  Calls P f (u::us).toArray w λe M=>e=.returned (res W fs aj)/\cr w [] M
structure y2 (P:bR)(f:dr) where
 T:TypeId
 kinds:List sw
 pre:List br->List br->World->(Nat->Prop)->Prop
 gA:∀fs aj W S aO bz,bT W S aO bz -> pre fs aj W S->pre fs aj aO bz
 out:List br->List br->j7
 enters:∀args w,(callFunc f args).run P w=.ok (.enter f args) w
 ok:∀(w:ar) (S:aY) (u:aM) (fp:aD) (us:aX) (fs aj:List br),eH w u fp T fs->(∀b∈fp,b<w.heap.size)->(∀b∈fp,¬S b)->Cm w S kinds us aj->pre fs aj w S ->
  Calls P f (u::us).toArray w λe M=>sx w S u fp T e M (out fs aj)
structure vl (P:bR)(f:dr) where
 T:TypeId
 kinds:List sw
 pre:List br->List br->World->(Nat->Prop)->Prop
 gA:∀fs aj W S aO bz,bT W S aO bz -> pre fs aj W S->pre fs aj aO bz
 dC:List br->World->(Nat->Prop)->Prop
 rT:∀aj W S aO bz,bT W S aO bz -> dC aj W S->dC aj aO bz
 out:List br->List br->j7
 enters:∀args w,(callFunc f args).run P w=.ok (.enter f args) w
 ok:∀(w:ar) (S:aY) (u:aM) (fp:aD) (us:aX) (fs aj:List br),eH w u fp T fs->(∀b∈fp,b<w.heap.size)->(∀b∈fp,¬S b)->Cm w S kinds us aj->pre fs aj w S->dC aj w (Out fp)->(∀b∈rS us aj,b∉fp) ->
  Calls P f (u::us).toArray w λe M=>sx w S u fp T e M (out fs aj)
structure D9 (P:bR)(f:dr) where
 T:TypeId
 kinds:List sw
 pre:List br->List br->World->(Nat->Prop)->Prop
 gA:∀fs aj W S aO bz,bT W S aO bz -> pre fs aj W S->pre fs aj aO bz
 out:List br->List br->vj
 enters:∀args w,(callFunc f args).run P w=.ok (.enter f args) w
 ok:∀(w:ar) (S:aY) (u:aM) (xs:aX) (fp:aD) (us:aX) (fs aj:List br),IT w u xs fp T fs->(∀b∈fp,b<w.heap.size)->(∀b∈fp,¬S b)->Cm w S kinds us aj->pre fs aj w S ->
  Calls P f (u::us).toArray w λe M=>I3 w S u xs fp T fs e M (out fs aj)
section
variable {P:bR}{f:dr}
def Gp.y5{n:Nat}(p:Gp n P f):D8 P f where
 n:=n
 T:=p.T
 kinds:=[]
 pre:=λW bs fs aj _ _=>p.pre W bs fs aj
 gA:=λ_ h=>h
 rT:=λ_ h=>h
 out:=λW fs aj=>.o (p.out W fs aj)
 enters:=p.enters
 ok:=λW w bs S u us xs fp vs fs aj ad hm aB H ax _ au hp _ _=>by obtain rfl:=aB rfl;exact(p.ok W w bs u fp vs fs aj ad ⟨us,H⟩ ax hm au hp).mono λ_ _ h=>h.mono
def I4.y5(p:I4 P f):D8 P f where
 m:=some p.m
 T:=p.T
 kinds:=[]
 pre:=λW bs fs aj _ _=>p.pre W bs fs aj
 gA:=λ_ h=>h
 rT:=λ_ h=>h
 out:=λW fs aj=>.o (p.out W fs aj)
 enters:=p.enters
 ok:=λW w bs S u us xs fp vs fs aj ad hm aB H ax _ au hp _ _=>
  by
  exact(p.ok W w bs u fp vs fs aj xs ad ⟨us,H⟩ ax hm au hp).mono λ_ _ h=>D7.mono h
def y1.y5(p:y1 P f):D8 P f where
 T:=p.T
 kinds:=[]
 pre:=λW bs fs aj _ _=>p.pre W bs fs aj
 gA:=λ_ h=>h
 rT:=λ_ h=>h
 out:=λW fs aj=>.same (p.res W fs aj)
 enters:=p.enters
 ok:=λW w bs S u us xs fp vs fs aj ad hm aB H ax _ au hp _ _=>by obtain rfl:=aB rfl;exact(p.ok W w bs u fp vs fs aj ad ⟨us,H⟩ au hp).mono λ_ _ h=>⟨h.1,aof H ax h.2,h.2.mono λ_ h=>by cases h⟩
def y2.y5(p:y2 P f):D8 P f where
 T:=p.T
 kinds:=p.kinds
 pre:=λW bs=>p.pre
 gA:=λh=>p.gA _ _ _ _ _ _ h
 rT:=λ_ h=>h
 out:=λW fs aj=>.o (p.out fs aj)
 enters:=p.enters
 ok:=λW w bs S u us xs fp vs fs aj ad hm aB H ax bp au hp _ _=>by obtain rfl:=aB rfl;exact p.ok w S u fp vs fs aj ⟨us,H⟩ ax bp au hp
def vl.y5(p:vl P f):D8 P f where
 T:=p.T
 kinds:=p.kinds
 pre:=λW bs=>p.pre
 gA:=λh=>p.gA _ _ _ _ _ _ h
 dC:=p.dC
 rT:=λh=>p.rT _ _ _ _ _ h
 out:=λW fs aj=>.o (p.out fs aj)
 enters:=p.enters
 ok:=λW w bs S u us xs fp vs fs aj ad hm aB H ax bp au hp aQ Z=>by obtain rfl:=aB rfl;exact p.ok w S u fp vs fs aj ⟨us,H⟩ ax bp au hp aQ Z
def D9.y5(p:D9 P f):D8 P f where
 T:=p.T
 kinds:=p.kinds
 pre:=λW bs=>p.pre
 gA:=λh=>p.gA _ _ _ _ _ _ h
 rT:=λ_ h=>h
 out:=λW=>p.out
 enters:=p.enters
 ok:=λW w bs S u us xs fp vs fs aj ad hm aB H ax bp au hp _ _=>by obtain rfl:=aB rfl;exact p.ok w S u us fp vs fs aj H ax bp au hp
def Gp.spec{n:Nat}(p:Gp n P f):=p.y5.spec λ_=>True
def I4.spec(p:I4 P f):=p.y5.spec λ_=>True
def y1.spec(p:y1 P f):=p.y5.spec λ_=>True
def y2.spec(p:y2 P f):=p.y5.spec
def vl.spec(p:vl P f):=p.y5.spec
def D9.spec(p:D9 P f):=p.y5.spec
end
inductive ud where
 |val (v:aM)
 |fact (eE:b5) (Φ:lr)
 |b7 (c:List PanicEntry) (v:aM)
def oO(S:aY)(e:Ending)(M:World):ud->Prop
 |.val v=>e=.returned v/\cr w [] M
 |.fact eE Φ=>∃cs,e=.returned (eE.val cs)/\Φ.Φ cs M (λb=>b<w.heap.size->S b)/\cr w [] M
 |.b7 c _=>e=.panicked c/\cr w [] M
structure py (P:bR)(f:dr) where
 kinds:List sw
 pre:List br->World->(Nat->Prop)->Prop
 gA:∀aj W S aO bz,bT W S aO bz -> pre aj W S->pre aj aO bz
 out:List br->ud
 enters:∀args w,(callFunc f args).run P w=.ok (.enter f args) w
 ok:∀(w:ar) (S:aY) (us:aX) (aj:List br),Cm w S kinds us aj->pre aj w S->Calls P f us.toArray w λe M=>oO w S e M (out aj)
def Co(G:aY)(κ:Nat)(W:ar)(bs:aD)(q:Prop)(rs cs:aD):ud->R
 |.val v=>⟨q,.v v,[],none,[],rs⟩
 |.fact eE Φ=>⟨q/\oi G W bs,eE.fV (8*κ),vg cs++[(8*κ,some (.obj [] (wv G W bs Φ)))],none,[],rs⟩
 |.b7 c v=>⟨q,.v v,[],some c,[],rs⟩
def I5(G:aY)(κ:Nat)(W:ar)(bs:aD)(pre:List br->World->(Nat->Prop)->Prop)(out:List br->ud)(g:D4):R:=Co G κ W bs (g.p/\pre g.aj W (bw G bs)) g.rs g.cs (out g.aj)
def Vc{G:aY}{κ:Nat}{W:ar}{bs:aD}{q:Prop}{rs cs:aD}{o:ud}(h:(Co G κ W bs q rs cs o).side):q:=by cases o<;>first|exact h|exact h.1
def py.spec{f:dr}(p:py P f)(G:aY):Spec P f where
 aJ:=λW bs κ h args=>I5 G κ W bs p.pre p.out (lu G W bs h p.kinds args)
 Ar:=λW bs κ E F h w K args V cj ad aB aS=>by
  rw[p.enters];have aFb:=D6 (G:=G) (W:=W) (bs:=bs) (h:=h) p.kinds args;generalize lu G W bs h p.kinds args=g at *;obtain⟨hp,B4⟩:=Vc aS;have aFb:=aFb hp;have own:∀j∈g.cs,∃e,h j=some e:=λj Y=>aFb.own j (aFb.sub j Y)
  have call:=p.ok w (λb=>(b<W.heap.size/\bw G bs b)\/∃j∈g.cs,b∈F j) _ _ (aFb.sat V (λb D O=>.inl ⟨D,O⟩) λj Y b Z=>.inr ⟨j,Y,Z⟩).1 (p.gA _ _ _ _ _ (λb Z aI=>⟨V.keeps.block b Z aI.2,.inl ⟨Z,aI⟩⟩) B4);unfold I5 at aS ⊢;cases jv:p.out g.aj<;>rw[jv]at call aS
  ·exact abm V call rfl rfl rfl
  ·rename_i eE Φ;refine call.mono λe M he=>?_
   obtain⟨cs,rfl,dR,hr⟩:=he;have ra:∀{j x},(if j∈g.cs then none else h j)=some x->h j=some x/\j∉g.cs:=λ{j x} Y=>by
    split at Y
    ·cases Y
    ·exact⟨Y,‹_›⟩
   obtain⟨L9,_,e7⟩:=U3 (ks:=g.cs) (q:=8*κ) (mh := []) (V.L4 g.cs own (hr.mono λb Z=>by cases Z)) V.keeps hr (λj x Y=>⟨λe=>ad j U (cj j x (ra Y).1).1,λhi=>ad _ U ((cj j x (ra Y).1).2 _ hi)⟩) aS.2
    (λb Z _=>by
     rcases Z with⟨i,hi,kj⟩|Z
     ·obtain⟨e,he⟩:=own i hi
      exact⟨V.nK i e he b kj,λj x Y iu=>V.apart j i x e (λe=>(ra Y).2 (e▸hi)) (ra Y).1 he b iu kj⟩
     ·exact⟨.inl (xp V.keeps.size Z),λj x Y iu=>by have:=V.lt j x (ra Y).1 b iu;omega⟩)
    dR λb _ Z=>by
     by_cases ax:b<w.heap.size
     ·exact(Z ax).imp (λh=>⟨h.1,h.2,bq⟩) λh=>⟨.inl h,bq⟩
     ·exact .inr ⟨.inr U,bq⟩
   refine⟨rfl,_,_,λj Y=>hF _ _ λe=>Y U,?_,e7.drop λj e he=>?_⟩
   ·simp only[Co];rw[eE.g,iB];rfl
   ·simp only[Co,IX,dJ]at he;by_cases c1:j=8*κ
    ·subst c1;rw[iB]at he ⊢;exact he
    ·rw[hF _ _ c1]at he ⊢;rw[<- he,IY]
  ·refine call.mono λe M he=>?_
   obtain⟨rfl,hr⟩:=he;exact⟨rfl,F,(V.grow hr).drop λk e he=>by simpa [Co,dropKeys] using he⟩
 keys:=λW bs κ h K args cj aB aS=>by
  have aFb:=D6 (G:=G) (W:=W) (bs:=bs) (h:=h) p.kinds args;unfold I5 at aS ⊢;generalize lu G W bs h p.kinds args=g at *;have aFb:=aFb (Vc aS).1;cases jv:p.out g.aj with
  |fact eE Φ=>
   refine⟨λk ad=>.inr (by rw[eE.k _ k ad];omega),λq z=>?_⟩;rcases hq.1 z with z|z
   ·obtain⟨j,Y,rfl⟩:=qp.1 z;obtain⟨e,he⟩:=aFb.own j (aFb.sub j Y);exact⟨.inl (cj j e he).1,λe he=>by cases he⟩
   ·obtain rfl:=l8.1 z;exact⟨.inr (by simp only;omega),λe he k ad=>by cases he;cases ad⟩
  |_=>exact s4.plain (λk ad=>by cases ad) rfl
 loc:=λW bs κ h bu args aS aI=>by refine fZ _ ((D6 p.kinds args (Vc aS).1).loc bu λk ad=>aI k ?_);unfold I5;cases p.out (lu G W bs h p.kinds args).aj<;>exact ad
def b1(w:ar)(S:aY):Nat->Prop:=λb=>b<w.heap.size->S b
def b1.up(S:aY):oi (b1 w S) w []:=by grind [oi,b1]
def b1.ep(S:aY):bT w S w (bw (b1 w S) []):=by grind [bT,bw,b1]
def Mc(S:aY)(aO:World)(bl:List Nat)(x:ag):ud->Prop
 |.val v=>∀E,den E x=v
 |.fact eE Φ=>∃cs,(∀E,den E x=eE.val cs)/\Φ.Φ cs aO (bw (b1 w S) bl)
 |.b7 _ _=>False
section
variable {P:bR}{f:dr}{fn:Func}{c:Code}{w:ar}{nt:Nat}{T:a6}{u:aM}{fp:aD}{fs:List br}
def ue{args:hE}{out:ud}(S:aY)(rs:List ResultVar)
  (aW:P.funcs[f]?=some fn)
  (h:ae P w [] nt ⟨[],[]⟩ c (Fin P rs (λaO bl x _=>Mc w S aO bl x out) (λc _=>∃v,out=.b7 c v)) (qw args.toList)) (Z:fn.body=some c:=by rfl) (hM:fn.results.toList=rs:=by rfl) (jM:args.size+(fn.ntmps-args.size)=nt:=by rfl) :
  Calls P f args w λe M=>oO w S e M out:=by
 subst hM;refine(LQ aW Z (LV args jM) h).mono λe M he=>?_
 cases e with
 |returned u=>
  obtain⟨aO,bl,E,F,x,h,aB,bW,rfl,V,_⟩:=he;cases out with
  |val v=>grind [Ext.ir,an.keeps,oO,Mc]
  |fact eE Φ=>obtain⟨cs,ak,dR⟩:=bW;exact⟨cs,by rw[ak E],Φ.mono (λb Z aI=>⟨V.keeps.block b Z aI.2,aI.1⟩) dR,aB.ir V.keeps⟩
  |b7 c v=>trivial
 |panicked c=>
  obtain⟨aO,bl,E,F,bu,aB,⟨v,rfl⟩,V,_⟩:=he
  grind [Ext.ir,an.keeps,oO]
 |outgrown=>exact he.elim
def bZ(w:ar)(S:aY)(fp:aD)(T:a6)(aO:World)(bl:List Nat)(x:ag)(h:ca):j7->Prop
 |.ret v ju=>(∀E,den E x=v)/\∃vs ks,h 0=some (.cells T vs)/\e6 h vs=some (ju,ks)/\(0::ks).Nodup
 |.fact eE Φ fx=>∃cs,((∀E,den E x=eE.val cs)/\IU cs fx/\Φ.Φ cs aO (bw (aP w S fp) bl))/\∃vs ks,h 0=some (.cells T vs)/\e6 h vs=some (px cs fx,ks)/\(0::ks).Nodup
 |.b7 _ _=>False
def bZ.plain{S:aY}{aO:World}{bl:List Nat}{x:ag}{h:ca}{eE:b5}{Φ:lr}{fx:List hZ}{vs:List ag}{ks:aD}(cs:aX)(g:(∀E,den E x=eE.val cs)/\Φ.Φ cs aO (bw (aP w S fp) bl))(A:h 0=some (.cells T vs))(au:e6 h vs=some (px cs fx,ks))(aE:(0::ks).Nodup)(hp:∀x∈fx,∃a,x=.eg a):bZ w S fp T aO bl x h (.fact eE Φ fx):=by grind [bZ]
def acn(w:ar)(S:aY)(fp:aD)(T:a6)(fs:List br)(aO:World)(bl:List Nat)(x:ag)(h:ca):vj->Prop
 |.same v=>(∀E,den E x=v)/\h 0=some (.cells T [.ak 1])/\e6 h [.ak 1]=some (fs,[1])
 |.xI eE Φ=>(∃cs,(∀E,den E x=eE.val cs)/\Φ.Φ cs aO (bw (aP w S fp) bl))/\h 0=some (.cells T [.ak 1])/\e6 h [.ak 1]=some (fs,[1])
 |.o _=>False
theorem I6(u:aM)(us:hE):(us.toList.take 0++u::us.toList.drop 0).toArray=#[u]++us:=Io bq
def nm{out:j7}(S:aY)(rs:List ResultVar)(H:eH w u fp T fs)(ax:∀b∈fp,b<w.heap.size)
  (aW:P.funcs[f]?=some fn)
  (h:ae P w fp nt ⟨[],[(0,u)]⟩ c (Fin P rs (λaO bl x h=>bZ w S fp T aO bl x h out) (λc _=>∃v,out=.b7 c v)) (nN 0 T fs [] us.toList)) (aN:low 7 (fs.map .eg):=by exact trivial) (Z:fn.body=some c:=by rfl) (hM:fn.results.toList=rs:=by rfl) (jM:us.size+1+(fn.ntmps-(us.size+1))=nt:=by rfl) :
  Calls P f (#[u]++us) w λe M=>sx w S u fp T e M out:=by
 obtain⟨vs,H⟩:=H;have:=Mb (pins:=[]) (out:=.o out) 0 S us.toList rs aN H ax (λp hp=>by simp_all) (λ_ _ _ _ _ _ hp=>by cases hp) (ef _) aW Z hM jM h (λaO bl x h g=>by
  cases out with
  |ret v ju=>grind [Gn,bZ]
  |fact eE Φ fx=>grind [Gn,bZ]
  |b7 c v=>exact g.elim) λc h ⟨v,e⟩=>⟨v,by rw[e]⟩
 grind [I6,IZ]
def jP{out:j7}(rs:List ResultVar)(H:eH w u fp T fs)(ax:∀b∈fp,b<w.heap.size)
  (aW:P.funcs[f]?=some fn)
  (h:ae P w fp nt ⟨[],[(0,u)]⟩ c (Fin P rs (λ_ _ x h=>∃v ju,out=.ret v ju/\(∀E,den E x=v)/\∃vs ks,h 0=some (.cells T vs)/\e6 h vs=some (ju,ks)/\(0::ks).Nodup) (λc _=>∃v,out=.b7 c v)) (nN 0 T fs [] us.toList)) (aN:low 7 (fs.map .eg):=by exact trivial) (Z:fn.body=some c:=by rfl) (hM:fn.results.toList=rs:=by rfl) (jM:us.size+1+(fn.ntmps-(us.size+1))=nt:=by rfl) :
  Calls P f (#[u]++us) w λe M=>h0 w u fp T e M out:=by
 obtain⟨vs,H⟩:=H;have:=Mb (pins:=[]) (out:=.o out) 0 (λ_=>False) us.toList rs aN H ax (λp hp=>by simp_all) (λ_ _ _ _ _ _ hp=>by cases hp) (ef _) aW Z hM jM h (λaO bl x h ⟨v,ju,e,g,vs,ks,D,O,B⟩=>by grind [Gn]) λc h ⟨v,e⟩=>⟨v,by rw[e]⟩
 grind [I6,IZ]
def aoh{out:j7}{xs:aX}(rs:List ResultVar)(H:L3 w u fp T fs xs)(ax:∀b∈fp,b<w.heap.size)
  (aW:P.funcs[f]?=some fn)
  (h:ae P w fp nt ⟨[],[(0,u)]⟩ c (Fin P rs (λ_ _ x h=>∃v ju,out=.ret v ju/\(∀E,den E x=v)/\∃vs ks,h 0=some (.cells T (vs++xs.map .v))/\e6 h vs=some (ju,ks)/\(0::ks).Nodup) (λc _=>∃v,out=.b7 c v)) (nN 0 T fs xs us.toList)) (aN:low 7 (fs.map .eg):=by exact trivial) (Z:fn.body=some c:=by rfl) (hM:fn.results.toList=rs:=by rfl) (jM:us.size+1+(fn.ntmps-(us.size+1))=nt:=by rfl) :
  Calls P f (#[u]++us) w λe M=>Vb w u fp T xs e M out:=by
 obtain⟨vs,H⟩:=H;have:=Mb (pins:=[]) (out:=.o out) 0 (λ_=>False) us.toList rs aN H ax (λp hp=>by simp_all) (λ_ _ _ _ _ _ hp=>by cases hp) (ef _) aW Z hM jM h (λaO bl x h ⟨v,ju,e,g,vs,ks,D,O,B⟩=>by grind [Gn]) λc h ⟨v,e⟩=>⟨v,by rw[e]⟩
 grind [I6,IZ]
def Vd{out:j7}(x y:aM)(rs:List ResultVar)(H:eH w u fp T fs)(ax:∀b∈fp,b<w.heap.size)
  (aW:P.funcs[f]?=some fn)
  (h:ae P w fp nt ⟨[],[(0,u)]⟩ c (Fin P rs (λ_ _ x h=>∃v ju,out=.ret v ju/\(∀E,den E x=v)/\∃vs ks,h 0=some (.cells T vs)/\e6 h vs=some (ju,ks)/\(0::ks).Nodup) (λc _=>∃v,out=.b7 c v)) (nN 2 T fs [] [x,y])) (aN:low 7 (fs.map .eg):=by exact trivial) (Z:fn.body=some c:=by rfl) (hM:fn.results.toList=rs:=by rfl) (jM:3+(fn.ntmps-3)=nt:=by rfl) :
  Calls P f #[x,y,u] w λe M=>h0 w u fp T e M out:=by
 obtain⟨vs,H⟩:=H;exact Mb (pins:=[]) (out:=.o out) 2 (λ_=>False) [x,y] rs aN H ax (λp hp=>by simp_all) (λ_ _ _ _ _ _ hp=>by cases hp) bq aW Z hM jM h (λaO bl x h ⟨v,ju,e,g,vs,ks,D,O,B⟩=>by grind [Gn]) λc h ⟨v,e⟩=>⟨v,by rw[e]⟩
def Ea{y:aM}{ks:List ByteArray}{vs:aX}{out:vj}(S:aY)(rs:List ResultVar)(H:IT w u [y] fp T [.mp ks vs])(ax:∀b∈fp,b<w.heap.size)
  (aW:P.funcs[f]?=some fn)
  (h:ae P w fp nt ⟨[],[(0,u),(1,y)]⟩ c (Fin P rs (λaO bl x h=>acn w S fp T [.mp ks vs] aO bl x h out) (λc _=>∃v,out=.o (.b7 c v))) (nN 0 T [.mp ks vs] [] us.toList)) (Z:fn.body=some c:=by rfl) (hM:fn.results.toList=rs:=by rfl) (jM:us.size+1+(fn.ntmps-(us.size+1))=nt:=by rfl) :
  Calls P f (#[u]++us) w λe M=>I3 w S u [y] fp T [.mp ks vs] e M out:=by
 have key:∀{h:ca} {v:Prop},h 0=some (.cells T [.ak 1])->e6 h [.ak 1]=some ([.mp ks vs],[1])->v->∃AL k ju,h 0=some (.cells T (AL ++ [].map .v))/\e6 h AL=some (ju,k)/\(0::k).Nodup/\(ju=[.mp ks vs]/\∀E,(∀j e,h j=some e->LE.au (E j)=E j)->(∀p∈[(0,u),(1,y)],E p.1=p.2)->ba E AL=[y])/\v:=λ{h v} A D au=>
  ⟨_,_,_,by trivial,D,aq,⟨rfl,λE g1 g2=>by
   obtain⟨e,he,_⟩:=P4 D 1 bq
   rw[ba,ba,den,g1 1 e he,g2 (1,y) bq]⟩,au⟩
 have:=Mb (pins:=[(1,y)]) (out:=out) 0 S us.toList rs (by exact trivial) H ax (λp hp=>by grind) (λE F _ D O p hp=>by
  obtain rfl:=l8.1 hp
  have:=qq (yN (O.hc 1 (.mp ks (vs.map .v)) rfl))
  have D:[LE.au (E 1)]=[y]:=D
  simp_all) (ef _) aW Z hM jM h (λaO bl x h g=>by
  rcases out with _|v|⟨eE,Φ⟩
  ·exact g.elim
  ·exact key g.2.1 g.2.2 g.1
  ·obtain⟨AL,k,ju,D,O,B,aU,cs,g⟩:=key g.2.1 g.2.2 g.1
   grind [Gn]) λc h g=>g
 grind [I6]
end
section
variable (G:aY)(W:ar)(bs:aD)(h:ca)(κ k:Nat)(T c8:TypeId){P:bR}{f:dr}(m:Option Nat)(pre:World->List Nat->List br->List br->World->(Nat->Prop)->Prop)(dC:List br->World->(Nat->Prop)->Prop)(out:World->List br->List br->vj)(q:Prop)(rs mO cs:aD)(l ys:List ag)(v:aM)
theorem aoi{n:Nat}(p:Gp n P f):p.spec.aJ W bs κ h l=xJ (λ_=>True) W bs h κ none p.T (λW bs fs aj _ _=>p.pre W bs fs aj) (λ_ _ _=>True) (λW fs aj=>.o (p.out W fs aj)) n [] l:=rfl
theorem aoj(p:I4 P f):p.spec.aJ W bs κ h l=xJ (λ_=>True) W bs h κ (some p.m) p.T (λW bs fs aj _ _=>p.pre W bs fs aj) (λ_ _ _=>True) (λW fs aj=>.o (p.out W fs aj)) 0 [] l:=rfl
theorem aok(p:y1 P f):p.spec.aJ W bs κ h l=xJ (λ_=>True) W bs h κ none p.T (λW bs fs aj _ _=>p.pre W bs fs aj) (λ_ _ _=>True) (λW fs aj=>.same (p.res W fs aj)) 0 [] l:=rfl
theorem aol(p:y2 P f):(p.spec G).aJ W bs κ h l=xJ G W bs h κ none p.T (λ_ _=>p.pre) (λ_ _ _=>True) (λ_ fs aj=>.o (p.out fs aj)) 0 p.kinds l:=rfl
theorem aom(p:vl P f):(p.spec G).aJ W bs κ h l=xJ G W bs h κ none p.T (λ_ _=>p.pre) p.dC (λ_ fs aj=>.o (p.out fs aj)) 0 p.kinds l:=rfl
theorem aon(p:D9 P f):(p.spec G).aJ W bs κ h l=xJ G W bs h κ none p.T (λ_ _=>p.pre) (λ_ _ _=>True) (λ_=>p.out) 0 p.kinds l:=rfl
theorem aoo(p:py P f):(p.spec G).aJ W bs κ h l=I5 G κ W bs p.pre p.out (lu G W bs h p.kinds l):=rfl
theorem aop(kinds:List sw):xJ G W bs h κ m T pre dC out 0 kinds (.own k 0::l)=I0 G W bs h κ m T pre dC out k (lu G W bs h kinds l) (h k):=rfl
theorem aoq(kinds:List sw)(x y:ag):xJ G W bs h κ m T pre dC out 2 kinds (x::y::.own k 0::l)=I0 G W bs h κ m T pre dC out k (lu G W bs h kinds (x::y::l)) (h k):=rfl
theorem aor(g:D4):I0 G W bs h κ none T pre dC out k g (some (.cells c8 l))=oN G W bs κ T pre dC out k c8 [] g (e6 h l):=rfl
theorem aos(n:Nat)(g:D4):I0 G W bs h κ (some n) T pre dC out k g (some (.cells c8 l))=oN G W bs κ T pre dC out k c8 (l.drop n) g (e6 h (l.take n)):=rfl
theorem aot(p:Prop)(aj fs:List br):oN G W bs κ T pre dC out k c8 ys ⟨p,aj,mO,cs⟩ (some (fs,rs))=td G κ k T ys W bs (c8=T/\p/\pre W bs fs aj W (bw G bs)/\dC aj W (Out bs)) rs mO cs (out W fs aj):=rfl
def aou(eE:b5)(Φ:lr)(fx:List hZ):td G κ k T ys W bs q rs mO cs (.o (.fact eE Φ fx))=⟨q/\(k::rs).Nodup/\(∀j∈mO,j∉k::rs)/\low 7 fx/\oi G W bs,eE.fV (8*κ+7),
   vg (rs++cs)++(tc (j6 (8*κ+7) (8*κ) fx)++[(k,some (.cells T (oM (8*κ) fx++ys))),(8*κ+7,some (.obj [] (wv G W bs Φ)))]),none,[],k::(rs++mO)⟩:=rfl
theorem aov(pre:List br->World->(Nat->Prop)->Prop)(out:List br->ud)(p:Prop)(aj:List br):I5 G κ W bs pre out ⟨p,aj,rs,cs⟩=Co G κ W bs (p/\pre aj W (bw G bs)) rs cs (out aj):=rfl
def aow:apart [] rs=True:=by simp[apart]
def aox:apart (k::rs) mO=(k∉mO/\apart rs mO):=by simp[apart]
theorem Ve:vg []=[]:=rfl
theorem Vf(r:aD):vg (k::r)=(k,none)::vg r:=rfl
theorem aoy:tc []=[]:=rfl
theorem aoz(e:bL)(r:List (Nat×bL)):tc ((k,e)::r)=(k,some e)::tc r:=rfl
variable (n s:Nat)(vs:aX)(r:List hZ)(ks:List ByteArray)
theorem aoA:oM κ (.eg (.val v)::r)=.v v::oM (κ+1) r:=rfl
theorem aoB:oM κ (.eg (.row T s n vs)::r)=.ak κ::oM (κ+1) r:=rfl
theorem aoC:oM κ (.eg (.mp ks vs)::r)=.ak κ::oM (κ+1) r:=rfl
theorem aoD(i:Nat):oM κ (.D3 T s n i::r)=.ak κ::oM (κ+1) r:=rfl
theorem aoE:j6 k κ (.eg (.val v)::r)=j6 k (κ+1) r:=rfl
theorem aoF:j6 k κ (.eg (.row T s n vs)::r)=(κ,.row T s n (vs.map .v))::j6 k (κ+1) r:=rfl
theorem aoG:j6 k κ (.eg (.mp ks vs)::r)=(κ,.mp ks (vs.map .v))::j6 k (κ+1) r:=rfl
theorem aoH(i:Nat):j6 k κ (.D3 T s n i::r)=(κ,.row T s n (AJ k i))::j6 k (κ+1) r:=rfl
theorem aoI(k o:Nat):q9 (.own k o)=none:=rfl
theorem aoJ(k:Nat):q9 (.ak k)=none:=rfl
theorem aoK(k i:Nat):q9 (.part k i)=none:=rfl
theorem aoL(o:Option (List Value)):P6 none o=none:=rfl
theorem aoM:P6 (some v) none=none:=rfl
theorem aoN(p:Prop)(a:br)(aj:List br)(c:aD):U0 ⟨p,a,rs,c⟩ ⟨q,aj,mO,cs⟩=⟨p/\q,a::aj,rs++mO,c++cs⟩:=rfl
theorem aoO(k:Nat):b5.one.fV k=.part k 0:=rfl
theorem aoP(k:Nat):b5.two.fV k=.agg [.part k 0,.part k 1]:=rfl
theorem b5.aoQ:(b5.sv v).fV k=.v v:=rfl
theorem b5.aoR(cs:aX):(b5.sv v).val cs=v:=rfl
end
theorem aoS(k:IntKind)(n:Int):DK .xor [.v (.int k n)]=⟨True,.v (.int k (ia .xor k (if k.signed then -1 else k.max) n)),[],none,[],[]⟩:=rfl
def aoT:=I @aoS <| I @aoi <| I @aok <| I @aol <| I @aom <| I @aon <| I @aoo <| I @aop <| I @aor <| I @aot <| I @td.eq_1 <| I @aou <| I @td.eq_3 <| I @td.eq_4 <| I @aow <| I @aox <| I @td.eq_5 <| I @aov <| I @Co.eq_1 <| I @Co.eq_2 <| I @Co.eq_3 <| I @Ve <| I @Vf <| I @aoy <| I @aoz <| I @oM.eq_1 <| I @aoA <| I @aoB <| I @aoC <| I @aoD <| I @j6.eq_1 <| I @aoE <| I @aoF <| I @aoG <| I @aoH <| I @ab2 <| I @low.eq_2 <| I @an1 <| I @lu.eq_1 <| I @lu.eq_2 <| I @lu.eq_3 <| I @vh.eq_1 <| I @vh.eq_2 <| I @IW.eq_1 <| I @L8.eq_1 <| I @L8.eq_2 <| I @Gk.eq_1 <| I @Gk.eq_2 <| I @L7.eq_1 <| I @aoN <| I @L6.eq_1 <| I @L6.eq_2 <| I @L6.eq_3 <| I @q9.eq_1 <| I @aoI <| I @aoJ <| I @aoK <| I @q9.eq_2 <| I @q9.eq_3 <| I @q9.eq_4 <| I @yZ.eq_1 <| I @yZ.eq_2 <| I @P6.eq_1 <| I @aoL <| I @aoM <| I @func2.eq_1 <| I @aoO <| I @aoP <| I @b5.aoQ @b5.aoR
def aoU:=I @aoj @aos
def aoV:=aoq
def aoW:IntKind.i64.bits=64/\IntKind.u64.bits=64/\IntKind.u8.bits=8/\IntKind.i32.bits=32/\IntKind.u32.bits=32/\IntKind.u16.bits=16:=by trivial
structure Qc (P:bR)(f:dr) where
 pre:World->List Nat->List br->Prop
 res:World->List br->Value
 ok:∀(W w:ar) (bs:aD) (us:aX) (aj:List br),cr W bs w->pq w us aj->pre W bs aj->(callFunc f us.toArray).run P w=.ok (.value (res W aj)) w
def Qc.spec{f:dr}(p:Qc P f):Spec P f where
 aJ:=λW bs _ h args=>Ga p.pre p.res W bs (e6 h args)
 Ar:=λW bs κ E F h w K args V cj ad aB aS=>by
  cases au:e6 h args with
  |none=>rw[au]at aS;exact aS.elim
  |some q=>obtain⟨aj,rs⟩:=q;rw[au]at aS;rw[p.ok W w bs _ aj V.keeps (IJ V au) aS];exact Good.pure V rfl rfl rfl
 keys:=λW bs κ h K args cj aB aS=>by
  cases au:e6 h args with
  |none=>rw[au]at aS;exact aS.elim
  |some q=>exact s4.plain (λk ad=>by cases ad) rfl
 loc:=λW bs κ h bu args aS aI=>by
  cases au:e6 h args with
  |none=>rw[au]at aS;exact aS.elim
  |some q=>obtain⟨aj,rs⟩:=q;rw[au]at aI;rw[IK au aI]
theorem qd{f:dr}(p:Qc P f)(W:ar)(bs:aD)(κ:Nat)(h:ca)(l:List ag):p.spec.aJ W bs κ h l=Ga p.pre p.res W bs (e6 h l):=rfl
def aoX:min 6 8=6/\min 6 64=6/\min 4 8=4/\min 1 64=1/\min 2 64=2/\min 4 64=4/\min 8 64=8/\min 16 64=16/\min 32 64=32:=by decide
section
variable {P:bR}{W:ar}{bs:aD}{κ:Nat}{h:ca}{Γ:Env P}
theorem aoY(fn:Fn)(first cap:Array Operand)(l:List ag):dH Γ W bs κ h (.makeFunc fn first cap) l=⟨True,.fn fn (l.take first.size) (l.drop first.size),[],none,[],[]⟩:=rfl
theorem aoZ(f:Fn)(a c:List ag):partsOf (.fn f a c)=[.fn f a c]:=rfl
theorem ao0(f:Fn)(a c:hE):jq (.v (.func f a c))=true:=rfl
theorem ao1(f:Fn)(a c:hE):partsOf (.v (.func f a c))=[.v (.func f a c)]:=rfl
theorem ao2:jq (.v .nilFunc)=true:=rfl
theorem ao3:partsOf (.v .nilFunc)=[.v .nilFunc]:=rfl
def aco(k o:Nat):Option (List ag)->R
 |some vs=>⟨o<vs.length,.own k o,[],none,[],[k]⟩
 |none=>.bad
theorem ao4(k o:Nat):DM h [.own k o]=aco k o (jd (h k)):=by rfl
def acp(k o n:Nat)(i:Int)(vs:List ag):Option Nat->R
 |some aw=>⟨0<=i/\i<n/\1<n/\o<vs.length,.own k (o+i.toNat*aw),[],none,[],[k]⟩
 |none=>.bad
def acq(P:bR)(k o:Nat)(i:Int):Option TypeDesc->Option (List ag)->R
 |some (.array n e),some vs=>acp k o n i vs (ah P e)
 |_,_=>.bad
theorem ao5(T:a6)(k o:Nat)(rL:IntKind)(i:Int):An P h T [.own k o,.v (.int rL i)]=acq P k o i (P.underlying T) (jd (h k)):=by rfl
def Md(n:Nat)(i:Int)(l:List ag):Option Nat->Option Bool->R
 |some aw,some true=>⟨0<=i/\i<n/\i.toNat*aw+aw<=l.length,.agg ((l.drop (i.toNat*aw)).take aw),[],none,[],[]⟩
 |some aw,some false=>⟨0<=i/\i<n/\i.toNat*aw<l.length,l.getD (i.toNat*aw) (.v undef),[],none,[],[]⟩
 |_,_=>.bad
def Me(P:bR)(i:Int)(l:List ag):Option TypeDesc->R
 |some (.array n e)=>Md n i l (ah P e) (bM P e)
 |_=>.bad
def ao6(T:a6)(l:List ag)(rL:IntKind)(i:Int):Am P T [.agg l,.v (.int rL i)]=Me P i l (P.underlying T):=by
 simp only[Am];unfold Me;rcases P.underlying T with _|d
 ·rfl
 ·cases d<;>first|rfl|(rename_i n e;simp only[Md];rcases ah P e with _|aw<;>rcases bM P e with _|b<;>first|rfl|(cases b<;>simp[rI,R.eK]))
def ao7(T:a6)(cs:hE)(rL:IntKind)(i:Int):Am P T [.v (.agg cs),.v (.int rL i)]=Me P i (cs.toList.map .v) (P.underlying T):=by
 simp only[Am];unfold Me;rcases P.underlying T with _|d
 ·rfl
 ·cases d<;>first|rfl|(rename_i n e;simp only[Md];rcases ah P e with _|aw<;>rcases bM P e with _|b<;>first|rfl|(cases b<;>simp[rI,R.eK]))
def acr(n:Int):Option TypeDesc->Option TypeDesc->R
 |some _,some (.int k)=>⟨True,.v (.int k (k.wrap n)),[],none,[],[]⟩
 |_,_=>.bad
theorem ao8(src dst:a6)(k:IntKind)(n:Int):DL P src dst [.v (.int k n)]=acr n (P.underlying src) (P.underlying dst):=by rfl
def Vg(P:bR)(T:a6)(l:List ag):Option (List Value)->R
 |some vs=>⟨P.concrete T=true,.v (.iface T (.agg vs.toArray)),[],none,[],[]⟩
 |none=>⟨P.concrete T=true,.jL T (.agg l),[],none,[],[]⟩
def ao9(T:a6)(l:List ag):Ap P T [.agg l]=Vg P T l (jO l):=by simp only[Ap,LU];rfl
def Qd(T t:a6)(x:ag)(ok:Bool):Option Bool->Option Value->R
 |some false,some aE7=>match ok with
  |true=>⟨True,if t=T then .iK [x,.v (.bool true)] else .iK [.v aE7,.v (.bool false)],[],none,[],[]⟩
  |false=>⟨t=T,x,[],none,[],[]⟩
 |_,_=>.bad
theorem apa(T t:a6)(x:aM)(ok:Bool):DQ P T ok [.v (.iface t x)]=Qd T t (.v x) ok (isIface P T) (kE P T):=by rfl
def acs(ok:Bool):Option Bool->Option Value->R
 |some false,some aE7=>match ok with
  |true=>⟨True,.iK [.v aE7,.v (.bool false)],[],none,[],[]⟩
  |false=>.bad
 |_,_=>.bad
theorem apb(T:a6)(ok:Bool):DQ P T ok [.v .nilIface]=acs ok (isIface P T) (kE P T):=by rfl
def Vh:Option TypeDesc->Bool
 |some (.array _ _)=>true
 |_=>false
def Vi(idx:aD)(args:List ag)(zs:aX):Option Nat->R
 |some aw=>LZ (Gb aw (zs.map .v) (idx.zip args))
 |none=>.bad
def Vj(P:bR)(idx:aD)(args:List ag):Option (List Value)->Option TypeDesc->R
 |some zs,some (.array _ e)=>Vi idx args zs (ah P e)
 |_,_=>.bad
def apc(T:a6)(idx:aD)(args:List ag)(aQ:Vh (P.underlying T)=true):s3 P T idx args=Vj P idx args (ct P T) (P.underlying T):=by
 unfold Vh at aQ;split at aQ
 ·rename_i n e hu;unfold s3 Vj;rw[hu];cases ct P T with
  |none=>rfl
  |some zs=>simp only[Vi,Gb,LZ];rfl
 ·cases aQ
theorem apd(a b:Int):Iv [.v (.int .i64 a),.v (.int .i64 b)]=⟨True,.v (.int .i64 (if b<a then b else a)),[],none,[],[]⟩:=rfl
theorem ape(a b:Int):FT [.v (.int .i64 a),.v (.int .i64 b)]=⟨True,.v (.int .i64 (if a<b then b else a)),[],none,[],[]⟩:=rfl
theorem apf(a b c:Int):FT [.v (.int .i64 a),.v (.int .i64 b),.v (.int .i64 c)]=⟨True,.v (.int .i64 (if(if a<b then b else a)<c then c else(if a<b then b else a))),[],none,[],[]⟩:=rfl
end
open Classical in
def dec{α:Type}(f:α->Value)(v:aM):Option α:=if h:∃a,v=f a then some h.choose else none
def Eb{α:Type}{f:α->Value}{v:aM}{a:α}(h:dec f v=some a):v=f a:=by
 unfold dec at h;split at h
 all_goals grind
def uf{α:Type}{f:α->Value}(aW:∀a b,f a=f b->a=b)(a:α):dec f (f a)=some a:=by
 unfold dec;have D:∃b,f a=f b:=⟨a,rfl⟩
 grind
section
variable {P:bR}(eqs:(T:a6)->Option (rJ P T))(h:ca)(op:BinOp)(T:a6)(aE5 aE8:Operand)
theorem apg(k eS:IntKind)(a b:Int):nL P eqs h op T aE5 aE8 [.v (.int k a),.v (.int eS b)]=gS P eqs op T [.v (.int k a),.v (.int eS b)]:=rfl
theorem aph(a b:ao):nL P eqs h op T aE5 aE8 [.v (.string a),.v (.string b)]=gS P eqs op T [.v (.string a),.v (.string b)]:=rfl
theorem api(a b:Bool):nL P eqs h op T aE5 aE8 [.v (.bool a),.v (.bool b)]=gS P eqs op T [.v (.bool a),.v (.bool b)]:=rfl
theorem apj(a b:List ag):nL P eqs h op T aE5 aE8 [.agg a,.agg b]=gS P eqs op T [.agg a,.agg b]:=rfl
theorem apk(a:List ag)(b:hE):nL P eqs h op T aE5 aE8 [.agg a,.v (.agg b)]=gS P eqs op T [.agg a,.v (.agg b)]:=rfl
theorem apl(a:hE)(b:List ag):nL P eqs h op T aE5 aE8 [.v (.agg a),.agg b]=gS P eqs op T [.v (.agg a),.agg b]:=rfl
theorem apm(a b:hE):nL P eqs h op T aE5 aE8 [.v (.agg a),.v (.agg b)]=gS P eqs op T [.v (.agg a),.v (.agg b)]:=rfl
def Vk(P:bR)(op:BinOp)(T:a6)(k o:Nat):Option (List ag)->R
 |some vs=>q2 op (p5 P T=some true/\o<vs.length) false [k]
 |none=>.bad
theorem apn(k o:Nat):nL P eqs h op T aE5 aE8 [.own k o,.v (.pointer none)]=Vk P op T k o (jd (h k)):=by rfl
theorem apo(k o:Nat):nL P eqs h op T aE5 aE8 [.v (.pointer none),.own k o]=Vk P op T k o (jd (h k)):=by rfl
theorem apq(t:Nat):Iw (.tmp t)=false:=rfl
end
section
variable {P:bR}(h:ca)(src dst:a6)
theorem apr(k:IntKind)(n:Int):BW P h src dst [.v (.int k n)]=DL P src dst [.v (.int k n)]:=rfl
theorem aps(s:ao):BW P h src dst [.v (.string s)]=DL P src dst [.v (.string s)]:=rfl
def Vl:∀ai:List Int,At (ai.map λn=>ag.v (.int .u8 n))=some ai
 |[]=>rfl
 |n::r=>by rw[fc,At.eq_2,Vl r];rfl
end
end
section
def apt:=(I @qd (I @aoY (I @dH.eq_22 (I @dH.eq_26 (I @dH.eq_27 (I @DP.eq_1 (I @jq.eq_8 (I @aoZ (I @ao0 (I @ao1 (I @ao2 (I @ao3 (I @ao4 (I @aco.eq_1 (I @ao5 (I @acq.eq_1 (I @acp.eq_1 (I @ao6 (I @ao7 (I @Me.eq_1 (I @Md.eq_1 (I @Md.eq_2 (I @ao8 (I @acr.eq_1 (I @IC.eq_1 (I @ao9 (I @Vg.eq_1 (I @apa (I @Qd.eq_2 (I @Qd.eq_1 (I @apb (I @acs.eq_1 (I @Vh.eq_1 (I @apc (I @Vj.eq_1 (I @Vi.eq_1 (I @apd (I @ape @apf))))))))))))))))))))))))))))))))))))))
def apu:=I @alw <| I @alx <| I @aly <| I @alz <| (I @q2.eq_1 (I @q2.eq_2 (I @apg (I @aph (I @api (I @apj (I @apk (I @apl (I @apm (I @nL.eq_1 (I @nL.eq_2 (I @nL.eq_3 (I @nL.eq_4 (I @nL.eq_5 (I @nL.eq_6 (I @nL.eq_7 (I @nL.eq_8 (I @Vk.eq_1 (I @apn (I @apo (I @Iw.eq_1 (I @apq (I @apr (I @aps (I @BW.eq_1 (I @LA.eq_1 (I @Lz.eq_1 (I @At.eq_1 (I @At.eq_2 @Vl)))))))))))))))))))))))))))))
end
section
open Go.RowKit
variable{w W:ar}{nt:Nat}{y c:Code}{bs fr bl :aD}{a:Act}{us:aX}{Mf Mg:a6}{qe oP:String}{eM a2:Array Edge}{tmps:hE}{dG:List (List Value)}{rs:List ResultVar}
section
variable {P:bR}{fn:Func}
theorem Leaves.mono{tmps:hE}{R Mh:Ending->World->Prop}(aI:∀e w,R e w->Mh e w):∀(az:List Deferred) (u:FrameMode) (w:ar),Leaves P fn tmps R az u w->Leaves P fn tmps Mh az u w
 |[],.run,_,h=>h.elim
 |[],.returning,_,h=>by obtain⟨v,D,O⟩:=h;exact⟨v,D,aI _ _ O⟩
 |[],.panicking c,_,h=>aI _ _ h
 |d::az,u,w,h=>by
  obtain⟨A,cS,cap,f,args,D,O,B⟩:=h;refine⟨A,cS,cap,f,args,D,O,B.mono λe tf M he=>?_⟩;cases e with
  |returned v=>exact Leaves.mono aI az _ _ he
  |panicked c=>exact Leaves.mono aI az _ _ he
  |outgrown=>simp_all
def apv{R Mh:Ending->World->Prop}(aI:∀e w,R e w->Mh e w)(e:Exit)(a:Act)(w:ar)(h:bodyPostD P fn R e a w):bodyPostD P fn Mh e a w:=by
 cases e with
 |normal=>exact Leaves.mono aI _ _ _ h
 |ret=>exact Leaves.mono aI _ _ _ h
 |panic c=>exact Leaves.mono aI _ _ _ h
 |outgrown=>exact aI _ _ h
 |exit i=>exact h.elim
 |goto l=>exact h.elim
def Ends.back{W aO:World}{pins:List (Nat×Value)}{mi:World->List Nat->ag->ca->Prop}{oo:List PanicEntry->ca->Prop}{e:Ending}(he:Ext W bs aO bl)(h:Ends aO bl pins mi oo e w):Ends W bs pins mi oo e w:=by
 cases e with
 |returned v=>obtain⟨s5,wu,E,F,x,bu,aB,r⟩:=h;grind [Ext.trans,Ends]
 |panicked c=>obtain⟨s5,wu,E,F,bu,aB,r⟩:=h;grind [Ext.trans,Ends]
 |outgrown=>exact h.elim
def kW(P:bR)(fn:Func)(nt:Nat)(pins:List (Nat×Value))(mi:World->List Nat->ag->ca->Prop)(oo:List PanicEntry->ca->Prop)(W:ar)(bs:aD)(c:Code)(σ:eG):Prop:=∀a w,Sat W bs nt ⟨[],pins⟩ σ a w->c.wp P (bodyPostD P fn (Ends W bs pins mi oo)) a w
variable {nt:Nat}{pins:List (Nat×Value)}{mi:World->List Nat->ag->ca->Prop}{oo:List PanicEntry->ca->Prop}{W:ar}{bs:aD}{σ:eG}
def acu{f:dr}{args:hE}(aW:P.funcs[f]?=some fn)(Z:fn.body=some c)
  (lp:Sat W bs nt ⟨[],pins⟩ σ { tmps:=args++Array.replicate (fn.ntmps-args.size) undef,defers:=[] } w)
  (h:kW P fn nt pins mi oo W bs c σ):Calls P f args w (Ends W bs pins mi oo):=calls_of_wp_defers aW Z (h _ w lp)
def Vm{aO:World}{cd:eG}{az:List Deferred}(V:Sat aO bl nt ⟨az,pins⟩ cd a w)(aB:Ext W bs aO bl)(z:(ni P aO bl cd fn.results.toList).1/\mi aO bl (yV (ni P aO bl cd fn.results.toList).2) cd.h):
  ∃v,(results fn a.tmps).run P w=.ok v w/\Ends W bs pins mi oo (.returned v) w:=by
 obtain⟨E,F,iN,hh,hp⟩:=V.ex;exact⟨_,LP iN hh z.1,aO,bl,E,F,_,_,aB,z.2,rfl,hh,hp⟩
theorem kW.seq{x y:Code}(h:ae P W bs nt ⟨[],pins⟩ x (yT (λaO bl cd=>kW P fn nt pins mi oo aO bl y cd) (Fin P fn.results.toList mi oo)) σ):kW P fn nt pins mi oo W bs (.seq x y) σ:=λa w V=>
 wp_seq (wp_mono (h a w V) λe cn M ⟨aO,bl,cd,he,z,ds⟩=>by
  cases e with
  |normal=>exact wp_mono (z cn M ds) λe a w h=>apv (λe w=>Ends.back he) e a w h
  |ret=>
   have ak:=ds.defers
   show Leaves P fn cn.tmps _ cn.defers .returning M
   rw[ak]
   exact Vm ds he z
  |panic c=>
   have ak:=ds.defers
   show Leaves P fn cn.tmps _ cn.defers (.panicking c) M
   rw[ak]
   obtain⟨E,F,iN,hh,hp⟩:=ds.ex
   exact⟨aO,bl,E,F,_,he,z,hh,hp⟩
  |exit i=>exact z.elim
  |goto l=>exact z.elim
  |outgrown=>exact z.elim)
def kW.wp(h:ae P W bs nt ⟨[],pins⟩ c (Fin P fn.results.toList mi oo) σ):kW P fn nt pins mi oo W bs c σ:=λa w V=>
 wp_mono (h a w V) λe cn M ⟨aO,bl,cd,he,z,ds⟩=>by
  have ak:=ds.defers;cases e with
  |normal=>show Leaves P fn cn.tmps _ cn.defers .returning M;rw[ak];exact Vm ds he z
  |ret=>show Leaves P fn cn.tmps _ cn.defers .returning M;rw[ak];exact Vm ds he z
  |panic c=>show Leaves P fn cn.tmps _ cn.defers (.panicking c) M;rw[ak];obtain⟨E,F,iN,hh,hp⟩:=ds.ex;exact⟨aO,bl,E,F,_,he,z,hh,hp⟩
  |exit i=>exact z.elim
  |goto l=>exact z.elim
  |outgrown=>exact z.elim
def mj(w:ar):List Value->List Nat->List TypeId->List (List Value)->Prop
 |[],[],[],[]=>True
 |u::us,b::fr,T::bc,vs::dG=>u=.pointer (some ⟨b,0,none⟩)/\w.heap[b]?=some (.cells vs.toArray T (0,0))/\mj w us fr bc dG
 |_,_,_,_=>False
def Qe(P:bR):List TypeId->List (List Value)->List Value->Prop
 |[],[],[]=>True
 |T::bc,cs::xM,v::vs=>((ah P T=some cs.length/\bM P T=some true/\v=.agg cs.toArray)\/(bM P T=some false/\cs=[v]))/\Qe P bc xM vs
 |_,_,_=>False
def Mi:List Value->Value
 |[v]=>v
 |l=>.tuple l.toArray
structure Ec (P:bR)(f:dr) where
 bc:List TypeId
 enters:∀args w,(callFunc f args).run P w=.ok (.enter f args) w
 pre:List (List Value)->Value->Prop
 out:List (List Value)->Value->List (List Value)
 df:List (List Value)->Value->List Value
 Mj:∀dG pv,pre dG pv->Qe P bc (out dG pv) (df dG pv)
 quiet:∀(w:ar) (us:aX),us.length=bc.length->CallsD P f us.toArray .returning w λe tf M=>(∃v,e=.returned v)/\tf=.returning/\cr w [] M
 Mk:∀(w:ar) (us:aX) (fr:aD) (dG:List (List Value)) (pv:aM),mj w us fr bc dG->fr.Nodup->(∀b∈fr,b<w.heap.size)->pre dG pv ->
  CallsD P f us.toArray (.panicking [{ v:=pv,recovered:=false }]) w λe tf M=>(∃v,e=.returned v)/\tf=.panicking [{ v:=pv,recovered:=true }]/\cr w fr M/\mj M us fr bc (out dG pv)
def I7:List Nat->List TypeId->List ResultVar
 |t::tl,T::bc=>.cell t T::I7 tl bc
 |_,_=>[]
theorem mj.run{tmps:hE}{w:ar}:∀{tl:aD} {us:aX} {fr:aD} {bc:List TypeId} {xM:List (List Value)} {vs:aX},mj w us fr bc xM->Qe P bc xM vs->tl.map (λt=>tmps.getD t undef)=us ->
  ((I7 tl bc).mapM (AG { tmps:=tmps,defers:=[] })).run P w=.ok vs w
 |[],us,fr,bc,xM,vs,D,O,B=>by
  subst B
  match fr,bc,xM,vs,D,O with
  |[],[],[],[],_,_=>rfl
 |t::tl,us,fr,bc,xM,vs,D,O,B=>by
  subst B
  match fr,bc,xM,vs,D,O with
  |b::fr,T::bc,cs::xM,v::vs,D,O=>
   obtain⟨bg,bN,dQ⟩:=D;obtain⟨f1,f2⟩:=O
   replace bg:tmps.getD t undef=_:=bg
   have bb:=mj.run (tmps:=tmps) (tl:=tl) dQ f2 rfl;have one:(AG { tmps:=tmps,defers:=[] } (.cell t T)).run P w=.ok v w:=by
    simp only[AG];rw[bg];have J:∀j x,cs[j]?=some x->w.cell? ⟨b,0+j,none⟩=some x:=λj x aB=>by simp[World.cell?,bN,aB]
    rcases f1 with⟨g1,g2,rfl⟩|⟨g2,rfl⟩
    ·have:=Pf (P:=P) (w:=w) g1 g2 ⟨b,0,none⟩ cs rfl (λj x aB=>by grind [Addr.add_lit]);trivial
    ·have:=Pg (P:=P) (w:=w) g2 ⟨b,0,none⟩ v (by simp_all);trivial
   simp_all [I7]
def apw{tl:aD}{bc:List TypeId}{xM:List (List Value)}{vs:aX}(D:mj w us fr bc xM)(O:Qe P bc xM vs)(B:tl.map (λt=>tmps.getD t undef)=us)
  (aI:fn.results.toList=I7 tl bc):(results fn tmps).run P w=.ok (Mi vs) w:=by
 have aU:=mj.run (P:=P) (tmps:=tmps) D O B;have O:results fn tmps=((Functor.map List.toArray (fn.results.toList.mapM (AG { tmps:=tmps,defers:=[] }))) >>= λ(vs:hE)=>(pure (if h:vs.size=1 then vs[0] else .tuple vs):Sem Value)):=by rw[<- Ti];rfl
 rw[O,aI];simp only[map_eq_pure_bind,bind_assoc,pure_bind];simp[aU]
 match vs with
 |[]=>simp[Mi]
 |[x]=>simp[Mi]
 |x::y::r=>simp[Mi]
def Vn(σ:eG):List Nat->List Nat->List TypeId->List (List Value)->Prop
 |[],[],[],[]=>True
 |t::tl,k::ks,T::bc,vs::dG=>σ.φ t=.is (.own k 0)/\σ.h k=some (.cells T (vs.map .v))/\Vn σ tl ks bc dG
 |_,_,_,_=>False
def nn{f:dr}(C:Ec P f)(rs:List ResultVar)(tl ks:aD)(mi:World->List Nat->ag->ca->Prop)(oo:List PanicEntry->ca->Prop):og
 |.normal,W,bs,σ|.ret,W,bs,σ=>(ni P W bs σ rs).1/\mi W bs (yV (ni P W bs σ rs).2) σ.h
 |.panic c,W,bs,σ=>∃pv dG,c=[{ v:=pv,recovered:=false }]/\Vn σ tl ks C.bc dG/\C.pre dG pv/\mi W bs (.v (Mi (C.df dG pv))) (dropKeys σ.h ks)
 |_,_,_,_=>False
def Qf(f:dr)(us:aX):Deferred:=⟨.fn (.func f) us.toArray,#[]⟩
def p8.tmp{E:dF}{φ:Fr}{t:Nat}{x:ag}(h:p8 E φ a)(aV:φ t=.is x):a.tmps.getD t undef=den E x:=by
 have:=h t
 grind [fits]
def acv{σ:eG}{E:dF}{F:lK}{a:Act}{w:ar}(iN:p8 E σ.φ a)(hh:an W bs E F σ.h w):∀{tl ks:aD} {bc:List TypeId} {dG:List (List Value)},Vn σ tl ks bc dG->ks.Nodup ->
  mj w (ks.map E) (ks.flatMap F) bc dG/\tl.map (λt=>a.tmps.getD t undef)=ks.map E/\(ks.flatMap F).Nodup/\(∀b∈ks.flatMap F,b<w.heap.size)/\(∀k∈ks,∃e,σ.h k=some e)
 |[],[],[],[],_,_=>⟨trivial,rfl,List.nodup_nil,bq,bq⟩
 |t::tl,k::ks,T::bc,vs::dG,h,aE=>by
  obtain⟨D,O,B⟩:=h;obtain⟨ad,aE⟩:=DA.1 aE;obtain⟨i1,i2,i3,i4,i5⟩:=acv iN hh B aE;obtain⟨b,hu,bo,Z⟩:=hh.hc k _ O;have ak:ba E (vs.map .v)=vs:=by rw[q0,DC];exact(K7 (λ_ _=>rfl)).trans (List.map_id vs)
  rw[ak]at Z;have bg:a.tmps.getD t undef=E k:=by rw[iN.tmp D,den,hu];rfl
  refine⟨?_,?_,?_,?_,?_⟩
  ·grind [mj]
  ·simp_all
  ·rw[OT,bo];refine DA.2 ⟨λhm=>?_,i3⟩;obtain⟨j,Y,iu⟩:=sj.1 hm;obtain⟨e,he⟩:=i5 j Y;exact hh.apart k j _ e (λdn=>ad (dn▸Y)) O he b (by rw[bo];simp) iu
  all_goals grind
def cr.nil{W w M:World}{bs:aD}(h:cr W bs w)(bu:cr w [] M):cr W bs M := h.trans bu λb Z=>by cases Z
theorem mj.keeps{w M:World}(h:cr w [] M):∀{us:aX} {fr:aD} {bc:List TypeId} {dG:List (List Value)},mj w us fr bc dG->(∀b∈fr,b<w.heap.size)->mj M us fr bc dG
 |[],[],[],[],_,_=>trivial
 |u::us,b::fr,T::bc,vs::dG,aN,ax=>⟨aN.1,by grind [cr.block,mj],mj.keeps h aN.2.2 λc J=>ax c (by simp[J])⟩
theorem kW.defer{f:dr}(C:Ec P f)(tl ks:aD){id d:Nat}{y:Code}{Mf Mg:a6}{qe oP:String}{eM a2:Array Edge}
  (yO:ks.Nodup) (hM:fn.results.toList=I7 tl C.bc) (ak:d<nt) (hlen:tl.length=C.bc.length) (Vo:ks.length=C.bc.length)
  (Ml:∀p∈tl.zip ks,σ.φ p.1=.is (.own p.2 0)) (acw:∀k∈ks,∃T vs,σ.h k=some (.cells T vs))
  (h:∀us:List Value,us.length=C.bc.length->ae P W bs nt ⟨[Qf f us],ks.zip us++pins⟩ y (nn C fn.results.toList tl ks mi oo) ⟨σ.n+2,bF σ.φ d .any,σ.h⟩) :
  kW P fn nt pins mi oo W bs (.seq (.region id #[{ dst:=some d,op:=.makeFunc (.func f) #[] (tl.map Operand.tmp).toArray,type:=Mf,pos:=qe,after:=eM,guard:=none },{ dst:=none,op:=.defer { callee:=.value (.tmp d),args:=#[],argTypes:=#[] },type:=Mg,pos:=oP,after:=a2,guard:=none }] false) y) σ:=λa w V=>by
 obtain⟨E,F,iN,hh,hp⟩:=V.ex;have Cp:∀k∈ks,∃b,E k=.pointer (some ⟨b,0,none⟩):=λk ad=>by
  obtain⟨T,vs,he⟩:=acw k ad;obtain⟨b,hu,_⟩:=hh.hc k _ he
  simp_all
 have oQ:∀(tl ks:aD),tl.length=ks.length->(∀p∈tl.zip ks,σ.φ p.1=.is (.own p.2 0))->(∀k∈ks,∃b,E k=.pointer (some ⟨b,0,none⟩))->tl.map (λt=>a.tmps.getD t undef)=ks.map E:=by
  intro tl
  induction tl with
  |nil=>grind
  |cons t tl bb=>
   intro ks aN J Z;cases ks with
   |nil=>cases aN
   |cons k ks=>have bg:=iN.tmp (J (t,k) bq);obtain⟨b,he⟩:=Z k bq;rw[fc,fc,bg,den,he,bb ks (aC aN) (λp hp=>J p (by simp[hp])) λj Y=>Z j (by simp[Y])];rfl
 have Ci:∀(tl ks:aD),tl.length=ks.length->∀k∈ks,∃t∈tl,(t,k)∈tl.zip ks:=by
  intro tl
  induction tl with
  |nil=>grind
  |cons t tl bb=>
   intro ks aN k ad;cases ks with
   |nil=>cases ad
   |cons j ks=>
    rcases gG.1 ad with rfl|ad
    ·simp
    ·obtain⟨eU,D,O⟩:=bb ks (aC aN) k ad;exact⟨eU,by simp[D],by simp[O]⟩
 have aDU:tl.map (λt=>a.tmps.getD t undef)=ks.map E:=oQ tl ks U Ml Cp;have rP:Sat W bs nt ⟨[Qf f (ks.map E)],ks.zip (ks.map E)++pins⟩ ⟨σ.n+2,bF σ.φ d .any,σ.h⟩ { tmps:=a.tmps.setIfInBounds d (.func (.func f) #[] (ks.map E).toArray),defers:=[Qf f (ks.map E)] } w:=by
  refine⟨⟨E,F,λt=>?_,hh,λp kl => ?_⟩,by simp[V.size],rfl,λp kl => ?_,λt k ad=>?_,λj e he=>?_⟩
  ·show fits E (bF σ.φ d .any t) ((a.tmps.setIfInBounds d (.func (.func f) #[] (ks.map E).toArray)).getD t undef);by_cases aV:t=d
   ·grind [fits,bF]
   ·rw[hF _ _ aV];have:=iN t
    rwa [show(a.tmps.setIfInBounds d (.func (.func f) #[] (ks.map E).toArray)).getD t undef=a.tmps.getD t undef from by rw[tQ,tQ,Tf (λe=>aV e.symm)]]
  ·rcases hq.1 kl with kl|kl
   ·have:∀(l:aD) (p:Nat×Value),p∈l.zip (l.map E)->E p.1=p.2:=by
     intro l
     induction l with
     |nil=>simp
     |cons x l bb=>
      intro p hp;rcases gG.1 hp with rfl|hp
      ·rfl
      ·exact bb p hp
    grind
   grind [LK]
  ·rcases hq.1 kl with kl|kl
   ·have ad:p.1∈ks:=(TC kl).1;obtain⟨t,_,aV⟩:=Ci tl ks U p.1 ad;have:=V.IE t p.1 (by grind [eJ.keys,ag.keys])
    grind
   ·have:=V.aF p kl
    grind
  ·have ad:k∈(bF σ.φ d .any t).keys:=ad;by_cases aV:t=d
   ·grind [iB,eJ.keys]
   ·rw[hF _ _ aV]at ad;have:=V.IE t k ad
    grind
  ·obtain⟨D,O⟩:=V.ad j e he
   grind
 have O:=h (ks.map E) (by simp[Vo]) _ w rP;have oc:d<a.tmps.size:=by grind [Sat.size]
 have apx:(List.map (a.eval ∘ Operand.tmp) tl)=ks.map E:=by trivial
 refine wp_seq (wp_region ?_);simp[wpOps,go_sem,Exit.then];left;left;rw[al oc,apx,V.defers];refine wp_mono O λe cn M ⟨aO,bl,cd,he,z,ds⟩=>?_
 have I8:=ds.defers;have apy:(ks.map E).length=C.bc.length:=by simp[Vo]
 have still:∀{cK:Nat->Value} {fC:Nat->List Nat} {bu:ca} {xr:World},an aO bl cK fC bu M -> ki (λ_=>True) bu -> cr M [] xr -> an aO bl cK fC bu xr := λ{cK fC bu xr} xz cj ad=>xz.Ip cj [] (λ_=>none) (λk ad=>by cases ad) (λ_ _=>rfl) (λj e he=>by cases he) (λi j e dn _ he=>by cases he) (λ_ _ _ _=>rfl) (λj=>by simp) (by trivial)
 have all:∀{bu:ca},ki (· / 8<cd.n) bu -> ki (λ_=>True) bu := λcj j x aB=>⟨trivial,λ_ _=>trivial⟩
 have plain:∀s6:(ni P aO bl cd fn.results.toList).1/\mi aO bl (yV (ni P aO bl cd fn.results.toList).2) cd.h,Leaves P fn cn.tmps (Ends W bs pins mi oo) cn.defers .returning M := λs6=>by
  rw[I8];refine leaves_cons (f:=f) (args:=(ks.map E).toArray) bq (by simp[go_sem,C.enters]) ?_;refine(C.quiet M _ apy).mono λe tf xr ⟨⟨v,au⟩,hu,ad⟩=>?_
  subst au;subst hu;obtain⟨cK,fC,Vp,xz,kl⟩:=ds.ex;have Qg := still xz (all ds.ad) ad;exact⟨_,LP Vp Qg s6.1,aO,bl,cK,fC,_,_,he,s6.2,rfl,Qg,λp hp=>kl p (sh _ hp)⟩
 cases e with
 |normal=>exact plain z
 |ret=>exact plain z
 |exit i=>exact z.elim
 |goto l=>exact z.elim
 |outgrown=>exact z.elim
 |panic c=>
  obtain⟨pv,dG,rfl,apz,B4,dW⟩:=z;show Leaves P fn cn.tmps (Ends W bs pins mi oo) cn.defers (.panicking _) M;rw[I8];refine leaves_cons (f:=f) (args:=(ks.map E).toArray) bq (by simp[go_sem,C.enters]) ?_;obtain⟨cK,fC,Vp,xz,kl⟩:=ds.ex;obtain⟨g1,g2,g3,g4,g5⟩:=acv Vp xz apz yO
  have apA:ks.map cK=ks.map E:=by
   refine K7 λk ad=>?_
   have:∀(l:aD),k∈l->(k,E k)∈l.zip (l.map E):=by
    intro l
    induction l with
    |nil=>simp
    |cons x l bb=>
     intro h;rcases gG.1 h with rfl|h
     ·simp
     ·simp[bb h]
   exact kl (k,E k) (xn _ (this ks ad))
  rw[apA]at g1 g2;refine(C.Mk M _ _ dG pv g1 g3 g4 B4).mono λe tf xr ⟨⟨v,au⟩,hu,ad,aN⟩=>?_
  subst au;subst hu;have e5:=apw (P:=P) (fn:=fn) aN (C.Mj dG pv B4) g2 hM;have Qg:an aO bl cK fC (dropKeys cd.h ks) xr :=xz.Ip (all ds.ad) ks (λ_=>none) g5 (λ_ _=>rfl) (λj e he=>by cases he) (λi j e dn _ he=>by cases he) (λ_ _ _ _=>rfl) (λj=>by rfl) ad
  exact⟨_,e5,aO,bl,cK,fC,_,_,he,dW,rfl,Qg,λp hp=>kl p (sh _ hp)⟩
end
def ug(j:Nat):List TypeId->List (Nat×eJ)
 |[]=>[]
 |_::r=>(j,.is (.own j 0))::ug (j+1) r
def y7(j:Nat):List TypeId->List (List Value)->List (Nat×bL)
 |T::bc,vs::dG=>(j,.cells T (vs.map .v))::y7 (j+1) bc dG
 |_,_=>[]
def Qh(h:ca):Nat->List TypeId->List (List Value)->Prop
 |_,[],[]=>True
 |j,T::bc,vs::dG=>h j=some (.cells T (vs.map .v))/\Qh h (j+1) bc dG
 |_,_,_=>False
def Gq(j:Nat):List Value->List (Nat×Value)
 |[]=>[]
 |u::r=>(j,u)::Gq (j+1) r
def Vq{p:Nat×eJ}:∀{j:Nat} {bc:List TypeId},p∈ug j bc->∃i,i<bc.length/\p=(j+i,.is (.own (j+i) 0))
 |j,[],h=>by cases h
 |j,T::r,h=>by
  rcases gG.1 h with rfl|h
  ·simp
  ·obtain⟨i,D,rfl⟩:=Vq h;exact⟨i+1,by simpa using D,by grind⟩
def Vr{p:Nat×bL}:∀{j:Nat} {bc:List TypeId} {dG:List (List Value)},p∈y7 j bc dG->∃i T vs,bc[i]?=some T/\dG[i]?=some vs/\p=(j+i,.cells T (vs.map .v))
 |j,[],dG,h=>by trivial
 |j,T::r,[],h=>by cases h
 |j,T::r,vs::dG,h=>by
  rcases gG.1 h with rfl|h
  ·exact⟨0,T,vs,rfl,rfl,rfl⟩
  ·obtain⟨i,c8,AL,D,O,rfl⟩:=Vr h;exact⟨i+1,c8,AL,by trivial,by trivial,by grind⟩
def Vs{p:Nat×Value}:∀{j:Nat} {us:aX},p∈Gq j us->∃i,us[i]?=some p.2/\p.1=j+i
 |j,[],h=>by cases h
 |j,u::r,h=>by
  rcases gG.1 h with rfl|h
  ·simp
  ·obtain⟨i,D,O⟩:=Vs h;exact⟨i+1,by trivial,U⟩
section
variable {P:bR}
def mj.at{w:ar}:∀{us:aX} {fr:aD} {bc:List TypeId} {dG:List (List Value)},mj w us fr bc dG->∀{i:Nat} {T:a6} {vs:aX},bc[i]?=some T->dG[i]?=some vs ->
  ∃b,fr[i]?=some b/\us[i]?=some (.pointer (some ⟨b,0,none⟩))/\w.heap[b]?=some (.cells vs.toArray T (0,0))
 |u::us,b::fr,T::bc,vs::dG,h,0,c8,AL,D,O=>by grind [mj]
 |u::us,b::fr,T::bc,vs::dG,h,i+1,c8,AL,D,O=>by simpa using h.2.2.at (i:=i) (T:=c8) (vs:=AL) (by trivial) (by trivial)
 |[],[],[],[],_,i,T,vs,D,_=>by simp at D
theorem mj.len{w:ar}:∀{us:aX} {fr:aD} {bc:List TypeId} {dG:List (List Value)},mj w us fr bc dG->us.length=bc.length/\fr.length=bc.length/\dG.length=bc.length
 |[],[],[],[],_=>⟨rfl,rfl,rfl⟩
 |u::us,b::fr,T::bc,vs::dG,h=>by
  obtain⟨D,O,B⟩:=mj.len h.2.2
  simp_all
theorem acx(E:dF)(vs:aX):ba E (vs.map .v)=vs:=by rw[q0,DC];exact(K7 (λ_ _=>rfl)).trans (List.map_id vs)
def Cq(bc:List TypeId)(dG:List (List Value)):eG:=⟨1,bK (ug 0 bc),bA (y7 0 bc dG)⟩
def apB{nt m:Nat}{bc:List TypeId}(h:mj w us fr bc dG)(aE:fr.Nodup)(ax:∀b∈fr,b<w.heap.size)(oq:us.length<=7)(jM:us.length+m=nt):
  Sat w fr nt ⟨[],Gq 0 us⟩ (Cq bc dG) { tmps:=us.toArray++Array.replicate m undef,defers:=[] } w:=by
 obtain⟨mP,lT,xL⟩:=h.len;have bo:∀{i:Nat} {b:Nat},fr[i]?=some b->((fr[i]?).toList:aD)=[b]:=λh=>by rw[h];rfl
 refine⟨⟨λj=>us.getD j undef,λj=>(fr[j]?).toList,λt=>?_,⟨λj e he=>?_,λj e he c J=>?_,λj e he c J=>?_,λi j e dn lN hi Y c J=>?_,cr.refl w _⟩,λp hp=>?_⟩,by simp;omega,rfl,λp hp=>?_,λt k ad=>?_,λj e he=>?_⟩
 ·show fits _ (bK (ug 0 bc) t) _;rcases F9 (L:=ug 0 bc) t with A|⟨p,hp,D,O⟩
  ·grind [fits]
  ·rw[O];obtain⟨i,hi,rfl⟩:=Vq hp;simp only[lM]at D;subst D;have apC:i<bc.length:=hi;obtain⟨b,Z,hu,_⟩:=h.at (i:=i) (uS apC) (uS (by omega:i<dG.length))
   simp_all [OL,fits,den,base,p0]
 ·obtain⟨i,T,vs,D,O,B⟩:=Vr (xE he);simp only[lM,ll]at B;obtain⟨rfl,rfl⟩:=B;obtain⟨b,Z,hu,hh⟩:=h.at D O
  grind [acx,e3]
 ·fun_induction mj<;>grind
 ·grind
 ·simp only[Option.mem_toList]at J ⊢;intro yU;have D:=kC.1 J;have O:=kC.1 yU;obtain⟨eM,a2⟩:=D;obtain⟨eh,lU⟩:=O;have aDV:=List.pairwise_iff_getElem.1 aE
  grind
 ·obtain⟨i,D,O⟩:=Vs hp
  simp_all
 ·obtain⟨i,D,O⟩:=Vs hp
  grind [Cq]
 ·have ad:k∈(bK (ug 0 bc) t).keys:=ad;rcases F9 (L:=ug 0 bc) t with A|⟨p,hp,D,O⟩
  ·simp_all [eJ.keys]
  ·rw[O]at ad;obtain⟨i,hi,rfl⟩:=Vq hp
   grind [eJ.keys,ag.keys,Cq]
 ·obtain⟨i,T,vs,D,O,B⟩:=Vr (xE he);simp only[lM,ll]at B;obtain⟨rfl,rfl⟩:=B;have:=(kC.1 D).1;refine⟨by grind [Cq],λi hi=>?_⟩
  grind [so,bL.keys]
theorem Sat.put{W:ar}{bs:aD}{nt:Nat}{az:jN}{σ:eG}{a:Act}{w:ar}(h:Sat W bs nt az σ a w)(t:Nat)(v:aM)(aV:t<nt):Sat W bs nt az ⟨σ.n,bF σ.φ t (.is (.v v)),σ.h⟩ (a.put (some t) v) w:=by
 obtain⟨⟨E,F,aW,V,hp⟩,D,O,B,aU,bn⟩:=h;refine⟨⟨E,F,λs=>?_,V,hp⟩,by simp[Act.put,D],O,B,λs k ad=>?_,bn⟩
 ·show fits E (bF σ.φ t (.is (.v v)) s) ((a.tmps.setIfInBounds t v).getD s undef);by_cases hX:s=t
  ·subst hX;rw[iB,tQ,Array.getElem?_setIfInBounds_self_of_lt U];rfl
  ·rw[hF _ _ hX,tQ,Tf (λe=>hX e.symm),<- tQ];exact aW s
 ·have ad:k∈(bF σ.φ t (.is (.v v)) s).keys:=ad;by_cases hX:s=t
  all_goals grind [eJ.keys,ag.keys,bF,B0]
def Gr(σ:eG)(e x:Nat)(v:aM):eG:=⟨σ.n,bF (bF σ.φ e (.is (.v v))) x (.is (.v v)),σ.h⟩
def Sat.acy{az:jN}{σ:eG}(h:Sat W bs nt az σ a w)(e x:Nat)(v:aM)(he:e<nt)(aB:x<nt):Sat W bs nt az (Gr σ e x v) ((a.put (some e) v).put (some x) v) w:=(h.put e v he).put x v aB
def apD(h:tmps.size=nt):Sat w [] nt ⟨[],[]⟩ ⟨1,bK [],bA []⟩ { tmps:=tmps,defers:=[] } w:=by
 refine⟨⟨λ_=>undef,λ_=>[],λ_=>trivial,⟨λj e he=>?_,λj e he=>?_,λj e he=>?_,λi j e dn _ he=>?_,cr.refl w _⟩,λp hp=>?_⟩,h,rfl,λp hp=>?_,λt k ad=>?_,λj e he=>?_⟩
 all_goals trivial
def Qi{f:dr}{fn:Func}{id e x:Nat}{rest:Code}{nt:Nat}(w:ar)(us:aX)
  (aW:P.funcs[f]?=some fn) (Z:fn.body=some (.seq (.region id #[{ dst:=some e,op:=.call { callee:=.builtin .recover,args:=#[],argTypes:=#[] },type:=Mf,pos:=qe,after:=eM,guard:=none },{ dst:=some x,op:=.assign (.tmp e),type:=Mg,pos:=oP,after:=a2,guard:=none }] false) rest))
  (aI:fn.results.toList=[]) (he:e<nt) (aB:x<nt) (jM:us.length+(fn.ntmps-us.length)=nt)
  (h:ae P w [] nt ⟨[],[]⟩ rest (Fin P [] (λ_ _ _ _=>True) (λ_ _=>False)) (Gr ⟨1,bK [],bA []⟩ e x .nilIface)) :
  CallsD P f us.toArray .returning w λe tf M=>(∃v,e=.returned v)/\tf=.returning/\cr w [] M:=by
 refine callsD_of_wpS aW Z λEd cs hu=>wpS_seq (wpS_region ?_)
 have IH:Sat w [] nt ⟨[],[]⟩ ⟨1,bK [],bA []⟩ { tmps:=us.toArray++Array.replicate (fn.ntmps-us.length) undef,defers:=[] } w:=apD (by simp;omega)
 have e7:=IH.acy e x .nilIface he aB;have D:=h _ w e7;simp[wpOpsS,go_sem,recoverD,hu,Exit.thenS];rw[al U];have J:∀u,Ed.mode=u->Ed::cs={ Ed with mode:=u }::cs:=λu hu=>by subst hu;rfl
 refine wpS_of_wp (wp_mono D λdn cn M ⟨aO,bl,cd,p7,z,ds⟩=>?_);obtain⟨⟨E,F,iN,hh,_⟩,_,ak,_⟩:=ds;have fin:cn.defers=[]/\∃tf,Ed::cs={ Ed with mode:=tf }::cs/\∃v,(results fn cn.tmps).run P M=.ok v M/\(∃eT,Ending.returned v=.returned eT)/\tf=.returning/\cr w [] M :=⟨ak,_,J _ hu,_,LP iN hh (by grind [ni]),⟨_,rfl⟩,rfl,(hh.back p7).keeps⟩
 cases dn with
 |normal=>exact fin
 |ret=>exact fin
 |panic c=>exact z.elim
 |exit i=>exact z.elim
 |goto l=>exact z.elim
 |outgrown=>exact z.elim
def acz{W:ar}{bs:aD}{E:dF}{F:lK}{h:ca}{w:ar}(hh:an W bs E F h w):∀{j:Nat} {us:aX} {fr:aD} {bc:List TypeId} {dG:List (List Value)} {y8:ar} {Qj:List (List Value)},mj y8 us fr bc Qj->Qh h j bc dG->(∀p∈Gq j us,E p.1=p.2)->mj w us fr bc dG
 |j,[],[],[],[],y8,[],_,_,_=>trivial
 |j,u::us,b::fr,T::bc,vs::dG,y8,v0::Qj,aN,J,hp=>by obtain⟨D,O⟩:=J;obtain⟨p6,hu,bo,Z⟩:=hh.hc j _ D;have bg:=hp (j,u) (by simp[Gq]);simp only at bg;rw[bg,aN.1]at hu;simp only[Value.pointer.injEq,qo,Addr.mk.injEq,we]at hu;subst hu;rw[acx]at Z;exact⟨aN.1,Z,acz hh aN.2.2 O λp kl=>hp p (by simp[Gq,kl])⟩
 |j,[],[],[],_::_,y8,[],_,J,_=>J.elim
 |j,u::us,b::fr,T::bc,[],y8,v0::Qj,_,J,_=>J.elim
def Qk{f:dr}{fn:Func}{id e x:Nat}{rest:Code}{nt:Nat}{w:ar}{us:aX}{fr:aD}{bc:List TypeId}{dG:List (List Value)}{pv:aM}{out:List (List Value)}
  (aW:P.funcs[f]?=some fn) (Z:fn.body=some (.seq (.region id #[{ dst:=some e,op:=.call { callee:=.builtin .recover,args:=#[],argTypes:=#[] },type:=Mf,pos:=qe,after:=eM,guard:=none },{ dst:=some x,op:=.assign (.tmp e),type:=Mg,pos:=oP,after:=a2,guard:=none }] false) rest))
  (aI:fn.results.toList=[]) (he:e<nt) (aB:x<nt) (jM:us.length+(fn.ntmps-us.length)=nt) (aN:mj w us fr bc dG) (aE:fr.Nodup) (ax:∀b∈fr,b<w.heap.size) (oq:us.length<=7)
  (h:∀us:List Value,us.length=bc.length->ae P w fr nt ⟨[],Gq 0 us⟩ rest (Fin P [] (λ_ _ _ h=>Qh h 0 bc out) (λ_ _=>False)) (Gr (Cq bc dG) e x pv)) :
  CallsD P f us.toArray (.panicking [{ v:=pv,recovered:=false }]) w λe tf M=>(∃v,e=.returned v)/\tf=.panicking [{ v:=pv,recovered:=true }]/\cr w fr M/\mj M us fr bc out:=by
 refine callsD_of_wpS aW Z λEd cs hu=>wpS_seq (wpS_region ?_)
 have e7:=(apB aN aE ax oq jM).acy e x pv he aB;have D:=h us aN.len.1 _ w e7;simp[wpOpsS,go_sem,recoverD,hu,Exit.thenS];rw[al U];refine wpS_of_wp (wp_mono D λdn cn M ⟨aO,bl,cd,p7,z,ds⟩=>?_);obtain⟨⟨E,F,iN,hh,hp⟩,_,ak,_⟩:=ds
 have fin:((ni P aO bl cd []).1/\Qh cd.h 0 bc out)->cn.defers=[]/\∃tf,{ Ed with mode:=.panicking [{ v:=pv,recovered:=true }] }::cs={ Ed with mode:=tf }::cs/\∃v,(results fn cn.tmps).run P M=.ok v M/\(∃eT,Ending.returned v=.returned eT)/\tf=.panicking [{ v:=pv,recovered:=true }]/\cr w fr M/\mj M us fr bc out:=λz=>⟨ak,_,rfl,_,LP iN hh (by simp_all),⟨_,rfl⟩,rfl,(hh.back p7).keeps,acz hh aN z.2 hp⟩
 cases dn with
 |normal=>exact fin z
 |ret=>exact fin z
 |panic c=>exact z.elim
 |exit i=>exact z.elim
 |goto l=>exact z.elim
 |outgrown=>exact z.elim
end
section
variable {P:bR}{fn:Func}{nt:Nat}{pins:List (Nat×Value)}{mi:World->List Nat->ag->ca->Prop}{oo:List PanicEntry->ca->Prop}{W:ar}{bs:aD}{σ:eG}
def acA{f:dr}{args:hE}{v:aM}(aW:P.funcs[f]?=some fn)(Z:fn.body=some c)(jM:args.size+(fn.ntmps-args.size)=nt)
  (h:kW P fn nt [] (λ_ _ x _=>∀E,den E x=v) (λ_ _=>False) w [] c (qw args.toList)):Calls P f args w λe M=>e=.returned v/\cr w [] M:=by
 refine(acu aW Z (LV args jM) h).mono λe M he=>?_
 cases e with
 |returned u=>
  obtain⟨aO,bl,E,F,x,h,aB,dW,rfl,V,_⟩:=he
  grind [Ext.ir,an.keeps]
 |panicked c=>grind [Ends]
 |outgrown=>exact he.elim
def kW.seq'(hM:fn.results.toList=rs){x y:Code}(h:ae P W bs nt ⟨[],pins⟩ x (yT (λaO bl cd=>kW P fn nt pins mi oo aO bl y cd) (Fin P rs mi oo)) σ):kW P fn nt pins mi oo W bs (.seq x y) σ:=by grind [kW.seq]
def kW.Ql(aI:fn.results.toList=rs){f:dr}(C:Ec P f)(tl ks:aD){id d:Nat}{acB:Array Operand}
  (aDW:acB=(tl.map Operand.tmp).toArray) (yO:ks.Nodup) (hM:rs=I7 tl C.bc) (ak:d<nt) (hlen:tl.length=C.bc.length) (Vo:ks.length=C.bc.length)
  (Ml:∀p∈tl.zip ks,σ.φ p.1=.is (.own p.2 0)) (acw:∀k∈ks,∃T vs,σ.h k=some (.cells T vs))
  (h:∀us:List Value,us.length=C.bc.length->ae P W bs nt ⟨[Qf f us],ks.zip us++pins⟩ y (nn C rs tl ks mi oo) ⟨σ.n+2,bF σ.φ d .any,σ.h⟩) :
  kW P fn nt pins mi oo W bs (.seq (.region id #[{ dst:=some d,op:=.makeFunc (.func f) #[] acB,type:=Mf,pos:=qe,after:=eM,guard:=none },{ dst:=none,op:=.defer { callee:=.value (.tmp d),args:=#[],argTypes:=#[] },type:=Mg,pos:=oP,after:=a2,guard:=none }] false) y) σ:=by
 grind [kW.defer]
variable {f:dr}(C:Ec P f)(rs:List ResultVar)(tl ks:aD)
end
def rb{P:bR}{az:jN}{Q:og}{σ:eG}{x y:Code}{ι:Type}(aFa:ι->eG)(aFc:ι->World)(aFe:ι->List Nat)(ok:ι->Prop)
  (D:ae P W bs nt az x (yT (λaO bl bB=>∃p,ok p/\aFc p=aO/\aFe p=bl/\qv aO bl nt az bB (aFa p)) Q) σ)
  (O:∀p,ok p->Ext W bs (aFc p) (aFe p)->ae P (aFc p) (aFe p) nt az y Q (aFa p)):ae P W bs nt az (.seq x y) Q σ:=λa w V=>
 wp_seq (wp_mono (D a w V) λe cn M ⟨aO,bl,bB,he,z,ds⟩=>by
  cases e with
  |normal=>
   obtain⟨p,hp,rfl,rfl,hle⟩:=z
   exact wp_mono (O p hp he cn M (hle cn M ds)) λdn aln xr hh=>Ut he hh
  |_=>trivial)
section
variable {P:bR}(κ:Nat)(h:ca)(T:a6)
theorem apE(k:Nat)(rL:IntKind)(b:Int):BV P κ h T false true false [.ak k,.v (.int rL b)]=Ix P κ k b (P.underlying T) (h k):=rfl
theorem apF(k:Nat)(b:Int)(e s n hf:Nat)(vs:List ag):Lw κ k b e s n vs (some hf)=⟨hf=s/\0<=b/\b.toNat<=n,.ak (8*κ),[(k,none),(8*κ,some (.row e s b.toNat (vs.take (b.toNat*s))))],none,[],[k]⟩:=rfl
end
def apG:=I @apE <| I @Ix.eq_1 @apF
def Vt:∀(L:List (Nat×Option bL)) (f:ca) (j:Nat),(∀p∈L,∃e,p.2=some e)->dJ f L j=match dJ (λ_=>none) L j with|some e=>some e|none=>f j
 |[],f,j,_=>rfl
 |(i,x)::r,f,j,gi=>by
  obtain⟨e,rfl⟩:=gi (i,x) bq;have aI:∀p∈r,∃e,p.2=some e:=λp hp=>gi p (by simp[hp])
  simp only[dJ];rw[Vt r (bF f i _) j aI,Vt r (bF (λ_=>none) i _) j aI]
  grind [bF]
section
variable {P:bR}{W:ar}{bs:aD}{E:dF}{F:lK}{h:ca}{w:ar}
def acC(m:Nat->Src){aE9:List (Nat×bL)}(V:an W bs E F h w)(hh:AF m h aE9)(aE:(u9 m aE9).Nodup):an W bs (q6 E m) (pn F m) (bA aE9) w:=by
 have at':∀k e,bA aE9 k=some e->AE m h k e:=λk e he=>Uv hh _ (xE he)
 have key:∀k e j,bA aE9 k=some e->m k=.key j->h j=some (lR m e):=λk e j he Y=>by
  have:=at' k e he
  simp_all [AE]
 refine⟨λk e he=>?_,λk e he b Z=>?_,λk e he b Z=>?_,λk eS e dn eL he ma b Z=>?_,V.keeps⟩
 ·cases hm:m k with
  |key j=>simp only[q6,pn,hm];exact abi (V.hc j _ (key k e j he hm))
  |nil=>
   have:=at' k e he;simp only[AE,hm]at this;cases e with
   |row T s n vs=>obtain⟨A,rfl,rfl⟩:=this;simp only[q6,pn,hm];exact⟨⟨by simp[ba],.inl ⟨rfl,rfl⟩⟩,rfl⟩
   |cells T vs=>trivial
   |mp ks vs=>trivial
   |obj d R=>trivial
 ·cases hm:m k with
  |key j=>simp only[pn,hm]at Z;exact V.lt j _ (key k e j he hm) b Z
  |nil=>simp_all [pn]
 ·cases hm:m k with
  |key j=>simp only[pn,hm]at Z;exact V.nK j _ (key k e j he hm) b Z
  |nil=>simp_all [pn]
 ·cases hm:m k with
  |nil=>simp_all [pn]
  |key i=>
   cases rK:m eS with
   |nil=>simp_all [pn]
   |key j=>simp only[pn,hm,rK]at Z ⊢;exact V.apart i j _ _ (Uw aE _ (xE he) _ (xE ma) eL i j hm rK) (key k e i he hm) (key eS dn j ma rK) b Z
mutual
def Vu{m:Nat->Src}{j:Nat}:∀x:ag,j∈(gU m x).keys->∃k∈x.keys,m k=.key j
 |.v x,h=>by simp[gU,ag.keys]at h
 |.own k o,h=>by
  simp only[gU]at h;cases hm:m k with
  |key i=>rw[hm]at h;simp[ag.keys]at h;exact⟨k,by simp[ag.keys],by rw[hm,h]⟩
  |nil=>rw[hm]at h;simp[ag.keys]at h
 |.ak k,h=>by
  simp only[gU]at h;cases hm:m k with
  |key i=>rw[hm]at h;simp[ag.keys]at h;exact⟨k,by simp[ag.keys],by rw[hm,h]⟩
  |nil=>rw[hm]at h;simp[ag.keys]at h
 |.agg l,h=>by simp only[gU,ag.keys]at h ⊢;exact Ee l h
 |.iK l,h=>by simp only[gU,ag.keys]at h ⊢;exact Ee l h
 |.jL t x,h=>by simp only[gU,ag.keys]at h ⊢;exact Vu x h
 |.part k i,h=>by
  simp only[gU]at h;cases hm:m k with
  |key i=>rw[hm]at h;simp[ag.keys]at h;exact⟨k,by simp[ag.keys],by rw[hm,h]⟩
  |nil=>rw[hm]at h;simp[ag.keys]at h
 |.fn f a c,h=>by
  simp only[gU,ag.keys,hq]at h ⊢;rcases h with h|h
  ·obtain⟨k,ad,hm⟩:=Ee a h;exact⟨k,.inl ad,hm⟩
  ·obtain⟨k,ad,hm⟩:=Ee c h;exact⟨k,.inr ad,hm⟩
def Ee{m:Nat->Src}{j:Nat}:∀l:List ag,j∈cP (mM m l)->∃k∈cP l,m k=.key j
 |[],h=>by simp[mM,cP]at h
 |x::r,h=>by
  simp only[mM,cP,hq]at h ⊢;rcases h with h|h
  ·obtain⟨k,ad,hm⟩:=Vu x h;exact⟨k,.inl ad,hm⟩
  ·obtain⟨k,ad,hm⟩:=Ee r h;exact⟨k,.inr ad,hm⟩
end
def apH{m:Nat->Src}{j:Nat}(e:bL)(h:j∈(lR m e).keys):∃k∈e.keys,m k=.key j:=by
 cases e with
 |cells T vs=>exact Ee vs h
 |row T s n vs=>exact Ee vs h
 |mp ks vs=>exact Ee vs h
 |obj d R=>cases h
def apI{m:Nat->Src}{u:aM}{fp:aD}{e:bL}(h:e3 (q6 E m) u fp w e):e3 E u fp w (lR m e):=by
 cases e with
 |cells T vs=>grind [xD,e3,lR]
 |row T s n vs=>grind [xD,e3,lR]
 |mp ks vs=>grind [xD,e3,lR]
 |obj d R=>exact h
def ml(κ:Nat)(m:aD)(k:Nat):Nat:=if k<8 then m.getD k 0 else 8*κ+(k-8)
def mp(κ:Nat)(m:aD)(k:Nat):Src:=.key (ml κ m k)
def fresh(k:Nat):Prop:=8<=k/\k<16
def xN(κ:Nat)(m:aD)(h:ca):List (Nat×bL)->Prop
 |[]=>True
 |(k,e)::r=>h (ml κ m k)=some (lR (mp κ m) e)/\xN κ m h r
def pz(κ:Nat)(m:aD):List (Nat×bL)->List Nat
 |[]=>[]
 |(k,_)::r=>ml κ m k::pz κ m r
def tg(κ:Nat)(m:aD):List (Nat×bL)->List (Nat×Option bL)
 |[]=>[]
 |(k,e)::r=>(ml κ m k,some (lR (mp κ m) e))::tg κ m r
def Ef(κ:Nat)(m:aD)(h:ca)(args apJ:List ag)(L jw:List (Nat×bL))(val:ag)(pre:Prop):R:=⟨(args=mM (mp κ m) apJ/\xN κ m h L/\(pz κ m L).Nodup)/\pre,gU (mp κ m) val,vg (pz κ m L)++tg κ m jw,none,[],pz κ m L⟩
def acD{κ:Nat}{m:aD}:∀{L:List (Nat×bL)},xN κ m h L->AF (mp κ m) h L
 |[],_=>trivial
 |(k,e)::r,aN=>⟨aN.1,acD aN.2⟩
def acE{κ:Nat}{m:aD}:∀{L:List (Nat×bL)},u9 (mp κ m) L=pz κ m L
 |[]=>rfl
 |(k,e)::r=>by simp only[u9,pz,mp,Tl];rw[<- acE (κ:=κ) (m:=m) (L:=r)]
def I9{κ:Nat}{m:aD}:∀{L:List (Nat×bL)} {k:Nat} {e:bL},xN κ m h L->(k,e)∈L->h (ml κ m k)=some (lR (mp κ m) e)
 |(pA,cv)::r,k,e,aN,hm=>by
  rcases gG.1 hm with hm|hm
  ·grind [xN]
  ·exact I9 aN.2 hm
theorem Ja{κ:Nat}{m:aD}{j:Nat}:∀{L:List (Nat×bL)},j∈pz κ m L ↔ ∃p∈L,ml κ m p.1=j
 |[]=>by simp[pz]
 |(k,e)::r=>by
  simp only[pz,gG,Ja (L:=r)]
  grind
def acF{κ:Nat}{m:aD}:∀{L:List (Nat×bL)},(pz κ m L).Nodup->∀p∈L,∀q∈L,ml κ m p.1=ml κ m q.1->p.1=q.1
 |(k,e)::r,aE,p,hp,q,z,he=>by
  obtain⟨D,O⟩:=DA.1 aE;rcases gG.1 hp with rfl|kl
  ·fun_induction pz<;>grind [pz]
  ·rcases gG.1 z with rfl|s6
   ·grind [Ja]
   ·exact acF O p kl q s6 he
def Jb{κ:Nat}{m:aD}{q:Nat×Option bL}:∀{L:List (Nat×bL)},q∈tg κ m L ↔ ∃p∈L,q=(ml κ m p.1,some (lR (mp κ m) p.2))
 |[]=>by simp[tg]
 |(k,e)::r=>by simp only[tg,gG,Jb (L:=r)];simp
def apK:∀{L:List (Nat×bL)} {k:Nat} {e:bL},(L.map (·.1)).Nodup->(k,e)∈L->bA L k=some e
 |(pA,cv)::r,k,e,aE,hm=>by
  simp only[fc,DA]at aE;simp only[bA];rcases gG.1 hm with hm|hm
  ·grind [iB]
  ·fun_induction bA<;>grind [bF]
end
structure Gs (P:bR)(f:dr) where
 args:List ag
 L:List (Nat×bL)
 val:ag
 jw:List (Nat×bL)
 ir:List Nat
 pre:World->List Nat->Prop
 low:∀p∈L,p.1<8
 kept:∀k∈ir,∃e,(k,e)∈L
 Qm:∀k∈val.keys,k∈ir\/fresh k
 Gt:∀p∈jw,(p.1∈ir\/fresh p.1)/\∀k∈p.2.keys,k∈ir\/fresh k
 aH:(jw.map (·.1)).Nodup
 enters:∀args w,(callFunc f args).run P w=.ok (.enter f args) w
 ok:∀(W w:ar) (bs fp:aD) (E:dF) (F:lK),cr W bs w->(∀b∈fp,W.heap.size<=b\/b∈bs)->an w fp E F (bA L) w->pre W bs ->
  Calls P f (ba E args).toArray w λe M=>∃cK fC,e=.returned (den cK val)/\(∀k∈ir,cK k=E k)/\an w fp cK fC (bA jw) M
def Qn{κ k:Nat}{m:aD}(h:fresh k):ml κ m k/8=κ:=by grind [ml,fresh]
def Gs.spec{P:bR}{f:dr}(p:Gs P f)(m:aD):Spec P f where
 aJ:=λW bs κ h args=>Ef κ m h args p.args p.L p.jw p.val (p.pre W bs)
 Ar:=λW bs κ E F h w K args V cj ad aB aS=>by
  rw[p.enters];obtain⟨⟨rfl,aN,aE⟩,hp⟩:=aS;have Jc:∀k∈p.ir,K (ml κ m k):=λk e4=>by obtain⟨e,he⟩:=p.kept k e4;exact(cj _ _ (I9 aN he)).1
  have A:=acC (mp κ m) V (acD aN) (by rw[acE];exact aE);have D:an w ((pz κ m p.L).flatMap F) (q6 E (mp κ m)) (pn F (mp κ m)) (bA p.L) w:=⟨A.hc,A.lt,λk e he b Z=>.inr (sj.2 ⟨ml κ m k,Ja.2 ⟨_,xE he,rfl⟩,Z⟩),A.apart,cr.refl w _⟩
  have nK:∀b∈(pz κ m p.L).flatMap F,W.heap.size<=b\/b∈bs:=λb Z=>by obtain⟨j,Y,iu⟩:=sj.1 Z;obtain⟨q,z,rfl⟩:=Ja.1 Y;exact V.nK _ _ (I9 aN z) b iu
  have S:∀k,(k∈p.ir\/fresh k)->∀eS,(eS ∈ p.ir\/fresh eS)->ml κ m k=ml κ m eS -> k=eS := λk D eS O he=>by
   rcases D with D|D
   ·rcases O with O|O
    ·obtain⟨e,hm⟩:=p.kept k D;obtain⟨dn,rK⟩:=p.kept eS O;exact acF aE _ hm _ rK he
    ·exact absurd (Jc k D) (ad _ (by rw[he];exact Qn O))
   ·rcases O with O|O
    ·exact absurd (Jc eS O) (ad _ (by rw[<- he];exact Qn D))
    ·obtain⟨eM,a2⟩:=D;obtain⟨eh,lU⟩:=O;unfold ml at he;rw[ab U,ab U]at he;omega
  simp only[Ef,Good,sq];rw[xD];refine(p.ok W w bs _ _ _ V.keeps nK D hp).mono λe M he=>?_
  obtain⟨cK,fC,rfl,I2,ds⟩:=he
  classical
  let dA:Nat->Option Nat:=λj=>if Y:∃k,(k∈p.ir\/fresh k)/\ml κ m k=j then some Y.choose else none
  have acG:∀k,(k∈p.ir\/fresh k)->dA (ml κ m k)=some k:=λk e4=>by have hex:∃eS,(eS ∈ p.ir\/fresh eS)/\ml κ m eS=ml κ m k:=⟨k,e4,rfl⟩;have:=hex.choose_spec;simp only[dA,dif_pos hex,qo];exact S _ this.1 _ e4 this.2
  have acH:∀j k,dA j=some k->(k∈p.ir\/fresh k)/\ml κ m k=j:=λj k Y=>by
   simp only[dA]at Y;split at Y
   ·rename_i hex;cases Y;exact hex.choose_spec
   ·cases Y
  let Jd:Nat->Value:=λj=>match dA j with|some k=>cK k|none=>E j
  let Mm:Nat->List Nat:=λj=>match dA j with|some k=>if k∈p.jw.map (·.1) then fC k else F j|none=>F j
  have bN:∀k,(k∈p.ir\/fresh k)->Jd (ml κ m k)=cK k:=λk e4=>by simp only[Jd,acG k e4]
  have agree:∀j,j/8≠κ->Jd j=E j:=λj Y=>by
   simp only[Jd];cases Z:dA j with
   |none=>rfl
   |some k=>
    obtain⟨O,rfl⟩:=acH j k Z;rcases O with O|O
    ·simp only;rw[I2 k O];rfl
    ·exact absurd (Qn O) Y
  have acI:∀k,(k∈p.ir\/fresh k)->q6 Jd (mp κ m) k=cK k:=λk e4=>bN k e4
  refine⟨trivial,Jd,Mm,agree,?_,?_⟩
  ·rw[DW];exact Li _ λk e4=>(acI k (p.Qm k e4)).symm
  have db:∀j e,dJ (λ_=>none) (tg κ m p.jw) j=some e->∃q∈p.jw,j=ml κ m q.1/\e=lR (mp κ m) q.2/\dA j=some q.1/\Mm j=fC q.1/\bA p.jw q.1=some q.2:=λj e he=>by
   rcases LL (λ_=>(none:Option bL)) (k:=j) (u:=tg κ m p.jw) with⟨x,aB,p7⟩|⟨_,p7⟩
   ·rw[p7]at he;subst he;obtain⟨q,z,Mn⟩:=Jb.1 aB;simp only[ll,qo]at Mn;obtain⟨rfl,rfl⟩:=Mn;have Z:=acG q.1 (p.Gt q z).1;exact⟨q,z,rfl,rfl,Z,by simp only[Mm,Z];rw[al (qp.2 ⟨q,z,rfl⟩)],apK p.aH z⟩
   ·rw[p7]at he;cases he
  have ei:∀j,dJ (λ_=>none) (tg κ m p.jw) j=none->Mm j=F j:=λj he=>by
   simp only[Mm];cases Z:dA j with
   |none=>rfl
   |some k=>
    simp only;split
    ·rename_i hm;obtain⟨q,z,rfl⟩:=qp.1 hm;obtain⟨_,rfl⟩:=acH j _ Z;rcases LL (λ_=>(none:Option bL)) (k:=ml κ m q.1) (u:=tg κ m p.jw) with⟨x,aB,p7⟩|⟨aB,_⟩
     ·rw[p7]at he;subst he;obtain⟨Vv,_,Mn⟩:=Jb.1 aB;simp at Mn
     ·exact absurd (qp.2 ⟨_,Jb.2 ⟨q,z,rfl⟩,rfl⟩) aB
    ·rfl
  refine V.Ip cj (pz κ m p.L) (dJ (λ_=>none) (tg κ m p.jw)) (λj Y=>?_) (λj Y=>agree j λe=>ad j e Y) (λj e he=>?_) (λi j e dn lN hi Y b Z=>?_) (λj x aB Y=>ei j Y) (λj=>?_) ds.keeps
  ·obtain⟨q,z,rfl⟩:=Ja.1 Y;exact⟨_,I9 aN z⟩
  ·obtain⟨q,z,rfl,rfl,Z,bo,s6⟩:=db j e he;rw[bo,bN q.1 (p.Gt q z).1];refine⟨?_,λb Z=>?_,λb Z=>ds.lt q.1 _ s6 b Z⟩
   ·refine apI ?_;exact TL (λk e4=>(acI k ((p.Gt q z).2 k e4)).symm) (ds.hc q.1 _ s6)
   ·rcases ds.nK q.1 _ s6 b Z with g|g
    ·exact .inr g
    ·obtain⟨j,Y,iu⟩:=sj.1 g;exact .inl ⟨j,Y,iu⟩
  ·obtain⟨q,z,rfl,rfl,_,bo,s6⟩:=db i e hi;obtain⟨r,aI,rfl,rfl,_,wx,xO⟩:=db j dn Y;rw[bo]at Z;rw[wx];exact ds.apart q.1 r.1 _ _ (λe=>lN (by rw[e])) s6 xO b Z
  ·have FH:∀q∈tg κ m p.jw,∃e,q.2=some e:=λq z=>by
    obtain⟨r,_,rfl⟩:=Jb.1 z;exact⟨_,rfl⟩
   rw[IX,Vt _ _ _ FH,IY];cases dJ (λ_=>none) (tg κ m p.jw) j with
   |some e=>rfl
   |none=>rfl
 keys:=λW bs κ h K args cj aB aS=>by
  obtain⟨⟨rfl,aN,aE⟩,hp⟩:=aS;have Jc:∀k,(k∈p.ir\/fresh k)->K (ml κ m k)\/ml κ m k/8=κ:=λk e4=>by
   rcases e4 with e4|e4
   ·obtain⟨e,he⟩:=p.kept k e4;exact .inl (cj _ _ (I9 aN he)).1
   ·exact .inr (Qn e4)
  refine⟨λj Y=>?_,λq z=>?_⟩
  ·obtain⟨k,ad,hm⟩:=Vu _ Y;cases hm;exact Jc k (p.Qm k ad)
  ·rcases hq.1 z with z|z
   ·simp only[vg,qp]at z;obtain⟨j,Y,rfl⟩:=z;obtain⟨r,aI,rfl⟩:=Ja.1 Y;exact⟨.inl (cj _ _ (I9 aN aI)).1,λe he=>by cases he⟩
   ·obtain⟨r,aI,rfl⟩:=Jb.1 z;refine⟨Jc _ (p.Gt r aI).1,λe he j Y=>?_⟩;simp only[qo]at he;subst he;obtain⟨k,ad,hm⟩:=apH _ Y;cases hm;exact Jc k ((p.Gt r aI).2 k ad)
 loc:=λW bs κ h bu args aS aI=>by
  have:∀L:List (Nat×bL),(∀k∈pz κ m L,bu k=h k)->xN κ m bu L=xN κ m h L:=λL=>by
   induction L with
   |nil=>exact λ_=>rfl
   |cons q r bb=>intro z;simp only[xN];rw[z _ (by simp[pz]),bb λk ad=>z k (by simp[pz,ad])]
  simp only[Ef];rw[this p.L aI]
theorem apL{P:bR}{f:dr}(p:Gs P f)(m:aD)(W:ar)(bs:aD)(κ:Nat)(h:ca)(l:List ag):(p.spec m).aJ W bs κ h l=Ef κ m h l p.args p.L p.jw p.val (p.pre W bs):=rfl
def wy:List ag->Nat->List (Nat×eJ)
 |[],_=>[]
 |x::r,i=>(i,.is x)::wy r (i+1)
def acJ(E:dF):∀(l:List ag) (i t:Nat) (fV:dF),(∀j (h:j<(ba E l).length),fV (i+j)=(ba E l)[j])->fits E (bK (wy l i) t) (fV t)
 |[],_,_,_,_=>trivial
 |x::r,i,t,fV,h=>by
  simp only[wy,bK,bF];split
  ·rename_i aV;subst aV;have:=h 0 (by simp[ba]);trivial
  ·exact acJ E r (i+1) t fV λj Y=>by
    have:=h (j+1) (by simp_all [ba])
    grind [ba]
def acK(ir:aD)(val:ag)(jw:List (Nat×bL))(x:ag)(h:ca):Prop:=∃m:Nat->Src,x=gU m val/\AF m h jw/\(u9 m jw).Nodup/\∀k∈ir,m k=.key k
def acL{P:bR}{f:dr}{fn:Func}{c:Code}{w:ar}{fp:aD}{E:dF}{F:lK}{nt:Nat}{ir:aD}{args:List ag}{L jw:List (Nat×bL)}{val:ag}(rs:List ResultVar)
  (V:an w fp E F (bA L) w) (apM:F8 1 (wy args 0) L) (xP:∀k∈ir,k<8)
  (aW:P.funcs[f]?=some fn) (Z:fn.body=some c) (hM:fn.results.toList=rs) (jM:args.length+(fn.ntmps-args.length)=nt)
  (h:ae P w fp nt ⟨[],ir.map λk=>(k,E k)⟩ c (Fin P rs (λ_ _ x bu=>acK ir val jw x bu) (λ_ _=>False)) ⟨1,bK (wy args 0),bA L⟩) :
  Calls P f (ba E args).toArray w λe M=>∃cK fC,e=.returned (den cK val)/\(∀k∈ir,cK k=E k)/\an w fp cK fC (bA jw) M:=by
 subst hM;have bP:(ba E args).toArray.size=args.length:=by simp[pj]
 have lp:Sat w fp nt ⟨[],ir.map λk=>(k,E k)⟩ ⟨1,bK (wy args 0),bA L⟩ { tmps:=(ba E args).toArray++Array.replicate (fn.ntmps-(ba E args).toArray.size) undef,defers:=[] } w:=by
  refine⟨⟨E,F,λt=>?_,V,λp hp=>?_⟩,by simp_all,rfl,λp hp=>?_,λt k ad=>?_,λk e he=>?_⟩
  ·refine acJ E args 0 t (λt=>((ba E args).toArray++Array.replicate (fn.ntmps-(ba E args).toArray.size) undef).getD t undef) λj Y=>?_
   rw[lM,tQ,OL (by trivial)]
   grind
  ·grind
  ·grind
  ·rcases F9 (L:=wy args 0) t with g|⟨p,hp,_,g⟩
   all_goals grind [F8,eJ.keys]
  ·exact apM.2 _ (xE he)
 refine(LQ aW Z lp h).mono λe M he=>?_
 cases e with
 |returned v=>
  obtain⟨aO,bl,apN,apO,x,bu,aB,⟨m,rfl,hle,aE,hm⟩,rfl,e7,hp⟩:=he;refine⟨q6 apN m,pn apO m,by rw[DW],λk ad=>?_,acC m (e7.back aB) hle aE⟩
  simp_all [q6]
 |panicked c=>grind [Ends]
 |outgrown=>exact he.elim
end
end Go.LE
namespace Go.Proofs.YtnemkecffmdlnaaGreatDoor
section
open Go.RowKit Go.LE
variable{W:ar}{bs:aD}{nt:Nat}{az:jN}
def th{p:Prop}(h:p:=by(repeat' apply And.intro)<;>exact mN):p:=h
def apP:ah Tryz.prog 0=some 1/\bM Tryz.prog 0=some false/\ah Tryz.prog 1=some 1/\bM Tryz.prog 1=some false/\ct Tryz.prog 1=some [Value.nilFunc]/\ah Tryz.prog 2=some 1/\bM Tryz.prog 2=some false/\ct Tryz.prog 2=some [Value.int IntKind.i64 0]/\Program.underlying Tryz.prog 2=some (.int IntKind.i64)/\ah Tryz.prog 3=some 1/\bM Tryz.prog 3=some false/\ln Tryz.prog 3=some 8/\ct Tryz.prog 3=some [Value.int IntKind.i64 0]/\Program.underlying Tryz.prog 3=some (.int IntKind.i64)/\ah Tryz.prog 4=some 1/\bM Tryz.prog 4=some false/\ct Tryz.prog 4=some [Value.bool false]/\Program.underlying Tryz.prog 4=some .bool/\ah Tryz.prog 5=some 1/\bM Tryz.prog 5=some false/\ln Tryz.prog 5=some 1/\ct Tryz.prog 5=some [Value.int IntKind.u8 0]/\Program.underlying Tryz.prog 5=some (.int IntKind.u8)/\ah Tryz.prog 9=some 1/\bM Tryz.prog 9=some false/\ln Tryz.prog 9=some 16/\ct Tryz.prog 9=some [Value.string { data:=#[] }]/\Program.underlying Tryz.prog 9=some .string/\Program.concrete Tryz.prog 9=true/\ah Tryz.prog 20=some 1/\bM Tryz.prog 20=some false/\ct Tryz.prog 20=some [Value.nilIface]/\isIface Tryz.prog 20=some true/\ah Tryz.prog 22=some 1/\bM Tryz.prog 22=some false/\ct Tryz.prog 22=some [Value.slice none 0 0]/\Program.underlying Tryz.prog 22=some (.slice 9)/\ah Tryz.prog 37=some 1/\bM Tryz.prog 37=some false/\ct Tryz.prog 37=some [Value.int IntKind.i64 0]:=th
def apQ:Program.underlying Tryz.prog 37=some (.int IntKind.i64)/\ah Tryz.prog 39=some 3/\bM Tryz.prog 39=some true/\kE Tryz.prog 39=some (.agg #[Value.int IntKind.i64 0,Value.int IntKind.i64 0,Value.string { data:=#[] }])/\ct Tryz.prog 39=some [Value.int IntKind.i64 0,Value.int IntKind.i64 0,Value.string { data:=#[] }]/\gT Tryz.prog 39=some [(0,1),(1,1),(2,1)]/\isIface Tryz.prog 39=some false/\Program.concrete Tryz.prog 39=true/\b4 Tryz.prog 39 0=some (0,1,false)/\b4 Tryz.prog 39 1=some (1,1,false)/\b4 Tryz.prog 39 2=some (2,1,false)/\ah Tryz.prog 62=some 1/\bM Tryz.prog 62=some false/\ct Tryz.prog 62=some [Value.slice none 0 0]/\ah Tryz.prog 64=some 2/\bM Tryz.prog 64=some true/\ct Tryz.prog 64=some [Value.slice none 0 0,Value.int IntKind.i64 0]/\gT Tryz.prog 64=some [(0,1),(1,1)]/\b4 Tryz.prog 64 0=some (0,1,false)/\b4 Tryz.prog 64 1=some (1,1,false)/\ah Tryz.prog 89=some 1/\bM Tryz.prog 89=some false/\ct Tryz.prog 89=some [Value.slice none 0 0]/\Program.underlying Tryz.prog 89=some (.slice 5)/\ah Tryz.prog 145=some 1/\bM Tryz.prog 145=some false/\ah Tryz.prog 149=some 1/\bM Tryz.prog 149=some false/\ct Tryz.prog 149=some [Value.slice none 0 0]/\Program.underlying Tryz.prog 149=some (.slice 3)/\ah Tryz.prog 151=some 1/\bM Tryz.prog 151=some false/\ct Tryz.prog 151=some [Value.nilIface]/\isIface Tryz.prog 151=some true/\ah Tryz.prog 152=some 1/\bM Tryz.prog 152=some false/\ah Tryz.prog 203=some 1/\bM Tryz.prog 203=some false/\ct Tryz.prog 203=some [Value.int IntKind.u64 0]/\Program.underlying Tryz.prog 203=some (.int IntKind.u64):=th
def apR:ah Tryz.prog 229=some 1/\bM Tryz.prog 229=some false/\ct Tryz.prog 229=some [Value.pointer none]/\p5 Tryz.prog 229=some true/\Program.underlying Tryz.prog 229=some (.pointer 232)/\ah Tryz.prog 230=some 1/\bM Tryz.prog 230=some false/\ct Tryz.prog 230=some [Value.slice none 0 0]/\Program.underlying Tryz.prog 230=some (.slice 234)/\ah Tryz.prog 232=some 2/\bM Tryz.prog 232=some true/\ct Tryz.prog 232=some [Value.slice none 0 0,Value.slice none 0 0]/\gT Tryz.prog 232=some [(0,1),(1,1)]/\b4 Tryz.prog 232 0=some (0,1,false)/\b4 Tryz.prog 232 1=some (1,1,false)/\ah Tryz.prog 234=some 6/\bM Tryz.prog 234=some true/\ln Tryz.prog 234=some 48/\ct Tryz.prog 234=some [Value.int IntKind.i64 0,Value.int IntKind.i64 0,Value.int IntKind.i64 0,Value.int IntKind.u8 0,Value.int IntKind.i64 0,Value.int IntKind.i64 0]/\gT Tryz.prog 234=some [(0,1),(1,1),(2,1),(3,1),(4,1),(5,1)]/\b4 Tryz.prog 234 0=some (0,1,false)/\b4 Tryz.prog 234 1=some (1,1,false)/\b4 Tryz.prog 234 2=some (2,1,false)/\b4 Tryz.prog 234 3=some (3,1,false)/\b4 Tryz.prog 234 4=some (4,1,false)/\b4 Tryz.prog 234 5=some (5,1,false)/\ah Tryz.prog 236=some 1/\bM Tryz.prog 236=some false/\ct Tryz.prog 236=some [Value.pointer none]/\p5 Tryz.prog 236=some true/\Program.underlying Tryz.prog 236=some (.pointer 234)/\ah Tryz.prog 238=some 1/\bM Tryz.prog 238=some false/\ah Tryz.prog 241=some 256/\bM Tryz.prog 241=some true/\ct Tryz.prog 241=some (List.replicate 256 (Value.bool false))/\Program.underlying Tryz.prog 241=some (.array 256 4)/\bM Tryz.prog 243=some true/\ln Tryz.prog 243=some 296/\gT Tryz.prog 243=some [(0,1),(1,256),(257,1),(258,1),(259,1),(260,1)]:=th
def apS:b4 Tryz.prog 243 0=some (0,1,false)/\b4 Tryz.prog 243 1=some (1,256,true)/\b4 Tryz.prog 243 2=some (257,1,false)/\b4 Tryz.prog 243 3=some (258,1,false)/\b4 Tryz.prog 243 4=some (259,1,false)/\b4 Tryz.prog 243 5=some (260,1,false)/\ah Tryz.prog 244=some 1/\bM Tryz.prog 244=some false/\ah Tryz.prog 248=some 1/\bM Tryz.prog 248=some false/\ct Tryz.prog 248=some [Value.pointer none]/\p5 Tryz.prog 248=some true/\Program.underlying Tryz.prog 248=some (.pointer 64)/\ah Tryz.prog 249=some 1/\bM Tryz.prog 249=some false/\ct Tryz.prog 249=some [Value.pointer none]/\p5 Tryz.prog 249=some true/\Program.underlying Tryz.prog 249=some (.pointer 251)/\ah Tryz.prog 251=some 3/\bM Tryz.prog 251=some true/\ct Tryz.prog 251=some [Value.string { data:=#[] },Value.int IntKind.i64 0,Value.slice none 0 0]/\gT Tryz.prog 251=some [(0,1),(1,1),(2,1)]/\b4 Tryz.prog 251 0=some (0,1,false)/\b4 Tryz.prog 251 1=some (1,1,false)/\b4 Tryz.prog 251 2=some (2,1,false)/\ah Tryz.prog 252=some 1/\bM Tryz.prog 252=some false/\ct Tryz.prog 252=some [Value.nilFunc]/\ah Tryz.prog 254=some 2/\bM Tryz.prog 254=some true/\ct Tryz.prog 254=some [Value.int IntKind.i64 0,Value.nilFunc]/\gT Tryz.prog 254=some [(0,1),(1,1)]/\b4 Tryz.prog 254 0=some (0,1,false)/\b4 Tryz.prog 254 1=some (1,1,false)/\ah Tryz.prog 279=some 1/\bM Tryz.prog 279=some true/\kE Tryz.prog 279=some (.agg #[Value.nilIface])/\ct Tryz.prog 279=some [Value.nilIface]/\gT Tryz.prog 279=some [(0,1)]/\isIface Tryz.prog 279=some false:=th
def apT:Program.concrete Tryz.prog 279=true/\b4 Tryz.prog 279 0=some (0,1,false)/\ah Tryz.prog 281=some 2/\bM Tryz.prog 281=some true/\kE Tryz.prog 281=some (.agg #[Value.nilIface,Value.nilIface])/\ct Tryz.prog 281=some [Value.nilIface,Value.nilIface]/\gT Tryz.prog 281=some [(0,1),(1,1)]/\isIface Tryz.prog 281=some false/\Program.concrete Tryz.prog 281=true/\b4 Tryz.prog 281 0=some (0,1,false)/\b4 Tryz.prog 281 1=some (1,1,false)/\ah Tryz.prog 283=some 0/\bM Tryz.prog 283=some true/\kE Tryz.prog 283=some (.agg #[])/\ct Tryz.prog 283=some []/\gT Tryz.prog 283=some []/\isIface Tryz.prog 283=some false/\Program.concrete Tryz.prog 283=true/\ah Tryz.prog 284=some 2/\bM Tryz.prog 284=some true/\kE Tryz.prog 284=some (.agg #[Value.nilIface,Value.nilIface])/\ct Tryz.prog 284=some [Value.nilIface,Value.nilIface]/\gT Tryz.prog 284=some [(0,1),(1,1)]/\isIface Tryz.prog 284=some false/\Program.concrete Tryz.prog 284=true/\b4 Tryz.prog 284 0=some (0,1,false)/\b4 Tryz.prog 284 1=some (1,1,false)/\ah Tryz.prog 285=some 2/\bM Tryz.prog 285=some true/\kE Tryz.prog 285=some (.agg #[Value.nilIface,Value.nilIface])/\ct Tryz.prog 285=some [Value.nilIface,Value.nilIface]/\gT Tryz.prog 285=some [(0,1),(1,1)]/\isIface Tryz.prog 285=some false/\Program.concrete Tryz.prog 285=true/\b4 Tryz.prog 285 0=some (0,1,false)/\b4 Tryz.prog 285 1=some (1,1,false)/\ah Tryz.prog 286=some 2/\bM Tryz.prog 286=some true/\kE Tryz.prog 286=some (.agg #[Value.nilIface,Value.nilIface])/\ct Tryz.prog 286=some [Value.nilIface,Value.nilIface]:=th
def apU:gT Tryz.prog 286=some [(0,1),(1,1)]/\isIface Tryz.prog 286=some false/\Program.concrete Tryz.prog 286=true/\b4 Tryz.prog 286 0=some (0,1,false)/\b4 Tryz.prog 286 1=some (1,1,false)/\ah Tryz.prog 298=some 2/\bM Tryz.prog 298=some true/\ct Tryz.prog 298=some [Value.int IntKind.i64 0,Value.int IntKind.i64 0]/\Program.underlying Tryz.prog 298=some (.array 2 3)/\ah Tryz.prog 301=some 1/\bM Tryz.prog 301=some false/\ah Tryz.prog 307=some 1/\bM Tryz.prog 307=some false/\ct Tryz.prog 307=some [Value.nilFunc]/\ah Tryz.prog 309=some 4/\bM Tryz.prog 309=some true/\ct Tryz.prog 309=some [Value.int IntKind.u64 0,Value.int IntKind.u64 0,Value.int IntKind.u64 0,Value.int IntKind.u64 0]/\Program.underlying Tryz.prog 309=some (.array 4 203)/\ah Tryz.prog 311=some 4/\bM Tryz.prog 311=some true/\kE Tryz.prog 311=some (.agg #[Value.int IntKind.u64 0,Value.int IntKind.u64 0,Value.int IntKind.u64 0,Value.int IntKind.u64 0])/\ct Tryz.prog 311=some [Value.int IntKind.u64 0,Value.int IntKind.u64 0,Value.int IntKind.u64 0,Value.int IntKind.u64 0]/\gT Tryz.prog 311=some [(0,4)]/\isIface Tryz.prog 311=some false/\Program.concrete Tryz.prog 311=true/\b4 Tryz.prog 311 0=some (0,4,true)/\ah Tryz.prog 326=some 1/\bM Tryz.prog 326=some false/\ah Tryz.prog 355=some 2/\bM Tryz.prog 355=some true/\ct Tryz.prog 355=some [Value.int IntKind.u8 0,Value.int IntKind.u8 0]/\gT Tryz.prog 355=some [(0,1),(1,1)]/\b4 Tryz.prog 355 0=some (0,1,false)/\b4 Tryz.prog 355 1=some (1,1,false)/\ah Tryz.prog 356=some 6/\bM Tryz.prog 356=some true/\ct Tryz.prog 356=some [Value.int IntKind.u8 0,Value.int IntKind.u8 0,Value.int IntKind.u8 0,Value.int IntKind.u8 0,Value.int IntKind.u8 0,Value.int IntKind.u8 0]/\Program.underlying Tryz.prog 356=some (.array 3 355)/\ah Tryz.prog 361=some 1/\bM Tryz.prog 361=some false:=th
def apV:ah Tryz.prog 373=some 1/\bM Tryz.prog 373=some false/\ct Tryz.prog 373=some [Value.pointer none]/\p5 Tryz.prog 373=some true/\Program.underlying Tryz.prog 373=some (.pointer 375)/\ah Tryz.prog 375=some 2/\bM Tryz.prog 375=some true/\ct Tryz.prog 375=some [Value.string { data:=#[] },Value.int IntKind.i64 0]/\gT Tryz.prog 375=some [(0,1),(1,1)]/\b4 Tryz.prog 375 0=some (0,1,false)/\b4 Tryz.prog 375 1=some (1,1,false)/\ah Tryz.prog 54=some 1/\bM Tryz.prog 54=some false/\ln Tryz.prog 54=some 16/\ct Tryz.prog 54=some [Value.nilIface]/\isIface Tryz.prog 54=some true/\ah Tryz.prog 55=some 1/\bM Tryz.prog 55=some false/\ah Tryz.prog 57=some 1/\bM Tryz.prog 57=some false/\ct Tryz.prog 57=some [Value.slice none 0 0]/\Program.underlying Tryz.prog 57=some (.slice 66)/\ah Tryz.prog 59=some 4/\bM Tryz.prog 59=some true/\ct Tryz.prog 59=some [Value.slice none 0 0,Value.int IntKind.i64 0,Value.int IntKind.i64 0,Value.int IntKind.i64 0]/\gT Tryz.prog 59=some [(0,1),(1,1),(2,1),(3,1)]/\b4 Tryz.prog 59 0=some (0,1,false)/\b4 Tryz.prog 59 1=some (1,1,false)/\b4 Tryz.prog 59 2=some (2,1,false)/\b4 Tryz.prog 59 3=some (3,1,false)/\ah Tryz.prog 60=some 1/\bM Tryz.prog 60=some false/\ah Tryz.prog 66=some 11/\bM Tryz.prog 66=some true/\ln Tryz.prog 66=some 128/\ct Tryz.prog 66=some [Value.int IntKind.i64 0,Value.string { data:=#[] },Value.int IntKind.i64 0,Value.slice none 0 0,Value.int IntKind.i64 0,Value.string { data:=#[] },Value.string { data:=#[] },Value.int IntKind.i64 0,Value.int IntKind.i64 0,Value.int IntKind.i64 0,Value.int IntKind.i64 0]/\gT Tryz.prog 66=some [(0,1),(1,1),(2,1),(3,2),(5,1),(6,1),(7,1),(8,1),(9,1),(10,1)]/\b4 Tryz.prog 66 0=some (0,1,false)/\b4 Tryz.prog 66 1=some (1,1,false)/\b4 Tryz.prog 66 2=some (2,1,false):=th
def apW:b4 Tryz.prog 66 3=some (3,2,true)/\b4 Tryz.prog 66 4=some (5,1,false)/\b4 Tryz.prog 66 5=some (6,1,false)/\b4 Tryz.prog 66 6=some (7,1,false)/\b4 Tryz.prog 66 7=some (8,1,false)/\b4 Tryz.prog 66 8=some (9,1,false)/\b4 Tryz.prog 66 9=some (10,1,false)/\ah Tryz.prog 72=some 1/\bM Tryz.prog 72=some false/\ct Tryz.prog 72=some [Value.pointer none]/\p5 Tryz.prog 72=some true/\Program.underlying Tryz.prog 72=some (.pointer 79)/\ah Tryz.prog 73=some 1/\bM Tryz.prog 73=some false/\ah Tryz.prog 75=some 1/\bM Tryz.prog 75=some false/\ct Tryz.prog 75=some [Value.slice none 0 0]/\Program.underlying Tryz.prog 75=some (.slice 134)/\ah Tryz.prog 77=some 1/\bM Tryz.prog 77=some false/\ln Tryz.prog 77=some 16/\ct Tryz.prog 77=some [Value.nilIface]/\isIface Tryz.prog 77=some true/\ah Tryz.prog 79=some 2/\bM Tryz.prog 79=some true/\ct Tryz.prog 79=some [Value.slice none 0 0,Value.nilIface]/\gT Tryz.prog 79=some [(0,1),(1,1)]/\b4 Tryz.prog 79 0=some (0,1,false)/\b4 Tryz.prog 79 1=some (1,1,false)/\ah Tryz.prog 114=some 1/\bM Tryz.prog 114=some false/\ct Tryz.prog 114=some [Value.slice none 0 0]/\Program.underlying Tryz.prog 114=some (.slice 181)/\ah Tryz.prog 115=some 1/\bM Tryz.prog 115=some false/\ct Tryz.prog 115=some [Value.slice none 0 0]/\Program.underlying Tryz.prog 115=some (.slice 123)/\ah Tryz.prog 117=some 3/\bM Tryz.prog 117=some true/\ct Tryz.prog 117=some [Value.slice none 0 0,Value.slice none 0 0,Value.int IntKind.i64 0]:=th
def apX:gT Tryz.prog 117=some [(0,1),(1,1),(2,1)]/\b4 Tryz.prog 117 0=some (0,1,false)/\b4 Tryz.prog 117 1=some (1,1,false)/\b4 Tryz.prog 117 2=some (2,1,false)/\ah Tryz.prog 118=some 1/\bM Tryz.prog 118=some false/\ah Tryz.prog 120=some 1/\bM Tryz.prog 120=some false/\ct Tryz.prog 120=some [Value.pointer none]/\p5 Tryz.prog 120=some true/\Program.underlying Tryz.prog 120=some (.pointer 59)/\ah Tryz.prog 121=some 1/\bM Tryz.prog 121=some false/\ct Tryz.prog 121=some [Value.slice none 0 0]/\Program.underlying Tryz.prog 121=some (.slice 125)/\ah Tryz.prog 123=some 3/\bM Tryz.prog 123=some true/\ln Tryz.prog 123=some 32/\ct Tryz.prog 123=some [Value.int IntKind.i64 0,Value.string { data:=#[] },Value.int IntKind.i64 0]/\gT Tryz.prog 123=some [(0,1),(1,1),(2,1)]/\b4 Tryz.prog 123 0=some (0,1,false)/\b4 Tryz.prog 123 1=some (1,1,false)/\b4 Tryz.prog 123 2=some (2,1,false)/\ah Tryz.prog 125=some 2/\bM Tryz.prog 125=some true/\ln Tryz.prog 125=some 24/\ct Tryz.prog 125=some [Value.string { data:=#[] },Value.int IntKind.i64 0]/\gT Tryz.prog 125=some [(0,1),(1,1)]/\b4 Tryz.prog 125 0=some (0,1,false)/\b4 Tryz.prog 125 1=some (1,1,false)/\ah Tryz.prog 129=some 1/\bM Tryz.prog 129=some false/\ct Tryz.prog 129=some [Value.pointer none]/\p5 Tryz.prog 129=some true/\Program.underlying Tryz.prog 129=some (.pointer 132)/\ah Tryz.prog 130=some 1/\bM Tryz.prog 130=some false/\ct Tryz.prog 130=some [Value.map none]/\ah Tryz.prog 132=some 1/\bM Tryz.prog 132=some true:=th
def apY:ct Tryz.prog 132=some [Value.map none]/\gT Tryz.prog 132=some [(0,1)]/\b4 Tryz.prog 132 0=some (0,1,false)/\ah Tryz.prog 134=some 3/\bM Tryz.prog 134=some true/\ln Tryz.prog 134=some 40/\ct Tryz.prog 134=some [Value.int IntKind.i64 0,Value.string { data:=#[] },Value.nilIface]/\gT Tryz.prog 134=some [(0,1),(1,1),(2,1)]/\b4 Tryz.prog 134 0=some (0,1,false)/\b4 Tryz.prog 134 1=some (1,1,false)/\b4 Tryz.prog 134 2=some (2,1,false)/\ah Tryz.prog 135=some 1/\bM Tryz.prog 135=some false/\ah Tryz.prog 138=some 1/\bM Tryz.prog 138=some false/\ct Tryz.prog 138=some [Value.slice none 0 0]/\Program.underlying Tryz.prog 138=some (.slice 225)/\ah Tryz.prog 139=some 1/\bM Tryz.prog 139=some false/\ah Tryz.prog 141=some 1/\bM Tryz.prog 141=some false/\ct Tryz.prog 141=some [Value.pointer none]/\p5 Tryz.prog 141=some true/\Program.underlying Tryz.prog 141=some (.pointer 143)/\ah Tryz.prog 143=some 2/\bM Tryz.prog 143=some true/\ct Tryz.prog 143=some [Value.slice none 0 0,Value.int IntKind.i64 0]/\gT Tryz.prog 143=some [(0,1),(1,1)]/\b4 Tryz.prog 143 0=some (0,1,false)/\b4 Tryz.prog 143 1=some (1,1,false)/\ah Tryz.prog 164=some 1/\bM Tryz.prog 164=some false/\ct Tryz.prog 164=some [Value.slice none 0 0]/\Program.underlying Tryz.prog 164=some (.slice 168)/\ah Tryz.prog 165=some 1/\bM Tryz.prog 165=some false/\ah Tryz.prog 168=some 3/\bM Tryz.prog 168=some true/\ln Tryz.prog 168=some 32/\ct Tryz.prog 168=some [Value.int IntKind.i64 0,Value.int IntKind.i64 0,Value.string { data:=#[] }]:=th
def apZ:gT Tryz.prog 168=some [(0,1),(1,1),(2,1)]/\b4 Tryz.prog 168 0=some (0,1,false)/\b4 Tryz.prog 168 1=some (1,1,false)/\b4 Tryz.prog 168 2=some (2,1,false)/\ah Tryz.prog 176=some 1/\bM Tryz.prog 176=some false/\ct Tryz.prog 176=some [Value.pointer none]/\p5 Tryz.prog 176=some true/\Program.underlying Tryz.prog 176=some (.pointer 178)/\ah Tryz.prog 178=some 8/\bM Tryz.prog 178=some true/\ct Tryz.prog 178=some [Value.slice none 0 0,Value.int IntKind.i64 0,Value.int IntKind.i64 0,Value.int IntKind.i64 0,Value.int IntKind.i64 0,Value.slice none 0 0,Value.slice none 0 0,Value.int IntKind.i64 0]/\gT Tryz.prog 178=some [(0,1),(1,1),(2,1),(3,1),(4,1),(5,3)]/\b4 Tryz.prog 178 0=some (0,1,false)/\b4 Tryz.prog 178 1=some (1,1,false)/\b4 Tryz.prog 178 2=some (2,1,false)/\b4 Tryz.prog 178 3=some (3,1,false)/\b4 Tryz.prog 178 4=some (4,1,false)/\b4 Tryz.prog 178 5=some (5,3,true)/\ah Tryz.prog 181=some 4/\bM Tryz.prog 181=some true/\ln Tryz.prog 181=some 56/\ct Tryz.prog 181=some [Value.int IntKind.i64 0,Value.int IntKind.i64 0,Value.string { data:=#[] },Value.slice none 0 0]/\gT Tryz.prog 181=some [(0,1),(1,1),(2,1),(3,1)]/\b4 Tryz.prog 181 0=some (0,1,false)/\b4 Tryz.prog 181 1=some (1,1,false)/\b4 Tryz.prog 181 2=some (2,1,false)/\b4 Tryz.prog 181 3=some (3,1,false)/\ah Tryz.prog 190=some 2/\bM Tryz.prog 190=some true/\kE Tryz.prog 190=some (.agg #[Value.int IntKind.i64 0,Value.string { data:=#[] }])/\ct Tryz.prog 190=some [Value.int IntKind.i64 0,Value.string { data:=#[] }]/\gT Tryz.prog 190=some [(0,1),(1,1)]/\isIface Tryz.prog 190=some false/\Program.concrete Tryz.prog 190=true/\b4 Tryz.prog 190 0=some (0,1,false)/\b4 Tryz.prog 190 1=some (1,1,false)/\ah Tryz.prog 192=some 2/\bM Tryz.prog 192=some true/\kE Tryz.prog 192=some (.agg #[Value.int IntKind.i64 0,Value.nilIface]):=th
def ap0:ct Tryz.prog 192=some [Value.int IntKind.i64 0,Value.nilIface]/\gT Tryz.prog 192=some [(0,1),(1,1)]/\isIface Tryz.prog 192=some false/\Program.concrete Tryz.prog 192=true/\b4 Tryz.prog 192 0=some (0,1,false)/\b4 Tryz.prog 192 1=some (1,1,false)/\ah Tryz.prog 193=some 1/\bM Tryz.prog 193=some false/\kE Tryz.prog 193=some (Value.pointer none)/\ct Tryz.prog 193=some [Value.pointer none]/\p5 Tryz.prog 193=some true/\Program.underlying Tryz.prog 193=some (.pointer 196)/\isIface Tryz.prog 193=some false/\Program.concrete Tryz.prog 193=true/\ah Tryz.prog 196=some 7/\bM Tryz.prog 196=some true/\ct Tryz.prog 196=some [Value.int IntKind.i64 0,Value.string { data:=#[] },Value.nilIface,Value.string { data:=#[] },Value.string { data:=#[] },Value.pointer none,Value.pointer none]/\gT Tryz.prog 196=some [(0,1),(1,1),(2,1),(3,1),(4,1),(5,1),(6,1)]/\b4 Tryz.prog 196 0=some (0,1,false)/\b4 Tryz.prog 196 1=some (1,1,false)/\b4 Tryz.prog 196 2=some (2,1,false)/\b4 Tryz.prog 196 3=some (3,1,false)/\b4 Tryz.prog 196 4=some (4,1,false)/\b4 Tryz.prog 196 5=some (5,1,false)/\b4 Tryz.prog 196 6=some (6,1,false)/\ah Tryz.prog 197=some 1/\bM Tryz.prog 197=some false/\kE Tryz.prog 197=some (Value.pointer none)/\ct Tryz.prog 197=some [Value.pointer none]/\p5 Tryz.prog 197=some true/\Program.underlying Tryz.prog 197=some (.pointer 199)/\isIface Tryz.prog 197=some false/\Program.concrete Tryz.prog 197=true/\ah Tryz.prog 199=some 7/\bM Tryz.prog 199=some true/\ct Tryz.prog 199=some [Value.int IntKind.i64 0,Value.string { data:=#[] },Value.nilIface,Value.string { data:=#[] },Value.pointer none,Value.pointer none,Value.pointer none]/\gT Tryz.prog 199=some [(0,1),(1,1),(2,1),(3,1),(4,1),(5,1),(6,1)]/\b4 Tryz.prog 199 0=some (0,1,false)/\b4 Tryz.prog 199 1=some (1,1,false)/\b4 Tryz.prog 199 2=some (2,1,false):=th
def ap1:b4 Tryz.prog 199 3=some (3,1,false)/\b4 Tryz.prog 199 4=some (4,1,false)/\b4 Tryz.prog 199 5=some (5,1,false)/\b4 Tryz.prog 199 6=some (6,1,false)/\ah Tryz.prog 201=some 1/\bM Tryz.prog 201=some false/\ct Tryz.prog 201=some [Value.nilFunc]/\ah Tryz.prog 205=some 2/\bM Tryz.prog 205=some true/\kE Tryz.prog 205=some (.agg #[Value.int IntKind.i64 0,Value.string { data:=#[] }])/\ct Tryz.prog 205=some [Value.int IntKind.i64 0,Value.string { data:=#[] }]/\gT Tryz.prog 205=some [(0,1),(1,1)]/\isIface Tryz.prog 205=some false/\Program.concrete Tryz.prog 205=true/\b4 Tryz.prog 205 0=some (0,1,false)/\b4 Tryz.prog 205 1=some (1,1,false)/\ah Tryz.prog 206=some 2/\bM Tryz.prog 206=some true/\kE Tryz.prog 206=some (.agg #[Value.int IntKind.i64 0,Value.string { data:=#[] }])/\ct Tryz.prog 206=some [Value.int IntKind.i64 0,Value.string { data:=#[] }]/\gT Tryz.prog 206=some [(0,1),(1,1)]/\isIface Tryz.prog 206=some false/\Program.concrete Tryz.prog 206=true/\b4 Tryz.prog 206 0=some (0,1,false)/\b4 Tryz.prog 206 1=some (1,1,false)/\ah Tryz.prog 207=some 2/\bM Tryz.prog 207=some true/\kE Tryz.prog 207=some (.agg #[Value.int IntKind.i64 0,Value.string { data:=#[] }])/\ct Tryz.prog 207=some [Value.int IntKind.i64 0,Value.string { data:=#[] }]/\gT Tryz.prog 207=some [(0,1),(1,1)]/\isIface Tryz.prog 207=some false/\Program.concrete Tryz.prog 207=true/\b4 Tryz.prog 207 0=some (0,1,false)/\b4 Tryz.prog 207 1=some (1,1,false)/\ah Tryz.prog 209=some 2/\bM Tryz.prog 209=some true/\kE Tryz.prog 209=some (.agg #[Value.int IntKind.i64 0,Value.nilIface])/\ct Tryz.prog 209=some [Value.int IntKind.i64 0,Value.nilIface]/\gT Tryz.prog 209=some [(0,1),(1,1)]/\isIface Tryz.prog 209=some false:=th
def ap2:Program.concrete Tryz.prog 209=true/\b4 Tryz.prog 209 0=some (0,1,false)/\b4 Tryz.prog 209 1=some (1,1,false)/\ah Tryz.prog 210=some 1/\bM Tryz.prog 210=some false/\ah Tryz.prog 212=some 3/\bM Tryz.prog 212=some true/\kE Tryz.prog 212=some (.agg #[Value.int IntKind.i64 0,Value.string { data:=#[] },Value.nilIface])/\ct Tryz.prog 212=some [Value.int IntKind.i64 0,Value.string { data:=#[] },Value.nilIface]/\gT Tryz.prog 212=some [(0,1),(1,1),(2,1)]/\isIface Tryz.prog 212=some false/\Program.concrete Tryz.prog 212=true/\b4 Tryz.prog 212 0=some (0,1,false)/\b4 Tryz.prog 212 1=some (1,1,false)/\b4 Tryz.prog 212 2=some (2,1,false)/\ah Tryz.prog 215=some 4/\bM Tryz.prog 215=some true/\kE Tryz.prog 215=some (.agg #[Value.int IntKind.i64 0,Value.string { data:=#[] },Value.nilIface,Value.nilIface])/\ct Tryz.prog 215=some [Value.int IntKind.i64 0,Value.string { data:=#[] },Value.nilIface,Value.nilIface]/\gT Tryz.prog 215=some [(0,1),(1,1),(2,1),(3,1)]/\isIface Tryz.prog 215=some false/\Program.concrete Tryz.prog 215=true/\b4 Tryz.prog 215 0=some (0,1,false)/\b4 Tryz.prog 215 1=some (1,1,false)/\b4 Tryz.prog 215 2=some (2,1,false)/\b4 Tryz.prog 215 3=some (3,1,false)/\ah Tryz.prog 217=some 1/\bM Tryz.prog 217=some false/\ct Tryz.prog 217=some [Value.slice none 0 0]/\Program.underlying Tryz.prog 217=some (.slice 77)/\ah Tryz.prog 219=some 3/\bM Tryz.prog 219=some true/\kE Tryz.prog 219=some (.agg #[Value.int IntKind.i64 0,Value.string { data:=#[] },Value.slice none 0 0])/\ct Tryz.prog 219=some [Value.int IntKind.i64 0,Value.string { data:=#[] },Value.slice none 0 0]/\gT Tryz.prog 219=some [(0,1),(1,1),(2,1)]/\isIface Tryz.prog 219=some false/\Program.concrete Tryz.prog 219=true/\b4 Tryz.prog 219 0=some (0,1,false)/\b4 Tryz.prog 219 1=some (1,1,false)/\b4 Tryz.prog 219 2=some (2,1,false):=th
def ap3:ah Tryz.prog 221=some 1/\bM Tryz.prog 221=some false/\ct Tryz.prog 221=some [Value.pointer none]/\p5 Tryz.prog 221=some true/\Program.underlying Tryz.prog 221=some (.pointer 223)/\ah Tryz.prog 223=some 6/\bM Tryz.prog 223=some true/\ct Tryz.prog 223=some [Value.string { data:=#[] },Value.int IntKind.i64 0,Value.slice none 0 0,Value.int IntKind.i64 0,Value.int IntKind.i64 0,Value.string { data:=#[] }]/\gT Tryz.prog 223=some [(0,1),(1,1),(2,1),(3,3)]/\b4 Tryz.prog 223 0=some (0,1,false)/\b4 Tryz.prog 223 1=some (1,1,false)/\b4 Tryz.prog 223 2=some (2,1,false)/\b4 Tryz.prog 223 3=some (3,3,true)/\ah Tryz.prog 225=some 3/\bM Tryz.prog 225=some true/\ln Tryz.prog 225=some 32/\ct Tryz.prog 225=some [Value.int IntKind.i64 0,Value.int IntKind.i64 0,Value.string { data:=#[] }]/\gT Tryz.prog 225=some [(0,1),(1,1),(2,1)]/\b4 Tryz.prog 225 0=some (0,1,false)/\b4 Tryz.prog 225 1=some (1,1,false)/\b4 Tryz.prog 225 2=some (2,1,false)/\ah Tryz.prog 261=some 1/\bM Tryz.prog 261=some false/\ah Tryz.prog 269=some 1/\bM Tryz.prog 269=some false/\ah Tryz.prog 276=some 1/\bM Tryz.prog 276=some false/\ah Tryz.prog 287=some 1/\bM Tryz.prog 287=some false/\ct Tryz.prog 287=some [Value.map none]/\ah Tryz.prog 288=some 5/\bM Tryz.prog 288=some true/\ct Tryz.prog 288=some [Value.string { data:=#[] },Value.string { data:=#[] },Value.string { data:=#[] },Value.string { data:=#[] },Value.string { data:=#[] }]/\Program.underlying Tryz.prog 288=some (.array 5 9)/\ah Tryz.prog 289=some 1/\bM Tryz.prog 289=some false/\ah Tryz.prog 290=some 1/\bM Tryz.prog 290=some false/\ct Tryz.prog 290=some [Value.pointer none]/\p5 Tryz.prog 290=some true:=th
def ap4:Program.underlying Tryz.prog 290=some (.pointer 293)/\ah Tryz.prog 291=some 1/\bM Tryz.prog 291=some false/\ct Tryz.prog 291=some [Value.slice none 0 0]/\Program.underlying Tryz.prog 291=some (.slice 54)/\ah Tryz.prog 293=some 5/\bM Tryz.prog 293=some true/\ct Tryz.prog 293=some [Value.int IntKind.i64 0,Value.string { data:=#[] },Value.slice none 0 0,Value.slice none 0 0,Value.int IntKind.i64 0]/\gT Tryz.prog 293=some [(0,3),(3,1),(4,1)]/\b4 Tryz.prog 293 0=some (0,3,true)/\b4 Tryz.prog 293 1=some (3,1,false)/\b4 Tryz.prog 293 2=some (4,1,false)/\ah Tryz.prog 325=some 1/\bM Tryz.prog 325=some false:=th
def wz:=(ch (I (ch @wg @wc @List.toList_toArray.{0} @Option.isNone_none.{0} @Option.isNone_some.{0} @Option.isSome_none.{0} @Option.isSome_some.{0} @we) (eI @yL @and_self @true_imp_iff @forall_const.{1} @forall_const.{0} @yI)) (I (ch @O0 @OX @cond_true.{1} @BN @fc @jc @FE @Bool.and_true) (eI @beq_false @beq_true @imp_self @TH @TH @Bool.cond_self.{1})) (I (ch @BM @ZL @OM @ZD @l9 @uW @List.getD_cons_zero.{0} @List.getD_cons_succ.{0}) (eI @List.take_succ_cons.{0} @List.take_zero.{0} @List.drop_succ_cons.{0} @List.drop_zero.{0} @Ih @Ii)) (I (ch @yH @List.all_cons.{0} @List.all_nil.{0} @Bool.cond_true_left @Bool.cond_false_right @Bool.cond_true_right @Bool.cond_false_left amP) (eI amQ amR anu anv anF aoT)) (I (ch apt apu @FD @tS @kR @Option.toArray_none.{0} @Option.toArray_some.{0} @List.append_toArray.{0}) (eI @tT @lM @decide_true @TI @Bool.not_true @Bool.not_false)) (I (ch @List.flatten_cons.{0} @List.flatten_nil.{0} @List.isEmpty_nil.{0} @ne_eq.{1} @not_true_eq_false @not_false_eq_true @Nat.mul_one @Nat.one_mul) (eI @Nat.zero_mul @Nat.sub_zero @abQ @tQ @List.size_toArray.{0} @aoW)) (I (ch @aoX anW @Option.map_none.{0,0} apG aoU aoV apP apQ) (eI apR apS apT apU apV apW)) (I (ch apX apY apZ ap0 ap1 ap2 ap3 ap4) (I @akr @aks)))
def ot{p:Prop}(h:p:=by first|trivial|omega|exact⟨_,rfl⟩|(simp<;>fail)|(unfold maxLen;omega)|(simp<;>omega)|(simp<;>unfold maxLen<;>omega)|((repeat' apply I)<;>first|trivial|omega|rfl|decide|exact λ_ h=>h.elim|(simp<;>omega))|grind):p:=h
def aJ{e p:Prop}(he:e)(h:e->p:=by intro he;simp only[wz,Op.operands,Value.cells,qw,nN,Nat.reduceEqDiff,Nat.reduceAdd,Nat.reduceMul,Nat.reduceLT,Nat.reduceLeDiff,Nat.reduceBEq,kT,Int.reduceToNat,Int.reduceLT,Int.reduceLE,Nat.reduceDiv,Nat.reduceMod,Nat.reduceSub,Int.reducePow,Nat.reducePow,he];exact rfl):p:=h he
def xQ{e r p:Prop}(he:e)(aI:r)(h:e->r->p:=by intro he aI;simp only[wz,Op.operands,Value.cells,qw,nN,Nat.reduceEqDiff,Nat.reduceAdd,Nat.reduceMul,Nat.reduceLT,Nat.reduceLeDiff,Nat.reduceBEq,kT,Int.reduceToNat,Int.reduceLT,Int.reduceLE,Nat.reduceDiv,Nat.reduceMod,Nat.reduceSub,Int.reducePow,Nat.reducePow,he,↓aI];exact rfl):p:=h he aI
def kX{e p:Prop}(he:e)(h:e->p:=by intro he;simp only[wz,Op.operands,Value.cells,qw,nN,Nat.reduceEqDiff,Nat.reduceAdd,Nat.reduceMul,Nat.reduceLT,Nat.reduceLeDiff,Nat.reduceBEq,kT,Int.reduceToNat,Int.reduceLT,Int.reduceLE,Nat.reduceDiv,Nat.reduceMod,Nat.reduceSub,Int.reducePow,Nat.reducePow,he]<;>rfl):p:=h he
def Vw{c:Prop}[Decidable c](h:c):∀(α:Type) (x y:α),(if c then x else y)=x:=λ_ x y=>al h
def Qo{c:Prop}[Decidable c](h:¬c):∀(α:Type) (x y:α),(if c then x else y)=y:=λ_ x y=>ab h
section
variable {W:ar}{bs:aD}{nt:Nat}{az:jN}{Q:og}{σ:eG}{e q:Prop}{id:Nat}{ops:Array Oper}{y:Code}{side:Prop}{n:Nat}{φ:Fr}{h:ca}{js:List (Option (List PanicEntry))}{lost:aD}{fx:List (List Nat×List Nat)}
def aL(Γ:Env Tryz.prog)(he:e)(V:side)(hQ:ae Tryz.prog W bs nt az y Q ⟨n,φ,h⟩)(aK:e->mL Γ W bs nt ops ops.toList σ.n σ.φ σ.h=⟨side,n,φ,h,js,lost,fx⟩:=by intro he;exact aJ he)(hp:js.all Option.isNone=true:=by rfl):ae Tryz.prog W bs nt az (.seq (.region id ops false) y) Q σ:=ae.s7 Γ bX (aK he) hp V hQ
def aA(Γ:Env Tryz.prog)(he:e)(hQ:ae Tryz.prog W bs nt az y Q ⟨n,φ,h⟩)(aK:e->mL Γ W bs nt ops ops.toList σ.n σ.φ σ.h=⟨side,n,φ,h,js,lost,fx⟩:=by intro he;exact aJ he)(hp:js.all Option.isNone=true:=by rfl)(V:side:=by exact ot):ae Tryz.prog W bs nt az (.seq (.region id ops false) y) Q σ:=ae.s7 Γ bX (aK he) hp V hQ
def wr(Γ:Env Tryz.prog)(he:e)(V:side)(hQ:q)(aK:e->mL Γ W bs nt ops ops.toList σ.n σ.φ σ.h=⟨side,n,φ,h,js,lost,fx⟩:=by intro he;exact aJ he)(hp:js.all Option.isNone=true:=by rfl)(t:q->Q .normal W bs ⟨n,φ,h⟩:=by intro z;(with_reducible repeat (first|refine B6 ?_|refine Ca ?_|refine B8 ?_|refine Cd ?_|refine Ce (by decide) ?_|refine B7 ?_|refine Cb ?_|refine B9 ?_|refine Cc ?_));exact z):ae Tryz.prog W bs nt az (.region id ops false) Q σ:=ae.cc Γ bX (aK he) hp V (t hQ)
def bY(Γ:Env Tryz.prog)(he:e)(hQ:q)(aK:e->mL Γ W bs nt ops ops.toList σ.n σ.φ σ.h=⟨side,n,φ,h,js,lost,fx⟩:=by intro he;exact aJ he)(hp:js.all Option.isNone=true:=by rfl)(V:side:=by exact ot)(t:q->Q .normal W bs ⟨n,φ,h⟩:=by intro z;(with_reducible repeat (first|refine B6 ?_|refine Ca ?_|refine B8 ?_|refine Cd ?_|refine Ce (by decide) ?_|refine B7 ?_|refine Cb ?_|refine B9 ?_|refine Cc ?_));exact z):ae Tryz.prog W bs nt az (.region id ops false) Q σ:=ae.cc Γ bX (aK he) hp V (t hQ)
def dh(Γ:Env Tryz.prog)(he:e)(V:side)(hQ:ae Tryz.prog W bs nt az y Q ⟨n,φ,h⟩)(aK:e->mL Γ W bs nt ops ops.toList σ.n σ.φ σ.h=⟨side,n,φ,h,js,lost,fx⟩:=by intro he;exact aJ he)(hp:js.all Option.isNone=true:=by rfl)(ak:(u5 ops&&u6 ops fx)=true:=by kernel_rfl):ae Tryz.prog W bs nt az (.seq (.region id ops true) y) Q σ:=ae.abh Γ bX (aK he) hp ak V hQ
def hs(Γ:Env Tryz.prog)(he:e)(hQ:ae Tryz.prog W bs nt az y Q ⟨n,φ,h⟩)(aK:e->mL Γ W bs nt ops ops.toList σ.n σ.φ σ.h=⟨side,n,φ,h,js,lost,fx⟩:=by intro he;exact aJ he)(hp:js.all Option.isNone=true:=by rfl)(ak:(u5 ops&&u6 ops fx)=true:=by kernel_rfl)(V:side:=by exact ot):ae Tryz.prog W bs nt az (.seq (.region id ops true) y) Q σ:=ae.abh Γ bX (aK he) hp ak V hQ
def iP(Γ:Env Tryz.prog)(he:e)(V:side)(hQ:q)(aK:e->mL Γ W bs nt ops ops.toList σ.n σ.φ σ.h=⟨side,n,φ,h,js,lost,fx⟩:=by intro he;exact aJ he)(hp:js.all Option.isNone=true:=by rfl)(ak:(u5 ops&&u6 ops fx)=true:=by kernel_rfl)(t:q->Q .normal W bs ⟨n,φ,h⟩:=by intro z;(with_reducible repeat (first|refine B6 ?_|refine Ca ?_|refine B8 ?_|refine Cd ?_|refine Ce (by decide) ?_|refine B7 ?_|refine Cb ?_|refine B9 ?_|refine Cc ?_));exact z):ae Tryz.prog W bs nt az (.region id ops true) Q σ:=ae.Uu Γ bX (aK he) hp ak V (t hQ)
def AM(Γ:Env Tryz.prog)(he:e)(hQ:q)(aK:e->mL Γ W bs nt ops ops.toList σ.n σ.φ σ.h=⟨side,n,φ,h,js,lost,fx⟩:=by intro he;exact aJ he)(hp:js.all Option.isNone=true:=by rfl)(ak:(u5 ops&&u6 ops fx)=true:=by kernel_rfl)(V:side:=by exact ot)(t:q->Q .normal W bs ⟨n,φ,h⟩:=by intro z;(with_reducible repeat (first|refine B6 ?_|refine Ca ?_|refine B8 ?_|refine Cd ?_|refine Ce (by decide) ?_|refine B7 ?_|refine Cb ?_|refine B9 ?_|refine Cc ?_));exact z):ae Tryz.prog W bs nt az (.region id ops true) Q σ:=ae.Uu Γ bX (aK he) hp ak V (t hQ)
def a1(hQ:q)(t:q->Q .normal W bs σ:=by intro z;(with_reducible repeat (first|refine B6 ?_|refine Ca ?_|refine B8 ?_|refine Cd ?_|refine Ce (by decide) ?_|refine B7 ?_|refine Cb ?_|refine B9 ?_|refine Cc ?_));exact z):ae Tryz.prog W bs nt az .skip Q σ:=ae.skip (t hQ)
def c6{i:Nat}(hQ:q)(t:q->Q (.exit i) W bs σ:=by intro z;(with_reducible repeat (first|refine B6 ?_|refine Ca ?_|refine B8 ?_|refine Cd ?_|refine Ce (by decide) ?_|refine B7 ?_|refine Cb ?_|refine B9 ?_|refine Cc ?_));exact z):ae Tryz.prog W bs nt az (.exit i) Q σ:=ae.exit (t hQ)
def AN(hQ:q)(t:q->Q .ret W bs σ:=by intro z;(with_reducible repeat (first|refine B6 ?_|refine Ca ?_|refine B8 ?_|refine Cd ?_|refine Ce (by decide) ?_|refine B7 ?_|refine Cb ?_|refine B9 ?_|refine Cc ?_));exact z):ae Tryz.prog W bs nt az .ret Q σ:=ae.ret (t hQ)
def bf(he:e)(hQ:q)(t:e->q->Q .ret W bs σ:=by intro he;intro z;(with_reducible repeat (first|refine B6 ?_|refine Ca ?_|refine B8 ?_|refine Cd ?_|refine Ce (by decide) ?_|refine B7 ?_|refine Cb ?_|refine B9 ?_|refine Cc ?_));simp only[wz,Op.operands,Value.cells,qw,nN,Nat.reduceEqDiff,Nat.reduceAdd,Nat.reduceMul,Nat.reduceLT,Nat.reduceLeDiff,Nat.reduceBEq,kT,Int.reduceToNat,Int.reduceLT,Int.reduceLE,Nat.reduceDiv,Nat.reduceMod,Nat.reduceSub,Int.reducePow,Nat.reducePow,Gc,Gd,nn.eq_2,nn.eq_3,he];exact z):ae Tryz.prog W bs nt az .ret Q σ:=ae.ret (t he hQ)
def aR{c:Operand}{x aE7:Code}{b:Bool}{p:Prop}(Γ:Env Tryz.prog)(he:e)(aV:b=true->ae Tryz.prog W bs nt az x Q ⟨n,φ,h⟩)(aW:b=false->ae Tryz.prog W bs nt az aE7 Q ⟨n,φ,h⟩)(aK:e->mL Γ W bs nt ops ops.toList σ.n σ.φ σ.h=⟨side,n,φ,h,js,lost,fx⟩:=by intro he;exact aJ he)(hp:js.all Option.isNone=true:=by rfl)(V:side:=by exact ot)(J:e->jf φ true c=(p,.v (.bool b)):=by intro he;exact aJ he)(Eg:p:=by trivial):ae Tryz.prog W bs nt az (.seq (.region id ops false) (.cond c x aE7)) Q σ:=ae.s7 Γ bX (aK he) hp V (ae.cond (J he) Eg aV aW)
end
def bC{Q:og}{σ:eG}{e:Prop}{c:Operand}{x y:Code}{b:Bool}{p:Prop}(he:e)(aV:b=true->ae Tryz.prog W bs nt az x Q σ)(aW:b=false->ae Tryz.prog W bs nt az y Q σ)(J:e->jf σ.φ true c=(p,.v (.bool b)):=by intro he;exact aJ he)(hp:p:=by trivial):ae Tryz.prog W bs nt az (.cond c x y) Q σ:=ae.cond (J he) hp aV aW
def b8{σ:eG}{e:Prop}(m:Nat->Go.LE.Src)(he:e){jh:Nat}{L:List (Nat×eJ)}{aE9:List (Nat×bL)}(ad:F8 jh L aE9:=by exact⟨by simp[eJ.keys,ag.keys,cP],by simp[bL.keys,cP,ag.keys,so,uY]⟩)(aW:e->LO m σ.φ L:=by intro he;simp only[wz,Op.operands,Value.cells,qw,nN,Nat.reduceEqDiff,Nat.reduceAdd,Nat.reduceMul,Nat.reduceLT,Nat.reduceLeDiff,Nat.reduceBEq,kT,Int.reduceToNat,Int.reduceLT,Int.reduceLE,Nat.reduceDiv,Nat.reduceMod,Nat.reduceSub,Int.reducePow,Nat.reducePow,LO,Cf,gU,q5,he]<;>trivial)(hh:e->AF m σ.h aE9:=by intro he;simp only[wz,Op.operands,Value.cells,qw,nN,Nat.reduceEqDiff,Nat.reduceAdd,Nat.reduceMul,Nat.reduceLT,Nat.reduceLeDiff,Nat.reduceBEq,kT,Int.reduceToNat,Int.reduceLT,Int.reduceLE,Nat.reduceDiv,Nat.reduceMod,Nat.reduceSub,Int.reducePow,Nat.reducePow,AF,AE,lR,PZ,mM,gU,he]<;>trivial)(aE:(u9 m aE9).Nodup:=by simp[u9])(wq:∀p∈az.pins,m p.1=.key p.1/\p.1/8<jh:=by simp):qv W bs nt az σ ⟨jh,bK L,bA aE9⟩:=qv.mk m ad (aW he) (hh he) aE wq
def Qp{e:Prop}{ir:aD}{val x:ag}{jw:List (Nat×bL)}{h:ca}(m:Nat->Go.LE.Src)(he:e)(au:e->x=gU m val:=by intro he;first|rfl|simp only[wz,Op.operands,Value.cells,qw,nN,Nat.reduceEqDiff,Nat.reduceAdd,Nat.reduceMul,Nat.reduceLT,Nat.reduceLeDiff,Nat.reduceBEq,kT,Int.reduceToNat,Int.reduceLT,Int.reduceLE,Nat.reduceDiv,Nat.reduceMod,Nat.reduceSub,Int.reducePow,Nat.reducePow,gU,mM,he])(hh:e->AF m h jw:=by intro he;simp only[wz,Op.operands,Value.cells,qw,nN,Nat.reduceEqDiff,Nat.reduceAdd,Nat.reduceMul,Nat.reduceLT,Nat.reduceLeDiff,Nat.reduceBEq,kT,Int.reduceToNat,Int.reduceLT,Int.reduceLE,Nat.reduceDiv,Nat.reduceMod,Nat.reduceSub,Int.reducePow,Nat.reducePow,AF,AE,lR,PZ,mM,gU,he]<;>trivial)(aE:(u9 m jw).Nodup:=by simp[u9])(ad:∀k∈ir,m k=.key k:=by simp):acK ir val jw x h:=⟨m,au he,hh he,aE,ad⟩
def jQ{e p q:Prop}(he:e)(h:q)(t:e->q->p:=by intro he z;simp only[wz,Op.operands,Value.cells,qw,nN,Nat.reduceEqDiff,Nat.reduceAdd,Nat.reduceMul,Nat.reduceLT,Nat.reduceLeDiff,Nat.reduceBEq,kT,Int.reduceToNat,Int.reduceLT,Int.reduceLE,Nat.reduceDiv,Nat.reduceMod,Nat.reduceSub,Int.reducePow,Nat.reducePow,Gc,Gd,nn.eq_2,nn.eq_3,he];exact z):p:=t he h
def kG{p q:Prop}(h:q)(t:q->p:=by intro z;(with_reducible repeat (first|refine B6 ?_|refine Ca ?_|refine B8 ?_|refine Cd ?_|refine Ce (by decide) ?_|refine B7 ?_|refine Cb ?_|refine B9 ?_|refine Cc ?_));exact z):p:=t h
def AO(Γ:Env Tryz.prog):Prop:=True
structure Eh (q:Prop):Prop where
 h:q
section
variable {W:ar}{bs:aD}{nt:Nat}{az:jN}{Q:og}{σ:eG}{e q:Prop}{id:Nat}{ops:Array Oper}{y:Code}{side:Prop}{n:Nat}{φ:Fr}{h:ca}{js:List (Option (List PanicEntry))}{lost:aD}{fx:List (List Nat×List Nat)}
def ap5{Γ:Env Tryz.prog}(g:AO Γ)(he:e)(hQ:ae Tryz.prog W bs nt az y Q ⟨n,φ,h⟩)(aK:e->mL Γ W bs nt ops ops.toList σ.n σ.φ σ.h=⟨side,n,φ,h,js,lost,fx⟩:=by intro he;exact aJ he)(hp:js.all Option.isNone=true:=by rfl)(V:side:=by exact ot):ae Tryz.prog W bs nt az (.seq (.region id ops false) y) Q σ:=ae.s7 Γ bX (aK he) hp V hQ
def acM{c:Operand}{x y:Code}{b:Bool}{p:Prop}(he:e)(J:e->jf σ.φ true c=(p,.v (.bool b)):=by intro he;exact aJ he)(hp:p:=by trivial)(hQ:bif b then ae Tryz.prog W bs nt az x Q σ else ae Tryz.prog W bs nt az y Q σ):ae Tryz.prog W bs nt az (.cond c x y) Q σ:=ae.cond (J he) hp (λh=>by subst h;exact hQ) (λh=>by subst h;exact hQ)
def ap6{p q:Prop}{b:Bool}(h:p)(Z:b=true:=by first|rfl|(simp<;>fail)):bif b then p else q:=by subst Z;exact h
def ap7{p q:Prop}{b:Bool}(h:q)(Z:b=false:=by first|rfl|(simp<;>fail)):bif b then p else q:=by subst Z;exact h
end
def fu{Γ:Env Tryz.prog}{e p q:Prop}(g:AO Γ)(he:e)(z:q)(t:AO Γ->e->Eh q->p:=by intro g he z;(first|refine ap5 g he ?_|refine acM he (hQ:=ap6 ?_)|refine acM he (hQ:=ap7 ?_)|refine ae.block ?_|refine ae.seq ?_|refine a1 ?_);exact z.1):p:=t g he ⟨z⟩
def bk(Γ:Env Tryz.prog){e p q:Prop}(he:e)(z:q)(t:AO Γ->e->Eh q->p:=by intro g he z;refine fu g he ?_;refine fu g he ?_;exact z.1):p:=t trivial he ⟨z⟩
def dL(Γ:Env Tryz.prog){e p q:Prop}(he:e)(z:q)(t:AO Γ->e->Eh q->p:=by intro g he z;refine fu g he ?_;refine fu g he ?_;refine fu g he ?_;exact z.1):p:=t trivial he ⟨z⟩
def gJ(Γ:Env Tryz.prog){e p q:Prop}(he:e)(z:q)(t:AO Γ->e->Eh q->p:=by intro g he z;refine fu g he ?_;refine fu g he ?_;refine fu g he ?_;refine fu g he ?_;exact z.1):p:=t trivial he ⟨z⟩
def ti(Γ:Env Tryz.prog){e p q:Prop}(he:e)(z:q)(t:AO Γ->e->Eh q->p:=by intro g he z;refine fu g he ?_;refine fu g he ?_;refine fu g he ?_;refine fu g he ?_;refine fu g he ?_;exact z.1):p:=t trivial he ⟨z⟩
def y9(Γ:Env Tryz.prog){e p q:Prop}(he:e)(z:q)(t:AO Γ->e->Eh q->p:=by intro g he z;refine fu g he ?_;refine fu g he ?_;refine fu g he ?_;refine fu g he ?_;refine fu g he ?_;refine fu g he ?_;exact z.1):p:=t trivial he ⟨z⟩
def Je(Γ:Env Tryz.prog){e p q:Prop}(he:e)(z:q)(t:AO Γ->e->Eh q->p:=by intro g he z;refine fu g he ?_;refine fu g he ?_;refine fu g he ?_;refine fu g he ?_;refine fu g he ?_;refine fu g he ?_;refine fu g he ?_;exact z.1):p:=t trivial he ⟨z⟩
def lv(Γ:Env Tryz.prog){e p q:Prop}(he:e)(z:q)(t:AO Γ->e->Eh q->p:=by intro g he z;refine fu g he ?_;refine fu g he ?_;refine fu g he ?_;refine fu g he ?_;refine fu g he ?_;refine fu g he ?_;refine fu g he ?_;refine fu g he ?_;exact z.1):p:=t trivial he ⟨z⟩
def bE{Q:og}{σ:eG}{e:Prop}(he:e)(t:e->ae Tryz.prog W bs nt az .ret Q σ:=by intro he;refine bf he ?_;exact λE=>rfl):ae Tryz.prog W bs nt az .ret Q σ:=t he
def bh{e p:Prop}(he:e)(t:e->p:=by intro he;exact b8 (λk=>.key k) he):p:=t he
def cC{p:Prop}(t:p:=by refine kG ?_;exact⟨_,rfl⟩):p:=t
def eC{e p:Prop}(he:e)(t:e->p:=by intro he;exact⟨_,_,rfl,λE=>rfl,_,_,rfl,aJ he,by decide⟩):p:=t he
def mQ{e p:Prop}(he:e)(t:e->p:=by intro he;first|trivial|omega|(simp[he]<;>fail)|(simp[he];omega)|(simp[he]<;>omega)):p:=t he
def Vx{x y:Int}(A:-9223372036854775808<=x:=by omega)(D:x<=9223372036854775807:=by omega)(h:x=y:=by omega):IntKind.i64.wrap x=y:=(gb A D).trans h
def fK(k:Nat)(h:(k:Int)<9223372036854775807:=by omega):IntKind.i64.wrap ((k:Int)+1)=((k+1:Nat):Int):=Vx
def iv(x y:Int)(A:-9223372036854775808<=x:=by omega)(D:x<=9223372036854775807:=by omega)(h:x=y:=by omega):IntKind.i64.wrap x=y:=Vx A D h
def dv(x:Int)(A:-9223372036854775808<=x:=by omega)(D:x<=9223372036854775807:=by omega):IntKind.i64.wrap x=x:=Vx A D rfl
instance:Coe Nat Value:=⟨λn=>(.int .i64 n)⟩
instance:Coe Int Value:=⟨λn=>(.int .i64 n)⟩
instance:Coe ByteArray Value:=⟨λn=>(.string n)⟩
instance:Coe Bool Value:=⟨λn=>(.bool n)⟩
instance:Coe Nat ag:=⟨λn=>.v (.int .i64 n)⟩
instance:Coe Int ag:=⟨λn=>.v (.int .i64 n)⟩
instance:Coe ByteArray ag:=⟨λn=>.v (.string n)⟩
instance:Coe Bool ag:=⟨λn=>.v (.bool n)⟩
instance:Coe Value ag:=⟨λn=>.v n⟩
instance:Coe Nat eJ:=⟨λn=>.is (.v (.int .i64 n))⟩
instance:Coe Int eJ:=⟨λn=>.is (.v (.int .i64 n))⟩
instance:Coe ByteArray eJ:=⟨λn=>.is (.v (.string n))⟩
instance:Coe Bool eJ:=⟨λn=>.is (.v (.bool n))⟩
instance:Coe Value eJ:=⟨λn=>.is (.v n)⟩
instance:Coe Nat br:=⟨λn=>.val (.int .i64 n)⟩
instance:Coe Int br:=⟨λn=>.val (.int .i64 n)⟩
instance:Coe ByteArray br:=⟨λn=>.val (.string n)⟩
instance:Coe Bool br:=⟨λn=>.val (.bool n)⟩
instance:Coe Value br:=⟨λn=>.val n⟩
abbrev cQ(f:dr)(a:hE)(w:ar)(v:aM):=Calls Tryz.prog f a w λe dp=>e=.returned v/\cr w [] dp
end
end Go.Proofs.YtnemkecffmdlnaaGreatDoor
namespace Go.LE
section
open Go.RowKit
variable {P:bR}{f:dr}{aE5:Type}
variable{e:hE}
def Jf{w:ar}:∀{vs us:aX},pq w us (vs.map .val)->us=vs
 |[],[],_=>rfl
 |_::_,_::_,h=>by rw[h.1,Jf h.2]
 |[],_::_,h=>h.elim
 |_::_,[],h=>h.elim
abbrev kH (d:List br->Option aE5)(pre:aE5->World->List Nat->Prop)(iC:∀args w,(callFunc f args).run P w=.ok (.enter f args) w){e:aE5->Array Value}{res:aE5->Value}
  (ok:∀x W w bs,cr W bs w->pre x W bs->Calls P f (e x) w λv M=>v=.returned (res x)/\cr w [] M)
  (ak:∀l x,d l=some x->l=(e x).toList.map .val:=by intro l x h;split at h<;>first|(cases h<;>rfl)|(cases Eb h;rfl)|(obtain⟨_,g,rfl⟩:=ph.1 h;cases Eb g;rfl)|(obtain⟨_,g,h⟩:=Dy.1 h;obtain⟨_,k,rfl⟩:=ph.1 h;cases Eb g;cases Eb k;rfl)):cV P f where
 pre W bs l:=match d l with|some x=>pre x W bs|none=>False
 res W l:=match d l with|some x=>res x|none=>undef
 enters:=iC
 ok W w bs us l ad hu hp:=by
  cases h:d l with
  |none=>rw[h]at hp;exact hp.elim
  |some x=>rw[h]at hp;obtain rfl:=ak l x h;rw[Jf hu];exact ok x W w bs ad hp
abbrev oR (d:List br->Option aE5)(iC:∀args w,(callFunc f args).run P w=.ok (.enter f args) w){e:aE5->Array Value}{res:aE5->Value}
  (ok:∀x w,Calls P f (e x) w λv M=>v=.returned (res x)/\cr w [] M)
  (ak:∀l x,d l=some x->l=(e x).toList.map .val:=by intro l x h;split at h<;>first|(cases h<;>rfl)|(cases Eb h;rfl)|(obtain⟨_,g,rfl⟩:=ph.1 h;cases Eb g;rfl)|(obtain⟨_,g,h⟩:=Dy.1 h;obtain⟨_,k,rfl⟩:=ph.1 h;cases Eb g;cases Eb k;rfl)):cV P f:=kH d (λ_ _ _=>True) iC (λx _ w _ _ _=>ok x w) ak
abbrev sy (T:a6)(d:List br->List br->Option aE5)(pre:aE5->World->List Nat->Prop)(iC:∀args w,(callFunc f args).run P w=.ok (.enter f args) w){e:aE5->Array Value}{fs:aE5->List br}{out:aE5->j7}
  (ok:∀x W w bs u fp,cr W bs w->pre x W bs->eH w u fp T (fs x)->(∀b∈fp,b<w.heap.size)->(∀b∈fp,W.heap.size<=b\/b∈bs)->Calls P f (#[u]++e x) w λv M=>h0 w u fp T v M (out x))
  (ak:∀l m x,d l m=some x->l=fs x/\m=(e x).toList.map .val:=by intro l m x h;split at h<;>cases h;exact⟨rfl,rfl⟩):iO P f where
 T:=T
 pre W bs l m:=match d l m with|some x=>pre x W bs|none=>False
 out W l m:=match d l m with|some x=>out x|none=>.b7 [] undef
 enters:=iC
 ok W w bs u fp us l m ad H ax hm hu hp:=by
  cases h:d l m with
  |none=>rw[h]at hp;exact hp.elim
  |some x=>rw[h]at hp;obtain⟨rfl,rfl⟩:=ak l m x h;rw[Jf hu,I6];exact ok x W w bs u fp ad hp H ax hm
abbrev Mo(pre:World->List Nat->Prop)(iC:∀args w,(callFunc f args).run P w=.ok (.enter f args) w){res:aM}
  (ok:∀W w bs,cr W bs w->pre W bs->Calls P f e w λv M=>v=.returned res/\cr w [] M):cV P f where
 pre W bs l:=l=e.toList.map .val/\pre W bs
 res _ _:=res
 enters:=iC
 ok W w bs us l ad hu hp:=by obtain⟨rfl,hp⟩:=hp;rw[Jf hu];exact ok W w bs ad hp
abbrev AP(T:a6)(pre:World->List Nat->Prop)(iC:∀args w,(callFunc f args).run P w=.ok (.enter f args) w){fs:List br}{out:j7}
  (ok:∀W w bs u fp,cr W bs w->pre W bs->eH w u fp T fs->(∀b∈fp,b<w.heap.size)->(∀b∈fp,W.heap.size<=b\/b∈bs)->Calls P f (#[u]++e) w λv M=>h0 w u fp T v M out):iO P f where
 T:=T
 pre W bs l m:=(l=fs/\m=e.toList.map .val)/\pre W bs
 out _ _ _:=out
 enters:=iC
 ok W w bs u fp us l m ad H ax hm hu hp:=by obtain⟨⟨rfl,rfl⟩,hp⟩:=hp;rw[Jf hu,I6];exact ok W w bs u fp ad hp H ax hm
abbrev Jg(pre:World->(Nat->Prop)->Prop)(mono:∀W S aO bz,bT W S aO bz -> pre W S->pre aO bz)(iC:∀args w,(callFunc f args).run P w=.ok (.enter f args) w){out:ud}
  (ok:∀w S,pre w S->Calls P f e w λv M=>oO w S v M out):py P f where
 kinds:=[]
 pre l W S:=l=e.toList.map .val/\pre W S
 gA _ _ _ _ _ V h:=⟨h.1,mono _ _ _ _ V h.2⟩
 out _:=out
 enters:=iC
 ok w S us l hu hp:=by obtain⟨rfl,hp⟩:=hp;have hu:pq w us (e.toList.map .val):=hu;rw[Jf hu];exact ok w S hp
end
end Go.LE
namespace Go.Proofs
section
open Go.Shelf
def Tryz.ap8:Go.Shelf.Ren:=⟨λ| 171=>39|243=>76|246=>131|283=>183|284=>184|285=>185|286=>186|129=>227|317=>226|318=>228|319=>229|320=>230|337=>254|338=>255|n=>n,λ| 3=>3|9=>9|2=>2|4=>4|171=>313|0=>0|53=>203|37=>89|5=>5|173=>316|212=>334|51=>335|20=>20|213=>336|46=>158|232=>363|233=>364|n=>n,λ| 17=>3|18=>7|19=>8|n=>n⟩
def Tryz.ap9:Go.Proofs.LaysM.n171 Tryz.prog Tryz.ap8:={
 mixed:=by kernel_rfl
 f129:=Tryz.func227.trans (fZ some (by kernel_rfl))
 f171:=Tryz.func39.trans (fZ some (by kernel_rfl))
 f243:=Tryz.func76.trans (fZ some (by kernel_rfl))
 f246:=Tryz.func131.trans (fZ some (by kernel_rfl))
 f283:=Tryz.func183.trans (fZ some (by kernel_rfl))
 f284:=Tryz.func184.trans (fZ some (by kernel_rfl))
 f285:=Tryz.func185.trans (fZ some (by kernel_rfl))
 f286:=Tryz.func186.trans (fZ some (by kernel_rfl))
 f317:=Tryz.func226.trans (fZ some (by kernel_rfl))
 f318:=Tryz.func228.trans (fZ some (by kernel_rfl))
 f319:=Tryz.func229.trans (fZ some (by kernel_rfl))
 f320:=Tryz.func230.trans (fZ some (by kernel_rfl))
 f337:=Tryz.func254.trans (fZ some (by kernel_rfl))
 f338:=Tryz.func255.trans (fZ some (by kernel_rfl))
 t0:=Tryz.underlying0
 a0:=Tryz.isAgg0
 z0:=Tryz.sizeOf0
 v0:=Tryz.zeroValue0
 t2:=Tryz.underlying2
 a2:=Tryz.isAgg2
 z2:=Tryz.sizeOf2
 v2:=Tryz.zeroValue2
 t3:=Tryz.underlying3
 a3:=Tryz.isAgg3
 z3:=Tryz.sizeOf3
 v3:=Tryz.zeroValue3
 t4:=Tryz.underlying4
 a4:=Tryz.isAgg4
 z4:=Tryz.sizeOf4
 v4:=Tryz.zeroValue4
 t5:=Tryz.underlying5
 a5:=Tryz.isAgg5
 z5:=Tryz.sizeOf5
 v5:=Tryz.zeroValue5
 t9:=Tryz.underlying9
 a9:=Tryz.isAgg9
 z9:=Tryz.sizeOf9
 v9:=Tryz.zeroValue9
 t20:=Tryz.underlying20
 a20:=Tryz.isAgg20
 z20:=Tryz.sizeOf20
 v20:=Tryz.zeroValue20
 t37:=Tryz.underlying89
 a37:=Tryz.isAgg89
 z37:=Tryz.sizeOf89
 v37:=Tryz.zeroValue89
 t46:=Tryz.underlying158
 a46:=Tryz.isAgg158
 z46:=Tryz.sizeOf158
 v46:=Tryz.zeroValue158
 t51:=Tryz.underlying335
 a51:=Tryz.isAgg335
 z51:=Tryz.sizeOf335
 v51:=Tryz.zeroValue335
 t53:=Tryz.underlying203
 a53:=Tryz.isAgg203
 z53:=Tryz.sizeOf203
 v53:=Tryz.zeroValue203
 t171:=Tryz.underlying313
 a171:=Tryz.isAgg313
 z171:=Tryz.sizeOf313
 v171:=Tryz.zeroValue313
 t173:=Tryz.underlying316
 a173:=Tryz.isAgg316
 z173:=Tryz.sizeOf316
 v173:=Tryz.zeroValue316
 t212:=Tryz.underlying334
 a212:=Tryz.isAgg334
 z212:=Tryz.sizeOf334
 v212:=Tryz.zeroValue334
 t213:=Tryz.underlying336
 a213:=Tryz.isAgg336
 z213:=Tryz.sizeOf336
 t232:=Tryz.underlying363
 a232:=Tryz.isAgg363
 z232:=Tryz.sizeOf363
 v232:=Tryz.zeroValue363
 t233:=Tryz.underlying364
 a233:=Tryz.isAgg364
 z233:=Tryz.sizeOf364
 v233:=Tryz.zeroValue364
 g17:=by kernel_rfl
 g18:=by kernel_rfl
 g19:=by kernel_rfl
 i0:=by kernel_rfl
 i2:=by kernel_rfl
 i3:=by kernel_rfl
 i4:=by kernel_rfl
 i5:=by kernel_rfl
 i9:=by kernel_rfl
 i20:=by kernel_rfl
 i37:=by kernel_rfl
 i46:=by kernel_rfl
 i51:=by kernel_rfl
 i53:=by kernel_rfl
 i171:=by kernel_rfl
 i173:=by kernel_rfl
 i212:=by kernel_rfl
 i232:=by kernel_rfl
 i233:=by kernel_rfl
 m17:=by kernel_rfl
 m18:=by kernel_rfl
 m19:=by kernel_rfl }
end
end Go.Proofs
namespace Go.Proofs.YtnemkecffmdlnaaGreatDoor
section
inductive bm where
 |bV
 |cls (S:BitVec 256)
 |cat (a b:bm)
 |alt (a b:bm)
 |star (a:bm)
 |and (a b:bm)
 |minus (a b:bm)
abbrev cH:=Nat×bm
def fz(n:Nat):Nat:=min n 2001
def eV(mk:bm->bm->bm)(a b:cH):cH:=(fz (1+a.1+b.1),mk a.2 b.2)
def ht(t:bm):cH:=(1,t)
def qf(a:cH):cH:=(fz (1+a.1),.star a.2)
def jx(a:cH):cH:=eV .alt a (ht .bV)
def gk(f:cH->cH):Nat->cH->cH
 |0,x=>x
 |n+1,x=>gk f n (f x)
def nO(a:cH)(m n:Int):cH:=
 if m=0/\n<0 then qf a
 else if m=0/\n=0 then ht .bV
 else if n<0 then eV .cat (gk (λx=>eV .cat x a) (m-1).toNat (if m=0 then jx a else a)) (qf a)
 else gk (λx=>eV .cat x (jx a)) (n-max m 1).toNat (gk (λx=>eV .cat x a) (m-1).toNat (if m=0 then jx a else a))
section
variable (c:Int->Int)(N:Int)(rd:Int->Except (Int×Int) (BitVec 256×Int))
def mm:Nat->Int->Int->Int×Int
 |0,n,i=>(n,i)
 |k+1,n,i=>if i<N/\48<=c i/\c i<=57 then mm k (10*n+(c i-48)) (i+1) else(n,i)
def np(i:Int):Except (Int×Int) (Int×Int):=if(mm c N 3 0 i).2=i then .error (20,i) else .ok (mm c N 3 0 i)
def qz(m j:Int):Except (Int×Int) (Int×Int):=if j<N/\c j=44 then(if¬j+1<N\/c (j+1)≠125 then np c N (j+1) else .ok (-1,j+1)) else .ok (m,j)
def wA(m n j i:Int):Except (Int×Int) (Int×Int×Int):=
 if¬j<N\/c j≠125 then .error (20,j)
 else if 255<m\/255<n\/(0<=n/\n<m) then .error (22,i)
 else .ok (m,n,j+1)
def jR(i:Int):Except (Int×Int) (Int×Int×Int):=
 match np c N (i+1) with
 |.error e=>.error e
 |.ok (m,j)=>match qz c N m j with
  |.error e=>.error e
  |.ok (n,j)=>wA c N m n j i
def nq:Nat->cH->Int->Except (Int×Int) (cH×Int)
 |0,r,i=>.ok (r,i)
 |f+1,r,i=>
  if¬i<N then .ok (r,i)
  else if c i=42 then nq f (qf r) (i+1)
  else if c i=43 then nq f (eV .cat r (qf r)) (i+1)
  else if c i=63 then nq f (jx r) (i+1)
  else if c i=123 then
   match jR c N i with
   |.error e=>.error e
   |.ok (m,n,j)=>nq f (nO r m n) j
  else .ok (r,i)
def wB(o:Option cH):cH:=o.getD (ht .bV)
def za(o:Option cH)(p:cH):cH:=match o with
 |none=>p
 |some x=>eV .cat x p
def pB(x:Int):Prop:=x=124\/x=38\/x=45\/x=41
def ic(x:Int):Prop:=x=42\/x=43\/x=63\/x=123
instance (x:Int):Decidable (pB x):=by unfold pB;infer_instance
instance (x:Int):Decidable (ic x):=by unfold ic;infer_instance
def j8(atom:Int->Except (Int×Int) (cH×Int)):Nat->Option cH->Int->Except (Int×Int) (cH×Int)
 |0,o,i=>.ok (wB o,i)
 |f+1,o,i=>
  if¬i<N then .ok (wB o,i)
  else if pB (c i) then .ok (wB o,i)
  else if ic (c i) then .error (20,i)
  else match atom i with
   |.error e=>.error e
   |.ok (a,j)=>match nq c N (N.toNat+1) a j with
    |.error e=>.error e
    |.ok (p,k)=>j8 atom f (some (za o p)) k
def wC(row:Int->Except (Int×Int) (cH×Int)):Nat->cH->Int->Except (Int×Int) (cH×Int)
 |0,o,i=>.ok (o,i)
 |f+1,o,i=>
  if¬i<N then .ok (o,i)
  else if c i=38 then match row (i+1) with
   |.error e=>.error e
   |.ok (r,j)=>wC row f (eV .and o r) j
  else if c i=45 then match row (i+1) with
   |.error e=>.error e
   |.ok (r,j)=>wC row f (eV .minus o r) j
  else .ok (o,i)
def vm(row:Int->Except (Int×Int) (cH×Int))(i:Int):Except (Int×Int) (cH×Int):=
 match row i with
 |.error e=>.error e
 |.ok (r,j)=>wC c N row (N.toNat+1) r j
def AQ(meet:Int->Except (Int×Int) (cH×Int)):Nat->cH->Int->Except (Int×Int) (cH×Int)
 |0,o,i=>.ok (o,i)
 |f+1,o,i=>
  if i<N/\c i=124 then match meet (i+1) with
   |.error e=>.error e
   |.ok (r,j)=>AQ meet f (eV .alt o r) j
  else .ok (o,i)
def Vy(meet:Int->Except (Int×Int) (cH×Int))(i:Int):Except (Int×Int) (cH×Int):=
 match meet i with
 |.error e=>.error e
 |.ok (r,j)=>AQ c N meet (N.toNat+1) r j
def xR(atom:Int->Except (Int×Int) (cH×Int)):Int->Except (Int×Int) (cH×Int):=Vy c N (vm c N (j8 c N atom (N.toNat+1) none))
def Cr(i:Int):Except (Int×Int) (cH×Int):=match rd i with
 |.error e=>.error e
 |.ok (S,j)=>.ok (ht (.cls S),j)
def Jh(i:Int):Except (Int×Int) (cH×Int)->Except (Int×Int) (cH×Int)
 |.error e=>.error e
 |.ok (r,j)=>if¬j<N then .error (21,i) else .ok (r,j+1)
def gv:Nat->Int->Except (Int×Int) (cH×Int)
 |0,i=>if c i=40 then .error (23,i) else Cr rd i
 |n+1,i=>if c i=40 then Jh N i (xR c N (gv n) (i+1)) else Cr rd i
def alts(n:Nat):Int->Except (Int×Int) (cH×Int):=xR c N (gv c N rd n)
def Gu:Except (Int×Int) (cH×Int)->Except (Int×Int) bm
 |.error e=>.error e
 |.ok (r,j)=>if j<N then .error (20,j) else if 2000<r.1 then .error (24,0) else .ok r.2
def Mp:Except (Int×Int) bm:=if 1048576<N then .error (1,0) else Gu N (alts c N rd 1000 0)
end
end
section
inductive bU where
 |bV
 |cls (S:BitVec 256)
 |cat (a b:bU)
 |alt (a b:bU)
 |and (a b:bU)
 |minus (a b:bU)
 |rep (a:bU) (m n:Int)
def kY(x:bm)(m:Int)(k:Int):bm:=if k<m then x else .alt x .bV
def pC(x:bm)(m:Int):Nat->Int->bm->bm
 |0,_,w=>w
 |n+1,k,w=>pC x m n (k+1) (.cat w (kY x m k))
def ie(m:Int):Int:=if m=-2 then 1 else m
def qA(x:bm)(m n:Int):bm:=
 if n<0/\ie m=0 then .star x
 else if n=0 then .bV
 else if n<0 then .cat (pC x (ie m) (ie m-1).toNat 1 (kY x (ie m) 0)) (.star x)
 else pC x (ie m) (n-1).toNat 1 (kY x (ie m) 0)
def re(a m n:Int):Int:=
 if m=-2 then a+1+a+1
 else if n<0/\m=0 then a+1
 else if n<0 then m*a+m-1+1+a+1
 else if n=0 then 1
 else if m=0 then n*(a+2)+n-1
 else m*a+m-1+(n-m)*(a+2+1)
def bU.expand:bU->bm
 |.bV=>.bV
 |.cls S=>.cls S
 |.cat a b=>.cat a.expand b.expand
 |.alt a b=>.alt a.expand b.expand
 |.and a b=>.and a.expand b.expand
 |.minus a b=>.minus a.expand b.expand
 |.rep a m n=>qA a.expand m n
def bU.aw:bU->Nat
 |.bV=>1
 |.cls S=>1
 |.cat a b=>fz (1+a.aw+b.aw)
 |.alt a b=>fz (1+a.aw+b.aw)
 |.and a b=>fz (1+a.aw+b.aw)
 |.minus a b=>fz (1+a.aw+b.aw)
 |.rep a m n=>fz (re a.aw m n).toNat
def bU.val(t:bU):cH:=(t.aw,t.expand)
theorem Cs(n:Nat):fz n<=2001:=by grind [fz]
def acN(a b:Nat):fz (1+fz a+b)=fz (1+a+b):=by grind [fz]
theorem acO(a b:Nat):fz (1+a+fz b)=fz (1+a+b):=by grind [fz]
def Mq(y:cH):∀(k:Nat) (s:Nat) (w:bm),(gk (λx=>eV .cat x y) k (fz s,w)).1=fz (s+k*(1+y.1))
 |0,s,w=>by simp[gk]
 |k+1,s,w=>by
  show(gk (λx=>eV .cat x y) k (fz (1+fz s+y.1),.cat w y.2)).1=_;rw[acN,Mq y k,Nat.succ_mul]
  congr 1
  omega
def Vz(x:bm)(y:cH)(m:Int)(cG:y.2=x):∀(n:Nat) (k:Int) (s:Nat) (w:bm),k+n<=m->(gk (λaE7=>eV .cat aE7 y) n (s,w)).2=pC x m n k w
 |0,k,s,w,_=>rfl
 |n+1,k,s,w,h=>by
  have VA:kY x m k=y.2:=by grind [kY]
  show(gk (λaE7=>eV .cat aE7 y) n (fz (1+s+y.1),.cat w y.2)).2=pC x m n (k+1) (.cat w (kY x m k));rw[VA];exact Vz x y m cG n (k+1) _ _ (by omega)
def VB(x:bm)(y:cH)(m:Int)(cG:y.2=.alt x .bV):∀(n:Nat) (k:Int) (s:Nat) (w:bm),m<=k->(gk (λaE7=>eV .cat aE7 y) n (s,w)).2=pC x m n k w
 |0,k,s,w,_=>rfl
 |n+1,k,s,w,h=>by
  have VA:kY x m k=y.2:=by grind [kY]
  show(gk (λaE7=>eV .cat aE7 y) n (fz (1+s+y.1),.cat w y.2)).2=pC x m n (k+1) (.cat w (kY x m k));rw[VA];exact VB x y m cG n (k+1) _ _ (by omega)
def acP(x:bm)(m:Int):∀(a b:Nat) (k:Int) (w:bm),pC x m (a+b) k w=pC x m b (k+a) (pC x m a k w)
 |0,b,k,w=>by simp[pC]
 |a+1,b,k,w=>by
  rw[Nat.succ_add];simp only[pC];rw[acP x m a b]
  congr 1
  omega
theorem acQ(t:bU):qf t.val=(bU.rep t 0 (-1)).val:=by grind [qf,bU.val,bU.aw,bU.expand,qA,ie,re]
theorem acR(t:bU):eV .cat t.val (qf t.val)=(bU.rep t (-2) (-1)).val:=by
 simp only[qf,eV,bU.val,bU.aw,bU.expand,qA,ie,re,pC,kY]
 grind [acO,pC]
theorem aqa(t:bU):jx t.val=(bU.rep t 0 1).val:=by grind [jx,ht,eV,bU.val,bU.aw,bU.expand,qA,ie,re,pC,kY]
def acS(p k s:Nat):fz (p+k*(1+fz s))=fz (p+k*(1+s)):=by induction k<;>grind [fz]
def Qq{α β:Type}{x:α×β}{a:α}{b:β}(D:x.1=a)(O:x.2=b):x=(a,b):=by grind
theorem acT(t:bU)(m n:Int)(A:0<=m)(D:n=-1\/(0<=n/\m<=n))(aV:t.aw<=2001):nO t.val m n=(bU.rep t m n).val:=by
 have hp:ie m=m:=by grind [ie]
 have Mr:¬m=-2:=by omega
 rcases D with rfl|⟨aE,Ji⟩
 ·by_cases hm:m=0
  ·grind [acQ,nO]
  ·obtain⟨a,rfl⟩:∃a:Nat,m=(a:Int)+1:=⟨(m-1).toNat,by omega⟩;have bg:((a:Int)+1-1).toNat=a:=by omega
   have bN:nO t.val ((a:Int)+1) (-1)=eV .cat (gk (λx=>eV .cat x t.val) a t.val) (qf t.val):=by simp_all [nO]
   rw[bN];apply Qq
   ·show fz (1+(gk (λx=>eV .cat x t.val) a t.val).1+fz (1+t.aw))=fz (re t.aw ((a:Int)+1) (-1)).toNat;have dQ:(gk (λx=>eV .cat x t.val) a t.val).1=fz (t.aw+a*(1+t.aw)):=by
     have:=Mq t.val a t.aw t.expand
     grind [bU.val,fz]
    grind [fz,re]
   ·show bm.cat (gk (λx=>eV .cat x t.val) a t.val).2 (.star t.expand)=qA t.expand ((a:Int)+1) (-1);unfold qA;rw[hp,ab (by omega),ab (by omega),al (by omega),bg];have:=Vz t.expand t.val ((a:Int)+1) rfl a 1 t.aw t.expand (by omega)
    grind [kY,bU.val]
 ·by_cases hm:m=0
  ·subst hm;by_cases Gv:n=0
   ·subst Gv;rfl
   ·obtain⟨b,rfl⟩:∃b:Nat,n=(b:Int)+1:=⟨(n-1).toNat,by omega⟩;have bg:((b:Int)+1-max 0 1).toNat=b:=by omega
    have bN:nO t.val 0 ((b:Int)+1)=gk (λx=>eV .cat x (jx t.val)) b (jx t.val):=by grind [nO,gk]
    rw[bN];apply Qq
    ·have dQ:(gk (λx=>eV .cat x (jx t.val)) b (jx t.val)).1=fz ((t.aw+2)+b*(1+(t.aw+2))):=by
      have:=Mq (jx t.val) b (1+t.aw+1) (.alt t.expand .bV);rw[show(jx t.val).1=fz (t.aw+2) from by show fz (1+t.aw+1)=_;congr 1;omega,acS]at this;rw[show 1+t.aw+1=t.aw+2 by omega]at this;rw[<- this];show(gk _ b (fz (1+t.aw+1),_)).1=_
      grind [bU.val,ht]
     have h1:re t.aw 0 ((b:Int)+1)=(((t.aw+2)+b*(1+(t.aw+2)):Nat):Int):=by grind [re]
     grind [bU.aw]
    ·show _=qA t.expand 0 ((b:Int)+1);unfold qA;rw[hp,ab (by omega),ab (by omega),ab (by omega),show((b:Int)+1-1).toNat=b by omega];have:=VB t.expand (jx t.val) 0 rfl b 1 (jx t.val).1 (.alt t.expand .bV) (by omega);trivial
  ·obtain⟨a,rfl⟩:∃a:Nat,m=(a:Int)+1:=⟨(m-1).toNat,by omega⟩;obtain⟨d,rfl⟩:∃d:Nat,n=(a:Int)+1+d:=⟨(n-(a+1)).toNat,by omega⟩;have bg:((a:Int)+1-1).toNat=a:=by omega
   have cv:((a:Int)+1+d-max ((a:Int)+1) 1).toNat=d:=by omega
   have bN:nO t.val ((a:Int)+1) ((a:Int)+1+d)=gk (λx=>eV .cat x (jx t.val)) d (gk (λx=>eV .cat x t.val) a t.val):=by grind [nO]
   have dQ:(gk (λx=>eV .cat x t.val) a t.val).1=fz (t.aw+a*(1+t.aw)):=by
    have:=Mq t.val a t.aw t.expand
    grind [bU.val,fz]
   have rU:(gk (λx=>eV .cat x t.val) a t.val).2=pC t.expand ((a:Int)+1) a 1 t.expand:=Vz t.expand t.val ((a:Int)+1) rfl a 1 t.aw t.expand (by omega);have Ei:gk (λx=>eV .cat x t.val) a t.val=(fz (t.aw+a*(1+t.aw)),pC t.expand ((a:Int)+1) a 1 t.expand):=Qq dQ rU;rw[bN,Ei];apply Qq
   ·have h1:re t.aw ((a:Int)+1) ((a:Int)+1+d)=((t.aw+a*(1+t.aw)+d*(1+(t.aw+2)):Nat):Int):=by
     grind [re]
    show _=fz (re t.aw ((a:Int)+1) ((a:Int)+1+d)).toNat;rw[h1,kR,Mq];rw[show(jx t.val).1=fz (t.aw+2) from by show fz (1+t.aw+1)=_;congr 1;omega,acS]
   ·show _=qA t.expand ((a:Int)+1) ((a:Int)+1+d);unfold qA;rw[hp,ab (by omega),ab (by omega),ab (by omega),show((a:Int)+1+d-1).toNat=a+d by omega,acP];rw[show kY t.expand ((a:Int)+1) 0=t.expand from by simp_all [kY]];exact VB t.expand (jx t.val) ((a:Int)+1) rfl d (1+a) _ _ (by omega)
theorem Gw(t:bU):t.aw<=2001:=by fun_induction bU.aw<;>grind [Cs]
end
end Go.Proofs.YtnemkecffmdlnaaGreatDoor
