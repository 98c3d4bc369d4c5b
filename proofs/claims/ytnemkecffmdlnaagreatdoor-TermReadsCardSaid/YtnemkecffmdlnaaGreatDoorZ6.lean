/-
 Part 6 of the proof (packed).
-/
import Derived.Test.YtnemkecffmdlnaaGreatDoorZ5
import Derived.Shelf.Strings.OnBuilder
import Derived.Test.YtnemkecffmdlnaaGreatDoorProg
set_option linter.unusedSimpArgs false
set_option linter.unusedVariables false
set_option linter.defProp false
set_option maxHeartbeats 16000000
noncomputable section
namespace Go.Proofs.YtnemkecffmdlnaaGreatDoor
section
open Go.RowKit Go.LE Go.Proofs.Tryz
variable(a:Nat)
inductive jW where
 |nil
 |mk (at_:Nat) (op:ao) (n:Option bm) (to dA:ao) (a b:jW)
inductive k6 where
 |nil
 |mk (at_:Nat) (op:ao) (n:Option bm) (cx:ao) (q:jW) (a b:k6)
inductive cl where
 |text (at_:Nat) (s:ao)
 |rx (at_:Nat) (r:bm)
 |canon (c:jW)
 |lens (l:k6)
def fB:ByteArray:=⟨#[110,111,114,109]⟩
def fX:ByteArray:=⟨#[105,110,115]⟩
def jE:ByteArray:=⟨#[105,100]⟩
def ke:ByteArray:=⟨#[102,111,108,100]⟩
def eD:ByteArray:=⟨#[115,116,97,114]⟩
def iX:ByteArray:=⟨#[99,111,112,121]⟩
def nZ:ByteArray:=⟨#[107,101,121]⟩
def nz:ByteArray:=⟨#[100,101,108]⟩
def nA:ByteArray:=⟨#[107,101,121,101,100]⟩
def mZ:ByteArray:=⟨#[108,101,102,116]⟩
def na:ByteArray:=⟨#[114,105,103,104,116]⟩
def nB:ByteArray:=⟨#[100,101,102,97,117,108,116]⟩
def o6:ByteArray:=⟨#[97,108,116]⟩
def l1:ByteArray:=⟨#[99,97,116]⟩
def CY:ByteArray:=⟨#[115,119,97,112]⟩
def CZ:ByteArray:=⟨#[99,104,97,105,110]⟩
def C0:ByteArray:=⟨#[116,101,120,116]⟩
def C1:ByteArray:=⟨#[114,101,103,101,120]⟩
def fJ(s:ao):Nat:=max 1 (2*s.size-1)
def eA:Option bm->Nat
 |none=>0
 |some r=>aG r
def fO:jW->Nat
 |.nil=>0
 |.mk _ op n to _ a b=>1+eA n+fO a+fO b+(if op=fB then fJ to else 0)
def hz:k6->Nat
 |.nil=>0
 |.mk _ op n cx q a b=>1+eA n+fO q+hz a+hz b+(if op=fX then fJ cx else 0)
def dK:cl->Nat
 |.text _ s=>fJ s
 |.rx _ r=>aG r
 |.canon c=>fO c
 |.lens l=>hz l
def zK:ByteArray:=⟨#[47]⟩
def Hw:ByteArray:=⟨#[64]⟩
def Hx:ByteArray:=⟨#[40]⟩
def Hy:ByteArray:=⟨#[41]⟩
def n0:ByteArray:=⟨#[44]⟩
def hA:Option bm->ByteArray
 |none=>zK++⟨#[91,93]⟩++zK
 |some r=>zK++iG r++zK
def iY(l:List ByteArray):ByteArray:=⟨(Lib.join (l.map (·.data.toList)) n0.data.toList).toArray⟩
def gy(a:Nat)(w:ao)(l:List ByteArray):ByteArray:=w++Hw++wW (a:Nat)++Hx++iY l++Hy
def gQ:jW->ByteArray
 |.nil=>⟨#[]⟩
 |.mk a op n to dA x y=>
  if op=jE\/op=ke then gy a op [hA n]
  else if op=fB then gy a op [hA n,e9 to,e9 dA]
  else if op=eD then gy a op [gQ x]
  else gy a op [gQ x,gQ y]
def eB:k6->ByteArray
 |.nil=>⟨#[]⟩
 |.mk a op n cx q x y=>
  if op=iX\/op=nZ then gy a op [hA n]
  else if op=nz then gy a op [hA n,e9 cx]
  else if op=fX then gy a op [e9 cx]
  else if op=eD\/op=nA then gy a op [eB x]
  else if op=mZ then gy a op [gQ q,eB x]
  else if op=na then gy a op [eB x,gQ q]
  else if op=nB then gy a op [eB x,e9 cx]
  else gy a op [eB x,eB y]
def iZ:cl->ByteArray
 |.text a s=>gy a C0 [e9 s]
 |.rx a r=>gy a C1 [hA (some r)]
 |.canon c=>gQ c
 |.lens l=>eB l
def sJ:cl->Nat
 |.text a _=>a
 |.rx a _=>a
 |.canon (.mk a ..)=>a
 |.lens (.mk a ..)=>a
 |_=>0
def k7:cl->Nat
 |.text ..=>1
 |.rx ..=>2
 |.canon _=>3
 |.lens _=>4
def NR(s:ao)(i:Nat):bm:=.cls (qg (s.extract i (i+1)) 1)
def ry(s:ao):Nat->bm
 |0=>.bV
 |1=>NR s 0
 |n+2=>.cat (ry s (n+1)) (NR s (n+1))
def r7(s:ao):bm:=ry s s.size
def fa:cl->Option bm
 |.text _ s=>some (r7 s)
 |.rx _ r=>some r
 |_=>none
abbrev n1:=Except (Int×Int) cl
def lF(a:Nat):n1:=.error (72,(a:Nat))
def pP(a:Nat)(op:ao)(t:cl):n1:=match fa t with
 |some n=>.ok (.rx a (if op=ny then .star n else if op=pK then .cat n (.star n) else .alt n .bV))
 |none=>match t with
  |.canon c=>if op=ny then .ok (.canon (.mk a eD none ⟨#[]⟩ ⟨#[]⟩ c .nil)) else lF a
  |.lens l=>.ok (.lens (if op=ny then .mk a eD none ⟨#[]⟩ .nil l .nil
    else if op=pK then .mk a l1 none ⟨#[]⟩ .nil l (.mk a eD none ⟨#[]⟩ .nil l .nil)
    else .mk a o6 none ⟨#[]⟩ .nil l (.mk a iX (some .bV) ⟨#[]⟩ .nil .nil .nil)))
  |_=>lF a
def vH:ByteArray:=⟨#[124]⟩
def vI:ByteArray:=⟨#[46]⟩
def yl:ByteArray:=⟨#[38]⟩
def ym:ByteArray:=⟨#[45]⟩
def Hz:ByteArray:=⟨#[126]⟩
def HA:ByteArray:=⟨#[62,62]⟩
def gm(op:ao):Nat:=if op=vH then 1 else if op=vI then 2 else if op=Hz then 3 else if op=HA then 4 else 0
def oG:Nat->ByteArray
 |1=>o6
 |2=>l1
 |3=>CY
 |4=>CZ
 |_=>⟨#[]⟩
def rz(op:ao)(x y:bm):Option bm:=if op=vH then some (.alt x y) else if op=vI then some (.cat x y) else if op=yl then some (.and x y) else if op=ym then some (.minus x y) else none
def jk(op:ao):cl->cl->n1
 |.lens p,.lens q=>if 0<gm op then .ok (.lens (.mk a (oG (gm op)) none ⟨#[]⟩ .nil p q)) else lF a
 |.canon p,.canon q=>if gm op=1\/gm op=2 then .ok (.canon (.mk a (oG (gm op)) none ⟨#[]⟩ ⟨#[]⟩ p q)) else lF a
 |_,_=>lF a
def vJ(a:Nat)(op:ao)(t u:cl):n1:=match fa t,fa u with
 |some x,some y=>match rz op x y with
  |some r=>.ok (.rx a r)
  |none=>jk a op t u
 |_,_=>jk a op t u
def r8(ah:List cl)(ps:aD)(i:Nat):Except (Int×Int) bm:=match(ah[i]?).bind fa with
 |some r=>.ok r
 |none=>.error (72,((ps.getD i 0:Nat)))
def jF(ah:List cl)(ps:aD)(i:Nat):Except (Int×Int) ByteArray:=match ah[i]? with
 |some (.text _ s)=>.ok s
 |_=>.error (72,((ps.getD i 0:Nat)))
def o7(ah:List cl)(ps:aD)(i:Nat):Except (Int×Int) jW:=match ah[i]? with
 |some (.canon c)=>.ok c
 |_=>.error (72,((ps.getD i 0:Nat)))
def k8(ah:List cl)(ps:aD)(i:Nat):Except (Int×Int) k6:=match ah[i]? with
 |some (.lens l)=>.ok l
 |_=>.error (72,((ps.getD i 0:Nat)))
def cI{α:Type}(x:Except (Int×Int) α)(f:α->n1):n1:=match x with
 |.error e=>.error e
 |.ok a=>f a
def ev(a:Nat)(w:ao)(ah:List cl)(ps:aD):n1:=
 if w=jE\/w=ke then cI (r8 ah ps 0) λn=>.ok (.canon (.mk a w (some n) ⟨#[]⟩ ⟨#[]⟩ .nil .nil))
 else if w=fB then cI (r8 ah ps 0) λn=>cI (jF ah ps 1) λs=>cI (jF ah ps 2) λt=>.ok (.canon (.mk a w (some n) s t .nil .nil))
 else if w=nz then cI (r8 ah ps 0) λn=>cI (jF ah ps 1) λs=>.ok (.lens (.mk a w (some n) s .nil .nil .nil))
 else if w=fX then cI (jF ah ps 0) λs=>.ok (.lens (.mk a w none s .nil .nil .nil))
 else if w=iX\/w=nZ then cI (r8 ah ps 0) λn=>.ok (.lens (.mk a w (some n) ⟨#[]⟩ .nil .nil .nil))
 else if w=mZ then cI (o7 ah ps 0) λc=>cI (k8 ah ps 1) λl=>.ok (.lens (.mk a w none ⟨#[]⟩ c l .nil))
 else if w=na then cI (k8 ah ps 0) λl=>cI (o7 ah ps 1) λc=>.ok (.lens (.mk a w none ⟨#[]⟩ c l .nil))
 else if w=nB then cI (k8 ah ps 0) λl=>cI (jF ah ps 1) λs=>.ok (.lens (.mk a w none s .nil l .nil))
 else .ok (.lens (.mk a w none ⟨#[]⟩ .nil .nil .nil))
def nb(a:Nat)(t:cl):n1:=if 2000<dK t then .error (24,(a:Nat)) else .ok t
def HB:bO->Nat
 |.name a _=>a
 |.text a _=>a
 |.rx a _=>a
 |.call a _ _=>a
 |.keyed a _=>a
 |.unary a _ _=>a
 |.binary a _ _ _=>a
 |_=>0
def eb:bO->List Nat
 |.cons x l=>HB x::eb l
 |_=>[]
abbrev dN:=List (ByteArray×cl)
def rA:dN->ByteArray->Option cl
 |[],_=>none
 |(k,t)::r,s=>if k=s then some t else rA r s
def zL:cl->n1
 |.lens l=>.ok (.lens (.mk a nA none ⟨#[]⟩ .nil l .nil))
 |_=>lF a
mutual
def dk(v:dN):bO->n1
 |.name a s=>match rA v s with
  |some t=>.ok t
  |none=>.error (70,(a:Nat))
 |.text a s=>.ok (.text a s)
 |.rx a s=>match vt s with
  |.ok r=>.ok (.rx a r)
  |.error (c,j)=>.error (c,IntKind.i64.wrap ((a:Nat)+1+j))
 |.keyed a x=>cI (dk v x) λt=>cI (zL a t) (nb a)
 |.unary a op x=>cI (dk v x) λt=>cI (pP a op t) (nb a)
 |.binary a op x y=>cI (dk v x) λt=>cI (dk v y) λu=>cI (vJ a op t u) (nb a)
 |.call a w l=>match qK v l with
  |.error e=>.error e
  |.ok ah=>cI (ev a w ah (eb l)) (nb a)
 |.nil=>.error (0,0)
 |.cons _ _=>.error (0,0)
def qK(v:dN):bO->Except (Int×Int) (List cl)
 |.cons x l=>match dk v x with
  |.error e=>.error e
  |.ok t=>match qK v l with
   |.error e=>.error e
   |.ok ah=>.ok (t::ah)
 |_=>.ok []
end
def yn:dN->List (Nat×ByteArray×bO)->Except (Int×Int) dN
 |v,[]=>.ok v
 |v,(a,s,x)::r=>match rA v s with
  |some _=>.error (71,(a:Nat))
  |none=>match dk v x with
   |.error e=>.error e
   |.ok t=>yn (v++[(s,t)]) r
def Br(p:pN):n1:=match yn [] p.1 with
 |.error e=>.error e
 |.ok v=>dk v p.2
def vK(s:ao):n1:=match rv s with
 |.error (c,a)=>.error (c,(a:Nat))
 |.ok p=>Br p
end
section
open Go Go.RowKit Go.LE
set_option maxRecDepth 10000
variable{W:ar}{t:cl}{hh:ca}{bs:aD}{κ a:Nat}{P:bR}{name:String}{n:Option bm}
def aw6{t:a6}{f:dr}{i:TypeInfo}{m:Method}{d:TypeDesc}{b:Bool}(hi:P.info? t=some i)(hm:i.methods.find? (·.name==name)=some m)(hp:m.path=#[])(aW:m.func=some (f,b))
  (ak:P.underlying t=some d) (Z:b=match d with|.pointer _=>true|_=>false) (n:Nat) (v:aM) (w:ar) :
  (method (n+1) t v name).run P w=.ok (f,v) w:=by
 subst Z;simp only[method,Sem.run_bind,typeInfo];simp[hi,hm,hp,aW,follow,receiverAt,run_underlying ak];cases d<;>simp[Place.get]
def Xr(P:bR)(t:a6)(name:String):Option (FuncId×Bool):=match P.info? t with
 |some i=>match i.methods.find? (·.name==name) with
  |some m=>match m.path.isEmpty,m.func with
   |true,some x=>some x
   |_,_=>none
  |none=>none
 |none=>none
def Xs:Option TypeDesc->Option Bool
 |some (.pointer _)=>some true
 |some _=>some false
 |none=>none
def aw7{t:a6}{f:dr}{b:Bool}(z:Xr P t name=some (f,b))(ak:Xs (P.underlying t)=some b)(v:aM)(w:ar):
  (method (P.types.size+Made.depth) t v name).run P w=.ok (f,v) w:=by
 unfold Xr at z;split at z
 ·rename_i i hi;split at z
  ·rename_i m hm;split at z
   ·rename_i x hp aW;cases z;cases hu:P.underlying t with
    |none=>rw[hu]at ak;cases ak
    |some d=>rw[hu]at ak;have:Made.depth=(Made.depth-1)+1:=rfl;rw[this,<- Le];refine aw6 hi hm (aC hp) aW hu ?_ _ v w;cases d<;>simp[Xs]at ak<;>simp[ak]
   ·cases z
  ·cases z
 ·cases z
def hI{t:a6}(f:dr)(b:Bool)(z:Xr P t name=some (f,b))(ak:Xs (P.underlying t)=some b):mK P t name:=⟨f,aw7 z ak⟩
def afG:mK Tryz.prog 279 "Size":=hI 311 false (by kernel_rfl) (by kernel_rfl)
def afH:mK Tryz.prog 281 "Size":=hI 314 false (by kernel_rfl) (by kernel_rfl)
def afI:mK Tryz.prog 283 "Size":=hI 316 false (by kernel_rfl) (by kernel_rfl)
def afJ:mK Tryz.prog 284 "Size":=hI 318 false (by kernel_rfl) (by kernel_rfl)
def afK:mK Tryz.prog 285 "Size":=hI 320 false (by kernel_rfl) (by kernel_rfl)
def afL:mK Tryz.prog 286 "Size":=hI 322 false (by kernel_rfl) (by kernel_rfl)
def afM:mK Tryz.prog 311 "Size":=hI 324 false (by kernel_rfl) (by kernel_rfl)
def Kg:TypeId->Option FuncId
 |279=>some 311
 |281=>some 314
 |283=>some 316
 |284=>some 318
 |285=>some 320
 |286=>some 322
 |311=>some 324
 |_=>none
abbrev HC (n:Nat):Prop:=∀(r:bm) (t:a6) (x:aM) (f:dr),cz r=.iface t x->Kg t=some f->aG r<n->aG r<=1152921504606846976->∀w:World,Calls Tryz.prog f #[x] w λe M=>e=.returned (.int .i64 (aG r))/\cr w [] M
abbrev Bs (t:a6)(f:dr)(he:∀args w,(callFunc f args).run Tryz.prog w=.ok (.enter f args) w)(aW:Kg t=some f)(n:Nat)(h:HC n):cV Tryz.prog f where
 pre:=λW bs aj=>∃(r:bm) (x:aM),cz r=.iface t x/\aj=[.val x]/\aG r<n/\aG r<=1152921504606846976
 res:=λ_ aj=>match aj with
  |[.val x]=>(match dec cz (.iface t x) with
   |some r=>.int .i64 (aG r)
   |_=>undef)
  |_=>undef
 enters:=he
 ok:=by
  intro W w bs us aj ad hu hp;obtain⟨r,x,A,rfl,D,O⟩:=hp
  match us,hu with
  |[y],hu=>obtain⟨rfl,_⟩:=hu;simp only[<- A,uf pD];exact h r t _ f A aW D O w
section
variable (n:Nat)(h:HC n)
def zM:(f:dr)->Option (LE.Spec Tryz.prog f)
 |311=>some (Bs 279 311 Tryz.call311 rfl n h).spec
 |314=>some (Bs 281 314 Tryz.call314 rfl n h).spec
 |316=>some (Bs 283 316 Tryz.call316 rfl n h).spec
 |318=>some (Bs 284 318 Tryz.call318 rfl n h).spec
 |320=>some (Bs 285 320 Tryz.call320 rfl n h).spec
 |322=>some (Bs 286 322 Tryz.call322 rfl n h).spec
 |324=>some (Bs 311 324 Tryz.call324 rfl n h).spec
 |_=>none
def zN:(t:a6)->(name:String)->Option (mK Tryz.prog t name)
 |279, "Size"=>some afG
 |281, "Size"=>some afH
 |283, "Size"=>some afI
 |284, "Size"=>some afJ
 |285, "Size"=>some afK
 |286, "Size"=>some afL
 |311, "Size"=>some afM
 |_,_=>none
end
def Xt{Γ:Env Tryz.prog}(n:Nat)(h:HC n)(hm:Γ.mt=zN)(V:∀t f,Kg t=some f->Γ.sp f=zM n h f)(r:bm):
  hN Γ W bs κ hh "Size" [.v (cz r)]=⟨aG r<n/\aG r<=1152921504606846976,(aG r),[],none,[],[]⟩:=by
 have key:∀(t:a6) (f:dr) (he:∀args w,(callFunc f args).run Tryz.prog w=.ok (.enter f args) w) (aW:Kg t=some f) (x:aM),cz r=.iface t x ->
   (Bs t f he aW n h).spec.aJ W bs κ hh [.v x]=⟨aG r<n/\aG r<=1152921504606846976,(aG r),[],none,[],[]⟩:=λt f he aW x aB=>by
  have D:(Bs t f he aW n h).pre W bs [.val x]=(aG r<n/\aG r<=1152921504606846976):=by
   apply propext;constructor
   ·rintro⟨bG,sZ,g1,g2,g3⟩;cases g2;obtain rfl:=pD _ _ (aB.trans g1.symm);exact g3
   ·exact λg=>⟨r,x,aB,rfl,g⟩
  have O:(Bs t f he aW n h).res W [.val x]=.int .i64 (aG r):=by show(match dec cz (.iface t x) with|some r=>Value.int .i64 (aG r)|_=>undef)=_;rw[<- aB,uf pD]
  rw[pt];show Ga _ _ W bs (some ([x],[]))=_;rw[Ga.eq_1,D,O]
 cases r with
 |bV=>simp only[cz,hN,hm,zN,afI,hI,iL,V 283 316 rfl,zM];exact key 283 316 _ rfl _ rfl
 |cls S=>simp only[cz,hN,hm,zN,afM,hI,iL,V 311 324 rfl,zM];exact key 311 324 _ rfl _ rfl
 |cat a b=>simp only[cz,hN,hm,zN,afH,hI,iL,V 281 314 rfl,zM];exact key 281 314 _ rfl _ rfl
 |alt a b=>simp only[cz,hN,hm,zN,afJ,hI,iL,V 284 318 rfl,zM];exact key 284 318 _ rfl _ rfl
 |star a=>simp only[cz,hN,hm,zN,afG,hI,iL,V 279 311 rfl,zM];exact key 279 311 _ rfl _ rfl
 |and a b=>simp only[cz,hN,hm,zN,afK,hI,iL,V 285 320 rfl,zM];exact key 285 320 _ rfl _ rfl
 |minus a b=>simp only[cz,hN,hm,zN,afL,hI,iL,V 286 322 rfl,zM];exact key 286 322 _ rfl _ rfl
def Xu{eqs:(T:a6)->Option (rJ Tryz.prog T)}(T:a6)(aE5 aE8:Operand)(r:bm):nL Tryz.prog eqs hh .eql T aE5 aE8 [.v (cz r),.v .nilIface]=⟨isIface Tryz.prog T=some true,false,[],none,[],[]⟩:=by cases r<;>rfl
def Xv:=(eI ez @Xu @iR @dH.eq_29 @xT @uj)
def aw8(r:bm)(w:ar):cQ 312 #[cz r] w (cz r):=by refine cB (nt:=8) [.tmp 2] Tryz.func312 ?_;refine y9 aa Xv ?_;exact bE Xv
abbrev afN:cV Tryz.prog 312:=oR (λ| [.val mo]=>dec cz mo|_=>none) Tryz.call312 λav w=>aw8 av w
section
variable (n:Nat)(h:HC n)
def HD:Env Tryz.prog:=⟨λ| 312=>some afN.spec|f=>zM n h f,λ_=>none,zN⟩
theorem aw9:(HD n h).sp 312=some afN.spec:=rfl
def axa(r:bm):hN (HD n h) W bs κ hh "Size" [.v (cz r)]=⟨aG r<n/\aG r<=1152921504606846976,(aG r),[],none,[],[]⟩:=
 Xt n h rfl (λt f aW=>by
  unfold Kg at aW
  split at aW<;>cases aW<;>rfl) r
end
def rB:=(b3 Xv (uf pD) @aw9 @axa)
def axb(n:Nat)(h:HC n):HC (n+1):=by
 intro r t x f aI aW ax bP w;cases r with
 |bV=>cases aI;cases aW;refine cB (nt:=3) [.tmp 2] Tryz.func316 ?_;refine bk aa rB ?_;exact bE rB
 |cls S=>cases aI;cases aW;refine cB (nt:=3) [.tmp 2] Tryz.func324 ?_;refine bk aa rB ?_;exact bE rB
 |cat a b=>
  cases aI;cases aW;simp only[aG]at ax bP;refine cB (nt:=13) [.tmp 2] Tryz.func314 ?_;refine aA aa rB ?_;refine hs (HD n h) (I rB @gb) ?_;refine bf rB ?_;refine λE=>?_
  simp only[den,aG];have:=qF a;rw[gb (n:=1+(aG a:Int)) U U]
  try rw[gb U U]
  congr 1
  omega
 |alt a b=>
  cases aI;cases aW;simp only[aG]at ax bP;refine cB (nt:=13) [.tmp 2] Tryz.func318 ?_;refine aA aa rB ?_;refine hs (HD n h) (I rB @gb) ?_;refine bf rB ?_;refine λE=>?_
  simp only[den,aG];have:=qF a;rw[gb (n:=1+(aG a:Int)) U U]
  try rw[gb U U]
  congr 1
  omega
 |and a b=>
  cases aI;cases aW;simp only[aG]at ax bP;refine cB (nt:=13) [.tmp 2] Tryz.func320 ?_;refine aA aa rB ?_;refine hs (HD n h) (I rB @gb) ?_;refine bf rB ?_;refine λE=>?_
  simp only[den,aG];have:=qF a;rw[gb (n:=1+(aG a:Int)) U U]
  try rw[gb U U]
  congr 1
  omega
 |minus a b=>
  cases aI;cases aW;simp only[aG]at ax bP;refine cB (nt:=13) [.tmp 2] Tryz.func322 ?_;refine aA aa rB ?_;refine hs (HD n h) (I rB @gb) ?_;refine bf rB ?_;refine λE=>?_
  simp only[den,aG];have:=qF a;rw[gb (n:=1+(aG a:Int)) U U]
  try rw[gb U U]
  congr 1
  omega
 |star a=>
  cases aI;cases aW;simp only[aG]at ax bP;refine cB (nt:=8) [.tmp 2] Tryz.func311 ?_;refine aA aa rB ?_;refine aA (HD n h) (I rB @gb) ?_;refine bf rB ?_;refine λE=>?_
  simp only[den,aG];have:=qF a;rw[gb (n:=1+(aG a:Int)) U U]
  try rw[gb U U]
  congr 1
  omega
def NS:∀n,HC n
 |0=>λr t x f _ _ h=>absurd h (wb _)
 |n+1=>axb n (NS n)
def sK:Option bm->Value
 |none=>.nilIface
 |some r=>cz r
def Xw:∀a b:Option bm,sK a=sK b->a=b
 |none,none,_=>rfl
 |none,some r,h=>by cases r<;>cases h
 |some r,none,h=>by cases r<;>cases h
 |some r,some bG,h=>by rw[pD r bG h]
inductive oH (W:ar) (S:aY):Value->jW->Prop where
 |nil:oH W S (.pointer none) .nil
 |mk (b a:Nat) (op:ao) (n:Option bm) (to dA:ao) (gZ ik:aM) (x y:jW):gd W S b 0 (.int .i64 (a:Nat))->gd W S b 1 (.string op)->gd W S b 2 (sK n)->gd W S b 3 (.string to)->gd W S b 4 (.string dA) ->
   gd W S b 5 gZ->gd W S b 6 ik->oH W S gZ x->oH W S ik y->oH W S (.pointer (some ⟨b,0,none⟩)) (.mk a op n to dA x y)
inductive nC (W:ar) (S:aY):Value->k6->Prop where
 |nil:nC W S (.pointer none) .nil
 |mk (b a:Nat) (op:ao) (n:Option bm) (cx:ao) (qL gZ ik:aM) (q:jW) (x y:k6):gd W S b 0 (.int .i64 (a:Nat))->gd W S b 1 (.string op)->gd W S b 2 (sK n)->gd W S b 3 (.string cx)->gd W S b 4 qL ->
   gd W S b 5 gZ->gd W S b 6 ik->oH W S qL q->nC W S gZ x->nC W S ik y->nC W S (.pointer (some ⟨b,0,none⟩)) (.mk a op n cx q x y)
theorem oH.mono{W aO:World}{S bz:Nat->Prop}{v:aM}{c:jW}(h:oH W S v c)(V:bT W S aO bz):oH aO bz v c:=by
 induction h with
 |nil=>exact .nil
 |mk b a op n to dA gZ ik x y A D O B aU bn cA _ _ i1 i2=>exact .mk b a op n to dA gZ ik x y (A.mono V) (D.mono V) (O.mono V) (B.mono V) (aU.mono V) (bn.mono V) (cA.mono V) i1 i2
theorem nC.mono{W aO:World}{S bz:Nat->Prop}{v:aM}{l:k6}(h:nC W S v l)(V:bT W S aO bz):nC aO bz v l:=by
 induction h with
 |nil=>exact .nil
 |mk b a op n cx qL gZ ik q x y A D O B aU bn cA z _ _ i1 i2=>exact .mk b a op n cx qL gZ ik q x y (A.mono V) (D.mono V) (O.mono V) (B.mono V) (aU.mono V) (bn.mono V) (cA.mono V) (z.mono V) i1 i2
def vL{S bz:Nat->Prop}{b o:Nat}{v eT:Value}(h:gd W S b o v)(bu:gd W bz b o eT):v=eT := qZ (h.2.symm.trans bu.2)
def afO{a b:Nat}(h:Value.int .i64 (a:Int)=.int .i64 (b:Int)):a=b:=by cases h;rfl
def oH.Kh{S:aY}{v:aM}{c:jW}(h:oH W S v c):∀{bz:Nat->Prop} {fE:jW},oH W bz v fE -> c=fE:=by
 induction h with
 |nil=>intro bz fE bu;cases bu;rfl
 |mk b a op n to dA gZ ik x y A D O B aU bn cA _ _ i1 i2=>
  intro bz fE bu;cases bu with
  |mk _ cn oD jh aEn aEo axc axd sZ FM g0 g1 g2 g3 g4 g5 g6 hl pQ=>obtain rfl:=afO (vL A g0);obtain rfl:=Value.string.inj (vL D g1);obtain rfl:=Xw _ _ (vL O g2);obtain rfl:=Value.string.inj (vL B g3);obtain rfl:=Value.string.inj (vL aU g4);obtain rfl:=vL bn g5;obtain rfl:=vL cA g6;rw[i1 hl,i2 pQ]
def nC.Kh{W:ar}{S:aY}{v:aM}{l:k6}(h:nC W S v l):∀{bz:Nat->Prop} {kU:k6},nC W bz v kU -> l=kU:=by
 induction h with
 |nil=>intro bz fE bu;cases bu;rfl
 |mk b a op n cx qL gZ ik q x y A D O B aU bn cA z _ _ i1 i2=>
  intro bz fE bu;cases bu with
  |mk _ cn oD jh HE Xx axc axd Vv sZ FM g0 g1 g2 g3 g4 g5 g6 axe hl pQ=>obtain rfl:=afO (vL A g0);obtain rfl:=Value.string.inj (vL D g1);obtain rfl:=Xw _ _ (vL O g2);obtain rfl:=Value.string.inj (vL B g3);obtain rfl:=vL aU g4;obtain rfl:=vL bn g5;obtain rfl:=vL cA g6;rw[z.Kh axe,i1 hl,i2 pQ]
def dB(W:ar)(S:aY)(v:aM):cl->Prop
 |.text a s=>v=.iface 190 (.agg #[a,s])
 |.rx a r=>v=.iface 192 (.agg #[a,cz r])
 |.canon c=>∃p,v=.iface 193 p/\oH W S p c
 |.lens l=>∃p,v=.iface 197 p/\nC W S p l
theorem dB.mono{W aO:World}{S bz:Nat->Prop}{v:aM}{t:cl}(h:dB W S v t)(V:bT W S aO bz):dB aO bz v t:=by
 cases t with
 |text a s=>exact h
 |rx a r=>exact h
 |canon c=>obtain⟨p,D,O⟩:=h;exact⟨p,D,O.mono V⟩
 |lens l=>obtain⟨p,D,O⟩:=h;exact⟨p,D,O.mono V⟩
def dB.iface{S:aY}{v:aM}(h:dB W S v t):∃k u,v=.iface k u:=by
 cases t with
 |text a s=>exact⟨_,_,h⟩
 |rx a r=>exact⟨_,_,h⟩
 |canon c=>obtain⟨p,D,O⟩:=h;exact⟨_,_,D⟩
 |lens l=>obtain⟨p,D,O⟩:=h;exact⟨_,_,D⟩
def dB.one{S:aY}{v:aM}(h:dB W S v t):v.oneCell'=true:=by obtain⟨k,u,rfl⟩:=h.iface;rfl
def dB.au{S:aY}{v:aM}(h:dB W S v t):au v=v:=qq h.one
def dB.Kh{W:ar}{S bz:Nat->Prop}{v:aM}{t eU:cl}(h:dB W S v t)(bu:dB W bz v eU):t=eU:=by
 cases t with
 |text a s=>
  cases h;cases eU with
  |text cn hf =>have bu:Value.iface _ _=Value.iface _ _:=bu;simp only[Value.iface.injEq,Value.agg.injEq,yL,Array.mk.injEq,pZ,Value.int.injEq,Value.string.injEq,we]at bu;obtain⟨D,rfl⟩:=bu;have:a=cn := U;rw[this]
  |rx cn r=>exact absurd bu (by intro bu;cases bu)
  |canon c=>obtain⟨p,D,_⟩:=bu;cases D
  |lens c=>obtain⟨p,D,_⟩:=bu;cases D
 |rx a r=>
  cases h;cases eU with
  |rx cn bG =>have bu:Value.iface _ _=Value.iface _ _:=bu;simp only[Value.iface.injEq,Value.agg.injEq,yL,Array.mk.injEq,pZ,Value.int.injEq,we]at bu;obtain⟨D,O⟩:=bu;have:a=cn := U;rw[this,pD _ _ O]
  |text cn r=>exact absurd bu (by intro bu;cases bu)
  |canon c=>obtain⟨p,D,_⟩:=bu;cases D
  |lens c=>obtain⟨p,D,_⟩:=bu;cases D
 |canon c=>
  obtain⟨p,rfl,O⟩:=h;cases eU with
  |canon fE =>obtain⟨mf,pE,GL⟩:=bu;cases pE;rw[O.Kh GL]
  |text a s=>exact absurd bu (by intro bu;cases bu)
  |rx a r=>exact absurd bu (by intro bu;cases bu)
  |lens l=>obtain⟨mf,pE,GL⟩:=bu;cases pE
 |lens l=>
  obtain⟨p,rfl,O⟩:=h;cases eU with
  |lens kU =>obtain⟨mf,pE,GL⟩:=bu;cases pE;rw[O.Kh GL]
  |text a s=>exact absurd bu (by intro bu;cases bu)
  |rx a r=>exact absurd bu (by intro bu;cases bu)
  |canon l=>obtain⟨mf,pE,GL⟩:=bu;cases pE
def jl(W:ar)(v:aM):cl:=by classical exact if h:∃t,dB W (λ_=>True) v t then h.choose else .text 0 ⟨#[]⟩
def dB.all{S:aY}{v:aM}(h:dB W S v t):dB W (λ_=>True) v t:=h.mono λb _ _=>⟨rfl,trivial⟩
def lG{S:aY}{v:aM}(h:dB W S v t):jl W v=t:=by have hex:∃t,dB W (λ_=>True) v t:=⟨t,h.all⟩;unfold jl;rw[dif_pos hex];exact hex.choose_spec.Kh h
def zO:jW->Nat
 |.nil=>0
 |.mk _ _ _ _ _ a b=>zO a+zO b+1
def Bt:k6->Nat
 |.nil=>0
 |.mk _ _ _ _ q a b=>zO q+Bt a+Bt b+1
def jm:cl->Nat
 |.canon c=>zO c
 |.lens l=>Bt l
 |_=>0
abbrev l2:Nat:=1152921504606846976
def Xy:=(b3 ez @Xu @iR @dH.eq_29)
def axf(s:ao)(V:s.size<=2305843009213693952)(w:ar):cQ 97 #[s] w (.int .i64 (fJ s)):=by
 refine cB (nt:=8) [.tmp 2] Tryz.func97 ?_;refine bk aa Xy ?_;refine bf Xy ?_;refine λE=>?_
 simp only[den,fJ]
 congr 1
 rw[gb (n:=2*(s.size:Int)) U U,gb U U];omega
abbrev afP:cV Tryz.prog 97:=kH (λ| [.val (.string s)]=>some (s)|_=>none) (λav W bs=>av.size<=2305843009213693952) Tryz.call97 λav W w bs ad hp=>axf av hp w
def afQ(n:Nat):Env Tryz.prog:=⟨λf=>zM n (NS n) f,λ_=>none,zN⟩
def axg{n:Nat}(r:bm):hN (afQ n) W bs κ hh "Size" [.v (cz r)]=⟨aG r<n/\aG r<=1152921504606846976,(aG r),[],none,[],[]⟩:=Xt n (NS n) rfl (λt f aW=>rfl) r
def EX:=(I Xy @axg)
def axh(n:Option bm)(V:eA n<=l2)(w:ar):cQ 98 #[sK n] w (.int .i64 (eA n)):=by
 cases n with
 |none=>refine cB (nt:=7) [.tmp 2] Tryz.func98 ?_;refine bk aa (aT EX @sK.eq_1 @sK.eq_2) ?_;refine bk aa EX ?_;skip;refine aA aa EX ?_;exact bE EX
 |some r=>
  refine cB (nt:=7) [.tmp 2] Tryz.func98 ?_;refine bk aa (aT EX @sK.eq_1 @sK.eq_2) ?_;refine dL aa EX ?_;refine aL (afQ (aG r+1)) EX ?_ ?_
  ·exact⟨Dz _,V⟩
  exact bE EX
abbrev afR:cV Tryz.prog 98:=kH (λ| [.val mo]=>dec sK mo|_=>none) (λav W bs=>eA av<=l2) Tryz.call98 λav W w bs ad hp=>axh av hp w
abbrev EY (n:Nat):Prop:=∀(t:cl) (v:aM) (w:ar),dB w (Out []) v t->jm t<n->dK t<=l2->cQ 58 #[v] w (.int .i64 (dK t))
def NT(n:Nat)(h:EY n):cV Tryz.prog 58 where
 pre:=λW bs aj=>∃v t,aj=[.val v]/\dB W (Out bs) v t/\jm t<n/\dK t<=l2
 res:=λW aj=>match aj with
  |[.val v]=>.int .i64 (dK (jl W v))
  |_=>undef
 enters:=Tryz.call58
 ok:=by
  intro W w bs us aj ad hu hp;obtain⟨v,t,rfl,D,O,B⟩:=hp
  match us,hu with
  |[x],hu=>obtain⟨rfl,_⟩:=hu;simp only[lG D];exact h t x w (D.mono λb Z aE=>⟨ad.block b Z aE,by simp[Out]⟩) O B
def afS(n:Nat)(h:EY n)(W:ar)(bs:aD)(v:aM):(NT n h).pre W bs [.val v]=∃t,dB W (Out bs) v t/\jm t<n/\dK t<=l2:=by
 apply propext;constructor
 ·rintro⟨eT,t,D,O⟩;cases D;exact⟨t,O⟩
 ·exact λ⟨t,O⟩=>⟨v,t,rfl,O⟩
theorem afT(n:Nat)(h:EY n)(W:ar)(v:aM):(NT n h).res W [.val v]=.int .i64 (dK (jl W v)):=rfl
def Bu(n:Nat)(h:EY n)(k:Nat):Env Tryz.prog:=⟨λ| 97=>some afP.spec|98=>some afR.spec|58=>some (NT n h).spec|f=>zM k (NS k) f,λ_=>none,zN⟩
section
variable (n:Nat)(h:EY n)(k:Nat)
theorem axi:(Bu n h k).sp 97=some afP.spec:=rfl
theorem axj:(Bu n h k).sp 98=some afR.spec:=rfl
theorem axk:(Bu n h k).sp 58=some (NT n h).spec:=rfl
def axl(r:bm):hN (Bu n h k) W bs κ hh "Size" [.v (cz r)]=⟨aG r<k/\aG r<=1152921504606846976,(aG r),[],none,[],[]⟩:=
 Xt k (NS k) rfl (λt f aW=>by
  unfold Kg at aW
  split at aW<;>cases aW<;>rfl) r
end
def afU(b:Nat):b∉([]:aD):=by simp
def C2{a b:Int}(A:0<=a)(D:0<=b)(O:a+b<=9223372036854775807):IntKind.i64.wrap (a+b)=a+b:=gb U O
def jX:=(I (ch ez @iR @dH.eq_29 @axi @axj @axk @axl @afS) (aT @afT @w2 (uf Xw)))
def axm(n:Nat)(h:EY n):EY (n+1):=by
 intro t v w au ak bP;refine cB (nt:=105) [.tmp 2] Tryz.func58 ?_;refine gJ aa jX ?_;cases t with
 |text a s=>
  obtain rfl:v=_:=au;have V:fJ s<=l2:=bP;have rP:s.size<=2305843009213693952:=by unfold fJ l2 at V;omega
  refine bk aa jX ?_;skip;refine aA aa jX ?_;refine aA (Bu n h 0) jX ?_;exact bE jX
 |rx a r=>
  obtain rfl:v=_:=au;have V:aG r<=l2:=bP;refine gJ aa jX ?_;skip;refine aL aa jX ?_ ?_
  ·exact iR r
  refine aL (Bu n h (aG r+1)) jX ?_ ?_
  ·exact⟨Dz _,V⟩
  exact bE jX
 |canon c=>
  obtain⟨p,rfl,gX⟩:=au;refine y9 aa jX ?_;cases gX with
  |nil=>refine gJ aa jX ?_;skip;refine aA aa jX ?_;exact bE jX
  |mk b a op aH to dA gZ ik x y A D O B aU bn cA aB cG=>
   have bM:jl w (.iface 193 gZ)=.canon x:=lG (S:=Out []) ⟨gZ,rfl,aB⟩;have tb:jl w (.iface 193 ik)=.canon y:=lG (S:=Out []) ⟨ik,rfl,cG⟩;have Xz:dB w (Out []) (.iface 193 gZ) (.canon x):=⟨gZ,rfl,aB⟩;have XA:dB w (Out []) (.iface 193 ik) (.canon y):=⟨ik,rfl,cG⟩;simp only[jm,zO]at ak
   have bJ:dK (.canon (.mk a op aH to dA x y))=1+eA aH+fO x+fO y+(if op=fB then fJ to else 0):=rfl;have NU:dK (.canon x)=fO x:=rfl;have It:dK (.canon y)=fO y:=rfl;have e7:1+eA aH+fO x+fO y<=1152921504606846976:=by rw[bJ]at bP;unfold l2 at bP;omega
   refine ti aa jX ?_;have y8:IntKind.i64.wrap ((1:Int)+((eA aH:Nat):Int))=(1:Int)+((eA aH:Nat):Int):=C2 U U U;have dp:IntKind.i64.wrap ((1:Int)+((eA aH:Nat):Int)+((fO x:Nat):Int))=(1:Int)+((eA aH:Nat):Int)+((fO x:Nat):Int):=C2 U U U
   have kI:IntKind.i64.wrap ((1:Int)+((eA aH:Nat):Int)+((fO x:Nat):Int)+((fO y:Nat):Int))=(1:Int)+((eA aH:Nat):Int)+((fO x:Nat):Int)+((fO y:Nat):Int):=C2 U U U;refine dh (Bu n h 0) (ch jX bM tb D.2 O.2 B.2 bn.2 (eI cA.2 NU It y8 dp kI)) ?_ ?_
   ·exact⟨by unfold l2;omega,⟨_,Xz,by simp only[jm];omega,by rw[NU];unfold l2;omega⟩,⟨_,XA,by simp only[jm];omega,by rw[It];unfold l2;omega⟩⟩
   refine bk aa (I jX D.2) ?_;refine bC jX ?_ ?_<;>intro J
   ·have H:op=fB:=by simpa [fB,fX] using J
    have RT:1+eA aH+fO x+fO y+fJ to<=1152921504606846976:=by rw[bJ,al H]at bP;exact bP
    have HF:to.size<=2305843009213693952:=by have:fJ to<=1152921504606846976:=U;unfold fJ at this;omega
    refine wr (Bu n h 0) (I jX B.2) ?_ ?_
    ·exact HF
    refine aA aa jX ?_;refine bf jX ?_;refine λE=>?_
    simp only[den];rw[bJ,al H,C2 U U U]
    push_cast
    rfl
   ·have H:¬op=fB:=by simpa [fB,fX] using J
    refine bk aa jX ?_;refine bf jX ?_;refine λE=>?_
    simp only[den];rw[bJ,ab H]
    push_cast
    rfl
 |lens c=>
  obtain⟨p,rfl,gX⟩:=au;refine lv aa jX ?_;cases gX with
  |nil=>refine gJ aa jX ?_;skip;refine aA aa jX ?_;exact bE jX
  |mk b a op aH cx qL gZ ik q x y A D O B aU bn cA z aB cG=>
   have RW:jl w (.iface 193 qL)=.canon q:=lG (S:=Out []) ⟨qL,rfl,z⟩;have bM:jl w (.iface 197 gZ)=.lens x:=lG (S:=Out []) ⟨gZ,rfl,aB⟩;have tb:jl w (.iface 197 ik)=.lens y:=lG (S:=Out []) ⟨ik,rfl,cG⟩;have axn:dB w (Out []) (.iface 193 qL) (.canon q):=⟨qL,rfl,z⟩
   have Xz:dB w (Out []) (.iface 197 gZ) (.lens x):=⟨gZ,rfl,aB⟩;have XA:dB w (Out []) (.iface 197 ik) (.lens y):=⟨ik,rfl,cG⟩;simp only[jm,Bt]at ak;have bJ:dK (.lens (.mk a op aH cx q x y))=1+eA aH+fO q+hz x+hz y+(if op=fX then fJ cx else 0):=rfl;have afV:dK (.canon q)=fO q:=rfl
   have NU:dK (.lens x)=hz x:=rfl;have It:dK (.lens y)=hz y:=rfl;have e7:1+eA aH+fO q+hz x+hz y<=1152921504606846976:=by rw[bJ]at bP;unfold l2 at bP;omega
   refine ti aa jX ?_;have y8:IntKind.i64.wrap ((1:Int)+((eA aH:Nat):Int))=(1:Int)+((eA aH:Nat):Int):=C2 U U U;have dp:IntKind.i64.wrap ((1:Int)+((eA aH:Nat):Int)+((fO q:Nat):Int))=(1:Int)+((eA aH:Nat):Int)+((fO q:Nat):Int):=C2 U U U
   have kI:IntKind.i64.wrap ((1:Int)+((eA aH:Nat):Int)+((fO q:Nat):Int)+((hz x:Nat):Int))=(1:Int)+((eA aH:Nat):Int)+((fO q:Nat):Int)+((hz x:Nat):Int):=C2 U U U
   have rO:IntKind.i64.wrap ((1:Int)+((eA aH:Nat):Int)+((fO q:Nat):Int)+((hz x:Nat):Int)+((hz y:Nat):Int))=(1:Int)+((eA aH:Nat):Int)+((fO q:Nat):Int)+((hz x:Nat):Int)+((hz y:Nat):Int):=C2 U U U
   refine dh (Bu n h 0) (ch jX RW bM tb D.2 O.2 B.2 (ch aU.2 bn.2 cA.2 afV NU It y8 (aT dp kI rO))) ?_ ?_
   ·exact⟨by unfold l2;omega,⟨_,axn,by simp only[jm];omega,by rw[afV];unfold l2;omega⟩,⟨_,Xz,by simp only[jm];omega,by rw[NU];unfold l2;omega⟩,⟨_,XA,by simp only[jm];omega,by rw[It];unfold l2;omega⟩⟩
   refine bk aa (I jX D.2) ?_;refine bC jX ?_ ?_<;>intro J
   ·have H:op=fX:=by simpa [fB,fX] using J
    have RT:1+eA aH+fO q+hz x+hz y+fJ cx<=1152921504606846976:=by rw[bJ,al H]at bP;exact bP
    have HF:cx.size<=2305843009213693952:=by have:fJ cx<=1152921504606846976:=U;unfold fJ at this;omega
    refine wr (Bu n h 0) (I jX B.2) ?_ ?_
    ·exact HF
    refine aA aa jX ?_;refine bf jX ?_;refine λE=>?_
    simp only[den];rw[bJ,al H,C2 U U U]
    push_cast
    rfl
   ·have H:¬op=fX:=by simpa [fB,fX] using J
    refine bk aa jX ?_;refine bf jX ?_;refine λE=>?_
    simp only[den];rw[bJ,ab H]
    push_cast
    rfl
def afW:∀n,EY n
 |0=>λt v w _ h=>absurd h (wb _)
 |n+1=>axm n (afW n)
abbrev vM:Env Tryz.prog:=a7 VP.spec aa
def yo(s:ao):Nat->Value
 |0=>.nilIface
 |k+1=>cz (ry s (k+1))
def axo(s:ao)(k:Nat)(h:k<s.size):(s.extract k (k+1)).size=1:=by rw[OO];omega
def pR:=(I (ch ez @Xu @iR @xT @uj @GA @GB @GC) (aT @GD @GF @vq))
def axp(s:ao)(V:s.size<=140737488351232)(w:ar):cQ 208 #[s] w (cz (r7 s)):=by
 refine cB (nt:=33) [.tmp 2] Tryz.func208 ?_;refine bk vM pR ?_;refine aR vM pR ?_ ?_<;>intro J
 ·have A:s=⟨#[]⟩:=aC J
  subst A;refine aA vM pR ?_;exact bE pR
 have A:¬s=⟨#[]⟩:=aC J
 have kS:0<s.size:=by
  rcases Nat.eq_zero_or_pos s.size with h|h
  ·exact absurd (ByteArray.size_eq_zero_iff.1 h) A
  ·exact h
 refine ti vM pR ?_;refine ae.loop (λk:Nat=>⟨1,bK [(0,s),(3,(yo s k)),(11,s.size),(12,k)],bA []⟩) (λk=>k<=s.size) (λk=>s.size-k) 0 ?_ (ef _) ?_
 ·exact bh (aT pR @yo.eq_1 @yo.eq_2)
 rintro k D;refine bk vM pR ?_;refine bC pR ?_ ?_<;>intro J
 ·have ad:k<s.size:=bt J
  have wn:=fK k;have aB:=axo s k ad;refine gJ vM pR ?_;refine aL vM (aT pR wn aB) ?_ ?_
  ·first|exact⟨U,U,U⟩|exact⟨U,U,U,U⟩|skip
  cases k with
  |zero=>refine aA vM (aT pR @yo.eq_1 @yo.eq_2) ?_;refine fu (Γ:=aa) trivial pR ?_;skip;refine bY vM pR ?_;refine bY vM (I pR wn) ?_;refine⟨1,U,U,?_⟩;exact bh (eI pR @yo.eq_1 @yo.eq_2 @ry.eq_1 @ry.eq_2 @ry.eq_3)
  |succ k=>refine aA vM (aT pR @yo.eq_1 @yo.eq_2) ?_;refine fu (Γ:=aa) trivial pR ?_;skip;refine bY vM pR ?_;refine bY vM (I pR wn) ?_;refine⟨k+2,U,U,?_⟩;exact bh (eI pR @yo.eq_1 @yo.eq_2 @ry.eq_1 @ry.eq_2 @ry.eq_3)
 ·have ad:k=s.size:=bt J
  subst ad;refine c6 ?_;refine aA vM pR ?_;refine bf pR ?_;refine λE=>?_
  obtain⟨m,hm⟩:∃m,s.size=m+1:=⟨s.size-1,U⟩;simp only[den,r7,hm,yo]
abbrev axq:cV Tryz.prog 208:=kH (λ| [.val (.string s)]=>some (s)|_=>none) (λav W bs=>av.size<=140737488351232) Tryz.call208 λav W w bs ad hp=>axp av hp w
def w3:cl->Prop
 |.text _ s=>s.size<=140737488351232
 |_=>True
def w4:Option bm->Value
 |none=>.tuple #[.nilIface,false]
 |some r=>.tuple #[cz r,true]
abbrev C3:Env Tryz.prog:=a7 axq.spec aa
def vN:=(aT ez @iR @vq)
def axr(t:cl)(v:aM)(w:ar)(S:aY)(au:dB w S v t)(V:w3 t):cQ 158 #[v] w (w4 (fa t)):=by
 refine cB (nt:=18) [.tmp 2,.tmp 3] Tryz.func158 ?_;refine gJ C3 vN ?_;cases t with
 |text a s=>
  obtain rfl:v=_:=au;refine bk C3 vN ?_;skip;refine aA C3 vN ?_;refine aL C3 vN ?_ ?_
  ·exact V
  exact bE vN
 |rx a r=>
  obtain rfl:v=_:=au;refine gJ C3 vN ?_;skip;refine aL C3 vN ?_ ?_
  ·exact iR r
  refine aA C3 vN ?_;exact bE vN
 |canon c=>obtain⟨p,rfl,gX⟩:=au;refine y9 C3 vN ?_;exact bE vN
 |lens c=>obtain⟨p,rfl,gX⟩:=au;refine y9 C3 vN ?_;exact bE vN
def RX:cV Tryz.prog 158 where
 pre:=λW bs aj=>∃v t,aj=[.val v]/\dB W (Out bs) v t/\w3 t
 res:=λW aj=>match aj with
  |[.val v]=>w4 (fa (jl W v))
  |_=>undef
 enters:=Tryz.call158
 ok:=by
  intro W w bs us aj ad hu hp;obtain⟨v,t,rfl,D,O⟩:=hp
  match us,hu with
  |[x],hu=>obtain⟨rfl,_⟩:=hu;simp only[lG D];exact axr t x w (λ_=>True) (D.mono λb Z aE=>⟨ad.block b Z aE,trivial⟩) O
def XB(W:ar)(bs:aD)(v:aM):RX.pre W bs [.val v]=∃t,dB W (Out bs) v t/\w3 t:=by
 apply propext;constructor
 ·rintro⟨eT,t,D,O⟩;cases D;exact⟨t,O⟩
 ·exact λ⟨t,O⟩=>⟨v,t,rfl,O⟩
theorem XC(W:ar)(v:aM):RX.res W [.val v]=w4 (fa (jl W v)):=rfl
def axs(c i:Int)(w:ar)(S:aY):Calls Tryz.prog 64 #[c,i] w λe M=>oO w S e M (.b7 (jy c i) .nilIface):=by
 refine ue (nt:=8) S [] Tryz.func64 ?_;refine ae.gz aa bX (aJ (aT vN @jy.eq_1 @ix.eq_1)) ?_ ?_
 ·exact ot
 exact cC
abbrev yp:py Tryz.prog 64 where
 kinds:=[none,none]
 pre:=λaj _ _=>∃c i,aj=[.val (.int .i64 c),.val (.int .i64 i)]
 gA:=λ_ _ _ _ _ _ h=>h
 out:=λaj=>match aj with
  |[.val (.int _ c),.val (.int _ i)]=>.b7 (jy c i) .nilIface
  |_=>.val undef
 enters:=Tryz.call64
 ok:=by
  intro w S us aj hu hp;obtain⟨c,i,rfl⟩:=hp
  match us,hu with
  |[x,y],hu=>obtain⟨rfl,rfl,_⟩:=hu;exact axs c i w S
def zP(t:cl):lr:=⟨λcs W S=>∃v,cs=[v]/\dB W S v t,λV ⟨v,D,O⟩=>⟨v,D,O.mono V⟩⟩
def HG{S:aY}{cs:aX}(h:(zP t).Φ cs W S):∃v,cs=[v]/\dB W S v t/\au v=v:=by obtain⟨v,D,O⟩:=h;exact⟨v,D,O,O.au⟩
def EZ:n1->ud
 |.ok t=>.fact b5.one (zP t)
 |.error (c,a)=>.b7 (jy c a) .nilIface
theorem afX(t:cl):EZ (.ok t)=.fact b5.one (zP t):=rfl
theorem afY(c a:Int):EZ (.error (c,a))=.b7 (jy c a) .nilIface:=rfl
def sL{w cy:ar}{S:aY}{ck:aD}{x:ag}{v:aM}(ak:∀E,den E x=v)(h:dB cy (bw (b1 w S) ck) v t):Mc w S cy ck x (.fact b5.one (zP t)):=⟨[v],λE=>(ak E).trans (J6 h.au).symm,v,rfl,h⟩
abbrev sM(G:aY):Env Tryz.prog:=a7 RX.spec (a7 (yp.spec G) aa)
def oH.parts{S:aY}{v:aM}{c:jW}(h:oH W S v c):partsOf (.v v)=[.v v]:=by cases h<;>rfl
def nC.parts{S:aY}{v:aM}{c:k6}(h:nC W S v c):partsOf (.v v)=[.v v]:=by cases h<;>rfl
theorem RY(P:bR)(T:a6)(k o:Nat):Ap P T [.own k o]=⟨P.concrete T=true,.jL T (.own k o),[],none,[],[]⟩:=rfl
def axt{op:ao}{n:bm}(h:fa t=some n):pP a op t=.ok (.rx a (if op=ny then .star n else if op=pK then .cat n (.star n) else .alt n .bV)):=by cases t<;>simp only[fa]at h<;>first|(cases h;done)|(cases h;rfl)
def jG{x y:ao}(h:decide (x=y)=true):x=y:=aC h
def jH{x y:ao}(h:decide (x=y)=false):¬x=y:=aC h
def sN{S:aY}{b a:Nat}{op cx:ao}{qL gZ ik:aM}{q:jW}{x y:k6}{T:a6}(bp:S b)(J:W.heap[b]?=some (.cells #[a,op,sK n,cx,qL,gZ,ik] T (0,0)))
  (z:oH W S qL q) (aB:nC W S gZ x) (cG:nC W S ik y):nC W S (.pointer (some ⟨b,0,none⟩)) (.mk a op n cx q x y):=
 .mk b a op n cx qL gZ ik q x y ⟨bp,by simp[World.cell?,J]⟩ ⟨bp,by simp[World.cell?,J]⟩ ⟨bp,by simp[World.cell?,J]⟩ ⟨bp,by simp[World.cell?,J]⟩ ⟨bp,by simp[World.cell?,J]⟩ ⟨bp,by simp[World.cell?,J]⟩ ⟨bp,by simp[World.cell?,J]⟩ z aB cG
def Ki{S:aY}{b a:Nat}{op to dA:ao}{gZ ik:aM}{x y:jW}{T:a6}(bp:S b)(J:W.heap[b]?=some (.cells #[a,op,sK n,to,dA,gZ,ik] T (0,0)))
  (aB:oH W S gZ x) (cG:oH W S ik y):oH W S (.pointer (some ⟨b,0,none⟩)) (.mk a op n to dA x y):=
 .mk b a op n to dA gZ ik x y ⟨bp,by simp[World.cell?,J]⟩ ⟨bp,by simp[World.cell?,J]⟩ ⟨bp,by simp[World.cell?,J]⟩ ⟨bp,by simp[World.cell?,J]⟩ ⟨bp,by simp[World.cell?,J]⟩ ⟨bp,by simp[World.cell?,J]⟩ ⟨bp,by simp[World.cell?,J]⟩ aB cG
def kv:=(hV ez @RY @iR @vq @XC @XB @yp.eq_1)
def axu(a:Nat)(op:ao)(bS:aM)(t:cl)(v:aM)(w:ar)(S:aY)(XD:bS.oneCell'=true)(au:dB w S v t)(V:w3 t) :
  Calls Tryz.prog 103 #[.agg #[a,op,bS],v] w λe M=>oO w S e M (EZ (pP a op t)):=by
 have kx:jl w v=t:=lG au;have A:dB w (Out []) v t:=au.mono λb _ _=>⟨rfl,by simp[Out]⟩
 have aI:dB w (bw (b1 w S) []) v t:=au.mono (b1.ep w S);refine ue (nt:=101) S [.tmp 4] Tryz.func103 ?_;refine bk aa kv ?_;cases aE:fa t with
 |some n=>
  rw[axt aE];refine aL (sM (b1 w S)) (de kv kx aE @w4.eq_1 @w4.eq_2) ?_ ?_
  ·exact⟨t,A,V⟩
  refine ti aa kv ?_;refine aR aa kv ?_ ?_<;>intro J
  ·have H:op=ny:=jG J;rw[al H];refine aA aa kv ?_;refine bf kv ?_;exact sL (λE=>rfl) rfl
  have H:¬op=ny:=jH J;rw[ab H];refine aR aa kv ?_ ?_<;>intro J
  ·have nT:op=pK:=jG J;rw[al nT];refine aA aa kv ?_;refine bf kv ?_;exact sL (λE=>rfl) rfl
  have nT:¬op=pK:=jH J;rw[ab nT];refine bk aa kv ?_;refine bf kv ?_;exact sL (λE=>rfl) rfl
 |none=>
  refine aL (sM (b1 w S)) (de kv kx aE @w4.eq_1 @w4.eq_2) ?_ ?_
  ·exact⟨t,A,V⟩
  refine y9 aa kv ?_;cases t with
  |text b s=>cases aE
  |rx b r=>cases aE
  |canon c=>
   obtain⟨p,rfl,gX⟩:=aI;refine dL aa kv ?_;refine aR aa kv ?_ ?_<;>intro J
   ·have H:op=ny:=jG J;have aZ:pP a op (.canon c)=.ok (.canon (.mk a eD none ⟨#[]⟩ ⟨#[]⟩ c .nil)):=by simp only[pP,fa,al H]
    rw[aZ];refine aA aa (I kv gX.parts) ?_;refine ae.jt 176 (aJ kv) (λE=>by simp only[ba,den];exact rfl) λcy ck eh bD mv kq jr=>?_
    refine bf kv ?_;have Z:bw (b1 w S) ck eh:=⟨b1.up w S eh kq,mv⟩;exact sL (λE=>rfl) ⟨_,rfl,Ki (n:=none) Z jr (gX.mono bD.cc) .nil⟩
   ·have H:¬op=ny:=jH J;have aZ:pP a op (.canon c)=lF a:=by simp only[pP,fa,ab H]
    rw[aZ];refine a1 ?_;refine ae.fe (sM (b1 w S)) bX (aJ kv) ?_ ?_
    ·exact ot
    exact cC
  |lens l=>
   obtain⟨p,rfl,gX⟩:=aI;refine lv aa kv ?_;refine aR aa kv ?_ ?_<;>intro J
   ·have H:op=ny:=jG J;have aZ:pP a op (.lens l)=.ok (.lens (.mk a eD none ⟨#[]⟩ .nil l .nil)):=by simp only[pP,fa,al H]
    rw[aZ];refine aA aa (I kv gX.parts) ?_;refine ae.jt 208 (aJ kv) (λE=>by simp only[ba,den];exact rfl) λcy ck eh bD mv kq jr=>?_
    refine bf kv ?_;have Z:bw (b1 w S) ck eh:=⟨b1.up w S eh kq,mv⟩;exact sL (λE=>rfl) ⟨_,rfl,sN (n:=none) Z jr .nil (gX.mono bD.cc) .nil⟩
   have H:¬op=ny:=jH J;refine aR aa kv ?_ ?_<;>intro J
   ·have nT:op=pK:=jG J;have aZ:pP a op (.lens l)=.ok (.lens (.mk a l1 none ⟨#[]⟩ .nil l (.mk a eD none ⟨#[]⟩ .nil l .nil))):=by simp only[pP,fa,ab H,al nT]
    rw[aZ];refine aA aa (I kv gX.parts) ?_;refine ae.jt 248 (aJ kv) (λE=>by simp only[ba,den];exact rfl) λcy ck eh bD mv kq jr=>?_
    refine ae.jt 264 (aJ kv) (λE=>by simp only[ba,den];exact rfl) λcL c7 lU cq uo JA rk=>?_
    refine bf kv ?_;have D:bw (b1 w S) ck eh:=⟨b1.up w S eh kq,mv⟩;have O:bw (b1 w S) c7 lU:=⟨(b1.up w S).ext bD lU JA,uo⟩;have aN:nC cL (bw (b1 w S) c7) p l:=gX.mono (bD.trans cq).cc;have B:nC cy (bw (b1 w S) ck) _ _:=sN (n:=none) (op:=eD) D jr .nil (gX.mono bD.cc) .nil
    exact sL (λE=>rfl) ⟨_,rfl,sN (n:=none) O rk .nil aN (B.mono cq.cc)⟩
   have nT:¬op=pK:=jH J;have aZ:pP a op (.lens l)=.ok (.lens (.mk a o6 none ⟨#[]⟩ .nil l (.mk a iX (some .bV) ⟨#[]⟩ .nil .nil .nil))):=by simp only[pP,fa,ab H,ab nT]
   rw[aZ];refine bk aa (I kv gX.parts) ?_;refine ae.jt 256 (aJ kv) (λE=>by simp only[ba,den];exact rfl) λcy ck eh bD mv kq jr=>?_
   refine ae.jt 272 (aJ kv) (λE=>by simp only[ba,den];exact rfl) λcL c7 lU cq uo JA rk=>?_
   refine bf kv ?_;have D:bw (b1 w S) ck eh:=⟨b1.up w S eh kq,mv⟩;have O:bw (b1 w S) c7 lU:=⟨(b1.up w S).ext bD lU JA,uo⟩;have aN:nC cL (bw (b1 w S) c7) p l:=gX.mono (bD.trans cq).cc;have B:nC cy (bw (b1 w S) ck) _ _:=sN (n:=some .bV) (op:=iX) D jr .nil .nil .nil
   exact sL (λE=>rfl) ⟨_,rfl,sN (n:=none) O rk .nil aN (B.mono cq.cc)⟩
def axv:FY Tryz.prog (Program.underlying Tryz.prog 287)=some 3:=mN
def axw:kE Tryz.prog 3=some (.int .i64 0):=mN
def axx(op:ao):DR false (.int .i64 0) (qu [⟨#[124]⟩,⟨#[46]⟩,⟨#[126]⟩,⟨#[62,62]⟩] [(1:Int),(2:Int),(3:Int),(4:Int)] op)=.v (.int .i64 (gm op:Nat)):=by
 simp only[qu,gm];by_cases D:op=vH
 ·subst D;rfl
 rw[ab (λe=>D e.symm),ab D];by_cases O:op=vI
 ·subst O;rfl
 rw[ab (λe=>O e.symm),ab O];by_cases B:op=Hz
 ·subst B;rfl
 rw[ab (λe=>B e.symm),ab B];by_cases aU:op=HA
 ·subst aU;rfl
 rw[ab (λe=>aU e.symm),ab aU];rfl
def afZ(op:ao):gm op=0\/gm op=1\/gm op=2\/gm op=3\/gm op=4:=by
 unfold gm
 repeat' split
 all_goals simp
def axy(x:Option bm):xv 0 [.v (w4 x)]=⟨True,(sK x),[],none,[],[]⟩:=by cases x<;>simp[xv,R.eK,w4,sK]
def axz(x:Option bm):xv 1 [.v (w4 x)]=⟨True,x.isSome,[],none,[],[]⟩:=by cases x<;>simp[xv,R.eK,w4,sK]
def o8(op:ao)(t u:cl):Option bm:=match fa t,fa u with
 |some x,some y=>rz op x y
 |_,_=>none
def axA(a:Nat)(op:ao)(t u:cl):vJ a op t u=match o8 op t u with
  |some r=>.ok (.rx a r)
  |none=>jk a op t u:=by
 unfold vJ o8;cases fa t with
 |none=>rfl
 |some x=>
  cases fa u with
  |none=>rfl
  |some y=>simp only;all_goals cases rz op x y<;>rfl
def cN:=(b3 (ch ez @afB @afC @afD @afE @axy @axz @sK.eq_1) (ch @sK.eq_2 @RY @iR @vq @XC @XB @yp.eq_1 @dH.eq_30) (ch @afA @dH.eq_31 @DS.eq_1 @axv @Iz.eq_1 @Iy.eq_1 @axw @dH.eq_33) (aT @BX.eq_1 @IA.eq_1 @axx))
def axB(a:Nat)(op:ao)(bS nM:aM)(t u:cl)(v eT:Value)(w:ar)(S:aY)(XD:bS.oneCell'=true)(aEp:nM.oneCell'=true)(au:dB w S v t)(V:w3 t)(E0:dB w S eT u)(ds:w3 u) :
  Calls Tryz.prog 104 #[.agg #[a,op,bS,nM],v,eT] w λe M=>oO w S e M (EZ (vJ a op t u)):=by
 have kx:jl w v=t:=lG au;have af0:jl w eT=u:=lG E0;have A:dB w (Out []) v t:=au.mono λb _ _=>⟨rfl,by simp[Out]⟩
 have af1:dB w (Out []) eT u:=E0.mono λb _ _=>⟨rfl,by simp[Out]⟩
 have aI:dB w (bw (b1 w S) []) v t:=au.mono (b1.ep w S);have xO:dB w (bw (b1 w S) []) eT u:=E0.mono (b1.ep w S);refine ue (nt:=142) S [.tmp 6] Tryz.func104 ?_;refine aA aa cN ?_;refine aL (sM (b1 w S)) (I cN kx) ?_ ?_
 ·exact⟨t,A,V⟩
 refine aL (sM (b1 w S)) (I cN af0) ?_ ?_
 ·exact⟨u,af1,ds⟩
 rw[axA];cases Y:o8 op t u with
 |some r=>
  obtain⟨x,aE⟩:∃x,fa t=some x:=by
   cases h:fa t with
   |some x=>exact⟨x,rfl⟩
   |none=>rw[o8,h]at Y;cases Y
  obtain⟨y,iM⟩:∃y,fa u=some y:=by
   cases h:fa u with
   |some x=>exact⟨x,rfl⟩
   |none=>rw[o8,aE,h]at Y;cases Y
  refine bk aa (aT cN aE iM) ?_;refine dL aa cN ?_;refine aA aa (aT cN aE iM) ?_;refine bC cN ?_ ?_<;>intro J
  ·have H:op=vH:=jG J;obtain rfl:r=.alt x y:=by
    have:o8 op t u=some (.alt x y):=by simp only[o8,aE,iM,rz,al H]
    rw[this]at Y;exact(qZ Y).symm
   refine aA aa (aT cN aE iM) ?_;refine bf (aT cN aE iM) ?_;exact sL (λE=>rfl) rfl
  have E1:¬op=vH:=jH J;refine aA aa (aT cN aE iM) ?_;refine bC cN ?_ ?_<;>intro J
  ·have H:op=vI:=jG J;obtain rfl:r=.cat x y:=by
    have:o8 op t u=some (.cat x y):=by simp only[o8,aE,iM,rz,ab E1,al H]
    rw[this]at Y;exact(qZ Y).symm
   refine aA aa (aT cN aE iM) ?_;refine bf (aT cN aE iM) ?_;exact sL (λE=>rfl) rfl
  have qM:¬op=vI:=jH J;refine aA aa (aT cN aE iM) ?_;refine bC cN ?_ ?_<;>intro J
  ·have H:op=yl:=jG J;obtain rfl:r=.and x y:=by
    have:o8 op t u=some (.and x y):=by simp only[o8,aE,iM,rz,ab E1,ab qM,al H]
    rw[this]at Y;exact(qZ Y).symm
   refine aA aa (aT cN aE iM) ?_;refine bf (aT cN aE iM) ?_;exact sL (λE=>rfl) rfl
  have nT:¬op=yl:=jH J;refine aA aa (aT cN aE iM) ?_;refine bC cN ?_ ?_<;>intro J
  ·have H:op=ym:=jG J;obtain rfl:r=.minus x y:=by
    have:o8 op t u=some (.minus x y):=by simp only[o8,aE,iM,rz,ab E1,ab qM,ab nT,al H]
    rw[this]at Y;exact(qZ Y).symm
   refine aA aa (aT cN aE iM) ?_;refine bf (aT cN aE iM) ?_;exact sL (λE=>rfl) rfl
  have af2:¬op=ym:=jH J;exfalso;have:o8 op t u=none:=by simp only[o8,aE,iM,rz,ab E1,ab qM,ab nT,ab af2]
  rw[this]at Y;cases Y
 |none=>
  simp only;refine fR ⟨20,bK [(1,v),(2,eT),(3,.is (.own 0 0))],bA [(0,.cells 215 [a,op,bS,nM])]⟩ ?_ ?_
  ·cases aE:fa t with
   |none=>refine aA aa (I cN aE) ?_;refine bk aa cN ?_;exact bh cN
   |some x=>
    cases iM:fa u with
    |none=>refine aA aa (aT cN aE iM) ?_;refine bk aa cN ?_;exact bh cN
    |some y=>
     refine aA aa (aT cN aE iM) ?_;refine dL aa cN ?_;refine aA aa (aT cN aE iM) ?_;refine bC cN ?_ ?_<;>intro J
     ·have H:op=vH:=jG J;exfalso;have:o8 op t u=some (.alt x y):=by simp only[o8,aE,iM,rz,al H]
      rw[this]at Y;cases Y
     have E1:¬op=vH:=jH J;refine aA aa (aT cN aE iM) ?_;refine bC cN ?_ ?_<;>intro J
     ·have H:op=vI:=jG J;exfalso;have:o8 op t u=some (.cat x y):=by simp only[o8,aE,iM,rz,ab E1,al H]
      rw[this]at Y;cases Y
     have qM:¬op=vI:=jH J;refine aA aa (aT cN aE iM) ?_;refine bC cN ?_ ?_<;>intro J
     ·have H:op=yl:=jG J;exfalso;have:o8 op t u=some (.and x y):=by simp only[o8,aE,iM,rz,ab E1,ab qM,al H]
      rw[this]at Y;cases Y
     have nT:¬op=yl:=jH J;refine aA aa (aT cN aE iM) ?_;refine bC cN ?_ ?_<;>intro J
     ·have H:op=ym:=jG J;exfalso;have:o8 op t u=some (.minus x y):=by simp only[o8,aE,iM,rz,ab E1,ab qM,ab nT,al H]
      rw[this]at Y;cases Y
     have af2:¬op=ym:=jH J;refine a1 ?_;exact bh cN
  clear Y kx af0 A af1;refine aL aa cN ?_ ?_
  ·refine⟨?_,?_,?_⟩<;>simp
  refine aA aa cN ?_;cases t with
  |text b s=>
   obtain rfl:v=_:=aI;have aZ:jk a op (.text b s) u=lF a:=by cases u<;>rfl
   rw[aZ];refine lv aa cN ?_;refine bk aa cN ?_;refine ae.fe (sM (b1 w S)) bX (aJ cN) ?_ ?_
   ·exact ot
   exact cC
  |rx b s=>
   obtain rfl:v=_:=aI;have aZ:jk a op (.rx b s) u=lF a:=by cases u<;>rfl
   rw[aZ];refine lv aa cN ?_;refine bk aa cN ?_;refine ae.fe (sM (b1 w S)) bX (aJ cN) ?_ ?_
   ·exact ot
   exact cC
  |lens l=>
   obtain⟨p,rfl,gX⟩:=aI;refine gJ aa cN ?_;cases u with
   |text b s=>
    obtain rfl:eT=_:=xO;have aZ:jk a op (.lens l) (.text b s)=lF a:=rfl;rw[aZ];refine lv aa cN ?_;refine fu (Γ:=aa) trivial cN ?_;refine ae.fe (sM (b1 w S)) bX (aJ cN) ?_ ?_
    ·exact ot
    exact cC
   |rx b s=>
    obtain rfl:eT=_:=xO;have aZ:jk a op (.lens l) (.rx b s)=lF a:=rfl;rw[aZ];refine lv aa cN ?_;refine fu (Γ:=aa) trivial cN ?_;refine ae.fe (sM (b1 w S)) bX (aJ cN) ?_ ?_
    ·exact ot
    exact cC
   |canon d=>
    obtain⟨mf,rfl,uC⟩:=xO;have aZ:jk a op (.lens l) (.canon d)=lF a:=rfl;rw[aZ];refine lv aa cN ?_;refine fu (Γ:=aa) trivial cN ?_;refine ae.fe (sM (b1 w S)) bX (aJ cN) ?_ ?_
    ·exact ot
    exact cC
   |lens d=>
    obtain⟨mf,rfl,uC⟩:=xO;refine aA aa cN ?_;rcases afZ op with H|H|H|H|H
    ·have aZ:jk a op (.lens l) (.lens d)=lF a:=by simp only[jk,H];rfl
     rw[aZ];refine aA aa (I cN H) ?_;refine Je aa cN ?_;refine ae.fe (sM (b1 w S)) bX (aJ cN) ?_ ?_
     ·exact ot
     exact cC
    ·have aZ:jk a op (.lens l) (.lens d)=.ok (.lens (.mk a o6 none ⟨#[]⟩ .nil l d)):=by simp only[jk,H];rfl
     rw[aZ];refine aA aa (I cN H) ?_;refine fu (Γ:=aa) trivial cN ?_;refine hs aa (b3 cN H gX.parts uC.parts) ?_;refine ae.jt 488 (aJ cN) (λE=>by simp only[ba,den];exact rfl) λcy ck eh bD mv kq jr=>?_
     refine bf cN ?_;have Z:bw (b1 w S) ck eh:=⟨b1.up w S eh kq,mv⟩;exact sL (λE=>rfl) ⟨_,rfl,sN (op:=o6) (n:=none) Z jr .nil (gX.mono bD.cc) (uC.mono bD.cc)⟩
    ·have aZ:jk a op (.lens l) (.lens d)=.ok (.lens (.mk a l1 none ⟨#[]⟩ .nil l d)):=by simp only[jk,H];rfl
     rw[aZ];refine aA aa (I cN H) ?_;refine fu (Γ:=aa) trivial cN ?_;refine hs aa (b3 cN H gX.parts uC.parts) ?_;refine ae.jt 488 (aJ cN) (λE=>by simp only[ba,den];exact rfl) λcy ck eh bD mv kq jr=>?_
     refine bf cN ?_;have Z:bw (b1 w S) ck eh:=⟨b1.up w S eh kq,mv⟩;exact sL (λE=>rfl) ⟨_,rfl,sN (op:=l1) (n:=none) Z jr .nil (gX.mono bD.cc) (uC.mono bD.cc)⟩
    ·have aZ:jk a op (.lens l) (.lens d)=.ok (.lens (.mk a CY none ⟨#[]⟩ .nil l d)):=by simp only[jk,H];rfl
     rw[aZ];refine aA aa (I cN H) ?_;refine fu (Γ:=aa) trivial cN ?_;refine hs aa (b3 cN H gX.parts uC.parts) ?_;refine ae.jt 488 (aJ cN) (λE=>by simp only[ba,den];exact rfl) λcy ck eh bD mv kq jr=>?_
     refine bf cN ?_;have Z:bw (b1 w S) ck eh:=⟨b1.up w S eh kq,mv⟩;exact sL (λE=>rfl) ⟨_,rfl,sN (op:=CY) (n:=none) Z jr .nil (gX.mono bD.cc) (uC.mono bD.cc)⟩
    ·have aZ:jk a op (.lens l) (.lens d)=.ok (.lens (.mk a CZ none ⟨#[]⟩ .nil l d)):=by simp only[jk,H];rfl
     rw[aZ];refine aA aa (I cN H) ?_;refine fu (Γ:=aa) trivial cN ?_;refine hs aa (b3 cN H gX.parts uC.parts) ?_;refine ae.jt 488 (aJ cN) (λE=>by simp only[ba,den];exact rfl) λcy ck eh bD mv kq jr=>?_
     refine bf cN ?_;have Z:bw (b1 w S) ck eh:=⟨b1.up w S eh kq,mv⟩;exact sL (λE=>rfl) ⟨_,rfl,sN (op:=CZ) (n:=none) Z jr .nil (gX.mono bD.cc) (uC.mono bD.cc)⟩
  |canon c=>
   obtain⟨p,rfl,gX⟩:=aI;refine lv aa cN ?_;refine fu (Γ:=aa) trivial cN ?_;cases u with
   |text b s=>
    obtain rfl:eT=_:=xO;have aZ:jk a op (.canon c) (.text b s)=lF a:=rfl;rw[aZ];refine gJ aa cN ?_;refine ae.fe (sM (b1 w S)) bX (aJ cN) ?_ ?_
    ·exact ot
    exact cC
   |rx b s=>
    obtain rfl:eT=_:=xO;have aZ:jk a op (.canon c) (.rx b s)=lF a:=rfl;rw[aZ];refine gJ aa cN ?_;refine ae.fe (sM (b1 w S)) bX (aJ cN) ?_ ?_
    ·exact ot
    exact cC
   |lens d=>
    obtain⟨mf,rfl,uC⟩:=xO;have aZ:jk a op (.canon c) (.lens d)=lF a:=rfl;rw[aZ];refine gJ aa cN ?_;refine ae.fe (sM (b1 w S)) bX (aJ cN) ?_ ?_
    ·exact ot
    exact cC
   |canon d=>
    obtain⟨mf,rfl,uC⟩:=xO;refine aA aa cN ?_;rcases afZ op with H|H|H|H|H
    ·have aZ:jk a op (.canon c) (.canon d)=lF a:=by simp only[jk,H];rfl
     rw[aZ];refine aA aa (I cN H) ?_;refine bk aa cN ?_;refine ae.fe (sM (b1 w S)) bX (aJ cN) ?_ ?_
     ·exact ot
     exact cC
    ·have aZ:jk a op (.canon c) (.canon d)=.ok (.canon (.mk a o6 none ⟨#[]⟩ ⟨#[]⟩ c d)):=by simp only[jk,H];rfl
     rw[aZ];refine aA aa (I cN H) ?_;refine fu (Γ:=aa) trivial cN ?_;refine hs aa (b3 cN H gX.parts uC.parts) ?_;refine ae.jt 584 (aJ cN) (λE=>by simp only[ba,den];exact rfl) λcy ck eh bD mv kq jr=>?_
     refine bf cN ?_;have Z:bw (b1 w S) ck eh:=⟨b1.up w S eh kq,mv⟩;exact sL (λE=>rfl) ⟨_,rfl,Ki (op:=o6) (n:=none) Z jr (gX.mono bD.cc) (uC.mono bD.cc)⟩
    ·have aZ:jk a op (.canon c) (.canon d)=.ok (.canon (.mk a l1 none ⟨#[]⟩ ⟨#[]⟩ c d)):=by simp only[jk,H];rfl
     rw[aZ];refine aA aa (I cN H) ?_;refine fu (Γ:=aa) trivial cN ?_;refine hs aa (b3 cN H gX.parts uC.parts) ?_;refine ae.jt 584 (aJ cN) (λE=>by simp only[ba,den];exact rfl) λcy ck eh bD mv kq jr=>?_
     refine bf cN ?_;have Z:bw (b1 w S) ck eh:=⟨b1.up w S eh kq,mv⟩;exact sL (λE=>rfl) ⟨_,rfl,Ki (op:=l1) (n:=none) Z jr (gX.mono bD.cc) (uC.mono bD.cc)⟩
    ·have aZ:jk a op (.canon c) (.canon d)=lF a:=by simp only[jk,H];rfl
     rw[aZ];refine aA aa (I cN H) ?_;refine bk aa cN ?_;refine ae.fe (sM (b1 w S)) bX (aJ cN) ?_ ?_
     ·exact ot
     exact cC
    ·have aZ:jk a op (.canon c) (.canon d)=lF a:=by simp only[jk,H];rfl
     rw[aZ];refine aA aa (I cN H) ?_;refine bk aa cN ?_;refine ae.fe (sM (b1 w S)) bX (aJ cN) ?_ ?_
     ·exact ot
     exact cC
def vO:=ez
def axC(a:Nat)(dw:ao)(w:ar):cQ 303 #[.agg #[a,dw]] w (.int .i64 (a:Nat)):=by refine cB (nt:=5) [.tmp 2] Tryz.func303 ?_;refine bk aa vO ?_;exact bE vO
abbrev af3:cV Tryz.prog 303 where
 pre:=λW bs aj=>∃(a:Nat) (dw:ao),aj=[.val (.agg #[.int .i64 (a:Nat),.string dw])]
 res:=λ_ aj=>match aj with
  |[.val (.agg cs)]=>cs.getD 0 undef
  |_=>undef
 enters:=Tryz.call303
 ok:=by
  intro W w bs us aj ad hu hp;obtain⟨a,dw,rfl⟩:=hp
  match us,hu with
  |[x],hu=>obtain⟨rfl,_⟩:=hu;exact axC a dw w
def af4:mK Tryz.prog 205 "Place":=hI 303 false (by kernel_rfl) (by kernel_rfl)
def axD(a:Nat)(dw:ao)(w:ar):cQ 304 #[.agg #[a,dw]] w (.int .i64 (a:Nat)):=by refine cB (nt:=5) [.tmp 2] Tryz.func304 ?_;refine bk aa vO ?_;exact bE vO
abbrev af5:cV Tryz.prog 304 where
 pre:=λW bs aj=>∃(a:Nat) (dw:ao),aj=[.val (.agg #[.int .i64 (a:Nat),.string dw])]
 res:=λ_ aj=>match aj with
  |[.val (.agg cs)]=>cs.getD 0 undef
  |_=>undef
 enters:=Tryz.call304
 ok:=by
  intro W w bs us aj ad hu hp;obtain⟨a,dw,rfl⟩:=hp
  match us,hu with
  |[x],hu=>obtain⟨rfl,_⟩:=hu;exact axD a dw w
def af6:mK Tryz.prog 206 "Place":=hI 304 false (by kernel_rfl) (by kernel_rfl)
def axE(a:Nat)(dw:ao)(w:ar):cQ 305 #[.agg #[a,dw]] w (.int .i64 (a:Nat)):=by refine cB (nt:=5) [.tmp 2] Tryz.func305 ?_;refine bk aa vO ?_;exact bE vO
abbrev af7:cV Tryz.prog 305 where
 pre:=λW bs aj=>∃(a:Nat) (dw:ao),aj=[.val (.agg #[.int .i64 (a:Nat),.string dw])]
 res:=λ_ aj=>match aj with
  |[.val (.agg cs)]=>cs.getD 0 undef
  |_=>undef
 enters:=Tryz.call305
 ok:=by
  intro W w bs us aj ad hu hp;obtain⟨a,dw,rfl⟩:=hp
  match us,hu with
  |[x],hu=>obtain⟨rfl,_⟩:=hu;exact axE a dw w
def af8:mK Tryz.prog 207 "Place":=hI 305 false (by kernel_rfl) (by kernel_rfl)
def axF(a:Nat)(dw:aM)(w:ar):cQ 306 #[.agg #[a,dw]] w (.int .i64 (a:Nat)):=by refine cB (nt:=5) [.tmp 2] Tryz.func306 ?_;refine bk aa vO ?_;exact bE vO
abbrev af9:cV Tryz.prog 306 where
 pre:=λW bs aj=>∃(a:Nat) (dw:aM),aj=[.val (.agg #[.int .i64 (a:Nat),dw])]
 res:=λ_ aj=>match aj with
  |[.val (.agg cs)]=>cs.getD 0 undef
  |_=>undef
 enters:=Tryz.call306
 ok:=by
  intro W w bs us aj ad hu hp;obtain⟨a,dw,rfl⟩:=hp
  match us,hu with
  |[x],hu=>obtain⟨rfl,_⟩:=hu;exact axF a dw w
def aga:mK Tryz.prog 209 "Place":=hI 306 false (by kernel_rfl) (by kernel_rfl)
def axG(a:Nat)(dw:ao)(ee:aM)(w:ar):cQ 307 #[.agg #[a,dw,ee]] w (.int .i64 (a:Nat)):=by refine cB (nt:=5) [.tmp 2] Tryz.func307 ?_;refine bk aa vO ?_;exact bE vO
abbrev agb:cV Tryz.prog 307 where
 pre:=λW bs aj=>∃(a:Nat) (dw:ao) (ee:aM),aj=[.val (.agg #[.int .i64 (a:Nat),.string dw,ee])]
 res:=λ_ aj=>match aj with
  |[.val (.agg cs)]=>cs.getD 0 undef
  |_=>undef
 enters:=Tryz.call307
 ok:=by
  intro W w bs us aj ad hu hp;obtain⟨a,dw,ee,rfl⟩:=hp
  match us,hu with
  |[x],hu=>obtain⟨rfl,_⟩:=hu;exact axG a dw ee w
def agc:mK Tryz.prog 212 "Place":=hI 307 false (by kernel_rfl) (by kernel_rfl)
def axH(a:Nat)(dw:ao)(ee:aM)(fh:aM)(w:ar):cQ 308 #[.agg #[a,dw,ee,fh]] w (.int .i64 (a:Nat)):=by refine cB (nt:=5) [.tmp 2] Tryz.func308 ?_;refine bk aa vO ?_;exact bE vO
abbrev agd:cV Tryz.prog 308 where
 pre:=λW bs aj=>∃(a:Nat) (dw:ao) (ee:aM) (fh:aM),aj=[.val (.agg #[.int .i64 (a:Nat),.string dw,ee,fh])]
 res:=λ_ aj=>match aj with
  |[.val (.agg cs)]=>cs.getD 0 undef
  |_=>undef
 enters:=Tryz.call308
 ok:=by
  intro W w bs us aj ad hu hp;obtain⟨a,dw,ee,fh,rfl⟩:=hp
  match us,hu with
  |[x],hu=>obtain⟨rfl,_⟩:=hu;exact axH a dw ee fh w
def age:mK Tryz.prog 215 "Place":=hI 308 false (by kernel_rfl) (by kernel_rfl)
def axI(a:Nat)(dw:ao)(ee:aM)(w:ar):cQ 309 #[.agg #[a,dw,ee]] w (.int .i64 (a:Nat)):=by refine cB (nt:=5) [.tmp 2] Tryz.func309 ?_;refine bk aa vO ?_;exact bE vO
abbrev agf:cV Tryz.prog 309 where
 pre:=λW bs aj=>∃(a:Nat) (dw:ao) (ee:aM),aj=[.val (.agg #[.int .i64 (a:Nat),.string dw,ee])]
 res:=λ_ aj=>match aj with
  |[.val (.agg cs)]=>cs.getD 0 undef
  |_=>undef
 enters:=Tryz.call309
 ok:=by
  intro W w bs us aj ad hu hp;obtain⟨a,dw,ee,rfl⟩:=hp
  match us,hu with
  |[x],hu=>obtain⟨rfl,_⟩:=hu;exact axI a dw ee w
def agh:mK Tryz.prog 219 "Place":=hI 309 false (by kernel_rfl) (by kernel_rfl)
def Kj:(f:dr)->Option (LE.Spec Tryz.prog f)
 |303=>some af3.spec
 |304=>some af5.spec
 |305=>some af7.spec
 |306=>some af9.spec
 |307=>some agb.spec
 |308=>some agd.spec
 |309=>some agf.spec
 |_=>none
def zQ:(t:a6)->(name:String)->Option (mK Tryz.prog t name)
 |205, "Place"=>some af4
 |206, "Place"=>some af6
 |207, "Place"=>some af8
 |209, "Place"=>some aga
 |212, "Place"=>some agc
 |215, "Place"=>some age
 |219, "Place"=>some agh
 |_,_=>none
def axJ{Γ:Env Tryz.prog}(hm:Γ.mt=zQ)(V:∀f s,Kj f=some s->Γ.sp f=some s){mg:ar}{HH:aY}{v:aM}{x:bO}(h:o4 mg HH v x):
  ∃p:Prop,p/\hN Γ W bs κ hh "Place" [.v v]=⟨p,(HB x),[],none,[],[]⟩:=by
 cases h with
 |name a s=>refine⟨af3.pre W bs [.val (.agg #[a,s])],⟨a,s,rfl⟩,?_⟩;simp only[hN,hm,zQ,af4,hI,iL,V 303 _ rfl];rfl
 |text a s=>refine⟨af5.pre W bs [.val (.agg #[a,s])],⟨a,s,rfl⟩,?_⟩;simp only[hN,hm,zQ,af6,hI,iL,V 304 _ rfl];rfl
 |rx a s=>refine⟨af7.pre W bs [.val (.agg #[a,s])],⟨a,s,rfl⟩,?_⟩;simp only[hN,hm,zQ,af8,hI,iL,V 305 _ rfl];rfl
 |keyed a aE7 x aB=>refine⟨af9.pre W bs [.val (.agg #[a,aE7])],⟨a,aE7,rfl⟩,?_⟩;simp only[hN,hm,zQ,aga,hI,iL,V 306 _ rfl];rfl
 |unary a s aE7 x aB=>refine⟨agb.pre W bs [.val (.agg #[a,s,aE7])],⟨a,s,aE7,rfl⟩,?_⟩;simp only[hN,hm,zQ,agc,hI,iL,V 307 _ rfl];rfl
 |binary a s aE7 u x y aB cG=>refine⟨agd.pre W bs [.val (.agg #[a,s,aE7,u])],⟨a,s,aE7,u,rfl⟩,?_⟩;simp only[hN,hm,zQ,age,hI,iL,V 308 _ rfl];rfl
 |call a s ay c vs l D O B=>refine⟨agf.pre W bs [.val (.agg #[a,s,.slice ay vs.length c])],⟨a,s,.slice ay vs.length c,rfl⟩,?_⟩;simp only[hN,hm,zQ,agh,hI,iL,V 309 _ rfl];rfl
end
section
open Go.RowKit Go.LE Go.Proofs.Tryz
variable{n:Option bm}{t u:cl}{a:Nat}{q:jW}{s w:ao}
theorem agi{c:Prop}[Decidable c]{a b:EP}{N:Nat}(aQ:a.1.size<=N)(Z:b.1.size<=N):(if c then a else b).1.size<=N:=by grind
theorem agj(s:ao)(i:Nat):∀n k o,(oZ s i n k o).1.size<=o.size+n
 |0,k,o=>ef _
 |n+1,k,o=>by
  have h:=λeS c=>agj s i n eS (o++fD [c])
  have e:∀c,(o++fD [c]).size=o.size+1:=λc=>by grind [mw]
  rw[oZ]
  repeat' apply agi
  all_goals first
   |(refine xp (h _ _) ?_;rw[e];omega)
   |exact ef _
   |(show o.size<=_;omega)
def agk(s:ao)(i:Nat):∀n k,(r2 s i n k).1.size<=s.size
 |0,k=>ef _
 |n+1,k=>by
  have h:=λeS=>agk s i n eS
  rw[r2]
  repeat' apply agi
  all_goals first
   |exact h _
   |exact ef _
   |(show(s.extract _ _).size<=_;rw[OO];omega)
abbrev XE (t:bH):Prop:=t.2.1<=4096/\t.2.2.size<=4096
abbrev r9 (r:List bH):Prop:=∀t∈r,XE t
theorem axK(s:ao)(i:Nat)(V:s.size<=4096)(hi:i<s.size):XE (dT s i).1:=by
 have A:∀a b,(s.extract a b).size<=4096:=λa b=>by rw[OO];omega
 have D:(jA s i).1.size<=4096:=by have:(jA s i).1.size<=fN.size+(s.size-(i+1)):=agj s i _ _ _;have e:fN.size=0:=rfl;omega
 have O:(kt s i).1.size<=4096:=xp (agk s i _ _) V;have lq:i<=4096:=U;unfold dT
 repeat' split
 all_goals first
  |exact⟨ef _,ef _⟩
  |exact⟨lq,A _ _⟩
  |exact⟨lq,D⟩
  |exact⟨lq,O⟩
  |exact⟨lq,show 2<=4096 by omega⟩
theorem agl(s:ao)(V:s.size<=4096):∀n i l,r9 l->r9 (o0 s n i l).1
 |0,i,l,aN=>λt aV=>by
  rcases hq.1 aV with aV|aV
  ·exact aN t aV
  ·rw[l8.1 aV];exact⟨V,ef _⟩
 |n+1,i,l,aN=>by
  rw[o0];split
  ·rename_i hi;split
   ·refine agl s V n _ _ λt aV=>?_
    grind [axK]
   simp
  ·intro t aV;rcases hq.1 aV with aV|aV
   ·exact aN t aV
   ·rw[l8.1 aV];exact⟨V,ef _⟩
def axL(s:ao):r9 (cZ s).1:=by
 unfold cZ;split
 ·trivial
 ·exact agl s U _ _ _ (λt aV=>by cases aV)
def sa:bO->Nat
 |.cons _ l=>sa l+1
 |_=>0
def dZ:bO->Prop
 |.name a s=>a<=4096/\s.size<=4096
 |.text a s=>a<=4096/\s.size<=4096
 |.rx a s=>a<=4096/\s.size<=4096
 |.call a w l=>a<=4096/\w.size<=4096/\0<ed w/\sa l=(ed w).toNat/\dZ l
 |.keyed a x=>a<=4096/\dZ x
 |.unary a op x=>a<=4096/\op.size<=4096/\dZ x
 |.binary a op x y=>a<=4096/\op.size<=4096/\dZ x/\dZ y
 |.nil=>True
 |.cons x l=>dZ x/\dZ l
def vP(sub:List bH->cW):Prop:=∀r,r9 r->∀a bG,sub r=.ok (a,bG)->dZ a/\r9 bG
theorem RZ{r:List bH}(h:r9 r):XE (aF r):=by
 cases r with
 |nil=>trivial
 |cons t r=>grind [aF]
def tA{r:List bH}(h:r9 r):r9 r.tail:=λt aV=>h t (List.mem_of_mem_tail aV)
theorem agm{sub:List bH->cW}(h:vP sub)(mA:Int):∀n a r,r9 r->dZ a->∀b bG,oE sub mA n a r=.ok (b,bG)->dZ b/\r9 bG
 |0,a,r,aI,aQ,b,bG,he=>by grind [oE]
 |n+1,a,r,aI,aQ,b,bG,he=>by
  rw[oE]at he;split at he
  ·split at he
   ·cases he
   ·rename_i x cE V;obtain⟨D,O⟩:=h _ (tA aI) _ _ V;have hp:=RZ aI;exact agm h mA n _ _ O (by simp_all [dZ]) _ _ he
  grind
theorem axM{sub:List bH->cW}(h:vP sub)(mA:Int):vP (tx sub mA):=λr aI a bG he=>by
 unfold tx at he;split at he
 ·cases he
 ·rename_i x cE V;obtain⟨D,O⟩:=h _ aI _ _ V
  grind [agm]
def agn:∀n a r,r9 r->dZ a->dZ (vE n a r).1/\r9 (vE n a r).2
 |0,a,r,aI,aQ=>⟨aQ,aI⟩
 |n+1,a,r,aI,aQ=>by
  rw[vE];split
  ·have hp:=RZ aI;exact agn n _ _ (tA aI) (by simp_all [dZ])
  trivial
theorem axN{atom:List bH->cW}(h:vP atom):vP (pL atom):=λr aI a bG he=>by
 unfold pL at he;split at he
 ·cases he
 ·rename_i x cE V;obtain⟨D,O⟩:=h _ aI _ _ V;simp only[ng]at he;have B:=agn cE.length x cE O D
  grind
def XF{atom:List bH->cW}(h:vP atom):∀k,vP (pM atom k)
 |0=>axN h
 |k+1=>axM (XF h k) _
theorem axO(l y:bO)(aN:dZ l)(cG:dZ y):dZ (vF l y)/\sa (vF l y)=sa l+1:=by fun_induction vF<;>grind [dZ,sa]
theorem ago{ex:List bH->cW}(h:vP ex):∀n k l r,r9 r->dZ l->∀a bG,ql ex n k l r=.ok (a,bG)->(dZ a/\sa a=sa l+n)/\r9 bG
 |0,k,l,r,aI,aN,a,bG,he=>by grind [ql]
 |n+1,k,l,r,aI,aN,a,bG,he=>by
  rw[ql]at he;split at he
  ·cases he
  ·have D:r9 (if 0<k then r.tail else r):=by
    split
    ·exact tA aI
    ·exact aI
   split at he
   ·cases he
   ·rename_i x cE V;obtain⟨O,B⟩:=h _ D _ _ V;obtain⟨s1,s2⟩:=axO l x aN O;obtain⟨⟨g1,g2⟩,g3⟩:=ago h n _ _ _ B s1 _ _ he
    grind
def XG{m:ao}{f:bO->bO}{q:cW}(h:∀a bG,q=.ok (a,bG)->dZ (f a)/\r9 bG){a:bO}{bG:List bH}(he:iy m f q=.ok (a,bG)):dZ a/\r9 bG:=by
 cases q with
 |error e=>cases he
 |ok p=>
  obtain⟨x,cE⟩:=p;have ma:(if dI cE m=true then(.ok (f x,cE.tail):cW) else .error (60,(aF cE).2.1))=.ok (a,bG):=he;by_cases hm:dI cE m=true
  ·rw[al hm]at ma;cases ma;obtain⟨D,O⟩:=h _ _ rfl;exact⟨D,tA O⟩
  simp_all
theorem agp{m:Option (List bH->cW)}(hm:∀ex,m=some ex->vP ex):vP (mC m):=λr aI a bG he=>by
 have hp:=RZ aI;have key:∀{cR:List bH} {b:ao} {go:(List bH->cW)->List bH->cW},lE m cR b go=.ok (a,bG)->∃ex,vP ex/\go ex cR.tail=.ok (a,bG):=λ{cR b go} h=>by
  unfold lE at h
  grind
 unfold mC at he;split at he
 ·cases he;exact⟨by trivial,tA aI⟩
 split at he
 ·cases he;exact⟨by trivial,tA aI⟩
 split at he
 ·rename_i J;obtain⟨ex,D,B⟩:=key he;refine XG (λx cE V=>?_) B;obtain⟨⟨g1,g2⟩,g3⟩:=ago D _ _ _ _ (tA (tA aI)) (by trivial) _ _ V
  grind [dZ,sa]
 split at he
 ·cases he;exact⟨by trivial,tA aI⟩
 split at he
 ·obtain⟨ex,D,B⟩:=key he;refine XG (λx cE V=>?_) B;obtain⟨g1,g3⟩:=D _ (tA aI) _ _ V
  grind [dZ]
 split at he
 ·obtain⟨ex,D,B⟩:=key he;exact XG (λx cE V=>D _ (tA aI) _ _ V) B
 ·cases he
def agq:∀m,vP (o2 m)
 |0=>agp λex h=>by cases h
 |m+1=>agp λex h=>by cases h;exact XF (agq m) 5
def HI(d:Nat×ByteArray×bO):Prop:=d.1<=4096/\d.2.1.size<=4096/\dZ d.2.2
def HJ(p:pN):Prop:=(∀d∈p.1,HI d)/\dZ p.2
theorem agr{ex:List bH->cW}(h:vP ex):∀n az r,r9 r->(∀d∈az,HI d)->∀p bG,r3 ex n az r=.ok (p,bG)->HJ p
 |0,az,r,aI,ak,p,bG,he=>by cases he
 |n+1,az,r,aI,ak,p,bG,he=>by
  rw[r3]at he;split at he
  ·split at he
   ·cases he
   split at he
   ·cases he
   split at he
   ·cases he
   rename_i x cE V;obtain⟨D,O⟩:=h _ (tA (tA (tA aI))) _ _ V;split at he
   ·cases he
   have hp:=RZ (tA aI);refine agr h n _ _ (tA O) (λd aaX => ?_) _ _ he
   grind [HI]
  grind [HJ,vP]
def NV{p:pN}(h:rv s=.ok p):HJ p:=by
 unfold rv at h;split at h
 ·split at h
  ·cases h
  ·rename_i q r z;cases h;exact agr (XF (agq 64) 5) _ _ _ (axL s) (λd ak=>by cases ak) _ _ z
 ·cases h
def zR(op:ao)(n:Option bm)(x y:jW):Prop:=if(op=jE\/op=ke)\/op=fB then n≠none else if op=eD then x≠.nil else x≠.nil/\y≠.nil
def qN(op:ao)(n:Option bm)(q:jW)(x y:k6):Prop:=
 if(op=iX\/op=nZ)\/op=nz then n≠none
 else if op=fX then True
 else if(op=eD\/op=nA)\/op=nB then x≠.nil
 else if op=mZ\/op=na then x≠.nil/\q≠.nil
 else x≠.nil/\y≠.nil
def o9:jW->Prop
 |.nil=>True
 |.mk a op n to dA x y=>a<=4096/\op.size<=4096/\to.size<=4096/\dA.size<=4096/\o9 x/\o9 y/\zR op n x y
def pb:k6->Prop
 |.nil=>True
 |.mk a op n cx q x y=>a<=4096/\op.size<=4096/\cx.size<=4096/\o9 q/\pb x/\pb y/\qN op n q x y
def NW{op:ao}{x y:jW}(h:(op=jE\/op=ke)\/op=fB):zR op n x y=(n≠none):=by rw[zR,al h]
theorem XH{x y:jW}:zR eD n x y=(x≠.nil):=by rfl
theorem axP{op:ao}{x y:jW}(h:op=o6\/op=l1):zR op n x y=(x≠.nil/\y≠.nil):=by rcases h with rfl|rfl<;>rw[zR,ab aq,ab aq]
def NX{op:ao}{x y:k6}(h:(op=iX\/op=nZ)\/op=nz):qN op n q x y=(n≠none):=by rw[qN,al h]
theorem axQ{x y:k6}:qN fX n q x y=True:=by rfl
def Kk{op:ao}{x y:k6}(h:(op=eD\/op=nA)\/op=nB):qN op n q x y=(x≠.nil):=by rcases h with(rfl|rfl)|rfl<;>rw[qN,ab aq,ab aq,al aq]
theorem NY{op:ao}{x y:k6}(h:op=mZ\/op=na):qN op n q x y=(x≠.nil/\q≠.nil):=by rcases h with rfl|rfl<;>rw[qN,ab aq,ab aq,ab aq,al aq]
theorem XI{op:ao}{x y:k6}(h:((op=o6\/op=l1)\/op=CY)\/op=CZ):qN op n q x y=(x≠.nil/\y≠.nil):=by rcases h with((rfl|rfl)|rfl)|rfl<;>rw[qN,ab aq,ab aq,ab aq,ab aq]
def gC:cl->Prop
 |.text a s=>a<=4096/\s.size<=4096
 |.rx a r=>a<=4096
 |.canon c=>o9 c/\c≠.nil
 |.lens l=>pb l/\l≠.nil
def l3(t:cl):Prop:=gC t/\dK t<=8192
theorem axR{r:bm}(h:vt s=.ok r):aG r<=2000:=by
 rw[Hg]at h;cases ak:lX s with
 |error e=>grind [Cu]
 |ok t=>grind [aeE,Cu]
theorem pc{α:Type}{x:Except (Int×Int) α}{f:α->n1}(h:cI x f=.ok u):∃a,x=.ok a/\f a=.ok u:=by
 cases x with
 |error e=>cases h
 |ok a=>grind [cI]
theorem R0(h:nb a t=.ok u):u=t/\dK t<=2000:=by grind [nb]
theorem axS(aQ:a<=4096)(aV:gC t)(h:zL a t=.ok u):gC u:=by
 cases t with
 |lens l=>cases h;simp only[gC,pb];exact⟨⟨aQ,aq,aq,by trivial,aV.1,trivial,by rw[Kk (.inl (.inr rfl))];exact aV.2⟩,bq⟩
 |_=>cases h
theorem axT{op:ao}(aQ:a<=4096)(aV:gC t)(h:pP a op t=.ok u):gC u:=by
 have bp:eD.size<=4096:=by decide
 have hC:l1.size<=4096:=by decide
 have cb:o6.size<=4096:=by decide
 have lQ:iX.size<=4096:=by decide
 have db:(⟨#[]⟩:ao).size<=4096:=by decide
 unfold pP at h;split at h
 ·grind [gC]
 split at h
 ·grind [XH,gC,o9,lF]
 ·rename_i l _;have aN:pb l:=aV.1;have JH:l≠.nil:=aV.2;have hX:qN eD none .nil l .nil:=by trivial
  cases h;split
  ·simp_all [gC,pb,o9]
  split
  ·simp only[gC,pb,o9];exact⟨⟨aQ,hC,db,trivial,aN,⟨aQ,bp,db,trivial,aN,trivial,hX⟩,by rw[XI (.inl (.inl (.inr rfl)))];simp_all⟩,bq⟩
  ·simp only[gC,pb,o9];exact⟨⟨aQ,cb,db,trivial,aN,⟨aQ,lQ,db,trivial,trivial,trivial,by grind [qN]⟩,by rw[XI (.inl (.inl (.inl rfl)))];simp_all⟩,bq⟩
 ·cases h
def axU(n:Nat):(oG n).size<=4096:=by unfold oG;split<;>decide
theorem axV{n:Nat}(h:0<n)(aU:n<=4):((oG n=o6\/oG n=l1)\/oG n=CY)\/oG n=CZ:=by grind [oG]
theorem ags(op:ao):gm op<=4:=by grind [gm]
theorem axW{op:ao}{t u r:cl}(aQ:a<=4096)(aV:gC t)(hu:gC u)(h:jk a op t u=.ok r):gC r:=by
 have db:(⟨#[]⟩:ao).size<=4096:=by decide
 have cg:=axU (gm op);unfold jk at h;split at h
 ·split at h
  ·rename_i A
   grind [XI,axV,ags,gC,pb,o9]
  ·cases h
 ·split at h
  ·rename_i A;cases h;simp only[gC,pb,o9];have D:oG (gm op)=o6\/oG (gm op)=l1:=by
    grind [oG]
   grind [axP,gC]
  ·cases h
 ·cases h
theorem axX{op:ao}{t u r:cl}(aQ:a<=4096)(aV:gC t)(hu:gC u)(h:vJ a op t u=.ok r):gC r:=by grind [axW,vJ,gC]
theorem agt(h:0<ed w):(((w=iX\/w=nZ)\/w=fX)\/w=jE\/w=ke)\/((w=nz\/w=mZ)\/w=na\/w=nB)\/w=fB:=by grind [iX,nZ,fX,jE,ke,nz,mZ,na,nB,fB,ed]
theorem axY{ah:List cl}{ps:aD}(aQ:a<=4096)(hw:w.size<=4096)(aI:0<ed w)(kD:∀t∈ah,gC t)(h:ev a w ah ps=.ok u):gC u:=by
 have db:(⟨#[]⟩:ao).size<=4096:=by decide
 have cx:∀{i s},jF ah ps i=.ok s->s.size<=4096:=λ{i s} h=>by
  unfold jF at h;split at h
  ·rename_i hi;cases h;exact(kD _ (si hi)).2
  ·cases h
 have dy:∀{i c},o7 ah ps i=.ok c->o9 c/\c≠.nil:=λ{i c} h=>by
  unfold o7 at h;split at h
  ·rename_i hi;cases h;exact kD _ (si hi)
  ·cases h
 have agu:∀{i l},k8 ah ps i=.ok l->pb l/\l≠.nil:=λ{i l} h=>by
  unfold k8 at h;split at h
  ·rename_i hi;cases h;exact kD _ (si hi)
  ·cases h
 unfold ev at h;split at h
 ·rename_i J;obtain⟨n,_,h⟩:=pc h;cases h;simp only[gC,o9]
  grind [zR]
 split at h
 ·rename_i J;obtain⟨n,_,h⟩:=pc h;obtain⟨s,D,h⟩:=pc h;obtain⟨t,O,h⟩:=pc h;cases h;simp only[gC,o9]
  grind [zR]
 split at h
 ·rename_i J;obtain⟨n,_,h⟩:=pc h;obtain⟨s,D,h⟩:=pc h;cases h;simp only[gC,pb,o9]
  grind [qN]
 split at h
 ·rename_i J;obtain⟨s,D,h⟩:=pc h
  grind [axQ,gC,pb,o9]
 split at h
 ·rename_i J;obtain⟨s,D,h⟩:=pc h;cases h;simp only[gC,pb,o9]
  grind [qN]
 split at h
 ·rename_i J;obtain⟨c,D,h⟩:=pc h;obtain⟨l,O,h⟩:=pc h;cases h;simp only[gC,pb]
  grind [qN]
 split at h
 ·rename_i J;obtain⟨l,O,h⟩:=pc h;obtain⟨c,D,h⟩:=pc h;cases h;simp only[gC,pb]
  grind [qN]
 split at h
 ·rename_i J;obtain⟨l,O,h⟩:=pc h;obtain⟨s,D,h⟩:=pc h;cases h;simp only[gC,pb,o9]
  grind [qN]
 ·rename_i g1 g2 g3 g4 g5 g6 g7 g8;exfalso;rcases agt aI with(((h|h)|h)|h|h)|((h|h)|h|h)|h
  all_goals simp_all
def qm(v:dN):Prop:=∀e∈v,l3 e.2
theorem axZ{v:dN}(au:qm v)(h:rA v s=some t):l3 t:=by induction v<;>grind [qm,rA]
theorem agv(v:dN)(au:qm v)(x:bO):dZ x->(∀t,dk v x=.ok t->l3 t)/\(∀ah,qK v x=.ok ah->(∀t∈ah,l3 t)/\ah.length=sa x):=by
 have HK:∀ah:List cl,(.ok []:Except (Int×Int) (List cl))=.ok ah->(∀t∈ah,l3 t)/\ah.length=0:=λah h=>by simp_all
 induction x with
 |name a s=>
  refine λaB=>⟨λt h=>?_,λah h=>HK ah (by trivial)⟩
  simp only[dk]at h;split at h
  ·rename_i aN
   grind [axZ]
  ·cases h
 |text a s=>
  refine λaB=>⟨λt h=>?_,λah h=>HK ah (by trivial)⟩
  simp only[dk]at h;cases h;simp only[dZ]at aB;refine⟨aB,?_⟩
  grind [dK,fJ]
 |rx a s=>
  refine λaB=>⟨λt h=>?_,λah h=>HK ah (by trivial)⟩
  simp only[dk]at h;split at h
  ·rename_i r aI;cases h;simp only[dZ]at aB;have:=axR aI;exact⟨aB.1,by grind [dK]⟩
  ·cases h
 |keyed a x bb=>
  refine λaB=>⟨λt h=>?_,λah h=>HK ah (by trivial)⟩
  simp only[dk]at h;simp only[dZ]at aB;obtain⟨t1,D,h⟩:=pc h;obtain⟨t2,O,h⟩:=pc h;obtain⟨rfl,B⟩:=R0 h
  grind [axS,l3]
 |unary a op x bb=>
  refine λaB=>⟨λt h=>?_,λah h=>HK ah (by trivial)⟩
  simp only[dk]at h;simp only[dZ]at aB;obtain⟨t1,D,h⟩:=pc h;obtain⟨t2,O,h⟩:=pc h;obtain⟨rfl,B⟩:=R0 h
  grind [axT,l3]
 |binary a op x y iz zS=>
  refine λaB=>⟨λt h=>?_,λah h=>HK ah (by trivial)⟩
  simp only[dk]at h;simp only[dZ]at aB;obtain⟨t1,D,h⟩:=pc h;obtain⟨t0,A,h⟩:=pc h;obtain⟨t2,O,h⟩:=pc h;obtain⟨rfl,B⟩:=R0 h
  grind [axX,l3]
 |call a w l bb=>
  refine λaB=>⟨λt h=>?_,λah h=>HK ah (by trivial)⟩
  simp only[dk]at h;simp only[dZ]at aB;split at h
  ·cases h
  ·rename_i ah aN;obtain⟨t2,O,h⟩:=pc h;obtain⟨rfl,B⟩:=R0 h;exact⟨axY aB.1 aB.2.1 aB.2.2.1 (λt aV=>(((bb aB.2.2.2.2).2 _ aN).1 t aV).1) O,U⟩
 |nil=>grind [dk,qK,sa]
 |cons x l iz R1=>grind [dZ,dk,qK,sa]
theorem C4{v:dN}{x:bO}(au:qm v)(aB:dZ x)(h:dk v x=.ok t):l3 t:=by grind [agv]
theorem agw{v:dN}{x:bO}{ah:List cl}(au:qm v)(aB:dZ x)(h:qK v x=.ok ah):(∀t∈ah,l3 t)/\ah.length=sa x:=by grind [agv]
theorem agx:∀(v:dN) (l:List (Nat×ByteArray×bO)) (u:dN),qm v->(∀d∈l,HI d)->yn v l=.ok u->qm u
 |v,[],u,au,aN,h=>by grind [yn]
 |v,(a,s,x)::r,u,au,aN,h=>by
  rw[yn]at h;split at h
  ·cases h
  split at h
  ·cases h
  rename_i t aV;refine agx _ r u (λe he=>?_) (λd ak=>aN d (Ie _ ak)) h;rcases hq.1 he with he|he
  ·exact au e he
  ·rw[l8.1 he];exact C4 au (aN (a,s,x) bq).2.2 aV
def ax0{p:pN}(hp:HJ p)(h:Br p=.ok t):l3 t:=by
 unfold Br at h;split at h
 ·cases h
 ·rename_i v au;exact C4 (agx [] p.1 v (λe he=>by cases he) hp.1 au) hp.2 h
theorem uD(x:ao):iY [x]=x:=by simp_all [Lib.join_one,iY]
def rC:∀l:List ByteArray,(iY l).size<=(l.map λx=>x.size+1).sum
 |[]=>ef _
 |[x]=>by rw[uD];simp
 |x::y::r=>by
  have bb:=rC (y::r);have e:iY (x::y::r)=x++n0++iY (y::r):=by unfold iY Lib.join;apply DB;simp
  rw[e,dU,dU];have:n0.size=1:=rfl
  simp_all
theorem R2(a:Nat)(w:ao)(l:List ByteArray)(aQ:a<=4096):(gy a w l).size<=w.size+22+(l.map λx=>x.size+1).sum:=by
 have D:=Rq (n:=(a:Nat)) U U;have O:=rC l;have bg:Hw.size=1:=rfl;have bN:Hx.size=1:=rfl;have dQ:Hy.size=1:=rfl
 grind [ByteArray.size_append,gy]
theorem yq(n:Option bm):(hA n).size<=2400*eA n+4:=by
 have bg:zK.size=1:=rfl;cases n with
 |none=>trivial
 |some r=>grind [vA,hA,eA]
theorem NZ(c:jW)(h:o9 c):(gQ c).size<=40000*fO c:=by
 induction c with
 |nil=>trivial
 |mk a op n to dA x y iz zS=>
  simp only[o9]at h;obtain⟨D,O,B,aU,bn,cA,_⟩:=h;have iz:=iz bn;have zS:=zS cA;have aE:=yq n;have aV:=EK to;have Z:=EK dA;have hh:=λl=>R2 a op l D
  grind [gQ,fO]
theorem XJ(l:k6)(h:pb l):(eB l).size<=40000*hz l:=by
 induction l with
 |nil=>trivial
 |mk a op n cx q x y iz zS=>
  simp only[pb]at h;obtain⟨D,O,B,aU,bn,cA,_⟩:=h;have iz:=iz bn;have zS:=zS cA;have aEq:=NZ q aU;have aE:=yq n;have aV:=EK cx;have hh:=λl=>R2 a op l D
  grind [eB,hz]
theorem ax1(t:cl)(h:gC t):(iZ t).size<=40000*dK t:=by
 cases t with
 |text a s=>
  simp only[gC]at h;have:=R2 a C0 [e9 s] h.1;have aV:=EK s;have e:C0.size=4:=rfl
  grind [iZ,dK,fJ]
 |rx a r=>
  simp only[gC]at h;have:=R2 a C1 [hA (some r)] h;have aV:=yq (some r);have hp:=qF r;have e:C1.size=5:=rfl
  grind [iZ,dK,eA]
 |canon c=>exact NZ c h.1
 |lens l=>exact XJ l h.1
end
section
open Go Go.RowKit Go.LE
set_option maxRecDepth 10000
variable{W w:ar}{t u:cl}{i a:Nat}{bs fp:aD}{c j:Int}{s:ao}{vs:aX}
def h8(W:ar)(S:aY):List Value->List cl->Prop
 |[],[]=>True
 |v::vs,t::ah=>dB W S v t/\h8 W S vs ah
 |_,_=>False
theorem h8.mono{W aO:World}{S bz:Nat->Prop}(V:bT W S aO bz):∀{vs:aX} {ah:List cl},h8 W S vs ah->h8 aO bz vs ah
 |[],[],_=>trivial
 |[],_::_,h=>h
 |_::_,[],h=>h
 |v::vs,t::ah,⟨D,O⟩=>⟨D.mono V,h8.mono V O⟩
theorem h8.len{W:ar}{S:aY}:∀{vs:aX} {ah:List cl},h8 W S vs ah->vs.length=ah.length
 |[],[],_=>rfl
 |[],_::_,h=>h.elim
 |_::_,[],h=>h.elim
 |v::vs,t::ah,⟨D,O⟩=>by rw[l9,l9,h8.len O]
def h8.get{W:ar}{S:aY}:∀{vs:aX} {ah:List cl} {i:Nat},h8 W S vs ah->i<vs.length->∃v t,vs[i]?=some v/\ah[i]?=some t/\dB W S v t
 |[],[],i,_,h=>absurd h (wb i)
 |[],_::_,i,h,_=>h.elim
 |_::_,[],i,h,_=>h.elim
 |v::vs,t::ah,0,⟨D,O⟩,_=>⟨v,t,rfl,rfl,D⟩
 |v::vs,t::ah,i+1,⟨D,O⟩,h=>by obtain⟨eT,eU,g1,g2,g3⟩:=h8.get O (ZJ h);exact⟨eT,eU,by simpa using g1,by simpa using g2,g3⟩
def h8.snoc{W:ar}{S:aY}{v:aM}{t:cl}(au:dB W S v t):∀{vs:aX} {ah:List cl},h8 W S vs ah->h8 W S (vs++[v]) (ah++[t])
 |[],[],_=>⟨au,trivial⟩
 |[],_::_,h=>h.elim
 |_::_,[],h=>h.elim
 |v::vs,t::ah,⟨D,O⟩=>⟨D,h8.snoc au O⟩
def h7.at{W:ar}{S:aY}:∀{vs:aX} {l:bO} {i:Nat},h7 W S false vs l->i<vs.length->∃v x,vs[i]?=some v/\o4 W S v x/\HB x=(eb l).getD i 0
 |[],l,i,_,h=>absurd h (wb i)
 |v::vs,l,0,h,_=>by
  cases h with
  |cons _ _ x l D O=>exact⟨v,x,rfl,D,rfl⟩
 |v::vs,l,i+1,h,hi=>by
  cases h with
  |cons _ _ x l D O=>obtain⟨eT,sZ,g1,g2,g3⟩:=h7.at O (ZJ hi);exact⟨eT,sZ,by simpa using g1,g2,g3⟩
theorem b0.cell{S:aY}{ay:dj}{v:aM}(h:b0 W S ay vs)(au:vs[i]?=some v):∃b o,ay=some ⟨b,o,none⟩/\S b/\W.cell? ⟨b,o+i,none⟩=some v:=by
 rcases h with h|⟨b,o,rfl,J⟩
 ·rw[h]at au;cases au
 ·obtain⟨hi,rfl⟩:=kC.1 au;exact⟨b,o,rfl,(J i hi).1,(J i hi).2⟩
structure hJ where
 a:Nat
 wd:ByteArray
 bS:Option Addr
 cp:Nat
 vs:List Value
 l:bO
 bM:Option Addr
 Kl:Nat
 us:List Value
 ah:List cl
variable{q:hJ}
def qO(q:hJ)(i:Nat):List br:=[.val (.int .i64 (q.a:Nat)),.val (.string q.wd),.val (.slice q.bS q.vs.length q.cp),.val (.slice q.bM q.us.length q.Kl),.val (.int .i64 (i:Nat))]
def hJ.ok(q:hJ)(W:ar)(S:aY):Prop:=(b0 W S q.bS q.vs/\h7 W S false q.vs q.l)/\(b0 W S q.bM q.us/\h8 W S q.us q.ah)/\(q.vs.length=q.us.length/\q.us.length<=3/\q.us.length<=q.Kl/\q.vs.length<=q.cp)/\∀t∈q.ah,l3 t
theorem hJ.ok.mono{q:hJ}{W aO:World}{S bz:Nat->Prop}(h:q.ok W S)(V:bT W S aO bz):q.ok aO bz := ⟨⟨h.1.1.mono V,h.1.2.mono V⟩,⟨h.2.1.1.mono V,h.2.1.2.mono V⟩,h.2.2⟩
def hJ.ok.km(h:q.ok W (Out bs))(ad:LE.cr W bs w)(hm:∀b∈fp,W.heap.size<=b\/b∈bs):q.ok w (Out fp):=h.mono λb Z V=>⟨ad.block b Z V,λdO=>(hm b dO).elim (λg=>absurd g (rG.2 Z)) V⟩
def agy{Γ:Env Tryz.prog}{κ:Nat}{hh:ca}(hm:Γ.mt=zQ)(V:∀f s,Kj f=some s->Γ.sp f=some s){mg:ar}{HH:aY}{v:aM}{x:bO}(h:o4 mg HH v x):
  hN Γ W bs κ hh "Place" [.v v]=⟨True,(HB x),[],none,[],[]⟩:=by
 obtain⟨p,hp,e⟩:=axJ (Γ:=Γ) (W:=W) (bs:=bs) (κ:=κ) (hh:=hh) hm V h;rw[e,DF hp]
def yr(q:hJ)(i:Nat):List PanicEntry:=jy 72 (((eb q.l).getD i 0:Nat))
def E2(h:l3 t):w3 t:=by
 cases t with
 |text a s=>have:s.size<=4096:=h.1.2;show s.size<=_;omega
 |_=>trivial
def il:Env Tryz.prog:=⟨λ| 64=>some (yp.spec (λ_=>False))|f=>Kj f,λ_=>none,zQ⟩
theorem ax2:il.sp 64=some (yp.spec (λ_=>False)):=rfl
def ax3{κ:Nat}{hh:ca}{mg:ar}{HH:aY}{v:aM}{x:bO}(h:o4 mg HH v x):hN il W bs κ hh "Place" [.v v]=⟨True,(HB x),[],none,[],[]⟩:=
 agy rfl (λf s aW=>by
  unfold Kj at aW
  split at aW<;>cases aW<;>rfl) h
def agz:=(de ez @ax2 @yp.eq_1 @qO.eq_1 @dH.eq_29)
def ax4(q:hJ)(i:Nat)(u:aM)(fp:aD)(w:ar)(z:q.ok w (Out fp))(hi:i<q.us.length)(H:eH w u fp 293 (qO q i))(ax:∀b∈fp,b<w.heap.size) :
  Calls Tryz.prog 209 (#[u]++#[]) w λx M=>h0 w u fp 293 x M (.b7 (yr q i) (.tuple #[])):=by
 have VT:i<q.vs.length:=by have:=z.2.2.1.1;omega
 obtain⟨v,x,au,aB,um⟩:=h7.at z.1.2 VT;obtain⟨b,o,XD,Z,J⟩:=b0.cell z.1.1 au;have s0:=λW bs κ hh=>ax3 (W:=W) (bs:=bs) (κ:=κ) (hh:=hh) aB
 have dO:b∉fp:=Z;refine jP (nt:=15) [] H ax Tryz.func209 ?_;refine ae.xC il bX (aJ (ch agz XD J s0 um @yr.eq_1 @jy.eq_1 @ix.eq_1)) rfl (by kernel_rfl) ?_ ?_
 ·exact⟨⟨U,U⟩,dO,_,_,rfl⟩
 exact cC
abbrev agA (q:hJ)(i:Nat):iO Tryz.prog 209:=AP 293 (λW bs=>q.ok W (Out bs)/\i<q.us.length) Tryz.call209 λW w bs u fp ad hp H ax fi=>ax4 q i u fp w (hp.1.km ad fi) hp.2 H ax
abbrev yt(q:hJ)(i:Nat):Env Tryz.prog:=a7 ((agA q i).spec) (a7 RX.spec aa)
def R3(e:Except (Int×Int) Value)(q:hJ)(i:Nat):j7:=match e with
 |.ok v=>.ret v (qO q (i+1))
 |.error (c,a)=>.b7 (jy c a) .nilIface
def agB:Value->Value
 |.iface _ p=>p
 |v=>v
def R4{α:Type}(f:α->Value):Except (Int×Int) α->Except (Int×Int) Value
 |.ok a=>.ok (f a)
 |.error e=>.error e
def C5(q:hJ)(i:Nat):j7:=R3 (R4 cz (r8 q.ah (eb q.l) i)) q i
def fw:=(ch agz @XC @XB @w4.eq_1 @w4.eq_2 @agA.eq_1 @vq @iR)
def ax5(q:hJ)(i:Nat)(u:aM)(fp:aD)(w:ar)(z:q.ok w (Out fp))(hi:i<q.us.length)(H:eH w u fp 293 (qO q i))(ax:∀b∈fp,b<w.heap.size) :
  Calls Tryz.prog 159 (#[u]++#[]) w λx M=>h0 w u fp 293 x M (C5 q i):=by
 obtain⟨v,t,au,aV,oQ⟩:=h8.get z.2.1.2 hi;obtain⟨b,o,gI,Z,J⟩:=b0.cell z.2.1.1 au;have dO:b∉fp:=Z;have bp:=z.2.2.2 t (si aV);have XK:i<3:=by have:=z.2.2.1.2.1;omega
 have w0:=fK i;have kx:jl w v=t:=lG oQ;have aK:q.us.getD i undef=v:=by rw[mI,au];rfl
 have hle:q.us.length<=q.Kl:=z.2.2.1.2.2.1;refine jP (nt:=31) [.tmp 2] H ax Tryz.func159 ?_;refine aA il fw ?_;cases aE:fa t with
 |some n=>
  have aZ:C5 q i=.ret (cz n) (qO q (i+1)):=by unfold C5 r8;rw[aV];simp only[BM,aE];rfl
  rw[aZ];refine dh (yt q i) (de fw gI J kx aE) ?_ ?_
  ·exact⟨⟨U,U⟩,dO,t,oQ,E2 bp⟩
  refine gJ il fw ?_;refine aA il (I fw w0) ?_;refine aA il fw ?_;refine bf fw ?_;exact eC (b3 fw @bQ @qO.eq_1 gI)
 |none=>
  have aZ:C5 q i=.b7 (yr q i) .nilIface:=by unfold C5 r8;rw[aV];simp only[BM,aE];rfl
  rw[aZ];refine dh (yt q i) (de fw gI J kx aE) ?_ ?_
  ·exact⟨⟨U,U⟩,dO,t,oQ,E2 bp⟩
  refine dL il fw ?_;refine ae.gz (yt q i) bX (aJ (I fw gI)) ?_ ?_
  ·exact⟨⟨z,hi⟩,aq,λ_ h=>h.elim⟩
  exact cC
abbrev agC (q:hJ)(i:Nat):iO Tryz.prog 159:=AP 293 (λW bs=>q.ok W (Out bs)/\i<q.us.length) Tryz.call159 λW w bs u fp ad hp H ax fi=>ax5 q i u fp w (hp.1.km ad fi) hp.2 H ax
def w5(q:hJ)(i:Nat):j7:=R3 (R4 Value.string (jF q.ah (eb q.l) i)) q i
def ax6(q:hJ)(i:Nat)(u:aM)(fp:aD)(w:ar)(z:q.ok w (Out fp))(hi:i<q.us.length)(H:eH w u fp 293 (qO q i))(ax:∀b∈fp,b<w.heap.size) :
  Calls Tryz.prog 160 (#[u]++#[]) w λx M=>h0 w u fp 293 x M (w5 q i):=by
 obtain⟨v,t,au,aV,oQ⟩:=h8.get z.2.1.2 hi;obtain⟨b,o,gI,Z,J⟩:=b0.cell z.2.1.1 au;have dO:b∉fp:=Z;have bp:=z.2.2.2 t (si aV);have XK:i<3:=by have:=z.2.2.1.2.1;omega
 have w0:=fK i;have kx:jl w v=t:=lG oQ;have aK:q.us.getD i undef=v:=by rw[mI,au];rfl
 have hle:q.us.length<=q.Kl:=z.2.2.1.2.2.1;refine jP (nt:=32) [.tmp 2] H ax Tryz.func160 ?_;refine aA il fw ?_;cases t with
 |text a s=>
  obtain rfl:v=_:=oQ;have aZ:w5 q i=.ret (.string s) (qO q (i+1)):=by unfold w5 jF;rw[aV];rfl
  rw[aZ];refine dh il (aT fw gI J) ?_ ?_
  ·exact⟨⟨U,U⟩,dO⟩
  refine gJ il fw ?_;refine aA il (I fw w0) ?_;refine aA il fw ?_;refine bf fw ?_;exact eC (b3 fw @bQ @qO.eq_1 gI)
 |rx a r=>
  obtain rfl:v=_:=oQ;have aZ:w5 q i=.b7 (yr q i) .nilIface:=by unfold w5 jF;rw[aV];rfl
  rw[aZ];refine dh il (aT fw gI J) ?_ ?_
  ·exact⟨⟨U,U⟩,dO⟩
  refine dL il fw ?_;refine ae.gz (yt q i) bX (aJ (I fw gI)) ?_ ?_
  ·exact⟨⟨z,hi⟩,aq,λ_ h=>h.elim⟩
  exact cC
 |canon c=>
  obtain⟨p,rfl,gX⟩:=oQ;have aZ:w5 q i=.b7 (yr q i) .nilIface:=by unfold w5 jF;rw[aV];rfl
  rw[aZ];refine dh il (aT fw gI J) ?_ ?_
  ·exact⟨⟨U,U⟩,dO⟩
  refine dL il fw ?_;refine ae.gz (yt q i) bX (aJ (I fw gI)) ?_ ?_
  ·exact⟨⟨z,hi⟩,aq,λ_ h=>h.elim⟩
  exact cC
 |lens c=>
  obtain⟨p,rfl,gX⟩:=oQ;have aZ:w5 q i=.b7 (yr q i) .nilIface:=by unfold w5 jF;rw[aV];rfl
  rw[aZ];refine dh il (aT fw gI J) ?_ ?_
  ·exact⟨⟨U,U⟩,dO⟩
  refine dL il fw ?_;refine ae.gz (yt q i) bX (aJ (I fw gI)) ?_ ?_
  ·exact⟨⟨z,hi⟩,aq,λ_ h=>h.elim⟩
  exact cC
abbrev agD (q:hJ)(i:Nat):iO Tryz.prog 160:=AP 293 (λW bs=>q.ok W (Out bs)/\i<q.us.length) Tryz.call160 λW w bs u fp ad hp H ax fi=>ax6 q i u fp w (hp.1.km ad fi) hp.2 H ax
def w6(q:hJ)(i:Nat):j7:=R3 (R4 (λ_=>agB (q.us.getD i undef)) (o7 q.ah (eb q.l) i)) q i
def ax7(q:hJ)(i:Nat)(u:aM)(fp:aD)(w:ar)(z:q.ok w (Out fp))(hi:i<q.us.length)(H:eH w u fp 293 (qO q i))(ax:∀b∈fp,b<w.heap.size) :
  Calls Tryz.prog 161 (#[u]++#[]) w λx M=>h0 w u fp 293 x M (w6 q i):=by
 obtain⟨v,t,au,aV,oQ⟩:=h8.get z.2.1.2 hi;obtain⟨b,o,gI,Z,J⟩:=b0.cell z.2.1.1 au;have dO:b∉fp:=Z;have bp:=z.2.2.2 t (si aV);have XK:i<3:=by have:=z.2.2.1.2.1;omega
 have w0:=fK i;have kx:jl w v=t:=lG oQ;have aK:q.us.getD i undef=v:=by rw[mI,au];rfl
 have hle:q.us.length<=q.Kl:=z.2.2.1.2.2.1;refine jP (nt:=31) [.tmp 2] H ax Tryz.func161 ?_;refine aA il fw ?_;cases t with
 |text a s=>
  obtain rfl:v=_:=oQ;have aZ:w6 q i=.b7 (yr q i) .nilIface:=by unfold w6 o7;rw[aV];rfl
  rw[aZ];refine dh il (aT fw gI J) ?_ ?_
  ·exact⟨⟨U,U⟩,dO⟩
  refine dL il fw ?_;refine ae.gz (yt q i) bX (aJ (I fw gI)) ?_ ?_
  ·exact⟨⟨z,hi⟩,aq,λ_ h=>h.elim⟩
  exact cC
 |rx a r=>
  obtain rfl:v=_:=oQ;have aZ:w6 q i=.b7 (yr q i) .nilIface:=by unfold w6 o7;rw[aV];rfl
  rw[aZ];refine dh il (aT fw gI J) ?_ ?_
  ·exact⟨⟨U,U⟩,dO⟩
  refine dL il fw ?_;refine ae.gz (yt q i) bX (aJ (I fw gI)) ?_ ?_
  ·exact⟨⟨z,hi⟩,aq,λ_ h=>h.elim⟩
  exact cC
 |canon c=>
  obtain⟨p,rfl,gX⟩:=oQ;have aZ:w6 q i=.ret (p) (qO q (i+1)):=by unfold w6 o7;rw[aV];simp only[aK];rfl
  rw[aZ];refine dh il (aT fw gI J) ?_ ?_
  ·exact⟨⟨U,U⟩,dO⟩
  refine gJ il fw ?_;refine aA il (I fw w0) ?_;refine aA il fw ?_;refine bf fw ?_;exact eC (b3 fw @bQ @qO.eq_1 gI)
 |lens c=>
  obtain⟨p,rfl,gX⟩:=oQ;have aZ:w6 q i=.b7 (yr q i) .nilIface:=by unfold w6 o7;rw[aV];rfl
  rw[aZ];refine dh il (aT fw gI J) ?_ ?_
  ·exact⟨⟨U,U⟩,dO⟩
  refine dL il fw ?_;refine ae.gz (yt q i) bX (aJ (I fw gI)) ?_ ?_
  ·exact⟨⟨z,hi⟩,aq,λ_ h=>h.elim⟩
  exact cC
abbrev agE (q:hJ)(i:Nat):iO Tryz.prog 161:=AP 293 (λW bs=>q.ok W (Out bs)/\i<q.us.length) Tryz.call161 λW w bs u fp ad hp H ax fi=>ax7 q i u fp w (hp.1.km ad fi) hp.2 H ax
def w7(q:hJ)(i:Nat):j7:=R3 (R4 (λ_=>agB (q.us.getD i undef)) (k8 q.ah (eb q.l) i)) q i
def ax8(q:hJ)(i:Nat)(u:aM)(fp:aD)(w:ar)(z:q.ok w (Out fp))(hi:i<q.us.length)(H:eH w u fp 293 (qO q i))(ax:∀b∈fp,b<w.heap.size) :
  Calls Tryz.prog 162 (#[u]++#[]) w λx M=>h0 w u fp 293 x M (w7 q i):=by
 obtain⟨v,t,au,aV,oQ⟩:=h8.get z.2.1.2 hi;obtain⟨b,o,gI,Z,J⟩:=b0.cell z.2.1.1 au;have dO:b∉fp:=Z;have bp:=z.2.2.2 t (si aV);have XK:i<3:=by have:=z.2.2.1.2.1;omega
 have w0:=fK i;have kx:jl w v=t:=lG oQ;have aK:q.us.getD i undef=v:=by rw[mI,au];rfl
 have hle:q.us.length<=q.Kl:=z.2.2.1.2.2.1;refine jP (nt:=31) [.tmp 2] H ax Tryz.func162 ?_;refine aA il fw ?_;cases t with
 |text a s=>
  obtain rfl:v=_:=oQ;have aZ:w7 q i=.b7 (yr q i) .nilIface:=by unfold w7 k8;rw[aV];rfl
  rw[aZ];refine dh il (aT fw gI J) ?_ ?_
  ·exact⟨⟨U,U⟩,dO⟩
  refine dL il fw ?_;refine ae.gz (yt q i) bX (aJ (I fw gI)) ?_ ?_
  ·exact⟨⟨z,hi⟩,aq,λ_ h=>h.elim⟩
  exact cC
 |rx a r=>
  obtain rfl:v=_:=oQ;have aZ:w7 q i=.b7 (yr q i) .nilIface:=by unfold w7 k8;rw[aV];rfl
  rw[aZ];refine dh il (aT fw gI J) ?_ ?_
  ·exact⟨⟨U,U⟩,dO⟩
  refine dL il fw ?_;refine ae.gz (yt q i) bX (aJ (I fw gI)) ?_ ?_
  ·exact⟨⟨z,hi⟩,aq,λ_ h=>h.elim⟩
  exact cC
 |canon c=>
  obtain⟨p,rfl,gX⟩:=oQ;have aZ:w7 q i=.b7 (yr q i) .nilIface:=by unfold w7 k8;rw[aV];rfl
  rw[aZ];refine dh il (aT fw gI J) ?_ ?_
  ·exact⟨⟨U,U⟩,dO⟩
  refine dL il fw ?_;refine ae.gz (yt q i) bX (aJ (I fw gI)) ?_ ?_
  ·exact⟨⟨z,hi⟩,aq,λ_ h=>h.elim⟩
  exact cC
 |lens c=>
  obtain⟨p,rfl,gX⟩:=oQ;have aZ:w7 q i=.ret (p) (qO q (i+1)):=by unfold w7 k8;rw[aV];simp only[aK];rfl
  rw[aZ];refine dh il (aT fw gI J) ?_ ?_
  ·exact⟨⟨U,U⟩,dO⟩
  refine gJ il fw ?_;refine aA il (I fw w0) ?_;refine aA il fw ?_;refine bf fw ?_;exact eC (b3 fw @bQ @qO.eq_1 gI)
abbrev agF (q:hJ)(i:Nat):iO Tryz.prog 162:=AP 293 (λW bs=>q.ok W (Out bs)/\i<q.us.length) Tryz.call162 λW w bs u fp ad hp H ax fi=>ax8 q i u fp w (hp.1.km ad fi) hp.2 H ax
abbrev zT (W:ar)(S:aY)(vs:aX)(v:dN):Prop:=h8 W S vs (v.map (·.2))
def sO(v:dN):List ByteArray:=v.map (·.1)
def E3(vs:aX)(v:dN):List br:=[.mp (sO v) vs]
def C6(vs:aX)(v:dN):n1->vj
 |.ok t=>.xI b5.one (zP t)
 |.error (c,a)=>.o (.b7 (jy c a) .nilIface)
theorem rD(vs:aX)(v:dN)(t:cl):C6 vs v (.ok t)=.xI b5.one (zP t):=rfl
theorem jY(vs:aX)(v:dN)(c a:Int):C6 vs v (.error (c,a))=.o (.b7 (jy c a) .nilIface):=rfl
def mF(v:dN)(x:bO):Prop:=∀(vs:aX) (e u sb:aM) (fp:aD) (w:ar) (S:aY),qm v/\zT w S vs v->dZ x/\o4 w S e x->gl w S->IT w u [sb] fp 132 (E3 vs v)->(∀b∈fp,b<w.heap.size)->(∀b∈fp,¬S b) ->
 Calls Tryz.prog 65 (#[u]++#[e]) w λdn M=>I3 w S u [sb] fp 132 (E3 vs v) dn M (C6 vs v (dk v x))
def yu(v:dN)(x:bO)(h:mF v x)(vs:aX):D9 Tryz.prog 65 where
 T:=132
 kinds:=[none]
 pre:=λfs k5 W S=>(fs=E3 vs v/\∃e,k5=[.val e]/\o4 W S e x)/\(qm v/\zT W S vs v)/\dZ x/\gl W S
 gA:=λfs k5 W S aO bz V ⟨⟨D,e,O,B⟩,⟨aU,bn⟩,cA,c1⟩=>⟨⟨D,e,O,B.mono V⟩,⟨aU,h8.mono V bn⟩,cA,c1.mono V⟩
 out:=λ_ _=>C6 vs v (dk v x)
 enters:=Tryz.call65
 ok:=by
  intro w S u xs fp us fs k5 H ax bp hu hp;obtain⟨⟨rfl,e,rfl,D⟩,O,B,aU⟩:=hp;obtain⟨sb,rfl⟩:=acm H
  match us,hu with
  |[a],hu=>obtain⟨rfl,_⟩:=hu;have:=h vs a u sb fp w S O ⟨B,D⟩ aU H ax bp;simpa using this
def XL(v:dN)(x:bO)(h:mF v x)(vs:aX)(e:aM)(W:ar)(S:aY):(yu v x h vs).pre [.mp (sO v) vs] [e] W S=(o4 W S e x/\(qm v/\zT W S vs v)/\dZ x/\gl W S):=by
 apply propext;constructor
 ·rintro⟨⟨_,dn,D,O⟩,B⟩;cases D;exact⟨O,B⟩
 ·rintro⟨O,B⟩;exact⟨⟨rfl,e,rfl,O⟩,B⟩
theorem agG(v:dN)(x:bO)(h:mF v x)(vs:aX)(fs k5:List br):(yu v x h vs).out fs k5=C6 vs v (dk v x):=rfl
theorem agH(v:dN)(x:bO)(h:mF v x)(vs:aX):(yu v x h vs).T=132:=rfl
theorem agI(v:dN)(x:bO)(h:mF v x)(vs:aX):(yu v x h vs).kinds=[none]:=rfl
theorem h7.len{W:ar}{S:aY}:∀{vs:aX} {l:bO},h7 W S false vs l->vs.length=sa l
 |[],l,h=>by cases h;rfl
 |v::vs,l,h=>by
  cases h with
  |cons _ _ x l D O=>rw[l9,sa,h7.len O]
def zU(v:dN):bO->Prop
 |.cons x l=>mF v x/\zU v l
 |_=>True
def XM(ah:List cl):Except (Int×Int) (List cl)->Except (Int×Int) (List cl)
 |.ok r=>.ok (ah++r)
 |.error e=>.error e
def zV(v:dN)(a:Nat)(w:ao)(l:bO):n1:=match qK v l with
 |.error e=>.error e
 |.ok ah=>ev a w ah (eb l)
structure XN where
 W:World
 bs:List Nat
 us:List Value
 ah:List cl
 l:bO
 k:Nat
section
variable (G:aY)(v:dN)(x:bO)(h:mF v x)(vs:aX)(q:hJ)(i:Nat)
abbrev agJ:Env Tryz.prog:=a7 ((yu v x h vs).spec G) aa
abbrev kM:Env Tryz.prog:=a7 ((agC q i).spec) (a7 ((agD q i).spec) (a7 ((agE q i).spec) (a7 ((agF q i).spec) aa)))
end
def oH.one{S:aY}{v:aM}{c:jW}(h:oH W S v c):v.oneCell'=true:=by cases h<;>rfl
def nC.one{S:aY}{v:aM}{c:k6}(h:nC W S v c):v.oneCell'=true:=by cases h<;>rfl
def Km{n:bm}(h:r8 q.ah (eb q.l) i=.ok n):C5 q i=.ret (cz n) (qO q (i+1)):=by unfold C5;rw[h];rfl
def Kn(h:r8 q.ah (eb q.l) i=.error (c,j)):C5 q i=.b7 (jy c j) .nilIface:=by unfold C5;rw[h];rfl
def N0{n:ao}(h:jF q.ah (eb q.l) i=.ok n):w5 q i=.ret (.string n) (qO q (i+1)):=by unfold w5;rw[h];rfl
def N1(h:jF q.ah (eb q.l) i=.error (c,j)):w5 q i=.b7 (jy c j) .nilIface:=by unfold w5;rw[h];rfl
def agK(h:o7 q.ah (eb q.l) i=.error (c,j)):w6 q i=.b7 (jy c j) .nilIface:=by unfold w6;rw[h];rfl
def XO(h:k8 q.ah (eb q.l) i=.error (c,j)):w7 q i=.b7 (jy c j) .nilIface:=by unfold w7;rw[h];rfl
def agL{S:aY}{c:jW}(z:q.ok W S)(h:o7 q.ah (eb q.l) i=.ok c):∃p,w6 q i=.ret p (qO q (i+1))/\oH W S p c:=by
 have bu := h;unfold o7 at h;split at h
 ·rename_i fE hi;cases h;have aN:i<q.us.length:=by
   have:=z.2.1.2.len;have:=(kC.1 hi).1;omega
  obtain⟨v,t,g1,g2,g3⟩:=h8.get z.2.1.2 aN;rw[hi]at g2;cases g2;obtain⟨p,rfl,hp⟩:=g3;refine⟨p,?_,hp⟩;unfold w6;rw[bu,mI,g1];rfl
 ·cases h
def XP{S:aY}{c:k6}(z:q.ok W S)(h:k8 q.ah (eb q.l) i=.ok c):∃p,w7 q i=.ret p (qO q (i+1))/\nC W S p c:=by
 have bu := h;unfold k8 at h;split at h
 ·rename_i fE hi;cases h;have aN:i<q.us.length:=by
   have:=z.2.1.2.len;have:=(kC.1 hi).1;omega
  obtain⟨v,t,g1,g2,g3⟩:=h8.get z.2.1.2 aN;rw[hi]at g2;cases g2;obtain⟨p,rfl,hp⟩:=g3;refine⟨p,?_,hp⟩;unfold w7;rw[bu,mI,g1];rfl
 ·cases h
def sP{cy:ar}{ck fp:aD}{S:aY}{x:ag}{v:aM}{T:a6}{h:ca}{ju:List br}(ak:∀E,den E x=v)(aK:dB cy (bw (aP w S fp) ck) v t)
  (A:h 0=some (.cells T [.ak 1])) (au:e6 h [.ak 1]=some (ju,[1])) (aE:([0,1]:aD).Nodup):acn w S fp T ju cy ck x h (.xI b5.one (zP t)):=
 ⟨⟨[v],λE=>(ak E).trans (J6 aK.au).symm,v,rfl,aK⟩,A,au⟩
def da:=(aT (ch ez @w2 @yj @XL @agG @agH @agI @rD) (ch @jY @E3.eq_1 @agC.eq_1 @agD.eq_1 @agE.eq_1 @agF.eq_1 @qO.eq_1 @po.eq_2) (b3 @lS.eq_3 @lR.eq_3 @vq @RY))
def ax9(v:dN)(a:Nat)(wd:ao)(l:bO)(aya:zU v l)(vs:aX)(bS:dj)(cp:Nat)(xs:aX)(u sb:aM)(fp:aD)(w:ar)(S:aY)(sc:qm v/\zT w S vs v)
  (aB:dZ (.call a wd l)) (sI:b0 w S bS xs) (Kd:xs.length<=cp) (NQ:h7 w S false xs l) (uE:gl w S) (H:IT w u [sb] fp 132 (E3 vs v)) (ax:∀b∈fp,b<w.heap.size) (bp:∀b∈fp,¬S b) :
  Calls Tryz.prog 105 (#[u]++#[.agg #[.int .i64 (a:Nat),.string wd,.slice bS xs.length cp]]) w λdn M=>I3 w S u [sb] fp 132 (E3 vs v) dn M (C6 vs v (zV v a wd l)):=by
 have cf:=aP.up w S fp;have kc:=aP.ep w S fp bp;simp only[dZ]at aB;obtain⟨bD,cq,du,xX,C7⟩:=aB;have aaj:xs.length<=3:=by have:=Xf wd;have:=NQ.len;omega
 refine Ea (nt:=135) S [.tmp 4] H ax Tryz.func105 ?_;refine ti aa da ?_;generalize dW:qK v l=R
 refine ae.q4 (λp:XN=>⟨30,bK [(0,.is (.own 0 0)),(3,.is (.own 4 0)),(4,.is (.v .nilIface)),(5,.is (.own 5 0)),(14,.is (.v (.slice bS xs.length cp))),(15,xs.length),(16,p.k)],bA [(0,.cells 132 [.ak 1]),(1,.mp (sO v) (vs.map .v)),(4,.cells 219 [a,wd,.v (.slice bS xs.length cp)]),(5,.cells 293 [a,wd,.v (.slice bS xs.length cp),.ak 6,(0:Int)]),(6,.row 54 1 p.us.length (p.us.map .v))]⟩)
  XN.W XN.bs (λp=>(gl p.W (bw (aP w S fp) p.bs)/\zT p.W (bw (aP w S fp) p.bs) vs v/\b0 p.W (bw (aP w S fp) p.bs) bS xs)/\(h7 p.W (bw (aP w S fp) p.bs) false xs l/\h7 p.W (bw (aP w S fp) p.bs) false (xs.drop p.k) p.l/\dZ p.l/\zU v p.l)/\(h8 p.W (bw (aP w S fp) p.bs) p.us p.ah/\p.us.length=p.k/\p.k<=xs.length)/\XM p.ah (qK v p.l)=R) (λp=>xs.length-p.k) ⟨w,fp,[],[],l,0⟩ rfl rfl ?_ ⟨⟨uE.mono kc,h8.mono kc sc.2,sI.mono kc⟩,⟨NQ.mono kc,NQ.mono kc,C7,aya⟩,⟨trivial,rfl,ef _⟩,by rw[dW];cases R<;>rfl⟩ ?_
 ·exact b8 (λk=>if k=4 then .key 8 else if k=5 then .key 40 else if k=6 then .nil else .key k) (I da @gq)
 rintro⟨cy,ck,us,ah,mP,k⟩ ⟨⟨bg,dE,s1⟩,⟨g0,g1,g2,g3⟩,⟨m1,m2,m3⟩,cu⟩ bD;simp only at bg dE s1 g0 g1 g2 g3 m1 m2 m3 cu bD;dsimp only;have cT:=cf.ext bD;refine bk aa da ?_;refine bC da ?_ ?_<;>intro J
 ·have gN:k<xs.length:=bt J
  clear J;have dM:=fK k;obtain⟨y,cG⟩:∃y,xs[k]?=some y:=⟨_,uS gN⟩;have Ko:xs.drop k=y::xs.drop (k+1):=by rw[Dw gN];rw[uS gN]at cG;rw[qZ cG]
  rw[Ko]at g1;obtain⟨b,o,rfl,Z,ayb⟩:=b0.cell s1 cG;cases g1 with
  |cons _ _ x lT hl ayc=>
  simp only[dZ]at g2;obtain⟨agM,ayd⟩:=g2;obtain⟨agN,aye⟩:=g3;rw[qK]at cu;refine a1 ?_;refine ae.seq (ae.block ?_);refine aL aa (I da ayb) ?_ ?_
  ·exact⟨⟨U,U⟩,Z.2⟩
  cases bo:dk v x with
  |error e=>
   obtain⟨c,j⟩:=e;rw[bo]at cu;have aZ:zV v a wd l=.error (c,j):=by unfold zV;rw[dW,<- cu];rfl
   rw[aZ,jY];refine ae.xC (agJ (aP w S fp) v x agN vs) bX (aJ (aT da bo hl.parts)) rfl (by kernel_rfl) ?_ ?_
   ·exact⟨⟨⟨hl,⟨sc.1,dE⟩,agM,bg⟩,aq,λ_ h=>h.elim⟩,by unfold maxLen;omega,U⟩
   exact cC
  |ok t=>
   rw[bo]at cu;refine ae.more ?_;refine iP (agJ (aP w S fp) v x agN vs) (aT da bo hl.parts) ?_ ?_
   ·exact⟨⟨⟨hl,⟨sc.1,dE⟩,agM,bg⟩,aq,(λ_ h=>h.elim),cT⟩,by unfold maxLen;omega,U⟩
   refine pw ?_;refine eZ.dt 335 (aJ da) (bT.refl _ _) λe0 eu cs du e1=>?_
   obtain⟨v3,rfl,mR,mS⟩:=HG e1;refine eZ.here ?_;refine kG ?_;refine bY aa (I da dM) ?_;have em:List.map ag.v us++[.v v3]=List.map ag.v (us++[v3]):=by simp
   have el:(us++[v3]).length=us.length+1:=by simp
   refine⟨⟨e0,eu,us++[v3],ah++[t],lT,k+1⟩,⟨⟨bg.mono du.cc,h8.mono du.cc dE,s1.mono du.cc⟩,⟨g0.mono du.cc,ayc.mono du.cc,ayd,aye⟩,⟨h8.snoc mR (h8.mono du.cc m1),by dsimp only;omega,by dsimp only;omega⟩,?_⟩,by dsimp only;omega,rfl,rfl,?_⟩
   ·rw[<- cu];cases qK v lT with
    |error e=>rfl
    |ok r=>simp[XM]
   exact b8 (λk=>if k=6 then .key 344 else .key k) (b3 da mS em el)
 ·have Ht:k=xs.length:=bt J
  refine c6 ?_;subst Ht;rw[OZ]at g1;cases g1;have kd:qK v l=.ok ah:=by rw[dW,<- cu];simp[qK,XM]
  have aZ:zV v a wd l=ev a wd ah (eb l):=by unfold zV;rw[kd]
  rw[aZ];obtain⟨kD,aEr⟩:=agw sc.1 C7 kd;refine ae.rQ 6 (aJ (I da @gr)) (λE=>by simp only[ba,den,gr];exact rfl) λcL c7 dx c2 cq rP sD=>?_
  have eO:=cT.ext cq;have ayf:b0 cL (bw (aP w S fp) c7) dx us:=rP.out λb Z=>⟨cT b Z.2,Z.1⟩
  have z:(hJ.mk a wd bS cp xs l dx c2 us ah).ok cL (bw (aP w S fp) c7):=⟨⟨s1.mono cq.cc,g0.mono cq.cc⟩,⟨ayf,h8.mono cq.cc m1⟩,⟨by dsimp only;omega,by dsimp only;omega,sD,by dsimp only;omega⟩,kD⟩;obtain⟨Q,hQ⟩:∃Q,Q=hJ.mk a wd bS cp xs l dx c2 us ah:=⟨_,rfl⟩
  have kN:(hJ.mk a wd bS cp xs l dx c2 us ah).ok cL (Out c7):=z.mono λb _ Z=>⟨rfl,Z.2⟩
  have p4:us.length=(ed wd).toNat:=by have:=g0.len;omega
  clear hQ Q;refine lv aa da ?_;refine lv aa da ?_;refine Je aa da ?_;refine aR aa da ?_ ?_<;>intro J
  ·have C8:=J;have H:wd=jE:=jG J;have qM:wd=jE\/wd=ke:=.inl H;refine a1 ?_;refine bC da ?_ ?_<;>intro J
   rotate_left
   ·rw[C8]at J;cases J
   refine c6 ?_;refine ae.seq ?_;have p4:us.length=1:=by rw[p4,H];decide
   cases ei:r8 ah (eb l) 0 with
   |error e=>
    obtain⟨c,j⟩:=e;have fm:ev a wd ah (eb l)=.error (c,j):=by rw[ev,al qM];simp only[cI,ei]
    rw[fm,jY];have cg:=Kn (q:=⟨a,wd,bS,cp,xs,l,dx,c2,us,ah⟩) ei;refine ae.PN (kM ⟨a,wd,bS,cp,xs,l,dx,c2,us,ah⟩ 0) bX (aJ (aT da cg @gq)) rfl (by kernel_rfl) ?_ ?_
    ·exact⟨⟨kN,by show 0<us.length;omega⟩,aq,λ_ h=>h.elim⟩
    exact cC
   |ok ek=>
    have cg:=Km (q:=⟨a,wd,bS,cp,xs,l,dx,c2,us,ah⟩) ei;refine dh (kM ⟨a,wd,bS,cp,xs,l,dx,c2,us,ah⟩ 0) (aT da cg @gq) ?_ ?_
    ·have aS:(hJ.ok ⟨a,wd,bS,cp,xs,l,dx,c2,us,ah⟩) cL (Out c7)/\0<us.length:=⟨kN,U⟩
     first|exact⟨aS,aq,λ_ h=>h.elim⟩|exact⟨⟨aS,aq,λ_ h=>h.elim⟩,iR ek⟩
    clear cg;have fm:ev a wd ah (eb l)=.ok (.canon (.mk a wd (some ek) ⟨#[]⟩ ⟨#[]⟩ .nil .nil)):=by rw[ev,al qM];simp only[cI,ei]
    rw[fm,rD];refine ae.jt 392 (aJ da) (λE=>by simp only[ba,den];exact rfl) λe0 eu eX du nu nv nw=>?_
    refine bf da ?_;have Z:bw (aP w S fp) eu eX:=⟨eO eX nv,nu⟩;exact sP (λE=>rfl) ⟨_,rfl,Ki (n:=some ek) Z nw .nil .nil⟩ rfl ((kX (de da @bQ @lS.eq_3 rR @po.eq_2))) aq
  have ayg:¬wd=jE:=jH J;refine bY aa da ?_;refine bC da ?_ ?_<;>intro J
  ·have H:wd=ke:=jG J;have qM:wd=jE\/wd=ke:=.inr H;refine c6 ?_;refine ae.seq ?_;have p4:us.length=1:=by rw[p4,H];decide
   cases ei:r8 ah (eb l) 0 with
   |error e=>
    obtain⟨c,j⟩:=e;have fm:ev a wd ah (eb l)=.error (c,j):=by rw[ev,al qM];simp only[cI,ei]
    rw[fm,jY];have cg:=Kn (q:=⟨a,wd,bS,cp,xs,l,dx,c2,us,ah⟩) ei;refine ae.PN (kM ⟨a,wd,bS,cp,xs,l,dx,c2,us,ah⟩ 0) bX (aJ (aT da cg @gq)) rfl (by kernel_rfl) ?_ ?_
    ·exact⟨⟨kN,by show 0<us.length;omega⟩,aq,λ_ h=>h.elim⟩
    exact cC
   |ok ek=>
    have cg:=Km (q:=⟨a,wd,bS,cp,xs,l,dx,c2,us,ah⟩) ei;refine dh (kM ⟨a,wd,bS,cp,xs,l,dx,c2,us,ah⟩ 0) (aT da cg @gq) ?_ ?_
    ·have aS:(hJ.ok ⟨a,wd,bS,cp,xs,l,dx,c2,us,ah⟩) cL (Out c7)/\0<us.length:=⟨kN,U⟩
     first|exact⟨aS,aq,λ_ h=>h.elim⟩|exact⟨⟨aS,aq,λ_ h=>h.elim⟩,iR ek⟩
    clear cg;have fm:ev a wd ah (eb l)=.ok (.canon (.mk a wd (some ek) ⟨#[]⟩ ⟨#[]⟩ .nil .nil)):=by rw[ev,al qM];simp only[cI,ei]
    rw[fm,rD];refine ae.jt 408 (aJ da) (λE=>by simp only[ba,den];exact rfl) λe0 eu eX du nu nv nw=>?_
    refine bf da ?_;have Z:bw (aP w S fp) eu eX:=⟨eO eX nv,nu⟩;exact sP (λE=>rfl) ⟨_,rfl,Ki (n:=some ek) Z nw .nil .nil⟩ rfl ((kX (de da @bQ @lS.eq_3 rR @po.eq_2))) aq
  have oI:¬(wd=jE\/wd=ke):=λh=>h.elim ayg (jH J)
  refine a1 ?_;refine ae.seq ?_;refine aR aa da ?_ ?_<;>intro J
  ·have H:wd=fB:=jG J;refine c6 ?_;refine ae.seq ?_;have p4:us.length=3:=by rw[p4,H];decide
   cases ei:r8 ah (eb l) 0 with
   |error e=>
    obtain⟨c,j⟩:=e;have fm:ev a wd ah (eb l)=.error (c,j):=by rw[ev,ab oI,al H];simp only[cI,ei]
    rw[fm,jY];have cg:=Kn (q:=⟨a,wd,bS,cp,xs,l,dx,c2,us,ah⟩) ei;refine ae.PN (kM ⟨a,wd,bS,cp,xs,l,dx,c2,us,ah⟩ 0) bX (aJ (aT da cg @gq)) rfl (by kernel_rfl) ?_ ?_
    ·exact⟨⟨kN,by show 0<us.length;omega⟩,aq,λ_ h=>h.elim⟩
    exact cC
   |ok ek=>
    have cg:=Km (q:=⟨a,wd,bS,cp,xs,l,dx,c2,us,ah⟩) ei;refine dh (kM ⟨a,wd,bS,cp,xs,l,dx,c2,us,ah⟩ 0) (aT da cg @gq) ?_ ?_
    ·have aS:(hJ.ok ⟨a,wd,bS,cp,xs,l,dx,c2,us,ah⟩) cL (Out c7)/\0<us.length:=⟨kN,U⟩
     first|exact⟨aS,aq,λ_ h=>h.elim⟩|exact⟨⟨aS,aq,λ_ h=>h.elim⟩,iR ek⟩
    clear cg;cases fP:jF ah (eb l) 1 with
    |error e=>
     obtain⟨c,j⟩:=e;have fm:ev a wd ah (eb l)=.error (c,j):=by rw[ev,ab oI,al H];simp only[cI,ei,fP]
     rw[fm,jY];have cg:=N1 (q:=⟨a,wd,bS,cp,xs,l,dx,c2,us,ah⟩) fP;refine ae.fe (kM ⟨a,wd,bS,cp,xs,l,dx,c2,us,ah⟩ 1) bX (aJ (aT da cg @gq)) ?_ ?_
     ·exact⟨⟨kN,by show 1<us.length;omega⟩,aq,λ_ h=>h.elim⟩
     exact cC
    |ok dE=>
     have cg:=N0 (q:=⟨a,wd,bS,cp,xs,l,dx,c2,us,ah⟩) fP;refine aL (kM ⟨a,wd,bS,cp,xs,l,dx,c2,us,ah⟩ 1) (aT da cg @gq) ?_ ?_
     ·have aS:(hJ.ok ⟨a,wd,bS,cp,xs,l,dx,c2,us,ah⟩) cL (Out c7)/\1<us.length:=⟨kN,U⟩
      first|exact⟨aS,aq,λ_ h=>h.elim⟩|exact⟨⟨aS,aq,λ_ h=>h.elim⟩,rfl⟩
     clear cg;cases wQ:jF ah (eb l) 2 with
     |error e=>
      obtain⟨c,j⟩:=e;have fm:ev a wd ah (eb l)=.error (c,j):=by rw[ev,ab oI,al H];simp only[cI,ei,fP,wQ]
      rw[fm,jY];have cg:=N1 (q:=⟨a,wd,bS,cp,xs,l,dx,c2,us,ah⟩) wQ;refine ae.fe (kM ⟨a,wd,bS,cp,xs,l,dx,c2,us,ah⟩ 2) bX (aJ (aT da cg @gq)) ?_ ?_
      ·exact⟨⟨kN,by show 2<us.length;omega⟩,aq,λ_ h=>h.elim⟩
      exact cC
     |ok eY=>
      have cg:=N0 (q:=⟨a,wd,bS,cp,xs,l,dx,c2,us,ah⟩) wQ;refine aL (kM ⟨a,wd,bS,cp,xs,l,dx,c2,us,ah⟩ 2) (aT da cg @gq) ?_ ?_
      ·have aS:(hJ.ok ⟨a,wd,bS,cp,xs,l,dx,c2,us,ah⟩) cL (Out c7)/\2<us.length:=⟨kN,U⟩
       first|exact⟨aS,aq,λ_ h=>h.elim⟩|exact⟨⟨aS,aq,λ_ h=>h.elim⟩,rfl⟩
      clear cg;have fm:ev a wd ah (eb l)=.ok (.canon (.mk a wd (some ek) dE eY .nil .nil)):=by rw[ev,ab oI,al H];simp only[cI,ei,fP,wQ]
      rw[fm,rD];refine aA aa da ?_;refine ae.jt 424 (aJ da) (λE=>by simp only[ba,den];exact rfl) λe0 eu eX du nu nv nw=>?_
      refine bf da ?_;have Z:bw (aP w S fp) eu eX:=⟨eO eX nv,nu⟩;exact sP (λE=>rfl) ⟨_,rfl,Ki (n:=some ek) Z nw .nil .nil⟩ rfl ((kX (de da @bQ @lS.eq_3 rR @po.eq_2))) aq
  have rE:¬wd=fB:=jH J;refine a1 ?_;refine ae.seq ?_;refine aR aa da ?_ ?_<;>intro J
  ·have H:wd=nz:=jG J;refine c6 ?_;have p4:us.length=2:=by rw[p4,H];decide
   cases ei:r8 ah (eb l) 0 with
   |error e=>
    obtain⟨c,j⟩:=e;have fm:ev a wd ah (eb l)=.error (c,j):=by rw[ev,ab oI,ab rE,al H];simp only[cI,ei]
    rw[fm,jY];have cg:=Kn (q:=⟨a,wd,bS,cp,xs,l,dx,c2,us,ah⟩) ei;refine ae.gz (kM ⟨a,wd,bS,cp,xs,l,dx,c2,us,ah⟩ 0) bX (aJ (aT da cg @gq)) ?_ ?_
    ·exact⟨⟨kN,by show 0<us.length;omega⟩,aq,λ_ h=>h.elim⟩
    exact cC
   |ok ek=>
    have cg:=Km (q:=⟨a,wd,bS,cp,xs,l,dx,c2,us,ah⟩) ei;refine wr (kM ⟨a,wd,bS,cp,xs,l,dx,c2,us,ah⟩ 0) (aT da cg @gq) ?_ ?_
    ·have aS:(hJ.ok ⟨a,wd,bS,cp,xs,l,dx,c2,us,ah⟩) cL (Out c7)/\0<us.length:=⟨kN,U⟩
     first|exact⟨aS,aq,λ_ h=>h.elim⟩|exact⟨⟨aS,aq,λ_ h=>h.elim⟩,iR ek⟩
    clear cg;cases fP:jF ah (eb l) 1 with
    |error e=>
     obtain⟨c,j⟩:=e;have fm:ev a wd ah (eb l)=.error (c,j):=by rw[ev,ab oI,ab rE,al H];simp only[cI,ei,fP]
     rw[fm,jY];have cg:=N1 (q:=⟨a,wd,bS,cp,xs,l,dx,c2,us,ah⟩) fP;refine ae.fe (kM ⟨a,wd,bS,cp,xs,l,dx,c2,us,ah⟩ 1) bX (aJ (aT da cg @gq)) ?_ ?_
     ·exact⟨⟨kN,by show 1<us.length;omega⟩,aq,λ_ h=>h.elim⟩
     exact cC
    |ok dE=>
     have cg:=N0 (q:=⟨a,wd,bS,cp,xs,l,dx,c2,us,ah⟩) fP;refine aL (kM ⟨a,wd,bS,cp,xs,l,dx,c2,us,ah⟩ 1) (aT da cg @gq) ?_ ?_
     ·have aS:(hJ.ok ⟨a,wd,bS,cp,xs,l,dx,c2,us,ah⟩) cL (Out c7)/\1<us.length:=⟨kN,U⟩
      first|exact⟨aS,aq,λ_ h=>h.elim⟩|exact⟨⟨aS,aq,λ_ h=>h.elim⟩,rfl⟩
     refine c6 ?_;clear cg;have fm:ev a wd ah (eb l)=.ok (.lens (.mk a wd (some ek) dE .nil .nil .nil)):=by rw[ev,ab oI,ab rE,al H];simp only[cI,ei,fP]
     rw[fm,rD];refine aA aa da ?_;refine ae.jt 288 (aJ da) (λE=>by simp only[ba,den];exact rfl) λe0 eu eX du nu nv nw=>?_
     refine bf da ?_;have Z:bw (aP w S fp) eu eX:=⟨eO eX nv,nu⟩;exact sP (λE=>rfl) ⟨_,rfl,sN (n:=some ek) Z nw .nil .nil .nil⟩ rfl ((kX (de da @bQ @lS.eq_3 rR @po.eq_2))) aq
  have tB:¬wd=nz:=jH J;refine a1 ?_;refine ae.seq ?_;refine aR aa da ?_ ?_<;>intro J
  ·have H:wd=fX:=jG J;refine c6 ?_;have p4:us.length=1:=by rw[p4,H];decide
   cases ei:jF ah (eb l) 0 with
   |error e=>
    obtain⟨c,j⟩:=e;have fm:ev a wd ah (eb l)=.error (c,j):=by rw[ev,ab oI,ab rE,ab tB,al H];simp only[cI,ei]
    rw[fm,jY];have cg:=N1 (q:=⟨a,wd,bS,cp,xs,l,dx,c2,us,ah⟩) ei;refine ae.fe (kM ⟨a,wd,bS,cp,xs,l,dx,c2,us,ah⟩ 0) bX (aJ (aT da cg @gq)) ?_ ?_
    ·exact⟨⟨kN,by show 0<us.length;omega⟩,aq,λ_ h=>h.elim⟩
    exact cC
   |ok ek=>
    have cg:=N0 (q:=⟨a,wd,bS,cp,xs,l,dx,c2,us,ah⟩) ei;refine aL (kM ⟨a,wd,bS,cp,xs,l,dx,c2,us,ah⟩ 0) (aT da cg @gq) ?_ ?_
    ·have aS:(hJ.ok ⟨a,wd,bS,cp,xs,l,dx,c2,us,ah⟩) cL (Out c7)/\0<us.length:=⟨kN,U⟩
     first|exact⟨aS,aq,λ_ h=>h.elim⟩|exact⟨⟨aS,aq,λ_ h=>h.elim⟩,rfl⟩
    refine c6 ?_;clear cg;have fm:ev a wd ah (eb l)=.ok (.lens (.mk a wd none ek .nil .nil .nil)):=by rw[ev,ab oI,ab rE,ab tB,al H];simp only[cI,ei]
    rw[fm,rD];refine aA aa da ?_;refine ae.jt 288 (aJ da) (λE=>by simp only[ba,den];exact rfl) λe0 eu eX du nu nv nw=>?_
    refine bf da ?_;have Z:bw (aP w S fp) eu eX:=⟨eO eX nv,nu⟩;exact sP (λE=>rfl) ⟨_,rfl,sN (n:=none) Z nw .nil .nil .nil⟩ rfl ((kX (de da @bQ @lS.eq_3 rR @po.eq_2))) aq
  have vQ:¬wd=fX:=jH J;refine a1 ?_;refine ae.seq ?_;refine ae.seq ?_;refine aR aa da ?_ ?_<;>intro J
  ·have C8:=J;have H:wd=iX:=jG J;have qM:wd=iX\/wd=nZ:=.inl H;refine a1 ?_;refine bC da ?_ ?_<;>intro J
   rotate_left
   ·rw[C8]at J;cases J
   refine c6 ?_;have p4:us.length=1:=by rw[p4,H];decide
   cases ei:r8 ah (eb l) 0 with
   |error e=>
    obtain⟨c,j⟩:=e;have fm:ev a wd ah (eb l)=.error (c,j):=by rw[ev,ab oI,ab rE,ab tB,ab vQ,al qM];simp only[cI,ei]
    rw[fm,jY];have cg:=Kn (q:=⟨a,wd,bS,cp,xs,l,dx,c2,us,ah⟩) ei;refine ae.fe (kM ⟨a,wd,bS,cp,xs,l,dx,c2,us,ah⟩ 0) bX (aJ (aT da cg @gq)) ?_ ?_
    ·exact⟨⟨kN,by show 0<us.length;omega⟩,aq,λ_ h=>h.elim⟩
    exact cC
   |ok ek=>
    have cg:=Km (q:=⟨a,wd,bS,cp,xs,l,dx,c2,us,ah⟩) ei;refine aL (kM ⟨a,wd,bS,cp,xs,l,dx,c2,us,ah⟩ 0) (aT da cg @gq) ?_ ?_
    ·have aS:(hJ.ok ⟨a,wd,bS,cp,xs,l,dx,c2,us,ah⟩) cL (Out c7)/\0<us.length:=⟨kN,U⟩
     first|exact⟨aS,aq,λ_ h=>h.elim⟩|exact⟨⟨aS,aq,λ_ h=>h.elim⟩,iR ek⟩
    refine c6 ?_;clear cg;have fm:ev a wd ah (eb l)=.ok (.lens (.mk a wd (some ek) ⟨#[]⟩ .nil .nil .nil)):=by rw[ev,ab oI,ab rE,ab tB,ab vQ,al qM];simp only[cI,ei]
    rw[fm,rD];refine aA aa da ?_;refine ae.jt 288 (aJ da) (λE=>by simp only[ba,den];exact rfl) λe0 eu eX du nu nv nw=>?_
    refine bf da ?_;have Z:bw (aP w S fp) eu eX:=⟨eO eX nv,nu⟩;exact sP (λE=>rfl) ⟨_,rfl,sN (n:=some ek) Z nw .nil .nil .nil⟩ rfl ((kX (de da @bQ @lS.eq_3 rR @po.eq_2))) aq
  have ayh:¬wd=iX:=jH J;refine bY aa da ?_;refine bC da ?_ ?_<;>intro J
  ·have H:wd=nZ:=jG J;have qM:wd=iX\/wd=nZ:=.inr H;refine c6 ?_;have p4:us.length=1:=by rw[p4,H];decide
   cases ei:r8 ah (eb l) 0 with
   |error e=>
    obtain⟨c,j⟩:=e;have fm:ev a wd ah (eb l)=.error (c,j):=by rw[ev,ab oI,ab rE,ab tB,ab vQ,al qM];simp only[cI,ei]
    rw[fm,jY];have cg:=Kn (q:=⟨a,wd,bS,cp,xs,l,dx,c2,us,ah⟩) ei;refine ae.fe (kM ⟨a,wd,bS,cp,xs,l,dx,c2,us,ah⟩ 0) bX (aJ (aT da cg @gq)) ?_ ?_
    ·exact⟨⟨kN,by show 0<us.length;omega⟩,aq,λ_ h=>h.elim⟩
    exact cC
   |ok ek=>
    have cg:=Km (q:=⟨a,wd,bS,cp,xs,l,dx,c2,us,ah⟩) ei;refine aL (kM ⟨a,wd,bS,cp,xs,l,dx,c2,us,ah⟩ 0) (aT da cg @gq) ?_ ?_
    ·have aS:(hJ.ok ⟨a,wd,bS,cp,xs,l,dx,c2,us,ah⟩) cL (Out c7)/\0<us.length:=⟨kN,U⟩
     first|exact⟨aS,aq,λ_ h=>h.elim⟩|exact⟨⟨aS,aq,λ_ h=>h.elim⟩,iR ek⟩
    refine c6 ?_;clear cg;have fm:ev a wd ah (eb l)=.ok (.lens (.mk a wd (some ek) ⟨#[]⟩ .nil .nil .nil)):=by rw[ev,ab oI,ab rE,ab tB,ab vQ,al qM];simp only[cI,ei]
    rw[fm,rD];refine aA aa da ?_;refine ae.jt 288 (aJ da) (λE=>by simp only[ba,den];exact rfl) λe0 eu eX du nu nv nw=>?_
    refine bf da ?_;have Z:bw (aP w S fp) eu eX:=⟨eO eX nv,nu⟩;exact sP (λE=>rfl) ⟨_,rfl,sN (n:=some ek) Z nw .nil .nil .nil⟩ rfl ((kX (de da @bQ @lS.eq_3 rR @po.eq_2))) aq
  have zW:¬(wd=iX\/wd=nZ):=λh=>h.elim ayh (jH J)
  refine a1 ?_;refine ae.seq ?_;refine aR aa da ?_ ?_<;>intro J
  ·have H:wd=mZ:=jG J;refine c6 ?_;refine ae.seq ?_;have p4:us.length=2:=by rw[p4,H];decide
   cases ei:o7 ah (eb l) 0 with
   |error e=>
    obtain⟨c,j⟩:=e;have fm:ev a wd ah (eb l)=.error (c,j):=by rw[ev,ab oI,ab rE,ab tB,ab vQ,ab zW,al H];simp only[cI,ei]
    rw[fm,jY];have cg:=agK (q:=⟨a,wd,bS,cp,xs,l,dx,c2,us,ah⟩) ei;refine ae.fe (kM ⟨a,wd,bS,cp,xs,l,dx,c2,us,ah⟩ 0) bX (aJ (aT da cg @gq)) ?_ ?_
    ·exact⟨⟨kN,by show 0<us.length;omega⟩,aq,λ_ h=>h.elim⟩
    exact cC
   |ok ek=>
    obtain⟨j5,cg,zX⟩:=agL (q:=⟨a,wd,bS,cp,xs,l,dx,c2,us,ah⟩) z ei;refine aL (kM ⟨a,wd,bS,cp,xs,l,dx,c2,us,ah⟩ 0) (b3 da cg zX.parts @gq) ?_ ?_
    ·have aS:(hJ.ok ⟨a,wd,bS,cp,xs,l,dx,c2,us,ah⟩) cL (Out c7)/\0<us.length:=⟨kN,U⟩
     first|exact⟨aS,aq,λ_ h=>h.elim⟩|exact⟨⟨aS,aq,λ_ h=>h.elim⟩,zX.one⟩
    clear cg;cases fP:k8 ah (eb l) 1 with
    |error e=>
     obtain⟨c,j⟩:=e;have fm:ev a wd ah (eb l)=.error (c,j):=by rw[ev,ab oI,ab rE,ab tB,ab vQ,ab zW,al H];simp only[cI,ei,fP]
     rw[fm,jY];have cg:=XO (q:=⟨a,wd,bS,cp,xs,l,dx,c2,us,ah⟩) fP;refine ae.gz (kM ⟨a,wd,bS,cp,xs,l,dx,c2,us,ah⟩ 1) bX (aJ (aT da cg @gq)) ?_ ?_
     ·exact⟨⟨kN,by show 1<us.length;omega⟩,aq,λ_ h=>h.elim⟩
     exact cC
    |ok dE=>
     obtain⟨qe,cg,r6⟩:=XP (q:=⟨a,wd,bS,cp,xs,l,dx,c2,us,ah⟩) z fP;refine wr (kM ⟨a,wd,bS,cp,xs,l,dx,c2,us,ah⟩ 1) (b3 da cg r6.parts @gq) ?_ ?_
     ·have aS:(hJ.ok ⟨a,wd,bS,cp,xs,l,dx,c2,us,ah⟩) cL (Out c7)/\1<us.length:=⟨kN,U⟩
      first|exact⟨aS,aq,λ_ h=>h.elim⟩|exact⟨⟨aS,aq,λ_ h=>h.elim⟩,r6.one⟩
     refine c6 ?_;clear cg;have fm:ev a wd ah (eb l)=.ok (.lens (.mk a wd none ⟨#[]⟩ ek dE .nil)):=by rw[ev,ab oI,ab rE,ab tB,ab vQ,ab zW,al H];simp only[cI,ei,fP]
     rw[fm,rD];refine aA aa da ?_;refine ae.jt 288 (aJ da) (λE=>by simp only[ba,den];exact rfl) λe0 eu eX du nu nv nw=>?_
     refine bf da ?_;have Z:bw (aP w S fp) eu eX:=⟨eO eX nv,nu⟩;exact sP (λE=>rfl) ⟨_,rfl,sN (n:=none) Z nw (zX.mono du.cc) (r6.mono du.cc) .nil⟩ rfl ((kX (de da @bQ @lS.eq_3 rR @po.eq_2))) aq
  have HL:¬wd=mZ:=jH J;refine a1 ?_;refine ae.seq ?_;refine aR aa da ?_ ?_<;>intro J
  ·have H:wd=na:=jG J;refine c6 ?_;refine ae.seq ?_;have p4:us.length=2:=by rw[p4,H];decide
   cases ei:k8 ah (eb l) 0 with
   |error e=>
    obtain⟨c,j⟩:=e;have fm:ev a wd ah (eb l)=.error (c,j):=by rw[ev,ab oI,ab rE,ab tB,ab vQ,ab zW,ab HL,al H];simp only[cI,ei]
    rw[fm,jY];have cg:=XO (q:=⟨a,wd,bS,cp,xs,l,dx,c2,us,ah⟩) ei;refine ae.fe (kM ⟨a,wd,bS,cp,xs,l,dx,c2,us,ah⟩ 0) bX (aJ (aT da cg @gq)) ?_ ?_
    ·exact⟨⟨kN,by show 0<us.length;omega⟩,aq,λ_ h=>h.elim⟩
    exact cC
   |ok ek=>
    obtain⟨j5,cg,zX⟩:=XP (q:=⟨a,wd,bS,cp,xs,l,dx,c2,us,ah⟩) z ei;refine aL (kM ⟨a,wd,bS,cp,xs,l,dx,c2,us,ah⟩ 0) (b3 da cg zX.parts @gq) ?_ ?_
    ·have aS:(hJ.ok ⟨a,wd,bS,cp,xs,l,dx,c2,us,ah⟩) cL (Out c7)/\0<us.length:=⟨kN,U⟩
     first|exact⟨aS,aq,λ_ h=>h.elim⟩|exact⟨⟨aS,aq,λ_ h=>h.elim⟩,zX.one⟩
    clear cg;cases fP:o7 ah (eb l) 1 with
    |error e=>
     obtain⟨c,j⟩:=e;have fm:ev a wd ah (eb l)=.error (c,j):=by rw[ev,ab oI,ab rE,ab tB,ab vQ,ab zW,ab HL,al H];simp only[cI,ei,fP]
     rw[fm,jY];have cg:=agK (q:=⟨a,wd,bS,cp,xs,l,dx,c2,us,ah⟩) fP;refine ae.gz (kM ⟨a,wd,bS,cp,xs,l,dx,c2,us,ah⟩ 1) bX (aJ (aT da cg @gq)) ?_ ?_
     ·exact⟨⟨kN,by show 1<us.length;omega⟩,aq,λ_ h=>h.elim⟩
     exact cC
    |ok dE=>
     obtain⟨qe,cg,r6⟩:=agL (q:=⟨a,wd,bS,cp,xs,l,dx,c2,us,ah⟩) z fP;refine wr (kM ⟨a,wd,bS,cp,xs,l,dx,c2,us,ah⟩ 1) (b3 da cg r6.parts @gq) ?_ ?_
     ·have aS:(hJ.ok ⟨a,wd,bS,cp,xs,l,dx,c2,us,ah⟩) cL (Out c7)/\1<us.length:=⟨kN,U⟩
      first|exact⟨aS,aq,λ_ h=>h.elim⟩|exact⟨⟨aS,aq,λ_ h=>h.elim⟩,r6.one⟩
     refine c6 ?_;clear cg;have fm:ev a wd ah (eb l)=.ok (.lens (.mk a wd none ⟨#[]⟩ dE ek .nil)):=by rw[ev,ab oI,ab rE,ab tB,ab vQ,ab zW,ab HL,al H];simp only[cI,ei,fP]
     rw[fm,rD];refine aA aa da ?_;refine ae.jt 288 (aJ da) (λE=>by simp only[ba,den];exact rfl) λe0 eu eX du nu nv nw=>?_
     refine bf da ?_;have Z:bw (aP w S fp) eu eX:=⟨eO eX nv,nu⟩;exact sP (λE=>rfl) ⟨_,rfl,sN (n:=none) Z nw (r6.mono du.cc) (zX.mono du.cc) .nil⟩ rfl ((kX (de da @bQ @lS.eq_3 rR @po.eq_2))) aq
  have R5:¬wd=na:=jH J;refine a1 ?_;refine aR aa da ?_ ?_<;>intro J
  ·have H:wd=nB:=jG J;refine c6 ?_;refine ae.seq ?_;have p4:us.length=2:=by rw[p4,H];decide
   cases ei:k8 ah (eb l) 0 with
   |error e=>
    obtain⟨c,j⟩:=e;have fm:ev a wd ah (eb l)=.error (c,j):=by rw[ev,ab oI,ab rE,ab tB,ab vQ,ab zW,ab HL,ab R5,al H];simp only[cI,ei]
    rw[fm,jY];have cg:=XO (q:=⟨a,wd,bS,cp,xs,l,dx,c2,us,ah⟩) ei;refine ae.fe (kM ⟨a,wd,bS,cp,xs,l,dx,c2,us,ah⟩ 0) bX (aJ (aT da cg @gq)) ?_ ?_
    ·exact⟨⟨kN,by show 0<us.length;omega⟩,aq,λ_ h=>h.elim⟩
    exact cC
   |ok ek=>
    obtain⟨j5,cg,zX⟩:=XP (q:=⟨a,wd,bS,cp,xs,l,dx,c2,us,ah⟩) z ei;refine aL (kM ⟨a,wd,bS,cp,xs,l,dx,c2,us,ah⟩ 0) (b3 da cg zX.parts @gq) ?_ ?_
    ·have aS:(hJ.ok ⟨a,wd,bS,cp,xs,l,dx,c2,us,ah⟩) cL (Out c7)/\0<us.length:=⟨kN,U⟩
     first|exact⟨aS,aq,λ_ h=>h.elim⟩|exact⟨⟨aS,aq,λ_ h=>h.elim⟩,zX.one⟩
    clear cg;cases fP:jF ah (eb l) 1 with
    |error e=>
     obtain⟨c,j⟩:=e;have fm:ev a wd ah (eb l)=.error (c,j):=by rw[ev,ab oI,ab rE,ab tB,ab vQ,ab zW,ab HL,ab R5,al H];simp only[cI,ei,fP]
     rw[fm,jY];have cg:=N1 (q:=⟨a,wd,bS,cp,xs,l,dx,c2,us,ah⟩) fP;refine ae.gz (kM ⟨a,wd,bS,cp,xs,l,dx,c2,us,ah⟩ 1) bX (aJ (aT da cg @gq)) ?_ ?_
     ·exact⟨⟨kN,by show 1<us.length;omega⟩,aq,λ_ h=>h.elim⟩
     exact cC
    |ok dE=>
     have cg:=N0 (q:=⟨a,wd,bS,cp,xs,l,dx,c2,us,ah⟩) fP;refine wr (kM ⟨a,wd,bS,cp,xs,l,dx,c2,us,ah⟩ 1) (aT da cg @gq) ?_ ?_
     ·have aS:(hJ.ok ⟨a,wd,bS,cp,xs,l,dx,c2,us,ah⟩) cL (Out c7)/\1<us.length:=⟨kN,U⟩
      first|exact⟨aS,aq,λ_ h=>h.elim⟩|exact⟨⟨aS,aq,λ_ h=>h.elim⟩,rfl⟩
     refine c6 ?_;clear cg;have fm:ev a wd ah (eb l)=.ok (.lens (.mk a wd none dE .nil ek .nil)):=by rw[ev,ab oI,ab rE,ab tB,ab vQ,ab zW,ab HL,ab R5,al H];simp only[cI,ei,fP]
     rw[fm,rD];refine aA aa da ?_;refine ae.jt 288 (aJ da) (λE=>by simp only[ba,den];exact rfl) λe0 eu eX du nu nv nw=>?_
     refine bf da ?_;have Z:bw (aP w S fp) eu eX:=⟨eO eX nv,nu⟩;exact sP (λE=>rfl) ⟨_,rfl,sN (n:=none) Z nw .nil (zX.mono du.cc) .nil⟩ rfl ((kX (de da @bQ @lS.eq_3 rR @po.eq_2))) aq
  have ayi:¬wd=nB:=jH J;refine a1 ?_;exfalso;rcases agt du with(((h|h)|h)|h|h)|((h|h)|h|h)|h
  ·exact zW (.inl h)
  ·exact zW (.inr h)
  ·exact vQ h
  ·exact oI (.inl h)
  ·exact oI (.inr h)
  ·exact tB h
  ·exact HL h
  ·exact R5 h
  ·exact ayi h
  ·exact rE h
section
variable (t:cl)
abbrev ayj:Env Tryz.prog:=a7 ((NT (jm t+1) (afW _)).spec) aa
end
def R6:=(aT ez @afS @afT)
theorem ayk(t:cl)(v:aM)(w:ar)(au:dB w (Out []) v t)(V:dK t<=l2):cQ 24 #[v] w (.int .i64 (dK t)):=by
 have kx:jl w v=t:=lG au;refine cB (nt:=5) [.tmp 2] Tryz.func24 ?_;refine aA aa R6 ?_;refine aL (ayj t) (I R6 kx) ?_ ?_
 ·exact⟨t,au,Dz _,V⟩
 refine bf R6 ?_
 grind [den]
def C9:cV Tryz.prog 24 where
 pre:=λW bs aj=>∃v t,aj=[.val v]/\dB W (Out bs) v t/\dK t<=l2
 res:=λW aj=>match aj with
  |[.val v]=>.int .i64 (dK (jl W v))
  |_=>undef
 enters:=Tryz.call24
 ok:=by
  intro W w bs us aj ad hu hp;obtain⟨v,t,rfl,D,O⟩:=hp
  match us,hu with
  |[x],hu=>obtain⟨rfl,_⟩:=hu;simp only[lG D];exact ayk t x w (D.mono λb Z aE=>⟨ad.block b Z aE,by simp[Out]⟩) O
theorem R7(W:ar)(bs:aD)(v:aM):C9.pre W bs [.val v]=∃t,dB W (Out bs) v t/\dK t<=l2:=by grind [C9]
theorem R8(W:ar)(v:aM):C9.res W [.val v]=.int .i64 (dK (jl W v)):=rfl
def N2(a:Nat)(op:ao)(bS:aM)(t:cl):py Tryz.prog 103 where
 kinds:=[none,some (b5.one,zP t)]
 pre:=λaj _ _=>(∃y,aj=[.val (.agg #[.int .i64 (a:Nat),.string op,bS]),y])/\bS.oneCell'=true/\w3 t
 gA:=λ_ _ _ _ _ _ h=>h
 out:=λ_=>EZ (pP a op t)
 enters:=Tryz.call103
 ok:=by
  intro w S us aj hu hp;obtain⟨⟨y,rfl⟩,D,O⟩:=hp
  match us,hu with
  |[p,q],hu=>obtain⟨rfl,⟨cs,rfl,dR⟩,_⟩:=hu;obtain⟨v,rfl,au⟩:=dR;rw[J6 au.au];exact axu a op bS t v w S D au O
theorem agO(a:Nat)(op:ao)(bS:aM)(t:cl)(l:List br):(N2 a op bS t).out l=EZ (pP a op t):=rfl
theorem agP(a:Nat)(op:ao)(bS:aM)(t:cl):(N2 a op bS t).kinds=[none,some (b5.one,zP t)]:=rfl
theorem agQ(a:Nat)(op:ao)(bS:aM)(t:cl)(y:br)(W:ar)(S:aY):(N2 a op bS t).pre [.val (.agg #[a,op,bS]),y] W S=(bS.oneCell'=true/\w3 t):=by grind [N2]
def N3(a:Nat)(op:ao)(bS nM:aM)(t u:cl)(v:aM):py Tryz.prog 104 where
 kinds:=[none,none,some (b5.one,zP u)]
 pre:=λaj W S=>(∃y,aj=[.val (.agg #[.int .i64 (a:Nat),.string op,bS,nM]),.val v,y])/\(bS.oneCell'=true/\nM.oneCell'=true)/\dB W S v t/\w3 t/\w3 u
 gA:=λ_ _ _ _ _ V h=>⟨h.1,h.2.1,h.2.2.1.mono V,h.2.2.2⟩
 out:=λ_=>EZ (vJ a op t u)
 enters:=Tryz.call104
 ok:=by
  intro w S us aj hu hp;obtain⟨⟨y,rfl⟩,⟨D,O⟩,B,aU,bn⟩:=hp
  match us,hu with
  |[p,q,r],hu=>obtain⟨rfl,rfl,⟨cs,rfl,dR⟩,_⟩:=hu;obtain⟨eT,rfl,E0⟩:=dR;rw[J6 E0.au];exact axB a op bS nM t u q eT w S D O B aU E0 bn
theorem agR(a:Nat)(op:ao)(bS nM:aM)(t u:cl)(v:aM)(l:List br):(N3 a op bS nM t u v).out l=EZ (vJ a op t u):=rfl
theorem agS(a:Nat)(op:ao)(bS nM:aM)(t u:cl)(v:aM):(N3 a op bS nM t u v).kinds=[none,none,some (b5.one,zP u)]:=rfl
theorem agT(a:Nat)(op:ao)(bS nM:aM)(t u:cl)(v:aM)(y:br)(W:ar)(S:aY):(N3 a op bS nM t u v).pre [.val (.agg #[a,op,bS,nM]),v,y] W S=((bS.oneCell'=true/\nM.oneCell'=true)/\dB W S v t/\w3 t/\w3 u):=by grind [N3]
def N4(v:dN)(a:Nat)(wd:ao)(l:bO)(h:zU v l)(vs:aX)(bS:dj)(cp:Nat)(xs:aX):D9 Tryz.prog 105 where
 T:=132
 kinds:=[none]
 pre:=λfs k5 W S=>(fs=E3 vs v/\k5=[.val (.agg #[.int .i64 (a:Nat),.string wd,.slice bS xs.length cp])])/\(qm v/\zT W S vs v)/\(dZ (.call a wd l)/\xs.length<=cp)/\b0 W S bS xs/\h7 W S false xs l/\gl W S
 gA:=λfs k5 W S aO bz V ⟨D,⟨O,B⟩,aU,bn,cA,c1⟩=>⟨D,⟨O,h8.mono V B⟩,aU,bn.mono V,cA.mono V,c1.mono V⟩
 out:=λ_ _=>C6 vs v (zV v a wd l)
 enters:=Tryz.call105
 ok:=by
  intro w S u ys fp us fs k5 H ax bp hu hp;obtain⟨⟨rfl,rfl⟩,O,⟨B,aU⟩,bn,cA,c1⟩:=hp;obtain⟨sb,rfl⟩:=acm H
  match us,hu with
  |[x],hu=>obtain⟨rfl,_⟩:=hu;have:=ax9 v a wd l h vs bS cp xs u sb fp w S O B bn aU cA c1 H ax bp;simpa using this
theorem agU(v:dN)(a:Nat)(wd:ao)(l:bO)(h:zU v l)(vs:aX)(bS:dj)(cp:Nat)(xs:aX)(fs k5:List br):(N4 v a wd l h vs bS cp xs).out fs k5=C6 vs v (zV v a wd l):=rfl
theorem agV(v:dN)(a:Nat)(wd:ao)(l:bO)(h:zU v l)(vs:aX)(bS:dj)(cp:Nat)(xs:aX):(N4 v a wd l h vs bS cp xs).T=132:=rfl
theorem agW(v:dN)(a:Nat)(wd:ao)(l:bO)(h:zU v l)(vs:aX)(bS:dj)(cp:Nat)(xs:aX):(N4 v a wd l h vs bS cp xs).kinds=[none]:=rfl
def agX(v:dN)(a:Nat)(wd:ao)(l:bO)(h:zU v l)(vs:aX)(bS:dj)(cp:Nat)(xs:aX)(W:ar)(S:aY):(N4 v a wd l h vs bS cp xs).pre [.mp (sO v) vs] [.val (.agg #[a,wd,.slice bS xs.length cp])] W S=((qm v/\zT W S vs v)/\(dZ (.call a wd l)/\xs.length<=cp)/\b0 W S bS xs/\h7 W S false xs l/\gl W S):=by apply propext;exact⟨λh=>h.2,λh=>⟨⟨rfl,rfl⟩,h⟩⟩
def b5.sv(v:aM):b5:=⟨λ_=>.v v,λ_ _=>rfl,λk j Y=>by simp[ag.keys]at Y⟩
def b5.jL(T:a6):b5:=⟨λk=>.jL T (.part k 0),λ_ _=>rfl,λk j Y=>by simpa [ag.keys] using Y⟩
def ayl:cl->b5
 |.text a s=>b5.sv (.iface 190 (.agg #[a,s]))
 |.rx a r=>b5.sv (.iface 192 (.agg #[a,cz r]))
 |.canon _=>b5.jL 193
 |.lens _=>b5.jL 197
def N5(t:cl):lr:=⟨λcs W S=>match t with
  |.text _ _=>cs=[]
  |.rx _ _=>cs=[]
  |.canon c=>∃p,cs=[p]/\oH W S p c
  |.lens l=>∃p,cs=[p]/\nC W S p l,λ{cs W S aO bz} V h=>by
 cases t with
 |text _ _=>exact h
 |rx _ _=>exact h
 |canon c=>obtain⟨p,D,O⟩:=h;exact⟨p,D,O.mono V⟩
 |lens l=>obtain⟨p,D,O⟩:=h;exact⟨p,D,O.mono V⟩⟩
def E4(vs:aX)(v:dN):n1->vj
 |.ok t=>.xI (ayl t) (N5 t)
 |.error (c,a)=>.o (.b7 (jy c a) .nilIface)
theorem agY(vs:aX)(v:dN)(a:Nat)(s:ao):E4 vs v (.ok (.text a s))=.xI (b5.sv (.iface 190 (.agg #[a,s]))) (N5 (.text a s)):=rfl
theorem agZ(vs:aX)(v:dN)(a:Nat)(r:bm):E4 vs v (.ok (.rx a r))=.xI (b5.sv (.iface 192 (.agg #[a,cz r]))) (N5 (.rx a r)):=rfl
theorem ag0(vs:aX)(v:dN)(c:jW):E4 vs v (.ok (.canon c))=.xI (b5.jL 193) (N5 (.canon c)):=rfl
theorem ag1(vs:aX)(v:dN)(l:k6):E4 vs v (.ok (.lens l))=.xI (b5.jL 197) (N5 (.lens l)):=rfl
theorem ag2(vs:aX)(v:dN)(c a:Int):E4 vs v (.error (c,a))=.o (.b7 (jy c a) .nilIface):=rfl
theorem ag3(v:aM)(k:Nat):(b5.sv v).fV k=.v v:=rfl
theorem ag4(T:a6)(k:Nat):(b5.jL T).fV k=.jL T (.part k 0):=rfl
def oH.au{S:aY}{v:aM}{c:jW}(h:oH W S v c):LE.au v=v:=qq h.one
def nC.au{S:aY}{v:aM}{c:k6}(h:nC W S v c):LE.au v=v:=qq h.one
def aym{S:aY}{u:aM}{us:aX}{T:a6}{fs:List br}{e:Ending}{M:World}{v:dN}{r:n1}(h:I3 w S u us fp T fs e M (C6 vs v r)):I3 w S u us fp T fs e M (E4 vs v r):=by
 cases r with
 |error e=>exact h
 |ok t=>
  obtain⟨cs,D,O,bn,cA⟩:=h;obtain⟨x,rfl,aB⟩:=bn;rw[J6 aB.au]at D;cases t with
  |text a s=>exact⟨[],by rw[D,show x=_ from aB];rfl,O,rfl,cA⟩
  |rx a s=>exact⟨[],by rw[D,show x=_ from aB];rfl,O,rfl,cA⟩
  |canon c=>obtain⟨p,rfl,hp⟩:=aB;refine⟨[p],?_,O,⟨p,rfl,hp⟩,cA⟩;rw[D];show _=Ending.returned (.iface 193 (LE.au p));rw[hp.au]
  |lens c=>obtain⟨p,rfl,hp⟩:=aB;refine⟨[p],?_,O,⟨p,rfl,hp⟩,cA⟩;rw[D];show _=Ending.returned (.iface 197 (LE.au p));rw[hp.au]
def N6(v:dN)(x:bO)(h:mF v x)(vs:aX):D9 Tryz.prog 65 where
 T:=132
 kinds:=[none]
 pre:=λfs k5 W S=>(yu v x h vs).pre fs k5 W S
 gA:=λfs k5 W S aO bz V=>(yu v x h vs).gA fs k5 W S aO bz V
 out:=λ_ _=>E4 vs v (dk v x)
 enters:=Tryz.call65
 ok:=λw S u ys fp us fs k5 H ax bp hu hp=>((yu v x h vs).ok w S u ys fp us fs k5 H ax bp hu hp).mono λe M h=>aym h
theorem ag5(v:dN)(x:bO)(h:mF v x)(vs:aX)(fs k5:List br):(N6 v x h vs).out fs k5=E4 vs v (dk v x):=rfl
theorem ag6(v:dN)(x:bO)(h:mF v x)(vs:aX):(N6 v x h vs).T=132:=rfl
theorem ag7(v:dN)(x:bO)(h:mF v x)(vs:aX):(N6 v x h vs).kinds=[none]:=rfl
def ag8(v:dN)(x:bO)(h:mF v x)(vs:aX)(e:aM)(W:ar)(S:aY):(N6 v x h vs).pre [.mp (sO v) vs] [e] W S=(o4 W S e x/\(qm v/\zT W S vs v)/\dZ x/\gl W S):=XL v x h vs e W S
theorem ag9(s:ao):∀k,aG (ry s k)=max 1 (2*k-1)
 |0=>rfl
 |1=>rfl
 |k+2=>by have bb:=ag9 s (k+1);show aG (ry s (k+1))+1+1=_;omega
theorem R9{n:bm}(h:fa t=some n):aG n<=dK t:=by
 cases t with
 |text a s=>
  cases h
  grind [ag9,fJ,r7,dK]
 |rx a r=>grind [dK,fa]
 |canon c=>cases h
 |lens l=>cases h
theorem ayn{op:ao}(V:dK t<=8192)(h:pP a op t=.ok u):dK u<=l2:=by
 have hx:fO .nil=0:=rfl;have mP:hz .nil=0:=rfl;have bg:¬eD=fB:=by decide
 have bN:¬eD=fX:=by decide
 have dQ:¬l1=fX:=by decide
 have h1:¬o6=fX:=by decide
 have rU:¬iX=fX:=by decide
 unfold pP at h;split at h
 ·rename_i n aE;cases h;have:=R9 aE
  grind [dK,aG]
 split at h
 ·split at h
  ·cases h;rename_i c _ _
   grind [fO,dK,eA]
  ·cases h
 ·cases h;rename_i l _
  grind [hz,dK,eA,aG]
 ·cases h
def ayo(n:Nat):¬oG n=fB/\¬oG n=fX:=by unfold oG;split<;>decide
theorem aha{op:ao}{t u r:cl}(V:dK t<=8192)(ds:dK u<=8192)(h:jk a op t u=.ok r):dK r<=l2:=by
 obtain⟨hY,j3⟩:=ayo (gm op);unfold jk at h;split at h
 ·split at h
  ·cases h;rename_i p q _;have D:hz p<=8192:=V;have O:hz q<=8192:=ds
   grind [dK,hz,fO,eA]
  ·cases h
 ·split at h
  ·cases h;rename_i p q _;have D:fO p<=8192:=V;have O:fO q<=8192:=ds
   grind [dK,fO,eA]
  ·cases h
 ·cases h
theorem ayp{op:ao}{t u r:cl}(V:dK t<=8192)(ds:dK u<=8192)(h:vJ a op t u=.ok r):dK r<=l2:=by
 unfold vJ at h;split at h
 ·rename_i x y aB cG;have D:=R9 aB;have O:=R9 cG;split at h
  ·grind [dK,aG,rz]
  grind [aha]
 grind [aha]
theorem ayq(V:dK t<=8192)(h:zL a t=.ok u):dK u<=l2:=by
 have bg:¬nA=fX:=by decide
 cases t with
 |lens l=>grind [hz,dK,fO,eA,zL]
 |_=>cases h
theorem ayr{w:ao}{ah:List cl}{ps:aD}(kD:∀t∈ah,l3 t)(h:ev a w ah ps=.ok u):dK u<=l2:=by
 have aH:∀{i n},r8 ah ps i=.ok n->aG n<=8192:=λ{i n} h=>by
  unfold r8 at h;split at h
  ·rename_i r aI;cases h;cases hi:ah[i]? with
   |none=>simp_all
   |some t=>rw[hi]at aI;have D:=R9 aI;have O:=(kD t (si hi)).2;omega
  ·cases h
 have cx:∀{i s},jF ah ps i=.ok s->fJ s<=8192:=λ{i s} h=>by
  unfold jF at h;split at h
  ·rename_i hi;cases h;exact(kD _ (si hi)).2
  ·cases h
 have dy:∀{i c},o7 ah ps i=.ok c->fO c<=8192:=λ{i c} h=>by
  unfold o7 at h;split at h
  ·rename_i hi;cases h;exact(kD _ (si hi)).2
  ·cases h
 have agu:∀{i l},k8 ah ps i=.ok l->hz l<=8192:=λ{i l} h=>by
  unfold k8 at h;split at h
  ·rename_i hi;cases h;exact(kD _ (si hi)).2
  ·cases h
 have aE7:fJ ⟨#[]⟩=1:=rfl;unfold ev at h
 repeat' split at h
 all_goals repeat (obtain⟨_,uy,h⟩:=pc h;first|have:=aH uy|have:=cx uy|have:=dy uy|have:=agu uy)
 all_goals grind [dK,fO,hz,eA]
theorem ays{P:bR}(T t:a6)(x:ag)(ok:Bool):DQ P T ok [.jL t x]=Qd T t x ok (isIface P T) (kE P T):=by rfl
theorem XQ(v:dN)(a:Nat)(w:ao)(l:bO):dk v (.call a w l)=cI (zV v a w l) (nb a):=by simp only[dk,zV];all_goals cases qK v l<;>rfl
def N7{S:aY}{v:aM}(h:dB W S v t):partsOf (.v v)=[.v v]:=by obtain⟨k,u,rfl⟩:=h.iface;rfl
def XR{W:ar}{S:aY}{s:ao}{t:cl}:∀{v:dN} {vs:aX},zT W S vs v->rA v s=some t->∃u,qu (sO v) (vs.map ag.v) s=some (.v u)/\dB W S u t
 |[],vs,h,aN=>by cases aN
 |(k,eU)::r,[],h,aN=>h.elim
 |(k,eU)::r,u::us,⟨D,O⟩,aN=>by
  rw[rA]at aN;simp only[sO,fc,qu];split at aN
  ·simp_all
  ·rename_i ad;rw[ab ad];exact XR (v:=r) O aN
def XS{W:ar}{S:aY}{s:ao}:∀{v:dN} {vs:aX},zT W S vs v->rA v s=none->qu (sO v) (vs.map ag.v) s=none
 |[],vs,h,aN=>by cases vs<;>rfl
 |(k,eU)::r,[],h,aN=>h.elim
 |(k,eU)::r,u::us,⟨D,O⟩,aN=>by
  rw[rA]at aN;simp only[sO,fc,qu];split at aN
  ·cases aN
  ·rename_i ad;rw[ab ad];exact XS (v:=r) O aN
def ayt:FY Tryz.prog (Program.underlying Tryz.prog 130)=some 54:=mN
def ayu:kE Tryz.prog 54=some .nilIface:=mN
section
variable (G:aY)(v:dN)(x y:bO)(h:mF v x)(bu:mF v y)(vs:aX)(a:Nat)(op:ao)(bS nM:aM)(t u:cl)(l:bO)(aN:zU v l)(Kp:dj)(cp:Nat)(xs:aX)(gZ:aM)
abbrev XT:Env Tryz.prog:=a7 ((yu v x h vs).spec G) (a7 ((N2 a op bS t).spec G) aa)
abbrev N8:Env Tryz.prog:=a7 ((yu v x h vs).spec G) (a7 ((N3 a op bS nM t u gZ).spec G) aa)
abbrev E5:Env Tryz.prog:=a7 ((N6 v x h vs).spec G) (a7 (yp.spec G) aa)
abbrev ahb:Env Tryz.prog:=a7 ((N4 v a op l aN vs Kp cp xs).spec G) aa
def qP:Env Tryz.prog:=⟨λ| 24=>some C9.spec|64=>some (yp.spec G)|71=>some adB.spec|f=>Kj f,λ| 39=>some tm|_=>none,zQ⟩
theorem ahc:(qP G).sp 24=some C9.spec:=rfl
theorem ahd:(qP G).sp 64=some (yp.spec G):=rfl
theorem ahe:(qP G).sp 71=some adB.spec:=rfl
theorem ahf:(qP G).eqs 39=some tm:=rfl
theorem Sa{W:ar}{bs:aD}{κ:Nat}{hh:ca}{mg:ar}{HH:aY}{v:aM}{x:bO}(h:o4 mg HH v x):hN (qP G) W bs κ hh "Place" [.v v]=⟨True,(HB x),[],none,[],[]⟩:=
 agy rfl (λf s aW=>by grind [Kj,qP]) h
end
def XU:=(b3 (ch @ays @afB @afC @afD @afE @w2 @yj @M5) (ch @XL @agG @agH @agI @rD @jY @E3.eq_1 @po.eq_2) (ch @lS.eq_3 @lR.eq_3 @vq @iR @RY @yp.eq_1 @dH.eq_31 @DS.eq_1) (ch @ayt @FY.eq_1 @TZ.eq_1 @Iz.eq_1 @Iy.eq_1 @DR.eq_1 @DR.eq_2 @ayu))
def oJ:=(de (ch XU R6 @qa @pr.eq_1 @pt @qd @ahc @ahd) (ch @ahe @ahf @ag8 @ag5 @ag6 @ag7 @agX @agU) (ch @agV @agW @agQ @agO @agP @agT @agR @agS) (ch @agY @agZ @ag0 @ag1 @ag2 @afX @afY @ag3) (eI @ag4 @R7 @R8 @dH.eq_29 @xT @uj))
theorem ayv(v:dN)(a:Nat)(s:ao):mF v (.name a s):=by
 intro vs e u sb fp w S sc w8 uE H ax bp;have cf:=aP.up w S fp;have kc:=aP.ep w S fp bp;obtain⟨nD,ei⟩:=sc;obtain⟨ff,fI⟩:=w8;have qQ:=uE.mono kc;have dP:=fI.mono kc;have fP:=h8.mono kc ei;simp only[dZ]at ff;refine Ea (nt:=133) S [.tmp 4] H ax Tryz.func65 ?_;cases dP with
 |name _ _=>
 refine lv aa oJ ?_;cases gi:rA v s with
 |none=>
  have bo:=XS fP gi;have aZ:dk v (.name a s)=.error (70,(a:Nat)):=by simp_all [dk]
  rw[aZ,jY];refine hs aa (I oJ bo) ?_;refine dL aa oJ ?_;refine ae.gz (qP (aP w S fp)) bX (aJ oJ) ?_ ?_
  ·first|trivial|exact⟨_,_,rfl⟩
  refine kG ?_
  grind [LE.Fin]
 |some t=>
  obtain⟨aE7,bo,bx⟩:=XR fP gi;have aZ:dk v (.name a s)=.ok t:=by simp_all [dk]
  rw[aZ,rD];refine hs aa (aT oJ bo (N7 (t:=t) bx)) ?_;refine ti aa oJ ?_;refine bf oJ ?_;exact sP (λE=>rfl) bx rfl ((kX (de oJ @bQ @lS.eq_3 rR @po.eq_2))) aq
def ayw(v:dN)(a:Nat)(s:ao):mF v (.text a s):=by
 intro vs e u sb fp w S sc w8 uE H ax bp;have cf:=aP.up w S fp;have kc:=aP.ep w S fp bp;obtain⟨nD,ei⟩:=sc;obtain⟨ff,fI⟩:=w8;have qQ:=uE.mono kc;have dP:=fI.mono kc;have fP:=h8.mono kc ei;simp only[dZ]at ff;refine Ea (nt:=133) S [.tmp 4] H ax Tryz.func65 ?_;cases dP with
 |text _ _=>
 refine lv aa oJ ?_;refine bk aa oJ ?_;have aZ:dk v (.text a s)=.ok (.text a s):=by simp only[dk]
 rw[aZ,rD];refine aA aa oJ ?_;refine bf oJ ?_;exact sP (v:=.iface 190 (.agg #[a,s])) (λE=>rfl) rfl rfl ((kX (de oJ @bQ @lS.eq_3 rR @po.eq_2))) aq
theorem ayx(v:dN)(a:Nat)(s:ao):mF v (.rx a s):=by
 intro vs e u sb fp w S sc w8 uE H ax bp;have cf:=aP.up w S fp;have kc:=aP.ep w S fp bp;obtain⟨nD,ei⟩:=sc;obtain⟨ff,fI⟩:=w8;have qQ:=uE.mono kc;have dP:=fI.mono kc;have fP:=h8.mono kc ei;simp only[dZ]at ff;refine Ea (nt:=133) S [.tmp 4] H ax Tryz.func65 ?_;cases dP with
 |rx _ _=>
 refine lv aa oJ ?_;refine gJ aa oJ ?_;have V:s.size<=140737488351232:=U;have aK:gl w (Out fp):=qQ.mono λb _ Z=>⟨rfl,Z.2⟩
 have dp:IntKind.i64.wrap ((a:Nat)+1:Int)=((a:Nat):Int)+1:=gb U U;cases hp:vt s with
 |error q=>
  obtain⟨c,j⟩:=q;have aZ:dk v (.rx a s)=.error (c,IntKind.i64.wrap ((a:Nat)+1+j)):=by simp_all [dk]
  have eL:c≠0:=by
   cases ak:lX s with
   |error e=>
    obtain⟨fE,mf⟩:=e;have:=Hg s;rw[hp,ak,aeF (e:=.error (fE,mf)) rfl]at this
    grind [WI]
   |ok t=>have:=Hg s;rw[hp,ak]at this;cases this
  rw[aZ,jY];refine aL (qP (aP w S fp)) (de oJ hp @M6.eq_1 @M6.eq_2 @ix.eq_1) ?_ ?_
  ·exact⟨V,aK⟩
  refine bk (qP (aP w S fp)) (I oJ eL) ?_;refine fu (Γ:=aa) trivial oJ ?_;refine ae.gz (qP (aP w S fp)) bX (aJ (I oJ dp)) ?_ ?_
  ·first|trivial|exact⟨_,_,rfl⟩
  refine kG ?_
  grind [LE.Fin]
 |ok r=>
  have aZ:dk v (.rx a s)=.ok (.rx a r):=by simp_all [dk]
  rw[aZ,rD];refine aL (qP (aP w S fp)) (de oJ hp @M6.eq_1 @M6.eq_2 @ix.eq_1) ?_ ?_
  ·exact⟨V,aK⟩
  refine gJ (qP (aP w S fp)) oJ ?_;refine aA aa oJ ?_;refine bf oJ ?_;exact sP (v:=.iface 192 (.agg #[a,cz r])) (λE=>rfl) rfl rfl ((kX (de oJ @bQ @lS.eq_3 rR @po.eq_2))) aq
def ae.ayy{P:bR}{nt:Nat}{az:jN}{c:Code}{Q:og}{σ:eG}(t:Nat){x:ag}{v:aM}(aB:σ.φ t=.is x)(J:q9 x=some v)(h:ae P W bs nt az c Q ⟨σ.n,bF σ.φ t (.is (.v v)),σ.h⟩):ae P W bs nt az c Q σ:=λa w V=>h a w (qv.const t aB J (λ_ _ h=>h) a w V)
def ew:=(de (ch XU ez @ahc @ahd @ahe @ahf @ag8 @ag5) (ch @ag6 @ag7 @agX @agU @agV @agW @agQ @agO) (ch @agP @agT @agR @agS @agY @agZ @ag0 @ag1) (ch @ag2 @afX @afY @ag3 @ag4 @R7 @R8 @dH.eq_29) (I @xT @uj))
def ayz(v:dN)(a:Nat)(op:ao)(x:bO)(bb:mF v x):mF v (.unary a op x):=by
 intro vs e u sb fp w S sc w8 uE H ax bp;have cf:=aP.up w S fp;have kc:=aP.ep w S fp bp;obtain⟨nD,ei⟩:=sc;obtain⟨ff,fI⟩:=w8;have qQ:=uE.mono kc;have dP:=fI.mono kc;have fP:=h8.mono kc ei;simp only[dZ]at ff;refine Ea (nt:=133) S [.tmp 4] H ax Tryz.func65 ?_;cases dP with
 |unary _ _ aE7 _ hl=>
 refine lv aa ew ?_;refine Je aa ew ?_;refine aL aa (I ew hl.parts) ?_ ?_
 ·first|trivial|exact hl.one
 cases bo:dk v x with
 |error e=>
  obtain⟨c,j⟩:=e;have aZ:dk v (.unary a op x)=.error (c,j):=by simp only[dk,bo,cI]
  rw[aZ,jY];refine ae.abg (XT (aP w S fp) v x bb vs a op aE7 (.text 0 ⟨#[]⟩)) bX (aJ (aT ew bo hl.parts)) (by kernel_rfl) ?_ ?_
  ·exact⟨⟨hl,⟨nD,fP⟩,ff.2.2,qQ⟩,aq,λ_ h=>h.elim⟩
  exact cC
 |ok t=>
 have sI:=C4 nD ff.2.2 bo;cases dY:pP a op t with
 |error e=>
  obtain⟨c,j⟩:=e;have aZ:dk v (.unary a op x)=.error (c,j):=by simp only[dk,bo,cI,dY]
  rw[aZ,jY];refine ae.xC (XT (aP w S fp) v x bb vs a op aE7 t) bX (aJ (b3 ew bo dY hl.parts)) rfl (by kernel_rfl) ?_ ?_
  ·exact⟨⟨⟨hl,⟨nD,fP⟩,ff.2.2,qQ⟩,aq,(λ_ h=>h.elim),cf⟩,hl.one,E2 sI⟩
  exact cC
 |ok t0=>
 refine iP (XT (aP w S fp) v x bb vs a op aE7 t) (b3 ew bo dY hl.parts) ?_ ?_
 ·exact⟨⟨⟨hl,⟨nD,fP⟩,ff.2.2,qQ⟩,aq,(λ_ h=>h.elim),cf⟩,⟨hl.one,E2 sI⟩,cf⟩
 refine ae.dt 208 (aJ ew) (bT.refl _ _) λe0 eu cs du e1=>?_
 obtain⟨E6,rfl,mR,mS⟩:=HG e1;have k9:=mR;have kx:jl e0 E6=t0:=lG k9;have cg:dB e0 (Out eu) E6 t0:=k9.mono λb _ Z=>⟨rfl,Z.2⟩
 have s0:=λW bs κ hh=>Sa (aP w S fp) (W:=W) (bs:=bs) (κ:=κ) (hh:=hh) fI
 refine ae.seq ?_;refine aL (qP (aP w S fp)) (aT ew kx mS) ?_ ?_
 ·exact⟨_,cg,(ayn sI.2 dY)⟩
 refine bC ew ?_ ?_<;>intro J
 ·have uF:2000<dK t0:=bt J
  have aZ:dk v (.unary a op x)=nb a t0:=by simp only[dk,bo,cI,dY]
  rw[aZ,nb,al uF,jY];refine ae.gz (qP (aP w S fp)) bX (aJ (I ew s0)) ?_ ?_
  ·first|trivial|exact⟨_,_,rfl⟩
  exact cC
 ·have uF:¬2000<dK t0:=bt J
  have aZ:dk v (.unary a op x)=nb a t0:=by simp only[dk,bo,cI,dY]
  rw[aZ,nb,ab uF,rD];refine bk aa ew ?_;refine bf (I ew mS) ?_;exact sP (λE=>rfl) k9 rfl ((kX (de ew @bQ @lS.eq_3 rR @po.eq_2))) aq
def ayA(v:dN)(a:Nat)(op:ao)(x y:bO)(bb:mF v x)(zh:mF v y):mF v (.binary a op x y):=by
 intro vs e u sb fp w S sc w8 uE H ax bp;have cf:=aP.up w S fp;have kc:=aP.ep w S fp bp;obtain⟨nD,ei⟩:=sc;obtain⟨ff,fI⟩:=w8;have qQ:=uE.mono kc;have dP:=fI.mono kc;have fP:=h8.mono kc ei;simp only[dZ]at ff;refine Ea (nt:=133) S [.tmp 4] H ax Tryz.func65 ?_;cases dP with
 |binary _ _ aE7 z2 _ _ hl pQ=>
 refine lv aa ew ?_;refine lv aa ew ?_;refine fu (Γ:=aa) trivial ew ?_;refine aL aa (aT ew hl.parts pQ.parts) ?_ ?_
 ·first|trivial|exact⟨hl.one,pQ.one⟩|(rw[ob];exact⟨hl.one,pQ.one⟩)|(simp[hl.one,pQ.one];done)
 cases bo:dk v x with
 |error e=>
  obtain⟨c,j⟩:=e;have aZ:dk v (.binary a op x y)=.error (c,j):=by simp only[dk,bo,cI]
  rw[aZ,jY];refine ae.fe (N8 (aP w S fp) v x bb vs a op aE7 z2 (.text 0 ⟨#[]⟩) (.text 0 ⟨#[]⟩) undef) bX (aJ (b3 ew bo hl.parts pQ.parts)) ?_ ?_
  ·exact⟨⟨hl,⟨nD,fP⟩,ff.2.2.1,qQ⟩,aq,λ_ h=>h.elim⟩
  exact cC
 |ok t=>
 have sI:=C4 nD ff.2.2.1 bo;refine aL (N8 (aP w S fp) v x bb vs a op aE7 z2 (.text 0 ⟨#[]⟩) (.text 0 ⟨#[]⟩) undef) (b3 ew bo hl.parts pQ.parts) ?_ ?_
 ·exact⟨⟨hl,⟨nD,fP⟩,ff.2.2.1,qQ⟩,aq,(λ_ h=>h.elim),cf⟩
 refine ae.dt 223 (aJ ew) (bT.refl _ _) λcL c7 h9 cq hg=>?_
 obtain⟨gZ,rfl,mr,gY⟩:=HG hg;have eO:=cf.ext cq;have wQ:=h8.mono cq.cc fP;have XV:=pQ.mono cq.cc;have XW:=qQ.mono cq.cc;cases gf:dk v y with
 |error e=>
  obtain⟨c,j⟩:=e;have aZ:dk v (.binary a op x y)=.error (c,j):=by simp only[dk,bo,gf,cI]
  rw[aZ,jY];refine ae.abg (N8 (aP w S fp) v y zh vs a op aE7 z2 t (.text 0 ⟨#[]⟩) gZ) bX (aJ (eI ew gf hl.parts pQ.parts gY (N7 (t:=t) mr))) (by kernel_rfl) ?_ ?_
  ·exact⟨⟨XV,⟨nD,wQ⟩,ff.2.2.2,XW⟩,aq,λ_ h=>h.elim⟩
  exact cC
 |ok eU =>
 have Kd:=C4 nD ff.2.2.2 gf;cases dY:vJ a op t eU with
 |error e=>
  obtain⟨c,j⟩:=e;have aZ:dk v (.binary a op x y)=.error (c,j):=by simp only[dk,bo,gf,cI,dY]
  rw[aZ,jY];refine ae.xC (N8 (aP w S fp) v y zh vs a op aE7 z2 t eU gZ) bX (aJ (hV ew gf dY hl.parts pQ.parts gY (N7 (t:=t) mr))) rfl (by kernel_rfl) ?_ ?_
  ·exact⟨⟨⟨XV,⟨nD,wQ⟩,ff.2.2.2,XW⟩,aq,(λ_ h=>h.elim),eO⟩,⟨hl.one,pQ.one⟩,mr,E2 sI,E2 Kd⟩
  exact cC
 |ok t0=>
 refine iP (N8 (aP w S fp) v y zh vs a op aE7 z2 t eU gZ) (hV ew gf dY hl.parts pQ.parts gY (N7 (t:=t) mr)) ?_ ?_
 ·exact⟨⟨⟨XV,⟨nD,wQ⟩,ff.2.2.2,XW⟩,aq,(λ_ h=>h.elim),eO⟩,⟨⟨hl.one,pQ.one⟩,mr,E2 sI,E2 Kd⟩,eO⟩
 refine ae.dt 280 (aJ ew) (bT.refl _ _) λe0 eu cs du e1=>?_
 obtain⟨E6,rfl,mR,mS⟩:=HG e1;have k9:=mR;have kx:jl e0 E6=t0:=lG k9;have cg:dB e0 (Out eu) E6 t0:=k9.mono λb _ Z=>⟨rfl,Z.2⟩
 have s0:=λW bs κ hh=>Sa (aP w S fp) (W:=W) (bs:=bs) (κ:=κ) (hh:=hh) fI
 refine ae.seq ?_;refine aL (qP (aP w S fp)) (aT ew kx mS) ?_ ?_
 ·exact⟨_,cg,(ayp sI.2 Kd.2 dY)⟩
 refine bC ew ?_ ?_<;>intro J
 ·have uF:2000<dK t0:=bt J
  have aZ:dk v (.binary a op x y)=nb a t0:=by simp only[dk,bo,gf,cI,dY]
  rw[aZ,nb,al uF,jY];refine ae.gz (qP (aP w S fp)) bX (aJ (I ew s0)) ?_ ?_
  ·first|trivial|exact⟨_,_,rfl⟩
  exact cC
 ·have uF:¬2000<dK t0:=bt J
  have aZ:dk v (.binary a op x y)=nb a t0:=by simp only[dk,bo,gf,cI,dY]
  rw[aZ,nb,ab uF,rD];refine bk aa ew ?_;refine bf (I ew mS) ?_;exact sP (λE=>rfl) k9 rfl ((kX (de ew @bQ @lS.eq_3 rR @po.eq_2))) aq
def ayB(v:dN)(a:Nat)(op:ao)(l:bO)(bb:zU v l):mF v (.call a op l):=by
 intro vs e u sb fp w S sc w8 uE H ax bp;have cf:=aP.up w S fp;have kc:=aP.ep w S fp bp;obtain⟨nD,ei⟩:=sc;obtain⟨ff,fI⟩:=w8;have qQ:=uE.mono kc;have dP:=fI.mono kc;have fP:=h8.mono kc ei;simp only[dZ]at ff;refine Ea (nt:=133) S [.tmp 4] H ax Tryz.func65 ?_;cases dP with
 |call _ _ Kp cp xs _ g1 g2 g3=>
 refine lv aa ew ?_;refine lv aa ew ?_;refine gJ aa ew ?_;have Pz:dZ (.call a op l):=by simp only[dZ];exact ff
 cases dY:zV v a op l with
 |error e=>
  obtain⟨c,j⟩:=e;have aZ:dk v (.call a op l)=.error (c,j):=by rw[XQ,dY];rfl
  rw[aZ,jY];refine ae.gz (ahb (aP w S fp) v vs a op l bb Kp cp xs) bX (aJ (I ew dY)) ?_ ?_
  ·exact⟨⟨⟨nD,fP⟩,⟨Pz,g2⟩,g1,g3,qQ⟩,aq,λ_ h=>h.elim⟩
  exact cC
 |ok t0=>
 have bP:dK t0<=l2:=by
  unfold zV at dY;split at dY
  ·cases dY
  ·rename_i ah kD;exact ayr (agw nD ff.2.2.2.2 kD).1 dY
 refine wr (ahb (aP w S fp) v vs a op l bb Kp cp xs) (I ew dY) ?_ ?_
 ·exact⟨⟨⟨nD,fP⟩,⟨Pz,g2⟩,g1,g3,qQ⟩,aq,(λ_ h=>h.elim),cf⟩
 refine ae.dt 239 (aJ ew) (bT.refl _ _) λe0 eu cs du e1=>?_
 obtain⟨E6,rfl,mR,mS⟩:=HG e1;have k9:=mR;have kx:jl e0 E6=t0:=lG k9;have cg:dB e0 (Out eu) E6 t0:=k9.mono λb _ Z=>⟨rfl,Z.2⟩
 have s0:=λW bs κ hh=>Sa (aP w S fp) (W:=W) (bs:=bs) (κ:=κ) (hh:=hh) fI
 refine ae.seq ?_;refine aL (qP (aP w S fp)) (aT ew kx mS) ?_ ?_
 ·exact⟨_,cg,bP⟩
 refine bC ew ?_ ?_<;>intro J
 ·have uF:2000<dK t0:=bt J
  have aZ:dk v (.call a op l)=nb a t0:=by rw[XQ,dY];rfl
  rw[aZ,nb,al uF,jY];refine ae.gz (qP (aP w S fp)) bX (aJ (I ew s0)) ?_ ?_
  ·first|trivial|exact⟨_,_,rfl⟩
  exact cC
 ·have uF:¬2000<dK t0:=bt J
  have aZ:dk v (.call a op l)=nb a t0:=by rw[XQ,dY];rfl
  rw[aZ,nb,ab uF,rD];refine bk aa ew ?_;refine bf (I ew mS) ?_;exact sP (λE=>rfl) k9 rfl ((kX (de ew @bQ @lS.eq_3 rR @po.eq_2))) aq
def ayC(v:dN)(a:Nat)(x:bO)(bb:mF v x):mF v (.keyed a x):=by
 intro vs e u sb fp w S sc w8 uE H ax bp;have cf:=aP.up w S fp;have kc:=aP.ep w S fp bp;obtain⟨nD,ei⟩:=sc;obtain⟨ff,fI⟩:=w8;have qQ:=uE.mono kc;have dP:=fI.mono kc;have fP:=h8.mono kc ei;simp only[dZ]at ff;refine Ea (nt:=133) S [.tmp 4] H ax Tryz.func65 ?_;cases dP with
 |keyed _ aE7 _ hl=>
 refine lv aa ew ?_;refine ti aa ew ?_;refine aL aa (I ew hl.parts) ?_ ?_
 ·first|trivial|exact hl.one
 cases bo:dk v x with
 |error e=>
  obtain⟨c,j⟩:=e;have aZ:dk v (.keyed a x)=.error (c,j):=by simp only[dk,bo,cI]
  rw[aZ,jY];refine ae.fe (E5 (aP w S fp) v x bb vs) bX (aJ (aT ew bo hl.parts)) ?_ ?_
  ·exact⟨⟨hl,⟨nD,fP⟩,ff.2,qQ⟩,aq,λ_ h=>h.elim⟩
  exact cC
 |ok t=>
 have sI:=C4 nD ff.2 bo;cases t with
 |text b s=>
  have aZ:dk v (.keyed a x)=.error (72,(a:Nat)):=by simp only[dk,bo,cI,zL,lF]
  rw[aZ,jY];refine aL (E5 (aP w S fp) v x bb vs) (aT ew bo hl.parts) ?_ ?_
  ·exact⟨⟨hl,⟨nD,fP⟩,ff.2,qQ⟩,aq,(λ_ h=>h.elim),cf⟩
  refine dL aa ew ?_;refine ae.gz (E5 (aP w S fp) v x bb vs) bX (aJ ew) ?_ ?_
  ·first|trivial|exact⟨_,_,rfl⟩
  exact cC
 |rx b r=>
  have aZ:dk v (.keyed a x)=.error (72,(a:Nat)):=by simp only[dk,bo,cI,zL,lF]
  rw[aZ,jY];refine aL (E5 (aP w S fp) v x bb vs) (aT ew bo hl.parts) ?_ ?_
  ·exact⟨⟨hl,⟨nD,fP⟩,ff.2,qQ⟩,aq,(λ_ h=>h.elim),cf⟩
  refine dL aa ew ?_;refine ae.gz (E5 (aP w S fp) v x bb vs) bX (aJ ew) ?_ ?_
  ·first|trivial|exact⟨_,_,rfl⟩
  exact cC
 |canon c=>
  have aZ:dk v (.keyed a x)=.error (72,(a:Nat)):=by simp only[dk,bo,cI,zL,lF]
  rw[aZ,jY];refine aL (E5 (aP w S fp) v x bb vs) (aT ew bo hl.parts) ?_ ?_
  ·exact⟨⟨hl,⟨nD,fP⟩,ff.2,qQ⟩,aq,(λ_ h=>h.elim),cf⟩
  refine dL aa ew ?_;refine ae.gz (E5 (aP w S fp) v x bb vs) bX (aJ ew) ?_ ?_
  ·first|trivial|exact⟨_,_,rfl⟩
  exact cC
 |lens l=>
 obtain⟨t0,cj⟩:∃t0,zL a (.lens l)=.ok t0:=⟨_,rfl⟩;refine aL (E5 (aP w S fp) v x bb vs) (aT ew bo hl.parts) ?_ ?_
 ·exact⟨⟨hl,⟨nD,fP⟩,ff.2,qQ⟩,aq,(λ_ h=>h.elim),cf⟩
 refine ae.dt 175 (aJ ew) (bT.refl _ _) λcL c7 cs cq hg=>?_
 obtain⟨p,rfl,hp⟩:=hg;have Bv:=hp.au;have eO:=cf.ext cq;refine bk aa (I ew Bv) ?_;refine bk aa ew ?_;refine bY aa (aT ew Bv hp.parts) ?_;refine ae.jt 272 (aJ (I ew Bv)) (λE=>by simp only[ba,den,Bv];exact rfl) λe0 eu eX du nu nv nw=>?_
 refine ae.ayy 5 ((aJ (I ew Bv))) ((aJ (I ew Bv))) ?_;have Z:bw (aP w S fp) eu eX:=⟨eO eX nv,nu⟩;have mR:dB e0 (bw (aP w S fp) eu) (.iface 197 (.pointer (some ⟨eX,0,none⟩))) (.lens (.mk a nA none ⟨#[]⟩ .nil l .nil)):=⟨_,rfl,sN (n:=none) Z nw .nil (hp.mono du.cc) .nil⟩;have k9:=mR
 have kx:jl e0 (.iface 197 (.pointer (some ⟨eX,0,none⟩)))=(.lens (.mk a nA none ⟨#[]⟩ .nil l .nil)):=lG k9;have cg:dB e0 (Out eu) (.iface 197 (.pointer (some ⟨eX,0,none⟩))) (.lens (.mk a nA none ⟨#[]⟩ .nil l .nil)):=k9.mono λb _ Z=>⟨rfl,Z.2⟩
 have s0:=λW bs κ hh=>Sa (aP w S fp) (W:=W) (bs:=bs) (κ:=κ) (hh:=hh) fI
 refine ae.seq ?_;refine aL (qP (aP w S fp)) (aT ew kx Bv) ?_ ?_
 ·exact⟨_,cg,(ayq (a:=a) sI.2 rfl)⟩
 refine bC ew ?_ ?_<;>intro J
 ·have uF:2000<dK (.lens (.mk a nA none ⟨#[]⟩ .nil l .nil)):=bt J
  have aZ:dk v (.keyed a x)=nb a (.lens (.mk a nA none ⟨#[]⟩ .nil l .nil)):=by simp only[dk,bo,cI,zL]
  rw[aZ,nb,al uF,jY];refine ae.gz (qP (aP w S fp)) bX (aJ (I ew s0)) ?_ ?_
  ·first|trivial|exact⟨_,_,rfl⟩
  exact cC
 ·have uF:¬2000<dK (.lens (.mk a nA none ⟨#[]⟩ .nil l .nil)):=bt J
  have aZ:dk v (.keyed a x)=nb a (.lens (.mk a nA none ⟨#[]⟩ .nil l .nil)):=by simp only[dk,bo,cI,zL]
  rw[aZ,nb,ab uF,rD];refine bk aa ew ?_;refine bf (I ew Bv) ?_;exact sP (λE=>rfl) k9 rfl ((kX (de ew @bQ @lS.eq_3 rR @po.eq_2))) aq
def ayD(v:dN)(x:bO):mF v x/\zU v x:=by
 induction x with
 |name a s=>exact⟨ayv v a s,trivial⟩
 |text a s=>exact⟨ayw v a s,trivial⟩
 |rx a s=>exact⟨ayx v a s,trivial⟩
 |call a w l bb=>exact⟨ayB v a w l bb.2,trivial⟩
 |keyed a x bb=>exact⟨ayC v a x bb.1,trivial⟩
 |unary a op x bb=>exact⟨ayz v a op x bb.1,trivial⟩
 |binary a op x y bb zh=>exact⟨ayA v a op x y bb.1 zh.1,trivial⟩
 |nil=>exact⟨(λvs e u sb fp w S D O=>by cases O.2),trivial⟩
 |cons x l bb zh=>exact⟨(λvs e u sb fp w S D O=>by cases O.2),bb.1,zh.2⟩
def N9(v:dN)(x:bO):mF v x:=(ayD v x).1
def ahg(t:cl):lr:=⟨λcs W S=>∃v,cs=[v,.int .i64 0,.int .i64 0,.string ⟨#[]⟩]/\dB W S v t,λV ⟨v,D,O⟩=>⟨v,D,O.mono V⟩⟩
def Kq:n1->ud
 |.ok t=>.fact b5.Hv (ahg t)
 |.error (c,a)=>.val (.tuple #[.nilIface,ix c a ⟨#[]⟩])
theorem Sb(t:cl):Kq (.ok t)=.fact b5.Hv (ahg t):=rfl
theorem HM(c a:Int):Kq (.error (c,a))=.val (.tuple #[.nilIface,ix c a ⟨#[]⟩]):=rfl
def zY(v:dN)(az:List (Nat×ByteArray×bO))(x:bO):n1:=match yn v az with
 |.error e=>.error e
 |.ok v=>dk v x
theorem ayE(v:dN)(x:bO):zY v [] x=dk v x:=rfl
def ayF{v:dN}{y:bO}{az:List (Nat×ByteArray×bO)}{x:bO}(h:rA v s=some t):zY v ((a,s,y)::az) x=.error (71,(a:Nat)):=by unfold zY;rw[yn,h]
def ayG{v:dN}{y:bO}{az:List (Nat×ByteArray×bO)}{x:bO}{e:Int×Int}(h:rA v s=none)(cG:dk v y=.error e):zY v ((a,s,y)::az) x=.error e:=by unfold zY;rw[yn,h,cG]
def ayH{v:dN}{y:bO}{az:List (Nat×ByteArray×bO)}{x:bO}(h:rA v s=none)(cG:dk v y=.ok t):zY v ((a,s,y)::az) x=zY (v++[(s,t)]) az x:=by unfold zY;rw[yn,h,cG]
def ahh{s:ao}:∀{v:dN},rA v s=none->s∉sO v
 |[],_=>by simp[sO]
 |(k,t)::r,h=>by
  rw[rA]at h;split at h
  ·cases h
  ·rename_i ad;have:=ahh (v:=r) h;simp only[sO,fc,gG,not_or]at this ⊢;exact⟨λh=>ad h.symm,this⟩
def ahi(ex:List bH->cW):∀n az r p bG,r3 ex n az r=.ok (p,bG)->p.1.length<=az.length+n
 |0,az,r,p,bG,he=>by cases he
 |n+1,az,r,p,bG,he=>by
  rw[r3]at he
  repeat' split at he
  all_goals first
   |(cases he;done)
   | (have:=ahi ex n _ _ _ _ he
      rw[ec,sX]at this
      omega)
   | (cases he
      simp)
def XX{p:pN}(h:rv s=.ok p):p.1.length<=4097:=by
 unfold rv at h;split at h
 ·split at h
  ·cases h
  ·rename_i q r z;cases h;have:=ahi _ _ _ _ _ _ z;have:=RU s;simp only[uW]at *;omega
 ·cases h
structure XY where
 W:World
 bs:List Nat
 us:List Value
 v:dN
 az:List (Nat×ByteArray×bO)
 k:Nat
section
variable (G:aY)(v:dN)(x:bO)(h:mF v x)(vs:aX)
def E7:Env Tryz.prog:=⟨λ| 65=>some ((yu v x h vs).spec G)|64=>some (yp.spec G)|_=>none,λ| 39=>some tm|_=>none,λ_ _=>none⟩
theorem ayI:(E7 G v x h vs).sp 65=some ((yu v x h vs).spec G):=rfl
theorem ayJ:(E7 G v x h vs).sp 64=some (yp.spec G):=rfl
theorem ayK:(E7 G v x h vs).eqs 39=some tm:=rfl
end
def ky:=(aT (ch XU ez @aw5 @dH.eq_30 @afA @dH.eq_32 @BX.eq_1 @IA.eq_1) (ch @ayI @ayJ @ayK @ix.eq_1 @Bi.eq_1 @Gr.eq_1 @Cq.eq_1 @ug.eq_1) (aT @ug.eq_2 @y7.eq_1 @y7.eq_2))
def ayL:Ec Tryz.prog 63 where
 bc:=[54,39]
 enters:=Tryz.call63
 pre:=λdG pv=>(∃a f g h,dG=[[a],[f,g,h]])/\∃c i t,pv=.iface 39 (ix c i t)
 out:=λdG pv=>[[.nilIface],match pv with|.iface _ (.agg x)=>x.toList|_=>[]]
 df:=λdG pv=>[.nilIface,match pv with|.iface _ x=>x|_=>undef]
 Mj:=by rintro dG pv ⟨_,c,i,t,rfl⟩;refine⟨.inr ⟨(kX ky),rfl⟩,.inl ⟨(kX ky),(kX ky),rfl⟩,trivial⟩
 quiet:=λw us aN=>by
  match us,aN with
  |[cf,cT],_=>
   refine Qi (nt:=8) w _ Tryz.func63 rfl rfl U U rfl ?_;refine dL aa ky ?_
   simp only[wz,Op.operands,Value.cells,qw,nN,Nat.reduceEqDiff,Nat.reduceAdd,Nat.reduceMul,Nat.reduceLT,Nat.reduceLeDiff,Nat.reduceBEq,kT,Int.reduceToNat,Int.reduceLT,Int.reduceLE,Nat.reduceDiv,Nat.reduceMod,Nat.reduceSub,Int.reducePow,Nat.reducePow,Gc,Gd,nn.eq_2,nn.eq_3,ky]
   done
 Mk:=λw us fr dG pv aN aE ax hp=>by
  obtain⟨⟨a,f,g,h,rfl⟩,k,i,t,rfl⟩:=hp;have B:=aN.len.1;refine Qk (nt:=8) Tryz.func63 rfl rfl U U ?_ aN aE ax ?_ ?_
  ·rw[B];rfl
  ·rw[B];decide
  intro us _;refine bk aa ky ?_;skip;refine AM aa (I ky @ix.eq_1) ?_;refine jQ ky ?_;exact⟨rfl,rfl,trivial⟩
def ayM(p:pN)(v0:aM)(w:ar)(S:aY)(hp:Bq w S v0 p)(bW:HJ p)(aE:p.1.length<=4097)(aK:gl w S):Calls Tryz.prog 27 #[v0] w λe M=>oO w S e M (Kq (Br p)):=by
 have cf:=b1.up w S;have g0:=aK.mono (b1.ep w S);obtain⟨b,ay,c,xs,u,rfl,ff,bD,⟨CM,rM,hle⟩,ahj⟩:=hp.mono (b1.ep w S);obtain⟨zZ,Bw⟩:=p;simp only at ff rM hle ahj bW aE;obtain⟨qR,hK⟩:=bW;simp only at qR hK;have hlen:=rM.len;have aZ:Br (zZ,Bw)=zY [] zZ Bw:=rfl;rw[aZ]
 generalize dW:zY [] zZ Bw=R;refine afu (nt:=57) S Tryz.func27 rfl rfl ?_;refine kW.seq' (rs:=[.cell 2 54,.cell 3 39]) rfl ?_;refine bY aa ky ?_;refine kW.seq' (rs:=[.cell 2 54,.cell 3 39]) rfl ?_;refine dL aa ky ?_
 refine kW.Ql (rs:=[.cell 2 54,.cell 3 39]) rfl ayL [2,3] [0,8] rfl aq rfl aq rfl rfl ?_ ?_ λus DO=>?_
 ·rintro p hp;simp only[Ih,Ii,gG,tS,uX]at hp;rcases hp with rfl|rfl<;>rfl
 ·rintro k ad;simp only[gG,tS,uX]at ad;rcases ad with rfl|rfl<;>exact⟨_,_,rfl⟩
 refine bk aa ky ?_;refine aA aa (I ky ff.2) ?_
 match us,DO with
 |[adz,adA],_=>
 refine ae.block ?_
 refine ae.q4 (λp:XY=>⟨30,bK [(0,.is (.v (.pointer (some ⟨b,0,none⟩)))),(2,.is (.own 0 0)),(3,.is (.own 8 0)),(4,.is (.own 4 0)),(19,.is (.v (.slice ay zZ.length c))),(20,zZ.length),(21,p.k)],bA [(0,.cells 54 [.v .nilIface]),(8,.cells 39 [(0:Int),(0:Int),.v (.string ⟨#[]⟩)]),(4,.cells 132 [.ak 5]),(5,.mp (sO p.v) (p.us.map .v))]⟩)
  XY.W XY.bs (λp=>(gl p.W (bw (b1 w S) p.bs)/\gd p.W (bw (b1 w S) p.bs) b 1 u/\o4 p.W (bw (b1 w S) p.bs) u Bw/\b0 p.W (bw (b1 w S) p.bs) ay xs)/\(vG p.W (bw (b1 w S) p.bs) (xs.drop (3*p.k)) p.az/\(∀d∈p.az,HI d)/\p.k+p.az.length=zZ.length)/\(qm p.v/\zT p.W (bw (b1 w S) p.bs) p.us p.v)/\zY p.v p.az Bw=R) (λp=>zZ.length-p.k) ⟨w,[],[],[],zZ,0⟩ rfl rfl ?_ ⟨⟨g0,bD,ahj,CM⟩,⟨rM,qR,lM _⟩,⟨λe he=>(by cases he),trivial⟩,dW⟩ ?_
 ·exact b8 (λk=>if k=4 then .key 64 else if k=5 then .key 48 else .key k) (aT ky @gq @sO.eq_1)
 rintro⟨cy,ck,E8,v1,ahk,k⟩ ⟨⟨bg,m1,m2,s1⟩,⟨d1,d2,d3⟩,⟨ek,dE⟩,cu⟩ RR;simp only at bg m1 m2 s1 d1 d2 d3 ek dE cu RR;dsimp only;have cT:=cf.ext RR;refine bk aa ky ?_;refine bC ky ?_ ?_<;>intro J
 ·have gN:k<zZ.length:=bt J
  clear J;have dM:=fK k;refine a1 ?_;refine ae.seq (ae.block ?_);cases ahk with
  |nil=>exfalso;simp at d3;omega
  |cons d ayN=>
  obtain⟨a,s,y⟩:=d;obtain⟨oc,I8,Sc⟩:=d2 (a,s,y) bq;simp only at oc I8 Sc;generalize Ko:xs.drop (3*k)=aE4 at d1;cases d1 with
  |cons _ _ ahl _ ayO _ pQ ayP=>
  have ayQ:xs[3*k]?=some (.int .i64 (a:Nat)):=by have:=fZ (λl=>l[0]?) Ko;simpa [Lb] using this
  have ayR:xs[3*k+1]?=some (.string s):=by have:=fZ (λl=>l[1]?) Ko;simpa [Lb] using this
  have ayS:xs[3*k+2]?=some ahl:=by have:=fZ (λl=>l[2]?) Ko;simpa [Lb] using this
  obtain⟨eh,hY,rfl,mv,c0⟩:=b0.cell s1 ayQ;obtain⟨ayT,ayU,Lr,_,hx⟩:=b0.cell s1 ayR;cases Lr;obtain⟨ayT,ayU,Lr,_,c2⟩:=b0.cell s1 ayS;cases Lr;have ayV:cy.cell? ⟨eh,hY+k*3,none⟩=some (.int .i64 (a:Nat)):=by rw[show hY+k*3=hY+3*k by omega];exact c0
  have ayW:cy.cell? ⟨eh,hY+k*3+1,none⟩=some (.string s):=by rw[show hY+k*3+1=hY+(3*k+1) by omega];exact hx
  have ayX:cy.cell? ⟨eh,hY+k*3+1+1,none⟩=some ahl:=by rw[show hY+k*3+1+1=hY+(3*k+2) by omega];exact c2
  refine aL aa (b3 ky ayV ayW ayX) ?_ ?_
  ·exact⟨⟨U,U⟩,mv.2,pQ.one⟩
  refine ae.seq ?_;cases gi:rA v1 s with
  |some t=>
   obtain⟨aE7,bo,bx⟩:=XR dE gi;rw[ayF gi]at cu;rw[<- cu,HM];refine hs aa (aT ky bo (N7 (t:=t) bx)) ?_;refine bk aa ky ?_;refine ae.gz (E7 (b1 w S) v1 y (N9 v1 y) E8) bX (aJ ky) ?_ ?_
   ·first|trivial|exact⟨_,_,rfl⟩
   refine kG ?_;refine jQ (I ky @nn.eq_3) ?_;refine⟨.iface 39 (ix 71 (a:Nat) ⟨#[]⟩),[[.nilIface],[.int .i64 0,.int .i64 0,.string ⟨#[]⟩]],rfl,⟨?_,?_,?_,?_,trivial⟩,⟨⟨_,_,_,_,rfl⟩,71,(a:Nat),⟨#[]⟩,rfl⟩,λE=>rfl⟩
   all_goals rfl
  |none=>
   have bo:=XS dE gi;have ahm:=ahh gi;refine hs aa (I ky bo) ?_;refine dL aa ky ?_;cases gf:dk v1 y with
   |error e=>
    obtain⟨cp,zF⟩:=e;rw[ayG gi gf]at cu;rw[<- cu,HM];refine ae.xC (E7 (b1 w S) v1 y (N9 v1 y) E8) bX (aJ (aT ky gf pQ.parts)) rfl (by kernel_rfl) ?_ ?_
    ·exact⟨⟨⟨pQ,⟨ek,dE⟩,Sc,bg⟩,aq,λ_ h=>h.elim⟩,ahm⟩
    refine kG ?_;refine jQ (I ky @nn.eq_3) ?_;refine⟨.iface 39 (ix cp zF ⟨#[]⟩),[[.nilIface],[.int .i64 0,.int .i64 0,.string ⟨#[]⟩]],rfl,⟨?_,?_,?_,?_,trivial⟩,⟨⟨_,_,_,_,rfl⟩,cp,zF,⟨#[]⟩,rfl⟩,λE=>rfl⟩
    all_goals rfl
   |ok t=>
    rw[ayH gi gf]at cu;refine ae.more ?_;refine iP (E7 (b1 w S) v1 y (N9 v1 y) E8) (aT ky gf pQ.parts) ?_ ?_
    ·exact⟨⟨⟨pQ,⟨ek,dE⟩,Sc,bg⟩,aq,(λ_ h=>h.elim),cT⟩,ahm⟩
    refine pw ?_;refine eZ.dt 463 (aJ ky) (bT.refl _ _) λe0 eu cs du e1=>?_
    obtain⟨v3,rfl,mR,mS⟩:=HG e1;refine eZ.here ?_;refine kG ?_;refine bY aa (I ky dM) ?_;have em:List.map ag.v E8++[.v v3]=List.map ag.v (E8++[v3]):=by simp
    have iC:sO v1++[s]=sO (v1++[(s,t)]):=by simp[sO]
    refine⟨⟨e0,eu,E8++[v3],v1++[(s,t)],ayN,k+1⟩,⟨⟨bg.mono du.cc,m1.mono du.cc,m2.mono du.cc,s1.mono du.cc⟩,⟨?_,λd ak=>d2 d (Ie _ ak),by simp at d3 ⊢;omega⟩,⟨?_,?_⟩,cu⟩,by dsimp only;omega,rfl,rfl,?_⟩
    ·have:xs.drop (3*(k+1))=ayO:=by
      rw[show 3*(k+1)=3*k+3 by omega,<- List.drop_drop,Ko];rfl
     rw[this];exact ayP.mono du.cc
    ·intro e he;rcases hq.1 he with he|he
     ·exact ek e he
     ·rw[l8.1 he];exact C4 ek Sc gf
    ·show h8 _ _ _ ((v1++[(s,t)]).map (·.2));rw[sY];exact h8.snoc mR (h8.mono du.cc dE)
    exact bh (b3 ky mS em iC)
 ·have Ht:k=zZ.length:=bt J
  refine c6 ?_;have I8:ahk=[]:=ZF.1 U;subst I8;rw[ayE]at cu;cases gf:dk v1 Bw with
  |error e=>
   obtain⟨cp,zF⟩:=e;rw[gf]at cu;rw[<- cu,HM];refine ae.fe (E7 (b1 w S) v1 Bw (N9 v1 Bw) E8) bX (aJ (b3 ky gf m1.2 m2.parts)) ?_ ?_
   ·exact⟨m1.1.2,⟨m2,⟨ek,dE⟩,hK,bg⟩,aq,λ_ h=>h.elim⟩
   refine kG ?_;refine jQ (I ky @nn.eq_3) ?_;refine⟨.iface 39 (ix cp zF ⟨#[]⟩),[[.nilIface],[.int .i64 0,.int .i64 0,.string ⟨#[]⟩]],rfl,⟨?_,?_,?_,?_,trivial⟩,⟨⟨_,_,_,_,rfl⟩,cp,zF,⟨#[]⟩,rfl⟩,λE=>rfl⟩
   all_goals rfl
  |ok t=>
   rw[gf]at cu;rw[<- cu,Sb];refine aL (E7 (b1 w S) v1 Bw (N9 v1 Bw) E8) (b3 ky gf m1.2 m2.parts) ?_ ?_
   ·exact⟨m1.1.2,⟨m2,⟨ek,dE⟩,hK,bg⟩,aq,(λ_ h=>h.elim),cT⟩
   refine ae.dt 295 (aJ ky) (bT.refl _ _) λe0 eu cs du e1=>?_
   obtain⟨v3,rfl,mR,mS⟩:=HG e1;refine bf (aT ky @nn.eq_2 mS) ?_;exact⟨[v3,.int .i64 0,.int .i64 0,.string ⟨#[]⟩],λE=>(Xk mS).symm,v3,rfl,mR⟩
end
section
open Go.RowKit Go.LE Go.Proofs.Tryz
set_option maxRecDepth 10000
variable{c:Int}{j:Nat}{sub:List bH->cW}{m:Option (List bH->cW)}{s:ao}
def yv(sub:List bH->cW):Prop:=∀r c j,sub r=.error (c,j)->c≠0
def ahn{sub:List bH->cW}(h:yv sub)(mA:Int):∀n a r c j,oE sub mA n a r=.error (c,j)->c≠0
 |0,a,r,c,j,he=>by cases he
 |n+1,a,r,c,j,he=>by
  rw[oE]at he;split at he
  ·split at he
   ·rename_i e V;cases he;exact h _ _ _ V
   ·exact ahn h mA n _ _ _ _ he
  ·cases he
def ayY(h:yv sub)(mA:Int):yv (tx sub mA):=by
 intro r c j he;unfold tx at he;split at he
 ·rename_i e V;cases he;exact h _ _ _ V
 ·exact ahn h mA _ _ _ _ _ he
def ayZ(h:yv sub):yv (pL sub):=by
 intro r c j he;unfold pL at he;split at he
 ·rename_i e V;cases he;exact h _ _ _ V
 ·cases he
def XZ{sub:List bH->cW}(h:yv sub):∀k,yv (pM sub k)
 |0=>ayZ h
 |k+1=>ayY (XZ h k) _
def aho{ex:List bH->cW}(h:yv ex):∀n k l r c j,ql ex n k l r=.error (c,j)->c≠0
 |0,k,l,r,c,j,he=>by cases he
 |n+1,k,l,r,c,j,he=>by
  rw[ql]at he;split at he
  ·cases he;decide
  ·split at he
   ·rename_i e V;cases he;exact h _ _ _ V
   ·exact aho h n _ _ _ _ _ he
def X0{m:ao}{f:bO->bO}{q:cW}(h:∀c j,q=.error (c,j)->c≠0)(he:iy m f q=.error (c,j)):c≠0:=by
 cases q with
 |error e=>cases he;exact h _ _ rfl
 |ok p=>
  obtain⟨x,r⟩:=p;have ma:(if dI r m=true then(.ok (f x,r.tail):cW) else .error (60,(aF r).2.1))=.error (c,j):=he;split at ma
  ·cases ma
  ·cases ma;decide
def X1{r:List bH}{b:ao}{go:(List bH->cW)->List bH->cW}(h:∀ex,m=some ex->∀t c j,go ex t=.error (c,j)->c≠0)(he:lE m r b go=.error (c,j)):c≠0:=by
 unfold lE at he;split at he
 ·cases m with
  |none=>cases he;decide
  |some ex=>exact h ex rfl _ _ _ he
 ·cases he;decide
def ahp(hm:∀ex,m=some ex->yv ex):yv (mC m):=by
 intro r c j he;unfold mC at he;split at he
 ·cases he
 split at he
 ·cases he
 split at he
 ·exact X1 (λex aB t c j h=>X0 (λc j h=>aho (hm ex aB) _ _ _ _ _ _ h) h) he
 split at he
 ·cases he
 split at he
 ·exact X1 (λex aB t c j h=>X0 (λc j h=>hm ex aB _ _ _ h) h) he
 split at he
 ·exact X1 (λex aB t c j h=>X0 (λc j h=>hm ex aB _ _ _ h) h) he
 ·cases he;decide
def ahq:∀m,yv (o2 m)
 |0=>ahp λex h=>by cases h
 |m+1=>ahp λex h=>by cases h;exact XZ (ahq m) 5
def ahr{ex:List bH->cW}(h:yv ex):∀n az r c j,r3 ex n az r=.error (c,j)->c≠0
 |0,az,r,c,j,he=>by cases he;decide
 |n+1,az,r,c,j,he=>by
  rw[r3]at he;split at he
  ·split at he
   ·cases he;decide
   split at he
   ·cases he;decide
   split at he
   ·rename_i e V;cases he;exact h _ _ _ V
   split at he
   ·cases he;decide
   ·exact ahr h n _ _ _ _ he
  ·split at he
   ·rename_i e V;cases he;exact h _ _ _ V
   split at he
   ·cases he
   ·cases he;decide
def ay0(h:rv s=.error (c,j)):c≠0:=by
 unfold rv at h;split at h
 ·split at h
  ·rename_i e V;cases h;exact ahr (XZ (ahq 64) 5) _ _ _ _ _ V
  ·cases h
 ·rename_i A;cases h;exact A
theorem ay1{c j:Int}(hp:vt s=.error (c,j)):c≠0:=by
 cases ak:lX s with
 |error e=>obtain⟨fE,mf⟩:=e;have:=Hg s;rw[hp,ak,aeF (e:=.error (fE,mf)) rfl]at this;cases this;exact WI ak
 |ok t=>have:=Hg s;rw[hp,ak]at this;cases this
end
end Go.Proofs.YtnemkecffmdlnaaGreatDoor
namespace Go.Proofs
section
open Go.Shelf
def Tryz.ahs:Go.Shelf.Ren:=⟨λ| 156=>100|165=>155|166=>37|169=>41|240=>75|241=>202|276=>130|277=>243|n=>n,λ| 31=>22|9=>9|3=>3|4=>4|0=>0|20=>20|72=>91|76=>94|70=>88|37=>89|75=>93|127=>162|164=>257|5=>5|80=>100|n=>n,λ| n=>n⟩
def Tryz.aht:Go.Proofs.Lays.n156 Tryz.prog Tryz.ahs:={
 mixed:=by kernel_rfl
 f156:=Tryz.func100.trans (fZ some (by kernel_rfl))
 f165:=Tryz.func155.trans (fZ some (by kernel_rfl))
 f166:=Tryz.func37.trans (fZ some (by kernel_rfl))
 f169:=Tryz.func41.trans (fZ some (by kernel_rfl))
 f240:=Tryz.func75.trans (fZ some (by kernel_rfl))
 f241:=Tryz.func202.trans (fZ some (by kernel_rfl))
 f276:=Tryz.func130.trans (fZ some (by kernel_rfl))
 f277:=Tryz.func243.trans (fZ some (by kernel_rfl))
 t0:=Tryz.underlying0
 a0:=Tryz.isAgg0
 z0:=Tryz.sizeOf0
 v0:=Tryz.zeroValue0
 t3:=Tryz.underlying3
 a3:=Tryz.isAgg3
 z3:=Tryz.sizeOf3
 v3:=Tryz.zeroValue3
 t4:=Tryz.underlying4
 a4:=Tryz.isAgg4
 z4:=Tryz.sizeOf4
 v4:=Tryz.zeroValue4
 t9:=Tryz.underlying9
 a9:=Tryz.isAgg9
 z9:=Tryz.sizeOf9
 v9:=Tryz.zeroValue9
 t20:=Tryz.underlying20
 a20:=Tryz.isAgg20
 z20:=Tryz.sizeOf20
 v20:=Tryz.zeroValue20
 t31:=Tryz.underlying22
 a31:=Tryz.isAgg22
 z31:=Tryz.sizeOf22
 v31:=Tryz.zeroValue22
 t37:=Tryz.underlying89
 a37:=Tryz.isAgg89
 z37:=Tryz.sizeOf89
 v37:=Tryz.zeroValue89
 t70:=Tryz.underlying88
 a70:=Tryz.isAgg88
 z70:=Tryz.sizeOf88
 v70:=Tryz.zeroValue88
 t72:=Tryz.underlying91
 a72:=Tryz.isAgg91
 z72:=Tryz.sizeOf91
 v72:=Tryz.zeroValue91
 t75:=Tryz.underlying93
 a75:=Tryz.isAgg93
 z75:=Tryz.sizeOf93
 v75:=Tryz.zeroValue93
 t76:=Tryz.underlying94
 a76:=Tryz.isAgg94
 z76:=Tryz.sizeOf94
 v76:=Tryz.zeroValue94
 t127:=Tryz.underlying162
 a127:=Tryz.isAgg162
 z127:=Tryz.sizeOf162
 v127:=Tryz.zeroValue162
 t164:=Tryz.underlying257
 a164:=Tryz.isAgg257
 z164:=Tryz.sizeOf257
 v164:=Tryz.zeroValue257 }
def Tryz.ahu:Builder.Extra Tryz.prog Tryz.ahs:={
 sizeBuilder:=by kernel_rfl
 liesBuilder:=by kernel_rfl
 t5:=Tryz.underlying5
 a5:=Tryz.isAgg5
 z5:=Tryz.sizeOf5
 v5:=Tryz.zeroValue5
 infoByte:=by kernel_rfl
 cellsByte:=by kernel_rfl
 sizeByte:=by kernel_rfl
 neB5:=by decide }
open Go.RowKit in
def Tryz.strings_Join_none(a:dj)(c:Nat)(sep:ao)(w:ar) :
  Calls Tryz.prog 100 #[.slice a 0 c,sep] w λe M=>e=.returned (.string ⟨#[]⟩)/\M=w:=Any.strings_Join_none Tryz.aht Tryz.ahu a c sep w
open Go.RowKit in
def Tryz.strings_Join(dA o c:Nat)(xs:List ByteArray)(sep:ao)(w:ar)(Lm:∀(j:Nat) x,xs[j]?=some x->w.cell? ⟨dA,o+j,none⟩=some (.string x))(qs:dA<w.heap.size)(db:xs.length<=140737488355328)(Ml:xs.length<=c)(hlen:(Lib.join (xs.map (·.data.toList)) sep.data.toList).length<=140737488355328) :
  Calls Tryz.prog 100 #[.slice (some ⟨dA,o,none⟩) xs.length c,sep] w λe M=>e=.returned (.string ⟨(Lib.join (xs.map (·.data.toList)) sep.data.toList).toArray⟩)/\Below w.heap.size w M := Any.strings_Join Tryz.aht Tryz.ahu dA o c xs sep w Lm qs db Ml hlen
end
end Go.Proofs
namespace Go.Proofs.YtnemkecffmdlnaaGreatDoor
section
open Go Go.RowKit Go.LE
set_option maxRecDepth 10000
variable{t:cl}{W:ar}{bs:aD}{κ:Nat}{hh:ca}(n:Nat)
def rF:=ez
def ay2(a:Nat)(s:ao)(w:ar):cQ 295 #[.agg #[a,s]] w (.int .i64 1):=by refine cB (nt:=3) [.tmp 2] Tryz.func295 ?_;refine bk aa rF ?_;exact bE rF
abbrev ahv:cV Tryz.prog 295 where
 pre:=λW bs aj=>∃(a:Nat) (s:ao),aj=[.val (.agg #[.int .i64 (a:Nat),.string s])]
 res:=λ_ aj=>.int .i64 1
 enters:=Tryz.call295
 ok:=by
  intro W w bs us aj ad hu hp;obtain⟨a,s,rfl⟩:=hp
  match us,hu with
  |[x],hu=>obtain⟨rfl,_⟩:=hu;exact ay2 a s w
def ay3(a:Nat)(s:ao)(w:ar):cQ 296 #[.agg #[a,s]] w (.int .i64 (a:Nat)):=by refine cB (nt:=5) [.tmp 2] Tryz.func296 ?_;refine bk aa rF ?_;exact bE rF
abbrev ahw:cV Tryz.prog 296 where
 pre:=λW bs aj=>∃(a:Nat) (s:ao),aj=[.val (.agg #[.int .i64 (a:Nat),.string s])]
 res:=λ_ aj=>match aj with
  |[.val (.agg cs)]=>cs.getD 0 undef
  |_=>undef
 enters:=Tryz.call296
 ok:=by
  intro W w bs us aj ad hu hp;obtain⟨a,s,rfl⟩:=hp
  match us,hu with
  |[x],hu=>obtain⟨rfl,_⟩:=hu;exact ay3 a s w
def ay4(a:Nat)(s:aM)(w:ar):cQ 297 #[.agg #[a,s]] w (.int .i64 2):=by refine cB (nt:=3) [.tmp 2] Tryz.func297 ?_;refine bk aa rF ?_;exact bE rF
abbrev ahx:cV Tryz.prog 297 where
 pre:=λW bs aj=>∃(a:Nat) (s:aM),aj=[.val (.agg #[.int .i64 (a:Nat),s])]
 res:=λ_ aj=>.int .i64 2
 enters:=Tryz.call297
 ok:=by
  intro W w bs us aj ad hu hp;obtain⟨a,s,rfl⟩:=hp
  match us,hu with
  |[x],hu=>obtain⟨rfl,_⟩:=hu;exact ay4 a s w
def ay5(a:Nat)(s:aM)(w:ar):cQ 298 #[.agg #[a,s]] w (.int .i64 (a:Nat)):=by refine cB (nt:=5) [.tmp 2] Tryz.func298 ?_;refine bk aa rF ?_;exact bE rF
abbrev ahy:cV Tryz.prog 298 where
 pre:=λW bs aj=>∃(a:Nat) (s:aM),aj=[.val (.agg #[.int .i64 (a:Nat),s])]
 res:=λ_ aj=>match aj with
  |[.val (.agg cs)]=>cs.getD 0 undef
  |_=>undef
 enters:=Tryz.call298
 ok:=by
  intro W w bs us aj ad hu hp;obtain⟨a,s,rfl⟩:=hp
  match us,hu with
  |[x],hu=>obtain⟨rfl,_⟩:=hu;exact ay5 a s w
def ay6(v:aM)(w:ar):cQ 299 #[v] w (.int .i64 3):=by refine cB (nt:=3) [.tmp 2] Tryz.func299 ?_;refine bk aa rF ?_;exact bE rF
abbrev ahz:cV Tryz.prog 299 where
 pre:=λW bs aj=>∃v,aj=[.val v]
 res:=λ_ aj=>.int .i64 3
 enters:=Tryz.call299
 ok:=by
  intro W w bs us aj ad hu hp;obtain⟨v,rfl⟩:=hp
  match us,hu with
  |[x],hu=>obtain⟨rfl,_⟩:=hu;exact ay6 x w
def ay7(b a:Nat)(w:ar)(J:w.cell? ⟨b,0,none⟩=some (.int .i64 (a:Nat))):cQ 300 #[.pointer (some ⟨b,0,none⟩)] w (.int .i64 (a:Nat)):=by
 have Z:=afU b;refine cB (nt:=7) [.tmp 2] Tryz.func300 ?_;refine aA aa rF ?_;refine aL aa (I rF J) ?_ ?_
 ·first|trivial|exact Z
 exact bE rF
abbrev Sd:cV Tryz.prog 300 where
 pre:=λW bs aj=>∃(b a:Nat),aj=[.val (.pointer (some ⟨b,0,none⟩))]/\gd W (Out bs) b 0 (.int .i64 (a:Nat))
 res:=λW aj=>match aj with
  |[.val (.pointer (some a))]=>(W.cell? a).getD undef
  |_=>undef
 enters:=Tryz.call300
 ok:=by
  intro W w bs us aj ad hu hp;obtain⟨b,a,rfl,D⟩:=hp
  match us,hu with
  |[x],hu=>obtain⟨rfl,_⟩:=hu;simp only[D.2,yH];exact ay7 b a w (D.mono λb Z aE=>⟨ad.block b Z aE,by simp[Out]⟩:gd w (Out []) b 0 _).2
def ay8(v:aM)(w:ar):cQ 301 #[v] w (.int .i64 4):=by refine cB (nt:=3) [.tmp 2] Tryz.func301 ?_;refine bk aa rF ?_;exact bE rF
abbrev ahA:cV Tryz.prog 301 where
 pre:=λW bs aj=>∃v,aj=[.val v]
 res:=λ_ aj=>.int .i64 4
 enters:=Tryz.call301
 ok:=by
  intro W w bs us aj ad hu hp;obtain⟨v,rfl⟩:=hp
  match us,hu with
  |[x],hu=>obtain⟨rfl,_⟩:=hu;exact ay8 x w
def ay9(b a:Nat)(w:ar)(J:w.cell? ⟨b,0,none⟩=some (.int .i64 (a:Nat))):cQ 302 #[.pointer (some ⟨b,0,none⟩)] w (.int .i64 (a:Nat)):=by
 have Z:=afU b;refine cB (nt:=7) [.tmp 2] Tryz.func302 ?_;refine aA aa rF ?_;refine aL aa (I rF J) ?_ ?_
 ·first|trivial|exact Z
 exact bE rF
abbrev Se:cV Tryz.prog 302 where
 pre:=λW bs aj=>∃(b a:Nat),aj=[.val (.pointer (some ⟨b,0,none⟩))]/\gd W (Out bs) b 0 (.int .i64 (a:Nat))
 res:=λW aj=>match aj with
  |[.val (.pointer (some a))]=>(W.cell? a).getD undef
  |_=>undef
 enters:=Tryz.call302
 ok:=by
  intro W w bs us aj ad hu hp;obtain⟨b,a,rfl,D⟩:=hp
  match us,hu with
  |[x],hu=>obtain⟨rfl,_⟩:=hu;simp only[D.2,yH];exact ay9 b a w (D.mono λb Z aE=>⟨ad.block b Z aE,by simp[Out]⟩:gd w (Out []) b 0 _).2
def ahB:mK Tryz.prog 190 "Kind":=hI 295 false (by kernel_rfl) (by kernel_rfl)
def ahC:mK Tryz.prog 190 "Place":=hI 296 false (by kernel_rfl) (by kernel_rfl)
def ahD:mK Tryz.prog 192 "Kind":=hI 297 false (by kernel_rfl) (by kernel_rfl)
def ahE:mK Tryz.prog 192 "Place":=hI 298 false (by kernel_rfl) (by kernel_rfl)
def ahF:mK Tryz.prog 193 "Kind":=hI 299 true (by kernel_rfl) (by kernel_rfl)
def ahG:mK Tryz.prog 193 "Place":=hI 300 true (by kernel_rfl) (by kernel_rfl)
def ahH:mK Tryz.prog 197 "Kind":=hI 301 true (by kernel_rfl) (by kernel_rfl)
def ahI:mK Tryz.prog 197 "Place":=hI 302 true (by kernel_rfl) (by kernel_rfl)
def Bx:(f:dr)->Option (LE.Spec Tryz.prog f)
 |295=>some ahv.spec
 |296=>some ahw.spec
 |297=>some ahx.spec
 |298=>some ahy.spec
 |299=>some ahz.spec
 |300=>some Sd.spec
 |301=>some ahA.spec
 |302=>some Se.spec
 |_=>none
def w9:(t:a6)->(name:String)->Option (mK Tryz.prog t name)
 |190, "Kind"=>some ahB
 |190, "Place"=>some ahC
 |192, "Kind"=>some ahD
 |192, "Place"=>some ahE
 |193, "Kind"=>some ahF
 |193, "Place"=>some ahG
 |197, "Kind"=>some ahH
 |197, "Place"=>some ahI
 |_,_=>none
def X2{Γ:Env Tryz.prog}(hm:Γ.mt=w9)(V:∀f s,Bx f=some s->Γ.sp f=some s){v:aM}(h:dB W (Out bs) v t)(aV:gC t):
  hN Γ W bs κ hh "Place" [.v v]=⟨True,(sJ t),[],none,[],[]⟩:=by
 have key:∀{p:Prop} {x:ag},p->(⟨p,x,[],none,[],[]⟩:R)=⟨True,x,[],none,[],[]⟩:=λ{p x} hp=>by rw[DF hp]
 cases t with
 |text a s=>obtain rfl:v=_:=h;simp only[hN,hm,w9,ahC,hI,iL,V 296 _ rfl];exact key (x:=.v (.int .i64 _)) (show ahw.pre W bs _ from⟨a,s,rfl⟩)
 |rx a r=>obtain rfl:v=_:=h;simp only[hN,hm,w9,ahE,hI,iL,V 298 _ rfl];exact key (x:=.v (.int .i64 _)) (show ahy.pre W bs _ from⟨a,_,rfl⟩)
 |canon c=>
  obtain⟨p,rfl,J⟩:=h;cases J with
  |nil=>exact absurd rfl aV.2
  |mk b a op n to dA gZ ik x y A D O B aU bn cA c1 oq=>
   simp only[hN,hm,w9,ahG,hI,iL,V 300 _ rfl];refine(key (x:=.v (Sd.res W [.val (.pointer (some ⟨b,0,none⟩))])) (show Sd.pre W bs _ from⟨b,a,rfl,A⟩)).trans ?_;have e:Sd.res W [.val (.pointer (some ⟨b,0,none⟩))]=.int .i64 (a:Nat):=by show(W.cell? ⟨b,0,none⟩).getD undef=_;rw[A.2];rfl
   rw[e];rfl
 |lens c=>
  obtain⟨p,rfl,J⟩:=h;cases J with
  |nil=>exact absurd rfl aV.2
  |mk b a op n cx qL gZ ik q x y A D O B aU bn cA c1 oq uy=>
   simp only[hN,hm,w9,ahI,hI,iL,V 302 _ rfl];refine(key (x:=.v (Se.res W [.val (.pointer (some ⟨b,0,none⟩))])) (show Se.pre W bs _ from⟨b,a,rfl,A⟩)).trans ?_;have e:Se.res W [.val (.pointer (some ⟨b,0,none⟩))]=.int .i64 (a:Nat):=by show(W.cell? ⟨b,0,none⟩).getD undef=_;rw[A.2];rfl
   rw[e];rfl
def ahJ{Γ:Env Tryz.prog}(hm:Γ.mt=w9)(V:∀f s,Bx f=some s->Γ.sp f=some s){v:aM}(h:dB W (Out bs) v t)(aV:gC t):
  hN Γ W bs κ hh "Kind" [.v v]=⟨True,(k7 t),[],none,[],[]⟩:=by
 have key:∀{p:Prop} {x:ag},p->(⟨p,x,[],none,[],[]⟩:R)=⟨True,x,[],none,[],[]⟩:=λ{p x} hp=>by rw[DF hp]
 cases t with
 |text a s=>obtain rfl:v=_:=h;simp only[hN,hm,w9,ahB,hI,iL,V 295 _ rfl];exact key (x:=.v (.int .i64 _)) (show ahv.pre W bs _ from⟨a,s,rfl⟩)
 |rx a r=>obtain rfl:v=_:=h;simp only[hN,hm,w9,ahD,hI,iL,V 297 _ rfl];exact key (x:=.v (.int .i64 _)) (show ahx.pre W bs _ from⟨a,_,rfl⟩)
 |canon c=>obtain⟨p,rfl,J⟩:=h;simp only[hN,hm,w9,ahF,hI,iL,V 299 _ rfl];exact key (x:=.v (.int .i64 _)) (show ahz.pre W bs _ from⟨p,rfl⟩)
 |lens c=>obtain⟨p,rfl,J⟩:=h;simp only[hN,hm,w9,ahH,hI,iL,V 301 _ rfl];exact key (x:=.v (.int .i64 _)) (show ahA.pre W bs _ from⟨p,rfl⟩)
abbrev ahK:Env Tryz.prog:=a7 auO.spec aa
def Sf:=(b3 rF (uf pD) @iR @vq)
def aza(r:bm)(w:ar)(aI:aG r<=4000000)(aK:gl w (Out [])):cQ 101 #[cz r] w (.string (hA (some r))):=by
 have Z:=vA r;refine cB (nt:=7) [.tmp 2] Tryz.func101 ?_;refine aA ahK Sf ?_;refine aL ahK (I Sf @dU) ?_ ?_
 ·exact⟨⟨aI,aK⟩,by have e:(⟨#[47]⟩:ao).size=1:=rfl;omega,by have e:(⟨#[47]⟩:ao).size=1:=rfl;omega⟩
 exact bE Sf
abbrev azb:cV Tryz.prog 101:=kH (λ| [.val mo]=>dec cz mo|_=>none) (λav W bs=>aG av<=4000000/\gl W (Out bs)) Tryz.call101 λav W w bs ad hp=>aza av w hp.1 (hp.2.km ad bq)
def strOf:Value->ByteArray
 |.string s=>s
 |_=>⟨#[]⟩
def Sg(l:List ByteArray):(l.map Value.string).map strOf=l:=by rw[DC];exact List.map_id'' (λ_=>rfl) l
def Sh:cV Tryz.prog 100 where
 pre:=λW bs aj=>∃l:List ByteArray,aj=[.row 9 1 l.length (l.map Value.string),.val (.string n0)]/\l.length<=1000/\(iY l).size<=140737488351232
 res:=λ_ aj=>match aj with
  |[.row _ _ _ vs,_]=>.string (iY (vs.map strOf))
  |_=>undef
 enters:=Tryz.call100
 ok:=by
  intro W w bs us aj ad hu hp;obtain⟨l,rfl,D,O⟩:=hp
  match us,hu with
  |[x,y],hu=>
   obtain⟨⟨aN,aB⟩,rfl,_⟩:=hu;have e:iY ((l.map Value.string).map strOf)=iY l:=by rw[Sg]
   simp only[e];have bx:(Lib.join (l.map (·.data.toList)) n0.data.toList).length<=140737488355328:=by
    have:(iY l).size=(Lib.join (l.map (·.data.toList)) n0.data.toList).length:=by unfold iY;simp[ByteArray.size]
    omega
   rcases aB with⟨rfl,A⟩|⟨g,cap,cur,rfl,_,aK,aE,Ml,bP,As⟩
   ·obtain rfl:l=[]:=ZF.1 A;exact(Tryz.strings_Join_none none 0 n0 w).mono λe M ⟨D,O⟩=>⟨D,O▸cr.refl w _⟩
   ·refine(Tryz.strings_Join g 0 cap l n0 w (λj x Y=>?_) ?_ U aE bx).mono λe M ⟨D,O⟩=>⟨D,LE.cr.ZP O⟩
    ·have hW:(l.map Value.string)[j]?=some (.string x):=by rw[yG,Y];rfl
     rw[<- As,Ig]at hW;split at hW
     ·simp only[World.cell?,aK];simpa using hW
     ·cases hW
    ·rcases Lf g w.heap.size with h|h
     ·exact h
     ·rw[ON h]at aK;cases aK
def azc(W:ar)(n:Nat)(l:List ByteArray)(x:br):Sh.res W [.row 9 1 n (l.map Value.string),x]=.string (iY l):=by show Value.string (iY ((l.map Value.string).map strOf))=_;rw[Sg]
def azd(W:ar)(bs:aD)(l:List ByteArray):Sh.pre W bs [.row 9 1 l.length (l.map Value.string),.val (.string ⟨#[44]⟩)]=(l.length<=1000/\(iY l).size<=140737488351232):=by
 apply propext;constructor
 ·rintro⟨kU,D,O⟩;simp only[pZ,br.row.injEq]at D;have e:l=kU:=by rw[<- Sg l,D.1.2.2.2,Sg]
  rw[e];exact O
 ·exact λh=>⟨l,rfl,h⟩
def ahL:List ag->List Nat
 |[_,.ak r,.own k _]=>[k,r]
 |_=>[]
theorem aze(x:ag)(r k o:Nat):ahL [x,.ak r,.own k o]=[k,r]:=rfl
def ahM{P:bR}{f:dr}(p:Gs P f)(g:List ag->List Nat):LE.Spec P f where
 aJ:=λW bs κ h args=>Ef κ (g args) h args p.args p.L p.jw p.val (p.pre W bs)
 Ar:=λW bs κ E F h w K args=>(p.spec (g args)).Ar W bs κ E F h w K args
 keys:=λW bs κ h K args=>(p.spec (g args)).keys W bs κ h K args
 loc:=λW bs κ h bu args=>(p.spec (g args)).loc W bs κ h bu args
theorem azf{P:bR}{f:dr}(p:Gs P f)(g:List ag->List Nat)(W:ar)(bs:aD)(κ:Nat)(h:ca)(args:List ag):(ahM p g).aJ W bs κ h args=Ef κ (g args) h args p.args p.L p.jw p.val (p.pre W bs):=rfl
def Oa:Env Tryz.prog:=⟨λ| 39=>some aes.spec|100=>some Sh.spec|f=>Bx f,λ_=>none,w9⟩
theorem azg:Oa.sp 39=some aes.spec:=rfl
theorem azh:Oa.sp 100=some Sh.spec:=rfl
def azi{v:aM}(h:dB W (Out bs) v t)(aV:gC t):hN Oa W bs κ hh "Place" [.v v]=⟨True,(sJ t),[],none,[],[]⟩:=
 X2 rfl (λf s aW=>by
  unfold Bx at aW
  split at aW<;>cases aW<;>rfl) h aV
def azj(h:gC t):sJ t<=4096:=by
 cases t with
 |text a s=>exact h.1
 |rx a r=>exact h
 |canon c=>
  cases c with
  |nil=>exact absurd rfl h.2
  |mk a op n to dA x y=>exact(by have:=h.1;simp only[o9]at this;exact this.1)
 |lens l=>
  cases l with
  |nil=>exact absurd rfl h.2
  |mk a op n cx q x y=>exact(by have:=h.1;simp only[pb]at this;exact this.1)
def dB.parts{S:aY}{v:aM}(h:dB W S v t):partsOf (.v v)=[.v v]:=by obtain⟨k,u,rfl⟩:=h.iface;rfl
def HN(l:List ByteArray):List ag:=l.map λs=>.v (.string s)
def azk(l:List ByteArray):jO (HN l)=some (l.map Value.string):=by
 induction l with
 |nil=>rfl
 |cons x l bb=>show(jO (HN l)).map (Value.string x::·)=_;rw[bb];rfl
def azl(l:List ByteArray):cP (HN l)=[]:=by
 induction l with
 |nil=>rfl
 |cons x l bb=>show []++cP (HN l)=[];rw[bb];rfl
def Si:=(ch Sf (uf pD) @azc @azd @wy.eq_1 @wy.eq_2 @azg (aT @azh @azk @dH.eq_29))
def azm(word:ao)(l:List ByteArray)(v:aM)(t:cl)(w:ar)(fp:aD)(E:dF)(F:lK)(V:an w fp E F (bA [(0,.cells 54 [v]),(1,.row 9 1 l.length (HN l))]) w)
  (au:dB w (Out fp) v t) (aV:gC t) (hw:word.size<=4096) (aN:l.length<=1000/\(iY l).size<=4294967296) (bJ:wX w (Out fp)) :
  Calls Tryz.prog 99 (ba E [word,.ak 1,.own 0 0]).toArray w λe M=>∃cK fC,e=.returned (den cK (.v (.string (gy (sJ t) word l))))/\(∀k∈[0],cK k=E k)/\an w fp cK fC (bA [(0,.cells 54 [v])]) M:=by
 have s0:=λκ hh=>azi (κ:=κ) (hh:=hh) au aV
 have aQ:=azj aV;have aE:=Rq (n:=(sJ t:Nat)) U U;obtain⟨vR,X3⟩:=aN;refine acL (nt:=17) [.tmp 5] V ?_ ?_ Tryz.func99 rfl rfl rfl ?_
 ·simp[F8,wy,eJ.keys,ag.keys,bL.keys,azl,cP]
 ·simp
 refine aA Oa Si ?_;refine aL Oa (b3 Si s0 au.parts @dU) ?_ ?_
 ·have bg:(⟨#[64]⟩:ao).size=1:=rfl;have bN:(⟨#[40]⟩:ao).size=1:=rfl;have dQ:(⟨#[41]⟩:ao).size=1:=rfl;exact⟨U,⟨⟨U,U⟩,bJ⟩,U,U,⟨vR,U⟩,U,U⟩
 refine bf Si ?_;exact Qp (λk=>.key k) (de Si @gy.eq_1 @Hw.eq_1 @Hx.eq_1 @Hy.eq_1)
def ahN(word:ao)(l:List ByteArray)(v:aM)(t:cl):Gs Tryz.prog 99 where
 args:=[.v (.string word),.ak 1,.own 0 0]
 L:=[(0,.cells 54 [.v v]),(1,.row 9 1 l.length (HN l))]
 val:=.v (.string (gy (sJ t) word l))
 jw := [(0,.cells 54 [.v v])]
 ir:=[0]
 pre:=λW bs=>(dB W (Out bs) v t/\gC t)/\word.size<=4096/\(l.length<=1000/\(iY l).size<=4294967296)/\wX W (Out bs)
 low:=by simp
 kept:=by simp
 Qm:=by simp[ag.keys]
 Gt:=by simp[bL.keys,cP,ag.keys]
 aH:=by simp
 enters:=Tryz.call99
 ok:=by intro W w bs fp E F ad hm V hp;obtain⟨⟨D,O⟩,B,aU,bn⟩:=hp;exact azm word l v t w fp E F V (D.mono λb Z aE=>⟨ad.block b Z aE,λdO=>(hm b dO).elim (λg=>absurd g (rG.2 Z)) aE⟩) O B aU (bn.km ad hm)
def HO(W:ar)(S:aY):Prop:=gl W S/\wX W S
abbrev z1 (t:cl):Prop:=gC t/\dK t<=8192
abbrev HP (n:Nat):Prop:=∀(t:cl) (v:aM) (w:ar),dB w (Out []) v t->z1 t->jm t<n->HO w (Out [])->cQ 59 #[v] w (.string (iZ t))
def Sj(h:HP n):cV Tryz.prog 59 where
 pre:=λW bs aj=>∃v t,aj=[.val v]/\dB W (Out bs) v t/\z1 t/\jm t<n/\HO W (Out bs)
 res:=λW aj=>match aj with
  |[.val v]=>.string (iZ (jl W v))
  |_=>undef
 enters:=Tryz.call59
 ok:=by
  intro W w bs us aj ad hu hp;obtain⟨v,t,rfl,D,O,B,aU⟩:=hp
  match us,hu with
  |[x],hu=>obtain⟨rfl,_⟩:=hu;simp only[lG D];exact h t x w (D.mono λb Z aE=>⟨ad.block b Z aE,by simp[Out]⟩) O B ⟨aU.1.km ad bq,aU.2.km ad bq⟩
def ahO(h:HP n)(W:ar)(bs:aD)(v:aM):(Sj n h).pre W bs [.val v]=∃t,dB W (Out bs) v t/\z1 t/\jm t<n/\HO W (Out bs):=by
 apply propext;constructor
 ·rintro⟨eT,t,D,O⟩;cases D;exact⟨t,O⟩
 ·exact λ⟨t,O⟩=>⟨v,t,rfl,O⟩
theorem ahP(h:HP n)(W:ar)(v:aM):(Sj n h).res W [.val v]=.string (iZ (jl W v)):=rfl
section
variable (n:Nat)(h:HP n)(word:ao)(l:List ByteArray)(v:aM)(t:cl)
abbrev sQ:Env Tryz.prog:=a7 ((Sj n h).spec) (a7 azb.spec (a7 Xq.spec (a7 (ahM (ahN word l v t) ahL) aa)))
end
def eP:=(de (ch ez @azf @aze @Ef.eq_1 @mM.eq_1 @mM.eq_2 @gU.eq_1 @gU.eq_2) (ch @gU.eq_3 @gU.eq_4 @gU.eq_5 @gU.eq_6 @gU.eq_7 @gU.eq_8 @xN.eq_1 @xN.eq_2) (ch @pz.eq_1 @pz.eq_2 @tg.eq_1 @tg.eq_2 @lR.eq_1 @lR.eq_2 @lR.eq_3 @lR.eq_4) (ch @ml.eq_1 @mp.eq_1 @PZ @Ve @Vf @iR @vq @ahO) (eI @ahP (uf pD) @aw4 @aw3 @ahN.eq_1 @HN.eq_1))
def azn(h:HP n):HP (n+1):=by
 intro t v w au gj ak aK;have Bv:=au.parts;have fI:=au;have bW:=gj.1;have bP:=gj.2;have bJ:=aK.2;refine cB (nt:=260) [.tmp 2] Tryz.func59 ?_;refine aA aa (I eP Bv) ?_;refine gJ aa eP ?_;cases t with
 |text a s=>
  obtain rfl:v=_:=au;have Kr:a<=4096/\s.size<=4096:=bW;have z:=EK s;have j5:(e9 s).size<=400000000:=U;have Y:=rC [e9 s];simp only[fc,jc,sk,sl]at Y;have kz:(iY [e9 s]).size<=4294967296:=U;have aZ:iZ (.text a s)=gy a C0 [e9 s]:=rfl;rw[aZ]
  refine dL aa eP ?_;refine aL (sQ n h C0 [e9 s] (.iface 190 (.agg #[a,s])) (.text a s)) (I eP @C0.eq_1) ?_ ?_
  ·exact⟨U,aq,⟨fI,bW⟩,aq,kz,bJ⟩
  exact bE eP
 |rx a r=>
  obtain rfl:v=_:=au;have aE:=yq (some r);have ahQ:aG r<=8192:=bP;have Ks:eA (some r)=aG r:=rfl;have j5:(hA (some r)).size<=400000000:=U;have Y:=rC [hA (some r)];simp only[fc,jc,sk,sl]at Y;have kz:(iY [hA (some r)]).size<=4294967296:=U
  have aZ:iZ (.rx a r)=gy a C1 [hA (some r)]:=rfl;rw[aZ];refine gJ aa eP ?_;refine aL aa eP ?_ ?_
  ·exact iR r
  refine aL (sQ n h C1 [hA (some r)] (.iface 192 (.agg #[a,cz r])) (.rx a r)) (I eP @C1.eq_1) ?_ ?_
  ·exact⟨⟨U,aK.1⟩,aq,⟨fI,bW⟩,aq,kz,bJ⟩
  exact bE eP
 |canon c=>
  obtain⟨p,rfl,gX⟩:=au;refine y9 aa eP ?_;cases gX with
  |nil=>exact absurd rfl bW.2
  |mk b a op aH to dA gZ ik x y A D O B aU bn cA aB cG=>
   have Kr:=bW.1;simp only[o9]at Kr;obtain⟨pA,e8,dz,kn,om,te,l4⟩:=Kr;simp only[jm,zO]at ak;have Kt:1+eA aH+fO x+fO y<=8192:=by simp only[dK,fO]at bP;omega
   have xa:=EK to;have ahR:=EK dA;have Sk:=NZ x om;have azo:=NZ y te;have cx:jl w (.iface 193 gZ)=.canon x:=lG (S:=Out []) ⟨gZ,rfl,aB⟩;have ty:jl w (.iface 193 ik)=.canon y:=lG (S:=Out []) ⟨ik,rfl,cG⟩;have Da:dB w (Out []) (.iface 193 gZ) (.canon x):=⟨gZ,rfl,aB⟩
   have X4:dB w (Out []) (.iface 193 ik) (.canon y):=⟨ik,rfl,cG⟩;have Db:x≠.nil->z1 (.canon x):=λaE=>⟨⟨om,aE⟩,by simp only[dK];omega⟩
   have X5:y≠.nil->z1 (.canon y):=λaE=>⟨⟨te,aE⟩,by simp only[dK];omega⟩
   have ex:iZ (.canon x)=gQ x:=rfl;have X6:iZ (.canon y)=gQ y:=rfl;have Dc:jm (.canon x)<n:=by simp only[jm];omega
   have X7:jm (.canon y)<n:=by simp only[jm];omega
   refine bk aa eP ?_;refine dL aa (I eP D.2) ?_;refine aR aa eP ?_ ?_<;>intro J
   ·have H:op=jE\/op=ke:=.inl (jG J);have C8:=J;refine a1 ?_;refine bC eP ?_ ?_<;>intro J
    rotate_left
    ·rw[C8]at J;cases J
    have qS:aH≠none:=by rw[NW (.inl H)]at l4;exact l4
    obtain⟨r,rfl⟩:∃r,aH=some r:=by
     cases aH with
     |none=>exact absurd rfl qS
     |some r=>exact⟨r,rfl⟩
    have g2:w.cell? ⟨b,0+2,none⟩=some (cz r):=O.2;have jn:=yq (some r);have Ks:eA (some r)=aG r:=rfl;have j5:(hA (some r)).size<=400000000:=U;have Y:=rC [hA (some r)];simp only[fc,jc,sk,sl]at Y;have kz:(iY [hA (some r)]).size<=4294967296:=U
    have aZ:iZ (.canon (.mk a op (some r) to dA x y))=gy a op [hA (some r)]:=by show gQ _=_;rw[gQ,al H]
    rw[aZ];refine dh (sQ n h op [hA (some r)] (.iface 193 (.pointer (some ⟨b,0,none⟩))) (.canon (.mk a op (some r) to dA x y))) (aT eP D.2 g2) ?_ ?_
    ·exact⟨⟨U,aK.1⟩,aq,⟨fI,bW⟩,e8,kz,bJ⟩
    exact bE eP
   have X8:¬op=jE:=jH J;refine bY aa eP ?_;refine bC eP ?_ ?_<;>intro J
   ·have H:op=jE\/op=ke:=.inr (jG J);have qS:aH≠none:=by rw[NW (.inl H)]at l4;exact l4
    obtain⟨r,rfl⟩:∃r,aH=some r:=by
     cases aH with
     |none=>exact absurd rfl qS
     |some r=>exact⟨r,rfl⟩
    have g2:w.cell? ⟨b,0+2,none⟩=some (cz r):=O.2;have jn:=yq (some r);have Ks:eA (some r)=aG r:=rfl;have j5:(hA (some r)).size<=400000000:=U;have Y:=rC [hA (some r)];simp only[fc,jc,sk,sl]at Y;have kz:(iY [hA (some r)]).size<=4294967296:=U
    have aZ:iZ (.canon (.mk a op (some r) to dA x y))=gy a op [hA (some r)]:=by show gQ _=_;rw[gQ,al H]
    rw[aZ];refine dh (sQ n h op [hA (some r)] (.iface 193 (.pointer (some ⟨b,0,none⟩))) (.canon (.mk a op (some r) to dA x y))) (aT eP D.2 g2) ?_ ?_
    ·exact⟨⟨U,aK.1⟩,aq,⟨fI,bW⟩,e8,kz,bJ⟩
    exact bE eP
   have hY:¬(op=jE\/op=ke):=λh=>h.elim X8 (jH J)
   refine aR aa eP ?_ ?_<;>intro J
   ·have H:op=fB:=jG J;have qS:aH≠none:=by rw[NW (.inr H)]at l4;exact l4
    obtain⟨r,rfl⟩:∃r,aH=some r:=by
     cases aH with
     |none=>exact absurd rfl qS
     |some r=>exact⟨r,rfl⟩
    have g2:w.cell? ⟨b,0+2,none⟩=some (cz r):=O.2;have jn:=yq (some r);have Ks:eA (some r)=aG r:=rfl;have j5:(hA (some r)).size<=400000000:=U;have qe:(e9 to).size<=400000000:=U;have oP:(e9 dA).size<=400000000:=U;have Y:=rC [hA (some r),e9 to,e9 dA]
    simp only[fc,jc,sk,sl]at Y;have kz:(iY [hA (some r),e9 to,e9 dA]).size<=4294967296:=U;have aZ:iZ (.canon (.mk a op (some r) to dA x y))=gy a op [hA (some r),e9 to,e9 dA]:=by show gQ _=_;rw[gQ,ab hY,al H]
    rw[aZ];refine dh (sQ n h op [hA (some r),e9 to,e9 dA] (.iface 193 (.pointer (some ⟨b,0,none⟩))) (.canon (.mk a op (some r) to dA x y))) (de eP D.2 g2 B.2 aU.2) ?_ ?_
    ·exact⟨⟨U,aK.1⟩,U,U,aq,⟨fI,bW⟩,e8,kz,bJ⟩
    exact bE eP
   have j3:¬op=fB:=jH J;refine aR aa eP ?_ ?_<;>intro J
   ·have H:op=eD:=jG J;have h6:x≠.nil:=by subst H;rw[XH]at l4;exact l4
    have j5:(gQ x).size<=400000000:=U;have Y:=rC [gQ x];simp only[fc,jc,sk,sl]at Y;have kz:(iY [gQ x]).size<=4294967296:=U;have aZ:iZ (.canon (.mk a op aH to dA x y))=gy a op [gQ x]:=by show gQ _=_;rw[gQ,ab hY,ab j3,al H]
    rw[aZ];refine dh (sQ n h op [gQ x] (.iface 193 (.pointer (some ⟨b,0,none⟩))) (.canon (.mk a op aH to dA x y))) (de eP D.2 bn.2 cx ex) ?_ ?_
    ·exact⟨⟨_,Da,Db h6,Dc,aK⟩,aq,⟨fI,bW⟩,e8,kz,bJ⟩
    exact bE eP
   have ns:¬op=eD:=jH J;refine a1 ?_;obtain⟨h6,X9⟩:x≠.nil/\y≠.nil:=by rw[zR,ab (λh=>h.elim hY j3),ab ns]at l4;exact l4
   have j5:(gQ x).size<=400000000:=U;have qe:(gQ y).size<=400000000:=U;have Y:=rC [gQ x,gQ y];simp only[fc,jc,sk,sl]at Y;have kz:(iY [gQ x,gQ y]).size<=4294967296:=U;have aZ:iZ (.canon (.mk a op aH to dA x y))=gy a op [gQ x,gQ y]:=by show gQ _=_;rw[gQ,ab hY,ab j3,ab ns]
   rw[aZ];refine dh (sQ n h op [gQ x,gQ y] (.iface 193 (.pointer (some ⟨b,0,none⟩))) (.canon (.mk a op aH to dA x y))) (ch eP D.2 bn.2 cx ex cA.2 ty X6) ?_ ?_
   ·exact⟨⟨_,Da,Db h6,Dc,aK⟩,⟨_,X4,X5 X9,X7,aK⟩,aq,⟨fI,bW⟩,e8,kz,bJ⟩
   exact bE eP
 |lens c=>
  obtain⟨p,rfl,gX⟩:=au;refine lv aa eP ?_;cases gX with
  |nil=>exact absurd rfl bW.2
  |mk b a op aH cx qL gZ ik q x y A D O B aU bn cA z aB cG=>
   have Kr:=bW.1;simp only[pb]at Kr;obtain⟨pA,e8,dz,kn,om,te,l4⟩:=Kr;simp only[jm,Bt]at ak;have Kt:1+eA aH+fO q+hz x+hz y<=8192:=by simp only[dK,hz]at bP;omega
   have xa:=EK cx;have aEs:=NZ q kn;have Sk:=XJ x om;have azo:=XJ y te;have RW:jl w (.iface 193 qL)=.canon q:=lG (S:=Out []) ⟨qL,rfl,z⟩;have HE:jl w (.iface 197 gZ)=.lens x:=lG (S:=Out []) ⟨gZ,rfl,aB⟩;have ty:jl w (.iface 197 ik)=.lens y:=lG (S:=Out []) ⟨ik,rfl,cG⟩
   have Xx:dB w (Out []) (.iface 193 qL) (.canon q):=⟨qL,rfl,z⟩;have Da:dB w (Out []) (.iface 197 gZ) (.lens x):=⟨gZ,rfl,aB⟩;have X4:dB w (Out []) (.iface 197 ik) (.lens y):=⟨ik,rfl,cG⟩;have ahS:q≠.nil->z1 (.canon q):=λaE=>⟨⟨kn,aE⟩,by simp only[dK];omega⟩
   have Db:x≠.nil->z1 (.lens x):=λaE=>⟨⟨om,aE⟩,by simp only[dK];omega⟩
   have X5:y≠.nil->z1 (.lens y):=λaE=>⟨⟨te,aE⟩,by simp only[dK];omega⟩
   have U2:iZ (.canon q)=gQ q:=rfl;have ex:iZ (.lens x)=eB x:=rfl;have X6:iZ (.lens y)=eB y:=rfl;have ahT:jm (.canon q)<n:=by simp only[jm];omega
   have Dc:jm (.lens x)<n:=by simp only[jm];omega
   have X7:jm (.lens y)<n:=by simp only[jm];omega
   refine bk aa eP ?_;refine dL aa (I eP D.2) ?_;refine aR aa eP ?_ ?_<;>intro J
   ·have H:op=iX\/op=nZ:=.inl (jG J);have C8:=J;refine a1 ?_;refine bC eP ?_ ?_<;>intro J
    rotate_left
    ·rw[C8]at J;cases J
    have qS:aH≠none:=by rw[NX (.inl H)]at l4;exact l4
    obtain⟨r,rfl⟩:∃r,aH=some r:=by
     cases aH with
     |none=>exact absurd rfl qS
     |some r=>exact⟨r,rfl⟩
    have g2:w.cell? ⟨b,0+2,none⟩=some (cz r):=O.2;have jn:=yq (some r);have Ks:eA (some r)=aG r:=rfl;have j5:(hA (some r)).size<=400000000:=U;have Y:=rC [hA (some r)];simp only[fc,jc,sk,sl]at Y;have kz:(iY [hA (some r)]).size<=4294967296:=U
    have aZ:iZ (.lens (.mk a op (some r) cx q x y))=gy a op [hA (some r)]:=by show eB _=_;rw[eB,al H]
    rw[aZ];refine dh (sQ n h op [hA (some r)] (.iface 197 (.pointer (some ⟨b,0,none⟩))) (.lens (.mk a op (some r) cx q x y))) (aT eP D.2 g2) ?_ ?_
    ·exact⟨⟨U,aK.1⟩,aq,⟨fI,bW⟩,e8,kz,bJ⟩
    exact bE eP
   have X8:¬op=iX:=jH J;refine bY aa eP ?_;refine bC eP ?_ ?_<;>intro J
   ·have H:op=iX\/op=nZ:=.inr (jG J);have qS:aH≠none:=by rw[NX (.inl H)]at l4;exact l4
    obtain⟨r,rfl⟩:∃r,aH=some r:=by
     cases aH with
     |none=>exact absurd rfl qS
     |some r=>exact⟨r,rfl⟩
    have g2:w.cell? ⟨b,0+2,none⟩=some (cz r):=O.2;have jn:=yq (some r);have Ks:eA (some r)=aG r:=rfl;have j5:(hA (some r)).size<=400000000:=U;have Y:=rC [hA (some r)];simp only[fc,jc,sk,sl]at Y;have kz:(iY [hA (some r)]).size<=4294967296:=U
    have aZ:iZ (.lens (.mk a op (some r) cx q x y))=gy a op [hA (some r)]:=by show eB _=_;rw[eB,al H]
    rw[aZ];refine dh (sQ n h op [hA (some r)] (.iface 197 (.pointer (some ⟨b,0,none⟩))) (.lens (.mk a op (some r) cx q x y))) (aT eP D.2 g2) ?_ ?_
    ·exact⟨⟨U,aK.1⟩,aq,⟨fI,bW⟩,e8,kz,bJ⟩
    exact bE eP
   have hY:¬(op=iX\/op=nZ):=λh=>h.elim X8 (jH J)
   refine aR aa eP ?_ ?_<;>intro J
   ·have H:op=nz:=jG J;have qS:aH≠none:=by rw[NX (.inr H)]at l4;exact l4
    obtain⟨r,rfl⟩:∃r,aH=some r:=by
     cases aH with
     |none=>exact absurd rfl qS
     |some r=>exact⟨r,rfl⟩
    have g2:w.cell? ⟨b,0+2,none⟩=some (cz r):=O.2;have jn:=yq (some r);have Ks:eA (some r)=aG r:=rfl;have j5:(hA (some r)).size<=400000000:=U;have qe:(e9 cx).size<=400000000:=U;have Y:=rC [hA (some r),e9 cx];simp only[fc,jc,sk,sl]at Y
    have kz:(iY [hA (some r),e9 cx]).size<=4294967296:=U;have aZ:iZ (.lens (.mk a op (some r) cx q x y))=gy a op [hA (some r),e9 cx]:=by show eB _=_;rw[eB,ab hY,al H]
    rw[aZ];refine dh (sQ n h op [hA (some r),e9 cx] (.iface 197 (.pointer (some ⟨b,0,none⟩))) (.lens (.mk a op (some r) cx q x y))) (b3 eP D.2 g2 B.2) ?_ ?_
    ·exact⟨⟨U,aK.1⟩,U,aq,⟨fI,bW⟩,e8,kz,bJ⟩
    exact bE eP
   have j3:¬op=nz:=jH J;refine aR aa eP ?_ ?_<;>intro J
   ·have H:op=fX:=jG J;have j5:(e9 cx).size<=400000000:=U;have Y:=rC [e9 cx];simp only[fc,jc,sk,sl]at Y;have kz:(iY [e9 cx]).size<=4294967296:=U;have aZ:iZ (.lens (.mk a op aH cx q x y))=gy a op [e9 cx]:=by
     show eB _=_;rw[eB,ab hY,ab j3,al H]
    rw[aZ];refine dh (sQ n h op [e9 cx] (.iface 197 (.pointer (some ⟨b,0,none⟩))) (.lens (.mk a op aH cx q x y))) (aT eP D.2 B.2) ?_ ?_
    ·exact⟨U,aq,⟨fI,bW⟩,e8,kz,bJ⟩
    exact bE eP
   have ns:¬op=fX:=jH J;refine ae.seq ?_;refine aR aa eP ?_ ?_<;>intro J
   ·have H:op=eD\/op=nA:=.inl (jG J);have C8:=J;refine a1 ?_;refine bC eP ?_ ?_<;>intro J
    rotate_left
    ·rw[C8]at J;cases J
    have h6:x≠.nil:=by rw[Kk (.inl H)]at l4;exact l4
    have j5:(eB x).size<=400000000:=U;have Y:=rC [eB x];simp only[fc,jc,sk,sl]at Y;have kz:(iY [eB x]).size<=4294967296:=U;have aZ:iZ (.lens (.mk a op aH cx q x y))=gy a op [eB x]:=by show eB _=_;rw[eB,ab hY,ab j3,ab ns,al H]
    rw[aZ];refine dh (sQ n h op [eB x] (.iface 197 (.pointer (some ⟨b,0,none⟩))) (.lens (.mk a op aH cx q x y))) (de eP D.2 bn.2 HE ex) ?_ ?_
    ·exact⟨⟨_,Da,Db h6,Dc,aK⟩,aq,⟨fI,bW⟩,e8,kz,bJ⟩
    exact bE eP
   have azp:¬op=eD:=jH J;refine bY aa eP ?_;refine bC eP ?_ ?_<;>intro J
   ·have H:op=eD\/op=nA:=.inr (jG J);have h6:x≠.nil:=by rw[Kk (.inl H)]at l4;exact l4
    have j5:(eB x).size<=400000000:=U;have Y:=rC [eB x];simp only[fc,jc,sk,sl]at Y;have kz:(iY [eB x]).size<=4294967296:=U;have aZ:iZ (.lens (.mk a op aH cx q x y))=gy a op [eB x]:=by show eB _=_;rw[eB,ab hY,ab j3,ab ns,al H]
    rw[aZ];refine dh (sQ n h op [eB x] (.iface 197 (.pointer (some ⟨b,0,none⟩))) (.lens (.mk a op aH cx q x y))) (de eP D.2 bn.2 HE ex) ?_ ?_
    ·exact⟨⟨_,Da,Db h6,Dc,aK⟩,aq,⟨fI,bW⟩,e8,kz,bJ⟩
    exact bE eP
   have Dd:¬(op=eD\/op=nA):=λh=>h.elim azp (jH J)
   refine aR aa eP ?_ ?_<;>intro J
   ·have H:op=mZ:=jG J;obtain⟨h6,Ya⟩:x≠.nil/\q≠.nil:=by rw[NY (.inl H)]at l4;exact l4
    have j5:(gQ q).size<=400000000:=U;have qe:(eB x).size<=400000000:=U;have Y:=rC [gQ q,eB x];simp only[fc,jc,sk,sl]at Y;have kz:(iY [gQ q,eB x]).size<=4294967296:=U;have aZ:iZ (.lens (.mk a op aH cx q x y))=gy a op [gQ q,eB x]:=by show eB _=_;rw[eB,ab hY,ab j3,ab ns,ab Dd,al H]
    rw[aZ];refine dh (sQ n h op [gQ q,eB x] (.iface 197 (.pointer (some ⟨b,0,none⟩))) (.lens (.mk a op aH cx q x y))) (ch eP D.2 aU.2 RW U2 bn.2 HE ex) ?_ ?_
    ·exact⟨⟨_,Xx,ahS Ya,ahT,aK⟩,⟨_,Da,Db h6,Dc,aK⟩,aq,⟨fI,bW⟩,e8,kz,bJ⟩
    exact bE eP
   have Ku:¬op=mZ:=jH J;refine aR aa eP ?_ ?_<;>intro J
   ·have H:op=na:=jG J;obtain⟨h6,Ya⟩:x≠.nil/\q≠.nil:=by rw[NY (.inr H)]at l4;exact l4
    have j5:(eB x).size<=400000000:=U;have qe:(gQ q).size<=400000000:=U;have Y:=rC [eB x,gQ q];simp only[fc,jc,sk,sl]at Y;have kz:(iY [eB x,gQ q]).size<=4294967296:=U;have aZ:iZ (.lens (.mk a op aH cx q x y))=gy a op [eB x,gQ q]:=by show eB _=_;rw[eB,ab hY,ab j3,ab ns,ab Dd,ab Ku,al H]
    rw[aZ];refine dh (sQ n h op [eB x,gQ q] (.iface 197 (.pointer (some ⟨b,0,none⟩))) (.lens (.mk a op aH cx q x y))) (ch eP D.2 bn.2 HE ex aU.2 RW U2) ?_ ?_
    ·exact⟨⟨_,Da,Db h6,Dc,aK⟩,⟨_,Xx,ahS Ya,ahT,aK⟩,aq,⟨fI,bW⟩,e8,kz,bJ⟩
    exact bE eP
   have Yb:¬op=na:=jH J;refine aR aa eP ?_ ?_<;>intro J
   ·have H:op=nB:=jG J;have h6:x≠.nil:=by rw[Kk (.inr H)]at l4;exact l4
    have j5:(eB x).size<=400000000:=U;have qe:(e9 cx).size<=400000000:=U;have Y:=rC [eB x,e9 cx];simp only[fc,jc,sk,sl]at Y;have kz:(iY [eB x,e9 cx]).size<=4294967296:=U;have aZ:iZ (.lens (.mk a op aH cx q x y))=gy a op [eB x,e9 cx]:=by show eB _=_;rw[eB,ab hY,ab j3,ab ns,ab Dd,ab Ku,ab Yb,al H]
    rw[aZ];refine dh (sQ n h op [eB x,e9 cx] (.iface 197 (.pointer (some ⟨b,0,none⟩))) (.lens (.mk a op aH cx q x y))) (eI eP D.2 bn.2 HE ex B.2) ?_ ?_
    ·exact⟨⟨_,Da,Db h6,Dc,aK⟩,U,aq,⟨fI,bW⟩,e8,kz,bJ⟩
    exact bE eP
   have ahU:¬op=nB:=jH J;refine a1 ?_;obtain⟨h6,X9⟩:x≠.nil/\y≠.nil:=by rw[qN,ab (λh=>h.elim hY j3),ab ns,ab (λh=>h.elim Dd ahU),ab (λh=>h.elim Ku Yb)]at l4;exact l4
   have j5:(eB x).size<=400000000:=U;have qe:(eB y).size<=400000000:=U;have Y:=rC [eB x,eB y];simp only[fc,jc,sk,sl]at Y;have kz:(iY [eB x,eB y]).size<=4294967296:=U;have aZ:iZ (.lens (.mk a op aH cx q x y))=gy a op [eB x,eB y]:=by show eB _=_;rw[eB,ab hY,ab j3,ab ns,ab Dd,ab Ku,ab Yb,ab ahU]
   rw[aZ];refine dh (sQ n h op [eB x,eB y] (.iface 197 (.pointer (some ⟨b,0,none⟩))) (.lens (.mk a op aH cx q x y))) (ch eP D.2 bn.2 HE ex cA.2 ty X6) ?_ ?_
   ·exact⟨⟨_,Da,Db h6,Dc,aK⟩,⟨_,X4,X5 X9,X7,aK⟩,aq,⟨fI,bW⟩,e8,kz,bJ⟩
   exact bE eP
def ahV:∀n,HP n
 |0=>λt v w au gj ak=>absurd ak (wb _)
 |n+1=>azn n (ahV n)
end
end Go.Proofs.YtnemkecffmdlnaaGreatDoor
