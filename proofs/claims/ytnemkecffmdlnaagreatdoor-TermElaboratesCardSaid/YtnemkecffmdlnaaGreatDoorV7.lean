/-
 TermElaboratesCardSaid: TermElaborates returns true for every text, and leaves it as it was; the listed tables are tied to the program's text.
-/
import Derived.Test.YtnemkecffmdlnaaGreatDoorV6
import Derived.Shelf.Strings.OnBuilder
import Derived.Test.YtnemkecffmdlnaaGreatDoorProg
import Derived.Test.YtnemkecffmdlnaaGreatDoorRows
import Derived.JoinedCond
import Derived.Shelf.Vars
set_option linter.unusedSimpArgs false
set_option linter.unusedVariables false
set_option linter.defProp false
set_option maxHeartbeats 16000000
namespace Go.Proofs.YtnemkecffmdlnaaGreatDoor
section
open Go.RowKit Go.LE Go.Proofs.Tryz
set_option maxRecDepth 10000
def NZ(sub:List Tk->PR):Prop:=∀ r c j,sub r=.error (c,j)->c≠0
theorem QL{sub:List Tk->PR}(h:NZ sub)(lev:Int):∀ n a r c j,qu sub lev n a r=.error (c,j)->c≠0
 |0,a,r,c,j,he=>by cases he
 | n+1,a,r,c,j,he=>by
  rw[qu]at he;split at he
  ·split at he
   ·rename_i e hs;cases he;exact h _ _ _ hs
   ·exact QL h lev n _ _ _ _ he
  ·cases he
theorem aiH{sub:List Tk->PR}(h:NZ sub)(lev:Int):NZ (zv sub lev):=by
 intro r c j he;unfold zv at he;split at he
 ·rename_i e hs;cases he;exact h _ _ _ hs
 ·exact QL h lev _ _ _ _ _ he
theorem ai0{sub:List Tk->PR}(h:NZ sub):NZ (rz sub):=by
 intro r c j he;unfold rz at he;split at he
 ·rename_i e hs;cases he;exact h _ _ _ hs
 ·cases he
theorem NN{sub:List Tk->PR}(h:NZ sub):∀ k,NZ (Gt sub k)
 |0=>ai0 h
 |k+1=>aiH (NN h k) _
theorem Ql{ex:List Tk->PR}(h:NZ ex):∀ n k l r c j,nW ex n k l r=.error (c,j)->c≠0
 |0,k,l,r,c,j,he=>by cases he
 | n+1,k,l,r,c,j,he=>by
  rw[nW]at he;split at he
  ·cases he;decide
  ·split at he
   ·rename_i e hs;cases he;exact h _ _ _ hs
   ·exact Ql h n _ _ _ _ _ he
theorem Hr{m:ByteArray}{f:Ex->Ex}{q:PR}(h:∀ c j,q=.error (c,j)->c≠0){c:Int}{j:Nat}(he:dG m f q=.error (c,j)):c≠0:=by
 cases q with
 |error e=>
  cases he;exact h _ _ rfl
 | ok p=>
  obtain⟨x,r⟩:=p;have he' : (if jJ r m=true then (.ok (f x,r.tail):PR) else .error (60,(pk r).2.1))=.error (c,j):=he;split at he'
  ·cases he'
  ·cases he';decide
theorem GG{m:Option (List Tk->PR)}{r:List Tk}{b:ByteArray}{go:(List Tk->PR)->List Tk->PR}(h:∀ ex,m=some ex->∀ t c j,go ex t=.error (c,j)->c≠0){c:Int}{j:Nat}(he:gh m r b go=.error (c,j)):c≠0:=by
 unfold gh at he;split at he
 ·cases m with
  |none=>
   cases he;decide
  |some ex=>exact h ex rfl _ _ _ he
 ·cases he;decide
theorem I5{m:Option (List Tk->PR)}(hm:∀ ex,m=some ex->NZ ex):NZ (fT m):=by
 intro r c j he;unfold fT at he;split at he
 ·cases he
 split at he
 ·cases he
 split at he
 ·exact GG (λex hx t c j h=>Hr (λc j h=>Ql (hm ex hx) _ _ _ _ _ _ h) h) he
 split at he
 ·cases he
 split at he
 ·exact GG (λex hx t c j h=>Hr (λc j h=>hm ex hx _ _ _ h) h) he
 split at he
 ·exact GG (λex hx t c j h=>Hr (λc j h=>hm ex hx _ _ _ h) h) he
 ·cases he;decide
theorem I4:∀ m,NZ (nX m)
 |0=>I5 λex h=>by cases h
 |m+1=>I5 λex h=>by
  cases h;exact NN (I4 m) 5
theorem Q1{ex:List Tk->PR}(h:NZ ex):∀ n ds r c j,lR ex n ds r=.error (c,j)->c≠0
 |0,ds,r,c,j,he=>by
  cases he;decide
 | n+1,ds,r,c,j,he=>by
  rw[lR]at he;split at he
  ·split at he
   ·cases he;decide
   split at he
   ·cases he;decide
   split at he
   ·rename_i e hs;cases he;exact h _ _ _ hs
   split at he
   ·cases he;decide
   ·exact Q1 h n _ _ _ _ he
  ·split at he
   ·rename_i e hs;cases he;exact h _ _ _ hs
   split at he
   ·cases he
   ·cases he;decide
theorem ZY{s:ByteArray}{c:Int}{j:Nat}(h:tU s=.error (c,j)):c≠0:=by
 unfold tU at h;split at h
 ·split at h
  ·rename_i e hs;cases h;exact Q1 (NN (I4 64) 5) _ _ _ _ _ hs
  ·cases h
 ·rename_i h0;cases h;exact h0
end
end Go.Proofs.YtnemkecffmdlnaaGreatDoor
namespace Go.Proofs
section
open Go.Shelf
def Tryz.yZ:Go.Shelf.Ren:=⟨λ| 156=>100|165=>155|166=>37|169=>41|240=>75|241=>202|276=>130|277=>243|n=>n,λ| 31=>22|9=>9|3=>3|4=>4|0=>0|20=>20|72=>91|76=>94|70=>88|37=>89|75=>93|127=>162|164=>257|5=>5|80=>100|n=>n,λ| n=>n⟩
theorem Tryz.QG:Go.Proofs.Lays.n156 Tryz.prog Tryz.yZ:={
 mixed:=by kernel_rfl
 f156:=Tryz.func100.trans (congrArg some (by kernel_rfl))
 f165:=Tryz.func155.trans (congrArg some (by kernel_rfl))
 f166:=Tryz.func37.trans (congrArg some (by kernel_rfl))
 f169:=Tryz.func41.trans (congrArg some (by kernel_rfl))
 f240:=Tryz.func75.trans (congrArg some (by kernel_rfl))
 f241:=Tryz.func202.trans (congrArg some (by kernel_rfl))
 f276:=Tryz.func130.trans (congrArg some (by kernel_rfl))
 f277:=Tryz.func243.trans (congrArg some (by kernel_rfl))
 t0:=Tryz.underlying0
 a0:=Tryz.isAgg0
 z0:=Tryz.sizeOf0
 v0:=Tryz.zeroValue0
 t3:=Tryz.underlying3
 a3:=Tryz.isAgg3
 z3:=Tryz.sizeOf3
 v3:=Tryz.zeroValue3
 t4:=Tryz.underlying4
 a4:=Tryz.isAgg4
 z4:=Tryz.sizeOf4
 v4:=Tryz.zeroValue4
 t9:=Tryz.underlying9
 a9:=Tryz.isAgg9
 z9:=Tryz.sizeOf9
 v9:=Tryz.zeroValue9
 t20:=Tryz.underlying20
 a20:=Tryz.isAgg20
 z20:=Tryz.sizeOf20
 v20:=Tryz.zeroValue20
 t31:=Tryz.underlying22
 a31:=Tryz.isAgg22
 z31:=Tryz.sizeOf22
 v31:=Tryz.zeroValue22
 t37:=Tryz.underlying89
 a37:=Tryz.isAgg89
 z37:=Tryz.sizeOf89
 v37:=Tryz.zeroValue89
 t70:=Tryz.underlying88
 a70:=Tryz.isAgg88
 z70:=Tryz.sizeOf88
 v70:=Tryz.zeroValue88
 t72:=Tryz.underlying91
 a72:=Tryz.isAgg91
 z72:=Tryz.sizeOf91
 v72:=Tryz.zeroValue91
 t75:=Tryz.underlying93
 a75:=Tryz.isAgg93
 z75:=Tryz.sizeOf93
 v75:=Tryz.zeroValue93
 t76:=Tryz.underlying94
 a76:=Tryz.isAgg94
 z76:=Tryz.sizeOf94
 v76:=Tryz.zeroValue94
 t127:=Tryz.underlying162
 a127:=Tryz.isAgg162
 z127:=Tryz.sizeOf162
 v127:=Tryz.zeroValue162
 t164:=Tryz.underlying257
 a164:=Tryz.isAgg257
 z164:=Tryz.sizeOf257
 v164:=Tryz.zeroValue257 }
theorem Tryz.mL:Builder.Extra Tryz.prog Tryz.yZ:={
 sizeBuilder:=by kernel_rfl
 liesBuilder:=by kernel_rfl
 t5:=Tryz.underlying5
 a5:=Tryz.isAgg5
 z5:=Tryz.sizeOf5
 v5:=Tryz.zeroValue5
 infoByte:=by kernel_rfl
 cellsByte:=by kernel_rfl
 sizeByte:=by kernel_rfl
 neB5:=by decide }
open Go.RowKit in
theorem Tryz.strings_Join_none(a:Option Addr)(c:Nat)(sep:ByteArray)(w:World) :
  Calls Tryz.prog 100 #[.slice a 0 c,.string sep] w λe w' => e=.returned (.string ⟨#[]⟩)/\w' = w:=Any.strings_Join_none Tryz.QG Tryz.mL a c sep w
open Go.RowKit in
theorem Tryz.strings_Join(bk o c:Nat)(xs:List ByteArray)(sep:ByteArray)(w:World)(hcells:∀ (j:Nat) x,xs[j]?=some x->w.cell? ⟨bk,o+j,none⟩=some (.string x))(hbk:bk<w.heap.size)(hN:xs.length<=140737488355328)(hcap:xs.length<=c)(hlen:(Lib.join (xs.map (·.data.toList)) sep.data.toList).length<=140737488355328) :
  Calls Tryz.prog 100 #[.slice (some ⟨bk,o,none⟩) xs.length c,.string sep] w λe w' => e=.returned (.string ⟨(Lib.join (xs.map (·.data.toList)) sep.data.toList).toArray⟩)/\Below w.heap.size w w' := Any.strings_Join Tryz.QG Tryz.mL bk o c xs sep w hcells hbk hN hcap hlen
end
end Go.Proofs
namespace Go.Proofs.YtnemkecffmdlnaaGreatDoor
section
open Go Go.RowKit Go.LE
set_option maxRecDepth 10000
def kO:=(ae @List.replicate_succ.{0} @List.replicate_zero.{0} @au @ab kH kI kK (ae c8 da db dc ew ez eA (ae eB eC eD ajs ajt aju ajv (ae jw jx jy jz jA ib ic (ae ie ig pD pE pF pG pH (ae pI pJ pK pL nD nE nF (ae nG nH nI nJ nL nM pM (ae pN pO pP pQ pR pS pT (ae pU pV pW pX pY pZ p4 (ae p5 p6 p7 p8 lX lY lZ (ae l6 l7 l8 l9 ma mb mc (ae me mf mg mh mi mj ml (sn mm mn @aV @aw @aD @aG)))))))))))))
theorem Ty(a:Nat)(s:ByteArray)(w:World):Calls Tryz.prog 295 #[.agg #[.int .i64 (a:Nat),.string s]] w λe w' => e=.returned (.int .i64 1)/\an w [] w' := by
 refine ai (nt:=3) [.tmp 2] Tryz.func295 rfl rfl rfl ?_;refine vR Γ0 kO ?_;refine vR Γ0 kO ?_;refine wZ kO ?_;exact λE=>rfl
def XX:aY Tryz.prog 295 where
 pre:=λW bs as_=>∃ (a:Nat) (s:ByteArray),as_=[.val (.agg #[.int .i64 (a:Nat),.string s])]
 res:=λ_ as_=>.int .i64 1
 enters:=Tryz.call295
 ok:=by
  intro W w bs us as_ hk hu hp;obtain⟨a,s,rfl⟩:=hp
  match us,hu with
  |[x],hu=>
   obtain⟨rfl,_⟩:=hu;exact Ty a s w
theorem VA(a:Nat)(s:ByteArray)(w:World):Calls Tryz.prog 296 #[.agg #[.int .i64 (a:Nat),.string s]] w λe w' => e=.returned (.int .i64 (a:Nat))/\an w [] w' := by
 refine ai (nt:=5) [.tmp 2] Tryz.func296 rfl rfl rfl ?_;refine vR Γ0 kO ?_;refine vR Γ0 kO ?_;refine wZ kO ?_;exact λE=>rfl
def Z6:aY Tryz.prog 296 where
 pre:=λW bs as_=>∃ (a:Nat) (s:ByteArray),as_=[.val (.agg #[.int .i64 (a:Nat),.string s])]
 res:=λ_ as_=>match as_ with
  |[.val (.agg cs)]=>cs.getD 0 undef
  |_=>undef
 enters:=Tryz.call296
 ok:=by
  intro W w bs us as_ hk hu hp;obtain⟨a,s,rfl⟩:=hp
  match us,hu with
  |[x],hu=>
   obtain⟨rfl,_⟩:=hu;exact VA a s w
theorem Tz(a:Nat)(s:Value)(w:World):Calls Tryz.prog 297 #[.agg #[.int .i64 (a:Nat),s]] w λe w' => e=.returned (.int .i64 2)/\an w [] w' := by
 refine ai (nt:=3) [.tmp 2] Tryz.func297 rfl rfl rfl ?_;refine vR Γ0 kO ?_;refine vR Γ0 kO ?_;refine wZ kO ?_;exact λE=>rfl
def XY:aY Tryz.prog 297 where
 pre:=λW bs as_=>∃ (a:Nat) (s:Value),as_=[.val (.agg #[.int .i64 (a:Nat),s])]
 res:=λ_ as_=>.int .i64 2
 enters:=Tryz.call297
 ok:=by
  intro W w bs us as_ hk hu hp;obtain⟨a,s,rfl⟩:=hp
  match us,hu with
  |[x],hu=>
   obtain⟨rfl,_⟩:=hu;exact Tz a s w
theorem VB(a:Nat)(s:Value)(w:World):Calls Tryz.prog 298 #[.agg #[.int .i64 (a:Nat),s]] w λe w' => e=.returned (.int .i64 (a:Nat))/\an w [] w' := by
 refine ai (nt:=5) [.tmp 2] Tryz.func298 rfl rfl rfl ?_;refine vR Γ0 kO ?_;refine vR Γ0 kO ?_;refine wZ kO ?_;exact λE=>rfl
def Z7:aY Tryz.prog 298 where
 pre:=λW bs as_=>∃ (a:Nat) (s:Value),as_=[.val (.agg #[.int .i64 (a:Nat),s])]
 res:=λ_ as_=>match as_ with
  |[.val (.agg cs)]=>cs.getD 0 undef
  |_=>undef
 enters:=Tryz.call298
 ok:=by
  intro W w bs us as_ hk hu hp;obtain⟨a,s,rfl⟩:=hp
  match us,hu with
  |[x],hu=>
   obtain⟨rfl,_⟩:=hu;exact VB a s w
theorem TA(v:Value)(w:World):Calls Tryz.prog 299 #[v] w λe w' => e=.returned (.int .i64 3)/\an w [] w' := by
 refine ai (nt:=3) [.tmp 2] Tryz.func299 rfl rfl rfl ?_;refine vR Γ0 kO ?_;refine vR Γ0 kO ?_;refine wZ kO ?_;exact λE=>rfl
def XZ:aY Tryz.prog 299 where
 pre:=λW bs as_=>∃ v,as_=[.val v]
 res:=λ_ as_=>.int .i64 3
 enters:=Tryz.call299
 ok:=by
  intro W w bs us as_ hk hu hp;obtain⟨v,rfl⟩:=hp
  match us,hu with
  |[x],hu=>
   obtain⟨rfl,_⟩:=hu;exact TA x w
theorem VC(b a:Nat)(w:World)(hc:w.cell? ⟨b,0,none⟩=some (.int .i64 (a:Nat))):Calls Tryz.prog 300 #[.pointer (some ⟨b,0,none⟩)] w λe w' => e=.returned (.int .i64 (a:Nat))/\an w [] w' := by
 have hb:=aj9 b;refine ai (nt:=7) [.tmp 2] Tryz.func300 rfl rfl rfl ?_;refine vR Γ0 kO ?_;refine wR Γ0 (aa kO hc) ?_ ?_
 ·first|trivial|exact hb
 refine wZ kO ?_;exact λE=>rfl
noncomputable def HF:aY Tryz.prog 300 where
 pre:=λW bs as_=>∃ (b a:Nat),as_=[.val (.pointer (some ⟨b,0,none⟩))]/\XC W (Out bs) b 0 (.int .i64 (a:Nat))
 res:=λW as_=>match as_ with
  |[.val (.pointer (some a))]=>(W.cell? a).getD undef
  |_=>undef
 enters:=Tryz.call300
 ok:=by
  intro W w bs us as_ hk hu hp;obtain⟨b,a,rfl,h1⟩:=hp
  match us,hu with
  |[x],hu=>
   obtain⟨rfl,_⟩:=hu;simp only[h1.2,Option.getD_some];exact VC b a w (h1.mono λb hb hn=>⟨hk.block b hb hn,by simp[Out]⟩:XC w (Out []) b 0 _).2
theorem TB(v:Value)(w:World):Calls Tryz.prog 301 #[v] w λe w' => e=.returned (.int .i64 4)/\an w [] w' := by
 refine ai (nt:=3) [.tmp 2] Tryz.func301 rfl rfl rfl ?_;refine vR Γ0 kO ?_;refine vR Γ0 kO ?_;refine wZ kO ?_;exact λE=>rfl
def X0:aY Tryz.prog 301 where
 pre:=λW bs as_=>∃ v,as_=[.val v]
 res:=λ_ as_=>.int .i64 4
 enters:=Tryz.call301
 ok:=by
  intro W w bs us as_ hk hu hp;obtain⟨v,rfl⟩:=hp
  match us,hu with
  |[x],hu=>
   obtain⟨rfl,_⟩:=hu;exact TB x w
theorem VD(b a:Nat)(w:World)(hc:w.cell? ⟨b,0,none⟩=some (.int .i64 (a:Nat))):Calls Tryz.prog 302 #[.pointer (some ⟨b,0,none⟩)] w λe w' => e=.returned (.int .i64 (a:Nat))/\an w [] w' := by
 have hb:=aj9 b;refine ai (nt:=7) [.tmp 2] Tryz.func302 rfl rfl rfl ?_;refine vR Γ0 kO ?_;refine wR Γ0 (aa kO hc) ?_ ?_
 ·first|trivial|exact hb
 refine wZ kO ?_;exact λE=>rfl
noncomputable def HG:aY Tryz.prog 302 where
 pre:=λW bs as_=>∃ (b a:Nat),as_=[.val (.pointer (some ⟨b,0,none⟩))]/\XC W (Out bs) b 0 (.int .i64 (a:Nat))
 res:=λW as_=>match as_ with
  |[.val (.pointer (some a))]=>(W.cell? a).getD undef
  |_=>undef
 enters:=Tryz.call302
 ok:=by
  intro W w bs us as_ hk hu hp;obtain⟨b,a,rfl,h1⟩:=hp
  match us,hu with
  |[x],hu=>
   obtain⟨rfl,_⟩:=hu;simp only[h1.2,Option.getD_some];exact VD b a w (h1.mono λb hb hn=>⟨hk.block b hb hn,by simp[Out]⟩:XC w (Out []) b 0 _).2
def ahi:MethSpec Tryz.prog 190 "Kind":=b6 295 false (by kernel_rfl) (by kernel_rfl)
def Yx:MethSpec Tryz.prog 190 "Place":=b6 296 false (by kernel_rfl) (by kernel_rfl)
def ahj:MethSpec Tryz.prog 192 "Kind":=b6 297 false (by kernel_rfl) (by kernel_rfl)
def Yy:MethSpec Tryz.prog 192 "Place":=b6 298 false (by kernel_rfl) (by kernel_rfl)
def ahk:MethSpec Tryz.prog 193 "Kind":=b6 299 true (by kernel_rfl) (by kernel_rfl)
def Yz:MethSpec Tryz.prog 193 "Place":=b6 300 true (by kernel_rfl) (by kernel_rfl)
def ahl:MethSpec Tryz.prog 197 "Kind":=b6 301 true (by kernel_rfl) (by kernel_rfl)
def YA:MethSpec Tryz.prog 197 "Place":=b6 302 true (by kernel_rfl) (by kernel_rfl)
noncomputable def spT:(f:FuncId)->Option (LE.Spec Tryz.prog f)
 |295=>some XX.spec
 |296=>some Z6.spec
 |297=>some XY.spec
 |298=>some Z7.spec
 |299=>some XZ.spec
 |300=>some HF.spec
 |301=>some X0.spec
 |302=>some HG.spec
 |_=>none
def V9:(t:TypeId)->(name:String)->Option (MethSpec Tryz.prog t name)
 |190, "Kind"=>some ahi
 |190, "Place"=>some Yx
 |192, "Kind"=>some ahj
 |192, "Place"=>some Yy
 |193, "Kind"=>some ahk
 |193, "Place"=>some Yz
 |197, "Kind"=>some ahl
 |197, "Place"=>some YA
 |_,_=>none
theorem A1{Γ:Env Tryz.prog}{W:World}{bs:List Nat}{κ:Nat}{hh:Hp}(hm:Γ.mt=V9)(hs:∀ f s,spT f=some s->Γ.sp f=some s){v:Value}{t:Tm}(h:eQ W (Out bs) v t)(ht:fN t) :
  aI Γ W bs κ hh "Place" [.v v]=⟨True,.v (.int .i64 (atT t:Nat)),[],none,[],[]⟩:=by
 have key:∀ {p:Prop} {x:SV},p->(⟨p,x,[],none,[],[]⟩:R)=⟨True,x,[],none,[],[]⟩:=λ{p x} hp=>by rw[eq_true hp]
 cases t with
 |text a s=>
  obtain rfl:v=_:=h;simp only[aI,hm,V9,Yx,b6,eY,hs 296 _ rfl];exact key (x:=.v (.int .i64 _)) (show Z6.pre W bs _ from ⟨a,s,rfl⟩)
 |rx a r=>
  obtain rfl:v=_:=h;simp only[aI,hm,V9,Yy,b6,eY,hs 298 _ rfl];exact key (x:=.v (.int .i64 _)) (show Z7.pre W bs _ from ⟨a,_,rfl⟩)
 | canon c=>
  obtain⟨p,rfl,hc⟩:=h;cases hc with
  |nil=>exact absurd rfl ht.2
  | mk b a op n to bk va vb x y h0 h1 h2 h3 h4 h5 h6 h7 h8=>
   simp only[aI,hm,V9,Yz,b6,eY,hs 300 _ rfl];refine (key (x:=.v (HF.res W [.val (.pointer (some ⟨b,0,none⟩))])) (show HF.pre W bs _ from ⟨b,a,rfl,h0⟩)).trans ?_;have e:HF.res W [.val (.pointer (some ⟨b,0,none⟩))]=.int .i64 (a:Nat):=by
    show (W.cell? ⟨b,0,none⟩).getD undef=_;rw[h0.2];rfl
   rw[e];rfl
 | lens c=>
  obtain⟨p,rfl,hc⟩:=h;cases hc with
  |nil=>exact absurd rfl ht.2
  | mk b a op n tx vq va vb q x y h0 h1 h2 h3 h4 h5 h6 h7 h8 h9=>
   simp only[aI,hm,V9,YA,b6,eY,hs 302 _ rfl];refine (key (x:=.v (HG.res W [.val (.pointer (some ⟨b,0,none⟩))])) (show HG.pre W bs _ from ⟨b,a,rfl,h0⟩)).trans ?_;have e:HG.res W [.val (.pointer (some ⟨b,0,none⟩))]=.int .i64 (a:Nat):=by
    show (W.cell? ⟨b,0,none⟩).getD undef=_;rw[h0.2];rfl
   rw[e];rfl
theorem Tg{Γ:Env Tryz.prog}{W:World}{bs:List Nat}{κ:Nat}{hh:Hp}(hm:Γ.mt=V9)(hs:∀ f s,spT f=some s->Γ.sp f=some s){v:Value}{t:Tm}(h:eQ W (Out bs) v t)(ht:fN t) :
  aI Γ W bs κ hh "Kind" [.v v]=⟨True,.v (.int .i64 (kdT t:Nat)),[],none,[],[]⟩:=by
 have key:∀ {p:Prop} {x:SV},p->(⟨p,x,[],none,[],[]⟩:R)=⟨True,x,[],none,[],[]⟩:=λ{p x} hp=>by rw[eq_true hp]
 cases t with
 |text a s=>
  obtain rfl:v=_:=h;simp only[aI,hm,V9,ahi,b6,eY,hs 295 _ rfl];exact key (x:=.v (.int .i64 _)) (show XX.pre W bs _ from ⟨a,s,rfl⟩)
 |rx a r=>
  obtain rfl:v=_:=h;simp only[aI,hm,V9,ahj,b6,eY,hs 297 _ rfl];exact key (x:=.v (.int .i64 _)) (show XY.pre W bs _ from ⟨a,_,rfl⟩)
 |canon c=>
  obtain⟨p,rfl,hc⟩:=h;simp only[aI,hm,V9,ahk,b6,eY,hs 299 _ rfl];exact key (x:=.v (.int .i64 _)) (show XZ.pre W bs _ from ⟨p,rfl⟩)
 |lens c=>
  obtain⟨p,rfl,hc⟩:=h;simp only[aI,hm,V9,ahl,b6,eY,hs 301 _ rfl];exact key (x:=.v (.int .i64 _)) (show X0.pre W bs _ from ⟨p,rfl⟩)
noncomputable def ajG:Env Tryz.prog:=⟨λ| 72=>some sO.spec|_=>none,λ| _=>none,λ_ _=>none⟩
theorem afy:ajG.sp 72=some sO.spec:=rfl
def acJ:=(sn kO @afy @Kz @Ky @aL @bZ)
theorem Vx(r:Rx)(w:World)(hr:bP r<=4000000)(hg:bg w (Out [])):Calls Tryz.prog 101 #[ax r] w λe w' => e=.returned (.string (dR (some r)))/\an w [] w' := by
 have hb:=cK r;refine ai (nt:=7) [.tmp 2] Tryz.func101 rfl rfl rfl ?_;refine vR ajG acJ ?_;refine wR ajG (aa acJ @ByteArray.size_append) ?_ ?_
 ·exact⟨⟨hr,hg⟩,by have e:(⟨#[47]⟩:ByteArray).size=1:=rfl;omega,by have e:(⟨#[47]⟩:ByteArray).size=1:=rfl;omega⟩
 refine wZ acJ ?_;exact λE=>rfl
noncomputable def ye:aY Tryz.prog 101 where
 pre:=λW bs=>λ| [.val y0]=>(match dec ax y0 with|some r=>bP r<=4000000/\bg W (Out bs)|_=>False)|_=>False
 res:=λW=>λ| [.val y0]=>(match dec ax y0 with|some r=>.string (dR (some r))|_=>undef)|_=>undef
 enters:=Tryz.call101
 ok:=by
  intro W w bs us as_ hk hu hp;split at hp
  ·rename_i y0;split at hp
   ·rename_i r h0
    match us,hu with
    |[u0],hu=>
     obtain⟨rfl,_⟩:=hu;obtain rfl:=fV h0
     try dsimp only
     try simp only[bU a8]
     exact Vx r w hp.1 (hp.2.fK hk sI)
   ·exact hp.elim
  ·exact hp.elim
theorem Ce(W:World)(r:Rx):ye.res W [.val (ax r)]=.string (dR (some r)):=by simp only[ye,bU a8]
theorem Cd(W:World)(bs:List Nat)(r:Rx):ye.pre W bs [.val (ax r)]=(bP r<=4000000/\bg W (Out bs)):=by simp only[ye,bU a8]
def strOf:Value->ByteArray
 |.string s=>s
 |_=>⟨#[]⟩
theorem sV(l:List ByteArray):(l.map Value.string).map strOf=l:=by
 rw[List.map_map];exact List.map_id'' (λ_=>rfl) l
noncomputable def Hv:aY Tryz.prog 100 where
 pre:=λW bs as_=>∃ l:List ByteArray,as_=[.row 9 1 l.length (l.map Value.string),.val (.string Jp)]/\l.length<=1000/\(cY l).size<=140737488351232
 res:=λ_ as_=>match as_ with
  |[.row _ _ _ vs,_]=>.string (cY (vs.map strOf))
  |_=>undef
 enters:=Tryz.call100
 ok:=by
  intro W w bs us as_ hk hu hp;obtain⟨l,rfl,h1,h2⟩:=hp
  match us,hu with
  | [x,y],hu=>
   obtain⟨⟨hl,hx⟩,rfl,_⟩:=hu;have e:cY ((l.map Value.string).map strOf)=cY l:=by rw[sV]
   simp only[e];have hz:(Lib.join (l.map (·.data.toList)) Jp.data.toList).length<=140737488355328:=by
    have:(cY l).size=(Lib.join (l.map (·.data.toList)) Jp.data.toList).length:=by
     unfold cY;simp[ByteArray.size]
    omega
   rcases hx with ⟨rfl,h0⟩|⟨g,cap,cur,rfl,_,hg,hn,hcap,hsz,htk⟩
   ·obtain rfl:l=[]:=List.length_eq_zero_iff.1 h0;exact (Tryz.strings_Join_none none 0 Jp w).mono λe w' ⟨h1,h2⟩=>⟨h1,h2 ▸ an.refl w _⟩
   ·refine (Tryz.strings_Join g 0 cap l Jp w (λj x hj=>?_) ?_ oM hn hz).mono λe w' ⟨h1,h2⟩=>⟨h1,LE.an.Kc h2⟩
    ·have hj' : (l.map Value.string)[j]?=some (.string x):=by rw[List.getElem?_map,hj];rfl
     rw[<- htk,List.getElem?_take]at hj';split at hj'
     ·simp only[World.cell?,hg];simpa using hj'
     ·cases hj'
    ·rcases Nat.lt_or_ge g w.heap.size with h|h
     ·exact h
     ·rw[Array.getElem?_eq_none h]at hg;cases hg
theorem Pl(W:World)(n:Nat)(l:List ByteArray)(x:AV):Hv.res W [.row 9 1 n (l.map Value.string),x]=.string (cY l):=by
 show Value.string (cY ((l.map Value.string).map strOf))=_;rw[sV]
theorem Pk(W:World)(bs:List Nat)(l:List ByteArray):Hv.pre W bs [.row 9 1 l.length (l.map Value.string),.val (.string ⟨#[44]⟩)]=(l.length<=1000/\(cY l).size<=140737488351232):=by
 apply propext;constructor
 ·rintro⟨l',h1,h2⟩;simp only[List.cons.injEq,AV.row.injEq]at h1;have e:l=l' := by rw[<- sV l,h1.1.2.2.2,sV]
  rw[e];exact h2
 ·exact λh=>⟨l,rfl,h⟩
def Xy:List SV->List Nat
 |[_,.hd r,.own k _]=>[k,r]
 |_=>[]
theorem Xz(x:SV)(r k o:Nat):Xy [x,.hd r,.own k o]=[k,r]:=rfl
def Yg{P:Program}{f:FuncId}(p:Ae P f)(g:List SV->List Nat):LE.Spec P f where
 ev:=λW bs κ h args=>y2 κ (g args) h args p.args p.L p.L' p.val (p.pre W bs)
 good:=λW bs κ E F h w K args=>(p.spec (g args)).good W bs κ E F h w K args
 keys:=λW bs κ h K args=>(p.spec (g args)).keys W bs κ h K args
 loc:=λW bs κ h h' args=>(p.spec (g args)).loc W bs κ h h' args
theorem Yh{P:Program}{f:FuncId}(p:Ae P f)(g:List SV->List Nat)(W:World)(bs:List Nat)(κ:Nat)(h:Hp)(args:List SV):(Yg p g).ev W bs κ h args=y2 κ (g args) h args p.args p.L p.L' p.val (p.pre W bs):=rfl
noncomputable def ab2:Env Tryz.prog:=⟨λ| 39=>some QC.spec|100=>some Hv.spec|f=>spT f,λ_=>none,V9⟩
theorem afz:ab2.sp 39=some QC.spec:=rfl
theorem ab3:ab2.sp 100=some Hv.spec:=rfl
theorem afA{W:World}{bs:List Nat}{κ:Nat}{hh:Hp}{v:Value}{t:Tm}(h:eQ W (Out bs) v t)(ht:fN t):aI ab2 W bs κ hh "Place" [.v v]=⟨True,.v (.int .i64 (atT t:Nat)),[],none,[],[]⟩:=
 A1 rfl (λf s hf=>by
  unfold spT at hf
  split at hf<;>cases hf<;>rfl) h ht
theorem ah3{t:Tm}(h:fN t):atT t<=4096:=by
 cases t with
 |text a s=>exact h.1
 |rx a r=>exact h
 |canon c=>
  cases c with
  |nil=>exact absurd rfl h.2
  |mk a op n to bk x y=>exact (by have:=h.1;simp only[mB]at this;exact this.1)
 |lens l=>
  cases l with
  |nil=>exact absurd rfl h.2
  |mk a op n tx q x y=>exact (by have:=h.1;simp only[nq]at this;exact this.1)
theorem eQ.parts{W:World}{S:Nat->Prop}{v:Value}{t:Tm}(h:eQ W S v t):partsOf (.v v)=[.v v]:=by
 obtain⟨k,u,rfl⟩:=h.iface;rfl
def svs(l:List ByteArray):List SV:=l.map λs=>.v (.string s)
theorem aeF(l:List ByteArray):cS (svs l)=some (l.map Value.string):=by
 induction l with
 |nil=>rfl
 |cons x l ih=>
  show (cS (svs l)).map (Value.string x::·)=_;rw[ih];rfl
theorem ZX(l:List ByteArray):ay (svs l)=[]:=by
 induction l with
 |nil=>rfl
 |cons x l ih=>
  show []++ay (svs l)=[];rw[ih];rfl
def acK:=(ae acJ @Ce @Cd @Pl @Pk @wX.eq_1 @wX.eq_2 (sn @afz @ab3 @Tp @To @aeF @fm))
theorem XJ(word:ByteArray)(l:List ByteArray)(v:Value)(t:Tm)(w:World)(fp:List Nat)(E:Nat->Value)(F:Nat->List Nat)(hs:ak w fp E F (dM [(0,.cells 54 [.v v]),(1,.row 9 1 l.length (svs l))]) w)
  (hv:eQ w (Out fp) v t) (ht:fN t) (hw:word.size<=4096) (hl:l.length<=1000/\(cY l).size<=4294967296) (hT:mN w (Out fp)) :
  Calls Tryz.prog 99 (aj E [.v (.string word),.hd 1,.own 0 0]).toArray w λe w' => ∃ E' F',e=.returned (den E' (.v (.string (cP (atT t) word l))))/\(∀ k∈[0],E' k=E k)/\ak w fp E' F' (dM [(0,.cells 54 [.v v])]) w' := by
 have hpl:=λκ hh=>afA (κ:=κ) (hh:=hh) hv ht
 have ha:=ah3 ht;have hn:=EL (n:=(atT t:Nat)) oM oM;obtain⟨hl1,hl2⟩:=hl;refine Ax (nt:=17) [.tmp 5] hs ?_ ?_ Tryz.func99 rfl rfl rfl ?_
 ·simp[JO,wX,FV.keys,SV.keys,a6.keys,ZX,ay]
 ·simp
 refine vR ab2 acK ?_;refine wR ab2 (fP acK hpl hv.parts @ByteArray.size_append) ?_ ?_
 ·have e1:(⟨#[64]⟩:ByteArray).size=1:=rfl;have e2:(⟨#[40]⟩:ByteArray).size=1:=rfl;have e3:(⟨#[41]⟩:ByteArray).size=1:=rfl;exact⟨oM,⟨⟨oM,oM⟩,hT⟩,oM,oM,⟨hl1,oM⟩,oM,oM⟩
 refine wZ acK ?_;exact wN (λk=>.key k) (qG acK @cP.eq_1 @atB.eq_1 @aiY.eq_1 @aib.eq_1)
def XI(word:ByteArray)(l:List ByteArray)(v:Value)(t:Tm):Ae Tryz.prog 99 where
 args:=[.v (.string word),.hd 1,.own 0 0]
 L:=[(0,.cells 54 [.v v]),(1,.row 9 1 l.length (svs l))]
 val:=.v (.string (cP (atT t) word l))
 L' := [(0,.cells 54 [.v v])]
 fA:=[0]
 pre:=λW bs=>(eQ W (Out bs) v t/\fN t)/\word.size<=4096/\(l.length<=1000/\(cY l).size<=4294967296)/\mN W (Out bs)
 low:=by simp
 kept:=by simp
 vk:=by simp[SV.keys]
 lk:=by simp[a6.keys,ay,SV.keys]
 nd:=by simp
 enters:=Tryz.call99
 ok:=by
  intro W w bs fp E F hk hm hs hp;obtain⟨⟨h1,h2⟩,h3,h4,h5⟩:=hp;exact XJ word l v t w fp E F hs (h1.mono λb hb hn=>⟨hk.block b hb hn,λhb' => (hm b hb').elim (λg=>absurd g (Nat.not_le.2 hb)) hn⟩) h2 h3 h4 (h5.fK hk hm)
def Aj(W:World)(S:Nat->Prop):Prop:=bg W S/\mN W S
abbrev Z3 (t:Tm):Prop:=fN t/\cj t<=8192
abbrev My (n:Nat):Prop:=∀ (t:Tm) (v:Value) (w:World),eQ w (Out []) v t->Z3 t->dT t<n->Aj w (Out [])->Calls Tryz.prog 59 #[v] w λe w' => e=.returned (.string (uD t))/\an w [] w'
noncomputable def Ff(n:Nat)(h:My n):aY Tryz.prog 59 where
 pre:=λW bs as_=>∃ v t,as_=[.val v]/\eQ W (Out bs) v t/\Z3 t/\dT t<n/\Aj W (Out bs)
 res:=λW as_=>match as_ with
  |[.val v]=>.string (uD (qL W v))
  |_=>undef
 enters:=Tryz.call59
 ok:=by
  intro W w bs us as_ hk hu hp;obtain⟨v,t,rfl,h1,h2,h3,h4⟩:=hp
  match us,hu with
  |[x],hu=>
   obtain⟨rfl,_⟩:=hu;simp only[cg h1];exact h t x w (h1.mono λb hb hn=>⟨hk.block b hb hn,by simp[Out]⟩) h2 h3 ⟨h4.1.fK hk sI,h4.2.fK hk sI⟩
theorem Fg(n:Nat)(h:My n)(W:World)(bs:List Nat)(v:Value):(Ff n h).pre W bs [.val v]=∃ t,eQ W (Out bs) v t/\Z3 t/\dT t<n/\Aj W (Out bs):=by
 apply propext;constructor
 ·rintro⟨v',t,h1,h2⟩;cases h1;exact⟨t,h2⟩
 ·exact λ⟨t,h2⟩=>⟨v,t,rfl,h2⟩
theorem Fh(n:Nat)(h:My n)(W:World)(v:Value):(Ff n h).res W [.val v]=.string (uD (qL W v)):=rfl
section
variable (n:Nat)(h:My n)(word:ByteArray)(l:List ByteArray)(v:Value)(t:Tm)
noncomputable def nP:Env Tryz.prog:=⟨λ| 59=>some (Ff n h).spec|101=>some ye.spec|38=>some zV.spec|99=>some (Yg (XI word l v t) Xy)|_=>none,λ_=>none,λ_ _=>none⟩
theorem afC:(nP n h word l v t).sp 59=some (Ff n h).spec:=rfl
theorem ab4:(nP n h word l v t).sp 101=some ye.spec:=rfl
theorem afB:(nP n h word l v t).sp 38=some zV.spec:=rfl
theorem afD:(nP n h word l v t).sp 99=some (Yg (XI word l v t) Xy):=rfl
end
def bh:=(ae @List.replicate_succ.{0} @List.replicate_zero.{0} @au @ab kH kI Ri (ae Rm RN ty5 ty6 ty7 ty8 kK (ae c8 da db dc dn dr dt (ae du ew ez eA eB eC eD (ae ajs ajt aju ajv jw jx jy (ae jz jA ib ic ie ig pD (ae pE pF pG pH pI pJ pK (ae pL nD nE nF nG nH nI (ae nJ nL nM pM pN pO pP (ae pQ pR pS pT pU pV pW (ae pX pY pZ p4 p5 p6 p7 (ae p8 lX lY lZ l6 l7 l8 (ae l9 ma mb mc me mf mg (ae mh mi mj ml mm mn aaq (ae aar aas @aV @aw @aD @aG @Yh (ae @Xz @y2.eq_1 @jE.eq_1 @jE.eq_2 @jW.eq_1 @jW.eq_2 @jW.eq_3 (ae @jW.eq_4 @jW.eq_5 @jW.eq_6 @jW.eq_7 @jW.eq_8 @rk.eq_1 @rk.eq_2 (ae @iM.eq_1 @iM.eq_2 @kU.eq_1 @kU.eq_2 @gY.eq_1 @gY.eq_2 @gY.eq_3 (ae @gY.eq_4 @wL.eq_1 @mp.eq_1 @gi @xq @tC @aL (ae @bZ @afC @ab4 @afB @afD @Fg @Fh (sn @Ce @Cd @KG @KF @XI.eq_1 @svs.eq_1)))))))))))))))))))))
theorem PG(n:Nat)(h:My n):My (n+1):=by
 intro t v w hv hB hd hg;have hvp:=hv.parts;have hv0:=hv;have hok:=hB.1;have hsz:=hB.2;have hT:=hg.2;refine ai (nt:=260) [.tmp 2] Tryz.func59 rfl rfl rfl ?_;refine vR Γ0 (aa bh hvp) ?_;refine vR Γ0 bh ?_;refine Wp.seq ?_;refine vR Γ0 bh ?_;refine Wp.block ?_;cases t with
 |text a s=>
  obtain rfl:v=_:=hv;have hok1:a<=4096/\s.size<=4096:=hok;have hq:=jV s;have p0:(eM s).size<=400000000:=oM;have hj:=bC [eM s];simp only[List.map_cons,List.map_nil,List.sum_cons,List.sum_nil]at hj;have hj2:(cY [eM s]).size<=4294967296:=oM;have hE:uD (.text a s)=cP a Rh [eM s]:=rfl;rw[hE]
  refine vR Γ0 bh ?_;refine wC bh (λhc=>?_) (λhc=>?_)
  rotate_left
  ·first|cases hc|exact absurd hc sI
  refine vR Γ0 bh ?_;refine wR (nP n h Rh [eM s] (.iface 190 (.agg #[.int .i64 (a:Nat),.string s])) (.text a s)) (aa bh @Rh.eq_1) ?_ ?_
  ·exact⟨oM,dE,⟨hv0,hok⟩,dE,hj2,hT⟩
  refine wZ bh ?_;exact λE=>rfl
 |rx a r=>
  obtain rfl:v=_:=hv;have hn:=gH (some r);have hrz:bP r<=8192:=hsz;have hrz2:dX (some r)=bP r:=rfl;have p0:(dR (some r)).size<=400000000:=oM;have hj:=bC [dR (some r)];simp only[List.map_cons,List.map_nil,List.sum_cons,List.sum_nil]at hj;have hj2:(cY [dR (some r)]).size<=4294967296:=oM
  have hE:uD (.rx a r)=cP a GU [dR (some r)]:=rfl;rw[hE];refine vR Γ0 bh ?_;refine wC bh (λhc=>?_) (λhc=>?_)
  ·first|cases hc|exact absurd hc sI
  refine vR Γ0 bh ?_;refine wC bh (λhc=>?_) (λhc=>?_)
  rotate_left
  ·first|cases hc|exact absurd hc sI
  refine wR Γ0 bh ?_ ?_
  ·exact aL r
  refine wR (nP n h GU [dR (some r)] (.iface 192 (.agg #[.int .i64 (a:Nat),ax r])) (.rx a r)) (aa bh @GU.eq_1) ?_ ?_
  ·exact⟨⟨oM,hg.1⟩,dE,⟨hv0,hok⟩,dE,hj2,hT⟩
  refine wZ bh ?_;exact λE=>rfl
 | canon c=>
  obtain⟨p,rfl,hc0⟩:=hv;refine vR Γ0 bh ?_;refine wC bh (λhc=>?_) (λhc=>?_)
  ·first|cases hc|exact absurd hc sI
  refine vR Γ0 bh ?_;refine wC bh (λhc=>?_) (λhc=>?_)
  ·first|cases hc|exact absurd hc sI
  refine vR Γ0 bh ?_;refine wC bh (λhc=>?_) (λhc=>?_)
  rotate_left
  ·first|cases hc|exact absurd hc sI
  cases hc0 with
  |nil=>exact absurd rfl hok.2
  | mk b a op nd to bk va vb x y h0 h1 h2 h3 h4 h5 h6 hx hy=>
   have hok1:=hok.1;simp only[mB]at hok1;obtain⟨k0,k1,k2,k3,k4,k5,kW⟩:=hok1;simp only[dT,dC]at hd;have hZ:1+dX nd+dY x+dY y<=8192:=by
    simp only[cj,dY]at hsz;omega
   have qa:=jV to;have qb:=jV bk;have sx:=vG x k4;have sy:=vG y k5;have tx:qL w (.iface 193 va)=.canon x:=cg (S:=Out []) ⟨va,rfl,hx⟩;have ty:qL w (.iface 193 vb)=.canon y:=cg (S:=Out []) ⟨vb,rfl,hy⟩;have vx:eQ w (Out []) (.iface 193 va) (.canon x):=⟨va,rfl,hx⟩
   have vy:eQ w (Out []) (.iface 193 vb) (.canon y):=⟨vb,rfl,hy⟩;have bx:x≠.nil->Z3 (.canon x):=λhn=>⟨⟨k4,hn⟩,by simp only[cj];omega⟩
   have bY:y≠.nil->Z3 (.canon y):=λhn=>⟨⟨k5,hn⟩,by simp only[cj];omega⟩
   have ex:uD (.canon x)=mz x:=rfl;have ey:uD (.canon y)=mz y:=rfl;have dx:dT (.canon x)<n:=by simp only[dT];omega
   have dy:dT (.canon y)<n:=by simp only[dT];omega
   refine vR Γ0 bh ?_;refine Wp.seq ?_;refine vR Γ0 (aa bh h1.2) ?_;refine Wp.block ?_;refine Wp.seq ?_;refine vR Γ0 bh ?_;refine wC bh (λhc=>?_) (λhc=>?_)
   ·have ho:op=QA\/op=qs:=.inl (qJ hc);have hcT:=hc;refine wK ?_;refine wC bh (λhc=>?_) (λhc=>?_)
    rotate_left
    ·rw[hcT]at hc;cases hc
    have hnn:nd≠none:=by rw[AD (.inl ho)]at kW;exact kW
    obtain⟨r,rfl⟩:∃ r,nd=some r:=by
     cases nd with
     |none=>exact absurd rfl hnn
     |some r=>exact⟨r,rfl⟩
    have g2:w.cell? ⟨b,0+2,none⟩=some (ax r):=h2.2;have hns:=gH (some r);have hrz2:dX (some r)=bP r:=rfl;have p0:(dR (some r)).size<=400000000:=oM;have hj:=bC [dR (some r)];simp only[List.map_cons,List.map_nil,List.sum_cons,List.sum_nil]at hj;have hj2:(cY [dR (some r)]).size<=4294967296:=oM
    have hE:uD (.canon (.mk a op (some r) to bk x y))=cP a op [dR (some r)]:=by
     show mz _=_;rw[mz,if_pos ho]
    rw[hE];refine ko (nP n h op [dR (some r)] (.iface 193 (.pointer (some ⟨b,0,none⟩))) (.canon (.mk a op (some r) to bk x y))) (br bh h1.2 g2) ?_ ?_
    ·exact⟨⟨oM,hg.1⟩,dE,⟨hv0,hok⟩,k1,hj2,hT⟩
    refine wZ bh ?_;exact λE=>rfl
   have oa1:¬ op=QA:=qI hc;refine vr Γ0 bh ?_;refine wC bh (λhc=>?_) (λhc=>?_)
   ·have ho:op=QA\/op=qs:=.inr (qJ hc);have hnn:nd≠none:=by rw[AD (.inl ho)]at kW;exact kW
    obtain⟨r,rfl⟩:∃ r,nd=some r:=by
     cases nd with
     |none=>exact absurd rfl hnn
     |some r=>exact⟨r,rfl⟩
    have g2:w.cell? ⟨b,0+2,none⟩=some (ax r):=h2.2;have hns:=gH (some r);have hrz2:dX (some r)=bP r:=rfl;have p0:(dR (some r)).size<=400000000:=oM;have hj:=bC [dR (some r)];simp only[List.map_cons,List.map_nil,List.sum_cons,List.sum_nil]at hj;have hj2:(cY [dR (some r)]).size<=4294967296:=oM
    have hE:uD (.canon (.mk a op (some r) to bk x y))=cP a op [dR (some r)]:=by
     show mz _=_;rw[mz,if_pos ho]
    rw[hE];refine ko (nP n h op [dR (some r)] (.iface 193 (.pointer (some ⟨b,0,none⟩))) (.canon (.mk a op (some r) to bk x y))) (br bh h1.2 g2) ?_ ?_
    ·exact⟨⟨oM,hg.1⟩,dE,⟨hv0,hok⟩,k1,hj2,hT⟩
    refine wZ bh ?_;exact λE=>rfl
   have o1:¬ (op=QA\/op=qs):=λh=>h.elim oa1 (qI hc)
   refine vR Γ0 bh ?_;refine wC bh (λhc=>?_) (λhc=>?_)
   ·have ho:op=jo:=qJ hc;have hnn:nd≠none:=by rw[AD (.inr ho)]at kW;exact kW
    obtain⟨r,rfl⟩:∃ r,nd=some r:=by
     cases nd with
     |none=>exact absurd rfl hnn
     |some r=>exact⟨r,rfl⟩
    have g2:w.cell? ⟨b,0+2,none⟩=some (ax r):=h2.2;have hns:=gH (some r);have hrz2:dX (some r)=bP r:=rfl;have p0:(dR (some r)).size<=400000000:=oM;have p1:(eM to).size<=400000000:=oM;have p2:(eM bk).size<=400000000:=oM;have hj:=bC [dR (some r),eM to,eM bk]
    simp only[List.map_cons,List.map_nil,List.sum_cons,List.sum_nil]at hj;have hj2:(cY [dR (some r),eM to,eM bk]).size<=4294967296:=oM;have hE:uD (.canon (.mk a op (some r) to bk x y))=cP a op [dR (some r),eM to,eM bk]:=by
     show mz _=_;rw[mz,if_neg o1,if_pos ho]
    rw[hE];refine ko (nP n h op [dR (some r),eM to,eM bk] (.iface 193 (.pointer (some ⟨b,0,none⟩))) (.canon (.mk a op (some r) to bk x y))) (qG bh h1.2 g2 h3.2 h4.2) ?_ ?_
    ·exact⟨⟨oM,hg.1⟩,oM,oM,dE,⟨hv0,hok⟩,k1,hj2,hT⟩
    refine wZ bh ?_;exact λE=>rfl
   have o2:¬ op=jo:=qI hc;refine vR Γ0 bh ?_;refine wC bh (λhc=>?_) (λhc=>?_)
   ·have ho:op=gn:=qJ hc;have hnx:x≠.nil:=by subst ho;rw[Jm]at kW;exact kW
    have p0:(mz x).size<=400000000:=oM;have hj:=bC [mz x];simp only[List.map_cons,List.map_nil,List.sum_cons,List.sum_nil]at hj;have hj2:(cY [mz x]).size<=4294967296:=oM;have hE:uD (.canon (.mk a op nd to bk x y))=cP a op [mz x]:=by
     show mz _=_;rw[mz,if_neg o1,if_neg o2,if_pos ho]
    rw[hE];refine ko (nP n h op [mz x] (.iface 193 (.pointer (some ⟨b,0,none⟩))) (.canon (.mk a op nd to bk x y))) (qG bh h1.2 h5.2 tx ex) ?_ ?_
    ·exact⟨⟨_,vx,bx hnx,dx,hg⟩,dE,⟨hv0,hok⟩,k1,hj2,hT⟩
    refine wZ bh ?_;exact λE=>rfl
   have o3:¬ op=gn:=qI hc;refine wK ?_;obtain⟨hnx,hny⟩:x≠.nil/\y≠.nil:=by
    rw[cnW,if_neg (λh=>h.elim o1 o2),if_neg o3]at kW;exact kW
   have p0:(mz x).size<=400000000:=oM;have p1:(mz y).size<=400000000:=oM;have hj:=bC [mz x,mz y];simp only[List.map_cons,List.map_nil,List.sum_cons,List.sum_nil]at hj;have hj2:(cY [mz x,mz y]).size<=4294967296:=oM;have hE:uD (.canon (.mk a op nd to bk x y))=cP a op [mz x,mz y]:=by
    show mz _=_;rw[mz,if_neg o1,if_neg o2,if_neg o3]
   rw[hE];refine ko (nP n h op [mz x,mz y] (.iface 193 (.pointer (some ⟨b,0,none⟩))) (.canon (.mk a op nd to bk x y))) (ae bh h1.2 h5.2 tx ex h6.2 ty ey) ?_ ?_
   ·exact⟨⟨_,vx,bx hnx,dx,hg⟩,⟨_,vy,bY hny,dy,hg⟩,dE,⟨hv0,hok⟩,k1,hj2,hT⟩
   refine wZ bh ?_;exact λE=>rfl
 | lens c=>
  obtain⟨p,rfl,hc0⟩:=hv;refine vR Γ0 bh ?_;refine wC bh (λhc=>?_) (λhc=>?_)
  ·first|cases hc|exact absurd hc sI
  refine vR Γ0 bh ?_;refine wC bh (λhc=>?_) (λhc=>?_)
  ·first|cases hc|exact absurd hc sI
  refine vR Γ0 bh ?_;refine wC bh (λhc=>?_) (λhc=>?_)
  ·first|cases hc|exact absurd hc sI
  refine vR Γ0 bh ?_;refine wC bh (λhc=>?_) (λhc=>?_)
  rotate_left
  ·first|cases hc|exact absurd hc sI
  cases hc0 with
  |nil=>exact absurd rfl hok.2
  | mk b a op nd tx vq va vb q x y h0 h1 h2 h3 h4 h5 h6 hq hx hy=>
   have hok1:=hok.1;simp only[nq]at hok1;obtain⟨k0,k1,k2,k3,k4,k5,kW⟩:=hok1;simp only[dT,dL]at hd;have hZ:1+dX nd+dY q+ia x+ia y<=8192:=by
    simp only[cj,ia]at hsz;omega
   have qa:=jV tx;have sq:=vG q k3;have sx:=Lb x k4;have sy:=Lb y k5;have tq:qL w (.iface 193 vq)=.canon q:=cg (S:=Out []) ⟨vq,rfl,hq⟩;have tx' : qL w (.iface 197 va)=.lens x:=cg (S:=Out []) ⟨va,rfl,hx⟩;have ty:qL w (.iface 197 vb)=.lens y:=cg (S:=Out []) ⟨vb,rfl,hy⟩
   have vq' : eQ w (Out []) (.iface 193 vq) (.canon q):=⟨vq,rfl,hq⟩;have vx:eQ w (Out []) (.iface 197 va) (.lens x):=⟨va,rfl,hx⟩;have vy:eQ w (Out []) (.iface 197 vb) (.lens y):=⟨vb,rfl,hy⟩;have bq:q≠.nil->Z3 (.canon q):=λhn=>⟨⟨k3,hn⟩,by simp only[cj];omega⟩
   have bx:x≠.nil->Z3 (.lens x):=λhn=>⟨⟨k4,hn⟩,by simp only[cj];omega⟩
   have bY:y≠.nil->Z3 (.lens y):=λhn=>⟨⟨k5,hn⟩,by simp only[cj];omega⟩
   have eq' : uD (.canon q)=mz q:=rfl;have ex:uD (.lens x)=gT x:=rfl;have ey:uD (.lens y)=gT y:=rfl;have dq:dT (.canon q)<n:=by simp only[dT];omega
   have dx:dT (.lens x)<n:=by simp only[dT];omega
   have dy:dT (.lens y)<n:=by simp only[dT];omega
   refine vR Γ0 bh ?_;refine Wp.seq ?_;refine vR Γ0 (aa bh h1.2) ?_;refine Wp.block ?_;refine Wp.seq ?_;refine vR Γ0 bh ?_;refine wC bh (λhc=>?_) (λhc=>?_)
   ·have ho:op=jh\/op=zu:=.inl (qJ hc);have hcT:=hc;refine wK ?_;refine wC bh (λhc=>?_) (λhc=>?_)
    rotate_left
    ·rw[hcT]at hc;cases hc
    have hnn:nd≠none:=by rw[xC (.inl ho)]at kW;exact kW
    obtain⟨r,rfl⟩:∃ r,nd=some r:=by
     cases nd with
     |none=>exact absurd rfl hnn
     |some r=>exact⟨r,rfl⟩
    have g2:w.cell? ⟨b,0+2,none⟩=some (ax r):=h2.2;have hns:=gH (some r);have hrz2:dX (some r)=bP r:=rfl;have p0:(dR (some r)).size<=400000000:=oM;have hj:=bC [dR (some r)];simp only[List.map_cons,List.map_nil,List.sum_cons,List.sum_nil]at hj;have hj2:(cY [dR (some r)]).size<=4294967296:=oM
    have hE:uD (.lens (.mk a op (some r) tx q x y))=cP a op [dR (some r)]:=by
     show gT _=_;rw[gT,if_pos ho]
    rw[hE];refine ko (nP n h op [dR (some r)] (.iface 197 (.pointer (some ⟨b,0,none⟩))) (.lens (.mk a op (some r) tx q x y))) (br bh h1.2 g2) ?_ ?_
    ·exact⟨⟨oM,hg.1⟩,dE,⟨hv0,hok⟩,k1,hj2,hT⟩
    refine wZ bh ?_;exact λE=>rfl
   have oa1:¬ op=jh:=qI hc;refine vr Γ0 bh ?_;refine wC bh (λhc=>?_) (λhc=>?_)
   ·have ho:op=jh\/op=zu:=.inr (qJ hc);have hnn:nd≠none:=by rw[xC (.inl ho)]at kW;exact kW
    obtain⟨r,rfl⟩:∃ r,nd=some r:=by
     cases nd with
     |none=>exact absurd rfl hnn
     |some r=>exact⟨r,rfl⟩
    have g2:w.cell? ⟨b,0+2,none⟩=some (ax r):=h2.2;have hns:=gH (some r);have hrz2:dX (some r)=bP r:=rfl;have p0:(dR (some r)).size<=400000000:=oM;have hj:=bC [dR (some r)];simp only[List.map_cons,List.map_nil,List.sum_cons,List.sum_nil]at hj;have hj2:(cY [dR (some r)]).size<=4294967296:=oM
    have hE:uD (.lens (.mk a op (some r) tx q x y))=cP a op [dR (some r)]:=by
     show gT _=_;rw[gT,if_pos ho]
    rw[hE];refine ko (nP n h op [dR (some r)] (.iface 197 (.pointer (some ⟨b,0,none⟩))) (.lens (.mk a op (some r) tx q x y))) (br bh h1.2 g2) ?_ ?_
    ·exact⟨⟨oM,hg.1⟩,dE,⟨hv0,hok⟩,k1,hj2,hT⟩
    refine wZ bh ?_;exact λE=>rfl
   have o1:¬ (op=jh\/op=zu):=λh=>h.elim oa1 (qI hc)
   refine vR Γ0 bh ?_;refine wC bh (λhc=>?_) (λhc=>?_)
   ·have ho:op=F5:=qJ hc;have hnn:nd≠none:=by rw[xC (.inr ho)]at kW;exact kW
    obtain⟨r,rfl⟩:∃ r,nd=some r:=by
     cases nd with
     |none=>exact absurd rfl hnn
     |some r=>exact⟨r,rfl⟩
    have g2:w.cell? ⟨b,0+2,none⟩=some (ax r):=h2.2;have hns:=gH (some r);have hrz2:dX (some r)=bP r:=rfl;have p0:(dR (some r)).size<=400000000:=oM;have p1:(eM tx).size<=400000000:=oM;have hj:=bC [dR (some r),eM tx];simp only[List.map_cons,List.map_nil,List.sum_cons,List.sum_nil]at hj
    have hj2:(cY [dR (some r),eM tx]).size<=4294967296:=oM;have hE:uD (.lens (.mk a op (some r) tx q x y))=cP a op [dR (some r),eM tx]:=by
     show gT _=_;rw[gT,if_neg o1,if_pos ho]
    rw[hE];refine ko (nP n h op [dR (some r),eM tx] (.iface 197 (.pointer (some ⟨b,0,none⟩))) (.lens (.mk a op (some r) tx q x y))) (fP bh h1.2 g2 h3.2) ?_ ?_
    ·exact⟨⟨oM,hg.1⟩,oM,dE,⟨hv0,hok⟩,k1,hj2,hT⟩
    refine wZ bh ?_;exact λE=>rfl
   have o2:¬ op=F5:=qI hc;refine vR Γ0 bh ?_;refine wC bh (λhc=>?_) (λhc=>?_)
   ·have ho:op=lK:=qJ hc;have p0:(eM tx).size<=400000000:=oM;have hj:=bC [eM tx];simp only[List.map_cons,List.map_nil,List.sum_cons,List.sum_nil]at hj;have hj2:(cY [eM tx]).size<=4294967296:=oM;have hE:uD (.lens (.mk a op nd tx q x y))=cP a op [eM tx]:=by
     show gT _=_;rw[gT,if_neg o1,if_neg o2,if_pos ho]
    rw[hE];refine ko (nP n h op [eM tx] (.iface 197 (.pointer (some ⟨b,0,none⟩))) (.lens (.mk a op nd tx q x y))) (br bh h1.2 h3.2) ?_ ?_
    ·exact⟨oM,dE,⟨hv0,hok⟩,k1,hj2,hT⟩
    refine wZ bh ?_;exact λE=>rfl
   have o3:¬ op=lK:=qI hc;refine Wp.seq ?_;refine vR Γ0 bh ?_;refine wC bh (λhc=>?_) (λhc=>?_)
   ·have ho:op=gn\/op=iD:=.inl (qJ hc);have hcT:=hc;refine wK ?_;refine wC bh (λhc=>?_) (λhc=>?_)
    rotate_left
    ·rw[hcT]at hc;cases hc
    have hnx:x≠.nil:=by rw[sH (.inl ho)]at kW;exact kW
    have p0:(gT x).size<=400000000:=oM;have hj:=bC [gT x];simp only[List.map_cons,List.map_nil,List.sum_cons,List.sum_nil]at hj;have hj2:(cY [gT x]).size<=4294967296:=oM;have hE:uD (.lens (.mk a op nd tx q x y))=cP a op [gT x]:=by
     show gT _=_;rw[gT,if_neg o1,if_neg o2,if_neg o3,if_pos ho]
    rw[hE];refine ko (nP n h op [gT x] (.iface 197 (.pointer (some ⟨b,0,none⟩))) (.lens (.mk a op nd tx q x y))) (qG bh h1.2 h5.2 tx' ex) ?_ ?_
    ·exact⟨⟨_,vx,bx hnx,dx,hg⟩,dE,⟨hv0,hok⟩,k1,hj2,hT⟩
    refine wZ bh ?_;exact λE=>rfl
   have oa4:¬ op=gn:=qI hc;refine vr Γ0 bh ?_;refine wC bh (λhc=>?_) (λhc=>?_)
   ·have ho:op=gn\/op=iD:=.inr (qJ hc);have hnx:x≠.nil:=by rw[sH (.inl ho)]at kW;exact kW
    have p0:(gT x).size<=400000000:=oM;have hj:=bC [gT x];simp only[List.map_cons,List.map_nil,List.sum_cons,List.sum_nil]at hj;have hj2:(cY [gT x]).size<=4294967296:=oM;have hE:uD (.lens (.mk a op nd tx q x y))=cP a op [gT x]:=by
     show gT _=_;rw[gT,if_neg o1,if_neg o2,if_neg o3,if_pos ho]
    rw[hE];refine ko (nP n h op [gT x] (.iface 197 (.pointer (some ⟨b,0,none⟩))) (.lens (.mk a op nd tx q x y))) (qG bh h1.2 h5.2 tx' ex) ?_ ?_
    ·exact⟨⟨_,vx,bx hnx,dx,hg⟩,dE,⟨hv0,hok⟩,k1,hj2,hT⟩
    refine wZ bh ?_;exact λE=>rfl
   have o4:¬ (op=gn\/op=iD):=λh=>h.elim oa4 (qI hc)
   refine vR Γ0 bh ?_;refine wC bh (λhc=>?_) (λhc=>?_)
   ·have ho:op=vf:=qJ hc;obtain⟨hnx,hnq⟩:x≠.nil/\q≠.nil:=by rw[vl (.inl ho)]at kW;exact kW
    have p0:(mz q).size<=400000000:=oM;have p1:(gT x).size<=400000000:=oM;have hj:=bC [mz q,gT x];simp only[List.map_cons,List.map_nil,List.sum_cons,List.sum_nil]at hj;have hj2:(cY [mz q,gT x]).size<=4294967296:=oM;have hE:uD (.lens (.mk a op nd tx q x y))=cP a op [mz q,gT x]:=by
     show gT _=_;rw[gT,if_neg o1,if_neg o2,if_neg o3,if_neg o4,if_pos ho]
    rw[hE];refine ko (nP n h op [mz q,gT x] (.iface 197 (.pointer (some ⟨b,0,none⟩))) (.lens (.mk a op nd tx q x y))) (ae bh h1.2 h4.2 tq eq' h5.2 tx' ex) ?_ ?_
    ·exact⟨⟨_,vq',bq hnq,dq,hg⟩,⟨_,vx,bx hnx,dx,hg⟩,dE,⟨hv0,hok⟩,k1,hj2,hT⟩
    refine wZ bh ?_;exact λE=>rfl
   have o5:¬ op=vf:=qI hc;refine vR Γ0 bh ?_;refine wC bh (λhc=>?_) (λhc=>?_)
   ·have ho:op=pq:=qJ hc;obtain⟨hnx,hnq⟩:x≠.nil/\q≠.nil:=by rw[vl (.inr ho)]at kW;exact kW
    have p0:(gT x).size<=400000000:=oM;have p1:(mz q).size<=400000000:=oM;have hj:=bC [gT x,mz q];simp only[List.map_cons,List.map_nil,List.sum_cons,List.sum_nil]at hj;have hj2:(cY [gT x,mz q]).size<=4294967296:=oM;have hE:uD (.lens (.mk a op nd tx q x y))=cP a op [gT x,mz q]:=by
     show gT _=_;rw[gT,if_neg o1,if_neg o2,if_neg o3,if_neg o4,if_neg o5,if_pos ho]
    rw[hE];refine ko (nP n h op [gT x,mz q] (.iface 197 (.pointer (some ⟨b,0,none⟩))) (.lens (.mk a op nd tx q x y))) (ae bh h1.2 h5.2 tx' ex h4.2 tq eq') ?_ ?_
    ·exact⟨⟨_,vx,bx hnx,dx,hg⟩,⟨_,vq',bq hnq,dq,hg⟩,dE,⟨hv0,hok⟩,k1,hj2,hT⟩
    refine wZ bh ?_;exact λE=>rfl
   have o6:¬ op=pq:=qI hc;refine vR Γ0 bh ?_;refine wC bh (λhc=>?_) (λhc=>?_)
   ·have ho:op=uU:=qJ hc;have hnx:x≠.nil:=by rw[sH (.inr ho)]at kW;exact kW
    have p0:(gT x).size<=400000000:=oM;have p1:(eM tx).size<=400000000:=oM;have hj:=bC [gT x,eM tx];simp only[List.map_cons,List.map_nil,List.sum_cons,List.sum_nil]at hj;have hj2:(cY [gT x,eM tx]).size<=4294967296:=oM;have hE:uD (.lens (.mk a op nd tx q x y))=cP a op [gT x,eM tx]:=by
     show gT _=_;rw[gT,if_neg o1,if_neg o2,if_neg o3,if_neg o4,if_neg o5,if_neg o6,if_pos ho]
    rw[hE];refine ko (nP n h op [gT x,eM tx] (.iface 197 (.pointer (some ⟨b,0,none⟩))) (.lens (.mk a op nd tx q x y))) (sn bh h1.2 h5.2 tx' ex h3.2) ?_ ?_
    ·exact⟨⟨_,vx,bx hnx,dx,hg⟩,oM,dE,⟨hv0,hok⟩,k1,hj2,hT⟩
    refine wZ bh ?_;exact λE=>rfl
   have o7:¬ op=uU:=qI hc;refine wK ?_;obtain⟨hnx,hny⟩:x≠.nil/\y≠.nil:=by
    rw[TL,if_neg (λh=>h.elim o1 o2),if_neg o3,if_neg (λh=>h.elim o4 o7),if_neg (λh=>h.elim o5 o6)]at kW;exact kW
   have p0:(gT x).size<=400000000:=oM;have p1:(gT y).size<=400000000:=oM;have hj:=bC [gT x,gT y];simp only[List.map_cons,List.map_nil,List.sum_cons,List.sum_nil]at hj;have hj2:(cY [gT x,gT y]).size<=4294967296:=oM;have hE:uD (.lens (.mk a op nd tx q x y))=cP a op [gT x,gT y]:=by
    show gT _=_;rw[gT,if_neg o1,if_neg o2,if_neg o3,if_neg o4,if_neg o5,if_neg o6,if_neg o7]
   rw[hE];refine ko (nP n h op [gT x,gT y] (.iface 197 (.pointer (some ⟨b,0,none⟩))) (.lens (.mk a op nd tx q x y))) (ae bh h1.2 h5.2 tx' ex h6.2 ty ey) ?_ ?_
   ·exact⟨⟨_,vx,bx hnx,dx,hg⟩,⟨_,vy,bY hny,dy,hg⟩,dE,⟨hv0,hok⟩,k1,hj2,hT⟩
   refine wZ bh ?_;exact λE=>rfl
theorem yg:∀ n,My n
 |0=>λt v w hv hB hd=>absurd hd (Nat.not_lt_zero _)
 |n+1=>PG n (yg n)
theorem Q3{s:ByteArray}{t:Tm}(h:iF s=.ok t):Wd t:=by
 unfold iF at h;split at h
 ·cases h
 ·rename_i p hp;exact acX (HC hp) h
def AE(p:Pm):kS Tryz.prog 27 where
 kinds:=[none]
 pre:=λas_ W S=>∃ v,as_=[.val v]/\PmV W S v p/\(Ob p/\p.1.length<=4097)/\bg W S
 premono:=λas_ W S W' S' hs ⟨v,h1,h2,h3,h4⟩=>⟨v,h1,h2.mono hs,h3,h4.mono hs⟩
 out:=λ_=>elO (qW p)
 enters:=Tryz.call27
 ok:=by
  intro w S us as_ hu hp;obtain⟨v,rfl,h1,⟨h2,h3⟩,h4⟩:=hp
  match us,hu with
  |[u],hu=>
   obtain⟨rfl,_⟩:=hu;exact Xd p u w S h1 h2 h3 h4
theorem Ep(p:Pm)(v:Value)(W:World)(S:Nat->Prop):(AE p).pre [.val v] W S=(PmV W S v p/\(Ob p/\p.1.length<=4097)/\bg W S):=by
 apply propext;constructor
 ·rintro⟨v',h1,h2⟩;cases h1;exact h2
 ·exact λh=>⟨v,rfl,h⟩
theorem Eo(p:Pm)(as_:List AV):(AE p).out as_=elO (qW p):=rfl
theorem yT(p:Pm):(AE p).kinds=[none]:=rfl
def Xc:kS Tryz.prog 27 where
 kinds:=[none]
 pre:=λas_ W S=>as_=[.val (.pointer none)]
 premono:=λ_ _ _ _ _ _ h=>h
 out:=λ_=>.val (.tuple #[.nilIface,nS 2 0 ⟨#[]⟩])
 enters:=Tryz.call27
 ok:=by
  intro w S us as_ hu hp;obtain rfl:=hp
  match us,hu with
  |[u],hu=>
   obtain⟨rfl,_⟩:=hu;exact Xe w S
section
variable (G:Nat->Prop)(s:ByteArray)(p:Pm)
noncomputable def IK:Env Tryz.prog:=⟨λ| 28=>some ((Vq s).spec G)|27=>some ((AE p).spec G)|_=>none,λ| 39=>some qC|_=>none,λ_ _=>none⟩
theorem afJ:(IK G s p).sp 28=some ((Vq s).spec G):=rfl
theorem afI:(IK G s p).sp 27=some ((AE p).spec G):=rfl
theorem V0:(IK G s p).eqs 39=some qC:=rfl
end
def eU:=(ae @List.replicate_succ.{0} @List.replicate_zero.{0} @au @ab kH kI Ri (ae Rm RN ty5 ty6 ty7 ty8 kK (ae c8 da db dc dn dr dt (ae du ew ez eA eB eC eD (ae ajs ajt aju ajv um uo uq (ae ur uu uv uw ux uy uz (ae jw jx jy jz jA PK PM (ae Ch Ci Cj Ck Cl PN PO (ae Cm Co Cp Cq Cr Cs ib (ae ic ie ig pD pE pF pG (ae pH pI pJ pK pL nD nE (ae nF nG nH nI nJ nL nM (ae pM pN pO pP pQ pR pS (ae pT pU pV pW pX pY pZ (ae p4 p5 p6 p7 p8 lX lY (ae lZ l6 l7 l8 l9 ma mb (ae mc me mf mg mh mi mj (ae ml mm mn aaq aar aas @gf (ae @eP @aV @aw @aD @aG @cH @afJ (ae @afI @V0 @tE @Vq.eq_1 @HA @py @Ep (IL @Eo @yT @F6 @jQ @Sh.pf.eq_1 @nS.eq_1 @DO.eq_1)))))))))))))))))))))
theorem VG(s:ByteArray)(w:World)(S:Nat->Prop)(hs:s.size<=9223372036854775807)(hg:e8 w S)(he:bg w S):Calls Tryz.prog 22 #[.string s] w λe w' => kA w S e w' (elO (iF s)):=by
 have u0:=aE.up w S;have s0:=hg.mono (aE.eO w S);have e0:=he.mono (aE.eO w S);refine eJ (nt:=19) S [.tmp 2,.cell 3 39] Tryz.func22 rfl rfl rfl ?_;refine vR Γ0 eU ?_;cases hF:tU s with
 | error e=>
  obtain⟨c,j⟩:=e;have hcd:decide (c=0)=false:=decide_eq_false (ZY hF);have hE:iF s=.error (c,(j:Nat)):=by unfold iF;rw[hF]
  rw[hE,jQ];refine wR (IK (aE w S) s ([],.nil)) (aa eU hF) ?_ ?_
  ·exact⟨hs,s0⟩
  refine Wp.seq ?_;refine vR (IK (aE w S) s ([],.nil)) (aa eU hcd) ?_;refine wC eU (λhc=>?_) (λhc=>?_)
  ·skip;refine yt Γ0 eU ?_;refine wZ eU ?_;exact λE=>rfl
  ·exact absurd hc sI
 | ok p=>
  have hE:iF s=qW p:=by unfold iF;rw[hF]
  rw[hE];refine wR (IK (aE w S) s p) (aa eU hF) ?_ ?_
  ·exact⟨⟨hs,s0⟩,u0⟩
  refine Wp.cV 24 (ev eU) (aX.refl _ _) λW1 bs1 cs hx1 hΦ1=>?_
  obtain⟨v,rfl,hv⟩:=hΦ1;have hvv:LE.hv v=v:=hv.hv;have u1:=u0.ext hx1;have e1:=e0.mono hx1.dN;refine Wp.seq ?_;refine vR (IK (aE w S) s p) (aa eU hvv) ?_;refine wC eU (λhc=>?_) (λhc=>?_)
  ·exact absurd hc sI
  refine wK ?_;cases hF2:qW p with
  |error e=>
   obtain⟨c,j⟩:=e;rw[jQ];refine wR (IK (aE w S) s p) (br eU hF2 hvv) ?_ ?_
   ·exact⟨hv,⟨HC hF,HB hF⟩,e1⟩
   refine wZ eU ?_;exact λE=>rfl
  |ok t=>
   rw[F6];refine wR (IK (aE w S) s p) (br eU hF2 hvv) ?_ ?_
   ·exact⟨⟨hv,⟨HC hF,HB hF⟩,e1⟩,u1⟩
   refine Wp.cV 112 (ev eU) (aX.refl _ _) λW2 bs2 cs hx2 hΦ2=>?_
   obtain⟨v2,rfl,hv2⟩:=hΦ2;have hvv2:LE.hv v2=v2:=hv2.hv;refine wZ (aa eU hvv2) ?_;exact⟨[v2,.int .i64 0,.int .i64 0,.string ⟨#[]⟩],λE=>(N7 hvv2).symm,v2,rfl,hv2⟩
def yf(s:ByteArray):kS Tryz.prog 22 where
 kinds:=[none]
 pre:=λas_ W S=>as_=[.val (.string s)]/\s.size<=9223372036854775807/\e8 W S/\bg W S
 premono:=λas_ W S W' S' hs h=>⟨h.1,h.2.1,h.2.2.1.mono hs,h.2.2.2.mono hs⟩
 out:=λ_=>elO (iF s)
 enters:=Tryz.call22
 ok:=by
  intro w S us as_ hu hp;obtain⟨rfl,h1,h2,h3⟩:=hp
  match us,hu with
  |[u],hu=>
   obtain⟨rfl,_⟩:=hu;exact VG s w S h1 h2 h3
theorem VI(w:World):Calls Tryz.prog 59 #[.nilIface] w λe w' => e=.returned (.string ⟨#[]⟩)/\an w [] w' := by
 refine ai (nt:=260) [.tmp 2] Tryz.func59 rfl rfl rfl ?_;refine vR Γ0 eU ?_;refine vR Γ0 eU ?_;refine Wp.seq ?_;refine vR Γ0 eU ?_;refine Wp.block ?_;refine vR Γ0 eU ?_;refine wC eU (λhc=>?_) (λhc=>?_)
 ·cases hc
 refine vR Γ0 eU ?_;refine wC eU (λhc=>?_) (λhc=>?_)
 ·cases hc
 refine vR Γ0 eU ?_;refine wC eU (λhc=>?_) (λhc=>?_)
 ·cases hc
 refine vR Γ0 eU ?_;refine wC eU (λhc=>?_) (λhc=>?_)
 ·cases hc
 refine wK ?_;refine vR Γ0 eU ?_;refine wZ eU ?_;exact λE=>rfl
theorem ZJ(w:World):Calls Tryz.prog 58 #[.nilIface] w λe w' => e=.returned (.int .i64 0)/\an w [] w' := by
 refine ai (nt:=105) [.tmp 2] Tryz.func58 rfl rfl rfl ?_;refine vR Γ0 eU ?_;refine Wp.seq ?_;refine vR Γ0 eU ?_;refine Wp.block ?_;refine vR Γ0 eU ?_;refine wC eU (λhc=>?_) (λhc=>?_)
 ·cases hc
 refine vR Γ0 eU ?_;refine wC eU (λhc=>?_) (λhc=>?_)
 ·cases hc
 refine vR Γ0 eU ?_;refine wC eU (λhc=>?_) (λhc=>?_)
 ·cases hc
 refine vR Γ0 eU ?_;refine wC eU (λhc=>?_) (λhc=>?_)
 ·cases hc
 refine wK ?_;refine vR Γ0 eU ?_;refine wZ eU ?_;exact λE=>rfl
def Hq:aY Tryz.prog 59 where
 pre:=λW bs as_=>as_=[.val .nilIface]
 res:=λ_ _=>.string ⟨#[]⟩
 enters:=Tryz.call59
 ok:=by
  intro W w bs us as_ hk hu hp;obtain rfl:=hp
  match us,hu with
  |[x],hu=>
   obtain⟨rfl,_⟩:=hu;exact VI w
def Hu:aY Tryz.prog 58 where
 pre:=λW bs as_=>as_=[.val .nilIface]
 res:=λ_ _=>.int .i64 0
 enters:=Tryz.call58
 ok:=by
  intro W w bs us as_ hk hu hp;obtain rfl:=hp
  match us,hu with
  |[x],hu=>
   obtain⟨rfl,_⟩:=hu;exact ZJ w
noncomputable def afK:Env Tryz.prog:=⟨λ| 59=>some Hq.spec|58=>some Hu.spec|_=>none,λ_=>none,λ_ _=>none⟩
theorem afM:afK.sp 59=some Hq.spec:=rfl
theorem afL:afK.sp 58=some Hu.spec:=rfl
section
variable (t:Tm)
noncomputable def ak1:Env Tryz.prog:=⟨λ| 59=>some (Ff (dT t+1) (yg _)).spec|_=>none,λ_=>none,λ_ _=>none⟩
theorem afN:(ak1 t).sp 59=some (Ff (dT t+1) (yg _)).spec:=rfl
end
def DE:=(ae eU @afM @afL @afN @Hq.eq_1 @Hu.eq_1 @Fg @Fh)
theorem Pe(w:World):Calls Tryz.prog 25 #[.nilIface] w λe w' => e=.returned (.string ⟨#[]⟩)/\an w [] w' := by
 refine ai (nt:=5) [.tmp 2] Tryz.func25 rfl rfl rfl ?_;refine vR Γ0 DE ?_;refine vR afK DE ?_;refine wZ DE ?_;exact λE=>rfl
theorem Pj(w:World):Calls Tryz.prog 24 #[.nilIface] w λe w' => e=.returned (.int .i64 0)/\an w [] w' := by
 refine ai (nt:=5) [.tmp 2] Tryz.func24 rfl rfl rfl ?_;refine vR Γ0 DE ?_;refine vR afK DE ?_;refine wZ DE ?_;exact λE=>rfl
theorem Pd(t:Tm)(v:Value)(w:World)(hv:eQ w (Out []) v t)(hs:Z3 t)(hg:Aj w (Out [])):Calls Tryz.prog 25 #[v] w λe w' => e=.returned (.string (uD t))/\an w [] w' := by
 have hD:qL w v=t:=cg hv;refine ai (nt:=5) [.tmp 2] Tryz.func25 rfl rfl rfl ?_;refine vR Γ0 DE ?_;refine wR (ak1 t) (aa DE hD) ?_ ?_
 ·exact⟨t,hv,hs,Nat.lt_succ_self _,hg⟩
 refine wZ DE ?_;exact λE=>rfl
noncomputable def sU:aY Tryz.prog 25 where
 pre:=λW bs as_=>∃ v t,as_=[.val v]/\eQ W (Out bs) v t/\Z3 t/\Aj W (Out bs)
 res:=λW as_=>match as_ with
  |[.val v]=>.string (uD (qL W v))
  |_=>undef
 enters:=Tryz.call25
 ok:=by
  intro W w bs us as_ hk hu hp;obtain⟨v,t,rfl,h1,h2,h3⟩:=hp
  match us,hu with
  |[x],hu=>
   obtain⟨rfl,_⟩:=hu;simp only[cg h1];exact Pd t x w (h1.mono λb hb hn=>⟨hk.block b hb hn,by simp[Out]⟩) h2 ⟨h3.1.fK hk sI,h3.2.fK hk sI⟩
theorem zf(W:World)(bs:List Nat)(v:Value):sU.pre W bs [.val v]=∃ t,eQ W (Out bs) v t/\Z3 t/\Aj W (Out bs):=by
 apply propext;constructor
 ·rintro⟨v',t,h1,h2⟩;cases h1;exact⟨t,h2⟩
 ·exact λ⟨t,h2⟩=>⟨v,t,rfl,h2⟩
theorem zg(W:World)(v:Value):sU.res W [.val v]=.string (uD (qL W v)):=rfl
def Ho:aY Tryz.prog 25 where
 pre:=λW bs as_=>as_=[.val .nilIface]
 res:=λ_ _=>.string ⟨#[]⟩
 enters:=Tryz.call25
 ok:=by
  intro W w bs us as_ hk hu hp;obtain rfl:=hp
  match us,hu with
  |[x],hu=>
   obtain⟨rfl,_⟩:=hu;exact Pe w
def Ht:aY Tryz.prog 24 where
 pre:=λW bs as_=>as_=[.val .nilIface]
 res:=λ_ _=>.int .i64 0
 enters:=Tryz.call24
 ok:=by
  intro W w bs us as_ hk hu hp;obtain rfl:=hp
  match us,hu with
  |[x],hu=>
   obtain⟨rfl,_⟩:=hu;exact Pj w
def Li:ByteArray:=⟨#[99,111,112,121,40,47,97,42,47,41,46,105,110,115,40,34,120,34,41]⟩
def aja:ByteArray:=⟨#[99,97,116,64,49,48,40,99,111,112,121,64,48,40,47,97,42,47,41,44,105,110,115,64,49,49,40,34,120,34,41,41]⟩
theorem spk:∃ t,iF Li=.ok t/\kdT t=4/\atT t=10/\uD t=aja/\cj t=6:=by
 have h:(match iF Li with
  |.ok t=>decide (kdT t=4/\atT t=10/\uD t=aja/\cj t=6)
  |.error _=>false)=true:=by decide +kernel
 cases hF:iF Li with
 |error e=>rw[hF]at h;cases h
 |ok t=>
  rw[hF]at h;exact⟨t,rfl,of_decide_eq_true h⟩
section
variable (G:Nat->Prop)(s:ByteArray)
noncomputable def Mn:Env Tryz.prog:=⟨λ| 22=>some ((yf s).spec G)|25=>some sU.spec|24=>some nf.spec|f=>spT f,λ| 39=>some qC|_=>none,V9⟩
theorem afO:(Mn G s).sp 22=some ((yf s).spec G):=rfl
theorem afQ:(Mn G s).sp 25=some sU.spec:=rfl
theorem afP:(Mn G s).sp 24=some nf.spec:=rfl
theorem V1:(Mn G s).eqs 39=some qC:=rfl
theorem afR{W:World}{bs:List Nat}{κ:Nat}{hh:Hp}{v:Value}{t:Tm}(h:eQ W (Out bs) v t)(ht:fN t):aI (Mn G s) W bs κ hh "Kind" [.v v]=⟨True,.v (.int .i64 (kdT t:Nat)),[],none,[],[]⟩:=
 Tg rfl (λf s hf=>by
  unfold spT at hf
  split at hf<;>cases hf<;>rfl) h ht
theorem afS{W:World}{bs:List Nat}{κ:Nat}{hh:Hp}{v:Value}{t:Tm}(h:eQ W (Out bs) v t)(ht:fN t):aI (Mn G s) W bs κ hh "Place" [.v v]=⟨True,.v (.int .i64 (atT t:Nat)),[],none,[],[]⟩:=
 A1 rfl (λf s hf=>by
  unfold spT at hf
  split at hf<;>cases hf<;>rfl) h ht
end
def qN(W:World)(S:Nat->Prop):Prop:=e8 W S/\Aj W S
theorem qN.mono{W W' : World}{S S' : Nat->Prop}(h:qN W S)(hs:aX W S W' S'):qN W' S' := ⟨h.1.mono hs,h.2.1.mono hs,h.2.2.mono hs⟩
theorem eQ.out{W:World}{G:Nat->Prop}{bs:List Nat}{v:Value}{t:Tm}(h:eQ W (bE G bs) v t):eQ W (Out bs) v t:=h.mono λb _ hb=>⟨rfl,hb.2⟩
def WB:=(ae DE @fm @afO @afQ @afP @V1 @yf.eq_1 (fP @zf @zg @ng @nh))
theorem Lx(w:World)(hg:qN w (Out [])):Calls Tryz.prog 21 #[] w λe w' => e=.returned (.bool true)/\LE.an w [] w' := by
 have dN:aX w (Out []) w (bE (λ_=>True) []):=λb _ h=>⟨rfl,trivial,h⟩
 have hr:=hg.mono dN;have u0:Up (λ_=>True) w []:=Up.true _ _;obtain⟨t,h1,h2,h3,h4,h5⟩:=spk;have hS:=Q3 h1;refine ai (nt:=34) [.tmp 0] Tryz.func21 rfl rfl rfl ?_;refine vR Γ0 WB ?_;have e1:(⟨#[99,111,112,121,40,47,97,42,47,41,46,105,110,115,40,34,120,34,41]⟩:ByteArray)=Li:=rfl
 have e2:(⟨#[99,97,116,64,49,48,40,99,111,112,121,64,48,40,47,97,42,47,41,44,105,110,115,64,49,49,40,34,120,34,41,41]⟩:ByteArray)=aja:=rfl;refine wR (Mn (λ_=>True) Li) (br WB h1 e1) ?_ ?_
 ·exact⟨⟨dE,hr.1,hr.2.1⟩,u0⟩
 refine Wp.cV 8 (ev WB) (aX.refl _ _) λW1 bs1 cs hx1 hΦ1=>?_
 obtain⟨v,rfl,hv⟩:=hΦ1;have hO:eQ W1 (Out bs1) v t:=hv.out;have hD:qL W1 v=t:=cg hv;have hg1:qN W1 (Out bs1):=(hr.mono hx1.dN).mono λb _ hb=>⟨rfl,hb.2⟩
 have hvv:LE.hv v=v:=hv.hv;have kd:=λκ hh=>afR (λ_=>True) Li (κ:=κ) (hh:=hh) hO hS.1
 have pl:=λκ hh=>afS (λ_=>True) Li (κ:=κ) (hh:=hh) hO hS.1
 obtain⟨k,u,rfl⟩:=hv.iface;refine wR (Mn (λ_=>True) Li) (ae WB kd pl hD hvv h2 h3 (br h4 h5 e2)) ?_ ?_
 ·exact⟨λ_=>⟨t,hO,hS,hg1.2⟩,λ_=>⟨t,hO,by have:=hS.2;unfold fw;omega⟩⟩
 refine wZ WB ?_;exact λE=>rfl
def Cg:aY Tryz.prog 21 where
 pre:=λW bs as_=>as_=[]/\qN W (Out bs)
 res:=λ_ _=>.bool true
 enters:=Tryz.call21
 ok:=by
  intro W w bs us as_ hk hu hp;obtain⟨rfl,h1⟩:=hp
  match us,hu with
  |[],_=>exact Lx w (h1.mono λb hb hn=>⟨hk.block b hb hn,by simp[Out]⟩)
end
section
open Go Go.ChangeShapes Go.WideShapes Go.ChangeAt Go.RowKit Go.LE
set_option maxRecDepth 10000
theorem ahg:Tryz.prog.globalNamed "loupe/syntax.ranks"=some 2:=kR
theorem ais:(Tryz.prog.globals[2]?).map (·.type)=some 288:=kR
theorem alL:((begin Tryz.prog (λ_ _=>0) default).world.heap[1]?).bind Obj.row?=some (#[.int .i64 0],3):=kR
theorem UK{W:World}(h:Lib.VarReads Tryz.prog W "loupe/syntax.ranks" Rows.laid_loupe_syntax_ranks):IT W (Out []):=by
 obtain⟨g,t,cs,fuel,p,h1,h2,h3,h4⟩:=h;obtain rfl:=Option.some.inj (ahg.symm.trans h1);obtain rfl:=Option.some.inj (ais.symm.trans h2);have e:(Rows.laid_loupe_syntax_ranks:DataW Unit)=.agg ((List.range 5).map λi=>.lit (.string (xV i).data.toList)):=rfl;rw[e]at h4
 have key:∀ i,i<5->W.cell? ⟨2,i,none⟩=some (.string (xV i)):=λi hi=>by
  obtain⟨f',d,q,hd,ht⟩:=Lib.array_elem Tryz.underlying288 h4 i hi;rw[ah9]at ht;rw[List.getElem?_map,List.getElem?_range hi,Option.map_some,Option.some.injEq]at hd;subst hd;obtain⟨z0,g0,f0,_⟩:=DataW.trod_string Tryz.underlying9 ht;simp only[Prod.mk.injEq,DataW.lit.injEq,Lit.string.injEq]at f0
  obtain⟨f0,_⟩:=f0;have d0:xV i=z0:=by
   generalize xV i=s at f0;rcases s with ⟨⟨l⟩⟩;rcases z0 with ⟨⟨l'⟩⟩;simp only at f0;rw[f0]
  rw[d0];have g1:=congrArg (·[0]?) g0;simp only[List.getElem?_take,List.getElem?_drop,List.getElem?_cons_zero]at g1;refine yu ahg h3 i _ ?_;simpa using g1
 exact⟨by simp[Out],key 0 oM,key 1 oM,key 2 oM,key 3 oM,key 4 oM⟩
theorem TS{W:World}(hS:W.ShapedOpen Tryz.prog):Af W (Out []):=by
 have g6:=cell_of_shapedOpen_int (P:=Tryz.prog) (g:=1) (t:=3) (k:=.i64) hS (of_decide_eq_true (by kernel_rfl)) alL (by kernel_rfl) (by kernel_rfl) (by kernel_rfl) Tryz.underlying3;exact⟨by simp[Out],g6⟩
end
section
open Go Go.RowKit Go.LE
set_option maxRecDepth 10000
section
variable (G:Nat->Prop)(s:ByteArray)(p:Pm)
noncomputable def qn:Env Tryz.prog:=⟨λ| 21=>some Cg.spec|22=>some ((yf s).spec G)|28=>some ((Vq s).spec G)|27=>some ((AE p).spec G)|25=>some sU.spec|24=>some nf.spec|_=>none,λ| 39=>some qC|_=>none,λ_ _=>none⟩
theorem afT:(qn G s p).sp 21=some Cg.spec:=rfl
theorem afU:(qn G s p).sp 22=some ((yf s).spec G):=rfl
theorem afY:(qn G s p).sp 28=some ((Vq s).spec G):=rfl
theorem afX:(qn G s p).sp 27=some ((AE p).spec G):=rfl
theorem afW:(qn G s p).sp 25=some sU.spec:=rfl
theorem afV:(qn G s p).sp 24=some nf.spec:=rfl
theorem V2:(qn G s p).eqs 39=some qC:=rfl
noncomputable def zH:Env Tryz.prog:=⟨λ| 27=>some (Xc.spec G)|25=>some Ho.spec|24=>some Ht.spec|_=>none,λ| 39=>some qC|_=>none,λ_ _=>none⟩
theorem af1:(zH G).sp 27=some (Xc.spec G):=rfl
theorem af0:(zH G).sp 25=some Ho.spec:=rfl
theorem afZ:(zH G).sp 24=some Ht.spec:=rfl
theorem V3:(zH G).eqs 39=some qC:=rfl
end
def gO:=(ae @List.replicate_succ.{0} @List.replicate_zero.{0} @au @ab kH kI kK (ae c8 da db dc dn dr dt (ae du ew ez eA eB eC eD (ae um uo uq ur uu uv uw (ae ux uy uz jw jx jy jz (ae jA PK PM Ch Ci Cj Ck (ae Cl PN PO Cm Co Cp Cq (ae Cr Cs @gf @eP @aV @aw @aD (ae @aG @cH @afT @afU @afY @afX @afW (ae @afV @V2 @af1 @af0 @afZ @V3 @tE (ae @Cg.eq_1 @Vq.eq_1 @yf.eq_1 @HA @py @Ep @Eo (ae @yT @Xc.eq_1 @F6 @jQ @Sh.pf.eq_1 @nS.eq_1 @DO.eq_1 (sn @zf @zg @ng @nh @Ho.eq_1 @Ht.eq_1)))))))))))))
theorem X3(s:ByteArray)(w:World)(hs:s.size<=9223372036854775807)(hg:qN w (Out [])):Calls Tryz.prog 8 #[.string s] w λe w' => e=.returned (.bool true)/\LE.an w [] w' := by
 have dN:aX w (Out []) w (bE (λ_=>True) []):=λb _ h=>⟨rfl,trivial,h⟩
 have hr:=hg.mono dN;have u0:Up (λ_=>True) w []:=Up.true _ _;refine ai (nt:=93) [.tmp 2] Tryz.func8 rfl rfl rfl ?_;refine vR (zH (λ_=>True)) gO ?_;refine Wp.seq ?_;refine wR (qn (λ_=>True) s ([],.nil)) gO ?_ ?_
 ·exact hg
 refine wC gO (λhc=>?_) (λhc=>?_)
 ·exact absurd hc sI
 refine wK ?_;refine vR (zH (λ_=>True)) gO ?_;refine Wp.seq ?_;refine vR (zH (λ_=>True)) gO ?_;refine wC gO (λhc=>?_) (λhc=>?_)
 ·exact absurd hc sI
 refine wK ?_;cases hF:tU s with
 | error e=>
  obtain⟨c,j⟩:=e;have hcd:decide (c=0)=false:=decide_eq_false (ZY hF);have hE:iF s=.error (c,(j:Nat)):=by unfold iF;rw[hF]
  refine wR (qn (λ_=>True) s ([],.nil)) (aa gO hE) ?_ ?_
  ·exact⟨hs,hr.1,hr.2.1⟩
  refine wR (qn (λ_=>True) s ([],.nil)) (aa gO hF) ?_ ?_
  ·exact⟨hs,hr.1⟩
  refine Wp.seq ?_;refine vR (zH (λ_=>True)) (aa gO hcd) ?_;refine wC gO (λhc=>?_) (λhc=>?_)
  ·skip;refine vR (zH (λ_=>True)) gO ?_;refine wZ gO ?_;exact λE=>by simp[den]
  ·exact absurd hc sI
 | ok p=>
  have hT:iF s=qW p:=by unfold iF;rw[hF]
  have hpk:=(⟨HC hF,HB hF⟩:Ob p/\p.1.length<=4097);cases hF2:qW p with
  |error e=>
   obtain⟨c,j⟩:=e;rw[hF2]at hT;refine wR (qn (λ_=>True) s p) (aa gO hT) ?_ ?_
   ·exact⟨hs,hr.1,hr.2.1⟩
   refine wR (qn (λ_=>True) s p) (aa gO hF) ?_ ?_
   ·exact⟨⟨hs,hr.1⟩,u0⟩
   refine Wp.cV 272 (ev gO) (aX.refl _ _) λW1 bs1 cs hx1 hΦ1=>?_
   obtain⟨vp,rfl,hvp⟩:=hΦ1;have hpp:LE.hv vp=vp:=hvp.hv;have hr1:=hr.mono hx1.dN;refine Wp.seq ?_;refine vR (zH (λ_=>True)) (aa gO hpp) ?_;refine wC gO (λhc=>?_) (λhc=>?_)
   ·exact absurd hc sI
   refine wK ?_;refine wR (qn (λ_=>True) s p) (br gO hF2 hpp) ?_ ?_
   ·exact⟨hvp,hpk,hr1.2.1⟩
   refine wR (qn (λ_=>True) s p) (br gO hF2 hpp) ?_ ?_
   ·exact⟨hvp,hpk,hr1.2.1⟩
   refine vR (zH (λ_=>True)) gO ?_;refine wZ gO ?_;exact λE=>by simp[den]
  |ok t=>
   rw[hF2]at hT;have hS:=Q3 hT;have hB:cj t<=fw:=by have:=hS.2;unfold fw;omega
   refine wR (qn (λ_=>True) s p) (aa gO hT) ?_ ?_
   ·exact⟨⟨hs,hr.1,hr.2.1⟩,u0⟩
   refine Wp.cV 208 (ev gO) (aX.refl _ _) λW0 bs0 cs0 hx0 hΦ0=>?_
   obtain⟨v1,rfl,hv1⟩:=hΦ0;have hh1:LE.hv v1=v1:=hv1.hv;have hr0:=hr.mono hx0.dN;have up0:Up (λ_=>True) W0 bs0:=Up.true _ _;refine wR (qn (λ_=>True) s p) (br gO hF hh1) ?_ ?_
   ·exact⟨⟨hs,hr0.1⟩,up0⟩
   refine Wp.cV 272 (ev gO) (aX.refl _ _) λW1 bs1 cs hx1 hΦ1=>?_
   obtain⟨vp,rfl,hvp⟩:=hΦ1;have hpp:LE.hv vp=vp:=hvp.hv;have hr1:=hr0.mono hx1.dN;have up1:Up (λ_=>True) W1 bs1:=Up.true _ _;refine Wp.seq ?_;refine vR (zH (λ_=>True)) (br gO hpp hh1) ?_;refine wC gO (λhc=>?_) (λhc=>?_)
   ·exact absurd hc sI
   refine wK ?_;refine wR (qn (λ_=>True) s p) (fP gO hF2 hpp hh1) ?_ ?_
   ·exact⟨⟨hvp,hpk,hr1.2.1⟩,up1⟩
   refine Wp.cV 360 (ev gO) (aX.refl _ _) λW2 bs2 cs2 hx2 hΦ2=>?_
   obtain⟨v2,rfl,hv2⟩:=hΦ2;have hh2:LE.hv v2=v2:=hv2.hv;have hr2:=hr1.mono hx2.dN;have up2:Up (λ_=>True) W2 bs2:=Up.true _ _;refine wR (qn (λ_=>True) s p) (qG gO hF2 hpp hh1 hh2) ?_ ?_
   ·exact⟨⟨hvp.mono hx2.dN,hpk,hr2.2.1⟩,up2⟩
   refine Wp.cV 424 (ev gO) (aX.refl _ _) λW3 bs3 cs3 hx3 hΦ3=>?_
   obtain⟨v3,rfl,hv3⟩:=hΦ3;have hh3:LE.hv v3=v3:=hv3.hv;have hr3:=(hr2.mono hx3.dN).mono (S' := Out bs3) λb _ hb=>⟨rfl,hb.2⟩
   have k1:eQ W3 (Out bs3) v1 t:=(((hv1.mono hx1.dN).mono hx2.dN).mono hx3.dN).out;have k2:eQ W3 (Out bs3) v2 t:=(hv2.mono hx3.dN).out;have k3:eQ W3 (Out bs3) v3 t:=hv3.out;have t1:=cg k1;have t2:=cg k2;have t3:=cg k3;refine wR (qn (λ_=>True) s p) (IL gO hh1 hh2 hh3 t1 t2 t3) ?_ ?_
   ·exact⟨λ_=>⟨t,k2,hS,hr3.2⟩,λ_=>⟨t,k1,hS,hr3.2⟩,λ_=>⟨t,k3,hS,hr3.2⟩,λ_=>⟨t,k1,hS,hr3.2⟩,λ_=>⟨t,k2,hB⟩,λ_=>⟨t,k1,hB⟩⟩
   refine wZ gO ?_;exact λE=>by simp[den]
end
end Go.Proofs.YtnemkecffmdlnaaGreatDoor
namespace Go.Proofs.YtnemkecffmdlnaaGreatDoor.termElaborates
section
set_option maxRecDepth 100000
theorem k0:Rows.termElaboratesRow.wf (OpenSpec.ofChange (OpenSpec.ofChange Rows.termElaboratesSpec).bare)=true:=by kernel_rfl
theorem k1:laidOutB Tryz.prog=true:=by kernel_rfl
theorem k2:mapsRowed Tryz.prog=true:=by kernel_rfl
theorem k3:Tryz.f8.params.all (Tryz.prog.readableRec ·)=true:=by kernel_rfl
theorem k4:namedTie Tryz.prog Rows.termElaboratesRow.named (OpenSpec.ofChange Rows.termElaboratesSpec).bare.vars=true:=by kernel_rfl
theorem k5:(Rows.termElaboratesRow.stops == [])=true:=by kernel_rfl
theorem k6:(Tryz.prog.stops == [])=true:=by kernel_rfl
theorem k7:(Rows.termElaboratesRow.knobs == [])=true:=by kernel_rfl
theorem k8:(Tryz.prog.stopKnobs == [])=true:=by kernel_rfl
theorem k9:(Rows.termElaboratesRow.inPlace == Tryz.prog.inPlace 8)=true:=by kernel_rfl
theorem k10:(Rows.termElaboratesRow.unfollowed == Tryz.prog.unfollowed 8)=true:=by kernel_rfl
theorem k11:(Rows.termElaboratesRow.recurses == Tryz.prog.recurses 8)=true:=by kernel_rfl
theorem k12:(Rows.termElaboratesRow.named == Tryz.prog.varsNamed 8)=true:=by kernel_rfl
theorem k13:(Rows.termElaboratesRow.maps == (Tryz.f8.params.toList++(OpenSpec.ofChange Rows.termElaboratesSpec).bare.plain.varTypes Tryz.prog).any (Tryz.prog.mapsRec ·))=true:=by kernel_rfl
theorem k14:(Rows.termElaboratesRow.ifaces == (Tryz.f8.params.toList++(OpenSpec.ofChange Rows.termElaboratesSpec).bare.plain.varTypes Tryz.prog).any (Tryz.prog.ifacesRec ·))=true:=by kernel_rfl
theorem k15:(Rows.termElaboratesRow.mapsOut == Tryz.prog.mapsAmong Tryz.f8.resultTypes.toList)=true:=by kernel_rfl
theorem k16:(Rows.termElaboratesRow.loops == (Tryz.f8.params.toList++(OpenSpec.ofChange Rows.termElaboratesSpec).bare.plain.varTypes Tryz.prog).any (Tryz.prog.loopsFrom ·))=true:=by kernel_rfl
theorem k17:(Rows.termElaboratesRow.wideKeys == (Tryz.f8.params.toList++(OpenSpec.ofChange Rows.termElaboratesSpec).bare.plain.varTypes Tryz.prog++Tryz.f8.resultTypes.toList).any (Tryz.prog.wideKeysFrom ·))=true:=by kernel_rfl
theorem k18:(OpenSpec.ofChange Rows.termElaboratesSpec).bare.vars.all (Tryz.prog.varReadable ·)=true:=by kernel_rfl
theorem k19:Tryz.f8.resultTypes.all (λt=>Tryz.prog.readableRec t&&decide (t<Tryz.prog.types.size))=true:=by kernel_rfl
theorem k20:(Rows.termElaboratesRow.ifacesOut == Tryz.f8.resultTypes.toList.any (Tryz.prog.ifacesRec ·))=true:=by kernel_rfl
theorem k21:(Rows.termElaboratesRow.loopsOut == Tryz.f8.resultTypes.toList.any (Tryz.prog.loopsFrom ·))=true:=by kernel_rfl
theorem k22:(Rows.termElaboratesRow.plainKeys == Tryz.prog.plainKeys)=true:=by kernel_rfl
theorem k23:Rows.termElaboratesRow.shortTexts.isNone=true:=by kernel_rfl
theorem k24:Tryz.prog.stopsHeard=true:=by kernel_rfl
theorem k25:Tryz.prog.mayEnter=true:=by kernel_rfl
theorem k26:(Rows.termElaboratesRow.lifted == Tryz.prog.liftsFinal)=true:=by kernel_rfl
theorem k27:(Tryz.prog.make == some Rows.termElaboratesRow.make)=true:=by kernel_rfl
theorem k28:(Rows.termElaboratesRow.kinds == (if Rows.termElaboratesRow.domain.isEmpty then [] else Tryz.f8.params.toList.map λt=>match Tryz.prog.underlying t with|some (.int k)=>some k|_=>none))=true:=by kernel_rfl
theorem k29:(Rows.termElaboratesRow.pinned == Rows.termElaboratesRow.pinnedBy)=true:=by kernel_rfl
theorem k30:(Rows.termElaboratesRow.veiled == (Tryz.f8.params.toList++(OpenSpec.ofChange Rows.termElaboratesSpec).bare.plain.varTypes Tryz.prog++Tryz.f8.resultTypes.toList).any (Tryz.prog.veiledRec ·))=true:=by kernel_rfl
theorem k31:Rows.termElaboratesRow.veiledFits Tryz.prog Tryz.f8.params.toList (Tryz.f8.params.toList++(OpenSpec.ofChange Rows.termElaboratesSpec).bare.plain.varTypes Tryz.prog++Tryz.f8.resultTypes.toList)=true:=by kernel_rfl
theorem facts:joinedFacts Tryz.prog 8 Tryz.f8 (OpenSpec.ofChange Rows.termElaboratesSpec).bare Rows.termElaboratesRow=true:=by
 unfold joinedFacts;simp only[Bool.and_eq_true];exact⟨⟨⟨⟨⟨⟨⟨⟨⟨⟨⟨⟨⟨⟨⟨⟨⟨⟨⟨⟨⟨⟨⟨⟨⟨⟨⟨⟨⟨⟨⟨k0,k1⟩,k2⟩,k3⟩,k4⟩,k5⟩,k6⟩,k7⟩,k8⟩,k9⟩,k10⟩,k11⟩,k12⟩,k13⟩,k14⟩,k15⟩,k16⟩,k17⟩,k18⟩,k19⟩,k20⟩,k21⟩,k22⟩,k23⟩,k24⟩,k25⟩,k26⟩,k27⟩,k28⟩,k29⟩,k30⟩,k31⟩
end
section
open Go Go.ChangeShapes Go.WideShapes Go.ChangeAt Go.RowKit Go.LE
open Go.ChangeMaps (open_string shut_string)
set_option maxRecDepth 10000
theorem W9(H:Type)(enc:TypeId×Value->H)(W:World)(base:Nat)(args:Array Value)(ds gs:List (DataW H))(before:List MemPlace)
  (hval:∀ (j:Nat) t v,Tryz.f8.params[j]?=some t->args[j]?=some v->Value.okWide Tryz.prog W .any base t v)
  (hW:DataW.Whole enc Tryz.prog Tryz.f8.params.toList Rows.termElaboratesSpec.vars false W args.toList ds gs before) (hL:laidMetH Tryz.prog Rows.termElaboratesRow.laid W) (hS:W.ShapedOpen Tryz.prog) :
  Calls Tryz.prog 8 args W λe W' => ∃ v,e=.returned v/\Rows.termElaboratesSpec.post enc Tryz.prog Tryz.f8 false true false false W args v W' := by
 have hW' := hW;obtain⟨p,q,hA0,hV,rfl,hfz,hnd⟩:=hW;have hA:DataW.TrodAll enc Tryz.prog W 0 (λ_=>true) true Tryz.f8.params.toList args.toList ds p:=hA0;rw[Tryz.params8]at hA hval;obtain⟨v0,vs0,d0,ds0,p0,q0,hargs,rfl,rfl,h0,r0⟩:=trodAll_cons hA;obtain⟨rfl,rfl,rfl⟩:=trodAll_nil r0
 obtain rfl:args=#[v0]:=by cases args;simp_all
 obtain⟨rfl,rfl⟩:=trodVars_none hV;obtain⟨s,rfl,rfl,rfl,ha⟩:=open_string Tryz.underlying9 (hval 0 9 v0 rfl rfl) h0;unfold maxLen at ha;have hL' : laidMet Tryz.prog Rows.termElaboratesRow.laid W:=hL;have g1:=Vr (Lib.laidMet.reads hL' (.tail _ (.tail _ (.head _))))
 have g2:=SQ (Lib.laidMet.reads hL' (.tail _ (.tail _ (.tail _ (.head _)))));have g3:=UK (Lib.laidMet.reads hL' (.tail _ (.tail _ (.tail _ (.tail _ (.head _))))));have hT:qN W (Out []):=⟨⟨TS hS,g3⟩,g2,g1⟩;refine (X3 s W (by omega) hT).mono λe W' ⟨he,hkp⟩=>?_
 subst he;exact⟨_,rfl,X4 ako akx akf (by kernel_rfl) (tb:=4) rfl Tryz.underlying4 rfl hW' rfl rfl rfl hkp⟩
noncomputable def xy(os:Os):World:=World.laidAll Tryz.prog os Rows.termElaboratesRow.laid
def acx:Array Value:=#[.string .empty]
theorem X2(os:Os):laidMet Tryz.prog Rows.termElaboratesRow.laid ((xy os).forCall (λ_ _=>0) ⟨#[],acx,[]⟩).memory:=
 laidMet_laidAll _ (by kernel_rfl) (by kernel_rfl)
theorem reads(os:Os){H:Type}(enc:TypeId×Value->H):∃ places,DataW.whole enc Tryz.prog ((xy os).forCall (λ_ _=>0) ⟨#[],acx,[]⟩).memory Tryz.f8.params.toList Rows.termElaboratesSpec.vars false acx.toList 8=some ([.lit (.string [])],[],places):=
 ⟨[],by kernel_rfl⟩
set_option maxRecDepth 100000 in
theorem lifted(os:Os)(started:os.Started)(H:Type)(enc:TypeId×Value->H)(F:Stop.Interp) :
  ReturnsInHanded {} Tryz.checked os 8 .any ((OpenSpec.ofChange Rows.termElaboratesSpec).preRow enc Tryz.prog Tryz.f8 Rows.termElaboratesRow.domain false Rows.termElaboratesRow.laid) (((OpenSpec.ofChange Rows.termElaboratesSpec).at F).post enc Tryz.prog Tryz.f8 false true false false):=by
 obtain⟨places,hx⟩:=reads os enc;refine returnsInHanded_of_row (C:=Tryz.checked) (s:=OpenSpec.ofChange Rows.termElaboratesSpec) alQ started (by kernel_rfl) Tryz.func8
  (witness_row_at (enc:=enc) (C:=Tryz.checked) false (xy os) acx (World.laidAll_os _ _ _) (by kernel_rfl) (by kernel_rfl) (by kernel_rfl)
   (OpenSpec.preRow_of_cond 8 hx (by kernel_rfl) (λk hk=>by cases hk) (by kernel_rfl) (X2 os))) ?_
 intro W base args ds gs before hval hW _ hcond _ hL hS _;exact W9 H enc W base args ds gs before hval hW hL hS
theorem said:Rows.TermElaboratesSaid:=
 OpenClaim.holds_of_cond 8 Tryz.f8 rfl rfl rfl rfl rfl rfl rfl ⟨rfl,rfl,rfl,rfl,rfl⟩ rfl rfl rfl rfl rfl (by kernel_rfl) Tryz.func8 facts
  (of_decide_eq_true (by kernel_rfl)) (by unfold Func.isWrapper;first|(rw[if_pos (by decide +kernel)];kernel_rfl)|(rw[if_neg (by decide +kernel)];exact⟨rfl,rfl⟩))
  (λos started H enc _ F=>by rw[OpenClaim.pre_eq_preRow];exact lifted os started H enc F)
theorem plain(f:FuncId)(fn:Func)(hf:Tryz.pinned.checked.prog.funcNamed "loupe/loupelaw14.TermElaborates"=some f)(hfn:Tryz.pinned.checked.prog.funcs[f]?=some fn) :
  true=Tryz.pinned.checked.prog.looks []/\∀ (j:Nat) t,fn.params[j]?=some t->Tryz.pinned.checked.prog.wantsStandIn t=false:=by
 obtain rfl:f=8:=Option.some.inj ((show Tryz.prog.funcNamed "loupe/loupelaw14.TermElaborates"=some 8 by kernel_rfl).symm.trans hf) |>.symm;obtain rfl:fn=Tryz.f8:=(Option.some.inj (Tryz.func8.symm.trans hfn)).symm;refine⟨by kernel_rfl,λj t ht=>?_⟩;rw[Tryz.params8]at ht;obtain rfl:t=9:=by simpa using Array.mem_of_getElem? ht
 exact (show Tryz.prog.wantsStandIn 9=false by kernel_rfl)
theorem proved:Rows.TermElaboratesCardSaid:=
 Claim7.holds_tied_plain_at .later [] _ _ _ _ said (λ_ h=>by cases h) (by kernel_rfl) (λ_ h=>by cases h) termElaborates_row_tie rfl ⟨rfl,rfl⟩ (by kernel_rfl) rfl plain (by kernel_rfl)
end
end Go.Proofs.YtnemkecffmdlnaaGreatDoor.termElaborates
