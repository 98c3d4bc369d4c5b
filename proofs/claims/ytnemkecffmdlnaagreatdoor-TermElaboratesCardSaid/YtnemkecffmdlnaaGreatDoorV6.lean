/-
 Part 6 of the proof (packed).
-/
import Derived.Test.YtnemkecffmdlnaaGreatDoorV5
set_option linter.unusedSimpArgs false
set_option linter.unusedVariables false
set_option linter.defProp false
set_option maxHeartbeats 16000000
namespace Go.Proofs.YtnemkecffmdlnaaGreatDoor
section
open Go Go.RowKit Go.LE
set_option maxRecDepth 10000
abbrev yA (n:Nat):Prop:=∀ (t:Tm) (v:Value) (w:World),eQ w (Out []) v t->dT t<n->cj t<=fw->Calls Tryz.prog 58 #[v] w λe w' => e=.returned (.int .i64 (cj t))/\an w [] w'
noncomputable def E3(n:Nat)(h:yA n):aY Tryz.prog 58 where
 pre:=λW bs as_=>∃ v t,as_=[.val v]/\eQ W (Out bs) v t/\dT t<n/\cj t<=fw
 res:=λW as_=>match as_ with
  |[.val v]=>.int .i64 (cj (qL W v))
  |_=>undef
 enters:=Tryz.call58
 ok:=by
  intro W w bs us as_ hk hu hp;obtain⟨v,t,rfl,h1,h2,h3⟩:=hp
  match us,hu with
  |[x],hu=>
   obtain⟨rfl,_⟩:=hu;simp only[cg h1];exact h t x w (h1.mono λb hb hn=>⟨hk.block b hb hn,by simp[Out]⟩) h2 h3
theorem E4(n:Nat)(h:yA n)(W:World)(bs:List Nat)(v:Value):(E3 n h).pre W bs [.val v]=∃ t,eQ W (Out bs) v t/\dT t<n/\cj t<=fw:=by
 apply propext;constructor
 ·rintro⟨v',t,h1,h2⟩;cases h1;exact⟨t,h2⟩
 ·exact λ⟨t,h2⟩=>⟨v,t,rfl,h2⟩
theorem E5(n:Nat)(h:yA n)(W:World)(v:Value):(E3 n h).res W [.val v]=.int .i64 (cj (qL W v)):=rfl
noncomputable def D7(n:Nat)(h:yA n)(k:Nat):Env Tryz.prog:=⟨λ| 97=>some aeN.spec|98=>some T6.spec|58=>some (E3 n h).spec|f=>ZN k (ou k) f,λ_=>none,YC⟩
section
variable (n:Nat)(h:yA n)(k:Nat)
theorem afu:(D7 n h k).sp 97=some aeN.spec:=rfl
theorem afv:(D7 n h k).sp 98=some T6.spec:=rfl
theorem aft:(D7 n h k).sp 58=some (E3 n h).spec:=rfl
theorem abS{W:World}{bs:List Nat}{κ:Nat}{hh:Hp}(r:Rx):aI (D7 n h k) W bs κ hh "Size" [.v (ax r)]=⟨bP r<k/\bP r<=1152921504606846976,.v (.int .i64 (bP r)),[],none,[],[]⟩:=
 A0 k (ou k) rfl (λt f hf=>by
  unfold fnS at hf
  split at hf<;>cases hf<;>rfl) r
end
theorem aj9(b:Nat):b∉([]:List Nat):=by simp
theorem wrS{a b:Int}(h0:0<=a)(h1:0<=b)(h2:a+b<=9223372036854775807):IntKind.i64.wrap (a+b)=a+b:=aA oM h2
def cv:=(ae @List.replicate_succ.{0} @List.replicate_zero.{0} @au @ab kH kI kK (ae c8 da db dc dn dr dt (ae du ew ez eA eB eC eD (ae jw jx jy jz jA ib ic (ae ie ig pD pE pF pG pH (ae pI pJ pK pL nD nE nF (ae nG nH nI nJ nL nM pM (ae pN pO pP pQ pR pS pT (ae pU pV pW pX pY pZ p4 (ae p5 p6 p7 p8 lX lY lZ (ae l6 l7 l8 l9 ma mb mc (ae me mf mg mh mi mj ml (ae mm mn @aV @aw @aD @aG @aL (ae @fm @afu @afv @aft @abS @E4 @E5 (qG @gf @Lz @Ly @YI @YH)))))))))))))))
theorem Ve(n:Nat)(h:yA n):yA (n+1):=by
 intro t v w hv hd hsz;refine ai (nt:=105) [.tmp 2] Tryz.func58 rfl rfl rfl ?_;refine vR Γ0 cv ?_;refine Wp.seq ?_;refine vR Γ0 cv ?_;refine Wp.block ?_;cases t with
 | text a s=>
  obtain rfl:v=_:=hv;have hs:mF s<=fw:=hsz;have hs2:s.size<=2305843009213693952:=by unfold mF fw at hs;omega
  refine vR Γ0 cv ?_;refine wC cv (λhc=>?_) (λhc=>?_)
  ·skip;refine vR Γ0 cv ?_;refine vR (D7 n h 0) cv ?_;refine wZ cv ?_;exact λE=>rfl
  ·first|cases hc|exact absurd hc sI
 | rx a r=>
  obtain rfl:v=_:=hv;have hs:bP r<=fw:=hsz;refine vR Γ0 cv ?_;refine wC cv (λhc=>?_) (λhc=>?_)
  ·first|cases hc|exact absurd hc sI
  refine vR Γ0 cv ?_;refine wC cv (λhc=>?_) (λhc=>?_)
  ·skip;refine wR Γ0 cv ?_ ?_
   ·exact aL r
   refine wR (D7 n h (bP r+1)) cv ?_ ?_
   ·exact⟨Nat.lt_succ_self _,hs⟩
   refine wZ cv ?_;exact λE=>rfl
  ·first|cases hc|exact absurd hc sI
 | canon c=>
  obtain⟨p,rfl,hc0⟩:=hv;refine vR Γ0 cv ?_;refine wC cv (λhc=>?_) (λhc=>?_)
  ·first|cases hc|exact absurd hc sI
  refine vR Γ0 cv ?_;refine wC cv (λhc=>?_) (λhc=>?_)
  ·first|cases hc|exact absurd hc sI
  refine vR Γ0 cv ?_;refine wC cv (λhc=>?_) (λhc=>?_)
  rotate_left
  ·first|cases hc|exact absurd hc sI
  cases hc0 with
  | nil=>
   refine vR Γ0 cv ?_;refine Wp.seq ?_;refine vR Γ0 cv ?_;refine wC cv (λhc=>?_) (λhc=>?_)
   ·skip;refine vR Γ0 cv ?_;refine wZ cv ?_;exact λE=>rfl
   ·first|cases hc|exact absurd hc sI
  | mk b a op nd to bk va vb x y h0 h1 h2 h3 h4 h5 h6 hx hy=>
   have ta:qL w (.iface 193 va)=.canon x:=cg (S:=Out []) ⟨va,rfl,hx⟩;have tb:qL w (.iface 193 vb)=.canon y:=cg (S:=Out []) ⟨vb,rfl,hy⟩;have tya:eQ w (Out []) (.iface 193 va) (.canon x):=⟨va,rfl,hx⟩;have tyb:eQ w (Out []) (.iface 193 vb) (.canon y):=⟨vb,rfl,hy⟩;simp only[dT,dC]at hd
   have hT:cj (.canon (.mk a op nd to bk x y))=1+dX nd+dY x+dY y+(if op=jo then mF to else 0):=rfl;have hbx:cj (.canon x)=dY x:=rfl;have hby:cj (.canon y)=dY y:=rfl;have hs1:1+dX nd+dY x+dY y<=1152921504606846976:=by
    rw[hT]at hsz;unfold fw at hsz;omega
   refine vR Γ0 cv ?_;refine Wp.seq ?_;refine vR Γ0 cv ?_;refine wC cv (λhc=>?_) (λhc=>?_)
   ·first|cases hc|exact absurd hc sI
   refine wK ?_;have w0:IntKind.i64.wrap ((1:Int)+((dX nd:Nat):Int))=(1:Int)+((dX nd:Nat):Int):=wrS oM oM oM;have w1:IntKind.i64.wrap ((1:Int)+((dX nd:Nat):Int)+((dY x:Nat):Int))=(1:Int)+((dX nd:Nat):Int)+((dY x:Nat):Int):=wrS oM oM oM
   have w2:IntKind.i64.wrap ((1:Int)+((dX nd:Nat):Int)+((dY x:Nat):Int)+((dY y:Nat):Int))=(1:Int)+((dX nd:Nat):Int)+((dY x:Nat):Int)+((dY y:Nat):Int):=wrS oM oM oM;refine ko (D7 n h 0) (ae cv ta tb h1.2 h2.2 h3.2 h5.2 (sn h6.2 hbx hby w0 w1 w2)) ?_ ?_
   ·exact⟨by unfold fw;omega,⟨_,tya,by simp only[dT];omega,by rw[hbx];unfold fw;omega⟩,⟨_,tyb,by simp only[dT];omega,by rw[hby];unfold fw;omega⟩⟩
   refine Wp.seq ?_;refine vR Γ0 (aa cv h1.2) ?_;refine wC cv (λhc=>?_) (λhc=>?_)
   ·have ho:op=jo:=by simpa [jo,lK] using hc
    have hs3:1+dX nd+dY x+dY y+mF to<=1152921504606846976:=by
     rw[hT,if_pos ho]at hsz;exact hsz
    have hs4:to.size<=2305843009213693952:=by
     have:mF to<=1152921504606846976:=oM;unfold mF at this;omega
    refine wr (D7 n h 0) (aa cv h3.2) ?_ ?_
    ·exact hs4
    refine vR Γ0 cv ?_;refine wZ cv ?_;refine λE=>?_
    simp only[den];rw[hT,if_pos ho,wrS oM oM oM]
    push_cast
    rfl
   ·have ho:¬ op=jo:=by simpa [jo,lK] using hc
    refine wK ?_;refine vR Γ0 cv ?_;refine wZ cv ?_;refine λE=>?_
    simp only[den];rw[hT,if_neg ho]
    push_cast
    rfl
 | lens c=>
  obtain⟨p,rfl,hc0⟩:=hv;refine vR Γ0 cv ?_;refine wC cv (λhc=>?_) (λhc=>?_)
  ·first|cases hc|exact absurd hc sI
  refine vR Γ0 cv ?_;refine wC cv (λhc=>?_) (λhc=>?_)
  ·first|cases hc|exact absurd hc sI
  refine vR Γ0 cv ?_;refine wC cv (λhc=>?_) (λhc=>?_)
  ·first|cases hc|exact absurd hc sI
  refine vR Γ0 cv ?_;refine wC cv (λhc=>?_) (λhc=>?_)
  rotate_left
  ·first|cases hc|exact absurd hc sI
  cases hc0 with
  | nil=>
   refine vR Γ0 cv ?_;refine Wp.seq ?_;refine vR Γ0 cv ?_;refine wC cv (λhc=>?_) (λhc=>?_)
   ·skip;refine vR Γ0 cv ?_;refine wZ cv ?_;exact λE=>rfl
   ·first|cases hc|exact absurd hc sI
  | mk b a op nd tx vq va vb q x y h0 h1 h2 h3 h4 h5 h6 hq hx hy=>
   have tq:qL w (.iface 193 vq)=.canon q:=cg (S:=Out []) ⟨vq,rfl,hq⟩;have ta:qL w (.iface 197 va)=.lens x:=cg (S:=Out []) ⟨va,rfl,hx⟩;have tb:qL w (.iface 197 vb)=.lens y:=cg (S:=Out []) ⟨vb,rfl,hy⟩;have tyq:eQ w (Out []) (.iface 193 vq) (.canon q):=⟨vq,rfl,hq⟩
   have tya:eQ w (Out []) (.iface 197 va) (.lens x):=⟨va,rfl,hx⟩;have tyb:eQ w (Out []) (.iface 197 vb) (.lens y):=⟨vb,rfl,hy⟩;simp only[dT,dL]at hd;have hT:cj (.lens (.mk a op nd tx q x y))=1+dX nd+dY q+ia x+ia y+(if op=lK then mF tx else 0):=rfl;have hbq:cj (.canon q)=dY q:=rfl
   have hbx:cj (.lens x)=ia x:=rfl;have hby:cj (.lens y)=ia y:=rfl;have hs1:1+dX nd+dY q+ia x+ia y<=1152921504606846976:=by
    rw[hT]at hsz;unfold fw at hsz;omega
   refine vR Γ0 cv ?_;refine Wp.seq ?_;refine vR Γ0 cv ?_;refine wC cv (λhc=>?_) (λhc=>?_)
   ·first|cases hc|exact absurd hc sI
   refine wK ?_;have w0:IntKind.i64.wrap ((1:Int)+((dX nd:Nat):Int))=(1:Int)+((dX nd:Nat):Int):=wrS oM oM oM;have w1:IntKind.i64.wrap ((1:Int)+((dX nd:Nat):Int)+((dY q:Nat):Int))=(1:Int)+((dX nd:Nat):Int)+((dY q:Nat):Int):=wrS oM oM oM
   have w2:IntKind.i64.wrap ((1:Int)+((dX nd:Nat):Int)+((dY q:Nat):Int)+((ia x:Nat):Int))=(1:Int)+((dX nd:Nat):Int)+((dY q:Nat):Int)+((ia x:Nat):Int):=wrS oM oM oM
   have w3:IntKind.i64.wrap ((1:Int)+((dX nd:Nat):Int)+((dY q:Nat):Int)+((ia x:Nat):Int)+((ia y:Nat):Int))=(1:Int)+((dX nd:Nat):Int)+((dY q:Nat):Int)+((ia x:Nat):Int)+((ia y:Nat):Int):=wrS oM oM oM
   refine ko (D7 n h 0) (ae cv tq ta tb h1.2 h2.2 h3.2 (ae h4.2 h5.2 h6.2 hbq hbx hby w0 (br w1 w2 w3))) ?_ ?_
   ·exact⟨by unfold fw;omega,⟨_,tyq,by simp only[dT];omega,by rw[hbq];unfold fw;omega⟩,⟨_,tya,by simp only[dT];omega,by rw[hbx];unfold fw;omega⟩,⟨_,tyb,by simp only[dT];omega,by rw[hby];unfold fw;omega⟩⟩
   refine Wp.seq ?_;refine vR Γ0 (aa cv h1.2) ?_;refine wC cv (λhc=>?_) (λhc=>?_)
   ·have ho:op=lK:=by simpa [jo,lK] using hc
    have hs3:1+dX nd+dY q+ia x+ia y+mF tx<=1152921504606846976:=by
     rw[hT,if_pos ho]at hsz;exact hsz
    have hs4:tx.size<=2305843009213693952:=by
     have:mF tx<=1152921504606846976:=oM;unfold mF at this;omega
    refine wr (D7 n h 0) (aa cv h3.2) ?_ ?_
    ·exact hs4
    refine vR Γ0 cv ?_;refine wZ cv ?_;refine λE=>?_
    simp only[den];rw[hT,if_pos ho,wrS oM oM oM]
    push_cast
    rfl
   ·have ho:¬ op=lK:=by simpa [jo,lK] using hc
    refine wK ?_;refine vR Γ0 cv ?_;refine wZ cv ?_;refine λE=>?_
    simp only[den];rw[hT,if_neg ho]
    push_cast
    rfl
theorem B2:∀ n,yA n
 |0=>λt v w _ h=>absurd h (Nat.not_lt_zero _)
 |n+1=>Ve n (B2 n)
noncomputable def s6:Env Tryz.prog:=⟨λ| 245=>some ofC.spec|_=>none,λ_=>none,λ_ _=>none⟩
theorem abT:s6.sp 245=some ofC.spec:=rfl
def We(s:ByteArray):Nat->Value
 |0=>.nilIface
 |k+1=>ax (qB s (k+1))
theorem alD(s:ByteArray)(k:Nat)(h:k<s.size):(s.extract k (k+1)).size=1:=by rw[ByteArray.size_extract];omega
def lf:=(ae @List.replicate_succ.{0} @List.replicate_zero.{0} @au @ab kH kI kK (ae c8 da db dc dn dr dt (ae du ew ez eA eB eC eD (ae ib ic ie ig vQ vS vT (ae vU C1 C2 C3 C4 C5 C6 (ae C7 C8 C9 Da Db Dc Dd (ae De Df Dg v8 wg wh wq (ae Rn Ro Rq Rs Rt Ru Rv (ae Rw @aV @aw @aD @aG @AJ @aL (ae @dj @cM @my @mv @ke @qk @iH (fP @bZ @QT @QS @abT)))))))))))
theorem UQ(s:ByteArray)(hs:s.size<=140737488351232)(w:World):Calls Tryz.prog 208 #[.string s] w λe w' => e=.returned (ax (Lo s))/\an w [] w' := by
 refine ai (nt:=33) [.tmp 2] Tryz.func208 rfl rfl rfl ?_;refine vR s6 lf ?_;refine Wp.seq ?_;refine vR s6 lf ?_;refine wC lf (λhc=>?_) (λhc=>?_)
 ·have h0:s=⟨#[]⟩:=by simpa using hc
  subst h0;refine vR s6 lf ?_;refine wZ lf ?_;exact λE=>rfl
 have h0:¬ s=⟨#[]⟩:=by simpa using hc
 have hpos:0<s.size:=by
  rcases Nat.eq_zero_or_pos s.size with h|h
  ·exact absurd (ByteArray.size_eq_zero_iff.1 h) h0
  ·exact h
 refine wK ?_;refine vR s6 lf ?_;refine Wp.seq ?_;refine vR s6 lf ?_;refine Wp.block ?_;refine Wp.loop (λk:Nat=>⟨1,dZ [(0,.is (.v (.string s))),(3,.is (.v (We s k))),(11,.is (.v (.int .i64 s.size))),(12,.is (.v (.int .i64 (k:Nat))))],dM []⟩) (λk=>k<=s.size) (λk=>s.size-k) 0 ?_ (Nat.zero_le _) ?_
 ·exact wM (λk=>.key k) (br lf @We.eq_1 @We.eq_2)
 rintro k h1;refine vR s6 lf ?_;refine Wp.seq ?_;refine wC lf (λhc=>?_) (λhc=>?_)
 ·have hk:k<s.size:=by simp at hc;omega
  have wn:IntKind.i64.wrap ((k:Int)+1)=((k+1:Nat):Int):=wW;have hx:=alD s k hk;refine wK ?_;refine Wp.seq (Wp.block ?_);refine vR s6 lf ?_;refine wR s6 (br lf wn hx) ?_ ?_
  ·first|exact⟨oM,oM,oM⟩|exact⟨oM,oM,oM,oM⟩|skip
  cases k with
  | zero=>
   refine vR s6 (br lf @We.eq_1 @We.eq_2) ?_;refine wC lf (λhc=>?_) (λhc=>?_)
   ·skip;refine vr s6 lf ?_;refine vr s6 (aa lf wn) ?_;refine⟨1,oM,oM,?_⟩;exact wM (λk=>.key k) (sn lf @We.eq_1 @We.eq_2 @qB.eq_1 @qB.eq_2 @qB.eq_3)
   ·cases hc
  | succ k=>
   refine vR s6 (br lf @We.eq_1 @We.eq_2) ?_;refine wC lf (λhc=>?_) (λhc=>?_)
   ·cases hc
   ·skip;refine vr s6 lf ?_;refine vr s6 (aa lf wn) ?_;refine⟨k+2,oM,oM,?_⟩;exact wM (λk=>.key k) (sn lf @We.eq_1 @We.eq_2 @qB.eq_1 @qB.eq_2 @qB.eq_3)
 ·have hk:k=s.size:=by simp at hc;omega
  subst hk;refine wE ?_;refine vR s6 lf ?_;refine wZ lf ?_;refine λE=>?_
  obtain⟨m,hm⟩:∃ m,s.size=m+1:=⟨s.size-1,oM⟩;simp only[den,Lo,hm,We]
def GZ:aY Tryz.prog 208 where
 pre:=λW bs=>λ| [.val (.string s)]=>s.size<=140737488351232|_=>False
 res:=λW=>λ| [.val (.string s)]=>ax (Lo s)|_=>undef
 enters:=Tryz.call208
 ok:=by
  intro W w bs us as_ hk hu hp;split at hp
  ·rename_i s
   match us,hu with
   |[u0],hu=>
    obtain⟨rfl,_⟩:=hu;exact UQ s hp w
  ·exact hp.elim
theorem Ow(W:World)(s:ByteArray):GZ.res W [.val (.string s)]=ax (Lo s):=rfl
theorem Ov(W:World)(bs:List Nat)(s:ByteArray):GZ.pre W bs [.val (.string s)]=(s.size<=140737488351232):=rfl
def Vg:Tm->Prop
 |.text _ s=>s.size<=140737488351232
 |_=>True
def Si:Option Rx->Value
 |none=>.tuple #[.nilIface,.bool false]
 |some r=>.tuple #[ax r,.bool true]
noncomputable def s7:Env Tryz.prog:=⟨λ| 208=>some GZ.spec|_=>none,λ_=>none,λ_ _=>none⟩
theorem abU:s7.sp 208=some GZ.spec:=rfl
def jO:=(ae @List.replicate_succ.{0} @List.replicate_zero.{0} @au @ab kH kI kK (ae c8 da db dc dn dr dt (ae du ew ez eA eB eC eD (ae IC ID IE IF oL oN oO (ae oP um uo uq ur uu uv (ae uw ux uy uz jw jx jy (ae jz jA ib ic ie ig pD (ae pE pF pG pH pI pJ pK (ae pL nD nE nF nG nH nI (ae nJ nL nM @aV @aw @aD @aG (qG @aL @bZ @Ow @Ov @abU)))))))))))
theorem acy(t:Tm)(v:Value)(w:World)(S:Nat->Prop)(hv:eQ w S v t)(hs:Vg t):Calls Tryz.prog 158 #[v] w λe w' => e=.returned (Si (w4 t))/\an w [] w' := by
 refine ai (nt:=18) [.tmp 2,.tmp 3] Tryz.func158 rfl rfl rfl ?_;refine vR s7 jO ?_;refine Wp.seq ?_;refine vR s7 jO ?_;refine Wp.block ?_;cases t with
 | text a s=>
  obtain rfl:v=_:=hv;refine vR s7 jO ?_;refine wC jO (λhc=>?_) (λhc=>?_)
  ·skip;refine vR s7 jO ?_;refine wR s7 jO ?_ ?_
   ·exact hs
   refine wZ jO ?_;exact λE=>rfl
  ·cases hc
 | rx a r=>
  obtain rfl:v=_:=hv;refine vR s7 jO ?_;refine wC jO (λhc=>?_) (λhc=>?_)
  ·cases hc
  refine vR s7 jO ?_;refine wC jO (λhc=>?_) (λhc=>?_)
  ·skip;refine wR s7 jO ?_ ?_
   ·exact aL r
   refine vR s7 jO ?_;refine wZ jO ?_;exact λE=>rfl
  ·cases hc
 |canon c=>
  obtain⟨p,rfl,hc0⟩:=hv;refine vR s7 jO ?_;refine wC jO (λhc=>?_) (λhc=>?_)
  ·cases hc
  refine vR s7 jO ?_;refine wC jO (λhc=>?_) (λhc=>?_)
  ·cases hc
  refine wK ?_;refine vR s7 jO ?_;refine wZ jO ?_;exact λE=>rfl
 |lens c=>
  obtain⟨p,rfl,hc0⟩:=hv;refine vR s7 jO ?_;refine wC jO (λhc=>?_) (λhc=>?_)
  ·cases hc
  refine vR s7 jO ?_;refine wC jO (λhc=>?_) (λhc=>?_)
  ·cases hc
  refine wK ?_;refine vR s7 jO ?_;refine wZ jO ?_;exact λE=>rfl
noncomputable def Sj:aY Tryz.prog 158 where
 pre:=λW bs as_=>∃ v t,as_=[.val v]/\eQ W (Out bs) v t/\Vg t
 res:=λW as_=>match as_ with
  |[.val v]=>Si (w4 (qL W v))
  |_=>undef
 enters:=Tryz.call158
 ok:=by
  intro W w bs us as_ hk hu hp;obtain⟨v,t,rfl,h1,h2⟩:=hp
  match us,hu with
  |[x],hu=>
   obtain⟨rfl,_⟩:=hu;simp only[cg h1];exact acy t x w (λ_=>True) (h1.mono λb hb hn=>⟨hk.block b hb hn,trivial⟩) h2
theorem Ao(W:World)(bs:List Nat)(v:Value):Sj.pre W bs [.val v]=∃ t,eQ W (Out bs) v t/\Vg t:=by
 apply propext;constructor
 ·rintro⟨v',t,h1,h2⟩;cases h1;exact⟨t,h2⟩
 ·exact λ⟨t,h2⟩=>⟨v,t,rfl,h2⟩
theorem Ap(W:World)(v:Value):Sj.res W [.val v]=Si (w4 (qL W v)):=rfl
theorem TY(c i:Int)(w:World)(S:Nat->Prop):Calls Tryz.prog 64 #[.int .i64 c,.int .i64 i] w λe w' => kA w S e w' (.pan (bb c i) .nilIface):=by
 refine eJ (nt:=8) S [] Tryz.func64 rfl rfl rfl ?_;refine Wp.dz Γ0 aM (ev (br jO @bb.eq_1 @nS.eq_1)) ?_ ?_
 ·exact oo
 refine qq ?_;exact⟨_,rfl⟩
def gQ:kS Tryz.prog 64 where
 kinds:=[none,none]
 pre:=λas_ _ _=>∃ c i,as_=[.val (.int .i64 c),.val (.int .i64 i)]
 premono:=λ_ _ _ _ _ _ h=>h
 out:=λas_=>match as_ with
  |[.val (.int _ c),.val (.int _ i)]=>.pan (bb c i) .nilIface
  |_=>.val undef
 enters:=Tryz.call64
 ok:=by
  intro w S us as_ hu hp;obtain⟨c,i,rfl⟩:=hp
  match us,hu with
  |[x,y],hu=>
   obtain⟨rfl,rfl,_⟩:=hu;exact TY c i w S
def Z4(t:Tm):FK:=⟨λcs W S=>∃ v,cs=[v]/\eQ W S v t,λhs ⟨v,h1,h2⟩=>⟨v,h1,h2.mono hs⟩⟩
theorem Cc{W:World}{S:Nat->Prop}{t:Tm}{cs:List Value}(h:(Z4 t).Φ cs W S):∃ v,cs=[v]/\eQ W S v t/\hv v=v:=by
 obtain⟨v,h1,h2⟩:=h;exact⟨v,h1,h2,h2.hv⟩
def Ko:TE->FOut
 |.ok t=>.fact Sh.one (Z4 t)
 |.error (c,a)=>.pan (bb c a) .nilIface
theorem QY(t:Tm):Ko (.ok t)=.fact Sh.one (Z4 t):=rfl
theorem Bw(c a:Int):Ko (.error (c,a))=.pan (bb c a) .nilIface:=rfl
theorem ep{t:Tm}{w W1:World}{S:Nat->Prop}{bs1:List Nat}{x:SV}{v:Value}(hd:∀ E,den E x=v)(h:eQ W1 (bE (aE w S) bs1) v t):FF w S W1 bs1 x (.fact Sh.one (Z4 t)):=
 ⟨[v],λE=>(hd E).trans (sM h.hv).symm,v,rfl,h⟩
noncomputable def ql(G:Nat->Prop):Env Tryz.prog:=⟨λ| 158=>some Sj.spec|64=>some (gQ.spec G)|_=>none,λ_=>none,λ_ _=>none⟩
theorem Mi(G:Nat->Prop):(ql G).sp 158=some Sj.spec:=rfl
theorem RS(G:Nat->Prop):(ql G).sp 64=some (gQ.spec G):=rfl
theorem zI.parts{W:World}{S:Nat->Prop}{v:Value}{c:Cn}(h:zI W S v c):partsOf (.v v)=[.v v]:=by cases h<;>rfl
theorem yy.parts{W:World}{S:Nat->Prop}{v:Value}{c:Ln}(h:yy W S v c):partsOf (.v v)=[.v v]:=by cases h<;>rfl
theorem j6(P:Program)(T:TypeId)(k o:Nat):nx P T [.own k o]=⟨P.concrete T=true,.mU T (.own k o),[],none,[],[]⟩:=rfl
theorem unS{a:Nat}{op:ByteArray}{t:Tm}{n:Rx}(h:w4 t=some n):Fx a op t=.ok (.rx a (if op=oJ then .star n else if op=DV then .cat n (.star n) else .alt n .eps)):=by
 cases t<;>simp only[w4]at h<;>first|(cases h;done)|(cases h;rfl)
theorem qJ{x y:ByteArray}(h:decide (x=y)=true):x=y:=by simpa using h
theorem qI{x y:ByteArray}(h:decide (x=y)=false):¬ x=y:=by simpa using h
theorem rm{W:World}{S:Nat->Prop}{b a:Nat}{op tx:ByteArray}{n:Option Rx}{vq va vb:Value}{q:Cn}{x y:Ln}{T:TypeId}(hS:S b)(hc:W.heap[b]?=some (.cells #[.int .i64 (a:Nat),.string op,ov n,.string tx,vq,va,vb] T (0,0)))
  (hq:zI W S vq q) (hx:yy W S va x) (hy:yy W S vb y):yy W S (.pointer (some ⟨b,0,none⟩)) (.mk a op n tx q x y):=
 .mk b a op n tx vq va vb q x y ⟨hS,by simp[World.cell?,hc]⟩ ⟨hS,by simp[World.cell?,hc]⟩ ⟨hS,by simp[World.cell?,hc]⟩ ⟨hS,by simp[World.cell?,hc]⟩ ⟨hS,by simp[World.cell?,hc]⟩ ⟨hS,by simp[World.cell?,hc]⟩ ⟨hS,by simp[World.cell?,hc]⟩ hq hx hy
theorem T0{W:World}{S:Nat->Prop}{b a:Nat}{op to bk:ByteArray}{n:Option Rx}{va vb:Value}{x y:Cn}{T:TypeId}(hS:S b)(hc:W.heap[b]?=some (.cells #[.int .i64 (a:Nat),.string op,ov n,.string to,.string bk,va,vb] T (0,0)))
  (hx:zI W S va x) (hy:zI W S vb y):zI W S (.pointer (some ⟨b,0,none⟩)) (.mk a op n to bk x y):=
 .mk b a op n to bk va vb x y ⟨hS,by simp[World.cell?,hc]⟩ ⟨hS,by simp[World.cell?,hc]⟩ ⟨hS,by simp[World.cell?,hc]⟩ ⟨hS,by simp[World.cell?,hc]⟩ ⟨hS,by simp[World.cell?,hc]⟩ ⟨hS,by simp[World.cell?,hc]⟩ ⟨hS,by simp[World.cell?,hc]⟩ hx hy
def dv:=(ae @List.replicate_succ.{0} @List.replicate_zero.{0} @au @ab kH kI kK (ae c8 da db dc dn dr dt (ae du ew ez eA eB eC eD (ae oL oN oO oP jw jx jy (ae jz jA ib ic ie ig nD (ae nE nF nG nH nI nJ nL (ae nM pM pN pO pP pQ pR (ae pS pT pU pV pW pX pY (ae pZ p4 p5 p6 p7 p8 lX (ae lY lZ l6 l7 l8 l9 ma (ae mb mc me mf mg mh mi (ae mj ml mm mn Ct Cu Cv (ae Cw Cx Cy Cz CA CB CC (ae P0 P1 LA LB LC LD LF (ae LG LH LI C1 C2 C3 C4 (ae C5 C6 C7 C8 C9 Da Db (ae Dc Dd De Df Dg Fi Fj (ae Fk Fl Fo Fp Fq Fs Ft (ae @j6 @aV @aw @aD @aG @cH @aL (sn @bZ @Mi @RS @Ap @Ao @gQ.eq_1))))))))))))))))))))
theorem VN(a:Nat)(op:ByteArray)(ea:Value)(t:Tm)(v:Value)(w:World)(S:Nat->Prop)(hea:ea.oneCell' = true)(hv:eQ w S v t)(hs:Vg t) :
  Calls Tryz.prog 103 #[.agg #[.int .i64 (a:Nat),.string op,ea],v] w λe w' => kA w S e w' (Ko (Fx a op t)):=by
 have hD:qL w v=t:=cg hv;have h0:eQ w (Out []) v t:=hv.mono λb _ _=>⟨rfl,by simp[Out]⟩
 have hr:eQ w (bE (aE w S) []) v t:=hv.mono (aE.eO w S);refine eJ (nt:=101) S [.tmp 4] Tryz.func103 rfl rfl rfl ?_;refine vR Γ0 dv ?_;refine Wp.seq ?_;cases hn:w4 t with
 | some n=>
  rw[unS hn];refine wR (ql (aE w S)) (qG dv hD hn @Si.eq_1 @Si.eq_2) ?_ ?_
  ·exact⟨t,h0,hs⟩
  refine vR Γ0 dv ?_;refine wC dv (λhc=>?_) (λhc=>?_)
  rotate_left
  ·cases hc
  refine Wp.seq ?_;refine vR Γ0 dv ?_;refine Wp.block ?_;refine vR Γ0 dv ?_;refine wC dv (λhc=>?_) (λhc=>?_)
  ·have ho:op=oJ:=qJ hc;rw[if_pos ho];refine vR Γ0 dv ?_;refine wZ dv ?_;exact ep (λE=>rfl) rfl
  have ho:¬ op=oJ:=qI hc;rw[if_neg ho];refine vR Γ0 dv ?_;refine wC dv (λhc=>?_) (λhc=>?_)
  ·have ho2:op=DV:=qJ hc;rw[if_pos ho2];refine vR Γ0 dv ?_;refine wZ dv ?_;exact ep (λE=>rfl) rfl
  have ho2:¬ op=DV:=qI hc;rw[if_neg ho2];refine wK ?_;refine vR Γ0 dv ?_;refine wZ dv ?_;exact ep (λE=>rfl) rfl
 | none=>
  refine wR (ql (aE w S)) (qG dv hD hn @Si.eq_1 @Si.eq_2) ?_ ?_
  ·exact⟨t,h0,hs⟩
  refine vR Γ0 dv ?_;refine wC dv (λhc=>?_) (λhc=>?_)
  ·cases hc
  refine wK ?_;refine Wp.seq ?_;refine vR Γ0 dv ?_;refine Wp.block ?_;cases t with
  |text b s=>cases hn
  |rx b r=>cases hn
  | canon c=>
   obtain⟨p,rfl,hc0⟩:=hr;refine vR Γ0 dv ?_;refine wC dv (λhc=>?_) (λhc=>?_)
   rotate_left
   ·cases hc
   refine vR Γ0 dv ?_;refine vR Γ0 dv ?_;refine wC dv (λhc=>?_) (λhc=>?_)
   ·have ho:op=oJ:=qJ hc;have hE:Fx a op (.canon c)=.ok (.canon (.mk a gn none ⟨#[]⟩ ⟨#[]⟩ c .nil)):=by simp only[Fx,w4,if_pos ho]
    rw[hE];refine vR Γ0 (aa dv hc0.parts) ?_;refine Wp.cR 176 (ev dv) (λE=>by simp only[aj,den];exact rfl) λW1 bs1 b1 hx1 hb1 hn1 hc1=>?_
    refine wZ dv ?_;have hb:bE (aE w S) bs1 b1:=⟨aE.up w S b1 hn1,hb1⟩;exact ep (λE=>rfl) ⟨_,rfl,T0 (n:=none) hb hc1 (hc0.mono hx1.dN) .nil⟩
   ·have ho:¬ op=oJ:=qI hc;have hE:Fx a op (.canon c)=gM a:=by simp only[Fx,w4,if_neg ho]
    rw[hE];refine wK ?_;refine Wp.bm (ql (aE w S)) aM (ev dv) ?_ ?_
    ·exact oo
    refine qq ?_;exact⟨_,rfl⟩
  | lens l=>
   obtain⟨p,rfl,hc0⟩:=hr;refine vR Γ0 dv ?_;refine wC dv (λhc=>?_) (λhc=>?_)
   ·cases hc
   refine vR Γ0 dv ?_;refine wC dv (λhc=>?_) (λhc=>?_)
   rotate_left
   ·cases hc
   refine vR Γ0 dv ?_;refine Wp.seq ?_;refine vR Γ0 dv ?_;refine Wp.block ?_;refine vR Γ0 dv ?_;refine wC dv (λhc=>?_) (λhc=>?_)
   ·have ho:op=oJ:=qJ hc;have hE:Fx a op (.lens l)=.ok (.lens (.mk a gn none ⟨#[]⟩ .nil l .nil)):=by simp only[Fx,w4,if_pos ho]
    rw[hE];refine vR Γ0 (aa dv hc0.parts) ?_;refine Wp.cR 208 (ev dv) (λE=>by simp only[aj,den];exact rfl) λW1 bs1 b1 hx1 hb1 hn1 hc1=>?_
    refine wZ dv ?_;have hb:bE (aE w S) bs1 b1:=⟨aE.up w S b1 hn1,hb1⟩;exact ep (λE=>rfl) ⟨_,rfl,rm (n:=none) hb hc1 .nil (hc0.mono hx1.dN) .nil⟩
   have ho:¬ op=oJ:=qI hc;refine vR Γ0 dv ?_;refine wC dv (λhc=>?_) (λhc=>?_)
   ·have ho2:op=DV:=qJ hc;have hE:Fx a op (.lens l)=.ok (.lens (.mk a w9 none ⟨#[]⟩ .nil l (.mk a gn none ⟨#[]⟩ .nil l .nil))):=by simp only[Fx,w4,if_neg ho,if_pos ho2]
    rw[hE];refine vR Γ0 (aa dv hc0.parts) ?_;refine Wp.cR 248 (ev dv) (λE=>by simp only[aj,den];exact rfl) λW1 bs1 b1 hx1 hb1 hn1 hc1=>?_
    refine Wp.cR 264 (ev dv) (λE=>by simp only[aj,den];exact rfl) λW2 bs2 b2 hx2 hb2 hn2 hc2=>?_
    refine wZ dv ?_;have h1:bE (aE w S) bs1 b1:=⟨aE.up w S b1 hn1,hb1⟩;have h2:bE (aE w S) bs2 b2:=⟨(aE.up w S).ext hx1 b2 hn2,hb2⟩;have hl:yy W2 (bE (aE w S) bs2) p l:=hc0.mono (hx1.trans hx2).dN;have h3:yy W1 (bE (aE w S) bs1) _ _:=rm (n:=none) (op:=gn) h1 hc1 .nil (hc0.mono hx1.dN) .nil
    exact ep (λE=>rfl) ⟨_,rfl,rm (n:=none) h2 hc2 .nil hl (h3.mono hx2.dN)⟩
   have ho2:¬ op=DV:=qI hc;have hE:Fx a op (.lens l)=.ok (.lens (.mk a wV none ⟨#[]⟩ .nil l (.mk a jh (some .eps) ⟨#[]⟩ .nil .nil .nil))):=by simp only[Fx,w4,if_neg ho,if_neg ho2]
   rw[hE];refine wK ?_;refine vR Γ0 (aa dv hc0.parts) ?_;refine Wp.cR 256 (ev dv) (λE=>by simp only[aj,den];exact rfl) λW1 bs1 b1 hx1 hb1 hn1 hc1=>?_
   refine Wp.cR 272 (ev dv) (λE=>by simp only[aj,den];exact rfl) λW2 bs2 b2 hx2 hb2 hn2 hc2=>?_
   refine wZ dv ?_;have h1:bE (aE w S) bs1 b1:=⟨aE.up w S b1 hn1,hb1⟩;have h2:bE (aE w S) bs2 b2:=⟨(aE.up w S).ext hx1 b2 hn2,hb2⟩;have hl:yy W2 (bE (aE w S) bs2) p l:=hc0.mono (hx1.trans hx2).dN;have h3:yy W1 (bE (aE w S) bs1) _ _:=rm (n:=some .eps) (op:=jh) h1 hc1 .nil .nil .nil
   exact ep (λE=>rfl) ⟨_,rfl,rm (n:=none) h2 hc2 .nil hl (h3.mono hx2.dN)⟩
theorem aky:Gv Tryz.prog (Program.underlying Tryz.prog 287)=some 3:=kR
theorem alZ:qM Tryz.prog 3=some (.int .i64 0):=kR
theorem opL(op:ByteArray):V8 false (.int .i64 0) (Bc [⟨#[124]⟩,⟨#[46]⟩,⟨#[126]⟩,⟨#[62,62]⟩] [.v (.int .i64 1),.v (.int .i64 2),.v (.int .i64 3),.v (.int .i64 4)] op)=.v (.int .i64 (GF op:Nat)):=by
 simp only[Bc,GF];by_cases h1:op=MJ
 ·subst h1;rfl
 rw[if_neg (λe=>h1 e.symm),if_neg h1];by_cases h2:op=Nj
 ·subst h2;rfl
 rw[if_neg (λe=>h2 e.symm),if_neg h2];by_cases h3:op=akL
 ·subst h3;rfl
 rw[if_neg (λe=>h3 e.symm),if_neg h3];by_cases h4:op=akb
 ·subst h4;rfl
 rw[if_neg (λe=>h4 e.symm),if_neg h4];rfl
theorem YQ(op:ByteArray):GF op=0\/GF op=1\/GF op=2\/GF op=3\/GF op=4:=by
 unfold GF
 repeat' split
 all_goals simp
theorem sx0(x:Option Rx):cL 0 [.v (Si x)]=⟨True,.v (ov x),[],none,[],[]⟩:=by cases x<;>simp[cL,R.gZ,Si,ov]
theorem sx1(x:Option Rx):cL 1 [.v (Si x)]=⟨True,.v (.bool x.isSome),[],none,[],[]⟩:=by cases x<;>simp[cL,R.gZ,Si,ov]
def fY(op:ByteArray)(t u:Tm):Option Rx:=match w4 t,w4 u with
 |some x,some y=>US op x y
 |_,_=>none
theorem WG(a:Nat)(op:ByteArray)(t u:Tm):WE a op t u=match fY op t u with
  |some r=>.ok (.rx a r)
  |none=>qQ a op t u:=by
 unfold WE fY;cases w4 t with
 |none=>rfl
 | some x=>
  cases w4 u with
  |none=>rfl
  |some y=>
   simp only;cases US op x y<;>rfl
def aJ:=(ae @List.replicate_succ.{0} @List.replicate_zero.{0} @au @ab kH kI kK (ae c8 da db dc dn dr dt (ae du ew ez eA eB eC eD (ae oL oN oO oP jw jx jy (ae jz jA ib ic ie ig nD (ae nE nF nG nH nI nJ nL (ae nM pM pN pO pP pQ pR (ae pS pT pU pV pW pX pY (ae pZ p4 p5 p6 p7 p8 lX (ae lY lZ l6 l7 l8 l9 ma (ae mb mc me mf mg mh mi (ae mj ml mm mn IA IB CD (ae CE CF CG CH CI CJ CK (ae CL CM CN P0 P1 C1 C2 (ae C3 C4 C5 C6 C7 C8 C9 (ae Fi Fj Fk Fl Fo Fp Fq (ae Fs Ft LJ LK LL LM LN (ae LO LP LQ LR LS LU LV (ae LW LX LY LZ L0 L1 ajn (ae ajo ajp aax aay aaz aaA aaB (ae aaC @pc @kj @lq @lp @sx0 @sx1 (ae @ov.eq_1 @ov.eq_2 @j6 @aV @aw @aD @aG (ae @cH @aL @bZ @Mi @RS @Ap @Ao (ae @gQ.eq_1 @ze @rF @pw @lu @aky @Gq (sn @vj @alZ @O8 @vD @aaU @opL)))))))))))))))))))))))))
theorem ML(a:Nat)(op:ByteArray)(ea eb:Value)(t u:Tm)(v v' : Value)(w:World)(S:Nat->Prop)(hea:ea.oneCell' = true)(heb:eb.oneCell' = true)(hv:eQ w S v t)(hs:Vg t)(hv' : eQ w S v' u)(hs' : Vg u) :
  Calls Tryz.prog 104 #[.agg #[.int .i64 (a:Nat),.string op,ea,eb],v,v'] w λe w' => kA w S e w' (Ko (WE a op t u)):=by
 have hD:qL w v=t:=cg hv;have hD' : qL w v' = u:=cg hv';have h0:eQ w (Out []) v t:=hv.mono λb _ _=>⟨rfl,by simp[Out]⟩
 have h0' : eQ w (Out []) v' u:=hv'.mono λb _ _=>⟨rfl,by simp[Out]⟩
 have hr:eQ w (bE (aE w S) []) v t:=hv.mono (aE.eO w S);have hr' : eQ w (bE (aE w S) []) v' u:=hv'.mono (aE.eO w S);refine eJ (nt:=142) S [.tmp 6] Tryz.func104 rfl rfl rfl ?_;refine vR Γ0 aJ ?_;refine wR (ql (aE w S)) (aa aJ hD) ?_ ?_
 ·exact⟨t,h0,hs⟩
 refine wR (ql (aE w S)) (aa aJ hD') ?_ ?_
 ·exact⟨u,h0',hs'⟩
 rw[WG];cases hj:fY op t u with
 | some r=>
  obtain⟨x,hn⟩:∃ x,w4 t=some x:=by
   cases h:w4 t with
   |some x=>exact⟨x,rfl⟩
   |none=>rw[fY,h]at hj;cases hj
  obtain⟨y,hn'⟩:∃ y,w4 u=some y:=by
   cases h:w4 u with
   |some x=>exact⟨x,rfl⟩
   |none=>rw[fY,hn,h]at hj;cases hj
  refine Wp.seq ?_;refine vR Γ0 (br aJ hn hn') ?_;refine wC aJ (λhc=>?_) (λhc=>?_)
  rotate_left
  ·cases hc
  refine vR Γ0 aJ ?_;refine Wp.block ?_;refine vR Γ0 (br aJ hn hn') ?_;refine wC aJ (λhc=>?_) (λhc=>?_)
  ·have ho:op=MJ:=qJ hc;obtain rfl:r=.alt x y:=by
    have:fY op t u=some (.alt x y):=by simp only[fY,hn,hn',US,if_pos ho]
    rw[this]at hj;exact (Option.some.inj hj).symm
   refine vR Γ0 (br aJ hn hn') ?_;refine wZ (br aJ hn hn') ?_;exact ep (λE=>rfl) rfl
  have ho0:¬ op=MJ:=qI hc;refine vR Γ0 (br aJ hn hn') ?_;refine wC aJ (λhc=>?_) (λhc=>?_)
  ·have ho:op=Nj:=qJ hc;obtain rfl:r=.cat x y:=by
    have:fY op t u=some (.cat x y):=by simp only[fY,hn,hn',US,if_neg ho0,if_pos ho]
    rw[this]at hj;exact (Option.some.inj hj).symm
   refine vR Γ0 (br aJ hn hn') ?_;refine wZ (br aJ hn hn') ?_;exact ep (λE=>rfl) rfl
  have ho1:¬ op=Nj:=qI hc;refine vR Γ0 (br aJ hn hn') ?_;refine wC aJ (λhc=>?_) (λhc=>?_)
  ·have ho:op=Wo:=qJ hc;obtain rfl:r=.and x y:=by
    have:fY op t u=some (.and x y):=by simp only[fY,hn,hn',US,if_neg ho0,if_neg ho1,if_pos ho]
    rw[this]at hj;exact (Option.some.inj hj).symm
   refine vR Γ0 (br aJ hn hn') ?_;refine wZ (br aJ hn hn') ?_;exact ep (λE=>rfl) rfl
  have ho2:¬ op=Wo:=qI hc;refine vR Γ0 (br aJ hn hn') ?_;refine wC aJ (λhc=>?_) (λhc=>?_)
  ·have ho:op=Yo:=qJ hc;obtain rfl:r=.minus x y:=by
    have:fY op t u=some (.minus x y):=by simp only[fY,hn,hn',US,if_neg ho0,if_neg ho1,if_neg ho2,if_pos ho]
    rw[this]at hj;exact (Option.some.inj hj).symm
   refine vR Γ0 (br aJ hn hn') ?_;refine wZ (br aJ hn hn') ?_;exact ep (λE=>rfl) rfl
  have ho3:¬ op=Yo:=qI hc;exfalso;have:fY op t u=none:=by simp only[fY,hn,hn',US,if_neg ho0,if_neg ho1,if_neg ho2,if_neg ho3]
  rw[this]at hj;cases hj
 | none=>
  simp only;refine gR ⟨20,dZ [(1,.is (.v v)),(2,.is (.v v')),(3,.is (.own 0 0))],dM [(0,.cells 215 [.v (.int .i64 (a:Nat)),.v (.string op),.v ea,.v eb])]⟩ ?_ ?_
  ·cases hn:w4 t with
   |none=>
    refine vR Γ0 (aa aJ hn) ?_;refine wC aJ (λhc=>?_) (λhc=>?_)
    ·cases hc
    refine wK ?_;exact wM (λk=>.key k) aJ
   | some x=>
    cases hn' : w4 u with
    |none=>
     refine vR Γ0 (br aJ hn hn') ?_;refine wC aJ (λhc=>?_) (λhc=>?_)
     ·cases hc
     refine wK ?_;exact wM (λk=>.key k) aJ
    | some y=>
     refine vR Γ0 (br aJ hn hn') ?_;refine wC aJ (λhc=>?_) (λhc=>?_)
     rotate_left
     ·cases hc
     refine vR Γ0 aJ ?_;refine Wp.block ?_;refine vR Γ0 (br aJ hn hn') ?_;refine wC aJ (λhc=>?_) (λhc=>?_)
     ·have ho:op=MJ:=qJ hc;exfalso;have:fY op t u=some (.alt x y):=by simp only[fY,hn,hn',US,if_pos ho]
      rw[this]at hj;cases hj
     have ho0:¬ op=MJ:=qI hc;refine vR Γ0 (br aJ hn hn') ?_;refine wC aJ (λhc=>?_) (λhc=>?_)
     ·have ho:op=Nj:=qJ hc;exfalso;have:fY op t u=some (.cat x y):=by simp only[fY,hn,hn',US,if_neg ho0,if_pos ho]
      rw[this]at hj;cases hj
     have ho1:¬ op=Nj:=qI hc;refine vR Γ0 (br aJ hn hn') ?_;refine wC aJ (λhc=>?_) (λhc=>?_)
     ·have ho:op=Wo:=qJ hc;exfalso;have:fY op t u=some (.and x y):=by simp only[fY,hn,hn',US,if_neg ho0,if_neg ho1,if_pos ho]
      rw[this]at hj;cases hj
     have ho2:¬ op=Wo:=qI hc;refine vR Γ0 (br aJ hn hn') ?_;refine wC aJ (λhc=>?_) (λhc=>?_)
     ·have ho:op=Yo:=qJ hc;exfalso;have:fY op t u=some (.minus x y):=by simp only[fY,hn,hn',US,if_neg ho0,if_neg ho1,if_neg ho2,if_pos ho]
      rw[this]at hj;cases hj
     have ho3:¬ op=Yo:=qI hc;refine wK ?_;exact wM (λk=>.key k) aJ
  clear hj hD hD' h0 h0';refine wR Γ0 aJ ?_ ?_
  ·refine⟨?_,?_,?_⟩<;>simp
  refine vR Γ0 aJ ?_;cases t with
  |text b s=>
   obtain rfl:v=_:=hr;have hE:qQ a op (.text b s) u=gM a:=by cases u<;>rfl
   rw[hE];refine Wp.seq ?_;refine vR Γ0 aJ ?_;refine vR Γ0 aJ ?_;refine wC aJ (λhc=>?_) (λhc=>?_)
   ·cases hc
   refine wK ?_;refine Wp.seq ?_;refine vR Γ0 aJ ?_;refine vR Γ0 aJ ?_;refine wC aJ (λhc=>?_) (λhc=>?_)
   ·cases hc
   refine wK ?_;refine Wp.bm (ql (aE w S)) aM (ev aJ) ?_ ?_
   ·exact oo
   refine qq ?_;exact⟨_,rfl⟩
  |rx b s=>
   obtain rfl:v=_:=hr;have hE:qQ a op (.rx b s) u=gM a:=by cases u<;>rfl
   rw[hE];refine Wp.seq ?_;refine vR Γ0 aJ ?_;refine vR Γ0 aJ ?_;refine wC aJ (λhc=>?_) (λhc=>?_)
   ·cases hc
   refine wK ?_;refine Wp.seq ?_;refine vR Γ0 aJ ?_;refine vR Γ0 aJ ?_;refine wC aJ (λhc=>?_) (λhc=>?_)
   ·cases hc
   refine wK ?_;refine Wp.bm (ql (aE w S)) aM (ev aJ) ?_ ?_
   ·exact oo
   refine qq ?_;exact⟨_,rfl⟩
  | lens l=>
   obtain⟨p,rfl,hc0⟩:=hr;refine Wp.seq ?_;refine vR Γ0 aJ ?_;refine vR Γ0 aJ ?_;refine wC aJ (λhc=>?_) (λhc=>?_)
   rotate_left
   ·cases hc
   cases u with
   |text b s=>
    obtain rfl:v' = _:=hr';have hE:qQ a op (.lens l) (.text b s)=gM a:=rfl;rw[hE];refine vR Γ0 aJ ?_;refine vR Γ0 aJ ?_;refine wC aJ (λhc=>?_) (λhc=>?_)
    ·cases hc
    refine wK ?_;refine Wp.seq ?_;refine vR Γ0 aJ ?_;refine vR Γ0 aJ ?_;refine wC aJ (λhc=>?_) (λhc=>?_)
    ·cases hc
    refine wK ?_;refine Wp.bm (ql (aE w S)) aM (ev aJ) ?_ ?_
    ·exact oo
    refine qq ?_;exact⟨_,rfl⟩
   |rx b s=>
    obtain rfl:v' = _:=hr';have hE:qQ a op (.lens l) (.rx b s)=gM a:=rfl;rw[hE];refine vR Γ0 aJ ?_;refine vR Γ0 aJ ?_;refine wC aJ (λhc=>?_) (λhc=>?_)
    ·cases hc
    refine wK ?_;refine Wp.seq ?_;refine vR Γ0 aJ ?_;refine vR Γ0 aJ ?_;refine wC aJ (λhc=>?_) (λhc=>?_)
    ·cases hc
    refine wK ?_;refine Wp.bm (ql (aE w S)) aM (ev aJ) ?_ ?_
    ·exact oo
    refine qq ?_;exact⟨_,rfl⟩
   |canon d=>
    obtain⟨p',rfl,hc0'⟩:=hr';have hE:qQ a op (.lens l) (.canon d)=gM a:=rfl;rw[hE];refine vR Γ0 aJ ?_;refine vR Γ0 aJ ?_;refine wC aJ (λhc=>?_) (λhc=>?_)
    ·cases hc
    refine wK ?_;refine Wp.seq ?_;refine vR Γ0 aJ ?_;refine vR Γ0 aJ ?_;refine wC aJ (λhc=>?_) (λhc=>?_)
    ·cases hc
    refine wK ?_;refine Wp.bm (ql (aE w S)) aM (ev aJ) ?_ ?_
    ·exact oo
    refine qq ?_;exact⟨_,rfl⟩
   | lens d=>
    obtain⟨p',rfl,hc0'⟩:=hr';refine vR Γ0 aJ ?_;rcases YQ op with ho|ho|ho|ho|ho
    ·have hE:qQ a op (.lens l) (.lens d)=gM a:=by simp only[qQ,ho];rfl
     rw[hE];refine vR Γ0 (aa aJ ho) ?_;refine wC aJ (λhc=>?_) (λhc=>?_)
     ·cases hc
     refine wK ?_;refine Wp.seq ?_;refine vR Γ0 aJ ?_;refine vR Γ0 aJ ?_;refine wC aJ (λhc=>?_) (λhc=>?_)
     ·cases hc
     refine wK ?_;refine Wp.bm (ql (aE w S)) aM (ev aJ) ?_ ?_
     ·exact oo
     refine qq ?_;exact⟨_,rfl⟩
    ·have hE:qQ a op (.lens l) (.lens d)=.ok (.lens (.mk a wV none ⟨#[]⟩ .nil l d)):=by simp only[qQ,ho];rfl
     rw[hE];refine vR Γ0 (aa aJ ho) ?_;refine wC aJ (λhc=>?_) (λhc=>?_)
     rotate_left
     ·cases hc
     refine yt Γ0 (fP aJ ho hc0.parts hc0'.parts) ?_;refine Wp.cR 488 (ev aJ) (λE=>by simp only[aj,den];exact rfl) λW1 bs1 b1 hx1 hb1 hn1 hc1=>?_
     refine wZ aJ ?_;have hb:bE (aE w S) bs1 b1:=⟨aE.up w S b1 hn1,hb1⟩;exact ep (λE=>rfl) ⟨_,rfl,rm (op:=wV) (n:=none) hb hc1 .nil (hc0.mono hx1.dN) (hc0'.mono hx1.dN)⟩
    ·have hE:qQ a op (.lens l) (.lens d)=.ok (.lens (.mk a w9 none ⟨#[]⟩ .nil l d)):=by simp only[qQ,ho];rfl
     rw[hE];refine vR Γ0 (aa aJ ho) ?_;refine wC aJ (λhc=>?_) (λhc=>?_)
     rotate_left
     ·cases hc
     refine yt Γ0 (fP aJ ho hc0.parts hc0'.parts) ?_;refine Wp.cR 488 (ev aJ) (λE=>by simp only[aj,den];exact rfl) λW1 bs1 b1 hx1 hb1 hn1 hc1=>?_
     refine wZ aJ ?_;have hb:bE (aE w S) bs1 b1:=⟨aE.up w S b1 hn1,hb1⟩;exact ep (λE=>rfl) ⟨_,rfl,rm (op:=w9) (n:=none) hb hc1 .nil (hc0.mono hx1.dN) (hc0'.mono hx1.dN)⟩
    ·have hE:qQ a op (.lens l) (.lens d)=.ok (.lens (.mk a Ll none ⟨#[]⟩ .nil l d)):=by simp only[qQ,ho];rfl
     rw[hE];refine vR Γ0 (aa aJ ho) ?_;refine wC aJ (λhc=>?_) (λhc=>?_)
     rotate_left
     ·cases hc
     refine yt Γ0 (fP aJ ho hc0.parts hc0'.parts) ?_;refine Wp.cR 488 (ev aJ) (λE=>by simp only[aj,den];exact rfl) λW1 bs1 b1 hx1 hb1 hn1 hc1=>?_
     refine wZ aJ ?_;have hb:bE (aE w S) bs1 b1:=⟨aE.up w S b1 hn1,hb1⟩;exact ep (λE=>rfl) ⟨_,rfl,rm (op:=Ll) (n:=none) hb hc1 .nil (hc0.mono hx1.dN) (hc0'.mono hx1.dN)⟩
    ·have hE:qQ a op (.lens l) (.lens d)=.ok (.lens (.mk a AA none ⟨#[]⟩ .nil l d)):=by simp only[qQ,ho];rfl
     rw[hE];refine vR Γ0 (aa aJ ho) ?_;refine wC aJ (λhc=>?_) (λhc=>?_)
     rotate_left
     ·cases hc
     refine yt Γ0 (fP aJ ho hc0.parts hc0'.parts) ?_;refine Wp.cR 488 (ev aJ) (λE=>by simp only[aj,den];exact rfl) λW1 bs1 b1 hx1 hb1 hn1 hc1=>?_
     refine wZ aJ ?_;have hb:bE (aE w S) bs1 b1:=⟨aE.up w S b1 hn1,hb1⟩;exact ep (λE=>rfl) ⟨_,rfl,rm (op:=AA) (n:=none) hb hc1 .nil (hc0.mono hx1.dN) (hc0'.mono hx1.dN)⟩
  | canon c=>
   obtain⟨p,rfl,hc0⟩:=hr;refine Wp.seq ?_;refine vR Γ0 aJ ?_;refine vR Γ0 aJ ?_;refine wC aJ (λhc=>?_) (λhc=>?_)
   ·cases hc
   refine wK ?_;refine Wp.seq ?_;refine vR Γ0 aJ ?_;refine vR Γ0 aJ ?_;refine wC aJ (λhc=>?_) (λhc=>?_)
   rotate_left
   ·cases hc
   cases u with
   |text b s=>
    obtain rfl:v' = _:=hr';have hE:qQ a op (.canon c) (.text b s)=gM a:=rfl;rw[hE];refine vR Γ0 aJ ?_;refine vR Γ0 aJ ?_;refine wC aJ (λhc=>?_) (λhc=>?_)
    ·cases hc
    refine wK ?_;refine Wp.bm (ql (aE w S)) aM (ev aJ) ?_ ?_
    ·exact oo
    refine qq ?_;exact⟨_,rfl⟩
   |rx b s=>
    obtain rfl:v' = _:=hr';have hE:qQ a op (.canon c) (.rx b s)=gM a:=rfl;rw[hE];refine vR Γ0 aJ ?_;refine vR Γ0 aJ ?_;refine wC aJ (λhc=>?_) (λhc=>?_)
    ·cases hc
    refine wK ?_;refine Wp.bm (ql (aE w S)) aM (ev aJ) ?_ ?_
    ·exact oo
    refine qq ?_;exact⟨_,rfl⟩
   |lens d=>
    obtain⟨p',rfl,hc0'⟩:=hr';have hE:qQ a op (.canon c) (.lens d)=gM a:=rfl;rw[hE];refine vR Γ0 aJ ?_;refine vR Γ0 aJ ?_;refine wC aJ (λhc=>?_) (λhc=>?_)
    ·cases hc
    refine wK ?_;refine Wp.bm (ql (aE w S)) aM (ev aJ) ?_ ?_
    ·exact oo
    refine qq ?_;exact⟨_,rfl⟩
   | canon d=>
    obtain⟨p',rfl,hc0'⟩:=hr';refine vR Γ0 aJ ?_;rcases YQ op with ho|ho|ho|ho|ho
    ·have hE:qQ a op (.canon c) (.canon d)=gM a:=by simp only[qQ,ho];rfl
     rw[hE];refine vR Γ0 (aa aJ ho) ?_;refine wC aJ (λhc=>?_) (λhc=>?_)
     ·cases hc
     refine wK ?_;refine Wp.bm (ql (aE w S)) aM (ev aJ) ?_ ?_
     ·exact oo
     refine qq ?_;exact⟨_,rfl⟩
    ·have hE:qQ a op (.canon c) (.canon d)=.ok (.canon (.mk a wV none ⟨#[]⟩ ⟨#[]⟩ c d)):=by simp only[qQ,ho];rfl
     rw[hE];refine vR Γ0 (aa aJ ho) ?_;refine wC aJ (λhc=>?_) (λhc=>?_)
     rotate_left
     ·cases hc
     refine yt Γ0 (fP aJ ho hc0.parts hc0'.parts) ?_;refine Wp.cR 584 (ev aJ) (λE=>by simp only[aj,den];exact rfl) λW1 bs1 b1 hx1 hb1 hn1 hc1=>?_
     refine wZ aJ ?_;have hb:bE (aE w S) bs1 b1:=⟨aE.up w S b1 hn1,hb1⟩;exact ep (λE=>rfl) ⟨_,rfl,T0 (op:=wV) (n:=none) hb hc1 (hc0.mono hx1.dN) (hc0'.mono hx1.dN)⟩
    ·have hE:qQ a op (.canon c) (.canon d)=.ok (.canon (.mk a w9 none ⟨#[]⟩ ⟨#[]⟩ c d)):=by simp only[qQ,ho];rfl
     rw[hE];refine vR Γ0 (aa aJ ho) ?_;refine wC aJ (λhc=>?_) (λhc=>?_)
     rotate_left
     ·cases hc
     refine yt Γ0 (fP aJ ho hc0.parts hc0'.parts) ?_;refine Wp.cR 584 (ev aJ) (λE=>by simp only[aj,den];exact rfl) λW1 bs1 b1 hx1 hb1 hn1 hc1=>?_
     refine wZ aJ ?_;have hb:bE (aE w S) bs1 b1:=⟨aE.up w S b1 hn1,hb1⟩;exact ep (λE=>rfl) ⟨_,rfl,T0 (op:=w9) (n:=none) hb hc1 (hc0.mono hx1.dN) (hc0'.mono hx1.dN)⟩
    ·have hE:qQ a op (.canon c) (.canon d)=gM a:=by simp only[qQ,ho];rfl
     rw[hE];refine vR Γ0 (aa aJ ho) ?_;refine wC aJ (λhc=>?_) (λhc=>?_)
     ·cases hc
     refine wK ?_;refine Wp.bm (ql (aE w S)) aM (ev aJ) ?_ ?_
     ·exact oo
     refine qq ?_;exact⟨_,rfl⟩
    ·have hE:qQ a op (.canon c) (.canon d)=gM a:=by simp only[qQ,ho];rfl
     rw[hE];refine vR Γ0 (aa aJ ho) ?_;refine wC aJ (λhc=>?_) (λhc=>?_)
     ·cases hc
     refine wK ?_;refine Wp.bm (ql (aE w S)) aM (ev aJ) ?_ ?_
     ·exact oo
     refine qq ?_;exact⟨_,rfl⟩
def np:=(ae @List.replicate_succ.{0} @List.replicate_zero.{0} @au @ab kH kI kK (ae c8 da db dc HW HX HY (ae HZ H0 H2 H3 H4 H5 H6 (ae H7 H8 H9 Ia Ib Ic Ie (ae Ig Ih Ii Ij Ik Il Im (ae Io Ip Iq Ir Is It Iu (ae Iv Iw Ix Iy Iz Ct Cu (ae Cv Cw Cx Cy Cz CA CB (ae CC CD CE CF CG CH CI (ae CJ CK CL CM CN yh yi (ae yj yk yl ym yn yo yp (qG yq @aV @aw @aD @aG))))))))))))
theorem Un(a:Nat)(x0:ByteArray)(w:World):Calls Tryz.prog 303 #[.agg #[.int .i64 (a:Nat),.string x0]] w λe w' => e=.returned (.int .i64 (a:Nat))/\an w [] w' := by
 refine ai (nt:=5) [.tmp 2] Tryz.func303 rfl rfl rfl ?_;refine vR Γ0 np ?_;refine vR Γ0 np ?_;refine wZ np ?_;exact λE=>rfl
def YZ:aY Tryz.prog 303 where
 pre:=λW bs as_=>∃ (a:Nat) (x0:ByteArray),as_=[.val (.agg #[.int .i64 (a:Nat),.string x0])]
 res:=λ_ as_=>match as_ with
  |[.val (.agg cs)]=>cs.getD 0 undef
  |_=>undef
 enters:=Tryz.call303
 ok:=by
  intro W w bs us as_ hk hu hp;obtain⟨a,x0,rfl⟩:=hp
  match us,hu with
  |[x],hu=>
   obtain⟨rfl,_⟩:=hu;exact Un a x0 w
def ahm:MethSpec Tryz.prog 205 "Place":=b6 303 false (by kernel_rfl) (by kernel_rfl)
theorem Uo(a:Nat)(x0:ByteArray)(w:World):Calls Tryz.prog 304 #[.agg #[.int .i64 (a:Nat),.string x0]] w λe w' => e=.returned (.int .i64 (a:Nat))/\an w [] w' := by
 refine ai (nt:=5) [.tmp 2] Tryz.func304 rfl rfl rfl ?_;refine vR Γ0 np ?_;refine vR Γ0 np ?_;refine wZ np ?_;exact λE=>rfl
def Y0:aY Tryz.prog 304 where
 pre:=λW bs as_=>∃ (a:Nat) (x0:ByteArray),as_=[.val (.agg #[.int .i64 (a:Nat),.string x0])]
 res:=λ_ as_=>match as_ with
  |[.val (.agg cs)]=>cs.getD 0 undef
  |_=>undef
 enters:=Tryz.call304
 ok:=by
  intro W w bs us as_ hk hu hp;obtain⟨a,x0,rfl⟩:=hp
  match us,hu with
  |[x],hu=>
   obtain⟨rfl,_⟩:=hu;exact Uo a x0 w
def ahn:MethSpec Tryz.prog 206 "Place":=b6 304 false (by kernel_rfl) (by kernel_rfl)
theorem Uq(a:Nat)(x0:ByteArray)(w:World):Calls Tryz.prog 305 #[.agg #[.int .i64 (a:Nat),.string x0]] w λe w' => e=.returned (.int .i64 (a:Nat))/\an w [] w' := by
 refine ai (nt:=5) [.tmp 2] Tryz.func305 rfl rfl rfl ?_;refine vR Γ0 np ?_;refine vR Γ0 np ?_;refine wZ np ?_;exact λE=>rfl
def Y1:aY Tryz.prog 305 where
 pre:=λW bs as_=>∃ (a:Nat) (x0:ByteArray),as_=[.val (.agg #[.int .i64 (a:Nat),.string x0])]
 res:=λ_ as_=>match as_ with
  |[.val (.agg cs)]=>cs.getD 0 undef
  |_=>undef
 enters:=Tryz.call305
 ok:=by
  intro W w bs us as_ hk hu hp;obtain⟨a,x0,rfl⟩:=hp
  match us,hu with
  |[x],hu=>
   obtain⟨rfl,_⟩:=hu;exact Uq a x0 w
def aho:MethSpec Tryz.prog 207 "Place":=b6 305 false (by kernel_rfl) (by kernel_rfl)
theorem Ur(a:Nat)(x0:Value)(w:World):Calls Tryz.prog 306 #[.agg #[.int .i64 (a:Nat),x0]] w λe w' => e=.returned (.int .i64 (a:Nat))/\an w [] w' := by
 refine ai (nt:=5) [.tmp 2] Tryz.func306 rfl rfl rfl ?_;refine vR Γ0 np ?_;refine vR Γ0 np ?_;refine wZ np ?_;exact λE=>rfl
def Y2:aY Tryz.prog 306 where
 pre:=λW bs as_=>∃ (a:Nat) (x0:Value),as_=[.val (.agg #[.int .i64 (a:Nat),x0])]
 res:=λ_ as_=>match as_ with
  |[.val (.agg cs)]=>cs.getD 0 undef
  |_=>undef
 enters:=Tryz.call306
 ok:=by
  intro W w bs us as_ hk hu hp;obtain⟨a,x0,rfl⟩:=hp
  match us,hu with
  |[x],hu=>
   obtain⟨rfl,_⟩:=hu;exact Ur a x0 w
def ahp:MethSpec Tryz.prog 209 "Place":=b6 306 false (by kernel_rfl) (by kernel_rfl)
theorem Us(a:Nat)(x0:ByteArray)(x1:Value)(w:World):Calls Tryz.prog 307 #[.agg #[.int .i64 (a:Nat),.string x0,x1]] w λe w' => e=.returned (.int .i64 (a:Nat))/\an w [] w' := by
 refine ai (nt:=5) [.tmp 2] Tryz.func307 rfl rfl rfl ?_;refine vR Γ0 np ?_;refine vR Γ0 np ?_;refine wZ np ?_;exact λE=>rfl
def Y3:aY Tryz.prog 307 where
 pre:=λW bs as_=>∃ (a:Nat) (x0:ByteArray) (x1:Value),as_=[.val (.agg #[.int .i64 (a:Nat),.string x0,x1])]
 res:=λ_ as_=>match as_ with
  |[.val (.agg cs)]=>cs.getD 0 undef
  |_=>undef
 enters:=Tryz.call307
 ok:=by
  intro W w bs us as_ hk hu hp;obtain⟨a,x0,x1,rfl⟩:=hp
  match us,hu with
  |[x],hu=>
   obtain⟨rfl,_⟩:=hu;exact Us a x0 x1 w
def ahq:MethSpec Tryz.prog 212 "Place":=b6 307 false (by kernel_rfl) (by kernel_rfl)
theorem Ut(a:Nat)(x0:ByteArray)(x1:Value)(x2:Value)(w:World):Calls Tryz.prog 308 #[.agg #[.int .i64 (a:Nat),.string x0,x1,x2]] w λe w' => e=.returned (.int .i64 (a:Nat))/\an w [] w' := by
 refine ai (nt:=5) [.tmp 2] Tryz.func308 rfl rfl rfl ?_;refine vR Γ0 np ?_;refine vR Γ0 np ?_;refine wZ np ?_;exact λE=>rfl
def Y4:aY Tryz.prog 308 where
 pre:=λW bs as_=>∃ (a:Nat) (x0:ByteArray) (x1:Value) (x2:Value),as_=[.val (.agg #[.int .i64 (a:Nat),.string x0,x1,x2])]
 res:=λ_ as_=>match as_ with
  |[.val (.agg cs)]=>cs.getD 0 undef
  |_=>undef
 enters:=Tryz.call308
 ok:=by
  intro W w bs us as_ hk hu hp;obtain⟨a,x0,x1,x2,rfl⟩:=hp
  match us,hu with
  |[x],hu=>
   obtain⟨rfl,_⟩:=hu;exact Ut a x0 x1 x2 w
def ahr:MethSpec Tryz.prog 215 "Place":=b6 308 false (by kernel_rfl) (by kernel_rfl)
theorem Uu(a:Nat)(x0:ByteArray)(x1:Value)(w:World):Calls Tryz.prog 309 #[.agg #[.int .i64 (a:Nat),.string x0,x1]] w λe w' => e=.returned (.int .i64 (a:Nat))/\an w [] w' := by
 refine ai (nt:=5) [.tmp 2] Tryz.func309 rfl rfl rfl ?_;refine vR Γ0 np ?_;refine vR Γ0 np ?_;refine wZ np ?_;exact λE=>rfl
def Y5:aY Tryz.prog 309 where
 pre:=λW bs as_=>∃ (a:Nat) (x0:ByteArray) (x1:Value),as_=[.val (.agg #[.int .i64 (a:Nat),.string x0,x1])]
 res:=λ_ as_=>match as_ with
  |[.val (.agg cs)]=>cs.getD 0 undef
  |_=>undef
 enters:=Tryz.call309
 ok:=by
  intro W w bs us as_ hk hu hp;obtain⟨a,x0,x1,rfl⟩:=hp
  match us,hu with
  |[x],hu=>
   obtain⟨rfl,_⟩:=hu;exact Uu a x0 x1 w
def ahs:MethSpec Tryz.prog 219 "Place":=b6 309 false (by kernel_rfl) (by kernel_rfl)
def spP:(f:FuncId)->Option (LE.Spec Tryz.prog f)
 |303=>some YZ.spec
 |304=>some Y0.spec
 |305=>some Y1.spec
 |306=>some Y2.spec
 |307=>some Y3.spec
 |308=>some Y4.spec
 |309=>some Y5.spec
 |_=>none
def YB:(t:TypeId)->(name:String)->Option (MethSpec Tryz.prog t name)
 |205, "Place"=>some ahm
 |206, "Place"=>some ahn
 |207, "Place"=>some aho
 |209, "Place"=>some ahp
 |212, "Place"=>some ahq
 |215, "Place"=>some ahr
 |219, "Place"=>some ahs
 |_,_=>none
theorem Tf{Γ:Env Tryz.prog}{W:World}{bs:List Nat}{κ:Nat}{hh:Hp}(hm:Γ.mt=YB)(hs:∀ f s,spP f=some s->Γ.sp f=some s){W0:World}{S0:Nat->Prop}{v:Value}{x:Ex}(h:Ac W0 S0 v x) :
  ∃ p:Prop,p/\aI Γ W bs κ hh "Place" [.v v]=⟨p,.v (.int .i64 (SW x:Nat)),[],none,[],[]⟩:=by
 cases h with
 |name a s=>
  refine⟨YZ.pre W bs [.val (.agg #[.int .i64 (a:Nat),.string s])],⟨a,s,rfl⟩,?_⟩;simp only[aI,hm,YB,ahm,b6,eY,hs 303 _ rfl];rfl
 |text a s=>
  refine⟨Y0.pre W bs [.val (.agg #[.int .i64 (a:Nat),.string s])],⟨a,s,rfl⟩,?_⟩;simp only[aI,hm,YB,ahn,b6,eY,hs 304 _ rfl];rfl
 |rx a s=>
  refine⟨Y1.pre W bs [.val (.agg #[.int .i64 (a:Nat),.string s])],⟨a,s,rfl⟩,?_⟩;simp only[aI,hm,YB,aho,b6,eY,hs 305 _ rfl];rfl
 |keyed a z x hx=>
  refine⟨Y2.pre W bs [.val (.agg #[.int .i64 (a:Nat),z])],⟨a,z,rfl⟩,?_⟩;simp only[aI,hm,YB,ahp,b6,eY,hs 306 _ rfl];rfl
 |unary a s z x hx=>
  refine⟨Y3.pre W bs [.val (.agg #[.int .i64 (a:Nat),.string s,z])],⟨a,s,z,rfl⟩,?_⟩;simp only[aI,hm,YB,ahq,b6,eY,hs 307 _ rfl];rfl
 |binary a s z u x y hx hy=>
  refine⟨Y4.pre W bs [.val (.agg #[.int .i64 (a:Nat),.string s,z,u])],⟨a,s,z,u,rfl⟩,?_⟩;simp only[aI,hm,YB,ahr,b6,eY,hs 308 _ rfl];rfl
 |call a s ao c vs l h1 h2 h3=>
  refine⟨Y5.pre W bs [.val (.agg #[.int .i64 (a:Nat),.string s,.slice ao vs.length c])],⟨a,s,.slice ao vs.length c,rfl⟩,?_⟩;simp only[aI,hm,YB,ahs,b6,eY,hs 309 _ rfl];rfl
end
section
open Go.RowKit Go.LE Go.Proofs.Tryz
theorem XQ{c:Prop}[Decidable c]{a b:Pc}{N:Nat}(ha:a.1.size<=N)(hb:b.1.size<=N):(if c then a else b).1.size<=N:=by
 by_cases h:c
 ·rw[if_pos h];exact ha
 ·rw[if_neg h];exact hb
theorem KE(s:ByteArray)(i:Nat):∀ n k o,(EW s i n k o).1.size<=o.size+n
 |0,k,o=>Nat.zero_le _
 | n+1,k,o=>by
  have h:=λk' c=>KE s i n k' (o++e7 [c])
  have e:∀ c,(o++e7 [c]).size=o.size+1:=λc=>by rw[ByteArray.size_append,dH];rfl
  rw[EW]
  repeat' apply XQ
  all_goals first
   |(refine Nat.le_trans (h _ _) ?_;rw[e];omega)
   |exact Nat.zero_le _
   |(show o.size<=_;omega)
theorem KR(s:ByteArray)(i:Nat):∀ n k,(Oy s i n k).1.size<=s.size
 |0,k=>Nat.zero_le _
 | n+1,k=>by
  have h:=λk' => KR s i n k'
  rw[Oy]
  repeat' apply XQ
  all_goals first
   |exact h _
   |exact Nat.zero_le _
   |(show (s.extract _ _).size<=_;rw[ByteArray.size_extract];omega)
abbrev ajh (t:Tk):Prop:=t.2.1<=4096/\t.2.2.size<=4096
abbrev jK (r:List Tk):Prop:=∀ t∈r,ajh t
theorem aji(s:ByteArray)(i:Nat)(hs:s.size<=4096)(hi:i<s.size):ajh (cJ s i).1:=by
 have h0:∀ a b,(s.extract a b).size<=4096:=λa b=>by
  rw[ByteArray.size_extract];omega
 have h1:(zA s i).1.size<=4096:=by
  have:(zA s i).1.size<=mX.size+(s.size-(i+1)):=KE s i _ _ _;have e:mX.size=0:=rfl;omega
 have h2:(zZ s i).1.size<=4096:=Nat.le_trans (KR s i _ _) hs;have hi' : i<=4096:=oM;unfold cJ
 repeat' split
 all_goals first
  |exact⟨Nat.zero_le _,Nat.zero_le _⟩
  |exact⟨hi',h0 _ _⟩
  |exact⟨hi',h1⟩
  |exact⟨hi',h2⟩
  |exact⟨hi',show 2<=4096 by omega⟩
theorem Zz(s:ByteArray)(hs:s.size<=4096):∀ n i l,jK l->jK (Mu s n i l).1
 | 0,i,l,hl=>λt ht=>by
  rcases List.mem_append.1 ht with ht|ht
  ·exact hl t ht
  ·rw[List.mem_singleton.1 ht];exact⟨hs,Nat.zero_le _⟩
 | n+1,i,l,hl=>by
  rw[Mu];split
  ·rename_i hi;split
   ·refine Zz s hs n _ _ λt ht=>?_
    rcases List.mem_append.1 ht with ht|ht
    ·exact hl t ht
    ·rw[List.mem_singleton.1 ht];exact aji s i hs hi
   ·intro t ht;cases ht
  ·intro t ht;rcases List.mem_append.1 ht with ht|ht
   ·exact hl t ht
   ·rw[List.mem_singleton.1 ht];exact⟨hs,Nat.zero_le _⟩
theorem aer(s:ByteArray):jK (cQ s).1:=by
 unfold cQ;split
 ·intro t ht;cases ht
 ·exact Zz s oM _ _ _ (λt ht=>by cases ht)
def mR:Ex->Nat
 |.cons _ l=>mR l+1
 |_=>0
def cr:Ex->Prop
 |.name a s=>a<=4096/\s.size<=4096
 |.text a s=>a<=4096/\s.size<=4096
 |.rx a s=>a<=4096/\s.size<=4096
 |.call a w l=>a<=4096/\w.size<=4096/\0<qH w/\mR l=(qH w).toNat/\cr l
 |.keyed a x=>a<=4096/\cr x
 |.unary a op x=>a<=4096/\op.size<=4096/\cr x
 |.binary a op x y=>a<=4096/\op.size<=4096/\cr x/\cr y
 |.nil=>True
 |.cons x l=>cr x/\cr l
def nT(sub:List Tk->PR):Prop:=∀ r,jK r->∀ a r',sub r=.ok (a,r')->cr a/\jK r'
theorem Q0{r:List Tk}(h:jK r):ajh (pk r):=by
 cases r with
 |nil=>exact⟨Nat.zero_le _,Nat.zero_le _⟩
 |cons t r=>exact h t sI
theorem kY{r:List Tk}(h:jK r):jK r.tail:=λt ht=>h t (List.mem_of_mem_tail ht)
theorem Bd{sub:List Tk->PR}(h:nT sub)(lev:Int):∀ n a r,jK r->cr a->∀ b r',qu sub lev n a r=.ok (b,r')->cr b/\jK r'
 |0,a,r,hr,ha,b,r',he=>by
  cases he;exact⟨ha,hr⟩
 | n+1,a,r,hr,ha,b,r',he=>by
  rw[qu]at he;split at he
  ·split at he
   ·cases he
   ·rename_i x r2 hs;obtain⟨h1,h2⟩:=h _ (kY hr) _ _ hs;have hp:=Q0 hr;exact Bd h lev n _ _ h2 (by simp only[cr];exact⟨hp.1,hp.2,ha,h1⟩) _ _ he
  ·cases he;exact⟨ha,hr⟩
theorem TJ{sub:List Tk->PR}(h:nT sub)(lev:Int):nT (zv sub lev):=λr hr a r' he=>by
 unfold zv at he;split at he
 ·cases he
 ·rename_i x r2 hs;obtain⟨h1,h2⟩:=h _ hr _ _ hs;exact Bd h lev _ _ _ h2 h1 _ _ he
theorem Y6:∀ n a r,jK r->cr a->cr (zz n a r).1/\jK (zz n a r).2
 |0,a,r,hr,ha=>⟨ha,hr⟩
 | n+1,a,r,hr,ha=>by
  rw[zz];split
  ·have hp:=Q0 hr;exact Y6 n _ _ (kY hr) (by simp only[cr];exact⟨hp.1,hp.2,ha⟩)
  ·exact⟨ha,hr⟩
theorem Uv{atom:List Tk->PR}(h:nT atom):nT (rz atom):=λr hr a r' he=>by
 unfold rz at he;split at he
 ·cases he
 ·rename_i x r2 hs;obtain⟨h1,h2⟩:=h _ hr _ _ hs;simp only[Except.ok.injEq]at he;have h3:=Y6 r2.length x r2 h2 h1;rw[he]at h3;exact h3
theorem xD{atom:List Tk->PR}(h:nT atom):∀ k,nT (Gt atom k)
 |0=>Uv h
 |k+1=>TJ (xD h k) _
theorem ai7(l y:Ex)(hl:cr l)(hy:cr y):cr (Lh l y)/\mR (Lh l y)=mR l+1:=by
 induction l with
 |cons x l _ ih=>
  simp only[cr]at hl;obtain⟨i1,i2⟩:=ih hl.2;simp only[Lh,cr,mR];exact⟨⟨hl.1,i1⟩,by rw[i2]⟩
 |_=>simp[Lh,cr,mR,hy]
theorem Am{ex:List Tk->PR}(h:nT ex):∀ n k l r,jK r->cr l->∀ a r',nW ex n k l r=.ok (a,r')->(cr a/\mR a=mR l+n)/\jK r'
 |0,k,l,r,hr,hl,a,r',he=>by
  cases he;exact⟨⟨hl,rfl⟩,hr⟩
 | n+1,k,l,r,hr,hl,a,r',he=>by
  rw[nW]at he;split at he
  ·cases he
  ·have h1:jK (if 0<k then r.tail else r):=by
    split
    ·exact kY hr
    ·exact hr
   split at he
   ·cases he
   ·rename_i x r2 hs;obtain⟨h2,h3⟩:=h _ h1 _ _ hs;obtain⟨s1,s2⟩:=ai7 l x hl h2;obtain⟨⟨g1,g2⟩,g3⟩:=Am h n _ _ _ h3 s1 _ _ he;exact⟨⟨g1,oM⟩,g3⟩
theorem tS{m:ByteArray}{f:Ex->Ex}{q:PR}(h:∀ a r',q=.ok (a,r')->cr (f a)/\jK r'){a:Ex}{r' : List Tk}(he:dG m f q=.ok (a,r')):cr a/\jK r' := by
 cases q with
 |error e=>cases he
 | ok p=>
  obtain⟨x,r2⟩:=p;have he' : (if jJ r2 m=true then (.ok (f x,r2.tail):PR) else .error (60,(pk r2).2.1))=.ok (a,r'):=he;by_cases hm:jJ r2 m=true
  ·rw[if_pos hm]at he';cases he';obtain⟨h1,h2⟩:=h _ _ rfl;exact⟨h1,kY h2⟩
  ·rw[if_neg hm]at he';cases he'
theorem yC{m:Option (List Tk->PR)}(hm:∀ ex,m=some ex->nT ex):nT (fT m):=λr hr a r' he=>by
 have hp:=Q0 hr;have key:∀ {r1:List Tk} {b:ByteArray} {go:(List Tk->PR)->List Tk->PR},gh m r1 b go=.ok (a,r')->∃ ex,nT ex/\go ex r1.tail=.ok (a,r'):=λ{r1 b go} h=>by
  unfold gh at h;split at h
  ·cases m with
   |none=>cases h
   |some ex=>exact⟨ex,hm ex rfl,h⟩
  ·cases h
 unfold fT at he;split at he
 ·cases he;exact⟨by simp only[cr];exact hp,kY hr⟩
 split at he
 ·cases he;exact⟨by simp only[cr];exact hp,kY hr⟩
 split at he
 ·rename_i hc;obtain⟨ex,h1,h3⟩:=key he;refine tS (λx r2 hs=>?_) h3;obtain⟨⟨g1,g2⟩,g3⟩:=Am h1 _ _ _ _ (kY (kY hr)) (by simp only[cr]) _ _ hs;refine⟨?_,g3⟩;simp only[cr];exact⟨hp.1,hp.2,hc.2,by rw[g2];simp[mR],g1⟩
 split at he
 ·cases he;exact⟨by simp only[cr];exact hp,kY hr⟩
 split at he
 ·obtain⟨ex,h1,h3⟩:=key he;refine tS (λx r2 hs=>?_) h3;obtain⟨g1,g3⟩:=h1 _ (kY hr) _ _ hs;exact⟨by simp only[cr];exact⟨hp.1,g1⟩,g3⟩
 split at he
 ·obtain⟨ex,h1,h3⟩:=key he;exact tS (λx r2 hs=>h1 _ (kY hr) _ _ hs) h3
 ·cases he
theorem yB:∀ m,nT (nX m)
 |0=>yC λex h=>by cases h
 |m+1=>yC λex h=>by
  cases h;exact xD (yB m) 5
def acW(d:Nat×ByteArray×Ex):Prop:=d.1<=4096/\d.2.1.size<=4096/\cr d.2.2
def Ob(p:Pm):Prop:=(∀ d∈p.1,acW d)/\cr p.2
theorem BJ{ex:List Tk->PR}(h:nT ex):∀ n ds r,jK r->(∀ d∈ds,acW d)->∀ p r',lR ex n ds r=.ok (p,r')->Ob p
 |0,ds,r,hr,hd,p,r',he=>by cases he
 | n+1,ds,r,hr,hd,p,r',he=>by
  rw[lR]at he;split at he
  ·split at he
   ·cases he
   split at he
   ·cases he
   split at he
   ·cases he
   rename_i x r2 hs;obtain⟨h1,h2⟩:=h _ (kY (kY (kY hr))) _ _ hs;split at he
   ·cases he
   have hp:=Q0 (kY hr);refine BJ h n _ _ (kY h2) (λd hd' => ?_) _ _ he;rcases List.mem_append.1 hd' with hd'|hd'
   ·exact hd d hd'
   ·rw[List.mem_singleton.1 hd'];exact⟨hp.1,hp.2,h1⟩
  ·split at he
   ·cases he
   rename_i x r2 hs;obtain⟨h1,h2⟩:=h _ hr _ _ hs;split at he
   ·cases he;exact⟨hd,h1⟩
   ·cases he
theorem HC{s:ByteArray}{p:Pm}(h:tU s=.ok p):Ob p:=by
 unfold tU at h;split at h
 ·split at h
  ·cases h
  ·rename_i q r hq;cases h;exact BJ (xD (yB 64) 5) _ _ _ (aer s) (λd hd=>by cases hd) _ _ hq
 ·cases h
def cnW(op:ByteArray)(n:Option Rx)(x y:Cn):Prop:=if (op=QA\/op=qs)\/op=jo then n≠none else if op=gn then x≠.nil else x≠.nil/\y≠.nil
def TL(op:ByteArray)(n:Option Rx)(q:Cn)(x y:Ln):Prop:=
 if (op=jh\/op=zu)\/op=F5 then n≠none
 else if op=lK then True
 else if (op=gn\/op=iD)\/op=uU then x≠.nil
 else if op=vf\/op=pq then x≠.nil/\q≠.nil
 else x≠.nil/\y≠.nil
def mB:Cn->Prop
 |.nil=>True
 |.mk a op n to bk x y=>a<=4096/\op.size<=4096/\to.size<=4096/\bk.size<=4096/\mB x/\mB y/\cnW op n x y
def nq:Ln->Prop
 |.nil=>True
 |.mk a op n tx q x y=>a<=4096/\op.size<=4096/\tx.size<=4096/\mB q/\nq x/\nq y/\TL op n q x y
theorem AD{op:ByteArray}{n:Option Rx}{x y:Cn}(h:(op=QA\/op=qs)\/op=jo):cnW op n x y=(n≠none):=by rw[cnW,if_pos h]
theorem Jm{n:Option Rx}{x y:Cn}:cnW gn n x y=(x≠.nil):=by rw[cnW,if_neg dE,if_pos rfl]
theorem acS{op:ByteArray}{n:Option Rx}{x y:Cn}(h:op=wV\/op=w9):cnW op n x y=(x≠.nil/\y≠.nil):=by
 rcases h with rfl|rfl<;>rw[cnW,if_neg dE,if_neg dE]
theorem xC{op:ByteArray}{n:Option Rx}{q:Cn}{x y:Ln}(h:(op=jh\/op=zu)\/op=F5):TL op n q x y=(n≠none):=by rw[TL,if_pos h]
theorem adD{n:Option Rx}{q:Cn}{x y:Ln}:TL lK n q x y=True:=by rw[TL,if_neg dE,if_pos rfl]
theorem sH{op:ByteArray}{n:Option Rx}{q:Cn}{x y:Ln}(h:(op=gn\/op=iD)\/op=uU):TL op n q x y=(x≠.nil):=by
 rcases h with (rfl|rfl)|rfl<;>rw[TL,if_neg dE,if_neg dE,if_pos dE]
theorem vl{op:ByteArray}{n:Option Rx}{q:Cn}{x y:Ln}(h:op=vf\/op=pq):TL op n q x y=(x≠.nil/\q≠.nil):=by
 rcases h with rfl|rfl<;>rw[TL,if_neg dE,if_neg dE,if_neg dE,if_pos dE]
theorem Gs{op:ByteArray}{n:Option Rx}{q:Cn}{x y:Ln}(h:((op=wV\/op=w9)\/op=Ll)\/op=AA):TL op n q x y=(x≠.nil/\y≠.nil):=by
 rcases h with ((rfl|rfl)|rfl)|rfl<;>rw[TL,if_neg dE,if_neg dE,if_neg dE,if_neg dE]
def fN:Tm->Prop
 |.text a s=>a<=4096/\s.size<=4096
 |.rx a r=>a<=4096
 |.canon c=>mB c/\c≠.nil
 |.lens l=>nq l/\l≠.nil
def Wd(t:Tm):Prop:=fN t/\cj t<=8192
theorem Of{s:ByteArray}{r:Rx}(h:rB s=.ok r):bP r<=2000:=by
 rw[xR]at h;cases hd:SI s with
 |error e=>
  obtain⟨c,p⟩:=e;rw[hd,EH (e:=.error (c,p)) rfl]at h;cases h
 |ok t=>
  rw[hd]at h;cases h;exact Ni hd
theorem cy{α:Type}{x:Except (Int×Int) α}{f:α->TE}{u:Tm}(h:b9 x f=.ok u):∃ a,x=.ok a/\f a=.ok u:=by
 cases x with
 |error e=>cases h
 |ok a=>exact⟨a,rfl,h⟩
theorem zJ{a:Nat}{t u:Tm}(h:lF a t=.ok u):u=t/\cj t<=2000:=by
 unfold lF at h;split at h
 ·cases h
 ·cases h;exact⟨rfl,oM⟩
theorem aiE{a:Nat}{t u:Tm}(ha:a<=4096)(ht:fN t)(h:Gm a t=.ok u):fN u:=by
 cases t with
 |lens l=>
  cases h;simp only[fN,nq];exact⟨⟨ha,dE,dE,by simp only[mB],ht.1,trivial,by rw[sH (.inl (.inr rfl))];exact ht.2⟩,sI⟩
 |_=>cases h
theorem akU{a:Nat}{op:ByteArray}{t u:Tm}(ha:a<=4096)(ht:fN t)(h:Fx a op t=.ok u):fN u:=by
 have hS:gn.size<=4096:=by decide
 have hC:w9.size<=4096:=by decide
 have hA:wV.size<=4096:=by decide
 have hP:jh.size<=4096:=by decide
 have hN:(⟨#[]⟩:ByteArray).size<=4096:=by decide
 unfold Fx at h;split at h
 ·cases h;exact ha
 split at h
 ·split at h
  ·cases h;simp only[fN,mB];exact⟨⟨ha,hS,hN,hN,ht.1,trivial,by rw[Jm];exact ht.2⟩,sI⟩
  ·cases h
 ·rename_i l _;have hl:nq l:=ht.1;have hln:l≠.nil:=ht.2;have hst:TL gn none .nil l .nil:=by rw[sH (.inl (.inl rfl))];exact hln
  cases h;split
  ·simp only[fN,nq,mB];exact⟨⟨ha,hS,hN,trivial,hl,trivial,hst⟩,sI⟩
  split
  ·simp only[fN,nq,mB];exact⟨⟨ha,hC,hN,trivial,hl,⟨ha,hS,hN,trivial,hl,trivial,hst⟩,by rw[Gs (.inl (.inl (.inr rfl)))];exact⟨hln,sI⟩⟩,sI⟩
  ·simp only[fN,nq,mB];exact⟨⟨ha,hA,hN,trivial,hl,⟨ha,hP,hN,trivial,trivial,trivial,by rw[xC (.inl (.inl rfl))];simp⟩,by rw[Gs (.inl (.inl (.inl rfl)))];exact⟨hln,sI⟩⟩,sI⟩
 ·cases h
theorem YS(n:Nat):(Uf n).size<=4096:=by
 unfold Uf;split<;>decide
theorem YR{n:Nat}(h:0<n)(h4:n<=4):((Uf n=wV\/Uf n=w9)\/Uf n=Ll)\/Uf n=AA:=by
 match n,h,h4 with
 |1,_,_=>exact .inl (.inl (.inl rfl))
 |2,_,_=>exact .inl (.inl (.inr rfl))
 |3,_,_=>exact .inl (.inr rfl)
 |4,_,_=>exact .inr rfl
theorem aiW(op:ByteArray):GF op<=4:=by
 unfold GF
 repeat' split
 all_goals omega
theorem WH{a:Nat}{op:ByteArray}{t u r:Tm}(ha:a<=4096)(ht:fN t)(hu:fN u)(h:qQ a op t u=.ok r):fN r:=by
 have hN:(⟨#[]⟩:ByteArray).size<=4096:=by decide
 have hO:=YS (GF op);unfold qQ at h;split at h
 ·split at h
  ·rename_i h0;cases h;simp only[fN,nq,mB];exact⟨⟨ha,hO,hN,trivial,ht.1,hu.1,by rw[Gs (YR h0 (aiW op))];exact⟨ht.2,hu.2⟩⟩,sI⟩
  ·cases h
 ·split at h
  ·rename_i h0;cases h;simp only[fN,nq,mB];have h1:Uf (GF op)=wV\/Uf (GF op)=w9:=by
    rcases h0 with h0|h0<;>rw[h0]
    ·exact .inl rfl
    ·exact .inr rfl
   exact⟨⟨ha,hO,hN,hN,ht.1,hu.1,by rw[acS h1];exact⟨ht.2,hu.2⟩⟩,sI⟩
  ·cases h
 ·cases h
theorem aj7{a:Nat}{op:ByteArray}{t u r:Tm}(ha:a<=4096)(ht:fN t)(hu:fN u)(h:WE a op t u=.ok r):fN r:=by
 unfold WE at h;split at h
 ·split at h
  ·cases h;exact ha
  ·exact WH ha ht hu h
 ·exact WH ha ht hu h
theorem Qk{w:ByteArray}(h:0<qH w):(((w=jh\/w=zu)\/w=lK)\/w=QA\/w=qs)\/((w=F5\/w=vf)\/w=pq\/w=uU)\/w=jo:=by
 unfold qH at h;split at h
 ·rename_i h';rcases h' with h'|h'|h'|h'|h'
  ·exact .inl (.inl (.inl (.inl h')))
  ·exact .inl (.inl (.inl (.inr h')))
  ·exact .inl (.inl (.inr h'))
  ·exact .inl (.inr (.inl h'))
  ·exact .inl (.inr (.inr h'))
 split at h
 ·rename_i h';rcases h' with h'|h'|h'|h'
  ·exact .inr (.inl (.inl (.inl h')))
  ·exact .inr (.inl (.inl (.inr h')))
  ·exact .inr (.inl (.inr (.inl h')))
  ·exact .inr (.inl (.inr (.inr h')))
 split at h
 ·rename_i h';exact .inr (.inr h')
 split at h
 ·omega
 ·omega
theorem acO{a:Nat}{w:ByteArray}{ts:List Tm}{ps:List Nat}{u:Tm}(ha:a<=4096)(hw:w.size<=4096)(hr:0<qH w)(hts:∀ t∈ts,fN t)(h:bp a w ts ps=.ok u):fN u:=by
 have hN:(⟨#[]⟩:ByteArray).size<=4096:=by decide
 have tx:∀ {i s},D5 ts ps i=.ok s->s.size<=4096:=λ{i s} h=>by
  unfold D5 at h;split at h
  ·rename_i hi;cases h;exact (hts _ (List.mem_of_getElem? hi)).2
  ·cases h
 have cn:∀ {i c},Mr ts ps i=.ok c->mB c/\c≠.nil:=λ{i c} h=>by
  unfold Mr at h;split at h
  ·rename_i hi;cases h;exact hts _ (List.mem_of_getElem? hi)
  ·cases h
 have ln:∀ {i l},IM ts ps i=.ok l->nq l/\l≠.nil:=λ{i l} h=>by
  unfold IM at h;split at h
  ·rename_i hi;cases h;exact hts _ (List.mem_of_getElem? hi)
  ·cases h
 unfold bp at h;split at h
 ·rename_i hc;obtain⟨n,_,h⟩:=cy h;cases h;simp only[fN,mB];exact⟨⟨ha,hw,hN,hN,trivial,trivial,by rw[AD (.inl hc)];simp⟩,sI⟩
 split at h
 ·rename_i hc;obtain⟨n,_,h⟩:=cy h;obtain⟨s,h1,h⟩:=cy h;obtain⟨t,h2,h⟩:=cy h;cases h;simp only[fN,mB];exact⟨⟨ha,hw,tx h1,tx h2,trivial,trivial,by rw[AD (.inr hc)];simp⟩,sI⟩
 split at h
 ·rename_i hc;obtain⟨n,_,h⟩:=cy h;obtain⟨s,h1,h⟩:=cy h;cases h;simp only[fN,nq,mB];exact⟨⟨ha,hw,tx h1,trivial,trivial,trivial,by rw[xC (.inr hc)];simp⟩,sI⟩
 split at h
 ·rename_i hc;obtain⟨s,h1,h⟩:=cy h;cases h;subst hc;simp only[fN,nq,mB];exact⟨⟨ha,hw,tx h1,trivial,trivial,trivial,by rw[adD];trivial⟩,sI⟩
 split at h
 ·rename_i hc;obtain⟨s,h1,h⟩:=cy h;cases h;simp only[fN,nq,mB];exact⟨⟨ha,hw,hN,trivial,trivial,trivial,by rw[xC (.inl hc)];simp⟩,sI⟩
 split at h
 ·rename_i hc;obtain⟨c,h1,h⟩:=cy h;obtain⟨l,h2,h⟩:=cy h;cases h;simp only[fN,nq];exact⟨⟨ha,hw,hN,(cn h1).1,(ln h2).1,trivial,by rw[vl (.inl hc)];exact⟨(ln h2).2,(cn h1).2⟩⟩,sI⟩
 split at h
 ·rename_i hc;obtain⟨l,h2,h⟩:=cy h;obtain⟨c,h1,h⟩:=cy h;cases h;simp only[fN,nq];exact⟨⟨ha,hw,hN,(cn h1).1,(ln h2).1,trivial,by rw[vl (.inr hc)];exact⟨(ln h2).2,(cn h1).2⟩⟩,sI⟩
 split at h
 ·rename_i hc;obtain⟨l,h2,h⟩:=cy h;obtain⟨s,h1,h⟩:=cy h;cases h;simp only[fN,nq,mB];exact⟨⟨ha,hw,tx h1,trivial,(ln h2).1,trivial,by rw[sH (.inr hc)];exact (ln h2).2⟩,sI⟩
 ·rename_i g1 g2 g3 g4 g5 g6 g7 g8;exfalso;rcases Qk hr with (((h|h)|h)|h|h)|((h|h)|h|h)|h
  ·exact g5 (.inl h)
  ·exact g5 (.inr h)
  ·exact g4 h
  ·exact g1 (.inl h)
  ·exact g1 (.inr h)
  ·exact g3 h
  ·exact g6 h
  ·exact g7 h
  ·exact g8 h
  ·exact g2 h
def uV(v:En):Prop:=∀ e∈v,Wd e.2
theorem akp{v:En}{s:ByteArray}{t:Tm}(hv:uV v)(h:Mt v s=some t):Wd t:=by
 induction v with
 |nil=>cases h
 | cons e r ih=>
  obtain⟨k,u⟩:=e;rw[Mt]at h;split at h
  ·cases h;exact hv (k,t) sI
  ·exact ih (λe he=>hv e (List.mem_cons_of_mem _ he)) h
theorem EG(v:En)(hv:uV v)(x:Ex):cr x->(∀ t,aQ v x=.ok t->Wd t)/\(∀ ts,gX v x=.ok ts->(∀ t∈ts,Wd t)/\ts.length=mR x):=by
 have triv:∀ ts:List Tm,(.ok []:Except (Int×Int) (List Tm))=.ok ts->(∀ t∈ts,Wd t)/\ts.length=0:=λts h=>by
  cases h;exact⟨λt ht=>(by cases ht),rfl⟩
 induction x with
 | name a s=>
  refine λhx=>⟨λt h=>?_,λts h=>triv ts (by simpa only[gX] using h)⟩
  simp only[aQ]at h;split at h
  ·rename_i hl;cases h;exact akp hv hl
  ·cases h
 |text a s=>
  refine λhx=>⟨λt h=>?_,λts h=>triv ts (by simpa only[gX] using h)⟩
  simp only[aQ]at h;cases h;simp only[cr]at hx;refine⟨hx,?_⟩;simp only[cj,mF];omega
 | rx a s=>
  refine λhx=>⟨λt h=>?_,λts h=>triv ts (by simpa only[gX] using h)⟩
  simp only[aQ]at h;split at h
  ·rename_i r hr;cases h;simp only[cr]at hx;have:=Of hr;exact⟨hx.1,by simp only[cj];omega⟩
  ·cases h
 |keyed a x ih=>
  refine λhx=>⟨λt h=>?_,λts h=>triv ts (by simpa only[gX] using h)⟩
  simp only[aQ]at h;simp only[cr]at hx;obtain⟨t1,h1,h⟩:=cy h;obtain⟨t2,h2,h⟩:=cy h;obtain⟨rfl,h3⟩:=zJ h;exact⟨aiE hx.1 ((ih hx.2).1 _ h1).1 h2,oM⟩
 |unary a op x ih=>
  refine λhx=>⟨λt h=>?_,λts h=>triv ts (by simpa only[gX] using h)⟩
  simp only[aQ]at h;simp only[cr]at hx;obtain⟨t1,h1,h⟩:=cy h;obtain⟨t2,h2,h⟩:=cy h;obtain⟨rfl,h3⟩:=zJ h;exact⟨akU hx.1 ((ih hx.2.2).1 _ h1).1 h2,oM⟩
 |binary a op x y ix iy=>
  refine λhx=>⟨λt h=>?_,λts h=>triv ts (by simpa only[gX] using h)⟩
  simp only[aQ]at h;simp only[cr]at hx;obtain⟨t1,h1,h⟩:=cy h;obtain⟨t0,h0,h⟩:=cy h;obtain⟨t2,h2,h⟩:=cy h;obtain⟨rfl,h3⟩:=zJ h;exact⟨aj7 hx.1 ((ix hx.2.2.1).1 _ h1).1 ((iy hx.2.2.2).1 _ h0).1 h2,oM⟩
 | call a w l ih=>
  refine λhx=>⟨λt h=>?_,λts h=>triv ts (by simpa only[gX] using h)⟩
  simp only[aQ]at h;simp only[cr]at hx;split at h
  ·cases h
  ·rename_i ts hl;obtain⟨t2,h2,h⟩:=cy h;obtain⟨rfl,h3⟩:=zJ h;exact⟨acO hx.1 hx.2.1 hx.2.2.1 (λt ht=>(((ih hx.2.2.2.2).2 _ hl).1 t ht).1) h2,oM⟩
 |nil=>
  refine λhx=>⟨λt h=>?_,λts h=>triv ts (by simpa only[gX] using h)⟩
  simp only[aQ]at h;cases h
 | cons x l ix il=>
  refine λhx=>⟨λt h=>?_,λts h=>?_⟩
  ·simp only[aQ]at h;cases h
  ·simp only[gX]at h;simp only[cr]at hx;split at h
   ·cases h
   ·rename_i t ht;split at h
    ·cases h
    ·rename_i us hu;cases h;obtain⟨g1,g2⟩:=(il hx.2).2 _ hu;refine⟨λt' ht' => ?_,by simp only[List.length_cons,mR,g2]⟩;rcases List.mem_cons.1 ht' with rfl|ht'
     ·exact (ix hx.1).1 _ ht
     ·exact g1 t' ht'
theorem pn{v:En}{x:Ex}{t:Tm}(hv:uV v)(hx:cr x)(h:aQ v x=.ok t):Wd t:=(EG v hv x hx).1 t h
theorem JZ{v:En}{x:Ex}{ts:List Tm}(hv:uV v)(hx:cr x)(h:gX v x=.ok ts):(∀ t∈ts,Wd t)/\ts.length=mR x:=(EG v hv x hx).2 ts h
theorem Qq:∀ (v:En) (l:List (Nat×ByteArray×Ex)) (u:En),uV v->(∀ d∈l,acW d)->yR v l=.ok u->uV u
 |v,[],u,hv,hl,h=>by
  cases h;exact hv
 | v,(a,s,x)::r,u,hv,hl,h=>by
  rw[yR]at h;split at h
  ·cases h
  split at h
  ·cases h
  rename_i t ht;refine Qq _ r u (λe he=>?_) (λd hd=>hl d (List.mem_cons_of_mem _ hd)) h;rcases List.mem_append.1 he with he|he
  ·exact hv e he
  ·rw[List.mem_singleton.1 he];exact pn hv (hl (a,s,x) sI).2.2 ht
theorem acX{p:Pm}{t:Tm}(hp:Ob p)(h:qW p=.ok t):Wd t:=by
 unfold qW at h;split at h
 ·cases h
 ·rename_i v hv;exact pn (Qq [] p.1 v (λe he=>by cases he) hp.1 hv) hp.2 h
theorem akn(x:ByteArray):cY [x]=x:=by
 unfold cY;rw[List.map_cons,List.map_nil,Lib.join_one]
theorem bC:∀ l:List ByteArray,(cY l).size<=(l.map λx=>x.size+1).sum
 |[]=>Nat.zero_le _
 |[x]=>by
  rw[akn];simp
 | x::y::r=>by
  have ih:=bC (y::r);have e:cY (x::y::r)=x++Jp++cY (y::r):=by
   unfold cY Lib.join;apply ByteArray.ext;simp[List.intercalate,List.intersperse]
  rw[e,ByteArray.size_append,ByteArray.size_append];have:Jp.size=1:=rfl;simp only[List.map_cons,List.sum_cons]at ih ⊢;omega
theorem AT(a:Nat)(w:ByteArray)(l:List ByteArray)(ha:a<=4096):(cP a w l).size<=w.size+22+(l.map λx=>x.size+1).sum:=by
 have h1:=EL (n:=(a:Nat)) oM oM;have h2:=bC l;have e1:atB.size=1:=rfl;have e2:aiY.size=1:=rfl;have e3:aib.size=1:=rfl;unfold cP;simp only[ByteArray.size_append];omega
theorem gH(n:Option Rx):(dR n).size<=2400*dX n+4:=by
 have e1:ZL.size=1:=rfl;cases n with
 |none=>
  have e2:(⟨#[91,93]⟩:ByteArray).size=2:=rfl;simp only[dR,ByteArray.size_append];omega
 |some r=>
  have:=cK r;simp only[dR,ByteArray.size_append,dX];omega
theorem vG(c:Cn)(h:mB c):(mz c).size<=40000*dY c:=by
 induction c with
 |nil=>exact Nat.zero_le _
 | mk a op n to bk x y ix iy=>
  simp only[mB]at h;obtain⟨h1,h2,h3,h4,h5,h6,_⟩:=h;have ix:=ix h5;have iy:=iy h6;have hn:=gH n;have ht:=jV to;have hb:=jV bk;have hh:=λl=>AT a op l h1
  simp only[mz,dY]
  repeat' split
  all_goals
   refine Nat.le_trans (hh _) ?_;simp only[List.map_cons,List.map_nil,List.sum_cons,List.sum_nil];omega
theorem Lb(l:Ln)(h:nq l):(gT l).size<=40000*ia l:=by
 induction l with
 |nil=>exact Nat.zero_le _
 | mk a op n tx q x y ix iy=>
  simp only[nq]at h;obtain⟨h1,h2,h3,h4,h5,h6,_⟩:=h;have ix:=ix h5;have iy:=iy h6;have iq:=vG q h4;have hn:=gH n;have ht:=jV tx;have hh:=λl=>AT a op l h1
  simp only[gT,ia]
  repeat' split
  all_goals
   refine Nat.le_trans (hh _) ?_;simp only[List.map_cons,List.map_nil,List.sum_cons,List.sum_nil];omega
end
section
open Go Go.RowKit Go.LE
set_option maxRecDepth 10000
def eR(W:World)(S:Nat->Prop):List Value->List Tm->Prop
 |[],[]=>True
 |v::vs,t::ts=>eQ W S v t/\eR W S vs ts
 |_,_=>False
theorem eR.mono{W W' : World}{S S' : Nat->Prop}(hs:aX W S W' S'):∀ {vs:List Value} {ts:List Tm},eR W S vs ts->eR W' S' vs ts
 |[],[],_=>trivial
 |[],_::_,h=>h
 |_::_,[],h=>h
 |v::vs,t::ts,⟨h1,h2⟩=>⟨h1.mono hs,eR.mono hs h2⟩
theorem eR.len{W:World}{S:Nat->Prop}:∀ {vs:List Value} {ts:List Tm},eR W S vs ts->vs.length=ts.length
 |[],[],_=>rfl
 |[],_::_,h=>h.elim
 |_::_,[],h=>h.elim
 |v::vs,t::ts,⟨h1,h2⟩=>by rw[List.length_cons,List.length_cons,eR.len h2]
theorem eR.get{W:World}{S:Nat->Prop}:∀ {vs:List Value} {ts:List Tm} {i:Nat},eR W S vs ts->i<vs.length->∃ v t,vs[i]?=some v/\ts[i]?=some t/\eQ W S v t
 |[],[],i,_,h=>absurd h (Nat.not_lt_zero i)
 |[],_::_,i,h,_=>h.elim
 |_::_,[],i,h,_=>h.elim
 |v::vs,t::ts,0,⟨h1,h2⟩,_=>⟨v,t,rfl,rfl,h1⟩
 |v::vs,t::ts,i+1,⟨h1,h2⟩,h=>by
  obtain⟨v',t',g1,g2,g3⟩:=eR.get h2 (Nat.lt_of_succ_lt_succ h);exact⟨v',t',by simpa using g1,by simpa using g2,g3⟩
theorem eR.snoc{W:World}{S:Nat->Prop}{v:Value}{t:Tm}(hv:eQ W S v t):∀ {vs:List Value} {ts:List Tm},eR W S vs ts->eR W S (vs++[v]) (ts++[t])
 |[],[],_=>⟨hv,trivial⟩
 |[],_::_,h=>h.elim
 |_::_,[],h=>h.elim
 |v::vs,t::ts,⟨h1,h2⟩=>⟨h1,eR.snoc hv h2⟩
theorem nQ.at{W:World}{S:Nat->Prop}:∀ {vs:List Value} {l:Ex} {i:Nat},nQ W S false vs l->i<vs.length->∃ v x,vs[i]?=some v/\Ac W S v x/\SW x=(cx l).getD i 0
 |[],l,i,_,h=>absurd h (Nat.not_lt_zero i)
 |v::vs,l,0,h,_=>by
  cases h with
  |cons _ _ x l h1 h2=>exact⟨v,x,rfl,h1,rfl⟩
 | v::vs,l,i+1,h,hi=>by
  cases h with
  |cons _ _ x l h1 h2=>
   obtain⟨v',x',g1,g2,g3⟩:=nQ.at h2 (Nat.lt_of_succ_lt_succ hi);exact⟨v',x',by simpa using g1,g2,g3⟩
theorem jC.cell{W:World}{S:Nat->Prop}{ao:Option Addr}{vs:List Value}{i:Nat}{v:Value}(h:jC W S ao vs)(hv:vs[i]?=some v):∃ b o,ao=some ⟨b,o,none⟩/\S b/\W.cell? ⟨b,o+i,none⟩=some v:=by
 rcases h with h|⟨b,o,rfl,hc⟩
 ·rw[h]at hv;cases hv
 ·obtain⟨hi,rfl⟩:=List.getElem?_eq_some_iff.1 hv;exact⟨b,o,rfl,(hc i hi).1,(hc i hi).2⟩
structure Ag where
 a:Nat
 wd:ByteArray
 ea:Option Addr
 ec:Nat
 vs:List Value
 l:Ex
 ta:Option Addr
 tc:Nat
 us:List Value
 ts:List Tm
def zn(q:Ag)(i:Nat):List AV:=[.val (.int .i64 (q.a:Nat)),.val (.string q.wd),.val (.slice q.ea q.vs.length q.ec),.val (.slice q.ta q.us.length q.tc),.val (.int .i64 (i:Nat))]
def Ag.ok(q:Ag)(W:World)(S:Nat->Prop):Prop:=(jC W S q.ea q.vs/\nQ W S false q.vs q.l)/\(jC W S q.ta q.us/\eR W S q.us q.ts)/\(q.vs.length=q.us.length/\q.us.length<=3/\q.us.length<=q.tc/\q.vs.length<=q.ec)/\∀ t∈q.ts,Wd t
theorem Ag.ok.mono{q:Ag}{W W' : World}{S S' : Nat->Prop}(h:q.ok W S)(hs:aX W S W' S'):q.ok W' S' := ⟨⟨h.1.1.mono hs,h.1.2.mono hs⟩,⟨h.2.1.1.mono hs,h.2.1.2.mono hs⟩,h.2.2⟩
theorem Ag.ok.fK{q:Ag}{W w:World}{bs fp:List Nat}(h:q.ok W (Out bs))(hk:LE.an W bs w)(hm:∀ b∈fp,W.heap.size<=b\/b∈bs):q.ok w (Out fp):=
 h.mono λb hb hs=>⟨hk.block b hb hs,λhb' => (hm b hb').elim (λg=>absurd g (Nat.not_le.2 hb)) hs⟩
theorem AZ{Γ:Env Tryz.prog}{W:World}{bs:List Nat}{κ:Nat}{hh:Hp}(hm:Γ.mt=YB)(hs:∀ f s,spP f=some s->Γ.sp f=some s){W0:World}{S0:Nat->Prop}{v:Value}{x:Ex}(h:Ac W0 S0 v x) :
  aI Γ W bs κ hh "Place" [.v v]=⟨True,.v (.int .i64 (SW x:Nat)),[],none,[],[]⟩:=by
 obtain⟨p,hp,e⟩:=Tf (Γ:=Γ) (W:=W) (bs:=bs) (κ:=κ) (hh:=hh) hm hs h;rw[e,eq_true hp]
def R6(q:Ag)(i:Nat):List PanicEntry:=bb 72 (((cx q.l).getD i 0:Nat))
theorem rJ{t:Tm}(h:Wd t):Vg t:=by
 cases t with
 |text a s=>
  have:s.size<=4096:=h.1.2;show s.size<=_;omega
 |_=>trivial
noncomputable def eZ:Env Tryz.prog:=⟨λ| 64=>some (gQ.spec (λ_=>False))|f=>spP f,λ_=>none,YB⟩
theorem afw:eZ.sp 64=some (gQ.spec (λ_=>False)):=rfl
theorem abV{W:World}{bs:List Nat}{κ:Nat}{hh:Hp}{W0:World}{S0:Nat->Prop}{v:Value}{x:Ex}(h:Ac W0 S0 v x):aI eZ W bs κ hh "Place" [.v v]=⟨True,.v (.int .i64 (SW x:Nat)),[],none,[],[]⟩:=
 AZ rfl (λf s hf=>by
  unfold spP at hf
  split at hf<;>cases hf<;>rfl) h
def aj4:=(ae @List.replicate_succ.{0} @List.replicate_zero.{0} @au @ab kH kI kK (ae c8 da db dc dn dr dt (ae du ew ez eA eB eC eD (ae oL oN oO oP jw jx jy (ae jz jA ny nz nA nB nC (ae ib ic ie ig pD pE pF (ae pG pH pI pJ pK pL pM (ae pN pO pP pQ pR pS pT (ae pU pV pW pX pY pZ p4 (ae p5 p6 p7 p8 lX lY lZ (ae l6 l7 l8 l9 ma mb mc (ae me mf mg mh mi mj ml (ae mm mn IA IB PW PX PY (ae PZ yh yi yj yk yl ym (ae yn yo yp yq P0 P1 aaB (ae aaC aaD aaE aaF aaG aaH aaI (ae aaJ aaK aaL aaM aaN aaO aaP (ae aaQ aaR aaS ajq ajr @aV @aw (IL @aD @aG @cH @afw @gQ.eq_1 @zn.eq_1 @fm)))))))))))))))))))
theorem Oi(q:Ag)(i:Nat)(u:Value)(fp:List Nat)(w:World)(hq:q.ok w (Out fp))(hi:i<q.us.length)(ho:aW w u fp 293 (zn q i))(hlt:∀ b∈fp,b<w.heap.size) :
  Calls Tryz.prog 209 (#[u]++#[]) w λx w' => dA w u fp 293 x w' (.pan (R6 q i) (.tuple #[])):=by
 have hi2:i<q.vs.length:=by have:=hq.2.2.1.1;omega
 obtain⟨v,x,hv,hx,hat⟩:=nQ.at hq.1.2 hi2;obtain⟨b,o,hea,hb,hc⟩:=jC.cell hq.1.1 hv;have hpl:=λW bs κ hh=>abV (W:=W) (bs:=bs) (κ:=κ) (hh:=hh) hx
 have hb' : b∉fp:=hb;refine aN (nt:=15) #[] [] (by show 5<=7;omega) ho hlt Tryz.func209 rfl rfl rfl ?_;refine Wp.qx eZ aM (ev (ae aj4 hea hc hpl hat @R6.eq_1 @bb.eq_1 @nS.eq_1)) rfl (by kernel_rfl) ?_ ?_
 ·exact⟨⟨oM,oM⟩,hb',_,_,rfl⟩
 refine qq ?_;exact⟨_,rfl⟩
def GS(q:Ag)(i:Nat):bI Tryz.prog 209 where
 T:=293
 pre:=λW bs fs as_=>(fs=zn q i/\as_=[])/\q.ok W (Out bs)/\i<q.us.length
 out:=λ_ _ _=>.pan (R6 q i) (.tuple #[])
 enters:=Tryz.call209
 ok:=by
  intro W w bs u fp us fs as_ hk ho hlt hmine hu hp;obtain⟨⟨rfl,rfl⟩,h1,h2⟩:=hp
  match us,hu with
  |[],_=>exact Oi q i u fp w (h1.fK hk hmine) h2 ho hlt
noncomputable def wF(q:Ag)(i:Nat):Env Tryz.prog:=⟨λ| 209=>some (GS q i).spec|158=>some Sj.spec|_=>none,λ_=>none,λ_ _=>none⟩
theorem abX(q:Ag)(i:Nat):(wF q i).sp 209=some (GS q i).spec:=rfl
theorem abW(q:Ag)(i:Nat):(wF q i).sp 158=some Sj.spec:=rfl
def agO(e:Except (Int×Int) Value)(q:Ag)(i:Nat):BOut:=match e with
 |.ok v=>.ret v (zn q (i+1))
 |.error (c,a)=>.pan (bb c a) .nilIface
def akk:Value->Value
 |.iface _ p=>p
 |v=>v
def adE{α:Type}(f:α->Value):Except (Int×Int) α->Except (Int×Int) Value
 |.ok a=>.ok (f a)
 |.error e=>.error e
def tn(q:Ag)(i:Nat):BOut:=agO (adE ax (J6 q.ts (cx q.l) i)) q i
def bQ:=(ae aj4 @abX @abW @Ap @Ao @Si.eq_1 @Si.eq_2 (br @GS.eq_1 @bZ @aL))
theorem MC(q:Ag)(i:Nat)(u:Value)(fp:List Nat)(w:World)(hq:q.ok w (Out fp))(hi:i<q.us.length)(ho:aW w u fp 293 (zn q i))(hlt:∀ b∈fp,b<w.heap.size) :
  Calls Tryz.prog 159 (#[u]++#[]) w λx w' => dA w u fp 293 x w' (tn q i):=by
 obtain⟨v,t,hv,ht,htv⟩:=eR.get hq.2.1.2 hi;obtain⟨b,o,hta,hb,hc⟩:=jC.cell hq.2.1.1 hv;have hb' : b∉fp:=hb;have hS:=hq.2.2.2 t (List.mem_of_getElem? ht);have hi3:i<3:=by have:=hq.2.2.1.2.1;omega
 have wo:IntKind.i64.wrap ((i:Int)+1)=((i+1:Nat):Int):=wW;have hD:qL w v=t:=cg htv;have hg:q.us.getD i undef=v:=by rw[List.getD_eq_getElem?_getD,hv];rfl
 have hle:q.us.length<=q.tc:=hq.2.2.1.2.2.1;refine aN (nt:=31) #[] [.tmp 2] (by show 5<=7;omega) ho hlt Tryz.func159 rfl rfl rfl ?_;refine vR eZ bQ ?_;cases hn:w4 t with
 | some n=>
  have hE:tn q i=.ret (ax n) (zn q (i+1)):=by
   unfold tn J6;rw[ht];simp only[Option.bind_some,hn];rfl
  rw[hE];refine ko (wF q i) (qG bQ hta hc hD hn) ?_ ?_
  ·exact⟨⟨oM,oM⟩,hb',t,htv,rJ hS⟩
  refine Wp.seq ?_;refine vR eZ bQ ?_;refine wC bQ (λhc=>?_) (λhc=>?_)
  ·cases hc
  refine wK ?_;refine vR eZ (aa bQ wo) ?_;refine vR eZ bQ ?_;refine wZ bQ ?_;exact⟨_,_,rfl,λE=>rfl,_,_,rfl,(ev (fP bQ @aq @zn.eq_1 hta)),dE⟩
 | none=>
  have hE:tn q i=.pan (R6 q i) .nilIface:=by
   unfold tn J6;rw[ht];simp only[Option.bind_some,hn];rfl
  rw[hE];refine ko (wF q i) (qG bQ hta hc hD hn) ?_ ?_
  ·exact⟨⟨oM,oM⟩,hb',t,htv,rJ hS⟩
  refine Wp.seq ?_;refine vR eZ bQ ?_;refine wC bQ (λhc=>?_) (λhc=>?_)
  rotate_left
  ·cases hc
  refine Wp.dz (wF q i) aM (ev (aa bQ hta)) ?_ ?_
  ·exact⟨⟨hq,hi⟩,dE,λ_ h=>h.elim⟩
  refine qq ?_;exact⟨_,rfl⟩
def FL(q:Ag)(i:Nat):bI Tryz.prog 159 where
 T:=293
 pre:=λW bs fs as_=>(fs=zn q i/\as_=[])/\q.ok W (Out bs)/\i<q.us.length
 out:=λ_ _ _=>tn q i
 enters:=Tryz.call159
 ok:=by
  intro W w bs u fp us fs as_ hk ho hlt hmine hu hp;obtain⟨⟨rfl,rfl⟩,h1,h2⟩:=hp
  match us,hu with
  |[],_=>exact MC q i u fp w (h1.fK hk hmine) h2 ho hlt
def ni(q:Ag)(i:Nat):BOut:=agO (adE Value.string (D5 q.ts (cx q.l) i)) q i
theorem MD(q:Ag)(i:Nat)(u:Value)(fp:List Nat)(w:World)(hq:q.ok w (Out fp))(hi:i<q.us.length)(ho:aW w u fp 293 (zn q i))(hlt:∀ b∈fp,b<w.heap.size) :
  Calls Tryz.prog 160 (#[u]++#[]) w λx w' => dA w u fp 293 x w' (ni q i):=by
 obtain⟨v,t,hv,ht,htv⟩:=eR.get hq.2.1.2 hi;obtain⟨b,o,hta,hb,hc⟩:=jC.cell hq.2.1.1 hv;have hb' : b∉fp:=hb;have hS:=hq.2.2.2 t (List.mem_of_getElem? ht);have hi3:i<3:=by have:=hq.2.2.1.2.1;omega
 have wo:IntKind.i64.wrap ((i:Int)+1)=((i+1:Nat):Int):=wW;have hD:qL w v=t:=cg htv;have hg:q.us.getD i undef=v:=by rw[List.getD_eq_getElem?_getD,hv];rfl
 have hle:q.us.length<=q.tc:=hq.2.2.1.2.2.1;refine aN (nt:=32) #[] [.tmp 2] (by show 5<=7;omega) ho hlt Tryz.func160 rfl rfl rfl ?_;refine vR eZ bQ ?_;cases t with
 | text a s=>
  obtain rfl:v=_:=htv;have hE:ni q i=.ret (.string s) (zn q (i+1)):=by
   unfold ni D5;rw[ht];rfl
  rw[hE];refine ko eZ (br bQ hta hc) ?_ ?_
  ·exact⟨⟨oM,oM⟩,hb'⟩
  refine Wp.seq ?_;refine vR eZ bQ ?_;refine wC bQ (λhc=>?_) (λhc=>?_)
  ·cases hc
  refine wK ?_;refine vR eZ (aa bQ wo) ?_;refine vR eZ bQ ?_;refine wZ bQ ?_;exact⟨_,_,rfl,λE=>rfl,_,_,rfl,(ev (fP bQ @aq @zn.eq_1 hta)),dE⟩
 | rx a r=>
  obtain rfl:v=_:=htv;have hE:ni q i=.pan (R6 q i) .nilIface:=by
   unfold ni D5;rw[ht];rfl
  rw[hE];refine ko eZ (br bQ hta hc) ?_ ?_
  ·exact⟨⟨oM,oM⟩,hb'⟩
  refine Wp.seq ?_;refine vR eZ bQ ?_;refine wC bQ (λhc=>?_) (λhc=>?_)
  rotate_left
  ·cases hc
  refine Wp.dz (wF q i) aM (ev (aa bQ hta)) ?_ ?_
  ·exact⟨⟨hq,hi⟩,dE,λ_ h=>h.elim⟩
  refine qq ?_;exact⟨_,rfl⟩
 | canon c=>
  obtain⟨p,rfl,hc0⟩:=htv;have hE:ni q i=.pan (R6 q i) .nilIface:=by
   unfold ni D5;rw[ht];rfl
  rw[hE];refine ko eZ (br bQ hta hc) ?_ ?_
  ·exact⟨⟨oM,oM⟩,hb'⟩
  refine Wp.seq ?_;refine vR eZ bQ ?_;refine wC bQ (λhc=>?_) (λhc=>?_)
  rotate_left
  ·cases hc
  refine Wp.dz (wF q i) aM (ev (aa bQ hta)) ?_ ?_
  ·exact⟨⟨hq,hi⟩,dE,λ_ h=>h.elim⟩
  refine qq ?_;exact⟨_,rfl⟩
 | lens c=>
  obtain⟨p,rfl,hc0⟩:=htv;have hE:ni q i=.pan (R6 q i) .nilIface:=by
   unfold ni D5;rw[ht];rfl
  rw[hE];refine ko eZ (br bQ hta hc) ?_ ?_
  ·exact⟨⟨oM,oM⟩,hb'⟩
  refine Wp.seq ?_;refine vR eZ bQ ?_;refine wC bQ (λhc=>?_) (λhc=>?_)
  rotate_left
  ·cases hc
  refine Wp.dz (wF q i) aM (ev (aa bQ hta)) ?_ ?_
  ·exact⟨⟨hq,hi⟩,dE,λ_ h=>h.elim⟩
  refine qq ?_;exact⟨_,rfl⟩
def FM(q:Ag)(i:Nat):bI Tryz.prog 160 where
 T:=293
 pre:=λW bs fs as_=>(fs=zn q i/\as_=[])/\q.ok W (Out bs)/\i<q.us.length
 out:=λ_ _ _=>ni q i
 enters:=Tryz.call160
 ok:=by
  intro W w bs u fp us fs as_ hk ho hlt hmine hu hp;obtain⟨⟨rfl,rfl⟩,h1,h2⟩:=hp
  match us,hu with
  |[],_=>exact MD q i u fp w (h1.fK hk hmine) h2 ho hlt
def jg(q:Ag)(i:Nat):BOut:=agO (adE (λ_=>akk (q.us.getD i undef)) (Mr q.ts (cx q.l) i)) q i
theorem IX(q:Ag)(i:Nat)(u:Value)(fp:List Nat)(w:World)(hq:q.ok w (Out fp))(hi:i<q.us.length)(ho:aW w u fp 293 (zn q i))(hlt:∀ b∈fp,b<w.heap.size) :
  Calls Tryz.prog 161 (#[u]++#[]) w λx w' => dA w u fp 293 x w' (jg q i):=by
 obtain⟨v,t,hv,ht,htv⟩:=eR.get hq.2.1.2 hi;obtain⟨b,o,hta,hb,hc⟩:=jC.cell hq.2.1.1 hv;have hb' : b∉fp:=hb;have hS:=hq.2.2.2 t (List.mem_of_getElem? ht);have hi3:i<3:=by have:=hq.2.2.1.2.1;omega
 have wo:IntKind.i64.wrap ((i:Int)+1)=((i+1:Nat):Int):=wW;have hD:qL w v=t:=cg htv;have hg:q.us.getD i undef=v:=by rw[List.getD_eq_getElem?_getD,hv];rfl
 have hle:q.us.length<=q.tc:=hq.2.2.1.2.2.1;refine aN (nt:=31) #[] [.tmp 2] (by show 5<=7;omega) ho hlt Tryz.func161 rfl rfl rfl ?_;refine vR eZ bQ ?_;cases t with
 | text a s=>
  obtain rfl:v=_:=htv;have hE:jg q i=.pan (R6 q i) .nilIface:=by
   unfold jg Mr;rw[ht];rfl
  rw[hE];refine ko eZ (br bQ hta hc) ?_ ?_
  ·exact⟨⟨oM,oM⟩,hb'⟩
  refine Wp.seq ?_;refine vR eZ bQ ?_;refine wC bQ (λhc=>?_) (λhc=>?_)
  rotate_left
  ·cases hc
  refine Wp.dz (wF q i) aM (ev (aa bQ hta)) ?_ ?_
  ·exact⟨⟨hq,hi⟩,dE,λ_ h=>h.elim⟩
  refine qq ?_;exact⟨_,rfl⟩
 | rx a r=>
  obtain rfl:v=_:=htv;have hE:jg q i=.pan (R6 q i) .nilIface:=by
   unfold jg Mr;rw[ht];rfl
  rw[hE];refine ko eZ (br bQ hta hc) ?_ ?_
  ·exact⟨⟨oM,oM⟩,hb'⟩
  refine Wp.seq ?_;refine vR eZ bQ ?_;refine wC bQ (λhc=>?_) (λhc=>?_)
  rotate_left
  ·cases hc
  refine Wp.dz (wF q i) aM (ev (aa bQ hta)) ?_ ?_
  ·exact⟨⟨hq,hi⟩,dE,λ_ h=>h.elim⟩
  refine qq ?_;exact⟨_,rfl⟩
 | canon c=>
  obtain⟨p,rfl,hc0⟩:=htv;have hE:jg q i=.ret (p) (zn q (i+1)):=by
   unfold jg Mr;rw[ht];simp only[hg];rfl
  rw[hE];refine ko eZ (br bQ hta hc) ?_ ?_
  ·exact⟨⟨oM,oM⟩,hb'⟩
  refine Wp.seq ?_;refine vR eZ bQ ?_;refine wC bQ (λhc=>?_) (λhc=>?_)
  ·cases hc
  refine wK ?_;refine vR eZ (aa bQ wo) ?_;refine vR eZ bQ ?_;refine wZ bQ ?_;exact⟨_,_,rfl,λE=>rfl,_,_,rfl,(ev (fP bQ @aq @zn.eq_1 hta)),dE⟩
 | lens c=>
  obtain⟨p,rfl,hc0⟩:=htv;have hE:jg q i=.pan (R6 q i) .nilIface:=by
   unfold jg Mr;rw[ht];rfl
  rw[hE];refine ko eZ (br bQ hta hc) ?_ ?_
  ·exact⟨⟨oM,oM⟩,hb'⟩
  refine Wp.seq ?_;refine vR eZ bQ ?_;refine wC bQ (λhc=>?_) (λhc=>?_)
  rotate_left
  ·cases hc
  refine Wp.dz (wF q i) aM (ev (aa bQ hta)) ?_ ?_
  ·exact⟨⟨hq,hi⟩,dE,λ_ h=>h.elim⟩
  refine qq ?_;exact⟨_,rfl⟩
def Ak(q:Ag)(i:Nat):bI Tryz.prog 161 where
 T:=293
 pre:=λW bs fs as_=>(fs=zn q i/\as_=[])/\q.ok W (Out bs)/\i<q.us.length
 out:=λ_ _ _=>jg q i
 enters:=Tryz.call161
 ok:=by
  intro W w bs u fp us fs as_ hk ho hlt hmine hu hp;obtain⟨⟨rfl,rfl⟩,h1,h2⟩:=hp
  match us,hu with
  |[],_=>exact IX q i u fp w (h1.fK hk hmine) h2 ho hlt
def mW(q:Ag)(i:Nat):BOut:=agO (adE (λ_=>akk (q.us.getD i undef)) (IM q.ts (cx q.l) i)) q i
theorem MB(q:Ag)(i:Nat)(u:Value)(fp:List Nat)(w:World)(hq:q.ok w (Out fp))(hi:i<q.us.length)(ho:aW w u fp 293 (zn q i))(hlt:∀ b∈fp,b<w.heap.size) :
  Calls Tryz.prog 162 (#[u]++#[]) w λx w' => dA w u fp 293 x w' (mW q i):=by
 obtain⟨v,t,hv,ht,htv⟩:=eR.get hq.2.1.2 hi;obtain⟨b,o,hta,hb,hc⟩:=jC.cell hq.2.1.1 hv;have hb' : b∉fp:=hb;have hS:=hq.2.2.2 t (List.mem_of_getElem? ht);have hi3:i<3:=by have:=hq.2.2.1.2.1;omega
 have wo:IntKind.i64.wrap ((i:Int)+1)=((i+1:Nat):Int):=wW;have hD:qL w v=t:=cg htv;have hg:q.us.getD i undef=v:=by rw[List.getD_eq_getElem?_getD,hv];rfl
 have hle:q.us.length<=q.tc:=hq.2.2.1.2.2.1;refine aN (nt:=31) #[] [.tmp 2] (by show 5<=7;omega) ho hlt Tryz.func162 rfl rfl rfl ?_;refine vR eZ bQ ?_;cases t with
 | text a s=>
  obtain rfl:v=_:=htv;have hE:mW q i=.pan (R6 q i) .nilIface:=by
   unfold mW IM;rw[ht];rfl
  rw[hE];refine ko eZ (br bQ hta hc) ?_ ?_
  ·exact⟨⟨oM,oM⟩,hb'⟩
  refine Wp.seq ?_;refine vR eZ bQ ?_;refine wC bQ (λhc=>?_) (λhc=>?_)
  rotate_left
  ·cases hc
  refine Wp.dz (wF q i) aM (ev (aa bQ hta)) ?_ ?_
  ·exact⟨⟨hq,hi⟩,dE,λ_ h=>h.elim⟩
  refine qq ?_;exact⟨_,rfl⟩
 | rx a r=>
  obtain rfl:v=_:=htv;have hE:mW q i=.pan (R6 q i) .nilIface:=by
   unfold mW IM;rw[ht];rfl
  rw[hE];refine ko eZ (br bQ hta hc) ?_ ?_
  ·exact⟨⟨oM,oM⟩,hb'⟩
  refine Wp.seq ?_;refine vR eZ bQ ?_;refine wC bQ (λhc=>?_) (λhc=>?_)
  rotate_left
  ·cases hc
  refine Wp.dz (wF q i) aM (ev (aa bQ hta)) ?_ ?_
  ·exact⟨⟨hq,hi⟩,dE,λ_ h=>h.elim⟩
  refine qq ?_;exact⟨_,rfl⟩
 | canon c=>
  obtain⟨p,rfl,hc0⟩:=htv;have hE:mW q i=.pan (R6 q i) .nilIface:=by
   unfold mW IM;rw[ht];rfl
  rw[hE];refine ko eZ (br bQ hta hc) ?_ ?_
  ·exact⟨⟨oM,oM⟩,hb'⟩
  refine Wp.seq ?_;refine vR eZ bQ ?_;refine wC bQ (λhc=>?_) (λhc=>?_)
  rotate_left
  ·cases hc
  refine Wp.dz (wF q i) aM (ev (aa bQ hta)) ?_ ?_
  ·exact⟨⟨hq,hi⟩,dE,λ_ h=>h.elim⟩
  refine qq ?_;exact⟨_,rfl⟩
 | lens c=>
  obtain⟨p,rfl,hc0⟩:=htv;have hE:mW q i=.ret (p) (zn q (i+1)):=by
   unfold mW IM;rw[ht];simp only[hg];rfl
  rw[hE];refine ko eZ (br bQ hta hc) ?_ ?_
  ·exact⟨⟨oM,oM⟩,hb'⟩
  refine Wp.seq ?_;refine vR eZ bQ ?_;refine wC bQ (λhc=>?_) (λhc=>?_)
  ·cases hc
  refine wK ?_;refine vR eZ (aa bQ wo) ?_;refine vR eZ bQ ?_;refine wZ bQ ?_;exact⟨_,_,rfl,λE=>rfl,_,_,rfl,(ev (fP bQ @aq @zn.eq_1 hta)),dE⟩
def FJ(q:Ag)(i:Nat):bI Tryz.prog 162 where
 T:=293
 pre:=λW bs fs as_=>(fs=zn q i/\as_=[])/\q.ok W (Out bs)/\i<q.us.length
 out:=λ_ _ _=>mW q i
 enters:=Tryz.call162
 ok:=by
  intro W w bs u fp us fs as_ hk ho hlt hmine hu hp;obtain⟨⟨rfl,rfl⟩,h1,h2⟩:=hp
  match us,hu with
  |[],_=>exact MB q i u fp w (h1.fK hk hmine) h2 ho hlt
end
end Go.Proofs.YtnemkecffmdlnaaGreatDoor
namespace Go.LE
section
open Go.RowKit
def rr(w:World)(u:Value)(us:List Value)(fp:List Nat)(T:TypeId)(fs:List AV):Prop:=
 ∃ b,u=.pointer (some ⟨b,0,none⟩)/\w.heap[b]?=some (.cells us.toArray T (0,0))/\eS w us fs/\fp=b::zr us fs/\fp.Nodup
theorem EM{w:World}{u:Value}{us:List Value}{fp:List Nat}{T:TypeId}{a:AV}(h:rr w u us fp T [a]):∃ y,us=[y]:=by
 obtain⟨b,_,_,h3,_⟩:=h
 match us,h3 with
 |[y],_=>exact⟨y,rfl⟩
def AS(w:World)(S:Nat->Prop)(u:Value)(us:List Value)(fp:List Nat)(T:TypeId)(fs:List AV)(e:Ending)(w' : World):FOut->Prop
 |.val v=>e=.returned v/\rr w' u us fp T fs/\an w fp w'
 |.fact sh Φ=>∃ cs,e=.returned (sh.val cs)/\rr w' u us fp T fs/\Φ.Φ cs w' (λb=>(b<w.heap.size->S b\/b∈fp)/\b∉fp)/\an w fp w'
 |.pan c _=>e=.panicked c/\an w fp w'
structure Ea (P:Program)(f:FuncId) where
 T:TypeId
 kinds:List Kd
 pre:List AV->List AV->World->(Nat->Prop)->Prop
 premono:∀ fs as_ W S W' S',aX W S W' S' -> pre fs as_ W S->pre fs as_ W' S'
 out:List AV->List AV->FOut
 enters:∀ args w,(callFunc f args).run P w=.ok (.enter f args) w
 ok:∀ (w:World) (S:Nat->Prop) (u:Value) (xs:List Value) (fp:List Nat) (us:List Value) (fs as_:List AV),rr w u xs fp T fs->(∀ b∈fp,b<w.heap.size)->(∀ b∈fp,¬ S b)->AP w S kinds us as_->pre fs as_ w S ->
  Calls P f (u::us).toArray w λe w' => AS w S u xs fp T fs e w' (out fs as_)
def q8(G:Nat->Prop)(κ k:Nat)(W:World)(bs:List Nat)(q:Prop)(rs rs' cs:List Nat):FOut->R
 |.val v=>⟨q/\(k::rs).Nodup/\(∀ j∈rs',j∉k::rs),.v v,[],none,[],k::(rs++rs')⟩
 |.fact sh Φ=>⟨q/\(k::rs).Nodup/\(∀ j∈rs',j∉k::rs)/\Up G W bs,sh.tm (8*κ+7),dK cs++[(8*κ+7,some (.obj [] (fX G W bs Φ)))],none,[],k::(rs++rs')⟩
 |.pan c v=>⟨q/\(k::rs).Nodup/\(∀ j∈rs',j∉k::rs),.v v,[],some c,k::rs,k::(rs++rs')⟩
def AU(G:Nat->Prop)(κ k:Nat)(T T' : TypeId)(W:World)(bs:List Nat)(pre:List AV->List AV->World->(Nat->Prop)->Prop)(out:List AV->List AV->FOut)(g:GVL):Option (List AV×List Nat)->R
 |some (fs,rs)=>q8 G κ k W bs (T' = T/\g.p/\pre fs g.as_ W (bE G bs)) rs g.rs g.cs (out fs g.as_)
 |none=>.bad
def AW(G:Nat->Prop)(h:Hp)(κ k:Nat)(T:TypeId)(W:World)(bs:List Nat)(pre:List AV->List AV->World->(Nat->Prop)->Prop)(out:List AV->List AV->FOut)(g:GVL):Option a6->R
 |some (.cells T' vs)=>AU G κ k T T' W bs pre out g (aB h vs)
 |_=>.bad
def ED(G:Nat->Prop)(h:Hp)(κ:Nat)(T:TypeId)(W:World)(bs:List Nat)(kinds:List Kd)(pre:List AV->List AV->World->(Nat->Prop)->Prop)(out:List AV->List AV->FOut):List SV->R
 |.own k 0::rest=>AW G h κ k T W bs pre out (mD G W bs h kinds rest) (h k)
 |_=>.bad
section
variable {P:Program}{W:World}{bs:List Nat}{κ:Nat}{E:Nat->Value}{F:Nat->List Nat}{h:Nat->Option a6}{w:World}{K:Nat->Prop}{G:Nat->Prop}
theorem P6{w' : World}(hs:ak W bs E F h w){x:SV}{a:AV}{r:List Nat}(hv:bK h x=some (a,r))(ha:s8 w' (den E x) a):∀ k∈r,∀ e,h k=some e->bu E (E k) (F k) w' e:=by
 cases x with
 |v x=>simp[bK]at hv;obtain⟨rfl,rfl⟩:=hv;intro k hk;cases hk
 |agg l=>
  simp only[bK,Option.map_eq_some_iff,Prod.mk.injEq]at hv;obtain⟨vs,h1,rfl,rfl⟩:=hv;intro k hk;cases hk
 | hd k=>
  simp only[bK]at hv;cases hk:h k with
  |none=>rw[hk]at hv;simp[fC]at hv
  | some e=>
   cases e with
   |row T s n us=>
    rw[hk]at hv;simp only[fC,Option.map_eq_some_iff,Prod.mk.injEq]at hv;obtain⟨vs,h1,rfl,rfl⟩:=hv;have:=hs.ent k _ hk;simp only[s8,den,fz (bX this),<- lC (E:=E) h1]at ha;intro k' hk' e he;simp only[List.mem_singleton]at hk';subst hk';rw[hk]at he;cases he;exact⟨ha,this.2⟩
   |mp ks us=>
    rw[hk]at hv;simp only[fC,Option.map_eq_some_iff,Prod.mk.injEq]at hv;obtain⟨vs,h1,rfl,rfl⟩:=hv;have:=hs.ent k _ hk;simp only[s8,den,fz (bX this),<- lC (E:=E) h1]at ha;intro k' hk' e he;simp only[List.mem_singleton]at hk';subst hk';rw[hk]at he;cases he;exact lz.2 ⟨ha,(lz.1 this).2⟩
   |cells T vs=>rw[hk]at hv;simp[fC]at hv
   |obj d R=>rw[hk]at hv;simp[fC]at hv
 |own k o=>simp[bK]at hv
 |tup l=>simp[bK]at hv
 |mU t x=>simp[bK]at hv
 |part k i=>simp[bK]at hv
 |fn f a c=>simp[bK]at hv
theorem Dl{w' : World}(hs:ak W bs E F h w):∀ {l:List SV} {as_:List AV} {r:List Nat},aB h l=some (as_,r)->eS w' (aj E l) as_->∀ k∈r,∀ e,h k=some e->bu E (E k) (F k) w' e
 |[],as_,r,hv,_=>by
  simp[aB]at hv;obtain⟨rfl,rfl⟩:=hv;intro k hk;cases hk
 | x::l,as_,r,hv,ha=>by
  simp only[aB]at hv;cases h1:bK h x with
  |none=>rw[h1]at hv;simp[jI]at hv
  | some p=>
   cases h2:aB h l with
   |none=>rw[h1,h2]at hv;simp[jI]at hv
   |some q=>
    obtain⟨a,ra⟩:=p;obtain⟨as',rs⟩:=q;rw[h1,h2]at hv;simp only[jI,Option.some.injEq,Prod.mk.injEq]at hv;obtain⟨rfl,rfl⟩:=hv;simp only[aj,eS]at ha;intro k hk;rcases List.mem_append.1 hk with hk|hk
    ·exact P6 hs h1 ha.1 k hk
    ·exact Dl hs h2 ha.2 k hk
theorem Aq(hs:ak W bs E F h w){k:Nat}{T:TypeId}{vs:List SV}{fs:List AV}{rs:List Nat}(hk:h k=some (.cells T vs))(hv:aB h vs=some (fs,rs))(hn:(k::rs).Nodup) :
  rr w (E k) (aj E vs) ((k::rs).flatMap F) T fs:=by
 obtain⟨b,h1,h2,h3⟩:=hs.ent k _ hk;obtain⟨g1,_⟩:=cp hs hv;refine⟨b,h1,h3,ei hs hv,by rw[List.flatMap_cons,h2,g1];rfl,o8 hs hn λj hj=>?_⟩;rcases List.mem_cons.1 hj with rfl|hj
 ·exact⟨_,hk,λd R e=>by cases e⟩
 ·exact iG hv j hj
theorem Qm{w' : World}(hs:ak W bs E F h w){k:Nat}{T:TypeId}{vs:List SV}{fs:List AV}{rs:List Nat}(hk:h k=some (.cells T vs))(hv:aB h vs=some (fs,rs))(ho:rr w' (E k) (aj E vs) ((k::rs).flatMap F) T fs) :
  ∀ j∈k::rs,∀ e,h j=some e->bu E (E j) (F j) w' e:=by
 obtain⟨b,h1,h2,h3⟩:=hs.ent k _ hk;obtain⟨b',g1,g2,g3,g4,g5⟩:=ho;intro j hj e he;rcases List.mem_cons.1 hj with rfl|hj
 ·rw[hk]at he;cases he;rw[h1]at g1;cases g1;exact⟨b,h1,h2,g2⟩
 ·exact Dl hs hv g3 j hj e he
end
def Ea.spec{P:Program}{f:FuncId}(p:Ea P f)(G:Nat->Prop):Spec P f where
 ev:=λW bs κ h args=>ED G h κ p.T W bs p.kinds p.pre p.out args
 good:=λW bs κ E F h w K args hs hK hk hx hside=>by
  rw[p.enters];revert hside;unfold ED;split
  ·rename_i k rest;generalize hg:mD G W bs h p.kinds rest=g;cases hkk:h k with
   |none=>exact λhf=>hf.elim
   | some e=>
    cases e with
    |row T s n vs=>exact λhf=>hf.elim
    |mp ks vs=>exact λhf=>hf.elim
    |obj d R=>exact λhf=>hf.elim
    | cells T' vs=>
     simp only[AW];cases hv:aB h vs with
     |none=>exact λhf=>hf.elim
     | some q=>
      obtain⟨fs,rs⟩:=q;simp only[AU];have hent:=hs.ent k _ hkk;obtain⟨b,hu,_,_⟩:=hent;have hden:den E (.own k 0)=E k:=by simp[den,hu,base,df]
      have hobj:g.p->∀ j∈g.cs,∃ Φ,h j=some (.obj [] (fX G W bs Φ)):=λhp=>by rw[<- hg]at hp ⊢;exact o9 hp
      have hown:∀ j∈k::rs,∃ e,h j=some e/\∀ d R,e≠.obj d R:=λj hj=>by
       rcases List.mem_cons.1 hj with rfl|hj
       ·exact⟨_,hkk,λ_ _ e=>by cases e⟩
       ·exact iG hv j hj
      have fK:∀ c∈(k::rs).flatMap F,(∃ j∈k::rs,c∈F j)/\c<w.heap.size/\(W.heap.size<=c\/c∈bs):=λc hc=>by
       obtain⟨j,hj,hcj⟩:=List.mem_flatMap.1 hc;obtain⟨e,he,_⟩:=hown j hj;exact⟨⟨j,hj,hcj⟩,hs.lt j e he c hcj,hs.mine j e he c hcj⟩
      have hS0:∀ b,b<W.heap.size->bE G bs b->b∉(k::rs).flatMap F:=λb h1 h2 hb=>(fK b hb).2.2.elim (λg=>absurd g (Nat.not_le.2 h1)) h2.2
      have hS:∀ b,b<W.heap.size->bE G bs b->(b<W.heap.size/\bE G bs b)\/∃ j∈g.cs,b∈F j:=λb h1 h2=>.inl ⟨h1,h2⟩
      have hcs:g.p->∀ j∈g.cs,∀ i∈k::rs,i≠j/\∀ b∈F i,b∉F j:=λhp j hj i hi=>by
       obtain⟨Φ,hj'⟩:=hobj hp j hj;obtain⟨e,he,hne⟩:=hown i hi;have hij:i≠j:=λhij=>by
        rw[hij,hj']at he;exact hne _ _ (Option.some.inj he).symm
       exact⟨hij,hs.apart i j e _ hij he hj'⟩
      have hSf:g.p->∀ b∈(k::rs).flatMap F,¬ ((b<W.heap.size/\bE G bs b)\/∃ j∈g.cs,b∈F j):=λhp b hb hS=>by
       rcases hS with ⟨h1,h2⟩|⟨j,hj,hbj⟩
       ·exact hS0 b h1 h2 hb
       ·obtain⟨i,hi,hbi⟩:=(fK b hb).1;exact (hcs hp j hj i hi).2 b hbi hbj
      have call:∀ hn:(k::rs).Nodup,T' = p.T->g.p->p.pre fs g.as_ W (bE G bs)->Calls P f (aj E (.own k 0::rest)).toArray w λe w' => AS w (λb=>(b<W.heap.size/\bE G bs b)\/∃ j∈g.cs,b∈F j) (E k) (aj E vs) ((k::rs).flatMap F) p.T fs e w' (p.out fs g.as_):=λhn hT hp hpre=>by
       subst hT;have ho:=Aq hs hkk hv hn;have hgs:=zR hs hS (kds:=p.kinds) (l:=rest) (by rw[hg];exact hp) (by rw[hg];exact λj hj b hb=>.inr ⟨j,hj,hb⟩);rw[hg]at hgs;have:=p.ok w _ (E k) _ _ (aj E rest) fs g.as_ ho (λc hc=>(fK c hc).2.1) (hSf hp) hgs (p.premono _ _ _ _ _ _ (NB hs.keeps hS) hpre)
       simpa only[aj,hden] using this
      have hNe:∀ j e,(if j∈k::rs then h j else none)=some e->j∈k::rs/\h j=some e:=λj e he=>by
       split at he
       ·rename_i hj;exact⟨hj,he⟩
       ·cases he
      cases hout:p.out fs g.as_ with
      | val v=>
       simp only[q8];rintro⟨⟨hT,hp,hpre⟩,hn,hd⟩;have hc:=call hn hT hp hpre;rw[hout]at hc;subst hT;refine hc.mono λe w' he=>?_
       obtain⟨rfl,ho,hkeep⟩:=he;have hb:=Qm hs hkk hv ho;refine⟨rfl,E,F,λ_ _=>rfl,rfl,?_⟩;refine hs.lV hK (k::rs) (λj=>if j∈k::rs then h j else none) (λj hj=>?_) (λ_ _=>rfl) (λj e he=>?_) (λi j e e' hij hi hj=>?_) (λ_ _ _ _=>rfl) (λj=>?_) hkeep
       ·obtain⟨e,he,_⟩:=hown j hj;exact⟨e,he⟩
       ·obtain⟨hj,he⟩:=hNe j e he;exact⟨hb j hj e he,λc hc=>.inl ⟨j,hj,hc⟩,λc hc=>Nat.lt_of_lt_of_le (hs.lt j e he c hc) hkeep.size⟩
       ·exact hs.apart i j e e' hij (hNe i e hi).2 (hNe j e' hj).2
       ·simp only[a7];by_cases hj:j∈k::rs
        ·rw[if_pos hj,if_pos hj];obtain⟨e,he,_⟩:=hown j hj;rw[he]
        ·rw[if_neg hj,if_neg hj]
      | fact sh Φ=>
       simp only[q8];rintro⟨⟨hT,hp,hpre⟩,hn,hd,hup⟩;have hc:=call hn hT hp hpre;rw[hout]at hc;subst hT;refine hc.mono λe w' he=>?_
       obtain⟨cs,rfl,ho,hΦ,hkeep⟩:=he;have hb:=Qm hs hkk hv ho;have hK8:¬ K (8*κ+7):=hk _ oM;have hfn:∀ b,b∈List.range' w.heap.size (w'.heap.size-w.heap.size)++g.cs.flatMap F ↔ (w.heap.size<=b/\b<w'.heap.size)\/∃ j∈g.cs,b∈F j:=λb=>by
        simp only[List.mem_append,ot hkeep.size b,List.mem_flatMap]
       have hR:=xr (G:=G) (fp:=List.range' w.heap.size (w'.heap.size-w.heap.size)++g.cs.flatMap F) (S:=λb=>(b<W.heap.size/\bE G bs b)\/∃ j∈g.cs,b∈F j) hs.keeps hkeep hΦ
        (λb hb=>hb.elim .inl λh=>.inr ((hfn b).2 (.inr h))) hS0
        (λb hb hn=>by
         by_cases hbw:b<w.heap.size
         ·rcases hn.1 hbw with h3|h3
          ·exact .inl ⟨hbw,h3⟩
          ·exact absurd h3 hn.2
         ·exact .inr ((hfn b).2 (.inl ⟨oM,hb⟩)))
        (λb hb=>by
         rcases (hfn b).1 hb with h3|⟨j,hj,hbj⟩
         ·exact hup b (.inl (Nat.le_trans hs.keeps.size h3.1))
         ·obtain⟨Φ',hk'⟩:=hobj hp j hj
          exact hup b (hs.mine j _ hk' b hbj))
       have h8:∀ j x,h j=some x->j≠8*κ+7:=λj x hj e=>hK8 (e ▸ (hK j x hj).1)
       have h8k:8*κ+7∉k::rs:=λhm=>by
        obtain⟨e,he,_⟩:=hown _ hm;exact h8 _ _ he rfl
       refine⟨rfl,bn E (8*κ+7) (dw cs),bn F (8*κ+7) (List.range' w.heap.size (w'.heap.size-w.heap.size)++g.cs.flatMap F),λj hj' => al _ _ λe=>hj' (by subst e;omega),?_,?_⟩
       ·rw[sh.g,ah];rfl
       have hN:∀ j e,(bn (λj=>if j∈k::rs then h j else none) (8*κ+7) (some (.obj [] (fX G W bs Φ)))) j=some e->(j=8*κ+7/\e=.obj [] (fX G W bs Φ))\/(j≠8*κ+7/\j∈k::rs/\h j=some e):=λj e he=>by
        by_cases hj:j=8*κ+7
        ·subst hj;rw[ah]at he;cases he;exact .inl ⟨rfl,rfl⟩
        ·rw[al _ _ hj]at he;exact .inr ⟨hj,hNe j e he⟩
       have hE' : ∀ x:a6,∀ j,h j=some x->∀ {u:Value} {fp:List Nat},bu E u fp w' x->bu (bn E (8*κ+7) (dw cs)) u fp w' x:=λx j hj u fp hx=>by
        exact gE (λi hi=>(al (j:=i) E (dw cs) λe=>hK8 (by rw[<- e];exact (hK j x hj).2 i hi)).symm) hx
       refine hs.lV hK (k::(rs++g.cs)) (bn (λj=>if j∈k::rs then h j else none) (8*κ+7) (some (.obj [] (fX G W bs Φ)))) (λj hj=>?_) (λj hj=>al _ _ λe=>hK8 (e ▸ hj)) (λj e he=>?_) (λi j e e' hij hi hj c hc=>?_) (λj x hx hj=>al _ _ (h8 j x hx)) (λj=>?_) (hkeep.mono λc hc=>?_)
       ·rcases List.mem_cons.1 hj with rfl|hj
        ·exact⟨_,hkk⟩
        ·rcases List.mem_append.1 hj with hj|hj
         ·obtain⟨e,he,_⟩:=hown j (List.mem_cons_of_mem _ hj);exact⟨e,he⟩
         ·obtain⟨Φ',h'⟩:=hobj hp j hj;exact⟨_,h'⟩
       ·rcases hN j e he with ⟨rfl,rfl⟩|⟨hj8,hj,he⟩
        ·rw[ah,ah];refine⟨⟨⟨hR w' λ_ _=>rfl,rfl⟩,hR⟩,λb hb=>?_,λb hb=>?_⟩
         ·rcases (hfn b).1 hb with h3|⟨j,hj,hbj⟩
          ·exact .inr h3.1
          ·exact .inl ⟨j,List.mem_cons_of_mem _ (List.mem_append_right _ hj),hbj⟩
         ·rcases (hfn b).1 hb with h3|⟨j,hj,hbj⟩
          ·exact h3.2
          ·obtain⟨Φ',hk'⟩:=hobj hp j hj;exact Nat.lt_of_lt_of_le (hs.lt j _ hk' b hbj) hkeep.size
        ·rw[al _ _ hj8,al _ _ hj8];refine⟨hE' e j he (hb j hj e he),λc hc=>.inl ⟨j,?_,hc⟩,λc hc=>Nat.lt_of_lt_of_le (hs.lt j e he c hc) hkeep.size⟩;rcases List.mem_cons.1 hj with hj|hj
         ·exact List.mem_cons.2 (.inl hj)
         ·exact List.mem_cons.2 (.inr (List.mem_append_left _ hj))
       ·have new:∀ i∈k::rs,∀ c∈F i,c∉List.range' w.heap.size (w'.heap.size-w.heap.size)++g.cs.flatMap F:=λi hi c hc hm=>by
         obtain⟨e,he,_⟩:=hown i hi;rcases (hfn c).1 hm with h3|⟨j,hj,hbj⟩
         ·exact absurd (hs.lt i e he c hc) oM
         ·exact (hcs hp j hj i hi).2 c hc hbj
        rcases hN i e hi with ⟨rfl,rfl⟩|⟨hi8,hi,he⟩
        ·rcases hN j e' hj with ⟨rfl,rfl⟩|⟨hj8,hj,he'⟩
         ·exact absurd rfl hij
         ·rw[ah]at hc;rw[al _ _ hj8];exact λhc' => new j hj c hc' hc
        ·rw[al _ _ hi8]at hc;rcases hN j e' hj with ⟨rfl,rfl⟩|⟨hj8,hj,he'⟩
         ·rw[ah];exact new i hi c hc
         ·rw[al _ _ hj8];exact hs.apart i j e e' hij he he' c hc
       ·rw [b7];simp only[a7];by_cases hj:j=8*κ+7
        ·subst hj;rw[ah,ah]
        ·rw[al _ _ hj,al _ _ hj,ka];by_cases hjk:j∈k::rs
         ·rw[if_pos hjk];obtain⟨e,he,_⟩:=hown j hjk;rw[he];have:j∉g.cs:=λhm=>(hcs hp j hm j hjk).1 rfl
          rw[if_neg this]
         ·rw[if_neg hjk];by_cases hjc:j∈g.cs
          ·rw[if_pos hjc,if_pos (List.mem_cons_of_mem _ (List.mem_append_right _ hjc))]
          ·rw[if_neg hjc,if_neg];intro hm;rcases List.mem_cons.1 hm with hm|hm
           ·exact hjk (List.mem_cons.2 (.inl hm))
           ·rcases List.mem_append.1 hm with hm|hm
            ·exact hjk (List.mem_cons_of_mem _ hm)
            ·exact hjc hm
       ·obtain⟨i,hi,hci⟩:=List.mem_flatMap.1 hc;refine List.mem_flatMap.2 ⟨i,?_,hci⟩;rcases List.mem_cons.1 hi with hi|hi
        ·exact List.mem_cons.2 (.inl hi)
        ·exact List.mem_cons.2 (.inr (List.mem_append_left _ hi))
      |pan c _=>
       simp only[q8];rintro⟨⟨hT,hp,hpre⟩,hn,hd⟩;have hc:=call hn hT hp hpre;rw[hout]at hc;refine hc.mono λe w' he=>?_
       obtain⟨rfl,hkeep⟩:=he;refine⟨rfl,F,?_⟩;refine hs.lV hK (k::rs) (λ_=>none) (λj hj=>?_) (λ_ _=>rfl) (λj e he=>by cases he) (λi j e e' _ he=>by cases he) (λ_ _ _ _=>rfl) (λj=>?_) hkeep
       ·obtain⟨e,he,_⟩:=hown j hj;exact⟨e,he⟩
       ·simp only[dropKeys]
  ·exact λhf=>hf.elim
 keys:=λW bs κ h K args hK hx hside=>by
  revert hside;unfold ED;split
  ·rename_i k rest;generalize hg:mD G W bs h p.kinds rest=g;cases hkk:h k with
   |none=>exact λhf=>hf.elim
   | some e=>
    cases e with
    |row T s n vs=>exact λhf=>hf.elim
    |mp ks vs=>exact λhf=>hf.elim
    |obj d R=>exact λhf=>hf.elim
    | cells T' vs=>
     simp only[AW];cases hv:aB h vs with
     |none=>exact λhf=>hf.elim
     | some q=>
      obtain⟨fs,rs⟩:=q;simp only[AU];have hobj:g.p->∀ j∈g.cs,∃ Φ,h j=some (.obj [] (fX G W bs Φ)):=λhp=>by rw[<- hg]at hp ⊢;exact o9 hp
      cases hout:p.out fs g.as_ with
      |val v=>
       simp only[q8];exact λ_=>⟨λj hj=>(by cases hj),λq hq=>by cases hq⟩
      | fact sh Φ=>
       simp only[q8];rintro⟨⟨_,hp,_⟩,hn,hd,hup⟩;refine⟨λj hj=>.inr (by rw[sh.k _ j hj];omega),λq hq=>?_⟩;simp only[List.mem_append,List.mem_singleton]at hq;rcases hq with hq|rfl
       ·simp only[dK,List.mem_map]at hq;obtain⟨j,hj,rfl⟩:=hq;obtain⟨Φ',h'⟩:=hobj hp j hj;exact⟨.inl (hK j _ h').1,λe he=>by cases he⟩
       ·refine⟨.inr (by simp only;omega),λe he k hk=>?_⟩;simp only[Option.some.injEq]at he;subst he;cases hk
      |pan c _=>
       simp only[q8];rintro _;exact⟨λj hj=>(by cases hj),λq hq=>by cases hq⟩
  ·exact λhf=>hf.elim
 loc:=λW bs κ h h' args hside hr=>by
  revert hside hr;unfold ED;split
  ·rename_i k rest;generalize hg:mD G W bs h p.kinds rest=g;cases hkk:h k with
   |none=>exact λhf=>hf.elim
   | some e=>
    cases e with
    |row T s n vs=>exact λhf=>hf.elim
    |mp ks vs=>exact λhf=>hf.elim
    |obj d R=>exact λhf=>hf.elim
    | cells T' vs=>
     simp only[AW];cases hv:aB h vs with
     |none=>exact λhf=>hf.elim
     | some q=>
      obtain⟨fs,rs⟩:=q;simp only[AU];intro hside hr;have hp:g.p:=by
       revert hside;cases p.out fs g.as_<;>exact λh=>h.1.2.1
      have hr' : ∀ j∈k::(rs++g.rs),h' j=h j:=by
       revert hr;cases p.out fs g.as_<;>exact λh=>h
      have e1:h' k=some (.cells T' vs):=by rw[hr' k sI,hkk]
      have e2:mD G W bs h' p.kinds rest=g:=by
       rw[<- hg];exact zQ (by rw[hg];exact hp) (by rw[hg];exact λj hj=>hr' j (by simp[hj]))
      have e3:aB h' vs=some (fs,rs):=cN hv λj hj=>hr' j (by simp[hj])
      rw[e1,e2];simp only[AW,e3,AU]
  ·exact λhf=>hf.elim
theorem vg{P:Program}{f:FuncId}(p:Ea P f)(G:Nat->Prop)(W:World)(bs:List Nat)(κ:Nat)(h:Hp)(l:List SV):(p.spec G).ev W bs κ h l=ED G h κ p.T W bs p.kinds p.pre p.out l:=rfl
theorem UT{w:World}{nt m:Nat}{T:TypeId}{fs:List AV}{u x:Value}{fp:List Nat}(us:Array Value)(hlen:fs.length<=7)(ho:rr w u [x] fp T fs)(hlt:∀ b∈fp,b<w.heap.size)(hnt:us.size+1+m=nt) :
  Sat w fp nt ⟨[],[(0,u),(1,x)]⟩ (σB T fs us.toList) { tmps:=(#[u]++us)++Array.replicate m undef,defers:=[] } w:=by
 obtain⟨b,rfl,hb,hvs,rfl,hnd⟩:=ho;have e1:gv 1 [x] (λ_=>.pointer (some ⟨b,0,none⟩)) 1=x:=by simp[gv,bn]
 have hl:=jM hvs;have hb' : b∉zr [x] fs:=(List.nodup_cons.1 hnd).1;have hnd' : (zr [x] fs).Nodup:=(List.nodup_cons.1 hnd).2;have at' : ∀ j e,dM ((0,.cells T (aO 1 fs))::bf 1 fs) j=some e->(j=0/\e=.cells T (aO 1 fs))\/(j≠0/\(j,e)∈bf 1 fs):=λj e he=>by
  simp only[dM]at he;by_cases hj:j=0
  ·subst hj;rw[ah]at he;cases he;exact .inl ⟨rfl,rfl⟩
  ·rw[al _ _ hj]at he;exact .inr ⟨hj,JI he⟩
 have e0:gv 1 [x] (λ_=>.pointer (some ⟨b,0,none⟩)) 0=.pointer (some ⟨b,0,none⟩):=mq (.inl oM)
 refine⟨⟨gv 1 [x] (λ_=>.pointer (some ⟨b,0,none⟩)),bn (ij 1 [x] fs (λ_=>[])) 0 [b],λt=>?_,⟨λj e he=>?_,λj e he c hc=>?_,λj e he c hc=>?_,λi j e e' hij hi hj c hc=>?_,an.refl w _⟩,λp hp=>?_⟩,?_,rfl,λp hp=>?_,λt k hk=>?_,λj e he=>?_⟩
 ·show fits _ (dZ ((0,.is (.own 0 0))::uH us.toList 1) t) _;simp only[dZ,bn];split
  ·rename_i ht;subst ht;simp only[fits,den,e0,base,df];rw[Array.getD_eq_getD_getElem?,Array.getElem?_append_left (by simp;omega),Array.getElem?_append_left sI];rfl
  ·refine so _ us.toList 1 t (λt=>((#[Value.pointer (some ⟨b,0,none⟩)]++us)++Array.replicate m undef).getD t undef) λj hj=>?_
   have hj' : j<us.size:=by simpa using hj
   rw[Array.getD_eq_getD_getElem?,Array.getElem?_append_left (by simp;omega),Array.getElem?_append_right sI];simp[Array.getElem?_eq_getElem hj']
 ·rcases at' j e he with ⟨rfl,rfl⟩|⟨hj,hm⟩
  ·exact⟨b,e0,by rw[ah],by rw[fW hvs];exact hb⟩
  ·rw[al _ _ hj];exact (iR hvs hm _).1
 ·rcases at' j e he with ⟨rfl,rfl⟩|⟨hj,hm⟩
  ·rw[ah]at hc;exact hlt c (by simp at hc;simp[hc])
  ·rw[al _ _ hj]at hc;exact hlt c (List.mem_cons_of_mem _ (cD hl hm c hc))
 ·right;rcases at' j e he with ⟨rfl,rfl⟩|⟨hj,hm⟩
  ·rw[ah]at hc;simp at hc;simp[hc]
  ·rw[al _ _ hj]at hc;exact List.mem_cons_of_mem _ (cD hl hm c hc)
 ·rcases at' i e hi with ⟨rfl,rfl⟩|⟨hi0,hmi⟩
  ·rcases at' j e' hj with ⟨rfl,rfl⟩|⟨hj0,hmj⟩
   ·exact absurd rfl hij
   ·rw[ah]at hc;rw[al _ _ hj0];simp only[List.mem_singleton]at hc;subst hc;exact λhc' => hb' (cD hl hmj c hc')
  ·rw[al _ _ hi0]at hc;rcases at' j e' hj with ⟨rfl,rfl⟩|⟨hj0,hmj⟩
   ·rw[ah];intro hc';simp only[List.mem_singleton]at hc';subst hc';exact hb' (cD hl hmi c hc)
   ·rw[al _ _ hj0];exact iQ hnd' hmi hmj hl hij c hc
 ·simp only[List.mem_cons,List.not_mem_nil,or_false]at hp;rcases hp with rfl|rfl
  ·exact e0
  ·exact e1
 ·simp;omega
 ·simp only[List.mem_cons,List.not_mem_nil,or_false]at hp;rcases hp with rfl|rfl
  ·show 0 / 8<1;omega
  ·show 1 / 8<1;omega
 ·simp only[σB,dZ,bn]at hk;split at hk
  ·simp[FV.keys,SV.keys]at hk;subst hk;show 0 / 8<1;omega
  ·rw[sr]at hk;cases hk
 ·rcases at' j e he with ⟨rfl,rfl⟩|⟨hj,hm⟩
  ·refine⟨by show 0 / 8<1;omega,λi hi=>?_⟩;have:=cm i hi;show i / 8<1;omega
  ·have:=dO _ hm;refine⟨by show j / 8<1;simp only at this;omega,λi hi=>?_⟩;rw[this.2.2]at hi;cases hi
def Qg(w:World)(S:Nat->Prop)(fp:List Nat)(T:TypeId)(fs:List AV)(W' : World)(bs' : List Nat)(x:SV)(h:Hp):FOut->Prop
 |.val v=>(∀ E,den E x=v)/\h 0=some (.cells T [.hd 1])/\aB h [.hd 1]=some (fs,[1])
 |.fact sh Φ=>(∃ cs,(∀ E,den E x=sh.val cs)/\Φ.Φ cs W' (bE (af w S fp) bs'))/\h 0=some (.cells T [.hd 1])/\aB h [.hd 1]=some (fs,[1])
 |.pan _ _=>False
theorem e9{P:Program}{f:FuncId}{fn:Func}{c:Code}{w:World}{nt:Nat}{T:TypeId}{u y:Value}{fp:List Nat}{fs:List AV}{out:FOut}(S:Nat->Prop)(us:Array Value)(rs:List ResultVar)
  (hlen:fs.length<=7) (ho:rr w u [y] fp T fs) (hlt:∀ b∈fp,b<w.heap.size)
  (hf:P.funcs[f]?=some fn) (hb:fn.body=some c) (hrs:fn.results.toList=rs) (hnt:us.size+1+(fn.ntmps-(us.size+1))=nt)
  (h:Wp P w fp nt ⟨[],[(0,u),(1,y)]⟩ c (Fin P rs (λW' bs' x h=>Qg w S fp T fs W' bs' x h out) (λc _=>∃ v,out=.pan c v)) (σB T fs us.toList)) :
  Calls P f (#[u]++us) w λe w' => AS w S u [y] fp T fs e w' out:=by
 subst hrs;have hsat:=UT (nt:=nt) (m:=fn.ntmps-(us.size+1)) us hlen ho hlt hnt;have hsz:(#[u]++us).size=us.size+1:=by simp;omega
 refine (n8 hf hb (by rw[hsz];exact hsat) h).mono λe w' he=>?_
 cases e with
 | returned v' =>
  obtain⟨W',bs',E,F,x,h',hx,hok,rfl,hs,hp⟩:=he;have hs' := hs.back hx;have hE:E 0=u:=hp (0,u) sI;have hE1:E 1=y:=hp (1,y) sI;have back:h' 0=some (.cells T [.hd 1])->aB h' [.hd 1]=some (fs,[1])->rr w' u [y] fp T fs/\∀ b∈fp,W'.heap.size<=b\/b∈bs' := λh0 hv=>by
   have ho' := Aq hs' h0 hv dE;have h1:∃ e,h' 1=some e:=(cp hs' hv).2 1 sI;obtain⟨e,he⟩:=h1;have hone:LE.hv (E 1)=E 1:=fz (bX (hs'.ent 1 e he));have hd:aj E [.hd 1]=[y]:=by
    rw[<- hE1];simp only[aj,den];rw[hone]
   rw[hE,hd]at ho';have hfp:[0,1].flatMap F=fp:=by
    obtain⟨b,g1,g2,g3,g4,g5⟩:=ho;obtain⟨b',k1,k2,k3,k4,k5⟩:=ho';rw[g1]at k1;cases k1;rw[k4,g4]
   rw[hfp]at ho';refine⟨ho',λb hb=>?_⟩;rw[<- hfp]at hb;obtain⟨j,hj,hbj⟩:=List.mem_flatMap.1 hb;simp only[List.mem_cons,List.not_mem_nil,or_false]at hj;rcases hj with rfl|rfl
   ·exact hs.mine 0 _ h0 b hbj
   ·exact hs.mine 1 _ he b hbj
  cases out with
  |val v=>
   obtain⟨hd,h0,hv⟩:=hok;exact⟨by rw[hd E],(back h0 hv).1,hs'.keeps⟩
  |fact sh Φ=>
   obtain⟨⟨cs,hd,hΦ⟩,h0,hv⟩:=hok;obtain⟨g1,g4⟩:=back h0 hv;exact⟨cs,by rw[hd E],g1,Φ.mono (λb hb hr=>⟨hs.keeps.block b hb hr.2,hr.1,λhf=>(g4 b hf).elim (λg=>absurd g (Nat.not_le.2 hb)) hr.2⟩) hΦ,hs'.keeps⟩
  |pan c v=>exact hok.elim
 |panicked c=>
  obtain⟨W',bs',E,F,h',hx,⟨_,rfl⟩,hs,hp⟩:=he;exact⟨rfl,(hs.back hx).keeps⟩
 |outgrown=>exact he.elim
section
variable (G:Nat->Prop)(W:World)(bs:List Nat)(h:Hp)(κ k:Nat)(T T' : TypeId)
theorem sD(kinds:List Kd)(pre:List AV->List AV->World->(Nat->Prop)->Prop)(out:List AV->List AV->FOut)(rest:List SV):ED G h κ T W bs kinds pre out (.own k 0::rest)=AW G h κ k T W bs pre out (mD G W bs h kinds rest) (h k):=rfl
theorem mT(pre:List AV->List AV->World->(Nat->Prop)->Prop)(out:List AV->List AV->FOut)(g:GVL)(vs:List SV):AW G h κ k T W bs pre out g (some (.cells T' vs))=AU G κ k T T' W bs pre out g (aB h vs):=rfl
theorem u7(pre:List AV->List AV->World->(Nat->Prop)->Prop)(out:List AV->List AV->FOut)(p:Prop)(as_ fs:List AV)(rs cs rs0:List Nat):AU G κ k T T' W bs pre out ⟨p,as_,rs,cs⟩ (some (fs,rs0))=q8 G κ k W bs (T' = T/\p/\pre fs as_ W (bE G bs)) rs0 rs cs (out fs as_):=rfl
theorem sF(q:Prop)(rs rs' cs:List Nat)(v:Value):q8 G κ k W bs q rs rs' cs (.val v)=⟨q/\(k::rs).Nodup/\(∀ j∈rs',j∉k::rs),.v v,[],none,[],k::(rs++rs')⟩:=rfl
theorem pb(q:Prop)(rs rs' cs:List Nat)(sh:Sh)(Φ:FK):q8 G κ k W bs q rs rs' cs (.fact sh Φ)=⟨q/\(k::rs).Nodup/\(∀ j∈rs',j∉k::rs)/\Up G W bs,sh.tm (8*κ+7),dK cs++[(8*κ+7,some (.obj [] (fX G W bs Φ)))],none,[],k::(rs++rs')⟩:=rfl
theorem sE(q:Prop)(rs rs' cs:List Nat)(c:List PanicEntry)(v:Value):q8 G κ k W bs q rs rs' cs (.pan c v)=⟨q/\(k::rs).Nodup/\(∀ j∈rs',j∉k::rs),.v v,[],some c,k::rs,k::(rs++rs')⟩:=rfl
end
end
end Go.LE
namespace Go.Proofs.YtnemkecffmdlnaaGreatDoor
section
open Go Go.RowKit Go.LE
set_option maxRecDepth 10000
abbrev Ab (W:World)(S:Nat->Prop)(vs:List Value)(v:En):Prop:=eR W S vs (v.map (·.2))
def rn(v:En):List ByteArray:=v.map (·.1)
def mkF(vs:List Value)(v:En):List AV:=[.mp (rn v) vs]
def GH(vs:List Value)(v:En):TE->FOut
 |.ok t=>.fact Sh.one (Z4 t)
 |.error (c,a)=>.pan (bb c a) .nilIface
theorem cU(vs:List Value)(v:En)(t:Tm):GH vs v (.ok t)=.fact Sh.one (Z4 t):=rfl
theorem aH(vs:List Value)(v:En)(c a:Int):GH vs v (.error (c,a))=.pan (bb c a) .nilIface:=rfl
def wI(v:En)(x:Ex):Prop:=∀ (vs:List Value) (e u uh:Value) (fp:List Nat) (w:World) (S:Nat->Prop),uV v/\Ab w S vs v->cr x/\Ac w S e x->bg w S->rr w u [uh] fp 132 (mkF vs v)->(∀ b∈fp,b<w.heap.size)->(∀ b∈fp,¬ S b) ->
 Calls Tryz.prog 65 (#[u]++#[e]) w λe' w' => AS w S u [uh] fp 132 (mkF vs v) e' w' (GH vs v (aQ v x))
def tW(v:En)(x:Ex)(h:wI v x)(vs:List Value):Ea Tryz.prog 65 where
 T:=132
 kinds:=[none]
 pre:=λfs bs_ W S=>(fs=mkF vs v/\∃ e,bs_=[.val e]/\Ac W S e x)/\(uV v/\Ab W S vs v)/\cr x/\bg W S
 premono:=λfs bs_ W S W' S' hs ⟨⟨h1,e,h2,h3⟩,⟨h4,h5⟩,h6,h7⟩=>⟨⟨h1,e,h2,h3.mono hs⟩,⟨h4,eR.mono hs h5⟩,h6,h7.mono hs⟩
 out:=λ_ _=>GH vs v (aQ v x)
 enters:=Tryz.call65
 ok:=by
  intro w S u xs fp us fs bs_ ho hlt hS hu hp;obtain⟨⟨rfl,e,rfl,h1⟩,h2,h3,h4⟩:=hp;obtain⟨uh,rfl⟩:=EM ho
  match us,hu with
  |[a],hu=>
   obtain⟨rfl,_⟩:=hu;have:=h vs a u uh fp w S h2 ⟨h3,h1⟩ h4 ho hlt hS;simpa using this
theorem rO(v:En)(x:Ex)(h:wI v x)(vs:List Value)(e:Value)(W:World)(S:Nat->Prop):(tW v x h vs).pre [.mp (rn v) vs] [.val e] W S=(Ac W S e x/\(uV v/\Ab W S vs v)/\cr x/\bg W S):=by
 apply propext;constructor
 ·rintro⟨⟨_,e',h1,h2⟩,h3⟩;cases h1;exact⟨h2,h3⟩
 ·rintro⟨h2,h3⟩;exact⟨⟨rfl,e,rfl,h2⟩,h3⟩
theorem vO(v:En)(x:Ex)(h:wI v x)(vs:List Value)(fs bs_:List AV):(tW v x h vs).out fs bs_=GH vs v (aQ v x):=rfl
theorem HE(v:En)(x:Ex)(h:wI v x)(vs:List Value):(tW v x h vs).T=132:=rfl
theorem pB(v:En)(x:Ex)(h:wI v x)(vs:List Value):(tW v x h vs).kinds=[none]:=rfl
theorem nQ.len{W:World}{S:Nat->Prop}:∀ {vs:List Value} {l:Ex},nQ W S false vs l->vs.length=mR l
 |[],l,h=>by
  cases h;rfl
 |v::vs,l,h=>by
  cases h with
  |cons _ _ x l h1 h2=>rw[List.length_cons,mR,nQ.len h2]
def Wj(v:En):Ex->Prop
 |.cons x l=>wI v x/\Wj v l
 |_=>True
def ahZ(ts:List Tm):Except (Int×Int) (List Tm)->Except (Int×Int) (List Tm)
 |.ok r=>.ok (ts++r)
 |.error e=>.error e
def qT(v:En)(a:Nat)(w:ByteArray)(l:Ex):TE:=match gX v l with
 |.error e=>.error e
 |.ok ts=>bp a w ts (cx l)
structure PC where
 W:World
 bs:List Nat
 us:List Value
 ts:List Tm
 l:Ex
 k:Nat
section
variable (G:Nat->Prop)(v:En)(x:Ex)(h:wI v x)(vs:List Value)(q:Ag)(i:Nat)
noncomputable def ajF:Env Tryz.prog:=⟨λ| 65=>some ((tW v x h vs).spec G)|_=>none,λ_=>none,λ_ _=>none⟩
theorem afx:(ajF G v x h vs).sp 65=some ((tW v x h vs).spec G):=rfl
noncomputable def fR:Env Tryz.prog:=⟨λ| 159=>some (FL q i).spec|160=>some (FM q i).spec|161=>some (Ak q i).spec|162=>some (FJ q i).spec|_=>none,λ_=>none,λ_ _=>none⟩
theorem abY:(fR q i).sp 159=some (FL q i).spec:=rfl
theorem abZ:(fR q i).sp 160=some (FM q i).spec:=rfl
theorem ab0:(fR q i).sp 161=some (Ak q i).spec:=rfl
theorem ab1:(fR q i).sp 162=some (FJ q i).spec:=rfl
end
theorem zI.one{W:World}{S:Nat->Prop}{v:Value}{c:Cn}(h:zI W S v c):v.oneCell' = true:=by cases h<;>rfl
theorem yy.one{W:World}{S:Nat->Prop}{v:Value}{c:Ln}(h:yy W S v c):v.oneCell' = true:=by cases h<;>rfl
theorem ox{q:Ag}{i:Nat}{n:Rx}(h:J6 q.ts (cx q.l) i=.ok n):tn q i=.ret (ax n) (zn q (i+1)):=by
 unfold tn;rw[h];rfl
theorem ow{q:Ag}{i:Nat}{c j:Int}(h:J6 q.ts (cx q.l) i=.error (c,j)):tn q i=.pan (bb c j) .nilIface:=by
 unfold tn;rw[h];rfl
theorem rN{q:Ag}{i:Nat}{n:ByteArray}(h:D5 q.ts (cx q.l) i=.ok n):ni q i=.ret (.string n) (zn q (i+1)):=by
 unfold ni;rw[h];rfl
theorem rM{q:Ag}{i:Nat}{c j:Int}(h:D5 q.ts (cx q.l) i=.error (c,j)):ni q i=.pan (bb c j) .nilIface:=by
 unfold ni;rw[h];rfl
theorem Eh{q:Ag}{i:Nat}{c j:Int}(h:Mr q.ts (cx q.l) i=.error (c,j)):jg q i=.pan (bb c j) .nilIface:=by
 unfold jg;rw[h];rfl
theorem Ba{q:Ag}{i:Nat}{c j:Int}(h:IM q.ts (cx q.l) i=.error (c,j)):mW q i=.pan (bb c j) .nilIface:=by
 unfold mW;rw[h];rfl
theorem Ei{W:World}{S:Nat->Prop}{q:Ag}{i:Nat}{c:Cn}(hq:q.ok W S)(h:Mr q.ts (cx q.l) i=.ok c):∃ p,jg q i=.ret p (zn q (i+1))/\zI W S p c:=by
 have h' := h;unfold Mr at h;split at h
 ·rename_i c' hi;cases h;have hl:i<q.us.length:=by
   have:=hq.2.1.2.len;have:=(List.getElem?_eq_some_iff.1 hi).1;omega
  obtain⟨v,t,g1,g2,g3⟩:=eR.get hq.2.1.2 hl;rw[hi]at g2;cases g2;obtain⟨p,rfl,hp⟩:=g3;refine⟨p,?_,hp⟩;unfold jg;rw[h',List.getD_eq_getElem?_getD,g1];rfl
 ·cases h
theorem Bb{W:World}{S:Nat->Prop}{q:Ag}{i:Nat}{c:Ln}(hq:q.ok W S)(h:IM q.ts (cx q.l) i=.ok c):∃ p,mW q i=.ret p (zn q (i+1))/\yy W S p c:=by
 have h' := h;unfold IM at h;split at h
 ·rename_i c' hi;cases h;have hl:i<q.us.length:=by
   have:=hq.2.1.2.len;have:=(List.getElem?_eq_some_iff.1 hi).1;omega
  obtain⟨v,t,g1,g2,g3⟩:=eR.get hq.2.1.2 hl;rw[hi]at g2;cases g2;obtain⟨p,rfl,hp⟩:=g3;refine⟨p,?_,hp⟩;unfold mW;rw[h',List.getD_eq_getElem?_getD,g1];rfl
 ·cases h
theorem eu{t:Tm}{W1:World}{bs1 fp:List Nat}{w:World}{S:Nat->Prop}{x:SV}{v:Value}{T:TypeId}{h:Hp}{fs' : List AV}(hd:∀ E,den E x=v)(hg:eQ W1 (bE (af w S fp) bs1) v t)
  (h0:h 0=some (.cells T [.hd 1])) (hv:aB h [.hd 1]=some (fs',[1])) (hn:([0,1]:List Nat).Nodup):Qg w S fp T fs' W1 bs1 x h (.fact Sh.one (Z4 t)):=
 ⟨⟨[v],λE=>(hd E).trans (sM hg.hv).symm,v,rfl,hg⟩,h0,hv⟩
def aU:=(ae @List.replicate_succ.{0} @List.replicate_zero.{0} @au @ab kH kI Ri (ae Rm RN kK c8 da db dc (ae dn dr dt du ew ez eA (ae eB eC eD jw jx jy jz (ae jA ny nz nA nB nC HI (ae HJ HK HL HM HN HO HP (ae HQ HR ib ic ie ig pM (ae pN pO pP pQ pR pS pT (ae pU pV pW pX pY pZ p4 (ae p5 p6 p7 p8 lX lY lZ (ae l6 l7 l8 l9 ma mb mc (ae me mf mg mh mi mj ml (ae mm mn PW PX PY PZ yh (ae yi yj yk yl ym yn yo (ae yp yq aaD aaE aaF aaG aaH (ae aaI aaJ aaK aaL aaM aaN aaO (ae aaP aaQ aaR aaS @gf @eP @aV (ae @aw @aD @aG @vg @sD @mT @u7 (ae @sF @pb @sE @cH @afx @abY @abZ (ae @ab0 @ab1 @rO @vO @HE @pB @cU (ae @aH @mkF.eq_1 @FL.eq_1 @FM.eq_1 @Ak.eq_1 @FJ.eq_1 @zn.eq_1 (IL @cf @vA @sw @eN @zW @bZ @j6))))))))))))))))))))))
theorem TU(v:En)(a:Nat)(wd:ByteArray)(l:Ex)(hML:Wj v l)(vs:List Value)(ea:Option Addr)(ec:Nat)(xs:List Value)(u uh:Value)(fp:List Nat)(w:World)(S:Nat->Prop)(hEn:uV v/\Ab w S vs v)
  (hx:cr (.call a wd l)) (hS1:jC w S ea xs) (hS2:xs.length<=ec) (hS3:nQ w S false xs l) (hEs:bg w S) (ho:rr w u [uh] fp 132 (mkF vs v)) (hlt:∀ b∈fp,b<w.heap.size) (hS:∀ b∈fp,¬ S b) :
  Calls Tryz.prog 105 (#[u]++#[.agg #[.int .i64 (a:Nat),.string wd,.slice ea xs.length ec]]) w λe' w' => AS w S u [uh] fp 132 (mkF vs v) e' w' (GH vs v (qT v a wd l)):=by
 have u0:=af.up w S fp;have hse:=af.eO w S fp hS;simp only[cr]at hx;obtain⟨hx1,hx2,hx3,hx4,hx5⟩:=hx;have hxl:xs.length<=3:=by
  have:=ahc wd;have:=hS3.len;omega
 refine e9 (nt:=135) S #[.agg #[.int .i64 (a:Nat),.string wd,.slice ea xs.length ec]] [.tmp 4] (by show 1<=7;omega) ho hlt Tryz.func105 rfl rfl rfl ?_;refine vR Γ0 aU ?_;refine vR Γ0 aU ?_;refine Wp.seq ?_;refine vR Γ0 aU ?_;refine Wp.block ?_;generalize hR:gX v l=R
 refine Wp.qv (λp:PC=>⟨30,dZ [(0,.is (.own 0 0)),(3,.is (.own 4 0)),(4,.is (.v .nilIface)),(5,.is (.own 5 0)),(14,.is (.v (.slice ea xs.length ec))),(15,.is (.v (.int .i64 (xs.length:Nat)))),(16,.is (.v (.int .i64 (p.k:Nat))))],dM [(0,.cells 132 [.hd 1]),(1,.mp (rn v) (vs.map .v)),(4,.cells 219 [.v (.int .i64 (a:Nat)),.v (.string wd),.v (.slice ea xs.length ec)]),(5,.cells 293 [.v (.int .i64 (a:Nat)),.v (.string wd),.v (.slice ea xs.length ec),.hd 6,.v (.int .i64 0)]),(6,.row 54 1 p.us.length (p.us.map .v))]⟩)
  PC.W PC.bs (λp=>(bg p.W (bE (af w S fp) p.bs)/\Ab p.W (bE (af w S fp) p.bs) vs v/\jC p.W (bE (af w S fp) p.bs) ea xs)/\(nQ p.W (bE (af w S fp) p.bs) false xs l/\nQ p.W (bE (af w S fp) p.bs) false (xs.drop p.k) p.l/\cr p.l/\Wj v p.l)/\(eR p.W (bE (af w S fp) p.bs) p.us p.ts/\p.us.length=p.k/\p.k<=xs.length)/\ahZ p.ts (gX v p.l)=R) (λp=>xs.length-p.k) ⟨w,fp,[],[],l,0⟩ rfl rfl ?_ ⟨⟨hEs.mono hse,eR.mono hse hEn.2,hS1.mono hse⟩,⟨hS3.mono hse,hS3.mono hse,hx5,hML⟩,⟨trivial,rfl,Nat.zero_le _⟩,by rw[hR];cases R<;>rfl⟩ ?_
 ·exact wM (λk=>if k=4 then .key 8 else if k=5 then .key 40 else if k=6 then .nil else .key k) (aa aU @Int.natCast_zero)
 rintro⟨W1,bs1,us,ts,l1,k⟩ ⟨⟨e1,n1,s1⟩,⟨g0,g1,g2,g3⟩,⟨m1,m2,m3⟩,hR1⟩ hx1;simp only at e1 n1 s1 g0 g1 g2 g3 m1 m2 m3 hR1 hx1;dsimp only;have u1:=u0.ext hx1;refine vR Γ0 aU ?_;refine Wp.seq ?_;refine wC aU (λhc=>?_) (λhc=>?_)
 ·have hk1:k<xs.length:=by
   simp at hc;omega
  clear hc;have wk:IntKind.i64.wrap ((k:Int)+1)=((k+1:Nat):Int):=wW;obtain⟨y,hy⟩:∃ y,xs[k]?=some y:=⟨_,List.getElem?_eq_getElem hk1⟩;have hdr:xs.drop k=y::xs.drop (k+1):=by
   rw[List.drop_eq_getElem_cons hk1];rw[List.getElem?_eq_getElem hk1]at hy;rw[Option.some.inj hy]
  rw[hdr]at g1;obtain⟨b,o,rfl,hb,hcy⟩:=jC.cell s1 hy;cases g1 with
  |cons _ _ x l2 gx gl=>
  simp only[cr]at g2;obtain⟨gx2,gl2⟩:=g2;obtain⟨gx3,gl3⟩:=g3;rw[gX]at hR1;refine wK ?_;refine Wp.seq (Wp.block ?_);refine wR Γ0 (aa aU hcy) ?_ ?_
  ·exact⟨⟨oM,oM⟩,hb.2⟩
  cases hF:aQ v x with
  | error e=>
   obtain⟨c,j⟩:=e;rw[hF]at hR1;have hE:qT v a wd l=.error (c,j):=by
    unfold qT;rw[hR,<- hR1];rfl
   rw[hE,aH];refine Wp.qx (ajF (af w S fp) v x gx3 vs) aM (ev (br aU hF gx.parts)) rfl (by kernel_rfl) ?_ ?_
   ·exact⟨⟨⟨gx,⟨hEn.1,n1⟩,gx2,e1⟩,dE,λ_ h=>h.elim⟩,by unfold maxLen;omega,oM⟩
   refine qq ?_;exact⟨_,rfl⟩
  | ok t=>
   rw[hF]at hR1;refine Wp.more ?_;refine IN (ajF (af w S fp) v x gx3 vs) (br aU hF gx.parts) ?_ ?_
   ·exact⟨⟨⟨gx,⟨hEn.1,n1⟩,gx2,e1⟩,dE,(λ_ h=>h.elim),u1⟩,by unfold maxLen;omega,oM⟩
   refine dd ?_;refine Pw.cV 335 (ev aU) (aX.refl _ _) λW3 bs3 cs hx3 hΦ3=>?_
   obtain⟨v3,rfl,hg3,hv3⟩:=Cc hΦ3;refine Pw.here ?_;refine qq ?_;refine vr Γ0 (aa aU wk) ?_;have em:List.map SV.v us++[.v v3]=List.map SV.v (us++[v3]):=by simp
   have el:(us++[v3]).length=us.length+1:=by simp
   refine⟨⟨W3,bs3,us++[v3],ts++[t],l2,k+1⟩,⟨⟨e1.mono hx3.dN,eR.mono hx3.dN n1,s1.mono hx3.dN⟩,⟨g0.mono hx3.dN,gl.mono hx3.dN,gl2,gl3⟩,⟨eR.snoc hg3 (eR.mono hx3.dN m1),by dsimp only;omega,by dsimp only;omega⟩,?_⟩,by dsimp only;omega,rfl,rfl,?_⟩
   ·rw[<- hR1];cases gX v l2 with
    |error e=>rfl
    |ok r=>simp[ahZ]
   exact wM (λk=>if k=6 then .key 344 else .key k) (fP aU hv3 em el)
 ·have hkN:k=xs.length:=by
   simp at hc;omega
  refine wE ?_;subst hkN;rw[List.drop_length]at g1;cases g1;have hR2:gX v l=.ok ts:=by
   rw[hR,<- hR1];simp[gX,ahZ]
  have hE:qT v a wd l=bp a wd ts (cx l):=by
   unfold qT;rw[hR2]
  rw[hE];obtain⟨hts,htl⟩:=JZ hEn.1 hx5 hR2;refine Wp.zk 6 (ev (aa aU @aS)) (λE=>by simp only[aj,den,aS];exact rfl) λW2 bs2 ao2 c2 hx2 hs2 hd2=>?_
  have u2:=u1.ext hx2;have hS4:jC W2 (bE (af w S fp) bs2) ao2 us:=hs2.out λb hb=>⟨u1 b hb.2,hb.1⟩
  have hq:(Ag.mk a wd ea ec xs l ao2 c2 us ts).ok W2 (bE (af w S fp) bs2):=⟨⟨s1.mono hx2.dN,g0.mono hx2.dN⟩,⟨hS4,eR.mono hx2.dN m1⟩,⟨by dsimp only;omega,by dsimp only;omega,hd2,by dsimp only;omega⟩,hts⟩;obtain⟨Q,hQ⟩:∃ Q,Q=Ag.mk a wd ea ec xs l ao2 c2 us ts:=⟨_,rfl⟩
  have hqo:(Ag.mk a wd ea ec xs l ao2 c2 us ts).ok W2 (Out bs2):=hq.mono λb _ hb=>⟨rfl,hb.2⟩
  have hul:us.length=(qH wd).toNat:=by
   have:=g0.len;omega
  clear hQ Q;refine vR Γ0 aU ?_;refine Wp.seq ?_;refine vR Γ0 aU ?_;refine Wp.block ?_;refine Wp.seq (Wp.block ?_);refine Wp.seq (Wp.block ?_);refine Wp.seq (Wp.block ?_);refine Wp.seq (Wp.block ?_);refine Wp.seq (Wp.block ?_);refine Wp.seq (Wp.block ?_);refine Wp.seq (Wp.block ?_)
  refine Wp.seq (Wp.block ?_);refine Wp.seq ?_;refine Wp.seq ?_;refine Wp.seq ?_;refine vR Γ0 aU ?_;refine wC aU (λhc=>?_) (λhc=>?_)
  ·have hcT:=hc;have ho:wd=QA:=qJ hc;have ho1:wd=QA\/wd=qs:=.inl ho;refine wK ?_;refine wC aU (λhc=>?_) (λhc=>?_)
   rotate_left
   ·rw[hcT]at hc;cases hc
   refine wE ?_;refine Wp.seq ?_;have hul:us.length=1:=by rw[hul,ho];decide
   cases hN0:J6 ts (cx l) 0 with
   | error e=>
    obtain⟨c,j⟩:=e;have hE2:bp a wd ts (cx l)=.error (c,j):=by
     rw[bp,if_pos ho1];simp only[b9,hN0]
    rw[hE2,aH];have hO:=ow (q:=⟨a,wd,ea,ec,xs,l,ao2,c2,us,ts⟩) hN0;refine Wp.Hx (fR ⟨a,wd,ea,ec,xs,l,ao2,c2,us,ts⟩ 0) aM (ev (br aU hO @Int.natCast_zero)) rfl (by kernel_rfl) ?_ ?_
    ·exact⟨⟨hqo,by show 0<us.length;omega⟩,dE,λ_ h=>h.elim⟩
    refine qq ?_;exact⟨_,rfl⟩
   | ok n0=>
    have hO:=ox (q:=⟨a,wd,ea,ec,xs,l,ao2,c2,us,ts⟩) hN0;refine ko (fR ⟨a,wd,ea,ec,xs,l,ao2,c2,us,ts⟩ 0) (br aU hO @Int.natCast_zero) ?_ ?_
    ·have hside:(Ag.ok ⟨a,wd,ea,ec,xs,l,ao2,c2,us,ts⟩) W2 (Out bs2)/\0<us.length:=⟨hqo,oM⟩
     first|exact⟨hside,dE,λ_ h=>h.elim⟩|exact⟨⟨hside,dE,λ_ h=>h.elim⟩,aL n0⟩
    clear hO;have hE2:bp a wd ts (cx l)=.ok (.canon (.mk a wd (some n0) ⟨#[]⟩ ⟨#[]⟩ .nil .nil)):=by
     rw[bp,if_pos ho1];simp only[b9,hN0]
    rw[hE2,cU];refine Wp.cR 392 (ev aU) (λE=>by simp only[aj,den];exact rfl) λW3 bs3 b3 hx3 hb3 hn3 hc3=>?_
    refine wZ aU ?_;have hb:bE (af w S fp) bs3 b3:=⟨u2 b3 hn3,hb3⟩
    exact eu (λE=>rfl) ⟨_,rfl,T0 (n:=some n0) hb hc3 .nil .nil⟩ rfl (by simp only[iC,Op.operands,Value.cells,σ0,σB,Nat.reduceEqDiff,Nat.reduceAdd,Nat.reduceMul,Nat.reduceLT,Nat.reduceLeDiff,Nat.reduceBEq,av,Int.reduceToNat,Int.reduceLT,Int.reduceLE,Nat.reduceDiv,Nat.reduceMod,Nat.reduceSub,Int.reducePow,Nat.reducePow,σP,σB3,aU,aq,eN,cI,cf]<;>rfl) dE
  have na0:¬ wd=QA:=qI hc;refine vr Γ0 aU ?_;refine wC aU (λhc=>?_) (λhc=>?_)
  ·have ho:wd=qs:=qJ hc;have ho1:wd=QA\/wd=qs:=.inr ho;refine wE ?_;refine Wp.seq ?_;have hul:us.length=1:=by rw[hul,ho];decide
   cases hN0:J6 ts (cx l) 0 with
   | error e=>
    obtain⟨c,j⟩:=e;have hE2:bp a wd ts (cx l)=.error (c,j):=by
     rw[bp,if_pos ho1];simp only[b9,hN0]
    rw[hE2,aH];have hO:=ow (q:=⟨a,wd,ea,ec,xs,l,ao2,c2,us,ts⟩) hN0;refine Wp.Hx (fR ⟨a,wd,ea,ec,xs,l,ao2,c2,us,ts⟩ 0) aM (ev (br aU hO @Int.natCast_zero)) rfl (by kernel_rfl) ?_ ?_
    ·exact⟨⟨hqo,by show 0<us.length;omega⟩,dE,λ_ h=>h.elim⟩
    refine qq ?_;exact⟨_,rfl⟩
   | ok n0=>
    have hO:=ox (q:=⟨a,wd,ea,ec,xs,l,ao2,c2,us,ts⟩) hN0;refine ko (fR ⟨a,wd,ea,ec,xs,l,ao2,c2,us,ts⟩ 0) (br aU hO @Int.natCast_zero) ?_ ?_
    ·have hside:(Ag.ok ⟨a,wd,ea,ec,xs,l,ao2,c2,us,ts⟩) W2 (Out bs2)/\0<us.length:=⟨hqo,oM⟩
     first|exact⟨hside,dE,λ_ h=>h.elim⟩|exact⟨⟨hside,dE,λ_ h=>h.elim⟩,aL n0⟩
    clear hO;have hE2:bp a wd ts (cx l)=.ok (.canon (.mk a wd (some n0) ⟨#[]⟩ ⟨#[]⟩ .nil .nil)):=by
     rw[bp,if_pos ho1];simp only[b9,hN0]
    rw[hE2,cU];refine Wp.cR 408 (ev aU) (λE=>by simp only[aj,den];exact rfl) λW3 bs3 b3 hx3 hb3 hn3 hc3=>?_
    refine wZ aU ?_;have hb:bE (af w S fp) bs3 b3:=⟨u2 b3 hn3,hb3⟩
    exact eu (λE=>rfl) ⟨_,rfl,T0 (n:=some n0) hb hc3 .nil .nil⟩ rfl (by simp only[iC,Op.operands,Value.cells,σ0,σB,Nat.reduceEqDiff,Nat.reduceAdd,Nat.reduceMul,Nat.reduceLT,Nat.reduceLeDiff,Nat.reduceBEq,av,Int.reduceToNat,Int.reduceLT,Int.reduceLE,Nat.reduceDiv,Nat.reduceMod,Nat.reduceSub,Int.reducePow,Nat.reducePow,σP,σB3,aU,aq,eN,cI,cf]<;>rfl) dE
  have nw1:¬ (wd=QA\/wd=qs):=λh=>h.elim na0 (qI hc)
  refine wK ?_;refine Wp.seq ?_;refine vR Γ0 aU ?_;refine wC aU (λhc=>?_) (λhc=>?_)
  ·have ho:wd=jo:=qJ hc;refine wE ?_;refine Wp.seq ?_;have hul:us.length=3:=by rw[hul,ho];decide
   cases hN0:J6 ts (cx l) 0 with
   | error e=>
    obtain⟨c,j⟩:=e;have hE2:bp a wd ts (cx l)=.error (c,j):=by
     rw[bp,if_neg nw1,if_pos ho];simp only[b9,hN0]
    rw[hE2,aH];have hO:=ow (q:=⟨a,wd,ea,ec,xs,l,ao2,c2,us,ts⟩) hN0;refine Wp.Hx (fR ⟨a,wd,ea,ec,xs,l,ao2,c2,us,ts⟩ 0) aM (ev (br aU hO @Int.natCast_zero)) rfl (by kernel_rfl) ?_ ?_
    ·exact⟨⟨hqo,by show 0<us.length;omega⟩,dE,λ_ h=>h.elim⟩
    refine qq ?_;exact⟨_,rfl⟩
   | ok n0=>
    have hO:=ox (q:=⟨a,wd,ea,ec,xs,l,ao2,c2,us,ts⟩) hN0;refine ko (fR ⟨a,wd,ea,ec,xs,l,ao2,c2,us,ts⟩ 0) (br aU hO @Int.natCast_zero) ?_ ?_
    ·have hside:(Ag.ok ⟨a,wd,ea,ec,xs,l,ao2,c2,us,ts⟩) W2 (Out bs2)/\0<us.length:=⟨hqo,oM⟩
     first|exact⟨hside,dE,λ_ h=>h.elim⟩|exact⟨⟨hside,dE,λ_ h=>h.elim⟩,aL n0⟩
    clear hO;cases hN1:D5 ts (cx l) 1 with
    | error e=>
     obtain⟨c,j⟩:=e;have hE2:bp a wd ts (cx l)=.error (c,j):=by
      rw[bp,if_neg nw1,if_pos ho];simp only[b9,hN0,hN1]
     rw[hE2,aH];have hO:=rM (q:=⟨a,wd,ea,ec,xs,l,ao2,c2,us,ts⟩) hN1;refine Wp.bm (fR ⟨a,wd,ea,ec,xs,l,ao2,c2,us,ts⟩ 1) aM (ev (br aU hO @Int.natCast_zero)) ?_ ?_
     ·exact⟨⟨hqo,by show 1<us.length;omega⟩,dE,λ_ h=>h.elim⟩
     refine qq ?_;exact⟨_,rfl⟩
    | ok n1=>
     have hO:=rN (q:=⟨a,wd,ea,ec,xs,l,ao2,c2,us,ts⟩) hN1;refine wR (fR ⟨a,wd,ea,ec,xs,l,ao2,c2,us,ts⟩ 1) (br aU hO @Int.natCast_zero) ?_ ?_
     ·have hside:(Ag.ok ⟨a,wd,ea,ec,xs,l,ao2,c2,us,ts⟩) W2 (Out bs2)/\1<us.length:=⟨hqo,oM⟩
      first|exact⟨hside,dE,λ_ h=>h.elim⟩|exact⟨⟨hside,dE,λ_ h=>h.elim⟩,rfl⟩
     clear hO;cases hN2:D5 ts (cx l) 2 with
     | error e=>
      obtain⟨c,j⟩:=e;have hE2:bp a wd ts (cx l)=.error (c,j):=by
       rw[bp,if_neg nw1,if_pos ho];simp only[b9,hN0,hN1,hN2]
      rw[hE2,aH];have hO:=rM (q:=⟨a,wd,ea,ec,xs,l,ao2,c2,us,ts⟩) hN2;refine Wp.bm (fR ⟨a,wd,ea,ec,xs,l,ao2,c2,us,ts⟩ 2) aM (ev (br aU hO @Int.natCast_zero)) ?_ ?_
      ·exact⟨⟨hqo,by show 2<us.length;omega⟩,dE,λ_ h=>h.elim⟩
      refine qq ?_;exact⟨_,rfl⟩
     | ok n2=>
      have hO:=rN (q:=⟨a,wd,ea,ec,xs,l,ao2,c2,us,ts⟩) hN2;refine wR (fR ⟨a,wd,ea,ec,xs,l,ao2,c2,us,ts⟩ 2) (br aU hO @Int.natCast_zero) ?_ ?_
      ·have hside:(Ag.ok ⟨a,wd,ea,ec,xs,l,ao2,c2,us,ts⟩) W2 (Out bs2)/\2<us.length:=⟨hqo,oM⟩
       first|exact⟨hside,dE,λ_ h=>h.elim⟩|exact⟨⟨hside,dE,λ_ h=>h.elim⟩,rfl⟩
      clear hO;have hE2:bp a wd ts (cx l)=.ok (.canon (.mk a wd (some n0) n1 n2 .nil .nil)):=by
       rw[bp,if_neg nw1,if_pos ho];simp only[b9,hN0,hN1,hN2]
      rw[hE2,cU];refine vR Γ0 aU ?_;refine Wp.cR 424 (ev aU) (λE=>by simp only[aj,den];exact rfl) λW3 bs3 b3 hx3 hb3 hn3 hc3=>?_
      refine wZ aU ?_;have hb:bE (af w S fp) bs3 b3:=⟨u2 b3 hn3,hb3⟩
      exact eu (λE=>rfl) ⟨_,rfl,T0 (n:=some n0) hb hc3 .nil .nil⟩ rfl (by simp only[iC,Op.operands,Value.cells,σ0,σB,Nat.reduceEqDiff,Nat.reduceAdd,Nat.reduceMul,Nat.reduceLT,Nat.reduceLeDiff,Nat.reduceBEq,av,Int.reduceToNat,Int.reduceLT,Int.reduceLE,Nat.reduceDiv,Nat.reduceMod,Nat.reduceSub,Int.reducePow,Nat.reducePow,σP,σB3,aU,aq,eN,cI,cf]<;>rfl) dE
  have nw2:¬ wd=jo:=qI hc;refine wK ?_;refine Wp.seq ?_;refine vR Γ0 aU ?_;refine wC aU (λhc=>?_) (λhc=>?_)
  ·have ho:wd=F5:=qJ hc;refine wE ?_;have hul:us.length=2:=by rw[hul,ho];decide
   cases hN0:J6 ts (cx l) 0 with
   | error e=>
    obtain⟨c,j⟩:=e;have hE2:bp a wd ts (cx l)=.error (c,j):=by
     rw[bp,if_neg nw1,if_neg nw2,if_pos ho];simp only[b9,hN0]
    rw[hE2,aH];have hO:=ow (q:=⟨a,wd,ea,ec,xs,l,ao2,c2,us,ts⟩) hN0;refine Wp.dz (fR ⟨a,wd,ea,ec,xs,l,ao2,c2,us,ts⟩ 0) aM (ev (br aU hO @Int.natCast_zero)) ?_ ?_
    ·exact⟨⟨hqo,by show 0<us.length;omega⟩,dE,λ_ h=>h.elim⟩
    refine qq ?_;exact⟨_,rfl⟩
   | ok n0=>
    have hO:=ox (q:=⟨a,wd,ea,ec,xs,l,ao2,c2,us,ts⟩) hN0;refine wr (fR ⟨a,wd,ea,ec,xs,l,ao2,c2,us,ts⟩ 0) (br aU hO @Int.natCast_zero) ?_ ?_
    ·have hside:(Ag.ok ⟨a,wd,ea,ec,xs,l,ao2,c2,us,ts⟩) W2 (Out bs2)/\0<us.length:=⟨hqo,oM⟩
     first|exact⟨hside,dE,λ_ h=>h.elim⟩|exact⟨⟨hside,dE,λ_ h=>h.elim⟩,aL n0⟩
    clear hO;cases hN1:D5 ts (cx l) 1 with
    | error e=>
     obtain⟨c,j⟩:=e;have hE2:bp a wd ts (cx l)=.error (c,j):=by
      rw[bp,if_neg nw1,if_neg nw2,if_pos ho];simp only[b9,hN0,hN1]
     rw[hE2,aH];have hO:=rM (q:=⟨a,wd,ea,ec,xs,l,ao2,c2,us,ts⟩) hN1;refine Wp.bm (fR ⟨a,wd,ea,ec,xs,l,ao2,c2,us,ts⟩ 1) aM (ev (br aU hO @Int.natCast_zero)) ?_ ?_
     ·exact⟨⟨hqo,by show 1<us.length;omega⟩,dE,λ_ h=>h.elim⟩
     refine qq ?_;exact⟨_,rfl⟩
    | ok n1=>
     have hO:=rN (q:=⟨a,wd,ea,ec,xs,l,ao2,c2,us,ts⟩) hN1;refine wR (fR ⟨a,wd,ea,ec,xs,l,ao2,c2,us,ts⟩ 1) (br aU hO @Int.natCast_zero) ?_ ?_
     ·have hside:(Ag.ok ⟨a,wd,ea,ec,xs,l,ao2,c2,us,ts⟩) W2 (Out bs2)/\1<us.length:=⟨hqo,oM⟩
      first|exact⟨hside,dE,λ_ h=>h.elim⟩|exact⟨⟨hside,dE,λ_ h=>h.elim⟩,rfl⟩
     refine wE ?_;clear hO;have hE2:bp a wd ts (cx l)=.ok (.lens (.mk a wd (some n0) n1 .nil .nil .nil)):=by
      rw[bp,if_neg nw1,if_neg nw2,if_pos ho];simp only[b9,hN0,hN1]
     rw[hE2,cU];refine vR Γ0 aU ?_;refine Wp.cR 288 (ev aU) (λE=>by simp only[aj,den];exact rfl) λW3 bs3 b3 hx3 hb3 hn3 hc3=>?_
     refine wZ aU ?_;have hb:bE (af w S fp) bs3 b3:=⟨u2 b3 hn3,hb3⟩
     exact eu (λE=>rfl) ⟨_,rfl,rm (n:=some n0) hb hc3 .nil .nil .nil⟩ rfl (by simp only[iC,Op.operands,Value.cells,σ0,σB,Nat.reduceEqDiff,Nat.reduceAdd,Nat.reduceMul,Nat.reduceLT,Nat.reduceLeDiff,Nat.reduceBEq,av,Int.reduceToNat,Int.reduceLT,Int.reduceLE,Nat.reduceDiv,Nat.reduceMod,Nat.reduceSub,Int.reducePow,Nat.reducePow,σP,σB3,aU,aq,eN,cI,cf]<;>rfl) dE
  have nw3:¬ wd=F5:=qI hc;refine wK ?_;refine Wp.seq ?_;refine vR Γ0 aU ?_;refine wC aU (λhc=>?_) (λhc=>?_)
  ·have ho:wd=lK:=qJ hc;refine wE ?_;have hul:us.length=1:=by rw[hul,ho];decide
   cases hN0:D5 ts (cx l) 0 with
   | error e=>
    obtain⟨c,j⟩:=e;have hE2:bp a wd ts (cx l)=.error (c,j):=by
     rw[bp,if_neg nw1,if_neg nw2,if_neg nw3,if_pos ho];simp only[b9,hN0]
    rw[hE2,aH];have hO:=rM (q:=⟨a,wd,ea,ec,xs,l,ao2,c2,us,ts⟩) hN0;refine Wp.bm (fR ⟨a,wd,ea,ec,xs,l,ao2,c2,us,ts⟩ 0) aM (ev (br aU hO @Int.natCast_zero)) ?_ ?_
    ·exact⟨⟨hqo,by show 0<us.length;omega⟩,dE,λ_ h=>h.elim⟩
    refine qq ?_;exact⟨_,rfl⟩
   | ok n0=>
    have hO:=rN (q:=⟨a,wd,ea,ec,xs,l,ao2,c2,us,ts⟩) hN0;refine wR (fR ⟨a,wd,ea,ec,xs,l,ao2,c2,us,ts⟩ 0) (br aU hO @Int.natCast_zero) ?_ ?_
    ·have hside:(Ag.ok ⟨a,wd,ea,ec,xs,l,ao2,c2,us,ts⟩) W2 (Out bs2)/\0<us.length:=⟨hqo,oM⟩
     first|exact⟨hside,dE,λ_ h=>h.elim⟩|exact⟨⟨hside,dE,λ_ h=>h.elim⟩,rfl⟩
    refine wE ?_;clear hO;have hE2:bp a wd ts (cx l)=.ok (.lens (.mk a wd none n0 .nil .nil .nil)):=by
     rw[bp,if_neg nw1,if_neg nw2,if_neg nw3,if_pos ho];simp only[b9,hN0]
    rw[hE2,cU];refine vR Γ0 aU ?_;refine Wp.cR 288 (ev aU) (λE=>by simp only[aj,den];exact rfl) λW3 bs3 b3 hx3 hb3 hn3 hc3=>?_
    refine wZ aU ?_;have hb:bE (af w S fp) bs3 b3:=⟨u2 b3 hn3,hb3⟩
    exact eu (λE=>rfl) ⟨_,rfl,rm (n:=none) hb hc3 .nil .nil .nil⟩ rfl (by simp only[iC,Op.operands,Value.cells,σ0,σB,Nat.reduceEqDiff,Nat.reduceAdd,Nat.reduceMul,Nat.reduceLT,Nat.reduceLeDiff,Nat.reduceBEq,av,Int.reduceToNat,Int.reduceLT,Int.reduceLE,Nat.reduceDiv,Nat.reduceMod,Nat.reduceSub,Int.reducePow,Nat.reducePow,σP,σB3,aU,aq,eN,cI,cf]<;>rfl) dE
  have nw4:¬ wd=lK:=qI hc;refine wK ?_;refine Wp.seq ?_;refine Wp.seq ?_;refine vR Γ0 aU ?_;refine wC aU (λhc=>?_) (λhc=>?_)
  ·have hcT:=hc;have ho:wd=jh:=qJ hc;have ho1:wd=jh\/wd=zu:=.inl ho;refine wK ?_;refine wC aU (λhc=>?_) (λhc=>?_)
   rotate_left
   ·rw[hcT]at hc;cases hc
   refine wE ?_;have hul:us.length=1:=by rw[hul,ho];decide
   cases hN0:J6 ts (cx l) 0 with
   | error e=>
    obtain⟨c,j⟩:=e;have hE2:bp a wd ts (cx l)=.error (c,j):=by
     rw[bp,if_neg nw1,if_neg nw2,if_neg nw3,if_neg nw4,if_pos ho1];simp only[b9,hN0]
    rw[hE2,aH];have hO:=ow (q:=⟨a,wd,ea,ec,xs,l,ao2,c2,us,ts⟩) hN0;refine Wp.bm (fR ⟨a,wd,ea,ec,xs,l,ao2,c2,us,ts⟩ 0) aM (ev (br aU hO @Int.natCast_zero)) ?_ ?_
    ·exact⟨⟨hqo,by show 0<us.length;omega⟩,dE,λ_ h=>h.elim⟩
    refine qq ?_;exact⟨_,rfl⟩
   | ok n0=>
    have hO:=ox (q:=⟨a,wd,ea,ec,xs,l,ao2,c2,us,ts⟩) hN0;refine wR (fR ⟨a,wd,ea,ec,xs,l,ao2,c2,us,ts⟩ 0) (br aU hO @Int.natCast_zero) ?_ ?_
    ·have hside:(Ag.ok ⟨a,wd,ea,ec,xs,l,ao2,c2,us,ts⟩) W2 (Out bs2)/\0<us.length:=⟨hqo,oM⟩
     first|exact⟨hside,dE,λ_ h=>h.elim⟩|exact⟨⟨hside,dE,λ_ h=>h.elim⟩,aL n0⟩
    refine wE ?_;clear hO;have hE2:bp a wd ts (cx l)=.ok (.lens (.mk a wd (some n0) ⟨#[]⟩ .nil .nil .nil)):=by
     rw[bp,if_neg nw1,if_neg nw2,if_neg nw3,if_neg nw4,if_pos ho1];simp only[b9,hN0]
    rw[hE2,cU];refine vR Γ0 aU ?_;refine Wp.cR 288 (ev aU) (λE=>by simp only[aj,den];exact rfl) λW3 bs3 b3 hx3 hb3 hn3 hc3=>?_
    refine wZ aU ?_;have hb:bE (af w S fp) bs3 b3:=⟨u2 b3 hn3,hb3⟩
    exact eu (λE=>rfl) ⟨_,rfl,rm (n:=some n0) hb hc3 .nil .nil .nil⟩ rfl (by simp only[iC,Op.operands,Value.cells,σ0,σB,Nat.reduceEqDiff,Nat.reduceAdd,Nat.reduceMul,Nat.reduceLT,Nat.reduceLeDiff,Nat.reduceBEq,av,Int.reduceToNat,Int.reduceLT,Int.reduceLE,Nat.reduceDiv,Nat.reduceMod,Nat.reduceSub,Int.reducePow,Nat.reducePow,σP,σB3,aU,aq,eN,cI,cf]<;>rfl) dE
  have na4:¬ wd=jh:=qI hc;refine vr Γ0 aU ?_;refine wC aU (λhc=>?_) (λhc=>?_)
  ·have ho:wd=zu:=qJ hc;have ho1:wd=jh\/wd=zu:=.inr ho;refine wE ?_;have hul:us.length=1:=by rw[hul,ho];decide
   cases hN0:J6 ts (cx l) 0 with
   | error e=>
    obtain⟨c,j⟩:=e;have hE2:bp a wd ts (cx l)=.error (c,j):=by
     rw[bp,if_neg nw1,if_neg nw2,if_neg nw3,if_neg nw4,if_pos ho1];simp only[b9,hN0]
    rw[hE2,aH];have hO:=ow (q:=⟨a,wd,ea,ec,xs,l,ao2,c2,us,ts⟩) hN0;refine Wp.bm (fR ⟨a,wd,ea,ec,xs,l,ao2,c2,us,ts⟩ 0) aM (ev (br aU hO @Int.natCast_zero)) ?_ ?_
    ·exact⟨⟨hqo,by show 0<us.length;omega⟩,dE,λ_ h=>h.elim⟩
    refine qq ?_;exact⟨_,rfl⟩
   | ok n0=>
    have hO:=ox (q:=⟨a,wd,ea,ec,xs,l,ao2,c2,us,ts⟩) hN0;refine wR (fR ⟨a,wd,ea,ec,xs,l,ao2,c2,us,ts⟩ 0) (br aU hO @Int.natCast_zero) ?_ ?_
    ·have hside:(Ag.ok ⟨a,wd,ea,ec,xs,l,ao2,c2,us,ts⟩) W2 (Out bs2)/\0<us.length:=⟨hqo,oM⟩
     first|exact⟨hside,dE,λ_ h=>h.elim⟩|exact⟨⟨hside,dE,λ_ h=>h.elim⟩,aL n0⟩
    refine wE ?_;clear hO;have hE2:bp a wd ts (cx l)=.ok (.lens (.mk a wd (some n0) ⟨#[]⟩ .nil .nil .nil)):=by
     rw[bp,if_neg nw1,if_neg nw2,if_neg nw3,if_neg nw4,if_pos ho1];simp only[b9,hN0]
    rw[hE2,cU];refine vR Γ0 aU ?_;refine Wp.cR 288 (ev aU) (λE=>by simp only[aj,den];exact rfl) λW3 bs3 b3 hx3 hb3 hn3 hc3=>?_
    refine wZ aU ?_;have hb:bE (af w S fp) bs3 b3:=⟨u2 b3 hn3,hb3⟩
    exact eu (λE=>rfl) ⟨_,rfl,rm (n:=some n0) hb hc3 .nil .nil .nil⟩ rfl (by simp only[iC,Op.operands,Value.cells,σ0,σB,Nat.reduceEqDiff,Nat.reduceAdd,Nat.reduceMul,Nat.reduceLT,Nat.reduceLeDiff,Nat.reduceBEq,av,Int.reduceToNat,Int.reduceLT,Int.reduceLE,Nat.reduceDiv,Nat.reduceMod,Nat.reduceSub,Int.reducePow,Nat.reducePow,σP,σB3,aU,aq,eN,cI,cf]<;>rfl) dE
  have nw5:¬ (wd=jh\/wd=zu):=λh=>h.elim na4 (qI hc)
  refine wK ?_;refine Wp.seq ?_;refine vR Γ0 aU ?_;refine wC aU (λhc=>?_) (λhc=>?_)
  ·have ho:wd=vf:=qJ hc;refine wE ?_;refine Wp.seq ?_;have hul:us.length=2:=by rw[hul,ho];decide
   cases hN0:Mr ts (cx l) 0 with
   | error e=>
    obtain⟨c,j⟩:=e;have hE2:bp a wd ts (cx l)=.error (c,j):=by
     rw[bp,if_neg nw1,if_neg nw2,if_neg nw3,if_neg nw4,if_neg nw5,if_pos ho];simp only[b9,hN0]
    rw[hE2,aH];have hO:=Eh (q:=⟨a,wd,ea,ec,xs,l,ao2,c2,us,ts⟩) hN0;refine Wp.bm (fR ⟨a,wd,ea,ec,xs,l,ao2,c2,us,ts⟩ 0) aM (ev (br aU hO @Int.natCast_zero)) ?_ ?_
    ·exact⟨⟨hqo,by show 0<us.length;omega⟩,dE,λ_ h=>h.elim⟩
    refine qq ?_;exact⟨_,rfl⟩
   | ok n0=>
    obtain⟨p0,hO,hP0⟩:=Ei (q:=⟨a,wd,ea,ec,xs,l,ao2,c2,us,ts⟩) hq hN0;refine wR (fR ⟨a,wd,ea,ec,xs,l,ao2,c2,us,ts⟩ 0) (fP aU hO hP0.parts @Int.natCast_zero) ?_ ?_
    ·have hside:(Ag.ok ⟨a,wd,ea,ec,xs,l,ao2,c2,us,ts⟩) W2 (Out bs2)/\0<us.length:=⟨hqo,oM⟩
     first|exact⟨hside,dE,λ_ h=>h.elim⟩|exact⟨⟨hside,dE,λ_ h=>h.elim⟩,hP0.one⟩
    clear hO;cases hN1:IM ts (cx l) 1 with
    | error e=>
     obtain⟨c,j⟩:=e;have hE2:bp a wd ts (cx l)=.error (c,j):=by
      rw[bp,if_neg nw1,if_neg nw2,if_neg nw3,if_neg nw4,if_neg nw5,if_pos ho];simp only[b9,hN0,hN1]
     rw[hE2,aH];have hO:=Ba (q:=⟨a,wd,ea,ec,xs,l,ao2,c2,us,ts⟩) hN1;refine Wp.dz (fR ⟨a,wd,ea,ec,xs,l,ao2,c2,us,ts⟩ 1) aM (ev (br aU hO @Int.natCast_zero)) ?_ ?_
     ·exact⟨⟨hqo,by show 1<us.length;omega⟩,dE,λ_ h=>h.elim⟩
     refine qq ?_;exact⟨_,rfl⟩
    | ok n1=>
     obtain⟨p1,hO,hP1⟩:=Bb (q:=⟨a,wd,ea,ec,xs,l,ao2,c2,us,ts⟩) hq hN1;refine wr (fR ⟨a,wd,ea,ec,xs,l,ao2,c2,us,ts⟩ 1) (fP aU hO hP1.parts @Int.natCast_zero) ?_ ?_
     ·have hside:(Ag.ok ⟨a,wd,ea,ec,xs,l,ao2,c2,us,ts⟩) W2 (Out bs2)/\1<us.length:=⟨hqo,oM⟩
      first|exact⟨hside,dE,λ_ h=>h.elim⟩|exact⟨⟨hside,dE,λ_ h=>h.elim⟩,hP1.one⟩
     refine wE ?_;clear hO;have hE2:bp a wd ts (cx l)=.ok (.lens (.mk a wd none ⟨#[]⟩ n0 n1 .nil)):=by
      rw[bp,if_neg nw1,if_neg nw2,if_neg nw3,if_neg nw4,if_neg nw5,if_pos ho];simp only[b9,hN0,hN1]
     rw[hE2,cU];refine vR Γ0 aU ?_;refine Wp.cR 288 (ev aU) (λE=>by simp only[aj,den];exact rfl) λW3 bs3 b3 hx3 hb3 hn3 hc3=>?_
     refine wZ aU ?_;have hb:bE (af w S fp) bs3 b3:=⟨u2 b3 hn3,hb3⟩
     exact eu (λE=>rfl) ⟨_,rfl,rm (n:=none) hb hc3 (hP0.mono hx3.dN) (hP1.mono hx3.dN) .nil⟩ rfl (by simp only[iC,Op.operands,Value.cells,σ0,σB,Nat.reduceEqDiff,Nat.reduceAdd,Nat.reduceMul,Nat.reduceLT,Nat.reduceLeDiff,Nat.reduceBEq,av,Int.reduceToNat,Int.reduceLT,Int.reduceLE,Nat.reduceDiv,Nat.reduceMod,Nat.reduceSub,Int.reducePow,Nat.reducePow,σP,σB3,aU,aq,eN,cI,cf]<;>rfl) dE
  have nw6:¬ wd=vf:=qI hc;refine wK ?_;refine Wp.seq ?_;refine vR Γ0 aU ?_;refine wC aU (λhc=>?_) (λhc=>?_)
  ·have ho:wd=pq:=qJ hc;refine wE ?_;refine Wp.seq ?_;have hul:us.length=2:=by rw[hul,ho];decide
   cases hN0:IM ts (cx l) 0 with
   | error e=>
    obtain⟨c,j⟩:=e;have hE2:bp a wd ts (cx l)=.error (c,j):=by
     rw[bp,if_neg nw1,if_neg nw2,if_neg nw3,if_neg nw4,if_neg nw5,if_neg nw6,if_pos ho];simp only[b9,hN0]
    rw[hE2,aH];have hO:=Ba (q:=⟨a,wd,ea,ec,xs,l,ao2,c2,us,ts⟩) hN0;refine Wp.bm (fR ⟨a,wd,ea,ec,xs,l,ao2,c2,us,ts⟩ 0) aM (ev (br aU hO @Int.natCast_zero)) ?_ ?_
    ·exact⟨⟨hqo,by show 0<us.length;omega⟩,dE,λ_ h=>h.elim⟩
    refine qq ?_;exact⟨_,rfl⟩
   | ok n0=>
    obtain⟨p0,hO,hP0⟩:=Bb (q:=⟨a,wd,ea,ec,xs,l,ao2,c2,us,ts⟩) hq hN0;refine wR (fR ⟨a,wd,ea,ec,xs,l,ao2,c2,us,ts⟩ 0) (fP aU hO hP0.parts @Int.natCast_zero) ?_ ?_
    ·have hside:(Ag.ok ⟨a,wd,ea,ec,xs,l,ao2,c2,us,ts⟩) W2 (Out bs2)/\0<us.length:=⟨hqo,oM⟩
     first|exact⟨hside,dE,λ_ h=>h.elim⟩|exact⟨⟨hside,dE,λ_ h=>h.elim⟩,hP0.one⟩
    clear hO;cases hN1:Mr ts (cx l) 1 with
    | error e=>
     obtain⟨c,j⟩:=e;have hE2:bp a wd ts (cx l)=.error (c,j):=by
      rw[bp,if_neg nw1,if_neg nw2,if_neg nw3,if_neg nw4,if_neg nw5,if_neg nw6,if_pos ho];simp only[b9,hN0,hN1]
     rw[hE2,aH];have hO:=Eh (q:=⟨a,wd,ea,ec,xs,l,ao2,c2,us,ts⟩) hN1;refine Wp.dz (fR ⟨a,wd,ea,ec,xs,l,ao2,c2,us,ts⟩ 1) aM (ev (br aU hO @Int.natCast_zero)) ?_ ?_
     ·exact⟨⟨hqo,by show 1<us.length;omega⟩,dE,λ_ h=>h.elim⟩
     refine qq ?_;exact⟨_,rfl⟩
    | ok n1=>
     obtain⟨p1,hO,hP1⟩:=Ei (q:=⟨a,wd,ea,ec,xs,l,ao2,c2,us,ts⟩) hq hN1;refine wr (fR ⟨a,wd,ea,ec,xs,l,ao2,c2,us,ts⟩ 1) (fP aU hO hP1.parts @Int.natCast_zero) ?_ ?_
     ·have hside:(Ag.ok ⟨a,wd,ea,ec,xs,l,ao2,c2,us,ts⟩) W2 (Out bs2)/\1<us.length:=⟨hqo,oM⟩
      first|exact⟨hside,dE,λ_ h=>h.elim⟩|exact⟨⟨hside,dE,λ_ h=>h.elim⟩,hP1.one⟩
     refine wE ?_;clear hO;have hE2:bp a wd ts (cx l)=.ok (.lens (.mk a wd none ⟨#[]⟩ n1 n0 .nil)):=by
      rw[bp,if_neg nw1,if_neg nw2,if_neg nw3,if_neg nw4,if_neg nw5,if_neg nw6,if_pos ho];simp only[b9,hN0,hN1]
     rw[hE2,cU];refine vR Γ0 aU ?_;refine Wp.cR 288 (ev aU) (λE=>by simp only[aj,den];exact rfl) λW3 bs3 b3 hx3 hb3 hn3 hc3=>?_
     refine wZ aU ?_;have hb:bE (af w S fp) bs3 b3:=⟨u2 b3 hn3,hb3⟩
     exact eu (λE=>rfl) ⟨_,rfl,rm (n:=none) hb hc3 (hP1.mono hx3.dN) (hP0.mono hx3.dN) .nil⟩ rfl (by simp only[iC,Op.operands,Value.cells,σ0,σB,Nat.reduceEqDiff,Nat.reduceAdd,Nat.reduceMul,Nat.reduceLT,Nat.reduceLeDiff,Nat.reduceBEq,av,Int.reduceToNat,Int.reduceLT,Int.reduceLE,Nat.reduceDiv,Nat.reduceMod,Nat.reduceSub,Int.reducePow,Nat.reducePow,σP,σB3,aU,aq,eN,cI,cf]<;>rfl) dE
  have nw7:¬ wd=pq:=qI hc;refine wK ?_;refine vR Γ0 aU ?_;refine wC aU (λhc=>?_) (λhc=>?_)
  ·have ho:wd=uU:=qJ hc;refine wE ?_;refine Wp.seq ?_;have hul:us.length=2:=by rw[hul,ho];decide
   cases hN0:IM ts (cx l) 0 with
   | error e=>
    obtain⟨c,j⟩:=e;have hE2:bp a wd ts (cx l)=.error (c,j):=by
     rw[bp,if_neg nw1,if_neg nw2,if_neg nw3,if_neg nw4,if_neg nw5,if_neg nw6,if_neg nw7,if_pos ho];simp only[b9,hN0]
    rw[hE2,aH];have hO:=Ba (q:=⟨a,wd,ea,ec,xs,l,ao2,c2,us,ts⟩) hN0;refine Wp.bm (fR ⟨a,wd,ea,ec,xs,l,ao2,c2,us,ts⟩ 0) aM (ev (br aU hO @Int.natCast_zero)) ?_ ?_
    ·exact⟨⟨hqo,by show 0<us.length;omega⟩,dE,λ_ h=>h.elim⟩
    refine qq ?_;exact⟨_,rfl⟩
   | ok n0=>
    obtain⟨p0,hO,hP0⟩:=Bb (q:=⟨a,wd,ea,ec,xs,l,ao2,c2,us,ts⟩) hq hN0;refine wR (fR ⟨a,wd,ea,ec,xs,l,ao2,c2,us,ts⟩ 0) (fP aU hO hP0.parts @Int.natCast_zero) ?_ ?_
    ·have hside:(Ag.ok ⟨a,wd,ea,ec,xs,l,ao2,c2,us,ts⟩) W2 (Out bs2)/\0<us.length:=⟨hqo,oM⟩
     first|exact⟨hside,dE,λ_ h=>h.elim⟩|exact⟨⟨hside,dE,λ_ h=>h.elim⟩,hP0.one⟩
    clear hO;cases hN1:D5 ts (cx l) 1 with
    | error e=>
     obtain⟨c,j⟩:=e;have hE2:bp a wd ts (cx l)=.error (c,j):=by
      rw[bp,if_neg nw1,if_neg nw2,if_neg nw3,if_neg nw4,if_neg nw5,if_neg nw6,if_neg nw7,if_pos ho];simp only[b9,hN0,hN1]
     rw[hE2,aH];have hO:=rM (q:=⟨a,wd,ea,ec,xs,l,ao2,c2,us,ts⟩) hN1;refine Wp.dz (fR ⟨a,wd,ea,ec,xs,l,ao2,c2,us,ts⟩ 1) aM (ev (br aU hO @Int.natCast_zero)) ?_ ?_
     ·exact⟨⟨hqo,by show 1<us.length;omega⟩,dE,λ_ h=>h.elim⟩
     refine qq ?_;exact⟨_,rfl⟩
    | ok n1=>
     have hO:=rN (q:=⟨a,wd,ea,ec,xs,l,ao2,c2,us,ts⟩) hN1;refine wr (fR ⟨a,wd,ea,ec,xs,l,ao2,c2,us,ts⟩ 1) (br aU hO @Int.natCast_zero) ?_ ?_
     ·have hside:(Ag.ok ⟨a,wd,ea,ec,xs,l,ao2,c2,us,ts⟩) W2 (Out bs2)/\1<us.length:=⟨hqo,oM⟩
      first|exact⟨hside,dE,λ_ h=>h.elim⟩|exact⟨⟨hside,dE,λ_ h=>h.elim⟩,rfl⟩
     refine wE ?_;clear hO;have hE2:bp a wd ts (cx l)=.ok (.lens (.mk a wd none n1 .nil n0 .nil)):=by
      rw[bp,if_neg nw1,if_neg nw2,if_neg nw3,if_neg nw4,if_neg nw5,if_neg nw6,if_neg nw7,if_pos ho];simp only[b9,hN0,hN1]
     rw[hE2,cU];refine vR Γ0 aU ?_;refine Wp.cR 288 (ev aU) (λE=>by simp only[aj,den];exact rfl) λW3 bs3 b3 hx3 hb3 hn3 hc3=>?_
     refine wZ aU ?_;have hb:bE (af w S fp) bs3 b3:=⟨u2 b3 hn3,hb3⟩
     exact eu (λE=>rfl) ⟨_,rfl,rm (n:=none) hb hc3 .nil (hP0.mono hx3.dN) .nil⟩ rfl (by simp only[iC,Op.operands,Value.cells,σ0,σB,Nat.reduceEqDiff,Nat.reduceAdd,Nat.reduceMul,Nat.reduceLT,Nat.reduceLeDiff,Nat.reduceBEq,av,Int.reduceToNat,Int.reduceLT,Int.reduceLE,Nat.reduceDiv,Nat.reduceMod,Nat.reduceSub,Int.reducePow,Nat.reducePow,σP,σB3,aU,aq,eN,cI,cf]<;>rfl) dE
  have nw8:¬ wd=uU:=qI hc;refine wK ?_;exfalso;rcases Qk hx3 with (((h|h)|h)|h|h)|((h|h)|h|h)|h
  ·exact nw5 (.inl h)
  ·exact nw5 (.inr h)
  ·exact nw4 h
  ·exact nw1 (.inl h)
  ·exact nw1 (.inr h)
  ·exact nw3 h
  ·exact nw6 h
  ·exact nw7 h
  ·exact nw8 h
  ·exact nw2 h
section
variable (t:Tm)
noncomputable def ak0:Env Tryz.prog:=⟨λ| 58=>some (E3 (dT t+1) (B2 _)).spec|_=>none,λ_=>none,λ_ _=>none⟩
theorem afE:(ak0 t).sp 58=some (E3 (dT t+1) (B2 _)).spec:=rfl
end
def acI:=(ae @List.replicate_succ.{0} @List.replicate_zero.{0} @au @ab kH kI kK (ae c8 da db dc dn dr dt (ae du ew ez eA eB eC eD (ae oL oN oO oP um uo uq (ae ur uu uv uw ux uy uz (ae jw jx jy jz jA ny nz (ae nA nB nC HI HJ HK HL (ae HM PQ PS PT HN HO HP (ae HQ HR PU PV ib ic ie (ae ig ahB ahC pD pE pF pG (ae pH pI pJ pK pL nD nE (ae nF nG nH nI nJ nL nM (ae lX lY lZ l6 l7 l8 l9 (ae ma mb mc me mf mg mh (ae mi mj ml mm mn HW HX (ae HY HZ H0 H2 H3 H4 H5 (ae H6 H7 H8 H9 Ia Ib Ic (ae Ie Ig Ih Ii Ij Ik Il (ae Im Io Ip Iq Ir Is It (ae Iu Iv Iw Ix Iy Iz IA (ae IB Ct Cu Cv Cw Cx Cy (ae Cz CA CB CC CD CE CF (ae CG CH CI CJ CK CL CM (ae CN yh yi yj yk yl ym (ae yn yo yp yq @aV @aw @aD (fP @aG @afE @E4 @E5))))))))))))))))))))))))))
theorem Ph(t:Tm)(v:Value)(w:World)(hv:eQ w (Out []) v t)(hs:cj t<=fw):Calls Tryz.prog 24 #[v] w λe w' => e=.returned (.int .i64 (cj t))/\an w [] w' := by
 have hD:qL w v=t:=cg hv;refine ai (nt:=5) [.tmp 2] Tryz.func24 rfl rfl rfl ?_;refine vR Γ0 acI ?_;refine wR (ak0 t) (aa acI hD) ?_ ?_
 ·exact⟨t,hv,Nat.lt_succ_self _,hs⟩
 refine wZ acI ?_;exact λE=>rfl
noncomputable def nf:aY Tryz.prog 24 where
 pre:=λW bs as_=>∃ v t,as_=[.val v]/\eQ W (Out bs) v t/\cj t<=fw
 res:=λW as_=>match as_ with
  |[.val v]=>.int .i64 (cj (qL W v))
  |_=>undef
 enters:=Tryz.call24
 ok:=by
  intro W w bs us as_ hk hu hp;obtain⟨v,t,rfl,h1,h2⟩:=hp
  match us,hu with
  |[x],hu=>
   obtain⟨rfl,_⟩:=hu;simp only[cg h1];exact Ph t x w (h1.mono λb hb hn=>⟨hk.block b hb hn,by simp[Out]⟩) h2
theorem ng(W:World)(bs:List Nat)(v:Value):nf.pre W bs [.val v]=∃ t,eQ W (Out bs) v t/\cj t<=fw:=by
 apply propext;constructor
 ·rintro⟨v',t,h1,h2⟩;cases h1;exact⟨t,h2⟩
 ·exact λ⟨t,h2⟩=>⟨v,t,rfl,h2⟩
theorem nh(W:World)(v:Value):nf.res W [.val v]=.int .i64 (cj (qL W v)):=rfl
def Dh(a:Nat)(op:ByteArray)(ea:Value)(t:Tm):kS Tryz.prog 103 where
 kinds:=[none,some (Sh.one,Z4 t)]
 pre:=λas_ _ _=>(∃ y,as_=[.val (.agg #[.int .i64 (a:Nat),.string op,ea]),y])/\ea.oneCell' = true/\Vg t
 premono:=λ_ _ _ _ _ _ h=>h
 out:=λ_=>Ko (Fx a op t)
 enters:=Tryz.call103
 ok:=by
  intro w S us as_ hu hp;obtain⟨⟨y,rfl⟩,h1,h2⟩:=hp
  match us,hu with
  |[p,q],hu=>
   obtain⟨rfl,⟨cs,rfl,hΦ⟩,_⟩:=hu;obtain⟨v,rfl,hv⟩:=hΦ;rw[sM hv.hv];exact VN a op ea t v w S h1 hv h2
theorem Di(a:Nat)(op:ByteArray)(ea:Value)(t:Tm)(l:List AV):(Dh a op ea t).out l=Ko (Fx a op t):=rfl
theorem wx(a:Nat)(op:ByteArray)(ea:Value)(t:Tm):(Dh a op ea t).kinds=[none,some (Sh.one,Z4 t)]:=rfl
theorem Dj(a:Nat)(op:ByteArray)(ea:Value)(t:Tm)(y:AV)(W:World)(S:Nat->Prop):(Dh a op ea t).pre [.val (.agg #[.int .i64 (a:Nat),.string op,ea]),y] W S=(ea.oneCell' = true/\Vg t):=by
 apply propext;exact⟨λh=>h.2,λh=>⟨⟨y,rfl⟩,h⟩⟩
def uN(a:Nat)(op:ByteArray)(ea eb:Value)(t u:Tm)(v:Value):kS Tryz.prog 104 where
 kinds:=[none,none,some (Sh.one,Z4 u)]
 pre:=λas_ W S=>(∃ y,as_=[.val (.agg #[.int .i64 (a:Nat),.string op,ea,eb]),.val v,y])/\(ea.oneCell' = true/\eb.oneCell' = true)/\eQ W S v t/\Vg t/\Vg u
 premono:=λ_ _ _ _ _ hs h=>⟨h.1,h.2.1,h.2.2.1.mono hs,h.2.2.2⟩
 out:=λ_=>Ko (WE a op t u)
 enters:=Tryz.call104
 ok:=by
  intro w S us as_ hu hp;obtain⟨⟨y,rfl⟩,⟨h1,h2⟩,h3,h4,h5⟩:=hp
  match us,hu with
  |[p,q,r],hu=>
   obtain⟨rfl,rfl,⟨cs,rfl,hΦ⟩,_⟩:=hu;obtain⟨v',rfl,hv'⟩:=hΦ;rw[sM hv'.hv];exact ML a op ea eb t u q v' w S h1 h2 h3 h4 hv' h5
theorem yF(a:Nat)(op:ByteArray)(ea eb:Value)(t u:Tm)(v:Value)(l:List AV):(uN a op ea eb t u v).out l=Ko (WE a op t u):=rfl
theorem td(a:Nat)(op:ByteArray)(ea eb:Value)(t u:Tm)(v:Value):(uN a op ea eb t u v).kinds=[none,none,some (Sh.one,Z4 u)]:=rfl
theorem yG(a:Nat)(op:ByteArray)(ea eb:Value)(t u:Tm)(v:Value)(y:AV)(W:World)(S:Nat->Prop):(uN a op ea eb t u v).pre [.val (.agg #[.int .i64 (a:Nat),.string op,ea,eb]),.val v,y] W S=((ea.oneCell' = true/\eb.oneCell' = true)/\eQ W S v t/\Vg t/\Vg u):=by
 apply propext;exact⟨λh=>h.2,λh=>⟨⟨y,rfl⟩,h⟩⟩
def xG(v:En)(a:Nat)(wd:ByteArray)(l:Ex)(h:Wj v l)(vs:List Value)(ea:Option Addr)(ec:Nat)(xs:List Value):Ea Tryz.prog 105 where
 T:=132
 kinds:=[none]
 pre:=λfs bs_ W S=>(fs=mkF vs v/\bs_=[.val (.agg #[.int .i64 (a:Nat),.string wd,.slice ea xs.length ec])])/\(uV v/\Ab W S vs v)/\(cr (.call a wd l)/\xs.length<=ec)/\jC W S ea xs/\nQ W S false xs l/\bg W S
 premono:=λfs bs_ W S W' S' hs ⟨h1,⟨h2,h3⟩,h4,h5,h6,h7⟩=>⟨h1,⟨h2,eR.mono hs h3⟩,h4,h5.mono hs,h6.mono hs,h7.mono hs⟩
 out:=λ_ _=>GH vs v (qT v a wd l)
 enters:=Tryz.call105
 ok:=by
  intro w S u ys fp us fs bs_ ho hlt hS hu hp;obtain⟨⟨rfl,rfl⟩,h2,⟨h3,h4⟩,h5,h6,h7⟩:=hp;obtain⟨uh,rfl⟩:=EM ho
  match us,hu with
  |[x],hu=>
   obtain⟨rfl,_⟩:=hu;have:=TU v a wd l h vs ea ec xs u uh fp w S h2 h3 h5 h4 h6 h7 ho hlt hS;simpa using this
theorem Bh(v:En)(a:Nat)(wd:ByteArray)(l:Ex)(h:Wj v l)(vs:List Value)(ea:Option Addr)(ec:Nat)(xs:List Value)(fs bs_:List AV):(xG v a wd l h vs ea ec xs).out fs bs_=GH vs v (qT v a wd l):=rfl
theorem J2(v:En)(a:Nat)(wd:ByteArray)(l:Ex)(h:Wj v l)(vs:List Value)(ea:Option Addr)(ec:Nat)(xs:List Value):(xG v a wd l h vs ea ec xs).T=132:=rfl
theorem vm(v:En)(a:Nat)(wd:ByteArray)(l:Ex)(h:Wj v l)(vs:List Value)(ea:Option Addr)(ec:Nat)(xs:List Value):(xG v a wd l h vs ea ec xs).kinds=[none]:=rfl
theorem Bi(v:En)(a:Nat)(wd:ByteArray)(l:Ex)(h:Wj v l)(vs:List Value)(ea:Option Addr)(ec:Nat)(xs:List Value)(W:World)(S:Nat->Prop):(xG v a wd l h vs ea ec xs).pre [.mp (rn v) vs] [.val (.agg #[.int .i64 (a:Nat),.string wd,.slice ea xs.length ec])] W S=((uV v/\Ab W S vs v)/\(cr (.call a wd l)/\xs.length<=ec)/\jC W S ea xs/\nQ W S false xs l/\bg W S):=by
 apply propext;exact⟨λh=>h.2,λh=>⟨⟨rfl,rfl⟩,h⟩⟩
def Sh.con(v:Value):Sh:=⟨λ_=>.v v,λ_ _=>rfl,λk j hj=>by simp[SV.keys]at hj⟩
def Sh.mU(T:TypeId):Sh:=⟨λk=>.mU T (.part k 0),λ_ _=>rfl,λk j hj=>by simpa [SV.keys] using hj⟩
def alU:Tm->Sh
 |.text a s=>Sh.con (.iface 190 (.agg #[.int .i64 (a:Nat),.string s]))
 |.rx a r=>Sh.con (.iface 192 (.agg #[.int .i64 (a:Nat),ax r]))
 |.canon _=>Sh.mU 193
 |.lens _=>Sh.mU 197
def tmG(t:Tm):FK:=⟨λcs W S=>match t with
  |.text _ _=>cs=[]
  |.rx _ _=>cs=[]
  |.canon c=>∃ p,cs=[p]/\zI W S p c
  |.lens l=>∃ p,cs=[p]/\yy W S p l,λ{cs W S W' S'} hs h=>by
 cases t with
 |text _ _=>exact h
 |rx _ _=>exact h
 |canon c=>obtain⟨p,h1,h2⟩:=h;exact⟨p,h1,h2.mono hs⟩
 |lens l=>obtain⟨p,h1,h2⟩:=h;exact⟨p,h1,h2.mono hs⟩⟩
def y8(vs:List Value)(v:En):TE->FOut
 |.ok t=>.fact (alU t) (tmG t)
 |.error (c,a)=>.pan (bb c a) .nilIface
theorem Bs(vs:List Value)(v:En)(a:Nat)(s:ByteArray):y8 vs v (.ok (.text a s))=.fact (Sh.con (.iface 190 (.agg #[.int .i64 (a:Nat),.string s]))) (tmG (.text a s)):=rfl
theorem Kk(vs:List Value)(v:En)(a:Nat)(r:Rx):y8 vs v (.ok (.rx a r))=.fact (Sh.con (.iface 192 (.agg #[.int .i64 (a:Nat),ax r]))) (tmG (.rx a r)):=rfl
theorem y9(vs:List Value)(v:En)(c:Cn):y8 vs v (.ok (.canon c))=.fact (Sh.mU 193) (tmG (.canon c)):=rfl
theorem Br(vs:List Value)(v:En)(l:Ln):y8 vs v (.ok (.lens l))=.fact (Sh.mU 197) (tmG (.lens l)):=rfl
theorem za(vs:List Value)(v:En)(c a:Int):y8 vs v (.error (c,a))=.pan (bb c a) .nilIface:=rfl
theorem K9(v:Value)(k:Nat):(Sh.con v).tm k=.v v:=rfl
theorem La(T:TypeId)(k:Nat):(Sh.mU T).tm k=.mU T (.part k 0):=rfl
theorem zI.hv{W:World}{S:Nat->Prop}{v:Value}{c:Cn}(h:zI W S v c):LE.hv v=v:=fz h.one
theorem yy.hv{W:World}{S:Nat->Prop}{v:Value}{c:Ln}(h:yy W S v c):LE.hv v=v:=fz h.one
theorem ade{w:World}{S:Nat->Prop}{u:Value}{us:List Value}{fp:List Nat}{T:TypeId}{fs:List AV}{e:Ending}{w' : World}{vs:List Value}{v:En}{r:TE}(h:AS w S u us fp T fs e w' (GH vs v r)):AS w S u us fp T fs e w' (y8 vs v r):=by
 cases r with
 |error e=>exact h
 | ok t=>
  obtain⟨cs,h1,h2,h5,h6⟩:=h;obtain⟨x,rfl,hx⟩:=h5;rw[sM hx.hv]at h1;cases t with
  |text a s=>exact⟨[],by rw[h1,show x=_ from hx];rfl,h2,rfl,h6⟩
  |rx a s=>exact⟨[],by rw[h1,show x=_ from hx];rfl,h2,rfl,h6⟩
  |canon c=>
   obtain⟨p,rfl,hp⟩:=hx;refine⟨[p],?_,h2,⟨p,rfl,hp⟩,h6⟩;rw[h1];show _=Ending.returned (.iface 193 (LE.hv p));rw[hp.hv]
  |lens c=>
   obtain⟨p,rfl,hp⟩:=hx;refine⟨[p],?_,h2,⟨p,rfl,hp⟩,h6⟩;rw[h1];show _=Ending.returned (.iface 197 (LE.hv p));rw[hp.hv]
def TZ(v:En)(x:Ex)(h:wI v x)(vs:List Value):Ea Tryz.prog 65 where
 T:=132
 kinds:=[none]
 pre:=λfs bs_ W S=>(tW v x h vs).pre fs bs_ W S
 premono:=λfs bs_ W S W' S' hs=>(tW v x h vs).premono fs bs_ W S W' S' hs
 out:=λ_ _=>y8 vs v (aQ v x)
 enters:=Tryz.call65
 ok:=λw S u ys fp us fs bs_ ho hlt hS hu hp=>((tW v x h vs).ok w S u ys fp us fs bs_ ho hlt hS hu hp).mono λe w' h=>ade h
theorem J4(v:En)(x:Ex)(h:wI v x)(vs:List Value)(fs bs_:List AV):(TZ v x h vs).out fs bs_=y8 vs v (aQ v x):=rfl
theorem Yr(v:En)(x:Ex)(h:wI v x)(vs:List Value):(TZ v x h vs).T=132:=rfl
theorem Bm(v:En)(x:Ex)(h:wI v x)(vs:List Value):(TZ v x h vs).kinds=[none]:=rfl
theorem J5(v:En)(x:Ex)(h:wI v x)(vs:List Value)(e:Value)(W:World)(S:Nat->Prop):(TZ v x h vs).pre [.mp (rn v) vs] [.val e] W S=(Ac W S e x/\(uV v/\Ab W S vs v)/\cr x/\bg W S):=rO v x h vs e W S
theorem B9(s:ByteArray):∀ k,bP (qB s k)=max 1 (2*k-1)
 |0=>rfl
 |1=>rfl
 |k+2=>by
  have ih:=B9 s (k+1);show bP (qB s (k+1))+1+1=_;omega
theorem uI{t:Tm}{n:Rx}(h:w4 t=some n):bP n<=cj t:=by
 cases t with
 |text a s=>
  cases h;have:=B9 s s.size;show bP (qB s s.size)<=mF s;unfold mF;omega
 |rx a r=>
  cases h;exact Nat.le_refl _
 |canon c=>cases h
 |lens l=>cases h
theorem aeQ{a:Nat}{op:ByteArray}{t u:Tm}(hs:cj t<=8192)(h:Fx a op t=.ok u):cj u<=fw:=by
 have c1:dY .nil=0:=rfl;have l1:ia .nil=0:=rfl;have e1:¬ gn=jo:=by decide
 have e2:¬ gn=lK:=by decide
 have e3:¬ w9=lK:=by decide
 have e4:¬ wV=lK:=by decide
 have e5:¬ jh=lK:=by decide
 unfold Fx at h;split at h
 ·rename_i n hn;cases h;have:=uI hn;simp only[cj]
  repeat' split
  all_goals simp only[bP,fw]
  all_goals omega
 split at h
 ·split at h
  ·cases h;rename_i c _ _;have:dY c<=8192:=hs;simp only[cj,dY,dX,if_neg e1,fw];omega
  ·cases h
 ·cases h;rename_i l _;have:ia l<=8192:=hs;simp only[cj]
  repeat' split
  all_goals simp only[ia,dY,dX,if_neg e2,if_neg e3,if_neg e4,if_neg e5,bP,fw]
  all_goals omega
 ·cases h
theorem aiX(n:Nat):¬ Uf n=jo/\¬ Uf n=lK:=by
 unfold Uf;split<;>decide
theorem Jb{a:Nat}{op:ByteArray}{t u r:Tm}(hs:cj t<=8192)(hs' : cj u<=8192)(h:qQ a op t u=.ok r):cj r<=fw:=by
 obtain⟨o1,o2⟩:=aiX (GF op);unfold qQ at h;split at h
 ·split at h
  ·cases h;rename_i p q _;have h1:ia p<=8192:=hs;have h2:ia q<=8192:=hs';simp only[cj,ia,dY,dX,if_neg o2,fw];omega
  ·cases h
 ·split at h
  ·cases h;rename_i p q _;have h1:dY p<=8192:=hs;have h2:dY q<=8192:=hs';simp only[cj,dY,dX,if_neg o1,fw];omega
  ·cases h
 ·cases h
theorem acN{a:Nat}{op:ByteArray}{t u r:Tm}(hs:cj t<=8192)(hs' : cj u<=8192)(h:WE a op t u=.ok r):cj r<=fw:=by
 unfold WE at h;split at h
 ·rename_i x y hx hy;have h1:=uI hx;have h2:=uI hy;split at h
  ·rename_i q hq;cases h;unfold US at hq
   repeat' split at hq
   all_goals first|(cases hq;done)|(cases hq;simp only[cj,bP,fw];omega)
  ·exact Jb hs hs' h
 ·exact Jb hs hs' h
theorem X1{a:Nat}{t u:Tm}(hs:cj t<=8192)(h:Gm a t=.ok u):cj u<=fw:=by
 have e1:¬ iD=lK:=by decide
 cases t with
 |lens l=>
  cases h;have:ia l<=8192:=hs;simp only[cj,ia,dY,dX,if_neg e1,fw];omega
 |_=>cases h
theorem Sx{a:Nat}{w:ByteArray}{ts:List Tm}{ps:List Nat}{u:Tm}(hts:∀ t∈ts,Wd t)(h:bp a w ts ps=.ok u):cj u<=fw:=by
 have nd:∀ {i n},J6 ts ps i=.ok n->bP n<=8192:=λ{i n} h=>by
  unfold J6 at h;split at h
  ·rename_i r hr;cases h;cases hi:ts[i]? with
   |none=>rw[hi]at hr;cases hr
   |some t=>
    rw[hi]at hr;have h1:=uI hr;have h2:=(hts t (List.mem_of_getElem? hi)).2;omega
  ·cases h
 have tx:∀ {i s},D5 ts ps i=.ok s->mF s<=8192:=λ{i s} h=>by
  unfold D5 at h;split at h
  ·rename_i hi;cases h;exact (hts _ (List.mem_of_getElem? hi)).2
  ·cases h
 have cn:∀ {i c},Mr ts ps i=.ok c->dY c<=8192:=λ{i c} h=>by
  unfold Mr at h;split at h
  ·rename_i hi;cases h;exact (hts _ (List.mem_of_getElem? hi)).2
  ·cases h
 have ln:∀ {i l},IM ts ps i=.ok l->ia l<=8192:=λ{i l} h=>by
  unfold IM at h;split at h
  ·rename_i hi;cases h;exact (hts _ (List.mem_of_getElem? hi)).2
  ·cases h
 have z:mF ⟨#[]⟩=1:=rfl;unfold bp at h
 repeat' split at h
 all_goals repeat (obtain⟨_,h9,h⟩:=cy h;first|have:=nd h9|have:=tx h9|have:=cn h9|have:=ln h9)
 all_goals
  cases h;simp only[cj,dY,ia,dX,fw]
  repeat' split
  all_goals omega
theorem nw{P:Program}(T t:TypeId)(x:SV)(ok:Bool):ee P T ok [.mU t x]=aK T t x ok (isIface P T) (qM P T):=by
 simp only[ee];unfold aK;rcases isIface P T with _|b
 ·rfl
 ·cases b<;>rcases qM P T with _|z<;>first|rfl|(cases ok<;>rfl)
theorem xE(v:En)(a:Nat)(w:ByteArray)(l:Ex):aQ v (.call a w l)=b9 (qT v a w l) (lF a):=by
 simp only[aQ,qT];cases gX v l<;>rfl
theorem oK{W:World}{S:Nat->Prop}{v:Value}{t:Tm}(h:eQ W S v t):partsOf (.v v)=[.v v]:=by
 obtain⟨k,u,rfl⟩:=h.iface;rfl
theorem AI{W:World}{S:Nat->Prop}{s:ByteArray}{t:Tm}:∀ {v:En} {vs:List Value},Ab W S vs v->Mt v s=some t->∃ u,Bc (rn v) (vs.map SV.v) s=some (.v u)/\eQ W S u t
 |[],vs,h,hl=>by cases hl
 |(k,t')::r,[],h,hl=>h.elim
 | (k,t')::r,u::us,⟨h1,h2⟩,hl=>by
  rw[Mt]at hl;simp only[rn,List.map_cons,Bc];split at hl
  ·rename_i hk;cases hl;rw[if_pos hk];exact⟨u,rfl,h1⟩
  ·rename_i hk;rw[if_neg hk];exact AI (v:=r) h2 hl
theorem AH{W:World}{S:Nat->Prop}{s:ByteArray}:∀ {v:En} {vs:List Value},Ab W S vs v->Mt v s=none->Bc (rn v) (vs.map SV.v) s=none
 |[],vs,h,hl=>by
  cases vs<;>rfl
 |(k,t')::r,[],h,hl=>h.elim
 | (k,t')::r,u::us,⟨h1,h2⟩,hl=>by
  rw[Mt]at hl;simp only[rn,List.map_cons,Bc];split at hl
  ·cases hl
  ·rename_i hk;rw[if_neg hk];exact AH (v:=r) h2 hl
theorem Yq:Gv Tryz.prog (Program.underlying Tryz.prog 130)=some 54:=kR
theorem aaT:qM Tryz.prog 54=some .nilIface:=kR
section
variable (G:Nat->Prop)(v:En)(x y:Ex)(h:wI v x)(h' : wI v y)(vs:List Value)(a:Nat)(op:ByteArray)(ea eb:Value)(t u:Tm)(l:Ex)(hl:Wj v l)(eo:Option Addr)(ec:Nat)(xs:List Value)(va:Value)
noncomputable def ab6:Env Tryz.prog:=⟨λ| 65=>some ((tW v x h vs).spec G)|103=>some ((Dh a op ea t).spec G)|_=>none,λ_=>none,λ_ _=>none⟩
theorem RU:(ab6 G v x h vs a op ea t).sp 65=some ((tW v x h vs).spec G):=rfl
theorem Mj:(ab6 G v x h vs a op ea t).sp 103=some ((Dh a op ea t).spec G):=rfl
noncomputable def Qc:Env Tryz.prog:=⟨λ| 65=>some ((tW v x h vs).spec G)|104=>some ((uN a op ea eb t u va).spec G)|_=>none,λ_=>none,λ_ _=>none⟩
theorem RV:(Qc G v x h vs a op ea eb t u va).sp 65=some ((tW v x h vs).spec G):=rfl
theorem Mk:(Qc G v x h vs a op ea eb t u va).sp 104=some ((uN a op ea eb t u va).spec G):=rfl
noncomputable def D8:Env Tryz.prog:=⟨λ| 65=>some ((TZ v x h vs).spec G)|64=>some (gQ.spec G)|_=>none,λ_=>none,λ_ _=>none⟩
theorem RY:(D8 G v x h vs).sp 65=some ((TZ v x h vs).spec G):=rfl
theorem RW:(D8 G v x h vs).sp 64=some (gQ.spec G):=rfl
noncomputable def ajH:Env Tryz.prog:=⟨λ| 105=>some ((xG v a op l hl vs eo ec xs).spec G)|_=>none,λ_=>none,λ_ _=>none⟩
theorem Ml:(ajH G v vs a op l hl eo ec xs).sp 105=some ((xG v a op l hl vs eo ec xs).spec G):=rfl
noncomputable def qm:Env Tryz.prog:=⟨λ| 24=>some nf.spec|64=>some (gQ.spec G)|71=>some GK.spec|f=>spP f,λ| 39=>some qC|_=>none,YB⟩
theorem RZ:(qm G).sp 24=some nf.spec:=rfl
theorem R0:(qm G).sp 64=some (gQ.spec G):=rfl
theorem R1:(qm G).sp 71=some GK.spec:=rfl
theorem FD:(qm G).eqs 39=some qC:=rfl
theorem wG{W:World}{bs:List Nat}{κ:Nat}{hh:Hp}{W0:World}{S0:Nat->Prop}{v:Value}{x:Ex}(h:Ac W0 S0 v x):aI (qm G) W bs κ hh "Place" [.v v]=⟨True,.v (.int .i64 (SW x:Nat)),[],none,[],[]⟩:=
 AZ rfl (λf s hf=>by
  unfold spP at hf
  split at hf<;>cases hf<;>rfl) h
end
def dI:=(ae acI @nw @pc @kj @lq @lp @gf (ae @eP @aV @aw @aD @aG @vg @sD (ae @mT @u7 @sF @pb @sE @cH @RU (ae @Mj @RV @Mk @RY @RW @Ml @RZ (ae @R0 @R1 @FD @tE @rO @vO @HE (ae @pB @J5 @J4 @Yr @Bm @Bi @Bh (ae @J2 @vm @Dj @Di @wx @yG @yF (ae @td @cU @aH @Bs @Kk @y9 @Br (ae @za @QY @Bw @K9 @La @mkF.eq_1 @cf (ae @vA @sw @eN @zW @bZ @aL @j6 (ae @gQ.eq_1 @ng @nh @Bz @By @pw @lu (ae @Yq @Bg @Bf @Gq @vj @Gr @NL (fP @aaT @fm @dj @cM)))))))))))))
theorem adN(v:En)(a:Nat)(s:ByteArray):wI v (.name a s):=by
 intro vs e u uh fp w S hEn hEx hEs ho hlt hS;have u0:=af.up w S fp;have hse:=af.eO w S fp hS;obtain⟨hE0,hN0⟩:=hEn;obtain⟨hx0,hv0⟩:=hEx;have hEs1:=hEs.mono hse;have hv1:=hv0.mono hse;have hN1:=eR.mono hse hN0;simp only[cr]at hx0
 refine e9 (nt:=133) S #[e] [.tmp 4] (by show 1<=7;omega) ho hlt Tryz.func65 rfl rfl rfl ?_;cases hv1 with
 |name _ _=>
 refine vR Γ0 dI ?_;refine vR Γ0 dI ?_;refine Wp.seq ?_;refine vR Γ0 dI ?_;refine Wp.block ?_;refine vR Γ0 dI ?_;refine wC dI (λhc=>?_) (λhc=>?_)
 rotate_left
 ·cases hc
 refine vR Γ0 dI ?_;cases hL:Mt v s with
 |none=>
  have hF:=AH hN1 hL;have hE:aQ v (.name a s)=.error (70,(a:Nat)):=by simp only[aQ,hL]
  rw[hE,aH];refine yt Γ0 (aa dI hF) ?_;refine Wp.seq ?_;refine vR Γ0 dI ?_;refine wC dI (λhc=>?_) (λhc=>?_)
  rotate_left
  ·cases hc
  refine Wp.dz (qm (af w S fp)) aM (ev dI) ?_ ?_
  ·first|trivial|exact⟨_,_,rfl⟩
  refine qq ?_;exact⟨_,rfl⟩
 |some t=>
  obtain⟨z,hF,hz⟩:=AI hN1 hL;have hE:aQ v (.name a s)=.ok t:=by simp only[aQ,hL]
  rw[hE,cU];refine yt Γ0 (br dI hF (oK (t:=t) hz)) ?_;refine Wp.seq ?_;refine vR Γ0 dI ?_;refine wC dI (λhc=>?_) (λhc=>?_)
  ·cases hc
  refine wK ?_;refine vR Γ0 dI ?_;refine wZ dI ?_
  exact eu (λE=>rfl) hz rfl (by simp only[iC,Op.operands,Value.cells,σ0,σB,Nat.reduceEqDiff,Nat.reduceAdd,Nat.reduceMul,Nat.reduceLT,Nat.reduceLeDiff,Nat.reduceBEq,av,Int.reduceToNat,Int.reduceLT,Int.reduceLE,Nat.reduceDiv,Nat.reduceMod,Nat.reduceSub,Int.reducePow,Nat.reducePow,σP,σB3,dI,aq,eN,cI,cf]<;>rfl) dE
theorem adO(v:En)(a:Nat)(s:ByteArray):wI v (.text a s):=by
 intro vs e u uh fp w S hEn hEx hEs ho hlt hS;have u0:=af.up w S fp;have hse:=af.eO w S fp hS;obtain⟨hE0,hN0⟩:=hEn;obtain⟨hx0,hv0⟩:=hEx;have hEs1:=hEs.mono hse;have hv1:=hv0.mono hse;have hN1:=eR.mono hse hN0;simp only[cr]at hx0
 refine e9 (nt:=133) S #[e] [.tmp 4] (by show 1<=7;omega) ho hlt Tryz.func65 rfl rfl rfl ?_;cases hv1 with
 |text _ _=>
 refine vR Γ0 dI ?_;refine vR Γ0 dI ?_;refine Wp.seq ?_;refine vR Γ0 dI ?_;refine Wp.block ?_;refine vR Γ0 dI ?_;refine wC dI (λhc=>?_) (λhc=>?_)
 ·cases hc
 refine vR Γ0 dI ?_;refine wC dI (λhc=>?_) (λhc=>?_)
 rotate_left
 ·cases hc
 refine vR Γ0 dI ?_;have hE:aQ v (.text a s)=.ok (.text a s):=by simp only[aQ]
 rw[hE,cU];refine vR Γ0 dI ?_;refine wZ dI ?_
 exact eu (v:=.iface 190 (.agg #[.int .i64 (a:Nat),.string s])) (λE=>rfl) rfl rfl (by simp only[iC,Op.operands,Value.cells,σ0,σB,Nat.reduceEqDiff,Nat.reduceAdd,Nat.reduceMul,Nat.reduceLT,Nat.reduceLeDiff,Nat.reduceBEq,av,Int.reduceToNat,Int.reduceLT,Int.reduceLE,Nat.reduceDiv,Nat.reduceMod,Nat.reduceSub,Int.reducePow,Nat.reducePow,σP,σB3,dI,aq,eN,cI,cf]<;>rfl) dE
theorem akz(v:En)(a:Nat)(s:ByteArray):wI v (.rx a s):=by
 intro vs e u uh fp w S hEn hEx hEs ho hlt hS;have u0:=af.up w S fp;have hse:=af.eO w S fp hS;obtain⟨hE0,hN0⟩:=hEn;obtain⟨hx0,hv0⟩:=hEx;have hEs1:=hEs.mono hse;have hv1:=hv0.mono hse;have hN1:=eR.mono hse hN0;simp only[cr]at hx0
 refine e9 (nt:=133) S #[e] [.tmp 4] (by show 1<=7;omega) ho hlt Tryz.func65 rfl rfl rfl ?_;cases hv1 with
 |rx _ _=>
 refine vR Γ0 dI ?_;refine vR Γ0 dI ?_;refine Wp.seq ?_;refine vR Γ0 dI ?_;refine Wp.block ?_;refine vR Γ0 dI ?_;refine wC dI (λhc=>?_) (λhc=>?_)
 ·cases hc
 refine vR Γ0 dI ?_;refine wC dI (λhc=>?_) (λhc=>?_)
 ·cases hc
 refine vR Γ0 dI ?_;refine wC dI (λhc=>?_) (λhc=>?_)
 rotate_left
 ·cases hc
 refine vR Γ0 dI ?_;have hs:s.size<=140737488351232:=oM;have hg:bg w (Out fp):=hEs1.mono λb _ hb=>⟨rfl,hb.2⟩
 have w1:IntKind.i64.wrap ((a:Nat)+1:Int)=((a:Nat):Int)+1:=aA oM oM;cases hp:rB s with
 | error q=>
  obtain⟨c,j⟩:=q;have hE:aQ v (.rx a s)=.error (c,IntKind.i64.wrap ((a:Nat)+1+j)):=by simp only[aQ,hp]
  have hne:c≠0:=by
   cases hd:SI s with
   |error e=>
    obtain⟨c',p'⟩:=e;have:=xR s;rw[hp,hd,EH (e:=.error (c',p')) rfl]at this;cases this;exact SJ hd
   |ok t=>
    have:=xR s;rw[hp,hd]at this;cases this
  rw[hE,aH];refine wR (qm (af w S fp)) (qG dI hp @tO.eq_1 @tO.eq_2 @nS.eq_1) ?_ ?_
  ·exact⟨hs,hg⟩
  refine Wp.seq ?_;refine vR (qm (af w S fp)) (aa dI hne) ?_;refine wC dI (λhc=>?_) (λhc=>?_)
  rotate_left
  ·exact absurd hc sI
  refine Wp.dz (qm (af w S fp)) aM (ev (aa dI w1)) ?_ ?_
  ·first|trivial|exact⟨_,_,rfl⟩
  refine qq ?_;exact⟨_,rfl⟩
 |ok r=>
  have hE:aQ v (.rx a s)=.ok (.rx a r):=by simp only[aQ,hp]
  rw[hE,cU];refine wR (qm (af w S fp)) (qG dI hp @tO.eq_1 @tO.eq_2 @nS.eq_1) ?_ ?_
  ·exact⟨hs,hg⟩
  refine Wp.seq ?_;refine vR (qm (af w S fp)) dI ?_;refine wC dI (λhc=>?_) (λhc=>?_)
  ·exact absurd hc sI
  refine wK ?_;refine vR Γ0 dI ?_;refine wZ dI ?_
  exact eu (v:=.iface 192 (.agg #[.int .i64 (a:Nat),ax r])) (λE=>rfl) rfl rfl (by simp only[iC,Op.operands,Value.cells,σ0,σB,Nat.reduceEqDiff,Nat.reduceAdd,Nat.reduceMul,Nat.reduceLT,Nat.reduceLeDiff,Nat.reduceBEq,av,Int.reduceToNat,Int.reduceLT,Int.reduceLE,Nat.reduceDiv,Nat.reduceMod,Nat.reduceSub,Int.reducePow,Nat.reducePow,σP,σB3,dI,aq,eN,cI,cf]<;>rfl) dE
theorem Wp.aic{P:Program}{W:World}{bs:List Nat}{nt:Nat}{ds:Aux}{c:Code}{Q:lE}{σ:St}(t:Nat){x:SV}{v:Value}(hx:σ.φ t=.is x)(hc:cG x=some v)(h:Wp P W bs nt ds c Q ⟨σ.n,bn σ.φ t (.is (.v v)),σ.h⟩):Wp P W bs nt ds c Q σ:=
 λa w hs=>h a w (Le.const t hx hc (λ_ _ h=>h) a w hs)
end
end Go.Proofs.YtnemkecffmdlnaaGreatDoor
namespace Go.LE
section
open Go.RowKit
structure RX where
 side:Prop
 pan:Option (List PanicEntry)
 lost:List Nat
 fx:List (List Nat×List Nat)
section
variable {P:Program}{W:World}{bs:List Nat}{nt:Nat}{ds:Aux}{ops:Array Oper}(Γ:Env P)
def KO(s:S)(g:RX):RX:=⟨s.side/\g.side,g.pan,s.uk++s.pupd++g.lost,(s.uk,s.reads)::g.fx⟩
def zB(Γ:Env P)(W:World)(bs:List Nat)(nt:Nat)(ops:Array Oper):List Oper->Nat->Fr->Hp->RX
 |[],_,_,_=>⟨True,none,[],[]⟩
 |o::r,κ,φ,h=>match (step Γ W bs nt ops κ φ h o).pan with
  |some c=>⟨(step Γ W bs nt ops κ φ h o).side,some c,(step Γ W bs nt ops κ φ h o).uk++(step Γ W bs nt ops κ φ h o).pupd,[((step Γ W bs nt ops κ φ h o).uk,(step Γ W bs nt ops κ φ h o).reads)]⟩
  |none=>KO (step Γ W bs nt ops κ φ h o) (zB Γ W bs nt ops r (κ+1) (oA φ o.dst (step Γ W bs nt ops κ φ h o).fv) (a7 h (step Γ W bs nt ops κ φ h o).bn))
theorem Q6{c:List PanicEntry}:∀ (l:List Oper) (κ:Nat) (φ:Fr) (h:Hp),(zB Γ W bs nt ops l κ φ h).pan=some c->(zB Γ W bs nt ops l κ φ h).side ->
  ∃ (i:Nat) (p:Oper×S),(tr Γ W bs nt ops l κ φ h)[i]?=some p/\p.2.pan=some c/\(∀ (j:Nat) (q:Oper×S),j<=i->(tr Γ W bs nt ops l κ φ h)[j]?=some q->q.2.side)/\(∀ (j:Nat) (q:Oper×S),j<i->(tr Γ W bs nt ops l κ φ h)[j]?=some q->q.2.pan=none) /\
   (∀ (j:Nat) (q:Oper×S),j<=i->(tr Γ W bs nt ops l κ φ h)[j]?=some q->∀ k∈q.2.uk++q.2.pupd,k∈(zB Γ W bs nt ops l κ φ h).lost) /\
   (zB Γ W bs nt ops l κ φ h).fx.length=i+1/\∀ (j:Nat) (q:Oper×S),j<=i->(tr Γ W bs nt ops l κ φ h)[j]?=some q->(zB Γ W bs nt ops l κ φ h).fx[j]?=some (q.2.uk,q.2.reads)
 |[],_,_,_,hp,_=>by cases hp
 | o::r,κ,φ,h,hp,hs=>by
  have ih:=Q6 (c:=c) r (κ+1) (oA φ o.dst (step Γ W bs nt ops κ φ h o).fv) (a7 h (step Γ W bs nt ops κ φ h o).bn);unfold zB at hp hs ⊢;simp only[tr];cases hpn:(step Γ W bs nt ops κ φ h o).pan with
  | some c' =>
   rw[hpn]at hp hs;simp only[Option.some.injEq]at hp hs;subst hp;refine⟨0,_,rfl,hpn,λj q hj hq=>?_,λj q hj hq=>by omega,λj q hj hq k hk=>?_,rfl,λj q hj hq=>?_⟩
   ·obtain rfl:j=0:=oM;simp at hq;subst hq;exact hs
   ·obtain rfl:j=0:=oM;simp at hq;subst hq;exact hk
   ·obtain rfl:j=0:=oM;simp at hq;subst hq;rfl
  | none=>
   rw[hpn]at hp hs;simp only[KO]at hp hs ⊢;obtain⟨i,p,h1,h2,h3,h4,h5,h6,h7⟩:=ih hp hs.2;refine⟨i+1,p,by simpa using h1,h2,λj q hj hq=>?_,λj q hj hq=>?_,λj q hj hq k hk=>?_,by rw[List.length_cons,h6],λj q hj hq=>?_⟩
   ·cases j with
    |zero=>simp at hq;subst hq;exact hs.1
    |succ j=>exact h3 j q oM (by simpa using hq)
   ·cases j with
    |zero=>simp at hq;subst hq;exact hpn
    |succ j=>exact h4 j q oM (by simpa using hq)
   ·cases j with
    |zero=>simp at hq;subst hq;exact List.mem_append_left _ hk
    |succ j=>exact List.mem_append_right _ (h5 j q oM (by simpa using hq) k hk)
   ·cases j with
    |zero=>simp at hq;subst hq;rfl
    |succ j=>exact h7 j q oM (by simpa using hq)
def ah6(ops:Array Oper)(n:Nat):Bool:=(List.range ops.size).all λj=>decide (j<n)||WX ops (n-1) j
theorem KH{id:Nat}{σ:St}{Q:Exit->Act->World->Prop}{a:Act}{w:World}(hm:P.follows .mixedOrders=true)(hsat:Sat W bs nt ds σ a w){side:Prop}{c:List PanicEntry}{lost:List Nat}{fx:List (List Nat×List Nat)}
  (hg:zB Γ W bs nt ops ops.toList σ.n σ.φ σ.h=⟨side,some c,lost,fx⟩) (hd:(kG ops&&kV ops fx&&ah6 ops fx.length)=true) (hside:side)
  (hP:∀ a' w',Sat W bs nt ds ⟨σ.n,sZ ops σ.φ,dropKeys σ.h lost⟩ a' w' -> Q (.panic c) a' w'):(Code.region id ops true).wp P Q a w:=by
 obtain⟨i0,p0,t1,t2,t3,t4,t5,t6,t7⟩:=Q6 Γ (c:=c) ops.toList σ.n σ.φ σ.h (by rw[hg]) (by rw[hg];exact hside);rw[hg]at t5 t6 t7;simp only at t5 t6 t7;rw[Bool.and_eq_true,Bool.and_eq_true,t6]at hd;obtain⟨⟨h1,h2⟩,h3⟩:=hd
 have lt:∀ {α:Type} {l:Array α} {i:Nat} {x:α},l[i]?=some x->i<l.size:=λhx=>(Array.getElem?_eq_some_iff.1 hx).1
 have hedge:∀ j o,ops[j]?=some o->∀ e∈o.after,Region.binds .any e=true->e.on<j:=by
  unfold kG at h1;rw[List.all_eq_true]at h1;intro j o ho e he hb;have:=h1 j (List.mem_range.2 (lt ho));rw[ho]at this;simp only[Bool.and_eq_true]at this;have:=Array.all_eq_true.1 this.1;obtain⟨i,hi,hie⟩:=Array.mem_iff_getElem.1 he;have:=this i hi;rw[hie,hb]at this;simpa using this
 have hslot:∀ i j oi oj t,i≠j->ops[i]?=some oi->ops[j]?=some oj->oj.dst=some t->t∈oi.looksAt ops\/oi.dst=some t->Cmp ops i j:=by
  unfold kG at h1;rw[List.all_eq_true]at h1;intro i j oi oj t hij hi hj hd hc;have:=h1 j (List.mem_range.2 (lt hj));rw[hj]at this;simp only[Bool.and_eq_true,hd,List.all_eq_true]at this;have:=this.2 i (List.mem_range.2 (lt hi));rw[hi]at this;have hij' : (i == j)=false:=by simpa using hij
  simp only[hij',Bool.false_or]at this;have hc' : ((oi.looksAt ops).contains t||oi.dst == some t)=true:=by
   rcases hc with hc|hc
   ·simp[hc]
   ·simp[hc]
  rw[hc']at this;exact oa (by simpa using this)
 have hheap:∀ i j oi oj si sj k,i<=i0->j<=i0->i≠j->(tr Γ W bs nt ops ops.toList σ.n σ.φ σ.h)[i]?=some (oi,si)->(tr Γ W bs nt ops ops.toList σ.n σ.φ σ.h)[j]?=some (oj,sj)->k∈cd sj.bn->k∈si.reads\/k∈cd si.bn->Cmp ops i j:=by
  unfold kV at h2;rw[List.all_eq_true]at h2;intro i j oi oj si sj k hi0 hj0 hij hi hj hk hc;have huk:∀ (i:Nat) (o:Oper) (s:S),(tr Γ W bs nt ops ops.toList σ.n σ.φ σ.h)[i]?=some (o,s)->∀ k∈cd s.bn,k∈s.uk:=λi o s hT k hk=>by
   have:=(km Γ ops.toList σ.n 0 σ.φ σ.h i o s hT).2;rw[this]at hk ⊢;exact Hz Γ hk
  have fi:=t7 i _ hi0 hi;have fj:=t7 j _ hj0 hj;have:=h2 j (List.mem_range.2 oM);simp only[fj,Bool.or_eq_true,List.all_eq_true]at this;rcases this with this|this
  ·have hk' := huk j oj sj hj k hk;rw[List.isEmpty_iff]at this;rw[this]at hk';cases hk'
  ·have:=this i (List.mem_range.2 oM);simp only[fi]at this;have hij' : (i == j)=false:=by simpa using hij
   rw[hij']at this;simp only[Bool.false_eq_true,false_or,Bool.or_eq_true,List.all_eq_true]at this;rcases this with this|this
   ·have:=this k (huk j oj sj hj k hk);rcases hc with hc|hc
    ·simp[hc]at this
    ·simp[huk i oi si hi k hc]at this
   ·exact oa this
 have hbeh:∀ j,i0<j->j<ops.size->Reach ops i0 j:=λj hj hlt=>by
  unfold ah6 at h3;rw[List.all_eq_true]at h3;have:=h3 j (List.mem_range.2 hlt);simp only[Bool.or_eq_true,decide_eq_true_eq,Nat.add_sub_cancel]at this;rcases this with this|this
  ·omega
  ·exact (oa this).1 hj
 have gd:∀ (l:Array Bool) i,i<l.size->l.getD i true=l.getD i false:=λl i hi=>by simp[Array.getD_eq_getD_getElem?,Array.getElem?_eq_getElem hi]
 have hi0:i0<ops.size:=by
  have:=(List.getElem?_eq_some_iff.1 t1).1
  rwa [pC,Array.length_toList]at this
 have noti:∀ (listed:Array Bool),(∀ j o s,listed.getD j false=true->(tr Γ W bs nt ops ops.toList σ.n σ.φ σ.h)[j]?=some (o,s)->s.pan=none)->listed.getD i0 false=false:=λlisted hpr=>by
  cases hl:listed.getD i0 false with
  |false=>rfl
  |true=>
   have:=hpr i0 p0.1 p0.2 hl t1;rw[t2]at this;cases this
 have done:∀ (listed:Array Bool),listed.size=ops.size->Region.ready .any ops listed=[] ->
   (∀ j o s,listed.getD j false=true->(tr Γ W bs nt ops ops.toList σ.n σ.φ σ.h)[j]?=some (o,s)->s.pan=none)->False:=by
  intro listed hsz hr hpr;have all:∀ i,i<ops.size->listed.getD i false=true:=by
   intro i
   induction i using Nat.strongRecOn with
   | _ i ih=>
    intro hi;cases hl:listed.getD i false with
    |true=>rfl
    | false=>
     exfalso;have:i∈Region.ready .any ops listed:=by
      refine List.mem_filter.2 ⟨List.mem_range.2 hi,?_⟩;rw[gd _ _ oM,hl];simp only[Bool.not_false,Bool.true_and,Array.getElem?_eq_getElem hi,Option.map_some,Option.getD_some];rw[Array.all_eq_true];intro j hj;cases hb:Region.binds .any (ops[i].after[j]) with
      |false=>rfl
      |true=>
       have hlt:=hedge i ops[i] (Array.getElem?_eq_getElem hi) (ops[i].after[j]) (Array.getElem_mem hj) hb;simpa using ih _ hlt oM
     rw[hr]at this;cases this
  have:=noti listed hpr;rw[all i0 hi0]at this;cases this
 have key:∀ (fuel:Nat) (listed:Array Bool) (a:Act) (w:World),listed.size=ops.size->listed.toList.count false<=fuel ->
   (∀ j o,ops[j]?=some o->listed.getD j false=true->∀ e∈o.after,Region.binds .any e=true->listed.getD e.on false=true) ->
   (∀ j o s,listed.getD j false=true->(tr Γ W bs nt ops ops.toList σ.n σ.φ σ.h)[j]?=some (o,s)->s.pan=none) ->
   Inv W bs nt ds (tr Γ W bs nt ops ops.toList σ.n σ.φ σ.h) σ (λj=>listed.getD j false) a w->wpAny P .any ops Q fuel listed a w:=by
  intro fuel
  induction fuel with
  | zero=>
   intro listed a w hsz hc hcl hpr I;have hr:Region.ready .any ops listed=[]:=by
    refine List.filter_eq_nil_iff.2 λi hi=>?_
    have hi' : i<listed.size:=by rw[hsz];exact List.mem_range.1 hi
    have:listed.getD i true=true:=by
     rw[Array.getD_eq_getD_getElem?,Array.getElem?_eq_getElem hi'];simp only[Option.getD_some];have h0:=List.count_eq_zero.1 (Nat.le_zero.1 hc);cases hv:listed[i] with
     |true=>rfl
     |false=>exact absurd (by rw[<- hv];simp) h0
    simp[this]
   exact (done listed hsz hr hpr).elim
  | succ fuel ih=>
   intro listed a w hsz hc hcl hpr I;refine⟨λhr=>(done listed hsz hr hpr).elim,λi hi=>?_⟩;obtain⟨hi,hready⟩:=List.mem_filter.1 hi;have hi:=List.mem_range.1 hi;have ho:ops[i]?=some ops[i]:=Array.getElem?_eq_getElem hi;have hil:i<listed.size:=oM;rw[gd _ _ hil]at hready
   simp only[ho,Option.map_some,Option.getD_some,Bool.and_eq_true,Bool.not_eq_true']at hready;obtain⟨hli,hpre⟩:=hready;rw[Array.all_eq_true]at hpre
   obtain⟨s,hT⟩:=HH Γ (W:=W) (bs:=bs) (nt:=nt) (ops:=ops) (κ:=σ.n) (φ:=σ.φ) (h:=σ.h) (l:=ops.toList) (i:=i) (o:=ops[i]) (by rw[Array.getElem?_toList];exact ho);have hset:∀ j,(listed.setIfInBounds i true).getD j false=if j=i then true else listed.getD j false:=λj=>by
    simp only[Array.getD_eq_getD_getElem?,Array.getElem?_setIfInBounds];by_cases hji:i=j
    ·subst hji;simp[hil]
    ·rw[if_neg hji,if_neg (Ne.symm hji)]
   have hcl' : ∀ j o,ops[j]?=some o->(listed.setIfInBounds i true).getD j false=true->∀ e∈o.after,Region.binds .any e=true->(listed.setIfInBounds i true).getD e.on false=true:=by
    intro j o hj hl e he hb;rw[hset]at hl ⊢;split
    ·rfl
    ·split at hl
     ·rename_i hji;subst hji;rw[ho]at hj;cases hj;obtain⟨m,hm,hme⟩:=Array.mem_iff_getElem.1 he;have:=hpre m hm;rw[hme,hb]at this;simpa using this
     ·exact hcl j o hj hl e he hb
   have rb:∀ j,Reach ops j i->j≠i->listed.getD j false=true:=λj hr hji=>by
    have:=jr (S:=λj=>(listed.setIfInBounds i true).getD j false) hcl' hr (by simp only[hset,if_pos]);simp only[hset,if_neg hji]at this;exact this
   have ra:∀ j,Reach ops i j->listed.getD j false=false:=λj hr=>by
    cases hl:listed.getD j false with
    |false=>rfl
    |true=>
     have:=jr (S:=λj=>listed.getD j false) hcl hr hl;simp only[hli]at this;cases this
   have hii0:i<=i0:=by
    rcases Nat.lt_or_ge i0 i with hlt|hge
    ·have:=rb i0 (hbeh i hlt hi) oM;rw[noti listed hpr]at this;cases this
    ·exact hge
   have far:∀ j,i0<j->j<ops.size->listed.getD j false=false:=λj hj hlt=>by
    cases hl:listed.getD j false with
    |false=>rfl
    |true=>
     have:=jr (S:=λj=>listed.getD j false) hcl (hbeh j hj hlt) hl;simp only[noti listed hpr]at this;cases this
   have agree:∀ j,j≠i->Cmp ops i j->listed.getD j false=decide (j<0+i):=λj hji hc=>by
    rw[Nat.zero_add];by_cases hlt:j<i
    ·rw[rb j (hc.2 hlt) hji];simp[hlt]
    ·rw[ra j (hc.1 oM)];simp[hlt]
   have self:listed.getD i false=decide (i<0+i):=by rw[hli];simp
   have inT:∀ (j:Nat) (v:List (Nat×FV)),(uC (tr Γ W bs nt ops ops.toList σ.n σ.φ σ.h))[j]?=some v->∃ (o:Oper) (s:S),(tr Γ W bs nt ops ops.toList σ.n σ.φ σ.h)[j]?=some (o,s)/\ops[j]?=some o/\v=tJ o s:=λj v hv=>by
    simp only[uC,List.getElem?_map,Option.map_eq_some_iff]at hv;obtain⟨⟨o,s⟩,h1,h2⟩:=hv;have:=(km Γ ops.toList σ.n 0 σ.φ σ.h j o s h1).1;rw[Array.getElem?_toList]at this;exact⟨o,s,h1,this,h2.symm⟩
   have inH:∀ (j:Nat) (v:List (Nat×Option a6)),(xw (tr Γ W bs nt ops ops.toList σ.n σ.φ σ.h))[j]?=some v->∃ (o:Oper) (s:S),(tr Γ W bs nt ops ops.toList σ.n σ.φ σ.h)[j]?=some (o,s)/\j<ops.size/\v=s.bn:=λj v hv=>by
    simp only[xw,List.getElem?_map,Option.map_eq_some_iff]at hv;obtain⟨⟨o,s⟩,h1,h2⟩:=hv;have:=(km Γ ops.toList σ.n 0 σ.φ σ.h j o s h1).1;rw[Array.getElem?_toList]at this;exact⟨o,s,h1,lt this,h2.symm⟩
   refine one Γ (L:=lost) (λj p hp hj k hk=>t5 j p ?_ hp k hk) hT (S:=λj=>listed.getD j false) (S' := λj=>(listed.setIfInBounds i true).getD j false) hli (by simp only[hset,if_pos]) (λj hj=>by simp only[hset,if_neg hj]) (λt ht=>?_) (λk hk=>?_) (λj v hij hv hs k hk hk' => ?_) (λj v hij hv hs k hk hk' => ?_) I (t3 i _ hii0 hT) (λhpn a' w' I' => ?_) (λc' hc a' w' hs' => ?_) hsat.fk hsat.hk hsat.pk
   ·rcases hj with hj|rfl
    ·rcases Nat.lt_or_ge i0 j with hlt|hge
     ·have hjl:j<ops.size:=by
       have:=(List.getElem?_eq_some_iff.1 hp).1
       rwa [pC,Array.length_toList]at this
      have hf:=far j hlt hjl;rw[hf]at hj;cases hj
     ·exact hge
    ·exact hii0
   ·refine jL rfl λj u hj hju=>?_
    obtain⟨o',s',_,hj',rfl⟩:=inT j u hj;rw[Nat.zero_add];by_cases hji:j=i
    ·subst hji;exact self
    ·exact agree j hji (hslot i j _ o' t (Ne.symm hji) ho hj' (jS.1 hju) (.inl ht))
   ·refine jL rfl λj u hj hju=>?_
    obtain⟨o',s',hj',hjl,rfl⟩:=inH j u hj;rw[Nat.zero_add];by_cases hji:j=i
    ·subst hji;exact self
    ·rcases Nat.lt_or_ge i0 j with hlt|hge
     ·rw[far j hlt hjl];simp;omega
     ·exact agree j hji (hheap i j _ o' _ s' k hii0 hge (Ne.symm hji) hT hj' hju (.inl hk))
   ·obtain⟨o',s',_,hj',rfl⟩:=inT j v hv;have:=ra j ((hslot i j _ o' k oM ho hj' (jS.1 hk') (.inr (jS.1 hk))).1 hij);rw[this]at hs;cases hs
   ·obtain⟨o',s',hj',hjl,rfl⟩:=inH j v hv;rcases Nat.lt_or_ge i0 j with hlt|hge
    ·rw[far j hlt hjl]at hs;cases hs
    ·have:=ra j ((hheap i j _ o' _ s' k hii0 hge oM hT hj' hk' (.inr hk)).1 hij);rw[this]at hs;cases hs
   ·refine ih _ a' w' (by simpa using hsz) ?_ hcl' (λj o' s' hj hs' => ?_) I'
    rotate_left
    ·by_cases hji:j=i
     ·subst hji;rw[hT]at hs';cases hs';exact hpn
     ·rw[hset,if_neg hji]at hj;exact hpr j o' s' hj hs'
    rw[Array.toList_setIfInBounds,List.count_set (by simpa using hil)];have e1:listed.toList[i]'(by simpa using hil)=false:=by
     rw[Array.getD_eq_getD_getElem?,Array.getElem?_eq_getElem hil]at hli;simpa using hli
    rw[e1];have hpos:0<listed.toList.count false:=List.count_pos_iff.2 (e1 ▸ List.getElem_mem _);simp only[beq_self_eq_true,if_true,show (true == false)=false from rfl,Bool.false_eq_true,if_false];omega
   ·by_cases hii:i=i0
    ·subst hii;rw[t1]at hT;simp only[Option.some.injEq]at hT;subst hT;rw[t2]at hc;simp only[Option.some.injEq]at hc;subst hc;exact hP a' w' hs'
    ·have:=t4 i _ oM hT;rw[this]at hc;cases hc
 refine wp_region_any hm ?_;have hsat' : Sat W bs nt ds σ a { w with drawn:=w.drawn+1 }:=by
  obtain⟨⟨E,F,hf,hh,hp⟩,h1,h2,h3,h4,h5⟩:=hsat;exact⟨⟨E,F,hf,hh.grow ⟨rfl,rfl,rfl,Nat.le_refl _,λ_ _ _=>rfl⟩,hp⟩,h1,h2,h3,h4,h5⟩
 have hz:∀ i,(Array.replicate ops.size false).getD i false=false:=λi=>by
  simp only[Array.getD_eq_getD_getElem?,Array.getElem?_replicate];split<;>rfl
 exact key ops.size _ a _ sI (by simp[List.count_replicate]) (λj o _ hj=>by rw[hz]at hj;cases hj) (λj o s hj=>by rw[hz]at hj;cases hj) (sG hsat' hz _)
end
section
variable {P:Program}{W:World}{bs:List Nat}{nt:Nat}{ds:Aux}{Q:lE}{σ:St}
theorem Wp.ahx(Γ:Env P){id:Nat}{ops:Array Oper}{side:Prop}{lost:List Nat}{fx:List (List Nat×List Nat)}{c:List PanicEntry}(hm:P.follows .mixedOrders=true)
  (hg:zB Γ W bs nt ops ops.toList σ.n σ.φ σ.h=⟨side,some c,lost,fx⟩) (hd:(kG ops&&kV ops fx&&ah6 ops fx.length)=true) (hside:side)
  (hQ:Q (.panic c) W bs ⟨σ.n,sZ ops σ.φ,dropKeys σ.h lost⟩):Wp P W bs nt ds (.region id ops true) Q σ:=λa w hs=>
 KH Γ hm hs hg hd hside λa' w' hs' => ⟨W,bs,_,Ext.refl W bs,hQ,hs'⟩
end
section
variable {P:Program}{W:World}{bs:List Nat}{nt:Nat}{ops:Array Oper}(Γ:Env P)
def Zl(Γ:Env P)(dst:Option Nat)(r:List Oper)(κ:Nat)(φ:Fr)(h:Hp)(s:S):RX:=match s.pan with
 |some c=>⟨s.side,some c,s.uk++s.pupd,[(s.uk,s.reads)]⟩
 |none=>KO s (zB Γ W bs nt ops r (κ+1) (oA φ dst s.fv) (a7 h s.bn))
theorem UJ(o:Oper)(r:List Oper)(κ:Nat)(φ:Fr)(h:Hp):zB Γ W bs nt ops (o::r) κ φ h=Zl (W:=W) (bs:=bs) (nt:=nt) (ops:=ops) Γ o.dst r κ φ h (step Γ W bs nt ops κ φ h o):=rfl
theorem Ou(dst:Option Nat)(r:List Oper)(κ:Nat)(φ:Fr)(h:Hp)(side:Prop)(fv:FV)(u:List (Nat×Option a6))(c:List PanicEntry)(pupd reads uk:List Nat) :
  Zl (W:=W) (bs:=bs) (nt:=nt) (ops:=ops) Γ dst r κ φ h ⟨side,fv,u,some c,pupd,reads,uk⟩=⟨side,some c,uk++pupd,[(uk,reads)]⟩:=rfl
theorem Ot(dst:Option Nat)(r:List Oper)(κ:Nat)(φ:Fr)(h:Hp)(side:Prop)(fv:FV)(u:List (Nat×Option a6))(pupd reads uk:List Nat) :
  Zl (W:=W) (bs:=bs) (nt:=nt) (ops:=ops) Γ dst r κ φ h ⟨side,fv,u,none,pupd,reads,uk⟩=KO ⟨side,fv,u,none,pupd,reads,uk⟩ (zB Γ W bs nt ops r (κ+1) (oA φ dst fv) (a7 h u)):=rfl
theorem Zr(side side' : Prop)(fv:FV)(u:List (Nat×Option a6))(pan:Option (List PanicEntry))(pupd reads uk lost:List Nat)(c:Option (List PanicEntry))(fx:List (List Nat×List Nat)) :
  KO ⟨side,fv,u,pan,pupd,reads,uk⟩ ⟨side',c,lost,fx⟩=⟨side/\side',c,uk++pupd++lost,(uk,reads)::fx⟩:=rfl
end
end
end Go.LE
namespace Go.Proofs.YtnemkecffmdlnaaGreatDoor
section
open Go Go.RowKit Go.LE
set_option maxRecDepth 10000
def aC:=(ae @List.replicate_succ.{0} @List.replicate_zero.{0} @au @ab kH kI kK (ae c8 da db dc dn dr dt (ae du ew ez eA eB eC eD (ae oL oN oO oP um uo uq (ae ur uu uv uw ux uy uz (ae jw jx jy jz jA ny nz (ae nA nB nC HI HJ HK HL (ae HM PQ PS PT HN HO HP (ae HQ HR PU PV ib ic ie (ae ig ahB ahC pD pE pF pG (ae pH pI pJ pK pL nD nE (ae nF nG nH nI nJ nL nM (ae lX lY lZ l6 l7 l8 l9 (ae ma mb mc me mf mg mh (ae mi mj ml mm mn HW HX (ae HY HZ H0 H2 H3 H4 H5 (ae H6 H7 H8 H9 Ia Ib Ic (ae Ie Ig Ih Ii Ij Ik Il (ae Im Io Ip Iq Ir Is It (ae Iu Iv Iw Ix Iy Iz IA (ae IB Ct Cu Cv Cw Cx Cy (ae Cz CA CB CC CD CE CF (ae CG CH CI CJ CK CL CM (ae CN yh yi yj yk yl ym (ae yn yo yp yq @nw @pc @kj (ae @lq @lp @gf @eP @aV @aw @aD (ae @aG @vg @sD @mT @u7 @sF @pb (ae @sE @cH @RU @Mj @RV @Mk @RY (ae @RW @Ml @RZ @R0 @R1 @FD @tE (ae @rO @vO @HE @pB @J5 @J4 @Yr (ae @Bm @Bi @Bh @J2 @vm @Dj @Di (ae @wx @yG @yF @td @cU @aH @Bs (ae @Kk @y9 @Br @za @QY @Bw @K9 (ae @La @mkF.eq_1 @cf @vA @sw @eN @zW (ae @bZ @aL @j6 @gQ.eq_1 @ng @nh @Bz (ae @By @pw @lu @Yq @Bg @Bf @Gq (ae @vj @Gr @NL @aaT @fm @dj @cM (fP @UJ @Ou @Ot @Zr))))))))))))))))))))))))))))))))))))))
theorem Yw(v:En)(a:Nat)(op:ByteArray)(x:Ex)(ih:wI v x):wI v (.unary a op x):=by
 intro vs e u uh fp w S hEn hEx hEs ho hlt hS;have u0:=af.up w S fp;have hse:=af.eO w S fp hS;obtain⟨hE0,hN0⟩:=hEn;obtain⟨hx0,hv0⟩:=hEx;have hEs1:=hEs.mono hse;have hv1:=hv0.mono hse;have hN1:=eR.mono hse hN0;simp only[cr]at hx0
 refine e9 (nt:=133) S #[e] [.tmp 4] (by show 1<=7;omega) ho hlt Tryz.func65 rfl rfl rfl ?_;cases hv1 with
 |unary _ _ z _ gx=>
 refine vR Γ0 aC ?_;refine vR Γ0 aC ?_;refine Wp.seq ?_;refine vR Γ0 aC ?_;refine Wp.block ?_;refine vR Γ0 aC ?_;refine wC aC (λhc=>?_) (λhc=>?_)
 ·cases hc
 refine vR Γ0 aC ?_;refine wC aC (λhc=>?_) (λhc=>?_)
 ·cases hc
 refine vR Γ0 aC ?_;refine wC aC (λhc=>?_) (λhc=>?_)
 ·cases hc
 refine vR Γ0 aC ?_;refine wC aC (λhc=>?_) (λhc=>?_)
 ·cases hc
 refine vR Γ0 aC ?_;refine wC aC (λhc=>?_) (λhc=>?_)
 rotate_left
 ·cases hc
 refine wR Γ0 (aa aC gx.parts) ?_ ?_
 ·first|trivial|exact gx.one
 cases hF:aQ v x with
 |error e=>
  obtain⟨c,j⟩:=e;have hE:aQ v (.unary a op x)=.error (c,j):=by simp only[aQ,hF,b9]
  rw[hE,aH];refine Wp.ahx (ab6 (af w S fp) v x ih vs a op z (.text 0 ⟨#[]⟩)) aM (ev (br aC hF gx.parts)) (by kernel_rfl) ?_ ?_
  ·exact⟨⟨gx,⟨hE0,hN1⟩,hx0.2.2,hEs1⟩,dE,λ_ h=>h.elim⟩
  refine qq ?_;exact⟨_,rfl⟩
 |ok t=>
 have hS1:=pn hE0 hx0.2.2 hF;cases hU:Fx a op t with
 |error e=>
  obtain⟨c,j⟩:=e;have hE:aQ v (.unary a op x)=.error (c,j):=by simp only[aQ,hF,b9,hU]
  rw[hE,aH];refine Wp.qx (ab6 (af w S fp) v x ih vs a op z t) aM (ev (fP aC hF hU gx.parts)) rfl (by kernel_rfl) ?_ ?_
  ·exact⟨⟨⟨gx,⟨hE0,hN1⟩,hx0.2.2,hEs1⟩,dE,(λ_ h=>h.elim),u0⟩,gx.one,rJ hS1⟩
  refine qq ?_;exact⟨_,rfl⟩
 |ok t0=>
 refine IN (ab6 (af w S fp) v x ih vs a op z t) (fP aC hF hU gx.parts) ?_ ?_
 ·exact⟨⟨⟨gx,⟨hE0,hN1⟩,hx0.2.2,hEs1⟩,dE,(λ_ h=>h.elim),u0⟩,⟨gx.one,rJ hS1⟩,u0⟩
 refine Wp.cV 208 (ev aC) (aX.refl _ _) λW3 bs3 cs hx3 hΦ3=>?_
 obtain⟨vo,rfl,hg3,hv3⟩:=Cc hΦ3;have hvo:=hg3;have hD:qL W3 vo=t0:=cg hvo;have hO:eQ W3 (Out bs3) vo t0:=hvo.mono λb _ hb=>⟨rfl,hb.2⟩
 have hpl:=λW bs κ hh=>wG (af w S fp) (W:=W) (bs:=bs) (κ:=κ) (hh:=hh) hv0
 refine Wp.seq ?_;refine wR (qm (af w S fp)) (br aC hD hv3) ?_ ?_
 ·exact⟨_,hO,(aeQ hS1.2 hU)⟩
 refine wC aC (λhc=>?_) (λhc=>?_)
 ·have hbig:2000<cj t0:=by
   simp at hc;omega
  have hE:aQ v (.unary a op x)=lF a t0:=by simp only[aQ,hF,b9,hU]
  rw[hE,lF,if_pos hbig,aH];refine Wp.dz (qm (af w S fp)) aM (ev (aa aC hpl)) ?_ ?_
  ·first|trivial|exact⟨_,_,rfl⟩
  refine qq ?_;exact⟨_,rfl⟩
 ·have hbig:¬ 2000<cj t0:=by
   simp at hc;omega
  have hE:aQ v (.unary a op x)=lF a t0:=by simp only[aQ,hF,b9,hU]
  rw[hE,lF,if_neg hbig,cU];refine wK ?_;refine vR Γ0 aC ?_;refine wZ (aa aC hv3) ?_
  exact eu (λE=>rfl) hvo rfl (by simp only[iC,Op.operands,Value.cells,σ0,σB,Nat.reduceEqDiff,Nat.reduceAdd,Nat.reduceMul,Nat.reduceLT,Nat.reduceLeDiff,Nat.reduceBEq,av,Int.reduceToNat,Int.reduceLT,Int.reduceLE,Nat.reduceDiv,Nat.reduceMod,Nat.reduceSub,Int.reducePow,Nat.reducePow,σP,σB3,aC,aq,eN,cI,cf]<;>rfl) dE
theorem T4(v:En)(a:Nat)(op:ByteArray)(x y:Ex)(ih:wI v x)(ih2:wI v y):wI v (.binary a op x y):=by
 intro vs e u uh fp w S hEn hEx hEs ho hlt hS;have u0:=af.up w S fp;have hse:=af.eO w S fp hS;obtain⟨hE0,hN0⟩:=hEn;obtain⟨hx0,hv0⟩:=hEx;have hEs1:=hEs.mono hse;have hv1:=hv0.mono hse;have hN1:=eR.mono hse hN0;simp only[cr]at hx0
 refine e9 (nt:=133) S #[e] [.tmp 4] (by show 1<=7;omega) ho hlt Tryz.func65 rfl rfl rfl ?_;cases hv1 with
 |binary _ _ z z2 _ _ gx gy=>
 refine vR Γ0 aC ?_;refine vR Γ0 aC ?_;refine Wp.seq ?_;refine vR Γ0 aC ?_;refine Wp.block ?_;refine vR Γ0 aC ?_;refine wC aC (λhc=>?_) (λhc=>?_)
 ·cases hc
 refine vR Γ0 aC ?_;refine wC aC (λhc=>?_) (λhc=>?_)
 ·cases hc
 refine vR Γ0 aC ?_;refine wC aC (λhc=>?_) (λhc=>?_)
 ·cases hc
 refine vR Γ0 aC ?_;refine wC aC (λhc=>?_) (λhc=>?_)
 ·cases hc
 refine vR Γ0 aC ?_;refine wC aC (λhc=>?_) (λhc=>?_)
 ·cases hc
 refine vR Γ0 aC ?_;refine wC aC (λhc=>?_) (λhc=>?_)
 rotate_left
 ·cases hc
 refine wR Γ0 (br aC gx.parts gy.parts) ?_ ?_
 ·first|trivial|exact⟨gx.one,gy.one⟩|(rw[Bool.and_eq_true];exact⟨gx.one,gy.one⟩)|(simp[gx.one,gy.one];done)
 cases hF:aQ v x with
 |error e=>
  obtain⟨c,j⟩:=e;have hE:aQ v (.binary a op x y)=.error (c,j):=by simp only[aQ,hF,b9]
  rw[hE,aH];refine Wp.bm (Qc (af w S fp) v x ih vs a op z z2 (.text 0 ⟨#[]⟩) (.text 0 ⟨#[]⟩) undef) aM (ev (fP aC hF gx.parts gy.parts)) ?_ ?_
  ·exact⟨⟨gx,⟨hE0,hN1⟩,hx0.2.2.1,hEs1⟩,dE,λ_ h=>h.elim⟩
  refine qq ?_;exact⟨_,rfl⟩
 |ok t=>
 have hS1:=pn hE0 hx0.2.2.1 hF;refine wR (Qc (af w S fp) v x ih vs a op z z2 (.text 0 ⟨#[]⟩) (.text 0 ⟨#[]⟩) undef) (fP aC hF gx.parts gy.parts) ?_ ?_
 ·exact⟨⟨gx,⟨hE0,hN1⟩,hx0.2.2.1,hEs1⟩,dE,(λ_ h=>h.elim),u0⟩
 refine Wp.cV 223 (ev aC) (aX.refl _ _) λW2 bs2 cs2 hx2 hΦ2=>?_
 obtain⟨va,rfl,hg2,hv2⟩:=Cc hΦ2;have u2:=u0.ext hx2;have hN2:=eR.mono hx2.dN hN1;have gy2:=gy.mono hx2.dN;have hEs2:=hEs1.mono hx2.dN;cases hF2:aQ v y with
 |error e=>
  obtain⟨c,j⟩:=e;have hE:aQ v (.binary a op x y)=.error (c,j):=by simp only[aQ,hF,hF2,b9]
  rw[hE,aH];refine Wp.ahx (Qc (af w S fp) v y ih2 vs a op z z2 t (.text 0 ⟨#[]⟩) va) aM (ev (sn aC hF2 gx.parts gy.parts hv2 (oK (t:=t) hg2))) (by kernel_rfl) ?_ ?_
  ·exact⟨⟨gy2,⟨hE0,hN2⟩,hx0.2.2.2,hEs2⟩,dE,λ_ h=>h.elim⟩
  refine qq ?_;exact⟨_,rfl⟩
 |ok t' =>
 have hS2:=pn hE0 hx0.2.2.2 hF2;cases hU:WE a op t t' with
 |error e=>
  obtain⟨c,j⟩:=e;have hE:aQ v (.binary a op x y)=.error (c,j):=by simp only[aQ,hF,hF2,b9,hU]
  rw[hE,aH];refine Wp.qx (Qc (af w S fp) v y ih2 vs a op z z2 t t' va) aM (ev (IL aC hF2 hU gx.parts gy.parts hv2 (oK (t:=t) hg2))) rfl (by kernel_rfl) ?_ ?_
  ·exact⟨⟨⟨gy2,⟨hE0,hN2⟩,hx0.2.2.2,hEs2⟩,dE,(λ_ h=>h.elim),u2⟩,⟨gx.one,gy.one⟩,hg2,rJ hS1,rJ hS2⟩
  refine qq ?_;exact⟨_,rfl⟩
 |ok t0=>
 refine IN (Qc (af w S fp) v y ih2 vs a op z z2 t t' va) (IL aC hF2 hU gx.parts gy.parts hv2 (oK (t:=t) hg2)) ?_ ?_
 ·exact⟨⟨⟨gy2,⟨hE0,hN2⟩,hx0.2.2.2,hEs2⟩,dE,(λ_ h=>h.elim),u2⟩,⟨⟨gx.one,gy.one⟩,hg2,rJ hS1,rJ hS2⟩,u2⟩
 refine Wp.cV 280 (ev aC) (aX.refl _ _) λW3 bs3 cs hx3 hΦ3=>?_
 obtain⟨vo,rfl,hg3,hv3⟩:=Cc hΦ3;have hvo:=hg3;have hD:qL W3 vo=t0:=cg hvo;have hO:eQ W3 (Out bs3) vo t0:=hvo.mono λb _ hb=>⟨rfl,hb.2⟩
 have hpl:=λW bs κ hh=>wG (af w S fp) (W:=W) (bs:=bs) (κ:=κ) (hh:=hh) hv0
 refine Wp.seq ?_;refine wR (qm (af w S fp)) (br aC hD hv3) ?_ ?_
 ·exact⟨_,hO,(acN hS1.2 hS2.2 hU)⟩
 refine wC aC (λhc=>?_) (λhc=>?_)
 ·have hbig:2000<cj t0:=by
   simp at hc;omega
  have hE:aQ v (.binary a op x y)=lF a t0:=by simp only[aQ,hF,hF2,b9,hU]
  rw[hE,lF,if_pos hbig,aH];refine Wp.dz (qm (af w S fp)) aM (ev (aa aC hpl)) ?_ ?_
  ·first|trivial|exact⟨_,_,rfl⟩
  refine qq ?_;exact⟨_,rfl⟩
 ·have hbig:¬ 2000<cj t0:=by
   simp at hc;omega
  have hE:aQ v (.binary a op x y)=lF a t0:=by simp only[aQ,hF,hF2,b9,hU]
  rw[hE,lF,if_neg hbig,cU];refine wK ?_;refine vR Γ0 aC ?_;refine wZ (aa aC hv3) ?_
  exact eu (λE=>rfl) hvo rfl (by simp only[iC,Op.operands,Value.cells,σ0,σB,Nat.reduceEqDiff,Nat.reduceAdd,Nat.reduceMul,Nat.reduceLT,Nat.reduceLeDiff,Nat.reduceBEq,av,Int.reduceToNat,Int.reduceLT,Int.reduceLE,Nat.reduceDiv,Nat.reduceMod,Nat.reduceSub,Int.reducePow,Nat.reducePow,σP,σB3,aC,aq,eN,cI,cf]<;>rfl) dE
theorem adM(v:En)(a:Nat)(op:ByteArray)(l:Ex)(ih:Wj v l):wI v (.call a op l):=by
 intro vs e u uh fp w S hEn hEx hEs ho hlt hS;have u0:=af.up w S fp;have hse:=af.eO w S fp hS;obtain⟨hE0,hN0⟩:=hEn;obtain⟨hx0,hv0⟩:=hEx;have hEs1:=hEs.mono hse;have hv1:=hv0.mono hse;have hN1:=eR.mono hse hN0;simp only[cr]at hx0
 refine e9 (nt:=133) S #[e] [.tmp 4] (by show 1<=7;omega) ho hlt Tryz.func65 rfl rfl rfl ?_;cases hv1 with
 |call _ _ eo ec xs _ g1 g2 g3=>
 refine vR Γ0 aC ?_;refine vR Γ0 aC ?_;refine Wp.seq ?_;refine vR Γ0 aC ?_;refine Wp.block ?_;refine vR Γ0 aC ?_;refine wC aC (λhc=>?_) (λhc=>?_)
 ·cases hc
 refine vR Γ0 aC ?_;refine wC aC (λhc=>?_) (λhc=>?_)
 ·cases hc
 refine vR Γ0 aC ?_;refine wC aC (λhc=>?_) (λhc=>?_)
 ·cases hc
 refine vR Γ0 aC ?_;refine wC aC (λhc=>?_) (λhc=>?_)
 ·cases hc
 refine vR Γ0 aC ?_;refine wC aC (λhc=>?_) (λhc=>?_)
 ·cases hc
 refine vR Γ0 aC ?_;refine wC aC (λhc=>?_) (λhc=>?_)
 ·cases hc
 refine vR Γ0 aC ?_;refine wC aC (λhc=>?_) (λhc=>?_)
 rotate_left
 ·cases hc
 refine vR Γ0 aC ?_;have hxx:cr (.call a op l):=by simp only[cr];exact hx0
 cases hU:qT v a op l with
 |error e=>
  obtain⟨c,j⟩:=e;have hE:aQ v (.call a op l)=.error (c,j):=by rw[xE,hU];rfl
  rw[hE,aH];refine Wp.dz (ajH (af w S fp) v vs a op l ih eo ec xs) aM (ev (aa aC hU)) ?_ ?_
  ·exact⟨⟨⟨hE0,hN1⟩,⟨hxx,g2⟩,g1,g3,hEs1⟩,dE,λ_ h=>h.elim⟩
  refine qq ?_;exact⟨_,rfl⟩
 |ok t0=>
 have hsz:cj t0<=fw:=by
  unfold qT at hU;split at hU
  ·cases hU
  ·rename_i ts hts;exact Sx (JZ hE0 hx0.2.2.2.2 hts).1 hU
 refine wr (ajH (af w S fp) v vs a op l ih eo ec xs) (aa aC hU) ?_ ?_
 ·exact⟨⟨⟨hE0,hN1⟩,⟨hxx,g2⟩,g1,g3,hEs1⟩,dE,(λ_ h=>h.elim),u0⟩
 refine Wp.cV 239 (ev aC) (aX.refl _ _) λW3 bs3 cs hx3 hΦ3=>?_
 obtain⟨vo,rfl,hg3,hv3⟩:=Cc hΦ3;have hvo:=hg3;have hD:qL W3 vo=t0:=cg hvo;have hO:eQ W3 (Out bs3) vo t0:=hvo.mono λb _ hb=>⟨rfl,hb.2⟩
 have hpl:=λW bs κ hh=>wG (af w S fp) (W:=W) (bs:=bs) (κ:=κ) (hh:=hh) hv0
 refine Wp.seq ?_;refine wR (qm (af w S fp)) (br aC hD hv3) ?_ ?_
 ·exact⟨_,hO,hsz⟩
 refine wC aC (λhc=>?_) (λhc=>?_)
 ·have hbig:2000<cj t0:=by
   simp at hc;omega
  have hE:aQ v (.call a op l)=lF a t0:=by rw[xE,hU];rfl
  rw[hE,lF,if_pos hbig,aH];refine Wp.dz (qm (af w S fp)) aM (ev (aa aC hpl)) ?_ ?_
  ·first|trivial|exact⟨_,_,rfl⟩
  refine qq ?_;exact⟨_,rfl⟩
 ·have hbig:¬ 2000<cj t0:=by
   simp at hc;omega
  have hE:aQ v (.call a op l)=lF a t0:=by rw[xE,hU];rfl
  rw[hE,lF,if_neg hbig,cU];refine wK ?_;refine vR Γ0 aC ?_;refine wZ (aa aC hv3) ?_
  exact eu (λE=>rfl) hvo rfl (by simp only[iC,Op.operands,Value.cells,σ0,σB,Nat.reduceEqDiff,Nat.reduceAdd,Nat.reduceMul,Nat.reduceLT,Nat.reduceLeDiff,Nat.reduceBEq,av,Int.reduceToNat,Int.reduceLT,Int.reduceLE,Nat.reduceDiv,Nat.reduceMod,Nat.reduceSub,Int.reducePow,Nat.reducePow,σP,σB3,aC,aq,eN,cI,cf]<;>rfl) dE
theorem Yu(v:En)(a:Nat)(x:Ex)(ih:wI v x):wI v (.keyed a x):=by
 intro vs e u uh fp w S hEn hEx hEs ho hlt hS;have u0:=af.up w S fp;have hse:=af.eO w S fp hS;obtain⟨hE0,hN0⟩:=hEn;obtain⟨hx0,hv0⟩:=hEx;have hEs1:=hEs.mono hse;have hv1:=hv0.mono hse;have hN1:=eR.mono hse hN0;simp only[cr]at hx0
 refine e9 (nt:=133) S #[e] [.tmp 4] (by show 1<=7;omega) ho hlt Tryz.func65 rfl rfl rfl ?_;cases hv1 with
 |keyed _ z _ gx=>
 refine vR Γ0 aC ?_;refine vR Γ0 aC ?_;refine Wp.seq ?_;refine vR Γ0 aC ?_;refine Wp.block ?_;refine vR Γ0 aC ?_;refine wC aC (λhc=>?_) (λhc=>?_)
 ·cases hc
 refine vR Γ0 aC ?_;refine wC aC (λhc=>?_) (λhc=>?_)
 ·cases hc
 refine vR Γ0 aC ?_;refine wC aC (λhc=>?_) (λhc=>?_)
 ·cases hc
 refine vR Γ0 aC ?_;refine wC aC (λhc=>?_) (λhc=>?_)
 rotate_left
 ·cases hc
 refine wR Γ0 (aa aC gx.parts) ?_ ?_
 ·first|trivial|exact gx.one
 cases hF:aQ v x with
 |error e=>
  obtain⟨c,j⟩:=e;have hE:aQ v (.keyed a x)=.error (c,j):=by simp only[aQ,hF,b9]
  rw[hE,aH];refine Wp.bm (D8 (af w S fp) v x ih vs) aM (ev (br aC hF gx.parts)) ?_ ?_
  ·exact⟨⟨gx,⟨hE0,hN1⟩,hx0.2,hEs1⟩,dE,λ_ h=>h.elim⟩
  refine qq ?_;exact⟨_,rfl⟩
 |ok t=>
 have hS1:=pn hE0 hx0.2 hF;cases t with
 |text b s=>
  have hE:aQ v (.keyed a x)=.error (72,(a:Nat)):=by simp only[aQ,hF,b9,Gm,gM]
  rw[hE,aH];refine wR (D8 (af w S fp) v x ih vs) (br aC hF gx.parts) ?_ ?_
  ·exact⟨⟨gx,⟨hE0,hN1⟩,hx0.2,hEs1⟩,dE,(λ_ h=>h.elim),u0⟩
  refine Wp.seq ?_;refine vR Γ0 aC ?_;refine wC aC (λhc=>?_) (λhc=>?_)
  rotate_left
  ·cases hc
  refine Wp.dz (D8 (af w S fp) v x ih vs) aM (ev aC) ?_ ?_
  ·first|trivial|exact⟨_,_,rfl⟩
  refine qq ?_;exact⟨_,rfl⟩
 |rx b r=>
  have hE:aQ v (.keyed a x)=.error (72,(a:Nat)):=by simp only[aQ,hF,b9,Gm,gM]
  rw[hE,aH];refine wR (D8 (af w S fp) v x ih vs) (br aC hF gx.parts) ?_ ?_
  ·exact⟨⟨gx,⟨hE0,hN1⟩,hx0.2,hEs1⟩,dE,(λ_ h=>h.elim),u0⟩
  refine Wp.seq ?_;refine vR Γ0 aC ?_;refine wC aC (λhc=>?_) (λhc=>?_)
  rotate_left
  ·cases hc
  refine Wp.dz (D8 (af w S fp) v x ih vs) aM (ev aC) ?_ ?_
  ·first|trivial|exact⟨_,_,rfl⟩
  refine qq ?_;exact⟨_,rfl⟩
 |canon c=>
  have hE:aQ v (.keyed a x)=.error (72,(a:Nat)):=by simp only[aQ,hF,b9,Gm,gM]
  rw[hE,aH];refine wR (D8 (af w S fp) v x ih vs) (br aC hF gx.parts) ?_ ?_
  ·exact⟨⟨gx,⟨hE0,hN1⟩,hx0.2,hEs1⟩,dE,(λ_ h=>h.elim),u0⟩
  refine Wp.seq ?_;refine vR Γ0 aC ?_;refine wC aC (λhc=>?_) (λhc=>?_)
  rotate_left
  ·cases hc
  refine Wp.dz (D8 (af w S fp) v x ih vs) aM (ev aC) ?_ ?_
  ·first|trivial|exact⟨_,_,rfl⟩
  refine qq ?_;exact⟨_,rfl⟩
 |lens l=>
 obtain⟨t0,hK⟩:∃ t0,Gm a (.lens l)=.ok t0:=⟨_,rfl⟩;refine wR (D8 (af w S fp) v x ih vs) (br aC hF gx.parts) ?_ ?_
 ·exact⟨⟨gx,⟨hE0,hN1⟩,hx0.2,hEs1⟩,dE,(λ_ h=>h.elim),u0⟩
 refine Wp.cV 175 (ev aC) (aX.refl _ _) λW2 bs2 cs hx2 hΦ2=>?_
 obtain⟨p,rfl,hp⟩:=hΦ2;have hvp:=hp.hv;have u2:=u0.ext hx2;refine Wp.seq ?_;refine vR Γ0 (aa aC hvp) ?_;refine wC aC (λhc=>?_) (λhc=>?_)
 ·cases hc
 refine wK ?_;refine vr Γ0 (br aC hvp hp.parts) ?_;refine Wp.cR 272 (ev (aa aC hvp)) (λE=>by simp only[aj,den,hvp];exact rfl) λW3 bs3 b3 hx3 hb3 hn3 hc3=>?_
 refine Wp.aic 5 ((ev (aa aC hvp))) ((ev (aa aC hvp))) ?_;have hb:bE (af w S fp) bs3 b3:=⟨u2 b3 hn3,hb3⟩;have hg3:eQ W3 (bE (af w S fp) bs3) (.iface 197 (.pointer (some ⟨b3,0,none⟩))) (.lens (.mk a iD none ⟨#[]⟩ .nil l .nil)):=⟨_,rfl,rm (n:=none) hb hc3 .nil (hp.mono hx3.dN) .nil⟩;have hvo:=hg3
 have hD:qL W3 (.iface 197 (.pointer (some ⟨b3,0,none⟩)))=(.lens (.mk a iD none ⟨#[]⟩ .nil l .nil)):=cg hvo;have hO:eQ W3 (Out bs3) (.iface 197 (.pointer (some ⟨b3,0,none⟩))) (.lens (.mk a iD none ⟨#[]⟩ .nil l .nil)):=hvo.mono λb _ hb=>⟨rfl,hb.2⟩
 have hpl:=λW bs κ hh=>wG (af w S fp) (W:=W) (bs:=bs) (κ:=κ) (hh:=hh) hv0
 refine Wp.seq ?_;refine wR (qm (af w S fp)) (br aC hD hvp) ?_ ?_
 ·exact⟨_,hO,(X1 (a:=a) hS1.2 rfl)⟩
 refine wC aC (λhc=>?_) (λhc=>?_)
 ·have hbig:2000<cj (.lens (.mk a iD none ⟨#[]⟩ .nil l .nil)):=by
   simp at hc;omega
  have hE:aQ v (.keyed a x)=lF a (.lens (.mk a iD none ⟨#[]⟩ .nil l .nil)):=by simp only[aQ,hF,b9,Gm]
  rw[hE,lF,if_pos hbig,aH];refine Wp.dz (qm (af w S fp)) aM (ev (aa aC hpl)) ?_ ?_
  ·first|trivial|exact⟨_,_,rfl⟩
  refine qq ?_;exact⟨_,rfl⟩
 ·have hbig:¬ 2000<cj (.lens (.mk a iD none ⟨#[]⟩ .nil l .nil)):=by
   simp at hc;omega
  have hE:aQ v (.keyed a x)=lF a (.lens (.mk a iD none ⟨#[]⟩ .nil l .nil)):=by simp only[aQ,hF,b9,Gm]
  rw[hE,lF,if_neg hbig,cU];refine wK ?_;refine vR Γ0 aC ?_;refine wZ (aa aC hvp) ?_
  exact eu (λE=>rfl) hvo rfl (by simp only[iC,Op.operands,Value.cells,σ0,σB,Nat.reduceEqDiff,Nat.reduceAdd,Nat.reduceMul,Nat.reduceLT,Nat.reduceLeDiff,Nat.reduceBEq,av,Int.reduceToNat,Int.reduceLT,Int.reduceLE,Nat.reduceDiv,Nat.reduceMod,Nat.reduceSub,Int.reducePow,Nat.reducePow,σP,σB3,aC,aq,eN,cI,cf]<;>rfl) dE
theorem adL(v:En)(x:Ex):wI v x/\Wj v x:=by
 induction x with
 |name a s=>exact⟨adN v a s,trivial⟩
 |text a s=>exact⟨adO v a s,trivial⟩
 |rx a s=>exact⟨akz v a s,trivial⟩
 |call a w l ih=>exact⟨adM v a w l ih.2,trivial⟩
 |keyed a x ih=>exact⟨Yu v a x ih.1,trivial⟩
 |unary a op x ih=>exact⟨Yw v a op x ih.1,trivial⟩
 |binary a op x y ih ih2=>exact⟨T4 v a op x y ih.1 ih2.1,trivial⟩
 |nil=>exact⟨(λvs e u uh fp w S h1 h2=>by cases h2.2),trivial⟩
 |cons x l ih ih2=>exact⟨(λvs e u uh fp w S h1 h2=>by cases h2.2),ih.1,ih2.2⟩
theorem Bn(v:En)(x:Ex):wI v x:=(adL v x).1
def elF(t:Tm):FK:=⟨λcs W S=>∃ v,cs=[v,.int .i64 0,.int .i64 0,.string ⟨#[]⟩]/\eQ W S v t,λhs ⟨v,h1,h2⟩=>⟨v,h1,h2.mono hs⟩⟩
def elO:TE->FOut
 |.ok t=>.fact Sh.pf (elF t)
 |.error (c,a)=>.val (.tuple #[.nilIface,nS c a ⟨#[]⟩])
theorem F6(t:Tm):elO (.ok t)=.fact Sh.pf (elF t):=rfl
theorem jQ(c a:Int):elO (.error (c,a))=.val (.tuple #[.nilIface,nS c a ⟨#[]⟩]):=rfl
def qV(v:En)(ds:List (Nat×ByteArray×Ex))(x:Ex):TE:=match yR v ds with
 |.error e=>.error e
 |.ok v=>aQ v x
theorem SC(v:En)(x:Ex):qV v [] x=aQ v x:=rfl
theorem Jt{v:En}{a:Nat}{s:ByteArray}{y:Ex}{ds:List (Nat×ByteArray×Ex)}{x:Ex}{t:Tm}(h:Mt v s=some t):qV v ((a,s,y)::ds) x=.error (71,(a:Nat)):=by
 unfold qV;rw[yR,h]
theorem W7{v:En}{a:Nat}{s:ByteArray}{y:Ex}{ds:List (Nat×ByteArray×Ex)}{x:Ex}{e:Int×Int}(h:Mt v s=none)(hy:aQ v y=.error e):qV v ((a,s,y)::ds) x=.error e:=by
 unfold qV;rw[yR,h,hy]
theorem W8{v:En}{a:Nat}{s:ByteArray}{y:Ex}{ds:List (Nat×ByteArray×Ex)}{x:Ex}{t:Tm}(h:Mt v s=none)(hy:aQ v y=.ok t):qV v ((a,s,y)::ds) x=qV (v++[(s,t)]) ds x:=by
 unfold qV;rw[yR,h,hy]
theorem QI{s:ByteArray}:∀ {v:En},Mt v s=none->s∉rn v
 |[],_=>by simp[rn]
 | (k,t)::r,h=>by
  rw[Mt]at h;split at h
  ·cases h
  ·rename_i hk;have:=QI (v:=r) h;simp only[rn,List.map_cons,List.mem_cons,not_or]at this ⊢;exact⟨λh=>hk h.symm,this⟩
theorem KB(ex:List Tk->PR):∀ n ds r p r',lR ex n ds r=.ok (p,r')->p.1.length<=ds.length+n
 |0,ds,r,p,r',he=>by cases he
 | n+1,ds,r,p,r',he=>by
  rw[lR]at he
  repeat' split at he
  all_goals first
   |(cases he;done)
   | (have:=KB ex n _ _ _ _ he
      rw[List.length_append,List.length_singleton]at this
      omega)
   | (cases he
      simp)
theorem HB{s:ByteArray}{p:Pm}(h:tU s=.ok p):p.1.length<=4097:=by
 unfold tU at h;split at h
 ·split at h
  ·cases h
  ·rename_i q r hq;cases h;have:=KB _ _ _ _ _ _ hq;have:=KU s;simp only[List.length_nil]at *;omega
 ·cases h
structure PL where
 W:World
 bs:List Nat
 us:List Value
 v:En
 ds:List (Nat×ByteArray×Ex)
 k:Nat
section
variable (G:Nat->Prop)(v:En)(x:Ex)(h:wI v x)(vs:List Value)
noncomputable def Mm:Env Tryz.prog:=⟨λ| 65=>some ((tW v x h vs).spec G)|64=>some (gQ.spec G)|_=>none,λ| 39=>some qC|_=>none,λ_ _=>none⟩
theorem afH:(Mm G v x h vs).sp 65=some ((tW v x h vs).spec G):=rfl
theorem afG:(Mm G v x h vs).sp 64=some (gQ.spec G):=rfl
theorem VZ:(Mm G v x h vs).eqs 39=some qC:=rfl
end
def eI:=(ae @List.replicate_succ.{0} @List.replicate_zero.{0} @au @ab kH kI Ri (ae Rm RN kK c8 da db dc (ae dn dr dt du ew ez eA (ae eB eC eD IC ID IE IF (ae oL oN oO oP um uo uq (ae ur uu uv uw ux uy uz (ae jw jx jy jz jA PK PM (ae Ch Ci Cj Ck Cl PN PO (ae aae aaf aag aah ny nz nA (ae nB nC Cm Co Cp Cq Cr (ae Cs HI HJ HK HL HM PQ (ae PS PT HN HO HP HQ HR (ae aai aaj aak aal aam aan aao (ae aap PU PV @nw @pc @kj @lq (ae @lp @zw @ze @rF @D3 @vD @aaU (ae @gf @eP @aV @aw @aD @aG @vg (ae @sD @mT @u7 @sF @pb @sE @cH (ae @afH @afG @VZ @tE @rO @vO @HE (ae @pB @cU @aH @mkF.eq_1 @nS.eq_1 @DO.eq_1 @cf (ae @vA @sw @eN @zW @bZ @aL @j6 (ae @gQ.eq_1 @pw @lu @Yq @Bg @Bf @Gq (ae @vj @Gr @NL @aaT @σR.eq_1 @σL.eq_1 @lM.eq_1 (br @lM.eq_2 @rj.eq_1 @rj.eq_2)))))))))))))))))))))))
noncomputable def acQ:CatchC Tryz.prog 63 where
 Ts:=[54,39]
 enters:=Tryz.call63
 pre:=λvss pv=>(∃ a f g h,vss=[[a],[f,g,h]])/\∃ c i t,pv=.iface 39 (nS c i t)
 out:=λvss pv=>[[.nilIface],match pv with|.iface _ (.agg x)=>x.toList|_=>[]]
 oQ:=λvss pv=>[.nilIface,match pv with|.iface _ x=>x|_=>undef]
 vals_ok:=by
  rintro vss pv ⟨_,c,i,t,rfl⟩
  refine⟨.inr ⟨by simp only[iC,Op.operands,Value.cells,σ0,σB,Nat.reduceEqDiff,Nat.reduceAdd,Nat.reduceMul,Nat.reduceLT,Nat.reduceLeDiff,Nat.reduceBEq,av,Int.reduceToNat,Int.reduceLT,Int.reduceLE,Nat.reduceDiv,Nat.reduceMod,Nat.reduceSub,Int.reducePow,Nat.reducePow,σP,σB3,eI],rfl⟩,.inl ⟨by simp only[iC,Op.operands,Value.cells,σ0,σB,Nat.reduceEqDiff,Nat.reduceAdd,Nat.reduceMul,Nat.reduceLT,Nat.reduceLeDiff,Nat.reduceBEq,av,Int.reduceToNat,Int.reduceLT,Int.reduceLE,Nat.reduceDiv,Nat.reduceMod,Nat.reduceSub,Int.reducePow,Nat.reducePow,σP,σB3,eI]<;>rfl,by simp only[iC,Op.operands,Value.cells,σ0,σB,Nat.reduceEqDiff,Nat.reduceAdd,Nat.reduceMul,Nat.reduceLT,Nat.reduceLeDiff,Nat.reduceBEq,av,Int.reduceToNat,Int.reduceLT,Int.reduceLE,Nat.reduceDiv,Nat.reduceMod,Nat.reduceSub,Int.reducePow,Nat.reducePow,σP,σB3,eI],rfl⟩,trivial⟩
 quiet:=λw us hl=>by
  match us,hl with
  | [u0,u1],_=>
   refine lg (nt:=8) w _ Tryz.func63 rfl rfl oM oM rfl ?_;refine vR Γ0 eI ?_;refine wC eI (λhc=>?_) (λhc=>?_)
   ·simp at hc
   ·refine wK ?_;simp only[iC,Op.operands,Value.cells,σ0,σB,Nat.reduceEqDiff,Nat.reduceAdd,Nat.reduceMul,Nat.reduceLT,Nat.reduceLeDiff,Nat.reduceBEq,av,Int.reduceToNat,Int.reduceLT,Int.reduceLE,Nat.reduceDiv,Nat.reduceMod,Nat.reduceSub,Int.reducePow,Nat.reducePow,σP,σB3,mM,fS,kp,iw,eI]
    done
 caught:=λw us bl vss pv hl hn hlt hp=>by
  obtain⟨⟨a,f,g,h,rfl⟩,k,i,t,rfl⟩:=hp;have h3:=hl.len.1;refine kf (nt:=8) Tryz.func63 rfl rfl oM oM ?_ hl hn hlt ?_ ?_
  ·rw[h3];rfl
  ·rw[h3];decide
  intro us _;refine vR Γ0 eI ?_;refine wC eI (λhc=>?_) (λhc=>?_)
  ·skip;refine vrD Γ0 (aa eI @nS.eq_1) ?_;refine wS eI ?_;exact⟨rfl,rfl,trivial⟩
  ·cases hc
theorem Xe(w:World)(S:Nat->Prop):Calls Tryz.prog 27 #[.pointer none] w λe w' => kA w S e w' (.val (.tuple #[.nilIface,nS 2 0 ⟨#[]⟩])):=by
 refine qU (nt:=57) S Tryz.func27 rfl rfl ?_;refine gN.seq' (rs:=[.cell 2 54,.cell 3 39]) rfl ?_;refine vr Γ0 eI ?_;refine gN.seq' (rs:=[.cell 2 54,.cell 3 39]) rfl ?_;refine vR Γ0 eI ?_;refine wC eI (λhc=>?_) (λhc=>?_)
 ·skip;refine vR Γ0 eI ?_;refine wZ eI ?_;exact λE=>rfl
 ·cases hc
theorem Xd(p:Pm)(v0:Value)(w:World)(S:Nat->Prop)(hp:PmV w S v0 p)(hok:Ob p)(hn:p.1.length<=4097)(hg:bg w S):Calls Tryz.prog 27 #[v0] w λe w' => kA w S e w' (elO (qW p)):=by
 have u0:=aE.up w S;have g0:=hg.mono (aE.eO w S);obtain⟨b,ao,c,xs,u,rfl,hx0,hx1,⟨hsl,hdf,hle⟩,hmain⟩:=hp.mono (aE.eO w S);obtain⟨ds0,xm⟩:=p;simp only at hx0 hdf hle hmain hok hn;obtain⟨ok1,ok2⟩:=hok;simp only at ok1 ok2;have hlen:=hdf.len;have hE:qW (ds0,xm)=qV [] ds0 xm:=rfl;rw[hE]
 generalize hR:qV [] ds0 xm=R;refine qU (nt:=57) S Tryz.func27 rfl rfl ?_;refine gN.seq' (rs:=[.cell 2 54,.cell 3 39]) rfl ?_;refine vr Γ0 eI ?_;refine gN.seq' (rs:=[.cell 2 54,.cell 3 39]) rfl ?_;refine vR Γ0 eI ?_;refine wC eI (λhc=>?_) (λhc=>?_)
 ·cases hc
 refine wK ?_;refine gN.F4 (rs:=[.cell 2 54,.cell 3 39]) rfl acQ [2,3] [0,8] rfl dE rfl dE rfl rfl ?_ ?_ λus hus=>?_
 ·rintro p hp;simp only[List.zip_cons_cons,List.zip_nil_right,List.mem_cons,List.not_mem_nil,or_false]at hp;rcases hp with rfl|rfl<;>rfl
 ·rintro k hk;simp only[List.mem_cons,List.not_mem_nil,or_false]at hk;rcases hk with rfl|rfl<;>exact⟨_,_,rfl⟩
 refine vR Γ0 eI ?_;refine Wp.seq ?_;refine vR Γ0 (aa eI hx0.2) ?_
 match us,hus with
 |[u0',u1'],_=>
 refine Wp.block ?_
 refine Wp.qv (λp:PL=>⟨30,dZ [(0,.is (.v (.pointer (some ⟨b,0,none⟩)))),(2,.is (.own 0 0)),(3,.is (.own 8 0)),(4,.is (.own 4 0)),(19,.is (.v (.slice ao ds0.length c))),(20,.is (.v (.int .i64 (ds0.length:Nat)))),(21,.is (.v (.int .i64 (p.k:Nat))))],dM [(0,.cells 54 [.v .nilIface]),(8,.cells 39 [.v (.int .i64 0),.v (.int .i64 0),.v (.string ⟨#[]⟩)]),(4,.cells 132 [.hd 5]),(5,.mp (rn p.v) (p.us.map .v))]⟩)
  PL.W PL.bs (λp=>(bg p.W (bE (aE w S) p.bs)/\XC p.W (bE (aE w S) p.bs) b 1 u/\Ac p.W (bE (aE w S) p.bs) u xm/\jC p.W (bE (aE w S) p.bs) ao xs)/\(Qf p.W (bE (aE w S) p.bs) (xs.drop (3*p.k)) p.ds/\(∀ d∈p.ds,acW d)/\p.k+p.ds.length=ds0.length)/\(uV p.v/\Ab p.W (bE (aE w S) p.bs) p.us p.v)/\qV p.v p.ds xm=R) (λp=>ds0.length-p.k) ⟨w,[],[],[],ds0,0⟩ rfl rfl ?_ ⟨⟨g0,hx1,hmain,hsl⟩,⟨hdf,ok1,Nat.zero_add _⟩,⟨λe he=>(by cases he),trivial⟩,hR⟩ ?_
 ·exact wM (λk=>if k=4 then .key 64 else if k=5 then .key 48 else .key k) (br eI @Int.natCast_zero @rn.eq_1)
 rintro⟨W1,bs1,us1,v1,ds1,k⟩ ⟨⟨e1,m1,m2,s1⟩,⟨d1,d2,d3⟩,⟨n0,n1⟩,hR1⟩ hx1';simp only at e1 m1 m2 s1 d1 d2 d3 n0 n1 hR1 hx1';dsimp only;have u1:=u0.ext hx1';refine vR Γ0 eI ?_;refine Wp.seq ?_;refine wC eI (λhc=>?_) (λhc=>?_)
 ·have hk1:k<ds0.length:=by
   simp at hc;omega
  clear hc;have wk:IntKind.i64.wrap ((k:Int)+1)=((k+1:Nat):Int):=wW;refine wK ?_;refine Wp.seq (Wp.block ?_);cases ds1 with
  |nil=>exfalso;simp at d3;omega
  |cons d ds2=>
  obtain⟨a,s,y⟩:=d;obtain⟨hda,hds,hdy⟩:=d2 (a,s,y) sI;simp only at hda hds hdy;generalize hdr:xs.drop (3*k)=D at d1;cases d1 with
  |cons _ _ yv _ D2 _ gy gD=>
  have at0:xs[3*k]?=some (.int .i64 (a:Nat)):=by
   have:=congrArg (λl=>l[0]?) hdr;simpa [List.getElem?_drop] using this
  have at1:xs[3*k+1]?=some (.string s):=by
   have:=congrArg (λl=>l[1]?) hdr;simpa [List.getElem?_drop] using this
  have at2:xs[3*k+2]?=some yv:=by
   have:=congrArg (λl=>l[2]?) hdr;simpa [List.getElem?_drop] using this
  obtain⟨b1,o1,rfl,hb1,c0⟩:=jC.cell s1 at0;obtain⟨b1',o1',e1',_,c1⟩:=jC.cell s1 at1;cases e1';obtain⟨b1',o1',e1',_,c2⟩:=jC.cell s1 at2;cases e1';have c0' : W1.cell? ⟨b1,o1+k*3,none⟩=some (.int .i64 (a:Nat)):=by rw[show o1+k*3=o1+3*k by omega];exact c0
  have c1' : W1.cell? ⟨b1,o1+k*3+1,none⟩=some (.string s):=by rw[show o1+k*3+1=o1+(3*k+1) by omega];exact c1
  have c2' : W1.cell? ⟨b1,o1+k*3+1+1,none⟩=some yv:=by rw[show o1+k*3+1+1=o1+(3*k+2) by omega];exact c2
  refine wR Γ0 (fP eI c0' c1' c2') ?_ ?_
  ·exact⟨⟨oM,oM⟩,hb1.2,gy.one⟩
  refine Wp.seq ?_;cases hL:Mt v1 s with
  |some t=>
   obtain⟨z,hF,hz⟩:=AI n1 hL;rw[Jt hL]at hR1;rw[<- hR1,jQ];refine yt Γ0 (br eI hF (oK (t:=t) hz)) ?_;refine vR Γ0 eI ?_;refine wC eI (λhc=>?_) (λhc=>?_)
   rotate_left
   ·cases hc
   refine Wp.dz (Mm (aE w S) v1 y (Bn v1 y) us1) aM (ev eI) ?_ ?_
   ·first|trivial|exact⟨_,_,rfl⟩
   refine qq ?_;refine wS eI ?_;refine⟨.iface 39 (nS 71 (a:Nat) ⟨#[]⟩),[[.nilIface],[.int .i64 0,.int .i64 0,.string ⟨#[]⟩]],rfl,⟨?_,?_,?_,?_,trivial⟩,⟨⟨_,_,_,_,rfl⟩,71,(a:Nat),⟨#[]⟩,rfl⟩,λE=>rfl⟩
   all_goals rfl
  | none=>
   have hF:=AH n1 hL;have hnot:=QI hL;refine yt Γ0 (aa eI hF) ?_;refine vR Γ0 eI ?_;refine wC eI (λhc=>?_) (λhc=>?_)
   ·cases hc
   refine wK ?_;cases hF2:aQ v1 y with
   |error e=>
    obtain⟨ec,ej⟩:=e;rw[W7 hL hF2]at hR1;rw[<- hR1,jQ];refine Wp.qx (Mm (aE w S) v1 y (Bn v1 y) us1) aM (ev (br eI hF2 gy.parts)) rfl (by kernel_rfl) ?_ ?_
    ·exact⟨⟨⟨gy,⟨n0,n1⟩,hdy,e1⟩,dE,λ_ h=>h.elim⟩,hnot⟩
    refine qq ?_;refine wS eI ?_;refine⟨.iface 39 (nS ec ej ⟨#[]⟩),[[.nilIface],[.int .i64 0,.int .i64 0,.string ⟨#[]⟩]],rfl,⟨?_,?_,?_,?_,trivial⟩,⟨⟨_,_,_,_,rfl⟩,ec,ej,⟨#[]⟩,rfl⟩,λE=>rfl⟩
    all_goals rfl
   | ok t=>
    rw[W8 hL hF2]at hR1;refine Wp.more ?_;refine IN (Mm (aE w S) v1 y (Bn v1 y) us1) (br eI hF2 gy.parts) ?_ ?_
    ·exact⟨⟨⟨gy,⟨n0,n1⟩,hdy,e1⟩,dE,(λ_ h=>h.elim),u1⟩,hnot⟩
    refine dd ?_;refine Pw.cV 463 (ev eI) (aX.refl _ _) λW3 bs3 cs hx3 hΦ3=>?_
    obtain⟨v3,rfl,hg3,hv3⟩:=Cc hΦ3;refine Pw.here ?_;refine qq ?_;refine vr Γ0 (aa eI wk) ?_;have em:List.map SV.v us1++[.v v3]=List.map SV.v (us1++[v3]):=by simp
    have en:rn v1++[s]=rn (v1++[(s,t)]):=by simp[rn]
    refine⟨⟨W3,bs3,us1++[v3],v1++[(s,t)],ds2,k+1⟩,⟨⟨e1.mono hx3.dN,m1.mono hx3.dN,m2.mono hx3.dN,s1.mono hx3.dN⟩,⟨?_,λd hd=>d2 d (List.mem_cons_of_mem _ hd),by simp at d3 ⊢;omega⟩,⟨?_,?_⟩,hR1⟩,by dsimp only;omega,rfl,rfl,?_⟩
    ·have:xs.drop (3*(k+1))=D2:=by
      rw[show 3*(k+1)=3*k+3 by omega,<- List.drop_drop,hdr];rfl
     rw[this];exact gD.mono hx3.dN
    ·intro e he;rcases List.mem_append.1 he with he|he
     ·exact n0 e he
     ·rw[List.mem_singleton.1 he];exact pn n0 hdy hF2
    ·show eR _ _ _ ((v1++[(s,t)]).map (·.2));rw[List.map_append];exact eR.snoc hg3 (eR.mono hx3.dN n1)
    exact wM (λk=>.key k) (fP eI hv3 em en)
 ·have hkN:k=ds0.length:=by
   simp at hc;omega
  refine wE ?_;have hds:ds1=[]:=List.length_eq_zero_iff.1 oM;subst hds;rw[SC]at hR1;cases hF2:aQ v1 xm with
  |error e=>
   obtain⟨ec,ej⟩:=e;rw[hF2]at hR1;rw[<- hR1,jQ];refine Wp.bm (Mm (aE w S) v1 xm (Bn v1 xm) us1) aM (ev (fP eI hF2 m1.2 m2.parts)) ?_ ?_
   ·exact⟨m1.1.2,⟨m2,⟨n0,n1⟩,ok2,e1⟩,dE,λ_ h=>h.elim⟩
   refine qq ?_;refine wS eI ?_;refine⟨.iface 39 (nS ec ej ⟨#[]⟩),[[.nilIface],[.int .i64 0,.int .i64 0,.string ⟨#[]⟩]],rfl,⟨?_,?_,?_,?_,trivial⟩,⟨⟨_,_,_,_,rfl⟩,ec,ej,⟨#[]⟩,rfl⟩,λE=>rfl⟩
   all_goals rfl
  |ok t=>
   rw[hF2]at hR1;rw[<- hR1,F6];refine wR (Mm (aE w S) v1 xm (Bn v1 xm) us1) (fP eI hF2 m1.2 m2.parts) ?_ ?_
   ·exact⟨m1.1.2,⟨m2,⟨n0,n1⟩,ok2,e1⟩,dE,(λ_ h=>h.elim),u1⟩
   refine Wp.cV 295 (ev eI) (aX.refl _ _) λW3 bs3 cs hx3 hΦ3=>?_
   obtain⟨v3,rfl,hg3,hv3⟩:=Cc hΦ3;refine wZ (aa eI hv3) ?_;exact⟨[v3,.int .i64 0,.int .i64 0,.string ⟨#[]⟩],λE=>(N7 hv3).symm,v3,rfl,hg3⟩
end
end Go.Proofs.YtnemkecffmdlnaaGreatDoor
