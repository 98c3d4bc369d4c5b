/-
 Part 6 of the proof (packed).
-/
import Derived.Test.YtnemkecffmdlnaaGreatDoorU5
set_option linter.unusedSimpArgs false
set_option linter.unusedVariables false
set_option linter.defProp false
set_option maxHeartbeats 16000000
namespace Go.Proofs.YtnemkecffmdlnaaGreatDoor
section
open Go Go.RowKit Go.LE
set_option maxRecDepth 10000
def oL:Option Rx->Value
 |none=>.nilIface
 |some r=>ax r
theorem rJ:∀ a b:Option Rx,oL a=oL b->a=b
 |none,none,_=>rfl
 |none,some r,h=>by cases r<;>cases h
 |some r,none,h=>by cases r<;>cases h
 |some r,some r',h=>by rw[ba r r' h]
inductive An (W:World) (S:Nat->Prop):Value->Cn->Prop where
 |nil:An W S (.pointer none) .nil
 | mk (b a:Nat) (op:ByteArray) (n:Option Rx) (to bk:ByteArray) (va vb:Value) (x y:Cn):XC W S b 0 (.int .i64 (a:Nat))->XC W S b 1 (.string op)->XC W S b 2 (oL n)->XC W S b 3 (.string to)->XC W S b 4 (.string bk) ->
   XC W S b 5 va->XC W S b 6 vb->An W S va x->An W S vb y->An W S (.pointer (some ⟨b,0,none⟩)) (.mk a op n to bk x y)
inductive y7 (W:World) (S:Nat->Prop):Value->Ln->Prop where
 |nil:y7 W S (.pointer none) .nil
 | mk (b a:Nat) (op:ByteArray) (n:Option Rx) (tx:ByteArray) (vq va vb:Value) (q:Cn) (x y:Ln):XC W S b 0 (.int .i64 (a:Nat))->XC W S b 1 (.string op)->XC W S b 2 (oL n)->XC W S b 3 (.string tx)->XC W S b 4 vq ->
   XC W S b 5 va->XC W S b 6 vb->An W S vq q->y7 W S va x->y7 W S vb y->y7 W S (.pointer (some ⟨b,0,none⟩)) (.mk a op n tx q x y)
theorem An.mono{W W' : World}{S S' : Nat->Prop}{v:Value}{c:Cn}(h:An W S v c)(hs:aY W S W' S'):An W' S' v c:=by
 induction h with
 |nil=>exact .nil
 |mk b a op n to bk va vb x y h0 h1 h2 h3 h4 h5 h6 _ _ i1 i2=>exact .mk b a op n to bk va vb x y (h0.mono hs) (h1.mono hs) (h2.mono hs) (h3.mono hs) (h4.mono hs) (h5.mono hs) (h6.mono hs) i1 i2
theorem y7.mono{W W' : World}{S S' : Nat->Prop}{v:Value}{l:Ln}(h:y7 W S v l)(hs:aY W S W' S'):y7 W' S' v l:=by
 induction h with
 |nil=>exact .nil
 |mk b a op n tx vq va vb q x y h0 h1 h2 h3 h4 h5 h6 hq _ _ i1 i2=>exact .mk b a op n tx vq va vb q x y (h0.mono hs) (h1.mono hs) (h2.mono hs) (h3.mono hs) (h4.mono hs) (h5.mono hs) (h6.mono hs) (hq.mono hs) i1 i2
theorem xcDet{W:World}{S S' : Nat->Prop}{b o:Nat}{v v' : Value}(h:XC W S b o v)(h' : XC W S' b o v'):v=v' := Option.some.inj (h.2.symm.trans h'.2)
theorem R1{a b:Nat}(h:Value.int .i64 (a:Int)=.int .i64 (b:Int)):a=b:=by
 cases h;rfl
theorem An.Ek{W:World}{S:Nat->Prop}{v:Value}{c:Cn}(h:An W S v c):∀ {S' : Nat->Prop} {c' : Cn},An W S' v c' -> c=c' := by
 induction h with
 |nil=>intro S' c' h';cases h';rfl
 | mk b a op n to bk va vb x y h0 h1 h2 h3 h4 h5 h6 _ _ i1 i2=>
  intro S' c' h';cases h' with
  |mk _ a' op' n' to' bk' va' vb' x' y' g0 g1 g2 g3 g4 g5 g6 gx gy=>
   obtain rfl:=R1 (xcDet h0 g0);obtain rfl:=Value.string.inj (xcDet h1 g1);obtain rfl:=rJ _ _ (xcDet h2 g2);obtain rfl:=Value.string.inj (xcDet h3 g3);obtain rfl:=Value.string.inj (xcDet h4 g4);obtain rfl:=xcDet h5 g5;obtain rfl:=xcDet h6 g6;rw[i1 gx,i2 gy]
theorem y7.Ek{W:World}{S:Nat->Prop}{v:Value}{l:Ln}(h:y7 W S v l):∀ {S' : Nat->Prop} {l' : Ln},y7 W S' v l' -> l=l' := by
 induction h with
 |nil=>intro S' c' h';cases h';rfl
 | mk b a op n tx vq va vb q x y h0 h1 h2 h3 h4 h5 h6 hq _ _ i1 i2=>
  intro S' c' h';cases h' with
  |mk _ a' op' n' tx' vq' va' vb' q' x' y' g0 g1 g2 g3 g4 g5 g6 gq gx gy=>
   obtain rfl:=R1 (xcDet h0 g0);obtain rfl:=Value.string.inj (xcDet h1 g1);obtain rfl:=rJ _ _ (xcDet h2 g2);obtain rfl:=Value.string.inj (xcDet h3 g3);obtain rfl:=xcDet h4 g4;obtain rfl:=xcDet h5 g5;obtain rfl:=xcDet h6 g6;rw[hq.Ek gq,i1 gx,i2 gy]
def eS(W:World)(S:Nat->Prop)(v:Value):Tm->Prop
 |.text a s=>v=.iface 190 (.agg #[.int .i64 (a:Nat),.string s])
 |.rx a r=>v=.iface 192 (.agg #[.int .i64 (a:Nat),ax r])
 |.canon c=>∃ p,v=.iface 193 p/\An W S p c
 |.lens l=>∃ p,v=.iface 197 p/\y7 W S p l
theorem eS.mono{W W' : World}{S S' : Nat->Prop}{v:Value}{t:Tm}(h:eS W S v t)(hs:aY W S W' S'):eS W' S' v t:=by
 cases t with
 |text a s=>exact h
 |rx a r=>exact h
 |canon c=>obtain⟨p,h1,h2⟩:=h;exact⟨p,h1,h2.mono hs⟩
 |lens l=>obtain⟨p,h1,h2⟩:=h;exact⟨p,h1,h2.mono hs⟩
theorem eS.iface{W:World}{S:Nat->Prop}{v:Value}{t:Tm}(h:eS W S v t):∃ k u,v=.iface k u:=by
 cases t with
 |text a s=>exact⟨_,_,h⟩
 |rx a r=>exact⟨_,_,h⟩
 |canon c=>obtain⟨p,h1,h2⟩:=h;exact⟨_,_,h1⟩
 |lens l=>obtain⟨p,h1,h2⟩:=h;exact⟨_,_,h1⟩
theorem eS.one{W:World}{S:Nat->Prop}{v:Value}{t:Tm}(h:eS W S v t):v.oneCell' = true:=by
 obtain⟨k,u,rfl⟩:=h.iface;rfl
theorem eS.hv{W:World}{S:Nat->Prop}{v:Value}{t:Tm}(h:eS W S v t):hv v=v:=fE h.one
theorem eS.Ek{W:World}{S S' : Nat->Prop}{v:Value}{t t' : Tm}(h:eS W S v t)(h' : eS W S' v t'):t=t' := by
 cases t with
 | text a s=>
  cases h;cases t' with
  |text a' s' =>
   have h' : Value.iface _ _=Value.iface _ _:=h';simp only[Value.iface.injEq,Value.agg.injEq,true_and,Array.mk.injEq,List.cons.injEq,Value.int.injEq,Value.string.injEq,and_true]at h';obtain⟨h1,rfl⟩:=h';have:a=a' := oM;rw[this]
  |rx a' r=>exact absurd h' (by intro h';cases h')
  |canon c=>obtain⟨p,h1,_⟩:=h';cases h1
  |lens c=>obtain⟨p,h1,_⟩:=h';cases h1
 | rx a r=>
  cases h;cases t' with
  |rx a' r' =>
   have h' : Value.iface _ _=Value.iface _ _:=h';simp only[Value.iface.injEq,Value.agg.injEq,true_and,Array.mk.injEq,List.cons.injEq,Value.int.injEq,and_true]at h';obtain⟨h1,h2⟩:=h';have:a=a' := oM;rw[this,ba _ _ h2]
  |text a' r=>exact absurd h' (by intro h';cases h')
  |canon c=>obtain⟨p,h1,_⟩:=h';cases h1
  |lens c=>obtain⟨p,h1,_⟩:=h';cases h1
 | canon c=>
  obtain⟨p,rfl,h2⟩:=h;cases t' with
  |canon c' =>
   obtain⟨p',h1',h2'⟩:=h';cases h1';rw[h2.Ek h2']
  |text a s=>exact absurd h' (by intro h';cases h')
  |rx a r=>exact absurd h' (by intro h';cases h')
  |lens l=>obtain⟨p',h1',h2'⟩:=h';cases h1'
 | lens l=>
  obtain⟨p,rfl,h2⟩:=h;cases t' with
  |lens l' =>
   obtain⟨p',h1',h2'⟩:=h';cases h1';rw[h2.Ek h2']
  |text a s=>exact absurd h' (by intro h';cases h')
  |rx a r=>exact absurd h' (by intro h';cases h')
  |canon l=>obtain⟨p',h1',h2'⟩:=h';cases h1'
noncomputable def qY(W:World)(v:Value):Tm:=by
 classical exact if h:∃ t,eS W (λ_=>True) v t then h.choose else .text 0 ⟨#[]⟩
theorem eS.all{W:World}{S:Nat->Prop}{v:Value}{t:Tm}(h:eS W S v t):eS W (λ_=>True) v t:=h.mono λb _ _=>⟨rfl,trivial⟩
theorem cl{W:World}{S:Nat->Prop}{v:Value}{t:Tm}(h:eS W S v t):qY W v=t:=by
 have hex:∃ t,eS W (λ_=>True) v t:=⟨t,h.all⟩;unfold qY;rw[dif_pos hex];exact hex.choose_spec.Ek h
def dC:Cn->Nat
 |.nil=>0
 |.mk _ _ _ _ _ a b=>dC a+dC b+1
def dL:Ln->Nat
 |.nil=>0
 |.mk _ _ _ _ q a b=>dC q+dL a+dL b+1
def dT:Tm->Nat
 |.canon c=>dC c
 |.lens l=>dL l
 |_=>0
abbrev fY:Nat:=1152921504606846976
def adK:=(ae @List.replicate_succ.{0} @List.replicate_zero.{0} @au @ab kQ kS kU (ae dc dd de df dv dw dz (ae dA eB eC eD eE eF eG (ae jH jI jJ jK jL iA iB (ae iC iD pR pS pT pU pV (ae pW pX pY pZ nS nT nU (ae nV nW nX nY nZ n7 p4 (ae p5 p6 p7 p8 p9 qc qd (ae qe qf qg qh qi qj qk (ae ql qm qn qp mi mj ml (ae mm mn mq mr mu mv mw (ae my mz mA mB mC mD mE (ae mF mG @aV @aw @aD @aG @Bf (aa @aL @fy))))))))))))))
theorem afY(s:ByteArray)(hs:s.size<=2305843009213693952)(w:World):Calls Tryz.prog 97 #[.string s] w λe w' => e=.returned (.int .i64 (mU s))/\an w [] w' := by
 refine ak (nt:=8) [.tmp 2] Tryz.func97 rfl rfl rfl ?_;refine vR Γ0 adK ?_;refine vR Γ0 adK ?_;refine wZ adK ?_;refine λE=>?_
 simp only[den,mU]
 congr 1
 rw[aA (n:=2*(s.size:Int)) oM oM,aA oM oM];omega
def afX:a7 Tryz.prog 97 where
 pre:=λW bs=>λ| [.val (.string s)]=>s.size<=2305843009213693952|_=>False
 res:=λW=>λ| [.val (.string s)]=>.int .i64 (mU s)|_=>undef
 enters:=Tryz.call97
 ok:=by
  intro W w bs us as_ hk hu hp;split at hp
  ·rename_i s
   match us,hu with
   |[u0],hu=>
    obtain⟨rfl,_⟩:=hu;exact afY s hp w
  ·exact hp.elim
theorem Mh(W:World)(s:ByteArray):afX.res W [.val (.string s)]=.int .i64 (mU s):=rfl
theorem Mg(W:World)(bs:List Nat)(s:ByteArray):afX.pre W bs [.val (.string s)]=(s.size<=2305843009213693952):=rfl
noncomputable def amj(n:Nat):Env Tryz.prog:=⟨λf=>spS n (oK n) f,λ_=>none,ZO⟩
theorem acY{n:Nat}{W:World}{bs:List Nat}{κ:Nat}{hh:Hp}(r:Rx):aI (amj n) W bs κ hh "Size" [.v (ax r)]=⟨bR r<n/\bR r<=1152921504606846976,.v (.int .i64 (bR r)),[],none,[],[]⟩:=
 Bv n (oK n) rfl (λt f hf=>rfl) r
def Ee:=(fJ adK @Mh @Mg @acY)
theorem aeX(n:Option Rx)(hs:dZ n<=fY)(w:World):Calls Tryz.prog 98 #[oL n] w λe w' => e=.returned (.int .i64 (dZ n))/\an w [] w' := by
 cases n with
 | none=>
  refine ak (nt:=7) [.tmp 2] Tryz.func98 rfl rfl rfl ?_;refine vR Γ0 (bw Ee @oL.eq_1 @oL.eq_2) ?_;refine Wp.seq ?_;refine vR Γ0 Ee ?_;refine wC Ee (λhc=>?_) (λhc=>?_)
  ·skip;refine vR Γ0 Ee ?_;refine wZ Ee ?_;exact λE=>rfl
  ·cases hc
 | some r=>
  refine ak (nt:=7) [.tmp 2] Tryz.func98 rfl rfl rfl ?_;refine vR Γ0 (bw Ee @oL.eq_1 @oL.eq_2) ?_;refine Wp.seq ?_;refine vR Γ0 Ee ?_;refine wC Ee (λhc=>?_) (λhc=>?_)
  ·cases hc
  ·refine wK ?_;refine wR (amj (bR r+1)) Ee ?_ ?_
   ·exact⟨Nat.lt_succ_self _,hs⟩
   refine wZ Ee ?_;exact λE=>rfl
noncomputable def Vf:a7 Tryz.prog 98 where
 pre:=λW bs=>λ| [.val y0]=>(match dec oL y0 with|some n=>dZ n<=fY|_=>False)|_=>False
 res:=λW=>λ| [.val y0]=>(match dec oL y0 with|some n=>.int .i64 (dZ n)|_=>undef)|_=>undef
 enters:=Tryz.call98
 ok:=by
  intro W w bs us as_ hk hu hp;split at hp
  ·rename_i y0;split at hp
   ·rename_i n h0
    match us,hu with
    |[u0],hu=>
     obtain⟨rfl,_⟩:=hu;obtain rfl:=gi h0
     try dsimp only
     try simp only[bW rJ]
     exact aeX n hp w
   ·exact hp.elim
  ·exact hp.elim
theorem ZU(W:World)(n:Option Rx):Vf.res W [.val (oL n)]=.int .i64 (dZ n):=by simp only[Vf,bW rJ]
theorem ZT(W:World)(bs:List Nat)(n:Option Rx):Vf.pre W bs [.val (oL n)]=(dZ n<=fY):=by simp only[Vf,bW rJ]
abbrev za (n:Nat):Prop:=∀ (t:Tm) (v:Value) (w:World),eS w (Out []) v t->dT t<n->cq t<=fY->Calls Tryz.prog 58 #[v] w λe w' => e=.returned (.int .i64 (cq t))/\an w [] w'
noncomputable def FL(n:Nat)(h:za n):a7 Tryz.prog 58 where
 pre:=λW bs as_=>∃ v t,as_=[.val v]/\eS W (Out bs) v t/\dT t<n/\cq t<=fY
 res:=λW as_=>match as_ with
  |[.val v]=>.int .i64 (cq (qY W v))
  |_=>undef
 enters:=Tryz.call58
 ok:=by
  intro W w bs us as_ hk hu hp;obtain⟨v,t,rfl,h1,h2,h3⟩:=hp
  match us,hu with
  |[x],hu=>
   obtain⟨rfl,_⟩:=hu;simp only[cl h1];exact h t x w (h1.mono λb hb hn=>⟨hk.block b hb hn,by simp[Out]⟩) h2 h3
theorem FM(n:Nat)(h:za n)(W:World)(bs:List Nat)(v:Value):(FL n h).pre W bs [.val v]=∃ t,eS W (Out bs) v t/\dT t<n/\cq t<=fY:=by
 apply propext;constructor
 ·rintro⟨v',t,h1,h2⟩;cases h1;exact⟨t,h2⟩
 ·exact λ⟨t,h2⟩=>⟨v,t,rfl,h2⟩
theorem FN(n:Nat)(h:za n)(W:World)(v:Value):(FL n h).res W [.val v]=.int .i64 (cq (qY W v)):=rfl
noncomputable def EK(n:Nat)(h:za n)(k:Nat):Env Tryz.prog:=⟨λ| 97=>some afX.spec|98=>some Vf.spec|58=>some (FL n h).spec|f=>spS k (oK k) f,λ_=>none,ZO⟩
section
variable (n:Nat)(h:za n)(k:Nat)
theorem agI:(EK n h k).sp 97=some afX.spec:=rfl
theorem agJ:(EK n h k).sp 98=some Vf.spec:=rfl
theorem agH:(EK n h k).sp 58=some (FL n h).spec:=rfl
theorem acZ{W:World}{bs:List Nat}{κ:Nat}{hh:Hp}(r:Rx):aI (EK n h k) W bs κ hh "Size" [.v (ax r)]=⟨bR r<k/\bR r<=1152921504606846976,.v (.int .i64 (bR r)),[],none,[],[]⟩:=
 Bv k (oK k) rfl (λt f hf=>by
  unfold fnS at hf
  split at hf<;>cases hf<;>rfl) r
end
theorem alm(b:Nat):b∉([]:List Nat):=by simp
theorem wrS{a b:Int}(h0:0<=a)(h1:0<=b)(h2:a+b<=9223372036854775807):IntKind.i64.wrap (a+b)=a+b:=aA oM h2
def cz:=(ae @List.replicate_succ.{0} @List.replicate_zero.{0} @au @ab kQ kS kU (ae dc dd de df dv dw dz (ae dA eB eC eD eE eF eG (ae jH jI jJ jK jL iA iB (ae iC iD pR pS pT pU pV (ae pW pX pY pZ nS nT nU (ae nV nW nX nY nZ n7 p4 (ae p5 p6 p7 p8 p9 qc qd (ae qe qf qg qh qi qj qk (ae ql qm qn qp mi mj ml (ae mm mn mq mr mu mv mw (ae my mz mA mB mC mD mE (ae mF mG @aV @aw @aD @aG @aL (ae @fy @agI @agJ @agH @acZ @FM @FN (qE @gr @Mh @Mg @ZU @ZT)))))))))))))))
theorem Wn(n:Nat)(h:za n):za (n+1):=by
 intro t v w hv hd hsz;refine ak (nt:=105) [.tmp 2] Tryz.func58 rfl rfl rfl ?_;refine vR Γ0 cz ?_;refine Wp.seq ?_;refine vR Γ0 cz ?_;refine Wp.block ?_;cases t with
 | text a s=>
  obtain rfl:v=_:=hv;have hs:mU s<=fY:=hsz;have hs2:s.size<=2305843009213693952:=by unfold mU fY at hs;omega
  refine vR Γ0 cz ?_;refine wC cz (λhc=>?_) (λhc=>?_)
  ·skip;refine vR Γ0 cz ?_;refine vR (EK n h 0) cz ?_;refine wZ cz ?_;exact λE=>rfl
  ·first|cases hc|exact absurd hc sI
 | rx a r=>
  obtain rfl:v=_:=hv;have hs:bR r<=fY:=hsz;refine vR Γ0 cz ?_;refine wC cz (λhc=>?_) (λhc=>?_)
  ·first|cases hc|exact absurd hc sI
  refine vR Γ0 cz ?_;refine wC cz (λhc=>?_) (λhc=>?_)
  ·skip;refine wR Γ0 cz ?_ ?_
   ·exact aL r
   refine wR (EK n h (bR r+1)) cz ?_ ?_
   ·exact⟨Nat.lt_succ_self _,hs⟩
   refine wZ cz ?_;exact λE=>rfl
  ·first|cases hc|exact absurd hc sI
 | canon c=>
  obtain⟨p,rfl,hc0⟩:=hv;refine vR Γ0 cz ?_;refine wC cz (λhc=>?_) (λhc=>?_)
  ·first|cases hc|exact absurd hc sI
  refine vR Γ0 cz ?_;refine wC cz (λhc=>?_) (λhc=>?_)
  ·first|cases hc|exact absurd hc sI
  refine vR Γ0 cz ?_;refine wC cz (λhc=>?_) (λhc=>?_)
  rotate_left
  ·first|cases hc|exact absurd hc sI
  cases hc0 with
  | nil=>
   refine vR Γ0 cz ?_;refine Wp.seq ?_;refine vR Γ0 cz ?_;refine wC cz (λhc=>?_) (λhc=>?_)
   ·skip;refine vR Γ0 cz ?_;refine wZ cz ?_;exact λE=>rfl
   ·first|cases hc|exact absurd hc sI
  | mk b a op nd to bk va vb x y h0 h1 h2 h3 h4 h5 h6 hx hy=>
   have ta:qY w (.iface 193 va)=.canon x:=cl (S:=Out []) ⟨va,rfl,hx⟩;have tb:qY w (.iface 193 vb)=.canon y:=cl (S:=Out []) ⟨vb,rfl,hy⟩;have tya:eS w (Out []) (.iface 193 va) (.canon x):=⟨va,rfl,hx⟩;have tyb:eS w (Out []) (.iface 193 vb) (.canon y):=⟨vb,rfl,hy⟩;simp only[dT,dC]at hd
   have hT:cq (.canon (.mk a op nd to bk x y))=1+dZ nd+ed x+ed y+(if op=jz then mU to else 0):=rfl;have hbx:cq (.canon x)=ed x:=rfl;have hby:cq (.canon y)=ed y:=rfl;have hs1:1+dZ nd+ed x+ed y<=1152921504606846976:=by
    rw[hT]at hsz;unfold fY at hsz;omega
   refine vR Γ0 cz ?_;refine Wp.seq ?_;refine vR Γ0 cz ?_;refine wC cz (λhc=>?_) (λhc=>?_)
   ·first|cases hc|exact absurd hc sI
   refine wK ?_;have w0:IntKind.i64.wrap ((1:Int)+((dZ nd:Nat):Int))=(1:Int)+((dZ nd:Nat):Int):=wrS oM oM oM;have w1:IntKind.i64.wrap ((1:Int)+((dZ nd:Nat):Int)+((ed x:Nat):Int))=(1:Int)+((dZ nd:Nat):Int)+((ed x:Nat):Int):=wrS oM oM oM
   have w2:IntKind.i64.wrap ((1:Int)+((dZ nd:Nat):Int)+((ed x:Nat):Int)+((ed y:Nat):Int))=(1:Int)+((dZ nd:Nat):Int)+((ed x:Nat):Int)+((ed y:Nat):Int):=wrS oM oM oM;refine kA (EK n h 0) (ae cz ta tb h1.2 h2.2 h3.2 h5.2 (sK h6.2 hbx hby w0 w1 w2)) ?_ ?_
   ·exact⟨by unfold fY;omega,⟨_,tya,by simp only[dT];omega,by rw[hbx];unfold fY;omega⟩,⟨_,tyb,by simp only[dT];omega,by rw[hby];unfold fY;omega⟩⟩
   refine Wp.seq ?_;refine vR Γ0 (aa cz h1.2) ?_;refine wC cz (λhc=>?_) (λhc=>?_)
   ·have ho:op=jz:=by simpa [jz,lY] using hc
    have hs3:1+dZ nd+ed x+ed y+mU to<=1152921504606846976:=by
     rw[hT,if_pos ho]at hsz;exact hsz
    have hs4:to.size<=2305843009213693952:=by
     have:mU to<=1152921504606846976:=oM;unfold mU at this;omega
    refine wr (EK n h 0) (aa cz h3.2) ?_ ?_
    ·exact hs4
    refine vR Γ0 cz ?_;refine wZ cz ?_;refine λE=>?_
    simp only[den];rw[hT,if_pos ho,wrS oM oM oM]
    push_cast
    rfl
   ·have ho:¬ op=jz:=by simpa [jz,lY] using hc
    refine wK ?_;refine vR Γ0 cz ?_;refine wZ cz ?_;refine λE=>?_
    simp only[den];rw[hT,if_neg ho]
    push_cast
    rfl
 | lens c=>
  obtain⟨p,rfl,hc0⟩:=hv;refine vR Γ0 cz ?_;refine wC cz (λhc=>?_) (λhc=>?_)
  ·first|cases hc|exact absurd hc sI
  refine vR Γ0 cz ?_;refine wC cz (λhc=>?_) (λhc=>?_)
  ·first|cases hc|exact absurd hc sI
  refine vR Γ0 cz ?_;refine wC cz (λhc=>?_) (λhc=>?_)
  ·first|cases hc|exact absurd hc sI
  refine vR Γ0 cz ?_;refine wC cz (λhc=>?_) (λhc=>?_)
  rotate_left
  ·first|cases hc|exact absurd hc sI
  cases hc0 with
  | nil=>
   refine vR Γ0 cz ?_;refine Wp.seq ?_;refine vR Γ0 cz ?_;refine wC cz (λhc=>?_) (λhc=>?_)
   ·skip;refine vR Γ0 cz ?_;refine wZ cz ?_;exact λE=>rfl
   ·first|cases hc|exact absurd hc sI
  | mk b a op nd tx vq va vb q x y h0 h1 h2 h3 h4 h5 h6 hq hx hy=>
   have tq:qY w (.iface 193 vq)=.canon q:=cl (S:=Out []) ⟨vq,rfl,hq⟩;have ta:qY w (.iface 197 va)=.lens x:=cl (S:=Out []) ⟨va,rfl,hx⟩;have tb:qY w (.iface 197 vb)=.lens y:=cl (S:=Out []) ⟨vb,rfl,hy⟩;have tyq:eS w (Out []) (.iface 193 vq) (.canon q):=⟨vq,rfl,hq⟩
   have tya:eS w (Out []) (.iface 197 va) (.lens x):=⟨va,rfl,hx⟩;have tyb:eS w (Out []) (.iface 197 vb) (.lens y):=⟨vb,rfl,hy⟩;simp only[dT,dL]at hd;have hT:cq (.lens (.mk a op nd tx q x y))=1+dZ nd+ed q+iz x+iz y+(if op=lY then mU tx else 0):=rfl;have hbq:cq (.canon q)=ed q:=rfl
   have hbx:cq (.lens x)=iz x:=rfl;have hby:cq (.lens y)=iz y:=rfl;have hs1:1+dZ nd+ed q+iz x+iz y<=1152921504606846976:=by
    rw[hT]at hsz;unfold fY at hsz;omega
   refine vR Γ0 cz ?_;refine Wp.seq ?_;refine vR Γ0 cz ?_;refine wC cz (λhc=>?_) (λhc=>?_)
   ·first|cases hc|exact absurd hc sI
   refine wK ?_;have w0:IntKind.i64.wrap ((1:Int)+((dZ nd:Nat):Int))=(1:Int)+((dZ nd:Nat):Int):=wrS oM oM oM;have w1:IntKind.i64.wrap ((1:Int)+((dZ nd:Nat):Int)+((ed q:Nat):Int))=(1:Int)+((dZ nd:Nat):Int)+((ed q:Nat):Int):=wrS oM oM oM
   have w2:IntKind.i64.wrap ((1:Int)+((dZ nd:Nat):Int)+((ed q:Nat):Int)+((iz x:Nat):Int))=(1:Int)+((dZ nd:Nat):Int)+((ed q:Nat):Int)+((iz x:Nat):Int):=wrS oM oM oM
   have w3:IntKind.i64.wrap ((1:Int)+((dZ nd:Nat):Int)+((ed q:Nat):Int)+((iz x:Nat):Int)+((iz y:Nat):Int))=(1:Int)+((dZ nd:Nat):Int)+((ed q:Nat):Int)+((iz x:Nat):Int)+((iz y:Nat):Int):=wrS oM oM oM
   refine kA (EK n h 0) (ae cz tq ta tb h1.2 h2.2 h3.2 (ae h4.2 h5.2 h6.2 hbq hbx hby w0 (bw w1 w2 w3))) ?_ ?_
   ·exact⟨by unfold fY;omega,⟨_,tyq,by simp only[dT];omega,by rw[hbq];unfold fY;omega⟩,⟨_,tya,by simp only[dT];omega,by rw[hbx];unfold fY;omega⟩,⟨_,tyb,by simp only[dT];omega,by rw[hby];unfold fY;omega⟩⟩
   refine Wp.seq ?_;refine vR Γ0 (aa cz h1.2) ?_;refine wC cz (λhc=>?_) (λhc=>?_)
   ·have ho:op=lY:=by simpa [jz,lY] using hc
    have hs3:1+dZ nd+ed q+iz x+iz y+mU tx<=1152921504606846976:=by
     rw[hT,if_pos ho]at hsz;exact hsz
    have hs4:tx.size<=2305843009213693952:=by
     have:mU tx<=1152921504606846976:=oM;unfold mU at this;omega
    refine wr (EK n h 0) (aa cz h3.2) ?_ ?_
    ·exact hs4
    refine vR Γ0 cz ?_;refine wZ cz ?_;refine λE=>?_
    simp only[den];rw[hT,if_pos ho,wrS oM oM oM]
    push_cast
    rfl
   ·have ho:¬ op=lY:=by simpa [jz,lY] using hc
    refine wK ?_;refine vR Γ0 cz ?_;refine wZ cz ?_;refine λE=>?_
    simp only[den];rw[hT,if_neg ho]
    push_cast
    rfl
theorem CC:∀ n,za n
 |0=>λt v w _ h=>absurd h (Nat.not_lt_zero _)
 |n+1=>Wn n (CC n)
noncomputable def tH:Env Tryz.prog:=⟨λ| 245=>some ofC.spec|_=>none,λ_=>none,λ_ _=>none⟩
theorem ac0:tH.sp 245=some ofC.spec:=rfl
def Xx(s:ByteArray):Nat->Value
 |0=>.nilIface
 |k+1=>ax (qO s (k+1))
theorem amV(s:ByteArray)(k:Nat)(h:k<s.size):(s.extract k (k+1)).size=1:=by rw[ByteArray.size_extract];omega
def ly:=(ae @List.replicate_succ.{0} @List.replicate_zero.{0} @au @ab kQ kS kU (ae dc dd de df dv dw dz (ae dA eB eC eD eE eF eG (ae iA iB iC iD wL wO wP (ae wQ DC DD DE DF DG DH (ae DI DJ DK DL DM DN DO (ae DP DQ DR w6 w7 w8 w9 (ae SE SF SG SH SI SJ SK (ae SL @aV @aw @aD @aG @Bf @aL (ae @dr @cO @mM @mK @kp @qB @iS (fJ @b6 @R6 @R5 @ac0)))))))))))
theorem V0(s:ByteArray)(hs:s.size<=140737488351232)(w:World):Calls Tryz.prog 208 #[.string s] w λe w' => e=.returned (ax (L8 s))/\an w [] w' := by
 refine ak (nt:=33) [.tmp 2] Tryz.func208 rfl rfl rfl ?_;refine vR tH ly ?_;refine Wp.seq ?_;refine vR tH ly ?_;refine wC ly (λhc=>?_) (λhc=>?_)
 ·have h0:s=⟨#[]⟩:=by simpa using hc
  subst h0;refine vR tH ly ?_;refine wZ ly ?_;exact λE=>rfl
 have h0:¬ s=⟨#[]⟩:=by simpa using hc
 have hpos:0<s.size:=by
  rcases Nat.eq_zero_or_pos s.size with h|h
  ·exact absurd (ByteArray.size_eq_zero_iff.1 h) h0
  ·exact h
 refine wK ?_;refine vR tH ly ?_;refine Wp.seq ?_;refine vR tH ly ?_;refine Wp.block ?_;refine Wp.loop (λk:Nat=>⟨1,ee [(0,.is (.v (.string s))),(3,.is (.v (Xx s k))),(11,.is (.v (.int .i64 s.size))),(12,.is (.v (.int .i64 (k:Nat))))],dP []⟩) (λk=>k<=s.size) (λk=>s.size-k) 0 ?_ (Nat.zero_le _) ?_
 ·exact wM (λk=>.key k) (bw ly @Xx.eq_1 @Xx.eq_2)
 rintro k h1;refine vR tH ly ?_;refine Wp.seq ?_;refine wC ly (λhc=>?_) (λhc=>?_)
 ·have hk:k<s.size:=by simp at hc;omega
  have wn:IntKind.i64.wrap ((k:Int)+1)=((k+1:Nat):Int):=wW;have hx:=amV s k hk;refine wK ?_;refine Wp.seq (Wp.block ?_);refine vR tH ly ?_;refine wR tH (bw ly wn hx) ?_ ?_
  ·first|exact⟨oM,oM,oM⟩|exact⟨oM,oM,oM,oM⟩|skip
  cases k with
  | zero=>
   refine vR tH (bw ly @Xx.eq_1 @Xx.eq_2) ?_;refine wC ly (λhc=>?_) (λhc=>?_)
   ·skip;refine vr tH ly ?_;refine vr tH (aa ly wn) ?_;refine⟨1,oM,oM,?_⟩;exact wM (λk=>.key k) (sK ly @Xx.eq_1 @Xx.eq_2 @qO.eq_1 @qO.eq_2 @qO.eq_3)
   ·cases hc
  | succ k=>
   refine vR tH (bw ly @Xx.eq_1 @Xx.eq_2) ?_;refine wC ly (λhc=>?_) (λhc=>?_)
   ·cases hc
   ·skip;refine vr tH ly ?_;refine vr tH (aa ly wn) ?_;refine⟨k+2,oM,oM,?_⟩;exact wM (λk=>.key k) (sK ly @Xx.eq_1 @Xx.eq_2 @qO.eq_1 @qO.eq_2 @qO.eq_3)
 ·have hk:k=s.size:=by simp at hc;omega
  subst hk;refine wE ?_;refine vR tH ly ?_;refine wZ ly ?_;refine λE=>?_
  obtain⟨m,hm⟩:∃ m,s.size=m+1:=⟨s.size-1,oM⟩;simp only[den,L8,hm,Xx]
def HE:a7 Tryz.prog 208 where
 pre:=λW bs=>λ| [.val (.string s)]=>s.size<=140737488351232|_=>False
 res:=λW=>λ| [.val (.string s)]=>ax (L8 s)|_=>undef
 enters:=Tryz.call208
 ok:=by
  intro W w bs us as_ hk hu hp;split at hp
  ·rename_i s
   match us,hu with
   |[u0],hu=>
    obtain⟨rfl,_⟩:=hu;exact V0 s hp w
  ·exact hp.elim
theorem Pp(W:World)(s:ByteArray):HE.res W [.val (.string s)]=ax (L8 s):=rfl
theorem Po(W:World)(bs:List Nat)(s:ByteArray):HE.pre W bs [.val (.string s)]=(s.size<=140737488351232):=rfl
def Wq:Tm->Prop
 |.text _ s=>s.size<=140737488351232
 |_=>True
def Tv:Option Rx->Value
 |none=>.tuple #[.nilIface,.bool false]
 |some r=>.tuple #[ax r,.bool true]
noncomputable def tI:Env Tryz.prog:=⟨λ| 208=>some HE.spec|_=>none,λ_=>none,λ_ _=>none⟩
theorem ac1:tI.sp 208=some HE.spec:=rfl
def jY:=(ae @List.replicate_succ.{0} @List.replicate_zero.{0} @au @ab kQ kS kU (ae dc dd de df dv dw dz (ae dA eB eC eD eE eF eG (ae Jh Ji Jj Jk n8 oa ob (ae oc uK uL uM uN uO uP (ae uQ uR uS uT jH jI jJ (ae jK jL iA iB iC iD pR (ae pS pT pU pV pW pX pY (ae pZ nS nT nU nV nW nX (ae nY nZ n7 @aV @aw @aD @aG (qE @aL @b6 @Pp @Po @ac1)))))))))))
theorem adB(t:Tm)(v:Value)(w:World)(S:Nat->Prop)(hv:eS w S v t)(hs:Wq t):Calls Tryz.prog 158 #[v] w λe w' => e=.returned (Tv (xF t))/\an w [] w' := by
 refine ak (nt:=18) [.tmp 2,.tmp 3] Tryz.func158 rfl rfl rfl ?_;refine vR tI jY ?_;refine Wp.seq ?_;refine vR tI jY ?_;refine Wp.block ?_;cases t with
 | text a s=>
  obtain rfl:v=_:=hv;refine vR tI jY ?_;refine wC jY (λhc=>?_) (λhc=>?_)
  ·skip;refine vR tI jY ?_;refine wR tI jY ?_ ?_
   ·exact hs
   refine wZ jY ?_;exact λE=>rfl
  ·cases hc
 | rx a r=>
  obtain rfl:v=_:=hv;refine vR tI jY ?_;refine wC jY (λhc=>?_) (λhc=>?_)
  ·cases hc
  refine vR tI jY ?_;refine wC jY (λhc=>?_) (λhc=>?_)
  ·skip;refine wR tI jY ?_ ?_
   ·exact aL r
   refine vR tI jY ?_;refine wZ jY ?_;exact λE=>rfl
  ·cases hc
 |canon c=>
  obtain⟨p,rfl,hc0⟩:=hv;refine vR tI jY ?_;refine wC jY (λhc=>?_) (λhc=>?_)
  ·cases hc
  refine vR tI jY ?_;refine wC jY (λhc=>?_) (λhc=>?_)
  ·cases hc
  refine wK ?_;refine vR tI jY ?_;refine wZ jY ?_;exact λE=>rfl
 |lens c=>
  obtain⟨p,rfl,hc0⟩:=hv;refine vR tI jY ?_;refine wC jY (λhc=>?_) (λhc=>?_)
  ·cases hc
  refine vR tI jY ?_;refine wC jY (λhc=>?_) (λhc=>?_)
  ·cases hc
  refine wK ?_;refine vR tI jY ?_;refine wZ jY ?_;exact λE=>rfl
noncomputable def Tw:a7 Tryz.prog 158 where
 pre:=λW bs as_=>∃ v t,as_=[.val v]/\eS W (Out bs) v t/\Wq t
 res:=λW as_=>match as_ with
  |[.val v]=>Tv (xF (qY W v))
  |_=>undef
 enters:=Tryz.call158
 ok:=by
  intro W w bs us as_ hk hu hp;obtain⟨v,t,rfl,h1,h2⟩:=hp
  match us,hu with
  |[x],hu=>
   obtain⟨rfl,_⟩:=hu;simp only[cl h1];exact adB t x w (λ_=>True) (h1.mono λb hb hn=>⟨hk.block b hb hn,trivial⟩) h2
theorem AW(W:World)(bs:List Nat)(v:Value):Tw.pre W bs [.val v]=∃ t,eS W (Out bs) v t/\Wq t:=by
 apply propext;constructor
 ·rintro⟨v',t,h1,h2⟩;cases h1;exact⟨t,h2⟩
 ·exact λ⟨t,h2⟩=>⟨v,t,rfl,h2⟩
theorem AX(W:World)(v:Value):Tw.res W [.val v]=Tv (xF (qY W v)):=rfl
theorem U9(c i:Int)(w:World)(S:Nat->Prop):Calls Tryz.prog 64 #[.int .i64 c,.int .i64 i] w λe w' => lh w S e w' (.pan (bb c i) .nilIface):=by
 refine eL (nt:=8) S [] Tryz.func64 rfl rfl rfl ?_;refine Wp.dF Γ0 aM (ev (bw jY @bb.eq_1 @pg.eq_1)) ?_ ?_
 ·exact oo
 refine qq ?_;exact⟨_,rfl⟩
def gZ:lQ Tryz.prog 64 where
 kinds:=[none,none]
 pre:=λas_ _ _=>∃ c i,as_=[.val (.int .i64 c),.val (.int .i64 i)]
 premono:=λ_ _ _ _ _ _ h=>h
 out:=λas_=>match as_ with
  |[.val (.int _ c),.val (.int _ i)]=>.pan (bb c i) .nilIface
  |_=>.val undef
 enters:=Tryz.call64
 ok:=by
  intro w S us as_ hu hp;obtain⟨c,i,rfl⟩:=hp
  match us,hu with
  |[x,y],hu=>
   obtain⟨rfl,rfl,_⟩:=hu;exact U9 c i w S
def tmF(t:Tm):FK:=⟨λcs W S=>∃ v,cs=[v]/\eS W S v t,λhs ⟨v,h1,h2⟩=>⟨v,h1,h2.mono hs⟩⟩
theorem CN{W:World}{S:Nat->Prop}{t:Tm}{cs:List Value}(h:(tmF t).Φ cs W S):∃ v,cs=[v]/\eS W S v t/\hv v=v:=by
 obtain⟨v,h1,h2⟩:=h;exact⟨v,h1,h2,h2.hv⟩
def K8:TE->FOut
 |.ok t=>.fact Sh.one (tmF t)
 |.error (c,a)=>.pan (bb c a) .nilIface
theorem Sb(t:Tm):K8 (.ok t)=.fact Sh.one (tmF t):=rfl
theorem B3(c a:Int):K8 (.error (c,a))=.pan (bb c a) .nilIface:=rfl
theorem ez{t:Tm}{w W1:World}{S:Nat->Prop}{bs1:List Nat}{x:SV}{v:Value}(hd:∀ E,den E x=v)(h:eS W1 (bF (aE w S) bs1) v t):Gq w S W1 bs1 x (.fact Sh.one (tmF t)):=
 ⟨[v],λE=>(hd E).trans (td h.hv).symm,v,rfl,h⟩
noncomputable def qC(G:Nat->Prop):Env Tryz.prog:=⟨λ| 158=>some Tw.spec|64=>some (gZ.spec G)|_=>none,λ_=>none,λ_ _=>none⟩
theorem M4(G:Nat->Prop):(qC G).sp 158=some Tw.spec:=rfl
theorem S3(G:Nat->Prop):(qC G).sp 64=some (gZ.spec G):=rfl
theorem An.parts{W:World}{S:Nat->Prop}{v:Value}{c:Cn}(h:An W S v c):partsOf (.v v)=[.v v]:=by cases h<;>rfl
theorem y7.parts{W:World}{S:Nat->Prop}{v:Value}{c:Ln}(h:y7 W S v c):partsOf (.v v)=[.v v]:=by cases h<;>rfl
theorem kh(P:Program)(T:TypeId)(k o:Nat):nM P T [.own k o]=⟨P.concrete T=true,.nr T (.own k o),[],none,[],[]⟩:=rfl
theorem unS{a:Nat}{op:ByteArray}{t:Tm}{n:Rx}(h:xF t=some n):Gh a op t=.ok (.rx a (if op=mf then .star n else if op=Ae then .cat n (.star n) else .alt n .eps)):=by
 cases t<;>simp only[xF]at h<;>first|(cases h;done)|(cases h;rfl)
theorem qW{x y:ByteArray}(h:decide (x=y)=true):x=y:=by simpa using h
theorem qV{x y:ByteArray}(h:decide (x=y)=false):¬ x=y:=by simpa using h
theorem rH{W:World}{S:Nat->Prop}{b a:Nat}{op tx:ByteArray}{n:Option Rx}{vq va vb:Value}{q:Cn}{x y:Ln}{T:TypeId}(hS:S b)(hc:W.heap[b]?=some (.cells #[.int .i64 (a:Nat),.string op,oL n,.string tx,vq,va,vb] T (0,0)))
  (hq:An W S vq q) (hx:y7 W S va x) (hy:y7 W S vb y):y7 W S (.pointer (some ⟨b,0,none⟩)) (.mk a op n tx q x y):=
 .mk b a op n tx vq va vb q x y ⟨hS,by simp[World.cell?,hc]⟩ ⟨hS,by simp[World.cell?,hc]⟩ ⟨hS,by simp[World.cell?,hc]⟩ ⟨hS,by simp[World.cell?,hc]⟩ ⟨hS,by simp[World.cell?,hc]⟩ ⟨hS,by simp[World.cell?,hc]⟩ ⟨hS,by simp[World.cell?,hc]⟩ hq hx hy
theorem Vb{W:World}{S:Nat->Prop}{b a:Nat}{op to bk:ByteArray}{n:Option Rx}{va vb:Value}{x y:Cn}{T:TypeId}(hS:S b)(hc:W.heap[b]?=some (.cells #[.int .i64 (a:Nat),.string op,oL n,.string to,.string bk,va,vb] T (0,0)))
  (hx:An W S va x) (hy:An W S vb y):An W S (.pointer (some ⟨b,0,none⟩)) (.mk a op n to bk x y):=
 .mk b a op n to bk va vb x y ⟨hS,by simp[World.cell?,hc]⟩ ⟨hS,by simp[World.cell?,hc]⟩ ⟨hS,by simp[World.cell?,hc]⟩ ⟨hS,by simp[World.cell?,hc]⟩ ⟨hS,by simp[World.cell?,hc]⟩ ⟨hS,by simp[World.cell?,hc]⟩ ⟨hS,by simp[World.cell?,hc]⟩ hx hy
def dB:=(ae @List.replicate_succ.{0} @List.replicate_zero.{0} @au @ab kQ kS kU (ae dc dd de df dv dw dz (ae dA eB eC eD eE eF eG (ae n8 oa ob oc jH jI jJ (ae jK jL iA iB iC iD nS (ae nT nU nV nW nX nY nZ (ae n7 p4 p5 p6 p7 p8 p9 (ae qc qd qe qf qg qh qi (ae qj qk ql qm qn qp mi (ae mj ml mm mn mq mr mu (ae mv mw my mz mA mB mC (ae mD mE mF mG C4 C5 C6 (ae C7 C8 C9 Da Db Dc Dd (ae QW QX Mi Mj Mk Ml Mm (ae Mn Mp Mq DC DD DE DF (ae DG DH DI DJ DK DL DM (ae DN DO DP DQ DR F5 F6 (ae F7 F8 F9 Ga Gb Gc Gd (ae @kh @aV @aw @aD @aG @cK @aL (sK @b6 @M4 @S3 @AX @AW @gZ.eq_1))))))))))))))))))))
theorem WZ(a:Nat)(op:ByteArray)(ea:Value)(t:Tm)(v:Value)(w:World)(S:Nat->Prop)(hea:ea.oneCell' = true)(hv:eS w S v t)(hs:Wq t) :
  Calls Tryz.prog 103 #[.agg #[.int .i64 (a:Nat),.string op,ea],v] w λe w' => lh w S e w' (K8 (Gh a op t)):=by
 have hD:qY w v=t:=cl hv;have h0:eS w (Out []) v t:=hv.mono λb _ _=>⟨rfl,by simp[Out]⟩
 have hr:eS w (bF (aE w S) []) v t:=hv.mono (aE.eQ w S);refine eL (nt:=101) S [.tmp 4] Tryz.func103 rfl rfl rfl ?_;refine vR Γ0 dB ?_;refine Wp.seq ?_;cases hn:xF t with
 | some n=>
  rw[unS hn];refine wR (qC (aE w S)) (qE dB hD hn @Tv.eq_1 @Tv.eq_2) ?_ ?_
  ·exact⟨t,h0,hs⟩
  refine vR Γ0 dB ?_;refine wC dB (λhc=>?_) (λhc=>?_)
  rotate_left
  ·cases hc
  refine Wp.seq ?_;refine vR Γ0 dB ?_;refine Wp.block ?_;refine vR Γ0 dB ?_;refine wC dB (λhc=>?_) (λhc=>?_)
  ·have ho:op=mf:=qW hc;rw[if_pos ho];refine vR Γ0 dB ?_;refine wZ dB ?_;exact ez (λE=>rfl) rfl
  have ho:¬ op=mf:=qV hc;rw[if_neg ho];refine vR Γ0 dB ?_;refine wC dB (λhc=>?_) (λhc=>?_)
  ·have ho2:op=Ae:=qW hc;rw[if_pos ho2];refine vR Γ0 dB ?_;refine wZ dB ?_;exact ez (λE=>rfl) rfl
  have ho2:¬ op=Ae:=qV hc;rw[if_neg ho2];refine wK ?_;refine vR Γ0 dB ?_;refine wZ dB ?_;exact ez (λE=>rfl) rfl
 | none=>
  refine wR (qC (aE w S)) (qE dB hD hn @Tv.eq_1 @Tv.eq_2) ?_ ?_
  ·exact⟨t,h0,hs⟩
  refine vR Γ0 dB ?_;refine wC dB (λhc=>?_) (λhc=>?_)
  ·cases hc
  refine wK ?_;refine Wp.seq ?_;refine vR Γ0 dB ?_;refine Wp.block ?_;cases t with
  |text b s=>cases hn
  |rx b r=>cases hn
  | canon c=>
   obtain⟨p,rfl,hc0⟩:=hr;refine vR Γ0 dB ?_;refine wC dB (λhc=>?_) (λhc=>?_)
   rotate_left
   ·cases hc
   refine vR Γ0 dB ?_;refine vR Γ0 dB ?_;refine wC dB (λhc=>?_) (λhc=>?_)
   ·have ho:op=mf:=qW hc;have hE:Gh a op (.canon c)=.ok (.canon (.mk a gA none ⟨#[]⟩ ⟨#[]⟩ c .nil)):=by simp only[Gh,xF,if_pos ho]
    rw[hE];refine vR Γ0 (aa dB hc0.parts) ?_;refine Wp.cS 176 (ev dB) (λE=>by simp only[ai,den];exact rfl) λW1 bs1 b1 hx1 hb1 hn1 hc1=>?_
    refine wZ dB ?_;have hb:bF (aE w S) bs1 b1:=⟨aE.up w S b1 hn1,hb1⟩;exact ez (λE=>rfl) ⟨_,rfl,Vb (n:=none) hb hc1 (hc0.mono hx1.dW) .nil⟩
   ·have ho:¬ op=mf:=qV hc;have hE:Gh a op (.canon c)=gW a:=by simp only[Gh,xF,if_neg ho]
    rw[hE];refine wK ?_;refine Wp.bn (qC (aE w S)) aM (ev dB) ?_ ?_
    ·exact oo
    refine qq ?_;exact⟨_,rfl⟩
  | lens l=>
   obtain⟨p,rfl,hc0⟩:=hr;refine vR Γ0 dB ?_;refine wC dB (λhc=>?_) (λhc=>?_)
   ·cases hc
   refine vR Γ0 dB ?_;refine wC dB (λhc=>?_) (λhc=>?_)
   rotate_left
   ·cases hc
   refine vR Γ0 dB ?_;refine Wp.seq ?_;refine vR Γ0 dB ?_;refine Wp.block ?_;refine vR Γ0 dB ?_;refine wC dB (λhc=>?_) (λhc=>?_)
   ·have ho:op=mf:=qW hc;have hE:Gh a op (.lens l)=.ok (.lens (.mk a gA none ⟨#[]⟩ .nil l .nil)):=by simp only[Gh,xF,if_pos ho]
    rw[hE];refine vR Γ0 (aa dB hc0.parts) ?_;refine Wp.cS 208 (ev dB) (λE=>by simp only[ai,den];exact rfl) λW1 bs1 b1 hx1 hb1 hn1 hc1=>?_
    refine wZ dB ?_;have hb:bF (aE w S) bs1 b1:=⟨aE.up w S b1 hn1,hb1⟩;exact ez (λE=>rfl) ⟨_,rfl,rH (n:=none) hb hc1 .nil (hc0.mono hx1.dW) .nil⟩
   have ho:¬ op=mf:=qV hc;refine vR Γ0 dB ?_;refine wC dB (λhc=>?_) (λhc=>?_)
   ·have ho2:op=Ae:=qW hc;have hE:Gh a op (.lens l)=.ok (.lens (.mk a xM none ⟨#[]⟩ .nil l (.mk a gA none ⟨#[]⟩ .nil l .nil))):=by simp only[Gh,xF,if_neg ho,if_pos ho2]
    rw[hE];refine vR Γ0 (aa dB hc0.parts) ?_;refine Wp.cS 248 (ev dB) (λE=>by simp only[ai,den];exact rfl) λW1 bs1 b1 hx1 hb1 hn1 hc1=>?_
    refine Wp.cS 264 (ev dB) (λE=>by simp only[ai,den];exact rfl) λW2 bs2 b2 hx2 hb2 hn2 hc2=>?_
    refine wZ dB ?_;have h1:bF (aE w S) bs1 b1:=⟨aE.up w S b1 hn1,hb1⟩;have h2:bF (aE w S) bs2 b2:=⟨(aE.up w S).ext hx1 b2 hn2,hb2⟩;have hl:y7 W2 (bF (aE w S) bs2) p l:=hc0.mono (hx1.trans hx2).dW;have h3:y7 W1 (bF (aE w S) bs1) _ _:=rH (n:=none) (op:=gA) h1 hc1 .nil (hc0.mono hx1.dW) .nil
    exact ez (λE=>rfl) ⟨_,rfl,rH (n:=none) h2 hc2 .nil hl (h3.mono hx2.dW)⟩
   have ho2:¬ op=Ae:=qV hc;have hE:Gh a op (.lens l)=.ok (.lens (.mk a xC none ⟨#[]⟩ .nil l (.mk a jt (some .eps) ⟨#[]⟩ .nil .nil .nil))):=by simp only[Gh,xF,if_neg ho,if_neg ho2]
   rw[hE];refine wK ?_;refine vR Γ0 (aa dB hc0.parts) ?_;refine Wp.cS 256 (ev dB) (λE=>by simp only[ai,den];exact rfl) λW1 bs1 b1 hx1 hb1 hn1 hc1=>?_
   refine Wp.cS 272 (ev dB) (λE=>by simp only[ai,den];exact rfl) λW2 bs2 b2 hx2 hb2 hn2 hc2=>?_
   refine wZ dB ?_;have h1:bF (aE w S) bs1 b1:=⟨aE.up w S b1 hn1,hb1⟩;have h2:bF (aE w S) bs2 b2:=⟨(aE.up w S).ext hx1 b2 hn2,hb2⟩;have hl:y7 W2 (bF (aE w S) bs2) p l:=hc0.mono (hx1.trans hx2).dW;have h3:y7 W1 (bF (aE w S) bs1) _ _:=rH (n:=some .eps) (op:=jt) h1 hc1 .nil .nil .nil
   exact ez (λE=>rfl) ⟨_,rfl,rH (n:=none) h2 hc2 .nil hl (h3.mono hx2.dW)⟩
theorem alO:Hb Tryz.prog (Program.underlying Tryz.prog 287)=some 3:=kR
theorem ank:qZ Tryz.prog 3=some (.int .i64 0):=kR
theorem opL(op:ByteArray):Xq false (.int .i64 0) (BH [⟨#[124]⟩,⟨#[46]⟩,⟨#[126]⟩,⟨#[62,62]⟩] [.v (.int .i64 1),.v (.int .i64 2),.v (.int .i64 3),.v (.int .i64 4)] op)=.v (.int .i64 (Hk op:Nat)):=by
 simp only[BH,Hk];by_cases h1:op=Nw
 ·subst h1;rfl
 rw[if_neg (λe=>h1 e.symm),if_neg h1];by_cases h2:op=N4
 ·subst h2;rfl
 rw[if_neg (λe=>h2 e.symm),if_neg h2];by_cases h3:op=al5
 ·subst h3;rfl
 rw[if_neg (λe=>h3 e.symm),if_neg h3];by_cases h4:op=alo
 ·subst h4;rfl
 rw[if_neg (λe=>h4 e.symm),if_neg h4];rfl
theorem Z2(op:ByteArray):Hk op=0\/Hk op=1\/Hk op=2\/Hk op=3\/Hk op=4:=by
 unfold Hk
 repeat' split
 all_goals simp
theorem sx0(x:Option Rx):cN 0 [.v (Tv x)]=⟨True,.v (oL x),[],none,[],[]⟩:=by cases x<;>simp[cN,R.im,Tv,oL]
theorem sx1(x:Option Rx):cN 1 [.v (Tv x)]=⟨True,.v (.bool x.isSome),[],none,[],[]⟩:=by cases x<;>simp[cN,R.im,Tv,oL]
def gm(op:ByteArray)(t u:Tm):Option Rx:=match xF t,xF u with
 |some x,some y=>V2 op x y
 |_,_=>none
theorem X1(a:Nat)(op:ByteArray)(t u:Tm):X0 a op t u=match gm op t u with
  |some r=>.ok (.rx a r)
  |none=>re a op t u:=by
 unfold X0 gm;cases xF t with
 |none=>rfl
 | some x=>
  cases xF u with
  |none=>rfl
  |some y=>
   simp only;cases V2 op x y<;>rfl
def aJ:=(ae @List.replicate_succ.{0} @List.replicate_zero.{0} @au @ab kQ kS kU (ae dc dd de df dv dw dz (ae dA eB eC eD eE eF eG (ae n8 oa ob oc jH jI jJ (ae jK jL iA iB iC iD nS (ae nT nU nV nW nX nY nZ (ae n7 p4 p5 p6 p7 p8 p9 (ae qc qd qe qf qg qh qi (ae qj qk ql qm qn qp mi (ae mj ml mm mn mq mr mu (ae mv mw my mz mA mB mC (ae mD mE mF mG Jf Jg De (ae Df Dg Dh Di Dj Dk Dl (ae Dm Dn Dp QW QX DC DD (ae DE DF DG DH DI DJ DK (ae F5 F6 F7 F8 F9 Ga Gb (ae Gc Gd Mr Mt Mu Mv Mw (ae Mx My Mz MA MB MC MD (ae ME MF MG MH MJ MK akz (ae akA akB abJ abK abL abM abN (ae abO @pA @kx @lE @lD @sx0 @sx1 (ae @oL.eq_1 @oL.eq_2 @kh @aV @aw @aD @aG (ae @cK @aL @b6 @M4 @S3 @AX @AW (ae @gZ.eq_1 @zN @rU @pK @lG @alO @G6 (sK @vO @ank @P5 @wg @ab6 @opL)))))))))))))))))))))))))
theorem Ny(a:Nat)(op:ByteArray)(ea eb:Value)(t u:Tm)(v v' : Value)(w:World)(S:Nat->Prop)(hea:ea.oneCell' = true)(heb:eb.oneCell' = true)(hv:eS w S v t)(hs:Wq t)(hv' : eS w S v' u)(hs' : Wq u) :
  Calls Tryz.prog 104 #[.agg #[.int .i64 (a:Nat),.string op,ea,eb],v,v'] w λe w' => lh w S e w' (K8 (X0 a op t u)):=by
 have hD:qY w v=t:=cl hv;have hD' : qY w v' = u:=cl hv';have h0:eS w (Out []) v t:=hv.mono λb _ _=>⟨rfl,by simp[Out]⟩
 have h0' : eS w (Out []) v' u:=hv'.mono λb _ _=>⟨rfl,by simp[Out]⟩
 have hr:eS w (bF (aE w S) []) v t:=hv.mono (aE.eQ w S);have hr' : eS w (bF (aE w S) []) v' u:=hv'.mono (aE.eQ w S);refine eL (nt:=142) S [.tmp 6] Tryz.func104 rfl rfl rfl ?_;refine vR Γ0 aJ ?_;refine wR (qC (aE w S)) (aa aJ hD) ?_ ?_
 ·exact⟨t,h0,hs⟩
 refine wR (qC (aE w S)) (aa aJ hD') ?_ ?_
 ·exact⟨u,h0',hs'⟩
 rw[X1];cases hj:gm op t u with
 | some r=>
  obtain⟨x,hn⟩:∃ x,xF t=some x:=by
   cases h:xF t with
   |some x=>exact⟨x,rfl⟩
   |none=>rw[gm,h]at hj;cases hj
  obtain⟨y,hn'⟩:∃ y,xF u=some y:=by
   cases h:xF u with
   |some x=>exact⟨x,rfl⟩
   |none=>rw[gm,hn,h]at hj;cases hj
  refine Wp.seq ?_;refine vR Γ0 (bw aJ hn hn') ?_;refine wC aJ (λhc=>?_) (λhc=>?_)
  rotate_left
  ·cases hc
  refine vR Γ0 aJ ?_;refine Wp.block ?_;refine vR Γ0 (bw aJ hn hn') ?_;refine wC aJ (λhc=>?_) (λhc=>?_)
  ·have ho:op=Nw:=qW hc;obtain rfl:r=.alt x y:=by
    have:gm op t u=some (.alt x y):=by simp only[gm,hn,hn',V2,if_pos ho]
    rw[this]at hj;exact (Option.some.inj hj).symm
   refine vR Γ0 (bw aJ hn hn') ?_;refine wZ (bw aJ hn hn') ?_;exact ez (λE=>rfl) rfl
  have ho0:¬ op=Nw:=qV hc;refine vR Γ0 (bw aJ hn hn') ?_;refine wC aJ (λhc=>?_) (λhc=>?_)
  ·have ho:op=N4:=qW hc;obtain rfl:r=.cat x y:=by
    have:gm op t u=some (.cat x y):=by simp only[gm,hn,hn',V2,if_neg ho0,if_pos ho]
    rw[this]at hj;exact (Option.some.inj hj).symm
   refine vR Γ0 (bw aJ hn hn') ?_;refine wZ (bw aJ hn hn') ?_;exact ez (λE=>rfl) rfl
  have ho1:¬ op=N4:=qV hc;refine vR Γ0 (bw aJ hn hn') ?_;refine wC aJ (λhc=>?_) (λhc=>?_)
  ·have ho:op=XI:=qW hc;obtain rfl:r=.and x y:=by
    have:gm op t u=some (.and x y):=by simp only[gm,hn,hn',V2,if_neg ho0,if_neg ho1,if_pos ho]
    rw[this]at hj;exact (Option.some.inj hj).symm
   refine vR Γ0 (bw aJ hn hn') ?_;refine wZ (bw aJ hn hn') ?_;exact ez (λE=>rfl) rfl
  have ho2:¬ op=XI:=qV hc;refine vR Γ0 (bw aJ hn hn') ?_;refine wC aJ (λhc=>?_) (λhc=>?_)
  ·have ho:op=ZA:=qW hc;obtain rfl:r=.minus x y:=by
    have:gm op t u=some (.minus x y):=by simp only[gm,hn,hn',V2,if_neg ho0,if_neg ho1,if_neg ho2,if_pos ho]
    rw[this]at hj;exact (Option.some.inj hj).symm
   refine vR Γ0 (bw aJ hn hn') ?_;refine wZ (bw aJ hn hn') ?_;exact ez (λE=>rfl) rfl
  have ho3:¬ op=ZA:=qV hc;exfalso;have:gm op t u=none:=by simp only[gm,hn,hn',V2,if_neg ho0,if_neg ho1,if_neg ho2,if_neg ho3]
  rw[this]at hj;cases hj
 | none=>
  simp only;refine hH ⟨20,ee [(1,.is (.v v)),(2,.is (.v v')),(3,.is (.own 0 0))],dP [(0,.cells 215 [.v (.int .i64 (a:Nat)),.v (.string op),.v ea,.v eb])]⟩ ?_ ?_
  ·cases hn:xF t with
   |none=>
    refine vR Γ0 (aa aJ hn) ?_;refine wC aJ (λhc=>?_) (λhc=>?_)
    ·cases hc
    refine wK ?_;exact wM (λk=>.key k) aJ
   | some x=>
    cases hn' : xF u with
    |none=>
     refine vR Γ0 (bw aJ hn hn') ?_;refine wC aJ (λhc=>?_) (λhc=>?_)
     ·cases hc
     refine wK ?_;exact wM (λk=>.key k) aJ
    | some y=>
     refine vR Γ0 (bw aJ hn hn') ?_;refine wC aJ (λhc=>?_) (λhc=>?_)
     rotate_left
     ·cases hc
     refine vR Γ0 aJ ?_;refine Wp.block ?_;refine vR Γ0 (bw aJ hn hn') ?_;refine wC aJ (λhc=>?_) (λhc=>?_)
     ·have ho:op=Nw:=qW hc;exfalso;have:gm op t u=some (.alt x y):=by simp only[gm,hn,hn',V2,if_pos ho]
      rw[this]at hj;cases hj
     have ho0:¬ op=Nw:=qV hc;refine vR Γ0 (bw aJ hn hn') ?_;refine wC aJ (λhc=>?_) (λhc=>?_)
     ·have ho:op=N4:=qW hc;exfalso;have:gm op t u=some (.cat x y):=by simp only[gm,hn,hn',V2,if_neg ho0,if_pos ho]
      rw[this]at hj;cases hj
     have ho1:¬ op=N4:=qV hc;refine vR Γ0 (bw aJ hn hn') ?_;refine wC aJ (λhc=>?_) (λhc=>?_)
     ·have ho:op=XI:=qW hc;exfalso;have:gm op t u=some (.and x y):=by simp only[gm,hn,hn',V2,if_neg ho0,if_neg ho1,if_pos ho]
      rw[this]at hj;cases hj
     have ho2:¬ op=XI:=qV hc;refine vR Γ0 (bw aJ hn hn') ?_;refine wC aJ (λhc=>?_) (λhc=>?_)
     ·have ho:op=ZA:=qW hc;exfalso;have:gm op t u=some (.minus x y):=by simp only[gm,hn,hn',V2,if_neg ho0,if_neg ho1,if_neg ho2,if_pos ho]
      rw[this]at hj;cases hj
     have ho3:¬ op=ZA:=qV hc;refine wK ?_;exact wM (λk=>.key k) aJ
  clear hj hD hD' h0 h0';refine wR Γ0 aJ ?_ ?_
  ·refine⟨?_,?_,?_⟩<;>simp
  refine vR Γ0 aJ ?_;cases t with
  |text b s=>
   obtain rfl:v=_:=hr;have hE:re a op (.text b s) u=gW a:=by cases u<;>rfl
   rw[hE];refine Wp.seq ?_;refine vR Γ0 aJ ?_;refine vR Γ0 aJ ?_;refine wC aJ (λhc=>?_) (λhc=>?_)
   ·cases hc
   refine wK ?_;refine Wp.seq ?_;refine vR Γ0 aJ ?_;refine vR Γ0 aJ ?_;refine wC aJ (λhc=>?_) (λhc=>?_)
   ·cases hc
   refine wK ?_;refine Wp.bn (qC (aE w S)) aM (ev aJ) ?_ ?_
   ·exact oo
   refine qq ?_;exact⟨_,rfl⟩
  |rx b s=>
   obtain rfl:v=_:=hr;have hE:re a op (.rx b s) u=gW a:=by cases u<;>rfl
   rw[hE];refine Wp.seq ?_;refine vR Γ0 aJ ?_;refine vR Γ0 aJ ?_;refine wC aJ (λhc=>?_) (λhc=>?_)
   ·cases hc
   refine wK ?_;refine Wp.seq ?_;refine vR Γ0 aJ ?_;refine vR Γ0 aJ ?_;refine wC aJ (λhc=>?_) (λhc=>?_)
   ·cases hc
   refine wK ?_;refine Wp.bn (qC (aE w S)) aM (ev aJ) ?_ ?_
   ·exact oo
   refine qq ?_;exact⟨_,rfl⟩
  | lens l=>
   obtain⟨p,rfl,hc0⟩:=hr;refine Wp.seq ?_;refine vR Γ0 aJ ?_;refine vR Γ0 aJ ?_;refine wC aJ (λhc=>?_) (λhc=>?_)
   rotate_left
   ·cases hc
   cases u with
   |text b s=>
    obtain rfl:v' = _:=hr';have hE:re a op (.lens l) (.text b s)=gW a:=rfl;rw[hE];refine vR Γ0 aJ ?_;refine vR Γ0 aJ ?_;refine wC aJ (λhc=>?_) (λhc=>?_)
    ·cases hc
    refine wK ?_;refine Wp.seq ?_;refine vR Γ0 aJ ?_;refine vR Γ0 aJ ?_;refine wC aJ (λhc=>?_) (λhc=>?_)
    ·cases hc
    refine wK ?_;refine Wp.bn (qC (aE w S)) aM (ev aJ) ?_ ?_
    ·exact oo
    refine qq ?_;exact⟨_,rfl⟩
   |rx b s=>
    obtain rfl:v' = _:=hr';have hE:re a op (.lens l) (.rx b s)=gW a:=rfl;rw[hE];refine vR Γ0 aJ ?_;refine vR Γ0 aJ ?_;refine wC aJ (λhc=>?_) (λhc=>?_)
    ·cases hc
    refine wK ?_;refine Wp.seq ?_;refine vR Γ0 aJ ?_;refine vR Γ0 aJ ?_;refine wC aJ (λhc=>?_) (λhc=>?_)
    ·cases hc
    refine wK ?_;refine Wp.bn (qC (aE w S)) aM (ev aJ) ?_ ?_
    ·exact oo
    refine qq ?_;exact⟨_,rfl⟩
   |canon d=>
    obtain⟨p',rfl,hc0'⟩:=hr';have hE:re a op (.lens l) (.canon d)=gW a:=rfl;rw[hE];refine vR Γ0 aJ ?_;refine vR Γ0 aJ ?_;refine wC aJ (λhc=>?_) (λhc=>?_)
    ·cases hc
    refine wK ?_;refine Wp.seq ?_;refine vR Γ0 aJ ?_;refine vR Γ0 aJ ?_;refine wC aJ (λhc=>?_) (λhc=>?_)
    ·cases hc
    refine wK ?_;refine Wp.bn (qC (aE w S)) aM (ev aJ) ?_ ?_
    ·exact oo
    refine qq ?_;exact⟨_,rfl⟩
   | lens d=>
    obtain⟨p',rfl,hc0'⟩:=hr';refine vR Γ0 aJ ?_;rcases Z2 op with ho|ho|ho|ho|ho
    ·have hE:re a op (.lens l) (.lens d)=gW a:=by simp only[re,ho];rfl
     rw[hE];refine vR Γ0 (aa aJ ho) ?_;refine wC aJ (λhc=>?_) (λhc=>?_)
     ·cases hc
     refine wK ?_;refine Wp.seq ?_;refine vR Γ0 aJ ?_;refine vR Γ0 aJ ?_;refine wC aJ (λhc=>?_) (λhc=>?_)
     ·cases hc
     refine wK ?_;refine Wp.bn (qC (aE w S)) aM (ev aJ) ?_ ?_
     ·exact oo
     refine qq ?_;exact⟨_,rfl⟩
    ·have hE:re a op (.lens l) (.lens d)=.ok (.lens (.mk a xC none ⟨#[]⟩ .nil l d)):=by simp only[re,ho];rfl
     rw[hE];refine vR Γ0 (aa aJ ho) ?_;refine wC aJ (λhc=>?_) (λhc=>?_)
     rotate_left
     ·cases hc
     refine yY Γ0 (fJ aJ ho hc0.parts hc0'.parts) ?_;refine Wp.cS 488 (ev aJ) (λE=>by simp only[ai,den];exact rfl) λW1 bs1 b1 hx1 hb1 hn1 hc1=>?_
     refine wZ aJ ?_;have hb:bF (aE w S) bs1 b1:=⟨aE.up w S b1 hn1,hb1⟩;exact ez (λE=>rfl) ⟨_,rfl,rH (op:=xC) (n:=none) hb hc1 .nil (hc0.mono hx1.dW) (hc0'.mono hx1.dW)⟩
    ·have hE:re a op (.lens l) (.lens d)=.ok (.lens (.mk a xM none ⟨#[]⟩ .nil l d)):=by simp only[re,ho];rfl
     rw[hE];refine vR Γ0 (aa aJ ho) ?_;refine wC aJ (λhc=>?_) (λhc=>?_)
     rotate_left
     ·cases hc
     refine yY Γ0 (fJ aJ ho hc0.parts hc0'.parts) ?_;refine Wp.cS 488 (ev aJ) (λE=>by simp only[ai,den];exact rfl) λW1 bs1 b1 hx1 hb1 hn1 hc1=>?_
     refine wZ aJ ?_;have hb:bF (aE w S) bs1 b1:=⟨aE.up w S b1 hn1,hb1⟩;exact ez (λE=>rfl) ⟨_,rfl,rH (op:=xM) (n:=none) hb hc1 .nil (hc0.mono hx1.dW) (hc0'.mono hx1.dW)⟩
    ·have hE:re a op (.lens l) (.lens d)=.ok (.lens (.mk a L6 none ⟨#[]⟩ .nil l d)):=by simp only[re,ho];rfl
     rw[hE];refine vR Γ0 (aa aJ ho) ?_;refine wC aJ (λhc=>?_) (λhc=>?_)
     rotate_left
     ·cases hc
     refine yY Γ0 (fJ aJ ho hc0.parts hc0'.parts) ?_;refine Wp.cS 488 (ev aJ) (λE=>by simp only[ai,den];exact rfl) λW1 bs1 b1 hx1 hb1 hn1 hc1=>?_
     refine wZ aJ ?_;have hb:bF (aE w S) bs1 b1:=⟨aE.up w S b1 hn1,hb1⟩;exact ez (λE=>rfl) ⟨_,rfl,rH (op:=L6) (n:=none) hb hc1 .nil (hc0.mono hx1.dW) (hc0'.mono hx1.dW)⟩
    ·have hE:re a op (.lens l) (.lens d)=.ok (.lens (.mk a A8 none ⟨#[]⟩ .nil l d)):=by simp only[re,ho];rfl
     rw[hE];refine vR Γ0 (aa aJ ho) ?_;refine wC aJ (λhc=>?_) (λhc=>?_)
     rotate_left
     ·cases hc
     refine yY Γ0 (fJ aJ ho hc0.parts hc0'.parts) ?_;refine Wp.cS 488 (ev aJ) (λE=>by simp only[ai,den];exact rfl) λW1 bs1 b1 hx1 hb1 hn1 hc1=>?_
     refine wZ aJ ?_;have hb:bF (aE w S) bs1 b1:=⟨aE.up w S b1 hn1,hb1⟩;exact ez (λE=>rfl) ⟨_,rfl,rH (op:=A8) (n:=none) hb hc1 .nil (hc0.mono hx1.dW) (hc0'.mono hx1.dW)⟩
  | canon c=>
   obtain⟨p,rfl,hc0⟩:=hr;refine Wp.seq ?_;refine vR Γ0 aJ ?_;refine vR Γ0 aJ ?_;refine wC aJ (λhc=>?_) (λhc=>?_)
   ·cases hc
   refine wK ?_;refine Wp.seq ?_;refine vR Γ0 aJ ?_;refine vR Γ0 aJ ?_;refine wC aJ (λhc=>?_) (λhc=>?_)
   rotate_left
   ·cases hc
   cases u with
   |text b s=>
    obtain rfl:v' = _:=hr';have hE:re a op (.canon c) (.text b s)=gW a:=rfl;rw[hE];refine vR Γ0 aJ ?_;refine vR Γ0 aJ ?_;refine wC aJ (λhc=>?_) (λhc=>?_)
    ·cases hc
    refine wK ?_;refine Wp.bn (qC (aE w S)) aM (ev aJ) ?_ ?_
    ·exact oo
    refine qq ?_;exact⟨_,rfl⟩
   |rx b s=>
    obtain rfl:v' = _:=hr';have hE:re a op (.canon c) (.rx b s)=gW a:=rfl;rw[hE];refine vR Γ0 aJ ?_;refine vR Γ0 aJ ?_;refine wC aJ (λhc=>?_) (λhc=>?_)
    ·cases hc
    refine wK ?_;refine Wp.bn (qC (aE w S)) aM (ev aJ) ?_ ?_
    ·exact oo
    refine qq ?_;exact⟨_,rfl⟩
   |lens d=>
    obtain⟨p',rfl,hc0'⟩:=hr';have hE:re a op (.canon c) (.lens d)=gW a:=rfl;rw[hE];refine vR Γ0 aJ ?_;refine vR Γ0 aJ ?_;refine wC aJ (λhc=>?_) (λhc=>?_)
    ·cases hc
    refine wK ?_;refine Wp.bn (qC (aE w S)) aM (ev aJ) ?_ ?_
    ·exact oo
    refine qq ?_;exact⟨_,rfl⟩
   | canon d=>
    obtain⟨p',rfl,hc0'⟩:=hr';refine vR Γ0 aJ ?_;rcases Z2 op with ho|ho|ho|ho|ho
    ·have hE:re a op (.canon c) (.canon d)=gW a:=by simp only[re,ho];rfl
     rw[hE];refine vR Γ0 (aa aJ ho) ?_;refine wC aJ (λhc=>?_) (λhc=>?_)
     ·cases hc
     refine wK ?_;refine Wp.bn (qC (aE w S)) aM (ev aJ) ?_ ?_
     ·exact oo
     refine qq ?_;exact⟨_,rfl⟩
    ·have hE:re a op (.canon c) (.canon d)=.ok (.canon (.mk a xC none ⟨#[]⟩ ⟨#[]⟩ c d)):=by simp only[re,ho];rfl
     rw[hE];refine vR Γ0 (aa aJ ho) ?_;refine wC aJ (λhc=>?_) (λhc=>?_)
     rotate_left
     ·cases hc
     refine yY Γ0 (fJ aJ ho hc0.parts hc0'.parts) ?_;refine Wp.cS 584 (ev aJ) (λE=>by simp only[ai,den];exact rfl) λW1 bs1 b1 hx1 hb1 hn1 hc1=>?_
     refine wZ aJ ?_;have hb:bF (aE w S) bs1 b1:=⟨aE.up w S b1 hn1,hb1⟩;exact ez (λE=>rfl) ⟨_,rfl,Vb (op:=xC) (n:=none) hb hc1 (hc0.mono hx1.dW) (hc0'.mono hx1.dW)⟩
    ·have hE:re a op (.canon c) (.canon d)=.ok (.canon (.mk a xM none ⟨#[]⟩ ⟨#[]⟩ c d)):=by simp only[re,ho];rfl
     rw[hE];refine vR Γ0 (aa aJ ho) ?_;refine wC aJ (λhc=>?_) (λhc=>?_)
     rotate_left
     ·cases hc
     refine yY Γ0 (fJ aJ ho hc0.parts hc0'.parts) ?_;refine Wp.cS 584 (ev aJ) (λE=>by simp only[ai,den];exact rfl) λW1 bs1 b1 hx1 hb1 hn1 hc1=>?_
     refine wZ aJ ?_;have hb:bF (aE w S) bs1 b1:=⟨aE.up w S b1 hn1,hb1⟩;exact ez (λE=>rfl) ⟨_,rfl,Vb (op:=xM) (n:=none) hb hc1 (hc0.mono hx1.dW) (hc0'.mono hx1.dW)⟩
    ·have hE:re a op (.canon c) (.canon d)=gW a:=by simp only[re,ho];rfl
     rw[hE];refine vR Γ0 (aa aJ ho) ?_;refine wC aJ (λhc=>?_) (λhc=>?_)
     ·cases hc
     refine wK ?_;refine Wp.bn (qC (aE w S)) aM (ev aJ) ?_ ?_
     ·exact oo
     refine qq ?_;exact⟨_,rfl⟩
    ·have hE:re a op (.canon c) (.canon d)=gW a:=by simp only[re,ho];rfl
     rw[hE];refine vR Γ0 (aa aJ ho) ?_;refine wC aJ (λhc=>?_) (λhc=>?_)
     ·cases hc
     refine wK ?_;refine Wp.bn (qC (aE w S)) aM (ev aJ) ?_ ?_
     ·exact oo
     refine qq ?_;exact⟨_,rfl⟩
def nF:=(ae @List.replicate_succ.{0} @List.replicate_zero.{0} @au @ab kQ kS kU (ae dc dd de df ID IE IF (ae IG IH II IJ IK IL IM (ae IN IP IQ IS IT IU IV (ae IW IX IY IZ I0 I1 I2 (ae I3 I4 I5 I6 I7 I8 I9 (ae Ja Jb Jc Jd Je C4 C5 (ae C6 C7 C8 C9 Da Db Dc (ae Dd De Df Dg Dh Di Dj (ae Dk Dl Dm Dn Dp yN yO (ae yP yQ yR yS yT yU yV (qE yW @aV @aw @aD @aG))))))))))))
theorem Vx(a:Nat)(x0:ByteArray)(w:World):Calls Tryz.prog 303 #[.agg #[.int .i64 (a:Nat),.string x0]] w λe w' => e=.returned (.int .i64 (a:Nat))/\an w [] w' := by
 refine ak (nt:=5) [.tmp 2] Tryz.func303 rfl rfl rfl ?_;refine vR Γ0 nF ?_;refine vR Γ0 nF ?_;refine wZ nF ?_;exact λE=>rfl
def aab:a7 Tryz.prog 303 where
 pre:=λW bs as_=>∃ (a:Nat) (x0:ByteArray),as_=[.val (.agg #[.int .i64 (a:Nat),.string x0])]
 res:=λ_ as_=>match as_ with
  |[.val (.agg cs)]=>cs.getD 0 undef
  |_=>undef
 enters:=Tryz.call303
 ok:=by
  intro W w bs us as_ hk hu hp;obtain⟨a,x0,rfl⟩:=hp
  match us,hu with
  |[x],hu=>
   obtain⟨rfl,_⟩:=hu;exact Vx a x0 w
def ais:MethSpec Tryz.prog 205 "Place":=b7 303 false (by kernel_rfl) (by kernel_rfl)
theorem Vy(a:Nat)(x0:ByteArray)(w:World):Calls Tryz.prog 304 #[.agg #[.int .i64 (a:Nat),.string x0]] w λe w' => e=.returned (.int .i64 (a:Nat))/\an w [] w' := by
 refine ak (nt:=5) [.tmp 2] Tryz.func304 rfl rfl rfl ?_;refine vR Γ0 nF ?_;refine vR Γ0 nF ?_;refine wZ nF ?_;exact λE=>rfl
def aac:a7 Tryz.prog 304 where
 pre:=λW bs as_=>∃ (a:Nat) (x0:ByteArray),as_=[.val (.agg #[.int .i64 (a:Nat),.string x0])]
 res:=λ_ as_=>match as_ with
  |[.val (.agg cs)]=>cs.getD 0 undef
  |_=>undef
 enters:=Tryz.call304
 ok:=by
  intro W w bs us as_ hk hu hp;obtain⟨a,x0,rfl⟩:=hp
  match us,hu with
  |[x],hu=>
   obtain⟨rfl,_⟩:=hu;exact Vy a x0 w
def ait:MethSpec Tryz.prog 206 "Place":=b7 304 false (by kernel_rfl) (by kernel_rfl)
theorem Vz(a:Nat)(x0:ByteArray)(w:World):Calls Tryz.prog 305 #[.agg #[.int .i64 (a:Nat),.string x0]] w λe w' => e=.returned (.int .i64 (a:Nat))/\an w [] w' := by
 refine ak (nt:=5) [.tmp 2] Tryz.func305 rfl rfl rfl ?_;refine vR Γ0 nF ?_;refine vR Γ0 nF ?_;refine wZ nF ?_;exact λE=>rfl
def aad:a7 Tryz.prog 305 where
 pre:=λW bs as_=>∃ (a:Nat) (x0:ByteArray),as_=[.val (.agg #[.int .i64 (a:Nat),.string x0])]
 res:=λ_ as_=>match as_ with
  |[.val (.agg cs)]=>cs.getD 0 undef
  |_=>undef
 enters:=Tryz.call305
 ok:=by
  intro W w bs us as_ hk hu hp;obtain⟨a,x0,rfl⟩:=hp
  match us,hu with
  |[x],hu=>
   obtain⟨rfl,_⟩:=hu;exact Vz a x0 w
def aiu:MethSpec Tryz.prog 207 "Place":=b7 305 false (by kernel_rfl) (by kernel_rfl)
theorem VA(a:Nat)(x0:Value)(w:World):Calls Tryz.prog 306 #[.agg #[.int .i64 (a:Nat),x0]] w λe w' => e=.returned (.int .i64 (a:Nat))/\an w [] w' := by
 refine ak (nt:=5) [.tmp 2] Tryz.func306 rfl rfl rfl ?_;refine vR Γ0 nF ?_;refine vR Γ0 nF ?_;refine wZ nF ?_;exact λE=>rfl
def aae:a7 Tryz.prog 306 where
 pre:=λW bs as_=>∃ (a:Nat) (x0:Value),as_=[.val (.agg #[.int .i64 (a:Nat),x0])]
 res:=λ_ as_=>match as_ with
  |[.val (.agg cs)]=>cs.getD 0 undef
  |_=>undef
 enters:=Tryz.call306
 ok:=by
  intro W w bs us as_ hk hu hp;obtain⟨a,x0,rfl⟩:=hp
  match us,hu with
  |[x],hu=>
   obtain⟨rfl,_⟩:=hu;exact VA a x0 w
def aiv:MethSpec Tryz.prog 209 "Place":=b7 306 false (by kernel_rfl) (by kernel_rfl)
theorem VB(a:Nat)(x0:ByteArray)(x1:Value)(w:World):Calls Tryz.prog 307 #[.agg #[.int .i64 (a:Nat),.string x0,x1]] w λe w' => e=.returned (.int .i64 (a:Nat))/\an w [] w' := by
 refine ak (nt:=5) [.tmp 2] Tryz.func307 rfl rfl rfl ?_;refine vR Γ0 nF ?_;refine vR Γ0 nF ?_;refine wZ nF ?_;exact λE=>rfl
def aaf:a7 Tryz.prog 307 where
 pre:=λW bs as_=>∃ (a:Nat) (x0:ByteArray) (x1:Value),as_=[.val (.agg #[.int .i64 (a:Nat),.string x0,x1])]
 res:=λ_ as_=>match as_ with
  |[.val (.agg cs)]=>cs.getD 0 undef
  |_=>undef
 enters:=Tryz.call307
 ok:=by
  intro W w bs us as_ hk hu hp;obtain⟨a,x0,x1,rfl⟩:=hp
  match us,hu with
  |[x],hu=>
   obtain⟨rfl,_⟩:=hu;exact VB a x0 x1 w
def aiw:MethSpec Tryz.prog 212 "Place":=b7 307 false (by kernel_rfl) (by kernel_rfl)
theorem VC(a:Nat)(x0:ByteArray)(x1:Value)(x2:Value)(w:World):Calls Tryz.prog 308 #[.agg #[.int .i64 (a:Nat),.string x0,x1,x2]] w λe w' => e=.returned (.int .i64 (a:Nat))/\an w [] w' := by
 refine ak (nt:=5) [.tmp 2] Tryz.func308 rfl rfl rfl ?_;refine vR Γ0 nF ?_;refine vR Γ0 nF ?_;refine wZ nF ?_;exact λE=>rfl
def aag:a7 Tryz.prog 308 where
 pre:=λW bs as_=>∃ (a:Nat) (x0:ByteArray) (x1:Value) (x2:Value),as_=[.val (.agg #[.int .i64 (a:Nat),.string x0,x1,x2])]
 res:=λ_ as_=>match as_ with
  |[.val (.agg cs)]=>cs.getD 0 undef
  |_=>undef
 enters:=Tryz.call308
 ok:=by
  intro W w bs us as_ hk hu hp;obtain⟨a,x0,x1,x2,rfl⟩:=hp
  match us,hu with
  |[x],hu=>
   obtain⟨rfl,_⟩:=hu;exact VC a x0 x1 x2 w
def aix:MethSpec Tryz.prog 215 "Place":=b7 308 false (by kernel_rfl) (by kernel_rfl)
theorem VD(a:Nat)(x0:ByteArray)(x1:Value)(w:World):Calls Tryz.prog 309 #[.agg #[.int .i64 (a:Nat),.string x0,x1]] w λe w' => e=.returned (.int .i64 (a:Nat))/\an w [] w' := by
 refine ak (nt:=5) [.tmp 2] Tryz.func309 rfl rfl rfl ?_;refine vR Γ0 nF ?_;refine vR Γ0 nF ?_;refine wZ nF ?_;exact λE=>rfl
def aah:a7 Tryz.prog 309 where
 pre:=λW bs as_=>∃ (a:Nat) (x0:ByteArray) (x1:Value),as_=[.val (.agg #[.int .i64 (a:Nat),.string x0,x1])]
 res:=λ_ as_=>match as_ with
  |[.val (.agg cs)]=>cs.getD 0 undef
  |_=>undef
 enters:=Tryz.call309
 ok:=by
  intro W w bs us as_ hk hu hp;obtain⟨a,x0,x1,rfl⟩:=hp
  match us,hu with
  |[x],hu=>
   obtain⟨rfl,_⟩:=hu;exact VD a x0 x1 w
def aiy:MethSpec Tryz.prog 219 "Place":=b7 309 false (by kernel_rfl) (by kernel_rfl)
def spP:(f:FuncId)->Option (LE.Spec Tryz.prog f)
 |303=>some aab.spec
 |304=>some aac.spec
 |305=>some aad.spec
 |306=>some aae.spec
 |307=>some aaf.spec
 |308=>some aag.spec
 |309=>some aah.spec
 |_=>none
def ZN:(t:TypeId)->(name:String)->Option (MethSpec Tryz.prog t name)
 |205, "Place"=>some ais
 |206, "Place"=>some ait
 |207, "Place"=>some aiu
 |209, "Place"=>some aiv
 |212, "Place"=>some aiw
 |215, "Place"=>some aix
 |219, "Place"=>some aiy
 |_,_=>none
theorem Uv{Γ:Env Tryz.prog}{W:World}{bs:List Nat}{κ:Nat}{hh:Hp}(hm:Γ.mt=ZN)(hs:∀ f s,spP f=some s->Γ.sp f=some s){W0:World}{S0:Nat->Prop}{v:Value}{x:Ex}(h:AJ W0 S0 v x) :
  ∃ p:Prop,p/\aI Γ W bs κ hh "Place" [.v v]=⟨p,.v (.int .i64 (Uc x:Nat)),[],none,[],[]⟩:=by
 cases h with
 |name a s=>
  refine⟨aab.pre W bs [.val (.agg #[.int .i64 (a:Nat),.string s])],⟨a,s,rfl⟩,?_⟩;simp only[aI,hm,ZN,ais,b7,fc,hs 303 _ rfl];rfl
 |text a s=>
  refine⟨aac.pre W bs [.val (.agg #[.int .i64 (a:Nat),.string s])],⟨a,s,rfl⟩,?_⟩;simp only[aI,hm,ZN,ait,b7,fc,hs 304 _ rfl];rfl
 |rx a s=>
  refine⟨aad.pre W bs [.val (.agg #[.int .i64 (a:Nat),.string s])],⟨a,s,rfl⟩,?_⟩;simp only[aI,hm,ZN,aiu,b7,fc,hs 305 _ rfl];rfl
 |keyed a z x hx=>
  refine⟨aae.pre W bs [.val (.agg #[.int .i64 (a:Nat),z])],⟨a,z,rfl⟩,?_⟩;simp only[aI,hm,ZN,aiv,b7,fc,hs 306 _ rfl];rfl
 |unary a s z x hx=>
  refine⟨aaf.pre W bs [.val (.agg #[.int .i64 (a:Nat),.string s,z])],⟨a,s,z,rfl⟩,?_⟩;simp only[aI,hm,ZN,aiw,b7,fc,hs 307 _ rfl];rfl
 |binary a s z u x y hx hy=>
  refine⟨aag.pre W bs [.val (.agg #[.int .i64 (a:Nat),.string s,z,u])],⟨a,s,z,u,rfl⟩,?_⟩;simp only[aI,hm,ZN,aix,b7,fc,hs 308 _ rfl];rfl
 |call a s ao c vs l h1 h2 h3=>
  refine⟨aah.pre W bs [.val (.agg #[.int .i64 (a:Nat),.string s,.slice ao vs.length c])],⟨a,s,.slice ao vs.length c,rfl⟩,?_⟩;simp only[aI,hm,ZN,aiy,b7,fc,hs 309 _ rfl];rfl
end
section
open Go.RowKit Go.LE Go.Proofs.Tryz
theorem Y2{c:Prop}[Decidable c]{a b:Pc}{N:Nat}(ha:a.1.size<=N)(hb:b.1.size<=N):(if c then a else b).1.size<=N:=by
 by_cases h:c
 ·rw[if_pos h];exact ha
 ·rw[if_neg h];exact hb
theorem Lq(s:ByteArray)(i:Nat):∀ n k o,(mS s i n k o).1.size<=o.size+n
 |0,k,o=>Nat.zero_le _
 | n+1,k,o=>by
  have h:=λk' c=>Lq s i n k' (o++ff [c])
  have e:∀ c,(o++ff [c]).size=o.size+1:=λc=>by rw[ByteArray.size_append,dK];rfl
  rw[mS]
  repeat' apply Y2
  all_goals first
   |(refine Nat.le_trans (h _ _) ?_;rw[e];omega)
   |exact Nat.zero_le _
   |(show o.size<=_;omega)
theorem LF(s:ByteArray)(i:Nat):∀ n k,(oY s i n k).1.size<=s.size
 |0,k=>Nat.zero_le _
 | n+1,k=>by
  have h:=λk' => LF s i n k'
  rw[oY]
  repeat' apply Y2
  all_goals first
   |exact h _
   |exact Nat.zero_le _
   |(show (s.extract _ _).size<=_;rw[ByteArray.size_extract];omega)
abbrev akt (t:Tk):Prop:=t.2.1<=4096/\t.2.2.size<=4096
abbrev jU (r:List Tk):Prop:=∀ t∈r,akt t
theorem aku(s:ByteArray)(i:Nat)(hs:s.size<=4096)(hi:i<s.size):akt (b9 s i).1:=by
 have h0:∀ a b,(s.extract a b).size<=4096:=λa b=>by
  rw[ByteArray.size_extract];omega
 have h1:(zK s i).1.size<=4096:=by
  have:(zK s i).1.size<=fL.size+(s.size-(i+1)):=Lq s i _ _ _;have e:fL.size=0:=rfl;omega
 have h2:(Ah s i).1.size<=4096:=Nat.le_trans (LF s i _ _) hs;have hi' : i<=4096:=oM;unfold b9
 repeat' split
 all_goals first
  |exact⟨Nat.zero_le _,Nat.zero_le _⟩
  |exact⟨hi',h0 _ _⟩
  |exact⟨hi',h1⟩
  |exact⟨hi',h2⟩
  |exact⟨hi',show 2<=4096 by omega⟩
theorem aaP(s:ByteArray)(hs:s.size<=4096):∀ n i l,jU l->jU (v8 s n i l).1
 | 0,i,l,hl=>λt ht=>by
  rcases List.mem_append.1 ht with ht|ht
  ·exact hl t ht
  ·rw[List.mem_singleton.1 ht];exact⟨hs,Nat.zero_le _⟩
 | n+1,i,l,hl=>by
  rw[v8];split
  ·rename_i hi;split
   ·refine aaP s hs n _ _ λt ht=>?_
    rcases List.mem_append.1 ht with ht|ht
    ·exact hl t ht
    ·rw[List.mem_singleton.1 ht];exact aku s i hs hi
   ·intro t ht;cases ht
  ·intro t ht;rcases List.mem_append.1 ht with ht|ht
   ·exact hl t ht
   ·rw[List.mem_singleton.1 ht];exact⟨hs,Nat.zero_le _⟩
theorem afA(s:ByteArray):jU (bc s).1:=by
 unfold bc;split
 ·intro t ht;cases ht
 ·exact aaP s oM _ _ _ (λt ht=>by cases ht)
def nm:Ex->Nat
 |.cons _ l=>nm l+1
 |_=>0
def cw:Ex->Prop
 |.name a s=>a<=4096/\s.size<=4096
 |.text a s=>a<=4096/\s.size<=4096
 |.rx a s=>a<=4096/\s.size<=4096
 |.call a w l=>a<=4096/\w.size<=4096/\0<oq w/\nm l=(oq w).toNat/\cw l
 |.keyed a x=>a<=4096/\cw x
 |.unary a op x=>a<=4096/\op.size<=4096/\cw x
 |.binary a op x y=>a<=4096/\op.size<=4096/\cw x/\cw y
 |.nil=>True
 |.cons x l=>cw x/\cw l
def ot(sub:List Tk->PR):Prop:=∀ r,jU r->∀ a r',sub r=.ok (a,r')->cw a/\jU r'
theorem Sd{r:List Tk}(h:jU r):akt (pk r):=by
 cases r with
 |nil=>exact⟨Nat.zero_le _,Nat.zero_le _⟩
 |cons t r=>exact h t sI
theorem lq{r:List Tk}(h:jU r):jU r.tail:=λt ht=>h t (List.mem_of_mem_tail ht)
theorem BI{sub:List Tk->PR}(h:ot sub)(lev:Int):∀ n a r,jU r->cw a->∀ b r',ll sub lev n a r=.ok (b,r')->cw b/\jU r'
 |0,a,r,hr,ha,b,r',he=>by
  cases he;exact⟨ha,hr⟩
 | n+1,a,r,hr,ha,b,r',he=>by
  rw[ll]at he;split at he
  ·split at he
   ·cases he
   ·rename_i x r2 hs;obtain⟨h1,h2⟩:=h _ (lq hr) _ _ hs;have hp:=Sd hr;exact BI h lev n _ _ h2 (by simp only[cw];exact⟨hp.1,hp.2,ha,h1⟩) _ _ he
  ·cases he;exact⟨ha,hr⟩
theorem UU{sub:List Tk->PR}(h:ot sub)(lev:Int):ot (ui sub lev):=λr hr a r' he=>by
 unfold ui at he;split at he
 ·cases he
 ·rename_i x r2 hs;obtain⟨h1,h2⟩:=h _ hr _ _ hs;exact BI h lev _ _ _ h2 h1 _ _ he
theorem aai:∀ n a r,jU r->cw a->cw (qS n a r).1/\jU (qS n a r).2
 |0,a,r,hr,ha=>⟨ha,hr⟩
 | n+1,a,r,hr,ha=>by
  rw[qS];split
  ·have hp:=Sd hr;exact aai n _ _ (lq hr) (by simp only[cw];exact⟨hp.1,hp.2,ha⟩)
  ·exact⟨ha,hr⟩
theorem VF{atom:List Tk->PR}(h:ot atom):ot (oQ atom):=λr hr a r' he=>by
 unfold oQ at he;split at he
 ·cases he
 ·rename_i x r2 hs;obtain⟨h1,h2⟩:=h _ hr _ _ hs;simp only[Except.ok.injEq]at he;have h3:=aai r2.length x r2 h2 h1;rw[he]at h3;exact h3
theorem yb{atom:List Tk->PR}(h:ot atom):∀ k,ot (BK atom k)
 |0=>VF h
 |k+1=>UU (yb h k) _
theorem akh(l y:Ex)(hl:cw l)(hy:cw y):cw (yG l y)/\nm (yG l y)=nm l+1:=by
 induction l with
 |cons x l _ ih=>
  simp only[cw]at hl;obtain⟨i1,i2⟩:=ih hl.2;simp only[yG,cw,nm];exact⟨⟨hl.1,i1⟩,by rw[i2]⟩
 |_=>simp[yG,cw,nm,hy]
theorem AT{ex:List Tk->PR}(h:ot ex):∀ n k l r,jU r->cw l->∀ a r',kD ex n k l r=.ok (a,r')->(cw a/\nm a=nm l+n)/\jU r'
 |0,k,l,r,hr,hl,a,r',he=>by
  cases he;exact⟨⟨hl,rfl⟩,hr⟩
 | n+1,k,l,r,hr,hl,a,r',he=>by
  rw[kD]at he;split at he
  ·cases he
  ·have h1:jU (if 0<k then r.tail else r):=by
    split
    ·exact lq hr
    ·exact hr
   split at he
   ·cases he
   ·rename_i x r2 hs;obtain⟨h2,h3⟩:=h _ h1 _ _ hs;obtain⟨s1,s2⟩:=akh l x hl h2;obtain⟨⟨g1,g2⟩,g3⟩:=AT h n _ _ _ h3 s1 _ _ he;exact⟨⟨g1,oM⟩,g3⟩
theorem uv{m:ByteArray}{f:Ex->Ex}{q:PR}(h:∀ a r',q=.ok (a,r')->cw (f a)/\jU r'){a:Ex}{r' : List Tk}(he:dk m f q=.ok (a,r')):cw a/\jU r' := by
 cases q with
 |error e=>cases he
 | ok p=>
  obtain⟨x,r2⟩:=p;have he' : (if eU r2 m=true then (.ok (f x,r2.tail):PR) else .error (60,(pk r2).2.1))=.ok (a,r'):=he;by_cases hm:eU r2 m=true
  ·rw[if_pos hm]at he';cases he';obtain⟨h1,h2⟩:=h _ _ rfl;exact⟨h1,lq h2⟩
  ·rw[if_neg hm]at he';cases he'
theorem zc{m:Option (List Tk->PR)}(hm:∀ ex,m=some ex->ot ex):ot (eV m):=λr hr a r' he=>by
 have hp:=Sd hr;have key:∀ {r1:List Tk} {b:ByteArray} {go:(List Tk->PR)->List Tk->PR},e9 m r1 b go=.ok (a,r')->∃ ex,ot ex/\go ex r1.tail=.ok (a,r'):=λ{r1 b go} h=>by
  unfold e9 at h;split at h
  ·cases m with
   |none=>cases h
   |some ex=>exact⟨ex,hm ex rfl,h⟩
  ·cases h
 unfold eV at he;split at he
 ·cases he;exact⟨by simp only[cw];exact hp,lq hr⟩
 split at he
 ·cases he;exact⟨by simp only[cw];exact hp,lq hr⟩
 split at he
 ·rename_i hc;obtain⟨ex,h1,h3⟩:=key he;refine uv (λx r2 hs=>?_) h3;obtain⟨⟨g1,g2⟩,g3⟩:=AT h1 _ _ _ _ (lq (lq hr)) (by simp only[cw]) _ _ hs;refine⟨?_,g3⟩;simp only[cw];exact⟨hp.1,hp.2,hc.2,by rw[g2];simp[nm],g1⟩
 split at he
 ·cases he;exact⟨by simp only[cw];exact hp,lq hr⟩
 split at he
 ·obtain⟨ex,h1,h3⟩:=key he;refine uv (λx r2 hs=>?_) h3;obtain⟨g1,g3⟩:=h1 _ (lq hr) _ _ hs;exact⟨by simp only[cw];exact⟨hp.1,g1⟩,g3⟩
 split at he
 ·obtain⟨ex,h1,h3⟩:=key he;exact uv (λx r2 hs=>h1 _ (lq hr) _ _ hs) h3
 ·cases he
theorem zb:∀ m,ot (eu m)
 |0=>zc λex h=>by cases h
 |m+1=>zc λex h=>by
  cases h;exact yb (zb m) 5
def ad1(d:Nat×ByteArray×Ex):Prop:=d.1<=4096/\d.2.1.size<=4096/\cw d.2.2
def VE(p:Pm):Prop:=(∀ d∈p.1,ad1 d)/\cw p.2
theorem Cg{ex:List Tk->PR}(h:ot ex):∀ n ds r,jU r->(∀ d∈ds,ad1 d)->∀ p r',fW ex n ds r=.ok (p,r')->VE p
 |0,ds,r,hr,hd,p,r',he=>by cases he
 | n+1,ds,r,hr,hd,p,r',he=>by
  rw[fW]at he;split at he
  ·split at he
   ·cases he
   split at he
   ·cases he
   split at he
   ·cases he
   rename_i x r2 hs;obtain⟨h1,h2⟩:=h _ (lq (lq (lq hr))) _ _ hs;split at he
   ·cases he
   have hp:=Sd (lq hr);refine Cg h n _ _ (lq h2) (λd hd' => ?_) _ _ he;rcases List.mem_append.1 hd' with hd'|hd'
   ·exact hd d hd'
   ·rw[List.mem_singleton.1 hd'];exact⟨hp.1,hp.2,h1⟩
  ·split at he
   ·cases he
   rename_i x r2 hs;obtain⟨h1,h2⟩:=h _ hr _ _ hs;split at he
   ·cases he;exact⟨hd,h1⟩
   ·cases he
theorem Qn{s:ByteArray}{p:Pm}(h:lH s=.ok p):VE p:=by
 unfold lH at h;split at h
 ·split at h
  ·cases h
  ·rename_i q r hq;cases h;exact Cg (yb (zb 64) 5) _ _ _ (afA s) (λd hd=>by cases hd) _ _ hq
 ·cases h
def cnW(op:ByteArray)(n:Option Rx)(x y:Cn):Prop:=if (op=RE\/op=qG)\/op=jz then n≠none else if op=gA then x≠.nil else x≠.nil/\y≠.nil
def UX(op:ByteArray)(n:Option Rx)(q:Cn)(x y:Ln):Prop:=
 if (op=jt\/op=Aa)\/op=GK then n≠none
 else if op=lY then True
 else if (op=gA\/op=iP)\/op=vn then x≠.nil
 else if op=vJ\/op=pH then x≠.nil/\q≠.nil
 else x≠.nil/\y≠.nil
def mP:Cn->Prop
 |.nil=>True
 |.mk a op n to bk x y=>a<=4096/\op.size<=4096/\to.size<=4096/\bk.size<=4096/\mP x/\mP y/\cnW op n x y
def nG:Ln->Prop
 |.nil=>True
 |.mk a op n tx q x y=>a<=4096/\op.size<=4096/\tx.size<=4096/\mP q/\nG x/\nG y/\UX op n q x y
theorem Ba{op:ByteArray}{n:Option Rx}{x y:Cn}(h:(op=RE\/op=qG)\/op=jz):cnW op n x y=(n≠none):=by rw[cnW,if_pos h]
theorem J1{n:Option Rx}{x y:Cn}:cnW gA n x y=(x≠.nil):=by rw[cnW,if_neg dE,if_pos rfl]
theorem adX{op:ByteArray}{n:Option Rx}{x y:Cn}(h:op=xC\/op=xM):cnW op n x y=(x≠.nil/\y≠.nil):=by
 rcases h with rfl|rfl<;>rw[cnW,if_neg dE,if_neg dE]
theorem x9{op:ByteArray}{n:Option Rx}{q:Cn}{x y:Ln}(h:(op=jt\/op=Aa)\/op=GK):UX op n q x y=(n≠none):=by rw[UX,if_pos h]
theorem aeI{n:Option Rx}{q:Cn}{x y:Ln}:UX lY n q x y=True:=by rw[UX,if_neg dE,if_pos rfl]
theorem s5{op:ByteArray}{n:Option Rx}{q:Cn}{x y:Ln}(h:(op=gA\/op=iP)\/op=vn):UX op n q x y=(x≠.nil):=by
 rcases h with (rfl|rfl)|rfl<;>rw[UX,if_neg dE,if_neg dE,if_pos dE]
theorem vP{op:ByteArray}{n:Option Rx}{q:Cn}{x y:Ln}(h:op=vJ\/op=pH):UX op n q x y=(x≠.nil/\q≠.nil):=by
 rcases h with rfl|rfl<;>rw[UX,if_neg dE,if_neg dE,if_neg dE,if_pos dE]
theorem G8{op:ByteArray}{n:Option Rx}{q:Cn}{x y:Ln}(h:((op=xC\/op=xM)\/op=L6)\/op=A8):UX op n q x y=(x≠.nil/\y≠.nil):=by
 rcases h with ((rfl|rfl)|rfl)|rfl<;>rw[UX,if_neg dE,if_neg dE,if_neg dE,if_neg dE]
def fU:Tm->Prop
 |.text a s=>a<=4096/\s.size<=4096
 |.rx a r=>a<=4096
 |.canon c=>mP c/\c≠.nil
 |.lens l=>nG l/\l≠.nil
def Xw(t:Tm):Prop:=fU t/\cq t<=8192
theorem O5{s:ByteArray}{r:Rx}(h:rQ s=.ok r):bR r<=2000:=by
 rw[yo]at h;cases hd:TV s with
 |error e=>
  obtain⟨c,p⟩:=e;rw[hd,Fq (e:=.error (c,p)) rfl]at h;cases h
 |ok t=>
  rw[hd]at h;cases h;exact N3 hd
theorem cC{α:Type}{x:Except (Int×Int) α}{f:α->TE}{u:Tm}(h:cc x f=.ok u):∃ a,x=.ok a/\f a=.ok u:=by
 cases x with
 |error e=>cases h
 |ok a=>exact⟨a,rfl,h⟩
theorem Ao{a:Nat}{t u:Tm}(h:lS a t=.ok u):u=t/\cq t<=2000:=by
 unfold lS at h;split at h
 ·cases h
 ·cases h;exact⟨rfl,oM⟩
theorem ajI{a:Nat}{t u:Tm}(ha:a<=4096)(ht:fU t)(h:G3 a t=.ok u):fU u:=by
 cases t with
 |lens l=>
  cases h;simp only[fU,nG];exact⟨⟨ha,dE,dE,by simp only[mP],ht.1,trivial,by rw[s5 (.inl (.inr rfl))];exact ht.2⟩,sI⟩
 |_=>cases h
theorem ame{a:Nat}{op:ByteArray}{t u:Tm}(ha:a<=4096)(ht:fU t)(h:Gh a op t=.ok u):fU u:=by
 have hS:gA.size<=4096:=by decide
 have hC:xM.size<=4096:=by decide
 have hA:xC.size<=4096:=by decide
 have hP:jt.size<=4096:=by decide
 have hN:(⟨#[]⟩:ByteArray).size<=4096:=by decide
 unfold Gh at h;split at h
 ·cases h;exact ha
 split at h
 ·split at h
  ·cases h;simp only[fU,mP];exact⟨⟨ha,hS,hN,hN,ht.1,trivial,by rw[J1];exact ht.2⟩,sI⟩
  ·cases h
 ·rename_i l _;have hl:nG l:=ht.1;have hln:l≠.nil:=ht.2;have hst:UX gA none .nil l .nil:=by rw[s5 (.inl (.inl rfl))];exact hln
  cases h;split
  ·simp only[fU,nG,mP];exact⟨⟨ha,hS,hN,trivial,hl,trivial,hst⟩,sI⟩
  split
  ·simp only[fU,nG,mP];exact⟨⟨ha,hC,hN,trivial,hl,⟨ha,hS,hN,trivial,hl,trivial,hst⟩,by rw[G8 (.inl (.inl (.inr rfl)))];exact⟨hln,sI⟩⟩,sI⟩
  ·simp only[fU,nG,mP];exact⟨⟨ha,hA,hN,trivial,hl,⟨ha,hP,hN,trivial,trivial,trivial,by rw[x9 (.inl (.inl rfl))];simp⟩,by rw[G8 (.inl (.inl (.inl rfl)))];exact⟨hln,sI⟩⟩,sI⟩
 ·cases h
theorem Z4(n:Nat):(Vp n).size<=4096:=by
 unfold Vp;split<;>decide
theorem Z3{n:Nat}(h:0<n)(h4:n<=4):((Vp n=xC\/Vp n=xM)\/Vp n=L6)\/Vp n=A8:=by
 match n,h,h4 with
 |1,_,_=>exact .inl (.inl (.inl rfl))
 |2,_,_=>exact .inl (.inl (.inr rfl))
 |3,_,_=>exact .inl (.inr rfl)
 |4,_,_=>exact .inr rfl
theorem aj6(op:ByteArray):Hk op<=4:=by
 unfold Hk
 repeat' split
 all_goals omega
theorem X2{a:Nat}{op:ByteArray}{t u r:Tm}(ha:a<=4096)(ht:fU t)(hu:fU u)(h:re a op t u=.ok r):fU r:=by
 have hN:(⟨#[]⟩:ByteArray).size<=4096:=by decide
 have hO:=Z4 (Hk op);unfold re at h;split at h
 ·split at h
  ·rename_i h0;cases h;simp only[fU,nG,mP];exact⟨⟨ha,hO,hN,trivial,ht.1,hu.1,by rw[G8 (Z3 h0 (aj6 op))];exact⟨ht.2,hu.2⟩⟩,sI⟩
  ·cases h
 ·split at h
  ·rename_i h0;cases h;simp only[fU,nG,mP];have h1:Vp (Hk op)=xC\/Vp (Hk op)=xM:=by
    rcases h0 with h0|h0<;>rw[h0]
    ·exact .inl rfl
    ·exact .inr rfl
   exact⟨⟨ha,hO,hN,hN,ht.1,hu.1,by rw[adX h1];exact⟨ht.2,hu.2⟩⟩,sI⟩
  ·cases h
 ·cases h
theorem alj{a:Nat}{op:ByteArray}{t u r:Tm}(ha:a<=4096)(ht:fU t)(hu:fU u)(h:X0 a op t u=.ok r):fU r:=by
 unfold X0 at h;split at h
 ·split at h
  ·cases h;exact ha
  ·exact X2 ha ht hu h
 ·exact X2 ha ht hu h
theorem Rh{w:ByteArray}(h:0<oq w):(((w=jt\/w=Aa)\/w=lY)\/w=RE\/w=qG)\/((w=GK\/w=vJ)\/w=pH\/w=vn)\/w=jz:=by
 unfold oq at h;split at h
 ·rename_i h';rcases h' with h'|h'|h'|h'|h'
  ·exact .inl (.inl (.inl (.inl h')))
  ·exact .inl (.inl (.inl (.inr h')))
  ·exact .inl (.inl (.inr h'))
  ·exact .inl (.inr (.inl h'))
  ·exact .inl (.inr (.inr h'))
 split at h
 ·rename_i h';rcases h' with h'|h'|h'|h'
  ·exact .inr (.inl (.inl (.inl h')))
  ·exact .inr (.inl (.inl (.inr h')))
  ·exact .inr (.inl (.inr (.inl h')))
  ·exact .inr (.inl (.inr (.inr h')))
 split at h
 ·rename_i h';exact .inr (.inr h')
 split at h
 ·omega
 ·omega
theorem adT{a:Nat}{w:ByteArray}{ts:List Tm}{ps:List Nat}{u:Tm}(ha:a<=4096)(hw:w.size<=4096)(hr:0<oq w)(hts:∀ t∈ts,fU t)(h:br a w ts ps=.ok u):fU u:=by
 have hN:(⟨#[]⟩:ByteArray).size<=4096:=by decide
 have tx:∀ {i s},EI ts ps i=.ok s->s.size<=4096:=λ{i s} h=>by
  unfold EI at h;split at h
  ·rename_i hi;cases h;exact (hts _ (List.mem_of_getElem? hi)).2
  ·cases h
 have cn:∀ {i c},Nc ts ps i=.ok c->mP c/\c≠.nil:=λ{i c} h=>by
  unfold Nc at h;split at h
  ·rename_i hi;cases h;exact hts _ (List.mem_of_getElem? hi)
  ·cases h
 have ln:∀ {i l},Jr ts ps i=.ok l->nG l/\l≠.nil:=λ{i l} h=>by
  unfold Jr at h;split at h
  ·rename_i hi;cases h;exact hts _ (List.mem_of_getElem? hi)
  ·cases h
 unfold br at h;split at h
 ·rename_i hc;obtain⟨n,_,h⟩:=cC h;cases h;simp only[fU,mP];exact⟨⟨ha,hw,hN,hN,trivial,trivial,by rw[Ba (.inl hc)];simp⟩,sI⟩
 split at h
 ·rename_i hc;obtain⟨n,_,h⟩:=cC h;obtain⟨s,h1,h⟩:=cC h;obtain⟨t,h2,h⟩:=cC h;cases h;simp only[fU,mP];exact⟨⟨ha,hw,tx h1,tx h2,trivial,trivial,by rw[Ba (.inr hc)];simp⟩,sI⟩
 split at h
 ·rename_i hc;obtain⟨n,_,h⟩:=cC h;obtain⟨s,h1,h⟩:=cC h;cases h;simp only[fU,nG,mP];exact⟨⟨ha,hw,tx h1,trivial,trivial,trivial,by rw[x9 (.inr hc)];simp⟩,sI⟩
 split at h
 ·rename_i hc;obtain⟨s,h1,h⟩:=cC h;cases h;subst hc;simp only[fU,nG,mP];exact⟨⟨ha,hw,tx h1,trivial,trivial,trivial,by rw[aeI];trivial⟩,sI⟩
 split at h
 ·rename_i hc;obtain⟨s,h1,h⟩:=cC h;cases h;simp only[fU,nG,mP];exact⟨⟨ha,hw,hN,trivial,trivial,trivial,by rw[x9 (.inl hc)];simp⟩,sI⟩
 split at h
 ·rename_i hc;obtain⟨c,h1,h⟩:=cC h;obtain⟨l,h2,h⟩:=cC h;cases h;simp only[fU,nG];exact⟨⟨ha,hw,hN,(cn h1).1,(ln h2).1,trivial,by rw[vP (.inl hc)];exact⟨(ln h2).2,(cn h1).2⟩⟩,sI⟩
 split at h
 ·rename_i hc;obtain⟨l,h2,h⟩:=cC h;obtain⟨c,h1,h⟩:=cC h;cases h;simp only[fU,nG];exact⟨⟨ha,hw,hN,(cn h1).1,(ln h2).1,trivial,by rw[vP (.inr hc)];exact⟨(ln h2).2,(cn h1).2⟩⟩,sI⟩
 split at h
 ·rename_i hc;obtain⟨l,h2,h⟩:=cC h;obtain⟨s,h1,h⟩:=cC h;cases h;simp only[fU,nG,mP];exact⟨⟨ha,hw,tx h1,trivial,(ln h2).1,trivial,by rw[s5 (.inr hc)];exact (ln h2).2⟩,sI⟩
 ·rename_i g1 g2 g3 g4 g5 g6 g7 g8;exfalso;rcases Rh hr with (((h|h)|h)|h|h)|((h|h)|h|h)|h
  ·exact g5 (.inl h)
  ·exact g5 (.inr h)
  ·exact g4 h
  ·exact g1 (.inl h)
  ·exact g1 (.inr h)
  ·exact g3 h
  ·exact g6 h
  ·exact g7 h
  ·exact g8 h
  ·exact g2 h
def vt(v:En):Prop:=∀ e∈v,Xw e.2
theorem alE{v:En}{s:ByteArray}{t:Tm}(hv:vt v)(h:Fo v s=some t):Xw t:=by
 induction v with
 |nil=>cases h
 | cons e r ih=>
  obtain⟨k,u⟩:=e;rw[Fo]at h;split at h
  ·cases h;exact hv (k,t) sI
  ·exact ih (λe he=>hv e (List.mem_cons_of_mem _ he)) h
theorem Fp(v:En)(hv:vt v)(x:Ex):cw x->(∀ t,aP v x=.ok t->Xw t)/\(∀ ts,ig v x=.ok ts->(∀ t∈ts,Xw t)/\ts.length=nm x):=by
 have triv:∀ ts:List Tm,(.ok []:Except (Int×Int) (List Tm))=.ok ts->(∀ t∈ts,Xw t)/\ts.length=0:=λts h=>by
  cases h;exact⟨λt ht=>(by cases ht),rfl⟩
 induction x with
 | name a s=>
  refine λhx=>⟨λt h=>?_,λts h=>triv ts (by simpa only[ig] using h)⟩
  simp only[aP]at h;split at h
  ·rename_i hl;cases h;exact alE hv hl
  ·cases h
 |text a s=>
  refine λhx=>⟨λt h=>?_,λts h=>triv ts (by simpa only[ig] using h)⟩
  simp only[aP]at h;cases h;simp only[cw]at hx;refine⟨hx,?_⟩;simp only[cq,mU];omega
 | rx a s=>
  refine λhx=>⟨λt h=>?_,λts h=>triv ts (by simpa only[ig] using h)⟩
  simp only[aP]at h;split at h
  ·rename_i r hr;cases h;simp only[cw]at hx;have:=O5 hr;exact⟨hx.1,by simp only[cq];omega⟩
  ·cases h
 |keyed a x ih=>
  refine λhx=>⟨λt h=>?_,λts h=>triv ts (by simpa only[ig] using h)⟩
  simp only[aP]at h;simp only[cw]at hx;obtain⟨t1,h1,h⟩:=cC h;obtain⟨t2,h2,h⟩:=cC h;obtain⟨rfl,h3⟩:=Ao h;exact⟨ajI hx.1 ((ih hx.2).1 _ h1).1 h2,oM⟩
 |unary a op x ih=>
  refine λhx=>⟨λt h=>?_,λts h=>triv ts (by simpa only[ig] using h)⟩
  simp only[aP]at h;simp only[cw]at hx;obtain⟨t1,h1,h⟩:=cC h;obtain⟨t2,h2,h⟩:=cC h;obtain⟨rfl,h3⟩:=Ao h;exact⟨ame hx.1 ((ih hx.2.2).1 _ h1).1 h2,oM⟩
 |binary a op x y ix iy=>
  refine λhx=>⟨λt h=>?_,λts h=>triv ts (by simpa only[ig] using h)⟩
  simp only[aP]at h;simp only[cw]at hx;obtain⟨t1,h1,h⟩:=cC h;obtain⟨t0,h0,h⟩:=cC h;obtain⟨t2,h2,h⟩:=cC h;obtain⟨rfl,h3⟩:=Ao h;exact⟨alj hx.1 ((ix hx.2.2.1).1 _ h1).1 ((iy hx.2.2.2).1 _ h0).1 h2,oM⟩
 | call a w l ih=>
  refine λhx=>⟨λt h=>?_,λts h=>triv ts (by simpa only[ig] using h)⟩
  simp only[aP]at h;simp only[cw]at hx;split at h
  ·cases h
  ·rename_i ts hl;obtain⟨t2,h2,h⟩:=cC h;obtain⟨rfl,h3⟩:=Ao h;exact⟨adT hx.1 hx.2.1 hx.2.2.1 (λt ht=>(((ih hx.2.2.2.2).2 _ hl).1 t ht).1) h2,oM⟩
 |nil=>
  refine λhx=>⟨λt h=>?_,λts h=>triv ts (by simpa only[ig] using h)⟩
  simp only[aP]at h;cases h
 | cons x l ix il=>
  refine λhx=>⟨λt h=>?_,λts h=>?_⟩
  ·simp only[aP]at h;cases h
  ·simp only[ig]at h;simp only[cw]at hx;split at h
   ·cases h
   ·rename_i t ht;split at h
    ·cases h
    ·rename_i us hu;cases h;obtain⟨g1,g2⟩:=(il hx.2).2 _ hu;refine⟨λt' ht' => ?_,by simp only[List.length_cons,nm,g2]⟩;rcases List.mem_cons.1 ht' with rfl|ht'
     ·exact (ix hx.1).1 _ ht
     ·exact g1 t' ht'
theorem pF{v:En}{x:Ex}{t:Tm}(hv:vt v)(hx:cw x)(h:aP v x=.ok t):Xw t:=(Fp v hv x hx).1 t h
theorem KI{v:En}{x:Ex}{ts:List Tm}(hv:vt v)(hx:cw x)(h:ig v x=.ok ts):(∀ t∈ts,Xw t)/\ts.length=nm x:=(Fp v hv x hx).2 ts h
theorem Rn:∀ (v:En) (l:List (Nat×ByteArray×Ex)) (u:En),vt v->(∀ d∈l,ad1 d)->rl v l=.ok u->vt u
 |v,[],u,hv,hl,h=>by
  cases h;exact hv
 | v,(a,s,x)::r,u,hv,hl,h=>by
  rw[rl]at h;split at h
  ·cases h
  split at h
  ·cases h
  rename_i t ht;refine Rn _ r u (λe he=>?_) (λd hd=>hl d (List.mem_cons_of_mem _ hd)) h;rcases List.mem_append.1 he with he|he
  ·exact hv e he
  ·rw[List.mem_singleton.1 he];exact pF hv (hl (a,s,x) sI).2.2 ht
theorem ad2{p:Pm}{t:Tm}(hp:VE p)(h:rm p=.ok t):Xw t:=by
 unfold rm at h;split at h
 ·cases h
 ·rename_i v hv;exact pF (Rn [] p.1 v (λe he=>by cases he) hp.1 hv) hp.2 h
theorem alC(x:ByteArray):cY [x]=x:=by
 unfold cY;rw[List.map_cons,List.map_nil,Lib.join_one]
theorem bD:∀ l:List ByteArray,(cY l).size<=(l.map λx=>x.size+1).sum
 |[]=>Nat.zero_le _
 |[x]=>by
  rw[alC];simp
 | x::y::r=>by
  have ih:=bD (y::r);have e:cY (x::y::r)=x++J3++cY (y::r):=by
   unfold cY Lib.join;apply ByteArray.ext;simp[List.intercalate,List.intersperse]
  rw[e,ByteArray.size_append,ByteArray.size_append];have:J3.size=1:=rfl;simp only[List.map_cons,List.sum_cons]at ih ⊢;omega
theorem Bp(a:Nat)(w:ByteArray)(l:List ByteArray)(ha:a<=4096):(cR a w l).size<=w.size+22+(l.map λx=>x.size+1).sum:=by
 have h1:=Fw (n:=(a:Nat)) oM oM;have h2:=bD l;have e1:atB.size=1:=rfl;have e2:aj8.size=1:=rfl;have e3:ajg.size=1:=rfl;unfold cR;simp only[ByteArray.size_append];omega
theorem gQ(n:Option Rx):(dS n).size<=2400*dZ n+4:=by
 have e1:aa1.size=1:=rfl;cases n with
 |none=>
  have e2:(⟨#[91,93]⟩:ByteArray).size=2:=rfl;simp only[dS,ByteArray.size_append];omega
 |some r=>
  have:=cM r;simp only[dS,ByteArray.size_append,dZ];omega
theorem wx(c:Cn)(h:mP c):(mN c).size<=40000*ed c:=by
 induction c with
 |nil=>exact Nat.zero_le _
 | mk a op n to bk x y ix iy=>
  simp only[mP]at h;obtain⟨h1,h2,h3,h4,h5,h6,_⟩:=h;have ix:=ix h5;have iy:=iy h6;have hn:=gQ n;have ht:=ka to;have hb:=ka bk;have hh:=λl=>Bp a op l h1
  simp only[mN,ed]
  repeat' split
  all_goals
   refine Nat.le_trans (hh _) ?_;simp only[List.map_cons,List.map_nil,List.sum_cons,List.sum_nil];omega
theorem LZ(l:Ln)(h:nG l):(hY l).size<=40000*iz l:=by
 induction l with
 |nil=>exact Nat.zero_le _
 | mk a op n tx q x y ix iy=>
  simp only[nG]at h;obtain⟨h1,h2,h3,h4,h5,h6,_⟩:=h;have ix:=ix h5;have iy:=iy h6;have iq:=wx q h4;have hn:=gQ n;have ht:=ka tx;have hh:=λl=>Bp a op l h1
  simp only[hY,iz]
  repeat' split
  all_goals
   refine Nat.le_trans (hh _) ?_;simp only[List.map_cons,List.map_nil,List.sum_cons,List.sum_nil];omega
end
section
open Go Go.RowKit Go.LE
set_option maxRecDepth 10000
def eT(W:World)(S:Nat->Prop):List Value->List Tm->Prop
 |[],[]=>True
 |v::vs,t::ts=>eS W S v t/\eT W S vs ts
 |_,_=>False
theorem eT.mono{W W' : World}{S S' : Nat->Prop}(hs:aY W S W' S'):∀ {vs:List Value} {ts:List Tm},eT W S vs ts->eT W' S' vs ts
 |[],[],_=>trivial
 |[],_::_,h=>h
 |_::_,[],h=>h
 |v::vs,t::ts,⟨h1,h2⟩=>⟨h1.mono hs,eT.mono hs h2⟩
theorem eT.len{W:World}{S:Nat->Prop}:∀ {vs:List Value} {ts:List Tm},eT W S vs ts->vs.length=ts.length
 |[],[],_=>rfl
 |[],_::_,h=>h.elim
 |_::_,[],h=>h.elim
 |v::vs,t::ts,⟨h1,h2⟩=>by rw[List.length_cons,List.length_cons,eT.len h2]
theorem eT.get{W:World}{S:Nat->Prop}:∀ {vs:List Value} {ts:List Tm} {i:Nat},eT W S vs ts->i<vs.length->∃ v t,vs[i]?=some v/\ts[i]?=some t/\eS W S v t
 |[],[],i,_,h=>absurd h (Nat.not_lt_zero i)
 |[],_::_,i,h,_=>h.elim
 |_::_,[],i,h,_=>h.elim
 |v::vs,t::ts,0,⟨h1,h2⟩,_=>⟨v,t,rfl,rfl,h1⟩
 |v::vs,t::ts,i+1,⟨h1,h2⟩,h=>by
  obtain⟨v',t',g1,g2,g3⟩:=eT.get h2 (Nat.lt_of_succ_lt_succ h);exact⟨v',t',by simpa using g1,by simpa using g2,g3⟩
theorem eT.snoc{W:World}{S:Nat->Prop}{v:Value}{t:Tm}(hv:eS W S v t):∀ {vs:List Value} {ts:List Tm},eT W S vs ts->eT W S (vs++[v]) (ts++[t])
 |[],[],_=>⟨hv,trivial⟩
 |[],_::_,h=>h.elim
 |_::_,[],h=>h.elim
 |v::vs,t::ts,⟨h1,h2⟩=>⟨h1,eT.snoc hv h2⟩
theorem oh.at{W:World}{S:Nat->Prop}:∀ {vs:List Value} {l:Ex} {i:Nat},oh W S false vs l->i<vs.length->∃ v x,vs[i]?=some v/\AJ W S v x/\Uc x=(cB l).getD i 0
 |[],l,i,_,h=>absurd h (Nat.not_lt_zero i)
 |v::vs,l,0,h,_=>by
  cases h with
  |cons _ _ x l h1 h2=>exact⟨v,x,rfl,h1,rfl⟩
 | v::vs,l,i+1,h,hi=>by
  cases h with
  |cons _ _ x l h1 h2=>
   obtain⟨v',x',g1,g2,g3⟩:=oh.at h2 (Nat.lt_of_succ_lt_succ hi);exact⟨v',x',by simpa using g1,g2,g3⟩
theorem jN.cell{W:World}{S:Nat->Prop}{ao:Option Addr}{vs:List Value}{i:Nat}{v:Value}(h:jN W S ao vs)(hv:vs[i]?=some v):∃ b o,ao=some ⟨b,o,none⟩/\S b/\W.cell? ⟨b,o+i,none⟩=some v:=by
 rcases h with h|⟨b,o,rfl,hc⟩
 ·rw[h]at hv;cases hv
 ·obtain⟨hi,rfl⟩:=List.getElem?_eq_some_iff.1 hv;exact⟨b,o,rfl,(hc i hi).1,(hc i hi).2⟩
structure Ag where
 a:Nat
 wd:ByteArray
 ea:Option Addr
 ec:Nat
 vs:List Value
 l:Ex
 ta:Option Addr
 tc:Nat
 us:List Value
 ts:List Tm
def zW(q:Ag)(i:Nat):List AV:=[.val (.int .i64 (q.a:Nat)),.val (.string q.wd),.val (.slice q.ea q.vs.length q.ec),.val (.slice q.ta q.us.length q.tc),.val (.int .i64 (i:Nat))]
def Ag.ok(q:Ag)(W:World)(S:Nat->Prop):Prop:=(jN W S q.ea q.vs/\oh W S false q.vs q.l)/\(jN W S q.ta q.us/\eT W S q.us q.ts)/\(q.vs.length=q.us.length/\q.us.length<=3/\q.us.length<=q.tc/\q.vs.length<=q.ec)/\∀ t∈q.ts,Xw t
theorem Ag.ok.mono{q:Ag}{W W' : World}{S S' : Nat->Prop}(h:q.ok W S)(hs:aY W S W' S'):q.ok W' S' := ⟨⟨h.1.1.mono hs,h.1.2.mono hs⟩,⟨h.2.1.1.mono hs,h.2.1.2.mono hs⟩,h.2.2⟩
theorem Ag.ok.fR{q:Ag}{W w:World}{bs fp:List Nat}(h:q.ok W (Out bs))(hk:LE.an W bs w)(hm:∀ b∈fp,W.heap.size<=b\/b∈bs):q.ok w (Out fp):=
 h.mono λb hb hs=>⟨hk.block b hb hs,λhb' => (hm b hb').elim (λg=>absurd g (Nat.not_le.2 hb)) hs⟩
theorem Bu{Γ:Env Tryz.prog}{W:World}{bs:List Nat}{κ:Nat}{hh:Hp}(hm:Γ.mt=ZN)(hs:∀ f s,spP f=some s->Γ.sp f=some s){W0:World}{S0:Nat->Prop}{v:Value}{x:Ex}(h:AJ W0 S0 v x) :
  aI Γ W bs κ hh "Place" [.v v]=⟨True,.v (.int .i64 (Uc x:Nat)),[],none,[],[]⟩:=by
 obtain⟨p,hp,e⟩:=Uv (Γ:=Γ) (W:=W) (bs:=bs) (κ:=κ) (hh:=hh) hm hs h;rw[e,eq_true hp]
def Tg(q:Ag)(i:Nat):List PanicEntry:=bb 72 (((cB q.l).getD i 0:Nat))
theorem rY{t:Tm}(h:Xw t):Wq t:=by
 cases t with
 |text a s=>
  have:s.size<=4096:=h.1.2;show s.size<=_;omega
 |_=>trivial
noncomputable def fe:Env Tryz.prog:=⟨λ| 64=>some (gZ.spec (λ_=>False))|f=>spP f,λ_=>none,ZN⟩
theorem agK:fe.sp 64=some (gZ.spec (λ_=>False)):=rfl
theorem ac2{W:World}{bs:List Nat}{κ:Nat}{hh:Hp}{W0:World}{S0:Nat->Prop}{v:Value}{x:Ex}(h:AJ W0 S0 v x):aI fe W bs κ hh "Place" [.v v]=⟨True,.v (.int .i64 (Uc x:Nat)),[],none,[],[]⟩:=
 Bu rfl (λf s hf=>by
  unfold spP at hf
  split at hf<;>cases hf<;>rfl) h
def alg:=(ae @List.replicate_succ.{0} @List.replicate_zero.{0} @au @ab kQ kS kU (ae dc dd de df dv dw dz (ae dA eB eC eD eE eF eG (ae n8 oa ob oc jH jI jJ (ae jK jL nN nO nP nQ nR (ae iA iB iC iD pR pS pT (ae pU pV pW pX pY pZ p4 (ae p5 p6 p7 p8 p9 qc qd (ae qe qf qg qh qi qj qk (ae ql qm qn qp mi mj ml (ae mm mn mq mr mu mv mw (ae my mz mA mB mC mD mE (ae mF mG Jf Jg QS QT QU (ae QV yN yO yP yQ yR yS (ae yT yU yV yW QW QX abN (ae abO abP abQ abR abS abT abU (ae abV abW abX abY abZ ab0 ab1 (ae ab2 ab3 ab4 akC akD @aV @aw (EP @aD @aG @cK @agK @gZ.eq_1 @zW.eq_1 @fy)))))))))))))))))))
theorem O8(q:Ag)(i:Nat)(u:Value)(fp:List Nat)(w:World)(hq:q.ok w (Out fp))(hi:i<q.us.length)(ho:aW w u fp 293 (zW q i))(hlt:∀ b∈fp,b<w.heap.size) :
  Calls Tryz.prog 209 (#[u]++#[]) w λx w' => dH w u fp 293 x w' (.pan (Tg q i) (.tuple #[])):=by
 have hi2:i<q.vs.length:=by have:=hq.2.2.1.1;omega
 obtain⟨v,x,hv,hx,hat⟩:=oh.at hq.1.2 hi2;obtain⟨b,o,hea,hb,hc⟩:=jN.cell hq.1.1 hv;have hpl:=λW bs κ hh=>ac2 (W:=W) (bs:=bs) (κ:=κ) (hh:=hh) hx
 have hb' : b∉fp:=hb;refine aN (nt:=15) #[] [] (by show 5<=7;omega) ho hlt Tryz.func209 rfl rfl rfl ?_;refine Wp.qK fe aM (ev (ae alg hea hc hpl hat @Tg.eq_1 @bb.eq_1 @pg.eq_1)) rfl (by kernel_rfl) ?_ ?_
 ·exact⟨⟨oM,oM⟩,hb',_,_,rfl⟩
 refine qq ?_;exact⟨_,rfl⟩
def Hy(q:Ag)(i:Nat):bJ Tryz.prog 209 where
 T:=293
 pre:=λW bs fs as_=>(fs=zW q i/\as_=[])/\q.ok W (Out bs)/\i<q.us.length
 out:=λ_ _ _=>.pan (Tg q i) (.tuple #[])
 enters:=Tryz.call209
 ok:=by
  intro W w bs u fp us fs as_ hk ho hlt hmine hu hp;obtain⟨⟨rfl,rfl⟩,h1,h2⟩:=hp
  match us,hu with
  |[],_=>exact O8 q i u fp w (h1.fR hk hmine) h2 ho hlt
noncomputable def xp(q:Ag)(i:Nat):Env Tryz.prog:=⟨λ| 209=>some (Hy q i).spec|158=>some Tw.spec|_=>none,λ_=>none,λ_ _=>none⟩
theorem ac4(q:Ag)(i:Nat):(xp q i).sp 209=some (Hy q i).spec:=rfl
theorem ac3(q:Ag)(i:Nat):(xp q i).sp 158=some Tw.spec:=rfl
def agO(e:Except (Int×Int) Value)(q:Ag)(i:Nat):BOut:=match e with
 |.ok v=>.ret v (zW q (i+1))
 |.error (c,a)=>.pan (bb c a) .nilIface
def alz:Value->Value
 |.iface _ p=>p
 |v=>v
def aeJ{α:Type}(f:α->Value):Except (Int×Int) α->Except (Int×Int) Value
 |.ok a=>.ok (f a)
 |.error e=>.error e
def tR(q:Ag)(i:Nat):BOut:=agO (aeJ ax (KQ q.ts (cB q.l) i)) q i
def bS:=(ae alg @ac4 @ac3 @AX @AW @Tv.eq_1 @Tv.eq_2 (bw @Hy.eq_1 @b6 @aL))
theorem Np(q:Ag)(i:Nat)(u:Value)(fp:List Nat)(w:World)(hq:q.ok w (Out fp))(hi:i<q.us.length)(ho:aW w u fp 293 (zW q i))(hlt:∀ b∈fp,b<w.heap.size) :
  Calls Tryz.prog 159 (#[u]++#[]) w λx w' => dH w u fp 293 x w' (tR q i):=by
 obtain⟨v,t,hv,ht,htv⟩:=eT.get hq.2.1.2 hi;obtain⟨b,o,hta,hb,hc⟩:=jN.cell hq.2.1.1 hv;have hb' : b∉fp:=hb;have hS:=hq.2.2.2 t (List.mem_of_getElem? ht);have hi3:i<3:=by have:=hq.2.2.1.2.1;omega
 have wo:IntKind.i64.wrap ((i:Int)+1)=((i+1:Nat):Int):=wW;have hD:qY w v=t:=cl htv;have hg:q.us.getD i undef=v:=by rw[List.getD_eq_getElem?_getD,hv];rfl
 have hle:q.us.length<=q.tc:=hq.2.2.1.2.2.1;refine aN (nt:=31) #[] [.tmp 2] (by show 5<=7;omega) ho hlt Tryz.func159 rfl rfl rfl ?_;refine vR fe bS ?_;cases hn:xF t with
 | some n=>
  have hE:tR q i=.ret (ax n) (zW q (i+1)):=by
   unfold tR KQ;rw[ht];simp only[Option.bind_some,hn];rfl
  rw[hE];refine kA (xp q i) (qE bS hta hc hD hn) ?_ ?_
  ·exact⟨⟨oM,oM⟩,hb',t,htv,rY hS⟩
  refine Wp.seq ?_;refine vR fe bS ?_;refine wC bS (λhc=>?_) (λhc=>?_)
  ·cases hc
  refine wK ?_;refine vR fe (aa bS wo) ?_;refine vR fe bS ?_;refine wZ bS ?_;exact⟨_,_,rfl,λE=>rfl,_,_,rfl,(ev (fJ bS @aq @zW.eq_1 hta)),dE⟩
 | none=>
  have hE:tR q i=.pan (Tg q i) .nilIface:=by
   unfold tR KQ;rw[ht];simp only[Option.bind_some,hn];rfl
  rw[hE];refine kA (xp q i) (qE bS hta hc hD hn) ?_ ?_
  ·exact⟨⟨oM,oM⟩,hb',t,htv,rY hS⟩
  refine Wp.seq ?_;refine vR fe bS ?_;refine wC bS (λhc=>?_) (λhc=>?_)
  rotate_left
  ·cases hc
  refine Wp.dF (xp q i) aM (ev (aa bS hta)) ?_ ?_
  ·exact⟨⟨hq,hi⟩,dE,λ_ h=>h.elim⟩
  refine qq ?_;exact⟨_,rfl⟩
def Gv(q:Ag)(i:Nat):bJ Tryz.prog 159 where
 T:=293
 pre:=λW bs fs as_=>(fs=zW q i/\as_=[])/\q.ok W (Out bs)/\i<q.us.length
 out:=λ_ _ _=>tR q i
 enters:=Tryz.call159
 ok:=by
  intro W w bs u fp us fs as_ hk ho hlt hmine hu hp;obtain⟨⟨rfl,rfl⟩,h1,h2⟩:=hp
  match us,hu with
  |[],_=>exact Np q i u fp w (h1.fR hk hmine) h2 ho hlt
def nC(q:Ag)(i:Nat):BOut:=agO (aeJ Value.string (EI q.ts (cB q.l) i)) q i
theorem Nq(q:Ag)(i:Nat)(u:Value)(fp:List Nat)(w:World)(hq:q.ok w (Out fp))(hi:i<q.us.length)(ho:aW w u fp 293 (zW q i))(hlt:∀ b∈fp,b<w.heap.size) :
  Calls Tryz.prog 160 (#[u]++#[]) w λx w' => dH w u fp 293 x w' (nC q i):=by
 obtain⟨v,t,hv,ht,htv⟩:=eT.get hq.2.1.2 hi;obtain⟨b,o,hta,hb,hc⟩:=jN.cell hq.2.1.1 hv;have hb' : b∉fp:=hb;have hS:=hq.2.2.2 t (List.mem_of_getElem? ht);have hi3:i<3:=by have:=hq.2.2.1.2.1;omega
 have wo:IntKind.i64.wrap ((i:Int)+1)=((i+1:Nat):Int):=wW;have hD:qY w v=t:=cl htv;have hg:q.us.getD i undef=v:=by rw[List.getD_eq_getElem?_getD,hv];rfl
 have hle:q.us.length<=q.tc:=hq.2.2.1.2.2.1;refine aN (nt:=32) #[] [.tmp 2] (by show 5<=7;omega) ho hlt Tryz.func160 rfl rfl rfl ?_;refine vR fe bS ?_;cases t with
 | text a s=>
  obtain rfl:v=_:=htv;have hE:nC q i=.ret (.string s) (zW q (i+1)):=by
   unfold nC EI;rw[ht];rfl
  rw[hE];refine kA fe (bw bS hta hc) ?_ ?_
  ·exact⟨⟨oM,oM⟩,hb'⟩
  refine Wp.seq ?_;refine vR fe bS ?_;refine wC bS (λhc=>?_) (λhc=>?_)
  ·cases hc
  refine wK ?_;refine vR fe (aa bS wo) ?_;refine vR fe bS ?_;refine wZ bS ?_;exact⟨_,_,rfl,λE=>rfl,_,_,rfl,(ev (fJ bS @aq @zW.eq_1 hta)),dE⟩
 | rx a r=>
  obtain rfl:v=_:=htv;have hE:nC q i=.pan (Tg q i) .nilIface:=by
   unfold nC EI;rw[ht];rfl
  rw[hE];refine kA fe (bw bS hta hc) ?_ ?_
  ·exact⟨⟨oM,oM⟩,hb'⟩
  refine Wp.seq ?_;refine vR fe bS ?_;refine wC bS (λhc=>?_) (λhc=>?_)
  rotate_left
  ·cases hc
  refine Wp.dF (xp q i) aM (ev (aa bS hta)) ?_ ?_
  ·exact⟨⟨hq,hi⟩,dE,λ_ h=>h.elim⟩
  refine qq ?_;exact⟨_,rfl⟩
 | canon c=>
  obtain⟨p,rfl,hc0⟩:=htv;have hE:nC q i=.pan (Tg q i) .nilIface:=by
   unfold nC EI;rw[ht];rfl
  rw[hE];refine kA fe (bw bS hta hc) ?_ ?_
  ·exact⟨⟨oM,oM⟩,hb'⟩
  refine Wp.seq ?_;refine vR fe bS ?_;refine wC bS (λhc=>?_) (λhc=>?_)
  rotate_left
  ·cases hc
  refine Wp.dF (xp q i) aM (ev (aa bS hta)) ?_ ?_
  ·exact⟨⟨hq,hi⟩,dE,λ_ h=>h.elim⟩
  refine qq ?_;exact⟨_,rfl⟩
 | lens c=>
  obtain⟨p,rfl,hc0⟩:=htv;have hE:nC q i=.pan (Tg q i) .nilIface:=by
   unfold nC EI;rw[ht];rfl
  rw[hE];refine kA fe (bw bS hta hc) ?_ ?_
  ·exact⟨⟨oM,oM⟩,hb'⟩
  refine Wp.seq ?_;refine vR fe bS ?_;refine wC bS (λhc=>?_) (λhc=>?_)
  rotate_left
  ·cases hc
  refine Wp.dF (xp q i) aM (ev (aa bS hta)) ?_ ?_
  ·exact⟨⟨hq,hi⟩,dE,λ_ h=>h.elim⟩
  refine qq ?_;exact⟨_,rfl⟩
def Gw(q:Ag)(i:Nat):bJ Tryz.prog 160 where
 T:=293
 pre:=λW bs fs as_=>(fs=zW q i/\as_=[])/\q.ok W (Out bs)/\i<q.us.length
 out:=λ_ _ _=>nC q i
 enters:=Tryz.call160
 ok:=by
  intro W w bs u fp us fs as_ hk ho hlt hmine hu hp;obtain⟨⟨rfl,rfl⟩,h1,h2⟩:=hp
  match us,hu with
  |[],_=>exact Nq q i u fp w (h1.fR hk hmine) h2 ho hlt
def js(q:Ag)(i:Nat):BOut:=agO (aeJ (λ_=>alz (q.us.getD i undef)) (Nc q.ts (cB q.l) i)) q i
theorem JC(q:Ag)(i:Nat)(u:Value)(fp:List Nat)(w:World)(hq:q.ok w (Out fp))(hi:i<q.us.length)(ho:aW w u fp 293 (zW q i))(hlt:∀ b∈fp,b<w.heap.size) :
  Calls Tryz.prog 161 (#[u]++#[]) w λx w' => dH w u fp 293 x w' (js q i):=by
 obtain⟨v,t,hv,ht,htv⟩:=eT.get hq.2.1.2 hi;obtain⟨b,o,hta,hb,hc⟩:=jN.cell hq.2.1.1 hv;have hb' : b∉fp:=hb;have hS:=hq.2.2.2 t (List.mem_of_getElem? ht);have hi3:i<3:=by have:=hq.2.2.1.2.1;omega
 have wo:IntKind.i64.wrap ((i:Int)+1)=((i+1:Nat):Int):=wW;have hD:qY w v=t:=cl htv;have hg:q.us.getD i undef=v:=by rw[List.getD_eq_getElem?_getD,hv];rfl
 have hle:q.us.length<=q.tc:=hq.2.2.1.2.2.1;refine aN (nt:=31) #[] [.tmp 2] (by show 5<=7;omega) ho hlt Tryz.func161 rfl rfl rfl ?_;refine vR fe bS ?_;cases t with
 | text a s=>
  obtain rfl:v=_:=htv;have hE:js q i=.pan (Tg q i) .nilIface:=by
   unfold js Nc;rw[ht];rfl
  rw[hE];refine kA fe (bw bS hta hc) ?_ ?_
  ·exact⟨⟨oM,oM⟩,hb'⟩
  refine Wp.seq ?_;refine vR fe bS ?_;refine wC bS (λhc=>?_) (λhc=>?_)
  rotate_left
  ·cases hc
  refine Wp.dF (xp q i) aM (ev (aa bS hta)) ?_ ?_
  ·exact⟨⟨hq,hi⟩,dE,λ_ h=>h.elim⟩
  refine qq ?_;exact⟨_,rfl⟩
 | rx a r=>
  obtain rfl:v=_:=htv;have hE:js q i=.pan (Tg q i) .nilIface:=by
   unfold js Nc;rw[ht];rfl
  rw[hE];refine kA fe (bw bS hta hc) ?_ ?_
  ·exact⟨⟨oM,oM⟩,hb'⟩
  refine Wp.seq ?_;refine vR fe bS ?_;refine wC bS (λhc=>?_) (λhc=>?_)
  rotate_left
  ·cases hc
  refine Wp.dF (xp q i) aM (ev (aa bS hta)) ?_ ?_
  ·exact⟨⟨hq,hi⟩,dE,λ_ h=>h.elim⟩
  refine qq ?_;exact⟨_,rfl⟩
 | canon c=>
  obtain⟨p,rfl,hc0⟩:=htv;have hE:js q i=.ret (p) (zW q (i+1)):=by
   unfold js Nc;rw[ht];simp only[hg];rfl
  rw[hE];refine kA fe (bw bS hta hc) ?_ ?_
  ·exact⟨⟨oM,oM⟩,hb'⟩
  refine Wp.seq ?_;refine vR fe bS ?_;refine wC bS (λhc=>?_) (λhc=>?_)
  ·cases hc
  refine wK ?_;refine vR fe (aa bS wo) ?_;refine vR fe bS ?_;refine wZ bS ?_;exact⟨_,_,rfl,λE=>rfl,_,_,rfl,(ev (fJ bS @aq @zW.eq_1 hta)),dE⟩
 | lens c=>
  obtain⟨p,rfl,hc0⟩:=htv;have hE:js q i=.pan (Tg q i) .nilIface:=by
   unfold js Nc;rw[ht];rfl
  rw[hE];refine kA fe (bw bS hta hc) ?_ ?_
  ·exact⟨⟨oM,oM⟩,hb'⟩
  refine Wp.seq ?_;refine vR fe bS ?_;refine wC bS (λhc=>?_) (λhc=>?_)
  rotate_left
  ·cases hc
  refine Wp.dF (xp q i) aM (ev (aa bS hta)) ?_ ?_
  ·exact⟨⟨hq,hi⟩,dE,λ_ h=>h.elim⟩
  refine qq ?_;exact⟨_,rfl⟩
def AQ(q:Ag)(i:Nat):bJ Tryz.prog 161 where
 T:=293
 pre:=λW bs fs as_=>(fs=zW q i/\as_=[])/\q.ok W (Out bs)/\i<q.us.length
 out:=λ_ _ _=>js q i
 enters:=Tryz.call161
 ok:=by
  intro W w bs u fp us fs as_ hk ho hlt hmine hu hp;obtain⟨⟨rfl,rfl⟩,h1,h2⟩:=hp
  match us,hu with
  |[],_=>exact JC q i u fp w (h1.fR hk hmine) h2 ho hlt
def nv(q:Ag)(i:Nat):BOut:=agO (aeJ (λ_=>alz (q.us.getD i undef)) (Jr q.ts (cB q.l) i)) q i
theorem No(q:Ag)(i:Nat)(u:Value)(fp:List Nat)(w:World)(hq:q.ok w (Out fp))(hi:i<q.us.length)(ho:aW w u fp 293 (zW q i))(hlt:∀ b∈fp,b<w.heap.size) :
  Calls Tryz.prog 162 (#[u]++#[]) w λx w' => dH w u fp 293 x w' (nv q i):=by
 obtain⟨v,t,hv,ht,htv⟩:=eT.get hq.2.1.2 hi;obtain⟨b,o,hta,hb,hc⟩:=jN.cell hq.2.1.1 hv;have hb' : b∉fp:=hb;have hS:=hq.2.2.2 t (List.mem_of_getElem? ht);have hi3:i<3:=by have:=hq.2.2.1.2.1;omega
 have wo:IntKind.i64.wrap ((i:Int)+1)=((i+1:Nat):Int):=wW;have hD:qY w v=t:=cl htv;have hg:q.us.getD i undef=v:=by rw[List.getD_eq_getElem?_getD,hv];rfl
 have hle:q.us.length<=q.tc:=hq.2.2.1.2.2.1;refine aN (nt:=31) #[] [.tmp 2] (by show 5<=7;omega) ho hlt Tryz.func162 rfl rfl rfl ?_;refine vR fe bS ?_;cases t with
 | text a s=>
  obtain rfl:v=_:=htv;have hE:nv q i=.pan (Tg q i) .nilIface:=by
   unfold nv Jr;rw[ht];rfl
  rw[hE];refine kA fe (bw bS hta hc) ?_ ?_
  ·exact⟨⟨oM,oM⟩,hb'⟩
  refine Wp.seq ?_;refine vR fe bS ?_;refine wC bS (λhc=>?_) (λhc=>?_)
  rotate_left
  ·cases hc
  refine Wp.dF (xp q i) aM (ev (aa bS hta)) ?_ ?_
  ·exact⟨⟨hq,hi⟩,dE,λ_ h=>h.elim⟩
  refine qq ?_;exact⟨_,rfl⟩
 | rx a r=>
  obtain rfl:v=_:=htv;have hE:nv q i=.pan (Tg q i) .nilIface:=by
   unfold nv Jr;rw[ht];rfl
  rw[hE];refine kA fe (bw bS hta hc) ?_ ?_
  ·exact⟨⟨oM,oM⟩,hb'⟩
  refine Wp.seq ?_;refine vR fe bS ?_;refine wC bS (λhc=>?_) (λhc=>?_)
  rotate_left
  ·cases hc
  refine Wp.dF (xp q i) aM (ev (aa bS hta)) ?_ ?_
  ·exact⟨⟨hq,hi⟩,dE,λ_ h=>h.elim⟩
  refine qq ?_;exact⟨_,rfl⟩
 | canon c=>
  obtain⟨p,rfl,hc0⟩:=htv;have hE:nv q i=.pan (Tg q i) .nilIface:=by
   unfold nv Jr;rw[ht];rfl
  rw[hE];refine kA fe (bw bS hta hc) ?_ ?_
  ·exact⟨⟨oM,oM⟩,hb'⟩
  refine Wp.seq ?_;refine vR fe bS ?_;refine wC bS (λhc=>?_) (λhc=>?_)
  rotate_left
  ·cases hc
  refine Wp.dF (xp q i) aM (ev (aa bS hta)) ?_ ?_
  ·exact⟨⟨hq,hi⟩,dE,λ_ h=>h.elim⟩
  refine qq ?_;exact⟨_,rfl⟩
 | lens c=>
  obtain⟨p,rfl,hc0⟩:=htv;have hE:nv q i=.ret (p) (zW q (i+1)):=by
   unfold nv Jr;rw[ht];simp only[hg];rfl
  rw[hE];refine kA fe (bw bS hta hc) ?_ ?_
  ·exact⟨⟨oM,oM⟩,hb'⟩
  refine Wp.seq ?_;refine vR fe bS ?_;refine wC bS (λhc=>?_) (λhc=>?_)
  ·cases hc
  refine wK ?_;refine vR fe (aa bS wo) ?_;refine vR fe bS ?_;refine wZ bS ?_;exact⟨_,_,rfl,λE=>rfl,_,_,rfl,(ev (fJ bS @aq @zW.eq_1 hta)),dE⟩
def Gu(q:Ag)(i:Nat):bJ Tryz.prog 162 where
 T:=293
 pre:=λW bs fs as_=>(fs=zW q i/\as_=[])/\q.ok W (Out bs)/\i<q.us.length
 out:=λ_ _ _=>nv q i
 enters:=Tryz.call162
 ok:=by
  intro W w bs u fp us fs as_ hk ho hlt hmine hu hp;obtain⟨⟨rfl,rfl⟩,h1,h2⟩:=hp
  match us,hu with
  |[],_=>exact No q i u fp w (h1.fR hk hmine) h2 ho hlt
end
end Go.Proofs.YtnemkecffmdlnaaGreatDoor
namespace Go.LE
section
open Go.RowKit
def rL(w:World)(u:Value)(us:List Value)(fp:List Nat)(T:TypeId)(fs:List AV):Prop:=
 ∃ b,u=.pointer (some ⟨b,0,none⟩)/\w.heap[b]?=some (.cells us.toArray T (0,0))/\eW w us fs/\fp=b::z6 us fs/\fp.Nodup
theorem Fx{w:World}{u:Value}{us:List Value}{fp:List Nat}{T:TypeId}{a:AV}(h:rL w u us fp T [a]):∃ y,us=[y]:=by
 obtain⟨b,_,_,h3,_⟩:=h
 match us,h3 with
 |[y],_=>exact⟨y,rfl⟩
def Bo(w:World)(S:Nat->Prop)(u:Value)(us:List Value)(fp:List Nat)(T:TypeId)(fs:List AV)(e:Ending)(w' : World):FOut->Prop
 |.val v=>e=.returned v/\rL w' u us fp T fs/\an w fp w'
 |.fact sh Φ=>∃ cs,e=.returned (sh.val cs)/\rL w' u us fp T fs/\Φ.Φ cs w' (λb=>(b<w.heap.size->S b\/b∈fp)/\b∉fp)/\an w fp w'
 |.pan c _=>e=.panicked c/\an w fp w'
structure EO (P:Program)(f:FuncId) where
 T:TypeId
 kinds:List Kd
 pre:List AV->List AV->World->(Nat->Prop)->Prop
 premono:∀ fs as_ W S W' S',aY W S W' S' -> pre fs as_ W S->pre fs as_ W' S'
 out:List AV->List AV->FOut
 enters:∀ args w,(callFunc f args).run P w=.ok (.enter f args) w
 ok:∀ (w:World) (S:Nat->Prop) (u:Value) (xs:List Value) (fp:List Nat) (us:List Value) (fs as_:List AV),rL w u xs fp T fs->(∀ b∈fp,b<w.heap.size)->(∀ b∈fp,¬ S b)->Bm w S kinds us as_->pre fs as_ w S ->
  Calls P f (u::us).toArray w λe w' => Bo w S u xs fp T fs e w' (out fs as_)
def ru(G:Nat->Prop)(κ k:Nat)(W:World)(bs:List Nat)(q:Prop)(rs rs' cs:List Nat):FOut->R
 |.val v=>⟨q/\(k::rs).Nodup/\(∀ j∈rs',j∉k::rs),.v v,[],none,[],k::(rs++rs')⟩
 |.fact sh Φ=>⟨q/\(k::rs).Nodup/\(∀ j∈rs',j∉k::rs)/\Up G W bs,sh.tm (8*κ+7),dO cs++[(8*κ+7,some (.obj [] (gk G W bs Φ)))],none,[],k::(rs++rs')⟩
 |.pan c v=>⟨q/\(k::rs).Nodup/\(∀ j∈rs',j∉k::rs),.v v,[],some c,k::rs,k::(rs++rs')⟩
def Bq(G:Nat->Prop)(κ k:Nat)(T T' : TypeId)(W:World)(bs:List Nat)(pre:List AV->List AV->World->(Nat->Prop)->Prop)(out:List AV->List AV->FOut)(g:GVL):Option (List AV×List Nat)->R
 |some (fs,rs)=>ru G κ k W bs (T' = T/\g.p/\pre fs g.as_ W (bF G bs)) rs g.rs g.cs (out fs g.as_)
 |none=>.bad
def Br(G:Nat->Prop)(h:Hp)(κ k:Nat)(T:TypeId)(W:World)(bs:List Nat)(pre:List AV->List AV->World->(Nat->Prop)->Prop)(out:List AV->List AV->FOut)(g:GVL):Option aX->R
 |some (.cells T' vs)=>Bq G κ k T T' W bs pre out g (aB h vs)
 |_=>.bad
def Fj(G:Nat->Prop)(h:Hp)(κ:Nat)(T:TypeId)(W:World)(bs:List Nat)(kinds:List Kd)(pre:List AV->List AV->World->(Nat->Prop)->Prop)(out:List AV->List AV->FOut):List SV->R
 |.own k 0::rest=>Br G h κ k T W bs pre out (mR G W bs h kinds rest) (h k)
 |_=>.bad
section
variable {P:Program}{W:World}{bs:List Nat}{κ:Nat}{E:Nat->Value}{F:Nat->List Nat}{h:Nat->Option aX}{w:World}{K:Nat->Prop}{G:Nat->Prop}
theorem Q2{w' : World}(hs:aj W bs E F h w){x:SV}{a:AV}{r:List Nat}(hv:bM h x=some (a,r))(ha:tJ w' (den E x) a):∀ k∈r,∀ e,h k=some e->bu E (E k) (F k) w' e:=by
 cases x with
 |v x=>simp[bM]at hv;obtain⟨rfl,rfl⟩:=hv;intro k hk;cases hk
 |agg l=>
  simp only[bM,Option.map_eq_some_iff,Prod.mk.injEq]at hv;obtain⟨vs,h1,rfl,rfl⟩:=hv;intro k hk;cases hk
 | hd k=>
  simp only[bM]at hv;cases hk:h k with
  |none=>rw[hk]at hv;simp[fH]at hv
  | some e=>
   cases e with
   |row T s n us=>
    rw[hk]at hv;simp only[fH,Option.map_eq_some_iff,Prod.mk.injEq]at hv;obtain⟨vs,h1,rfl,rfl⟩:=hv;have:=hs.ent k _ hk;simp only[tJ,den,fE (bZ this),<- lO (E:=E) h1]at ha;intro k' hk' e he;simp only[List.mem_singleton]at hk';subst hk';rw[hk]at he;cases he;exact⟨ha,this.2⟩
   |mp ks us=>
    rw[hk]at hv;simp only[fH,Option.map_eq_some_iff,Prod.mk.injEq]at hv;obtain⟨vs,h1,rfl,rfl⟩:=hv;have:=hs.ent k _ hk;simp only[tJ,den,fE (bZ this),<- lO (E:=E) h1]at ha;intro k' hk' e he;simp only[List.mem_singleton]at hk';subst hk';rw[hk]at he;cases he;exact lL.2 ⟨ha,(lL.1 this).2⟩
   |cells T vs=>rw[hk]at hv;simp[fH]at hv
   |obj d R=>rw[hk]at hv;simp[fH]at hv
 |own k o=>simp[bM]at hv
 |tup l=>simp[bM]at hv
 |nr t x=>simp[bM]at hv
 |part k i=>simp[bM]at hv
 |fn f a c=>simp[bM]at hv
theorem DW{w' : World}(hs:aj W bs E F h w):∀ {l:List SV} {as_:List AV} {r:List Nat},aB h l=some (as_,r)->eW w' (ai E l) as_->∀ k∈r,∀ e,h k=some e->bu E (E k) (F k) w' e
 |[],as_,r,hv,_=>by
  simp[aB]at hv;obtain⟨rfl,rfl⟩:=hv;intro k hk;cases hk
 | x::l,as_,r,hv,ha=>by
  simp only[aB]at hv;cases h1:bM h x with
  |none=>rw[h1]at hv;simp[jT]at hv
  | some p=>
   cases h2:aB h l with
   |none=>rw[h1,h2]at hv;simp[jT]at hv
   |some q=>
    obtain⟨a,ra⟩:=p;obtain⟨as',rs⟩:=q;rw[h1,h2]at hv;simp only[jT,Option.some.injEq,Prod.mk.injEq]at hv;obtain⟨rfl,rfl⟩:=hv;simp only[ai,eW]at ha;intro k hk;rcases List.mem_append.1 hk with hk|hk
    ·exact Q2 hs h1 ha.1 k hk
    ·exact DW hs h2 ha.2 k hk
theorem AY(hs:aj W bs E F h w){k:Nat}{T:TypeId}{vs:List SV}{fs:List AV}{rs:List Nat}(hk:h k=some (.cells T vs))(hv:aB h vs=some (fs,rs))(hn:(k::rs).Nodup) :
  rL w (E k) (ai E vs) ((k::rs).flatMap F) T fs:=by
 obtain⟨b,h1,h2,h3⟩:=hs.ent k _ hk;obtain⟨g1,_⟩:=cu hs hv;refine⟨b,h1,h3,ep hs hv,by rw[List.flatMap_cons,h2,g1];rfl,px hs hn λj hj=>?_⟩;rcases List.mem_cons.1 hj with rfl|hj
 ·exact⟨_,hk,λd R e=>by cases e⟩
 ·exact iR hv j hj
theorem Rj{w' : World}(hs:aj W bs E F h w){k:Nat}{T:TypeId}{vs:List SV}{fs:List AV}{rs:List Nat}(hk:h k=some (.cells T vs))(hv:aB h vs=some (fs,rs))(ho:rL w' (E k) (ai E vs) ((k::rs).flatMap F) T fs) :
  ∀ j∈k::rs,∀ e,h j=some e->bu E (E j) (F j) w' e:=by
 obtain⟨b,h1,h2,h3⟩:=hs.ent k _ hk;obtain⟨b',g1,g2,g3,g4,g5⟩:=ho;intro j hj e he;rcases List.mem_cons.1 hj with rfl|hj
 ·rw[hk]at he;cases he;rw[h1]at g1;cases g1;exact⟨b,h1,h2,g2⟩
 ·exact DW hs hv g3 j hj e he
end
def EO.spec{P:Program}{f:FuncId}(p:EO P f)(G:Nat->Prop):Spec P f where
 ev:=λW bs κ h args=>Fj G h κ p.T W bs p.kinds p.pre p.out args
 good:=λW bs κ E F h w K args hs hK hk hx hside=>by
  rw[p.enters];revert hside;unfold Fj;split
  ·rename_i k rest;generalize hg:mR G W bs h p.kinds rest=g;cases hkk:h k with
   |none=>exact λhf=>hf.elim
   | some e=>
    cases e with
    |row T s n vs=>exact λhf=>hf.elim
    |mp ks vs=>exact λhf=>hf.elim
    |obj d R=>exact λhf=>hf.elim
    | cells T' vs=>
     simp only[Br];cases hv:aB h vs with
     |none=>exact λhf=>hf.elim
     | some q=>
      obtain⟨fs,rs⟩:=q;simp only[Bq];have hent:=hs.ent k _ hkk;obtain⟨b,hu,_,_⟩:=hent;have hden:den E (.own k 0)=E k:=by simp[den,hu,base,dj]
      have hobj:g.p->∀ j∈g.cs,∃ Φ,h j=some (.obj [] (gk G W bs Φ)):=λhp=>by rw[<- hg]at hp ⊢;exact py hp
      have hown:∀ j∈k::rs,∃ e,h j=some e/\∀ d R,e≠.obj d R:=λj hj=>by
       rcases List.mem_cons.1 hj with rfl|hj
       ·exact⟨_,hkk,λ_ _ e=>by cases e⟩
       ·exact iR hv j hj
      have fR:∀ c∈(k::rs).flatMap F,(∃ j∈k::rs,c∈F j)/\c<w.heap.size/\(W.heap.size<=c\/c∈bs):=λc hc=>by
       obtain⟨j,hj,hcj⟩:=List.mem_flatMap.1 hc;obtain⟨e,he,_⟩:=hown j hj;exact⟨⟨j,hj,hcj⟩,hs.lt j e he c hcj,hs.mine j e he c hcj⟩
      have hS0:∀ b,b<W.heap.size->bF G bs b->b∉(k::rs).flatMap F:=λb h1 h2 hb=>(fR b hb).2.2.elim (λg=>absurd g (Nat.not_le.2 h1)) h2.2
      have hS:∀ b,b<W.heap.size->bF G bs b->(b<W.heap.size/\bF G bs b)\/∃ j∈g.cs,b∈F j:=λb h1 h2=>.inl ⟨h1,h2⟩
      have hcs:g.p->∀ j∈g.cs,∀ i∈k::rs,i≠j/\∀ b∈F i,b∉F j:=λhp j hj i hi=>by
       obtain⟨Φ,hj'⟩:=hobj hp j hj;obtain⟨e,he,hne⟩:=hown i hi;have hij:i≠j:=λhij=>by
        rw[hij,hj']at he;exact hne _ _ (Option.some.inj he).symm
       exact⟨hij,hs.apart i j e _ hij he hj'⟩
      have hSf:g.p->∀ b∈(k::rs).flatMap F,¬ ((b<W.heap.size/\bF G bs b)\/∃ j∈g.cs,b∈F j):=λhp b hb hS=>by
       rcases hS with ⟨h1,h2⟩|⟨j,hj,hbj⟩
       ·exact hS0 b h1 h2 hb
       ·obtain⟨i,hi,hbi⟩:=(fR b hb).1;exact (hcs hp j hj i hi).2 b hbi hbj
      have call:∀ hn:(k::rs).Nodup,T' = p.T->g.p->p.pre fs g.as_ W (bF G bs)->Calls P f (ai E (.own k 0::rest)).toArray w λe w' => Bo w (λb=>(b<W.heap.size/\bF G bs b)\/∃ j∈g.cs,b∈F j) (E k) (ai E vs) ((k::rs).flatMap F) p.T fs e w' (p.out fs g.as_):=λhn hT hp hpre=>by
       subst hT;have ho:=AY hs hkk hv hn;have hgs:=Av hs hS (kds:=p.kinds) (l:=rest) (by rw[hg];exact hp) (by rw[hg];exact λj hj b hb=>.inr ⟨j,hj,hb⟩);rw[hg]at hgs;have:=p.ok w _ (E k) _ _ (ai E rest) fs g.as_ ho (λc hc=>(fR c hc).2.1) (hSf hp) hgs (p.premono _ _ _ _ _ _ (Om hs.keeps hS) hpre)
       simpa only[ai,hden] using this
      have hNe:∀ j e,(if j∈k::rs then h j else none)=some e->j∈k::rs/\h j=some e:=λj e he=>by
       split at he
       ·rename_i hj;exact⟨hj,he⟩
       ·cases he
      cases hout:p.out fs g.as_ with
      | val v=>
       simp only[ru];rintro⟨⟨hT,hp,hpre⟩,hn,hd⟩;have hc:=call hn hT hp hpre;rw[hout]at hc;subst hT;refine hc.mono λe w' he=>?_
       obtain⟨rfl,ho,hkeep⟩:=he;have hb:=Rj hs hkk hv ho;refine⟨rfl,E,F,λ_ _=>rfl,rfl,?_⟩;refine hs.mg hK (k::rs) (λj=>if j∈k::rs then h j else none) (λj hj=>?_) (λ_ _=>rfl) (λj e he=>?_) (λi j e e' hij hi hj=>?_) (λ_ _ _ _=>rfl) (λj=>?_) hkeep
       ·obtain⟨e,he,_⟩:=hown j hj;exact⟨e,he⟩
       ·obtain⟨hj,he⟩:=hNe j e he;exact⟨hb j hj e he,λc hc=>.inl ⟨j,hj,hc⟩,λc hc=>Nat.lt_of_lt_of_le (hs.lt j e he c hc) hkeep.size⟩
       ·exact hs.apart i j e e' hij (hNe i e hi).2 (hNe j e' hj).2
       ·simp only[a8];by_cases hj:j∈k::rs
        ·rw[if_pos hj,if_pos hj];obtain⟨e,he,_⟩:=hown j hj;rw[he]
        ·rw[if_neg hj,if_neg hj]
      | fact sh Φ=>
       simp only[ru];rintro⟨⟨hT,hp,hpre⟩,hn,hd,hup⟩;have hc:=call hn hT hp hpre;rw[hout]at hc;subst hT;refine hc.mono λe w' he=>?_
       obtain⟨cs,rfl,ho,hΦ,hkeep⟩:=he;have hb:=Rj hs hkk hv ho;have hK8:¬ K (8*κ+7):=hk _ oM;have hfn:∀ b,b∈List.range' w.heap.size (w'.heap.size-w.heap.size)++g.cs.flatMap F ↔ (w.heap.size<=b/\b<w'.heap.size)\/∃ j∈g.cs,b∈F j:=λb=>by
        simp only[List.mem_append,oJ hkeep.size b,List.mem_flatMap]
       have hR:=xV (G:=G) (fp:=List.range' w.heap.size (w'.heap.size-w.heap.size)++g.cs.flatMap F) (S:=λb=>(b<W.heap.size/\bF G bs b)\/∃ j∈g.cs,b∈F j) hs.keeps hkeep hΦ
        (λb hb=>hb.elim .inl λh=>.inr ((hfn b).2 (.inr h))) hS0
        (λb hb hn=>by
         by_cases hbw:b<w.heap.size
         ·rcases hn.1 hbw with h3|h3
          ·exact .inl ⟨hbw,h3⟩
          ·exact absurd h3 hn.2
         ·exact .inr ((hfn b).2 (.inl ⟨oM,hb⟩)))
        (λb hb=>by
         rcases (hfn b).1 hb with h3|⟨j,hj,hbj⟩
         ·exact hup b (.inl (Nat.le_trans hs.keeps.size h3.1))
         ·obtain⟨Φ',hk'⟩:=hobj hp j hj
          exact hup b (hs.mine j _ hk' b hbj))
       have h8:∀ j x,h j=some x->j≠8*κ+7:=λj x hj e=>hK8 (e ▸ (hK j x hj).1)
       have h8k:8*κ+7∉k::rs:=λhm=>by
        obtain⟨e,he,_⟩:=hown _ hm;exact h8 _ _ he rfl
       refine⟨rfl,bo E (8*κ+7) (dD cs),bo F (8*κ+7) (List.range' w.heap.size (w'.heap.size-w.heap.size)++g.cs.flatMap F),λj hj' => al _ _ λe=>hj' (by subst e;omega),?_,?_⟩
       ·rw[sh.g,ah];rfl
       have hN:∀ j e,(bo (λj=>if j∈k::rs then h j else none) (8*κ+7) (some (.obj [] (gk G W bs Φ)))) j=some e->(j=8*κ+7/\e=.obj [] (gk G W bs Φ))\/(j≠8*κ+7/\j∈k::rs/\h j=some e):=λj e he=>by
        by_cases hj:j=8*κ+7
        ·subst hj;rw[ah]at he;cases he;exact .inl ⟨rfl,rfl⟩
        ·rw[al _ _ hj]at he;exact .inr ⟨hj,hNe j e he⟩
       have hE' : ∀ x:aX,∀ j,h j=some x->∀ {u:Value} {fp:List Nat},bu E u fp w' x->bu (bo E (8*κ+7) (dD cs)) u fp w' x:=λx j hj u fp hx=>by
        exact gN (λi hi=>(al (j:=i) E (dD cs) λe=>hK8 (by rw[<- e];exact (hK j x hj).2 i hi)).symm) hx
       refine hs.mg hK (k::(rs++g.cs)) (bo (λj=>if j∈k::rs then h j else none) (8*κ+7) (some (.obj [] (gk G W bs Φ)))) (λj hj=>?_) (λj hj=>al _ _ λe=>hK8 (e ▸ hj)) (λj e he=>?_) (λi j e e' hij hi hj c hc=>?_) (λj x hx hj=>al _ _ (h8 j x hx)) (λj=>?_) (hkeep.mono λc hc=>?_)
       ·rcases List.mem_cons.1 hj with rfl|hj
        ·exact⟨_,hkk⟩
        ·rcases List.mem_append.1 hj with hj|hj
         ·obtain⟨e,he,_⟩:=hown j (List.mem_cons_of_mem _ hj);exact⟨e,he⟩
         ·obtain⟨Φ',h'⟩:=hobj hp j hj;exact⟨_,h'⟩
       ·rcases hN j e he with ⟨rfl,rfl⟩|⟨hj8,hj,he⟩
        ·rw[ah,ah];refine⟨⟨⟨hR w' λ_ _=>rfl,rfl⟩,hR⟩,λb hb=>?_,λb hb=>?_⟩
         ·rcases (hfn b).1 hb with h3|⟨j,hj,hbj⟩
          ·exact .inr h3.1
          ·exact .inl ⟨j,List.mem_cons_of_mem _ (List.mem_append_right _ hj),hbj⟩
         ·rcases (hfn b).1 hb with h3|⟨j,hj,hbj⟩
          ·exact h3.2
          ·obtain⟨Φ',hk'⟩:=hobj hp j hj;exact Nat.lt_of_lt_of_le (hs.lt j _ hk' b hbj) hkeep.size
        ·rw[al _ _ hj8,al _ _ hj8];refine⟨hE' e j he (hb j hj e he),λc hc=>.inl ⟨j,?_,hc⟩,λc hc=>Nat.lt_of_lt_of_le (hs.lt j e he c hc) hkeep.size⟩;rcases List.mem_cons.1 hj with hj|hj
         ·exact List.mem_cons.2 (.inl hj)
         ·exact List.mem_cons.2 (.inr (List.mem_append_left _ hj))
       ·have new:∀ i∈k::rs,∀ c∈F i,c∉List.range' w.heap.size (w'.heap.size-w.heap.size)++g.cs.flatMap F:=λi hi c hc hm=>by
         obtain⟨e,he,_⟩:=hown i hi;rcases (hfn c).1 hm with h3|⟨j,hj,hbj⟩
         ·exact absurd (hs.lt i e he c hc) oM
         ·exact (hcs hp j hj i hi).2 c hc hbj
        rcases hN i e hi with ⟨rfl,rfl⟩|⟨hi8,hi,he⟩
        ·rcases hN j e' hj with ⟨rfl,rfl⟩|⟨hj8,hj,he'⟩
         ·exact absurd rfl hij
         ·rw[ah]at hc;rw[al _ _ hj8];exact λhc' => new j hj c hc' hc
        ·rw[al _ _ hi8]at hc;rcases hN j e' hj with ⟨rfl,rfl⟩|⟨hj8,hj,he'⟩
         ·rw[ah];exact new i hi c hc
         ·rw[al _ _ hj8];exact hs.apart i j e e' hij he he' c hc
       ·rw [b8];simp only[a8];by_cases hj:j=8*κ+7
        ·subst hj;rw[ah,ah]
        ·rw[al _ _ hj,al _ _ hj,kn];by_cases hjk:j∈k::rs
         ·rw[if_pos hjk];obtain⟨e,he,_⟩:=hown j hjk;rw[he];have:j∉g.cs:=λhm=>(hcs hp j hm j hjk).1 rfl
          rw[if_neg this]
         ·rw[if_neg hjk];by_cases hjc:j∈g.cs
          ·rw[if_pos hjc,if_pos (List.mem_cons_of_mem _ (List.mem_append_right _ hjc))]
          ·rw[if_neg hjc,if_neg];intro hm;rcases List.mem_cons.1 hm with hm|hm
           ·exact hjk (List.mem_cons.2 (.inl hm))
           ·rcases List.mem_append.1 hm with hm|hm
            ·exact hjk (List.mem_cons_of_mem _ hm)
            ·exact hjc hm
       ·obtain⟨i,hi,hci⟩:=List.mem_flatMap.1 hc;refine List.mem_flatMap.2 ⟨i,?_,hci⟩;rcases List.mem_cons.1 hi with hi|hi
        ·exact List.mem_cons.2 (.inl hi)
        ·exact List.mem_cons.2 (.inr (List.mem_append_left _ hi))
      |pan c _=>
       simp only[ru];rintro⟨⟨hT,hp,hpre⟩,hn,hd⟩;have hc:=call hn hT hp hpre;rw[hout]at hc;refine hc.mono λe w' he=>?_
       obtain⟨rfl,hkeep⟩:=he;refine⟨rfl,F,?_⟩;refine hs.mg hK (k::rs) (λ_=>none) (λj hj=>?_) (λ_ _=>rfl) (λj e he=>by cases he) (λi j e e' _ he=>by cases he) (λ_ _ _ _=>rfl) (λj=>?_) hkeep
       ·obtain⟨e,he,_⟩:=hown j hj;exact⟨e,he⟩
       ·simp only[dropKeys]
  ·exact λhf=>hf.elim
 keys:=λW bs κ h K args hK hx hside=>by
  revert hside;unfold Fj;split
  ·rename_i k rest;generalize hg:mR G W bs h p.kinds rest=g;cases hkk:h k with
   |none=>exact λhf=>hf.elim
   | some e=>
    cases e with
    |row T s n vs=>exact λhf=>hf.elim
    |mp ks vs=>exact λhf=>hf.elim
    |obj d R=>exact λhf=>hf.elim
    | cells T' vs=>
     simp only[Br];cases hv:aB h vs with
     |none=>exact λhf=>hf.elim
     | some q=>
      obtain⟨fs,rs⟩:=q;simp only[Bq];have hobj:g.p->∀ j∈g.cs,∃ Φ,h j=some (.obj [] (gk G W bs Φ)):=λhp=>by rw[<- hg]at hp ⊢;exact py hp
      cases hout:p.out fs g.as_ with
      |val v=>
       simp only[ru];exact λ_=>⟨λj hj=>(by cases hj),λq hq=>by cases hq⟩
      | fact sh Φ=>
       simp only[ru];rintro⟨⟨_,hp,_⟩,hn,hd,hup⟩;refine⟨λj hj=>.inr (by rw[sh.k _ j hj];omega),λq hq=>?_⟩;simp only[List.mem_append,List.mem_singleton]at hq;rcases hq with hq|rfl
       ·simp only[dO,List.mem_map]at hq;obtain⟨j,hj,rfl⟩:=hq;obtain⟨Φ',h'⟩:=hobj hp j hj;exact⟨.inl (hK j _ h').1,λe he=>by cases he⟩
       ·refine⟨.inr (by simp only;omega),λe he k hk=>?_⟩;simp only[Option.some.injEq]at he;subst he;cases hk
      |pan c _=>
       simp only[ru];rintro _;exact⟨λj hj=>(by cases hj),λq hq=>by cases hq⟩
  ·exact λhf=>hf.elim
 loc:=λW bs κ h h' args hside hr=>by
  revert hside hr;unfold Fj;split
  ·rename_i k rest;generalize hg:mR G W bs h p.kinds rest=g;cases hkk:h k with
   |none=>exact λhf=>hf.elim
   | some e=>
    cases e with
    |row T s n vs=>exact λhf=>hf.elim
    |mp ks vs=>exact λhf=>hf.elim
    |obj d R=>exact λhf=>hf.elim
    | cells T' vs=>
     simp only[Br];cases hv:aB h vs with
     |none=>exact λhf=>hf.elim
     | some q=>
      obtain⟨fs,rs⟩:=q;simp only[Bq];intro hside hr;have hp:g.p:=by
       revert hside;cases p.out fs g.as_<;>exact λh=>h.1.2.1
      have hr' : ∀ j∈k::(rs++g.rs),h' j=h j:=by
       revert hr;cases p.out fs g.as_<;>exact λh=>h
      have e1:h' k=some (.cells T' vs):=by rw[hr' k sI,hkk]
      have e2:mR G W bs h' p.kinds rest=g:=by
       rw[<- hg];exact Au (by rw[hg];exact hp) (by rw[hg];exact λj hj=>hr' j (by simp[hj]))
      have e3:aB h' vs=some (fs,rs):=cP hv λj hj=>hr' j (by simp[hj])
      rw[e1,e2];simp only[Br,e3,Bq]
  ·exact λhf=>hf.elim
theorem vK{P:Program}{f:FuncId}(p:EO P f)(G:Nat->Prop)(W:World)(bs:List Nat)(κ:Nat)(h:Hp)(l:List SV):(p.spec G).ev W bs κ h l=Fj G h κ p.T W bs p.kinds p.pre p.out l:=rfl
theorem V3{w:World}{nt m:Nat}{T:TypeId}{fs:List AV}{u x:Value}{fp:List Nat}(us:Array Value)(hlen:fs.length<=7)(ho:rL w u [x] fp T fs)(hlt:∀ b∈fp,b<w.heap.size)(hnt:us.size+1+m=nt) :
  Sat w fp nt ⟨[],[(0,u),(1,x)]⟩ (σB T fs us.toList) { tmps:=(#[u]++us)++Array.replicate m undef,defers:=[] } w:=by
 obtain⟨b,rfl,hb,hvs,rfl,hnd⟩:=ho;have e1:gG 1 [x] (λ_=>.pointer (some ⟨b,0,none⟩)) 1=x:=by simp[gG,bo]
 have hl:=jW hvs;have hb' : b∉z6 [x] fs:=(List.nodup_cons.1 hnd).1;have hnd' : (z6 [x] fs).Nodup:=(List.nodup_cons.1 hnd).2;have at' : ∀ j e,dP ((0,.cells T (aO 1 fs))::bg 1 fs) j=some e->(j=0/\e=.cells T (aO 1 fs))\/(j≠0/\(j,e)∈bg 1 fs):=λj e he=>by
  simp only[dP]at he;by_cases hj:j=0
  ·subst hj;rw[ah]at he;cases he;exact .inl ⟨rfl,rfl⟩
  ·rw[al _ _ hj]at he;exact .inr ⟨hj,Kr he⟩
 have e0:gG 1 [x] (λ_=>.pointer (some ⟨b,0,none⟩)) 0=.pointer (some ⟨b,0,none⟩):=mH (.inl oM)
 refine⟨⟨gG 1 [x] (λ_=>.pointer (some ⟨b,0,none⟩)),bo (iE 1 [x] fs (λ_=>[])) 0 [b],λt=>?_,⟨λj e he=>?_,λj e he c hc=>?_,λj e he c hc=>?_,λi j e e' hij hi hj c hc=>?_,an.refl w _⟩,λp hp=>?_⟩,?_,rfl,λp hp=>?_,λt k hk=>?_,λj e he=>?_⟩
 ·show fits _ (ee ((0,.is (.own 0 0))::u6 us.toList 1) t) _;simp only[ee,bo];split
  ·rename_i ht;subst ht;simp only[fits,den,e0,base,dj];rw[Array.getD_eq_getD_getElem?,Array.getElem?_append_left (by simp;omega),Array.getElem?_append_left sI];rfl
  ·refine sL _ us.toList 1 t (λt=>((#[Value.pointer (some ⟨b,0,none⟩)]++us)++Array.replicate m undef).getD t undef) λj hj=>?_
   have hj' : j<us.size:=by simpa using hj
   rw[Array.getD_eq_getD_getElem?,Array.getElem?_append_left (by simp;omega),Array.getElem?_append_right sI];simp[Array.getElem?_eq_getElem hj']
 ·rcases at' j e he with ⟨rfl,rfl⟩|⟨hj,hm⟩
  ·exact⟨b,e0,by rw[ah],by rw[gj hvs];exact hb⟩
  ·rw[al _ _ hj];exact (jc hvs hm _).1
 ·rcases at' j e he with ⟨rfl,rfl⟩|⟨hj,hm⟩
  ·rw[ah]at hc;exact hlt c (by simp at hc;simp[hc])
  ·rw[al _ _ hj]at hc;exact hlt c (List.mem_cons_of_mem _ (cG hl hm c hc))
 ·right;rcases at' j e he with ⟨rfl,rfl⟩|⟨hj,hm⟩
  ·rw[ah]at hc;simp at hc;simp[hc]
  ·rw[al _ _ hj]at hc;exact List.mem_cons_of_mem _ (cG hl hm c hc)
 ·rcases at' i e hi with ⟨rfl,rfl⟩|⟨hi0,hmi⟩
  ·rcases at' j e' hj with ⟨rfl,rfl⟩|⟨hj0,hmj⟩
   ·exact absurd rfl hij
   ·rw[ah]at hc;rw[al _ _ hj0];simp only[List.mem_singleton]at hc;subst hc;exact λhc' => hb' (cG hl hmj c hc')
  ·rw[al _ _ hi0]at hc;rcases at' j e' hj with ⟨rfl,rfl⟩|⟨hj0,hmj⟩
   ·rw[ah];intro hc';simp only[List.mem_singleton]at hc';subst hc';exact hb' (cG hl hmi c hc)
   ·rw[al _ _ hj0];exact jb hnd' hmi hmj hl hij c hc
 ·simp only[List.mem_cons,List.not_mem_nil,or_false]at hp;rcases hp with rfl|rfl
  ·exact e0
  ·exact e1
 ·simp;omega
 ·simp only[List.mem_cons,List.not_mem_nil,or_false]at hp;rcases hp with rfl|rfl
  ·show 0 / 8<1;omega
  ·show 1 / 8<1;omega
 ·simp only[σB,ee,bo]at hk;split at hk
  ·simp[FV.keys,SV.keys]at hk;subst hk;show 0 / 8<1;omega
  ·rw[sM]at hk;cases hk
 ·rcases at' j e he with ⟨rfl,rfl⟩|⟨hj,hm⟩
  ·refine⟨by show 0 / 8<1;omega,λi hi=>?_⟩;have:=ct i hi;show i / 8<1;omega
  ·have:=dQ _ hm;refine⟨by show j / 8<1;simp only at this;omega,λi hi=>?_⟩;rw[this.2.2]at hi;cases hi
def Rc(w:World)(S:Nat->Prop)(fp:List Nat)(T:TypeId)(fs:List AV)(W' : World)(bs' : List Nat)(x:SV)(h:Hp):FOut->Prop
 |.val v=>(∀ E,den E x=v)/\h 0=some (.cells T [.hd 1])/\aB h [.hd 1]=some (fs,[1])
 |.fact sh Φ=>(∃ cs,(∀ E,den E x=sh.val cs)/\Φ.Φ cs W' (bF (af w S fp) bs'))/\h 0=some (.cells T [.hd 1])/\aB h [.hd 1]=some (fs,[1])
 |.pan _ _=>False
theorem fh{P:Program}{f:FuncId}{fn:Func}{c:Code}{w:World}{nt:Nat}{T:TypeId}{u y:Value}{fp:List Nat}{fs:List AV}{out:FOut}(S:Nat->Prop)(us:Array Value)(rs:List ResultVar)
  (hlen:fs.length<=7) (ho:rL w u [y] fp T fs) (hlt:∀ b∈fp,b<w.heap.size)
  (hf:P.funcs[f]?=some fn) (hb:fn.body=some c) (hrs:fn.results.toList=rs) (hnt:us.size+1+(fn.ntmps-(us.size+1))=nt)
  (h:Wp P w fp nt ⟨[],[(0,u),(1,y)]⟩ c (Fin P rs (λW' bs' x h=>Rc w S fp T fs W' bs' x h out) (λc _=>∃ v,out=.pan c v)) (σB T fs us.toList)) :
  Calls P f (#[u]++us) w λe w' => Bo w S u [y] fp T fs e w' out:=by
 subst hrs;have hsat:=V3 (nt:=nt) (m:=fn.ntmps-(us.size+1)) us hlen ho hlt hnt;have hsz:(#[u]++us).size=us.size+1:=by simp;omega
 refine (oz hf hb (by rw[hsz];exact hsat) h).mono λe w' he=>?_
 cases e with
 | returned v' =>
  obtain⟨W',bs',E,F,x,h',hx,hok,rfl,hs,hp⟩:=he;have hs' := hs.back hx;have hE:E 0=u:=hp (0,u) sI;have hE1:E 1=y:=hp (1,y) sI;have back:h' 0=some (.cells T [.hd 1])->aB h' [.hd 1]=some (fs,[1])->rL w' u [y] fp T fs/\∀ b∈fp,W'.heap.size<=b\/b∈bs' := λh0 hv=>by
   have ho' := AY hs' h0 hv dE;have h1:∃ e,h' 1=some e:=(cu hs' hv).2 1 sI;obtain⟨e,he⟩:=h1;have hone:LE.hv (E 1)=E 1:=fE (bZ (hs'.ent 1 e he));have hd:ai E [.hd 1]=[y]:=by
    rw[<- hE1];simp only[ai,den];rw[hone]
   rw[hE,hd]at ho';have hfp:[0,1].flatMap F=fp:=by
    obtain⟨b,g1,g2,g3,g4,g5⟩:=ho;obtain⟨b',k1,k2,k3,k4,k5⟩:=ho';rw[g1]at k1;cases k1;rw[k4,g4]
   rw[hfp]at ho';refine⟨ho',λb hb=>?_⟩;rw[<- hfp]at hb;obtain⟨j,hj,hbj⟩:=List.mem_flatMap.1 hb;simp only[List.mem_cons,List.not_mem_nil,or_false]at hj;rcases hj with rfl|rfl
   ·exact hs.mine 0 _ h0 b hbj
   ·exact hs.mine 1 _ he b hbj
  cases out with
  |val v=>
   obtain⟨hd,h0,hv⟩:=hok;exact⟨by rw[hd E],(back h0 hv).1,hs'.keeps⟩
  |fact sh Φ=>
   obtain⟨⟨cs,hd,hΦ⟩,h0,hv⟩:=hok;obtain⟨g1,g4⟩:=back h0 hv;exact⟨cs,by rw[hd E],g1,Φ.mono (λb hb hr=>⟨hs.keeps.block b hb hr.2,hr.1,λhf=>(g4 b hf).elim (λg=>absurd g (Nat.not_le.2 hb)) hr.2⟩) hΦ,hs'.keeps⟩
  |pan c v=>exact hok.elim
 |panicked c=>
  obtain⟨W',bs',E,F,h',hx,⟨_,rfl⟩,hs,hp⟩:=he;exact⟨rfl,(hs.back hx).keeps⟩
 |outgrown=>exact he.elim
section
variable (G:Nat->Prop)(W:World)(bs:List Nat)(h:Hp)(κ k:Nat)(T T' : TypeId)
theorem sW(kinds:List Kd)(pre:List AV->List AV->World->(Nat->Prop)->Prop)(out:List AV->List AV->FOut)(rest:List SV):Fj G h κ T W bs kinds pre out (.own k 0::rest)=Br G h κ k T W bs pre out (mR G W bs h kinds rest) (h k):=rfl
theorem nq(pre:List AV->List AV->World->(Nat->Prop)->Prop)(out:List AV->List AV->FOut)(g:GVL)(vs:List SV):Br G h κ k T W bs pre out g (some (.cells T' vs))=Bq G κ k T T' W bs pre out g (aB h vs):=rfl
theorem vE(pre:List AV->List AV->World->(Nat->Prop)->Prop)(out:List AV->List AV->FOut)(p:Prop)(as_ fs:List AV)(rs cs rs0:List Nat):Bq G κ k T T' W bs pre out ⟨p,as_,rs,cs⟩ (some (fs,rs0))=ru G κ k W bs (T' = T/\p/\pre fs as_ W (bF G bs)) rs0 rs cs (out fs as_):=rfl
theorem sY(q:Prop)(rs rs' cs:List Nat)(v:Value):ru G κ k W bs q rs rs' cs (.val v)=⟨q/\(k::rs).Nodup/\(∀ j∈rs',j∉k::rs),.v v,[],none,[],k::(rs++rs')⟩:=rfl
theorem pz(q:Prop)(rs rs' cs:List Nat)(sh:Sh)(Φ:FK):ru G κ k W bs q rs rs' cs (.fact sh Φ)=⟨q/\(k::rs).Nodup/\(∀ j∈rs',j∉k::rs)/\Up G W bs,sh.tm (8*κ+7),dO cs++[(8*κ+7,some (.obj [] (gk G W bs Φ)))],none,[],k::(rs++rs')⟩:=rfl
theorem sX(q:Prop)(rs rs' cs:List Nat)(c:List PanicEntry)(v:Value):ru G κ k W bs q rs rs' cs (.pan c v)=⟨q/\(k::rs).Nodup/\(∀ j∈rs',j∉k::rs),.v v,[],some c,k::rs,k::(rs++rs')⟩:=rfl
end
end
end Go.LE
namespace Go.Proofs.YtnemkecffmdlnaaGreatDoor
section
open Go Go.RowKit Go.LE
set_option maxRecDepth 10000
abbrev AI (W:World)(S:Nat->Prop)(vs:List Value)(v:En):Prop:=eT W S vs (v.map (·.2))
def rI(v:En):List ByteArray:=v.map (·.1)
def mkF(vs:List Value)(v:En):List AV:=[.mp (rI v) vs]
def Hm(vs:List Value)(v:En):TE->FOut
 |.ok t=>.fact Sh.one (tmF t)
 |.error (c,a)=>.pan (bb c a) .nilIface
theorem cV(vs:List Value)(v:En)(t:Tm):Hm vs v (.ok t)=.fact Sh.one (tmF t):=rfl
theorem aH(vs:List Value)(v:En)(c a:Int):Hm vs v (.error (c,a))=.pan (bb c a) .nilIface:=rfl
def xt(v:En)(x:Ex):Prop:=∀ (vs:List Value) (e u uh:Value) (fp:List Nat) (w:World) (S:Nat->Prop),vt v/\AI w S vs v->cw x/\AJ w S e x->bh w S->rL w u [uh] fp 132 (mkF vs v)->(∀ b∈fp,b<w.heap.size)->(∀ b∈fp,¬ S b) ->
 Calls Tryz.prog 65 (#[u]++#[e]) w λe' w' => Bo w S u [uh] fp 132 (mkF vs v) e' w' (Hm vs v (aP v x))
def uy(v:En)(x:Ex)(h:xt v x)(vs:List Value):EO Tryz.prog 65 where
 T:=132
 kinds:=[none]
 pre:=λfs bs_ W S=>(fs=mkF vs v/\∃ e,bs_=[.val e]/\AJ W S e x)/\(vt v/\AI W S vs v)/\cw x/\bh W S
 premono:=λfs bs_ W S W' S' hs ⟨⟨h1,e,h2,h3⟩,⟨h4,h5⟩,h6,h7⟩=>⟨⟨h1,e,h2,h3.mono hs⟩,⟨h4,eT.mono hs h5⟩,h6,h7.mono hs⟩
 out:=λ_ _=>Hm vs v (aP v x)
 enters:=Tryz.call65
 ok:=by
  intro w S u xs fp us fs bs_ ho hlt hS hu hp;obtain⟨⟨rfl,e,rfl,h1⟩,h2,h3,h4⟩:=hp;obtain⟨uh,rfl⟩:=Fx ho
  match us,hu with
  |[a],hu=>
   obtain⟨rfl,_⟩:=hu;have:=h vs a u uh fp w S h2 ⟨h3,h1⟩ h4 ho hlt hS;simpa using this
theorem sb(v:En)(x:Ex)(h:xt v x)(vs:List Value)(e:Value)(W:World)(S:Nat->Prop):(uy v x h vs).pre [.mp (rI v) vs] [.val e] W S=(AJ W S e x/\(vt v/\AI W S vs v)/\cw x/\bh W S):=by
 apply propext;constructor
 ·rintro⟨⟨_,e',h1,h2⟩,h3⟩;cases h1;exact⟨h2,h3⟩
 ·rintro⟨h2,h3⟩;exact⟨⟨rfl,e,rfl,h2⟩,h3⟩
theorem wI(v:En)(x:Ex)(h:xt v x)(vs:List Value)(fs bs_:List AV):(uy v x h vs).out fs bs_=Hm vs v (aP v x):=rfl
theorem Ik(v:En)(x:Ex)(h:xt v x)(vs:List Value):(uy v x h vs).T=132:=rfl
theorem pP(v:En)(x:Ex)(h:xt v x)(vs:List Value):(uy v x h vs).kinds=[none]:=rfl
theorem oh.len{W:World}{S:Nat->Prop}:∀ {vs:List Value} {l:Ex},oh W S false vs l->vs.length=nm l
 |[],l,h=>by
  cases h;rfl
 |v::vs,l,h=>by
  cases h with
  |cons _ _ x l h1 h2=>rw[List.length_cons,nm,oh.len h2]
def XD(v:En):Ex->Prop
 |.cons x l=>xt v x/\XD v l
 |_=>True
def ai6(ts:List Tm):Except (Int×Int) (List Tm)->Except (Int×Int) (List Tm)
 |.ok r=>.ok (ts++r)
 |.error e=>.error e
def ri(v:En)(a:Nat)(w:ByteArray)(l:Ex):TE:=match ig v l with
 |.error e=>.error e
 |.ok ts=>br a w ts (cB l)
structure PC where
 W:World
 bs:List Nat
 us:List Value
 ts:List Tm
 l:Ex
 k:Nat
section
variable (G:Nat->Prop)(v:En)(x:Ex)(h:xt v x)(vs:List Value)(q:Ag)(i:Nat)
noncomputable def akR:Env Tryz.prog:=⟨λ| 65=>some ((uy v x h vs).spec G)|_=>none,λ_=>none,λ_ _=>none⟩
theorem agL:(akR G v x h vs).sp 65=some ((uy v x h vs).spec G):=rfl
noncomputable def fZ:Env Tryz.prog:=⟨λ| 159=>some (Gv q i).spec|160=>some (Gw q i).spec|161=>some (AQ q i).spec|162=>some (Gu q i).spec|_=>none,λ_=>none,λ_ _=>none⟩
theorem ac5:(fZ q i).sp 159=some (Gv q i).spec:=rfl
theorem ac6:(fZ q i).sp 160=some (Gw q i).spec:=rfl
theorem ac7:(fZ q i).sp 161=some (AQ q i).spec:=rfl
theorem ac8:(fZ q i).sp 162=some (Gu q i).spec:=rfl
end
theorem An.one{W:World}{S:Nat->Prop}{v:Value}{c:Cn}(h:An W S v c):v.oneCell' = true:=by cases h<;>rfl
theorem y7.one{W:World}{S:Nat->Prop}{v:Value}{c:Ln}(h:y7 W S v c):v.oneCell' = true:=by cases h<;>rfl
theorem oO{q:Ag}{i:Nat}{n:Rx}(h:KQ q.ts (cB q.l) i=.ok n):tR q i=.ret (ax n) (zW q (i+1)):=by
 unfold tR;rw[h];rfl
theorem oN{q:Ag}{i:Nat}{c j:Int}(h:KQ q.ts (cB q.l) i=.error (c,j)):tR q i=.pan (bb c j) .nilIface:=by
 unfold tR;rw[h];rfl
theorem sa{q:Ag}{i:Nat}{n:ByteArray}(h:EI q.ts (cB q.l) i=.ok n):nC q i=.ret (.string n) (zW q (i+1)):=by
 unfold nC;rw[h];rfl
theorem r9{q:Ag}{i:Nat}{c j:Int}(h:EI q.ts (cB q.l) i=.error (c,j)):nC q i=.pan (bb c j) .nilIface:=by
 unfold nC;rw[h];rfl
theorem EY{q:Ag}{i:Nat}{c j:Int}(h:Nc q.ts (cB q.l) i=.error (c,j)):js q i=.pan (bb c j) .nilIface:=by
 unfold js;rw[h];rfl
theorem BF{q:Ag}{i:Nat}{c j:Int}(h:Jr q.ts (cB q.l) i=.error (c,j)):nv q i=.pan (bb c j) .nilIface:=by
 unfold nv;rw[h];rfl
theorem EZ{W:World}{S:Nat->Prop}{q:Ag}{i:Nat}{c:Cn}(hq:q.ok W S)(h:Nc q.ts (cB q.l) i=.ok c):∃ p,js q i=.ret p (zW q (i+1))/\An W S p c:=by
 have h' := h;unfold Nc at h;split at h
 ·rename_i c' hi;cases h;have hl:i<q.us.length:=by
   have:=hq.2.1.2.len;have:=(List.getElem?_eq_some_iff.1 hi).1;omega
  obtain⟨v,t,g1,g2,g3⟩:=eT.get hq.2.1.2 hl;rw[hi]at g2;cases g2;obtain⟨p,rfl,hp⟩:=g3;refine⟨p,?_,hp⟩;unfold js;rw[h',List.getD_eq_getElem?_getD,g1];rfl
 ·cases h
theorem BG{W:World}{S:Nat->Prop}{q:Ag}{i:Nat}{c:Ln}(hq:q.ok W S)(h:Jr q.ts (cB q.l) i=.ok c):∃ p,nv q i=.ret p (zW q (i+1))/\y7 W S p c:=by
 have h' := h;unfold Jr at h;split at h
 ·rename_i c' hi;cases h;have hl:i<q.us.length:=by
   have:=hq.2.1.2.len;have:=(List.getElem?_eq_some_iff.1 hi).1;omega
  obtain⟨v,t,g1,g2,g3⟩:=eT.get hq.2.1.2 hl;rw[hi]at g2;cases g2;obtain⟨p,rfl,hp⟩:=g3;refine⟨p,?_,hp⟩;unfold nv;rw[h',List.getD_eq_getElem?_getD,g1];rfl
 ·cases h
theorem eA{t:Tm}{W1:World}{bs1 fp:List Nat}{w:World}{S:Nat->Prop}{x:SV}{v:Value}{T:TypeId}{h:Hp}{fs' : List AV}(hd:∀ E,den E x=v)(hg:eS W1 (bF (af w S fp) bs1) v t)
  (h0:h 0=some (.cells T [.hd 1])) (hv:aB h [.hd 1]=some (fs',[1])) (hn:([0,1]:List Nat).Nodup):Rc w S fp T fs' W1 bs1 x h (.fact Sh.one (tmF t)):=
 ⟨⟨[v],λE=>(hd E).trans (td hg.hv).symm,v,rfl,hg⟩,h0,hv⟩
def aU:=(ae @List.replicate_succ.{0} @List.replicate_zero.{0} @au @ab kQ kS Sz (ae SD SZ kU dc dd de df (ae dv dw dz dA eB eC eD (ae eE eF eG jH jI jJ jK (ae jL nN nO nP nQ nR Ip (ae Iq Ir Is It Iu Iv Iw (ae Ix Iy iA iB iC iD p4 (ae p5 p6 p7 p8 p9 qc qd (ae qe qf qg qh qi qj qk (ae ql qm qn qp mi mj ml (ae mm mn mq mr mu mv mw (ae my mz mA mB mC mD mE (ae mF mG QS QT QU QV yN (ae yO yP yQ yR yS yT yU (ae yV yW abP abQ abR abS abT (ae abU abV abW abX abY abZ ab0 (ae ab1 ab2 ab3 ab4 @gr @eR @aV (ae @aw @aD @aG @vK @sW @nq @vE (ae @sY @pz @sX @cK @agL @ac5 @ac6 (ae @ac7 @ac8 @sb @wI @Ik @pP @cV (ae @aH @mkF.eq_1 @Gv.eq_1 @Gw.eq_1 @AQ.eq_1 @Gu.eq_1 @zW.eq_1 (EP @cj @vY @sR @eP @AA @b6 @kh))))))))))))))))))))))
theorem U6(v:En)(a:Nat)(wd:ByteArray)(l:Ex)(hML:XD v l)(vs:List Value)(ea:Option Addr)(ec:Nat)(xs:List Value)(u uh:Value)(fp:List Nat)(w:World)(S:Nat->Prop)(hEn:vt v/\AI w S vs v)
  (hx:cw (.call a wd l)) (hS1:jN w S ea xs) (hS2:xs.length<=ec) (hS3:oh w S false xs l) (hEs:bh w S) (ho:rL w u [uh] fp 132 (mkF vs v)) (hlt:∀ b∈fp,b<w.heap.size) (hS:∀ b∈fp,¬ S b) :
  Calls Tryz.prog 105 (#[u]++#[.agg #[.int .i64 (a:Nat),.string wd,.slice ea xs.length ec]]) w λe' w' => Bo w S u [uh] fp 132 (mkF vs v) e' w' (Hm vs v (ri v a wd l)):=by
 have u0:=af.up w S fp;have hse:=af.eQ w S fp hS;simp only[cw]at hx;obtain⟨hx1,hx2,hx3,hx4,hx5⟩:=hx;have hxl:xs.length<=3:=by
  have:=aij wd;have:=hS3.len;omega
 refine fh (nt:=135) S #[.agg #[.int .i64 (a:Nat),.string wd,.slice ea xs.length ec]] [.tmp 4] (by show 1<=7;omega) ho hlt Tryz.func105 rfl rfl rfl ?_;refine vR Γ0 aU ?_;refine vR Γ0 aU ?_;refine Wp.seq ?_;refine vR Γ0 aU ?_;refine Wp.block ?_;generalize hR:ig v l=R
 refine Wp.qI (λp:PC=>⟨30,ee [(0,.is (.own 0 0)),(3,.is (.own 4 0)),(4,.is (.v .nilIface)),(5,.is (.own 5 0)),(14,.is (.v (.slice ea xs.length ec))),(15,.is (.v (.int .i64 (xs.length:Nat)))),(16,.is (.v (.int .i64 (p.k:Nat))))],dP [(0,.cells 132 [.hd 1]),(1,.mp (rI v) (vs.map .v)),(4,.cells 219 [.v (.int .i64 (a:Nat)),.v (.string wd),.v (.slice ea xs.length ec)]),(5,.cells 293 [.v (.int .i64 (a:Nat)),.v (.string wd),.v (.slice ea xs.length ec),.hd 6,.v (.int .i64 0)]),(6,.row 54 1 p.us.length (p.us.map .v))]⟩)
  PC.W PC.bs (λp=>(bh p.W (bF (af w S fp) p.bs)/\AI p.W (bF (af w S fp) p.bs) vs v/\jN p.W (bF (af w S fp) p.bs) ea xs)/\(oh p.W (bF (af w S fp) p.bs) false xs l/\oh p.W (bF (af w S fp) p.bs) false (xs.drop p.k) p.l/\cw p.l/\XD v p.l)/\(eT p.W (bF (af w S fp) p.bs) p.us p.ts/\p.us.length=p.k/\p.k<=xs.length)/\ai6 p.ts (ig v p.l)=R) (λp=>xs.length-p.k) ⟨w,fp,[],[],l,0⟩ rfl rfl ?_ ⟨⟨hEs.mono hse,eT.mono hse hEn.2,hS1.mono hse⟩,⟨hS3.mono hse,hS3.mono hse,hx5,hML⟩,⟨trivial,rfl,Nat.zero_le _⟩,by rw[hR];cases R<;>rfl⟩ ?_
 ·exact wM (λk=>if k=4 then .key 8 else if k=5 then .key 40 else if k=6 then .nil else .key k) (aa aU @Int.natCast_zero)
 rintro⟨W1,bs1,us,ts,l1,k⟩ ⟨⟨e1,n1,s1⟩,⟨g0,g1,g2,g3⟩,⟨m1,m2,m3⟩,hR1⟩ hx1;simp only at e1 n1 s1 g0 g1 g2 g3 m1 m2 m3 hR1 hx1;dsimp only;have u1:=u0.ext hx1;refine vR Γ0 aU ?_;refine Wp.seq ?_;refine wC aU (λhc=>?_) (λhc=>?_)
 ·have hk1:k<xs.length:=by
   simp at hc;omega
  clear hc;have wk:IntKind.i64.wrap ((k:Int)+1)=((k+1:Nat):Int):=wW;obtain⟨y,hy⟩:∃ y,xs[k]?=some y:=⟨_,List.getElem?_eq_getElem hk1⟩;have hdr:xs.drop k=y::xs.drop (k+1):=by
   rw[List.drop_eq_getElem_cons hk1];rw[List.getElem?_eq_getElem hk1]at hy;rw[Option.some.inj hy]
  rw[hdr]at g1;obtain⟨b,o,rfl,hb,hcy⟩:=jN.cell s1 hy;cases g1 with
  |cons _ _ x l2 gx gl=>
  simp only[cw]at g2;obtain⟨gx2,gl2⟩:=g2;obtain⟨gx3,gl3⟩:=g3;rw[ig]at hR1;refine wK ?_;refine Wp.seq (Wp.block ?_);refine wR Γ0 (aa aU hcy) ?_ ?_
  ·exact⟨⟨oM,oM⟩,hb.2⟩
  cases hF:aP v x with
  | error e=>
   obtain⟨c,j⟩:=e;rw[hF]at hR1;have hE:ri v a wd l=.error (c,j):=by
    unfold ri;rw[hR,<- hR1];rfl
   rw[hE,aH];refine Wp.qK (akR (af w S fp) v x gx3 vs) aM (ev (bw aU hF gx.parts)) rfl (by kernel_rfl) ?_ ?_
   ·exact⟨⟨⟨gx,⟨hEn.1,n1⟩,gx2,e1⟩,dE,λ_ h=>h.elim⟩,by unfold maxLen;omega,oM⟩
   refine qq ?_;exact⟨_,rfl⟩
  | ok t=>
   rw[hF]at hR1;refine Wp.more ?_;refine Jt (akR (af w S fp) v x gx3 vs) (bw aU hF gx.parts) ?_ ?_
   ·exact⟨⟨⟨gx,⟨hEn.1,n1⟩,gx2,e1⟩,dE,(λ_ h=>h.elim),u1⟩,by unfold maxLen;omega,oM⟩
   refine dh ?_;refine Pw.da 335 (ev aU) (aY.refl _ _) λW3 bs3 cs hx3 hΦ3=>?_
   obtain⟨v3,rfl,hg3,hv3⟩:=CN hΦ3;refine Pw.here ?_;refine qq ?_;refine vr Γ0 (aa aU wk) ?_;have em:List.map SV.v us++[.v v3]=List.map SV.v (us++[v3]):=by simp
   have el:(us++[v3]).length=us.length+1:=by simp
   refine⟨⟨W3,bs3,us++[v3],ts++[t],l2,k+1⟩,⟨⟨e1.mono hx3.dW,eT.mono hx3.dW n1,s1.mono hx3.dW⟩,⟨g0.mono hx3.dW,gl.mono hx3.dW,gl2,gl3⟩,⟨eT.snoc hg3 (eT.mono hx3.dW m1),by dsimp only;omega,by dsimp only;omega⟩,?_⟩,by dsimp only;omega,rfl,rfl,?_⟩
   ·rw[<- hR1];cases ig v l2 with
    |error e=>rfl
    |ok r=>simp[ai6]
   exact wM (λk=>if k=6 then .key 344 else .key k) (fJ aU hv3 em el)
 ·have hkN:k=xs.length:=by
   simp at hc;omega
  refine wE ?_;subst hkN;rw[List.drop_length]at g1;cases g1;have hR2:ig v l=.ok ts:=by
   rw[hR,<- hR1];simp[ig,ai6]
  have hE:ri v a wd l=br a wd ts (cB l):=by
   unfold ri;rw[hR2]
  rw[hE];obtain⟨hts,htl⟩:=KI hEn.1 hx5 hR2;refine Wp.zT 6 (ev (aa aU @aS)) (λE=>by simp only[ai,den,aS];exact rfl) λW2 bs2 ao2 c2 hx2 hs2 hd2=>?_
  have u2:=u1.ext hx2;have hS4:jN W2 (bF (af w S fp) bs2) ao2 us:=hs2.out λb hb=>⟨u1 b hb.2,hb.1⟩
  have hq:(Ag.mk a wd ea ec xs l ao2 c2 us ts).ok W2 (bF (af w S fp) bs2):=⟨⟨s1.mono hx2.dW,g0.mono hx2.dW⟩,⟨hS4,eT.mono hx2.dW m1⟩,⟨by dsimp only;omega,by dsimp only;omega,hd2,by dsimp only;omega⟩,hts⟩;obtain⟨Q,hQ⟩:∃ Q,Q=Ag.mk a wd ea ec xs l ao2 c2 us ts:=⟨_,rfl⟩
  have hqo:(Ag.mk a wd ea ec xs l ao2 c2 us ts).ok W2 (Out bs2):=hq.mono λb _ hb=>⟨rfl,hb.2⟩
  have hul:us.length=(oq wd).toNat:=by
   have:=g0.len;omega
  clear hQ Q;refine vR Γ0 aU ?_;refine Wp.seq ?_;refine vR Γ0 aU ?_;refine Wp.block ?_;refine Wp.seq (Wp.block ?_);refine Wp.seq (Wp.block ?_);refine Wp.seq (Wp.block ?_);refine Wp.seq (Wp.block ?_);refine Wp.seq (Wp.block ?_);refine Wp.seq (Wp.block ?_);refine Wp.seq (Wp.block ?_)
  refine Wp.seq (Wp.block ?_);refine Wp.seq ?_;refine Wp.seq ?_;refine Wp.seq ?_;refine vR Γ0 aU ?_;refine wC aU (λhc=>?_) (λhc=>?_)
  ·have hcT:=hc;have ho:wd=RE:=qW hc;have ho1:wd=RE\/wd=qG:=.inl ho;refine wK ?_;refine wC aU (λhc=>?_) (λhc=>?_)
   rotate_left
   ·rw[hcT]at hc;cases hc
   refine wE ?_;refine Wp.seq ?_;have hul:us.length=1:=by rw[hul,ho];decide
   cases hN0:KQ ts (cB l) 0 with
   | error e=>
    obtain⟨c,j⟩:=e;have hE2:br a wd ts (cB l)=.error (c,j):=by
     rw[br,if_pos ho1];simp only[cc,hN0]
    rw[hE2,aH];have hO:=oN (q:=⟨a,wd,ea,ec,xs,l,ao2,c2,us,ts⟩) hN0;refine Wp.Ic (fZ ⟨a,wd,ea,ec,xs,l,ao2,c2,us,ts⟩ 0) aM (ev (bw aU hO @Int.natCast_zero)) rfl (by kernel_rfl) ?_ ?_
    ·exact⟨⟨hqo,by show 0<us.length;omega⟩,dE,λ_ h=>h.elim⟩
    refine qq ?_;exact⟨_,rfl⟩
   | ok n0=>
    have hO:=oO (q:=⟨a,wd,ea,ec,xs,l,ao2,c2,us,ts⟩) hN0;refine kA (fZ ⟨a,wd,ea,ec,xs,l,ao2,c2,us,ts⟩ 0) (bw aU hO @Int.natCast_zero) ?_ ?_
    ·have hside:(Ag.ok ⟨a,wd,ea,ec,xs,l,ao2,c2,us,ts⟩) W2 (Out bs2)/\0<us.length:=⟨hqo,oM⟩
     first|exact⟨hside,dE,λ_ h=>h.elim⟩|exact⟨⟨hside,dE,λ_ h=>h.elim⟩,aL n0⟩
    clear hO;have hE2:br a wd ts (cB l)=.ok (.canon (.mk a wd (some n0) ⟨#[]⟩ ⟨#[]⟩ .nil .nil)):=by
     rw[br,if_pos ho1];simp only[cc,hN0]
    rw[hE2,cV];refine Wp.cS 392 (ev aU) (λE=>by simp only[ai,den];exact rfl) λW3 bs3 b3 hx3 hb3 hn3 hc3=>?_
    refine wZ aU ?_;have hb:bF (af w S fp) bs3 b3:=⟨u2 b3 hn3,hb3⟩
    exact eA (λE=>rfl) ⟨_,rfl,Vb (n:=some n0) hb hc3 .nil .nil⟩ rfl (by simp only[iO,Op.operands,Value.cells,σ0,σB,Nat.reduceEqDiff,Nat.reduceAdd,Nat.reduceMul,Nat.reduceLT,Nat.reduceLeDiff,Nat.reduceBEq,av,Int.reduceToNat,Int.reduceLT,Int.reduceLE,Nat.reduceDiv,Nat.reduceMod,Nat.reduceSub,Int.reducePow,Nat.reducePow,σP,σB3,aU,aq,eP,cL,cj]<;>rfl) dE
  have na0:¬ wd=RE:=qV hc;refine vr Γ0 aU ?_;refine wC aU (λhc=>?_) (λhc=>?_)
  ·have ho:wd=qG:=qW hc;have ho1:wd=RE\/wd=qG:=.inr ho;refine wE ?_;refine Wp.seq ?_;have hul:us.length=1:=by rw[hul,ho];decide
   cases hN0:KQ ts (cB l) 0 with
   | error e=>
    obtain⟨c,j⟩:=e;have hE2:br a wd ts (cB l)=.error (c,j):=by
     rw[br,if_pos ho1];simp only[cc,hN0]
    rw[hE2,aH];have hO:=oN (q:=⟨a,wd,ea,ec,xs,l,ao2,c2,us,ts⟩) hN0;refine Wp.Ic (fZ ⟨a,wd,ea,ec,xs,l,ao2,c2,us,ts⟩ 0) aM (ev (bw aU hO @Int.natCast_zero)) rfl (by kernel_rfl) ?_ ?_
    ·exact⟨⟨hqo,by show 0<us.length;omega⟩,dE,λ_ h=>h.elim⟩
    refine qq ?_;exact⟨_,rfl⟩
   | ok n0=>
    have hO:=oO (q:=⟨a,wd,ea,ec,xs,l,ao2,c2,us,ts⟩) hN0;refine kA (fZ ⟨a,wd,ea,ec,xs,l,ao2,c2,us,ts⟩ 0) (bw aU hO @Int.natCast_zero) ?_ ?_
    ·have hside:(Ag.ok ⟨a,wd,ea,ec,xs,l,ao2,c2,us,ts⟩) W2 (Out bs2)/\0<us.length:=⟨hqo,oM⟩
     first|exact⟨hside,dE,λ_ h=>h.elim⟩|exact⟨⟨hside,dE,λ_ h=>h.elim⟩,aL n0⟩
    clear hO;have hE2:br a wd ts (cB l)=.ok (.canon (.mk a wd (some n0) ⟨#[]⟩ ⟨#[]⟩ .nil .nil)):=by
     rw[br,if_pos ho1];simp only[cc,hN0]
    rw[hE2,cV];refine Wp.cS 408 (ev aU) (λE=>by simp only[ai,den];exact rfl) λW3 bs3 b3 hx3 hb3 hn3 hc3=>?_
    refine wZ aU ?_;have hb:bF (af w S fp) bs3 b3:=⟨u2 b3 hn3,hb3⟩
    exact eA (λE=>rfl) ⟨_,rfl,Vb (n:=some n0) hb hc3 .nil .nil⟩ rfl (by simp only[iO,Op.operands,Value.cells,σ0,σB,Nat.reduceEqDiff,Nat.reduceAdd,Nat.reduceMul,Nat.reduceLT,Nat.reduceLeDiff,Nat.reduceBEq,av,Int.reduceToNat,Int.reduceLT,Int.reduceLE,Nat.reduceDiv,Nat.reduceMod,Nat.reduceSub,Int.reducePow,Nat.reducePow,σP,σB3,aU,aq,eP,cL,cj]<;>rfl) dE
  have nw1:¬ (wd=RE\/wd=qG):=λh=>h.elim na0 (qV hc)
  refine wK ?_;refine Wp.seq ?_;refine vR Γ0 aU ?_;refine wC aU (λhc=>?_) (λhc=>?_)
  ·have ho:wd=jz:=qW hc;refine wE ?_;refine Wp.seq ?_;have hul:us.length=3:=by rw[hul,ho];decide
   cases hN0:KQ ts (cB l) 0 with
   | error e=>
    obtain⟨c,j⟩:=e;have hE2:br a wd ts (cB l)=.error (c,j):=by
     rw[br,if_neg nw1,if_pos ho];simp only[cc,hN0]
    rw[hE2,aH];have hO:=oN (q:=⟨a,wd,ea,ec,xs,l,ao2,c2,us,ts⟩) hN0;refine Wp.Ic (fZ ⟨a,wd,ea,ec,xs,l,ao2,c2,us,ts⟩ 0) aM (ev (bw aU hO @Int.natCast_zero)) rfl (by kernel_rfl) ?_ ?_
    ·exact⟨⟨hqo,by show 0<us.length;omega⟩,dE,λ_ h=>h.elim⟩
    refine qq ?_;exact⟨_,rfl⟩
   | ok n0=>
    have hO:=oO (q:=⟨a,wd,ea,ec,xs,l,ao2,c2,us,ts⟩) hN0;refine kA (fZ ⟨a,wd,ea,ec,xs,l,ao2,c2,us,ts⟩ 0) (bw aU hO @Int.natCast_zero) ?_ ?_
    ·have hside:(Ag.ok ⟨a,wd,ea,ec,xs,l,ao2,c2,us,ts⟩) W2 (Out bs2)/\0<us.length:=⟨hqo,oM⟩
     first|exact⟨hside,dE,λ_ h=>h.elim⟩|exact⟨⟨hside,dE,λ_ h=>h.elim⟩,aL n0⟩
    clear hO;cases hN1:EI ts (cB l) 1 with
    | error e=>
     obtain⟨c,j⟩:=e;have hE2:br a wd ts (cB l)=.error (c,j):=by
      rw[br,if_neg nw1,if_pos ho];simp only[cc,hN0,hN1]
     rw[hE2,aH];have hO:=r9 (q:=⟨a,wd,ea,ec,xs,l,ao2,c2,us,ts⟩) hN1;refine Wp.bn (fZ ⟨a,wd,ea,ec,xs,l,ao2,c2,us,ts⟩ 1) aM (ev (bw aU hO @Int.natCast_zero)) ?_ ?_
     ·exact⟨⟨hqo,by show 1<us.length;omega⟩,dE,λ_ h=>h.elim⟩
     refine qq ?_;exact⟨_,rfl⟩
    | ok n1=>
     have hO:=sa (q:=⟨a,wd,ea,ec,xs,l,ao2,c2,us,ts⟩) hN1;refine wR (fZ ⟨a,wd,ea,ec,xs,l,ao2,c2,us,ts⟩ 1) (bw aU hO @Int.natCast_zero) ?_ ?_
     ·have hside:(Ag.ok ⟨a,wd,ea,ec,xs,l,ao2,c2,us,ts⟩) W2 (Out bs2)/\1<us.length:=⟨hqo,oM⟩
      first|exact⟨hside,dE,λ_ h=>h.elim⟩|exact⟨⟨hside,dE,λ_ h=>h.elim⟩,rfl⟩
     clear hO;cases hN2:EI ts (cB l) 2 with
     | error e=>
      obtain⟨c,j⟩:=e;have hE2:br a wd ts (cB l)=.error (c,j):=by
       rw[br,if_neg nw1,if_pos ho];simp only[cc,hN0,hN1,hN2]
      rw[hE2,aH];have hO:=r9 (q:=⟨a,wd,ea,ec,xs,l,ao2,c2,us,ts⟩) hN2;refine Wp.bn (fZ ⟨a,wd,ea,ec,xs,l,ao2,c2,us,ts⟩ 2) aM (ev (bw aU hO @Int.natCast_zero)) ?_ ?_
      ·exact⟨⟨hqo,by show 2<us.length;omega⟩,dE,λ_ h=>h.elim⟩
      refine qq ?_;exact⟨_,rfl⟩
     | ok n2=>
      have hO:=sa (q:=⟨a,wd,ea,ec,xs,l,ao2,c2,us,ts⟩) hN2;refine wR (fZ ⟨a,wd,ea,ec,xs,l,ao2,c2,us,ts⟩ 2) (bw aU hO @Int.natCast_zero) ?_ ?_
      ·have hside:(Ag.ok ⟨a,wd,ea,ec,xs,l,ao2,c2,us,ts⟩) W2 (Out bs2)/\2<us.length:=⟨hqo,oM⟩
       first|exact⟨hside,dE,λ_ h=>h.elim⟩|exact⟨⟨hside,dE,λ_ h=>h.elim⟩,rfl⟩
      clear hO;have hE2:br a wd ts (cB l)=.ok (.canon (.mk a wd (some n0) n1 n2 .nil .nil)):=by
       rw[br,if_neg nw1,if_pos ho];simp only[cc,hN0,hN1,hN2]
      rw[hE2,cV];refine vR Γ0 aU ?_;refine Wp.cS 424 (ev aU) (λE=>by simp only[ai,den];exact rfl) λW3 bs3 b3 hx3 hb3 hn3 hc3=>?_
      refine wZ aU ?_;have hb:bF (af w S fp) bs3 b3:=⟨u2 b3 hn3,hb3⟩
      exact eA (λE=>rfl) ⟨_,rfl,Vb (n:=some n0) hb hc3 .nil .nil⟩ rfl (by simp only[iO,Op.operands,Value.cells,σ0,σB,Nat.reduceEqDiff,Nat.reduceAdd,Nat.reduceMul,Nat.reduceLT,Nat.reduceLeDiff,Nat.reduceBEq,av,Int.reduceToNat,Int.reduceLT,Int.reduceLE,Nat.reduceDiv,Nat.reduceMod,Nat.reduceSub,Int.reducePow,Nat.reducePow,σP,σB3,aU,aq,eP,cL,cj]<;>rfl) dE
  have nw2:¬ wd=jz:=qV hc;refine wK ?_;refine Wp.seq ?_;refine vR Γ0 aU ?_;refine wC aU (λhc=>?_) (λhc=>?_)
  ·have ho:wd=GK:=qW hc;refine wE ?_;have hul:us.length=2:=by rw[hul,ho];decide
   cases hN0:KQ ts (cB l) 0 with
   | error e=>
    obtain⟨c,j⟩:=e;have hE2:br a wd ts (cB l)=.error (c,j):=by
     rw[br,if_neg nw1,if_neg nw2,if_pos ho];simp only[cc,hN0]
    rw[hE2,aH];have hO:=oN (q:=⟨a,wd,ea,ec,xs,l,ao2,c2,us,ts⟩) hN0;refine Wp.dF (fZ ⟨a,wd,ea,ec,xs,l,ao2,c2,us,ts⟩ 0) aM (ev (bw aU hO @Int.natCast_zero)) ?_ ?_
    ·exact⟨⟨hqo,by show 0<us.length;omega⟩,dE,λ_ h=>h.elim⟩
    refine qq ?_;exact⟨_,rfl⟩
   | ok n0=>
    have hO:=oO (q:=⟨a,wd,ea,ec,xs,l,ao2,c2,us,ts⟩) hN0;refine wr (fZ ⟨a,wd,ea,ec,xs,l,ao2,c2,us,ts⟩ 0) (bw aU hO @Int.natCast_zero) ?_ ?_
    ·have hside:(Ag.ok ⟨a,wd,ea,ec,xs,l,ao2,c2,us,ts⟩) W2 (Out bs2)/\0<us.length:=⟨hqo,oM⟩
     first|exact⟨hside,dE,λ_ h=>h.elim⟩|exact⟨⟨hside,dE,λ_ h=>h.elim⟩,aL n0⟩
    clear hO;cases hN1:EI ts (cB l) 1 with
    | error e=>
     obtain⟨c,j⟩:=e;have hE2:br a wd ts (cB l)=.error (c,j):=by
      rw[br,if_neg nw1,if_neg nw2,if_pos ho];simp only[cc,hN0,hN1]
     rw[hE2,aH];have hO:=r9 (q:=⟨a,wd,ea,ec,xs,l,ao2,c2,us,ts⟩) hN1;refine Wp.bn (fZ ⟨a,wd,ea,ec,xs,l,ao2,c2,us,ts⟩ 1) aM (ev (bw aU hO @Int.natCast_zero)) ?_ ?_
     ·exact⟨⟨hqo,by show 1<us.length;omega⟩,dE,λ_ h=>h.elim⟩
     refine qq ?_;exact⟨_,rfl⟩
    | ok n1=>
     have hO:=sa (q:=⟨a,wd,ea,ec,xs,l,ao2,c2,us,ts⟩) hN1;refine wR (fZ ⟨a,wd,ea,ec,xs,l,ao2,c2,us,ts⟩ 1) (bw aU hO @Int.natCast_zero) ?_ ?_
     ·have hside:(Ag.ok ⟨a,wd,ea,ec,xs,l,ao2,c2,us,ts⟩) W2 (Out bs2)/\1<us.length:=⟨hqo,oM⟩
      first|exact⟨hside,dE,λ_ h=>h.elim⟩|exact⟨⟨hside,dE,λ_ h=>h.elim⟩,rfl⟩
     refine wE ?_;clear hO;have hE2:br a wd ts (cB l)=.ok (.lens (.mk a wd (some n0) n1 .nil .nil .nil)):=by
      rw[br,if_neg nw1,if_neg nw2,if_pos ho];simp only[cc,hN0,hN1]
     rw[hE2,cV];refine vR Γ0 aU ?_;refine Wp.cS 288 (ev aU) (λE=>by simp only[ai,den];exact rfl) λW3 bs3 b3 hx3 hb3 hn3 hc3=>?_
     refine wZ aU ?_;have hb:bF (af w S fp) bs3 b3:=⟨u2 b3 hn3,hb3⟩
     exact eA (λE=>rfl) ⟨_,rfl,rH (n:=some n0) hb hc3 .nil .nil .nil⟩ rfl (by simp only[iO,Op.operands,Value.cells,σ0,σB,Nat.reduceEqDiff,Nat.reduceAdd,Nat.reduceMul,Nat.reduceLT,Nat.reduceLeDiff,Nat.reduceBEq,av,Int.reduceToNat,Int.reduceLT,Int.reduceLE,Nat.reduceDiv,Nat.reduceMod,Nat.reduceSub,Int.reducePow,Nat.reducePow,σP,σB3,aU,aq,eP,cL,cj]<;>rfl) dE
  have nw3:¬ wd=GK:=qV hc;refine wK ?_;refine Wp.seq ?_;refine vR Γ0 aU ?_;refine wC aU (λhc=>?_) (λhc=>?_)
  ·have ho:wd=lY:=qW hc;refine wE ?_;have hul:us.length=1:=by rw[hul,ho];decide
   cases hN0:EI ts (cB l) 0 with
   | error e=>
    obtain⟨c,j⟩:=e;have hE2:br a wd ts (cB l)=.error (c,j):=by
     rw[br,if_neg nw1,if_neg nw2,if_neg nw3,if_pos ho];simp only[cc,hN0]
    rw[hE2,aH];have hO:=r9 (q:=⟨a,wd,ea,ec,xs,l,ao2,c2,us,ts⟩) hN0;refine Wp.bn (fZ ⟨a,wd,ea,ec,xs,l,ao2,c2,us,ts⟩ 0) aM (ev (bw aU hO @Int.natCast_zero)) ?_ ?_
    ·exact⟨⟨hqo,by show 0<us.length;omega⟩,dE,λ_ h=>h.elim⟩
    refine qq ?_;exact⟨_,rfl⟩
   | ok n0=>
    have hO:=sa (q:=⟨a,wd,ea,ec,xs,l,ao2,c2,us,ts⟩) hN0;refine wR (fZ ⟨a,wd,ea,ec,xs,l,ao2,c2,us,ts⟩ 0) (bw aU hO @Int.natCast_zero) ?_ ?_
    ·have hside:(Ag.ok ⟨a,wd,ea,ec,xs,l,ao2,c2,us,ts⟩) W2 (Out bs2)/\0<us.length:=⟨hqo,oM⟩
     first|exact⟨hside,dE,λ_ h=>h.elim⟩|exact⟨⟨hside,dE,λ_ h=>h.elim⟩,rfl⟩
    refine wE ?_;clear hO;have hE2:br a wd ts (cB l)=.ok (.lens (.mk a wd none n0 .nil .nil .nil)):=by
     rw[br,if_neg nw1,if_neg nw2,if_neg nw3,if_pos ho];simp only[cc,hN0]
    rw[hE2,cV];refine vR Γ0 aU ?_;refine Wp.cS 288 (ev aU) (λE=>by simp only[ai,den];exact rfl) λW3 bs3 b3 hx3 hb3 hn3 hc3=>?_
    refine wZ aU ?_;have hb:bF (af w S fp) bs3 b3:=⟨u2 b3 hn3,hb3⟩
    exact eA (λE=>rfl) ⟨_,rfl,rH (n:=none) hb hc3 .nil .nil .nil⟩ rfl (by simp only[iO,Op.operands,Value.cells,σ0,σB,Nat.reduceEqDiff,Nat.reduceAdd,Nat.reduceMul,Nat.reduceLT,Nat.reduceLeDiff,Nat.reduceBEq,av,Int.reduceToNat,Int.reduceLT,Int.reduceLE,Nat.reduceDiv,Nat.reduceMod,Nat.reduceSub,Int.reducePow,Nat.reducePow,σP,σB3,aU,aq,eP,cL,cj]<;>rfl) dE
  have nw4:¬ wd=lY:=qV hc;refine wK ?_;refine Wp.seq ?_;refine Wp.seq ?_;refine vR Γ0 aU ?_;refine wC aU (λhc=>?_) (λhc=>?_)
  ·have hcT:=hc;have ho:wd=jt:=qW hc;have ho1:wd=jt\/wd=Aa:=.inl ho;refine wK ?_;refine wC aU (λhc=>?_) (λhc=>?_)
   rotate_left
   ·rw[hcT]at hc;cases hc
   refine wE ?_;have hul:us.length=1:=by rw[hul,ho];decide
   cases hN0:KQ ts (cB l) 0 with
   | error e=>
    obtain⟨c,j⟩:=e;have hE2:br a wd ts (cB l)=.error (c,j):=by
     rw[br,if_neg nw1,if_neg nw2,if_neg nw3,if_neg nw4,if_pos ho1];simp only[cc,hN0]
    rw[hE2,aH];have hO:=oN (q:=⟨a,wd,ea,ec,xs,l,ao2,c2,us,ts⟩) hN0;refine Wp.bn (fZ ⟨a,wd,ea,ec,xs,l,ao2,c2,us,ts⟩ 0) aM (ev (bw aU hO @Int.natCast_zero)) ?_ ?_
    ·exact⟨⟨hqo,by show 0<us.length;omega⟩,dE,λ_ h=>h.elim⟩
    refine qq ?_;exact⟨_,rfl⟩
   | ok n0=>
    have hO:=oO (q:=⟨a,wd,ea,ec,xs,l,ao2,c2,us,ts⟩) hN0;refine wR (fZ ⟨a,wd,ea,ec,xs,l,ao2,c2,us,ts⟩ 0) (bw aU hO @Int.natCast_zero) ?_ ?_
    ·have hside:(Ag.ok ⟨a,wd,ea,ec,xs,l,ao2,c2,us,ts⟩) W2 (Out bs2)/\0<us.length:=⟨hqo,oM⟩
     first|exact⟨hside,dE,λ_ h=>h.elim⟩|exact⟨⟨hside,dE,λ_ h=>h.elim⟩,aL n0⟩
    refine wE ?_;clear hO;have hE2:br a wd ts (cB l)=.ok (.lens (.mk a wd (some n0) ⟨#[]⟩ .nil .nil .nil)):=by
     rw[br,if_neg nw1,if_neg nw2,if_neg nw3,if_neg nw4,if_pos ho1];simp only[cc,hN0]
    rw[hE2,cV];refine vR Γ0 aU ?_;refine Wp.cS 288 (ev aU) (λE=>by simp only[ai,den];exact rfl) λW3 bs3 b3 hx3 hb3 hn3 hc3=>?_
    refine wZ aU ?_;have hb:bF (af w S fp) bs3 b3:=⟨u2 b3 hn3,hb3⟩
    exact eA (λE=>rfl) ⟨_,rfl,rH (n:=some n0) hb hc3 .nil .nil .nil⟩ rfl (by simp only[iO,Op.operands,Value.cells,σ0,σB,Nat.reduceEqDiff,Nat.reduceAdd,Nat.reduceMul,Nat.reduceLT,Nat.reduceLeDiff,Nat.reduceBEq,av,Int.reduceToNat,Int.reduceLT,Int.reduceLE,Nat.reduceDiv,Nat.reduceMod,Nat.reduceSub,Int.reducePow,Nat.reducePow,σP,σB3,aU,aq,eP,cL,cj]<;>rfl) dE
  have na4:¬ wd=jt:=qV hc;refine vr Γ0 aU ?_;refine wC aU (λhc=>?_) (λhc=>?_)
  ·have ho:wd=Aa:=qW hc;have ho1:wd=jt\/wd=Aa:=.inr ho;refine wE ?_;have hul:us.length=1:=by rw[hul,ho];decide
   cases hN0:KQ ts (cB l) 0 with
   | error e=>
    obtain⟨c,j⟩:=e;have hE2:br a wd ts (cB l)=.error (c,j):=by
     rw[br,if_neg nw1,if_neg nw2,if_neg nw3,if_neg nw4,if_pos ho1];simp only[cc,hN0]
    rw[hE2,aH];have hO:=oN (q:=⟨a,wd,ea,ec,xs,l,ao2,c2,us,ts⟩) hN0;refine Wp.bn (fZ ⟨a,wd,ea,ec,xs,l,ao2,c2,us,ts⟩ 0) aM (ev (bw aU hO @Int.natCast_zero)) ?_ ?_
    ·exact⟨⟨hqo,by show 0<us.length;omega⟩,dE,λ_ h=>h.elim⟩
    refine qq ?_;exact⟨_,rfl⟩
   | ok n0=>
    have hO:=oO (q:=⟨a,wd,ea,ec,xs,l,ao2,c2,us,ts⟩) hN0;refine wR (fZ ⟨a,wd,ea,ec,xs,l,ao2,c2,us,ts⟩ 0) (bw aU hO @Int.natCast_zero) ?_ ?_
    ·have hside:(Ag.ok ⟨a,wd,ea,ec,xs,l,ao2,c2,us,ts⟩) W2 (Out bs2)/\0<us.length:=⟨hqo,oM⟩
     first|exact⟨hside,dE,λ_ h=>h.elim⟩|exact⟨⟨hside,dE,λ_ h=>h.elim⟩,aL n0⟩
    refine wE ?_;clear hO;have hE2:br a wd ts (cB l)=.ok (.lens (.mk a wd (some n0) ⟨#[]⟩ .nil .nil .nil)):=by
     rw[br,if_neg nw1,if_neg nw2,if_neg nw3,if_neg nw4,if_pos ho1];simp only[cc,hN0]
    rw[hE2,cV];refine vR Γ0 aU ?_;refine Wp.cS 288 (ev aU) (λE=>by simp only[ai,den];exact rfl) λW3 bs3 b3 hx3 hb3 hn3 hc3=>?_
    refine wZ aU ?_;have hb:bF (af w S fp) bs3 b3:=⟨u2 b3 hn3,hb3⟩
    exact eA (λE=>rfl) ⟨_,rfl,rH (n:=some n0) hb hc3 .nil .nil .nil⟩ rfl (by simp only[iO,Op.operands,Value.cells,σ0,σB,Nat.reduceEqDiff,Nat.reduceAdd,Nat.reduceMul,Nat.reduceLT,Nat.reduceLeDiff,Nat.reduceBEq,av,Int.reduceToNat,Int.reduceLT,Int.reduceLE,Nat.reduceDiv,Nat.reduceMod,Nat.reduceSub,Int.reducePow,Nat.reducePow,σP,σB3,aU,aq,eP,cL,cj]<;>rfl) dE
  have nw5:¬ (wd=jt\/wd=Aa):=λh=>h.elim na4 (qV hc)
  refine wK ?_;refine Wp.seq ?_;refine vR Γ0 aU ?_;refine wC aU (λhc=>?_) (λhc=>?_)
  ·have ho:wd=vJ:=qW hc;refine wE ?_;refine Wp.seq ?_;have hul:us.length=2:=by rw[hul,ho];decide
   cases hN0:Nc ts (cB l) 0 with
   | error e=>
    obtain⟨c,j⟩:=e;have hE2:br a wd ts (cB l)=.error (c,j):=by
     rw[br,if_neg nw1,if_neg nw2,if_neg nw3,if_neg nw4,if_neg nw5,if_pos ho];simp only[cc,hN0]
    rw[hE2,aH];have hO:=EY (q:=⟨a,wd,ea,ec,xs,l,ao2,c2,us,ts⟩) hN0;refine Wp.bn (fZ ⟨a,wd,ea,ec,xs,l,ao2,c2,us,ts⟩ 0) aM (ev (bw aU hO @Int.natCast_zero)) ?_ ?_
    ·exact⟨⟨hqo,by show 0<us.length;omega⟩,dE,λ_ h=>h.elim⟩
    refine qq ?_;exact⟨_,rfl⟩
   | ok n0=>
    obtain⟨p0,hO,hP0⟩:=EZ (q:=⟨a,wd,ea,ec,xs,l,ao2,c2,us,ts⟩) hq hN0;refine wR (fZ ⟨a,wd,ea,ec,xs,l,ao2,c2,us,ts⟩ 0) (fJ aU hO hP0.parts @Int.natCast_zero) ?_ ?_
    ·have hside:(Ag.ok ⟨a,wd,ea,ec,xs,l,ao2,c2,us,ts⟩) W2 (Out bs2)/\0<us.length:=⟨hqo,oM⟩
     first|exact⟨hside,dE,λ_ h=>h.elim⟩|exact⟨⟨hside,dE,λ_ h=>h.elim⟩,hP0.one⟩
    clear hO;cases hN1:Jr ts (cB l) 1 with
    | error e=>
     obtain⟨c,j⟩:=e;have hE2:br a wd ts (cB l)=.error (c,j):=by
      rw[br,if_neg nw1,if_neg nw2,if_neg nw3,if_neg nw4,if_neg nw5,if_pos ho];simp only[cc,hN0,hN1]
     rw[hE2,aH];have hO:=BF (q:=⟨a,wd,ea,ec,xs,l,ao2,c2,us,ts⟩) hN1;refine Wp.dF (fZ ⟨a,wd,ea,ec,xs,l,ao2,c2,us,ts⟩ 1) aM (ev (bw aU hO @Int.natCast_zero)) ?_ ?_
     ·exact⟨⟨hqo,by show 1<us.length;omega⟩,dE,λ_ h=>h.elim⟩
     refine qq ?_;exact⟨_,rfl⟩
    | ok n1=>
     obtain⟨p1,hO,hP1⟩:=BG (q:=⟨a,wd,ea,ec,xs,l,ao2,c2,us,ts⟩) hq hN1;refine wr (fZ ⟨a,wd,ea,ec,xs,l,ao2,c2,us,ts⟩ 1) (fJ aU hO hP1.parts @Int.natCast_zero) ?_ ?_
     ·have hside:(Ag.ok ⟨a,wd,ea,ec,xs,l,ao2,c2,us,ts⟩) W2 (Out bs2)/\1<us.length:=⟨hqo,oM⟩
      first|exact⟨hside,dE,λ_ h=>h.elim⟩|exact⟨⟨hside,dE,λ_ h=>h.elim⟩,hP1.one⟩
     refine wE ?_;clear hO;have hE2:br a wd ts (cB l)=.ok (.lens (.mk a wd none ⟨#[]⟩ n0 n1 .nil)):=by
      rw[br,if_neg nw1,if_neg nw2,if_neg nw3,if_neg nw4,if_neg nw5,if_pos ho];simp only[cc,hN0,hN1]
     rw[hE2,cV];refine vR Γ0 aU ?_;refine Wp.cS 288 (ev aU) (λE=>by simp only[ai,den];exact rfl) λW3 bs3 b3 hx3 hb3 hn3 hc3=>?_
     refine wZ aU ?_;have hb:bF (af w S fp) bs3 b3:=⟨u2 b3 hn3,hb3⟩
     exact eA (λE=>rfl) ⟨_,rfl,rH (n:=none) hb hc3 (hP0.mono hx3.dW) (hP1.mono hx3.dW) .nil⟩ rfl (by simp only[iO,Op.operands,Value.cells,σ0,σB,Nat.reduceEqDiff,Nat.reduceAdd,Nat.reduceMul,Nat.reduceLT,Nat.reduceLeDiff,Nat.reduceBEq,av,Int.reduceToNat,Int.reduceLT,Int.reduceLE,Nat.reduceDiv,Nat.reduceMod,Nat.reduceSub,Int.reducePow,Nat.reducePow,σP,σB3,aU,aq,eP,cL,cj]<;>rfl) dE
  have nw6:¬ wd=vJ:=qV hc;refine wK ?_;refine Wp.seq ?_;refine vR Γ0 aU ?_;refine wC aU (λhc=>?_) (λhc=>?_)
  ·have ho:wd=pH:=qW hc;refine wE ?_;refine Wp.seq ?_;have hul:us.length=2:=by rw[hul,ho];decide
   cases hN0:Jr ts (cB l) 0 with
   | error e=>
    obtain⟨c,j⟩:=e;have hE2:br a wd ts (cB l)=.error (c,j):=by
     rw[br,if_neg nw1,if_neg nw2,if_neg nw3,if_neg nw4,if_neg nw5,if_neg nw6,if_pos ho];simp only[cc,hN0]
    rw[hE2,aH];have hO:=BF (q:=⟨a,wd,ea,ec,xs,l,ao2,c2,us,ts⟩) hN0;refine Wp.bn (fZ ⟨a,wd,ea,ec,xs,l,ao2,c2,us,ts⟩ 0) aM (ev (bw aU hO @Int.natCast_zero)) ?_ ?_
    ·exact⟨⟨hqo,by show 0<us.length;omega⟩,dE,λ_ h=>h.elim⟩
    refine qq ?_;exact⟨_,rfl⟩
   | ok n0=>
    obtain⟨p0,hO,hP0⟩:=BG (q:=⟨a,wd,ea,ec,xs,l,ao2,c2,us,ts⟩) hq hN0;refine wR (fZ ⟨a,wd,ea,ec,xs,l,ao2,c2,us,ts⟩ 0) (fJ aU hO hP0.parts @Int.natCast_zero) ?_ ?_
    ·have hside:(Ag.ok ⟨a,wd,ea,ec,xs,l,ao2,c2,us,ts⟩) W2 (Out bs2)/\0<us.length:=⟨hqo,oM⟩
     first|exact⟨hside,dE,λ_ h=>h.elim⟩|exact⟨⟨hside,dE,λ_ h=>h.elim⟩,hP0.one⟩
    clear hO;cases hN1:Nc ts (cB l) 1 with
    | error e=>
     obtain⟨c,j⟩:=e;have hE2:br a wd ts (cB l)=.error (c,j):=by
      rw[br,if_neg nw1,if_neg nw2,if_neg nw3,if_neg nw4,if_neg nw5,if_neg nw6,if_pos ho];simp only[cc,hN0,hN1]
     rw[hE2,aH];have hO:=EY (q:=⟨a,wd,ea,ec,xs,l,ao2,c2,us,ts⟩) hN1;refine Wp.dF (fZ ⟨a,wd,ea,ec,xs,l,ao2,c2,us,ts⟩ 1) aM (ev (bw aU hO @Int.natCast_zero)) ?_ ?_
     ·exact⟨⟨hqo,by show 1<us.length;omega⟩,dE,λ_ h=>h.elim⟩
     refine qq ?_;exact⟨_,rfl⟩
    | ok n1=>
     obtain⟨p1,hO,hP1⟩:=EZ (q:=⟨a,wd,ea,ec,xs,l,ao2,c2,us,ts⟩) hq hN1;refine wr (fZ ⟨a,wd,ea,ec,xs,l,ao2,c2,us,ts⟩ 1) (fJ aU hO hP1.parts @Int.natCast_zero) ?_ ?_
     ·have hside:(Ag.ok ⟨a,wd,ea,ec,xs,l,ao2,c2,us,ts⟩) W2 (Out bs2)/\1<us.length:=⟨hqo,oM⟩
      first|exact⟨hside,dE,λ_ h=>h.elim⟩|exact⟨⟨hside,dE,λ_ h=>h.elim⟩,hP1.one⟩
     refine wE ?_;clear hO;have hE2:br a wd ts (cB l)=.ok (.lens (.mk a wd none ⟨#[]⟩ n1 n0 .nil)):=by
      rw[br,if_neg nw1,if_neg nw2,if_neg nw3,if_neg nw4,if_neg nw5,if_neg nw6,if_pos ho];simp only[cc,hN0,hN1]
     rw[hE2,cV];refine vR Γ0 aU ?_;refine Wp.cS 288 (ev aU) (λE=>by simp only[ai,den];exact rfl) λW3 bs3 b3 hx3 hb3 hn3 hc3=>?_
     refine wZ aU ?_;have hb:bF (af w S fp) bs3 b3:=⟨u2 b3 hn3,hb3⟩
     exact eA (λE=>rfl) ⟨_,rfl,rH (n:=none) hb hc3 (hP1.mono hx3.dW) (hP0.mono hx3.dW) .nil⟩ rfl (by simp only[iO,Op.operands,Value.cells,σ0,σB,Nat.reduceEqDiff,Nat.reduceAdd,Nat.reduceMul,Nat.reduceLT,Nat.reduceLeDiff,Nat.reduceBEq,av,Int.reduceToNat,Int.reduceLT,Int.reduceLE,Nat.reduceDiv,Nat.reduceMod,Nat.reduceSub,Int.reducePow,Nat.reducePow,σP,σB3,aU,aq,eP,cL,cj]<;>rfl) dE
  have nw7:¬ wd=pH:=qV hc;refine wK ?_;refine vR Γ0 aU ?_;refine wC aU (λhc=>?_) (λhc=>?_)
  ·have ho:wd=vn:=qW hc;refine wE ?_;refine Wp.seq ?_;have hul:us.length=2:=by rw[hul,ho];decide
   cases hN0:Jr ts (cB l) 0 with
   | error e=>
    obtain⟨c,j⟩:=e;have hE2:br a wd ts (cB l)=.error (c,j):=by
     rw[br,if_neg nw1,if_neg nw2,if_neg nw3,if_neg nw4,if_neg nw5,if_neg nw6,if_neg nw7,if_pos ho];simp only[cc,hN0]
    rw[hE2,aH];have hO:=BF (q:=⟨a,wd,ea,ec,xs,l,ao2,c2,us,ts⟩) hN0;refine Wp.bn (fZ ⟨a,wd,ea,ec,xs,l,ao2,c2,us,ts⟩ 0) aM (ev (bw aU hO @Int.natCast_zero)) ?_ ?_
    ·exact⟨⟨hqo,by show 0<us.length;omega⟩,dE,λ_ h=>h.elim⟩
    refine qq ?_;exact⟨_,rfl⟩
   | ok n0=>
    obtain⟨p0,hO,hP0⟩:=BG (q:=⟨a,wd,ea,ec,xs,l,ao2,c2,us,ts⟩) hq hN0;refine wR (fZ ⟨a,wd,ea,ec,xs,l,ao2,c2,us,ts⟩ 0) (fJ aU hO hP0.parts @Int.natCast_zero) ?_ ?_
    ·have hside:(Ag.ok ⟨a,wd,ea,ec,xs,l,ao2,c2,us,ts⟩) W2 (Out bs2)/\0<us.length:=⟨hqo,oM⟩
     first|exact⟨hside,dE,λ_ h=>h.elim⟩|exact⟨⟨hside,dE,λ_ h=>h.elim⟩,hP0.one⟩
    clear hO;cases hN1:EI ts (cB l) 1 with
    | error e=>
     obtain⟨c,j⟩:=e;have hE2:br a wd ts (cB l)=.error (c,j):=by
      rw[br,if_neg nw1,if_neg nw2,if_neg nw3,if_neg nw4,if_neg nw5,if_neg nw6,if_neg nw7,if_pos ho];simp only[cc,hN0,hN1]
     rw[hE2,aH];have hO:=r9 (q:=⟨a,wd,ea,ec,xs,l,ao2,c2,us,ts⟩) hN1;refine Wp.dF (fZ ⟨a,wd,ea,ec,xs,l,ao2,c2,us,ts⟩ 1) aM (ev (bw aU hO @Int.natCast_zero)) ?_ ?_
     ·exact⟨⟨hqo,by show 1<us.length;omega⟩,dE,λ_ h=>h.elim⟩
     refine qq ?_;exact⟨_,rfl⟩
    | ok n1=>
     have hO:=sa (q:=⟨a,wd,ea,ec,xs,l,ao2,c2,us,ts⟩) hN1;refine wr (fZ ⟨a,wd,ea,ec,xs,l,ao2,c2,us,ts⟩ 1) (bw aU hO @Int.natCast_zero) ?_ ?_
     ·have hside:(Ag.ok ⟨a,wd,ea,ec,xs,l,ao2,c2,us,ts⟩) W2 (Out bs2)/\1<us.length:=⟨hqo,oM⟩
      first|exact⟨hside,dE,λ_ h=>h.elim⟩|exact⟨⟨hside,dE,λ_ h=>h.elim⟩,rfl⟩
     refine wE ?_;clear hO;have hE2:br a wd ts (cB l)=.ok (.lens (.mk a wd none n1 .nil n0 .nil)):=by
      rw[br,if_neg nw1,if_neg nw2,if_neg nw3,if_neg nw4,if_neg nw5,if_neg nw6,if_neg nw7,if_pos ho];simp only[cc,hN0,hN1]
     rw[hE2,cV];refine vR Γ0 aU ?_;refine Wp.cS 288 (ev aU) (λE=>by simp only[ai,den];exact rfl) λW3 bs3 b3 hx3 hb3 hn3 hc3=>?_
     refine wZ aU ?_;have hb:bF (af w S fp) bs3 b3:=⟨u2 b3 hn3,hb3⟩
     exact eA (λE=>rfl) ⟨_,rfl,rH (n:=none) hb hc3 .nil (hP0.mono hx3.dW) .nil⟩ rfl (by simp only[iO,Op.operands,Value.cells,σ0,σB,Nat.reduceEqDiff,Nat.reduceAdd,Nat.reduceMul,Nat.reduceLT,Nat.reduceLeDiff,Nat.reduceBEq,av,Int.reduceToNat,Int.reduceLT,Int.reduceLE,Nat.reduceDiv,Nat.reduceMod,Nat.reduceSub,Int.reducePow,Nat.reducePow,σP,σB3,aU,aq,eP,cL,cj]<;>rfl) dE
  have nw8:¬ wd=vn:=qV hc;refine wK ?_;exfalso;rcases Rh hx3 with (((h|h)|h)|h|h)|((h|h)|h|h)|h
  ·exact nw5 (.inl h)
  ·exact nw5 (.inr h)
  ·exact nw4 h
  ·exact nw1 (.inl h)
  ·exact nw1 (.inr h)
  ·exact nw3 h
  ·exact nw6 h
  ·exact nw7 h
  ·exact nw8 h
  ·exact nw2 h
section
variable (t:Tm)
noncomputable def amk:Env Tryz.prog:=⟨λ| 58=>some (FL (dT t+1) (CC _)).spec|_=>none,λ_=>none,λ_ _=>none⟩
theorem agU:(amk t).sp 58=some (FL (dT t+1) (CC _)).spec:=rfl
end
def adL:=(ae @List.replicate_succ.{0} @List.replicate_zero.{0} @au @ab kQ kS kU (ae dc dd de df dv dw dz (ae dA eB eC eD eE eF eG (ae n8 oa ob oc uK uL uM (ae uN uO uP uQ uR uS uT (ae jH jI jJ jK jL nN nO (ae nP nQ nR Ip Iq Ir Is (ae It QF QG QH Iu Iv Iw (ae Ix Iy QQ QR iA iB iC (ae iD aiI aiJ pR pS pT pU (ae pV pW pX pY pZ nS nT (ae nU nV nW nX nY nZ n7 (ae mi mj ml mm mn mq mr (ae mu mv mw my mz mA mB (ae mC mD mE mF mG ID IE (ae IF IG IH II IJ IK IL (ae IM IN IP IQ IS IT IU (ae IV IW IX IY IZ I0 I1 (ae I2 I3 I4 I5 I6 I7 I8 (ae I9 Ja Jb Jc Jd Je Jf (ae Jg C4 C5 C6 C7 C8 C9 (ae Da Db Dc Dd De Df Dg (ae Dh Di Dj Dk Dl Dm Dn (ae Dp yN yO yP yQ yR yS (ae yT yU yV yW @aV @aw @aD (fJ @aG @agU @FM @FN))))))))))))))))))))))))))
theorem Qb(t:Tm)(v:Value)(w:World)(hv:eS w (Out []) v t)(hs:cq t<=fY):Calls Tryz.prog 24 #[v] w λe w' => e=.returned (.int .i64 (cq t))/\an w [] w' := by
 have hD:qY w v=t:=cl hv;refine ak (nt:=5) [.tmp 2] Tryz.func24 rfl rfl rfl ?_;refine vR Γ0 adL ?_;refine wR (amk t) (aa adL hD) ?_ ?_
 ·exact⟨t,hv,Nat.lt_succ_self _,hs⟩
 refine wZ adL ?_;exact λE=>rfl
noncomputable def nz:a7 Tryz.prog 24 where
 pre:=λW bs as_=>∃ v t,as_=[.val v]/\eS W (Out bs) v t/\cq t<=fY
 res:=λW as_=>match as_ with
  |[.val v]=>.int .i64 (cq (qY W v))
  |_=>undef
 enters:=Tryz.call24
 ok:=by
  intro W w bs us as_ hk hu hp;obtain⟨v,t,rfl,h1,h2⟩:=hp
  match us,hu with
  |[x],hu=>
   obtain⟨rfl,_⟩:=hu;simp only[cl h1];exact Qb t x w (h1.mono λb hb hn=>⟨hk.block b hb hn,by simp[Out]⟩) h2
theorem nA(W:World)(bs:List Nat)(v:Value):nz.pre W bs [.val v]=∃ t,eS W (Out bs) v t/\cq t<=fY:=by
 apply propext;constructor
 ·rintro⟨v',t,h1,h2⟩;cases h1;exact⟨t,h2⟩
 ·exact λ⟨t,h2⟩=>⟨v,t,rfl,h2⟩
theorem nB(W:World)(v:Value):nz.res W [.val v]=.int .i64 (cq (qY W v)):=rfl
def DS(a:Nat)(op:ByteArray)(ea:Value)(t:Tm):lQ Tryz.prog 103 where
 kinds:=[none,some (Sh.one,tmF t)]
 pre:=λas_ _ _=>(∃ y,as_=[.val (.agg #[.int .i64 (a:Nat),.string op,ea]),y])/\ea.oneCell' = true/\Wq t
 premono:=λ_ _ _ _ _ _ h=>h
 out:=λ_=>K8 (Gh a op t)
 enters:=Tryz.call103
 ok:=by
  intro w S us as_ hu hp;obtain⟨⟨y,rfl⟩,h1,h2⟩:=hp
  match us,hu with
  |[p,q],hu=>
   obtain⟨rfl,⟨cs,rfl,hΦ⟩,_⟩:=hu;obtain⟨v,rfl,hv⟩:=hΦ;rw[td hv.hv];exact WZ a op ea t v w S h1 hv h2
theorem DT(a:Nat)(op:ByteArray)(ea:Value)(t:Tm)(l:List AV):(DS a op ea t).out l=K8 (Gh a op t):=rfl
theorem xi(a:Nat)(op:ByteArray)(ea:Value)(t:Tm):(DS a op ea t).kinds=[none,some (Sh.one,tmF t)]:=rfl
theorem DU(a:Nat)(op:ByteArray)(ea:Value)(t:Tm)(y:AV)(W:World)(S:Nat->Prop):(DS a op ea t).pre [.val (.agg #[.int .i64 (a:Nat),.string op,ea]),y] W S=(ea.oneCell' = true/\Wq t):=by
 apply propext;exact⟨λh=>h.2,λh=>⟨⟨y,rfl⟩,h⟩⟩
def vf(a:Nat)(op:ByteArray)(ea eb:Value)(t u:Tm)(v:Value):lQ Tryz.prog 104 where
 kinds:=[none,none,some (Sh.one,tmF u)]
 pre:=λas_ W S=>(∃ y,as_=[.val (.agg #[.int .i64 (a:Nat),.string op,ea,eb]),.val v,y])/\(ea.oneCell' = true/\eb.oneCell' = true)/\eS W S v t/\Wq t/\Wq u
 premono:=λ_ _ _ _ _ hs h=>⟨h.1,h.2.1,h.2.2.1.mono hs,h.2.2.2⟩
 out:=λ_=>K8 (X0 a op t u)
 enters:=Tryz.call104
 ok:=by
  intro w S us as_ hu hp;obtain⟨⟨y,rfl⟩,⟨h1,h2⟩,h3,h4,h5⟩:=hp
  match us,hu with
  |[p,q,r],hu=>
   obtain⟨rfl,rfl,⟨cs,rfl,hΦ⟩,_⟩:=hu;obtain⟨v',rfl,hv'⟩:=hΦ;rw[td hv'.hv];exact Ny a op ea eb t u q v' w S h1 h2 h3 h4 hv' h5
theorem zf(a:Nat)(op:ByteArray)(ea eb:Value)(t u:Tm)(v:Value)(l:List AV):(vf a op ea eb t u v).out l=K8 (X0 a op t u):=rfl
theorem tL(a:Nat)(op:ByteArray)(ea eb:Value)(t u:Tm)(v:Value):(vf a op ea eb t u v).kinds=[none,none,some (Sh.one,tmF u)]:=rfl
theorem zg(a:Nat)(op:ByteArray)(ea eb:Value)(t u:Tm)(v:Value)(y:AV)(W:World)(S:Nat->Prop):(vf a op ea eb t u v).pre [.val (.agg #[.int .i64 (a:Nat),.string op,ea,eb]),.val v,y] W S=((ea.oneCell' = true/\eb.oneCell' = true)/\eS W S v t/\Wq t/\Wq u):=by
 apply propext;exact⟨λh=>h.2,λh=>⟨⟨y,rfl⟩,h⟩⟩
def ye(v:En)(a:Nat)(wd:ByteArray)(l:Ex)(h:XD v l)(vs:List Value)(ea:Option Addr)(ec:Nat)(xs:List Value):EO Tryz.prog 105 where
 T:=132
 kinds:=[none]
 pre:=λfs bs_ W S=>(fs=mkF vs v/\bs_=[.val (.agg #[.int .i64 (a:Nat),.string wd,.slice ea xs.length ec])])/\(vt v/\AI W S vs v)/\(cw (.call a wd l)/\xs.length<=ec)/\jN W S ea xs/\oh W S false xs l/\bh W S
 premono:=λfs bs_ W S W' S' hs ⟨h1,⟨h2,h3⟩,h4,h5,h6,h7⟩=>⟨h1,⟨h2,eT.mono hs h3⟩,h4,h5.mono hs,h6.mono hs,h7.mono hs⟩
 out:=λ_ _=>Hm vs v (ri v a wd l)
 enters:=Tryz.call105
 ok:=by
  intro w S u ys fp us fs bs_ ho hlt hS hu hp;obtain⟨⟨rfl,rfl⟩,h2,⟨h3,h4⟩,h5,h6,h7⟩:=hp;obtain⟨uh,rfl⟩:=Fx ho
  match us,hu with
  |[x],hu=>
   obtain⟨rfl,_⟩:=hu;have:=U6 v a wd l h vs ea ec xs u uh fp w S h2 h3 h5 h4 h6 h7 ho hlt hS;simpa using this
theorem BN(v:En)(a:Nat)(wd:ByteArray)(l:Ex)(h:XD v l)(vs:List Value)(ea:Option Addr)(ec:Nat)(xs:List Value)(fs bs_:List AV):(ye v a wd l h vs ea ec xs).out fs bs_=Hm vs v (ri v a wd l):=rfl
theorem KL(v:En)(a:Nat)(wd:ByteArray)(l:Ex)(h:XD v l)(vs:List Value)(ea:Option Addr)(ec:Nat)(xs:List Value):(ye v a wd l h vs ea ec xs).T=132:=rfl
theorem vQ(v:En)(a:Nat)(wd:ByteArray)(l:Ex)(h:XD v l)(vs:List Value)(ea:Option Addr)(ec:Nat)(xs:List Value):(ye v a wd l h vs ea ec xs).kinds=[none]:=rfl
theorem BO(v:En)(a:Nat)(wd:ByteArray)(l:Ex)(h:XD v l)(vs:List Value)(ea:Option Addr)(ec:Nat)(xs:List Value)(W:World)(S:Nat->Prop):(ye v a wd l h vs ea ec xs).pre [.mp (rI v) vs] [.val (.agg #[.int .i64 (a:Nat),.string wd,.slice ea xs.length ec])] W S=((vt v/\AI W S vs v)/\(cw (.call a wd l)/\xs.length<=ec)/\jN W S ea xs/\oh W S false xs l/\bh W S):=by
 apply propext;exact⟨λh=>h.2,λh=>⟨⟨rfl,rfl⟩,h⟩⟩
def Sh.con(v:Value):Sh:=⟨λ_=>.v v,λ_ _=>rfl,λk j hj=>by simp[SV.keys]at hj⟩
def Sh.nr(T:TypeId):Sh:=⟨λk=>.nr T (.part k 0),λ_ _=>rfl,λk j hj=>by simpa [SV.keys] using hj⟩
def anf:Tm->Sh
 |.text a s=>Sh.con (.iface 190 (.agg #[.int .i64 (a:Nat),.string s]))
 |.rx a r=>Sh.con (.iface 192 (.agg #[.int .i64 (a:Nat),ax r]))
 |.canon _=>Sh.nr 193
 |.lens _=>Sh.nr 197
def tmG(t:Tm):FK:=⟨λcs W S=>match t with
  |.text _ _=>cs=[]
  |.rx _ _=>cs=[]
  |.canon c=>∃ p,cs=[p]/\An W S p c
  |.lens l=>∃ p,cs=[p]/\y7 W S p l,λ{cs W S W' S'} hs h=>by
 cases t with
 |text _ _=>exact h
 |rx _ _=>exact h
 |canon c=>obtain⟨p,h1,h2⟩:=h;exact⟨p,h1,h2.mono hs⟩
 |lens l=>obtain⟨p,h1,h2⟩:=h;exact⟨p,h1,h2.mono hs⟩⟩
def zG(vs:List Value)(v:En):TE->FOut
 |.ok t=>.fact (anf t) (tmG t)
 |.error (c,a)=>.pan (bb c a) .nilIface
theorem BZ(vs:List Value)(v:En)(a:Nat)(s:ByteArray):zG vs v (.ok (.text a s))=.fact (Sh.con (.iface 190 (.agg #[.int .i64 (a:Nat),.string s]))) (tmG (.text a s)):=rfl
theorem K4(vs:List Value)(v:En)(a:Nat)(r:Rx):zG vs v (.ok (.rx a r))=.fact (Sh.con (.iface 192 (.agg #[.int .i64 (a:Nat),ax r]))) (tmG (.rx a r)):=rfl
theorem zH(vs:List Value)(v:En)(c:Cn):zG vs v (.ok (.canon c))=.fact (Sh.nr 193) (tmG (.canon c)):=rfl
theorem BY(vs:List Value)(v:En)(l:Ln):zG vs v (.ok (.lens l))=.fact (Sh.nr 197) (tmG (.lens l)):=rfl
theorem zI(vs:List Value)(v:En)(c a:Int):zG vs v (.error (c,a))=.pan (bb c a) .nilIface:=rfl
theorem LX(v:Value)(k:Nat):(Sh.con v).tm k=.v v:=rfl
theorem LY(T:TypeId)(k:Nat):(Sh.nr T).tm k=.nr T (.part k 0):=rfl
theorem An.hv{W:World}{S:Nat->Prop}{v:Value}{c:Cn}(h:An W S v c):LE.hv v=v:=fE h.one
theorem y7.hv{W:World}{S:Nat->Prop}{v:Value}{c:Ln}(h:y7 W S v c):LE.hv v=v:=fE h.one
theorem aeh{w:World}{S:Nat->Prop}{u:Value}{us:List Value}{fp:List Nat}{T:TypeId}{fs:List AV}{e:Ending}{w' : World}{vs:List Value}{v:En}{r:TE}(h:Bo w S u us fp T fs e w' (Hm vs v r)):Bo w S u us fp T fs e w' (zG vs v r):=by
 cases r with
 |error e=>exact h
 | ok t=>
  obtain⟨cs,h1,h2,h5,h6⟩:=h;obtain⟨x,rfl,hx⟩:=h5;rw[td hx.hv]at h1;cases t with
  |text a s=>exact⟨[],by rw[h1,show x=_ from hx];rfl,h2,rfl,h6⟩
  |rx a s=>exact⟨[],by rw[h1,show x=_ from hx];rfl,h2,rfl,h6⟩
  |canon c=>
   obtain⟨p,rfl,hp⟩:=hx;refine⟨[p],?_,h2,⟨p,rfl,hp⟩,h6⟩;rw[h1];show _=Ending.returned (.iface 193 (LE.hv p));rw[hp.hv]
  |lens c=>
   obtain⟨p,rfl,hp⟩:=hx;refine⟨[p],?_,h2,⟨p,rfl,hp⟩,h6⟩;rw[h1];show _=Ending.returned (.iface 197 (LE.hv p));rw[hp.hv]
def Va(v:En)(x:Ex)(h:xt v x)(vs:List Value):EO Tryz.prog 65 where
 T:=132
 kinds:=[none]
 pre:=λfs bs_ W S=>(uy v x h vs).pre fs bs_ W S
 premono:=λfs bs_ W S W' S' hs=>(uy v x h vs).premono fs bs_ W S W' S' hs
 out:=λ_ _=>zG vs v (aP v x)
 enters:=Tryz.call65
 ok:=λw S u ys fp us fs bs_ ho hlt hS hu hp=>((uy v x h vs).ok w S u ys fp us fs bs_ ho hlt hS hu hp).mono λe w' h=>aeh h
theorem KN(v:En)(x:Ex)(h:xt v x)(vs:List Value)(fs bs_:List AV):(Va v x h vs).out fs bs_=zG vs v (aP v x):=rfl
theorem ZD(v:En)(x:Ex)(h:xt v x)(vs:List Value):(Va v x h vs).T=132:=rfl
theorem BR(v:En)(x:Ex)(h:xt v x)(vs:List Value):(Va v x h vs).kinds=[none]:=rfl
theorem KO(v:En)(x:Ex)(h:xt v x)(vs:List Value)(e:Value)(W:World)(S:Nat->Prop):(Va v x h vs).pre [.mp (rI v) vs] [.val e] W S=(AJ W S e x/\(vt v/\AI W S vs v)/\cw x/\bh W S):=sb v x h vs e W S
theorem CK(s:ByteArray):∀ k,bR (qO s k)=max 1 (2*k-1)
 |0=>rfl
 |1=>rfl
 |k+2=>by
  have ih:=CK s (k+1);show bR (qO s (k+1))+1+1=_;omega
theorem u7{t:Tm}{n:Rx}(h:xF t=some n):bR n<=cq t:=by
 cases t with
 |text a s=>
  cases h;have:=CK s s.size;show bR (qO s s.size)<=mU s;unfold mU;omega
 |rx a r=>
  cases h;exact Nat.le_refl _
 |canon c=>cases h
 |lens l=>cases h
theorem af0{a:Nat}{op:ByteArray}{t u:Tm}(hs:cq t<=8192)(h:Gh a op t=.ok u):cq u<=fY:=by
 have c1:ed .nil=0:=rfl;have l1:iz .nil=0:=rfl;have e1:¬ gA=jz:=by decide
 have e2:¬ gA=lY:=by decide
 have e3:¬ xM=lY:=by decide
 have e4:¬ xC=lY:=by decide
 have e5:¬ jt=lY:=by decide
 unfold Gh at h;split at h
 ·rename_i n hn;cases h;have:=u7 hn;simp only[cq]
  repeat' split
  all_goals simp only[bR,fY]
  all_goals omega
 split at h
 ·split at h
  ·cases h;rename_i c _ _;have:ed c<=8192:=hs;simp only[cq,ed,dZ,if_neg e1,fY];omega
  ·cases h
 ·cases h;rename_i l _;have:iz l<=8192:=hs;simp only[cq]
  repeat' split
  all_goals simp only[iz,ed,dZ,if_neg e2,if_neg e3,if_neg e4,if_neg e5,bR,fY]
  all_goals omega
 ·cases h
theorem aj7(n:Nat):¬ Vp n=jz/\¬ Vp n=lY:=by
 unfold Vp;split<;>decide
theorem JQ{a:Nat}{op:ByteArray}{t u r:Tm}(hs:cq t<=8192)(hs' : cq u<=8192)(h:re a op t u=.ok r):cq r<=fY:=by
 obtain⟨o1,o2⟩:=aj7 (Hk op);unfold re at h;split at h
 ·split at h
  ·cases h;rename_i p q _;have h1:iz p<=8192:=hs;have h2:iz q<=8192:=hs';simp only[cq,iz,ed,dZ,if_neg o2,fY];omega
  ·cases h
 ·split at h
  ·cases h;rename_i p q _;have h1:ed p<=8192:=hs;have h2:ed q<=8192:=hs';simp only[cq,ed,dZ,if_neg o1,fY];omega
  ·cases h
 ·cases h
theorem adQ{a:Nat}{op:ByteArray}{t u r:Tm}(hs:cq t<=8192)(hs' : cq u<=8192)(h:X0 a op t u=.ok r):cq r<=fY:=by
 unfold X0 at h;split at h
 ·rename_i x y hx hy;have h1:=u7 hx;have h2:=u7 hy;split at h
  ·rename_i q hq;cases h;unfold V2 at hq
   repeat' split at hq
   all_goals first|(cases hq;done)|(cases hq;simp only[cq,bR,fY];omega)
  ·exact JQ hs hs' h
 ·exact JQ hs hs' h
theorem Zd{a:Nat}{t u:Tm}(hs:cq t<=8192)(h:G3 a t=.ok u):cq u<=fY:=by
 have e1:¬ iP=lY:=by decide
 cases t with
 |lens l=>
  cases h;have:iz l<=8192:=hs;simp only[cq,iz,ed,dZ,if_neg e1,fY];omega
 |_=>cases h
theorem TK{a:Nat}{w:ByteArray}{ts:List Tm}{ps:List Nat}{u:Tm}(hts:∀ t∈ts,Xw t)(h:br a w ts ps=.ok u):cq u<=fY:=by
 have nd:∀ {i n},KQ ts ps i=.ok n->bR n<=8192:=λ{i n} h=>by
  unfold KQ at h;split at h
  ·rename_i r hr;cases h;cases hi:ts[i]? with
   |none=>rw[hi]at hr;cases hr
   |some t=>
    rw[hi]at hr;have h1:=u7 hr;have h2:=(hts t (List.mem_of_getElem? hi)).2;omega
  ·cases h
 have tx:∀ {i s},EI ts ps i=.ok s->mU s<=8192:=λ{i s} h=>by
  unfold EI at h;split at h
  ·rename_i hi;cases h;exact (hts _ (List.mem_of_getElem? hi)).2
  ·cases h
 have cn:∀ {i c},Nc ts ps i=.ok c->ed c<=8192:=λ{i c} h=>by
  unfold Nc at h;split at h
  ·rename_i hi;cases h;exact (hts _ (List.mem_of_getElem? hi)).2
  ·cases h
 have ln:∀ {i l},Jr ts ps i=.ok l->iz l<=8192:=λ{i l} h=>by
  unfold Jr at h;split at h
  ·rename_i hi;cases h;exact (hts _ (List.mem_of_getElem? hi)).2
  ·cases h
 have z:mU ⟨#[]⟩=1:=rfl;unfold br at h
 repeat' split at h
 all_goals repeat (obtain⟨_,h9,h⟩:=cC h;first|have:=nd h9|have:=tx h9|have:=cn h9|have:=ln h9)
 all_goals
  cases h;simp only[cq,ed,iz,dZ,fY]
  repeat' split
  all_goals omega
theorem nL{P:Program}(T t:TypeId)(x:SV)(ok:Bool):ei P T ok [.nr t x]=aK T t x ok (isIface P T) (qZ P T):=by
 simp only[ei];unfold aK;rcases isIface P T with _|b
 ·rfl
 ·cases b<;>rcases qZ P T with _|z<;>first|rfl|(cases ok<;>rfl)
theorem yc(v:En)(a:Nat)(w:ByteArray)(l:Ex):aP v (.call a w l)=cc (ri v a w l) (lS a):=by
 simp only[aP,ri];cases ig v l<;>rfl
theorem pb{W:World}{S:Nat->Prop}{v:Value}{t:Tm}(h:eS W S v t):partsOf (.v v)=[.v v]:=by
 obtain⟨k,u,rfl⟩:=h.iface;rfl
theorem Be{W:World}{S:Nat->Prop}{s:ByteArray}{t:Tm}:∀ {v:En} {vs:List Value},AI W S vs v->Fo v s=some t->∃ u,BH (rI v) (vs.map SV.v) s=some (.v u)/\eS W S u t
 |[],vs,h,hl=>by cases hl
 |(k,t')::r,[],h,hl=>h.elim
 | (k,t')::r,u::us,⟨h1,h2⟩,hl=>by
  rw[Fo]at hl;simp only[rI,List.map_cons,BH];split at hl
  ·rename_i hk;cases hl;rw[if_pos hk];exact⟨u,rfl,h1⟩
  ·rename_i hk;rw[if_neg hk];exact Be (v:=r) h2 hl
theorem Bd{W:World}{S:Nat->Prop}{s:ByteArray}:∀ {v:En} {vs:List Value},AI W S vs v->Fo v s=none->BH (rI v) (vs.map SV.v) s=none
 |[],vs,h,hl=>by
  cases vs<;>rfl
 |(k,t')::r,[],h,hl=>h.elim
 | (k,t')::r,u::us,⟨h1,h2⟩,hl=>by
  rw[Fo]at hl;simp only[rI,List.map_cons,BH];split at hl
  ·cases hl
  ·rename_i hk;rw[if_neg hk];exact Bd (v:=r) h2 hl
theorem ZC:Hb Tryz.prog (Program.underlying Tryz.prog 130)=some 54:=kR
theorem ab5:qZ Tryz.prog 54=some .nilIface:=kR
section
variable (G:Nat->Prop)(v:En)(x y:Ex)(h:xt v x)(h' : xt v y)(vs:List Value)(a:Nat)(op:ByteArray)(ea eb:Value)(t u:Tm)(l:Ex)(hl:XD v l)(eo:Option Addr)(ec:Nat)(xs:List Value)(va:Value)
noncomputable def adf:Env Tryz.prog:=⟨λ| 65=>some ((uy v x h vs).spec G)|103=>some ((DS a op ea t).spec G)|_=>none,λ_=>none,λ_ _=>none⟩
theorem S4:(adf G v x h vs a op ea t).sp 65=some ((uy v x h vs).spec G):=rfl
theorem M5:(adf G v x h vs a op ea t).sp 103=some ((DS a op ea t).spec G):=rfl
noncomputable def Q8:Env Tryz.prog:=⟨λ| 65=>some ((uy v x h vs).spec G)|104=>some ((vf a op ea eb t u va).spec G)|_=>none,λ_=>none,λ_ _=>none⟩
theorem S5:(Q8 G v x h vs a op ea eb t u va).sp 65=some ((uy v x h vs).spec G):=rfl
theorem M6:(Q8 G v x h vs a op ea eb t u va).sp 104=some ((vf a op ea eb t u va).spec G):=rfl
noncomputable def EL:Env Tryz.prog:=⟨λ| 65=>some ((Va v x h vs).spec G)|64=>some (gZ.spec G)|_=>none,λ_=>none,λ_ _=>none⟩
theorem S7:(EL G v x h vs).sp 65=some ((Va v x h vs).spec G):=rfl
theorem S6:(EL G v x h vs).sp 64=some (gZ.spec G):=rfl
noncomputable def akT:Env Tryz.prog:=⟨λ| 105=>some ((ye v a op l hl vs eo ec xs).spec G)|_=>none,λ_=>none,λ_ _=>none⟩
theorem M7:(akT G v vs a op l hl eo ec xs).sp 105=some ((ye v a op l hl vs eo ec xs).spec G):=rfl
noncomputable def qD:Env Tryz.prog:=⟨λ| 24=>some nz.spec|64=>some (gZ.spec G)|71=>some Hq.spec|f=>spP f,λ| 39=>some qP|_=>none,ZN⟩
theorem S8:(qD G).sp 24=some nz.spec:=rfl
theorem S9:(qD G).sp 64=some (gZ.spec G):=rfl
theorem Ta:(qD G).sp 71=some Hq.spec:=rfl
theorem Gn:(qD G).eqs 39=some qP:=rfl
theorem xq{W:World}{bs:List Nat}{κ:Nat}{hh:Hp}{W0:World}{S0:Nat->Prop}{v:Value}{x:Ex}(h:AJ W0 S0 v x):aI (qD G) W bs κ hh "Place" [.v v]=⟨True,.v (.int .i64 (Uc x:Nat)),[],none,[],[]⟩:=
 Bu rfl (λf s hf=>by
  unfold spP at hf
  split at hf<;>cases hf<;>rfl) h
end
def dM:=(ae adL @nL @pA @kx @lE @lD @gr (ae @eR @aV @aw @aD @aG @vK @sW (ae @nq @vE @sY @pz @sX @cK @S4 (ae @M5 @S5 @M6 @S7 @S6 @M7 @S8 (ae @S9 @Ta @Gn @ua @sb @wI @Ik (ae @pP @KO @KN @ZD @BR @BO @BN (ae @KL @vQ @DU @DT @xi @zg @zf (ae @tL @cV @aH @BZ @K4 @zH @BY (ae @zI @Sb @B3 @LX @LY @mkF.eq_1 @cj (ae @vY @sR @eP @AA @b6 @aL @kh (ae @gZ.eq_1 @nA @nB @B6 @B5 @pK @lG (ae @ZC @BM @BL @G6 @vO @G7 @Oy (fJ @ab5 @fy @dr @cO)))))))))))))
theorem aeS(v:En)(a:Nat)(s:ByteArray):xt v (.name a s):=by
 intro vs e u uh fp w S hEn hEx hEs ho hlt hS;have u0:=af.up w S fp;have hse:=af.eQ w S fp hS;obtain⟨hE0,hN0⟩:=hEn;obtain⟨hx0,hv0⟩:=hEx;have hEs1:=hEs.mono hse;have hv1:=hv0.mono hse;have hN1:=eT.mono hse hN0;simp only[cw]at hx0
 refine fh (nt:=133) S #[e] [.tmp 4] (by show 1<=7;omega) ho hlt Tryz.func65 rfl rfl rfl ?_;cases hv1 with
 |name _ _=>
 refine vR Γ0 dM ?_;refine vR Γ0 dM ?_;refine Wp.seq ?_;refine vR Γ0 dM ?_;refine Wp.block ?_;refine vR Γ0 dM ?_;refine wC dM (λhc=>?_) (λhc=>?_)
 rotate_left
 ·cases hc
 refine vR Γ0 dM ?_;cases hL:Fo v s with
 |none=>
  have hF:=Bd hN1 hL;have hE:aP v (.name a s)=.error (70,(a:Nat)):=by simp only[aP,hL]
  rw[hE,aH];refine yY Γ0 (aa dM hF) ?_;refine Wp.seq ?_;refine vR Γ0 dM ?_;refine wC dM (λhc=>?_) (λhc=>?_)
  rotate_left
  ·cases hc
  refine Wp.dF (qD (af w S fp)) aM (ev dM) ?_ ?_
  ·first|trivial|exact⟨_,_,rfl⟩
  refine qq ?_;exact⟨_,rfl⟩
 |some t=>
  obtain⟨z,hF,hz⟩:=Be hN1 hL;have hE:aP v (.name a s)=.ok t:=by simp only[aP,hL]
  rw[hE,cV];refine yY Γ0 (bw dM hF (pb (t:=t) hz)) ?_;refine Wp.seq ?_;refine vR Γ0 dM ?_;refine wC dM (λhc=>?_) (λhc=>?_)
  ·cases hc
  refine wK ?_;refine vR Γ0 dM ?_;refine wZ dM ?_
  exact eA (λE=>rfl) hz rfl (by simp only[iO,Op.operands,Value.cells,σ0,σB,Nat.reduceEqDiff,Nat.reduceAdd,Nat.reduceMul,Nat.reduceLT,Nat.reduceLeDiff,Nat.reduceBEq,av,Int.reduceToNat,Int.reduceLT,Int.reduceLE,Nat.reduceDiv,Nat.reduceMod,Nat.reduceSub,Int.reducePow,Nat.reducePow,σP,σB3,dM,aq,eP,cL,cj]<;>rfl) dE
theorem aeT(v:En)(a:Nat)(s:ByteArray):xt v (.text a s):=by
 intro vs e u uh fp w S hEn hEx hEs ho hlt hS;have u0:=af.up w S fp;have hse:=af.eQ w S fp hS;obtain⟨hE0,hN0⟩:=hEn;obtain⟨hx0,hv0⟩:=hEx;have hEs1:=hEs.mono hse;have hv1:=hv0.mono hse;have hN1:=eT.mono hse hN0;simp only[cw]at hx0
 refine fh (nt:=133) S #[e] [.tmp 4] (by show 1<=7;omega) ho hlt Tryz.func65 rfl rfl rfl ?_;cases hv1 with
 |text _ _=>
 refine vR Γ0 dM ?_;refine vR Γ0 dM ?_;refine Wp.seq ?_;refine vR Γ0 dM ?_;refine Wp.block ?_;refine vR Γ0 dM ?_;refine wC dM (λhc=>?_) (λhc=>?_)
 ·cases hc
 refine vR Γ0 dM ?_;refine wC dM (λhc=>?_) (λhc=>?_)
 rotate_left
 ·cases hc
 refine vR Γ0 dM ?_;have hE:aP v (.text a s)=.ok (.text a s):=by simp only[aP]
 rw[hE,cV];refine vR Γ0 dM ?_;refine wZ dM ?_
 exact eA (v:=.iface 190 (.agg #[.int .i64 (a:Nat),.string s])) (λE=>rfl) rfl rfl (by simp only[iO,Op.operands,Value.cells,σ0,σB,Nat.reduceEqDiff,Nat.reduceAdd,Nat.reduceMul,Nat.reduceLT,Nat.reduceLeDiff,Nat.reduceBEq,av,Int.reduceToNat,Int.reduceLT,Int.reduceLE,Nat.reduceDiv,Nat.reduceMod,Nat.reduceSub,Int.reducePow,Nat.reducePow,σP,σB3,dM,aq,eP,cL,cj]<;>rfl) dE
theorem alP(v:En)(a:Nat)(s:ByteArray):xt v (.rx a s):=by
 intro vs e u uh fp w S hEn hEx hEs ho hlt hS;have u0:=af.up w S fp;have hse:=af.eQ w S fp hS;obtain⟨hE0,hN0⟩:=hEn;obtain⟨hx0,hv0⟩:=hEx;have hEs1:=hEs.mono hse;have hv1:=hv0.mono hse;have hN1:=eT.mono hse hN0;simp only[cw]at hx0
 refine fh (nt:=133) S #[e] [.tmp 4] (by show 1<=7;omega) ho hlt Tryz.func65 rfl rfl rfl ?_;cases hv1 with
 |rx _ _=>
 refine vR Γ0 dM ?_;refine vR Γ0 dM ?_;refine Wp.seq ?_;refine vR Γ0 dM ?_;refine Wp.block ?_;refine vR Γ0 dM ?_;refine wC dM (λhc=>?_) (λhc=>?_)
 ·cases hc
 refine vR Γ0 dM ?_;refine wC dM (λhc=>?_) (λhc=>?_)
 ·cases hc
 refine vR Γ0 dM ?_;refine wC dM (λhc=>?_) (λhc=>?_)
 rotate_left
 ·cases hc
 refine vR Γ0 dM ?_;have hs:s.size<=140737488351232:=oM;have hg:bh w (Out fp):=hEs1.mono λb _ hb=>⟨rfl,hb.2⟩
 have w1:IntKind.i64.wrap ((a:Nat)+1:Int)=((a:Nat):Int)+1:=aA oM oM;cases hp:rQ s with
 | error q=>
  obtain⟨c,j⟩:=q;have hE:aP v (.rx a s)=.error (c,IntKind.i64.wrap ((a:Nat)+1+j)):=by simp only[aP,hp]
  have hne:c≠0:=by
   cases hd:TV s with
   |error e=>
    obtain⟨c',p'⟩:=e;have:=yo s;rw[hp,hd,Fq (e:=.error (c',p')) rfl]at this;cases this;exact TW hd
   |ok t=>
    have:=yo s;rw[hp,hd]at this;cases this
  rw[hE,aH];refine wR (qD (af w S fp)) (qE dM hp @uq.eq_1 @uq.eq_2 @pg.eq_1) ?_ ?_
  ·exact⟨hs,hg⟩
  refine Wp.seq ?_;refine vR (qD (af w S fp)) (aa dM hne) ?_;refine wC dM (λhc=>?_) (λhc=>?_)
  rotate_left
  ·exact absurd hc sI
  refine Wp.dF (qD (af w S fp)) aM (ev (aa dM w1)) ?_ ?_
  ·first|trivial|exact⟨_,_,rfl⟩
  refine qq ?_;exact⟨_,rfl⟩
 |ok r=>
  have hE:aP v (.rx a s)=.ok (.rx a r):=by simp only[aP,hp]
  rw[hE,cV];refine wR (qD (af w S fp)) (qE dM hp @uq.eq_1 @uq.eq_2 @pg.eq_1) ?_ ?_
  ·exact⟨hs,hg⟩
  refine Wp.seq ?_;refine vR (qD (af w S fp)) dM ?_;refine wC dM (λhc=>?_) (λhc=>?_)
  ·exact absurd hc sI
  refine wK ?_;refine vR Γ0 dM ?_;refine wZ dM ?_
  exact eA (v:=.iface 192 (.agg #[.int .i64 (a:Nat),ax r])) (λE=>rfl) rfl rfl (by simp only[iO,Op.operands,Value.cells,σ0,σB,Nat.reduceEqDiff,Nat.reduceAdd,Nat.reduceMul,Nat.reduceLT,Nat.reduceLeDiff,Nat.reduceBEq,av,Int.reduceToNat,Int.reduceLT,Int.reduceLE,Nat.reduceDiv,Nat.reduceMod,Nat.reduceSub,Int.reducePow,Nat.reducePow,σP,σB3,dM,aq,eP,cL,cj]<;>rfl) dE
theorem Wp.ajh{P:Program}{W:World}{bs:List Nat}{nt:Nat}{ds:Aux}{c:Code}{Q:lR}{σ:St}(t:Nat){x:SV}{v:Value}(hx:σ.φ t=.is x)(hc:cJ x=some v)(h:Wp P W bs nt ds c Q ⟨σ.n,bo σ.φ t (.is (.v v)),σ.h⟩):Wp P W bs nt ds c Q σ:=
 λa w hs=>h a w (Le.const t hx hc (λ_ _ h=>h) a w hs)
end
end Go.Proofs.YtnemkecffmdlnaaGreatDoor
namespace Go.LE
section
open Go.RowKit
structure RX where
 side:Prop
 pan:Option (List PanicEntry)
 lost:List Nat
 fx:List (List Nat×List Nat)
section
variable {P:Program}{W:World}{bs:List Nat}{nt:Nat}{ds:Aux}{ops:Array Oper}(Γ:Env P)
def LC(s:S)(g:RX):RX:=⟨s.side/\g.side,g.pan,s.uk++s.pupd++g.lost,(s.uk,s.reads)::g.fx⟩
def Af(Γ:Env P)(W:World)(bs:List Nat)(nt:Nat)(ops:Array Oper):List Oper->Nat->Fr->Hp->RX
 |[],_,_,_=>⟨True,none,[],[]⟩
 |o::r,κ,φ,h=>match (step Γ W bs nt ops κ φ h o).pan with
  |some c=>⟨(step Γ W bs nt ops κ φ h o).side,some c,(step Γ W bs nt ops κ φ h o).uk++(step Γ W bs nt ops κ φ h o).pupd,[((step Γ W bs nt ops κ φ h o).uk,(step Γ W bs nt ops κ φ h o).reads)]⟩
  |none=>LC (step Γ W bs nt ops κ φ h o) (Af Γ W bs nt ops r (κ+1) (oS φ o.dst (step Γ W bs nt ops κ φ h o).fv) (a8 h (step Γ W bs nt ops κ φ h o).bo))
theorem Sk{c:List PanicEntry}:∀ (l:List Oper) (κ:Nat) (φ:Fr) (h:Hp),(Af Γ W bs nt ops l κ φ h).pan=some c->(Af Γ W bs nt ops l κ φ h).side ->
  ∃ (i:Nat) (p:Oper×S),(tr Γ W bs nt ops l κ φ h)[i]?=some p/\p.2.pan=some c/\(∀ (j:Nat) (q:Oper×S),j<=i->(tr Γ W bs nt ops l κ φ h)[j]?=some q->q.2.side)/\(∀ (j:Nat) (q:Oper×S),j<i->(tr Γ W bs nt ops l κ φ h)[j]?=some q->q.2.pan=none) /\
   (∀ (j:Nat) (q:Oper×S),j<=i->(tr Γ W bs nt ops l κ φ h)[j]?=some q->∀ k∈q.2.uk++q.2.pupd,k∈(Af Γ W bs nt ops l κ φ h).lost) /\
   (Af Γ W bs nt ops l κ φ h).fx.length=i+1/\∀ (j:Nat) (q:Oper×S),j<=i->(tr Γ W bs nt ops l κ φ h)[j]?=some q->(Af Γ W bs nt ops l κ φ h).fx[j]?=some (q.2.uk,q.2.reads)
 |[],_,_,_,hp,_=>by cases hp
 | o::r,κ,φ,h,hp,hs=>by
  have ih:=Sk (c:=c) r (κ+1) (oS φ o.dst (step Γ W bs nt ops κ φ h o).fv) (a8 h (step Γ W bs nt ops κ φ h o).bo);unfold Af at hp hs ⊢;simp only[tr];cases hpn:(step Γ W bs nt ops κ φ h o).pan with
  | some c' =>
   rw[hpn]at hp hs;simp only[Option.some.injEq]at hp hs;subst hp;refine⟨0,_,rfl,hpn,λj q hj hq=>?_,λj q hj hq=>by omega,λj q hj hq k hk=>?_,rfl,λj q hj hq=>?_⟩
   ·obtain rfl:j=0:=oM;simp at hq;subst hq;exact hs
   ·obtain rfl:j=0:=oM;simp at hq;subst hq;exact hk
   ·obtain rfl:j=0:=oM;simp at hq;subst hq;rfl
  | none=>
   rw[hpn]at hp hs;simp only[LC]at hp hs ⊢;obtain⟨i,p,h1,h2,h3,h4,h5,h6,h7⟩:=ih hp hs.2;refine⟨i+1,p,by simpa using h1,h2,λj q hj hq=>?_,λj q hj hq=>?_,λj q hj hq k hk=>?_,by rw[List.length_cons,h6],λj q hj hq=>?_⟩
   ·cases j with
    |zero=>simp at hq;subst hq;exact hs.1
    |succ j=>exact h3 j q oM (by simpa using hq)
   ·cases j with
    |zero=>simp at hq;subst hq;exact hpn
    |succ j=>exact h4 j q oM (by simpa using hq)
   ·cases j with
    |zero=>simp at hq;subst hq;exact List.mem_append_left _ hk
    |succ j=>exact List.mem_append_right _ (h5 j q oM (by simpa using hq) k hk)
   ·cases j with
    |zero=>simp at hq;subst hq;rfl
    |succ j=>exact h7 j q oM (by simpa using hq)
def ajb(ops:Array Oper)(n:Nat):Bool:=(List.range ops.size).all λj=>decide (j<n)||Yh ops (n-1) j
theorem Lu{id:Nat}{σ:St}{Q:Exit->Act->World->Prop}{a:Act}{w:World}(hm:P.follows .mixedOrders=true)(hsat:Sat W bs nt ds σ a w){side:Prop}{c:List PanicEntry}{lost:List Nat}{fx:List (List Nat×List Nat)}
  (hg:Af Γ W bs nt ops ops.toList σ.n σ.φ σ.h=⟨side,some c,lost,fx⟩) (hd:(kP ops&&lj ops fx&&ajb ops fx.length)=true) (hside:side)
  (hP:∀ a' w',Sat W bs nt ds ⟨σ.n,tC ops σ.φ,dropKeys σ.h lost⟩ a' w' -> Q (.panic c) a' w'):(Code.region id ops true).wp P Q a w:=by
 obtain⟨i0,p0,t1,t2,t3,t4,t5,t6,t7⟩:=Sk Γ (c:=c) ops.toList σ.n σ.φ σ.h (by rw[hg]) (by rw[hg];exact hside);rw[hg]at t5 t6 t7;simp only at t5 t6 t7;rw[Bool.and_eq_true,Bool.and_eq_true,t6]at hd;obtain⟨⟨h1,h2⟩,h3⟩:=hd
 have lt:∀ {α:Type} {l:Array α} {i:Nat} {x:α},l[i]?=some x->i<l.size:=λhx=>(Array.getElem?_eq_some_iff.1 hx).1
 have hedge:∀ j o,ops[j]?=some o->∀ e∈o.after,Region.binds .any e=true->e.on<j:=by
  unfold kP at h1;rw[List.all_eq_true]at h1;intro j o ho e he hb;have:=h1 j (List.mem_range.2 (lt ho));rw[ho]at this;simp only[Bool.and_eq_true]at this;have:=Array.all_eq_true.1 this.1;obtain⟨i,hi,hie⟩:=Array.mem_iff_getElem.1 he;have:=this i hi;rw[hie,hb]at this;simpa using this
 have hslot:∀ i j oi oj t,i≠j->ops[i]?=some oi->ops[j]?=some oj->oj.dst=some t->t∈oi.looksAt ops\/oi.dst=some t->Cmp ops i j:=by
  unfold kP at h1;rw[List.all_eq_true]at h1;intro i j oi oj t hij hi hj hd hc;have:=h1 j (List.mem_range.2 (lt hj));rw[hj]at this;simp only[Bool.and_eq_true,hd,List.all_eq_true]at this;have:=this.2 i (List.mem_range.2 (lt hi));rw[hi]at this;have hij' : (i == j)=false:=by simpa using hij
  simp only[hij',Bool.false_or]at this;have hc' : ((oi.looksAt ops).contains t||oi.dst == some t)=true:=by
   rcases hc with hc|hc
   ·simp[hc]
   ·simp[hc]
  rw[hc']at this;exact oA (by simpa using this)
 have hheap:∀ i j oi oj si sj k,i<=i0->j<=i0->i≠j->(tr Γ W bs nt ops ops.toList σ.n σ.φ σ.h)[i]?=some (oi,si)->(tr Γ W bs nt ops ops.toList σ.n σ.φ σ.h)[j]?=some (oj,sj)->k∈cg sj.bo->k∈si.reads\/k∈cg si.bo->Cmp ops i j:=by
  unfold lj at h2;rw[List.all_eq_true]at h2;intro i j oi oj si sj k hi0 hj0 hij hi hj hk hc;have huk:∀ (i:Nat) (o:Oper) (s:S),(tr Γ W bs nt ops ops.toList σ.n σ.φ σ.h)[i]?=some (o,s)->∀ k∈cg s.bo,k∈s.uk:=λi o s hT k hk=>by
   have:=(ky Γ ops.toList σ.n 0 σ.φ σ.h i o s hT).2;rw[this]at hk ⊢;exact Ig Γ hk
  have fi:=t7 i _ hi0 hi;have fj:=t7 j _ hj0 hj;have:=h2 j (List.mem_range.2 oM);simp only[fj,Bool.or_eq_true,List.all_eq_true]at this;rcases this with this|this
  ·have hk' := huk j oj sj hj k hk;rw[List.isEmpty_iff]at this;rw[this]at hk';cases hk'
  ·have:=this i (List.mem_range.2 oM);simp only[fi]at this;have hij' : (i == j)=false:=by simpa using hij
   rw[hij']at this;simp only[Bool.false_eq_true,false_or,Bool.or_eq_true,List.all_eq_true]at this;rcases this with this|this
   ·have:=this k (huk j oj sj hj k hk);rcases hc with hc|hc
    ·simp[hc]at this
    ·simp[huk i oi si hi k hc]at this
   ·exact oA this
 have hbeh:∀ j,i0<j->j<ops.size->Reach ops i0 j:=λj hj hlt=>by
  unfold ajb at h3;rw[List.all_eq_true]at h3;have:=h3 j (List.mem_range.2 hlt);simp only[Bool.or_eq_true,decide_eq_true_eq,Nat.add_sub_cancel]at this;rcases this with this|this
  ·omega
  ·exact (oA this).1 hj
 have gd:∀ (l:Array Bool) i,i<l.size->l.getD i true=l.getD i false:=λl i hi=>by simp[Array.getD_eq_getD_getElem?,Array.getElem?_eq_getElem hi]
 have hi0:i0<ops.size:=by
  have:=(List.getElem?_eq_some_iff.1 t1).1
  rwa [pQ,Array.length_toList]at this
 have noti:∀ (listed:Array Bool),(∀ j o s,listed.getD j false=true->(tr Γ W bs nt ops ops.toList σ.n σ.φ σ.h)[j]?=some (o,s)->s.pan=none)->listed.getD i0 false=false:=λlisted hpr=>by
  cases hl:listed.getD i0 false with
  |false=>rfl
  |true=>
   have:=hpr i0 p0.1 p0.2 hl t1;rw[t2]at this;cases this
 have done:∀ (listed:Array Bool),listed.size=ops.size->Region.ready .any ops listed=[] ->
   (∀ j o s,listed.getD j false=true->(tr Γ W bs nt ops ops.toList σ.n σ.φ σ.h)[j]?=some (o,s)->s.pan=none)->False:=by
  intro listed hsz hr hpr;have all:∀ i,i<ops.size->listed.getD i false=true:=by
   intro i
   induction i using Nat.strongRecOn with
   | _ i ih=>
    intro hi;cases hl:listed.getD i false with
    |true=>rfl
    | false=>
     exfalso;have:i∈Region.ready .any ops listed:=by
      refine List.mem_filter.2 ⟨List.mem_range.2 hi,?_⟩;rw[gd _ _ oM,hl];simp only[Bool.not_false,Bool.true_and,Array.getElem?_eq_getElem hi,Option.map_some,Option.getD_some];rw[Array.all_eq_true];intro j hj;cases hb:Region.binds .any (ops[i].after[j]) with
      |false=>rfl
      |true=>
       have hlt:=hedge i ops[i] (Array.getElem?_eq_getElem hi) (ops[i].after[j]) (Array.getElem_mem hj) hb;simpa using ih _ hlt oM
     rw[hr]at this;cases this
  have:=noti listed hpr;rw[all i0 hi0]at this;cases this
 have key:∀ (fuel:Nat) (listed:Array Bool) (a:Act) (w:World),listed.size=ops.size->listed.toList.count false<=fuel ->
   (∀ j o,ops[j]?=some o->listed.getD j false=true->∀ e∈o.after,Region.binds .any e=true->listed.getD e.on false=true) ->
   (∀ j o s,listed.getD j false=true->(tr Γ W bs nt ops ops.toList σ.n σ.φ σ.h)[j]?=some (o,s)->s.pan=none) ->
   Inv W bs nt ds (tr Γ W bs nt ops ops.toList σ.n σ.φ σ.h) σ (λj=>listed.getD j false) a w->wpAny P .any ops Q fuel listed a w:=by
  intro fuel
  induction fuel with
  | zero=>
   intro listed a w hsz hc hcl hpr I;have hr:Region.ready .any ops listed=[]:=by
    refine List.filter_eq_nil_iff.2 λi hi=>?_
    have hi' : i<listed.size:=by rw[hsz];exact List.mem_range.1 hi
    have:listed.getD i true=true:=by
     rw[Array.getD_eq_getD_getElem?,Array.getElem?_eq_getElem hi'];simp only[Option.getD_some];have h0:=List.count_eq_zero.1 (Nat.le_zero.1 hc);cases hv:listed[i] with
     |true=>rfl
     |false=>exact absurd (by rw[<- hv];simp) h0
    simp[this]
   exact (done listed hsz hr hpr).elim
  | succ fuel ih=>
   intro listed a w hsz hc hcl hpr I;refine⟨λhr=>(done listed hsz hr hpr).elim,λi hi=>?_⟩;obtain⟨hi,hready⟩:=List.mem_filter.1 hi;have hi:=List.mem_range.1 hi;have ho:ops[i]?=some ops[i]:=Array.getElem?_eq_getElem hi;have hil:i<listed.size:=oM;rw[gd _ _ hil]at hready
   simp only[ho,Option.map_some,Option.getD_some,Bool.and_eq_true,Bool.not_eq_true']at hready;obtain⟨hli,hpre⟩:=hready;rw[Array.all_eq_true]at hpre
   obtain⟨s,hT⟩:=Io Γ (W:=W) (bs:=bs) (nt:=nt) (ops:=ops) (κ:=σ.n) (φ:=σ.φ) (h:=σ.h) (l:=ops.toList) (i:=i) (o:=ops[i]) (by rw[Array.getElem?_toList];exact ho);have hset:∀ j,(listed.setIfInBounds i true).getD j false=if j=i then true else listed.getD j false:=λj=>by
    simp only[Array.getD_eq_getD_getElem?,Array.getElem?_setIfInBounds];by_cases hji:i=j
    ·subst hji;simp[hil]
    ·rw[if_neg hji,if_neg (Ne.symm hji)]
   have hcl' : ∀ j o,ops[j]?=some o->(listed.setIfInBounds i true).getD j false=true->∀ e∈o.after,Region.binds .any e=true->(listed.setIfInBounds i true).getD e.on false=true:=by
    intro j o hj hl e he hb;rw[hset]at hl ⊢;split
    ·rfl
    ·split at hl
     ·rename_i hji;subst hji;rw[ho]at hj;cases hj;obtain⟨m,hm,hme⟩:=Array.mem_iff_getElem.1 he;have:=hpre m hm;rw[hme,hb]at this;simpa using this
     ·exact hcl j o hj hl e he hb
   have rb:∀ j,Reach ops j i->j≠i->listed.getD j false=true:=λj hr hji=>by
    have:=jB (S:=λj=>(listed.setIfInBounds i true).getD j false) hcl' hr (by simp only[hset,if_pos]);simp only[hset,if_neg hji]at this;exact this
   have ra:∀ j,Reach ops i j->listed.getD j false=false:=λj hr=>by
    cases hl:listed.getD j false with
    |false=>rfl
    |true=>
     have:=jB (S:=λj=>listed.getD j false) hcl hr hl;simp only[hli]at this;cases this
   have hii0:i<=i0:=by
    rcases Nat.lt_or_ge i0 i with hlt|hge
    ·have:=rb i0 (hbeh i hlt hi) oM;rw[noti listed hpr]at this;cases this
    ·exact hge
   have far:∀ j,i0<j->j<ops.size->listed.getD j false=false:=λj hj hlt=>by
    cases hl:listed.getD j false with
    |false=>rfl
    |true=>
     have:=jB (S:=λj=>listed.getD j false) hcl (hbeh j hj hlt) hl;simp only[noti listed hpr]at this;cases this
   have agree:∀ j,j≠i->Cmp ops i j->listed.getD j false=decide (j<0+i):=λj hji hc=>by
    rw[Nat.zero_add];by_cases hlt:j<i
    ·rw[rb j (hc.2 hlt) hji];simp[hlt]
    ·rw[ra j (hc.1 oM)];simp[hlt]
   have self:listed.getD i false=decide (i<0+i):=by rw[hli];simp
   have inT:∀ (j:Nat) (v:List (Nat×FV)),(uW (tr Γ W bs nt ops ops.toList σ.n σ.φ σ.h))[j]?=some v->∃ (o:Oper) (s:S),(tr Γ W bs nt ops ops.toList σ.n σ.φ σ.h)[j]?=some (o,s)/\ops[j]?=some o/\v=ud o s:=λj v hv=>by
    simp only[uW,List.getElem?_map,Option.map_eq_some_iff]at hv;obtain⟨⟨o,s⟩,h1,h2⟩:=hv;have:=(ky Γ ops.toList σ.n 0 σ.φ σ.h j o s h1).1;rw[Array.getElem?_toList]at this;exact⟨o,s,h1,this,h2.symm⟩
   have inH:∀ (j:Nat) (v:List (Nat×Option aX)),(xZ (tr Γ W bs nt ops ops.toList σ.n σ.φ σ.h))[j]?=some v->∃ (o:Oper) (s:S),(tr Γ W bs nt ops ops.toList σ.n σ.φ σ.h)[j]?=some (o,s)/\j<ops.size/\v=s.bo:=λj v hv=>by
    simp only[xZ,List.getElem?_map,Option.map_eq_some_iff]at hv;obtain⟨⟨o,s⟩,h1,h2⟩:=hv;have:=(ky Γ ops.toList σ.n 0 σ.φ σ.h j o s h1).1;rw[Array.getElem?_toList]at this;exact⟨o,s,h1,lt this,h2.symm⟩
   refine one Γ (L:=lost) (λj p hp hj k hk=>t5 j p ?_ hp k hk) hT (S:=λj=>listed.getD j false) (S' := λj=>(listed.setIfInBounds i true).getD j false) hli (by simp only[hset,if_pos]) (λj hj=>by simp only[hset,if_neg hj]) (λt ht=>?_) (λk hk=>?_) (λj v hij hv hs k hk hk' => ?_) (λj v hij hv hs k hk hk' => ?_) I (t3 i _ hii0 hT) (λhpn a' w' I' => ?_) (λc' hc a' w' hs' => ?_) hsat.fk hsat.hk hsat.pk
   ·rcases hj with hj|rfl
    ·rcases Nat.lt_or_ge i0 j with hlt|hge
     ·have hjl:j<ops.size:=by
       have:=(List.getElem?_eq_some_iff.1 hp).1
       rwa [pQ,Array.length_toList]at this
      have hf:=far j hlt hjl;rw[hf]at hj;cases hj
     ·exact hge
    ·exact hii0
   ·refine jV rfl λj u hj hju=>?_
    obtain⟨o',s',_,hj',rfl⟩:=inT j u hj;rw[Nat.zero_add];by_cases hji:j=i
    ·subst hji;exact self
    ·exact agree j hji (hslot i j _ o' t (Ne.symm hji) ho hj' (j7.1 hju) (.inl ht))
   ·refine jV rfl λj u hj hju=>?_
    obtain⟨o',s',hj',hjl,rfl⟩:=inH j u hj;rw[Nat.zero_add];by_cases hji:j=i
    ·subst hji;exact self
    ·rcases Nat.lt_or_ge i0 j with hlt|hge
     ·rw[far j hlt hjl];simp;omega
     ·exact agree j hji (hheap i j _ o' _ s' k hii0 hge (Ne.symm hji) hT hj' hju (.inl hk))
   ·obtain⟨o',s',_,hj',rfl⟩:=inT j v hv;have:=ra j ((hslot i j _ o' k oM ho hj' (j7.1 hk') (.inr (j7.1 hk))).1 hij);rw[this]at hs;cases hs
   ·obtain⟨o',s',hj',hjl,rfl⟩:=inH j v hv;rcases Nat.lt_or_ge i0 j with hlt|hge
    ·rw[far j hlt hjl]at hs;cases hs
    ·have:=ra j ((hheap i j _ o' _ s' k hii0 hge oM hT hj' hk' (.inr hk)).1 hij);rw[this]at hs;cases hs
   ·refine ih _ a' w' (by simpa using hsz) ?_ hcl' (λj o' s' hj hs' => ?_) I'
    rotate_left
    ·by_cases hji:j=i
     ·subst hji;rw[hT]at hs';cases hs';exact hpn
     ·rw[hset,if_neg hji]at hj;exact hpr j o' s' hj hs'
    rw[Array.toList_setIfInBounds,List.count_set (by simpa using hil)];have e1:listed.toList[i]'(by simpa using hil)=false:=by
     rw[Array.getD_eq_getD_getElem?,Array.getElem?_eq_getElem hil]at hli;simpa using hli
    rw[e1];have hpos:0<listed.toList.count false:=List.count_pos_iff.2 (e1 ▸ List.getElem_mem _);simp only[beq_self_eq_true,if_true,show (true == false)=false from rfl,Bool.false_eq_true,if_false];omega
   ·by_cases hii:i=i0
    ·subst hii;rw[t1]at hT;simp only[Option.some.injEq]at hT;subst hT;rw[t2]at hc;simp only[Option.some.injEq]at hc;subst hc;exact hP a' w' hs'
    ·have:=t4 i _ oM hT;rw[this]at hc;cases hc
 refine wp_region_any hm ?_;have hsat' : Sat W bs nt ds σ a { w with drawn:=w.drawn+1 }:=by
  obtain⟨⟨E,F,hf,hh,hp⟩,h1,h2,h3,h4,h5⟩:=hsat;exact⟨⟨E,F,hf,hh.grow ⟨rfl,rfl,rfl,Nat.le_refl _,λ_ _ _=>rfl⟩,hp⟩,h1,h2,h3,h4,h5⟩
 have hz:∀ i,(Array.replicate ops.size false).getD i false=false:=λi=>by
  simp only[Array.getD_eq_getD_getElem?,Array.getElem?_replicate];split<;>rfl
 exact key ops.size _ a _ sI (by simp[List.count_replicate]) (λj o _ hj=>by rw[hz]at hj;cases hj) (λj o s hj=>by rw[hz]at hj;cases hj) (sZ hsat' hz _)
end
section
variable {P:Program}{W:World}{bs:List Nat}{nt:Nat}{ds:Aux}{Q:lR}{σ:St}
theorem Wp.aiD(Γ:Env P){id:Nat}{ops:Array Oper}{side:Prop}{lost:List Nat}{fx:List (List Nat×List Nat)}{c:List PanicEntry}(hm:P.follows .mixedOrders=true)
  (hg:Af Γ W bs nt ops ops.toList σ.n σ.φ σ.h=⟨side,some c,lost,fx⟩) (hd:(kP ops&&lj ops fx&&ajb ops fx.length)=true) (hside:side)
  (hQ:Q (.panic c) W bs ⟨σ.n,tC ops σ.φ,dropKeys σ.h lost⟩):Wp P W bs nt ds (.region id ops true) Q σ:=λa w hs=>
 Lu Γ hm hs hg hd hside λa' w' hs' => ⟨W,bs,_,Ext.refl W bs,hQ,hs'⟩
end
section
variable {P:Program}{W:World}{bs:List Nat}{nt:Nat}{ops:Array Oper}(Γ:Env P)
def aaz(Γ:Env P)(dst:Option Nat)(r:List Oper)(κ:Nat)(φ:Fr)(h:Hp)(s:S):RX:=match s.pan with
 |some c=>⟨s.side,some c,s.uk++s.pupd,[(s.uk,s.reads)]⟩
 |none=>LC s (Af Γ W bs nt ops r (κ+1) (oS φ dst s.fv) (a8 h s.bo))
theorem VT(o:Oper)(r:List Oper)(κ:Nat)(φ:Fr)(h:Hp):Af Γ W bs nt ops (o::r) κ φ h=aaz (W:=W) (bs:=bs) (nt:=nt) (ops:=ops) Γ o.dst r κ φ h (step Γ W bs nt ops κ φ h o):=rfl
theorem Pl(dst:Option Nat)(r:List Oper)(κ:Nat)(φ:Fr)(h:Hp)(side:Prop)(fv:FV)(u:List (Nat×Option aX))(c:List PanicEntry)(pupd reads uk:List Nat) :
  aaz (W:=W) (bs:=bs) (nt:=nt) (ops:=ops) Γ dst r κ φ h ⟨side,fv,u,some c,pupd,reads,uk⟩=⟨side,some c,uk++pupd,[(uk,reads)]⟩:=rfl
theorem Pk(dst:Option Nat)(r:List Oper)(κ:Nat)(φ:Fr)(h:Hp)(side:Prop)(fv:FV)(u:List (Nat×Option aX))(pupd reads uk:List Nat) :
  aaz (W:=W) (bs:=bs) (nt:=nt) (ops:=ops) Γ dst r κ φ h ⟨side,fv,u,none,pupd,reads,uk⟩=LC ⟨side,fv,u,none,pupd,reads,uk⟩ (Af Γ W bs nt ops r (κ+1) (oS φ dst fv) (a8 h u)):=rfl
theorem aaF(side side' : Prop)(fv:FV)(u:List (Nat×Option aX))(pan:Option (List PanicEntry))(pupd reads uk lost:List Nat)(c:Option (List PanicEntry))(fx:List (List Nat×List Nat)) :
  LC ⟨side,fv,u,pan,pupd,reads,uk⟩ ⟨side',c,lost,fx⟩=⟨side/\side',c,uk++pupd++lost,(uk,reads)::fx⟩:=rfl
end
end
end Go.LE
namespace Go.Proofs.YtnemkecffmdlnaaGreatDoor
section
open Go Go.RowKit Go.LE
set_option maxRecDepth 10000
def aC:=(ae @List.replicate_succ.{0} @List.replicate_zero.{0} @au @ab kQ kS kU (ae dc dd de df dv dw dz (ae dA eB eC eD eE eF eG (ae n8 oa ob oc uK uL uM (ae uN uO uP uQ uR uS uT (ae jH jI jJ jK jL nN nO (ae nP nQ nR Ip Iq Ir Is (ae It QF QG QH Iu Iv Iw (ae Ix Iy QQ QR iA iB iC (ae iD aiI aiJ pR pS pT pU (ae pV pW pX pY pZ nS nT (ae nU nV nW nX nY nZ n7 (ae mi mj ml mm mn mq mr (ae mu mv mw my mz mA mB (ae mC mD mE mF mG ID IE (ae IF IG IH II IJ IK IL (ae IM IN IP IQ IS IT IU (ae IV IW IX IY IZ I0 I1 (ae I2 I3 I4 I5 I6 I7 I8 (ae I9 Ja Jb Jc Jd Je Jf (ae Jg C4 C5 C6 C7 C8 C9 (ae Da Db Dc Dd De Df Dg (ae Dh Di Dj Dk Dl Dm Dn (ae Dp yN yO yP yQ yR yS (ae yT yU yV yW @nL @pA @kx (ae @lE @lD @gr @eR @aV @aw @aD (ae @aG @vK @sW @nq @vE @sY @pz (ae @sX @cK @S4 @M5 @S5 @M6 @S7 (ae @S6 @M7 @S8 @S9 @Ta @Gn @ua (ae @sb @wI @Ik @pP @KO @KN @ZD (ae @BR @BO @BN @KL @vQ @DU @DT (ae @xi @zg @zf @tL @cV @aH @BZ (ae @K4 @zH @BY @zI @Sb @B3 @LX (ae @LY @mkF.eq_1 @cj @vY @sR @eP @AA (ae @b6 @aL @kh @gZ.eq_1 @nA @nB @B6 (ae @B5 @pK @lG @ZC @BM @BL @G6 (ae @vO @G7 @Oy @ab5 @fy @dr @cO (fJ @VT @Pl @Pk @aaF))))))))))))))))))))))))))))))))))))))
theorem ZI(v:En)(a:Nat)(op:ByteArray)(x:Ex)(ih:xt v x):xt v (.unary a op x):=by
 intro vs e u uh fp w S hEn hEx hEs ho hlt hS;have u0:=af.up w S fp;have hse:=af.eQ w S fp hS;obtain⟨hE0,hN0⟩:=hEn;obtain⟨hx0,hv0⟩:=hEx;have hEs1:=hEs.mono hse;have hv1:=hv0.mono hse;have hN1:=eT.mono hse hN0;simp only[cw]at hx0
 refine fh (nt:=133) S #[e] [.tmp 4] (by show 1<=7;omega) ho hlt Tryz.func65 rfl rfl rfl ?_;cases hv1 with
 |unary _ _ z _ gx=>
 refine vR Γ0 aC ?_;refine vR Γ0 aC ?_;refine Wp.seq ?_;refine vR Γ0 aC ?_;refine Wp.block ?_;refine vR Γ0 aC ?_;refine wC aC (λhc=>?_) (λhc=>?_)
 ·cases hc
 refine vR Γ0 aC ?_;refine wC aC (λhc=>?_) (λhc=>?_)
 ·cases hc
 refine vR Γ0 aC ?_;refine wC aC (λhc=>?_) (λhc=>?_)
 ·cases hc
 refine vR Γ0 aC ?_;refine wC aC (λhc=>?_) (λhc=>?_)
 ·cases hc
 refine vR Γ0 aC ?_;refine wC aC (λhc=>?_) (λhc=>?_)
 rotate_left
 ·cases hc
 refine wR Γ0 (aa aC gx.parts) ?_ ?_
 ·first|trivial|exact gx.one
 cases hF:aP v x with
 |error e=>
  obtain⟨c,j⟩:=e;have hE:aP v (.unary a op x)=.error (c,j):=by simp only[aP,hF,cc]
  rw[hE,aH];refine Wp.aiD (adf (af w S fp) v x ih vs a op z (.text 0 ⟨#[]⟩)) aM (ev (bw aC hF gx.parts)) (by kernel_rfl) ?_ ?_
  ·exact⟨⟨gx,⟨hE0,hN1⟩,hx0.2.2,hEs1⟩,dE,λ_ h=>h.elim⟩
  refine qq ?_;exact⟨_,rfl⟩
 |ok t=>
 have hS1:=pF hE0 hx0.2.2 hF;cases hU:Gh a op t with
 |error e=>
  obtain⟨c,j⟩:=e;have hE:aP v (.unary a op x)=.error (c,j):=by simp only[aP,hF,cc,hU]
  rw[hE,aH];refine Wp.qK (adf (af w S fp) v x ih vs a op z t) aM (ev (fJ aC hF hU gx.parts)) rfl (by kernel_rfl) ?_ ?_
  ·exact⟨⟨⟨gx,⟨hE0,hN1⟩,hx0.2.2,hEs1⟩,dE,(λ_ h=>h.elim),u0⟩,gx.one,rY hS1⟩
  refine qq ?_;exact⟨_,rfl⟩
 |ok t0=>
 refine Jt (adf (af w S fp) v x ih vs a op z t) (fJ aC hF hU gx.parts) ?_ ?_
 ·exact⟨⟨⟨gx,⟨hE0,hN1⟩,hx0.2.2,hEs1⟩,dE,(λ_ h=>h.elim),u0⟩,⟨gx.one,rY hS1⟩,u0⟩
 refine Wp.da 208 (ev aC) (aY.refl _ _) λW3 bs3 cs hx3 hΦ3=>?_
 obtain⟨vo,rfl,hg3,hv3⟩:=CN hΦ3;have hvo:=hg3;have hD:qY W3 vo=t0:=cl hvo;have hO:eS W3 (Out bs3) vo t0:=hvo.mono λb _ hb=>⟨rfl,hb.2⟩
 have hpl:=λW bs κ hh=>xq (af w S fp) (W:=W) (bs:=bs) (κ:=κ) (hh:=hh) hv0
 refine Wp.seq ?_;refine wR (qD (af w S fp)) (bw aC hD hv3) ?_ ?_
 ·exact⟨_,hO,(af0 hS1.2 hU)⟩
 refine wC aC (λhc=>?_) (λhc=>?_)
 ·have hbig:2000<cq t0:=by
   simp at hc;omega
  have hE:aP v (.unary a op x)=lS a t0:=by simp only[aP,hF,cc,hU]
  rw[hE,lS,if_pos hbig,aH];refine Wp.dF (qD (af w S fp)) aM (ev (aa aC hpl)) ?_ ?_
  ·first|trivial|exact⟨_,_,rfl⟩
  refine qq ?_;exact⟨_,rfl⟩
 ·have hbig:¬ 2000<cq t0:=by
   simp at hc;omega
  have hE:aP v (.unary a op x)=lS a t0:=by simp only[aP,hF,cc,hU]
  rw[hE,lS,if_neg hbig,cV];refine wK ?_;refine vR Γ0 aC ?_;refine wZ (aa aC hv3) ?_
  exact eA (λE=>rfl) hvo rfl (by simp only[iO,Op.operands,Value.cells,σ0,σB,Nat.reduceEqDiff,Nat.reduceAdd,Nat.reduceMul,Nat.reduceLT,Nat.reduceLeDiff,Nat.reduceBEq,av,Int.reduceToNat,Int.reduceLT,Int.reduceLE,Nat.reduceDiv,Nat.reduceMod,Nat.reduceSub,Int.reducePow,Nat.reducePow,σP,σB3,aC,aq,eP,cL,cj]<;>rfl) dE
theorem Vd(v:En)(a:Nat)(op:ByteArray)(x y:Ex)(ih:xt v x)(ih2:xt v y):xt v (.binary a op x y):=by
 intro vs e u uh fp w S hEn hEx hEs ho hlt hS;have u0:=af.up w S fp;have hse:=af.eQ w S fp hS;obtain⟨hE0,hN0⟩:=hEn;obtain⟨hx0,hv0⟩:=hEx;have hEs1:=hEs.mono hse;have hv1:=hv0.mono hse;have hN1:=eT.mono hse hN0;simp only[cw]at hx0
 refine fh (nt:=133) S #[e] [.tmp 4] (by show 1<=7;omega) ho hlt Tryz.func65 rfl rfl rfl ?_;cases hv1 with
 |binary _ _ z z2 _ _ gx gy=>
 refine vR Γ0 aC ?_;refine vR Γ0 aC ?_;refine Wp.seq ?_;refine vR Γ0 aC ?_;refine Wp.block ?_;refine vR Γ0 aC ?_;refine wC aC (λhc=>?_) (λhc=>?_)
 ·cases hc
 refine vR Γ0 aC ?_;refine wC aC (λhc=>?_) (λhc=>?_)
 ·cases hc
 refine vR Γ0 aC ?_;refine wC aC (λhc=>?_) (λhc=>?_)
 ·cases hc
 refine vR Γ0 aC ?_;refine wC aC (λhc=>?_) (λhc=>?_)
 ·cases hc
 refine vR Γ0 aC ?_;refine wC aC (λhc=>?_) (λhc=>?_)
 ·cases hc
 refine vR Γ0 aC ?_;refine wC aC (λhc=>?_) (λhc=>?_)
 rotate_left
 ·cases hc
 refine wR Γ0 (bw aC gx.parts gy.parts) ?_ ?_
 ·first|trivial|exact⟨gx.one,gy.one⟩|(rw[Bool.and_eq_true];exact⟨gx.one,gy.one⟩)|(simp[gx.one,gy.one];done)
 cases hF:aP v x with
 |error e=>
  obtain⟨c,j⟩:=e;have hE:aP v (.binary a op x y)=.error (c,j):=by simp only[aP,hF,cc]
  rw[hE,aH];refine Wp.bn (Q8 (af w S fp) v x ih vs a op z z2 (.text 0 ⟨#[]⟩) (.text 0 ⟨#[]⟩) undef) aM (ev (fJ aC hF gx.parts gy.parts)) ?_ ?_
  ·exact⟨⟨gx,⟨hE0,hN1⟩,hx0.2.2.1,hEs1⟩,dE,λ_ h=>h.elim⟩
  refine qq ?_;exact⟨_,rfl⟩
 |ok t=>
 have hS1:=pF hE0 hx0.2.2.1 hF;refine wR (Q8 (af w S fp) v x ih vs a op z z2 (.text 0 ⟨#[]⟩) (.text 0 ⟨#[]⟩) undef) (fJ aC hF gx.parts gy.parts) ?_ ?_
 ·exact⟨⟨gx,⟨hE0,hN1⟩,hx0.2.2.1,hEs1⟩,dE,(λ_ h=>h.elim),u0⟩
 refine Wp.da 223 (ev aC) (aY.refl _ _) λW2 bs2 cs2 hx2 hΦ2=>?_
 obtain⟨va,rfl,hg2,hv2⟩:=CN hΦ2;have u2:=u0.ext hx2;have hN2:=eT.mono hx2.dW hN1;have gy2:=gy.mono hx2.dW;have hEs2:=hEs1.mono hx2.dW;cases hF2:aP v y with
 |error e=>
  obtain⟨c,j⟩:=e;have hE:aP v (.binary a op x y)=.error (c,j):=by simp only[aP,hF,hF2,cc]
  rw[hE,aH];refine Wp.aiD (Q8 (af w S fp) v y ih2 vs a op z z2 t (.text 0 ⟨#[]⟩) va) aM (ev (sK aC hF2 gx.parts gy.parts hv2 (pb (t:=t) hg2))) (by kernel_rfl) ?_ ?_
  ·exact⟨⟨gy2,⟨hE0,hN2⟩,hx0.2.2.2,hEs2⟩,dE,λ_ h=>h.elim⟩
  refine qq ?_;exact⟨_,rfl⟩
 |ok t' =>
 have hS2:=pF hE0 hx0.2.2.2 hF2;cases hU:X0 a op t t' with
 |error e=>
  obtain⟨c,j⟩:=e;have hE:aP v (.binary a op x y)=.error (c,j):=by simp only[aP,hF,hF2,cc,hU]
  rw[hE,aH];refine Wp.qK (Q8 (af w S fp) v y ih2 vs a op z z2 t t' va) aM (ev (EP aC hF2 hU gx.parts gy.parts hv2 (pb (t:=t) hg2))) rfl (by kernel_rfl) ?_ ?_
  ·exact⟨⟨⟨gy2,⟨hE0,hN2⟩,hx0.2.2.2,hEs2⟩,dE,(λ_ h=>h.elim),u2⟩,⟨gx.one,gy.one⟩,hg2,rY hS1,rY hS2⟩
  refine qq ?_;exact⟨_,rfl⟩
 |ok t0=>
 refine Jt (Q8 (af w S fp) v y ih2 vs a op z z2 t t' va) (EP aC hF2 hU gx.parts gy.parts hv2 (pb (t:=t) hg2)) ?_ ?_
 ·exact⟨⟨⟨gy2,⟨hE0,hN2⟩,hx0.2.2.2,hEs2⟩,dE,(λ_ h=>h.elim),u2⟩,⟨⟨gx.one,gy.one⟩,hg2,rY hS1,rY hS2⟩,u2⟩
 refine Wp.da 280 (ev aC) (aY.refl _ _) λW3 bs3 cs hx3 hΦ3=>?_
 obtain⟨vo,rfl,hg3,hv3⟩:=CN hΦ3;have hvo:=hg3;have hD:qY W3 vo=t0:=cl hvo;have hO:eS W3 (Out bs3) vo t0:=hvo.mono λb _ hb=>⟨rfl,hb.2⟩
 have hpl:=λW bs κ hh=>xq (af w S fp) (W:=W) (bs:=bs) (κ:=κ) (hh:=hh) hv0
 refine Wp.seq ?_;refine wR (qD (af w S fp)) (bw aC hD hv3) ?_ ?_
 ·exact⟨_,hO,(adQ hS1.2 hS2.2 hU)⟩
 refine wC aC (λhc=>?_) (λhc=>?_)
 ·have hbig:2000<cq t0:=by
   simp at hc;omega
  have hE:aP v (.binary a op x y)=lS a t0:=by simp only[aP,hF,hF2,cc,hU]
  rw[hE,lS,if_pos hbig,aH];refine Wp.dF (qD (af w S fp)) aM (ev (aa aC hpl)) ?_ ?_
  ·first|trivial|exact⟨_,_,rfl⟩
  refine qq ?_;exact⟨_,rfl⟩
 ·have hbig:¬ 2000<cq t0:=by
   simp at hc;omega
  have hE:aP v (.binary a op x y)=lS a t0:=by simp only[aP,hF,hF2,cc,hU]
  rw[hE,lS,if_neg hbig,cV];refine wK ?_;refine vR Γ0 aC ?_;refine wZ (aa aC hv3) ?_
  exact eA (λE=>rfl) hvo rfl (by simp only[iO,Op.operands,Value.cells,σ0,σB,Nat.reduceEqDiff,Nat.reduceAdd,Nat.reduceMul,Nat.reduceLT,Nat.reduceLeDiff,Nat.reduceBEq,av,Int.reduceToNat,Int.reduceLT,Int.reduceLE,Nat.reduceDiv,Nat.reduceMod,Nat.reduceSub,Int.reducePow,Nat.reducePow,σP,σB3,aC,aq,eP,cL,cj]<;>rfl) dE
theorem aeR(v:En)(a:Nat)(op:ByteArray)(l:Ex)(ih:XD v l):xt v (.call a op l):=by
 intro vs e u uh fp w S hEn hEx hEs ho hlt hS;have u0:=af.up w S fp;have hse:=af.eQ w S fp hS;obtain⟨hE0,hN0⟩:=hEn;obtain⟨hx0,hv0⟩:=hEx;have hEs1:=hEs.mono hse;have hv1:=hv0.mono hse;have hN1:=eT.mono hse hN0;simp only[cw]at hx0
 refine fh (nt:=133) S #[e] [.tmp 4] (by show 1<=7;omega) ho hlt Tryz.func65 rfl rfl rfl ?_;cases hv1 with
 |call _ _ eo ec xs _ g1 g2 g3=>
 refine vR Γ0 aC ?_;refine vR Γ0 aC ?_;refine Wp.seq ?_;refine vR Γ0 aC ?_;refine Wp.block ?_;refine vR Γ0 aC ?_;refine wC aC (λhc=>?_) (λhc=>?_)
 ·cases hc
 refine vR Γ0 aC ?_;refine wC aC (λhc=>?_) (λhc=>?_)
 ·cases hc
 refine vR Γ0 aC ?_;refine wC aC (λhc=>?_) (λhc=>?_)
 ·cases hc
 refine vR Γ0 aC ?_;refine wC aC (λhc=>?_) (λhc=>?_)
 ·cases hc
 refine vR Γ0 aC ?_;refine wC aC (λhc=>?_) (λhc=>?_)
 ·cases hc
 refine vR Γ0 aC ?_;refine wC aC (λhc=>?_) (λhc=>?_)
 ·cases hc
 refine vR Γ0 aC ?_;refine wC aC (λhc=>?_) (λhc=>?_)
 rotate_left
 ·cases hc
 refine vR Γ0 aC ?_;have hxx:cw (.call a op l):=by simp only[cw];exact hx0
 cases hU:ri v a op l with
 |error e=>
  obtain⟨c,j⟩:=e;have hE:aP v (.call a op l)=.error (c,j):=by rw[yc,hU];rfl
  rw[hE,aH];refine Wp.dF (akT (af w S fp) v vs a op l ih eo ec xs) aM (ev (aa aC hU)) ?_ ?_
  ·exact⟨⟨⟨hE0,hN1⟩,⟨hxx,g2⟩,g1,g3,hEs1⟩,dE,λ_ h=>h.elim⟩
  refine qq ?_;exact⟨_,rfl⟩
 |ok t0=>
 have hsz:cq t0<=fY:=by
  unfold ri at hU;split at hU
  ·cases hU
  ·rename_i ts hts;exact TK (KI hE0 hx0.2.2.2.2 hts).1 hU
 refine wr (akT (af w S fp) v vs a op l ih eo ec xs) (aa aC hU) ?_ ?_
 ·exact⟨⟨⟨hE0,hN1⟩,⟨hxx,g2⟩,g1,g3,hEs1⟩,dE,(λ_ h=>h.elim),u0⟩
 refine Wp.da 239 (ev aC) (aY.refl _ _) λW3 bs3 cs hx3 hΦ3=>?_
 obtain⟨vo,rfl,hg3,hv3⟩:=CN hΦ3;have hvo:=hg3;have hD:qY W3 vo=t0:=cl hvo;have hO:eS W3 (Out bs3) vo t0:=hvo.mono λb _ hb=>⟨rfl,hb.2⟩
 have hpl:=λW bs κ hh=>xq (af w S fp) (W:=W) (bs:=bs) (κ:=κ) (hh:=hh) hv0
 refine Wp.seq ?_;refine wR (qD (af w S fp)) (bw aC hD hv3) ?_ ?_
 ·exact⟨_,hO,hsz⟩
 refine wC aC (λhc=>?_) (λhc=>?_)
 ·have hbig:2000<cq t0:=by
   simp at hc;omega
  have hE:aP v (.call a op l)=lS a t0:=by rw[yc,hU];rfl
  rw[hE,lS,if_pos hbig,aH];refine Wp.dF (qD (af w S fp)) aM (ev (aa aC hpl)) ?_ ?_
  ·first|trivial|exact⟨_,_,rfl⟩
  refine qq ?_;exact⟨_,rfl⟩
 ·have hbig:¬ 2000<cq t0:=by
   simp at hc;omega
  have hE:aP v (.call a op l)=lS a t0:=by rw[yc,hU];rfl
  rw[hE,lS,if_neg hbig,cV];refine wK ?_;refine vR Γ0 aC ?_;refine wZ (aa aC hv3) ?_
  exact eA (λE=>rfl) hvo rfl (by simp only[iO,Op.operands,Value.cells,σ0,σB,Nat.reduceEqDiff,Nat.reduceAdd,Nat.reduceMul,Nat.reduceLT,Nat.reduceLeDiff,Nat.reduceBEq,av,Int.reduceToNat,Int.reduceLT,Int.reduceLE,Nat.reduceDiv,Nat.reduceMod,Nat.reduceSub,Int.reducePow,Nat.reducePow,σP,σB3,aC,aq,eP,cL,cj]<;>rfl) dE
theorem ZG(v:En)(a:Nat)(x:Ex)(ih:xt v x):xt v (.keyed a x):=by
 intro vs e u uh fp w S hEn hEx hEs ho hlt hS;have u0:=af.up w S fp;have hse:=af.eQ w S fp hS;obtain⟨hE0,hN0⟩:=hEn;obtain⟨hx0,hv0⟩:=hEx;have hEs1:=hEs.mono hse;have hv1:=hv0.mono hse;have hN1:=eT.mono hse hN0;simp only[cw]at hx0
 refine fh (nt:=133) S #[e] [.tmp 4] (by show 1<=7;omega) ho hlt Tryz.func65 rfl rfl rfl ?_;cases hv1 with
 |keyed _ z _ gx=>
 refine vR Γ0 aC ?_;refine vR Γ0 aC ?_;refine Wp.seq ?_;refine vR Γ0 aC ?_;refine Wp.block ?_;refine vR Γ0 aC ?_;refine wC aC (λhc=>?_) (λhc=>?_)
 ·cases hc
 refine vR Γ0 aC ?_;refine wC aC (λhc=>?_) (λhc=>?_)
 ·cases hc
 refine vR Γ0 aC ?_;refine wC aC (λhc=>?_) (λhc=>?_)
 ·cases hc
 refine vR Γ0 aC ?_;refine wC aC (λhc=>?_) (λhc=>?_)
 rotate_left
 ·cases hc
 refine wR Γ0 (aa aC gx.parts) ?_ ?_
 ·first|trivial|exact gx.one
 cases hF:aP v x with
 |error e=>
  obtain⟨c,j⟩:=e;have hE:aP v (.keyed a x)=.error (c,j):=by simp only[aP,hF,cc]
  rw[hE,aH];refine Wp.bn (EL (af w S fp) v x ih vs) aM (ev (bw aC hF gx.parts)) ?_ ?_
  ·exact⟨⟨gx,⟨hE0,hN1⟩,hx0.2,hEs1⟩,dE,λ_ h=>h.elim⟩
  refine qq ?_;exact⟨_,rfl⟩
 |ok t=>
 have hS1:=pF hE0 hx0.2 hF;cases t with
 |text b s=>
  have hE:aP v (.keyed a x)=.error (72,(a:Nat)):=by simp only[aP,hF,cc,G3,gW]
  rw[hE,aH];refine wR (EL (af w S fp) v x ih vs) (bw aC hF gx.parts) ?_ ?_
  ·exact⟨⟨gx,⟨hE0,hN1⟩,hx0.2,hEs1⟩,dE,(λ_ h=>h.elim),u0⟩
  refine Wp.seq ?_;refine vR Γ0 aC ?_;refine wC aC (λhc=>?_) (λhc=>?_)
  rotate_left
  ·cases hc
  refine Wp.dF (EL (af w S fp) v x ih vs) aM (ev aC) ?_ ?_
  ·first|trivial|exact⟨_,_,rfl⟩
  refine qq ?_;exact⟨_,rfl⟩
 |rx b r=>
  have hE:aP v (.keyed a x)=.error (72,(a:Nat)):=by simp only[aP,hF,cc,G3,gW]
  rw[hE,aH];refine wR (EL (af w S fp) v x ih vs) (bw aC hF gx.parts) ?_ ?_
  ·exact⟨⟨gx,⟨hE0,hN1⟩,hx0.2,hEs1⟩,dE,(λ_ h=>h.elim),u0⟩
  refine Wp.seq ?_;refine vR Γ0 aC ?_;refine wC aC (λhc=>?_) (λhc=>?_)
  rotate_left
  ·cases hc
  refine Wp.dF (EL (af w S fp) v x ih vs) aM (ev aC) ?_ ?_
  ·first|trivial|exact⟨_,_,rfl⟩
  refine qq ?_;exact⟨_,rfl⟩
 |canon c=>
  have hE:aP v (.keyed a x)=.error (72,(a:Nat)):=by simp only[aP,hF,cc,G3,gW]
  rw[hE,aH];refine wR (EL (af w S fp) v x ih vs) (bw aC hF gx.parts) ?_ ?_
  ·exact⟨⟨gx,⟨hE0,hN1⟩,hx0.2,hEs1⟩,dE,(λ_ h=>h.elim),u0⟩
  refine Wp.seq ?_;refine vR Γ0 aC ?_;refine wC aC (λhc=>?_) (λhc=>?_)
  rotate_left
  ·cases hc
  refine Wp.dF (EL (af w S fp) v x ih vs) aM (ev aC) ?_ ?_
  ·first|trivial|exact⟨_,_,rfl⟩
  refine qq ?_;exact⟨_,rfl⟩
 |lens l=>
 obtain⟨t0,hK⟩:∃ t0,G3 a (.lens l)=.ok t0:=⟨_,rfl⟩;refine wR (EL (af w S fp) v x ih vs) (bw aC hF gx.parts) ?_ ?_
 ·exact⟨⟨gx,⟨hE0,hN1⟩,hx0.2,hEs1⟩,dE,(λ_ h=>h.elim),u0⟩
 refine Wp.da 175 (ev aC) (aY.refl _ _) λW2 bs2 cs hx2 hΦ2=>?_
 obtain⟨p,rfl,hp⟩:=hΦ2;have hvp:=hp.hv;have u2:=u0.ext hx2;refine Wp.seq ?_;refine vR Γ0 (aa aC hvp) ?_;refine wC aC (λhc=>?_) (λhc=>?_)
 ·cases hc
 refine wK ?_;refine vr Γ0 (bw aC hvp hp.parts) ?_;refine Wp.cS 272 (ev (aa aC hvp)) (λE=>by simp only[ai,den,hvp];exact rfl) λW3 bs3 b3 hx3 hb3 hn3 hc3=>?_
 refine Wp.ajh 5 ((ev (aa aC hvp))) ((ev (aa aC hvp))) ?_;have hb:bF (af w S fp) bs3 b3:=⟨u2 b3 hn3,hb3⟩;have hg3:eS W3 (bF (af w S fp) bs3) (.iface 197 (.pointer (some ⟨b3,0,none⟩))) (.lens (.mk a iP none ⟨#[]⟩ .nil l .nil)):=⟨_,rfl,rH (n:=none) hb hc3 .nil (hp.mono hx3.dW) .nil⟩;have hvo:=hg3
 have hD:qY W3 (.iface 197 (.pointer (some ⟨b3,0,none⟩)))=(.lens (.mk a iP none ⟨#[]⟩ .nil l .nil)):=cl hvo;have hO:eS W3 (Out bs3) (.iface 197 (.pointer (some ⟨b3,0,none⟩))) (.lens (.mk a iP none ⟨#[]⟩ .nil l .nil)):=hvo.mono λb _ hb=>⟨rfl,hb.2⟩
 have hpl:=λW bs κ hh=>xq (af w S fp) (W:=W) (bs:=bs) (κ:=κ) (hh:=hh) hv0
 refine Wp.seq ?_;refine wR (qD (af w S fp)) (bw aC hD hvp) ?_ ?_
 ·exact⟨_,hO,(Zd (a:=a) hS1.2 rfl)⟩
 refine wC aC (λhc=>?_) (λhc=>?_)
 ·have hbig:2000<cq (.lens (.mk a iP none ⟨#[]⟩ .nil l .nil)):=by
   simp at hc;omega
  have hE:aP v (.keyed a x)=lS a (.lens (.mk a iP none ⟨#[]⟩ .nil l .nil)):=by simp only[aP,hF,cc,G3]
  rw[hE,lS,if_pos hbig,aH];refine Wp.dF (qD (af w S fp)) aM (ev (aa aC hpl)) ?_ ?_
  ·first|trivial|exact⟨_,_,rfl⟩
  refine qq ?_;exact⟨_,rfl⟩
 ·have hbig:¬ 2000<cq (.lens (.mk a iP none ⟨#[]⟩ .nil l .nil)):=by
   simp at hc;omega
  have hE:aP v (.keyed a x)=lS a (.lens (.mk a iP none ⟨#[]⟩ .nil l .nil)):=by simp only[aP,hF,cc,G3]
  rw[hE,lS,if_neg hbig,cV];refine wK ?_;refine vR Γ0 aC ?_;refine wZ (aa aC hvp) ?_
  exact eA (λE=>rfl) hvo rfl (by simp only[iO,Op.operands,Value.cells,σ0,σB,Nat.reduceEqDiff,Nat.reduceAdd,Nat.reduceMul,Nat.reduceLT,Nat.reduceLeDiff,Nat.reduceBEq,av,Int.reduceToNat,Int.reduceLT,Int.reduceLE,Nat.reduceDiv,Nat.reduceMod,Nat.reduceSub,Int.reducePow,Nat.reducePow,σP,σB3,aC,aq,eP,cL,cj]<;>rfl) dE
theorem aeQ(v:En)(x:Ex):xt v x/\XD v x:=by
 induction x with
 |name a s=>exact⟨aeS v a s,trivial⟩
 |text a s=>exact⟨aeT v a s,trivial⟩
 |rx a s=>exact⟨alP v a s,trivial⟩
 |call a w l ih=>exact⟨aeR v a w l ih.2,trivial⟩
 |keyed a x ih=>exact⟨ZG v a x ih.1,trivial⟩
 |unary a op x ih=>exact⟨ZI v a op x ih.1,trivial⟩
 |binary a op x y ih ih2=>exact⟨Vd v a op x y ih.1 ih2.1,trivial⟩
 |nil=>exact⟨(λvs e u uh fp w S h1 h2=>by cases h2.2),trivial⟩
 |cons x l ih ih2=>exact⟨(λvs e u uh fp w S h1 h2=>by cases h2.2),ih.1,ih2.2⟩
theorem BS(v:En)(x:Ex):xt v x:=(aeQ v x).1
end
end Go.Proofs.YtnemkecffmdlnaaGreatDoor
