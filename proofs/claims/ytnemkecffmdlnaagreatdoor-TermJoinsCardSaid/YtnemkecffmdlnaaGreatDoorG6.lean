/-
 Part 6 of the proof (packed).
-/
import Derived.Test.YtnemkecffmdlnaaGreatDoorG5
set_option linter.unusedSimpArgs false
set_option linter.unusedVariables false
set_option linter.defProp false
set_option maxHeartbeats 16000000
namespace Go.Proofs.YtnemkecffmdlnaaGreatDoor
section
open Go Go.RowKit Go.LE
set_option maxRecDepth 10000
def pt:Option Rx->Value
 |none=>.nilIface
 |some r=>ay r
theorem se:∀ a b:Option Rx,pt a=pt b->a=b
 |none,none,_=>rfl
 |none,some r,h=>by cases r<;>cases h
 |some r,none,h=>by cases r<;>cases h
 |some r,some r',h=>by rw[bb r r' h]
inductive AO (W:World) (S:Nat->Prop):Value->Cn->Prop where
 |nil:AO W S (.pointer none) .nil
 | mk (b a:Nat) (op:ByteArray) (n:Option Rx) (to bk:ByteArray) (va vb:Value) (x y:Cn):XC W S b 0 (.int .i64 (a:Nat))->XC W S b 1 (.string op)->XC W S b 2 (pt n)->XC W S b 3 (.string to)->XC W S b 4 (.string bk) ->
   XC W S b 5 va->XC W S b 6 vb->AO W S va x->AO W S vb y->AO W S (.pointer (some ⟨b,0,none⟩)) (.mk a op n to bk x y)
inductive zz (W:World) (S:Nat->Prop):Value->Ln->Prop where
 |nil:zz W S (.pointer none) .nil
 | mk (b a:Nat) (op:ByteArray) (n:Option Rx) (tx:ByteArray) (vq va vb:Value) (q:Cn) (x y:Ln):XC W S b 0 (.int .i64 (a:Nat))->XC W S b 1 (.string op)->XC W S b 2 (pt n)->XC W S b 3 (.string tx)->XC W S b 4 vq ->
   XC W S b 5 va->XC W S b 6 vb->AO W S vq q->zz W S va x->zz W S vb y->zz W S (.pointer (some ⟨b,0,none⟩)) (.mk a op n tx q x y)
theorem AO.mono{W W' : World}{S S' : Nat->Prop}{v:Value}{c:Cn}(h:AO W S v c)(hs:aX W S W' S'):AO W' S' v c:=by
 induction h with
 |nil=>exact .nil
 |mk b a op n to bk va vb x y h0 h1 h2 h3 h4 h5 h6 _ _ i1 i2=>exact .mk b a op n to bk va vb x y (h0.mono hs) (h1.mono hs) (h2.mono hs) (h3.mono hs) (h4.mono hs) (h5.mono hs) (h6.mono hs) i1 i2
theorem zz.mono{W W' : World}{S S' : Nat->Prop}{v:Value}{l:Ln}(h:zz W S v l)(hs:aX W S W' S'):zz W' S' v l:=by
 induction h with
 |nil=>exact .nil
 |mk b a op n tx vq va vb q x y h0 h1 h2 h3 h4 h5 h6 hq _ _ i1 i2=>exact .mk b a op n tx vq va vb q x y (h0.mono hs) (h1.mono hs) (h2.mono hs) (h3.mono hs) (h4.mono hs) (h5.mono hs) (h6.mono hs) (hq.mono hs) i1 i2
theorem xcDet{W:World}{S S' : Nat->Prop}{b o:Nat}{v v' : Value}(h:XC W S b o v)(h' : XC W S' b o v'):v=v' := Option.some.inj (h.2.symm.trans h'.2)
theorem SO{a b:Nat}(h:Value.int .i64 (a:Int)=.int .i64 (b:Int)):a=b:=by
 cases h;rfl
theorem AO.E5{W:World}{S:Nat->Prop}{v:Value}{c:Cn}(h:AO W S v c):∀ {S' : Nat->Prop} {c' : Cn},AO W S' v c' -> c=c' := by
 induction h with
 |nil=>intro S' c' h';cases h';rfl
 | mk b a op n to bk va vb x y h0 h1 h2 h3 h4 h5 h6 _ _ i1 i2=>
  intro S' c' h';cases h' with
  |mk _ a' op' n' to' bk' va' vb' x' y' g0 g1 g2 g3 g4 g5 g6 gx gy=>
   obtain rfl:=SO (xcDet h0 g0);obtain rfl:=Value.string.inj (xcDet h1 g1);obtain rfl:=se _ _ (xcDet h2 g2);obtain rfl:=Value.string.inj (xcDet h3 g3);obtain rfl:=Value.string.inj (xcDet h4 g4);obtain rfl:=xcDet h5 g5;obtain rfl:=xcDet h6 g6;rw[i1 gx,i2 gy]
theorem zz.E5{W:World}{S:Nat->Prop}{v:Value}{l:Ln}(h:zz W S v l):∀ {S' : Nat->Prop} {l' : Ln},zz W S' v l' -> l=l' := by
 induction h with
 |nil=>intro S' c' h';cases h';rfl
 | mk b a op n tx vq va vb q x y h0 h1 h2 h3 h4 h5 h6 hq _ _ i1 i2=>
  intro S' c' h';cases h' with
  |mk _ a' op' n' tx' vq' va' vb' q' x' y' g0 g1 g2 g3 g4 g5 g6 gq gx gy=>
   obtain rfl:=SO (xcDet h0 g0);obtain rfl:=Value.string.inj (xcDet h1 g1);obtain rfl:=se _ _ (xcDet h2 g2);obtain rfl:=Value.string.inj (xcDet h3 g3);obtain rfl:=xcDet h4 g4;obtain rfl:=xcDet h5 g5;obtain rfl:=xcDet h6 g6;rw[hq.E5 gq,i1 gx,i2 gy]
def ek(W:World)(S:Nat->Prop)(v:Value):Tm->Prop
 |.text a s=>v=.iface 190 (.agg #[.int .i64 (a:Nat),.string s])
 |.rx a r=>v=.iface 192 (.agg #[.int .i64 (a:Nat),ay r])
 |.canon c=>∃ p,v=.iface 193 p/\AO W S p c
 |.lens l=>∃ p,v=.iface 197 p/\zz W S p l
theorem ek.mono{W W' : World}{S S' : Nat->Prop}{v:Value}{t:Tm}(h:ek W S v t)(hs:aX W S W' S'):ek W' S' v t:=by
 cases t with
 |text a s=>exact h
 |rx a r=>exact h
 |canon c=>obtain⟨p,h1,h2⟩:=h;exact⟨p,h1,h2.mono hs⟩
 |lens l=>obtain⟨p,h1,h2⟩:=h;exact⟨p,h1,h2.mono hs⟩
theorem ek.iface{W:World}{S:Nat->Prop}{v:Value}{t:Tm}(h:ek W S v t):∃ k u,v=.iface k u:=by
 cases t with
 |text a s=>exact⟨_,_,h⟩
 |rx a r=>exact⟨_,_,h⟩
 |canon c=>obtain⟨p,h1,h2⟩:=h;exact⟨_,_,h1⟩
 |lens l=>obtain⟨p,h1,h2⟩:=h;exact⟨_,_,h1⟩
theorem ek.one{W:World}{S:Nat->Prop}{v:Value}{t:Tm}(h:ek W S v t):v.oneCell' = true:=by
 obtain⟨k,u,rfl⟩:=h.iface;rfl
theorem ek.hv{W:World}{S:Nat->Prop}{v:Value}{t:Tm}(h:ek W S v t):hv v=v:=fQ h.one
theorem ek.E5{W:World}{S S' : Nat->Prop}{v:Value}{t t' : Tm}(h:ek W S v t)(h' : ek W S' v t'):t=t' := by
 cases t with
 | text a s=>
  cases h;cases t' with
  |text a' s' =>
   have h' : Value.iface _ _=Value.iface _ _:=h';simp only[Value.iface.injEq,Value.agg.injEq,true_and,Array.mk.injEq,List.cons.injEq,Value.int.injEq,Value.string.injEq,and_true]at h';obtain⟨h1,rfl⟩:=h';have:a=a' := oM;rw[this]
  |rx a' r=>exact absurd h' (by intro h';cases h')
  |canon c=>obtain⟨p,h1,_⟩:=h';cases h1
  |lens c=>obtain⟨p,h1,_⟩:=h';cases h1
 | rx a r=>
  cases h;cases t' with
  |rx a' r' =>
   have h' : Value.iface _ _=Value.iface _ _:=h';simp only[Value.iface.injEq,Value.agg.injEq,true_and,Array.mk.injEq,List.cons.injEq,Value.int.injEq,and_true]at h';obtain⟨h1,h2⟩:=h';have:a=a' := oM;rw[this,bb _ _ h2]
  |text a' r=>exact absurd h' (by intro h';cases h')
  |canon c=>obtain⟨p,h1,_⟩:=h';cases h1
  |lens c=>obtain⟨p,h1,_⟩:=h';cases h1
 | canon c=>
  obtain⟨p,rfl,h2⟩:=h;cases t' with
  |canon c' =>
   obtain⟨p',h1',h2'⟩:=h';cases h1';rw[h2.E5 h2']
  |text a s=>exact absurd h' (by intro h';cases h')
  |rx a r=>exact absurd h' (by intro h';cases h')
  |lens l=>obtain⟨p',h1',h2'⟩:=h';cases h1'
 | lens l=>
  obtain⟨p,rfl,h2⟩:=h;cases t' with
  |lens l' =>
   obtain⟨p',h1',h2'⟩:=h';cases h1';rw[h2.E5 h2']
  |text a s=>exact absurd h' (by intro h';cases h')
  |rx a r=>exact absurd h' (by intro h';cases h')
  |canon l=>obtain⟨p',h1',h2'⟩:=h';cases h1'
noncomputable def rE(W:World)(v:Value):Tm:=by
 classical exact if h:∃ t,ek W (λ_=>True) v t then h.choose else .text 0 ⟨#[]⟩
theorem ek.all{W:World}{S:Nat->Prop}{v:Value}{t:Tm}(h:ek W S v t):ek W (λ_=>True) v t:=h.mono λb _ _=>⟨rfl,trivial⟩
theorem bW{W:World}{S:Nat->Prop}{v:Value}{t:Tm}(h:ek W S v t):rE W v=t:=by
 have hex:∃ t,ek W (λ_=>True) v t:=⟨t,h.all⟩;unfold rE;rw[dif_pos hex];exact hex.choose_spec.E5 h
def dC:Cn->Nat
 |.nil=>0
 |.mk _ _ _ _ _ a b=>dC a+dC b+1
def dL:Ln->Nat
 |.nil=>0
 |.mk _ _ _ _ q a b=>dC q+dL a+dL b+1
def dT:Tm->Nat
 |.canon c=>dC c
 |.lens l=>dL l
 |_=>0
abbrev eS:Nat:=1152921504606846976
def aeI:=(ae @List.replicate_succ.{0} @List.replicate_zero.{0} @au @ab lx ly lA (ae di dj dk dm dB dD dF (ae dG eK eL eM eN eO eP (ae jS jT jU jV jW iH iI (ae iJ iK qs qt qu qv qw (ae qx qy qz qA oy oz oA (ae oB oC oD oE oF oG qB (ae qC qD qE qF qG qH qI (ae qJ qK qL qM qN qO qP (ae qQ qR qS qT mG mH mI (ae mJ mK mL mM mN mO mP (ae mQ mR mS mT mU mV mW (ae mX mY @aV @aw @aD @aF @BL (aa @aM @e8))))))))))))))
theorem ag7(s:ByteArray)(hs:s.size<=2305843009213693952)(w:World):Calls Tryz.prog 97 #[.string s] w λe w' => e=.returned (.int .i64 (mE s))/\an w [] w' := by
 refine ak (nt:=8) [.tmp 2] Tryz.func97 rfl rfl rfl ?_;refine vR Γ0 aeI ?_;refine vR Γ0 aeI ?_;refine wZ aeI ?_;refine λE=>?_
 simp only[den,mE]
 congr 1
 rw[ax (n:=2*(s.size:Int)) oM oM,ax oM oM];omega
def ag6:a8 Tryz.prog 97 where
 pre:=λW bs=>λ| [.val (.string s)]=>s.size<=2305843009213693952|_=>False
 res:=λW=>λ| [.val (.string s)]=>.int .i64 (mE s)|_=>undef
 enters:=Tryz.call97
 ok:=by
  intro W w bs us as_ hk hu hp;split at hp
  ·rename_i s
   match us,hu with
   |[u0],hu=>
    obtain⟨rfl,_⟩:=hu;exact ag7 s hp w
  ·exact hp.elim
theorem MZ(W:World)(s:ByteArray):ag6.res W [.val (.string s)]=.int .i64 (mE s):=rfl
theorem MY(W:World)(bs:List Nat)(s:ByteArray):ag6.pre W bs [.val (.string s)]=(s.size<=2305843009213693952):=rfl
noncomputable def anq(n:Nat):Env Tryz.prog:=⟨λf=>spS n (pq n) f,λ_=>none,mtS⟩
theorem adX{n:Nat}{W:World}{bs:List Nat}{κ:Nat}{hh:Hp}(r:Rx):aI (anq n) W bs κ hh "Size" [.v (ay r)]=⟨bO r<n/\bO r<=1152921504606846976,.v (.int .i64 (bO r)),[],none,[],[]⟩:=
 B1 n (pq n) rfl (λt f hf=>rfl) r
def ES:=(fg aeI @MZ @MY @adX)
theorem af0(n:Option Rx)(hs:eg n<=eS)(w:World):Calls Tryz.prog 98 #[pt n] w λe w' => e=.returned (.int .i64 (eg n))/\an w [] w' := by
 cases n with
 | none=>
  refine ak (nt:=7) [.tmp 2] Tryz.func98 rfl rfl rfl ?_;refine vR Γ0 (bp ES @pt.eq_1 @pt.eq_2) ?_;refine Wp.seq ?_;refine vR Γ0 ES ?_;refine wC ES (λhc=>?_) (λhc=>?_)
  ·skip;refine vR Γ0 ES ?_;refine wZ ES ?_;exact λE=>rfl
  ·cases hc
 | some r=>
  refine ak (nt:=7) [.tmp 2] Tryz.func98 rfl rfl rfl ?_;refine vR Γ0 (bp ES @pt.eq_1 @pt.eq_2) ?_;refine Wp.seq ?_;refine vR Γ0 ES ?_;refine wC ES (λhc=>?_) (λhc=>?_)
  ·cases hc
  ·refine wK ?_;refine wR (anq (bO r+1)) ES ?_ ?_
   ·exact⟨Nat.lt_succ_self _,hs⟩
   refine wZ ES ?_;exact λE=>rfl
noncomputable def V4:a8 Tryz.prog 98 where
 pre:=λW bs=>λ| [.val y0]=>(match dec pt y0 with|some n=>eg n<=eS|_=>False)|_=>False
 res:=λW=>λ| [.val y0]=>(match dec pt y0 with|some n=>.int .i64 (eg n)|_=>undef)|_=>undef
 enters:=Tryz.call98
 ok:=by
  intro W w bs us as_ hk hu hp;split at hp
  ·rename_i y0;split at hp
   ·rename_i n h0
    match us,hu with
    |[u0],hu=>
     obtain⟨rfl,_⟩:=hu;obtain rfl:=gv h0
     try dsimp only
     try simp only[ca se]
     exact af0 n hp w
   ·exact hp.elim
  ·exact hp.elim
theorem aaQ(W:World)(n:Option Rx):V4.res W [.val (pt n)]=.int .i64 (eg n):=by simp only[V4,ca se]
theorem aaP(W:World)(bs:List Nat)(n:Option Rx):V4.pre W bs [.val (pt n)]=(eg n<=eS):=by simp only[V4,ca se]
abbrev zE (n:Nat):Prop:=∀ (t:Tm) (v:Value) (w:World),ek w (Out []) v t->dT t<n->br t<=eS->Calls Tryz.prog 58 #[v] w λe w' => e=.returned (.int .i64 (br t))/\an w [] w'
noncomputable def Gt(n:Nat)(h:zE n):a8 Tryz.prog 58 where
 pre:=λW bs as_=>∃ v t,as_=[.val v]/\ek W (Out bs) v t/\dT t<n/\br t<=eS
 res:=λW as_=>match as_ with
  |[.val v]=>.int .i64 (br (rE W v))
  |_=>undef
 enters:=Tryz.call58
 ok:=by
  intro W w bs us as_ hk hu hp;obtain⟨v,t,rfl,h1,h2,h3⟩:=hp
  match us,hu with
  |[x],hu=>
   obtain⟨rfl,_⟩:=hu;simp only[bW h1];exact h t x w (h1.mono λb hb hn=>⟨hk.block b hb hn,by simp[Out]⟩) h2 h3
theorem Gu(n:Nat)(h:zE n)(W:World)(bs:List Nat)(v:Value):(Gt n h).pre W bs [.val v]=∃ t,ek W (Out bs) v t/\dT t<n/\br t<=eS:=by
 apply propext;constructor
 ·rintro⟨v',t,h1,h2⟩;cases h1;exact⟨t,h2⟩
 ·exact λ⟨t,h2⟩=>⟨v,t,rfl,h2⟩
theorem Gv(n:Nat)(h:zE n)(W:World)(v:Value):(Gt n h).res W [.val v]=.int .i64 (br (rE W v)):=rfl
noncomputable def Fv(n:Nat)(h:zE n)(k:Nat):Env Tryz.prog:=⟨λ| 97=>some ag6.spec|98=>some V4.spec|58=>some (Gt n h).spec|f=>spS k (pq k) f,λ_=>none,mtS⟩
section
variable (n:Nat)(h:zE n)(k:Nat)
theorem ahS:(Fv n h k).sp 97=some ag6.spec:=rfl
theorem ahT:(Fv n h k).sp 98=some V4.spec:=rfl
theorem ahR:(Fv n h k).sp 58=some (Gt n h).spec:=rfl
theorem adY{W:World}{bs:List Nat}{κ:Nat}{hh:Hp}(r:Rx):aI (Fv n h k) W bs κ hh "Size" [.v (ay r)]=⟨bO r<k/\bO r<=1152921504606846976,.v (.int .i64 (bO r)),[],none,[],[]⟩:=
 B1 k (pq k) rfl (λt f hf=>by
  unfold fnS at hf
  split at hf<;>cases hf<;>rfl) r
end
theorem amx(b:Nat):b∉([]:List Nat):=by simp
theorem wrS{a b:Int}(h0:0<=a)(h1:0<=b)(h2:a+b<=9223372036854775807):IntKind.i64.wrap (a+b)=a+b:=ax oM h2
def cD:=(ae @List.replicate_succ.{0} @List.replicate_zero.{0} @au @ab lx ly lA (ae di dj dk dm dB dD dF (ae dG eK eL eM eN eO eP (ae jS jT jU jV jW iH iI (ae iJ iK qs qt qu qv qw (ae qx qy qz qA oy oz oA (ae oB oC oD oE oF oG qB (ae qC qD qE qF qG qH qI (ae qJ qK qL qM qN qO qP (ae qQ qR qS qT mG mH mI (ae mJ mK mL mM mN mO mP (ae mQ mR mS mT mU mV mW (ae mX mY @aV @aw @aD @aF @aM (ae @e8 @ahS @ahT @ahR @adY @Gu @Gv (nu @gE @MZ @MY @aaQ @aaP)))))))))))))))
theorem Xl(n:Nat)(h:zE n):zE (n+1):=by
 intro t v w hv hd hsz;refine ak (nt:=105) [.tmp 2] Tryz.func58 rfl rfl rfl ?_;refine vR Γ0 cD ?_;refine Wp.seq ?_;refine vR Γ0 cD ?_;refine Wp.block ?_;cases t with
 | text a s=>
  obtain rfl:v=_:=hv;have hs:mE s<=eS:=hsz;have hs2:s.size<=2305843009213693952:=by unfold mE eS at hs;omega
  refine vR Γ0 cD ?_;refine wC cD (λhc=>?_) (λhc=>?_)
  ·skip;refine vR Γ0 cD ?_;refine vR (Fv n h 0) cD ?_;refine wZ cD ?_;exact λE=>rfl
  ·first|cases hc|exact absurd hc sI
 | rx a r=>
  obtain rfl:v=_:=hv;have hs:bO r<=eS:=hsz;refine vR Γ0 cD ?_;refine wC cD (λhc=>?_) (λhc=>?_)
  ·first|cases hc|exact absurd hc sI
  refine vR Γ0 cD ?_;refine wC cD (λhc=>?_) (λhc=>?_)
  ·skip;refine wR Γ0 cD ?_ ?_
   ·exact aM r
   refine wR (Fv n h (bO r+1)) cD ?_ ?_
   ·exact⟨Nat.lt_succ_self _,hs⟩
   refine wZ cD ?_;exact λE=>rfl
  ·first|cases hc|exact absurd hc sI
 | canon c=>
  obtain⟨p,rfl,hc0⟩:=hv;refine vR Γ0 cD ?_;refine wC cD (λhc=>?_) (λhc=>?_)
  ·first|cases hc|exact absurd hc sI
  refine vR Γ0 cD ?_;refine wC cD (λhc=>?_) (λhc=>?_)
  ·first|cases hc|exact absurd hc sI
  refine vR Γ0 cD ?_;refine wC cD (λhc=>?_) (λhc=>?_)
  rotate_left
  ·first|cases hc|exact absurd hc sI
  cases hc0 with
  | nil=>
   refine vR Γ0 cD ?_;refine Wp.seq ?_;refine vR Γ0 cD ?_;refine wC cD (λhc=>?_) (λhc=>?_)
   ·skip;refine vR Γ0 cD ?_;refine wZ cD ?_;exact λE=>rfl
   ·first|cases hc|exact absurd hc sI
  | mk b a op nd to bk va vb x y h0 h1 h2 h3 h4 h5 h6 hx hy=>
   have ta:rE w (.iface 193 va)=.canon x:=bW (S:=Out []) ⟨va,rfl,hx⟩;have tb:rE w (.iface 193 vb)=.canon y:=bW (S:=Out []) ⟨vb,rfl,hy⟩;have tya:ek w (Out []) (.iface 193 va) (.canon x):=⟨va,rfl,hx⟩;have tyb:ek w (Out []) (.iface 193 vb) (.canon y):=⟨vb,rfl,hy⟩;simp only[dT,dC]at hd
   have hT:br (.canon (.mk a op nd to bk x y))=1+eg nd+dM x+dM y+(if op=jJ then mE to else 0):=rfl;have hbx:br (.canon x)=dM x:=rfl;have hby:br (.canon y)=dM y:=rfl;have hs1:1+eg nd+dM x+dM y<=1152921504606846976:=by
    rw[hT]at hsz;unfold eS at hsz;omega
   refine vR Γ0 cD ?_;refine Wp.seq ?_;refine vR Γ0 cD ?_;refine wC cD (λhc=>?_) (λhc=>?_)
   ·first|cases hc|exact absurd hc sI
   refine wK ?_;have w0:IntKind.i64.wrap ((1:Int)+((eg nd:Nat):Int))=(1:Int)+((eg nd:Nat):Int):=wrS oM oM oM;have w1:IntKind.i64.wrap ((1:Int)+((eg nd:Nat):Int)+((dM x:Nat):Int))=(1:Int)+((eg nd:Nat):Int)+((dM x:Nat):Int):=wrS oM oM oM
   have w2:IntKind.i64.wrap ((1:Int)+((eg nd:Nat):Int)+((dM x:Nat):Int)+((dM y:Nat):Int))=(1:Int)+((eg nd:Nat):Int)+((dM x:Nat):Int)+((dM y:Nat):Int):=wrS oM oM oM;refine kT (Fv n h 0) (ae cD ta tb h1.2 h2.2 h3.2 h5.2 (oQ h6.2 hbx hby w0 w1 w2)) ?_ ?_
   ·exact⟨by unfold eS;omega,⟨_,tya,by simp only[dT];omega,by rw[hbx];unfold eS;omega⟩,⟨_,tyb,by simp only[dT];omega,by rw[hby];unfold eS;omega⟩⟩
   refine Wp.seq ?_;refine vR Γ0 (aa cD h1.2) ?_;refine wC cD (λhc=>?_) (λhc=>?_)
   ·have ho:op=jJ:=by simpa [jJ,mm] using hc
    have hs3:1+eg nd+dM x+dM y+mE to<=1152921504606846976:=by
     rw[hT,if_pos ho]at hsz;exact hsz
    have hs4:to.size<=2305843009213693952:=by
     have:mE to<=1152921504606846976:=oM;unfold mE at this;omega
    refine wr (Fv n h 0) (aa cD h3.2) ?_ ?_
    ·exact hs4
    refine vR Γ0 cD ?_;refine wZ cD ?_;refine λE=>?_
    simp only[den];rw[hT,if_pos ho,wrS oM oM oM]
    push_cast
    rfl
   ·have ho:¬ op=jJ:=by simpa [jJ,mm] using hc
    refine wK ?_;refine vR Γ0 cD ?_;refine wZ cD ?_;refine λE=>?_
    simp only[den];rw[hT,if_neg ho]
    push_cast
    rfl
 | lens c=>
  obtain⟨p,rfl,hc0⟩:=hv;refine vR Γ0 cD ?_;refine wC cD (λhc=>?_) (λhc=>?_)
  ·first|cases hc|exact absurd hc sI
  refine vR Γ0 cD ?_;refine wC cD (λhc=>?_) (λhc=>?_)
  ·first|cases hc|exact absurd hc sI
  refine vR Γ0 cD ?_;refine wC cD (λhc=>?_) (λhc=>?_)
  ·first|cases hc|exact absurd hc sI
  refine vR Γ0 cD ?_;refine wC cD (λhc=>?_) (λhc=>?_)
  rotate_left
  ·first|cases hc|exact absurd hc sI
  cases hc0 with
  | nil=>
   refine vR Γ0 cD ?_;refine Wp.seq ?_;refine vR Γ0 cD ?_;refine wC cD (λhc=>?_) (λhc=>?_)
   ·skip;refine vR Γ0 cD ?_;refine wZ cD ?_;exact λE=>rfl
   ·first|cases hc|exact absurd hc sI
  | mk b a op nd tx vq va vb q x y h0 h1 h2 h3 h4 h5 h6 hq hx hy=>
   have tq:rE w (.iface 193 vq)=.canon q:=bW (S:=Out []) ⟨vq,rfl,hq⟩;have ta:rE w (.iface 197 va)=.lens x:=bW (S:=Out []) ⟨va,rfl,hx⟩;have tb:rE w (.iface 197 vb)=.lens y:=bW (S:=Out []) ⟨vb,rfl,hy⟩;have tyq:ek w (Out []) (.iface 193 vq) (.canon q):=⟨vq,rfl,hq⟩
   have tya:ek w (Out []) (.iface 197 va) (.lens x):=⟨va,rfl,hx⟩;have tyb:ek w (Out []) (.iface 197 vb) (.lens y):=⟨vb,rfl,hy⟩;simp only[dT,dL]at hd;have hT:br (.lens (.mk a op nd tx q x y))=1+eg nd+dM q+gn x+gn y+(if op=mm then mE tx else 0):=rfl;have hbq:br (.canon q)=dM q:=rfl
   have hbx:br (.lens x)=gn x:=rfl;have hby:br (.lens y)=gn y:=rfl;have hs1:1+eg nd+dM q+gn x+gn y<=1152921504606846976:=by
    rw[hT]at hsz;unfold eS at hsz;omega
   refine vR Γ0 cD ?_;refine Wp.seq ?_;refine vR Γ0 cD ?_;refine wC cD (λhc=>?_) (λhc=>?_)
   ·first|cases hc|exact absurd hc sI
   refine wK ?_;have w0:IntKind.i64.wrap ((1:Int)+((eg nd:Nat):Int))=(1:Int)+((eg nd:Nat):Int):=wrS oM oM oM;have w1:IntKind.i64.wrap ((1:Int)+((eg nd:Nat):Int)+((dM q:Nat):Int))=(1:Int)+((eg nd:Nat):Int)+((dM q:Nat):Int):=wrS oM oM oM
   have w2:IntKind.i64.wrap ((1:Int)+((eg nd:Nat):Int)+((dM q:Nat):Int)+((gn x:Nat):Int))=(1:Int)+((eg nd:Nat):Int)+((dM q:Nat):Int)+((gn x:Nat):Int):=wrS oM oM oM
   have w3:IntKind.i64.wrap ((1:Int)+((eg nd:Nat):Int)+((dM q:Nat):Int)+((gn x:Nat):Int)+((gn y:Nat):Int))=(1:Int)+((eg nd:Nat):Int)+((dM q:Nat):Int)+((gn x:Nat):Int)+((gn y:Nat):Int):=wrS oM oM oM
   refine kT (Fv n h 0) (ae cD tq ta tb h1.2 h2.2 h3.2 (ae h4.2 h5.2 h6.2 hbq hbx hby w0 (bp w1 w2 w3))) ?_ ?_
   ·exact⟨by unfold eS;omega,⟨_,tyq,by simp only[dT];omega,by rw[hbq];unfold eS;omega⟩,⟨_,tya,by simp only[dT];omega,by rw[hbx];unfold eS;omega⟩,⟨_,tyb,by simp only[dT];omega,by rw[hby];unfold eS;omega⟩⟩
   refine Wp.seq ?_;refine vR Γ0 (aa cD h1.2) ?_;refine wC cD (λhc=>?_) (λhc=>?_)
   ·have ho:op=mm:=by simpa [jJ,mm] using hc
    have hs3:1+eg nd+dM q+gn x+gn y+mE tx<=1152921504606846976:=by
     rw[hT,if_pos ho]at hsz;exact hsz
    have hs4:tx.size<=2305843009213693952:=by
     have:mE tx<=1152921504606846976:=oM;unfold mE at this;omega
    refine wr (Fv n h 0) (aa cD h3.2) ?_ ?_
    ·exact hs4
    refine vR Γ0 cD ?_;refine wZ cD ?_;refine λE=>?_
    simp only[den];rw[hT,if_pos ho,wrS oM oM oM]
    push_cast
    rfl
   ·have ho:¬ op=mm:=by simpa [jJ,mm] using hc
    refine wK ?_;refine vR Γ0 cD ?_;refine wZ cD ?_;refine λE=>?_
    simp only[den];rw[hT,if_neg ho]
    push_cast
    rfl
theorem Da:∀ n,zE n
 |0=>λt v w _ h=>absurd h (Nat.not_lt_zero _)
 |n+1=>Xl n (Da n)
noncomputable def uo:Env Tryz.prog:=⟨λ| 245=>some ofC.spec|_=>none,λ_=>none,λ_ _=>none⟩
theorem adZ:uo.sp 245=some ofC.spec:=rfl
def Yn(s:ByteArray):Nat->Value
 |0=>.nilIface
 |k+1=>ay (nX s (k+1))
theorem an6(s:ByteArray)(k:Nat)(h:k<s.size):(s.extract k (k+1)).size=1:=by rw[ByteArray.size_extract];omega
def lQ:=(ae @List.replicate_succ.{0} @List.replicate_zero.{0} @au @ab lx ly lA (ae di dj dk dm dB dD dF (ae dG eK eL eM eN eO eP (ae iH iI iJ iK xz xA xB (ae xC D9 Ea Eb Ec Ed Ee (ae Ef Eg Eh Ei Ej Ek El (ae Em Eo Ep xJ xK xL xM (ae Tx Ty Tz TA TB TC TD (ae TF @aV @aw @aD @aF @BL @aM (ae @dw @cT @nr @np @kK @re @iZ (fg @cf @SW @SU @adZ)))))))))))
theorem WS(s:ByteArray)(hs:s.size<=140737488351232)(w:World):Calls Tryz.prog 208 #[.string s] w λe w' => e=.returned (ay (GF s))/\an w [] w' := by
 refine ak (nt:=33) [.tmp 2] Tryz.func208 rfl rfl rfl ?_;refine vR uo lQ ?_;refine Wp.seq ?_;refine vR uo lQ ?_;refine wC lQ (λhc=>?_) (λhc=>?_)
 ·have h0:s=⟨#[]⟩:=by simpa using hc
  subst h0;refine vR uo lQ ?_;refine wZ lQ ?_;exact λE=>rfl
 have h0:¬ s=⟨#[]⟩:=by simpa using hc
 have hpos:0<s.size:=by
  rcases Nat.eq_zero_or_pos s.size with h|h
  ·exact absurd (ByteArray.size_eq_zero_iff.1 h) h0
  ·exact h
 refine wK ?_;refine vR uo lQ ?_;refine Wp.seq ?_;refine vR uo lQ ?_;refine Wp.block ?_;refine Wp.loop (λk:Nat=>⟨1,eA [(0,.is (.v (.string s))),(3,.is (.v (Yn s k))),(11,.is (.v (.int .i64 s.size))),(12,.is (.v (.int .i64 (k:Nat))))],dS []⟩) (λk=>k<=s.size) (λk=>s.size-k) 0 ?_ (Nat.zero_le _) ?_
 ·exact wM (λk=>.key k) (bp lQ @Yn.eq_1 @Yn.eq_2)
 rintro k h1;refine vR uo lQ ?_;refine Wp.seq ?_;refine wC lQ (λhc=>?_) (λhc=>?_)
 ·have hk:k<s.size:=by simp at hc;omega
  have wn:IntKind.i64.wrap ((k:Int)+1)=((k+1:Nat):Int):=wW;have hx:=an6 s k hk;refine wK ?_;refine Wp.seq (Wp.block ?_);refine vR uo lQ ?_;refine wR uo (bp lQ wn hx) ?_ ?_
  ·first|exact⟨oM,oM,oM⟩|exact⟨oM,oM,oM,oM⟩|skip
  cases k with
  | zero=>
   refine vR uo (bp lQ @Yn.eq_1 @Yn.eq_2) ?_;refine wC lQ (λhc=>?_) (λhc=>?_)
   ·skip;refine vr uo lQ ?_;refine vr uo (aa lQ wn) ?_;refine⟨1,oM,oM,?_⟩;exact wM (λk=>.key k) (oQ lQ @Yn.eq_1 @Yn.eq_2 @nX.eq_1 @nX.eq_2 @nX.eq_3)
   ·cases hc
  | succ k=>
   refine vR uo (bp lQ @Yn.eq_1 @Yn.eq_2) ?_;refine wC lQ (λhc=>?_) (λhc=>?_)
   ·cases hc
   ·skip;refine vr uo lQ ?_;refine vr uo (aa lQ wn) ?_;refine⟨k+2,oM,oM,?_⟩;exact wM (λk=>.key k) (oQ lQ @Yn.eq_1 @Yn.eq_2 @nX.eq_1 @nX.eq_2 @nX.eq_3)
 ·have hk:k=s.size:=by simp at hc;omega
  subst hk;refine wE ?_;refine vR uo lQ ?_;refine wZ lQ ?_;refine λE=>?_
  obtain⟨m,hm⟩:∃ m,s.size=m+1:=⟨s.size-1,oM⟩;simp only[den,GF,hm,Yn]
def Im:a8 Tryz.prog 208 where
 pre:=λW bs=>λ| [.val (.string s)]=>s.size<=140737488351232|_=>False
 res:=λW=>λ| [.val (.string s)]=>ay (GF s)|_=>undef
 enters:=Tryz.call208
 ok:=by
  intro W w bs us as_ hk hu hp;split at hp
  ·rename_i s
   match us,hu with
   |[u0],hu=>
    obtain⟨rfl,_⟩:=hu;exact WS s hp w
  ·exact hp.elim
theorem Qh(W:World)(s:ByteArray):Im.res W [.val (.string s)]=ay (GF s):=rfl
theorem Qg(W:World)(bs:List Nat)(s:ByteArray):Im.pre W bs [.val (.string s)]=(s.size<=140737488351232):=rfl
def Xn:Tm->Prop
 |.text _ s=>s.size<=140737488351232
 |_=>True
def Un:Option Rx->Value
 |none=>.tuple #[.nilIface,.bool false]
 |some r=>.tuple #[ay r,.bool true]
noncomputable def uq:Env Tryz.prog:=⟨λ| 208=>some Im.spec|_=>none,λ_=>none,λ_ _=>none⟩
theorem ad0:uq.sp 208=some Im.spec:=rfl
def km:=(ae @List.replicate_succ.{0} @List.replicate_zero.{0} @au @ab lx ly lA (ae di dj dk dm dB dD dF (ae dG eK eL eM eN eO eP (ae JU JV JW JX oH oI oJ (ae oK vn vt vu vv vz vA (ae vB vC vD vE jS jT jU (ae jV jW iH iI iJ iK qs (ae qt qu qv qw qx qy qz (ae qA oy oz oA oB oC oD (ae oE oF oG @aV @aw @aD @aF (nu @aM @cf @Qh @Qg @ad0)))))))))))
theorem aeA(t:Tm)(v:Value)(w:World)(S:Nat->Prop)(hv:ek w S v t)(hs:Xn t):Calls Tryz.prog 158 #[v] w λe w' => e=.returned (Un (ud t))/\an w [] w' := by
 refine ak (nt:=18) [.tmp 2,.tmp 3] Tryz.func158 rfl rfl rfl ?_;refine vR uq km ?_;refine Wp.seq ?_;refine vR uq km ?_;refine Wp.block ?_;cases t with
 | text a s=>
  obtain rfl:v=_:=hv;refine vR uq km ?_;refine wC km (λhc=>?_) (λhc=>?_)
  ·skip;refine vR uq km ?_;refine wR uq km ?_ ?_
   ·exact hs
   refine wZ km ?_;exact λE=>rfl
  ·cases hc
 | rx a r=>
  obtain rfl:v=_:=hv;refine vR uq km ?_;refine wC km (λhc=>?_) (λhc=>?_)
  ·cases hc
  refine vR uq km ?_;refine wC km (λhc=>?_) (λhc=>?_)
  ·skip;refine wR uq km ?_ ?_
   ·exact aM r
   refine vR uq km ?_;refine wZ km ?_;exact λE=>rfl
  ·cases hc
 |canon c=>
  obtain⟨p,rfl,hc0⟩:=hv;refine vR uq km ?_;refine wC km (λhc=>?_) (λhc=>?_)
  ·cases hc
  refine vR uq km ?_;refine wC km (λhc=>?_) (λhc=>?_)
  ·cases hc
  refine wK ?_;refine vR uq km ?_;refine wZ km ?_;exact λE=>rfl
 |lens c=>
  obtain⟨p,rfl,hc0⟩:=hv;refine vR uq km ?_;refine wC km (λhc=>?_) (λhc=>?_)
  ·cases hc
  refine vR uq km ?_;refine wC km (λhc=>?_) (λhc=>?_)
  ·cases hc
  refine wK ?_;refine vR uq km ?_;refine wZ km ?_;exact λE=>rfl
noncomputable def Uo:a8 Tryz.prog 158 where
 pre:=λW bs as_=>∃ v t,as_=[.val v]/\ek W (Out bs) v t/\Xn t
 res:=λW as_=>match as_ with
  |[.val v]=>Un (ud (rE W v))
  |_=>undef
 enters:=Tryz.call158
 ok:=by
  intro W w bs us as_ hk hu hp;obtain⟨v,t,rfl,h1,h2⟩:=hp
  match us,hu with
  |[x],hu=>
   obtain⟨rfl,_⟩:=hu;simp only[bW h1];exact aeA t x w (λ_=>True) (h1.mono λb hb hn=>⟨hk.block b hb hn,trivial⟩) h2
theorem Bs(W:World)(bs:List Nat)(v:Value):Uo.pre W bs [.val v]=∃ t,ek W (Out bs) v t/\Xn t:=by
 apply propext;constructor
 ·rintro⟨v',t,h1,h2⟩;cases h1;exact⟨t,h2⟩
 ·exact λ⟨t,h2⟩=>⟨v,t,rfl,h2⟩
theorem Bt(W:World)(v:Value):Uo.res W [.val v]=Un (ud (rE W v)):=rfl
theorem VX(c i:Int)(w:World)(S:Nat->Prop):Calls Tryz.prog 64 #[.int .i64 c,.int .i64 i] w λe w' => lI w S e w' (.pan (bf c i) .nilIface):=by
 refine eV (nt:=8) S [] Tryz.func64 rfl rfl rfl ?_;refine Wp.dJ Γ0 aN (ev (bp km @bf.eq_1 @pR.eq_1)) ?_ ?_
 ·exact oo
 refine qq ?_;exact⟨_,rfl⟩
def ie:me Tryz.prog 64 where
 kinds:=[none,none]
 pre:=λas_ _ _=>∃ c i,as_=[.val (.int .i64 c),.val (.int .i64 i)]
 premono:=λ_ _ _ _ _ _ h=>h
 out:=λas_=>match as_ with
  |[.val (.int _ c),.val (.int _ i)]=>.pan (bf c i) .nilIface
  |_=>.val undef
 enters:=Tryz.call64
 ok:=by
  intro w S us as_ hu hp;obtain⟨c,i,rfl⟩:=hp
  match us,hu with
  |[x,y],hu=>
   obtain⟨rfl,rfl,_⟩:=hu;exact VX c i w S
def tmF(t:Tm):FK:=⟨λcs W S=>∃ v,cs=[v]/\ek W S v t,λhs ⟨v,h1,h2⟩=>⟨v,h1,h2.mono hs⟩⟩
theorem Dk{W:World}{S:Nat->Prop}{t:Tm}{cs:List Value}(h:(tmF t).Φ cs W S):∃ v,cs=[v]/\ek W S v t/\hv v=v:=by
 obtain⟨v,h1,h2⟩:=h;exact⟨v,h1,h2,h2.hv⟩
def LR:TE->FOut
 |.ok t=>.fact Sh.one (tmF t)
 |.error (c,a)=>.pan (bf c a) .nilIface
theorem S2(t:Tm):LR (.ok t)=.fact Sh.one (tmF t):=rfl
theorem CB(c a:Int):LR (.error (c,a))=.pan (bf c a) .nilIface:=rfl
theorem eI{t:Tm}{w W1:World}{S:Nat->Prop}{bs1:List Nat}{x:SV}{v:Value}(hd:∀ E,den E x=v)(h:ek W1 (bJ (aG w S) bs1) v t):G4 w S W1 bs1 x (.fact Sh.one (tmF t)):=
 ⟨[v],λE=>(hd E).trans (tN h.hv).symm,v,rfl,h⟩
noncomputable def rf(G:Nat->Prop):Env Tryz.prog:=⟨λ| 158=>some Uo.spec|64=>some (ie.spec G)|_=>none,λ_=>none,λ_ _=>none⟩
theorem NQ(G:Nat->Prop):(rf G).sp 158=some Uo.spec:=rfl
theorem TV(G:Nat->Prop):(rf G).sp 64=some (ie.spec G):=rfl
theorem AO.parts{W:World}{S:Nat->Prop}{v:Value}{c:Cn}(h:AO W S v c):partsOf (.v v)=[.v v]:=by cases h<;>rfl
theorem zz.parts{W:World}{S:Nat->Prop}{v:Value}{c:Ln}(h:zz W S v c):partsOf (.v v)=[.v v]:=by cases h<;>rfl
theorem kD(P:Program)(T:TypeId)(k o:Nat):oq P T [.own k o]=⟨P.concrete T=true,.nO T (.own k o),[],none,[],[]⟩:=rfl
theorem unS{a:Nat}{op:ByteArray}{t:Tm}{n:Rx}(h:ud t=some n):AM a op t=.ok (.rx a (if op=kf then .star n else if op=uX then .cat n (.star n) else .alt n .eps)):=by
 cases t<;>simp only[ud]at h<;>first|(cases h;done)|(cases h;rfl)
theorem rC{x y:ByteArray}(h:decide (x=y)=true):x=y:=by simpa using h
theorem rB{x y:ByteArray}(h:decide (x=y)=false):¬ x=y:=by simpa using h
theorem sc{W:World}{S:Nat->Prop}{b a:Nat}{op tx:ByteArray}{n:Option Rx}{vq va vb:Value}{q:Cn}{x y:Ln}{T:TypeId}(hS:S b)(hc:W.heap[b]?=some (.cells #[.int .i64 (a:Nat),.string op,pt n,.string tx,vq,va,vb] T (0,0)))
  (hq:AO W S vq q) (hx:zz W S va x) (hy:zz W S vb y):zz W S (.pointer (some ⟨b,0,none⟩)) (.mk a op n tx q x y):=
 .mk b a op n tx vq va vb q x y ⟨hS,by simp[World.cell?,hc]⟩ ⟨hS,by simp[World.cell?,hc]⟩ ⟨hS,by simp[World.cell?,hc]⟩ ⟨hS,by simp[World.cell?,hc]⟩ ⟨hS,by simp[World.cell?,hc]⟩ ⟨hS,by simp[World.cell?,hc]⟩ ⟨hS,by simp[World.cell?,hc]⟩ hq hx hy
theorem VZ{W:World}{S:Nat->Prop}{b a:Nat}{op to bk:ByteArray}{n:Option Rx}{va vb:Value}{x y:Cn}{T:TypeId}(hS:S b)(hc:W.heap[b]?=some (.cells #[.int .i64 (a:Nat),.string op,pt n,.string to,.string bk,va,vb] T (0,0)))
  (hx:AO W S va x) (hy:AO W S vb y):AO W S (.pointer (some ⟨b,0,none⟩)) (.mk a op n to bk x y):=
 .mk b a op n to bk va vb x y ⟨hS,by simp[World.cell?,hc]⟩ ⟨hS,by simp[World.cell?,hc]⟩ ⟨hS,by simp[World.cell?,hc]⟩ ⟨hS,by simp[World.cell?,hc]⟩ ⟨hS,by simp[World.cell?,hc]⟩ ⟨hS,by simp[World.cell?,hc]⟩ ⟨hS,by simp[World.cell?,hc]⟩ hx hy
def dH:=(ae @List.replicate_succ.{0} @List.replicate_zero.{0} @au @ab lx ly lA (ae di dj dk dm dB dD dF (ae dG eK eL eM eN eO eP (ae oH oI oJ oK jS jT jU (ae jV jW iH iI iJ iK oy (ae oz oA oB oC oD oE oF (ae oG qB qC qD qE qF qG (ae qH qI qJ qK qL qM qN (ae qO qP qQ qR qS qT mG (ae mH mI mJ mK mL mM mN (ae mO mP mQ mR mS mT mU (ae mV mW mX mY DB DC DD (ae DE DF DG DH DI DJ DK (ae RQ RR M5 M6 M7 M8 M9 (ae Na Nb Nc D9 Ea Eb Ec (ae Ed Ee Ef Eg Eh Ei Ej (ae Ek El Em Eo Ep GK GL (ae GM GN GO GP GQ GR GS (ae @kD @aV @aw @aD @aF @cP @aM (oQ @cf @NQ @TV @Bt @Bs @ie.eq_1))))))))))))))))))))
theorem XW(a:Nat)(op:ByteArray)(ea:Value)(t:Tm)(v:Value)(w:World)(S:Nat->Prop)(hea:ea.oneCell' = true)(hv:ek w S v t)(hs:Xn t) :
  Calls Tryz.prog 103 #[.agg #[.int .i64 (a:Nat),.string op,ea],v] w λe w' => lI w S e w' (LR (AM a op t)):=by
 have hD:rE w v=t:=bW hv;have h0:ek w (Out []) v t:=hv.mono λb _ _=>⟨rfl,by simp[Out]⟩
 have hr:ek w (bJ (aG w S) []) v t:=hv.mono (aG.e7 w S);refine eV (nt:=101) S [.tmp 4] Tryz.func103 rfl rfl rfl ?_;refine vR Γ0 dH ?_;refine Wp.seq ?_;cases hn:ud t with
 | some n=>
  rw[unS hn];refine wR (rf (aG w S)) (nu dH hD hn @Un.eq_1 @Un.eq_2) ?_ ?_
  ·exact⟨t,h0,hs⟩
  refine vR Γ0 dH ?_;refine wC dH (λhc=>?_) (λhc=>?_)
  rotate_left
  ·cases hc
  refine Wp.seq ?_;refine vR Γ0 dH ?_;refine Wp.block ?_;refine vR Γ0 dH ?_;refine wC dH (λhc=>?_) (λhc=>?_)
  ·have ho:op=kf:=rC hc;rw[if_pos ho];refine vR Γ0 dH ?_;refine wZ dH ?_;exact eI (λE=>rfl) rfl
  have ho:¬ op=kf:=rB hc;rw[if_neg ho];refine vR Γ0 dH ?_;refine wC dH (λhc=>?_) (λhc=>?_)
  ·have ho2:op=uX:=rC hc;rw[if_pos ho2];refine vR Γ0 dH ?_;refine wZ dH ?_;exact eI (λE=>rfl) rfl
  have ho2:¬ op=uX:=rB hc;rw[if_neg ho2];refine wK ?_;refine vR Γ0 dH ?_;refine wZ dH ?_;exact eI (λE=>rfl) rfl
 | none=>
  refine wR (rf (aG w S)) (nu dH hD hn @Un.eq_1 @Un.eq_2) ?_ ?_
  ·exact⟨t,h0,hs⟩
  refine vR Γ0 dH ?_;refine wC dH (λhc=>?_) (λhc=>?_)
  ·cases hc
  refine wK ?_;refine Wp.seq ?_;refine vR Γ0 dH ?_;refine Wp.block ?_;cases t with
  |text b s=>cases hn
  |rx b r=>cases hn
  | canon c=>
   obtain⟨p,rfl,hc0⟩:=hr;refine vR Γ0 dH ?_;refine wC dH (λhc=>?_) (λhc=>?_)
   rotate_left
   ·cases hc
   refine vR Γ0 dH ?_;refine vR Γ0 dH ?_;refine wC dH (λhc=>?_) (λhc=>?_)
   ·have ho:op=kf:=rC hc;have hE:AM a op (.canon c)=.ok (.canon (.mk a gJ none ⟨#[]⟩ ⟨#[]⟩ c .nil)):=by simp only[AM,ud,if_pos ho]
    rw[hE];refine vR Γ0 (aa dH hc0.parts) ?_;refine Wp.cX 176 (ev dH) (λE=>by simp only[ai,den];exact rfl) λW1 bs1 b1 hx1 hb1 hn1 hc1=>?_
    refine wZ dH ?_;have hb:bJ (aG w S) bs1 b1:=⟨aG.up w S b1 hn1,hb1⟩;exact eI (λE=>rfl) ⟨_,rfl,VZ (n:=none) hb hc1 (hc0.mono hx1.dY) .nil⟩
   ·have ho:¬ op=kf:=rB hc;have hE:AM a op (.canon c)=fE a:=by simp only[AM,ud,if_neg ho]
    rw[hE];refine wK ?_;refine Wp.bo (rf (aG w S)) aN (ev dH) ?_ ?_
    ·exact oo
    refine qq ?_;exact⟨_,rfl⟩
  | lens l=>
   obtain⟨p,rfl,hc0⟩:=hr;refine vR Γ0 dH ?_;refine wC dH (λhc=>?_) (λhc=>?_)
   ·cases hc
   refine vR Γ0 dH ?_;refine wC dH (λhc=>?_) (λhc=>?_)
   rotate_left
   ·cases hc
   refine vR Γ0 dH ?_;refine Wp.seq ?_;refine vR Γ0 dH ?_;refine Wp.block ?_;refine vR Γ0 dH ?_;refine wC dH (λhc=>?_) (λhc=>?_)
   ·have ho:op=kf:=rC hc;have hE:AM a op (.lens l)=.ok (.lens (.mk a gJ none ⟨#[]⟩ .nil l .nil)):=by simp only[AM,ud,if_pos ho]
    rw[hE];refine vR Γ0 (aa dH hc0.parts) ?_;refine Wp.cX 208 (ev dH) (λE=>by simp only[ai,den];exact rfl) λW1 bs1 b1 hx1 hb1 hn1 hc1=>?_
    refine wZ dH ?_;have hb:bJ (aG w S) bs1 b1:=⟨aG.up w S b1 hn1,hb1⟩;exact eI (λE=>rfl) ⟨_,rfl,sc (n:=none) hb hc1 .nil (hc0.mono hx1.dY) .nil⟩
   have ho:¬ op=kf:=rB hc;refine vR Γ0 dH ?_;refine wC dH (λhc=>?_) (λhc=>?_)
   ·have ho2:op=uX:=rC hc;have hE:AM a op (.lens l)=.ok (.lens (.mk a yh none ⟨#[]⟩ .nil l (.mk a gJ none ⟨#[]⟩ .nil l .nil))):=by simp only[AM,ud,if_neg ho,if_pos ho2]
    rw[hE];refine vR Γ0 (aa dH hc0.parts) ?_;refine Wp.cX 248 (ev dH) (λE=>by simp only[ai,den];exact rfl) λW1 bs1 b1 hx1 hb1 hn1 hc1=>?_
    refine Wp.cX 264 (ev dH) (λE=>by simp only[ai,den];exact rfl) λW2 bs2 b2 hx2 hb2 hn2 hc2=>?_
    refine wZ dH ?_;have h1:bJ (aG w S) bs1 b1:=⟨aG.up w S b1 hn1,hb1⟩;have h2:bJ (aG w S) bs2 b2:=⟨(aG.up w S).ext hx1 b2 hn2,hb2⟩;have hl:zz W2 (bJ (aG w S) bs2) p l:=hc0.mono (hx1.trans hx2).dY;have h3:zz W1 (bJ (aG w S) bs1) _ _:=sc (n:=none) (op:=gJ) h1 hc1 .nil (hc0.mono hx1.dY) .nil
    exact eI (λE=>rfl) ⟨_,rfl,sc (n:=none) h2 hc2 .nil hl (h3.mono hx2.dY)⟩
   have ho2:¬ op=uX:=rB hc;have hE:AM a op (.lens l)=.ok (.lens (.mk a ya none ⟨#[]⟩ .nil l (.mk a jD (some .eps) ⟨#[]⟩ .nil .nil .nil))):=by simp only[AM,ud,if_neg ho,if_neg ho2]
   rw[hE];refine wK ?_;refine vR Γ0 (aa dH hc0.parts) ?_;refine Wp.cX 256 (ev dH) (λE=>by simp only[ai,den];exact rfl) λW1 bs1 b1 hx1 hb1 hn1 hc1=>?_
   refine Wp.cX 272 (ev dH) (λE=>by simp only[ai,den];exact rfl) λW2 bs2 b2 hx2 hb2 hn2 hc2=>?_
   refine wZ dH ?_;have h1:bJ (aG w S) bs1 b1:=⟨aG.up w S b1 hn1,hb1⟩;have h2:bJ (aG w S) bs2 b2:=⟨(aG.up w S).ext hx1 b2 hn2,hb2⟩;have hl:zz W2 (bJ (aG w S) bs2) p l:=hc0.mono (hx1.trans hx2).dY;have h3:zz W1 (bJ (aG w S) bs1) _ _:=sc (n:=some .eps) (op:=jD) h1 hc1 .nil .nil .nil
   exact eI (λE=>rfl) ⟨_,rfl,sc (n:=none) h2 hc2 .nil hl (h3.mono hx2.dY)⟩
theorem amV:HS Tryz.prog (Program.underlying Tryz.prog 287)=some 3:=kR
theorem aot:rF Tryz.prog 3=some (.int .i64 0):=kR
theorem opL(op:ByteArray):Yi false (.int .i64 0) (Cc [⟨#[124]⟩,⟨#[46]⟩,⟨#[126]⟩,⟨#[62,62]⟩] [.v (.int .i64 1),.v (.int .i64 2),.v (.int .i64 3),.v (.int .i64 4)] op)=.v (.int .i64 (H0 op:Nat)):=by
 simp only[Cc,H0];by_cases h1:op=EU
 ·subst h1;rfl
 rw[if_neg (λe=>h1 e.symm),if_neg h1];by_cases h2:op=E6
 ·subst h2;rfl
 rw[if_neg (λe=>h2 e.symm),if_neg h2];by_cases h3:op=XD
 ·subst h3;rfl
 rw[if_neg (λe=>h3 e.symm),if_neg h3];by_cases h4:op=E3
 ·subst h4;rfl
 rw[if_neg (λe=>h4 e.symm),if_neg h4];rfl
theorem aaY(op:ByteArray):H0 op=0\/H0 op=1\/H0 op=2\/H0 op=3\/H0 op=4:=by
 unfold H0
 repeat' split
 all_goals simp
theorem sx0(x:Option Rx):cS 0 [.v (Un x)]=⟨True,.v (pt x),[],none,[],[]⟩:=by cases x<;>simp[cS,R.iC,Un,pt]
theorem sx1(x:Option Rx):cS 1 [.v (Un x)]=⟨True,.v (.bool x.isSome),[],none,[],[]⟩:=by cases x<;>simp[cS,R.iC,Un,pt]
def gA(op:ByteArray)(t u:Tm):Option Rx:=match ud t,ud u with
 |some x,some y=>Tf op x y
 |_,_=>none
theorem YO(a:Nat)(op:ByteArray)(t u:Tm):EV a op t u=match gA op t u with
  |some r=>.ok (.rx a r)
  |none=>oW a op t u:=by
 unfold EV gA;cases ud t with
 |none=>rfl
 | some x=>
  cases ud u with
  |none=>rfl
  |some y=>
   simp only;cases Tf op x y<;>rfl
def aL:=(ae @List.replicate_succ.{0} @List.replicate_zero.{0} @au @ab lx ly lA (ae di dj dk dm dB dD dF (ae dG eK eL eM eN eO eP (ae oH oI oJ oK jS jT jU (ae jV jW iH iI iJ iK oy (ae oz oA oB oC oD oE oF (ae oG qB qC qD qE qF qG (ae qH qI qJ qK qL qM qN (ae qO qP qQ qR qS qT mG (ae mH mI mJ mK mL mM mN (ae mO mP mQ mR mS mT mU (ae mV mW mX mY JS JT DL (ae DM DN DO DP DQ DR DS (ae DT DU DV RQ RR D9 Ea (ae Eb Ec Ed Ee Ef Eg Eh (ae GK GL GM GN GO GP GQ (ae GR GS Nf Ng Nh Ni Nj (ae Nk Nl Nn No Np Nq Nr (ae Ns Nt Nu Nv Nw Nx alO (ae alP alQ acJ acK acL acM acN (ae acO @p6 @kP @lW @lV @sx0 @sx1 (ae @pt.eq_1 @pt.eq_2 @kD @aV @aw @aD @aF (ae @cP @aM @cf @NQ @TV @Bt @Bs (ae @ie.eq_1 @Al @sA @qi @lY @amV @HN (oQ @wU @aot @QP @xk @ac6 @opL)))))))))))))))))))))))))
theorem Oi(a:Nat)(op:ByteArray)(ea eb:Value)(t u:Tm)(v v' : Value)(w:World)(S:Nat->Prop)(hea:ea.oneCell' = true)(heb:eb.oneCell' = true)(hv:ek w S v t)(hs:Xn t)(hv' : ek w S v' u)(hs' : Xn u) :
  Calls Tryz.prog 104 #[.agg #[.int .i64 (a:Nat),.string op,ea,eb],v,v'] w λe w' => lI w S e w' (LR (EV a op t u)):=by
 have hD:rE w v=t:=bW hv;have hD' : rE w v' = u:=bW hv';have h0:ek w (Out []) v t:=hv.mono λb _ _=>⟨rfl,by simp[Out]⟩
 have h0' : ek w (Out []) v' u:=hv'.mono λb _ _=>⟨rfl,by simp[Out]⟩
 have hr:ek w (bJ (aG w S) []) v t:=hv.mono (aG.e7 w S);have hr' : ek w (bJ (aG w S) []) v' u:=hv'.mono (aG.e7 w S);refine eV (nt:=142) S [.tmp 6] Tryz.func104 rfl rfl rfl ?_;refine vR Γ0 aL ?_;refine wR (rf (aG w S)) (aa aL hD) ?_ ?_
 ·exact⟨t,h0,hs⟩
 refine wR (rf (aG w S)) (aa aL hD') ?_ ?_
 ·exact⟨u,h0',hs'⟩
 rw[YO];cases hj:gA op t u with
 | some r=>
  obtain⟨x,hn⟩:∃ x,ud t=some x:=by
   cases h:ud t with
   |some x=>exact⟨x,rfl⟩
   |none=>rw[gA,h]at hj;cases hj
  obtain⟨y,hn'⟩:∃ y,ud u=some y:=by
   cases h:ud u with
   |some x=>exact⟨x,rfl⟩
   |none=>rw[gA,hn,h]at hj;cases hj
  refine Wp.seq ?_;refine vR Γ0 (bp aL hn hn') ?_;refine wC aL (λhc=>?_) (λhc=>?_)
  rotate_left
  ·cases hc
  refine vR Γ0 aL ?_;refine Wp.block ?_;refine vR Γ0 (bp aL hn hn') ?_;refine wC aL (λhc=>?_) (λhc=>?_)
  ·have ho:op=EU:=rC hc;obtain rfl:r=.alt x y:=by
    have:gA op t u=some (.alt x y):=by simp only[gA,hn,hn',Tf,if_pos ho]
    rw[this]at hj;exact (Option.some.inj hj).symm
   refine vR Γ0 (bp aL hn hn') ?_;refine wZ (bp aL hn hn') ?_;exact eI (λE=>rfl) rfl
  have ho0:¬ op=EU:=rB hc;refine vR Γ0 (bp aL hn hn') ?_;refine wC aL (λhc=>?_) (λhc=>?_)
  ·have ho:op=E6:=rC hc;obtain rfl:r=.cat x y:=by
    have:gA op t u=some (.cat x y):=by simp only[gA,hn,hn',Tf,if_neg ho0,if_pos ho]
    rw[this]at hj;exact (Option.some.inj hj).symm
   refine vR Γ0 (bp aL hn hn') ?_;refine wZ (bp aL hn hn') ?_;exact eI (λE=>rfl) rfl
  have ho1:¬ op=E6:=rB hc;refine vR Γ0 (bp aL hn hn') ?_;refine wC aL (λhc=>?_) (λhc=>?_)
  ·have ho:op=Oc:=rC hc;obtain rfl:r=.and x y:=by
    have:gA op t u=some (.and x y):=by simp only[gA,hn,hn',Tf,if_neg ho0,if_neg ho1,if_pos ho]
    rw[this]at hj;exact (Option.some.inj hj).symm
   refine vR Γ0 (bp aL hn hn') ?_;refine wZ (bp aL hn hn') ?_;exact eI (λE=>rfl) rfl
  have ho2:¬ op=Oc:=rB hc;refine vR Γ0 (bp aL hn hn') ?_;refine wC aL (λhc=>?_) (λhc=>?_)
  ·have ho:op=Pu:=rC hc;obtain rfl:r=.minus x y:=by
    have:gA op t u=some (.minus x y):=by simp only[gA,hn,hn',Tf,if_neg ho0,if_neg ho1,if_neg ho2,if_pos ho]
    rw[this]at hj;exact (Option.some.inj hj).symm
   refine vR Γ0 (bp aL hn hn') ?_;refine wZ (bp aL hn hn') ?_;exact eI (λE=>rfl) rfl
  have ho3:¬ op=Pu:=rB hc;exfalso;have:gA op t u=none:=by simp only[gA,hn,hn',Tf,if_neg ho0,if_neg ho1,if_neg ho2,if_neg ho3]
  rw[this]at hj;cases hj
 | none=>
  simp only;refine ig ⟨20,eA [(1,.is (.v v)),(2,.is (.v v')),(3,.is (.own 0 0))],dS [(0,.cells 215 [.v (.int .i64 (a:Nat)),.v (.string op),.v ea,.v eb])]⟩ ?_ ?_
  ·cases hn:ud t with
   |none=>
    refine vR Γ0 (aa aL hn) ?_;refine wC aL (λhc=>?_) (λhc=>?_)
    ·cases hc
    refine wK ?_;exact wM (λk=>.key k) aL
   | some x=>
    cases hn' : ud u with
    |none=>
     refine vR Γ0 (bp aL hn hn') ?_;refine wC aL (λhc=>?_) (λhc=>?_)
     ·cases hc
     refine wK ?_;exact wM (λk=>.key k) aL
    | some y=>
     refine vR Γ0 (bp aL hn hn') ?_;refine wC aL (λhc=>?_) (λhc=>?_)
     rotate_left
     ·cases hc
     refine vR Γ0 aL ?_;refine Wp.block ?_;refine vR Γ0 (bp aL hn hn') ?_;refine wC aL (λhc=>?_) (λhc=>?_)
     ·have ho:op=EU:=rC hc;exfalso;have:gA op t u=some (.alt x y):=by simp only[gA,hn,hn',Tf,if_pos ho]
      rw[this]at hj;cases hj
     have ho0:¬ op=EU:=rB hc;refine vR Γ0 (bp aL hn hn') ?_;refine wC aL (λhc=>?_) (λhc=>?_)
     ·have ho:op=E6:=rC hc;exfalso;have:gA op t u=some (.cat x y):=by simp only[gA,hn,hn',Tf,if_neg ho0,if_pos ho]
      rw[this]at hj;cases hj
     have ho1:¬ op=E6:=rB hc;refine vR Γ0 (bp aL hn hn') ?_;refine wC aL (λhc=>?_) (λhc=>?_)
     ·have ho:op=Oc:=rC hc;exfalso;have:gA op t u=some (.and x y):=by simp only[gA,hn,hn',Tf,if_neg ho0,if_neg ho1,if_pos ho]
      rw[this]at hj;cases hj
     have ho2:¬ op=Oc:=rB hc;refine vR Γ0 (bp aL hn hn') ?_;refine wC aL (λhc=>?_) (λhc=>?_)
     ·have ho:op=Pu:=rC hc;exfalso;have:gA op t u=some (.minus x y):=by simp only[gA,hn,hn',Tf,if_neg ho0,if_neg ho1,if_neg ho2,if_pos ho]
      rw[this]at hj;cases hj
     have ho3:¬ op=Pu:=rB hc;refine wK ?_;exact wM (λk=>.key k) aL
  clear hj hD hD' h0 h0';refine wR Γ0 aL ?_ ?_
  ·refine⟨?_,?_,?_⟩<;>simp
  refine vR Γ0 aL ?_;cases t with
  |text b s=>
   obtain rfl:v=_:=hr;have hE:oW a op (.text b s) u=fE a:=by cases u<;>rfl
   rw[hE];refine Wp.seq ?_;refine vR Γ0 aL ?_;refine vR Γ0 aL ?_;refine wC aL (λhc=>?_) (λhc=>?_)
   ·cases hc
   refine wK ?_;refine Wp.seq ?_;refine vR Γ0 aL ?_;refine vR Γ0 aL ?_;refine wC aL (λhc=>?_) (λhc=>?_)
   ·cases hc
   refine wK ?_;refine Wp.bo (rf (aG w S)) aN (ev aL) ?_ ?_
   ·exact oo
   refine qq ?_;exact⟨_,rfl⟩
  |rx b s=>
   obtain rfl:v=_:=hr;have hE:oW a op (.rx b s) u=fE a:=by cases u<;>rfl
   rw[hE];refine Wp.seq ?_;refine vR Γ0 aL ?_;refine vR Γ0 aL ?_;refine wC aL (λhc=>?_) (λhc=>?_)
   ·cases hc
   refine wK ?_;refine Wp.seq ?_;refine vR Γ0 aL ?_;refine vR Γ0 aL ?_;refine wC aL (λhc=>?_) (λhc=>?_)
   ·cases hc
   refine wK ?_;refine Wp.bo (rf (aG w S)) aN (ev aL) ?_ ?_
   ·exact oo
   refine qq ?_;exact⟨_,rfl⟩
  | lens l=>
   obtain⟨p,rfl,hc0⟩:=hr;refine Wp.seq ?_;refine vR Γ0 aL ?_;refine vR Γ0 aL ?_;refine wC aL (λhc=>?_) (λhc=>?_)
   rotate_left
   ·cases hc
   cases u with
   |text b s=>
    obtain rfl:v' = _:=hr';have hE:oW a op (.lens l) (.text b s)=fE a:=rfl;rw[hE];refine vR Γ0 aL ?_;refine vR Γ0 aL ?_;refine wC aL (λhc=>?_) (λhc=>?_)
    ·cases hc
    refine wK ?_;refine Wp.seq ?_;refine vR Γ0 aL ?_;refine vR Γ0 aL ?_;refine wC aL (λhc=>?_) (λhc=>?_)
    ·cases hc
    refine wK ?_;refine Wp.bo (rf (aG w S)) aN (ev aL) ?_ ?_
    ·exact oo
    refine qq ?_;exact⟨_,rfl⟩
   |rx b s=>
    obtain rfl:v' = _:=hr';have hE:oW a op (.lens l) (.rx b s)=fE a:=rfl;rw[hE];refine vR Γ0 aL ?_;refine vR Γ0 aL ?_;refine wC aL (λhc=>?_) (λhc=>?_)
    ·cases hc
    refine wK ?_;refine Wp.seq ?_;refine vR Γ0 aL ?_;refine vR Γ0 aL ?_;refine wC aL (λhc=>?_) (λhc=>?_)
    ·cases hc
    refine wK ?_;refine Wp.bo (rf (aG w S)) aN (ev aL) ?_ ?_
    ·exact oo
    refine qq ?_;exact⟨_,rfl⟩
   |canon d=>
    obtain⟨p',rfl,hc0'⟩:=hr';have hE:oW a op (.lens l) (.canon d)=fE a:=rfl;rw[hE];refine vR Γ0 aL ?_;refine vR Γ0 aL ?_;refine wC aL (λhc=>?_) (λhc=>?_)
    ·cases hc
    refine wK ?_;refine Wp.seq ?_;refine vR Γ0 aL ?_;refine vR Γ0 aL ?_;refine wC aL (λhc=>?_) (λhc=>?_)
    ·cases hc
    refine wK ?_;refine Wp.bo (rf (aG w S)) aN (ev aL) ?_ ?_
    ·exact oo
    refine qq ?_;exact⟨_,rfl⟩
   | lens d=>
    obtain⟨p',rfl,hc0'⟩:=hr';refine vR Γ0 aL ?_;rcases aaY op with ho|ho|ho|ho|ho
    ·have hE:oW a op (.lens l) (.lens d)=fE a:=by simp only[oW,ho];rfl
     rw[hE];refine vR Γ0 (aa aL ho) ?_;refine wC aL (λhc=>?_) (λhc=>?_)
     ·cases hc
     refine wK ?_;refine Wp.seq ?_;refine vR Γ0 aL ?_;refine vR Γ0 aL ?_;refine wC aL (λhc=>?_) (λhc=>?_)
     ·cases hc
     refine wK ?_;refine Wp.bo (rf (aG w S)) aN (ev aL) ?_ ?_
     ·exact oo
     refine qq ?_;exact⟨_,rfl⟩
    ·have hE:oW a op (.lens l) (.lens d)=.ok (.lens (.mk a ya none ⟨#[]⟩ .nil l d)):=by simp only[oW,ho];rfl
     rw[hE];refine vR Γ0 (aa aL ho) ?_;refine wC aL (λhc=>?_) (λhc=>?_)
     rotate_left
     ·cases hc
     refine zv Γ0 (fg aL ho hc0.parts hc0'.parts) ?_;refine Wp.cX 488 (ev aL) (λE=>by simp only[ai,den];exact rfl) λW1 bs1 b1 hx1 hb1 hn1 hc1=>?_
     refine wZ aL ?_;have hb:bJ (aG w S) bs1 b1:=⟨aG.up w S b1 hn1,hb1⟩;exact eI (λE=>rfl) ⟨_,rfl,sc (op:=ya) (n:=none) hb hc1 .nil (hc0.mono hx1.dY) (hc0'.mono hx1.dY)⟩
    ·have hE:oW a op (.lens l) (.lens d)=.ok (.lens (.mk a yh none ⟨#[]⟩ .nil l d)):=by simp only[oW,ho];rfl
     rw[hE];refine vR Γ0 (aa aL ho) ?_;refine wC aL (λhc=>?_) (λhc=>?_)
     rotate_left
     ·cases hc
     refine zv Γ0 (fg aL ho hc0.parts hc0'.parts) ?_;refine Wp.cX 488 (ev aL) (λE=>by simp only[ai,den];exact rfl) λW1 bs1 b1 hx1 hb1 hn1 hc1=>?_
     refine wZ aL ?_;have hb:bJ (aG w S) bs1 b1:=⟨aG.up w S b1 hn1,hb1⟩;exact eI (λE=>rfl) ⟨_,rfl,sc (op:=yh) (n:=none) hb hc1 .nil (hc0.mono hx1.dY) (hc0'.mono hx1.dY)⟩
    ·have hE:oW a op (.lens l) (.lens d)=.ok (.lens (.mk a MP none ⟨#[]⟩ .nil l d)):=by simp only[oW,ho];rfl
     rw[hE];refine vR Γ0 (aa aL ho) ?_;refine wC aL (λhc=>?_) (λhc=>?_)
     rotate_left
     ·cases hc
     refine zv Γ0 (fg aL ho hc0.parts hc0'.parts) ?_;refine Wp.cX 488 (ev aL) (λE=>by simp only[ai,den];exact rfl) λW1 bs1 b1 hx1 hb1 hn1 hc1=>?_
     refine wZ aL ?_;have hb:bJ (aG w S) bs1 b1:=⟨aG.up w S b1 hn1,hb1⟩;exact eI (λE=>rfl) ⟨_,rfl,sc (op:=MP) (n:=none) hb hc1 .nil (hc0.mono hx1.dY) (hc0'.mono hx1.dY)⟩
    ·have hE:oW a op (.lens l) (.lens d)=.ok (.lens (.mk a BE none ⟨#[]⟩ .nil l d)):=by simp only[oW,ho];rfl
     rw[hE];refine vR Γ0 (aa aL ho) ?_;refine wC aL (λhc=>?_) (λhc=>?_)
     rotate_left
     ·cases hc
     refine zv Γ0 (fg aL ho hc0.parts hc0'.parts) ?_;refine Wp.cX 488 (ev aL) (λE=>by simp only[ai,den];exact rfl) λW1 bs1 b1 hx1 hb1 hn1 hc1=>?_
     refine wZ aL ?_;have hb:bJ (aG w S) bs1 b1:=⟨aG.up w S b1 hn1,hb1⟩;exact eI (λE=>rfl) ⟨_,rfl,sc (op:=BE) (n:=none) hb hc1 .nil (hc0.mono hx1.dY) (hc0'.mono hx1.dY)⟩
  | canon c=>
   obtain⟨p,rfl,hc0⟩:=hr;refine Wp.seq ?_;refine vR Γ0 aL ?_;refine vR Γ0 aL ?_;refine wC aL (λhc=>?_) (λhc=>?_)
   ·cases hc
   refine wK ?_;refine Wp.seq ?_;refine vR Γ0 aL ?_;refine vR Γ0 aL ?_;refine wC aL (λhc=>?_) (λhc=>?_)
   rotate_left
   ·cases hc
   cases u with
   |text b s=>
    obtain rfl:v' = _:=hr';have hE:oW a op (.canon c) (.text b s)=fE a:=rfl;rw[hE];refine vR Γ0 aL ?_;refine vR Γ0 aL ?_;refine wC aL (λhc=>?_) (λhc=>?_)
    ·cases hc
    refine wK ?_;refine Wp.bo (rf (aG w S)) aN (ev aL) ?_ ?_
    ·exact oo
    refine qq ?_;exact⟨_,rfl⟩
   |rx b s=>
    obtain rfl:v' = _:=hr';have hE:oW a op (.canon c) (.rx b s)=fE a:=rfl;rw[hE];refine vR Γ0 aL ?_;refine vR Γ0 aL ?_;refine wC aL (λhc=>?_) (λhc=>?_)
    ·cases hc
    refine wK ?_;refine Wp.bo (rf (aG w S)) aN (ev aL) ?_ ?_
    ·exact oo
    refine qq ?_;exact⟨_,rfl⟩
   |lens d=>
    obtain⟨p',rfl,hc0'⟩:=hr';have hE:oW a op (.canon c) (.lens d)=fE a:=rfl;rw[hE];refine vR Γ0 aL ?_;refine vR Γ0 aL ?_;refine wC aL (λhc=>?_) (λhc=>?_)
    ·cases hc
    refine wK ?_;refine Wp.bo (rf (aG w S)) aN (ev aL) ?_ ?_
    ·exact oo
    refine qq ?_;exact⟨_,rfl⟩
   | canon d=>
    obtain⟨p',rfl,hc0'⟩:=hr';refine vR Γ0 aL ?_;rcases aaY op with ho|ho|ho|ho|ho
    ·have hE:oW a op (.canon c) (.canon d)=fE a:=by simp only[oW,ho];rfl
     rw[hE];refine vR Γ0 (aa aL ho) ?_;refine wC aL (λhc=>?_) (λhc=>?_)
     ·cases hc
     refine wK ?_;refine Wp.bo (rf (aG w S)) aN (ev aL) ?_ ?_
     ·exact oo
     refine qq ?_;exact⟨_,rfl⟩
    ·have hE:oW a op (.canon c) (.canon d)=.ok (.canon (.mk a ya none ⟨#[]⟩ ⟨#[]⟩ c d)):=by simp only[oW,ho];rfl
     rw[hE];refine vR Γ0 (aa aL ho) ?_;refine wC aL (λhc=>?_) (λhc=>?_)
     rotate_left
     ·cases hc
     refine zv Γ0 (fg aL ho hc0.parts hc0'.parts) ?_;refine Wp.cX 584 (ev aL) (λE=>by simp only[ai,den];exact rfl) λW1 bs1 b1 hx1 hb1 hn1 hc1=>?_
     refine wZ aL ?_;have hb:bJ (aG w S) bs1 b1:=⟨aG.up w S b1 hn1,hb1⟩;exact eI (λE=>rfl) ⟨_,rfl,VZ (op:=ya) (n:=none) hb hc1 (hc0.mono hx1.dY) (hc0'.mono hx1.dY)⟩
    ·have hE:oW a op (.canon c) (.canon d)=.ok (.canon (.mk a yh none ⟨#[]⟩ ⟨#[]⟩ c d)):=by simp only[oW,ho];rfl
     rw[hE];refine vR Γ0 (aa aL ho) ?_;refine wC aL (λhc=>?_) (λhc=>?_)
     rotate_left
     ·cases hc
     refine zv Γ0 (fg aL ho hc0.parts hc0'.parts) ?_;refine Wp.cX 584 (ev aL) (λE=>by simp only[ai,den];exact rfl) λW1 bs1 b1 hx1 hb1 hn1 hc1=>?_
     refine wZ aL ?_;have hb:bJ (aG w S) bs1 b1:=⟨aG.up w S b1 hn1,hb1⟩;exact eI (λE=>rfl) ⟨_,rfl,VZ (op:=yh) (n:=none) hb hc1 (hc0.mono hx1.dY) (hc0'.mono hx1.dY)⟩
    ·have hE:oW a op (.canon c) (.canon d)=fE a:=by simp only[oW,ho];rfl
     rw[hE];refine vR Γ0 (aa aL ho) ?_;refine wC aL (λhc=>?_) (λhc=>?_)
     ·cases hc
     refine wK ?_;refine Wp.bo (rf (aG w S)) aN (ev aL) ?_ ?_
     ·exact oo
     refine qq ?_;exact⟨_,rfl⟩
    ·have hE:oW a op (.canon c) (.canon d)=fE a:=by simp only[oW,ho];rfl
     rw[hE];refine vR Γ0 (aa aL ho) ?_;refine wC aL (λhc=>?_) (λhc=>?_)
     ·cases hc
     refine wK ?_;refine Wp.bo (rf (aG w S)) aN (ev aL) ?_ ?_
     ·exact oo
     refine qq ?_;exact⟨_,rfl⟩
def oa:=(ae @List.replicate_succ.{0} @List.replicate_zero.{0} @au @ab lx ly lA (ae di dj dk dm Jh Ji Jj (ae Jk Jl Jm Jo Jp Jq Jr (ae Js Jt Ju Jv Jw Jx Jy (ae Jz JA JB JC JD JE JF (ae JG JH JI JJ JK JL JM (ae JN JO JP JQ JR DB DC (ae DD DE DF DG DH DI DJ (ae DK DL DM DN DO DP DQ (ae DR DS DT DU DV zh zi (ae zj zk zl zm zp zq zr (nu zt @aV @aw @aD @aF))))))))))))
theorem Wl(a:Nat)(x0:ByteArray)(w:World):Calls Tryz.prog 303 #[.agg #[.int .i64 (a:Nat),.string x0]] w λe w' => e=.returned (.int .i64 (a:Nat))/\an w [] w' := by
 refine ak (nt:=5) [.tmp 2] Tryz.func303 rfl rfl rfl ?_;refine vR Γ0 oa ?_;refine vR Γ0 oa ?_;refine wZ oa ?_;exact λE=>rfl
def abe:a8 Tryz.prog 303 where
 pre:=λW bs as_=>∃ (a:Nat) (x0:ByteArray),as_=[.val (.agg #[.int .i64 (a:Nat),.string x0])]
 res:=λ_ as_=>match as_ with
  |[.val (.agg cs)]=>cs.getD 0 undef
  |_=>undef
 enters:=Tryz.call303
 ok:=by
  intro W w bs us as_ hk hu hp;obtain⟨a,x0,rfl⟩:=hp
  match us,hu with
  |[x],hu=>
   obtain⟨rfl,_⟩:=hu;exact Wl a x0 w
def ajC:MethSpec Tryz.prog 205 "Place":=cg 303 false (by kernel_rfl) (by kernel_rfl)
theorem Wm(a:Nat)(x0:ByteArray)(w:World):Calls Tryz.prog 304 #[.agg #[.int .i64 (a:Nat),.string x0]] w λe w' => e=.returned (.int .i64 (a:Nat))/\an w [] w' := by
 refine ak (nt:=5) [.tmp 2] Tryz.func304 rfl rfl rfl ?_;refine vR Γ0 oa ?_;refine vR Γ0 oa ?_;refine wZ oa ?_;exact λE=>rfl
def abf:a8 Tryz.prog 304 where
 pre:=λW bs as_=>∃ (a:Nat) (x0:ByteArray),as_=[.val (.agg #[.int .i64 (a:Nat),.string x0])]
 res:=λ_ as_=>match as_ with
  |[.val (.agg cs)]=>cs.getD 0 undef
  |_=>undef
 enters:=Tryz.call304
 ok:=by
  intro W w bs us as_ hk hu hp;obtain⟨a,x0,rfl⟩:=hp
  match us,hu with
  |[x],hu=>
   obtain⟨rfl,_⟩:=hu;exact Wm a x0 w
def ajD:MethSpec Tryz.prog 206 "Place":=cg 304 false (by kernel_rfl) (by kernel_rfl)
theorem Wn(a:Nat)(x0:ByteArray)(w:World):Calls Tryz.prog 305 #[.agg #[.int .i64 (a:Nat),.string x0]] w λe w' => e=.returned (.int .i64 (a:Nat))/\an w [] w' := by
 refine ak (nt:=5) [.tmp 2] Tryz.func305 rfl rfl rfl ?_;refine vR Γ0 oa ?_;refine vR Γ0 oa ?_;refine wZ oa ?_;exact λE=>rfl
def abg:a8 Tryz.prog 305 where
 pre:=λW bs as_=>∃ (a:Nat) (x0:ByteArray),as_=[.val (.agg #[.int .i64 (a:Nat),.string x0])]
 res:=λ_ as_=>match as_ with
  |[.val (.agg cs)]=>cs.getD 0 undef
  |_=>undef
 enters:=Tryz.call305
 ok:=by
  intro W w bs us as_ hk hu hp;obtain⟨a,x0,rfl⟩:=hp
  match us,hu with
  |[x],hu=>
   obtain⟨rfl,_⟩:=hu;exact Wn a x0 w
def ajE:MethSpec Tryz.prog 207 "Place":=cg 305 false (by kernel_rfl) (by kernel_rfl)
theorem Wo(a:Nat)(x0:Value)(w:World):Calls Tryz.prog 306 #[.agg #[.int .i64 (a:Nat),x0]] w λe w' => e=.returned (.int .i64 (a:Nat))/\an w [] w' := by
 refine ak (nt:=5) [.tmp 2] Tryz.func306 rfl rfl rfl ?_;refine vR Γ0 oa ?_;refine vR Γ0 oa ?_;refine wZ oa ?_;exact λE=>rfl
def abh:a8 Tryz.prog 306 where
 pre:=λW bs as_=>∃ (a:Nat) (x0:Value),as_=[.val (.agg #[.int .i64 (a:Nat),x0])]
 res:=λ_ as_=>match as_ with
  |[.val (.agg cs)]=>cs.getD 0 undef
  |_=>undef
 enters:=Tryz.call306
 ok:=by
  intro W w bs us as_ hk hu hp;obtain⟨a,x0,rfl⟩:=hp
  match us,hu with
  |[x],hu=>
   obtain⟨rfl,_⟩:=hu;exact Wo a x0 w
def ajF:MethSpec Tryz.prog 209 "Place":=cg 306 false (by kernel_rfl) (by kernel_rfl)
theorem Wq(a:Nat)(x0:ByteArray)(x1:Value)(w:World):Calls Tryz.prog 307 #[.agg #[.int .i64 (a:Nat),.string x0,x1]] w λe w' => e=.returned (.int .i64 (a:Nat))/\an w [] w' := by
 refine ak (nt:=5) [.tmp 2] Tryz.func307 rfl rfl rfl ?_;refine vR Γ0 oa ?_;refine vR Γ0 oa ?_;refine wZ oa ?_;exact λE=>rfl
def abi:a8 Tryz.prog 307 where
 pre:=λW bs as_=>∃ (a:Nat) (x0:ByteArray) (x1:Value),as_=[.val (.agg #[.int .i64 (a:Nat),.string x0,x1])]
 res:=λ_ as_=>match as_ with
  |[.val (.agg cs)]=>cs.getD 0 undef
  |_=>undef
 enters:=Tryz.call307
 ok:=by
  intro W w bs us as_ hk hu hp;obtain⟨a,x0,x1,rfl⟩:=hp
  match us,hu with
  |[x],hu=>
   obtain⟨rfl,_⟩:=hu;exact Wq a x0 x1 w
def ajG:MethSpec Tryz.prog 212 "Place":=cg 307 false (by kernel_rfl) (by kernel_rfl)
theorem Wr(a:Nat)(x0:ByteArray)(x1:Value)(x2:Value)(w:World):Calls Tryz.prog 308 #[.agg #[.int .i64 (a:Nat),.string x0,x1,x2]] w λe w' => e=.returned (.int .i64 (a:Nat))/\an w [] w' := by
 refine ak (nt:=5) [.tmp 2] Tryz.func308 rfl rfl rfl ?_;refine vR Γ0 oa ?_;refine vR Γ0 oa ?_;refine wZ oa ?_;exact λE=>rfl
def abj:a8 Tryz.prog 308 where
 pre:=λW bs as_=>∃ (a:Nat) (x0:ByteArray) (x1:Value) (x2:Value),as_=[.val (.agg #[.int .i64 (a:Nat),.string x0,x1,x2])]
 res:=λ_ as_=>match as_ with
  |[.val (.agg cs)]=>cs.getD 0 undef
  |_=>undef
 enters:=Tryz.call308
 ok:=by
  intro W w bs us as_ hk hu hp;obtain⟨a,x0,x1,x2,rfl⟩:=hp
  match us,hu with
  |[x],hu=>
   obtain⟨rfl,_⟩:=hu;exact Wr a x0 x1 x2 w
def ajH:MethSpec Tryz.prog 215 "Place":=cg 308 false (by kernel_rfl) (by kernel_rfl)
theorem Ws(a:Nat)(x0:ByteArray)(x1:Value)(w:World):Calls Tryz.prog 309 #[.agg #[.int .i64 (a:Nat),.string x0,x1]] w λe w' => e=.returned (.int .i64 (a:Nat))/\an w [] w' := by
 refine ak (nt:=5) [.tmp 2] Tryz.func309 rfl rfl rfl ?_;refine vR Γ0 oa ?_;refine vR Γ0 oa ?_;refine wZ oa ?_;exact λE=>rfl
def abk:a8 Tryz.prog 309 where
 pre:=λW bs as_=>∃ (a:Nat) (x0:ByteArray) (x1:Value),as_=[.val (.agg #[.int .i64 (a:Nat),.string x0,x1])]
 res:=λ_ as_=>match as_ with
  |[.val (.agg cs)]=>cs.getD 0 undef
  |_=>undef
 enters:=Tryz.call309
 ok:=by
  intro W w bs us as_ hk hu hp;obtain⟨a,x0,x1,rfl⟩:=hp
  match us,hu with
  |[x],hu=>
   obtain⟨rfl,_⟩:=hu;exact Ws a x0 x1 w
def ajI:MethSpec Tryz.prog 219 "Place":=cg 309 false (by kernel_rfl) (by kernel_rfl)
def spP:(f:FuncId)->Option (LE.Spec Tryz.prog f)
 |303=>some abe.spec
 |304=>some abf.spec
 |305=>some abg.spec
 |306=>some abh.spec
 |307=>some abi.spec
 |308=>some abj.spec
 |309=>some abk.spec
 |_=>none
def mtP:(t:TypeId)->(name:String)->Option (MethSpec Tryz.prog t name)
 |205, "Place"=>some ajC
 |206, "Place"=>some ajD
 |207, "Place"=>some ajE
 |209, "Place"=>some ajF
 |212, "Place"=>some ajG
 |215, "Place"=>some ajH
 |219, "Place"=>some ajI
 |_,_=>none
theorem Vj{Γ:Env Tryz.prog}{W:World}{bs:List Nat}{κ:Nat}{hh:Hp}(hm:Γ.mt=mtP)(hs:∀ f s,spP f=some s->Γ.sp f=some s){W0:World}{S0:Nat->Prop}{v:Value}{x:Ex}(h:AP W0 S0 v x) :
  ∃ p:Prop,p/\aI Γ W bs κ hh "Place" [.v v]=⟨p,.v (.int .i64 (U1 x:Nat)),[],none,[],[]⟩:=by
 cases h with
 |name a s=>
  refine⟨abe.pre W bs [.val (.agg #[.int .i64 (a:Nat),.string s])],⟨a,s,rfl⟩,?_⟩;simp only[aI,hm,mtP,ajC,cg,fz,hs 303 _ rfl];rfl
 |text a s=>
  refine⟨abf.pre W bs [.val (.agg #[.int .i64 (a:Nat),.string s])],⟨a,s,rfl⟩,?_⟩;simp only[aI,hm,mtP,ajD,cg,fz,hs 304 _ rfl];rfl
 |rx a s=>
  refine⟨abg.pre W bs [.val (.agg #[.int .i64 (a:Nat),.string s])],⟨a,s,rfl⟩,?_⟩;simp only[aI,hm,mtP,ajE,cg,fz,hs 305 _ rfl];rfl
 |keyed a z x hx=>
  refine⟨abh.pre W bs [.val (.agg #[.int .i64 (a:Nat),z])],⟨a,z,rfl⟩,?_⟩;simp only[aI,hm,mtP,ajF,cg,fz,hs 306 _ rfl];rfl
 |unary a s z x hx=>
  refine⟨abi.pre W bs [.val (.agg #[.int .i64 (a:Nat),.string s,z])],⟨a,s,z,rfl⟩,?_⟩;simp only[aI,hm,mtP,ajG,cg,fz,hs 307 _ rfl];rfl
 |binary a s z u x y hx hy=>
  refine⟨abj.pre W bs [.val (.agg #[.int .i64 (a:Nat),.string s,z,u])],⟨a,s,z,u,rfl⟩,?_⟩;simp only[aI,hm,mtP,ajH,cg,fz,hs 308 _ rfl];rfl
 |call a s ao c vs l h1 h2 h3=>
  refine⟨abk.pre W bs [.val (.agg #[.int .i64 (a:Nat),.string s,.slice ao vs.length c])],⟨a,s,.slice ao vs.length c,rfl⟩,?_⟩;simp only[aI,hm,mtP,ajI,cg,fz,hs 309 _ rfl];rfl
end
section
open Go.RowKit Go.LE Go.Proofs.Tryz
theorem ZV{c:Prop}[Decidable c]{a b:Pc}{N:Nat}(ha:a.1.size<=N)(hb:b.1.size<=N):(if c then a else b).1.size<=N:=by
 by_cases h:c
 ·rw[if_pos h];exact ha
 ·rw[if_neg h];exact hb
theorem L8(s:ByteArray)(i:Nat):∀ n k o,(nB s i n k o).1.size<=o.size+n
 |0,k,o=>Nat.zero_le _
 | n+1,k,o=>by
  have h:=λk' c=>L8 s i n k' (o++fB [c])
  have e:∀ c,(o++fB [c]).size=o.size+1:=λc=>by rw[ByteArray.size_append,dR];rfl
  rw[nB]
  repeat' apply ZV
  all_goals first
   |(refine Nat.le_trans (h _ _) ?_;rw[e];omega)
   |exact Nat.zero_le _
   |(show o.size<=_;omega)
theorem Mk(s:ByteArray)(i:Nat):∀ n k,(pJ s i n k).1.size<=s.size
 |0,k=>Nat.zero_le _
 | n+1,k=>by
  have h:=λk' => Mk s i n k'
  rw[pJ]
  repeat' apply ZV
  all_goals first
   |exact h _
   |exact Nat.zero_le _
   |(show (s.extract _ _).size<=_;rw[ByteArray.size_extract];omega)
abbrev alE (t:Tk):Prop:=t.2.1<=4096/\t.2.2.size<=4096
abbrev kg (r:List Tk):Prop:=∀ t∈r,alE t
theorem alF(s:ByteArray)(i:Nat)(hs:s.size<=4096)(hi:i<s.size):alE (bS s i).1:=by
 have h0:∀ a b,(s.extract a b).size<=4096:=λa b=>by
  rw[ByteArray.size_extract];omega
 have h1:(Ai s i).1.size<=4096:=by
  have:(Ai s i).1.size<=ju.size+(s.size-(i+1)):=L8 s i _ _ _;have e:ju.size=0:=rfl;omega
 have h2:(AH s i).1.size<=4096:=Nat.le_trans (Mk s i _ _) hs;have hi' : i<=4096:=oM;unfold bS
 repeat' split
 all_goals first
  |exact⟨Nat.zero_le _,Nat.zero_le _⟩
  |exact⟨hi',h0 _ _⟩
  |exact⟨hi',h1⟩
  |exact⟨hi',h2⟩
  |exact⟨hi',show 2<=4096 by omega⟩
theorem abW(s:ByteArray)(hs:s.size<=4096):∀ n i l,kg l->kg (uE s n i l).1
 | 0,i,l,hl=>λt ht=>by
  rcases List.mem_append.1 ht with ht|ht
  ·exact hl t ht
  ·rw[List.mem_singleton.1 ht];exact⟨hs,Nat.zero_le _⟩
 | n+1,i,l,hl=>by
  rw[uE];split
  ·rename_i hi;split
   ·refine abW s hs n _ _ λt ht=>?_
    rcases List.mem_append.1 ht with ht|ht
    ·exact hl t ht
    ·rw[List.mem_singleton.1 ht];exact alF s i hs hi
   ·intro t ht;cases ht
  ·intro t ht;rcases List.mem_append.1 ht with ht|ht
   ·exact hl t ht
   ·rw[List.mem_singleton.1 ht];exact⟨hs,Nat.zero_le _⟩
theorem agG(s:ByteArray):kg (bz s).1:=by
 unfold bz;split
 ·intro t ht;cases ht
 ·exact abW s oM _ _ _ (λt ht=>by cases ht)
def nJ:Ex->Nat
 |.cons _ l=>nJ l+1
 |_=>0
def cA:Ex->Prop
 |.name a s=>a<=4096/\s.size<=4096
 |.text a s=>a<=4096/\s.size<=4096
 |.rx a s=>a<=4096/\s.size<=4096
 |.call a w l=>a<=4096/\w.size<=4096/\0<ri w/\nJ l=(ri w).toNat/\cA l
 |.keyed a x=>a<=4096/\cA x
 |.unary a op x=>a<=4096/\op.size<=4096/\cA x
 |.binary a op x y=>a<=4096/\op.size<=4096/\cA x/\cA y
 |.nil=>True
 |.cons x l=>cA x/\cA l
def oR(sub:List Tk->PR):Prop:=∀ r,kg r->∀ a r',sub r=.ok (a,r')->cA a/\kg r'
theorem S4{r:List Tk}(h:kg r):alE (pk r):=by
 cases r with
 |nil=>exact⟨Nat.zero_le _,Nat.zero_le _⟩
 |cons t r=>exact h t sI
theorem lL{r:List Tk}(h:kg r):kg r.tail:=λt ht=>h t (List.mem_of_mem_tail ht)
theorem Cf{sub:List Tk->PR}(h:oR sub)(lev:Int):∀ n a r,kg r->cA a->∀ b r',iz sub lev n a r=.ok (b,r')->cA b/\kg r'
 |0,a,r,hr,ha,b,r',he=>by
  cases he;exact⟨ha,hr⟩
 | n+1,a,r,hr,ha,b,r',he=>by
  rw[iz]at he;split at he
  ·split at he
   ·cases he
   ·rename_i x r2 hs;obtain⟨h1,h2⟩:=h _ (lL hr) _ _ hs;have hp:=S4 hr;exact Cf h lev n _ _ h2 (by simp only[cA];exact⟨hp.1,hp.2,ha,h1⟩) _ _ he
  ·cases he;exact⟨ha,hr⟩
theorem VJ{sub:List Tk->PR}(h:oR sub)(lev:Int):oR (ob sub lev):=λr hr a r' he=>by
 unfold ob at he;split at he
 ·cases he
 ·rename_i x r2 hs;obtain⟨h1,h2⟩:=h _ hr _ _ hs;exact Cf h lev _ _ _ h2 h1 _ _ he
theorem abl:∀ n a r,kg r->cA a->cA (oe n a r).1/\kg (oe n a r).2
 |0,a,r,hr,ha=>⟨ha,hr⟩
 | n+1,a,r,hr,ha=>by
  rw[oe];split
  ·have hp:=S4 hr;exact abl n _ _ (lL hr) (by simp only[cA];exact⟨hp.1,hp.2,ha⟩)
  ·exact⟨ha,hr⟩
theorem Wu{atom:List Tk->PR}(h:oR atom):oR (nA atom):=λr hr a r' he=>by
 unfold nA at he;split at he
 ·cases he
 ·rename_i x r2 hs;obtain⟨h1,h2⟩:=h _ hr _ _ hs;simp only[Except.ok.injEq]at he;have h3:=abl r2.length x r2 h2 h1;rw[he]at h3;exact h3
theorem yD{atom:List Tk->PR}(h:oR atom):∀ k,oR (mu atom k)
 |0=>Wu h
 |k+1=>VJ (yD h k) _
theorem alv(l y:Ex)(hl:cA l)(hy:cA y):cA (zb l y)/\nJ (zb l y)=nJ l+1:=by
 induction l with
 |cons x l _ ih=>
  simp only[cA]at hl;obtain⟨i1,i2⟩:=ih hl.2;simp only[zb,cA,nJ];exact⟨⟨hl.1,i1⟩,by rw[i2]⟩
 |_=>simp[zb,cA,nJ,hy]
theorem Bq{ex:List Tk->PR}(h:oR ex):∀ n k l r,kg r->cA l->∀ a r',kX ex n k l r=.ok (a,r')->(cA a/\nJ a=nJ l+n)/\kg r'
 |0,k,l,r,hr,hl,a,r',he=>by
  cases he;exact⟨⟨hl,rfl⟩,hr⟩
 | n+1,k,l,r,hr,hl,a,r',he=>by
  rw[kX]at he;split at he
  ·cases he
  ·have h1:kg (if 0<k then r.tail else r):=by
    split
    ·exact lL hr
    ·exact hr
   split at he
   ·cases he
   ·rename_i x r2 hs;obtain⟨h2,h3⟩:=h _ h1 _ _ hs;obtain⟨s1,s2⟩:=alv l x hl h2;obtain⟨⟨g1,g2⟩,g3⟩:=Bq h n _ _ _ h3 s1 _ _ he;exact⟨⟨g1,oM⟩,g3⟩
theorem u4{m:ByteArray}{f:Ex->Ex}{q:PR}(h:∀ a r',q=.ok (a,r')->cA (f a)/\kg r'){a:Ex}{r' : List Tk}(he:df m f q=.ok (a,r')):cA a/\kg r' := by
 cases q with
 |error e=>cases he
 | ok p=>
  obtain⟨x,r2⟩:=p;have he' : (if dU r2 m=true then (.ok (f x,r2.tail):PR) else .error (60,(pk r2).2.1))=.ok (a,r'):=he;by_cases hm:dU r2 m=true
  ·rw[if_pos hm]at he';cases he';obtain⟨h1,h2⟩:=h _ _ rfl;exact⟨h1,lL h2⟩
  ·rw[if_neg hm]at he';cases he'
theorem zG{m:Option (List Tk->PR)}(hm:∀ ex,m=some ex->oR ex):oR (eF m):=λr hr a r' he=>by
 have hp:=S4 hr;have key:∀ {r1:List Tk} {b:ByteArray} {go:(List Tk->PR)->List Tk->PR},fc m r1 b go=.ok (a,r')->∃ ex,oR ex/\go ex r1.tail=.ok (a,r'):=λ{r1 b go} h=>by
  unfold fc at h;split at h
  ·cases m with
   |none=>cases h
   |some ex=>exact⟨ex,hm ex rfl,h⟩
  ·cases h
 unfold eF at he;split at he
 ·cases he;exact⟨by simp only[cA];exact hp,lL hr⟩
 split at he
 ·cases he;exact⟨by simp only[cA];exact hp,lL hr⟩
 split at he
 ·rename_i hc;obtain⟨ex,h1,h3⟩:=key he;refine u4 (λx r2 hs=>?_) h3;obtain⟨⟨g1,g2⟩,g3⟩:=Bq h1 _ _ _ _ (lL (lL hr)) (by simp only[cA]) _ _ hs;refine⟨?_,g3⟩;simp only[cA];exact⟨hp.1,hp.2,hc.2,by rw[g2];simp[nJ],g1⟩
 split at he
 ·cases he;exact⟨by simp only[cA];exact hp,lL hr⟩
 split at he
 ·obtain⟨ex,h1,h3⟩:=key he;refine u4 (λx r2 hs=>?_) h3;obtain⟨g1,g3⟩:=h1 _ (lL hr) _ _ hs;exact⟨by simp only[cA];exact⟨hp.1,g1⟩,g3⟩
 split at he
 ·obtain⟨ex,h1,h3⟩:=key he;exact u4 (λx r2 hs=>h1 _ (lL hr) _ _ hs) h3
 ·cases he
theorem zF:∀ m,oR (fh m)
 |0=>zG λex h=>by cases h
 |m+1=>zG λex h=>by
  cases h;exact yD (zF m) 5
def ae2(d:Nat×ByteArray×Ex):Prop:=d.1<=4096/\d.2.1.size<=4096/\cA d.2.2
def Wt(p:Pm):Prop:=(∀ d∈p.1,ae2 d)/\cA p.2
theorem CO{ex:List Tk->PR}(h:oR ex):∀ n ds r,kg r->(∀ d∈ds,ae2 d)->∀ p r',iA ex n ds r=.ok (p,r')->Wt p
 |0,ds,r,hr,hd,p,r',he=>by cases he
 | n+1,ds,r,hr,hd,p,r',he=>by
  rw[iA]at he;split at he
  ·split at he
   ·cases he
   split at he
   ·cases he
   split at he
   ·cases he
   rename_i x r2 hs;obtain⟨h1,h2⟩:=h _ (lL (lL (lL hr))) _ _ hs;split at he
   ·cases he
   have hp:=S4 (lL hr);refine CO h n _ _ (lL h2) (λd hd' => ?_) _ _ he;rcases List.mem_append.1 hd' with hd'|hd'
   ·exact hd d hd'
   ·rw[List.mem_singleton.1 hd'];exact⟨hp.1,hp.2,h1⟩
  ·split at he
   ·cases he
   rename_i x r2 hs;obtain⟨h1,h2⟩:=h _ hr _ _ hs;split at he
   ·cases he;exact⟨hd,h1⟩
   ·cases he
theorem Q6{s:ByteArray}{p:Pm}(h:jR s=.ok p):Wt p:=by
 unfold jR at h;split at h
 ·split at h
  ·cases h
  ·rename_i q r hq;cases h;exact CO (yD (zF 64) 5) _ _ _ (agG s) (λd hd=>by cases hd) _ _ hq
 ·cases h
def cnW(op:ByteArray)(n:Option Rx)(x y:Cn):Prop:=if (op=Sx\/op=rk)\/op=jJ then n≠none else if op=gJ then x≠.nil else x≠.nil/\y≠.nil
def VL(op:ByteArray)(n:Option Rx)(q:Cn)(x y:Ln):Prop:=
 if (op=jD\/op=AB)\/op=Hs then n≠none
 else if op=mm then True
 else if (op=gJ\/op=iW)\/op=v7 then x≠.nil
 else if op=wJ\/op=qf then x≠.nil/\q≠.nil
 else x≠.nil/\y≠.nil
def nx:Cn->Prop
 |.nil=>True
 |.mk a op n to bk x y=>a<=4096/\op.size<=4096/\to.size<=4096/\bk.size<=4096/\nx x/\nx y/\cnW op n x y
def oc:Ln->Prop
 |.nil=>True
 |.mk a op n tx q x y=>a<=4096/\op.size<=4096/\tx.size<=4096/\nx q/\oc x/\oc y/\VL op n q x y
theorem BG{op:ByteArray}{n:Option Rx}{x y:Cn}(h:(op=Sx\/op=rk)\/op=jJ):cnW op n x y=(n≠none):=by rw[cnW,if_pos h]
theorem KE{n:Option Rx}{x y:Cn}:cnW gJ n x y=(x≠.nil):=by rw[cnW,if_neg dE,if_pos rfl]
theorem aeY{op:ByteArray}{n:Option Rx}{x y:Cn}(h:op=ya\/op=yh):cnW op n x y=(x≠.nil/\y≠.nil):=by
 rcases h with rfl|rfl<;>rw[cnW,if_neg dE,if_neg dE]
theorem yB{op:ByteArray}{n:Option Rx}{q:Cn}{x y:Ln}(h:(op=jD\/op=AB)\/op=Hs):VL op n q x y=(n≠none):=by rw[VL,if_pos h]
theorem afL{n:Option Rx}{q:Cn}{x y:Ln}:VL mm n q x y=True:=by rw[VL,if_neg dE,if_pos rfl]
theorem tJ{op:ByteArray}{n:Option Rx}{q:Cn}{x y:Ln}(h:(op=gJ\/op=iW)\/op=v7):VL op n q x y=(x≠.nil):=by
 rcases h with (rfl|rfl)|rfl<;>rw[VL,if_neg dE,if_neg dE,if_pos dE]
theorem wV{op:ByteArray}{n:Option Rx}{q:Cn}{x y:Ln}(h:op=wJ\/op=qf):VL op n q x y=(x≠.nil/\q≠.nil):=by
 rcases h with rfl|rfl<;>rw[VL,if_neg dE,if_neg dE,if_neg dE,if_pos dE]
theorem HP{op:ByteArray}{n:Option Rx}{q:Cn}{x y:Ln}(h:((op=ya\/op=yh)\/op=MP)\/op=BE):VL op n q x y=(x≠.nil/\y≠.nil):=by
 rcases h with ((rfl|rfl)|rfl)|rfl<;>rw[VL,if_neg dE,if_neg dE,if_neg dE,if_neg dE]
def fM:Tm->Prop
 |.text a s=>a<=4096/\s.size<=4096
 |.rx a r=>a<=4096
 |.canon c=>nx c/\c≠.nil
 |.lens l=>oc l/\l≠.nil
def Ym(t:Tm):Prop:=fM t/\br t<=8192
theorem P3{s:ByteArray}{r:Rx}(h:pA s=.ok r):bO r<=2000:=by
 rw[pB]at h;cases hd:OO s with
 |error e=>
  obtain⟨c,p⟩:=e;rw[hd,yF (e:=.error (c,p)) rfl]at h;cases h
 |ok t=>
  rw[hd]at h;cases h;exact OP hd
theorem cG{α:Type}{x:Except (Int×Int) α}{f:α->TE}{u:Tm}(h:bM x f=.ok u):∃ a,x=.ok a/\f a=.ok u:=by
 cases x with
 |error e=>cases h
 |ok a=>exact⟨a,rfl,h⟩
theorem AS{a:Nat}{t u:Tm}(h:gT a t=.ok u):u=t/\br t<=2000:=by
 unfold gT at h;split at h
 ·cases h
 ·cases h;exact⟨rfl,oM⟩
theorem akX{a:Nat}{t u:Tm}(ha:a<=4096)(ht:fM t)(h:yw a t=.ok u):fM u:=by
 cases t with
 |lens l=>
  cases h;simp only[fM,oc];exact⟨⟨ha,dE,dE,by simp only[nx],ht.1,trivial,by rw[tJ (.inl (.inr rfl))];exact ht.2⟩,sI⟩
 |_=>cases h
theorem anl{a:Nat}{op:ByteArray}{t u:Tm}(ha:a<=4096)(ht:fM t)(h:AM a op t=.ok u):fM u:=by
 have hS:gJ.size<=4096:=by decide
 have hC:yh.size<=4096:=by decide
 have hA:ya.size<=4096:=by decide
 have hP:jD.size<=4096:=by decide
 have hN:(⟨#[]⟩:ByteArray).size<=4096:=by decide
 unfold AM at h;split at h
 ·cases h;exact ha
 split at h
 ·split at h
  ·cases h;simp only[fM,nx];exact⟨⟨ha,hS,hN,hN,ht.1,trivial,by rw[KE];exact ht.2⟩,sI⟩
  ·cases h
 ·rename_i l _;have hl:oc l:=ht.1;have hln:l≠.nil:=ht.2;have hst:VL gJ none .nil l .nil:=by rw[tJ (.inl (.inl rfl))];exact hln
  cases h;split
  ·simp only[fM,oc,nx];exact⟨⟨ha,hS,hN,trivial,hl,trivial,hst⟩,sI⟩
  split
  ·simp only[fM,oc,nx];exact⟨⟨ha,hC,hN,trivial,hl,⟨ha,hS,hN,trivial,hl,trivial,hst⟩,by rw[HP (.inl (.inl (.inr rfl)))];exact⟨hln,sI⟩⟩,sI⟩
  ·simp only[fM,oc,nx];exact⟨⟨ha,hA,hN,trivial,hl,⟨ha,hP,hN,trivial,trivial,trivial,by rw[yB (.inl (.inl rfl))];simp⟩,by rw[HP (.inl (.inl (.inl rfl)))];exact⟨hln,sI⟩⟩,sI⟩
 ·cases h
theorem aa0(n:Nat):(Wd n).size<=4096:=by
 unfold Wd;split<;>decide
theorem aaZ{n:Nat}(h:0<n)(h4:n<=4):((Wd n=ya\/Wd n=yh)\/Wd n=MP)\/Wd n=BE:=by
 match n,h,h4 with
 |1,_,_=>exact .inl (.inl (.inl rfl))
 |2,_,_=>exact .inl (.inl (.inr rfl))
 |3,_,_=>exact .inl (.inr rfl)
 |4,_,_=>exact .inr rfl
theorem ali(op:ByteArray):H0 op<=4:=by
 unfold H0
 repeat' split
 all_goals omega
theorem YQ{a:Nat}{op:ByteArray}{t u r:Tm}(ha:a<=4096)(ht:fM t)(hu:fM u)(h:oW a op t u=.ok r):fM r:=by
 have hN:(⟨#[]⟩:ByteArray).size<=4096:=by decide
 have hO:=aa0 (H0 op);unfold oW at h;split at h
 ·split at h
  ·rename_i h0;cases h;simp only[fM,oc,nx];exact⟨⟨ha,hO,hN,trivial,ht.1,hu.1,by rw[HP (aaZ h0 (ali op))];exact⟨ht.2,hu.2⟩⟩,sI⟩
  ·cases h
 ·split at h
  ·rename_i h0;cases h;simp only[fM,oc,nx];have h1:Wd (H0 op)=ya\/Wd (H0 op)=yh:=by
    rcases h0 with h0|h0<;>rw[h0]
    ·exact .inl rfl
    ·exact .inr rfl
   exact⟨⟨ha,hO,hN,hN,ht.1,hu.1,by rw[aeY h1];exact⟨ht.2,hu.2⟩⟩,sI⟩
  ·cases h
 ·cases h
theorem amv{a:Nat}{op:ByteArray}{t u r:Tm}(ha:a<=4096)(ht:fM t)(hu:fM u)(h:EV a op t u=.ok r):fM r:=by
 unfold EV at h;split at h
 ·split at h
  ·cases h;exact ha
  ·exact YQ ha ht hu h
 ·exact YQ ha ht hu h
theorem Sc{w:ByteArray}(h:0<ri w):(((w=jD\/w=AB)\/w=mm)\/w=Sx\/w=rk)\/((w=Hs\/w=wJ)\/w=qf\/w=v7)\/w=jJ:=by
 unfold ri at h;split at h
 ·rename_i h';rcases h' with h'|h'|h'|h'|h'
  ·exact .inl (.inl (.inl (.inl h')))
  ·exact .inl (.inl (.inl (.inr h')))
  ·exact .inl (.inl (.inr h'))
  ·exact .inl (.inr (.inl h'))
  ·exact .inl (.inr (.inr h'))
 split at h
 ·rename_i h';rcases h' with h'|h'|h'|h'
  ·exact .inr (.inl (.inl (.inl h')))
  ·exact .inr (.inl (.inl (.inr h')))
  ·exact .inr (.inl (.inr (.inl h')))
  ·exact .inr (.inl (.inr (.inr h')))
 split at h
 ·rename_i h';exact .inr (.inr h')
 split at h
 ·omega
 ·omega
theorem aeU{a:Nat}{w:ByteArray}{ts:List Tm}{ps:List Nat}{u:Tm}(ha:a<=4096)(hw:w.size<=4096)(hr:0<ri w)(hts:∀ t∈ts,fM t)(h:bc a w ts ps=.ok u):fM u:=by
 have hN:(⟨#[]⟩:ByteArray).size<=4096:=by decide
 have tx:∀ {i s},As ts ps i=.ok s->s.size<=4096:=λ{i s} h=>by
  unfold As at h;split at h
  ·rename_i hi;cases h;exact (hts _ (List.mem_of_getElem? hi)).2
  ·cases h
 have cn:∀ {i c},E4 ts ps i=.ok c->nx c/\c≠.nil:=λ{i c} h=>by
  unfold E4 at h;split at h
  ·rename_i hi;cases h;exact hts _ (List.mem_of_getElem? hi)
  ·cases h
 have ln:∀ {i l},Ce ts ps i=.ok l->oc l/\l≠.nil:=λ{i l} h=>by
  unfold Ce at h;split at h
  ·rename_i hi;cases h;exact hts _ (List.mem_of_getElem? hi)
  ·cases h
 unfold bc at h;split at h
 ·rename_i hc;obtain⟨n,_,h⟩:=cG h;cases h;simp only[fM,nx];exact⟨⟨ha,hw,hN,hN,trivial,trivial,by rw[BG (.inl hc)];simp⟩,sI⟩
 split at h
 ·rename_i hc;obtain⟨n,_,h⟩:=cG h;obtain⟨s,h1,h⟩:=cG h;obtain⟨t,h2,h⟩:=cG h;cases h;simp only[fM,nx];exact⟨⟨ha,hw,tx h1,tx h2,trivial,trivial,by rw[BG (.inr hc)];simp⟩,sI⟩
 split at h
 ·rename_i hc;obtain⟨n,_,h⟩:=cG h;obtain⟨s,h1,h⟩:=cG h;cases h;simp only[fM,oc,nx];exact⟨⟨ha,hw,tx h1,trivial,trivial,trivial,by rw[yB (.inr hc)];simp⟩,sI⟩
 split at h
 ·rename_i hc;obtain⟨s,h1,h⟩:=cG h;cases h;subst hc;simp only[fM,oc,nx];exact⟨⟨ha,hw,tx h1,trivial,trivial,trivial,by rw[afL];trivial⟩,sI⟩
 split at h
 ·rename_i hc;obtain⟨s,h1,h⟩:=cG h;cases h;simp only[fM,oc,nx];exact⟨⟨ha,hw,hN,trivial,trivial,trivial,by rw[yB (.inl hc)];simp⟩,sI⟩
 split at h
 ·rename_i hc;obtain⟨c,h1,h⟩:=cG h;obtain⟨l,h2,h⟩:=cG h;cases h;simp only[fM,oc];exact⟨⟨ha,hw,hN,(cn h1).1,(ln h2).1,trivial,by rw[wV (.inl hc)];exact⟨(ln h2).2,(cn h1).2⟩⟩,sI⟩
 split at h
 ·rename_i hc;obtain⟨l,h2,h⟩:=cG h;obtain⟨c,h1,h⟩:=cG h;cases h;simp only[fM,oc];exact⟨⟨ha,hw,hN,(cn h1).1,(ln h2).1,trivial,by rw[wV (.inr hc)];exact⟨(ln h2).2,(cn h1).2⟩⟩,sI⟩
 split at h
 ·rename_i hc;obtain⟨l,h2,h⟩:=cG h;obtain⟨s,h1,h⟩:=cG h;cases h;simp only[fM,oc,nx];exact⟨⟨ha,hw,tx h1,trivial,(ln h2).1,trivial,by rw[tJ (.inr hc)];exact (ln h2).2⟩,sI⟩
 ·rename_i g1 g2 g3 g4 g5 g6 g7 g8;exfalso;rcases Sc hr with (((h|h)|h)|h|h)|((h|h)|h|h)|h
  ·exact g5 (.inl h)
  ·exact g5 (.inr h)
  ·exact g4 h
  ·exact g1 (.inl h)
  ·exact g1 (.inr h)
  ·exact g3 h
  ·exact g6 h
  ·exact g7 h
  ·exact g8 h
  ·exact g2 h
def wg(v:En):Prop:=∀ e∈v,Ym e.2
theorem amM{v:En}{s:ByteArray}{t:Tm}(hv:wg v)(h:Lm v s=some t):Ym t:=by
 induction v with
 |nil=>cases h
 | cons e r ih=>
  obtain⟨k,u⟩:=e;rw[Lm]at h;split at h
  ·cases h;exact hv (k,t) sI
  ·exact ih (λe he=>hv e (List.mem_cons_of_mem _ he)) h
theorem F9(v:En)(hv:wg v)(x:Ex):cA x->(∀ t,aE v x=.ok t->Ym t)/\(∀ ts,cx v x=.ok ts->(∀ t∈ts,Ym t)/\ts.length=nJ x):=by
 have triv:∀ ts:List Tm,(.ok []:Except (Int×Int) (List Tm))=.ok ts->(∀ t∈ts,Ym t)/\ts.length=0:=λts h=>by
  cases h;exact⟨λt ht=>(by cases ht),rfl⟩
 induction x with
 | name a s=>
  refine λhx=>⟨λt h=>?_,λts h=>triv ts (by simpa only[cx] using h)⟩
  simp only[aE]at h;split at h
  ·rename_i hl;cases h;exact amM hv hl
  ·cases h
 |text a s=>
  refine λhx=>⟨λt h=>?_,λts h=>triv ts (by simpa only[cx] using h)⟩
  simp only[aE]at h;cases h;simp only[cA]at hx;refine⟨hx,?_⟩;simp only[br,mE];omega
 | rx a s=>
  refine λhx=>⟨λt h=>?_,λts h=>triv ts (by simpa only[cx] using h)⟩
  simp only[aE]at h;split at h
  ·rename_i r hr;cases h;simp only[cA]at hx;have:=P3 hr;exact⟨hx.1,by simp only[br];omega⟩
  ·cases h
 |keyed a x ih=>
  refine λhx=>⟨λt h=>?_,λts h=>triv ts (by simpa only[cx] using h)⟩
  simp only[aE]at h;simp only[cA]at hx;obtain⟨t1,h1,h⟩:=cG h;obtain⟨t2,h2,h⟩:=cG h;obtain⟨rfl,h3⟩:=AS h;exact⟨akX hx.1 ((ih hx.2).1 _ h1).1 h2,oM⟩
 |unary a op x ih=>
  refine λhx=>⟨λt h=>?_,λts h=>triv ts (by simpa only[cx] using h)⟩
  simp only[aE]at h;simp only[cA]at hx;obtain⟨t1,h1,h⟩:=cG h;obtain⟨t2,h2,h⟩:=cG h;obtain⟨rfl,h3⟩:=AS h;exact⟨anl hx.1 ((ih hx.2.2).1 _ h1).1 h2,oM⟩
 |binary a op x y ix iy=>
  refine λhx=>⟨λt h=>?_,λts h=>triv ts (by simpa only[cx] using h)⟩
  simp only[aE]at h;simp only[cA]at hx;obtain⟨t1,h1,h⟩:=cG h;obtain⟨t0,h0,h⟩:=cG h;obtain⟨t2,h2,h⟩:=cG h;obtain⟨rfl,h3⟩:=AS h;exact⟨amv hx.1 ((ix hx.2.2.1).1 _ h1).1 ((iy hx.2.2.2).1 _ h0).1 h2,oM⟩
 | call a w l ih=>
  refine λhx=>⟨λt h=>?_,λts h=>triv ts (by simpa only[cx] using h)⟩
  simp only[aE]at h;simp only[cA]at hx;split at h
  ·cases h
  ·rename_i ts hl;obtain⟨t2,h2,h⟩:=cG h;obtain⟨rfl,h3⟩:=AS h;exact⟨aeU hx.1 hx.2.1 hx.2.2.1 (λt ht=>(((ih hx.2.2.2.2).2 _ hl).1 t ht).1) h2,oM⟩
 |nil=>
  refine λhx=>⟨λt h=>?_,λts h=>triv ts (by simpa only[cx] using h)⟩
  simp only[aE]at h;cases h
 | cons x l ix il=>
  refine λhx=>⟨λt h=>?_,λts h=>?_⟩
  ·simp only[aE]at h;cases h
  ·simp only[cx]at h;simp only[cA]at hx;split at h
   ·cases h
   ·rename_i t ht;split at h
    ·cases h
    ·rename_i us hu;cases h;obtain⟨g1,g2⟩:=(il hx.2).2 _ hu;refine⟨λt' ht' => ?_,by simp only[List.length_cons,nJ,g2]⟩;rcases List.mem_cons.1 ht' with rfl|ht'
     ·exact (ix hx.1).1 _ ht
     ·exact g1 t' ht'
theorem qd{v:En}{x:Ex}{t:Tm}(hv:wg v)(hx:cA x)(h:aE v x=.ok t):Ym t:=(F9 v hv x hx).1 t h
theorem Lq{v:En}{x:Ex}{ts:List Tm}(hv:wg v)(hx:cA x)(h:cx v x=.ok ts):(∀ t∈ts,Ym t)/\ts.length=nJ x:=(F9 v hv x hx).2 ts h
theorem Sk:∀ (v:En) (l:List (Nat×ByteArray×Ex)) (u:En),wg v->(∀ d∈l,ae2 d)->zW v l=.ok u->wg u
 |v,[],u,hv,hl,h=>by
  cases h;exact hv
 | v,(a,s,x)::r,u,hv,hl,h=>by
  rw[zW]at h;split at h
  ·cases h
  split at h
  ·cases h
  rename_i t ht;refine Sk _ r u (λe he=>?_) (λd hd=>hl d (List.mem_cons_of_mem _ hd)) h;rcases List.mem_append.1 he with he|he
  ·exact hv e he
  ·rw[List.mem_singleton.1 he];exact qd hv (hl (a,s,x) sI).2.2 ht
theorem ae3{p:Pm}{t:Tm}(hp:Wt p)(h:v8 p=.ok t):Ym t:=by
 unfold v8 at h;split at h
 ·cases h
 ·rename_i v hv;exact qd (Sk [] p.1 v (λe he=>by cases he) hp.1 hv) hp.2 h
theorem amK(x:ByteArray):dd [x]=x:=by
 unfold dd;rw[List.map_cons,List.map_nil,Lib.join_one]
theorem bF:∀ l:List ByteArray,(dd l).size<=(l.map λx=>x.size+1).sum
 |[]=>Nat.zero_le _
 |[x]=>by
  rw[amK];simp
 | x::y::r=>by
  have ih:=bF (y::r);have e:dd (x::y::r)=x++KG++dd (y::r):=by
   unfold dd Lib.join;apply ByteArray.ext;simp[List.intercalate,List.intersperse]
  rw[e,ByteArray.size_append,ByteArray.size_append];have:KG.size=1:=rfl;simp only[List.map_cons,List.sum_cons]at ih ⊢;omega
theorem BV(a:Nat)(w:ByteArray)(l:List ByteArray)(ha:a<=4096):(cW a w l).size<=w.size+22+(l.map λx=>x.size+1).sum:=by
 have h1:=Ge (n:=(a:Nat)) oM oM;have h2:=bF l;have e1:atB.size=1:=rfl;have e2:alk.size=1:=rfl;have e3:akt.size=1:=rfl;unfold cW;simp only[ByteArray.size_append];omega
theorem gY(n:Option Rx):(ee n).size<=2400*eg n+4:=by
 have e1:ab8.size=1:=rfl;cases n with
 |none=>
  have e2:(⟨#[91,93]⟩:ByteArray).size=2:=rfl;simp only[ee,ByteArray.size_append];omega
 |some r=>
  have:=cR r;simp only[ee,ByteArray.size_append,eg];omega
theorem xo(c:Cn)(h:nx c):(nv c).size<=40000*dM c:=by
 induction c with
 |nil=>exact Nat.zero_le _
 | mk a op n to bk x y ix iy=>
  simp only[nx]at h;obtain⟨h1,h2,h3,h4,h5,h6,_⟩:=h;have ix:=ix h5;have iy:=iy h6;have hn:=gY n;have ht:=kx to;have hb:=kx bk;have hh:=λl=>BV a op l h1
  simp only[nv,dM]
  repeat' split
  all_goals
   refine Nat.le_trans (hh _) ?_;simp only[List.map_cons,List.map_nil,List.sum_cons,List.sum_nil];omega
theorem MF(l:Ln)(h:oc l):(im l).size<=40000*gn l:=by
 induction l with
 |nil=>exact Nat.zero_le _
 | mk a op n tx q x y ix iy=>
  simp only[oc]at h;obtain⟨h1,h2,h3,h4,h5,h6,_⟩:=h;have ix:=ix h5;have iy:=iy h6;have iq:=xo q h4;have hn:=gY n;have ht:=kx tx;have hh:=λl=>BV a op l h1
  simp only[im,gn]
  repeat' split
  all_goals
   refine Nat.le_trans (hh _) ?_;simp only[List.map_cons,List.map_nil,List.sum_cons,List.sum_nil];omega
end
section
open Go Go.RowKit Go.LE
set_option maxRecDepth 10000
def fe(W:World)(S:Nat->Prop):List Value->List Tm->Prop
 |[],[]=>True
 |v::vs,t::ts=>ek W S v t/\fe W S vs ts
 |_,_=>False
theorem fe.mono{W W' : World}{S S' : Nat->Prop}(hs:aX W S W' S'):∀ {vs:List Value} {ts:List Tm},fe W S vs ts->fe W' S' vs ts
 |[],[],_=>trivial
 |[],_::_,h=>h
 |_::_,[],h=>h
 |v::vs,t::ts,⟨h1,h2⟩=>⟨h1.mono hs,fe.mono hs h2⟩
theorem fe.len{W:World}{S:Nat->Prop}:∀ {vs:List Value} {ts:List Tm},fe W S vs ts->vs.length=ts.length
 |[],[],_=>rfl
 |[],_::_,h=>h.elim
 |_::_,[],h=>h.elim
 |v::vs,t::ts,⟨h1,h2⟩=>by rw[List.length_cons,List.length_cons,fe.len h2]
theorem fe.get{W:World}{S:Nat->Prop}:∀ {vs:List Value} {ts:List Tm} {i:Nat},fe W S vs ts->i<vs.length->∃ v t,vs[i]?=some v/\ts[i]?=some t/\ek W S v t
 |[],[],i,_,h=>absurd h (Nat.not_lt_zero i)
 |[],_::_,i,h,_=>h.elim
 |_::_,[],i,h,_=>h.elim
 |v::vs,t::ts,0,⟨h1,h2⟩,_=>⟨v,t,rfl,rfl,h1⟩
 |v::vs,t::ts,i+1,⟨h1,h2⟩,h=>by
  obtain⟨v',t',g1,g2,g3⟩:=fe.get h2 (Nat.lt_of_succ_lt_succ h);exact⟨v',t',by simpa using g1,by simpa using g2,g3⟩
theorem fe.snoc{W:World}{S:Nat->Prop}{v:Value}{t:Tm}(hv:ek W S v t):∀ {vs:List Value} {ts:List Tm},fe W S vs ts->fe W S (vs++[v]) (ts++[t])
 |[],[],_=>⟨hv,trivial⟩
 |[],_::_,h=>h.elim
 |_::_,[],h=>h.elim
 |v::vs,t::ts,⟨h1,h2⟩=>⟨h1,fe.snoc hv h2⟩
theorem nZ.at{W:World}{S:Nat->Prop}:∀ {vs:List Value} {l:Ex} {i:Nat},nZ W S false vs l->i<vs.length->∃ v x,vs[i]?=some v/\AP W S v x/\U1 x=(cF l).getD i 0
 |[],l,i,_,h=>absurd h (Nat.not_lt_zero i)
 |v::vs,l,0,h,_=>by
  cases h with
  |cons _ _ x l h1 h2=>exact⟨v,x,rfl,h1,rfl⟩
 | v::vs,l,i+1,h,hi=>by
  cases h with
  |cons _ _ x l h1 h2=>
   obtain⟨v',x',g1,g2,g3⟩:=nZ.at h2 (Nat.lt_of_succ_lt_succ hi);exact⟨v',x',by simpa using g1,g2,g3⟩
theorem jY.cell{W:World}{S:Nat->Prop}{ao:Option Addr}{vs:List Value}{i:Nat}{v:Value}(h:jY W S ao vs)(hv:vs[i]?=some v):∃ b o,ao=some ⟨b,o,none⟩/\S b/\W.cell? ⟨b,o+i,none⟩=some v:=by
 rcases h with h|⟨b,o,rfl,hc⟩
 ·rw[h]at hv;cases hv
 ·obtain⟨hi,rfl⟩:=List.getElem?_eq_some_iff.1 hv;exact⟨b,o,rfl,(hc i hi).1,(hc i hi).2⟩
structure Ag where
 a:Nat
 wd:ByteArray
 ea:Option Addr
 ec:Nat
 vs:List Value
 l:Ex
 ta:Option Addr
 tc:Nat
 us:List Value
 ts:List Tm
def Av(q:Ag)(i:Nat):List AV:=[.val (.int .i64 (q.a:Nat)),.val (.string q.wd),.val (.slice q.ea q.vs.length q.ec),.val (.slice q.ta q.us.length q.tc),.val (.int .i64 (i:Nat))]
def Ag.ok(q:Ag)(W:World)(S:Nat->Prop):Prop:=(jY W S q.ea q.vs/\nZ W S false q.vs q.l)/\(jY W S q.ta q.us/\fe W S q.us q.ts)/\(q.vs.length=q.us.length/\q.us.length<=3/\q.us.length<=q.tc/\q.vs.length<=q.ec)/\∀ t∈q.ts,Ym t
theorem Ag.ok.mono{q:Ag}{W W' : World}{S S' : Nat->Prop}(h:q.ok W S)(hs:aX W S W' S'):q.ok W' S' := ⟨⟨h.1.1.mono hs,h.1.2.mono hs⟩,⟨h.2.1.1.mono hs,h.2.1.2.mono hs⟩,h.2.2⟩
theorem Ag.ok.gh{q:Ag}{W w:World}{bs fp:List Nat}(h:q.ok W (Out bs))(hk:LE.an W bs w)(hm:∀ b∈fp,W.heap.size<=b\/b∈bs):q.ok w (Out fp):=
 h.mono λb hb hs=>⟨hk.block b hb hs,λhb' => (hm b hb').elim (λg=>absurd g (Nat.not_le.2 hb)) hs⟩
theorem B0{Γ:Env Tryz.prog}{W:World}{bs:List Nat}{κ:Nat}{hh:Hp}(hm:Γ.mt=mtP)(hs:∀ f s,spP f=some s->Γ.sp f=some s){W0:World}{S0:Nat->Prop}{v:Value}{x:Ex}(h:AP W0 S0 v x) :
  aI Γ W bs κ hh "Place" [.v v]=⟨True,.v (.int .i64 (U1 x:Nat)),[],none,[],[]⟩:=by
 obtain⟨p,hp,e⟩:=Vj (Γ:=Γ) (W:=W) (bs:=bs) (κ:=κ) (hh:=hh) hm hs h;rw[e,eq_true hp]
def Uc(q:Ag)(i:Nat):List PanicEntry:=bf 72 (((cF q.l).getD i 0:Nat))
theorem sF{t:Tm}(h:Ym t):Xn t:=by
 cases t with
 |text a s=>
  have:s.size<=4096:=h.1.2;show s.size<=_;omega
 |_=>trivial
noncomputable def fA:Env Tryz.prog:=⟨λ| 64=>some (ie.spec (λ_=>False))|f=>spP f,λ_=>none,mtP⟩
theorem ahU:fA.sp 64=some (ie.spec (λ_=>False)):=rfl
theorem ad1{W:World}{bs:List Nat}{κ:Nat}{hh:Hp}{W0:World}{S0:Nat->Prop}{v:Value}{x:Ex}(h:AP W0 S0 v x):aI fA W bs κ hh "Place" [.v v]=⟨True,.v (.int .i64 (U1 x:Nat)),[],none,[],[]⟩:=
 B0 rfl (λf s hf=>by
  unfold spP at hf
  split at hf<;>cases hf<;>rfl) h
def amq:=(ae @List.replicate_succ.{0} @List.replicate_zero.{0} @au @ab lx ly lA (ae di dj dk dm dB dD dF (ae dG eK eL eM eN eO eP (ae oH oI oJ oK jS jT jU (ae jV jW ot ou ov ow ox (ae iH iI iJ iK qs qt qu (ae qv qw qx qy qz qA qB (ae qC qD qE qF qG qH qI (ae qJ qK qL qM qN qO qP (ae qQ qR qS qT mG mH mI (ae mJ mK mL mM mN mO mP (ae mQ mR mS mT mU mV mW (ae mX mY JS JT RH RJ RM (ae RN zh zi zj zk zl zm (ae zp zq zr zt RQ RR acN (ae acO acP acQ acR acS acT acU (ae acV acW acX acY acZ ac0 ac1 (ae ac2 ac3 ac4 alR alS @aV @aw (EL @aD @aF @cP @ahU @ie.eq_1 @Av.eq_1 @e8)))))))))))))))))))
theorem P6(q:Ag)(i:Nat)(u:Value)(fp:List Nat)(w:World)(hq:q.ok w (Out fp))(hi:i<q.us.length)(ho:aY w u fp 293 (Av q i))(hlt:∀ b∈fp,b<w.heap.size) :
  Calls Tryz.prog 209 (#[u]++#[]) w λx w' => dN w u fp 293 x w' (.pan (Uc q i) (.tuple #[])):=by
 have hi2:i<q.vs.length:=by have:=hq.2.2.1.1;omega
 obtain⟨v,x,hv,hx,hat⟩:=nZ.at hq.1.2 hi2;obtain⟨b,o,hea,hb,hc⟩:=jY.cell hq.1.1 hv;have hpl:=λW bs κ hh=>ad1 (W:=W) (bs:=bs) (κ:=κ) (hh:=hh) hx
 have hb' : b∉fp:=hb;refine aO (nt:=15) #[] [] (by show 5<=7;omega) ho hlt Tryz.func209 rfl rfl rfl ?_;refine Wp.rp fA aN (ev (ae amq hea hc hpl hat @Uc.eq_1 @bf.eq_1 @pR.eq_1)) rfl (by kernel_rfl) ?_ ?_
 ·exact⟨⟨oM,oM⟩,hb',_,_,rfl⟩
 refine qq ?_;exact⟨_,rfl⟩
def Ig(q:Ag)(i:Nat):bP Tryz.prog 209 where
 T:=293
 pre:=λW bs fs as_=>(fs=Av q i/\as_=[])/\q.ok W (Out bs)/\i<q.us.length
 out:=λ_ _ _=>.pan (Uc q i) (.tuple #[])
 enters:=Tryz.call209
 ok:=by
  intro W w bs u fp us fs as_ hk ho hlt hmine hu hp;obtain⟨⟨rfl,rfl⟩,h1,h2⟩:=hp
  match us,hu with
  |[],_=>exact P6 q i u fp w (h1.gh hk hmine) h2 ho hlt
noncomputable def xU(q:Ag)(i:Nat):Env Tryz.prog:=⟨λ| 209=>some (Ig q i).spec|158=>some Uo.spec|_=>none,λ_=>none,λ_ _=>none⟩
theorem ad3(q:Ag)(i:Nat):(xU q i).sp 209=some (Ig q i).spec:=rfl
theorem ad2(q:Ag)(i:Nat):(xU q i).sp 158=some Uo.spec:=rfl
def agO(e:Except (Int×Int) Value)(q:Ag)(i:Nat):BOut:=match e with
 |.ok v=>.ret v (Av q (i+1))
 |.error (c,a)=>.pan (bf c a) .nilIface
def amH:Value->Value
 |.iface _ p=>p
 |v=>v
def afN{α:Type}(f:α->Value):Except (Int×Int) α->Except (Int×Int) Value
 |.ok a=>.ok (f a)
 |.error e=>.error e
def uB(q:Ag)(i:Nat):BOut:=agO (afN ay (EN q.ts (cF q.l) i)) q i
def b6:=(ae amq @ad3 @ad2 @Bt @Bs @Un.eq_1 @Un.eq_2 (bp @Ig.eq_1 @cf @aM))
theorem N8(q:Ag)(i:Nat)(u:Value)(fp:List Nat)(w:World)(hq:q.ok w (Out fp))(hi:i<q.us.length)(ho:aY w u fp 293 (Av q i))(hlt:∀ b∈fp,b<w.heap.size) :
  Calls Tryz.prog 159 (#[u]++#[]) w λx w' => dN w u fp 293 x w' (uB q i):=by
 obtain⟨v,t,hv,ht,htv⟩:=fe.get hq.2.1.2 hi;obtain⟨b,o,hta,hb,hc⟩:=jY.cell hq.2.1.1 hv;have hb' : b∉fp:=hb;have hS:=hq.2.2.2 t (List.mem_of_getElem? ht);have hi3:i<3:=by have:=hq.2.2.1.2.1;omega
 have wo:IntKind.i64.wrap ((i:Int)+1)=((i+1:Nat):Int):=wW;have hD:rE w v=t:=bW htv;have hg:q.us.getD i undef=v:=by rw[List.getD_eq_getElem?_getD,hv];rfl
 have hle:q.us.length<=q.tc:=hq.2.2.1.2.2.1;refine aO (nt:=31) #[] [.tmp 2] (by show 5<=7;omega) ho hlt Tryz.func159 rfl rfl rfl ?_;refine vR fA b6 ?_;cases hn:ud t with
 | some n=>
  have hE:uB q i=.ret (ay n) (Av q (i+1)):=by
   unfold uB EN;rw[ht];simp only[Option.bind_some,hn];rfl
  rw[hE];refine kT (xU q i) (nu b6 hta hc hD hn) ?_ ?_
  ·exact⟨⟨oM,oM⟩,hb',t,htv,sF hS⟩
  refine Wp.seq ?_;refine vR fA b6 ?_;refine wC b6 (λhc=>?_) (λhc=>?_)
  ·cases hc
  refine wK ?_;refine vR fA (aa b6 wo) ?_;refine vR fA b6 ?_;refine wZ b6 ?_;exact⟨_,_,rfl,λE=>rfl,_,_,rfl,(ev (fg b6 @aq @Av.eq_1 hta)),dE⟩
 | none=>
  have hE:uB q i=.pan (Uc q i) .nilIface:=by
   unfold uB EN;rw[ht];simp only[Option.bind_some,hn];rfl
  rw[hE];refine kT (xU q i) (nu b6 hta hc hD hn) ?_ ?_
  ·exact⟨⟨oM,oM⟩,hb',t,htv,sF hS⟩
  refine Wp.seq ?_;refine vR fA b6 ?_;refine wC b6 (λhc=>?_) (λhc=>?_)
  rotate_left
  ·cases hc
  refine Wp.dJ (xU q i) aN (ev (aa b6 hta)) ?_ ?_
  ·exact⟨⟨hq,hi⟩,dE,λ_ h=>h.elim⟩
  refine qq ?_;exact⟨_,rfl⟩
def G9(q:Ag)(i:Nat):bP Tryz.prog 159 where
 T:=293
 pre:=λW bs fs as_=>(fs=Av q i/\as_=[])/\q.ok W (Out bs)/\i<q.us.length
 out:=λ_ _ _=>uB q i
 enters:=Tryz.call159
 ok:=by
  intro W w bs u fp us fs as_ hk ho hlt hmine hu hp;obtain⟨⟨rfl,rfl⟩,h1,h2⟩:=hp
  match us,hu with
  |[],_=>exact N8 q i u fp w (h1.gh hk hmine) h2 ho hlt
def nY(q:Ag)(i:Nat):BOut:=agO (afN Value.string (As q.ts (cF q.l) i)) q i
theorem N9(q:Ag)(i:Nat)(u:Value)(fp:List Nat)(w:World)(hq:q.ok w (Out fp))(hi:i<q.us.length)(ho:aY w u fp 293 (Av q i))(hlt:∀ b∈fp,b<w.heap.size) :
  Calls Tryz.prog 160 (#[u]++#[]) w λx w' => dN w u fp 293 x w' (nY q i):=by
 obtain⟨v,t,hv,ht,htv⟩:=fe.get hq.2.1.2 hi;obtain⟨b,o,hta,hb,hc⟩:=jY.cell hq.2.1.1 hv;have hb' : b∉fp:=hb;have hS:=hq.2.2.2 t (List.mem_of_getElem? ht);have hi3:i<3:=by have:=hq.2.2.1.2.1;omega
 have wo:IntKind.i64.wrap ((i:Int)+1)=((i+1:Nat):Int):=wW;have hD:rE w v=t:=bW htv;have hg:q.us.getD i undef=v:=by rw[List.getD_eq_getElem?_getD,hv];rfl
 have hle:q.us.length<=q.tc:=hq.2.2.1.2.2.1;refine aO (nt:=32) #[] [.tmp 2] (by show 5<=7;omega) ho hlt Tryz.func160 rfl rfl rfl ?_;refine vR fA b6 ?_;cases t with
 | text a s=>
  obtain rfl:v=_:=htv;have hE:nY q i=.ret (.string s) (Av q (i+1)):=by
   unfold nY As;rw[ht];rfl
  rw[hE];refine kT fA (bp b6 hta hc) ?_ ?_
  ·exact⟨⟨oM,oM⟩,hb'⟩
  refine Wp.seq ?_;refine vR fA b6 ?_;refine wC b6 (λhc=>?_) (λhc=>?_)
  ·cases hc
  refine wK ?_;refine vR fA (aa b6 wo) ?_;refine vR fA b6 ?_;refine wZ b6 ?_;exact⟨_,_,rfl,λE=>rfl,_,_,rfl,(ev (fg b6 @aq @Av.eq_1 hta)),dE⟩
 | rx a r=>
  obtain rfl:v=_:=htv;have hE:nY q i=.pan (Uc q i) .nilIface:=by
   unfold nY As;rw[ht];rfl
  rw[hE];refine kT fA (bp b6 hta hc) ?_ ?_
  ·exact⟨⟨oM,oM⟩,hb'⟩
  refine Wp.seq ?_;refine vR fA b6 ?_;refine wC b6 (λhc=>?_) (λhc=>?_)
  rotate_left
  ·cases hc
  refine Wp.dJ (xU q i) aN (ev (aa b6 hta)) ?_ ?_
  ·exact⟨⟨hq,hi⟩,dE,λ_ h=>h.elim⟩
  refine qq ?_;exact⟨_,rfl⟩
 | canon c=>
  obtain⟨p,rfl,hc0⟩:=htv;have hE:nY q i=.pan (Uc q i) .nilIface:=by
   unfold nY As;rw[ht];rfl
  rw[hE];refine kT fA (bp b6 hta hc) ?_ ?_
  ·exact⟨⟨oM,oM⟩,hb'⟩
  refine Wp.seq ?_;refine vR fA b6 ?_;refine wC b6 (λhc=>?_) (λhc=>?_)
  rotate_left
  ·cases hc
  refine Wp.dJ (xU q i) aN (ev (aa b6 hta)) ?_ ?_
  ·exact⟨⟨hq,hi⟩,dE,λ_ h=>h.elim⟩
  refine qq ?_;exact⟨_,rfl⟩
 | lens c=>
  obtain⟨p,rfl,hc0⟩:=htv;have hE:nY q i=.pan (Uc q i) .nilIface:=by
   unfold nY As;rw[ht];rfl
  rw[hE];refine kT fA (bp b6 hta hc) ?_ ?_
  ·exact⟨⟨oM,oM⟩,hb'⟩
  refine Wp.seq ?_;refine vR fA b6 ?_;refine wC b6 (λhc=>?_) (λhc=>?_)
  rotate_left
  ·cases hc
  refine Wp.dJ (xU q i) aN (ev (aa b6 hta)) ?_ ?_
  ·exact⟨⟨hq,hi⟩,dE,λ_ h=>h.elim⟩
  refine qq ?_;exact⟨_,rfl⟩
def Ha(q:Ag)(i:Nat):bP Tryz.prog 160 where
 T:=293
 pre:=λW bs fs as_=>(fs=Av q i/\as_=[])/\q.ok W (Out bs)/\i<q.us.length
 out:=λ_ _ _=>nY q i
 enters:=Tryz.call160
 ok:=by
  intro W w bs u fp us fs as_ hk ho hlt hmine hu hp;obtain⟨⟨rfl,rfl⟩,h1,h2⟩:=hp
  match us,hu with
  |[],_=>exact N9 q i u fp w (h1.gh hk hmine) h2 ho hlt
def jC(q:Ag)(i:Nat):BOut:=agO (afN (λ_=>amH (q.us.getD i undef)) (E4 q.ts (cF q.l) i)) q i
theorem Kb(q:Ag)(i:Nat)(u:Value)(fp:List Nat)(w:World)(hq:q.ok w (Out fp))(hi:i<q.us.length)(ho:aY w u fp 293 (Av q i))(hlt:∀ b∈fp,b<w.heap.size) :
  Calls Tryz.prog 161 (#[u]++#[]) w λx w' => dN w u fp 293 x w' (jC q i):=by
 obtain⟨v,t,hv,ht,htv⟩:=fe.get hq.2.1.2 hi;obtain⟨b,o,hta,hb,hc⟩:=jY.cell hq.2.1.1 hv;have hb' : b∉fp:=hb;have hS:=hq.2.2.2 t (List.mem_of_getElem? ht);have hi3:i<3:=by have:=hq.2.2.1.2.1;omega
 have wo:IntKind.i64.wrap ((i:Int)+1)=((i+1:Nat):Int):=wW;have hD:rE w v=t:=bW htv;have hg:q.us.getD i undef=v:=by rw[List.getD_eq_getElem?_getD,hv];rfl
 have hle:q.us.length<=q.tc:=hq.2.2.1.2.2.1;refine aO (nt:=31) #[] [.tmp 2] (by show 5<=7;omega) ho hlt Tryz.func161 rfl rfl rfl ?_;refine vR fA b6 ?_;cases t with
 | text a s=>
  obtain rfl:v=_:=htv;have hE:jC q i=.pan (Uc q i) .nilIface:=by
   unfold jC E4;rw[ht];rfl
  rw[hE];refine kT fA (bp b6 hta hc) ?_ ?_
  ·exact⟨⟨oM,oM⟩,hb'⟩
  refine Wp.seq ?_;refine vR fA b6 ?_;refine wC b6 (λhc=>?_) (λhc=>?_)
  rotate_left
  ·cases hc
  refine Wp.dJ (xU q i) aN (ev (aa b6 hta)) ?_ ?_
  ·exact⟨⟨hq,hi⟩,dE,λ_ h=>h.elim⟩
  refine qq ?_;exact⟨_,rfl⟩
 | rx a r=>
  obtain rfl:v=_:=htv;have hE:jC q i=.pan (Uc q i) .nilIface:=by
   unfold jC E4;rw[ht];rfl
  rw[hE];refine kT fA (bp b6 hta hc) ?_ ?_
  ·exact⟨⟨oM,oM⟩,hb'⟩
  refine Wp.seq ?_;refine vR fA b6 ?_;refine wC b6 (λhc=>?_) (λhc=>?_)
  rotate_left
  ·cases hc
  refine Wp.dJ (xU q i) aN (ev (aa b6 hta)) ?_ ?_
  ·exact⟨⟨hq,hi⟩,dE,λ_ h=>h.elim⟩
  refine qq ?_;exact⟨_,rfl⟩
 | canon c=>
  obtain⟨p,rfl,hc0⟩:=htv;have hE:jC q i=.ret (p) (Av q (i+1)):=by
   unfold jC E4;rw[ht];simp only[hg];rfl
  rw[hE];refine kT fA (bp b6 hta hc) ?_ ?_
  ·exact⟨⟨oM,oM⟩,hb'⟩
  refine Wp.seq ?_;refine vR fA b6 ?_;refine wC b6 (λhc=>?_) (λhc=>?_)
  ·cases hc
  refine wK ?_;refine vR fA (aa b6 wo) ?_;refine vR fA b6 ?_;refine wZ b6 ?_;exact⟨_,_,rfl,λE=>rfl,_,_,rfl,(ev (fg b6 @aq @Av.eq_1 hta)),dE⟩
 | lens c=>
  obtain⟨p,rfl,hc0⟩:=htv;have hE:jC q i=.pan (Uc q i) .nilIface:=by
   unfold jC E4;rw[ht];rfl
  rw[hE];refine kT fA (bp b6 hta hc) ?_ ?_
  ·exact⟨⟨oM,oM⟩,hb'⟩
  refine Wp.seq ?_;refine vR fA b6 ?_;refine wC b6 (λhc=>?_) (λhc=>?_)
  rotate_left
  ·cases hc
  refine Wp.dJ (xU q i) aN (ev (aa b6 hta)) ?_ ?_
  ·exact⟨⟨hq,hi⟩,dE,λ_ h=>h.elim⟩
  refine qq ?_;exact⟨_,rfl⟩
def Bo(q:Ag)(i:Nat):bP Tryz.prog 161 where
 T:=293
 pre:=λW bs fs as_=>(fs=Av q i/\as_=[])/\q.ok W (Out bs)/\i<q.us.length
 out:=λ_ _ _=>jC q i
 enters:=Tryz.call161
 ok:=by
  intro W w bs u fp us fs as_ hk ho hlt hmine hu hp;obtain⟨⟨rfl,rfl⟩,h1,h2⟩:=hp
  match us,hu with
  |[],_=>exact Kb q i u fp w (h1.gh hk hmine) h2 ho hlt
def nQ(q:Ag)(i:Nat):BOut:=agO (afN (λ_=>amH (q.us.getD i undef)) (Ce q.ts (cF q.l) i)) q i
theorem N7(q:Ag)(i:Nat)(u:Value)(fp:List Nat)(w:World)(hq:q.ok w (Out fp))(hi:i<q.us.length)(ho:aY w u fp 293 (Av q i))(hlt:∀ b∈fp,b<w.heap.size) :
  Calls Tryz.prog 162 (#[u]++#[]) w λx w' => dN w u fp 293 x w' (nQ q i):=by
 obtain⟨v,t,hv,ht,htv⟩:=fe.get hq.2.1.2 hi;obtain⟨b,o,hta,hb,hc⟩:=jY.cell hq.2.1.1 hv;have hb' : b∉fp:=hb;have hS:=hq.2.2.2 t (List.mem_of_getElem? ht);have hi3:i<3:=by have:=hq.2.2.1.2.1;omega
 have wo:IntKind.i64.wrap ((i:Int)+1)=((i+1:Nat):Int):=wW;have hD:rE w v=t:=bW htv;have hg:q.us.getD i undef=v:=by rw[List.getD_eq_getElem?_getD,hv];rfl
 have hle:q.us.length<=q.tc:=hq.2.2.1.2.2.1;refine aO (nt:=31) #[] [.tmp 2] (by show 5<=7;omega) ho hlt Tryz.func162 rfl rfl rfl ?_;refine vR fA b6 ?_;cases t with
 | text a s=>
  obtain rfl:v=_:=htv;have hE:nQ q i=.pan (Uc q i) .nilIface:=by
   unfold nQ Ce;rw[ht];rfl
  rw[hE];refine kT fA (bp b6 hta hc) ?_ ?_
  ·exact⟨⟨oM,oM⟩,hb'⟩
  refine Wp.seq ?_;refine vR fA b6 ?_;refine wC b6 (λhc=>?_) (λhc=>?_)
  rotate_left
  ·cases hc
  refine Wp.dJ (xU q i) aN (ev (aa b6 hta)) ?_ ?_
  ·exact⟨⟨hq,hi⟩,dE,λ_ h=>h.elim⟩
  refine qq ?_;exact⟨_,rfl⟩
 | rx a r=>
  obtain rfl:v=_:=htv;have hE:nQ q i=.pan (Uc q i) .nilIface:=by
   unfold nQ Ce;rw[ht];rfl
  rw[hE];refine kT fA (bp b6 hta hc) ?_ ?_
  ·exact⟨⟨oM,oM⟩,hb'⟩
  refine Wp.seq ?_;refine vR fA b6 ?_;refine wC b6 (λhc=>?_) (λhc=>?_)
  rotate_left
  ·cases hc
  refine Wp.dJ (xU q i) aN (ev (aa b6 hta)) ?_ ?_
  ·exact⟨⟨hq,hi⟩,dE,λ_ h=>h.elim⟩
  refine qq ?_;exact⟨_,rfl⟩
 | canon c=>
  obtain⟨p,rfl,hc0⟩:=htv;have hE:nQ q i=.pan (Uc q i) .nilIface:=by
   unfold nQ Ce;rw[ht];rfl
  rw[hE];refine kT fA (bp b6 hta hc) ?_ ?_
  ·exact⟨⟨oM,oM⟩,hb'⟩
  refine Wp.seq ?_;refine vR fA b6 ?_;refine wC b6 (λhc=>?_) (λhc=>?_)
  rotate_left
  ·cases hc
  refine Wp.dJ (xU q i) aN (ev (aa b6 hta)) ?_ ?_
  ·exact⟨⟨hq,hi⟩,dE,λ_ h=>h.elim⟩
  refine qq ?_;exact⟨_,rfl⟩
 | lens c=>
  obtain⟨p,rfl,hc0⟩:=htv;have hE:nQ q i=.ret (p) (Av q (i+1)):=by
   unfold nQ Ce;rw[ht];simp only[hg];rfl
  rw[hE];refine kT fA (bp b6 hta hc) ?_ ?_
  ·exact⟨⟨oM,oM⟩,hb'⟩
  refine Wp.seq ?_;refine vR fA b6 ?_;refine wC b6 (λhc=>?_) (λhc=>?_)
  ·cases hc
  refine wK ?_;refine vR fA (aa b6 wo) ?_;refine vR fA b6 ?_;refine wZ b6 ?_;exact⟨_,_,rfl,λE=>rfl,_,_,rfl,(ev (fg b6 @aq @Av.eq_1 hta)),dE⟩
def G8(q:Ag)(i:Nat):bP Tryz.prog 162 where
 T:=293
 pre:=λW bs fs as_=>(fs=Av q i/\as_=[])/\q.ok W (Out bs)/\i<q.us.length
 out:=λ_ _ _=>nQ q i
 enters:=Tryz.call162
 ok:=by
  intro W w bs u fp us fs as_ hk ho hlt hmine hu hp;obtain⟨⟨rfl,rfl⟩,h1,h2⟩:=hp
  match us,hu with
  |[],_=>exact N7 q i u fp w (h1.gh hk hmine) h2 ho hlt
end
end Go.Proofs.YtnemkecffmdlnaaGreatDoor
namespace Go.LE
section
open Go.RowKit
def sg(w:World)(u:Value)(us:List Value)(fp:List Nat)(T:TypeId)(fs:List AV):Prop:=
 ∃ b,u=.pointer (some ⟨b,0,none⟩)/\w.heap[b]?=some (.cells us.toArray T (0,0))/\fm w us fs/\fp=b::Az us fs/\fp.Nodup
theorem Gf{w:World}{u:Value}{us:List Value}{fp:List Nat}{T:TypeId}{a:AV}(h:sg w u us fp T [a]):∃ y,us=[y]:=by
 obtain⟨b,_,_,h3,_⟩:=h
 match us,h3 with
 |[y],_=>exact⟨y,rfl⟩
def BU(w:World)(S:Nat->Prop)(u:Value)(us:List Value)(fp:List Nat)(T:TypeId)(fs:List AV)(e:Ending)(w' : World):FOut->Prop
 |.val v=>e=.returned v/\sg w' u us fp T fs/\an w fp w'
 |.fact sh Φ=>∃ cs,e=.returned (sh.val cs)/\sg w' u us fp T fs/\Φ.Φ cs w' (λb=>(b<w.heap.size->S b\/b∈fp)/\b∉fp)/\an w fp w'
 |.pan c _=>e=.panicked c/\an w fp w'
structure Fy (P:Program)(f:FuncId) where
 T:TypeId
 kinds:List Kd
 pre:List AV->List AV->World->(Nat->Prop)->Prop
 premono:∀ fs as_ W S W' S',aX W S W' S' -> pre fs as_ W S->pre fs as_ W' S'
 out:List AV->List AV->FOut
 enters:∀ args w,(callFunc f args).run P w=.ok (.enter f args) w
 ok:∀ (w:World) (S:Nat->Prop) (u:Value) (xs:List Value) (fp:List Nat) (us:List Value) (fs as_:List AV),sg w u xs fp T fs->(∀ b∈fp,b<w.heap.size)->(∀ b∈fp,¬ S b)->BR w S kinds us as_->pre fs as_ w S ->
  Calls P f (u::us).toArray w λe w' => BU w S u xs fp T fs e w' (out fs as_)
def rS(G:Nat->Prop)(κ k:Nat)(W:World)(bs:List Nat)(q:Prop)(rs rs' cs:List Nat):FOut->R
 |.val v=>⟨q/\(k::rs).Nodup/\(∀ j∈rs',j∉k::rs),.v v,[],none,[],k::(rs++rs')⟩
 |.fact sh Φ=>⟨q/\(k::rs).Nodup/\(∀ j∈rs',j∉k::rs)/\Up G W bs,sh.tm (8*κ+7),dX cs++[(8*κ+7,some (.obj [] (gz G W bs Φ)))],none,[],k::(rs++rs')⟩
 |.pan c v=>⟨q/\(k::rs).Nodup/\(∀ j∈rs',j∉k::rs),.v v,[],some c,k::rs,k::(rs++rs')⟩
def BW(G:Nat->Prop)(κ k:Nat)(T T' : TypeId)(W:World)(bs:List Nat)(pre:List AV->List AV->World->(Nat->Prop)->Prop)(out:List AV->List AV->FOut)(g:GVL):Option (List AV×List Nat)->R
 |some (fs,rs)=>rS G κ k W bs (T' = T/\g.p/\pre fs g.as_ W (bJ G bs)) rs g.rs g.cs (out fs g.as_)
 |none=>.bad
def BX(G:Nat->Prop)(h:Hp)(κ k:Nat)(T:TypeId)(W:World)(bs:List Nat)(pre:List AV->List AV->World->(Nat->Prop)->Prop)(out:List AV->List AV->FOut)(g:GVL):Option aZ->R
 |some (.cells T' vs)=>BW G κ k T T' W bs pre out g (aB h vs)
 |_=>.bad
def F4(G:Nat->Prop)(h:Hp)(κ:Nat)(T:TypeId)(W:World)(bs:List Nat)(kinds:List Kd)(pre:List AV->List AV->World->(Nat->Prop)->Prop)(out:List AV->List AV->FOut):List SV->R
 |.own k 0::rest=>BX G h κ k T W bs pre out (nz G W bs h kinds rest) (h k)
 |_=>.bad
section
variable {P:Program}{W:World}{bs:List Nat}{κ:Nat}{E:Nat->Value}{F:Nat->List Nat}{h:Nat->Option aZ}{w:World}{K:Nat->Prop}{G:Nat->Prop}
theorem RY{w' : World}(hs:aj W bs E F h w){x:SV}{a:AV}{r:List Nat}(hv:bT h x=some (a,r))(ha:ur w' (den E x) a):∀ k∈r,∀ e,h k=some e->bA E (E k) (F k) w' e:=by
 cases x with
 |v x=>simp[bT]at hv;obtain⟨rfl,rfl⟩:=hv;intro k hk;cases hk
 |agg l=>
  simp only[bT,Option.map_eq_some_iff,Prod.mk.injEq]at hv;obtain⟨vs,h1,rfl,rfl⟩:=hv;intro k hk;cases hk
 | hd k=>
  simp only[bT]at hv;cases hk:h k with
  |none=>rw[hk]at hv;simp[fT]at hv
  | some e=>
   cases e with
   |row T s n us=>
    rw[hk]at hv;simp only[fT,Option.map_eq_some_iff,Prod.mk.injEq]at hv;obtain⟨vs,h1,rfl,rfl⟩:=hv;have:=hs.ent k _ hk;simp only[ur,den,fQ (cd this),<- mb (E:=E) h1]at ha;intro k' hk' e he;simp only[List.mem_singleton]at hk';subst hk';rw[hk]at he;cases he;exact⟨ha,this.2⟩
   |mp ks us=>
    rw[hk]at hv;simp only[fT,Option.map_eq_some_iff,Prod.mk.injEq]at hv;obtain⟨vs,h1,rfl,rfl⟩:=hv;have:=hs.ent k _ hk;simp only[ur,den,fQ (cd this),<- mb (E:=E) h1]at ha;intro k' hk' e he;simp only[List.mem_singleton]at hk';subst hk';rw[hk]at he;cases he;exact l8.2 ⟨ha,(l8.1 this).2⟩
   |cells T vs=>rw[hk]at hv;simp[fT]at hv
   |obj d R=>rw[hk]at hv;simp[fT]at hv
 |own k o=>simp[bT]at hv
 |tup l=>simp[bT]at hv
 |nO t x=>simp[bT]at hv
 |part k i=>simp[bT]at hv
 |fn f a c=>simp[bT]at hv
theorem Ev{w' : World}(hs:aj W bs E F h w):∀ {l:List SV} {as_:List AV} {r:List Nat},aB h l=some (as_,r)->fm w' (ai E l) as_->∀ k∈r,∀ e,h k=some e->bA E (E k) (F k) w' e
 |[],as_,r,hv,_=>by
  simp[aB]at hv;obtain⟨rfl,rfl⟩:=hv;intro k hk;cases hk
 | x::l,as_,r,hv,ha=>by
  simp only[aB]at hv;cases h1:bT h x with
  |none=>rw[h1]at hv;simp[j9]at hv
  | some p=>
   cases h2:aB h l with
   |none=>rw[h1,h2]at hv;simp[j9]at hv
   |some q=>
    obtain⟨a,ra⟩:=p;obtain⟨as',rs⟩:=q;rw[h1,h2]at hv;simp only[j9,Option.some.injEq,Prod.mk.injEq]at hv;obtain⟨rfl,rfl⟩:=hv;simp only[ai,fm]at ha;intro k hk;rcases List.mem_append.1 hk with hk|hk
    ·exact RY hs h1 ha.1 k hk
    ·exact Ev hs h2 ha.2 k hk
theorem Bu(hs:aj W bs E F h w){k:Nat}{T:TypeId}{vs:List SV}{fs:List AV}{rs:List Nat}(hk:h k=some (.cells T vs))(hv:aB h vs=some (fs,rs))(hn:(k::rs).Nodup) :
  sg w (E k) (ai E vs) ((k::rs).flatMap F) T fs:=by
 obtain⟨b,h1,h2,h3⟩:=hs.ent k _ hk;obtain⟨g1,_⟩:=cy hs hv;refine⟨b,h1,h3,eE hs hv,by rw[List.flatMap_cons,h2,g1];rfl,pZ hs hn λj hj=>?_⟩;rcases List.mem_cons.1 hj with rfl|hj
 ·exact⟨_,hk,λd R e=>by cases e⟩
 ·exact iY hv j hj
theorem Se{w' : World}(hs:aj W bs E F h w){k:Nat}{T:TypeId}{vs:List SV}{fs:List AV}{rs:List Nat}(hk:h k=some (.cells T vs))(hv:aB h vs=some (fs,rs))(ho:sg w' (E k) (ai E vs) ((k::rs).flatMap F) T fs) :
  ∀ j∈k::rs,∀ e,h j=some e->bA E (E j) (F j) w' e:=by
 obtain⟨b,h1,h2,h3⟩:=hs.ent k _ hk;obtain⟨b',g1,g2,g3,g4,g5⟩:=ho;intro j hj e he;rcases List.mem_cons.1 hj with rfl|hj
 ·rw[hk]at he;cases he;rw[h1]at g1;cases g1;exact⟨b,h1,h2,g2⟩
 ·exact Ev hs hv g3 j hj e he
end
def Fy.spec{P:Program}{f:FuncId}(p:Fy P f)(G:Nat->Prop):Spec P f where
 ev:=λW bs κ h args=>F4 G h κ p.T W bs p.kinds p.pre p.out args
 good:=λW bs κ E F h w K args hs hK hk hx hside=>by
  rw[p.enters];revert hside;unfold F4;split
  ·rename_i k rest;generalize hg:nz G W bs h p.kinds rest=g;cases hkk:h k with
   |none=>exact λhf=>hf.elim
   | some e=>
    cases e with
    |row T s n vs=>exact λhf=>hf.elim
    |mp ks vs=>exact λhf=>hf.elim
    |obj d R=>exact λhf=>hf.elim
    | cells T' vs=>
     simp only[BX];cases hv:aB h vs with
     |none=>exact λhf=>hf.elim
     | some q=>
      obtain⟨fs,rs⟩:=q;simp only[BW];have hent:=hs.ent k _ hkk;obtain⟨b,hu,_,_⟩:=hent;have hden:den E (.own k 0)=E k:=by simp[den,hu,base,dt]
      have hobj:g.p->∀ j∈g.cs,∃ Φ,h j=some (.obj [] (gz G W bs Φ)):=λhp=>by rw[<- hg]at hp ⊢;exact p4 hp
      have hown:∀ j∈k::rs,∃ e,h j=some e/\∀ d R,e≠.obj d R:=λj hj=>by
       rcases List.mem_cons.1 hj with rfl|hj
       ·exact⟨_,hkk,λ_ _ e=>by cases e⟩
       ·exact iY hv j hj
      have gh:∀ c∈(k::rs).flatMap F,(∃ j∈k::rs,c∈F j)/\c<w.heap.size/\(W.heap.size<=c\/c∈bs):=λc hc=>by
       obtain⟨j,hj,hcj⟩:=List.mem_flatMap.1 hc;obtain⟨e,he,_⟩:=hown j hj;exact⟨⟨j,hj,hcj⟩,hs.lt j e he c hcj,hs.mine j e he c hcj⟩
      have hS0:∀ b,b<W.heap.size->bJ G bs b->b∉(k::rs).flatMap F:=λb h1 h2 hb=>(gh b hb).2.2.elim (λg=>absurd g (Nat.not_le.2 h1)) h2.2
      have hS:∀ b,b<W.heap.size->bJ G bs b->(b<W.heap.size/\bJ G bs b)\/∃ j∈g.cs,b∈F j:=λb h1 h2=>.inl ⟨h1,h2⟩
      have hcs:g.p->∀ j∈g.cs,∀ i∈k::rs,i≠j/\∀ b∈F i,b∉F j:=λhp j hj i hi=>by
       obtain⟨Φ,hj'⟩:=hobj hp j hj;obtain⟨e,he,hne⟩:=hown i hi;have hij:i≠j:=λhij=>by
        rw[hij,hj']at he;exact hne _ _ (Option.some.inj he).symm
       exact⟨hij,hs.apart i j e _ hij he hj'⟩
      have hSf:g.p->∀ b∈(k::rs).flatMap F,¬ ((b<W.heap.size/\bJ G bs b)\/∃ j∈g.cs,b∈F j):=λhp b hb hS=>by
       rcases hS with ⟨h1,h2⟩|⟨j,hj,hbj⟩
       ·exact hS0 b h1 h2 hb
       ·obtain⟨i,hi,hbi⟩:=(gh b hb).1;exact (hcs hp j hj i hi).2 b hbi hbj
      have call:∀ hn:(k::rs).Nodup,T' = p.T->g.p->p.pre fs g.as_ W (bJ G bs)->Calls P f (ai E (.own k 0::rest)).toArray w λe w' => BU w (λb=>(b<W.heap.size/\bJ G bs b)\/∃ j∈g.cs,b∈F j) (E k) (ai E vs) ((k::rs).flatMap F) p.T fs e w' (p.out fs g.as_):=λhn hT hp hpre=>by
       subst hT;have ho:=Bu hs hkk hv hn;have hgs:=A0 hs hS (kds:=p.kinds) (l:=rest) (by rw[hg];exact hp) (by rw[hg];exact λj hj b hb=>.inr ⟨j,hj,hb⟩);rw[hg]at hgs;have:=p.ok w _ (E k) _ _ (ai E rest) fs g.as_ ho (λc hc=>(gh c hc).2.1) (hSf hp) hgs (p.premono _ _ _ _ _ _ (O9 hs.keeps hS) hpre)
       simpa only[ai,hden] using this
      have hNe:∀ j e,(if j∈k::rs then h j else none)=some e->j∈k::rs/\h j=some e:=λj e he=>by
       split at he
       ·rename_i hj;exact⟨hj,he⟩
       ·cases he
      cases hout:p.out fs g.as_ with
      | val v=>
       simp only[rS];rintro⟨⟨hT,hp,hpre⟩,hn,hd⟩;have hc:=call hn hT hp hpre;rw[hout]at hc;subst hT;refine hc.mono λe w' he=>?_
       obtain⟨rfl,ho,hkeep⟩:=he;have hb:=Se hs hkk hv ho;refine⟨rfl,E,F,λ_ _=>rfl,rfl,?_⟩;refine hs.mD hK (k::rs) (λj=>if j∈k::rs then h j else none) (λj hj=>?_) (λ_ _=>rfl) (λj e he=>?_) (λi j e e' hij hi hj=>?_) (λ_ _ _ _=>rfl) (λj=>?_) hkeep
       ·obtain⟨e,he,_⟩:=hown j hj;exact⟨e,he⟩
       ·obtain⟨hj,he⟩:=hNe j e he;exact⟨hb j hj e he,λc hc=>.inl ⟨j,hj,hc⟩,λc hc=>Nat.lt_of_lt_of_le (hs.lt j e he c hc) hkeep.size⟩
       ·exact hs.apart i j e e' hij (hNe i e hi).2 (hNe j e' hj).2
       ·simp only[ba];by_cases hj:j∈k::rs
        ·rw[if_pos hj,if_pos hj];obtain⟨e,he,_⟩:=hown j hj;rw[he]
        ·rw[if_neg hj,if_neg hj]
      | fact sh Φ=>
       simp only[rS];rintro⟨⟨hT,hp,hpre⟩,hn,hd,hup⟩;have hc:=call hn hT hp hpre;rw[hout]at hc;subst hT;refine hc.mono λe w' he=>?_
       obtain⟨cs,rfl,ho,hΦ,hkeep⟩:=he;have hb:=Se hs hkk hv ho;have hK8:¬ K (8*κ+7):=hk _ oM;have hfn:∀ b,b∈List.range' w.heap.size (w'.heap.size-w.heap.size)++g.cs.flatMap F ↔ (w.heap.size<=b/\b<w'.heap.size)\/∃ j∈g.cs,b∈F j:=λb=>by
        simp only[List.mem_append,po hkeep.size b,List.mem_flatMap]
       have hR:=yp (G:=G) (fp:=List.range' w.heap.size (w'.heap.size-w.heap.size)++g.cs.flatMap F) (S:=λb=>(b<W.heap.size/\bJ G bs b)\/∃ j∈g.cs,b∈F j) hs.keeps hkeep hΦ
        (λb hb=>hb.elim .inl λh=>.inr ((hfn b).2 (.inr h))) hS0
        (λb hb hn=>by
         by_cases hbw:b<w.heap.size
         ·rcases hn.1 hbw with h3|h3
          ·exact .inl ⟨hbw,h3⟩
          ·exact absurd h3 hn.2
         ·exact .inr ((hfn b).2 (.inl ⟨oM,hb⟩)))
        (λb hb=>by
         rcases (hfn b).1 hb with h3|⟨j,hj,hbj⟩
         ·exact hup b (.inl (Nat.le_trans hs.keeps.size h3.1))
         ·obtain⟨Φ',hk'⟩:=hobj hp j hj
          exact hup b (hs.mine j _ hk' b hbj))
       have h8:∀ j x,h j=some x->j≠8*κ+7:=λj x hj e=>hK8 (e ▸ (hK j x hj).1)
       have h8k:8*κ+7∉k::rs:=λhm=>by
        obtain⟨e,he,_⟩:=hown _ hm;exact h8 _ _ he rfl
       refine⟨rfl,bu E (8*κ+7) (dI cs),bu F (8*κ+7) (List.range' w.heap.size (w'.heap.size-w.heap.size)++g.cs.flatMap F),λj hj' => al _ _ λe=>hj' (by subst e;omega),?_,?_⟩
       ·rw[sh.g,ah];rfl
       have hN:∀ j e,(bu (λj=>if j∈k::rs then h j else none) (8*κ+7) (some (.obj [] (gz G W bs Φ)))) j=some e->(j=8*κ+7/\e=.obj [] (gz G W bs Φ))\/(j≠8*κ+7/\j∈k::rs/\h j=some e):=λj e he=>by
        by_cases hj:j=8*κ+7
        ·subst hj;rw[ah]at he;cases he;exact .inl ⟨rfl,rfl⟩
        ·rw[al _ _ hj]at he;exact .inr ⟨hj,hNe j e he⟩
       have hE' : ∀ x:aZ,∀ j,h j=some x->∀ {u:Value} {fp:List Nat},bA E u fp w' x->bA (bu E (8*κ+7) (dI cs)) u fp w' x:=λx j hj u fp hx=>by
        exact gV (λi hi=>(al (j:=i) E (dI cs) λe=>hK8 (by rw[<- e];exact (hK j x hj).2 i hi)).symm) hx
       refine hs.mD hK (k::(rs++g.cs)) (bu (λj=>if j∈k::rs then h j else none) (8*κ+7) (some (.obj [] (gz G W bs Φ)))) (λj hj=>?_) (λj hj=>al _ _ λe=>hK8 (e ▸ hj)) (λj e he=>?_) (λi j e e' hij hi hj c hc=>?_) (λj x hx hj=>al _ _ (h8 j x hx)) (λj=>?_) (hkeep.mono λc hc=>?_)
       ·rcases List.mem_cons.1 hj with rfl|hj
        ·exact⟨_,hkk⟩
        ·rcases List.mem_append.1 hj with hj|hj
         ·obtain⟨e,he,_⟩:=hown j (List.mem_cons_of_mem _ hj);exact⟨e,he⟩
         ·obtain⟨Φ',h'⟩:=hobj hp j hj;exact⟨_,h'⟩
       ·rcases hN j e he with ⟨rfl,rfl⟩|⟨hj8,hj,he⟩
        ·rw[ah,ah];refine⟨⟨⟨hR w' λ_ _=>rfl,rfl⟩,hR⟩,λb hb=>?_,λb hb=>?_⟩
         ·rcases (hfn b).1 hb with h3|⟨j,hj,hbj⟩
          ·exact .inr h3.1
          ·exact .inl ⟨j,List.mem_cons_of_mem _ (List.mem_append_right _ hj),hbj⟩
         ·rcases (hfn b).1 hb with h3|⟨j,hj,hbj⟩
          ·exact h3.2
          ·obtain⟨Φ',hk'⟩:=hobj hp j hj;exact Nat.lt_of_lt_of_le (hs.lt j _ hk' b hbj) hkeep.size
        ·rw[al _ _ hj8,al _ _ hj8];refine⟨hE' e j he (hb j hj e he),λc hc=>.inl ⟨j,?_,hc⟩,λc hc=>Nat.lt_of_lt_of_le (hs.lt j e he c hc) hkeep.size⟩;rcases List.mem_cons.1 hj with hj|hj
         ·exact List.mem_cons.2 (.inl hj)
         ·exact List.mem_cons.2 (.inr (List.mem_append_left _ hj))
       ·have new:∀ i∈k::rs,∀ c∈F i,c∉List.range' w.heap.size (w'.heap.size-w.heap.size)++g.cs.flatMap F:=λi hi c hc hm=>by
         obtain⟨e,he,_⟩:=hown i hi;rcases (hfn c).1 hm with h3|⟨j,hj,hbj⟩
         ·exact absurd (hs.lt i e he c hc) oM
         ·exact (hcs hp j hj i hi).2 c hc hbj
        rcases hN i e hi with ⟨rfl,rfl⟩|⟨hi8,hi,he⟩
        ·rcases hN j e' hj with ⟨rfl,rfl⟩|⟨hj8,hj,he'⟩
         ·exact absurd rfl hij
         ·rw[ah]at hc;rw[al _ _ hj8];exact λhc' => new j hj c hc' hc
        ·rw[al _ _ hi8]at hc;rcases hN j e' hj with ⟨rfl,rfl⟩|⟨hj8,hj,he'⟩
         ·rw[ah];exact new i hi c hc
         ·rw[al _ _ hj8];exact hs.apart i j e e' hij he he' c hc
       ·rw [cj];simp only[ba];by_cases hj:j=8*κ+7
        ·subst hj;rw[ah,ah]
        ·rw[al _ _ hj,al _ _ hj,kI];by_cases hjk:j∈k::rs
         ·rw[if_pos hjk];obtain⟨e,he,_⟩:=hown j hjk;rw[he];have:j∉g.cs:=λhm=>(hcs hp j hm j hjk).1 rfl
          rw[if_neg this]
         ·rw[if_neg hjk];by_cases hjc:j∈g.cs
          ·rw[if_pos hjc,if_pos (List.mem_cons_of_mem _ (List.mem_append_right _ hjc))]
          ·rw[if_neg hjc,if_neg];intro hm;rcases List.mem_cons.1 hm with hm|hm
           ·exact hjk (List.mem_cons.2 (.inl hm))
           ·rcases List.mem_append.1 hm with hm|hm
            ·exact hjk (List.mem_cons_of_mem _ hm)
            ·exact hjc hm
       ·obtain⟨i,hi,hci⟩:=List.mem_flatMap.1 hc;refine List.mem_flatMap.2 ⟨i,?_,hci⟩;rcases List.mem_cons.1 hi with hi|hi
        ·exact List.mem_cons.2 (.inl hi)
        ·exact List.mem_cons.2 (.inr (List.mem_append_left _ hi))
      |pan c _=>
       simp only[rS];rintro⟨⟨hT,hp,hpre⟩,hn,hd⟩;have hc:=call hn hT hp hpre;rw[hout]at hc;refine hc.mono λe w' he=>?_
       obtain⟨rfl,hkeep⟩:=he;refine⟨rfl,F,?_⟩;refine hs.mD hK (k::rs) (λ_=>none) (λj hj=>?_) (λ_ _=>rfl) (λj e he=>by cases he) (λi j e e' _ he=>by cases he) (λ_ _ _ _=>rfl) (λj=>?_) hkeep
       ·obtain⟨e,he,_⟩:=hown j hj;exact⟨e,he⟩
       ·simp only[dropKeys]
  ·exact λhf=>hf.elim
 keys:=λW bs κ h K args hK hx hside=>by
  revert hside;unfold F4;split
  ·rename_i k rest;generalize hg:nz G W bs h p.kinds rest=g;cases hkk:h k with
   |none=>exact λhf=>hf.elim
   | some e=>
    cases e with
    |row T s n vs=>exact λhf=>hf.elim
    |mp ks vs=>exact λhf=>hf.elim
    |obj d R=>exact λhf=>hf.elim
    | cells T' vs=>
     simp only[BX];cases hv:aB h vs with
     |none=>exact λhf=>hf.elim
     | some q=>
      obtain⟨fs,rs⟩:=q;simp only[BW];have hobj:g.p->∀ j∈g.cs,∃ Φ,h j=some (.obj [] (gz G W bs Φ)):=λhp=>by rw[<- hg]at hp ⊢;exact p4 hp
      cases hout:p.out fs g.as_ with
      |val v=>
       simp only[rS];exact λ_=>⟨λj hj=>(by cases hj),λq hq=>by cases hq⟩
      | fact sh Φ=>
       simp only[rS];rintro⟨⟨_,hp,_⟩,hn,hd,hup⟩;refine⟨λj hj=>.inr (by rw[sh.k _ j hj];omega),λq hq=>?_⟩;simp only[List.mem_append,List.mem_singleton]at hq;rcases hq with hq|rfl
       ·simp only[dX,List.mem_map]at hq;obtain⟨j,hj,rfl⟩:=hq;obtain⟨Φ',h'⟩:=hobj hp j hj;exact⟨.inl (hK j _ h').1,λe he=>by cases he⟩
       ·refine⟨.inr (by simp only;omega),λe he k hk=>?_⟩;simp only[Option.some.injEq]at he;subst he;cases hk
      |pan c _=>
       simp only[rS];rintro _;exact⟨λj hj=>(by cases hj),λq hq=>by cases hq⟩
  ·exact λhf=>hf.elim
 loc:=λW bs κ h h' args hside hr=>by
  revert hside hr;unfold F4;split
  ·rename_i k rest;generalize hg:nz G W bs h p.kinds rest=g;cases hkk:h k with
   |none=>exact λhf=>hf.elim
   | some e=>
    cases e with
    |row T s n vs=>exact λhf=>hf.elim
    |mp ks vs=>exact λhf=>hf.elim
    |obj d R=>exact λhf=>hf.elim
    | cells T' vs=>
     simp only[BX];cases hv:aB h vs with
     |none=>exact λhf=>hf.elim
     | some q=>
      obtain⟨fs,rs⟩:=q;simp only[BW];intro hside hr;have hp:g.p:=by
       revert hside;cases p.out fs g.as_<;>exact λh=>h.1.2.1
      have hr' : ∀ j∈k::(rs++g.rs),h' j=h j:=by
       revert hr;cases p.out fs g.as_<;>exact λh=>h
      have e1:h' k=some (.cells T' vs):=by rw[hr' k sI,hkk]
      have e2:nz G W bs h' p.kinds rest=g:=by
       rw[<- hg];exact AZ (by rw[hg];exact hp) (by rw[hg];exact λj hj=>hr' j (by simp[hj]))
      have e3:aB h' vs=some (fs,rs):=cU hv λj hj=>hr' j (by simp[hj])
      rw[e1,e2];simp only[BX,e3,BW]
  ·exact λhf=>hf.elim
theorem wL{P:Program}{f:FuncId}(p:Fy P f)(G:Nat->Prop)(W:World)(bs:List Nat)(κ:Nat)(h:Hp)(l:List SV):(p.spec G).ev W bs κ h l=F4 G h κ p.T W bs p.kinds p.pre p.out l:=rfl
theorem WU{w:World}{nt m:Nat}{T:TypeId}{fs:List AV}{u x:Value}{fp:List Nat}(us:Array Value)(hlen:fs.length<=7)(ho:sg w u [x] fp T fs)(hlt:∀ b∈fp,b<w.heap.size)(hnt:us.size+1+m=nt) :
  Sat w fp nt ⟨[],[(0,u),(1,x)]⟩ (σB T fs us.toList) { tmps:=(#[u]++us)++Array.replicate m undef,defers:=[] } w:=by
 obtain⟨b,rfl,hb,hvs,rfl,hnd⟩:=ho;have e1:gN 1 [x] (λ_=>.pointer (some ⟨b,0,none⟩)) 1=x:=by simp[gN,bu]
 have hl:=ki hvs;have hb' : b∉Az [x] fs:=(List.nodup_cons.1 hnd).1;have hnd' : (Az [x] fs).Nodup:=(List.nodup_cons.1 hnd).2;have at' : ∀ j e,dS ((0,.cells T (aP 1 fs))::bh 1 fs) j=some e->(j=0/\e=.cells T (aP 1 fs))\/(j≠0/\(j,e)∈bh 1 fs):=λj e he=>by
  simp only[dS]at he;by_cases hj:j=0
  ·subst hj;rw[ah]at he;cases he;exact .inl ⟨rfl,rfl⟩
  ·rw[al _ _ hj]at he;exact .inr ⟨hj,K5 he⟩
 have e0:gN 1 [x] (λ_=>.pointer (some ⟨b,0,none⟩)) 0=.pointer (some ⟨b,0,none⟩):=ni (.inl oM)
 refine⟨⟨gN 1 [x] (λ_=>.pointer (some ⟨b,0,none⟩)),bu (iL 1 [x] fs (λ_=>[])) 0 [b],λt=>?_,⟨λj e he=>?_,λj e he c hc=>?_,λj e he c hc=>?_,λi j e e' hij hi hj c hc=>?_,an.refl w _⟩,λp hp=>?_⟩,?_,rfl,λp hp=>?_,λt k hk=>?_,λj e he=>?_⟩
 ·show fits _ (eA ((0,.is (.own 0 0))::vM us.toList 1) t) _;simp only[eA,bu];split
  ·rename_i ht;subst ht;simp only[fits,den,e0,base,dt];rw[Array.getD_eq_getD_getElem?,Array.getElem?_append_left (by simp;omega),Array.getElem?_append_left sI];rfl
  ·refine tg _ us.toList 1 t (λt=>((#[Value.pointer (some ⟨b,0,none⟩)]++us)++Array.replicate m undef).getD t undef) λj hj=>?_
   have hj' : j<us.size:=by simpa using hj
   rw[Array.getD_eq_getD_getElem?,Array.getElem?_append_left (by simp;omega),Array.getElem?_append_right sI];simp[Array.getElem?_eq_getElem hj']
 ·rcases at' j e he with ⟨rfl,rfl⟩|⟨hj,hm⟩
  ·exact⟨b,e0,by rw[ah],by rw[gw hvs];exact hb⟩
  ·rw[al _ _ hj];exact (jl hvs hm _).1
 ·rcases at' j e he with ⟨rfl,rfl⟩|⟨hj,hm⟩
  ·rw[ah]at hc;exact hlt c (by simp at hc;simp[hc])
  ·rw[al _ _ hj]at hc;exact hlt c (List.mem_cons_of_mem _ (cK hl hm c hc))
 ·right;rcases at' j e he with ⟨rfl,rfl⟩|⟨hj,hm⟩
  ·rw[ah]at hc;simp at hc;simp[hc]
  ·rw[al _ _ hj]at hc;exact List.mem_cons_of_mem _ (cK hl hm c hc)
 ·rcases at' i e hi with ⟨rfl,rfl⟩|⟨hi0,hmi⟩
  ·rcases at' j e' hj with ⟨rfl,rfl⟩|⟨hj0,hmj⟩
   ·exact absurd rfl hij
   ·rw[ah]at hc;rw[al _ _ hj0];simp only[List.mem_singleton]at hc;subst hc;exact λhc' => hb' (cK hl hmj c hc')
  ·rw[al _ _ hi0]at hc;rcases at' j e' hj with ⟨rfl,rfl⟩|⟨hj0,hmj⟩
   ·rw[ah];intro hc';simp only[List.mem_singleton]at hc';subst hc';exact hb' (cK hl hmi c hc)
   ·rw[al _ _ hj0];exact jk hnd' hmi hmj hl hij c hc
 ·simp only[List.mem_cons,List.not_mem_nil,or_false]at hp;rcases hp with rfl|rfl
  ·exact e0
  ·exact e1
 ·simp;omega
 ·simp only[List.mem_cons,List.not_mem_nil,or_false]at hp;rcases hp with rfl|rfl
  ·show 0 / 8<1;omega
  ·show 1 / 8<1;omega
 ·simp only[σB,eA,bu]at hk;split at hk
  ·simp[FV.keys,SV.keys]at hk;subst hk;show 0 / 8<1;omega
  ·rw[ti]at hk;cases hk
 ·rcases at' j e he with ⟨rfl,rfl⟩|⟨hj,hm⟩
  ·refine⟨by show 0 / 8<1;omega,λi hi=>?_⟩;have:=cw i hi;show i / 8<1;omega
  ·have:=dZ _ hm;refine⟨by show j / 8<1;simp only at this;omega,λi hi=>?_⟩;rw[this.2.2]at hi;cases hi
def R8(w:World)(S:Nat->Prop)(fp:List Nat)(T:TypeId)(fs:List AV)(W' : World)(bs' : List Nat)(x:SV)(h:Hp):FOut->Prop
 |.val v=>(∀ E,den E x=v)/\h 0=some (.cells T [.hd 1])/\aB h [.hd 1]=some (fs,[1])
 |.fact sh Φ=>(∃ cs,(∀ E,den E x=sh.val cs)/\Φ.Φ cs W' (bJ (af w S fp) bs'))/\h 0=some (.cells T [.hd 1])/\aB h [.hd 1]=some (fs,[1])
 |.pan _ _=>False
theorem fD{P:Program}{f:FuncId}{fn:Func}{c:Code}{w:World}{nt:Nat}{T:TypeId}{u y:Value}{fp:List Nat}{fs:List AV}{out:FOut}(S:Nat->Prop)(us:Array Value)(rs:List ResultVar)
  (hlen:fs.length<=7) (ho:sg w u [y] fp T fs) (hlt:∀ b∈fp,b<w.heap.size)
  (hf:P.funcs[f]?=some fn) (hb:fn.body=some c) (hrs:fn.results.toList=rs) (hnt:us.size+1+(fn.ntmps-(us.size+1))=nt)
  (h:Wp P w fp nt ⟨[],[(0,u),(1,y)]⟩ c (Fin P rs (λW' bs' x h=>R8 w S fp T fs W' bs' x h out) (λc _=>∃ v,out=.pan c v)) (σB T fs us.toList)) :
  Calls P f (#[u]++us) w λe w' => BU w S u [y] fp T fs e w' out:=by
 subst hrs;have hsat:=WU (nt:=nt) (m:=fn.ntmps-(us.size+1)) us hlen ho hlt hnt;have hsz:(#[u]++us).size=us.size+1:=by simp;omega
 refine (oY hf hb (by rw[hsz];exact hsat) h).mono λe w' he=>?_
 cases e with
 | returned v' =>
  obtain⟨W',bs',E,F,x,h',hx,hok,rfl,hs,hp⟩:=he;have hs' := hs.back hx;have hE:E 0=u:=hp (0,u) sI;have hE1:E 1=y:=hp (1,y) sI;have back:h' 0=some (.cells T [.hd 1])->aB h' [.hd 1]=some (fs,[1])->sg w' u [y] fp T fs/\∀ b∈fp,W'.heap.size<=b\/b∈bs' := λh0 hv=>by
   have ho' := Bu hs' h0 hv dE;have h1:∃ e,h' 1=some e:=(cy hs' hv).2 1 sI;obtain⟨e,he⟩:=h1;have hone:LE.hv (E 1)=E 1:=fQ (cd (hs'.ent 1 e he));have hd:ai E [.hd 1]=[y]:=by
    rw[<- hE1];simp only[ai,den];rw[hone]
   rw[hE,hd]at ho';have hfp:[0,1].flatMap F=fp:=by
    obtain⟨b,g1,g2,g3,g4,g5⟩:=ho;obtain⟨b',k1,k2,k3,k4,k5⟩:=ho';rw[g1]at k1;cases k1;rw[k4,g4]
   rw[hfp]at ho';refine⟨ho',λb hb=>?_⟩;rw[<- hfp]at hb;obtain⟨j,hj,hbj⟩:=List.mem_flatMap.1 hb;simp only[List.mem_cons,List.not_mem_nil,or_false]at hj;rcases hj with rfl|rfl
   ·exact hs.mine 0 _ h0 b hbj
   ·exact hs.mine 1 _ he b hbj
  cases out with
  |val v=>
   obtain⟨hd,h0,hv⟩:=hok;exact⟨by rw[hd E],(back h0 hv).1,hs'.keeps⟩
  |fact sh Φ=>
   obtain⟨⟨cs,hd,hΦ⟩,h0,hv⟩:=hok;obtain⟨g1,g4⟩:=back h0 hv;exact⟨cs,by rw[hd E],g1,Φ.mono (λb hb hr=>⟨hs.keeps.block b hb hr.2,hr.1,λhf=>(g4 b hf).elim (λg=>absurd g (Nat.not_le.2 hb)) hr.2⟩) hΦ,hs'.keeps⟩
  |pan c v=>exact hok.elim
 |panicked c=>
  obtain⟨W',bs',E,F,h',hx,⟨_,rfl⟩,hs,hp⟩:=he;exact⟨rfl,(hs.back hx).keeps⟩
 |outgrown=>exact he.elim
section
variable (G:Nat->Prop)(W:World)(bs:List Nat)(h:Hp)(κ k:Nat)(T T' : TypeId)
theorem tB(kinds:List Kd)(pre:List AV->List AV->World->(Nat->Prop)->Prop)(out:List AV->List AV->FOut)(rest:List SV):F4 G h κ T W bs kinds pre out (.own k 0::rest)=BX G h κ k T W bs pre out (nz G W bs h kinds rest) (h k):=rfl
theorem nN(pre:List AV->List AV->World->(Nat->Prop)->Prop)(out:List AV->List AV->FOut)(g:GVL)(vs:List SV):BX G h κ k T W bs pre out g (some (.cells T' vs))=BW G κ k T T' W bs pre out g (aB h vs):=rfl
theorem wD(pre:List AV->List AV->World->(Nat->Prop)->Prop)(out:List AV->List AV->FOut)(p:Prop)(as_ fs:List AV)(rs cs rs0:List Nat):BW G κ k T T' W bs pre out ⟨p,as_,rs,cs⟩ (some (fs,rs0))=rS G κ k W bs (T' = T/\p/\pre fs as_ W (bJ G bs)) rs0 rs cs (out fs as_):=rfl
theorem tD(q:Prop)(rs rs' cs:List Nat)(v:Value):rS G κ k W bs q rs rs' cs (.val v)=⟨q/\(k::rs).Nodup/\(∀ j∈rs',j∉k::rs),.v v,[],none,[],k::(rs++rs')⟩:=rfl
theorem p5(q:Prop)(rs rs' cs:List Nat)(sh:Sh)(Φ:FK):rS G κ k W bs q rs rs' cs (.fact sh Φ)=⟨q/\(k::rs).Nodup/\(∀ j∈rs',j∉k::rs)/\Up G W bs,sh.tm (8*κ+7),dX cs++[(8*κ+7,some (.obj [] (gz G W bs Φ)))],none,[],k::(rs++rs')⟩:=rfl
theorem tC(q:Prop)(rs rs' cs:List Nat)(c:List PanicEntry)(v:Value):rS G κ k W bs q rs rs' cs (.pan c v)=⟨q/\(k::rs).Nodup/\(∀ j∈rs',j∉k::rs),.v v,[],some c,k::rs,k::(rs++rs')⟩:=rfl
end
end
end Go.LE
namespace Go.Proofs.YtnemkecffmdlnaaGreatDoor
section
open Go Go.RowKit Go.LE
set_option maxRecDepth 10000
abbrev Bf (W:World)(S:Nat->Prop)(vs:List Value)(v:En):Prop:=fe W S vs (v.map (·.2))
def sd(v:En):List ByteArray:=v.map (·.1)
def mkF(vs:List Value)(v:En):List AV:=[.mp (sd v) vs]
def H3(vs:List Value)(v:En):TE->FOut
 |.ok t=>.fact Sh.one (tmF t)
 |.error (c,a)=>.pan (bf c a) .nilIface
theorem da(vs:List Value)(v:En)(t:Tm):H3 vs v (.ok t)=.fact Sh.one (tmF t):=rfl
theorem aJ(vs:List Value)(v:En)(c a:Int):H3 vs v (.error (c,a))=.pan (bf c a) .nilIface:=rfl
def xX(v:En)(x:Ex):Prop:=∀ (vs:List Value) (e u uh:Value) (fp:List Nat) (w:World) (S:Nat->Prop),wg v/\Bf w S vs v->cA x/\AP w S e x->bj w S->sg w u [uh] fp 132 (mkF vs v)->(∀ b∈fp,b<w.heap.size)->(∀ b∈fp,¬ S b) ->
 Calls Tryz.prog 65 (#[u]++#[e]) w λe' w' => BU w S u [uh] fp 132 (mkF vs v) e' w' (H3 vs v (aE v x))
def u7(v:En)(x:Ex)(h:xX v x)(vs:List Value):Fy Tryz.prog 65 where
 T:=132
 kinds:=[none]
 pre:=λfs bs_ W S=>(fs=mkF vs v/\∃ e,bs_=[.val e]/\AP W S e x)/\(wg v/\Bf W S vs v)/\cA x/\bj W S
 premono:=λfs bs_ W S W' S' hs ⟨⟨h1,e,h2,h3⟩,⟨h4,h5⟩,h6,h7⟩=>⟨⟨h1,e,h2,h3.mono hs⟩,⟨h4,fe.mono hs h5⟩,h6,h7.mono hs⟩
 out:=λ_ _=>H3 vs v (aE v x)
 enters:=Tryz.call65
 ok:=by
  intro w S u xs fp us fs bs_ ho hlt hS hu hp;obtain⟨⟨rfl,e,rfl,h1⟩,h2,h3,h4⟩:=hp;obtain⟨uh,rfl⟩:=Gf ho
  match us,hu with
  |[a],hu=>
   obtain⟨rfl,_⟩:=hu;have:=h vs a u uh fp w S h2 ⟨h3,h1⟩ h4 ho hlt hS;simpa using this
theorem sL(v:En)(x:Ex)(h:xX v x)(vs:List Value)(e:Value)(W:World)(S:Nat->Prop):(u7 v x h vs).pre [.mp (sd v) vs] [.val e] W S=(AP W S e x/\(wg v/\Bf W S vs v)/\cA x/\bj W S):=by
 apply propext;constructor
 ·rintro⟨⟨_,e',h1,h2⟩,h3⟩;cases h1;exact⟨h2,h3⟩
 ·rintro⟨h2,h3⟩;exact⟨⟨rfl,e,rfl,h2⟩,h3⟩
theorem xx(v:En)(x:Ex)(h:xX v x)(vs:List Value)(fs bs_:List AV):(u7 v x h vs).out fs bs_=H3 vs v (aE v x):=rfl
theorem IZ(v:En)(x:Ex)(h:xX v x)(vs:List Value):(u7 v x h vs).T=132:=rfl
theorem qn(v:En)(x:Ex)(h:xX v x)(vs:List Value):(u7 v x h vs).kinds=[none]:=rfl
theorem nZ.len{W:World}{S:Nat->Prop}:∀ {vs:List Value} {l:Ex},nZ W S false vs l->vs.length=nJ l
 |[],l,h=>by
  cases h;rfl
 |v::vs,l,h=>by
  cases h with
  |cons _ _ x l h1 h2=>rw[List.length_cons,nJ,nZ.len h2]
def Ys(v:En):Ex->Prop
 |.cons x l=>xX v x/\Ys v l
 |_=>True
def akh(ts:List Tm):Except (Int×Int) (List Tm)->Except (Int×Int) (List Tm)
 |.ok r=>.ok (ts++r)
 |.error e=>.error e
def rM(v:En)(a:Nat)(w:ByteArray)(l:Ex):TE:=match cx v l with
 |.error e=>.error e
 |.ok ts=>bc a w ts (cF l)
structure PC where
 W:World
 bs:List Nat
 us:List Value
 ts:List Tm
 l:Ex
 k:Nat
section
variable (G:Nat->Prop)(v:En)(x:Ex)(h:xX v x)(vs:List Value)(q:Ag)(i:Nat)
noncomputable def al2:Env Tryz.prog:=⟨λ| 65=>some ((u7 v x h vs).spec G)|_=>none,λ_=>none,λ_ _=>none⟩
theorem ahV:(al2 G v x h vs).sp 65=some ((u7 v x h vs).spec G):=rfl
noncomputable def gp:Env Tryz.prog:=⟨λ| 159=>some (G9 q i).spec|160=>some (Ha q i).spec|161=>some (Bo q i).spec|162=>some (G8 q i).spec|_=>none,λ_=>none,λ_ _=>none⟩
theorem ad4:(gp q i).sp 159=some (G9 q i).spec:=rfl
theorem ad5:(gp q i).sp 160=some (Ha q i).spec:=rfl
theorem ad6:(gp q i).sp 161=some (Bo q i).spec:=rfl
theorem ad7:(gp q i).sp 162=some (G8 q i).spec:=rfl
end
theorem AO.one{W:World}{S:Nat->Prop}{v:Value}{c:Cn}(h:AO W S v c):v.oneCell' = true:=by cases h<;>rfl
theorem zz.one{W:World}{S:Nat->Prop}{v:Value}{c:Ln}(h:zz W S v c):v.oneCell' = true:=by cases h<;>rfl
theorem px{q:Ag}{i:Nat}{n:Rx}(h:EN q.ts (cF q.l) i=.ok n):uB q i=.ret (ay n) (Av q (i+1)):=by
 unfold uB;rw[h];rfl
theorem pw{q:Ag}{i:Nat}{c j:Int}(h:EN q.ts (cF q.l) i=.error (c,j)):uB q i=.pan (bf c j) .nilIface:=by
 unfold uB;rw[h];rfl
theorem sK{q:Ag}{i:Nat}{n:ByteArray}(h:As q.ts (cF q.l) i=.ok n):nY q i=.ret (.string n) (Av q (i+1)):=by
 unfold nY;rw[h];rfl
theorem sJ{q:Ag}{i:Nat}{c j:Int}(h:As q.ts (cF q.l) i=.error (c,j)):nY q i=.pan (bf c j) .nilIface:=by
 unfold nY;rw[h];rfl
theorem FG{q:Ag}{i:Nat}{c j:Int}(h:E4 q.ts (cF q.l) i=.error (c,j)):jC q i=.pan (bf c j) .nilIface:=by
 unfold jC;rw[h];rfl
theorem Ca{q:Ag}{i:Nat}{c j:Int}(h:Ce q.ts (cF q.l) i=.error (c,j)):nQ q i=.pan (bf c j) .nilIface:=by
 unfold nQ;rw[h];rfl
theorem FH{W:World}{S:Nat->Prop}{q:Ag}{i:Nat}{c:Cn}(hq:q.ok W S)(h:E4 q.ts (cF q.l) i=.ok c):∃ p,jC q i=.ret p (Av q (i+1))/\AO W S p c:=by
 have h' := h;unfold E4 at h;split at h
 ·rename_i c' hi;cases h;have hl:i<q.us.length:=by
   have:=hq.2.1.2.len;have:=(List.getElem?_eq_some_iff.1 hi).1;omega
  obtain⟨v,t,g1,g2,g3⟩:=fe.get hq.2.1.2 hl;rw[hi]at g2;cases g2;obtain⟨p,rfl,hp⟩:=g3;refine⟨p,?_,hp⟩;unfold jC;rw[h',List.getD_eq_getElem?_getD,g1];rfl
 ·cases h
theorem Cb{W:World}{S:Nat->Prop}{q:Ag}{i:Nat}{c:Ln}(hq:q.ok W S)(h:Ce q.ts (cF q.l) i=.ok c):∃ p,nQ q i=.ret p (Av q (i+1))/\zz W S p c:=by
 have h' := h;unfold Ce at h;split at h
 ·rename_i c' hi;cases h;have hl:i<q.us.length:=by
   have:=hq.2.1.2.len;have:=(List.getElem?_eq_some_iff.1 hi).1;omega
  obtain⟨v,t,g1,g2,g3⟩:=fe.get hq.2.1.2 hl;rw[hi]at g2;cases g2;obtain⟨p,rfl,hp⟩:=g3;refine⟨p,?_,hp⟩;unfold nQ;rw[h',List.getD_eq_getElem?_getD,g1];rfl
 ·cases h
theorem eJ{t:Tm}{W1:World}{bs1 fp:List Nat}{w:World}{S:Nat->Prop}{x:SV}{v:Value}{T:TypeId}{h:Hp}{fs' : List AV}(hd:∀ E,den E x=v)(hg:ek W1 (bJ (af w S fp) bs1) v t)
  (h0:h 0=some (.cells T [.hd 1])) (hv:aB h [.hd 1]=some (fs',[1])) (hn:([0,1]:List Nat).Nodup):R8 w S fp T fs' W1 bs1 x h (.fact Sh.one (tmF t)):=
 ⟨⟨[v],λE=>(hd E).trans (tN hg.hv).symm,v,rfl,hg⟩,h0,hv⟩
def aW:=(ae @List.replicate_succ.{0} @List.replicate_zero.{0} @au @ab lx ly Tr (ae Tw TS lA di dj dk dm (ae dB dD dF dG eK eL eM (ae eN eO eP jS jT jU jV (ae jW ot ou ov ow ox I3 (ae I4 I5 I6 I7 I8 I9 Ja (ae Jb Jc iH iI iJ iK qB (ae qC qD qE qF qG qH qI (ae qJ qK qL qM qN qO qP (ae qQ qR qS qT mG mH mI (ae mJ mK mL mM mN mO mP (ae mQ mR mS mT mU mV mW (ae mX mY RH RJ RM RN zh (ae zi zj zk zl zm zp zq (ae zr zt acP acQ acR acS acT (ae acU acV acW acX acY acZ ac0 (ae ac1 ac2 ac3 ac4 @gE @e9 @aV (ae @aw @aD @aF @wL @tB @nN @wD (ae @tD @p5 @tC @cP @ahV @ad4 @ad5 (ae @ad6 @ad7 @sL @xx @IZ @qn @da (ae @aJ @mkF.eq_1 @G9.eq_1 @Ha.eq_1 @Bo.eq_1 @G8.eq_1 @Av.eq_1 (EL @cr @w9 @tt @eZ @A5 @cf @kD))))))))))))))))))))))
theorem VU(v:En)(a:Nat)(wd:ByteArray)(l:Ex)(hML:Ys v l)(vs:List Value)(ea:Option Addr)(ec:Nat)(xs:List Value)(u uh:Value)(fp:List Nat)(w:World)(S:Nat->Prop)(hEn:wg v/\Bf w S vs v)
  (hx:cA (.call a wd l)) (hS1:jY w S ea xs) (hS2:xs.length<=ec) (hS3:nZ w S false xs l) (hEs:bj w S) (ho:sg w u [uh] fp 132 (mkF vs v)) (hlt:∀ b∈fp,b<w.heap.size) (hS:∀ b∈fp,¬ S b) :
  Calls Tryz.prog 105 (#[u]++#[.agg #[.int .i64 (a:Nat),.string wd,.slice ea xs.length ec]]) w λe' w' => BU w S u [uh] fp 132 (mkF vs v) e' w' (H3 vs v (rM v a wd l)):=by
 have u0:=af.up w S fp;have hse:=af.e7 w S fp hS;simp only[cA]at hx;obtain⟨hx1,hx2,hx3,hx4,hx5⟩:=hx;have hxl:xs.length<=3:=by
  have:=ajr wd;have:=hS3.len;omega
 refine fD (nt:=135) S #[.agg #[.int .i64 (a:Nat),.string wd,.slice ea xs.length ec]] [.tmp 4] (by show 1<=7;omega) ho hlt Tryz.func105 rfl rfl rfl ?_;refine vR Γ0 aW ?_;refine vR Γ0 aW ?_;refine Wp.seq ?_;refine vR Γ0 aW ?_;refine Wp.block ?_;generalize hR:cx v l=R
 refine Wp.rm (λp:PC=>⟨30,eA [(0,.is (.own 0 0)),(3,.is (.own 4 0)),(4,.is (.v .nilIface)),(5,.is (.own 5 0)),(14,.is (.v (.slice ea xs.length ec))),(15,.is (.v (.int .i64 (xs.length:Nat)))),(16,.is (.v (.int .i64 (p.k:Nat))))],dS [(0,.cells 132 [.hd 1]),(1,.mp (sd v) (vs.map .v)),(4,.cells 219 [.v (.int .i64 (a:Nat)),.v (.string wd),.v (.slice ea xs.length ec)]),(5,.cells 293 [.v (.int .i64 (a:Nat)),.v (.string wd),.v (.slice ea xs.length ec),.hd 6,.v (.int .i64 0)]),(6,.row 54 1 p.us.length (p.us.map .v))]⟩)
  PC.W PC.bs (λp=>(bj p.W (bJ (af w S fp) p.bs)/\Bf p.W (bJ (af w S fp) p.bs) vs v/\jY p.W (bJ (af w S fp) p.bs) ea xs)/\(nZ p.W (bJ (af w S fp) p.bs) false xs l/\nZ p.W (bJ (af w S fp) p.bs) false (xs.drop p.k) p.l/\cA p.l/\Ys v p.l)/\(fe p.W (bJ (af w S fp) p.bs) p.us p.ts/\p.us.length=p.k/\p.k<=xs.length)/\akh p.ts (cx v p.l)=R) (λp=>xs.length-p.k) ⟨w,fp,[],[],l,0⟩ rfl rfl ?_ ⟨⟨hEs.mono hse,fe.mono hse hEn.2,hS1.mono hse⟩,⟨hS3.mono hse,hS3.mono hse,hx5,hML⟩,⟨trivial,rfl,Nat.zero_le _⟩,by rw[hR];cases R<;>rfl⟩ ?_
 ·exact wM (λk=>if k=4 then .key 8 else if k=5 then .key 40 else if k=6 then .nil else .key k) (aa aW @Int.natCast_zero)
 rintro⟨W1,bs1,us,ts,l1,k⟩ ⟨⟨e1,n1,s1⟩,⟨g0,g1,g2,g3⟩,⟨m1,m2,m3⟩,hR1⟩ hx1;simp only at e1 n1 s1 g0 g1 g2 g3 m1 m2 m3 hR1 hx1;dsimp only;have u1:=u0.ext hx1;refine vR Γ0 aW ?_;refine Wp.seq ?_;refine wC aW (λhc=>?_) (λhc=>?_)
 ·have hk1:k<xs.length:=by
   simp at hc;omega
  clear hc;have wk:IntKind.i64.wrap ((k:Int)+1)=((k+1:Nat):Int):=wW;obtain⟨y,hy⟩:∃ y,xs[k]?=some y:=⟨_,List.getElem?_eq_getElem hk1⟩;have hdr:xs.drop k=y::xs.drop (k+1):=by
   rw[List.drop_eq_getElem_cons hk1];rw[List.getElem?_eq_getElem hk1]at hy;rw[Option.some.inj hy]
  rw[hdr]at g1;obtain⟨b,o,rfl,hb,hcy⟩:=jY.cell s1 hy;cases g1 with
  |cons _ _ x l2 gx gl=>
  simp only[cA]at g2;obtain⟨gx2,gl2⟩:=g2;obtain⟨gx3,gl3⟩:=g3;rw[cx]at hR1;refine wK ?_;refine Wp.seq (Wp.block ?_);refine wR Γ0 (aa aW hcy) ?_ ?_
  ·exact⟨⟨oM,oM⟩,hb.2⟩
  cases hF:aE v x with
  | error e=>
   obtain⟨c,j⟩:=e;rw[hF]at hR1;have hE:rM v a wd l=.error (c,j):=by
    unfold rM;rw[hR,<- hR1];rfl
   rw[hE,aJ];refine Wp.rp (al2 (af w S fp) v x gx3 vs) aN (ev (bp aW hF gx.parts)) rfl (by kernel_rfl) ?_ ?_
   ·exact⟨⟨⟨gx,⟨hEn.1,n1⟩,gx2,e1⟩,dE,λ_ h=>h.elim⟩,by unfold maxLen;omega,oM⟩
   refine qq ?_;exact⟨_,rfl⟩
  | ok t=>
   rw[hF]at hR1;refine Wp.more ?_;refine J3 (al2 (af w S fp) v x gx3 vs) (bp aW hF gx.parts) ?_ ?_
   ·exact⟨⟨⟨gx,⟨hEn.1,n1⟩,gx2,e1⟩,dE,(λ_ h=>h.elim),u1⟩,by unfold maxLen;omega,oM⟩
   refine dn ?_;refine Pw.cO 335 (ev aW) (aX.refl _ _) λW3 bs3 cs hx3 hΦ3=>?_
   obtain⟨v3,rfl,hg3,hv3⟩:=Dk hΦ3;refine Pw.here ?_;refine qq ?_;refine vr Γ0 (aa aW wk) ?_;have em:List.map SV.v us++[.v v3]=List.map SV.v (us++[v3]):=by simp
   have el:(us++[v3]).length=us.length+1:=by simp
   refine⟨⟨W3,bs3,us++[v3],ts++[t],l2,k+1⟩,⟨⟨e1.mono hx3.dY,fe.mono hx3.dY n1,s1.mono hx3.dY⟩,⟨g0.mono hx3.dY,gl.mono hx3.dY,gl2,gl3⟩,⟨fe.snoc hg3 (fe.mono hx3.dY m1),by dsimp only;omega,by dsimp only;omega⟩,?_⟩,by dsimp only;omega,rfl,rfl,?_⟩
   ·rw[<- hR1];cases cx v l2 with
    |error e=>rfl
    |ok r=>simp[akh]
   exact wM (λk=>if k=6 then .key 344 else .key k) (fg aW hv3 em el)
 ·have hkN:k=xs.length:=by
   simp at hc;omega
  refine wE ?_;subst hkN;rw[List.drop_length]at g1;cases g1;have hR2:cx v l=.ok ts:=by
   rw[hR,<- hR1];simp[cx,akh]
  have hE:rM v a wd l=bc a wd ts (cF l):=by
   unfold rM;rw[hR2]
  rw[hE];obtain⟨hts,htl⟩:=Lq hEn.1 hx5 hR2;refine Wp.Aq 6 (ev (aa aW @aS)) (λE=>by simp only[ai,den,aS];exact rfl) λW2 bs2 ao2 c2 hx2 hs2 hd2=>?_
  have u2:=u1.ext hx2;have hS4:jY W2 (bJ (af w S fp) bs2) ao2 us:=hs2.out λb hb=>⟨u1 b hb.2,hb.1⟩
  have hq:(Ag.mk a wd ea ec xs l ao2 c2 us ts).ok W2 (bJ (af w S fp) bs2):=⟨⟨s1.mono hx2.dY,g0.mono hx2.dY⟩,⟨hS4,fe.mono hx2.dY m1⟩,⟨by dsimp only;omega,by dsimp only;omega,hd2,by dsimp only;omega⟩,hts⟩;obtain⟨Q,hQ⟩:∃ Q,Q=Ag.mk a wd ea ec xs l ao2 c2 us ts:=⟨_,rfl⟩
  have hqo:(Ag.mk a wd ea ec xs l ao2 c2 us ts).ok W2 (Out bs2):=hq.mono λb _ hb=>⟨rfl,hb.2⟩
  have hul:us.length=(ri wd).toNat:=by
   have:=g0.len;omega
  clear hQ Q;refine vR Γ0 aW ?_;refine Wp.seq ?_;refine vR Γ0 aW ?_;refine Wp.block ?_;refine Wp.seq (Wp.block ?_);refine Wp.seq (Wp.block ?_);refine Wp.seq (Wp.block ?_);refine Wp.seq (Wp.block ?_);refine Wp.seq (Wp.block ?_);refine Wp.seq (Wp.block ?_);refine Wp.seq (Wp.block ?_)
  refine Wp.seq (Wp.block ?_);refine Wp.seq ?_;refine Wp.seq ?_;refine Wp.seq ?_;refine vR Γ0 aW ?_;refine wC aW (λhc=>?_) (λhc=>?_)
  ·have hcT:=hc;have ho:wd=Sx:=rC hc;have ho1:wd=Sx\/wd=rk:=.inl ho;refine wK ?_;refine wC aW (λhc=>?_) (λhc=>?_)
   rotate_left
   ·rw[hcT]at hc;cases hc
   refine wE ?_;refine Wp.seq ?_;have hul:us.length=1:=by rw[hul,ho];decide
   cases hN0:EN ts (cF l) 0 with
   | error e=>
    obtain⟨c,j⟩:=e;have hE2:bc a wd ts (cF l)=.error (c,j):=by
     rw[bc,if_pos ho1];simp only[bM,hN0]
    rw[hE2,aJ];have hO:=pw (q:=⟨a,wd,ea,ec,xs,l,ao2,c2,us,ts⟩) hN0;refine Wp.IU (gp ⟨a,wd,ea,ec,xs,l,ao2,c2,us,ts⟩ 0) aN (ev (bp aW hO @Int.natCast_zero)) rfl (by kernel_rfl) ?_ ?_
    ·exact⟨⟨hqo,by show 0<us.length;omega⟩,dE,λ_ h=>h.elim⟩
    refine qq ?_;exact⟨_,rfl⟩
   | ok n0=>
    have hO:=px (q:=⟨a,wd,ea,ec,xs,l,ao2,c2,us,ts⟩) hN0;refine kT (gp ⟨a,wd,ea,ec,xs,l,ao2,c2,us,ts⟩ 0) (bp aW hO @Int.natCast_zero) ?_ ?_
    ·have hside:(Ag.ok ⟨a,wd,ea,ec,xs,l,ao2,c2,us,ts⟩) W2 (Out bs2)/\0<us.length:=⟨hqo,oM⟩
     first|exact⟨hside,dE,λ_ h=>h.elim⟩|exact⟨⟨hside,dE,λ_ h=>h.elim⟩,aM n0⟩
    clear hO;have hE2:bc a wd ts (cF l)=.ok (.canon (.mk a wd (some n0) ⟨#[]⟩ ⟨#[]⟩ .nil .nil)):=by
     rw[bc,if_pos ho1];simp only[bM,hN0]
    rw[hE2,da];refine Wp.cX 392 (ev aW) (λE=>by simp only[ai,den];exact rfl) λW3 bs3 b3 hx3 hb3 hn3 hc3=>?_
    refine wZ aW ?_;have hb:bJ (af w S fp) bs3 b3:=⟨u2 b3 hn3,hb3⟩
    exact eJ (λE=>rfl) ⟨_,rfl,VZ (n:=some n0) hb hc3 .nil .nil⟩ rfl (by simp only[iV,Op.operands,Value.cells,σ0,σB,Nat.reduceEqDiff,Nat.reduceAdd,Nat.reduceMul,Nat.reduceLT,Nat.reduceLeDiff,Nat.reduceBEq,av,Int.reduceToNat,Int.reduceLT,Int.reduceLE,Nat.reduceDiv,Nat.reduceMod,Nat.reduceSub,Int.reducePow,Nat.reducePow,σP,σB3,aW,aq,eZ,cQ,cr]<;>rfl) dE
  have na0:¬ wd=Sx:=rB hc;refine vr Γ0 aW ?_;refine wC aW (λhc=>?_) (λhc=>?_)
  ·have ho:wd=rk:=rC hc;have ho1:wd=Sx\/wd=rk:=.inr ho;refine wE ?_;refine Wp.seq ?_;have hul:us.length=1:=by rw[hul,ho];decide
   cases hN0:EN ts (cF l) 0 with
   | error e=>
    obtain⟨c,j⟩:=e;have hE2:bc a wd ts (cF l)=.error (c,j):=by
     rw[bc,if_pos ho1];simp only[bM,hN0]
    rw[hE2,aJ];have hO:=pw (q:=⟨a,wd,ea,ec,xs,l,ao2,c2,us,ts⟩) hN0;refine Wp.IU (gp ⟨a,wd,ea,ec,xs,l,ao2,c2,us,ts⟩ 0) aN (ev (bp aW hO @Int.natCast_zero)) rfl (by kernel_rfl) ?_ ?_
    ·exact⟨⟨hqo,by show 0<us.length;omega⟩,dE,λ_ h=>h.elim⟩
    refine qq ?_;exact⟨_,rfl⟩
   | ok n0=>
    have hO:=px (q:=⟨a,wd,ea,ec,xs,l,ao2,c2,us,ts⟩) hN0;refine kT (gp ⟨a,wd,ea,ec,xs,l,ao2,c2,us,ts⟩ 0) (bp aW hO @Int.natCast_zero) ?_ ?_
    ·have hside:(Ag.ok ⟨a,wd,ea,ec,xs,l,ao2,c2,us,ts⟩) W2 (Out bs2)/\0<us.length:=⟨hqo,oM⟩
     first|exact⟨hside,dE,λ_ h=>h.elim⟩|exact⟨⟨hside,dE,λ_ h=>h.elim⟩,aM n0⟩
    clear hO;have hE2:bc a wd ts (cF l)=.ok (.canon (.mk a wd (some n0) ⟨#[]⟩ ⟨#[]⟩ .nil .nil)):=by
     rw[bc,if_pos ho1];simp only[bM,hN0]
    rw[hE2,da];refine Wp.cX 408 (ev aW) (λE=>by simp only[ai,den];exact rfl) λW3 bs3 b3 hx3 hb3 hn3 hc3=>?_
    refine wZ aW ?_;have hb:bJ (af w S fp) bs3 b3:=⟨u2 b3 hn3,hb3⟩
    exact eJ (λE=>rfl) ⟨_,rfl,VZ (n:=some n0) hb hc3 .nil .nil⟩ rfl (by simp only[iV,Op.operands,Value.cells,σ0,σB,Nat.reduceEqDiff,Nat.reduceAdd,Nat.reduceMul,Nat.reduceLT,Nat.reduceLeDiff,Nat.reduceBEq,av,Int.reduceToNat,Int.reduceLT,Int.reduceLE,Nat.reduceDiv,Nat.reduceMod,Nat.reduceSub,Int.reducePow,Nat.reducePow,σP,σB3,aW,aq,eZ,cQ,cr]<;>rfl) dE
  have nw1:¬ (wd=Sx\/wd=rk):=λh=>h.elim na0 (rB hc)
  refine wK ?_;refine Wp.seq ?_;refine vR Γ0 aW ?_;refine wC aW (λhc=>?_) (λhc=>?_)
  ·have ho:wd=jJ:=rC hc;refine wE ?_;refine Wp.seq ?_;have hul:us.length=3:=by rw[hul,ho];decide
   cases hN0:EN ts (cF l) 0 with
   | error e=>
    obtain⟨c,j⟩:=e;have hE2:bc a wd ts (cF l)=.error (c,j):=by
     rw[bc,if_neg nw1,if_pos ho];simp only[bM,hN0]
    rw[hE2,aJ];have hO:=pw (q:=⟨a,wd,ea,ec,xs,l,ao2,c2,us,ts⟩) hN0;refine Wp.IU (gp ⟨a,wd,ea,ec,xs,l,ao2,c2,us,ts⟩ 0) aN (ev (bp aW hO @Int.natCast_zero)) rfl (by kernel_rfl) ?_ ?_
    ·exact⟨⟨hqo,by show 0<us.length;omega⟩,dE,λ_ h=>h.elim⟩
    refine qq ?_;exact⟨_,rfl⟩
   | ok n0=>
    have hO:=px (q:=⟨a,wd,ea,ec,xs,l,ao2,c2,us,ts⟩) hN0;refine kT (gp ⟨a,wd,ea,ec,xs,l,ao2,c2,us,ts⟩ 0) (bp aW hO @Int.natCast_zero) ?_ ?_
    ·have hside:(Ag.ok ⟨a,wd,ea,ec,xs,l,ao2,c2,us,ts⟩) W2 (Out bs2)/\0<us.length:=⟨hqo,oM⟩
     first|exact⟨hside,dE,λ_ h=>h.elim⟩|exact⟨⟨hside,dE,λ_ h=>h.elim⟩,aM n0⟩
    clear hO;cases hN1:As ts (cF l) 1 with
    | error e=>
     obtain⟨c,j⟩:=e;have hE2:bc a wd ts (cF l)=.error (c,j):=by
      rw[bc,if_neg nw1,if_pos ho];simp only[bM,hN0,hN1]
     rw[hE2,aJ];have hO:=sJ (q:=⟨a,wd,ea,ec,xs,l,ao2,c2,us,ts⟩) hN1;refine Wp.bo (gp ⟨a,wd,ea,ec,xs,l,ao2,c2,us,ts⟩ 1) aN (ev (bp aW hO @Int.natCast_zero)) ?_ ?_
     ·exact⟨⟨hqo,by show 1<us.length;omega⟩,dE,λ_ h=>h.elim⟩
     refine qq ?_;exact⟨_,rfl⟩
    | ok n1=>
     have hO:=sK (q:=⟨a,wd,ea,ec,xs,l,ao2,c2,us,ts⟩) hN1;refine wR (gp ⟨a,wd,ea,ec,xs,l,ao2,c2,us,ts⟩ 1) (bp aW hO @Int.natCast_zero) ?_ ?_
     ·have hside:(Ag.ok ⟨a,wd,ea,ec,xs,l,ao2,c2,us,ts⟩) W2 (Out bs2)/\1<us.length:=⟨hqo,oM⟩
      first|exact⟨hside,dE,λ_ h=>h.elim⟩|exact⟨⟨hside,dE,λ_ h=>h.elim⟩,rfl⟩
     clear hO;cases hN2:As ts (cF l) 2 with
     | error e=>
      obtain⟨c,j⟩:=e;have hE2:bc a wd ts (cF l)=.error (c,j):=by
       rw[bc,if_neg nw1,if_pos ho];simp only[bM,hN0,hN1,hN2]
      rw[hE2,aJ];have hO:=sJ (q:=⟨a,wd,ea,ec,xs,l,ao2,c2,us,ts⟩) hN2;refine Wp.bo (gp ⟨a,wd,ea,ec,xs,l,ao2,c2,us,ts⟩ 2) aN (ev (bp aW hO @Int.natCast_zero)) ?_ ?_
      ·exact⟨⟨hqo,by show 2<us.length;omega⟩,dE,λ_ h=>h.elim⟩
      refine qq ?_;exact⟨_,rfl⟩
     | ok n2=>
      have hO:=sK (q:=⟨a,wd,ea,ec,xs,l,ao2,c2,us,ts⟩) hN2;refine wR (gp ⟨a,wd,ea,ec,xs,l,ao2,c2,us,ts⟩ 2) (bp aW hO @Int.natCast_zero) ?_ ?_
      ·have hside:(Ag.ok ⟨a,wd,ea,ec,xs,l,ao2,c2,us,ts⟩) W2 (Out bs2)/\2<us.length:=⟨hqo,oM⟩
       first|exact⟨hside,dE,λ_ h=>h.elim⟩|exact⟨⟨hside,dE,λ_ h=>h.elim⟩,rfl⟩
      clear hO;have hE2:bc a wd ts (cF l)=.ok (.canon (.mk a wd (some n0) n1 n2 .nil .nil)):=by
       rw[bc,if_neg nw1,if_pos ho];simp only[bM,hN0,hN1,hN2]
      rw[hE2,da];refine vR Γ0 aW ?_;refine Wp.cX 424 (ev aW) (λE=>by simp only[ai,den];exact rfl) λW3 bs3 b3 hx3 hb3 hn3 hc3=>?_
      refine wZ aW ?_;have hb:bJ (af w S fp) bs3 b3:=⟨u2 b3 hn3,hb3⟩
      exact eJ (λE=>rfl) ⟨_,rfl,VZ (n:=some n0) hb hc3 .nil .nil⟩ rfl (by simp only[iV,Op.operands,Value.cells,σ0,σB,Nat.reduceEqDiff,Nat.reduceAdd,Nat.reduceMul,Nat.reduceLT,Nat.reduceLeDiff,Nat.reduceBEq,av,Int.reduceToNat,Int.reduceLT,Int.reduceLE,Nat.reduceDiv,Nat.reduceMod,Nat.reduceSub,Int.reducePow,Nat.reducePow,σP,σB3,aW,aq,eZ,cQ,cr]<;>rfl) dE
  have nw2:¬ wd=jJ:=rB hc;refine wK ?_;refine Wp.seq ?_;refine vR Γ0 aW ?_;refine wC aW (λhc=>?_) (λhc=>?_)
  ·have ho:wd=Hs:=rC hc;refine wE ?_;have hul:us.length=2:=by rw[hul,ho];decide
   cases hN0:EN ts (cF l) 0 with
   | error e=>
    obtain⟨c,j⟩:=e;have hE2:bc a wd ts (cF l)=.error (c,j):=by
     rw[bc,if_neg nw1,if_neg nw2,if_pos ho];simp only[bM,hN0]
    rw[hE2,aJ];have hO:=pw (q:=⟨a,wd,ea,ec,xs,l,ao2,c2,us,ts⟩) hN0;refine Wp.dJ (gp ⟨a,wd,ea,ec,xs,l,ao2,c2,us,ts⟩ 0) aN (ev (bp aW hO @Int.natCast_zero)) ?_ ?_
    ·exact⟨⟨hqo,by show 0<us.length;omega⟩,dE,λ_ h=>h.elim⟩
    refine qq ?_;exact⟨_,rfl⟩
   | ok n0=>
    have hO:=px (q:=⟨a,wd,ea,ec,xs,l,ao2,c2,us,ts⟩) hN0;refine wr (gp ⟨a,wd,ea,ec,xs,l,ao2,c2,us,ts⟩ 0) (bp aW hO @Int.natCast_zero) ?_ ?_
    ·have hside:(Ag.ok ⟨a,wd,ea,ec,xs,l,ao2,c2,us,ts⟩) W2 (Out bs2)/\0<us.length:=⟨hqo,oM⟩
     first|exact⟨hside,dE,λ_ h=>h.elim⟩|exact⟨⟨hside,dE,λ_ h=>h.elim⟩,aM n0⟩
    clear hO;cases hN1:As ts (cF l) 1 with
    | error e=>
     obtain⟨c,j⟩:=e;have hE2:bc a wd ts (cF l)=.error (c,j):=by
      rw[bc,if_neg nw1,if_neg nw2,if_pos ho];simp only[bM,hN0,hN1]
     rw[hE2,aJ];have hO:=sJ (q:=⟨a,wd,ea,ec,xs,l,ao2,c2,us,ts⟩) hN1;refine Wp.bo (gp ⟨a,wd,ea,ec,xs,l,ao2,c2,us,ts⟩ 1) aN (ev (bp aW hO @Int.natCast_zero)) ?_ ?_
     ·exact⟨⟨hqo,by show 1<us.length;omega⟩,dE,λ_ h=>h.elim⟩
     refine qq ?_;exact⟨_,rfl⟩
    | ok n1=>
     have hO:=sK (q:=⟨a,wd,ea,ec,xs,l,ao2,c2,us,ts⟩) hN1;refine wR (gp ⟨a,wd,ea,ec,xs,l,ao2,c2,us,ts⟩ 1) (bp aW hO @Int.natCast_zero) ?_ ?_
     ·have hside:(Ag.ok ⟨a,wd,ea,ec,xs,l,ao2,c2,us,ts⟩) W2 (Out bs2)/\1<us.length:=⟨hqo,oM⟩
      first|exact⟨hside,dE,λ_ h=>h.elim⟩|exact⟨⟨hside,dE,λ_ h=>h.elim⟩,rfl⟩
     refine wE ?_;clear hO;have hE2:bc a wd ts (cF l)=.ok (.lens (.mk a wd (some n0) n1 .nil .nil .nil)):=by
      rw[bc,if_neg nw1,if_neg nw2,if_pos ho];simp only[bM,hN0,hN1]
     rw[hE2,da];refine vR Γ0 aW ?_;refine Wp.cX 288 (ev aW) (λE=>by simp only[ai,den];exact rfl) λW3 bs3 b3 hx3 hb3 hn3 hc3=>?_
     refine wZ aW ?_;have hb:bJ (af w S fp) bs3 b3:=⟨u2 b3 hn3,hb3⟩
     exact eJ (λE=>rfl) ⟨_,rfl,sc (n:=some n0) hb hc3 .nil .nil .nil⟩ rfl (by simp only[iV,Op.operands,Value.cells,σ0,σB,Nat.reduceEqDiff,Nat.reduceAdd,Nat.reduceMul,Nat.reduceLT,Nat.reduceLeDiff,Nat.reduceBEq,av,Int.reduceToNat,Int.reduceLT,Int.reduceLE,Nat.reduceDiv,Nat.reduceMod,Nat.reduceSub,Int.reducePow,Nat.reducePow,σP,σB3,aW,aq,eZ,cQ,cr]<;>rfl) dE
  have nw3:¬ wd=Hs:=rB hc;refine wK ?_;refine Wp.seq ?_;refine vR Γ0 aW ?_;refine wC aW (λhc=>?_) (λhc=>?_)
  ·have ho:wd=mm:=rC hc;refine wE ?_;have hul:us.length=1:=by rw[hul,ho];decide
   cases hN0:As ts (cF l) 0 with
   | error e=>
    obtain⟨c,j⟩:=e;have hE2:bc a wd ts (cF l)=.error (c,j):=by
     rw[bc,if_neg nw1,if_neg nw2,if_neg nw3,if_pos ho];simp only[bM,hN0]
    rw[hE2,aJ];have hO:=sJ (q:=⟨a,wd,ea,ec,xs,l,ao2,c2,us,ts⟩) hN0;refine Wp.bo (gp ⟨a,wd,ea,ec,xs,l,ao2,c2,us,ts⟩ 0) aN (ev (bp aW hO @Int.natCast_zero)) ?_ ?_
    ·exact⟨⟨hqo,by show 0<us.length;omega⟩,dE,λ_ h=>h.elim⟩
    refine qq ?_;exact⟨_,rfl⟩
   | ok n0=>
    have hO:=sK (q:=⟨a,wd,ea,ec,xs,l,ao2,c2,us,ts⟩) hN0;refine wR (gp ⟨a,wd,ea,ec,xs,l,ao2,c2,us,ts⟩ 0) (bp aW hO @Int.natCast_zero) ?_ ?_
    ·have hside:(Ag.ok ⟨a,wd,ea,ec,xs,l,ao2,c2,us,ts⟩) W2 (Out bs2)/\0<us.length:=⟨hqo,oM⟩
     first|exact⟨hside,dE,λ_ h=>h.elim⟩|exact⟨⟨hside,dE,λ_ h=>h.elim⟩,rfl⟩
    refine wE ?_;clear hO;have hE2:bc a wd ts (cF l)=.ok (.lens (.mk a wd none n0 .nil .nil .nil)):=by
     rw[bc,if_neg nw1,if_neg nw2,if_neg nw3,if_pos ho];simp only[bM,hN0]
    rw[hE2,da];refine vR Γ0 aW ?_;refine Wp.cX 288 (ev aW) (λE=>by simp only[ai,den];exact rfl) λW3 bs3 b3 hx3 hb3 hn3 hc3=>?_
    refine wZ aW ?_;have hb:bJ (af w S fp) bs3 b3:=⟨u2 b3 hn3,hb3⟩
    exact eJ (λE=>rfl) ⟨_,rfl,sc (n:=none) hb hc3 .nil .nil .nil⟩ rfl (by simp only[iV,Op.operands,Value.cells,σ0,σB,Nat.reduceEqDiff,Nat.reduceAdd,Nat.reduceMul,Nat.reduceLT,Nat.reduceLeDiff,Nat.reduceBEq,av,Int.reduceToNat,Int.reduceLT,Int.reduceLE,Nat.reduceDiv,Nat.reduceMod,Nat.reduceSub,Int.reducePow,Nat.reducePow,σP,σB3,aW,aq,eZ,cQ,cr]<;>rfl) dE
  have nw4:¬ wd=mm:=rB hc;refine wK ?_;refine Wp.seq ?_;refine Wp.seq ?_;refine vR Γ0 aW ?_;refine wC aW (λhc=>?_) (λhc=>?_)
  ·have hcT:=hc;have ho:wd=jD:=rC hc;have ho1:wd=jD\/wd=AB:=.inl ho;refine wK ?_;refine wC aW (λhc=>?_) (λhc=>?_)
   rotate_left
   ·rw[hcT]at hc;cases hc
   refine wE ?_;have hul:us.length=1:=by rw[hul,ho];decide
   cases hN0:EN ts (cF l) 0 with
   | error e=>
    obtain⟨c,j⟩:=e;have hE2:bc a wd ts (cF l)=.error (c,j):=by
     rw[bc,if_neg nw1,if_neg nw2,if_neg nw3,if_neg nw4,if_pos ho1];simp only[bM,hN0]
    rw[hE2,aJ];have hO:=pw (q:=⟨a,wd,ea,ec,xs,l,ao2,c2,us,ts⟩) hN0;refine Wp.bo (gp ⟨a,wd,ea,ec,xs,l,ao2,c2,us,ts⟩ 0) aN (ev (bp aW hO @Int.natCast_zero)) ?_ ?_
    ·exact⟨⟨hqo,by show 0<us.length;omega⟩,dE,λ_ h=>h.elim⟩
    refine qq ?_;exact⟨_,rfl⟩
   | ok n0=>
    have hO:=px (q:=⟨a,wd,ea,ec,xs,l,ao2,c2,us,ts⟩) hN0;refine wR (gp ⟨a,wd,ea,ec,xs,l,ao2,c2,us,ts⟩ 0) (bp aW hO @Int.natCast_zero) ?_ ?_
    ·have hside:(Ag.ok ⟨a,wd,ea,ec,xs,l,ao2,c2,us,ts⟩) W2 (Out bs2)/\0<us.length:=⟨hqo,oM⟩
     first|exact⟨hside,dE,λ_ h=>h.elim⟩|exact⟨⟨hside,dE,λ_ h=>h.elim⟩,aM n0⟩
    refine wE ?_;clear hO;have hE2:bc a wd ts (cF l)=.ok (.lens (.mk a wd (some n0) ⟨#[]⟩ .nil .nil .nil)):=by
     rw[bc,if_neg nw1,if_neg nw2,if_neg nw3,if_neg nw4,if_pos ho1];simp only[bM,hN0]
    rw[hE2,da];refine vR Γ0 aW ?_;refine Wp.cX 288 (ev aW) (λE=>by simp only[ai,den];exact rfl) λW3 bs3 b3 hx3 hb3 hn3 hc3=>?_
    refine wZ aW ?_;have hb:bJ (af w S fp) bs3 b3:=⟨u2 b3 hn3,hb3⟩
    exact eJ (λE=>rfl) ⟨_,rfl,sc (n:=some n0) hb hc3 .nil .nil .nil⟩ rfl (by simp only[iV,Op.operands,Value.cells,σ0,σB,Nat.reduceEqDiff,Nat.reduceAdd,Nat.reduceMul,Nat.reduceLT,Nat.reduceLeDiff,Nat.reduceBEq,av,Int.reduceToNat,Int.reduceLT,Int.reduceLE,Nat.reduceDiv,Nat.reduceMod,Nat.reduceSub,Int.reducePow,Nat.reducePow,σP,σB3,aW,aq,eZ,cQ,cr]<;>rfl) dE
  have na4:¬ wd=jD:=rB hc;refine vr Γ0 aW ?_;refine wC aW (λhc=>?_) (λhc=>?_)
  ·have ho:wd=AB:=rC hc;have ho1:wd=jD\/wd=AB:=.inr ho;refine wE ?_;have hul:us.length=1:=by rw[hul,ho];decide
   cases hN0:EN ts (cF l) 0 with
   | error e=>
    obtain⟨c,j⟩:=e;have hE2:bc a wd ts (cF l)=.error (c,j):=by
     rw[bc,if_neg nw1,if_neg nw2,if_neg nw3,if_neg nw4,if_pos ho1];simp only[bM,hN0]
    rw[hE2,aJ];have hO:=pw (q:=⟨a,wd,ea,ec,xs,l,ao2,c2,us,ts⟩) hN0;refine Wp.bo (gp ⟨a,wd,ea,ec,xs,l,ao2,c2,us,ts⟩ 0) aN (ev (bp aW hO @Int.natCast_zero)) ?_ ?_
    ·exact⟨⟨hqo,by show 0<us.length;omega⟩,dE,λ_ h=>h.elim⟩
    refine qq ?_;exact⟨_,rfl⟩
   | ok n0=>
    have hO:=px (q:=⟨a,wd,ea,ec,xs,l,ao2,c2,us,ts⟩) hN0;refine wR (gp ⟨a,wd,ea,ec,xs,l,ao2,c2,us,ts⟩ 0) (bp aW hO @Int.natCast_zero) ?_ ?_
    ·have hside:(Ag.ok ⟨a,wd,ea,ec,xs,l,ao2,c2,us,ts⟩) W2 (Out bs2)/\0<us.length:=⟨hqo,oM⟩
     first|exact⟨hside,dE,λ_ h=>h.elim⟩|exact⟨⟨hside,dE,λ_ h=>h.elim⟩,aM n0⟩
    refine wE ?_;clear hO;have hE2:bc a wd ts (cF l)=.ok (.lens (.mk a wd (some n0) ⟨#[]⟩ .nil .nil .nil)):=by
     rw[bc,if_neg nw1,if_neg nw2,if_neg nw3,if_neg nw4,if_pos ho1];simp only[bM,hN0]
    rw[hE2,da];refine vR Γ0 aW ?_;refine Wp.cX 288 (ev aW) (λE=>by simp only[ai,den];exact rfl) λW3 bs3 b3 hx3 hb3 hn3 hc3=>?_
    refine wZ aW ?_;have hb:bJ (af w S fp) bs3 b3:=⟨u2 b3 hn3,hb3⟩
    exact eJ (λE=>rfl) ⟨_,rfl,sc (n:=some n0) hb hc3 .nil .nil .nil⟩ rfl (by simp only[iV,Op.operands,Value.cells,σ0,σB,Nat.reduceEqDiff,Nat.reduceAdd,Nat.reduceMul,Nat.reduceLT,Nat.reduceLeDiff,Nat.reduceBEq,av,Int.reduceToNat,Int.reduceLT,Int.reduceLE,Nat.reduceDiv,Nat.reduceMod,Nat.reduceSub,Int.reducePow,Nat.reducePow,σP,σB3,aW,aq,eZ,cQ,cr]<;>rfl) dE
  have nw5:¬ (wd=jD\/wd=AB):=λh=>h.elim na4 (rB hc)
  refine wK ?_;refine Wp.seq ?_;refine vR Γ0 aW ?_;refine wC aW (λhc=>?_) (λhc=>?_)
  ·have ho:wd=wJ:=rC hc;refine wE ?_;refine Wp.seq ?_;have hul:us.length=2:=by rw[hul,ho];decide
   cases hN0:E4 ts (cF l) 0 with
   | error e=>
    obtain⟨c,j⟩:=e;have hE2:bc a wd ts (cF l)=.error (c,j):=by
     rw[bc,if_neg nw1,if_neg nw2,if_neg nw3,if_neg nw4,if_neg nw5,if_pos ho];simp only[bM,hN0]
    rw[hE2,aJ];have hO:=FG (q:=⟨a,wd,ea,ec,xs,l,ao2,c2,us,ts⟩) hN0;refine Wp.bo (gp ⟨a,wd,ea,ec,xs,l,ao2,c2,us,ts⟩ 0) aN (ev (bp aW hO @Int.natCast_zero)) ?_ ?_
    ·exact⟨⟨hqo,by show 0<us.length;omega⟩,dE,λ_ h=>h.elim⟩
    refine qq ?_;exact⟨_,rfl⟩
   | ok n0=>
    obtain⟨p0,hO,hP0⟩:=FH (q:=⟨a,wd,ea,ec,xs,l,ao2,c2,us,ts⟩) hq hN0;refine wR (gp ⟨a,wd,ea,ec,xs,l,ao2,c2,us,ts⟩ 0) (fg aW hO hP0.parts @Int.natCast_zero) ?_ ?_
    ·have hside:(Ag.ok ⟨a,wd,ea,ec,xs,l,ao2,c2,us,ts⟩) W2 (Out bs2)/\0<us.length:=⟨hqo,oM⟩
     first|exact⟨hside,dE,λ_ h=>h.elim⟩|exact⟨⟨hside,dE,λ_ h=>h.elim⟩,hP0.one⟩
    clear hO;cases hN1:Ce ts (cF l) 1 with
    | error e=>
     obtain⟨c,j⟩:=e;have hE2:bc a wd ts (cF l)=.error (c,j):=by
      rw[bc,if_neg nw1,if_neg nw2,if_neg nw3,if_neg nw4,if_neg nw5,if_pos ho];simp only[bM,hN0,hN1]
     rw[hE2,aJ];have hO:=Ca (q:=⟨a,wd,ea,ec,xs,l,ao2,c2,us,ts⟩) hN1;refine Wp.dJ (gp ⟨a,wd,ea,ec,xs,l,ao2,c2,us,ts⟩ 1) aN (ev (bp aW hO @Int.natCast_zero)) ?_ ?_
     ·exact⟨⟨hqo,by show 1<us.length;omega⟩,dE,λ_ h=>h.elim⟩
     refine qq ?_;exact⟨_,rfl⟩
    | ok n1=>
     obtain⟨p1,hO,hP1⟩:=Cb (q:=⟨a,wd,ea,ec,xs,l,ao2,c2,us,ts⟩) hq hN1;refine wr (gp ⟨a,wd,ea,ec,xs,l,ao2,c2,us,ts⟩ 1) (fg aW hO hP1.parts @Int.natCast_zero) ?_ ?_
     ·have hside:(Ag.ok ⟨a,wd,ea,ec,xs,l,ao2,c2,us,ts⟩) W2 (Out bs2)/\1<us.length:=⟨hqo,oM⟩
      first|exact⟨hside,dE,λ_ h=>h.elim⟩|exact⟨⟨hside,dE,λ_ h=>h.elim⟩,hP1.one⟩
     refine wE ?_;clear hO;have hE2:bc a wd ts (cF l)=.ok (.lens (.mk a wd none ⟨#[]⟩ n0 n1 .nil)):=by
      rw[bc,if_neg nw1,if_neg nw2,if_neg nw3,if_neg nw4,if_neg nw5,if_pos ho];simp only[bM,hN0,hN1]
     rw[hE2,da];refine vR Γ0 aW ?_;refine Wp.cX 288 (ev aW) (λE=>by simp only[ai,den];exact rfl) λW3 bs3 b3 hx3 hb3 hn3 hc3=>?_
     refine wZ aW ?_;have hb:bJ (af w S fp) bs3 b3:=⟨u2 b3 hn3,hb3⟩
     exact eJ (λE=>rfl) ⟨_,rfl,sc (n:=none) hb hc3 (hP0.mono hx3.dY) (hP1.mono hx3.dY) .nil⟩ rfl (by simp only[iV,Op.operands,Value.cells,σ0,σB,Nat.reduceEqDiff,Nat.reduceAdd,Nat.reduceMul,Nat.reduceLT,Nat.reduceLeDiff,Nat.reduceBEq,av,Int.reduceToNat,Int.reduceLT,Int.reduceLE,Nat.reduceDiv,Nat.reduceMod,Nat.reduceSub,Int.reducePow,Nat.reducePow,σP,σB3,aW,aq,eZ,cQ,cr]<;>rfl) dE
  have nw6:¬ wd=wJ:=rB hc;refine wK ?_;refine Wp.seq ?_;refine vR Γ0 aW ?_;refine wC aW (λhc=>?_) (λhc=>?_)
  ·have ho:wd=qf:=rC hc;refine wE ?_;refine Wp.seq ?_;have hul:us.length=2:=by rw[hul,ho];decide
   cases hN0:Ce ts (cF l) 0 with
   | error e=>
    obtain⟨c,j⟩:=e;have hE2:bc a wd ts (cF l)=.error (c,j):=by
     rw[bc,if_neg nw1,if_neg nw2,if_neg nw3,if_neg nw4,if_neg nw5,if_neg nw6,if_pos ho];simp only[bM,hN0]
    rw[hE2,aJ];have hO:=Ca (q:=⟨a,wd,ea,ec,xs,l,ao2,c2,us,ts⟩) hN0;refine Wp.bo (gp ⟨a,wd,ea,ec,xs,l,ao2,c2,us,ts⟩ 0) aN (ev (bp aW hO @Int.natCast_zero)) ?_ ?_
    ·exact⟨⟨hqo,by show 0<us.length;omega⟩,dE,λ_ h=>h.elim⟩
    refine qq ?_;exact⟨_,rfl⟩
   | ok n0=>
    obtain⟨p0,hO,hP0⟩:=Cb (q:=⟨a,wd,ea,ec,xs,l,ao2,c2,us,ts⟩) hq hN0;refine wR (gp ⟨a,wd,ea,ec,xs,l,ao2,c2,us,ts⟩ 0) (fg aW hO hP0.parts @Int.natCast_zero) ?_ ?_
    ·have hside:(Ag.ok ⟨a,wd,ea,ec,xs,l,ao2,c2,us,ts⟩) W2 (Out bs2)/\0<us.length:=⟨hqo,oM⟩
     first|exact⟨hside,dE,λ_ h=>h.elim⟩|exact⟨⟨hside,dE,λ_ h=>h.elim⟩,hP0.one⟩
    clear hO;cases hN1:E4 ts (cF l) 1 with
    | error e=>
     obtain⟨c,j⟩:=e;have hE2:bc a wd ts (cF l)=.error (c,j):=by
      rw[bc,if_neg nw1,if_neg nw2,if_neg nw3,if_neg nw4,if_neg nw5,if_neg nw6,if_pos ho];simp only[bM,hN0,hN1]
     rw[hE2,aJ];have hO:=FG (q:=⟨a,wd,ea,ec,xs,l,ao2,c2,us,ts⟩) hN1;refine Wp.dJ (gp ⟨a,wd,ea,ec,xs,l,ao2,c2,us,ts⟩ 1) aN (ev (bp aW hO @Int.natCast_zero)) ?_ ?_
     ·exact⟨⟨hqo,by show 1<us.length;omega⟩,dE,λ_ h=>h.elim⟩
     refine qq ?_;exact⟨_,rfl⟩
    | ok n1=>
     obtain⟨p1,hO,hP1⟩:=FH (q:=⟨a,wd,ea,ec,xs,l,ao2,c2,us,ts⟩) hq hN1;refine wr (gp ⟨a,wd,ea,ec,xs,l,ao2,c2,us,ts⟩ 1) (fg aW hO hP1.parts @Int.natCast_zero) ?_ ?_
     ·have hside:(Ag.ok ⟨a,wd,ea,ec,xs,l,ao2,c2,us,ts⟩) W2 (Out bs2)/\1<us.length:=⟨hqo,oM⟩
      first|exact⟨hside,dE,λ_ h=>h.elim⟩|exact⟨⟨hside,dE,λ_ h=>h.elim⟩,hP1.one⟩
     refine wE ?_;clear hO;have hE2:bc a wd ts (cF l)=.ok (.lens (.mk a wd none ⟨#[]⟩ n1 n0 .nil)):=by
      rw[bc,if_neg nw1,if_neg nw2,if_neg nw3,if_neg nw4,if_neg nw5,if_neg nw6,if_pos ho];simp only[bM,hN0,hN1]
     rw[hE2,da];refine vR Γ0 aW ?_;refine Wp.cX 288 (ev aW) (λE=>by simp only[ai,den];exact rfl) λW3 bs3 b3 hx3 hb3 hn3 hc3=>?_
     refine wZ aW ?_;have hb:bJ (af w S fp) bs3 b3:=⟨u2 b3 hn3,hb3⟩
     exact eJ (λE=>rfl) ⟨_,rfl,sc (n:=none) hb hc3 (hP1.mono hx3.dY) (hP0.mono hx3.dY) .nil⟩ rfl (by simp only[iV,Op.operands,Value.cells,σ0,σB,Nat.reduceEqDiff,Nat.reduceAdd,Nat.reduceMul,Nat.reduceLT,Nat.reduceLeDiff,Nat.reduceBEq,av,Int.reduceToNat,Int.reduceLT,Int.reduceLE,Nat.reduceDiv,Nat.reduceMod,Nat.reduceSub,Int.reducePow,Nat.reducePow,σP,σB3,aW,aq,eZ,cQ,cr]<;>rfl) dE
  have nw7:¬ wd=qf:=rB hc;refine wK ?_;refine vR Γ0 aW ?_;refine wC aW (λhc=>?_) (λhc=>?_)
  ·have ho:wd=v7:=rC hc;refine wE ?_;refine Wp.seq ?_;have hul:us.length=2:=by rw[hul,ho];decide
   cases hN0:Ce ts (cF l) 0 with
   | error e=>
    obtain⟨c,j⟩:=e;have hE2:bc a wd ts (cF l)=.error (c,j):=by
     rw[bc,if_neg nw1,if_neg nw2,if_neg nw3,if_neg nw4,if_neg nw5,if_neg nw6,if_neg nw7,if_pos ho];simp only[bM,hN0]
    rw[hE2,aJ];have hO:=Ca (q:=⟨a,wd,ea,ec,xs,l,ao2,c2,us,ts⟩) hN0;refine Wp.bo (gp ⟨a,wd,ea,ec,xs,l,ao2,c2,us,ts⟩ 0) aN (ev (bp aW hO @Int.natCast_zero)) ?_ ?_
    ·exact⟨⟨hqo,by show 0<us.length;omega⟩,dE,λ_ h=>h.elim⟩
    refine qq ?_;exact⟨_,rfl⟩
   | ok n0=>
    obtain⟨p0,hO,hP0⟩:=Cb (q:=⟨a,wd,ea,ec,xs,l,ao2,c2,us,ts⟩) hq hN0;refine wR (gp ⟨a,wd,ea,ec,xs,l,ao2,c2,us,ts⟩ 0) (fg aW hO hP0.parts @Int.natCast_zero) ?_ ?_
    ·have hside:(Ag.ok ⟨a,wd,ea,ec,xs,l,ao2,c2,us,ts⟩) W2 (Out bs2)/\0<us.length:=⟨hqo,oM⟩
     first|exact⟨hside,dE,λ_ h=>h.elim⟩|exact⟨⟨hside,dE,λ_ h=>h.elim⟩,hP0.one⟩
    clear hO;cases hN1:As ts (cF l) 1 with
    | error e=>
     obtain⟨c,j⟩:=e;have hE2:bc a wd ts (cF l)=.error (c,j):=by
      rw[bc,if_neg nw1,if_neg nw2,if_neg nw3,if_neg nw4,if_neg nw5,if_neg nw6,if_neg nw7,if_pos ho];simp only[bM,hN0,hN1]
     rw[hE2,aJ];have hO:=sJ (q:=⟨a,wd,ea,ec,xs,l,ao2,c2,us,ts⟩) hN1;refine Wp.dJ (gp ⟨a,wd,ea,ec,xs,l,ao2,c2,us,ts⟩ 1) aN (ev (bp aW hO @Int.natCast_zero)) ?_ ?_
     ·exact⟨⟨hqo,by show 1<us.length;omega⟩,dE,λ_ h=>h.elim⟩
     refine qq ?_;exact⟨_,rfl⟩
    | ok n1=>
     have hO:=sK (q:=⟨a,wd,ea,ec,xs,l,ao2,c2,us,ts⟩) hN1;refine wr (gp ⟨a,wd,ea,ec,xs,l,ao2,c2,us,ts⟩ 1) (bp aW hO @Int.natCast_zero) ?_ ?_
     ·have hside:(Ag.ok ⟨a,wd,ea,ec,xs,l,ao2,c2,us,ts⟩) W2 (Out bs2)/\1<us.length:=⟨hqo,oM⟩
      first|exact⟨hside,dE,λ_ h=>h.elim⟩|exact⟨⟨hside,dE,λ_ h=>h.elim⟩,rfl⟩
     refine wE ?_;clear hO;have hE2:bc a wd ts (cF l)=.ok (.lens (.mk a wd none n1 .nil n0 .nil)):=by
      rw[bc,if_neg nw1,if_neg nw2,if_neg nw3,if_neg nw4,if_neg nw5,if_neg nw6,if_neg nw7,if_pos ho];simp only[bM,hN0,hN1]
     rw[hE2,da];refine vR Γ0 aW ?_;refine Wp.cX 288 (ev aW) (λE=>by simp only[ai,den];exact rfl) λW3 bs3 b3 hx3 hb3 hn3 hc3=>?_
     refine wZ aW ?_;have hb:bJ (af w S fp) bs3 b3:=⟨u2 b3 hn3,hb3⟩
     exact eJ (λE=>rfl) ⟨_,rfl,sc (n:=none) hb hc3 .nil (hP0.mono hx3.dY) .nil⟩ rfl (by simp only[iV,Op.operands,Value.cells,σ0,σB,Nat.reduceEqDiff,Nat.reduceAdd,Nat.reduceMul,Nat.reduceLT,Nat.reduceLeDiff,Nat.reduceBEq,av,Int.reduceToNat,Int.reduceLT,Int.reduceLE,Nat.reduceDiv,Nat.reduceMod,Nat.reduceSub,Int.reducePow,Nat.reducePow,σP,σB3,aW,aq,eZ,cQ,cr]<;>rfl) dE
  have nw8:¬ wd=v7:=rB hc;refine wK ?_;exfalso;rcases Sc hx3 with (((h|h)|h)|h|h)|((h|h)|h|h)|h
  ·exact nw5 (.inl h)
  ·exact nw5 (.inr h)
  ·exact nw4 h
  ·exact nw1 (.inl h)
  ·exact nw1 (.inr h)
  ·exact nw3 h
  ·exact nw6 h
  ·exact nw7 h
  ·exact nw8 h
  ·exact nw2 h
section
variable (t:Tm)
noncomputable def anr:Env Tryz.prog:=⟨λ| 58=>some (Gt (dT t+1) (Da _)).spec|_=>none,λ_=>none,λ_ _=>none⟩
theorem ah2:(anr t).sp 58=some (Gt (dT t+1) (Da _)).spec:=rfl
end
def aeJ:=(ae @List.replicate_succ.{0} @List.replicate_zero.{0} @au @ab lx ly lA (ae di dj dk dm dB dD dF (ae dG eK eL eM eN eO eP (ae oH oI oJ oK vn vt vu (ae vv vz vA vB vC vD vE (ae jS jT jU jV jW ot ou (ae ov ow ox I3 I4 I5 I6 (ae I7 Rs Rt Ru I8 I9 Ja (ae Jb Jc RE RF iH iI iJ (ae iK ajT ajU qs qt qu qv (ae qw qx qy qz qA oy oz (ae oA oB oC oD oE oF oG (ae mG mH mI mJ mK mL mM (ae mN mO mP mQ mR mS mT (ae mU mV mW mX mY Jh Ji (ae Jj Jk Jl Jm Jo Jp Jq (ae Jr Js Jt Ju Jv Jw Jx (ae Jy Jz JA JB JC JD JE (ae JF JG JH JI JJ JK JL (ae JM JN JO JP JQ JR JS (ae JT DB DC DD DE DF DG (ae DH DI DJ DK DL DM DN (ae DO DP DQ DR DS DT DU (ae DV zh zi zj zk zl zm (ae zp zq zr zt @aV @aw @aD (fg @aF @ah2 @Gu @Gv))))))))))))))))))))))))))
theorem QU(t:Tm)(v:Value)(w:World)(hv:ek w (Out []) v t)(hs:br t<=eS):Calls Tryz.prog 24 #[v] w λe w' => e=.returned (.int .i64 (br t))/\an w [] w' := by
 have hD:rE w v=t:=bW hv;refine ak (nt:=5) [.tmp 2] Tryz.func24 rfl rfl rfl ?_;refine vR Γ0 aeJ ?_;refine wR (anr t) (aa aeJ hD) ?_ ?_
 ·exact⟨t,hv,Nat.lt_succ_self _,hs⟩
 refine wZ aeJ ?_;exact λE=>rfl
noncomputable def nU:a8 Tryz.prog 24 where
 pre:=λW bs as_=>∃ v t,as_=[.val v]/\ek W (Out bs) v t/\br t<=eS
 res:=λW as_=>match as_ with
  |[.val v]=>.int .i64 (br (rE W v))
  |_=>undef
 enters:=Tryz.call24
 ok:=by
  intro W w bs us as_ hk hu hp;obtain⟨v,t,rfl,h1,h2⟩:=hp
  match us,hu with
  |[x],hu=>
   obtain⟨rfl,_⟩:=hu;simp only[bW h1];exact QU t x w (h1.mono λb hb hn=>⟨hk.block b hb hn,by simp[Out]⟩) h2
theorem nV(W:World)(bs:List Nat)(v:Value):nU.pre W bs [.val v]=∃ t,ek W (Out bs) v t/\br t<=eS:=by
 apply propext;constructor
 ·rintro⟨v',t,h1,h2⟩;cases h1;exact⟨t,h2⟩
 ·exact λ⟨t,h2⟩=>⟨v,t,rfl,h2⟩
theorem nW(W:World)(v:Value):nU.res W [.val v]=.int .i64 (br (rE W v)):=rfl
def Er(a:Nat)(op:ByteArray)(ea:Value)(t:Tm):me Tryz.prog 103 where
 kinds:=[none,some (Sh.one,tmF t)]
 pre:=λas_ _ _=>(∃ y,as_=[.val (.agg #[.int .i64 (a:Nat),.string op,ea]),y])/\ea.oneCell' = true/\Xn t
 premono:=λ_ _ _ _ _ _ h=>h
 out:=λ_=>LR (AM a op t)
 enters:=Tryz.call103
 ok:=by
  intro w S us as_ hu hp;obtain⟨⟨y,rfl⟩,h1,h2⟩:=hp
  match us,hu with
  |[p,q],hu=>
   obtain⟨rfl,⟨cs,rfl,hΦ⟩,_⟩:=hu;obtain⟨v,rfl,hv⟩:=hΦ;rw[tN hv.hv];exact XW a op ea t v w S h1 hv h2
theorem Es(a:Nat)(op:ByteArray)(ea:Value)(t:Tm)(l:List AV):(Er a op ea t).out l=LR (AM a op t):=rfl
theorem xN(a:Nat)(op:ByteArray)(ea:Value)(t:Tm):(Er a op ea t).kinds=[none,some (Sh.one,tmF t)]:=rfl
theorem Et(a:Nat)(op:ByteArray)(ea:Value)(t:Tm)(y:AV)(W:World)(S:Nat->Prop):(Er a op ea t).pre [.val (.agg #[.int .i64 (a:Nat),.string op,ea]),y] W S=(ea.oneCell' = true/\Xn t):=by
 apply propext;exact⟨λh=>h.2,λh=>⟨⟨y,rfl⟩,h⟩⟩
def vT(a:Nat)(op:ByteArray)(ea eb:Value)(t u:Tm)(v:Value):me Tryz.prog 104 where
 kinds:=[none,none,some (Sh.one,tmF u)]
 pre:=λas_ W S=>(∃ y,as_=[.val (.agg #[.int .i64 (a:Nat),.string op,ea,eb]),.val v,y])/\(ea.oneCell' = true/\eb.oneCell' = true)/\ek W S v t/\Xn t/\Xn u
 premono:=λ_ _ _ _ _ hs h=>⟨h.1,h.2.1,h.2.2.1.mono hs,h.2.2.2⟩
 out:=λ_=>LR (EV a op t u)
 enters:=Tryz.call104
 ok:=by
  intro w S us as_ hu hp;obtain⟨⟨y,rfl⟩,⟨h1,h2⟩,h3,h4,h5⟩:=hp
  match us,hu with
  |[p,q,r],hu=>
   obtain⟨rfl,rfl,⟨cs,rfl,hΦ⟩,_⟩:=hu;obtain⟨v',rfl,hv'⟩:=hΦ;rw[tN hv'.hv];exact Oi a op ea eb t u q v' w S h1 h2 h3 h4 hv' h5
theorem zJ(a:Nat)(op:ByteArray)(ea eb:Value)(t u:Tm)(v:Value)(l:List AV):(vT a op ea eb t u v).out l=LR (EV a op t u):=rfl
theorem uv(a:Nat)(op:ByteArray)(ea eb:Value)(t u:Tm)(v:Value):(vT a op ea eb t u v).kinds=[none,none,some (Sh.one,tmF u)]:=rfl
theorem zK(a:Nat)(op:ByteArray)(ea eb:Value)(t u:Tm)(v:Value)(y:AV)(W:World)(S:Nat->Prop):(vT a op ea eb t u v).pre [.val (.agg #[.int .i64 (a:Nat),.string op,ea,eb]),.val v,y] W S=((ea.oneCell' = true/\eb.oneCell' = true)/\ek W S v t/\Xn t/\Xn u):=by
 apply propext;exact⟨λh=>h.2,λh=>⟨⟨y,rfl⟩,h⟩⟩
def yH(v:En)(a:Nat)(wd:ByteArray)(l:Ex)(h:Ys v l)(vs:List Value)(ea:Option Addr)(ec:Nat)(xs:List Value):Fy Tryz.prog 105 where
 T:=132
 kinds:=[none]
 pre:=λfs bs_ W S=>(fs=mkF vs v/\bs_=[.val (.agg #[.int .i64 (a:Nat),.string wd,.slice ea xs.length ec])])/\(wg v/\Bf W S vs v)/\(cA (.call a wd l)/\xs.length<=ec)/\jY W S ea xs/\nZ W S false xs l/\bj W S
 premono:=λfs bs_ W S W' S' hs ⟨h1,⟨h2,h3⟩,h4,h5,h6,h7⟩=>⟨h1,⟨h2,fe.mono hs h3⟩,h4,h5.mono hs,h6.mono hs,h7.mono hs⟩
 out:=λ_ _=>H3 vs v (rM v a wd l)
 enters:=Tryz.call105
 ok:=by
  intro w S u ys fp us fs bs_ ho hlt hS hu hp;obtain⟨⟨rfl,rfl⟩,h2,⟨h3,h4⟩,h5,h6,h7⟩:=hp;obtain⟨uh,rfl⟩:=Gf ho
  match us,hu with
  |[x],hu=>
   obtain⟨rfl,_⟩:=hu;have:=VU v a wd l h vs ea ec xs u uh fp w S h2 h3 h5 h4 h6 h7 ho hlt hS;simpa using this
theorem Ck(v:En)(a:Nat)(wd:ByteArray)(l:Ex)(h:Ys v l)(vs:List Value)(ea:Option Addr)(ec:Nat)(xs:List Value)(fs bs_:List AV):(yH v a wd l h vs ea ec xs).out fs bs_=H3 vs v (rM v a wd l):=rfl
theorem Lu(v:En)(a:Nat)(wd:ByteArray)(l:Ex)(h:Ys v l)(vs:List Value)(ea:Option Addr)(ec:Nat)(xs:List Value):(yH v a wd l h vs ea ec xs).T=132:=rfl
theorem wX(v:En)(a:Nat)(wd:ByteArray)(l:Ex)(h:Ys v l)(vs:List Value)(ea:Option Addr)(ec:Nat)(xs:List Value):(yH v a wd l h vs ea ec xs).kinds=[none]:=rfl
theorem Cl(v:En)(a:Nat)(wd:ByteArray)(l:Ex)(h:Ys v l)(vs:List Value)(ea:Option Addr)(ec:Nat)(xs:List Value)(W:World)(S:Nat->Prop):(yH v a wd l h vs ea ec xs).pre [.mp (sd v) vs] [.val (.agg #[.int .i64 (a:Nat),.string wd,.slice ea xs.length ec])] W S=((wg v/\Bf W S vs v)/\(cA (.call a wd l)/\xs.length<=ec)/\jY W S ea xs/\nZ W S false xs l/\bj W S):=by
 apply propext;exact⟨λh=>h.2,λh=>⟨⟨rfl,rfl⟩,h⟩⟩
def Sh.con(v:Value):Sh:=⟨λ_=>.v v,λ_ _=>rfl,λk j hj=>by simp[SV.keys]at hj⟩
def Sh.nO(T:TypeId):Sh:=⟨λk=>.nO T (.part k 0),λ_ _=>rfl,λk j hj=>by simpa [SV.keys] using hj⟩
def aoo:Tm->Sh
 |.text a s=>Sh.con (.iface 190 (.agg #[.int .i64 (a:Nat),.string s]))
 |.rx a r=>Sh.con (.iface 192 (.agg #[.int .i64 (a:Nat),ay r]))
 |.canon _=>Sh.nO 193
 |.lens _=>Sh.nO 197
def tmG(t:Tm):FK:=⟨λcs W S=>match t with
  |.text _ _=>cs=[]
  |.rx _ _=>cs=[]
  |.canon c=>∃ p,cs=[p]/\AO W S p c
  |.lens l=>∃ p,cs=[p]/\zz W S p l,λ{cs W S W' S'} hs h=>by
 cases t with
 |text _ _=>exact h
 |rx _ _=>exact h
 |canon c=>obtain⟨p,h1,h2⟩:=h;exact⟨p,h1,h2.mono hs⟩
 |lens l=>obtain⟨p,h1,h2⟩:=h;exact⟨p,h1,h2.mono hs⟩⟩
def Ae(vs:List Value)(v:En):TE->FOut
 |.ok t=>.fact (aoo t) (tmG t)
 |.error (c,a)=>.pan (bf c a) .nilIface
theorem Cx(vs:List Value)(v:En)(a:Nat)(s:ByteArray):Ae vs v (.ok (.text a s))=.fact (Sh.con (.iface 190 (.agg #[.int .i64 (a:Nat),.string s]))) (tmG (.text a s)):=rfl
theorem LN(vs:List Value)(v:En)(a:Nat)(r:Rx):Ae vs v (.ok (.rx a r))=.fact (Sh.con (.iface 192 (.agg #[.int .i64 (a:Nat),ay r]))) (tmG (.rx a r)):=rfl
theorem Af(vs:List Value)(v:En)(c:Cn):Ae vs v (.ok (.canon c))=.fact (Sh.nO 193) (tmG (.canon c)):=rfl
theorem Cw(vs:List Value)(v:En)(l:Ln):Ae vs v (.ok (.lens l))=.fact (Sh.nO 197) (tmG (.lens l)):=rfl
theorem Ah(vs:List Value)(v:En)(c a:Int):Ae vs v (.error (c,a))=.pan (bf c a) .nilIface:=rfl
theorem MD(v:Value)(k:Nat):(Sh.con v).tm k=.v v:=rfl
theorem ME(T:TypeId)(k:Nat):(Sh.nO T).tm k=.nO T (.part k 0):=rfl
theorem AO.hv{W:World}{S:Nat->Prop}{v:Value}{c:Cn}(h:AO W S v c):LE.hv v=v:=fQ h.one
theorem zz.hv{W:World}{S:Nat->Prop}{v:Value}{c:Ln}(h:zz W S v c):LE.hv v=v:=fQ h.one
theorem afk{w:World}{S:Nat->Prop}{u:Value}{us:List Value}{fp:List Nat}{T:TypeId}{fs:List AV}{e:Ending}{w' : World}{vs:List Value}{v:En}{r:TE}(h:BU w S u us fp T fs e w' (H3 vs v r)):BU w S u us fp T fs e w' (Ae vs v r):=by
 cases r with
 |error e=>exact h
 | ok t=>
  obtain⟨cs,h1,h2,h5,h6⟩:=h;obtain⟨x,rfl,hx⟩:=h5;rw[tN hx.hv]at h1;cases t with
  |text a s=>exact⟨[],by rw[h1,show x=_ from hx];rfl,h2,rfl,h6⟩
  |rx a s=>exact⟨[],by rw[h1,show x=_ from hx];rfl,h2,rfl,h6⟩
  |canon c=>
   obtain⟨p,rfl,hp⟩:=hx;refine⟨[p],?_,h2,⟨p,rfl,hp⟩,h6⟩;rw[h1];show _=Ending.returned (.iface 193 (LE.hv p));rw[hp.hv]
  |lens c=>
   obtain⟨p,rfl,hp⟩:=hx;refine⟨[p],?_,h2,⟨p,rfl,hp⟩,h6⟩;rw[h1];show _=Ending.returned (.iface 197 (LE.hv p));rw[hp.hv]
def VY(v:En)(x:Ex)(h:xX v x)(vs:List Value):Fy Tryz.prog 65 where
 T:=132
 kinds:=[none]
 pre:=λfs bs_ W S=>(u7 v x h vs).pre fs bs_ W S
 premono:=λfs bs_ W S W' S' hs=>(u7 v x h vs).premono fs bs_ W S W' S' hs
 out:=λ_ _=>Ae vs v (aE v x)
 enters:=Tryz.call65
 ok:=λw S u ys fp us fs bs_ ho hlt hS hu hp=>((u7 v x h vs).ok w S u ys fp us fs bs_ ho hlt hS hu hp).mono λe w' h=>afk h
theorem Lx(v:En)(x:Ex)(h:xX v x)(vs:List Value)(fs bs_:List AV):(VY v x h vs).out fs bs_=Ae vs v (aE v x):=rfl
theorem aaA(v:En)(x:Ex)(h:xX v x)(vs:List Value):(VY v x h vs).T=132:=rfl
theorem Cp(v:En)(x:Ex)(h:xX v x)(vs:List Value):(VY v x h vs).kinds=[none]:=rfl
theorem Ly(v:En)(x:Ex)(h:xX v x)(vs:List Value)(e:Value)(W:World)(S:Nat->Prop):(VY v x h vs).pre [.mp (sd v) vs] [.val e] W S=(AP W S e x/\(wg v/\Bf W S vs v)/\cA x/\bj W S):=sL v x h vs e W S
theorem Dh(s:ByteArray):∀ k,bO (nX s k)=max 1 (2*k-1)
 |0=>rfl
 |1=>rfl
 |k+2=>by
  have ih:=Dh s (k+1);show bO (nX s (k+1))+1+1=_;omega
theorem vN{t:Tm}{n:Rx}(h:ud t=some n):bO n<=br t:=by
 cases t with
 |text a s=>
  cases h;have:=Dh s s.size;show bO (nX s s.size)<=mE s;unfold mE;omega
 |rx a r=>
  cases h;exact Nat.le_refl _
 |canon c=>cases h
 |lens l=>cases h
theorem ahd{a:Nat}{op:ByteArray}{t u:Tm}(hs:br t<=8192)(h:AM a op t=.ok u):br u<=eS:=by
 have c1:dM .nil=0:=rfl;have l1:gn .nil=0:=rfl;have e1:¬ gJ=jJ:=by decide
 have e2:¬ gJ=mm:=by decide
 have e3:¬ yh=mm:=by decide
 have e4:¬ ya=mm:=by decide
 have e5:¬ jD=mm:=by decide
 unfold AM at h;split at h
 ·rename_i n hn;cases h;have:=vN hn;simp only[br]
  repeat' split
  all_goals simp only[bO,eS]
  all_goals omega
 split at h
 ·split at h
  ·cases h;rename_i c _ _;have:dM c<=8192:=hs;simp only[br,dM,eg,if_neg e1,eS];omega
  ·cases h
 ·cases h;rename_i l _;have:gn l<=8192:=hs;simp only[br]
  repeat' split
  all_goals simp only[gn,dM,eg,if_neg e2,if_neg e3,if_neg e4,if_neg e5,bO,eS]
  all_goals omega
 ·cases h
theorem alj(n:Nat):¬ Wd n=jJ/\¬ Wd n=mm:=by
 unfold Wd;split<;>decide
theorem Ks{a:Nat}{op:ByteArray}{t u r:Tm}(hs:br t<=8192)(hs' : br u<=8192)(h:oW a op t u=.ok r):br r<=eS:=by
 obtain⟨o1,o2⟩:=alj (H0 op);unfold oW at h;split at h
 ·split at h
  ·cases h;rename_i p q _;have h1:gn p<=8192:=hs;have h2:gn q<=8192:=hs';simp only[br,gn,dM,eg,if_neg o2,eS];omega
  ·cases h
 ·split at h
  ·cases h;rename_i p q _;have h1:dM p<=8192:=hs;have h2:dM q<=8192:=hs';simp only[br,dM,eg,if_neg o1,eS];omega
  ·cases h
 ·cases h
theorem aeP{a:Nat}{op:ByteArray}{t u r:Tm}(hs:br t<=8192)(hs' : br u<=8192)(h:EV a op t u=.ok r):br r<=eS:=by
 unfold EV at h;split at h
 ·rename_i x y hx hy;have h1:=vN hx;have h2:=vN hy;split at h
  ·rename_i q hq;cases h;unfold Tf at hq
   repeat' split at hq
   all_goals first|(cases hq;done)|(cases hq;simp only[br,bO,eS];omega)
  ·exact Ks hs hs' h
 ·exact Ks hs hs' h
theorem Z8{a:Nat}{t u:Tm}(hs:br t<=8192)(h:yw a t=.ok u):br u<=eS:=by
 have e1:¬ iW=mm:=by decide
 cases t with
 |lens l=>
  cases h;have:gn l<=8192:=hs;simp only[br,gn,dM,eg,if_neg e1,eS];omega
 |_=>cases h
theorem UD{a:Nat}{w:ByteArray}{ts:List Tm}{ps:List Nat}{u:Tm}(hts:∀ t∈ts,Ym t)(h:bc a w ts ps=.ok u):br u<=eS:=by
 have nd:∀ {i n},EN ts ps i=.ok n->bO n<=8192:=λ{i n} h=>by
  unfold EN at h;split at h
  ·rename_i r hr;cases h;cases hi:ts[i]? with
   |none=>rw[hi]at hr;cases hr
   |some t=>
    rw[hi]at hr;have h1:=vN hr;have h2:=(hts t (List.mem_of_getElem? hi)).2;omega
  ·cases h
 have tx:∀ {i s},As ts ps i=.ok s->mE s<=8192:=λ{i s} h=>by
  unfold As at h;split at h
  ·rename_i hi;cases h;exact (hts _ (List.mem_of_getElem? hi)).2
  ·cases h
 have cn:∀ {i c},E4 ts ps i=.ok c->dM c<=8192:=λ{i c} h=>by
  unfold E4 at h;split at h
  ·rename_i hi;cases h;exact (hts _ (List.mem_of_getElem? hi)).2
  ·cases h
 have ln:∀ {i l},Ce ts ps i=.ok l->gn l<=8192:=λ{i l} h=>by
  unfold Ce at h;split at h
  ·rename_i hi;cases h;exact (hts _ (List.mem_of_getElem? hi)).2
  ·cases h
 have z:mE ⟨#[]⟩=1:=rfl;unfold bc at h
 repeat' split at h
 all_goals repeat (obtain⟨_,h9,h⟩:=cG h;first|have:=nd h9|have:=tx h9|have:=cn h9|have:=ln h9)
 all_goals
  cases h;simp only[br,dM,gn,eg,eS]
  repeat' split
  all_goals omega
theorem om{P:Program}(T t:TypeId)(x:SV)(ok:Bool):eC P T ok [.nO t x]=aK T t x ok (isIface P T) (rF P T):=by
 simp only[eC];unfold aK;rcases isIface P T with _|b
 ·rfl
 ·cases b<;>rcases rF P T with _|z<;>first|rfl|(cases ok<;>rfl)
theorem yE(v:En)(a:Nat)(w:ByteArray)(l:Ex):aE v (.call a w l)=bM (rM v a w l) (gT a):=by
 simp only[aE,rM];cases cx v l<;>rfl
theorem pN{W:World}{S:Nat->Prop}{v:Value}{t:Tm}(h:ek W S v t):partsOf (.v v)=[.v v]:=by
 obtain⟨k,u,rfl⟩:=h.iface;rfl
theorem BK{W:World}{S:Nat->Prop}{s:ByteArray}{t:Tm}:∀ {v:En} {vs:List Value},Bf W S vs v->Lm v s=some t->∃ u,Cc (sd v) (vs.map SV.v) s=some (.v u)/\ek W S u t
 |[],vs,h,hl=>by cases hl
 |(k,t')::r,[],h,hl=>h.elim
 | (k,t')::r,u::us,⟨h1,h2⟩,hl=>by
  rw[Lm]at hl;simp only[sd,List.map_cons,Cc];split at hl
  ·rename_i hk;cases hl;rw[if_pos hk];exact⟨u,rfl,h1⟩
  ·rename_i hk;rw[if_neg hk];exact BK (v:=r) h2 hl
theorem BJ{W:World}{S:Nat->Prop}{s:ByteArray}:∀ {v:En} {vs:List Value},Bf W S vs v->Lm v s=none->Cc (sd v) (vs.map SV.v) s=none
 |[],vs,h,hl=>by
  cases vs<;>rfl
 |(k,t')::r,[],h,hl=>h.elim
 | (k,t')::r,u::us,⟨h1,h2⟩,hl=>by
  rw[Lm]at hl;simp only[sd,List.map_cons,Cc];split at hl
  ·cases hl
  ·rename_i hk;rw[if_neg hk];exact BJ (v:=r) h2 hl
theorem aaz:HS Tryz.prog (Program.underlying Tryz.prog 130)=some 54:=kR
theorem ac5:rF Tryz.prog 54=some .nilIface:=kR
section
variable (G:Nat->Prop)(v:En)(x y:Ex)(h:xX v x)(h' : xX v y)(vs:List Value)(a:Nat)(op:ByteArray)(ea eb:Value)(t u:Tm)(l:Ex)(hl:Ys v l)(eo:Option Addr)(ec:Nat)(xs:List Value)(va:Value)
noncomputable def aec:Env Tryz.prog:=⟨λ| 65=>some ((u7 v x h vs).spec G)|103=>some ((Er a op ea t).spec G)|_=>none,λ_=>none,λ_ _=>none⟩
theorem TW:(aec G v x h vs a op ea t).sp 65=some ((u7 v x h vs).spec G):=rfl
theorem NR:(aec G v x h vs a op ea t).sp 103=some ((Er a op ea t).spec G):=rfl
noncomputable def R4:Env Tryz.prog:=⟨λ| 65=>some ((u7 v x h vs).spec G)|104=>some ((vT a op ea eb t u va).spec G)|_=>none,λ_=>none,λ_ _=>none⟩
theorem TY:(R4 G v x h vs a op ea eb t u va).sp 65=some ((u7 v x h vs).spec G):=rfl
theorem NS:(R4 G v x h vs a op ea eb t u va).sp 104=some ((vT a op ea eb t u va).spec G):=rfl
noncomputable def Fw:Env Tryz.prog:=⟨λ| 65=>some ((VY v x h vs).spec G)|64=>some (ie.spec G)|_=>none,λ_=>none,λ_ _=>none⟩
theorem T0:(Fw G v x h vs).sp 65=some ((VY v x h vs).spec G):=rfl
theorem TZ:(Fw G v x h vs).sp 64=some (ie.spec G):=rfl
noncomputable def al4:Env Tryz.prog:=⟨λ| 105=>some ((yH v a op l hl vs eo ec xs).spec G)|_=>none,λ_=>none,λ_ _=>none⟩
theorem NU:(al4 G v vs a op l hl eo ec xs).sp 105=some ((yH v a op l hl vs eo ec xs).spec G):=rfl
noncomputable def rh:Env Tryz.prog:=⟨λ| 24=>some nU.spec|64=>some (ie.spec G)|71=>some H6.spec|f=>spP f,λ| 39=>some uf|_=>none,mtP⟩
theorem T3:(rh G).sp 24=some nU.spec:=rfl
theorem T4:(rh G).sp 64=some (ie.spec G):=rfl
theorem T5:(rh G).sp 71=some H6.spec:=rfl
theorem G2:(rh G).eqs 39=some uf:=rfl
theorem xV{W:World}{bs:List Nat}{κ:Nat}{hh:Hp}{W0:World}{S0:Nat->Prop}{v:Value}{x:Ex}(h:AP W0 S0 v x):aI (rh G) W bs κ hh "Place" [.v v]=⟨True,.v (.int .i64 (U1 x:Nat)),[],none,[],[]⟩:=
 B0 rfl (λf s hf=>by
  unfold spP at hf
  split at hf<;>cases hf<;>rfl) h
end
def dV:=(ae aeJ @om @p6 @kP @lW @lV @gE (ae @e9 @aV @aw @aD @aF @wL @tB (ae @nN @wD @tD @p5 @tC @cP @TW (ae @NR @TY @NS @T0 @TZ @NU @T3 (ae @T4 @T5 @G2 @uL @sL @xx @IZ (ae @qn @Ly @Lx @aaA @Cp @Cl @Ck (ae @Lu @wX @Et @Es @xN @zK @zJ (ae @uv @da @aJ @Cx @LN @Af @Cw (ae @Ah @S2 @CB @MD @ME @mkF.eq_1 @cr (ae @w9 @tt @eZ @A5 @cf @aM @kD (ae @ie.eq_1 @nV @nW @CE @CD @qi @lY (ae @aaz @Cj @Ci @HN @wU @HO @Pq (fg @ac5 @e8 @dw @cT)))))))))))))
theorem afW(v:En)(a:Nat)(s:ByteArray):xX v (.name a s):=by
 intro vs e u uh fp w S hEn hEx hEs ho hlt hS;have u0:=af.up w S fp;have hse:=af.e7 w S fp hS;obtain⟨hE0,hN0⟩:=hEn;obtain⟨hx0,hv0⟩:=hEx;have hEs1:=hEs.mono hse;have hv1:=hv0.mono hse;have hN1:=fe.mono hse hN0;simp only[cA]at hx0
 refine fD (nt:=133) S #[e] [.tmp 4] (by show 1<=7;omega) ho hlt Tryz.func65 rfl rfl rfl ?_;cases hv1 with
 |name _ _=>
 refine vR Γ0 dV ?_;refine vR Γ0 dV ?_;refine Wp.seq ?_;refine vR Γ0 dV ?_;refine Wp.block ?_;refine vR Γ0 dV ?_;refine wC dV (λhc=>?_) (λhc=>?_)
 rotate_left
 ·cases hc
 refine vR Γ0 dV ?_;cases hL:Lm v s with
 |none=>
  have hF:=BJ hN1 hL;have hE:aE v (.name a s)=.error (70,(a:Nat)):=by simp only[aE,hL]
  rw[hE,aJ];refine zv Γ0 (aa dV hF) ?_;refine Wp.seq ?_;refine vR Γ0 dV ?_;refine wC dV (λhc=>?_) (λhc=>?_)
  rotate_left
  ·cases hc
  refine Wp.dJ (rh (af w S fp)) aN (ev dV) ?_ ?_
  ·first|trivial|exact⟨_,_,rfl⟩
  refine qq ?_;exact⟨_,rfl⟩
 |some t=>
  obtain⟨z,hF,hz⟩:=BK hN1 hL;have hE:aE v (.name a s)=.ok t:=by simp only[aE,hL]
  rw[hE,da];refine zv Γ0 (bp dV hF (pN (t:=t) hz)) ?_;refine Wp.seq ?_;refine vR Γ0 dV ?_;refine wC dV (λhc=>?_) (λhc=>?_)
  ·cases hc
  refine wK ?_;refine vR Γ0 dV ?_;refine wZ dV ?_
  exact eJ (λE=>rfl) hz rfl (by simp only[iV,Op.operands,Value.cells,σ0,σB,Nat.reduceEqDiff,Nat.reduceAdd,Nat.reduceMul,Nat.reduceLT,Nat.reduceLeDiff,Nat.reduceBEq,av,Int.reduceToNat,Int.reduceLT,Int.reduceLE,Nat.reduceDiv,Nat.reduceMod,Nat.reduceSub,Int.reducePow,Nat.reducePow,σP,σB3,dV,aq,eZ,cQ,cr]<;>rfl) dE
theorem afX(v:En)(a:Nat)(s:ByteArray):xX v (.text a s):=by
 intro vs e u uh fp w S hEn hEx hEs ho hlt hS;have u0:=af.up w S fp;have hse:=af.e7 w S fp hS;obtain⟨hE0,hN0⟩:=hEn;obtain⟨hx0,hv0⟩:=hEx;have hEs1:=hEs.mono hse;have hv1:=hv0.mono hse;have hN1:=fe.mono hse hN0;simp only[cA]at hx0
 refine fD (nt:=133) S #[e] [.tmp 4] (by show 1<=7;omega) ho hlt Tryz.func65 rfl rfl rfl ?_;cases hv1 with
 |text _ _=>
 refine vR Γ0 dV ?_;refine vR Γ0 dV ?_;refine Wp.seq ?_;refine vR Γ0 dV ?_;refine Wp.block ?_;refine vR Γ0 dV ?_;refine wC dV (λhc=>?_) (λhc=>?_)
 ·cases hc
 refine vR Γ0 dV ?_;refine wC dV (λhc=>?_) (λhc=>?_)
 rotate_left
 ·cases hc
 refine vR Γ0 dV ?_;have hE:aE v (.text a s)=.ok (.text a s):=by simp only[aE]
 rw[hE,da];refine vR Γ0 dV ?_;refine wZ dV ?_
 exact eJ (v:=.iface 190 (.agg #[.int .i64 (a:Nat),.string s])) (λE=>rfl) rfl rfl (by simp only[iV,Op.operands,Value.cells,σ0,σB,Nat.reduceEqDiff,Nat.reduceAdd,Nat.reduceMul,Nat.reduceLT,Nat.reduceLeDiff,Nat.reduceBEq,av,Int.reduceToNat,Int.reduceLT,Int.reduceLE,Nat.reduceDiv,Nat.reduceMod,Nat.reduceSub,Int.reducePow,Nat.reducePow,σP,σB3,dV,aq,eZ,cQ,cr]<;>rfl) dE
theorem amX(v:En)(a:Nat)(s:ByteArray):xX v (.rx a s):=by
 intro vs e u uh fp w S hEn hEx hEs ho hlt hS;have u0:=af.up w S fp;have hse:=af.e7 w S fp hS;obtain⟨hE0,hN0⟩:=hEn;obtain⟨hx0,hv0⟩:=hEx;have hEs1:=hEs.mono hse;have hv1:=hv0.mono hse;have hN1:=fe.mono hse hN0;simp only[cA]at hx0
 refine fD (nt:=133) S #[e] [.tmp 4] (by show 1<=7;omega) ho hlt Tryz.func65 rfl rfl rfl ?_;cases hv1 with
 |rx _ _=>
 refine vR Γ0 dV ?_;refine vR Γ0 dV ?_;refine Wp.seq ?_;refine vR Γ0 dV ?_;refine Wp.block ?_;refine vR Γ0 dV ?_;refine wC dV (λhc=>?_) (λhc=>?_)
 ·cases hc
 refine vR Γ0 dV ?_;refine wC dV (λhc=>?_) (λhc=>?_)
 ·cases hc
 refine vR Γ0 dV ?_;refine wC dV (λhc=>?_) (λhc=>?_)
 rotate_left
 ·cases hc
 refine vR Γ0 dV ?_;have hs:s.size<=140737488351232:=oM;have hg:bj w (Out fp):=hEs1.mono λb _ hb=>⟨rfl,hb.2⟩
 have w1:IntKind.i64.wrap ((a:Nat)+1:Int)=((a:Nat):Int)+1:=ax oM oM;cases hp:pA s with
 | error q=>
  obtain⟨c,j⟩:=q;have hE:aE v (.rx a s)=.error (c,IntKind.i64.wrap ((a:Nat)+1+j)):=by simp only[aE,hp]
  have hne:c≠0:=by
   cases hd:OO s with
   |error e=>
    obtain⟨c',p'⟩:=e;have:=pB s;rw[hp,hd,yF (e:=.error (c',p')) rfl]at this;cases this;exact FN hd
   |ok t=>
    have:=pB s;rw[hp,hd]at this;cases this
  rw[hE,aJ];refine wR (rh (af w S fp)) (nu dV hp @uW.eq_1 @uW.eq_2 @pR.eq_1) ?_ ?_
  ·exact⟨hs,hg⟩
  refine Wp.seq ?_;refine vR (rh (af w S fp)) (aa dV hne) ?_;refine wC dV (λhc=>?_) (λhc=>?_)
  rotate_left
  ·exact absurd hc sI
  refine Wp.dJ (rh (af w S fp)) aN (ev (aa dV w1)) ?_ ?_
  ·first|trivial|exact⟨_,_,rfl⟩
  refine qq ?_;exact⟨_,rfl⟩
 |ok r=>
  have hE:aE v (.rx a s)=.ok (.rx a r):=by simp only[aE,hp]
  rw[hE,da];refine wR (rh (af w S fp)) (nu dV hp @uW.eq_1 @uW.eq_2 @pR.eq_1) ?_ ?_
  ·exact⟨hs,hg⟩
  refine Wp.seq ?_;refine vR (rh (af w S fp)) dV ?_;refine wC dV (λhc=>?_) (λhc=>?_)
  ·exact absurd hc sI
  refine wK ?_;refine vR Γ0 dV ?_;refine wZ dV ?_
  exact eJ (v:=.iface 192 (.agg #[.int .i64 (a:Nat),ay r])) (λE=>rfl) rfl rfl (by simp only[iV,Op.operands,Value.cells,σ0,σB,Nat.reduceEqDiff,Nat.reduceAdd,Nat.reduceMul,Nat.reduceLT,Nat.reduceLeDiff,Nat.reduceBEq,av,Int.reduceToNat,Int.reduceLT,Int.reduceLE,Nat.reduceDiv,Nat.reduceMod,Nat.reduceSub,Int.reducePow,Nat.reducePow,σP,σB3,dV,aq,eZ,cQ,cr]<;>rfl) dE
theorem Wp.aku{P:Program}{W:World}{bs:List Nat}{nt:Nat}{ds:Aux}{c:Code}{Q:mf}{σ:St}(t:Nat){x:SV}{v:Value}(hx:σ.φ t=.is x)(hc:cN x=some v)(h:Wp P W bs nt ds c Q ⟨σ.n,bu σ.φ t (.is (.v v)),σ.h⟩):Wp P W bs nt ds c Q σ:=
 λa w hs=>h a w (Le.const t hx hc (λ_ _ h=>h) a w hs)
end
end Go.Proofs.YtnemkecffmdlnaaGreatDoor
namespace Go.LE
section
open Go.RowKit
structure RX where
 side:Prop
 pan:Option (List PanicEntry)
 lost:List Nat
 fx:List (List Nat×List Nat)
section
variable {P:Program}{W:World}{bs:List Nat}{nt:Nat}{ds:Aux}{ops:Array Oper}(Γ:Env P)
def Mi(s:S)(g:RX):RX:=⟨s.side/\g.side,g.pan,s.uk++s.pupd++g.lost,(s.uk,s.reads)::g.fx⟩
def AG(Γ:Env P)(W:World)(bs:List Nat)(nt:Nat)(ops:Array Oper):List Oper->Nat->Fr->Hp->RX
 |[],_,_,_=>⟨True,none,[],[]⟩
 |o::r,κ,φ,h=>match (step Γ W bs nt ops κ φ h o).pan with
  |some c=>⟨(step Γ W bs nt ops κ φ h o).side,some c,(step Γ W bs nt ops κ φ h o).uk++(step Γ W bs nt ops κ φ h o).pupd,[((step Γ W bs nt ops κ φ h o).uk,(step Γ W bs nt ops κ φ h o).reads)]⟩
  |none=>Mi (step Γ W bs nt ops κ φ h o) (AG Γ W bs nt ops r (κ+1) (pD φ o.dst (step Γ W bs nt ops κ φ h o).fv) (ba h (step Γ W bs nt ops κ φ h o).bu))
theorem S9{c:List PanicEntry}:∀ (l:List Oper) (κ:Nat) (φ:Fr) (h:Hp),(AG Γ W bs nt ops l κ φ h).pan=some c->(AG Γ W bs nt ops l κ φ h).side ->
  ∃ (i:Nat) (p:Oper×S),(tr Γ W bs nt ops l κ φ h)[i]?=some p/\p.2.pan=some c/\(∀ (j:Nat) (q:Oper×S),j<=i->(tr Γ W bs nt ops l κ φ h)[j]?=some q->q.2.side)/\(∀ (j:Nat) (q:Oper×S),j<i->(tr Γ W bs nt ops l κ φ h)[j]?=some q->q.2.pan=none) /\
   (∀ (j:Nat) (q:Oper×S),j<=i->(tr Γ W bs nt ops l κ φ h)[j]?=some q->∀ k∈q.2.uk++q.2.pupd,k∈(AG Γ W bs nt ops l κ φ h).lost) /\
   (AG Γ W bs nt ops l κ φ h).fx.length=i+1/\∀ (j:Nat) (q:Oper×S),j<=i->(tr Γ W bs nt ops l κ φ h)[j]?=some q->(AG Γ W bs nt ops l κ φ h).fx[j]?=some (q.2.uk,q.2.reads)
 |[],_,_,_,hp,_=>by cases hp
 | o::r,κ,φ,h,hp,hs=>by
  have ih:=S9 (c:=c) r (κ+1) (pD φ o.dst (step Γ W bs nt ops κ φ h o).fv) (ba h (step Γ W bs nt ops κ φ h o).bu);unfold AG at hp hs ⊢;simp only[tr];cases hpn:(step Γ W bs nt ops κ φ h o).pan with
  | some c' =>
   rw[hpn]at hp hs;simp only[Option.some.injEq]at hp hs;subst hp;refine⟨0,_,rfl,hpn,λj q hj hq=>?_,λj q hj hq=>by omega,λj q hj hq k hk=>?_,rfl,λj q hj hq=>?_⟩
   ·obtain rfl:j=0:=oM;simp at hq;subst hq;exact hs
   ·obtain rfl:j=0:=oM;simp at hq;subst hq;exact hk
   ·obtain rfl:j=0:=oM;simp at hq;subst hq;rfl
  | none=>
   rw[hpn]at hp hs;simp only[Mi]at hp hs ⊢;obtain⟨i,p,h1,h2,h3,h4,h5,h6,h7⟩:=ih hp hs.2;refine⟨i+1,p,by simpa using h1,h2,λj q hj hq=>?_,λj q hj hq=>?_,λj q hj hq k hk=>?_,by rw[List.length_cons,h6],λj q hj hq=>?_⟩
   ·cases j with
    |zero=>simp at hq;subst hq;exact hs.1
    |succ j=>exact h3 j q oM (by simpa using hq)
   ·cases j with
    |zero=>simp at hq;subst hq;exact hpn
    |succ j=>exact h4 j q oM (by simpa using hq)
   ·cases j with
    |zero=>simp at hq;subst hq;exact List.mem_append_left _ hk
    |succ j=>exact List.mem_append_right _ (h5 j q oM (by simpa using hq) k hk)
   ·cases j with
    |zero=>simp at hq;subst hq;rfl
    |succ j=>exact h7 j q oM (by simpa using hq)
def akm(ops:Array Oper)(n:Nat):Bool:=(List.range ops.size).all λj=>decide (j<n)||Y6 ops (n-1) j
theorem Mb{id:Nat}{σ:St}{Q:Exit->Act->World->Prop}{a:Act}{w:World}(hm:P.follows .mixedOrders=true)(hsat:Sat W bs nt ds σ a w){side:Prop}{c:List PanicEntry}{lost:List Nat}{fx:List (List Nat×List Nat)}
  (hg:AG Γ W bs nt ops ops.toList σ.n σ.φ σ.h=⟨side,some c,lost,fx⟩) (hd:(lu ops&&lJ ops fx&&akm ops fx.length)=true) (hside:side)
  (hP:∀ a' w',Sat W bs nt ds ⟨σ.n,uc ops σ.φ,dropKeys σ.h lost⟩ a' w' -> Q (.panic c) a' w'):(Code.region id ops true).wp P Q a w:=by
 obtain⟨i0,p0,t1,t2,t3,t4,t5,t6,t7⟩:=S9 Γ (c:=c) ops.toList σ.n σ.φ σ.h (by rw[hg]) (by rw[hg];exact hside);rw[hg]at t5 t6 t7;simp only at t5 t6 t7;rw[Bool.and_eq_true,Bool.and_eq_true,t6]at hd;obtain⟨⟨h1,h2⟩,h3⟩:=hd
 have lt:∀ {α:Type} {l:Array α} {i:Nat} {x:α},l[i]?=some x->i<l.size:=λhx=>(Array.getElem?_eq_some_iff.1 hx).1
 have hedge:∀ j o,ops[j]?=some o->∀ e∈o.after,Region.binds .any e=true->e.on<j:=by
  unfold lu at h1;rw[List.all_eq_true]at h1;intro j o ho e he hb;have:=h1 j (List.mem_range.2 (lt ho));rw[ho]at this;simp only[Bool.and_eq_true]at this;have:=Array.all_eq_true.1 this.1;obtain⟨i,hi,hie⟩:=Array.mem_iff_getElem.1 he;have:=this i hi;rw[hie,hb]at this;simpa using this
 have hslot:∀ i j oi oj t,i≠j->ops[i]?=some oi->ops[j]?=some oj->oj.dst=some t->t∈oi.looksAt ops\/oi.dst=some t->Cmp ops i j:=by
  unfold lu at h1;rw[List.all_eq_true]at h1;intro i j oi oj t hij hi hj hd hc;have:=h1 j (List.mem_range.2 (lt hj));rw[hj]at this;simp only[Bool.and_eq_true,hd,List.all_eq_true]at this;have:=this.2 i (List.mem_range.2 (lt hi));rw[hi]at this;have hij' : (i == j)=false:=by simpa using hij
  simp only[hij',Bool.false_or]at this;have hc' : ((oi.looksAt ops).contains t||oi.dst == some t)=true:=by
   rcases hc with hc|hc
   ·simp[hc]
   ·simp[hc]
  rw[hc']at this;exact oZ (by simpa using this)
 have hheap:∀ i j oi oj si sj k,i<=i0->j<=i0->i≠j->(tr Γ W bs nt ops ops.toList σ.n σ.φ σ.h)[i]?=some (oi,si)->(tr Γ W bs nt ops ops.toList σ.n σ.φ σ.h)[j]?=some (oj,sj)->k∈cq sj.bu->k∈si.reads\/k∈cq si.bu->Cmp ops i j:=by
  unfold lJ at h2;rw[List.all_eq_true]at h2;intro i j oi oj si sj k hi0 hj0 hij hi hj hk hc;have huk:∀ (i:Nat) (o:Oper) (s:S),(tr Γ W bs nt ops ops.toList σ.n σ.φ σ.h)[i]?=some (o,s)->∀ k∈cq s.bu,k∈s.uk:=λi o s hT k hk=>by
   have:=(kQ Γ ops.toList σ.n 0 σ.φ σ.h i o s hT).2;rw[this]at hk ⊢;exact IW Γ hk
  have fi:=t7 i _ hi0 hi;have fj:=t7 j _ hj0 hj;have:=h2 j (List.mem_range.2 oM);simp only[fj,Bool.or_eq_true,List.all_eq_true]at this;rcases this with this|this
  ·have hk' := huk j oj sj hj k hk;rw[List.isEmpty_iff]at this;rw[this]at hk';cases hk'
  ·have:=this i (List.mem_range.2 oM);simp only[fi]at this;have hij' : (i == j)=false:=by simpa using hij
   rw[hij']at this;simp only[Bool.false_eq_true,false_or,Bool.or_eq_true,List.all_eq_true]at this;rcases this with this|this
   ·have:=this k (huk j oj sj hj k hk);rcases hc with hc|hc
    ·simp[hc]at this
    ·simp[huk i oi si hi k hc]at this
   ·exact oZ this
 have hbeh:∀ j,i0<j->j<ops.size->Reach ops i0 j:=λj hj hlt=>by
  unfold akm at h3;rw[List.all_eq_true]at h3;have:=h3 j (List.mem_range.2 hlt);simp only[Bool.or_eq_true,decide_eq_true_eq,Nat.add_sub_cancel]at this;rcases this with this|this
  ·omega
  ·exact (oZ this).1 hj
 have gd:∀ (l:Array Bool) i,i<l.size->l.getD i true=l.getD i false:=λl i hi=>by simp[Array.getD_eq_getD_getElem?,Array.getElem?_eq_getElem hi]
 have hi0:i0<ops.size:=by
  have:=(List.getElem?_eq_some_iff.1 t1).1
  rwa [qp,Array.length_toList]at this
 have noti:∀ (listed:Array Bool),(∀ j o s,listed.getD j false=true->(tr Γ W bs nt ops ops.toList σ.n σ.φ σ.h)[j]?=some (o,s)->s.pan=none)->listed.getD i0 false=false:=λlisted hpr=>by
  cases hl:listed.getD i0 false with
  |false=>rfl
  |true=>
   have:=hpr i0 p0.1 p0.2 hl t1;rw[t2]at this;cases this
 have done:∀ (listed:Array Bool),listed.size=ops.size->Region.ready .any ops listed=[] ->
   (∀ j o s,listed.getD j false=true->(tr Γ W bs nt ops ops.toList σ.n σ.φ σ.h)[j]?=some (o,s)->s.pan=none)->False:=by
  intro listed hsz hr hpr;have all:∀ i,i<ops.size->listed.getD i false=true:=by
   intro i
   induction i using Nat.strongRecOn with
   | _ i ih=>
    intro hi;cases hl:listed.getD i false with
    |true=>rfl
    | false=>
     exfalso;have:i∈Region.ready .any ops listed:=by
      refine List.mem_filter.2 ⟨List.mem_range.2 hi,?_⟩;rw[gd _ _ oM,hl];simp only[Bool.not_false,Bool.true_and,Array.getElem?_eq_getElem hi,Option.map_some,Option.getD_some];rw[Array.all_eq_true];intro j hj;cases hb:Region.binds .any (ops[i].after[j]) with
      |false=>rfl
      |true=>
       have hlt:=hedge i ops[i] (Array.getElem?_eq_getElem hi) (ops[i].after[j]) (Array.getElem_mem hj) hb;simpa using ih _ hlt oM
     rw[hr]at this;cases this
  have:=noti listed hpr;rw[all i0 hi0]at this;cases this
 have key:∀ (fuel:Nat) (listed:Array Bool) (a:Act) (w:World),listed.size=ops.size->listed.toList.count false<=fuel ->
   (∀ j o,ops[j]?=some o->listed.getD j false=true->∀ e∈o.after,Region.binds .any e=true->listed.getD e.on false=true) ->
   (∀ j o s,listed.getD j false=true->(tr Γ W bs nt ops ops.toList σ.n σ.φ σ.h)[j]?=some (o,s)->s.pan=none) ->
   Inv W bs nt ds (tr Γ W bs nt ops ops.toList σ.n σ.φ σ.h) σ (λj=>listed.getD j false) a w->wpAny P .any ops Q fuel listed a w:=by
  intro fuel
  induction fuel with
  | zero=>
   intro listed a w hsz hc hcl hpr I;have hr:Region.ready .any ops listed=[]:=by
    refine List.filter_eq_nil_iff.2 λi hi=>?_
    have hi' : i<listed.size:=by rw[hsz];exact List.mem_range.1 hi
    have:listed.getD i true=true:=by
     rw[Array.getD_eq_getD_getElem?,Array.getElem?_eq_getElem hi'];simp only[Option.getD_some];have h0:=List.count_eq_zero.1 (Nat.le_zero.1 hc);cases hv:listed[i] with
     |true=>rfl
     |false=>exact absurd (by rw[<- hv];simp) h0
    simp[this]
   exact (done listed hsz hr hpr).elim
  | succ fuel ih=>
   intro listed a w hsz hc hcl hpr I;refine⟨λhr=>(done listed hsz hr hpr).elim,λi hi=>?_⟩;obtain⟨hi,hready⟩:=List.mem_filter.1 hi;have hi:=List.mem_range.1 hi;have ho:ops[i]?=some ops[i]:=Array.getElem?_eq_getElem hi;have hil:i<listed.size:=oM;rw[gd _ _ hil]at hready
   simp only[ho,Option.map_some,Option.getD_some,Bool.and_eq_true,Bool.not_eq_true']at hready;obtain⟨hli,hpre⟩:=hready;rw[Array.all_eq_true]at hpre
   obtain⟨s,hT⟩:=I2 Γ (W:=W) (bs:=bs) (nt:=nt) (ops:=ops) (κ:=σ.n) (φ:=σ.φ) (h:=σ.h) (l:=ops.toList) (i:=i) (o:=ops[i]) (by rw[Array.getElem?_toList];exact ho);have hset:∀ j,(listed.setIfInBounds i true).getD j false=if j=i then true else listed.getD j false:=λj=>by
    simp only[Array.getD_eq_getD_getElem?,Array.getElem?_setIfInBounds];by_cases hji:i=j
    ·subst hji;simp[hil]
    ·rw[if_neg hji,if_neg (Ne.symm hji)]
   have hcl' : ∀ j o,ops[j]?=some o->(listed.setIfInBounds i true).getD j false=true->∀ e∈o.after,Region.binds .any e=true->(listed.setIfInBounds i true).getD e.on false=true:=by
    intro j o hj hl e he hb;rw[hset]at hl ⊢;split
    ·rfl
    ·split at hl
     ·rename_i hji;subst hji;rw[ho]at hj;cases hj;obtain⟨m,hm,hme⟩:=Array.mem_iff_getElem.1 he;have:=hpre m hm;rw[hme,hb]at this;simpa using this
     ·exact hcl j o hj hl e he hb
   have rb:∀ j,Reach ops j i->j≠i->listed.getD j false=true:=λj hr hji=>by
    have:=jL (S:=λj=>(listed.setIfInBounds i true).getD j false) hcl' hr (by simp only[hset,if_pos]);simp only[hset,if_neg hji]at this;exact this
   have ra:∀ j,Reach ops i j->listed.getD j false=false:=λj hr=>by
    cases hl:listed.getD j false with
    |false=>rfl
    |true=>
     have:=jL (S:=λj=>listed.getD j false) hcl hr hl;simp only[hli]at this;cases this
   have hii0:i<=i0:=by
    rcases Nat.lt_or_ge i0 i with hlt|hge
    ·have:=rb i0 (hbeh i hlt hi) oM;rw[noti listed hpr]at this;cases this
    ·exact hge
   have far:∀ j,i0<j->j<ops.size->listed.getD j false=false:=λj hj hlt=>by
    cases hl:listed.getD j false with
    |false=>rfl
    |true=>
     have:=jL (S:=λj=>listed.getD j false) hcl (hbeh j hj hlt) hl;simp only[noti listed hpr]at this;cases this
   have agree:∀ j,j≠i->Cmp ops i j->listed.getD j false=decide (j<0+i):=λj hji hc=>by
    rw[Nat.zero_add];by_cases hlt:j<i
    ·rw[rb j (hc.2 hlt) hji];simp[hlt]
    ·rw[ra j (hc.1 oM)];simp[hlt]
   have self:listed.getD i false=decide (i<0+i):=by rw[hli];simp
   have inT:∀ (j:Nat) (v:List (Nat×FV)),(vH (tr Γ W bs nt ops ops.toList σ.n σ.φ σ.h))[j]?=some v->∃ (o:Oper) (s:S),(tr Γ W bs nt ops ops.toList σ.n σ.φ σ.h)[j]?=some (o,s)/\ops[j]?=some o/\v=uO o s:=λj v hv=>by
    simp only[vH,List.getElem?_map,Option.map_eq_some_iff]at hv;obtain⟨⟨o,s⟩,h1,h2⟩:=hv;have:=(kQ Γ ops.toList σ.n 0 σ.φ σ.h j o s h1).1;rw[Array.getElem?_toList]at this;exact⟨o,s,h1,this,h2.symm⟩
   have inH:∀ (j:Nat) (v:List (Nat×Option aZ)),(yu (tr Γ W bs nt ops ops.toList σ.n σ.φ σ.h))[j]?=some v->∃ (o:Oper) (s:S),(tr Γ W bs nt ops ops.toList σ.n σ.φ σ.h)[j]?=some (o,s)/\j<ops.size/\v=s.bu:=λj v hv=>by
    simp only[yu,List.getElem?_map,Option.map_eq_some_iff]at hv;obtain⟨⟨o,s⟩,h1,h2⟩:=hv;have:=(kQ Γ ops.toList σ.n 0 σ.φ σ.h j o s h1).1;rw[Array.getElem?_toList]at this;exact⟨o,s,h1,lt this,h2.symm⟩
   refine one Γ (L:=lost) (λj p hp hj k hk=>t5 j p ?_ hp k hk) hT (S:=λj=>listed.getD j false) (S' := λj=>(listed.setIfInBounds i true).getD j false) hli (by simp only[hset,if_pos]) (λj hj=>by simp only[hset,if_neg hj]) (λt ht=>?_) (λk hk=>?_) (λj v hij hv hs k hk hk' => ?_) (λj v hij hv hs k hk hk' => ?_) I (t3 i _ hii0 hT) (λhpn a' w' I' => ?_) (λc' hc a' w' hs' => ?_) hsat.fk hsat.hk hsat.pk
   ·rcases hj with hj|rfl
    ·rcases Nat.lt_or_ge i0 j with hlt|hge
     ·have hjl:j<ops.size:=by
       have:=(List.getElem?_eq_some_iff.1 hp).1
       rwa [qp,Array.length_toList]at this
      have hf:=far j hlt hjl;rw[hf]at hj;cases hj
     ·exact hge
    ·exact hii0
   ·refine kh rfl λj u hj hju=>?_
    obtain⟨o',s',_,hj',rfl⟩:=inT j u hj;rw[Nat.zero_add];by_cases hji:j=i
    ·subst hji;exact self
    ·exact agree j hji (hslot i j _ o' t (Ne.symm hji) ho hj' (kq.1 hju) (.inl ht))
   ·refine kh rfl λj u hj hju=>?_
    obtain⟨o',s',hj',hjl,rfl⟩:=inH j u hj;rw[Nat.zero_add];by_cases hji:j=i
    ·subst hji;exact self
    ·rcases Nat.lt_or_ge i0 j with hlt|hge
     ·rw[far j hlt hjl];simp;omega
     ·exact agree j hji (hheap i j _ o' _ s' k hii0 hge (Ne.symm hji) hT hj' hju (.inl hk))
   ·obtain⟨o',s',_,hj',rfl⟩:=inT j v hv;have:=ra j ((hslot i j _ o' k oM ho hj' (kq.1 hk') (.inr (kq.1 hk))).1 hij);rw[this]at hs;cases hs
   ·obtain⟨o',s',hj',hjl,rfl⟩:=inH j v hv;rcases Nat.lt_or_ge i0 j with hlt|hge
    ·rw[far j hlt hjl]at hs;cases hs
    ·have:=ra j ((hheap i j _ o' _ s' k hii0 hge oM hT hj' hk' (.inr hk)).1 hij);rw[this]at hs;cases hs
   ·refine ih _ a' w' (by simpa using hsz) ?_ hcl' (λj o' s' hj hs' => ?_) I'
    rotate_left
    ·by_cases hji:j=i
     ·subst hji;rw[hT]at hs';cases hs';exact hpn
     ·rw[hset,if_neg hji]at hj;exact hpr j o' s' hj hs'
    rw[Array.toList_setIfInBounds,List.count_set (by simpa using hil)];have e1:listed.toList[i]'(by simpa using hil)=false:=by
     rw[Array.getD_eq_getD_getElem?,Array.getElem?_eq_getElem hil]at hli;simpa using hli
    rw[e1];have hpos:0<listed.toList.count false:=List.count_pos_iff.2 (e1 ▸ List.getElem_mem _);simp only[beq_self_eq_true,if_true,show (true == false)=false from rfl,Bool.false_eq_true,if_false];omega
   ·by_cases hii:i=i0
    ·subst hii;rw[t1]at hT;simp only[Option.some.injEq]at hT;subst hT;rw[t2]at hc;simp only[Option.some.injEq]at hc;subst hc;exact hP a' w' hs'
    ·have:=t4 i _ oM hT;rw[this]at hc;cases hc
 refine wp_region_any hm ?_;have hsat' : Sat W bs nt ds σ a { w with drawn:=w.drawn+1 }:=by
  obtain⟨⟨E,F,hf,hh,hp⟩,h1,h2,h3,h4,h5⟩:=hsat;exact⟨⟨E,F,hf,hh.grow ⟨rfl,rfl,rfl,Nat.le_refl _,λ_ _ _=>rfl⟩,hp⟩,h1,h2,h3,h4,h5⟩
 have hz:∀ i,(Array.replicate ops.size false).getD i false=false:=λi=>by
  simp only[Array.getD_eq_getD_getElem?,Array.getElem?_replicate];split<;>rfl
 exact key ops.size _ a _ sI (by simp[List.count_replicate]) (λj o _ hj=>by rw[hz]at hj;cases hj) (λj o s hj=>by rw[hz]at hj;cases hj) (tE hsat' hz _)
end
section
variable {P:Program}{W:World}{bs:List Nat}{nt:Nat}{ds:Aux}{Q:mf}{σ:St}
theorem Wp.ajN(Γ:Env P){id:Nat}{ops:Array Oper}{side:Prop}{lost:List Nat}{fx:List (List Nat×List Nat)}{c:List PanicEntry}(hm:P.follows .mixedOrders=true)
  (hg:AG Γ W bs nt ops ops.toList σ.n σ.φ σ.h=⟨side,some c,lost,fx⟩) (hd:(lu ops&&lJ ops fx&&akm ops fx.length)=true) (hside:side)
  (hQ:Q (.panic c) W bs ⟨σ.n,uc ops σ.φ,dropKeys σ.h lost⟩):Wp P W bs nt ds (.region id ops true) Q σ:=λa w hs=>
 Mb Γ hm hs hg hd hside λa' w' hs' => ⟨W,bs,_,Ext.refl W bs,hQ,hs'⟩
end
section
variable {P:Program}{W:World}{bs:List Nat}{nt:Nat}{ops:Array Oper}(Γ:Env P)
def abF(Γ:Env P)(dst:Option Nat)(r:List Oper)(κ:Nat)(φ:Fr)(h:Hp)(s:S):RX:=match s.pan with
 |some c=>⟨s.side,some c,s.uk++s.pupd,[(s.uk,s.reads)]⟩
 |none=>Mi s (AG Γ W bs nt ops r (κ+1) (pD φ dst s.fv) (ba h s.bu))
theorem WK(o:Oper)(r:List Oper)(κ:Nat)(φ:Fr)(h:Hp):AG Γ W bs nt ops (o::r) κ φ h=abF (W:=W) (bs:=bs) (nt:=nt) (ops:=ops) Γ o.dst r κ φ h (step Γ W bs nt ops κ φ h o):=rfl
theorem Qf(dst:Option Nat)(r:List Oper)(κ:Nat)(φ:Fr)(h:Hp)(side:Prop)(fv:FV)(u:List (Nat×Option aZ))(c:List PanicEntry)(pupd reads uk:List Nat) :
  abF (W:=W) (bs:=bs) (nt:=nt) (ops:=ops) Γ dst r κ φ h ⟨side,fv,u,some c,pupd,reads,uk⟩=⟨side,some c,uk++pupd,[(uk,reads)]⟩:=rfl
theorem Qe(dst:Option Nat)(r:List Oper)(κ:Nat)(φ:Fr)(h:Hp)(side:Prop)(fv:FV)(u:List (Nat×Option aZ))(pupd reads uk:List Nat) :
  abF (W:=W) (bs:=bs) (nt:=nt) (ops:=ops) Γ dst r κ φ h ⟨side,fv,u,none,pupd,reads,uk⟩=Mi ⟨side,fv,u,none,pupd,reads,uk⟩ (AG Γ W bs nt ops r (κ+1) (pD φ dst fv) (ba h u)):=rfl
theorem abL(side side' : Prop)(fv:FV)(u:List (Nat×Option aZ))(pan:Option (List PanicEntry))(pupd reads uk lost:List Nat)(c:Option (List PanicEntry))(fx:List (List Nat×List Nat)) :
  Mi ⟨side,fv,u,pan,pupd,reads,uk⟩ ⟨side',c,lost,fx⟩=⟨side/\side',c,uk++pupd++lost,(uk,reads)::fx⟩:=rfl
end
end
end Go.LE
namespace Go.Proofs.YtnemkecffmdlnaaGreatDoor
section
open Go Go.RowKit Go.LE
set_option maxRecDepth 10000
def aC:=(ae @List.replicate_succ.{0} @List.replicate_zero.{0} @au @ab lx ly lA (ae di dj dk dm dB dD dF (ae dG eK eL eM eN eO eP (ae oH oI oJ oK vn vt vu (ae vv vz vA vB vC vD vE (ae jS jT jU jV jW ot ou (ae ov ow ox I3 I4 I5 I6 (ae I7 Rs Rt Ru I8 I9 Ja (ae Jb Jc RE RF iH iI iJ (ae iK ajT ajU qs qt qu qv (ae qw qx qy qz qA oy oz (ae oA oB oC oD oE oF oG (ae mG mH mI mJ mK mL mM (ae mN mO mP mQ mR mS mT (ae mU mV mW mX mY Jh Ji (ae Jj Jk Jl Jm Jo Jp Jq (ae Jr Js Jt Ju Jv Jw Jx (ae Jy Jz JA JB JC JD JE (ae JF JG JH JI JJ JK JL (ae JM JN JO JP JQ JR JS (ae JT DB DC DD DE DF DG (ae DH DI DJ DK DL DM DN (ae DO DP DQ DR DS DT DU (ae DV zh zi zj zk zl zm (ae zp zq zr zt @om @p6 @kP (ae @lW @lV @gE @e9 @aV @aw @aD (ae @aF @wL @tB @nN @wD @tD @p5 (ae @tC @cP @TW @NR @TY @NS @T0 (ae @TZ @NU @T3 @T4 @T5 @G2 @uL (ae @sL @xx @IZ @qn @Ly @Lx @aaA (ae @Cp @Cl @Ck @Lu @wX @Et @Es (ae @xN @zK @zJ @uv @da @aJ @Cx (ae @LN @Af @Cw @Ah @S2 @CB @MD (ae @ME @mkF.eq_1 @cr @w9 @tt @eZ @A5 (ae @cf @aM @kD @ie.eq_1 @nV @nW @CE (ae @CD @qi @lY @aaz @Cj @Ci @HN (ae @wU @HO @Pq @ac5 @e8 @dw @cT (fg @WK @Qf @Qe @abL))))))))))))))))))))))))))))))))))))))
theorem aaF(v:En)(a:Nat)(op:ByteArray)(x:Ex)(ih:xX v x):xX v (.unary a op x):=by
 intro vs e u uh fp w S hEn hEx hEs ho hlt hS;have u0:=af.up w S fp;have hse:=af.e7 w S fp hS;obtain⟨hE0,hN0⟩:=hEn;obtain⟨hx0,hv0⟩:=hEx;have hEs1:=hEs.mono hse;have hv1:=hv0.mono hse;have hN1:=fe.mono hse hN0;simp only[cA]at hx0
 refine fD (nt:=133) S #[e] [.tmp 4] (by show 1<=7;omega) ho hlt Tryz.func65 rfl rfl rfl ?_;cases hv1 with
 |unary _ _ z _ gx=>
 refine vR Γ0 aC ?_;refine vR Γ0 aC ?_;refine Wp.seq ?_;refine vR Γ0 aC ?_;refine Wp.block ?_;refine vR Γ0 aC ?_;refine wC aC (λhc=>?_) (λhc=>?_)
 ·cases hc
 refine vR Γ0 aC ?_;refine wC aC (λhc=>?_) (λhc=>?_)
 ·cases hc
 refine vR Γ0 aC ?_;refine wC aC (λhc=>?_) (λhc=>?_)
 ·cases hc
 refine vR Γ0 aC ?_;refine wC aC (λhc=>?_) (λhc=>?_)
 ·cases hc
 refine vR Γ0 aC ?_;refine wC aC (λhc=>?_) (λhc=>?_)
 rotate_left
 ·cases hc
 refine wR Γ0 (aa aC gx.parts) ?_ ?_
 ·first|trivial|exact gx.one
 cases hF:aE v x with
 |error e=>
  obtain⟨c,j⟩:=e;have hE:aE v (.unary a op x)=.error (c,j):=by simp only[aE,hF,bM]
  rw[hE,aJ];refine Wp.ajN (aec (af w S fp) v x ih vs a op z (.text 0 ⟨#[]⟩)) aN (ev (bp aC hF gx.parts)) (by kernel_rfl) ?_ ?_
  ·exact⟨⟨gx,⟨hE0,hN1⟩,hx0.2.2,hEs1⟩,dE,λ_ h=>h.elim⟩
  refine qq ?_;exact⟨_,rfl⟩
 |ok t=>
 have hS1:=qd hE0 hx0.2.2 hF;cases hU:AM a op t with
 |error e=>
  obtain⟨c,j⟩:=e;have hE:aE v (.unary a op x)=.error (c,j):=by simp only[aE,hF,bM,hU]
  rw[hE,aJ];refine Wp.rp (aec (af w S fp) v x ih vs a op z t) aN (ev (fg aC hF hU gx.parts)) rfl (by kernel_rfl) ?_ ?_
  ·exact⟨⟨⟨gx,⟨hE0,hN1⟩,hx0.2.2,hEs1⟩,dE,(λ_ h=>h.elim),u0⟩,gx.one,sF hS1⟩
  refine qq ?_;exact⟨_,rfl⟩
 |ok t0=>
 refine J3 (aec (af w S fp) v x ih vs a op z t) (fg aC hF hU gx.parts) ?_ ?_
 ·exact⟨⟨⟨gx,⟨hE0,hN1⟩,hx0.2.2,hEs1⟩,dE,(λ_ h=>h.elim),u0⟩,⟨gx.one,sF hS1⟩,u0⟩
 refine Wp.cO 208 (ev aC) (aX.refl _ _) λW3 bs3 cs hx3 hΦ3=>?_
 obtain⟨vo,rfl,hg3,hv3⟩:=Dk hΦ3;have hvo:=hg3;have hD:rE W3 vo=t0:=bW hvo;have hO:ek W3 (Out bs3) vo t0:=hvo.mono λb _ hb=>⟨rfl,hb.2⟩
 have hpl:=λW bs κ hh=>xV (af w S fp) (W:=W) (bs:=bs) (κ:=κ) (hh:=hh) hv0
 refine Wp.seq ?_;refine wR (rh (af w S fp)) (bp aC hD hv3) ?_ ?_
 ·exact⟨_,hO,(ahd hS1.2 hU)⟩
 refine wC aC (λhc=>?_) (λhc=>?_)
 ·have hbig:2000<br t0:=by
   simp at hc;omega
  have hE:aE v (.unary a op x)=gT a t0:=by simp only[aE,hF,bM,hU]
  rw[hE,gT,if_pos hbig,aJ];refine Wp.dJ (rh (af w S fp)) aN (ev (aa aC hpl)) ?_ ?_
  ·first|trivial|exact⟨_,_,rfl⟩
  refine qq ?_;exact⟨_,rfl⟩
 ·have hbig:¬ 2000<br t0:=by
   simp at hc;omega
  have hE:aE v (.unary a op x)=gT a t0:=by simp only[aE,hF,bM,hU]
  rw[hE,gT,if_neg hbig,da];refine wK ?_;refine vR Γ0 aC ?_;refine wZ (aa aC hv3) ?_
  exact eJ (λE=>rfl) hvo rfl (by simp only[iV,Op.operands,Value.cells,σ0,σB,Nat.reduceEqDiff,Nat.reduceAdd,Nat.reduceMul,Nat.reduceLT,Nat.reduceLeDiff,Nat.reduceBEq,av,Int.reduceToNat,Int.reduceLT,Int.reduceLE,Nat.reduceDiv,Nat.reduceMod,Nat.reduceSub,Int.reducePow,Nat.reducePow,σP,σB3,aC,aq,eZ,cQ,cr]<;>rfl) dE
theorem V1(v:En)(a:Nat)(op:ByteArray)(x y:Ex)(ih:xX v x)(ih2:xX v y):xX v (.binary a op x y):=by
 intro vs e u uh fp w S hEn hEx hEs ho hlt hS;have u0:=af.up w S fp;have hse:=af.e7 w S fp hS;obtain⟨hE0,hN0⟩:=hEn;obtain⟨hx0,hv0⟩:=hEx;have hEs1:=hEs.mono hse;have hv1:=hv0.mono hse;have hN1:=fe.mono hse hN0;simp only[cA]at hx0
 refine fD (nt:=133) S #[e] [.tmp 4] (by show 1<=7;omega) ho hlt Tryz.func65 rfl rfl rfl ?_;cases hv1 with
 |binary _ _ z z2 _ _ gx gy=>
 refine vR Γ0 aC ?_;refine vR Γ0 aC ?_;refine Wp.seq ?_;refine vR Γ0 aC ?_;refine Wp.block ?_;refine vR Γ0 aC ?_;refine wC aC (λhc=>?_) (λhc=>?_)
 ·cases hc
 refine vR Γ0 aC ?_;refine wC aC (λhc=>?_) (λhc=>?_)
 ·cases hc
 refine vR Γ0 aC ?_;refine wC aC (λhc=>?_) (λhc=>?_)
 ·cases hc
 refine vR Γ0 aC ?_;refine wC aC (λhc=>?_) (λhc=>?_)
 ·cases hc
 refine vR Γ0 aC ?_;refine wC aC (λhc=>?_) (λhc=>?_)
 ·cases hc
 refine vR Γ0 aC ?_;refine wC aC (λhc=>?_) (λhc=>?_)
 rotate_left
 ·cases hc
 refine wR Γ0 (bp aC gx.parts gy.parts) ?_ ?_
 ·first|trivial|exact⟨gx.one,gy.one⟩|(rw[Bool.and_eq_true];exact⟨gx.one,gy.one⟩)|(simp[gx.one,gy.one];done)
 cases hF:aE v x with
 |error e=>
  obtain⟨c,j⟩:=e;have hE:aE v (.binary a op x y)=.error (c,j):=by simp only[aE,hF,bM]
  rw[hE,aJ];refine Wp.bo (R4 (af w S fp) v x ih vs a op z z2 (.text 0 ⟨#[]⟩) (.text 0 ⟨#[]⟩) undef) aN (ev (fg aC hF gx.parts gy.parts)) ?_ ?_
  ·exact⟨⟨gx,⟨hE0,hN1⟩,hx0.2.2.1,hEs1⟩,dE,λ_ h=>h.elim⟩
  refine qq ?_;exact⟨_,rfl⟩
 |ok t=>
 have hS1:=qd hE0 hx0.2.2.1 hF;refine wR (R4 (af w S fp) v x ih vs a op z z2 (.text 0 ⟨#[]⟩) (.text 0 ⟨#[]⟩) undef) (fg aC hF gx.parts gy.parts) ?_ ?_
 ·exact⟨⟨gx,⟨hE0,hN1⟩,hx0.2.2.1,hEs1⟩,dE,(λ_ h=>h.elim),u0⟩
 refine Wp.cO 223 (ev aC) (aX.refl _ _) λW2 bs2 cs2 hx2 hΦ2=>?_
 obtain⟨va,rfl,hg2,hv2⟩:=Dk hΦ2;have u2:=u0.ext hx2;have hN2:=fe.mono hx2.dY hN1;have gy2:=gy.mono hx2.dY;have hEs2:=hEs1.mono hx2.dY;cases hF2:aE v y with
 |error e=>
  obtain⟨c,j⟩:=e;have hE:aE v (.binary a op x y)=.error (c,j):=by simp only[aE,hF,hF2,bM]
  rw[hE,aJ];refine Wp.ajN (R4 (af w S fp) v y ih2 vs a op z z2 t (.text 0 ⟨#[]⟩) va) aN (ev (oQ aC hF2 gx.parts gy.parts hv2 (pN (t:=t) hg2))) (by kernel_rfl) ?_ ?_
  ·exact⟨⟨gy2,⟨hE0,hN2⟩,hx0.2.2.2,hEs2⟩,dE,λ_ h=>h.elim⟩
  refine qq ?_;exact⟨_,rfl⟩
 |ok t' =>
 have hS2:=qd hE0 hx0.2.2.2 hF2;cases hU:EV a op t t' with
 |error e=>
  obtain⟨c,j⟩:=e;have hE:aE v (.binary a op x y)=.error (c,j):=by simp only[aE,hF,hF2,bM,hU]
  rw[hE,aJ];refine Wp.rp (R4 (af w S fp) v y ih2 vs a op z z2 t t' va) aN (ev (EL aC hF2 hU gx.parts gy.parts hv2 (pN (t:=t) hg2))) rfl (by kernel_rfl) ?_ ?_
  ·exact⟨⟨⟨gy2,⟨hE0,hN2⟩,hx0.2.2.2,hEs2⟩,dE,(λ_ h=>h.elim),u2⟩,⟨gx.one,gy.one⟩,hg2,sF hS1,sF hS2⟩
  refine qq ?_;exact⟨_,rfl⟩
 |ok t0=>
 refine J3 (R4 (af w S fp) v y ih2 vs a op z z2 t t' va) (EL aC hF2 hU gx.parts gy.parts hv2 (pN (t:=t) hg2)) ?_ ?_
 ·exact⟨⟨⟨gy2,⟨hE0,hN2⟩,hx0.2.2.2,hEs2⟩,dE,(λ_ h=>h.elim),u2⟩,⟨⟨gx.one,gy.one⟩,hg2,sF hS1,sF hS2⟩,u2⟩
 refine Wp.cO 280 (ev aC) (aX.refl _ _) λW3 bs3 cs hx3 hΦ3=>?_
 obtain⟨vo,rfl,hg3,hv3⟩:=Dk hΦ3;have hvo:=hg3;have hD:rE W3 vo=t0:=bW hvo;have hO:ek W3 (Out bs3) vo t0:=hvo.mono λb _ hb=>⟨rfl,hb.2⟩
 have hpl:=λW bs κ hh=>xV (af w S fp) (W:=W) (bs:=bs) (κ:=κ) (hh:=hh) hv0
 refine Wp.seq ?_;refine wR (rh (af w S fp)) (bp aC hD hv3) ?_ ?_
 ·exact⟨_,hO,(aeP hS1.2 hS2.2 hU)⟩
 refine wC aC (λhc=>?_) (λhc=>?_)
 ·have hbig:2000<br t0:=by
   simp at hc;omega
  have hE:aE v (.binary a op x y)=gT a t0:=by simp only[aE,hF,hF2,bM,hU]
  rw[hE,gT,if_pos hbig,aJ];refine Wp.dJ (rh (af w S fp)) aN (ev (aa aC hpl)) ?_ ?_
  ·first|trivial|exact⟨_,_,rfl⟩
  refine qq ?_;exact⟨_,rfl⟩
 ·have hbig:¬ 2000<br t0:=by
   simp at hc;omega
  have hE:aE v (.binary a op x y)=gT a t0:=by simp only[aE,hF,hF2,bM,hU]
  rw[hE,gT,if_neg hbig,da];refine wK ?_;refine vR Γ0 aC ?_;refine wZ (aa aC hv3) ?_
  exact eJ (λE=>rfl) hvo rfl (by simp only[iV,Op.operands,Value.cells,σ0,σB,Nat.reduceEqDiff,Nat.reduceAdd,Nat.reduceMul,Nat.reduceLT,Nat.reduceLeDiff,Nat.reduceBEq,av,Int.reduceToNat,Int.reduceLT,Int.reduceLE,Nat.reduceDiv,Nat.reduceMod,Nat.reduceSub,Int.reducePow,Nat.reducePow,σP,σB3,aC,aq,eZ,cQ,cr]<;>rfl) dE
theorem afV(v:En)(a:Nat)(op:ByteArray)(l:Ex)(ih:Ys v l):xX v (.call a op l):=by
 intro vs e u uh fp w S hEn hEx hEs ho hlt hS;have u0:=af.up w S fp;have hse:=af.e7 w S fp hS;obtain⟨hE0,hN0⟩:=hEn;obtain⟨hx0,hv0⟩:=hEx;have hEs1:=hEs.mono hse;have hv1:=hv0.mono hse;have hN1:=fe.mono hse hN0;simp only[cA]at hx0
 refine fD (nt:=133) S #[e] [.tmp 4] (by show 1<=7;omega) ho hlt Tryz.func65 rfl rfl rfl ?_;cases hv1 with
 |call _ _ eo ec xs _ g1 g2 g3=>
 refine vR Γ0 aC ?_;refine vR Γ0 aC ?_;refine Wp.seq ?_;refine vR Γ0 aC ?_;refine Wp.block ?_;refine vR Γ0 aC ?_;refine wC aC (λhc=>?_) (λhc=>?_)
 ·cases hc
 refine vR Γ0 aC ?_;refine wC aC (λhc=>?_) (λhc=>?_)
 ·cases hc
 refine vR Γ0 aC ?_;refine wC aC (λhc=>?_) (λhc=>?_)
 ·cases hc
 refine vR Γ0 aC ?_;refine wC aC (λhc=>?_) (λhc=>?_)
 ·cases hc
 refine vR Γ0 aC ?_;refine wC aC (λhc=>?_) (λhc=>?_)
 ·cases hc
 refine vR Γ0 aC ?_;refine wC aC (λhc=>?_) (λhc=>?_)
 ·cases hc
 refine vR Γ0 aC ?_;refine wC aC (λhc=>?_) (λhc=>?_)
 rotate_left
 ·cases hc
 refine vR Γ0 aC ?_;have hxx:cA (.call a op l):=by simp only[cA];exact hx0
 cases hU:rM v a op l with
 |error e=>
  obtain⟨c,j⟩:=e;have hE:aE v (.call a op l)=.error (c,j):=by rw[yE,hU];rfl
  rw[hE,aJ];refine Wp.dJ (al4 (af w S fp) v vs a op l ih eo ec xs) aN (ev (aa aC hU)) ?_ ?_
  ·exact⟨⟨⟨hE0,hN1⟩,⟨hxx,g2⟩,g1,g3,hEs1⟩,dE,λ_ h=>h.elim⟩
  refine qq ?_;exact⟨_,rfl⟩
 |ok t0=>
 have hsz:br t0<=eS:=by
  unfold rM at hU;split at hU
  ·cases hU
  ·rename_i ts hts;exact UD (Lq hE0 hx0.2.2.2.2 hts).1 hU
 refine wr (al4 (af w S fp) v vs a op l ih eo ec xs) (aa aC hU) ?_ ?_
 ·exact⟨⟨⟨hE0,hN1⟩,⟨hxx,g2⟩,g1,g3,hEs1⟩,dE,(λ_ h=>h.elim),u0⟩
 refine Wp.cO 239 (ev aC) (aX.refl _ _) λW3 bs3 cs hx3 hΦ3=>?_
 obtain⟨vo,rfl,hg3,hv3⟩:=Dk hΦ3;have hvo:=hg3;have hD:rE W3 vo=t0:=bW hvo;have hO:ek W3 (Out bs3) vo t0:=hvo.mono λb _ hb=>⟨rfl,hb.2⟩
 have hpl:=λW bs κ hh=>xV (af w S fp) (W:=W) (bs:=bs) (κ:=κ) (hh:=hh) hv0
 refine Wp.seq ?_;refine wR (rh (af w S fp)) (bp aC hD hv3) ?_ ?_
 ·exact⟨_,hO,hsz⟩
 refine wC aC (λhc=>?_) (λhc=>?_)
 ·have hbig:2000<br t0:=by
   simp at hc;omega
  have hE:aE v (.call a op l)=gT a t0:=by rw[yE,hU];rfl
  rw[hE,gT,if_pos hbig,aJ];refine Wp.dJ (rh (af w S fp)) aN (ev (aa aC hpl)) ?_ ?_
  ·first|trivial|exact⟨_,_,rfl⟩
  refine qq ?_;exact⟨_,rfl⟩
 ·have hbig:¬ 2000<br t0:=by
   simp at hc;omega
  have hE:aE v (.call a op l)=gT a t0:=by rw[yE,hU];rfl
  rw[hE,gT,if_neg hbig,da];refine wK ?_;refine vR Γ0 aC ?_;refine wZ (aa aC hv3) ?_
  exact eJ (λE=>rfl) hvo rfl (by simp only[iV,Op.operands,Value.cells,σ0,σB,Nat.reduceEqDiff,Nat.reduceAdd,Nat.reduceMul,Nat.reduceLT,Nat.reduceLeDiff,Nat.reduceBEq,av,Int.reduceToNat,Int.reduceLT,Int.reduceLE,Nat.reduceDiv,Nat.reduceMod,Nat.reduceSub,Int.reducePow,Nat.reducePow,σP,σB3,aC,aq,eZ,cQ,cr]<;>rfl) dE
theorem aaD(v:En)(a:Nat)(x:Ex)(ih:xX v x):xX v (.keyed a x):=by
 intro vs e u uh fp w S hEn hEx hEs ho hlt hS;have u0:=af.up w S fp;have hse:=af.e7 w S fp hS;obtain⟨hE0,hN0⟩:=hEn;obtain⟨hx0,hv0⟩:=hEx;have hEs1:=hEs.mono hse;have hv1:=hv0.mono hse;have hN1:=fe.mono hse hN0;simp only[cA]at hx0
 refine fD (nt:=133) S #[e] [.tmp 4] (by show 1<=7;omega) ho hlt Tryz.func65 rfl rfl rfl ?_;cases hv1 with
 |keyed _ z _ gx=>
 refine vR Γ0 aC ?_;refine vR Γ0 aC ?_;refine Wp.seq ?_;refine vR Γ0 aC ?_;refine Wp.block ?_;refine vR Γ0 aC ?_;refine wC aC (λhc=>?_) (λhc=>?_)
 ·cases hc
 refine vR Γ0 aC ?_;refine wC aC (λhc=>?_) (λhc=>?_)
 ·cases hc
 refine vR Γ0 aC ?_;refine wC aC (λhc=>?_) (λhc=>?_)
 ·cases hc
 refine vR Γ0 aC ?_;refine wC aC (λhc=>?_) (λhc=>?_)
 rotate_left
 ·cases hc
 refine wR Γ0 (aa aC gx.parts) ?_ ?_
 ·first|trivial|exact gx.one
 cases hF:aE v x with
 |error e=>
  obtain⟨c,j⟩:=e;have hE:aE v (.keyed a x)=.error (c,j):=by simp only[aE,hF,bM]
  rw[hE,aJ];refine Wp.bo (Fw (af w S fp) v x ih vs) aN (ev (bp aC hF gx.parts)) ?_ ?_
  ·exact⟨⟨gx,⟨hE0,hN1⟩,hx0.2,hEs1⟩,dE,λ_ h=>h.elim⟩
  refine qq ?_;exact⟨_,rfl⟩
 |ok t=>
 have hS1:=qd hE0 hx0.2 hF;cases t with
 |text b s=>
  have hE:aE v (.keyed a x)=.error (72,(a:Nat)):=by simp only[aE,hF,bM,yw,fE]
  rw[hE,aJ];refine wR (Fw (af w S fp) v x ih vs) (bp aC hF gx.parts) ?_ ?_
  ·exact⟨⟨gx,⟨hE0,hN1⟩,hx0.2,hEs1⟩,dE,(λ_ h=>h.elim),u0⟩
  refine Wp.seq ?_;refine vR Γ0 aC ?_;refine wC aC (λhc=>?_) (λhc=>?_)
  rotate_left
  ·cases hc
  refine Wp.dJ (Fw (af w S fp) v x ih vs) aN (ev aC) ?_ ?_
  ·first|trivial|exact⟨_,_,rfl⟩
  refine qq ?_;exact⟨_,rfl⟩
 |rx b r=>
  have hE:aE v (.keyed a x)=.error (72,(a:Nat)):=by simp only[aE,hF,bM,yw,fE]
  rw[hE,aJ];refine wR (Fw (af w S fp) v x ih vs) (bp aC hF gx.parts) ?_ ?_
  ·exact⟨⟨gx,⟨hE0,hN1⟩,hx0.2,hEs1⟩,dE,(λ_ h=>h.elim),u0⟩
  refine Wp.seq ?_;refine vR Γ0 aC ?_;refine wC aC (λhc=>?_) (λhc=>?_)
  rotate_left
  ·cases hc
  refine Wp.dJ (Fw (af w S fp) v x ih vs) aN (ev aC) ?_ ?_
  ·first|trivial|exact⟨_,_,rfl⟩
  refine qq ?_;exact⟨_,rfl⟩
 |canon c=>
  have hE:aE v (.keyed a x)=.error (72,(a:Nat)):=by simp only[aE,hF,bM,yw,fE]
  rw[hE,aJ];refine wR (Fw (af w S fp) v x ih vs) (bp aC hF gx.parts) ?_ ?_
  ·exact⟨⟨gx,⟨hE0,hN1⟩,hx0.2,hEs1⟩,dE,(λ_ h=>h.elim),u0⟩
  refine Wp.seq ?_;refine vR Γ0 aC ?_;refine wC aC (λhc=>?_) (λhc=>?_)
  rotate_left
  ·cases hc
  refine Wp.dJ (Fw (af w S fp) v x ih vs) aN (ev aC) ?_ ?_
  ·first|trivial|exact⟨_,_,rfl⟩
  refine qq ?_;exact⟨_,rfl⟩
 |lens l=>
 obtain⟨t0,hK⟩:∃ t0,yw a (.lens l)=.ok t0:=⟨_,rfl⟩;refine wR (Fw (af w S fp) v x ih vs) (bp aC hF gx.parts) ?_ ?_
 ·exact⟨⟨gx,⟨hE0,hN1⟩,hx0.2,hEs1⟩,dE,(λ_ h=>h.elim),u0⟩
 refine Wp.cO 175 (ev aC) (aX.refl _ _) λW2 bs2 cs hx2 hΦ2=>?_
 obtain⟨p,rfl,hp⟩:=hΦ2;have hvp:=hp.hv;have u2:=u0.ext hx2;refine Wp.seq ?_;refine vR Γ0 (aa aC hvp) ?_;refine wC aC (λhc=>?_) (λhc=>?_)
 ·cases hc
 refine wK ?_;refine vr Γ0 (bp aC hvp hp.parts) ?_;refine Wp.cX 272 (ev (aa aC hvp)) (λE=>by simp only[ai,den,hvp];exact rfl) λW3 bs3 b3 hx3 hb3 hn3 hc3=>?_
 refine Wp.aku 5 ((ev (aa aC hvp))) ((ev (aa aC hvp))) ?_;have hb:bJ (af w S fp) bs3 b3:=⟨u2 b3 hn3,hb3⟩;have hg3:ek W3 (bJ (af w S fp) bs3) (.iface 197 (.pointer (some ⟨b3,0,none⟩))) (.lens (.mk a iW none ⟨#[]⟩ .nil l .nil)):=⟨_,rfl,sc (n:=none) hb hc3 .nil (hp.mono hx3.dY) .nil⟩;have hvo:=hg3
 have hD:rE W3 (.iface 197 (.pointer (some ⟨b3,0,none⟩)))=(.lens (.mk a iW none ⟨#[]⟩ .nil l .nil)):=bW hvo;have hO:ek W3 (Out bs3) (.iface 197 (.pointer (some ⟨b3,0,none⟩))) (.lens (.mk a iW none ⟨#[]⟩ .nil l .nil)):=hvo.mono λb _ hb=>⟨rfl,hb.2⟩
 have hpl:=λW bs κ hh=>xV (af w S fp) (W:=W) (bs:=bs) (κ:=κ) (hh:=hh) hv0
 refine Wp.seq ?_;refine wR (rh (af w S fp)) (bp aC hD hvp) ?_ ?_
 ·exact⟨_,hO,(Z8 (a:=a) hS1.2 rfl)⟩
 refine wC aC (λhc=>?_) (λhc=>?_)
 ·have hbig:2000<br (.lens (.mk a iW none ⟨#[]⟩ .nil l .nil)):=by
   simp at hc;omega
  have hE:aE v (.keyed a x)=gT a (.lens (.mk a iW none ⟨#[]⟩ .nil l .nil)):=by simp only[aE,hF,bM,yw]
  rw[hE,gT,if_pos hbig,aJ];refine Wp.dJ (rh (af w S fp)) aN (ev (aa aC hpl)) ?_ ?_
  ·first|trivial|exact⟨_,_,rfl⟩
  refine qq ?_;exact⟨_,rfl⟩
 ·have hbig:¬ 2000<br (.lens (.mk a iW none ⟨#[]⟩ .nil l .nil)):=by
   simp at hc;omega
  have hE:aE v (.keyed a x)=gT a (.lens (.mk a iW none ⟨#[]⟩ .nil l .nil)):=by simp only[aE,hF,bM,yw]
  rw[hE,gT,if_neg hbig,da];refine wK ?_;refine vR Γ0 aC ?_;refine wZ (aa aC hvp) ?_
  exact eJ (λE=>rfl) hvo rfl (by simp only[iV,Op.operands,Value.cells,σ0,σB,Nat.reduceEqDiff,Nat.reduceAdd,Nat.reduceMul,Nat.reduceLT,Nat.reduceLeDiff,Nat.reduceBEq,av,Int.reduceToNat,Int.reduceLT,Int.reduceLE,Nat.reduceDiv,Nat.reduceMod,Nat.reduceSub,Int.reducePow,Nat.reducePow,σP,σB3,aC,aq,eZ,cQ,cr]<;>rfl) dE
theorem afU(v:En)(x:Ex):xX v x/\Ys v x:=by
 induction x with
 |name a s=>exact⟨afW v a s,trivial⟩
 |text a s=>exact⟨afX v a s,trivial⟩
 |rx a s=>exact⟨amX v a s,trivial⟩
 |call a w l ih=>exact⟨afV v a w l ih.2,trivial⟩
 |keyed a x ih=>exact⟨aaD v a x ih.1,trivial⟩
 |unary a op x ih=>exact⟨aaF v a op x ih.1,trivial⟩
 |binary a op x y ih ih2=>exact⟨V1 v a op x y ih.1 ih2.1,trivial⟩
 |nil=>exact⟨(λvs e u uh fp w S h1 h2=>by cases h2.2),trivial⟩
 |cons x l ih ih2=>exact⟨(λvs e u uh fp w S h1 h2=>by cases h2.2),ih.1,ih2.2⟩
theorem Cq(v:En)(x:Ex):xX v x:=(afU v x).1
end
end Go.Proofs.YtnemkecffmdlnaaGreatDoor
