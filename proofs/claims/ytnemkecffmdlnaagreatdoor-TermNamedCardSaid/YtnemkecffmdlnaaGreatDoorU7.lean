/-
 TermNamedCardSaid: TermNamed returns true for every text, and leaves it as it was; the listed tables are tied to the program's text.
-/
import Derived.Test.YtnemkecffmdlnaaGreatDoorU6
import Derived.Shelf.Strings.OnBuilder
import Derived.Test.YtnemkecffmdlnaaGreatDoorProg
import Derived.Test.YtnemkecffmdlnaaGreatDoorRows
import Derived.JoinedCond
import Derived.Shelf.Vars
set_option linter.unusedSimpArgs false
set_option linter.unusedVariables false
set_option linter.defProp false
set_option maxHeartbeats 16000000
namespace Go.Proofs.YtnemkecffmdlnaaGreatDoor
section
open Go Go.RowKit Go.LE
set_option maxRecDepth 10000
def elF(t:Tm):FK:=⟨λcs W S=>∃ v,cs=[v,.int .i64 0,.int .i64 0,.string ⟨#[]⟩]/\eS W S v t,λhs ⟨v,h1,h2⟩=>⟨v,h1,h2.mono hs⟩⟩
def elO:TE->FOut
 |.ok t=>.fact Sh.pf (elF t)
 |.error (c,a)=>.val (.tuple #[.nilIface,pg c a ⟨#[]⟩])
theorem GL(t:Tm):elO (.ok t)=.fact Sh.pf (elF t):=rfl
theorem j5(c a:Int):elO (.error (c,a))=.val (.tuple #[.nilIface,pg c a ⟨#[]⟩]):=rfl
def rk(v:En)(ds:List (Nat×ByteArray×Ex))(x:Ex):TE:=match rl v ds with
 |.error e=>.error e
 |.ok v=>aP v x
theorem TP(v:En)(x:Ex):rk v [] x=aP v x:=rfl
theorem J7{v:En}{a:Nat}{s:ByteArray}{y:Ex}{ds:List (Nat×ByteArray×Ex)}{x:Ex}{t:Tm}(h:Fo v s=some t):rk v ((a,s,y)::ds) x=.error (71,(a:Nat)):=by
 unfold rk;rw[rl,h]
theorem Ym{v:En}{a:Nat}{s:ByteArray}{y:Ex}{ds:List (Nat×ByteArray×Ex)}{x:Ex}{e:Int×Int}(h:Fo v s=none)(hy:aP v y=.error e):rk v ((a,s,y)::ds) x=.error e:=by
 unfold rk;rw[rl,h,hy]
theorem Yn{v:En}{a:Nat}{s:ByteArray}{y:Ex}{ds:List (Nat×ByteArray×Ex)}{x:Ex}{t:Tm}(h:Fo v s=none)(hy:aP v y=.ok t):rk v ((a,s,y)::ds) x=rk (v++[(s,t)]) ds x:=by
 unfold rk;rw[rl,h,hy]
theorem RS{s:ByteArray}:∀ {v:En},Fo v s=none->s∉rI v
 |[],_=>by simp[rI]
 | (k,t)::r,h=>by
  rw[Fo]at h;split at h
  ·cases h
  ·rename_i hk;have:=RS (v:=r) h;simp only[rI,List.map_cons,List.mem_cons,not_or]at this ⊢;exact⟨λh=>hk h.symm,this⟩
theorem Lm(ex:List Tk->PR):∀ n ds r p r',fW ex n ds r=.ok (p,r')->p.1.length<=ds.length+n
 |0,ds,r,p,r',he=>by cases he
 | n+1,ds,r,p,r',he=>by
  rw[fW]at he
  repeat' split at he
  all_goals first
   |(cases he;done)
   | (have:=Lm ex n _ _ _ _ he
      rw[List.length_append,List.length_singleton]at this
      omega)
   | (cases he
      simp)
theorem Sw{s:ByteArray}{p:Pm}(h:lH s=.ok p):p.1.length<=4097:=by
 unfold lH at h;split at h
 ·split at h
  ·cases h
  ·rename_i q r hq;cases h;have:=Lm _ _ _ _ _ _ hq;have:=LH s;simp only[List.length_nil]at *;omega
 ·cases h
structure PL where
 W:World
 bs:List Nat
 us:List Value
 v:En
 ds:List (Nat×ByteArray×Ex)
 k:Nat
section
variable (G:Nat->Prop)(v:En)(x:Ex)(h:xt v x)(vs:List Value)
noncomputable def M8:Env Tryz.prog:=⟨λ| 65=>some ((uy v x h vs).spec G)|64=>some (gZ.spec G)|_=>none,λ| 39=>some qP|_=>none,λ_ _=>none⟩
theorem agX:(M8 G v x h vs).sp 65=some ((uy v x h vs).spec G):=rfl
theorem agW:(M8 G v x h vs).sp 64=some (gZ.spec G):=rfl
theorem Xg:(M8 G v x h vs).eqs 39=some qP:=rfl
end
def fC:=(ae @List.replicate_succ.{0} @List.replicate_zero.{0} @au @ab kQ kS Sz (ae SD SZ kU dc dd de df (ae dv dw dz dA eB eC eD (ae eE eF eG Jh Ji Jj Jk (ae n8 oa ob oc uK uL uM (ae uN uO uP uQ uR uS uT (ae jH jI jJ jK jL Qx Qy (ae CT CU CV CW CX Qz QA (ae QB QC QD QE nN nO nP (ae nQ nR CY CZ C0 C1 C2 (ae C3 Ip Iq Ir Is It QF (ae QG QH Iu Iv Iw Ix Iy (ae QI QJ QK QL QM QN QO (ae QP QQ QR @nL @pA @kx @lE (ae @lD @Ab @zN @rU @EG @wg @ab6 (ae @gr @eR @aV @aw @aD @aG @vK (ae @sW @nq @vE @sY @pz @sX @cK (ae @agX @agW @Xg @ua @sb @wI @Ik (ae @pP @cV @aH @mkF.eq_1 @pg.eq_1 @Ep.eq_1 @cj (ae @vY @sR @eP @AA @b6 @aL @kh (ae @gZ.eq_1 @pK @lG @ZC @BM @BL @G6 (ae @vO @G7 @Oy @ab5 @σR.eq_1 @σL.eq_1 @l6.eq_1 (bw @l6.eq_2 @rE.eq_1 @rE.eq_2)))))))))))))))))))))))
noncomputable def adV:CatchC Tryz.prog 63 where
 Ts:=[54,39]
 enters:=Tryz.call63
 pre:=λvss pv=>(∃ a f g h,vss=[[a],[f,g,h]])/\∃ c i t,pv=.iface 39 (pg c i t)
 out:=λvss pv=>[[.nilIface],match pv with|.iface _ (.agg x)=>x.toList|_=>[]]
 pc:=λvss pv=>[.nilIface,match pv with|.iface _ x=>x|_=>undef]
 vals_ok:=by
  rintro vss pv ⟨_,c,i,t,rfl⟩
  refine⟨.inr ⟨by simp only[iO,Op.operands,Value.cells,σ0,σB,Nat.reduceEqDiff,Nat.reduceAdd,Nat.reduceMul,Nat.reduceLT,Nat.reduceLeDiff,Nat.reduceBEq,av,Int.reduceToNat,Int.reduceLT,Int.reduceLE,Nat.reduceDiv,Nat.reduceMod,Nat.reduceSub,Int.reducePow,Nat.reducePow,σP,σB3,fC],rfl⟩,.inl ⟨by simp only[iO,Op.operands,Value.cells,σ0,σB,Nat.reduceEqDiff,Nat.reduceAdd,Nat.reduceMul,Nat.reduceLT,Nat.reduceLeDiff,Nat.reduceBEq,av,Int.reduceToNat,Int.reduceLT,Int.reduceLE,Nat.reduceDiv,Nat.reduceMod,Nat.reduceSub,Int.reducePow,Nat.reducePow,σP,σB3,fC]<;>rfl,by simp only[iO,Op.operands,Value.cells,σ0,σB,Nat.reduceEqDiff,Nat.reduceAdd,Nat.reduceMul,Nat.reduceLT,Nat.reduceLeDiff,Nat.reduceBEq,av,Int.reduceToNat,Int.reduceLT,Int.reduceLE,Nat.reduceDiv,Nat.reduceMod,Nat.reduceSub,Int.reducePow,Nat.reducePow,σP,σB3,fC],rfl⟩,trivial⟩
 quiet:=λw us hl=>by
  match us,hl with
  | [u0,u1],_=>
   refine lz (nt:=8) w _ Tryz.func63 rfl rfl oM oM rfl ?_;refine vR Γ0 fC ?_;refine wC fC (λhc=>?_) (λhc=>?_)
   ·simp at hc
   ·refine wK ?_;simp only[iO,Op.operands,Value.cells,σ0,σB,Nat.reduceEqDiff,Nat.reduceAdd,Nat.reduceMul,Nat.reduceLT,Nat.reduceLeDiff,Nat.reduceBEq,av,Int.reduceToNat,Int.reduceLT,Int.reduceLE,Nat.reduceDiv,Nat.reduceMod,Nat.reduceSub,Int.reducePow,Nat.reducePow,σP,σB3,nf,gf,kB,iJ,fC]
    done
 caught:=λw us bl vss pv hl hn hlt hp=>by
  obtain⟨⟨a,f,g,h,rfl⟩,k,i,t,rfl⟩:=hp;have h3:=hl.len.1;refine kq (nt:=8) Tryz.func63 rfl rfl oM oM ?_ hl hn hlt ?_ ?_
  ·rw[h3];rfl
  ·rw[h3];decide
  intro us _;refine vR Γ0 fC ?_;refine wC fC (λhc=>?_) (λhc=>?_)
  ·skip;refine vrD Γ0 (aa fC @pg.eq_1) ?_;refine wS fC ?_;exact⟨rfl,rfl,trivial⟩
  ·cases hc
theorem Yr(p:Pm)(v0:Value)(w:World)(S:Nat->Prop)(hp:PmV w S v0 p)(hok:VE p)(hn:p.1.length<=4097)(hg:bh w S):Calls Tryz.prog 27 #[v0] w λe w' => lh w S e w' (elO (rm p)):=by
 have u0:=aE.up w S;have g0:=hg.mono (aE.eQ w S);obtain⟨b,ao,c,xs,u,rfl,hx0,hx1,⟨hsl,hdf,hle⟩,hmain⟩:=hp.mono (aE.eQ w S);obtain⟨ds0,xm⟩:=p;simp only at hx0 hdf hle hmain hok hn;obtain⟨ok1,ok2⟩:=hok;simp only at ok1 ok2;have hlen:=hdf.len;have hE:rm (ds0,xm)=rk [] ds0 xm:=rfl;rw[hE]
 generalize hR:rk [] ds0 xm=R;refine zk (nt:=57) S Tryz.func27 rfl rfl ?_;refine iK.seq' (rs:=[.cell 2 54,.cell 3 39]) rfl ?_;refine vr Γ0 fC ?_;refine iK.seq' (rs:=[.cell 2 54,.cell 3 39]) rfl ?_;refine vR Γ0 fC ?_;refine wC fC (λhc=>?_) (λhc=>?_)
 ·cases hc
 refine wK ?_;refine iK.GJ (rs:=[.cell 2 54,.cell 3 39]) rfl adV [2,3] [0,8] rfl dE rfl dE rfl rfl ?_ ?_ λus hus=>?_
 ·rintro p hp;simp only[List.zip_cons_cons,List.zip_nil_right,List.mem_cons,List.not_mem_nil,or_false]at hp;rcases hp with rfl|rfl<;>rfl
 ·rintro k hk;simp only[List.mem_cons,List.not_mem_nil,or_false]at hk;rcases hk with rfl|rfl<;>exact⟨_,_,rfl⟩
 refine vR Γ0 fC ?_;refine Wp.seq ?_;refine vR Γ0 (aa fC hx0.2) ?_
 match us,hus with
 |[u0',u1'],_=>
 refine Wp.block ?_
 refine Wp.qI (λp:PL=>⟨30,ee [(0,.is (.v (.pointer (some ⟨b,0,none⟩)))),(2,.is (.own 0 0)),(3,.is (.own 8 0)),(4,.is (.own 4 0)),(19,.is (.v (.slice ao ds0.length c))),(20,.is (.v (.int .i64 (ds0.length:Nat)))),(21,.is (.v (.int .i64 (p.k:Nat))))],dP [(0,.cells 54 [.v .nilIface]),(8,.cells 39 [.v (.int .i64 0),.v (.int .i64 0),.v (.string ⟨#[]⟩)]),(4,.cells 132 [.hd 5]),(5,.mp (rI p.v) (p.us.map .v))]⟩)
  PL.W PL.bs (λp=>(bh p.W (bF (aE w S) p.bs)/\XC p.W (bF (aE w S) p.bs) b 1 u/\AJ p.W (bF (aE w S) p.bs) u xm/\jN p.W (bF (aE w S) p.bs) ao xs)/\(Rb p.W (bF (aE w S) p.bs) (xs.drop (3*p.k)) p.ds/\(∀ d∈p.ds,ad1 d)/\p.k+p.ds.length=ds0.length)/\(vt p.v/\AI p.W (bF (aE w S) p.bs) p.us p.v)/\rk p.v p.ds xm=R) (λp=>ds0.length-p.k) ⟨w,[],[],[],ds0,0⟩ rfl rfl ?_ ⟨⟨g0,hx1,hmain,hsl⟩,⟨hdf,ok1,Nat.zero_add _⟩,⟨λe he=>(by cases he),trivial⟩,hR⟩ ?_
 ·exact wM (λk=>if k=4 then .key 64 else if k=5 then .key 48 else .key k) (bw fC @Int.natCast_zero @rI.eq_1)
 rintro⟨W1,bs1,us1,v1,ds1,k⟩ ⟨⟨e1,m1,m2,s1⟩,⟨d1,d2,d3⟩,⟨n0,n1⟩,hR1⟩ hx1';simp only at e1 m1 m2 s1 d1 d2 d3 n0 n1 hR1 hx1';dsimp only;have u1:=u0.ext hx1';refine vR Γ0 fC ?_;refine Wp.seq ?_;refine wC fC (λhc=>?_) (λhc=>?_)
 ·have hk1:k<ds0.length:=by
   simp at hc;omega
  clear hc;have wk:IntKind.i64.wrap ((k:Int)+1)=((k+1:Nat):Int):=wW;refine wK ?_;refine Wp.seq (Wp.block ?_);cases ds1 with
  |nil=>exfalso;simp at d3;omega
  |cons d ds2=>
  obtain⟨a,s,y⟩:=d;obtain⟨hda,hds,hdy⟩:=d2 (a,s,y) sI;simp only at hda hds hdy;generalize hdr:xs.drop (3*k)=D at d1;cases d1 with
  |cons _ _ yv _ D2 _ gy gD=>
  have at0:xs[3*k]?=some (.int .i64 (a:Nat)):=by
   have:=congrArg (λl=>l[0]?) hdr;simpa [List.getElem?_drop] using this
  have at1:xs[3*k+1]?=some (.string s):=by
   have:=congrArg (λl=>l[1]?) hdr;simpa [List.getElem?_drop] using this
  have at2:xs[3*k+2]?=some yv:=by
   have:=congrArg (λl=>l[2]?) hdr;simpa [List.getElem?_drop] using this
  obtain⟨b1,o1,rfl,hb1,c0⟩:=jN.cell s1 at0;obtain⟨b1',o1',e1',_,c1⟩:=jN.cell s1 at1;cases e1';obtain⟨b1',o1',e1',_,c2⟩:=jN.cell s1 at2;cases e1';have c0' : W1.cell? ⟨b1,o1+k*3,none⟩=some (.int .i64 (a:Nat)):=by rw[show o1+k*3=o1+3*k by omega];exact c0
  have c1' : W1.cell? ⟨b1,o1+k*3+1,none⟩=some (.string s):=by rw[show o1+k*3+1=o1+(3*k+1) by omega];exact c1
  have c2' : W1.cell? ⟨b1,o1+k*3+1+1,none⟩=some yv:=by rw[show o1+k*3+1+1=o1+(3*k+2) by omega];exact c2
  refine wR Γ0 (fJ fC c0' c1' c2') ?_ ?_
  ·exact⟨⟨oM,oM⟩,hb1.2,gy.one⟩
  refine Wp.seq ?_;cases hL:Fo v1 s with
  |some t=>
   obtain⟨z,hF,hz⟩:=Be n1 hL;rw[J7 hL]at hR1;rw[<- hR1,j5];refine yY Γ0 (bw fC hF (pb (t:=t) hz)) ?_;refine vR Γ0 fC ?_;refine wC fC (λhc=>?_) (λhc=>?_)
   rotate_left
   ·cases hc
   refine Wp.dF (M8 (aE w S) v1 y (BS v1 y) us1) aM (ev fC) ?_ ?_
   ·first|trivial|exact⟨_,_,rfl⟩
   refine qq ?_;refine wS fC ?_;refine⟨.iface 39 (pg 71 (a:Nat) ⟨#[]⟩),[[.nilIface],[.int .i64 0,.int .i64 0,.string ⟨#[]⟩]],rfl,⟨?_,?_,?_,?_,trivial⟩,⟨⟨_,_,_,_,rfl⟩,71,(a:Nat),⟨#[]⟩,rfl⟩,λE=>rfl⟩
   all_goals rfl
  | none=>
   have hF:=Bd n1 hL;have hnot:=RS hL;refine yY Γ0 (aa fC hF) ?_;refine vR Γ0 fC ?_;refine wC fC (λhc=>?_) (λhc=>?_)
   ·cases hc
   refine wK ?_;cases hF2:aP v1 y with
   |error e=>
    obtain⟨ec,ej⟩:=e;rw[Ym hL hF2]at hR1;rw[<- hR1,j5];refine Wp.qK (M8 (aE w S) v1 y (BS v1 y) us1) aM (ev (bw fC hF2 gy.parts)) rfl (by kernel_rfl) ?_ ?_
    ·exact⟨⟨⟨gy,⟨n0,n1⟩,hdy,e1⟩,dE,λ_ h=>h.elim⟩,hnot⟩
    refine qq ?_;refine wS fC ?_;refine⟨.iface 39 (pg ec ej ⟨#[]⟩),[[.nilIface],[.int .i64 0,.int .i64 0,.string ⟨#[]⟩]],rfl,⟨?_,?_,?_,?_,trivial⟩,⟨⟨_,_,_,_,rfl⟩,ec,ej,⟨#[]⟩,rfl⟩,λE=>rfl⟩
    all_goals rfl
   | ok t=>
    rw[Yn hL hF2]at hR1;refine Wp.more ?_;refine Jt (M8 (aE w S) v1 y (BS v1 y) us1) (bw fC hF2 gy.parts) ?_ ?_
    ·exact⟨⟨⟨gy,⟨n0,n1⟩,hdy,e1⟩,dE,(λ_ h=>h.elim),u1⟩,hnot⟩
    refine dh ?_;refine Pw.da 463 (ev fC) (aY.refl _ _) λW3 bs3 cs hx3 hΦ3=>?_
    obtain⟨v3,rfl,hg3,hv3⟩:=CN hΦ3;refine Pw.here ?_;refine qq ?_;refine vr Γ0 (aa fC wk) ?_;have em:List.map SV.v us1++[.v v3]=List.map SV.v (us1++[v3]):=by simp
    have en:rI v1++[s]=rI (v1++[(s,t)]):=by simp[rI]
    refine⟨⟨W3,bs3,us1++[v3],v1++[(s,t)],ds2,k+1⟩,⟨⟨e1.mono hx3.dW,m1.mono hx3.dW,m2.mono hx3.dW,s1.mono hx3.dW⟩,⟨?_,λd hd=>d2 d (List.mem_cons_of_mem _ hd),by simp at d3 ⊢;omega⟩,⟨?_,?_⟩,hR1⟩,by dsimp only;omega,rfl,rfl,?_⟩
    ·have:xs.drop (3*(k+1))=D2:=by
      rw[show 3*(k+1)=3*k+3 by omega,<- List.drop_drop,hdr];rfl
     rw[this];exact gD.mono hx3.dW
    ·intro e he;rcases List.mem_append.1 he with he|he
     ·exact n0 e he
     ·rw[List.mem_singleton.1 he];exact pF n0 hdy hF2
    ·show eT _ _ _ ((v1++[(s,t)]).map (·.2));rw[List.map_append];exact eT.snoc hg3 (eT.mono hx3.dW n1)
    exact wM (λk=>.key k) (fJ fC hv3 em en)
 ·have hkN:k=ds0.length:=by
   simp at hc;omega
  refine wE ?_;have hds:ds1=[]:=List.length_eq_zero_iff.1 oM;subst hds;rw[TP]at hR1;cases hF2:aP v1 xm with
  |error e=>
   obtain⟨ec,ej⟩:=e;rw[hF2]at hR1;rw[<- hR1,j5];refine Wp.bn (M8 (aE w S) v1 xm (BS v1 xm) us1) aM (ev (fJ fC hF2 m1.2 m2.parts)) ?_ ?_
   ·exact⟨m1.1.2,⟨m2,⟨n0,n1⟩,ok2,e1⟩,dE,λ_ h=>h.elim⟩
   refine qq ?_;refine wS fC ?_;refine⟨.iface 39 (pg ec ej ⟨#[]⟩),[[.nilIface],[.int .i64 0,.int .i64 0,.string ⟨#[]⟩]],rfl,⟨?_,?_,?_,?_,trivial⟩,⟨⟨_,_,_,_,rfl⟩,ec,ej,⟨#[]⟩,rfl⟩,λE=>rfl⟩
   all_goals rfl
  |ok t=>
   rw[hF2]at hR1;rw[<- hR1,GL];refine wR (M8 (aE w S) v1 xm (BS v1 xm) us1) (fJ fC hF2 m1.2 m2.parts) ?_ ?_
   ·exact⟨m1.1.2,⟨m2,⟨n0,n1⟩,ok2,e1⟩,dE,(λ_ h=>h.elim),u1⟩
   refine Wp.da 295 (ev fC) (aY.refl _ _) λW3 bs3 cs hx3 hΦ3=>?_
   obtain⟨v3,rfl,hg3,hv3⟩:=CN hΦ3;refine wZ (aa fC hv3) ?_;exact⟨[v3,.int .i64 0,.int .i64 0,.string ⟨#[]⟩],λE=>(OV hv3).symm,v3,rfl,hg3⟩
end
section
open Go.RowKit Go.LE Go.Proofs.Tryz
set_option maxRecDepth 10000
def NZ(sub:List Tk->PR):Prop:=∀ r c j,sub r=.error (c,j)->c≠0
theorem RW{sub:List Tk->PR}(h:NZ sub)(lev:Int):∀ n a r c j,ll sub lev n a r=.error (c,j)->c≠0
 |0,a,r,c,j,he=>by cases he
 | n+1,a,r,c,j,he=>by
  rw[ll]at he;split at he
  ·split at he
   ·rename_i e hs;cases he;exact h _ _ _ hs
   ·exact RW h lev n _ _ _ _ he
  ·cases he
theorem ajL{sub:List Tk->PR}(h:NZ sub)(lev:Int):NZ (ui sub lev):=by
 intro r c j he;unfold ui at he;split at he
 ·rename_i e hs;cases he;exact h _ _ _ hs
 ·exact RW h lev _ _ _ _ _ he
theorem aka{sub:List Tk->PR}(h:NZ sub):NZ (oQ sub):=by
 intro r c j he;unfold oQ at he;split at he
 ·rename_i e hs;cases he;exact h _ _ _ hs
 ·cases he
theorem Oz{sub:List Tk->PR}(h:NZ sub):∀ k,NZ (BK sub k)
 |0=>aka h
 |k+1=>ajL (Oz h k) _
theorem Ri{ex:List Tk->PR}(h:NZ ex):∀ n k l r c j,kD ex n k l r=.error (c,j)->c≠0
 |0,k,l,r,c,j,he=>by cases he
 | n+1,k,l,r,c,j,he=>by
  rw[kD]at he;split at he
  ·cases he;decide
  ·split at he
   ·rename_i e hs;cases he;exact h _ _ _ hs
   ·exact Ri h n _ _ _ _ _ he
theorem H6{m:ByteArray}{f:Ex->Ex}{q:PR}(h:∀ c j,q=.error (c,j)->c≠0){c:Int}{j:Nat}(he:dk m f q=.error (c,j)):c≠0:=by
 cases q with
 |error e=>
  cases he;exact h _ _ rfl
 | ok p=>
  obtain⟨x,r⟩:=p;have he' : (if eU r m=true then (.ok (f x,r.tail):PR) else .error (60,(pk r).2.1))=.error (c,j):=he;split at he'
  ·cases he'
  ·cases he';decide
theorem Hl{m:Option (List Tk->PR)}{r:List Tk}{b:ByteArray}{go:(List Tk->PR)->List Tk->PR}(h:∀ ex,m=some ex->∀ t c j,go ex t=.error (c,j)->c≠0){c:Int}{j:Nat}(he:e9 m r b go=.error (c,j)):c≠0:=by
 unfold e9 at he;split at he
 ·cases m with
  |none=>
   cases he;decide
  |some ex=>exact h ex rfl _ _ _ he
 ·cases he;decide
theorem JK{m:Option (List Tk->PR)}(hm:∀ ex,m=some ex->NZ ex):NZ (eV m):=by
 intro r c j he;unfold eV at he;split at he
 ·cases he
 split at he
 ·cases he
 split at he
 ·exact Hl (λex hx t c j h=>H6 (λc j h=>Ri (hm ex hx) _ _ _ _ _ _ h) h) he
 split at he
 ·cases he
 split at he
 ·exact Hl (λex hx t c j h=>H6 (λc j h=>hm ex hx _ _ _ h) h) he
 split at he
 ·exact Hl (λex hx t c j h=>H6 (λc j h=>hm ex hx _ _ _ h) h) he
 ·cases he;decide
theorem JJ:∀ m,NZ (eu m)
 |0=>JK λex h=>by cases h
 |m+1=>JK λex h=>by
  cases h;exact Oz (JJ m) 5
theorem Se{ex:List Tk->PR}(h:NZ ex):∀ n ds r c j,fW ex n ds r=.error (c,j)->c≠0
 |0,ds,r,c,j,he=>by
  cases he;decide
 | n+1,ds,r,c,j,he=>by
  rw[fW]at he;split at he
  ·split at he
   ·cases he;decide
   split at he
   ·cases he;decide
   split at he
   ·rename_i e hs;cases he;exact h _ _ _ hs
   split at he
   ·cases he;decide
   ·exact Se h n _ _ _ _ he
  ·split at he
   ·rename_i e hs;cases he;exact h _ _ _ hs
   split at he
   ·cases he
   ·cases he;decide
theorem abl{s:ByteArray}{c:Int}{j:Nat}(h:lH s=.error (c,j)):c≠0:=by
 unfold lH at h;split at h
 ·split at h
  ·rename_i e hs;cases h;exact Se (Oz (JJ 64) 5) _ _ _ _ _ hs
  ·cases h
 ·rename_i h0;cases h;exact h0
end
end Go.Proofs.YtnemkecffmdlnaaGreatDoor
namespace Go.Proofs
section
open Go.Shelf
def Tryz.zC:Go.Shelf.Ren:=⟨λ| 156=>100|165=>155|166=>37|169=>41|240=>75|241=>202|276=>130|277=>243|n=>n,λ| 31=>22|9=>9|3=>3|4=>4|0=>0|20=>20|72=>91|76=>94|70=>88|37=>89|75=>93|127=>162|164=>257|5=>5|80=>100|n=>n,λ| n=>n⟩
theorem Tryz.RQ:Go.Proofs.Lays.n156 Tryz.prog Tryz.zC:={
 mixed:=by kernel_rfl
 f156:=Tryz.func100.trans (congrArg some (by kernel_rfl))
 f165:=Tryz.func155.trans (congrArg some (by kernel_rfl))
 f166:=Tryz.func37.trans (congrArg some (by kernel_rfl))
 f169:=Tryz.func41.trans (congrArg some (by kernel_rfl))
 f240:=Tryz.func75.trans (congrArg some (by kernel_rfl))
 f241:=Tryz.func202.trans (congrArg some (by kernel_rfl))
 f276:=Tryz.func130.trans (congrArg some (by kernel_rfl))
 f277:=Tryz.func243.trans (congrArg some (by kernel_rfl))
 t0:=Tryz.underlying0
 a0:=Tryz.isAgg0
 z0:=Tryz.sizeOf0
 v0:=Tryz.zeroValue0
 t3:=Tryz.underlying3
 a3:=Tryz.isAgg3
 z3:=Tryz.sizeOf3
 v3:=Tryz.zeroValue3
 t4:=Tryz.underlying4
 a4:=Tryz.isAgg4
 z4:=Tryz.sizeOf4
 v4:=Tryz.zeroValue4
 t9:=Tryz.underlying9
 a9:=Tryz.isAgg9
 z9:=Tryz.sizeOf9
 v9:=Tryz.zeroValue9
 t20:=Tryz.underlying20
 a20:=Tryz.isAgg20
 z20:=Tryz.sizeOf20
 v20:=Tryz.zeroValue20
 t31:=Tryz.underlying22
 a31:=Tryz.isAgg22
 z31:=Tryz.sizeOf22
 v31:=Tryz.zeroValue22
 t37:=Tryz.underlying89
 a37:=Tryz.isAgg89
 z37:=Tryz.sizeOf89
 v37:=Tryz.zeroValue89
 t70:=Tryz.underlying88
 a70:=Tryz.isAgg88
 z70:=Tryz.sizeOf88
 v70:=Tryz.zeroValue88
 t72:=Tryz.underlying91
 a72:=Tryz.isAgg91
 z72:=Tryz.sizeOf91
 v72:=Tryz.zeroValue91
 t75:=Tryz.underlying93
 a75:=Tryz.isAgg93
 z75:=Tryz.sizeOf93
 v75:=Tryz.zeroValue93
 t76:=Tryz.underlying94
 a76:=Tryz.isAgg94
 z76:=Tryz.sizeOf94
 v76:=Tryz.zeroValue94
 t127:=Tryz.underlying162
 a127:=Tryz.isAgg162
 z127:=Tryz.sizeOf162
 v127:=Tryz.zeroValue162
 t164:=Tryz.underlying257
 a164:=Tryz.isAgg257
 z164:=Tryz.sizeOf257
 v164:=Tryz.zeroValue257 }
theorem Tryz.nc:Builder.Extra Tryz.prog Tryz.zC:={
 sizeBuilder:=by kernel_rfl
 liesBuilder:=by kernel_rfl
 t5:=Tryz.underlying5
 a5:=Tryz.isAgg5
 z5:=Tryz.sizeOf5
 v5:=Tryz.zeroValue5
 infoByte:=by kernel_rfl
 cellsByte:=by kernel_rfl
 sizeByte:=by kernel_rfl
 neB5:=by decide }
open Go.RowKit in
theorem Tryz.strings_Join_none(a:Option Addr)(c:Nat)(sep:ByteArray)(w:World) :
  Calls Tryz.prog 100 #[.slice a 0 c,.string sep] w λe w' => e=.returned (.string ⟨#[]⟩)/\w' = w:=Any.strings_Join_none Tryz.RQ Tryz.nc a c sep w
open Go.RowKit in
theorem Tryz.strings_Join(bk o c:Nat)(xs:List ByteArray)(sep:ByteArray)(w:World)(hcells:∀ (j:Nat) x,xs[j]?=some x->w.cell? ⟨bk,o+j,none⟩=some (.string x))(hbk:bk<w.heap.size)(hN:xs.length<=140737488355328)(hcap:xs.length<=c)(hlen:(Lib.join (xs.map (·.data.toList)) sep.data.toList).length<=140737488355328) :
  Calls Tryz.prog 100 #[.slice (some ⟨bk,o,none⟩) xs.length c,.string sep] w λe w' => e=.returned (.string ⟨(Lib.join (xs.map (·.data.toList)) sep.data.toList).toArray⟩)/\Below w.heap.size w w' := Any.strings_Join Tryz.RQ Tryz.nc bk o c xs sep w hcells hbk hN hcap hlen
end
end Go.Proofs
namespace Go.Proofs.YtnemkecffmdlnaaGreatDoor
section
open Go Go.RowKit Go.LE
set_option maxRecDepth 10000
def kZ:=(ae @List.replicate_succ.{0} @List.replicate_zero.{0} @au @ab kQ kS kU (ae dc dd de df eB eC eD (ae eE eF eG akE akF akG akH (ae jH jI jJ jK jL iA iB (ae iC iD pR pS pT pU pV (ae pW pX pY pZ nS nT nU (ae nV nW nX nY nZ n7 p4 (ae p5 p6 p7 p8 p9 qc qd (ae qe qf qg qh qi qj qk (ae ql qm qn qp mi mj ml (ae mm mn mq mr mu mv mw (ae my mz mA mB mC mD mE (sK mF mG @aV @aw @aD @aG)))))))))))))
theorem UK(a:Nat)(s:ByteArray)(w:World):Calls Tryz.prog 295 #[.agg #[.int .i64 (a:Nat),.string s]] w λe w' => e=.returned (.int .i64 1)/\an w [] w' := by
 refine ak (nt:=3) [.tmp 2] Tryz.func295 rfl rfl rfl ?_;refine vR Γ0 kZ ?_;refine vR Γ0 kZ ?_;refine wZ kZ ?_;exact λE=>rfl
def Y9:a7 Tryz.prog 295 where
 pre:=λW bs as_=>∃ (a:Nat) (s:ByteArray),as_=[.val (.agg #[.int .i64 (a:Nat),.string s])]
 res:=λ_ as_=>.int .i64 1
 enters:=Tryz.call295
 ok:=by
  intro W w bs us as_ hk hu hp;obtain⟨a,s,rfl⟩:=hp
  match us,hu with
  |[x],hu=>
   obtain⟨rfl,_⟩:=hu;exact UK a s w
theorem WL(a:Nat)(s:ByteArray)(w:World):Calls Tryz.prog 296 #[.agg #[.int .i64 (a:Nat),.string s]] w λe w' => e=.returned (.int .i64 (a:Nat))/\an w [] w' := by
 refine ak (nt:=5) [.tmp 2] Tryz.func296 rfl rfl rfl ?_;refine vR Γ0 kZ ?_;refine vR Γ0 kZ ?_;refine wZ kZ ?_;exact λE=>rfl
def abu:a7 Tryz.prog 296 where
 pre:=λW bs as_=>∃ (a:Nat) (s:ByteArray),as_=[.val (.agg #[.int .i64 (a:Nat),.string s])]
 res:=λ_ as_=>match as_ with
  |[.val (.agg cs)]=>cs.getD 0 undef
  |_=>undef
 enters:=Tryz.call296
 ok:=by
  intro W w bs us as_ hk hu hp;obtain⟨a,s,rfl⟩:=hp
  match us,hu with
  |[x],hu=>
   obtain⟨rfl,_⟩:=hu;exact WL a s w
theorem UL(a:Nat)(s:Value)(w:World):Calls Tryz.prog 297 #[.agg #[.int .i64 (a:Nat),s]] w λe w' => e=.returned (.int .i64 2)/\an w [] w' := by
 refine ak (nt:=3) [.tmp 2] Tryz.func297 rfl rfl rfl ?_;refine vR Γ0 kZ ?_;refine vR Γ0 kZ ?_;refine wZ kZ ?_;exact λE=>rfl
def Za:a7 Tryz.prog 297 where
 pre:=λW bs as_=>∃ (a:Nat) (s:Value),as_=[.val (.agg #[.int .i64 (a:Nat),s])]
 res:=λ_ as_=>.int .i64 2
 enters:=Tryz.call297
 ok:=by
  intro W w bs us as_ hk hu hp;obtain⟨a,s,rfl⟩:=hp
  match us,hu with
  |[x],hu=>
   obtain⟨rfl,_⟩:=hu;exact UL a s w
theorem WM(a:Nat)(s:Value)(w:World):Calls Tryz.prog 298 #[.agg #[.int .i64 (a:Nat),s]] w λe w' => e=.returned (.int .i64 (a:Nat))/\an w [] w' := by
 refine ak (nt:=5) [.tmp 2] Tryz.func298 rfl rfl rfl ?_;refine vR Γ0 kZ ?_;refine vR Γ0 kZ ?_;refine wZ kZ ?_;exact λE=>rfl
def abv:a7 Tryz.prog 298 where
 pre:=λW bs as_=>∃ (a:Nat) (s:Value),as_=[.val (.agg #[.int .i64 (a:Nat),s])]
 res:=λ_ as_=>match as_ with
  |[.val (.agg cs)]=>cs.getD 0 undef
  |_=>undef
 enters:=Tryz.call298
 ok:=by
  intro W w bs us as_ hk hu hp;obtain⟨a,s,rfl⟩:=hp
  match us,hu with
  |[x],hu=>
   obtain⟨rfl,_⟩:=hu;exact WM a s w
theorem UM(v:Value)(w:World):Calls Tryz.prog 299 #[v] w λe w' => e=.returned (.int .i64 3)/\an w [] w' := by
 refine ak (nt:=3) [.tmp 2] Tryz.func299 rfl rfl rfl ?_;refine vR Γ0 kZ ?_;refine vR Γ0 kZ ?_;refine wZ kZ ?_;exact λE=>rfl
def Zb:a7 Tryz.prog 299 where
 pre:=λW bs as_=>∃ v,as_=[.val v]
 res:=λ_ as_=>.int .i64 3
 enters:=Tryz.call299
 ok:=by
  intro W w bs us as_ hk hu hp;obtain⟨v,rfl⟩:=hp
  match us,hu with
  |[x],hu=>
   obtain⟨rfl,_⟩:=hu;exact UM x w
theorem WN(b a:Nat)(w:World)(hc:w.cell? ⟨b,0,none⟩=some (.int .i64 (a:Nat))):Calls Tryz.prog 300 #[.pointer (some ⟨b,0,none⟩)] w λe w' => e=.returned (.int .i64 (a:Nat))/\an w [] w' := by
 have hb:=alm b;refine ak (nt:=7) [.tmp 2] Tryz.func300 rfl rfl rfl ?_;refine vR Γ0 kZ ?_;refine wR Γ0 (aa kZ hc) ?_ ?_
 ·first|trivial|exact hb
 refine wZ kZ ?_;exact λE=>rfl
noncomputable def Il:a7 Tryz.prog 300 where
 pre:=λW bs as_=>∃ (b a:Nat),as_=[.val (.pointer (some ⟨b,0,none⟩))]/\XC W (Out bs) b 0 (.int .i64 (a:Nat))
 res:=λW as_=>match as_ with
  |[.val (.pointer (some a))]=>(W.cell? a).getD undef
  |_=>undef
 enters:=Tryz.call300
 ok:=by
  intro W w bs us as_ hk hu hp;obtain⟨b,a,rfl,h1⟩:=hp
  match us,hu with
  |[x],hu=>
   obtain⟨rfl,_⟩:=hu;simp only[h1.2,Option.getD_some];exact WN b a w (h1.mono λb hb hn=>⟨hk.block b hb hn,by simp[Out]⟩:XC w (Out []) b 0 _).2
theorem UN(v:Value)(w:World):Calls Tryz.prog 301 #[v] w λe w' => e=.returned (.int .i64 4)/\an w [] w' := by
 refine ak (nt:=3) [.tmp 2] Tryz.func301 rfl rfl rfl ?_;refine vR Γ0 kZ ?_;refine vR Γ0 kZ ?_;refine wZ kZ ?_;exact λE=>rfl
def Zc:a7 Tryz.prog 301 where
 pre:=λW bs as_=>∃ v,as_=[.val v]
 res:=λ_ as_=>.int .i64 4
 enters:=Tryz.call301
 ok:=by
  intro W w bs us as_ hk hu hp;obtain⟨v,rfl⟩:=hp
  match us,hu with
  |[x],hu=>
   obtain⟨rfl,_⟩:=hu;exact UN x w
theorem WO(b a:Nat)(w:World)(hc:w.cell? ⟨b,0,none⟩=some (.int .i64 (a:Nat))):Calls Tryz.prog 302 #[.pointer (some ⟨b,0,none⟩)] w λe w' => e=.returned (.int .i64 (a:Nat))/\an w [] w' := by
 have hb:=alm b;refine ak (nt:=7) [.tmp 2] Tryz.func302 rfl rfl rfl ?_;refine vR Γ0 kZ ?_;refine wR Γ0 (aa kZ hc) ?_ ?_
 ·first|trivial|exact hb
 refine wZ kZ ?_;exact λE=>rfl
noncomputable def Im:a7 Tryz.prog 302 where
 pre:=λW bs as_=>∃ (b a:Nat),as_=[.val (.pointer (some ⟨b,0,none⟩))]/\XC W (Out bs) b 0 (.int .i64 (a:Nat))
 res:=λW as_=>match as_ with
  |[.val (.pointer (some a))]=>(W.cell? a).getD undef
  |_=>undef
 enters:=Tryz.call302
 ok:=by
  intro W w bs us as_ hk hu hp;obtain⟨b,a,rfl,h1⟩:=hp
  match us,hu with
  |[x],hu=>
   obtain⟨rfl,_⟩:=hu;simp only[h1.2,Option.getD_some];exact WO b a w (h1.mono λb hb hn=>⟨hk.block b hb hn,by simp[Out]⟩:XC w (Out []) b 0 _).2
def aio:MethSpec Tryz.prog 190 "Kind":=b7 295 false (by kernel_rfl) (by kernel_rfl)
def ZJ:MethSpec Tryz.prog 190 "Place":=b7 296 false (by kernel_rfl) (by kernel_rfl)
def aip:MethSpec Tryz.prog 192 "Kind":=b7 297 false (by kernel_rfl) (by kernel_rfl)
def ZK:MethSpec Tryz.prog 192 "Place":=b7 298 false (by kernel_rfl) (by kernel_rfl)
def aiq:MethSpec Tryz.prog 193 "Kind":=b7 299 true (by kernel_rfl) (by kernel_rfl)
def ZL:MethSpec Tryz.prog 193 "Place":=b7 300 true (by kernel_rfl) (by kernel_rfl)
def air:MethSpec Tryz.prog 197 "Kind":=b7 301 true (by kernel_rfl) (by kernel_rfl)
def ZM:MethSpec Tryz.prog 197 "Place":=b7 302 true (by kernel_rfl) (by kernel_rfl)
noncomputable def spT:(f:FuncId)->Option (LE.Spec Tryz.prog f)
 |295=>some Y9.spec
 |296=>some abu.spec
 |297=>some Za.spec
 |298=>some abv.spec
 |299=>some Zb.spec
 |300=>some Il.spec
 |301=>some Zc.spec
 |302=>some Im.spec
 |_=>none
def Xr:(t:TypeId)->(name:String)->Option (MethSpec Tryz.prog t name)
 |190, "Kind"=>some aio
 |190, "Place"=>some ZJ
 |192, "Kind"=>some aip
 |192, "Place"=>some ZK
 |193, "Kind"=>some aiq
 |193, "Place"=>some ZL
 |197, "Kind"=>some air
 |197, "Place"=>some ZM
 |_,_=>none
theorem Bw{Γ:Env Tryz.prog}{W:World}{bs:List Nat}{κ:Nat}{hh:Hp}(hm:Γ.mt=Xr)(hs:∀ f s,spT f=some s->Γ.sp f=some s){v:Value}{t:Tm}(h:eS W (Out bs) v t)(ht:fU t) :
  aI Γ W bs κ hh "Place" [.v v]=⟨True,.v (.int .i64 (atT t:Nat)),[],none,[],[]⟩:=by
 have key:∀ {p:Prop} {x:SV},p->(⟨p,x,[],none,[],[]⟩:R)=⟨True,x,[],none,[],[]⟩:=λ{p x} hp=>by rw[eq_true hp]
 cases t with
 |text a s=>
  obtain rfl:v=_:=h;simp only[aI,hm,Xr,ZJ,b7,fc,hs 296 _ rfl];exact key (x:=.v (.int .i64 _)) (show abu.pre W bs _ from ⟨a,s,rfl⟩)
 |rx a r=>
  obtain rfl:v=_:=h;simp only[aI,hm,Xr,ZK,b7,fc,hs 298 _ rfl];exact key (x:=.v (.int .i64 _)) (show abv.pre W bs _ from ⟨a,_,rfl⟩)
 | canon c=>
  obtain⟨p,rfl,hc⟩:=h;cases hc with
  |nil=>exact absurd rfl ht.2
  | mk b a op n to bk va vb x y h0 h1 h2 h3 h4 h5 h6 h7 h8=>
   simp only[aI,hm,Xr,ZL,b7,fc,hs 300 _ rfl];refine (key (x:=.v (Il.res W [.val (.pointer (some ⟨b,0,none⟩))])) (show Il.pre W bs _ from ⟨b,a,rfl,h0⟩)).trans ?_;have e:Il.res W [.val (.pointer (some ⟨b,0,none⟩))]=.int .i64 (a:Nat):=by
    show (W.cell? ⟨b,0,none⟩).getD undef=_;rw[h0.2];rfl
   rw[e];rfl
 | lens c=>
  obtain⟨p,rfl,hc⟩:=h;cases hc with
  |nil=>exact absurd rfl ht.2
  | mk b a op n tx vq va vb q x y h0 h1 h2 h3 h4 h5 h6 h7 h8 h9=>
   simp only[aI,hm,Xr,ZM,b7,fc,hs 302 _ rfl];refine (key (x:=.v (Im.res W [.val (.pointer (some ⟨b,0,none⟩))])) (show Im.pre W bs _ from ⟨b,a,rfl,h0⟩)).trans ?_;have e:Im.res W [.val (.pointer (some ⟨b,0,none⟩))]=.int .i64 (a:Nat):=by
    show (W.cell? ⟨b,0,none⟩).getD undef=_;rw[h0.2];rfl
   rw[e];rfl
theorem Uw{Γ:Env Tryz.prog}{W:World}{bs:List Nat}{κ:Nat}{hh:Hp}(hm:Γ.mt=Xr)(hs:∀ f s,spT f=some s->Γ.sp f=some s){v:Value}{t:Tm}(h:eS W (Out bs) v t)(ht:fU t) :
  aI Γ W bs κ hh "Kind" [.v v]=⟨True,.v (.int .i64 (kdT t:Nat)),[],none,[],[]⟩:=by
 have key:∀ {p:Prop} {x:SV},p->(⟨p,x,[],none,[],[]⟩:R)=⟨True,x,[],none,[],[]⟩:=λ{p x} hp=>by rw[eq_true hp]
 cases t with
 |text a s=>
  obtain rfl:v=_:=h;simp only[aI,hm,Xr,aio,b7,fc,hs 295 _ rfl];exact key (x:=.v (.int .i64 _)) (show Y9.pre W bs _ from ⟨a,s,rfl⟩)
 |rx a r=>
  obtain rfl:v=_:=h;simp only[aI,hm,Xr,aip,b7,fc,hs 297 _ rfl];exact key (x:=.v (.int .i64 _)) (show Za.pre W bs _ from ⟨a,_,rfl⟩)
 |canon c=>
  obtain⟨p,rfl,hc⟩:=h;simp only[aI,hm,Xr,aiq,b7,fc,hs 299 _ rfl];exact key (x:=.v (.int .i64 _)) (show Zb.pre W bs _ from ⟨p,rfl⟩)
 |lens c=>
  obtain⟨p,rfl,hc⟩:=h;simp only[aI,hm,Xr,air,b7,fc,hs 301 _ rfl];exact key (x:=.v (.int .i64 _)) (show Zc.pre W bs _ from ⟨p,rfl⟩)
noncomputable def akS:Env Tryz.prog:=⟨λ| 72=>some tg.spec|_=>none,λ| _=>none,λ_ _=>none⟩
theorem agM:akS.sp 72=some tg.spec:=rfl
def adM:=(sK kZ @agM @Lk @Lj @aL @b6)
theorem WI(r:Rx)(w:World)(hr:bR r<=4000000)(hg:bh w (Out [])):Calls Tryz.prog 101 #[ax r] w λe w' => e=.returned (.string (dS (some r)))/\an w [] w' := by
 have hb:=cM r;refine ak (nt:=7) [.tmp 2] Tryz.func101 rfl rfl rfl ?_;refine vR akS adM ?_;refine wR akS (aa adM @ByteArray.size_append) ?_ ?_
 ·exact⟨⟨hr,hg⟩,by have e:(⟨#[47]⟩:ByteArray).size=1:=rfl;omega,by have e:(⟨#[47]⟩:ByteArray).size=1:=rfl;omega⟩
 refine wZ adM ?_;exact λE=>rfl
noncomputable def yJ:a7 Tryz.prog 101 where
 pre:=λW bs=>λ| [.val y0]=>(match dec ax y0 with|some r=>bR r<=4000000/\bh W (Out bs)|_=>False)|_=>False
 res:=λW=>λ| [.val y0]=>(match dec ax y0 with|some r=>.string (dS (some r))|_=>undef)|_=>undef
 enters:=Tryz.call101
 ok:=by
  intro W w bs us as_ hk hu hp;split at hp
  ·rename_i y0;split at hp
   ·rename_i r h0
    match us,hu with
    |[u0],hu=>
     obtain⟨rfl,_⟩:=hu;obtain rfl:=gi h0
     try dsimp only
     try simp only[bW ba]
     exact WI r w hp.1 (hp.2.fR hk sI)
   ·exact hp.elim
  ·exact hp.elim
theorem CP(W:World)(r:Rx):yJ.res W [.val (ax r)]=.string (dS (some r)):=by simp only[yJ,bW ba]
theorem CO(W:World)(bs:List Nat)(r:Rx):yJ.pre W bs [.val (ax r)]=(bR r<=4000000/\bh W (Out bs)):=by simp only[yJ,bW ba]
def strOf:Value->ByteArray
 |.string s=>s
 |_=>⟨#[]⟩
theorem tu(l:List ByteArray):(l.map Value.string).map strOf=l:=by
 rw[List.map_map];exact List.map_id'' (λ_=>rfl) l
noncomputable def H9:a7 Tryz.prog 100 where
 pre:=λW bs as_=>∃ l:List ByteArray,as_=[.row 9 1 l.length (l.map Value.string),.val (.string J3)]/\l.length<=1000/\(cY l).size<=140737488351232
 res:=λ_ as_=>match as_ with
  |[.row _ _ _ vs,_]=>.string (cY (vs.map strOf))
  |_=>undef
 enters:=Tryz.call100
 ok:=by
  intro W w bs us as_ hk hu hp;obtain⟨l,rfl,h1,h2⟩:=hp
  match us,hu with
  | [x,y],hu=>
   obtain⟨⟨hl,hx⟩,rfl,_⟩:=hu;have e:cY ((l.map Value.string).map strOf)=cY l:=by rw[tu]
   simp only[e];have hz:(Lib.join (l.map (·.data.toList)) J3.data.toList).length<=140737488355328:=by
    have:(cY l).size=(Lib.join (l.map (·.data.toList)) J3.data.toList).length:=by
     unfold cY;simp[ByteArray.size]
    omega
   rcases hx with ⟨rfl,h0⟩|⟨g,cap,cur,rfl,_,hg,hn,hcap,hsz,htk⟩
   ·obtain rfl:l=[]:=List.length_eq_zero_iff.1 h0;exact (Tryz.strings_Join_none none 0 J3 w).mono λe w' ⟨h1,h2⟩=>⟨h1,h2 ▸ an.refl w _⟩
   ·refine (Tryz.strings_Join g 0 cap l J3 w (λj x hj=>?_) ?_ oM hn hz).mono λe w' ⟨h1,h2⟩=>⟨h1,LE.an.KY h2⟩
    ·have hj' : (l.map Value.string)[j]?=some (.string x):=by rw[List.getElem?_map,hj];rfl
     rw[<- htk,List.getElem?_take]at hj';split at hj'
     ·simp only[World.cell?,hg];simpa using hj'
     ·cases hj'
    ·rcases Nat.lt_or_ge g w.heap.size with h|h
     ·exact h
     ·rw[Array.getElem?_eq_none h]at hg;cases hg
theorem Qd(W:World)(n:Nat)(l:List ByteArray)(x:AV):H9.res W [.row 9 1 n (l.map Value.string),x]=.string (cY l):=by
 show Value.string (cY ((l.map Value.string).map strOf))=_;rw[tu]
theorem Qc(W:World)(bs:List Nat)(l:List ByteArray):H9.pre W bs [.row 9 1 l.length (l.map Value.string),.val (.string ⟨#[44]⟩)]=(l.length<=1000/\(cY l).size<=140737488351232):=by
 apply propext;constructor
 ·rintro⟨l',h1,h2⟩;simp only[List.cons.injEq,AV.row.injEq]at h1;have e:l=l' := by rw[<- tu l,h1.1.2.2.2,tu]
  rw[e];exact h2
 ·exact λh=>⟨l,rfl,h⟩
def YL:List SV->List Nat
 |[_,.hd r,.own k _]=>[k,r]
 |_=>[]
theorem YM(x:SV)(r k o:Nat):YL [x,.hd r,.own k o]=[k,r]:=rfl
def Zs{P:Program}{f:FuncId}(p:AL P f)(g:List SV->List Nat):LE.Spec P f where
 ev:=λW bs κ h args=>zD κ (g args) h args p.args p.L p.L' p.val (p.pre W bs)
 good:=λW bs κ E F h w K args=>(p.spec (g args)).good W bs κ E F h w K args
 keys:=λW bs κ h K args=>(p.spec (g args)).keys W bs κ h K args
 loc:=λW bs κ h h' args=>(p.spec (g args)).loc W bs κ h h' args
theorem Zt{P:Program}{f:FuncId}(p:AL P f)(g:List SV->List Nat)(W:World)(bs:List Nat)(κ:Nat)(h:Hp)(args:List SV):(Zs p g).ev W bs κ h args=zD κ (g args) h args p.args p.L p.L' p.val (p.pre W bs):=rfl
noncomputable def ac9:Env Tryz.prog:=⟨λ| 39=>some RH.spec|100=>some H9.spec|f=>spT f,λ_=>none,Xr⟩
theorem agN:ac9.sp 39=some RH.spec:=rfl
theorem ada:ac9.sp 100=some H9.spec:=rfl
theorem agQ{W:World}{bs:List Nat}{κ:Nat}{hh:Hp}{v:Value}{t:Tm}(h:eS W (Out bs) v t)(ht:fU t):aI ac9 W bs κ hh "Place" [.v v]=⟨True,.v (.int .i64 (atT t:Nat)),[],none,[],[]⟩:=
 Bw rfl (λf s hf=>by
  unfold spT at hf
  split at hf<;>cases hf<;>rfl) h ht
theorem ai9{t:Tm}(h:fU t):atT t<=4096:=by
 cases t with
 |text a s=>exact h.1
 |rx a r=>exact h
 |canon c=>
  cases c with
  |nil=>exact absurd rfl h.2
  |mk a op n to bk x y=>exact (by have:=h.1;simp only[mP]at this;exact this.1)
 |lens l=>
  cases l with
  |nil=>exact absurd rfl h.2
  |mk a op n tx q x y=>exact (by have:=h.1;simp only[nG]at this;exact this.1)
theorem eS.parts{W:World}{S:Nat->Prop}{v:Value}{t:Tm}(h:eS W S v t):partsOf (.v v)=[.v v]:=by
 obtain⟨k,u,rfl⟩:=h.iface;rfl
def svs(l:List ByteArray):List SV:=l.map λs=>.v (.string s)
theorem afO(l:List ByteArray):cT (svs l)=some (l.map Value.string):=by
 induction l with
 |nil=>rfl
 |cons x l ih=>
  show (cT (svs l)).map (Value.string x::·)=_;rw[ih];rfl
theorem abk(l:List ByteArray):ay (svs l)=[]:=by
 induction l with
 |nil=>rfl
 |cons x l ih=>
  show []++ay (svs l)=[];rw[ih];rfl
def adN:=(ae adM @CP @CO @Qd @Qc @xD.eq_1 @xD.eq_2 (sK @agN @ada @UC @UB @afO @fy))
theorem YV(word:ByteArray)(l:List ByteArray)(v:Value)(t:Tm)(w:World)(fp:List Nat)(E:Nat->Value)(F:Nat->List Nat)(hs:aj w fp E F (dP [(0,.cells 54 [.v v]),(1,.row 9 1 l.length (svs l))]) w)
  (hv:eS w (Out fp) v t) (ht:fU t) (hw:word.size<=4096) (hl:l.length<=1000/\(cY l).size<=4294967296) (hT:ng w (Out fp)) :
  Calls Tryz.prog 99 (ai E [.v (.string word),.hd 1,.own 0 0]).toArray w λe w' => ∃ E' F',e=.returned (den E' (.v (.string (cR (atT t) word l))))/\(∀ k∈[0],E' k=E k)/\aj w fp E' F' (dP [(0,.cells 54 [.v v])]) w' := by
 have hpl:=λκ hh=>agQ (κ:=κ) (hh:=hh) hv ht
 have ha:=ai9 ht;have hn:=Fw (n:=(atT t:Nat)) oM oM;obtain⟨hl1,hl2⟩:=hl;refine A5 (nt:=17) [.tmp 5] hs ?_ ?_ Tryz.func99 rfl rfl rfl ?_
 ·simp[Kx,xD,FV.keys,SV.keys,aX.keys,abk,ay]
 ·simp
 refine vR ac9 adN ?_;refine wR ac9 (fJ adN hpl hv.parts @ByteArray.size_append) ?_ ?_
 ·have e1:(⟨#[64]⟩:ByteArray).size=1:=rfl;have e2:(⟨#[40]⟩:ByteArray).size=1:=rfl;have e3:(⟨#[41]⟩:ByteArray).size=1:=rfl;exact⟨oM,⟨⟨oM,oM⟩,hT⟩,oM,oM,⟨hl1,oM⟩,oM,oM⟩
 refine wZ adN ?_;exact wN (λk=>.key k) (qE adN @cR.eq_1 @atB.eq_1 @aj8.eq_1 @ajg.eq_1)
def YU(word:ByteArray)(l:List ByteArray)(v:Value)(t:Tm):AL Tryz.prog 99 where
 args:=[.v (.string word),.hd 1,.own 0 0]
 L:=[(0,.cells 54 [.v v]),(1,.row 9 1 l.length (svs l))]
 val:=.v (.string (cR (atT t) word l))
 L' := [(0,.cells 54 [.v v])]
 fF:=[0]
 pre:=λW bs=>(eS W (Out bs) v t/\fU t)/\word.size<=4096/\(l.length<=1000/\(cY l).size<=4294967296)/\ng W (Out bs)
 low:=by simp
 kept:=by simp
 vk:=by simp[SV.keys]
 lk:=by simp[aX.keys,ay,SV.keys]
 nd:=by simp
 enters:=Tryz.call99
 ok:=by
  intro W w bs fp E F hk hm hs hp;obtain⟨⟨h1,h2⟩,h3,h4,h5⟩:=hp;exact YV word l v t w fp E F hs (h1.mono λb hb hn=>⟨hk.block b hb hn,λhb' => (hm b hb').elim (λg=>absurd g (Nat.not_le.2 hb)) hn⟩) h2 h3 h4 (h5.fR hk hm)
def AP(W:World)(S:Nat->Prop):Prop:=bh W S/\ng W S
abbrev tmB (t:Tm):Prop:=fU t/\cq t<=8192
abbrev Nk (n:Nat):Prop:=∀ (t:Tm) (v:Value) (w:World),eS w (Out []) v t->tmB t->dT t<n->AP w (Out [])->Calls Tryz.prog 59 #[v] w λe w' => e=.returned (.string (uY t))/\an w [] w'
noncomputable def F0(n:Nat)(h:Nk n):a7 Tryz.prog 59 where
 pre:=λW bs as_=>∃ v t,as_=[.val v]/\eS W (Out bs) v t/\tmB t/\dT t<n/\AP W (Out bs)
 res:=λW as_=>match as_ with
  |[.val v]=>.string (uY (qY W v))
  |_=>undef
 enters:=Tryz.call59
 ok:=by
  intro W w bs us as_ hk hu hp;obtain⟨v,t,rfl,h1,h2,h3,h4⟩:=hp
  match us,hu with
  |[x],hu=>
   obtain⟨rfl,_⟩:=hu;simp only[cl h1];exact h t x w (h1.mono λb hb hn=>⟨hk.block b hb hn,by simp[Out]⟩) h2 h3 ⟨h4.1.fR hk sI,h4.2.fR hk sI⟩
theorem F3(n:Nat)(h:Nk n)(W:World)(bs:List Nat)(v:Value):(F0 n h).pre W bs [.val v]=∃ t,eS W (Out bs) v t/\tmB t/\dT t<n/\AP W (Out bs):=by
 apply propext;constructor
 ·rintro⟨v',t,h1,h2⟩;cases h1;exact⟨t,h2⟩
 ·exact λ⟨t,h2⟩=>⟨v,t,rfl,h2⟩
theorem F4(n:Nat)(h:Nk n)(W:World)(v:Value):(F0 n h).res W [.val v]=.string (uY (qY W v)):=rfl
section
variable (n:Nat)(h:Nk n)(word:ByteArray)(l:List ByteArray)(v:Value)(t:Tm)
noncomputable def og:Env Tryz.prog:=⟨λ| 59=>some (F0 n h).spec|101=>some yJ.spec|38=>some Az.spec|99=>some (Zs (YU word l v t) YL)|_=>none,λ_=>none,λ_ _=>none⟩
theorem agS:(og n h word l v t).sp 59=some (F0 n h).spec:=rfl
theorem adb:(og n h word l v t).sp 101=some yJ.spec:=rfl
theorem agR:(og n h word l v t).sp 38=some Az.spec:=rfl
theorem agT:(og n h word l v t).sp 99=some (Zs (YU word l v t) YL):=rfl
end
def bj:=(ae @List.replicate_succ.{0} @List.replicate_zero.{0} @au @ab kQ kS Sz (ae SD SZ ty5 ty6 ty7 ty8 kU (ae dc dd de df dv dw dz (ae dA eB eC eD eE eF eG (ae akE akF akG akH jH jI jJ (ae jK jL iA iB iC iD pR (ae pS pT pU pV pW pX pY (ae pZ nS nT nU nV nW nX (ae nY nZ n7 p4 p5 p6 p7 (ae p8 p9 qc qd qe qf qg (ae qh qi qj qk ql qm qn (ae qp mi mj ml mm mn mq (ae mr mu mv mw my mz mA (ae mB mC mD mE mF mG abC (ae abD abE @aV @aw @aD @aG @Zt (ae @YM @zD.eq_1 @jP.eq_1 @jP.eq_2 @kb.eq_1 @kb.eq_2 @kb.eq_3 (ae @kb.eq_4 @kb.eq_5 @kb.eq_6 @kb.eq_7 @kb.eq_8 @rF.eq_1 @rF.eq_2 (ae @iX.eq_1 @iX.eq_2 @lg.eq_1 @lg.eq_2 @ij.eq_1 @ij.eq_2 @ij.eq_3 (ae @ij.eq_4 @xv.eq_1 @mp.eq_1 @gu @xU @tY @aL (ae @b6 @agS @adb @agR @agT @F3 @F4 (sK @CP @CO @Lt @Lr @YU.eq_1 @svs.eq_1)))))))))))))))))))))
theorem Qu(n:Nat)(h:Nk n):Nk (n+1):=by
 intro t v w hv hB hd hg;have hvp:=hv.parts;have hv0:=hv;have hok:=hB.1;have hsz:=hB.2;have hT:=hg.2;refine ak (nt:=260) [.tmp 2] Tryz.func59 rfl rfl rfl ?_;refine vR Γ0 (aa bj hvp) ?_;refine vR Γ0 bj ?_;refine Wp.seq ?_;refine vR Γ0 bj ?_;refine Wp.block ?_;cases t with
 |text a s=>
  obtain rfl:v=_:=hv;have hok1:a<=4096/\s.size<=4096:=hok;have hq:=ka s;have p0:(eO s).size<=400000000:=oM;have hj:=bD [eO s];simp only[List.map_cons,List.map_nil,List.sum_cons,List.sum_nil]at hj;have hj2:(cY [eO s]).size<=4294967296:=oM;have hE:uY (.text a s)=cR a Sy [eO s]:=rfl;rw[hE]
  refine vR Γ0 bj ?_;refine wC bj (λhc=>?_) (λhc=>?_)
  rotate_left
  ·first|cases hc|exact absurd hc sI
  refine vR Γ0 bj ?_;refine wR (og n h Sy [eO s] (.iface 190 (.agg #[.int .i64 (a:Nat),.string s])) (.text a s)) (aa bj @Sy.eq_1) ?_ ?_
  ·exact⟨oM,dE,⟨hv0,hok⟩,dE,hj2,hT⟩
  refine wZ bj ?_;exact λE=>rfl
 |rx a r=>
  obtain rfl:v=_:=hv;have hn:=gQ (some r);have hrz:bR r<=8192:=hsz;have hrz2:dZ (some r)=bR r:=rfl;have p0:(dS (some r)).size<=400000000:=oM;have hj:=bD [dS (some r)];simp only[List.map_cons,List.map_nil,List.sum_cons,List.sum_nil]at hj;have hj2:(cY [dS (some r)]).size<=4294967296:=oM
  have hE:uY (.rx a r)=cR a Hz [dS (some r)]:=rfl;rw[hE];refine vR Γ0 bj ?_;refine wC bj (λhc=>?_) (λhc=>?_)
  ·first|cases hc|exact absurd hc sI
  refine vR Γ0 bj ?_;refine wC bj (λhc=>?_) (λhc=>?_)
  rotate_left
  ·first|cases hc|exact absurd hc sI
  refine wR Γ0 bj ?_ ?_
  ·exact aL r
  refine wR (og n h Hz [dS (some r)] (.iface 192 (.agg #[.int .i64 (a:Nat),ax r])) (.rx a r)) (aa bj @Hz.eq_1) ?_ ?_
  ·exact⟨⟨oM,hg.1⟩,dE,⟨hv0,hok⟩,dE,hj2,hT⟩
  refine wZ bj ?_;exact λE=>rfl
 | canon c=>
  obtain⟨p,rfl,hc0⟩:=hv;refine vR Γ0 bj ?_;refine wC bj (λhc=>?_) (λhc=>?_)
  ·first|cases hc|exact absurd hc sI
  refine vR Γ0 bj ?_;refine wC bj (λhc=>?_) (λhc=>?_)
  ·first|cases hc|exact absurd hc sI
  refine vR Γ0 bj ?_;refine wC bj (λhc=>?_) (λhc=>?_)
  rotate_left
  ·first|cases hc|exact absurd hc sI
  cases hc0 with
  |nil=>exact absurd rfl hok.2
  | mk b a op nd to bk va vb x y h0 h1 h2 h3 h4 h5 h6 hx hy=>
   have hok1:=hok.1;simp only[mP]at hok1;obtain⟨k0,k1,k2,k3,k4,k5,kW⟩:=hok1;simp only[dT,dC]at hd;have hZ:1+dZ nd+ed x+ed y<=8192:=by
    simp only[cq,ed]at hsz;omega
   have qa:=ka to;have qb:=ka bk;have sx:=wx x k4;have sy:=wx y k5;have tx:qY w (.iface 193 va)=.canon x:=cl (S:=Out []) ⟨va,rfl,hx⟩;have ty:qY w (.iface 193 vb)=.canon y:=cl (S:=Out []) ⟨vb,rfl,hy⟩;have vx:eS w (Out []) (.iface 193 va) (.canon x):=⟨va,rfl,hx⟩
   have vy:eS w (Out []) (.iface 193 vb) (.canon y):=⟨vb,rfl,hy⟩;have bx:x≠.nil->tmB (.canon x):=λhn=>⟨⟨k4,hn⟩,by simp only[cq];omega⟩
   have bY:y≠.nil->tmB (.canon y):=λhn=>⟨⟨k5,hn⟩,by simp only[cq];omega⟩
   have ex:uY (.canon x)=mN x:=rfl;have ey:uY (.canon y)=mN y:=rfl;have dx:dT (.canon x)<n:=by simp only[dT];omega
   have dy:dT (.canon y)<n:=by simp only[dT];omega
   refine vR Γ0 bj ?_;refine Wp.seq ?_;refine vR Γ0 (aa bj h1.2) ?_;refine Wp.block ?_;refine Wp.seq ?_;refine vR Γ0 bj ?_;refine wC bj (λhc=>?_) (λhc=>?_)
   ·have ho:op=RE\/op=qG:=.inl (qW hc);have hcT:=hc;refine wK ?_;refine wC bj (λhc=>?_) (λhc=>?_)
    rotate_left
    ·rw[hcT]at hc;cases hc
    have hnn:nd≠none:=by rw[Ba (.inl ho)]at kW;exact kW
    obtain⟨r,rfl⟩:∃ r,nd=some r:=by
     cases nd with
     |none=>exact absurd rfl hnn
     |some r=>exact⟨r,rfl⟩
    have g2:w.cell? ⟨b,0+2,none⟩=some (ax r):=h2.2;have hns:=gQ (some r);have hrz2:dZ (some r)=bR r:=rfl;have p0:(dS (some r)).size<=400000000:=oM;have hj:=bD [dS (some r)];simp only[List.map_cons,List.map_nil,List.sum_cons,List.sum_nil]at hj;have hj2:(cY [dS (some r)]).size<=4294967296:=oM
    have hE:uY (.canon (.mk a op (some r) to bk x y))=cR a op [dS (some r)]:=by
     show mN _=_;rw[mN,if_pos ho]
    rw[hE];refine kA (og n h op [dS (some r)] (.iface 193 (.pointer (some ⟨b,0,none⟩))) (.canon (.mk a op (some r) to bk x y))) (bw bj h1.2 g2) ?_ ?_
    ·exact⟨⟨oM,hg.1⟩,dE,⟨hv0,hok⟩,k1,hj2,hT⟩
    refine wZ bj ?_;exact λE=>rfl
   have oa1:¬ op=RE:=qV hc;refine vr Γ0 bj ?_;refine wC bj (λhc=>?_) (λhc=>?_)
   ·have ho:op=RE\/op=qG:=.inr (qW hc);have hnn:nd≠none:=by rw[Ba (.inl ho)]at kW;exact kW
    obtain⟨r,rfl⟩:∃ r,nd=some r:=by
     cases nd with
     |none=>exact absurd rfl hnn
     |some r=>exact⟨r,rfl⟩
    have g2:w.cell? ⟨b,0+2,none⟩=some (ax r):=h2.2;have hns:=gQ (some r);have hrz2:dZ (some r)=bR r:=rfl;have p0:(dS (some r)).size<=400000000:=oM;have hj:=bD [dS (some r)];simp only[List.map_cons,List.map_nil,List.sum_cons,List.sum_nil]at hj;have hj2:(cY [dS (some r)]).size<=4294967296:=oM
    have hE:uY (.canon (.mk a op (some r) to bk x y))=cR a op [dS (some r)]:=by
     show mN _=_;rw[mN,if_pos ho]
    rw[hE];refine kA (og n h op [dS (some r)] (.iface 193 (.pointer (some ⟨b,0,none⟩))) (.canon (.mk a op (some r) to bk x y))) (bw bj h1.2 g2) ?_ ?_
    ·exact⟨⟨oM,hg.1⟩,dE,⟨hv0,hok⟩,k1,hj2,hT⟩
    refine wZ bj ?_;exact λE=>rfl
   have o1:¬ (op=RE\/op=qG):=λh=>h.elim oa1 (qV hc)
   refine vR Γ0 bj ?_;refine wC bj (λhc=>?_) (λhc=>?_)
   ·have ho:op=jz:=qW hc;have hnn:nd≠none:=by rw[Ba (.inr ho)]at kW;exact kW
    obtain⟨r,rfl⟩:∃ r,nd=some r:=by
     cases nd with
     |none=>exact absurd rfl hnn
     |some r=>exact⟨r,rfl⟩
    have g2:w.cell? ⟨b,0+2,none⟩=some (ax r):=h2.2;have hns:=gQ (some r);have hrz2:dZ (some r)=bR r:=rfl;have p0:(dS (some r)).size<=400000000:=oM;have p1:(eO to).size<=400000000:=oM;have p2:(eO bk).size<=400000000:=oM;have hj:=bD [dS (some r),eO to,eO bk]
    simp only[List.map_cons,List.map_nil,List.sum_cons,List.sum_nil]at hj;have hj2:(cY [dS (some r),eO to,eO bk]).size<=4294967296:=oM;have hE:uY (.canon (.mk a op (some r) to bk x y))=cR a op [dS (some r),eO to,eO bk]:=by
     show mN _=_;rw[mN,if_neg o1,if_pos ho]
    rw[hE];refine kA (og n h op [dS (some r),eO to,eO bk] (.iface 193 (.pointer (some ⟨b,0,none⟩))) (.canon (.mk a op (some r) to bk x y))) (qE bj h1.2 g2 h3.2 h4.2) ?_ ?_
    ·exact⟨⟨oM,hg.1⟩,oM,oM,dE,⟨hv0,hok⟩,k1,hj2,hT⟩
    refine wZ bj ?_;exact λE=>rfl
   have o2:¬ op=jz:=qV hc;refine vR Γ0 bj ?_;refine wC bj (λhc=>?_) (λhc=>?_)
   ·have ho:op=gA:=qW hc;have hnx:x≠.nil:=by subst ho;rw[J1]at kW;exact kW
    have p0:(mN x).size<=400000000:=oM;have hj:=bD [mN x];simp only[List.map_cons,List.map_nil,List.sum_cons,List.sum_nil]at hj;have hj2:(cY [mN x]).size<=4294967296:=oM;have hE:uY (.canon (.mk a op nd to bk x y))=cR a op [mN x]:=by
     show mN _=_;rw[mN,if_neg o1,if_neg o2,if_pos ho]
    rw[hE];refine kA (og n h op [mN x] (.iface 193 (.pointer (some ⟨b,0,none⟩))) (.canon (.mk a op nd to bk x y))) (qE bj h1.2 h5.2 tx ex) ?_ ?_
    ·exact⟨⟨_,vx,bx hnx,dx,hg⟩,dE,⟨hv0,hok⟩,k1,hj2,hT⟩
    refine wZ bj ?_;exact λE=>rfl
   have o3:¬ op=gA:=qV hc;refine wK ?_;obtain⟨hnx,hny⟩:x≠.nil/\y≠.nil:=by
    rw[cnW,if_neg (λh=>h.elim o1 o2),if_neg o3]at kW;exact kW
   have p0:(mN x).size<=400000000:=oM;have p1:(mN y).size<=400000000:=oM;have hj:=bD [mN x,mN y];simp only[List.map_cons,List.map_nil,List.sum_cons,List.sum_nil]at hj;have hj2:(cY [mN x,mN y]).size<=4294967296:=oM;have hE:uY (.canon (.mk a op nd to bk x y))=cR a op [mN x,mN y]:=by
    show mN _=_;rw[mN,if_neg o1,if_neg o2,if_neg o3]
   rw[hE];refine kA (og n h op [mN x,mN y] (.iface 193 (.pointer (some ⟨b,0,none⟩))) (.canon (.mk a op nd to bk x y))) (ae bj h1.2 h5.2 tx ex h6.2 ty ey) ?_ ?_
   ·exact⟨⟨_,vx,bx hnx,dx,hg⟩,⟨_,vy,bY hny,dy,hg⟩,dE,⟨hv0,hok⟩,k1,hj2,hT⟩
   refine wZ bj ?_;exact λE=>rfl
 | lens c=>
  obtain⟨p,rfl,hc0⟩:=hv;refine vR Γ0 bj ?_;refine wC bj (λhc=>?_) (λhc=>?_)
  ·first|cases hc|exact absurd hc sI
  refine vR Γ0 bj ?_;refine wC bj (λhc=>?_) (λhc=>?_)
  ·first|cases hc|exact absurd hc sI
  refine vR Γ0 bj ?_;refine wC bj (λhc=>?_) (λhc=>?_)
  ·first|cases hc|exact absurd hc sI
  refine vR Γ0 bj ?_;refine wC bj (λhc=>?_) (λhc=>?_)
  rotate_left
  ·first|cases hc|exact absurd hc sI
  cases hc0 with
  |nil=>exact absurd rfl hok.2
  | mk b a op nd tx vq va vb q x y h0 h1 h2 h3 h4 h5 h6 hq hx hy=>
   have hok1:=hok.1;simp only[nG]at hok1;obtain⟨k0,k1,k2,k3,k4,k5,kW⟩:=hok1;simp only[dT,dL]at hd;have hZ:1+dZ nd+ed q+iz x+iz y<=8192:=by
    simp only[cq,iz]at hsz;omega
   have qa:=ka tx;have sq:=wx q k3;have sx:=LZ x k4;have sy:=LZ y k5;have tq:qY w (.iface 193 vq)=.canon q:=cl (S:=Out []) ⟨vq,rfl,hq⟩;have tx' : qY w (.iface 197 va)=.lens x:=cl (S:=Out []) ⟨va,rfl,hx⟩;have ty:qY w (.iface 197 vb)=.lens y:=cl (S:=Out []) ⟨vb,rfl,hy⟩
   have vq' : eS w (Out []) (.iface 193 vq) (.canon q):=⟨vq,rfl,hq⟩;have vx:eS w (Out []) (.iface 197 va) (.lens x):=⟨va,rfl,hx⟩;have vy:eS w (Out []) (.iface 197 vb) (.lens y):=⟨vb,rfl,hy⟩;have bq:q≠.nil->tmB (.canon q):=λhn=>⟨⟨k3,hn⟩,by simp only[cq];omega⟩
   have bx:x≠.nil->tmB (.lens x):=λhn=>⟨⟨k4,hn⟩,by simp only[cq];omega⟩
   have bY:y≠.nil->tmB (.lens y):=λhn=>⟨⟨k5,hn⟩,by simp only[cq];omega⟩
   have eq' : uY (.canon q)=mN q:=rfl;have ex:uY (.lens x)=hY x:=rfl;have ey:uY (.lens y)=hY y:=rfl;have dq:dT (.canon q)<n:=by simp only[dT];omega
   have dx:dT (.lens x)<n:=by simp only[dT];omega
   have dy:dT (.lens y)<n:=by simp only[dT];omega
   refine vR Γ0 bj ?_;refine Wp.seq ?_;refine vR Γ0 (aa bj h1.2) ?_;refine Wp.block ?_;refine Wp.seq ?_;refine vR Γ0 bj ?_;refine wC bj (λhc=>?_) (λhc=>?_)
   ·have ho:op=jt\/op=Aa:=.inl (qW hc);have hcT:=hc;refine wK ?_;refine wC bj (λhc=>?_) (λhc=>?_)
    rotate_left
    ·rw[hcT]at hc;cases hc
    have hnn:nd≠none:=by rw[x9 (.inl ho)]at kW;exact kW
    obtain⟨r,rfl⟩:∃ r,nd=some r:=by
     cases nd with
     |none=>exact absurd rfl hnn
     |some r=>exact⟨r,rfl⟩
    have g2:w.cell? ⟨b,0+2,none⟩=some (ax r):=h2.2;have hns:=gQ (some r);have hrz2:dZ (some r)=bR r:=rfl;have p0:(dS (some r)).size<=400000000:=oM;have hj:=bD [dS (some r)];simp only[List.map_cons,List.map_nil,List.sum_cons,List.sum_nil]at hj;have hj2:(cY [dS (some r)]).size<=4294967296:=oM
    have hE:uY (.lens (.mk a op (some r) tx q x y))=cR a op [dS (some r)]:=by
     show hY _=_;rw[hY,if_pos ho]
    rw[hE];refine kA (og n h op [dS (some r)] (.iface 197 (.pointer (some ⟨b,0,none⟩))) (.lens (.mk a op (some r) tx q x y))) (bw bj h1.2 g2) ?_ ?_
    ·exact⟨⟨oM,hg.1⟩,dE,⟨hv0,hok⟩,k1,hj2,hT⟩
    refine wZ bj ?_;exact λE=>rfl
   have oa1:¬ op=jt:=qV hc;refine vr Γ0 bj ?_;refine wC bj (λhc=>?_) (λhc=>?_)
   ·have ho:op=jt\/op=Aa:=.inr (qW hc);have hnn:nd≠none:=by rw[x9 (.inl ho)]at kW;exact kW
    obtain⟨r,rfl⟩:∃ r,nd=some r:=by
     cases nd with
     |none=>exact absurd rfl hnn
     |some r=>exact⟨r,rfl⟩
    have g2:w.cell? ⟨b,0+2,none⟩=some (ax r):=h2.2;have hns:=gQ (some r);have hrz2:dZ (some r)=bR r:=rfl;have p0:(dS (some r)).size<=400000000:=oM;have hj:=bD [dS (some r)];simp only[List.map_cons,List.map_nil,List.sum_cons,List.sum_nil]at hj;have hj2:(cY [dS (some r)]).size<=4294967296:=oM
    have hE:uY (.lens (.mk a op (some r) tx q x y))=cR a op [dS (some r)]:=by
     show hY _=_;rw[hY,if_pos ho]
    rw[hE];refine kA (og n h op [dS (some r)] (.iface 197 (.pointer (some ⟨b,0,none⟩))) (.lens (.mk a op (some r) tx q x y))) (bw bj h1.2 g2) ?_ ?_
    ·exact⟨⟨oM,hg.1⟩,dE,⟨hv0,hok⟩,k1,hj2,hT⟩
    refine wZ bj ?_;exact λE=>rfl
   have o1:¬ (op=jt\/op=Aa):=λh=>h.elim oa1 (qV hc)
   refine vR Γ0 bj ?_;refine wC bj (λhc=>?_) (λhc=>?_)
   ·have ho:op=GK:=qW hc;have hnn:nd≠none:=by rw[x9 (.inr ho)]at kW;exact kW
    obtain⟨r,rfl⟩:∃ r,nd=some r:=by
     cases nd with
     |none=>exact absurd rfl hnn
     |some r=>exact⟨r,rfl⟩
    have g2:w.cell? ⟨b,0+2,none⟩=some (ax r):=h2.2;have hns:=gQ (some r);have hrz2:dZ (some r)=bR r:=rfl;have p0:(dS (some r)).size<=400000000:=oM;have p1:(eO tx).size<=400000000:=oM;have hj:=bD [dS (some r),eO tx];simp only[List.map_cons,List.map_nil,List.sum_cons,List.sum_nil]at hj
    have hj2:(cY [dS (some r),eO tx]).size<=4294967296:=oM;have hE:uY (.lens (.mk a op (some r) tx q x y))=cR a op [dS (some r),eO tx]:=by
     show hY _=_;rw[hY,if_neg o1,if_pos ho]
    rw[hE];refine kA (og n h op [dS (some r),eO tx] (.iface 197 (.pointer (some ⟨b,0,none⟩))) (.lens (.mk a op (some r) tx q x y))) (fJ bj h1.2 g2 h3.2) ?_ ?_
    ·exact⟨⟨oM,hg.1⟩,oM,dE,⟨hv0,hok⟩,k1,hj2,hT⟩
    refine wZ bj ?_;exact λE=>rfl
   have o2:¬ op=GK:=qV hc;refine vR Γ0 bj ?_;refine wC bj (λhc=>?_) (λhc=>?_)
   ·have ho:op=lY:=qW hc;have p0:(eO tx).size<=400000000:=oM;have hj:=bD [eO tx];simp only[List.map_cons,List.map_nil,List.sum_cons,List.sum_nil]at hj;have hj2:(cY [eO tx]).size<=4294967296:=oM;have hE:uY (.lens (.mk a op nd tx q x y))=cR a op [eO tx]:=by
     show hY _=_;rw[hY,if_neg o1,if_neg o2,if_pos ho]
    rw[hE];refine kA (og n h op [eO tx] (.iface 197 (.pointer (some ⟨b,0,none⟩))) (.lens (.mk a op nd tx q x y))) (bw bj h1.2 h3.2) ?_ ?_
    ·exact⟨oM,dE,⟨hv0,hok⟩,k1,hj2,hT⟩
    refine wZ bj ?_;exact λE=>rfl
   have o3:¬ op=lY:=qV hc;refine Wp.seq ?_;refine vR Γ0 bj ?_;refine wC bj (λhc=>?_) (λhc=>?_)
   ·have ho:op=gA\/op=iP:=.inl (qW hc);have hcT:=hc;refine wK ?_;refine wC bj (λhc=>?_) (λhc=>?_)
    rotate_left
    ·rw[hcT]at hc;cases hc
    have hnx:x≠.nil:=by rw[s5 (.inl ho)]at kW;exact kW
    have p0:(hY x).size<=400000000:=oM;have hj:=bD [hY x];simp only[List.map_cons,List.map_nil,List.sum_cons,List.sum_nil]at hj;have hj2:(cY [hY x]).size<=4294967296:=oM;have hE:uY (.lens (.mk a op nd tx q x y))=cR a op [hY x]:=by
     show hY _=_;rw[hY,if_neg o1,if_neg o2,if_neg o3,if_pos ho]
    rw[hE];refine kA (og n h op [hY x] (.iface 197 (.pointer (some ⟨b,0,none⟩))) (.lens (.mk a op nd tx q x y))) (qE bj h1.2 h5.2 tx' ex) ?_ ?_
    ·exact⟨⟨_,vx,bx hnx,dx,hg⟩,dE,⟨hv0,hok⟩,k1,hj2,hT⟩
    refine wZ bj ?_;exact λE=>rfl
   have oa4:¬ op=gA:=qV hc;refine vr Γ0 bj ?_;refine wC bj (λhc=>?_) (λhc=>?_)
   ·have ho:op=gA\/op=iP:=.inr (qW hc);have hnx:x≠.nil:=by rw[s5 (.inl ho)]at kW;exact kW
    have p0:(hY x).size<=400000000:=oM;have hj:=bD [hY x];simp only[List.map_cons,List.map_nil,List.sum_cons,List.sum_nil]at hj;have hj2:(cY [hY x]).size<=4294967296:=oM;have hE:uY (.lens (.mk a op nd tx q x y))=cR a op [hY x]:=by
     show hY _=_;rw[hY,if_neg o1,if_neg o2,if_neg o3,if_pos ho]
    rw[hE];refine kA (og n h op [hY x] (.iface 197 (.pointer (some ⟨b,0,none⟩))) (.lens (.mk a op nd tx q x y))) (qE bj h1.2 h5.2 tx' ex) ?_ ?_
    ·exact⟨⟨_,vx,bx hnx,dx,hg⟩,dE,⟨hv0,hok⟩,k1,hj2,hT⟩
    refine wZ bj ?_;exact λE=>rfl
   have o4:¬ (op=gA\/op=iP):=λh=>h.elim oa4 (qV hc)
   refine vR Γ0 bj ?_;refine wC bj (λhc=>?_) (λhc=>?_)
   ·have ho:op=vJ:=qW hc;obtain⟨hnx,hnq⟩:x≠.nil/\q≠.nil:=by rw[vP (.inl ho)]at kW;exact kW
    have p0:(mN q).size<=400000000:=oM;have p1:(hY x).size<=400000000:=oM;have hj:=bD [mN q,hY x];simp only[List.map_cons,List.map_nil,List.sum_cons,List.sum_nil]at hj;have hj2:(cY [mN q,hY x]).size<=4294967296:=oM;have hE:uY (.lens (.mk a op nd tx q x y))=cR a op [mN q,hY x]:=by
     show hY _=_;rw[hY,if_neg o1,if_neg o2,if_neg o3,if_neg o4,if_pos ho]
    rw[hE];refine kA (og n h op [mN q,hY x] (.iface 197 (.pointer (some ⟨b,0,none⟩))) (.lens (.mk a op nd tx q x y))) (ae bj h1.2 h4.2 tq eq' h5.2 tx' ex) ?_ ?_
    ·exact⟨⟨_,vq',bq hnq,dq,hg⟩,⟨_,vx,bx hnx,dx,hg⟩,dE,⟨hv0,hok⟩,k1,hj2,hT⟩
    refine wZ bj ?_;exact λE=>rfl
   have o5:¬ op=vJ:=qV hc;refine vR Γ0 bj ?_;refine wC bj (λhc=>?_) (λhc=>?_)
   ·have ho:op=pH:=qW hc;obtain⟨hnx,hnq⟩:x≠.nil/\q≠.nil:=by rw[vP (.inr ho)]at kW;exact kW
    have p0:(hY x).size<=400000000:=oM;have p1:(mN q).size<=400000000:=oM;have hj:=bD [hY x,mN q];simp only[List.map_cons,List.map_nil,List.sum_cons,List.sum_nil]at hj;have hj2:(cY [hY x,mN q]).size<=4294967296:=oM;have hE:uY (.lens (.mk a op nd tx q x y))=cR a op [hY x,mN q]:=by
     show hY _=_;rw[hY,if_neg o1,if_neg o2,if_neg o3,if_neg o4,if_neg o5,if_pos ho]
    rw[hE];refine kA (og n h op [hY x,mN q] (.iface 197 (.pointer (some ⟨b,0,none⟩))) (.lens (.mk a op nd tx q x y))) (ae bj h1.2 h5.2 tx' ex h4.2 tq eq') ?_ ?_
    ·exact⟨⟨_,vx,bx hnx,dx,hg⟩,⟨_,vq',bq hnq,dq,hg⟩,dE,⟨hv0,hok⟩,k1,hj2,hT⟩
    refine wZ bj ?_;exact λE=>rfl
   have o6:¬ op=pH:=qV hc;refine vR Γ0 bj ?_;refine wC bj (λhc=>?_) (λhc=>?_)
   ·have ho:op=vn:=qW hc;have hnx:x≠.nil:=by rw[s5 (.inr ho)]at kW;exact kW
    have p0:(hY x).size<=400000000:=oM;have p1:(eO tx).size<=400000000:=oM;have hj:=bD [hY x,eO tx];simp only[List.map_cons,List.map_nil,List.sum_cons,List.sum_nil]at hj;have hj2:(cY [hY x,eO tx]).size<=4294967296:=oM;have hE:uY (.lens (.mk a op nd tx q x y))=cR a op [hY x,eO tx]:=by
     show hY _=_;rw[hY,if_neg o1,if_neg o2,if_neg o3,if_neg o4,if_neg o5,if_neg o6,if_pos ho]
    rw[hE];refine kA (og n h op [hY x,eO tx] (.iface 197 (.pointer (some ⟨b,0,none⟩))) (.lens (.mk a op nd tx q x y))) (sK bj h1.2 h5.2 tx' ex h3.2) ?_ ?_
    ·exact⟨⟨_,vx,bx hnx,dx,hg⟩,oM,dE,⟨hv0,hok⟩,k1,hj2,hT⟩
    refine wZ bj ?_;exact λE=>rfl
   have o7:¬ op=vn:=qV hc;refine wK ?_;obtain⟨hnx,hny⟩:x≠.nil/\y≠.nil:=by
    rw[UX,if_neg (λh=>h.elim o1 o2),if_neg o3,if_neg (λh=>h.elim o4 o7),if_neg (λh=>h.elim o5 o6)]at kW;exact kW
   have p0:(hY x).size<=400000000:=oM;have p1:(hY y).size<=400000000:=oM;have hj:=bD [hY x,hY y];simp only[List.map_cons,List.map_nil,List.sum_cons,List.sum_nil]at hj;have hj2:(cY [hY x,hY y]).size<=4294967296:=oM;have hE:uY (.lens (.mk a op nd tx q x y))=cR a op [hY x,hY y]:=by
    show hY _=_;rw[hY,if_neg o1,if_neg o2,if_neg o3,if_neg o4,if_neg o5,if_neg o6,if_neg o7]
   rw[hE];refine kA (og n h op [hY x,hY y] (.iface 197 (.pointer (some ⟨b,0,none⟩))) (.lens (.mk a op nd tx q x y))) (ae bj h1.2 h5.2 tx' ex h6.2 ty ey) ?_ ?_
   ·exact⟨⟨_,vx,bx hnx,dx,hg⟩,⟨_,vy,bY hny,dy,hg⟩,dE,⟨hv0,hok⟩,k1,hj2,hT⟩
   refine wZ bj ?_;exact λE=>rfl
theorem yM:∀ n,Nk n
 |0=>λt v w hv hB hd=>absurd hd (Nat.not_lt_zero _)
 |n+1=>Qu n (yM n)
theorem Sg{s:ByteArray}{t:Tm}(h:gF s=.ok t):Xw t:=by
 unfold gF at h;split at h
 ·cases h
 ·rename_i p hp;exact ad2 (Qn hp) h
def Kb(p:Pm):lQ Tryz.prog 27 where
 kinds:=[none]
 pre:=λas_ W S=>∃ v,as_=[.val v]/\PmV W S v p/\(VE p/\p.1.length<=4097)/\bh W S
 premono:=λas_ W S W' S' hs ⟨v,h1,h2,h3,h4⟩=>⟨v,h1,h2.mono hs,h3,h4.mono hs⟩
 out:=λ_=>elO (rm p)
 enters:=Tryz.call27
 ok:=by
  intro w S us as_ hu hp;obtain⟨v,rfl,h1,⟨h2,h3⟩,h4⟩:=hp
  match us,hu with
  |[u],hu=>
   obtain⟨rfl,_⟩:=hu;exact Yr p u w S h1 h2 h3 h4
theorem TZ(p:Pm)(v:Value)(W:World)(S:Nat->Prop):(Kb p).pre [.val v] W S=(PmV W S v p/\(VE p/\p.1.length<=4097)/\bh W S):=by
 apply propext;constructor
 ·rintro⟨v',h1,h2⟩;cases h1;exact h2
 ·exact λh=>⟨v,rfl,h⟩
theorem TY(p:Pm)(as_:List AV):(Kb p).out as_=elO (rm p):=rfl
theorem Kc(p:Pm):(Kb p).kinds=[none]:=rfl
section
variable (G:Nat->Prop)(s:ByteArray)(p:Pm)
noncomputable def Jq:Env Tryz.prog:=⟨λ| 28=>some ((WA s).spec G)|27=>some ((Kb p).spec G)|_=>none,λ| 39=>some qP|_=>none,λ_ _=>none⟩
theorem agZ:(Jq G s p).sp 28=some ((WA s).spec G):=rfl
theorem agY:(Jq G s p).sp 27=some ((Kb p).spec G):=rfl
theorem Xh:(Jq G s p).eqs 39=some qP:=rfl
end
def eY:=(ae @List.replicate_succ.{0} @List.replicate_zero.{0} @au @ab kQ kS Sz (ae SD SZ ty5 ty6 ty7 ty8 kU (ae dc dd de df dv dw dz (ae dA eB eC eD eE eF eG (ae akE akF akG akH uK uL uM (ae uN uO uP uQ uR uS uT (ae jH jI jJ jK jL Qx Qy (ae CT CU CV CW CX Qz QA (ae CY CZ C0 C1 C2 C3 iA (ae iB iC iD pR pS pT pU (ae pV pW pX pY pZ nS nT (ae nU nV nW nX nY nZ n7 (ae p4 p5 p6 p7 p8 p9 qc (ae qd qe qf qg qh qi qj (ae qk ql qm qn qp mi mj (ae ml mm mn mq mr mu mv (ae mw my mz mA mB mC mD (ae mE mF mG abC abD abE @gr (ae @eR @aV @aw @aD @aG @cK @agZ (ae @agY @Xh @ua @WA.eq_1 @Ii @pM @TZ (EP @TY @Kc @GL @j5 @Sh.pf.eq_1 @pg.eq_1 @Ep.eq_1)))))))))))))))))))))
theorem WS(s:ByteArray)(w:World)(S:Nat->Prop)(hs:s.size<=9223372036854775807)(hg:fg w S)(he:bh w S):Calls Tryz.prog 22 #[.string s] w λe w' => lh w S e w' (elO (gF s)):=by
 have u0:=aE.up w S;have s0:=hg.mono (aE.eQ w S);have e0:=he.mono (aE.eQ w S);refine eL (nt:=19) S [.tmp 2,.cell 3 39] Tryz.func22 rfl rfl rfl ?_;refine vR Γ0 eY ?_;cases hF:lH s with
 | error e=>
  obtain⟨c,j⟩:=e;have hcd:decide (c=0)=false:=decide_eq_false (abl hF);have hE:gF s=.error (c,(j:Nat)):=by unfold gF;rw[hF]
  rw[hE,j5];refine wR (Jq (aE w S) s ([],.nil)) (aa eY hF) ?_ ?_
  ·exact⟨hs,s0⟩
  refine Wp.seq ?_;refine vR (Jq (aE w S) s ([],.nil)) (aa eY hcd) ?_;refine wC eY (λhc=>?_) (λhc=>?_)
  ·skip;refine yY Γ0 eY ?_;refine wZ eY ?_;exact λE=>rfl
  ·exact absurd hc sI
 | ok p=>
  have hE:gF s=rm p:=by unfold gF;rw[hF]
  rw[hE];refine wR (Jq (aE w S) s p) (aa eY hF) ?_ ?_
  ·exact⟨⟨hs,s0⟩,u0⟩
  refine Wp.da 24 (ev eY) (aY.refl _ _) λW1 bs1 cs hx1 hΦ1=>?_
  obtain⟨v,rfl,hv⟩:=hΦ1;have hvv:LE.hv v=v:=hv.hv;have u1:=u0.ext hx1;have e1:=e0.mono hx1.dW;refine Wp.seq ?_;refine vR (Jq (aE w S) s p) (aa eY hvv) ?_;refine wC eY (λhc=>?_) (λhc=>?_)
  ·exact absurd hc sI
  refine wK ?_;cases hF2:rm p with
  |error e=>
   obtain⟨c,j⟩:=e;rw[j5];refine wR (Jq (aE w S) s p) (bw eY hF2 hvv) ?_ ?_
   ·exact⟨hv,⟨Qn hF,Sw hF⟩,e1⟩
   refine wZ eY ?_;exact λE=>rfl
  |ok t=>
   rw[GL];refine wR (Jq (aE w S) s p) (bw eY hF2 hvv) ?_ ?_
   ·exact⟨⟨hv,⟨Qn hF,Sw hF⟩,e1⟩,u1⟩
   refine Wp.da 112 (ev eY) (aY.refl _ _) λW2 bs2 cs hx2 hΦ2=>?_
   obtain⟨v2,rfl,hv2⟩:=hΦ2;have hvv2:LE.hv v2=v2:=hv2.hv;refine wZ (aa eY hvv2) ?_;exact⟨[v2,.int .i64 0,.int .i64 0,.string ⟨#[]⟩],λE=>(OV hvv2).symm,v2,rfl,hv2⟩
def yL(s:ByteArray):lQ Tryz.prog 22 where
 kinds:=[none]
 pre:=λas_ W S=>as_=[.val (.string s)]/\s.size<=9223372036854775807/\fg W S/\bh W S
 premono:=λas_ W S W' S' hs h=>⟨h.1,h.2.1,h.2.2.1.mono hs,h.2.2.2.mono hs⟩
 out:=λ_=>elO (gF s)
 enters:=Tryz.call22
 ok:=by
  intro w S us as_ hu hp;obtain⟨rfl,h1,h2,h3⟩:=hp
  match us,hu with
  |[u],hu=>
   obtain⟨rfl,_⟩:=hu;exact WS s w S h1 h2 h3
theorem WU(w:World):Calls Tryz.prog 59 #[.nilIface] w λe w' => e=.returned (.string ⟨#[]⟩)/\an w [] w' := by
 refine ak (nt:=260) [.tmp 2] Tryz.func59 rfl rfl rfl ?_;refine vR Γ0 eY ?_;refine vR Γ0 eY ?_;refine Wp.seq ?_;refine vR Γ0 eY ?_;refine Wp.block ?_;refine vR Γ0 eY ?_;refine wC eY (λhc=>?_) (λhc=>?_)
 ·cases hc
 refine vR Γ0 eY ?_;refine wC eY (λhc=>?_) (λhc=>?_)
 ·cases hc
 refine vR Γ0 eY ?_;refine wC eY (λhc=>?_) (λhc=>?_)
 ·cases hc
 refine vR Γ0 eY ?_;refine wC eY (λhc=>?_) (λhc=>?_)
 ·cases hc
 refine wK ?_;refine vR Γ0 eY ?_;refine wZ eY ?_;exact λE=>rfl
theorem aaZ(w:World):Calls Tryz.prog 58 #[.nilIface] w λe w' => e=.returned (.int .i64 0)/\an w [] w' := by
 refine ak (nt:=105) [.tmp 2] Tryz.func58 rfl rfl rfl ?_;refine vR Γ0 eY ?_;refine Wp.seq ?_;refine vR Γ0 eY ?_;refine Wp.block ?_;refine vR Γ0 eY ?_;refine wC eY (λhc=>?_) (λhc=>?_)
 ·cases hc
 refine vR Γ0 eY ?_;refine wC eY (λhc=>?_) (λhc=>?_)
 ·cases hc
 refine vR Γ0 eY ?_;refine wC eY (λhc=>?_) (λhc=>?_)
 ·cases hc
 refine vR Γ0 eY ?_;refine wC eY (λhc=>?_) (λhc=>?_)
 ·cases hc
 refine wK ?_;refine vR Γ0 eY ?_;refine wZ eY ?_;exact λE=>rfl
def H5:a7 Tryz.prog 59 where
 pre:=λW bs as_=>as_=[.val .nilIface]
 res:=λ_ _=>.string ⟨#[]⟩
 enters:=Tryz.call59
 ok:=by
  intro W w bs us as_ hk hu hp;obtain rfl:=hp
  match us,hu with
  |[x],hu=>
   obtain⟨rfl,_⟩:=hu;exact WU w
def H8:a7 Tryz.prog 58 where
 pre:=λW bs as_=>as_=[.val .nilIface]
 res:=λ_ _=>.int .i64 0
 enters:=Tryz.call58
 ok:=by
  intro W w bs us as_ hk hu hp;obtain rfl:=hp
  match us,hu with
  |[x],hu=>
   obtain⟨rfl,_⟩:=hu;exact aaZ w
noncomputable def akU:Env Tryz.prog:=⟨λ| 59=>some H5.spec|58=>some H8.spec|_=>none,λ_=>none,λ_ _=>none⟩
theorem ag1:akU.sp 59=some H5.spec:=rfl
theorem ag0:akU.sp 58=some H8.spec:=rfl
section
variable (t:Tm)
noncomputable def aml:Env Tryz.prog:=⟨λ| 59=>some (F0 (dT t+1) (yM _)).spec|_=>none,λ_=>none,λ_ _=>none⟩
theorem ag2:(aml t).sp 59=some (F0 (dT t+1) (yM _)).spec:=rfl
end
def Nv:=(ae eY @ag1 @ag0 @ag2 @H5.eq_1 @H8.eq_1 @F3 @F4)
theorem P9(w:World):Calls Tryz.prog 25 #[.nilIface] w λe w' => e=.returned (.string ⟨#[]⟩)/\an w [] w' := by
 refine ak (nt:=5) [.tmp 2] Tryz.func25 rfl rfl rfl ?_;refine vR Γ0 Nv ?_;refine vR akU Nv ?_;refine wZ Nv ?_;exact λE=>rfl
theorem P8(t:Tm)(v:Value)(w:World)(hv:eS w (Out []) v t)(hs:tmB t)(hg:AP w (Out [])):Calls Tryz.prog 25 #[v] w λe w' => e=.returned (.string (uY t))/\an w [] w' := by
 have hD:qY w v=t:=cl hv;refine ak (nt:=5) [.tmp 2] Tryz.func25 rfl rfl rfl ?_;refine vR Γ0 Nv ?_;refine wR (aml t) (aa Nv hD) ?_ ?_
 ·exact⟨t,hv,hs,Nat.lt_succ_self _,hg⟩
 refine wZ Nv ?_;exact λE=>rfl
noncomputable def tt:a7 Tryz.prog 25 where
 pre:=λW bs as_=>∃ v t,as_=[.val v]/\eS W (Out bs) v t/\tmB t/\AP W (Out bs)
 res:=λW as_=>match as_ with
  |[.val v]=>.string (uY (qY W v))
  |_=>undef
 enters:=Tryz.call25
 ok:=by
  intro W w bs us as_ hk hu hp;obtain⟨v,t,rfl,h1,h2,h3⟩:=hp
  match us,hu with
  |[x],hu=>
   obtain⟨rfl,_⟩:=hu;simp only[cl h1];exact P8 t x w (h1.mono λb hb hn=>⟨hk.block b hb hn,by simp[Out]⟩) h2 ⟨h3.1.fR hk sI,h3.2.fR hk sI⟩
theorem zO(W:World)(bs:List Nat)(v:Value):tt.pre W bs [.val v]=∃ t,eS W (Out bs) v t/\tmB t/\AP W (Out bs):=by
 apply propext;constructor
 ·rintro⟨v',t,h1,h2⟩;cases h1;exact⟨t,h2⟩
 ·exact λ⟨t,h2⟩=>⟨v,t,rfl,h2⟩
theorem zP(W:World)(v:Value):tt.res W [.val v]=.string (uY (qY W v)):=rfl
def H4:a7 Tryz.prog 25 where
 pre:=λW bs as_=>as_=[.val .nilIface]
 res:=λ_ _=>.string ⟨#[]⟩
 enters:=Tryz.call25
 ok:=by
  intro W w bs us as_ hk hu hp;obtain rfl:=hp
  match us,hu with
  |[x],hu=>
   obtain⟨rfl,_⟩:=hu;exact P9 w
def L3:ByteArray:=⟨#[99,111,112,121,40,47,97,42,47,41,46,105,110,115,40,34,120,34,41]⟩
def akl:ByteArray:=⟨#[99,97,116,64,49,48,40,99,111,112,121,64,48,40,47,97,42,47,41,44,105,110,115,64,49,49,40,34,120,34,41,41]⟩
theorem spk:∃ t,gF L3=.ok t/\kdT t=4/\atT t=10/\uY t=akl/\cq t=6:=by
 have h:(match gF L3 with
  |.ok t=>decide (kdT t=4/\atT t=10/\uY t=akl/\cq t=6)
  |.error _=>false)=true:=by decide +kernel
 cases hF:gF L3 with
 |error e=>rw[hF]at h;cases h
 |ok t=>
  rw[hF]at h;exact⟨t,rfl,of_decide_eq_true h⟩
section
variable (G:Nat->Prop)(s:ByteArray)
noncomputable def M9:Env Tryz.prog:=⟨λ| 22=>some ((yL s).spec G)|25=>some tt.spec|24=>some nz.spec|f=>spT f,λ| 39=>some qP|_=>none,Xr⟩
theorem ag3:(M9 G s).sp 22=some ((yL s).spec G):=rfl
theorem ag5:(M9 G s).sp 25=some tt.spec:=rfl
theorem ag4:(M9 G s).sp 24=some nz.spec:=rfl
theorem Xi:(M9 G s).eqs 39=some qP:=rfl
theorem ag6{W:World}{bs:List Nat}{κ:Nat}{hh:Hp}{v:Value}{t:Tm}(h:eS W (Out bs) v t)(ht:fU t):aI (M9 G s) W bs κ hh "Kind" [.v v]=⟨True,.v (.int .i64 (kdT t:Nat)),[],none,[],[]⟩:=
 Uw rfl (λf s hf=>by
  unfold spT at hf
  split at hf<;>cases hf<;>rfl) h ht
theorem ag7{W:World}{bs:List Nat}{κ:Nat}{hh:Hp}{v:Value}{t:Tm}(h:eS W (Out bs) v t)(ht:fU t):aI (M9 G s) W bs κ hh "Place" [.v v]=⟨True,.v (.int .i64 (atT t:Nat)),[],none,[],[]⟩:=
 Bw rfl (λf s hf=>by
  unfold spT at hf
  split at hf<;>cases hf<;>rfl) h ht
end
def q7(W:World)(S:Nat->Prop):Prop:=fg W S/\AP W S
theorem q7.mono{W W' : World}{S S' : Nat->Prop}(h:q7 W S)(hs:aY W S W' S'):q7 W' S' := ⟨h.1.mono hs,h.2.1.mono hs,h.2.2.mono hs⟩
theorem eS.out{W:World}{G:Nat->Prop}{bs:List Nat}{v:Value}{t:Tm}(h:eS W (bF G bs) v t):eS W (Out bs) v t:=h.mono λb _ hb=>⟨rfl,hb.2⟩
def XW:=(ae Nv @fy @ag3 @ag5 @ag4 @Xi @yL.eq_1 (fJ @zO @zP @nA @nB))
theorem Mf(w:World)(hg:q7 w (Out [])):Calls Tryz.prog 21 #[] w λe w' => e=.returned (.bool true)/\LE.an w [] w' := by
 have dW:aY w (Out []) w (bF (λ_=>True) []):=λb _ h=>⟨rfl,trivial,h⟩
 have hr:=hg.mono dW;have u0:Up (λ_=>True) w []:=Up.true _ _;obtain⟨t,h1,h2,h3,h4,h5⟩:=spk;have hS:=Sg h1;refine ak (nt:=34) [.tmp 0] Tryz.func21 rfl rfl rfl ?_;refine vR Γ0 XW ?_;have e1:(⟨#[99,111,112,121,40,47,97,42,47,41,46,105,110,115,40,34,120,34,41]⟩:ByteArray)=L3:=rfl
 have e2:(⟨#[99,97,116,64,49,48,40,99,111,112,121,64,48,40,47,97,42,47,41,44,105,110,115,64,49,49,40,34,120,34,41,41]⟩:ByteArray)=akl:=rfl;refine wR (M9 (λ_=>True) L3) (bw XW h1 e1) ?_ ?_
 ·exact⟨⟨dE,hr.1,hr.2.1⟩,u0⟩
 refine Wp.da 8 (ev XW) (aY.refl _ _) λW1 bs1 cs hx1 hΦ1=>?_
 obtain⟨v,rfl,hv⟩:=hΦ1;have hO:eS W1 (Out bs1) v t:=hv.out;have hD:qY W1 v=t:=cl hv;have hg1:q7 W1 (Out bs1):=(hr.mono hx1.dW).mono λb _ hb=>⟨rfl,hb.2⟩
 have hvv:LE.hv v=v:=hv.hv;have kd:=λκ hh=>ag6 (λ_=>True) L3 (κ:=κ) (hh:=hh) hO hS.1
 have pl:=λκ hh=>ag7 (λ_=>True) L3 (κ:=κ) (hh:=hh) hO hS.1
 obtain⟨k,u,rfl⟩:=hv.iface;refine wR (M9 (λ_=>True) L3) (ae XW kd pl hD hvv h2 h3 (bw h4 h5 e2)) ?_ ?_
 ·exact⟨λ_=>⟨t,hO,hS,hg1.2⟩,λ_=>⟨t,hO,by have:=hS.2;unfold fY;omega⟩⟩
 refine wZ XW ?_;exact λE=>rfl
def CR:a7 Tryz.prog 21 where
 pre:=λW bs as_=>as_=[]/\q7 W (Out bs)
 res:=λ_ _=>.bool true
 enters:=Tryz.call21
 ok:=by
  intro W w bs us as_ hk hu hp;obtain⟨rfl,h1⟩:=hp
  match us,hu with
  |[],_=>exact Mf w (h1.mono λb hb hn=>⟨hk.block b hb hn,by simp[Out]⟩)
end
section
open Go Go.ChangeShapes Go.WideShapes Go.ChangeAt Go.RowKit Go.LE
set_option maxRecDepth 10000
theorem aim:Tryz.prog.globalNamed "loupe/syntax.ranks"=some 2:=kR
theorem ajw:(Tryz.prog.globals[2]?).map (·.type)=some 288:=kR
theorem am3:((begin Tryz.prog (λ_ _=>0) default).world.heap[1]?).bind Obj.row?=some (#[.int .i64 0],3):=kR
theorem VU{W:World}(h:Lib.VarReads Tryz.prog W "loupe/syntax.ranks" Rows.laid_loupe_syntax_ranks):Jy W (Out []):=by
 obtain⟨g,t,cs,fuel,p,h1,h2,h3,h4⟩:=h;obtain rfl:=Option.some.inj (aim.symm.trans h1);obtain rfl:=Option.some.inj (ajw.symm.trans h2);have e:(Rows.laid_loupe_syntax_ranks:DataW Unit)=.agg ((List.range 5).map λi=>.lit (.string (yt i).data.toList)):=rfl;rw[e]at h4
 have key:∀ i,i<5->W.cell? ⟨2,i,none⟩=some (.string (yt i)):=λi hi=>by
  obtain⟨f',d,q,hd,ht⟩:=Lib.array_elem Tryz.underlying288 h4 i hi;rw[aje]at ht;rw[List.getElem?_map,List.getElem?_range hi,Option.map_some,Option.some.injEq]at hd;subst hd;obtain⟨z0,g0,f0,_⟩:=DataW.trod_string Tryz.underlying9 ht;simp only[Prod.mk.injEq,DataW.lit.injEq,Lit.string.injEq]at f0
  obtain⟨f0,_⟩:=f0;have d0:yt i=z0:=by
   generalize yt i=s at f0;rcases s with ⟨⟨l⟩⟩;rcases z0 with ⟨⟨l'⟩⟩;simp only at f0;rw[f0]
  rw[d0];have g1:=congrArg (·[0]?) g0;simp only[List.getElem?_take,List.getElem?_drop,List.getElem?_cons_zero]at g1;refine yZ aim h3 i _ ?_;simpa using g1
 exact⟨by simp[Out],key 0 oM,key 1 oM,key 2 oM,key 3 oM,key 4 oM⟩
theorem U4{W:World}(hS:W.ShapedOpen Tryz.prog):AM W (Out []):=by
 have g6:=cell_of_shapedOpen_int (P:=Tryz.prog) (g:=1) (t:=3) (k:=.i64) hS (of_decide_eq_true (by kernel_rfl)) am3 (by kernel_rfl) (by kernel_rfl) (by kernel_rfl) Tryz.underlying3;exact⟨by simp[Out],g6⟩
end
section
open Go Go.RowKit Go.LE
theorem ncU(h:Nat->Option aX):cZ h [.v (.pointer none)]=R.bad:=rfl
theorem faU(P:Program)(h:Nat->Option aX)(S:TypeId)(f:Nat):cm P h S f [.v undef]=R.bad:=rfl
theorem ldU(P:Program)(W:World)(bs:List Nat)(h:Nat->Option aX)(T:TypeId):dG P W bs h T [.v undef]=R.bad:=rfl
theorem lnU(P:Program)(h:Nat->Option aX)(T:TypeId):jF P h T [.v undef]=R.bad:=rfl
theorem bnU(P:Program)(eqs:(T:TypeId)->Option (EqSpec P T))(h:Nat->Option aX)(T:TypeId)(X Y:Operand)(k:IntKind)(a:Int):bL P eqs h .gtr T X Y [.v undef,.v (.int k a)]=R.bad:=by
 simp only[bL,a6]
 first|done|rfl
theorem pkU(b:Bool):vW true (.v (.bool b)) (.v undef)=.v (.bool b):=rfl
end
section
open Go.RowKit Go.LE Go.Proofs.Tryz
set_option maxRecDepth 10000
structure Jw (d:Nat)(s s' : ByteArray):Prop where
 size:d+s.size<=s'.size
 byte:∀ k,k<s.size->bt s' ((d+k:Nat):Int)=bt s (k:Nat)
 fin:s'.size=d+s.size\/(d+s.size<s'.size/\(bt s' ((d+s.size:Nat):Int)=10\/(bt s' ((d+s.size:Nat):Int)=32/\∀ k,k<s.size->bt s (k:Nat)≠35)))
theorem Jw.ext{d:Nat}{s s' : ByteArray}(h:Jw d s s'){i j:Nat}(hj:j<=s.size):s'.extract (d+i) (d+j)=s.extract i j:=by
 have h1:=h.size;have e1:(s'.extract (d+i) (d+j)).size=j-i:=by rw[wy _ _ _ oM];omega
 have e2:(s.extract i j).size=j-i:=wy _ _ _ hj;refine XY oM λk hk=>?_
 rw[xL _ _ _ _ oM oM,xL _ _ _ _ hj oM,show d+i+k=d+(i+k) by omega];exact h.byte _ oM
theorem aap{d:Nat}{s s' : ByteArray}(h:Jw d s s')(i i' : Nat):∀ n n' k k' o,k' = d+k->n<=n' -> (mS s i n k o).2.2.1=0->mS s' i' n' k' o=((mS s i n k o).1,d+(mS s i n k o).2.1,0,0)
 |0,n',k,k',o,hk,hn,he=>by first|(simp[mS]at he;done)|(simp[oY]at he;done)
 |n+1,0,k,k',o,hk,hn,he=>by omega
 | n+1,n' + 1,k,k',o,hk,hn,he=>by
  subst hk;have ih:=λk' o=>aap h i i' n n' k' (d+k') o rfl oM
  have hz:=h.size;have hb:=h.byte;have e2:d+k+2=d+(k+2):=rfl;have e4:d+k+4=d+(k+4):=rfl;have e1:d+k+1=d+(k+1):=rfl;have e3:d+k+3=d+(k+3):=rfl;rw[mS]at he;rw[mS,mS,e1,e2,e3,e4];by_cases c0:k<s.size
  rotate_left
  ·rw[if_neg c0]at he
   first|(simp at he;done)|(simp[mS]at he;done)|(simp[oY]at he;done)
  rw[if_pos c0]at he;rw[if_pos c0,if_pos (show d+k<s'.size by omega),hb k c0];by_cases c1:bt s (k:Nat)=34
  ·rw[if_pos c1,if_pos c1]
  rw[if_neg c1]at he;rw[if_neg c1,if_neg c1];by_cases c2:qR (bt s (k:Nat))=false
  ·rw[if_pos c2]at he
   first|(simp at he;done)|(simp[mS]at he;done)|(simp[oY]at he;done)
  rw[if_neg c2]at he;rw[if_neg c2,if_neg c2];by_cases c3:¬ bt s (k:Nat)=92
  ·rw[if_pos c3]at he;rw[if_pos c3,if_pos c3];exact ih _ _ he
  rw[if_neg c3]at he;rw[if_neg c3,if_neg c3];by_cases c4:¬ k+1<s.size
  ·rw[if_pos c4]at he
   first|(simp at he;done)|(simp[mS]at he;done)|(simp[oY]at he;done)
  have c4' : k+1<s.size:=oM;rw[if_neg c4]at he;rw[if_neg c4,if_neg (show ¬ ¬ d+(k+1)<s'.size by omega),hb _ c4'];by_cases c5:bt s ((k+1:Nat):Int)=110
  ·rw[if_pos c5]at he;rw[if_pos c5,if_pos c5];exact ih _ _ he
  rw[if_neg c5]at he;rw[if_neg c5,if_neg c5];by_cases c6:bt s ((k+1:Nat):Int)=114
  ·rw[if_pos c6]at he;rw[if_pos c6,if_pos c6];exact ih _ _ he
  rw[if_neg c6]at he;rw[if_neg c6,if_neg c6];by_cases c7:bt s ((k+1:Nat):Int)=116
  ·rw[if_pos c7]at he;rw[if_pos c7,if_pos c7];exact ih _ _ he
  rw[if_neg c7]at he;rw[if_neg c7,if_neg c7];by_cases c8:bt s ((k+1:Nat):Int)=34\/bt s ((k+1:Nat):Int)=92
  ·rw[if_pos c8]at he;rw[if_pos c8,if_pos c8];exact ih _ _ he
  rw[if_neg c8]at he;rw[if_neg c8,if_neg c8];by_cases c9:bt s ((k+1:Nat):Int)=120
  rotate_left
  ·rw[if_neg c9]at he
   first|(simp at he;done)|(simp[mS]at he;done)|(simp[oY]at he;done)
  rw[if_pos c9]at he;rw[if_pos c9,if_pos c9];by_cases c10:¬ k+2<s.size
  ·rw[if_pos c10]at he
   first|(simp at he;done)|(simp[mS]at he;done)|(simp[oY]at he;done)
  rw[if_neg c10]at he;rw[if_neg c10,if_neg (show ¬ ¬ d+(k+2)<s'.size by omega),hb (k+2) oM];by_cases c11:ie (bt s ((k+2:Nat):Int))<0
  ·rw[if_pos c11]at he
   first|(simp at he;done)|(simp[mS]at he;done)|(simp[oY]at he;done)
  rw[if_neg c11]at he;rw[if_neg c11,if_neg c11];by_cases c12:¬ k+3<s.size
  ·rw[if_pos c12]at he
   first|(simp at he;done)|(simp[mS]at he;done)|(simp[oY]at he;done)
  rw[if_neg c12]at he;rw[if_neg c12,if_neg (show ¬ ¬ d+(k+3)<s'.size by omega),hb (k+3) oM];by_cases c13:ie (bt s ((k+3:Nat):Int))<0
  ·rw[if_pos c13]at he
   first|(simp at he;done)|(simp[mS]at he;done)|(simp[oY]at he;done)
  rw[if_neg c13]at he;rw[if_neg c13,if_neg c13];exact ih _ _ he
theorem aaG{d:Nat}{s s' : ByteArray}(h:Jw d s s')(i i' : Nat)(hi:i' = d+i):∀ n n' k k',k' = d+k->n<=n' -> (oY s i n k).2.2.1=0->oY s' i' n' k' = ((oY s i n k).1,d+(oY s i n k).2.1,0,0)
 |0,n',k,k',hk,hn,he=>by first|(simp[mS]at he;done)|(simp[oY]at he;done)
 |n+1,0,k,k',hk,hn,he=>by omega
 | n+1,n' + 1,k,k',hk,hn,he=>by
  subst hk;have ih:=λk' => aaG h i i' hi n n' k' (d+k') rfl oM
  have hz:=h.size;have hb:=h.byte;have e2:d+k+2=d+(k+2):=rfl;have e1:d+k+1=d+(k+1):=rfl;rw[oY]at he;rw[oY,oY,e1,e2];by_cases c0:k<s.size
  rotate_left
  ·rw[if_neg c0]at he
   first|(simp at he;done)|(simp[mS]at he;done)|(simp[oY]at he;done)
  rw[if_pos c0]at he;rw[if_pos c0,if_pos (show d+k<s'.size by omega),hb k c0];by_cases c1:qR (bt s (k:Nat))=false
  ·rw[if_pos c1]at he
   first|(simp at he;done)|(simp[mS]at he;done)|(simp[oY]at he;done)
  rw[if_neg c1]at he;rw[if_neg c1,if_neg c1];by_cases c2:bt s (k:Nat)=47
  ·rw[if_pos c2,if_pos c2];have:=h.ext (i:=i+1) (j:=k) oM;subst hi;rw[show d+i+1=d+(i+1) from rfl,this]
  rw[if_neg c2]at he;rw[if_neg c2,if_neg c2];by_cases c3:bt s (k:Nat)=92
  rotate_left
  ·rw[if_neg c3]at he;rw[if_neg c3,if_neg c3];exact ih _ he
  rw[if_pos c3]at he;rw[if_pos c3,if_pos c3];by_cases c4:k+1<s.size
  ·have e:=hb _ c4;by_cases c5:qR (bt s ((k+1:Nat):Int))=false
   ·rw[if_pos ⟨c4,c5⟩]at he
    first|(simp at he;done)|(simp[mS]at he;done)|(simp[oY]at he;done)
   rw[if_neg (λx=>c5 x.2)]at he;rw[if_neg (λx=>c5 (by rw[<- e];exact x.2)),if_neg (λx=>c5 x.2)];exact ih _ he
  ·rw[if_neg (λx=>c4 x.1)]at he;exfalso;cases n with
   |zero=>first|(simp at he;done)|(simp[mS]at he;done)|(simp[oY]at he;done)
   |succ n=>
    rw[oY,if_neg oM]at he
    first|(simp at he;done)|(simp[mS]at he;done)|(simp[oY]at he;done)
theorem ajZ{d:Nat}{s s' : ByteArray}(h:Jw d s s'):∀ n n' k,k<=s.size->s.size-k<=n->s'.size-(d+k)<=n' -> KR s' n' (d+k)=d+KR s n k:=by
 have hz:=h.size;have hend:∀ n',KR s' n' (d+s.size)=d+s.size:=λn' => by
  cases n' with
  |zero=>rfl
  | succ n' =>
   rw[KR];split
   ·rename_i hlt;have hc:nmB (bt s' ((d+s.size:Nat):Int))=false:=by
     rcases h.fin with h1|⟨_,h1|⟨h1,_⟩⟩
     ·omega
     ·rw[h1];decide
     ·rw[h1];decide
    rw[if_neg (by rw[hc];decide)]
   ·rfl
 intro n
 induction n with
 |zero=>
  intro n' k hk hn hn';have:k=s.size:=oM;subst this;exact hend n'
 | succ n ih=>
  intro n' k hk hn hn';by_cases c:k<s.size
  ·cases n' with
   |zero=>omega
   |succ n' =>
    rw[KR,KR,if_pos c,if_pos (show d+k<s'.size by omega),h.byte k c];split
    ·exact ih n' (k+1) oM oM oM
    ·rfl
  ·have:k=s.size:=oM;subst this;rw[hend,KR,if_neg c]
def uX(d:Nat)(t:Tk):Tk:=(t.1,d+t.2.1,t.2.2)
theorem afT{d:Nat}{s s' : ByteArray}(h:Jw d s s'){i:Nat}(hi:i<s.size)(he:(b9 s i).2.2.1=0):b9 s' (d+i)=(uX d (b9 s i).1,d+(b9 s i).2.1,0,0):=by
 have hz:=h.size;have hn:um s' (d+i)=d+um s i:=ajZ h _ _ (i+1) oM oM oM;have hq:=aap h i (d+i) (s.size-(i+1)) (s'.size-(d+i+1)) (i+1) (d+i+1) fL rfl oM;have hr:=aaG h i (d+i) rfl (s.size-(i+1)) (s'.size-(d+i+1)) (i+1) (d+i+1) rfl oM;have hl:um s i<=s.size:=(OG hi).2;unfold b9 at he ⊢
 rw[hn,h.byte i hi];by_cases c1:vL (bt s (i:Nat))=true
 ·rw[if_pos c1]at he;rw[if_pos c1,if_pos c1];by_cases c2:32<um s i-i
  ·rw[if_pos c2]at he
   first|(simp at he;done)|(simp[mS]at he;done)|(simp[oY]at he;done)
  ·rw[if_neg c2,if_neg oM,h.ext hl];rfl
 rw[if_neg c1]at he;rw[if_neg c1,if_neg c1];by_cases c2:bt s (i:Nat)=34
 ·rw[if_pos c2]at he;rw[if_pos c2,if_pos c2];have:=hq he;unfold zK;rw[this];rfl
 rw[if_neg c2]at he;rw[if_neg c2,if_neg c2];by_cases c3:bt s (i:Nat)=47
 ·rw[if_pos c3]at he;rw[if_pos c3,if_pos c3];have:=hr he;unfold Ah;rw[this];rfl
 rw[if_neg c3]at he;rw[if_neg c3,if_neg c3];by_cases c4:Er (bt s (i:Nat))=true
 ·rw[if_pos c4,if_pos c4];have:=h.ext (i:=i) (j:=i+1) oM;rw[show d+i+1=d+(i+1) from rfl,this];rfl
 rw[if_neg c4]at he;rw[if_neg c4,if_neg c4];by_cases c5:bt s (i:Nat)=62/\i+1<s.size/\bt s ((i+1:Nat):Int)=62
 ·rw[if_pos c5,if_pos ⟨c5.1,oM,by rw[show d+i+1=d+(i+1) from rfl,h.byte _ c5.2.1];exact c5.2.2⟩];rfl
 ·rw[if_neg c5]at he
  first|(simp at he;done)|(simp[mS]at he;done)|(simp[oY]at he;done)
def N7(s' : ByteArray)(x:Nat):Nat:=if s'.size=x then x else la s' (x+1)
theorem aei{d:Nat}{s s' : ByteArray}(h:Jw d s s'):∀ n b i,n=s.size-i->i<=s.size->(b=false\/s'.size=d+s.size\/bt s' ((d+s.size:Nat):Int)=10)->lb s' (s'.size-(d+i)) b (d+i)=if lb s n b i<s.size then d+lb s n b i else N7 s' (d+s.size):=by
 have hz:=h.size;intro n
 induction n with
 | zero=>
  intro b i hn hi hb;have:i=s.size:=oM;subst this;rw[lb,if_neg (Nat.lt_irrefl _)];unfold N7;by_cases c:s'.size=d+s.size
  ·rw[if_pos c,c,Nat.sub_self];rfl
  ·rw[if_neg c];obtain⟨m,hm⟩:∃ m,s'.size-(d+s.size)=m+1:=⟨s'.size-(d+s.size)-1,oM⟩;rw[hm,lb];have hc:rj (bt s' ((d+s.size:Nat):Int)) b=false/\Qg (bt s' ((d+s.size:Nat):Int)) false=false:=by
    rcases h.fin with h1|⟨_,h1|⟨h1,_⟩⟩
    ·exact absurd h1 c
    ·rw[h1];exact⟨by cases b<;>decide,dE⟩
    ·rw[h1];rcases hb with hb|hb|hb
     ·rw[hb];exact⟨dE,dE⟩
     ·exact absurd hb c
     ·rw[h1]at hb;exact absurd hb dE
   rw[hc.1,hc.2,if_neg dE];unfold la;rw[show s'.size-(d+s.size+1)=m by omega]
 | succ n ih=>
  intro b i hn hi hb;have c:i<s.size:=oM;obtain⟨m,hm⟩:∃ m,s'.size-(d+i)=m+1:=⟨s'.size-(d+i)-1,oM⟩;rw[hm,lb,lb,h.byte i c];by_cases c1:Qg (bt s (i:Nat)) (rj (bt s (i:Nat)) b)=true
  ·rw[if_pos c1,if_pos c1,if_pos c]
  ·rw[if_neg c1,if_neg c1];have:=ih (rj (bt s (i:Nat)) b) (i+1) oM oM (by
    rcases h.fin with h1|⟨_,h1|⟨h1,h2⟩⟩
    ·exact .inr (.inl h1)
    ·exact .inr (.inr h1)
    ·rcases hb with hb|hb|hb
     ·left
      rw[hb]
      unfold rj
      rw[if_neg (h2 i c)]
      split<;>rfl
     ·exact .inr (.inl hb)
     ·exact .inr (.inr hb))
   rw[show s'.size-(d+(i+1))=m by omega]at this;exact this
theorem Kl{d:Nat}{s s' : ByteArray}(h:Jw d s s'){i:Nat}(hi:i<=s.size):la s' (d+i)=if la s i<s.size then d+la s i else N7 s' (d+s.size):=aei h _ false i rfl hi (.inl rfl)
theorem afz{d:Nat}{s s' : ByteArray}(h:Jw d s s'):∀ n i l,s.size-i<=n->i<=s.size->(v8 s n i l).2.1=0->∃ ts,(v8 s n i l).1=l++ts++[(0,s.size,fL)]/\(∀ t∈ts,t.1≠0)/\∀ n' l',n<=n' -> ∃ m,n' - n<=m/\v8 s' n' (if i<s.size then d+i else N7 s' (d+s.size)) l' = v8 s' m (N7 s' (d+s.size)) (l' ++ ts.map (uX d)):=by
 have hz:=h.size;intro n
 induction n with
 |zero=>
  intro i l hn hi he;refine⟨[],by rw[List.append_nil];rfl,(λt ht=>by cases ht),λn' l' hn' => ⟨n',oM,?_⟩⟩;rw[if_neg oM,List.map_nil,List.append_nil]
 | succ n ih=>
  intro i l hn hi he;by_cases c:i<s.size
  rotate_left
  ·refine⟨[],?_,(λt ht=>by cases ht),λn' l' hn' => ⟨n',oM,?_⟩⟩
   ·rw[v8,if_neg c,List.append_nil]
   ·rw[if_neg c,List.map_nil,List.append_nil]
  rw[v8,if_pos c]at he ⊢;by_cases c1:(b9 s i).2.2.1=0
  rotate_left
  ·rw[if_neg c1]at he;exact absurd he c1
  rw[if_pos c1]at he ⊢;have h1:=yK c c1;have h2:=sV h1.2;obtain⟨ts,g1,g2,g3⟩:=ih _ _ oM h2.2 he;have hk:(b9 s i).1.1≠0:=by
   clear g3 g2 g1 he ih hn;have h0:=c1;clear c1 h1 h2;unfold b9 at h0 ⊢
   repeat' (split at h0<;>rename_i hh<;>(first|rw[if_pos hh]|rw[if_neg hh]))
   all_goals first|(intro hc;cases hc;done)|(exfalso;simp at h0;done)|(dsimp only;omega)
  refine⟨(b9 s i).1::ts,?_,λt ht=>?_,λn' l' hn' => ?_⟩
  ·rw[g1];simp
  ·rcases List.mem_cons.1 ht with rfl|ht
   ·exact hk
   ·exact g2 t ht
  ·obtain⟨n'',rfl⟩:∃ n'',n' = n'' + 1:=⟨n' - 1,oM⟩;obtain⟨m,m1,m2⟩:=g3 n'' (l' ++ [uX d (b9 s i).1]) oM;refine⟨m,oM,?_⟩;rw[if_pos c,v8,if_pos oM,afT h c c1];simp only[if_true];rw[Kl h h1.2,m2,List.map_cons,List.append_assoc,List.singleton_append]
theorem Ct{d:Nat}{s s' : ByteArray}(h:Jw d s s')(he:(bc s).2.1=0):∃ ts,(bc s).1=ts++[(0,s.size,fL)]/\(∀ t∈ts,t.1≠0)/\∀ n' l',s.size<=n' -> ∃ m,n' - s.size<=m/\v8 s' n' (la s' d) l' = v8 s' m (N7 s' (d+s.size)) (l' ++ ts.map (uX d)):=by
 unfold bc at he ⊢;split at he
 ·first|(simp at he;done)|(simp[mS]at he;done)|(simp[oY]at he;done)
 rename_i hs;rw[if_neg hs];obtain⟨ts,g1,g2,g3⟩:=afz h s.size (la s 0) [] oM (sV (Nat.zero_le _)).2 he;refine⟨ts,by rw[g1,List.nil_append],g2,λn' l' hn' => ?_⟩;obtain⟨m,m1,m2⟩:=g3 n' l' hn';refine⟨m,m1,?_⟩;rw[<- m2];have:=Kl h (i:=0) (Nat.zero_le _);rw[Nat.add_zero]at this;rw[this]
theorem aaO(s' : ByteArray)(m:Nat)(l:List Tk):v8 s' m s'.size l=(l++[(0,s'.size,fL)],0,0):=by
 cases m with
 |zero=>rfl
 |succ m=>rw[v8,if_neg (Nat.lt_irrefl _)]
def qU(d:Nat):Ex->Ex
 |.name a s=>.name (d+a) s
 |.text a s=>.text (d+a) s
 |.rx a s=>.rx (d+a) s
 |.call a w l=>.call (d+a) w (qU d l)
 |.keyed a x=>.keyed (d+a) (qU d x)
 |.unary a op x=>.unary (d+a) op (qU d x)
 |.binary a op x y=>.binary (d+a) op (qU d x) (qU d y)
 |.nil=>.nil
 |.cons x l=>.cons (qU d x) (qU d l)
structure Stop (z:List Tk):Prop where
 ne:z≠[]
 lev:∀ lev:Int,0<=lev->¬ ((pk z).1=4/\Nf (pk z).2.2=lev)
 star:eU z mf=false
 pls:eU z Ae=false
 ask:eU z XT=false
def y9(d:Nat)(z r r' : List Tk):Prop:=∃ l e,r=l++[e]/\e.1=0/\(∀ t∈l,t.1≠0)/\r' = l.map (uX d)++z
theorem y9.next{d:Nat}{z r r' : List Tk}(h:y9 d z r r')(hk:(pk r).1≠0):y9 d z r.tail r'.tail/\pk r' = uX d (pk r)/\r'.length=r'.tail.length+1/\r=pk r::r.tail:=by
 obtain⟨l,e,rfl,h0,hl,rfl⟩:=h;cases l with
 |nil=>exact absurd h0 hk
 |cons t l=>exact⟨⟨l,e,rfl,h0,λt ht=>hl t (List.mem_cons_of_mem _ ht),rfl⟩,rfl,sI,rfl⟩
theorem y9.fin{d:Nat}{z r r' : List Tk}(h:y9 d z r r')(hk:(pk r).1=0):r' = z/\r=[pk r]:=by
 obtain⟨l,e,rfl,h0,hl,rfl⟩:=h;cases l with
 |nil=>exact⟨rfl,rfl⟩
 |cons t l=>exact absurd hk (hl t sI)
theorem y9.pos{d:Nat}{z r r' : List Tk}(h:y9 d z r r')(hz:Stop z):1<=r.length/\1<=r'.length:=by
 obtain⟨l,e,rfl,h0,hl,rfl⟩:=h;have:=List.length_pos_iff.2 hz.ne;simp;omega
theorem ry{r r' : List Tk}{d:Nat}(h:pk r' = uX d (pk r))(m:ByteArray):eU r' m=eU r m:=by
 unfold eU;rw[h];rfl
theorem rz{r:List Tk}(h:(pk r).1=0)(m:ByteArray):eU r m=false:=by
 unfold eU;rw[h];rfl
def xB(d:Nat)(z:List Tk)(B:List Tk->Prop)(sub sub' : List Tk->PR):Prop:=∀ r r',y9 d z r r' -> B r->∀ a r2,sub r=.ok (a,r2)->∃ r2',sub' r' = .ok (qU d a,r2')/\y9 d z r2 r2' /\ r2 <:+ r/\r2'.length<=r'.length
def Tc(B:List Tk->Prop):Prop:=∀ r r2,r2 <:+ r->B r->B r2
section
variable {d:Nat}{z:List Tk}(hz:Stop z){B:List Tk->Prop}(hB:Tc B)
include hz hB
theorem Zp{sub sub' : List Tk->PR}(h:xB d z B sub sub'){lev:Int}(hl:0<=lev):∀ n n' a r r',r.length<=n->r'.length<=n' -> y9 d z r r' -> B r->∀ b r2,ll sub lev n a r=.ok (b,r2)->∃ r2',ll sub' lev n' (qU d a) r' = .ok (qU d b,r2')/\y9 d z r2 r2' /\ r2 <:+ r/\r2'.length<=r'.length:=by
 intro n
 induction n with
 |zero=>
  intro n' a r r' hn hn' hS hb b r2 he;have:=(hS.pos hz).1;omega
 | succ n ih=>
  intro n' a r r' hn hn' hS hb b r2 he;have hp:=(hS.pos hz).2;obtain⟨n',rfl⟩:∃ m,n' = m+1:=⟨n' - 1,oM⟩;rw[ll]at he;rw[ll];by_cases c:(pk r).1=4/\Nf (pk r).2.2=lev
  ·obtain⟨s1,s2,s3,s4⟩:=hS.next oM
   rw[if_pos c]at he;rw[s2,if_pos (show (uX d (pk r)).1=4/\Nf (uX d (pk r)).2.2=lev from c)];cases hs:sub r.tail with
   |error e=>
    rw[hs]at he;cases he
   |ok q=>
    obtain⟨x,r3⟩:=q;rw[hs]at he;obtain⟨r3',g1,g2,g3,g4⟩:=h _ _ s1 (hB _ _ (List.tail_suffix r) hb) x r3 hs;rw[g1];have hlt:=g3.length_le;rw[List.length_tail]at hlt;obtain⟨r2',k1,k2,k3,k4⟩:=ih n' _ r3 r3' oM oM g2 (hB _ _ (g3.trans (List.tail_suffix r)) hb) b r2 he
    exact⟨r2',k1,k2,k3.trans (g3.trans (List.tail_suffix r)),oM⟩
  ·rw[if_neg c]at he;cases he;refine⟨r',?_,hS,List.suffix_refl _,Nat.le_refl _⟩;by_cases c0:(pk r).1=0
   ·obtain⟨s1,s2⟩:=hS.fin c0;rw[s1,if_neg (hz.lev lev hl)]
   ·obtain⟨s1,s2,s3,s4⟩:=hS.next c0
    rw[s2,if_neg (show ¬ ((uX d (pk r)).1=4/\Nf (uX d (pk r)).2.2=lev) from c)]
theorem aeH{sub sub' : List Tk->PR}(h:xB d z B sub sub'){lev:Int}(hl:0<=lev):xB d z B (ui sub lev) (ui sub' lev):=by
 intro r r' hS hb a r2 he;unfold ui at he ⊢;cases hs:sub r with
 |error e=>
  rw[hs]at he;cases he
 |ok q=>
  obtain⟨x,r3⟩:=q;rw[hs]at he;obtain⟨r3',g1,g2,g3,g4⟩:=h _ _ hS hb x r3 hs;rw[g1];obtain⟨r2',k1,k2,k3,k4⟩:=Zp hz hB h hl r3.length r3'.length x r3 r3' (Nat.le_refl _) (Nat.le_refl _) g2 (hB _ _ g3 hb) a r2 he;exact⟨r2',k1,k2,k3.trans g3,oM⟩
theorem aaj:∀ n n' a r r',r.length<=n->r'.length<=n' -> y9 d z r r' -> B r->∃ r2',qS n' (qU d a) r' = (qU d (qS n a r).1,r2')/\y9 d z (qS n a r).2 r2' /\ (qS n a r).2 <:+ r/\r2'.length<=r'.length:=by
 intro n
 induction n with
 |zero=>
  intro n' a r r' hn hn' hS hb;have:=(hS.pos hz).1;omega
 | succ n ih=>
  intro n' a r r' hn hn' hS hb;have hp:=(hS.pos hz).2;obtain⟨n',rfl⟩:∃ m,n' = m+1:=⟨n' - 1,oM⟩;rw[qS,qS];by_cases c0:(pk r).1=0
  ·obtain⟨s1,s2⟩:=hS.fin c0;rw[if_neg (by rw[s1,hz.star,hz.pls,hz.ask];decide),if_neg (by rw[rz c0,rz c0,rz c0];decide)];exact⟨r',rfl,hS,List.suffix_refl _,Nat.le_refl _⟩
  ·obtain⟨s1,s2,s3,s4⟩:=hS.next c0
   rw[ry s2,ry s2,ry s2];by_cases c:((eU r mf||eU r Ae)||eU r XT)=true
   ·rw[if_pos c,if_pos c,s2];have hlt:=List.length_tail (l:=r);obtain⟨r2',k1,k2,k3,k4⟩:=ih n' (.unary (pk r).2.1 (pk r).2.2 a) r.tail r'.tail oM oM s1 (hB _ _ (List.tail_suffix r) hb);exact⟨r2',k1,k2,k3.trans (List.tail_suffix r),oM⟩
   ·rw[if_neg c,if_neg c];exact⟨r',rfl,hS,List.suffix_refl _,Nat.le_refl _⟩
theorem ae8{sub sub' : List Tk->PR}(h:xB d z B sub sub'):xB d z B (oQ sub) (oQ sub'):=by
 intro r r' hS hb a r2 he;unfold oQ at he ⊢;cases hs:sub r with
 |error e=>
  rw[hs]at he;cases he
 |ok q=>
  obtain⟨x,r3⟩:=q;rw[hs]at he;obtain⟨r3',g1,g2,g3,g4⟩:=h _ _ hS hb x r3 hs;rw[g1];obtain⟨r2',k1,k2,k3,k4⟩:=aaj hz hB r3.length r3'.length x r3 r3' (Nat.le_refl _) (Nat.le_refl _) g2 (hB _ _ g3 hb);simp only[Except.ok.injEq]at he;rw[he]at k1 k2 k3;exact⟨r2',congrArg Except.ok k1,k2,k3.trans g3,oM⟩
theorem G9{sub sub' : List Tk->PR}(h:xB d z B sub sub'):∀ k,k<=5->xB d z B (BK sub k) (BK sub' k)
 |0,_=>ae8 hz hB h
 |k+1,hk=>aeH hz hB (G9 h k oM) oM
end
theorem XS{d:Nat}{z:List Tk}{B:List Tk->Prop}(hB:Tc B){ex ex' : List Tk->PR}(h:xB d z B ex ex'):∀ n k l r r',y9 d z r r' -> B r->∀ a r2,kD ex n k l r=.ok (a,r2)->∃ r2',kD ex' n k (qU d l) r' = .ok (qU d a,r2')/\y9 d z r2 r2' /\ r2 <:+ r/\r2'.length<=r'.length:=by
 have snc:∀ l y:Ex,qU d (yG l y)=yG (qU d l) (qU d y):=by
  intro l y
  induction l with
  |cons x l _ ih=>simp only[yG,qU,ih]
  |_=>simp only[yG,qU]
 intro n
 induction n with
 |zero=>
  intro k l r r' hS hb a r2 he;cases he;exact⟨r',rfl,hS,List.suffix_refl _,Nat.le_refl _⟩
 | succ n ih=>
  intro k l r r' hS hb a r2 he;rw[kD]at he;rw[kD];by_cases c:0<k/\eU r Xo=false
  ·rw[if_pos c]at he;cases he
  rw[if_neg c]at he;have key:∃ q q',(if 0<k then r.tail else r)=q/\(if 0<k then r'.tail else r')=q' /\ y9 d z q q' /\ q <:+ r/\q'.length<=r'.length/\¬ (0<k/\eU r' Xo=false):=by
   by_cases ck:0<k
   ·have hm:eU r Xo=true:=by
     cases hm:eU r Xo with
     |true=>rfl
     |false=>exact absurd ⟨ck,hm⟩ c
    obtain⟨s1,s2,s3,s4⟩:=hS.next (gY hm)
    rw[if_pos ck,if_pos ck];exact⟨_,_,rfl,rfl,s1,List.tail_suffix r,oM,by rw[ry s2,hm];rintro⟨_,h⟩;cases h⟩
   ·rw[if_neg ck,if_neg ck];exact⟨_,_,rfl,rfl,hS,List.suffix_refl _,Nat.le_refl _,λh=>ck h.1⟩
  obtain⟨q,q',e1,e2,s1,s2,s3,s4⟩:=key;rw[e1]at he;rw[if_neg s4,e2];cases hs:ex q with
  |error e=>
   rw[hs]at he;cases he
  |ok p=>
   obtain⟨x,r3⟩:=p;rw[hs]at he;obtain⟨r3',g1,g2,g3,g4⟩:=h _ _ s1 (hB _ _ s2 hb) x r3 hs;rw[g1];obtain⟨r2',k1,k2,k3,k4⟩:=ih (k+1) (yG l x) r3 r3' g2 (hB _ _ (g3.trans s2) hb) a r2 he;rw[snc]at k1;exact⟨r2',k1,k2,k3.trans (g3.trans s2),oM⟩
theorem CB{d:Nat}{z:List Tk}{m:ByteArray}{f f' : Ex->Ex}(hf:∀ a,f' (qU d a)=qU d (f a)){q q' : PR}{r0 r0' : List Tk}(h:∀ a r2,q=.ok (a,r2)->∃ r2',q' = .ok (qU d a,r2')/\y9 d z r2 r2' /\ r2 <:+ r0/\r2'.length<=r0'.length){a:Ex}{r2:List Tk}(he:dk m f q=.ok (a,r2)):∃ r2',dk m f' q' = .ok (qU d a,r2')/\y9 d z r2 r2' /\ r2 <:+ r0/\r2'.length<=r0'.length:=by
 cases q with
 |error e=>cases he
 | ok p=>
  obtain⟨x,r3⟩:=p;obtain⟨r3',g1,g2,g3,g4⟩:=h x r3 rfl;have he' : (if eU r3 m=true then (.ok (f x,r3.tail):PR) else .error (60,(pk r3).2.1))=.ok (a,r2):=he;by_cases hm:eU r3 m=true
  ·rw[if_pos hm]at he';cases he';obtain⟨s1,s2,s3,s4⟩:=g2.next (gY hm)
   refine⟨r3'.tail,?_,s1,(List.tail_suffix r3).trans g3,oM⟩;rw[g1];show (if eU r3' m=true then (.ok (f' (qU d x),r3'.tail):PR) else .error (60,(pk r3').2.1))=_;rw[ry s2,if_pos hm,hf]
  ·rw[if_neg hm]at he';cases he'
def adR(t:Tk):Bool:=decide (t.1=4)&&(decide (t.2.2=Ew)||decide (t.2.2=R4))
def nbr:List Tk->Nat
 |[]=>0
 |t::r=>nbr r+if adR t=true then 1 else 0
theorem OE{r r2:List Tk}(h:r2 <:+ r):nbr r2<=nbr r:=by
 obtain⟨t,rfl⟩:=h
 induction t with
 |nil=>exact Nat.le_refl _
 |cons x t ih=>
  rw[List.cons_append,nbr];omega
theorem adS{r:List Tk}{b:ByteArray}(hb:b=Ew\/b=R4)(h:eU r b=true):adR (pk r)=true:=by
 unfold eU at h;unfold adR;simp only[Bool.and_eq_true,decide_eq_true_eq,Bool.or_eq_true]at h ⊢;refine⟨h.1,?_⟩;rw[h.2];exact hb
theorem sN{d:Nat}{z:List Tk}(hz:Stop z){B:List Tk->Prop}(hB:Tc B){M M' : Option (List Tk->PR)}
  (hO:∀ ex r,M=some ex->B r->(pk r).1≠0->adR (pk r)=true->r=pk r::r.tail->∃ ex' B',M' = some ex' /\ xB d z B' ex ex' /\ Tc B' /\ B' r.tail):xB d z B (eV M) (eV M'):=by
 intro r r' hS hb a r2 he;by_cases c0:(pk r).1=0
 ·exfalso;unfold eV at he;rw[rz c0,rz c0,c0,if_neg dE,if_neg dE,if_neg (by rintro⟨h,_⟩;exact absurd h dE),if_neg (by rintro⟨h,_⟩;exact absurd h dE),if_neg dE,if_neg dE]at he;cases he
 obtain⟨s1,s2,s3,s4⟩:=hS.next c0
 have open_sim:∀ {q q' : List Tk} {b:ByteArray} {go go' : (List Tk->PR)->List Tk->PR},(b=Ew\/b=R4)->y9 d z q q' -> q <:+ r->q'.length<=r'.length ->
   (∀ ex ex' B',xB d z B' ex ex' -> Tc B' -> ∀ t t',y9 d z t t' -> B' t->go ex t=.ok (a,r2)->∃ r2',go' ex' t' = .ok (qU d a,r2')/\y9 d z r2 r2' /\ r2 <:+ t/\r2'.length<=t'.length) ->
   e9 M q b go=.ok (a,r2)->∃ r2',e9 M' q' b go' = .ok (qU d a,r2')/\y9 d z r2 r2' /\ r2 <:+ r/\r2'.length<=r'.length:=by
  intro q q' b go go' hbb hSq hq hlq hgo h;unfold e9 at h;by_cases hm:eU q b=true
  ·rw[if_pos hm]at h;obtain⟨t1,t2,t3,t4⟩:=hSq.next (gY hm)
   cases hM:M with
   |none=>
    rw[hM]at h;cases h
   |some ex=>
    rw[hM]at h;obtain⟨ex',B',e1,e2,e3,e4⟩:=hO ex q hM (hB _ _ hq hb) (gY hm) (adS hbb hm) t4;obtain⟨r2',g1,g2,g3,g4⟩:=hgo ex ex' B' e2 e3 _ _ t1 e4 h;refine⟨r2',?_,g2,g3.trans ((List.tail_suffix q).trans hq),oM⟩;unfold e9;rw[ry t2,if_pos hm,e1];exact g1
  ·rw[if_neg hm]at h;cases h
 unfold eV at he ⊢;rw[ry s2,ry s2,s2];have k1:(uX d (pk r)).1=(pk r).1:=rfl;have k2:(uX d (pk r)).2.2=(pk r).2.2:=rfl;have k3:(uX d (pk r)).2.1=d+(pk r).2.1:=rfl;rw[k1,k2,k3]
 have here:∀ {x:Ex},(.ok (x,r.tail):PR)=.ok (a,r2)->∃ r2',(.ok (qU d x,r'.tail):PR)=.ok (qU d a,r2')/\y9 d z r2 r2' /\ r2 <:+ r/\r2'.length<=r'.length:=by
  intro x h;cases h;exact⟨_,rfl,s1,List.tail_suffix r,oM⟩
 by_cases c1:(pk r).1=2
 ·rw[if_pos c1]at he;rw[if_pos c1];exact here he
 rw[if_neg c1]at he;rw[if_neg c1];by_cases c2:(pk r).1=3
 ·rw[if_pos c2]at he;rw[if_pos c2];exact here he
 rw[if_neg c2]at he;rw[if_neg c2];by_cases c3:(pk r).1=1/\0<oq (pk r).2.2
 ·rw[if_pos c3]at he;rw[if_pos c3];refine open_sim (.inl rfl) s1 (List.tail_suffix r) oM (λex ex' B' h1 h2 t t' hT hbt h=>?_) he;refine CB (f' := .call (d+(pk r).2.1) (pk r).2.2) (λa=>rfl) (λa r2 hq=>?_) h;exact XS h2 h1 _ _ .nil _ _ hT hbt a r2 hq
 rw[if_neg c3]at he;rw[if_neg c3];by_cases c4:(pk r).1=1/\oq (pk r).2.2=0
 ·rw[if_pos c4]at he;rw[if_pos c4];exact here he
 rw[if_neg c4]at he;rw[if_neg c4];by_cases c5:eU r R4=true
 ·rw[if_pos c5]at he;rw[if_pos c5];refine open_sim (.inr rfl) hS (List.suffix_refl _) (Nat.le_refl _) (λex ex' B' h1 h2 t t' hT hbt h=>?_) he;exact CB (f' := .keyed (d+(pk r).2.1)) (λa=>rfl) (λa r2 hq=>h1 _ _ hT hbt a r2 hq) h
 rw[if_neg c5]at he;rw[if_neg c5];by_cases c6:eU r Ew=true
 ·rw[if_pos c6]at he;rw[if_pos c6];refine open_sim (.inl rfl) hS (List.suffix_refl _) (Nat.le_refl _) (λex ex' B' h1 h2 t t' hT hbt h=>?_) he;exact CB (f' := id) (λa=>rfl) (λa r2 hq=>h1 _ _ hT hbt a r2 hq) h
 rw[if_neg c6]at he;cases he
def Few(m m' : Nat)(r:List Tk):Prop:=m<=m' \/ nbr r<=m'
theorem lV(m m' : Nat):Tc (Few m m'):=λr r2 hs h=>by
 rcases h with h|h
 ·exact .inl h
 ·exact .inr (Nat.le_trans (OE hs) h)
theorem EV{d:Nat}{z:List Tk}(hz:Stop z):∀ m m',xB d z (Few m m') (eu m) (eu m')
 |0,0=>sN hz (lV _ _) λex r h=>by cases h
 |0,m' + 1=>sN hz (lV _ _) λex r h=>by cases h
 | m+1,0=>sN hz (lV _ _) λex r h hb hk hbr hr=>by
  exfalso;rcases hb with hb|hb
  ·omega
  ·rw[hr,nbr,if_pos hbr]at hb;omega
 | m+1,m' + 1=>sN hz (lV _ _) λex r h hb hk hbr hr=>by
  cases h;refine⟨gU (eu m'),Few m m',rfl,G9 hz (lV _ _) (EV hz m m') 5 (Nat.le_refl _),lV _ _,?_⟩;rcases hb with hb|hb
  ·exact .inl oM
  ·rw[hr,nbr,if_pos hbr]at hb;exact .inr oM
theorem vv{d:Nat}{z:List Tk}(hz:Stop z)(m m' : Nat):xB d z (Few m m') (gU (eu m)) (gU (eu m')):=G9 hz (lV _ _) (EV hz m m') 5 (Nat.le_refl _)
theorem FE(ex:List Tk->PR):∀ n ds r p r',fW ex n ds r=.ok (p,r')->ds.length<=p.1.length
 |0,ds,r,p,r',he=>by cases he
 | n+1,ds,r,p,r',he=>by
  rw[fW]at he
  repeat' split at he
  all_goals first
   |(cases he;done)
   | (have:=FE ex n _ _ _ _ he
      rw[List.length_append]at this
      omega)
   | (cases he
      exact Nat.le_refl _)
theorem O4{ex:List Tk->PR}{n:Nat}{r r' : List Tk}{x:Ex}(he:fW ex n [] r=.ok (([],x),r')):¬ ((pk r).1=1/\(pk r).2.2=gp)/\ex r=.ok (x,r')/\(pk r').1=0:=by
 cases n with
 |zero=>cases he
 | succ n=>
  rw[fW]at he;split at he
  ·exfalso
   repeat' split at he
   all_goals first
    |(cases he;done)
    | (have:=FE ex n _ _ _ _ he
       rw[List.length_append]at this
       simp at this)
  ·rename_i hc;refine⟨hc,?_⟩;split at he
   ·cases he
   ·rename_i x2 r2 hx;split at he
    ·rename_i h0;cases he;exact⟨hx,h0⟩
    ·cases he
theorem FY{s:ByteArray}{x:Ex}(h:lH s=.ok ([],x)):(bc s).2.1=0/\¬ ((pk (bc s).1).1=1/\(pk (bc s).1).2.2=gp)/\∃ r,gU (eu 64) (bc s).1=.ok (x,r)/\(pk r).1=0:=by
 unfold lH at h;split at h
 ·rename_i h0;refine⟨h0,?_⟩;split at h
  ·cases h
  ·rename_i p r' hp;cases h;obtain⟨h1,h2,h3⟩:=O4 hp;exact⟨h1,r',h2,h3⟩
 ·cases h
def Nj(s' : ByteArray)(a b:Nat)(ts:List Tk):Prop:=∀ n l,b-a<=n->∃ m,n-(b-a)<=m/\v8 s' n (la s' a) l=v8 s' m (la s' b) (l++ts)
theorem Nj.trans{s' : ByteArray}{a b c:Nat}{ts ts' : List Tk}(h:Nj s' a b ts)(h' : Nj s' b c ts')(hab:a<=b)(hbc:b<=c):Nj s' a c (ts++ts'):=by
 intro n l hn;obtain⟨m,m1,m2⟩:=h n l oM;obtain⟨k,k1,k2⟩:=h' m (l++ts) oM;refine⟨k,oM,?_⟩;rw[m2,k2,List.append_assoc]
theorem Km(s' : ByteArray):la s' s'.size=s'.size:=by
 unfold la;rw[Nat.sub_self];rfl
theorem Nj.scan{s' : ByteArray}{ts:List Tk}(h:Nj s' 0 s'.size ts)(hs:s'.size<=4096):bc s' = (ts++[(0,s'.size,fL)],0,0):=by
 unfold bc;rw[if_neg oM];obtain⟨m,m1,m2⟩:=h s'.size [] oM;rw[m2,Km,aaO,List.nil_append]
theorem Nj.eq{s' : ByteArray}{a b b' : Nat}{ts:List Tk}(h:Nj s' a b ts)(hb:b=b'):Nj s' a b' ts:=hb ▸ h
theorem Rs{d:Nat}{s s' : ByteArray}(h:Jw d s s'){ts:List Tk}(h0:(bc s).2.1=0)(ht:(bc s).1=ts++[(0,s.size,fL)]):Nj s' d (if s'.size=d+s.size then d+s.size else d+s.size+1) (ts.map (uX d)):=by
 intro n l hn;obtain⟨ts',g1,g2,g3⟩:=Ct h h0;rw[ht]at g1;have e:=List.append_cancel_right g1;subst e;have hle:s.size<=n:=by
  split at hn<;>omega
 obtain⟨m,m1,m2⟩:=g3 n l hle;refine⟨m,?_,?_⟩
 ·split<;>omega
 ·rw[m2];unfold N7;by_cases c:s'.size=d+s.size
  ·rw[if_pos c,if_pos c,<- c,Km]
  ·rw[if_neg c,if_neg c]
theorem Ro{d:Nat}{s s' : ByteArray}(h:Jw d s s'){ts:List Tk}(h0:(bc s).2.1=0)(ht:(bc s).1=ts++[(0,s.size,fL)])(he:s'.size=d+s.size):Nj s' d s'.size (ts.map (uX d)):=by
 have:=Rs h h0 ht;rw[if_pos he]at this;exact this.eq he.symm
theorem Rq{d:Nat}{s s' : ByteArray}(h:Jw d s s'){ts:List Tk}(h0:(bc s).2.1=0)(ht:(bc s).1=ts++[(0,s.size,fL)])(he:d+s.size<s'.size):Nj s' d (d+s.size+1) (ts.map (uX d)):=by
 have:=Rs h h0 ht;rw[if_neg oM]at this;exact this
theorem GM(p s q:ByteArray)(hq:q.size=0\/(0<q.size/\(bt q ((0:Nat):Int)=10\/(bt q ((0:Nat):Int)=32/\∀ k,k<s.size->bt s (k:Nat)≠35)))):Jw p.size s (p++(s++q)):=by
 have hz:(p++(s++q)).size=p.size+s.size+q.size:=by rw[ByteArray.size_append,ByteArray.size_append];omega
 have hx:∀ k,bt (p++(s++q)) ((p.size+k:Nat):Int)=if k<s.size then bt s (k:Nat) else bt q ((k-s.size:Nat):Int):=λk=>by
  rw[xK,if_neg oM,show p.size+k-p.size=k by omega,xK]
 refine⟨oM,λk hk=>by rw[hx,if_pos hk],?_⟩;rcases hq with hq|⟨h0,hq⟩
 ·left;omega
 ·right;refine⟨oM,?_⟩;rw[hx,if_neg (Nat.lt_irrefl _),Nat.sub_self];exact hq
def sp7:ByteArray:=⟨#[32,32,32,32,32,32,32]⟩
def Ib:ByteArray:=⟨#[32,32,32,32,32,32,32,32]⟩
def Xu:ByteArray:=⟨#[32]⟩
def lq7:ByteArray:=⟨#[108,101,116,32,113,32,61]⟩
def ya:ByteArray:=⟨#[108,101,116,32,113,32,61,32]⟩
def nq4:ByteArray:=⟨#[10,59,32,113]⟩
def nq3:ByteArray:=⟨#[59,32,113]⟩
def Hg:ByteArray:=⟨#[10,59,32,108,101,116,32,119,32,61,32,113,59,32,119]⟩
def aj1:ByteArray:=⟨#[59,32,108,101,116,32,119,32,61,32,113,59,32,119]⟩
def zJ:ByteArray:=⟨#[113]⟩
def Js:ByteArray:=⟨#[119]⟩
theorem aki:Ib=sp7++Xu:=by decide
theorem ajM:ya=lq7++Xu:=by decide
theorem aj0:nq4=⟨#[10]⟩++nq3:=by decide
theorem aeZ:Hg=⟨#[10]⟩++aj1:=by decide
theorem aa9:bc sp7=([]++[(0,sp7.size,fL)],0,0):=by decide +kernel
theorem Zq:bc lq7=([(1,0,gp),(1,4,zJ),(4,6,zw)]++[(0,lq7.size,fL)],0,0):=by decide +kernel
theorem ZS:bc nq3=([(4,0,xw),(1,2,zJ)]++[(0,nq3.size,fL)],0,0):=by decide +kernel
theorem Vi:bc aj1=([(4,0,xw),(1,2,gp),(1,6,Js),(4,8,zw),(1,10,zJ),(4,11,xw),(1,13,Js)]++[(0,aj1.size,fL)],0,0):=by decide +kernel
theorem aiE(p s q:ByteArray)(hp:p.size=7)(hc:∀ k,k<p.size->bt p (k:Nat)≠35){ts0 ts:List Tk}(h0:bc p=(ts0++[(0,p.size,fL)],0,0)):Nj (p++(Xu++(s++q))) 0 8 (ts0.map (uX 0)):=by
 have e1:p++(Xu++(s++q))=⟨#[]⟩++(p++(Xu++(s++q))):=by rw[show (⟨#[]⟩:ByteArray)=ByteArray.empty from rfl,ByteArray.empty_append]
 have hb:bt (Xu++(s++q)) ((0:Nat):Int)=32:=by
  rw[xK,if_pos dE];decide
 have hz:(Xu++(s++q)).size=1+(s++q).size:=by rw[ByteArray.size_append];rfl
 have he:=GM ⟨#[]⟩ p (Xu++(s++q)) (.inr ⟨oM,.inr ⟨hb,hc⟩⟩);rw[<- e1]at he;have hz2:(p++(Xu++(s++q))).size=p.size+(Xu++(s++q)).size:=ByteArray.size_append;have:=Rq he (by rw[h0]) (by rw[h0]) (by show 0+p.size<_;omega);exact this.eq (by show 0+p.size+1=8;omega)
theorem CI(k:Nat):Stop [(0,k,fL)]:=⟨sI,λlev hl h=>absurd h.1 (by show ¬ (0:Int)=4;decide),rfl,rfl,rfl⟩
theorem alY:Nf xw=-1:=by decide +kernel
theorem Ih(k:Nat)(r:List Tk):Stop ((4,k,xw)::r):=by
 refine⟨sI,λlev hl h=>?_,?_,?_,?_⟩
 ·have:Nf xw=lev:=h.2;rw[alY]at this;omega
 all_goals
  unfold eU;show (decide ((4:Int)=4)&&decide (xw=_))=false;decide
theorem Ru(w:ByteArray)(h0:gU (eu 64) [(1,0,w),(0,1,fL)]=.ok (.name 0 w,[(0,1,fL)])){z:List Tk}(hz:Stop z)(k:Nat):gU (eu 64) ((1,k,w)::z)=.ok (.name k w,z):=by
 obtain⟨r2',g1,g2,_⟩:=vv (d:=k) hz 64 64 [(1,0,w),(0,1,fL)] ((1,k,w)::z) ⟨[(1,0,w)],(0,1,fL),rfl,rfl,sI,rfl⟩ (.inl (Nat.le_refl _)) _ _ h0;have:=(g2.fin rfl).1;subst this;exact g1
theorem alr{z:List Tk}(hz:Stop z)(k:Nat):gU (eu 64) ((1,k,zJ)::z)=.ok (.name k zJ,z):=Ru zJ rfl hz k
theorem amU{z:List Tk}(hz:Stop z)(k:Nat):gU (eu 64) ((1,k,Js)::z)=.ok (.name k Js,z):=Ru Js rfl hz k
theorem yp{n:Nat}{ds:List (Nat×ByteArray×Ex)}{r r' : List Tk}{x:Ex}(hl:¬ ((pk r).1=1/\(pk r).2.2=gp))(he:gU (eu 64) r=.ok (x,r'))(h0:(pk r').1=0):fW (gU (eu 64)) (n+1) ds r=.ok ((ds,x),r'):=by
 rw[fW,if_neg hl,he];simp only;rw[if_pos h0]
theorem Ch{n:Nat}{ds:List (Nat×ByteArray×Ex)}{a b c k:Nat}{w:ByteArray}{r r' : List Tk}{x:Ex}(hw:oq w=0)(he:gU (eu 64) r=.ok (x,(4,k,xw)::r')):fW (gU (eu 64)) (n+1) ds ((1,a,gp)::(1,b,w)::(4,c,zw)::r)=fW (gU (eu 64)) n (ds++[(b,w,x)]) r' := by
 have e1:pk ((1,a,gp)::(1,b,w)::(4,c,zw)::r)=(1,a,gp):=rfl;have e2:((1,a,gp)::(1,b,w)::(4,c,zw)::r:List Tk).tail=(1,b,w)::(4,c,zw)::r:=rfl;have e3:((1,b,w)::(4,c,zw)::r:List Tk).tail=(4,c,zw)::r:=rfl;have e4:((4,c,zw)::r:List Tk).tail=r:=rfl;have e5:pk ((1,b,w)::(4,c,zw)::r)=(1,b,w):=rfl
 have m1:eU ((4,c,zw)::r) zw=true:=by
  unfold eU;show (decide ((4:Int)=4)&&decide (zw=zw))=true;decide
 have m2:eU ((4,k,xw)::r') xw=true:=by
  unfold eU;show (decide ((4:Int)=4)&&decide (xw=xw))=true;decide
 rw[fW,e1,e2,e3,e4,e5,if_pos ⟨rfl,rfl⟩,if_neg (by simp[hw]),if_neg (by rw[m1];decide),he];simp only;rw[if_neg (by rw[m2];decide)];rfl
section
variable {s:ByteArray}{x:Ex}(h:lH s=.ok ([],x))(hs:s.size<=4000)
include h hs
theorem akq:gF (Ib++s)=aP [] (qU 8 x):=by
 obtain⟨h0,hl,r,he,hr⟩:=FY h;have e0:Ib++s=sp7++(Xu++(s++⟨#[]⟩)):=by
  rw[aki,show (⟨#[]⟩:ByteArray)=ByteArray.empty from rfl,ByteArray.append_empty,ByteArray.append_assoc]
 have e1:Ib++s=Ib++(s++⟨#[]⟩):=by rw[show (⟨#[]⟩:ByteArray)=ByteArray.empty from rfl,ByteArray.append_empty]
 have hz:(Ib++s).size=8+s.size:=by rw[ByteArray.size_append];rfl
 have hE:Jw 8 s (Ib++s):=by
  rw[e1];exact GM Ib s ⟨#[]⟩ (.inl rfl)
 obtain⟨ts,t1,t2,_⟩:=Ct hE h0;have r1:Nj (Ib++s) 0 8 []:=by
  rw[e0];exact aiE sp7 s ⟨#[]⟩ rfl dE (ts:=[]) aa9
 have r2:=Ro hE h0 t1 hz;have hsc:=(r1.trans r2 oM oM).scan oM;rw[List.nil_append]at hsc;have hS:y9 8 [(0,(Ib++s).size,fL)] (bc s).1 (ts.map (uX 8)++[(0,(Ib++s).size,fL)]):=⟨ts,_,t1,rfl,t2,rfl⟩;obtain⟨r',g1,g2,_⟩:=vv (CI _) 64 64 _ _ hS (.inl (Nat.le_refl _)) _ _ he;have g3:=(g2.fin hr).1;subst g3
 have hl' : ¬ ((pk (ts.map (uX 8)++[(0,(Ib++s).size,fL)])).1=1/\(pk (ts.map (uX 8)++[(0,(Ib++s).size,fL)])).2.2=gp):=by
  by_cases c:(pk (bc s).1).1=0
  ·rw[(hS.fin c).1];rintro⟨q,_⟩;exact absurd q (by show ¬ (0:Int)=1;decide)
  ·rw[(hS.next c).2.1];exact hl
 obtain⟨n,hn⟩:∃ n,(ts.map (uX 8)++[(0,(Ib++s).size,fL)]:List Tk).length=n+1:=⟨ts.length,sI⟩;have hsyn:lH (Ib++s)=.ok ([],qU 8 x):=by
  unfold lH;rw[hsc];simp only[if_true];rw[hn,yp hl' g1 rfl]
 unfold gF;rw[hsyn];rfl
theorem Sx{z:List Tk}{zt:ByteArray}{tz:List Tk}(hq:bt zt ((0:Nat):Int)=10){z3:ByteArray}(e3:zt=⟨#[10]⟩++z3)(hz3:z3.size<=20)(hsz:bc z3=(tz++[(0,z3.size,fL)],0,0)) :
  ∃ ts r,bc (ya++s++zt)=([(1,0,gp),(1,4,zJ),(4,6,zw)]++(ts.map (uX 8)++(tz.map (uX (8+s.size+1))++[(0,(ya++s++zt).size,fL)])),0,0)/\(bc s).1=ts++[(0,s.size,fL)]/\(∀ t∈ts,t.1≠0)/\gU (eu 64) (bc s).1=.ok (x,r)/\(pk r).1=0:=by
 obtain⟨h0,hl,r,he,hr⟩:=FY h;have e0:ya++s++zt=lq7++(Xu++(s++zt)):=by
  rw[ajM,ByteArray.append_assoc,ByteArray.append_assoc]
 have e1:ya++s++zt=ya++(s++zt):=by rw[ByteArray.append_assoc]
 have zz:zt.size=1+z3.size:=by rw[e3,ByteArray.size_append];rfl
 have hz:(ya++s++zt).size=8+s.size+zt.size:=by rw[ByteArray.size_append,ByteArray.size_append];rfl
 have hE:Jw 8 s (ya++s++zt):=by
  rw[e1];exact GM ya s zt (.inr ⟨oM,.inl hq⟩)
 obtain⟨ts,t1,t2,_⟩:=Ct hE h0;have r1:Nj (ya++s++zt) 0 8 [(1,0,gp),(1,4,zJ),(4,6,zw)]:=by
  rw[e0];exact aiE lq7 s zt rfl dE (ts:=[]) Zq
 have r2:=Rq hE h0 t1 oM;have e4:ya++s++zt=(ya++s++⟨#[10]⟩)++(z3++⟨#[]⟩):=by
  rw[e3,show (⟨#[]⟩:ByteArray)=ByteArray.empty from rfl,ByteArray.append_empty];simp only[ByteArray.append_assoc]
 have hE3:Jw (8+s.size+1) z3 (ya++s++zt):=by
  have:=GM (ya++s++⟨#[10]⟩) z3 ⟨#[]⟩ (.inl rfl);rw[<- e4]at this;have e5:(ya++s++⟨#[10]⟩).size=8+s.size+1:=by rw[ByteArray.size_append,ByteArray.size_append];rfl
  rwa [e5]at this
 have r3:=Ro hE3 (by rw[hsz]) (by rw[hsz]) oM;have hsc:=((r1.trans r2 oM oM).trans r3 oM oM).scan oM;refine⟨ts,r,?_,t1,t2,he,hr⟩;rw[hsc];simp only[List.append_assoc]
theorem al3:gF (ya++s++nq4)=aP [] (qU 8 x):=by
 obtain⟨ts,r,hsc,t1,t2,he,hr⟩:=Sx h hs (z:=[]) (zt:=nq4) (tz:=[(4,0,xw),(1,2,zJ)]) dE aj0 dE ZS;generalize hZ:(ya++s++nq4).size=Z at hsc;generalize hK:8+s.size+1=K at hsc
 have hS:y9 8 ((4,K,xw)::(1,K+2,zJ)::[(0,Z,fL)]) (bc s).1 (ts.map (uX 8)++((4,K,xw)::(1,K+2,zJ)::[(0,Z,fL)])):=⟨ts,_,t1,rfl,t2,rfl⟩;obtain⟨r',g1,g2,_⟩:=vv (Ih _ _) 64 64 _ _ hS (.inl (Nat.le_refl _)) _ _ he;have g3:=(g2.fin hr).1;subst g3
 have hsyn:lH (ya++s++nq4)=.ok ([(4,zJ,qU 8 x)],.name (K+2) zJ):=by
  unfold lH;rw[hsc];simp only[if_true];obtain⟨n,hn⟩:∃ n,([(1,0,gp),(1,4,zJ),(4,6,zw)]++(ts.map (uX 8)++(([(4,0,xw),(1,2,zJ)]:List Tk).map (uX K)++[(0,Z,fL)])):List Tk).length=n+2:=⟨ts.length+4,sI⟩;rw[hn];have:=Ch (n:=n+1) (ds:=[]) (a:=0) (b:=4) (c:=6) (by decide:oq zJ=0) g1
  rw[yp (by rintro⟨_,h⟩;exact absurd (show zJ=gp from h) dE) (alr (CI Z) (K+2)) rfl]at this;exact congrArg (λy:Except (Int×Nat) (Pm×List Tk)=>(match y with|.error e=>(.error e:Except (Int×Nat) Pm)|.ok (p,_)=>.ok p)) this
 unfold gF;rw[hsyn];simp only[rm,rl,Fo];cases aP [] (qU 8 x) with
 |error e=>rfl
 |ok t=>simp only[List.nil_append,aP,Fo,if_true]
theorem al4:gF (ya++s++Hg)=aP [] (qU 8 x):=by
 obtain⟨ts,r,hsc,t1,t2,he,hr⟩:=Sx h hs (z:=[]) (zt:=Hg) (tz:=[(4,0,xw),(1,2,gp),(1,6,Js),(4,8,zw),(1,10,zJ),(4,11,xw),(1,13,Js)]) dE aeZ dE Vi;generalize hZ:(ya++s++Hg).size=Z at hsc;generalize hK:8+s.size+1=K at hsc
 have hS:y9 8 ((4,K,xw)::(1,K+2,gp)::(1,K+6,Js)::(4,K+8,zw)::(1,K+10,zJ)::(4,K+11,xw)::(1,K+13,Js)::[(0,Z,fL)]) (bc s).1 (ts.map (uX 8)++((4,K,xw)::(1,K+2,gp)::(1,K+6,Js)::(4,K+8,zw)::(1,K+10,zJ)::(4,K+11,xw)::(1,K+13,Js)::[(0,Z,fL)])):=⟨ts,_,t1,rfl,t2,rfl⟩
 obtain⟨r',g1,g2,_⟩:=vv (Ih _ _) 64 64 _ _ hS (.inl (Nat.le_refl _)) _ _ he;have g3:=(g2.fin hr).1;subst g3;have hsyn:lH (ya++s++Hg)=.ok ([(4,zJ,qU 8 x),(K+6,Js,.name (K+10) zJ)],.name (K+13) Js):=by
  unfold lH;rw[hsc];simp only[if_true];obtain⟨n,hn⟩:∃ n,([(1,0,gp),(1,4,zJ),(4,6,zw)]++(ts.map (uX 8)++(([(4,0,xw),(1,2,gp),(1,6,Js),(4,8,zw),(1,10,zJ),(4,11,xw),(1,13,Js)]:List Tk).map (uX K)++[(0,Z,fL)])):List Tk).length=n+3:=⟨ts.length+8,sI⟩;rw[hn]
  have:=Ch (n:=n+2) (ds:=[]) (a:=0) (b:=4) (c:=6) (by decide:oq zJ=0) g1;rw[Ch (n:=n+1) (by decide:oq Js=0) (alr (Ih _ _) (K+10)),yp (by rintro⟨_,h⟩;exact absurd (show Js=gp from h) dE) (amU (CI Z) (K+13)) rfl]at this
  exact congrArg (λy:Except (Int×Nat) (Pm×List Tk)=>(match y with|.error e=>(.error e:Except (Int×Nat) Pm)|.ok (p,_)=>.ok p)) this
 unfold gF;rw[hsyn];simp only[rm,rl,Fo];have hne:¬ zJ=Js:=by decide
 cases aP [] (qU 8 x) with
 |error e=>rfl
 |ok t=>simp only[List.nil_append,List.cons_append,aP,Fo,rl,if_true,if_neg hne]
end
end
section
open Go Go.RowKit Go.LE
set_option maxRecDepth 10000
section
variable (G:Nat->Prop)(s a b c:ByteArray)
noncomputable def sJ:Env Tryz.prog:=⟨λ| 21=>some CR.spec|22=>some ((yL s).spec G)|28=>some ((WA s).spec G)|25=>some tt.spec|24=>some nz.spec|_=>none,λ| 39=>some qP|_=>none,λ_ _=>none⟩
theorem ag8:(sJ G s).sp 21=some CR.spec:=rfl
theorem ag9:(sJ G s).sp 22=some ((yL s).spec G):=rfl
theorem ahc:(sJ G s).sp 28=some ((WA s).spec G):=rfl
theorem ahb:(sJ G s).sp 25=some tt.spec:=rfl
theorem aha:(sJ G s).sp 24=some nz.spec:=rfl
theorem Xj:(sJ G s).eqs 39=some qP:=rfl
noncomputable def EM:Env Tryz.prog:=⟨λ| 25=>some H4.spec|_=>none,λ| 39=>some qP|_=>none,λ_ _=>none⟩
theorem ahd:EM.sp 25=some H4.spec:=rfl
theorem Xk:EM.eqs 39=some qP:=rfl
end
theorem FQ:(⟨#[32,32,32,32,32,32,32,32]⟩:ByteArray)=Ib:=rfl
theorem s6:(⟨#[108,101,116,32,113,32,61,32]⟩:ByteArray)=ya:=rfl
theorem Fv:(⟨#[10,59,32,113]⟩:ByteArray)=nq4:=rfl
theorem BV:(⟨#[10,59,32,108,101,116,32,119,32,61,32,113,59,32,119]⟩:ByteArray)=Hg:=rfl
def gK:=(ae @List.replicate_succ.{0} @List.replicate_zero.{0} @au @ab kQ kS kU (ae dc dd de df dv dw dz (ae dA eB eC eD eE eF eG (ae n8 oa ob oc uK uL uM (ae uN uO uP uQ uR uS uT (ae jH jI jJ jK jL Qx Qy (ae CT CU CV CW CX Qz QA (ae QB QC QD QE CY CZ C0 (ae C1 C2 C3 QI QJ QK QL (ae QM QN QO QP @gr @eR @aV (ae @aw @aD @aG @cK @ag8 @ag9 @ahc (ae @ahb @aha @Xj @ahd @Xk @ua @CR.eq_1 (ae @ncU @faU @ldU @lnU @bnU @pkU @R.bad.eq_1 (ae @WA.eq_1 @yL.eq_1 @Ii @pM @GL @j5 @Sh.pf.eq_1 (EP @pg.eq_1 @Ep.eq_1 @zO @zP @nA @nB @H4.eq_1)))))))))))))))
theorem UP(s:ByteArray)(w:World)(hs:s.size<=9223372036854775807)(hg:q7 w (Out [])):Calls Tryz.prog 9 #[.string s] w λe w' => e=.returned (.bool true)/\LE.an w [] w' := by
 have dW:aY w (Out []) w (bF (λ_=>True) []):=λb _ h=>⟨rfl,trivial,h⟩
 have hr:=hg.mono dW;have u0:Up (λ_=>True) w []:=Up.true _ _;refine ak (nt:=86) [.tmp 2] Tryz.func9 rfl rfl rfl ?_;refine vR EM gK ?_;refine Wp.seq ?_;refine wR (sJ (λ_=>True) s) gK ?_ ?_
 ·exact hg
 refine wC gK (λhc=>?_) (λhc=>?_)
 ·exact absurd hc sI
 refine wK ?_;cases hF:lH s with
 | error e=>
  obtain⟨c,j⟩:=e;have hcd:decide (c=0)=false:=decide_eq_false (abl hF);refine wR (sJ (λ_=>True) s) (aa gK hF) ?_ ?_
  ·exact⟨oM,hr.1⟩
  refine Wp.seq ?_;refine vR EM (qE gK hcd @Bool.false_and @Bool.xor_false @Bool.true_or) ?_;refine wC gK (λhc=>?_) (λhc=>?_)
  ·skip;refine vR EM gK ?_;refine wZ gK ?_;exact λE=>rfl
  ·exact absurd hc sI
 | ok p=>
  refine wR (sJ (λ_=>True) s) (aa gK hF) ?_ ?_
  ·exact⟨⟨oM,hr.1⟩,u0⟩
  refine Wp.da 32 (ev gK) (aY.refl _ _) λW1 bs1 cs hx1 hΦ1=>?_
  obtain⟨vp,rfl,hvp⟩:=hΦ1;have hr1:=hr.mono hx1.dW;have up1:Up (λ_=>True) W1 bs1:=Up.true _ _;obtain⟨b,ao,c,xs,u,rfl,x0,x1,hsl,hmain⟩:=hvp;refine Wp.seq ?_;refine wR EM (aa gK x0.2) ?_ ?_
  ·exact⟨λ_=>x0.1.2,λ_=>⟨_,rfl⟩⟩
  refine wC gK (λhc=>?_) (λhc=>?_)
  ·skip;refine vR EM gK ?_;refine wZ gK ?_;exact λE=>rfl
  refine wK ?_;have hp0:p.1.length=0/\s.size<=4000:=by
   simp at hc;refine⟨?_,oM⟩;rw[hc.1];rfl
  clear hc;obtain⟨ds,x⟩:=p;obtain⟨hp1,h4⟩:=hp0;obtain rfl:ds=[]:=List.length_eq_zero_iff.1 hp1;have r1:=akq hF h4;have r2:=al3 hF h4;have r3:=al4 hF h4;have z8:Ib.size=8:=rfl;have zl:ya.size=8:=rfl;have z4:nq4.size=4:=rfl;have z14:Hg.size=15:=rfl;cases hR:aP [] (qU 8 x) with
  | error e=>
   obtain⟨c,j⟩:=e;rw[hR]at r1 r2 r3;refine wR (sJ (λ_=>True) (Ib++s)) (fJ gK r1 @FQ @ByteArray.size_append) ?_ ?_
   ·exact⟨oM,oM,hr1.1,hr1.2.1⟩
   refine wR (sJ (λ_=>True) (ya++s++nq4)) (qE gK r2 @s6 @Fv @ByteArray.size_append) ?_ ?_
   ·exact⟨oM,oM,oM,hr1.1,hr1.2.1⟩
   refine wR (sJ (λ_=>True) (ya++s++Hg)) (qE gK r3 @s6 @BV @ByteArray.size_append) ?_ ?_
   ·exact⟨oM,oM,oM,hr1.1,hr1.2.1⟩
   refine Wp.seq ?_;refine vR EM gK ?_;by_cases h70:c=70
   ·subst h70;refine wC gK (λhc=>?_) (λhc=>?_)
    rotate_left
    ·exact absurd hc sI
    refine vR EM gK ?_;refine wZ gK ?_;exact λE=>rfl
   ·have hd70:decide (c=70)=false:=decide_eq_false h70;refine wC gK (λhc=>?_) (λhc=>?_)
    ·exact absurd hc (by simp[h70])
    refine wK ?_;refine vR EM gK ?_;refine wZ gK ?_;exact λE=>by simp[den]
  |ok t=>
   rw[hR]at r1 r2 r3;have hS:=Sg r1;refine wR (sJ (λ_=>True) (Ib++s)) (fJ gK r1 @FQ @ByteArray.size_append) ?_ ?_
   ·exact⟨oM,⟨oM,hr1.1,hr1.2.1⟩,up1⟩
   refine Wp.da 232 (ev gK) (aY.refl _ _) λW2 bs2 cs2 hx2 hΦ2=>?_
   obtain⟨v1,rfl,hv1⟩:=hΦ2;have hh1:LE.hv v1=v1:=hv1.hv;have hr2:=hr1.mono hx2.dW;have up2:Up (λ_=>True) W2 bs2:=Up.true _ _;refine wR (sJ (λ_=>True) (ya++s++nq4)) (sK gK r2 @s6 @Fv hh1 @ByteArray.size_append) ?_ ?_
   ·exact⟨oM,oM,⟨oM,hr2.1,hr2.2.1⟩,up2⟩
   refine Wp.da 312 (ev gK) (aY.refl _ _) λW3 bs3 cs3 hx3 hΦ3=>?_
   obtain⟨v2,rfl,hv2⟩:=hΦ3;have hh2:LE.hv v2=v2:=hv2.hv;have hr3:=hr2.mono hx3.dW;have up3:Up (λ_=>True) W3 bs3:=Up.true _ _;refine wR (sJ (λ_=>True) (ya++s++Hg)) (EP gK r3 @s6 @BV hh1 hh2 @ByteArray.size_append) ?_ ?_
   ·exact⟨oM,oM,⟨oM,hr3.1,hr3.2.1⟩,up3⟩
   refine Wp.da 392 (ev gK) (aY.refl _ _) λW4 bs4 cs4 hx4 hΦ4=>?_
   obtain⟨v3,rfl,hv3⟩:=hΦ4;have hh3:LE.hv v3=v3:=hv3.hv;have hr4:=(hr3.mono hx4.dW).mono (S' := Out bs4) λb _ hb=>⟨rfl,hb.2⟩
   have k1:eS W4 (Out bs4) v1 t:=((hv1.mono hx3.dW).mono hx4.dW).out;have k2:eS W4 (Out bs4) v2 t:=(hv2.mono hx4.dW).out;have k3:eS W4 (Out bs4) v3 t:=hv3.out;have t1:=cl k1;have t2:=cl k2;have t3:=cl k3;refine Wp.seq ?_;refine vR (sJ (λ_=>True) s) (fJ gK hh1 hh2 hh3) ?_
   refine wC gK (λhc=>?_) (λhc=>?_)
   ·exact absurd hc sI
   refine wK ?_;refine wR (sJ (λ_=>True) s) (EP gK hh1 hh2 hh3 t1 t2 t3) ?_ ?_
   ·exact⟨λ_=>⟨t,k1,hS,hr4.2⟩,λ_=>⟨t,k2,hS,hr4.2⟩,λ_=>⟨t,k1,hS,hr4.2⟩,λ_=>⟨t,k3,hS,hr4.2⟩⟩
   refine wZ gK ?_;exact λE=>by simp[den]
end
end Go.Proofs.YtnemkecffmdlnaaGreatDoor
namespace Go.Proofs.YtnemkecffmdlnaaGreatDoor.termNamed
section
set_option maxRecDepth 100000
theorem k0:Rows.termNamedRow.wf (OpenSpec.ofChange (OpenSpec.ofChange Rows.termNamedSpec).bare)=true:=by kernel_rfl
theorem k1:laidOutB Tryz.prog=true:=by kernel_rfl
theorem k2:mapsRowed Tryz.prog=true:=by kernel_rfl
theorem k3:Tryz.f9.params.all (Tryz.prog.readableRec ·)=true:=by kernel_rfl
theorem k4:namedTie Tryz.prog Rows.termNamedRow.named (OpenSpec.ofChange Rows.termNamedSpec).bare.vars=true:=by kernel_rfl
theorem k5:(Rows.termNamedRow.stops == [])=true:=by kernel_rfl
theorem k6:(Tryz.prog.stops == [])=true:=by kernel_rfl
theorem k7:(Rows.termNamedRow.knobs == [])=true:=by kernel_rfl
theorem k8:(Tryz.prog.stopKnobs == [])=true:=by kernel_rfl
theorem k9:(Rows.termNamedRow.inPlace == Tryz.prog.inPlace 9)=true:=by kernel_rfl
theorem k10:(Rows.termNamedRow.unfollowed == Tryz.prog.unfollowed 9)=true:=by kernel_rfl
theorem k11:(Rows.termNamedRow.recurses == Tryz.prog.recurses 9)=true:=by kernel_rfl
theorem k12:(Rows.termNamedRow.named == Tryz.prog.varsNamed 9)=true:=by kernel_rfl
theorem k13:(Rows.termNamedRow.maps == (Tryz.f9.params.toList++(OpenSpec.ofChange Rows.termNamedSpec).bare.plain.varTypes Tryz.prog).any (Tryz.prog.mapsRec ·))=true:=by kernel_rfl
theorem k14:(Rows.termNamedRow.ifaces == (Tryz.f9.params.toList++(OpenSpec.ofChange Rows.termNamedSpec).bare.plain.varTypes Tryz.prog).any (Tryz.prog.ifacesRec ·))=true:=by kernel_rfl
theorem k15:(Rows.termNamedRow.mapsOut == Tryz.prog.mapsAmong Tryz.f9.resultTypes.toList)=true:=by kernel_rfl
theorem k16:(Rows.termNamedRow.loops == (Tryz.f9.params.toList++(OpenSpec.ofChange Rows.termNamedSpec).bare.plain.varTypes Tryz.prog).any (Tryz.prog.loopsFrom ·))=true:=by kernel_rfl
theorem k17:(Rows.termNamedRow.wideKeys == (Tryz.f9.params.toList++(OpenSpec.ofChange Rows.termNamedSpec).bare.plain.varTypes Tryz.prog++Tryz.f9.resultTypes.toList).any (Tryz.prog.wideKeysFrom ·))=true:=by kernel_rfl
theorem k18:(OpenSpec.ofChange Rows.termNamedSpec).bare.vars.all (Tryz.prog.varReadable ·)=true:=by kernel_rfl
theorem k19:Tryz.f9.resultTypes.all (λt=>Tryz.prog.readableRec t&&decide (t<Tryz.prog.types.size))=true:=by kernel_rfl
theorem k20:(Rows.termNamedRow.ifacesOut == Tryz.f9.resultTypes.toList.any (Tryz.prog.ifacesRec ·))=true:=by kernel_rfl
theorem k21:(Rows.termNamedRow.loopsOut == Tryz.f9.resultTypes.toList.any (Tryz.prog.loopsFrom ·))=true:=by kernel_rfl
theorem k22:(Rows.termNamedRow.plainKeys == Tryz.prog.plainKeys)=true:=by kernel_rfl
theorem k23:Rows.termNamedRow.shortTexts.isNone=true:=by kernel_rfl
theorem k24:Tryz.prog.stopsHeard=true:=by kernel_rfl
theorem k25:Tryz.prog.mayEnter=true:=by kernel_rfl
theorem k26:(Rows.termNamedRow.lifted == Tryz.prog.liftsFinal)=true:=by kernel_rfl
theorem k27:(Tryz.prog.make == some Rows.termNamedRow.make)=true:=by kernel_rfl
theorem k28:(Rows.termNamedRow.kinds == (if Rows.termNamedRow.domain.isEmpty then [] else Tryz.f9.params.toList.map λt=>match Tryz.prog.underlying t with|some (.int k)=>some k|_=>none))=true:=by kernel_rfl
theorem k29:(Rows.termNamedRow.pinned == Rows.termNamedRow.pinnedBy)=true:=by kernel_rfl
theorem k30:(Rows.termNamedRow.veiled == (Tryz.f9.params.toList++(OpenSpec.ofChange Rows.termNamedSpec).bare.plain.varTypes Tryz.prog++Tryz.f9.resultTypes.toList).any (Tryz.prog.veiledRec ·))=true:=by kernel_rfl
theorem k31:Rows.termNamedRow.veiledFits Tryz.prog Tryz.f9.params.toList (Tryz.f9.params.toList++(OpenSpec.ofChange Rows.termNamedSpec).bare.plain.varTypes Tryz.prog++Tryz.f9.resultTypes.toList)=true:=by kernel_rfl
theorem facts:joinedFacts Tryz.prog 9 Tryz.f9 (OpenSpec.ofChange Rows.termNamedSpec).bare Rows.termNamedRow=true:=by
 unfold joinedFacts;simp only[Bool.and_eq_true];exact⟨⟨⟨⟨⟨⟨⟨⟨⟨⟨⟨⟨⟨⟨⟨⟨⟨⟨⟨⟨⟨⟨⟨⟨⟨⟨⟨⟨⟨⟨⟨k0,k1⟩,k2⟩,k3⟩,k4⟩,k5⟩,k6⟩,k7⟩,k8⟩,k9⟩,k10⟩,k11⟩,k12⟩,k13⟩,k14⟩,k15⟩,k16⟩,k17⟩,k18⟩,k19⟩,k20⟩,k21⟩,k22⟩,k23⟩,k24⟩,k25⟩,k26⟩,k27⟩,k28⟩,k29⟩,k30⟩,k31⟩
end
section
open Go Go.ChangeShapes Go.WideShapes Go.ChangeAt Go.RowKit Go.LE
open Go.ChangeMaps (open_string shut_string)
set_option maxRecDepth 10000
theorem Yo(H:Type)(enc:TypeId×Value->H)(W:World)(base:Nat)(args:Array Value)(ds gs:List (DataW H))(before:List MemPlace)
  (hval:∀ (j:Nat) t v,Tryz.f9.params[j]?=some t->args[j]?=some v->Value.okWide Tryz.prog W .any base t v)
  (hW:DataW.Whole enc Tryz.prog Tryz.f9.params.toList Rows.termNamedSpec.vars false W args.toList ds gs before) (hL:laidMetH Tryz.prog Rows.termNamedRow.laid W) (hS:W.ShapedOpen Tryz.prog) :
  Calls Tryz.prog 9 args W λe W' => ∃ v,e=.returned v/\Rows.termNamedSpec.post enc Tryz.prog Tryz.f9 false true false false W args v W' := by
 have hW' := hW;obtain⟨p,q,hA0,hV,rfl,hfz,hnd⟩:=hW;have hA:DataW.TrodAll enc Tryz.prog W 0 (λ_=>true) true Tryz.f9.params.toList args.toList ds p:=hA0;rw[Tryz.params9]at hA hval;obtain⟨v0,vs0,d0,ds0,p0,q0,hargs,rfl,rfl,h0,r0⟩:=trodAll_cons hA;obtain⟨rfl,rfl,rfl⟩:=trodAll_nil r0
 obtain rfl:args=#[v0]:=by cases args;simp_all
 obtain⟨rfl,rfl⟩:=trodVars_none hV;obtain⟨s,rfl,rfl,rfl,ha⟩:=open_string Tryz.underlying9 (hval 0 9 v0 rfl rfl) h0;unfold maxLen at ha;have hL' : laidMet Tryz.prog Rows.termNamedRow.laid W:=hL;have g1:=WB (Lib.laidMet.reads hL' (.tail _ (.tail _ (.head _))))
 have g2:=T8 (Lib.laidMet.reads hL' (.tail _ (.tail _ (.tail _ (.head _)))));have g3:=VU (Lib.laidMet.reads hL' (.tail _ (.tail _ (.tail _ (.tail _ (.head _))))));have hT:q7 W (Out []):=⟨⟨U4 hS,g3⟩,g2,g1⟩;refine (UP s W (by omega) hT).mono λe W' ⟨he,hkp⟩=>?_
 subst he;exact⟨_,rfl,Zf alD alN alu (by kernel_rfl) (tb:=4) rfl Tryz.underlying4 rfl hW' rfl rfl rfl hkp⟩
noncomputable def x6(os:Os):World:=World.laidAll Tryz.prog os Rows.termNamedRow.laid
def adA:Array Value:=#[.string .empty]
theorem Ze(os:Os):laidMet Tryz.prog Rows.termNamedRow.laid ((x6 os).forCall (λ_ _=>0) ⟨#[],adA,[]⟩).memory:=
 laidMet_laidAll _ (by kernel_rfl) (by kernel_rfl)
theorem reads(os:Os){H:Type}(enc:TypeId×Value->H):∃ places,DataW.whole enc Tryz.prog ((x6 os).forCall (λ_ _=>0) ⟨#[],adA,[]⟩).memory Tryz.f9.params.toList Rows.termNamedSpec.vars false adA.toList 8=some ([.lit (.string [])],[],places):=
 ⟨[],by kernel_rfl⟩
set_option maxRecDepth 100000 in
theorem lifted(os:Os)(started:os.Started)(H:Type)(enc:TypeId×Value->H)(F:Stop.Interp) :
  ReturnsInHanded {} Tryz.checked os 9 .any ((OpenSpec.ofChange Rows.termNamedSpec).preRow enc Tryz.prog Tryz.f9 Rows.termNamedRow.domain false Rows.termNamedRow.laid) (((OpenSpec.ofChange Rows.termNamedSpec).at F).post enc Tryz.prog Tryz.f9 false true false false):=by
 obtain⟨places,hx⟩:=reads os enc;refine returnsInHanded_of_row (C:=Tryz.checked) (s:=OpenSpec.ofChange Rows.termNamedSpec) am9 started (by kernel_rfl) Tryz.func9
  (witness_row_at (enc:=enc) (C:=Tryz.checked) false (x6 os) adA (World.laidAll_os _ _ _) (by kernel_rfl) (by kernel_rfl) (by kernel_rfl)
   (OpenSpec.preRow_of_cond 8 hx (by kernel_rfl) (λk hk=>by cases hk) (by kernel_rfl) (Ze os))) ?_
 intro W base args ds gs before hval hW _ hcond _ hL hS _;exact Yo H enc W base args ds gs before hval hW hL hS
theorem said:Rows.TermNamedSaid:=
 OpenClaim.holds_of_cond 9 Tryz.f9 rfl rfl rfl rfl rfl rfl rfl ⟨rfl,rfl,rfl,rfl,rfl⟩ rfl rfl rfl rfl rfl (by kernel_rfl) Tryz.func9 facts
  (of_decide_eq_true (by kernel_rfl)) (by unfold Func.isWrapper;first|(rw[if_pos (by decide +kernel)];kernel_rfl)|(rw[if_neg (by decide +kernel)];exact⟨rfl,rfl⟩))
  (λos started H enc _ F=>by rw[OpenClaim.pre_eq_preRow];exact lifted os started H enc F)
theorem plain(f:FuncId)(fn:Func)(hf:Tryz.pinned.checked.prog.funcNamed "loupe/loupelaw14.TermNamed"=some f)(hfn:Tryz.pinned.checked.prog.funcs[f]?=some fn) :
  true=Tryz.pinned.checked.prog.looks []/\∀ (j:Nat) t,fn.params[j]?=some t->Tryz.pinned.checked.prog.wantsStandIn t=false:=by
 obtain rfl:f=9:=Option.some.inj ((show Tryz.prog.funcNamed "loupe/loupelaw14.TermNamed"=some 9 by kernel_rfl).symm.trans hf) |>.symm;obtain rfl:fn=Tryz.f9:=(Option.some.inj (Tryz.func9.symm.trans hfn)).symm;refine⟨by kernel_rfl,λj t ht=>?_⟩;rw[Tryz.params9]at ht;obtain rfl:t=9:=by simpa using Array.mem_of_getElem? ht
 exact (show Tryz.prog.wantsStandIn 9=false by kernel_rfl)
theorem proved:Rows.TermNamedCardSaid:=
 Claim7.holds_tied_plain_at .later [] _ _ _ _ said (λ_ h=>by cases h) (by kernel_rfl) (λ_ h=>by cases h) termNamed_row_tie rfl ⟨rfl,rfl⟩ (by kernel_rfl) rfl plain (by kernel_rfl)
end
end Go.Proofs.YtnemkecffmdlnaaGreatDoor.termNamed
