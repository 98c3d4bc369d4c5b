/-
 TermJoinsCardSaid: TermJoins returns true for every two texts and sign, and leaves it as it was; the listed tables are tied to the program's text.
-/
import Derived.Test.YtnemkecffmdlnaaGreatDoorG6
import Derived.Shelf.Strings.OnBuilder
import Derived.Test.YtnemkecffmdlnaaGreatDoorProg
import Derived.Test.YtnemkecffmdlnaaGreatDoorRows
import Derived.JoinedCond
import Derived.Shelf.Vars
set_option linter.unusedSimpArgs false
set_option linter.unusedVariables false
set_option linter.defProp false
set_option maxHeartbeats 16000000
namespace Go.Proofs.YtnemkecffmdlnaaGreatDoor
section
open Go Go.RowKit Go.LE
set_option maxRecDepth 10000
def elF(t:Tm):FK:=⟨λcs W S=>∃ v,cs=[v,.int .i64 0,.int .i64 0,.string ⟨#[]⟩]/\ek W S v t,λhs ⟨v,h1,h2⟩=>⟨v,h1,h2.mono hs⟩⟩
def elO:TE->FOut
 |.ok t=>.fact Sh.pf (elF t)
 |.error (c,a)=>.val (.tuple #[.nilIface,pR c a ⟨#[]⟩])
theorem Ht(t:Tm):elO (.ok t)=.fact Sh.pf (elF t):=rfl
theorem ko(c a:Int):elO (.error (c,a))=.val (.tuple #[.nilIface,pR c a ⟨#[]⟩]):=rfl
def rN(v:En)(ds:List (Nat×ByteArray×Ex))(x:Ex):TE:=match zW v ds with
 |.error e=>.error e
 |.ok v=>aE v x
theorem UI(v:En)(x:Ex):rN v [] x=aE v x:=rfl
theorem KK{v:En}{a:Nat}{s:ByteArray}{y:Ex}{ds:List (Nat×ByteArray×Ex)}{x:Ex}{t:Tm}(h:Lm v s=some t):rN v ((a,s,y)::ds) x=.error (71,(a:Nat)):=by
 unfold rN;rw[zW,h]
theorem Zb{v:En}{a:Nat}{s:ByteArray}{y:Ex}{ds:List (Nat×ByteArray×Ex)}{x:Ex}{e:Int×Int}(h:Lm v s=none)(hy:aE v y=.error e):rN v ((a,s,y)::ds) x=.error e:=by
 unfold rN;rw[zW,h,hy]
theorem Zc{v:En}{a:Nat}{s:ByteArray}{y:Ex}{ds:List (Nat×ByteArray×Ex)}{x:Ex}{t:Tm}(h:Lm v s=none)(hy:aE v y=.ok t):rN v ((a,s,y)::ds) x=rN (v++[(s,t)]) ds x:=by
 unfold rN;rw[zW,h,hy]
theorem SF{s:ByteArray}:∀ {v:En},Lm v s=none->s∉sd v
 |[],_=>by simp[sd]
 | (k,t)::r,h=>by
  rw[Lm]at h;split at h
  ·cases h
  ·rename_i hk;have:=SF (v:=r) h;simp only[sd,List.map_cons,List.mem_cons,not_or]at this ⊢;exact⟨λh=>hk h.symm,this⟩
theorem L5(ex:List Tk->PR):∀ n ds r p r',iA ex n ds r=.ok (p,r')->p.1.length<=ds.length+n
 |0,ds,r,p,r',he=>by cases he
 | n+1,ds,r,p,r',he=>by
  rw[iA]at he
  repeat' split at he
  all_goals first
   |(cases he;done)
   | (have:=L5 ex n _ _ _ _ he
      rw[List.length_append,List.length_singleton]at this
      omega)
   | (cases he
      simp)
theorem Tp{s:ByteArray}{p:Pm}(h:jR s=.ok p):p.1.length<=4097:=by
 unfold jR at h;split at h
 ·split at h
  ·cases h
  ·rename_i q r hq;cases h;have:=L5 _ _ _ _ _ _ hq;have:=Mm s;simp only[List.length_nil]at *;omega
 ·cases h
structure PL where
 W:World
 bs:List Nat
 us:List Value
 v:En
 ds:List (Nat×ByteArray×Ex)
 k:Nat
section
variable (G:Nat->Prop)(v:En)(x:Ex)(h:xX v x)(vs:List Value)
noncomputable def NV:Env Tryz.prog:=⟨λ| 65=>some ((u7 v x h vs).spec G)|64=>some (ie.spec G)|_=>none,λ| 39=>some uf|_=>none,λ_ _=>none⟩
theorem ah5:(NV G v x h vs).sp 65=some ((u7 v x h vs).spec G):=rfl
theorem ah4:(NV G v x h vs).sp 64=some (ie.spec G):=rfl
theorem X8:(NV G v x h vs).eqs 39=some uf:=rfl
end
def fO:=(ae @List.replicate_succ.{0} @List.replicate_zero.{0} @au @ab lx ly Tr (ae Tw TS lA di dj dk dm (ae dB dD dF dG eK eL eM (ae eN eO eP JU JV JW JX (ae oH oI oJ oK vn vt vu (ae vv vz vA vB vC vD vE (ae jS jT jU jV jW Ri Rj (ae Dq Dr Ds Dt Du Rk Rl (ae Rm Rn Ro Rq ot ou ov (ae ow ox Dv Dw Dx Dy Dz (ae DA I3 I4 I5 I6 I7 Rs (ae Rt Ru I8 I9 Ja Jb Jc (ae Rv Rw Ry Rz RA RB RC (ae RD RE RF @om @p6 @kP @lW (ae @lV @AD @Al @sA @Fq @xk @ac6 (ae @gE @e9 @aV @aw @aD @aF @wL (ae @tB @nN @wD @tD @p5 @tC @cP (ae @ah5 @ah4 @X8 @uL @sL @xx @IZ (ae @qn @da @aJ @mkF.eq_1 @pR.eq_1 @Fa.eq_1 @cr (ae @w9 @tt @eZ @A5 @cf @aM @kD (ae @ie.eq_1 @qi @lY @aaz @Cj @Ci @HN (ae @wU @HO @Pq @ac5 @σR.eq_1 @σL.eq_1 @mq.eq_1 (bp @mq.eq_2 @r8.eq_1 @r8.eq_2)))))))))))))))))))))))
noncomputable def aeW:CatchC Tryz.prog 63 where
 Ts:=[54,39]
 enters:=Tryz.call63
 pre:=λvss pv=>(∃ a f g h,vss=[[a],[f,g,h]])/\∃ c i t,pv=.iface 39 (pR c i t)
 out:=λvss pv=>[[.nilIface],match pv with|.iface _ (.agg x)=>x.toList|_=>[]]
 pO:=λvss pv=>[.nilIface,match pv with|.iface _ x=>x|_=>undef]
 vals_ok:=by
  rintro vss pv ⟨_,c,i,t,rfl⟩
  refine⟨.inr ⟨by simp only[iV,Op.operands,Value.cells,σ0,σB,Nat.reduceEqDiff,Nat.reduceAdd,Nat.reduceMul,Nat.reduceLT,Nat.reduceLeDiff,Nat.reduceBEq,av,Int.reduceToNat,Int.reduceLT,Int.reduceLE,Nat.reduceDiv,Nat.reduceMod,Nat.reduceSub,Int.reducePow,Nat.reducePow,σP,σB3,fO],rfl⟩,.inl ⟨by simp only[iV,Op.operands,Value.cells,σ0,σB,Nat.reduceEqDiff,Nat.reduceAdd,Nat.reduceMul,Nat.reduceLT,Nat.reduceLeDiff,Nat.reduceBEq,av,Int.reduceToNat,Int.reduceLT,Int.reduceLE,Nat.reduceDiv,Nat.reduceMod,Nat.reduceSub,Int.reducePow,Nat.reducePow,σP,σB3,fO]<;>rfl,by simp only[iV,Op.operands,Value.cells,σ0,σB,Nat.reduceEqDiff,Nat.reduceAdd,Nat.reduceMul,Nat.reduceLT,Nat.reduceLeDiff,Nat.reduceBEq,av,Int.reduceToNat,Int.reduceLT,Int.reduceLE,Nat.reduceDiv,Nat.reduceMod,Nat.reduceSub,Int.reducePow,Nat.reducePow,σP,σB3,fO],rfl⟩,trivial⟩
 quiet:=λw us hl=>by
  match us,hl with
  | [u0,u1],_=>
   refine lR (nt:=8) w _ Tryz.func63 rfl rfl oM oM rfl ?_;refine vR Γ0 fO ?_;refine wC fO (λhc=>?_) (λhc=>?_)
   ·simp at hc
   ·refine wK ?_;simp only[iV,Op.operands,Value.cells,σ0,σB,Nat.reduceEqDiff,Nat.reduceAdd,Nat.reduceMul,Nat.reduceLT,Nat.reduceLeDiff,Nat.reduceBEq,av,Int.reduceToNat,Int.reduceLT,Int.reduceLE,Nat.reduceDiv,Nat.reduceMod,Nat.reduceSub,Int.reducePow,Nat.reducePow,σP,σB3,nE,gr,kU,iQ,fO]
    done
 caught:=λw us bl vss pv hl hn hlt hp=>by
  obtain⟨⟨a,f,g,h,rfl⟩,k,i,t,rfl⟩:=hp;have h3:=hl.len.1;refine kL (nt:=8) Tryz.func63 rfl rfl oM oM ?_ hl hn hlt ?_ ?_
  ·rw[h3];rfl
  ·rw[h3];decide
  intro us _;refine vR Γ0 fO ?_;refine wC fO (λhc=>?_) (λhc=>?_)
  ·skip;refine vrD Γ0 (aa fO @pR.eq_1) ?_;refine wS fO ?_;exact⟨rfl,rfl,trivial⟩
  ·cases hc
theorem Zg(p:Pm)(v0:Value)(w:World)(S:Nat->Prop)(hp:PmV w S v0 p)(hok:Wt p)(hn:p.1.length<=4097)(hg:bj w S):Calls Tryz.prog 27 #[v0] w λe w' => lI w S e w' (elO (v8 p)):=by
 have u0:=aG.up w S;have g0:=hg.mono (aG.e7 w S);obtain⟨b,ao,c,xs,u,rfl,hx0,hx1,⟨hsl,hdf,hle⟩,hmain⟩:=hp.mono (aG.e7 w S);obtain⟨ds0,xm⟩:=p;simp only at hx0 hdf hle hmain hok hn;obtain⟨ok1,ok2⟩:=hok;simp only at ok1 ok2;have hlen:=hdf.len;have hE:v8 (ds0,xm)=rN [] ds0 xm:=rfl;rw[hE]
 generalize hR:rN [] ds0 xm=R;refine zO (nt:=57) S Tryz.func27 rfl rfl ?_;refine iR.seq' (rs:=[.cell 2 54,.cell 3 39]) rfl ?_;refine vr Γ0 fO ?_;refine iR.seq' (rs:=[.cell 2 54,.cell 3 39]) rfl ?_;refine vR Γ0 fO ?_;refine wC fO (λhc=>?_) (λhc=>?_)
 ·cases hc
 refine wK ?_;refine iR.Hr (rs:=[.cell 2 54,.cell 3 39]) rfl aeW [2,3] [0,8] rfl dE rfl dE rfl rfl ?_ ?_ λus hus=>?_
 ·rintro p hp;simp only[List.zip_cons_cons,List.zip_nil_right,List.mem_cons,List.not_mem_nil,or_false]at hp;rcases hp with rfl|rfl<;>rfl
 ·rintro k hk;simp only[List.mem_cons,List.not_mem_nil,or_false]at hk;rcases hk with rfl|rfl<;>exact⟨_,_,rfl⟩
 refine vR Γ0 fO ?_;refine Wp.seq ?_;refine vR Γ0 (aa fO hx0.2) ?_
 match us,hus with
 |[u0',u1'],_=>
 refine Wp.block ?_
 refine Wp.rm (λp:PL=>⟨30,eA [(0,.is (.v (.pointer (some ⟨b,0,none⟩)))),(2,.is (.own 0 0)),(3,.is (.own 8 0)),(4,.is (.own 4 0)),(19,.is (.v (.slice ao ds0.length c))),(20,.is (.v (.int .i64 (ds0.length:Nat)))),(21,.is (.v (.int .i64 (p.k:Nat))))],dS [(0,.cells 54 [.v .nilIface]),(8,.cells 39 [.v (.int .i64 0),.v (.int .i64 0),.v (.string ⟨#[]⟩)]),(4,.cells 132 [.hd 5]),(5,.mp (sd p.v) (p.us.map .v))]⟩)
  PL.W PL.bs (λp=>(bj p.W (bJ (aG w S) p.bs)/\XC p.W (bJ (aG w S) p.bs) b 1 u/\AP p.W (bJ (aG w S) p.bs) u xm/\jY p.W (bJ (aG w S) p.bs) ao xs)/\(R7 p.W (bJ (aG w S) p.bs) (xs.drop (3*p.k)) p.ds/\(∀ d∈p.ds,ae2 d)/\p.k+p.ds.length=ds0.length)/\(wg p.v/\Bf p.W (bJ (aG w S) p.bs) p.us p.v)/\rN p.v p.ds xm=R) (λp=>ds0.length-p.k) ⟨w,[],[],[],ds0,0⟩ rfl rfl ?_ ⟨⟨g0,hx1,hmain,hsl⟩,⟨hdf,ok1,Nat.zero_add _⟩,⟨λe he=>(by cases he),trivial⟩,hR⟩ ?_
 ·exact wM (λk=>if k=4 then .key 64 else if k=5 then .key 48 else .key k) (bp fO @Int.natCast_zero @sd.eq_1)
 rintro⟨W1,bs1,us1,v1,ds1,k⟩ ⟨⟨e1,m1,m2,s1⟩,⟨d1,d2,d3⟩,⟨n0,n1⟩,hR1⟩ hx1';simp only at e1 m1 m2 s1 d1 d2 d3 n0 n1 hR1 hx1';dsimp only;have u1:=u0.ext hx1';refine vR Γ0 fO ?_;refine Wp.seq ?_;refine wC fO (λhc=>?_) (λhc=>?_)
 ·have hk1:k<ds0.length:=by
   simp at hc;omega
  clear hc;have wk:IntKind.i64.wrap ((k:Int)+1)=((k+1:Nat):Int):=wW;refine wK ?_;refine Wp.seq (Wp.block ?_);cases ds1 with
  |nil=>exfalso;simp at d3;omega
  |cons d ds2=>
  obtain⟨a,s,y⟩:=d;obtain⟨hda,hds,hdy⟩:=d2 (a,s,y) sI;simp only at hda hds hdy;generalize hdr:xs.drop (3*k)=D at d1;cases d1 with
  |cons _ _ yv _ D2 _ gy gD=>
  have at0:xs[3*k]?=some (.int .i64 (a:Nat)):=by
   have:=congrArg (λl=>l[0]?) hdr;simpa [List.getElem?_drop] using this
  have at1:xs[3*k+1]?=some (.string s):=by
   have:=congrArg (λl=>l[1]?) hdr;simpa [List.getElem?_drop] using this
  have at2:xs[3*k+2]?=some yv:=by
   have:=congrArg (λl=>l[2]?) hdr;simpa [List.getElem?_drop] using this
  obtain⟨b1,o1,rfl,hb1,c0⟩:=jY.cell s1 at0;obtain⟨b1',o1',e1',_,c1⟩:=jY.cell s1 at1;cases e1';obtain⟨b1',o1',e1',_,c2⟩:=jY.cell s1 at2;cases e1';have c0' : W1.cell? ⟨b1,o1+k*3,none⟩=some (.int .i64 (a:Nat)):=by rw[show o1+k*3=o1+3*k by omega];exact c0
  have c1' : W1.cell? ⟨b1,o1+k*3+1,none⟩=some (.string s):=by rw[show o1+k*3+1=o1+(3*k+1) by omega];exact c1
  have c2' : W1.cell? ⟨b1,o1+k*3+1+1,none⟩=some yv:=by rw[show o1+k*3+1+1=o1+(3*k+2) by omega];exact c2
  refine wR Γ0 (fg fO c0' c1' c2') ?_ ?_
  ·exact⟨⟨oM,oM⟩,hb1.2,gy.one⟩
  refine Wp.seq ?_;cases hL:Lm v1 s with
  |some t=>
   obtain⟨z,hF,hz⟩:=BK n1 hL;rw[KK hL]at hR1;rw[<- hR1,ko];refine zv Γ0 (bp fO hF (pN (t:=t) hz)) ?_;refine vR Γ0 fO ?_;refine wC fO (λhc=>?_) (λhc=>?_)
   rotate_left
   ·cases hc
   refine Wp.dJ (NV (aG w S) v1 y (Cq v1 y) us1) aN (ev fO) ?_ ?_
   ·first|trivial|exact⟨_,_,rfl⟩
   refine qq ?_;refine wS fO ?_;refine⟨.iface 39 (pR 71 (a:Nat) ⟨#[]⟩),[[.nilIface],[.int .i64 0,.int .i64 0,.string ⟨#[]⟩]],rfl,⟨?_,?_,?_,?_,trivial⟩,⟨⟨_,_,_,_,rfl⟩,71,(a:Nat),⟨#[]⟩,rfl⟩,λE=>rfl⟩
   all_goals rfl
  | none=>
   have hF:=BJ n1 hL;have hnot:=SF hL;refine zv Γ0 (aa fO hF) ?_;refine vR Γ0 fO ?_;refine wC fO (λhc=>?_) (λhc=>?_)
   ·cases hc
   refine wK ?_;cases hF2:aE v1 y with
   |error e=>
    obtain⟨ec,ej⟩:=e;rw[Zb hL hF2]at hR1;rw[<- hR1,ko];refine Wp.rp (NV (aG w S) v1 y (Cq v1 y) us1) aN (ev (bp fO hF2 gy.parts)) rfl (by kernel_rfl) ?_ ?_
    ·exact⟨⟨⟨gy,⟨n0,n1⟩,hdy,e1⟩,dE,λ_ h=>h.elim⟩,hnot⟩
    refine qq ?_;refine wS fO ?_;refine⟨.iface 39 (pR ec ej ⟨#[]⟩),[[.nilIface],[.int .i64 0,.int .i64 0,.string ⟨#[]⟩]],rfl,⟨?_,?_,?_,?_,trivial⟩,⟨⟨_,_,_,_,rfl⟩,ec,ej,⟨#[]⟩,rfl⟩,λE=>rfl⟩
    all_goals rfl
   | ok t=>
    rw[Zc hL hF2]at hR1;refine Wp.more ?_;refine J3 (NV (aG w S) v1 y (Cq v1 y) us1) (bp fO hF2 gy.parts) ?_ ?_
    ·exact⟨⟨⟨gy,⟨n0,n1⟩,hdy,e1⟩,dE,(λ_ h=>h.elim),u1⟩,hnot⟩
    refine dn ?_;refine Pw.cO 463 (ev fO) (aX.refl _ _) λW3 bs3 cs hx3 hΦ3=>?_
    obtain⟨v3,rfl,hg3,hv3⟩:=Dk hΦ3;refine Pw.here ?_;refine qq ?_;refine vr Γ0 (aa fO wk) ?_;have em:List.map SV.v us1++[.v v3]=List.map SV.v (us1++[v3]):=by simp
    have en:sd v1++[s]=sd (v1++[(s,t)]):=by simp[sd]
    refine⟨⟨W3,bs3,us1++[v3],v1++[(s,t)],ds2,k+1⟩,⟨⟨e1.mono hx3.dY,m1.mono hx3.dY,m2.mono hx3.dY,s1.mono hx3.dY⟩,⟨?_,λd hd=>d2 d (List.mem_cons_of_mem _ hd),by simp at d3 ⊢;omega⟩,⟨?_,?_⟩,hR1⟩,by dsimp only;omega,rfl,rfl,?_⟩
    ·have:xs.drop (3*(k+1))=D2:=by
      rw[show 3*(k+1)=3*k+3 by omega,<- List.drop_drop,hdr];rfl
     rw[this];exact gD.mono hx3.dY
    ·intro e he;rcases List.mem_append.1 he with he|he
     ·exact n0 e he
     ·rw[List.mem_singleton.1 he];exact qd n0 hdy hF2
    ·show fe _ _ _ ((v1++[(s,t)]).map (·.2));rw[List.map_append];exact fe.snoc hg3 (fe.mono hx3.dY n1)
    exact wM (λk=>.key k) (fg fO hv3 em en)
 ·have hkN:k=ds0.length:=by
   simp at hc;omega
  refine wE ?_;have hds:ds1=[]:=List.length_eq_zero_iff.1 oM;subst hds;rw[UI]at hR1;cases hF2:aE v1 xm with
  |error e=>
   obtain⟨ec,ej⟩:=e;rw[hF2]at hR1;rw[<- hR1,ko];refine Wp.bo (NV (aG w S) v1 xm (Cq v1 xm) us1) aN (ev (fg fO hF2 m1.2 m2.parts)) ?_ ?_
   ·exact⟨m1.1.2,⟨m2,⟨n0,n1⟩,ok2,e1⟩,dE,λ_ h=>h.elim⟩
   refine qq ?_;refine wS fO ?_;refine⟨.iface 39 (pR ec ej ⟨#[]⟩),[[.nilIface],[.int .i64 0,.int .i64 0,.string ⟨#[]⟩]],rfl,⟨?_,?_,?_,?_,trivial⟩,⟨⟨_,_,_,_,rfl⟩,ec,ej,⟨#[]⟩,rfl⟩,λE=>rfl⟩
   all_goals rfl
  |ok t=>
   rw[hF2]at hR1;rw[<- hR1,Ht];refine wR (NV (aG w S) v1 xm (Cq v1 xm) us1) (fg fO hF2 m1.2 m2.parts) ?_ ?_
   ·exact⟨m1.1.2,⟨m2,⟨n0,n1⟩,ok2,e1⟩,dE,(λ_ h=>h.elim),u1⟩
   refine Wp.cO 295 (ev fO) (aX.refl _ _) λW3 bs3 cs hx3 hΦ3=>?_
   obtain⟨v3,rfl,hg3,hv3⟩:=Dk hΦ3;refine wZ (aa fO hv3) ?_;exact⟨[v3,.int .i64 0,.int .i64 0,.string ⟨#[]⟩],λE=>(PV hv3).symm,v3,rfl,hg3⟩
end
section
open Go.RowKit Go.LE Go.Proofs.Tryz
set_option maxRecDepth 10000
def NZ(sub:List Tk->PR):Prop:=∀ r c j,sub r=.error (c,j)->c≠0
theorem SI{sub:List Tk->PR}(h:NZ sub)(lev:Int):∀ n a r c j,iz sub lev n a r=.error (c,j)->c≠0
 |0,a,r,c,j,he=>by cases he
 | n+1,a,r,c,j,he=>by
  rw[iz]at he;split at he
  ·split at he
   ·rename_i e hs;cases he;exact h _ _ _ hs
   ·exact SI h lev n _ _ _ _ he
  ·cases he
theorem ak0{sub:List Tk->PR}(h:NZ sub)(lev:Int):NZ (ob sub lev):=by
 intro r c j he;unfold ob at he;split at he
 ·rename_i e hs;cases he;exact h _ _ _ hs
 ·exact SI h lev _ _ _ _ _ he
theorem aln{sub:List Tk->PR}(h:NZ sub):NZ (nA sub):=by
 intro r c j he;unfold nA at he;split at he
 ·rename_i e hs;cases he;exact h _ _ _ hs
 ·cases he
theorem Pr{sub:List Tk->PR}(h:NZ sub):∀ k,NZ (mu sub k)
 |0=>aln h
 |k+1=>ak0 (Pr h k) _
theorem Sd{ex:List Tk->PR}(h:NZ ex):∀ n k l r c j,kX ex n k l r=.error (c,j)->c≠0
 |0,k,l,r,c,j,he=>by cases he
 | n+1,k,l,r,c,j,he=>by
  rw[kX]at he;split at he
  ·cases he;decide
  ·split at he
   ·rename_i e hs;cases he;exact h _ _ _ hs
   ·exact Sd h n _ _ _ _ _ he
theorem IN{m:ByteArray}{f:Ex->Ex}{q:PR}(h:∀ c j,q=.error (c,j)->c≠0){c:Int}{j:Nat}(he:df m f q=.error (c,j)):c≠0:=by
 cases q with
 |error e=>
  cases he;exact h _ _ rfl
 | ok p=>
  obtain⟨x,r⟩:=p;have he' : (if dU r m=true then (.ok (f x,r.tail):PR) else .error (60,(pk r).2.1))=.error (c,j):=he;split at he'
  ·cases he'
  ·cases he';decide
theorem H2{m:Option (List Tk->PR)}{r:List Tk}{b:ByteArray}{go:(List Tk->PR)->List Tk->PR}(h:∀ ex,m=some ex->∀ t c j,go ex t=.error (c,j)->c≠0){c:Int}{j:Nat}(he:fc m r b go=.error (c,j)):c≠0:=by
 unfold fc at he;split at he
 ·cases m with
  |none=>
   cases he;decide
  |some ex=>exact h ex rfl _ _ _ he
 ·cases he;decide
theorem Kl{m:Option (List Tk->PR)}(hm:∀ ex,m=some ex->NZ ex):NZ (eF m):=by
 intro r c j he;unfold eF at he;split at he
 ·cases he
 split at he
 ·cases he
 split at he
 ·exact H2 (λex hx t c j h=>IN (λc j h=>Sd (hm ex hx) _ _ _ _ _ _ h) h) he
 split at he
 ·cases he
 split at he
 ·exact H2 (λex hx t c j h=>IN (λc j h=>hm ex hx _ _ _ h) h) he
 split at he
 ·exact H2 (λex hx t c j h=>IN (λc j h=>hm ex hx _ _ _ h) h) he
 ·cases he;decide
theorem Kk:∀ m,NZ (fh m)
 |0=>Kl λex h=>by cases h
 |m+1=>Kl λex h=>by
  cases h;exact Pr (Kk m) 5
theorem S5{ex:List Tk->PR}(h:NZ ex):∀ n ds r c j,iA ex n ds r=.error (c,j)->c≠0
 |0,ds,r,c,j,he=>by
  cases he;decide
 | n+1,ds,r,c,j,he=>by
  rw[iA]at he;split at he
  ·split at he
   ·cases he;decide
   split at he
   ·cases he;decide
   split at he
   ·rename_i e hs;cases he;exact h _ _ _ hs
   split at he
   ·cases he;decide
   ·exact S5 h n _ _ _ _ he
  ·split at he
   ·rename_i e hs;cases he;exact h _ _ _ hs
   split at he
   ·cases he
   ·cases he;decide
theorem Q5{s:ByteArray}{c:Int}{j:Nat}(h:jR s=.error (c,j)):c≠0:=by
 unfold jR at h;split at h
 ·split at h
  ·rename_i e hs;cases h;exact S5 (Pr (Kk 64) 5) _ _ _ _ _ hs
  ·cases h
 ·rename_i h0;cases h;exact h0
def NT{α:Type}(x:Except (Int×Int) α):Prop:=∀ c j,x=.error (c,j)->c≠0
theorem tI(a:Nat):NT (fE a):=λc j h=>by
 cases h;decide
theorem ez{α:Type}{x:Except (Int×Int) α}{f:α->TE}(hx:NT x)(hf:∀ a,NT (f a)):NT (bM x f):=λc j h=>by
 cases x with
 |error e=>
  cases h;exact hx _ _ rfl
 |ok a=>exact hf a c j h
theorem ka{α:Type}(a:α):NT (.ok a:Except (Int×Int) α):=λc j h=>by cases h
theorem Hf(a:Nat)(t:Tm):NT (gT a t):=λc j h=>by
 unfold gT at h;split at h
 ·cases h;decide
 ·cases h
theorem ank(a:Nat)(op:ByteArray)(t:Tm):NT (AM a op t):=by
 unfold AM;split
 ·exact ka _
 split
 ·split
  ·exact ka _
  ·exact tI _
 ·exact ka _
 ·exact tI _
theorem YP(a:Nat)(op:ByteArray)(t u:Tm):NT (oW a op t u):=by
 unfold oW;split
 ·split
  ·exact ka _
  ·exact tI _
 ·split
  ·exact ka _
  ·exact tI _
 ·exact tI _
theorem amu(a:Nat)(op:ByteArray)(t u:Tm):NT (EV a op t u):=by
 unfold EV;split
 ·split
  ·exact ka _
  ·exact YP _ _ _ _
 ·exact YP _ _ _ _
theorem akW(a:Nat)(t:Tm):NT (yw a t):=by
 unfold yw;split
 ·exact ka _
 ·exact tI _
theorem SQ(ts:List Tm)(ps:List Nat)(i:Nat):NT (EN ts ps i):=λc j h=>by
 unfold EN at h;split at h<;>cases h;decide
theorem M4(ts:List Tm)(ps:List Nat)(i:Nat):NT (As ts ps i):=λc j h=>by
 unfold As at h;split at h<;>cases h;decide
theorem ajv(ts:List Tm)(ps:List Nat)(i:Nat):NT (E4 ts ps i):=λc j h=>by
 unfold E4 at h;split at h<;>cases h;decide
theorem aal(ts:List Tm)(ps:List Nat)(i:Nat):NT (Ce ts ps i):=λc j h=>by
 unfold Ce at h;split at h<;>cases h;decide
theorem aeT(a:Nat)(w:ByteArray)(ts:List Tm)(ps:List Nat):NT (bc a w ts ps):=by
 unfold bc;split
 ·exact ez (SQ _ _ _) λ_=>ka _
 split
 ·exact ez (SQ _ _ _) λ_=>ez (M4 _ _ _) λ_=>ez (M4 _ _ _) λ_=>ka _
 split
 ·exact ez (SQ _ _ _) λ_=>ez (M4 _ _ _) λ_=>ka _
 split
 ·exact ez (M4 _ _ _) λ_=>ka _
 split
 ·exact ez (SQ _ _ _) λ_=>ka _
 split
 ·exact ez (ajv _ _ _) λ_=>ez (aal _ _ _) λ_=>ka _
 split
 ·exact ez (aal _ _ _) λ_=>ez (ajv _ _ _) λ_=>ka _
 split
 ·exact ez (aal _ _ _) λ_=>ez (M4 _ _ _) λ_=>ka _
 ·exact ka _
theorem abt{s:ByteArray}{c j:Int}(hp:pA s=.error (c,j)):c≠0:=by
 cases hd:OO s with
 |error e=>
  obtain⟨c',p'⟩:=e;have:=pB s;rw[hp,hd,yF (e:=.error (c',p')) rfl]at this;cases this;exact FN hd
 |ok t=>
  have:=pB s;rw[hp,hd]at this;cases this
theorem amW(v:En){W:World}{S:Nat->Prop}{k:Bool}{vs:List Value}{x:Ex}(h:nZ W S k vs x):(k=true->NT (aE v x))/\(k=false->NT (cx v x)):=by
 induction h with
 |name a s=>
  refine⟨λ_ c j h=>?_,λh=>by cases h⟩;simp only[aE]at h;split at h<;>cases h;decide
 |text a s=>
  refine⟨λ_ c j h=>?_,λh=>by cases h⟩;simp only[aE]at h;cases h
 | rx a s=>
  refine⟨λ_ c j h=>?_,λh=>by cases h⟩;simp only[aE]at h;split at h
  ·cases h
  ·rename_i c' j' hp;cases h;exact abt hp
 | call a s ao c vs l h1 h2 h3 ih=>
  refine⟨λ_=>?_,λh=>by cases h⟩;simp only[aE];split
  ·rename_i e he;intro c j h;cases h;exact ih.2 rfl _ _ he
  ·exact ez (aeT _ _ _ _) λ_=>Hf _ _
 |keyed a u x h1 ih=>
  refine⟨λ_=>?_,λh=>by cases h⟩;simp only[aE];exact ez (ih.1 rfl) λt=>ez (akW _ _) λ_=>Hf _ _
 |unary a s u x h1 ih=>
  refine⟨λ_=>?_,λh=>by cases h⟩;simp only[aE];exact ez (ih.1 rfl) λt=>ez (ank _ _ _) λ_=>Hf _ _
 |binary a s u u2 x y h1 h2 i1 i2=>
  refine⟨λ_=>?_,λh=>by cases h⟩;simp only[aE];exact ez (i1.1 rfl) λt=>ez (i2.1 rfl) λt' => ez (amu _ _ _ _) λ_=>Hf _ _
 |nil=>
  refine⟨(λh=>by cases h),λ_=>?_⟩;simp only[cx];exact ka _
 | cons u us x l h1 h2 i1 i2=>
  refine⟨(λh=>by cases h),λ_=>?_⟩;simp only[cx];split
  ·rename_i e he;intro c j h;cases h;exact i1.1 rfl _ _ he
  ·split
   ·rename_i e he;intro c j h;cases h;exact i2.2 rfl _ _ he
   ·exact ka _
theorem SL(v:En){W:World}{S:Nat->Prop}{u:Value}{x:Ex}(h:AP W S u x):NT (aE v x):=(amW v h).1 rfl
end
end Go.Proofs.YtnemkecffmdlnaaGreatDoor
namespace Go.Proofs
section
open Go.Shelf
def Tryz.z8:Go.Shelf.Ren:=⟨λ| 156=>100|165=>155|166=>37|169=>41|240=>75|241=>202|276=>130|277=>243|n=>n,λ| 31=>22|9=>9|3=>3|4=>4|0=>0|20=>20|72=>91|76=>94|70=>88|37=>89|75=>93|127=>162|164=>257|5=>5|80=>100|n=>n,λ| n=>n⟩
theorem Tryz.SD:Go.Proofs.Lays.n156 Tryz.prog Tryz.z8:={
 mixed:=by kernel_rfl
 f156:=Tryz.func100.trans (congrArg some (by kernel_rfl))
 f165:=Tryz.func155.trans (congrArg some (by kernel_rfl))
 f166:=Tryz.func37.trans (congrArg some (by kernel_rfl))
 f169:=Tryz.func41.trans (congrArg some (by kernel_rfl))
 f240:=Tryz.func75.trans (congrArg some (by kernel_rfl))
 f241:=Tryz.func202.trans (congrArg some (by kernel_rfl))
 f276:=Tryz.func130.trans (congrArg some (by kernel_rfl))
 f277:=Tryz.func243.trans (congrArg some (by kernel_rfl))
 t0:=Tryz.underlying0
 a0:=Tryz.isAgg0
 z0:=Tryz.sizeOf0
 v0:=Tryz.zeroValue0
 t3:=Tryz.underlying3
 a3:=Tryz.isAgg3
 z3:=Tryz.sizeOf3
 v3:=Tryz.zeroValue3
 t4:=Tryz.underlying4
 a4:=Tryz.isAgg4
 z4:=Tryz.sizeOf4
 v4:=Tryz.zeroValue4
 t9:=Tryz.underlying9
 a9:=Tryz.isAgg9
 z9:=Tryz.sizeOf9
 v9:=Tryz.zeroValue9
 t20:=Tryz.underlying20
 a20:=Tryz.isAgg20
 z20:=Tryz.sizeOf20
 v20:=Tryz.zeroValue20
 t31:=Tryz.underlying22
 a31:=Tryz.isAgg22
 z31:=Tryz.sizeOf22
 v31:=Tryz.zeroValue22
 t37:=Tryz.underlying89
 a37:=Tryz.isAgg89
 z37:=Tryz.sizeOf89
 v37:=Tryz.zeroValue89
 t70:=Tryz.underlying88
 a70:=Tryz.isAgg88
 z70:=Tryz.sizeOf88
 v70:=Tryz.zeroValue88
 t72:=Tryz.underlying91
 a72:=Tryz.isAgg91
 z72:=Tryz.sizeOf91
 v72:=Tryz.zeroValue91
 t75:=Tryz.underlying93
 a75:=Tryz.isAgg93
 z75:=Tryz.sizeOf93
 v75:=Tryz.zeroValue93
 t76:=Tryz.underlying94
 a76:=Tryz.isAgg94
 z76:=Tryz.sizeOf94
 v76:=Tryz.zeroValue94
 t127:=Tryz.underlying162
 a127:=Tryz.isAgg162
 z127:=Tryz.sizeOf162
 v127:=Tryz.zeroValue162
 t164:=Tryz.underlying257
 a164:=Tryz.isAgg257
 z164:=Tryz.sizeOf257
 v164:=Tryz.zeroValue257 }
theorem Tryz.nD:Builder.Extra Tryz.prog Tryz.z8:={
 sizeBuilder:=by kernel_rfl
 liesBuilder:=by kernel_rfl
 t5:=Tryz.underlying5
 a5:=Tryz.isAgg5
 z5:=Tryz.sizeOf5
 v5:=Tryz.zeroValue5
 infoByte:=by kernel_rfl
 cellsByte:=by kernel_rfl
 sizeByte:=by kernel_rfl
 neB5:=by decide }
open Go.RowKit in
theorem Tryz.strings_Join_none(a:Option Addr)(c:Nat)(sep:ByteArray)(w:World) :
  Calls Tryz.prog 100 #[.slice a 0 c,.string sep] w λe w' => e=.returned (.string ⟨#[]⟩)/\w' = w:=Any.strings_Join_none Tryz.SD Tryz.nD a c sep w
open Go.RowKit in
theorem Tryz.strings_Join(bk o c:Nat)(xs:List ByteArray)(sep:ByteArray)(w:World)(hcells:∀ (j:Nat) x,xs[j]?=some x->w.cell? ⟨bk,o+j,none⟩=some (.string x))(hbk:bk<w.heap.size)(hN:xs.length<=140737488355328)(hcap:xs.length<=c)(hlen:(Lib.join (xs.map (·.data.toList)) sep.data.toList).length<=140737488355328) :
  Calls Tryz.prog 100 #[.slice (some ⟨bk,o,none⟩) xs.length c,.string sep] w λe w' => e=.returned (.string ⟨(Lib.join (xs.map (·.data.toList)) sep.data.toList).toArray⟩)/\Below w.heap.size w w' := Any.strings_Join Tryz.SD Tryz.nD bk o c xs sep w hcells hbk hN hcap hlen
end
end Go.Proofs
namespace Go.Proofs.YtnemkecffmdlnaaGreatDoor
section
open Go Go.RowKit Go.LE
set_option maxRecDepth 10000
def lE:=(ae @List.replicate_succ.{0} @List.replicate_zero.{0} @au @ab lx ly lA (ae di dj dk dm eK eL eM (ae eN eO eP ag8 ag9 aha ahb (ae jS jT jU jV jW iH iI (ae iJ iK qs qt qu qv qw (ae qx qy qz qA oy oz oA (ae oB oC oD oE oF oG qB (ae qC qD qE qF qG qH qI (ae qJ qK qL qM qN qO qP (ae qQ qR qS qT mG mH mI (ae mJ mK mL mM mN mO mP (ae mQ mR mS mT mU mV mW (oQ mX mY @aV @aw @aD @aF)))))))))))))
theorem Vz(a:Nat)(s:ByteArray)(w:World):Calls Tryz.prog 295 #[.agg #[.int .i64 (a:Nat),.string s]] w λe w' => e=.returned (.int .i64 1)/\an w [] w' := by
 refine ak (nt:=3) [.tmp 2] Tryz.func295 rfl rfl rfl ?_;refine vR Γ0 lE ?_;refine vR Γ0 lE ?_;refine wZ lE ?_;exact λE=>rfl
def Z4:a8 Tryz.prog 295 where
 pre:=λW bs as_=>∃ (a:Nat) (s:ByteArray),as_=[.val (.agg #[.int .i64 (a:Nat),.string s])]
 res:=λ_ as_=>.int .i64 1
 enters:=Tryz.call295
 ok:=by
  intro W w bs us as_ hk hu hp;obtain⟨a,s,rfl⟩:=hp
  match us,hu with
  |[x],hu=>
   obtain⟨rfl,_⟩:=hu;exact Vz a s w
theorem XJ(a:Nat)(s:ByteArray)(w:World):Calls Tryz.prog 296 #[.agg #[.int .i64 (a:Nat),.string s]] w λe w' => e=.returned (.int .i64 (a:Nat))/\an w [] w' := by
 refine ak (nt:=5) [.tmp 2] Tryz.func296 rfl rfl rfl ?_;refine vR Γ0 lE ?_;refine vR Γ0 lE ?_;refine wZ lE ?_;exact λE=>rfl
def acu:a8 Tryz.prog 296 where
 pre:=λW bs as_=>∃ (a:Nat) (s:ByteArray),as_=[.val (.agg #[.int .i64 (a:Nat),.string s])]
 res:=λ_ as_=>match as_ with
  |[.val (.agg cs)]=>cs.getD 0 undef
  |_=>undef
 enters:=Tryz.call296
 ok:=by
  intro W w bs us as_ hk hu hp;obtain⟨a,s,rfl⟩:=hp
  match us,hu with
  |[x],hu=>
   obtain⟨rfl,_⟩:=hu;exact XJ a s w
theorem VA(a:Nat)(s:Value)(w:World):Calls Tryz.prog 297 #[.agg #[.int .i64 (a:Nat),s]] w λe w' => e=.returned (.int .i64 2)/\an w [] w' := by
 refine ak (nt:=3) [.tmp 2] Tryz.func297 rfl rfl rfl ?_;refine vR Γ0 lE ?_;refine vR Γ0 lE ?_;refine wZ lE ?_;exact λE=>rfl
def Z5:a8 Tryz.prog 297 where
 pre:=λW bs as_=>∃ (a:Nat) (s:Value),as_=[.val (.agg #[.int .i64 (a:Nat),s])]
 res:=λ_ as_=>.int .i64 2
 enters:=Tryz.call297
 ok:=by
  intro W w bs us as_ hk hu hp;obtain⟨a,s,rfl⟩:=hp
  match us,hu with
  |[x],hu=>
   obtain⟨rfl,_⟩:=hu;exact VA a s w
theorem XK(a:Nat)(s:Value)(w:World):Calls Tryz.prog 298 #[.agg #[.int .i64 (a:Nat),s]] w λe w' => e=.returned (.int .i64 (a:Nat))/\an w [] w' := by
 refine ak (nt:=5) [.tmp 2] Tryz.func298 rfl rfl rfl ?_;refine vR Γ0 lE ?_;refine vR Γ0 lE ?_;refine wZ lE ?_;exact λE=>rfl
def acv:a8 Tryz.prog 298 where
 pre:=λW bs as_=>∃ (a:Nat) (s:Value),as_=[.val (.agg #[.int .i64 (a:Nat),s])]
 res:=λ_ as_=>match as_ with
  |[.val (.agg cs)]=>cs.getD 0 undef
  |_=>undef
 enters:=Tryz.call298
 ok:=by
  intro W w bs us as_ hk hu hp;obtain⟨a,s,rfl⟩:=hp
  match us,hu with
  |[x],hu=>
   obtain⟨rfl,_⟩:=hu;exact XK a s w
theorem VB(v:Value)(w:World):Calls Tryz.prog 299 #[v] w λe w' => e=.returned (.int .i64 3)/\an w [] w' := by
 refine ak (nt:=3) [.tmp 2] Tryz.func299 rfl rfl rfl ?_;refine vR Γ0 lE ?_;refine vR Γ0 lE ?_;refine wZ lE ?_;exact λE=>rfl
def Z6:a8 Tryz.prog 299 where
 pre:=λW bs as_=>∃ v,as_=[.val v]
 res:=λ_ as_=>.int .i64 3
 enters:=Tryz.call299
 ok:=by
  intro W w bs us as_ hk hu hp;obtain⟨v,rfl⟩:=hp
  match us,hu with
  |[x],hu=>
   obtain⟨rfl,_⟩:=hu;exact VB x w
theorem XL(b a:Nat)(w:World)(hc:w.cell? ⟨b,0,none⟩=some (.int .i64 (a:Nat))):Calls Tryz.prog 300 #[.pointer (some ⟨b,0,none⟩)] w λe w' => e=.returned (.int .i64 (a:Nat))/\an w [] w' := by
 have hb:=amx b;refine ak (nt:=7) [.tmp 2] Tryz.func300 rfl rfl rfl ?_;refine vR Γ0 lE ?_;refine wR Γ0 (aa lE hc) ?_ ?_
 ·first|trivial|exact hb
 refine wZ lE ?_;exact λE=>rfl
noncomputable def I0:a8 Tryz.prog 300 where
 pre:=λW bs as_=>∃ (b a:Nat),as_=[.val (.pointer (some ⟨b,0,none⟩))]/\XC W (Out bs) b 0 (.int .i64 (a:Nat))
 res:=λW as_=>match as_ with
  |[.val (.pointer (some a))]=>(W.cell? a).getD undef
  |_=>undef
 enters:=Tryz.call300
 ok:=by
  intro W w bs us as_ hk hu hp;obtain⟨b,a,rfl,h1⟩:=hp
  match us,hu with
  |[x],hu=>
   obtain⟨rfl,_⟩:=hu;simp only[h1.2,Option.getD_some];exact XL b a w (h1.mono λb hb hn=>⟨hk.block b hb hn,by simp[Out]⟩:XC w (Out []) b 0 _).2
theorem VC(v:Value)(w:World):Calls Tryz.prog 301 #[v] w λe w' => e=.returned (.int .i64 4)/\an w [] w' := by
 refine ak (nt:=3) [.tmp 2] Tryz.func301 rfl rfl rfl ?_;refine vR Γ0 lE ?_;refine vR Γ0 lE ?_;refine wZ lE ?_;exact λE=>rfl
def Z7:a8 Tryz.prog 301 where
 pre:=λW bs as_=>∃ v,as_=[.val v]
 res:=λ_ as_=>.int .i64 4
 enters:=Tryz.call301
 ok:=by
  intro W w bs us as_ hk hu hp;obtain⟨v,rfl⟩:=hp
  match us,hu with
  |[x],hu=>
   obtain⟨rfl,_⟩:=hu;exact VC x w
theorem XM(b a:Nat)(w:World)(hc:w.cell? ⟨b,0,none⟩=some (.int .i64 (a:Nat))):Calls Tryz.prog 302 #[.pointer (some ⟨b,0,none⟩)] w λe w' => e=.returned (.int .i64 (a:Nat))/\an w [] w' := by
 have hb:=amx b;refine ak (nt:=7) [.tmp 2] Tryz.func302 rfl rfl rfl ?_;refine vR Γ0 lE ?_;refine wR Γ0 (aa lE hc) ?_ ?_
 ·first|trivial|exact hb
 refine wZ lE ?_;exact λE=>rfl
noncomputable def I1:a8 Tryz.prog 302 where
 pre:=λW bs as_=>∃ (b a:Nat),as_=[.val (.pointer (some ⟨b,0,none⟩))]/\XC W (Out bs) b 0 (.int .i64 (a:Nat))
 res:=λW as_=>match as_ with
  |[.val (.pointer (some a))]=>(W.cell? a).getD undef
  |_=>undef
 enters:=Tryz.call302
 ok:=by
  intro W w bs us as_ hk hu hp;obtain⟨b,a,rfl,h1⟩:=hp
  match us,hu with
  |[x],hu=>
   obtain⟨rfl,_⟩:=hu;simp only[h1.2,Option.getD_some];exact XM b a w (h1.mono λb hb hn=>⟨hk.block b hb hn,by simp[Out]⟩:XC w (Out []) b 0 _).2
def ajy:MethSpec Tryz.prog 190 "Kind":=cg 295 false (by kernel_rfl) (by kernel_rfl)
def aaG:MethSpec Tryz.prog 190 "Place":=cg 296 false (by kernel_rfl) (by kernel_rfl)
def ajz:MethSpec Tryz.prog 192 "Kind":=cg 297 false (by kernel_rfl) (by kernel_rfl)
def aaH:MethSpec Tryz.prog 192 "Place":=cg 298 false (by kernel_rfl) (by kernel_rfl)
def ajA:MethSpec Tryz.prog 193 "Kind":=cg 299 true (by kernel_rfl) (by kernel_rfl)
def aaI:MethSpec Tryz.prog 193 "Place":=cg 300 true (by kernel_rfl) (by kernel_rfl)
def ajB:MethSpec Tryz.prog 197 "Kind":=cg 301 true (by kernel_rfl) (by kernel_rfl)
def aaJ:MethSpec Tryz.prog 197 "Place":=cg 302 true (by kernel_rfl) (by kernel_rfl)
noncomputable def spT:(f:FuncId)->Option (LE.Spec Tryz.prog f)
 |295=>some Z4.spec
 |296=>some acu.spec
 |297=>some Z5.spec
 |298=>some acv.spec
 |299=>some Z6.spec
 |300=>some I0.spec
 |301=>some Z7.spec
 |302=>some I1.spec
 |_=>none
def V3:(t:TypeId)->(name:String)->Option (MethSpec Tryz.prog t name)
 |190, "Kind"=>some ajy
 |190, "Place"=>some aaG
 |192, "Kind"=>some ajz
 |192, "Place"=>some aaH
 |193, "Kind"=>some ajA
 |193, "Place"=>some aaI
 |197, "Kind"=>some ajB
 |197, "Place"=>some aaJ
 |_,_=>none
theorem uQ{Γ:Env Tryz.prog}{W:World}{bs:List Nat}{κ:Nat}{hh:Hp}(hm:Γ.mt=V3)(hs:∀ f s,spT f=some s->Γ.sp f=some s){v:Value}{t:Tm}(h:ek W (Out bs) v t)(ht:fM t) :
  aI Γ W bs κ hh "Place" [.v v]=⟨True,.v (.int .i64 (Yf t:Nat)),[],none,[],[]⟩:=by
 have key:∀ {p:Prop} {x:SV},p->(⟨p,x,[],none,[],[]⟩:R)=⟨True,x,[],none,[],[]⟩:=λ{p x} hp=>by rw[eq_true hp]
 cases t with
 |text a s=>
  obtain rfl:v=_:=h;simp only[aI,hm,V3,aaG,cg,fz,hs 296 _ rfl];exact key (x:=.v (.int .i64 _)) (show acu.pre W bs _ from ⟨a,s,rfl⟩)
 |rx a r=>
  obtain rfl:v=_:=h;simp only[aI,hm,V3,aaH,cg,fz,hs 298 _ rfl];exact key (x:=.v (.int .i64 _)) (show acv.pre W bs _ from ⟨a,_,rfl⟩)
 | canon c=>
  obtain⟨p,rfl,hc⟩:=h;cases hc with
  |nil=>exact absurd rfl ht.2
  | mk b a op n to bk va vb x y h0 h1 h2 h3 h4 h5 h6 h7 h8=>
   simp only[aI,hm,V3,aaI,cg,fz,hs 300 _ rfl];refine (key (x:=.v (I0.res W [.val (.pointer (some ⟨b,0,none⟩))])) (show I0.pre W bs _ from ⟨b,a,rfl,h0⟩)).trans ?_;have e:I0.res W [.val (.pointer (some ⟨b,0,none⟩))]=.int .i64 (a:Nat):=by
    show (W.cell? ⟨b,0,none⟩).getD undef=_;rw[h0.2];rfl
   rw[e];rfl
 | lens c=>
  obtain⟨p,rfl,hc⟩:=h;cases hc with
  |nil=>exact absurd rfl ht.2
  | mk b a op n tx vq va vb q x y h0 h1 h2 h3 h4 h5 h6 h7 h8 h9=>
   simp only[aI,hm,V3,aaJ,cg,fz,hs 302 _ rfl];refine (key (x:=.v (I1.res W [.val (.pointer (some ⟨b,0,none⟩))])) (show I1.pre W bs _ from ⟨b,a,rfl,h0⟩)).trans ?_;have e:I1.res W [.val (.pointer (some ⟨b,0,none⟩))]=.int .i64 (a:Nat):=by
    show (W.cell? ⟨b,0,none⟩).getD undef=_;rw[h0.2];rfl
   rw[e];rfl
theorem F5{Γ:Env Tryz.prog}{W:World}{bs:List Nat}{κ:Nat}{hh:Hp}(hm:Γ.mt=V3)(hs:∀ f s,spT f=some s->Γ.sp f=some s){v:Value}{t:Tm}(h:ek W (Out bs) v t)(ht:fM t) :
  aI Γ W bs κ hh "Kind" [.v v]=⟨True,.v (.int .i64 (Pl t:Nat)),[],none,[],[]⟩:=by
 have key:∀ {p:Prop} {x:SV},p->(⟨p,x,[],none,[],[]⟩:R)=⟨True,x,[],none,[],[]⟩:=λ{p x} hp=>by rw[eq_true hp]
 cases t with
 |text a s=>
  obtain rfl:v=_:=h;simp only[aI,hm,V3,ajy,cg,fz,hs 295 _ rfl];exact key (x:=.v (.int .i64 _)) (show Z4.pre W bs _ from ⟨a,s,rfl⟩)
 |rx a r=>
  obtain rfl:v=_:=h;simp only[aI,hm,V3,ajz,cg,fz,hs 297 _ rfl];exact key (x:=.v (.int .i64 _)) (show Z5.pre W bs _ from ⟨a,_,rfl⟩)
 |canon c=>
  obtain⟨p,rfl,hc⟩:=h;simp only[aI,hm,V3,ajA,cg,fz,hs 299 _ rfl];exact key (x:=.v (.int .i64 _)) (show Z6.pre W bs _ from ⟨p,rfl⟩)
 |lens c=>
  obtain⟨p,rfl,hc⟩:=h;simp only[aI,hm,V3,ajB,cg,fz,hs 301 _ rfl];exact key (x:=.v (.int .i64 _)) (show Z7.pre W bs _ from ⟨p,rfl⟩)
noncomputable def al3:Env Tryz.prog:=⟨λ| 72=>some tP.spec|_=>none,λ| _=>none,λ_ _=>none⟩
theorem ahW:al3.sp 72=some tP.spec:=rfl
def aeL:=(oQ lE @ahW @L3 @L2 @aM @cf)
theorem XG(r:Rx)(w:World)(hr:bO r<=4000000)(hg:bj w (Out [])):Calls Tryz.prog 101 #[ay r] w λe w' => e=.returned (.string (ee (some r)))/\an w [] w' := by
 have hb:=cR r;refine ak (nt:=7) [.tmp 2] Tryz.func101 rfl rfl rfl ?_;refine vR al3 aeL ?_;refine wR al3 (aa aeL @ByteArray.size_append) ?_ ?_
 ·exact⟨⟨hr,hg⟩,by have e:(⟨#[47]⟩:ByteArray).size=1:=rfl;omega,by have e:(⟨#[47]⟩:ByteArray).size=1:=rfl;omega⟩
 refine wZ aeL ?_;exact λE=>rfl
noncomputable def ze:a8 Tryz.prog 101 where
 pre:=λW bs=>λ| [.val y0]=>(match dec ay y0 with|some r=>bO r<=4000000/\bj W (Out bs)|_=>False)|_=>False
 res:=λW=>λ| [.val y0]=>(match dec ay y0 with|some r=>.string (ee (some r))|_=>undef)|_=>undef
 enters:=Tryz.call101
 ok:=by
  intro W w bs us as_ hk hu hp;split at hp
  ·rename_i y0;split at hp
   ·rename_i r h0
    match us,hu with
    |[u0],hu=>
     obtain⟨rfl,_⟩:=hu;obtain rfl:=gv h0
     try dsimp only
     try simp only[ca bb]
     exact XG r w hp.1 (hp.2.gh hk sI)
   ·exact hp.elim
  ·exact hp.elim
theorem Dm(W:World)(r:Rx):ze.res W [.val (ay r)]=.string (ee (some r)):=by simp only[ze,ca bb]
theorem Dl(W:World)(bs:List Nat)(r:Rx):ze.pre W bs [.val (ay r)]=(bO r<=4000000/\bj W (Out bs)):=by simp only[ze,ca bb]
def strOf:Value->ByteArray
 |.string s=>s
 |_=>⟨#[]⟩
theorem tW(l:List ByteArray):(l.map Value.string).map strOf=l:=by
 rw[List.map_map];exact List.map_id'' (λ_=>rfl) l
noncomputable def IS:a8 Tryz.prog 100 where
 pre:=λW bs as_=>∃ l:List ByteArray,as_=[.row 9 1 l.length (l.map Value.string),.val (.string KG)]/\l.length<=1000/\(dd l).size<=140737488351232
 res:=λ_ as_=>match as_ with
  |[.row _ _ _ vs,_]=>.string (dd (vs.map strOf))
  |_=>undef
 enters:=Tryz.call100
 ok:=by
  intro W w bs us as_ hk hu hp;obtain⟨l,rfl,h1,h2⟩:=hp
  match us,hu with
  | [x,y],hu=>
   obtain⟨⟨hl,hx⟩,rfl,_⟩:=hu;have e:dd ((l.map Value.string).map strOf)=dd l:=by rw[tW]
   simp only[e];have hz:(Lib.join (l.map (·.data.toList)) KG.data.toList).length<=140737488355328:=by
    have:(dd l).size=(Lib.join (l.map (·.data.toList)) KG.data.toList).length:=by
     unfold dd;simp[ByteArray.size]
    omega
   rcases hx with ⟨rfl,h0⟩|⟨g,cap,cur,rfl,_,hg,hn,hcap,hsz,htk⟩
   ·obtain rfl:l=[]:=List.length_eq_zero_iff.1 h0;exact (Tryz.strings_Join_none none 0 KG w).mono λe w' ⟨h1,h2⟩=>⟨h1,h2 ▸ an.refl w _⟩
   ·refine (Tryz.strings_Join g 0 cap l KG w (λj x hj=>?_) ?_ oM hn hz).mono λe w' ⟨h1,h2⟩=>⟨h1,LE.an.LH h2⟩
    ·have hj' : (l.map Value.string)[j]?=some (.string x):=by rw[List.getElem?_map,hj];rfl
     rw[<- htk,List.getElem?_take]at hj';split at hj'
     ·simp only[World.cell?,hg];simpa using hj'
     ·cases hj'
    ·rcases Nat.lt_or_ge g w.heap.size with h|h
     ·exact h
     ·rw[Array.getElem?_eq_none h]at hg;cases hg
theorem QW(W:World)(n:Nat)(l:List ByteArray)(x:AV):IS.res W [.row 9 1 n (l.map Value.string),x]=.string (dd l):=by
 show Value.string (dd ((l.map Value.string).map strOf))=_;rw[tW]
theorem QV(W:World)(bs:List Nat)(l:List ByteArray):IS.pre W bs [.row 9 1 l.length (l.map Value.string),.val (.string ⟨#[44]⟩)]=(l.length<=1000/\(dd l).size<=140737488351232):=by
 apply propext;constructor
 ·rintro⟨l',h1,h2⟩;simp only[List.cons.injEq,AV.row.injEq]at h1;have e:l=l' := by rw[<- tW l,h1.1.2.2.2,tW]
  rw[e];exact h2
 ·exact λh=>⟨l,rfl,h⟩
def ZD:List SV->List Nat
 |[_,.hd r,.own k _]=>[k,r]
 |_=>[]
theorem ZE(x:SV)(r k o:Nat):ZD [x,.hd r,.own k o]=[k,r]:=rfl
def aaq{P:Program}{f:FuncId}(p:Bh P f)(g:List SV->List Nat):LE.Spec P f where
 ev:=λW bs κ h args=>Aa κ (g args) h args p.args p.L p.L' p.val (p.pre W bs)
 good:=λW bs κ E F h w K args=>(p.spec (g args)).good W bs κ E F h w K args
 keys:=λW bs κ h K args=>(p.spec (g args)).keys W bs κ h K args
 loc:=λW bs κ h h' args=>(p.spec (g args)).loc W bs κ h h' args
theorem aar{P:Program}{f:FuncId}(p:Bh P f)(g:List SV->List Nat)(W:World)(bs:List Nat)(κ:Nat)(h:Hp)(args:List SV):(aaq p g).ev W bs κ h args=Aa κ (g args) h args p.args p.L p.L' p.val (p.pre W bs):=rfl
noncomputable def ad8:Env Tryz.prog:=⟨λ| 39=>some Sz.spec|100=>some IS.spec|f=>spT f,λ_=>none,V3⟩
theorem ahX:ad8.sp 39=some Sz.spec:=rfl
theorem ad9:ad8.sp 100=some IS.spec:=rfl
theorem ahY{W:World}{bs:List Nat}{κ:Nat}{hh:Hp}{v:Value}{t:Tm}(h:ek W (Out bs) v t)(ht:fM t):aI ad8 W bs κ hh "Place" [.v v]=⟨True,.v (.int .i64 (Yf t:Nat)),[],none,[],[]⟩:=
 uQ rfl (λf s hf=>by
  unfold spT at hf
  split at hf<;>cases hf<;>rfl) h ht
theorem akk{t:Tm}(h:fM t):Yf t<=4096:=by
 cases t with
 |text a s=>exact h.1
 |rx a r=>exact h
 |canon c=>
  cases c with
  |nil=>exact absurd rfl h.2
  |mk a op n to bk x y=>exact (by have:=h.1;simp only[nx]at this;exact this.1)
 |lens l=>
  cases l with
  |nil=>exact absurd rfl h.2
  |mk a op n tx q x y=>exact (by have:=h.1;simp only[oc]at this;exact this.1)
theorem ek.parts{W:World}{S:Nat->Prop}{v:Value}{t:Tm}(h:ek W S v t):partsOf (.v v)=[.v v]:=by
 obtain⟨k,u,rfl⟩:=h.iface;rfl
def svs(l:List ByteArray):List SV:=l.map λs=>.v (.string s)
theorem agX(l:List ByteArray):cY (svs l)=some (l.map Value.string):=by
 induction l with
 |nil=>rfl
 |cons x l ih=>
  show (cY (svs l)).map (Value.string x::·)=_;rw[ih];rfl
theorem ack(l:List ByteArray):az (svs l)=[]:=by
 induction l with
 |nil=>rfl
 |cons x l ih=>
  show []++az (svs l)=[];rw[ih];rfl
def aeM:=(ae aeL @Dm @Dl @QW @QV @yb.eq_1 @yb.eq_2 (oQ @ahX @ad9 @Vp @Vo @agX @e8))
theorem ZO(word:ByteArray)(l:List ByteArray)(v:Value)(t:Tm)(w:World)(fp:List Nat)(E:Nat->Value)(F:Nat->List Nat)(hs:aj w fp E F (dS [(0,.cells 54 [.v v]),(1,.row 9 1 l.length (svs l))]) w)
  (hv:ek w (Out fp) v t) (ht:fM t) (hw:word.size<=4096) (hl:l.length<=1000/\(dd l).size<=4294967296) (hT:nF w (Out fp)) :
  Calls Tryz.prog 99 (ai E [.v (.string word),.hd 1,.own 0 0]).toArray w λe w' => ∃ E' F',e=.returned (den E' (.v (.string (cW (Yf t) word l))))/\(∀ k∈[0],E' k=E k)/\aj w fp E' F' (dS [(0,.cells 54 [.v v])]) w' := by
 have hpl:=λκ hh=>ahY (κ:=κ) (hh:=hh) hv ht
 have ha:=akk ht;have hn:=Ge (n:=(Yf t:Nat)) oM oM;obtain⟨hl1,hl2⟩:=hl;refine BB (nt:=17) [.tmp 5] hs ?_ ?_ Tryz.func99 rfl rfl rfl ?_
 ·simp[Lb,yb,FV.keys,SV.keys,aZ.keys,ack,az]
 ·simp
 refine vR ad8 aeM ?_;refine wR ad8 (fg aeM hpl hv.parts @ByteArray.size_append) ?_ ?_
 ·have e1:(⟨#[64]⟩:ByteArray).size=1:=rfl;have e2:(⟨#[40]⟩:ByteArray).size=1:=rfl;have e3:(⟨#[41]⟩:ByteArray).size=1:=rfl;exact⟨oM,⟨⟨oM,oM⟩,hT⟩,oM,oM,⟨hl1,oM⟩,oM,oM⟩
 refine wZ aeM ?_;exact wN (λk=>.key k) (nu aeM @cW.eq_1 @atB.eq_1 @alk.eq_1 @akt.eq_1)
def ZN(word:ByteArray)(l:List ByteArray)(v:Value)(t:Tm):Bh Tryz.prog 99 where
 args:=[.v (.string word),.hd 1,.own 0 0]
 L:=[(0,.cells 54 [.v v]),(1,.row 9 1 l.length (svs l))]
 val:=.v (.string (cW (Yf t) word l))
 L' := [(0,.cells 54 [.v v])]
 fR:=[0]
 pre:=λW bs=>(ek W (Out bs) v t/\fM t)/\word.size<=4096/\(l.length<=1000/\(dd l).size<=4294967296)/\nF W (Out bs)
 low:=by simp
 kept:=by simp
 vk:=by simp[SV.keys]
 lk:=by simp[aZ.keys,az,SV.keys]
 nd:=by simp
 enters:=Tryz.call99
 ok:=by
  intro W w bs fp E F hk hm hs hp;obtain⟨⟨h1,h2⟩,h3,h4,h5⟩:=hp;exact ZO word l v t w fp E F hs (h1.mono λb hb hn=>⟨hk.block b hb hn,λhb' => (hm b hb').elim (λg=>absurd g (Nat.not_le.2 hb)) hn⟩) h2 h3 h4 (h5.gh hk hm)
def Bn(W:World)(S:Nat->Prop):Prop:=bj W S/\nF W S
abbrev tmB (t:Tm):Prop:=fM t/\br t<=8192
abbrev N4 (n:Nat):Prop:=∀ (t:Tm) (v:Value) (w:World),ek w (Out []) v t->tmB t->dT t<n->Bn w (Out [])->Calls Tryz.prog 59 #[v] w λe w' => e=.returned (.string (vI t))/\an w [] w'
noncomputable def GH(n:Nat)(h:N4 n):a8 Tryz.prog 59 where
 pre:=λW bs as_=>∃ v t,as_=[.val v]/\ek W (Out bs) v t/\tmB t/\dT t<n/\Bn W (Out bs)
 res:=λW as_=>match as_ with
  |[.val v]=>.string (vI (rE W v))
  |_=>undef
 enters:=Tryz.call59
 ok:=by
  intro W w bs us as_ hk hu hp;obtain⟨v,t,rfl,h1,h2,h3,h4⟩:=hp
  match us,hu with
  |[x],hu=>
   obtain⟨rfl,_⟩:=hu;simp only[bW h1];exact h t x w (h1.mono λb hb hn=>⟨hk.block b hb hn,by simp[Out]⟩) h2 h3 ⟨h4.1.gh hk sI,h4.2.gh hk sI⟩
theorem GI(n:Nat)(h:N4 n)(W:World)(bs:List Nat)(v:Value):(GH n h).pre W bs [.val v]=∃ t,ek W (Out bs) v t/\tmB t/\dT t<n/\Bn W (Out bs):=by
 apply propext;constructor
 ·rintro⟨v',t,h1,h2⟩;cases h1;exact⟨t,h2⟩
 ·exact λ⟨t,h2⟩=>⟨v,t,rfl,h2⟩
theorem GJ(n:Nat)(h:N4 n)(W:World)(v:Value):(GH n h).res W [.val v]=.string (vI (rE W v)):=rfl
section
variable (n:Nat)(h:N4 n)(word:ByteArray)(l:List ByteArray)(v:Value)(t:Tm)
noncomputable def oO:Env Tryz.prog:=⟨λ| 59=>some (GH n h).spec|101=>some ze.spec|38=>some A4.spec|99=>some (aaq (ZN word l v t) ZD)|_=>none,λ_=>none,λ_ _=>none⟩
theorem ah0:(oO n h word l v t).sp 59=some (GH n h).spec:=rfl
theorem aea:(oO n h word l v t).sp 101=some ze.spec:=rfl
theorem ahZ:(oO n h word l v t).sp 38=some A4.spec:=rfl
theorem ah1:(oO n h word l v t).sp 99=some (aaq (ZN word l v t) ZD):=rfl
end
def bm:=(ae @List.replicate_succ.{0} @List.replicate_zero.{0} @au @ab lx ly Tr (ae Tw TS ty5 ty6 ty7 ty8 lA (ae di dj dk dm dB dD dF (ae dG eK eL eM eN eO eP (ae ag8 ag9 aha ahb jS jT jU (ae jV jW iH iI iJ iK qs (ae qt qu qv qw qx qy qz (ae qA oy oz oA oB oC oD (ae oE oF oG qB qC qD qE (ae qF qG qH qI qJ qK qL (ae qM qN qO qP qQ qR qS (ae qT mG mH mI mJ mK mL (ae mM mN mO mP mQ mR mS (ae mT mU mV mW mX mY acC (ae acD acE @aV @aw @aD @aF @aar (ae @ZE @Aa.eq_1 @j5.eq_1 @j5.eq_2 @ky.eq_1 @ky.eq_2 @ky.eq_3 (ae @ky.eq_4 @ky.eq_5 @ky.eq_6 @ky.eq_7 @ky.eq_8 @r9.eq_1 @r9.eq_2 (ae @jf.eq_1 @jf.eq_2 @lH.eq_1 @lH.eq_2 @iB.eq_1 @iB.eq_2 @iB.eq_3 (ae @iB.eq_4 @xZ.eq_1 @mp.eq_1 @gF @yo @uJ @aM (ae @cf @ah0 @aea @ahZ @ah1 @GI @GJ (oQ @Dm @Dl @Ma @L9 @ZN.eq_1 @svs.eq_1)))))))))))))))))))))
theorem Rf(n:Nat)(h:N4 n):N4 (n+1):=by
 intro t v w hv hB hd hg;have hvp:=hv.parts;have hv0:=hv;have hok:=hB.1;have hsz:=hB.2;have hT:=hg.2;refine ak (nt:=260) [.tmp 2] Tryz.func59 rfl rfl rfl ?_;refine vR Γ0 (aa bm hvp) ?_;refine vR Γ0 bm ?_;refine Wp.seq ?_;refine vR Γ0 bm ?_;refine Wp.block ?_;cases t with
 |text a s=>
  obtain rfl:v=_:=hv;have hok1:a<=4096/\s.size<=4096:=hok;have hq:=kx s;have p0:(eY s).size<=400000000:=oM;have hj:=bF [eY s];simp only[List.map_cons,List.map_nil,List.sum_cons,List.sum_nil]at hj;have hj2:(dd [eY s]).size<=4294967296:=oM;have hE:vI (.text a s)=cW a Tq [eY s]:=rfl;rw[hE]
  refine vR Γ0 bm ?_;refine wC bm (λhc=>?_) (λhc=>?_)
  rotate_left
  ·first|cases hc|exact absurd hc sI
  refine vR Γ0 bm ?_;refine wR (oO n h Tq [eY s] (.iface 190 (.agg #[.int .i64 (a:Nat),.string s])) (.text a s)) (aa bm @Tq.eq_1) ?_ ?_
  ·exact⟨oM,dE,⟨hv0,hok⟩,dE,hj2,hT⟩
  refine wZ bm ?_;exact λE=>rfl
 |rx a r=>
  obtain rfl:v=_:=hv;have hn:=gY (some r);have hrz:bO r<=8192:=hsz;have hrz2:eg (some r)=bO r:=rfl;have p0:(ee (some r)).size<=400000000:=oM;have hj:=bF [ee (some r)];simp only[List.map_cons,List.map_nil,List.sum_cons,List.sum_nil]at hj;have hj2:(dd [ee (some r)]).size<=4294967296:=oM
  have hE:vI (.rx a r)=cW a Ih [ee (some r)]:=rfl;rw[hE];refine vR Γ0 bm ?_;refine wC bm (λhc=>?_) (λhc=>?_)
  ·first|cases hc|exact absurd hc sI
  refine vR Γ0 bm ?_;refine wC bm (λhc=>?_) (λhc=>?_)
  rotate_left
  ·first|cases hc|exact absurd hc sI
  refine wR Γ0 bm ?_ ?_
  ·exact aM r
  refine wR (oO n h Ih [ee (some r)] (.iface 192 (.agg #[.int .i64 (a:Nat),ay r])) (.rx a r)) (aa bm @Ih.eq_1) ?_ ?_
  ·exact⟨⟨oM,hg.1⟩,dE,⟨hv0,hok⟩,dE,hj2,hT⟩
  refine wZ bm ?_;exact λE=>rfl
 | canon c=>
  obtain⟨p,rfl,hc0⟩:=hv;refine vR Γ0 bm ?_;refine wC bm (λhc=>?_) (λhc=>?_)
  ·first|cases hc|exact absurd hc sI
  refine vR Γ0 bm ?_;refine wC bm (λhc=>?_) (λhc=>?_)
  ·first|cases hc|exact absurd hc sI
  refine vR Γ0 bm ?_;refine wC bm (λhc=>?_) (λhc=>?_)
  rotate_left
  ·first|cases hc|exact absurd hc sI
  cases hc0 with
  |nil=>exact absurd rfl hok.2
  | mk b a op nd to bk va vb x y h0 h1 h2 h3 h4 h5 h6 hx hy=>
   have hok1:=hok.1;simp only[nx]at hok1;obtain⟨k0,k1,k2,k3,k4,k5,kW⟩:=hok1;simp only[dT,dC]at hd;have hZ:1+eg nd+dM x+dM y<=8192:=by
    simp only[br,dM]at hsz;omega
   have qa:=kx to;have qb:=kx bk;have sx:=xo x k4;have sy:=xo y k5;have tx:rE w (.iface 193 va)=.canon x:=bW (S:=Out []) ⟨va,rfl,hx⟩;have ty:rE w (.iface 193 vb)=.canon y:=bW (S:=Out []) ⟨vb,rfl,hy⟩;have vx:ek w (Out []) (.iface 193 va) (.canon x):=⟨va,rfl,hx⟩
   have vy:ek w (Out []) (.iface 193 vb) (.canon y):=⟨vb,rfl,hy⟩;have bx:x≠.nil->tmB (.canon x):=λhn=>⟨⟨k4,hn⟩,by simp only[br];omega⟩
   have bY:y≠.nil->tmB (.canon y):=λhn=>⟨⟨k5,hn⟩,by simp only[br];omega⟩
   have ex:vI (.canon x)=nv x:=rfl;have ey:vI (.canon y)=nv y:=rfl;have dx:dT (.canon x)<n:=by simp only[dT];omega
   have dy:dT (.canon y)<n:=by simp only[dT];omega
   refine vR Γ0 bm ?_;refine Wp.seq ?_;refine vR Γ0 (aa bm h1.2) ?_;refine Wp.block ?_;refine Wp.seq ?_;refine vR Γ0 bm ?_;refine wC bm (λhc=>?_) (λhc=>?_)
   ·have ho:op=Sx\/op=rk:=.inl (rC hc);have hcT:=hc;refine wK ?_;refine wC bm (λhc=>?_) (λhc=>?_)
    rotate_left
    ·rw[hcT]at hc;cases hc
    have hnn:nd≠none:=by rw[BG (.inl ho)]at kW;exact kW
    obtain⟨r,rfl⟩:∃ r,nd=some r:=by
     cases nd with
     |none=>exact absurd rfl hnn
     |some r=>exact⟨r,rfl⟩
    have g2:w.cell? ⟨b,0+2,none⟩=some (ay r):=h2.2;have hns:=gY (some r);have hrz2:eg (some r)=bO r:=rfl;have p0:(ee (some r)).size<=400000000:=oM;have hj:=bF [ee (some r)];simp only[List.map_cons,List.map_nil,List.sum_cons,List.sum_nil]at hj;have hj2:(dd [ee (some r)]).size<=4294967296:=oM
    have hE:vI (.canon (.mk a op (some r) to bk x y))=cW a op [ee (some r)]:=by
     show nv _=_;rw[nv,if_pos ho]
    rw[hE];refine kT (oO n h op [ee (some r)] (.iface 193 (.pointer (some ⟨b,0,none⟩))) (.canon (.mk a op (some r) to bk x y))) (bp bm h1.2 g2) ?_ ?_
    ·exact⟨⟨oM,hg.1⟩,dE,⟨hv0,hok⟩,k1,hj2,hT⟩
    refine wZ bm ?_;exact λE=>rfl
   have oa1:¬ op=Sx:=rB hc;refine vr Γ0 bm ?_;refine wC bm (λhc=>?_) (λhc=>?_)
   ·have ho:op=Sx\/op=rk:=.inr (rC hc);have hnn:nd≠none:=by rw[BG (.inl ho)]at kW;exact kW
    obtain⟨r,rfl⟩:∃ r,nd=some r:=by
     cases nd with
     |none=>exact absurd rfl hnn
     |some r=>exact⟨r,rfl⟩
    have g2:w.cell? ⟨b,0+2,none⟩=some (ay r):=h2.2;have hns:=gY (some r);have hrz2:eg (some r)=bO r:=rfl;have p0:(ee (some r)).size<=400000000:=oM;have hj:=bF [ee (some r)];simp only[List.map_cons,List.map_nil,List.sum_cons,List.sum_nil]at hj;have hj2:(dd [ee (some r)]).size<=4294967296:=oM
    have hE:vI (.canon (.mk a op (some r) to bk x y))=cW a op [ee (some r)]:=by
     show nv _=_;rw[nv,if_pos ho]
    rw[hE];refine kT (oO n h op [ee (some r)] (.iface 193 (.pointer (some ⟨b,0,none⟩))) (.canon (.mk a op (some r) to bk x y))) (bp bm h1.2 g2) ?_ ?_
    ·exact⟨⟨oM,hg.1⟩,dE,⟨hv0,hok⟩,k1,hj2,hT⟩
    refine wZ bm ?_;exact λE=>rfl
   have o1:¬ (op=Sx\/op=rk):=λh=>h.elim oa1 (rB hc)
   refine vR Γ0 bm ?_;refine wC bm (λhc=>?_) (λhc=>?_)
   ·have ho:op=jJ:=rC hc;have hnn:nd≠none:=by rw[BG (.inr ho)]at kW;exact kW
    obtain⟨r,rfl⟩:∃ r,nd=some r:=by
     cases nd with
     |none=>exact absurd rfl hnn
     |some r=>exact⟨r,rfl⟩
    have g2:w.cell? ⟨b,0+2,none⟩=some (ay r):=h2.2;have hns:=gY (some r);have hrz2:eg (some r)=bO r:=rfl;have p0:(ee (some r)).size<=400000000:=oM;have p1:(eY to).size<=400000000:=oM;have p2:(eY bk).size<=400000000:=oM;have hj:=bF [ee (some r),eY to,eY bk]
    simp only[List.map_cons,List.map_nil,List.sum_cons,List.sum_nil]at hj;have hj2:(dd [ee (some r),eY to,eY bk]).size<=4294967296:=oM;have hE:vI (.canon (.mk a op (some r) to bk x y))=cW a op [ee (some r),eY to,eY bk]:=by
     show nv _=_;rw[nv,if_neg o1,if_pos ho]
    rw[hE];refine kT (oO n h op [ee (some r),eY to,eY bk] (.iface 193 (.pointer (some ⟨b,0,none⟩))) (.canon (.mk a op (some r) to bk x y))) (nu bm h1.2 g2 h3.2 h4.2) ?_ ?_
    ·exact⟨⟨oM,hg.1⟩,oM,oM,dE,⟨hv0,hok⟩,k1,hj2,hT⟩
    refine wZ bm ?_;exact λE=>rfl
   have o2:¬ op=jJ:=rB hc;refine vR Γ0 bm ?_;refine wC bm (λhc=>?_) (λhc=>?_)
   ·have ho:op=gJ:=rC hc;have hnx:x≠.nil:=by subst ho;rw[KE]at kW;exact kW
    have p0:(nv x).size<=400000000:=oM;have hj:=bF [nv x];simp only[List.map_cons,List.map_nil,List.sum_cons,List.sum_nil]at hj;have hj2:(dd [nv x]).size<=4294967296:=oM;have hE:vI (.canon (.mk a op nd to bk x y))=cW a op [nv x]:=by
     show nv _=_;rw[nv,if_neg o1,if_neg o2,if_pos ho]
    rw[hE];refine kT (oO n h op [nv x] (.iface 193 (.pointer (some ⟨b,0,none⟩))) (.canon (.mk a op nd to bk x y))) (nu bm h1.2 h5.2 tx ex) ?_ ?_
    ·exact⟨⟨_,vx,bx hnx,dx,hg⟩,dE,⟨hv0,hok⟩,k1,hj2,hT⟩
    refine wZ bm ?_;exact λE=>rfl
   have o3:¬ op=gJ:=rB hc;refine wK ?_;obtain⟨hnx,hny⟩:x≠.nil/\y≠.nil:=by
    rw[cnW,if_neg (λh=>h.elim o1 o2),if_neg o3]at kW;exact kW
   have p0:(nv x).size<=400000000:=oM;have p1:(nv y).size<=400000000:=oM;have hj:=bF [nv x,nv y];simp only[List.map_cons,List.map_nil,List.sum_cons,List.sum_nil]at hj;have hj2:(dd [nv x,nv y]).size<=4294967296:=oM;have hE:vI (.canon (.mk a op nd to bk x y))=cW a op [nv x,nv y]:=by
    show nv _=_;rw[nv,if_neg o1,if_neg o2,if_neg o3]
   rw[hE];refine kT (oO n h op [nv x,nv y] (.iface 193 (.pointer (some ⟨b,0,none⟩))) (.canon (.mk a op nd to bk x y))) (ae bm h1.2 h5.2 tx ex h6.2 ty ey) ?_ ?_
   ·exact⟨⟨_,vx,bx hnx,dx,hg⟩,⟨_,vy,bY hny,dy,hg⟩,dE,⟨hv0,hok⟩,k1,hj2,hT⟩
   refine wZ bm ?_;exact λE=>rfl
 | lens c=>
  obtain⟨p,rfl,hc0⟩:=hv;refine vR Γ0 bm ?_;refine wC bm (λhc=>?_) (λhc=>?_)
  ·first|cases hc|exact absurd hc sI
  refine vR Γ0 bm ?_;refine wC bm (λhc=>?_) (λhc=>?_)
  ·first|cases hc|exact absurd hc sI
  refine vR Γ0 bm ?_;refine wC bm (λhc=>?_) (λhc=>?_)
  ·first|cases hc|exact absurd hc sI
  refine vR Γ0 bm ?_;refine wC bm (λhc=>?_) (λhc=>?_)
  rotate_left
  ·first|cases hc|exact absurd hc sI
  cases hc0 with
  |nil=>exact absurd rfl hok.2
  | mk b a op nd tx vq va vb q x y h0 h1 h2 h3 h4 h5 h6 hq hx hy=>
   have hok1:=hok.1;simp only[oc]at hok1;obtain⟨k0,k1,k2,k3,k4,k5,kW⟩:=hok1;simp only[dT,dL]at hd;have hZ:1+eg nd+dM q+gn x+gn y<=8192:=by
    simp only[br,gn]at hsz;omega
   have qa:=kx tx;have sq:=xo q k3;have sx:=MF x k4;have sy:=MF y k5;have tq:rE w (.iface 193 vq)=.canon q:=bW (S:=Out []) ⟨vq,rfl,hq⟩;have tx' : rE w (.iface 197 va)=.lens x:=bW (S:=Out []) ⟨va,rfl,hx⟩;have ty:rE w (.iface 197 vb)=.lens y:=bW (S:=Out []) ⟨vb,rfl,hy⟩
   have vq' : ek w (Out []) (.iface 193 vq) (.canon q):=⟨vq,rfl,hq⟩;have vx:ek w (Out []) (.iface 197 va) (.lens x):=⟨va,rfl,hx⟩;have vy:ek w (Out []) (.iface 197 vb) (.lens y):=⟨vb,rfl,hy⟩;have bq:q≠.nil->tmB (.canon q):=λhn=>⟨⟨k3,hn⟩,by simp only[br];omega⟩
   have bx:x≠.nil->tmB (.lens x):=λhn=>⟨⟨k4,hn⟩,by simp only[br];omega⟩
   have bY:y≠.nil->tmB (.lens y):=λhn=>⟨⟨k5,hn⟩,by simp only[br];omega⟩
   have eq' : vI (.canon q)=nv q:=rfl;have ex:vI (.lens x)=im x:=rfl;have ey:vI (.lens y)=im y:=rfl;have dq:dT (.canon q)<n:=by simp only[dT];omega
   have dx:dT (.lens x)<n:=by simp only[dT];omega
   have dy:dT (.lens y)<n:=by simp only[dT];omega
   refine vR Γ0 bm ?_;refine Wp.seq ?_;refine vR Γ0 (aa bm h1.2) ?_;refine Wp.block ?_;refine Wp.seq ?_;refine vR Γ0 bm ?_;refine wC bm (λhc=>?_) (λhc=>?_)
   ·have ho:op=jD\/op=AB:=.inl (rC hc);have hcT:=hc;refine wK ?_;refine wC bm (λhc=>?_) (λhc=>?_)
    rotate_left
    ·rw[hcT]at hc;cases hc
    have hnn:nd≠none:=by rw[yB (.inl ho)]at kW;exact kW
    obtain⟨r,rfl⟩:∃ r,nd=some r:=by
     cases nd with
     |none=>exact absurd rfl hnn
     |some r=>exact⟨r,rfl⟩
    have g2:w.cell? ⟨b,0+2,none⟩=some (ay r):=h2.2;have hns:=gY (some r);have hrz2:eg (some r)=bO r:=rfl;have p0:(ee (some r)).size<=400000000:=oM;have hj:=bF [ee (some r)];simp only[List.map_cons,List.map_nil,List.sum_cons,List.sum_nil]at hj;have hj2:(dd [ee (some r)]).size<=4294967296:=oM
    have hE:vI (.lens (.mk a op (some r) tx q x y))=cW a op [ee (some r)]:=by
     show im _=_;rw[im,if_pos ho]
    rw[hE];refine kT (oO n h op [ee (some r)] (.iface 197 (.pointer (some ⟨b,0,none⟩))) (.lens (.mk a op (some r) tx q x y))) (bp bm h1.2 g2) ?_ ?_
    ·exact⟨⟨oM,hg.1⟩,dE,⟨hv0,hok⟩,k1,hj2,hT⟩
    refine wZ bm ?_;exact λE=>rfl
   have oa1:¬ op=jD:=rB hc;refine vr Γ0 bm ?_;refine wC bm (λhc=>?_) (λhc=>?_)
   ·have ho:op=jD\/op=AB:=.inr (rC hc);have hnn:nd≠none:=by rw[yB (.inl ho)]at kW;exact kW
    obtain⟨r,rfl⟩:∃ r,nd=some r:=by
     cases nd with
     |none=>exact absurd rfl hnn
     |some r=>exact⟨r,rfl⟩
    have g2:w.cell? ⟨b,0+2,none⟩=some (ay r):=h2.2;have hns:=gY (some r);have hrz2:eg (some r)=bO r:=rfl;have p0:(ee (some r)).size<=400000000:=oM;have hj:=bF [ee (some r)];simp only[List.map_cons,List.map_nil,List.sum_cons,List.sum_nil]at hj;have hj2:(dd [ee (some r)]).size<=4294967296:=oM
    have hE:vI (.lens (.mk a op (some r) tx q x y))=cW a op [ee (some r)]:=by
     show im _=_;rw[im,if_pos ho]
    rw[hE];refine kT (oO n h op [ee (some r)] (.iface 197 (.pointer (some ⟨b,0,none⟩))) (.lens (.mk a op (some r) tx q x y))) (bp bm h1.2 g2) ?_ ?_
    ·exact⟨⟨oM,hg.1⟩,dE,⟨hv0,hok⟩,k1,hj2,hT⟩
    refine wZ bm ?_;exact λE=>rfl
   have o1:¬ (op=jD\/op=AB):=λh=>h.elim oa1 (rB hc)
   refine vR Γ0 bm ?_;refine wC bm (λhc=>?_) (λhc=>?_)
   ·have ho:op=Hs:=rC hc;have hnn:nd≠none:=by rw[yB (.inr ho)]at kW;exact kW
    obtain⟨r,rfl⟩:∃ r,nd=some r:=by
     cases nd with
     |none=>exact absurd rfl hnn
     |some r=>exact⟨r,rfl⟩
    have g2:w.cell? ⟨b,0+2,none⟩=some (ay r):=h2.2;have hns:=gY (some r);have hrz2:eg (some r)=bO r:=rfl;have p0:(ee (some r)).size<=400000000:=oM;have p1:(eY tx).size<=400000000:=oM;have hj:=bF [ee (some r),eY tx];simp only[List.map_cons,List.map_nil,List.sum_cons,List.sum_nil]at hj
    have hj2:(dd [ee (some r),eY tx]).size<=4294967296:=oM;have hE:vI (.lens (.mk a op (some r) tx q x y))=cW a op [ee (some r),eY tx]:=by
     show im _=_;rw[im,if_neg o1,if_pos ho]
    rw[hE];refine kT (oO n h op [ee (some r),eY tx] (.iface 197 (.pointer (some ⟨b,0,none⟩))) (.lens (.mk a op (some r) tx q x y))) (fg bm h1.2 g2 h3.2) ?_ ?_
    ·exact⟨⟨oM,hg.1⟩,oM,dE,⟨hv0,hok⟩,k1,hj2,hT⟩
    refine wZ bm ?_;exact λE=>rfl
   have o2:¬ op=Hs:=rB hc;refine vR Γ0 bm ?_;refine wC bm (λhc=>?_) (λhc=>?_)
   ·have ho:op=mm:=rC hc;have p0:(eY tx).size<=400000000:=oM;have hj:=bF [eY tx];simp only[List.map_cons,List.map_nil,List.sum_cons,List.sum_nil]at hj;have hj2:(dd [eY tx]).size<=4294967296:=oM;have hE:vI (.lens (.mk a op nd tx q x y))=cW a op [eY tx]:=by
     show im _=_;rw[im,if_neg o1,if_neg o2,if_pos ho]
    rw[hE];refine kT (oO n h op [eY tx] (.iface 197 (.pointer (some ⟨b,0,none⟩))) (.lens (.mk a op nd tx q x y))) (bp bm h1.2 h3.2) ?_ ?_
    ·exact⟨oM,dE,⟨hv0,hok⟩,k1,hj2,hT⟩
    refine wZ bm ?_;exact λE=>rfl
   have o3:¬ op=mm:=rB hc;refine Wp.seq ?_;refine vR Γ0 bm ?_;refine wC bm (λhc=>?_) (λhc=>?_)
   ·have ho:op=gJ\/op=iW:=.inl (rC hc);have hcT:=hc;refine wK ?_;refine wC bm (λhc=>?_) (λhc=>?_)
    rotate_left
    ·rw[hcT]at hc;cases hc
    have hnx:x≠.nil:=by rw[tJ (.inl ho)]at kW;exact kW
    have p0:(im x).size<=400000000:=oM;have hj:=bF [im x];simp only[List.map_cons,List.map_nil,List.sum_cons,List.sum_nil]at hj;have hj2:(dd [im x]).size<=4294967296:=oM;have hE:vI (.lens (.mk a op nd tx q x y))=cW a op [im x]:=by
     show im _=_;rw[im,if_neg o1,if_neg o2,if_neg o3,if_pos ho]
    rw[hE];refine kT (oO n h op [im x] (.iface 197 (.pointer (some ⟨b,0,none⟩))) (.lens (.mk a op nd tx q x y))) (nu bm h1.2 h5.2 tx' ex) ?_ ?_
    ·exact⟨⟨_,vx,bx hnx,dx,hg⟩,dE,⟨hv0,hok⟩,k1,hj2,hT⟩
    refine wZ bm ?_;exact λE=>rfl
   have oa4:¬ op=gJ:=rB hc;refine vr Γ0 bm ?_;refine wC bm (λhc=>?_) (λhc=>?_)
   ·have ho:op=gJ\/op=iW:=.inr (rC hc);have hnx:x≠.nil:=by rw[tJ (.inl ho)]at kW;exact kW
    have p0:(im x).size<=400000000:=oM;have hj:=bF [im x];simp only[List.map_cons,List.map_nil,List.sum_cons,List.sum_nil]at hj;have hj2:(dd [im x]).size<=4294967296:=oM;have hE:vI (.lens (.mk a op nd tx q x y))=cW a op [im x]:=by
     show im _=_;rw[im,if_neg o1,if_neg o2,if_neg o3,if_pos ho]
    rw[hE];refine kT (oO n h op [im x] (.iface 197 (.pointer (some ⟨b,0,none⟩))) (.lens (.mk a op nd tx q x y))) (nu bm h1.2 h5.2 tx' ex) ?_ ?_
    ·exact⟨⟨_,vx,bx hnx,dx,hg⟩,dE,⟨hv0,hok⟩,k1,hj2,hT⟩
    refine wZ bm ?_;exact λE=>rfl
   have o4:¬ (op=gJ\/op=iW):=λh=>h.elim oa4 (rB hc)
   refine vR Γ0 bm ?_;refine wC bm (λhc=>?_) (λhc=>?_)
   ·have ho:op=wJ:=rC hc;obtain⟨hnx,hnq⟩:x≠.nil/\q≠.nil:=by rw[wV (.inl ho)]at kW;exact kW
    have p0:(nv q).size<=400000000:=oM;have p1:(im x).size<=400000000:=oM;have hj:=bF [nv q,im x];simp only[List.map_cons,List.map_nil,List.sum_cons,List.sum_nil]at hj;have hj2:(dd [nv q,im x]).size<=4294967296:=oM;have hE:vI (.lens (.mk a op nd tx q x y))=cW a op [nv q,im x]:=by
     show im _=_;rw[im,if_neg o1,if_neg o2,if_neg o3,if_neg o4,if_pos ho]
    rw[hE];refine kT (oO n h op [nv q,im x] (.iface 197 (.pointer (some ⟨b,0,none⟩))) (.lens (.mk a op nd tx q x y))) (ae bm h1.2 h4.2 tq eq' h5.2 tx' ex) ?_ ?_
    ·exact⟨⟨_,vq',bq hnq,dq,hg⟩,⟨_,vx,bx hnx,dx,hg⟩,dE,⟨hv0,hok⟩,k1,hj2,hT⟩
    refine wZ bm ?_;exact λE=>rfl
   have o5:¬ op=wJ:=rB hc;refine vR Γ0 bm ?_;refine wC bm (λhc=>?_) (λhc=>?_)
   ·have ho:op=qf:=rC hc;obtain⟨hnx,hnq⟩:x≠.nil/\q≠.nil:=by rw[wV (.inr ho)]at kW;exact kW
    have p0:(im x).size<=400000000:=oM;have p1:(nv q).size<=400000000:=oM;have hj:=bF [im x,nv q];simp only[List.map_cons,List.map_nil,List.sum_cons,List.sum_nil]at hj;have hj2:(dd [im x,nv q]).size<=4294967296:=oM;have hE:vI (.lens (.mk a op nd tx q x y))=cW a op [im x,nv q]:=by
     show im _=_;rw[im,if_neg o1,if_neg o2,if_neg o3,if_neg o4,if_neg o5,if_pos ho]
    rw[hE];refine kT (oO n h op [im x,nv q] (.iface 197 (.pointer (some ⟨b,0,none⟩))) (.lens (.mk a op nd tx q x y))) (ae bm h1.2 h5.2 tx' ex h4.2 tq eq') ?_ ?_
    ·exact⟨⟨_,vx,bx hnx,dx,hg⟩,⟨_,vq',bq hnq,dq,hg⟩,dE,⟨hv0,hok⟩,k1,hj2,hT⟩
    refine wZ bm ?_;exact λE=>rfl
   have o6:¬ op=qf:=rB hc;refine vR Γ0 bm ?_;refine wC bm (λhc=>?_) (λhc=>?_)
   ·have ho:op=v7:=rC hc;have hnx:x≠.nil:=by rw[tJ (.inr ho)]at kW;exact kW
    have p0:(im x).size<=400000000:=oM;have p1:(eY tx).size<=400000000:=oM;have hj:=bF [im x,eY tx];simp only[List.map_cons,List.map_nil,List.sum_cons,List.sum_nil]at hj;have hj2:(dd [im x,eY tx]).size<=4294967296:=oM;have hE:vI (.lens (.mk a op nd tx q x y))=cW a op [im x,eY tx]:=by
     show im _=_;rw[im,if_neg o1,if_neg o2,if_neg o3,if_neg o4,if_neg o5,if_neg o6,if_pos ho]
    rw[hE];refine kT (oO n h op [im x,eY tx] (.iface 197 (.pointer (some ⟨b,0,none⟩))) (.lens (.mk a op nd tx q x y))) (oQ bm h1.2 h5.2 tx' ex h3.2) ?_ ?_
    ·exact⟨⟨_,vx,bx hnx,dx,hg⟩,oM,dE,⟨hv0,hok⟩,k1,hj2,hT⟩
    refine wZ bm ?_;exact λE=>rfl
   have o7:¬ op=v7:=rB hc;refine wK ?_;obtain⟨hnx,hny⟩:x≠.nil/\y≠.nil:=by
    rw[VL,if_neg (λh=>h.elim o1 o2),if_neg o3,if_neg (λh=>h.elim o4 o7),if_neg (λh=>h.elim o5 o6)]at kW;exact kW
   have p0:(im x).size<=400000000:=oM;have p1:(im y).size<=400000000:=oM;have hj:=bF [im x,im y];simp only[List.map_cons,List.map_nil,List.sum_cons,List.sum_nil]at hj;have hj2:(dd [im x,im y]).size<=4294967296:=oM;have hE:vI (.lens (.mk a op nd tx q x y))=cW a op [im x,im y]:=by
    show im _=_;rw[im,if_neg o1,if_neg o2,if_neg o3,if_neg o4,if_neg o5,if_neg o6,if_neg o7]
   rw[hE];refine kT (oO n h op [im x,im y] (.iface 197 (.pointer (some ⟨b,0,none⟩))) (.lens (.mk a op nd tx q x y))) (ae bm h1.2 h5.2 tx' ex h6.2 ty ey) ?_ ?_
   ·exact⟨⟨_,vx,bx hnx,dx,hg⟩,⟨_,vy,bY hny,dy,hg⟩,dE,⟨hv0,hok⟩,k1,hj2,hT⟩
   refine wZ bm ?_;exact λE=>rfl
theorem zg:∀ n,N4 n
 |0=>λt v w hv hB hd=>absurd hd (Nat.not_lt_zero _)
 |n+1=>Rf n (zg n)
theorem tS{s:ByteArray}{t:Tm}(h:bI s=.ok t):Ym t:=by
 unfold bI at h;split at h
 ·cases h
 ·rename_i p hp;exact ae3 (Q6 hp) h
def KO(p:Pm):me Tryz.prog 27 where
 kinds:=[none]
 pre:=λas_ W S=>∃ v,as_=[.val v]/\PmV W S v p/\(Wt p/\p.1.length<=4097)/\bj W S
 premono:=λas_ W S W' S' hs ⟨v,h1,h2,h3,h4⟩=>⟨v,h1,h2.mono hs,h3,h4.mono hs⟩
 out:=λ_=>elO (v8 p)
 enters:=Tryz.call27
 ok:=by
  intro w S us as_ hu hp;obtain⟨v,rfl,h1,⟨h2,h3⟩,h4⟩:=hp
  match us,hu with
  |[u],hu=>
   obtain⟨rfl,_⟩:=hu;exact Zg p u w S h1 h2 h3 h4
theorem UP(p:Pm)(v:Value)(W:World)(S:Nat->Prop):(KO p).pre [.val v] W S=(PmV W S v p/\(Wt p/\p.1.length<=4097)/\bj W S):=by
 apply propext;constructor
 ·rintro⟨v',h1,h2⟩;cases h1;exact h2
 ·exact λh=>⟨v,rfl,h⟩
theorem UO(p:Pm)(as_:List AV):(KO p).out as_=elO (v8 p):=rfl
theorem KQ(p:Pm):(KO p).kinds=[none]:=rfl
section
variable (G:Nat->Prop)(s:ByteArray)(p:Pm)
noncomputable def J2:Env Tryz.prog:=⟨λ| 28=>some ((Xx s).spec G)|27=>some ((KO p).spec G)|_=>none,λ| 39=>some uf|_=>none,λ_ _=>none⟩
theorem ah7:(J2 G s p).sp 28=some ((Xx s).spec G):=rfl
theorem ah6:(J2 G s p).sp 27=some ((KO p).spec G):=rfl
theorem X9:(J2 G s p).eqs 39=some uf:=rfl
end
def ft:=(ae @List.replicate_succ.{0} @List.replicate_zero.{0} @au @ab lx ly Tr (ae Tw TS ty5 ty6 ty7 ty8 lA (ae di dj dk dm dB dD dF (ae dG eK eL eM eN eO eP (ae ag8 ag9 aha ahb vn vt vu (ae vv vz vA vB vC vD vE (ae jS jT jU jV jW Ri Rj (ae Dq Dr Ds Dt Du Rk Rl (ae Dv Dw Dx Dy Dz DA iH (ae iI iJ iK qs qt qu qv (ae qw qx qy qz qA oy oz (ae oA oB oC oD oE oF oG (ae qB qC qD qE qF qG qH (ae qI qJ qK qL qM qN qO (ae qP qQ qR qS qT mG mH (ae mI mJ mK mL mM mN mO (ae mP mQ mR mS mT mU mV (ae mW mX mY acC acD acE @gE (ae @e9 @aV @aw @aD @aF @cP @ah7 (ae @ah6 @X9 @uL @Xx.eq_1 @IX @qk @UP (EL @UO @KQ @Ht @ko @Sh.pf.eq_1 @pR.eq_1 @Fa.eq_1)))))))))))))))))))))
theorem XP(s:ByteArray)(w:World)(S:Nat->Prop)(hs:s.size<=9223372036854775807)(hg:fC w S)(he:bj w S):Calls Tryz.prog 22 #[.string s] w λe w' => lI w S e w' (elO (bI s)):=by
 have u0:=aG.up w S;have s0:=hg.mono (aG.e7 w S);have e0:=he.mono (aG.e7 w S);refine eV (nt:=19) S [.tmp 2,.cell 3 39] Tryz.func22 rfl rfl rfl ?_;refine vR Γ0 ft ?_;cases hF:jR s with
 | error e=>
  obtain⟨c,j⟩:=e;have hcd:decide (c=0)=false:=decide_eq_false (Q5 hF);have hE:bI s=.error (c,(j:Nat)):=by unfold bI;rw[hF]
  rw[hE,ko];refine wR (J2 (aG w S) s ([],.nil)) (aa ft hF) ?_ ?_
  ·exact⟨hs,s0⟩
  refine Wp.seq ?_;refine vR (J2 (aG w S) s ([],.nil)) (aa ft hcd) ?_;refine wC ft (λhc=>?_) (λhc=>?_)
  ·skip;refine zv Γ0 ft ?_;refine wZ ft ?_;exact λE=>rfl
  ·exact absurd hc sI
 | ok p=>
  have hE:bI s=v8 p:=by unfold bI;rw[hF]
  rw[hE];refine wR (J2 (aG w S) s p) (aa ft hF) ?_ ?_
  ·exact⟨⟨hs,s0⟩,u0⟩
  refine Wp.cO 24 (ev ft) (aX.refl _ _) λW1 bs1 cs hx1 hΦ1=>?_
  obtain⟨v,rfl,hv⟩:=hΦ1;have hvv:LE.hv v=v:=hv.hv;have u1:=u0.ext hx1;have e1:=e0.mono hx1.dY;refine Wp.seq ?_;refine vR (J2 (aG w S) s p) (aa ft hvv) ?_;refine wC ft (λhc=>?_) (λhc=>?_)
  ·exact absurd hc sI
  refine wK ?_;cases hF2:v8 p with
  |error e=>
   obtain⟨c,j⟩:=e;rw[ko];refine wR (J2 (aG w S) s p) (bp ft hF2 hvv) ?_ ?_
   ·exact⟨hv,⟨Q6 hF,Tp hF⟩,e1⟩
   refine wZ ft ?_;exact λE=>rfl
  |ok t=>
   rw[Ht];refine wR (J2 (aG w S) s p) (bp ft hF2 hvv) ?_ ?_
   ·exact⟨⟨hv,⟨Q6 hF,Tp hF⟩,e1⟩,u1⟩
   refine Wp.cO 112 (ev ft) (aX.refl _ _) λW2 bs2 cs hx2 hΦ2=>?_
   obtain⟨v2,rfl,hv2⟩:=hΦ2;have hvv2:LE.hv v2=v2:=hv2.hv;refine wZ (aa ft hvv2) ?_;exact⟨[v2,.int .i64 0,.int .i64 0,.string ⟨#[]⟩],λE=>(PV hvv2).symm,v2,rfl,hv2⟩
def zf(s:ByteArray):me Tryz.prog 22 where
 kinds:=[none]
 pre:=λas_ W S=>as_=[.val (.string s)]/\s.size<=9223372036854775807/\fC W S/\bj W S
 premono:=λas_ W S W' S' hs h=>⟨h.1,h.2.1,h.2.2.1.mono hs,h.2.2.2.mono hs⟩
 out:=λ_=>elO (bI s)
 enters:=Tryz.call22
 ok:=by
  intro w S us as_ hu hp;obtain⟨rfl,h1,h2,h3⟩:=hp
  match us,hu with
  |[u],hu=>
   obtain⟨rfl,_⟩:=hu;exact XP s w S h1 h2 h3
theorem XR(w:World):Calls Tryz.prog 59 #[.nilIface] w λe w' => e=.returned (.string ⟨#[]⟩)/\an w [] w' := by
 refine ak (nt:=260) [.tmp 2] Tryz.func59 rfl rfl rfl ?_;refine vR Γ0 ft ?_;refine vR Γ0 ft ?_;refine Wp.seq ?_;refine vR Γ0 ft ?_;refine Wp.block ?_;refine vR Γ0 ft ?_;refine wC ft (λhc=>?_) (λhc=>?_)
 ·cases hc
 refine vR Γ0 ft ?_;refine wC ft (λhc=>?_) (λhc=>?_)
 ·cases hc
 refine vR Γ0 ft ?_;refine wC ft (λhc=>?_) (λhc=>?_)
 ·cases hc
 refine vR Γ0 ft ?_;refine wC ft (λhc=>?_) (λhc=>?_)
 ·cases hc
 refine wK ?_;refine vR Γ0 ft ?_;refine wZ ft ?_;exact λE=>rfl
theorem ab6(w:World):Calls Tryz.prog 58 #[.nilIface] w λe w' => e=.returned (.int .i64 0)/\an w [] w' := by
 refine ak (nt:=105) [.tmp 2] Tryz.func58 rfl rfl rfl ?_;refine vR Γ0 ft ?_;refine Wp.seq ?_;refine vR Γ0 ft ?_;refine Wp.block ?_;refine vR Γ0 ft ?_;refine wC ft (λhc=>?_) (λhc=>?_)
 ·cases hc
 refine vR Γ0 ft ?_;refine wC ft (λhc=>?_) (λhc=>?_)
 ·cases hc
 refine vR Γ0 ft ?_;refine wC ft (λhc=>?_) (λhc=>?_)
 ·cases hc
 refine vR Γ0 ft ?_;refine wC ft (λhc=>?_) (λhc=>?_)
 ·cases hc
 refine wK ?_;refine vR Γ0 ft ?_;refine wZ ft ?_;exact λE=>rfl
def IM:a8 Tryz.prog 59 where
 pre:=λW bs as_=>as_=[.val .nilIface]
 res:=λ_ _=>.string ⟨#[]⟩
 enters:=Tryz.call59
 ok:=by
  intro W w bs us as_ hk hu hp;obtain rfl:=hp
  match us,hu with
  |[x],hu=>
   obtain⟨rfl,_⟩:=hu;exact XR w
def IQ:a8 Tryz.prog 58 where
 pre:=λW bs as_=>as_=[.val .nilIface]
 res:=λ_ _=>.int .i64 0
 enters:=Tryz.call58
 ok:=by
  intro W w bs us as_ hk hu hp;obtain rfl:=hp
  match us,hu with
  |[x],hu=>
   obtain⟨rfl,_⟩:=hu;exact ab6 w
noncomputable def ans:Env Tryz.prog:=⟨λ| 59=>some IM.spec|58=>some IQ.spec|_=>none,λ_=>none,λ_ _=>none⟩
theorem ah9:ans.sp 59=some IM.spec:=rfl
theorem ah8:ans.sp 58=some IQ.spec:=rfl
section
variable (t:Tm)
noncomputable def ant:Env Tryz.prog:=⟨λ| 59=>some (GH (dT t+1) (zg _)).spec|_=>none,λ_=>none,λ_ _=>none⟩
theorem aia:(ant t).sp 59=some (GH (dT t+1) (zg _)).spec:=rfl
end
def aeK:=(ae ft @ah9 @ah8 @aia @IM.eq_1 @IQ.eq_1 @GI @GJ)
theorem QS(t:Tm)(v:Value)(w:World)(hv:ek w (Out []) v t)(hs:tmB t)(hg:Bn w (Out [])):Calls Tryz.prog 25 #[v] w λe w' => e=.returned (.string (vI t))/\an w [] w' := by
 have hD:rE w v=t:=bW hv;refine ak (nt:=5) [.tmp 2] Tryz.func25 rfl rfl rfl ?_;refine vR Γ0 aeK ?_;refine wR (ant t) (aa aeK hD) ?_ ?_
 ·exact⟨t,hv,hs,Nat.lt_succ_self _,hg⟩
 refine wZ aeK ?_;exact λE=>rfl
noncomputable def Ba:a8 Tryz.prog 25 where
 pre:=λW bs as_=>∃ v t,as_=[.val v]/\ek W (Out bs) v t/\tmB t/\Bn W (Out bs)
 res:=λW as_=>match as_ with
  |[.val v]=>.string (vI (rE W v))
  |_=>undef
 enters:=Tryz.call25
 ok:=by
  intro W w bs us as_ hk hu hp;obtain⟨v,t,rfl,h1,h2,h3⟩:=hp
  match us,hu with
  |[x],hu=>
   obtain⟨rfl,_⟩:=hu;simp only[bW h1];exact QS t x w (h1.mono λb hb hn=>⟨hk.block b hb hn,by simp[Out]⟩) h2 ⟨h3.1.gh hk sI,h3.2.gh hk sI⟩
theorem MG(W:World)(bs:List Nat)(v:Value):Ba.pre W bs [.val v]=∃ t,ek W (Out bs) v t/\tmB t/\Bn W (Out bs):=by
 apply propext;constructor
 ·rintro⟨v',t,h1,h2⟩;cases h1;exact⟨t,h2⟩
 ·exact λ⟨t,h2⟩=>⟨v,t,rfl,h2⟩
theorem MH(W:World)(v:Value):Ba.res W [.val v]=.string (vI (rE W v)):=rfl
def MM:ByteArray:=⟨#[99,111,112,121,40,47,97,42,47,41,46,105,110,115,40,34,120,34,41]⟩
def alx:ByteArray:=⟨#[99,97,116,64,49,48,40,99,111,112,121,64,48,40,47,97,42,47,41,44,105,110,115,64,49,49,40,34,120,34,41,41]⟩
theorem spk:∃ t,bI MM=.ok t/\Pl t=4/\Yf t=10/\vI t=alx/\br t=6:=by
 have h:(match bI MM with
  |.ok t=>decide (Pl t=4/\Yf t=10/\vI t=alx/\br t=6)
  |.error _=>false)=true:=by decide +kernel
 cases hF:bI MM with
 |error e=>rw[hF]at h;cases h
 |ok t=>
  rw[hF]at h;exact⟨t,rfl,of_decide_eq_true h⟩
section
variable (G:Nat->Prop)(s:ByteArray)
noncomputable def NW:Env Tryz.prog:=⟨λ| 22=>some ((zf s).spec G)|25=>some Ba.spec|24=>some nU.spec|f=>spT f,λ| 39=>some uf|_=>none,V3⟩
theorem aib:(NW G s).sp 22=some ((zf s).spec G):=rfl
theorem aid:(NW G s).sp 25=some Ba.spec:=rfl
theorem aic:(NW G s).sp 24=some nU.spec:=rfl
theorem Ya:(NW G s).eqs 39=some uf:=rfl
theorem aie{W:World}{bs:List Nat}{κ:Nat}{hh:Hp}{v:Value}{t:Tm}(h:ek W (Out bs) v t)(ht:fM t):aI (NW G s) W bs κ hh "Kind" [.v v]=⟨True,.v (.int .i64 (Pl t:Nat)),[],none,[],[]⟩:=
 F5 rfl (λf s hf=>by
  unfold spT at hf
  split at hf<;>cases hf<;>rfl) h ht
theorem aif{W:World}{bs:List Nat}{κ:Nat}{hh:Hp}{v:Value}{t:Tm}(h:ek W (Out bs) v t)(ht:fM t):aI (NW G s) W bs κ hh "Place" [.v v]=⟨True,.v (.int .i64 (Yf t:Nat)),[],none,[],[]⟩:=
 uQ rfl (λf s hf=>by
  unfold spT at hf
  split at hf<;>cases hf<;>rfl) h ht
end
def rG(W:World)(S:Nat->Prop):Prop:=fC W S/\Bn W S
theorem rG.mono{W W' : World}{S S' : Nat->Prop}(h:rG W S)(hs:aX W S W' S'):rG W' S' := ⟨h.1.mono hs,h.2.1.mono hs,h.2.2.mono hs⟩
theorem ek.out{W:World}{G:Nat->Prop}{bs:List Nat}{v:Value}{t:Tm}(h:ek W (bJ G bs) v t):ek W (Out bs) v t:=h.mono λb _ hb=>⟨rfl,hb.2⟩
def YL:=(ae aeK @e8 @aib @aid @aic @Ya @zf.eq_1 (fg @MG @MH @nV @nW))
theorem MX(w:World)(hg:rG w (Out [])):Calls Tryz.prog 21 #[] w λe w' => e=.returned (.bool true)/\LE.an w [] w' := by
 have dY:aX w (Out []) w (bJ (λ_=>True) []):=λb _ h=>⟨rfl,trivial,h⟩
 have hr:=hg.mono dY;have u0:Up (λ_=>True) w []:=Up.true _ _;obtain⟨t,h1,h2,h3,h4,h5⟩:=spk;have hS:=tS h1;refine ak (nt:=34) [.tmp 0] Tryz.func21 rfl rfl rfl ?_;refine vR Γ0 YL ?_;have e1:(⟨#[99,111,112,121,40,47,97,42,47,41,46,105,110,115,40,34,120,34,41]⟩:ByteArray)=MM:=rfl
 have e2:(⟨#[99,97,116,64,49,48,40,99,111,112,121,64,48,40,47,97,42,47,41,44,105,110,115,64,49,49,40,34,120,34,41,41]⟩:ByteArray)=alx:=rfl;refine wR (NW (λ_=>True) MM) (bp YL h1 e1) ?_ ?_
 ·exact⟨⟨dE,hr.1,hr.2.1⟩,u0⟩
 refine Wp.cO 8 (ev YL) (aX.refl _ _) λW1 bs1 cs hx1 hΦ1=>?_
 obtain⟨v,rfl,hv⟩:=hΦ1;have hO:ek W1 (Out bs1) v t:=hv.out;have hD:rE W1 v=t:=bW hv;have hg1:rG W1 (Out bs1):=(hr.mono hx1.dY).mono λb _ hb=>⟨rfl,hb.2⟩
 have hvv:LE.hv v=v:=hv.hv;have kd:=λκ hh=>aie (λ_=>True) MM (κ:=κ) (hh:=hh) hO hS.1
 have pl:=λκ hh=>aif (λ_=>True) MM (κ:=κ) (hh:=hh) hO hS.1
 obtain⟨k,u,rfl⟩:=hv.iface;refine wR (NW (λ_=>True) MM) (ae YL kd pl hD hvv h2 h3 (bp h4 h5 e2)) ?_ ?_
 ·exact⟨λ_=>⟨t,hO,hS,hg1.2⟩,λ_=>⟨t,hO,by have:=hS.2;unfold eS;omega⟩⟩
 refine wZ YL ?_;exact λE=>rfl
def Dp:a8 Tryz.prog 21 where
 pre:=λW bs as_=>as_=[]/\rG W (Out bs)
 res:=λ_ _=>.bool true
 enters:=Tryz.call21
 ok:=by
  intro W w bs us as_ hk hu hp;obtain⟨rfl,h1⟩:=hp
  match us,hu with
  |[],_=>exact MX w (h1.mono λb hb hn=>⟨hk.block b hb hn,by simp[Out]⟩)
end
section
open Go Go.ChangeShapes Go.WideShapes Go.ChangeAt Go.RowKit Go.LE
set_option maxRecDepth 10000
theorem ajw:Tryz.prog.globalNamed "loupe/syntax.ranks"=some 2:=kR
theorem akJ:(Tryz.prog.globals[2]?).map (·.type)=some 288:=kR
theorem aoe:((begin Tryz.prog (λ_ _=>0) default).world.heap[1]?).bind Obj.row?=some (#[.int .i64 0],3):=kR
theorem WL{W:World}(h:Lib.VarReads Tryz.prog W "loupe/syntax.ranks" Rows.laid_loupe_syntax_ranks):J7 W (Out []):=by
 obtain⟨g,t,cs,fuel,p,h1,h2,h3,h4⟩:=h;obtain rfl:=Option.some.inj (ajw.symm.trans h1);obtain rfl:=Option.some.inj (akJ.symm.trans h2);have e:(Rows.laid_loupe_syntax_ranks:DataW Unit)=.agg ((List.range 5).map λi=>.lit (.string (yT i).data.toList)):=rfl;rw[e]at h4
 have key:∀ i,i<5->W.cell? ⟨2,i,none⟩=some (.string (yT i)):=λi hi=>by
  obtain⟨f',d,q,hd,ht⟩:=Lib.array_elem Tryz.underlying288 h4 i hi;rw[akr]at ht;rw[List.getElem?_map,List.getElem?_range hi,Option.map_some,Option.some.injEq]at hd;subst hd;obtain⟨z0,g0,f0,_⟩:=DataW.trod_string Tryz.underlying9 ht;simp only[Prod.mk.injEq,DataW.lit.injEq,Lit.string.injEq]at f0
  obtain⟨f0,_⟩:=f0;have d0:yT i=z0:=by
   generalize yT i=s at f0;rcases s with ⟨⟨l⟩⟩;rcases z0 with ⟨⟨l'⟩⟩;simp only at f0;rw[f0]
  rw[d0];have g1:=congrArg (·[0]?) g0;simp only[List.getElem?_take,List.getElem?_drop,List.getElem?_cons_zero]at g1;refine zw ajw h3 i _ ?_;simpa using g1
 exact⟨by simp[Out],key 0 oM,key 1 oM,key 2 oM,key 3 oM,key 4 oM⟩
theorem VS{W:World}(hS:W.ShapedOpen Tryz.prog):Bi W (Out []):=by
 have g6:=cell_of_shapedOpen_int (P:=Tryz.prog) (g:=1) (t:=3) (k:=.i64) hS (of_decide_eq_true (by kernel_rfl)) aoe (by kernel_rfl) (by kernel_rfl) (by kernel_rfl) Tryz.underlying3;exact⟨by simp[Out],g6⟩
end
section
open Go Go.RowKit Go.LE
theorem ncU(h:Nat->Option aZ):de h [.v (.pointer none)]=R.bad:=rfl
theorem faU(P:Program)(h:Nat->Option aZ)(S:TypeId)(f:Nat):ct P h S f [.v undef]=R.bad:=rfl
theorem ldU(P:Program)(W:World)(bs:List Nat)(h:Nat->Option aZ)(T:TypeId):dK P W bs h T [.v undef]=R.bad:=rfl
theorem lnU(P:Program)(h:Nat->Option aZ)(T:TypeId):jP P h T [.v undef]=R.bad:=rfl
theorem bnU(P:Program)(eqs:(T:TypeId)->Option (EqSpec P T))(h:Nat->Option aZ)(T:TypeId)(X Y:Operand)(k:IntKind)(a:Int):bR P eqs h .gtr T X Y [.v undef,.v (.int k a)]=R.bad:=by
 simp only[bR,a7]
 first|done|rfl
theorem pkU(b:Bool):w7 true (.v (.bool b)) (.v undef)=.v (.bool b):=rfl
end
section
open Go.RowKit Go.LE Go.Proofs.Tryz
set_option maxRecDepth 10000
structure T7 (d:Nat)(s s' : ByteArray):Prop where
 size:d+s.size<=s'.size
 byte:∀ k,k<s.size->bt s' ((d+k:Nat):Int)=bt s (k:Nat)
 fin:s'.size=d+s.size\/(d+s.size<s'.size/\(bt s' ((d+s.size:Nat):Int)=10\/(bt s' ((d+s.size:Nat):Int)=32/\∀ k,k<s.size->bt s (k:Nat)≠35)))
theorem T7.ext{d:Nat}{s s' : ByteArray}(h:T7 d s s'){i j:Nat}(hj:j<=s.size):s'.extract (d+i) (d+j)=s.extract i j:=by
 have h1:=h.size;have e1:(s'.extract (d+i) (d+j)).size=j-i:=by rw[sE _ _ _ oM];omega
 have e2:(s.extract i j).size=j-i:=sE _ _ _ hj;refine Of oM λk hk=>?_
 rw[rK _ _ _ _ oM oM,rK _ _ _ _ hj oM,show d+i+k=d+(i+k) by omega];exact h.byte _ oM
theorem abv{d:Nat}{s s' : ByteArray}(h:T7 d s s')(i i' : Nat):∀ n n' k k' o,k' = d+k->n<=n' -> (nB s i n k o).2.2.1=0->nB s' i' n' k' o=((nB s i n k o).1,d+(nB s i n k o).2.1,0,0)
 |0,n',k,k',o,hk,hn,he=>by first|(simp[nB]at he;done)|(simp[pJ]at he;done)
 |n+1,0,k,k',o,hk,hn,he=>by omega
 | n+1,n' + 1,k,k',o,hk,hn,he=>by
  subst hk;have ih:=λk' o=>abv h i i' n n' k' (d+k') o rfl oM
  have hz:=h.size;have hb:=h.byte;have e2:d+k+2=d+(k+2):=rfl;have e4:d+k+4=d+(k+4):=rfl;have e1:d+k+1=d+(k+1):=rfl;have e3:d+k+3=d+(k+3):=rfl;rw[nB]at he;rw[nB,nB,e1,e2,e3,e4];by_cases c0:k<s.size
  rotate_left
  ·rw[if_neg c0]at he
   first|(simp at he;done)|(simp[nB]at he;done)|(simp[pJ]at he;done)
  rw[if_pos c0]at he;rw[if_pos c0,if_pos (show d+k<s'.size by omega),hb k c0];by_cases c1:bt s (k:Nat)=34
  ·rw[if_pos c1,if_pos c1]
  rw[if_neg c1]at he;rw[if_neg c1,if_neg c1];by_cases c2:ry (bt s (k:Nat))=false
  ·rw[if_pos c2]at he
   first|(simp at he;done)|(simp[nB]at he;done)|(simp[pJ]at he;done)
  rw[if_neg c2]at he;rw[if_neg c2,if_neg c2];by_cases c3:¬ bt s (k:Nat)=92
  ·rw[if_pos c3]at he;rw[if_pos c3,if_pos c3];exact ih _ _ he
  rw[if_neg c3]at he;rw[if_neg c3,if_neg c3];by_cases c4:¬ k+1<s.size
  ·rw[if_pos c4]at he
   first|(simp at he;done)|(simp[nB]at he;done)|(simp[pJ]at he;done)
  have c4' : k+1<s.size:=oM;rw[if_neg c4]at he;rw[if_neg c4,if_neg (show ¬ ¬ d+(k+1)<s'.size by omega),hb _ c4'];by_cases c5:bt s ((k+1:Nat):Int)=110
  ·rw[if_pos c5]at he;rw[if_pos c5,if_pos c5];exact ih _ _ he
  rw[if_neg c5]at he;rw[if_neg c5,if_neg c5];by_cases c6:bt s ((k+1:Nat):Int)=114
  ·rw[if_pos c6]at he;rw[if_pos c6,if_pos c6];exact ih _ _ he
  rw[if_neg c6]at he;rw[if_neg c6,if_neg c6];by_cases c7:bt s ((k+1:Nat):Int)=116
  ·rw[if_pos c7]at he;rw[if_pos c7,if_pos c7];exact ih _ _ he
  rw[if_neg c7]at he;rw[if_neg c7,if_neg c7];by_cases c8:bt s ((k+1:Nat):Int)=34\/bt s ((k+1:Nat):Int)=92
  ·rw[if_pos c8]at he;rw[if_pos c8,if_pos c8];exact ih _ _ he
  rw[if_neg c8]at he;rw[if_neg c8,if_neg c8];by_cases c9:bt s ((k+1:Nat):Int)=120
  rotate_left
  ·rw[if_neg c9]at he
   first|(simp at he;done)|(simp[nB]at he;done)|(simp[pJ]at he;done)
  rw[if_pos c9]at he;rw[if_pos c9,if_pos c9];by_cases c10:¬ k+2<s.size
  ·rw[if_pos c10]at he
   first|(simp at he;done)|(simp[nB]at he;done)|(simp[pJ]at he;done)
  rw[if_neg c10]at he;rw[if_neg c10,if_neg (show ¬ ¬ d+(k+2)<s'.size by omega),hb (k+2) oM];by_cases c11:iw (bt s ((k+2:Nat):Int))<0
  ·rw[if_pos c11]at he
   first|(simp at he;done)|(simp[nB]at he;done)|(simp[pJ]at he;done)
  rw[if_neg c11]at he;rw[if_neg c11,if_neg c11];by_cases c12:¬ k+3<s.size
  ·rw[if_pos c12]at he
   first|(simp at he;done)|(simp[nB]at he;done)|(simp[pJ]at he;done)
  rw[if_neg c12]at he;rw[if_neg c12,if_neg (show ¬ ¬ d+(k+3)<s'.size by omega),hb (k+3) oM];by_cases c13:iw (bt s ((k+3:Nat):Int))<0
  ·rw[if_pos c13]at he
   first|(simp at he;done)|(simp[nB]at he;done)|(simp[pJ]at he;done)
  rw[if_neg c13]at he;rw[if_neg c13,if_neg c13];exact ih _ _ he
theorem abM{d:Nat}{s s' : ByteArray}(h:T7 d s s')(i i' : Nat)(hi:i' = d+i):∀ n n' k k',k' = d+k->n<=n' -> (pJ s i n k).2.2.1=0->pJ s' i' n' k' = ((pJ s i n k).1,d+(pJ s i n k).2.1,0,0)
 |0,n',k,k',hk,hn,he=>by first|(simp[nB]at he;done)|(simp[pJ]at he;done)
 |n+1,0,k,k',hk,hn,he=>by omega
 | n+1,n' + 1,k,k',hk,hn,he=>by
  subst hk;have ih:=λk' => abM h i i' hi n n' k' (d+k') rfl oM
  have hz:=h.size;have hb:=h.byte;have e2:d+k+2=d+(k+2):=rfl;have e1:d+k+1=d+(k+1):=rfl;rw[pJ]at he;rw[pJ,pJ,e1,e2];by_cases c0:k<s.size
  rotate_left
  ·rw[if_neg c0]at he
   first|(simp at he;done)|(simp[nB]at he;done)|(simp[pJ]at he;done)
  rw[if_pos c0]at he;rw[if_pos c0,if_pos (show d+k<s'.size by omega),hb k c0];by_cases c1:ry (bt s (k:Nat))=false
  ·rw[if_pos c1]at he
   first|(simp at he;done)|(simp[nB]at he;done)|(simp[pJ]at he;done)
  rw[if_neg c1]at he;rw[if_neg c1,if_neg c1];by_cases c2:bt s (k:Nat)=47
  ·rw[if_pos c2,if_pos c2];have:=h.ext (i:=i+1) (j:=k) oM;subst hi;rw[show d+i+1=d+(i+1) from rfl,this]
  rw[if_neg c2]at he;rw[if_neg c2,if_neg c2];by_cases c3:bt s (k:Nat)=92
  rotate_left
  ·rw[if_neg c3]at he;rw[if_neg c3,if_neg c3];exact ih _ he
  rw[if_pos c3]at he;rw[if_pos c3,if_pos c3];by_cases c4:k+1<s.size
  ·have e:=hb _ c4;by_cases c5:ry (bt s ((k+1:Nat):Int))=false
   ·rw[if_pos ⟨c4,c5⟩]at he
    first|(simp at he;done)|(simp[nB]at he;done)|(simp[pJ]at he;done)
   rw[if_neg (λx=>c5 x.2)]at he;rw[if_neg (λx=>c5 (by rw[<- e];exact x.2)),if_neg (λx=>c5 x.2)];exact ih _ he
  ·rw[if_neg (λx=>c4 x.1)]at he;exfalso;cases n with
   |zero=>first|(simp at he;done)|(simp[nB]at he;done)|(simp[pJ]at he;done)
   |succ n=>
    rw[pJ,if_neg oM]at he
    first|(simp at he;done)|(simp[nB]at he;done)|(simp[pJ]at he;done)
theorem ald{d:Nat}{s s' : ByteArray}(h:T7 d s s'):∀ n n' k,k<=s.size->s.size-k<=n->s'.size-(d+k)<=n' -> Lz s' n' (d+k)=d+Lz s n k:=by
 have hz:=h.size;have hend:∀ n',Lz s' n' (d+s.size)=d+s.size:=λn' => by
  cases n' with
  |zero=>rfl
  | succ n' =>
   rw[Lz];split
   ·rename_i hlt;have hc:nmB (bt s' ((d+s.size:Nat):Int))=false:=by
     rcases h.fin with h1|⟨_,h1|⟨h1,_⟩⟩
     ·omega
     ·rw[h1];decide
     ·rw[h1];decide
    rw[if_neg (by rw[hc];decide)]
   ·rfl
 intro n
 induction n with
 |zero=>
  intro n' k hk hn hn';have:k=s.size:=oM;subst this;exact hend n'
 | succ n ih=>
  intro n' k hk hn hn';by_cases c:k<s.size
  ·cases n' with
   |zero=>omega
   |succ n' =>
    rw[Lz,Lz,if_pos c,if_pos (show d+k<s'.size by omega),h.byte k c];split
    ·exact ih n' (k+1) oM oM oM
    ·rfl
  ·have:k=s.size:=oM;subst this;rw[hend,Lz,if_neg c]
def y7(d:Nat)(t:Tk):Tk:=(t.1,d+t.2.1,t.2.2)
theorem ag2{d:Nat}{s s' : ByteArray}(h:T7 d s s'){i:Nat}(hi:i<s.size)(he:(bS s i).2.2.1=0):bS s' (d+i)=(y7 d (bS s i).1,d+(bS s i).2.1,0,0):=by
 have hz:=h.size;have hn:uU s' (d+i)=d+uU s i:=ald h _ _ (i+1) oM oM oM;have hq:=abv h i (d+i) (s.size-(i+1)) (s'.size-(d+i+1)) (i+1) (d+i+1) ju rfl oM;have hr:=abM h i (d+i) rfl (s.size-(i+1)) (s'.size-(d+i+1)) (i+1) (d+i+1) rfl oM;have hl:uU s i<=s.size:=(Pz hi).2;unfold bS at he ⊢
 rw[hn,h.byte i hi];by_cases c1:uS (bt s (i:Nat))=true
 ·rw[if_pos c1]at he;rw[if_pos c1,if_pos c1];by_cases c2:32<uU s i-i
  ·rw[if_pos c2]at he
   first|(simp at he;done)|(simp[nB]at he;done)|(simp[pJ]at he;done)
  ·rw[if_neg c2,if_neg oM,h.ext hl];rfl
 rw[if_neg c1]at he;rw[if_neg c1,if_neg c1];by_cases c2:bt s (i:Nat)=34
 ·rw[if_pos c2]at he;rw[if_pos c2,if_pos c2];have:=hq he;unfold Ai;rw[this];rfl
 rw[if_neg c2]at he;rw[if_neg c2,if_neg c2];by_cases c3:bt s (i:Nat)=47
 ·rw[if_pos c3]at he;rw[if_pos c3,if_pos c3];have:=hr he;unfold AH;rw[this];rfl
 rw[if_neg c3]at he;rw[if_neg c3,if_neg c3];by_cases c4:Cr (bt s (i:Nat))=true
 ·rw[if_pos c4,if_pos c4];have:=h.ext (i:=i) (j:=i+1) oM;rw[show d+i+1=d+(i+1) from rfl,this];rfl
 rw[if_neg c4]at he;rw[if_neg c4,if_neg c4];by_cases c5:bt s (i:Nat)=62/\i+1<s.size/\bt s ((i+1:Nat):Int)=62
 ·rw[if_pos c5,if_pos ⟨c5.1,oM,by rw[show d+i+1=d+(i+1) from rfl,h.byte _ c5.2.1];exact c5.2.2⟩];rfl
 ·rw[if_neg c5]at he
  first|(simp at he;done)|(simp[nB]at he;done)|(simp[pJ]at he;done)
def OS(s' : ByteArray)(x:Nat):Nat:=if s'.size=x then x else js s' (x+1)
theorem afl{d:Nat}{s s' : ByteArray}(h:T7 d s s'):∀ n b i,n=s.size-i->i<=s.size->(b=false\/s'.size=d+s.size\/bt s' ((d+s.size:Nat):Int)=10)->lh s' (s'.size-(d+i)) b (d+i)=if lh s n b i<s.size then d+lh s n b i else OS s' (d+s.size):=by
 have hz:=h.size;intro n
 induction n with
 | zero=>
  intro b i hn hi hb;have:i=s.size:=oM;subst this;rw[lh,if_neg (Nat.lt_irrefl _)];unfold OS;by_cases c:s'.size=d+s.size
  ·rw[if_pos c,c,Nat.sub_self];rfl
  ·rw[if_neg c];obtain⟨m,hm⟩:∃ m,s'.size-(d+s.size)=m+1:=⟨s'.size-(d+s.size)-1,oM⟩;rw[hm,lh];have hc:o8 (bt s' ((d+s.size:Nat):Int)) b=false/\Fs (bt s' ((d+s.size:Nat):Int)) false=false:=by
    rcases h.fin with h1|⟨_,h1|⟨h1,_⟩⟩
    ·exact absurd h1 c
    ·rw[h1];exact⟨by cases b<;>decide,dE⟩
    ·rw[h1];rcases hb with hb|hb|hb
     ·rw[hb];exact⟨dE,dE⟩
     ·exact absurd hb c
     ·rw[h1]at hb;exact absurd hb dE
   rw[hc.1,hc.2,if_neg dE];unfold js;rw[show s'.size-(d+s.size+1)=m by omega]
 | succ n ih=>
  intro b i hn hi hb;have c:i<s.size:=oM;obtain⟨m,hm⟩:∃ m,s'.size-(d+i)=m+1:=⟨s'.size-(d+i)-1,oM⟩;rw[hm,lh,lh,h.byte i c];by_cases c1:Fs (bt s (i:Nat)) (o8 (bt s (i:Nat)) b)=true
  ·rw[if_pos c1,if_pos c1,if_pos c]
  ·rw[if_neg c1,if_neg c1];have:=ih (o8 (bt s (i:Nat)) b) (i+1) oM oM (by
    rcases h.fin with h1|⟨_,h1|⟨h1,h2⟩⟩
    ·exact .inr (.inl h1)
    ·exact .inr (.inr h1)
    ·rcases hb with hb|hb|hb
     ·left
      rw[hb]
      unfold o8
      rw[if_neg (h2 i c)]
      split<;>rfl
     ·exact .inr (.inl hb)
     ·exact .inr (.inr hb))
   rw[show s'.size-(d+(i+1))=m by omega]at this;exact this
theorem KZ{d:Nat}{s s' : ByteArray}(h:T7 d s s'){i:Nat}(hi:i<=s.size):js s' (d+i)=if js s i<s.size then d+js s i else OS s' (d+s.size):=afl h _ false i rfl hi (.inl rfl)
theorem agE{d:Nat}{s s' : ByteArray}(h:T7 d s s'):∀ n i l,s.size-i<=n->i<=s.size->(uE s n i l).2.1=0->∃ ts,(uE s n i l).1=l++ts++[(0,s.size,ju)]/\(∀ t∈ts,t.1≠0)/\∀ n' l',n<=n' -> ∃ m,n' - n<=m/\uE s' n' (if i<s.size then d+i else OS s' (d+s.size)) l' = uE s' m (OS s' (d+s.size)) (l' ++ ts.map (y7 d)):=by
 have hz:=h.size;intro n
 induction n with
 |zero=>
  intro i l hn hi he;refine⟨[],by rw[List.append_nil];rfl,(λt ht=>by cases ht),λn' l' hn' => ⟨n',oM,?_⟩⟩;rw[if_neg oM,List.map_nil,List.append_nil]
 | succ n ih=>
  intro i l hn hi he;by_cases c:i<s.size
  rotate_left
  ·refine⟨[],?_,(λt ht=>by cases ht),λn' l' hn' => ⟨n',oM,?_⟩⟩
   ·rw[uE,if_neg c,List.append_nil]
   ·rw[if_neg c,List.map_nil,List.append_nil]
  rw[uE,if_pos c]at he ⊢;by_cases c1:(bS s i).2.2.1=0
  rotate_left
  ·rw[if_neg c1]at he;exact absurd he c1
  rw[if_pos c1]at he ⊢;have h1:=tZ c c1;have h2:=nM h1.2;obtain⟨ts,g1,g2,g3⟩:=ih _ _ oM h2.2 he;have hk:(bS s i).1.1≠0:=by
   clear g3 g2 g1 he ih hn;have h0:=c1;clear c1 h1 h2;unfold bS at h0 ⊢
   repeat' (split at h0<;>rename_i hh<;>(first|rw[if_pos hh]|rw[if_neg hh]))
   all_goals first|(intro hc;cases hc;done)|(exfalso;simp at h0;done)|(dsimp only;omega)
  refine⟨(bS s i).1::ts,?_,λt ht=>?_,λn' l' hn' => ?_⟩
  ·rw[g1];simp
  ·rcases List.mem_cons.1 ht with rfl|ht
   ·exact hk
   ·exact g2 t ht
  ·obtain⟨n'',rfl⟩:∃ n'',n' = n'' + 1:=⟨n' - 1,oM⟩;obtain⟨m,m1,m2⟩:=g3 n'' (l' ++ [y7 d (bS s i).1]) oM;refine⟨m,oM,?_⟩;rw[if_pos c,uE,if_pos oM,ag2 h c c1];simp only[if_true];rw[KZ h h1.2,m2,List.map_cons,List.append_assoc,List.singleton_append]
theorem C0{d:Nat}{s s' : ByteArray}(h:T7 d s s')(he:(bz s).2.1=0):∃ ts,(bz s).1=ts++[(0,s.size,ju)]/\(∀ t∈ts,t.1≠0)/\∀ n' l',s.size<=n' -> ∃ m,n' - s.size<=m/\uE s' n' (js s' d) l' = uE s' m (OS s' (d+s.size)) (l' ++ ts.map (y7 d)):=by
 unfold bz at he ⊢;split at he
 ·first|(simp at he;done)|(simp[nB]at he;done)|(simp[pJ]at he;done)
 rename_i hs;rw[if_neg hs];obtain⟨ts,g1,g2,g3⟩:=agE h s.size (js s 0) [] oM (nM (Nat.zero_le _)).2 he;refine⟨ts,by rw[g1,List.nil_append],g2,λn' l' hn' => ?_⟩;obtain⟨m,m1,m2⟩:=g3 n' l' hn';refine⟨m,m1,?_⟩;rw[<- m2];have:=KZ h (i:=0) (Nat.zero_le _);rw[Nat.add_zero]at this;rw[this]
theorem abV(s' : ByteArray)(m:Nat)(l:List Tk):uE s' m s'.size l=(l++[(0,s'.size,ju)],0,0):=by
 cases m with
 |zero=>rfl
 |succ m=>rw[uE,if_neg (Nat.lt_irrefl _)]
def kE(d:Nat):Ex->Ex
 |.name a s=>.name (d+a) s
 |.text a s=>.text (d+a) s
 |.rx a s=>.rx (d+a) s
 |.call a w l=>.call (d+a) w (kE d l)
 |.keyed a x=>.keyed (d+a) (kE d x)
 |.unary a op x=>.unary (d+a) op (kE d x)
 |.binary a op x y=>.binary (d+a) op (kE d x) (kE d y)
 |.nil=>.nil
 |.cons x l=>.cons (kE d x) (kE d l)
structure Stop (z:List Tk):Prop where
 ne:z≠[]
 lev:∀ lev:Int,0<=lev->¬ ((pk z).1=4/\EO (pk z).2.2=lev)
 star:dU z kf=false
 pls:dU z uX=false
 ask:dU z Ki=false
def AQ(d:Nat)(z r r' : List Tk):Prop:=∃ l e,r=l++[e]/\e.1=0/\(∀ t∈l,t.1≠0)/\r' = l.map (y7 d)++z
theorem AQ.next{d:Nat}{z r r' : List Tk}(h:AQ d z r r')(hk:(pk r).1≠0):AQ d z r.tail r'.tail/\pk r' = y7 d (pk r)/\r'.length=r'.tail.length+1/\r=pk r::r.tail:=by
 obtain⟨l,e,rfl,h0,hl,rfl⟩:=h;cases l with
 |nil=>exact absurd h0 hk
 |cons t l=>exact⟨⟨l,e,rfl,h0,λt ht=>hl t (List.mem_cons_of_mem _ ht),rfl⟩,rfl,sI,rfl⟩
theorem AQ.fin{d:Nat}{z r r' : List Tk}(h:AQ d z r r')(hk:(pk r).1=0):r' = z/\r=[pk r]:=by
 obtain⟨l,e,rfl,h0,hl,rfl⟩:=h;cases l with
 |nil=>exact⟨rfl,rfl⟩
 |cons t l=>exact absurd hk (hl t sI)
theorem AQ.pos{d:Nat}{z r r' : List Tk}(h:AQ d z r r')(hz:Stop z):1<=r.length/\1<=r'.length:=by
 obtain⟨l,e,rfl,h0,hl,rfl⟩:=h;have:=List.length_pos_iff.2 hz.ne;simp;omega
theorem rU{r r' : List Tk}{d:Nat}(h:pk r' = y7 d (pk r))(m:ByteArray):dU r' m=dU r m:=by
 unfold dU;rw[h];rfl
theorem rV{r:List Tk}(h:(pk r).1=0)(m:ByteArray):dU r m=false:=by
 unfold dU;rw[h];rfl
def x9(d:Nat)(z:List Tk)(B:List Tk->Prop)(sub sub' : List Tk->PR):Prop:=∀ r r',AQ d z r r' -> B r->∀ a r2,sub r=.ok (a,r2)->∃ r2',sub' r' = .ok (kE d a,r2')/\AQ d z r2 r2' /\ r2 <:+ r/\r2'.length<=r'.length
def T8(B:List Tk->Prop):Prop:=∀ r r2,r2 <:+ r->B r->B r2
section
variable {d:Nat}{z:List Tk}(hz:Stop z){B:List Tk->Prop}(hB:T8 B)
include hz hB
theorem aan{sub sub' : List Tk->PR}(h:x9 d z B sub sub'){lev:Int}(hl:0<=lev):∀ n n' a r r',r.length<=n->r'.length<=n' -> AQ d z r r' -> B r->∀ b r2,iz sub lev n a r=.ok (b,r2)->∃ r2',iz sub' lev n' (kE d a) r' = .ok (kE d b,r2')/\AQ d z r2 r2' /\ r2 <:+ r/\r2'.length<=r'.length:=by
 intro n
 induction n with
 |zero=>
  intro n' a r r' hn hn' hS hb b r2 he;have:=(hS.pos hz).1;omega
 | succ n ih=>
  intro n' a r r' hn hn' hS hb b r2 he;have hp:=(hS.pos hz).2;obtain⟨n',rfl⟩:∃ m,n' = m+1:=⟨n' - 1,oM⟩;rw[iz]at he;rw[iz];by_cases c:(pk r).1=4/\EO (pk r).2.2=lev
  ·obtain⟨s1,s2,s3,s4⟩:=hS.next oM
   rw[if_pos c]at he;rw[s2,if_pos (show (y7 d (pk r)).1=4/\EO (y7 d (pk r)).2.2=lev from c)];cases hs:sub r.tail with
   |error e=>
    rw[hs]at he;cases he
   |ok q=>
    obtain⟨x,r3⟩:=q;rw[hs]at he;obtain⟨r3',g1,g2,g3,g4⟩:=h _ _ s1 (hB _ _ (List.tail_suffix r) hb) x r3 hs;rw[g1];have hlt:=g3.length_le;rw[List.length_tail]at hlt;obtain⟨r2',k1,k2,k3,k4⟩:=ih n' _ r3 r3' oM oM g2 (hB _ _ (g3.trans (List.tail_suffix r)) hb) b r2 he
    exact⟨r2',k1,k2,k3.trans (g3.trans (List.tail_suffix r)),oM⟩
  ·rw[if_neg c]at he;cases he;refine⟨r',?_,hS,List.suffix_refl _,Nat.le_refl _⟩;by_cases c0:(pk r).1=0
   ·obtain⟨s1,s2⟩:=hS.fin c0;rw[s1,if_neg (hz.lev lev hl)]
   ·obtain⟨s1,s2,s3,s4⟩:=hS.next c0
    rw[s2,if_neg (show ¬ ((y7 d (pk r)).1=4/\EO (y7 d (pk r)).2.2=lev) from c)]
theorem afK{sub sub' : List Tk->PR}(h:x9 d z B sub sub'){lev:Int}(hl:0<=lev):x9 d z B (ob sub lev) (ob sub' lev):=by
 intro r r' hS hb a r2 he;unfold ob at he ⊢;cases hs:sub r with
 |error e=>
  rw[hs]at he;cases he
 |ok q=>
  obtain⟨x,r3⟩:=q;rw[hs]at he;obtain⟨r3',g1,g2,g3,g4⟩:=h _ _ hS hb x r3 hs;rw[g1];obtain⟨r2',k1,k2,k3,k4⟩:=aan hz hB h hl r3.length r3'.length x r3 r3' (Nat.le_refl _) (Nat.le_refl _) g2 (hB _ _ g3 hb) a r2 he;exact⟨r2',k1,k2,k3.trans g3,oM⟩
theorem abm:∀ n n' a r r',r.length<=n->r'.length<=n' -> AQ d z r r' -> B r->∃ r2',oe n' (kE d a) r' = (kE d (oe n a r).1,r2')/\AQ d z (oe n a r).2 r2' /\ (oe n a r).2 <:+ r/\r2'.length<=r'.length:=by
 intro n
 induction n with
 |zero=>
  intro n' a r r' hn hn' hS hb;have:=(hS.pos hz).1;omega
 | succ n ih=>
  intro n' a r r' hn hn' hS hb;have hp:=(hS.pos hz).2;obtain⟨n',rfl⟩:∃ m,n' = m+1:=⟨n' - 1,oM⟩;rw[oe,oe];by_cases c0:(pk r).1=0
  ·obtain⟨s1,s2⟩:=hS.fin c0;rw[if_neg (by rw[s1,hz.star,hz.pls,hz.ask];decide),if_neg (by rw[rV c0,rV c0,rV c0];decide)];exact⟨r',rfl,hS,List.suffix_refl _,Nat.le_refl _⟩
  ·obtain⟨s1,s2,s3,s4⟩:=hS.next c0
   rw[rU s2,rU s2,rU s2];by_cases c:((dU r kf||dU r uX)||dU r Ki)=true
   ·rw[if_pos c,if_pos c,s2];have hlt:=List.length_tail (l:=r);obtain⟨r2',k1,k2,k3,k4⟩:=ih n' (.unary (pk r).2.1 (pk r).2.2 a) r.tail r'.tail oM oM s1 (hB _ _ (List.tail_suffix r) hb);exact⟨r2',k1,k2,k3.trans (List.tail_suffix r),oM⟩
   ·rw[if_neg c,if_neg c];exact⟨r',rfl,hS,List.suffix_refl _,Nat.le_refl _⟩
theorem aga{sub sub' : List Tk->PR}(h:x9 d z B sub sub'):x9 d z B (nA sub) (nA sub'):=by
 intro r r' hS hb a r2 he;unfold nA at he ⊢;cases hs:sub r with
 |error e=>
  rw[hs]at he;cases he
 |ok q=>
  obtain⟨x,r3⟩:=q;rw[hs]at he;obtain⟨r3',g1,g2,g3,g4⟩:=h _ _ hS hb x r3 hs;rw[g1];obtain⟨r2',k1,k2,k3,k4⟩:=abm hz hB r3.length r3'.length x r3 r3' (Nat.le_refl _) (Nat.le_refl _) g2 (hB _ _ g3 hb);simp only[Except.ok.injEq]at he;rw[he]at k1 k2 k3;exact⟨r2',congrArg Except.ok k1,k2,k3.trans g3,oM⟩
theorem HQ{sub sub' : List Tk->PR}(h:x9 d z B sub sub'):∀ k,k<=5->x9 d z B (mu sub k) (mu sub' k)
 |0,_=>aga hz hB h
 |k+1,hk=>afK hz hB (HQ h k oM) oM
end
theorem YI{d:Nat}{z:List Tk}{B:List Tk->Prop}(hB:T8 B){ex ex' : List Tk->PR}(h:x9 d z B ex ex'):∀ n k l r r',AQ d z r r' -> B r->∀ a r2,kX ex n k l r=.ok (a,r2)->∃ r2',kX ex' n k (kE d l) r' = .ok (kE d a,r2')/\AQ d z r2 r2' /\ r2 <:+ r/\r2'.length<=r'.length:=by
 have snc:∀ l y:Ex,kE d (zb l y)=zb (kE d l) (kE d y):=by
  intro l y
  induction l with
  |cons x l _ ih=>simp only[zb,kE,ih]
  |_=>simp only[zb,kE]
 intro n
 induction n with
 |zero=>
  intro k l r r' hS hb a r2 he;cases he;exact⟨r',rfl,hS,List.suffix_refl _,Nat.le_refl _⟩
 | succ n ih=>
  intro k l r r' hS hb a r2 he;rw[kX]at he;rw[kX];by_cases c:0<k/\dU r Yg=false
  ·rw[if_pos c]at he;cases he
  rw[if_neg c]at he;have key:∃ q q',(if 0<k then r.tail else r)=q/\(if 0<k then r'.tail else r')=q' /\ AQ d z q q' /\ q <:+ r/\q'.length<=r'.length/\¬ (0<k/\dU r' Yg=false):=by
   by_cases ck:0<k
   ·have hm:dU r Yg=true:=by
     cases hm:dU r Yg with
     |true=>rfl
     |false=>exact absurd ⟨ck,hm⟩ c
    obtain⟨s1,s2,s3,s4⟩:=hS.next (ic hm)
    rw[if_pos ck,if_pos ck];exact⟨_,_,rfl,rfl,s1,List.tail_suffix r,oM,by rw[rU s2,hm];rintro⟨_,h⟩;cases h⟩
   ·rw[if_neg ck,if_neg ck];exact⟨_,_,rfl,rfl,hS,List.suffix_refl _,Nat.le_refl _,λh=>ck h.1⟩
  obtain⟨q,q',e1,e2,s1,s2,s3,s4⟩:=key;rw[e1]at he;rw[if_neg s4,e2];cases hs:ex q with
  |error e=>
   rw[hs]at he;cases he
  |ok p=>
   obtain⟨x,r3⟩:=p;rw[hs]at he;obtain⟨r3',g1,g2,g3,g4⟩:=h _ _ s1 (hB _ _ s2 hb) x r3 hs;rw[g1];obtain⟨r2',k1,k2,k3,k4⟩:=ih (k+1) (zb l x) r3 r3' g2 (hB _ _ (g3.trans s2) hb) a r2 he;rw[snc]at k1;exact⟨r2',k1,k2,k3.trans (g3.trans s2),oM⟩
theorem C8{d:Nat}{z:List Tk}{m:ByteArray}{f f' : Ex->Ex}(hf:∀ a,f' (kE d a)=kE d (f a)){q q' : PR}{r0 r0' : List Tk}(h:∀ a r2,q=.ok (a,r2)->∃ r2',q' = .ok (kE d a,r2')/\AQ d z r2 r2' /\ r2 <:+ r0/\r2'.length<=r0'.length){a:Ex}{r2:List Tk}(he:df m f q=.ok (a,r2)):∃ r2',df m f' q' = .ok (kE d a,r2')/\AQ d z r2 r2' /\ r2 <:+ r0/\r2'.length<=r0'.length:=by
 cases q with
 |error e=>cases he
 | ok p=>
  obtain⟨x,r3⟩:=p;obtain⟨r3',g1,g2,g3,g4⟩:=h x r3 rfl;have he' : (if dU r3 m=true then (.ok (f x,r3.tail):PR) else .error (60,(pk r3).2.1))=.ok (a,r2):=he;by_cases hm:dU r3 m=true
  ·rw[if_pos hm]at he';cases he';obtain⟨s1,s2,s3,s4⟩:=g2.next (ic hm)
   refine⟨r3'.tail,?_,s1,(List.tail_suffix r3).trans g3,oM⟩;rw[g1];show (if dU r3' m=true then (.ok (f' (kE d x),r3'.tail):PR) else .error (60,(pk r3').2.1))=_;rw[rU s2,if_pos hm,hf]
  ·rw[if_neg hm]at he';cases he'
def EZ(t:Tk):Bool:=decide (t.1=4)&&(decide (t.2.2=dP)||decide (t.2.2=LG))
def Gc:List Tk->Nat
 |[]=>0
 |t::r=>Gc r+if EZ t=true then 1 else 0
theorem Px{r r2:List Tk}(h:r2 <:+ r):Gc r2<=Gc r:=by
 obtain⟨t,rfl⟩:=h
 induction t with
 |nil=>exact Nat.le_refl _
 |cons x t ih=>
  rw[List.cons_append,Gc];omega
theorem aeR{r:List Tk}{b:ByteArray}(hb:b=dP\/b=LG)(h:dU r b=true):EZ (pk r)=true:=by
 unfold dU at h;unfold EZ;simp only[Bool.and_eq_true,decide_eq_true_eq,Bool.or_eq_true]at h ⊢;refine⟨h.1,?_⟩;rw[h.2];exact hb
theorem tj{d:Nat}{z:List Tk}(hz:Stop z){B:List Tk->Prop}(hB:T8 B){M M' : Option (List Tk->PR)}
  (hO:∀ ex r,M=some ex->B r->(pk r).1≠0->EZ (pk r)=true->r=pk r::r.tail->∃ ex' B',M' = some ex' /\ x9 d z B' ex ex' /\ T8 B' /\ B' r.tail):x9 d z B (eF M) (eF M'):=by
 intro r r' hS hb a r2 he;by_cases c0:(pk r).1=0
 ·exfalso;unfold eF at he;rw[rV c0,rV c0,c0,if_neg dE,if_neg dE,if_neg (by rintro⟨h,_⟩;exact absurd h dE),if_neg (by rintro⟨h,_⟩;exact absurd h dE),if_neg dE,if_neg dE]at he;cases he
 obtain⟨s1,s2,s3,s4⟩:=hS.next c0
 have open_sim:∀ {q q' : List Tk} {b:ByteArray} {go go' : (List Tk->PR)->List Tk->PR},(b=dP\/b=LG)->AQ d z q q' -> q <:+ r->q'.length<=r'.length ->
   (∀ ex ex' B',x9 d z B' ex ex' -> T8 B' -> ∀ t t',AQ d z t t' -> B' t->go ex t=.ok (a,r2)->∃ r2',go' ex' t' = .ok (kE d a,r2')/\AQ d z r2 r2' /\ r2 <:+ t/\r2'.length<=t'.length) ->
   fc M q b go=.ok (a,r2)->∃ r2',fc M' q' b go' = .ok (kE d a,r2')/\AQ d z r2 r2' /\ r2 <:+ r/\r2'.length<=r'.length:=by
  intro q q' b go go' hbb hSq hq hlq hgo h;unfold fc at h;by_cases hm:dU q b=true
  ·rw[if_pos hm]at h;obtain⟨t1,t2,t3,t4⟩:=hSq.next (ic hm)
   cases hM:M with
   |none=>
    rw[hM]at h;cases h
   |some ex=>
    rw[hM]at h;obtain⟨ex',B',e1,e2,e3,e4⟩:=hO ex q hM (hB _ _ hq hb) (ic hm) (aeR hbb hm) t4;obtain⟨r2',g1,g2,g3,g4⟩:=hgo ex ex' B' e2 e3 _ _ t1 e4 h;refine⟨r2',?_,g2,g3.trans ((List.tail_suffix q).trans hq),oM⟩;unfold fc;rw[rU t2,if_pos hm,e1];exact g1
  ·rw[if_neg hm]at h;cases h
 unfold eF at he ⊢;rw[rU s2,rU s2,s2];have k1:(y7 d (pk r)).1=(pk r).1:=rfl;have k2:(y7 d (pk r)).2.2=(pk r).2.2:=rfl;have k3:(y7 d (pk r)).2.1=d+(pk r).2.1:=rfl;rw[k1,k2,k3]
 have here:∀ {x:Ex},(.ok (x,r.tail):PR)=.ok (a,r2)->∃ r2',(.ok (kE d x,r'.tail):PR)=.ok (kE d a,r2')/\AQ d z r2 r2' /\ r2 <:+ r/\r2'.length<=r'.length:=by
  intro x h;cases h;exact⟨_,rfl,s1,List.tail_suffix r,oM⟩
 by_cases c1:(pk r).1=2
 ·rw[if_pos c1]at he;rw[if_pos c1];exact here he
 rw[if_neg c1]at he;rw[if_neg c1];by_cases c2:(pk r).1=3
 ·rw[if_pos c2]at he;rw[if_pos c2];exact here he
 rw[if_neg c2]at he;rw[if_neg c2];by_cases c3:(pk r).1=1/\0<ri (pk r).2.2
 ·rw[if_pos c3]at he;rw[if_pos c3];refine open_sim (.inl rfl) s1 (List.tail_suffix r) oM (λex ex' B' h1 h2 t t' hT hbt h=>?_) he;refine C8 (f' := .call (d+(pk r).2.1) (pk r).2.2) (λa=>rfl) (λa r2 hq=>?_) h;exact YI h2 h1 _ _ .nil _ _ hT hbt a r2 hq
 rw[if_neg c3]at he;rw[if_neg c3];by_cases c4:(pk r).1=1/\ri (pk r).2.2=0
 ·rw[if_pos c4]at he;rw[if_pos c4];exact here he
 rw[if_neg c4]at he;rw[if_neg c4];by_cases c5:dU r LG=true
 ·rw[if_pos c5]at he;rw[if_pos c5];refine open_sim (.inr rfl) hS (List.suffix_refl _) (Nat.le_refl _) (λex ex' B' h1 h2 t t' hT hbt h=>?_) he;exact C8 (f' := .keyed (d+(pk r).2.1)) (λa=>rfl) (λa r2 hq=>h1 _ _ hT hbt a r2 hq) h
 rw[if_neg c5]at he;rw[if_neg c5];by_cases c6:dU r dP=true
 ·rw[if_pos c6]at he;rw[if_pos c6];refine open_sim (.inl rfl) hS (List.suffix_refl _) (Nat.le_refl _) (λex ex' B' h1 h2 t t' hT hbt h=>?_) he;exact C8 (f' := id) (λa=>rfl) (λa r2 hq=>h1 _ _ hT hbt a r2 hq) h
 rw[if_neg c6]at he;cases he
def Few(m m' : Nat)(r:List Tk):Prop:=m<=m' \/ Gc r<=m'
theorem mi(m m' : Nat):T8 (Few m m'):=λr r2 hs h=>by
 rcases h with h|h
 ·exact .inl h
 ·exact .inr (Nat.le_trans (Px hs) h)
theorem FD{d:Nat}{z:List Tk}(hz:Stop z):∀ m m',x9 d z (Few m m') (fh m) (fh m')
 |0,0=>tj hz (mi _ _) λex r h=>by cases h
 |0,m' + 1=>tj hz (mi _ _) λex r h=>by cases h
 | m+1,0=>tj hz (mi _ _) λex r h hb hk hbr hr=>by
  exfalso;rcases hb with hb|hb
  ·omega
  ·rw[hr,Gc,if_pos hbr]at hb;omega
 | m+1,m' + 1=>tj hz (mi _ _) λex r h hb hk hbr hr=>by
  cases h;refine⟨lg (fh m'),Few m m',rfl,HQ hz (mi _ _) (FD hz m m') 5 (Nat.le_refl _),mi _ _,?_⟩;rcases hb with hb|hb
  ·exact .inl oM
  ·rw[hr,Gc,if_pos hbr]at hb;exact .inr oM
theorem Zt{d:Nat}{z:List Tk}(hz:Stop z)(m m' : Nat):x9 d z (Few m m') (lg (fh m)) (lg (fh m')):=HQ hz (mi _ _) (FD hz m m') 5 (Nat.le_refl _)
theorem Gm(ex:List Tk->PR):∀ n ds r p r',iA ex n ds r=.ok (p,r')->ds.length<=p.1.length
 |0,ds,r,p,r',he=>by cases he
 | n+1,ds,r,p,r',he=>by
  rw[iA]at he
  repeat' split at he
  all_goals first
   |(cases he;done)
   | (have:=Gm ex n _ _ _ _ he
      rw[List.length_append]at this
      omega)
   | (cases he
      exact Nat.le_refl _)
theorem P2{ex:List Tk->PR}{n:Nat}{r r' : List Tk}{x:Ex}(he:iA ex n [] r=.ok (([],x),r')):¬ ((pk r).1=1/\(pk r).2.2=F8)/\ex r=.ok (x,r')/\(pk r').1=0:=by
 cases n with
 |zero=>cases he
 | succ n=>
  rw[iA]at he;split at he
  ·exfalso
   repeat' split at he
   all_goals first
    |(cases he;done)
    | (have:=Gm ex n _ _ _ _ he
       rw[List.length_append]at this
       simp at this)
  ·rename_i hc;refine⟨hc,?_⟩;split at he
   ·cases he
   ·rename_i x2 r2 hx;split at he
    ·rename_i h0;cases he;exact⟨hx,h0⟩
    ·cases he
theorem GC{s:ByteArray}{x:Ex}(h:jR s=.ok ([],x)):(bz s).2.1=0/\¬ ((pk (bz s).1).1=1/\(pk (bz s).1).2.2=F8)/\∃ r,lg (fh 64) (bz s).1=.ok (x,r)/\(pk r).1=0:=by
 unfold jR at h;split at h
 ·rename_i h0;refine⟨h0,?_⟩;split at h
  ·cases h
  ·rename_i p r' hp;cases h;obtain⟨h1,h2,h3⟩:=P2 hp;exact⟨h1,r',h2,h3⟩
 ·cases h
structure Like (t u:Tm):Prop where
 size:br u=br t
 kind:Pl u=Pl t
 node:ud u=ud t
mutual
def lkC:Cn->Cn->Prop
 |.nil,.nil=>True
 |.mk _ o n x y p q,.mk _ o' n' x' y' p' q' => (o=o' /\ n=n' /\ x=x' /\ y=y')/\lkC p p' /\ lkC q q'
 |_,_=>False
end
def lkL:Ln->Ln->Prop
 |.nil,.nil=>True
 |.mk _ o n x c p q,.mk _ o' n' x' c' p' q' => (o=o' /\ n=n' /\ x=x')/\lkC c c' /\ lkL p p' /\ lkL q q'
 |_,_=>False
def HM:Tm->Tm->Prop
 |.text _ s,.text _ s' => s=s'
 |.rx _ r,.rx _ r' => r=r'
 |.canon c,.canon c' => lkC c c'
 |.lens l,.lens l' => lkL l l'
 |_,_=>False
theorem wQ:∀ c c' : Cn,lkC c c' -> dM c' = dM c
 |.nil,.nil,_=>rfl
 |.nil,.mk ..,h=>by simp only[lkC]at h
 |.mk ..,.nil,h=>by simp only[lkC]at h
 |.mk _ o n x y p q,.mk _ o' n' x' y' p' q',h=>by
  simp only[lkC]at h;obtain⟨⟨rfl,rfl,rfl,rfl⟩,h1,h2⟩:=h;simp only[dM];rw[wQ p p' h1,wQ q q' h2]
theorem Cd:∀ c c' : Ln,lkL c c' -> gn c' = gn c
 |.nil,.nil,_=>rfl
 |.nil,.mk ..,h=>by simp only[lkL]at h
 |.mk ..,.nil,h=>by simp only[lkL]at h
 |.mk _ o n x c p q,.mk _ o' n' x' c' p' q',h=>by
  simp only[lkL]at h;obtain⟨⟨rfl,rfl,rfl⟩,h0,h1,h2⟩:=h;simp only[gn];rw[Cd p p' h1,Cd q q' h2,wQ c c' h0]
theorem mr:∀ {t u:Tm},HM t u->Like t u
 |.text _ s,.text _ s',h=>by
  cases h;exact⟨rfl,rfl,rfl⟩
 |.rx _ s,.rx _ s',h=>by
  cases h;exact⟨rfl,rfl,rfl⟩
 |.canon c,.canon c',h=>⟨wQ c c' h,rfl,rfl⟩
 |.lens c,.lens c',h=>⟨Cd c c' h,rfl,rfl⟩
 |.text ..,.rx ..,h=>h.elim
 |.text ..,.canon ..,h=>h.elim
 |.text ..,.lens ..,h=>h.elim
 |.rx ..,.text ..,h=>h.elim
 |.rx ..,.canon ..,h=>h.elim
 |.rx ..,.lens ..,h=>h.elim
 |.canon ..,.text ..,h=>h.elim
 |.canon ..,.rx ..,h=>h.elim
 |.canon ..,.lens ..,h=>h.elim
 |.lens ..,.text ..,h=>h.elim
 |.lens ..,.rx ..,h=>h.elim
 |.lens ..,.canon ..,h=>h.elim
def N3:TE->TE->Prop
 |.ok t,.ok u=>HM t u
 |.error (c,_),.error (c',_)=>c=c'
 |_,_=>False
def LkE{α:Type}:Except (Int×Int) α->Except (Int×Int) α->Prop
 |.ok t,.ok u=>t=u
 |.error (c,_),.error (c',_)=>c=c'
 |_,_=>False
theorem He(a a' : Nat)(t u:Tm)(h:HM t u):N3 (gT a t) (gT a' u):=by
 unfold gT;rw[(mr h).size];split
 ·rfl
 ·exact h
theorem tH(a a' : Nat):N3 (fE a) (fE a'):=rfl
theorem eH:lkC .nil .nil:=by simp only[lkC]
theorem ff:lkL .nil .nil:=by simp only[lkL]
theorem akV(a a' : Nat):∀ t u:Tm,HM t u->N3 (yw a t) (yw a' u):=by
 intro t u h;cases t<;>cases u<;>first|exact h.elim|exact tH _ _|skip
 exact⟨⟨rfl,rfl,rfl⟩,eH,h,ff⟩
theorem anj(a a' : Nat)(op:ByteArray):∀ t u:Tm,HM t u->N3 (AM a op t) (AM a' op u):=by
 intro t u h;unfold AM;rw[(mr h).node];cases ud t with
 |some n=>exact rfl
 | none=>
  cases t<;>cases u<;>first|exact h.elim|exact tH _ _|skip
  ·simp only;split
   ·exact⟨⟨rfl,rfl,rfl,rfl⟩,h,eH⟩
   ·exact tH _ _
  ·simp only;split
   ·exact⟨⟨rfl,rfl,rfl⟩,eH,h,ff⟩
   split
   ·exact⟨⟨rfl,rfl,rfl⟩,eH,h,⟨rfl,rfl,rfl⟩,eH,h,ff⟩
   ·exact⟨⟨rfl,rfl,rfl⟩,eH,h,⟨rfl,rfl,rfl⟩,eH,ff,ff⟩
theorem Oh(a a' : Nat)(op:ByteArray)(t u t' u' : Tm)(h:HM t u)(h' : HM t' u'):N3 (oW a op t t') (oW a' op u u'):=by
 cases t<;>cases u<;>first|exact h.elim|skip
 all_goals cases t' <;> cases u' <;> first|exact h'.elim|exact tH _ _|skip
 ·simp only[oW];split
  ·exact⟨⟨rfl,rfl,rfl,rfl⟩,h,h'⟩
  ·exact tH _ _
 ·simp only[oW];split
  ·exact⟨⟨rfl,rfl,rfl⟩,eH,h,h'⟩
  ·exact tH _ _
theorem amt(a a' : Nat)(op:ByteArray)(t u t' u' : Tm)(h:HM t u)(h' : HM t' u'):N3 (EV a op t t') (EV a' op u u'):=by
 unfold EV;rw[(mr h).node,(mr h').node];cases ud t with
 |none=>exact Oh _ _ _ _ _ _ _ h h'
 | some x=>
  cases ud t' with
  |none=>exact Oh _ _ _ _ _ _ _ h h'
  |some y=>
   simp only;cases Tf op x y with
   |none=>exact Oh _ _ _ _ _ _ _ h h'
   |some r=>exact rfl
def Ll:List Tm->List Tm->Prop
 |[],[]=>True
 |t::ts,u::us=>HM t u/\Ll ts us
 |_,_=>False
theorem sa:∀ {ts us:List Tm} (i:Nat),Ll ts us->match ts[i]?,us[i]? with|some t,some u=>HM t u|none,none=>True|_,_=>False
 |[],[],i,h=>trivial
 |t::ts,u::us,0,h=>h.1
 |t::ts,u::us,i+1,h=>sa (ts:=ts) i h.2
 |[],u::us,i,h=>h.elim
 |t::ts,[],i,h=>h.elim
theorem SP{ts us:List Tm}(ps ps' : List Nat)(i:Nat)(h:Ll ts us):LkE (EN ts ps i) (EN us ps' i):=by
 have:=sa i h;unfold EN;cases ht:ts[i]? with
 |none=>
  cases hu:us[i]? with
  |none=>exact rfl
  |some u=>rw[ht,hu]at this;exact this.elim
 | some t=>
  cases hu:us[i]? with
  |none=>rw[ht,hu]at this;exact this.elim
  |some u=>
   rw[ht,hu]at this;simp only[Option.bind_some];rw[(mr this).node];cases ud t<;>exact rfl
theorem M3{ts us:List Tm}(ps ps' : List Nat)(i:Nat)(h:Ll ts us):LkE (As ts ps i) (As us ps' i):=by
 have:=sa i h;unfold As;cases ht:ts[i]? with
 |none=>
  cases hu:us[i]? with
  |none=>exact rfl
  |some u=>rw[ht,hu]at this;exact this.elim
 | some t=>
  cases hu:us[i]? with
  |none=>rw[ht,hu]at this;exact this.elim
  |some u=>
   rw[ht,hu]at this;cases t<;>cases u<;>first|exact this.elim|exact rfl|exact this
def LkG{α:Type}(R:α->α->Prop):Except (Int×Int) α->Except (Int×Int) α->Prop
 |.ok t,.ok u=>R t u
 |.error (c,_),.error (c',_)=>c=c'
 |_,_=>False
theorem Yz{α:Type}{R:α->α->Prop}{x y:Except (Int×Int) α}{f g:α->TE}(h:LkG R x y)(hf:∀ t u,R t u->N3 (f t) (g u)):N3 (bM x f) (bM y g):=by
 cases x with
 |ok t=>
  cases y with
  |ok u=>exact hf t u h
  |error e=>exact h.elim
 |error e=>
  cases y with
  |ok u=>exact h.elim
  |error e' => exact h
theorem Hc{α:Type}{x y:Except (Int×Int) α}{f g:α->TE}(h:LkE x y)(hf:∀ t,N3 (f t) (g t)):N3 (bM x f) (bM y g):=by
 cases x with
 | ok t=>
  cases y with
  |ok u=>
   cases (show t=u from h);exact hf t
  |error e=>exact h.elim
 |error e=>
  cases y with
  |ok u=>exact h.elim
  |error e' => exact h
theorem andM{x y:TE}{f g:Tm->TE}(h:N3 x y)(hf:∀ t u,HM t u->N3 (f t) (g u)):N3 (bM x f) (bM y g):=by
 cases x with
 |ok t=>
  cases y with
  |ok u=>exact hf t u h
  |error e=>exact h.elim
 |error e=>
  cases y with
  |ok u=>exact h.elim
  |error e' => exact h
theorem aju{ts us:List Tm}(ps ps' : List Nat)(i:Nat)(h:Ll ts us):LkG lkC (E4 ts ps i) (E4 us ps' i):=by
 have:=sa i h;unfold E4;cases ht:ts[i]? with
 |none=>
  cases hu:us[i]? with
  |none=>exact rfl
  |some u=>rw[ht,hu]at this;exact this.elim
 | some t=>
  cases hu:us[i]? with
  |none=>rw[ht,hu]at this;exact this.elim
  |some u=>
   rw[ht,hu]at this;cases t<;>cases u<;>first|exact this.elim|exact rfl|exact this
theorem aak{ts us:List Tm}(ps ps' : List Nat)(i:Nat)(h:Ll ts us):LkG lkL (Ce ts ps i) (Ce us ps' i):=by
 have:=sa i h;unfold Ce;cases ht:ts[i]? with
 |none=>
  cases hu:us[i]? with
  |none=>exact rfl
  |some u=>rw[ht,hu]at this;exact this.elim
 | some t=>
  cases hu:us[i]? with
  |none=>rw[ht,hu]at this;exact this.elim
  |some u=>
   rw[ht,hu]at this;cases t<;>cases u<;>first|exact this.elim|exact rfl|exact this
theorem aeS(a a' : Nat)(w:ByteArray)(ts us:List Tm)(ps ps' : List Nat)(h:Ll ts us):N3 (bc a w ts ps) (bc a' w us ps'):=by
 unfold bc;split
 ·exact Hc (SP _ _ _ h) λn=>⟨⟨rfl,rfl,rfl,rfl⟩,eH,eH⟩
 split
 ·exact Hc (SP _ _ _ h) λn=>Hc (M3 _ _ _ h) λs=>Hc (M3 _ _ _ h) λt=>⟨⟨rfl,rfl,rfl,rfl⟩,eH,eH⟩
 split
 ·exact Hc (SP _ _ _ h) λn=>Hc (M3 _ _ _ h) λs=>⟨⟨rfl,rfl,rfl⟩,eH,ff,ff⟩
 split
 ·exact Hc (M3 _ _ _ h) λs=>⟨⟨rfl,rfl,rfl⟩,eH,ff,ff⟩
 split
 ·exact Hc (SP _ _ _ h) λs=>⟨⟨rfl,rfl,rfl⟩,eH,ff,ff⟩
 split
 ·exact Yz (aju _ _ _ h) λc c' hc=>Yz (aak _ _ _ h) λl l' hl=>⟨⟨rfl,rfl,rfl⟩,hc,hl,ff⟩
 split
 ·exact Yz (aak _ _ _ h) λl l' hl=>Yz (aju _ _ _ h) λc c' hc=>⟨⟨rfl,rfl,rfl⟩,hc,hl,ff⟩
 split
 ·exact Yz (aak _ _ _ h) λl l' hl=>Hc (M3 _ _ _ h) λs=>⟨⟨rfl,rfl,rfl⟩,eH,hl,ff⟩
 ·exact⟨⟨rfl,rfl,rfl⟩,eH,ff,ff⟩
theorem SK(d:Nat):∀ x:Ex,N3 (aE [] x) (aE [] (kE d x))/\LkG Ll (cx [] x) (cx [] (kE d x)):=by
 intro x
 induction x with
 |name a s=>
  simp only[aE,cx,kE,Lm];exact⟨rfl,trivial⟩
 |text a s=>
  simp only[aE,cx,kE];exact⟨rfl,trivial⟩
 |rx a s=>
  simp only[aE,cx,kE];refine⟨?_,trivial⟩;cases pA s with
  |error e=>exact rfl
  |ok r=>exact rfl
 | call a w l ih=>
  simp only[aE,kE];refine⟨?_,by simp only[cx];trivial⟩;have h:=ih.2;cases hl:cx [] l with
  |error e=>
   rw[hl]at h;cases hl' : cx [] (kE d l) with
   |error e' => rw[hl']at h;exact h
   |ok ts=>rw[hl']at h;exact h.elim
  | ok ts=>
   rw[hl]at h;cases hl' : cx [] (kE d l) with
   |error e' => rw[hl']at h;exact h.elim
   |ok us=>
    rw[hl']at h;exact andM (aeS _ _ _ _ _ _ _ h) (He _ _)
 |keyed a x ih=>
  simp only[aE,kE];exact⟨andM ih.1 λt u h=>andM (akV _ _ t u h) (He _ _),by simp only[cx];trivial⟩
 |unary a op x ih=>
  simp only[aE,kE];exact⟨andM ih.1 λt u h=>andM (anj _ _ _ t u h) (He _ _),by simp only[cx];trivial⟩
 |binary a op x y ih ih2=>
  simp only[aE,kE];exact⟨andM ih.1 λt u h=>andM ih2.1 λt' u' h' => andM (amt _ _ _ t u t' u' h h') (He _ _),by simp only[cx];trivial⟩
 |nil=>
  simp only[aE,cx,kE];exact⟨rfl,trivial⟩
 | cons x l ih ih2=>
  simp only[aE,kE];refine⟨rfl,?_⟩;simp only[cx];have h1:=ih.1;have h2:=ih2.2;cases hx:aE [] x with
  |error e=>
   rw[hx]at h1;cases hx' : aE [] (kE d x) with
   |error e' => rw[hx']at h1;exact h1
   |ok t=>rw[hx']at h1;exact h1.elim
  | ok t=>
   rw[hx]at h1;cases hx' : aE [] (kE d x) with
   |error e' => rw[hx']at h1;exact h1.elim
   | ok u=>
    rw[hx']at h1;cases hl:cx [] l with
    |error e=>
     rw[hl]at h2;cases hl' : cx [] (kE d l) with
     |error e' => rw[hl']at h2;exact h2
     |ok ts=>rw[hl']at h2;exact h2.elim
    | ok ts=>
     rw[hl]at h2;cases hl' : cx [] (kE d l) with
     |error e' => rw[hl']at h2;exact h2.elim
     |ok us=>
      rw[hl']at h2;exact⟨h1,h2⟩
end
section
open Go.RowKit Go.LE Go.Proofs.Tryz
set_option maxRecDepth 10000
def Bj(s' : ByteArray)(a b:Nat)(ts:List Tk):Prop:=∀ n l,b-a<=n->∃ m,n-(b-a)<=m/\uE s' n (js s' a) l=uE s' m (js s' b) (l++ts)
theorem Bj.trans{s' : ByteArray}{a b c:Nat}{ts ts' : List Tk}(h:Bj s' a b ts)(h' : Bj s' b c ts')(hab:a<=b)(hbc:b<=c):Bj s' a c (ts++ts'):=by
 intro n l hn;obtain⟨m,m1,m2⟩:=h n l oM;obtain⟨k,k1,k2⟩:=h' m (l++ts) oM;refine⟨k,oM,?_⟩;rw[m2,k2,List.append_assoc]
theorem K0(s' : ByteArray):js s' s'.size=s'.size:=by
 unfold js;rw[Nat.sub_self];rfl
theorem Bj.scan{s' : ByteArray}{ts:List Tk}(h:Bj s' 0 s'.size ts)(hs:s'.size<=4096):bz s' = (ts++[(0,s'.size,ju)],0,0):=by
 unfold bz;rw[if_neg oM];obtain⟨m,m1,m2⟩:=h s'.size [] oM;rw[m2,K0,abV,List.nil_append]
theorem Bj.eq{s' : ByteArray}{a b b' : Nat}{ts:List Tk}(h:Bj s' a b ts)(hb:b=b'):Bj s' a b' ts:=hb ▸ h
theorem ae4{d:Nat}{s s' : ByteArray}(h:T7 d s s'){ts:List Tk}(h0:(bz s).2.1=0)(ht:(bz s).1=ts++[(0,s.size,ju)]):Bj s' d (if s'.size=d+s.size then d+s.size else d+s.size+1) (ts.map (y7 d)):=by
 intro n l hn;obtain⟨ts',g1,g2,g3⟩:=C0 h h0;rw[ht]at g1;have e:=List.append_cancel_right g1;subst e;have hle:s.size<=n:=by
  split at hn<;>omega
 obtain⟨m,m1,m2⟩:=g3 n l hle;refine⟨m,?_,?_⟩
 ·split<;>omega
 ·rw[m2];unfold OS;by_cases c:s'.size=d+s.size
  ·rw[if_pos c,if_pos c,<- c,K0]
  ·rw[if_neg c,if_neg c]
theorem Sl{d:Nat}{s s' : ByteArray}(h:T7 d s s'){ts:List Tk}(h0:(bz s).2.1=0)(ht:(bz s).1=ts++[(0,s.size,ju)])(he:d+s.size<s'.size):Bj s' d (d+s.size+1) (ts.map (y7 d)):=by
 have:=ae4 h h0 ht;rw[if_neg oM]at this;exact this
theorem Zh(p s q:ByteArray)(hq:q.size=0\/(0<q.size/\(bt q ((0:Nat):Int)=10\/(bt q ((0:Nat):Int)=32/\∀ k,k<s.size->bt s (k:Nat)≠35)))):T7 p.size s (p++(s++q)):=by
 have hz:(p++(s++q)).size=p.size+s.size+q.size:=by rw[ByteArray.size_append,ByteArray.size_append];omega
 have hx:∀ k,bt (p++(s++q)) ((p.size+k:Nat):Int)=if k<s.size then bt s (k:Nat) else bt q ((k-s.size:Nat):Int):=λk=>by
  rw[jc,if_neg oM,show p.size+k-p.size=k by omega,jc]
 refine⟨oM,λk hk=>by rw[hx,if_pos hk],?_⟩;rcases hq with hq|⟨h0,hq⟩
 ·left;omega
 ·right;refine⟨oM,?_⟩;rw[hx,if_neg (Nat.lt_irrefl _),Nat.sub_self];exact hq
theorem Wv{n:Nat}{ds:List (Nat×ByteArray×Ex)}{r r' : List Tk}{x:Ex}(hl:¬ ((pk r).1=1/\(pk r).2.2=F8))(he:lg (fh 64) r=.ok (x,r'))(h0:(pk r').1=0):iA (lg (fh 64)) (n+1) ds r=.ok ((ds,x),r'):=by
 rw[iA,if_neg hl,he];simp only;rw[if_pos h0]
section
variable {s:ByteArray}{x:Ex}(h:jR s=.ok ([],x))(hs:s.size<=4000)
include h hs
end
theorem ZG{s:ByteArray}{i:Nat}(h:Fs (bt s (i:Nat)) (o8 (bt s (i:Nat)) false)=true)(hi:i<s.size):js s i=i:=by
 unfold js;obtain⟨m,hm⟩:∃ m,s.size-i=m+1:=⟨s.size-i-1,oM⟩;rw[hm,lh,if_pos h]
theorem Td{s' : ByteArray}{i j:Nat}{t:Tk}(hi:i<s'.size)(hs:Fs (bt s' (i:Nat)) (o8 (bt s' (i:Nat)) false)=true)(ht:bS s' i=(t,j,0,0))(hj:i<j):Bj s' i j [t]:=by
 intro n l hn;obtain⟨n,rfl⟩:∃ m,n=m+1:=⟨n-1,oM⟩;refine⟨n,oM,?_⟩;rw[ZG hs hi,uE,if_pos hi,ht];simp only[if_true]
theorem afc(p q r:ByteArray):(p++(q++r)).extract p.size (p.size+q.size)=q:=by
 have hz:(p++(q++r)).size=p.size+q.size+r.size:=by rw[ByteArray.size_append,ByteArray.size_append];omega
 have he:((p++(q++r)).extract p.size (p.size+q.size)).size=q.size:=by rw[sE _ _ _ oM];omega
 refine Of he λk hk=>?_
 have hk' : k<q.size:=oM;rw[rK _ _ _ _ oM oM,jc,if_neg oM,jc,show p.size+k-p.size=k by omega,if_pos hk']
theorem YW(p q r:ByteArray)(k:Nat)(hk:k<q.size):bt (p++(q++r)) ((p.size+k:Nat):Int)=bt q (k:Nat):=by
 rw[jc,if_neg oM,jc,show p.size+k-p.size=k by omega,if_pos hk]
def Yu(q:ByteArray):Prop:=(q.size=1/\(Cr (bt q ((0:Nat):Int))=true/\uS (bt q ((0:Nat):Int))=false/\bt q ((0:Nat):Int)≠34/\bt q ((0:Nat):Int)≠47)/\Fs (bt q ((0:Nat):Int)) (o8 (bt q ((0:Nat):Int)) false)=true)\/q=E3
theorem sv(p q r:ByteArray)(hq:Yu q):Bj (p++(q++r)) p.size (p.size+q.size) [(4,p.size,q)]:=by
 have hz:(p++(q++r)).size=p.size+q.size+r.size:=by rw[ByteArray.size_append,ByteArray.size_append];omega
 have hm:=afc p q r;have b0:=YW p q r 0;have b1:=YW p q r 1;rw[Nat.add_zero]at b0;rcases hq with ⟨h1,⟨h2,h3,h4,h5⟩,h6⟩|rfl
 ·have b0:=b0 oM;rw[h1]at hm ⊢;refine Td oM (by rw[b0];exact h6) ?_ oM;unfold bS;rw[b0,h3,if_neg dE,if_neg h4,if_neg h5,if_pos h2,hm]
 ·have e:E3.size=2:=rfl;have b0:=b0 oM;have b1:=b1 oM;have c0:bt E3 ((0:Nat):Int)=62:=by decide
  have c1:bt E3 ((1:Nat):Int)=62:=by decide
  rw[c0]at b0;rw[c1]at b1;refine Td oM (by rw[b0];decide) ?_ oM;unfold bS;rw[b0,if_neg dE,if_neg dE,if_neg dE,if_neg dE,if_pos ⟨rfl,oM,b1⟩];rfl
def ui:ByteArray:=⟨#[10,41]⟩
def Ad:ByteArray:=⟨#[10]⟩
theorem alb:ui=Ad++gO:=by decide
def gC(s m t:ByteArray):ByteArray:=dP++s++ui++m++dP++t++ui
theorem Z1(s m t:ByteArray):gC s m t=dP++(s++(Ad++(gO++(m++(dP++(t++(Ad++gO))))))):=by
 unfold gC;rw[alb];simp only[ByteArray.append_assoc]
theorem Pk(s m t:ByteArray):(gC s m t).size=s.size+m.size+t.size+6:=by
 have e1:dP.size=1:=rfl;have e2:ui.size=2:=rfl;unfold gC;simp only[ByteArray.size_append];omega
theorem ajP:Yu dP:=.inl ⟨rfl,⟨by decide +kernel,dE,dE,dE⟩,dE⟩
theorem ajO:Yu gO:=.inl ⟨rfl,⟨by decide +kernel,dE,dE,dE⟩,dE⟩
theorem Bj.cast{s' s2:ByteArray}{a a' b b' : Nat}{ts ts' : List Tk}(h:Bj s' a b ts)(hs:s' = s2)(ha:a=a')(hb:b=b')(ht:ts=ts'):Bj s2 a' b' ts' := by
 subst hs ha hb ht;exact h
theorem Vy{s m t:ByteArray}{ts us:List Tk}(hm:Yu m)(hz:s.size+t.size<=4000)(hz2:m.size<=2)(h0:(bz s).2.1=0)(ht:(bz s).1=ts++[(0,s.size,ju)])(k0:(bz t).2.1=0)(kt:(bz t).1=us++[(0,t.size,ju)]) :
  bz (gC s m t)=(((4,0,dP)::(ts.map (y7 1)++((4,s.size+2,gO)::(4,s.size+3,m)::(4,s.size+3+m.size,dP)::(us.map (y7 (s.size+4+m.size))++((4,s.size+m.size+t.size+5,gO)::[(0,(gC s m t).size,ju)]))))),0,0):=by
 have e1:dP.size=1:=rfl;have e2:gO.size=1:=rfl;have e3:Ad.size=1:=rfl;have hJ:=Pk s m t;have hE:=Z1 s m t;have r1:Bj (gC s m t) 0 1 [(4,0,dP)]:=by
  refine (sv ⟨#[]⟩ dP (s++(Ad++(gO++(m++(dP++(t++(Ad++gO))))))) ajP).cast ?_ rfl rfl rfl;rw[hE,show (⟨#[]⟩:ByteArray)=ByteArray.empty from rfl,ByteArray.empty_append]
 have r2:Bj (gC s m t) 1 (s.size+2) (ts.map (y7 1)):=by
  have he:=Zh dP s (Ad++(gO++(m++(dP++(t++(Ad++gO)))))) (.inr ⟨by simp only[ByteArray.size_append];omega,.inl (by rw[jc,if_pos oM];decide)⟩);rw[<- hE]at he;exact (Sl he h0 ht oM).eq oM
 have r3:Bj (gC s m t) (s.size+2) (s.size+3) [(4,s.size+2,gO)]:=by
  have hp:(dP++(s++Ad)).size=s.size+2:=by simp only[ByteArray.size_append];omega
  refine (sv (dP++(s++Ad)) gO (m++(dP++(t++(Ad++gO)))) ajO).cast ?_ hp oM (by rw[hp]);rw[hE];simp only[ByteArray.append_assoc]
 have r4:Bj (gC s m t) (s.size+3) (s.size+3+m.size) [(4,s.size+3,m)]:=by
  have hp:(dP++(s++(Ad++gO))).size=s.size+3:=by simp only[ByteArray.size_append];omega
  refine (sv (dP++(s++(Ad++gO))) m (dP++(t++(Ad++gO))) hm).cast ?_ hp oM (by rw[hp]);rw[hE];simp only[ByteArray.append_assoc]
 have r5:Bj (gC s m t) (s.size+3+m.size) (s.size+4+m.size) [(4,s.size+3+m.size,dP)]:=by
  have hp:(dP++(s++(Ad++(gO++m)))).size=s.size+3+m.size:=by simp only[ByteArray.size_append];omega
  refine (sv (dP++(s++(Ad++(gO++m)))) dP (t++(Ad++gO)) ajP).cast ?_ hp oM (by rw[hp]);rw[hE];simp only[ByteArray.append_assoc]
 have r6:Bj (gC s m t) (s.size+4+m.size) (s.size+m.size+t.size+5) (us.map (y7 (s.size+4+m.size))):=by
  have hp:(dP++(s++(Ad++(gO++(m++dP))))).size=s.size+4+m.size:=by simp only[ByteArray.size_append];omega
  have he:=Zh (dP++(s++(Ad++(gO++(m++dP))))) t (Ad++gO) (.inr ⟨by simp only[ByteArray.size_append];omega,.inl (by rw[jc,if_pos oM];decide)⟩);have hq:(dP++(s++(Ad++(gO++(m++dP)))))++(t++(Ad++gO))=gC s m t:=by
   rw[hE];simp only[ByteArray.append_assoc]
  rw[hq,hp]at he;exact (Sl he k0 kt oM).eq oM
 have r7:Bj (gC s m t) (s.size+m.size+t.size+5) (gC s m t).size [(4,s.size+m.size+t.size+5,gO)]:=by
  have hp:(dP++(s++(Ad++(gO++(m++(dP++(t++Ad))))))).size=s.size+m.size+t.size+5:=by simp only[ByteArray.size_append];omega
  refine (sv (dP++(s++(Ad++(gO++(m++(dP++(t++Ad))))))) gO ⟨#[]⟩ ajO).cast ?_ hp oM (by rw[hp]);rw[hE,show (⟨#[]⟩:ByteArray)=ByteArray.empty from rfl,ByteArray.append_empty];simp only[ByteArray.append_assoc]
 have hR:=((((((r1.trans r2 oM oM).trans r3 oM oM).trans r4 oM oM).trans r5 oM oM).trans r6 oM oM).trans r7 oM oM).scan oM;rw[hR];simp only[List.append_assoc,List.singleton_append,List.cons_append,List.nil_append]
theorem am6:EO gO=-1:=by decide +kernel
theorem agV(k:Nat)(r:List Tk):Stop ((4,k,gO)::r):=by
 refine⟨sI,λlev hl h=>?_,?_,?_,?_⟩
 ·have:EO gO=lev:=h.2;rw[am6]at this;omega
 all_goals
  unfold dU;show (decide ((4:Int)=4)&&decide (gO=_))=false;decide
theorem Kn{d a b:Nat}{x:Ex}{ts r z:List Tk}{e:Tk}(h:lg (fh 64) (ts++[e])=.ok (x,r))(he:e.1=0)(h0:(pk r).1=0)(ht:∀ t∈ts,t.1≠0)(hb:Gc (ts++[e])<=63) :
  fh 64 ((4,a,dP)::(ts.map (y7 d)++((4,b,gO)::z)))=.ok (kE d x,z):=by
 have hS:AQ d ((4,b,gO)::z) (ts++[e]) (ts.map (y7 d)++((4,b,gO)::z)):=⟨ts,e,rfl,he,ht,rfl⟩;obtain⟨r',g1,g2,_⟩:=Zt (agV b z) 64 63 _ _ hS (.inr hb) _ _ h;have g3:=(g2.fin h0).1;subst g3;generalize hQ:ts.map (y7 d)++((4,b,gO)::z)=Q at g1;show eF (some (lg (fh 63))) ((4,a,dP)::Q)=_
 have m1:dU ((4,a,dP)::Q) LG=false:=by
  unfold dU;show (decide ((4:Int)=4)&&decide (dP=LG))=false;decide
 have m2:dU ((4,a,dP)::Q) dP=true:=by
  unfold dU;show (decide ((4:Int)=4)&&decide (dP=dP))=true;decide
 have m3:dU ((4,b,gO)::z) gO=true:=by
  unfold dU;show (decide ((4:Int)=4)&&decide (gO=gO))=true;decide
 have p1:(pk ((4,a,dP)::Q)).1=4:=rfl;unfold eF;rw[p1,if_neg dE,if_neg dE,if_neg (by rintro⟨h,_⟩;exact absurd h dE),if_neg (by rintro⟨h,_⟩;exact absurd h dE),m1,if_neg dE,if_pos m2];unfold fc;rw[if_pos m2];show df gO id (lg (fh 63) Q)=_;rw[g1]
 show (if dU ((4,b,gO)::z) gO=true then (.ok (id (kE d x),z):PR) else .error (60,(pk ((4,b,gO)::z)).2.1))=_;rw[if_pos m3];rfl
theorem abn{a:Ex}{r:List Tk}(h1:dU r kf=false)(h2:dU r uX=false)(h3:dU r Ki=false):∀ n,oe n a r=(a,r)
 |0=>rfl
 |n+1=>by rw[oe,h1,h2,h3,if_neg dE]
theorem yC{sub:List Tk->PR}{lev:Int}{a:Ex}{r:List Tk}(h:¬ ((pk r).1=4/\EO (pk r).2.2=lev)):∀ n,iz sub lev n a r=.ok (a,r)
 |0=>rfl
 |n+1=>by rw[iz,if_neg h]
theorem Ch{atom:List Tk->PR}{r r' : List Tk}{a:Ex}(h:atom r=.ok (a,r'))(h1:dU r' kf=false)(h2:dU r' uX=false)(h3:dU r' Ki=false):∀ k,(∀ i,i<k->¬ ((pk r').1=4/\EO (pk r').2.2=4-((i:Nat):Int)))->mu atom k r=.ok (a,r')
 |0,_=>by
  show nA atom r=_;unfold nA;rw[h];show (.ok (oe r'.length a r'):PR)=_;rw[abn h1 h2 h3]
 |k+1,hk=>by
  show ob (mu atom k) (4-((k:Nat):Int)) r=_;unfold ob;rw[Ch h h1 h2 h3 k λi hi=>hk i oM];exact yC (hk k oM) _
theorem afM{atom:List Tk->PR}{k a:Nat}{m:ByteArray}{r r2 r3:List Tk}{x y:Ex}(h:mu atom k r=.ok (x,(4,a,m)::r2))(hm:EO m=4-((k:Nat):Int))(h2:mu atom k r2=.ok (y,r3))(h0:(pk r3).1=0):mu atom (k+1) r=.ok (.binary a m x y,r3):=by
 show ob (mu atom k) (4-((k:Nat):Int)) r=_;unfold ob;rw[h];show iz (mu atom k) (4-((k:Nat):Int)) (r2.length+1) x ((4,a,m)::r2)=_;rw[iz,if_pos (show (pk ((4,a,m)::r2)).1=4/\EO (pk ((4,a,m)::r2)).2.2=4-((k:Nat):Int) from ⟨rfl,hm⟩)];show (match mu atom k r2 with
  |.error e=>(.error e:PR)
  |.ok (b,r')=>iz (mu atom k) (4-((k:Nat):Int)) r2.length (.binary a m x b) r')=_
 rw[h2];exact yC (by rw[h0];rintro⟨h,_⟩;exact absurd h dE) _
theorem aao{atom:List Tk->PR}{k:Nat}{r r' : List Tk}{b:Ex}(h:mu atom k r=.ok (b,r'))(h0:(pk r').1=0):∀ j,mu atom (k+j) r=.ok (b,r')
 |0=>h
 |j+1=>by
  show ob (mu atom (k+j)) (4-((k+j:Nat):Int)) r=_;unfold ob;rw[aao h h0 j];exact yC (by rw[h0];rintro⟨h,_⟩;exact absurd h dE) _
def EP(m:ByteArray):Prop:=m=EU\/m=E6\/m=Oc\/m=Pu\/m=XD\/m=E3
theorem C9{m:ByteArray}(h:EP m):Yu m/\m.size<=2/\(dU [(4,0,m)] kf=false/\dU [(4,0,m)] uX=false/\dU [(4,0,m)] Ki=false)/\∃ k,k<=4/\EO m=4-((k:Nat):Int):=by
 rcases h with rfl|rfl|rfl|rfl|rfl|rfl
 ·exact⟨.inl ⟨rfl,⟨by decide +kernel,dE,dE,dE⟩,dE⟩,dE,⟨dE,dE,dE⟩,4,dE,by decide +kernel⟩
 ·exact⟨.inl ⟨rfl,⟨by decide +kernel,dE,dE,dE⟩,dE⟩,dE,⟨dE,dE,dE⟩,0,dE,by decide +kernel⟩
 ·exact⟨.inl ⟨rfl,⟨by decide +kernel,dE,dE,dE⟩,dE⟩,dE,⟨dE,dE,dE⟩,3,dE,by decide +kernel⟩
 ·exact⟨.inl ⟨rfl,⟨by decide +kernel,dE,dE,dE⟩,dE⟩,dE,⟨dE,dE,dE⟩,3,dE,by decide +kernel⟩
 ·exact⟨.inl ⟨rfl,⟨by decide +kernel,dE,dE,dE⟩,dE⟩,dE,⟨dE,dE,dE⟩,1,dE,by decide +kernel⟩
 ·exact⟨.inr rfl,dE,⟨dE,dE,dE⟩,2,dE,by decide +kernel⟩
def brB(c:Int):Bool:=decide (c=40)||decide (c=123)
def rA(s:ByteArray):Nat->Nat
 |0=>0
 |k+1=>rA s k+if brB (bt s (k:Nat))=true then 1 else 0
theorem Kw(s:ByteArray)(i:Nat):∀ j,rA s i<=rA s (i+j)
 |0=>Nat.le_refl _
 |j+1=>by
  have:=Kw s i j;show _<=rA s (i+j)+_;omega
theorem Hk{s:ByteArray}{i j:Nat}(h:i<=j):rA s i<=rA s j:=by
 have:=Kw s i (j-i)
 rwa [show i+(j-i)=j by omega]at this
theorem Ct(l:List Tk)(t:Tk):Gc (l++[t])=Gc l+if EZ t=true then 1 else 0:=by
 induction l with
 |nil=>simp[Gc]
 |cons x l ih=>
  rw[List.cons_append,Gc,Gc,ih];omega
theorem ako{s:ByteArray}{i:Nat}(hi:i<s.size)(h:EZ (bS s i).1=true):brB (bt s (i:Nat))=true:=by
 unfold EZ at h;simp only[Bool.and_eq_true,decide_eq_true_eq,Bool.or_eq_true]at h;obtain⟨h1,h2⟩:=h;unfold bS at h1 h2;split at h1
 ·split at h1<;>simp at h1
 ·rename_i c1;rw[if_neg c1]at h2;split at h1
  ·exact absurd h1 (by show ¬ (2:Int)=4;decide)
  ·rename_i c2;rw[if_neg c2]at h2;split at h1
   ·exact absurd h1 (by show ¬ (3:Int)=4;decide)
   ·rename_i c3;rw[if_neg c3]at h2;split at h1
    ·rename_i c4;rw[if_pos c4]at h2;have hb:bt (s.extract i (i+1)) ((0:Nat):Int)=bt s (i:Nat):=by
      have:=rK s i (i+1) 0 oM oM
      rwa [Nat.add_zero]at this
     have h2:s.extract i (i+1)=dP\/s.extract i (i+1)=LG:=h2;rcases h2 with h2|h2
     ·rw[h2]at hb;rw[<- hb];decide
     ·rw[h2]at hb;rw[<- hb];decide
    ·rename_i c4;rw[if_neg c4]at h2;split at h1
     ·rename_i c5;rw[if_pos c5]at h2;rcases h2 with h2|h2<;>exact absurd h2 (by show ¬ (⟨#[62,62]⟩:ByteArray)=_;decide)
     ·exact absurd h1 (by show ¬ (0:Int)=4;decide)
theorem abU(s:ByteArray):∀ n i l,i<=s.size->Gc (uE s n i l).1+rA s i<=Gc l+rA s s.size
 |0,i,l,hi=>by
  have:=Hk (s:=s) hi;show Gc (l++[(0,s.size,ju)])+_<=_;rw[Ct,if_neg (by simp[EZ])];omega
 | n+1,i,l,hi=>by
  have hm:=Hk (s:=s) hi;rw[uE];split
  ·rename_i hlt;split
   ·rename_i h0;have h1:=tZ hlt h0;have h2:=nM h1.2;have ih:=abU s n _ (l++[(bS s i).1]) h2.2;have h3:rA s (i+1)<=rA s (js s (bS s i).2.1):=Hk oM;rw[Ct]at ih;rw[rA]at h3;by_cases hb:EZ (bS s i).1=true
    ·rw[if_pos hb]at ih;rw[if_pos (ako hlt hb)]at h3;omega
    ·rw[if_neg hb]at ih;omega
   ·show Gc []+_<=_;show 0+_<=_;omega
  ·show Gc (l++[(0,s.size,ju)])+_<=_;rw[Ct,if_neg (by simp[EZ])];omega
theorem Tl(s:ByteArray):Gc (bz s).1<=rA s s.size:=by
 unfold bz;split
 ·exact Nat.zero_le _
 ·have h1:=abU s s.size (js s 0) [] (nM (Nat.zero_le _)).2;have h2:rA s 0<=rA s (js s 0):=Hk (Nat.zero_le _);have h3:Gc []=0:=rfl;omega
theorem Vx{s m t:ByteArray}{x y:Ex}(hm:EP m)(hz:s.size+t.size<=4000)(h:jR s=.ok ([],x))(k:jR t=.ok ([],y))(hb:rA s s.size<64)(kb:rA t t.size<64) :
  bI (gC s m t)=aE [] (.binary (s.size+3) m (kE 1 x) (kE (s.size+4+m.size) y)):=by
 obtain⟨h0,hl,r,he,hr⟩:=GC h;obtain⟨k0,kl,q,ke,kr⟩:=GC k;have nb:=Tl s;have nk:=Tl t;obtain⟨g1,g2,⟨g3,g4,g5⟩,lv,g6,g7⟩:=C9 hm;obtain⟨ts,t1,t2,_⟩:=C0 (d:=0) (s:=s) (s' := s) ⟨oM,λk hk=>by rw[Nat.zero_add],.inl oM⟩ h0
 obtain⟨us,u1,u2,_⟩:=C0 (d:=0) (s:=t) (s' := t) ⟨oM,λk hk=>by rw[Nat.zero_add],.inl oM⟩ k0;have hsc:=Vy g1 hz g2 h0 t1 k0 u1;rw[t1]at he nb;rw[u1]at ke nk;generalize hZ:(gC s m t).size=Z at hsc
 have p2:fh 64 ((4,s.size+3+m.size,dP)::(us.map (y7 (s.size+4+m.size))++((4,s.size+m.size+t.size+5,gO)::[(0,Z,ju)])))=.ok (kE (s.size+4+m.size) y,[(0,Z,ju)]):=Kn ke rfl kr u2 oM
 have p1:fh 64 ((4,0,dP)::(ts.map (y7 1)++((4,s.size+2,gO)::(4,s.size+3,m)::(4,s.size+3+m.size,dP)::(us.map (y7 (s.size+4+m.size))++((4,s.size+m.size+t.size+5,gO)::[(0,Z,ju)])))))=.ok (kE 1 x,(4,s.size+3,m)::(4,s.size+3+m.size,dP)::(us.map (y7 (s.size+4+m.size))++((4,s.size+m.size+t.size+5,gO)::[(0,Z,ju)]))):=Kn he rfl hr t2 oM
 have q1:=Ch p1 (by exact g3) (by exact g4) (by exact g5) lv λi hi hh=>by
  have:EO m=4-((i:Nat):Int):=hh.2;omega
 have q2:=Ch p2 rfl rfl rfl lv λi hi hh=>absurd hh.1 (by show ¬ (0:Int)=4;decide)
 have q3:=aao (afM q1 g7 q2 rfl) rfl (4-lv);rw[show lv+1+(4-lv)=5 by omega]at q3;have hsyn:jR (gC s m t)=.ok ([],.binary (s.size+3) m (kE 1 x) (kE (s.size+4+m.size) y)):=by
  unfold jR;rw[hsc];simp only[if_true];rw[List.length_cons,Wv (by rintro⟨h,_⟩;exact absurd h (by show ¬ (4:Int)=1;decide)) q3 rfl]
 unfold bI;rw[hsyn];rfl
def Zz(m:ByteArray)(a b:Nat):Bool:=(((decide (a<=2)&&decide (b<=2))&&!decide (m=XD))&&!decide (m=E3)||(decide (a=b)&&decide (2<a))&&(decide (m=EU)||decide (m=E6)))||((decide (a=b)&&decide (2<a))&&decide (a=4))&&(decide (m=XD)||decide (m=E3))
theorem Ap(s:ByteArray):∀ k,bO (nX s k)=max 1 (2*k-1)
 |0=>rfl
 |1=>rfl
 |k+2=>by
  have ih:=Ap s (k+1);show bO (nX s (k+1))+1+1=_;omega
theorem Q9(s:ByteArray):bO (GF s)=mE s:=Ap s s.size
theorem akn(a:Nat){m:ByteArray}(hm:EP m)(t u:Tm):if Zz m (Pl t) (Pl u)=true then ∃ r,EV a m t u=.ok r/\br r=br t+br u+1/\Yf r=a else EV a m t u=fE a:=by
 have z1:=λs=>Q9 s
 rcases hm with rfl|rfl|rfl|rfl|rfl|rfl<;>cases t<;>cases u<;>first
  |exact rfl
  | (refine⟨_,rfl,?_,rfl⟩
     simp only[br,dM,gn,bO,eg,z1]
     all_goals first|omega|(rw[if_neg dE];omega))
theorem Z3{s m t:ByteArray}{x y:Ex}(hm:EP m)(hz:s.size+t.size<=4000)(h:jR s=.ok ([],x))(k:jR t=.ok ([],y))(hb:rA s s.size<64)(kb:rA t t.size<64) :
  (∀ c j,bI s=.error (c,j)->∃ j',bI (gC s m t)=.error (c,j')) /\
  (∀ a c j,bI s=.ok a->bI t=.error (c,j)->∃ j',bI (gC s m t)=.error (c,j')) /\
  (∀ a b,bI s=.ok a->bI t=.ok b->if Zz m (Pl a) (Pl b)=true then if 2000<=br a+br b then bI (gC s m t)=.error (24,((s.size+3:Nat):Int)) else ∃ r,bI (gC s m t)=.ok r/\br r=br a+br b+1/\Yf r=s.size+3 else bI (gC s m t)=.error (72,((s.size+3:Nat):Int))):=by
 have e1:bI s=aE [] x:=by
  unfold bI;rw[h];rfl
 have e2:bI t=aE [] y:=by
  unfold bI;rw[k];rfl
 rw[Vx hm hz h k hb kb,e1,e2];have l1:=(SK 1 x).1;have l2:=(SK (s.size+4+m.size) y).1;simp only[aE];generalize aE [] (kE 1 x)=X at *;generalize aE [] (kE (s.size+4+m.size) y)=Y at *;refine⟨λc j hc=>?_,λa c j ha hc=>?_,λa b ha hb' => ?_⟩
 ·rw[hc]at l1;cases X with
  |ok t=>exact l1.elim
  |error e=>
   obtain⟨c',j'⟩:=e;obtain rfl:c=c' := l1;exact⟨j',rfl⟩
 ·rw[ha]at l1;rw[hc]at l2;cases X with
  |error e=>exact l1.elim
  | ok t=>
   cases Y with
   |ok t=>exact l2.elim
   |error e=>
    obtain⟨c',j'⟩:=e;obtain rfl:c=c' := l2;exact⟨j',rfl⟩
 ·rw [ha]at l1;rw[hb']at l2;cases X with
  |error e=>exact l1.elim
  | ok t1=>
   cases Y with
   |error e=>exact l2.elim
   | ok t2=>
    have k1:=mr l1;have k2:=mr l2;have hf:=akn (s.size+3) hm t1 t2;rw[k1.kind,k2.kind]at hf;by_cases hfit:Zz m (Pl a) (Pl b)=true
    ·rw[if_pos hfit]at hf ⊢;obtain⟨r,f1,f2,f3⟩:=hf;rw[k1.size,k2.size]at f2;show (if 2000<=br a+br b then bM (EV (s.size+3) m t1 t2) (gT (s.size+3))=_ else ∃ r,bM (EV (s.size+3) m t1 t2) (gT (s.size+3))=_/\_);rw[f1];show (if 2000<=br a+br b then gT (s.size+3) r=_ else ∃ r',gT (s.size+3) r=_/\_)
     unfold gT;by_cases hbig:2000<=br a+br b
     ·rw[if_pos hbig,if_pos oM]
     ·rw[if_neg hbig,if_neg oM];exact⟨r,rfl,f2,f3⟩
    ·rw[if_neg hfit]at hf ⊢;show bM (EV (s.size+3) m t1 t2) (gT (s.size+3))=_;rw[hf];rfl
end
section
open Go Go.RowKit Go.LE
set_option maxRecDepth 10000
def ue:=(ae @List.replicate_succ.{0} @List.replicate_zero.{0} @au @ab lx ly lA (ae di dj dk dm dB dD dF (ae dG mZ nc nf ng nh alI (ae alJ alK alL eK eL eM eN (ae eO eP ag8 ag9 aha ahb oH (ae oI oJ oK vn vt vu vv (ae vz vA vB vC vD vE jS (ae jT jU jV jW Ri Rj Dq (ae Dr Ds Dt Du Rk Rl Rm (ae Rn Ro Rq Dv Dw Dx Dy (ae Dz DA Rv Rw Ry Rz RA (EL RB RC RD @aV @aw @aD @aF))))))))))))
theorem aeQ(s:ByteArray)(hs:s.size<=140737488355328)(w:World):Calls Tryz.prog 29 #[.string s] w λe w' => e=.returned (.int .i64 (rA s s.size:Nat))/\an w [] w' := by
 have hle:∀ k,rA s k<=k:=λk=>by
  induction k with
  |zero=>exact Nat.le_refl _
  |succ k ih=>
   rw[rA];split<;>omega
 refine ak (nt:=24) [.tmp 2] Tryz.func29 rfl rfl rfl ?_;refine vR Γ0 ue ?_;refine vR Γ0 ue ?_;refine Wp.seq ?_;refine vR Γ0 ue ?_;refine Wp.block ?_
 refine Wp.loop (λk:Nat=>⟨10,eA [(0,.is (.v (.string s))),(3,.is (.v (.int .i64 (rA s k:Nat)))),(4,.is (.v (.int .i64 (k:Nat))))],dS []⟩) (λk=>k<=s.size) (λk=>s.size-k) 0 ?_ (Nat.zero_le _) ?_
 ·exact wM (λk=>.key k) (fg ue @rA.eq_1 @rA.eq_2 @Int.natCast_zero)
 rintro k hk;refine Wp.seq ?_;refine vR Γ0 ue ?_;refine wC ue (λhc=>?_) (λhc=>?_)
 ·have hlt:k<s.size:=by
   simp at hc;omega
  have hb:=hle k;have wk:IntKind.i64.wrap ((k:Int)+1)=((k+1:Nat):Int):=wW;have wb:IntKind.i64.wrap ((rA s k:Int)+1)=((rA s k+1:Nat):Int):=wW;refine wK ?_;refine Wp.seq (Wp.block ?_);refine wR Γ0 ue ?_ ?_
  ·first|omega|exact⟨oM,λ_=>by omega⟩
  refine wC ue (λhc=>?_) (λhc=>?_)
  ·have h:brB (bt s (k:Nat))=true:=by
    unfold brB
    first|exact hc|(simp at hc ⊢;exact hc)
   have e:rA s (k+1)=rA s k+1:=by rw[rA,if_pos h]
   refine vr Γ0 (aa ue wb) ?_;refine vr Γ0 (aa ue wk) ?_;refine⟨k+1,oM,oM,?_⟩;exact wM (λk=>.key k) (aa ue e)
  ·have h:¬ brB (bt s (k:Nat))=true:=by
    unfold brB;intro h
    first|(rw[h]at hc;cases hc)|(simp at hc h;omega)
   have e:rA s (k+1)=rA s k:=by rw[rA,if_neg h];rfl
   refine wK ?_;refine vr Γ0 (aa ue wk) ?_;refine⟨k+1,oM,oM,?_⟩;exact wM (λk=>.key k) (aa ue e)
 ·have hkN:k=s.size:=by
   simp at hc;omega
  subst hkN;refine wE ?_;refine vR Γ0 ue ?_;refine wZ ue ?_;exact λE=>rfl
noncomputable def Sg:a8 Tryz.prog 29 where
 pre:=λW bs as_=>∃ s:ByteArray,as_=[.val (.string s)]/\s.size<=140737488355328
 res:=λ_ as_=>match as_ with
  |[.val (.string s)]=>.int .i64 (rA s s.size:Nat)
  |_=>undef
 enters:=Tryz.call29
 ok:=by
  intro W w bs us as_ hk hu hp;obtain⟨s,rfl,h1⟩:=hp
  match us,hu with
  |[x],hu=>
   obtain⟨rfl,_⟩:=hu;exact aeQ s h1 w
theorem Ux(W:World)(bs:List Nat)(s:ByteArray):Sg.pre W bs [.val (.string s)]=(s.size<=140737488355328):=by
 apply propext;constructor
 ·rintro⟨s',h1,h2⟩;cases h1;exact h2
 ·exact λh=>⟨s,rfl,h⟩
theorem Uy(W:World)(s:ByteArray):Sg.res W [.val (.string s)]=.int .i64 (rA s s.size:Nat):=rfl
section
variable (G:Nat->Prop)(s:ByteArray)
noncomputable def bH:Env Tryz.prog:=⟨λ| 21=>some Dp.spec|22=>some ((zf s).spec G)|28=>some ((Xx s).spec G)|29=>some Sg.spec|24=>some nU.spec|f=>spT f,λ| 39=>some uf|_=>none,V3⟩
theorem aih:(bH G s).sp 21=some Dp.spec:=rfl
theorem aii:(bH G s).sp 22=some ((zf s).spec G):=rfl
theorem aik:(bH G s).sp 28=some ((Xx s).spec G):=rfl
theorem ail:(bH G s).sp 29=some Sg.spec:=rfl
theorem aij:(bH G s).sp 24=some nU.spec:=rfl
theorem Yb:(bH G s).eqs 39=some uf:=rfl
theorem ub{W:World}{bs:List Nat}{κ:Nat}{hh:Hp}{v:Value}{t:Tm}(h:ek W (Out bs) v t)(ht:fM t):aI (bH G s) W bs κ hh "Kind" [.v v]=⟨True,.v (.int .i64 (Pl t:Nat)),[],none,[],[]⟩:=
 F5 rfl (λf s hf=>by
  unfold spT at hf
  split at hf<;>cases hf<;>rfl) h ht
theorem aim{W:World}{bs:List Nat}{κ:Nat}{hh:Hp}{v:Value}{t:Tm}(h:ek W (Out bs) v t)(ht:fM t):aI (bH G s) W bs κ hh "Place" [.v v]=⟨True,.v (.int .i64 (Yf t:Nat)),[],none,[],[]⟩:=
 uQ rfl (λf s hf=>by
  unfold spT at hf
  split at hf<;>cases hf<;>rfl) h ht
end
theorem pz:(⟨#[40]⟩:ByteArray)=dP:=rfl
theorem pr:(⟨#[10,41]⟩:ByteArray)=ui:=rfl
theorem GD{s:ByteArray}{p:Pm}(h:jR s=.ok p):s.size<=4096:=by
 by_cases hs:s.size<=4096
 ·exact hs
 ·exfalso;have e:bz s=([],1,0):=by
   unfold bz;rw[if_pos oM]
  unfold jR at h;rw[e,if_neg dE]at h;cases h
theorem Hz(m:ByteArray)(a b:Nat):((((decide ((a:Int)<=2)&&decide ((b:Int)<=2))&&!decide (m=⟨#[126]⟩))&&!decide (m=⟨#[62,62]⟩)||(decide ((a:Int)=(b:Int))&&decide (2<(a:Int)))&&(decide (m=⟨#[124]⟩)||decide (m=⟨#[46]⟩)))||((decide ((a:Int)=(b:Int))&&decide (2<(a:Int)))&&decide ((a:Int)=4))&&(decide (m=⟨#[126]⟩)||decide (m=⟨#[62,62]⟩)))=Zz m a b:=by
 have e1:decide ((a:Int)<=2)=decide (a<=2):=by rw[decide_eq_decide];omega
 have e2:decide ((b:Int)<=2)=decide (b<=2):=by rw[decide_eq_decide];omega
 have e3:decide ((a:Int)=(b:Int))=decide (a=b):=by rw[decide_eq_decide];omega
 have e4:decide (2<(a:Int))=decide (2<a):=by rw[decide_eq_decide];omega
 have e5:decide ((a:Int)=4)=decide (a=4):=by rw[decide_eq_decide];omega
 rw[e1,e2,e3,e4,e5];rfl
theorem Ar{s:ByteArray}{x:Ex}(h:jR s=.ok ([],x)):bI s=aE [] x:=by
 unfold bI;rw[h];rfl
def Xh:Nat->ByteArray
 |0=>EU
 |1=>E6
 |2=>Oc
 |3=>Pu
 |4=>XD
 |_=>E3
theorem A8{r:Nat}{k:Int}(h:r<6)(hk:Int.tmod k 6=(r:Int)):[SV.v (.string ⟨#[124]⟩),SV.v (.string ⟨#[46]⟩),SV.v (.string ⟨#[38]⟩),SV.v (.string ⟨#[45]⟩),SV.v (.string ⟨#[126]⟩),SV.v (.string ⟨#[62,62]⟩)].getD (Int.tmod k ((6:Nat):Int)).toNat (SV.v undef)=SV.v (.string (Xh r)):=by
 have:(Int.tmod k ((6:Nat):Int)).toNat=r:=by
  show (Int.tmod k 6).toNat=r;rw[hk,Int.toNat_natCast]
 rw[this]
 match r,h with
 |0,_=>rfl
 |1,_=>rfl
 |2,_=>rfl
 |3,_=>rfl
 |4,_=>rfl
 |5,_=>rfl
theorem A9{r:Nat}(h:r<6):EP (Xh r):=by
 match r,h with
 |0,_=>exact .inl rfl
 |1,_=>exact .inr (.inl rfl)
 |2,_=>exact .inr (.inr (.inl rfl))
 |3,_=>exact .inr (.inr (.inr (.inl rfl)))
 |4,_=>exact .inr (.inr (.inr (.inr (.inl rfl))))
 |5,_=>exact .inr (.inr (.inr (.inr (.inr rfl))))
def aT:=(ae ue @gE @e9 @aV @aw @aD @aF (ae @cP @e8 @aih @aii @aik @ail @aij (ae @Yb @uL @Dp.eq_1 @ncU @faU @ldU @lnU (ae @bnU @pkU @R.bad.eq_1 @Xx.eq_1 @zf.eq_1 @IX @qk (ae @Ht @ko @Sh.pf.eq_1 @pR.eq_1 @Fa.eq_1 @nV @nW (aa @Ux @Uy))))))
theorem VE(s t:ByteArray)(k:Int)(hk0:0<=k)(hk1:k<256)(w:World)(hs:s.size<=9223372036854775807)(ht:t.size<=9223372036854775807)(hg:rG w (Out [])):Calls Tryz.prog 10 #[.string s,.string t,.int .u8 k] w λe w' => e=.returned (.bool true)/\LE.an w [] w' := by
 have dY:aX w (Out []) w (bJ (λ_=>True) []):=λb _ h=>⟨rfl,trivial,h⟩
 have hr:=hg.mono dY;have u0:Up (λ_=>True) w []:=Up.true _ _;have wkk:IntKind.i64.wrap k=k:=ax oM oM;obtain⟨r6,h6,hrem⟩:∃ r:Nat,r<6/\Int.tmod k 6=(r:Int):=⟨(k.tmod 6).toNat,by
  have h1:Int.tmod k 6=k % 6:=Int.tmod_eq_emod_of_nonneg hk0
  omega,by
  have h1:Int.tmod k 6=k % 6:=Int.tmod_eq_emod_of_nonneg hk0
  omega⟩
 refine ak (nt:=238) [.tmp 6] Tryz.func10 rfl rfl rfl ?_;refine vR (bH (λ_=>True) ⟨#[]⟩) aT ?_;refine Wp.seq ?_;refine wR (bH (λ_=>True) ⟨#[]⟩) aT ?_ ?_
 ·exact hg
 refine wC aT (λhc=>?_) (λhc=>?_)
 ·exact absurd hc sI
 refine wK ?_;cases hF:jR s with
 | error e=>
  obtain⟨c,j⟩:=e;have hcd:decide (c=0)=false:=decide_eq_false (Q5 hF);refine wR (bH (λ_=>True) s) (aa aT hF) ?_ ?_
  ·exact⟨oM,hr.1⟩
  cases hK:jR t with
  | error e=>
   obtain⟨c2,j2⟩:=e;refine wR (bH (λ_=>True) t) (aa aT hK) ?_ ?_
   ·exact⟨oM,hr.1⟩
   refine Wp.seq ?_;refine wR (bH (λ_=>True) ⟨#[]⟩) (nu aT hcd @Bool.false_and @Bool.xor_false @Bool.true_or) ?_ ?_
   ·first|trivial|simp
   refine wC aT (λhc=>?_) (λhc=>?_)
   ·skip;refine vR (bH (λ_=>True) ⟨#[]⟩) aT ?_;refine wZ aT ?_;exact λE=>rfl
   ·exact absurd hc sI
  | ok q=>
   refine wR (bH (λ_=>True) t) (aa aT hK) ?_ ?_
   ·exact⟨⟨oM,hr.1⟩,u0⟩
   refine Wp.cO 96 (ev aT) (aX.refl _ _) λW1 bs1 cs hx1 hΦ1=>?_
   obtain⟨vq,rfl,hvq⟩:=hΦ1;have hqq:LE.hv vq=vq:=hvq.hv;obtain⟨b',ao',c',xs',u',rfl,y0,y1,⟨hsl',hdf',_⟩,hmain'⟩:=hvq;refine Wp.seq ?_;refine wR (bH (λ_=>True) ⟨#[]⟩) (oQ aT hcd y0.2 @Bool.false_and @Bool.xor_false @Bool.true_or) ?_ ?_
   ·first|trivial|simp
   refine wC aT (λhc=>?_) (λhc=>?_)
   ·skip;refine vR (bH (λ_=>True) ⟨#[]⟩) aT ?_;refine wZ aT ?_;exact λE=>rfl
   ·exact absurd hc sI
 | ok p=>
  refine wR (bH (λ_=>True) s) (aa aT hF) ?_ ?_
  ·exact⟨⟨oM,hr.1⟩,u0⟩
  refine Wp.cO 32 (ev aT) (aX.refl _ _) λW1 bs1 cs hx1 hΦ1=>?_
  obtain⟨vp,rfl,hvp⟩:=hΦ1;have hpp:LE.hv vp=vp:=hvp.hv;have hr1:=hr.mono hx1.dY;have hvpS:=hvp;have up1:Up (λ_=>True) W1 bs1:=Up.true _ _;cases hK:jR t with
  | error e=>
   obtain⟨c2,j2⟩:=e;have hcd:decide (c2=0)=false:=decide_eq_false (Q5 hK);refine wR (bH (λ_=>True) t) (aa aT hK) ?_ ?_
   ·exact⟨oM,hr1.1⟩
   obtain⟨b',ao',c',xs',u',rfl,y0,y1,⟨hsl',hdf',_⟩,hmain'⟩:=hvpS;refine Wp.seq ?_;refine wR (bH (λ_=>True) ⟨#[]⟩) (oQ aT hcd y0.2 @Bool.false_and @Bool.xor_false @Bool.true_or) ?_ ?_
   ·first|trivial|simp
   refine wC aT (λhc=>?_) (λhc=>?_)
   ·skip;refine vR (bH (λ_=>True) ⟨#[]⟩) aT ?_;refine wZ aT ?_;exact λE=>rfl
   ·exact absurd hc sI
  | ok q=>
   refine wR (bH (λ_=>True) t) (aa aT hK) ?_ ?_
   ·exact⟨⟨oM,hr1.1⟩,up1⟩
   refine Wp.cO 96 (ev aT) (aX.refl _ _) λW2 bs2 cs2 hx2 hΦ2=>?_
   obtain⟨vq,rfl,hvq⟩:=hΦ2;have hr2:=hr1.mono hx2.dY;have sm1:=GD hF;have sm2:=GD hK;have wst:IntKind.i64.wrap ((s.size:Int)+(t.size:Int))=(s.size:Int)+(t.size:Int):=ax oM oM;have ws3:IntKind.i64.wrap ((s.size:Int)+3)=(s.size:Int)+3:=ax oM oM;have up2:Up (λ_=>True) W2 bs2:=Up.true _ _
   have hvp2:=hvp.mono hx2.dY;obtain⟨b,ao,c,xs,u,rfl,x0,x1,⟨hsl,hdf,_⟩,hmain⟩:=hvp2;obtain⟨b',ao',c',xs',u',rfl,y0,y1,⟨hsl',hdf',_⟩,hmain'⟩:=hvq;refine Wp.seq ?_;refine wR (bH (λ_=>True) ⟨#[]⟩) (fg aT x0.2 y0.2 wst) ?_ ?_
   ·exact⟨λ_=>x0.1.2,λ_=>⟨_,rfl⟩,λ_=>y0.1.2,λ_=>⟨_,rfl⟩,λ_=>by omega,λ_=>by omega⟩
   refine wC aT (λhc=>?_) (λhc=>?_)
   ·skip;refine vR (bH (λ_=>True) ⟨#[]⟩) aT ?_;refine wZ aT ?_;exact λE=>rfl
   refine wK ?_;simp at hc;obtain⟨⟨⟨⟨hp1,hq1⟩,hz'⟩,hb'⟩,kb'⟩:=hc;have hz:s.size+t.size<=4000:=oM;have hb:rA s s.size<64:=oM;have kb:rA t t.size<64:=oM;clear hz' hb' kb';obtain⟨ds,x⟩:=p;obtain⟨es,y⟩:=q;simp only at hp1 hq1;subst hp1 hq1;have n1:=SL [] hmain;have n2:=SL [] hmain';rw[<- Ar hF]at n1
   rw[<- Ar hK]at n2;have law:=λ(m:ByteArray) (hm:EP m)=>Z3 hm hz hF hK hb kb
   cases hA:bI s with
   | error e=>
    obtain⟨c1,j1⟩:=e;cases hB:bI t with
    |error e=>
    obtain⟨c2,j2⟩:=e;refine wR (bH (λ_=>True) s) (aa aT hA) ?_ ?_
    ·exact⟨oM,hr2.1,hr2.2.1⟩
    have hr3:=hr2;have up3:=up2;have hcd:decide (c1=0)=false:=decide_eq_false (n1 _ _ hA);refine wR (bH (λ_=>True) t) (aa aT hB) ?_ ?_
    ·exact⟨oM,hr3.1,hr3.2.1⟩
    have hr4:=hr3;have up4:=up3;have hce:decide (c2=0)=false:=decide_eq_false (n2 _ _ hB);refine vR (bH (λ_=>True) ⟨#[]⟩) aT ?_;obtain⟨m,hm,hsg⟩:∃ m,EP m/\m=Xh r6:=⟨_,A9 h6,rfl⟩;have hget:=(A8 h6 hrem).trans (congrArg (λx=>SV.v (.string x)) hsg.symm)
    refine wR (bH (λ_=>True) ⟨#[]⟩) (bp aT wkk hget) ?_ ?_
    ·have h' : Int.tmod k ((6:Nat):Int)=(r6:Int):=hrem;exact⟨⟨_,rfl⟩,dE,⟨oM,oM⟩,oM⟩
    clear hrem hsg;obtain⟨q1,q2,q3⟩:=law m hm;have hmz:=(C9 hm).2.1;have zo:dP.size=1:=rfl;have zn:ui.size=2:=rfl;obtain⟨j3,hJ0⟩:=q1 _ _ hA;have hJ:bI (dP++s++ui++m++dP++t++ui)=.error (c1,j3):=hJ0;refine wR (bH (λ_=>True) (dP++s++ui++m++dP++t++ui)) (nu aT hJ @pz @pr @ByteArray.size_append) ?_ ?_
    ·exact⟨oM,oM,oM,oM,oM,oM,oM,hr4.1,hr4.2.1⟩
    refine Wp.seq ?_;refine vR (bH (λ_=>True) ⟨#[]⟩) (aa aT hcd) ?_;refine wC aT (λhc=>?_) (λhc=>?_)
    rotate_left
    ·exact absurd hc sI
    refine vR (bH (λ_=>True) ⟨#[]⟩) aT ?_;refine wZ aT ?_;exact λE=>by simp[den]
    |ok b=>
    refine wR (bH (λ_=>True) s) (aa aT hA) ?_ ?_
    ·exact⟨oM,hr2.1,hr2.2.1⟩
    have hr3:=hr2;have up3:=up2;have hcd:decide (c1=0)=false:=decide_eq_false (n1 _ _ hA);refine wR (bH (λ_=>True) t) (aa aT hB) ?_ ?_
    ·exact⟨⟨oM,hr3.1,hr3.2.1⟩,up3⟩
    refine Wp.cO 560 (ev aT) (aX.refl _ _) λW4 bs4 cs4 hx4 hΦ4=>?_
    obtain⟨v2,rfl,hv2⟩:=hΦ4;have hh2:LE.hv v2=v2:=hv2.hv;have hr4:=hr3.mono hx4.dY;have up4:Up (λ_=>True) W4 bs4:=Up.true _ _;have hSB:=tS hB;refine vR (bH (λ_=>True) ⟨#[]⟩) (aa aT hh2) ?_;obtain⟨m,hm,hsg⟩:∃ m,EP m/\m=Xh r6:=⟨_,A9 h6,rfl⟩
    have hget:=(A8 h6 hrem).trans (congrArg (λx=>SV.v (.string x)) hsg.symm);refine wR (bH (λ_=>True) ⟨#[]⟩) (fg aT wkk hget hh2) ?_ ?_
    ·have h' : Int.tmod k ((6:Nat):Int)=(r6:Int):=hrem;exact⟨⟨_,rfl⟩,dE,⟨oM,oM⟩,oM⟩
    clear hrem hsg;obtain⟨q1,q2,q3⟩:=law m hm;have hmz:=(C9 hm).2.1;have zo:dP.size=1:=rfl;have zn:ui.size=2:=rfl;obtain⟨j3,hJ0⟩:=q1 _ _ hA;have hJ:bI (dP++s++ui++m++dP++t++ui)=.error (c1,j3):=hJ0;refine wR (bH (λ_=>True) (dP++s++ui++m++dP++t++ui)) (oQ aT hJ @pz @pr @ByteArray.size_append hh2) ?_ ?_
    ·exact⟨oM,oM,oM,oM,oM,oM,oM,hr4.1,hr4.2.1⟩
    refine Wp.seq ?_;refine vR (bH (λ_=>True) ⟨#[]⟩) (bp aT hcd hh2) ?_;refine wC aT (λhc=>?_) (λhc=>?_)
    rotate_left
    ·exact absurd hc sI
    refine vR (bH (λ_=>True) ⟨#[]⟩) aT ?_;refine wZ aT ?_;exact λE=>by simp[den]
   | ok a=>
    cases hB:bI t with
    |error e=>
    obtain⟨c2,j2⟩:=e;refine wR (bH (λ_=>True) s) (aa aT hA) ?_ ?_
    ·exact⟨⟨oM,hr2.1,hr2.2.1⟩,up2⟩
    refine Wp.cO 496 (ev aT) (aX.refl _ _) λW3 bs3 cs3 hx3 hΦ3=>?_
    obtain⟨v1,rfl,hv1⟩:=hΦ3;have hh1:LE.hv v1=v1:=hv1.hv;have hr3:=hr2.mono hx3.dY;have up3:Up (λ_=>True) W3 bs3:=Up.true _ _;have hSA:=tS hA;refine wR (bH (λ_=>True) t) (bp aT hB hh1) ?_ ?_
    ·exact⟨oM,hr3.1,hr3.2.1⟩
    have hr4:=hr3;have up4:=up3;have hce:decide (c2=0)=false:=decide_eq_false (n2 _ _ hB);refine vR (bH (λ_=>True) ⟨#[]⟩) (aa aT hh1) ?_;obtain⟨m,hm,hsg⟩:∃ m,EP m/\m=Xh r6:=⟨_,A9 h6,rfl⟩;have hget:=(A8 h6 hrem).trans (congrArg (λx=>SV.v (.string x)) hsg.symm)
    refine wR (bH (λ_=>True) ⟨#[]⟩) (fg aT wkk hget hh1) ?_ ?_
    ·have h' : Int.tmod k ((6:Nat):Int)=(r6:Int):=hrem;exact⟨⟨_,rfl⟩,dE,⟨oM,oM⟩,oM⟩
    clear hrem hsg;obtain⟨q1,q2,q3⟩:=law m hm;have hmz:=(C9 hm).2.1;have zo:dP.size=1:=rfl;have zn:ui.size=2:=rfl;obtain⟨j3,hJ0⟩:=q2 _ _ _ hA hB;have hJ:bI (dP++s++ui++m++dP++t++ui)=.error (c2,j3):=hJ0
    refine wR (bH (λ_=>True) (dP++s++ui++m++dP++t++ui)) (oQ aT hJ @pz @pr @ByteArray.size_append hh1) ?_ ?_
    ·exact⟨oM,oM,oM,oM,oM,oM,oM,hr4.1,hr4.2.1⟩
    refine Wp.seq ?_;refine vR (bH (λ_=>True) ⟨#[]⟩) (bp aT hh1 hh1) ?_;refine wC aT (λhc=>?_) (λhc=>?_)
    ·exact absurd hc sI
    refine wK ?_;refine Wp.seq ?_;refine vR (bH (λ_=>True) ⟨#[]⟩) (bp aT hce hh1) ?_;refine wC aT (λhc=>?_) (λhc=>?_)
    rotate_left
    ·exact absurd hc sI
    refine vR (bH (λ_=>True) ⟨#[]⟩) aT ?_;refine wZ aT ?_;exact λE=>by simp[den]
    |ok b=>
    refine wR (bH (λ_=>True) s) (aa aT hA) ?_ ?_
    ·exact⟨⟨oM,hr2.1,hr2.2.1⟩,up2⟩
    refine Wp.cO 496 (ev aT) (aX.refl _ _) λW3 bs3 cs3 hx3 hΦ3=>?_
    obtain⟨v1,rfl,hv1⟩:=hΦ3;have hh1:LE.hv v1=v1:=hv1.hv;have hr3:=hr2.mono hx3.dY;have up3:Up (λ_=>True) W3 bs3:=Up.true _ _;have hSA:=tS hA;refine wR (bH (λ_=>True) t) (bp aT hB hh1) ?_ ?_
    ·exact⟨⟨oM,hr3.1,hr3.2.1⟩,up3⟩
    refine Wp.cO 560 (ev aT) (aX.refl _ _) λW4 bs4 cs4 hx4 hΦ4=>?_
    obtain⟨v2,rfl,hv2⟩:=hΦ4;have hh2:LE.hv v2=v2:=hv2.hv;have hr4:=hr3.mono hx4.dY;have up4:Up (λ_=>True) W4 bs4:=Up.true _ _;have hSB:=tS hB;refine vR (bH (λ_=>True) ⟨#[]⟩) (bp aT hh1 hh2) ?_;obtain⟨m,hm,hsg⟩:∃ m,EP m/\m=Xh r6:=⟨_,A9 h6,rfl⟩
    have hget:=(A8 h6 hrem).trans (congrArg (λx=>SV.v (.string x)) hsg.symm);refine wR (bH (λ_=>True) ⟨#[]⟩) (nu aT wkk hget hh1 hh2) ?_ ?_
    ·have h' : Int.tmod k ((6:Nat):Int)=(r6:Int):=hrem;exact⟨⟨_,rfl⟩,dE,⟨oM,oM⟩,oM⟩
    clear hrem hsg;obtain⟨q1,q2,q3⟩:=law m hm;have hmz:=(C9 hm).2.1;have zo:dP.size=1:=rfl;have zn:ui.size=2:=rfl;have q3:=q3 _ _ hA hB;have kA:ek W4 (bJ (λ_=>True) bs4) v1 a:=hv1.mono hx4.dY;have zA:=hSA.2;have zB:=hSB.2
    have wz:IntKind.i64.wrap ((br a:Int)+(br b:Int))=(br a:Int)+(br b:Int):=ax oM oM;have wz1:IntKind.i64.wrap ((br a:Int)+(br b:Int)+1)=(br a:Int)+(br b:Int)+1:=ax oM oM;by_cases hfit:Zz m (Pl a) (Pl b)=true
    ·rw[if_pos hfit]at q3;by_cases hbig:2000<=br a+br b
     ·rw[if_pos hbig]at q3;have hJ0:=q3;have hJ:bI (dP++s++ui++m++dP++t++ui)=.error (24,((s.size+3:Nat):Int)):=hJ0;refine wR (bH (λ_=>True) (dP++s++ui++m++dP++t++ui)) (EL aT hJ @pz @pr @ByteArray.size_append hh1 hh2) ?_ ?_
      ·exact⟨oM,oM,oM,oM,oM,oM,oM,hr4.1,hr4.2.1⟩
      have k1:ek W4 (Out bs4) v1 a:=kA.out;have k2:ek W4 (Out bs4) v2 b:=hv2.out;have d1:=bW k1;have d2:=bW k2;have kd1:=λκ hh=>ub (λ_=>True) ⟨#[]⟩ (κ:=κ) (hh:=hh) k1 hSA.1
      have kd2:=λκ hh=>ub (λ_=>True) ⟨#[]⟩ (κ:=κ) (hh:=hh) k2 hSB.1
      refine Wp.seq ?_;refine vR (bH (λ_=>True) ⟨#[]⟩) (fg aT hh1 hh1 hh2) ?_;refine wC aT (λhc=>?_) (λhc=>?_)
      ·exact absurd hc sI
      refine wK ?_;refine Wp.seq ?_;refine vR (bH (λ_=>True) ⟨#[]⟩) (fg aT hh1 hh1 hh2) ?_;refine wC aT (λhc=>?_) (λhc=>?_)
      ·exact absurd hc sI
      refine wK ?_;refine vR (bH (λ_=>True) ⟨#[]⟩) (nu aT kd1 kd2 hh1 hh2) ?_;refine vR (bH (λ_=>True) ⟨#[]⟩) (nu aT kd1 kd2 hh1 hh2) ?_;refine vR (bH (λ_=>True) ⟨#[]⟩) (nu aT kd1 kd2 hh1 hh2) ?_;refine vR (bH (λ_=>True) ⟨#[]⟩) (bp aT hh1 hh2) ?_;refine Wp.seq ?_
      refine vR (bH (λ_=>True) ⟨#[]⟩) (bp aT hh1 hh2) ?_;refine wC aT (λhc=>?_) (λhc=>?_)
      ·exact absurd hfit (by rw[Hz]at hc;intro h;rw[h]at hc;exact absurd hc dE)
      refine wK ?_;refine Wp.seq ?_;refine wR (bH (λ_=>True) ⟨#[]⟩) (oQ aT d1 d2 wz hh1 hh2) ?_ ?_
      ·exact⟨⟨a,k1,by unfold eS;omega⟩,⟨b,k2,by unfold eS;omega⟩⟩
      refine wC aT (λhc=>?_) (λhc=>?_)
      rotate_left
      ·exfalso;simp at hc;omega
      refine vR (bH (λ_=>True) ⟨#[]⟩) (aa aT ws3) ?_;refine wZ aT ?_;exact λE=>by simp[den]
     ·rw[if_neg hbig]at q3;obtain⟨r,hJ0,f2,f3⟩:=q3;have hJ:bI (dP++s++ui++m++dP++t++ui)=.ok r:=hJ0;refine wR (bH (λ_=>True) (dP++s++ui++m++dP++t++ui)) (EL aT hJ @pz @pr @ByteArray.size_append hh1 hh2) ?_ ?_
      ·exact⟨oM,oM,oM,oM,oM,oM,⟨oM,hr4.1,hr4.2.1⟩,up4⟩
      refine Wp.cO 776 (ev aT) (aX.refl _ _) λW5 bs5 cs5 hx5 hΦ5=>?_
      obtain⟨v3,rfl,hv3⟩:=hΦ5;have hh3:LE.hv v3=v3:=hv3.hv;have hSC:=tS hJ;have k3:ek W5 (Out bs5) v3 r:=hv3.out;have d3:=bW k3;have zC:=hSC.2;have kA:=kA.mono hx5.dY;have hv2:=hv2.mono hx5.dY;have k1:ek W5 (Out bs5) v1 a:=kA.out;have k2:ek W5 (Out bs5) v2 b:=hv2.out;have d1:=bW k1;have d2:=bW k2
      have kd1:=λκ hh=>ub (λ_=>True) ⟨#[]⟩ (κ:=κ) (hh:=hh) k1 hSA.1
      have kd2:=λκ hh=>ub (λ_=>True) ⟨#[]⟩ (κ:=κ) (hh:=hh) k2 hSB.1
      have pl3:=λκ hh=>aim (λ_=>True) ⟨#[]⟩ (κ:=κ) (hh:=hh) k3 hSC.1
      refine Wp.seq ?_;refine vR (bH (λ_=>True) ⟨#[]⟩) (nu aT hh1 hh1 hh2 hh3) ?_;refine wC aT (λhc=>?_) (λhc=>?_)
      ·exact absurd hc sI
      refine wK ?_;refine Wp.seq ?_;refine vR (bH (λ_=>True) ⟨#[]⟩) (nu aT hh1 hh1 hh2 hh3) ?_;refine wC aT (λhc=>?_) (λhc=>?_)
      ·exact absurd hc sI
      refine wK ?_;refine vR (bH (λ_=>True) ⟨#[]⟩) (oQ aT kd1 kd2 hh1 hh2 hh3) ?_;refine vR (bH (λ_=>True) ⟨#[]⟩) (oQ aT kd1 kd2 hh1 hh2 hh3) ?_;refine vR (bH (λ_=>True) ⟨#[]⟩) (oQ aT kd1 kd2 hh1 hh2 hh3) ?_;refine vR (bH (λ_=>True) ⟨#[]⟩) (fg aT hh1 hh2 hh3) ?_;refine Wp.seq ?_
      refine vR (bH (λ_=>True) ⟨#[]⟩) (fg aT hh1 hh2 hh3) ?_;refine wC aT (λhc=>?_) (λhc=>?_)
      ·exact absurd hfit (by rw[Hz]at hc;intro h;rw[h]at hc;exact absurd hc dE)
      refine wK ?_;refine Wp.seq ?_;refine wR (bH (λ_=>True) ⟨#[]⟩) (EL aT d1 d2 wz hh1 hh2 hh3) ?_ ?_
      ·exact⟨⟨a,k1,by unfold eS;omega⟩,⟨b,k2,by unfold eS;omega⟩⟩
      refine wC aT (λhc=>?_) (λhc=>?_)
      ·exfalso;simp at hc;omega
      refine wK ?_;refine wR (bH (λ_=>True) ⟨#[]⟩) (ae aT d1 d2 d3 pl3 wz wz1 (oQ ws3 f2 f3 hh1 hh2 hh3)) ?_ ?_
      ·exact⟨λ_=>⟨r,k3,by unfold eS;omega⟩,λ_=>⟨a,k1,by unfold eS;omega⟩,λ_=>⟨b,k2,by unfold eS;omega⟩⟩
      refine wZ aT ?_;exact λE=>by simp[den]
    ·rw[if_neg hfit]at q3;have hJ0:=q3;have hJ:bI (dP++s++ui++m++dP++t++ui)=.error (72,((s.size+3:Nat):Int)):=hJ0;refine wR (bH (λ_=>True) (dP++s++ui++m++dP++t++ui)) (EL aT hJ @pz @pr @ByteArray.size_append hh1 hh2) ?_ ?_
     ·exact⟨oM,oM,oM,oM,oM,oM,oM,hr4.1,hr4.2.1⟩
     have k1:ek W4 (Out bs4) v1 a:=kA.out;have k2:ek W4 (Out bs4) v2 b:=hv2.out;have d1:=bW k1;have d2:=bW k2;have kd1:=λκ hh=>ub (λ_=>True) ⟨#[]⟩ (κ:=κ) (hh:=hh) k1 hSA.1
     have kd2:=λκ hh=>ub (λ_=>True) ⟨#[]⟩ (κ:=κ) (hh:=hh) k2 hSB.1
     refine Wp.seq ?_;refine vR (bH (λ_=>True) ⟨#[]⟩) (fg aT hh1 hh1 hh2) ?_;refine wC aT (λhc=>?_) (λhc=>?_)
     ·exact absurd hc sI
     refine wK ?_;refine Wp.seq ?_;refine vR (bH (λ_=>True) ⟨#[]⟩) (fg aT hh1 hh1 hh2) ?_;refine wC aT (λhc=>?_) (λhc=>?_)
     ·exact absurd hc sI
     refine wK ?_;refine vR (bH (λ_=>True) ⟨#[]⟩) (nu aT kd1 kd2 hh1 hh2) ?_;refine vR (bH (λ_=>True) ⟨#[]⟩) (nu aT kd1 kd2 hh1 hh2) ?_;refine vR (bH (λ_=>True) ⟨#[]⟩) (nu aT kd1 kd2 hh1 hh2) ?_;refine vR (bH (λ_=>True) ⟨#[]⟩) (bp aT hh1 hh2) ?_;refine Wp.seq ?_
     refine vR (bH (λ_=>True) ⟨#[]⟩) (bp aT hh1 hh2) ?_;refine wC aT (λhc=>?_) (λhc=>?_)
     rotate_left
     ·exact absurd hfit (by rw[Hz]at hc;intro h;rw[Bool.not_eq_true]at h;rw[h]at hc;exact absurd hc dE)
     refine vR (bH (λ_=>True) ⟨#[]⟩) (aa aT ws3) ?_;refine wZ aT ?_;exact λE=>by simp[den]
end
end Go.Proofs.YtnemkecffmdlnaaGreatDoor
namespace Go.Proofs.YtnemkecffmdlnaaGreatDoor.termJoins
section
set_option maxRecDepth 100000
theorem k0:Rows.termJoinsRow.wf (OpenSpec.ofChange (OpenSpec.ofChange Rows.termJoinsSpec).bare)=true:=by kernel_rfl
theorem k1:laidOutB Tryz.prog=true:=by kernel_rfl
theorem k2:mapsRowed Tryz.prog=true:=by kernel_rfl
theorem k3:Tryz.f10.params.all (Tryz.prog.readableRec ·)=true:=by kernel_rfl
theorem k4:namedTie Tryz.prog Rows.termJoinsRow.named (OpenSpec.ofChange Rows.termJoinsSpec).bare.vars=true:=by kernel_rfl
theorem k5:(Rows.termJoinsRow.stops == [])=true:=by kernel_rfl
theorem k6:(Tryz.prog.stops == [])=true:=by kernel_rfl
theorem k7:(Rows.termJoinsRow.knobs == [])=true:=by kernel_rfl
theorem k8:(Tryz.prog.stopKnobs == [])=true:=by kernel_rfl
theorem k9:(Rows.termJoinsRow.inPlace == Tryz.prog.inPlace 10)=true:=by kernel_rfl
theorem k10:(Rows.termJoinsRow.unfollowed == Tryz.prog.unfollowed 10)=true:=by kernel_rfl
theorem k11:(Rows.termJoinsRow.recurses == Tryz.prog.recurses 10)=true:=by kernel_rfl
theorem k12:(Rows.termJoinsRow.named == Tryz.prog.varsNamed 10)=true:=by kernel_rfl
theorem k13:(Rows.termJoinsRow.maps == (Tryz.f10.params.toList++(OpenSpec.ofChange Rows.termJoinsSpec).bare.plain.varTypes Tryz.prog).any (Tryz.prog.mapsRec ·))=true:=by kernel_rfl
theorem k14:(Rows.termJoinsRow.ifaces == (Tryz.f10.params.toList++(OpenSpec.ofChange Rows.termJoinsSpec).bare.plain.varTypes Tryz.prog).any (Tryz.prog.ifacesRec ·))=true:=by kernel_rfl
theorem k15:(Rows.termJoinsRow.mapsOut == Tryz.prog.mapsAmong Tryz.f10.resultTypes.toList)=true:=by kernel_rfl
theorem k16:(Rows.termJoinsRow.loops == (Tryz.f10.params.toList++(OpenSpec.ofChange Rows.termJoinsSpec).bare.plain.varTypes Tryz.prog).any (Tryz.prog.loopsFrom ·))=true:=by kernel_rfl
theorem k17:(Rows.termJoinsRow.wideKeys == (Tryz.f10.params.toList++(OpenSpec.ofChange Rows.termJoinsSpec).bare.plain.varTypes Tryz.prog++Tryz.f10.resultTypes.toList).any (Tryz.prog.wideKeysFrom ·))=true:=by kernel_rfl
theorem k18:(OpenSpec.ofChange Rows.termJoinsSpec).bare.vars.all (Tryz.prog.varReadable ·)=true:=by kernel_rfl
theorem k19:Tryz.f10.resultTypes.all (λt=>Tryz.prog.readableRec t&&decide (t<Tryz.prog.types.size))=true:=by kernel_rfl
theorem k20:(Rows.termJoinsRow.ifacesOut == Tryz.f10.resultTypes.toList.any (Tryz.prog.ifacesRec ·))=true:=by kernel_rfl
theorem k21:(Rows.termJoinsRow.loopsOut == Tryz.f10.resultTypes.toList.any (Tryz.prog.loopsFrom ·))=true:=by kernel_rfl
theorem k22:(Rows.termJoinsRow.plainKeys == Tryz.prog.plainKeys)=true:=by kernel_rfl
theorem k23:Rows.termJoinsRow.shortTexts.isNone=true:=by kernel_rfl
theorem k24:Tryz.prog.stopsHeard=true:=by kernel_rfl
theorem k25:Tryz.prog.mayEnter=true:=by kernel_rfl
theorem k26:(Rows.termJoinsRow.lifted == Tryz.prog.liftsFinal)=true:=by kernel_rfl
theorem k27:(Tryz.prog.make == some Rows.termJoinsRow.make)=true:=by kernel_rfl
theorem k28:(Rows.termJoinsRow.kinds == (if Rows.termJoinsRow.domain.isEmpty then [] else Tryz.f10.params.toList.map λt=>match Tryz.prog.underlying t with|some (.int k)=>some k|_=>none))=true:=by kernel_rfl
theorem k29:(Rows.termJoinsRow.pinned == Rows.termJoinsRow.pinnedBy)=true:=by kernel_rfl
theorem k30:(Rows.termJoinsRow.veiled == (Tryz.f10.params.toList++(OpenSpec.ofChange Rows.termJoinsSpec).bare.plain.varTypes Tryz.prog++Tryz.f10.resultTypes.toList).any (Tryz.prog.veiledRec ·))=true:=by kernel_rfl
theorem k31:Rows.termJoinsRow.veiledFits Tryz.prog Tryz.f10.params.toList (Tryz.f10.params.toList++(OpenSpec.ofChange Rows.termJoinsSpec).bare.plain.varTypes Tryz.prog++Tryz.f10.resultTypes.toList)=true:=by kernel_rfl
theorem facts:joinedFacts Tryz.prog 10 Tryz.f10 (OpenSpec.ofChange Rows.termJoinsSpec).bare Rows.termJoinsRow=true:=by
 unfold joinedFacts;simp only[Bool.and_eq_true];exact⟨⟨⟨⟨⟨⟨⟨⟨⟨⟨⟨⟨⟨⟨⟨⟨⟨⟨⟨⟨⟨⟨⟨⟨⟨⟨⟨⟨⟨⟨⟨k0,k1⟩,k2⟩,k3⟩,k4⟩,k5⟩,k6⟩,k7⟩,k8⟩,k9⟩,k10⟩,k11⟩,k12⟩,k13⟩,k14⟩,k15⟩,k16⟩,k17⟩,k18⟩,k19⟩,k20⟩,k21⟩,k22⟩,k23⟩,k24⟩,k25⟩,k26⟩,k27⟩,k28⟩,k29⟩,k30⟩,k31⟩
end
section
open Go Go.ChangeShapes Go.WideShapes Go.ChangeAt Go.RowKit Go.LE
open Go.ChangeMaps (open_string shut_string)
set_option maxRecDepth 10000
theorem Zd(H:Type)(enc:TypeId×Value->H)(W:World)(base:Nat)(args:Array Value)(ds gs:List (DataW H))(before:List MemPlace)
  (hval:∀ (j:Nat) t v,Tryz.f10.params[j]?=some t->args[j]?=some v->Value.okWide Tryz.prog W .any base t v)
  (hW:DataW.Whole enc Tryz.prog Tryz.f10.params.toList Rows.termJoinsSpec.vars false W args.toList ds gs before) (hL:laidMetH Tryz.prog Rows.termJoinsRow.laid W) (hS:W.ShapedOpen Tryz.prog) :
  Calls Tryz.prog 10 args W λe W' => ∃ v,e=.returned v/\Rows.termJoinsSpec.post enc Tryz.prog Tryz.f10 false true false false W args v W' := by
 have hW' := hW;obtain⟨p,q,hA0,hV,rfl,hfz,hnd⟩:=hW;have hA:DataW.TrodAll enc Tryz.prog W 0 (λ_=>true) true Tryz.f10.params.toList args.toList ds p:=hA0;rw[Tryz.params10]at hA hval;obtain⟨v0,vs0,d0,ds0,p0,q0,hargs,rfl,rfl,h0,r0⟩:=trodAll_cons hA
 obtain⟨v1,vs1,d1,ds1,p1,q1,rfl,rfl,rfl,h1,r1⟩:=trodAll_cons r0;obtain⟨v2,vs2,d2,ds2,p2,q2,rfl,rfl,rfl,h2,r2⟩:=trodAll_cons r1;obtain⟨rfl,rfl,rfl⟩:=trodAll_nil r2;obtain rfl:args=#[v0,v1,v2]:=by cases args;simp_all
 obtain⟨rfl,rfl⟩:=trodVars_none hV;obtain⟨s,rfl,rfl,rfl,ha⟩:=open_string Tryz.underlying9 (hval 0 9 v0 rfl rfl) h0;obtain⟨t,rfl,rfl,rfl,hb⟩:=open_string Tryz.underlying9 (hval 1 9 v1 rfl rfl) h1;obtain⟨k,rfl⟩:=okWide_int Tryz.underlying5 (hval 2 5 v2 rfl rfl);have hk2:0<=k/\k<256:=by
  have:=hval 2 5 (.int .u8 k) rfl rfl;simp[Value.okWide,Tryz.underlying5,Cell.okWide,Cell.ok,IntKind.has,IntKind.min,IntKind.max,IntKind.signed,IntKind.bits]at this;omega
 unfold maxLen at ha hb;have hL' : laidMet Tryz.prog Rows.termJoinsRow.laid W:=hL;have g1:=Xy (Lib.laidMet.reads hL' (.tail _ (.tail _ (.head _))));have g2:=UX (Lib.laidMet.reads hL' (.tail _ (.tail _ (.tail _ (.head _)))))
 have g3:=WL (Lib.laidMet.reads hL' (.tail _ (.tail _ (.tail _ (.tail _ (.head _))))));have hT:rG W (Out []):=⟨⟨VS hS,g3⟩,g2,g1⟩;refine (VE s t k hk2.1 hk2.2 W (by omega) (by omega) hT).mono λe W' ⟨he,hkp⟩=>?_
 subst he;exact⟨_,rfl,aaa amL amU amC (by kernel_rfl) (tb:=4) rfl Tryz.underlying4 rfl hW' rfl rfl rfl hkp⟩
noncomputable def yy(os:Os):World:=World.laidAll Tryz.prog os Rows.termJoinsRow.laid
def aez:Array Value:=#[.string .empty,.string .empty,.int .u8 0]
theorem Z9(os:Os):laidMet Tryz.prog Rows.termJoinsRow.laid ((yy os).forCall (λ_ _=>0) ⟨#[],aez,[]⟩).memory:=
 laidMet_laidAll _ (by kernel_rfl) (by kernel_rfl)
theorem reads(os:Os){H:Type}(enc:TypeId×Value->H):∃ places,DataW.whole enc Tryz.prog ((yy os).forCall (λ_ _=>0) ⟨#[],aez,[]⟩).memory Tryz.f10.params.toList Rows.termJoinsSpec.vars false aez.toList 8=some ([.lit (.string []),.lit (.string []),.lit (.int .u8 0)],[],places):=
 ⟨[],by kernel_rfl⟩
set_option maxRecDepth 100000 in
theorem lifted(os:Os)(started:os.Started)(H:Type)(enc:TypeId×Value->H)(F:Stop.Interp) :
  ReturnsInHanded {} Tryz.checked os 10 .any ((OpenSpec.ofChange Rows.termJoinsSpec).preRow enc Tryz.prog Tryz.f10 Rows.termJoinsRow.domain false Rows.termJoinsRow.laid) (((OpenSpec.ofChange Rows.termJoinsSpec).at F).post enc Tryz.prog Tryz.f10 false true false false):=by
 obtain⟨places,hx⟩:=reads os enc;refine returnsInHanded_of_row (C:=Tryz.checked) (s:=OpenSpec.ofChange Rows.termJoinsSpec) aoj started (by kernel_rfl) Tryz.func10
  (witness_row_at (enc:=enc) (C:=Tryz.checked) false (yy os) aez (World.laidAll_os _ _ _) (by kernel_rfl) (by kernel_rfl) (by kernel_rfl)
   (OpenSpec.preRow_of_cond 8 hx (by kernel_rfl) (λk hk=>by cases hk) (by kernel_rfl) (Z9 os))) ?_
 intro W base args ds gs before hval hW _ hcond _ hL hS _;exact Zd H enc W base args ds gs before hval hW hL hS
theorem said:Rows.TermJoinsSaid:=
 OpenClaim.holds_of_cond 10 Tryz.f10 rfl rfl rfl rfl rfl rfl rfl ⟨rfl,rfl,rfl,rfl,rfl⟩ rfl rfl rfl rfl rfl (by kernel_rfl) Tryz.func10 facts
  (of_decide_eq_true (by kernel_rfl)) (by unfold Func.isWrapper;first|(rw[if_pos (by decide +kernel)];kernel_rfl)|(rw[if_neg (by decide +kernel)];exact⟨rfl,rfl⟩))
  (λos started H enc _ F=>by rw[OpenClaim.pre_eq_preRow];exact lifted os started H enc F)
theorem plain(f:FuncId)(fn:Func)(hf:Tryz.pinned.checked.prog.funcNamed "loupe/loupelaw14.TermJoins"=some f)(hfn:Tryz.pinned.checked.prog.funcs[f]?=some fn) :
  true=Tryz.pinned.checked.prog.looks []/\∀ (j:Nat) t,fn.params[j]?=some t->Tryz.pinned.checked.prog.wantsStandIn t=false:=by
 obtain rfl:f=10:=Option.some.inj ((show Tryz.prog.funcNamed "loupe/loupelaw14.TermJoins"=some 10 by kernel_rfl).symm.trans hf) |>.symm;obtain rfl:fn=Tryz.f10:=(Option.some.inj (Tryz.func10.symm.trans hfn)).symm;refine⟨by kernel_rfl,λj t ht=>?_⟩;rw[Tryz.params10]at ht
 rcases (by simpa using Array.mem_of_getElem? ht:t=9\/t=9\/t=5) with rfl|rfl|rfl
 ·exact (show Tryz.prog.wantsStandIn 9=false by kernel_rfl)
 ·exact (show Tryz.prog.wantsStandIn 9=false by kernel_rfl)
 ·exact (show Tryz.prog.wantsStandIn 5=false by kernel_rfl)
theorem proved:Rows.TermJoinsCardSaid:=
 Claim7.holds_tied_plain_at .later [] _ _ _ _ said (λ_ h=>by cases h) (by kernel_rfl) (λ_ h=>by cases h) termJoins_row_tie rfl ⟨rfl,rfl⟩ (by kernel_rfl) rfl plain (by kernel_rfl)
end
end Go.Proofs.YtnemkecffmdlnaaGreatDoor.termJoins
