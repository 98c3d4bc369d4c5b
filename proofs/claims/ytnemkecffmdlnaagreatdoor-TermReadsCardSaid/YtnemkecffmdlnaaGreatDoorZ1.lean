/-
 Part 1 of the proof (packed).
-/
import Derived.WalkKit
import Derived.WalkLawsBesides
import Derived.WalkSpells
import Derived.Deep.AppendSrc
import Derived.Deep.Upon
import Derived.Laws.BytesString
import Derived.Orders
import Derived.Deep.LoopGhost
set_option linter.unusedSimpArgs false
set_option linter.unusedVariables false
set_option linter.defProp false
set_option maxHeartbeats 16000000
namespace Go
def Ia{p:Prop}(h:False):p:=h.elim
def aC{p q:Prop}(h:p)(t:p->q:=by intro h;simpa using h):q:=t h
def bt{p q:Prop}(h:p)(t:p->q:=by intro h;simp at h;omega):q:=t h
abbrev ao:=ByteArray
abbrev aX:=List Value
abbrev aD:=List Nat
abbrev aY:=Nat->Prop
abbrev dj:=Option Addr
abbrev ar:=World
abbrev a6:=TypeId
abbrev aM:=Value
abbrev bR:=Program
abbrev hE:=Array Value
abbrev dF:=Nat->Value
abbrev lK:=Nat->List Nat
abbrev dr:=FuncId
def ab:=@if_neg.{1}
def al:=@if_pos.{1}
def dU:=@ByteArray.size_append
def ec:=@List.length_append.{0}
def kC:=@List.getElem?_eq_some_iff.{0}
def gq:=@Int.natCast_zero
def mI:=@List.getD_eq_getElem?_getD.{0}
def fc:=@List.map_cons.{0,0}
def ef:=@Nat.zero_le
def eo:=@Nat.le_refl
def l7:=@Int.eq_ofNat_of_zero_le
def hq:=@List.mem_append.{0}
def gG:=@List.mem_cons.{0}
def kR:=@Int.toNat_natCast
def l8:=@List.mem_singleton.{0}
def ph:=@Option.map_eq_some_iff.{0,0}
def mJ:=@List.append_assoc.{0}
def l9:=@List.length_cons.{0}
def tQ:=@Array.getD_eq_getD_getElem?.{0}
def lL:=@List.length_map.{0,0}
def oa:=@decide_eq_true_eq
def jc:=@List.map_nil.{0,0}
def ob:=@Bool.and_eq_true
def ng:=@Except.ok.injEq.{0,0}
def sh:=@List.mem_append_right.{0}
def ll:=@Prod.mk.injEq.{0,0}
def uS:=@List.getElem?_eq_getElem.{0}
def pY:=@Bool.eq_false_iff
def si:=@List.mem_of_getElem?.{0}
def sX:=@List.length_singleton.{0}
def qY:=@of_decide_eq_false
def qo:=@Option.some.injEq.{0}
def uT:=@decide_eq_false_iff_not
def nJ:=@decide_eq_true
def lM:=@Nat.zero_add
def fZ:=@congrArg.{1,1}
def pZ:=@List.cons.injEq.{0}
def uU:=@Nat.le_of_ble_eq_true
def Ae:=@BitVec.getLsbD_extractLsb'
def qZ:=@Option.some.inj.{0}
def sj:=@List.mem_flatMap.{0,0}
def tR:=@of_decide_eq_true
def Dv:=@List.getElem?_append_right.{0}
def xn:=@List.mem_append_left.{0}
def BL:=@List.getElem?_append_left.{0}
def tS:=@List.not_mem_nil.{0}
def sY:=@List.map_append.{0,0}
def uV:=@decide_eq_decide
def qp:=@List.mem_map.{0,0}
def xo:=@Bool.false_eq_true
def Dw:=@List.drop_eq_getElem_cons.{0}
def sk:=@List.sum_cons.{0}
def Dx:=@Option.isSome_iff_exists.{0}
def uW:=@List.length_nil.{0}
def Dy:=@Option.bind_eq_some_iff.{0,0}
def wa:=@Bool.or_eq_true
def wb:=@Nat.not_lt_zero
def yG:=@List.getElem?_map.{0,0}
def sl:=@List.sum_nil.{0}
def Fx:=@List.getElem_append_left.{0}
def yH:=@Option.getD_some.{0}
def tT:=@Nat.add_zero
def Ib:=@Array.getElem?_eq_getElem.{0}
def yI:=@List.append_nil.{0}
def yJ:=@decide_eq_false
def K2:=@List.eq_nil_of_length_eq_zero.{0}
def rG:=@Nat.not_le
def yK:=@List.mem_range
def Ic:=@BitVec.eq_of_getLsbD_eq
def K3:=@Nat.testBit_two_pow_mul_add
def BM:=@Option.bind_some.{0,0}
def Fy:=@List.replicate_succ.{0}
def K4:=@List.getElem_append_right.{0}
def xp:=@Nat.le_trans
def Dz:=@Nat.lt_succ_self
def Ie:=@List.mem_cons_of_mem.{0}
def Fz:=@Function.comp_def.{1,1,1}
def DA:=@List.nodup_cons.{0}
def K5:=@List.drop_of_length_le.{0}
def OL:=@Array.getElem?_append_left.{0}
def FA:=@List.all_eq_true.{0}
def FB:=@List.suffix_refl.{0}
def FC:=@List.length_tail.{0}
def Ig:=@List.getElem?_take.{0}
def Ih:=@List.zip_cons_cons.{0,0}
def Ii:=@List.zip_nil_right.{0,0}
def Ij:=@Nat.add_sub_cancel
def Zv:=@Array.all_eq_true_iff_forall_mem.{0}
def Te:=@List.take_succ_eq_append_getElem.{0}
def FD:=@Option.map_some.{0,0}
def Ik:=@Nat.zero_lt_of_lt
def Tf:=@Array.getElem?_setIfInBounds_ne.{0}
def Tg:=@Nat.and_two_pow_sub_one_eq_mod
def K6:=@List.map_take.{0,0}
def OM:=@List.getElem?_cons_zero.{0}
def K7:=@List.map_congr_left.{0,0}
def K8:=@List.replicate_zero.{0}
def DB:=@ByteArray.ext
def K9:=@Nat.mod_eq_of_lt
def Il:=@List.length_take.{0}
def Im:=@Except.error.inj.{0,0}
def ON:=@Array.getElem?_eq_none.{0}
def OO:=@ByteArray.size_extract
def La:=@Nat.lt_of_lt_of_le
def Lb:=@List.getElem?_drop.{0}
def DC:=@List.map_map.{0,0,0}
def uX:=@or_false
def FE:=@Bool.true_and
def Th:=@Int.fdiv_eq_ediv_of_nonneg
def Ti:=@Array.mapM_eq_mapM_toList.{0,0,0}
def wc:=@if_false.{1}
def we:=@and_true
def Lc:=@List.flatMap_nil.{0,0}
def OP:=@Int.toNat_of_nonneg
def OQ:=@List.flatMap_append.{0,0}
def BN:=@cond_false.{1}
def FF:=@Nat.sub_self
def Tj:=@List.map_drop.{0,0}
def Zw:=@List.set_eq_take_append_cons_drop.{0}
def OR:=@BitVec.getLsbD_not
def OS:=@BitVec.getLsbD_one
def OT:=@List.flatMap_cons.{0,0}
def OU:=@Bool.not_eq_true'
def yL:=@true_and
def Ld:=@Int.mul_nonneg
def Tk:=@Array.getElem?_toList.{0}
def Tl:=@List.singleton_append.{0}
def Tm:=@ByteArray.data_append
def Zx:=@Array.eq_empty_of_size_eq_zero.{0}
def wg:=@if_true.{1}
def OV:=@List.getElem_map.{0,0}
def OW:=@Nat.lt_of_not_le
def OX:=@List.cons_append.{0}
def OY:=@Nat.and_le_right
def OZ:=@List.drop_length.{0}
def Tn:=@Nat.mul_le_mul_right
def To:=@List.getElem?_of_mem.{0}
def Le:=@Nat.add_assoc
def Tp:=@List.getElem?_range
def Zy:=@List.drop_length_add_append.{0}
def Tq:=@Array.length_toList.{0}
def O0:=@List.nil_append.{0}
def O1:=@List.mem_filter.{0}
def O2:=@List.take_left'.{0}
def O3:=@Bool.decide_and
def O4:=@Int.natCast_add
def Zz:=@Array.getElem?_eq_some_iff.{0}
def ZA:=@BitVec.getLsbD_ushiftRight
def Tr:=@Int.natCast_nonneg
def Ts:=@BitVec.toNat_ofNat
def Lf:=@Nat.lt_or_ge
def Tt:=@decide_eq_true_iff
def O5:=@List.mapM_cons.{0,0,0}
def O6:=@Bool.false_and
def O7:=@Bool.decide_or
def ZB:=@Classical.byContradiction
def Io:=@Array.ext'.{0}
def Tu:=@List.nodup_append.{0}
def Tv:=@BitVec.getLsbD_or
def ZC:=@BitVec.getLsbD_shiftLeft
def DD:=@false_or
def ZD:=@List.getElem?_cons_succ.{0}
def Lg:=@Int.le_refl
def ZE:=@Nat.add_sub_cancel_left
def DE:=@eq_false
def ZF:=@List.length_eq_zero_iff.{0}
def Tw:=@Option.getD_none.{0}
def Tx:=@List.ext_getElem.{0}
def Ty:=@List.any_eq_true.{0}
def Tz:=@List.take_length.{0}
def TA:=@List.prefix_refl.{0}
def ZG:=@List.take_of_length_le.{0}
def ZH:=@List.getElem_cons_zero.{0}
def ZI:=@List.reverse_singleton.{0}
def ZJ:=@Nat.lt_of_succ_lt_succ
def TB:=@Bool.eq_iff_iff
def TC:=@List.of_mem_zip.{0,0}
def ZK:=@Array.mem_of_getElem?.{0}
def ZL:=@List.getElem?_toArray.{0}
def O8:=@Int.add_zero
def ZM:=@Bool.and_eq_false_iff
def TD:=@Nat.testBit_and
def ZN:=@List.getElem?_eq_none.{0}
def TE:=@List.take_left.{0}
def DF:=@eq_true
def TF:=@List.cons.inj.{0}
def TG:=@List.drop_nil.{0}
def TH:=@implies_true.{0}
def TI:=@decide_false
def TJ:=@Int.sub_self
end Go
namespace Go.LE
section
def I{a b:Prop}(wh:a)(wi:b):a/\b:=⟨wh,wi⟩
def aT{a b c:Prop}(wh:a)(wi:b)(yM:c):a/\b/\c:=⟨wh,wi,yM⟩
def b3{a b c d:Prop}(wh:a)(wi:b)(yM:c)(BO:d):a/\b/\c/\d:=⟨wh,wi,yM,BO⟩
def de{a b c d e:Prop}(wh:a)(wi:b)(yM:c)(BO:d)(FG:e):a/\b/\c/\d/\e:=⟨wh,wi,yM,BO,FG⟩
def eI{a b c d e f:Prop}(wh:a)(wi:b)(yM:c)(BO:d)(FG:e)(Lh:f):a/\b/\c/\d/\e/\f:=⟨wh,wi,yM,BO,FG,Lh⟩
def hV{a b c d e f g:Prop}(wh:a)(wi:b)(yM:c)(BO:d)(FG:e)(Lh:f)(TK:g):a/\b/\c/\d/\e/\f/\g:=⟨wh,wi,yM,BO,FG,Lh,TK⟩
def ch{a b c d e f g h:Prop}(wh:a)(wi:b)(yM:c)(BO:d)(FG:e)(Lh:f)(TK:g)(ajK:h):a/\b/\c/\d/\e/\f/\g/\h:=⟨wh,wi,yM,BO,FG,Lh,TK,ajK⟩
def U{p:Prop}(h:p:=by omega):p:=h
def bq{p:Prop}(h:p:=by simp):p:=h
def aq{p:Prop}(h:p:=by decide):p:=h
open Go.RowKit
inductive ag where
 |v (x:aM)
 |own (k off:Nat)
 |ak (k:Nat)
 |agg (l:List ag)
 |iK (l:List ag)
 |jL (t:a6) (x:ag)
 |part (k i:Nat)
 |fn (f:Fn) (first cap:List ag)
def base:Value->Option Addr
 |.pointer (some a)=>some a
 |.slice (some a) _ _=>some a
 |_=>none
def p0:Option Addr->Nat->Value
 |some a,o=>.pointer (some ⟨a.block,a.off+o,none⟩)
 |none,_=>.nilIface
def au(u:aM):Value:=if u.oneCell' then u else .nilIface
def O9(u:aM):(au u).oneCell'=true:=by
 unfold au;split
 ·assumption
 ·rfl
theorem qq{u:aM}(h:u.oneCell'=true):au u=u:=by simp[au,h]
def ZO{u:aM}(h:u.oneCell'=true):u.cells=#[u]:=by cases u<;>first|rfl|trivial
def Pa:Value->Nat->Value
 |.iface _ (.agg cs),i=>cs.getD i .nilIface
 |_,_=>.nilIface
mutual
def den(E:dF):ag->Value
 |.v x=>x
 |.own k o=>p0 (base (E k)) o
 |.ak k=>au (E k)
 |.agg l=>.agg (ba E l).toArray
 |.iK l=>.tuple (ba E l).toArray
 |.jL t x=>.iface t (den E x)
 |.part k i=>au (Pa (E k) i)
 |.fn f a c=>.func f (ba E a).toArray (ba E c).toArray
def ba(E:dF):List ag->List Value
 |[]=>[]
 |x::r=>den E x::ba E r
end
mutual
def ag.keys:ag->List Nat
 |.v _=>[]
 |.own k _=>[k]
 |.ak k=>[k]
 |.agg l=>cP l
 |.iK l=>cP l
 |.jL _ x=>x.keys
 |.part k _=>[k]
 |.fn _ a c=>cP a++cP c
def cP:List ag->List Nat
 |[]=>[]
 |x::r=>x.keys++cP r
end
mutual
theorem Li{E cK:Nat->Value}:∀x:ag,(∀k∈x.keys,E k=cK k)->den E x=den cK x
 |.v _,_=>rfl
 |.own k o,h=>by simp only[den];rw[h k (by simp[ag.keys])]
 |.ak k,h=>by simp only[den];rw[h k (by simp[ag.keys])]
 |.agg l,h=>by simp only[den];rw[wj l (by simpa [ag.keys] using h)]
 |.iK l,h=>by simp only[den];rw[wj l (by simpa [ag.keys] using h)]
 |.jL t x,h=>by simp only[den];rw[Li x (by simpa [ag.keys] using h)]
 |.part k i,h=>by simp only[den];rw[h k (by simp[ag.keys])]
 |.fn f a c,h=>by simp only[den];rw[wj a (λk ad=>h k (by simp[ag.keys,ad])),wj c (λk ad=>h k (by simp[ag.keys,ad]))]
theorem wj{E cK:Nat->Value}:∀l:List ag,(∀k∈cP l,E k=cK k)->ba E l=ba cK l
 |[],_=>rfl
 |x::r,h=>by simp only[ba];rw[Li x (λk ad=>h k (by simp[cP,ad])),wj r (λk ad=>h k (by simp[cP,ad]))]
end
theorem q0(E:dF):∀l,ba E l=l.map (den E)
 |[]=>rfl
 |x::r=>by simp[ba,q0 E r]
theorem sn{k:Nat}:∀{l:List ag},k∈cP l ↔ ∃x∈l,k∈x.keys
 |[]=>by simp[cP]
 |x::r=>by simp[cP,sn (l:=r)]
theorem pj(E:dF)(l:List ag):(ba E l).length=l.length:=by simp[q0]
theorem gr(E:dF)(l:aX):ba E (l.map ag.v)=l:=by simp[q0,Fz,den]
theorem so(l:aX):cP (l.map ag.v)=[]:=by
 induction l with
 |nil=>rfl
 |cons x r bb=>trivial
theorem xq(E:dF)(a b:List ag):ba E (a++b)=ba E a++ba E b:=by simp[q0]
theorem uY(a b:List ag):cP (a++b)=cP a++cP b:=by induction a<;>grind [cP]
inductive eJ where
 |is (x:ag)
 |oL (b:Bool) (x:ag)
 |any
def eJ.keys:eJ->List Nat
 |.is x=>x.keys
 |.oL b x=>bif b then x.keys else []
 |.any=>[]
def fits(E:dF):eJ->Value->Prop
 |.is x,u=>u=den E x
 |.oL b x,u=>u=bif b then den E x else undef
 |.any,_=>True
def ajL{E cK:Nat->Value}{f:eJ}{u:aM}(h:∀k∈f.keys,E k=cK k)(aW:fits E f u):fits cK f u:=by
 cases f with
 |is x=>simpa [fits,Li x h] using aW
 |oL b x=>grind [Li,fits,eJ.keys]
 |any=>trivial
inductive bL where
 |cells (T:a6) (vs:List ag)
 |row (T:a6) (size n:Nat) (vs:List ag)
 |mp (ks:List ByteArray) (vs:List ag)
 |obj (d:aX) (R:List Value->Value->List Nat->World->Prop)
def bL.keys:bL->List Nat
 |.cells _ vs=>cP vs
 |.row _ _ _ vs=>cP vs
 |.mp _ vs=>cP vs
 |.obj _ _=>[]
def e3(E:dF)(u:aM)(fp:aD)(w:ar):bL->Prop
 |.cells T vs=>∃b,u=.pointer (some ⟨b,0,none⟩)/\fp=[b]/\w.heap[b]?=some (.cells (ba E vs).toArray T (0,0))
 |.row T size n vs=>w.ownsRow 0 T size u n (ba E vs)/\fp=u.ownBlock.toList
 |.mp ks vs=>∃b es c,u=.map (some b)/\fp=[b]/\w.heap[b]?=some (.map es c)/\es.toList.map (·.key)=ks.map .string/\es.toList.map (·.val)=ba E vs
 |.obj d R=>(R d u fp w/\u.oneCell'=true)/\∀M:World,(∀b∈fp,M.heap[b]?=w.heap[b]?)->R d u fp M
def Pb{E:dF}{u:aM}{fp:aD}{w M:World}{e:bL}(h:e3 E u fp w e)(aN:∀b∈fp,M.heap[b]?=w.heap[b]?):e3 E u fp M e:=by
 cases e with
 |cells T vs=>grind [e3]
 |row T size n vs=>
  obtain⟨⟨D,O⟩,B⟩:=h;refine⟨⟨D,?_⟩,B⟩;rcases O with O|⟨g,cap,cur,au,aK,hh,r⟩
  ·exact .inl O
  ·refine .inr ⟨g,cap,cur,au,aK,?_,r⟩;rw[aN g (by rw[B,au];simp[Value.ownBlock])];exact hh
 |mp ks vs=>grind [e3]
 |obj d R=>grind [e3]
theorem yN{E:dF}{u:aM}{fp:aD}{w:ar}{e:bL}(h:e3 E u fp w e):u.oneCell'=true:=by
 cases e with
 |cells T vs=>obtain⟨b,D,_⟩:=h;rw[D];rfl
 |row T size n vs=>rcases h.1.2 with⟨D,_⟩|⟨g,cap,cur,D,_⟩<;>rw[D]<;>rfl
 |mp ks vs=>obtain⟨b,es,c,D,_⟩:=h;rw[D];rfl
 |obj d R=>exact h.1.2
def TL{E cK:Nat->Value}{u:aM}{fp:aD}{w:ar}{e:bL}(ad:∀k∈e.keys,E k=cK k)(h:e3 E u fp w e):e3 cK u fp w e:=by
 cases e with
 |cells T vs=>grind [wj,e3,bL.keys]
 |row T size n vs=>grind [wj,e3,bL.keys]
 |mp ks vs=>grind [wj,e3,bL.keys]
 |obj d R=>exact h
structure cr (W:ar)(bs:aD)(w:ar):Prop where
 os:w.os=W.os
 tape:w.tape=W.tape
 output:w.output=W.output
 size:W.heap.size<=w.heap.size
 block:∀b,b<W.heap.size->b∉bs->w.heap[b]?=W.heap[b]?
theorem cr.refl(W:ar)(bs:aD):cr W bs W:=⟨rfl,rfl,rfl,eo _,λ_ _ _=>rfl⟩
def cr.below{W w:ar}(h:cr W [] w):Below W.heap.size W w:=⟨h.os,h.tape,h.output,h.size,λk ad=>h.block k ad bq⟩
def cr.ZP{W w:ar}(h:Below W.heap.size W w):cr W [] w:=⟨h.os,h.tape,h.output,h.size,λb Z _=>h.block b Z⟩
theorem cr.mono{W w:ar}{bs bl:List Nat}(h:cr W bs w)(V:∀b∈bs,b∈bl):cr W bl w:=⟨h.os,h.tape,h.output,h.size,λb Z aE=>h.block b Z λhm=>aE (V b hm)⟩
def cr.drop{W w:ar}{bs bl:List Nat}(h:cr W bl w)(V:∀b∈bl,b<W.heap.size->b∈bs):cr W bs w:=⟨h.os,h.tape,h.output,h.size,λb Z aE=>h.block b Z λhm=>aE (V b hm Z)⟩
theorem cr.trans{W w M:World}{bs bl:List Nat}(h:cr W bs w)(bu:cr w bl M)(V:∀b∈bl,b<W.heap.size->b∈bs):cr W bs M :=
 ⟨bu.os.trans h.os,bu.tape.trans h.tape,bu.output.trans h.output,xp h.size bu.size,
  λb Z aE=>(bu.block b (La Z h.size) λhm=>aE (V b hm Z)).trans (h.block b Z aE)⟩
structure an (W:ar)(bs:aD)(E:dF)(F:lK)(h:Nat->Option bL)(w:ar):Prop where
 hc:∀k e,h k=some e->e3 E (E k) (F k) w e
 lt:∀k e,h k=some e->∀b∈F k,b<w.heap.size
 nK:∀k e,h k=some e->∀b∈F k,W.heap.size<=b\/b∈bs
 apart:∀k eS e dn,k≠eS -> h k=some e->h eS=some dn -> ∀b∈F k,b∉F eS
 keeps:cr W bs w
def bF{α:Type}(f:Nat->α)(k:Nat)(x:α):Nat->α:=λj=>if j=k then x else f j
theorem iB{α:Type}(f:Nat->α)(k:Nat)(x:α):bF f k x k=x:=by simp[bF]
theorem hF{α:Type}(f:Nat->α){k j:Nat}(x:α)(h:j≠k):bF f k x j=f j:=by simp[bF,h]
def dJ{α:Type}(f:Nat->α):List (Nat×α)->Nat->α
 |[]=>f
 |(k,x)::r=>dJ (bF f k x) r
end
section
open Go.RowKit
variable{k id i j n m κ:Nat}{o:Oper}{a:Act}{w M :ar}{vs l rest:List ag}{P:bR}{tys:Array TypeId}{ty e:a6}{g d:Bool}{fp idx bs bl :aD}{ops:Array Oper}{c:Code}{dn :bL}{u:aM}{zs:aX}{ρ:Operand->Value}{aE5:Operand}{cK :dF}{bu :Nat->Option bL}{aj:Array Operand}
structure R where
 side:Prop
 val:ag
 bF:List (Nat×Option bL):=[]
 b7:Option (List PanicEntry):=none
 iq:List Nat:=[]
 reads:List Nat:=[]
variable{r:R}
def R.bad:R:={ side:=False,val:=.v undef }
def R.ok(x:ag):R:={ side:=True,val:=x }
def R.eK(p:Prop)(x:ag):R:={ side:=p,val:=x }
def R.new(k:Nat)(e:bL)(x:ag):R:={ side:=True,val:=x,bF:=[(k,some e)] }
def dropKeys(h:Nat->Option bL)(ks:aD):Nat->Option bL:=λk=>if k∈ks then none else h k
def dV(κ:Nat):Nat:=8*κ
def sq(P:bR)(res:Result Next)(K:Value->World->Prop)(Lj:List PanicEntry->World->Prop):Prop:=
 match res with
 |.ok (.value v) M=>K v M
 |.ok .skip M=>K undef M
 |.ok (.enter f args) M=>Calls P f args M fun
   |.returned v,xr=>K v xr
   |.panicked c,xr=>Lj c xr
   |.outgrown,_=>False
 |.halt (.panic v) M=>Lj [{ v,recovered:=false }] M
 |_=>False
theorem sq.mono{P:bR}{res:Result Next}{K ZQ:Value->World->Prop}{Lj ZR:List PanicEntry->World->Prop}(h:sq P res K Lj)
  (ad:∀v w,K v w->ZQ v w) (hp:∀c w,Lj c w->ZR c w):sq P res ZQ ZR:=by
 unfold sq at *;split at h
 ·simp_all
 ·simp_all
 ·exact h.mono λe w he=>by grind
 all_goals simp_all
def ZS{K:Act->World->Prop}{Q:Exit->Act->World->Prop}
  (h:sq P ((execOp a.eval o).run P w) (λv M=>K (a.put o.dst v) M) (λc M=>Q (.panic c) a M)):o.wp P a w K Q:=by
 unfold Oper.wp;unfold sq at h;split at h
 ·rename_i aI;rw[aI];exact h
 ·rename_i aI;rw[aI];exact h
 ·rename_i aI;rw[aI];exact h.mono λe w he=>by grind
 ·rename_i aI;rw[aI];exact h
 trivial
def Good(P:bR)(W:ar)(bs:aD)(κ:Nat)(E:dF)(h:Nat->Option bL)(r:R)(res:Result Next):Prop:=
 sq P res
  (λv M=>r.b7=none/\∃cK fC,(∀k,k/8≠κ->cK k=E k)/\v=den cK r.val/\an W bs cK fC (dJ h r.bF) M)
  (λc M=>r.b7=some c/\∃fC,an W bs E fC (dropKeys h r.iq) M)
section
variable {P:bR}{W:ar}{bs:aD}{κ:Nat}{E:dF}{F:lK}{h:Nat->Option bL}{w:ar}
theorem Good.pure{v:aM}(V:an W bs E F h w)(au:v=den E r.val)(hu:r.bF=[])(hp:r.b7=none):
  Good P W bs κ E h r (.ok (.value v) w):=by
 simp only[Good,sq]
 grind [dJ]
def Good.skip{r:R}(V:an W bs E F h w)(au:r.val=.v undef)(hu:r.bF=[])(hp:r.b7=none) :
  Good P W bs κ E h r (.ok .skip w):=by
 simp only[Good,sq]
 grind [den,dJ]
theorem an.grow(V:an W bs E F h w)(ad:cr w [] M):an W bs E F h M:=by refine⟨λk e he=>Pb (V.hc k e he) λb Z=>ad.block b (V.lt k e he b Z) bq,λk e he b Z=>La (V.lt k e he b Z) ad.size,V.nK,V.apart,?_⟩;exact V.keeps.trans ad bq
def ZT(κ j:Nat)(Y:j<8):(dV κ+j)/8=κ:=by grind [dV]
theorem tU(κ:Nat):dV κ/8=κ:=by unfold dV;omega
def ki(K:aY)(h:Nat->Option bL):Prop:=∀k e,h k=some e->K k/\∀j∈e.keys,K j
def an.Ip{fC:Nat->List Nat}{K:aY}(V:an W bs E F h w)(cj:ki K h)(ks:aD)(N:Nat->Option bL)
  (yO:∀k∈ks,∃e,h k=some e) (ZU:∀j,K j->cK j=E j)
  (db:∀j e,N j=some e->e3 cK (cK j) (fC j) M e/\(∀b∈fC j,(∃k∈ks,b∈F k)\/w.heap.size<=b)/\∀b∈fC j,b<M.heap.size)
  (Lk:∀i j e dn,i≠j->N i=some e->N j=some dn -> ∀b∈fC i,b∉fC j)
  (bo:∀j x,h j=some x->N j=none->fC j=F j)
  (hh:∀j,bu j=match N j with|some e=>some e|none=>if j∈ks then none else h j)
  (hr:cr w (ks.flatMap F) M):an W bs cK fC bu M:=by
 have old:∀j x,bu j=some x->N j=some x\/(j∉ks/\h j=some x/\fC j=F j):=λj x Y=>by grind
 have ap:∀{j x b} {i:Prop},h j=some x->j∉ks->b∈F j->((∃k∈ks,b∈F k)\/w.heap.size<=b)->i:=λ{j x b i} Y rH Z J=>by
  rcases J with⟨k,ad,qs⟩|J
  ·obtain⟨e,he⟩:=yO k ad;exact absurd qs (V.apart j k x e (λdn=>rH (dn▸ad)) Y he b Z)
  ·have:=V.lt j x Y b Z;omega
 have nK:∀{b},(∃k∈ks,b∈F k)->W.heap.size<=b\/b∈bs:=λ⟨k,ad,qs⟩=>by obtain⟨e,he⟩:=yO k ad;exact V.nK k e he _ qs
 refine⟨λj x Y=>?_,λj x Y b Z=>?_,λj x Y b Z=>?_,λi j x y lN hi Y b Z dO => ?_,V.keeps.trans hr λb Z ax=>(nK (sj.1 Z)).resolve_left U⟩
 ·rcases old j x Y with aE|⟨rH,Y,aW⟩
  ·simp_all
  ·rw[aW,ZU j (cj j x Y).1];exact TL (λi hi=>(ZU i ((cj j x Y).2 i hi)).symm) (Pb (V.hc j x Y) λb Z=>hr.block b (V.lt j x Y b Z) λdO=>ap Y rH Z (.inl (sj.1 dO)))
 ·rcases old j x Y with aE|⟨_,Y,aW⟩
  ·grind
  ·exact La (V.lt j x Y b (aW▸Z)) hr.size
 ·rcases old j x Y with aE|⟨_,Y,aW⟩
  ·exact((db j x aE).2.1 b Z).elim nK λIq=>.inl (xp V.keeps.size Iq)
  ·exact V.nK j x Y b (aW▸Z)
 ·rcases old i x hi with aE|⟨ajM,hi,aW⟩<;>rcases old j y Y with hm|⟨rH,Y,aK⟩
  ·grind
  ·exact ap Y rH (aK▸dO) ((db i x aE).2.1 b Z)
  ·exact ap hi ajM (aW▸Z) ((db j y hm).2.1 b dO)
  ·exact V.apart i j x y lN hi Y b (aW▸Z) (aK▸dO)
def an.one{K:aY}(ks:aD){q:Nat}(V:an W bs E F h w)(cj:ki K h)(yO:∀k∈ks,∃e,h k=some e)(z:K q->u=E q/\q∈ks)
  (he:e3 (bF E q u) u fp M dn) (Af:∀b∈fp,(∃k∈ks,b∈F k)\/w.heap.size<=b) (ax:∀b∈fp,b<M.heap.size) (hr:cr w (ks.flatMap F) M) :
  an W bs (bF E q u) (bF F q fp) (bF (λj=>if j∈ks then none else h j) q (some dn)) M:=by
 have N:∀j e,bF (λ_=>(none:Option bL)) q (some dn) j=some e->j=q/\e=dn := λj e Y=>by simp_all [bF]
 refine V.Ip cj ks (bF (λ_=>none) q (some dn)) yO (λj Y=>?_) (λj e Y=>?_) (λi j e dn lN hi Y=>absurd ((N i e hi).1.trans (N j _ Y).1.symm) lN) (λj x aB Y=>?_) (λj=>?_) hr
 all_goals grind [bF]
theorem an.new{e:bL}{K:aY}(V:an W bs E F h w)(cj:ki K h)(ad:¬K k)
  (he:e3 (bF E k u) u fp M e) (Af:∀b∈fp,w.heap.size<=b/\b<M.heap.size) (hr:cr w [] M) :
  an W bs (bF E k u) (bF F k fp) (bF h k (some e)) M:=by
 simpa using V.one [] cj bq (λq=>(ad q).elim) he (λb Z=>.inr (Af b Z).1) (λb Z=>(Af b Z).2) hr
def an.move{e dn:bL}{K:aY}{k q:Nat}(V:an W bs E F h w)(cj:ki K h)(ad:h k=some e)(z:¬K q)
  (he:e3 (bF E q u) u fp M dn) (Af:∀b∈fp,b∈F k\/w.heap.size<=b) (ax:∀b∈fp,b<M.heap.size) (hr:cr w (F k) M) :
  an W bs (bF E q u) (bF F q fp) (bF (bF h k none) q (some dn)) M:=by
 have:=V.one [k] cj (by simp[ad]) (λr=>(z r).elim) he (aC Af) ax (aC hr);simp only[l8]at this;exact this
def an.ZV{e dn:bL}(V:an W bs E F h w)(ad:h k=some e)
  (he:e3 E (E k) fp M dn) (Af:∀b∈fp,b∈F k\/w.heap.size<=b) (ax:∀b∈fp,b<M.heap.size) (hr:cr w (F k) M) :
  an W bs E (bF F k fp) (bF h k (some dn)) M:=by
 have bg:bF E k (E k)=E:=funext λj=>by simp_all [bF]
 have:=V.one (K:=λ_=>True) (u:=E k) [k] (q:=k) (λ_ _ _=>⟨trivial,λ_ _=>trivial⟩) (by simp[ad]) bq (by rwa [bg]) (aC Af) ax (aC hr);rw[bg]at this;have bN:bF (λj=>if j∈[k] then none else h j) k (some dn)=bF h k (some dn):=funext λj=>by simp_all [bF]
 rwa [bN]at this
def an.drop(V:an W bs E F h w)(ak:∀k e,bu k=some e->h k=some e):an W bs E F bu w:=⟨λk e he=>V.hc k e (ak k e he),λk e he=>V.lt k e (ak k e he),λk e he=>V.nK k e (ak k e he),λk eS e dn eL he ma=>V.apart k eS e dn eL (ak k e he) (ak eS dn ma),V.keeps⟩
end
def ct(P:bR)(T:a6):Option (List Value):=(P.info? T).bind λi=>i.zero.map λaE7=>aE7.cells.toList
def ah(P:bR)(T:a6):Option Nat:=(P.info? T).map (·.size)
def ln(P:bR)(T:a6):Option Nat:=(P.info? T).map (·.bytes)
def bM(P:bR)(T:a6):Option Bool:=(P.underlying T).map λ| .struct _=>true|.array _ _=>true|_=>false
def b4(P:bR)(S:a6)(f:Nat):Option (Nat×Nat×Bool):=
 match P.underlying S with
 |some (.struct fs)=>(fs[f]?).bind λd=>(ah P d.type).bind λs=>(bM P d.type).map λa=>(d.offset,s,a)
 |_=>none
section
variable {P:bR}{W:ar}{bs:aD}{κ:Nat}{E:dF}{F:lK}{h:Nat->Option bL}{w:ar}{K:aY}
def uZ{T s:Nat}(aV:ah P T=some s)(w:ar):(sizeOf T).run P w=.ok s w:=by obtain⟨i,hi,rfl⟩:=ph.1 aV;simp[sizeOf,typeInfo,hi]
def Pc{T:a6}{a:Bool}(aV:bM P T=some a)(w:ar):(isAgg T).run P w=.ok a w:=by obtain⟨d,ak,oc⟩:=ph.1 aV;subst oc;simp only[isAgg,Sem.run_bind,run_underlying ak,Result.andThen_ok];cases d<;>simp
def Pd{T:a6}(aV:ct P T=some zs):∃aE7,aE7.cells.toList=zs/\∀w:World,(zeroValue T).run P w=.ok aE7 w:=by
 unfold ct at aV;cases hi:P.info? T with
 |none=>simp_all
 |some i=>
  simp only[hi,BM]at aV;cases bx:i.zero with
  |none=>simp_all
  |some aE7=>simp only[bx,FD,qo]at aV;exact⟨aE7,aV,λw=>by simp[zeroValue,typeInfo,hi,bx]⟩
def partsOf:ag->List ag
 |.agg l=>l
 |.v x=>x.cells.toList.map .v
 |x=>[x]
def ajN(a:dj)(o:Nat):(p0 a o).cells=#[p0 a o]:=by cases a<;>rfl
def TM(E:dF)(x:ag):ba E (partsOf x)=(den E x).cells.toList:=by
 cases x with
 |agg l=>rfl
 |v x=>simp[partsOf,den,gr]
 |own k o=>simp[partsOf,den,ba,ajN]
 |ak k=>simp[partsOf,den,ba,ZO (O9 _)]
 |iK l=>rfl
 |jL t x=>rfl
 |part k i=>simp[partsOf,den,ba,ZO (O9 _)]
 |fn f a c=>rfl
theorem Ll(x:ag):cP (partsOf x)=x.keys:=by cases x<;>simp[partsOf,ag.keys,cP,so]
def jq:ag->Bool
 |.v x=>x.oneCell'
 |.agg _=>false
 |.iK _=>false
 |.own _ _=>true
 |.ak _=>true
 |.jL _ _=>true
 |.part _ _=>true
 |.fn _ _ _=>true
def DG(P:bR)(κ:Nat)(T:a6):R:=
 match ct P T with
 |some zs=>.new (dV κ) (.cells T (zs.map .v)) (.own (dV κ) 0)
 |none=>.bad
def Pe(w:ar)(o:Obj):cr w [] (w.alloc o):=⟨rfl,rfl,rfl,bq,λb Z _=>Below.heap_alloc w o b Z⟩
def ajO(E:dF)(w:ar)(T:a6)(vs:List ag)(cs:hE)(h:ba E vs=cs.toList) :
  e3 E (.pointer (some ⟨w.heap.size,0,none⟩)) [w.heap.size] (w.alloc (.cells cs T)) (.cells T vs):=
 ⟨_,rfl,rfl,by rw[h];simpa using heap_alloc_new w (.cells cs T)⟩
def ZW{T:a6}{cs:hE}(Y:j<8)(V:an W bs E F h w)(cj:ki K h)(ad:∀k,k/8=κ->¬K k)(au:∀k∈cP vs,K k)(ak:ba E vs=cs.toList):
  an W bs (bF E (dV κ+j) (.pointer (some ⟨w.heap.size,0,none⟩))) (bF F (dV κ+j) [w.heap.size]) (bF h (dV κ+j) (some (.cells T vs))) (w.alloc (.cells cs T)):=by
 have p1:=ad _ (ZT κ j Y);refine V.new cj p1 (ajO _ w T vs cs ?_) (λb Z=>?_) (Pe w _)
 ·rw[<- ak];exact wj vs λi e4=>hF _ _ λe=>p1 (e▸au i e4)
 simp_all
def ZX(Y:j<8)(u:aM):∀k,k/8≠κ->bF E (dV κ+j) u k=E k:=by grind [bF,dV]
def ajP{T:a6}(V:an W bs E F h w)(cj:ki K h)(ad:∀k,k/8=κ->¬K k)(aS:(DG P κ T).side) :
  Good P W bs κ E h (DG P κ T) ((do pure (.value (<- Instr.alloc T true (.tuple #[]))):Sem Next).run P w):=by
 cases bx:ct P T with
 |none=>simp_all [DG,R.bad]
 |some zs=>
  obtain⟨aE7,rfl,e5⟩:=Pd bx;simp only[DG,bx];have:(do pure (.value (<- Instr.alloc T true (.tuple #[]))):Sem Next).run P w=.ok (.value (.pointer (some ⟨w.heap.size,0,none⟩))) (w.alloc (.cells aE7.cells T)):=by simp[Instr.alloc,e5,newVar,newRow]
  rw[this];refine⟨rfl,_,_,ZX (j:=0) U _,?_,ZW (j:=0) U V cj ad (by simp[so]) (by simp[gr])⟩;simp[R.new,den,iB,base,p0,dV]
def Ir(κ:Nat)(T:a6):List ag->R
 |[x]=>.new (dV κ) (.cells T (partsOf x)) (.own (dV κ) 0)
 |_=>.bad
def ajQ{T:a6}{x:ag}(V:an W bs E F h w)(cj:ki K h)(ad:∀k,k/8=κ->¬K k)(aB:∀k∈x.keys,K k) :
  Good P W bs κ E h (Ir κ T [x]) ((do pure (.value (<- Instr.box T (den E x))):Sem Next).run P w):=by
 have:(do pure (.value (<- Instr.box T (den E x))):Sem Next).run P w=.ok (.value (.pointer (some ⟨w.heap.size,0,none⟩))) (w.alloc (.cells (den E x).cells T)):=by rfl
 rw[this];refine⟨rfl,_,_,ZX (j:=0) U _,?_,ZW (j:=0) U V cj ad (by grind [Ll]) (TM E x)⟩;simp[Ir,R.new,den,iB,base,p0,dV]
def jd:Option bL->Option (List ag)
 |some (.cells _ vs)=>some vs
 |some (.row _ _ _ vs)=>some vs
 |_=>none
def mb(W:ar)(b:Nat):Nat->Nat->List ag
 |_,0=>[]
 |o,n+1=>.v ((W.cell? ⟨b,o,none⟩).getD undef)::mb W b (o+1) n
def p2(W:ar)(b:Nat):Nat->Nat->Prop
 |_,0=>True
 |o,n+1=>(W.cell? ⟨b,o,none⟩).isSome=true/\p2 W b (o+1) n
def u0(P:bR)(W:ar)(bs:aD)(h:Nat->Option bL)(T:a6):List ag->R
 |[.own k o]=>
  match ah P T,bM P T,jd (h k) with
  |some aw,some true,some vs=>{ side:=o+aw<=vs.length/\0<aw,val:=.agg ((vs.drop o).take aw),reads:=[k] }
  |some _,some false,some vs=>{ side:=o<vs.length,val:=vs.getD o (.v undef),reads:=[k] }
  |_,_,_=>.bad
 |[.v (.pointer (some ⟨b,o,none⟩))]=>
  match ah P T,bM P T with
  |some aw,some true=>{ side:=b∉bs/\p2 W b o aw,val:=.agg (mb W b o aw) }
  |some _,some false=>{ side:=b∉bs/\(W.cell? ⟨b,o,none⟩).isSome=true,val:=.v ((W.cell? ⟨b,o,none⟩).getD undef) }
  |_,_=>.bad
 |_=>.bad
def Pf{T aw:Nat}(V:ah P T=some aw)(aQ:bM P T=some true)(a:Addr)(cs:aX)(aN:cs.length=aw)(h:∀j v,cs[j]?=some v->w.cell? (a.add j)=some v) :
  (loadVar T a).run P w=.ok (.agg cs.toArray) w:=by
 subst aN;simp[loadVar,Pc aQ,uZ V,run_loadCells_list w a cs h]
def Pg{T:a6}(aQ:bM P T=some false)(a:Addr)(v:aM)(h:w.cell? a=some v) :
  (loadVar T a).run P w=.ok v w:=by
 simp[loadVar,Pc aQ,h]
def DH(V:an W bs E F h w)(he:jd (h k)=some vs)(eL:0<vs.length):
  ∃b,base (E k)=some ⟨b,0,none⟩/\∀j,j<vs.length->w.cell? ⟨b,j,none⟩=some ((ba E vs)[j]?.getD undef):=by
 cases ad:h k with
 |none=>simp_all [jd]
 |some e=>
  have xt:=V.hc k e ad;cases e with
  |obj d R=>simp_all [jd]
  |mp ks us=>simp_all [jd]
  |cells T us=>
   simp only[ad,jd,qo]at he;subst he;obtain⟨b,D,_,B⟩:=xt;refine⟨b,by rw[D];rfl,λj Y=>?_⟩;have hW:j<(ba E us).length:=by grind [pj]
   simp[World.cell?,B,uS hW]
  |row T size n us=>
   simp only[ad,jd,qo]at he;subst he;obtain⟨⟨aN,tV⟩,_⟩:=xt;rcases tV with⟨D,O⟩|⟨g,cap,cur,D,_,hh,_,_,Ag,DI⟩
   ·have:(ba E us).length=0:=by simp_all
    grind [pj]
   ·refine⟨g,by rw[D];rfl,λj Y=>?_⟩;have hW:j<(ba E us).length:=by grind [pj]
    have ajR:cur[j]?=(ba E us)[j]?:=by grind
    simp[World.cell?,hh,ajR,uS hW]
def Ph:∀(n o b:Nat),p2 W b o n->ba E (mb W b o n)=(List.range n).map (λj=>(W.cell? ⟨b,o+j,none⟩).getD undef)/\∀j,j<n->(W.cell? ⟨b,o+j,none⟩).isSome=true
 |0,_,_,_=>⟨rfl,λj Y=>by omega⟩
 |n+1,o,b,h=>by
  obtain⟨D,O⟩:=Ph n (o+1) b h.2;refine⟨?_,λj Y=>?_⟩
  ·simp only[mb,ba,den,D,List.range_succ_eq_map,fc,DC,tT,Fz]
   grind
  ·cases j with
   |zero=>exact h.1
   |succ j=>grind
theorem cr.cell{b o:Nat}(ad:cr W bs w)(Z:b∉bs)(V:(W.cell? ⟨b,o,none⟩).isSome=true):w.cell? ⟨b,o,none⟩=some ((W.cell? ⟨b,o,none⟩).getD undef):=by
 obtain⟨v,au⟩:=Dx.1 V;have ax:=World.block_lt_of_cell? W _ au;have:w.cell? ⟨b,o,none⟩=W.cell? ⟨b,o,none⟩:=World.cell?_of_block (ad.block b ax Z)
 simp_all
theorem Pj(E:dF)(vs:List ag)(o:Nat):den E (vs.getD o (.v undef))=(ba E vs)[o]?.getD undef:=by grind [q0,den]
def ajS{T:a6}{x:ag}(V:an W bs E F h w)(aS:(u0 P W bs h T [x]).side) :
  Good P W bs κ E h (u0 P W bs h T [x]) ((do pure (.value (<- Instr.loadAt T (den E x))):Sem Next).run P w):=by
 revert aS;unfold u0;split
 ·rename_i k o heq;cases heq;split
  ·rename_i aw vs bP mc p3;rintro⟨hlen,kS⟩;obtain⟨b,Z,Lm⟩:=DH V p3 U;have e5:(loadVar T ⟨b,0+o,none⟩).run P w=.ok (.agg (((ba E vs).drop o).take aw).toArray) w:=by
    refine Pf bP mc _ _ (by grind [pj]) λj v Y=>?_
    have BP:j<aw:=by grind
    grind [Addr.add_lit]
   rw[lM]at e5;have:(do pure (.value (<- Instr.loadAt T (den E (.own k o)))):Sem Next).run P w=.ok (.value (.agg (((ba E vs).drop o).take aw).toArray)) w:=by simp only[den,Z,p0,Instr.loadAt,Instr.sureAddr];simp[e5]
   grind [Good.pure,q0,List.map_take,List.map_drop,den]
  ·rename_i aw vs bP mc p3;intro hlen;obtain⟨b,Z,Lm⟩:=DH V p3 (Ik hlen);have e5:=Pg (w:=w) mc ⟨b,0+o,none⟩ ((ba E vs)[o]?.getD undef) (by simp_all);rw[lM]at e5
   have:(do pure (.value (<- Instr.loadAt T (den E (.own k o)))):Sem Next).run P w=.ok (.value ((ba E vs)[o]?.getD undef)) w:=by simp only[den,Z,p0,Instr.loadAt,Instr.sureAddr];simp[e5]
   rw[this];exact Good.pure V (Pj E vs o).symm rfl rfl
  grind [R.bad]
 ·rename_i b o heq;cases heq;split
  ·rename_i aw bP mc;rintro⟨Z,Pk⟩;obtain⟨_,FH⟩:=Ph (E:=E) aw o b Pk;have e5:(loadVar T ⟨b,o,none⟩).run P w=.ok (.agg (ba E (mb W b o aw)).toArray) w:=by
    refine Pf bP mc _ _ ?_ λj v Y=>?_
    ·simp_all
    ·have ak:ba E (mb W b o aw)=(List.range aw).map (λj=>(W.cell? ⟨b,o+j,none⟩).getD undef):=(Ph aw o b Pk).1;rw[ak]at Y;have BP:j<aw:=by grind
     rw[yG,Tp BP]at Y;simp only[FD,qo]at Y;subst Y;rw[Addr.add_lit];exact V.keeps.cell Z (FH j BP)
   have:(do pure (.value (<- Instr.loadAt T (den E (.v (.pointer (some ⟨b,o,none⟩)))))):Sem Next).run P w=.ok (.value (.agg (ba E (mb W b o aw)).toArray)) w:=by simp only[den,Instr.loadAt,Instr.sureAddr];simp[e5]
   grind [Good.pure,den]
  ·rename_i aw bP mc;rintro⟨Z,FH⟩;have e5:=Pg (w:=w) mc ⟨b,o,none⟩ _ (V.keeps.cell Z FH);have:(do pure (.value (<- Instr.loadAt T (den E (.v (.pointer (some ⟨b,o,none⟩)))))):Sem Next).run P w=.ok (.value ((W.cell? ⟨b,o,none⟩).getD undef)) w:=by
    simp only[den,Instr.loadAt,Instr.sureAddr];simp[e5]
   grind [Good.pure,den]
  grind [R.bad]
 grind [R.bad]
end
section
variable {P:bR}{W:ar}{bs:aD}{κ:Nat}{E:dF}{F:lK}{h:Nat->Option bL}{w:ar}{K:aY}
def kT(vs:List ag)(o:Nat)(ps:List ag):List ag:=vs.take o++ps++vs.drop (o+ps.length)
def FI:Option bL->Nat->List ag->Option bL
 |some (.cells T vs),o,ps=>some (.cells T (kT vs o ps))
 |some (.row T s n vs),o,ps=>some (.row T s n (kT vs o ps))
 |e,_,_=>e
def Pl:Option bL->Bool
 |some (.cells _ _)=>true
 |_=>false
def FJ(P:bR)(h:Nat->Option bL)(T:a6):List ag->R
 |[.own k o,x]=>
  match ah P T,jd (h k) with
  |some aw,some vs=>{ side:=(partsOf x).length=aw/\o+aw<=vs.length/\(0<aw\/Pl (h k)=true)/\(partsOf x).all jq=true,val:=.v undef,bF:=[(k,FI (h k) o (partsOf x))],reads:=[k] }
  |_,_=>.bad
 |_=>.bad
def ajT(a:dj)(o:Nat):(p0 a o).oneCell'=true:=by cases a<;>rfl
theorem TN(E:dF):∀{x:ag},jq x=true->(den E x).oneCell'=true
 |.v x,aB=>aB
 |.agg _,aB=>by cases aB
 |.iK _,aB=>by cases aB
 |.own k o,_=>ajT _ _
 |.ak k,_=>O9 _
 |.jL _ _,_=>rfl
 |.part _ _,_=>O9 _
 |.fn _ _ _,_=>rfl
theorem Pm(E:dF)(vs ps:List ag)(o:Nat):ba E (kT vs o ps)=(ba E vs).take o++ba E ps++(ba E vs).drop (o+(ba E ps).length):=by simp[kT,q0,K6,Tj]
theorem ZY(w:ar)(g:Nat)(cs:hE):cr w [g] (w.setRow g cs):=⟨rfl,rfl,rfl,bq,λb _ aE=>setRow_other w g b cs (aC aE)⟩
def ajU{T:a6}{p x:ag}(V:an W bs E F h w)(aS:(FJ P h T [p,x]).side) :
  Good P W bs κ E h (FJ P h T [p,x]) ((do Instr.storeAt T (den E p) (den E x);pure .skip:Sem Next).run P w):=by
 revert aS;unfold FJ;split
 ·rename_i k o sZ heq;cases heq;split
  ·rename_i aw vs bP p3;rintro⟨s0,hlen,kS,xu⟩;have ajV:∀v∈ba E (partsOf x),v.oneCell'=true:=by
    intro v au;rw[q0]at au;obtain⟨y,cG,rfl⟩:=qp.1 au
    grind [TN]
   have me:(den E x).cells.toList=ba E (partsOf x):=(TM E x).symm;have Ag:(den E x).cells.size=aw:=by grind [pj]
   cases ad:h k with
   |none=>simp_all [jd]
   |some e=>
    have xt:=V.hc k e ad;have key:∃g cur c8,base (E k)=some ⟨g,0,none⟩/\F k=[g]/\w.heap[g]?=some (.cells cur c8 (0,0))/\o+aw<=cur.size /\
      ∀M:World,M.heap[g]?=some (.cells (cur.toList.take o++ba E (partsOf x)++cur.toList.drop (o+aw)).toArray c8 (0,0))->∃dn,FI (h k) o (partsOf x)=some dn/\e3 E (E k) [g] M dn:=by
     cases e with
     |obj d R=>simp_all [jd]
     |mp ks us=>simp_all [jd]
     |cells c8 us=>
      simp only[ad,jd,qo]at p3;subst p3;obtain⟨b,D,O,B⟩:=xt;refine⟨b,_,_,by rw[D];rfl,O,B,by grind [pj],λM Ah=>⟨.cells c8 (kT us o (partsOf x)),by rw[ad];rfl,⟨b,D,rfl,?_⟩⟩⟩
      grind [Pm]
     |row c8 size n us=>
      simp only[ad,jd,qo]at p3;subst p3;obtain⟨⟨aN,tV⟩,aW⟩:=xt;have kS:0<aw:=kS.resolve_right (by grind [Pl]);rcases tV with⟨D,O⟩|⟨g,cap,cur,D,Ai,hh,tW,u1,aDK,DI⟩
      ·have:(ba E us).length=0:=by simp_all
       grind [pj]
      ·have p4:us.length=n*size:=by rw[<- aN,pj]
       have aDL:n*size<=cap*size:=Tn _ tW;refine⟨g,cur,_,by rw[D];rfl,by rw[aW,D];rfl,hh,U,λM Ah=>⟨.row c8 size n (kT us o (partsOf x)),by rw[ad];rfl,⟨⟨?_,.inr ⟨g,cap,_,D,Ai,Ah,tW,u1,?_,?_⟩⟩,by rw[D];rfl⟩⟩⟩
       ·grind [Pm]
       ·grind
       ·rw[Pm,<- DI];simp only[pj,s0];apply List.ext_getElem?
        grind
    obtain⟨g,cur,c8,Z,bo,hh,hle,Ln⟩:=key;obtain⟨dn,ma,lp⟩:=Ln _ (setRow_heap w g cur _ c8 _ hh);have hX:=run_storeCells_at P g o c8 (ba E (partsOf x)) 0 cur w hh (by grind) ajV
    have:(do Instr.storeAt T (den E (.own k o)) (den E x);pure .skip:Sem Next).run P w=.ok .skip (w.setRow g (cur.toList.take o++ba E (partsOf x)++cur.toList.drop (o+aw)).toArray):=by simp only[den,Z,p0,Instr.storeAt,Instr.sureAddr,lM];simp only[tT,pj,s0]at hX;simp[storeVar,Ag,uZ bP,me,hX]
    rw[this];rw[ad]at ma;simp only[Good,sq,dJ,ma];refine⟨trivial,E,_,λ_ _=>rfl,rfl,V.ZV ad lp (λb Z=>by simp_all) (λb Z=>?_) ?_⟩
    all_goals grind [size_setRow,ZY]
  grind [R.bad]
 grind [R.bad]
end
section
variable {P:bR}{W:ar}{bs:aD}{κ:Nat}{E:dF}{F:lK}{h:Nat->Option bL}{w:ar}{K:aY}
theorem gH{s:Sem Value}(V:an W bs E F h w)(hu:r.bF=[])(hp:r.b7=none)(e5:s.run P w=.ok (den E r.val) w):
  Good P W bs κ E h r ((do pure (.value (<- s)):Sem Next).run P w):=by
 have:(do pure (.value (<- s)):Sem Next).run P w=.ok (.value (den E r.val)) w:=by simp[e5]
 grind [Good.pure]
def BQ(P:bR)(h:Nat->Option bL)(S:a6)(f:Nat):List ag->R
 |[.own k o]=>match b4 P S f,jd (h k) with
  |some (off,aw,_),some vs=>{ side:=0<aw/\o<vs.length,val:=.own k (o+off),reads:=[k] }
  |_,_=>.bad
 |[.v (.pointer (some ⟨b,o,none⟩))]=>match b4 P S f with
  |some (off,aw,_)=>.eK (0<aw) (.v (.pointer (some ⟨b,o+off,none⟩)))
  |none=>.bad
 |_=>.bad
def TO{S f off aw:Nat}{je:Bool}(aV:b4 P S f=some (off,aw,je)):∃(fs:Array Field) (d:Field),P.underlying S=some (.struct fs)/\fs[f]?=some d/\ah P d.type=some aw/\bM P d.type=some je/\d.offset=off:=by
 unfold b4 at aV;split at aV
 ·rename_i fs hu;obtain⟨d,ak,aV⟩:=Dy.1 aV;obtain⟨s,V,aV⟩:=Dy.1 aV;obtain⟨a,aQ,aV⟩:=ph.1 aV
  simp_all
 ·cases aV
def ZZ{S f off aw:Nat}{je:Bool}(aV:b4 P S f=some (off,aw,je))(kS:0<aw)(b o:Nat)(w:ar) :
  (Instr.fieldAt S (.pointer (some ⟨b,o,none⟩)) f).run P w=.ok (.pointer (some ⟨b,o+off,none⟩)) w:=by
 obtain⟨fs,d,hu,ak,kD,gI,H⟩:=TO aV;subst H;have eL:aw≠0:=U;have ajW:(⟨b,o,none⟩:Addr).add d.offset=⟨b,o+d.offset,none⟩:=by unfold Addr.add;simp
 simp[Instr.fieldAt,run_underlying hu,ak,Instr.sureAddr,fieldPlace,uZ kD,eL,ajW]
def ajX{S f:Nat}{x:ag}(V:an W bs E F h w)(aS:(BQ P h S f [x]).side) :
  Good P W bs κ E h (BQ P h S f [x]) ((do pure (.value (<- Instr.fieldAt S (den E x) f)):Sem Next).run P w):=by
 revert aS;unfold BQ;split
 ·rename_i k o heq;cases heq;split
  ·rename_i off aw je vs aV p3;rintro⟨kS,ax⟩;obtain⟨b,Z,_⟩:=DH V p3 (Ik ax);refine gH V rfl rfl ?_;simp only[den,Z,p0,lM];exact ZZ aV kS b o w
  grind [R.bad]
 ·rename_i b o heq;cases heq;split
  ·rename_i off aw je aV;intro kS;refine gH V rfl rfl ?_;simp only[den];exact ZZ aV kS b o w
  grind [R.bad]
 grind [R.bad]
def rI(je:Bool)(off aw:Nat)(ps:List ag):R:=
 match je with
 |true=>.eK (off+aw<=ps.length) (.agg ((ps.drop off).take aw))
 |false=>.eK (off<ps.length) (ps.getD off (.v undef))
def FK(P:bR)(S:a6)(f:Nat):List ag->R
 |[.agg l]=>match b4 P S f with
  |some (off,aw,je)=>rI je off aw l
  |none=>.bad
 |[.v (.agg cs)]=>match b4 P S f with
  |some (off,aw,je)=>rI je off aw (cs.toList.map .v)
  |none=>.bad
 |_=>.bad
theorem TP{T aw:Nat}{je:Bool}(kD:ah P T=some aw)(gI:bM P T=some je)(l:List ag)(off:Nat)(w:ar)(E:dF)(aS:(rI je off aw l).side) :
  (part T (ba E l).toArray off).run P w=.ok (den E (rI je off aw l).val) w:=by
 cases je with
 |true=>
  simp only[rI,R.eK]at aS ⊢;simp only[part,Sem.run_bind,Pc gI,Result.andThen_ok,wg,uZ kD,Sem.run_pure,den]
  grind [q0,List.map_take,List.map_drop]
 |false=>
  simp only[rI,R.eK]at aS ⊢;have aN:off<(ba E l).length:=by grind [pj]
  rw[Pj];simp[part,Pc gI,uS aN]
theorem FL(je:Bool)(off aw:Nat)(l:List ag):(rI je off aw l).bF=[]/\(rI je off aw l).b7=none:=by cases je<;>exact⟨rfl,rfl⟩
def ajY{S f:Nat}{x:ag}(V:an W bs E F h w)(aS:(FK P S f [x]).side) :
  Good P W bs κ E h (FK P S f [x]) ((do pure (.value (<- Instr.field S (den E x) f)):Sem Next).run P w):=by
 revert aS;unfold FK;split
 ·rename_i l heq;cases heq;split
  ·rename_i off aw je aV;intro aS;obtain⟨fs,d,hu,ak,kD,gI,H⟩:=TO aV;refine gH V (FL _ _ _ _).1 (FL _ _ _ _).2 ?_;simp only[Instr.field,Sem.run_bind,run_underlying hu,Result.andThen_ok,ak,asAgg,den,Sem.run_pure,H]
   grind [TP]
  grind [R.bad]
 ·rename_i cs heq;cases heq;split
  ·rename_i off aw je aV;intro aS;obtain⟨fs,d,hu,ak,kD,gI,H⟩:=TO aV;refine gH V (FL _ _ _ _).1 (FL _ _ _ _).2 ?_;have aI:=TP kD gI (cs.toList.map .v) off w E aS;rw[gr]at aI;simp only[Instr.field,Sem.run_bind,run_underlying hu,Result.andThen_ok,ak,asAgg,den,Sem.run_pure,H];trivial
  grind [R.bad]
 grind [R.bad]
def xv(i:Nat):List ag->R
 |[.iK l]=>.eK (i<l.length) (l.getD i (.v undef))
 |[.v (.tuple vs)]=>.eK (i<vs.size) (.v (vs.getD i undef))
 |_=>.bad
def ajZ{x:ag}(V:an W bs E F h w)(aS:(xv i [x]).side):
  Good P W bs κ E h (xv i [x]) ((do pure (.value (<- Instr.extract (den E x) i)):Sem Next).run P w):=by
 revert aS;unfold xv;split
 ·rename_i l heq;cases heq;intro aS;refine gH V rfl rfl ?_;have aN:i<(ba E l).length:=by rw[pj];exact aS
  simp only[R.eK];rw[Pj];simp[Instr.extract,den,uS aN]
 ·rename_i vs heq;cases heq;intro aS;refine gH V rfl rfl ?_;have aN:i<vs.size:=aS;simp[Instr.extract,den,aN,R.eK]
 grind [R.bad]
def ia(op:BinOp)(k:IntKind)(a b:Int):Int:=
 let x:=BitVec.ofInt k.bits a
 let y:=BitVec.ofInt k.bits b
 k.wrap ((match op with|.and=>x &&& y|.or=>x ||| y|.xor=>x ^^^ y|_=>x &&& ~~~y).toNat:Int)
def Aj(op:BinOp)(k:IntKind)(a b:Int):Prop×Value:=
 match op with
 |.add=>(True,.int k (k.wrap (a+b)))
 |.sub=>(True,.int k (k.wrap (a-b)))
 |.mul=>(True,.int k (k.wrap (a*b)))
 |.quo=>(b≠0,.int k (k.wrap (a.tdiv b)))
 |.rem=>(b≠0,.int k (a.tmod b))
 |.and=>(True,.int k (ia .and k a b))
 |.or=>(True,.int k (ia .or k a b))
 |.xor=>(True,.int k (ia .xor k a b))
 |.andNot=>(True,.int k (ia .andNot k a b))
 |.eql=>(True,.bool (decide (a=b)))
 |.neq=>(True,.bool (!decide (a=b)))
 |.lss=>(True,.bool (decide (a<b)))
 |.leq=>(True,.bool (decide (a<=b)))
 |.gtr=>(True,.bool (decide (b<a)))
 |.geq=>(True,.bool (decide (b<=a)))
 |.shl=>(False,undef)
 |.shr=>(False,undef)
def DJ(op:BinOp)(k:IntKind)(a b:Int):Prop×Value:=
 match op with
 |.shl=>(0<=b,.int k (k.wrap (a*2^(min b.toNat k.bits))))
 |_=>(0<=b,.int k (a.fdiv (2^(min b.toNat k.bits))))
def Lo(op:BinOp)(a b:ao):Prop×Value:=
 match op with
 |.add=>(a.size+b.size<=9223372036854775807,.string (a++b))
 |.eql=>(True,.bool (decide (a=b)))
 |.neq=>(True,.bool (!decide (a=b)))
 |.lss=>(True,.bool (Op.bytesLess a.toList b.toList))
 |.leq=>(True,.bool (Op.bytesLess a.toList b.toList||decide (a=b)))
 |.gtr=>(True,.bool (!(Op.bytesLess a.toList b.toList||decide (a=b))))
 |.geq=>(True,.bool (!Op.bytesLess a.toList b.toList))
 |_=>(False,undef)
structure rJ (P:bR)(T:a6) where
 f:List Value->List Value->Option Bool
 ok:∀xs ys b (w:ar),f xs ys=some b->(eqGuard .eql T (.tmp 0) (.tmp 0) (.agg xs.toArray) (.agg ys.toArray)).run P w=.ok () w/\(Op.equal T (.agg xs.toArray) (.agg ys.toArray)).run P w=.ok b w
def Ak:ag->Option (List Value)
 |.v (.agg cs)=>some cs.toList
 |.agg l=>l.mapM λ| .v x=>some x|_=>none
 |_=>none
def gS(P:bR)(eqs:(T:a6)->Option (rJ P T))(op:BinOp)(T:a6):List ag->R
 |[.v (.int k a),.v (.int eS b)]=>
  match op with
  |.shl=>.eK (DJ .shl k a b).1 (.v (DJ .shl k a b).2)
  |.shr=>.eK (DJ .shr k a b).1 (.v (DJ .shr k a b).2)
  |op=>.eK (k=eS/\(Aj op k a b).1) (.v (Aj op k a b).2)
 |[.v (.string a),.v (.string b)]=>.eK (Lo op a b).1 (.v (Lo op a b).2)
 |[.v (.bool a),.v (.bool b)]=>
  match op with
  |.eql=>.eK (P.underlying T=some .bool) (.v (.bool (a==b)))
  |.neq=>.eK (P.underlying T=some .bool) (.v (.bool (!(a==b))))
  |_=>.bad
 |[x,y]=>
  match op,Ak x,Ak y,eqs T with
  |.eql,some xs,some ys,some e=>.eK ((e.f xs ys).isSome=true) (.v (.bool ((e.f xs ys).getD false)))
  |.neq,some xs,some ys,some e=>.eK ((e.f xs ys).isSome=true) (.v (.bool (!(e.f xs ys).getD false)))
  |_,_,_,_=>.bad
 |_=>.bad
def Z0(a b:ao):(a.toList==b.toList)=decide (a=b):=by
 rw[TB];simp only[beq_iff_eq,oa];constructor
 ·intro hh;have:∀x:ByteArray,x.toList=x.data.toList:=λx=>by exact ByteArray.toList_eq x
  rw[this,this]at hh;cases a;simp_all
 simp_all
def aj0(op:BinOp)(T:a6)(k:IntKind)(a b:Int)(w:ar)(D:op≠.shl)(O:op≠.shr)(aS:(Aj op k a b).1) :
  (binOp op T (.int k a) (.int k b)).run P w=.ok (Aj op k a b).2 w:=by
 cases op<;>first
  |exact absurd rfl D
  |exact absurd rfl O
  |(simp[binOp,Aj,Op.intArith];done)
  |(simp[binOp,Aj,Op.intBits,ia];done)
  |(simp only[Aj]at aS;simp[binOp,Aj,Op.intDiv,aS];done)
  |(simp only[binOp,Aj,Op.intCmp,ne_eq,not_true_eq_false,wc];rfl)
def TQ(op:BinOp)(T:a6)(x y:Operand)(k:IntKind)(a:Int)(b:aM)(w:ar):(eqGuard op T x y (.int k a) b).run P w=.ok () w:=by unfold eqGuard;simp
theorem Pn(op:BinOp)(T:a6)(x y:Operand)(a:ao)(b:aM)(w:ar):(eqGuard op T x y (.string a) b).run P w=.ok () w:=by unfold eqGuard;simp
theorem Lp(op:BinOp)(T:a6)(x y:Operand)(a:Bool)(b:aM)(w:ar):(eqGuard op T x y (.bool a) b).run P w=.ok () w:=by unfold eqGuard;simp
theorem aj1(op:BinOp)(T:a6)(a b:ao)(w:ar)(aS:(Lo op a b).1) :
  (binOp op T (.string a) (.string b)).run P w=.ok (Lo op a b).2 w:=by
 have he:=Z0 a b;cases op<;>first
  |(simp[binOp,Lo,Op.stringOp,he];done)
  |exact(id aS:False).elim
  |exact run_string_add_sum _ a b aS
def Z1(op:BinOp)(T:a6)(x y sZ FM:Operand)(a b:aM)(w:ar)(h:(eqGuard .eql T x y a b).run P w=.ok () w)(aQ:∃cs,a=.agg cs):(eqGuard op T sZ FM a b).run P w=.ok () w:=by obtain⟨cs,rfl⟩:=aQ;cases b<;>cases op<;>first|(simp[eqGuard];done)|trivial
theorem Lq(E:dF){x:ag}{xs:aX}(aB:Ak x=some xs):den E x=.agg xs.toArray:=by
 unfold Ak at aB;split at aB
 ·simp only[qo]at aB;subst aB;simp[den]
 ·rename_i l;simp only[den]
  congr 2
  induction l generalizing xs with
  |nil=>grind [ba]
  |cons y r bb=>
   rw[O5]at aB;obtain⟨a,aQ,aB⟩:=Dy.1 aB;obtain⟨kU,Z2,aB⟩:=Dy.1 aB
   grind [ba,den]
 ·cases aB
def aj2{eqs:(T:a6)->Option (rJ P T)}{op:BinOp}{T:a6}{hY j3:Operand}{x y:ag}(V:an W bs E F h w)(aS:(gS P eqs op T [x,y]).side) :
  Good P W bs κ E h (gS P eqs op T [x,y]) ((do pure (.value (<- (do eqGuard op T hY j3 (den E x) (den E y);binOp op T (den E x) (den E y)))):Sem Next).run P w):=by
 revert aS;unfold gS;split
 ·rename_i k a eS b heq;cases heq;split
  ·intro aS;refine gH V rfl rfl ?_;have A:¬b<0:=by simp_all [R.eK,DJ]
   simp only[R.eK,den,Sem.run_bind,TQ,Pn,Lp,Result.andThen_ok];simp[binOp,Op.shift,A,DJ]
  ·intro aS;refine gH V rfl rfl ?_;have A:¬b<0:=by simp_all [R.eK,DJ]
   simp only[R.eK,den,Sem.run_bind,TQ,Pn,Lp,Result.andThen_ok];simp[binOp,Op.shift,A,DJ]
  ·rename_i D O;rintro⟨rfl,aS⟩;refine gH V rfl rfl ?_;simp only[R.eK,den,Sem.run_bind,TQ,Pn,Lp,Result.andThen_ok];exact aj0 op T k a b w (by trivial) (by trivial) aS
 ·rename_i a b heq;cases heq;intro aS
  grind [gH,Sem.run_bind,Pn,Result.andThen_ok,aj1,R.eK,den]
 ·rename_i a b heq;cases heq;split
  ·intro aS
   grind [gH,Sem.run_bind,Lp,Result.andThen_ok,run_eql_bool,R.eK,den]
  ·intro aS
   grind [gH,Sem.run_bind,Lp,Result.andThen_ok,run_neq_bool,R.eK,den]
  grind [R.bad]
 ·rename_i sZ FM _ _ _ heq;cases heq;split
  ·rename_i xs ys e aB cG he;intro aS;obtain⟨b,Z⟩:=Dx.1 aS;obtain⟨D,O⟩:=e.ok xs ys b w Z;refine gH V rfl rfl ?_;rw[Lq E aB,Lq E cG];simp only[R.eK,den,Sem.run_bind,Z1 .eql T _ _ hY j3 _ _ w D ⟨_,rfl⟩,Result.andThen_ok,binOp,O,Z];rfl
  ·rename_i xs ys e aB cG he;intro aS;obtain⟨b,Z⟩:=Dx.1 aS;obtain⟨D,O⟩:=e.ok xs ys b w Z;refine gH V rfl rfl ?_;rw[Lq E aB,Lq E cG];simp only[R.eK,den,Sem.run_bind,Z1 .neq T _ _ hY j3 _ _ w D ⟨_,rfl⟩,Result.andThen_ok,binOp,O,Z];rfl
  grind [R.bad]
 simp_all
def DK(op:UnOp):List ag->R
 |[.v (.bool b)]=>match op with|.not=>.ok (.v (.bool (!b)))|_=>.bad
 |[.v (.int k n)]=>match op with
  |.neg=>.ok (.v (.int k (k.wrap (0-n))))
  |.xor=>.ok (.v (.int k (ia .xor k (if k.signed then -1 else k.max) n)))
  |_=>.bad
 |_=>.bad
def aj3{op:UnOp}{x:ag}(V:an W bs E F h w)(aS:(DK op [x]).side) :
  Good P W bs κ E h (DK op [x]) ((do pure (.value (<- Op.unary op (den E x))):Sem Next).run P w):=by
 revert aS;unfold DK;split
 ·rename_i b heq;cases heq;split
  ·intro _;exact gH V rfl rfl (by rfl)
  grind [R.bad]
 ·rename_i k n heq;cases heq;split
  ·intro _;exact gH V rfl rfl (by rfl)
  ·intro _;exact gH V rfl rfl (by rfl)
  grind [R.bad]
 grind [R.bad]
end
section
variable {P:bR}{W:ar}{bs:aD}{κ:Nat}{E:dF}{F:lK}{h:Nat->Option bL}{w:ar}{K:aY}
def DL(P:bR)(src dst:a6):List ag->R
 |[.v (.int _ n)]=>match P.underlying src,P.underlying dst with
  |some _,some (.int k)=>.ok (.v (.int k (k.wrap n)))
  |_,_=>.bad
 |[.v (.string s)]=>match P.underlying src,P.underlying dst with
  |some .string,some .string=>.ok (.v (.string s))
  |_,_=>.bad
 |_=>.bad
def aj4{src dst:a6}{x:ag}(V:an W bs E F h w)(aS:(DL P src dst [x]).side) :
  Good P W bs κ E h (DL P src dst [x]) ((do pure (.value (<- convert src dst (den E x))):Sem Next).run P w):=by
 revert aS;unfold DL;split
 ·rename_i k n heq;cases heq;split
  ·rename_i d eS D O;intro _;refine gH V rfl rfl ?_;simp[R.ok,den,convert,run_underlying D,run_underlying O,Conv.intToInt]
  grind [R.bad]
 ·rename_i s heq;cases heq;split
  ·rename_i D O;intro _;refine gH V rfl rfl ?_;simp[R.ok,den,convert,run_underlying D,run_underlying O]
  grind [R.bad]
 grind [R.bad]
def Is:Bool->Bool->List ag->Option (Option Int×Option Int)
 |true,true,[.v (.int _ a),.v (.int _ b)]=>some (some a,some b)
 |true,false,[.v (.int _ a)]=>some (some a,none)
 |false,true,[.v (.int _ b)]=>some (none,some b)
 |false,false,[]=>some (none,none)
 |_,_,_=>none
def Po(P:bR)(T:a6)(s:ao)(a b:Int):R:=.eK (P.underlying T=some .string/\0<=a/\a<=b/\b<=s.size) (.v (.string (s.extract a.toNat b.toNat)))
def TR(P:bR)(T:a6)(ay:dj)(n c:Nat)(a b:Int):R:=
 match P.underlying T with
 |some (.slice e)=>match ah P e with
  |some aw=>.eK (0<=a/\a<=b/\b<=c) (.v (.slice (if c=a.toNat then ay else ay.map (·.add (a.toNat*aw))) (b.toNat-a.toNat) (c-a.toNat)))
  |none=>.bad
 |_=>.bad
def tX(P:bR)(T:a6)(lo hi mx:Bool):List ag->R
 |.v (.string s)::rest=>match mx,Is lo hi rest with
  |false,some (a,b)=>Po P T s (a.getD 0) (b.getD s.size)
  |_,_=>.bad
 |.v (.slice ay n c)::rest=>match mx,Is lo hi rest with
  |false,some (a,b)=>TR P T ay n c (a.getD 0) (b.getD n)
  |_,_=>.bad
 |_=>.bad
def Al(l:List ag)(i:Nat)(E:dF):Option Value:=l[i]?.map (den E)
def TS(isSlice:Bool)(len cap:Nat){lo hi:Bool}{rest:List ag}{a b:Option Int}(aQ:Is lo hi rest=some (a,b))(E:dF)
  (A:0<=a.getD 0) (D:a.getD 0<=b.getD len) (O:b.getD len<=cap) (w:ar) :
  (Instr.sliceBounds isSlice len cap (if lo then Al rest 0 E else none) (if hi then Al rest (if lo then 1 else 0) E else none) none).run P w=.ok ((a.getD 0).toNat,(b.getD len).toNat,cap) w:=by
 unfold Is at aQ;split at aQ<;>simp only[qo,ll,reduceCtorEq]at aQ<;>obtain⟨rfl,rfl⟩:=aQ <;>
  simp only[yH,Tw]at A D O ⊢
 ·rename_i k x eS y;obtain⟨y,rfl⟩:=l7 (show 0<=y by omega);have bg:(0<=y/\y<=(cap:Int)):=⟨U,O⟩;have bN:(0<=x/\x<=(y:Int)):=⟨A,D⟩;have Lr:(y:Int)<=cap:=O;simp[Instr.sliceBounds,Al,den,Instr.sliceBound,asIntOf,Lr,bN,Tr]
  try omega
 ·rename_i k x;have bN:(0<=x/\x<=(len:Int)):=⟨A,D⟩;simp[Instr.sliceBounds,Al,den,Instr.sliceBound,asIntOf,bN]
 ·rename_i k y;have bg:(0<=y/\y<=(cap:Int)):=⟨U,O⟩;simp[Instr.sliceBounds,Al,den,Instr.sliceBound,asIntOf,bg]
 rfl
def aj5{T:a6}{lo hi mx:Bool}{x:ag}(V:an W bs E F h w)(aS:(tX P T lo hi mx (x::rest)).side):
  Good P W bs κ E h (tX P T lo hi mx (x::rest)) ((do pure (.value (<- Instr.sliceAt T (den E x) (if lo then Al rest 0 E else none) (if hi then Al rest (if lo then 1 else 0) E else none) none)):Sem Next).run P w):=by
 revert aS;unfold tX;split
 ·rename_i s aj6 heq;simp only[pZ]at heq;obtain⟨rfl,rfl⟩:=heq;split
  ·rename_i a b FN;rintro⟨hu,A,D,O⟩;refine gH V rfl rfl ?_;have Z:=TS (P:=P) false s.size s.size FN E A D O w;simp only[Instr.sliceAt,Sem.run_bind,run_underlying hu,Result.andThen_ok,den,Instr.slice,Option.isSome_none,xo,wc,Z,Po,R.eK,Sem.run_pure]
  grind [R.bad]
 ·rename_i ay n c aj6 heq;simp only[pZ]at heq;obtain⟨rfl,rfl⟩:=heq;split
  ·rename_i a b FN;unfold TR;split
   ·rename_i e hu;split
    ·rename_i aw bP;rintro⟨A,D,O⟩;refine gH V rfl rfl ?_;have Z:=TS (P:=P) true n c FN E A D O w;simp only[Instr.sliceAt,Sem.run_bind,run_underlying hu,Result.andThen_ok,den,Instr.slice,Z,uZ bP,R.eK,Sem.run_pure]
    grind [R.bad]
   grind [R.bad]
  grind [R.bad]
 grind [R.bad]
def af(s:ao)(i:Int):Int:=((s.data[i.toNat]?.getD 0).toNat:Int)
def Am(P:bR)(T:a6):List ag->R
 |[.v (.string s),.v (.int _ i)]=>.eK (P.underlying T=some .string/\0<=i/\i<s.size) (.v (.int .u8 (af s i)))
 |[.agg l,.v (.int _ i)]=>match P.underlying T with
  |some (.array n e)=>match ah P e,bM P e with
   |some aw,some je=>{ rI je (i.toNat*aw) aw l with side:=0<=i/\i<n/\(rI je (i.toNat*aw) aw l).side }
   |_,_=>.bad
  |_=>.bad
 |[.v (.agg cs),.v (.int _ i)]=>match P.underlying T with
  |some (.array n e)=>match ah P e,bM P e with
   |some aw,some je=>{ rI je (i.toNat*aw) aw (cs.toList.map .v) with side:=0<=i/\i<n/\(rI je (i.toNat*aw) aw (cs.toList.map .v)).side }
   |_,_=>.bad
  |_=>.bad
 |_=>.bad
theorem Z3{T e n aw:Nat}{je:Bool}(hu:P.underlying T=some (.array n e))(bP:ah P e=some aw)(mc:bM P e=some je)(l:List ag)(k:IntKind)(i:Int)(A:0<=i)(D:i<n)
  (hp:(rI je (i.toNat*aw) aw l).side) (w:ar):(Instr.index T (.agg (ba E l).toArray) (.int k i)).run P w=.ok (den E (rI je (i.toNat*aw) aw l).val) w:=by
 have hi:0<=i/\i<(n:Int):=⟨A,D⟩;simp only[Instr.index,asIntOf,Sem.run_bind,Sem.run_pure,Result.andThen_ok,run_underlying hu,al hi,uZ bP]
 grind [TP]
def aj7{T:a6}{x y:ag}(V:an W bs E F h w)(aS:(Am P T [x,y]).side) :
  Good P W bs κ E h (Am P T [x,y]) ((do pure (.value (<- Instr.index T (den E x) (den E y))):Sem Next).run P w):=by
 revert aS;unfold Am;split
 ·rename_i s k i heq;cases heq;rintro⟨hu,A,D⟩;refine gH V rfl rfl ?_;have ax:i.toNat<s.size:=U;have ak:i.toNat<s.data.size:=ax;have aK:s[i.toNat]?=some (s[i.toNat]'ax):=by rw[getElem?_pos]
  have Z:s.data[i.toNat]?=some (s[i.toNat]'ax):=by trivial
  simp only[Instr.index,asIntOf,den,Sem.run_bind,Sem.run_pure,Result.andThen_ok,run_underlying hu,al A,aK,R.eK,af,Z,yH]
 ·rename_i l k i heq;cases heq;split
  ·rename_i n e hu;split
   ·rename_i aw je bP mc;rintro⟨A,D,hp⟩
    grind [gH,FL,Z3,den]
   grind [R.bad]
  grind [R.bad]
 ·rename_i cs k i heq;cases heq;split
  ·rename_i n e hu;split
   ·rename_i aw je bP mc;rintro⟨A,D,hp⟩;refine gH V (FL _ _ _ _).1 (FL _ _ _ _).2 ?_;have:=Z3 (E:=E) hu bP mc (cs.toList.map .v) k i A D hp w
    simp_all [gr,den]
   grind [R.bad]
  grind [R.bad]
 grind [R.bad]
def An(P:bR)(h:Nat->Option bL)(T:a6):List ag->R
 |[.ak k,.v (.int _ i)]=>match P.underlying T,h k with
  |some (.slice e),some (.row _ size n _)=>{ side:=ah P e=some size/\0<=i/\i<n/\0<size,val:=.own k (i.toNat*size),reads:=[k] }
  |_,_=>.bad
 |[.own k o,.v (.int _ i)]=>match P.underlying T,jd (h k) with
  |some (.array n e),some vs=>match ah P e with
   |some aw=>{ side:=0<=i/\i<n/\1<n/\o<vs.length,val:=.own k (o+i.toNat*aw),reads:=[k] }
   |none=>.bad
  |_,_=>.bad
 |[.v (.slice (some ⟨b,o,none⟩) n _),.v (.int _ i)]=>match P.underlying T with
  |some (.slice e)=>match ah P e with
   |some aw=>.eK (0<=i/\i<n) (.v (.pointer (some ⟨b,o+i.toNat*aw,none⟩)))
   |none=>.bad
  |_=>.bad
 |[.v (.pointer (some ⟨b,o,none⟩)),.v (.int _ i)]=>match P.underlying T with
  |some (.array n e)=>match ah P e with
   |some aw=>.eK (0<=i/\i<n/\1<n) (.v (.pointer (some ⟨b,o+i.toNat*aw,none⟩)))
   |none=>.bad
  |_=>.bad
 |_=>.bad
def Ls(b o n:Nat):(⟨b,o,none⟩:Addr).add n=⟨b,o+n,none⟩:=by unfold Addr.add;simp
def aj8{T:a6}{x y:ag}(V:an W bs E F h w)(aS:(An P h T [x,y]).side) :
  Good P W bs κ E h (An P h T [x,y]) ((do pure (.value (<- Instr.indexAt T (den E x) (den E y))):Sem Next).run P w):=by
 revert aS;unfold An;split
 ·rename_i k Pp i heq;cases heq;split
  ·rename_i e c8 size n vs hu ad;rintro⟨bP,A,D,kS⟩;refine gH V rfl rfl ?_;obtain⟨⟨aN,tV⟩,_⟩:=V.hc k _ ad;rcases tV with⟨_,O⟩|⟨g,cap,cur,aZ,_,_,_,_,_,_⟩
   ·omega
   ·have hi:0<=i/\i<(n:Int):=⟨A,D⟩;have Ao:au (E k)=Value.slice (some ⟨g,0,none⟩) n cap:=by rw[aZ];rfl
    simp only[den,Ao];rw[aZ];simp[Instr.indexAt,asIntOf,run_underlying hu,hi,uZ bP,Ls,base,p0]
  grind [R.bad]
 ·rename_i k o Pp i heq;cases heq;split
  ·rename_i n e vs hu p3;split
   ·rename_i aw bP;rintro⟨A,D,aE,ax⟩;obtain⟨b,Z,_⟩:=DH V p3 (Ik ax);refine gH V rfl rfl ?_;have hi:0<=i/\i<(n:Int):=⟨A,D⟩;simp[den,Z,p0,Instr.indexAt,asIntOf,run_underlying hu,Instr.sureAddr,hi,uZ bP,Ls]
   grind [R.bad]
  grind [R.bad]
 ·rename_i b o n c Pp i heq;cases heq;split
  ·rename_i e hu;split
   ·rename_i aw bP;rintro⟨A,D⟩;refine gH V rfl rfl ?_;have hi:0<=i/\i<(n:Int):=⟨A,D⟩;simp[R.eK,den,Instr.indexAt,asIntOf,run_underlying hu,hi,uZ bP,Ls]
   grind [R.bad]
  grind [R.bad]
 ·rename_i b o Pp i heq;cases heq;split
  ·rename_i n e hu;split
   ·rename_i aw bP;rintro⟨A,D,aE⟩;refine gH V rfl rfl ?_;have hi:0<=i/\i<(n:Int):=⟨A,D⟩;simp[R.eK,den,Instr.indexAt,asIntOf,run_underlying hu,Instr.sureAddr,hi,uZ bP,Ls]
   grind [R.bad]
  grind [R.bad]
 grind [R.bad]
end
section
variable {P:bR}{W:ar}{bs:aD}{κ:Nat}{E:dF}{F:lK}{h:Nat->Option bL}{w:ar}{K:aY}
def Ap(P:bR)(T:a6):List ag->R
 |[.v x]=>.eK (P.concrete T=true) (.v (.iface T x))
 |[x]=>match Ak x with
  |some vs=>.eK (P.concrete T=true) (.v (.iface T (.agg vs.toArray)))
  |none=>.eK (P.concrete T=true) (.jL T x)
 |_=>.bad
def aj9{T:a6}{x:ag}(V:an W bs E F h w)(aS:(Ap P T [x]).side) :
  Good P W bs κ E h (Ap P T [x]) ((do pure (.value (<- Instr.makeInterface T (den E x))):Sem Next).run P w):=by
 revert aS;unfold Ap;split
 ·rename_i sZ heq;cases heq;intro aS
  grind [gH,run_makeInterface,R.eK,den]
 ·rename_i sZ _ heq;cases heq;split
  ·rename_i vs p3;intro aS
   grind [gH,Lq,run_makeInterface,R.eK,den]
  ·intro aS
   grind [gH,run_makeInterface,R.eK,den]
 simp_all
def DM(h:Nat->Option bL):List ag->R
 |[.own k o]=>match jd (h k) with
  |some vs=>{ side:=o<vs.length,val:=.own k o,reads:=[k] }
  |none=>.bad
 |[.v (.pointer (some a))]=>.ok (.v (.pointer (some a)))
 |_=>.bad
theorem aka{x:ag}(cm:o.op=.nilCheck aE5)(od:ρ aE5=den E x)(V:an W bs E F h w)(aS:(DM h [x]).side):
  Good P W bs κ E h (DM h [x]) ((execOp ρ o).run P w):=by
 revert aS;unfold DM;split
 ·rename_i k off heq;cases heq;split
  ·rename_i vs p3;intro ax;obtain⟨b,Z,_⟩:=DH V p3 (Ik ax);have:(execOp ρ o).run P w=.ok (.value (den E (.own k off))) w:=by simp[execOp,cm,od,den,Z,p0]
   grind [Good.pure]
  grind [R.bad]
 ·rename_i a heq;cases heq;intro _;have:(execOp ρ o).run P w=.ok (.value (.pointer (some a))) w:=by simp[execOp,cm,od,den]
  grind [Good.pure,R.ok,den]
 grind [R.bad]
def qt(place:Nat->Option (Nat×Nat))(cells:List ag):List (Nat×ag)->Option (List ag)
 |[]=>some cells
 |(i,x)::r=>match place i with
  |some (off,size)=>if(partsOf x).length=size/\off+size<=cells.length then qt place (kT cells off (partsOf x)) r else none
  |none=>none
def akb(vs ps:List ag)(o:Nat)(h:o+ps.length<=vs.length):(kT vs o ps).length=vs.length:=by grind [kT]
def akc(l:aX):∀(cs:hE) (off j:Nat),off+j+l.length<=cs.size ->
  ((l.zipIdx j).foldl (λcs (x:Value×Nat)=>cs.setIfInBounds (off+x.2) x.1) cs)=(cs.toList.take (off+j)++l++cs.toList.drop (off+j+l.length)).toArray:=by
 induction l with
 |nil=>simp
 |cons x r bb=>
  intro cs off j aN;simp only[List.zipIdx_cons,List.foldl_cons,l9]at aN ⊢;rw[bb _ off (j+1) (by simp;omega)];apply Io;simp only[Array.toList_setIfInBounds];have bg:off+(j+1)=off+j+1:=U;rw[bg];have ax:off+j<cs.toList.length:=by simp;omega
  have V:cs.toList.set (off+j) x=cs.toList.take (off+j)++x::cs.toList.drop (off+j+1):=by rw[Zw,al ax]
  have hlen:(cs.toList.take (off+j)).length=off+j:=by grind
  rw[V];have t1:List.take (off+j+1) (cs.toList.take (off+j)++x::cs.toList.drop (off+j+1))=cs.toList.take (off+j)++[x]:=by grind
  have t2:List.drop (off+j+1+r.length) (cs.toList.take (off+j)++x::cs.toList.drop (off+j+1))=cs.toList.drop (off+j+(r.length+1)):=by
   have:=Zy (l₁:=cs.toList.take (off+j)) (l₂:=x::cs.toList.drop (off+j+1)) (1+r.length)
   grind [List.drop_drop]
  simp_all
def Pq{place:Nat->Option (Nat×Nat)}(E:dF):∀{ps:List (Nat×ag)} {cells out:List ag},qt place cells ps=some out ->
  Instr.fill place (ba E cells).toArray (ps.map λp=>(p.1,den E p.2))=some (ba E out).toArray
 |[],cells,out,aW=>by simp[qt]at aW;subst aW;rfl
 |(i,x)::r,cells,out,aW=>by
  unfold qt at aW;split at aW
  ·rename_i off size s0;split at aW
   ·rename_i J;have me:(den E x).cells.toList=ba E (partsOf x):=(TM E x).symm;have Ag:(den E x).cells.size=size:=by grind [pj]
    have bb:=Pq E aW;simp only[fc,Instr.fill,s0];have aDM:((den E x).cells.size≠size||off+(den E x).cells.size > (ba E cells).toArray.size)=false:=by grind [pj]
    rw[ab (by simp_all)];have BR:=akc (den E x).cells.toList (ba E cells).toArray off 0 (by grind);have bx:(Array.foldl (λ(cs:hE) (x:Value×Nat)=>cs.setIfInBounds (off+x.2) x.1) (ba E cells).toArray (den E x).cells.zipIdx) =
      (ba E (kT cells off (partsOf x))).toArray:=by
     grind [Array.toList_zipIdx,Pm]
    simp_all
   ·cases aW
  ·cases aW
def gT(P:bR)(S:a6):Option (List (Nat×Nat)):=
 match P.underlying S with
 |some (.struct fs)=>fs.toList.mapM λd=>(ah P d.type).map λs=>(d.offset,s)
 |_=>none
def s3(P:bR)(T:a6)(idx:aD)(args:List ag):R:=
 match ct P T,gT P T,P.underlying T with
 |some zs,some q1,some (.struct _)=>match qt (λi=>q1[i]?) (zs.map .v) (idx.zip args) with
  |some cells=>.ok (.agg cells)
  |none=>.bad
 |some zs,_,some (.array _ e)=>match ah P e with
  |some aw=>match qt (λi=>some (i*aw,aw)) (zs.map .v) (idx.zip args) with
   |some cells=>.ok (.agg cells)
   |none=>.bad
  |none=>.bad
 |_,_,_=>.bad
def wk(P:bR)(κ:Nat)(T:a6)(len:Nat)(idx:aD)(args:List ag):R:=
 match P.underlying T with
 |some (.slice e)=>match ah P e,ct P e with
  |some aw,some zs=>match qt (λi=>some (i*aw,aw)) ((List.replicate len zs).flatten.map .v) (idx.zip args) with
   |some cells=>{ side:=len*aw<=16777216/\zs.length=aw/\0<aw,val:=.ak (dV κ),bF:=[(dV κ,some (.row e aw len cells))] }
   |none=>.bad
  |_,_=>.bad
 |_=>.bad
def Z4{α β:Type}(f:α->Sem β)(g:α->Option β)(w:ar)(Z5:∀a b,g a=some b->(f a).run P w=.ok b w) :
  ∀{l:List α} {r:List β},l.mapM g=some r->(l.mapM f).run P w=.ok r w
 |[],r,h=>by simp_all
 |a::l,r,h=>by rw[O5]at h;obtain⟨b,Z,h⟩:=Dy.1 h;obtain⟨bs,TT,h⟩:=Dy.1 h;simp at h;subst h;rw[O5];simp[Z5 a b Z,Z4 f g w Z5 TT]
def TU(E:dF)(idx:aD)(args:List ag):((idx.zip args).map λp=>(p.1,den E p.2))=idx.zip (ba E args):=by
 induction idx generalizing args with
 |nil=>rfl
 |cons i r bb=>cases args with
  |nil=>rfl
  |cons a q=>simp[ba,bb]
def akd{T:a6}{args:List ag}(V:an W bs E F h w)(aS:(s3 P T idx args).side):
  Good P W bs κ E h (s3 P T idx args) ((do pure (.value (<- Instr.build T (idx.zip (ba E args)).toArray)):Sem Next).run P w):=by
 revert aS;unfold s3;split
 ·rename_i zs q1 fs bx Pr hu;split
  ·rename_i cells aW;intro _;refine gH V rfl rfl ?_;obtain⟨aE7,rfl,e5⟩:=Pd bx;unfold gT at Pr;simp only[hu]at Pr;have hm:=Z4 (P:=P) (λd:Field=>do pure (d.offset,<- sizeOf d.type)) (λd=>(ah P d.type).map λs=>(d.offset,s)) w (λd b Z=>by
    obtain⟨s,V,rfl⟩:=ph.1 Z
    simp[uZ V]) Pr
   have oe:=Pq E aW;rw[gr,TU]at oe;have rK:(fs.mapM (m:=Sem) λd:Field=>do pure (d.offset,<- sizeOf d.type)).run P w=.ok q1.toArray w:=by simp_all [Ti]
   simp only[Instr.build,Sem.run_bind,e5,Result.andThen_ok,run_underlying hu,rK,R.ok,den]
   simp_all
  grind [R.bad]
 ·rename_i zs _ n e bx hu;split
  ·rename_i aw bP;split
   ·rename_i cells aW;intro _;refine gH V rfl rfl ?_;obtain⟨aE7,rfl,e5⟩:=Pd bx;have oe:=Pq E aW;rw[gr,TU]at oe;simp only[Array.toArray_toList]at oe;simp only[Instr.build,Sem.run_bind,e5,Result.andThen_ok,run_underlying hu,uZ bP,R.ok,den];simp[oe]
   grind [R.bad]
  grind [R.bad]
 grind [R.bad]
def Z6{place:Nat->Option (Nat×Nat)}:∀{ps:List (Nat×ag)} {cells out:List ag},qt place cells ps=some out->out.length=cells.length
 |[],cells,out,aW=>by simp_all [qt]
 |(i,x)::r,cells,out,aW=>by
  unfold qt at aW;split at aW
  ·split at aW
   ·rename_i J;rw[Z6 aW,akb _ _ _ U]
   ·cases aW
  ·cases aW
def TV{place:Nat->Option (Nat×Nat)}{k:Nat}:∀{ps:List (Nat×ag)} {cells out:List ag},qt place cells ps=some out->k∈cP out->k∈cP cells\/k∈cP (ps.map (·.2))
 |[],cells,out,aW,ad=>by grind [qt]
 |(i,x)::r,cells,out,aW,ad=>by
  unfold qt at aW;split at aW
  ·split at aW
   ·rename_i J;rcases TV aW ad with D|D
    ·rw[kT,uY,uY,Ll]at D;have aV:∀n,k∈cP (cells.take n)->k∈cP cells:=λn aE=>by
      obtain⟨y,cG,FO⟩:=sn.1 aE
      grind [sn]
     have ak:∀n,k∈cP (cells.drop n)->k∈cP cells:=λn aE=>by
      obtain⟨y,cG,FO⟩:=sn.1 aE
      grind [sn]
     grind [cP]
    simp_all [cP]
   ·cases aW
  ·cases aW
def Z7(zs:aX)(aw len:Nat)(bx:zs.length=aw)(aE7:hE)(FP:aE7.toList=zs):((Array.range (len*aw)).map (λi=>aE7[i%aE7.size]!)).toList=(List.replicate len zs).flatten:=by
 subst bx FP
 induction len with
 |zero=>simp
 |succ n bb=>
  rw[List.replicate_succ',List.flatten_append,<- bb];simp only[Tq,Array.toList_map,Array.toList_range];rw[Nat.succ_mul,List.range_add,sY]
  congr 1
  simp only[List.flatten_singleton,DC];apply Tx
  ·simp
  ·intro i D O;simp only[OV,List.getElem_range,Function.comp];have hi:i<aE7.size:=by trivial
   grind [Nat.mul_add_mod_self_right,Nat.mod_eq_of_lt]
def ake{T len:Nat}{args:List ag}(V:an W bs E F h w)(cj:ki K h)(ad:∀k,k/8=κ->¬K k)(aB:∀k∈cP args,K k)(aS:(wk P κ T len idx args).side):
  Good P W bs κ E h (wk P κ T len idx args) ((do pure (.value (<- Instr.buildSlice T len (idx.zip (ba E args)).toArray)):Sem Next).run P w):=by
 revert aS;unfold wk;split
 ·rename_i e hu;split
  ·rename_i aw zs bP bx;split
   ·rename_i cells aW;rintro⟨hle,tY,kS⟩;obtain⟨aE7,FP,e5⟩:=Pd bx;have oe:=Pq E aW;rw[gr,TU]at oe;have me:cells.length=len*aw:=by
     rw[Z6 aW];simp[tY]
    have Lt:¬len*aw > 2^24:=U;have hM:(do pure (.value (<- Instr.buildSlice T len (idx.zip (ba E args)).toArray)):Sem Next).run P w =
      .ok (.value (.slice (some ⟨w.heap.size,0,none⟩) len len)) (w.alloc (.cells (ba E cells).toArray e)):=by
     simp only[Instr.buildSlice,Sem.run_bind,run_underlying hu,Result.andThen_ok,uZ bP,ab Lt];by_cases A:len*aw=0
     ·have Z8:len=0:=by
       grind [Nat.mul_eq_zero]
      rw[al A];simp only[Sem.run_bind,Sem.run_pure,Result.andThen_ok];have jr:(Array.range (len*aw)).map (λx=>(#[]:hE)[x%(#[]:hE).size]!)=((List.replicate len zs).flatten).toArray:=by simp_all
      rw[jr,oe];simp[newRow]
     ·rw[ab A];simp only[Sem.run_bind,Sem.run_pure,Result.andThen_ok,e5];have jr:(Array.range (len*aw)).map (λx=>aE7.cells[x%aE7.cells.size]!)=((List.replicate len zs).flatten).toArray:=by
       apply Io;have:=Z7 zs aw len tY aE7.cells FP;trivial
      rw[jr,oe];simp[newRow]
    rw[hM];simp only[Good,sq];have p1:=ad _ (ZT κ 0 U);simp only[tT]at p1;have akf:∀k∈cP cells,K k:=λk hd=>by
     rcases TV aW hd with D|D
     ·grind [so]
     ·refine aB k ?_;obtain⟨y,cG,FO⟩:=sn.1 D;obtain⟨p,hp,rfl⟩:=qp.1 cG;exact sn.2 ⟨p.2,(TC hp).2,FO⟩
    have FQ:len<=16777216:=xp (Nat.le_mul_of_pos_right len kS) hle;refine⟨trivial,bF E (dV κ) (.slice (some ⟨w.heap.size,0,none⟩) len len),bF F (dV κ) [w.heap.size],λk hd=>hF _ _ λe=>hd (by grind [tU]),?_,?_⟩
    ·simp[den,iB,au,Value.oneCell']
    ·refine V.new cj p1 ?_ (λb Z=>?_) (Pe w _)
     ·have ak:ba (bF E (dV κ) (.slice (some ⟨w.heap.size,0,none⟩) len len)) cells=ba E cells:=wj cells λi hi=>hF _ _ λe=>p1 (e▸akf i hi)
      refine⟨⟨by rw[pj,me],.inr ⟨w.heap.size,len,(ba E cells).toArray,rfl,ef _,heap_alloc_new w _,eo _,?_,?_,?_⟩⟩,rfl⟩
      ·unfold maxLen;omega
      all_goals grind [pj]
     simp_all
   grind [R.bad]
  grind [R.bad]
 grind [R.bad]
def FR(P:bR)(κ:Nat)(T:a6):List ag->R
 |[.v (.int _ l),.v (.int _ c)]=>match P.underlying T with
  |some (.slice e)=>match ah P e,ct P e,ln P e with
   |some aw,some zs,some by_=>{ side:=0<=l/\l<=c/\(by_:Int)*c<=281474976710656/\c<=9223372036854775807/\zs.length=aw/\0<aw,val:=.ak (dV κ),bF:=[(dV κ,some (.row e aw l.toNat ((List.replicate l.toNat zs).flatten.map .v)))] }
   |_,_,_=>.bad
  |_=>.bad
 |_=>.bad
def Z9{T:a6}{b:Nat}(bx:ct P T=some zs)(Z:ln P T=some b):∃i aE7,P.info? T=some i/\i.zero=some aE7/\aE7.cells.toList=zs/\i.bytes=b/\ah P T=some i.size:=by
 unfold ct at bx;unfold ln at Z;cases hi:P.info? T with
 |none=>simp_all
 |some i=>simp_all [ah]
def akg{T:a6}{x y:ag}(V:an W bs E F h w)(cj:ki K h)(ad:∀k,k/8=κ->¬K k)(aS:(FR P κ T [x,y]).side) :
  Good P W bs κ E h (FR P κ T [x,y]) ((do pure (.value (<- Instr.makeSlice T (den E x) (den E y))):Sem Next).run P w):=by
 revert aS;unfold FR;split
 ·rename_i aaa l aab c heq;cases heq;split
  ·rename_i e hu;split
   ·rename_i aw zs by_ bP bx Z;rintro⟨A,TW,It,pk,tY,kS⟩;obtain⟨i,aE7,hi,FP,Ps,kj,aac⟩:=Z9 bx Z;have akh:i.size=aw:=by simp_all
    have aI:=run_make (P:=P) w T e i aE7 hu hi FP aaa aab l c A TW (by simp_all) pk;have hM:(do pure (.value (<- Instr.makeSlice T (den E (.v (.int aaa l))) (den E (.v (.int aab c))))):Sem Next).run P w =
      .ok (.value (.slice (some ⟨w.heap.size,0,none⟩) l.toNat c.toNat)) (w.alloc (.cells (madeCells aE7.cells (c.toNat*i.size)) e)):=by
     simp_all [den]
    rw[hM];simp only[Good,sq];have p1:=ad _ (tU κ);refine⟨trivial,bF E (dV κ) (.slice (some ⟨w.heap.size,0,none⟩) l.toNat c.toNat),bF F (dV κ) [w.heap.size],λk hd=>hF _ _ λe=>hd (by grind [tU]),?_,?_⟩
    ·simp[den,iB,au,Value.oneCell']
    ·refine V.new cj p1 ?_ (λb Z=>?_) (Pe w _)
     ·rw[akh];refine⟨⟨by rw[gr];simp[tY],.inr ⟨w.heap.size,c.toNat,madeCells aE7.cells (c.toNat*aw),rfl,ef _,heap_alloc_new w _,U,by unfold maxLen;omega,size_madeCells _ _,?_⟩⟩,rfl⟩;rw[gr];have:=Z7 zs aw c.toNat tY aE7.cells Ps;unfold madeCells;rw[this]
      have me:c.toNat=l.toNat+(c.toNat-l.toNat):=U;have Iu:((List.replicate l.toNat zs).flatten).length=l.toNat*aw:=by simp[tY]
      rw[me,<- List.replicate_append_replicate,List.flatten_append,<- Iu,TE]
     simp_all
   grind [R.bad]
  grind [R.bad]
 grind [R.bad]
def yP(P:bR)(h:Nat->Option bL)(T:a6):List ag->R
 |[.v (.string s)]=>.eK (P.underlying T=some .string) (.v (.int .i64 s.size))
 |[.v (.slice _ n _)]=>.eK (∃e,P.underlying T=some (.slice e)) (.v (.int .i64 n))
 |[.ak k]=>match h k with
  |some (.row _ _ n _)=>{ side:=∃e,P.underlying T=some (.slice e),val:=.v (.int .i64 n),reads:=[k] }
  |_=>.bad
 |_=>.bad
def aki{T:a6}{x:ag}(V:an W bs E F h w)(aV:tys[0]?=some T)(aS:(yP P h T [x]).side):
  Good P W bs κ E h (yP P h T [x]) ((do pure (.value (<- Builtin.len_ tys ty #[den E x])):Sem Next).run P w):=by
 revert aS;unfold yP;split
 ·rename_i s heq;cases heq;intro hu;exact gH V rfl rfl (by simp[Builtin.len_,aV,run_underlying hu,den,R.eK,goInt])
 ·rename_i a n c heq;cases heq;rintro⟨e,hu⟩;exact gH V rfl rfl (by simp[Builtin.len_,aV,run_underlying hu,den,R.eK,goInt])
 ·rename_i k heq;cases heq;split
  ·rename_i c8 size n vs ad;rintro⟨e,hu⟩;obtain⟨⟨aN,tV⟩,_⟩:=V.hc k _ ad;have aZ:∃ay c,E k=.slice ay n c:=by
    grind
   obtain⟨ay,c,aZ⟩:=aZ;refine gH V rfl rfl ?_;simp[Builtin.len_,aV,run_underlying hu,den,aZ,au,Value.oneCell',goInt]
  grind [R.bad]
 grind [R.bad]
def foldI(f:Int->Int->Int):Int->List ag->Option Int
 |a,[]=>some a
 |a,.v (.int .i64 b)::r=>foldI f (f a b) r
 |_,_=>none
def Iv:List ag->R
 |.v (.int .i64 a)::r=>match foldI (λx y=>if y<x then y else x) a r with|some m=>.ok (.v (.int .i64 m))|none=>.bad
 |_=>.bad
def FT:List ag->R
 |.v (.int .i64 a)::r=>match foldI (λx y=>if x<y then y else x) a r with|some m=>.ok (.v (.int .i64 m))|none=>.bad
 |_=>.bad
def aad(E:dF)(w:ar):∀{r:List ag} {a m:Int},foldI (λx y=>if y<x then y else x) a r=some m->((ba E r).foldlM Builtin.min2 (.int .i64 a)).run P w=.ok (.int .i64 m) w
 |[],a,m,aW=>by simp_all [foldI,ba]
 |x::r,a,m,aW=>by
  unfold foldI at aW;split at aW
  ·trivial
  ·rename_i cn b bG heq;simp only[pZ]at heq;obtain⟨rfl,rfl⟩:=heq;simp only[ba,den,List.foldlM_cons,Builtin.min2,Sem.run_bind,Sem.run_pure,Result.andThen_ok];exact aad E w aW
  ·cases aW
def aae(E:dF)(w:ar):∀{r:List ag} {a m:Int},foldI (λx y=>if x<y then y else x) a r=some m->((ba E r).foldlM Builtin.max2 (.int .i64 a)).run P w=.ok (.int .i64 m) w
 |[],a,m,aW=>by simp_all [foldI,ba]
 |x::r,a,m,aW=>by
  unfold foldI at aW;split at aW
  ·trivial
  ·rename_i cn b bG heq;simp only[pZ]at heq;obtain⟨rfl,rfl⟩:=heq;simp only[ba,den,List.foldlM_cons,Builtin.max2,Sem.run_bind,Sem.run_pure,Result.andThen_ok];exact aae E w aW
  ·cases aW
def akj{args:List ag}(V:an W bs E F h w)(aS:(Iv args).side):
  Good P W bs κ E h (Iv args) ((do pure (.value (<- Builtin.min_ tys ty (ba E args).toArray)):Sem Next).run P w):=by
 revert aS;unfold Iv;split
 ·rename_i a r;split
  ·rename_i m hm;intro _;refine gH V rfl rfl ?_;simpa [Builtin.min_,ba,den,R.ok] using aad E w hm
  grind [R.bad]
 grind [R.bad]
def akk{args:List ag}(V:an W bs E F h w)(aS:(FT args).side):
  Good P W bs κ E h (FT args) ((do pure (.value (<- Builtin.max_ tys ty (ba E args).toArray)):Sem Next).run P w):=by
 revert aS;unfold FT;split
 ·rename_i a r;split
  ·rename_i m hm;intro _;refine gH V rfl rfl ?_;simpa [Builtin.max_,ba,den,R.ok] using aae E w hm
  grind [R.bad]
 grind [R.bad]
end
section
variable {P:bR}{W:ar}{bs:aD}{κ:Nat}{E:dF}{F:lK}{h:Nat->Option bL}{w:ar}{K:aY}
def akl(t cx ty e:a6)(i:TypeInfo)(aV:P.underlying t=some (.slice e))(hi:P.info? e=some i)
  (g FU TX:Nat) (cur:hE) (aK:w.heap[g]?=some (.cells cur e (0,0))) (x:aM) (m:Nat) (news:aX) (V:Src P i.size cx x m news w)
  (Lu:FU+m<=TX) (aaf:FU*i.size+news.length<=cur.size) :
  (Builtin.append_ #[t,cx] ty #[.slice (some ⟨g,0,none⟩) FU TX,x]).run P w =
   .ok (.slice (some ⟨g,0,none⟩) (FU+m) TX) (w.setRow g (cur.toList.take (FU*i.size)++news++cur.toList.drop (FU*i.size+news.length)).toArray):=by
 have hX:=run_storeCells_at P g (FU*i.size) e news 0 cur w aK (by trivial) V.one;simp only[tT]at hX;rcases V.kind with⟨dn,ad⟩|ad<;>simp[Builtin.append_,run_underlying aV,run_underlying ad,sizeOf,typeInfo,hi,V.len,Lu,V.cells,Addr.add_lit,hX]
def akm(t cx ty e:a6)(i:TypeInfo)(aE7:aM)(aV:P.underlying t=some (.slice e))(hi:P.info? e=some i)(bx:i.zero=some aE7)
  (Ps:aE7.cells.size=i.size) (v:aM) (n:Nat) (xs:aX) (BS:w.ownsRow 0 e i.size v n xs)
  (x:aM) (m:Nat) (news:aX) (V:Src P i.size cx x m news w)
  (pk:n+m<=maxLen) (Aq:(n+m)*i.bytes<=140737488355328) :
  ∃eT M,(Builtin.append_ #[t,cx] ty #[v,x]).run P w=.ok eT M/\M.ownsRow 0 e i.size eT (n+m) (xs++news)/\cr w v.ownBlock.toList M /\
   (eT.ownBlock=v.ownBlock\/eT.ownBlock=some w.heap.size)/\(∀b∈eT.ownBlock.toList,b<M.heap.size):=by
 have aDN:n+m<=9223372036854775807:=by trivial
 have aN:=V.newsLen;have hlen:(xs++news).length=(n+m)*i.size:=by rw[ec,BS.1,aN,Nat.add_mul]
 have grown:∀(old:Nat),old<n+m ->
   (w.drew.alloc (.cells ((xs++news).toArray++Builtin.zeroCells aE7.cells (grownCap w (n+m) old e-(n+m))) e)).ownsRow 0 e i.size
    (.slice (some ⟨w.heap.size,0,none⟩) (n+m) (grownCap w (n+m) old e)) (n+m) (xs++news) /\
   ∀fr,cr w fr (w.drew.alloc (.cells ((xs++news).toArray++Builtin.zeroCells aE7.cells (grownCap w (n+m) old e-(n+m))) e)):=by
  intro old H;have Iq:=grownCap_ge w (n+m) old e;have u1:grownCap w (n+m) old e<=maxLen:=grownCap_le_maxLen w (n+m) old e pk;refine⟨⟨hlen,.inr ⟨w.heap.size,_,_,rfl,ef _,heap_alloc_new w.drew _,Iq,u1,?_,?_⟩⟩,λfr=>⟨rfl,rfl,rfl,bq,λk ad _=>Below.heap_alloc w.drew _ k ad⟩⟩
  ·simp only[Array.size_append,List.size_toArray,size_zeroCells,Ps,hlen,<- Nat.add_mul]
   simp_all
  grind
 rcases BS.2 with⟨rfl,rfl⟩|⟨g,cap,cur,rfl,akn,aK,tW,u1,Ag,DI⟩
 ·have aB:xs=[]:=K2 (by simp_all);subst aB;by_cases hm:m=0
  ·subst hm;have aE:news=[]:=K2 U;subst aE;exact⟨_,_,run_append_nothing w t cx ty e i aV hi none 0 0 (eo _) x V,BS,cr.refl w _,.inl rfl,λb Z=>by cases Z⟩
  ·have aI:=run_append_grow_src (P:=P) w t cx ty e i aE7 aV hi bx none 0 0 [] (run_firstCells_none w.drew i.size 0 0 0) x m news V U U (growslice_fits U (by trivial));have DN:=grown 0 U;simp only[lM,O0]at DN aI ⊢
   exact⟨_,_,aI,DN.1,DN.2 _,.inr rfl,by simp[Value.ownBlock]⟩
 ·by_cases Lu:n+m<=cap
  ·have aaf:n*i.size+news.length<=cur.size:=by rw[aN,Ag,<- Nat.add_mul];exact Tn _ Lu
   have aI:=akl (P:=P) (w:=w) t cx ty e i aV hi g n cap cur aK x m news V Lu aaf;refine⟨_,_,aI,⟨hlen,.inr ⟨g,cap,_,rfl,akn,setRow_heap w g cur _ e _ aK,Lu,u1,?_,?_⟩⟩,ZY w g _,.inl rfl,?_⟩
   ·grind
   ·grind
   ·simp[Value.ownBlock]
    grind
  ·have holds:∀j u,xs[j]?=some u->w.cell? ((⟨g,0,none⟩:Addr).add j)=some u:=BS.cells (g:=g) rfl;have aI:=run_append_grow_src (P:=P) w t cx ty e i aE7 aV hi bx (some ⟨g,0,none⟩) n cap xs (run_firstCells_some w.drew i.size n _ n cap xs BS.1 (by trivial)) x m news V U U (growslice_fits U Aq)
   have DN:=grown cap U;exact⟨_,_,aI,DN.1,DN.2 _,.inr rfl,by simp[Value.ownBlock]⟩
def tZ(P:bR)(W:ar)(bs:aD)(κ:Nat)(h:Nat->Option bL)(tys:List TypeId):List ag->R
 |[.ak k,.ak j]=>match tys,h k,h j with
  |[T,c8],some (.row e aw n vs),some (.row _ yQ m us)=>match ln P e,ct P e with
   |some by_,some zs=>{ side:=c8=T/\P.underlying T=some (.slice e)/\ah P e=some aw/\zs.length=aw/\0<aw/\yQ=aw/\k≠j/\0<m/\n+m<=maxLen/\(n+m)*by_<=140737488355328/\us.all jq=true,val:=.ak (dV κ),bF:=[(k,none),(dV κ,some (.row e aw (n+m) (vs++us)))],reads:=[k,j] }
   |_,_=>.bad
  |_,_,_=>.bad
 |[.v (.slice none 0 0),.ak j]=>match tys,h j with
  |[T,c8],some (.row _ aw m us)=>match P.underlying T with
   |some (.slice e)=>match ln P e,ct P e with
    |some by_,some zs=>{ side:=c8=T/\ah P e=some aw/\zs.length=aw/\0<aw/\0<m/\m<=maxLen/\m*by_<=140737488355328/\us.all jq=true,val:=.ak (dV κ),bF:=[(dV κ,some (.row e aw m us))],reads:=[j] }
    |_,_=>.bad
   |_=>.bad
  |_,_=>.bad
 |[.ak k,.v (.slice ay m _)]=>match tys,h k with
  |[T,c8],some (.row e aw n vs)=>
   bif m==0 then{ side:=c8=T/\P.underlying T=some (.slice e)/\ah P e=some aw/\m=0,val:=.ak k,reads:=[k] }
   else match ay,ln P e,ct P e with
   |some ⟨b,o,none⟩,some by_,some zs=>{ side:=c8=T/\P.underlying T=some (.slice e)/\ah P e=some aw/\zs.length=aw/\(b∉bs/\p2 W b o (m*aw))/\n+m<=maxLen/\(n+m)*by_<=140737488355328/\(mb W b o (m*aw)).all jq=true,val:=.ak (dV κ),bF:=[(k,none),(dV κ,some (.row e aw (n+m) (vs++mb W b o (m*aw))))],reads:=[k] }
   |_,_,_=>.bad
  |_,_=>.bad
 |[.ak k,.v (.string s)]=>match tys,h k with
  |[T,c8],some (.row e aw n vs)=>match ln P e,ct P e with
   |some by_,some zs=>{ side:=P.underlying c8=some .string/\P.underlying T=some (.slice e)/\ah P e=some aw/\zs.length=aw/\aw=1/\n+s.size<=maxLen/\(n+s.size)*by_<=140737488355328,val:=.ak (dV κ),bF:=[(k,none),(dV κ,some (.row e aw (n+s.size) (vs++(byteCells s).map .v)))],reads:=[k] }
   |_,_=>.bad
  |_,_=>.bad
 |_=>.bad
def aag{j m aw:Nat}{T:a6}{us:List ag}(V:an W bs E F h w)(Y:h j=some (.row T aw m us))(hm:0<m)(xu:us.all jq=true) :
  ∃(g c:Nat),au (E j)=.slice (some ⟨g,0,none⟩) m c/\(ba E us).length=m*aw/\(∀i u,(ba E us)[i]?=some u->w.cell? ((⟨g,0,none⟩:Addr).add i)=some u)/\∀u∈ba E us,u.oneCell'=true:=by
 obtain⟨⟨aN,tV⟩,_⟩:=V.hc j _ Y;rcases tV with⟨_,O⟩|⟨g,cap,cur,aZ,_,hh,_,_,Ag,DI⟩
 ·omega
 ·refine⟨g,cap,by rw[aZ];rfl,aN,λi u hi=>?_,λu hu=>?_⟩
  ·rw[Ls,lM];have ax:=(kC.1 hi).1;rw[<- DI,Ig,al U]at hi;simp[World.cell?,hh];simpa using hi
  ·rw[q0]at hu;obtain⟨y,cG,rfl⟩:=qp.1 hu
   grind [TN]
def aah:∀(n o b:Nat),cP (mb W b o n)=[]
 |0,_,_=>rfl
 |n+1,o,b=>by simp[mb,cP,ag.keys,aah n (o+1) b]
def Pt{e c8 Pu ty:a6}{by_ aw:Nat}{x v:aM}{vs us:List ag}(ks:aD)(V:an W bs E F h w)(cj:ki K h)(p1:¬K (dV κ))(yO:∀k∈ks,∃e,h k=some e)
  (BS:w.ownsRow 0 e aw v n (ba E vs)) (bo:∀b,b∈v.ownBlock.toList->b∈ks.flatMap F) (z:∀q∈cP (vs++us),K q) (hu:P.underlying c8=some (.slice e)) (bP:ah P e=some aw) (tY:zs.length=aw) (Z:ln P e=some by_) (bx:ct P e=some zs)
  (Pv:∀i,P.info? e=some i->i.size=aw->Src P aw Pu x m (ba E us) w) (pk:n+m<=maxLen) (Aq:(n+m)*by_<=140737488355328)
  (au:r.val=.ak (dV κ)) (hp:r.b7=none) (Lv:dJ h r.bF=bF (λj=>if j∈ks then none else h j) (dV κ) (some (.row e aw (n+m) (vs++us)))) :
  Good P W bs κ E h r ((do pure (.value (<- Builtin.append_ [c8,Pu].toArray ty #[v,x])):Sem Next).run P w):=by
 obtain⟨i,aE7,hi,FP,Ps,rfl,aac⟩:=Z9 bx Z;obtain rfl:=qZ (aac.symm.trans bP);obtain⟨eT,M,e5,ako,hr,aDO,ax⟩:=akm (P:=P) (w:=w) c8 Pu ty e i aE7 hu hi FP (by grind) _ n _ BS x m _ (Pv i hi rfl) pk Aq
 rw[show((do pure (.value (<- Builtin.append_ [c8,Pu].toArray ty #[v,x])):Sem Next).run P w)=.ok (.value eT) M by simp_all];have he:e3 (bF E (dV κ) eT) eT eT.ownBlock.toList M (.row e i.size (n+m) (vs++us)):=⟨by rw[wj (cK := E) _ λq h=>hF _ _ λe=>p1 (by simp_all),xq];exact ako,rfl⟩
 refine⟨hp,bF E (dV κ) eT,bF F (dV κ) eT.ownBlock.toList,λq z=>hF _ _ λe=>z (by grind [tU]),?_,?_⟩
 ·grind [iB,qq,yN,den]
 ·rw[Lv];refine V.one ks cj yO (λq=>(p1 q).elim) he (λb Z=>?_) ax (hr.mono bo)
  grind
def akp{tys:List TypeId}{x y:ag}(V:an W bs E F h w)(cj:ki K h)(ad:∀k,k/8=κ->¬K k)(aS:(tZ P W bs κ h tys [x,y]).side):
  Good P W bs κ E h (tZ P W bs κ h tys [x,y]) ((do pure (.value (<- Builtin.append_ tys.toArray ty #[den E x,den E y])):Sem Next).run P w):=by
 have p1:=ad _ (tU κ);have row:∀{k T s n vs},h k=some (.row T s n vs)->den E (.ak k)=E k/\w.ownsRow 0 T s (E k) n (ba E vs)/\(∀eS ∈ [k],∃e,h eS=some e)/\(∀b,b∈(E k).ownBlock.toList->b∈[k].flatMap F)/\∀us,(∀q∈cP us,K q)->∀q∈cP (vs++us),K q:=λhd=>by have:=V.hc _ _ hd;exact⟨qq (yN this),this.1,by simp[hd],by simp[this.2],λus hu q z=>by rw[uY]at z;exact(hq.1 z).elim ((cj _ _ hd).2 q) (hu q)⟩
 have one:∀{f:Nat->Option bL} {k:Nat},(λj=>if j∈[k] then none else f j)=bF f k none:=by grind [bF]
 revert aS;unfold tZ;split
 ·rename_i heq;cases heq;split
  ·rename_i hd FV;split
   ·rename_i Z bx;rintro⟨rfl,hu,bP,tY,kS,rfl,aai,hm,pk,Aq,xu⟩;obtain⟨g,c,dP,aN,J,D⟩:=aag V FV hm xu;obtain⟨cR,cE,sr,FW,FX⟩:=row hd;rw[cR,den,dP]
    exact Pt [_] V cj p1 sr cE FW (FX _ (cj _ _ FV).2) hu bP tY Z bx (λi hi e=>e▸Src.ofSlice w hu _ _ c _ (e▸aN) J D) pk Aq rfl rfl (by rw[one];rfl)
   grind [R.bad]
  grind [R.bad]
 ·rename_i heq;cases heq;split
  ·rename_i FV;split
   ·rename_i hu;split
    ·rename_i Z bx;rintro⟨rfl,bP,tY,kS,hm,pk,Aq,xu⟩;obtain⟨g,c,dP,aN,J,D⟩:=aag V FV hm xu;rw[den,den,dP]
     exact Pt (n:=0) (vs:=[]) [] V cj p1 bq (World.ownsRow_nil w 0 _ _) (by simp[Value.ownBlock]) (cj _ _ FV).2 hu bP tY Z bx (λi hi e=>e▸Src.ofSlice w hu _ _ c _ (e▸aN) J D) U (by rwa [lM]) rfl rfl (by simp[dJ])
    grind [R.bad]
   grind [R.bad]
  grind [R.bad]
 ·rename_i k ay m c heq;cases heq;split
  ·rename_i T c8 e aw n vs hd;obtain⟨cR,cE,sr,FW,FX⟩:=row hd;cases BU:(m==0) with
   |true=>
    rintro⟨rfl,hu,bP,rfl⟩;obtain⟨i,hi,rfl⟩:=ph.1 bP;have Pv:Src P i.size c8 (.slice ay 0 c) 0 [] w:=by
     cases ay with
     |none=>exact Src.ofNil w hu c
     |some a=>exact Src.ofSlice w hu a 0 c [] bq (λj u Y=>by cases Y) (λu aB=>by cases aB)
    refine gH V rfl rfl ?_;show(Builtin.append_ #[c8,c8] ty #[den E (.ak k),.slice ay 0 c]).run P w=.ok (den E (.ak k)) w;rw[cR];rcases cE.2 with⟨D,_⟩|⟨g,cap,cur,D,_,_,tW,_⟩<;>rw[D]
    ·exact run_append_nothing w c8 c8 ty e i hu hi none 0 0 (eo _) _ Pv
    ·exact run_append_nothing w c8 c8 ty e i hu hi (some ⟨g,0,none⟩) n cap tW _ Pv
   |false=>
    simp only[BN];split
    ·rename_i b o by_ zs Z bx;rintro⟨rfl,hu,bP,tY,⟨akq,Pk⟩,pk,Aq,xu⟩;obtain⟨ak,FH⟩:=Ph (E:=E) (m*aw) o b Pk;have aaj:∀n o,(mb W b o n).length=n:=λn=>by induction n with|zero=>intro o;rfl|succ n bb=>simp_all [mb]
     rw[cR];refine Pt [_] V cj p1 sr cE FW (FX _ λq z=>by rw[aah (W:=W)]at z;cases z) hu bP tY Z bx (λi hi e=>?_) pk Aq rfl rfl (by rw[one];rfl);subst e;refine Src.ofSlice w hu _ m c _ (by rw[pj,aaj]) (λj u Y=>?_) (λu aB=>?_)
     ·rw[ak]at Y;have BP:j<m*i.size:=by grind
      rw[yG,Tp BP]at Y;obtain rfl:=qZ Y;rw[Addr.add_lit];exact V.keeps.cell akq (FH j BP)
     ·rw[q0]at aB;obtain⟨y,cG,rfl⟩:=qp.1 aB
      grind [TN]
    grind [R.bad]
  grind [R.bad]
 ·rename_i heq;cases heq;split
  ·rename_i hd;split
   ·rename_i Z bx;rintro⟨DO,hu,bP,tY,rfl,pk,Aq⟩;obtain⟨cR,cE,sr,FW,FX⟩:=row hd;rw[cR];exact Pt [_] V cj p1 sr cE FW (FX _ λq z=>by rw[so]at z;cases z) hu bP tY Z bx (λi hi e=>by rw[gr];exact Src.ofString w DO _) pk Aq rfl rfl (by rw[one];rfl)
   grind [R.bad]
  grind [R.bad]
 grind [R.bad]
end
def s4(K:aY)(κ:Nat)(r:R):Prop:=(∀k∈r.val.keys,K k\/k/8=κ)/\∀p∈r.bF,(K p.1\/p.1/8=κ)/\∀e,p.2=some e->∀k∈e.keys,K k\/k/8=κ
def s4.plain{K:aY}(h:∀k∈r.val.keys,K k)(hu:r.bF=[]):s4 K κ r:=by grind [s4]
structure Spec (P:bR)(f:dr) where
 aJ:World->List Nat->Nat->(Nat->Option bL)->List ag->R
 Ar:∀(W:ar) (bs:aD) (κ:Nat) (E:dF) (F:lK) (h:Nat->Option bL) (w:ar) (K:aY) (args:List ag),
  an W bs E F h w->ki K h->(∀k,k/8=κ->¬K k)->(∀k∈cP args,K k)->(aJ W bs κ h args).side ->
  Good P W bs κ E h (aJ W bs κ h args) ((callFunc f (ba E args).toArray).run P w)
 keys:∀(W:ar) (bs:aD) (κ:Nat) (h:Nat->Option bL) (K:aY) (args:List ag),ki K h->(∀k∈cP args,K k)->(aJ W bs κ h args).side->s4 K κ (aJ W bs κ h args)
 loc:∀(W:ar) (bs:aD) (κ:Nat) (h bu:Nat->Option bL) (args:List ag),(aJ W bs κ h args).side->(∀k∈(aJ W bs κ h args).reads,bu k=h k)->aJ W bs κ bu args=aJ W bs κ h args
structure mK (P:bR)(t:a6)(name:String) where
 f:FuncId
 ok:∀v w,(method (P.types.size+Made.depth) t v name).run P w=.ok (f,v) w
structure Env (P:bR) where
 sp:(f:dr)->Option (Spec P f)
 eqs:(T:a6)->Option (rJ P T)
 mt:(t:a6)->(name:String)->Option (mK P t name)
def a7{f:dr}(s:Spec P f)(Γ:Env P):Env P:=⟨λg=>if h:f=g then some (h▸s) else Γ.sp g,Γ.eqs,Γ.mt⟩
def akr{f:dr}(s:Spec P f)(Γ:Env P):(a7 s Γ).sp f=some s:=dif_pos rfl
def aks{f g:dr}(s:Spec P f)(Γ:Env P)(h:¬f=g):(a7 s Γ).sp g=Γ.sp g:=dif_neg h
section
variable {P:bR}{W:ar}{bs:aD}{κ:Nat}{E:dF}{F:lK}{h:Nat->Option bL}{w:ar}{K:aY}(Γ:Env P)
def iL(W:ar)(bs:aD)(κ:Nat)(h:Nat->Option bL)(f:dr)(args:List ag):R:=
 match Γ.sp f with
 |some s=>s.aJ W bs κ h args
 |none=>.bad
def DP(W:ar)(bs:aD)(κ:Nat)(h:Nat->Option bL):List ag->R
 |.fn (.func f) first cap::rest=>iL Γ W bs κ h f (first++rest++cap)
 |.v (.func (.func f) first cap)::rest=>iL Γ W bs κ h f (first.toList.map .v++rest++cap.toList.map .v)
 |_=>.bad
def hN(W:ar)(bs:aD)(κ:Nat)(h:Nat->Option bL)(name:String):List ag->R
 |.jL t x::rest=>match Γ.mt t name with
  |some m=>iL Γ W bs κ h m.f (x::rest)
  |none=>.bad
 |.v (.iface t x)::rest=>match Γ.mt t name with
  |some m=>iL Γ W bs κ h m.f (.v x::rest)
  |none=>.bad
 |_=>.bad
def isIface(P:bR)(T:a6):Option Bool:=(P.underlying T).map λ| .interface _=>true|_=>false
def aak{T:a6}(aV:isIface P T=some false):∃d,P.underlying T=some d/\∀ms,d≠.interface ms:=by
 obtain⟨d,ak,oc⟩:=ph.1 aV
 grind
def p5(P:bR)(T:a6):Option Bool:=(P.underlying T).map λ| .pointer _=>true|_=>false
def aal{T:a6}(aV:isIface P T=some true):∃ms,P.underlying T=some (.interface ms):=by
 obtain⟨d,ak,oc⟩:=ph.1 aV
 grind
def aam{T:a6}(aV:p5 P T=some true):∃e,P.underlying T=some (.pointer e):=by
 obtain⟨d,ak,oc⟩:=ph.1 aV
 grind
def Iw:Operand->Bool
 |.const _=>true
 |_=>false
def q2(op:BinOp)(p:Prop)(b:Bool)(rd:aD):R:=match op with
 |.eql=>{ side:=p,val:=.v (.bool b),reads:=rd }
 |.neq=>{ side:=p,val:=.v (.bool (!b)),reads:=rd }
 |_=>.bad
def nL(P:bR)(eqs:(T:a6)->Option (rJ P T))(h:Nat->Option bL)(op:BinOp)(T:a6)(aE5 aE8:Operand):List ag->R
 |[.v .nilIface,.v .nilIface]=>q2 op (isIface P T=some true/\(Iw aE5||Iw aE8)=true) true []
 |[.v .nilIface,.v (.iface _ _)]=>q2 op (isIface P T=some true) false []
 |[.v (.iface _ _),.v .nilIface]=>q2 op (isIface P T=some true) false []
 |[.v .nilIface,.jL _ _]=>q2 op (isIface P T=some true) false []
 |[.jL _ _,.v .nilIface]=>q2 op (isIface P T=some true) false []
 |[.v (.pointer none),.v (.pointer none)]=>q2 op (p5 P T=some true) true []
 |[.v (.pointer none),.v (.pointer (some _))]=>q2 op (p5 P T=some true) false []
 |[.v (.pointer (some _)),.v (.pointer none)]=>q2 op (p5 P T=some true) false []
 |[.own k o,.v (.pointer none)]=>match jd (h k) with
  |some vs=>q2 op (p5 P T=some true/\o<vs.length) false [k]
  |none=>.bad
 |[.v (.pointer none),.own k o]=>match jd (h k) with
  |some vs=>q2 op (p5 P T=some true/\o<vs.length) false [k]
  |none=>.bad
 |l=>gS P eqs op T l
def aan{T:a6}{a b:aM}{r:Bool}{op:BinOp}{aE5 aE8:Operand}(w:ar)(cm:op=.eql\/op=.neq)
  (aK:(eqGuard op T aE5 aE8 a b).run P w=.ok () w) (he:(Op.equal T a b).run P w=.ok r w) (D:∀k n,a≠.int k n) (O:∀k n,a≠.float k n) (B:∀k n m,a≠.complex k n m) (aU:∀s,a≠.string s) :
  ((do eqGuard op T aE5 aE8 a b;binOp op T a b):Sem Value).run P w=.ok (.bool (if op=.eql then r else !r)) w:=by
 rw[Sem.run_bind,aK];simp only[Result.andThen_ok];rcases cm with rfl|rfl
 ·cases a<;>first|exact absurd rfl (D _ _)|exact absurd rfl (O _ _)|exact absurd rfl (B _ _ _)|exact absurd rfl (aU _)|(simp[binOp,he])
 ·cases a<;>first|exact absurd rfl (D _ _)|exact absurd rfl (O _ _)|exact absurd rfl (B _ _ _)|exact absurd rfl (aU _)|(simp[binOp,he])
def aao{op:BinOp}{T:a6}{p:Prop}{b:Bool}{rd:aD}{aE5 aE8:Operand}{x y:aM}(V:an W bs E F h w)(aS:(q2 op p b rd).side)
  (aI:p->∀op,op=.eql\/op=.neq->((do eqGuard op T aE5 aE8 x y;binOp op T x y):Sem Value).run P w=.ok (.bool (if op=.eql then b else !b)) w) :
  Good P W bs κ E h (q2 op p b rd) ((do pure (.value (<- (do eqGuard op T aE5 aE8 x y;binOp op T x y))):Sem Next).run P w):=by
 cases op<;>first
  |exact aS.elim
  |(refine gH V rfl rfl ?_;grind [den,q2])
  |(refine gH V rfl rfl ?_;grind [den,q2])
def akt{op:BinOp}{T:a6}{aE5 aE8:Operand}{w:ar}(h:(Iw aE5||Iw aE8)=true):(eqGuard op T aE5 aE8 .nilIface .nilIface).run P w=.ok () w:=by cases aE5<;>cases aE8<;>first|(cases h;done)|(cases op<;>simp[eqGuard])
def aap{op:BinOp}{T:a6}{aE5 aE8:Operand}{w:ar}{a b:aM}(D:¬(a=.nilIface/\b=.nilIface))(O:∀x,a≠.agg x):(eqGuard op T aE5 aE8 a b).run P w=.ok () w:=by
 unfold eqGuard
 simp_all
section
variable {T:a6}(w:ar)
def aku{ms:Array (String×TypeId)}(hm:P.underlying T=some (.interface ms)):(Op.equal T .nilIface .nilIface).run P w=.ok true w:=by
 have:∀d,(Op.equalIn (d+1) T .nilIface .nilIface).run P w=.ok true w:=λd=>by simp[Op.equalIn,run_underlying hm]
 exact this 9999
def akv{ms:Array (String×TypeId)}{t:a6}{x:aM}(hm:P.underlying T=some (.interface ms)):(Op.equal T .nilIface (.iface t x)).run P w=.ok false w:=by
 have:∀d,(Op.equalIn (d+1) T .nilIface (.iface t x)).run P w=.ok false w:=λd=>by simp[Op.equalIn,run_underlying hm]
 exact this 9999
def akw{ms:Array (String×TypeId)}{t:a6}{x:aM}(hm:P.underlying T=some (.interface ms)):(Op.equal T (.iface t x) .nilIface).run P w=.ok false w:=by
 have:∀d,(Op.equalIn (d+1) T (.iface t x) .nilIface).run P w=.ok false w:=λd=>by simp[Op.equalIn,run_underlying hm]
 exact this 9999
def aaq{b:dj}(hm:P.underlying T=some (.pointer e)):(Op.equal T (.pointer none) (.pointer b)).run P w=.ok b.isNone w:=by
 have:∀d,(Op.equalIn (d+1) T (.pointer none) (.pointer b)).run P w=.ok b.isNone w:=λd=>by simp[Op.equalIn,run_underlying hm]
 exact this 9999
def aar{a:Addr}(hm:P.underlying T=some (.pointer e)):(Op.equal T (.pointer (some a)) (.pointer none)).run P w=.ok false w:=by
 have:∀d,(Op.equalIn (d+1) T (.pointer (some a)) (.pointer none)).run P w=.ok false w:=λd=>by simp[Op.equalIn,run_underlying hm]
 exact this 9999
end
def akx{eqs:(T:a6)->Option (rJ P T)}{op:BinOp}{T:a6}{aE5 aE8:Operand}{x y:ag}(V:an W bs E F h w)(aS:(nL P eqs h op T aE5 aE8 [x,y]).side) :
  Good P W bs κ E h (nL P eqs h op T aE5 aE8 [x,y]) ((do pure (.value (<- (do eqGuard op T aE5 aE8 (den E x) (den E y);binOp op T (den E x) (den E y)))):Sem Next).run P w):=by
 revert aS;unfold nL;split
 all_goals try (rename_i heq;simp only[pZ,we]at heq;obtain⟨rfl,rfl⟩:=heq)
 case h_11=>exact λaS=>aj2 V aS
 case h_9|h_10=>
  split
  rotate_left
  ·grind [R.bad]
  refine λaS=>aao V aS λhp op cm=>?_
  obtain⟨b,Z,_⟩:=DH V ‹_› (Ik hp.2);obtain⟨ms,hm⟩:=aam hp.1;simp only[den,p0,Z];exact aan w cm (aap bq bq) (by first|exact aaq w hm|exact aar w hm) bq bq bq bq
 all_goals refine λaS=>aao V aS λhp op cm=>aan w cm ?_ ?_ (by simp[den]) (by simp[den]) (by simp[den]) (by simp[den])
 any_goals exact akt hp.2
 any_goals exact aap (by simp[den]) (by simp[den])
 any_goals have ⟨ms,hm⟩:=aam hp;first|exact aaq w hm|exact aar w hm
 any_goals have ⟨ms,hm⟩:=aal hp;first|exact akv w hm|exact akw w hm
 have ⟨ms,hm⟩:=aal hp.1;exact aku w hm
def Lw(κ k:Nat)(b:Int)(e s n:Nat)(vs:List ag):Option Nat->R
 |some hf => { side:=hf=s/\0<=b/\b.toNat<=n,val:=.ak (dV κ),bF:=[(k,none),(dV κ,some (.row e s b.toNat (vs.take (b.toNat*s))))],reads:=[k] }
 |none=>.bad
def Ix(P:bR)(κ k:Nat)(b:Int):Option TypeDesc->Option bL->R
 |some (.slice e),some (.row dn s n vs)=>Lw κ k b dn s n vs (ah P e)
 |_,_=>.bad
def Pw(P:bR)(κ:Nat)(h:Nat->Option bL)(T:a6)(k:Nat):Bool->Bool->List ag->R
 |false,true,[.v (.int _ b)]=>Ix P κ k b (P.underlying T) (h k)
 |_,_,_=>.bad
def Lx(x:R):Bool->R
 |true=>.bad
 |false=>x
def BV(P:bR)(κ:Nat)(h:Nat->Option bL)(T:a6)(lo hi mx:Bool):List ag->R
 |.ak k::r=>Lx (Pw P κ h T k lo hi r) mx
 |l=>tX P T lo hi mx l
def aky{T:a6}{lo hi mx:Bool}{x:ag}(V:an W bs E F h w)(cj:ki K h)(hd:∀k,k/8=κ->¬K k)(aS:(BV P κ h T lo hi mx (x::rest)).side):
  Good P W bs κ E h (BV P κ h T lo hi mx (x::rest)) ((do pure (.value (<- Instr.sliceAt T (den E x) (if lo then Al rest 0 E else none) (if hi then Al rest (if lo then 1 else 0) E else none) none)):Sem Next).run P w):=by
 revert aS;unfold BV;split
 ·rename_i k r heq;obtain⟨rfl,rfl⟩:=TF heq;cases mx with
  |true=>exact Ia
  |false=>
  unfold Lx Pw;simp only;split
  ·rename_i rL b;unfold Ix;split
   ·rename_i e dn s n vs hu ad;unfold Lw;split
    ·rename_i hf bP;rintro⟨rfl,A,D⟩;obtain⟨⟨aN,tV⟩,bo⟩:=V.hc k _ ad;have akz:vs.length=n*hf:=by grind [pj]
     have hle:b.toNat*hf <= n*hf := Tn _ D;have key:∀(ay:dj) (cap:Nat),E k=.slice ay n cap->n<=cap ->
       (w.ownsRow 0 dn hf (.slice ay b.toNat cap) b.toNat (ba E (vs.take (b.toNat*hf))))->(Value.slice ay b.toNat cap).ownBlock=(E k).ownBlock ->
       Good P W bs κ E h ({ side:=hf=hf/\0<=b/\b.toNat<=n,val:=.ak (dV κ),bF:=[(k,none),(dV κ,some (.row dn hf b.toNat (vs.take (b.toNat*hf))))],reads:=[k] }:R) ((do pure (.value (<- Instr.sliceAt T (den E (.ak k)) none (Al [.v (.int rL b)] 0 E) none)):Sem Next).run P w):=by
      intro ay cap aZ tW BS akA;have au:den E (.ak k)=.slice ay n cap:=by simp[den,aZ,au,Value.oneCell']
      have aas:b<=(cap:Int):=by omega
      have Z:=TS (P:=P) (lo:=false) (hi:=true) (rest:=[.v (.int rL b)]) (a:=none) (b:=some b) true n cap rfl E bq (by trivial) (by trivial) w;have cb:(if cap=0 then ay else ay.map (·.add (0*hf)))=ay:=by
       split
       ·rfl
       ·cases ay with
        |none=>rfl
        |some a=>simp[Addr.add]
      simp only[xo,wc,wg]at Z;rw[au];simp only[Instr.sliceAt,Sem.run_bind,run_underlying hu,Result.andThen_ok,Instr.slice,Z,uZ bP,Sem.run_pure];simp only[Tw,yH,show((0:Int).toNat)=0 from rfl,Nat.sub_zero,cb,Good,sq]
      refine⟨trivial,bF E (dV κ) (.slice ay b.toNat cap),bF F (dV κ) (F k),λj Y=>hF _ _ λe=>Y (by grind [tU]),by simp[den,iB,LE.au,Value.oneCell'],V.move cj ad (hd _ (tU κ)) ⟨?_,by rw[bo,akA]⟩ (λc J=>.inl J) (V.lt k _ ad) (cr.refl w _)⟩;rw[wj (cK := E) _ λi hi=>hF _ _ λe=>hd _ (tU κ) (by
       obtain⟨y,cG,akB⟩:=sn.1 hi
       rw[<- e]
       exact(cj k _ ad).2 i (sn.2 ⟨y,List.mem_of_mem_take cG,akB⟩))]
      exact BS
     have hlen:(ba E (vs.take (b.toNat*hf))).length=b.toNat*hf:=by grind [pj]
     rcases tV with⟨Ly,aE⟩|⟨g,cap,cur,Ly,Ai,hh,tW,u1,Ag,As⟩
     ·subst aE;have Ai:b.toNat=0:=U;refine key none 0 Ly (eo _) ⟨hlen,.inl ⟨by rw[Ai],Ai⟩⟩ ?_;rw[Ly];rfl
     ·refine key _ cap Ly tW ⟨hlen,.inr ⟨g,cap,cur,rfl,Ai,hh,U,u1,Ag,?_⟩⟩ ?_
      ·have:(cur.toList.take (n*hf)).take (b.toNat*hf)=ba E (vs.take (b.toNat*hf)):=by
        rw[As,q0,q0,K6]
       grind
      ·rw[Ly];rfl
    grind [R.bad]
   grind [R.bad]
  grind [R.bad]
 ·exact λaS=>aj5 V aS
def At:List ag->Option (List Int)
 |[]=>some []
 |.v (.int .u8 n)::r=>(At r).map (n::·)
 |_=>none
def fD(ai:List Int):ByteArray:=⟨(ai.map λn=>UInt8.ofNat n.toNat).toArray⟩
def Lz(P:bR)(k n:Nat):Option TypeDesc->Option TypeDesc->Option (List Int)->R
 |some (.slice e),some .string,some ai=>{ side:=P.underlying e=some (.int .u8)/\ai.length=n,val:=.v (.string (fD ai)),reads:=[k] }
 |_,_,_=>.bad
def LA(P:bR)(src dst:a6)(k:Nat):Option bL->R
 |some (.row _ 1 n vs)=>Lz P k n (P.underlying src) (P.underlying dst) (At vs)
 |_=>.bad
def BW(P:bR)(h:Nat->Option bL)(src dst:a6):List ag->R
 |[.ak k]=>LA P src dst k (h k)
 |l=>DL P src dst l
def aat(E:dF):∀{vs:List ag} {ai:List Int},At vs=some ai->ba E vs=ai.map (Value.int .u8)
 |[],ai,h=>by grind [At,ba]
 |x::r,ai,h=>by
  unfold At at h;split at h
  ·trivial
  ·rename_i n bG heq;obtain⟨rfl,rfl⟩:=TF heq;obtain⟨m,hm,rfl⟩:=ph.1 h;simp[ba,den,aat E hm]
  ·cases h
def akC(ai:List Int):∀s:ByteArray,ai.foldl (λr n=>r.push (UInt8.ofNat n.toNat)) s=⟨s.data++(ai.map λn=>UInt8.ofNat n.toNat).toArray⟩:=by
 induction ai with
 |nil=>intro s;simp
 |cons n r bb=>simp_all
def akD{src dst:a6}{x:ag}(V:an W bs E F h w)(aS:(BW P h src dst [x]).side) :
  Good P W bs κ E h (BW P h src dst [x]) ((do pure (.value (<- convert src dst (den E x))):Sem Next).run P w):=by
 revert aS;unfold BW;split
 ·rename_i k heq;cases heq;cases ad:h k with
  |none=>exact Ia
  |some e=>
   unfold LA;split
   ·rename_i T n vs heq;obtain rfl:=qZ heq;unfold Lz;split
    ·rename_i e ai D O B;rintro⟨aU,bn⟩;refine gH V rfl rfl ?_;have xt:=V.hc k _ ad;obtain⟨⟨aN,tV⟩,_⟩:=xt;have ak:=aat E B;rw[ak]at aN tV;have fin:fD ai=ai.foldl (λr n=>r.push (UInt8.ofNat n.toNat)) ByteArray.empty:=by
      simp_all [akC,fD]
     rcases tV with⟨hu,aE⟩|⟨g,cap,cur,hu,_,hh,tW,_,Ag,DI⟩
     ·have:ai=[]:=by
       simp_all
      subst this;have au:den E (.ak k)=.slice none 0 0:=by simp[den,hu,au,Value.oneCell']
      rw[au,run_convert_bytes_string w src dst _ none 0 0 D aU O];rfl
     ·have au:den E (.ak k)=.slice (some ⟨g,0,none⟩) n cap:=by simp[den,hu,au,Value.oneCell']
      rw[au,run_convert_bytes_string w src dst _ _ n cap D aU O];have TW:(loadCells ⟨g,0,none⟩ n).run P w=.ok (ai.map (Value.int .u8)).toArray w:=by
       have:=run_loadCells_list (P:=P) w ⟨g,0,none⟩ (ai.map (Value.int .u8)) (λj v Y=>by
        rw[Addr.add_lit,lM]
        have BP:j<ai.length:=by grind
        rw[<- DI,Ig,al U]at Y
        simp only[World.cell?,hh]
        simpa using Y)
       simp_all
      grind [run_bytesToString,den]
    grind [R.bad]
   grind [R.bad]
 ·exact λaS=>aj4 V aS
def kE(P:bR)(T:a6):Option Value:=(P.info? T).bind (·.zero)
def TY{T:a6}{aE7:aM}(aV:kE P T=some aE7)(w:ar):(zeroValue T).run P w=.ok aE7 w:=by
 unfold kE at aV;cases hi:P.info? T with
 |none=>simp_all
 |some i=>simp only[hi,BM]at aV;simp[zeroValue,typeInfo,hi,aV]
def DQ(P:bR)(T:a6)(ok:Bool):List ag->R
 |[.jL t x]=>match isIface P T,kE P T with
  |some false,some aE7=>
   match ok with
   |true=>.ok (if t=T then .iK [x,.v (.bool true)] else .iK [.v aE7,.v (.bool false)])
   |false=>.eK (t=T) x
  |_,_=>.bad
 |[.v (.iface t x)]=>match isIface P T,kE P T with
  |some false,some aE7=>
   match ok with
   |true=>.ok (if t=T then .iK [.v x,.v (.bool true)] else .iK [.v aE7,.v (.bool false)])
   |false=>.eK (t=T) (.v x)
  |_,_=>.bad
 |[.v .nilIface]=>match isIface P T,kE P T with
  |some false,some aE7=>
   match ok with
   |true=>.ok (.iK [.v aE7,.v (.bool false)])
   |false=>.bad
  |_,_=>.bad
 |_=>.bad
def TZ(Au:a6):Option TypeDesc->Option TypeId
 |some .string=>some Au
 |_=>none
def FY(P:bR):Option TypeDesc->Option TypeId
 |some (.map Av Au)=>TZ Au (P.underlying Av)
 |_=>none
def aau{T Au:a6}(Y:FY P (P.underlying T)=some Au):∃Av,P.underlying T=some (.map Av Au)/\P.underlying Av=some .string:=by
 revert Y;unfold FY
 grind [TZ]
def qu:List ByteArray->List ag->ByteArray->Option ag
 |k::ks,v::vs,s=>if k=s then some v else qu ks vs s
 |_,_,_=>none
def DR:Bool->Value->Option ag->ag
 |true,_,some x=>.iK [x,.v (.bool true)]
 |true,aE7,none=>.iK [.v aE7,.v (.bool false)]
 |false,_,some x=>x
 |false,aE7,none=>.v aE7
def Iy(k:Nat)(ok:Bool)(o:Option ag):Option Value->R
 |some aE7=>⟨True,DR ok aE7 o,[],none,[],[k]⟩
 |none=>.bad
def Iz(P:bR)(k:Nat)(ok:Bool)(s:ao):Option TypeId->Option bL->R
 |some Au,some (.mp ks vs)=>Iy k ok (qu ks vs s) (kE P Au)
 |_,_=>.bad
def DS(P:bR)(h:Nat->Option bL)(T:a6)(ok:Bool):List ag->R
 |[.ak k,.v (.string s)]=>Iz P k ok s (FY P (P.underlying T)) (h k)
 |_=>.bad
def IA(k:Nat)(s:ao)(x:ag):Option TypeId->Option bL->R
 |some _,some (.mp ks vs)=>⟨s∉ks,.v undef,[(k,some (.mp (ks++[s]) (vs++[x])))],none,[],[k]⟩
 |_,_=>.bad
def BX(P:bR)(h:Nat->Option bL)(T:a6):List ag->R
 |[.ak k,.v (.string s),x]=>IA k s x (FY P (P.underlying T)) (h k)
 |_=>.bad
def IB(κ:Nat):List ag->R
 |[]=>.new (dV κ) (.mp [] []) (.ak (dV κ))
 |_=>.bad
def aav{k:Nat}{s:ao}{x:ag}:∀{ks:List ByteArray} {vs:List ag},qu ks vs s=some x->k∈x.keys->k∈cP vs
 |[],_,h,_=>by trivial
 |_::_,[],h,_=>by trivial
 |a::ks,v::vs,h,ad=>by
  simp only[qu]at h;simp only[cP,hq];split at h
  ·simp_all
  ·exact .inr (aav h ad)
theorem akE{ok:Bool}{aE7:aM}{s:ao}{ks:List ByteArray}(ad:k∈(DR ok aE7 (qu ks vs s)).keys):k∈cP vs:=by
 cases aN:qu ks vs s with
 |none=>
  rw[aN]at ad;cases ok with
  |true=>trivial
  |false=>trivial
 |some x=>
  rw[aN]at ad;refine aav aN ?_;cases ok with
  |true=>simpa [DR,ag.keys,cP] using ad
  |false=>trivial
theorem aaw(a b:ao):(a==b)=decide (a=b):=by
 cases a;cases b;rename_i x y;show(x==y)=_
 grind
def T0{E:dF}{s:ao}:∀{ks:List ByteArray} {vs:List ag} {es:List MapEntry} {i:Nat},es.map (·.key)=ks.map .string->es.map (·.val)=ba E vs ->
  ∃r,Instr.findNow .string (.string s) es i=some r/\r.map (·.2)=(qu ks vs s).map (den E)
 |[],vs,es,i,D,O=>by simp at D;subst D;exact⟨none,rfl,by rfl⟩
 |a::ks,vs,[],i,D,O=>by simp at D
 |a::ks,[],e::es,i,D,O=>by trivial
 |a::ks,v::vs,e::es,i,D,O=>by
  simp only[fc,pZ]at D;simp only[fc,ba,pZ]at O;simp only[Instr.findNow,D.1,Instr.sameNow,qu];by_cases V:a=s
  ·simp_all [aaw]
  ·have Z:(s==a)=false:=by grind [aaw]
   rw[Z,ab V];exact T0 D.2 O.2
theorem akF{T:a6}(V:an W bs E F h w)(cj:ki K h)(ad:∀k,k/8=κ->¬K k) :
  Good P W bs κ E h (IB κ []) ((do pure (.value (<- Instr.makeMap T none)):Sem Next).run P w):=by
 have p1:=ad _ (tU κ);have:(do pure (.value (<- Instr.makeMap T none)):Sem Next).run P w=.ok (.value (.map (some w.heap.size))) (w.alloc (.map #[] 0)):=by rfl
 rw[this];refine⟨rfl,bF E (dV κ) (.map (some w.heap.size)),bF F (dV κ) [w.heap.size],λk hd=>hF _ _ λe=>hd (by grind [tU]),?_,?_⟩
 ·simp[IB,R.new,den,iB,au,Value.oneCell']
 ·refine V.new cj p1 ⟨w.heap.size,#[],0,rfl,rfl,heap_alloc_new w _,rfl,rfl⟩ (λb Z=>?_) (Pe w _)
  simp_all
def akG{T:a6}{ok:Bool}{x y:ag}(V:an W bs E F h w)(aS:(DS P h T ok [x,y]).side) :
  Good P W bs κ E h (DS P h T ok [x,y]) ((do pure (.value (<- Instr.lookup T (den E x) (den E y) ok)):Sem Next).run P w):=by
 revert aS;unfold DS;split
 ·rename_i k s heq;cases heq;unfold Iz;split
  ·rename_i Au ks vs Y hd;unfold Iy;split
   ·rename_i aE7 bx;intro _;obtain⟨Av,hu,FZ⟩:=aau Y;obtain⟨b,es,c,D,_,B,aU,bn⟩:=V.hc k _ hd;obtain⟨r,aI,aax⟩:=T0 (s:=s) (i:=0) aU bn;have aK:(getObj b).run P w=.ok (.map es c) w:=by simp[getObj,Sem.run,B]
    have J:(Instr.checkKey es.isEmpty 10000 Av (.string s)).run P w=.ok () w:=by unfold Instr.checkKey;simp[run_underlying FZ]
    have aW:(Instr.findKey Av (.string s) es.toList).run P w=.ok r w:=by simp[Instr.findKey,run_underlying FZ,aI]
    refine gH V rfl rfl ?_;simp only[den,D,LE.au,Value.oneCell',wg,Instr.lookup,Sem.run_bind,run_underlying hu,Result.andThen_ok,aK,Sem.run_pure,J,aW];cases r with
    |none=>
     have:qu ks vs s=none:=by
      cases aN:qu ks vs s with
      |none=>rfl
      |some x=>simp_all
     rw[this];cases ok<;>simp[TY bx,DR,den,ba]
    |some p=>
     obtain⟨i,v⟩:=p;obtain⟨x,aB,rfl⟩:∃x,qu ks vs s=some x/\v=den E x:=by
      cases aN:qu ks vs s with
      |none=>simp_all
      |some x=>simp_all
     rw[aB];cases ok<;>simp[DR,den,ba]
   grind [R.bad]
  grind [R.bad]
 grind [R.bad]
def aay{s:ao}:∀{ks:List ByteArray} {vs:List ag},s∉ks->qu ks vs s=none
 |[],_,_=>by rfl
 |_::_,[],_=>rfl
 |a::ks,v::vs,aE=>by simp only[gG,not_or]at aE;simp only[qu];rw[ab λe=>aE.1 e.symm];exact aay aE.2
def akH{T:a6}{p q x:ag}(V:an W bs E F h w)(aS:(BX P h T [p,q,x]).side) :
  Good P W bs κ E h (BX P h T [p,q,x]) ((do Instr.mapUpdate T (den E p) (den E q) (den E x);pure .skip:Sem Next).run P w):=by
 revert aS;unfold BX;split
 ·rename_i k s sZ heq;cases heq;unfold IA;split
  ·rename_i Au ks vs Y hd;intro aE;obtain⟨Av,hu,FZ⟩:=aau Y;obtain⟨b,es,c,D,O,B,aU,bn⟩:=V.hc k _ hd;obtain⟨r,aI,aax⟩:=T0 (s:=s) (i:=0) aU bn;rw[aay aE]at aax;have:r=none:=by simp_all
   subst this;have aK:(getObj b).run P w=.ok (.map es c) w:=by simp[getObj,Sem.run,B]
   have J:(Instr.checkKey false 10000 Av (.string s)).run P w=.ok () w:=by unfold Instr.checkKey;simp[run_underlying FZ]
   have aW:(Instr.findKey Av (.string s) es.toList).run P w=.ok none w:=by simp[Instr.findKey,run_underlying FZ,aI]
   have hX:∀o,(setObj b o).run P w=.ok () { w with heap:=w.heap.setIfInBounds b o }:=λo=>by simp[setObj,Sem.run,B]
   have ax:b<w.heap.size:=(Zz.1 B).1;have e5:(do Instr.mapUpdate T (den E (.ak k)) (den E (.v (.string s))) (den E x);pure .skip:Sem Next).run P w=.ok .skip { w with heap:=w.heap.setIfInBounds b (.map (es.push { key:=.string s,val:=den E x,born:=c }) (c+1)) }:=by simp only[den,D,LE.au,Value.oneCell',wg,Instr.mapUpdate,Sem.run_bind,run_underlying hu,Result.andThen_ok,aK,J,aW,hX,Sem.run_pure]
   rw[e5];simp only[Good,sq,dJ];refine⟨trivial,E,bF F k [b],λ_ _=>rfl,rfl,?_⟩;refine V.ZV hd ⟨b,es.push { key:=.string s,val:=den E x,born:=c },c+1,D,rfl,by simp_all,?_,?_⟩ (λp6 Z=>?_) (λp6 Z=>?_) ⟨rfl,rfl,rfl,bq,λp6 dO iM => ?_⟩
   ·simp[aU]
   ·simp[bn,xq,ba]
   all_goals grind
  grind [R.bad]
 grind [R.bad]
def IC:List ag->R
 |[.v (.iface t x)]=>{ side:=True,val:=.v undef,b7:=some [{ v:=.iface t x,recovered:=false }] }
 |_=>.bad
def dH(W:ar)(bs:aD)(κ:Nat)(h:Nat->Option bL):Op->List ag->R
 |.move _,[x]=>.ok x
 |.assign _,[x]=>.ok x
 |.alloc T,[]=>DG P κ T
 |.box T _,args=>Ir κ T args
 |.build T ps,args=>s3 P T (ps.toList.map (·.1)) args
 |.buildSlice T n ps,args=>wk P κ T n (ps.toList.map (·.1)) args
 |.load T _,args=>u0 P W bs h T args
 |.store T _ _,args=>FJ P h T args
 |.nilCheck _,args=>DM h args
 |.binOp op T aE5 aE8 _,args=>nL P Γ.eqs h op T aE5 aE8 args
 |.unOp op _ _,args=>DK op args
 |.convert s d _,args=>BW P h s d args
 |.makeInterface T _,args=>Ap P T args
 |.makeFunc fn first _,args=>.ok (.fn fn (args.take first.size) (args.drop first.size))
 |.makeSlice T _ _,args=>FR P κ T args
 |.slice T _ lo hi mx,args=>BV P κ h T lo.isSome hi.isSome mx.isSome args
 |.fieldAddr S _ f,args=>BQ P h S f args
 |.field S _ f,args=>FK P S f args
 |.indexAddr T _ _,args=>An P h T args
 |.index T _ _,args=>Am P T args
 |.extract _ i,args=>xv i args
 |.typeAssert _ _ T ok,args=>DQ P T ok args
 |.panic _,args=>IC args
 |.call { callee:=.builtin .len,args:=_,argTypes:=tys },args=>match tys.toList with
  |[T]=>yP P h T args
  |_=>.bad
 |.call { callee:=.builtin .append,args:=_,argTypes:=tys },args=>tZ P W bs κ h tys.toList args
 |.call { callee:=.builtin .min,args:=_,argTypes:=_ },args=>Iv args
 |.call { callee:=.builtin .max,args:=_,argTypes:=_ },args=>FT args
 |.call { callee:=.value _,args:=_,argTypes:=_ },args=>DP Γ W bs κ h args
 |.call { callee:=.invoke _ name,args:=_,argTypes:=_ },args=>hN Γ W bs κ h name args
 |.makeMap _ none,args=>IB κ args
 |.lookup T _ _ ok,args=>DS P h T ok args
 |.mapUpdate T _ _ _,args=>BX P h T args
 |.insert T _ _ _,args=>BX P h T args
 |_,_=>.bad
def Px{f:dr}{args:List ag}(V:an W bs E F h w)(cj:ki K h)(ad:∀k,k/8=κ->¬K k)(aB:∀k∈cP args,K k)(aS:(iL Γ W bs κ h f args).side) :
  Good P W bs κ E h (iL Γ W bs κ h f args) ((callFunc f (ba E args).toArray).run P w):=by
 revert aS;unfold iL;split
 ·rename_i s LB;intro aS
  grind [Spec.Ar]
 grind [R.bad]
def akI{j4:Operand}{args:List ag}(cm:o.op=.call { callee:=.value j4,args:=aj,argTypes:=tys })
  (od:(j4::aj.toList).map ρ=ba E args) (V:an W bs E F h w) (cj:ki K h) (ad:∀k,k/8=κ->¬K k) (aB:∀k∈cP args,K k) (aS:(DP Γ W bs κ h args).side) :
  Good P W bs κ E h (DP Γ W bs κ h args) ((execOp ρ o).run P w):=by
 revert aS;unfold DP;split
 ·rename_i f first cap rest
  intro aS;simp only[ba,fc,pZ]at od;obtain⟨D,O⟩:=od;have BY:aj.map ρ=(ba E rest).toArray:=by grind
  have p7:∀k∈cP (first++rest++cap),K k:=λk ad=>aB k (by
   simp only[uY,hq]at ad
   simp only[cP,ag.keys,hq]
   grind)
  have:=Px Γ (f:=f) V cj ad p7 aS;rw[xq,xq]at this;simp only[execOp,cm,resolve,D,den,Deferred.ofValue,Sem.run_bind,Sem.run_pure,Result.andThen_ok,invoke,BY];simpa using this
 ·rename_i f first cap rest
  intro aS;simp only[ba,fc,pZ]at od;obtain⟨D,O⟩:=od;have BY:aj.map ρ=(ba E rest).toArray:=by grind
  have p7:∀k∈cP (first.toList.map .v++rest++cap.toList.map .v),K k:=λk ad=>aB k (by
   simp only[uY,hq,so]at ad
   grind [cP])
  have:=Px Γ (f:=f) V cj ad p7 aS;rw[xq,xq,gr,gr]at this;have bN:(first.toList++ba E rest++cap.toList).toArray=first++(ba E rest).toArray++cap:=by simp
  rw[bN]at this;simp only[execOp,cm,resolve,D,den,Deferred.ofValue,Sem.run_bind,Sem.run_pure,Result.andThen_ok,invoke,BY];exact this
 grind [R.bad]
def akJ{ro:Operand}{name:String}{args:List ag}(cm:o.op=.call { callee:=.invoke ro name,args:=aj,argTypes:=tys })
  (od:(ro::aj.toList).map ρ=ba E args) (V:an W bs E F h w) (cj:ki K h) (ad:∀k,k/8=κ->¬K k) (aB:∀k∈cP args,K k) (aS:(hN Γ W bs κ h name args).side) :
  Good P W bs κ E h (hN Γ W bs κ h name args) ((execOp ρ o).run P w):=by
 revert aS;unfold hN;split
 ·rename_i t x rest;split
  ·rename_i m hm;intro aS;simp only[ba,fc,pZ]at od;obtain⟨D,O⟩:=od;have BY:aj.map ρ=(ba E rest).toArray:=by grind
   have:=Px Γ (f:=m.f) (args:=x::rest) V cj ad (by trivial) aS;simp only[ba]at this;simp only[execOp,cm,resolve,D,den,Sem.run_bind,Sem.run_pure,Result.andThen_ok,invoke,BY,callMethod];simp[m.ok,callMethod];trivial
  grind [R.bad]
 ·rename_i t x rest;split
  ·rename_i m hm;intro aS;simp only[ba,fc,pZ]at od;obtain⟨D,O⟩:=od;have BY:aj.map ρ=(ba E rest).toArray:=by grind
   have:=Px Γ (f:=m.f) (args:=.v x::rest) V cj ad (by trivial) aS;simp only[ba]at this;simp only[execOp,cm,resolve,D,den,Sem.run_bind,Sem.run_pure,Result.andThen_ok,invoke,BY];simp[m.ok,callMethod];trivial
  grind [R.bad]
 grind [R.bad]
def Py{T LC t:a6}{y aE7:aM}{ok:Bool}(Aw:isIface P T=some false)(bx:kE P T=some aE7)(bW:ok=true\/t=T)(w:ar) :
  (Instr.typeAssert (.iface t y) LC T ok).run P w=.ok (if t=T then(if ok then .tuple #[y,.bool true] else y) else .tuple #[aE7,.bool false]) w:=by
 obtain⟨d,ak,akK⟩:=aak Aw;have BZ := TY bx;by_cases aV:t=T
 ·subst aV;simp only[Instr.typeAssert,Sem.run_bind,run_underlying ak,Result.andThen_ok];rfl
 ·have ad:ok=true:=bW.resolve_right aV;subst ad;simp only[Instr.typeAssert,Sem.run_bind,run_underlying ak,Result.andThen_ok]
  simp_all
def akL{T LC:a6}{aE7:aM}(Aw:isIface P T=some false)(bx:kE P T=some aE7)(w:ar) :
  (Instr.typeAssert .nilIface LC T true).run P w=.ok (.tuple #[aE7,.bool false]) w:=by
 obtain⟨d,ak,akK⟩:=aak Aw;have BZ := TY bx;simp only[Instr.typeAssert,Sem.run_bind,run_underlying ak,Result.andThen_ok]
 simp_all
def akM{LC T:a6}{ok:Bool}{x:ag}(V:an W bs E F h w)(aS:(DQ P T ok [x]).side) :
  Good P W bs κ E h (DQ P T ok [x]) ((do pure (.value (<- Instr.typeAssert (den E x) LC T ok)):Sem Next).run P w):=by
 revert aS;unfold DQ;split
 ·rename_i t y heq;cases heq;split
  ·rename_i aE7 Aw bx;split
   ·intro _;refine gH V rfl rfl ?_;simp only[R.ok,den];rw[Py Aw bx (.inl rfl)];by_cases aV:t=T<;>simp[aV,den,ba]
   ·intro aV;refine gH V rfl rfl ?_;have LD:t=T:=aV;simp only[R.eK,den];rw[Py Aw bx (.inr LD)];simp[LD]
  grind [R.bad]
 ·rename_i t y heq;cases heq;split
  ·rename_i aE7 Aw bx;split
   ·intro _;refine gH V rfl rfl ?_;simp only[R.ok,den];rw[Py Aw bx (.inl rfl)];by_cases aV:t=T<;>simp[aV,den,ba]
   ·intro aV;refine gH V rfl rfl ?_;have LD:t=T:=aV;simp only[R.eK,den];rw[Py Aw bx (.inr LD)];simp[LD]
  grind [R.bad]
 ·rename_i heq;cases heq;split
  ·rename_i aE7 Aw bx;split
   ·intro _;refine gH V rfl rfl ?_
    simp_all [akL,R.ok,den,ba]
   grind [R.bad]
  grind [R.bad]
 grind [R.bad]
def akN{x:ag}(V:an W bs E F h w)(aS:(IC [x]).side) :
  Good P W bs κ E h (IC [x]) ((do pure (.value (<- Instr.panic (den E x))):Sem Next).run P w):=by
 revert aS;unfold IC;split
 ·rename_i t y heq;cases heq;intro _;have:(do pure (.value (<- Instr.panic (den E (.v (.iface t y))))):Sem Next).run P w=.halt (.panic (.iface t y)) w:=by rfl
  rw[this];exact⟨rfl,F,V.drop λk e he=>by trivial⟩
 grind [R.bad]
def akO(E:dF)(l:List ag)(n:Nat):ba E (l.take n)=(ba E l).take n:=by simp[q0,K6]
def akP(E:dF)(l:List ag)(n:Nat):ba E (l.drop n)=(ba E l).drop n:=by simp[q0,Tj]
def aaz{ps:Array (Nat×Operand)}{ρ:Operand->Value}{l:List ag}(h:(ps.toList.map (·.2)).map ρ=ba E l):ps.map (λ(i,x)=>(i,ρ x))=((ps.toList.map (·.1)).zip (ba E l)).toArray:=by grind
def akQ(o:Oper)(ρ:Operand->Value)(args:List ag)(od:o.op.operands.toList.map ρ=ba E args)(V:an W bs E F h w)(cj:ki K h)(ad:∀k,k/8=κ->¬K k)(aB:∀k∈cP args,K k)
  (aS:(dH Γ W bs κ h o.op args).side):Good P W bs κ E h (dH Γ W bs κ h o.op args) ((execOp ρ o).run P w):=by
 generalize cm:o.op=op at *;cases op<;>try (simp only[dH]at aS;exact aS.elim)
 case call c=>
  obtain⟨callee,aj,tys⟩:=c;cases callee with
  |value j4=>simp only[dH]at aS ⊢;exact akI Γ cm (by simpa [Op.operands,Call.operands] using od) V cj ad aB aS
  |invoke ro name=>simp only[dH]at aS ⊢;exact akJ Γ cm (by simpa [Op.operands,Call.operands] using od) V cj ad aB aS
  |builtin b=>
   have BY:aj.map ρ=(ba E args).toArray:=by rw[<- od];apply Io;simp[Op.operands,Call.operands]
   cases b<;>simp only[dH]at aS ⊢<;>first|exact aS.elim|skip
   all_goals simp only[execOp,cm,resolve,invoke,builtin,Sem.run_bind,Sem.run_pure,Result.andThen_ok,BY]
   case append=>
    rcases args with _|⟨x,_|⟨y,_|⟨aE7,r⟩⟩⟩<;>try (simp[tZ,R.bad]at aS;done)
    simpa [ba] using akp (P:=P) (E:=E) (tys:=tys.toList) (ty:=o.type) V cj ad aS
   case len=>
    revert aS;split
    ·rename_i T bJ;intro aS;rcases args with _|⟨x,_|⟨y,r⟩⟩<;>try (cases x<;>simp[yP,R.bad]at aS;done)
     ·trivial
     ·simpa [ba] using aki (P:=P) (E:=E) (κ:=κ) (ty:=o.type) (T:=T) (tys:=tys) V (by rw[<- Tk,bJ];rfl) aS
    grind [R.bad]
   case min=>simpa using akj (P:=P) (E:=E) (κ:=κ) (tys:=tys) (ty:=o.type) V aS
   case max=>simpa using akk (P:=P) (E:=E) (κ:=κ) (tys:=tys) (ty:=o.type) V aS
 case slice T aE5 lo hi mx=>
  cases mx with
  |some m=>
   revert aS;simp only[dH];unfold BV Lx tX
   grind [R.bad]
  |none=>cases lo<;>cases hi<;>rcases args with _|⟨x,_|⟨y,_|⟨aE7,_|⟨u,r⟩⟩⟩⟩<;>simp[Op.operands,ba]at od<;>simp only[execOp,cm,Option.map,od]<;>exact aky V cj ad aS
 case build T ps=>have:=akd (E:=E) (κ:=κ) V aS;simp only[execOp,cm,aaz od];exact this
 case buildSlice T n ps=>have:=ake (E:=E) V cj ad aB aS;simp only[execOp,cm,aaz od];exact this
 case makeFunc fn first cap=>
  have D:first.map ρ=(ba E (args.take first.size)).toArray:=by rw[akO,<- od];apply Io;simp[Op.operands]
  have O:cap.map ρ=(ba E (args.drop first.size)).toArray:=by rw[akP,<- od];apply Io;simp[Op.operands]
  simp only[execOp,cm,D,O];exact Good.pure V rfl rfl rfl
 case makeMap T r=>
  cases r with
  |some r=>trivial
  |none=>
   cases args with
   |nil=>simp only[execOp,cm];grind [akF,dH]
   |cons x r=>trivial
 all_goals(rcases args with _|⟨x,_|⟨y,_|⟨aE7,_|⟨u,r⟩⟩⟩⟩<;>simp[Op.operands,ba]at od)
 all_goals try (simp only[dH]at aS;exact aS.elim)
 case nilCheck=>grind [aka,dH]
 all_goals simp only[dH,execOp,cm,od]at aS ⊢
 all_goals first|with_reducible exact ajP V cj ad aS|with_reducible exact ajQ V cj ad (λk ad=>aB k (by simpa [cP] using ad))|with_reducible exact ajS V aS|with_reducible exact ajU V aS|with_reducible exact akx V aS|with_reducible exact aj3 V aS|with_reducible exact akD V aS|with_reducible exact aj9 V aS|with_reducible exact akg V cj ad aS|with_reducible exact ajX V aS|with_reducible exact ajY V aS|with_reducible exact aj8 V aS|with_reducible exact aj7 V aS|with_reducible exact ajZ V aS|with_reducible exact akM V aS|with_reducible exact akG V aS|with_reducible exact akH V aS|with_reducible exact akN V aS|exact Good.pure V rfl rfl rfl
end
section
variable {P:bR}{W:ar}{bs:aD}{κ:Nat}{h:Nat->Option bL}{K:aY}(Γ:Env P)
theorem aaA(ad:k∈cP (l.take n)):k∈cP l:=by
 obtain⟨y,cG,FO⟩:=sn.1 ad
 grind [sn]
theorem aaB(ad:k∈cP (l.drop n)):k∈cP l:=by
 obtain⟨y,cG,FO⟩:=sn.1 ad
 grind [sn]
theorem akR{x:aM}(ad:k∈(l.getD n (.v x)).keys):k∈cP l:=by
 rw[mI]at ad;cases aN:l[n]? with
 |none=>grind [ag.keys]
 |some y=>grind [sn]
def akS{k o:Nat}{vs ps:List ag}(ad:k∈cP (kT vs o ps)):k∈cP vs\/k∈cP ps:=by
 rw[kT,uY,uY]at ad;simp only[hq]at ad;rcases ad with(ad|ad)|ad
 ·exact .inl (aaA ad)
 ·exact .inr ad
 ·exact .inl (aaB ad)
def akT(cj:ki K h)(au:jd (h k)=some vs):K k/\∀j∈cP vs,K j:=by
 cases ad:h k with
 |none=>simp_all [jd]
 |some e=>
  have:=cj k e ad;cases e with
  |obj d R=>simp_all [jd]
  |mp ks us=>simp_all [jd]
  |cells T us=>grind [jd,bL.keys]
  |row T s n us=>grind [jd,bL.keys]
def aaC(W:ar)(b:Nat):∀o n,cP (mb W b o n)=[]
 |_,0=>rfl
 |o,n+1=>by simp[mb,cP,ag.keys,aaC W b (o+1) n]
theorem akU{args:List ag}(ad:k∈cP ((idx.zip args).map (·.2))):k∈cP args:=by obtain⟨y,cG,FO⟩:=sn.1 ad;obtain⟨p,hp,rfl⟩:=qp.1 cG;exact sn.2 ⟨p.2,(TC hp).2,FO⟩
theorem s4.mk'(au:∀k∈r.val.keys,K k\/k=dV κ)(hu:∀p∈r.bF,(K p.1\/p.1=dV κ)/\∀e,p.2=some e->∀k∈e.keys,K k):s4 K κ r:=by grind [s4,dV]
def s4.nil(au:r.val.keys=[])(hu:r.bF=[]):s4 K κ r:=by grind [mk']
def akV(op:Op)(args:List ag)(cj:ki K h)(aB:∀k∈cP args,K k)(aS:(dH Γ W bs κ h op args).side):s4 K κ (dH Γ W bs κ h op args):=by
 have bo:∀f aj,(∀k∈cP aj,K k)->(iL Γ W bs κ h f aj).side->s4 K κ (iL Γ W bs κ h f aj):=λf aj Pz=>by
  unfold iL;split
  ·rename_i s _;grind [Spec.keys]
  grind [R.bad]
 have key:∀{aj:List ag} {place:Nat->Option (Nat×Nat)} {zs:aX} {idx:aD} {cells:List ag},qt place (zs.map .v) (idx.zip aj)=some cells->(∀k∈cP aj,K k)->∀k∈cP cells,K k:=λaW Pz k ad=>by
  rcases TV aW ad with D|D
  all_goals grind [so,akU]
 have au:∀{k vs},jd (h k)=some vs->K k/\∀j∈cP vs,K j:=akT cj;have akW:∀{k o vs ps e},jd (h k)=some vs->FI (h k) o ps=some e->∀j∈e.keys,j∈cP vs\/j∈cP ps:=by
  intro k o vs ps e D O j Y;cases hh:h k with
  |none=>simp_all [jd]
  |some iC=>cases iC<;>simp[hh,jd]at D<;>simp[hh,FI]at O<;>subst O<;>subst D<;>exact akS Y
 have aI:∀{k T s n vs},h k=some (.row T s n vs)->K k/\∀j∈cP vs,K j:=cj _ _;have hm:∀{k ks vs},h k=some (.mp ks vs)->K k/\∀j∈cP vs,K j:=cj _ _;revert aS
 unfold dH DG Ir s3 wk u0 FJ DM nL gS DK BW DL LA Lz Ap FR BV Lx Pw Ix Lw tX TR BQ FK An Am rI xv DQ IC yP tZ Iv FT DP hN IB DS Iz Iy BX IA q2;simp only[cond_eq_ite]
 repeat' first|exact Ia|exact λ_=>s4.nil rfl rfl|split
 all_goals first|refine bo _ _ ?_|refine λ_=>s4.mk' ?_ ?_
 all_goals simp only[R.ok,R.eK,R.new,ag.keys,cP,hq,uY,gG,l8,tS,uX,DD,false_implies,TH,forall_eq,forall_eq_or_imp,true_or,or_true,we,yL,qo,forall_eq',bL.keys,so,Ll,aaC,<- K6,<- Tj,reduceCtorEq]at aB ⊢
 all_goals try grind [-> aaA,-> aaB,-> akR,Ll,bL.keys,uY,-> akE,so]
 exact⟨.inl (au ‹_›).1,λe he j Y=>(akW ‹_› he j Y).elim ((au ‹_›).2 j) λq=>aB.2 j (Ll _▸q)⟩
theorem akX(op:Op)(args:List ag)(bu:Nat->Option bL)(aS:(dH Γ W bs κ h op args).side)(aI:∀k∈(dH Γ W bs κ h op args).reads,bu k=h k) :
  dH Γ W bs κ bu op args=dH Γ W bs κ h op args:=by
 have bo:∀f aj,(iL Γ W bs κ h f aj).side->(∀k∈(iL Γ W bs κ h f aj).reads,bu k=h k)->iL Γ W bs κ bu f aj=iL Γ W bs κ h f aj:=λf aj=>by
  unfold iL;split
  ·rename_i s _;exact s.loc W bs κ h bu aj
  ·exact Ia
 revert aS aI;unfold dH DG Ir s3 wk u0 FJ DM nL BW LA Ap FR BV Lx Pw Ix Lw BQ An yP tZ DP hN IB DS Iz Iy BX IA q2 Lz;simp only[cond_eq_ite]
 repeat' first|exact Ia|exact λ_ _=>rfl|exact bo _ _|split
 all_goals try (intro V aI;first|(simp_all;done)|grind)
end
abbrev Fr:=Nat->eJ
variable{φ:Fr}
abbrev ca:=Nat->Option bL
variable{h:ca}
def jf(φ:Fr)(w:Bool):Operand->Prop×ag
 |.tmp t=>match φ t with
  |.is x=>(True,x)
  |.oL b x=>(w=true->b=true,x)
  |.any=>(w=false,.v undef)
 |.const v=>(True,.v v)
 |.global g=>(True,.v (.pointer (some ⟨g,0,none⟩)))
 |.func f=>(True,.v (.func (.func f) #[] #[]))
def jg(φ:Fr)(w:Bool):List Operand->Prop×List ag
 |[]=>(True,[])
 |o::r=>((jf φ w o).1/\(jg φ w r).1,(jf φ w o).2::(jg φ w r).2)
def ga(φ:Fr)(ops:Array Oper):Option (Nat×Bool)->Prop×Bool
 |none=>(True,true)
 |some (j,want)=>match(ops[j]?).bind (·.dst) with
  |some d=>match φ d with
   |.is (.v (.bool b))=>(True,b==want)
   |.oL c (.v (.bool b))=>(True,c&&(b==want))
   |_=>(False,false)
  |none=>(False,false)
def u2(akY:Bool)(w:Bool)(x:ag):eJ:=match akY,w with
 |true,_=>.is x
 |false,w=>.oL w x
def DT(c:Bool):ag->ag->ag
 |.v (.bool a),.v (.bool b)=>.v (.bool (bif c then a else b))
 |.v a,.v b=>.v (bif c then a else b)
 |x,y=>bif c then x else y
structure S where
 side:Prop
 cS:eJ
 bF:List (Nat×Option bL)
 b7:Option (List PanicEntry)
 iq:List Nat
 reads:List Nat
 ib:List Nat
def gu{α:Type}(u:List (Nat×α)):List Nat:=u.map (·.1)
def step(Γ:Env P)(W:ar)(bs:aD)(nt:Nat)(ops:Array Oper)(κ:Nat)(φ:Fr)(h:ca)(o:Oper):S:=
 let g:=ga φ ops o.guard
 match o.op with
 |.pick c a b=>
  let cp:=jf φ g.2 c
  match cp.2 with
  |.v (.bool nh)=>
   let bS:=jf φ (g.2&&nh) a
   let nM:=jf φ (g.2&&!nh) b
   { side:=g.1/\cp.1/\(nh=true->bS.1)/\(nh=false->nM.1)/\(∀d,o.dst=some d->d<nt),cS:=u2 o.guard.isNone g.2 (DT nh bS.2 nM.2),bF:=[],b7:=none,iq:=[],reads:=[],ib:=[] }
  |_=>{ side:=False,cS:=.any,bF:=[],b7:=none,iq:=[],reads:=[],ib:=[] }
 |op=>
  let e:=jg φ g.2 op.operands.toList
  let r:=dH Γ W bs κ h op e.2
  { side:=g.1/\e.1/\(g.2=true->r.side)/\(∀d,o.dst=some d->d<nt),cS:=u2 o.guard.isNone g.2 r.val,bF:=bif g.2 then r.bF else [],b7:=bif g.2 then r.b7 else none,iq:=r.iq,reads:=r.reads,ib:=gu r.bF }
def ss(φ:Fr)(d:Option Nat)(x:eJ):Fr:=match d with
 |some d=>bF φ d x
 |none=>φ
section
variable {P:bR}{W:ar}{bs:aD}{κ:Nat}{E:dF}{F:lK}{h:ca}{w:ar}{K:aY}(Γ:Env P)
def p8(E:dF)(φ:Fr)(a:Act):Prop:=∀t,fits E (φ t) (a.tmps.getD t undef)
theorem PA{x:Operand}(aW:p8 E φ a)(aK:g=true)(D:(jf φ g x).1):a.eval x=den E (jf φ g x).2:=by
 subst aK;cases x with
 |tmp t=>
  have:=aW t;simp only[jf]at D ⊢;simp only[Act.eval]
  grind [fits]
 |const v=>rfl
 |global g=>rfl
 |func f=>rfl
def aaD{φ:Fr}{a:Act}{g:Bool}(aW:p8 E φ a)(aK:g=true):∀{l:List Operand},(jg φ g l).1->l.map a.eval=ba E (jg φ g l).2
 |[],_=>rfl
 |x::r,h=>by simp only[jg]at h ⊢;simp only[fc,ba,PA aW aK h.1,aaD aW aK h.2]
def T1(aW:p8 E φ a)(D:(ga φ ops o.guard).1):Region.wanted o (yielded ops a.tmps)=(ga φ ops o.guard).2:=by
 unfold Region.wanted;cases aK:o.guard with
 |none=>rfl
 |some p=>
  obtain⟨j,want⟩:=p;rw[aK]at D;simp only[ga]at D ⊢;unfold yielded;revert D;cases ak:(ops[j]?).bind (·.dst) with
  |none=>simp
  |some d=>
   simp only[BM];have oe:=aW d;rw[tQ]at oe;split
   ·rename_i b Z;rw[Z]at oe;simp only[fits,den]at oe;intro _;cases aV:a.tmps[d]? with
    |none=>rw[aV]at oe;cases oe
    |some v=>simp_all
   ·rename_i c b Z;rw[Z]at oe;simp only[fits,den]at oe;intro _;cases c with
    |true=>
     simp only[cond_true]at oe;cases aV:a.tmps[d]? with
     |none=>rw[aV]at oe;cases oe
     |some v=>simp_all
    |false=>
     simp only[BN]at oe;cases aV:a.tmps[d]? with
     |none=>rfl
     |some v=>rw[aV]at oe;simp only[yH]at oe;subst oe;rfl
   simp
theorem p8.put{φ:Fr}{a:Act}{d:Option Nat}{x:eJ}{v:aM}(aW:p8 E φ a)(ak:∀i,d=some i->i<a.tmps.size)(aB:fits E x v):p8 E (ss φ d x) (a.put d v):=by
 cases d with
 |none=>exact aW
 |some i=>
  intro t;have hi:=ak i rfl;simp only[ss,Act.put];by_cases aV:t=i
  ·simp_all [iB]
  ·rw[hF _ _ aV,tQ,Tf (Ne.symm aV),<- tQ];exact aW t
def p8.congr(aW:p8 E φ a)(ad:∀t,∀k∈(φ t).keys,E k=cK k):p8 cK φ a:=λt=>ajL (ad t) (aW t)
theorem PB{F0 g:Bool}{x:ag}{v:aM}(hu:F0=true->g=true)(au:v=bif g then den E x else undef):fits E (u2 F0 g x) v:=by cases F0<;>cases g<;>simp[u2,fits]at *<;>exact au
def T2{F0 g:Bool}{x:ag}(hu:F0=true->g=true)(ad:k∈(u2 F0 g x).keys):g=true/\k∈x.keys:=by cases F0<;>cases g<;>simp[u2,eJ.keys]at *<;>exact ad
def B0(K:aY)(φ:Fr):Prop:=∀t,∀k∈(φ t).keys,K k
theorem aaE{x:Operand}(bo:B0 K φ)(aK:g=true)(D:(jf φ g x).1)(ad:k∈(jf φ g x).2.keys):K k:=by
 subst aK;cases x with
 |tmp t=>
  have:=bo t k
  grind [jf,eJ.keys]
 |const v=>cases ad
 |global g=>cases ad
 |func f=>trivial
def T3{φ:Fr}{g:Bool}{k:Nat}(bo:B0 K φ)(aK:g=true):∀{l:List Operand},(jg φ g l).1->k∈cP (jg φ g l).2->K k
 |[],_,ad=>by cases ad
 |x::r,D,ad=>by
  simp only[jg,cP,hq]at ad D;rcases ad with ad|ad
  ·grind [aaE]
  ·exact T3 bo aK D.2 ad
theorem akZ(E:dF)(c:Bool)(x y:ag):den E (DT c x y)=bif c then den E x else den E y:=by
 unfold DT
 grind
def ak0{c:Bool}{x y:ag}(ad:k∈(DT c x y).keys):(c=true/\k∈x.keys)\/(c=false/\k∈y.keys):=by
 unfold DT at ad
 grind
def ak1{nt:Nat}(hi:ops[i]?=some o)(bo:p8 E φ a)(V:an W bs E F h w)(jM:a.tmps.size=nt)(PC:B0 K φ)(cj:ki K h)(ad:∀k,k/8=κ->¬K k)
  (aS:(step Γ W bs nt ops κ φ h o).side) {Q:Exit->Act->World->Prop} {next:Act->World->Prop}
  (p9:(step Γ W bs nt ops κ φ h o).b7=none->∀cn M cK fC,(∀k,k/8≠κ->cK k=E k)->p8 cK (ss φ o.dst (step Γ W bs nt ops κ φ h o).cS) cn -> an W bs cK fC (dJ h (step Γ W bs nt ops κ φ h o).bF) M -> cn.tmps.size=nt->cn.defers=a.defers->next cn M)
  (F1:∀c,(step Γ W bs nt ops κ φ h o).b7=some c->∀M fC,an W bs E fC (dropKeys h (step Γ W bs nt ops κ φ h o).iq) M -> Q (.panic c) a M) :
  wpOp P ops Q i next a w:=by
 have T4:∀v,(a.put o.dst v).tmps.size=a.tmps.size/\(a.put o.dst v).defers=a.defers:=λv=>by cases o.dst<;>simp[Act.put]
 unfold wpOp;simp only[hi];by_cases DU:∃c x y,o.op=.pick c x y
 ·obtain⟨c,x,y,cm⟩:=DU;simp only[step,cm]at aS p9 F1;revert aS p9 F1;split
  ·rename_i nh T5;rintro⟨aK,J,aQ,Z,ak⟩ p9 F1;have T6:=T1 bo aK;rw[T6];cases yR:(ga φ ops o.guard).2 with
   |false=>
    simp only[xo,wc];refine p9 rfl (a.put o.dst undef) w E F (λ_ _=>rfl) (bo.put (λi hi=>jM▸ak i hi) (PB (λh=>?_) (by rw[yR];rfl))) V (by simp_all) (T4 _).2;cases ak2:o.guard with
    |none=>rfl
    |some p=>simp_all
   |true=>
    simp only[wg];left;refine ZS ?_;rw[yR]at J T5;have ak3:a.eval c=.bool nh:=by rw[PA bo rfl J,T5];rfl
    have LF:(execOp a.eval o).run P w=.ok (.value (if nh then a.eval x else a.eval y)) w:=by simp[execOp,cm,ak3,asBool]
    grind [p8.put,PB,akZ,PA,sq,dJ]
  simp
 ·have hX:step Γ W bs nt ops κ φ h o={ side:=(ga φ ops o.guard).1/\(jg φ (ga φ ops o.guard).2 o.op.operands.toList).1/\((ga φ ops o.guard).2=true->(dH Γ W bs κ h o.op (jg φ (ga φ ops o.guard).2 o.op.operands.toList).2).side)/\(∀d,o.dst=some d->d<nt),cS:=u2 o.guard.isNone (ga φ ops o.guard).2 (dH Γ W bs κ h o.op (jg φ (ga φ ops o.guard).2 o.op.operands.toList).2).val,bF:=bif (ga φ ops o.guard).2 then(dH Γ W bs κ h o.op (jg φ (ga φ ops o.guard).2 o.op.operands.toList).2).bF else [],b7:=bif (ga φ ops o.guard).2 then(dH Γ W bs κ h o.op (jg φ (ga φ ops o.guard).2 o.op.operands.toList).2).b7 else none,iq:=(dH Γ W bs κ h o.op (jg φ (ga φ ops o.guard).2 o.op.operands.toList).2).iq,reads:=(dH Γ W bs κ h o.op (jg φ (ga φ ops o.guard).2 o.op.operands.toList).2).reads,ib:=gu (dH Γ W bs κ h o.op (jg φ (ga φ ops o.guard).2 o.op.operands.toList).2).bF }:=by
   grind [step]
  rw[hX]at aS p9 F1;obtain⟨aK,he,aI,ak⟩:=aS;have T6:=T1 bo aK;rw[T6];cases yR:(ga φ ops o.guard).2 with
  |false=>
   simp only[xo,wc];simp only[yR,BN]at p9;refine p9 trivial (a.put o.dst undef) w E F (λ_ _=>rfl) (bo.put (λi hi=>jM▸ak i hi) (PB (λh=>?_) rfl)) V (by simp_all) (T4 _).2;cases ak2:o.guard with
   |none=>grind [ga]
   |some p=>simp_all
  |true=>
   simp only[wg];left;refine ZS ?_;simp only[yR,cond_true]at p9 F1 aI he;have T7:=akQ Γ o a.eval _ (aaD bo rfl he) V cj ad (λk ad=>T3 PC rfl he ad) (aI trivial);refine sq.mono T7 (λv M au=>?_) (λc M J=>?_)
   ·obtain⟨hp,cK,fC,aZ,au,ds⟩:=au;refine p9 hp (a.put o.dst v) M cK fC aZ ((bo.congr λt k hd=>(aZ k λe=>ad k e (PC t k hd)).symm).put (λi hi=>jM▸ak i hi) (PB (λ_=>rfl) au)) ds (by simp_all) (T4 _).2
   grind
end
def ak4{α:Type}(f:Nat->α)(x y:α)(h:i≠j):bF (bF f i x) j y=bF (bF f j y) i x:=by grind [bF]
def aaF{α:Type}(f:Nat->α){i:Nat}(x:α):∀{v:List (Nat×α)},i∉gu v->dJ (bF f i x) v=bF (dJ f v) i x
 |[],_=>rfl
 |(j,y)::r,h=>by simp only[gu,fc,gG,not_or]at h;simp only[dJ];rw[ak4 f x y h.1];exact aaF (bF f j y) x (by simpa [gu] using h.2)
def aaG{α:Type}(f:Nat->α):∀{u v:List (Nat×α)},(∀k∈gu u,k∉gu v)->dJ (dJ f u) v=dJ (dJ f v) u
 |[],v,_=>rfl
 |(i,x)::r,v,h=>by simp only[dJ];rw[aaG (bF f i x) (λk ad=>h k (by grind [gu])),aaF f x (h i (by simp[gu]))]
theorem F2{α:Type}(f:Nat->α){k:Nat}:∀{u:List (Nat×α)},k∉gu u->dJ f u k=f k
 |[],_=>rfl
 |(i,x)::r,h=>by simp only[gu,fc,gG,not_or]at h;simp only[dJ];rw[F2 _ (by simpa [gu] using h.2),hF _ _ h.1]
def lO{α:Type}:List (List (Nat×α))->Nat->(Nat->Bool)->(Nat->α)->(Nat->α)
 |[],_,_,f=>f
 |u::r,i,S,f=>lO r (i+1) S (if S i then dJ f u else f)
def PD{α:Type}{k:Nat}:∀{l:List (List (Nat×α))} {n:Nat} {S bz:Nat->Bool} {f xw:Nat->α},f k=xw k->(∀i u,l[i]?=some u->k∈gu u->S (n+i)=bz (n+i))->lO l n S f k=lO l n bz xw k
 |[],_,_,_,_,_,aW,_=>aW
 |u::r,n,S,bz,f,xw,aW,h=>by
  simp only[lO];refine PD (l:=r) ?_ (λi v hi ad=>?_)
  ·by_cases ad:k∈gu u
   ·have A:=h 0 u rfl ad;simp only[tT]at A;rw[A];split
    ·have:∀(g Ax:Nat->α) (u:List (Nat×α)),g k=Ax k->dJ g u k=dJ Ax u k:=by
      intro g Ax u
      induction u generalizing g Ax with
      |nil=>exact λh=>h
      |cons p q bb=>intro aK;simp only[dJ];grind [bF]
     grind
    ·exact aW
   ·have bg:(if S n then dJ f u else f) k=f k:=by grind [F2]
    have bN:(if bz n then dJ xw u else xw) k=xw k:=by grind [F2]
    simp_all
  ·have:=h (i+1) v (by trivial) ad
   grind
def aaH{α:Type}{u:List (Nat×α)}:∀{l:List (List (Nat×α))} {n:Nat} {S:Nat->Bool} {f:Nat->α},(∀i v,l[i]?=some v->S (n+i)=true->∀k∈gu u,k∉gu v)->lO l n S (dJ f u)=dJ (lO l n S f) u
 |[],_,_,_,_=>rfl
 |v::r,n,S,f,h=>by
  simp only[lO];have e:(if S n then dJ (dJ f u) v else dJ f u)=dJ (if S n then dJ f v else f) u:=by
   split
   ·rename_i bp;exact aaG f (h 0 v rfl (by trivial))
   ·rfl
  rw[e];exact aaH (l:=r) λi eT hi bp=>h (i+1) eT (by trivial) (by grind)
def aaI{α:Type}:∀{l:List (List (Nat×α))} {n:Nat} {S bz:Nat->Bool} {f:Nat->α},(∀i,n<=i->S i=bz i)->lO l n S f=lO l n bz f
 |[],_,_,_,_,_=>rfl
 |u::r,n,S,bz,f,h=>by simp only[lO,h n (eo n)];exact aaI λi hi=>h i U
def T8{α:Type}{u:List (Nat×α)}{j:Nat}:∀{l:List (List (Nat×α))} {n:Nat} {S bz:Nat->Bool} {f:Nat->α},n<=j->l[j-n]?=some u->S j=false->bz j=true->(∀i,i≠j->bz i=S i) ->
  (∀i v,j<i->l[i-n]?=some v->S i=true->∀k∈gu u,k∉gu v)->lO l n bz f=dJ (lO l n S f) u
 |[],n,S,bz,f,_,hu,_,_,_,_=>by simp at hu
 |v::r,n,S,bz,f,aE,hu,bp,T9,eL,h=>by
  simp only[lO];by_cases Y:n=j
  ·subst Y;simp only[FF,OM,qo]at hu;subst hu;simp only[T9,bp,wg,xo,wc];rw[aaI (S:=bz) (bz := S) λi hi=>eL i U];refine aaH λi eT hi Ay=>h (n+1+i) eT U ?_ Ay
   grind
  ·rw[eL n Y];refine T8 U ?_ bp T9 eL λi eT F3 hi Ay=>h i eT F3 ?_ Ay
   all_goals grind
inductive Reach (ops:Array Oper):Nat->Nat->Prop where
 |Ua {i j:Nat} {o:Oper} {e:Edge} (H:ops[j]?=some o) (he:e∈o.after) (Z:Region.binds .any e=true) (hi:e.on=i):Reach ops i j
 |trans {i m j:Nat}:Reach ops i m->Reach ops m j->Reach ops i j
def aaJ{α β:Type}(p:β->Prop)(f:β->α->β):∀(l:List α) (b:β),p b->(∀b a,a∈l->p b->p (f b a))->p (l.foldl f b)
 |[],b,Z,_=>Z
 |a::l,b,Z,h=>aaJ p f l (f b a) (h b a bq Z) λp6 cn PE=>h p6 cn (by simp[PE])
def aaK(ops:Array Oper):∀(l:List Oper) (k:Nat) (acc:Array Nat),acc.size=k->(∀j,l[j]?=ops[k+j]?)->(∀i j,(acc.getD j 0).testBit i=true->Reach ops i j) ->
  ∀i j,((l.foldl (λacc (o:Oper)=>acc.push (o.after.foldl (λs e=>if Region.binds .any e then s ||| 2^e.on ||| acc.getD e.on 0 else s) 0)) acc).getD j 0).testBit i=true->Reach ops i j
 |[],k,acc,_,_,Ub=>Ub
 |o::l,k,acc,bP,aN,Ub=>by
  simp only[List.foldl_cons];refine aaK ops l (k+1) _ (by simp[bP]) (λj=>by have:=aN (j+1);grind) ?_;intro i j lN;have H:ops[k]?=some o:=by simpa using (aN 0).symm
  by_cases rH:j=k
  ·subst rH;rw[tQ,<- bP,Array.getElem?_push_size]at lN;simp only[yH]at lN;rw[<- Array.foldl_toList]at lN
   have hinv:=aaJ (λs:Nat=>∀i,s.testBit i=true->Reach ops i j) (λs e=>if Region.binds .any e then s ||| 2^e.on ||| acc.getD e.on 0 else s) o.after.toList 0 bq (by
    intro s e he V i hi
    split at hi
    ·rename_i Z
     simp only[Nat.testBit_or,wa]at hi
     have ak5:Reach ops e.on j:=.Ua H (aC he) Z rfl
     rcases hi with(hi|hi)|hi
     ·exact V i hi
     ·grind
     ·exact .trans (Ub i e.on hi) ak5
    simp_all)
   simp_all
  simp_all [Array.getElem?_push]
def aaL(ops:Array Oper)(i j:Nat)(h:((Region.before ops).getD j 0).testBit i=true):Reach ops i j:=by unfold Region.before at h;rw[<- Array.foldl_toList]at h;exact aaK ops ops.toList 0 #[] rfl (λj=>by simp) bq i j h
def aaM{S:Nat->Bool}(bp:∀j o,ops[j]?=some o->S j=true->∀e∈o.after,Region.binds .any e=true->S e.on=true)(h:Reach ops i j):S j=true->S i=true:=by induction h<;>grind
section
variable {P:bR}{W:ar}{bs:aD}{nt:Nat}{ops:Array Oper}{K:aY}{κ:Nat}{φ u3:Fr}{h bu:ca}(Γ:Env P)
theorem LG(cm:∀c x y,o.op≠.pick c x y):step Γ W bs nt ops κ φ h o={ side:=(ga φ ops o.guard).1/\(jg φ (ga φ ops o.guard).2 o.op.operands.toList).1/\((ga φ ops o.guard).2=true->(dH Γ W bs κ h o.op (jg φ (ga φ ops o.guard).2 o.op.operands.toList).2).side)/\(∀d,o.dst=some d->d<nt),cS:=u2 o.guard.isNone (ga φ ops o.guard).2 (dH Γ W bs κ h o.op (jg φ (ga φ ops o.guard).2 o.op.operands.toList).2).val,bF:=bif (ga φ ops o.guard).2 then(dH Γ W bs κ h o.op (jg φ (ga φ ops o.guard).2 o.op.operands.toList).2).bF else [],b7:=bif (ga φ ops o.guard).2 then(dH Γ W bs κ h o.op (jg φ (ga φ ops o.guard).2 o.op.operands.toList).2).b7 else none,iq:=(dH Γ W bs κ h o.op (jg φ (ga φ ops o.guard).2 o.op.operands.toList).2).iq,reads:=(dH Γ W bs κ h o.op (jg φ (ga φ ops o.guard).2 o.op.operands.toList).2).reads,ib:=gu (dH Γ W bs κ h o.op (jg φ (ga φ ops o.guard).2 o.op.operands.toList).2).bF }:=by grind [step]
theorem guard_true(aE:o.guard.isNone=true):(ga φ ops o.guard).2=true:=by simp_all [ga]
def ak6(V:(step Γ W bs nt ops κ φ h o).side):(ga φ ops o.guard).1/\∀d,o.dst=some d->d<nt:=by grind [step]
def ak7(PC:B0 K φ)(cj:ki K h)(V:(step Γ W bs nt ops κ φ h o).side):
  (∀k∈(step Γ W bs nt ops κ φ h o).cS.keys,K k\/k/8=κ)/\∀p∈(step Γ W bs nt ops κ φ h o).bF,(K p.1\/p.1/8=κ)/\∀e,p.2=some e->∀k∈e.keys,K k\/k/8=κ:=by
 by_cases hp:∃c x y,o.op=.pick c x y
 ·obtain⟨c,x,y,cm⟩:=hp;simp only[step,cm]at V ⊢;revert V;split
  ·rename_i nh T5;rintro⟨aK,J,aQ,Z,ak⟩;refine⟨λk ad=>.inl ?_,bq⟩;obtain⟨PF,ad⟩:=T2 (λaE=>guard_true aE) ad;rw[PF]at aQ Z ad;rcases ak0 ad with⟨ak8,ad⟩|⟨ak8,ad⟩
   all_goals grind [aaE]
  simp
 ·rw[LG Γ λc x y e=>hp ⟨c,x,y,e⟩]at V ⊢;obtain⟨aK,he,aI,ak⟩:=V;simp only;cases yR:(ga φ ops o.guard).2 with
  |false=>refine⟨λk ad=>?_,bq⟩;have:=T2 (λaE=>by grind [guard_true]) ad;cases this.1
  |true=>rw[yR]at he aI;have bW:=akV Γ o.op _ cj (λk ad=>T3 PC rfl he ad) (aI rfl);refine⟨λk ad=>bW.1 k (T2 (λ_=>rfl) ad).2,λp hp=>bW.2 p (by trivial)⟩
def aaN{x:Operand}(aB:∀t,x=.tmp t->u3 t=φ t):jf u3 g x=jf φ g x:=by
 cases x with
 |tmp t=>simp_all [jf]
 |const v=>rfl
 |global g=>rfl
 |func f=>rfl
def aaO{g:Bool}:∀{l:List Operand},(∀t,Operand.tmp t∈l->u3 t=φ t)->jg u3 g l=jg φ g l
 |[],_=>rfl
 |x::r,aB=>by
  have bg:jf u3 g x=jf φ g x:=aaN λt e=>aB t (by simp[e])
  have bN:jg u3 g r=jg φ g r:=aaO (l:=r) λt e=>aB t (by simp[e])
  simp_all [jg]
def ak9{g:Option (Nat×Bool)}(aB:∀j w d,g=some (j,w)->(ops[j]?).bind (·.dst)=some d->u3 d=φ d):ga u3 ops g=ga φ ops g:=by
 cases g with
 |none=>rfl
 |some p=>grind [ga]
def ala(iN:∀t∈o.looksAt ops,u3 t=φ t)(V:(step Γ W bs nt ops κ φ h o).side)(hh:∀k∈(step Γ W bs nt ops κ φ h o).reads,bu k=h k):
  ga u3 ops o.guard=ga φ ops o.guard/\((ga φ ops o.guard).2=true->step Γ W bs nt ops κ u3 bu o=step Γ W bs nt ops κ φ h o):=by
 have bg:ga u3 ops o.guard=ga φ ops o.guard:=ak9 λj w d aK ak=>iN d (sh _ (by simp[aK,ak]))
 have bN:∀g,jg u3 g o.op.operands.toList=jg φ g o.op.operands.toList:=λg=>aaO λt aV=>iN t (xn _ (List.mem_filterMap.2 ⟨_,aV,rfl⟩))
 refine⟨bg,λPF=>?_⟩;by_cases hp:∃c x y,o.op=.pick c x y
 ·obtain⟨c,x,y,cm⟩:=hp;have dQ:∀g aE7,aE7∈[c,x,y]->jf u3 g aE7=jf φ g aE7:=λg aE7 bx=>aaN λt aV=>iN t (xn _ (List.mem_filterMap.2 ⟨aE7,by rw[cm];trivial,by rw[aV]⟩))
  grind [step]
 ·have aE:∀c x y,o.op≠.pick c x y:=λc x y e=>hp ⟨c,x,y,e⟩
  grind [LG,akX]
def u4(o:Oper)(s:S):List (Nat×eJ):=match o.dst with
 |some d=>[(d,s.cS)]
 |none=>[]
def Uc(φ:Fr)(o:Oper)(s:S):ss φ o.dst s.cS=dJ φ (u4 o s):=by grind [ss,u4,dJ]
def Ud{s:S}{t:Nat}:t∈gu (u4 o s) ↔ o.dst=some t:=by grind [u4,gu]
def lP(Γ:Env P)(W:ar)(bs:aD)(nt:Nat)(ops:Array Oper):List Oper->Nat->Fr->ca->List (Oper×S)
 |[],_,_,_=>[]
 |o::r,κ,φ,h=>(o,step Γ W bs nt ops κ φ h o)::lP Γ W bs nt ops r (κ+1) (ss φ o.dst (step Γ W bs nt ops κ φ h o).cS) (dJ h (step Γ W bs nt ops κ φ h o).bF)
def wm(T:List (Oper×S)):List (List (Nat×eJ)):=T.map λp=>u4 p.1 p.2
def wo(T:List (Oper×S)):List (List (Nat×Option bL)):=T.map λp=>p.2.bF
def LH{α:Type}:∀{l:List (List (Nat×α))} {n:Nat} {S:Nat->Bool} {f:Nat->α},(∀i,i<l.length->S (n+i)=false)->lO l n S f=f
 |[],_,_,_,_=>rfl
 |u::r,n,S,f,h=>by have A:=h 0 bq;simp only[tT]at A;simp only[lO,A,xo,wc];exact LH λi hi=>by have:=h (i+1) (by simp;omega);grind
def LI:∀(l:List Oper) (κ m:Nat) (φ:Fr) (h:ca) (i:Nat) (o:Oper) (s:S),(lP Γ W bs nt ops l κ φ h)[i]?=some (o,s) ->
  l[i]?=some o/\s=step Γ W bs nt ops (κ+i) (lO (wm (lP Γ W bs nt ops l κ φ h)) m (λj=>decide (j<m+i)) φ) (lO (wo (lP Γ W bs nt ops l κ φ h)) m (λj=>decide (j<m+i)) h) o
 |[],_,_,_,_,_,_,_,bJ=>by trivial
 |x::r,κ,m,φ,h,0,o,s,bJ=>by simp only[lP,OM,qo,ll]at bJ;obtain⟨rfl,rfl⟩:=bJ;refine⟨rfl,?_⟩;rw[LH (λi _=>by simp),LH (λi _=>by simp)];rfl
 |x::r,κ,m,φ,h,i+1,o,s,bJ=>by
  simp only[lP,ZD]at bJ;obtain⟨D,O⟩:=LI r (κ+1) (m+1) _ _ i o s bJ;refine⟨by trivial,?_⟩;rw[O];simp only[lP,wm,wo,fc,lO,show m<m+(i+1) by omega,decide_true,wg,<- Uc]
  grind
def Ue:∀(l:List Oper) (κ:Nat) (φ:Fr) (h:ca),(lP Γ W bs nt ops l κ φ h).length=l.length
 |[],_,_,_=>rfl
 |x::r,κ,φ,h=>by simp[lP,Ue r]
def LJ(ops:Array Oper)(i j:Nat):Bool:=if i<j then((Region.before ops).getD j 0).testBit i else((Region.before ops).getD i 0).testBit j
def ID(ops:Array Oper)(i j:Nat):Prop:=(i<j->Reach ops i j)/\(j<i->Reach ops j i)
def Uf{i j:Nat}(h:LJ ops i j=true):ID ops i j:=by
 unfold LJ at h;split at h
 ·rename_i lN;exact⟨λ_=>aaL ops i j h,λF3=>by omega⟩
 ·exact⟨λlN=>by omega,λ_=>aaL ops j i h⟩
structure Ug (ops:Array Oper)(T:List (Oper×S))(m:Nat):Prop where
 Ua:∀j o,ops[j]?=some o->∀e∈o.after,Region.binds .any e=true->e.on<j
 slot:∀i j Az B1 t,i≠j->ops[i]?=some Az->ops[j]?=some B1->B1.dst=some t->t∈Az.looksAt ops\/Az.dst=some t->ID ops i j
 heap:∀i j Az B1 PG Uh k,i<m->j<m->i≠j->T[i]?=some (Az,PG)->T[j]?=some (B1,Uh)->k∈gu Uh.bF->k∈PG.reads\/k∈gu PG.bF->ID ops i j
 aaP:∀j,m<=j->j<ops.size->Reach ops (m-1) j
end
structure jN where
 defers:List Deferred
 pins:List (Nat×Value)
def LK(az:jN)(E:dF):Prop:=∀p∈az.pins,E p.1=p.2
structure eG where
 n:Nat
 φ:Fr
 h:ca
variable{σ:eG}
structure Sat (W:ar)(bs:aD)(nt:Nat)(az:jN)(σ:eG)(a:Act)(w:ar):Prop where
 ex:∃E F,p8 E σ.φ a/\an W bs E F σ.h w/\LK az E
 size:a.tmps.size=nt
 defers:a.defers=az.defers
 aF:∀p∈az.pins,p.1/8<σ.n
 IE:B0 (· / 8<σ.n) σ.φ
 ad:ki (· / 8<σ.n) σ.h
def LL{α:Type}(f:Nat->α):∀{u:List (Nat×α)},(∃x,(k,x)∈u/\dJ f u k=x)\/(k∉gu u/\dJ f u k=f k):=by
 intro u
 induction u generalizing f with
 |nil=>exact .inr ⟨by simp[gu],rfl⟩
 |cons p r bb=>
  obtain⟨i,x⟩:=p;simp only[dJ];rcases bb (bF f i x) with⟨y,D,O⟩|⟨D,O⟩
  ·exact .inl ⟨y,by simp[D],O⟩
  ·by_cases ad:k=i
   ·subst ad;exact .inl ⟨x,bq,by rw[O,iB]⟩
   ·refine .inr ⟨?_,by rw[O,hF _ _ ad]⟩;simp only[gu,fc,gG,not_or]at D ⊢;exact⟨ad,by simpa [gu] using D⟩
def yS(ops:Array Oper)(φ:Fr):Fr:=λt=>if ops.toList.any (λo=>o.dst==some t) then .any else φ t
section
variable {P:bR}{W:ar}{bs:aD}{nt:Nat}{az:jN}{ops:Array Oper}(Γ:Env P)
def alb(aK:(ga φ ops o.guard).2=false)(V:(step Γ W bs nt ops κ φ h o).side):
  (∃x,(step Γ W bs nt ops κ φ h o).cS=.oL false x)/\(step Γ W bs nt ops κ φ h o).bF=[]/\(step Γ W bs nt ops κ φ h o).b7=none:=by
 have aE:o.guard.isNone=false:=by
  cases alc:o.guard.isNone with
  |false=>rfl
  |true=>rw[guard_true alc]at aK;cases aK
 by_cases hp:∃c x y,o.op=.pick c x y
 ·obtain⟨c,x,y,cm⟩:=hp;simp only[step,cm]at V ⊢;revert V;split
  ·intro _;rw[aK,aE];exact⟨⟨_,rfl⟩,rfl,rfl⟩
  ·exact Ia
 ·rw[LG Γ λc x y e=>hp ⟨c,x,y,e⟩]at V ⊢;simp only[aK,aE];exact⟨⟨_,rfl⟩,rfl,rfl⟩
def xx(n:Nat)(S:Nat->Bool)(k:Nat):Prop:=k/8<n\/∃j,S j=true/\k/8=n+j
abbrev aaQ (Γ:Env P)(W:ar)(bs:aD)(nt:Nat)(ops:Array Oper)(σ:eG):=lP Γ W bs nt ops ops.toList σ.n σ.φ σ.h
abbrev ua (T:List (Oper×S))(σ:eG)(S:Nat->Bool):=lO (wm T) 0 S σ.φ
abbrev ub (T:List (Oper×S))(σ:eG)(S:Nat->Bool):=lO (wo T) 0 S σ.h
structure Inv (W:ar)(bs:aD)(nt:Nat)(az:jN)(T:List (Oper×S))(σ:eG)(S:Nat->Bool)(a:Act)(w:ar):Prop where
 ex:∃E F,p8 E (ua T σ S) a/\an W bs E F (ub T σ S) w/\LK az E
 size:a.tmps.size=nt
 defers:a.defers=az.defers
 IE:B0 (xx σ.n S) (ua T σ S)
 ad:ki (xx σ.n S) (ub T σ S)
def aaR(T:List (Oper×S)):List Nat:=T.flatMap λp=>p.2.ib++p.2.iq
theorem aaS(ad:k∈gu (step Γ W bs nt ops κ φ h o).bF):k∈(step Γ W bs nt ops κ φ h o).ib:=by
 by_cases hp:∃c x y,o.op=.pick c x y
 ·obtain⟨c,x,y,cm⟩:=hp;simp only[step,cm]at ad ⊢;split at ad<;>exact ad
 ·rw[LG Γ λc x y e=>hp ⟨c,x,y,e⟩]at ad ⊢;simp only at ad ⊢;revert ad;cases(ga φ ops o.guard).2 with
  |true=>exact λad=>ad
  |false=>exact λad=>by cases ad
def aaT{α:Type}{k:Nat}:∀{l:List (List (Nat×α))} {n:Nat} {S:Nat->Bool} {f:Nat->α},(∀u∈l,k∉gu u)->lO l n S f k=f k
 |[],_,_,_,_=>rfl
 |u::r,n,S,f,h=>by
  simp only[lO];rw[aaT λv au=>h v (by simp[au])];split
  ·exact F2 f (h u bq)
  ·rfl
def aaU{α:Type}{k:Nat}:∀{l:List (List (Nat×α))} {n:Nat} {S:Nat->Bool} {f:Nat->α},(∀j u,l[j]?=some u->S (n+j)=true->k∉gu u)->lO l n S f k=f k
 |[],_,_,_,_=>rfl
 |u::r,n,S,f,h=>by
  simp only[lO];rw[aaU λj v au V=>h (j+1) v (aC au) (by rwa [show n+(j+1)=n+1+j by omega])];split
  ·rename_i V;exact F2 f (h 0 u rfl (aC V))
  ·rfl
structure aaV (az:jN)(σ:eG):Prop where
 f:B0 (· / 8<σ.n) σ.φ
 h:ki (· / 8<σ.n) σ.h
 p:∀p∈az.pins,p.1/8<σ.n
def one{T:List (Oper×S)}{Q:Exit->Act->World->Prop}{next:Act->World->Prop}{s:S}{S bz:Nat->Bool}{L:aD}(aaW:aaQ Γ W bs nt ops σ=T)
  (gi:∀j p,T[j]?=some p->(S j=true\/j=i)->∀k∈p.2.ib++p.2.iq,k∈L)
  (bJ:T[i]?=some (o,s)) (Ay:S i=false) (Ui:bz i=true) (eL:∀j,j≠i->bz j=S j)
  (Uj:∀t∈o.looksAt ops,ua T σ S t=ua T σ (λj=>decide (j<0+i)) t)
  (Uk:∀k∈s.reads,ub T σ S k=ub T σ (λj=>decide (j<0+i)) k)
  (PH:∀j v,i<j->(wm T)[j]?=some v->S j=true->∀k∈gu (u4 o s),k∉gu v)
  (PI:∀j v,i<j->(wo T)[j]?=some v->S j=true->∀k∈gu s.bF,k∉gu v)
  (aFa:Inv W bs nt az T σ S a w) (aS:s.side)
  (p9:s.b7=none->∀cn M,Inv W bs nt az T σ bz cn M -> next cn M)
  (F1:∀c,s.b7=some c->∀cn M,Sat W bs nt az ⟨σ.n,yS ops σ.φ,dropKeys σ.h L⟩ cn M -> Q (.panic c) cn M)
  (PJ:aaV az σ):wpOp P ops Q i next a w:=by
 have sp:∀{j o s},T[j]?=some (o,s)->ops[j]?=some o/\s=step Γ W bs nt ops (σ.n+j) (ua T σ λq=>decide (q<0+j)) (ub T σ λq=>decide (q<0+j)) o:=λ{j o s} h=>by
  subst aaW;have:=LI Γ ops.toList σ.n 0 σ.φ σ.h j o s h
  rwa [Tk]at this
 clear aaW;obtain⟨H,V⟩:=sp bJ;have F4:ua T σ bz=dJ (ua T σ S) (u4 o s):=T8 (ef i) (by simp[wm,bJ]) Ay Ui eL PH;have F5:ub T σ bz=dJ (ub T σ S) s.bF:=T8 (ef i) (by simp[wo,bJ]) Ay Ui eL PI;have out:∀t,(∀p∈ops,p.dst≠some t)->ua T σ S t=σ.φ t:=λt aV=>aaT λu hu=>by obtain⟨p,hp,rfl⟩:=qp.1 hu;obtain⟨j,Y⟩:=To hp;exact λak=>aV _ (ZK (sp Y).1) (Ud.1 ak)
 have ald:∀k,k∉L->ub T σ S k=σ.h k:=λk ad=>aaU λj u hu ale hm=>by simp only[wo,yG,ph]at hu;obtain⟨p,Y,rfl⟩:=hu;have:=(sp Y).2;refine ad (gi j p Y (.inl (lM j▸ale)) k (xn _ ?_));rw[this]at hm ⊢;exact aaS Γ hm
 obtain⟨⟨E,F,aW,hh,wq⟩,bP,rM,B2,xy⟩:=aFa
 have inv:∀{E F a w},p8 E (ua T σ bz) a->an W bs E F (ub T σ bz) w->LK az E->a.tmps.size=nt->a.defers=az.defers->((∀k∈s.cS.keys,xx σ.n S k\/k/8=σ.n+i)/\∀p∈s.bF,(xx σ.n S p.1\/p.1/8=σ.n+i)/\∀e,p.2=some e->∀k∈e.keys,xx σ.n S k\/k/8=σ.n+i)->Inv W bs nt az T σ bz a w:=λD O B aU bn ad=>by
  have conv:∀k,xx σ.n S k\/k/8=σ.n+i->xx σ.n bz k:=by
   rintro k ((ad|⟨j,Y,e⟩)|ad)
   ·exact .inl ad
   ·refine .inr ⟨j,?_,e⟩
    rwa [eL j λe=>by rw[e,Ay]at Y;cases Y]
   ·exact .inr ⟨i,Ui,ad⟩
  refine⟨⟨_,_,D,O,B⟩,aU,bn,λt k Ul=>?_,λk e q3=>?_⟩
  ·rw[F4]at Ul;rcases LL (ua T σ S) (k:=t) (u:=u4 o s) with⟨x,aB,p7⟩|⟨_,p7⟩<;>rw[p7]at Ul
   ·refine conv k (ad.1 k ?_)
    unfold u4 at aB;cases ak:o.dst<;>simp[ak]at aB
    rwa [<- aB.2]
   ·exact conv k (.inl (B2 t k Ul))
  ·rw[F5]at q3;rcases LL (ub T σ S) (k:=k) (u:=s.bF) with⟨x,aB,p7⟩|⟨_,p7⟩<;>rw[p7]at q3
   ·exact⟨conv k (ad.2 _ aB).1,λj Y=>conv j ((ad.2 _ aB).2 e q3 j Y)⟩
   ·exact⟨conv k (.inl (xy k e q3).1),λj Y=>conv j (.inl ((xy k e q3).2 j Y))⟩
 have alf:∀k,k/8=σ.n+i->¬xx σ.n S k:=by
  rintro k ad (cj|⟨j,Y,e⟩)
  ·omega
  ·rw[show j=i by omega,Ay]at Y;cases Y
 have mc:=ala Γ (W:=W) (bs:=bs) (nt:=nt) (κ:=σ.n+i) Uj (V▸aS) (V▸Uk);rw[<- V]at mc;rw[F4,F5]at inv;clear F4 F5 Uj Uk PH PI;generalize ua T σ S=φ at *;generalize ub T σ S=h at *;cases yR:(ga φ ops o.guard).2 with
 |true=>
  have he:=mc.2 (mc.1▸yR);have ad:=ak7 Γ (nt:=nt) B2 xy (by rw[he];exact aS);have hw:=ak1 Γ (Q:=Q) (next:=next) H aW hh bP B2 xy alf (by rw[he];exact aS);rw[he]at ad hw
  refine hw (λhp cn M cK fC aZ Um xz FQ aaX=>p9 hp cn M (inv (Uc φ o s▸Um) xz (λp hp=>(aZ p.1 (by have:=PJ.p p hp;omega)).trans (wq p hp)) FQ (aaX.trans rM) ad)) λc J M fC xz=>F1 c J a M ⟨⟨E,fC,λt=>?_,xz.drop λk e q3=>?_,wq⟩,bP,rM,PJ.p,λt k ad=>?_,λk e q3=>?_⟩
  ·simp only[yS];split
   ·trivial
   ·rename_i jM;rw[<- out t λp hp ak=>jM (Ty.2 ⟨p,Array.mem_toList_iff.2 hp,by simp[ak]⟩)];exact aW t
  ·simp only[dropKeys]at q3 ⊢;split at q3
   ·cases q3
   ·rename_i p1;rw[ab λhm=>p1 (gi i _ bJ (.inr rfl) k (sh _ hm)),ald k p1];exact q3
  ·simp only[yS]at ad;split at ad
   ·cases ad
   ·exact PJ.f t k ad
  ·simp only[dropKeys]at q3;split at q3
   ·cases q3
   ·exact PJ.h k e q3
 |false=>
  have aaY:=ak6 Γ (V▸aS);have aaZ:=alb Γ (mc.1▸yR) (V▸aS);rw[<- V]at aaZ;obtain⟨⟨x,aB⟩,hu,alg⟩:=aaZ;unfold wpOp;simp only[H,show Region.wanted o (yielded ops a.tmps)=false by rw[T1 aW (mc.1▸aaY.1),yR],xo,wc]
  refine p9 alg _ _ (inv (Uc φ o s▸aW.put (λd ak=>bP▸aaY.2 d ak) (by rw[aB];rfl)) (by rw[hu];exact hh) wq ?_ ?_ ⟨by simp[aB,eJ.keys],by simp[hu]⟩)
  ·rw[<- bP];cases o.dst<;>simp[Act.put]
  ·rw[<- rM];cases o.dst<;>simp[Act.put]
end
structure F6 where
 side:Prop
 n:Nat
 φ:Fr
 h:ca
 js:List (Option (List PanicEntry))
 lost:List Nat
 fx:List (List Nat×List Nat)
section
variable {P:bR}{W:ar}{bs:aD}{nt:Nat}{az:jN}{ops:Array Oper}(Γ:Env P)
def LM(s:S)(g:F6):F6:=⟨s.side/\g.side,g.n,g.φ,g.h,s.b7::g.js,s.ib++s.iq++g.lost,(s.ib,s.reads)::g.fx⟩
def mL(Γ:Env P)(W:ar)(bs:aD)(nt:Nat)(ops:Array Oper):List Oper->Nat->Fr->ca->F6
 |[],κ,φ,h=>⟨True,κ,φ,h,[],[],[]⟩
 |o::r,κ,φ,h=>LM (step Γ W bs nt ops κ φ h o) (mL Γ W bs nt ops r (κ+1) (ss φ o.dst (step Γ W bs nt ops κ φ h o).cS) (dJ h (step Γ W bs nt ops κ φ h o).bF))
def aa0:∀(l:List Oper) (κ m:Nat) (φ:Fr) (h:ca),
  (mL Γ W bs nt ops l κ φ h).φ=lO (wm (lP Γ W bs nt ops l κ φ h)) m (λ_=>true) φ /\
  (mL Γ W bs nt ops l κ φ h).h=lO (wo (lP Γ W bs nt ops l κ φ h)) m (λ_=>true) h /\
  (mL Γ W bs nt ops l κ φ h).js=(lP Γ W bs nt ops l κ φ h).map (·.2.b7) /\
  (mL Γ W bs nt ops l κ φ h).lost=aaR (lP Γ W bs nt ops l κ φ h) /\
  (mL Γ W bs nt ops l κ φ h).fx=(lP Γ W bs nt ops l κ φ h).map (λp=>(p.2.ib,p.2.reads)) /\
  ((mL Γ W bs nt ops l κ φ h).side->∀p∈lP Γ W bs nt ops l κ φ h,p.2.side)/\(mL Γ W bs nt ops l κ φ h).n=κ+l.length
 |[],_,_,_,_=>⟨rfl,rfl,rfl,rfl,rfl,by simp[lP],rfl⟩
 |o::r,κ,m,φ,h=>by
  obtain⟨D,O,B,aU,bn,cA,c1⟩:=aa0 r (κ+1) (m+1) (ss φ o.dst (step Γ W bs nt ops κ φ h o).cS) (dJ h (step Γ W bs nt ops κ φ h o).bF);simp only[mL,LM,lP,wm,wo,aaR,fc,lO,wg,OT,gG]at *
  grind [ss,dJ,u4]
def u5(ops:Array Oper):Bool:=
 (List.range ops.size).all λj=>match ops[j]? with
  |none=>true
  |some B1=>(B1.after.all λe=>!Region.binds .any e||decide (e.on<j))&&match B1.dst with
   |none=>true
   |some t=>(List.range ops.size).all λi=>i==j||match ops[i]? with
    |none=>true
    |some Az=>!((Az.looksAt ops).contains t||Az.dst==some t)||LJ ops i j
def u6(ops:Array Oper)(fx:List (List Nat×List Nat)):Bool:=
 (List.range fx.length).all λj=>match fx[j]? with
  |none=>true
  |some Un=>Un.1.isEmpty||(List.range fx.length).all λi=>i==j||match fx[i]? with
   |none=>true
   |some pi=>(Un.1.all λk=>!(pi.2.contains k||pi.1.contains k))||LJ ops i j
def LN(ops:Array Oper)(n:Nat):Bool:=(List.range ops.size).all λj=>decide (j<n)||LJ ops (n-1) j
def aa1{T:List (Oper×S)}{fx:List (List Nat×List Nat)}(D:u5 ops=true)(O:u6 ops fx=true)(B:m<ops.size->LN ops m=true)(aN:fx.length=m)(aa2:∀j p,j<m->T[j]?=some p->fx[j]?=some (p.2.ib,p.2.reads))
  (alh:∀p∈T,∀k∈gu p.2.bF,k∈p.2.ib) (A:m<ops.size->0<m):Ug ops T m:=by
 have lt:∀{i:Nat} {x:Oper},ops[i]?=some x->i<ops.size:=λaB=>(Zz.1 aB).1
 simp only[u5,u6,FA,yK,aN]at D O;refine⟨λj o H e he Z=>?_,λi j Az B1 t lN hi Y ak J=>?_,λi j Az B1 PG Uh k kk IF lN hi Y ad J=>?_,λj hm Y=>?_⟩
 ·have:=D j (lt H)
  grind [Array.all_eq_true_iff_forall_mem]
 ·have:=D j (lt Y);simp only[Y,ak,ob,FA,yK]at this;have:=this.2 i (lt hi);simp[hi,lN]at this;exact Uf (this.resolve_left λh=>J.elim h.1 h.2)
 ·have:=O j IF;have e4 := alh _ (si Y) k ad;have aE:∀{l:aD},k∈l->l.isEmpty=false:=λh=>by grind
  simp only[aa2 j _ IF Y,aE e4,Bool.false_or,FA,yK]at this;have:=this i kk;simp only[aa2 i _ kk hi,beq_false_of_ne lN,Bool.false_or,wa,FA]at this;refine this.elim (λh=>?_) Uf
  grind
 ·have:=B U;simp only[LN,FA,yK]at this;have:=this j Y;simp only[wa,oa]at this;have A:=A U;exact(Uf (this.resolve_left U)).1 U
structure Ask (Γ:Env P)(W:ar)(bs:aD)(nt:Nat)(az:jN)(ops:Array Oper)(T:List (Oper×S))(σ:eG)(m:Nat)(L:aD)(Q:Exit->Act->World->Prop):Prop where
 lP:aaQ Γ W bs nt ops σ=T
 aa3:aaV az σ
 side:∀j p,j<m->T[j]?=some p->p.2.side
 lost:∀j p,j<m->T[j]?=some p->∀k∈p.2.ib++p.2.iq,k∈L
 stop:m<ops.size->∃p,T[m-1]?=some p/\p.2.b7≠none/\0<m
 ali:ops.size<=m->(∀p∈T,p.2.b7=none)->∀cn M,Sat W bs nt az ⟨σ.n+ops.size,ua T σ (λ_=>true),ub T σ (λ_=>true)⟩ cn M -> Q .normal cn M
 b7:∀j p c,j<m->T[j]?=some p->p.2.b7=some c->∀cn M,Sat W bs nt az ⟨σ.n,yS ops σ.φ,dropKeys σ.h L⟩ cn M -> Q (.panic c) cn M
section
variable {Γ:Env P}{T:List (Oper×S)}{σ:eG}{m:Nat}{L:aD}{Q:Exit->Act->World->Prop}{bz:Nat->Bool}{a:Act}{w:ar}
abbrev IG (T:List (Oper×S))(S:Nat->Bool):Prop:=∀j p,S j=true->T[j]?=some p->p.2.b7=none
theorem Ask.len(aE3:Ask Γ W bs nt az ops T σ m L Q):T.length=ops.size:=by rw[<- aE3.lP,Ue,Tq]
def Ask.fin(aE3:Ask Γ W bs nt az ops T σ m L Q){S:Nat->Bool}(bp:∀i,i<ops.size->S i=true)(T9:∀i,S i=true->i<ops.size)(hp:IG T S)(aFa:Inv W bs nt az T σ S a w):Q .normal a w:=by
 have e:∀{α:Type} {l:List (List (Nat×α))} {f:Nat->α},l.length=ops.size->lO l 0 S f=lO l 0 (λ_=>true) f:=λaN=>funext λt=>PD rfl λi u hi _=>by grind
 have F4:ua T σ S=ua T σ (λ_=>true):=e (by simp[wm,aE3.len]);have F5:ub T σ S=ub T σ (λ_=>true):=e (by simp[wo,aE3.len]);obtain⟨hex,bP,rM,B2,xy⟩:=aFa;rw[F4]at B2 hex;rw[F5]at xy hex;have conv:∀k,xx σ.n S k->k/8<σ.n+ops.size:=λk ad=>by grind [xx]
 refine aE3.ali (Nat.le_of_not_lt λh=>?_) (λp h=>?_) a w ⟨hex,bP,rM,λp hp=>La (aE3.aa3.p p hp) (Nat.le_add_right _ _),λt k ad=>conv k (B2 t k ad),λk e ad=>⟨conv k (xy k e ad).1,λj Y=>conv j ((xy k e ad).2 j Y)⟩⟩
 ·obtain⟨p,D,O,_⟩:=aE3.stop h
  grind
 ·obtain⟨j,Y⟩:=To h
  grind [len]
def aa4{T:List (Oper×S)}(lp:Sat W bs nt az σ a w){aFc:Nat->Bool}(bp:∀i,aFc i=false):Inv W bs nt az T σ aFc a w:=by
 obtain⟨hex,bP,rM,_,B2,xy⟩:=lp;have F4:ua T σ aFc=σ.φ:=LH λi _=>bp _
 have F5:ub T σ aFc=σ.h:=LH λi _=>bp _
 exact⟨by simp_all,bP,rM,by rw[F4];grind [B0,xx],by rw[F5];grind [ki,xx]⟩
theorem Ask.step(aE3:Ask Γ W bs nt az ops T σ m L Q){next:Act->World->Prop}{S:Nat->Bool}(hi:i<ops.size)(DV:i<m)(PK:∀j,S j=true->j<m)(Ay:S i=false)(eL:∀j,bz j=if j=i then true else S j)(hp:IG T S)
  (Uj:∀j u o t,ops[i]?=some o->t∈o.looksAt ops->(wm T)[j]?=some u->t∈gu u->S j=decide (j<i))
  (Uk:∀j u o s k,T[i]?=some (o,s)->k∈s.reads->(wo T)[j]?=some u->k∈gu u->S j=decide (j<i))
  (PH:∀j v o s,T[i]?=some (o,s)->i<j->(wm T)[j]?=some v->S j=true->∀k∈gu (u4 o s),k∉gu v)
  (PI:∀j v o s,T[i]?=some (o,s)->i<j->(wo T)[j]?=some v->S j=true->∀k∈gu s.bF,k∉gu v)
  (aFa:Inv W bs nt az T σ S a w) (p9:∀cn M,IG T bz -> Inv W bs nt az T σ bz cn M -> next cn M):wpOp P ops Q i next a w:=by
 obtain⟨⟨o,s⟩,bJ⟩:∃p,T[i]?=some p:=⟨_,uS (aE3.len▸hi)⟩;have H:ops[i]?=some o:=by
  have:=aE3.lP▸bJ;have:=(LI Γ ops.toList σ.n 0 σ.φ σ.h i o s this).1
  simp_all
 refine one Γ aE3.lP (λj p hp Y=>aE3.lost j p (Y.elim (PK j) U) hp) bJ Ay (by simp[eL]) (λj Y=>by simp[eL,Y]) (λt aV=>PD rfl λj u hu ad=>?_) (λk ad=>PD rfl λj u hu hd=>?_) (λj v=>PH j v o s bJ) (λj v=>PI j v o s bJ) aFa (aE3.side i _ DV bJ) (λaE cn M=>p9 cn M λj p Y aDP=>?_) (λc=>aE3.b7 i _ c DV bJ) aE3.aa3
 all_goals grind
theorem Ask.seq(aE3:Ask Γ W bs nt az ops T σ m L Q):∀(n i:Nat),i+n=ops.size->∀a w,IG T (λj=>decide (j<i))->Inv W bs nt az T σ (λj=>decide (j<i)) a w->wpOps P ops Q (List.range' i n) a w
 |0,i,hi,a,w,hp,aFa=>aE3.fin (λj Y=>by simp;omega) (λj Y=>by simp_all) hp aFa
 |n+1,i,hi,a,w,hp,aFa=>by
  have DV:i<m:=OW λh=>by
   obtain⟨p,D,O,B⟩:=aE3.stop U
   grind
  rw[List.range'_succ,wpOps_cons];refine aE3.step (bz := λj=>decide (j<i+1)) U DV (λj Y=>by grind) bq (λj=>?_) hp (λ_ _ _ _ _ _ _ _=>rfl) (λ_ _ _ _ _ _ _ _ _=>rfl) (λj v o s _ Y _ V=>by grind) (λj v o s _ Y _ V=>by grind) aFa (aE3.seq n (i+1) U)
  grind
def Ask.any(aE3:Ask Γ W bs nt az ops T σ m L Q)(ak:Ug ops T m):∀(fuel:Nat) (listed:Array Bool) (a:Act) (w:ar),listed.size=ops.size->listed.toList.count false<=fuel ->
  (∀j o,ops[j]?=some o->listed.getD j false=true->∀e∈o.after,Region.binds .any e=true->listed.getD e.on false=true) ->
  IG T (λj=>listed.getD j false)->Inv W bs nt az T σ (λj=>listed.getD j false) a w->wpAny P .any ops Q fuel listed a w:=by
 have F7:∀{l:Array Bool} {i},i<l.size->l.getD i true=l.getD i false:=λhi=>by simp_all
 have aa5:∀{l:Array Bool} {i},l.getD i false=true->i<l.size:=λ{l i} h=>OW λaN=>by simp_all
 have done:∀(listed:Array Bool) (a:Act) (w:ar),listed.size=ops.size->Region.ready .any ops listed=[]->IG T (λj=>listed.getD j false)->Inv W bs nt az T σ (λj=>listed.getD j false) a w->Q .normal a w:=by
  intro listed a w bP aI B3 aFa;refine aE3.fin (λi=>?_) (λi hi=>bP▸aa5 hi) B3 aFa
  induction i using Nat.strongRecOn with
  |_ i bb=>
   intro hi;cases aN:listed.getD i false with
   |true=>rfl
   |false=>
    have:i∈Region.ready .any ops listed:=by
     refine O1.2 ⟨yK.2 hi,?_⟩;rw[F7 U,aN];simp only[Bool.not_false,FE,Ib hi,FD,yH,Zv];intro e he;cases Z:Region.binds .any e with
     |false=>rfl
     |true=>
      have ax:=ak.Ua i ops[i] (Ib hi) e he Z
      grind
    simp_all
 intro fuel
 induction fuel with
 |zero=>
  intro listed a w bP J me B3 aFa;have aI:Region.ready .any ops listed=[]:=by
   refine List.filter_eq_nil_iff.2 λi hi=>?_
   have lq:i<listed.size:=by simp_all
   have A:=List.count_eq_zero.1 (Nat.le_zero.1 J);have:listed.getD i true=true:=by
    rw[tQ,Ib lq]
    grind
   simp[this]
  exact⟨aI,done listed a w bP aI B3 aFa⟩
 |succ fuel bb=>
  intro listed a w bP J me B3 aFa;refine⟨λaI=>done listed a w bP aI B3 aFa,λi hi=>?_⟩;obtain⟨hi,Uo⟩:=O1.1 hi;have hi:=yK.1 hi;have H:ops[i]?=some ops[i]:=Ib hi;have Up:i<listed.size:=U;rw[F7 Up]at Uo
  simp only[H,FD,yH,ob,OU,Zv]at Uo;obtain⟨Uq,B4⟩:=Uo;have Ln:∀j,(listed.setIfInBounds i true).getD j false=if j=i then true else listed.getD j false:=λj=>by
   simp only[tQ,Array.getElem?_setIfInBounds]
   grind
  have aa6:∀j o,ops[j]?=some o->(listed.setIfInBounds i true).getD j false=true->∀e∈o.after,Region.binds .any e=true->(listed.setIfInBounds i true).getD e.on false=true:=by grind
  have AA:∀j,Reach ops j i->j≠i->listed.getD j false=true:=λj aI F3=>by
   have:=aaM (S:=λj=>(listed.setIfInBounds i true).getD j false) aa6 aI (by simp_all)
   simp_all
  have up:∀{q j},Reach ops q j->listed.getD q false=false->listed.getD j false=false:=λ{q j} aI z=>by
   cases aN:listed.getD j false with
   |false=>rfl
   |true=>have:=aaM (S:=λj=>listed.getD j false) me aI aN;simp_all
  have xA:m<ops.size->listed.getD (m-1) false=false:=λh=>by
   obtain⟨p,D,O,_⟩:=aE3.stop h
   grind
  have PK:∀j,listed.getD j false=true->j<m:=λj Y=>OW λh=>by have hW := bP▸aa5 Y;rw[up (ak.aaP j h hW) (xA U)]at Y;cases Y
  have DV:i<m:=OW λh=>by
   have aE:=xA U;by_cases e:m-1=i
   ·obtain⟨_,_,_,A⟩:=aE3.stop U;omega
   ·rw[AA _ (ak.aaP i h hi) e]at aE;cases aE
  have agree:∀j,(j≠i->ID ops i j)->listed.getD j false=decide (j<i):=λj J=>by grind [ID]
  have Ur:∀{j:Nat} {v:List (Nat×eJ)},(wm T)[j]?=some v->∃(o:Oper) (s:S),ops[j]?=some o/\v=u4 o s:=λ{j v} au=>by
   have bJ:=aE3.lP;simp only[wm,yG,ph]at au;obtain⟨⟨o,s⟩,D,O⟩:=au;have:=(LI Γ ops.toList σ.n 0 σ.φ σ.h j o s (aE3.lP▸D)).1
   grind
  have aa7:∀{j:Nat} {v:List (Nat×Option bL)},(wo T)[j]?=some v->∃(o:Oper) (s:S),T[j]?=some (o,s)/\v=s.bF:=λau=>by grind [wo]
  refine aE3.step (bz := λj=>(listed.setIfInBounds i true).getD j false) hi DV PK Uq Ln B3 (λj u o t aa8 aV hu ad=>?_) (λj u o s k bJ ad hu FZ=>?_) (λj v o s bJ lN au V k ad e4 => ?_) (λj v o s bJ lN au V k ad e4 => ?_) aFa λcn M kl alj=>bb _ cn M (aC bP) ?_ aa6 kl alj
  ·obtain⟨u7,hf,hW,rfl⟩:=Ur hu;exact agree j λF3=>ak.slot i j _ u7 t (Ne.symm F3) aa8 hW (Ud.1 ad) (.inl aV)
  ·obtain⟨u7,hf,hW,rfl⟩:=aa7 hu;by_cases Us:j<m
   ·exact agree j λF3=>ak.heap i j _ u7 _ hf k DV Us (Ne.symm F3) bJ hW FZ (.inl ad)
   grind
  ·obtain⟨u7,hf,hW,rfl⟩:=Ur au;have aa8:=(Ur (j:=i) (v:=u4 o s) (by simp[wm,bJ]));have:=up ((ak.slot i j _ u7 k U H hW (Ud.1 e4) (.inr ?_)).1 lN) Uq
   all_goals grind [u4,gu]
  ·obtain⟨u7,hf,hW,rfl⟩:=aa7 au;have:=up ((ak.heap i j _ u7 _ hf k DV (PK j V) U bJ hW e4 (.inr ad)).1 lN) Uq
   simp_all
  ·have bg:listed.toList[i]'(by trivial)=false:=by
    simp_all [ID]
   grind
end
def Ask.code{T:List (Oper×S)}{L:aD}{Q:Exit->Act->World->Prop}(aE3:Ask Γ W bs nt az ops T σ m L Q)(hm:P.follows .mixedOrders=true)(lp:Sat W bs nt az σ a w)(ak:d=true->Ug ops T m):(Code.region id ops d).wp P Q a w:=by
 cases d with
 |false=>refine wp_region ?_;rw[List.range_eq_range'];exact aE3.seq ops.size 0 U a w (λj _ Y=>by simp at Y) (aa4 lp bq)
 |true=>
  refine wp_region_any hm ?_;have V:Sat W bs nt az σ a { w with drawn:=w.drawn+1 }:=by obtain⟨⟨E,F,aW,hh,hp⟩,D,O,B,aU,bn⟩:=lp;exact⟨⟨E,F,aW,hh.grow ⟨rfl,rfl,rfl,eo _,λ_ _ _=>rfl⟩,hp⟩,D,O,B,aU,bn⟩
  have bx:∀i,(Array.replicate ops.size false).getD i false=false:=λi=>by simp only[tQ,Array.getElem?_replicate];split<;>rfl
  exact aE3.any (ak rfl) ops.size _ a _ bq bq (λj o _ Y=>by simp_all) (λj p Y=>by simp_all) (aa4 V bx)
def aa9:∀p∈lP Γ W bs nt ops ops.toList κ φ h,∀k∈gu p.2.bF,k∈p.2.ib:=λp hp k ad=>by
 obtain⟨j,Y⟩:=To hp;rw[(LI Γ ops.toList κ 0 φ h j p.1 p.2 Y).2]at ad ⊢
 grind [aaS]
def alk{Q:Exit->Act->World->Prop}(hm:P.follows .mixedOrders=true)(lp:Sat W bs nt az σ a w)
  {g:F6} (aK:mL Γ W bs nt ops ops.toList σ.n σ.φ σ.h=g) (aS:g.side) (ak:d=true->u5 ops=true/\u6 ops g.fx=true)
  (hQ:(∀x∈g.js,x=none)->∀cn M,Sat W bs nt az ⟨g.n,g.φ,g.h⟩ cn M -> Q .normal cn M)
  (lQ:∀c,some c∈g.js->∀cn M,Sat W bs nt az ⟨σ.n,yS ops σ.φ,dropKeys σ.h g.lost⟩ cn M -> Q (.panic c) cn M) :
  (Code.region id ops d).wp P Q a w:=by
 subst aK;obtain⟨D,O,B,aU,bn,cA,c1⟩:=aa0 Γ ops.toList σ.n 0 σ.φ σ.h (W:=W) (bs:=bs) (nt:=nt) (ops:=ops);rw[Tq]at c1;rw[D,O,B,c1]at hQ;rw[B,aU]at lQ;rw[bn]at ak;have aN:(lP Γ W bs nt ops ops.toList σ.n σ.φ σ.h).length=ops.size:=by simp[Ue]
 exact Ask.code Γ (m:=ops.size) ⟨rfl,⟨lp.IE,lp.ad,lp.aF⟩,λj p _ hp=>cA aS p (si hp),λj p _ hp k ad=>sj.2 ⟨p,si hp,ad⟩,λh=>by omega,
  λ_ aE=>hQ λx aB=>by grind,λj p c _ hp J=>lQ c (qp.2 ⟨p,si hp,J⟩)⟩ hm lp
  λe=>aa1 (ak e).1 (ak e).2 U (by simp_all) (λj p _ hp=>by simp[hp]) (aa9 Γ) U
structure PL where
 side:Prop
 b7:Option (List PanicEntry)
 lost:List Nat
 fx:List (List Nat×List Nat)
def PM(s:S)(g:PL):PL:=⟨s.side/\g.side,g.b7,s.ib++s.iq++g.lost,(s.ib,s.reads)::g.fx⟩
def AB(Γ:Env P)(W:ar)(bs:aD)(nt:Nat)(ops:Array Oper):List Oper->Nat->Fr->ca->PL
 |[],_,_,_=>⟨True,none,[],[]⟩
 |o::r,κ,φ,h=>match(step Γ W bs nt ops κ φ h o).b7 with
  |some c=>⟨(step Γ W bs nt ops κ φ h o).side,some c,(step Γ W bs nt ops κ φ h o).ib++(step Γ W bs nt ops κ φ h o).iq,[((step Γ W bs nt ops κ φ h o).ib,(step Γ W bs nt ops κ φ h o).reads)]⟩
  |none=>PM (step Γ W bs nt ops κ φ h o) (AB Γ W bs nt ops r (κ+1) (ss φ o.dst (step Γ W bs nt ops κ φ h o).cS) (dJ h (step Γ W bs nt ops κ φ h o).bF))
def aba{c:List PanicEntry}:∀(l:List Oper) (κ:Nat) (φ:Fr) (h:ca) {side:Prop} {lost:aD} {fx:List (List Nat×List Nat)},AB Γ W bs nt ops l κ φ h=⟨side,some c,lost,fx⟩->side ->
  ∃m p,fx.length=m+1/\(lP Γ W bs nt ops l κ φ h)[m]?=some p/\p.2.b7=some c/\∀j q,j<m+1->(lP Γ W bs nt ops l κ φ h)[j]?=some q->q.2.side/\(j<m->q.2.b7=none)/\(∀k∈q.2.ib++q.2.iq,k∈lost)/\fx[j]?=some (q.2.ib,q.2.reads)
 |[],_,_,_,_,_,_,hp,_=>by cases hp
 |o::r,κ,φ,h,_,_,_,hp,V=>by
  unfold AB at hp;simp only[lP];cases wq:(step Γ W bs nt ops κ φ h o).b7 with
  |some fE =>
   rw[wq]at hp;cases hp;refine⟨0,_,rfl,rfl,wq,λj q Y z=>?_⟩
   grind
  |none=>
   rw[wq]at hp;cases aB:AB Γ W bs nt ops r (κ+1) (ss φ o.dst (step Γ W bs nt ops κ φ h o).cS) (dJ h (step Γ W bs nt ops κ φ h o).bF) with
   |mk s p l f=>
    rw[aB]at hp;cases hp;obtain⟨m,p,D,O,B,aU⟩:=aba r _ _ _ aB V.2;refine⟨m+1,p,by simp[D],by trivial,B,λj q Y z=>?_⟩
    grind
def alm{Q:Exit->Act->World->Prop}(hm:P.follows .mixedOrders=true)(lp:Sat W bs nt az σ a w){side:Prop}{c:List PanicEntry}{lost:aD}{fx:List (List Nat×List Nat)}
  (aK:AB Γ W bs nt ops ops.toList σ.n σ.φ σ.h=⟨side,some c,lost,fx⟩) (ak:d=true->(u5 ops&&u6 ops fx&&LN ops fx.length)=true) (aS:side)
  (lQ:∀cn M,Sat W bs nt az ⟨σ.n,yS ops σ.φ,dropKeys σ.h lost⟩ cn M -> Q (.panic c) cn M):(Code.region id ops d).wp P Q a w:=by
 obtain⟨m,p,D,O,B,aU⟩:=aba Γ ops.toList σ.n σ.φ σ.h aK aS;rw[D]at ak;refine Ask.code Γ (m:=m+1) ⟨rfl,⟨lp.IE,lp.ad,lp.aF⟩,λj q Y z=>(aU j q Y z).1,λj q Y z=>(aU j q Y z).2.2.1,λ_=>⟨p,O,by simp[B],U⟩,λ_ aE=>?_,λj q fE Y z J=>?_⟩ hm lp λe=>?_
 ·grind
 ·grind
 ·have ak:=ak e;simp only[ob]at ak;exact aa1 ak.1.1 ak.1.2 (λ_=>ak.2) D (λj q Y z=>(aU j q Y z).2.2.2) (aa9 Γ) U
end
structure Ext (W:ar)(bs:aD)(aO:World)(bl:List Nat):Prop where
 keeps:cr W bs aO
 sub:∀b∈bl,W.heap.size<=b\/b∈bs
theorem Ext.refl(W:ar)(bs:aD):Ext W bs W bs:=⟨cr.refl W bs,λ_ h=>.inr h⟩
theorem Ext.trans{W aO s5:World}{bs bl wu:List Nat}(h:Ext W bs aO bl)(bu:Ext aO bl s5 wu):Ext W bs s5 wu :=⟨h.keeps.trans bu.keeps λb Z ax=>(h.sub b Z).resolve_left U,λb Z=>(bu.sub b Z).elim (λD=>.inl (xp h.keeps.size D)) λD=>h.sub b D⟩
theorem Ext.ir{W aO w:ar}(h:Ext W bs aO bl)(bu:cr aO bl w):cr W bs w:=h.keeps.trans bu λb Z ax=>(h.sub b Z).resolve_left U
def an.back{W aO w:ar}{E:dF}{F:lK}(he:Ext W bs aO bl)(V:an aO bl E F h w):an W bs E F h w:=⟨V.hc,V.lt,λk e ad b Z=>(V.nK k e ad b Z).elim (λD=>.inl (xp he.keeps.size D)) λD=>he.sub b D,V.apart,he.ir V.keeps⟩
def Sat.back{W aO:World}{bs bl:List Nat}{nt:Nat}{az:jN}{σ:eG}{a:Act}{w:ar}(he:Ext W bs aO bl)(h:Sat aO bl nt az σ a w):Sat W bs nt az σ a w:=by obtain⟨⟨E,F,aW,V,hp⟩,D,O,B,aU,bn⟩:=h;exact⟨⟨E,F,aW,V.back he,hp⟩,D,O,B,aU,bn⟩
abbrev og:=Exit->World->List Nat->eG->Prop
def ae(P:bR)(W:ar)(bs:aD)(nt:Nat)(az:jN)(c:Code)(Q:og)(σ:eG):Prop:=∀a w,Sat W bs nt az σ a w->c.wp P (λe cn M=>∃aO bl cd,Ext W bs aO bl/\Q e aO bl cd/\Sat aO bl nt az cd cn M) a w
def qv(W:ar)(bs:aD)(nt:Nat)(az:jN)(σ cd:eG):Prop:=∀a w,Sat W bs nt az σ a w->Sat W bs nt az cd a w
def yT(next:World->List Nat->eG->Prop)(Q:og):og
 |.normal,W,bs,σ=>next W bs σ
 |e,W,bs,σ=>Q e W bs σ
def B5(id:Nat)(Q:og):og
 |.exit abb,W,bs,σ=>if abb=id then Q .normal W bs σ else Q (.exit abb) W bs σ
 |e,W,bs,σ=>Q e W bs σ
section
variable {next:World->List Nat->eG->Prop}{Q:og}{W:ar}{bs:aD}{σ:eG}
def B6(h:next W bs σ):yT next Q .normal W bs σ:=h
def B7(h:Q .ret W bs σ):yT next Q .ret W bs σ:=h
def B8(h:Q (.exit i) W bs σ):yT next Q (.exit i) W bs σ:=h
def B9{c:List PanicEntry}(h:Q (.panic c) W bs σ):yT next Q (.panic c) W bs σ:=h
def Ca(h:Q .normal W bs σ):B5 id Q .normal W bs σ:=h
def Cb(h:Q .ret W bs σ):B5 id Q .ret W bs σ:=h
def Cc{c:List PanicEntry}(h:Q (.panic c) W bs σ):B5 id Q (.panic c) W bs σ:=h
def Cd(h:Q .normal W bs σ):B5 id Q (.exit id) W bs σ:=by simpa [B5] using h
def Ce(aE:i≠id)(h:Q (.exit i) W bs σ):B5 id Q (.exit i) W bs σ:=by simp_all [B5]
end
section
variable {P:bR}{W:ar}{bs:aD}{nt:Nat}{az:jN}{Q:og}{σ:eG}
def Ut{W aO:World}{bs bl:List Nat}{e:Exit}{a:Act}{w:ar}{Q:og}(he:Ext W bs aO bl)(h:∃s5 wu cd,Ext aO bl s5 wu/\Q e s5 wu cd/\Sat s5 wu nt az cd a w) :
  ∃s5 wu cd,Ext W bs s5 wu/\Q e s5 wu cd/\Sat s5 wu nt az cd a w:=by
 obtain⟨s5,wu,cd,D,O,B⟩:=h
 grind [Ext.trans]
theorem ae.mono{abc:og}(h:ae P W bs nt az c Q σ)(z:∀e W bs σ,Q e W bs σ->abc e W bs σ):ae P W bs nt az c abc σ:=λa w V=>wp_mono (h a w V) λe _ _ ⟨aO,bl,cd,he,s6,ds⟩=>⟨aO,bl,cd,he,z _ _ _ _ s6,ds⟩
def ae.xB{cd:eG}(hle:qv W bs nt az σ cd)(h:ae P W bs nt az c Q cd):ae P W bs nt az c Q σ:=by grind [ae,qv]
def ae.skip(h:Q .normal W bs σ):ae P W bs nt az .skip Q σ:=λa w V=>wp_skip ⟨W,bs,σ,Ext.refl W bs,h,V⟩
def ae.exit(h:Q (.exit id) W bs σ):ae P W bs nt az (.exit id) Q σ:=λa w V=>wp_exit ⟨W,bs,σ,Ext.refl W bs,h,V⟩
def ae.goto{l:Nat}(h:Q (.goto l) W bs σ):ae P W bs nt az (.goto l) Q σ:=λa w V=>wp_goto ⟨W,bs,σ,Ext.refl W bs,h,V⟩
def ae.ret(h:Q .ret W bs σ):ae P W bs nt az .ret Q σ:=λa w V=>wp_ret ⟨W,bs,σ,Ext.refl W bs,h,V⟩
theorem ae.seq{x y:Code}(h:ae P W bs nt az x (yT (λW bs σ=>ae P W bs nt az y Q σ) Q) σ):ae P W bs nt az (.seq x y) Q σ:=λa w V=>
 wp_seq (wp_mono (h a w V) λe cn M ⟨aO,bl,cd,he,z,ds⟩=>by
  cases e with
  |normal=>exact wp_mono (z cn M ds) λaDQ aln xr hh=>Ut he hh
  |_=>trivial)
theorem ae.block(h:ae P W bs nt az c (B5 id Q) σ):ae P W bs nt az (.block id c) Q σ:=λa w V=>
 wp_block (wp_mono (h a w V) λe cn M ⟨aO,bl,cd,he,z,ds⟩=>by
  cases e with
  |exit i=>
   simp only[B5]at z
   simp only[Exit.inBlock]
   grind
  |_=>trivial)
def ae.cond{c:Operand}{x y:Code}{b:Bool}{p:Prop}(J:jf σ.φ true c=(p,.v (.bool b)))(hp:p)
  (aV:b=true->ae P W bs nt az x Q σ) (aW:b=false->ae P W bs nt az y Q σ):ae P W bs nt az (.cond c x y) Q σ:=λa w V=>by
 obtain⟨E,F,iN,hh,_⟩:=V.ex;have:a.eval c=.bool b:=by rw[PA iN rfl (by simp_all),J];rfl
 exact wp_cond_split this (λZ=>aV Z a w V) (λZ=>aW Z a w V)
theorem ae.abd(Γ:Env P){g:F6}(hm:P.follows .mixedOrders=true)
  (aK:mL Γ W bs nt ops ops.toList σ.n σ.φ σ.h=g) (aS:g.side) (ak:d=true->u5 ops=true/\u6 ops g.fx=true)
  (hQ:(∀x∈g.js,x=none)->Q .normal W bs ⟨g.n,g.φ,g.h⟩) (lQ:∀c,some c∈g.js->Q (.panic c) W bs ⟨σ.n,yS ops σ.φ,dropKeys σ.h g.lost⟩) :
  ae P W bs nt az (.region id ops d) Q σ:=λa w V=>
 alk Γ hm V aK aS ak (λaE cn M ds=>⟨W,bs,_,Ext.refl W bs,hQ aE,ds⟩) (λc J cn M ds=>⟨W,bs,_,Ext.refl W bs,lQ c J,ds⟩)
def ae.region(Γ:Env P){id:Nat}{d:Bool}{ops:Array Oper}{g:F6}(hm:P.follows .mixedOrders=true)
  (aK:mL Γ W bs nt ops ops.toList σ.n σ.φ σ.h=g) (aS:g.side) (ak:d=true->u5 ops=true/\u6 ops g.fx=true)
  (hQ:Q .normal W bs ⟨g.n,g.φ,g.h⟩) (lQ:∀c,some c∈g.js->Q (.panic c) W bs ⟨σ.n,yS ops σ.φ,dropKeys σ.h g.lost⟩) :
  ae P W bs nt az (.region id ops d) Q σ:=by grind [ae.abd]
def abe{α:Type}{l:List (Option α)}{c:α}(h:l.filter Option.isSome=[some c]):some c∈l/\∀x,some x∈l->x=c:=by
 have D:some c∈l.filter Option.isSome:=by rw[h];simp
 refine⟨(O1.1 D).1,λx aB=>?_⟩;have:some x∈l.filter Option.isSome:=O1.2 ⟨aB,rfl⟩
 simp_all
section
variable (Γ:Env P){id:Nat}{ops:Array Oper}{y:Code}{side:Prop}{n:Nat}{φ:Fr}{h:ca}{js:List (Option (List PanicEntry))}{lost:aD}{fx:List (List Nat×List Nat)}{c:List PanicEntry}(hm:P.follows .mixedOrders=true)
include hm
theorem ae.abf(aK:AB Γ W bs nt ops ops.toList σ.n σ.φ σ.h=⟨side,some c,lost,fx⟩)(ak:d=true->(u5 ops&&u6 ops fx&&LN ops fx.length)=true)(aS:side)
  (hQ:Q (.panic c) W bs ⟨σ.n,yS ops σ.φ,dropKeys σ.h lost⟩):ae P W bs nt az (.region id ops d) Q σ:=λa w V=>
 alm Γ hm V aK ak aS λcn M ds=>⟨W,bs,_,Ext.refl W bs,hQ,ds⟩
section
variable (aK:AB Γ W bs nt ops ops.toList σ.n σ.φ σ.h=⟨side,some c,lost,fx⟩)(ak:(u5 ops&&u6 ops fx&&LN ops fx.length)=true)(aS:side)(hQ:Q (.panic c) W bs ⟨σ.n,yS ops σ.φ,dropKeys σ.h lost⟩)
include hm aK aS hQ
def ae.gz:ae P W bs nt az (.region id ops false) Q σ:=ae.abf Γ hm aK (λh=>by cases h) aS hQ
def ae.fe:ae P W bs nt az (.seq (.region id ops false) y) Q σ:=ae.seq (ae.gz Γ hm aK aS hQ)
include ak
def ae.abg:ae P W bs nt az (.region id ops true) Q σ:=by grind [ae.abf]
end
variable (aK:mL Γ W bs nt ops ops.toList σ.n σ.φ σ.h=⟨side,n,φ,h,js,lost,fx⟩)
include hm aK
section
variable (hp:js.filter Option.isSome=[some c])(ak:(u5 ops&&u6 ops fx)=true)(aS:side)(hQ:Q (.panic c) W bs ⟨σ.n,yS ops σ.φ,dropKeys σ.h lost⟩)
include hp ak aS hQ
def ae.xC:ae P W bs nt az (.region id ops true) Q σ:=ae.abd Γ hm aK aS (λ_=>by simp_all) (λaE=>by cases aE _ (abe hp).1) λfE yU=>by rw[(abe hp).2 fE yU];exact hQ
def ae.PN:ae P W bs nt az (.seq (.region id ops true) y) Q σ:=ae.seq (ae.xC Γ hm aK hp ak aS hQ)
end
variable (hp:js.all Option.isNone=true)(ak:(u5 ops&&u6 ops fx)=true)(aS:side)
include hp aS
theorem ae.cc(hQ:Q .normal W bs ⟨n,φ,h⟩):ae P W bs nt az (.region id ops false) Q σ:=ae.region Γ hm aK aS (λak=>by cases ak) hQ λc J=>by grind
def ae.s7(hQ:ae P W bs nt az y Q ⟨n,φ,h⟩):ae P W bs nt az (.seq (.region id ops false) y) Q σ:=ae.seq (ae.cc Γ hm aK hp aS hQ)
include ak
def ae.Uu(hQ:Q .normal W bs ⟨n,φ,h⟩):ae P W bs nt az (.region id ops true) Q σ:=ae.region Γ hm aK aS (λ_=>by simp_all) hQ λc J=>by grind
def ae.abh(hQ:ae P W bs nt az y Q ⟨n,φ,h⟩):ae P W bs nt az (.seq (.region id ops true) y) Q σ:=ae.seq (ae.Uu Γ hm aK hp ak aS hQ)
end
def ae.loop{c:Code}{ι:Type}(aFa:ι->eG)(ok:ι->Prop)(μ:ι->Nat)(j5:ι)(hle:qv W bs nt az σ (aFa j5))(A:ok j5)
  (round:∀p,ok p->ae P W bs nt az c (yT (λaO bl cd=>∃mf,ok mf/\μ mf < μ p/\qv aO bl nt az cd (aFa mf)) Q) (aFa p)):ae P W bs nt az (.loop c) Q σ:=λa w V=>
 wp_loop_ghost (λn a w=>∃p,ok p/\μ p=n/\Sat W bs nt az (aFa p) a w) (μ j5) ⟨j5,A,rfl,hle a w V⟩ λn a w ⟨p,hp,aE,lp⟩=>
  wp_mono (round p hp a w lp) λe cn M ⟨aO,bl,cd,he,z,ds⟩=>by
   cases e with
   |normal=>obtain⟨mf,kl,ax,Lt⟩:=z;exact⟨μ mf,aE▸ax,mf,kl,rfl,Sat.back he (Lt cn M ds)⟩
   |_=>trivial
def ae.q4{ι:Type}(aFa:ι->eG)(aFc:ι->World)(aFe:ι->List Nat)(ok:ι->Prop)(μ:ι->Nat)(j5:ι)(AD:aFc j5=W)(gj:aFe j5=bs)(hle:qv W bs nt az σ (aFa j5))(A:ok j5)
  (round:∀p,ok p->Ext W bs (aFc p) (aFe p)->ae P (aFc p) (aFe p) nt az c (yT (λaO bl cd=>∃mf,ok mf/\μ mf < μ p/\aFc mf=aO/\aFe mf=bl/\qv aO bl nt az cd (aFa mf)) Q) (aFa p)):ae P W bs nt az (.loop c) Q σ:=λa w V=>
 wp_loop_ghost (λn a w=>∃p,ok p/\μ p=n/\Ext W bs (aFc p) (aFe p)/\Sat (aFc p) (aFe p) nt az (aFa p) a w) (μ j5) ⟨j5,A,rfl,by grind [Ext.refl],by grind [qv]⟩ λn a w ⟨p,hp,aE,aB,lp⟩=>
  wp_mono (round p hp aB a w lp) λe cn M ⟨aO,bl,cd,he,z,ds⟩=>by
   cases e with
   |normal=>obtain⟨mf,kl,ax,rfl,rfl,Lt⟩:=z;exact⟨μ mf,aE▸ax,mf,kl,rfl,aB.trans he,Lt cn M ds⟩
   |_=>exact⟨aO,bl,cd,aB.trans he,z,ds⟩
inductive Src where
 |key (k:Nat)
 |nil
def q5:Value:=.slice none 0 0
mutual
def gU(m:Nat->Src):ag->ag
 |.v x=>.v x
 |.own k o=>match m k with|.key j=>.own j o|.nil=>.v .nilIface
 |.ak k=>match m k with|.key j=>.ak j|.nil=>.v q5
 |.agg l=>.agg (mM m l)
 |.iK l=>.iK (mM m l)
 |.jL t x=>.jL t (gU m x)
 |.part k i=>match m k with|.key j=>.part j i|.nil=>.v .nilIface
 |.fn f a c=>.fn f (mM m a) (mM m c)
def mM(m:Nat->Src):List ag->List ag
 |[]=>[]
 |x::r=>gU m x::mM m r
end
def q6(E:dF)(m:Nat->Src)(k:Nat):Value:=match m k with|.key j=>E j|.nil=>q5
def pn(F:lK)(m:Nat->Src)(k:Nat):List Nat:=match m k with|.key j=>F j|.nil=>[]
mutual
theorem DW(E:dF)(m:Nat->Src):∀x:ag,den E (gU m x)=den (q6 E m) x
 |.v x=>rfl
 |.own k o=>by simp only[gU,den,q6];cases m k<;>rfl
 |.ak k=>by simp only[gU,den,q6];cases m k<;>rfl
 |.agg l=>by simp only[gU,den,xD E m l]
 |.iK l=>by simp only[gU,den,xD E m l]
 |.jL t x=>by simp only[gU,den,DW E m x]
 |.part k i=>by simp only[gU,den,q6];cases m k<;>rfl
 |.fn f a c=>by simp only[gU,den,xD E m a,xD E m c]
theorem xD(E:dF)(m:Nat->Src):∀l:List ag,ba E (mM m l)=ba (q6 E m) l
 |[]=>rfl
 |x::r=>by simp only[mM,ba,DW E m x,xD E m r]
end
def lR(m:Nat->Src):bL->bL
 |.cells T vs=>.cells T (mM m vs)
 |.row T s n vs=>.row T s n (mM m vs)
 |.mp ks vs=>.mp ks (mM m vs)
 |.obj d R=>.obj d R
def abi{E:dF}{m:Nat->Src}{u:aM}{fp:aD}{w:ar}{e:bL}(h:e3 E u fp w (lR m e)):e3 (q6 E m) u fp w e:=by
 cases e with
 |cells T vs=>grind [xD,e3,lR]
 |row T s n vs=>grind [xD,e3,lR]
 |mp ks vs=>grind [xD,e3,lR]
 |obj d R=>exact h
def bK:List (Nat×eJ)->Fr
 |[]=>λ_=>.any
 |(t,x)::r=>bF (bK r) t x
def bA:List (Nat×bL)->ca
 |[]=>λ_=>none
 |(k,e)::r=>bF (bA r) k (some e)
def Cf(m:Nat->Src):eJ->eJ->Prop
 |.is x,.is y=>x=gU m y
 |.oL b x,.oL c y=>b=c/\(b=true->x=gU m y)
 |.is x,.oL c y=>c=true/\x=gU m y
 |.oL b x,.is y=>b=true/\x=gU m y
 |_,.any=>True
 |.any,_=>False
def alo{E:dF}{m:Nat->Src}{x y:eJ}{u:aM}(hle:Cf m x y)(aW:fits E x u):fits (q6 E m) y u:=by
 cases x with
 |is x=>
  cases y with
  |is y=>grind [DW,Cf,fits]
  |oL c y=>grind [DW,fits,Cf]
  |any=>trivial
 |oL b x=>
  cases y with
  |is y=>grind [DW,fits,Cf]
  |oL c y=>grind [DW,fits,Cf]
  |any=>trivial
 |any=>grind [fits,Cf]
def LO(m:Nat->Src)(φ:Fr):List (Nat×eJ)->Prop
 |[]=>True
 |(t,x)::r=>Cf m (φ t) x/\LO m φ r
def AE(m:Nat->Src)(h:ca)(k:Nat)(e:bL):Prop:=match m k with
 |.key j=>h j=some (lR m e)
 |.nil=>match e with
  |.row _ aw n vs=>0<aw/\n=0/\vs=[]
  |_=>False
def AF(m:Nat->Src)(h:ca):List (Nat×bL)->Prop
 |[]=>True
 |(k,e)::r=>AE m h k e/\AF m h r
def u9(m:Nat->Src):List (Nat×bL)->List Nat
 |[]=>[]
 |(k,_)::r=>(match m k with|.key j=>[j]|.nil=>[])++u9 m r
def F8(n:Nat)(L:List (Nat×eJ))(aE9:List (Nat×bL)):Prop:=(∀p∈L,∀k∈p.2.keys,k/8<n)/\(∀p∈aE9,p.1/8<n/\∀k∈p.2.keys,k/8<n)
def F9{L:List (Nat×eJ)}(t:Nat):bK L t=.any\/∃p∈L,p.1=t/\bK L t=p.2:=by
 induction L with
 |nil=>exact .inl rfl
 |cons p r bb=>
  by_cases aV:t=p.1
  ·exact .inr ⟨p,bq,aV.symm,by simp[bK,bF,aV]⟩
  ·rcases bb with bb|⟨q,z,D,O⟩
   ·exact .inl (by simp[bK,bF,aV,bb])
   ·exact .inr ⟨q,by simp[z],D,by simp[bK,bF,aV,O]⟩
def xE{aE9:List (Nat×bL)}{k:Nat}{e:bL}(h:bA aE9 k=some e):(k,e)∈aE9:=by
 induction aE9 with
 |nil=>cases h
 |cons p r bb=>
  by_cases aV:k=p.1
  ·simp[bA,bF,aV]at h;grind
  simp_all [bA,bF]
def abj{m:Nat->Src}{φ:Fr}:∀{L:List (Nat×eJ)},LO m φ L->∀p∈L,Cf m (φ p.1) p.2
 |_::_,h,p,hp=>by
  rcases gG.1 hp with rfl|hp
  ·exact h.1
  ·exact abj h.2 p hp
def Uv{m:Nat->Src}{h:ca}:∀{aE9:List (Nat×bL)},AF m h aE9->∀p∈aE9,AE m h p.1 p.2
 |_::_,h,p,hp=>by
  rcases gG.1 hp with rfl|hp
  ·exact h.1
  ·exact Uv h.2 p hp
def Uw{m:Nat->Src}:∀{aE9:List (Nat×bL)},(u9 m aE9).Nodup->∀p∈aE9,∀q∈aE9,p.1≠q.1->∀i j,m p.1=.key i->m q.1=.key j->i≠j
 |[],_,p,hp,_,_,_,_,_,_,_=>by cases hp
 |x::r,aE,p,hp,q,z,alp,i,j,hi,Y=>by
  simp only[u9]at aE;rcases gG.1 hp with rfl|kl
  ·fun_induction u9<;>grind
  ·rcases gG.1 z with rfl|s6
   ·fun_induction u9<;>grind
   ·exact Uw (Tu.1 aE).2.1 p kl q s6 alp i j hi Y
def qv.mk(m:Nat->Src){jh:Nat}{L:List (Nat×eJ)}{aE9:List (Nat×bL)}(ad:F8 jh L aE9)(aW:LO m σ.φ L)(hh:AF m σ.h aE9)(aE:(u9 m aE9).Nodup)(wq:∀p∈az.pins,m p.1=.key p.1/\p.1/8<jh) :
  qv W bs nt az σ ⟨jh,bK L,bA aE9⟩:=by
 rintro a w ⟨⟨E,F,iN,V,hp⟩,bP,rM,_,_,_⟩;have at':∀k e,bA aE9 k=some e->AE m σ.h k e:=λk e he=>Uv hh _ (xE he)
 have key:∀k e j,bA aE9 k=some e->m k=.key j->σ.h j=some (lR m e):=λk e j he Y=>by
  have:=at' k e he
  simp_all [AE]
 refine⟨⟨q6 E m,pn F m,λt=>?_,⟨λk e he=>?_,λk e he b Z=>?_,λk e he b Z=>?_,λk eS e dn eL he ma b Z=>?_,V.keeps⟩,λp abk=>?_⟩,bP,rM,λp abk=>(wq p abk).2,λt k e4 => ?_,λk e he=>?_⟩
 ·rcases F9 (L:=L) t with h|⟨p,hp,rfl,h⟩
  ·grind [fits]
  ·simp only[h];exact alo (abj aW p hp) (iN p.1)
 ·cases hm:m k with
  |key j=>simp only[q6,pn,hm];exact abi (V.hc j _ (key k e j he hm))
  |nil=>
   have:=at' k e he;simp only[AE,hm]at this;cases e with
   |row T s n vs=>obtain⟨A,rfl,rfl⟩:=this;simp only[q6,pn,hm];exact⟨⟨by simp[ba],.inl ⟨rfl,rfl⟩⟩,rfl⟩
   |cells T vs=>trivial
   |mp ks vs=>trivial
   |obj d R=>trivial
 ·cases hm:m k with
  |key j=>simp only[pn,hm]at Z;exact V.lt j _ (key k e j he hm) b Z
  |nil=>simp_all [pn]
 ·cases hm:m k with
  |key j=>simp only[pn,hm]at Z;exact V.nK j _ (key k e j he hm) b Z
  |nil=>simp_all [pn]
 ·cases hm:m k with
  |nil=>simp_all [pn]
  |key i=>
   cases rK:m eS with
   |nil=>simp_all [pn]
   |key j=>simp only[pn,hm,rK]at Z ⊢;exact V.apart i j _ _ (Uw aE _ (xE he) _ (xE ma) eL i j hm rK) (key k e i he hm) (key eS dn j ma rK) b Z
 ·grind [q6,LK]
 ·rcases F9 (L:=L) t with h|⟨p,hp,_,h⟩
  ·simp only[h]at e4;cases e4
  grind [F8]
 ·exact ad.2 _ (xE he)
end
end
section
open Go.RowKit
variable{w:ar}{E:dF}{F:lK}
section
variable {P:bR}{W:ar}{bs:aD}{nt:Nat}{az:jN}{σ:eG}
def alq{h:Nat->Option bL}{T:a6}{k o:Nat}(V:an W bs E F h w)(aS:(u0 P W bs h T [.own k o]).side):
  ∃a,den E (.own k o)=.pointer (some a)/\(loadVar T a).run P w=.ok (den E (u0 P W bs h T [.own k o]).val) w:=by
 revert aS;simp only[u0];split
 ·rename_i aw vs bP mc p3;rintro⟨hlen,kS⟩;obtain⟨b,Z,Lm⟩:=DH V p3 U;have e5:(loadVar T ⟨b,0+o,none⟩).run P w=.ok (.agg (((ba E vs).drop o).take aw).toArray) w:=by
   refine Pf bP mc _ _ (by grind [pj]) λj v Y=>?_
   have BP:j<aw:=by grind
   grind [Addr.add_lit]
  grind [q0,List.map_take,List.map_drop,den,p0]
 ·rename_i aw vs bP mc p3;intro hlen;obtain⟨b,Z,Lm⟩:=DH V p3 (Ik hlen);have e5:=Pg (w:=w) mc ⟨b,0+o,none⟩ ((ba E vs)[o]?.getD undef) (by simp_all)
  grind [Pj,den,p0]
 grind [R.bad]
def Cg(P:bR)(W:ar)(bs:aD)(σ:eG):ResultVar->Prop×ag
 |.tmp t=>match σ.φ t with
  |.is x=>(True,x)
  |.oL b x=>(b=true,x)
  |.any=>(False,.v undef)
 |.cell t T=>match σ.φ t with
  |.is (.own k o)=>((u0 P W bs σ.h T [.own k o]).side,(u0 P W bs σ.h T [.own k o]).val)
  |_=>(False,.v undef)
def ni(P:bR)(W:ar)(bs:aD)(σ:eG):List ResultVar->Prop×List ag
 |[]=>(True,[])
 |r::l=>((Cg P W bs σ r).1/\(ni P W bs σ l).1,(Cg P W bs σ r).2::(ni P W bs σ l).2)
def yV:List ag->ag
 |[x]=>x
 |l=>.iK l
def Fin(P:bR)(rs:List ResultVar)(R:World->List Nat->ag->ca->Prop)(yW:List PanicEntry->ca->Prop):og
 |.normal,W,bs,σ|.ret,W,bs,σ=>(ni P W bs σ rs).1/\R W bs (yV (ni P W bs σ rs).2) σ.h
 |.panic c,_,_,σ=>yW c σ.h
 |_,_,_,_=>False
def Ends(W:ar)(bs:aD)(pins:List (Nat×Value))(R:World->List Nat->ag->ca->Prop)(yW:List PanicEntry->ca->Prop):Ending->World->Prop
 |.returned v,M=>∃aO bl E F x h,Ext W bs aO bl/\R aO bl x h/\v=den E x/\an aO bl E F h M/\∀p∈pins,E p.1=p.2
 |.panicked c,M=>∃aO bl E F h,Ext W bs aO bl/\yW c h/\an aO bl E F h M/\∀p∈pins,E p.1=p.2
 |.outgrown,_=>False
def AG(a:Act):ResultVar->Sem Value
 |.tmp t=>pure (a.tmps.getD t undef)
 |.cell x t=>do loadVar t (<- asAddr (a.tmps.getD x undef))
def alr{a:Act}(iN:p8 E σ.φ a)(V:an W bs E F σ.h w)(r:ResultVar)(aI:(Cg P W bs σ r).1):
  (AG a r).run P w=.ok (den E (Cg P W bs σ r).2) w:=by
 cases r with
 |tmp t=>
  have:=iN t;simp only[Cg,AG]at aI ⊢;revert aI this;cases σ.φ t with
  |is x=>simp_all [fits]
  |oL b x=>simp_all [fits]
  |any=>simp
 |cell t T=>
  have:=iN t;simp only[Cg,AG]at aI ⊢;revert aI this;split
  ·rename_i k o ad;intro aI h;rw[ad]at h;simp only[fits]at h;obtain⟨PO,D,O⟩:=alq V aI;rw[h,D];trivial
  simp
def abl{E:dF}{F:lK}{a:Act}{w:ar}(iN:p8 E σ.φ a)(V:an W bs E F σ.h w):∀(l:List ResultVar),(ni P W bs σ l).1 ->
  (l.mapM (AG a)).run P w=.ok (ba E (ni P W bs σ l).2) w
 |[],_=>rfl
 |r::l,h=>by
  have D:=alr iN V r h.1;have O:=abl iN V l h.2
  simp_all [ni,ba]
def LP{a:Act}{fn:Func}(iN:p8 E σ.φ a)(V:an W bs E F σ.h w)(h:(ni P W bs σ fn.results.toList).1):
  (results fn a.tmps).run P w=.ok (den E (yV (ni P W bs σ fn.results.toList).2)) w:=by
 have D:=abl iN V fn.results.toList h;have O:results fn a.tmps=((Functor.map List.toArray (fn.results.toList.mapM (AG a))) >>= λ(vs:hE)=>(pure (if h:vs.size=1 then vs[0] else .tuple vs):Sem Value)):=by rw[<- Ti];rfl
 rw[O];have:((Functor.map List.toArray (fn.results.toList.mapM (AG a))) >>= λ(vs:hE)=>(pure (if h:vs.size=1 then vs[0] else .tuple vs):Sem Value)).run P w =
   .ok (den E (yV (ni P W bs σ fn.results.toList).2)) w:=by
  simp only[map_eq_pure_bind,bind_assoc,pure_bind];simp[D];generalize(ni P W bs σ fn.results.toList).2=l
  match l with
  |[]=>rfl
  |[x]=>rfl
  |x::y::r=>rfl
 exact this
def LQ{f:dr}{fn:Func}{c:Code}{args:hE}{pins:List (Nat×Value)}{R:World->List Nat->ag->ca->Prop}{yW:List PanicEntry->ca->Prop}
  (aW:P.funcs[f]?=some fn) (Z:fn.body=some c)
  (lp:Sat W bs nt ⟨[],pins⟩ σ { tmps:=args++Array.replicate (fn.ntmps-args.size) undef,defers:=[] } w)
  (h:ae P W bs nt ⟨[],pins⟩ c (Fin P fn.results.toList R yW) σ) :
  Calls P f args w (Ends W bs pins R yW):=by
 refine calls_of_wp aW Z (wp_mono (h _ w lp) λe cn M ⟨aO,bl,cd,aB,z,ds⟩=>?_);obtain⟨⟨E,F,iN,hh,hp⟩,bP,rM,_⟩:=ds
 have ret:(ni P aO bl cd fn.results.toList).1/\R aO bl (yV (ni P aO bl cd fn.results.toList).2) cd.h->cn.defers=[]/\∃v,(results fn cn.tmps).run P M=.ok v M/\Ends W bs pins R yW (.returned v) M :=λz=>⟨rM,_,LP iN hh z.1,aO,bl,E,F,_,_,aB,z.2,rfl,hh,hp⟩
 cases e with
 |normal=>exact ret z
 |ret=>exact ret z
 |panic aDR=>exact⟨rM,aO,bl,E,F,_,aB,z,hh,hp⟩
 |exit i=>exact z.elim
 |goto l=>exact z.elim
 |outgrown=>exact z.elim
def abm{κ:Nat}{h:ca}{f:dr}{args:hE}{r:R}{v:aM}(V:an W bs E F h w)
  (J:Calls P f args w λe M=>e=.returned v/\cr w [] M) (au:v=den E r.val) (hu:r.bF=[]) (hp:r.b7=none) :
  Good P W bs κ E h r (.ok (.enter f args) w):=by
 refine J.mono λe M he=>?_
 obtain⟨rfl,ad⟩:=he;exact⟨hp,E,F,λ_ _=>rfl,au,by grind [an.grow,dJ]⟩
def abn{κ:Nat}{h:ca}{K:aY}{f:dr}{args:hE}{r:R}{e:bL}(V:an W bs E F h w)
  (cj:ki K h) (ad:∀k,k/8=κ->¬K k)
  (J:Calls P f args w λiC M=>∃v u fp,iC=.returned v/\(∀cK,e3 cK u fp M e)/\(∀b∈fp,w.heap.size<=b/\b<M.heap.size)/\cr w [] M/\v=den (bF E (dV κ) u) r.val)
  (hu:r.bF=[(dV κ,some e)]) (hp:r.b7=none) :
  Good P W bs κ E h r (.ok (.enter f args) w):=by
 refine J.mono λiC M he=>?_
 obtain⟨v,u,fp,rfl,xt,Af,hr,au⟩:=he;refine⟨hp,bF E (dV κ) u,bF F (dV κ) fp,λk e4=>hF _ _ λe=>e4 (by grind [tU]),au,?_⟩
 grind [an.new,dV,dJ]
end
section
variable {P:bR}{W:ar}{bs:aD}{nt:Nat}{az:jN}{σ:eG}{ops:Array Oper}(Γ:Env P)
def abo(dst:Option Nat)(r:List Oper)(κ:Nat)(φ:Fr)(h:ca)(s:S):F6:=LM s (mL Γ W bs nt ops r (κ+1) (ss φ dst s.cS) (dJ h s.bF))
theorem als(o:Oper)(r:List Oper)(κ:Nat)(φ:Fr)(h:ca):mL Γ W bs nt ops (o::r) κ φ h=abo (W:=W) (bs:=bs) (nt:=nt) (ops:=ops) Γ o.dst r κ φ h (step Γ W bs nt ops κ φ h o):=rfl
def alu(dst:Option Nat)(r:List Oper)(κ:Nat)(φ:Fr)(h:ca)(side:Prop)(cS:eJ)(u:List (Nat×Option bL))(b7:Option (List PanicEntry))(iq reads ib:aD) :
  abo (W:=W) (bs:=bs) (nt:=nt) (ops:=ops) Γ dst r κ φ h ⟨side,cS,u,b7,iq,reads,ib⟩=LM ⟨side,cS,u,b7,iq,reads,ib⟩ (mL Γ W bs nt ops r (κ+1) (ss φ dst cS) (dJ h u)):=rfl
def alv(side LR:Prop)(n:Nat)(cS:eJ)(u:List (Nat×Option bL))(b7:Option (List PanicEntry))(iq reads ib lost:aD)(φ:Fr)(h:ca)(js:List (Option (List PanicEntry)))(fx:List (List Nat×List Nat)) :
  LM ⟨side,cS,u,b7,iq,reads,ib⟩ ⟨LR,n,φ,h,js,lost,fx⟩=⟨side/\LR,n,φ,h,b7::js,ib++iq++lost,(ib,reads)::fx⟩:=rfl
def Ux(Γ:Env P)(dst:Option Nat)(r:List Oper)(κ:Nat)(φ:Fr)(h:ca)(s:S):PL:=match s.b7 with
 |some c=>⟨s.side,some c,s.ib++s.iq,[(s.ib,s.reads)]⟩
 |none=>PM s (AB Γ W bs nt ops r (κ+1) (ss φ dst s.cS) (dJ h s.bF))
theorem alw(o:Oper)(r:List Oper)(κ:Nat)(φ:Fr)(h:ca):AB Γ W bs nt ops (o::r) κ φ h=Ux (W:=W) (bs:=bs) (nt:=nt) (ops:=ops) Γ o.dst r κ φ h (step Γ W bs nt ops κ φ h o):=rfl
def alx(dst:Option Nat)(r:List Oper)(κ:Nat)(φ:Fr)(h:ca)(side:Prop)(cS:eJ)(u:List (Nat×Option bL))(c:List PanicEntry)(iq reads ib:aD) :
  Ux (W:=W) (bs:=bs) (nt:=nt) (ops:=ops) Γ dst r κ φ h ⟨side,cS,u,some c,iq,reads,ib⟩=⟨side,some c,ib++iq,[(ib,reads)]⟩:=rfl
def aly(dst:Option Nat)(r:List Oper)(κ:Nat)(φ:Fr)(h:ca)(side:Prop)(cS:eJ)(u:List (Nat×Option bL))(iq reads ib:aD) :
  Ux (W:=W) (bs:=bs) (nt:=nt) (ops:=ops) Γ dst r κ φ h ⟨side,cS,u,none,iq,reads,ib⟩=PM ⟨side,cS,u,none,iq,reads,ib⟩ (AB Γ W bs nt ops r (κ+1) (ss φ dst cS) (dJ h u)):=rfl
def alz(side LR:Prop)(cS:eJ)(u:List (Nat×Option bL))(b7:Option (List PanicEntry))(iq reads ib lost:aD)(c:Option (List PanicEntry))(fx:List (List Nat×List Nat)) :
  PM ⟨side,cS,u,b7,iq,reads,ib⟩ ⟨LR,c,lost,fx⟩=⟨side/\LR,c,ib++iq++lost,(ib,reads)::fx⟩:=rfl
def kF:Op->Bool
 |.pick _ _ _=>true
 |_=>false
def alA :
  (∀(x:Operand),kF (.move x)=false) /\
  (∀(x:Operand),kF (.assign x)=false) /\
  (∀(elem:a6),kF (.alloc elem)=false) /\
  (∀(elem:a6) (v:Operand),kF (.box elem v)=false) /\
  (∀(t:a6) (parts:Array (Nat×Operand)),kF (.build t parts)=false) /\
  (∀(t:a6) (len:Nat) (parts:Array (Nat×Operand)),kF (.buildSlice t len parts)=false) /\
  (∀(t:a6) (addr:Operand),kF (.load t addr)=false) /\
  (∀(t:a6) (addr val:Operand),kF (.store t addr val)=false) /\
  (∀(x:Operand),kF (.nilCheck x)=false) /\
  (∀(op:BinOp) (xType:a6) (x y:Operand) (yType:a6),kF (.binOp op xType x y yType)=false) /\
  (∀(op:UnOp) (xType:a6) (x:Operand),kF (.unOp op xType x)=false) /\
  (∀(src dst:a6) (x:Operand),kF (.convert src dst x)=false) /\
  (∀(xType:a6) (x:Operand),kF (.makeInterface xType x)=false) /\
  (∀(fn:Fn) (first captured:Array Operand),kF (.makeFunc fn first captured)=false) /\
  (∀(t:a6) (len cap:Operand),kF (.makeSlice t len cap)=false) /\
  (∀(xType:a6) (x:Operand) (low high max:Option Operand),kF (.slice xType x low high max)=false) /\
  (∀(xType:a6) (x:Operand) (field:Nat),kF (.fieldAddr xType x field)=false) /\
  (∀(xType:a6) (x:Operand) (field:Nat),kF (.field xType x field)=false) /\
  (∀(xType:a6) (x index:Operand),kF (.indexAddr xType x index)=false) /\
  (∀(xType:a6) (x index:Operand),kF (.index xType x index)=false) /\
  (∀(x:Operand) (xType asserted:a6) (alB:Bool),kF (.typeAssert x xType asserted alB)=false) /\
  (∀(tuple:Operand) (index:Nat),kF (.extract tuple index)=false) /\
  (∀(c:Call),kF (.call c)=false) /\
  (∀(x:Operand),kF (.panic x)=false):=by
 simp_all [kF]
def DX(nt:Nat):Option Nat->Prop
 |some d=>d<nt
 |none=>True
theorem abp(d:Option Nat):(∀i,d=some i->i<nt)=DX nt d:=by cases d<;>simp[DX]
def PQ(nt:Nat)(dst:Option Nat)(un:Bool)(p:Prop)(b:Bool)(q:Prop)(r:R):S:=⟨p/\q/\(b=true->r.side)/\DX nt dst,u2 un b r.val,bif b then r.bF else [],bif b then r.b7 else none,r.iq,r.reads,gu r.bF⟩
def PR(W:ar)(bs:aD)(nt:Nat)(κ:Nat)(h:ca)(dst:Option Nat)(un:Bool)(op:Op)(p:Prop)(b:Bool)(e:Prop×List ag):S:=PQ nt dst un p b e.1 (dH Γ W bs κ h op e.2)
def stepG(W:ar)(bs:aD)(nt:Nat)(κ:Nat)(φ:Fr)(h:ca)(dst:Option Nat)(un:Bool)(op:Op)(g:Prop×Bool):S:=PR Γ W bs nt κ h dst un op g.1 g.2 (jg φ g.2 op.operands.toList)
def alC(κ:Nat)(φ:Fr)(h:ca)(dst:Option Nat)(op:Op)(ty:a6)(pos:String)(after:Array Edge)(guard:Option (Nat×Bool))(cm:kF op=false) :
  step Γ W bs nt ops κ φ h ⟨dst,op,ty,pos,after,guard⟩=stepG Γ W bs nt κ φ h dst guard.isNone op (ga φ ops guard):=by
 rw[LG Γ (by grind [kF])]
 grind [abp,stepG,PR,PQ]
def alD(κ:Nat)(φ:Fr)(h:ca)(dst:Option Nat)(un:Bool)(op:Op)(p:Prop)(b:Bool) :
  stepG Γ W bs nt κ φ h dst un op (p,b)=PR Γ W bs nt κ h dst un op p b (jg φ b op.operands.toList):=rfl
def alE(κ:Nat)(h:ca)(dst:Option Nat)(un:Bool)(op:Op)(p:Prop)(b:Bool)(q:Prop)(l:List ag) :
  PR Γ W bs nt κ h dst un op p b (q,l)=PQ nt dst un p b q (dH Γ W bs κ h op l):=rfl
def alF(dst:Option Nat)(un:Bool)(p:Prop)(b:Bool)(q side:Prop)(val:ag)(u:List (Nat×Option bL))(b7:Option (List PanicEntry))(iq reads:aD) :
  PQ nt dst un p b q ⟨side,val,u,b7,iq,reads⟩=⟨p/\q/\(b=true->side)/\DX nt dst,u2 un b val,bif b then u else [],bif b then b7 else none,iq,reads,gu u⟩:=rfl
def LS(nt:Nat)(φ:Fr)(dst:Option Nat)(un:Bool)(x y:Operand)(p:Prop)(g:Bool):Prop×ag->S
 |(q,.v (.bool nh))=>⟨p/\q/\(nh=true->(jf φ (g&&nh) x).1)/\(nh=false->(jf φ (g&&!nh) y).1)/\DX nt dst,u2 un g (DT nh (jf φ (g&&nh) x).2 (jf φ (g&&!nh) y).2),[],none,[],[],[]⟩
 |_=>⟨False,.any,[],none,[],[],[]⟩
def Uy(nt:Nat)(φ:Fr)(dst:Option Nat)(un:Bool)(c x y:Operand)(g:Prop×Bool):S:=LS nt φ dst un x y g.1 g.2 (jf φ g.2 c)
def alG(κ:Nat)(φ:Fr)(h:ca)(dst:Option Nat)(c x y:Operand)(ty:a6)(pos:String)(after:Array Edge)(guard:Option (Nat×Bool)) :
  step Γ W bs nt ops κ φ h ⟨dst,.pick c x y,ty,pos,after,guard⟩=Uy nt φ dst guard.isNone c x y (ga φ ops guard):=by
 simp only[step,Uy,abp];split
 ·grind [LS]
 ·rename_i aE;unfold LS
  grind
theorem alH(φ:Fr)(dst:Option Nat)(un:Bool)(c x y:Operand)(p:Prop)(g:Bool):Uy nt φ dst un c x y (p,g)=LS nt φ dst un x y p g (jf φ g c):=rfl
def alI(φ:Fr)(dst:Option Nat)(un:Bool)(x y:Operand)(p q:Prop)(g nh:Bool):LS nt φ dst un x y p g (q,.v (.bool nh)) =
  ⟨p/\q/\(nh=true->(jf φ (g&&nh) x).1)/\(nh=false->(jf φ (g&&!nh) y).1)/\DX nt dst,u2 un g (DT nh (jf φ (g&&nh) x).2 (jf φ (g&&!nh) y).2),[],none,[],[],[]⟩:=rfl
def Uz(w:Bool):eJ->Prop×ag
 |.is x=>(True,x)
 |.oL b x=>(w=true->b=true,x)
 |.any=>(w=false,.v undef)
theorem alJ(φ:Fr)(w:Bool)(t:Nat):jf φ w (.tmp t)=Uz w (φ t):=by rfl
def UA:Prop×ag->Prop×List ag->Prop×List ag:=λa b=>(a.1/\b.1,a.2::b.2)
theorem alK(φ:Fr)(w:Bool)(o:Operand)(r:List Operand):jg φ w (o::r)=UA (jf φ w o) (jg φ w r):=rfl
theorem alL(p q:Prop)(x:ag)(l:List ag):UA (p,x) (q,l)=(p/\q,x::l):=rfl
def UB(want:Bool):eJ->Prop×Bool
 |.is (.v (.bool b))=>(True,b==want)
 |.oL c (.v (.bool b))=>(True,c&&(b==want))
 |_=>(False,false)
def abq(φ:Fr)(want:Bool):Option Nat->Prop×Bool
 |some d=>UB want (φ d)
 |none=>(False,false)
theorem alM(φ:Fr)(j:Nat)(want:Bool):ga φ ops (some (j,want))=abq φ want ((ops[j]?).bind (·.dst)):=by rfl
theorem alN(t:Nat):bK [] t=.any:=rfl
theorem alO(t k:Nat)(x:eJ)(r:List (Nat×eJ)):bK ((k,x)::r) t=if t=k then x else bK r t:=rfl
theorem alP(t:Nat):bA [] t=none:=rfl
theorem alQ(t k:Nat)(x:bL)(r:List (Nat×bL)):bA ((k,x)::r) t=if t=k then some x else bA r t:=rfl
section
variable {κ:Nat}{h:ca}
theorem alR(T:a6)(lo hi mx:Bool)(x:aM)(r:List ag):BV P κ h T lo hi mx (.v x::r)=tX P T lo hi mx (.v x::r):=rfl
theorem alS(aj:Array Operand)(T:a6)(l:List ag):dH Γ W bs κ h (.call { callee:=.builtin .len,args:=aj,argTypes:=#[T] }) l=yP P h T l:=rfl
end
theorem alT{α:Type}:gu ([]:List (Nat×α))=[]:=rfl
theorem alU{α:Type}(k:Nat)(x:α)(r:List (Nat×α)):gu ((k,x)::r)=k::gu r:=rfl
theorem alV(cs:hE):partsOf (.v (.agg cs))=cs.toList.map .v:=rfl
theorem alW(k:IntKind)(n:Int):partsOf (.v (.int k n))=[.v (.int k n)]:=rfl
theorem alX(b:ao):partsOf (.v (.string b))=[.v (.string b)]:=rfl
theorem alY(b:Bool):partsOf (.v (.bool b))=[.v (.bool b)]:=rfl
theorem alZ(a:dj)(n c:Nat):partsOf (.v (.slice a n c))=[.v (.slice a n c)]:=rfl
theorem al0(a:dj):partsOf (.v (.pointer a))=[.v (.pointer a)]:=rfl
theorem al1(t:a6)(x:aM):partsOf (.v (.iface t x))=[.v (.iface t x)]:=rfl
theorem al2:partsOf (.v .nilIface)=[.v .nilIface]:=rfl
theorem al3(k o:Nat):partsOf (.own k o)=[.own k o]:=rfl
theorem al4(k:Nat):partsOf (.ak k)=[.ak k]:=rfl
theorem al5(k i:Nat):partsOf (.part k i)=[.part k i]:=rfl
theorem al6(t:a6)(x:ag):partsOf (.jL t x)=[.jL t x]:=rfl
theorem al7(k:IntKind)(n:Int):jq (.v (.int k n))=true:=rfl
theorem al8(b:ao):jq (.v (.string b))=true:=rfl
theorem al9(b:Bool):jq (.v (.bool b))=true:=rfl
theorem ama(a:dj)(n c:Nat):jq (.v (.slice a n c))=true:=rfl
theorem amb(a:dj):jq (.v (.pointer a))=true:=rfl
theorem amc(t:a6)(x:aM):jq (.v (.iface t x))=true:=rfl
theorem amd:jq (.v .nilIface)=true:=rfl
section
variable {κ:Nat}{h:ca}
def abr(κ:Nat)(T:a6):Option (List Value)->R
 |some zs=>⟨True,.own (8*κ) 0,[(8*κ,some (.cells T (zs.map .v)))],none,[],[]⟩
 |none=>.bad
theorem ame(T:a6):DG P κ T=abr κ T (ct P T):=by rfl
theorem amf(T:a6)(x:ag):Ir κ T [x]=⟨True,.own (8*κ) 0,[(8*κ,some (.cells T (partsOf x)))],none,[],[]⟩:=rfl
def UC(o k:Nat):Option Nat->Option Bool->Option (List ag)->R
 |some aw,some true,some vs=>⟨o+aw<=vs.length/\0<aw,.agg ((vs.drop o).take aw),[],none,[],[k]⟩
 |some _,some false,some vs=>⟨o<vs.length,vs.getD o (.v undef),[],none,[],[k]⟩
 |_,_,_=>.bad
theorem amg(T:a6)(k o:Nat):u0 P W bs h T [.own k o]=UC o k (ah P T) (bM P T) (jd (h k)):=by rfl
def UD(W:ar)(bs:aD)(b o:Nat):Option Nat->Option Bool->R
 |some aw,some true=>⟨b∉bs/\p2 W b o aw,.agg (mb W b o aw),[],none,[],[]⟩
 |some _,some false=>⟨b∉bs/\(W.cell? ⟨b,o,none⟩).isSome=true,.v ((W.cell? ⟨b,o,none⟩).getD undef),[],none,[],[]⟩
 |_,_=>.bad
theorem amh(T:a6)(b o:Nat):u0 P W bs h T [.v (.pointer (some ⟨b,o,none⟩))]=UD W bs b o (ah P T) (bM P T):=by rfl
theorem ami(b o n:Nat):mb W b o (n+1)=.v ((W.cell? ⟨b,o,none⟩).getD undef)::mb W b (o+1) n:=rfl
theorem amj(b o n:Nat):p2 W b o (n+1)=((W.cell? ⟨b,o,none⟩).isSome=true/\p2 W b (o+1) n):=rfl
def abt(e:Option bL)(k o:Nat)(x:ag):Option Nat->Option (List ag)->R
 |some aw,some vs=>⟨(partsOf x).length=aw/\o+aw<=vs.length/\(0<aw\/Pl e=true)/\(partsOf x).all jq=true,.v undef,[(k,FI e o (partsOf x))],none,[],[k]⟩
 |_,_=>.bad
theorem amk(T:a6)(k o:Nat)(x:ag):FJ P h T [.own k o,x]=abt (h k) k o x (ah P T) (jd (h k)):=by rfl
def abu(k o:Nat):Option (Nat×Nat×Bool)->Option (List ag)->R
 |some (off,aw,_),some vs=>⟨0<aw/\o<vs.length,.own k (o+off),[],none,[],[k]⟩
 |_,_=>.bad
theorem aml(T:a6)(f k o:Nat):BQ P h T f [.own k o]=abu k o (b4 P T f) (jd (h k)):=by rfl
def UE(b o:Nat):Option (Nat×Nat×Bool)->R
 |some (off,aw,_)=>⟨0<aw,.v (.pointer (some ⟨b,o+off,none⟩)),[],none,[],[]⟩
 |_=>.bad
def amm(T:a6)(f b o:Nat):BQ P h T f [.v (.pointer (some ⟨b,o,none⟩))]=UE b o (b4 P T f):=by simp only[BQ];grind [R.eK,UE]
def PS(l:List ag):Option (Nat×Nat×Bool)->R
 |some (off,aw,je)=>rI je off aw l
 |none=>.bad
theorem amn(T:a6)(f:Nat)(l:List ag):FK P T f [.agg l]=PS l (b4 P T f):=by rfl
theorem amo(T:a6)(f:Nat)(cs:hE):FK P T f [.v (.agg cs)]=PS (cs.toList.map .v) (b4 P T f):=by rfl
theorem amp(l:List ag)(off aw:Nat):PS l (some (off,aw,true))=⟨off+aw<=l.length,.agg ((l.drop off).take aw),[],none,[],[]⟩:=rfl
theorem amq(l:List ag)(off aw:Nat):PS l (some (off,aw,false))=⟨off<l.length,l.getD off (.v undef),[],none,[],[]⟩:=rfl
theorem amr(i:Nat)(l:List ag):xv i [.iK l]=⟨i<l.length,l.getD i (.v undef),[],none,[],[]⟩:=rfl
theorem ams(i:Nat)(vs:hE):xv i [.v (.tuple vs)]=⟨i<vs.size,.v (vs.getD i undef),[],none,[],[]⟩:=rfl
theorem amt(eqs:(T:a6)->Option (rJ P T))(T:a6)(k eS:IntKind)(a b:Int):gS P eqs .shl T [.v (.int k a),.v (.int eS b)]=⟨0<=b,.v (.int k (k.wrap (a*2^(min b.toNat k.bits)))),[],none,[],[]⟩:=rfl
theorem amu(eqs:(T:a6)->Option (rJ P T))(T:a6)(k eS:IntKind)(a b:Int):gS P eqs .shr T [.v (.int k a),.v (.int eS b)]=⟨0<=b,.v (.int k (a.fdiv (2^(min b.toNat k.bits)))),[],none,[],[]⟩:=rfl
def amv(eqs:(T:a6)->Option (rJ P T))(T:a6)(k:IntKind)(a b:Int) :
  gS P eqs .add T [.v (.int k a),.v (.int k b)]=⟨True,.v (.int k (k.wrap (a+b))),[],none,[],[]⟩ /\
  gS P eqs .sub T [.v (.int k a),.v (.int k b)]=⟨True,.v (.int k (k.wrap (a-b))),[],none,[],[]⟩ /\
  gS P eqs .mul T [.v (.int k a),.v (.int k b)]=⟨True,.v (.int k (k.wrap (a*b))),[],none,[],[]⟩ /\
  gS P eqs .quo T [.v (.int k a),.v (.int k b)]=⟨b≠0,.v (.int k (k.wrap (a.tdiv b))),[],none,[],[]⟩ /\
  gS P eqs .rem T [.v (.int k a),.v (.int k b)]=⟨b≠0,.v (.int k (a.tmod b)),[],none,[],[]⟩ /\
  gS P eqs .and T [.v (.int k a),.v (.int k b)]=⟨True,.v (.int k (ia .and k a b)),[],none,[],[]⟩ /\
  gS P eqs .or T [.v (.int k a),.v (.int k b)]=⟨True,.v (.int k (ia .or k a b)),[],none,[],[]⟩ /\
  gS P eqs .xor T [.v (.int k a),.v (.int k b)]=⟨True,.v (.int k (ia .xor k a b)),[],none,[],[]⟩ /\
  gS P eqs .eql T [.v (.int k a),.v (.int k b)]=⟨True,.v (.bool (decide (a=b))),[],none,[],[]⟩ /\
  gS P eqs .neq T [.v (.int k a),.v (.int k b)]=⟨True,.v (.bool (!decide (a=b))),[],none,[],[]⟩ /\
  gS P eqs .lss T [.v (.int k a),.v (.int k b)]=⟨True,.v (.bool (decide (a<b))),[],none,[],[]⟩ /\
  gS P eqs .leq T [.v (.int k a),.v (.int k b)]=⟨True,.v (.bool (decide (a<=b))),[],none,[],[]⟩ /\
  gS P eqs .gtr T [.v (.int k a),.v (.int k b)]=⟨True,.v (.bool (decide (b<a))),[],none,[],[]⟩ /\
  gS P eqs .geq T [.v (.int k a),.v (.int k b)]=⟨True,.v (.bool (decide (b<=a))),[],none,[],[]⟩:=by
 simp[gS,Aj,R.eK]
def amw(eqs:(T:a6)->Option (rJ P T))(T:a6)(a b:ao) :
  gS P eqs .add T [.v (.string a),.v (.string b)]=⟨a.size+b.size<=9223372036854775807,.v (.string (a++b)),[],none,[],[]⟩ /\
  gS P eqs .eql T [.v (.string a),.v (.string b)]=⟨True,.v (.bool (decide (a=b))),[],none,[],[]⟩ /\
  gS P eqs .neq T [.v (.string a),.v (.string b)]=⟨True,.v (.bool (!decide (a=b))),[],none,[],[]⟩ /\
  gS P eqs .lss T [.v (.string a),.v (.string b)]=⟨True,.v (.bool (Op.bytesLess a.toList b.toList)),[],none,[],[]⟩ /\
  gS P eqs .gtr T [.v (.string a),.v (.string b)]=⟨True,.v (.bool (!(Op.bytesLess a.toList b.toList||decide (a=b)))),[],none,[],[]⟩:=by
 trivial
def amx(eqs:(T:a6)->Option (rJ P T))(T:a6)(a b:Bool) :
  gS P eqs .eql T [.v (.bool a),.v (.bool b)]=⟨P.underlying T=some .bool,.v (.bool (a==b)),[],none,[],[]⟩ /\
  gS P eqs .neq T [.v (.bool a),.v (.bool b)]=⟨P.underlying T=some .bool,.v (.bool (!(a==b))),[],none,[],[]⟩:=⟨rfl,rfl⟩
def jO:List ag->Option (List Value)
 |[]=>some []
 |.v x::r=>(jO r).map (x::·)
 |_=>none
def LU:∀l:List ag,Ak (.agg l)=jO l
 |[]=>rfl
 |x::r=>by have bb:=LU r;simp only[Ak]at bb ⊢;rw[O5,bb];cases x<;>simp[jO]<;>cases jO r<;>rfl
def xF{T:a6}(neg:Bool):Option (List Value)->Option (List Value)->Option (rJ P T)->R
 |some xs,some ys,some e=>⟨(e.f xs ys).isSome=true,.v (.bool (neg ^^ (e.f xs ys).getD false)),[],none,[],[]⟩
 |_,_,_=>.bad
def amy(eqs:(T:a6)->Option (rJ P T))(T:a6)(l kU:List ag) :
  gS P eqs .eql T [.agg l,.agg kU]=xF false (jO l) (jO kU) (eqs T)/\gS P eqs .neq T [.agg l,.agg kU]=xF true (jO l) (jO kU) (eqs T):=by
 simp only[gS,LU,Ak.eq_1];constructor<;>(unfold xF;rcases jO l with _|xs<;>rcases jO kU with _|ys<;>rcases eqs T with _|e<;>simp[R.eK])
def amz(eqs:(T:a6)->Option (rJ P T))(T:a6)(cs q7:Array Value) :
  gS P eqs .eql T [.v (.agg cs),.v (.agg q7)]=xF false (some cs.toList) (some q7.toList) (eqs T)/\gS P eqs .neq T [.v (.agg cs),.v (.agg q7)]=xF true (some cs.toList) (some q7.toList) (eqs T):=by
 simp only[gS,LU,Ak.eq_1];refine⟨?_,?_⟩<;>(unfold xF;rcases eqs T with _|e<;>simp[R.eK])
def amA(eqs:(T:a6)->Option (rJ P T))(T:a6)(cs:hE)(l:List ag) :
  gS P eqs .eql T [.v (.agg cs),.agg l]=xF false (some cs.toList) (jO l) (eqs T)/\gS P eqs .neq T [.v (.agg cs),.agg l]=xF true (some cs.toList) (jO l) (eqs T) /\
  gS P eqs .eql T [.agg l,.v (.agg cs)]=xF false (jO l) (some cs.toList) (eqs T)/\gS P eqs .neq T [.agg l,.v (.agg cs)]=xF true (jO l) (some cs.toList) (eqs T):=by
 simp only[gS,LU,Ak.eq_1];refine⟨?_,?_,?_,?_⟩<;>(unfold xF;rcases jO l with _|xs<;>rcases eqs T with _|e<;>simp[R.eK])
theorem amB(b:Bool):DK .not [.v (.bool b)]=⟨True,.v (.bool (!b)),[],none,[],[]⟩:=rfl
theorem amC(k:IntKind)(n:Int):DK .neg [.v (.int k n)]=⟨True,.v (.int k (k.wrap (0-n))),[],none,[],[]⟩:=rfl
theorem amD(T:a6)(s:ao):yP P h T [.v (.string s)]=⟨P.underlying T=some .string,.v (.int .i64 s.size),[],none,[],[]⟩:=rfl
theorem amE(T:a6)(a:dj)(n c:Nat):yP P h T [.v (.slice a n c)]=⟨∃e,P.underlying T=some (.slice e),.v (.int .i64 n),[],none,[],[]⟩:=rfl
def abv(P:bR)(T:a6)(k:Nat):Option bL->R
 |some (.row _ _ n _)=>⟨∃e,P.underlying T=some (.slice e),.v (.int .i64 n),[],none,[],[k]⟩
 |_=>.bad
theorem amF(T:a6)(k:Nat):yP P h T [.ak k]=abv P T k (h k):=by rfl
def abw(P:bR)(k:Nat)(i:Int):Option TypeDesc->Option bL->R
 |some (.slice e),some (.row _ size n _)=>⟨ah P e=some size/\0<=i/\i<n/\0<size,.own k (i.toNat*size),[],none,[],[k]⟩
 |_,_=>.bad
theorem amG(T:a6)(k:Nat)(rL:IntKind)(i:Int):An P h T [.ak k,.v (.int rL i)]=abw P k i (P.underlying T) (h k):=by rfl
def abx(b o n:Nat)(i:Int):Option Nat->R
 |some aw=>⟨0<=i/\i<n,.v (.pointer (some ⟨b,o+i.toNat*aw,none⟩)),[],none,[],[]⟩
 |none=>.bad
def PT(P:bR)(b o n:Nat)(i:Int):Option TypeDesc->R
 |some (.slice e)=>abx b o n i (ah P e)
 |_=>.bad
theorem amH(T:a6)(b o n c:Nat)(rL:IntKind)(i:Int):An P h T [.v (.slice (some ⟨b,o,none⟩) n c),.v (.int rL i)]=PT P b o n i (P.underlying T):=by rfl
def aby(b o:Nat)(i:Int)(n:Nat):Option Nat->R
 |some aw=>⟨0<=i/\i<n/\1<n,.v (.pointer (some ⟨b,o+i.toNat*aw,none⟩)),[],none,[],[]⟩
 |none=>.bad
def abz(P:bR)(b o:Nat)(i:Int):Option TypeDesc->R
 |some (.array n e)=>aby b o i n (ah P e)
 |_=>.bad
theorem amI(T:a6)(b o:Nat)(rL:IntKind)(i:Int):An P h T [.v (.pointer (some ⟨b,o,none⟩)),.v (.int rL i)]=abz P b o i (P.underlying T):=by rfl
theorem amJ(T:a6)(s:ao)(rL:IntKind)(i:Int):Am P T [.v (.string s),.v (.int rL i)]=⟨P.underlying T=some .string/\0<=i/\i<s.size,.v (.int .u8 (af s i)),[],none,[],[]⟩:=rfl
theorem amK(T:a6)(s:ao)(k eS:IntKind)(a b:Int):tX P T true true false [.v (.string s),.v (.int k a),.v (.int eS b)]=⟨P.underlying T=some .string/\0<=a/\a<=b/\b<=s.size,.v (.string (s.extract a.toNat b.toNat)),[],none,[],[]⟩:=by rfl
def amL(T:a6)(s:ao)(k:IntKind)(a:Int):tX P T true false false [.v (.string s),.v (.int k a)]=⟨P.underlying T=some .string/\0<=a/\a<=s.size,.v (.string (s.extract a.toNat s.size)),[],none,[],[]⟩:=by simp[tX,Is,Po,R.eK]
def amM(T:a6)(s:ao)(eS:IntKind)(b:Int):tX P T false true false [.v (.string s),.v (.int eS b)]=⟨P.underlying T=some .string/\0<=b/\b<=s.size,.v (.string (s.extract 0 b.toNat)),[],none,[],[]⟩:=by simp[tX,Is,Po,R.eK]
theorem amN(a:Addr):DM h [.v (.pointer (some a))]=⟨True,.v (.pointer (some a)),[],none,[],[]⟩:=rfl
theorem amO(T:a6)(x:aM):Ap P T [.v x]=⟨P.concrete T=true,.v (.iface T x),[],none,[],[]⟩:=rfl
end
end
end
section
def amP:=(I @mL.eq_1 (I @als (I @alu (I @alv (I @alA (I @alC (I @alD (I @alE (I @alF (I @alG (I @alH (I @alI (I @alJ (I @Uz.eq_1 (I @Uz.eq_2 (I @jf.eq_2 (I @jf.eq_3 (I @jf.eq_4 (I @jg.eq_1 (I @alK (I @alL (I @ga.eq_1 (I @alM (I @abq.eq_1 (I @UB.eq_1 (I @UB.eq_2 (I @u2.eq_1 (I @u2.eq_2 (I @DT.eq_1 (I @bF.eq_1 (I @ss.eq_1 (I @ss.eq_2 (I @dJ.eq_1 (I @dJ.eq_2 (I @alN (I @alO (I @alP (I @alQ (I @DX.eq_1 (I @DX.eq_2 (I @dH.eq_1 (I @dH.eq_2 (I @dH.eq_3 (I @dH.eq_4 (I @dH.eq_5 (I @dH.eq_6 (I @dH.eq_7 (I @dH.eq_8 (I @dH.eq_9 (I @dH.eq_10 @dH.eq_11))))))))))))))))))))))))))))))))))))))))))))))))))
def amQ:=(I @dH.eq_12 (I @dH.eq_15 (I @dH.eq_23 (I @dH.eq_13 (I @dH.eq_16 <| I @alR (I @dH.eq_17 (I @dH.eq_18 (I @dH.eq_19 (I @dH.eq_20 (I @dH.eq_21 (I @alS (I @dH.eq_25 (I @dH.eq_28 (I @dH.eq_29 (I @DP.eq_2 (I @R.new.eq_1 (I @R.ok.eq_1 (I @R.eK.eq_1 (I @dV.eq_1 (I @alT (I @alU (I @partsOf.eq_1 (I @alV (I @alW (I @alX (I @alY (I @alZ (I @al0 (I @al1 (I @al2 (I @al3 (I @al4 (I @al5 (I @al6 (I @al7 (I @al8 (I @al9 (I @ama (I @amb (I @amc (I @amd (I @jq.eq_4 (I @jq.eq_5 (I @jq.eq_7 (I @jq.eq_6 (I @jd.eq_1 (I @jd.eq_2 (I @FI.eq_1 (I @FI.eq_2 (I @ame @abr.eq_1))))))))))))))))))))))))))))))))))))))))))))))))))
def amR:=(I @amI (I @abz.eq_1 (I @aby.eq_1 (I @Pl.eq_1 (I @true_or (I @amf (I @amg (I @UC.eq_1 (I @UC.eq_2 (I @amh (I @UD.eq_1 (I @UD.eq_2 (I @mb.eq_1 (I @ami (I @p2.eq_1 (I @amj (I @amk (I @abt.eq_1 (I @aml (I @abu.eq_1 (I @amm (I @UE.eq_1 (I @amn (I @amo (I @amp (I @amq (I @amr (I @ams (I @amt (I @amu (I @amv (I @amw (I @amx (I @jO.eq_1 (I @jO.eq_2 (I @amy (I @amz (I @amA (I @xF.eq_1 (I @amB (I @amC (I @amD (I @amE (I @amF (I @abv.eq_1 (I @amG (I @abw.eq_1 (I @amH (I @PT.eq_1 (I @abx.eq_1 (I @amJ (I @amK (I @amL (I @amM (I @amN @amO)))))))))))))))))))))))))))))))))))))))))))))))))))))))
end
section
open Go.RowKit
variable{r:aD}
def uc:List Value->Nat->List (Nat×eJ)
 |[],_=>[]
 |x::r,i=>(i,.is (.v x))::uc r (i+1)
def qw(args:aX):eG:=⟨0,bK (uc args 0),bA []⟩
def abA:∀(l:aX) (i t:Nat),(bK (uc l i) t).keys=[]
 |[],_,_=>rfl
 |x::r,i,t=>by
  simp only[uc,bK,bF];split
  ·rfl
  ·exact abA r (i+1) t
def abB(E:dF):∀(l:aX) (i t:Nat) (fV:dF),(∀j (h:j<l.length),fV (i+j)=l[j])->fits E (bK (uc l i) t) (fV t)
 |[],_,_,_,_=>trivial
 |x::r,i,t,fV,h=>by
  simp only[uc,bK,bF];split
  ·rename_i aV;subst aV;have:=h 0 bq;trivial
  ·exact abB E r (i+1) t fV λj Y=>by
    have:=h (j+1) (aC Y)
    grind
def LV{w:ar}{nt m:Nat}(args:hE)(jM:args.size+m=nt) :
  Sat w [] nt ⟨[],[]⟩ (qw args.toList) { tmps:=args++Array.replicate m undef,defers:=[] } w:=by
 refine⟨⟨λ_=>undef,λ_=>[],λt=>?_,⟨λk e h=>(by cases h),λk e h=>(by cases h),λk e h=>(by cases h),λk eS e dn _ h=>(by cases h),cr.refl w []⟩,λp hp=>(by cases hp)⟩,by simpa using jM,rfl,λp hp=>(by cases hp),λt k ad=>?_,λk e h=>(by cases h)⟩
 ·refine abB _ args.toList 0 t (λt=>(args++Array.replicate m undef).getD t undef) λj Y=>?_
  have hW:j<args.size:=by trivial
  simp_all [OL]
 simp_all [abA,qw]
section
variable {P:bR}{f:dr}{fn:Func}{c:Code}{args:hE}{w:ar}{nt:Nat}
def cB{v:aM}(rs:List ResultVar)(aW:P.funcs[f]?=some fn)
  (h:ae P w [] nt ⟨[],[]⟩ c (Fin P rs (λ_ _ x _=>∀E,den E x=v) (λ_ _=>False)) (qw args.toList)) (Z:fn.body=some c:=by rfl) (hM:fn.results.toList=rs:=by rfl) (jM:args.size+(fn.ntmps-args.size)=nt:=by rfl) :
  Calls P f args w λe M=>e=.returned v/\cr w [] M:=by
 subst hM;refine(LQ aW Z (LV args jM) h).mono λe M he=>?_
 cases e with
 |returned u=>
  obtain⟨aO,bl,E,F,x,h,aB,dW,rfl,V,_⟩:=he
  grind [Ext.ir,an.keeps]
 |panicked c=>grind [Ends]
 |outgrown=>exact he.elim
def amS(T:a6)(s n:Nat)(vs:aX)(x:ag)(h:ca):Prop:=0<s/\((∃k,x=.ak k/\h k=some (.row T s n (vs.map .v)))\/(x=.v q5/\n=0/\vs=[]))
def UF{T:a6}{s n:Nat}{vs:aX}(g:Value->Value)(rs:List ResultVar)(aW:P.funcs[f]?=some fn)
  (h:ae P w [] nt ⟨[],[]⟩ c (Fin P rs (λ_ _ x h=>∃y,amS T s n vs y h/\∀E,den E x=g (den E y)) (λ_ _=>False)) (qw args.toList)) (Z:fn.body=some c:=by rfl) (hM:fn.results.toList=rs:=by rfl) (jM:args.size+(fn.ntmps-args.size)=nt:=by rfl) :
  Calls P f args w λe M=>∃u fp,e=.returned (g u)/\(∀cK,e3 cK u fp M (.row T s n (vs.map .v)))/\(∀b∈fp,w.heap.size<=b/\b<M.heap.size)/\cr w [] M:=by
 subst hM;refine(LQ aW Z (LV args jM) h).mono λe M he=>?_
 cases e with
 |returned u=>
  obtain⟨aO,bl,E,F,x,h,aB,⟨y,⟨IH,dW⟩,aK⟩,rfl,V,_⟩:=he;rcases dW with⟨k,rfl,ad⟩|⟨rfl,rfl,rfl⟩
  ·have xt:=V.hc k _ ad;refine⟨E k,F k,by grind [qq,yN,den],λcK => ?_,λb Z=>⟨?_,V.lt k _ ad b Z⟩,aB.ir V.keeps⟩
   ·grind [gr,e3]
   ·exact((V.back aB).nK k _ ad b Z).resolve_right bq
  ·exact⟨q5,[],by rw[aK E];rfl,λcK=>⟨⟨by simp[ba],.inl ⟨rfl,rfl⟩⟩,rfl⟩,λb Z=>(by cases Z),aB.ir V.keeps⟩
 |panicked c=>grind [Ends]
 |outgrown=>exact he.elim
end
inductive br where
 |val (v:aM)
 |row (T:a6) (s n:Nat) (vs:aX)
 |mp (ks:List ByteArray) (vs:aX)
def po(k:Nat):Option bL->Option (br×List Nat)
 |some (.row T s n us)=>(jO us).map λvs=>(.row T s n vs,[k])
 |some (.mp ks us)=>(jO us).map λvs=>(.mp ks vs,[k])
 |_=>none
def rN(h:ca):ag->Option (br×List Nat)
 |.v x=>some (.val x,[])
 |.agg l=>(jO l).map λvs=>(.val (.agg vs.toArray),[])
 |.ak k=>po k (h k)
 |_=>none
def abC:Option (br×List Nat)->Option (List br×List Nat)->Option (List br×List Nat)
 |some (a,r),some (aj,rs)=>some (a::aj,r++rs)
 |_,_=>none
def e6(h:ca):List ag->Option (List br×List Nat)
 |[]=>some ([],[])
 |x::r=>abC (rN h x) (e6 h r)
def UG:Value->Option Nat
 |.map r=>r
 |_=>none
def UH(w:ar)(u:aM)(ks:List ByteArray)(vs:aX):Prop:=∃b es c,u=.map (some b)/\w.heap[b]?=some (.map es c)/\es.toList.map (·.key)=ks.map .string/\es.toList.map (·.val)=vs
theorem PU{E:dF}{w:ar}{u:aM}{ks:List ByteArray}{vs:List ag}{fp:aD}:e3 E u fp w (.mp ks vs) ↔ UH w u ks (ba E vs)/\fp=(UG u).toList:=by grind [e3,UH,UG]
def xG(w:ar)(u:aM):br->Prop
 |.val v=>u=v
 |.row T s n vs=>w.ownsRow 0 T s u n vs
 |.mp ks vs=>UH w u ks vs
def pq(w:ar):List Value->List br->Prop
 |[],[]=>True
 |u::r,a::s=>xG w u a/\pq w r s
 |_,_=>False
theorem LW{E:dF}:∀{l:List ag} {vs:aX},jO l=some vs->ba E l=vs
 |[],vs,h=>by grind [jO,ba]
 |x::r,vs,h=>by
  cases x with
  |v x=>simp only[jO,ph]at h;obtain⟨ws,D,rfl⟩:=h;simp[ba,den,LW D]
  |_=>trivial
def DY(u:aM):br->List Nat
 |.val _=>[]
 |.row _ _ _ _=>u.ownBlock.toList
 |.mp _ _=>(UG u).toList
section
variable {P:bR}{W:ar}{bs:aD}{E:dF}{F:lK}{h:ca}{w:ar}
def II{x:ag}{a:br}(au:rN h x=some (a,r)):(r=[]/\(∃v,a=.val v/\∀E,den E x=v)/\∀bu,rN bu x=rN h x) \/
  ∃k e,x=.ak k/\r=[k]/\h k=some e/\(∀d R,e≠.obj d R)/\∀E u fp w,e3 E u fp w e ↔ xG w u a/\fp=DY u a:=by
 cases x with
 |v x=>grind [den,rN]
 |agg l=>obtain⟨vs,D,O⟩:=ph.1 au;cases O;exact .inl ⟨rfl,⟨_,rfl,λE=>by simp[den,LW D]⟩,λ_=>rfl⟩
 |ak k=>
  refine .inr ⟨k,?_⟩;simp only[rN]at au;cases ad:h k with
  |none=>grind [po]
  |some e=>
   rw[ad]at au;refine⟨e,rfl,?_⟩;cases e with
   |row T s n us=>obtain⟨vs,D,O⟩:=ph.1 au;cases O;exact⟨rfl,rfl,λ_ _ e=>(by cases e),λE u fp w=>by grind [LW,e3,xG,DY]⟩
   |mp ks us=>obtain⟨vs,D,O⟩:=ph.1 au;cases O;exact⟨rfl,rfl,λ_ _ e=>(by cases e),λE u fp w=>by rw[PU,LW D];rfl⟩
   |_=>cases au
 |_=>cases au
def LX{x:ag}{l:List ag}{aj:List br}(au:e6 h (x::l)=some (aj,r)):∃a yX bs AA,rN h x=some (a,yX)/\e6 h l=some (bs,AA)/\aj=a::bs/\r=yX++AA:=by
 simp only[e6]at au;cases D:rN h x<;>cases O:e6 h l<;>rw[D,O]at au<;>cases au
 grind
def abD(V:an W bs E F h w){x:ag}{a:br}(au:rN h x=some (a,r)):xG w (den E x) a:=by
 rcases II au with⟨_,⟨v,rfl,D⟩,_⟩|⟨k,e,rfl,_,ad,_,D⟩
 ·exact D E
 ·have:=V.hc k e ad
  grind [qq,yN,den]
theorem IJ(V:an W bs E F h w):∀{l:List ag} {aj:List br} {r:aD},e6 h l=some (aj,r)->pq w (ba E l) aj
 |[],_,_,au=>by cases au;trivial
 |x::l,_,_,au=>by obtain⟨a,yX,bs,AA,D,O,rfl,rfl⟩:=LX au;exact⟨abD V D,IJ V O⟩
def abE{bu:ca}{x:ag}{a:br}(au:rN h x=some (a,r))(aI:∀k∈r,bu k=h k):rN bu x=some (a,r):=by
 rcases II au with⟨_,_,D⟩|⟨k,e,rfl,rfl,_⟩
 all_goals grind [rN]
def IK{bu:ca}:∀{l:List ag} {aj:List br} {r:aD},e6 h l=some (aj,r)->(∀k∈r,bu k=h k)->e6 bu l=some (aj,r)
 |[],_,_,au,_=>au
 |x::l,_,_,au,aI=>by obtain⟨a,yX,bs,AA,D,O,rfl,rfl⟩:=LX au;rw[e6,abE D λk ad=>aI k (by simp[ad]),IK O λk ad=>aI k (by simp[ad])];rfl
end
structure cV (P:bR)(f:dr) where
 pre:World->List Nat->List br->Prop
 res:World->List br->Value
 enters:∀args w,(callFunc f args).run P w=.ok (.enter f args) w
 ok:∀(W w:ar) (bs:aD) (us:aX) (aj:List br),cr W bs w->pq w us aj->pre W bs aj->Calls P f us.toArray w λe M=>e=.returned (res W aj)/\cr w [] M
def Ga(pre:World->List Nat->List br->Prop)(res:World->List br->Value)(W:ar)(bs:aD):Option (List br×List Nat)->R
 |some (aj,rs)=>⟨pre W bs aj,.v (res W aj),[],none,[],rs⟩
 |none=>.bad
def cV.spec{P:bR}{f:dr}(p:cV P f):Spec P f where
 aJ:=λW bs _ h args=>Ga p.pre p.res W bs (e6 h args)
 Ar:=λW bs κ E F h w K args V cj ad aB aS=>by
  rw[p.enters];cases au:e6 h args with
  |none=>rw[au]at aS;exact aS.elim
  |some q=>obtain⟨aj,rs⟩:=q;rw[au]at aS;exact abm V (p.ok W w bs _ aj V.keeps (IJ V au) aS) rfl rfl rfl
 keys:=λW bs κ h K args cj aB aS=>by
  cases au:e6 h args with
  |none=>rw[au]at aS;exact aS.elim
  |some q=>exact s4.plain (λk ad=>by cases ad) rfl
 loc:=λW bs κ h bu args aS aI=>by
  cases au:e6 h args with
  |none=>rw[au]at aS;exact aS.elim
  |some q=>obtain⟨aj,rs⟩:=q;rw[au]at aI;rw[IK au aI]
structure IL (P:bR)(f:dr) where
 pre:World->List Nat->List br->Prop
 T:TypeId
 s:Nat
 n:World->List br->Nat
 vs:World->List br->List Value
 fV:World->List br->ag->ag
 g:World->List br->Value->Value
 IM:∀W aj E x,den E (fV W aj x)=g W aj (den E x)
 IN:∀W aj x,∀k∈(fV W aj x).keys,k∈x.keys
 enters:∀args w,(callFunc f args).run P w=.ok (.enter f args) w
 ok:∀(W w:ar) (bs:aD) (us:aX) (aj:List br),cr W bs w->pq w us aj->pre W bs aj->Calls P f us.toArray w λe M =>∃u fp,e=.returned (g W aj u)/\(∀cK,e3 cK u fp M (.row T s (n W aj) ((vs W aj).map .v)))/\(∀b∈fp,w.heap.size<=b/\b<M.heap.size)/\cr w [] M
def LY(κ:Nat)(T:a6)(s:Nat)(pre:World->List Nat->List br->Prop)(n:World->List br->Nat)(vs:World->List br->List Value)(fV:World->List br->ag->ag)(W:ar)(bs:aD):Option (List br×List Nat)->R
 |some (aj,rs)=>⟨pre W bs aj,fV W aj (.ak (8*κ)),[(8*κ,some (.row T s (n W aj) ((vs W aj).map .v)))],none,[],rs⟩
 |none=>.bad
def IL.spec{P:bR}{f:dr}(p:IL P f):Spec P f where
 aJ:=λW bs κ h args=>LY κ p.T p.s p.pre p.n p.vs p.fV W bs (e6 h args)
 Ar:=λW bs κ E F h w K args V cj ad aB aS=>by
  rw[p.enters];cases au:e6 h args with
  |none=>rw[au]at aS;exact aS.elim
  |some q=>obtain⟨aj,rs⟩:=q;rw[au]at aS;refine abn V cj ad ((p.ok W w bs _ aj V.keeps (IJ V au) aS).mono λe M he=>?_) rfl rfl;obtain⟨u,fp,rfl,xt,Af,hr⟩:=he;refine⟨_,u,fp,rfl,xt,Af,hr,?_⟩;simp only[LY,p.IM,den,dV,iB];rw[qq (yN (xt E))]
 keys:=λW bs κ h K args cj aB aS=>by
  cases au:e6 h args with
  |none=>rw[au]at aS;exact aS.elim
  |some q=>
   obtain⟨aj,rs⟩:=q;refine⟨λk ad=>.inr ?_,λq z=>?_⟩
   ·have:=p.IN _ _ _ k ad;simp[ag.keys]at this;subst this;exact tU κ
   ·simp only[LY,l8]at z;subst z;refine⟨.inr (tU κ),λe he k ad=>?_⟩;simp only[qo]at he;subst he;simp only[bL.keys,so]at ad;cases ad
 loc:=λW bs κ h bu args aS aI=>by
  cases au:e6 h args with
  |none=>rw[au]at aS;exact aS.elim
  |some q=>obtain⟨aj,rs⟩:=q;rw[au]at aI;rw[IK au aI]
def bQ(l:aX):jO (l.map .v)=some l:=by induction l<;>grind [jO]
def amT(κ:Nat)(T:a6)(s:Nat)(pre:World->List Nat->List br->Prop)(n:World->List br->Nat)(vs:World->List br->List Value)(fV:World->List br->ag->ag)(W:ar)(bs:aD)(aj:List br)(rs:aD) :
  LY κ T s pre n vs fV W bs (some (aj,rs))=⟨pre W bs aj,fV W aj (.ak (8*κ)),[(8*κ,some (.row T s (n W aj) ((vs W aj).map .v)))],none,[],rs⟩:=rfl
end
end Go.LE
