/-
 Part 5 of the proof (packed).
-/
import Derived.Test.YtnemkecffmdlnaaGreatDoorU4
import Derived.Shelf.Small.Strs
import Derived.Shelf.LaysM
import Derived.Shelf.Strconv.AtoiAll
import Derived.Shelf.Strings.Search1
import Derived.Shelf.Strings.Search2
import Derived.Shelf.Strings.Search3
import Derived.Shelf.Small.Wraps
import Derived.Shelf.Strings.Split
import Derived.Test.YtnemkecffmdlnaaGreatDoorProg
import Derived.Handy
import Derived.Lib.AtoiAllCases
import Derived.Lib.IndexBytes
import Derived.Shelf.Strconv.ToError
import Derived.Shelf.LaysC
import Derived.Lib.ConvBytes
import Derived.Lib.Hide
import Derived.Laws.Strings3
import Derived.Laws.Closers25
import Derived.Laws.Closers25b
import Derived.Shelf.Strings.OnBuilder
set_option linter.unusedSimpArgs false
set_option linter.unusedVariables false
set_option linter.defProp false
set_option maxHeartbeats 16000000
namespace Go.Proofs.YtnemkecffmdlnaaGreatDoor
section
open Go.RowKit Go.LE Go.Proofs.Tryz
set_option maxRecDepth 10000
def fL:ByteArray:=⟨#[]⟩
abbrev Tk:=Int×Nat×ByteArray
abbrev Pc:=ByteArray×Nat×Int×Nat
def mS(s:ByteArray)(i:Nat):Nat->Nat->ByteArray->Pc
 |0,_,_=>(fL,0,51,i)
 | n+1,k,o=>
  if k<s.size then
   if bt s (k:Nat)=34 then (o,k+1,0,0)
   else if qR (bt s (k:Nat))=false then (fL,0,50,k)
   else if ¬ bt s (k:Nat)=92 then mS s i n (k+1) (o++ff [bt s (k:Nat)])
   else if ¬ k+1<s.size then (fL,0,51,i)
   else if bt s ((k+1:Nat):Int)=110 then mS s i n (k+2) (o++ff [10])
   else if bt s ((k+1:Nat):Int)=114 then mS s i n (k+2) (o++ff [13])
   else if bt s ((k+1:Nat):Int)=116 then mS s i n (k+2) (o++ff [9])
   else if bt s ((k+1:Nat):Int)=34\/bt s ((k+1:Nat):Int)=92 then mS s i n (k+2) (o++ff [bt s ((k+1:Nat):Int)])
   else if bt s ((k+1:Nat):Int)=120 then
    if ¬ k+2<s.size then (fL,0,51,i)
    else if ie (bt s ((k+2:Nat):Int))<0 then (fL,0,50,k+2)
    else if ¬ k+3<s.size then (fL,0,51,i)
    else if ie (bt s ((k+3:Nat):Int))<0 then (fL,0,50,k+3)
    else mS s i n (k+4) (o++ff [16*ie (bt s ((k+2:Nat):Int))+ie (bt s ((k+3:Nat):Int))])
   else (fL,0,50,k+1)
  else (fL,0,51,i)
def zK(s:ByteArray)(i:Nat):Pc:=mS s i (s.size-(i+1)) (i+1) fL
def oY(s:ByteArray)(i:Nat):Nat->Nat->Pc
 |0,_=>(fL,0,52,i)
 | n+1,k=>
  if k<s.size then
   if qR (bt s (k:Nat))=false then (fL,0,50,k)
   else if bt s (k:Nat)=47 then (s.extract (i+1) k,k+1,0,0)
   else if bt s (k:Nat)=92 then
    if k+1<s.size/\qR (bt s ((k+1:Nat):Int))=false then (fL,0,50,k+1)
    else oY s i n (k+2)
   else oY s i n (k+1)
  else (fL,0,52,i)
def Ah(s:ByteArray)(i:Nat):Pc:=oY s i (s.size-(i+1)) (i+1)
def nmB(c:Int):Bool:=vL c||TU c
def KR(s:ByteArray):Nat->Nat->Nat
 |0,k=>k
 |n+1,k=>if k<s.size then if nmB (bt s (k:Nat))=true then KR s n (k+1) else k else k
def um(s:ByteArray)(i:Nat):Nat:=KR s (s.size-(i+1)) (i+1)
def b9(s:ByteArray)(i:Nat):Tk×Nat×Int×Nat:=
 if vL (bt s (i:Nat))=true then
  if 32<um s i-i then ((0,0,fL),0,1,i) else ((1,i,s.extract i (um s i)),um s i,0,0)
 else if bt s (i:Nat)=34 then ((2,i,(zK s i).1),(zK s i).2.1,(zK s i).2.2.1,(zK s i).2.2.2)
 else if bt s (i:Nat)=47 then ((3,i,(Ah s i).1),(Ah s i).2.1,(Ah s i).2.2.1,(Ah s i).2.2.2)
 else if Er (bt s (i:Nat))=true then ((4,i,s.extract i (i+1)),i+1,0,0)
 else if bt s (i:Nat)=62/\i+1<s.size/\bt s ((i+1:Nat):Int)=62 then ((4,i,⟨#[62,62]⟩),i+2,0,0)
 else ((0,0,fL),0,50,i)
def v8(s:ByteArray):Nat->Nat->List Tk->List Tk×Int×Nat
 |0,i,l=>(l++[(0,s.size,fL)],0,0)
 | n+1,i,l=>
  if i<s.size then
   if (b9 s i).2.2.1=0 then v8 s n (la s (b9 s i).2.1) (l++[(b9 s i).1]) else ([],(b9 s i).2.2.1,(b9 s i).2.2.2)
  else (l++[(0,s.size,fL)],0,0)
def bc(s:ByteArray):List Tk×Int×Nat:=if 4096<s.size then ([],1,0) else v8 s s.size (la s 0) []
theorem XY{s t:ByteArray}(hs:s.size=t.size)(h:∀ i:Nat,i<s.size->bt s (i:Nat)=bt t (i:Nat)):s=t:=by
 apply ByteArray.ext;apply Array.ext hs;intro i h1 h2;have:=h i h1;simp only[bt,Int.toNat_natCast,Array.getElem?_eq_getElem h1,Array.getElem?_eq_getElem h2,Option.getD_some]at this;exact UInt8.toNat_inj.1 oM
end
section
open Go.RowKit Go.LE Go.Proofs.Tryz
theorem jH:ts prog 54=some 1:=kR
theorem jI:ta prog 54=some false:=kR
theorem jJ:wA prog 54=some 16:=kR
theorem jK:tz prog 54=some [Value.nilIface]:=kR
theorem jL:isIface prog 54=some true:=kR
theorem Qx:ts prog 55=some 1:=kR
theorem Qy:ta prog 55=some false:=kR
theorem CT:ts prog 72=some 1:=kR
theorem CU:ta prog 72=some false:=kR
theorem CV:tz prog 72=some [Value.pointer none]:=kR
theorem CW:iW prog 72=some true:=kR
theorem CX:Program.underlying prog 72=some (.pointer 79):=kR
theorem Qz:ts prog 73=some 1:=kR
theorem QA:ta prog 73=some false:=kR
theorem QB:ts prog 75=some 1:=kR
theorem QC:ta prog 75=some false:=kR
theorem QD:tz prog 75=some [Value.slice none 0 0]:=kR
theorem QE:Program.underlying prog 75=some (.slice 134):=kR
theorem nN:ts prog 77=some 1:=kR
theorem nO:ta prog 77=some false:=kR
theorem nP:wA prog 77=some 16:=kR
theorem nQ:tz prog 77=some [Value.nilIface]:=kR
theorem nR:isIface prog 77=some true:=kR
theorem CY:ts prog 79=some 2:=kR
theorem CZ:ta prog 79=some true:=kR
theorem C0:tz prog 79=some [Value.slice none 0 0,Value.nilIface]:=kR
theorem C1:qX prog 79=some [(0,1),(1,1)]:=kR
theorem C2:tf prog 79 0=some (0,1,false):=kR
theorem C3:tf prog 79 1=some (1,1,false):=kR
theorem Ip:ts prog 129=some 1:=kR
theorem Iq:ta prog 129=some false:=kR
theorem Ir:tz prog 129=some [Value.pointer none]:=kR
theorem Is:iW prog 129=some true:=kR
theorem It:Program.underlying prog 129=some (.pointer 132):=kR
theorem QF:ts prog 130=some 1:=kR
theorem QG:ta prog 130=some false:=kR
theorem QH:tz prog 130=some [Value.map none]:=kR
theorem Iu:ts prog 132=some 1:=kR
theorem Iv:ta prog 132=some true:=kR
theorem Iw:tz prog 132=some [Value.map none]:=kR
theorem Ix:qX prog 132=some [(0,1)]:=kR
theorem Iy:tf prog 132 0=some (0,1,false):=kR
theorem QI:ts prog 134=some 3:=kR
theorem QJ:ta prog 134=some true:=kR
theorem QK:wA prog 134=some 40:=kR
theorem QL:tz prog 134=some [Value.int IntKind.i64 0,Value.string { data:=#[] },Value.nilIface]:=kR
theorem QM:qX prog 134=some [(0,1),(1,1),(2,1)]:=kR
theorem QN:tf prog 134 0=some (0,1,false):=kR
theorem QO:tf prog 134 1=some (1,1,false):=kR
theorem QP:tf prog 134 2=some (2,1,false):=kR
theorem QQ:ts prog 135=some 1:=kR
theorem QR:ta prog 135=some false:=kR
theorem Iz:ts prog 138=some 1:=kR
theorem IA:ta prog 138=some false:=kR
theorem IB:tz prog 138=some [Value.slice none 0 0]:=kR
theorem IC:Program.underlying prog 138=some (.slice 225):=kR
theorem akx:ts prog 139=some 1:=kR
theorem aky:ta prog 139=some false:=kR
theorem uz:ts prog 141=some 1:=kR
theorem uA:ta prog 141=some false:=kR
theorem uB:tz prog 141=some [Value.pointer none]:=kR
theorem uC:iW prog 141=some true:=kR
theorem uD:Program.underlying prog 141=some (.pointer 143):=kR
theorem uE:ts prog 143=some 2:=kR
theorem uF:ta prog 143=some true:=kR
theorem uG:tz prog 143=some [Value.slice none 0 0,Value.int IntKind.i64 0]:=kR
theorem uH:qX prog 143=some [(0,1),(1,1)]:=kR
theorem uI:tf prog 143 0=some (0,1,false):=kR
theorem uJ:tf prog 143 1=some (1,1,false):=kR
theorem pR:ts prog 190=some 2:=kR
theorem pS:ta prog 190=some true:=kR
theorem pT:qZ prog 190=some (.agg #[Value.int IntKind.i64 0,Value.string { data:=#[] }]):=kR
theorem pU:tz prog 190=some [Value.int IntKind.i64 0,Value.string { data:=#[] }]:=kR
theorem pV:qX prog 190=some [(0,1),(1,1)]:=kR
theorem pW:isIface prog 190=some false:=kR
theorem pX:Program.concrete prog 190=true:=kR
theorem pY:tf prog 190 0=some (0,1,false):=kR
theorem pZ:tf prog 190 1=some (1,1,false):=kR
theorem nS:ts prog 192=some 2:=kR
theorem nT:ta prog 192=some true:=kR
theorem nU:qZ prog 192=some (.agg #[Value.int IntKind.i64 0,Value.nilIface]):=kR
theorem nV:tz prog 192=some [Value.int IntKind.i64 0,Value.nilIface]:=kR
theorem nW:qX prog 192=some [(0,1),(1,1)]:=kR
theorem nX:isIface prog 192=some false:=kR
theorem nY:Program.concrete prog 192=true:=kR
theorem nZ:tf prog 192 0=some (0,1,false):=kR
theorem n7:tf prog 192 1=some (1,1,false):=kR
theorem p4:ts prog 193=some 1:=kR
theorem p5:ta prog 193=some false:=kR
theorem p6:qZ prog 193=some (Value.pointer none):=kR
theorem p7:tz prog 193=some [Value.pointer none]:=kR
theorem p8:iW prog 193=some true:=kR
theorem p9:Program.underlying prog 193=some (.pointer 196):=kR
theorem qc:isIface prog 193=some false:=kR
theorem qd:Program.concrete prog 193=true:=kR
theorem qe:ts prog 196=some 7:=kR
theorem qf:ta prog 196=some true:=kR
theorem qg:tz prog 196=some [Value.int IntKind.i64 0,Value.string { data:=#[] },Value.nilIface,Value.string { data:=#[] },Value.string { data:=#[] },Value.pointer none,Value.pointer none]:=kR
theorem qh:qX prog 196=some [(0,1),(1,1),(2,1),(3,1),(4,1),(5,1),(6,1)]:=kR
theorem qi:tf prog 196 0=some (0,1,false):=kR
theorem qj:tf prog 196 1=some (1,1,false):=kR
theorem qk:tf prog 196 2=some (2,1,false):=kR
theorem ql:tf prog 196 3=some (3,1,false):=kR
theorem qm:tf prog 196 4=some (4,1,false):=kR
theorem qn:tf prog 196 5=some (5,1,false):=kR
theorem qp:tf prog 196 6=some (6,1,false):=kR
theorem mi:ts prog 197=some 1:=kR
theorem mj:ta prog 197=some false:=kR
theorem ml:qZ prog 197=some (Value.pointer none):=kR
theorem mm:tz prog 197=some [Value.pointer none]:=kR
theorem mn:iW prog 197=some true:=kR
theorem mq:Program.underlying prog 197=some (.pointer 199):=kR
theorem mr:isIface prog 197=some false:=kR
theorem mu:Program.concrete prog 197=true:=kR
theorem mv:ts prog 199=some 7:=kR
theorem mw:ta prog 199=some true:=kR
theorem my:tz prog 199=some [Value.int IntKind.i64 0,Value.string { data:=#[] },Value.nilIface,Value.string { data:=#[] },Value.pointer none,Value.pointer none,Value.pointer none]:=kR
theorem mz:qX prog 199=some [(0,1),(1,1),(2,1),(3,1),(4,1),(5,1),(6,1)]:=kR
theorem mA:tf prog 199 0=some (0,1,false):=kR
theorem mB:tf prog 199 1=some (1,1,false):=kR
theorem mC:tf prog 199 2=some (2,1,false):=kR
theorem mD:tf prog 199 3=some (3,1,false):=kR
theorem mE:tf prog 199 4=some (4,1,false):=kR
theorem mF:tf prog 199 5=some (5,1,false):=kR
theorem mG:tf prog 199 6=some (6,1,false):=kR
theorem abC:ts prog 201=some 1:=kR
theorem abD:ta prog 201=some false:=kR
theorem abE:tz prog 201=some [Value.nilFunc]:=kR
theorem ID:ts prog 205=some 2:=kR
theorem IE:ta prog 205=some true:=kR
theorem IF:qZ prog 205=some (.agg #[Value.int IntKind.i64 0,Value.string { data:=#[] }]):=kR
theorem IG:tz prog 205=some [Value.int IntKind.i64 0,Value.string { data:=#[] }]:=kR
theorem IH:qX prog 205=some [(0,1),(1,1)]:=kR
theorem II:isIface prog 205=some false:=kR
theorem IJ:Program.concrete prog 205=true:=kR
theorem IK:tf prog 205 0=some (0,1,false):=kR
theorem IL:tf prog 205 1=some (1,1,false):=kR
theorem IM:ts prog 206=some 2:=kR
theorem IN:ta prog 206=some true:=kR
theorem IP:qZ prog 206=some (.agg #[Value.int IntKind.i64 0,Value.string { data:=#[] }]):=kR
theorem IQ:tz prog 206=some [Value.int IntKind.i64 0,Value.string { data:=#[] }]:=kR
theorem IS:qX prog 206=some [(0,1),(1,1)]:=kR
theorem IT:isIface prog 206=some false:=kR
theorem IU:Program.concrete prog 206=true:=kR
theorem IV:tf prog 206 0=some (0,1,false):=kR
theorem IW:tf prog 206 1=some (1,1,false):=kR
theorem IX:ts prog 207=some 2:=kR
theorem IY:ta prog 207=some true:=kR
theorem IZ:qZ prog 207=some (.agg #[Value.int IntKind.i64 0,Value.string { data:=#[] }]):=kR
theorem I0:tz prog 207=some [Value.int IntKind.i64 0,Value.string { data:=#[] }]:=kR
theorem I1:qX prog 207=some [(0,1),(1,1)]:=kR
theorem I2:isIface prog 207=some false:=kR
theorem I3:Program.concrete prog 207=true:=kR
theorem I4:tf prog 207 0=some (0,1,false):=kR
theorem I5:tf prog 207 1=some (1,1,false):=kR
theorem I6:ts prog 209=some 2:=kR
theorem I7:ta prog 209=some true:=kR
theorem I8:qZ prog 209=some (.agg #[Value.int IntKind.i64 0,Value.nilIface]):=kR
theorem I9:tz prog 209=some [Value.int IntKind.i64 0,Value.nilIface]:=kR
theorem Ja:qX prog 209=some [(0,1),(1,1)]:=kR
theorem Jb:isIface prog 209=some false:=kR
theorem Jc:Program.concrete prog 209=true:=kR
theorem Jd:tf prog 209 0=some (0,1,false):=kR
theorem Je:tf prog 209 1=some (1,1,false):=kR
theorem Jf:ts prog 210=some 1:=kR
theorem Jg:ta prog 210=some false:=kR
theorem C4:ts prog 212=some 3:=kR
theorem C5:ta prog 212=some true:=kR
theorem C6:qZ prog 212=some (.agg #[Value.int IntKind.i64 0,Value.string { data:=#[] },Value.nilIface]):=kR
theorem C7:tz prog 212=some [Value.int IntKind.i64 0,Value.string { data:=#[] },Value.nilIface]:=kR
theorem C8:qX prog 212=some [(0,1),(1,1),(2,1)]:=kR
theorem C9:isIface prog 212=some false:=kR
theorem Da:Program.concrete prog 212=true:=kR
theorem Db:tf prog 212 0=some (0,1,false):=kR
theorem Dc:tf prog 212 1=some (1,1,false):=kR
theorem Dd:tf prog 212 2=some (2,1,false):=kR
theorem De:ts prog 215=some 4:=kR
theorem Df:ta prog 215=some true:=kR
theorem Dg:qZ prog 215=some (.agg #[Value.int IntKind.i64 0,Value.string { data:=#[] },Value.nilIface,Value.nilIface]):=kR
theorem Dh:tz prog 215=some [Value.int IntKind.i64 0,Value.string { data:=#[] },Value.nilIface,Value.nilIface]:=kR
theorem Di:qX prog 215=some [(0,1),(1,1),(2,1),(3,1)]:=kR
theorem Dj:isIface prog 215=some false:=kR
theorem Dk:Program.concrete prog 215=true:=kR
theorem Dl:tf prog 215 0=some (0,1,false):=kR
theorem Dm:tf prog 215 1=some (1,1,false):=kR
theorem Dn:tf prog 215 2=some (2,1,false):=kR
theorem Dp:tf prog 215 3=some (3,1,false):=kR
theorem QS:ts prog 217=some 1:=kR
theorem QT:ta prog 217=some false:=kR
theorem QU:tz prog 217=some [Value.slice none 0 0]:=kR
theorem QV:Program.underlying prog 217=some (.slice 77):=kR
theorem yN:ts prog 219=some 3:=kR
theorem yO:ta prog 219=some true:=kR
theorem yP:qZ prog 219=some (.agg #[Value.int IntKind.i64 0,Value.string { data:=#[] },Value.slice none 0 0]):=kR
theorem yQ:tz prog 219=some [Value.int IntKind.i64 0,Value.string { data:=#[] },Value.slice none 0 0]:=kR
theorem yR:qX prog 219=some [(0,1),(1,1),(2,1)]:=kR
theorem yS:isIface prog 219=some false:=kR
theorem yT:Program.concrete prog 219=true:=kR
theorem yU:tf prog 219 0=some (0,1,false):=kR
theorem yV:tf prog 219 1=some (1,1,false):=kR
theorem yW:tf prog 219 2=some (2,1,false):=kR
theorem se:ts prog 221=some 1:=kR
theorem sf:ta prog 221=some false:=kR
theorem sg:tz prog 221=some [Value.pointer none]:=kR
theorem sk:iW prog 221=some true:=kR
theorem sn:Program.underlying prog 221=some (.pointer 223):=kR
theorem so:ts prog 223=some 6:=kR
theorem sr:ta prog 223=some true:=kR
theorem ss:tz prog 223=some [Value.string { data:=#[] },Value.int IntKind.i64 0,Value.slice none 0 0,Value.int IntKind.i64 0,Value.int IntKind.i64 0,Value.string { data:=#[] }]:=kR
theorem su:qX prog 223=some [(0,1),(1,1),(2,1),(3,3)]:=kR
theorem sv:tf prog 223 0=some (0,1,false):=kR
theorem sw:tf prog 223 1=some (1,1,false):=kR
theorem sA:tf prog 223 2=some (2,1,false):=kR
theorem sB:tf prog 223 3=some (3,3,true):=kR
theorem qs:ts prog 225=some 3:=kR
theorem qt:ta prog 225=some true:=kR
theorem qu:wA prog 225=some 32:=kR
theorem qv:tz prog 225=some [Value.int IntKind.i64 0,Value.int IntKind.i64 0,Value.string { data:=#[] }]:=kR
theorem qw:qX prog 225=some [(0,1),(1,1),(2,1)]:=kR
theorem qx:tf prog 225 0=some (0,1,false):=kR
theorem qy:tf prog 225 1=some (1,1,false):=kR
theorem qz:tf prog 225 2=some (2,1,false):=kR
theorem QW:ts prog 276=some 1:=kR
theorem QX:ta prog 276=some false:=kR
theorem akz:ts prog 287=some 1:=kR
theorem akA:ta prog 287=some false:=kR
theorem akB:tz prog 287=some [Value.map none]:=kR
theorem abJ:ts prog 288=some 5:=kR
theorem abK:ta prog 288=some true:=kR
theorem abL:tz prog 288=some [Value.string { data:=#[] },Value.string { data:=#[] },Value.string { data:=#[] },Value.string { data:=#[] },Value.string { data:=#[] }]:=kR
theorem abM:Program.underlying prog 288=some (.array 5 9):=kR
theorem abN:ts prog 289=some 1:=kR
theorem abO:ta prog 289=some false:=kR
theorem abP:ts prog 290=some 1:=kR
theorem abQ:ta prog 290=some false:=kR
theorem abR:tz prog 290=some [Value.pointer none]:=kR
theorem abS:iW prog 290=some true:=kR
theorem abT:Program.underlying prog 290=some (.pointer 293):=kR
theorem abU:ts prog 291=some 1:=kR
theorem abV:ta prog 291=some false:=kR
theorem abW:tz prog 291=some [Value.slice none 0 0]:=kR
theorem abX:Program.underlying prog 291=some (.slice 54):=kR
theorem abY:ts prog 293=some 5:=kR
theorem abZ:ta prog 293=some true:=kR
theorem ab0:tz prog 293=some [Value.int IntKind.i64 0,Value.string { data:=#[] },Value.slice none 0 0,Value.slice none 0 0,Value.int IntKind.i64 0]:=kR
theorem ab1:qX prog 293=some [(0,3),(3,1),(4,1)]:=kR
theorem ab2:tf prog 293 0=some (0,3,true):=kR
theorem ab3:tf prog 293 1=some (3,1,false):=kR
theorem ab4:tf prog 293 2=some (4,1,false):=kR
theorem akC:ts prog 325=some 1:=kR
theorem akD:ta prog 325=some false:=kR
end
section
open Go.RowKit Go.LE Go.Proofs.Tryz
set_option maxRecDepth 10000
theorem Lp(s:ByteArray)(i:Nat):∀ n k o,(mS s i n k o).2.2.1=0->k<(mS s i n k o).2.1/\(mS s i n k o).2.1<=s.size
 |0,k,o,h=>by simp[mS]at h
 | n+1,k,o,h=>by
  have ih:=Lp s i n;rw[mS]at h ⊢;by_cases hk:k<s.size
  ·rw[if_pos hk]at h ⊢;by_cases h1:bt s (k:Nat)=34
   ·rw[if_pos h1];exact⟨Nat.lt_succ_self _,hk⟩
   rw[if_neg h1]at h ⊢;by_cases h2:qR (bt s (k:Nat))=false
   ·rw[if_pos h2]at h;simp at h
   rw[if_neg h2]at h ⊢;by_cases h3:¬ bt s (k:Nat)=92
   ·rw[if_pos h3]at h ⊢;have:=ih _ _ h;omega
   rw[if_neg h3]at h ⊢;by_cases h4:¬ k+1<s.size
   ·rw[if_pos h4]at h;simp at h
   rw[if_neg h4]at h ⊢;by_cases q0:bt s ((k+1:Nat):Int)=110
   ·rw[if_pos q0]at h ⊢;have:=ih _ _ h;omega
   rw[if_neg q0]at h ⊢;by_cases q1:bt s ((k+1:Nat):Int)=114
   ·rw[if_pos q1]at h ⊢;have:=ih _ _ h;omega
   rw[if_neg q1]at h ⊢;by_cases q2:bt s ((k+1:Nat):Int)=116
   ·rw[if_pos q2]at h ⊢;have:=ih _ _ h;omega
   rw[if_neg q2]at h ⊢;by_cases q3:bt s ((k+1:Nat):Int)=34\/bt s ((k+1:Nat):Int)=92
   ·rw[if_pos q3]at h ⊢;have:=ih _ _ h;omega
   rw[if_neg q3]at h ⊢;by_cases h5:bt s ((k+1:Nat):Int)=120
   ·rw[if_pos h5]at h ⊢;by_cases h6:¬ k+2<s.size
    ·rw[if_pos h6]at h;simp at h
    rw[if_neg h6]at h ⊢;by_cases h7:ie (bt s ((k+2:Nat):Int))<0
    ·rw[if_pos h7]at h;simp at h
    rw[if_neg h7]at h ⊢;by_cases h8:¬ k+3<s.size
    ·rw[if_pos h8]at h;simp at h
    rw[if_neg h8]at h ⊢;by_cases h9:ie (bt s ((k+3:Nat):Int))<0
    ·rw[if_pos h9]at h;simp at h
    rw[if_neg h9]at h ⊢;have:=ih _ _ h;omega
   ·rw[if_neg h5]at h;simp at h
  ·rw[if_neg hk]at h;simp at h
theorem LD(s:ByteArray)(i:Nat):∀ n k,(oY s i n k).2.2.1=0->k<(oY s i n k).2.1/\(oY s i n k).2.1<=s.size
 |0,k,h=>by simp[oY]at h
 | n+1,k,h=>by
  have ih:=LD s i n;rw[oY]at h ⊢
  repeat' (split at h<;>rename_i hh<;>(first|rw[if_pos hh]|rw[if_neg hh]))
  all_goals first
   |(exfalso;simp at h;done)
   |(have:=ih _ h;omega)
   |exact⟨Nat.lt_succ_self _,by dsimp only;omega⟩
theorem ZR(s:ByteArray):∀ n k,k<=KR s n k/\KR s n k<=k+n
 |0,k=>⟨Nat.le_refl _,Nat.le_refl _⟩
 |n+1,k=>by
  have:=ZR s n (k+1);rw[KR];split
  ·split<;>omega
  ·omega
theorem OG{s:ByteArray}{i:Nat}(hi:i<s.size):i<um s i/\um s i<=s.size:=by
 have:=ZR s (s.size-(i+1)) (i+1);unfold um;omega
theorem yK{s:ByteArray}{i:Nat}(hi:i<s.size)(h:(b9 s i).2.2.1=0):i<(b9 s i).2.1/\(b9 s i).2.1<=s.size:=by
 have hn:=OG hi;unfold b9 at h ⊢
 repeat' (split at h<;>rename_i hh<;>(first|rw[if_pos hh]|rw[if_neg hh]))
 all_goals first
  |(exfalso;simp at h;done)
  |(have:=Lp s i _ _ _ h;simp only[zK];omega)
  |(have:=LD s i _ _ h;simp only[Ah];omega)
  |(simp only;omega)
def xx(l:List Tk):List Value:=l.flatMap λt=>[.int .i64 t.1,.int .i64 (t.2.1:Nat),.string t.2.2]
end
end Go.Proofs.YtnemkecffmdlnaaGreatDoor
namespace Go.Proofs
section
open Go.Shelf
end
end Go.Proofs
namespace Go.Proofs.YtnemkecffmdlnaaGreatDoor
section
open Go.RowKit Go.LE Go.Proofs.Tryz
set_option maxRecDepth 10000
def AK(W:World)(S:Nat->Prop):Prop:=(S 1/\∃ m:Int,W.cell? ⟨1,0,none⟩=some (.int .i64 m))/\(S 5/\∃ t v,W.cell? ⟨5,0,none⟩=some (.iface t v))/\S 6/\∃ t v,W.cell? ⟨6,0,none⟩=some (.iface t v)
theorem AK.mono{W W' : World}{S S' : Nat->Prop}(h:AK W S)(hs:aY W S W' S'):AK W' S' := by
 obtain⟨⟨a,m,ha⟩,⟨b,t,v,hb⟩,c,t',v',hc⟩:=h;have g:∀ b o v,S b->W.cell? ⟨b,o,none⟩=some v->W'.cell? ⟨b,o,none⟩=some v/\S' b:=λb o v hS hv=>by
  have:=XC.mono (b:=b) (o:=o) (v:=v) ⟨hS,hv⟩ hs;exact⟨this.2,this.1⟩
 exact⟨⟨(g _ _ _ a ha).2,m,(g _ _ _ a ha).1⟩,⟨(g _ _ _ b hb).2,t,v,(g _ _ _ b hb).1⟩,(g _ _ _ c hc).2,t',v',(g _ _ _ c hc).1⟩
theorem AK.fR{W w:World}{bs fp:List Nat}(h:AK W (Out bs))(hk:LE.an W bs w)(hm:∀ b∈fp,W.heap.size<=b\/b∈bs):AK w (Out fp):=
 h.mono λb hb hs=>⟨hk.block b hb hs,λhb' => (hm b hb').elim (λg=>absurd g (Nat.not_le.2 hb)) hs⟩
section
variable (s:ByteArray)(v:Int)(h:Lib.atoiAll s.data.toList=.ok v)(hs:s.size<=9)
end
theorem PgX.mono{p:Pg}{W W' : World}{S S' : Nat->Prop}{a1 a2 a3:Option Addr}(h:PgX p W S a1 a2 a3)(hs:aY W S W' S'):PgX p W' S' a1 a2 a3:=⟨h.1.mono hs,h.2.1.mono hs,h.2.2.mono hs⟩
theorem PgX.is{p:Pg}{w:World}{S:Nat->Prop}{a1 a2 a3:Option Addr}(h:PgX p w S a1 a2 a3)(hb:PgB p):adr p w a1 a2 a3:=⟨hb,h.1.is,h.2.1.is,h.2.2.is⟩
section
variable (p:Pg)(a1 a2 a3:Option Addr)(c1 c2 c3:Nat)(hb:PgB p)(hn:p.ty.length<=1048576/\p.tx.length<=1048576/\p.co.length<=1048576)
end
section
variable (W:World)(bs:List Nat)(n op k a b:Int)
end
section
variable (p:Pg)(a1 a2 a3:Option Addr)(c1 c2 c3:Nat)(hz:PgZ p)(hs:PgS p)
end
structure Rd where
 ty:List ByteArray
 tx:List ByteArray
 co:List (Int×Int×Int×Int)
 src:Int
 vw:Int
 pl:Nat
end
end Go.Proofs.YtnemkecffmdlnaaGreatDoor
namespace Go.Proofs
section
open Go.Shelf
def Tryz.Kz:Go.Shelf.Ren:=⟨λ| 137=>138|217=>189|266=>231|n=>n,λ| 9=>9|5=>5|3=>3|n=>n,λ| n=>n⟩
theorem Tryz.aeD:Go.Proofs.Lays.n137 Tryz.prog Tryz.Kz:={
 mixed:=by kernel_rfl
 f137:=Tryz.func138.trans (congrArg some (by kernel_rfl))
 f217:=Tryz.func189.trans (congrArg some (by kernel_rfl))
 f266:=Tryz.func231.trans (congrArg some (by kernel_rfl))
 t3:=Tryz.underlying3
 a3:=Tryz.isAgg3
 z3:=Tryz.sizeOf3
 v3:=Tryz.zeroValue3
 t5:=Tryz.underlying5
 a5:=Tryz.isAgg5
 z5:=Tryz.sizeOf5
 v5:=Tryz.zeroValue5
 t9:=Tryz.underlying9
 a9:=Tryz.isAgg9
 z9:=Tryz.sizeOf9
 v9:=Tryz.zeroValue9 }
end
end Go.Proofs
namespace Go.Proofs.YtnemkecffmdlnaaGreatDoor
section
open Go.RowKit Go.LE Go.Proofs.Tryz
set_option maxRecDepth 10000
theorem aet(s:ByteArray)(c:Int)(w:World):Calls prog 138 #[.string s,.int .u8 c] w λe w' => e=.returned (.int .i64 (Lib.indexByte s.data.toList c.toNat.toUInt8))/\LE.an w [] w' :=
 (Any.strings_IndexByte Tryz.aeD s c w).mono λe w' ⟨he,hw⟩=>⟨he,by rw[hw];exact LE.an.refl w []⟩
def Ut:a7 prog 138 where
 pre:=λW bs=>λ| [.val (.string s),.val (.int .u8 c)]=>True|_=>False
 res:=λW=>λ| [.val (.string s),.val (.int .u8 c)]=>.int .i64 (Lib.indexByte s.data.toList c.toNat.toUInt8)|_=>undef
 enters:=call138
 ok:=by
  intro W w bs us as_ hk hu hp;split at hp
  ·rename_i s c
   match us,hu with
   |[u0,u1],hu=>
    obtain⟨rfl,rfl,_⟩:=hu;exact aet s c w
  ·exact hp.elim
theorem Kt(W:World)(s:ByteArray)(c:Int):Ut.res W [.val (.string s),.val (.int .u8 c)]=.int .i64 (Lib.indexByte s.data.toList c.toNat.toUInt8):=rfl
theorem Ks(W:World)(bs:List Nat)(s:ByteArray)(c:Int):Ut.pre W bs [.val (.string s),.val (.int .u8 c)]=(True):=rfl
def Ed:=(ae @List.replicate_succ.{0} @List.replicate_zero.{0} @au @ab kQ kS Sz (ae SD SZ kU dc dd de df (ae dv dw dz dA mV mW mX (ae mY mZ eB eC eD eE eF (ae eG n8 oa ob oc uK uL (ae uM uN uO uP uQ uR uS (ae uT Iz IA IB IC se sf (ae sg sk sn so sr ss su (ae sv sw sA sB qs qt qu (ae qv qw qx qy qz @aV @aw (aa @aD @aG)))))))))))
theorem Mc(c:Int)(w:World):Calls prog 163 #[.int .u8 c] w λe w' => e=.returned (.bool (vL c))/\an w [] w' := by
 refine ak (nt:=21) [.tmp 2] func163 rfl rfl rfl ?_;refine vR Γ0 Ed ?_;refine vR Γ0 Ed ?_;refine wZ Ed ?_;exact λE=>rfl
theorem Qo(c:Int)(w:World):Calls prog 164 #[.int .u8 c] w λe w' => e=.returned (.bool (TU c))/\an w [] w' := by
 refine ak (nt:=9) [.tmp 2] func164 rfl rfl rfl ?_;refine vR Γ0 Ed ?_;refine vR Γ0 Ed ?_;refine wZ Ed ?_;exact λE=>rfl
theorem Qs(c:Int)(w:World):Calls prog 210 #[.int .u8 c] w λe w' => e=.returned (.bool (qR c))/\an w [] w' := by
 refine ak (nt:=9) [.tmp 2] func210 rfl rfl rfl ?_;refine vR Γ0 Ed ?_;refine vR Γ0 Ed ?_;refine wZ Ed ?_;exact λE=>rfl
def wF:a7 prog 163 where
 pre:=λW bs=>λ| [.val (.int .u8 c)]=>True|_=>False
 res:=λW=>λ| [.val (.int .u8 c)]=>.bool (vL c)|_=>undef
 enters:=call163
 ok:=by
  intro W w bs us as_ hk hu hp;split at hp
  ·rename_i c
   match us,hu with
   |[u0],hu=>
    obtain⟨rfl,_⟩:=hu;exact Mc c w
  ·exact hp.elim
theorem wH(W:World)(c:Int):wF.res W [.val (.int .u8 c)]=.bool (vL c):=rfl
theorem wG(W:World)(bs:List Nat)(c:Int):wF.pre W bs [.val (.int .u8 c)]=(True):=rfl
def AF:a7 prog 164 where
 pre:=λW bs=>λ| [.val (.int .u8 c)]=>True|_=>False
 res:=λW=>λ| [.val (.int .u8 c)]=>.bool (TU c)|_=>undef
 enters:=call164
 ok:=by
  intro W w bs us as_ hk hu hp;split at hp
  ·rename_i c
   match us,hu with
   |[u0],hu=>
    obtain⟨rfl,_⟩:=hu;exact Qo c w
  ·exact hp.elim
theorem zS(W:World)(c:Int):AF.res W [.val (.int .u8 c)]=.bool (TU c):=rfl
theorem zR(W:World)(bs:List Nat)(c:Int):AF.pre W bs [.val (.int .u8 c)]=(True):=rfl
def AG:a7 prog 210 where
 pre:=λW bs=>λ| [.val (.int .u8 c)]=>True|_=>False
 res:=λW=>λ| [.val (.int .u8 c)]=>.bool (qR c)|_=>undef
 enters:=call210
 ok:=by
  intro W w bs us as_ hk hu hp;split at hp
  ·rename_i c
   match us,hu with
   |[u0],hu=>
    obtain⟨rfl,_⟩:=hu;exact Qs c w
  ·exact hp.elim
theorem sd(W:World)(c:Int):AG.res W [.val (.int .u8 c)]=.bool (qR c):=rfl
theorem sc(W:World)(bs:List Nat)(c:Int):AG.pre W bs [.val (.int .u8 c)]=(True):=rfl
def tG(s:ByteArray)(i:Int)(d:Nat)(op:List Value)(c a:Int)(t:ByteArray):List AV:=[.val (.string s),.val (.int .i64 i),.row 225 3 d op,.val (.int .i64 c),.val (.int .i64 a),.val (.string t)]
def tF(s:ByteArray)(i:Nat)(l:List Tk)(c a:Int):List AV:=tG s (i:Nat) l.length (xx l) c a ⟨#[]⟩
theorem abm{w:World}{u:Value}{fp:List Nat}{s:ByteArray}{i:Int}{d:Nat}{op:List Value}{c a:Int}{t:ByteArray}(h:aW w u fp 223 (tG s i d op c a t)) :
  ∃ b,u=.pointer (some ⟨b,0,none⟩)/\w.cell? ⟨b,0,none⟩=some (.string s)/\w.cell? ⟨b,0+1,none⟩=some (.int .i64 i):=by
 obtain⟨b,us,h1,h2,h3⟩:=yg h
 match us,h2 with
 |[x,y,z,x',y',z'],h2=>
  obtain⟨rfl,rfl,_⟩:=h2;exact⟨b,h1,h3 0 sI,h3 1 sI⟩
def adG:=(ae Ed @wH @wG @zS @zR @sd @sc (aa @tG.eq_1 @tF.eq_1))
theorem Qp(s:ByteArray)(i:Int)(b:Nat)(w:World)(g1:w.cell? ⟨b,0,none⟩=some (.string s))(g2:w.cell? ⟨b,0+1,none⟩=some (.int .i64 i)) :
  Calls prog 107 #[.pointer (some ⟨b,0,none⟩)] w λe w' => e=.returned (.bool (decide ((s.size:Int)<=i)))/\an w [] w' := by
 refine ak (nt:=13) [.tmp 2] func107 rfl rfl rfl ?_;refine vR Γ0 adG ?_;refine yY Γ0 (bw adG g1 g2) ?_;refine wZ adG ?_;exact λE=>rfl
def gT:y8 prog 107 where
 T:=223
 pre:=λW bs fs as_=>match fs,as_ with|[.val (.string s),.val (.int .i64 i),.row 225 3 d op,.val (.int .i64 c),.val (.int .i64 a),.val (.string t)],[]=>True|_,_=>False
 res:=λW fs as_=>match fs,as_ with|[.val (.string s),.val (.int .i64 i),.row 225 3 d op,.val (.int .i64 c),.val (.int .i64 a),.val (.string t)],[]=>.bool (decide ((s.size:Int)<=i))|_,_=>undef
 enters:=call107
 ok:=by
  intro W w bs u fp us fs as_ hk ho hu hp;split at hp
  ·rename_i s i d op c a t
   match us,hu with
   |[],_=>
    obtain⟨b,rfl,g1,g2⟩:=abm ho;exact Qp s i b w g1 g2
  ·exact hp.elim
theorem gC(W:World)(s:ByteArray)(i:Int)(d:Nat)(op:List Value)(c:Int)(a:Int)(t:ByteArray):gT.res W [.val (.string s),.val (.int .i64 i),.row 225 3 d op,.val (.int .i64 c),.val (.int .i64 a),.val (.string t)] []=.bool (decide ((s.size:Int)<=i)):=rfl
theorem gB(W:World)(bs:List Nat)(s:ByteArray)(i:Int)(d:Nat)(op:List Value)(c:Int)(a:Int)(t:ByteArray):gT.pre W bs [.val (.string s),.val (.int .i64 i),.row 225 3 d op,.val (.int .i64 c),.val (.int .i64 a),.val (.string t)] []=(True):=rfl
theorem kj:gT.T=223:=rfl
def Ty:=(fJ adG @gC @gB @kj)
theorem WE(s:ByteArray)(i:Int)(d:Nat)(op:List Value)(c a:Int)(t:ByteArray)(e j:Int)(u:Value)(fp:List Nat)(w:World)(ho:aW w u fp 223 (tG s i d op c a t))(hlt:∀ b∈fp,b<w.heap.size) :
  Calls prog 165 (#[u]++#[.int .i64 e,.int .i64 j]) w λx w' => dH w u fp 223 x w' (.ret (.bool false) (tG s i d op e j ⟨#[]⟩)):=by
 refine aN (nt:=13) #[.int .i64 e,.int .i64 j] [.tmp 6] (by show 6<=7;omega) ho hlt func165 rfl rfl rfl ?_;refine vR Γ0 Ty ?_;refine vR Γ0 Ty ?_;refine vR Γ0 Ty ?_;refine wZ Ty ?_;exact⟨_,_,rfl,λE=>rfl,_,_,rfl,(ev (aa Ty @aq)),dE⟩
def ux:bJ prog 165 where
 T:=223
 pre:=λW bs fs as_=>match fs,as_ with|[.val (.string s),.val (.int .i64 i),.row 225 3 d op,.val (.int .i64 c),.val (.int .i64 a),.val (.string t)],[.val (.int .i64 e),.val (.int .i64 j)]=>True|_,_=>False
 out:=λW fs as_=>match fs,as_ with|[.val (.string s),.val (.int .i64 i),.row 225 3 d op,.val (.int .i64 c),.val (.int .i64 a),.val (.string t)],[.val (.int .i64 e),.val (.int .i64 j)]=>.ret (.bool false) (tG s i d op e j ⟨#[]⟩)|_,_=>.pan [] undef
 enters:=call165
 ok:=by
  intro W w bs u fp us fs as_ hk ho hlt hmine hu hp;split at hp
  ·rename_i s i d op c a t e j
   match us,hu with
   |[u0,u1],hu=>
    obtain⟨rfl,rfl,_⟩:=hu;exact WE s i d op c a t e j u fp w ho hlt
  ·exact hp.elim
theorem pN(W:World)(s:ByteArray)(i:Int)(d:Nat)(op:List Value)(c:Int)(a:Int)(t:ByteArray)(e:Int)(j:Int):ux.out W [.val (.string s),.val (.int .i64 i),.row 225 3 d op,.val (.int .i64 c),.val (.int .i64 a),.val (.string t)] [.val (.int .i64 e),.val (.int .i64 j)]=.ret (.bool false) (tG s i d op e j ⟨#[]⟩):=rfl
theorem pO(W:World)(bs:List Nat)(s:ByteArray)(i:Int)(d:Nat)(op:List Value)(c:Int)(a:Int)(t:ByteArray)(e:Int)(j:Int):ux.pre W bs [.val (.string s),.val (.int .i64 i),.row 225 3 d op,.val (.int .i64 c),.val (.int .i64 a),.val (.string t)] [.val (.int .i64 e),.val (.int .i64 j)]=(True):=rfl
theorem wB:ux.T=223:=rfl
def XV:=(fJ Ty @pN @pO @wB)
theorem abn(s:ByteArray)(i:Int)(d:Nat)(op:List Value)(c a:Int)(t:ByteArray)(k j:Int)(x:ByteArray)(u:Value)(fp:List Nat)(w:World)(hd:op.length=d*3)(hd2:d<=1000000)(ho:aW w u fp 223 (tG s i d op c a t))(hlt:∀ b∈fp,b<w.heap.size) :
  Calls prog 109 (#[u]++#[.int .i64 k,.int .i64 j,.string x]) w λy w' => dH w u fp 223 y w' (.ret (.bool true) (tG s i (d+1) (op++[.int .i64 k,.int .i64 j,.string x]) c a t)):=by
 have hop:op.map SV.v++[.v (.int .i64 k),.v (.int .i64 j),.v (.string x)]=(op++([.int .i64 k,.int .i64 j,.string x]:List Value)).map SV.v:=by simp
 refine aN (nt:=22) #[.int .i64 k,.int .i64 j,.string x] [.tmp 8] (by show 6<=7;omega) ho hlt func109 rfl rfl rfl ?_;refine vR Γ0 XV ?_;refine wR Γ0 XV ?_ ?_
 ·exact⟨by unfold maxLen;omega,oM⟩
 refine vR Γ0 XV ?_;refine wZ (aa XV hop) ?_;exact⟨_,_,rfl,λE=>rfl,_,_,rfl,(ev (aa XV @aq)),dE⟩
def wz:bJ prog 109 where
 T:=223
 pre:=λW bs fs as_=>match fs,as_ with|[.val (.string s),.val (.int .i64 i),.row 225 3 d op,.val (.int .i64 c),.val (.int .i64 a),.val (.string t)],[.val (.int .i64 k),.val (.int .i64 j),.val (.string x)]=>op.length=d*3/\d<=1000000|_,_=>False
 out:=λW fs as_=>match fs,as_ with|[.val (.string s),.val (.int .i64 i),.row 225 3 d op,.val (.int .i64 c),.val (.int .i64 a),.val (.string t)],[.val (.int .i64 k),.val (.int .i64 j),.val (.string x)]=>.ret (.bool true) (tG s i (d+1) (op++[.int .i64 k,.int .i64 j,.string x]) c a t)|_,_=>.pan [] undef
 enters:=call109
 ok:=by
  intro W w bs u fp us fs as_ hk ho hlt hmine hu hp;split at hp
  ·rename_i s i d op c a t k j x
   match us,hu with
   |[u0,u1,u2],hu=>
    obtain⟨rfl,rfl,rfl,_⟩:=hu;exact abn s i d op c a t k j x u fp w hp.1 hp.2 ho hlt
  ·exact hp.elim
theorem tw(W:World)(s:ByteArray)(i:Int)(d:Nat)(op:List Value)(c:Int)(a:Int)(t:ByteArray)(k:Int)(j:Int)(x:ByteArray):wz.out W [.val (.string s),.val (.int .i64 i),.row 225 3 d op,.val (.int .i64 c),.val (.int .i64 a),.val (.string t)] [.val (.int .i64 k),.val (.int .i64 j),.val (.string x)]=.ret (.bool true) (tG s i (d+1) (op++[.int .i64 k,.int .i64 j,.string x]) c a t):=rfl
theorem tA(W:World)(bs:List Nat)(s:ByteArray)(i:Int)(d:Nat)(op:List Value)(c:Int)(a:Int)(t:ByteArray)(k:Int)(j:Int)(x:ByteArray):wz.pre W bs [.val (.string s),.val (.int .i64 i),.row 225 3 d op,.val (.int .i64 c),.val (.int .i64 a),.val (.string t)] [.val (.int .i64 k),.val (.int .i64 j),.val (.string x)]=(op.length=d*3/\d<=1000000):=rfl
theorem AE:wz.T=223:=rfl
theorem wD(l:List Tk):(xx l).length=l.length*3:=by
 induction l with
 |nil=>rfl
 |cons x r ih=>
  have e:xx (x::r)=[.int .i64 x.1,.int .i64 (x.2.1:Nat),.string x.2.2]++xx r:=rfl;rw[e,List.length_append,ih];simp only[List.length_cons,List.length_nil];omega
theorem Ma(l:List Tk)(x:Int)(y:Nat)(z:ByteArray):xx l++[.int .i64 x,.int .i64 (y:Nat),.string z]=xx (l++[(x,y,z)]):=by
 unfold xx;rw[List.flatMap_append];rfl
def xJ(c:Int):Bool:=((decide (c=32)||decide (c=9))||decide (c=10))||decide (c=13)
theorem afK(c:Int):Qg c false=!xJ c:=by
 unfold Qg xJ;generalize decide (c=32)=a1;generalize decide (c=9)=a2;generalize decide (c=10)=a3;generalize decide (c=13)=a4;cases a1<;>cases a2<;>cases a3<;>cases a4<;>rfl
theorem GW(s:ByteArray){i:Nat}(h:s.size<=i)(b:Bool):lb s (s.size-i) b i=i:=by
 rw[show s.size-i=0 by omega];rfl
theorem oD(s:ByteArray){i:Nat}(h:i<s.size)(b:Bool):lb s (s.size-i) b i=if Qg (bt s i) (rj (bt s i) b)=true then i else lb s (s.size-(i+1)) (rj (bt s i) b) (i+1):=by
 rw[show s.size-i=(s.size-(i+1))+1 by omega];rfl
theorem ajr(s:ByteArray){i:Nat}(h:i<s.size)(hc:¬ bt s i=10):lb s (s.size-i) true i=lb s (s.size-(i+1)) true (i+1):=by
 rw[oD s h];have e:rj (bt s i) true=true:=by
  unfold rj;rw[if_neg hc];split<;>rfl
 rw[e,if_neg (by simp[Qg])]
theorem ajs(s:ByteArray){i:Nat}(h:i<s.size)(hc:bt s i=10):lb s (s.size-i) true i=lb s (s.size-i) false i:=by
 rw[oD s h,oD s h];have e:∀ b,rj (bt s i) b=false:=λb=>by rw[rj,if_pos hc]
 rw[e,e]
theorem YN(s:ByteArray){i:Nat}(h:i<s.size)(hc:bt s i=35):lb s (s.size-i) false i=lb s (s.size-i) true i:=by
 rw[oD s h,oD s h];have e:∀ b,rj (bt s i) b=true:=λb=>by rw[rj,if_neg oM,if_pos hc]
 rw[e,e]
theorem Uk(s:ByteArray){i:Nat}(h:i<s.size)(hc:¬ bt s i=35):lb s (s.size-i) false i=if xJ (bt s i)=true then lb s (s.size-(i+1)) false (i+1) else i:=by
 rw[oD s h];have e:rj (bt s i) false=false:=by
  simp[rj,hc]
 rw[e,afK];cases xJ (bt s i)<;>rfl
noncomputable def D0:Env prog:=⟨λ| 107=>some gT.spec|_=>none,λ| _=>none,λ_ _=>none⟩
theorem ace:D0.sp 107=some gT.spec:=rfl
def jf:=(ae @List.replicate_succ.{0} @List.replicate_zero.{0} @au @ab kQ kS kU (ae dc dd de df dv dw dz (ae dA mV mW mX mY mZ eB (ae eC eD eE eF eG se sf (ae sg sk sn so sr ss su (ae sv sw sA sB @aV @aw @aD (EP @aG @tG.eq_1 @tF.eq_1 ace @gC @gB @kj)))))))
theorem WV(s:ByteArray)(i:Nat)(d:Nat)(op:List Value)(c a:Int)(t:ByteArray)(u:Value)(fp:List Nat)(w:World)(hi:i<=s.size)(hs:s.size<=100000000)(ho:aW w u fp 223 (tG s i d op c a t))(hlt:∀ b∈fp,b<w.heap.size) :
  Calls prog 106 (#[u]++#[]) w λx w' => dH w u fp 223 x w' (.ret (.tuple #[]) (tG s (la s i:Nat) d op c a t)):=by
 refine aN (nt:=50) #[] [] (by show 6<=7;omega) ho hlt func106 rfl rfl rfl ?_;refine Wp.block ?_
 refine Wp.loop (λk:Nat=>⟨1,ee [(0,.is (.own 0 0))],dP [(0,.cells 223 [.v (.string s),.v (.int .i64 (k:Nat)),.hd 3,.v (.int .i64 c),.v (.int .i64 a),.v (.string t)]),(3,.row 225 3 d (op.map .v))]⟩) (λk=>k<=s.size/\lb s (s.size-k) false k=la s i) (λk=>s.size-k) i ?_ ⟨hi,rfl⟩ ?_
 ·exact wM (λk=>.key k) jf
 rintro k ⟨hk,hg⟩;refine Wp.seq ?_;refine vR D0 jf ?_;refine wC jf (λhc=>?_) (λhc=>?_)
 ·have hlt:k<s.size:=by
   simp at hc;omega
  have wk:IntKind.i64.wrap ((k:Int)+1)=((k+1:Nat):Int):=wW;refine wK ?_;refine Wp.block ?_;refine kA D0 jf ?_ ?_
  ·omega
  refine Wp.block ?_;refine vR D0 jf ?_;refine wC jf (λhc=>?_) (λhc=>?_)
  ·have h35:bt s k=35:=by simpa using hc
   rw[YN s hlt h35]at hg;refine Wp.block ?_
   refine Wp.loop (λj:Nat=>⟨40,ee [(0,.is (.own 0 0))],dP [(0,.cells 223 [.v (.string s),.v (.int .i64 (j:Nat)),.hd 3,.v (.int .i64 c),.v (.int .i64 a),.v (.string t)]),(3,.row 225 3 d (op.map .v))]⟩) (λj=>k<=j/\j<=s.size/\(j=k->bt s k=35)/\lb s (s.size-j) true j=la s i) (λj=>s.size-j) k ?_ ⟨Nat.le_refl _,hk,λ_=>h35,hg⟩ ?_
   ·exact wM (λk=>.key k) jf
   rintro j ⟨j1,j2,j3,j4⟩;have wj:IntKind.i64.wrap ((j:Int)+1)=((j+1:Nat):Int):=wW;refine Wp.seq ?_;refine kA D0 jf ?_ ?_
   ·refine⟨dE,λh=>?_⟩;simp at h;omega
   refine wC jf (λhc=>?_) (λhc=>?_)
   ·have hj:j<s.size/\¬ bt s j=10:=by
     simp at hc;exact⟨oM,hc.2⟩
    rw[ajr s hj.1 hj.2]at j4;refine wK ?_;refine Wp.block ?_;refine vr D0 (aa jf wj) ?_;refine⟨j+1,⟨oM,oM,λh=>by omega,j4⟩,oM,?_⟩;exact wM (λk=>.key k) jf
   ·have hj:s.size<=j\/bt s j=10:=by
     by_cases h:j<s.size
     ·right;simp at hc;exact hc h
     ·left;omega
    have hne:k<j:=by
     rcases Nat.lt_or_ge k j with h|h
     ·exact h
     ·have:j=k:=oM;subst this;rcases hj with hj|hj
      ·omega
      ·omega
    refine wE ?_;refine⟨j,⟨j2,?_⟩,oM,?_⟩
    ·rcases hj with hj|hj
     ·rw[GW s hj]at j4 ⊢;exact j4
     ·by_cases h:j<s.size
      ·rw[ajs s h hj]at j4;exact j4
      ·rw[GW s oM]at j4 ⊢;exact j4
    ·exact wM (λk=>.key k) jf
  ·have h35:¬ bt s k=35:=by simpa using hc
   rw[Uk s hlt h35]at hg;clear hc;refine hH ⟨60,ee [(0,.is (.own 0 0)),(38,.is (.v (.bool (xJ (bt s k)))))],dP [(0,.cells 223 [.v (.string s),.v (.int .i64 (k:Nat)),.hd 3,.v (.int .i64 c),.v (.int .i64 a),.v (.string t)]),(3,.row 225 3 d (op.map .v))]⟩ ?_ ?_
   ·generalize bt s k=z at *;skip;refine vR D0 jf ?_;refine wC jf (λhc=>?_) (λhc=>?_)
    ·have h:xJ z=true:=by
      simp at hc;simp[xJ,hc]
     refine wK ?_;exact wM (λk=>.key k) (bw jf h hc)
    refine vR D0 jf ?_;have h0:decide (z=32)=false:=hc;clear hc;refine wC jf (λhc=>?_) (λhc=>?_)
    ·have h:xJ z=true:=by
      simp at hc;simp[xJ,hc]
     refine wK ?_;exact wM (λk=>.key k) (bw jf h hc)
    have h1:decide (z=9)=false:=hc;clear hc;refine vR D0 jf ?_;refine wC jf (λhc=>?_) (λhc=>?_)
    ·have h:xJ z=true:=by
      simp at hc;simp[xJ,hc]
     refine wK ?_;exact wM (λk=>.key k) (bw jf h hc)
    have h2:decide (z=10)=false:=hc;clear hc;have e:xJ z=decide (z=13):=by rw[xJ,h0,h1,h2];rfl
    refine vr D0 jf ?_;exact wM (λk=>.key k) (aa jf e)
   refine wC jf (λhc=>?_) (λhc=>?_)
   ·rw[if_pos hc]at hg;refine vr D0 (aa jf wk) ?_;refine⟨k+1,⟨oM,hg⟩,oM,?_⟩;exact wM (λk=>.key k) jf
   ·rw[if_neg (by rw[hc];simp)]at hg;rw[<- hg];refine wZ jf ?_;exact⟨_,_,rfl,λE=>rfl,_,_,rfl,(ev (aa jf @aq)),dE⟩
 ·have hk' : k=s.size:=by
   simp at hc;omega
  rw[GW s oM]at hg;rw[<- hg];refine wE ?_;refine wS jf ?_;exact⟨_,_,rfl,λE=>rfl,_,_,rfl,(ev (aa jf @aq)),dE⟩
def CQ:bJ prog 106 where
 T:=223
 pre:=λW bs fs as_=>match fs,as_ with|[.val (.string s),.val (.int .i64 i),.row 225 3 d op,.val (.int .i64 c),.val (.int .i64 a),.val (.string t)],[]=>(0<=i/\i<=s.size)/\s.size<=100000000|_,_=>False
 out:=λW fs as_=>match fs,as_ with|[.val (.string s),.val (.int .i64 i),.row 225 3 d op,.val (.int .i64 c),.val (.int .i64 a),.val (.string t)],[]=>.ret (.tuple #[]) (tG s (la s i.toNat:Nat) d op c a t)|_,_=>.pan [] undef
 enters:=call106
 ok:=by
  intro W w bs u fp us fs as_ hk ho hlt hmine hu hp;split at hp
  ·rename_i s i d op c a t
   match us,hu with
   |[],_=>
    obtain⟨k,rfl⟩:=Int.eq_ofNat_of_zero_le hp.1.1;exact WV s k d op c a t u fp w oM hp.2 ho hlt
  ·exact hp.elim
theorem Qv(W:World)(s:ByteArray)(i:Int)(d:Nat)(op:List Value)(c:Int)(a:Int)(t:ByteArray):CQ.out W [.val (.string s),.val (.int .i64 i),.row 225 3 d op,.val (.int .i64 c),.val (.int .i64 a),.val (.string t)] []=.ret (.tuple #[]) (tG s (la s i.toNat:Nat) d op c a t):=rfl
theorem Qw(W:World)(bs:List Nat)(s:ByteArray)(i:Int)(d:Nat)(op:List Value)(c:Int)(a:Int)(t:ByteArray):CQ.pre W bs [.val (.string s),.val (.int .i64 i),.row 225 3 d op,.val (.int .i64 c),.val (.int .i64 a),.val (.string t)] []=((0<=i/\i<=s.size)/\s.size<=100000000):=rfl
theorem abA:CQ.T=223:=rfl
def ic(s:ByteArray)(i:Nat):Int×Bool×Nat:=
 if ¬ i+1<s.size then (0,false,i+1)
 else if bt s ((i+1:Nat):Int)=110 then (10,true,i+1)
 else if bt s ((i+1:Nat):Int)=114 then (13,true,i+1)
 else if bt s ((i+1:Nat):Int)=116 then (9,true,i+1)
 else if bt s ((i+1:Nat):Int)=34\/bt s ((i+1:Nat):Int)=92 then (bt s ((i+1:Nat):Int),true,i+1)
 else if bt s ((i+1:Nat):Int)=120 then
  if ¬ i+2<s.size then (0,false,i+2)
  else if ie (bt s ((i+2:Nat):Int))<0 then (0,false,i+2)
  else if ¬ i+3<s.size then (0,false,i+3)
  else if ie (bt s ((i+3:Nat):Int))<0 then (0,false,i+3)
  else (16*ie (bt s ((i+2:Nat):Int))+ie (bt s ((i+3:Nat):Int)),true,i+3)
 else (0,false,i+1)
theorem ajC:∀ b:Fin 256,Lib.indexByte [48,49,50,51,52,53,54,55,56,57,97,98,99,100,101,102] ((b.val:Int).toNat.toUInt8)=ie ((b.val:Nat):Int):=by decide +kernel
theorem vF(c:Int):ie c<=15:=by
 unfold ie;split
 ·rename_i h;simp[TU]at h;omega
 ·split
  ·rename_i h;simp at h;omega
  ·omega
theorem ajB(s:ByteArray)(j:Nat):Lib.indexByte [48,49,50,51,52,53,54,55,56,57,97,98,99,100,101,102] ((bt s (j:Nat)).toNat.toUInt8)=ie (bt s (j:Nat)):=by
 obtain⟨c0,c1⟩:=tM s j;obtain⟨b,hb⟩:=Int.eq_ofNat_of_zero_le c0;have:=ajC ⟨b,oM⟩;rw[hb];exact this
def Yw(s:ByteArray)(d:Nat)(op:List Value)(c a:Int)(t:ByteArray)(q:Int×Bool×Nat):BOut:=.ret (.tuple #[.int .u8 q.1,.bool q.2.1]) (tG s (q.2.2:Nat) d op c a t)
noncomputable def iT:Env prog:=⟨λ| 107=>some gT.spec|138=>some Ut.spec|_=>none,λ| _=>none,λ_ _=>none⟩
theorem acf:iT.sp 107=some gT.spec:=rfl
theorem acg:iT.sp 138=some Ut.spec:=rfl
def cv:=(ae @List.replicate_succ.{0} @List.replicate_zero.{0} @au @ab kQ kS kU (ae dc dd de df dv dw dz (ae dA mV mW mX mY mZ eB (ae eC eD eE eF eG se sf (ae sg sk sn so sr ss su (ae sv sw sA sB @aV @aw @aD (ae @aG @tG.eq_1 @tF.eq_1 acf acg @gC @gB (qE @kj @Kt @Ks @ajB @Yw.eq_1))))))))
theorem abo(s:ByteArray)(i:Nat)(d:Nat)(op:List Value)(c a:Int)(t:ByteArray)(u:Value)(fp:List Nat)(w:World)(hi:i<=s.size)(hs:s.size<=100000000)(ho:aW w u fp 223 (tG s i d op c a t))(hlt:∀ b∈fp,b<w.heap.size) :
  Calls prog 211 (#[u]++#[]) w λx w' => dH w u fp 223 x w' (Yw s d op c a t (ic s i)):=by
 have wi:IntKind.i64.wrap ((i:Int)+1)=((i+1:Nat):Int):=wW;refine aN (nt:=68) #[] [.tmp 2,.tmp 3] (by show 6<=7;omega) ho hlt func211 rfl rfl rfl ?_;refine vR iT cv ?_;refine vR iT (aa cv wi) ?_;refine Wp.seq ?_;refine vR iT cv ?_;refine wC cv (λhc=>?_) (λhc=>?_)
 ·have h:¬ i+1<s.size:=by
   simp at hc;omega
  have e:ic s i=(0,false,i+1):=by rw[ic,if_pos h]
  rw[e];refine vR iT cv ?_;refine wZ cv ?_;exact⟨_,_,rfl,λE=>rfl,_,_,rfl,(ev (aa cv @aq)),dE⟩
 have h:i+1<s.size:=by
  simp at hc;omega
 clear hc;refine wK ?_;refine Wp.seq ?_;refine kA iT cv ?_ ?_
 ·omega
 refine vR iT cv ?_;refine Wp.block ?_;obtain⟨z0,z1⟩:=tM s ((i+1:Nat):Int);refine vR iT cv ?_;refine wC cv (λhc=>?_) (λhc=>?_)
 ·have hz:bt s ((i+1:Nat):Int)=110:=by simpa using hc
  have e:ic s i=(10,true,i+1):=by rw[ic,if_neg oM,if_pos hz]
  rw[e];refine vR iT cv ?_;refine wZ cv ?_;exact⟨_,_,rfl,λE=>rfl,_,_,rfl,(ev (aa cv @aq)),dE⟩
 have n1:¬ bt s ((i+1:Nat):Int)=110:=by simpa using hc
 clear hc;refine vR iT cv ?_;refine wC cv (λhc=>?_) (λhc=>?_)
 ·have hz:bt s ((i+1:Nat):Int)=114:=by simpa using hc
  have e:ic s i=(13,true,i+1):=by rw[ic,if_neg oM,if_neg n1,if_pos hz]
  rw[e];refine vR iT cv ?_;refine wZ cv ?_;exact⟨_,_,rfl,λE=>rfl,_,_,rfl,(ev (aa cv @aq)),dE⟩
 have n2:¬ bt s ((i+1:Nat):Int)=114:=by simpa using hc
 clear hc;refine vR iT cv ?_;refine wC cv (λhc=>?_) (λhc=>?_)
 ·have hz:bt s ((i+1:Nat):Int)=116:=by simpa using hc
  have e:ic s i=(9,true,i+1):=by rw[ic,if_neg oM,if_neg n1,if_neg n2,if_pos hz]
  rw[e];refine vR iT cv ?_;refine wZ cv ?_;exact⟨_,_,rfl,λE=>rfl,_,_,rfl,(ev (aa cv @aq)),dE⟩
 have n3:¬ bt s ((i+1:Nat):Int)=116:=by simpa using hc
 clear hc
 refine hH ⟨60,ee [(0,.is (.own 0 0)),(4,.is (.v (.int .u8 (bt s ((i+1:Nat):Int))))),(25,.is (.v (.int .u8 (bt s ((i+1:Nat):Int))))),(32,.is (.v (.bool (decide (bt s ((i+1:Nat):Int)=34\/bt s ((i+1:Nat):Int)=92)))))],dP [(0,.cells 223 [.v (.string s),.v (.int .i64 ((i+1:Nat):Int)),.hd 3,.v (.int .i64 c),.v (.int .i64 a),.v (.string t)]),(3,.row 225 3 d (op.map .v))]⟩ ?_ ?_
 ·generalize bt s ((i+1:Nat):Int)=z at *;skip;refine vR iT cv ?_;refine wC cv (λhc=>?_) (λhc=>?_)
  ·have hz:z=34:=by simpa using hc
   have e:decide (z=34\/z=92)=true:=by simp[hz]
   refine wK ?_;exact wM (λk=>.key k) (bw cv e hc)
  ·have hz:¬ z=34:=by simpa using hc
   have e:decide (z=34\/z=92)=decide (z=92):=by simp[hz]
   refine vr iT cv ?_;exact wM (λk=>.key k) (aa cv e)
 refine wC cv (λhc=>?_) (λhc=>?_)
 ·have hz:bt s ((i+1:Nat):Int)=34\/bt s ((i+1:Nat):Int)=92:=by simpa using hc
  have e:ic s i=(bt s ((i+1:Nat):Int),true,i+1):=by rw[ic,if_neg oM,if_neg n1,if_neg n2,if_neg n3,if_pos hz]
  rw[e];refine vR iT cv ?_;refine wZ cv ?_;exact⟨_,_,rfl,λE=>rfl,_,_,rfl,(ev (aa cv @aq)),dE⟩
 have n4:¬ (bt s ((i+1:Nat):Int)=34\/bt s ((i+1:Nat):Int)=92):=by simpa using hc
 clear hc;refine vR iT cv ?_;refine wC cv (λhc=>?_) (λhc=>?_)
 rotate_left
 ·have n5:¬ bt s ((i+1:Nat):Int)=120:=by simpa using hc
  have e:ic s i=(0,false,i+1):=by rw[ic,if_neg oM,if_neg n1,if_neg n2,if_neg n3,if_neg n4,if_neg n5]
  rw[e];refine wK ?_;refine vR iT cv ?_;refine wZ cv ?_;exact⟨_,_,rfl,λE=>rfl,_,_,rfl,(ev (aa cv @aq)),dE⟩
 have hz:bt s ((i+1:Nat):Int)=120:=by simpa using hc
 have e0:ic s i=if ¬ i+2<s.size then (0,false,i+2)
  else if ie (bt s ((i+2:Nat):Int))<0 then (0,false,i+2)
  else if ¬ i+3<s.size then (0,false,i+3)
  else if ie (bt s ((i+3:Nat):Int))<0 then (0,false,i+3)
  else (16*ie (bt s ((i+2:Nat):Int))+ie (bt s ((i+3:Nat):Int)),true,i+3):=by rw[ic,if_neg oM,if_neg n1,if_neg n2,if_neg n3,if_neg n4,if_pos hz]
 clear hc;refine vR iT cv ?_;refine Wp.seq ?_;refine vR iT cv ?_;have x2:=vF (bt s ((i+2:Nat):Int));have x3:=vF (bt s ((i+3:Nat):Int));refine Wp.block ?_
 refine Wp.loop (λp:Nat×Int=>⟨100,ee [(0,.is (.own 0 0)),(5,.is (.v (.int .i64 p.2))),(38,.is (.v (.int .i64 (p.1:Nat))))],dP [(0,.cells 223 [.v (.string s),.v (.int .i64 ((i+1+p.1:Nat):Int)),.hd 3,.v (.int .i64 c),.v (.int .i64 a),.v (.string t)]),(3,.row 225 3 d (op.map .v))]⟩)
  (λp=>p.1<=2/\(p.1=0->p.2=0)/\(1<=p.1->i+2<s.size/\0<=ie (bt s ((i+2:Nat):Int)))/\(p.1=1->p.2=ie (bt s ((i+2:Nat):Int)))/\(p.1=2->i+3<s.size/\0<=ie (bt s ((i+3:Nat):Int))/\p.2=16*ie (bt s ((i+2:Nat):Int))+ie (bt s ((i+3:Nat):Int)))) (λp=>2-p.1) (0,0) ?_ ⟨dE,λ_=>rfl,λh=>absurd h dE,λh=>absurd h dE,λh=>absurd h dE⟩ ?_
 ·exact wM (λk=>.key k) cv
 rintro⟨k,v⟩ ⟨k1,k2,k3,k4,k5⟩;dsimp only at k1 k2 k3 k4 k5 ⊢;refine vR iT cv ?_;refine Wp.seq ?_;refine wC cv (λhc=>?_) (λhc=>?_)
 rotate_left
 ·have hk:k=2:=by
   simp at hc;omega
  subst hk;obtain⟨m1,m2⟩:=k3 oM;obtain⟨m3,m4,m5⟩:=k5 rfl;rw[if_neg oM,if_neg oM,if_neg oM,if_neg oM,<- m5]at e0;rw[e0];have wv:IntKind.u8.wrap v=v:=uU oM oM;refine wE ?_;refine vR iT (aa cv wv) ?_;refine wZ cv ?_;exact⟨_,_,rfl,λE=>rfl,_,_,rfl,(ev (aa cv @aq)),dE⟩
 have hk:k<2:=by
  simp at hc;omega
 clear hc;have wj:IntKind.i64.wrap (((i+1+k:Nat):Int)+1)=((i+2+k:Nat):Int):=wW;have wk:IntKind.i64.wrap ((k:Int)+1)=((k+1:Nat):Int):=wW;refine wK ?_;refine Wp.seq (Wp.block ?_);refine vR iT (aa cv wj) ?_;refine Wp.seq ?_;refine vR iT cv ?_;refine wC cv (λhc=>?_) (λhc=>?_)
 ·have hlt:¬ i+2+k<s.size:=by
   simp at hc;omega
  have e:ic s i=(0,false,i+2+k):=by
   rcases (show k=0\/k=1 by omega) with rfl|rfl
   ·rw[e0,if_pos oM]
   ·obtain⟨m1,m2⟩:=k3 oM;rw[e0,if_neg oM,if_neg oM,if_pos oM]
  rw[e];refine vR iT cv ?_;refine wZ cv ?_;exact⟨_,_,rfl,λE=>rfl,_,_,rfl,(ev (aa cv @aq)),dE⟩
 have hlt:i+2+k<s.size:=by
  simp at hc;omega
 clear hc;refine wK ?_;refine kA iT cv ?_ ?_
 ·omega
 have x4:=vF (bt s ((i+2+k:Nat):Int));have hv:0<=v/\v<=15:=by
  rcases (show k=0\/k=1 by omega) with rfl|rfl
  ·have:=k2 rfl;omega
  ·obtain⟨m1,m2⟩:=k3 oM;have:=k4 rfl;omega
 refine Wp.seq ?_;refine vR iT cv ?_;refine wC cv (λhc=>?_) (λhc=>?_)
 ·have hn:ie (bt s ((i+2+k:Nat):Int))<0:=by simpa using hc
  have e:ic s i=(0,false,i+2+k):=by
   rcases (show k=0\/k=1 by omega) with rfl|rfl
   ·rw[e0,if_neg oM,if_pos (by exact hn)]
   ·obtain⟨m1,m2⟩:=k3 oM;rw[e0,if_neg oM,if_neg oM,if_neg oM,if_pos (by exact hn)]
  rw[e];refine vR iT cv ?_;refine wZ cv ?_;exact⟨_,_,rfl,λE=>rfl,_,_,rfl,(ev (aa cv @aq)),dE⟩
 have hn:0<=ie (bt s ((i+2+k:Nat):Int)):=by
  have:=of_decide_eq_false hc;omega
 clear hc;have w1:IntKind.i64.wrap (16*v)=16*v:=aA oM oM;have w2:IntKind.i64.wrap (16*v+ie (bt s ((i+2+k:Nat):Int)))=16*v+ie (bt s ((i+2+k:Nat):Int)):=aA oM oM;refine wK ?_;refine vr iT (bw cv w1 w2) ?_;refine vr iT (aa cv wk) ?_
 refine⟨(k+1,16*v+ie (bt s ((i+2+k:Nat):Int))),⟨by dsimp only;omega,λh=>?_,λ_=>?_,λh=>?_,λh=>?_⟩,by dsimp only;omega,?_⟩
 ·dsimp only at h;omega
 ·rcases (show k=0\/k=1 by omega) with rfl|rfl
  ·exact⟨hlt,hn⟩
  ·exact k3 oM
 ·dsimp only at h ⊢;obtain rfl:k=0:=oM;rw[k2 rfl];show 16*0+_=_;simp
 ·dsimp only at h ⊢;obtain rfl:k=1:=oM;rw[k4 rfl];exact⟨hlt,hn,rfl⟩
 ·exact wM (λk=>.key k) (aa cv (show i+1+(k+1)=i+2+k by omega))
def L7:bJ prog 211 where
 T:=223
 pre:=λW bs fs as_=>match fs,as_ with|[.val (.string s),.val (.int .i64 i),.row 225 3 d op,.val (.int .i64 c),.val (.int .i64 a),.val (.string t)],[]=>(0<=i/\i<=s.size)/\s.size<=100000000|_,_=>False
 out:=λW fs as_=>match fs,as_ with|[.val (.string s),.val (.int .i64 i),.row 225 3 d op,.val (.int .i64 c),.val (.int .i64 a),.val (.string t)],[]=>Yw s d op c a t (ic s i.toNat)|_,_=>.pan [] undef
 enters:=call211
 ok:=by
  intro W w bs u fp us fs as_ hk ho hlt hmine hu hp;split at hp
  ·rename_i s i d op c a t
   match us,hu with
   |[],_=>
    obtain⟨k,rfl⟩:=Int.eq_ofNat_of_zero_le hp.1.1;exact abo s k d op c a t u fp w oM hp.2 ho hlt
  ·exact hp.elim
theorem WC(W:World)(s:ByteArray)(i:Int)(d:Nat)(op:List Value)(c:Int)(a:Int)(t:ByteArray):L7.out W [.val (.string s),.val (.int .i64 i),.row 225 3 d op,.val (.int .i64 c),.val (.int .i64 a),.val (.string t)] []=Yw s d op c a t (ic s i.toNat):=rfl
theorem WD(W:World)(bs:List Nat)(s:ByteArray)(i:Int)(d:Nat)(op:List Value)(c:Int)(a:Int)(t:ByteArray):L7.pre W bs [.val (.string s),.val (.int .i64 i),.row 225 3 d op,.val (.int .i64 c),.val (.int .i64 a),.val (.string t)] []=((0<=i/\i<=s.size)/\s.size<=100000000):=rfl
theorem afS:L7.T=223:=rfl
theorem ajm{s:ByteArray}{k:Nat}(hk:k<s.size):(k<(ic s k).2.2/\(ic s k).2.2<=s.size)/\(0<=(ic s k).1/\(ic s k).1<256):=by
 have z:=tM s ((k+1:Nat):Int);have x2:=vF (bt s ((k+2:Nat):Int));have x3:=vF (bt s ((k+3:Nat):Int));unfold ic
 repeat' split
 all_goals (refine⟨⟨?_,?_⟩,?_,?_⟩<;>dsimp only<;>omega)
theorem akc(s:ByteArray)(i n:Nat){k:Nat}(o:ByteArray)(hk:k<s.size)(h:bt s (k:Nat)=92):mS s i (n+1) k o =
  if s.size<=(ic s k).2.2 then (fL,0,51,i) else if (ic s k).2.1=false then (fL,0,50,(ic s k).2.2) else mS s i n ((ic s k).2.2+1) (o++ff [(ic s k).1]):=by
 have hp:¬ qR 92=false:=by decide
 rw[mS,if_pos hk,h,if_neg oM,if_neg hp,if_neg oM];by_cases h1:k+1<s.size
 ·rw[if_neg (show ¬ ¬ k+1<s.size by omega)];unfold ic;rw[if_neg (show ¬ ¬ k+1<s.size by omega)];generalize hz:bt s ((k+1:Nat):Int)=z at *;by_cases e1:z=110
  ·rw[if_pos e1,if_pos e1,if_neg (by dsimp only;omega),if_neg sI]
  rw[if_neg e1,if_neg e1];by_cases e2:z=114
  ·rw[if_pos e2,if_pos e2,if_neg (by dsimp only;omega),if_neg sI]
  rw[if_neg e2,if_neg e2];by_cases e3:z=116
  ·rw[if_pos e3,if_pos e3,if_neg (by dsimp only;omega),if_neg sI]
  rw[if_neg e3,if_neg e3];by_cases e4:z=34\/z=92
  ·rw[if_pos e4,if_pos e4,if_neg (by dsimp only;omega),if_neg sI]
  rw[if_neg e4,if_neg e4];by_cases e5:z=120
  ·rw[if_pos e5,if_pos e5];by_cases h2:k+2<s.size
   ·rw[if_neg (show ¬ ¬ k+2<s.size by omega),if_neg (show ¬ ¬ k+2<s.size by omega)];by_cases x2:ie (bt s ((k+2:Nat):Int))<0
    ·rw[if_pos x2,if_pos x2,if_neg (by dsimp only;omega),if_pos rfl]
    rw[if_neg x2,if_neg x2];by_cases h3:k+3<s.size
    ·rw[if_neg (show ¬ ¬ k+3<s.size by omega),if_neg (show ¬ ¬ k+3<s.size by omega)];by_cases x3:ie (bt s ((k+3:Nat):Int))<0
     ·rw[if_pos x3,if_pos x3,if_neg (by dsimp only;omega),if_pos rfl]
     rw[if_neg x3,if_neg x3,if_neg (by dsimp only;omega),if_neg sI]
    ·rw[if_pos h3,if_pos h3,if_pos (by dsimp only;omega)]
   ·rw[if_pos h2,if_pos h2,if_pos (by dsimp only;omega)]
  ·rw[if_neg e5,if_neg e5,if_neg (by dsimp only;omega),if_pos rfl]
 ·rw[if_pos h1];unfold ic;rw[if_pos h1,if_pos (by dsimp only;omega)]
def vV(s:ByteArray)(i:Nat)(kd:Int)(d:Nat)(op:List Value)(c a:Int)(t:ByteArray)(q:Pc):BOut:=
 if q.2.2.1=0 then .ret (.bool true) (tG s (q.2.1:Nat) (d+1) (op++[.int .i64 kd,.int .i64 (i:Nat),.string q.1]) c a t)
 else .ret (.bool false) (tG s (if q.2.2.1=50 then (q.2.2.2:Nat) else (s.size:Nat)) d op q.2.2.1 (q.2.2.2:Nat) ⟨#[]⟩)
noncomputable def eI:Env prog:=⟨λ| 107=>some gT.spec|109=>some wz.spec|165=>some ux.spec|210=>some AG.spec|211=>some L7.spec|_=>none,λ| _=>none,λ_ _=>none⟩
theorem MV:eI.sp 107=some gT.spec:=rfl
theorem MW:eI.sp 109=some wz.spec:=rfl
theorem MX:eI.sp 165=some ux.spec:=rfl
theorem MY:eI.sp 210=some AG.spec:=rfl
theorem MZ:eI.sp 211=some L7.spec:=rfl
def eX:=(ae @List.replicate_succ.{0} @List.replicate_zero.{0} @au @ab kQ kS Sz (ae SD SZ kU dc dd de df (ae dv dw dz dA mV mW mX (ae mY mZ eB eC eD eE eF (ae eG n8 oa ob oc abF abG (ae abH abI se sf sg sk sn (ae so sr ss su sv sw sA (ae sB ML MM @aV @aw @aD @aG (ae @tG.eq_1 @tF.eq_1 @vg @CJ @E4 @MV @MW (ae @MX @MY @MZ @gC @gB @kj @pN (ae @pO @wB @tw @tA @AE @sd @sc (fJ @WC @WD @afS @Yw.eq_1))))))))))))
theorem abw(s:ByteArray)(i:Nat)(d:Nat)(op:List Value)(c a:Int)(t:ByteArray)(u:Value)(fp:List Nat)(w:World)(hi:i<s.size)(hs:s.size<=4096)(hd:op.length=d*3)(hd2:d<=1000000)(ho:aW w u fp 223 (tG s (i:Nat) d op c a t))(hlt:∀ b∈fp,b<w.heap.size) :
  Calls prog 166 (#[u]++#[]) w λx w' => dH w u fp 223 x w' (vV s i 2 d op c a t (zK s i)):=by
 have wi:IntKind.i64.wrap ((i:Int)+1)=((i+1:Nat):Int):=wW;refine aN (nt:=95) #[] [.tmp 2] (by show 6<=7;omega) ho hlt func166 rfl rfl rfl ?_;refine vR eI eX ?_;refine vR eI eX ?_;refine vR eI eX ?_;refine Wp.seq ?_;refine vR eI (aa eX wi) ?_;refine Wp.block ?_
 refine Wp.loop (λp:Nat×Nat×ByteArray=>⟨20,ee [(0,.is (.own 0 0)),(3,.is (.v (.int .i64 (i:Nat)))),(4,.is (.hd 19))],dP [(0,.cells 223 [.v (.string s),.v (.int .i64 (p.2.1:Nat)),.hd 3,.v (.int .i64 c),.v (.int .i64 a),.v (.string t)]),(3,.row 225 3 d (op.map .v)),(19,.row 5 1 p.2.2.size ((byteCells p.2.2).map .v))]⟩) (λp=>(i+1<=p.2.1/\p.2.1<=s.size)/\p.2.2.size<=p.2.1/\s.size<=p.2.1+p.1/\mS s i p.1 p.2.1 p.2.2=zK s i) (λp=>p.1) (s.size-(i+1),i+1,fL) ?_ ⟨⟨Nat.le_refl _,hi⟩,Nat.zero_le _,by dsimp only;omega,rfl⟩ ?_
 ·exact wM (λk=>if k=19 then .nil else .key k) (fJ eX @fL.eq_1 (show (⟨#[]⟩:ByteArray).size=0 from rfl) (show byteCells ⟨#[]⟩=[] from rfl))
 rintro⟨n,k,o⟩ ⟨⟨g0,g1⟩,g2,g3,g4⟩;dsimp only at g0 g1 g2 g3 g4 ⊢;refine Wp.seq ?_;refine vR eI eX ?_;refine wC eX (λhc=>?_) (λhc=>?_)
 rotate_left
 ·have hk:k=s.size:=by
   simp at hc;omega
  subst hk;have hq:zK s i=(fL,0,51,i):=by
   rw[<- g4];cases n with
   |zero=>rfl
   |succ n=>rw[mS,if_neg oM]
  have hO:vV s i 2 d op c a t (fL,0,51,i)=.ret (.bool false) (tG s (s.size:Nat) d op 51 (i:Nat) ⟨#[]⟩):=rfl;rw[hq,hO];refine wE ?_;refine wR eI eX ?_ ?_
  ·exact⟨dE,λ_ h=>h.elim⟩
  refine wZ eX ?_;exact⟨_,_,rfl,λE=>rfl,_,_,rfl,(ev (aa eX @aq)),dE⟩
 have hlt:k<s.size:=by
  simp at hc;omega
 clear hc;obtain⟨n,rfl⟩:∃ n',n=n' + 1:=⟨n-1,oM⟩;obtain⟨c0,c1⟩:=tM s k;have hq:=g4;rw[mS,if_pos hlt]at hq;have wk:IntKind.i64.wrap ((k:Int)+1)=((k+1:Nat):Int):=wW;refine wK ?_;refine Wp.seq (Wp.block ?_);refine kA eI eX ?_ ?_
 ·omega
 refine Wp.seq (Wp.block ?_);refine vR eI eX ?_;refine wC eX (λhc=>?_) (λhc=>?_)
 ·have h:bt s (k:Nat)=34:=by simpa using hc
  rw[if_pos h]at hq;have hO:vV s i 2 d op c a t (o,k+1,0,0)=.ret (.bool true) (tG s (k+1:Nat) (d+1) (op++[.int .i64 2,.int .i64 (i:Nat),.string o]) c a t):=rfl;rw[<- hq,hO];refine vR eI (aa eX wk) ?_;refine wR eI eX ?_ ?_
  ·exact⟨BC _,⟨hd,hd2⟩,dE,λ_ h=>h.elim⟩
  refine wZ eX ?_;exact⟨_,_,rfl,λE=>rfl,_,_,rfl,(ev (aa eX @aq)),dE⟩
 have h34:¬ bt s (k:Nat)=34:=by simpa using hc
 rw[if_neg h34]at hq;clear hc;refine vR eI eX ?_;refine wC eX (λhc=>?_) (λhc=>?_)
 ·have h:qR (bt s (k:Nat))=false:=by simpa using hc
  rw[if_pos h]at hq;have hO:vV s i 2 d op c a t (fL,0,50,k)=.ret (.bool false) (tG s (k:Nat) d op 50 (k:Nat) ⟨#[]⟩):=rfl;rw[<- hq,hO];refine wR eI eX ?_ ?_
  ·exact⟨dE,λ_ h=>h.elim⟩
  refine wZ eX ?_;exact⟨_,_,rfl,λE=>rfl,_,_,rfl,(ev (aa eX @aq)),dE⟩
 have hp:¬ qR (bt s (k:Nat))=false:=by simpa using hc
 rw[if_neg hp]at hq;clear hc;refine vR eI eX ?_;refine wC eX (λhc=>?_) (λhc=>?_)
 ·have h:¬ bt s (k:Nat)=92:=by simpa using hc
  rw[if_pos h]at hq;have ha:=sS o [bt s (k:Nat)] (λc hc=>by rw[List.mem_singleton.1 hc];exact⟨c0,c1⟩);have hz:(o++ff [bt s (k:Nat)]).size=o.size+1:=by rw[ByteArray.size_append,dK];rfl
  simp only[List.map_cons,List.map_nil]at ha;refine wR eI (aa eX ha) ?_ ?_
  ·exact⟨by unfold maxLen;omega,oM⟩
  refine wE ?_;refine vr eI (aa eX wk) ?_;refine⟨(n,k+1,o++ff [bt s (k:Nat)]),⟨⟨by dsimp only;omega,by dsimp only;omega⟩,by dsimp only;omega,by dsimp only;omega,hq⟩,by dsimp only;omega,?_⟩;exact wM (λk=>if k=19 then .key 368 else .key k) (aa eX hz)
 have h92:bt s (k:Nat)=92:=by simpa using hc
 clear hc hq;rw[akc s i n o hlt h92]at g4;obtain⟨⟨q1,q2⟩,q3,q4⟩:=ajm hlt;generalize hE:ic s k=q at *;obtain⟨b,ok,j⟩:=q;dsimp only at g4 q1 q2 q3 q4;refine wK ?_;refine wR eI (aa eX hE) ?_ ?_
 ·exact⟨⟨⟨oM,oM⟩,oM⟩,dE,λ_ h=>h.elim⟩
 refine Wp.seq ?_;refine vR eI eX ?_;refine wC eX (λhc=>?_) (λhc=>?_)
 ·have hj:j=s.size:=by
   simp at hc;omega
  subst hj;rw[if_pos (Nat.le_refl _)]at g4;have hO:vV s i 2 d op c a t (fL,0,51,i)=.ret (.bool false) (tG s (s.size:Nat) d op 51 (i:Nat) ⟨#[]⟩):=rfl;rw[<- g4,hO];refine wR eI eX ?_ ?_
  ·exact⟨dE,λ_ h=>h.elim⟩
  refine wZ eX ?_;exact⟨_,_,rfl,λE=>rfl,_,_,rfl,(ev (aa eX @aq)),dE⟩
 have hj:¬ s.size<=j:=by
  simp at hc;omega
 rw[if_neg hj]at g4;clear hc;refine wK ?_;refine Wp.seq ?_;refine vR eI eX ?_;refine wC eX (λhc=>?_) (λhc=>?_)
 ·have hok:ok=false:=by simpa using hc
  rw[if_pos hok]at g4;have hO:vV s i 2 d op c a t (fL,0,50,j)=.ret (.bool false) (tG s (j:Nat) d op 50 (j:Nat) ⟨#[]⟩):=rfl;rw[<- g4,hO];refine wR eI eX ?_ ?_
  ·exact⟨dE,λ_ h=>h.elim⟩
  refine wZ eX ?_;exact⟨_,_,rfl,λE=>rfl,_,_,rfl,(ev (aa eX @aq)),dE⟩
 have hok:ok=true:=by simpa using hc
 rw[if_neg (by rw[hok];simp)]at g4;clear hc;have ha:=sS o [b] (λc hc=>by rw[List.mem_singleton.1 hc];exact⟨q3,q4⟩);have hz:(o++ff [b]).size=o.size+1:=by rw[ByteArray.size_append,dK];rfl
 have wj:IntKind.i64.wrap ((j:Int)+1)=((j+1:Nat):Int):=wW;simp only[List.map_cons,List.map_nil]at ha;refine wK ?_;refine wr eI (aa eX ha) ?_ ?_
 ·exact⟨by unfold maxLen;omega,oM⟩
 refine vr eI (aa eX wj) ?_;refine⟨(n,j+1,o++ff [b]),⟨⟨by dsimp only;omega,by dsimp only;omega⟩,by dsimp only;omega,by dsimp only;omega,g4⟩,by dsimp only;omega,?_⟩;exact wM (λk=>if k=19 then .key 456 else if k=3 then .key 354 else .key k) (aa eX hz)
def Me:bJ prog 166 where
 T:=223
 pre:=λW bs fs as_=>match fs,as_ with|[.val (.string s),.val (.int .i64 i),.row 225 3 d op,.val (.int .i64 c),.val (.int .i64 a),.val (.string t)],[]=>((0<=i/\i<s.size)/\s.size<=4096)/\op.length=d*3/\d<=1000000|_,_=>False
 out:=λW fs as_=>match fs,as_ with|[.val (.string s),.val (.int .i64 i),.row 225 3 d op,.val (.int .i64 c),.val (.int .i64 a),.val (.string t)],[]=>vV s i.toNat 2 d op c a t (zK s i.toNat)|_,_=>.pan [] undef
 enters:=call166
 ok:=by
  intro W w bs u fp us fs as_ hk ho hlt hmine hu hp;split at hp
  ·rename_i s i d op c a t
   match us,hu with
   |[],_=>
    obtain⟨k,rfl⟩:=Int.eq_ofNat_of_zero_le hp.1.1.1;exact abw s k d op c a t u fp w oM hp.1.2 hp.2.1 hp.2.2 ho hlt
  ·exact hp.elim
theorem WQ(W:World)(s:ByteArray)(i:Int)(d:Nat)(op:List Value)(c:Int)(a:Int)(t:ByteArray):Me.out W [.val (.string s),.val (.int .i64 i),.row 225 3 d op,.val (.int .i64 c),.val (.int .i64 a),.val (.string t)] []=vV s i.toNat 2 d op c a t (zK s i.toNat):=rfl
theorem WR(W:World)(bs:List Nat)(s:ByteArray)(i:Int)(d:Nat)(op:List Value)(c:Int)(a:Int)(t:ByteArray):Me.pre W bs [.val (.string s),.val (.int .i64 i),.row 225 3 d op,.val (.int .i64 c),.val (.int .i64 a),.val (.string t)] []=(((0<=i/\i<s.size)/\s.size<=4096)/\op.length=d*3/\d<=1000000):=rfl
theorem afV:Me.T=223:=rfl
theorem Pr(s:ByteArray)(i n:Nat){k:Nat}(h:s.size<=k):oY s i n k=(fL,0,52,i):=by
 cases n with
 |zero=>rfl
 |succ n=>rw[oY,if_neg oM]
def gJ:=(ae @List.replicate_succ.{0} @List.replicate_zero.{0} @au @ab kQ kS kU (ae dc dd de df dv dw dz (ae dA mV mW mX mY mZ eB (ae eC eD eE eF eG n8 oa (ae ob oc se sf sg sk sn (ae so sr ss su sv sw sA (ae sB @aV @aw @aD @aG @tG.eq_1 @tF.eq_1 (ae @MV @MW @MX @MY @MZ @gC @gB (ae @kj @pN @pO @wB @tw @tA @AE (aa @sd @sc))))))))))
theorem afW(s:ByteArray)(i:Nat)(d:Nat)(op:List Value)(c a:Int)(t:ByteArray)(u:Value)(fp:List Nat)(w:World)(hi:i<s.size)(hs:s.size<=4096)(hd:op.length=d*3)(hd2:d<=1000000)(ho:aW w u fp 223 (tG s (i:Nat) d op c a t))(hlt:∀ b∈fp,b<w.heap.size) :
  Calls prog 167 (#[u]++#[]) w λx w' => dH w u fp 223 x w' (vV s i 3 d op c a t (Ah s i)):=by
 have wi:IntKind.i64.wrap ((i:Int)+1)=((i+1:Nat):Int):=wW;refine aN (nt:=112) #[] [.tmp 2] (by show 6<=7;omega) ho hlt func167 rfl rfl rfl ?_;refine vR eI gJ ?_;refine vR eI gJ ?_;refine Wp.seq ?_;refine vR eI (aa gJ wi) ?_;refine Wp.block ?_
 refine Wp.loop (λp:Nat×Nat=>⟨20,ee [(0,.is (.own 0 0)),(3,.is (.v (.int .i64 (i:Nat))))],dP [(0,.cells 223 [.v (.string s),.v (.int .i64 (p.2:Nat)),.hd 3,.v (.int .i64 c),.v (.int .i64 a),.v (.string t)]),(3,.row 225 3 d (op.map .v))]⟩) (λp=>(i+1<=p.2/\p.2<=s.size)/\s.size<=p.2+p.1/\oY s i p.1 p.2=Ah s i) (λp=>p.1) (s.size-(i+1),i+1) ?_ ⟨⟨Nat.le_refl _,hi⟩,by dsimp only;omega,rfl⟩ ?_
 ·exact wM (λk=>.key k) gJ
 rintro⟨n,k⟩ ⟨⟨g0,g1⟩,g3,g4⟩;dsimp only at g0 g1 g3 g4 ⊢;refine Wp.seq ?_;refine vR eI gJ ?_;refine wC gJ (λhc=>?_) (λhc=>?_)
 rotate_left
 ·have hk:k=s.size:=by
   simp at hc;omega
  subst hk;rw[Pr s i n (Nat.le_refl _)]at g4;have hO:vV s i 3 d op c a t (fL,0,52,i)=.ret (.bool false) (tG s (s.size:Nat) d op 52 (i:Nat) ⟨#[]⟩):=rfl;rw[<- g4,hO];refine wE ?_;refine wR eI gJ ?_ ?_
  ·exact⟨dE,λ_ h=>h.elim⟩
  refine wZ gJ ?_;exact⟨_,_,rfl,λE=>rfl,_,_,rfl,(ev (aa gJ @aq)),dE⟩
 have hlt:k<s.size:=by
  simp at hc;omega
 clear hc;obtain⟨n,rfl⟩:∃ n',n=n' + 1:=⟨n-1,oM⟩;obtain⟨c0,c1⟩:=tM s k;have hq:=g4;rw[oY,if_pos hlt]at hq;have wk:IntKind.i64.wrap ((k:Int)+1)=((k+1:Nat):Int):=wW;refine wK ?_;refine Wp.seq (Wp.block ?_);refine kA eI gJ ?_ ?_
 ·omega
 obtain⟨z,j,hy,hn⟩:∃ (z:Int) (j:Nat),(bt s (k:Nat)=92/\k+1<s.size->z=32/\j=k+1)/\(¬ (bt s (k:Nat)=92/\k+1<s.size)->z=bt s (k:Nat)/\j=k):=by
  by_cases h:bt s (k:Nat)=92/\k+1<s.size
  ·exact⟨32,k+1,λ_=>⟨rfl,rfl⟩,λh' => absurd h h'⟩
  ·exact⟨_,k,λh' => absurd h' h,λ_=>⟨rfl,rfl⟩⟩
 refine AH (λ_:Unit=>⟨60,ee [(0,.is (.own 0 0)),(3,.is (.v (.int .i64 (i:Nat)))),(4,.is (.v (.int .u8 z)))],dP [(0,.cells 223 [.v (.string s),.v (.int .i64 (j:Nat)),.hd 3,.v (.int .i64 c),.v (.int .i64 a),.v (.string t)]),(3,.row 225 3 d (op.map .v))]⟩) (λ_=>w) (λ_=>fp) (λ_=>(bt s (k:Nat)=92/\k+1<s.size)->¬ qR (bt s ((k+1:Nat):Int))=false) ?_ ?_
 ·skip;refine yY eI (aa gJ wk) ?_;refine wC gJ (λhc=>?_) (λhc=>?_)
  ·have h:bt s (k:Nat)=92/\k+1<s.size:=by
    simp at hc;exact⟨hc.1,oM⟩
   obtain⟨rfl,rfl⟩:=hy h;clear hc;refine vR eI (aa gJ wk) ?_;refine vR eI gJ ?_;refine kA eI gJ ?_ ?_
   ·omega
   refine wC gJ (λhc=>?_) (λhc=>?_)
   ·have hp:qR (bt s ((k+1:Nat):Int))=false:=by simpa using hc
    rw[h.1,if_neg dE,if_neg oM,if_pos rfl,if_pos ⟨h.2,hp⟩]at hq;have hO:vV s i 3 d op c a t (fL,0,50,k+1)=.ret (.bool false) (tG s (k+1:Nat) d op 50 (k+1:Nat) ⟨#[]⟩):=rfl;rw[<- hq,hO];refine wR eI gJ ?_ ?_
    ·exact⟨dE,λ_ h=>h.elim⟩
    refine wZ gJ ?_;exact⟨_,_,rfl,λE=>rfl,_,_,rfl,(ev (aa gJ @aq)),dE⟩
   have hp:¬ qR (bt s ((k+1:Nat):Int))=false:=by simpa using hc
   refine wK ?_;refine⟨(),λ_=>hp,rfl,rfl,?_⟩;exact wM (λk=>.key k) gJ
  ·have h:¬ (bt s (k:Nat)=92/\k+1<s.size):=by
    intro h;simp at hc;have:=hc h.1;omega
   obtain⟨rfl,rfl⟩:=hn h;refine wK ?_;refine⟨(),λh' => absurd h' h,rfl,rfl,?_⟩;exact wM (λk=>.key k) gJ
 rintro-hgood hx;have wj:IntKind.i64.wrap ((j:Int)+1)=((j+1:Nat):Int):=by
  by_cases h:bt s (k:Nat)=92/\k+1<s.size
  ·have:=(hy h).2;rw[aA oM oM];omega
  ·have:=(hn h).2;rw[aA oM oM];omega
 refine Wp.block ?_;refine vR eI gJ ?_;refine wC gJ (λhc=>?_) (λhc=>?_)
 ·have hp:qR z=false:=by simpa using hc
  have h:¬ (bt s (k:Nat)=92/\k+1<s.size):=λh=>by
   rw[(hy h).1]at hp;exact absurd hp dE
  obtain⟨rfl,ej⟩:=hn h;obtain rfl:=ej.symm;rw[if_pos hp]at hq;have hO:vV s i 3 d op c a t (fL,0,50,k)=.ret (.bool false) (tG s (k:Nat) d op 50 (k:Nat) ⟨#[]⟩):=rfl;rw[<- hq,hO];refine wR eI gJ ?_ ?_
  ·exact⟨dE,λ_ h=>h.elim⟩
  refine wZ gJ ?_;exact⟨_,_,rfl,λE=>rfl,_,_,rfl,(ev (aa gJ @aq)),dE⟩
 have hp:¬ qR z=false:=by simpa using hc
 clear hc;refine vR eI gJ ?_;refine wC gJ (λhc=>?_) (λhc=>?_)
 ·have hz:z=47:=by simpa using hc
  have h:¬ (bt s (k:Nat)=92/\k+1<s.size):=λh=>by
   have:=(hy h).1;omega
  obtain⟨rfl,ej⟩:=hn h;obtain rfl:=ej.symm;rw[if_neg hp,if_pos hz]at hq;have hO:vV s i 3 d op c a t (s.extract (i+1) k,k+1,0,0)=.ret (.bool true) (tG s (k+1:Nat) (d+1) (op++[.int .i64 3,.int .i64 (i:Nat),.string (s.extract (i+1) k)]) c a t):=rfl;rw[<- hq,hO]
  have wm:IntKind.i64.wrap (((k+1:Nat):Int)-1)=((k:Nat):Int):=wW;refine vR eI (aa gJ wj) ?_;refine kA eI (bw gJ wi wm) ?_ ?_
  ·exact⟨⟨oM,oM,oM⟩,⟨hd,hd2⟩,dE,λ_ h=>h.elim⟩
  refine wZ gJ ?_;exact⟨_,_,rfl,λE=>rfl,_,_,rfl,(ev (aa gJ @aq)),dE⟩
 have hz:¬ z=47:=by simpa using hc
 clear hc;refine wK ?_;refine vr eI (aa gJ wj) ?_;have hnx:(j+1<=s.size/\i+1<=j+1/\k<=j)/\oY s i n (j+1)=Ah s i:=by
  by_cases h:bt s (k:Nat)=92/\k+1<s.size
  ·obtain⟨rfl,rfl⟩:=hy h;rw[h.1,if_neg dE,if_neg oM,if_pos rfl,if_neg (λh' => hgood h h'.2)]at hq;exact⟨⟨oM,oM,oM⟩,hq⟩
  ·obtain⟨rfl,ej⟩:=hn h;obtain rfl:=ej.symm;rw[if_neg hp,if_neg hz]at hq;refine⟨⟨oM,oM,oM⟩,?_⟩;by_cases h92:bt s (k:Nat)=92
   ·have hk1:¬ k+1<s.size:=λh' => h ⟨h92,h'⟩
    rw[if_pos h92,if_neg (λh' => hk1 h'.1),Pr s i n oM]at hq;rw[Pr s i n oM];exact hq
   ·rw[if_neg h92]at hq;exact hq
 refine⟨(n,j+1),⟨⟨by dsimp only;omega,by dsimp only;omega⟩,by dsimp only;omega,hnx.2⟩,by dsimp only;omega,?_⟩;exact wM (λk=>.key k) gJ
def abx:bJ prog 167 where
 T:=223
 pre:=λW bs fs as_=>match fs,as_ with|[.val (.string s),.val (.int .i64 i),.row 225 3 d op,.val (.int .i64 c),.val (.int .i64 a),.val (.string t)],[]=>((0<=i/\i<s.size)/\s.size<=4096)/\op.length=d*3/\d<=1000000|_,_=>False
 out:=λW fs as_=>match fs,as_ with|[.val (.string s),.val (.int .i64 i),.row 225 3 d op,.val (.int .i64 c),.val (.int .i64 a),.val (.string t)],[]=>vV s i.toNat 3 d op c a t (Ah s i.toNat)|_,_=>.pan [] undef
 enters:=call167
 ok:=by
  intro W w bs u fp us fs as_ hk ho hlt hmine hu hp;split at hp
  ·rename_i s i d op c a t
   match us,hu with
   |[],_=>
    obtain⟨k,rfl⟩:=Int.eq_ofNat_of_zero_le hp.1.1.1;exact afW s k d op c a t u fp w oM hp.1.2 hp.2.1 hp.2.2 ho hlt
  ·exact hp.elim
theorem aby(W:World)(s:ByteArray)(i:Int)(d:Nat)(op:List Value)(c:Int)(a:Int)(t:ByteArray):abx.out W [.val (.string s),.val (.int .i64 i),.row 225 3 d op,.val (.int .i64 c),.val (.int .i64 a),.val (.string t)] []=vV s i.toNat 3 d op c a t (Ah s i.toNat):=rfl
theorem abz(W:World)(bs:List Nat)(s:ByteArray)(i:Int)(d:Nat)(op:List Value)(c:Int)(a:Int)(t:ByteArray):abx.pre W bs [.val (.string s),.val (.int .i64 i),.row 225 3 d op,.val (.int .i64 c),.val (.int .i64 a),.val (.string t)] []=(((0<=i/\i<s.size)/\s.size<=4096)/\op.length=d*3/\d<=1000000):=rfl
theorem akv:abx.T=223:=rfl
def Ll(s p:ByteArray):Bool:=decide ((p.size:Int)<=(s.size:Nat))&&decide (s.extract 0 p.size=p)
def adH:=(ae @List.replicate_succ.{0} @List.replicate_zero.{0} @au @ab kQ kS kU (ae dc dd de df dv dw dz (ae dA mV mW mX mY mZ eB (ae eC eD eE eF eG n8 oa (ae ob oc se sf sg sk sn (ae so sr ss su sv sw sA (qE sB @aV @aw @aD @aG)))))))
theorem Uu(s p:ByteArray)(w:World):Calls prog 190 #[.string s,.string p] w λe w' => e=.returned (.bool (Ll s p))/\an w [] w' := by
 refine ak (nt:=18) [.tmp 4] func190 rfl rfl rfl ?_;refine vR Γ0 adH ?_;refine wR Γ0 adH ?_ ?_
 ·intro h;simp at h;omega
 refine wZ adH ?_;exact λE=>rfl
def GZ:a7 prog 190 where
 pre:=λW bs=>λ| [.val (.string s),.val (.string p)]=>True|_=>False
 res:=λW=>λ| [.val (.string s),.val (.string p)]=>.bool (Ll s p)|_=>undef
 enters:=call190
 ok:=by
  intro W w bs us as_ hk hu hp;split at hp
  ·rename_i s p
   match us,hu with
   |[u0,u1],hu=>
    obtain⟨rfl,rfl,_⟩:=hu;exact Uu s p w
  ·exact hp.elim
theorem Oq(W:World)(s:ByteArray)(p:ByteArray):GZ.res W [.val (.string s),.val (.string p)]=.bool (Ll s p):=rfl
theorem Oo(W:World)(bs:List Nat)(s:ByteArray)(p:ByteArray):GZ.pre W bs [.val (.string s),.val (.string p)]=(True):=rfl
noncomputable def akM:Env prog:=⟨λ| 190=>some GZ.spec|_=>none,λ| _=>none,λ_ _=>none⟩
theorem ach:akM.sp 190=some GZ.spec:=rfl
def aja:=(fJ adH @Oq @Oo ach)
theorem YT(s p:ByteArray)(w:World):Calls prog 168 #[.string s,.string p] w λe w' => e=.returned (.bool (Ll s p))/\an w [] w' := by
 refine ak (nt:=8) [.tmp 4] func168 rfl rfl rfl ?_;refine vR akM aja ?_;refine vR akM aja ?_;refine wZ aja ?_;exact λE=>rfl
def RC:a7 prog 168 where
 pre:=λW bs=>λ| [.val (.string s),.val (.string p)]=>True|_=>False
 res:=λW=>λ| [.val (.string s),.val (.string p)]=>.bool (Ll s p)|_=>undef
 enters:=call168
 ok:=by
  intro W w bs us as_ hk hu hp;split at hp
  ·rename_i s p
   match us,hu with
   |[u0,u1],hu=>
    obtain⟨rfl,rfl,_⟩:=hu;exact YT s p w
  ·exact hp.elim
theorem Us(W:World)(s:ByteArray)(p:ByteArray):RC.res W [.val (.string s),.val (.string p)]=.bool (Ll s p):=rfl
theorem Ur(W:World)(bs:List Nat)(s:ByteArray)(p:ByteArray):RC.pre W bs [.val (.string s),.val (.string p)]=(True):=rfl
theorem afa(s:ByteArray){i:Nat}(hi:i<s.size):Ll (s.extract i s.size) ⟨#[62,62]⟩=decide (bt s (i:Nat)=62/\i+1<s.size/\bt s ((i+1:Nat):Int)=62):=by
 have z:(⟨#[62,62]⟩:ByteArray).size=2:=rfl;have hz:=wy s i s.size (Nat.le_refl _);have t0:bt (⟨#[62,62]⟩:ByteArray) ((0:Nat):Int)=62:=rfl;have t1:bt (⟨#[62,62]⟩:ByteArray) ((1:Nat):Int)=62:=rfl;unfold Ll;rw[z,hz];by_cases h:i+1<s.size
 ·rw[decide_eq_true (show ((2:Nat):Int)<=((s.size-i:Nat):Nat) by omega),Bool.true_and,decide_eq_decide];have hz2:((s.extract i s.size).extract 0 2).size=2:=by rw[wy _ _ _ oM]
  have b0:=xL (s.extract i s.size) 0 2 0 oM oM;have b1:=xL (s.extract i s.size) 0 2 1 oM oM;have c0:=xL s i s.size 0 (Nat.le_refl _) oM;have c1:=xL s i s.size 1 (Nat.le_refl _) oM;simp only[Nat.zero_add,Nat.add_zero]at b0 b1 c0 c1;rw[c0]at b0;rw[c1]at b1;constructor
  ·intro e;rw[e]at b0 b1;exact⟨by rw[<- b0];exact t0,h,by rw[<- b1];exact t1⟩
  ·rintro⟨e0,_,e1⟩;refine XY (by rw[hz2,z]) λj hj=>?_
   rw[hz2]at hj;rcases (show j=0\/j=1 by omega) with rfl|rfl
   ·rw[b0,e0];rfl
   ·rw[b1,e1];rfl
 ·rw[decide_eq_false (show ¬ ((2:Nat):Int)<=((s.size-i:Nat):Nat) by omega),Bool.false_and]
  symm
  apply decide_eq_false;rintro⟨_,h',_⟩;exact h h'
theorem aeM:∀ b:Fin 256,decide (0<=Lib.indexByte [61,59,40,41,123,125,44,124,38,45,46,126,42,43,63] ((b.val:Int).toNat.toUInt8))=Er ((b.val:Nat):Int):=by decide +kernel
theorem aeL(s:ByteArray)(j:Nat):decide (0<=Lib.indexByte [61,59,40,41,123,125,44,124,38,45,46,126,42,43,63] ((bt s (j:Nat)).toNat.toUInt8))=Er (bt s (j:Nat)):=by
 obtain⟨c0,c1⟩:=tM s j;obtain⟨b,hb⟩:=Int.eq_ofNat_of_zero_le c0;have:=aeM ⟨b,oM⟩;rw[hb];exact this
def ji(s:ByteArray)(i:Nat)(d:Nat)(op:List Value)(c a:Int)(t:ByteArray):BOut:=
 if vL (bt s (i:Nat))=true then
  if 32<um s i-i then .ret (.bool false) (tG s (um s i:Nat) d op 1 (i:Nat) ⟨#[]⟩)
  else .ret (.bool true) (tG s (um s i:Nat) (d+1) (op++[.int .i64 1,.int .i64 (i:Nat),.string (s.extract i (um s i))]) c a t)
 else if bt s (i:Nat)=34 then vV s i 2 d op c a t (zK s i)
 else if bt s (i:Nat)=47 then vV s i 3 d op c a t (Ah s i)
 else if Er (bt s (i:Nat))=true then .ret (.bool true) (tG s (i+1:Nat) (d+1) (op++[.int .i64 4,.int .i64 (i:Nat),.string (s.extract i (i+1))]) c a t)
 else if bt s (i:Nat)=62/\i+1<s.size/\bt s ((i+1:Nat):Int)=62 then .ret (.bool true) (tG s (i+2:Nat) (d+1) (op++[.int .i64 4,.int .i64 (i:Nat),.string ⟨#[62,62]⟩]) c a t)
 else .ret (.bool false) (tG s (i:Nat) d op 50 (i:Nat) ⟨#[]⟩)
theorem ae1{s:ByteArray}{i d:Nat}{op:List Value}{c a:Int}{t:ByteArray}(h:(b9 s i).2.2.1=0) :
  ji s i d op c a t=.ret (.bool true) (tG s ((b9 s i).2.1:Nat) (d+1) (op++[.int .i64 (b9 s i).1.1,.int .i64 ((b9 s i).1.2.1:Nat),.string (b9 s i).1.2.2]) c a t):=by
 by_cases h0:vL (bt s (i:Nat))=true
 ·by_cases hl:32<um s i-i
  ·have e:b9 s i=((0,0,fL),0,1,i):=by unfold b9;rw[if_pos h0,if_pos hl]
   rw[e]at h ⊢;exact absurd h sI
  ·have e:b9 s i=((1,i,s.extract i (um s i)),um s i,0,0):=by unfold b9;rw[if_pos h0,if_neg hl]
   rw[e]at h ⊢;unfold ji;rw[if_pos h0,if_neg hl]
 by_cases h1:bt s (i:Nat)=34
 ·have e:b9 s i=((2,i,(zK s i).1),(zK s i).2.1,(zK s i).2.2.1,(zK s i).2.2.2):=by unfold b9;rw[if_neg h0,if_pos h1]
  rw[e]at h ⊢;have e2:ji s i d op c a t=vV s i 2 d op c a t (zK s i):=by unfold ji;rw[if_neg h0,if_pos h1]
  dsimp only at h;rw[e2];unfold vV;rw[if_pos h]
 by_cases h2:bt s (i:Nat)=47
 ·have e:b9 s i=((3,i,(Ah s i).1),(Ah s i).2.1,(Ah s i).2.2.1,(Ah s i).2.2.2):=by unfold b9;rw[if_neg h0,if_neg h1,if_pos h2]
  rw[e]at h ⊢;have e2:ji s i d op c a t=vV s i 3 d op c a t (Ah s i):=by unfold ji;rw[if_neg h0,if_neg h1,if_pos h2]
  dsimp only at h;rw[e2];unfold vV;rw[if_pos h]
 by_cases h3:Er (bt s (i:Nat))=true
 ·have e:b9 s i=((4,i,s.extract i (i+1)),i+1,0,0):=by unfold b9;rw[if_neg h0,if_neg h1,if_neg h2,if_pos h3]
  rw[e]at h ⊢;unfold ji;rw[if_neg h0,if_neg h1,if_neg h2,if_pos h3]
 by_cases h4:bt s (i:Nat)=62/\i+1<s.size/\bt s ((i+1:Nat):Int)=62
 ·have e:b9 s i=((4,i,⟨#[62,62]⟩),i+2,0,0):=by unfold b9;rw[if_neg h0,if_neg h1,if_neg h2,if_neg h3,if_pos h4]
  rw[e]at h ⊢;unfold ji;rw[if_neg h0,if_neg h1,if_neg h2,if_neg h3,if_pos h4]
 have e:b9 s i=((0,0,fL),0,50,i):=by unfold b9;rw[if_neg h0,if_neg h1,if_neg h2,if_neg h3,if_neg h4]
 rw[e]at h ⊢;exact absurd h sI
theorem aj5{s:ByteArray}{i d:Nat}{op:List Value}{c a:Int}{t:ByteArray}(h:(b9 s i).2.2.1≠0) :
  ∃ j:Int,ji s i d op c a t=.ret (.bool false) (tG s j d op (b9 s i).2.2.1 ((b9 s i).2.2.2:Nat) ⟨#[]⟩):=by
 by_cases h0:vL (bt s (i:Nat))=true
 ·by_cases hl:32<um s i-i
  ·have e:b9 s i=((0,0,fL),0,1,i):=by unfold b9;rw[if_pos h0,if_pos hl]
   rw[e]at h ⊢;unfold ji;rw[if_pos h0,if_pos hl];exact⟨_,rfl⟩
  ·have e:b9 s i=((1,i,s.extract i (um s i)),um s i,0,0):=by unfold b9;rw[if_pos h0,if_neg hl]
   rw[e]at h ⊢;exact absurd h sI
 by_cases h1:bt s (i:Nat)=34
 ·have e:b9 s i=((2,i,(zK s i).1),(zK s i).2.1,(zK s i).2.2.1,(zK s i).2.2.2):=by unfold b9;rw[if_neg h0,if_pos h1]
  rw[e]at h ⊢;have e2:ji s i d op c a t=vV s i 2 d op c a t (zK s i):=by unfold ji;rw[if_neg h0,if_pos h1]
  dsimp only at h;rw[e2];unfold vV;rw[if_neg h];split
  ·exact⟨_,rfl⟩
  ·exact⟨_,rfl⟩
 by_cases h2:bt s (i:Nat)=47
 ·have e:b9 s i=((3,i,(Ah s i).1),(Ah s i).2.1,(Ah s i).2.2.1,(Ah s i).2.2.2):=by unfold b9;rw[if_neg h0,if_neg h1,if_pos h2]
  rw[e]at h ⊢;have e2:ji s i d op c a t=vV s i 3 d op c a t (Ah s i):=by unfold ji;rw[if_neg h0,if_neg h1,if_pos h2]
  dsimp only at h;rw[e2];unfold vV;rw[if_neg h];split
  ·exact⟨_,rfl⟩
  ·exact⟨_,rfl⟩
 by_cases h3:Er (bt s (i:Nat))=true
 ·have e:b9 s i=((4,i,s.extract i (i+1)),i+1,0,0):=by unfold b9;rw[if_neg h0,if_neg h1,if_neg h2,if_pos h3]
  rw[e]at h ⊢;exact absurd h sI
 by_cases h4:bt s (i:Nat)=62/\i+1<s.size/\bt s ((i+1:Nat):Int)=62
 ·have e:b9 s i=((4,i,⟨#[62,62]⟩),i+2,0,0):=by unfold b9;rw[if_neg h0,if_neg h1,if_neg h2,if_neg h3,if_pos h4]
  rw[e]at h ⊢;exact absurd h sI
 have e:b9 s i=((0,0,fL),0,50,i):=by unfold b9;rw[if_neg h0,if_neg h1,if_neg h2,if_neg h3,if_neg h4]
 rw[e]at h ⊢;unfold ji;rw[if_neg h0,if_neg h1,if_neg h2,if_neg h3,if_neg h4];exact⟨_,rfl⟩
theorem ajK{c:Int}(h:vL c=true):nmB c=true:=by unfold nmB;rw[h];rfl
theorem alR{s:ByteArray}{i:Nat}(hi:i<s.size)(h:vL (bt s (i:Nat))=true):KR s (s.size-i) i=um s i:=by
 rw[show s.size-i=(s.size-(i+1))+1 by omega,KR,if_pos hi,if_pos (ajK h)];rfl
theorem Z8(s:ByteArray)(i:Nat)(kd:Int)(d:Nat)(op:List Value)(c a:Int)(t:ByteArray)(q:Pc):∃ (b:Bool) (j:Int) (d' : Nat) (op' : List Value) (c' a' : Int) (t' : ByteArray),vV s i kd d op c a t q=.ret (.bool b) (tG s j d' op' c' a' t'):=by
 unfold vV;split
 ·exact⟨_,_,_,_,_,_,_,rfl⟩
 ·split<;>exact⟨_,_,_,_,_,_,_,rfl⟩
noncomputable def jM:Env prog:=⟨λ| 107=>some gT.spec|109=>some wz.spec|165=>some ux.spec|163=>some wF.spec|164=>some AF.spec|138=>some Ut.spec|168=>some RC.spec|166=>some Me.spec|167=>some abx.spec|_=>none,λ| _=>none,λ_ _=>none⟩
theorem aci:jM.sp 107=some gT.spec:=rfl
theorem acj:jM.sp 109=some wz.spec:=rfl
theorem aco:jM.sp 165=some ux.spec:=rfl
theorem acm:jM.sp 163=some wF.spec:=rfl
theorem acn:jM.sp 164=some AF.spec:=rfl
theorem ack:jM.sp 138=some Ut.spec:=rfl
theorem acr:jM.sp 168=some RC.spec:=rfl
theorem acp:jM.sp 166=some Me.spec:=rfl
theorem acq:jM.sp 167=some abx.spec:=rfl
def eJ:=(ae @List.replicate_succ.{0} @List.replicate_zero.{0} @au @ab kQ kS kU (ae dc dd de df dv dw dz (ae dA mV mW mX mY mZ eB (ae eC eD eE eF eG n8 oa (ae ob oc se sf sg sk sn (ae so sr ss su sv sw sA (ae sB @aV @aw @aD @aG @tG.eq_1 @tF.eq_1 (ae aci acj aco acm acn ack acr (ae acp acq @gC @gB @kj @pN @pO (ae @wB @tw @tA @AE @wH @wG @zS (ae @zR @Kt @Ks @Us @Ur @WQ @WR (qE @afV @aby @abz @akv @aeL))))))))))))
theorem abt(s:ByteArray)(i:Nat)(d:Nat)(op:List Value)(c a:Int)(t:ByteArray)(u:Value)(fp:List Nat)(w:World)(hi:i<s.size)(hs:s.size<=4096)(hd:op.length=d*3)(hd2:d<=1000000)(ho:aW w u fp 223 (tG s (i:Nat) d op c a t))(hlt:∀ b∈fp,b<w.heap.size) :
  Calls prog 108 (#[u]++#[]) w λx w' => dH w u fp 223 x w' (ji s i d op c a t):=by
 have wi:IntKind.i64.wrap ((i:Int)+1)=((i+1:Nat):Int):=wW;have wi2:IntKind.i64.wrap ((i:Int)+2)=((i+2:Nat):Int):=wW;obtain⟨c0,c1⟩:=tM s i;refine aN (nt:=130) #[] [.tmp 2] (by show 6<=7;omega) ho hlt func108 rfl rfl rfl ?_;refine vR jM eJ ?_;refine vR jM eJ ?_;refine Wp.seq ?_;refine wR jM eJ ?_ ?_
 ·omega
 refine Wp.block ?_;refine vR jM eJ ?_;refine wC eJ (λhc=>?_) (λhc=>?_)
 ·have hL:vL (bt s (i:Nat))=true:=hc;clear hc;have hnm:=OG hi
  have e0:ji s i d op c a t=if 32<um s i-i then .ret (.bool false) (tG s (um s i:Nat) d op 1 (i:Nat) ⟨#[]⟩) else .ret (.bool true) (tG s (um s i:Nat) (d+1) (op++[.int .i64 1,.int .i64 (i:Nat),.string (s.extract i (um s i))]) c a t):=by unfold ji;rw[if_pos hL]
  have wni:IntKind.i64.wrap (((um s i:Nat):Int)-((i:Nat):Int))=((um s i-i:Nat):Int):=wW;refine Wp.seq (Wp.block ?_)
  refine Wp.loop (λk:Nat=>⟨60,ee [(0,.is (.own 0 0)),(3,.is (.v (.int .i64 (i:Nat))))],dP [(0,.cells 223 [.v (.string s),.v (.int .i64 (k:Nat)),.hd 3,.v (.int .i64 c),.v (.int .i64 a),.v (.string t)]),(3,.row 225 3 d (op.map .v))]⟩) (λk=>(i<=k/\k<=s.size)/\KR s (s.size-k) k=um s i) (λk=>s.size-k) i ?_ ⟨⟨Nat.le_refl _,oM⟩,alR hi hL⟩ ?_
  ·exact wM (λk=>.key k) eJ
  rintro k ⟨⟨k1,k2⟩,k3⟩;have wk:IntKind.i64.wrap ((k:Int)+1)=((k+1:Nat):Int):=wW;refine Wp.seq ?_;refine kA jM eJ ?_ ?_
  ·refine⟨dE,λh=>?_,λh=>?_⟩
   ·simp at h;omega
   ·simp at h;omega
  refine wC eJ (λhc=>?_) (λhc=>?_)
  ·have h:k<s.size/\nmB (bt s (k:Nat))=true:=by
    simp at hc;refine⟨oM,?_⟩;unfold nmB;rw[Bool.or_eq_true];exact hc.2
   rw[show s.size-k=(s.size-(k+1))+1 by omega,KR,if_pos h.1,if_pos h.2]at k3;refine wK ?_;refine Wp.block ?_;refine vr jM (aa eJ wk) ?_;refine⟨k+1,⟨⟨oM,oM⟩,k3⟩,oM,?_⟩;exact wM (λk=>.key k) eJ
  ·have h:um s i=k:=by
    rw[<- k3];by_cases hk:k<s.size
    ·rw[show s.size-k=(s.size-(k+1))+1 by omega,KR,if_pos hk,if_neg];intro h;unfold nmB at h;simp[hk]at hc;rw[hc.1,hc.2]at h;simp at h
    ·rw[show s.size-k=0 by omega];rfl
   subst h;refine wE ?_;refine Wp.seq ?_;refine vR jM (aa eJ wni) ?_;clear hc;refine wC eJ (λhc=>?_) (λhc=>?_)
   ·have h32:32<um s i-i:=by
     simp at hc;omega
    rw[if_pos h32]at e0;rw[e0];refine wR jM eJ ?_ ?_
    ·exact⟨dE,λ_ h=>h.elim⟩
    refine wZ eJ ?_;exact⟨_,_,rfl,λE=>rfl,_,_,rfl,(ev (aa eJ @aq)),dE⟩
   have h32:¬ 32<um s i-i:=by
    simp at hc;omega
   rw[if_neg h32]at e0;rw[e0];refine wK ?_;refine kA jM eJ ?_ ?_
   ·exact⟨⟨oM,oM,oM⟩,⟨hd,hd2⟩,dE,λ_ h=>h.elim⟩
   refine wZ eJ ?_;exact⟨_,_,rfl,λE=>rfl,_,_,rfl,(ev (aa eJ @aq)),dE⟩
 have n0:¬ vL (bt s (i:Nat))=true:=by rw[show vL (bt s (i:Nat))=false from hc];simp
 clear hc;refine vR jM eJ ?_;refine wC eJ (λhc=>?_) (λhc=>?_)
 ·have h:bt s (i:Nat)=34:=by simpa using hc
  have e0:ji s i d op c a t=vV s i 2 d op c a t (zK s i):=by unfold ji;rw[if_neg n0,if_pos h]
  obtain⟨b,j,d',op',c',a',t',hP⟩:=Z8 s i 2 d op c a t (zK s i);rw[e0,hP];refine wR jM (aa eJ hP) ?_ ?_
  ·exact⟨⟨⟨⟨oM,oM⟩,hs⟩,hd,hd2⟩,dE,λ_ h=>h.elim⟩
  refine wZ eJ ?_;exact⟨_,_,rfl,λE=>rfl,_,_,rfl,(ev (aa eJ @aq)),dE⟩
 have n1:¬ bt s (i:Nat)=34:=by simpa using hc
 clear hc;refine vR jM eJ ?_;refine wC eJ (λhc=>?_) (λhc=>?_)
 ·have h:bt s (i:Nat)=47:=by simpa using hc
  have e0:ji s i d op c a t=vV s i 3 d op c a t (Ah s i):=by unfold ji;rw[if_neg n0,if_neg n1,if_pos h]
  obtain⟨b,j,d',op',c',a',t',hP⟩:=Z8 s i 3 d op c a t (Ah s i);rw[e0,hP];refine wR jM (aa eJ hP) ?_ ?_
  ·exact⟨⟨⟨⟨oM,oM⟩,hs⟩,hd,hd2⟩,dE,λ_ h=>h.elim⟩
  refine wZ eJ ?_;exact⟨_,_,rfl,λE=>rfl,_,_,rfl,(ev (aa eJ @aq)),dE⟩
 have n2:¬ bt s (i:Nat)=47:=by simpa using hc
 clear hc;refine vR jM eJ ?_;refine wC eJ (λhc=>?_) (λhc=>?_)
 ·have h:Er (bt s (i:Nat))=true:=hc;have e0:ji s i d op c a t=.ret (.bool true) (tG s (i+1:Nat) (d+1) (op++[.int .i64 4,.int .i64 (i:Nat),.string (s.extract i (i+1))]) c a t):=by unfold ji;rw[if_neg n0,if_neg n1,if_neg n2,if_pos h]
  rw[e0];refine vR jM (aa eJ wi) ?_;refine kA jM eJ ?_ ?_
  ·exact⟨⟨oM,oM,oM⟩,⟨hd,hd2⟩,dE,λ_ h=>h.elim⟩
  refine wZ eJ ?_;exact⟨_,_,rfl,λE=>rfl,_,_,rfl,(ev (aa eJ @aq)),dE⟩
 have n3:¬ Er (bt s (i:Nat))=true:=by rw[show Er (bt s (i:Nat))=false from hc];simp
 clear hc;have hp2:=afa s hi;refine wR jM (aa eJ hp2) ?_ ?_
 ·skip
  omega
 refine wC eJ (λhc=>?_) (λhc=>?_)
 ·have h:bt s (i:Nat)=62/\i+1<s.size/\bt s ((i+1:Nat):Int)=62:=of_decide_eq_true hc;have e0:ji s i d op c a t=.ret (.bool true) (tG s (i+2:Nat) (d+1) (op++[.int .i64 4,.int .i64 (i:Nat),.string ⟨#[62,62]⟩]) c a t):=by unfold ji;rw[if_neg n0,if_neg n1,if_neg n2,if_neg n3,if_pos h]
  rw[e0];refine vR jM (aa eJ wi2) ?_;refine wR jM eJ ?_ ?_
  ·exact⟨⟨hd,hd2⟩,dE,λ_ h=>h.elim⟩
  refine wZ eJ ?_;exact⟨_,_,rfl,λE=>rfl,_,_,rfl,(ev (aa eJ @aq)),dE⟩
 have n4:¬ (bt s (i:Nat)=62/\i+1<s.size/\bt s ((i+1:Nat):Int)=62):=of_decide_eq_false hc;have e0:ji s i d op c a t=.ret (.bool false) (tG s (i:Nat) d op 50 (i:Nat) ⟨#[]⟩):=by unfold ji;rw[if_neg n0,if_neg n1,if_neg n2,if_neg n3,if_neg n4]
 rw[e0];refine wK ?_;refine wR jM eJ ?_ ?_
 ·exact⟨dE,λ_ h=>h.elim⟩
 refine wZ eJ ?_;exact⟨_,_,rfl,λE=>rfl,_,_,rfl,(ev (aa eJ @aq)),dE⟩
def Md:bJ prog 108 where
 T:=223
 pre:=λW bs fs as_=>match fs,as_ with|[.val (.string s),.val (.int .i64 i),.row 225 3 d op,.val (.int .i64 c),.val (.int .i64 a),.val (.string t)],[]=>((0<=i/\i<s.size)/\s.size<=4096)/\op.length=d*3/\d<=1000000|_,_=>False
 out:=λW fs as_=>match fs,as_ with|[.val (.string s),.val (.int .i64 i),.row 225 3 d op,.val (.int .i64 c),.val (.int .i64 a),.val (.string t)],[]=>ji s i.toNat d op c a t|_,_=>.pan [] undef
 enters:=call108
 ok:=by
  intro W w bs u fp us fs as_ hk ho hlt hmine hu hp;split at hp
  ·rename_i s i d op c a t
   match us,hu with
   |[],_=>
    obtain⟨k,rfl⟩:=Int.eq_ofNat_of_zero_le hp.1.1.1;exact abt s k d op c a t u fp w oM hp.1.2 hp.2.1 hp.2.2 ho hlt
  ·exact hp.elim
theorem WJ(W:World)(s:ByteArray)(i:Int)(d:Nat)(op:List Value)(c:Int)(a:Int)(t:ByteArray):Md.out W [.val (.string s),.val (.int .i64 i),.row 225 3 d op,.val (.int .i64 c),.val (.int .i64 a),.val (.string t)] []=ji s i.toNat d op c a t:=rfl
theorem WK(W:World)(bs:List Nat)(s:ByteArray)(i:Int)(d:Nat)(op:List Value)(c:Int)(a:Int)(t:ByteArray):Md.pre W bs [.val (.string s),.val (.int .i64 i),.row 225 3 d op,.val (.int .i64 c),.val (.int .i64 a),.val (.string t)] []=(((0<=i/\i<s.size)/\s.size<=4096)/\op.length=d*3/\d<=1000000):=rfl
theorem afU:Md.T=223:=rfl
def Ep(c a:Int):SV:=.agg [.v (.int .i64 c),.v (.int .i64 a),.v (.string ⟨#[]⟩)]
noncomputable def tE:Env prog:=⟨λ| 106=>some CQ.spec|107=>some gT.spec|108=>some Md.spec|109=>some wz.spec|_=>none,λ| _=>none,λ_ _=>none⟩
theorem acs:tE.sp 106=some CQ.spec:=rfl
theorem acu:tE.sp 107=some gT.spec:=rfl
theorem acv:tE.sp 108=some Md.spec:=rfl
theorem acw:tE.sp 109=some wz.spec:=rfl
def kY:=(ae @List.replicate_succ.{0} @List.replicate_zero.{0} @au @ab kQ kS kU (ae dc dd de df dv dw dz (ae dA eB eC eD eE eF eG (ae uK uL uM uN uO uP uQ (ae uR uS uT Iz IA IB IC (ae se sf sg sk sn so sr (ae ss su sv sw sA sB qs (ae qt qu qv qw qx qy qz (ae @aV @aw @aD @aG @tG.eq_1 @tF.eq_1 @xD.eq_1 (ae @xD.eq_2 acs acu acv acw @gC @gB (ae @kj @Qv @Qw @abA @tw @tA @AE (bw @WJ @WK @afU))))))))))))
theorem WT(s:ByteArray)(w:World)(fp:List Nat)(E:Nat->Value)(F:Nat->List Nat)(hs:aj w fp E F (dP []) w)(hz:s.size<=9223372036854775807) :
  Calls prog 66 (ai E [.v (.string s)]).toArray w λe w' => ∃ E' F',e=.returned (den E' (.tup [.hd 8,Ep (bc s).2.1 ((bc s).2.2:Nat)]))/\(∀ k∈([]:List Nat),E' k=E k)/\aj w fp E' F' (dP [(8,.row 225 3 (bc s).1.length ((xx (bc s).1).map .v))]) w' := by
 refine A5 (nt:=35) [.tmp 2,.cell 3 39] hs ?_ ?_ func66 rfl rfl rfl ?_
 ·simp[Kx,xD,FV.keys,SV.keys]
 ·simp
 refine vR tE kY ?_;refine Wp.seq ?_;refine vR tE kY ?_;refine wC kY (λhc=>?_) (λhc=>?_)
 ·have h:4096<s.size:=by
   simp at hc;omega
  have e:bc s=([],1,0):=by unfold bc;rw[if_pos h]
  rw[e];refine vR tE kY ?_;refine wZ kY ?_;exact wN (λk=>.nil) (fJ kY @Ep.eq_1 @xx.eq_1 @List.flatMap_nil.{0,0})
 have h4:s.size<=4096:=by
  simp at hc;omega
 have e0:bc s=v8 s s.size (la s 0) []:=by unfold bc;rw[if_neg oM]
 clear hc;have hg0:=sV (Nat.zero_le s.size);refine wK ?_;refine vR tE kY ?_
 refine Wp.Am (σ' := ⟨60,ee [(0,.is (.v (.string s))),(3,.is (.own 5 0)),(4,.is (.own 0 0))],dP [(0,.cells 223 [.v (.string s),.v (.int .i64 0),.hd 3,.v (.int .i64 0),.v (.int .i64 0),.v (.string ⟨#[]⟩)]),(3,.row 225 3 0 (([]:List Value).map .v)),(5,.cells 39 [.v (.int .i64 0),.v (.int .i64 0),.v (.string ⟨#[]⟩)])]⟩) ?_ ?_
 ·exact wM (λk=>if k=0 then .key 64 else if k=3 then .nil else if k=5 then .key 16 else .key k) kY
 refine Wp.seq ?_;refine wR tE kY ?_ ?_
 ·exact⟨⟨oM,oM⟩,dE,λ_ h=>h.elim⟩
 refine Wp.block ?_
 refine Wp.loop (λp:Nat×Nat×List Tk=>⟨100,ee [(0,.is (.v (.string s))),(3,.is (.own 5 0)),(4,.is (.own 0 0))],dP [(0,.cells 223 [.v (.string s),.v (.int .i64 (p.2.1:Nat)),.hd 3,.v (.int .i64 0),.v (.int .i64 0),.v (.string ⟨#[]⟩)]),(3,.row 225 3 p.2.2.length ((xx p.2.2).map .v)),(5,.cells 39 [.v (.int .i64 0),.v (.int .i64 0),.v (.string ⟨#[]⟩)])]⟩) (λp=>p.2.1<=s.size/\p.2.2.length<=p.2.1/\s.size<=p.2.1+p.1/\v8 s p.1 p.2.1 p.2.2=bc s) (λp=>p.1) (s.size,la s 0,[]) ?_ ⟨hg0.2,Nat.zero_le _,by dsimp only;omega,e0.symm⟩ ?_
 ·exact wM (λk=>if k=3 then .key 490 else .key k) (bw kY @xx.eq_1 @List.flatMap_nil.{0,0})
 rintro⟨n,i,l⟩ ⟨g1,g2,g3,g4⟩;dsimp only at g1 g2 g3 g4 ⊢;have hl3:=wD l;refine Wp.seq ?_;refine vR tE kY ?_;refine wC kY (λhc=>?_) (λhc=>?_)
 rotate_left
 ·have hi:i=s.size:=by
   simp at hc;omega
  subst hi;have e1:bc s=(l++[(0,s.size,fL)],0,0):=by
   rw[<- g4];cases n with
   |zero=>rfl
   |succ n=>rw[v8,if_neg oM]
  rw[e1];refine wE ?_;refine wR tE kY ?_ ?_
  ·exact⟨⟨hl3,oM⟩,dE,λ_ h=>h.elim⟩
  refine vR tE kY ?_;refine wZ kY ?_;have e2:xx l++[.int .i64 0,.int .i64 (s.size:Nat),.string ⟨#[]⟩]=xx (l++[(0,s.size,fL)]):=Ma l 0 s.size fL;have e3:(l++[((0:Int),s.size,fL)]).length=l.length+1:=by simp
  exact wN (λk=>if k=8 then .key 850 else .key k) (qE kY @Ep.eq_1 e2 e3 @Int.natCast_zero)
 have hi:i<s.size:=by
  simp at hc;omega
 clear hc;obtain⟨n,rfl⟩:∃ n',n=n' + 1:=⟨n-1,oM⟩;rw[v8,if_pos hi]at g4;refine wK ?_;refine Wp.seq (Wp.block ?_);by_cases h0:(b9 s i).2.2.1=0
 ·have hnext:=yK hi h0;rw[if_pos h0]at g4;have hgl:=sV hnext.2;have hone:=ae1 (d:=l.length) (op:=xx l) (c:=0) (a:=0) (t:=⟨#[]⟩) h0;refine wR tE (aa kY hone) ?_ ?_
  ·exact⟨⟨⟨⟨oM,oM⟩,h4⟩,hl3,oM⟩,dE,λ_ h=>h.elim⟩
  refine wC kY (λhc=>?_) (λhc=>?_)
  ·exact absurd hc sI
  refine wK ?_;refine wr tE kY ?_ ?_
  ·exact⟨⟨⟨oM,oM⟩,oM⟩,dE,λ_ h=>h.elim⟩
  have e2:xx l++[.int .i64 (b9 s i).1.1,.int .i64 ((b9 s i).1.2.1:Nat),.string (b9 s i).1.2.2]=xx (l++[(b9 s i).1]):=Ma l _ _ _;have e3:(l++[(b9 s i).1]).length=l.length+1:=by simp
  refine⟨(n,la s (b9 s i).2.1,l++[(b9 s i).1]),⟨hgl.2,by dsimp only;rw[List.length_append,List.length_singleton];omega,by dsimp only;omega,g4⟩,by dsimp only;omega,?_⟩;exact wM (λk=>if k=3 then .key 858 else .key k) (bw kY e2 e3)
 ·rw[if_neg h0]at g4;obtain⟨j,hone⟩:=aj5 (d:=l.length) (op:=xx l) (c:=0) (a:=0) (t:=⟨#[]⟩) h0;refine wR tE (aa kY hone) ?_ ?_
  ·exact⟨⟨⟨⟨oM,oM⟩,h4⟩,hl3,oM⟩,dE,λ_ h=>h.elim⟩
  refine wC kY (λhc=>?_) (λhc=>?_)
  rotate_left
  ·exact absurd hc sI
  rw[<- g4];refine yY tE kY ?_;refine wZ kY ?_;exact wN (λk=>.nil) (fJ kY @Ep.eq_1 @xx.eq_1 @List.flatMap_nil.{0,0})
def Qt(s:ByteArray):AL prog 66 where
 args:=[.v (.string s)]
 L:=[]
 val:=.tup [.hd 8,Ep (bc s).2.1 ((bc s).2.2:Nat)]
 L' := [(8,.row 225 3 (bc s).1.length ((xx (bc s).1).map .v))]
 fF:=[]
 pre:=λW bs=>s.size<=9223372036854775807
 low:=by simp
 kept:=by simp
 vk:=by intro k hk;right;simp[Ep,SV.keys,ay]at hk;unfold fresh;omega
 lk:=by intro p hp;simp only[List.mem_cons,List.not_mem_nil,or_false]at hp;rcases hp with rfl;exact⟨.inr (by unfold fresh;omega),by simp[aX.keys,aR]⟩
 nd:=by simp
 enters:=call66
 ok:=by
  intro W w bs fp E F hk hm hs hp;exact WT s w fp E F hs hp
end
section
open Go.RowKit Go.LE Go.Proofs.Tryz
inductive Ex where
 |name (a:Nat) (s:ByteArray)
 |text (a:Nat) (s:ByteArray)
 |rx (a:Nat) (s:ByteArray)
 |call (a:Nat) (w:ByteArray) (l:Ex)
 |keyed (a:Nat) (x:Ex)
 |unary (a:Nat) (op:ByteArray) (x:Ex)
 |binary (a:Nat) (op:ByteArray) (x y:Ex)
 |nil
 |cons (x l:Ex)
def oq(s:ByteArray):Int:=
 if s=⟨#[99,111,112,121]⟩\/s=⟨#[107,101,121]⟩\/s=⟨#[105,110,115]⟩\/s=⟨#[105,100]⟩\/s=⟨#[102,111,108,100]⟩ then 1
 else if s=⟨#[100,101,108]⟩\/s=⟨#[108,101,102,116]⟩\/s=⟨#[114,105,103,104,116]⟩\/s=⟨#[100,101,102,97,117,108,116]⟩ then 2
 else if s=⟨#[110,111,114,109]⟩ then 3
 else if s=⟨#[108,101,116]⟩ then -1
 else 0
def yt:Nat->ByteArray
 |0=>⟨#[124]⟩
 |1=>⟨#[38,45]⟩
 |2=>⟨#[62,62]⟩
 |3=>⟨#[126]⟩
 |_=>⟨#[46]⟩
def rkB(s:ByteArray)(i:Nat):Bool:=(!decide (s=⟨#[]⟩)&&Lib.contains (yt i).data.toList s.data.toList)&&(decide ((s.size:Int)=2)||!decide (yt i=⟨#[62,62]⟩))
def Nf(s:ByteArray):Int:=match rr (rkB s) 5 0 with
 |some i=>(i:Nat)
 |none=>-1
def pk:List Tk->Tk
 |t::_=>t
 |[]=>(0,0,fL)
def eU(r:List Tk)(m:ByteArray):Bool:=decide ((pk r).1=4)&&decide ((pk r).2.2=m)
abbrev PR:=Except (Int×Nat) (Ex×List Tk)
def ll(sub:List Tk->PR)(lev:Int):Nat->Ex->List Tk->PR
 |0,a,r=>.ok (a,r)
 | n+1,a,r=>
  if (pk r).1=4/\Nf (pk r).2.2=lev then match sub r.tail with
   |.error e=>.error e
   |.ok (b,r')=>ll sub lev n (.binary (pk r).2.1 (pk r).2.2 a b) r'
  else .ok (a,r)
def ui(sub:List Tk->PR)(lev:Int)(r:List Tk):PR:=match sub r with
 |.error e=>.error e
 |.ok (a,r')=>ll sub lev r'.length a r'
def mf:ByteArray:=⟨#[42]⟩
def Ae:ByteArray:=⟨#[43]⟩
def XT:ByteArray:=⟨#[63]⟩
def qS:Nat->Ex->List Tk->Ex×List Tk
 |0,a,r=>(a,r)
 |n+1,a,r=>if ((eU r mf||eU r Ae)||eU r XT)=true then qS n (.unary (pk r).2.1 (pk r).2.2 a) r.tail else (a,r)
def oQ(atom:List Tk->PR)(r:List Tk):PR:=match atom r with
 |.error e=>.error e
 |.ok (a,r')=>.ok (qS r'.length a r')
def BK(atom:List Tk->PR):Nat->List Tk->PR
 |0=>oQ atom
 |k+1=>ui (BK atom k) (4-(k:Nat))
def gU(atom:List Tk->PR):List Tk->PR:=BK atom 5
def Ew:ByteArray:=⟨#[40]⟩
def Ej:ByteArray:=⟨#[41]⟩
def R4:ByteArray:=⟨#[123]⟩
def Yc:ByteArray:=⟨#[125]⟩
def Xo:ByteArray:=⟨#[44]⟩
def dk(m:ByteArray)(f:Ex->Ex):PR->PR
 |.error e=>.error e
 |.ok (a,r)=>if eU r m=true then .ok (f a,r.tail) else .error (60,(pk r).2.1)
def yG:Ex->Ex->Ex
 |.cons x l,y=>.cons x (yG l y)
 |_,y=>.cons y .nil
def kD(ex:List Tk->PR):Nat->Nat->Ex->List Tk->PR
 |0,_,l,r=>.ok (l,r)
 | n+1,k,l,r=>
  if 0<k/\eU r Xo=false then .error (60,(pk r).2.1)
  else match ex (if 0<k then r.tail else r) with
   |.error e=>.error e
   |.ok (a,r')=>kD ex n (k+1) (yG l a) r'
def e9(m:Option (List Tk->PR))(r:List Tk)(b:ByteArray)(go:(List Tk->PR)->List Tk->PR):PR:=
 if eU r b=true then match m with
  |none=>.error (23,(pk r).2.1)
  |some ex=>go ex r.tail
 else .error (60,(pk r).2.1)
def eV(m:Option (List Tk->PR))(r:List Tk):PR:=
 if (pk r).1=2 then .ok (.text (pk r).2.1 (pk r).2.2,r.tail)
 else if (pk r).1=3 then .ok (.rx (pk r).2.1 (pk r).2.2,r.tail)
 else if (pk r).1=1/\0<oq (pk r).2.2 then e9 m r.tail Ew λex r' => dk Ej (.call (pk r).2.1 (pk r).2.2) (kD ex (oq (pk r).2.2).toNat 0 .nil r')
 else if (pk r).1=1/\oq (pk r).2.2=0 then .ok (.name (pk r).2.1 (pk r).2.2,r.tail)
 else if eU r R4=true then e9 m r R4 λex r' => dk Yc (.keyed (pk r).2.1) (ex r')
 else if eU r Ew=true then e9 m r Ew λex r' => dk Ej id (ex r')
 else .error (60,(pk r).2.1)
def eu:Nat->List Tk->PR
 |0=>eV none
 |m+1=>eV (some (gU (eu m)))
abbrev Pm:=List (Nat×ByteArray×Ex)×Ex
def gp:ByteArray:=⟨#[108,101,116]⟩
def zw:ByteArray:=⟨#[61]⟩
def xw:ByteArray:=⟨#[59]⟩
def fW(ex:List Tk->PR):Nat->List (Nat×ByteArray×Ex)->List Tk->Except (Int×Nat) (Pm×List Tk)
 |0,ds,r=>.error (60,(pk r).2.1)
 | n+1,ds,r=>
  if (pk r).1=1/\(pk r).2.2=gp then
   if ¬ (pk r.tail).1=1\/¬ oq (pk r.tail).2.2=0 then .error (60,(pk r.tail).2.1)
   else if eU r.tail.tail zw=false then .error (60,(pk r.tail.tail).2.1)
   else match ex r.tail.tail.tail with
    |.error e=>.error e
    |.ok (x,r')=>if eU r' xw=false then .error (60,(pk r').2.1)
     else fW ex n (ds++[((pk r.tail).2.1,(pk r.tail).2.2,x)]) r'.tail
  else match ex r with
   |.error e=>.error e
   |.ok (x,r')=>if (pk r').1=0 then .ok ((ds,x),r') else .error (60,(pk r').2.1)
def lH(s:ByteArray):Except (Int×Nat) Pm:=
 if (bc s).2.1=0 then match fW (gU (eu 64)) (bc s).1.length [] (bc s).1 with
  |.error e=>.error e
  |.ok (p,_)=>.ok p
 else .error ((bc s).2.1,(bc s).2.2)
def jQ(r:List Tk):Prop:=∃ l e,r=l++[e]/\e.1=0/\∀ t∈l,t.1≠0
theorem jQ.ne{r:List Tk}(h:jQ r):r≠[]:=by
 obtain⟨l,e,rfl,_⟩:=h;simp
theorem jQ.tail{r:List Tk}(h:jQ r)(hk:(pk r).1≠0):jQ r.tail/\r=pk r::r.tail:=by
 obtain⟨l,e,rfl,h0,hl⟩:=h;cases l with
 |nil=>exact absurd h0 hk
 |cons t l=>exact⟨⟨l,e,rfl,h0,λt ht=>hl t (List.mem_cons_of_mem _ ht)⟩,rfl⟩
theorem jQ.pos{r:List Tk}(h:jQ r):1<=r.length:=by
 obtain⟨l,e,rfl,_⟩:=h;simp
def Left(r r' : List Tk)(n:Nat):Prop:=jQ r' /\ r' <:+ r/\r'.length+n<=r.length
theorem Left.refl{r:List Tk}(h:jQ r):Left r r 0:=⟨h,List.suffix_refl _,Nat.le_refl _⟩
theorem Left.trans{r r' r2:List Tk}{n m:Nat}(h:Left r r' n)(h' : Left r' r2 m):Left r r2 (n+m):=⟨h'.1,h'.2.1.trans h.2.1,by have:=h.2.2;have:=h'.2.2;omega⟩
theorem Left.Am{r r' : List Tk}{n m:Nat}(h:Left r r' n)(hm:m<=n):Left r r' m:=⟨h.1,h.2.1,by have:=h.2.2;omega⟩
theorem Left.next{r:List Tk}(h:jQ r)(hk:(pk r).1≠0):Left r r.tail 1:=by
 obtain⟨h1,h2⟩:=h.tail hk;refine⟨h1,List.tail_suffix r,?_⟩;have:=h.pos;rw[List.length_tail];omega
theorem gY{r:List Tk}{m:ByteArray}(h:eU r m=true):(pk r).1≠0:=by
 unfold eU at h;simp at h;omega
def jR(sub:List Tk->PR)(n:Nat):Prop:=∀ r,jQ r->∀ a r',sub r=.ok (a,r')->Left r r' n
theorem BJ{sub:List Tk->PR}(h:jR sub 1)(lev:Int):∀ n a r,jQ r->∀ b r',ll sub lev n a r=.ok (b,r')->Left r r' 0
 |0,a,r,hr,b,r',he=>by
  cases he;exact .refl hr
 | n+1,a,r,hr,b,r',he=>by
  rw[ll]at he;split at he
  ·rename_i hc;have h1:=Left.next hr oM
   split at he
   ·cases he
   ·rename_i x r2 hs;have h2:=h _ h1.1 _ _ hs;exact ((h1.trans h2).trans (BJ h lev n _ _ h2.1 _ _ he)).Am oM
  ·cases he;exact .refl hr
theorem UW{sub:List Tk->PR}(h:jR sub 1)(lev:Int):jR (ui sub lev) 1:=λr hr a r' he=>by
 unfold ui at he;split at he
 ·cases he
 ·rename_i x r2 hs;have h2:=h _ hr _ _ hs;exact (h2.trans (BJ h lev _ _ _ h2.1 _ _ he)).Am oM
theorem FD:∀ n a r,jQ r->Left r (qS n a r).2 0
 |0,a,r,hr=>.refl hr
 | n+1,a,r,hr=>by
  rw[qS];split
  ·rename_i hc;have hk:(pk r).1≠0:=by
    simp only[Bool.or_eq_true]at hc;rcases hc with (hc|hc)|hc<;>exact gY hc
   have h1:=Left.next hr hk
   exact (h1.trans (FD n _ _ h1.1)).Am oM
  ·exact .refl hr
theorem O0{atom:List Tk->PR}(h:jR atom 1):jR (oQ atom) 1:=λr hr a r' he=>by
 unfold oQ at he;split at he
 ·cases he
 ·rename_i x r2 hs;have h2:=h _ hr _ _ hs;simp only[Except.ok.injEq]at he;have h3:=FD r2.length x r2 h2.1;rw[he]at h3;exact h2.trans h3
theorem oH{atom:List Tk->PR}(h:jR atom 1):∀ k,jR (BK atom k) 1
 |0=>O0 h
 |k+1=>UW (oH h k) _
theorem AU{ex:List Tk->PR}(h:jR ex 1):∀ n k l r,jQ r->∀ a r',kD ex n k l r=.ok (a,r')->Left r r' 0
 |0,k,l,r,hr,a,r',he=>by
  cases he;exact .refl hr
 | n+1,k,l,r,hr,a,r',he=>by
  rw[kD]at he;split at he
  ·cases he
  ·rename_i hc;have h1:Left r (if 0<k then r.tail else r) 0:=by
    split
    ·rename_i hk;have:eU r Xo=true:=by
      cases hm:eU r Xo with
      |true=>rfl
      |false=>exact absurd ⟨hk,hm⟩ hc
     exact (Left.next hr (gY this)).Am oM
    ·exact .refl hr
   split at he
   ·cases he
   ·rename_i x r2 hs;have h2:=h _ h1.1 _ _ hs;exact ((h1.trans h2).trans (AU h n _ _ _ h2.1 _ _ he)).Am oM
theorem yD{m:ByteArray}{f:Ex->Ex}{q:PR}{r:List Tk}{n:Nat}(h:∀ a r',q=.ok (a,r')->Left r r' n){a:Ex}{r' : List Tk}(he:dk m f q=.ok (a,r')):Left r r' (n+1):=by
 cases q with
 |error e=>cases he
 | ok p=>
  obtain⟨x,r2⟩:=p;have he' : (if eU r2 m=true then (.ok (f x,r2.tail):PR) else .error (60,(pk r2).2.1))=.ok (a,r'):=he;by_cases hm:eU r2 m=true
  ·rw[if_pos hm]at he';cases he';have h1:=h _ _ rfl;exact h1.trans (Left.next h1.1 (gY hm))
  ·rw[if_neg hm]at he';cases he'
theorem zd{m:Option (List Tk->PR)}(hm:∀ ex,m=some ex->jR ex 1):jR (eV m) 1:=λr hr a r' he=>by
 have key:∀ {r1:List Tk} {b:ByteArray} {go:(List Tk->PR)->List Tk->PR} {n:Nat},Left r r1 n->e9 m r1 b go=.ok (a,r')->∃ ex,jR ex 1/\Left r r1.tail (n+1)/\go ex r1.tail=.ok (a,r'):=λ{r1 b go n} h1 h=>by
  unfold e9 at h;split at h
  ·rename_i hb;cases m with
   |none=>cases h
   |some ex=>exact⟨ex,hm ex rfl,h1.trans (Left.next h1.1 (gY hb)),h⟩
  ·cases h
 unfold eV at he;split at he
 ·cases he;exact Left.next hr oM
 split at he
 ·cases he;exact Left.next hr oM
 split at he
 ·rename_i hc;obtain⟨ex,h1,h2,h3⟩:=key (Left.next hr oM) he;exact (yD (λx r2 hs=>h2.trans (AU h1 _ _ _ _ h2.1 _ _ hs)) h3).Am oM
 split at he
 ·cases he;exact Left.next hr oM
 split at he
 ·obtain⟨ex,h1,h2,h3⟩:=key (.refl hr) he;exact (yD (λx r2 hs=>h2.trans (h1 _ h2.1 _ _ hs)) h3).Am oM
 split at he
 ·obtain⟨ex,h1,h2,h3⟩:=key (.refl hr) he;exact (yD (λx r2 hs=>h2.trans (h1 _ h2.1 _ _ hs)) h3).Am oM
 ·cases he
theorem kE:∀ m,jR (eu m) 1
 |0=>zd λex h=>by cases h
 |m+1=>zd λex h=>by
  cases h;exact oH (kE m) 5
theorem Sr(s:ByteArray):∀ (n i:Nat) (l:List Tk),(∀ t∈l,t.1≠0)->(v8 s n i l).2.1=0->jQ (v8 s n i l).1
 |0,i,l,hl,h=>⟨l,(0,s.size,fL),rfl,rfl,hl⟩
 | n+1,i,l,hl,h=>by
  rw[v8]at h ⊢;split
  ·rename_i hi;rw[if_pos hi]at h;split
   ·rename_i h0;rw[if_pos h0]at h;refine Sr s n _ _ (λt ht=>?_) h;rcases List.mem_append.1 ht with ht|ht
    ·exact hl t ht
    ·rw[List.mem_singleton.1 ht];unfold b9 at h0 ⊢
     repeat' (split at h0<;>rename_i hh<;>(first|rw[if_pos hh]|rw[if_neg hh]))
     all_goals first|(intro hc;cases hc;done)|(exfalso;simp at h0;done)|(dsimp only;omega)
   ·rename_i h0;rw[if_neg h0]at h;exact absurd h h0
  ·exact⟨l,(0,s.size,fL),rfl,rfl,hl⟩
theorem aaQ{s:ByteArray}(h:(bc s).2.1=0):jQ (bc s).1:=by
 unfold bc at h ⊢;split
 ·rename_i h4;rw[if_pos h4]at h;cases h
 ·rename_i h4;rw[if_neg h4]at h;exact Sr s _ _ _ (λt ht=>by cases ht) h
end
end Go.Proofs.YtnemkecffmdlnaaGreatDoor
namespace Go.Proofs
section
open Go.Shelf
def Tryz.KA:Go.Shelf.Ren:=⟨λ| 144=>213|143=>85|219=>144|217=>189|225=>197|224=>198|267=>199|266=>231|314=>242|n=>n,λ| 9=>9|4=>4|3=>3|5=>5|46=>158|146=>348|51=>335|n=>n,λ| 1=>1|n=>n⟩
theorem Tryz.aeE:Go.Proofs.Lays.n144 Tryz.prog Tryz.KA:={
 mixed:=by kernel_rfl
 f143:=Tryz.func85.trans (congrArg some (by kernel_rfl))
 f144:=Tryz.func213.trans (congrArg some (by kernel_rfl))
 f217:=Tryz.func189.trans (congrArg some (by kernel_rfl))
 f219:=Tryz.func144.trans (congrArg some (by kernel_rfl))
 f224:=Tryz.func198.trans (congrArg some (by kernel_rfl))
 f225:=Tryz.func197.trans (congrArg some (by kernel_rfl))
 f266:=Tryz.func231.trans (congrArg some (by kernel_rfl))
 f267:=Tryz.func199.trans (congrArg some (by kernel_rfl))
 f314:=Tryz.func242.trans (congrArg some (by kernel_rfl))
 t3:=Tryz.underlying3
 a3:=Tryz.isAgg3
 z3:=Tryz.sizeOf3
 v3:=Tryz.zeroValue3
 t4:=Tryz.underlying4
 a4:=Tryz.isAgg4
 z4:=Tryz.sizeOf4
 v4:=Tryz.zeroValue4
 t5:=Tryz.underlying5
 a5:=Tryz.isAgg5
 z5:=Tryz.sizeOf5
 v5:=Tryz.zeroValue5
 t9:=Tryz.underlying9
 a9:=Tryz.isAgg9
 z9:=Tryz.sizeOf9
 v9:=Tryz.zeroValue9
 t46:=Tryz.underlying158
 a46:=Tryz.isAgg158
 z46:=Tryz.sizeOf158
 v46:=Tryz.zeroValue158
 t51:=Tryz.underlying335
 a51:=Tryz.isAgg335
 z51:=Tryz.sizeOf335
 v51:=Tryz.zeroValue335
 t146:=Tryz.underlying348
 a146:=Tryz.isAgg348
 z146:=Tryz.sizeOf348
 v146:=Tryz.zeroValue348
 g1:=by kernel_rfl }
open Go.RowKit Go.Lib in
open Go.RowKit Go.Lib in
theorem Tryz.strings_Contains(s sub:ByteArray)(m:Int)(w:World)(hs:s.size<4294967281)(hm:w.cell? ⟨1,0,none⟩=some (.int .i64 m)) :
  Calls Tryz.prog 213 #[.string s,.string sub] w λe w' => e=.returned (.bool (Lib.contains s.data.toList sub.data.toList))/\w' = w:=Any.strings_Contains Tryz.aeE s sub m w hs hm
end
end Go.Proofs
namespace Go.Proofs.YtnemkecffmdlnaaGreatDoor
section
open Go.RowKit Go.LE Go.Proofs.Tryz
set_option maxRecDepth 10000
def AM(W:World)(S:Nat->Prop):Prop:=S 1/\∃ m:Int,W.cell? ⟨1,0,none⟩=some (.int .i64 m)
def Jy(W:World)(S:Nat->Prop):Prop:=S 2/\W.cell? ⟨2,0,none⟩=some (.string (yt 0))/\W.cell? ⟨2,0+1,none⟩=some (.string (yt 1))/\W.cell? ⟨2,0+1+1,none⟩=some (.string (yt 2))/\W.cell? ⟨2,0+1+1+1,none⟩=some (.string (yt 3))/\W.cell? ⟨2,0+1+1+1+1,none⟩=some (.string (yt 4))
theorem AM.mono{W W' : World}{S S' : Nat->Prop}(h:AM W S)(hs:aY W S W' S'):AM W' S' := by
 obtain⟨h0,m,h1⟩:=h;have:=XC.mono (b:=1) (o:=0) (v:=.int .i64 m) ⟨h0,h1⟩ hs;exact⟨this.1,m,this.2⟩
theorem Jy.mono{W W' : World}{S S' : Nat->Prop}(h:Jy W S)(hs:aY W S W' S'):Jy W' S' := by
 obtain⟨h0,h1,h2,h3,h4,h5⟩:=h;have g:∀ o v,W.cell? ⟨2,o,none⟩=some v->W'.cell? ⟨2,o,none⟩=some v/\S' 2:=λo v hv=>by
  have:=XC.mono (b:=2) (o:=o) (v:=v) ⟨h0,hv⟩ hs;exact⟨this.2,this.1⟩
 exact⟨(g _ _ h1).2,(g _ _ h1).1,(g _ _ h2).1,(g _ _ h3).1,(g _ _ h4).1,(g _ _ h5).1⟩
def fg(W:World)(S:Nat->Prop):Prop:=AM W S/\Jy W S
theorem fg.mono{W W' : World}{S S' : Nat->Prop}(h:fg W S)(hs:aY W S W' S'):fg W' S' := ⟨h.1.mono hs,h.2.mono hs⟩
theorem fg.fR{W w:World}{bs fp:List Nat}(h:fg W (Out bs))(hk:LE.an W bs w)(hm:∀ b∈fp,W.heap.size<=b\/b∈bs):fg w (Out fp):=
 h.mono λb hb hs=>⟨hk.block b hb hs,λhb' => (hm b hb').elim (λg=>absurd g (Nat.not_le.2 hb)) hs⟩
def adY:a7 prog 213 where
 pre:=λW bs=>λ| [.val (.string s),.val (.string p)]=>s.size<4294967281/\AM W (Out bs)|_=>False
 res:=λW=>λ| [.val (.string s),.val (.string p)]=>.bool (Lib.contains s.data.toList p.data.toList)|_=>undef
 enters:=call213
 ok:=by
  intro W w bs us as_ hk hu hp;split at hp
  ·rename_i s p
   match us,hu with
   |[u0,u1],hu=>
    obtain⟨rfl,rfl,_⟩:=hu;obtain⟨m,hm⟩:=(hp.2.mono (S' := Out []) (λb hb hs=>⟨hk.block b hb hs,by simp[Out]⟩)).2;exact (Tryz.strings_Contains s p m w hp.1 hm).mono λe w' ⟨he,hw⟩=>⟨he,by rw[hw];exact LE.an.refl w []⟩
  ·exact hp.elim
theorem Yk(W:World)(s:ByteArray)(p:ByteArray):adY.res W [.val (.string s),.val (.string p)]=.bool (Lib.contains s.data.toList p.data.toList):=rfl
theorem Yj(W:World)(bs:List Nat)(s:ByteArray)(p:ByteArray):adY.pre W bs [.val (.string s),.val (.string p)]=(s.size<4294967281/\AM W (Out bs)):=rfl
noncomputable def iU:Env prog:=⟨λ| 213=>some adY.spec|_=>none,λ| _=>none,λ_ _=>none⟩
theorem acx:iU.sp 213=some adY.spec:=rfl
def lx:=(ae @List.replicate_succ.{0} @List.replicate_zero.{0} @au @ab kQ kS kU (ae dc dd de df dv dw dz (ae dA eB eC eD eE eF eG (ae abJ abK abL abM @aV @aw @aD (fJ @aG @Yk @Yj acx)))))
theorem aas(s:ByteArray)(w:World)(hg:fg w (Out [])):Calls prog 171 #[.string s] w λe w' => e=.returned (.int .i64 (Nf s))/\LE.an w [] w' := by
 obtain⟨h0,h1,h2,h3,h4,h5⟩:=hg.2;refine ak (nt:=28) [.tmp 2] func171 rfl rfl rfl ?_;refine vR iU lx ?_;refine Wp.seq ?_;refine vR iU (sK lx h1 h2 h3 h4 h5) ?_;refine Wp.block ?_
 refine Wp.loop (λk:Nat=>⟨20,ee [(0,.is (.v (.string s))),(5,.is (.agg [.v (.string (yt 0)),.v (.string (yt 1)),.v (.string (yt 2)),.v (.string (yt 3)),.v (.string (yt 4))])),(6,.is (.v (.int .i64 (k:Nat))))],dP []⟩) (λk=>k<=5/\∀ i<k,rkB s i=false) (λk=>5-k) 0 ?_ ⟨dE,λi h=>by omega⟩ ?_
 ·exact wM (λk=>.key k) (aa lx @Int.natCast_zero)
 rintro k ⟨k1,k2⟩;refine vR iU lx ?_;refine Wp.seq ?_;refine wC lx (λhc=>?_) (λhc=>?_)
 ·have hk:k<5:=by
   simp at hc;omega
  clear hc;have wk:IntKind.i64.wrap ((k:Int)+1)=((k+1:Nat):Int):=wW;refine wK ?_;refine Wp.seq (Wp.block ?_)
  refine hH ⟨40,ee [(3,.is (.v (.int .i64 (k:Nat)))),(4,.is (.v (.string (yt k)))),(0,.is (.v (.string s))),(5,.is (.agg [.v (.string (yt 0)),.v (.string (yt 1)),.v (.string (yt 2)),.v (.string (yt 3)),.v (.string (yt 4))])),(6,.is (.v (.int .i64 (k:Nat))))],dP []⟩ ?_ ?_
  ·have e0:((0:Nat):Int)=0:=rfl;have e1:((1:Nat):Int)=1:=rfl;have e2:((2:Nat):Int)=2:=rfl;have e3:((3:Nat):Int)=3:=rfl;have e4:((4:Nat):Int)=4:=rfl;rcases (show k=0\/k=1\/k=2\/k=3\/k=4 by omega) with rfl|rfl|rfl|rfl|rfl
   ·skip;refine wr iU (aa lx e0) ?_ ?_
    ·first|trivial|decide|omega
    exact wM (λk=>.key k) (aa lx e0)
   ·skip;refine wr iU (aa lx e1) ?_ ?_
    ·first|trivial|decide|omega
    exact wM (λk=>.key k) (aa lx e1)
   ·skip;refine wr iU (aa lx e2) ?_ ?_
    ·first|trivial|decide|omega
    exact wM (λk=>.key k) (aa lx e2)
   ·skip;refine wr iU (aa lx e3) ?_ ?_
    ·first|trivial|decide|omega
    exact wM (λk=>.key k) (aa lx e3)
   ·skip;refine wr iU (aa lx e4) ?_ ?_
    ·first|trivial|decide|omega
    exact wM (λk=>.key k) (aa lx e4)
  have hz:(yt k).size<4294967281:=by
   unfold yt;split<;>decide
  have hb:rkB s k=((!decide (s=⟨#[]⟩)&&Lib.contains (yt k).data.toList s.data.toList)&&(decide ((s.size:Int)=2)||!decide (yt k=⟨#[62,62]⟩))):=rfl;generalize yt k=p at *;refine wR iU lx ?_ ?_
  ·exact λ_=>⟨hz,hg.1⟩
  refine wC lx (λhc=>?_) (λhc=>?_)
  ·have e:Nf s=(k:Nat):=by
    unfold Nf;rw[Uf (rkB s) 5 k hk k2 (hb.trans hc)]
   rw[e];refine vR iU lx ?_;refine wZ lx ?_;exact λE=>rfl
  refine wK ?_;refine vr iU (aa lx wk) ?_;refine⟨k+1,⟨oM,λi hi=>?_⟩,oM,?_⟩
  ·rcases Nat.lt_or_ge i k with h|h
   ·exact k2 i h
   ·obtain rfl:i=k:=oM;rw[hb];exact hc
  ·exact wM (λk=>.key k) lx
 ·have hk:k=5:=by
   simp at hc;omega
  subst hk;have e:Nf s=-1:=by
   unfold Nf;rw[Ki (rkB s) 5 k2]
  rw[e];refine wE ?_;refine vR iU lx ?_;refine wZ lx ?_;exact λE=>rfl
def FH:a7 prog 171 where
 pre:=λW bs=>λ| [.val (.string s)]=>fg W (Out bs)|_=>False
 res:=λW=>λ| [.val (.string s)]=>.int .i64 (Nf s)|_=>undef
 enters:=call171
 ok:=by
  intro W w bs us as_ hk hu hp;split at hp
  ·rename_i s
   match us,hu with
   |[u0],hu=>
    obtain⟨rfl,_⟩:=hu;exact aas s w (hp.mono (λb hb hs=>⟨hk.block b hb hs,by simp[Out]⟩))
  ·exact hp.elim
theorem yr(W:World)(s:ByteArray):FH.res W [.val (.string s)]=.int .i64 (Nf s):=rfl
theorem yq(W:World)(bs:List Nat)(s:ByteArray):FH.pre W bs [.val (.string s)]=(fg W (Out bs)):=rfl
def eK:=(bw lx @yr @yq)
theorem Tu(s:ByteArray)(w:World):Calls prog 112 #[.string s] w λe w' => e=.returned (.int .i64 (oq s))/\LE.an w [] w' := by
 refine ak (nt:=19) [.tmp 2] func112 rfl rfl rfl ?_;refine vR iU eK ?_;refine Wp.seq ?_;refine vR iU eK ?_;refine Wp.block ?_
 refine hH ⟨60,ee [(0,.is (.v (.string s))),(3,.is (.v (.string s))),(4,.is (.v (.bool (decide (s=⟨#[99,111,112,121]⟩\/s=⟨#[107,101,121]⟩\/s=⟨#[105,110,115]⟩\/s=⟨#[105,100]⟩\/s=⟨#[102,111,108,100]⟩)))))],dP []⟩ ?_ ?_
 ·skip;refine vR iU eK ?_;refine wC eK (λhc=>?_) (λhc=>?_)
  ·have h:s=⟨#[99,111,112,121]⟩:=of_decide_eq_true hc;have e:decide (s=⟨#[99,111,112,121]⟩\/s=⟨#[107,101,121]⟩\/s=⟨#[105,110,115]⟩\/s=⟨#[105,100]⟩\/s=⟨#[102,111,108,100]⟩)=true:=decide_eq_true (Or.inl h);refine wK ?_;exact wM (λk=>.key k) (bw eK e hc)
  have n0:¬ s=⟨#[99,111,112,121]⟩:=of_decide_eq_false hc;clear hc;refine vR iU eK ?_;refine wC eK (λhc=>?_) (λhc=>?_)
  ·have h:s=⟨#[107,101,121]⟩:=of_decide_eq_true hc;have e:decide (s=⟨#[99,111,112,121]⟩\/s=⟨#[107,101,121]⟩\/s=⟨#[105,110,115]⟩\/s=⟨#[105,100]⟩\/s=⟨#[102,111,108,100]⟩)=true:=decide_eq_true (Or.inr (Or.inl h));refine wK ?_;exact wM (λk=>.key k) (bw eK e hc)
  have n1:¬ s=⟨#[107,101,121]⟩:=of_decide_eq_false hc;clear hc;refine vR iU eK ?_;refine wC eK (λhc=>?_) (λhc=>?_)
  ·have h:s=⟨#[105,110,115]⟩:=of_decide_eq_true hc;have e:decide (s=⟨#[99,111,112,121]⟩\/s=⟨#[107,101,121]⟩\/s=⟨#[105,110,115]⟩\/s=⟨#[105,100]⟩\/s=⟨#[102,111,108,100]⟩)=true:=decide_eq_true (Or.inr (Or.inr (Or.inl h)));refine wK ?_;exact wM (λk=>.key k) (bw eK e hc)
  have n2:¬ s=⟨#[105,110,115]⟩:=of_decide_eq_false hc;clear hc;refine vR iU eK ?_;refine wC eK (λhc=>?_) (λhc=>?_)
  ·have h:s=⟨#[105,100]⟩:=of_decide_eq_true hc;have e:decide (s=⟨#[99,111,112,121]⟩\/s=⟨#[107,101,121]⟩\/s=⟨#[105,110,115]⟩\/s=⟨#[105,100]⟩\/s=⟨#[102,111,108,100]⟩)=true:=decide_eq_true (Or.inr (Or.inr (Or.inr (Or.inl h))));refine wK ?_;exact wM (λk=>.key k) (bw eK e hc)
  have n3:¬ s=⟨#[105,100]⟩:=of_decide_eq_false hc;clear hc
  have e:decide (s=⟨#[99,111,112,121]⟩\/s=⟨#[107,101,121]⟩\/s=⟨#[105,110,115]⟩\/s=⟨#[105,100]⟩\/s=⟨#[102,111,108,100]⟩)=decide (s=⟨#[102,111,108,100]⟩):=by simp only[eq_false n0,false_or,eq_false n1,false_or,eq_false n2,false_or,eq_false n3,false_or]
  refine vr iU eK ?_;exact wM (λk=>.key k) (aa eK e)
 refine wC eK (λhc=>?_) (λhc=>?_)
 ·have h:s=⟨#[99,111,112,121]⟩\/s=⟨#[107,101,121]⟩\/s=⟨#[105,110,115]⟩\/s=⟨#[105,100]⟩\/s=⟨#[102,111,108,100]⟩:=of_decide_eq_true hc;have e:oq s=1:=by unfold oq;rw[if_pos h]
  rw[e];refine vR iU eK ?_;refine wZ eK ?_;exact λE=>rfl
 have m1:¬ (s=⟨#[99,111,112,121]⟩\/s=⟨#[107,101,121]⟩\/s=⟨#[105,110,115]⟩\/s=⟨#[105,100]⟩\/s=⟨#[102,111,108,100]⟩):=of_decide_eq_false hc;clear hc
 refine hH ⟨60,ee [(0,.is (.v (.string s))),(3,.is (.v (.string s))),(10,.is (.v (.bool (decide (s=⟨#[100,101,108]⟩\/s=⟨#[108,101,102,116]⟩\/s=⟨#[114,105,103,104,116]⟩\/s=⟨#[100,101,102,97,117,108,116]⟩)))))],dP []⟩ ?_ ?_
 ·skip;refine vR iU eK ?_;refine wC eK (λhc=>?_) (λhc=>?_)
  ·have h:s=⟨#[100,101,108]⟩:=of_decide_eq_true hc;have e:decide (s=⟨#[100,101,108]⟩\/s=⟨#[108,101,102,116]⟩\/s=⟨#[114,105,103,104,116]⟩\/s=⟨#[100,101,102,97,117,108,116]⟩)=true:=decide_eq_true (Or.inl h);refine wK ?_;exact wM (λk=>.key k) (bw eK e hc)
  have n0:¬ s=⟨#[100,101,108]⟩:=of_decide_eq_false hc;clear hc;refine vR iU eK ?_;refine wC eK (λhc=>?_) (λhc=>?_)
  ·have h:s=⟨#[108,101,102,116]⟩:=of_decide_eq_true hc;have e:decide (s=⟨#[100,101,108]⟩\/s=⟨#[108,101,102,116]⟩\/s=⟨#[114,105,103,104,116]⟩\/s=⟨#[100,101,102,97,117,108,116]⟩)=true:=decide_eq_true (Or.inr (Or.inl h));refine wK ?_;exact wM (λk=>.key k) (bw eK e hc)
  have n1:¬ s=⟨#[108,101,102,116]⟩:=of_decide_eq_false hc;clear hc;refine vR iU eK ?_;refine wC eK (λhc=>?_) (λhc=>?_)
  ·have h:s=⟨#[114,105,103,104,116]⟩:=of_decide_eq_true hc;have e:decide (s=⟨#[100,101,108]⟩\/s=⟨#[108,101,102,116]⟩\/s=⟨#[114,105,103,104,116]⟩\/s=⟨#[100,101,102,97,117,108,116]⟩)=true:=decide_eq_true (Or.inr (Or.inr (Or.inl h)));refine wK ?_;exact wM (λk=>.key k) (bw eK e hc)
  have n2:¬ s=⟨#[114,105,103,104,116]⟩:=of_decide_eq_false hc;clear hc
  have e:decide (s=⟨#[100,101,108]⟩\/s=⟨#[108,101,102,116]⟩\/s=⟨#[114,105,103,104,116]⟩\/s=⟨#[100,101,102,97,117,108,116]⟩)=decide (s=⟨#[100,101,102,97,117,108,116]⟩):=by simp only[eq_false n0,false_or,eq_false n1,false_or,eq_false n2,false_or]
  refine vr iU eK ?_;exact wM (λk=>.key k) (aa eK e)
 refine wC eK (λhc=>?_) (λhc=>?_)
 ·have h:s=⟨#[100,101,108]⟩\/s=⟨#[108,101,102,116]⟩\/s=⟨#[114,105,103,104,116]⟩\/s=⟨#[100,101,102,97,117,108,116]⟩:=of_decide_eq_true hc;have e:oq s=2:=by unfold oq;rw[if_neg m1,if_pos h]
  rw[e];refine vR iU eK ?_;refine wZ eK ?_;exact λE=>rfl
 have m2:¬ (s=⟨#[100,101,108]⟩\/s=⟨#[108,101,102,116]⟩\/s=⟨#[114,105,103,104,116]⟩\/s=⟨#[100,101,102,97,117,108,116]⟩):=of_decide_eq_false hc;clear hc;refine vR iU eK ?_;refine wC eK (λhc=>?_) (λhc=>?_)
 ·have h:s=⟨#[110,111,114,109]⟩:=of_decide_eq_true hc;have e:oq s=3:=by unfold oq;rw[if_neg m1,if_neg m2,if_pos h]
  rw[e];refine vR iU eK ?_;refine wZ eK ?_;exact λE=>rfl
 have m3:¬ s=⟨#[110,111,114,109]⟩:=of_decide_eq_false hc;clear hc;refine vR iU eK ?_;refine wC eK (λhc=>?_) (λhc=>?_)
 ·have h:s=⟨#[108,101,116]⟩:=of_decide_eq_true hc;have e:oq s=-1:=by unfold oq;rw[if_neg m1,if_neg m2,if_neg m3,if_pos h]
  rw[e];refine vR iU eK ?_;refine wZ eK ?_;exact λE=>rfl
 have m4:¬ s=⟨#[108,101,116]⟩:=of_decide_eq_false hc;have e:oq s=0:=by unfold oq;rw[if_neg m1,if_neg m2,if_neg m3,if_neg m4]
 rw[e];refine wK ?_;refine vR iU eK ?_;refine wZ eK ?_;exact λE=>rfl
def xE:a7 prog 112 where
 pre:=λW bs=>λ| [.val (.string s)]=>True|_=>False
 res:=λW=>λ| [.val (.string s)]=>.int .i64 (oq s)|_=>undef
 enters:=call112
 ok:=by
  intro W w bs us as_ hk hu hp;split at hp
  ·rename_i s
   match us,hu with
   |[u0],hu=>
    obtain⟨rfl,_⟩:=hu;exact Tu s w
  ·exact hp.elim
theorem pq(W:World)(s:ByteArray):xE.res W [.val (.string s)]=.int .i64 (oq s):=rfl
theorem po(W:World)(bs:List Nat)(s:ByteArray):xE.pre W bs [.val (.string s)]=(True):=rfl
structure Pb where
 b:Nat
 o:Nat
 c:Nat
 L:List Tk
def Pb.at(q:Pb)(r:List Tk):Nat:=q.o+3*(q.L.length-r.length)
def Pb.sl(q:Pb)(r:List Tk):Value:=.slice (some ⟨q.b,q.at r,none⟩) r.length (q.c-(q.L.length-r.length))
def oR(q:Pb)(r:List Tk)(op:Nat):List AV:=[.val (q.sl r),.val (.int .i64 (op:Nat))]
def Pb.ok(q:Pb)(W:World)(S:Nat->Prop):Prop:=jN W S (some ⟨q.b,q.o,none⟩) (xx q.L)/\q.L.length<=q.c/\q.L.length<=1000000
theorem Pb.ok.BW{q:Pb}{W W' : World}{S S' : Nat->Prop}(h:q.ok W S)(hs:aY W S W' S'):q.ok W' S' := ⟨h.1.mono hs,h.2⟩
def tkU(t:Tk):Value:=.agg #[.int .i64 t.1,.int .i64 (t.2.1:Nat),.string t.2.2]
theorem Mb{W:World}{S:Nat->Prop}{b o:Nat}:∀ {L:List Tk} {r:List Tk},jN W S (some ⟨b,o,none⟩) (xx L)->r <:+ L->r≠[] ->
  W.cell? ⟨b,o+3*(L.length-r.length),none⟩=some (.int .i64 (pk r).1)/\W.cell? ⟨b,o+3*(L.length-r.length)+1,none⟩=some (.int .i64 ((pk r).2.1:Nat))/\W.cell? ⟨b,o+3*(L.length-r.length)+1+1,none⟩=some (.string (pk r).2.2):=by
 intro L r h hr hne;obtain⟨p,rfl⟩:=hr;obtain⟨t,r,rfl⟩:∃ t r',r=t::r' := by
  cases r with
  |nil=>exact absurd rfl hne
  |cons t r=>exact⟨t,r,rfl⟩
 have hl:(p++t::r).length-(t::r).length=p.length:=by
  rw[List.length_append];omega
 rw[hl];have hv:xx (p++t::r)=xx p++([.int .i64 t.1,.int .i64 (t.2.1:Nat),.string t.2.2]++xx r):=by
  unfold xx;rw[List.flatMap_append,List.flatMap_cons]
 have hp:=wD p;rw[hv]at h;rcases h with h|⟨b',o',he,hc⟩
 ·exact absurd (congrArg List.length h) sI
 ·cases he;have g:∀ j v,([.int .i64 t.1,.int .i64 (t.2.1:Nat),.string t.2.2]:List Value)[j]?=some v->W.cell? ⟨b,o+(3*p.length+j),none⟩=some v:=λj v hv=>by
   have hj:j<3:=by
    rcases Nat.lt_or_ge j 3 with h|h
    ·exact h
    ·rw[List.getElem?_eq_none (by simpa using h)]at hv;cases hv
   have:=(hc (3*p.length+j) (by rw[List.length_append,List.length_append,hp];simp only[List.length_cons,List.length_nil];omega)).2;rw[this]
   congr 1
   have h2:(xx p++([.int .i64 t.1,.int .i64 (t.2.1:Nat),.string t.2.2]++xx r))[3*p.length+j]?=some v:=by
    rw[List.getElem?_append_right oM,hp,show 3*p.length+j-p.length*3=j by omega,List.getElem?_append_left (by simpa using hj)];exact hv
   rw[List.getElem?_eq_getElem (by rw[List.length_append,List.length_append,hp];simp only[List.length_cons,List.length_nil];omega)]at h2;exact Option.some.inj h2
  refine⟨?_,?_,?_⟩
  ·have:=g 0 _ rfl
   rwa [Nat.add_zero]at this
  ·exact g 1 _ rfl
  ·exact g 2 _ rfl
theorem FF{w:World}{u:Value}{fp:List Nat}{q:Pb}{r:List Tk}{op:Nat}(h:aW w u fp 143 (oR q r op)) :
  ∃ b,u=.pointer (some ⟨b,0,none⟩)/\w.cell? ⟨b,0,none⟩=some (q.sl r)/\w.cell? ⟨b,0+1,none⟩=some (.int .i64 (op:Nat)):=by
 obtain⟨b,us,h1,h2,h3⟩:=yg h
 match us,h2 with
 |[x,y],h2=>
  obtain⟨rfl,rfl,_⟩:=h2;exact⟨b,h1,h3 0 sI,h3 1 sI⟩
def adI:=(ae @List.replicate_succ.{0} @List.replicate_zero.{0} @au @ab kQ kS kU (ae dc dd de df dv dw dz (ae dA eB eC eD eE eF eG (ae Jh Ji Jj Jk n8 oa ob (ae oc uK uL uM uN uO uP (ae uQ uR uS uT Iz IA IB (ae IC uz uA uB uC uD uE (ae uF uG uH uI uJ qs qt (ae qu qv qw qx qy qz @aV (bw @aw @aD @aG))))))))))
theorem Gm(q:Pb)(r:List Tk)(b:Nat)(w:World)(hq:q.ok w (Out []))(hr:r <:+ q.L)(hne:r≠[])(g1:w.cell? ⟨b,0,none⟩=some (q.sl r)) :
  Calls prog 110 #[.pointer (some ⟨b,0,none⟩)] w λe w' => e=.returned (tkU (pk r))/\an w [] w' := by
 obtain⟨x1,x2,x3⟩:=Mb hq.1 hr hne;have hat:q.o+3*(q.L.length-r.length)=q.at r:=rfl;rw[hat]at x1 x2 x3;unfold Pb.sl at g1;have hl:0<r.length:=by
  rcases r with _|⟨t,r⟩
  ·exact absurd rfl hne
  ·simp
 refine ak (nt:=9) [.cell 2 225] func110 rfl rfl rfl ?_;refine vR Γ0 adI ?_;refine wR Γ0 (qE adI g1 x1 x2 x3) ?_ ?_
 ·omega
 refine wZ adI ?_;exact λE=>rfl
def Pb.st(q:Pb)(W:World)(S:Nat->Prop)(r:List Tk):Prop:=q.ok W S/\r <:+ q.L/\jQ r
theorem Pb.st.bU{q:Pb}{r:List Tk}{W W' : World}{S S' : Nat->Prop}(h:q.st W S r)(hs:aY W S W' S'):q.st W' S' r:=⟨h.1.BW hs,h.2⟩
def fV(q:Pb)(r:List Tk)(op:Nat):y8 prog 110 where
 T:=143
 pre:=λW bs fs as_=>(fs=oR q r op/\as_=[])/\q.st W (Out bs) r
 res:=λW fs as_=>tkU (pk r)
 enters:=call110
 ok:=by
  intro W w bs u fp us fs as_ hk ho hu hp;obtain⟨⟨rfl,rfl⟩,h1,h2,h3⟩:=hp
  match us,hu with
  |[],_=>
   obtain⟨b,rfl,g1,g2⟩:=FF ho;exact Gm q r b w (h1.BW λb hb hs=>⟨hk.block b hb hs,by simp[Out]⟩) h2 h3.ne g1
def Q5(q:Pb)(r:List Tk)(b:Nat):a7 prog 110 where
 pre:=λW bs as_=>as_=[.val (.pointer (some ⟨b,0,none⟩))]/\(b∉bs/\W.cell? ⟨b,0,none⟩=some (q.sl r))/\q.st W (Out bs) r
 res:=λW as_=>tkU (pk r)
 enters:=call110
 ok:=by
  intro W w bs us as_ hk hu hp;obtain⟨rfl,⟨g0,g1⟩,h1,h2,h3⟩:=hp
  match us,hu with
  |[x],hu=>
   obtain⟨rfl,_⟩:=hu;have hs:aY W (Out bs) w (Out []):=λb hb hs=>⟨hk.block b hb hs,by simp[Out]⟩
   exact Gm q r b w (h1.BW hs) h2 h3.ne (XC.mono (b:=b) (o:=0) ⟨g0,g1⟩ hs).2
section
variable (q:Pb)(r:List Tk)(b:Nat)
noncomputable def ami:Env prog:=⟨λ| 110=>some (Q5 q r b).spec|_=>none,λ_=>none,λ_ _=>none⟩
theorem acy:(ami q r b).sp 110=some (Q5 q r b).spec:=rfl
end
def adJ:=(qE adI @acy @Q5.eq_1 @oR.eq_1 @tkU.eq_1)
theorem agb(q:Pb)(r:List Tk)(m:ByteArray)(b:Nat)(w:World)(hq:q.st w (Out []) r)(g1:w.cell? ⟨b,0,none⟩=some (q.sl r)) :
  Calls prog 169 #[.pointer (some ⟨b,0,none⟩),.string m] w λe w' => e=.returned (.bool (eU r m))/\an w [] w' := by
 have hb:b∉([]:List Nat):=by simp
 refine ak (nt:=16) [.tmp 4] func169 rfl rfl rfl ?_;refine vR Γ0 adJ ?_;refine wR (ami q r b) adJ ?_ ?_
 ·exact⟨⟨g1,hq⟩,λ_=>⟨g1,hq⟩⟩
 refine wZ adJ ?_;exact λE=>rfl
def uV(q:Pb)(r:List Tk)(op:Nat):y8 prog 169 where
 T:=143
 pre:=λW bs fs as_=>(fs=oR q r op/\∃ m,as_=[.val (.string m)])/\q.st W (Out bs) r
 res:=λW fs as_=>match as_ with
  |[.val (.string m)]=>.bool (eU r m)
  |_=>undef
 enters:=call169
 ok:=by
  intro W w bs u fp us fs as_ hk ho hu hp;obtain⟨⟨rfl,m,rfl⟩,h1⟩:=hp
  match us,hu with
  |[x],hu=>
   obtain⟨rfl,_⟩:=hu;obtain⟨b,rfl,g1,g2⟩:=FF ho;exact agb q r m b w (h1.bU λb hb hs=>⟨hk.block b hb hs,by simp[Out]⟩) g1
section
variable (q:Pb)(r:List Tk)(op:Nat)
noncomputable def akN:Env prog:=⟨λ| 110=>some (fV q r op).spec|169=>some (uV q r op).spec|_=>none,λ_=>none,λ_ _=>none⟩
theorem acz:(akN q r op).sp 110=some (fV q r op).spec:=rfl
theorem acA:(akN q r op).sp 169=some (uV q r op).spec:=rfl
end
theorem adD{q:Pb}{r:List Tk}(hr:r <:+ q.L)(h:jQ r)(hk:(pk r).1≠0):q.at r+3=q.at r.tail/\r.length-1=r.tail.length/\(q.c-(q.L.length-r.length))-1=q.c-(q.L.length-r.tail.length):=by
 have h1:=h.pos;have h2:=hr.length_le;have h3:=List.length_tail (l:=r);unfold Pb.at;refine⟨oM,oM,oM⟩
def JN:=(qE adJ @acz @acA @fV.eq_1 @uV.eq_1)
theorem Xc(q:Pb)(r:List Tk)(op:Nat)(u:Value)(fp:List Nat)(w:World)(hq:q.st w (Out fp) r)(hk:(pk r).1≠0)(ho:aW w u fp 143 (oR q r op))(hlt:∀ b∈fp,b<w.heap.size) :
  Calls prog 111 (#[u]++#[]) w λx w' => dH w u fp 143 x w' (.ret (tkU (pk r)) (oR q r.tail op)):=by
 obtain⟨h1,h2,h3⟩:=hq;obtain⟨x1,x2,x3⟩:=Mb h1.1 h2 h3.ne;have hat:q.o+3*(q.L.length-r.length)=q.at r:=rfl;rw[hat]at x1 x2 x3;obtain⟨n1,n2,n3⟩:=adD h2 h3 hk;have hl:=h3.pos;have hle:=h2.length_le;have hc:=h1.2.1;have hout:¬ q.b∈fp:=by
  rcases h1.1 with h|⟨b',o',he,hx⟩
  ·have:=wD q.L;rw[h]at this;simp at this;omega
  ·cases he;exact (hx 0 (by rw[wD];omega)).1
 have hsl:Ia (some ⟨q.b,q.at r,none⟩) 1 3 (q.c-(q.L.length-r.length))=some ⟨q.b,q.at r.tail,none⟩:=by
  have:=(h3.tail hk).1.pos;unfold Ia;rw[if_neg oM,<- n1];rfl
 refine aN (nt:=19) #[] [.cell 2 225] (by show 2<=7;omega) ho hlt func111 rfl rfl rfl ?_;refine vR Γ0 (aa JN @Pb.sl.eq_1) ?_;refine wR Γ0 (qE JN x1 x2 x3 @Pb.sl.eq_1) ?_ ?_
 ·exact⟨oM,hout⟩
 refine wR Γ0 (aa JN @Pb.sl.eq_1) ?_ ?_
 ·exact⟨oM,oM⟩
 refine vR Γ0 (aa JN @Pb.sl.eq_1) ?_;refine wZ (qE JN @Pb.sl.eq_1 hsl n2 n3) ?_;exact⟨_,_,rfl,λE=>rfl,_,_,rfl,(ev (aa JN @aq)),dE⟩
def hJ(q:Pb)(r:List Tk)(op:Nat):bJ prog 111 where
 T:=143
 pre:=λW bs fs as_=>(fs=oR q r op/\as_=[])/\q.st W (Out bs) r/\(pk r).1≠0
 out:=λW fs as_=>.ret (tkU (pk r)) (oR q r.tail op)
 enters:=call111
 ok:=by
  intro W w bs u fp us fs as_ hk ho hlt hmine hu hp;obtain⟨⟨rfl,rfl⟩,h1,h2⟩:=hp
  match us,hu with
  |[],_=>
   exact Xc q r op u fp w (h1.bU λb hb hs=>⟨hk.block b hb hs,λhb' => (hmine b hb').elim (λg=>absurd g (Nat.not_le.2 hb)) hs⟩) h2 ho hlt
def Xv(c:Int)(r:List Tk):List PanicEntry:=bb c ((pk r).2.1:Nat)
theorem Xb(q:Pb)(r:List Tk)(op:Nat)(c:Int)(u:Value)(fp:List Nat)(w:World)(hq:q.st w (Out fp) r)(ho:aW w u fp 143 (oR q r op))(hlt:∀ b∈fp,b<w.heap.size) :
  Calls prog 113 (#[u]++#[.int .i64 c]) w λx w' => dH w u fp 143 x w' (.pan (Xv c r) (.tuple #[])):=by
 refine aN (nt:=10) #[.int .i64 c] [] (by show 2<=7;omega) ho hlt func113 rfl rfl rfl ?_;refine Wp.dF (akN q r op) aM (ev (fJ JN @Xv.eq_1 @bb.eq_1 @pg.eq_1)) ?_ ?_
 ·exact⟨dE,hq⟩
 refine qq ?_;exact⟨_,rfl⟩
def oe(q:Pb)(r:List Tk)(op:Nat):bJ prog 113 where
 T:=143
 pre:=λW bs fs as_=>(fs=oR q r op/\∃ c,as_=[.val (.int .i64 c)])/\q.st W (Out bs) r
 out:=λW fs as_=>match as_ with
  |[.val (.int _ c)]=>.pan (Xv c r) (.tuple #[])
  |_=>.pan [] undef
 enters:=call113
 ok:=by
  intro W w bs u fp us fs as_ hk ho hlt hmine hu hp;obtain⟨⟨rfl,c,rfl⟩,h1⟩:=hp
  match us,hu with
  |[x],hu=>
   obtain⟨rfl,_⟩:=hu;exact Xb q r op c u fp w (h1.bU λb hb hs=>⟨hk.block b hb hs,λhb' => (hmine b hb').elim (λg=>absurd g (Nat.not_le.2 hb)) hs⟩) ho hlt
section
variable (q:Pb)(r:List Tk)(op:Nat)
noncomputable def Q6:Env prog:=⟨λ| 110=>some (fV q r op).spec|169=>some (uV q r op).spec|111=>some (hJ q r op).spec|113=>some (oe q r op).spec|_=>none,λ_=>none,λ_ _=>none⟩
theorem acB:(Q6 q r op).sp 110=some (fV q r op).spec:=rfl
theorem acE:(Q6 q r op).sp 169=some (uV q r op).spec:=rfl
theorem acC:(Q6 q r op).sp 111=some (hJ q r op).spec:=rfl
theorem acD:(Q6 q r op).sp 113=some (oe q r op).spec:=rfl
end
def eH(q:Pb)(r:List Tk)(op op' : Nat)(m:ByteArray):BOut:=if eU r m=true then .ret (.tuple #[]) (oR q r.tail op') else .pan (Xv 60 r) (.tuple #[])
def Nu:=(EP JN @acB @acE @acC @acD @hJ.eq_1 @oe.eq_1)
theorem Xd(q:Pb)(r:List Tk)(op:Nat)(m:ByteArray)(u:Value)(fp:List Nat)(w:World)(hq:q.st w (Out fp) r)(ho:aW w u fp 143 (oR q r op))(hlt:∀ b∈fp,b<w.heap.size) :
  Calls prog 114 (#[u]++#[.string m]) w λx w' => dH w u fp 143 x w' (eH q r op op m):=by
 refine aN (nt:=12) #[.string m] [] (by show 2<=7;omega) ho hlt func114 rfl rfl rfl ?_;refine Wp.seq ?_;refine wR (Q6 q r op) Nu ?_ ?_
 ·exact⟨dE,⟨_,rfl⟩,hq⟩
 refine wC Nu (λhc=>?_) (λhc=>?_)
 ·have h:¬ eU r m=true:=by simpa using hc
  rw[eH,if_neg h];refine Wp.dF (Q6 q r op) aM (ev Nu) ?_ ?_
  ·exact⟨⟨⟨_,rfl⟩,hq⟩,dE,λ_ h=>h.elim⟩
  refine qq ?_;exact⟨_,rfl⟩
 have h:eU r m=true:=by simpa using hc
 rw[eH,if_pos h];refine wK ?_;refine wr (Q6 q r op) Nu ?_ ?_
 ·exact⟨⟨hq,gY h⟩,dE,λ_ h=>h.elim⟩
 refine wS Nu ?_;exact⟨_,_,rfl,λE=>rfl,_,_,rfl,(ev (aa Nu @aq)),dE⟩
theorem Zl{q:Pb}{r:List Tk}{W w:World}{bs fp:List Nat}(h:q.st W (Out bs) r)(hk:LE.an W bs w)(hm:∀ b∈fp,W.heap.size<=b\/b∈bs):q.st w (Out fp) r:=
 h.bU λb hb hs=>⟨hk.block b hb hs,λhb' => (hm b hb').elim (λg=>absurd g (Nat.not_le.2 hb)) hs⟩
def sF(q:Pb)(r:List Tk)(op:Nat):bJ prog 114 where
 T:=143
 pre:=λW bs fs as_=>(fs=oR q r op/\∃ m,as_=[.val (.string m)])/\q.st W (Out bs) r
 out:=λW fs as_=>match as_ with
  |[.val (.string m)]=>eH q r op op m
  |_=>.pan [] undef
 enters:=call114
 ok:=by
  intro W w bs u fp us fs as_ hk ho hlt hmine hu hp;obtain⟨⟨rfl,m,rfl⟩,h1⟩:=hp
  match us,hu with
  |[x],hu=>
   obtain⟨rfl,_⟩:=hu;exact Xd q r op m u fp w (Zl h1 hk hmine) ho hlt
section
variable (q:Pb)(r:List Tk)(op:Nat)
noncomputable def y5:Env prog:=⟨λ| 110=>some (fV q r op).spec|169=>some (uV q r op).spec|111=>some (hJ q r op).spec|113=>some (oe q r op).spec|114=>some (sF q r op).spec|112=>some xE.spec|171=>some FH.spec|_=>none,λ_=>none,λ_ _=>none⟩
theorem acF:(y5 q r op).sp 110=some (fV q r op).spec:=rfl
theorem acK:(y5 q r op).sp 169=some (uV q r op).spec:=rfl
theorem acG:(y5 q r op).sp 111=some (hJ q r op).spec:=rfl
theorem acI:(y5 q r op).sp 113=some (oe q r op).spec:=rfl
theorem acJ:(y5 q r op).sp 114=some (sF q r op).spec:=rfl
theorem acH:(y5 q r op).sp 112=some xE.spec:=rfl
theorem acL:(y5 q r op).sp 171=some FH.spec:=rfl
end
def El(q:Pb)(r:List Tk)(op:Nat)(m:ByteArray):BOut:=if eU r m=true/\64<=op then .pan (Xv 23 r) (.tuple #[]) else eH q r op (op+1) m
def xG:=(ae Nu @acF @acK @acG @acI @acJ @acH (sK @acL @sF.eq_1 @pq @po @yr @yq))
theorem Q3(q:Pb)(r:List Tk)(op:Nat)(m:ByteArray)(u:Value)(fp:List Nat)(w:World)(hq:q.st w (Out fp) r)(hop:op<=64)(ho:aW w u fp 143 (oR q r op))(hlt:∀ b∈fp,b<w.heap.size) :
  Calls prog 247 (#[u]++#[.string m]) w λx w' => dH w u fp 143 x w' (El q r op m):=by
 have wo:IntKind.i64.wrap ((op:Int)+1)=((op+1:Nat):Int):=wW;refine aN (nt:=26) #[.string m] [] (by show 2<=7;omega) ho hlt func247 rfl rfl rfl ?_;refine Wp.seq ?_;refine wR (y5 q r op) xG ?_ ?_
 ·exact⟨dE,⟨_,rfl⟩,hq⟩
 refine wC xG (λhc=>?_) (λhc=>?_)
 ·have h:eU r m=true/\64<=op:=by
   simp at hc;exact⟨hc.1,oM⟩
  rw[El,if_pos h];refine Wp.dF (y5 q r op) aM (ev xG) ?_ ?_
  ·exact⟨⟨⟨_,rfl⟩,hq⟩,dE,λ_ h=>h.elim⟩
  refine qq ?_;exact⟨_,rfl⟩
 have h:¬ (eU r m=true/\64<=op):=by
  rintro⟨h1,h2⟩;simp[h1]at hc;omega
 rw[El,if_neg h];refine wK ?_;by_cases hm:eU r m=true
 ·have hw:eH q r op op m=.ret (.tuple #[]) (oR q r.tail op):=by rw[eH,if_pos hm]
  have hw' : eH q r op (op+1) m=.ret (.tuple #[]) (oR q r.tail (op+1)):=by rw[eH,if_pos hm]
  rw[hw'];refine wR (y5 q r op) (aa xG hw) ?_ ?_
  ·exact⟨⟨⟨_,rfl⟩,hq⟩,dE,λ_ h=>h.elim⟩
  refine vr Γ0 (aa xG wo) ?_;refine wS xG ?_;exact⟨_,_,rfl,λE=>rfl,_,_,rfl,(ev (aa xG @aq)),dE⟩
 ·have hw:eH q r op op m=.pan (Xv 60 r) (.tuple #[]):=by rw[eH,if_neg hm]
  have hw' : eH q r op (op+1) m=.pan (Xv 60 r) (.tuple #[]):=by rw[eH,if_neg hm]
  rw[hw'];refine Wp.bn (y5 q r op) aM (ev (aa xG hw)) ?_ ?_
  ·exact⟨⟨⟨_,rfl⟩,hq⟩,dE,λ_ h=>h.elim⟩
  refine qq ?_;exact⟨_,rfl⟩
def xn(q:Pb)(r:List Tk)(op:Nat):bJ prog 247 where
 T:=143
 pre:=λW bs fs as_=>(fs=oR q r op/\∃ m,as_=[.val (.string m)])/\q.st W (Out bs) r/\op<=64
 out:=λW fs as_=>match as_ with
  |[.val (.string m)]=>El q r op m
  |_=>.pan [] undef
 enters:=call247
 ok:=by
  intro W w bs u fp us fs as_ hk ho hlt hmine hu hp;obtain⟨⟨rfl,m,rfl⟩,h1,h2⟩:=hp
  match us,hu with
  |[x],hu=>
   obtain⟨rfl,_⟩:=hu;exact Q3 q r op m u fp w (Zl h1 hk hmine) h2 ho hlt
theorem Q4(q:Pb)(r:List Tk)(op:Nat)(m:ByteArray)(u:Value)(fp:List Nat)(w:World)(hq:q.st w (Out fp) r)(hop:op+1<=64)(ho:aW w u fp 143 (oR q r (op+1)))(hlt:∀ b∈fp,b<w.heap.size) :
  Calls prog 248 (#[u]++#[.string m]) w λx w' => dH w u fp 143 x w' (eH q r (op+1) op m):=by
 have wo:IntKind.i64.wrap (((op+1:Nat):Int)-1)=((op:Nat):Int):=wW;refine aN (nt:=14) #[.string m] [] (by show 2<=7;omega) ho hlt func248 rfl rfl rfl ?_;by_cases hm:eU r m=true
 ·have hw:eH q r (op+1) (op+1) m=.ret (.tuple #[]) (oR q r.tail (op+1)):=by rw[eH,if_pos hm]
  have hw' : eH q r (op+1) op m=.ret (.tuple #[]) (oR q r.tail op):=by rw[eH,if_pos hm]
  rw[hw'];refine wR (y5 q r (op+1)) (aa xG hw) ?_ ?_
  ·exact⟨⟨⟨_,rfl⟩,hq⟩,dE,λ_ h=>h.elim⟩
  refine vr Γ0 (aa xG wo) ?_;refine wS xG ?_;exact⟨_,_,rfl,λE=>rfl,_,_,rfl,(ev (aa xG @aq)),dE⟩
 ·have hw:eH q r (op+1) (op+1) m=.pan (Xv 60 r) (.tuple #[]):=by rw[eH,if_neg hm]
  have hw' : eH q r (op+1) op m=.pan (Xv 60 r) (.tuple #[]):=by rw[eH,if_neg hm]
  rw[hw'];refine Wp.bn (y5 q r (op+1)) aM (ev (aa xG hw)) ?_ ?_
  ·exact⟨⟨⟨_,rfl⟩,hq⟩,dE,λ_ h=>h.elim⟩
  refine qq ?_;exact⟨_,rfl⟩
def xo(q:Pb)(r:List Tk)(op:Nat):bJ prog 248 where
 T:=143
 pre:=λW bs fs as_=>(fs=oR q r (op+1)/\∃ m,as_=[.val (.string m)])/\q.st W (Out bs) r/\op+1<=64
 out:=λW fs as_=>match as_ with
  |[.val (.string m)]=>eH q r (op+1) op m
  |_=>.pan [] undef
 enters:=call248
 ok:=by
  intro W w bs u fp us fs as_ hk ho hlt hmine hu hp;obtain⟨⟨rfl,m,rfl⟩,h1,h2⟩:=hp
  match us,hu with
  |[x],hu=>
   obtain⟨rfl,_⟩:=hu;exact Q4 q r op m u fp w (Zl h1 hk hmine) h2 ho hlt
inductive oh (W:World) (S:Nat->Prop):Bool->List Value->Ex->Prop where
 |name (a:Nat) (s:ByteArray):oh W S true [.iface 205 (.agg #[.int .i64 (a:Nat),.string s])] (.name a s)
 |text (a:Nat) (s:ByteArray):oh W S true [.iface 206 (.agg #[.int .i64 (a:Nat),.string s])] (.text a s)
 |rx (a:Nat) (s:ByteArray):oh W S true [.iface 207 (.agg #[.int .i64 (a:Nat),.string s])] (.rx a s)
 |call (a:Nat) (s:ByteArray) (ao:Option Addr) (c:Nat) (vs:List Value) (l:Ex):jN W S ao vs->vs.length<=c->oh W S false vs l->oh W S true [.iface 219 (.agg #[.int .i64 (a:Nat),.string s,.slice ao vs.length c])] (.call a s l)
 |keyed (a:Nat) (v:Value) (x:Ex):oh W S true [v] x->oh W S true [.iface 209 (.agg #[.int .i64 (a:Nat),v])] (.keyed a x)
 |unary (a:Nat) (s:ByteArray) (v:Value) (x:Ex):oh W S true [v] x->oh W S true [.iface 212 (.agg #[.int .i64 (a:Nat),.string s,v])] (.unary a s x)
 |binary (a:Nat) (s:ByteArray) (v u:Value) (x y:Ex):oh W S true [v] x->oh W S true [u] y->oh W S true [.iface 215 (.agg #[.int .i64 (a:Nat),.string s,v,u])] (.binary a s x y)
 |nil:oh W S false [] .nil
 |cons (v:Value) (vs:List Value) (x l:Ex):oh W S true [v] x->oh W S false vs l->oh W S false (v::vs) (.cons x l)
theorem oh.mono{W W' : World}{S S' : Nat->Prop}{k:Bool}{vs:List Value}{x:Ex}(h:oh W S k vs x)(hs:aY W S W' S'):oh W' S' k vs x:=by
 induction h with
 |name a s=>exact .name a s
 |text a s=>exact .text a s
 |rx a s=>exact .rx a s
 |call a s ao c vs l h1 h2 _ ih=>exact .call a s ao c vs l (h1.mono hs) h2 ih
 |keyed a v x _ ih=>exact .keyed a v x ih
 |unary a s v x _ ih=>exact .unary a s v x ih
 |binary a s v u x y _ _ i1 i2=>exact .binary a s v u x y i1 i2
 |nil=>exact .nil
 |cons v vs x l _ _ i1 i2=>exact .cons v vs x l i1 i2
abbrev AJ (W:World)(S:Nat->Prop)(v:Value)(x:Ex):Prop:=oh W S true [v] x
theorem oh.iface{W:World}{S:Nat->Prop}{v:Value}{x:Ex}(h:AJ W S v x):∃ t u,v=.iface t u:=by
 cases h<;>exact⟨_,_,rfl⟩
theorem oh.one{W:World}{S:Nat->Prop}{v:Value}{x:Ex}(h:AJ W S v x):v.oneCell' = true:=by
 obtain⟨t,u,rfl⟩:=h.iface;rfl
theorem oh.hv{W:World}{S:Nat->Prop}{v:Value}{x:Ex}(h:AJ W S v x):hv v=v:=fE h.one
theorem oh.parts{W:World}{S:Nat->Prop}{v:Value}{x:Ex}(h:AJ W S v x):partsOf (.v v)=[.v v]:=by
 obtain⟨t,u,rfl⟩:=h.iface;rfl
def exF(x:Ex):FK:=⟨λcs W S=>∃ v,cs=[v]/\AJ W S v x,λhs ⟨v,h1,h2⟩=>⟨v,h1,h2.mono hs⟩⟩
theorem tO{W:World}{S:Nat->Prop}{x:Ex}{cs:List Value}(h:(exF x).Φ cs W S):∃ v,cs=[v]/\AJ W S v x/\hv v=v:=by
 obtain⟨v,h1,h2⟩:=h;exact⟨v,h1,h2,h2.hv⟩
theorem td{v:Value}(h:hv v=v):Sh.one.val [v]=v:=by
 show hv v=v;exact h
theorem kv{x:Ex}{W1:World}{bs1 fp:List Nat}{w:World}{S:Nat->Prop}{v:Value}{T:TypeId}{h:Hp}{vs:List SV}{fs' : List AV}{ks:List Nat}(hg:AJ W1 (bF (af w S fp) bs1) v x)
  (h0:h 0=some (.cells T vs)) (hv:aB h vs=some (fs',ks)) (hn:(0::ks).Nodup):Ni w S fp T W1 bs1 (.v v) h (.fact Sh.one (exF x) fs'):=
 ⟨⟨[v],λE=>(td hg.hv).symm,v,rfl,hg⟩,vs,ks,h0,hv,hn⟩
def Vq(q:Pb)(op:Nat):PR->GOut
 |.ok (x,r)=>.fact Sh.one (exF x) (oR q r op)
 |.error (c,a)=>.pan (bb c (a:Nat)) .nilIface
theorem fu(q:Pb)(op:Nat)(x:Ex)(r:List Tk):Vq q op (.ok (x,r))=.fact Sh.one (exF x) (oR q r op):=rfl
theorem bm(q:Pb)(op:Nat)(c:Int)(a:Nat):Vq q op (.error (c,a))=.pan (bb c (a:Nat)) .nilIface:=rfl
def ov(f:FuncId)(as_:List Value)(op:Nat)(sub:List Tk->PR):Prop:=∀ (q:Pb) (r:List Tk) (u:Value) (fp:List Nat) (w:World) (S:Nat->Prop),q.st w S r->fg w S->aW w u fp 143 (oR q r op)->(∀ b∈fp,b<w.heap.size)->(∀ b∈fp,¬ S b) ->
 Calls prog f (#[u]++as_.toArray) w λe w' => vC w S u fp 143 e w' (Vq q op (sub r))
theorem Bn{w:World}{S:Nat->Prop}:∀ {as_ us:List Value},Bm w S (as_.map λ_=>none) us (as_.map AV.val)->us=as_
 |[],[],_=>rfl
 |[],_::_,h=>h.elim
 |a::r,[],h=>h.elim
 |a::r,u::us,h=>by
  obtain⟨h1,h2⟩:=h;have h1:u=a:=h1;rw[h1,Bn h2]
def yH(f:FuncId)(as_:List Value)(op:Nat)(sub:List Tk->PR)(he:∀ args w,(callFunc f args).run prog w=.ok (.enter f args) w)(h:ov f as_ op sub)(q:Pb)(r:List Tk):u5 prog f where
 T:=143
 kinds:=as_.map λ_=>none
 pre:=λfs bs_ W S=>(fs=oR q r op/\bs_=as_.map AV.val)/\q.st W S r/\fg W S
 premono:=λfs bs_ W S W' S' hs ⟨h1,h2,h3⟩=>⟨h1,h2.bU hs,h3.mono hs⟩
 out:=λ_ _=>Vq q op (sub r)
 enters:=he
 ok:=by
  intro w S u fp us fs bs_ ho hlt hS hu hp;obtain⟨⟨rfl,rfl⟩,h1,h2⟩:=hp;obtain rfl:=Bn hu;have:=h q r u fp w S h1 h2 ho hlt hS;simpa using this
structure PI where
 W:World
 bs:List Nat
 v:Value
 x:Ex
 r:List Tk
 n:Nat
section
variable (G:Nat->Prop)(q:Pb)(r:List Tk)(op:Nat)(atom:List Tk->PR)(h:ov 212 [] op atom)
noncomputable def M3:Env prog:=⟨λ| 110=>some (fV q r op).spec|169=>some (uV q r op).spec|111=>some (hJ q r op).spec|212=>some ((yH 212 [] op atom call212 h q r).spec G)|_=>none,λ_=>none,λ_ _=>none⟩
theorem acM:(M3 G q r op atom h).sp 110=some (fV q r op).spec:=rfl
theorem acO:(M3 G q r op atom h).sp 169=some (uV q r op).spec:=rfl
theorem acN:(M3 G q r op atom h).sp 111=some (hJ q r op).spec:=rfl
theorem acP:(M3 G q r op atom h).sp 212=some ((yH 212 [] op atom call212 h q r).spec G):=rfl
end
theorem Pb.st.out{q:Pb}{r:List Tk}{w:World}{S:Nat->Prop}{fp:List Nat}(h:q.st w (bF S fp) r):q.st w (Out fp) r:=h.bU λb _ hb=>⟨rfl,hb.2⟩
def xH:=(ae @List.replicate_succ.{0} @List.replicate_zero.{0} @au @ab kQ kS kU (ae dc dd de df dv dw dz (ae dA eB eC eD eE eF eG (ae nN nO nP nQ nR uz uA (ae uB uC uD uE uF uG uH (ae uI uJ C4 C5 C6 C7 C8 (ae C9 Da Db Dc Dd qs qt (ae qu qv qw qx qy qz @aV (ae @aw @aD @aG @e8 @acM @acO @acN (ae @acP @fV.eq_1 @uV.eq_1 @hJ.eq_1 @oR.eq_1 @tkU.eq_1 @yH.eq_1 (aa @fu @bm)))))))))))
theorem aal(op:Nat)(atom:List Tk->PR)(hT:jR atom 1)(hA:ov 212 [] op atom):ov 170 [] op (oQ atom):=by
 intro q r u fp w S hq hsy ho hlt hS;have u0:=af.up w S fp;have q0:=hq.bU (af.eQ w S fp hS);have s0:=hsy.mono (af.eQ w S fp hS);refine dm (nt:=27) S #[] [.tmp 2] (by show 2<=7;omega) ho hlt func170 rfl rfl rfl ?_;refine vR Γ0 xH ?_;cases hF:atom r with
 |error e=>
  obtain⟨c,j⟩:=e;have hE:oQ atom r=.error (c,j):=by rw[oQ,hF]
  rw[hE,bm];refine Wp.bn (M3 (af w S fp) q r op atom hA) aM (ev (aa xH hF)) ?_ ?_
  ·exact⟨⟨q0,s0⟩,dE,λ_ h=>h.elim⟩
  refine qq ?_;exact⟨_,rfl⟩
 | ok p=>
  obtain⟨x0,r0⟩:=p;have hL:=hT r hq.2.2 _ _ hF;have hE:oQ atom r=.ok (qS r0.length x0 r0):=by rw[oQ,hF]
  rw[hE];generalize hR:qS r0.length x0 r0=R;refine wR (M3 (af w S fp) q r op atom hA) (aa xH hF) ?_ ?_
  ·exact⟨⟨q0,s0⟩,dE,(λ_ h=>h.elim),u0⟩
  refine Wp.da 31 (ev xH) (aY.refl _ _) λW1 bs1 cs hx1 hΦ=>?_
  obtain⟨v0,rfl,hg0,hv0⟩:=tO hΦ;have q1:q.st W1 (bF (af w S fp) bs1) r0:=⟨(q0.bU hx1.dW).1,hL.2.1.trans hq.2.1,hL.1⟩;refine Wp.seq (Wp.block ?_);refine Wp.qI (λp:PI=>⟨20,ee [(0,.is (.own 0 0)),(3,.is (.v p.v))],dP [(0,.cells 143 [.v (q.sl p.r),.v (.int .i64 (op:Nat))])]⟩)
   PI.W PI.bs (λp=>q.st p.W (bF (af w S fp) p.bs) p.r/\AJ p.W (bF (af w S fp) p.bs) p.v p.x/\p.r.length<=p.n/\qS p.n p.x p.r=R) (λp=>p.n) ⟨W1,bs1,v0,x0,r0,r0.length⟩ rfl rfl ?_ ⟨q1,hg0,Nat.le_refl _,hR⟩ ?_
  ·exact wM (λk=>.key k) (aa xH hv0)
  rintro⟨W2,bs2,v,x,r2,n⟩ ⟨q2,hg,hn,hR2⟩ hx2;simp only at q2 hg hn hR2 hx2;dsimp only;have hpos:=q2.2.2.pos;obtain⟨n,rfl⟩:∃ m,n=m+1:=⟨n-1,oM⟩;refine Wp.seq ?_;refine wR (M3 (af w S fp) q r2 op atom hA) xH ?_ ?_
  ·exact⟨⟨dE,⟨_,rfl⟩,q2.out⟩,λ_=>⟨dE,⟨_,rfl⟩,q2.out⟩,λ_=>⟨dE,⟨_,rfl⟩,q2.out⟩⟩
  refine wC xH (λhc=>?_) (λhc=>?_)
  ·have h:((eU r2 mf||eU r2 Ae)||eU r2 XT)=true:=hc;rw[qS,if_pos h]at hR2;have hk:(pk r2).1≠0:=by
    simp only[Bool.or_eq_true]at h;rcases h with (h|h)|h<;>exact gY h
   refine wK ?_;refine Wp.block ?_;refine wR (M3 (af w S fp) q r2 op atom hA) xH ?_ ?_
   ·exact⟨⟨q2.out,hk⟩,dE,λ_ h=>h.elim⟩
   refine vr Γ0 (aa xH hg.parts) ?_;have hnx:=Left.next q2.2.2 hk
   refine⟨⟨W2,bs2,.iface 212 (.agg #[.int .i64 ((pk r2).2.1:Nat),.string (pk r2).2.2,v]),.unary (pk r2).2.1 (pk r2).2.2 x,r2.tail,n⟩,⟨⟨q2.1,hnx.2.1.trans q2.2.1,hnx.1⟩,.unary _ _ _ _ hg,by have:=hnx.2.2;dsimp only;omega,hR2⟩,by dsimp only;omega,rfl,rfl,?_⟩;exact wM (λk=>.key k) xH
  ·have h:((eU r2 mf||eU r2 Ae)||eU r2 XT)=false:=hc;rw[qS,if_neg (by rw[h];simp)]at hR2;rw[<- hR2,fu];refine wE ?_;refine vR Γ0 xH ?_;refine wZ xH ?_;exact kv hg rfl ((ev (aa xH @aq))) dE
theorem gr(P:Program)(T:TypeId)(l:List SV):miK P T l none=⟨P.concrete T=true,.nr T (.agg l),[],none,[],[]⟩:=rfl
theorem eR(k i:Nat)(r:List SV):cT (.part k i::r)=none:=rfl
theorem Le.const{W:World}{bs:List Nat}{nt:Nat}{ds:Aux}{σ σ' : St}(t:Nat){x:SV}{v:Value}(hx:σ.φ t=.is x)(hc:cJ x=some v)(h:Le W bs nt ds ⟨σ.n,bo σ.φ t (.is (.v v)),σ.h⟩ σ'):Le W bs nt ds σ σ' := by
 rintro a w ⟨⟨E,F,hφ,hs,hp⟩,h1,h2,h3,h4,h5⟩;refine h a w ⟨⟨E,F,λj=>?_,hs,hp⟩,h1,h2,h3,λj k hk=>?_,h5⟩
 ·show fits E (bo σ.φ t (.is (.v v)) j) _;by_cases hj:j=t
  ·subst hj;rw[ah];have:=hφ j;rw[hx]at this;rw[<- pt (E:=E) hc];exact this
  ·rw[al _ _ hj];exact hφ j
 ·show k / 8<σ.n;have hk:k∈(bo σ.φ t (.is (.v v)) j).keys:=hk;by_cases hj:j=t
  ·subst hj;rw[ah]at hk;cases hk
  ·rw[al _ _ hj]at hk;exact h4 j k hk
section
variable (G:Nat->Prop)(q:Pb)(r:List Tk)(op:Nat)(sub:List Tk->PR)(as_:List Value)(h:ov 170 [] op sub)(h' : ov 115 as_ op sub)
noncomputable def akO:Env prog:=⟨λ| 170=>some ((yH 170 [] op sub call170 h q r).spec G)|_=>none,λ_=>none,λ_ _=>none⟩
noncomputable def EJ:Env prog:=⟨λ| 110=>some (fV q r op).spec|111=>some (hJ q r op).spec|171=>some FH.spec|115=>some ((yH 115 as_ op sub call115 h' q r).spec G)|_=>none,λ_=>none,λ_ _=>none⟩
theorem acQ:(akO G q r op sub h).sp 170=some ((yH 170 [] op sub call170 h q r).spec G):=rfl
theorem acR:(EJ G q r op sub as_ h').sp 110=some (fV q r op).spec:=rfl
theorem acS:(EJ G q r op sub as_ h').sp 111=some (hJ q r op).spec:=rfl
theorem acU:(EJ G q r op sub as_ h').sp 171=some FH.spec:=rfl
theorem acT:(EJ G q r op sub as_ h').sp 115=some ((yH 115 as_ op sub call115 h' q r).spec G):=rfl
end
theorem fg.out{w:World}{S:Nat->Prop}{fp:List Nat}(h:fg w (bF S fp)):fg w (Out fp):=h.mono λb _ hb=>⟨rfl,hb.2⟩
def jX:=(ae @List.replicate_succ.{0} @List.replicate_zero.{0} @au @ab kQ kS kU (ae dc dd de df dv dw dz (ae dA eB eC eD eE eF eG (ae nN nO nP nQ nR uz uA (ae uB uC uD uE uF uG uH (ae uI uJ De Df Dg Dh Di (ae Dj Dk Dl Dm Dn Dp qs (ae qt qu qv qw qx qy qz (ae @gr @eR @aV @aw @aD @aG @e8 (ae @acQ @acR @acS @acU @acT @fV.eq_1 @hJ.eq_1 (EP @oR.eq_1 @tkU.eq_1 @yH.eq_1 @fu @bm @yr @yq)))))))))))
theorem Zm(op:Nat)(atom:List Tk->PR)(hA:ov 170 [] op (oQ atom)):ov 115 [.int .i64 5] op (BK atom 0):=by
 intro q r u fp w S hq hsy ho hlt hS;have u0:=af.up w S fp;have q0:=hq.bU (af.eQ w S fp hS);have s0:=hsy.mono (af.eQ w S fp hS);have hE:BK atom 0 r=oQ atom r:=rfl;rw[hE];refine dm (nt:=41) S #[.int .i64 5] [.tmp 4] (by show 2<=7;omega) ho hlt func115 rfl rfl rfl ?_;refine vR Γ0 jX ?_
 refine Wp.seq ?_;refine vR Γ0 jX ?_;refine wC jX (λhc=>?_) (λhc=>?_)
 rotate_left
 ·exact absurd hc sI
 cases hF:oQ atom r with
 |error e=>
  obtain⟨c,j⟩:=e;rw[bm];refine Wp.bn (akO (af w S fp) q r op (oQ atom) hA) aM (ev (aa jX hF)) ?_ ?_
  ·exact⟨⟨q0,s0⟩,dE,λ_ h=>h.elim⟩
  refine qq ?_;exact⟨_,rfl⟩
 |ok p=>
  obtain⟨x0,r0⟩:=p;rw[fu];refine wR (akO (af w S fp) q r op (oQ atom) hA) (aa jX hF) ?_ ?_
  ·exact⟨⟨q0,s0⟩,dE,(λ_ h=>h.elim),u0⟩
  refine Wp.da 47 (ev jX) (aY.refl _ _) λW1 bs1 cs hx1 hΦ=>?_
  obtain⟨v0,rfl,hg0,hv0⟩:=tO hΦ;refine wZ (aa jX hv0) ?_;exact kv hg0 rfl ((ev (aa jX @aq))) dE
theorem aeG(op k:Nat)(hk:k<=4)(sub:List Tk->PR)(hT:jR sub 1)(hA:ov 115 [.int .i64 (5-(k:Nat))] op sub):ov 115 [.int .i64 (4-(k:Nat))] op (ui sub (4-(k:Nat))):=by
 intro q r u fp w S hq hsy ho hlt hS;have u0:=af.up w S fp;have q0:=hq.bU (af.eQ w S fp hS);have s0:=hsy.mono (af.eQ w S fp hS);have wl:IntKind.i64.wrap (4-(k:Int)+1)=5-(k:Nat):=wW;have hd:decide (4-(k:Int)=5)=false:=decide_eq_false oM
 refine dm (nt:=41) S #[.int .i64 (4-(k:Nat))] [.tmp 4] (by show 2<=7;omega) ho hlt func115 rfl rfl rfl ?_;refine vR Γ0 jX ?_;refine Wp.seq ?_;refine vR Γ0 (aa jX hd) ?_;refine wC jX (λhc=>?_) (λhc=>?_)
 ·exact absurd hc sI
 refine wK ?_;cases hF:sub r with
 |error e=>
  obtain⟨c,j⟩:=e;have hE:ui sub (4-(k:Nat)) r=.error (c,j):=by rw[ui,hF]
  rw[hE,bm];refine Wp.bn (EJ (af w S fp) q r op sub _ hA) aM (ev (bw jX hF wl)) ?_ ?_
  ·exact⟨⟨q0,s0⟩,dE,λ_ h=>h.elim⟩
  refine qq ?_;exact⟨_,rfl⟩
 | ok p=>
  obtain⟨x0,r0⟩:=p;have hL:=hT r hq.2.2 _ _ hF;have hE:ui sub (4-(k:Nat)) r=ll sub (4-(k:Nat)) r0.length x0 r0:=by rw[ui,hF]
  rw[hE];generalize hR:ll sub (4-(k:Nat)) r0.length x0 r0=R;refine wR (EJ (af w S fp) q r op sub _ hA) (bw jX hF wl) ?_ ?_
  ·exact⟨⟨q0,s0⟩,dE,(λ_ h=>h.elim),u0⟩
  refine Wp.da 63 (ev jX) (aY.refl _ _) λW1 bs1 cs hx1 hΦ=>?_
  obtain⟨v0,rfl,hg0,hv0⟩:=tO hΦ;have q1:q.st W1 (bF (af w S fp) bs1) r0:=⟨(q0.bU hx1.dW).1,hL.2.1.trans hq.2.1,hL.1⟩;refine Wp.seq (Wp.block ?_)
  refine Wp.qI (λp:PI=>⟨20,ee [(0,.is (.own 0 0)),(1,.is (.v (.int .i64 (4-(k:Nat))))),(5,.is (.v p.v))],dP [(0,.cells 143 [.v (q.sl p.r),.v (.int .i64 (op:Nat))])]⟩)
   PI.W PI.bs (λp=>q.st p.W (bF (af w S fp) p.bs) p.r/\fg p.W (bF (af w S fp) p.bs)/\AJ p.W (bF (af w S fp) p.bs) p.v p.x/\p.r.length<=p.n/\ll sub (4-(k:Nat)) p.n p.x p.r=R) (λp=>p.n) ⟨W1,bs1,v0,x0,r0,r0.length⟩ rfl rfl ?_ ⟨q1,s0.mono hx1.dW,hg0,Nat.le_refl _,hR⟩ ?_
  ·exact wM (λk=>.key k) (aa jX hv0)
  rintro⟨W2,bs2,v,x,r2,n⟩ ⟨q2,s2,hg,hn,hR2⟩ hx2;simp only at q2 s2 hg hn hR2 hx2;dsimp only;have hx02:=hx1.trans hx2;have u2:=u0.ext hx02;have hpos:=q2.2.2.pos;obtain⟨n,rfl⟩:∃ m,n=m+1:=⟨n-1,oM⟩;rw[ll]at hR2;refine Wp.seq ?_;refine wR (EJ (af w S fp) q r2 op sub _ hA) jX ?_ ?_
  ·exact⟨⟨dE,q2.out⟩,λ_=>⟨dE,q2.out⟩,λ_=>s2.out⟩
  refine wC jX (λhc=>?_) (λhc=>?_)
  ·have h:(pk r2).1=4/\Nf (pk r2).2.2=4-(k:Nat):=by
    simp at hc;exact hc
   rw[if_pos h]at hR2;have hk0:(pk r2).1≠0:=oM;have hnx:=Left.next q2.2.2 hk0
   have q3:q.st W2 (bF (af w S fp) bs2) r2.tail:=⟨q2.1,hnx.2.1.trans q2.2.1,hnx.1⟩;refine wK ?_;refine Wp.block ?_;refine wR (EJ (af w S fp) q r2 op sub _ hA) jX ?_ ?_
   ·exact⟨⟨q2.out,hk0⟩,dE,λ_ h=>h.elim⟩
   cases hF2:sub r2.tail with
   |error e=>
    obtain⟨c,j⟩:=e;rw[hF2]at hR2;simp only at hR2;rw[<- hR2,bm];refine Wp.qK (EJ (af w S fp) q r2.tail op sub _ hA) aM (ev (fJ jX hF2 wl hg.parts)) rfl (by kernel_rfl) ?_ ?_
    ·exact⟨⟨q3,s2⟩,dE,λ_ h=>h.elim⟩
    refine qq ?_;exact⟨_,rfl⟩
   |ok p=>
    obtain⟨y,r3⟩:=p;rw[hF2]at hR2;simp only at hR2;have hL2:=hT _ hnx.1 _ _ hF2;refine Wp.more ?_;refine Jt (EJ (af w S fp) q r2.tail op sub _ hA) (fJ jX hF2 wl hg.parts) ?_ ?_
    ·exact⟨⟨q3,s2⟩,dE,(λ_ h=>h.elim),u2⟩
    refine dh ?_;refine Pw.da 359 (ev jX) (aY.refl _ _) λW3 bs3 cs hx3 hΦ3=>?_
    obtain⟨v3,rfl,hg3,hv3⟩:=tO hΦ3;refine Pw.here ?_;refine qq ?_
    refine⟨⟨W3,bs3,.iface 215 (.agg #[.int .i64 ((pk r2).2.1:Nat),.string (pk r2).2.2,v,v3]),.binary (pk r2).2.1 (pk r2).2.2 x y,r3,n⟩,⟨⟨(q2.bU hx3.dW).1,hL2.2.1.trans (hnx.2.1.trans q2.2.1),hL2.1⟩,s2.mono hx3.dW,.binary _ _ _ _ _ _ (hg.mono hx3.dW) hg3,by have:=hnx.2.2;have:=hL2.2.2;dsimp only;omega,hR2⟩,by dsimp only;omega,rfl,rfl,?_⟩
    refine Le.const 5 ((ev (aa jX hv3))) ((ev (aa jX hv3))) ?_;exact wM (λk=>.key k) (aa jX hv3)
  ·have h:¬ ((pk r2).1=4/\Nf (pk r2).2.2=4-(k:Nat)):=by
    intro h;simp at hc;exact hc h.1 h.2
   rw[if_neg h]at hR2;rw[<- hR2,fu];refine wE ?_;refine vR Γ0 jX ?_;refine wZ jX ?_;exact kv hg rfl ((ev (aa jX @aq))) dE
theorem RY(op:Nat)(atom:List Tk->PR)(hT:jR atom 1)(hA:ov 212 [] op atom):∀ k,k<=5->ov 115 [.int .i64 (5-(k:Nat))] op (BK atom k)
 |0,_=>Zm op atom (aal op atom hT hA)
 |k+1,h=>by
  have:=aeG op k oM (BK atom k) (oH hT k) (RY op atom hT hA k oM);rw[show (5-((k+1:Nat):Int))=4-(k:Nat) by omega];exact this
theorem Kg(op:Nat)(atom:List Tk->PR)(hT:jR atom 1)(hA:ov 212 [] op atom):ov 115 [.int .i64 0] op (gU atom):=RY op atom hT hA 5 (Nat.le_refl _)
def ai3(f:FuncId)(as_:List Value)(op:Nat)(sub:List Tk->PR)(P:List Tk->Prop):Prop:=∀ (q:Pb) (r:List Tk) (u:Value) (fp:List Nat) (w:World) (S:Nat->Prop),P r->q.st w S r->fg w S->aW w u fp 143 (oR q r op)->(∀ b∈fp,b<w.heap.size)->(∀ b∈fp,¬ S b) ->
 Calls prog f (#[u]++as_.toArray) w λe w' => vC w S u fp 143 e w' (Vq q op (sub r))
def ako(f:FuncId)(as_:List Value)(op:Nat)(sub:List Tk->PR)(P:List Tk->Prop)(he:∀ args w,(callFunc f args).run prog w=.ok (.enter f args) w)(h:ai3 f as_ op sub P)(q:Pb)(r:List Tk):u5 prog f where
 T:=143
 kinds:=as_.map λ_=>none
 pre:=λfs bs_ W S=>(fs=oR q r op/\bs_=as_.map AV.val)/\P r/\q.st W S r/\fg W S
 premono:=λfs bs_ W S W' S' hs ⟨h1,h0,h2,h3⟩=>⟨h1,h0,h2.bU hs,h3.mono hs⟩
 out:=λ_ _=>Vq q op (sub r)
 enters:=he
 ok:=by
  intro w S u fp us fs bs_ ho hlt hS hu hp;obtain⟨⟨rfl,rfl⟩,h0,h1,h2⟩:=hp;obtain rfl:=Bn hu;have:=h q r u fp w S h0 h1 h2 ho hlt hS;simpa using this
def qF(mo:Option (List Tk->PR))(r:List Tk):PR:=e9 mo r.tail Ew λex r' => dk Ej (.call (pk r).2.1 (pk r).2.2) (kD ex (oq (pk r).2.2).toNat 0 .nil r')
def MoT(op:Nat)(mo:Option (List Tk->PR)):Prop:=op<=64/\(mo=none->op=64)/\∀ ex,mo=some ex->op<64/\jR ex 1/\ov 115 [.int .i64 0] (op+1) ex
section
variable (G:Nat->Prop)(q:Pb)(r:List Tk)(op:Nat)(sub:List Tk->PR)(h:ov 115 [.int .i64 0] op sub)
noncomputable def dU:Env prog:=⟨λ| 111=>some (hJ q r op).spec|112=>some xE.spec|114=>some (sF q r op).spec|247=>some (xn q r op).spec|248=>some (xo q r op).spec|110=>some (fV q r op).spec|169=>some (uV q r op).spec|113=>some (oe q r op).spec|_=>none,λ_=>none,λ_ _=>none⟩
noncomputable def Ea:Env prog:=⟨λ| 115=>some ((yH 115 [.int .i64 0] op sub call115 h q r).spec G)|_=>none,λ_=>none,λ_ _=>none⟩
theorem D3:(dU q r op).sp 111=some (hJ q r op).spec:=rfl
theorem D4:(dU q r op).sp 112=some xE.spec:=rfl
theorem D6:(dU q r op).sp 114=some (sF q r op).spec:=rfl
theorem D8:(dU q r op).sp 247=some (xn q r op).spec:=rfl
theorem D9:(dU q r op).sp 248=some (xo q r op).spec:=rfl
theorem D1:(dU q r op).sp 110=some (fV q r op).spec:=rfl
theorem D7:(dU q r op).sp 169=some (uV q r op).spec:=rfl
theorem D5:(dU q r op).sp 113=some (oe q r op).spec:=rfl
theorem Eb:(Ea G q r op sub h).sp 115=some ((yH 115 [.int .i64 0] op sub call115 h q r).spec G):=rfl
end
theorem ajk{q:Pb}{r:List Tk}{op:Nat}{m:ByteArray}(h:eU r m=false):El q r op m=.pan (Xv 60 r) (.tuple #[]):=by
 unfold El eH;rw[if_neg (by rw[h];simp),if_neg (by rw[h];simp)]
theorem Bc{q:Pb}{r:List Tk}{m:ByteArray}(h:eU r m=true):El q r 64 m=.pan (Xv 23 r) (.tuple #[]):=by
 unfold El;rw[if_pos ⟨h,Nat.le_refl _⟩]
theorem GO{q:Pb}{r:List Tk}{op:Nat}{m:ByteArray}(h:eU r m=true)(ho:op<64):El q r op m=.ret (.tuple #[]) (oR q r.tail (op+1)):=by
 unfold El eH;rw[if_neg oM,if_pos h]
theorem pd{q:Pb}{r:List Tk}{op op' : Nat}{m:ByteArray}(h:eU r m=true):eH q r op op' m=.ret (.tuple #[]) (oR q r.tail op'):=by rw[eH,if_pos h]
theorem tB{q:Pb}{r:List Tk}{op op' : Nat}{m:ByteArray}(h:eU r m=false):eH q r op op' m=.pan (Xv 60 r) (.tuple #[]):=by rw[eH,if_neg (by rw[h];simp)]
theorem oh.snc{W:World}{S:Nat->Prop}{v:Value}{x:Ex}(hx:AJ W S v x):∀ {k:Bool} {vs:List Value} {l:Ex},oh W S k vs l->k=false->oh W S false (vs++[v]) (yG l x):=by
 intro k vs l h
 induction h with
 |nil=>exact λ_=>.cons _ _ _ _ hx .nil
 |cons v' vs x' l h1 h2 i1 i2=>exact λ_=>.cons _ _ _ _ h1 (i2 rfl)
 |_=>exact λe=>by cases e
structure PA where
 W:World
 bs:List Nat
 vs:List Value
 l:Ex
 r:List Tk
 k:Nat
 n:Nat
theorem aij(s:ByteArray):oq s<=3:=by
 unfold oq
 repeat' split
 all_goals decide
def jg:=(ae @List.replicate_succ.{0} @List.replicate_zero.{0} @au @ab kQ kS Sz (ae SD SZ kU dc dd de df (ae dv dw dz dA eB eC eD (ae eE eF eG nN nO nP nQ (ae nR uz uA uB uC uD uE (ae uF uG uH uI uJ QS QT (ae QU QV yN yO yP yQ yR (ae yS yT yU yV yW qs qt (ae qu qv qw qx qy qz @gr (ae @eR @aV @aw @aD @aG @e8 @D3 (ae @D4 @D6 @D8 @D9 @D1 @D7 @D5 (ae @Eb @hJ.eq_1 @sF.eq_1 @xn.eq_1 @xo.eq_1 @fV.eq_1 @uV.eq_1 (ae @oe.eq_1 @pq @po @oR.eq_1 @tkU.eq_1 @yH.eq_1 @fu @bm)))))))))))))
theorem X8(op:Nat)(mo:Option (List Tk->PR))(hm:MoT op mo):ai3 246 [] op (qF mo) (λr=>(pk r).1=1/\0<oq (pk r).2.2):=by
 intro q r u fp w S hP hq hsy ho hlt hS;obtain⟨hop,hm0,hm1⟩:=hm;obtain⟨hP1,hP2⟩:=hP;have u0:=af.up w S fp;have q0:=hq.bU (af.eQ w S fp hS);have s0:=hsy.mono (af.eQ w S fp hS);have hk:(pk r).1≠0:=oM;have hnx:=Left.next hq.2.2 hk
 have q1:q.st w (bF (af w S fp) fp) r.tail:=⟨q0.1,hnx.2.1.trans q0.2.1,hnx.1⟩;refine dm (nt:=37) S #[] [.tmp 2] (by show 2<=7;omega) ho hlt func246 rfl rfl rfl ?_;refine vR Γ0 jg ?_;refine wR (dU q r op) jg ?_ ?_
 ·exact⟨⟨q0.out,hk⟩,dE,λ_ h=>h.elim⟩
 refine vR Γ0 jg ?_;by_cases hb:eU r.tail Ew=true
 rotate_left
 ·have hb' : eU r.tail Ew=false:=by simpa using hb
  have hE:qF mo r=.error (60,(pk r.tail).2.1):=by unfold qF e9;rw[if_neg hb]
  have hen:=ajk (q:=q) (op:=op) hb';unfold Ew at hen;rw[hE,bm];refine Wp.bn (dU q r.tail op) aM (ev (aa jg hen)) ?_ ?_
  ·exact⟨⟨⟨_,rfl⟩,q1.out,hop⟩,dE,λ_ h=>h.elim⟩
  refine qq ?_;exact⟨_,rfl⟩
 cases mo with
 |none=>
  have ho64:=hm0 rfl;subst ho64;have hE:qF none r=.error (23,(pk r.tail).2.1):=by unfold qF e9;rw[if_pos hb]
  have hen:=Bc (q:=q) hb;unfold Ew at hen;rw[hE,bm];refine Wp.bn (dU q r.tail 64) aM (ev (aa jg hen)) ?_ ?_
  ·exact⟨⟨⟨_,rfl⟩,q1.out⟩,dE,λ_ h=>h.elim⟩
  refine qq ?_;exact⟨_,rfl⟩
 | some ex=>
  obtain⟨hop2,hT,hA⟩:=hm1 ex rfl;have hE:qF (some ex) r=dk Ej (.call (pk r).2.1 (pk r).2.2) (kD ex (oq (pk r).2.2).toNat 0 .nil r.tail.tail):=by unfold qF e9;rw[if_pos hb]
  have hen:=GO (q:=q) hb hop2;unfold Ew at hen;have hnx2:=Left.next q1.2.2 (gY hb)
  have q2:q.st w (bF (af w S fp) fp) r.tail.tail:=⟨q0.1,hnx2.2.1.trans q1.2.1,hnx2.1⟩;rw[hE];refine wR (dU q r.tail op) (aa jg hen) ?_ ?_
  ·exact⟨⟨⟨_,rfl⟩,q1.out,hop⟩,dE,λ_ h=>h.elim⟩
  refine Wp.seq ?_;refine vR (dU q r op) jg ?_;have ha3:=aij (pk r).2.2;obtain⟨N,hN⟩:=Int.eq_ofNat_of_zero_le (show 0<=oq (pk r).2.2 by omega);rw[hN,Int.toNat_natCast];rw[hN]at ha3 hP2;generalize hR:kD ex N 0 .nil r.tail.tail=R;refine Wp.block ?_
  refine Wp.qI (λp:PA=>⟨60,ee [(0,.is (.own 0 0)),(4,.is (.own 4 0)),(17,.is (.v (.int .i64 (N:Nat)))),(18,.is (.v (.int .i64 (p.k:Nat))))],dP [(0,.cells 143 [.v (q.sl p.r),.v (.int .i64 ((op+1:Nat):Int))]),(4,.cells 219 [.v (.int .i64 ((pk r).2.1:Nat)),.v (.string (pk r).2.2),.hd 5]),(5,.row 77 1 p.vs.length (p.vs.map .v))]⟩)
   PA.W PA.bs (λp=>q.st p.W (bF (af w S fp) p.bs) p.r/\fg p.W (bF (af w S fp) p.bs)/\oh p.W (bF (af w S fp) p.bs) false p.vs p.l/\(p.vs.length=p.k/\p.k+p.n=N)/\kD ex p.n p.k p.l p.r=R) (λp=>p.n) ⟨w,fp,[],.nil,r.tail.tail,0,N⟩ rfl rfl ?_ ⟨q2,s0,.nil,⟨rfl,Nat.zero_add N⟩,hR⟩ ?_
  ·exact wM (λk=>if k=4 then .key 88 else if k=5 then .nil else .key k) (bw jg @Int.natCast_zero hN)
  rintro⟨W1,bs1,vs,l,r1,k,n⟩ ⟨q3,s3,hv,⟨hvk,hkn⟩,hR1⟩ hx1;simp only at q3 s3 hv hvk hkn hR1 hx1;dsimp only;have u1:=u0.ext hx1;refine vR Γ0 jg ?_;refine Wp.seq ?_;refine wC jg (λhc=>?_) (λhc=>?_)
  ·have hk1:k<N:=by
    simp at hc;omega
   clear hc;obtain⟨n,rfl⟩:∃ m,n=m+1:=⟨n-1,oM⟩;rw[kD]at hR1;have wk:IntKind.i64.wrap ((k:Int)+1)=((k+1:Nat):Int):=wW;refine wK ?_;refine Wp.seq (Wp.block ?_);refine vR Γ0 jg ?_
   refine AH (λ_:Unit=>⟨80,ee [(0,.is (.own 0 0)),(4,.is (.own 4 0)),(17,.is (.v (.int .i64 (N:Nat)))),(18,.is (.v (.int .i64 (k:Nat))))],dP [(0,.cells 143 [.v (q.sl (if 0<k then r1.tail else r1)),.v (.int .i64 ((op+1:Nat):Int))]),(4,.cells 219 [.v (.int .i64 ((pk r).2.1:Nat)),.v (.string (pk r).2.2),.hd 5]),(5,.row 77 1 vs.length (vs.map .v))]⟩) (λ_=>W1) (λ_=>bs1) (λ_=>0<k->eU r1 Xo=true) ?_ ?_
   ·skip;refine vR Γ0 jg ?_;refine wC jg (λhc=>?_) (λhc=>?_)
    ·have hkp:0<k:=by
      simp at hc;exact hc
     cases hcm:eU r1 Xo with
     |false=>
      rw[if_pos ⟨hkp,hcm⟩]at hR1;have hw:=tB (q:=q) (op:=op+1) (op' := op+1) hcm;unfold Xo at hw;rw[<- hR1];show Wp prog W1 bs1 _ _ _ _ _;have hs1:dk Ej (.call (pk r).2.1 (pk r).2.2) (.error (60,(pk r1).2.1))=.error (60,(pk r1).2.1):=rfl;rw[hs1,bm]
      refine Wp.dF (dU q r1 (op+1)) aM (ev (aa jg hw)) ?_ ?_
      ·exact⟨⟨⟨_,rfl⟩,q3.out⟩,dE,λ_ h=>h.elim⟩
      refine qq ?_;exact⟨_,rfl⟩
     |true=>
      have hw:=pd (q:=q) (op:=op+1) (op' := op+1) hcm;unfold Xo at hw;refine wr (dU q r1 (op+1)) (aa jg hw) ?_ ?_
      ·exact⟨⟨⟨_,rfl⟩,q3.out⟩,dE,λ_ h=>h.elim⟩
      refine⟨(),λ_=>rfl,rfl,rfl,?_⟩
      exact Le.mk (λk=>.key k) ⟨by simp[FV.keys,SV.keys,ay],by simp[aX.keys,ay,SV.keys,aR,aT]⟩ (by simp only[iO,Op.operands,Value.cells,σ0,σB,Nat.reduceEqDiff,Nat.reduceAdd,Nat.reduceMul,Nat.reduceLT,Nat.reduceLeDiff,Nat.reduceBEq,av,Int.reduceToNat,Int.reduceLT,Int.reduceLE,Nat.reduceDiv,Nat.reduceMod,Nat.reduceSub,Int.reducePow,Nat.reducePow,σP,σB3,jg,if_pos hkp,GS,GV,kb,zF]<;>trivial) (by simp only[iO,Op.operands,Value.cells,σ0,σB,Nat.reduceEqDiff,Nat.reduceAdd,Nat.reduceMul,Nat.reduceLT,Nat.reduceLeDiff,Nat.reduceBEq,av,Int.reduceToNat,Int.reduceLT,Int.reduceLE,Nat.reduceDiv,Nat.reduceMod,Nat.reduceSub,Int.reducePow,Nat.reducePow,σP,σB3,jg,if_pos hkp,vG,nj,ij,gu,jP,kb]<;>trivial) (by simp[dR]) sI
    ·have hkp:¬ 0<k:=by
      simp at hc;omega
     refine wK ?_;refine⟨(),λh=>absurd h hkp,rfl,rfl,?_⟩
     exact Le.mk (λk=>.key k) ⟨by simp[FV.keys,SV.keys,ay],by simp[aX.keys,ay,SV.keys,aR,aT]⟩ (by simp only[iO,Op.operands,Value.cells,σ0,σB,Nat.reduceEqDiff,Nat.reduceAdd,Nat.reduceMul,Nat.reduceLT,Nat.reduceLeDiff,Nat.reduceBEq,av,Int.reduceToNat,Int.reduceLT,Int.reduceLE,Nat.reduceDiv,Nat.reduceMod,Nat.reduceSub,Int.reducePow,Nat.reducePow,σP,σB3,jg,if_neg hkp,GS,GV,kb,zF]<;>trivial) (by simp only[iO,Op.operands,Value.cells,σ0,σB,Nat.reduceEqDiff,Nat.reduceAdd,Nat.reduceMul,Nat.reduceLT,Nat.reduceLeDiff,Nat.reduceBEq,av,Int.reduceToNat,Int.reduceLT,Int.reduceLE,Nat.reduceDiv,Nat.reduceMod,Nat.reduceSub,Int.reducePow,Nat.reducePow,σP,σB3,jg,if_neg hkp,vG,nj,ij,gu,jP,kb]<;>trivial) (by simp[dR]) sI
   rintro-hcm hx1';have hcn:¬ (0<k/\eU r1 Xo=false):=λ⟨h,h'⟩=>by
    rw[hcm h]at h';cases h'
   rw[if_neg hcn]at hR1;have hnx3:Left r1 (if 0<k then r1.tail else r1) 0:=by
    split
    ·rename_i h;exact (Left.next q3.2.2 (gY (hcm h))).Am oM
    ·exact .refl q3.2.2
   generalize (if 0<k then r1.tail else r1)=r2 at *;have q4:q.st W1 (bF (af w S fp) bs1) r2:=⟨q3.1,hnx3.2.1.trans q3.2.1,hnx3.1⟩;cases hF:ex r2 with
   |error e=>
    obtain⟨c,j⟩:=e;rw[hF]at hR1;simp only at hR1;have hs1:dk Ej (.call (pk r).2.1 (pk r).2.2) (.error (c,j))=.error (c,j):=rfl;rw[<- hR1,hs1,bm];refine Wp.qK (Ea (af w S fp) q r2 (op+1) ex hA) aM (ev (aa jg hF)) rfl (by kernel_rfl) ?_ ?_
    ·exact⟨⟨⟨q4,s3⟩,dE,λ_ h=>h.elim⟩,by unfold maxLen;omega,oM⟩
    refine qq ?_;exact⟨_,rfl⟩
   |ok p=>
    obtain⟨y,r3⟩:=p;rw[hF]at hR1;simp only at hR1;have hL2:=hT _ hnx3.1 _ _ hF;refine Wp.more ?_;refine Jt (Ea (af w S fp) q r2 (op+1) ex hA) (aa jg hF) ?_ ?_
    ·exact⟨⟨⟨q4,s3⟩,dE,(λ_ h=>h.elim),u1⟩,by unfold maxLen;omega,oM⟩
    refine dh ?_;refine Pw.da 671 (ev jg) (aY.refl _ _) λW3 bs3 cs hx3 hΦ3=>?_
    obtain⟨v3,rfl,hg3,hv3⟩:=tO hΦ3;refine Pw.here ?_;refine qq ?_;refine vr Γ0 (aa jg wk) ?_;have em:List.map SV.v vs++[.v v3]=List.map SV.v (vs++[v3]):=by simp
    have el:(vs++[v3]).length=vs.length+1:=by simp
    refine⟨⟨W3,bs3,vs++[v3],yG l y,r3,k+1,n⟩,⟨⟨(q4.bU hx3.dW).1,hL2.2.1.trans q4.2.1,hL2.1⟩,s3.mono hx3.dW,oh.snc hg3 (hv.mono hx3.dW) rfl,⟨by dsimp only;omega,by dsimp only;omega⟩,hR1⟩,by dsimp only;omega,rfl,rfl,?_⟩;exact wM (λk=>if k=5 then .key 680 else .key k) (fJ jg hv3 em el)
  ·have hkN:k=N:=by
    simp at hc;omega
   obtain rfl:n=0:=oM;have hR2:R=.ok (l,r1):=hR1.symm;rw[hR2];refine wE ?_;cases hcl:eU r1 Ej with
   | false=>
    have hs1:dk Ej (.call (pk r).2.1 (pk r).2.2) (.ok (l,r1))=.error (60,(pk r1).2.1):=by
     unfold dk;dsimp only;rw[if_neg (by rw[hcl];simp)]
    have hw:=tB (q:=q) (op:=op+1) (op' := op) hcl;unfold Ej at hw;rw[hs1,bm];refine Wp.bn (dU q r1 op) aM (ev (aa jg hw)) ?_ ?_
    ·exact⟨⟨⟨_,rfl⟩,q3.out,oM⟩,dE,λ_ h=>h.elim⟩
    refine qq ?_;exact⟨_,rfl⟩
   | true=>
    have hs1:dk Ej (.call (pk r).2.1 (pk r).2.2) (.ok (l,r1))=.ok (.call (pk r).2.1 (pk r).2.2 l,r1.tail):=by
     unfold dk;dsimp only;rw[if_pos hcl]
    have hw:=pd (q:=q) (op:=op+1) (op' := op) hcl;unfold Ej at hw;rw[hs1,fu];refine Wp.zT 5 (ev (aa jg @aS)) (λE=>by simp only[ai,den,aS];exact rfl) λW2 bs2 ao2 c2 hx2 hs2 hd2=>?_
    have u2:=u1.ext hx2;have q5:q.st W2 (bF (af w S fp) bs2) r1:=q3.bU hx2.dW;refine wR (dU q r1 op) (aa jg hw) ?_ ?_
    ·exact⟨⟨⟨_,rfl⟩,q5.out,oM⟩,dE,λ_ h=>h.elim⟩
    refine vR Γ0 jg ?_;refine wZ jg ?_;have hS2:jN W2 (bF (af w S fp) bs2) ao2 vs:=hs2.out λb hb=>⟨u1 b hb.2,hb.1⟩
    exact kv (.call (pk r).2.1 (pk r).2.2 ao2 c2 vs l hS2 hd2 (hv.mono hx2.dW)) rfl ((ev (aa jg @aq))) dE
section
variable (G:Nat->Prop)(q:Pb)(r:List Tk)(op:Nat)(sub:List Tk->PR)(h:ai3 246 [] op sub (λr=>(pk r).1=1/\0<oq (pk r).2.2))
noncomputable def akP:Env prog:=⟨λ| 246=>some ((ako 246 [] op sub _ call246 h q r).spec G)|_=>none,λ_=>none,λ_ _=>none⟩
theorem acV:(akP G q r op sub h).sp 246=some ((ako 246 [] op sub _ call246 h q r).spec G):=rfl
end
def db:=(ae @List.replicate_succ.{0} @List.replicate_zero.{0} @au @ab kQ kS kU (ae dc dd de df dv dw dz (ae dA eB eC eD eE eF eG (ae n8 oa ob oc nN nO nP (ae nQ nR uz uA uB uC uD (ae uE uF uG uH uI uJ ID (ae IE IF IG IH II IJ IK (ae IL IM IN IP IQ IS IT (ae IU IV IW IX IY IZ I0 (ae I1 I2 I3 I4 I5 I6 I7 (ae I8 I9 Ja Jb Jc Jd Je (ae qs qt qu qv qw qx qy (ae qz @gr @eR @aV @aw @aD @aG (ae @e8 @D3 @D4 @D6 @D8 @D9 @D1 (ae @D7 @D5 @Eb @acV @hJ.eq_1 @sF.eq_1 @xn.eq_1 (ae @xo.eq_1 @fV.eq_1 @uV.eq_1 @oe.eq_1 @pq @po @oR.eq_1 (qE @tkU.eq_1 @yH.eq_1 @ako.eq_1 @fu @bm)))))))))))))))))
theorem EW(op:Nat)(mo:Option (List Tk->PR))(hm:MoT op mo):ov 212 [] op (eV mo):=by
 intro q r u fp w S hq hsy ho hlt hS;have hcall:=X8 op mo hm;obtain⟨hop,hm0,hm1⟩:=hm;have u0:=af.up w S fp;have q0:=hq.bU (af.eQ w S fp hS);have s0:=hsy.mono (af.eQ w S fp hS);have qo:=q0.out;refine dm (nt:=88) S #[] [.tmp 2] (by show 2<=7;omega) ho hlt func212 rfl rfl rfl ?_;refine vR Γ0 db ?_
 refine wR (dU q r op) db ?_ ?_
 ·exact⟨dE,qo⟩
 refine Wp.seq (Wp.block ?_);refine vR Γ0 db ?_;refine wC db (λhc=>?_) (λhc=>?_)
 ·have hk:(pk r).1=2:=by simpa using hc
  have hE:eV mo r=.ok (.text (pk r).2.1 (pk r).2.2,r.tail):=by unfold eV;rw[if_pos hk]
  rw[hE,fu];refine wR (dU q r op) db ?_ ?_
  ·exact⟨⟨qo,oM⟩,dE,λ_ h=>h.elim⟩
  refine vR Γ0 db ?_;refine wZ db ?_;exact kv (.text (pk r).2.1 (pk r).2.2) rfl ((ev (aa db @aq))) dE
 have n0:¬ (pk r).1=2:=by simpa using hc
 clear hc;refine vR Γ0 db ?_;refine wC db (λhc=>?_) (λhc=>?_)
 ·have hk:(pk r).1=3:=by simpa using hc
  have hE:eV mo r=.ok (.rx (pk r).2.1 (pk r).2.2,r.tail):=by unfold eV;rw[if_neg n0,if_pos hk]
  rw[hE,fu];refine wR (dU q r op) db ?_ ?_
  ·exact⟨⟨qo,oM⟩,dE,λ_ h=>h.elim⟩
  refine vR Γ0 db ?_;refine wZ db ?_;exact kv (.rx (pk r).2.1 (pk r).2.2) rfl ((ev (aa db @aq))) dE
 have n1:¬ (pk r).1=3:=by simpa using hc
 clear hc;refine vR (dU q r op) db ?_;refine wC db (λhc=>?_) (λhc=>?_)
 ·have hk:(pk r).1=1/\0<oq (pk r).2.2:=by
   simp at hc;exact hc
  have hE:eV mo r=qF mo r:=by unfold eV qF;rw[if_neg n0,if_neg n1,if_pos hk]
  rw[hE];cases hF:qF mo r with
  |error e=>
   obtain⟨c,j⟩:=e;rw[bm];refine Wp.bn (akP (af w S fp) q r op (qF mo) hcall) aM (ev (aa db hF)) ?_ ?_
   ·exact⟨⟨hk,q0,s0⟩,dE,λ_ h=>h.elim⟩
   refine qq ?_;exact⟨_,rfl⟩
  |ok p=>
   obtain⟨x0,r0⟩:=p;rw[fu];refine wR (akP (af w S fp) q r op (qF mo) hcall) (aa db hF) ?_ ?_
   ·exact⟨⟨hk,q0,s0⟩,dE,(λ_ h=>h.elim),u0⟩
   refine Wp.da 207 (ev db) (aY.refl _ _) λW1 bs1 cs hx1 hΦ=>?_
   obtain⟨v0,rfl,hg0,hv0⟩:=tO hΦ;refine wZ (aa db hv0) ?_;exact kv hg0 rfl ((ev (aa db @aq))) dE
 have n2:¬ ((pk r).1=1/\0<oq (pk r).2.2):=by
  intro h;simp at hc;have:=hc h.1;omega
 clear hc;refine vR (dU q r op) db ?_;refine wC db (λhc=>?_) (λhc=>?_)
 ·have hk:(pk r).1=1/\oq (pk r).2.2=0:=by
   simp at hc;exact hc
  have hE:eV mo r=.ok (.name (pk r).2.1 (pk r).2.2,r.tail):=by unfold eV;rw[if_neg n0,if_neg n1,if_neg n2,if_pos hk]
  rw[hE,fu];refine wR (dU q r op) db ?_ ?_
  ·exact⟨⟨qo,oM⟩,dE,λ_ h=>h.elim⟩
  refine vR Γ0 db ?_;refine wZ db ?_;exact kv (.name (pk r).2.1 (pk r).2.2) rfl ((ev (aa db @aq))) dE
 have n3:¬ ((pk r).1=1/\oq (pk r).2.2=0):=by
  intro h;simp at hc;exact hc h.1 h.2
 clear hc;refine wR (dU q r op) db ?_ ?_
 ·exact⟨dE,⟨_,rfl⟩,qo⟩
 refine wC db (λhc=>?_) (λhc=>?_)
 ·have hb:eU r R4=true:=hc;clear hc;have hE:eV mo r=e9 mo r R4 λex r' => dk Yc (.keyed (pk r).2.1) (ex r'):=by unfold eV;rw[if_neg n0,if_neg n1,if_neg n2,if_neg n3,if_pos hb]
  rw[hE];cases mo with
  |none=>
   have ho64:=hm0 rfl;subst ho64;have hE2:e9 none r R4 (λex r' => dk Yc (.keyed (pk r).2.1) (ex r'))=.error (23,(pk r).2.1):=by unfold e9;rw[if_pos hb]
   have hen:=Bc (q:=q) hb;unfold R4 at hen;rw[hE2,bm];refine Wp.bn (dU q r 64) aM (ev (aa db hen)) ?_ ?_
   ·exact⟨⟨⟨_,rfl⟩,qo⟩,dE,λ_ h=>h.elim⟩
   refine qq ?_;exact⟨_,rfl⟩
  | some ex=>
   obtain⟨hop2,hT,hA⟩:=hm1 ex rfl;have hE2:e9 (some ex) r R4 (λex r' => dk Yc (.keyed (pk r).2.1) (ex r'))=dk Yc (.keyed (pk r).2.1) (ex r.tail):=by unfold e9;rw[if_pos hb]
   have hen:=GO (q:=q) hb hop2;unfold R4 at hen;have hnx:=Left.next hq.2.2 (gY hb)
   have q1:q.st w (bF (af w S fp) fp) r.tail:=⟨q0.1,hnx.2.1.trans q0.2.1,hnx.1⟩;rw[hE2];refine wR (dU q r op) (aa db hen) ?_ ?_
   ·exact⟨⟨⟨_,rfl⟩,qo,hop⟩,dE,λ_ h=>h.elim⟩
   cases hF:ex r.tail with
   |error e=>
    obtain⟨c,j⟩:=e;have hs1:dk Yc (.keyed (pk r).2.1) (.error (c,j))=.error (c,j):=rfl;rw[hs1,bm];refine Wp.bn (Ea (af w S fp) q r.tail (op+1) ex hA) aM (ev (aa db hF)) ?_ ?_
    ·exact⟨⟨q1,s0⟩,dE,λ_ h=>h.elim⟩
    refine qq ?_;exact⟨_,rfl⟩
   | ok p=>
    obtain⟨x0,r0⟩:=p;have hL:=hT _ hnx.1 _ _ hF;refine wR (Ea (af w S fp) q r.tail (op+1) ex hA) (aa db hF) ?_ ?_
    ·exact⟨⟨q1,s0⟩,dE,(λ_ h=>h.elim),u0⟩
    refine Wp.da 327 (ev db) (aY.refl _ _) λW1 bs1 cs hx1 hΦ=>?_
    obtain⟨v0,rfl,hg0,hv0⟩:=tO hΦ;have q2:q.st W1 (bF (af w S fp) bs1) r0:=⟨(q1.bU hx1.dW).1,hL.2.1.trans q1.2.1,hL.1⟩;cases hcl:eU r0 Yc with
    | false=>
     have hs1:dk Yc (.keyed (pk r).2.1) (.ok (x0,r0))=.error (60,(pk r0).2.1):=by
      unfold dk;dsimp only;rw[if_neg (by rw[hcl];simp)]
     have hw:=tB (q:=q) (op:=op+1) (op' := op) hcl;unfold Yc at hw;rw[hs1,bm];refine Wp.bn (dU q r0 op) aM (ev (aa db hw)) ?_ ?_
     ·exact⟨⟨⟨_,rfl⟩,q2.out,oM⟩,dE,λ_ h=>h.elim⟩
     refine qq ?_;exact⟨_,rfl⟩
    | true=>
     have hs1:dk Yc (.keyed (pk r).2.1) (.ok (x0,r0))=.ok (.keyed (pk r).2.1 x0,r0.tail):=by
      unfold dk;dsimp only;rw[if_pos hcl]
      try rfl
     have hw:=pd (q:=q) (op:=op+1) (op' := op) hcl;unfold Yc at hw;rw[hs1,fu];refine wR (dU q r0 op) (aa db hw) ?_ ?_
     ·exact⟨⟨⟨_,rfl⟩,q2.out,oM⟩,dE,λ_ h=>h.elim⟩
     refine vR Γ0 (bw db hg0.parts hv0) ?_;refine wZ (aa db hv0) ?_;exact kv (.keyed _ _ _ hg0) rfl ((ev (aa db @aq))) dE
 have n4:¬ eU r R4=true:=by
  have:eU r R4=false:=hc;rw[this];simp
 clear hc;refine wR (dU q r op) db ?_ ?_
 ·exact⟨dE,⟨_,rfl⟩,qo⟩
 refine wC db (λhc=>?_) (λhc=>?_)
 ·have hb:eU r Ew=true:=hc;clear hc;have hE:eV mo r=e9 mo r Ew λex r' => dk Ej id (ex r'):=by unfold eV;rw[if_neg n0,if_neg n1,if_neg n2,if_neg n3,if_neg n4,if_pos hb]
  rw[hE];cases mo with
  |none=>
   have ho64:=hm0 rfl;subst ho64;have hE2:e9 none r Ew (λex r' => dk Ej id (ex r'))=.error (23,(pk r).2.1):=by unfold e9;rw[if_pos hb]
   have hen:=Bc (q:=q) hb;unfold Ew at hen;rw[hE2,bm];refine Wp.bn (dU q r 64) aM (ev (aa db hen)) ?_ ?_
   ·exact⟨⟨⟨_,rfl⟩,qo⟩,dE,λ_ h=>h.elim⟩
   refine qq ?_;exact⟨_,rfl⟩
  | some ex=>
   obtain⟨hop2,hT,hA⟩:=hm1 ex rfl;have hE2:e9 (some ex) r Ew (λex r' => dk Ej id (ex r'))=dk Ej id (ex r.tail):=by unfold e9;rw[if_pos hb]
   have hen:=GO (q:=q) hb hop2;unfold Ew at hen;have hnx:=Left.next hq.2.2 (gY hb)
   have q1:q.st w (bF (af w S fp) fp) r.tail:=⟨q0.1,hnx.2.1.trans q0.2.1,hnx.1⟩;rw[hE2];refine wR (dU q r op) (aa db hen) ?_ ?_
   ·exact⟨⟨⟨_,rfl⟩,qo,hop⟩,dE,λ_ h=>h.elim⟩
   cases hF:ex r.tail with
   |error e=>
    obtain⟨c,j⟩:=e;have hs1:dk Ej id (.error (c,j))=.error (c,j):=rfl;rw[hs1,bm];refine Wp.bn (Ea (af w S fp) q r.tail (op+1) ex hA) aM (ev (aa db hF)) ?_ ?_
    ·exact⟨⟨q1,s0⟩,dE,λ_ h=>h.elim⟩
    refine qq ?_;exact⟨_,rfl⟩
   | ok p=>
    obtain⟨x0,r0⟩:=p;have hL:=hT _ hnx.1 _ _ hF;refine wR (Ea (af w S fp) q r.tail (op+1) ex hA) (aa db hF) ?_ ?_
    ·exact⟨⟨q1,s0⟩,dE,(λ_ h=>h.elim),u0⟩
    refine Wp.da 351 (ev db) (aY.refl _ _) λW1 bs1 cs hx1 hΦ=>?_
    obtain⟨v0,rfl,hg0,hv0⟩:=tO hΦ;have q2:q.st W1 (bF (af w S fp) bs1) r0:=⟨(q1.bU hx1.dW).1,hL.2.1.trans q1.2.1,hL.1⟩;cases hcl:eU r0 Ej with
    | false=>
     have hs1:dk Ej id (.ok (x0,r0))=.error (60,(pk r0).2.1):=by
      unfold dk;dsimp only;rw[if_neg (by rw[hcl];simp)]
     have hw:=tB (q:=q) (op:=op+1) (op' := op) hcl;unfold Ej at hw;rw[hs1,bm];refine Wp.bn (dU q r0 op) aM (ev (aa db hw)) ?_ ?_
     ·exact⟨⟨⟨_,rfl⟩,q2.out,oM⟩,dE,λ_ h=>h.elim⟩
     refine qq ?_;exact⟨_,rfl⟩
    | true=>
     have hs1:dk Ej id (.ok (x0,r0))=.ok (x0,r0.tail):=by
      unfold dk;dsimp only;rw[if_pos hcl]
      try rfl
     have hw:=pd (q:=q) (op:=op+1) (op' := op) hcl;unfold Ej at hw;rw[hs1,fu];refine wR (dU q r0 op) (aa db hw) ?_ ?_
     ·exact⟨⟨⟨_,rfl⟩,q2.out,oM⟩,dE,λ_ h=>h.elim⟩
     refine vR Γ0 (bw db hg0.parts hv0) ?_;refine wZ (aa db hv0) ?_;exact kv (hg0) rfl ((ev (aa db @aq))) dE
 have n5:¬ eU r Ew=true:=by
  have:eU r Ew=false:=hc;rw[this];simp
 clear hc;have hE:eV mo r=.error (60,(pk r).2.1):=by unfold eV;rw[if_neg n0,if_neg n1,if_neg n2,if_neg n3,if_neg n4,if_neg n5]
 rw[hE,bm];refine wK ?_;refine Wp.bn (dU q r op) aM (ev db) ?_ ?_
 ·exact⟨⟨⟨_,rfl⟩,qo⟩,dE,λ_ h=>h.elim⟩
 refine qq ?_;exact⟨_,rfl⟩
theorem EU:∀ m,m<=64->ov 212 [] (64-m) (eu m)
 |0,_=>EW 64 none ⟨Nat.le_refl _,λ_=>rfl,λex h=>by cases h⟩
 |m+1,h=>by
  refine EW (64-(m+1)) (some (gU (eu m))) ⟨oM,(λh=>by cases h),λex he=>?_⟩;cases he;refine⟨oM,oH (kE m) 5,?_⟩;rw[show 64-(m+1)+1=64-m by omega];exact Kg (64-m) (eu m) (kE m) (EU m oM)
theorem Ud:ov 115 [.int .i64 0] 0 (gU (eu 64)):=Kg 0 (eu 64) (kE 64) (EU 64 (Nat.le_refl _))
inductive Rb (W:World) (S:Nat->Prop):List Value->List (Nat×ByteArray×Ex)->Prop where
 |nil:Rb W S [] []
 |cons (a:Nat) (s:ByteArray) (v:Value) (x:Ex) (vs:List Value) (ds:List (Nat×ByteArray×Ex)):AJ W S v x->Rb W S vs ds->Rb W S (.int .i64 (a:Nat)::.string s::v::vs) ((a,s,x)::ds)
theorem Rb.mono{W W' : World}{S S' : Nat->Prop}{vs:List Value}{ds:List (Nat×ByteArray×Ex)}(h:Rb W S vs ds)(hs:aY W S W' S'):Rb W' S' vs ds:=by
 induction h with
 |nil=>exact .nil
 |cons a s v x vs ds h1 _ ih=>exact .cons a s v x vs ds (h1.mono hs) ih
theorem Rb.snoc{W:World}{S:Nat->Prop}{vs:List Value}{ds:List (Nat×ByteArray×Ex)}(h:Rb W S vs ds){a:Nat}{s:ByteArray}{v:Value}{x:Ex}(hx:AJ W S v x):Rb W S (vs++[.int .i64 (a:Nat),.string s,v]) (ds++[(a,s,x)]):=by
 induction h with
 |nil=>exact .cons _ _ _ _ _ _ hx .nil
 |cons a' s' v' x' vs' ds' h1 _ ih=>exact .cons _ _ _ _ _ _ h1 ih
theorem Rb.len{W:World}{S:Nat->Prop}{vs:List Value}{ds:List (Nat×ByteArray×Ex)}(h:Rb W S vs ds):vs.length=ds.length*3:=by
 induction h with
 |nil=>rfl
 |cons a s v x vs ds _ _ ih=>simp only[List.length_cons,ih];omega
def PmV(W:World)(S:Nat->Prop)(v:Value)(p:Pm):Prop:=∃ (b:Nat) (ao:Option Addr) (c:Nat) (vs:List Value) (u:Value),v=.pointer (some ⟨b,0,none⟩)/\XC W S b 0 (.slice ao p.1.length c)/\XC W S b 1 u/\(jN W S ao vs/\Rb W S vs p.1/\p.1.length<=c)/\AJ W S u p.2
theorem PmV.mono{W W' : World}{S S' : Nat->Prop}{v:Value}{p:Pm}(h:PmV W S v p)(hs:aY W S W' S'):PmV W' S' v p:=by
 obtain⟨b,ao,c,vs,u,h1,h2,h3,⟨h4,h5,h6⟩,h7⟩:=h;exact⟨b,ao,c,vs,u,h1,h2.mono hs,h3.mono hs,⟨h4.mono hs,h5.mono hs,h6⟩,h7.mono hs⟩
theorem PmV.hv{W:World}{S:Nat->Prop}{v:Value}{p:Pm}(h:PmV W S v p):hv v=v:=by
 obtain⟨b,ao,c,vs,u,rfl,_⟩:=h;rfl
def pmF(p:Pm):FK:=⟨λcs W S=>∃ v,cs=[v]/\PmV W S v p,λhs ⟨v,h1,h2⟩=>⟨v,h1,h2.mono hs⟩⟩
def ae7(q:Pb)(op:Nat):Except (Int×Nat) (Pm×List Tk)->GOut
 |.ok (x,r)=>.fact Sh.one (pmF x) (oR q r op)
 |.error (c,a)=>.pan (bb c (a:Nat)) (.pointer none)
theorem Sc(q:Pb)(op:Nat)(x:Pm)(r:List Tk):ae7 q op (.ok (x,r))=.fact Sh.one (pmF x) (oR q r op):=rfl
theorem iQ(q:Pb)(op:Nat)(c:Int)(a:Nat):ae7 q op (.error (c,a))=.pan (bb c (a:Nat)) (.pointer none):=rfl
structure PD where
 W:World
 bs:List Nat
 vs:List Value
 ds:List (Nat×ByteArray×Ex)
 r:List Tk
 n:Nat
def jh:=(ae @List.replicate_succ.{0} @List.replicate_zero.{0} @au @ab kQ kS Sz (ae SD SZ kU dc dd de df (ae dv dw dz dA eB eC eD (ae eE eF eG n8 oa ob oc (ae CT CU CV CW CX QB QC (ae QD QE nN nO nP nQ nR (ae CY CZ C0 C1 C2 C3 QI (ae QJ QK QL QM QN QO QP (ae uz uA uB uC uD uE uF (ae uG uH uI uJ qs qt qu (ae qv qw qx qy qz @gr @eR (ae @aV @aw @aD @aG @e8 @D3 @D4 (ae @D6 @D8 @D9 @D1 @D7 @D5 @Eb (ae @hJ.eq_1 @sF.eq_1 @xn.eq_1 @xo.eq_1 @fV.eq_1 @uV.eq_1 @oe.eq_1 (EP @pq @po @oR.eq_1 @tkU.eq_1 @yH.eq_1 @fu @bm)))))))))))))))
theorem aao(op:Nat)(ex:List Tk->PR)(hT:jR ex 1)(hA:ov 115 [.int .i64 0] op ex)(q:Pb)(r:List Tk)(u:Value)(fp:List Nat)(w:World)(S:Nat->Prop)(hq:q.st w S r)(hsy:fg w S)(ho:aW w u fp 143 (oR q r op))(hlt:∀ b∈fp,b<w.heap.size)(hS:∀ b∈fp,¬ S b) :
  Calls prog 68 (#[u]++#[]) w λe w' => vC w S u fp 143 e w' (ae7 q op (fW ex r.length [] r)):=by
 have u0:=af.up w S fp;have q0:=hq.bU (af.eQ w S fp hS);have s0:=hsy.mono (af.eQ w S fp hS);have hmax:=q0.1.2.2;generalize hR:fW ex r.length [] r=R;refine dm (nt:=66) S #[] [.tmp 2] (by show 2<=7;omega) ho hlt func68 rfl rfl rfl ?_;refine vR Γ0 jh ?_;refine vR Γ0 jh ?_;refine Wp.seq (Wp.block ?_)
 refine Wp.qI (λp:PD=>⟨20,ee [(0,.is (.own 0 0)),(3,.is (.own 4 0))],dP [(0,.cells 143 [.v (q.sl p.r),.v (.int .i64 (op:Nat))]),(4,.cells 79 [.hd 5,.v .nilIface]),(5,.row 134 3 p.ds.length (p.vs.map .v))]⟩)
  PD.W PD.bs (λp=>q.st p.W (bF (af w S fp) p.bs) p.r/\fg p.W (bF (af w S fp) p.bs)/\Rb p.W (bF (af w S fp) p.bs) p.vs p.ds/\(p.r.length<=p.n/\p.ds.length+p.r.length<=q.L.length)/\fW ex p.n p.ds p.r=R) (λp=>p.n) ⟨w,fp,[],[],r,r.length⟩ rfl rfl ?_ ⟨q0,s0,.nil,⟨Nat.le_refl _,by have:=q0.2.1.length_le;simpa using this⟩,hR⟩ ?_
 ·exact wM (λk=>if k=4 then .key 24 else if k=5 then .nil else .key k) jh
 rintro⟨W1,bs1,vs,ds,r1,n⟩ ⟨q1,s1,hd,⟨hn,hdl⟩,hR1⟩ hx1;simp only at q1 s1 hd hn hdl hR1 hx1;dsimp only;have u1:=u0.ext hx1;have hpos:=q1.2.2.pos;have hle:=q1.2.1.length_le;have hvl:=hd.len;obtain⟨n,rfl⟩:∃ m,n=m+1:=⟨n-1,oM⟩;rw[fW]at hR1;refine Wp.seq ?_;refine wR (dU q r1 op) jh ?_ ?_
 ·exact⟨⟨dE,q1.out⟩,λ_=>⟨dE,q1.out⟩⟩
 refine wC jh (λhc=>?_) (λhc=>?_)
 ·have hl:(pk r1).1=1/\(pk r1).2.2=gp:=by
   simp at hc;exact hc
  clear hc;rw[if_pos hl]at hR1;have hk:(pk r1).1≠0:=oM;have hnx:=Left.next q1.2.2 hk
  have q2:q.st W1 (bF (af w S fp) bs1) r1.tail:=⟨q1.1,hnx.2.1.trans q1.2.1,hnx.1⟩;refine wK ?_;refine Wp.block ?_;refine wR (dU q r1 op) jh ?_ ?_
  ·exact⟨⟨q1.out,hk⟩,dE,λ_ h=>h.elim⟩
  refine wR (dU q r1.tail op) jh ?_ ?_
  ·exact⟨dE,q2.out⟩
  refine Wp.seq ?_;refine vR (dU q r1.tail op) jh ?_;refine wC jh (λhc=>?_) (λhc=>?_)
  ·have hb:¬ (pk r1.tail).1=1\/¬ oq (pk r1.tail).2.2=0:=by
    simp at hc;exact hc
   rw[if_pos hb]at hR1;rw[<- hR1,iQ];refine Wp.dF (dU q r1.tail op) aM (ev jh) ?_ ?_
   ·exact⟨⟨⟨_,rfl⟩,q2.out⟩,dE,λ_ h=>h.elim⟩
   refine qq ?_;exact⟨_,rfl⟩
  have hb:¬ (¬ (pk r1.tail).1=1\/¬ oq (pk r1.tail).2.2=0):=by
   intro h;simp at hc;rcases h with h|h
   ·exact h hc.1
   ·exact h hc.2
  clear hc;rw[if_neg hb]at hR1;have hk2:(pk r1.tail).1≠0:=λh=>hb (.inl oM)
  have hnx2:=Left.next q2.2.2 hk2
  have q3:q.st W1 (bF (af w S fp) bs1) r1.tail.tail:=⟨q1.1,hnx2.2.1.trans q2.2.1,hnx2.1⟩;refine wK ?_;refine wR (dU q r1.tail op) jh ?_ ?_
  ·exact⟨⟨q2.out,hk2⟩,dE,λ_ h=>h.elim⟩
  cases hq1:eU r1.tail.tail zw with
  |false=>
   rw[if_pos hq1]at hR1;have hw:=tB (q:=q) (op:=op) (op' := op) hq1;unfold zw at hw;rw[<- hR1,iQ];refine Wp.bn (dU q r1.tail.tail op) aM (ev (aa jh hw)) ?_ ?_
   ·exact⟨⟨⟨_,rfl⟩,q3.out⟩,dE,λ_ h=>h.elim⟩
   refine qq ?_;exact⟨_,rfl⟩
  | true=>
   rw[if_neg (by rw[hq1];simp)]at hR1;have hw:=pd (q:=q) (op:=op) (op' := op) hq1;unfold zw at hw;have hnx3:=Left.next q3.2.2 (gY hq1)
   have q4:q.st W1 (bF (af w S fp) bs1) r1.tail.tail.tail:=⟨q1.1,hnx3.2.1.trans q3.2.1,hnx3.1⟩;refine wR (dU q r1.tail.tail op) (aa jh hw) ?_ ?_
   ·exact⟨⟨⟨_,rfl⟩,q3.out⟩,dE,λ_ h=>h.elim⟩
   cases hF:ex r1.tail.tail.tail with
   |error e=>
    obtain⟨c,j⟩:=e;rw[hF]at hR1;simp only at hR1;rw[<- hR1,iQ];refine Wp.Ic (Ea (af w S fp) q r1.tail.tail.tail op ex hA) aM (ev (aa jh hF)) rfl (by kernel_rfl) ?_ ?_
    ·exact⟨⟨⟨q4,s1⟩,dE,λ_ h=>h.elim⟩,by unfold maxLen;omega,oM⟩
    refine qq ?_;exact⟨_,rfl⟩
   | ok p=>
    obtain⟨y,r2⟩:=p;rw[hF]at hR1;simp only at hR1;have hL2:=hT _ hnx3.1 _ _ hF;refine kA (Ea (af w S fp) q r1.tail.tail.tail op ex hA) (aa jh hF) ?_ ?_
    ·exact⟨⟨⟨q4,s1⟩,dE,(λ_ h=>h.elim),u1⟩,by unfold maxLen;omega,oM⟩
    refine Wp.da 479 (ev jh) (aY.refl _ _) λW2 bs2 cs hx2 hΦ=>?_
    obtain⟨v0,rfl,hg0,hv0⟩:=tO hΦ;have q5:q.st W2 (bF (af w S fp) bs2) r2:=⟨(q4.bU hx2.dW).1,hL2.2.1.trans q4.2.1,hL2.1⟩;cases hq2:eU r2 xw with
    |false=>
     rw[if_pos hq2]at hR1;have hw2:=tB (q:=q) (op:=op) (op' := op) hq2;unfold xw at hw2;rw[<- hR1,iQ];refine Wp.dF (dU q r2 op) aM (ev (aa jh hw2)) ?_ ?_
     ·exact⟨⟨⟨_,rfl⟩,q5.out⟩,dE,λ_ h=>h.elim⟩
     refine qq ?_;exact⟨_,rfl⟩
    |true=>
     rw[if_neg (by rw[hq2];simp)]at hR1;have hw2:=pd (q:=q) (op:=op) (op' := op) hq2;unfold xw at hw2;have hnx4:=Left.next q5.2.2 (gY hq2)
     have q6:q.st W2 (bF (af w S fp) bs2) r2.tail:=⟨q5.1,hnx4.2.1.trans q5.2.1,hnx4.1⟩;refine wr (dU q r2 op) (aa jh hw2) ?_ ?_
     ·exact⟨⟨⟨_,rfl⟩,q5.out⟩,dE,λ_ h=>h.elim⟩
     have em:List.map SV.v vs++[.v (.int .i64 ((pk r1.tail).2.1:Nat)),.v (.string (pk r1.tail).2.2),.v v0]=List.map SV.v (vs++[.int .i64 ((pk r1.tail).2.1:Nat),.string (pk r1.tail).2.2,v0]):=by simp
     have el:(ds++[((pk r1.tail).2.1,(pk r1.tail).2.2,y)]).length=ds.length+1:=by simp
     have l1:=hnx.2.2;have l2:=hnx2.2.2;have l3:=hnx3.2.2;have l4:=hL2.2.2;have l5:=hnx4.2.2
     refine⟨⟨W2,bs2,vs++[.int .i64 ((pk r1.tail).2.1:Nat),.string (pk r1.tail).2.2,v0],ds++[((pk r1.tail).2.1,(pk r1.tail).2.2,y)],r2.tail,n⟩,⟨q6,s1.mono hx2.dW,(hd.mono hx2.dW).snoc hg0,⟨by dsimp only;omega,by dsimp only;rw[el];omega⟩,hR1⟩,by dsimp only;omega,rfl,rfl,?_⟩
     exact wM (λk=>if k=5 then .key 496 else .key k) (fJ jh hv0 em el)
 have hl:¬ ((pk r1).1=1/\(pk r1).2.2=gp):=by
  intro h;simp at hc;exact hc h.1 h.2
 clear hc;rw[if_neg hl]at hR1;refine wE ?_;cases hF:ex r1 with
 |error e=>
  obtain⟨c,j⟩:=e;rw[hF]at hR1;simp only at hR1;rw[<- hR1,iQ];refine Wp.bn (Ea (af w S fp) q r1 op ex hA) aM (ev (aa jh hF)) ?_ ?_
  ·exact⟨⟨q1,s1⟩,dE,λ_ h=>h.elim⟩
  refine qq ?_;exact⟨_,rfl⟩
 | ok p=>
  obtain⟨y,r2⟩:=p;rw[hF]at hR1;simp only at hR1;have hL2:=hT _ q1.2.2 _ _ hF;refine wR (Ea (af w S fp) q r1 op ex hA) (aa jh hF) ?_ ?_
  ·exact⟨⟨q1,s1⟩,dE,(λ_ h=>h.elim),u1⟩
  refine Wp.da 263 (ev jh) (aY.refl _ _) λW2 bs2 cs hx2 hΦ=>?_
  obtain⟨v0,rfl,hg0,hv0⟩:=tO hΦ;have q5:q.st W2 (bF (af w S fp) bs2) r2:=⟨(q1.bU hx2.dW).1,hL2.2.1.trans q1.2.1,hL2.1⟩;refine Wp.seq ?_;refine wR (dU q r2 op) jh ?_ ?_
  ·exact⟨dE,q5.out⟩
  refine wC jh (λhc=>?_) (λhc=>?_)
  ·have hz:¬ (pk r2).1=0:=by simpa using hc
   rw[if_neg hz]at hR1;rw[<- hR1,iQ];refine Wp.dF (dU q r2 op) aM (ev jh) ?_ ?_
   ·exact⟨⟨⟨_,rfl⟩,q5.out⟩,dE,λ_ h=>h.elim⟩
   refine qq ?_;exact⟨_,rfl⟩
  have hz:(pk r2).1=0:=by simpa using hc
  rw[if_pos hz]at hR1;rw[<- hR1,Sc];refine wK ?_;have u2:=u1.ext hx2;refine Wp.zT 5 (ev (bw jh @aS hv0)) (λE=>by simp only[ai,den,aS,hv0];exact rfl) λW3 bs3 ao3 c3 hx3 hs3 hd3=>?_
  have u3:=u2.ext hx3;refine Wp.cS 4 (ev (aa jh hv0)) (λE=>by simp only[ai,den,hv0];exact rfl) λW4 bs4 b4 hx4 hb4 hn4 hc4=>?_
  refine vR Γ0 jh ?_;refine wZ jh ?_;have hx24:=hx2.trans (hx3.trans hx4);have hS3:jN W4 (bF (af w S fp) bs4) ao3 vs:=(hs3.out λb hb=>⟨u2 b hb.2,hb.1⟩).mono hx4.dW;have x0:XC W4 (bF (af w S fp) bs4) b4 0 (.slice ao3 ds.length c3):=⟨⟨u3 b4 hn4,hb4⟩,cell_of hc4 0 sI⟩
  have x1:XC W4 (bF (af w S fp) bs4) b4 1 v0:=⟨⟨u3 b4 hn4,hb4⟩,cell_of hc4 1 sI⟩;refine⟨⟨[_],λE=>rfl,_,rfl,b4,ao3,c3,vs,v0,rfl,x0,x1,⟨hS3,hd.mono hx24.dW,hd3⟩,hg0.mono (hx3.trans hx4).dW⟩,_,_,rfl,(ev (aa jh @aq)),dE⟩
theorem zk{P:Program}{fn:Func}{nt:Nat}{f:FuncId}{c:Code}{args:Array Value}{w:World}{out:FOut}(S:Nat->Prop)(hf:P.funcs[f]?=some fn)(hb:fn.body=some c)(hnt:args.size+(fn.ntmps-args.size)=nt)
  (h:iK P fn nt [] (λW' bs' x _=>Gq w S W' bs' x out) (λc _=>∃ v,out=.pan c v) w [] c (σ0 args.toList)):Calls P f args w λe w' => lh w S e w' out:=by
 refine (EX hf hb (tk args hnt) h).mono λe w' he=>?_
 cases e with
 | returned u=>
  obtain⟨W',bs',E,F,x,h,hx,hok,rfl,hs,_⟩:=he;cases out with
  |val v=>exact⟨by rw[hok E],hx.fF hs.keeps⟩
  |fact sh Φ=>
   obtain⟨cs,hd,hΦ⟩:=hok;exact⟨cs,by rw[hd E],Φ.mono (λb hb hr=>⟨hs.keeps.block b hb hr.2,hr.1⟩) hΦ,hx.fF hs.keeps⟩
  |pan c v=>exact hok.elim
 |panicked c=>
  obtain⟨W',bs',E,F,h',hx,⟨v,rfl⟩,hs,_⟩:=he;exact⟨rfl,hx.fF hs.keeps⟩
 |outgrown=>exact he.elim
theorem Ss(s:ByteArray):∀ (n i:Nat) (l:List Tk),i<=s.size->l.length<=i->(v8 s n i l).1.length<=s.size+1
 |0,i,l,hi,hl=>by
  show (l++[_]).length<=_;rw[List.length_append,List.length_singleton];omega
 | n+1,i,l,hi,hl=>by
  rw[v8];split
  ·rename_i hlt;split
   ·rename_i h0;have h1:=yK hlt h0;have h2:=sV h1.2;exact Ss s n _ _ h2.2 (by rw[List.length_append,List.length_singleton];omega)
   ·exact Nat.zero_le _
  ·show (l++[_]).length<=_;rw[List.length_append,List.length_singleton];omega
theorem LH(s:ByteArray):(bc s).1.length<=4097:=by
 unfold bc;split
 ·exact Nat.zero_le _
 ·have:=Ss s s.size (la s 0) [] (sV (Nat.zero_le _)).2 (Nat.zero_le _);omega
theorem LG(s:ByteArray):∀ (n i:Nat) (l:List Tk),(v8 s n i l).2.1=0->(v8 s n i l).2.2=0
 |0,i,l,h=>rfl
 | n+1,i,l,h=>by
  rw[v8]at h ⊢;split
  ·rename_i hi;rw[if_pos hi]at h;split
   ·rename_i h0;rw[if_pos h0]at h;exact LG s n _ _ h
   ·rename_i h0;rw[if_neg h0]at h;exact absurd h h0
  ·rfl
theorem V5{s:ByteArray}(h:(bc s).2.1=0):(bc s).2.2=0:=by
 unfold bc at h ⊢;split
 ·rfl
 ·rename_i h4;rw[if_neg h4]at h;exact LG s _ _ _ h
def Sh.pf:Sh:=⟨λk=>.tup [.part k 0,.agg [.part k 1,.part k 2,.part k 3]],λ_ _=>rfl,λk j hj=>by simpa [SV.keys,ay] using hj⟩
theorem OV{v:Value}(h:hv v=v):Sh.pf.val [v,.int .i64 0,.int .i64 0,.string ⟨#[]⟩]=.tuple #[v,pg 0 0 ⟨#[]⟩]:=by
 show Value.tuple #[hv v,.agg #[.int .i64 0,.int .i64 0,.string ⟨#[]⟩]]=_;rw[h];rfl
def al2(p:Pm):FK:=⟨λcs W S=>∃ v,cs=[v,.int .i64 0,.int .i64 0,.string ⟨#[]⟩]/\PmV W S v p,λhs ⟨v,h1,h2⟩=>⟨v,h1,h2.mono hs⟩⟩
def afP:Except (Int×Nat) Pm->FOut
 |.ok p=>.fact Sh.pf (al2 p)
 |.error (c,a)=>.val (.tuple #[.pointer none,pg c (a:Nat) ⟨#[]⟩])
theorem Ii(p:Pm):afP (.ok p)=.fact Sh.pf (al2 p):=rfl
theorem pM(c:Int)(a:Nat):afP (.error (c,a))=.val (.tuple #[.pointer none,pg c (a:Nat) ⟨#[]⟩]):=rfl
def aan(q:Pb)(r:List Tk):u5 prog 68 where
 T:=143
 kinds:=[]
 pre:=λfs bs_ W S=>(fs=oR q r 0/\bs_=[])/\q.st W S r/\fg W S
 premono:=λfs bs_ W S W' S' hs ⟨h1,h2,h3⟩=>⟨h1,h2.bU hs,h3.mono hs⟩
 out:=λ_ _=>ae7 q 0 (fW (gU (eu 64)) r.length [] r)
 enters:=call68
 ok:=by
  intro w S u fp us fs bs_ ho hlt hS hu hp;obtain⟨⟨rfl,rfl⟩,h1,h2⟩:=hp
  match us,hu with
  |[],_=>exact aao 0 _ (oH (kE 64) 5) Ud q r u fp w S h1 h2 ho hlt hS
section
variable (s:ByteArray)(G:Nat->Prop)(q:Pb)(r:List Tk)
noncomputable def Xe:Env prog:=⟨λ| 66=>some ((Qt s).spec [])|_=>none,λ| 39=>some qP|_=>none,λ_ _=>none⟩
noncomputable def akQ:Env prog:=⟨λ| 68=>some ((aan q r).spec G)|_=>none,λ| 39=>some qP|_=>none,λ_ _=>none⟩
theorem agE:(Xe s).sp 66=some ((Qt s).spec []):=rfl
theorem Xf:(Xe s).eqs 39=some qP:=rfl
theorem agG:(akQ G q r).sp 68=some ((aan q r).spec G):=rfl
end
def kF:=(ae @List.replicate_succ.{0} @List.replicate_zero.{0} @au @ab kQ kS Sz (ae SD SZ dv dw dz dA eB (ae eC eD eE eF eG Jh Ji (ae Jj Jk uK uL uM uN uO (ae uP uQ uR uS uT CT CU (ae CV CW CX CY CZ C0 C1 (ae C2 C3 Iz IA IB IC akx (ae aky uz uA uB uC uD uE (ae uF uG uH uI uJ qs qt (ae qu qv qw qx qy qz @aV (ae @aw @aD @aG @e8 @Zu @zD.eq_1 @jP.eq_1 (ae @jP.eq_2 @kb.eq_1 @kb.eq_2 @kb.eq_3 @kb.eq_4 @kb.eq_5 @kb.eq_6 (ae @kb.eq_7 @kb.eq_8 @rF.eq_1 @rF.eq_2 @iX.eq_1 @iX.eq_2 @lg.eq_1 (ae @lg.eq_2 @ij.eq_1 @ij.eq_2 @ij.eq_3 @ij.eq_4 @xv.eq_1 @mp.eq_1 (ae @gu @xU @tY @ua @agE @Xf @agG (ae @Qt.eq_1 @aan.eq_1 @Sc @iQ @Ep.eq_1 @zF.eq_1 @pg.eq_1 (sK @σR.eq_1 @σL.eq_1 @l6.eq_1 @l6.eq_2 @rE.eq_1 @rE.eq_2)))))))))))))))))
noncomputable def adW:CatchC prog 67 where
 Ts:=[72,39]
 enters:=call67
 pre:=λvss pv=>(∃ a f g h,vss=[[a],[f,g,h]])/\∃ c i t,pv=.iface 39 (pg c i t)
 out:=λvss pv=>[[.pointer none],match pv with|.iface _ (.agg x)=>x.toList|_=>[]]
 pc:=λvss pv=>[.pointer none,match pv with|.iface _ x=>x|_=>undef]
 vals_ok:=by
  rintro vss pv ⟨_,c,i,t,rfl⟩
  refine⟨.inr ⟨by simp only[iO,Op.operands,Value.cells,σ0,σB,Nat.reduceEqDiff,Nat.reduceAdd,Nat.reduceMul,Nat.reduceLT,Nat.reduceLeDiff,Nat.reduceBEq,av,Int.reduceToNat,Int.reduceLT,Int.reduceLE,Nat.reduceDiv,Nat.reduceMod,Nat.reduceSub,Int.reducePow,Nat.reducePow,σP,σB3,kF],rfl⟩,.inl ⟨by simp only[iO,Op.operands,Value.cells,σ0,σB,Nat.reduceEqDiff,Nat.reduceAdd,Nat.reduceMul,Nat.reduceLT,Nat.reduceLeDiff,Nat.reduceBEq,av,Int.reduceToNat,Int.reduceLT,Int.reduceLE,Nat.reduceDiv,Nat.reduceMod,Nat.reduceSub,Int.reducePow,Nat.reducePow,σP,σB3,kF]<;>rfl,by simp only[iO,Op.operands,Value.cells,σ0,σB,Nat.reduceEqDiff,Nat.reduceAdd,Nat.reduceMul,Nat.reduceLT,Nat.reduceLeDiff,Nat.reduceBEq,av,Int.reduceToNat,Int.reduceLT,Int.reduceLE,Nat.reduceDiv,Nat.reduceMod,Nat.reduceSub,Int.reducePow,Nat.reducePow,σP,σB3,kF],rfl⟩,trivial⟩
 quiet:=λw us hl=>by
  match us,hl with
  | [u0,u1],_=>
   refine lz (nt:=8) w _ func67 rfl rfl oM oM rfl ?_;refine vR Γ0 kF ?_;refine wC kF (λhc=>?_) (λhc=>?_)
   ·simp at hc
   ·refine wK ?_;simp only[iO,Op.operands,Value.cells,σ0,σB,Nat.reduceEqDiff,Nat.reduceAdd,Nat.reduceMul,Nat.reduceLT,Nat.reduceLeDiff,Nat.reduceBEq,av,Int.reduceToNat,Int.reduceLT,Int.reduceLE,Nat.reduceDiv,Nat.reduceMod,Nat.reduceSub,Int.reducePow,Nat.reducePow,σP,σB3,nf,gf,kB,iJ,kF]
    done
 caught:=λw us bl vss pv hl hn hlt hp=>by
  obtain⟨⟨a,f,g,h,rfl⟩,k,i,t,rfl⟩:=hp;have h3:=hl.len.1;refine kq (nt:=8) func67 rfl rfl oM oM ?_ hl hn hlt ?_ ?_
  ·rw[h3];rfl
  ·rw[h3];decide
  intro us _;refine vR Γ0 kF ?_;refine wC kF (λhc=>?_) (λhc=>?_)
  ·skip;refine vrD Γ0 (aa kF @pg.eq_1) ?_;refine wS kF ?_;exact⟨rfl,rfl,trivial⟩
  ·cases hc
theorem afQ(s:ByteArray)(w:World)(S:Nat->Prop)(hs:s.size<=9223372036854775807)(hg:fg w S) :
  Calls prog 28 #[.string s] w λe w' => lh w S e w' (afP (lH s)):=by
 have u0:=aE.up w S;have s0:=hg.mono (aE.eQ w S);have hlen:=LH s;refine zk (nt:=22) S func28 rfl rfl ?_;refine iK.seq' (rs:=[.cell 2 72,.cell 3 39]) rfl ?_;refine vr Γ0 kF ?_;refine iK.seq' (rs:=[.cell 2 72,.cell 3 39]) rfl ?_;by_cases h0:(bc s).2.1=0
 rotate_left
 ·have he:lH s=.error ((bc s).2.1,(bc s).2.2):=by rw[lH,if_neg h0]
  have hd0:decide ((bc s).2.1=0)=false:=decide_eq_false h0;rw[he,pM];refine wr (Xe s) kF ?_ ?_
  ·exact⟨dE,hs⟩
  refine iK.seq' (rs:=[.cell 2 72,.cell 3 39]) rfl ?_;refine vR (Xe s) (aa kF hd0) ?_;refine wC kF (λhc=>?_) (λhc=>?_)
  ·skip;refine yY Γ0 kF ?_;refine wZ kF ?_;exact λE=>rfl
  ·exact absurd hc sI
 ·have hE:=aaQ h0;have hz:=V5 h0;have he:lH s=match fW (gU (eu 64)) (bc s).1.length [] (bc s).1 with
    |.error e=>.error e
    |.ok (p,_)=>.ok p:=by rw[lH,if_pos h0];all_goals rfl
  rw[he];generalize hL:(bc s).1=L at *;refine wr (Xe s) (qE kF h0 hz hL @Int.natCast_zero) ?_ ?_
  ·exact⟨dE,hs⟩
  refine iK.seq' (rs:=[.cell 2 72,.cell 3 39]) rfl ?_;refine Wp.zT 24 (ev (aa kF @aS)) (λE=>by simp only[ai,den,aS];exact rfl) λW1 bs1 ao c hx1 hs1 hd1=>?_
  have u1:=u0.ext hx1;have hS1:jN W1 (bF (aE w S) bs1) ao (xx L):=hs1.out λb hb=>⟨u0 b hb.2,hb.1⟩
  obtain⟨b,o,rfl⟩:∃ b o,ao=some ⟨b,o,none⟩:=by
   rcases hS1 with h|⟨b,o,rfl,_⟩
   ·have:=wD L;rw[h]at this;have:=hE.pos;simp at *;omega
   ·exact⟨b,o,rfl⟩
  have hq:(Pb.mk b o c L).st W1 (bF (aE w S) bs1) L:=⟨⟨hS1,hd1,by dsimp only;omega⟩,List.suffix_refl _,hE⟩;have hsl:(Pb.mk b o c L).sl L=.slice (some ⟨b,o,none⟩) L.length c:=by
   unfold Pb.sl Pb.at;simp
  refine vR (Xe s) kF ?_;refine wC kF (λhc=>?_) (λhc=>?_)
  ·exact absurd hc sI
  refine wK ?_;refine iK.GJ (rs:=[.cell 2 72,.cell 3 39]) rfl adW [2,3] [0,8] rfl dE rfl dE rfl rfl ?_ ?_ λus hus=>?_
  ·rintro p hp;simp only[List.zip_cons_cons,List.zip_nil_right,List.mem_cons,List.not_mem_nil,or_false]at hp;rcases hp with rfl|rfl<;>rfl
  ·rintro k hk;simp only[List.mem_cons,List.not_mem_nil,or_false]at hk;rcases hk with rfl|rfl<;>exact⟨_,_,rfl⟩
  refine vR Γ0 kF ?_
  match us,hus with
  |[u0',u1'],_=>
  have s1:=s0.mono hx1.dW;have hfs:[AV.val (.slice (some ⟨b,o,none⟩) L.length c),AV.val (.int .i64 0)]=oR (Pb.mk b o c L) L 0:=by
   unfold oR;rw[hsl];rfl
  cases hF:fW (gU (eu 64)) L.length [] L with
  |error e=>
   obtain⟨e,j⟩:=e;simp only;rw[pM];refine Wp.bn (akQ (aE w S) (Pb.mk b o c L) L) aM (ev (aa kF hF)) ?_ ?_
   ·exact⟨⟨hfs,hq,s1⟩,dE,λ_ h=>h.elim⟩
   refine qq ?_;refine wS kF ?_;refine⟨.iface 39 (pg e j ⟨#[]⟩),[[.pointer none],[.int .i64 0,.int .i64 0,.string ⟨#[]⟩]],rfl,⟨?_,?_,?_,?_,trivial⟩,⟨⟨_,_,_,_,rfl⟩,e,j,⟨#[]⟩,rfl⟩,λE=>rfl⟩
   all_goals rfl
  |ok p=>
   obtain⟨p,r2⟩:=p;simp only;rw[Ii];refine wR (akQ (aE w S) (Pb.mk b o c L) L) (bw kF hF @oR.eq_1) ?_ ?_
   ·exact⟨⟨hfs,hq,s1⟩,dE,(λ_ h=>h.elim),u1⟩
   refine Wp.da 159 (ev kF) (aY.refl _ _) λW2 bs2 cs hx2 hΦ=>?_
   obtain⟨v,rfl,hv⟩:=hΦ;have hvv:LE.hv v=v:=hv.hv;refine wZ (aa kF hvv) ?_;exact⟨[v,.int .i64 0,.int .i64 0,.string ⟨#[]⟩],λE=>(OV hvv).symm,v,rfl,hv⟩
def WA(s:ByteArray):lQ prog 28 where
 kinds:=[none]
 pre:=λas_ W S=>as_=[.val (.string s)]/\s.size<=9223372036854775807/\fg W S
 premono:=λas_ W S W' S' hs h=>⟨h.1,h.2.1,h.2.2.mono hs⟩
 out:=λ_=>afP (lH s)
 enters:=call28
 ok:=by
  intro w S us as_ hu hp;obtain⟨rfl,h1,h2⟩:=hp
  match us,hu with
  |[u],hu=>
   obtain⟨rfl,_⟩:=hu;exact afQ s w S h1 h2
section
variable (p:ByteArray)(h2:p.size<=2)(v:Nat)(hv:ajG p=some (v:Int))
end
def xz(W:World)(S:Nat->Prop):Prop:=(AO W S/\bh W S)/\ng W S/\AK W S
theorem xz.mono{W W' : World}{S S' : Nat->Prop}(h:xz W S)(hs:aY W S W' S'):xz W' S' := ⟨⟨h.1.1.mono hs,h.1.2.mono hs⟩,h.2.1.mono hs,h.2.2.mono hs⟩
theorem xz.fR{W w:World}{bs fp:List Nat}(h:xz W (Out bs))(hk:LE.an W bs w)(hm:∀ b∈fp,W.heap.size<=b\/b∈bs):xz w (Out fp):=
 h.mono λb hb hs=>⟨hk.block b hb hs,λhb' => (hm b hb').elim (λg=>absurd g (Nat.not_le.2 hb)) hs⟩
def Az:a7 prog 38 where
 pre:=λW bs as_=>∃ s,as_=[.val (.string s)]/\s.size<=16777216
 res:=λ_ as_=>match as_ with
  |[.val (.string s)]=>.string (eO s)
  |_=>undef
 enters:=call38
 ok:=by
  intro W w bs us as_ hk hu hp;obtain⟨s,rfl,h1⟩:=hp
  match us,hu with
  |[x],hu=>
   obtain⟨rfl,_⟩:=hu;exact VK s h1 w
theorem Lr(W:World)(bs:List Nat)(s:ByteArray):Az.pre W bs [.val (.string s)]=(s.size<=16777216):=
 propext ⟨λ⟨s',h,h2⟩=>by
  cases h
  exact h2,λh=>⟨s,rfl,h⟩⟩
theorem Lt(W:World)(s:ByteArray):Az.res W [.val (.string s)]=.string (eO s):=rfl
section
variable (p:ByteArray)(h2:p.size<=2)(v:Nat)(hv:ajG p=some (v:Int))(hn:ajG p=none)(ev:Value)
end
end
end Go.Proofs.YtnemkecffmdlnaaGreatDoor
namespace Go.LE
section
open Go.RowKit
section
variable {P:Program}(Γ:Env P){W:World}{bs:List Nat}{κ:Nat}{h:Hp}
theorem zN(T:TypeId)(l:List SV):dY Γ W bs κ h (.makeMap T none) l=kg κ l:=rfl
theorem pK(T:TypeId)(x y:Operand)(ok:Bool)(l:List SV):dY Γ W bs κ h (.lookup T x y ok) l=jd P h T ok l:=rfl
theorem EG(T:TypeId)(x y z:Operand)(l:List SV):dY Γ W bs κ h (.mapUpdate T x y z) l=ek P h T l:=rfl
theorem P5(T:TypeId)(x y z:Operand)(l:List SV):dY Γ W bs κ h (.insert T x y z) l=ek P h T l:=rfl
end
section
variable {P:Program}{W:World}{bs:List Nat}{κ:Nat}{h:Hp}
theorem rU:kg κ []=⟨True,.hd (8*κ),[(8*κ,some (.mp [] []))],none,[],[]⟩:=rfl
theorem lG(T:TypeId)(ok:Bool)(k:Nat)(s:ByteArray):jd P h T ok [.hd k,.v (.string s)]=lkM P k ok s (Hb P (P.underlying T)) (h k):=rfl
theorem BM(kt et:TypeId):Hb P (some (.map kt et))=aeK et (P.underlying kt):=rfl
theorem BL(et:TypeId):aeK et (some .string)=some et:=rfl
theorem G6(k:Nat)(ok:Bool)(s:ByteArray)(et:TypeId)(ks:List ByteArray)(vs:List SV):lkM P k ok s (some et) (some (.mp ks vs))=lkE k ok (BH ks vs s) (qZ P et):=rfl
theorem vO(k:Nat)(ok:Bool)(o:Option SV)(z:Value):lkE k ok o (some z)=⟨True,Xq ok z o,[],none,[],[k]⟩:=rfl
theorem G7(z:Value)(x:SV):Xq true z (some x)=.tup [x,.v (.bool true)]:=rfl
theorem Oy(z:Value):Xq true z none=.tup [.v z,.v (.bool false)]:=rfl
theorem wg(T:TypeId)(k:Nat)(s:ByteArray)(x:SV):ek P h T [.hd k,.v (.string s),x]=upM k s x (Hb P (P.underlying T)) (h k):=rfl
theorem ab6(k:Nat)(s:ByteArray)(x:SV)(et:TypeId)(ks:List ByteArray)(vs:List SV):upM k s x (some et) (some (.mp ks vs))=⟨s∉ks,.v undef,[(k,some (.mp (ks++[s]) (vs++[x])))],none,[],[k]⟩:=rfl
theorem cj(k:Nat)(ks:List ByteArray)(us:List SV):fH k (some (.mp ks us))=(cT us).map λvs=>(.mp ks vs,[k]):=rfl
theorem vY(k:Nat)(ks:List ByteArray)(vs:List Value)(r:List AV):bg k (.mp ks vs::r)=(k,.mp ks (vs.map .v))::bg (k+1) r:=rfl
theorem sR(k:Nat)(ks:List ByteArray)(vs:List Value)(r:List AV):aO k (.mp ks vs::r)=.hd k::aO (k+1) r:=rfl
theorem eP(k:Nat)(u:Value)(ks:List ByteArray)(vs:List SV):Xs k u (.mp ks vs)=.mp ks (v7 k u vs):=rfl
theorem AA(m:Nat->Src)(ks:List ByteArray)(vs:List SV):ij m (.mp ks vs)=.mp ks (jP m vs):=rfl
theorem pA :
  (∀ (T:TypeId) (r:Option Operand),cD (.makeMap T r)=false) /\
  (∀ (T:TypeId) (x y:Operand) (ok:Bool),cD (.lookup T x y ok)=false) /\
  (∀ (T:TypeId) (x y z:Operand),cD (.mapUpdate T x y z)=false) /\
  (∀ (T:TypeId) (x y z:Operand),cD (.insert T x y z)=false):=by
 refine⟨?_,?_,?_,?_⟩<;>(intros;rfl)
theorem kx(T:TypeId):(Op.makeMap T none).operands=#[]:=rfl
theorem lE(T:TypeId)(x y:Operand)(ok:Bool):(Op.lookup T x y ok).operands=#[x,y]:=rfl
theorem Ab(T:TypeId)(x y z:Operand):(Op.mapUpdate T x y z).operands=#[x,y,z]:=rfl
theorem lD(T:TypeId)(x y z:Operand):(Op.insert T x y z).operands=#[x,y,z]:=rfl
end
end
end Go.LE
namespace Go.Proofs.YtnemkecffmdlnaaGreatDoor
section
open Go.RowKit Go.LE Go.Proofs.Tryz
inductive Cn where
 |nil
 |mk (at_:Nat) (op:ByteArray) (n:Option Rx) (to bk:ByteArray) (a b:Cn)
inductive Ln where
 |nil
 |mk (at_:Nat) (op:ByteArray) (n:Option Rx) (tx:ByteArray) (q:Cn) (a b:Ln)
inductive Tm where
 |text (at_:Nat) (s:ByteArray)
 |rx (at_:Nat) (r:Rx)
 |canon (c:Cn)
 |lens (l:Ln)
def jz:ByteArray:=⟨#[110,111,114,109]⟩
def lY:ByteArray:=⟨#[105,110,115]⟩
def RE:ByteArray:=⟨#[105,100]⟩
def qG:ByteArray:=⟨#[102,111,108,100]⟩
def gA:ByteArray:=⟨#[115,116,97,114]⟩
def jt:ByteArray:=⟨#[99,111,112,121]⟩
def Aa:ByteArray:=⟨#[107,101,121]⟩
def GK:ByteArray:=⟨#[100,101,108]⟩
def iP:ByteArray:=⟨#[107,101,121,101,100]⟩
def vJ:ByteArray:=⟨#[108,101,102,116]⟩
def pH:ByteArray:=⟨#[114,105,103,104,116]⟩
def vn:ByteArray:=⟨#[100,101,102,97,117,108,116]⟩
def xC:ByteArray:=⟨#[97,108,116]⟩
def xM:ByteArray:=⟨#[99,97,116]⟩
def L6:ByteArray:=⟨#[115,119,97,112]⟩
def A8:ByteArray:=⟨#[99,104,97,105,110]⟩
def Sy:ByteArray:=⟨#[116,101,120,116]⟩
def Hz:ByteArray:=⟨#[114,101,103,101,120]⟩
def mU(s:ByteArray):Nat:=max 1 (2*s.size-1)
def dZ:Option Rx->Nat
 |none=>0
 |some r=>bR r
def ed:Cn->Nat
 |.nil=>0
 |.mk _ op n to _ a b=>1+dZ n+ed a+ed b+(if op=jz then mU to else 0)
def iz:Ln->Nat
 |.nil=>0
 |.mk _ op n tx q a b=>1+dZ n+ed q+iz a+iz b+(if op=lY then mU tx else 0)
def cq:Tm->Nat
 |.text _ s=>mU s
 |.rx _ r=>bR r
 |.canon c=>ed c
 |.lens l=>iz l
def aa1:ByteArray:=⟨#[47]⟩
def atB:ByteArray:=⟨#[64]⟩
def aj8:ByteArray:=⟨#[40]⟩
def ajg:ByteArray:=⟨#[41]⟩
def J3:ByteArray:=⟨#[44]⟩
def dS:Option Rx->ByteArray
 |none=>aa1++⟨#[91,93]⟩++aa1
 |some r=>aa1++cX r++aa1
def cY(l:List ByteArray):ByteArray:=⟨(Lib.join (l.map (·.data.toList)) J3.data.toList).toArray⟩
def cR(a:Nat)(w:ByteArray)(l:List ByteArray):ByteArray:=w++atB++OH (a:Nat)++aj8++cY l++ajg
def mN:Cn->ByteArray
 |.nil=>⟨#[]⟩
 |.mk a op n to bk x y=>
  if op=RE\/op=qG then cR a op [dS n]
  else if op=jz then cR a op [dS n,eO to,eO bk]
  else if op=gA then cR a op [mN x]
  else cR a op [mN x,mN y]
def hY:Ln->ByteArray
 |.nil=>⟨#[]⟩
 |.mk a op n tx q x y=>
  if op=jt\/op=Aa then cR a op [dS n]
  else if op=GK then cR a op [dS n,eO tx]
  else if op=lY then cR a op [eO tx]
  else if op=gA\/op=iP then cR a op [hY x]
  else if op=vJ then cR a op [mN q,hY x]
  else if op=pH then cR a op [hY x,mN q]
  else if op=vn then cR a op [hY x,eO tx]
  else cR a op [hY x,hY y]
def uY:Tm->ByteArray
 |.text a s=>cR a Sy [eO s]
 |.rx a r=>cR a Hz [dS (some r)]
 |.canon c=>mN c
 |.lens l=>hY l
def atT:Tm->Nat
 |.text a _=>a
 |.rx a _=>a
 |.canon (.mk a ..)=>a
 |.lens (.mk a ..)=>a
 |_=>0
def kdT:Tm->Nat
 |.text ..=>1
 |.rx ..=>2
 |.canon _=>3
 |.lens _=>4
def alT(s:ByteArray)(i:Nat):Rx:=.cls (Vj (s.extract i (i+1)) 1)
def qO(s:ByteArray):Nat->Rx
 |0=>.eps
 |1=>alT s 0
 |n+2=>.cat (qO s (n+1)) (alT s (n+1))
def L8(s:ByteArray):Rx:=qO s s.size
def xF:Tm->Option Rx
 |.text _ s=>some (L8 s)
 |.rx _ r=>some r
 |_=>none
abbrev TE:=Except (Int×Int) Tm
def gW(a:Nat):TE:=.error (72,(a:Nat))
def Gh(a:Nat)(op:ByteArray)(t:Tm):TE:=match xF t with
 |some n=>.ok (.rx a (if op=mf then .star n else if op=Ae then .cat n (.star n) else .alt n .eps))
 |none=>match t with
  |.canon c=>if op=mf then .ok (.canon (.mk a gA none ⟨#[]⟩ ⟨#[]⟩ c .nil)) else gW a
  | .lens l=>.ok (.lens (if op=mf then .mk a gA none ⟨#[]⟩ .nil l .nil
    else if op=Ae then .mk a xM none ⟨#[]⟩ .nil l (.mk a gA none ⟨#[]⟩ .nil l .nil)
    else .mk a xC none ⟨#[]⟩ .nil l (.mk a jt (some .eps) ⟨#[]⟩ .nil .nil .nil)))
  |_=>gW a
def Nw:ByteArray:=⟨#[124]⟩
def N4:ByteArray:=⟨#[46]⟩
def XI:ByteArray:=⟨#[38]⟩
def ZA:ByteArray:=⟨#[45]⟩
def al5:ByteArray:=⟨#[126]⟩
def alo:ByteArray:=⟨#[62,62]⟩
def Hk(op:ByteArray):Nat:=if op=Nw then 1 else if op=N4 then 2 else if op=al5 then 3 else if op=alo then 4 else 0
def Vp:Nat->ByteArray
 |1=>xC
 |2=>xM
 |3=>L6
 |4=>A8
 |_=>⟨#[]⟩
def V2(op:ByteArray)(x y:Rx):Option Rx:=if op=Nw then some (.alt x y) else if op=N4 then some (.cat x y) else if op=XI then some (.and x y) else if op=ZA then some (.minus x y) else none
def re(a:Nat)(op:ByteArray):Tm->Tm->TE
 |.lens p,.lens q=>if 0<Hk op then .ok (.lens (.mk a (Vp (Hk op)) none ⟨#[]⟩ .nil p q)) else gW a
 |.canon p,.canon q=>if Hk op=1\/Hk op=2 then .ok (.canon (.mk a (Vp (Hk op)) none ⟨#[]⟩ ⟨#[]⟩ p q)) else gW a
 |_,_=>gW a
def X0(a:Nat)(op:ByteArray)(t u:Tm):TE:=match xF t,xF u with
 |some x,some y=>match V2 op x y with
  |some r=>.ok (.rx a r)
  |none=>re a op t u
 |_,_=>re a op t u
def KQ(ts:List Tm)(ps:List Nat)(i:Nat):Except (Int×Int) Rx:=match (ts[i]?).bind xF with
 |some r=>.ok r
 |none=>.error (72,((ps.getD i 0:Nat)))
def EI(ts:List Tm)(ps:List Nat)(i:Nat):Except (Int×Int) ByteArray:=match ts[i]? with
 |some (.text _ s)=>.ok s
 |_=>.error (72,((ps.getD i 0:Nat)))
def Nc(ts:List Tm)(ps:List Nat)(i:Nat):Except (Int×Int) Cn:=match ts[i]? with
 |some (.canon c)=>.ok c
 |_=>.error (72,((ps.getD i 0:Nat)))
def Jr(ts:List Tm)(ps:List Nat)(i:Nat):Except (Int×Int) Ln:=match ts[i]? with
 |some (.lens l)=>.ok l
 |_=>.error (72,((ps.getD i 0:Nat)))
def cc{α:Type}(x:Except (Int×Int) α)(f:α->TE):TE:=match x with
 |.error e=>.error e
 |.ok a=>f a
def br(a:Nat)(w:ByteArray)(ts:List Tm)(ps:List Nat):TE:=
 if w=RE\/w=qG then cc (KQ ts ps 0) λn=>.ok (.canon (.mk a w (some n) ⟨#[]⟩ ⟨#[]⟩ .nil .nil))
 else if w=jz then cc (KQ ts ps 0) λn=>cc (EI ts ps 1) λs=>cc (EI ts ps 2) λt=>.ok (.canon (.mk a w (some n) s t .nil .nil))
 else if w=GK then cc (KQ ts ps 0) λn=>cc (EI ts ps 1) λs=>.ok (.lens (.mk a w (some n) s .nil .nil .nil))
 else if w=lY then cc (EI ts ps 0) λs=>.ok (.lens (.mk a w none s .nil .nil .nil))
 else if w=jt\/w=Aa then cc (KQ ts ps 0) λn=>.ok (.lens (.mk a w (some n) ⟨#[]⟩ .nil .nil .nil))
 else if w=vJ then cc (Nc ts ps 0) λc=>cc (Jr ts ps 1) λl=>.ok (.lens (.mk a w none ⟨#[]⟩ c l .nil))
 else if w=pH then cc (Jr ts ps 0) λl=>cc (Nc ts ps 1) λc=>.ok (.lens (.mk a w none ⟨#[]⟩ c l .nil))
 else if w=vn then cc (Jr ts ps 0) λl=>cc (EI ts ps 1) λs=>.ok (.lens (.mk a w none s .nil l .nil))
 else .ok (.lens (.mk a w none ⟨#[]⟩ .nil .nil .nil))
def lS(a:Nat)(t:Tm):TE:=if 2000<cq t then .error (24,(a:Nat)) else .ok t
def Uc:Ex->Nat
 |.name a _=>a
 |.text a _=>a
 |.rx a _=>a
 |.call a _ _=>a
 |.keyed a _=>a
 |.unary a _ _=>a
 |.binary a _ _ _=>a
 |_=>0
def cB:Ex->List Nat
 |.cons x l=>Uc x::cB l
 |_=>[]
abbrev En:=List (ByteArray×Tm)
def Fo:En->ByteArray->Option Tm
 |[],_=>none
 |(k,t)::r,s=>if k=s then some t else Fo r s
def G3(a:Nat):Tm->TE
 |.lens l=>.ok (.lens (.mk a iP none ⟨#[]⟩ .nil l .nil))
 |_=>gW a
mutual
def aP(v:En):Ex->TE
 |.name a s=>match Fo v s with
  |some t=>.ok t
  |none=>.error (70,(a:Nat))
 |.text a s=>.ok (.text a s)
 |.rx a s=>match rQ s with
  |.ok r=>.ok (.rx a r)
  |.error (c,j)=>.error (c,IntKind.i64.wrap ((a:Nat)+1+j))
 |.keyed a x=>cc (aP v x) λt=>cc (G3 a t) (lS a)
 |.unary a op x=>cc (aP v x) λt=>cc (Gh a op t) (lS a)
 |.binary a op x y=>cc (aP v x) λt=>cc (aP v y) λu=>cc (X0 a op t u) (lS a)
 |.call a w l=>match ig v l with
  |.error e=>.error e
  |.ok ts=>cc (br a w ts (cB l)) (lS a)
 |.nil=>.error (0,0)
 |.cons _ _=>.error (0,0)
def ig(v:En):Ex->Except (Int×Int) (List Tm)
 | .cons x l=>match aP v x with
  |.error e=>.error e
  |.ok t=>match ig v l with
   |.error e=>.error e
   |.ok ts=>.ok (t::ts)
 |_=>.ok []
end
def rl:En->List (Nat×ByteArray×Ex)->Except (Int×Int) En
 |v,[]=>.ok v
 | v,(a,s,x)::r=>match Fo v s with
  |some _=>.error (71,(a:Nat))
  |none=>match aP v x with
   |.error e=>.error e
   |.ok t=>rl (v++[(s,t)]) r
def rm(p:Pm):TE:=match rl [] p.1 with
 |.error e=>.error e
 |.ok v=>aP v p.2
def gF(s:ByteArray):TE:=match lH s with
 |.error (c,a)=>.error (c,(a:Nat))
 |.ok p=>rm p
end
section
open Go Go.RowKit Go.LE
set_option maxRecDepth 10000
theorem Zy{P:Program}{t:TypeId}{name:String}{f:FuncId}{i:TypeInfo}{m:Method}{d:TypeDesc}{b:Bool}(hi:P.info? t=some i)(hm:i.methods.find? (·.name == name)=some m)(hp:m.path=#[])(hf:m.func=some (f,b))
  (hd:P.underlying t=some d) (hb:b=match d with|.pointer _=>true|_=>false) (n:Nat) (v:Value) (w:World) :
  (method (n+1) t v name).run P w=.ok (f,v) w:=by
 subst hb;simp only[method,Sem.run_bind,typeInfo];simp[hi,hm,hp,hf,follow,receiverAt,run_underlying hd];cases d<;>simp[Place.get]
def Zx(P:Program)(t:TypeId)(name:String):Option (FuncId×Bool):=match P.info? t with
 | some i=>match i.methods.find? (·.name == name) with
  |some m=>match m.path.isEmpty,m.func with
   |true,some x=>some x
   |_,_=>none
  |none=>none
 |none=>none
def akb:Option TypeDesc->Option Bool
 |some (.pointer _)=>some true
 |some _=>some false
 |none=>none
theorem U8{P:Program}{t:TypeId}{name:String}{f:FuncId}{b:Bool}(hq:Zx P t name=some (f,b))(hd:akb (P.underlying t)=some b)(v:Value)(w:World) :
  (method (P.types.size+Made.depth) t v name).run P w=.ok (f,v) w:=by
 unfold Zx at hq;split at hq
 ·rename_i i hi;split at hq
  ·rename_i m hm;split at hq
   ·rename_i x hp hf;cases hq;cases hu:P.underlying t with
    |none=>rw[hu]at hd;cases hd
    |some d=>
     rw[hu]at hd;have:Made.depth=(Made.depth-1)+1:=rfl;rw[this,<- Nat.add_assoc];refine Zy hi hm (by simpa using hp) hf hu ?_ _ v w;cases d<;>simp[akb]at hd<;>simp[hd]
   ·cases hq
  ·cases hq
 ·cases hq
def b7{P:Program}{t:TypeId}{name:String}(f:FuncId)(b:Bool)(hq:Zx P t name=some (f,b))(hd:akb (P.underlying t)=some b):MethSpec P t name:=⟨f,U8 hq hd⟩
def alG:MethSpec Tryz.prog 279 "Size":=b7 311 false (by kernel_rfl) (by kernel_rfl)
def alH:MethSpec Tryz.prog 281 "Size":=b7 314 false (by kernel_rfl) (by kernel_rfl)
def alI:MethSpec Tryz.prog 283 "Size":=b7 316 false (by kernel_rfl) (by kernel_rfl)
def alJ:MethSpec Tryz.prog 284 "Size":=b7 318 false (by kernel_rfl) (by kernel_rfl)
def alK:MethSpec Tryz.prog 285 "Size":=b7 320 false (by kernel_rfl) (by kernel_rfl)
def alL:MethSpec Tryz.prog 286 "Size":=b7 322 false (by kernel_rfl) (by kernel_rfl)
def alM:MethSpec Tryz.prog 311 "Size":=b7 324 false (by kernel_rfl) (by kernel_rfl)
def fnS:TypeId->Option FuncId
 |279=>some 311
 |281=>some 314
 |283=>some 316
 |284=>some 318
 |285=>some 320
 |286=>some 322
 |311=>some 324
 |_=>none
abbrev Nl (n:Nat):Prop:=∀ (r:Rx) (t:TypeId) (x:Value) (f:FuncId),ax r=.iface t x->fnS t=some f->bR r<n->bR r<=1152921504606846976->∀ w:World,Calls Tryz.prog f #[x] w λe w' => e=.returned (.int .i64 (bR r))/\an w [] w'
noncomputable def EH(t:TypeId)(f:FuncId)(he:∀ args w,(callFunc f args).run Tryz.prog w=.ok (.enter f args) w)(hf:fnS t=some f)(n:Nat)(h:Nl n):a7 Tryz.prog f where
 pre:=λW bs as_=>∃ (r:Rx) (x:Value),ax r=.iface t x/\as_=[.val x]/\bR r<n/\bR r<=1152921504606846976
 res:=λ_ as_=>match as_ with
  |[.val x]=>(match dec ax (.iface t x) with
   |some r=>.int .i64 (bR r)
   |_=>undef)
  |_=>undef
 enters:=he
 ok:=by
  intro W w bs us as_ hk hu hp;obtain⟨r,x,h0,rfl,h1,h2⟩:=hp
  match us,hu with
  |[y],hu=>
   obtain⟨rfl,_⟩:=hu;simp only[<- h0,bW ba];exact h r t _ f h0 hf h1 h2 w
section
variable (n:Nat)(h:Nl n)
noncomputable def spS:(f:FuncId)->Option (LE.Spec Tryz.prog f)
 |311=>some (EH 279 311 Tryz.call311 rfl n h).spec
 |314=>some (EH 281 314 Tryz.call314 rfl n h).spec
 |316=>some (EH 283 316 Tryz.call316 rfl n h).spec
 |318=>some (EH 284 318 Tryz.call318 rfl n h).spec
 |320=>some (EH 285 320 Tryz.call320 rfl n h).spec
 |322=>some (EH 286 322 Tryz.call322 rfl n h).spec
 |324=>some (EH 311 324 Tryz.call324 rfl n h).spec
 |_=>none
def ZO:(t:TypeId)->(name:String)->Option (MethSpec Tryz.prog t name)
 |279, "Size"=>some alG
 |281, "Size"=>some alH
 |283, "Size"=>some alI
 |284, "Size"=>some alJ
 |285, "Size"=>some alK
 |286, "Size"=>some alL
 |311, "Size"=>some alM
 |_,_=>none
end
theorem Bv{Γ:Env Tryz.prog}{W:World}{bs:List Nat}{κ:Nat}{hh:Hp}(n:Nat)(h:Nl n)(hm:Γ.mt=ZO)(hs:∀ t f,fnS t=some f->Γ.sp f=spS n h f)(r:Rx) :
  aI Γ W bs κ hh "Size" [.v (ax r)]=⟨bR r<n/\bR r<=1152921504606846976,.v (.int .i64 (bR r)),[],none,[],[]⟩:=by
 have key:∀ (t:TypeId) (f:FuncId) (he:∀ args w,(callFunc f args).run Tryz.prog w=.ok (.enter f args) w) (hf:fnS t=some f) (x:Value),ax r=.iface t x ->
   (EH t f he hf n h).spec.ev W bs κ hh [.v x]=⟨bR r<n/\bR r<=1152921504606846976,.v (.int .i64 (bR r)),[],none,[],[]⟩:=λt f he hf x hx=>by
  have h1:(EH t f he hf n h).pre W bs [.val x]=(bR r<n/\bR r<=1152921504606846976):=by
   apply propext;constructor
   ·rintro⟨r',x',g1,g2,g3⟩;cases g2;obtain rfl:=ba _ _ (hx.trans g1.symm);exact g3
   ·exact λg=>⟨r,x,hx,rfl,g⟩
  have h2:(EH t f he hf n h).res W [.val x]=.int .i64 (bR r):=by
   show (match dec ax (.iface t x) with|some r=>Value.int .i64 (bR r)|_=>undef)=_;rw[<- hx,bW ba]
  rw[aD];show FG _ _ W bs (some ([.val x],[]))=_;rw[Ci,h1,h2]
 cases r with
 |eps=>simp only[ax,aI,hm,ZO,alI,b7,fc,hs 283 316 rfl,spS];exact key 283 316 _ rfl _ rfl
 |cls S=>simp only[ax,aI,hm,ZO,alM,b7,fc,hs 311 324 rfl,spS];exact key 311 324 _ rfl _ rfl
 |cat a b=>simp only[ax,aI,hm,ZO,alH,b7,fc,hs 281 314 rfl,spS];exact key 281 314 _ rfl _ rfl
 |alt a b=>simp only[ax,aI,hm,ZO,alJ,b7,fc,hs 284 318 rfl,spS];exact key 284 318 _ rfl _ rfl
 |star a=>simp only[ax,aI,hm,ZO,alG,b7,fc,hs 279 311 rfl,spS];exact key 279 311 _ rfl _ rfl
 |and a b=>simp only[ax,aI,hm,ZO,alK,b7,fc,hs 285 320 rfl,spS];exact key 285 320 _ rfl _ rfl
 |minus a b=>simp only[ax,aI,hm,ZO,alL,b7,fc,hs 286 322 rfl,spS];exact key 286 322 _ rfl _ rfl
theorem Bf{eqs:(T:TypeId)->Option (EqSpec Tryz.prog T)}{hh:Hp}(T:TypeId)(X Y:Operand)(r:Rx):bL Tryz.prog eqs hh .eql T X Y [.v (ax r),.v .nilIface]=⟨isIface Tryz.prog T=some true,.v (.bool false),[],none,[],[]⟩:=by
 cases r<;>rfl
def Tz:=(ae @List.replicate_succ.{0} @List.replicate_zero.{0} @au @ab kQ kS kU (ae dc dd de df dv dw dz (ae dA iA iB iC iD Mi Mj (ae Mk Ml Mm Mn Mp Mq DC (ae DD DE DF DG DH DI DJ (ae DK DL DM DN DO DP DQ (ae DR F5 F6 F7 F8 F9 Ga (ae Gb Gc Gd Mr Mt Mu Mv (ae Mw Mx My Mz MA MB MC (ae MD ME MF MG MH MJ MK (ae SE SF SG SH SI SJ SK (ae SL @aV @aw @aD @aG @Bf @aL (bw @fy @dr @cO)))))))))))))
theorem abj(r:Rx)(w:World):Calls Tryz.prog 312 #[ax r] w λe w' => e=.returned (ax r)/\an w [] w' := by
 refine ak (nt:=8) [.tmp 2] Tryz.func312 rfl rfl rfl ?_;refine vR Γ0 Tz ?_;refine Wp.seq ?_;refine vR Γ0 Tz ?_;refine wC Tz (λhc=>?_) (λhc=>?_)
 ·cases hc
 ·refine wK ?_;refine vR Γ0 Tz ?_;refine wZ Tz ?_;exact λE=>rfl
noncomputable def FX:a7 Tryz.prog 312 where
 pre:=λW bs=>λ| [.val y0]=>(match dec ax y0 with|some r=>True|_=>False)|_=>False
 res:=λW=>λ| [.val y0]=>(match dec ax y0 with|some r=>ax r|_=>undef)|_=>undef
 enters:=Tryz.call312
 ok:=by
  intro W w bs us as_ hk hu hp;split at hp
  ·rename_i y0;split at hp
   ·rename_i r h0
    match us,hu with
    |[u0],hu=>
     obtain⟨rfl,_⟩:=hu;obtain rfl:=gi h0
     try dsimp only
     try simp only[bW ba]
     exact abj r w
   ·exact hp.elim
  ·exact hp.elim
theorem Wz(W:World)(r:Rx):FX.res W [.val (ax r)]=ax r:=by simp only[FX,bW ba]
theorem Wy(W:World)(bs:List Nat)(r:Rx):FX.pre W bs [.val (ax r)]=(True):=by simp only[FX,bW ba]
section
variable (n:Nat)(h:Nl n)
noncomputable def Q7:Env Tryz.prog:=⟨λ| 312=>some FX.spec|f=>spS n h f,λ_=>none,ZO⟩
theorem acW:(Q7 n h).sp 312=some FX.spec:=rfl
theorem acX{W:World}{bs:List Nat}{κ:Nat}{hh:Hp}(r:Rx):aI (Q7 n h) W bs κ hh "Size" [.v (ax r)]=⟨bR r<n/\bR r<=1152921504606846976,.v (.int .i64 (bR r)),[],none,[],[]⟩:=
 Bv n h rfl (λt f hf=>by
  unfold fnS at hf
  split at hf<;>cases hf<;>rfl) r
end
def nE:=(qE Tz Wz Wy @acW @acX)
theorem OC(n:Nat)(h:Nl n):Nl (n+1):=by
 intro r t x f hr hf hlt hsz w;cases r with
 |eps=>
  cases hr;cases hf;refine ak (nt:=3) [.tmp 2] Tryz.func316 rfl rfl rfl ?_;refine vR Γ0 nE ?_;refine vR Γ0 nE ?_;refine wZ nE ?_;exact λE=>rfl
 |cls S=>
  cases hr;cases hf;refine ak (nt:=3) [.tmp 2] Tryz.func324 rfl rfl rfl ?_;refine vR Γ0 nE ?_;refine vR Γ0 nE ?_;refine wZ nE ?_;exact λE=>rfl
 |cat a b=>
  cases hr;cases hf;simp only[bR]at hlt hsz;refine ak (nt:=13) [.tmp 2] Tryz.func314 rfl rfl rfl ?_;refine vR Γ0 nE ?_;refine yY (Q7 n h) (aa nE @aA) ?_;refine wZ nE ?_;refine λE=>?_
  simp only[den,bR];have:=vZ a;rw[aA (n:=1+(bR a:Int)) oM oM]
  try rw[aA oM oM]
  congr 1
  omega
 |alt a b=>
  cases hr;cases hf;simp only[bR]at hlt hsz;refine ak (nt:=13) [.tmp 2] Tryz.func318 rfl rfl rfl ?_;refine vR Γ0 nE ?_;refine yY (Q7 n h) (aa nE @aA) ?_;refine wZ nE ?_;refine λE=>?_
  simp only[den,bR];have:=vZ a;rw[aA (n:=1+(bR a:Int)) oM oM]
  try rw[aA oM oM]
  congr 1
  omega
 |and a b=>
  cases hr;cases hf;simp only[bR]at hlt hsz;refine ak (nt:=13) [.tmp 2] Tryz.func320 rfl rfl rfl ?_;refine vR Γ0 nE ?_;refine yY (Q7 n h) (aa nE @aA) ?_;refine wZ nE ?_;refine λE=>?_
  simp only[den,bR];have:=vZ a;rw[aA (n:=1+(bR a:Int)) oM oM]
  try rw[aA oM oM]
  congr 1
  omega
 |minus a b=>
  cases hr;cases hf;simp only[bR]at hlt hsz;refine ak (nt:=13) [.tmp 2] Tryz.func322 rfl rfl rfl ?_;refine vR Γ0 nE ?_;refine yY (Q7 n h) (aa nE @aA) ?_;refine wZ nE ?_;refine λE=>?_
  simp only[den,bR];have:=vZ a;rw[aA (n:=1+(bR a:Int)) oM oM]
  try rw[aA oM oM]
  congr 1
  omega
 |star a=>
  cases hr;cases hf;simp only[bR]at hlt hsz;refine ak (nt:=8) [.tmp 2] Tryz.func311 rfl rfl rfl ?_;refine vR Γ0 nE ?_;refine vR (Q7 n h) (aa nE @aA) ?_;refine wZ nE ?_;refine λE=>?_
  simp only[den,bR];have:=vZ a;rw[aA (n:=1+(bR a:Int)) oM oM]
  try rw[aA oM oM]
  congr 1
  omega
theorem oK:∀ n,Nl n
 |0=>λr t x f _ _ h=>absurd h (Nat.not_lt_zero _)
 |n+1=>OC n (oK n)
end
end Go.Proofs.YtnemkecffmdlnaaGreatDoor
